/- The functions of this seat, as they compute on plain values. Printed by lift2.py. -/
import Derived.Test.YtnedkcnafnfdlaaE29
import Derived.Test.YtnedkcnafnfdlaaC2
import Derived.Test.YtnedkcnafnfdlaaRows
namespace Go.Proofs.Ytnedkcnafnfdlaa
set_option maxRecDepth 100000
set_option linter.unusedVariables false
/-! sip_word : 112 -/
def cbbabaa_sip_word : CC := (.seq (.reg [⟨(some 9), false, none, .bin .lss (.tmp 8) (.tmp 7)⟩])
 (.seq (.cond (.tmp 9)
 .skip
 (.seq (.mask [false, false, false, true, false, false, false, false, false, false, false, false, false, false, false, false, false, false, false, false, false, false] [true, true, true, true, false, false, true, true, true, true, true, true, true, true, true, true, true, true, true, true, true, true])
 (.exit 0)))
 (.seq (.block 1 (.seq (.reg [⟨(some 10), false, none, .move (.tmp 8) false⟩,
   ⟨(some 11), false, none, .indexAddrS 1 (.tmp 6) (.tmp 8)⟩,
   ⟨(some 12), false, none, .load false 1 (.tmp 11) false⟩,
   ⟨(some 4), false, none, .move (.tmp 10) false⟩,
   ⟨(some 5), false, none, .move (.tmp 12) false⟩])
 (.reg [⟨(some 13), false, none, .move (.tmp 3) false⟩,
   ⟨(some 14), false, none, .move (.tmp 5) false⟩,
   ⟨(some 15), false, none, .conv .u64 (.tmp 14)⟩,
   ⟨(some 16), false, none, .move (.tmp 4) false⟩,
   ⟨(some 17), false, none, .bin .mul (.const (.sc (.int .i64 8))) (.tmp 16)⟩,
   ⟨(some 18), false, none, .bin .shl (.tmp 15) (.tmp 17)⟩,
   ⟨(some 19), false, none, .bin .or (.tmp 13) (.tmp 18)⟩,
   ⟨(some 3), false, none, .move (.tmp 19) false⟩])))
 (.reg [⟨(some 20), false, none, .bin .add (.tmp 8) (.const (.sc (.int .i64 1)))⟩,
   ⟨(some 8), false, none, .move (.tmp 20) false⟩]))))
def cbbb_sip_word : CC := (.seq (.reg [⟨(some 21), false, none, .move (.tmp 3) false⟩,
   ⟨(some 2), false, none, .move (.tmp 21) false⟩])
 .ret)
def cf_sip_word : CF := ⟨22, [.tmp 2],
 (.seq (.reg [⟨(some 2), false, none, .move (.const (.sc (.int .u64 0))) false⟩])
 (.seq (.reg [⟨(some 3), false, none, .move (.const (.sc (.int .u64 0))) false⟩])
 (.seq (.seq (.reg [⟨(some 6), false, none, .move (.tmp 0) true⟩,
   ⟨(some 7), false, none, .lenS (.tmp 6)⟩,
   ⟨(some 8), false, none, .move (.const (.sc (.int .i64 0))) false⟩])
 (.block 0 (.loop [false, false, false, true, false, false, true, true, true, false, false, false, false, false, false, false, false, false, false, false, false, false] [true, true, true, true, false, false, true, true, true, true, true, true, true, true, true, true, true, true, true, true, true, true]
 cbbabaa_sip_word)))
 cbbb_sip_word)))⟩
def hint_sip_word : Hint := ⟨[(2, 0)], [], [none, some ([false, false, false, true, false, false, true, true, true, false, false, false, false, false, false, false, false, false, false, false, false, false], [true, true, true, true, false, false, true, true, true, true, true, true, true, true, true, true, true, true, true, true, true, true]), none, some ([false, false, false, true, false, false, false, false, false, false, false, false, false, false, false, false, false, false, false, false, false, false], [true, true, true, true, false, false, true, true, true, true, true, true, true, true, true, true, true, true, true, true, true, true]), none, none], []⟩
def sh_sip_word : Nat → Sh := shOf [(12, (.int .u8))]
def cb_sip_word (L : Nat) : CBC := noC
def mbbaba_sip_word : St → St := mask [false, false, false, true, false, false, true, true, true, false, false, false, false, false, false, false, false, false, false, false, false, false] [true, true, true, true, false, false, true, true, true, true, true, true, true, true, true, true, true, true, true, true, true, true]
def st_hbbaba_sip_word (p3 : Int) (p6 : List (List V)) (p7 : Int) (p8 : Int) : St := ⟨[.junk, .junk, .junk, (V.sc (.int .u64 p3)), .junk, .junk, (V.sl 1 p6), (V.sc (.int .i64 p7)), (V.sc (.int .i64 p8)), .junk, .junk, .junk, .junk, .junk, .junk, .junk, .junk, .junk, .junk, .junk, .junk, .junk], [.gone, .gone, .gone, .gone, .gone, .gone, .gone, .gone, .gone, .gone, .gone, .gone, .gone, .gone, .gone, .gone, .gone, .gone, .gone, .gone, .gone, .gone]⟩
def st_x0_sip_word (p3 : Int) : St := ⟨[.junk, .junk, .junk, (V.sc (.int .u64 p3)), .junk, .junk, .junk, .junk, .junk, .junk, .junk, .junk, .junk, .junk, .junk, .junk, .junk, .junk, .junk, .junk, .junk, .junk], [.gone, .gone, .gone, .gone, .gone, .gone, .gone, .gone, .gone, .gone, .gone, .gone, .gone, .gone, .gone, .gone, .gone, .gone, .gone, .gone, .gone, .gone]⟩
def e_sip_word {β : Type} (L : Nat) (p0 : List (List V)) (k_hbbaba : Int → List (List V) → Int → Int → Option β) : Option β :=
 k_hbbaba (0 : Int) p0 ((List.length p0 : Nat) : Int) (0 : Int)
theorem e_sip_word_ok {β : Type} (L : Nat) (p0 : List (List V)) (k : V → Bor → Option β) : funC sh_sip_word (cb_sip_word L) L cf_sip_word [(V.sl 1 p0)] [] k = e_sip_word L p0 (fun p3 p6 p7 p8 => loopM (runC sh_sip_word (cb_sip_word L) 0 L cbbabaa_sip_word) mbbaba_sip_word L (st_hbbaba_sip_word p3 p6 p7 p8) (blockK 0 (seqK (runC sh_sip_word (cb_sip_word L) 0 L cbbb_sip_word) (finK 0 (CF.res cf_sip_word) k)))) := by kernel_rfl
def bbbaba_sip_word {β : Type} (L : Nat) (p3 : Int) (p6 : List (List V)) (p7 : Int) (p8 : Int) (k_hbbaba : Int → List (List V) → Int → Int → Option β) (k_x0 : Int → Option β) : Option β :=
 ifb (decide (p8 < p7)) (
 idx p6 p8 fun c0 =>
 cI .u8 c0 0 fun v1 =>
 lt (IntKind.wrap .u64 v1) fun x2 =>
 lt (IntKind.wrap .i64 (((8 : Int) : Int) * p8)) fun x3 =>
 chk (0 ≤ x3) (
 lt (ishl .u64 x2 x3) fun x4 =>
 lt (ior .u64 p3 x4) fun x5 =>
 lt (IntKind.wrap .i64 ((p8 : Int) + (1 : Int))) fun x6 =>
 k_hbbaba x5 p6 p7 x6)) (
 k_x0 p3)
theorem bbbaba_sip_word_ok {β : Type} (L : Nat) (p3 : Int) (p6 : List (List V)) (p7 : Int) (p8 : Int) (X : St → Option β) (K : KT β) : runC sh_sip_word (cb_sip_word L) 0 L cbbabaa_sip_word (st_hbbaba_sip_word p3 p6 p7 p8) (loopK mbbaba_sip_word X K) = bbbaba_sip_word L p3 p6 p7 p8 (fun p3 p6 p7 p8 => X (st_hbbaba_sip_word p3 p6 p7 p8)) (fun p3 => K (.exit 0) (st_x0_sip_word p3)) := by kernel_rfl
def rbbabax0_sip_word {β : Type} (L : Nat) (p3 : Int) (k_fin : Int → Option β) : Option β :=
 k_fin p3
theorem rbbabax0_sip_word_ok {β : Type} (L : Nat) (p3 : Int) (k : V → Bor → Option β) : (blockK 0 (seqK (runC sh_sip_word (cb_sip_word L) 0 L cbbb_sip_word) (finK 0 (CF.res cf_sip_word) k))) (.exit 0) (st_x0_sip_word p3) = rbbabax0_sip_word L p3 (fun p0 => k (V.sc (.int .u64 p0)) []) := by kernel_rfl
def lbbaba_sip_word {β : Type} (L : Nat) (k_x0 : Int → Option β) : Nat → Int → List (List V) → Int → Int → Option β
  | 0, _, _, _, _ => none
  | n + 1, p3, p6, p7, p8 => bbbaba_sip_word L p3 p6 p7 p8 (fun p3 p6 p7 p8 => lbbaba_sip_word L k_x0 n p3 p6 p7 p8) k_x0
theorem lbbaba_sip_word_ok {β : Type} (L : Nat) (K : KT β) : ∀ (n : Nat) (p3 : Int) (p6 : List (List V)) (p7 : Int) (p8 : Int), loopM (runC sh_sip_word (cb_sip_word L) 0 L cbbabaa_sip_word) mbbaba_sip_word n (st_hbbaba_sip_word p3 p6 p7 p8) K = lbbaba_sip_word L (fun p3 => K (.exit 0) (st_x0_sip_word p3)) n p3 p6 p7 p8 := by
  intro n
  induction n with
  | zero => intros; rfl
  | succ n ih =>
    intro p3 p6 p7 p8
    refine (bbbaba_sip_word_ok L p3 p6 p7 p8 (fun σ => loopM (runC sh_sip_word (cb_sip_word L) 0 L cbbabaa_sip_word) mbbaba_sip_word n σ K) K).trans ?_
    simp only [ih]
    rfl
def R_sip_word {β : Type} (L : Nat) (p0 : List (List V)) (k_fin : Int → Option β) : Option β :=
 e_sip_word L p0 (fun p3 p6 p7 p8 => lbbaba_sip_word L (fun p3 => rbbabax0_sip_word L p3 k_fin) L p3 p6 p7 p8)
theorem R_sip_word_ok {β : Type} (L : Nat) (p0 : List (List V)) (k : V → Bor → Option β) : funC sh_sip_word (cb_sip_word L) L cf_sip_word [(V.sl 1 p0)] [] k = R_sip_word L p0 (fun p0 => k (V.sc (.int .u64 p0)) []) := by
  refine (e_sip_word_ok L p0 k).trans ?_
  unfold R_sip_word
  simp only [lbbaba_sip_word_ok, rbbabax0_sip_word_ok]
def F_sip_word (β : Type) (L : Nat) (p0 : List (List V)) (k_fin : Int → Option β) : Option β := R_sip_word L p0 k_fin
def d_sip_word (F_sip_word : ∀ (β : Type), Nat → List (List V) → (Int → Option β) → Option β) (L : Nat) (β : Type) (args : List V) (bor : Bor) (k : V → Bor → Option β) : Option β := match args, bor with
  | [a0], [] => aL 1 a0 fun p0 => F_sip_word β L p0 (fun p0 => k (V.sc (.int .u64 p0)) [])
  | _, _ => none
theorem d_sip_word_ok (L : Nat) (β : Type) (args : List V) (bor : Bor) (k : V → Bor → Option β) (r : β) (h : d_sip_word F_sip_word L β args bor k = some r) : funC sh_sip_word (cb_sip_word L) L cf_sip_word args bor k = some r := by
  unfold d_sip_word at h
  split at h
  · have q := aL_inv h; clear h; obtain ⟨p0, rfl, h⟩ := q
    exact (R_sip_word_ok L p0 k).trans h
  · cases h
/-! math_bits_RotateLeft64 : 118 -/
def cf_math_bits_RotateLeft64 : CF := ⟨17, [.tmp 4],
 (.seq (.reg [⟨(some 4), false, none, .move (.const (.sc (.int .u64 0))) false⟩])
 (.seq (.reg [⟨(some 6), false, none, .move (.tmp 1) false⟩,
   ⟨(some 7), false, none, .conv .u64 (.tmp 6)⟩,
   ⟨(some 8), false, none, .bin .and (.tmp 7) (.const (.sc (.int .u64 63)))⟩,
   ⟨(some 5), false, none, .move (.tmp 8) false⟩])
 (.seq (.reg [⟨(some 9), false, none, .move (.tmp 0) false⟩,
   ⟨(some 10), false, none, .move (.tmp 5) false⟩,
   ⟨(some 11), false, none, .bin .shl (.tmp 9) (.tmp 10)⟩,
   ⟨(some 12), false, none, .move (.tmp 0) false⟩,
   ⟨(some 13), false, none, .move (.tmp 5) false⟩,
   ⟨(some 14), false, none, .bin .sub (.const (.sc (.int .u64 64))) (.tmp 13)⟩,
   ⟨(some 15), false, none, .bin .shr (.tmp 12) (.tmp 14)⟩,
   ⟨(some 16), false, none, .bin .or (.tmp 11) (.tmp 15)⟩,
   ⟨(some 4), false, none, .move (.tmp 16) false⟩])
 .ret)))⟩
def hint_math_bits_RotateLeft64 : Hint := ⟨[], [], [none], []⟩
def sh_math_bits_RotateLeft64 : Nat → Sh := shOf []
def cb_math_bits_RotateLeft64 (L : Nat) : CBC := noC
def R_math_bits_RotateLeft64 {β : Type} (L : Nat) (p0 : Int) (p1 : Int) (k_fin : Int → Option β) : Option β :=
 lt (IntKind.wrap .u64 p1) fun x0 =>
 lt (iand .u64 x0 (63 : Int)) fun x1 =>
 chk (0 ≤ x1) (
 lt (ishl .u64 p0 x1) fun x2 =>
 lt (IntKind.wrap .u64 (((64 : Int) : Int) - x1)) fun x3 =>
 chk (0 ≤ x3) (
 lt (ishr .u64 p0 x3) fun x4 =>
 lt (ior .u64 x2 x4) fun x5 =>
 k_fin x5))
theorem R_math_bits_RotateLeft64_ok {β : Type} (L : Nat) (p0 : Int) (p1 : Int) (k : V → Bor → Option β) : funC sh_math_bits_RotateLeft64 (cb_math_bits_RotateLeft64 L) L cf_math_bits_RotateLeft64 [(V.sc (.int .u64 p0)), (V.sc (.int .i64 p1))] [] k = R_math_bits_RotateLeft64 L p0 p1 (fun p0 => k (V.sc (.int .u64 p0)) []) := by kernel_rfl
def F_math_bits_RotateLeft64 (β : Type) (L : Nat) (p0 : Int) (p1 : Int) (k_fin : Int → Option β) : Option β := R_math_bits_RotateLeft64 L p0 p1 k_fin
def d_math_bits_RotateLeft64 (F_math_bits_RotateLeft64 : ∀ (β : Type), Nat → Int → Int → (Int → Option β) → Option β) (L : Nat) (β : Type) (args : List V) (bor : Bor) (k : V → Bor → Option β) : Option β := match args, bor with
  | [a0, a1], [] => aI .u64 a0 fun p0 => aI .i64 a1 fun p1 => F_math_bits_RotateLeft64 β L p0 p1 (fun p0 => k (V.sc (.int .u64 p0)) [])
  | _, _ => none
theorem d_math_bits_RotateLeft64_ok (L : Nat) (β : Type) (args : List V) (bor : Bor) (k : V → Bor → Option β) (r : β) (h : d_math_bits_RotateLeft64 F_math_bits_RotateLeft64 L β args bor k = some r) : funC sh_math_bits_RotateLeft64 (cb_math_bits_RotateLeft64 L) L cf_math_bits_RotateLeft64 args bor k = some r := by
  unfold d_math_bits_RotateLeft64 at h
  split at h
  · have q := aI_inv h; clear h; obtain ⟨p0, rfl, h⟩ := q
    have q := aI_inv h; clear h; obtain ⟨p1, rfl, h⟩ := q
    exact (R_math_bits_RotateLeft64_ok L p0 p1 k).trans h
  · cases h
/-! sip_rounds : 113 -/
def cbabaa_sip_rounds : CC := (.seq (.reg [⟨(some 7), false, none, .bin .lss (.tmp 6) (.tmp 5)⟩])
 (.seq (.cond (.tmp 7)
 .skip
 (.seq (.mask [false, false, true, false, true, false, false, false, false, false, false, false, false, false, false, false, false, false, false, false, false, false, false, false, false, false, false, false, false, false, false, false, false, false, false, false, false, false, false, false, false, false, false, false, false, false, false, false, false, false, false, false, false, false, false, false, false, false, false, false, false, false, false, false, false, false, false, false, false, false, false, false, false, false, false, false, false, false, false, false, false, false] [true, true, true, true, true, true, true, true, true, true, true, true, true, true, true, true, false, true, true, true, true, true, true, true, true, true, false, true, true, true, true, true, true, true, true, true, false, true, true, true, true, true, true, true, true, true, true, true, true, true, true, true, false, true, true, true, true, true, true, true, true, true, true, true, true, true, true, true, false, true, true, true, true, true, true, true, true, true, false, true, true, true])
 (.exit 0)))
 (.seq (.block 1 (.seq (.reg [⟨(some 8), false, none, .indexAddrA 4 1 (.tmp 2) (.const (.sc (.int .i64 0)))⟩,
   ⟨(some 9), false, none, .load false 1 (.tmp 8) false⟩,
   ⟨(some 10), false, none, .indexAddrA 4 1 (.tmp 2) (.const (.sc (.int .i64 1)))⟩,
   ⟨(some 11), false, none, .load false 1 (.tmp 10) false⟩,
   ⟨(some 12), false, none, .bin .add (.tmp 9) (.tmp 11)⟩,
   ⟨(some 13), false, none, .indexAddrA 4 1 (.tmp 2) (.const (.sc (.int .i64 0)))⟩,
   ⟨none, false, none, .store 1 (.tmp 13) (.tmp 12)⟩])
 (.seq (.reg [⟨(some 14), false, none, .indexAddrA 4 1 (.tmp 2) (.const (.sc (.int .i64 1)))⟩,
   ⟨(some 15), false, none, .load false 1 (.tmp 14) false⟩,
   ⟨(some 16), false, none, .call 118 [((.tmp 15), false), ((.const (.sc (.int .i64 13))), false)]⟩,
   ⟨(some 17), false, none, .indexAddrA 4 1 (.tmp 2) (.const (.sc (.int .i64 1)))⟩,
   ⟨none, false, none, .store 1 (.tmp 17) (.tmp 16)⟩])
 (.seq (.reg [⟨(some 18), false, none, .indexAddrA 4 1 (.tmp 2) (.const (.sc (.int .i64 1)))⟩,
   ⟨(some 19), false, none, .load false 1 (.tmp 18) false⟩,
   ⟨(some 20), false, none, .indexAddrA 4 1 (.tmp 2) (.const (.sc (.int .i64 0)))⟩,
   ⟨(some 21), false, none, .load false 1 (.tmp 20) false⟩,
   ⟨(some 22), false, none, .bin .xor (.tmp 19) (.tmp 21)⟩,
   ⟨(some 23), false, none, .indexAddrA 4 1 (.tmp 2) (.const (.sc (.int .i64 1)))⟩,
   ⟨none, false, none, .store 1 (.tmp 23) (.tmp 22)⟩])
 (.seq (.reg [⟨(some 24), false, none, .indexAddrA 4 1 (.tmp 2) (.const (.sc (.int .i64 0)))⟩,
   ⟨(some 25), false, none, .load false 1 (.tmp 24) false⟩,
   ⟨(some 26), false, none, .call 118 [((.tmp 25), false), ((.const (.sc (.int .i64 32))), false)]⟩,
   ⟨(some 27), false, none, .indexAddrA 4 1 (.tmp 2) (.const (.sc (.int .i64 0)))⟩,
   ⟨none, false, none, .store 1 (.tmp 27) (.tmp 26)⟩])
 (.seq (.reg [⟨(some 28), false, none, .indexAddrA 4 1 (.tmp 2) (.const (.sc (.int .i64 2)))⟩,
   ⟨(some 29), false, none, .load false 1 (.tmp 28) false⟩,
   ⟨(some 30), false, none, .indexAddrA 4 1 (.tmp 2) (.const (.sc (.int .i64 3)))⟩,
   ⟨(some 31), false, none, .load false 1 (.tmp 30) false⟩,
   ⟨(some 32), false, none, .bin .add (.tmp 29) (.tmp 31)⟩,
   ⟨(some 33), false, none, .indexAddrA 4 1 (.tmp 2) (.const (.sc (.int .i64 2)))⟩,
   ⟨none, false, none, .store 1 (.tmp 33) (.tmp 32)⟩])
 (.seq (.reg [⟨(some 34), false, none, .indexAddrA 4 1 (.tmp 2) (.const (.sc (.int .i64 3)))⟩,
   ⟨(some 35), false, none, .load false 1 (.tmp 34) false⟩,
   ⟨(some 36), false, none, .call 118 [((.tmp 35), false), ((.const (.sc (.int .i64 16))), false)]⟩,
   ⟨(some 37), false, none, .indexAddrA 4 1 (.tmp 2) (.const (.sc (.int .i64 3)))⟩,
   ⟨none, false, none, .store 1 (.tmp 37) (.tmp 36)⟩])
 (.seq (.reg [⟨(some 38), false, none, .indexAddrA 4 1 (.tmp 2) (.const (.sc (.int .i64 3)))⟩,
   ⟨(some 39), false, none, .load false 1 (.tmp 38) false⟩,
   ⟨(some 40), false, none, .indexAddrA 4 1 (.tmp 2) (.const (.sc (.int .i64 2)))⟩,
   ⟨(some 41), false, none, .load false 1 (.tmp 40) false⟩,
   ⟨(some 42), false, none, .bin .xor (.tmp 39) (.tmp 41)⟩,
   ⟨(some 43), false, none, .indexAddrA 4 1 (.tmp 2) (.const (.sc (.int .i64 3)))⟩,
   ⟨none, false, none, .store 1 (.tmp 43) (.tmp 42)⟩])
 (.seq (.reg [⟨(some 44), false, none, .indexAddrA 4 1 (.tmp 2) (.const (.sc (.int .i64 0)))⟩,
   ⟨(some 45), false, none, .load false 1 (.tmp 44) false⟩,
   ⟨(some 46), false, none, .indexAddrA 4 1 (.tmp 2) (.const (.sc (.int .i64 3)))⟩,
   ⟨(some 47), false, none, .load false 1 (.tmp 46) false⟩,
   ⟨(some 48), false, none, .bin .add (.tmp 45) (.tmp 47)⟩,
   ⟨(some 49), false, none, .indexAddrA 4 1 (.tmp 2) (.const (.sc (.int .i64 0)))⟩,
   ⟨none, false, none, .store 1 (.tmp 49) (.tmp 48)⟩])
 (.seq (.reg [⟨(some 50), false, none, .indexAddrA 4 1 (.tmp 2) (.const (.sc (.int .i64 3)))⟩,
   ⟨(some 51), false, none, .load false 1 (.tmp 50) false⟩,
   ⟨(some 52), false, none, .call 118 [((.tmp 51), false), ((.const (.sc (.int .i64 21))), false)]⟩,
   ⟨(some 53), false, none, .indexAddrA 4 1 (.tmp 2) (.const (.sc (.int .i64 3)))⟩,
   ⟨none, false, none, .store 1 (.tmp 53) (.tmp 52)⟩])
 (.seq (.reg [⟨(some 54), false, none, .indexAddrA 4 1 (.tmp 2) (.const (.sc (.int .i64 3)))⟩,
   ⟨(some 55), false, none, .load false 1 (.tmp 54) false⟩,
   ⟨(some 56), false, none, .indexAddrA 4 1 (.tmp 2) (.const (.sc (.int .i64 0)))⟩,
   ⟨(some 57), false, none, .load false 1 (.tmp 56) false⟩,
   ⟨(some 58), false, none, .bin .xor (.tmp 55) (.tmp 57)⟩,
   ⟨(some 59), false, none, .indexAddrA 4 1 (.tmp 2) (.const (.sc (.int .i64 3)))⟩,
   ⟨none, false, none, .store 1 (.tmp 59) (.tmp 58)⟩])
 (.seq (.reg [⟨(some 60), false, none, .indexAddrA 4 1 (.tmp 2) (.const (.sc (.int .i64 2)))⟩,
   ⟨(some 61), false, none, .load false 1 (.tmp 60) false⟩,
   ⟨(some 62), false, none, .indexAddrA 4 1 (.tmp 2) (.const (.sc (.int .i64 1)))⟩,
   ⟨(some 63), false, none, .load false 1 (.tmp 62) false⟩,
   ⟨(some 64), false, none, .bin .add (.tmp 61) (.tmp 63)⟩,
   ⟨(some 65), false, none, .indexAddrA 4 1 (.tmp 2) (.const (.sc (.int .i64 2)))⟩,
   ⟨none, false, none, .store 1 (.tmp 65) (.tmp 64)⟩])
 (.seq (.reg [⟨(some 66), false, none, .indexAddrA 4 1 (.tmp 2) (.const (.sc (.int .i64 1)))⟩,
   ⟨(some 67), false, none, .load false 1 (.tmp 66) false⟩,
   ⟨(some 68), false, none, .call 118 [((.tmp 67), false), ((.const (.sc (.int .i64 17))), false)]⟩,
   ⟨(some 69), false, none, .indexAddrA 4 1 (.tmp 2) (.const (.sc (.int .i64 1)))⟩,
   ⟨none, false, none, .store 1 (.tmp 69) (.tmp 68)⟩])
 (.seq (.reg [⟨(some 70), false, none, .indexAddrA 4 1 (.tmp 2) (.const (.sc (.int .i64 1)))⟩,
   ⟨(some 71), false, none, .load false 1 (.tmp 70) false⟩,
   ⟨(some 72), false, none, .indexAddrA 4 1 (.tmp 2) (.const (.sc (.int .i64 2)))⟩,
   ⟨(some 73), false, none, .load false 1 (.tmp 72) false⟩,
   ⟨(some 74), false, none, .bin .xor (.tmp 71) (.tmp 73)⟩,
   ⟨(some 75), false, none, .indexAddrA 4 1 (.tmp 2) (.const (.sc (.int .i64 1)))⟩,
   ⟨none, false, none, .store 1 (.tmp 75) (.tmp 74)⟩])
 (.reg [⟨(some 76), false, none, .indexAddrA 4 1 (.tmp 2) (.const (.sc (.int .i64 2)))⟩,
   ⟨(some 77), false, none, .load false 1 (.tmp 76) false⟩,
   ⟨(some 78), false, none, .call 118 [((.tmp 77), false), ((.const (.sc (.int .i64 32))), false)]⟩,
   ⟨(some 79), false, none, .indexAddrA 4 1 (.tmp 2) (.const (.sc (.int .i64 2)))⟩,
   ⟨none, false, none, .store 1 (.tmp 79) (.tmp 78)⟩])))))))))))))))
 (.reg [⟨(some 80), false, none, .bin .add (.tmp 6) (.const (.sc (.int .i64 1)))⟩,
   ⟨(some 6), false, none, .move (.tmp 80) false⟩]))))
def cbb_sip_rounds : CC := (.seq (.reg [⟨(some 81), false, none, .load true 4 (.tmp 2) false⟩,
   ⟨none, false, none, .store 4 (.tmp 4) (.tmp 81)⟩])
 .ret)
def cf_sip_rounds : CF := ⟨82, [.cell 4 true 4],
 (.seq (.reg [⟨(some 2), false, none, .box true (.tmp 0)⟩,
   ⟨(some 4), false, none, .alloc true [(.sc (.int .u64 0)), (.sc (.int .u64 0)), (.sc (.int .u64 0)), (.sc (.int .u64 0))]⟩])
 (.seq (.seq (.reg [⟨(some 5), false, none, .move (.tmp 1) false⟩,
   ⟨(some 6), false, none, .move (.const (.sc (.int .i64 0))) false⟩])
 (.block 0 (.loop [false, false, true, false, true, true, true, false, false, false, false, false, false, false, false, false, false, false, false, false, false, false, false, false, false, false, false, false, false, false, false, false, false, false, false, false, false, false, false, false, false, false, false, false, false, false, false, false, false, false, false, false, false, false, false, false, false, false, false, false, false, false, false, false, false, false, false, false, false, false, false, false, false, false, false, false, false, false, false, false, false, false] [true, true, true, true, true, true, true, true, true, true, true, true, true, true, true, true, false, true, true, true, true, true, true, true, true, true, false, true, true, true, true, true, true, true, true, true, false, true, true, true, true, true, true, true, true, true, true, true, true, true, true, true, false, true, true, true, true, true, true, true, true, true, true, true, true, true, true, true, false, true, true, true, true, true, true, true, true, true, false, true, true, true]
 cbabaa_sip_rounds)))
 cbb_sip_rounds))⟩
def hint_sip_rounds : Hint := ⟨[], [], [none, some ([false, false, true, false, true, true, true, false, false, false, false, false, false, false, false, false, false, false, false, false, false, false, false, false, false, false, false, false, false, false, false, false, false, false, false, false, false, false, false, false, false, false, false, false, false, false, false, false, false, false, false, false, false, false, false, false, false, false, false, false, false, false, false, false, false, false, false, false, false, false, false, false, false, false, false, false, false, false, false, false, false, false], [true, true, true, true, true, true, true, true, true, true, true, true, true, true, true, true, false, true, true, true, true, true, true, true, true, true, false, true, true, true, true, true, true, true, true, true, false, true, true, true, true, true, true, true, true, true, true, true, true, true, true, true, false, true, true, true, true, true, true, true, true, true, true, true, true, true, true, true, false, true, true, true, true, true, true, true, true, true, false, true, true, true]), none, some ([false, false, true, false, true, false, false, false, false, false, false, false, false, false, false, false, false, false, false, false, false, false, false, false, false, false, false, false, false, false, false, false, false, false, false, false, false, false, false, false, false, false, false, false, false, false, false, false, false, false, false, false, false, false, false, false, false, false, false, false, false, false, false, false, false, false, false, false, false, false, false, false, false, false, false, false, false, false, false, false, false, false], [true, true, true, true, true, true, true, true, true, true, true, true, true, true, true, true, false, true, true, true, true, true, true, true, true, true, false, true, true, true, true, true, true, true, true, true, false, true, true, true, true, true, true, true, true, true, true, true, true, true, true, true, false, true, true, true, true, true, true, true, true, true, true, true, true, true, true, true, false, true, true, true, true, true, true, true, true, true, false, true, true, true]), none, none], []⟩
def sh_sip_rounds : Nat → Sh := shOf [(9, (.int .u64)), (11, (.int .u64)), (15, (.int .u64)), (19, (.int .u64)), (21, (.int .u64)), (25, (.int .u64)), (29, (.int .u64)), (31, (.int .u64)), (35, (.int .u64)), (39, (.int .u64)), (41, (.int .u64)), (45, (.int .u64)), (47, (.int .u64)), (51, (.int .u64)), (55, (.int .u64)), (57, (.int .u64)), (61, (.int .u64)), (63, (.int .u64)), (67, (.int .u64)), (71, (.int .u64)), (73, (.int .u64)), (77, (.int .u64))]
def cb_sip_rounds (F_math_bits_RotateLeft64 : ∀ (β : Type), Nat → Int → Int → (Int → Option β) → Option β) (L : Nat) : CBC := (addC 118 (d_math_bits_RotateLeft64 F_math_bits_RotateLeft64 L) noC)
def mbaba_sip_rounds : St → St := mask [false, false, true, false, true, true, true, false, false, false, false, false, false, false, false, false, false, false, false, false, false, false, false, false, false, false, false, false, false, false, false, false, false, false, false, false, false, false, false, false, false, false, false, false, false, false, false, false, false, false, false, false, false, false, false, false, false, false, false, false, false, false, false, false, false, false, false, false, false, false, false, false, false, false, false, false, false, false, false, false, false, false] [true, true, true, true, true, true, true, true, true, true, true, true, true, true, true, true, false, true, true, true, true, true, true, true, true, true, false, true, true, true, true, true, true, true, true, true, false, true, true, true, true, true, true, true, true, true, true, true, true, true, true, true, false, true, true, true, true, true, true, true, true, true, true, true, true, true, true, true, false, true, true, true, true, true, true, true, true, true, false, true, true, true]
def st_hbaba_sip_rounds (p5 : Int) (p6 : Int) (b2 : List V) (b4_0 : Int) (b4_1 : Int) (b4_2 : Int) (b4_3 : Int) : St := ⟨[.junk, .junk, (V.ptr 2 0), .junk, (V.ptr 4 0), (V.sc (.int .i64 p5)), (V.sc (.int .i64 p6)), .junk, .junk, .junk, .junk, .junk, .junk, .junk, .junk, .junk, .junk, .junk, .junk, .junk, .junk, .junk, .junk, .junk, .junk, .junk, .junk, .junk, .junk, .junk, .junk, .junk, .junk, .junk, .junk, .junk, .junk, .junk, .junk, .junk, .junk, .junk, .junk, .junk, .junk, .junk, .junk, .junk, .junk, .junk, .junk, .junk, .junk, .junk, .junk, .junk, .junk, .junk, .junk, .junk, .junk, .junk, .junk, .junk, .junk, .junk, .junk, .junk, .junk, .junk, .junk, .junk, .junk, .junk, .junk, .junk, .junk, .junk, .junk, .junk, .junk, .junk], [.gone, .gone, (.live true b2), .gone, (.live true [(V.sc (.int .u64 b4_0)), (V.sc (.int .u64 b4_1)), (V.sc (.int .u64 b4_2)), (V.sc (.int .u64 b4_3))]), .gone, .gone, .gone, .gone, .gone, .gone, .gone, .gone, .gone, .gone, .gone, .gone, .gone, .gone, .gone, .gone, .gone, .gone, .gone, .gone, .gone, .gone, .gone, .gone, .gone, .gone, .gone, .gone, .gone, .gone, .gone, .gone, .gone, .gone, .gone, .gone, .gone, .gone, .gone, .gone, .gone, .gone, .gone, .gone, .gone, .gone, .gone, .gone, .gone, .gone, .gone, .gone, .gone, .gone, .gone, .gone, .gone, .gone, .gone, .gone, .gone, .gone, .gone, .gone, .gone, .gone, .gone, .gone, .gone, .gone, .gone, .gone, .gone, .gone, .gone, .gone, .gone]⟩
def st_x0_sip_rounds (b2 : List V) (b4_0 : Int) (b4_1 : Int) (b4_2 : Int) (b4_3 : Int) : St := ⟨[.junk, .junk, (V.ptr 2 0), .junk, (V.ptr 4 0), .junk, .junk, .junk, .junk, .junk, .junk, .junk, .junk, .junk, .junk, .junk, .junk, .junk, .junk, .junk, .junk, .junk, .junk, .junk, .junk, .junk, .junk, .junk, .junk, .junk, .junk, .junk, .junk, .junk, .junk, .junk, .junk, .junk, .junk, .junk, .junk, .junk, .junk, .junk, .junk, .junk, .junk, .junk, .junk, .junk, .junk, .junk, .junk, .junk, .junk, .junk, .junk, .junk, .junk, .junk, .junk, .junk, .junk, .junk, .junk, .junk, .junk, .junk, .junk, .junk, .junk, .junk, .junk, .junk, .junk, .junk, .junk, .junk, .junk, .junk, .junk, .junk], [.gone, .gone, (.live true b2), .gone, (.live true [(V.sc (.int .u64 b4_0)), (V.sc (.int .u64 b4_1)), (V.sc (.int .u64 b4_2)), (V.sc (.int .u64 b4_3))]), .gone, .gone, .gone, .gone, .gone, .gone, .gone, .gone, .gone, .gone, .gone, .gone, .gone, .gone, .gone, .gone, .gone, .gone, .gone, .gone, .gone, .gone, .gone, .gone, .gone, .gone, .gone, .gone, .gone, .gone, .gone, .gone, .gone, .gone, .gone, .gone, .gone, .gone, .gone, .gone, .gone, .gone, .gone, .gone, .gone, .gone, .gone, .gone, .gone, .gone, .gone, .gone, .gone, .gone, .gone, .gone, .gone, .gone, .gone, .gone, .gone, .gone, .gone, .gone, .gone, .gone, .gone, .gone, .gone, .gone, .gone, .gone, .gone, .gone, .gone, .gone, .gone]⟩
def e_sip_rounds {β : Type} (F_math_bits_RotateLeft64 : ∀ (β : Type), Nat → Int → Int → (Int → Option β) → Option β) (L : Nat) (p0 : List V) (p1 : Int) (k_hbaba : Int → Int → List V → Int → Int → Int → Int → Option β) : Option β :=
 k_hbaba p1 (0 : Int) p0 (0 : Int) (0 : Int) (0 : Int) (0 : Int)
theorem e_sip_rounds_ok {β : Type} (F_math_bits_RotateLeft64 : ∀ (β : Type), Nat → Int → Int → (Int → Option β) → Option β) (L : Nat) (p0 : List V) (p1 : Int) (k : V → Bor → Option β) : funC sh_sip_rounds (cb_sip_rounds F_math_bits_RotateLeft64 L) L cf_sip_rounds [(V.agg p0), (V.sc (.int .i64 p1))] [] k = e_sip_rounds F_math_bits_RotateLeft64 L p0 p1 (fun p5 p6 b2 b4_0 b4_1 b4_2 b4_3 => loopM (runC sh_sip_rounds (cb_sip_rounds F_math_bits_RotateLeft64 L) 0 L cbabaa_sip_rounds) mbaba_sip_rounds L (st_hbaba_sip_rounds p5 p6 b2 b4_0 b4_1 b4_2 b4_3) (blockK 0 (seqK (runC sh_sip_rounds (cb_sip_rounds F_math_bits_RotateLeft64 L) 0 L cbb_sip_rounds) (finK 0 (CF.res cf_sip_rounds) k)))) := by kernel_rfl
def bbaba_sip_rounds {β : Type} (F_math_bits_RotateLeft64 : ∀ (β : Type), Nat → Int → Int → (Int → Option β) → Option β) (L : Nat) (p5 : Int) (p6 : Int) (b2 : List V) (b4_0 : Int) (b4_1 : Int) (b4_2 : Int) (b4_3 : Int) (k_hbaba : Int → Int → List V → Int → Int → Int → Int → Option β) (k_x0 : List V → Int → Int → Int → Int → Option β) : Option β :=
 ifb (decide (p6 < p5)) (
 cI .u64 b2 0 fun v0 =>
 cI .u64 b2 1 fun v1 =>
 lt (IntKind.wrap .u64 ((v0 : Int) + v1)) fun x2 =>
 chk (1 = 1 ∧ 0 + 1 ≤ (List.length b2)) (
 lt (setAt b2 0 [(V.sc (.int .u64 x2))]) fun r3 =>
 cI .u64 r3 1 fun v4 =>
 F_math_bits_RotateLeft64 β L v4 (13 : Int) (fun v5 =>
 chk (1 = 1 ∧ 1 + 1 ≤ (List.length r3)) (
 lt (setAt r3 1 [(V.sc (.int .u64 v5))]) fun r6 =>
 cI .u64 r6 1 fun v7 =>
 cI .u64 r6 0 fun v8 =>
 lt (ixor .u64 v7 v8) fun x9 =>
 chk (1 = 1 ∧ 1 + 1 ≤ (List.length r6)) (
 lt (setAt r6 1 [(V.sc (.int .u64 x9))]) fun r10 =>
 cI .u64 r10 0 fun v11 =>
 F_math_bits_RotateLeft64 β L v11 (32 : Int) (fun v12 =>
 chk (1 = 1 ∧ 0 + 1 ≤ (List.length r10)) (
 lt (setAt r10 0 [(V.sc (.int .u64 v12))]) fun r13 =>
 cI .u64 r13 2 fun v14 =>
 cI .u64 r13 3 fun v15 =>
 lt (IntKind.wrap .u64 ((v14 : Int) + v15)) fun x16 =>
 chk (1 = 1 ∧ 2 + 1 ≤ (List.length r13)) (
 lt (setAt r13 2 [(V.sc (.int .u64 x16))]) fun r17 =>
 cI .u64 r17 3 fun v18 =>
 F_math_bits_RotateLeft64 β L v18 (16 : Int) (fun v19 =>
 chk (1 = 1 ∧ 3 + 1 ≤ (List.length r17)) (
 lt (setAt r17 3 [(V.sc (.int .u64 v19))]) fun r20 =>
 cI .u64 r20 3 fun v21 =>
 cI .u64 r20 2 fun v22 =>
 lt (ixor .u64 v21 v22) fun x23 =>
 chk (1 = 1 ∧ 3 + 1 ≤ (List.length r20)) (
 lt (setAt r20 3 [(V.sc (.int .u64 x23))]) fun r24 =>
 cI .u64 r24 0 fun v25 =>
 cI .u64 r24 3 fun v26 =>
 lt (IntKind.wrap .u64 ((v25 : Int) + v26)) fun x27 =>
 chk (1 = 1 ∧ 0 + 1 ≤ (List.length r24)) (
 lt (setAt r24 0 [(V.sc (.int .u64 x27))]) fun r28 =>
 cI .u64 r28 3 fun v29 =>
 F_math_bits_RotateLeft64 β L v29 (21 : Int) (fun v30 =>
 chk (1 = 1 ∧ 3 + 1 ≤ (List.length r28)) (
 lt (setAt r28 3 [(V.sc (.int .u64 v30))]) fun r31 =>
 cI .u64 r31 3 fun v32 =>
 cI .u64 r31 0 fun v33 =>
 lt (ixor .u64 v32 v33) fun x34 =>
 chk (1 = 1 ∧ 3 + 1 ≤ (List.length r31)) (
 lt (setAt r31 3 [(V.sc (.int .u64 x34))]) fun r35 =>
 cI .u64 r35 2 fun v36 =>
 cI .u64 r35 1 fun v37 =>
 lt (IntKind.wrap .u64 ((v36 : Int) + v37)) fun x38 =>
 chk (1 = 1 ∧ 2 + 1 ≤ (List.length r35)) (
 lt (setAt r35 2 [(V.sc (.int .u64 x38))]) fun r39 =>
 cI .u64 r39 1 fun v40 =>
 F_math_bits_RotateLeft64 β L v40 (17 : Int) (fun v41 =>
 chk (1 = 1 ∧ 1 + 1 ≤ (List.length r39)) (
 lt (setAt r39 1 [(V.sc (.int .u64 v41))]) fun r42 =>
 cI .u64 r42 1 fun v43 =>
 cI .u64 r42 2 fun v44 =>
 lt (ixor .u64 v43 v44) fun x45 =>
 chk (1 = 1 ∧ 1 + 1 ≤ (List.length r42)) (
 lt (setAt r42 1 [(V.sc (.int .u64 x45))]) fun r46 =>
 cI .u64 r46 2 fun v47 =>
 F_math_bits_RotateLeft64 β L v47 (32 : Int) (fun v48 =>
 chk (1 = 1 ∧ 2 + 1 ≤ (List.length r46)) (
 lt (setAt r46 2 [(V.sc (.int .u64 v48))]) fun r49 =>
 lt (IntKind.wrap .i64 ((p6 : Int) + (1 : Int))) fun x50 =>
 k_hbaba p5 x50 r49 b4_0 b4_1 b4_2 b4_3))))))))))))))))))))) (
 k_x0 b2 b4_0 b4_1 b4_2 b4_3)
theorem bbaba_sip_rounds_ok {β : Type} (F_math_bits_RotateLeft64 : ∀ (β : Type), Nat → Int → Int → (Int → Option β) → Option β) (L : Nat) (p5 : Int) (p6 : Int) (b2 : List V) (b4_0 : Int) (b4_1 : Int) (b4_2 : Int) (b4_3 : Int) (X : St → Option β) (K : KT β) : runC sh_sip_rounds (cb_sip_rounds F_math_bits_RotateLeft64 L) 0 L cbabaa_sip_rounds (st_hbaba_sip_rounds p5 p6 b2 b4_0 b4_1 b4_2 b4_3) (loopK mbaba_sip_rounds X K) = bbaba_sip_rounds F_math_bits_RotateLeft64 L p5 p6 b2 b4_0 b4_1 b4_2 b4_3 (fun p5 p6 b2 b4_0 b4_1 b4_2 b4_3 => X (st_hbaba_sip_rounds p5 p6 b2 b4_0 b4_1 b4_2 b4_3)) (fun b2 b4_0 b4_1 b4_2 b4_3 => K (.exit 0) (st_x0_sip_rounds b2 b4_0 b4_1 b4_2 b4_3)) := by kernel_rfl
def rbabax0_sip_rounds {β : Type} (F_math_bits_RotateLeft64 : ∀ (β : Type), Nat → Int → Int → (Int → Option β) → Option β) (L : Nat) (b2 : List V) (b4_0 : Int) (b4_1 : Int) (b4_2 : Int) (b4_3 : Int) (k_fin : List V → Option β) : Option β :=
 chk (0 + 4 ≤ (List.length b2)) (
 chk ((List.length (List.take 4 b2)) = 4 ∧ 0 + 4 ≤ 4) (
 lt (setAt [(V.sc (.int .u64 b4_0)), (V.sc (.int .u64 b4_1)), (V.sc (.int .u64 b4_2)), (V.sc (.int .u64 b4_3))] 0 (List.take 4 b2)) fun r51 =>
 chk (0 = 0 ∧ (List.length r51) = 4) (
 k_fin r51)))
theorem rbabax0_sip_rounds_ok {β : Type} (F_math_bits_RotateLeft64 : ∀ (β : Type), Nat → Int → Int → (Int → Option β) → Option β) (L : Nat) (b2 : List V) (b4_0 : Int) (b4_1 : Int) (b4_2 : Int) (b4_3 : Int) (k : V → Bor → Option β) : (blockK 0 (seqK (runC sh_sip_rounds (cb_sip_rounds F_math_bits_RotateLeft64 L) 0 L cbb_sip_rounds) (finK 0 (CF.res cf_sip_rounds) k))) (.exit 0) (st_x0_sip_rounds b2 b4_0 b4_1 b4_2 b4_3) = rbabax0_sip_rounds F_math_bits_RotateLeft64 L b2 b4_0 b4_1 b4_2 b4_3 (fun p0 => k (V.agg p0) []) := by kernel_rfl
def lbaba_sip_rounds {β : Type} (F_math_bits_RotateLeft64 : ∀ (β : Type), Nat → Int → Int → (Int → Option β) → Option β) (L : Nat) (k_x0 : List V → Int → Int → Int → Int → Option β) : Nat → Int → Int → List V → Int → Int → Int → Int → Option β
  | 0, _, _, _, _, _, _, _ => none
  | n + 1, p5, p6, b2, b4_0, b4_1, b4_2, b4_3 => bbaba_sip_rounds F_math_bits_RotateLeft64 L p5 p6 b2 b4_0 b4_1 b4_2 b4_3 (fun p5 p6 b2 b4_0 b4_1 b4_2 b4_3 => lbaba_sip_rounds F_math_bits_RotateLeft64 L k_x0 n p5 p6 b2 b4_0 b4_1 b4_2 b4_3) k_x0
theorem lbaba_sip_rounds_ok {β : Type} (F_math_bits_RotateLeft64 : ∀ (β : Type), Nat → Int → Int → (Int → Option β) → Option β) (L : Nat) (K : KT β) : ∀ (n : Nat) (p5 : Int) (p6 : Int) (b2 : List V) (b4_0 : Int) (b4_1 : Int) (b4_2 : Int) (b4_3 : Int), loopM (runC sh_sip_rounds (cb_sip_rounds F_math_bits_RotateLeft64 L) 0 L cbabaa_sip_rounds) mbaba_sip_rounds n (st_hbaba_sip_rounds p5 p6 b2 b4_0 b4_1 b4_2 b4_3) K = lbaba_sip_rounds F_math_bits_RotateLeft64 L (fun b2 b4_0 b4_1 b4_2 b4_3 => K (.exit 0) (st_x0_sip_rounds b2 b4_0 b4_1 b4_2 b4_3)) n p5 p6 b2 b4_0 b4_1 b4_2 b4_3 := by
  intro n
  induction n with
  | zero => intros; rfl
  | succ n ih =>
    intro p5 p6 b2 b4_0 b4_1 b4_2 b4_3
    refine (bbaba_sip_rounds_ok F_math_bits_RotateLeft64 L p5 p6 b2 b4_0 b4_1 b4_2 b4_3 (fun σ => loopM (runC sh_sip_rounds (cb_sip_rounds F_math_bits_RotateLeft64 L) 0 L cbabaa_sip_rounds) mbaba_sip_rounds n σ K) K).trans ?_
    simp only [ih]
    rfl
def R_sip_rounds {β : Type} (F_math_bits_RotateLeft64 : ∀ (β : Type), Nat → Int → Int → (Int → Option β) → Option β) (L : Nat) (p0 : List V) (p1 : Int) (k_fin : List V → Option β) : Option β :=
 e_sip_rounds F_math_bits_RotateLeft64 L p0 p1 (fun p5 p6 b2 b4_0 b4_1 b4_2 b4_3 => lbaba_sip_rounds F_math_bits_RotateLeft64 L (fun b2 b4_0 b4_1 b4_2 b4_3 => rbabax0_sip_rounds F_math_bits_RotateLeft64 L b2 b4_0 b4_1 b4_2 b4_3 k_fin) L p5 p6 b2 b4_0 b4_1 b4_2 b4_3)
theorem R_sip_rounds_ok {β : Type} (F_math_bits_RotateLeft64 : ∀ (β : Type), Nat → Int → Int → (Int → Option β) → Option β) (L : Nat) (p0 : List V) (p1 : Int) (k : V → Bor → Option β) : funC sh_sip_rounds (cb_sip_rounds F_math_bits_RotateLeft64 L) L cf_sip_rounds [(V.agg p0), (V.sc (.int .i64 p1))] [] k = R_sip_rounds F_math_bits_RotateLeft64 L p0 p1 (fun p0 => k (V.agg p0) []) := by
  refine (e_sip_rounds_ok F_math_bits_RotateLeft64 L p0 p1 k).trans ?_
  unfold R_sip_rounds
  simp only [lbaba_sip_rounds_ok, rbabax0_sip_rounds_ok]
def F_sip_rounds (β : Type) (L : Nat) (p0 : List V) (p1 : Int) (k_fin : List V → Option β) : Option β := R_sip_rounds F_math_bits_RotateLeft64 L p0 p1 k_fin
def d_sip_rounds (F_sip_rounds : ∀ (β : Type), Nat → List V → Int → (List V → Option β) → Option β) (L : Nat) (β : Type) (args : List V) (bor : Bor) (k : V → Bor → Option β) : Option β := match args, bor with
  | [a0, a1], [] => aG a0 fun p0 => aI .i64 a1 fun p1 => F_sip_rounds β L p0 p1 (fun p0 => k (V.agg p0) [])
  | _, _ => none
theorem d_sip_rounds_ok (L : Nat) (β : Type) (args : List V) (bor : Bor) (k : V → Bor → Option β) (r : β) (h : d_sip_rounds F_sip_rounds L β args bor k = some r) : funC sh_sip_rounds (cb_sip_rounds F_math_bits_RotateLeft64 L) L cf_sip_rounds args bor k = some r := by
  unfold d_sip_rounds at h
  split at h
  · have q := aG_inv h; clear h; obtain ⟨p0, rfl, h⟩ := q
    have q := aI_inv h; clear h; obtain ⟨p1, rfl, h⟩ := q
    exact (R_sip_rounds_ok F_math_bits_RotateLeft64 L p0 p1 k).trans h
  · cases h
/-! sip_absorb : 111 -/
def cf_sip_absorb : CF := ⟨18, [.cell 4 true 4],
 (.seq (.reg [⟨(some 2), false, none, .box true (.tmp 0)⟩,
   ⟨(some 4), false, none, .alloc true [(.sc (.int .u64 0)), (.sc (.int .u64 0)), (.sc (.int .u64 0)), (.sc (.int .u64 0))]⟩])
 (.seq (.reg [⟨(some 5), false, none, .indexAddrA 4 1 (.tmp 2) (.const (.sc (.int .i64 3)))⟩,
   ⟨(some 6), false, none, .load false 1 (.tmp 5) false⟩,
   ⟨(some 7), false, none, .move (.tmp 1) false⟩,
   ⟨(some 8), false, none, .bin .xor (.tmp 6) (.tmp 7)⟩,
   ⟨(some 9), false, none, .indexAddrA 4 1 (.tmp 2) (.const (.sc (.int .i64 3)))⟩,
   ⟨none, false, none, .store 1 (.tmp 9) (.tmp 8)⟩])
 (.seq (.reg [⟨(some 10), false, none, .load true 4 (.tmp 2) false⟩,
   ⟨(some 11), false, none, .call 113 [((.tmp 10), false), ((.const (.sc (.int .i64 2))), false)]⟩,
   ⟨none, false, none, .store 4 (.tmp 2) (.tmp 11)⟩])
 (.seq (.reg [⟨(some 12), false, none, .indexAddrA 4 1 (.tmp 2) (.const (.sc (.int .i64 0)))⟩,
   ⟨(some 13), false, none, .load false 1 (.tmp 12) false⟩,
   ⟨(some 14), false, none, .move (.tmp 1) false⟩,
   ⟨(some 15), false, none, .bin .xor (.tmp 13) (.tmp 14)⟩,
   ⟨(some 16), false, none, .indexAddrA 4 1 (.tmp 2) (.const (.sc (.int .i64 0)))⟩,
   ⟨none, false, none, .store 1 (.tmp 16) (.tmp 15)⟩])
 (.seq (.reg [⟨(some 17), false, none, .load true 4 (.tmp 2) false⟩,
   ⟨none, false, none, .store 4 (.tmp 4) (.tmp 17)⟩])
 .ret)))))⟩
def hint_sip_absorb : Hint := ⟨[], [], [none], []⟩
def sh_sip_absorb : Nat → Sh := shOf [(6, (.int .u64)), (13, (.int .u64))]
def cb_sip_absorb (F_sip_rounds : ∀ (β : Type), Nat → List V → Int → (List V → Option β) → Option β) (L : Nat) : CBC := (addC 113 (d_sip_rounds F_sip_rounds L) noC)
def R_sip_absorb {β : Type} (F_sip_rounds : ∀ (β : Type), Nat → List V → Int → (List V → Option β) → Option β) (L : Nat) (p0 : List V) (p1 : Int) (k_fin : List V → Option β) : Option β :=
 cI .u64 p0 3 fun v0 =>
 lt (ixor .u64 v0 p1) fun x1 =>
 chk (1 = 1 ∧ 3 + 1 ≤ (List.length p0)) (
 lt (setAt p0 3 [(V.sc (.int .u64 x1))]) fun r2 =>
 chk (0 + 4 ≤ (List.length r2)) (
 F_sip_rounds β L (List.take 4 r2) (2 : Int) (fun v3 =>
 chk ((List.length v3) = 4 ∧ 0 + 4 ≤ (List.length r2)) (
 lt (setAt r2 0 v3) fun r4 =>
 cI .u64 r4 0 fun v5 =>
 lt (ixor .u64 v5 p1) fun x6 =>
 chk (1 = 1 ∧ 0 + 1 ≤ (List.length r4)) (
 lt (setAt r4 0 [(V.sc (.int .u64 x6))]) fun r7 =>
 chk (0 + 4 ≤ (List.length r7)) (
 chk ((List.length (List.take 4 r7)) = 4 ∧ 0 + 4 ≤ 4) (
 lt (setAt [(V.sc (.int .u64 (0 : Int))), (V.sc (.int .u64 (0 : Int))), (V.sc (.int .u64 (0 : Int))), (V.sc (.int .u64 (0 : Int)))] 0 (List.take 4 r7)) fun r8 =>
 chk (0 = 0 ∧ (List.length r8) = 4) (
 k_fin r8))))))))
theorem R_sip_absorb_ok {β : Type} (F_sip_rounds : ∀ (β : Type), Nat → List V → Int → (List V → Option β) → Option β) (L : Nat) (p0 : List V) (p1 : Int) (k : V → Bor → Option β) : funC sh_sip_absorb (cb_sip_absorb F_sip_rounds L) L cf_sip_absorb [(V.agg p0), (V.sc (.int .u64 p1))] [] k = R_sip_absorb F_sip_rounds L p0 p1 (fun p0 => k (V.agg p0) []) := by kernel_rfl
def F_sip_absorb (β : Type) (L : Nat) (p0 : List V) (p1 : Int) (k_fin : List V → Option β) : Option β := R_sip_absorb F_sip_rounds L p0 p1 k_fin
def d_sip_absorb (F_sip_absorb : ∀ (β : Type), Nat → List V → Int → (List V → Option β) → Option β) (L : Nat) (β : Type) (args : List V) (bor : Bor) (k : V → Bor → Option β) : Option β := match args, bor with
  | [a0, a1], [] => aG a0 fun p0 => aI .u64 a1 fun p1 => F_sip_absorb β L p0 p1 (fun p0 => k (V.agg p0) [])
  | _, _ => none
theorem d_sip_absorb_ok (L : Nat) (β : Type) (args : List V) (bor : Bor) (k : V → Bor → Option β) (r : β) (h : d_sip_absorb F_sip_absorb L β args bor k = some r) : funC sh_sip_absorb (cb_sip_absorb F_sip_rounds L) L cf_sip_absorb args bor k = some r := by
  unfold d_sip_absorb at h
  split at h
  · have q := aG_inv h; clear h; obtain ⟨p0, rfl, h⟩ := q
    have q := aI_inv h; clear h; obtain ⟨p1, rfl, h⟩ := q
    exact (R_sip_absorb_ok F_sip_rounds L p0 p1 k).trans h
  · cases h
/-! sip_Sum : 105 -/
def cbbbabaa_sip_Sum : CC := (.seq (.reg [⟨(some 26), false, none, .bin .lss (.tmp 25) (.tmp 24)⟩])
 (.seq (.cond (.tmp 26)
 .skip
 (.seq (.mask [false, true, false, false, false, true, true, false, false, false, false, false, false, false, false, false, false, false, false, false, false, false, false, false, false, false, false, false, false, false, false, false, false, false, false, false, false, false, false, false, false, false, false, false, false, false, false, false, false, false, false, false, false, false, false, false, false, false, false, false, false, false, false, false, false, false, false, false, false] [true, true, true, true, true, true, true, false, true, true, true, true, true, true, true, true, true, true, true, true, true, true, true, true, true, true, true, true, true, true, true, true, true, true, true, true, false, false, true, true, true, true, true, true, true, true, true, true, true, true, true, true, true, true, true, true, true, true, true, true, true, true, true, true, true, true, true, true, true])
 (.exit 0)))
 (.seq (.block 1 (.seq (.reg [⟨(some 27), false, none, .move (.tmp 25) false⟩,
   ⟨(some 7), false, none, .move (.tmp 27) false⟩])
 (.dreg [] [(⟨(some 28), false, none, .load true 4 (.tmp 5) false⟩, true),
   (⟨(some 29), false, none, .move (.tmp 1) false⟩, false),
   (⟨(some 30), false, none, .move (.tmp 7) false⟩, false),
   (⟨(some 31), false, none, .bin .mul (.const (.sc (.int .i64 8))) (.tmp 30)⟩, false),
   (⟨(some 32), false, none, .move (.tmp 7) false⟩, false),
   (⟨(some 33), false, none, .bin .mul (.const (.sc (.int .i64 8))) (.tmp 32)⟩, false),
   (⟨(some 34), false, none, .bin .add (.tmp 33) (.const (.sc (.int .i64 8)))⟩, false),
   (⟨(some 35), false, none, .sliceS 1 (.tmp 29) (some (.tmp 31)) (some (.tmp 34)) none⟩, false),
   (⟨(some 36), false, none, .call 112 [((.tmp 35), false)]⟩, true),
   (⟨(some 37), false, none, .call 111 [((.tmp 28), false), ((.tmp 36), false)]⟩, false),
   (⟨none, false, none, .store 4 (.tmp 5) (.tmp 37)⟩, false)])))
 (.reg [⟨(some 38), false, none, .bin .add (.tmp 25) (.const (.sc (.int .i64 1)))⟩,
   ⟨(some 25), false, none, .move (.tmp 38) false⟩]))))
def cbbbb_sip_Sum : CC := (.seq (.dreg [] [(⟨(some 39), false, none, .load true 4 (.tmp 5) false⟩, true),
   (⟨(some 40), false, none, .move (.tmp 1) false⟩, false),
   (⟨(some 41), false, none, .move (.tmp 6) false⟩, false),
   (⟨(some 42), false, none, .bin .mul (.const (.sc (.int .i64 8))) (.tmp 41)⟩, false),
   (⟨(some 43), false, none, .sliceS 1 (.tmp 40) (some (.tmp 42)) none none⟩, false),
   (⟨(some 44), false, none, .call 112 [((.tmp 43), false)]⟩, true),
   (⟨(some 45), false, none, .move (.tmp 1) false⟩, false),
   (⟨(some 46), false, none, .lenS (.tmp 45)⟩, false),
   (⟨(some 47), false, none, .bin .rem (.tmp 46) (.const (.sc (.int .i64 256)))⟩, false),
   (⟨(some 48), false, none, .conv .u64 (.tmp 47)⟩, false),
   (⟨(some 49), false, none, .bin .shl (.tmp 48) (.const (.sc (.int .u64 56)))⟩, false),
   (⟨(some 50), false, none, .bin .or (.tmp 44) (.tmp 49)⟩, false),
   (⟨(some 51), false, none, .call 111 [((.tmp 39), false), ((.tmp 50), false)]⟩, false),
   (⟨none, false, none, .store 4 (.tmp 5) (.tmp 51)⟩, false)])
 (.seq (.reg [⟨(some 52), false, none, .indexAddrA 4 1 (.tmp 5) (.const (.sc (.int .i64 2)))⟩,
   ⟨(some 53), false, none, .load false 1 (.tmp 52) false⟩,
   ⟨(some 54), false, none, .bin .xor (.tmp 53) (.const (.sc (.int .u64 255)))⟩,
   ⟨(some 55), false, none, .indexAddrA 4 1 (.tmp 5) (.const (.sc (.int .i64 2)))⟩,
   ⟨none, false, none, .store 1 (.tmp 55) (.tmp 54)⟩])
 (.seq (.reg [⟨(some 56), false, none, .load true 4 (.tmp 5) false⟩,
   ⟨(some 57), false, none, .call 113 [((.tmp 56), false), ((.const (.sc (.int .i64 4))), false)]⟩,
   ⟨none, false, none, .store 4 (.tmp 5) (.tmp 57)⟩])
 (.seq (.reg [⟨(some 58), false, none, .indexAddrA 4 1 (.tmp 5) (.const (.sc (.int .i64 0)))⟩,
   ⟨(some 59), false, none, .load false 1 (.tmp 58) false⟩,
   ⟨(some 60), false, none, .indexAddrA 4 1 (.tmp 5) (.const (.sc (.int .i64 1)))⟩,
   ⟨(some 61), false, none, .load false 1 (.tmp 60) false⟩,
   ⟨(some 62), false, none, .bin .xor (.tmp 59) (.tmp 61)⟩,
   ⟨(some 63), false, none, .indexAddrA 4 1 (.tmp 5) (.const (.sc (.int .i64 2)))⟩,
   ⟨(some 64), false, none, .load false 1 (.tmp 63) false⟩,
   ⟨(some 65), false, none, .bin .xor (.tmp 62) (.tmp 64)⟩,
   ⟨(some 66), false, none, .indexAddrA 4 1 (.tmp 5) (.const (.sc (.int .i64 3)))⟩,
   ⟨(some 67), false, none, .load false 1 (.tmp 66) false⟩,
   ⟨(some 68), false, none, .bin .xor (.tmp 65) (.tmp 67)⟩,
   ⟨(some 4), false, none, .move (.tmp 68) false⟩])
 .ret))))
def cf_sip_Sum : CF := ⟨69, [.tmp 4],
 (.seq (.reg [⟨(some 2), false, none, .box true (.tmp 0)⟩,
   ⟨(some 4), false, none, .move (.const (.sc (.int .u64 0))) false⟩])
 (.seq (.reg [⟨(some 8), false, none, .indexAddrA 2 1 (.tmp 2) (.const (.sc (.int .i64 0)))⟩,
   ⟨(some 9), false, none, .load false 1 (.tmp 8) false⟩,
   ⟨(some 10), false, none, .bin .xor (.tmp 9) (.const (.sc (.int .u64 8317987319222330741)))⟩,
   ⟨(some 11), false, none, .indexAddrA 2 1 (.tmp 2) (.const (.sc (.int .i64 1)))⟩,
   ⟨(some 12), false, none, .load false 1 (.tmp 11) false⟩,
   ⟨(some 13), false, none, .bin .xor (.tmp 12) (.const (.sc (.int .u64 7237128888997146477)))⟩,
   ⟨(some 14), false, none, .indexAddrA 2 1 (.tmp 2) (.const (.sc (.int .i64 0)))⟩,
   ⟨(some 15), false, none, .load false 1 (.tmp 14) false⟩,
   ⟨(some 16), false, none, .bin .xor (.tmp 15) (.const (.sc (.int .u64 7816392313619706465)))⟩,
   ⟨(some 17), false, none, .indexAddrA 2 1 (.tmp 2) (.const (.sc (.int .i64 1)))⟩,
   ⟨(some 18), false, none, .load false 1 (.tmp 17) false⟩,
   ⟨(some 19), false, none, .bin .xor (.tmp 18) (.const (.sc (.int .u64 8387220255154660723)))⟩,
   ⟨(some 20), false, none, .build [(.sc (.int .u64 0)), (.sc (.int .u64 0)), (.sc (.int .u64 0)), (.sc (.int .u64 0))] [(0, 1, (.tmp 10)), (1, 1, (.tmp 13)), (2, 1, (.tmp 16)), (3, 1, (.tmp 19))]⟩,
   ⟨(some 5), false, none, .alloc true [(.sc (.int .u64 0)), (.sc (.int .u64 0)), (.sc (.int .u64 0)), (.sc (.int .u64 0))]⟩,
   ⟨none, false, none, .store 4 (.tmp 5) (.tmp 20)⟩])
 (.seq (.reg [⟨(some 21), false, none, .move (.tmp 1) false⟩,
   ⟨(some 22), false, none, .lenS (.tmp 21)⟩,
   ⟨(some 23), false, none, .bin .quo (.tmp 22) (.const (.sc (.int .i64 8)))⟩,
   ⟨(some 6), false, none, .move (.tmp 23) false⟩])
 (.seq (.seq (.reg [⟨(some 24), false, none, .move (.tmp 6) false⟩,
   ⟨(some 25), false, none, .move (.const (.sc (.int .i64 0))) false⟩])
 (.block 0 (.loop [false, true, false, false, false, true, true, false, false, false, false, false, false, false, false, false, false, false, false, false, false, false, false, false, true, true, false, false, false, false, false, false, false, false, false, false, false, false, false, false, false, false, false, false, false, false, false, false, false, false, false, false, false, false, false, false, false, false, false, false, false, false, false, false, false, false, false, false, false] [true, true, true, true, true, true, true, false, true, true, true, true, true, true, true, true, true, true, true, true, true, true, true, true, true, true, true, true, true, true, true, true, true, true, true, true, false, false, true, true, true, true, true, true, true, true, true, true, true, true, true, true, true, true, true, true, true, true, true, true, true, true, true, true, true, true, true, true, true]
 cbbbabaa_sip_Sum)))
 cbbbb_sip_Sum))))⟩
def hint_sip_Sum : Hint := ⟨[], [], [none, some ([false, true, false, false, false, true, true, false, false, false, false, false, false, false, false, false, false, false, false, false, false, false, false, false, true, true, false, false, false, false, false, false, false, false, false, false, false, false, false, false, false, false, false, false, false, false, false, false, false, false, false, false, false, false, false, false, false, false, false, false, false, false, false, false, false, false, false, false, false], [true, true, true, true, true, true, true, false, true, true, true, true, true, true, true, true, true, true, true, true, true, true, true, true, true, true, true, true, true, true, true, true, true, true, true, true, false, false, true, true, true, true, true, true, true, true, true, true, true, true, true, true, true, true, true, true, true, true, true, true, true, true, true, true, true, true, true, true, true]), none, some ([false, true, false, false, false, true, true, false, false, false, false, false, false, false, false, false, false, false, false, false, false, false, false, false, false, false, false, false, false, false, false, false, false, false, false, false, false, false, false, false, false, false, false, false, false, false, false, false, false, false, false, false, false, false, false, false, false, false, false, false, false, false, false, false, false, false, false, false, false], [true, true, true, true, true, true, true, false, true, true, true, true, true, true, true, true, true, true, true, true, true, true, true, true, true, true, true, true, true, true, true, true, true, true, true, true, false, false, true, true, true, true, true, true, true, true, true, true, true, true, true, true, true, true, true, true, true, true, true, true, true, true, true, true, true, true, true, true, true]), none, none], []⟩
def sh_sip_Sum : Nat → Sh := shOf [(9, (.int .u64)), (12, (.int .u64)), (15, (.int .u64)), (18, (.int .u64)), (53, (.int .u64)), (59, (.int .u64)), (61, (.int .u64)), (64, (.int .u64)), (67, (.int .u64))]
def cb_sip_Sum (F_sip_word : ∀ (β : Type), Nat → List (List V) → (Int → Option β) → Option β) (F_sip_absorb : ∀ (β : Type), Nat → List V → Int → (List V → Option β) → Option β) (F_sip_rounds : ∀ (β : Type), Nat → List V → Int → (List V → Option β) → Option β) (L : Nat) : CBC := (addC 113 (d_sip_rounds F_sip_rounds L) (addC 111 (d_sip_absorb F_sip_absorb L) (addC 112 (d_sip_word F_sip_word L) noC)))
def mbbbaba_sip_Sum : St → St := mask [false, true, false, false, false, true, true, false, false, false, false, false, false, false, false, false, false, false, false, false, false, false, false, false, true, true, false, false, false, false, false, false, false, false, false, false, false, false, false, false, false, false, false, false, false, false, false, false, false, false, false, false, false, false, false, false, false, false, false, false, false, false, false, false, false, false, false, false, false] [true, true, true, true, true, true, true, false, true, true, true, true, true, true, true, true, true, true, true, true, true, true, true, true, true, true, true, true, true, true, true, true, true, true, true, true, false, false, true, true, true, true, true, true, true, true, true, true, true, true, true, true, true, true, true, true, true, true, true, true, true, true, true, true, true, true, true, true, true]
def st_hbbbaba_sip_Sum (p1 : List (List V)) (p6 : Int) (p24 : Int) (p25 : Int) (b2 : List V) (b5 : List V) : St := ⟨[.junk, (V.sl 1 p1), .junk, .junk, .junk, (V.ptr 5 0), (V.sc (.int .i64 p6)), .junk, .junk, .junk, .junk, .junk, .junk, .junk, .junk, .junk, .junk, .junk, .junk, .junk, .junk, .junk, .junk, .junk, (V.sc (.int .i64 p24)), (V.sc (.int .i64 p25)), .junk, .junk, .junk, .junk, .junk, .junk, .junk, .junk, .junk, .junk, .junk, .junk, .junk, .junk, .junk, .junk, .junk, .junk, .junk, .junk, .junk, .junk, .junk, .junk, .junk, .junk, .junk, .junk, .junk, .junk, .junk, .junk, .junk, .junk, .junk, .junk, .junk, .junk, .junk, .junk, .junk, .junk, .junk], [.gone, .gone, (.live true b2), .gone, .gone, (.live true b5), .gone, .gone, .gone, .gone, .gone, .gone, .gone, .gone, .gone, .gone, .gone, .gone, .gone, .gone, .gone, .gone, .gone, .gone, .gone, .gone, .gone, .gone, .gone, .gone, .gone, .gone, .gone, .gone, .gone, .gone, .gone, .gone, .gone, .gone, .gone, .gone, .gone, .gone, .gone, .gone, .gone, .gone, .gone, .gone, .gone, .gone, .gone, .gone, .gone, .gone, .gone, .gone, .gone, .gone, .gone, .gone, .gone, .gone, .gone, .gone, .gone, .gone, .gone]⟩
def st_x0_sip_Sum (p1 : List (List V)) (p6 : Int) (b2 : List V) (b5 : List V) : St := ⟨[.junk, (V.sl 1 p1), .junk, .junk, .junk, (V.ptr 5 0), (V.sc (.int .i64 p6)), .junk, .junk, .junk, .junk, .junk, .junk, .junk, .junk, .junk, .junk, .junk, .junk, .junk, .junk, .junk, .junk, .junk, .junk, .junk, .junk, .junk, .junk, .junk, .junk, .junk, .junk, .junk, .junk, .junk, .junk, .junk, .junk, .junk, .junk, .junk, .junk, .junk, .junk, .junk, .junk, .junk, .junk, .junk, .junk, .junk, .junk, .junk, .junk, .junk, .junk, .junk, .junk, .junk, .junk, .junk, .junk, .junk, .junk, .junk, .junk, .junk, .junk], [.gone, .gone, (.live true b2), .gone, .gone, (.live true b5), .gone, .gone, .gone, .gone, .gone, .gone, .gone, .gone, .gone, .gone, .gone, .gone, .gone, .gone, .gone, .gone, .gone, .gone, .gone, .gone, .gone, .gone, .gone, .gone, .gone, .gone, .gone, .gone, .gone, .gone, .gone, .gone, .gone, .gone, .gone, .gone, .gone, .gone, .gone, .gone, .gone, .gone, .gone, .gone, .gone, .gone, .gone, .gone, .gone, .gone, .gone, .gone, .gone, .gone, .gone, .gone, .gone, .gone, .gone, .gone, .gone, .gone, .gone]⟩
def e_sip_Sum {β : Type} (F_sip_word : ∀ (β : Type), Nat → List (List V) → (Int → Option β) → Option β) (F_sip_absorb : ∀ (β : Type), Nat → List V → Int → (List V → Option β) → Option β) (F_sip_rounds : ∀ (β : Type), Nat → List V → Int → (List V → Option β) → Option β) (L : Nat) (p0 : List V) (p1 : List (List V)) (k_hbbbaba : List (List V) → Int → Int → Int → List V → List V → Option β) : Option β :=
 cI .u64 p0 0 fun v0 =>
 lt (ixor .u64 v0 (8317987319222330741 : Int)) fun x1 =>
 cI .u64 p0 1 fun v2 =>
 lt (ixor .u64 v2 (7237128888997146477 : Int)) fun x3 =>
 cI .u64 p0 0 fun v4 =>
 lt (ixor .u64 v4 (7816392313619706465 : Int)) fun x5 =>
 cI .u64 p0 1 fun v6 =>
 lt (ixor .u64 v6 (8387220255154660723 : Int)) fun x7 =>
 lt [(V.sc (.int .u64 x1)), (V.sc (.int .u64 x3)), (V.sc (.int .u64 x5)), (V.sc (.int .u64 x7))] fun r8 =>
 lt (IntKind.wrap .i64 (Int.tdiv ((List.length p1 : Nat) : Int) (8 : Int))) fun x9 =>
 k_hbbbaba p1 x9 x9 (0 : Int) p0 r8
theorem e_sip_Sum_ok {β : Type} (F_sip_word : ∀ (β : Type), Nat → List (List V) → (Int → Option β) → Option β) (F_sip_absorb : ∀ (β : Type), Nat → List V → Int → (List V → Option β) → Option β) (F_sip_rounds : ∀ (β : Type), Nat → List V → Int → (List V → Option β) → Option β) (L : Nat) (p0 : List V) (p1 : List (List V)) (k : V → Bor → Option β) : funC sh_sip_Sum (cb_sip_Sum F_sip_word F_sip_absorb F_sip_rounds L) L cf_sip_Sum [(V.agg p0), (V.sl 1 p1)] [] k = e_sip_Sum F_sip_word F_sip_absorb F_sip_rounds L p0 p1 (fun p1 p6 p24 p25 b2 b5 => loopM (runC sh_sip_Sum (cb_sip_Sum F_sip_word F_sip_absorb F_sip_rounds L) 0 L cbbbabaa_sip_Sum) mbbbaba_sip_Sum L (st_hbbbaba_sip_Sum p1 p6 p24 p25 b2 b5) (blockK 0 (seqK (runC sh_sip_Sum (cb_sip_Sum F_sip_word F_sip_absorb F_sip_rounds L) 0 L cbbbb_sip_Sum) (finK 0 (CF.res cf_sip_Sum) k)))) := by kernel_rfl
def bbbbaba_sip_Sum {β : Type} (F_sip_word : ∀ (β : Type), Nat → List (List V) → (Int → Option β) → Option β) (F_sip_absorb : ∀ (β : Type), Nat → List V → Int → (List V → Option β) → Option β) (F_sip_rounds : ∀ (β : Type), Nat → List V → Int → (List V → Option β) → Option β) (L : Nat) (p1 : List (List V)) (p6 : Int) (p24 : Int) (p25 : Int) (b2 : List V) (b5 : List V) (k_hbbbaba : List (List V) → Int → Int → Int → List V → List V → Option β) (k_x0 : List (List V) → Int → List V → List V → Option β) : Option β :=
 ifb (decide (p25 < p24)) (
 chk (0 + 4 ≤ (List.length b5)) (
 lt (IntKind.wrap .i64 (((8 : Int) : Int) * p25)) fun x10 =>
 lt (IntKind.wrap .i64 (((8 : Int) : Int) * p25)) fun x11 =>
 lt (IntKind.wrap .i64 ((x11 : Int) + (8 : Int))) fun x12 =>
 chk (0 ≤ x12 ∧ x12 ≤ (((List.length p1) : Nat) : Int)) (
 chk (0 ≤ x10 ∧ x10 ≤ (((Int.toNat x12) : Nat) : Int)) (
 F_sip_word β L (List.take ((Int.toNat x12) - (Int.toNat x10)) (List.drop (Int.toNat x10) p1)) (fun v13 =>
 F_sip_absorb β L (List.take 4 b5) v13 (fun v14 =>
 chk ((List.length v14) = 4 ∧ 0 + 4 ≤ (List.length b5)) (
 lt (setAt b5 0 v14) fun r15 =>
 lt (IntKind.wrap .i64 ((p25 : Int) + (1 : Int))) fun x16 =>
 k_hbbbaba p1 p6 p24 x16 b2 r15))))))) (
 k_x0 p1 p6 b2 b5)
theorem bbbbaba_sip_Sum_ok {β : Type} (F_sip_word : ∀ (β : Type), Nat → List (List V) → (Int → Option β) → Option β) (F_sip_absorb : ∀ (β : Type), Nat → List V → Int → (List V → Option β) → Option β) (F_sip_rounds : ∀ (β : Type), Nat → List V → Int → (List V → Option β) → Option β) (L : Nat) (p1 : List (List V)) (p6 : Int) (p24 : Int) (p25 : Int) (b2 : List V) (b5 : List V) (X : St → Option β) (K : KT β) : runC sh_sip_Sum (cb_sip_Sum F_sip_word F_sip_absorb F_sip_rounds L) 0 L cbbbabaa_sip_Sum (st_hbbbaba_sip_Sum p1 p6 p24 p25 b2 b5) (loopK mbbbaba_sip_Sum X K) = bbbbaba_sip_Sum F_sip_word F_sip_absorb F_sip_rounds L p1 p6 p24 p25 b2 b5 (fun p1 p6 p24 p25 b2 b5 => X (st_hbbbaba_sip_Sum p1 p6 p24 p25 b2 b5)) (fun p1 p6 b2 b5 => K (.exit 0) (st_x0_sip_Sum p1 p6 b2 b5)) := by kernel_rfl
def rbbbabax0_sip_Sum {β : Type} (F_sip_word : ∀ (β : Type), Nat → List (List V) → (Int → Option β) → Option β) (F_sip_absorb : ∀ (β : Type), Nat → List V → Int → (List V → Option β) → Option β) (F_sip_rounds : ∀ (β : Type), Nat → List V → Int → (List V → Option β) → Option β) (L : Nat) (p1 : List (List V)) (p6 : Int) (b2 : List V) (b5 : List V) (k_fin : Int → Option β) : Option β :=
 chk (0 + 4 ≤ (List.length b5)) (
 lt (IntKind.wrap .i64 (((8 : Int) : Int) * p6)) fun x17 =>
 chk (0 ≤ x17 ∧ x17 ≤ (((List.length p1) : Nat) : Int)) (
 F_sip_word β L (List.take ((List.length p1) - (Int.toNat x17)) (List.drop (Int.toNat x17) p1)) (fun v18 =>
 lt (Int.tmod ((List.length p1 : Nat) : Int) (256 : Int)) fun x19 =>
 lt (IntKind.wrap .u64 x19) fun x20 =>
 lt (ishl .u64 x20 (56 : Int)) fun x21 =>
 lt (ior .u64 v18 x21) fun x22 =>
 F_sip_absorb β L (List.take 4 b5) x22 (fun v23 =>
 chk ((List.length v23) = 4 ∧ 0 + 4 ≤ (List.length b5)) (
 lt (setAt b5 0 v23) fun r24 =>
 cI .u64 r24 2 fun v25 =>
 lt (ixor .u64 v25 (255 : Int)) fun x26 =>
 chk (1 = 1 ∧ 2 + 1 ≤ (List.length r24)) (
 lt (setAt r24 2 [(V.sc (.int .u64 x26))]) fun r27 =>
 chk (0 + 4 ≤ (List.length r27)) (
 F_sip_rounds β L (List.take 4 r27) (4 : Int) (fun v28 =>
 chk ((List.length v28) = 4 ∧ 0 + 4 ≤ (List.length r27)) (
 lt (setAt r27 0 v28) fun r29 =>
 cI .u64 r29 0 fun v30 =>
 cI .u64 r29 1 fun v31 =>
 lt (ixor .u64 v30 v31) fun x32 =>
 cI .u64 r29 2 fun v33 =>
 lt (ixor .u64 x32 v33) fun x34 =>
 cI .u64 r29 3 fun v35 =>
 lt (ixor .u64 x34 v35) fun x36 =>
 k_fin x36)))))))))
theorem rbbbabax0_sip_Sum_ok {β : Type} (F_sip_word : ∀ (β : Type), Nat → List (List V) → (Int → Option β) → Option β) (F_sip_absorb : ∀ (β : Type), Nat → List V → Int → (List V → Option β) → Option β) (F_sip_rounds : ∀ (β : Type), Nat → List V → Int → (List V → Option β) → Option β) (L : Nat) (p1 : List (List V)) (p6 : Int) (b2 : List V) (b5 : List V) (k : V → Bor → Option β) : (blockK 0 (seqK (runC sh_sip_Sum (cb_sip_Sum F_sip_word F_sip_absorb F_sip_rounds L) 0 L cbbbb_sip_Sum) (finK 0 (CF.res cf_sip_Sum) k))) (.exit 0) (st_x0_sip_Sum p1 p6 b2 b5) = rbbbabax0_sip_Sum F_sip_word F_sip_absorb F_sip_rounds L p1 p6 b2 b5 (fun p0 => k (V.sc (.int .u64 p0)) []) := by kernel_rfl
def lbbbaba_sip_Sum {β : Type} (F_sip_word : ∀ (β : Type), Nat → List (List V) → (Int → Option β) → Option β) (F_sip_absorb : ∀ (β : Type), Nat → List V → Int → (List V → Option β) → Option β) (F_sip_rounds : ∀ (β : Type), Nat → List V → Int → (List V → Option β) → Option β) (L : Nat) (k_x0 : List (List V) → Int → List V → List V → Option β) : Nat → List (List V) → Int → Int → Int → List V → List V → Option β
  | 0, _, _, _, _, _, _ => none
  | n + 1, p1, p6, p24, p25, b2, b5 => bbbbaba_sip_Sum F_sip_word F_sip_absorb F_sip_rounds L p1 p6 p24 p25 b2 b5 (fun p1 p6 p24 p25 b2 b5 => lbbbaba_sip_Sum F_sip_word F_sip_absorb F_sip_rounds L k_x0 n p1 p6 p24 p25 b2 b5) k_x0
theorem lbbbaba_sip_Sum_ok {β : Type} (F_sip_word : ∀ (β : Type), Nat → List (List V) → (Int → Option β) → Option β) (F_sip_absorb : ∀ (β : Type), Nat → List V → Int → (List V → Option β) → Option β) (F_sip_rounds : ∀ (β : Type), Nat → List V → Int → (List V → Option β) → Option β) (L : Nat) (K : KT β) : ∀ (n : Nat) (p1 : List (List V)) (p6 : Int) (p24 : Int) (p25 : Int) (b2 : List V) (b5 : List V), loopM (runC sh_sip_Sum (cb_sip_Sum F_sip_word F_sip_absorb F_sip_rounds L) 0 L cbbbabaa_sip_Sum) mbbbaba_sip_Sum n (st_hbbbaba_sip_Sum p1 p6 p24 p25 b2 b5) K = lbbbaba_sip_Sum F_sip_word F_sip_absorb F_sip_rounds L (fun p1 p6 b2 b5 => K (.exit 0) (st_x0_sip_Sum p1 p6 b2 b5)) n p1 p6 p24 p25 b2 b5 := by
  intro n
  induction n with
  | zero => intros; rfl
  | succ n ih =>
    intro p1 p6 p24 p25 b2 b5
    refine (bbbbaba_sip_Sum_ok F_sip_word F_sip_absorb F_sip_rounds L p1 p6 p24 p25 b2 b5 (fun σ => loopM (runC sh_sip_Sum (cb_sip_Sum F_sip_word F_sip_absorb F_sip_rounds L) 0 L cbbbabaa_sip_Sum) mbbbaba_sip_Sum n σ K) K).trans ?_
    simp only [ih]
    rfl
def R_sip_Sum {β : Type} (F_sip_word : ∀ (β : Type), Nat → List (List V) → (Int → Option β) → Option β) (F_sip_absorb : ∀ (β : Type), Nat → List V → Int → (List V → Option β) → Option β) (F_sip_rounds : ∀ (β : Type), Nat → List V → Int → (List V → Option β) → Option β) (L : Nat) (p0 : List V) (p1 : List (List V)) (k_fin : Int → Option β) : Option β :=
 e_sip_Sum F_sip_word F_sip_absorb F_sip_rounds L p0 p1 (fun p1 p6 p24 p25 b2 b5 => lbbbaba_sip_Sum F_sip_word F_sip_absorb F_sip_rounds L (fun p1 p6 b2 b5 => rbbbabax0_sip_Sum F_sip_word F_sip_absorb F_sip_rounds L p1 p6 b2 b5 k_fin) L p1 p6 p24 p25 b2 b5)
theorem R_sip_Sum_ok {β : Type} (F_sip_word : ∀ (β : Type), Nat → List (List V) → (Int → Option β) → Option β) (F_sip_absorb : ∀ (β : Type), Nat → List V → Int → (List V → Option β) → Option β) (F_sip_rounds : ∀ (β : Type), Nat → List V → Int → (List V → Option β) → Option β) (L : Nat) (p0 : List V) (p1 : List (List V)) (k : V → Bor → Option β) : funC sh_sip_Sum (cb_sip_Sum F_sip_word F_sip_absorb F_sip_rounds L) L cf_sip_Sum [(V.agg p0), (V.sl 1 p1)] [] k = R_sip_Sum F_sip_word F_sip_absorb F_sip_rounds L p0 p1 (fun p0 => k (V.sc (.int .u64 p0)) []) := by
  refine (e_sip_Sum_ok F_sip_word F_sip_absorb F_sip_rounds L p0 p1 k).trans ?_
  unfold R_sip_Sum
  simp only [lbbbaba_sip_Sum_ok, rbbbabax0_sip_Sum_ok]
def F_sip_Sum (β : Type) (L : Nat) (p0 : List V) (p1 : List (List V)) (k_fin : Int → Option β) : Option β := R_sip_Sum F_sip_word F_sip_absorb F_sip_rounds L p0 p1 k_fin
def d_sip_Sum (F_sip_Sum : ∀ (β : Type), Nat → List V → List (List V) → (Int → Option β) → Option β) (L : Nat) (β : Type) (args : List V) (bor : Bor) (k : V → Bor → Option β) : Option β := match args, bor with
  | [a0, a1], [] => aG a0 fun p0 => aL 1 a1 fun p1 => F_sip_Sum β L p0 p1 (fun p0 => k (V.sc (.int .u64 p0)) [])
  | _, _ => none
theorem d_sip_Sum_ok (L : Nat) (β : Type) (args : List V) (bor : Bor) (k : V → Bor → Option β) (r : β) (h : d_sip_Sum F_sip_Sum L β args bor k = some r) : funC sh_sip_Sum (cb_sip_Sum F_sip_word F_sip_absorb F_sip_rounds L) L cf_sip_Sum args bor k = some r := by
  unfold d_sip_Sum at h
  split at h
  · have q := aG_inv h; clear h; obtain ⟨p0, rfl, h⟩ := q
    have q := aL_inv h; clear h; obtain ⟨p1, rfl, h⟩ := q
    exact (R_sip_Sum_ok F_sip_word F_sip_absorb F_sip_rounds L p0 p1 k).trans h
  · cases h
/-! law04_sane : 104 -/
def cbbabaa_law04_sane : CC := (.seq (.seq (.reg [⟨(some 3), false, none, .move (.tmp 2) false⟩,
   ⟨(some 4), false, none, .bin .lss (.tmp 3) (.const (.sc (.int .u8 15)))⟩])
 (.cond (.tmp 4)
 .skip
 (.seq (.mask [false, true, false, false, false, false, false, false, false, false, false, false, false, false, false] [true, true, false, true, true, true, true, true, true, false, false, true, true, true, true])
 (.exit 0))))
 (.seq (.block 1 (.reg [⟨(some 7), false, none, .move (.tmp 1) true⟩,
   ⟨(some 8), false, none, .move (.tmp 2) false⟩,
   ⟨(some 9), false, none, .buildSlice 1 1 [(.sc (.int .u8 0))] [(0, 1, (.tmp 8))]⟩,
   ⟨(some 10), false, none, .append 1 1 (.tmp 7) (.tmp 9)⟩,
   ⟨(some 1), false, none, .move (.tmp 10) true⟩]))
 (.reg [⟨(some 5), false, none, .move (.tmp 2) false⟩,
   ⟨(some 6), false, none, .bin .add (.tmp 5) (.const (.sc (.int .u8 1)))⟩,
   ⟨(some 2), false, none, .move (.tmp 6) false⟩])))
def cbbb_law04_sane : CC := (.seq (.reg [⟨(some 11), false, none, .build [(.sc (.int .u64 0)), (.sc (.int .u64 0))] [(0, 1, (.const (.sc (.int .u64 506097522914230528)))), (1, 1, (.const (.sc (.int .u64 1084818905618843912))))]⟩,
   ⟨(some 12), false, none, .move (.tmp 1) true⟩,
   ⟨(some 13), false, none, .call 105 [((.tmp 11), false), ((.tmp 12), false)]⟩,
   ⟨(some 14), false, none, .bin .eql (.tmp 13) (.const (.sc (.int .u64 11613035633349379557)))⟩,
   ⟨(some 0), false, none, .move (.tmp 14) false⟩])
 .ret)
def cf_law04_sane : CF := ⟨15, [.tmp 0],
 (.seq (.reg [⟨(some 0), false, none, .move (.const (.sc (.bool false))) false⟩])
 (.seq (.reg [⟨(some 1), false, none, .move (.const (.gs 1 [])) true⟩])
 (.seq (.seq (.reg [⟨(some 2), false, none, .move (.const (.sc (.int .u8 0))) false⟩])
 (.block 0 (.loop [false, true, true, false, false, false, false, false, false, false, false, false, false, false, false] [true, true, true, true, true, true, true, true, true, false, false, true, true, true, true]
 cbbabaa_law04_sane)))
 cbbb_law04_sane)))⟩
def hint_law04_sane : Hint := ⟨[(1, 0), (5, 0), (5, 4), (6, 1)], [], [none, some ([false, true, true, false, false, false, false, false, false, false, false, false, false, false, false], [true, true, true, true, true, true, true, true, true, false, false, true, true, true, true]), none, some ([false, true, false, false, false, false, false, false, false, false, false, false, false, false, false], [true, true, false, true, true, true, true, true, true, false, false, true, true, true, true]), none, none], []⟩
def sh_law04_sane : Nat → Sh := shOf []
def cb_law04_sane (F_sip_Sum : ∀ (β : Type), Nat → List V → List (List V) → (Int → Option β) → Option β) (L : Nat) : CBC := (addC 105 (d_sip_Sum F_sip_Sum L) noC)
def mbbaba_law04_sane : St → St := mask [false, true, true, false, false, false, false, false, false, false, false, false, false, false, false] [true, true, true, true, true, true, true, true, true, false, false, true, true, true, true]
def st_hbbaba_law04_sane (p1 : List (List V)) (p2 : Int) : St := ⟨[.junk, (V.gs 1 p1), (V.sc (.int .u8 p2)), .junk, .junk, .junk, .junk, .junk, .junk, .junk, .junk, .junk, .junk, .junk, .junk], [.gone, .gone, .gone, .gone, .gone, .gone, .gone, .gone, .gone, .gone, .gone, .gone, .gone, .gone, .gone]⟩
def st_x0_law04_sane (p1 : List (List V)) : St := ⟨[.junk, (V.gs 1 p1), .junk, .junk, .junk, .junk, .junk, .junk, .junk, .junk, .junk, .junk, .junk, .junk, .junk], [.gone, .gone, .gone, .gone, .gone, .gone, .gone, .gone, .gone, .gone, .gone, .gone, .gone, .gone, .gone]⟩
def e_law04_sane {β : Type} (F_sip_Sum : ∀ (β : Type), Nat → List V → List (List V) → (Int → Option β) → Option β) (L : Nat) (k_hbbaba : List (List V) → Int → Option β) : Option β :=
 k_hbbaba ([] : List (List V)) (0 : Int)
theorem e_law04_sane_ok {β : Type} (F_sip_Sum : ∀ (β : Type), Nat → List V → List (List V) → (Int → Option β) → Option β) (L : Nat) (k : V → Bor → Option β) : funC sh_law04_sane (cb_law04_sane F_sip_Sum L) L cf_law04_sane [] [] k = e_law04_sane F_sip_Sum L (fun p1 p2 => loopM (runC sh_law04_sane (cb_law04_sane F_sip_Sum L) 0 L cbbabaa_law04_sane) mbbaba_law04_sane L (st_hbbaba_law04_sane p1 p2) (blockK 0 (seqK (runC sh_law04_sane (cb_law04_sane F_sip_Sum L) 0 L cbbb_law04_sane) (finK 0 (CF.res cf_law04_sane) k)))) := by kernel_rfl
def bbbaba_law04_sane {β : Type} (F_sip_Sum : ∀ (β : Type), Nat → List V → List (List V) → (Int → Option β) → Option β) (L : Nat) (p1 : List (List V)) (p2 : Int) (k_hbbaba : List (List V) → Int → Option β) (k_x0 : List (List V) → Option β) : Option β :=
 ifb (decide (p2 < (15 : Int))) (
 chk ((List.length p1 + List.length (chunks 1 1 [(V.sc (.int .u8 p2))])) * 1 ≤ sizeCap ∧ List.length p1 + List.length (chunks 1 1 [(V.sc (.int .u8 p2))]) ≤ sizeCap) (
 lt (p1 ++ (chunks 1 1 [(V.sc (.int .u8 p2))])) fun l0 =>
 lt (IntKind.wrap .u8 ((p2 : Int) + (1 : Int))) fun x1 =>
 k_hbbaba l0 x1)) (
 k_x0 p1)
theorem bbbaba_law04_sane_ok {β : Type} (F_sip_Sum : ∀ (β : Type), Nat → List V → List (List V) → (Int → Option β) → Option β) (L : Nat) (p1 : List (List V)) (p2 : Int) (X : St → Option β) (K : KT β) : runC sh_law04_sane (cb_law04_sane F_sip_Sum L) 0 L cbbabaa_law04_sane (st_hbbaba_law04_sane p1 p2) (loopK mbbaba_law04_sane X K) = bbbaba_law04_sane F_sip_Sum L p1 p2 (fun p1 p2 => X (st_hbbaba_law04_sane p1 p2)) (fun p1 => K (.exit 0) (st_x0_law04_sane p1)) := by kernel_rfl
def rbbabax0_law04_sane {β : Type} (F_sip_Sum : ∀ (β : Type), Nat → List V → List (List V) → (Int → Option β) → Option β) (L : Nat) (p1 : List (List V)) (k_fin : Bool → Option β) : Option β :=
 F_sip_Sum β L [(V.sc (.int .u64 (506097522914230528 : Int))), (V.sc (.int .u64 (1084818905618843912 : Int)))] p1 (fun v2 =>
 k_fin ((v2 : Int) == (11613035633349379557 : Int)))
theorem rbbabax0_law04_sane_ok {β : Type} (F_sip_Sum : ∀ (β : Type), Nat → List V → List (List V) → (Int → Option β) → Option β) (L : Nat) (p1 : List (List V)) (k : V → Bor → Option β) : (blockK 0 (seqK (runC sh_law04_sane (cb_law04_sane F_sip_Sum L) 0 L cbbb_law04_sane) (finK 0 (CF.res cf_law04_sane) k))) (.exit 0) (st_x0_law04_sane p1) = rbbabax0_law04_sane F_sip_Sum L p1 (fun p0 => k (V.sc (.bool p0)) []) := by kernel_rfl
def lbbaba_law04_sane {β : Type} (F_sip_Sum : ∀ (β : Type), Nat → List V → List (List V) → (Int → Option β) → Option β) (L : Nat) (k_x0 : List (List V) → Option β) : Nat → List (List V) → Int → Option β
  | 0, _, _ => none
  | n + 1, p1, p2 => bbbaba_law04_sane F_sip_Sum L p1 p2 (fun p1 p2 => lbbaba_law04_sane F_sip_Sum L k_x0 n p1 p2) k_x0
theorem lbbaba_law04_sane_ok {β : Type} (F_sip_Sum : ∀ (β : Type), Nat → List V → List (List V) → (Int → Option β) → Option β) (L : Nat) (K : KT β) : ∀ (n : Nat) (p1 : List (List V)) (p2 : Int), loopM (runC sh_law04_sane (cb_law04_sane F_sip_Sum L) 0 L cbbabaa_law04_sane) mbbaba_law04_sane n (st_hbbaba_law04_sane p1 p2) K = lbbaba_law04_sane F_sip_Sum L (fun p1 => K (.exit 0) (st_x0_law04_sane p1)) n p1 p2 := by
  intro n
  induction n with
  | zero => intros; rfl
  | succ n ih =>
    intro p1 p2
    refine (bbbaba_law04_sane_ok F_sip_Sum L p1 p2 (fun σ => loopM (runC sh_law04_sane (cb_law04_sane F_sip_Sum L) 0 L cbbabaa_law04_sane) mbbaba_law04_sane n σ K) K).trans ?_
    simp only [ih]
    rfl
def R_law04_sane {β : Type} (F_sip_Sum : ∀ (β : Type), Nat → List V → List (List V) → (Int → Option β) → Option β) (L : Nat) (k_fin : Bool → Option β) : Option β :=
 e_law04_sane F_sip_Sum L (fun p1 p2 => lbbaba_law04_sane F_sip_Sum L (fun p1 => rbbabax0_law04_sane F_sip_Sum L p1 k_fin) L p1 p2)
theorem R_law04_sane_ok {β : Type} (F_sip_Sum : ∀ (β : Type), Nat → List V → List (List V) → (Int → Option β) → Option β) (L : Nat) (k : V → Bor → Option β) : funC sh_law04_sane (cb_law04_sane F_sip_Sum L) L cf_law04_sane [] [] k = R_law04_sane F_sip_Sum L (fun p0 => k (V.sc (.bool p0)) []) := by
  refine (e_law04_sane_ok F_sip_Sum L k).trans ?_
  unfold R_law04_sane
  simp only [lbbaba_law04_sane_ok, rbbabax0_law04_sane_ok]
def F_law04_sane (β : Type) (L : Nat) (k_fin : Bool → Option β) : Option β := R_law04_sane F_sip_Sum L k_fin
def d_law04_sane (F_law04_sane : ∀ (β : Type), Nat → (Bool → Option β) → Option β) (L : Nat) (β : Type) (args : List V) (bor : Bor) (k : V → Bor → Option β) : Option β := match args, bor with
  | [], [] => F_law04_sane β L (fun p0 => k (V.sc (.bool p0)) [])
  | _, _ => none
theorem d_law04_sane_ok (L : Nat) (β : Type) (args : List V) (bor : Bor) (k : V → Bor → Option β) (r : β) (h : d_law04_sane F_law04_sane L β args bor k = some r) : funC sh_law04_sane (cb_law04_sane F_sip_Sum L) L cf_law04_sane args bor k = some r := by
  unfold d_law04_sane at h
  split at h
  · exact (R_law04_sane_ok F_sip_Sum L k).trans h
  · cases h
/-! ref04_word : 115 -/
def cbbabaa_ref04_word : CC := (.seq (.reg [⟨(some 8), false, none, .bin .lss (.tmp 7) (.tmp 6)⟩])
 (.seq (.cond (.tmp 8)
 .skip
 (.seq (.mask [false, false, false, true, false, false, false, false, false, false, false, false, false, false, false, false, false, false, false, false, false, false] [true, true, true, true, false, true, true, true, true, true, true, true, true, true, true, true, true, true, true, true, true, true])
 (.exit 0)))
 (.seq (.block 1 (.seq (.reg [⟨(some 9), false, none, .move (.tmp 7) false⟩,
   ⟨(some 4), false, none, .move (.tmp 9) false⟩])
 (.reg [⟨(some 10), false, none, .move (.tmp 3) false⟩,
   ⟨(some 11), false, none, .move (.tmp 0) false⟩,
   ⟨(some 12), false, none, .move (.tmp 4) false⟩,
   ⟨(some 13), false, none, .indexAddrS 1 (.tmp 11) (.tmp 12)⟩,
   ⟨(some 14), false, none, .load false 1 (.tmp 13) false⟩,
   ⟨(some 15), false, none, .conv .u64 (.tmp 14)⟩,
   ⟨(some 16), false, none, .move (.tmp 4) false⟩,
   ⟨(some 17), false, none, .bin .mul (.const (.sc (.int .i64 8))) (.tmp 16)⟩,
   ⟨(some 18), false, none, .bin .shl (.tmp 15) (.tmp 17)⟩,
   ⟨(some 19), false, none, .bin .or (.tmp 10) (.tmp 18)⟩,
   ⟨(some 3), false, none, .move (.tmp 19) false⟩])))
 (.reg [⟨(some 20), false, none, .bin .add (.tmp 7) (.const (.sc (.int .i64 1)))⟩,
   ⟨(some 7), false, none, .move (.tmp 20) false⟩]))))
def cbbb_ref04_word : CC := (.seq (.reg [⟨(some 21), false, none, .move (.tmp 3) false⟩,
   ⟨(some 2), false, none, .move (.tmp 21) false⟩])
 .ret)
def cf_ref04_word : CF := ⟨22, [.tmp 2],
 (.seq (.reg [⟨(some 2), false, none, .move (.const (.sc (.int .u64 0))) false⟩])
 (.seq (.reg [⟨(some 3), false, none, .move (.const (.sc (.int .u64 0))) false⟩])
 (.seq (.seq (.reg [⟨(some 5), false, none, .move (.tmp 0) false⟩,
   ⟨(some 6), false, none, .lenS (.tmp 5)⟩,
   ⟨(some 7), false, none, .move (.const (.sc (.int .i64 0))) false⟩])
 (.block 0 (.loop [true, false, false, true, false, false, true, true, false, false, false, false, false, false, false, false, false, false, false, false, false, false] [true, true, true, true, false, true, true, true, true, true, true, true, true, true, true, true, true, true, true, true, true, true]
 cbbabaa_ref04_word)))
 cbbb_ref04_word)))⟩
def hint_ref04_word : Hint := ⟨[], [], [none, some ([true, false, false, true, false, false, true, true, false, false, false, false, false, false, false, false, false, false, false, false, false, false], [true, true, true, true, false, true, true, true, true, true, true, true, true, true, true, true, true, true, true, true, true, true]), none, some ([false, false, false, true, false, false, false, false, false, false, false, false, false, false, false, false, false, false, false, false, false, false], [true, true, true, true, false, true, true, true, true, true, true, true, true, true, true, true, true, true, true, true, true, true]), none, none], []⟩
def sh_ref04_word : Nat → Sh := shOf [(14, (.int .u8))]
def cb_ref04_word (L : Nat) : CBC := noC
def mbbaba_ref04_word : St → St := mask [true, false, false, true, false, false, true, true, false, false, false, false, false, false, false, false, false, false, false, false, false, false] [true, true, true, true, false, true, true, true, true, true, true, true, true, true, true, true, true, true, true, true, true, true]
def st_hbbaba_ref04_word (p0 : List (List V)) (p3 : Int) (p6 : Int) (p7 : Int) : St := ⟨[(V.sl 1 p0), .junk, .junk, (V.sc (.int .u64 p3)), .junk, .junk, (V.sc (.int .i64 p6)), (V.sc (.int .i64 p7)), .junk, .junk, .junk, .junk, .junk, .junk, .junk, .junk, .junk, .junk, .junk, .junk, .junk, .junk], [.gone, .gone, .gone, .gone, .gone, .gone, .gone, .gone, .gone, .gone, .gone, .gone, .gone, .gone, .gone, .gone, .gone, .gone, .gone, .gone, .gone, .gone]⟩
def st_x0_ref04_word (p3 : Int) : St := ⟨[.junk, .junk, .junk, (V.sc (.int .u64 p3)), .junk, .junk, .junk, .junk, .junk, .junk, .junk, .junk, .junk, .junk, .junk, .junk, .junk, .junk, .junk, .junk, .junk, .junk], [.gone, .gone, .gone, .gone, .gone, .gone, .gone, .gone, .gone, .gone, .gone, .gone, .gone, .gone, .gone, .gone, .gone, .gone, .gone, .gone, .gone, .gone]⟩
def e_ref04_word {β : Type} (L : Nat) (p0 : List (List V)) (k_hbbaba : List (List V) → Int → Int → Int → Option β) : Option β :=
 k_hbbaba p0 (0 : Int) ((List.length p0 : Nat) : Int) (0 : Int)
theorem e_ref04_word_ok {β : Type} (L : Nat) (p0 : List (List V)) (k : V → Bor → Option β) : funC sh_ref04_word (cb_ref04_word L) L cf_ref04_word [(V.sl 1 p0)] [] k = e_ref04_word L p0 (fun p0 p3 p6 p7 => loopM (runC sh_ref04_word (cb_ref04_word L) 0 L cbbabaa_ref04_word) mbbaba_ref04_word L (st_hbbaba_ref04_word p0 p3 p6 p7) (blockK 0 (seqK (runC sh_ref04_word (cb_ref04_word L) 0 L cbbb_ref04_word) (finK 0 (CF.res cf_ref04_word) k)))) := by kernel_rfl
def bbbaba_ref04_word {β : Type} (L : Nat) (p0 : List (List V)) (p3 : Int) (p6 : Int) (p7 : Int) (k_hbbaba : List (List V) → Int → Int → Int → Option β) (k_x0 : Int → Option β) : Option β :=
 ifb (decide (p7 < p6)) (
 idx p0 p7 fun c0 =>
 cI .u8 c0 0 fun v1 =>
 lt (IntKind.wrap .u64 v1) fun x2 =>
 lt (IntKind.wrap .i64 (((8 : Int) : Int) * p7)) fun x3 =>
 chk (0 ≤ x3) (
 lt (ishl .u64 x2 x3) fun x4 =>
 lt (ior .u64 p3 x4) fun x5 =>
 lt (IntKind.wrap .i64 ((p7 : Int) + (1 : Int))) fun x6 =>
 k_hbbaba p0 x5 p6 x6)) (
 k_x0 p3)
theorem bbbaba_ref04_word_ok {β : Type} (L : Nat) (p0 : List (List V)) (p3 : Int) (p6 : Int) (p7 : Int) (X : St → Option β) (K : KT β) : runC sh_ref04_word (cb_ref04_word L) 0 L cbbabaa_ref04_word (st_hbbaba_ref04_word p0 p3 p6 p7) (loopK mbbaba_ref04_word X K) = bbbaba_ref04_word L p0 p3 p6 p7 (fun p0 p3 p6 p7 => X (st_hbbaba_ref04_word p0 p3 p6 p7)) (fun p3 => K (.exit 0) (st_x0_ref04_word p3)) := by kernel_rfl
def rbbabax0_ref04_word {β : Type} (L : Nat) (p3 : Int) (k_fin : Int → Option β) : Option β :=
 k_fin p3
theorem rbbabax0_ref04_word_ok {β : Type} (L : Nat) (p3 : Int) (k : V → Bor → Option β) : (blockK 0 (seqK (runC sh_ref04_word (cb_ref04_word L) 0 L cbbb_ref04_word) (finK 0 (CF.res cf_ref04_word) k))) (.exit 0) (st_x0_ref04_word p3) = rbbabax0_ref04_word L p3 (fun p0 => k (V.sc (.int .u64 p0)) []) := by kernel_rfl
def lbbaba_ref04_word {β : Type} (L : Nat) (k_x0 : Int → Option β) : Nat → List (List V) → Int → Int → Int → Option β
  | 0, _, _, _, _ => none
  | n + 1, p0, p3, p6, p7 => bbbaba_ref04_word L p0 p3 p6 p7 (fun p0 p3 p6 p7 => lbbaba_ref04_word L k_x0 n p0 p3 p6 p7) k_x0
theorem lbbaba_ref04_word_ok {β : Type} (L : Nat) (K : KT β) : ∀ (n : Nat) (p0 : List (List V)) (p3 : Int) (p6 : Int) (p7 : Int), loopM (runC sh_ref04_word (cb_ref04_word L) 0 L cbbabaa_ref04_word) mbbaba_ref04_word n (st_hbbaba_ref04_word p0 p3 p6 p7) K = lbbaba_ref04_word L (fun p3 => K (.exit 0) (st_x0_ref04_word p3)) n p0 p3 p6 p7 := by
  intro n
  induction n with
  | zero => intros; rfl
  | succ n ih =>
    intro p0 p3 p6 p7
    refine (bbbaba_ref04_word_ok L p0 p3 p6 p7 (fun σ => loopM (runC sh_ref04_word (cb_ref04_word L) 0 L cbbabaa_ref04_word) mbbaba_ref04_word n σ K) K).trans ?_
    simp only [ih]
    rfl
def R_ref04_word {β : Type} (L : Nat) (p0 : List (List V)) (k_fin : Int → Option β) : Option β :=
 e_ref04_word L p0 (fun p0 p3 p6 p7 => lbbaba_ref04_word L (fun p3 => rbbabax0_ref04_word L p3 k_fin) L p0 p3 p6 p7)
theorem R_ref04_word_ok {β : Type} (L : Nat) (p0 : List (List V)) (k : V → Bor → Option β) : funC sh_ref04_word (cb_ref04_word L) L cf_ref04_word [(V.sl 1 p0)] [] k = R_ref04_word L p0 (fun p0 => k (V.sc (.int .u64 p0)) []) := by
  refine (e_ref04_word_ok L p0 k).trans ?_
  unfold R_ref04_word
  simp only [lbbaba_ref04_word_ok, rbbabax0_ref04_word_ok]
def F_ref04_word (β : Type) (L : Nat) (p0 : List (List V)) (k_fin : Int → Option β) : Option β := R_ref04_word L p0 k_fin
def d_ref04_word (F_ref04_word : ∀ (β : Type), Nat → List (List V) → (Int → Option β) → Option β) (L : Nat) (β : Type) (args : List V) (bor : Bor) (k : V → Bor → Option β) : Option β := match args, bor with
  | [a0], [] => aL 1 a0 fun p0 => F_ref04_word β L p0 (fun p0 => k (V.sc (.int .u64 p0)) [])
  | _, _ => none
theorem d_ref04_word_ok (L : Nat) (β : Type) (args : List V) (bor : Bor) (k : V → Bor → Option β) (r : β) (h : d_ref04_word F_ref04_word L β args bor k = some r) : funC sh_ref04_word (cb_ref04_word L) L cf_ref04_word args bor k = some r := by
  unfold d_ref04_word at h
  split at h
  · have q := aL_inv h; clear h; obtain ⟨p0, rfl, h⟩ := q
    exact (R_ref04_word_ok L p0 k).trans h
  · cases h
/-! ref04_round : 116 -/
def cf_ref04_round : CF := ⟨64, [.cell 2 true 4],
 (.seq (.reg [⟨(some 1), false, none, .box true (.tmp 0)⟩,
   ⟨(some 2), false, none, .alloc true [(.sc (.int .u64 0)), (.sc (.int .u64 0)), (.sc (.int .u64 0)), (.sc (.int .u64 0))]⟩])
 (.seq (.reg [⟨(some 3), false, none, .indexAddrA 4 1 (.tmp 1) (.const (.sc (.int .i64 0)))⟩,
   ⟨(some 4), false, none, .load false 1 (.tmp 3) false⟩,
   ⟨(some 5), false, none, .indexAddrA 4 1 (.tmp 1) (.const (.sc (.int .i64 1)))⟩,
   ⟨(some 6), false, none, .load false 1 (.tmp 5) false⟩,
   ⟨(some 7), false, none, .bin .add (.tmp 4) (.tmp 6)⟩,
   ⟨(some 8), false, none, .indexAddrA 4 1 (.tmp 1) (.const (.sc (.int .i64 0)))⟩,
   ⟨none, false, none, .store 1 (.tmp 8) (.tmp 7)⟩])
 (.seq (.dreg [] [(⟨(some 9), false, none, .indexAddrA 4 1 (.tmp 1) (.const (.sc (.int .i64 1)))⟩, false),
   (⟨(some 10), false, none, .load false 1 (.tmp 9) false⟩, true),
   (⟨(some 11), false, none, .call 118 [((.tmp 10), false), ((.const (.sc (.int .i64 13))), false)]⟩, true),
   (⟨(some 12), false, none, .indexAddrA 4 1 (.tmp 1) (.const (.sc (.int .i64 0)))⟩, false),
   (⟨(some 13), false, none, .load false 1 (.tmp 12) false⟩, true),
   (⟨(some 14), false, none, .bin .xor (.tmp 11) (.tmp 13)⟩, false),
   (⟨(some 15), false, none, .indexAddrA 4 1 (.tmp 1) (.const (.sc (.int .i64 1)))⟩, false),
   (⟨none, false, none, .store 1 (.tmp 15) (.tmp 14)⟩, false)])
 (.seq (.reg [⟨(some 16), false, none, .indexAddrA 4 1 (.tmp 1) (.const (.sc (.int .i64 0)))⟩,
   ⟨(some 17), false, none, .load false 1 (.tmp 16) false⟩,
   ⟨(some 18), false, none, .call 118 [((.tmp 17), false), ((.const (.sc (.int .i64 32))), false)]⟩,
   ⟨(some 19), false, none, .indexAddrA 4 1 (.tmp 1) (.const (.sc (.int .i64 0)))⟩,
   ⟨none, false, none, .store 1 (.tmp 19) (.tmp 18)⟩])
 (.seq (.reg [⟨(some 20), false, none, .indexAddrA 4 1 (.tmp 1) (.const (.sc (.int .i64 2)))⟩,
   ⟨(some 21), false, none, .load false 1 (.tmp 20) false⟩,
   ⟨(some 22), false, none, .indexAddrA 4 1 (.tmp 1) (.const (.sc (.int .i64 3)))⟩,
   ⟨(some 23), false, none, .load false 1 (.tmp 22) false⟩,
   ⟨(some 24), false, none, .bin .add (.tmp 21) (.tmp 23)⟩,
   ⟨(some 25), false, none, .indexAddrA 4 1 (.tmp 1) (.const (.sc (.int .i64 2)))⟩,
   ⟨none, false, none, .store 1 (.tmp 25) (.tmp 24)⟩])
 (.seq (.dreg [] [(⟨(some 26), false, none, .indexAddrA 4 1 (.tmp 1) (.const (.sc (.int .i64 3)))⟩, false),
   (⟨(some 27), false, none, .load false 1 (.tmp 26) false⟩, true),
   (⟨(some 28), false, none, .call 118 [((.tmp 27), false), ((.const (.sc (.int .i64 16))), false)]⟩, true),
   (⟨(some 29), false, none, .indexAddrA 4 1 (.tmp 1) (.const (.sc (.int .i64 2)))⟩, false),
   (⟨(some 30), false, none, .load false 1 (.tmp 29) false⟩, true),
   (⟨(some 31), false, none, .bin .xor (.tmp 28) (.tmp 30)⟩, false),
   (⟨(some 32), false, none, .indexAddrA 4 1 (.tmp 1) (.const (.sc (.int .i64 3)))⟩, false),
   (⟨none, false, none, .store 1 (.tmp 32) (.tmp 31)⟩, false)])
 (.seq (.reg [⟨(some 33), false, none, .indexAddrA 4 1 (.tmp 1) (.const (.sc (.int .i64 0)))⟩,
   ⟨(some 34), false, none, .load false 1 (.tmp 33) false⟩,
   ⟨(some 35), false, none, .indexAddrA 4 1 (.tmp 1) (.const (.sc (.int .i64 3)))⟩,
   ⟨(some 36), false, none, .load false 1 (.tmp 35) false⟩,
   ⟨(some 37), false, none, .bin .add (.tmp 34) (.tmp 36)⟩,
   ⟨(some 38), false, none, .indexAddrA 4 1 (.tmp 1) (.const (.sc (.int .i64 0)))⟩,
   ⟨none, false, none, .store 1 (.tmp 38) (.tmp 37)⟩])
 (.seq (.dreg [] [(⟨(some 39), false, none, .indexAddrA 4 1 (.tmp 1) (.const (.sc (.int .i64 3)))⟩, false),
   (⟨(some 40), false, none, .load false 1 (.tmp 39) false⟩, true),
   (⟨(some 41), false, none, .call 118 [((.tmp 40), false), ((.const (.sc (.int .i64 21))), false)]⟩, true),
   (⟨(some 42), false, none, .indexAddrA 4 1 (.tmp 1) (.const (.sc (.int .i64 0)))⟩, false),
   (⟨(some 43), false, none, .load false 1 (.tmp 42) false⟩, true),
   (⟨(some 44), false, none, .bin .xor (.tmp 41) (.tmp 43)⟩, false),
   (⟨(some 45), false, none, .indexAddrA 4 1 (.tmp 1) (.const (.sc (.int .i64 3)))⟩, false),
   (⟨none, false, none, .store 1 (.tmp 45) (.tmp 44)⟩, false)])
 (.seq (.reg [⟨(some 46), false, none, .indexAddrA 4 1 (.tmp 1) (.const (.sc (.int .i64 2)))⟩,
   ⟨(some 47), false, none, .load false 1 (.tmp 46) false⟩,
   ⟨(some 48), false, none, .indexAddrA 4 1 (.tmp 1) (.const (.sc (.int .i64 1)))⟩,
   ⟨(some 49), false, none, .load false 1 (.tmp 48) false⟩,
   ⟨(some 50), false, none, .bin .add (.tmp 47) (.tmp 49)⟩,
   ⟨(some 51), false, none, .indexAddrA 4 1 (.tmp 1) (.const (.sc (.int .i64 2)))⟩,
   ⟨none, false, none, .store 1 (.tmp 51) (.tmp 50)⟩])
 (.seq (.dreg [] [(⟨(some 52), false, none, .indexAddrA 4 1 (.tmp 1) (.const (.sc (.int .i64 1)))⟩, false),
   (⟨(some 53), false, none, .load false 1 (.tmp 52) false⟩, true),
   (⟨(some 54), false, none, .call 118 [((.tmp 53), false), ((.const (.sc (.int .i64 17))), false)]⟩, true),
   (⟨(some 55), false, none, .indexAddrA 4 1 (.tmp 1) (.const (.sc (.int .i64 2)))⟩, false),
   (⟨(some 56), false, none, .load false 1 (.tmp 55) false⟩, true),
   (⟨(some 57), false, none, .bin .xor (.tmp 54) (.tmp 56)⟩, false),
   (⟨(some 58), false, none, .indexAddrA 4 1 (.tmp 1) (.const (.sc (.int .i64 1)))⟩, false),
   (⟨none, false, none, .store 1 (.tmp 58) (.tmp 57)⟩, false)])
 (.seq (.reg [⟨(some 59), false, none, .indexAddrA 4 1 (.tmp 1) (.const (.sc (.int .i64 2)))⟩,
   ⟨(some 60), false, none, .load false 1 (.tmp 59) false⟩,
   ⟨(some 61), false, none, .call 118 [((.tmp 60), false), ((.const (.sc (.int .i64 32))), false)]⟩,
   ⟨(some 62), false, none, .indexAddrA 4 1 (.tmp 1) (.const (.sc (.int .i64 2)))⟩,
   ⟨none, false, none, .store 1 (.tmp 62) (.tmp 61)⟩])
 (.seq (.reg [⟨(some 63), false, none, .load true 4 (.tmp 1) false⟩,
   ⟨none, false, none, .store 4 (.tmp 2) (.tmp 63)⟩])
 .ret))))))))))))⟩
def hint_ref04_round : Hint := ⟨[], [], [none], []⟩
def sh_ref04_round : Nat → Sh := shOf [(4, (.int .u64)), (6, (.int .u64)), (10, (.int .u64)), (13, (.int .u64)), (17, (.int .u64)), (21, (.int .u64)), (23, (.int .u64)), (27, (.int .u64)), (30, (.int .u64)), (34, (.int .u64)), (36, (.int .u64)), (40, (.int .u64)), (43, (.int .u64)), (47, (.int .u64)), (49, (.int .u64)), (53, (.int .u64)), (56, (.int .u64)), (60, (.int .u64))]
def cb_ref04_round (F_math_bits_RotateLeft64 : ∀ (β : Type), Nat → Int → Int → (Int → Option β) → Option β) (L : Nat) : CBC := (addC 118 (d_math_bits_RotateLeft64 F_math_bits_RotateLeft64 L) noC)
def R_ref04_round {β : Type} (F_math_bits_RotateLeft64 : ∀ (β : Type), Nat → Int → Int → (Int → Option β) → Option β) (L : Nat) (p0 : List V) (k_fin : List V → Option β) : Option β :=
 cI .u64 p0 0 fun v0 =>
 cI .u64 p0 1 fun v1 =>
 lt (IntKind.wrap .u64 ((v0 : Int) + v1)) fun x2 =>
 chk (1 = 1 ∧ 0 + 1 ≤ (List.length p0)) (
 lt (setAt p0 0 [(V.sc (.int .u64 x2))]) fun r3 =>
 cI .u64 r3 1 fun v4 =>
 F_math_bits_RotateLeft64 β L v4 (13 : Int) (fun v5 =>
 cI .u64 r3 0 fun v6 =>
 lt (ixor .u64 v5 v6) fun x7 =>
 chk (1 = 1 ∧ 1 + 1 ≤ (List.length r3)) (
 lt (setAt r3 1 [(V.sc (.int .u64 x7))]) fun r8 =>
 cI .u64 r8 0 fun v9 =>
 F_math_bits_RotateLeft64 β L v9 (32 : Int) (fun v10 =>
 chk (1 = 1 ∧ 0 + 1 ≤ (List.length r8)) (
 lt (setAt r8 0 [(V.sc (.int .u64 v10))]) fun r11 =>
 cI .u64 r11 2 fun v12 =>
 cI .u64 r11 3 fun v13 =>
 lt (IntKind.wrap .u64 ((v12 : Int) + v13)) fun x14 =>
 chk (1 = 1 ∧ 2 + 1 ≤ (List.length r11)) (
 lt (setAt r11 2 [(V.sc (.int .u64 x14))]) fun r15 =>
 cI .u64 r15 3 fun v16 =>
 F_math_bits_RotateLeft64 β L v16 (16 : Int) (fun v17 =>
 cI .u64 r15 2 fun v18 =>
 lt (ixor .u64 v17 v18) fun x19 =>
 chk (1 = 1 ∧ 3 + 1 ≤ (List.length r15)) (
 lt (setAt r15 3 [(V.sc (.int .u64 x19))]) fun r20 =>
 cI .u64 r20 0 fun v21 =>
 cI .u64 r20 3 fun v22 =>
 lt (IntKind.wrap .u64 ((v21 : Int) + v22)) fun x23 =>
 chk (1 = 1 ∧ 0 + 1 ≤ (List.length r20)) (
 lt (setAt r20 0 [(V.sc (.int .u64 x23))]) fun r24 =>
 cI .u64 r24 3 fun v25 =>
 F_math_bits_RotateLeft64 β L v25 (21 : Int) (fun v26 =>
 cI .u64 r24 0 fun v27 =>
 lt (ixor .u64 v26 v27) fun x28 =>
 chk (1 = 1 ∧ 3 + 1 ≤ (List.length r24)) (
 lt (setAt r24 3 [(V.sc (.int .u64 x28))]) fun r29 =>
 cI .u64 r29 2 fun v30 =>
 cI .u64 r29 1 fun v31 =>
 lt (IntKind.wrap .u64 ((v30 : Int) + v31)) fun x32 =>
 chk (1 = 1 ∧ 2 + 1 ≤ (List.length r29)) (
 lt (setAt r29 2 [(V.sc (.int .u64 x32))]) fun r33 =>
 cI .u64 r33 1 fun v34 =>
 F_math_bits_RotateLeft64 β L v34 (17 : Int) (fun v35 =>
 cI .u64 r33 2 fun v36 =>
 lt (ixor .u64 v35 v36) fun x37 =>
 chk (1 = 1 ∧ 1 + 1 ≤ (List.length r33)) (
 lt (setAt r33 1 [(V.sc (.int .u64 x37))]) fun r38 =>
 cI .u64 r38 2 fun v39 =>
 F_math_bits_RotateLeft64 β L v39 (32 : Int) (fun v40 =>
 chk (1 = 1 ∧ 2 + 1 ≤ (List.length r38)) (
 lt (setAt r38 2 [(V.sc (.int .u64 v40))]) fun r41 =>
 chk (0 + 4 ≤ (List.length r41)) (
 chk ((List.length (List.take 4 r41)) = 4 ∧ 0 + 4 ≤ 4) (
 lt (setAt [(V.sc (.int .u64 (0 : Int))), (V.sc (.int .u64 (0 : Int))), (V.sc (.int .u64 (0 : Int))), (V.sc (.int .u64 (0 : Int)))] 0 (List.take 4 r41)) fun r42 =>
 chk (0 = 0 ∧ (List.length r42) = 4) (
 k_fin r42)))))))))))))))))))
theorem R_ref04_round_ok {β : Type} (F_math_bits_RotateLeft64 : ∀ (β : Type), Nat → Int → Int → (Int → Option β) → Option β) (L : Nat) (p0 : List V) (k : V → Bor → Option β) : funC sh_ref04_round (cb_ref04_round F_math_bits_RotateLeft64 L) L cf_ref04_round [(V.agg p0)] [] k = R_ref04_round F_math_bits_RotateLeft64 L p0 (fun p0 => k (V.agg p0) []) := by kernel_rfl
def F_ref04_round (β : Type) (L : Nat) (p0 : List V) (k_fin : List V → Option β) : Option β := R_ref04_round F_math_bits_RotateLeft64 L p0 k_fin
def d_ref04_round (F_ref04_round : ∀ (β : Type), Nat → List V → (List V → Option β) → Option β) (L : Nat) (β : Type) (args : List V) (bor : Bor) (k : V → Bor → Option β) : Option β := match args, bor with
  | [a0], [] => aG a0 fun p0 => F_ref04_round β L p0 (fun p0 => k (V.agg p0) [])
  | _, _ => none
theorem d_ref04_round_ok (L : Nat) (β : Type) (args : List V) (bor : Bor) (k : V → Bor → Option β) (r : β) (h : d_ref04_round F_ref04_round L β args bor k = some r) : funC sh_ref04_round (cb_ref04_round F_math_bits_RotateLeft64 L) L cf_ref04_round args bor k = some r := by
  unfold d_ref04_round at h
  split at h
  · have q := aG_inv h; clear h; obtain ⟨p0, rfl, h⟩ := q
    exact (R_ref04_round_ok F_math_bits_RotateLeft64 L p0 k).trans h
  · cases h
/-! ref04_absorb : 114 -/
def cf_ref04_absorb : CF := ⟨19, [.cell 4 true 4],
 (.seq (.reg [⟨(some 2), false, none, .box true (.tmp 0)⟩,
   ⟨(some 4), false, none, .alloc true [(.sc (.int .u64 0)), (.sc (.int .u64 0)), (.sc (.int .u64 0)), (.sc (.int .u64 0))]⟩])
 (.seq (.reg [⟨(some 5), false, none, .indexAddrA 4 1 (.tmp 2) (.const (.sc (.int .i64 3)))⟩,
   ⟨(some 6), false, none, .load false 1 (.tmp 5) false⟩,
   ⟨(some 7), false, none, .move (.tmp 1) false⟩,
   ⟨(some 8), false, none, .bin .xor (.tmp 6) (.tmp 7)⟩,
   ⟨(some 9), false, none, .indexAddrA 4 1 (.tmp 2) (.const (.sc (.int .i64 3)))⟩,
   ⟨none, false, none, .store 1 (.tmp 9) (.tmp 8)⟩])
 (.seq (.reg [⟨(some 10), false, none, .load true 4 (.tmp 2) false⟩,
   ⟨(some 11), false, none, .call 116 [((.tmp 10), false)]⟩,
   ⟨(some 12), false, none, .call 116 [((.tmp 11), false)]⟩,
   ⟨none, false, none, .store 4 (.tmp 2) (.tmp 12)⟩])
 (.seq (.reg [⟨(some 13), false, none, .indexAddrA 4 1 (.tmp 2) (.const (.sc (.int .i64 0)))⟩,
   ⟨(some 14), false, none, .load false 1 (.tmp 13) false⟩,
   ⟨(some 15), false, none, .move (.tmp 1) false⟩,
   ⟨(some 16), false, none, .bin .xor (.tmp 14) (.tmp 15)⟩,
   ⟨(some 17), false, none, .indexAddrA 4 1 (.tmp 2) (.const (.sc (.int .i64 0)))⟩,
   ⟨none, false, none, .store 1 (.tmp 17) (.tmp 16)⟩])
 (.seq (.reg [⟨(some 18), false, none, .load true 4 (.tmp 2) false⟩,
   ⟨none, false, none, .store 4 (.tmp 4) (.tmp 18)⟩])
 .ret)))))⟩
def hint_ref04_absorb : Hint := ⟨[], [], [none], []⟩
def sh_ref04_absorb : Nat → Sh := shOf [(6, (.int .u64)), (14, (.int .u64))]
def cb_ref04_absorb (F_ref04_round : ∀ (β : Type), Nat → List V → (List V → Option β) → Option β) (L : Nat) : CBC := (addC 116 (d_ref04_round F_ref04_round L) noC)
def R_ref04_absorb {β : Type} (F_ref04_round : ∀ (β : Type), Nat → List V → (List V → Option β) → Option β) (L : Nat) (p0 : List V) (p1 : Int) (k_fin : List V → Option β) : Option β :=
 cI .u64 p0 3 fun v0 =>
 lt (ixor .u64 v0 p1) fun x1 =>
 chk (1 = 1 ∧ 3 + 1 ≤ (List.length p0)) (
 lt (setAt p0 3 [(V.sc (.int .u64 x1))]) fun r2 =>
 chk (0 + 4 ≤ (List.length r2)) (
 F_ref04_round β L (List.take 4 r2) (fun v3 =>
 F_ref04_round β L v3 (fun v4 =>
 chk ((List.length v4) = 4 ∧ 0 + 4 ≤ (List.length r2)) (
 lt (setAt r2 0 v4) fun r5 =>
 cI .u64 r5 0 fun v6 =>
 lt (ixor .u64 v6 p1) fun x7 =>
 chk (1 = 1 ∧ 0 + 1 ≤ (List.length r5)) (
 lt (setAt r5 0 [(V.sc (.int .u64 x7))]) fun r8 =>
 chk (0 + 4 ≤ (List.length r8)) (
 chk ((List.length (List.take 4 r8)) = 4 ∧ 0 + 4 ≤ 4) (
 lt (setAt [(V.sc (.int .u64 (0 : Int))), (V.sc (.int .u64 (0 : Int))), (V.sc (.int .u64 (0 : Int))), (V.sc (.int .u64 (0 : Int)))] 0 (List.take 4 r8)) fun r9 =>
 chk (0 = 0 ∧ (List.length r9) = 4) (
 k_fin r9)))))))))
theorem R_ref04_absorb_ok {β : Type} (F_ref04_round : ∀ (β : Type), Nat → List V → (List V → Option β) → Option β) (L : Nat) (p0 : List V) (p1 : Int) (k : V → Bor → Option β) : funC sh_ref04_absorb (cb_ref04_absorb F_ref04_round L) L cf_ref04_absorb [(V.agg p0), (V.sc (.int .u64 p1))] [] k = R_ref04_absorb F_ref04_round L p0 p1 (fun p0 => k (V.agg p0) []) := by kernel_rfl
def F_ref04_absorb (β : Type) (L : Nat) (p0 : List V) (p1 : Int) (k_fin : List V → Option β) : Option β := R_ref04_absorb F_ref04_round L p0 p1 k_fin
def d_ref04_absorb (F_ref04_absorb : ∀ (β : Type), Nat → List V → Int → (List V → Option β) → Option β) (L : Nat) (β : Type) (args : List V) (bor : Bor) (k : V → Bor → Option β) : Option β := match args, bor with
  | [a0, a1], [] => aG a0 fun p0 => aI .u64 a1 fun p1 => F_ref04_absorb β L p0 p1 (fun p0 => k (V.agg p0) [])
  | _, _ => none
theorem d_ref04_absorb_ok (L : Nat) (β : Type) (args : List V) (bor : Bor) (k : V → Bor → Option β) (r : β) (h : d_ref04_absorb F_ref04_absorb L β args bor k = some r) : funC sh_ref04_absorb (cb_ref04_absorb F_ref04_round L) L cf_ref04_absorb args bor k = some r := by
  unfold d_ref04_absorb at h
  split at h
  · have q := aG_inv h; clear h; obtain ⟨p0, rfl, h⟩ := q
    have q := aI_inv h; clear h; obtain ⟨p1, rfl, h⟩ := q
    exact (R_ref04_absorb_ok F_ref04_round L p0 p1 k).trans h
  · cases h
/-! ref04_Sum : 106 -/
def cbbbaaa_ref04_Sum : CC := (.seq (.seq (.reg [⟨(some 22), false, none, .move (.tmp 1) false⟩,
   ⟨(some 23), false, none, .lenS (.tmp 22)⟩,
   ⟨(some 24), false, none, .bin .geq (.tmp 23) (.const (.sc (.int .i64 8)))⟩])
 (.cond (.tmp 24)
 .skip
 (.seq (.mask [false, true, false, false, false, true, true, false, false, false, false, false, false, false, false, false, false, false, false, false, false, false, false, false, false, false, false, false, false, false, false, false, false, false, false, false, false, false, false, false, false, false, false, false, false, false, false, false, false, false, false, false, false, false, false, false, false, false, false, false, false] [true, true, true, true, true, true, true, true, true, true, true, true, true, true, true, true, true, true, true, true, true, true, true, false, true, true, true, true, false, false, true, true, true, true, true, true, true, true, true, true, true, true, true, true, true, true, true, true, true, true, true, true, true, true, true, true, true, true, true, true, true])
 (.exit 0))))
 (.block 1 (.dreg [] [(⟨(some 25), false, none, .load true 4 (.tmp 5) false⟩, true),
   (⟨(some 26), false, none, .move (.tmp 1) false⟩, false),
   (⟨(some 27), false, none, .sliceS 1 (.tmp 26) none (some (.const (.sc (.int .i64 8)))) none⟩, false),
   (⟨(some 28), false, none, .call 115 [((.tmp 27), false)]⟩, true),
   (⟨(some 29), false, none, .call 114 [((.tmp 25), false), ((.tmp 28), false)]⟩, false),
   (⟨(some 30), false, none, .move (.tmp 1) false⟩, false),
   (⟨(some 31), false, none, .sliceS 1 (.tmp 30) (some (.const (.sc (.int .i64 8)))) none none⟩, false),
   (⟨none, false, none, .store 4 (.tmp 5) (.tmp 29)⟩, false),
   (⟨(some 1), false, none, .move (.tmp 31) true⟩, false)])))
def cbbbb_ref04_Sum : CC := (.seq (.dreg [] [(⟨(some 32), false, none, .load true 4 (.tmp 5) false⟩, true),
   (⟨(some 33), false, none, .move (.tmp 1) true⟩, true),
   (⟨(some 34), false, none, .call 115 [((.tmp 33), false)]⟩, true),
   (⟨(some 35), false, none, .move (.tmp 6) false⟩, false),
   (⟨(some 36), false, none, .bin .rem (.tmp 35) (.const (.sc (.int .i64 256)))⟩, false),
   (⟨(some 37), false, none, .conv .u64 (.tmp 36)⟩, false),
   (⟨(some 38), false, none, .bin .shl (.tmp 37) (.const (.sc (.int .u64 56)))⟩, false),
   (⟨(some 39), false, none, .bin .or (.tmp 34) (.tmp 38)⟩, false),
   (⟨(some 40), false, none, .call 114 [((.tmp 32), false), ((.tmp 39), false)]⟩, false),
   (⟨none, false, none, .store 4 (.tmp 5) (.tmp 40)⟩, false)])
 (.seq (.reg [⟨(some 41), false, none, .indexAddrA 4 1 (.tmp 5) (.const (.sc (.int .i64 2)))⟩,
   ⟨(some 42), false, none, .load false 1 (.tmp 41) false⟩,
   ⟨(some 43), false, none, .bin .xor (.tmp 42) (.const (.sc (.int .u64 255)))⟩,
   ⟨(some 44), false, none, .indexAddrA 4 1 (.tmp 5) (.const (.sc (.int .i64 2)))⟩,
   ⟨none, false, none, .store 1 (.tmp 44) (.tmp 43)⟩])
 (.seq (.reg [⟨(some 45), false, none, .load true 4 (.tmp 5) false⟩,
   ⟨(some 46), false, none, .call 116 [((.tmp 45), false)]⟩,
   ⟨(some 47), false, none, .call 116 [((.tmp 46), false)]⟩,
   ⟨(some 48), false, none, .call 116 [((.tmp 47), false)]⟩,
   ⟨(some 49), false, none, .call 116 [((.tmp 48), false)]⟩,
   ⟨none, false, none, .store 4 (.tmp 5) (.tmp 49)⟩])
 (.seq (.reg [⟨(some 50), false, none, .indexAddrA 4 1 (.tmp 5) (.const (.sc (.int .i64 0)))⟩,
   ⟨(some 51), false, none, .load false 1 (.tmp 50) false⟩,
   ⟨(some 52), false, none, .indexAddrA 4 1 (.tmp 5) (.const (.sc (.int .i64 1)))⟩,
   ⟨(some 53), false, none, .load false 1 (.tmp 52) false⟩,
   ⟨(some 54), false, none, .bin .xor (.tmp 51) (.tmp 53)⟩,
   ⟨(some 55), false, none, .indexAddrA 4 1 (.tmp 5) (.const (.sc (.int .i64 2)))⟩,
   ⟨(some 56), false, none, .load false 1 (.tmp 55) false⟩,
   ⟨(some 57), false, none, .bin .xor (.tmp 54) (.tmp 56)⟩,
   ⟨(some 58), false, none, .indexAddrA 4 1 (.tmp 5) (.const (.sc (.int .i64 3)))⟩,
   ⟨(some 59), false, none, .load false 1 (.tmp 58) false⟩,
   ⟨(some 60), false, none, .bin .xor (.tmp 57) (.tmp 59)⟩,
   ⟨(some 4), false, none, .move (.tmp 60) false⟩])
 .ret))))
def cf_ref04_Sum : CF := ⟨61, [.tmp 4],
 (.seq (.reg [⟨(some 2), false, none, .box true (.tmp 0)⟩,
   ⟨(some 4), false, none, .move (.const (.sc (.int .u64 0))) false⟩])
 (.seq (.reg [⟨(some 7), false, none, .indexAddrA 2 1 (.tmp 2) (.const (.sc (.int .i64 0)))⟩,
   ⟨(some 8), false, none, .load false 1 (.tmp 7) false⟩,
   ⟨(some 9), false, none, .bin .xor (.tmp 8) (.const (.sc (.int .u64 8317987319222330741)))⟩,
   ⟨(some 10), false, none, .indexAddrA 2 1 (.tmp 2) (.const (.sc (.int .i64 1)))⟩,
   ⟨(some 11), false, none, .load false 1 (.tmp 10) false⟩,
   ⟨(some 12), false, none, .bin .xor (.tmp 11) (.const (.sc (.int .u64 7237128888997146477)))⟩,
   ⟨(some 13), false, none, .indexAddrA 2 1 (.tmp 2) (.const (.sc (.int .i64 0)))⟩,
   ⟨(some 14), false, none, .load false 1 (.tmp 13) false⟩,
   ⟨(some 15), false, none, .bin .xor (.tmp 14) (.const (.sc (.int .u64 7816392313619706465)))⟩,
   ⟨(some 16), false, none, .indexAddrA 2 1 (.tmp 2) (.const (.sc (.int .i64 1)))⟩,
   ⟨(some 17), false, none, .load false 1 (.tmp 16) false⟩,
   ⟨(some 18), false, none, .bin .xor (.tmp 17) (.const (.sc (.int .u64 8387220255154660723)))⟩,
   ⟨(some 19), false, none, .build [(.sc (.int .u64 0)), (.sc (.int .u64 0)), (.sc (.int .u64 0)), (.sc (.int .u64 0))] [(0, 1, (.tmp 9)), (1, 1, (.tmp 12)), (2, 1, (.tmp 15)), (3, 1, (.tmp 18))]⟩,
   ⟨(some 5), false, none, .alloc true [(.sc (.int .u64 0)), (.sc (.int .u64 0)), (.sc (.int .u64 0)), (.sc (.int .u64 0))]⟩,
   ⟨none, false, none, .store 4 (.tmp 5) (.tmp 19)⟩])
 (.seq (.reg [⟨(some 20), false, none, .move (.tmp 1) false⟩,
   ⟨(some 21), false, none, .lenS (.tmp 20)⟩,
   ⟨(some 6), false, none, .move (.tmp 21) false⟩])
 (.seq (.block 0 (.loop [false, true, false, false, false, true, true, false, false, false, false, false, false, false, false, false, false, false, false, false, false, false, false, false, false, false, false, false, false, false, false, false, false, false, false, false, false, false, false, false, false, false, false, false, false, false, false, false, false, false, false, false, false, false, false, false, false, false, false, false, false] [true, true, true, true, true, true, true, true, true, true, true, true, true, true, true, true, true, true, true, true, true, true, true, false, true, true, true, true, false, false, true, true, true, true, true, true, true, true, true, true, true, true, true, true, true, true, true, true, true, true, true, true, true, true, true, true, true, true, true, true, true]
 cbbbaaa_ref04_Sum))
 cbbbb_ref04_Sum))))⟩
def hint_ref04_Sum : Hint := ⟨[(4, 8), (5, 1)], [], [none, some ([false, true, false, false, false, true, true, false, false, false, false, false, false, false, false, false, false, false, false, false, false, false, false, false, false, false, false, false, false, false, false, false, false, false, false, false, false, false, false, false, false, false, false, false, false, false, false, false, false, false, false, false, false, false, false, false, false, false, false, false, false], [true, true, true, true, true, true, true, true, true, true, true, true, true, true, true, true, true, true, true, true, true, true, true, false, true, true, true, true, false, false, true, true, true, true, true, true, true, true, true, true, true, true, true, true, true, true, true, true, true, true, true, true, true, true, true, true, true, true, true, true, true]), none, some ([false, true, false, false, false, true, true, false, false, false, false, false, false, false, false, false, false, false, false, false, false, false, false, false, false, false, false, false, false, false, false, false, false, false, false, false, false, false, false, false, false, false, false, false, false, false, false, false, false, false, false, false, false, false, false, false, false, false, false, false, false], [true, true, true, true, true, true, true, true, true, true, true, true, true, true, true, true, true, true, true, true, true, true, true, false, true, true, true, true, false, false, true, true, true, true, true, true, true, true, true, true, true, true, true, true, true, true, true, true, true, true, true, true, true, true, true, true, true, true, true, true, true]), none, none], []⟩
def sh_ref04_Sum : Nat → Sh := shOf [(8, (.int .u64)), (11, (.int .u64)), (14, (.int .u64)), (17, (.int .u64)), (42, (.int .u64)), (51, (.int .u64)), (53, (.int .u64)), (56, (.int .u64)), (59, (.int .u64))]
def cb_ref04_Sum (F_ref04_word : ∀ (β : Type), Nat → List (List V) → (Int → Option β) → Option β) (F_ref04_absorb : ∀ (β : Type), Nat → List V → Int → (List V → Option β) → Option β) (F_ref04_round : ∀ (β : Type), Nat → List V → (List V → Option β) → Option β) (L : Nat) : CBC := (addC 116 (d_ref04_round F_ref04_round L) (addC 114 (d_ref04_absorb F_ref04_absorb L) (addC 115 (d_ref04_word F_ref04_word L) noC)))
def mbbbaa_ref04_Sum : St → St := mask [false, true, false, false, false, true, true, false, false, false, false, false, false, false, false, false, false, false, false, false, false, false, false, false, false, false, false, false, false, false, false, false, false, false, false, false, false, false, false, false, false, false, false, false, false, false, false, false, false, false, false, false, false, false, false, false, false, false, false, false, false] [true, true, true, true, true, true, true, true, true, true, true, true, true, true, true, true, true, true, true, true, true, true, true, false, true, true, true, true, false, false, true, true, true, true, true, true, true, true, true, true, true, true, true, true, true, true, true, true, true, true, true, true, true, true, true, true, true, true, true, true, true]
def st_hbbbaa_ref04_Sum (p1 : List (List V)) (p6 : Int) (b2 : List V) (b5 : List V) : St := ⟨[.junk, (V.sl 1 p1), .junk, .junk, .junk, (V.ptr 5 0), (V.sc (.int .i64 p6)), .junk, .junk, .junk, .junk, .junk, .junk, .junk, .junk, .junk, .junk, .junk, .junk, .junk, .junk, .junk, .junk, .junk, .junk, .junk, .junk, .junk, .junk, .junk, .junk, .junk, .junk, .junk, .junk, .junk, .junk, .junk, .junk, .junk, .junk, .junk, .junk, .junk, .junk, .junk, .junk, .junk, .junk, .junk, .junk, .junk, .junk, .junk, .junk, .junk, .junk, .junk, .junk, .junk, .junk], [.gone, .gone, (.live true b2), .gone, .gone, (.live true b5), .gone, .gone, .gone, .gone, .gone, .gone, .gone, .gone, .gone, .gone, .gone, .gone, .gone, .gone, .gone, .gone, .gone, .gone, .gone, .gone, .gone, .gone, .gone, .gone, .gone, .gone, .gone, .gone, .gone, .gone, .gone, .gone, .gone, .gone, .gone, .gone, .gone, .gone, .gone, .gone, .gone, .gone, .gone, .gone, .gone, .gone, .gone, .gone, .gone, .gone, .gone, .gone, .gone, .gone, .gone]⟩
def st_x0_ref04_Sum (p1 : List (List V)) (p6 : Int) (b2 : List V) (b5 : List V) : St := ⟨[.junk, (V.sl 1 p1), .junk, .junk, .junk, (V.ptr 5 0), (V.sc (.int .i64 p6)), .junk, .junk, .junk, .junk, .junk, .junk, .junk, .junk, .junk, .junk, .junk, .junk, .junk, .junk, .junk, .junk, .junk, .junk, .junk, .junk, .junk, .junk, .junk, .junk, .junk, .junk, .junk, .junk, .junk, .junk, .junk, .junk, .junk, .junk, .junk, .junk, .junk, .junk, .junk, .junk, .junk, .junk, .junk, .junk, .junk, .junk, .junk, .junk, .junk, .junk, .junk, .junk, .junk, .junk], [.gone, .gone, (.live true b2), .gone, .gone, (.live true b5), .gone, .gone, .gone, .gone, .gone, .gone, .gone, .gone, .gone, .gone, .gone, .gone, .gone, .gone, .gone, .gone, .gone, .gone, .gone, .gone, .gone, .gone, .gone, .gone, .gone, .gone, .gone, .gone, .gone, .gone, .gone, .gone, .gone, .gone, .gone, .gone, .gone, .gone, .gone, .gone, .gone, .gone, .gone, .gone, .gone, .gone, .gone, .gone, .gone, .gone, .gone, .gone, .gone, .gone, .gone]⟩
def e_ref04_Sum {β : Type} (F_ref04_word : ∀ (β : Type), Nat → List (List V) → (Int → Option β) → Option β) (F_ref04_absorb : ∀ (β : Type), Nat → List V → Int → (List V → Option β) → Option β) (F_ref04_round : ∀ (β : Type), Nat → List V → (List V → Option β) → Option β) (L : Nat) (p0 : List V) (p1 : List (List V)) (k_hbbbaa : List (List V) → Int → List V → List V → Option β) : Option β :=
 cI .u64 p0 0 fun v0 =>
 lt (ixor .u64 v0 (8317987319222330741 : Int)) fun x1 =>
 cI .u64 p0 1 fun v2 =>
 lt (ixor .u64 v2 (7237128888997146477 : Int)) fun x3 =>
 cI .u64 p0 0 fun v4 =>
 lt (ixor .u64 v4 (7816392313619706465 : Int)) fun x5 =>
 cI .u64 p0 1 fun v6 =>
 lt (ixor .u64 v6 (8387220255154660723 : Int)) fun x7 =>
 lt [(V.sc (.int .u64 x1)), (V.sc (.int .u64 x3)), (V.sc (.int .u64 x5)), (V.sc (.int .u64 x7))] fun r8 =>
 k_hbbbaa p1 ((List.length p1 : Nat) : Int) p0 r8
theorem e_ref04_Sum_ok {β : Type} (F_ref04_word : ∀ (β : Type), Nat → List (List V) → (Int → Option β) → Option β) (F_ref04_absorb : ∀ (β : Type), Nat → List V → Int → (List V → Option β) → Option β) (F_ref04_round : ∀ (β : Type), Nat → List V → (List V → Option β) → Option β) (L : Nat) (p0 : List V) (p1 : List (List V)) (k : V → Bor → Option β) : funC sh_ref04_Sum (cb_ref04_Sum F_ref04_word F_ref04_absorb F_ref04_round L) L cf_ref04_Sum [(V.agg p0), (V.sl 1 p1)] [] k = e_ref04_Sum F_ref04_word F_ref04_absorb F_ref04_round L p0 p1 (fun p1 p6 b2 b5 => loopM (runC sh_ref04_Sum (cb_ref04_Sum F_ref04_word F_ref04_absorb F_ref04_round L) 0 L cbbbaaa_ref04_Sum) mbbbaa_ref04_Sum L (st_hbbbaa_ref04_Sum p1 p6 b2 b5) (blockK 0 (seqK (runC sh_ref04_Sum (cb_ref04_Sum F_ref04_word F_ref04_absorb F_ref04_round L) 0 L cbbbb_ref04_Sum) (finK 0 (CF.res cf_ref04_Sum) k)))) := by kernel_rfl
def bbbbaa_ref04_Sum {β : Type} (F_ref04_word : ∀ (β : Type), Nat → List (List V) → (Int → Option β) → Option β) (F_ref04_absorb : ∀ (β : Type), Nat → List V → Int → (List V → Option β) → Option β) (F_ref04_round : ∀ (β : Type), Nat → List V → (List V → Option β) → Option β) (L : Nat) (p1 : List (List V)) (p6 : Int) (b2 : List V) (b5 : List V) (k_hbbbaa : List (List V) → Int → List V → List V → Option β) (k_x0 : List (List V) → Int → List V → List V → Option β) : Option β :=
 ifb (decide (((List.length p1 : Nat) : Int) ≥ (8 : Int))) (
 chk (0 + 4 ≤ (List.length b5)) (
 chk (0 ≤ (8 : Int) ∧ (8 : Int) ≤ (((List.length p1) : Nat) : Int)) (
 F_ref04_word β L (List.take 8 (List.drop 0 p1)) (fun v9 =>
 F_ref04_absorb β L (List.take 4 b5) v9 (fun v10 =>
 chk (0 ≤ (8 : Int) ∧ (8 : Int) ≤ (((List.length p1) : Nat) : Int)) (
 chk ((List.length v10) = 4 ∧ 0 + 4 ≤ (List.length b5)) (
 lt (setAt b5 0 v10) fun r11 =>
 k_hbbbaa (List.take ((List.length p1) - 8) (List.drop 8 p1)) p6 b2 r11))))))) (
 k_x0 p1 p6 b2 b5)
theorem bbbbaa_ref04_Sum_ok {β : Type} (F_ref04_word : ∀ (β : Type), Nat → List (List V) → (Int → Option β) → Option β) (F_ref04_absorb : ∀ (β : Type), Nat → List V → Int → (List V → Option β) → Option β) (F_ref04_round : ∀ (β : Type), Nat → List V → (List V → Option β) → Option β) (L : Nat) (p1 : List (List V)) (p6 : Int) (b2 : List V) (b5 : List V) (X : St → Option β) (K : KT β) : runC sh_ref04_Sum (cb_ref04_Sum F_ref04_word F_ref04_absorb F_ref04_round L) 0 L cbbbaaa_ref04_Sum (st_hbbbaa_ref04_Sum p1 p6 b2 b5) (loopK mbbbaa_ref04_Sum X K) = bbbbaa_ref04_Sum F_ref04_word F_ref04_absorb F_ref04_round L p1 p6 b2 b5 (fun p1 p6 b2 b5 => X (st_hbbbaa_ref04_Sum p1 p6 b2 b5)) (fun p1 p6 b2 b5 => K (.exit 0) (st_x0_ref04_Sum p1 p6 b2 b5)) := by kernel_rfl
def rbbbaax0_ref04_Sum {β : Type} (F_ref04_word : ∀ (β : Type), Nat → List (List V) → (Int → Option β) → Option β) (F_ref04_absorb : ∀ (β : Type), Nat → List V → Int → (List V → Option β) → Option β) (F_ref04_round : ∀ (β : Type), Nat → List V → (List V → Option β) → Option β) (L : Nat) (p1 : List (List V)) (p6 : Int) (b2 : List V) (b5 : List V) (k_fin : Int → Option β) : Option β :=
 chk (0 + 4 ≤ (List.length b5)) (
 F_ref04_word β L p1 (fun v12 =>
 lt (Int.tmod p6 (256 : Int)) fun x13 =>
 lt (IntKind.wrap .u64 x13) fun x14 =>
 lt (ishl .u64 x14 (56 : Int)) fun x15 =>
 lt (ior .u64 v12 x15) fun x16 =>
 F_ref04_absorb β L (List.take 4 b5) x16 (fun v17 =>
 chk ((List.length v17) = 4 ∧ 0 + 4 ≤ (List.length b5)) (
 lt (setAt b5 0 v17) fun r18 =>
 cI .u64 r18 2 fun v19 =>
 lt (ixor .u64 v19 (255 : Int)) fun x20 =>
 chk (1 = 1 ∧ 2 + 1 ≤ (List.length r18)) (
 lt (setAt r18 2 [(V.sc (.int .u64 x20))]) fun r21 =>
 chk (0 + 4 ≤ (List.length r21)) (
 F_ref04_round β L (List.take 4 r21) (fun v22 =>
 F_ref04_round β L v22 (fun v23 =>
 F_ref04_round β L v23 (fun v24 =>
 F_ref04_round β L v24 (fun v25 =>
 chk ((List.length v25) = 4 ∧ 0 + 4 ≤ (List.length r21)) (
 lt (setAt r21 0 v25) fun r26 =>
 cI .u64 r26 0 fun v27 =>
 cI .u64 r26 1 fun v28 =>
 lt (ixor .u64 v27 v28) fun x29 =>
 cI .u64 r26 2 fun v30 =>
 lt (ixor .u64 x29 v30) fun x31 =>
 cI .u64 r26 3 fun v32 =>
 lt (ixor .u64 x31 v32) fun x33 =>
 k_fin x33)))))))))))
theorem rbbbaax0_ref04_Sum_ok {β : Type} (F_ref04_word : ∀ (β : Type), Nat → List (List V) → (Int → Option β) → Option β) (F_ref04_absorb : ∀ (β : Type), Nat → List V → Int → (List V → Option β) → Option β) (F_ref04_round : ∀ (β : Type), Nat → List V → (List V → Option β) → Option β) (L : Nat) (p1 : List (List V)) (p6 : Int) (b2 : List V) (b5 : List V) (k : V → Bor → Option β) : (blockK 0 (seqK (runC sh_ref04_Sum (cb_ref04_Sum F_ref04_word F_ref04_absorb F_ref04_round L) 0 L cbbbb_ref04_Sum) (finK 0 (CF.res cf_ref04_Sum) k))) (.exit 0) (st_x0_ref04_Sum p1 p6 b2 b5) = rbbbaax0_ref04_Sum F_ref04_word F_ref04_absorb F_ref04_round L p1 p6 b2 b5 (fun p0 => k (V.sc (.int .u64 p0)) []) := by kernel_rfl
def lbbbaa_ref04_Sum {β : Type} (F_ref04_word : ∀ (β : Type), Nat → List (List V) → (Int → Option β) → Option β) (F_ref04_absorb : ∀ (β : Type), Nat → List V → Int → (List V → Option β) → Option β) (F_ref04_round : ∀ (β : Type), Nat → List V → (List V → Option β) → Option β) (L : Nat) (k_x0 : List (List V) → Int → List V → List V → Option β) : Nat → List (List V) → Int → List V → List V → Option β
  | 0, _, _, _, _ => none
  | n + 1, p1, p6, b2, b5 => bbbbaa_ref04_Sum F_ref04_word F_ref04_absorb F_ref04_round L p1 p6 b2 b5 (fun p1 p6 b2 b5 => lbbbaa_ref04_Sum F_ref04_word F_ref04_absorb F_ref04_round L k_x0 n p1 p6 b2 b5) k_x0
theorem lbbbaa_ref04_Sum_ok {β : Type} (F_ref04_word : ∀ (β : Type), Nat → List (List V) → (Int → Option β) → Option β) (F_ref04_absorb : ∀ (β : Type), Nat → List V → Int → (List V → Option β) → Option β) (F_ref04_round : ∀ (β : Type), Nat → List V → (List V → Option β) → Option β) (L : Nat) (K : KT β) : ∀ (n : Nat) (p1 : List (List V)) (p6 : Int) (b2 : List V) (b5 : List V), loopM (runC sh_ref04_Sum (cb_ref04_Sum F_ref04_word F_ref04_absorb F_ref04_round L) 0 L cbbbaaa_ref04_Sum) mbbbaa_ref04_Sum n (st_hbbbaa_ref04_Sum p1 p6 b2 b5) K = lbbbaa_ref04_Sum F_ref04_word F_ref04_absorb F_ref04_round L (fun p1 p6 b2 b5 => K (.exit 0) (st_x0_ref04_Sum p1 p6 b2 b5)) n p1 p6 b2 b5 := by
  intro n
  induction n with
  | zero => intros; rfl
  | succ n ih =>
    intro p1 p6 b2 b5
    refine (bbbbaa_ref04_Sum_ok F_ref04_word F_ref04_absorb F_ref04_round L p1 p6 b2 b5 (fun σ => loopM (runC sh_ref04_Sum (cb_ref04_Sum F_ref04_word F_ref04_absorb F_ref04_round L) 0 L cbbbaaa_ref04_Sum) mbbbaa_ref04_Sum n σ K) K).trans ?_
    simp only [ih]
    rfl
def R_ref04_Sum {β : Type} (F_ref04_word : ∀ (β : Type), Nat → List (List V) → (Int → Option β) → Option β) (F_ref04_absorb : ∀ (β : Type), Nat → List V → Int → (List V → Option β) → Option β) (F_ref04_round : ∀ (β : Type), Nat → List V → (List V → Option β) → Option β) (L : Nat) (p0 : List V) (p1 : List (List V)) (k_fin : Int → Option β) : Option β :=
 e_ref04_Sum F_ref04_word F_ref04_absorb F_ref04_round L p0 p1 (fun p1 p6 b2 b5 => lbbbaa_ref04_Sum F_ref04_word F_ref04_absorb F_ref04_round L (fun p1 p6 b2 b5 => rbbbaax0_ref04_Sum F_ref04_word F_ref04_absorb F_ref04_round L p1 p6 b2 b5 k_fin) L p1 p6 b2 b5)
theorem R_ref04_Sum_ok {β : Type} (F_ref04_word : ∀ (β : Type), Nat → List (List V) → (Int → Option β) → Option β) (F_ref04_absorb : ∀ (β : Type), Nat → List V → Int → (List V → Option β) → Option β) (F_ref04_round : ∀ (β : Type), Nat → List V → (List V → Option β) → Option β) (L : Nat) (p0 : List V) (p1 : List (List V)) (k : V → Bor → Option β) : funC sh_ref04_Sum (cb_ref04_Sum F_ref04_word F_ref04_absorb F_ref04_round L) L cf_ref04_Sum [(V.agg p0), (V.sl 1 p1)] [] k = R_ref04_Sum F_ref04_word F_ref04_absorb F_ref04_round L p0 p1 (fun p0 => k (V.sc (.int .u64 p0)) []) := by
  refine (e_ref04_Sum_ok F_ref04_word F_ref04_absorb F_ref04_round L p0 p1 k).trans ?_
  unfold R_ref04_Sum
  simp only [lbbbaa_ref04_Sum_ok, rbbbaax0_ref04_Sum_ok]
def F_ref04_Sum (β : Type) (L : Nat) (p0 : List V) (p1 : List (List V)) (k_fin : Int → Option β) : Option β := R_ref04_Sum F_ref04_word F_ref04_absorb F_ref04_round L p0 p1 k_fin
def d_ref04_Sum (F_ref04_Sum : ∀ (β : Type), Nat → List V → List (List V) → (Int → Option β) → Option β) (L : Nat) (β : Type) (args : List V) (bor : Bor) (k : V → Bor → Option β) : Option β := match args, bor with
  | [a0, a1], [] => aG a0 fun p0 => aL 1 a1 fun p1 => F_ref04_Sum β L p0 p1 (fun p0 => k (V.sc (.int .u64 p0)) [])
  | _, _ => none
theorem d_ref04_Sum_ok (L : Nat) (β : Type) (args : List V) (bor : Bor) (k : V → Bor → Option β) (r : β) (h : d_ref04_Sum F_ref04_Sum L β args bor k = some r) : funC sh_ref04_Sum (cb_ref04_Sum F_ref04_word F_ref04_absorb F_ref04_round L) L cf_ref04_Sum args bor k = some r := by
  unfold d_ref04_Sum at h
  split at h
  · have q := aG_inv h; clear h; obtain ⟨p0, rfl, h⟩ := q
    have q := aL_inv h; clear h; obtain ⟨p1, rfl, h⟩ := q
    exact (R_ref04_Sum_ok F_ref04_word F_ref04_absorb F_ref04_round L p0 p1 k).trans h
  · cases h
/-! law04_SipSums : 100 -/
def cf_law04_SipSums : CF := ⟨19, [.tmp 4],
 (.seq (.reg [⟨(some 2), false, none, .box true (.tmp 0)⟩,
   ⟨(some 4), false, none, .move (.const (.sc (.bool false))) false⟩])
 (.seq (.seq (.reg [⟨(some 5), false, none, .call 104 []⟩,
   ⟨(some 6), false, none, .un .not (.tmp 5)⟩])
 (.cond (.tmp 6)
 (.seq (.reg [⟨(some 4), false, none, .move (.const (.sc (.bool false))) false⟩])
 .ret)
 .skip))
 (.seq (.dreg [] [(⟨(some 7), false, none, .move (.tmp 1) false⟩, false),
   (⟨(some 8), false, none, .lenS (.tmp 7)⟩, false),
   (⟨(some 9), false, none, .bin .gtr (.tmp 8) (.const (.sc (.int .i64 3000)))⟩, false),
   (⟨(some 10), false, none, .move (.tmp 9) false⟩, false),
   (⟨(some 11), false, (some (10, false)), .load true 2 (.tmp 2) false⟩, true),
   (⟨(some 12), false, (some (10, false)), .move (.tmp 1) false⟩, false),
   (⟨(some 13), false, (some (10, false)), .call 105 [((.tmp 11), false), ((.tmp 12), false)]⟩, true),
   (⟨(some 14), false, (some (10, false)), .load true 2 (.tmp 2) false⟩, true),
   (⟨(some 15), false, (some (10, false)), .move (.tmp 1) false⟩, false),
   (⟨(some 16), false, (some (10, false)), .call 106 [((.tmp 14), false), ((.tmp 15), false)]⟩, false),
   (⟨(some 17), false, (some (10, false)), .bin .eql (.tmp 13) (.tmp 16)⟩, false),
   (⟨(some 18), false, none, .pick (.tmp 10) (.const (.sc (.bool true))) (.tmp 17)⟩, false),
   (⟨(some 4), false, none, .move (.tmp 18) false⟩, false)])
 .ret)))⟩
def hint_law04_SipSums : Hint := ⟨[], [], [none, none, none], []⟩
def sh_law04_SipSums : Nat → Sh := shOf []
def cb_law04_SipSums (F_law04_sane : ∀ (β : Type), Nat → (Bool → Option β) → Option β) (F_sip_Sum : ∀ (β : Type), Nat → List V → List (List V) → (Int → Option β) → Option β) (F_ref04_Sum : ∀ (β : Type), Nat → List V → List (List V) → (Int → Option β) → Option β) (L : Nat) : CBC := (addC 106 (d_ref04_Sum F_ref04_Sum L) (addC 105 (d_sip_Sum F_sip_Sum L) (addC 104 (d_law04_sane F_law04_sane L) noC)))
def R_law04_SipSums {β : Type} (F_law04_sane : ∀ (β : Type), Nat → (Bool → Option β) → Option β) (F_sip_Sum : ∀ (β : Type), Nat → List V → List (List V) → (Int → Option β) → Option β) (F_ref04_Sum : ∀ (β : Type), Nat → List V → List (List V) → (Int → Option β) → Option β) (L : Nat) (p0 : List V) (p1 : List (List V)) (k_fin : Bool → Option β) : Option β :=
 F_law04_sane β L  (fun v0 =>
 ifb (!v0) (
 k_fin false) (
 ifb (decide (((List.length p1 : Nat) : Int) > (3000 : Int))) (
 k_fin true) (
 chk (0 + 2 ≤ (List.length p0)) (
 F_sip_Sum β L (List.take 2 p0) p1 (fun v1 =>
 chk (0 + 2 ≤ (List.length p0)) (
 F_ref04_Sum β L (List.take 2 p0) p1 (fun v2 =>
 k_fin ((v1 : Int) == v2))))))))
theorem R_law04_SipSums_ok {β : Type} (F_law04_sane : ∀ (β : Type), Nat → (Bool → Option β) → Option β) (F_sip_Sum : ∀ (β : Type), Nat → List V → List (List V) → (Int → Option β) → Option β) (F_ref04_Sum : ∀ (β : Type), Nat → List V → List (List V) → (Int → Option β) → Option β) (L : Nat) (p0 : List V) (p1 : List (List V)) (k : V → Bor → Option β) : funC sh_law04_SipSums (cb_law04_SipSums F_law04_sane F_sip_Sum F_ref04_Sum L) L cf_law04_SipSums [(V.agg p0), (V.sl 1 p1)] [] k = R_law04_SipSums F_law04_sane F_sip_Sum F_ref04_Sum L p0 p1 (fun p0 => k (V.sc (.bool p0)) []) := by kernel_rfl
def F_law04_SipSums (β : Type) (L : Nat) (p0 : List V) (p1 : List (List V)) (k_fin : Bool → Option β) : Option β := R_law04_SipSums F_law04_sane F_sip_Sum F_ref04_Sum L p0 p1 k_fin
def d_law04_SipSums (F_law04_SipSums : ∀ (β : Type), Nat → List V → List (List V) → (Bool → Option β) → Option β) (L : Nat) (β : Type) (args : List V) (bor : Bor) (k : V → Bor → Option β) : Option β := match args, bor with
  | [a0, a1], [] => aG a0 fun p0 => aL 1 a1 fun p1 => F_law04_SipSums β L p0 p1 (fun p0 => k (V.sc (.bool p0)) [])
  | _, _ => none
theorem d_law04_SipSums_ok (L : Nat) (β : Type) (args : List V) (bor : Bor) (k : V → Bor → Option β) (r : β) (h : d_law04_SipSums F_law04_SipSums L β args bor k = some r) : funC sh_law04_SipSums (cb_law04_SipSums F_law04_sane F_sip_Sum F_ref04_Sum L) L cf_law04_SipSums args bor k = some r := by
  unfold d_law04_SipSums at h
  split at h
  · have q := aG_inv h; clear h; obtain ⟨p0, rfl, h⟩ := q
    have q := aL_inv h; clear h; obtain ⟨p1, rfl, h⟩ := q
    exact (R_law04_SipSums_ok F_law04_sane F_sip_Sum F_ref04_Sum L p0 p1 k).trans h
  · cases h
/-! math_bits_Mul64 : 117 -/
def cf_math_bits_Mul64 : CF := ⟨51, [.tmp 4, .tmp 5],
 (.seq (.reg [⟨(some 4), false, none, .move (.const (.sc (.int .u64 0))) false⟩,
   ⟨(some 5), false, none, .move (.const (.sc (.int .u64 0))) false⟩])
 (.seq (.reg [⟨(some 14), false, none, .move (.tmp 0) false⟩,
   ⟨(some 15), false, none, .bin .and (.tmp 14) (.const (.sc (.int .u64 4294967295)))⟩,
   ⟨(some 6), false, none, .move (.tmp 15) false⟩])
 (.seq (.reg [⟨(some 16), false, none, .move (.tmp 0) false⟩,
   ⟨(some 17), false, none, .bin .shr (.tmp 16) (.const (.sc (.int .u64 32)))⟩,
   ⟨(some 7), false, none, .move (.tmp 17) false⟩])
 (.seq (.reg [⟨(some 18), false, none, .move (.tmp 1) false⟩,
   ⟨(some 19), false, none, .bin .and (.tmp 18) (.const (.sc (.int .u64 4294967295)))⟩,
   ⟨(some 8), false, none, .move (.tmp 19) false⟩])
 (.seq (.reg [⟨(some 20), false, none, .move (.tmp 1) false⟩,
   ⟨(some 21), false, none, .bin .shr (.tmp 20) (.const (.sc (.int .u64 32)))⟩,
   ⟨(some 9), false, none, .move (.tmp 21) false⟩])
 (.seq (.reg [⟨(some 22), false, none, .move (.tmp 6) false⟩,
   ⟨(some 23), false, none, .move (.tmp 8) false⟩,
   ⟨(some 24), false, none, .bin .mul (.tmp 22) (.tmp 23)⟩,
   ⟨(some 10), false, none, .move (.tmp 24) false⟩])
 (.seq (.reg [⟨(some 25), false, none, .move (.tmp 7) false⟩,
   ⟨(some 26), false, none, .move (.tmp 8) false⟩,
   ⟨(some 27), false, none, .bin .mul (.tmp 25) (.tmp 26)⟩,
   ⟨(some 28), false, none, .move (.tmp 10) false⟩,
   ⟨(some 29), false, none, .bin .shr (.tmp 28) (.const (.sc (.int .u64 32)))⟩,
   ⟨(some 30), false, none, .bin .add (.tmp 27) (.tmp 29)⟩,
   ⟨(some 11), false, none, .move (.tmp 30) false⟩])
 (.seq (.reg [⟨(some 31), false, none, .move (.tmp 11) false⟩,
   ⟨(some 32), false, none, .bin .and (.tmp 31) (.const (.sc (.int .u64 4294967295)))⟩,
   ⟨(some 12), false, none, .move (.tmp 32) false⟩])
 (.seq (.reg [⟨(some 33), false, none, .move (.tmp 11) false⟩,
   ⟨(some 34), false, none, .bin .shr (.tmp 33) (.const (.sc (.int .u64 32)))⟩,
   ⟨(some 13), false, none, .move (.tmp 34) false⟩])
 (.seq (.reg [⟨(some 35), false, none, .move (.tmp 12) false⟩,
   ⟨(some 36), false, none, .move (.tmp 6) false⟩,
   ⟨(some 37), false, none, .move (.tmp 9) false⟩,
   ⟨(some 38), false, none, .bin .mul (.tmp 36) (.tmp 37)⟩,
   ⟨(some 39), false, none, .bin .add (.tmp 35) (.tmp 38)⟩,
   ⟨(some 12), false, none, .move (.tmp 39) false⟩])
 (.seq (.reg [⟨(some 40), false, none, .move (.tmp 7) false⟩,
   ⟨(some 41), false, none, .move (.tmp 9) false⟩,
   ⟨(some 42), false, none, .bin .mul (.tmp 40) (.tmp 41)⟩,
   ⟨(some 43), false, none, .move (.tmp 13) false⟩,
   ⟨(some 44), false, none, .bin .add (.tmp 42) (.tmp 43)⟩,
   ⟨(some 45), false, none, .move (.tmp 12) false⟩,
   ⟨(some 46), false, none, .bin .shr (.tmp 45) (.const (.sc (.int .u64 32)))⟩,
   ⟨(some 47), false, none, .bin .add (.tmp 44) (.tmp 46)⟩,
   ⟨(some 4), false, none, .move (.tmp 47) false⟩])
 (.seq (.reg [⟨(some 48), false, none, .move (.tmp 0) false⟩,
   ⟨(some 49), false, none, .move (.tmp 1) false⟩,
   ⟨(some 50), false, none, .bin .mul (.tmp 48) (.tmp 49)⟩,
   ⟨(some 5), false, none, .move (.tmp 50) false⟩])
 .ret))))))))))))⟩
def hint_math_bits_Mul64 : Hint := ⟨[], [], [none], []⟩
def sh_math_bits_Mul64 : Nat → Sh := shOf []
def cb_math_bits_Mul64 (L : Nat) : CBC := noC
def R_math_bits_Mul64 {β : Type} (L : Nat) (p0 : Int) (p1 : Int) (k_fin : Int → Int → Option β) : Option β :=
 lt (iand .u64 p0 (4294967295 : Int)) fun x0 =>
 lt (ishr .u64 p0 (32 : Int)) fun x1 =>
 lt (iand .u64 p1 (4294967295 : Int)) fun x2 =>
 lt (ishr .u64 p1 (32 : Int)) fun x3 =>
 lt (IntKind.wrap .u64 ((x0 : Int) * x2)) fun x4 =>
 lt (IntKind.wrap .u64 ((x1 : Int) * x2)) fun x5 =>
 lt (ishr .u64 x4 (32 : Int)) fun x6 =>
 lt (IntKind.wrap .u64 ((x5 : Int) + x6)) fun x7 =>
 lt (iand .u64 x7 (4294967295 : Int)) fun x8 =>
 lt (ishr .u64 x7 (32 : Int)) fun x9 =>
 lt (IntKind.wrap .u64 ((x0 : Int) * x3)) fun x10 =>
 lt (IntKind.wrap .u64 ((x8 : Int) + x10)) fun x11 =>
 lt (IntKind.wrap .u64 ((x1 : Int) * x3)) fun x12 =>
 lt (IntKind.wrap .u64 ((x12 : Int) + x9)) fun x13 =>
 lt (ishr .u64 x11 (32 : Int)) fun x14 =>
 lt (IntKind.wrap .u64 ((x13 : Int) + x14)) fun x15 =>
 lt (IntKind.wrap .u64 ((p0 : Int) * p1)) fun x16 =>
 k_fin x15 x16
theorem R_math_bits_Mul64_ok {β : Type} (L : Nat) (p0 : Int) (p1 : Int) (k : V → Bor → Option β) : funC sh_math_bits_Mul64 (cb_math_bits_Mul64 L) L cf_math_bits_Mul64 [(V.sc (.int .u64 p0)), (V.sc (.int .u64 p1))] [] k = R_math_bits_Mul64 L p0 p1 (fun p0_0 p0_1 => k (V.tup [(V.sc (.int .u64 p0_0)), (V.sc (.int .u64 p0_1))]) []) := by kernel_rfl
def F_math_bits_Mul64 (β : Type) (L : Nat) (p0 : Int) (p1 : Int) (k_fin : Int → Int → Option β) : Option β := R_math_bits_Mul64 L p0 p1 k_fin
def d_math_bits_Mul64 (F_math_bits_Mul64 : ∀ (β : Type), Nat → Int → Int → (Int → Int → Option β) → Option β) (L : Nat) (β : Type) (args : List V) (bor : Bor) (k : V → Bor → Option β) : Option β := match args, bor with
  | [a0, a1], [] => aI .u64 a0 fun p0 => aI .u64 a1 fun p1 => F_math_bits_Mul64 β L p0 p1 (fun p0_0 p0_1 => k (V.tup [(V.sc (.int .u64 p0_0)), (V.sc (.int .u64 p0_1))]) [])
  | _, _ => none
theorem d_math_bits_Mul64_ok (L : Nat) (β : Type) (args : List V) (bor : Bor) (k : V → Bor → Option β) (r : β) (h : d_math_bits_Mul64 F_math_bits_Mul64 L β args bor k = some r) : funC sh_math_bits_Mul64 (cb_math_bits_Mul64 L) L cf_math_bits_Mul64 args bor k = some r := by
  unfold d_math_bits_Mul64 at h
  split at h
  · have q := aI_inv h; clear h; obtain ⟨p0, rfl, h⟩ := q
    have q := aI_inv h; clear h; obtain ⟨p1, rfl, h⟩ := q
    exact (R_math_bits_Mul64_ok L p0 p1 k).trans h
  · cases h
/-! sip_Scale : 107 -/
def cf_sip_Scale : CF := ⟨14, [.tmp 4],
 (.seq (.reg [⟨(some 4), false, none, .move (.const (.sc (.int .u64 0))) false⟩])
 (.seq (.reg [⟨(some 8), false, none, .move (.tmp 0) false⟩,
   ⟨(some 9), false, none, .move (.tmp 1) false⟩,
   ⟨(some 10), false, none, .call 117 [((.tmp 8), false), ((.tmp 9), false)]⟩,
   ⟨(some 7), false, none, .move (.tmp 10) true⟩,
   ⟨(some 11), false, none, .pull (.tmp 7) 0⟩,
   ⟨(some 12), false, none, .pull (.tmp 7) 1⟩,
   ⟨(some 5), false, none, .move (.tmp 11) false⟩,
   ⟨(some 6), false, none, .move (.tmp 12) false⟩])
 (.seq (.reg [⟨(some 13), false, none, .move (.tmp 5) false⟩,
   ⟨(some 4), false, none, .move (.tmp 13) false⟩])
 .ret)))⟩
def hint_sip_Scale : Hint := ⟨[(1, 3)], [], [none], []⟩
def sh_sip_Scale : Nat → Sh := shOf []
def cb_sip_Scale (F_math_bits_Mul64 : ∀ (β : Type), Nat → Int → Int → (Int → Int → Option β) → Option β) (L : Nat) : CBC := (addC 117 (d_math_bits_Mul64 F_math_bits_Mul64 L) noC)
def R_sip_Scale {β : Type} (F_math_bits_Mul64 : ∀ (β : Type), Nat → Int → Int → (Int → Int → Option β) → Option β) (L : Nat) (p0 : Int) (p1 : Int) (k_fin : Int → Option β) : Option β :=
 F_math_bits_Mul64 β L p0 p1 (fun v0 v1 =>
 k_fin v0)
theorem R_sip_Scale_ok {β : Type} (F_math_bits_Mul64 : ∀ (β : Type), Nat → Int → Int → (Int → Int → Option β) → Option β) (L : Nat) (p0 : Int) (p1 : Int) (k : V → Bor → Option β) : funC sh_sip_Scale (cb_sip_Scale F_math_bits_Mul64 L) L cf_sip_Scale [(V.sc (.int .u64 p0)), (V.sc (.int .u64 p1))] [] k = R_sip_Scale F_math_bits_Mul64 L p0 p1 (fun p0 => k (V.sc (.int .u64 p0)) []) := by kernel_rfl
def F_sip_Scale (β : Type) (L : Nat) (p0 : Int) (p1 : Int) (k_fin : Int → Option β) : Option β := R_sip_Scale F_math_bits_Mul64 L p0 p1 k_fin
def d_sip_Scale (F_sip_Scale : ∀ (β : Type), Nat → Int → Int → (Int → Option β) → Option β) (L : Nat) (β : Type) (args : List V) (bor : Bor) (k : V → Bor → Option β) : Option β := match args, bor with
  | [a0, a1], [] => aI .u64 a0 fun p0 => aI .u64 a1 fun p1 => F_sip_Scale β L p0 p1 (fun p0 => k (V.sc (.int .u64 p0)) [])
  | _, _ => none
theorem d_sip_Scale_ok (L : Nat) (β : Type) (args : List V) (bor : Bor) (k : V → Bor → Option β) (r : β) (h : d_sip_Scale F_sip_Scale L β args bor k = some r) : funC sh_sip_Scale (cb_sip_Scale F_math_bits_Mul64 L) L cf_sip_Scale args bor k = some r := by
  unfold d_sip_Scale at h
  split at h
  · have q := aI_inv h; clear h; obtain ⟨p0, rfl, h⟩ := q
    have q := aI_inv h; clear h; obtain ⟨p1, rfl, h⟩ := q
    exact (R_sip_Scale_ok F_math_bits_Mul64 L p0 p1 k).trans h
  · cases h
/-! ref04_Scale : 108 -/
def cf_ref04_Scale : CF := ⟨14, [.tmp 4],
 (.seq (.reg [⟨(some 4), false, none, .move (.const (.sc (.int .u64 0))) false⟩])
 (.seq (.reg [⟨(some 8), false, none, .move (.tmp 0) false⟩,
   ⟨(some 9), false, none, .move (.tmp 1) false⟩,
   ⟨(some 10), false, none, .call 117 [((.tmp 8), false), ((.tmp 9), false)]⟩,
   ⟨(some 7), false, none, .move (.tmp 10) true⟩,
   ⟨(some 11), false, none, .pull (.tmp 7) 0⟩,
   ⟨(some 12), false, none, .pull (.tmp 7) 1⟩,
   ⟨(some 5), false, none, .move (.tmp 11) false⟩,
   ⟨(some 6), false, none, .move (.tmp 12) false⟩])
 (.seq (.reg [⟨(some 13), false, none, .move (.tmp 5) false⟩,
   ⟨(some 4), false, none, .move (.tmp 13) false⟩])
 .ret)))⟩
def hint_ref04_Scale : Hint := ⟨[(1, 3)], [], [none], []⟩
def sh_ref04_Scale : Nat → Sh := shOf []
def cb_ref04_Scale (F_math_bits_Mul64 : ∀ (β : Type), Nat → Int → Int → (Int → Int → Option β) → Option β) (L : Nat) : CBC := (addC 117 (d_math_bits_Mul64 F_math_bits_Mul64 L) noC)
def R_ref04_Scale {β : Type} (F_math_bits_Mul64 : ∀ (β : Type), Nat → Int → Int → (Int → Int → Option β) → Option β) (L : Nat) (p0 : Int) (p1 : Int) (k_fin : Int → Option β) : Option β :=
 F_math_bits_Mul64 β L p0 p1 (fun v0 v1 =>
 k_fin v0)
theorem R_ref04_Scale_ok {β : Type} (F_math_bits_Mul64 : ∀ (β : Type), Nat → Int → Int → (Int → Int → Option β) → Option β) (L : Nat) (p0 : Int) (p1 : Int) (k : V → Bor → Option β) : funC sh_ref04_Scale (cb_ref04_Scale F_math_bits_Mul64 L) L cf_ref04_Scale [(V.sc (.int .u64 p0)), (V.sc (.int .u64 p1))] [] k = R_ref04_Scale F_math_bits_Mul64 L p0 p1 (fun p0 => k (V.sc (.int .u64 p0)) []) := by kernel_rfl
def F_ref04_Scale (β : Type) (L : Nat) (p0 : Int) (p1 : Int) (k_fin : Int → Option β) : Option β := R_ref04_Scale F_math_bits_Mul64 L p0 p1 k_fin
def d_ref04_Scale (F_ref04_Scale : ∀ (β : Type), Nat → Int → Int → (Int → Option β) → Option β) (L : Nat) (β : Type) (args : List V) (bor : Bor) (k : V → Bor → Option β) : Option β := match args, bor with
  | [a0, a1], [] => aI .u64 a0 fun p0 => aI .u64 a1 fun p1 => F_ref04_Scale β L p0 p1 (fun p0 => k (V.sc (.int .u64 p0)) [])
  | _, _ => none
theorem d_ref04_Scale_ok (L : Nat) (β : Type) (args : List V) (bor : Bor) (k : V → Bor → Option β) (r : β) (h : d_ref04_Scale F_ref04_Scale L β args bor k = some r) : funC sh_ref04_Scale (cb_ref04_Scale F_math_bits_Mul64 L) L cf_ref04_Scale args bor k = some r := by
  unfold d_ref04_Scale at h
  split at h
  · have q := aI_inv h; clear h; obtain ⟨p0, rfl, h⟩ := q
    have q := aI_inv h; clear h; obtain ⟨p1, rfl, h⟩ := q
    exact (R_ref04_Scale_ok F_math_bits_Mul64 L p0 p1 k).trans h
  · cases h
/-! sip_Key : 109 -/
def cf_sip_Key : CF := ⟨8, [.cell 2 true 2],
 (.seq (.reg [⟨(some 1), false, none, .box true (.tmp 0)⟩,
   ⟨(some 2), false, none, .alloc true [(.sc (.int .u64 0)), (.sc (.int .u64 0))]⟩])
 (.seq (.dreg [1] [(⟨(some 3), false, none, .sliceA 32 1 (.tmp 1) none (some (.const (.sc (.int .i64 8)))) none⟩, true),
   (⟨(some 4), false, none, .call 112 [((.tmp 3), false)]⟩, true),
   (⟨(some 5), false, none, .sliceA 32 1 (.tmp 1) (some (.const (.sc (.int .i64 8)))) (some (.const (.sc (.int .i64 16)))) none⟩, true),
   (⟨(some 6), false, none, .call 112 [((.tmp 5), false)]⟩, false),
   (⟨(some 7), false, none, .build [(.sc (.int .u64 0)), (.sc (.int .u64 0))] [(0, 1, (.tmp 4)), (1, 1, (.tmp 6))]⟩, false),
   (⟨none, false, none, .store 2 (.tmp 2) (.tmp 7)⟩, false)])
 .ret))⟩
def hint_sip_Key : Hint := ⟨[], [], [none], [(1, [1])]⟩
def sh_sip_Key : Nat → Sh := shOf []
def cb_sip_Key (F_sip_word : ∀ (β : Type), Nat → List (List V) → (Int → Option β) → Option β) (L : Nat) : CBC := (addC 112 (d_sip_word F_sip_word L) noC)
def R_sip_Key {β : Type} (F_sip_word : ∀ (β : Type), Nat → List (List V) → (Int → Option β) → Option β) (L : Nat) (p0 : List V) (k_fin : List V → Option β) : Option β :=
 chk (0 + 32 * 1 ≤ (List.length p0)) (
 F_sip_word β L (chunks 1 8 p0) (fun v0 =>
 chk (0 + 32 * 1 ≤ (List.length p0)) (
 F_sip_word β L (chunks 1 8 (List.drop 8 p0)) (fun v1 =>
 lt [(V.sc (.int .u64 v0)), (V.sc (.int .u64 v1))] fun r2 =>
 chk (0 = 0 ∧ (List.length r2) = 2) (
 k_fin r2)))))
theorem R_sip_Key_ok {β : Type} (F_sip_word : ∀ (β : Type), Nat → List (List V) → (Int → Option β) → Option β) (L : Nat) (p0 : List V) (k : V → Bor → Option β) : funC sh_sip_Key (cb_sip_Key F_sip_word L) L cf_sip_Key [(V.agg p0)] [] k = R_sip_Key F_sip_word L p0 (fun p0 => k (V.agg p0) []) := by kernel_rfl
def F_sip_Key (β : Type) (L : Nat) (p0 : List V) (k_fin : List V → Option β) : Option β := R_sip_Key F_sip_word L p0 k_fin
def d_sip_Key (F_sip_Key : ∀ (β : Type), Nat → List V → (List V → Option β) → Option β) (L : Nat) (β : Type) (args : List V) (bor : Bor) (k : V → Bor → Option β) : Option β := match args, bor with
  | [a0], [] => aG a0 fun p0 => F_sip_Key β L p0 (fun p0 => k (V.agg p0) [])
  | _, _ => none
theorem d_sip_Key_ok (L : Nat) (β : Type) (args : List V) (bor : Bor) (k : V → Bor → Option β) (r : β) (h : d_sip_Key F_sip_Key L β args bor k = some r) : funC sh_sip_Key (cb_sip_Key F_sip_word L) L cf_sip_Key args bor k = some r := by
  unfold d_sip_Key at h
  split at h
  · have q := aG_inv h; clear h; obtain ⟨p0, rfl, h⟩ := q
    exact (R_sip_Key_ok F_sip_word L p0 k).trans h
  · cases h
/-! ref04_Key : 110 -/
def cf_ref04_Key : CF := ⟨8, [.cell 2 true 2],
 (.seq (.reg [⟨(some 1), false, none, .box true (.tmp 0)⟩,
   ⟨(some 2), false, none, .alloc true [(.sc (.int .u64 0)), (.sc (.int .u64 0))]⟩])
 (.seq (.dreg [1] [(⟨(some 3), false, none, .sliceA 32 1 (.tmp 1) none (some (.const (.sc (.int .i64 8)))) none⟩, true),
   (⟨(some 4), false, none, .call 115 [((.tmp 3), false)]⟩, true),
   (⟨(some 5), false, none, .sliceA 32 1 (.tmp 1) (some (.const (.sc (.int .i64 8)))) (some (.const (.sc (.int .i64 16)))) none⟩, true),
   (⟨(some 6), false, none, .call 115 [((.tmp 5), false)]⟩, false),
   (⟨(some 7), false, none, .build [(.sc (.int .u64 0)), (.sc (.int .u64 0))] [(0, 1, (.tmp 4)), (1, 1, (.tmp 6))]⟩, false),
   (⟨none, false, none, .store 2 (.tmp 2) (.tmp 7)⟩, false)])
 .ret))⟩
def hint_ref04_Key : Hint := ⟨[], [], [none], [(1, [1])]⟩
def sh_ref04_Key : Nat → Sh := shOf []
def cb_ref04_Key (F_ref04_word : ∀ (β : Type), Nat → List (List V) → (Int → Option β) → Option β) (L : Nat) : CBC := (addC 115 (d_ref04_word F_ref04_word L) noC)
def R_ref04_Key {β : Type} (F_ref04_word : ∀ (β : Type), Nat → List (List V) → (Int → Option β) → Option β) (L : Nat) (p0 : List V) (k_fin : List V → Option β) : Option β :=
 chk (0 + 32 * 1 ≤ (List.length p0)) (
 F_ref04_word β L (chunks 1 8 p0) (fun v0 =>
 chk (0 + 32 * 1 ≤ (List.length p0)) (
 F_ref04_word β L (chunks 1 8 (List.drop 8 p0)) (fun v1 =>
 lt [(V.sc (.int .u64 v0)), (V.sc (.int .u64 v1))] fun r2 =>
 chk (0 = 0 ∧ (List.length r2) = 2) (
 k_fin r2)))))
theorem R_ref04_Key_ok {β : Type} (F_ref04_word : ∀ (β : Type), Nat → List (List V) → (Int → Option β) → Option β) (L : Nat) (p0 : List V) (k : V → Bor → Option β) : funC sh_ref04_Key (cb_ref04_Key F_ref04_word L) L cf_ref04_Key [(V.agg p0)] [] k = R_ref04_Key F_ref04_word L p0 (fun p0 => k (V.agg p0) []) := by kernel_rfl
def F_ref04_Key (β : Type) (L : Nat) (p0 : List V) (k_fin : List V → Option β) : Option β := R_ref04_Key F_ref04_word L p0 k_fin
def d_ref04_Key (F_ref04_Key : ∀ (β : Type), Nat → List V → (List V → Option β) → Option β) (L : Nat) (β : Type) (args : List V) (bor : Bor) (k : V → Bor → Option β) : Option β := match args, bor with
  | [a0], [] => aG a0 fun p0 => F_ref04_Key β L p0 (fun p0 => k (V.agg p0) [])
  | _, _ => none
theorem d_ref04_Key_ok (L : Nat) (β : Type) (args : List V) (bor : Bor) (k : V → Bor → Option β) (r : β) (h : d_ref04_Key F_ref04_Key L β args bor k = some r) : funC sh_ref04_Key (cb_ref04_Key F_ref04_word L) L cf_ref04_Key args bor k = some r := by
  unfold d_ref04_Key at h
  split at h
  · have q := aG_inv h; clear h; obtain ⟨p0, rfl, h⟩ := q
    exact (R_ref04_Key_ok F_ref04_word L p0 k).trans h
  · cases h
/-! law04_SipScales : 103 -/
def cf_law04_SipScales : CF := ⟨24, [.tmp 6],
 (.seq (.reg [⟨(some 5), false, none, .box true (.tmp 2)⟩,
   ⟨(some 6), false, none, .move (.const (.sc (.bool false))) false⟩])
 (.seq (.dreg [] [(⟨(some 7), false, none, .call 104 []⟩, false),
   (⟨(some 8), false, none, .move (.tmp 7) false⟩, false),
   (⟨(some 9), false, (some (8, true)), .move (.tmp 0) false⟩, false),
   (⟨(some 10), false, (some (8, true)), .move (.tmp 1) false⟩, false),
   (⟨(some 11), false, (some (8, true)), .call 107 [((.tmp 9), false), ((.tmp 10), false)]⟩, false),
   (⟨(some 12), false, (some (8, true)), .move (.tmp 0) false⟩, false),
   (⟨(some 13), false, (some (8, true)), .move (.tmp 1) false⟩, false),
   (⟨(some 14), false, (some (8, true)), .call 108 [((.tmp 12), false), ((.tmp 13), false)]⟩, false),
   (⟨(some 15), false, (some (8, true)), .bin .eql (.tmp 11) (.tmp 14)⟩, false),
   (⟨(some 16), false, none, .pick (.tmp 8) (.tmp 15) (.const (.sc (.bool false)))⟩, false),
   (⟨(some 17), false, none, .move (.tmp 16) false⟩, false),
   (⟨(some 18), false, (some (17, true)), .load true 32 (.tmp 5) false⟩, true),
   (⟨(some 19), false, (some (17, true)), .call 109 [((.tmp 18), false)]⟩, true),
   (⟨(some 20), false, (some (17, true)), .load true 32 (.tmp 5) false⟩, true),
   (⟨(some 21), false, (some (17, true)), .call 110 [((.tmp 20), false)]⟩, false),
   (⟨(some 22), false, (some (17, true)), .eqAgg false 2 (.tmp 19) (.tmp 21)⟩, false),
   (⟨(some 23), false, none, .pick (.tmp 17) (.tmp 22) (.const (.sc (.bool false)))⟩, false),
   (⟨(some 6), false, none, .move (.tmp 23) false⟩, false)])
 .ret))⟩
def hint_law04_SipScales : Hint := ⟨[], [], [none], []⟩
def sh_law04_SipScales : Nat → Sh := shOf []
def cb_law04_SipScales (F_law04_sane : ∀ (β : Type), Nat → (Bool → Option β) → Option β) (F_sip_Scale : ∀ (β : Type), Nat → Int → Int → (Int → Option β) → Option β) (F_ref04_Scale : ∀ (β : Type), Nat → Int → Int → (Int → Option β) → Option β) (F_sip_Key : ∀ (β : Type), Nat → List V → (List V → Option β) → Option β) (F_ref04_Key : ∀ (β : Type), Nat → List V → (List V → Option β) → Option β) (L : Nat) : CBC := (addC 110 (d_ref04_Key F_ref04_Key L) (addC 109 (d_sip_Key F_sip_Key L) (addC 108 (d_ref04_Scale F_ref04_Scale L) (addC 107 (d_sip_Scale F_sip_Scale L) (addC 104 (d_law04_sane F_law04_sane L) noC)))))
def R_law04_SipScales {β : Type} (F_law04_sane : ∀ (β : Type), Nat → (Bool → Option β) → Option β) (F_sip_Scale : ∀ (β : Type), Nat → Int → Int → (Int → Option β) → Option β) (F_ref04_Scale : ∀ (β : Type), Nat → Int → Int → (Int → Option β) → Option β) (F_sip_Key : ∀ (β : Type), Nat → List V → (List V → Option β) → Option β) (F_ref04_Key : ∀ (β : Type), Nat → List V → (List V → Option β) → Option β) (L : Nat) (p0 : Int) (p1 : Int) (p2 : List V) (k_fin : Bool → Option β) : Option β :=
 F_law04_sane β L  (fun v0 =>
 ifb v0 (
 F_sip_Scale β L p0 p1 (fun v1 =>
 F_ref04_Scale β L p0 p1 (fun v2 =>
 ifb ((v1 : Int) == v2) (
 chk (0 + 32 ≤ (List.length p2)) (
 F_sip_Key β L (List.take 32 p2) (fun v3 =>
 chk (0 + 32 ≤ (List.length p2)) (
 F_ref04_Key β L (List.take 32 p2) (fun v4 =>
 eqC 2 v3 v4 fun v5 =>
 k_fin v5))))) (
 k_fin false)))) (
 k_fin false))
theorem R_law04_SipScales_ok {β : Type} (F_law04_sane : ∀ (β : Type), Nat → (Bool → Option β) → Option β) (F_sip_Scale : ∀ (β : Type), Nat → Int → Int → (Int → Option β) → Option β) (F_ref04_Scale : ∀ (β : Type), Nat → Int → Int → (Int → Option β) → Option β) (F_sip_Key : ∀ (β : Type), Nat → List V → (List V → Option β) → Option β) (F_ref04_Key : ∀ (β : Type), Nat → List V → (List V → Option β) → Option β) (L : Nat) (p0 : Int) (p1 : Int) (p2 : List V) (k : V → Bor → Option β) : funC sh_law04_SipScales (cb_law04_SipScales F_law04_sane F_sip_Scale F_ref04_Scale F_sip_Key F_ref04_Key L) L cf_law04_SipScales [(V.sc (.int .u64 p0)), (V.sc (.int .u64 p1)), (V.agg p2)] [] k = R_law04_SipScales F_law04_sane F_sip_Scale F_ref04_Scale F_sip_Key F_ref04_Key L p0 p1 p2 (fun p0 => k (V.sc (.bool p0)) []) := by kernel_rfl
def F_law04_SipScales (β : Type) (L : Nat) (p0 : Int) (p1 : Int) (p2 : List V) (k_fin : Bool → Option β) : Option β := R_law04_SipScales F_law04_sane F_sip_Scale F_ref04_Scale F_sip_Key F_ref04_Key L p0 p1 p2 k_fin
def d_law04_SipScales (F_law04_SipScales : ∀ (β : Type), Nat → Int → Int → List V → (Bool → Option β) → Option β) (L : Nat) (β : Type) (args : List V) (bor : Bor) (k : V → Bor → Option β) : Option β := match args, bor with
  | [a0, a1, a2], [] => aI .u64 a0 fun p0 => aI .u64 a1 fun p1 => aG a2 fun p2 => F_law04_SipScales β L p0 p1 p2 (fun p0 => k (V.sc (.bool p0)) [])
  | _, _ => none
theorem d_law04_SipScales_ok (L : Nat) (β : Type) (args : List V) (bor : Bor) (k : V → Bor → Option β) (r : β) (h : d_law04_SipScales F_law04_SipScales L β args bor k = some r) : funC sh_law04_SipScales (cb_law04_SipScales F_law04_sane F_sip_Scale F_ref04_Scale F_sip_Key F_ref04_Key L) L cf_law04_SipScales args bor k = some r := by
  unfold d_law04_SipScales at h
  split at h
  · have q := aI_inv h; clear h; obtain ⟨p0, rfl, h⟩ := q
    have q := aI_inv h; clear h; obtain ⟨p1, rfl, h⟩ := q
    have q := aG_inv h; clear h; obtain ⟨p2, rfl, h⟩ := q
    exact (R_law04_SipScales_ok F_law04_sane F_sip_Scale F_ref04_Scale F_sip_Key F_ref04_Key L p0 p1 p2 k).trans h
  · cases h
/-! law04_SipMonotone : 102 -/
def cf_law04_SipMonotone : CF := ⟨38, [.tmp 6],
 (.seq (.reg [⟨(some 6), false, none, .move (.const (.sc (.bool false))) false⟩])
 (.seq (.reg [⟨(some 9), false, none, .move (.tmp 0) false⟩,
   ⟨(some 10), false, none, .move (.tmp 1) false⟩,
   ⟨(some 11), false, none, .mm false (.tmp 9) (.tmp 10)⟩,
   ⟨(some 12), false, none, .move (.tmp 2) false⟩,
   ⟨(some 13), false, none, .call 107 [((.tmp 11), false), ((.tmp 12), false)]⟩,
   ⟨(some 14), false, none, .move (.tmp 0) false⟩,
   ⟨(some 15), false, none, .move (.tmp 1) false⟩,
   ⟨(some 16), false, none, .mm true (.tmp 14) (.tmp 15)⟩,
   ⟨(some 17), false, none, .move (.tmp 2) false⟩,
   ⟨(some 18), false, none, .call 107 [((.tmp 16), false), ((.tmp 17), false)]⟩,
   ⟨(some 7), false, none, .move (.tmp 13) false⟩,
   ⟨(some 8), false, none, .move (.tmp 18) false⟩])
 (.seq (.reg [⟨(some 19), false, none, .call 104 []⟩,
   ⟨(some 20), false, none, .move (.tmp 19) false⟩,
   ⟨(some 21), false, (some (20, true)), .move (.tmp 7) false⟩,
   ⟨(some 22), false, (some (20, true)), .move (.tmp 8) false⟩,
   ⟨(some 23), false, (some (20, true)), .bin .leq (.tmp 21) (.tmp 22)⟩,
   ⟨(some 24), false, none, .pick (.tmp 20) (.tmp 23) (.const (.sc (.bool false)))⟩,
   ⟨(some 25), false, none, .move (.tmp 24) false⟩,
   ⟨(some 26), false, (some (25, true)), .move (.tmp 2) false⟩,
   ⟨(some 27), false, (some (25, true)), .bin .eql (.tmp 26) (.const (.sc (.int .u64 0)))⟩,
   ⟨(some 28), false, (some (25, true)), .move (.tmp 27) false⟩,
   ⟨(some 29), false, (some (28, true)), .move (.tmp 8) false⟩,
   ⟨(some 30), false, (some (28, true)), .bin .eql (.tmp 29) (.const (.sc (.int .u64 0)))⟩,
   ⟨(some 31), false, (some (25, true)), .pick (.tmp 28) (.tmp 30) (.const (.sc (.bool false)))⟩,
   ⟨(some 32), false, (some (25, true)), .move (.tmp 31) false⟩,
   ⟨(some 33), false, (some (32, false)), .move (.tmp 8) false⟩,
   ⟨(some 34), false, (some (32, false)), .move (.tmp 2) false⟩,
   ⟨(some 35), false, (some (32, false)), .bin .lss (.tmp 33) (.tmp 34)⟩,
   ⟨(some 36), false, (some (25, true)), .pick (.tmp 32) (.const (.sc (.bool true))) (.tmp 35)⟩,
   ⟨(some 37), false, none, .pick (.tmp 25) (.tmp 36) (.const (.sc (.bool false)))⟩,
   ⟨(some 6), false, none, .move (.tmp 37) false⟩])
 .ret)))⟩
def hint_law04_SipMonotone : Hint := ⟨[], [], [none], []⟩
def sh_law04_SipMonotone : Nat → Sh := shOf []
def cb_law04_SipMonotone (F_sip_Scale : ∀ (β : Type), Nat → Int → Int → (Int → Option β) → Option β) (F_law04_sane : ∀ (β : Type), Nat → (Bool → Option β) → Option β) (L : Nat) : CBC := (addC 104 (d_law04_sane F_law04_sane L) (addC 107 (d_sip_Scale F_sip_Scale L) noC))
def R_law04_SipMonotone {β : Type} (F_sip_Scale : ∀ (β : Type), Nat → Int → Int → (Int → Option β) → Option β) (F_law04_sane : ∀ (β : Type), Nat → (Bool → Option β) → Option β) (L : Nat) (p0 : Int) (p1 : Int) (p2 : Int) (k_fin : Bool → Option β) : Option β :=
 lt (imin p0 p1) fun x0 =>
 F_sip_Scale β L x0 p2 (fun v1 =>
 lt (imax p0 p1) fun x2 =>
 F_sip_Scale β L x2 p2 (fun v3 =>
 F_law04_sane β L  (fun v4 =>
 ifb v4 (
 ifb (decide (v1 ≤ v3)) (
 ifb ((p2 : Int) == (0 : Int)) (
 ifb ((v3 : Int) == (0 : Int)) (
 k_fin true) (
 k_fin (decide (v3 < p2)))) (
 k_fin (decide (v3 < p2)))) (
 k_fin false)) (
 k_fin false))))
theorem R_law04_SipMonotone_ok {β : Type} (F_sip_Scale : ∀ (β : Type), Nat → Int → Int → (Int → Option β) → Option β) (F_law04_sane : ∀ (β : Type), Nat → (Bool → Option β) → Option β) (L : Nat) (p0 : Int) (p1 : Int) (p2 : Int) (k : V → Bor → Option β) : funC sh_law04_SipMonotone (cb_law04_SipMonotone F_sip_Scale F_law04_sane L) L cf_law04_SipMonotone [(V.sc (.int .u64 p0)), (V.sc (.int .u64 p1)), (V.sc (.int .u64 p2))] [] k = R_law04_SipMonotone F_sip_Scale F_law04_sane L p0 p1 p2 (fun p0 => k (V.sc (.bool p0)) []) := by kernel_rfl
def F_law04_SipMonotone (β : Type) (L : Nat) (p0 : Int) (p1 : Int) (p2 : Int) (k_fin : Bool → Option β) : Option β := R_law04_SipMonotone F_sip_Scale F_law04_sane L p0 p1 p2 k_fin
def d_law04_SipMonotone (F_law04_SipMonotone : ∀ (β : Type), Nat → Int → Int → Int → (Bool → Option β) → Option β) (L : Nat) (β : Type) (args : List V) (bor : Bor) (k : V → Bor → Option β) : Option β := match args, bor with
  | [a0, a1, a2], [] => aI .u64 a0 fun p0 => aI .u64 a1 fun p1 => aI .u64 a2 fun p2 => F_law04_SipMonotone β L p0 p1 p2 (fun p0 => k (V.sc (.bool p0)) [])
  | _, _ => none
theorem d_law04_SipMonotone_ok (L : Nat) (β : Type) (args : List V) (bor : Bor) (k : V → Bor → Option β) (r : β) (h : d_law04_SipMonotone F_law04_SipMonotone L β args bor k = some r) : funC sh_law04_SipMonotone (cb_law04_SipMonotone F_sip_Scale F_law04_sane L) L cf_law04_SipMonotone args bor k = some r := by
  unfold d_law04_SipMonotone at h
  split at h
  · have q := aI_inv h; clear h; obtain ⟨p0, rfl, h⟩ := q
    have q := aI_inv h; clear h; obtain ⟨p1, rfl, h⟩ := q
    have q := aI_inv h; clear h; obtain ⟨p2, rfl, h⟩ := q
    exact (R_law04_SipMonotone_ok F_sip_Scale F_law04_sane L p0 p1 p2 k).trans h
  · cases h
/-! law04_SipLengths : 101 -/
def cf_law04_SipLengths : CF := ⟨35, [.tmp 6],
 (.seq (.reg [⟨(some 3), false, none, .box true (.tmp 0)⟩,
   ⟨(some 6), false, none, .move (.const (.sc (.bool false))) false⟩])
 (.seq (.seq (.reg [⟨(some 8), false, none, .call 104 []⟩,
   ⟨(some 9), false, none, .un .not (.tmp 8)⟩])
 (.cond (.tmp 9)
 (.seq (.reg [⟨(some 6), false, none, .move (.const (.sc (.bool false))) false⟩])
 .ret)
 .skip))
 (.seq (.seq (.reg [⟨(some 10), false, none, .move (.tmp 1) false⟩,
   ⟨(some 11), false, none, .lenS (.tmp 10)⟩,
   ⟨(some 12), false, none, .bin .gtr (.tmp 11) (.const (.sc (.int .i64 500)))⟩])
 (.cond (.tmp 12)
 (.seq (.reg [⟨(some 6), false, none, .move (.const (.sc (.bool true))) false⟩])
 .ret)
 .skip))
 (.seq (.reg [⟨(some 13), false, none, .move (.tmp 1) false⟩,
   ⟨(some 14), false, none, .append 1 1 (.const (.gs 1 [])) (.tmp 13)⟩,
   ⟨(some 15), false, none, .move (.tmp 2) false⟩,
   ⟨(some 16), false, none, .bin .rem (.tmp 15) (.const (.sc (.int .u8 20)))⟩,
   ⟨(some 17), false, none, .conv .i64 (.tmp 16)⟩,
   ⟨(some 18), false, none, .appendZ 1 1 [(.sc (.int .u8 0))] (.tmp 14) (.tmp 17)⟩,
   ⟨(some 7), false, none, .move (.tmp 18) true⟩])
 (.seq (.dreg [] [(⟨(some 19), false, none, .load true 2 (.tmp 3) false⟩, true),
   (⟨(some 20), false, none, .move (.tmp 7) false⟩, false),
   (⟨(some 21), false, none, .call 105 [((.tmp 19), false), ((.tmp 20), false)]⟩, true),
   (⟨(some 22), false, none, .load true 2 (.tmp 3) false⟩, true),
   (⟨(some 23), false, none, .move (.tmp 7) false⟩, false),
   (⟨(some 24), false, none, .call 106 [((.tmp 22), false), ((.tmp 23), false)]⟩, false),
   (⟨(some 25), false, none, .bin .eql (.tmp 21) (.tmp 24)⟩, false),
   (⟨(some 26), false, none, .move (.tmp 25) false⟩, false),
   (⟨(some 27), false, (some (26, true)), .load true 2 (.tmp 3) false⟩, true),
   (⟨(some 28), false, (some (26, true)), .move (.tmp 1) false⟩, false),
   (⟨(some 29), false, (some (26, true)), .call 105 [((.tmp 27), false), ((.tmp 28), false)]⟩, true),
   (⟨(some 30), false, (some (26, true)), .load true 2 (.tmp 3) false⟩, true),
   (⟨(some 31), false, (some (26, true)), .move (.tmp 1) false⟩, false),
   (⟨(some 32), false, (some (26, true)), .call 106 [((.tmp 30), false), ((.tmp 31), false)]⟩, false),
   (⟨(some 33), false, (some (26, true)), .bin .eql (.tmp 29) (.tmp 32)⟩, false),
   (⟨(some 34), false, none, .pick (.tmp 26) (.tmp 33) (.const (.sc (.bool false)))⟩, false),
   (⟨(some 6), false, none, .move (.tmp 34) false⟩, false)])
 .ret)))))⟩
def hint_law04_SipLengths : Hint := ⟨[(5, 6)], [], [none, none, none, none, none], []⟩
def sh_law04_SipLengths : Nat → Sh := shOf []
def cb_law04_SipLengths (F_law04_sane : ∀ (β : Type), Nat → (Bool → Option β) → Option β) (F_sip_Sum : ∀ (β : Type), Nat → List V → List (List V) → (Int → Option β) → Option β) (F_ref04_Sum : ∀ (β : Type), Nat → List V → List (List V) → (Int → Option β) → Option β) (L : Nat) : CBC := (addC 106 (d_ref04_Sum F_ref04_Sum L) (addC 105 (d_sip_Sum F_sip_Sum L) (addC 104 (d_law04_sane F_law04_sane L) noC)))
def R_law04_SipLengths {β : Type} (F_law04_sane : ∀ (β : Type), Nat → (Bool → Option β) → Option β) (F_sip_Sum : ∀ (β : Type), Nat → List V → List (List V) → (Int → Option β) → Option β) (F_ref04_Sum : ∀ (β : Type), Nat → List V → List (List V) → (Int → Option β) → Option β) (L : Nat) (p0 : List V) (p1 : List (List V)) (p2 : Int) (k_fin : Bool → Option β) : Option β :=
 F_law04_sane β L  (fun v0 =>
 ifb (!v0) (
 k_fin false) (
 ifb (decide (((List.length p1 : Nat) : Int) > (500 : Int))) (
 k_fin true) (
 chk ((List.length ([] : List (List V)) + List.length p1) * 1 ≤ sizeCap ∧ List.length ([] : List (List V)) + List.length p1 ≤ sizeCap) (
 lt (([] : List (List V)) ++ p1) fun l1 =>
 lt (Int.tmod p2 (20 : Int)) fun x2 =>
 lt (IntKind.wrap .i64 x2) fun x3 =>
 chk (0 ≤ x3 ∧ (List.length l1 + (Int.toNat x3)) * 1 ≤ sizeCap ∧ List.length l1 + (Int.toNat x3) ≤ sizeCap) (
 lt (l1 ++ List.replicate (Int.toNat x3) [(V.sc (.int .u8 (0 : Int)))]) fun l4 =>
 chk (0 + 2 ≤ (List.length p0)) (
 F_sip_Sum β L (List.take 2 p0) l4 (fun v5 =>
 chk (0 + 2 ≤ (List.length p0)) (
 F_ref04_Sum β L (List.take 2 p0) l4 (fun v6 =>
 ifb ((v5 : Int) == v6) (
 chk (0 + 2 ≤ (List.length p0)) (
 F_sip_Sum β L (List.take 2 p0) p1 (fun v7 =>
 chk (0 + 2 ≤ (List.length p0)) (
 F_ref04_Sum β L (List.take 2 p0) p1 (fun v8 =>
 k_fin ((v7 : Int) == v8)))))) (
 k_fin false))))))))))
theorem R_law04_SipLengths_ok {β : Type} (F_law04_sane : ∀ (β : Type), Nat → (Bool → Option β) → Option β) (F_sip_Sum : ∀ (β : Type), Nat → List V → List (List V) → (Int → Option β) → Option β) (F_ref04_Sum : ∀ (β : Type), Nat → List V → List (List V) → (Int → Option β) → Option β) (L : Nat) (p0 : List V) (p1 : List (List V)) (p2 : Int) (k : V → Bor → Option β) : funC sh_law04_SipLengths (cb_law04_SipLengths F_law04_sane F_sip_Sum F_ref04_Sum L) L cf_law04_SipLengths [(V.agg p0), (V.sl 1 p1), (V.sc (.int .u8 p2))] [] k = R_law04_SipLengths F_law04_sane F_sip_Sum F_ref04_Sum L p0 p1 p2 (fun p0 => k (V.sc (.bool p0)) []) := by kernel_rfl
def F_law04_SipLengths (β : Type) (L : Nat) (p0 : List V) (p1 : List (List V)) (p2 : Int) (k_fin : Bool → Option β) : Option β := R_law04_SipLengths F_law04_sane F_sip_Sum F_ref04_Sum L p0 p1 p2 k_fin
def d_law04_SipLengths (F_law04_SipLengths : ∀ (β : Type), Nat → List V → List (List V) → Int → (Bool → Option β) → Option β) (L : Nat) (β : Type) (args : List V) (bor : Bor) (k : V → Bor → Option β) : Option β := match args, bor with
  | [a0, a1, a2], [] => aG a0 fun p0 => aL 1 a1 fun p1 => aI .u8 a2 fun p2 => F_law04_SipLengths β L p0 p1 p2 (fun p0 => k (V.sc (.bool p0)) [])
  | _, _ => none
theorem d_law04_SipLengths_ok (L : Nat) (β : Type) (args : List V) (bor : Bor) (k : V → Bor → Option β) (r : β) (h : d_law04_SipLengths F_law04_SipLengths L β args bor k = some r) : funC sh_law04_SipLengths (cb_law04_SipLengths F_law04_sane F_sip_Sum F_ref04_Sum L) L cf_law04_SipLengths args bor k = some r := by
  unfold d_law04_SipLengths at h
  split at h
  · have q := aG_inv h; clear h; obtain ⟨p0, rfl, h⟩ := q
    have q := aL_inv h; clear h; obtain ⟨p1, rfl, h⟩ := q
    have q := aI_inv h; clear h; obtain ⟨p2, rfl, h⟩ := q
    exact (R_law04_SipLengths_ok F_law04_sane F_sip_Sum F_ref04_Sum L p0 p1 p2 k).trans h
  · cases h
def fg : List (Nat × Nat) := [(3, 100), (4, 101), (5, 102), (6, 103), (7, 104), (8, 105), (9, 106), (10, 107), (11, 108), (12, 109), (13, 110), (14, 111), (15, 112), (16, 113), (17, 114), (18, 115), (19, 116), (20, 117), (21, 118)]
def rows : List Row := [⟨15, 112, hint_sip_word, cf_sip_word⟩, ⟨21, 118, hint_math_bits_RotateLeft64, cf_math_bits_RotateLeft64⟩, ⟨16, 113, hint_sip_rounds, cf_sip_rounds⟩, ⟨14, 111, hint_sip_absorb, cf_sip_absorb⟩, ⟨8, 105, hint_sip_Sum, cf_sip_Sum⟩, ⟨7, 104, hint_law04_sane, cf_law04_sane⟩, ⟨18, 115, hint_ref04_word, cf_ref04_word⟩, ⟨19, 116, hint_ref04_round, cf_ref04_round⟩, ⟨17, 114, hint_ref04_absorb, cf_ref04_absorb⟩, ⟨9, 106, hint_ref04_Sum, cf_ref04_Sum⟩, ⟨3, 100, hint_law04_SipSums, cf_law04_SipSums⟩, ⟨20, 117, hint_math_bits_Mul64, cf_math_bits_Mul64⟩, ⟨10, 107, hint_sip_Scale, cf_sip_Scale⟩, ⟨11, 108, hint_ref04_Scale, cf_ref04_Scale⟩, ⟨12, 109, hint_sip_Key, cf_sip_Key⟩, ⟨13, 110, hint_ref04_Key, cf_ref04_Key⟩, ⟨6, 103, hint_law04_SipScales, cf_law04_SipScales⟩, ⟨5, 102, hint_law04_SipMonotone, cf_law04_SipMonotone⟩, ⟨4, 101, hint_law04_SipLengths, cf_law04_SipLengths⟩]
theorem kc_sip_word : cFun Try.prog (renOf fg) hint_sip_word 15 = some cf_sip_word := by kernel_rfl
theorem kc_math_bits_RotateLeft64 : cFun Try.prog (renOf fg) hint_math_bits_RotateLeft64 21 = some cf_math_bits_RotateLeft64 := by kernel_rfl
theorem kc_sip_rounds : cFun Try.prog (renOf fg) hint_sip_rounds 16 = some cf_sip_rounds := by kernel_rfl
theorem kc_sip_absorb : cFun Try.prog (renOf fg) hint_sip_absorb 14 = some cf_sip_absorb := by kernel_rfl
theorem kc_sip_Sum : cFun Try.prog (renOf fg) hint_sip_Sum 8 = some cf_sip_Sum := by kernel_rfl
theorem kc_law04_sane : cFun Try.prog (renOf fg) hint_law04_sane 7 = some cf_law04_sane := by kernel_rfl
theorem kc_ref04_word : cFun Try.prog (renOf fg) hint_ref04_word 18 = some cf_ref04_word := by kernel_rfl
theorem kc_ref04_round : cFun Try.prog (renOf fg) hint_ref04_round 19 = some cf_ref04_round := by kernel_rfl
theorem kc_ref04_absorb : cFun Try.prog (renOf fg) hint_ref04_absorb 17 = some cf_ref04_absorb := by kernel_rfl
theorem kc_ref04_Sum : cFun Try.prog (renOf fg) hint_ref04_Sum 9 = some cf_ref04_Sum := by kernel_rfl
theorem kc_law04_SipSums : cFun Try.prog (renOf fg) hint_law04_SipSums 3 = some cf_law04_SipSums := by kernel_rfl
theorem kc_math_bits_Mul64 : cFun Try.prog (renOf fg) hint_math_bits_Mul64 20 = some cf_math_bits_Mul64 := by kernel_rfl
theorem kc_sip_Scale : cFun Try.prog (renOf fg) hint_sip_Scale 10 = some cf_sip_Scale := by kernel_rfl
theorem kc_ref04_Scale : cFun Try.prog (renOf fg) hint_ref04_Scale 11 = some cf_ref04_Scale := by kernel_rfl
theorem kc_sip_Key : cFun Try.prog (renOf fg) hint_sip_Key 12 = some cf_sip_Key := by kernel_rfl
theorem kc_ref04_Key : cFun Try.prog (renOf fg) hint_ref04_Key 13 = some cf_ref04_Key := by kernel_rfl
theorem kc_law04_SipScales : cFun Try.prog (renOf fg) hint_law04_SipScales 6 = some cf_law04_SipScales := by kernel_rfl
theorem kc_law04_SipMonotone : cFun Try.prog (renOf fg) hint_law04_SipMonotone 5 = some cf_law04_SipMonotone := by kernel_rfl
theorem kc_law04_SipLengths : cFun Try.prog (renOf fg) hint_law04_SipLengths 4 = some cf_law04_SipLengths := by kernel_rfl
theorem rows_ok : ∀ r ∈ rows, (r.f, r.g) ∈ fg ∧ callable Try.prog r.f = true ∧ cFun Try.prog (renOf fg) r.h r.f = some r.c := by
  intro r hr
  simp only [rows, List.mem_cons, List.not_mem_nil, or_false] at hr
  rcases hr with rfl | rfl | rfl | rfl | rfl | rfl | rfl | rfl | rfl | rfl | rfl | rfl | rfl | rfl | rfl | rfl | rfl | rfl | rfl
  · exact ⟨of_decide_eq_true (by kernel_rfl), by kernel_rfl, kc_sip_word⟩
  · exact ⟨of_decide_eq_true (by kernel_rfl), by kernel_rfl, kc_math_bits_RotateLeft64⟩
  · exact ⟨of_decide_eq_true (by kernel_rfl), by kernel_rfl, kc_sip_rounds⟩
  · exact ⟨of_decide_eq_true (by kernel_rfl), by kernel_rfl, kc_sip_absorb⟩
  · exact ⟨of_decide_eq_true (by kernel_rfl), by kernel_rfl, kc_sip_Sum⟩
  · exact ⟨of_decide_eq_true (by kernel_rfl), by kernel_rfl, kc_law04_sane⟩
  · exact ⟨of_decide_eq_true (by kernel_rfl), by kernel_rfl, kc_ref04_word⟩
  · exact ⟨of_decide_eq_true (by kernel_rfl), by kernel_rfl, kc_ref04_round⟩
  · exact ⟨of_decide_eq_true (by kernel_rfl), by kernel_rfl, kc_ref04_absorb⟩
  · exact ⟨of_decide_eq_true (by kernel_rfl), by kernel_rfl, kc_ref04_Sum⟩
  · exact ⟨of_decide_eq_true (by kernel_rfl), by kernel_rfl, kc_law04_SipSums⟩
  · exact ⟨of_decide_eq_true (by kernel_rfl), by kernel_rfl, kc_math_bits_Mul64⟩
  · exact ⟨of_decide_eq_true (by kernel_rfl), by kernel_rfl, kc_sip_Scale⟩
  · exact ⟨of_decide_eq_true (by kernel_rfl), by kernel_rfl, kc_ref04_Scale⟩
  · exact ⟨of_decide_eq_true (by kernel_rfl), by kernel_rfl, kc_sip_Key⟩
  · exact ⟨of_decide_eq_true (by kernel_rfl), by kernel_rfl, kc_ref04_Key⟩
  · exact ⟨of_decide_eq_true (by kernel_rfl), by kernel_rfl, kc_law04_SipScales⟩
  · exact ⟨of_decide_eq_true (by kernel_rfl), by kernel_rfl, kc_law04_SipMonotone⟩
  · exact ⟨of_decide_eq_true (by kernel_rfl), by kernel_rfl, kc_law04_SipLengths⟩
theorem mixed : Try.prog.follows .mixedOrders = true := by kernel_rfl
theorem fg_ok : fgOk fg = true := by kernel_rfl
theorem ev_ok (L d : Nat) : CBok Try.prog (renOf fg) (evF (tabOf rows) noPr L d) := seat_ok mixed fg_ok rows_ok L d
theorem fok_sip_word (L : Nat) : FOk (tabOf rows) L 112 (d_sip_word F_sip_word L) 1 := fok_of (D := 0) (by kernel_rfl) fun m hm => ⟨sh_sip_word, cb_sip_word L, cbc_no, d_sip_word_ok L⟩
theorem fok_math_bits_RotateLeft64 (L : Nat) : FOk (tabOf rows) L 118 (d_math_bits_RotateLeft64 F_math_bits_RotateLeft64 L) 1 := fok_of (D := 0) (by kernel_rfl) fun m hm => ⟨sh_math_bits_RotateLeft64, cb_math_bits_RotateLeft64 L, cbc_no, d_math_bits_RotateLeft64_ok L⟩
theorem fok_sip_rounds (L : Nat) : FOk (tabOf rows) L 113 (d_sip_rounds F_sip_rounds L) 2 := fok_of (D := 1) (by kernel_rfl) fun m hm => ⟨sh_sip_rounds, cb_sip_rounds F_math_bits_RotateLeft64 L, (cbc_add cbc_no (fok_math_bits_RotateLeft64 L m (by omega))), d_sip_rounds_ok L⟩
theorem fok_sip_absorb (L : Nat) : FOk (tabOf rows) L 111 (d_sip_absorb F_sip_absorb L) 3 := fok_of (D := 2) (by kernel_rfl) fun m hm => ⟨sh_sip_absorb, cb_sip_absorb F_sip_rounds L, (cbc_add cbc_no (fok_sip_rounds L m (by omega))), d_sip_absorb_ok L⟩
theorem fok_sip_Sum (L : Nat) : FOk (tabOf rows) L 105 (d_sip_Sum F_sip_Sum L) 4 := fok_of (D := 3) (by kernel_rfl) fun m hm => ⟨sh_sip_Sum, cb_sip_Sum F_sip_word F_sip_absorb F_sip_rounds L, (cbc_add (cbc_add (cbc_add cbc_no (fok_sip_word L m (by omega))) (fok_sip_absorb L m (by omega))) (fok_sip_rounds L m (by omega))), d_sip_Sum_ok L⟩
theorem fok_law04_sane (L : Nat) : FOk (tabOf rows) L 104 (d_law04_sane F_law04_sane L) 5 := fok_of (D := 4) (by kernel_rfl) fun m hm => ⟨sh_law04_sane, cb_law04_sane F_sip_Sum L, (cbc_add cbc_no (fok_sip_Sum L m (by omega))), d_law04_sane_ok L⟩
theorem fok_ref04_word (L : Nat) : FOk (tabOf rows) L 115 (d_ref04_word F_ref04_word L) 1 := fok_of (D := 0) (by kernel_rfl) fun m hm => ⟨sh_ref04_word, cb_ref04_word L, cbc_no, d_ref04_word_ok L⟩
theorem fok_ref04_round (L : Nat) : FOk (tabOf rows) L 116 (d_ref04_round F_ref04_round L) 2 := fok_of (D := 1) (by kernel_rfl) fun m hm => ⟨sh_ref04_round, cb_ref04_round F_math_bits_RotateLeft64 L, (cbc_add cbc_no (fok_math_bits_RotateLeft64 L m (by omega))), d_ref04_round_ok L⟩
theorem fok_ref04_absorb (L : Nat) : FOk (tabOf rows) L 114 (d_ref04_absorb F_ref04_absorb L) 3 := fok_of (D := 2) (by kernel_rfl) fun m hm => ⟨sh_ref04_absorb, cb_ref04_absorb F_ref04_round L, (cbc_add cbc_no (fok_ref04_round L m (by omega))), d_ref04_absorb_ok L⟩
theorem fok_ref04_Sum (L : Nat) : FOk (tabOf rows) L 106 (d_ref04_Sum F_ref04_Sum L) 4 := fok_of (D := 3) (by kernel_rfl) fun m hm => ⟨sh_ref04_Sum, cb_ref04_Sum F_ref04_word F_ref04_absorb F_ref04_round L, (cbc_add (cbc_add (cbc_add cbc_no (fok_ref04_word L m (by omega))) (fok_ref04_absorb L m (by omega))) (fok_ref04_round L m (by omega))), d_ref04_Sum_ok L⟩
theorem fok_law04_SipSums (L : Nat) : FOk (tabOf rows) L 100 (d_law04_SipSums F_law04_SipSums L) 6 := fok_of (D := 5) (by kernel_rfl) fun m hm => ⟨sh_law04_SipSums, cb_law04_SipSums F_law04_sane F_sip_Sum F_ref04_Sum L, (cbc_add (cbc_add (cbc_add cbc_no (fok_law04_sane L m (by omega))) (fok_sip_Sum L m (by omega))) (fok_ref04_Sum L m (by omega))), d_law04_SipSums_ok L⟩
theorem fok_math_bits_Mul64 (L : Nat) : FOk (tabOf rows) L 117 (d_math_bits_Mul64 F_math_bits_Mul64 L) 1 := fok_of (D := 0) (by kernel_rfl) fun m hm => ⟨sh_math_bits_Mul64, cb_math_bits_Mul64 L, cbc_no, d_math_bits_Mul64_ok L⟩
theorem fok_sip_Scale (L : Nat) : FOk (tabOf rows) L 107 (d_sip_Scale F_sip_Scale L) 2 := fok_of (D := 1) (by kernel_rfl) fun m hm => ⟨sh_sip_Scale, cb_sip_Scale F_math_bits_Mul64 L, (cbc_add cbc_no (fok_math_bits_Mul64 L m (by omega))), d_sip_Scale_ok L⟩
theorem fok_ref04_Scale (L : Nat) : FOk (tabOf rows) L 108 (d_ref04_Scale F_ref04_Scale L) 2 := fok_of (D := 1) (by kernel_rfl) fun m hm => ⟨sh_ref04_Scale, cb_ref04_Scale F_math_bits_Mul64 L, (cbc_add cbc_no (fok_math_bits_Mul64 L m (by omega))), d_ref04_Scale_ok L⟩
theorem fok_sip_Key (L : Nat) : FOk (tabOf rows) L 109 (d_sip_Key F_sip_Key L) 2 := fok_of (D := 1) (by kernel_rfl) fun m hm => ⟨sh_sip_Key, cb_sip_Key F_sip_word L, (cbc_add cbc_no (fok_sip_word L m (by omega))), d_sip_Key_ok L⟩
theorem fok_ref04_Key (L : Nat) : FOk (tabOf rows) L 110 (d_ref04_Key F_ref04_Key L) 2 := fok_of (D := 1) (by kernel_rfl) fun m hm => ⟨sh_ref04_Key, cb_ref04_Key F_ref04_word L, (cbc_add cbc_no (fok_ref04_word L m (by omega))), d_ref04_Key_ok L⟩
theorem fok_law04_SipScales (L : Nat) : FOk (tabOf rows) L 103 (d_law04_SipScales F_law04_SipScales L) 6 := fok_of (D := 5) (by kernel_rfl) fun m hm => ⟨sh_law04_SipScales, cb_law04_SipScales F_law04_sane F_sip_Scale F_ref04_Scale F_sip_Key F_ref04_Key L, (cbc_add (cbc_add (cbc_add (cbc_add (cbc_add cbc_no (fok_law04_sane L m (by omega))) (fok_sip_Scale L m (by omega))) (fok_ref04_Scale L m (by omega))) (fok_sip_Key L m (by omega))) (fok_ref04_Key L m (by omega))), d_law04_SipScales_ok L⟩
theorem fok_law04_SipMonotone (L : Nat) : FOk (tabOf rows) L 102 (d_law04_SipMonotone F_law04_SipMonotone L) 6 := fok_of (D := 5) (by kernel_rfl) fun m hm => ⟨sh_law04_SipMonotone, cb_law04_SipMonotone F_sip_Scale F_law04_sane L, (cbc_add (cbc_add cbc_no (fok_sip_Scale L m (by omega))) (fok_law04_sane L m (by omega))), d_law04_SipMonotone_ok L⟩
theorem fok_law04_SipLengths (L : Nat) : FOk (tabOf rows) L 101 (d_law04_SipLengths F_law04_SipLengths L) 6 := fok_of (D := 5) (by kernel_rfl) fun m hm => ⟨sh_law04_SipLengths, cb_law04_SipLengths F_law04_sane F_sip_Sum F_ref04_Sum L, (cbc_add (cbc_add (cbc_add cbc_no (fok_law04_sane L m (by omega))) (fok_sip_Sum L m (by omega))) (fok_ref04_Sum L m (by omega))), d_law04_SipLengths_ok L⟩
end Go.Proofs.Ytnedkcnafnfdlaa
