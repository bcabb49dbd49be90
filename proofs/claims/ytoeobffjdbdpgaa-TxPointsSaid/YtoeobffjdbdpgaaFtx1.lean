/- The functions of this seat, as they compute on plain values. Printed by lift2.py. -/
import Derived.Test.YtoeobffjdbdpgaaE29
import Derived.Test.YtoeobffjdbdpgaaC2
import Derived.Test.YtoeobffjdbdpgaaRows
namespace Go.Proofs.Ytoeobffjdbdpgaa
set_option maxRecDepth 100000
set_option linter.unusedVariables false
/-! codec_lowest : 192 -/
def cbbabaa_codec_lowest : CC := (.seq (.reg [⟨(some 11), false, none, .bin .lss (.tmp 10) (.tmp 9)⟩])
 (.seq (.cond (.tmp 11)
 .skip
 (.seq (.mask (bl 32 23) (bl 8388543 23))
 (.exit 0)))
 (.seq (.block 1 (.seq (.reg [⟨(some 12), false, none, .move (.tmp 10) false⟩,
   ⟨(some 6), false, none, .move (.tmp 12) false⟩])
 (.reg [⟨(some 13), false, none, .move (.tmp 5) false⟩,
   ⟨(some 14), false, none, .move (.tmp 6) false⟩,
   ⟨(some 15), false, none, .move (.tmp 0) false⟩,
   ⟨(some 16), false, none, .move (.tmp 6) false⟩,
   ⟨(some 17), false, none, .bin .mul (.const (.sc (.int .i64 8))) (.tmp 16)⟩,
   ⟨(some 18), false, none, .bin .shr (.tmp 15) (.tmp 17)⟩,
   ⟨(some 19), false, none, .conv .u8 (.tmp 18)⟩,
   ⟨(some 20), false, none, .indexAddrS 1 (.tmp 13) (.tmp 14)⟩,
   ⟨none, false, none, .store 1 (.tmp 20) (.tmp 19)⟩])))
 (.reg [⟨(some 21), false, none, .bin .add (.tmp 10) (.const (.sc (.int .i64 1)))⟩,
   ⟨(some 10), false, none, .move (.tmp 21) false⟩]))))
def cbbb_codec_lowest : CC := (.seq (.reg [⟨(some 22), false, none, .move (.tmp 5) true⟩,
   ⟨(some 4), false, none, .move (.tmp 22) true⟩])
 .ret)
def cf_codec_lowest : CF := ⟨23, [.tmp 4],
 (.seq (.reg [⟨(some 4), false, none, .move (.const (.gs 1 [])) true⟩])
 (.seq (.reg [⟨(some 7), false, none, .move (.tmp 1) false⟩,
   ⟨(some 8), true, none, .makeSlice 1 1 [(.sc (.int .u8 0))] (.tmp 7) (.tmp 7)⟩,
   ⟨(some 5), false, none, .move (.tmp 8) true⟩])
 (.seq (.seq (.reg [⟨(some 9), false, none, .move (.tmp 1) false⟩,
   ⟨(some 10), false, none, .move (.const (.sc (.int .i64 0))) false⟩])
 (.block 0 (.loop (bl 1569 23) (bl 8388543 23)
 cbbabaa_codec_lowest)))
 cbbb_codec_lowest)))⟩
def hint_codec_lowest : Hint := ⟨[(0, 0), (1, 2), (7, 0), (7, 1)], [(1, 1)], [none, some ((bl 1569 23), (bl 8388543 23)), none, some ((bl 32 23), (bl 8388543 23)), none, none], []⟩
def sh_codec_lowest : Nat → Sh := shOf []
def cb_codec_lowest (L : Nat) : CBC := noC
def mbbaba_codec_lowest : St → St := mask (bl 1569 23) (bl 8388543 23)
def st_hbbaba_codec_lowest (p0 : Int) (p5l : Nat) (p9 : Int) (p10 : Int) (b8 : List V) : St := ⟨[(V.sc (.int .u64 p0)), .junk, .junk, .junk, .junk, (V.own 8 0 p5l 1), .junk, .junk, .junk, (V.sc (.int .i64 p9)), (V.sc (.int .i64 p10)), .junk, .junk, .junk, .junk, .junk, .junk, .junk, .junk, .junk, .junk, .junk, .junk], [.gone, .gone, .gone, .gone, .gone, .gone, .gone, .gone, (.live true b8), .gone, .gone, .gone, .gone, .gone, .gone, .gone, .gone, .gone, .gone, .gone, .gone, .gone, .gone]⟩
def st_x0_codec_lowest (p5l : Nat) (b8 : List V) : St := ⟨[.junk, .junk, .junk, .junk, .junk, (V.own 8 0 p5l 1), .junk, .junk, .junk, .junk, .junk, .junk, .junk, .junk, .junk, .junk, .junk, .junk, .junk, .junk, .junk, .junk, .junk], [.gone, .gone, .gone, .gone, .gone, .gone, .gone, .gone, (.live true b8), .gone, .gone, .gone, .gone, .gone, .gone, .gone, .gone, .gone, .gone, .gone, .gone, .gone, .gone]⟩
def e_codec_lowest {β : Type} (L : Nat) (p0 : Int) (p1 : Int) (k_hbbaba : Int → Nat → Int → Int → List V → Option β) : Option β :=
 chk (0 ≤ p1 ∧ p1 ≤ p1 ∧ (Int.toNat p1) * 1 ≤ sizeCap ∧ p1 ≤ sizeCap) (
 k_hbbaba p0 (List.length (List.replicate (Int.toNat p1) [(V.sc (.int .u8 (0 : Int)))])) p1 (0 : Int) (List.flatten (List.replicate (Int.toNat p1) [(V.sc (.int .u8 (0 : Int)))])))
theorem e_codec_lowest_ok {β : Type} (L : Nat) (p0 : Int) (p1 : Int) (k : V → Bor → Option β) : funC sh_codec_lowest (cb_codec_lowest L) L cf_codec_lowest [(V.sc (.int .u64 p0)), (V.sc (.int .i64 p1))] [] k = e_codec_lowest L p0 p1 (fun p0 p5l p9 p10 b8 => loopM (runC sh_codec_lowest (cb_codec_lowest L) 0 L cbbabaa_codec_lowest) mbbaba_codec_lowest L (st_hbbaba_codec_lowest p0 p5l p9 p10 b8) (blockK 0 (seqK (runC sh_codec_lowest (cb_codec_lowest L) 0 L cbbb_codec_lowest) (finK 0 (CF.res cf_codec_lowest) k)))) := by kernel_rfl
def bbbaba_codec_lowest {β : Type} (L : Nat) (p0 : Int) (p5l : Nat) (p9 : Int) (p10 : Int) (b8 : List V) (k_hbbaba : Int → Nat → Int → Int → List V → Option β) (k_x0 : Nat → List V → Option β) : Option β :=
 ifb (decide (p10 < p9)) (
 lt (IntKind.wrap .i64 (((8 : Int) : Int) * p10)) fun x0 =>
 chk (0 ≤ x0) (
 lt (ishr .u64 p0 x0) fun x1 =>
 lt (IntKind.wrap .u8 x1) fun x2 =>
 chk (0 ≤ p10 ∧ p10 < ((p5l : Nat) : Int)) (
 chk (1 = 1 ∧ (0 + ((Int.toNat p10) * 1)) + 1 ≤ (List.length b8)) (
 lt (setAt b8 (0 + ((Int.toNat p10) * 1)) [(V.sc (.int .u8 x2))]) fun r3 =>
 lt (IntKind.wrap .i64 ((p10 : Int) + (1 : Int))) fun x4 =>
 k_hbbaba p0 p5l p9 x4 r3)))) (
 k_x0 p5l b8)
theorem bbbaba_codec_lowest_ok {β : Type} (L : Nat) (p0 : Int) (p5l : Nat) (p9 : Int) (p10 : Int) (b8 : List V) (X : St → Option β) (K : KT β) : runC sh_codec_lowest (cb_codec_lowest L) 0 L cbbabaa_codec_lowest (st_hbbaba_codec_lowest p0 p5l p9 p10 b8) (loopK mbbaba_codec_lowest X K) = bbbaba_codec_lowest L p0 p5l p9 p10 b8 (fun p0 p5l p9 p10 b8 => X (st_hbbaba_codec_lowest p0 p5l p9 p10 b8)) (fun p5l b8 => K (.exit 0) (st_x0_codec_lowest p5l b8)) := by kernel_rfl
def rbbabax0_codec_lowest {β : Type} (L : Nat) (p5l : Nat) (b8 : List V) (k_fin : List (List V) → Option β) : Option β :=
 k_fin (chunks 1 p5l b8)
theorem rbbabax0_codec_lowest_ok {β : Type} (L : Nat) (p5l : Nat) (b8 : List V) (k : V → Bor → Option β) : (blockK 0 (seqK (runC sh_codec_lowest (cb_codec_lowest L) 0 L cbbb_codec_lowest) (finK 0 (CF.res cf_codec_lowest) k))) (.exit 0) (st_x0_codec_lowest p5l b8) = rbbabax0_codec_lowest L p5l b8 (fun p0 => k (V.fr 1 p0) []) := by kernel_rfl
def lbbaba_codec_lowest {β : Type} (L : Nat) (k_x0 : Nat → List V → Option β) : Nat → Int → Nat → Int → Int → List V → Option β
  | 0, _, _, _, _, _ => none
  | n + 1, p0, p5l, p9, p10, b8 => bbbaba_codec_lowest L p0 p5l p9 p10 b8 (fun p0 p5l p9 p10 b8 => lbbaba_codec_lowest L k_x0 n p0 p5l p9 p10 b8) k_x0
theorem lbbaba_codec_lowest_ok {β : Type} (L : Nat) (K : KT β) : ∀ (n : Nat) (p0 : Int) (p5l : Nat) (p9 : Int) (p10 : Int) (b8 : List V), loopM (runC sh_codec_lowest (cb_codec_lowest L) 0 L cbbabaa_codec_lowest) mbbaba_codec_lowest n (st_hbbaba_codec_lowest p0 p5l p9 p10 b8) K = lbbaba_codec_lowest L (fun p5l b8 => K (.exit 0) (st_x0_codec_lowest p5l b8)) n p0 p5l p9 p10 b8 := by
  intro n
  induction n with
  | zero => intros; rfl
  | succ n ih =>
    intro p0 p5l p9 p10 b8
    refine (bbbaba_codec_lowest_ok L p0 p5l p9 p10 b8 (fun σ => loopM (runC sh_codec_lowest (cb_codec_lowest L) 0 L cbbabaa_codec_lowest) mbbaba_codec_lowest n σ K) K).trans ?_
    simp only [ih]
    rfl
def R_codec_lowest {β : Type} (L : Nat) (p0 : Int) (p1 : Int) (k_fin : List (List V) → Option β) : Option β :=
 e_codec_lowest L p0 p1 (fun p0 p5l p9 p10 b8 => lbbaba_codec_lowest L (fun p5l b8 => rbbabax0_codec_lowest L p5l b8 k_fin) L p0 p5l p9 p10 b8)
theorem R_codec_lowest_ok {β : Type} (L : Nat) (p0 : Int) (p1 : Int) (k : V → Bor → Option β) : funC sh_codec_lowest (cb_codec_lowest L) L cf_codec_lowest [(V.sc (.int .u64 p0)), (V.sc (.int .i64 p1))] [] k = R_codec_lowest L p0 p1 (fun p0 => k (V.fr 1 p0) []) := by
  refine (e_codec_lowest_ok L p0 p1 k).trans ?_
  unfold R_codec_lowest
  simp only [lbbaba_codec_lowest_ok, rbbabax0_codec_lowest_ok]
abbrev T_codec_lowest := ∀ (β : Type), Nat → Int → Int → (List (List V) → Option β) → Option β
def F_codec_lowest (β : Type) (L : Nat) (p0 : Int) (p1 : Int) (k_fin : List (List V) → Option β) : Option β := R_codec_lowest L p0 p1 k_fin
def d_codec_lowest (F_codec_lowest : T_codec_lowest) (L : Nat) (β : Type) (args : List V) (bor : Bor) (k : V → Bor → Option β) : Option β := match args, bor with
  | [a0, a1], [] => aI .u64 a0 fun p0 => aI .i64 a1 fun p1 => F_codec_lowest β L p0 p1 (fun p0 => k (V.fr 1 p0) [])
  | _, _ => none
theorem d_codec_lowest_ok (L : Nat) (β : Type) (args : List V) (bor : Bor) (k : V → Bor → Option β) (r : β) (h : d_codec_lowest F_codec_lowest L β args bor k = some r) : funC sh_codec_lowest (cb_codec_lowest L) L cf_codec_lowest args bor k = some r := by
  unfold d_codec_lowest at h
  split at h
  · have q := aI_inv h; clear h; obtain ⟨p0, rfl, h⟩ := q
    have q := aI_inv h; clear h; obtain ⟨p1, rfl, h⟩ := q
    exact (R_codec_lowest_ok L p0 p1 k).trans h
  · cases h
/-! codec_extend : 191 -/
def cf_codec_extend : CF := ⟨18, [.tmp 4],
 (.seq (.reg [⟨(some 4), false, none, .move (.const (.gs 1 [])) true⟩])
 (.seq (.reg [⟨(some 6), false, none, .move (.tmp 0) false⟩,
   ⟨(some 7), false, none, .lenS (.tmp 6)⟩,
   ⟨(some 8), false, none, .move (.tmp 1) false⟩,
   ⟨(some 9), false, none, .lenS (.tmp 8)⟩,
   ⟨(some 10), false, none, .bin .add (.tmp 7) (.tmp 9)⟩,
   ⟨(some 11), false, none, .makeSlice 1 1 [(.sc (.int .u8 0))] (.const (.sc (.int .i64 0))) (.tmp 10)⟩,
   ⟨(some 5), false, none, .move (.tmp 11) true⟩])
 (.seq (.reg [⟨(some 12), false, none, .move (.tmp 5) true⟩,
   ⟨(some 13), false, none, .move (.tmp 0) true⟩,
   ⟨(some 14), false, none, .append 1 1 (.tmp 12) (.tmp 13)⟩,
   ⟨(some 5), false, none, .move (.tmp 14) true⟩])
 (.seq (.reg [⟨(some 15), false, none, .move (.tmp 5) true⟩,
   ⟨(some 16), false, none, .move (.tmp 1) true⟩,
   ⟨(some 17), false, none, .append 1 1 (.tmp 15) (.tmp 16)⟩,
   ⟨(some 4), false, none, .move (.tmp 17) true⟩])
 .ret))))⟩
def hint_codec_extend : Hint := ⟨[(0, 0), (1, 6), (2, 0), (2, 1), (2, 3), (3, 0), (3, 1), (3, 3)], [], [none], []⟩
def sh_codec_extend : Nat → Sh := shOf []
def cb_codec_extend (L : Nat) : CBC := noC
def R_codec_extend {β : Type} (L : Nat) (p0 : List (List V)) (p1 : List (List V)) (k_fin : List (List V) → Option β) : Option β :=
 lt (IntKind.wrap .i64 ((((List.length p0 : Nat) : Int) : Int) + ((List.length p1 : Nat) : Int))) fun x0 =>
 chk (0 ≤ (0 : Int) ∧ (0 : Int) ≤ x0 ∧ (Int.toNat x0) * 1 ≤ sizeCap ∧ x0 ≤ sizeCap) (
 chk ((List.length (List.replicate 0 [(V.sc (.int .u8 (0 : Int)))]) + List.length p0) * 1 ≤ sizeCap ∧ List.length (List.replicate 0 [(V.sc (.int .u8 (0 : Int)))]) + List.length p0 ≤ sizeCap) (
 lt ((List.replicate 0 [(V.sc (.int .u8 (0 : Int)))]) ++ p0) fun l1 =>
 chk ((List.length l1 + List.length p1) * 1 ≤ sizeCap ∧ List.length l1 + List.length p1 ≤ sizeCap) (
 lt (l1 ++ p1) fun l2 =>
 k_fin l2)))
theorem R_codec_extend_ok {β : Type} (L : Nat) (p0 : List (List V)) (p1 : List (List V)) (k : V → Bor → Option β) : funC sh_codec_extend (cb_codec_extend L) L cf_codec_extend [(V.sl 1 p0), (V.sl 1 p1)] [] k = R_codec_extend L p0 p1 (fun p0 => k (V.gs 1 p0) []) := by kernel_rfl
abbrev T_codec_extend := ∀ (β : Type), Nat → List (List V) → List (List V) → (List (List V) → Option β) → Option β
def F_codec_extend (β : Type) (L : Nat) (p0 : List (List V)) (p1 : List (List V)) (k_fin : List (List V) → Option β) : Option β := R_codec_extend L p0 p1 k_fin
def d_codec_extend (F_codec_extend : T_codec_extend) (L : Nat) (β : Type) (args : List V) (bor : Bor) (k : V → Bor → Option β) : Option β := match args, bor with
  | [a0, a1], [] => aL 1 a0 fun p0 => aL 1 a1 fun p1 => F_codec_extend β L p0 p1 (fun p0 => k (V.gs 1 p0) [])
  | _, _ => none
theorem d_codec_extend_ok (L : Nat) (β : Type) (args : List V) (bor : Bor) (k : V → Bor → Option β) (r : β) (h : d_codec_extend F_codec_extend L β args bor k = some r) : funC sh_codec_extend (cb_codec_extend L) L cf_codec_extend args bor k = some r := by
  unfold d_codec_extend at h
  split at h
  · have q := aL_inv h; clear h; obtain ⟨p0, rfl, h⟩ := q
    have q := aL_inv h; clear h; obtain ⟨p1, rfl, h⟩ := q
    exact (R_codec_extend_ok L p0 p1 k).trans h
  · cases h
/-! codec_AppendU32 : 157 -/
def cf_codec_AppendU32 : CF := ⟨10, [.tmp 4],
 (.seq (.reg [⟨(some 4), false, none, .move (.const (.gs 1 [])) true⟩])
 (.seq (.reg [⟨(some 5), false, none, .move (.tmp 0) true⟩,
   ⟨(some 6), false, none, .move (.tmp 1) false⟩,
   ⟨(some 7), false, none, .conv .u64 (.tmp 6)⟩,
   ⟨(some 8), false, none, .call 192 [((.tmp 7), false), ((.const (.sc (.int .i64 4))), false)]⟩,
   ⟨(some 9), false, none, .call 191 [((.tmp 5), false), ((.tmp 8), false)]⟩,
   ⟨(some 4), false, none, .move (.tmp 9) true⟩])
 .ret))⟩
def hint_codec_AppendU32 : Hint := ⟨[(0, 0), (1, 0), (1, 5)], [], [none], []⟩
def sh_codec_AppendU32 : Nat → Sh := shOf []
def cb_codec_AppendU32 (F_codec_lowest : T_codec_lowest) (F_codec_extend : T_codec_extend) (L : Nat) : CBC := (addC 191 (d_codec_extend F_codec_extend L) (addC 192 (d_codec_lowest F_codec_lowest L) noC))
def R_codec_AppendU32 {β : Type} (F_codec_lowest : T_codec_lowest) (F_codec_extend : T_codec_extend) (L : Nat) (p0 : List (List V)) (p1 : Int) (k_fin : List (List V) → Option β) : Option β :=
 lt (IntKind.wrap .u64 p1) fun x0 =>
 F_codec_lowest β L x0 (4 : Int) (fun v1 =>
 F_codec_extend β L p0 v1 (fun v2 =>
 k_fin v2))
theorem R_codec_AppendU32_ok {β : Type} (F_codec_lowest : T_codec_lowest) (F_codec_extend : T_codec_extend) (L : Nat) (p0 : List (List V)) (p1 : Int) (k : V → Bor → Option β) : funC sh_codec_AppendU32 (cb_codec_AppendU32 F_codec_lowest F_codec_extend L) L cf_codec_AppendU32 [(V.sl 1 p0), (V.sc (.int .u32 p1))] [] k = R_codec_AppendU32 F_codec_lowest F_codec_extend L p0 p1 (fun p0 => k (V.gs 1 p0) []) := by kernel_rfl
abbrev T_codec_AppendU32 := ∀ (β : Type), Nat → List (List V) → Int → (List (List V) → Option β) → Option β
def F_codec_AppendU32 (β : Type) (L : Nat) (p0 : List (List V)) (p1 : Int) (k_fin : List (List V) → Option β) : Option β := R_codec_AppendU32 F_codec_lowest F_codec_extend L p0 p1 k_fin
def d_codec_AppendU32 (F_codec_AppendU32 : T_codec_AppendU32) (L : Nat) (β : Type) (args : List V) (bor : Bor) (k : V → Bor → Option β) : Option β := match args, bor with
  | [a0, a1], [] => aL 1 a0 fun p0 => aI .u32 a1 fun p1 => F_codec_AppendU32 β L p0 p1 (fun p0 => k (V.gs 1 p0) [])
  | _, _ => none
theorem d_codec_AppendU32_ok (L : Nat) (β : Type) (args : List V) (bor : Bor) (k : V → Bor → Option β) (r : β) (h : d_codec_AppendU32 F_codec_AppendU32 L β args bor k = some r) : funC sh_codec_AppendU32 (cb_codec_AppendU32 F_codec_lowest F_codec_extend L) L cf_codec_AppendU32 args bor k = some r := by
  unfold d_codec_AppendU32 at h
  split at h
  · have q := aL_inv h; clear h; obtain ⟨p0, rfl, h⟩ := q
    have q := aI_inv h; clear h; obtain ⟨p1, rfl, h⟩ := q
    exact (R_codec_AppendU32_ok F_codec_lowest F_codec_extend L p0 p1 k).trans h
  · cases h
/-! codec_AppendU16 : 205 -/
def cf_codec_AppendU16 : CF := ⟨10, [.tmp 4],
 (.seq (.reg [⟨(some 4), false, none, .move (.const (.gs 1 [])) true⟩])
 (.seq (.reg [⟨(some 5), false, none, .move (.tmp 0) true⟩,
   ⟨(some 6), false, none, .move (.tmp 1) false⟩,
   ⟨(some 7), false, none, .conv .u64 (.tmp 6)⟩,
   ⟨(some 8), false, none, .call 192 [((.tmp 7), false), ((.const (.sc (.int .i64 2))), false)]⟩,
   ⟨(some 9), false, none, .call 191 [((.tmp 5), false), ((.tmp 8), false)]⟩,
   ⟨(some 4), false, none, .move (.tmp 9) true⟩])
 .ret))⟩
def hint_codec_AppendU16 : Hint := ⟨[(0, 0), (1, 0), (1, 5)], [], [none], []⟩
def sh_codec_AppendU16 : Nat → Sh := shOf []
def cb_codec_AppendU16 (F_codec_lowest : T_codec_lowest) (F_codec_extend : T_codec_extend) (L : Nat) : CBC := (addC 191 (d_codec_extend F_codec_extend L) (addC 192 (d_codec_lowest F_codec_lowest L) noC))
def R_codec_AppendU16 {β : Type} (F_codec_lowest : T_codec_lowest) (F_codec_extend : T_codec_extend) (L : Nat) (p0 : List (List V)) (p1 : Int) (k_fin : List (List V) → Option β) : Option β :=
 lt (IntKind.wrap .u64 p1) fun x0 =>
 F_codec_lowest β L x0 (2 : Int) (fun v1 =>
 F_codec_extend β L p0 v1 (fun v2 =>
 k_fin v2))
theorem R_codec_AppendU16_ok {β : Type} (F_codec_lowest : T_codec_lowest) (F_codec_extend : T_codec_extend) (L : Nat) (p0 : List (List V)) (p1 : Int) (k : V → Bor → Option β) : funC sh_codec_AppendU16 (cb_codec_AppendU16 F_codec_lowest F_codec_extend L) L cf_codec_AppendU16 [(V.sl 1 p0), (V.sc (.int .u16 p1))] [] k = R_codec_AppendU16 F_codec_lowest F_codec_extend L p0 p1 (fun p0 => k (V.gs 1 p0) []) := by kernel_rfl
abbrev T_codec_AppendU16 := ∀ (β : Type), Nat → List (List V) → Int → (List (List V) → Option β) → Option β
def F_codec_AppendU16 (β : Type) (L : Nat) (p0 : List (List V)) (p1 : Int) (k_fin : List (List V) → Option β) : Option β := R_codec_AppendU16 F_codec_lowest F_codec_extend L p0 p1 k_fin
def d_codec_AppendU16 (F_codec_AppendU16 : T_codec_AppendU16) (L : Nat) (β : Type) (args : List V) (bor : Bor) (k : V → Bor → Option β) : Option β := match args, bor with
  | [a0, a1], [] => aL 1 a0 fun p0 => aI .u16 a1 fun p1 => F_codec_AppendU16 β L p0 p1 (fun p0 => k (V.gs 1 p0) [])
  | _, _ => none
theorem d_codec_AppendU16_ok (L : Nat) (β : Type) (args : List V) (bor : Bor) (k : V → Bor → Option β) (r : β) (h : d_codec_AppendU16 F_codec_AppendU16 L β args bor k = some r) : funC sh_codec_AppendU16 (cb_codec_AppendU16 F_codec_lowest F_codec_extend L) L cf_codec_AppendU16 args bor k = some r := by
  unfold d_codec_AppendU16 at h
  split at h
  · have q := aL_inv h; clear h; obtain ⟨p0, rfl, h⟩ := q
    have q := aI_inv h; clear h; obtain ⟨p1, rfl, h⟩ := q
    exact (R_codec_AppendU16_ok F_codec_lowest F_codec_extend L p0 p1 k).trans h
  · cases h
/-! codec_AppendU64 : 183 -/
def cf_codec_AppendU64 : CF := ⟨9, [.tmp 4],
 (.seq (.reg [⟨(some 4), false, none, .move (.const (.gs 1 [])) true⟩])
 (.seq (.reg [⟨(some 5), false, none, .move (.tmp 0) true⟩,
   ⟨(some 6), false, none, .move (.tmp 1) false⟩,
   ⟨(some 7), false, none, .call 192 [((.tmp 6), false), ((.const (.sc (.int .i64 8))), false)]⟩,
   ⟨(some 8), false, none, .call 191 [((.tmp 5), false), ((.tmp 7), false)]⟩,
   ⟨(some 4), false, none, .move (.tmp 8) true⟩])
 .ret))⟩
def hint_codec_AppendU64 : Hint := ⟨[(0, 0), (1, 0), (1, 4)], [], [none], []⟩
def sh_codec_AppendU64 : Nat → Sh := shOf []
def cb_codec_AppendU64 (F_codec_lowest : T_codec_lowest) (F_codec_extend : T_codec_extend) (L : Nat) : CBC := (addC 191 (d_codec_extend F_codec_extend L) (addC 192 (d_codec_lowest F_codec_lowest L) noC))
def R_codec_AppendU64 {β : Type} (F_codec_lowest : T_codec_lowest) (F_codec_extend : T_codec_extend) (L : Nat) (p0 : List (List V)) (p1 : Int) (k_fin : List (List V) → Option β) : Option β :=
 F_codec_lowest β L p1 (8 : Int) (fun v0 =>
 F_codec_extend β L p0 v0 (fun v1 =>
 k_fin v1))
theorem R_codec_AppendU64_ok {β : Type} (F_codec_lowest : T_codec_lowest) (F_codec_extend : T_codec_extend) (L : Nat) (p0 : List (List V)) (p1 : Int) (k : V → Bor → Option β) : funC sh_codec_AppendU64 (cb_codec_AppendU64 F_codec_lowest F_codec_extend L) L cf_codec_AppendU64 [(V.sl 1 p0), (V.sc (.int .u64 p1))] [] k = R_codec_AppendU64 F_codec_lowest F_codec_extend L p0 p1 (fun p0 => k (V.gs 1 p0) []) := by kernel_rfl
abbrev T_codec_AppendU64 := ∀ (β : Type), Nat → List (List V) → Int → (List (List V) → Option β) → Option β
def F_codec_AppendU64 (β : Type) (L : Nat) (p0 : List (List V)) (p1 : Int) (k_fin : List (List V) → Option β) : Option β := R_codec_AppendU64 F_codec_lowest F_codec_extend L p0 p1 k_fin
def d_codec_AppendU64 (F_codec_AppendU64 : T_codec_AppendU64) (L : Nat) (β : Type) (args : List V) (bor : Bor) (k : V → Bor → Option β) : Option β := match args, bor with
  | [a0, a1], [] => aL 1 a0 fun p0 => aI .u64 a1 fun p1 => F_codec_AppendU64 β L p0 p1 (fun p0 => k (V.gs 1 p0) [])
  | _, _ => none
theorem d_codec_AppendU64_ok (L : Nat) (β : Type) (args : List V) (bor : Bor) (k : V → Bor → Option β) (r : β) (h : d_codec_AppendU64 F_codec_AppendU64 L β args bor k = some r) : funC sh_codec_AppendU64 (cb_codec_AppendU64 F_codec_lowest F_codec_extend L) L cf_codec_AppendU64 args bor k = some r := by
  unfold d_codec_AppendU64 at h
  split at h
  · have q := aL_inv h; clear h; obtain ⟨p0, rfl, h⟩ := q
    have q := aI_inv h; clear h; obtain ⟨p1, rfl, h⟩ := q
    exact (R_codec_AppendU64_ok F_codec_lowest F_codec_extend L p0 p1 k).trans h
  · cases h
/-! codec_AppendSize : 182 -/
def cf_codec_AppendSize : CF := ⟨36, [.tmp 4],
 (.seq (.reg [⟨(some 4), false, none, .move (.const (.gs 1 [])) true⟩])
 (.seq (.block 0 (.seq (.reg [⟨(some 6), false, none, .move (.tmp 1) false⟩,
   ⟨(some 7), false, none, .bin .lss (.tmp 6) (.const (.sc (.int .u64 253)))⟩,
   ⟨(some 5), false, none, .move (.tmp 7) false⟩])
 (.cond (.tmp 5)
 (.seq (.reg [⟨(some 8), false, none, .move (.tmp 0) true⟩,
   ⟨(some 9), false, none, .move (.tmp 1) false⟩,
   ⟨(some 10), false, none, .conv .u8 (.tmp 9)⟩,
   ⟨(some 11), false, none, .buildSlice 1 1 [(.sc (.int .u8 0))] [(0, 1, (.tmp 10))]⟩,
   ⟨(some 12), false, none, .call 191 [((.tmp 8), false), ((.tmp 11), false)]⟩,
   ⟨(some 4), false, none, .move (.tmp 12) true⟩])
 .ret)
 (.seq (.reg [⟨(some 14), false, none, .move (.tmp 1) false⟩,
   ⟨(some 15), false, none, .bin .lss (.tmp 14) (.const (.sc (.int .u64 65536)))⟩,
   ⟨(some 13), false, none, .move (.tmp 15) false⟩])
 (.cond (.tmp 13)
 (.seq (.reg [⟨(some 16), false, none, .move (.tmp 0) true⟩,
   ⟨(some 17), false, none, .buildSlice 1 1 [(.sc (.int .u8 0))] [(0, 1, (.const (.sc (.int .u8 253))))]⟩,
   ⟨(some 18), false, none, .call 191 [((.tmp 16), false), ((.tmp 17), false)]⟩,
   ⟨(some 19), false, none, .move (.tmp 1) false⟩,
   ⟨(some 20), false, none, .conv .u16 (.tmp 19)⟩,
   ⟨(some 21), false, none, .call 205 [((.tmp 18), false), ((.tmp 20), false)]⟩,
   ⟨(some 4), false, none, .move (.tmp 21) true⟩])
 .ret)
 (.seq (.reg [⟨(some 23), false, none, .move (.tmp 1) false⟩,
   ⟨(some 24), false, none, .bin .lss (.tmp 23) (.const (.sc (.int .u64 4294967296)))⟩,
   ⟨(some 22), false, none, .move (.tmp 24) false⟩])
 (.cond (.tmp 22)
 (.seq (.reg [⟨(some 25), false, none, .move (.tmp 0) true⟩,
   ⟨(some 26), false, none, .buildSlice 1 1 [(.sc (.int .u8 0))] [(0, 1, (.const (.sc (.int .u8 254))))]⟩,
   ⟨(some 27), false, none, .call 191 [((.tmp 25), false), ((.tmp 26), false)]⟩,
   ⟨(some 28), false, none, .move (.tmp 1) false⟩,
   ⟨(some 29), false, none, .conv .u32 (.tmp 28)⟩,
   ⟨(some 30), false, none, .call 157 [((.tmp 27), false), ((.tmp 29), false)]⟩,
   ⟨(some 4), false, none, .move (.tmp 30) true⟩])
 .ret)
 .skip)))))))
 (.seq (.reg [⟨(some 31), false, none, .move (.tmp 0) true⟩,
   ⟨(some 32), false, none, .buildSlice 1 1 [(.sc (.int .u8 0))] [(0, 1, (.const (.sc (.int .u8 255))))]⟩,
   ⟨(some 33), false, none, .call 191 [((.tmp 31), false), ((.tmp 32), false)]⟩,
   ⟨(some 34), false, none, .move (.tmp 1) false⟩,
   ⟨(some 35), false, none, .call 183 [((.tmp 33), false), ((.tmp 34), false)]⟩,
   ⟨(some 4), false, none, .move (.tmp 35) true⟩])
 .ret)))⟩
def hint_codec_AppendSize : Hint := ⟨[(0, 0), (2, 0), (2, 5), (4, 0), (4, 6), (6, 0), (6, 6), (7, 0), (7, 5)], [], [none, none, none, none, none, none, none, none], []⟩
def sh_codec_AppendSize : Nat → Sh := shOf []
def cb_codec_AppendSize (F_codec_extend : T_codec_extend) (F_codec_AppendU16 : T_codec_AppendU16) (F_codec_AppendU32 : T_codec_AppendU32) (F_codec_AppendU64 : T_codec_AppendU64) (L : Nat) : CBC := (addC 183 (d_codec_AppendU64 F_codec_AppendU64 L) (addC 157 (d_codec_AppendU32 F_codec_AppendU32 L) (addC 205 (d_codec_AppendU16 F_codec_AppendU16 L) (addC 191 (d_codec_extend F_codec_extend L) noC))))
def R_codec_AppendSize {β : Type} (F_codec_extend : T_codec_extend) (F_codec_AppendU16 : T_codec_AppendU16) (F_codec_AppendU32 : T_codec_AppendU32) (F_codec_AppendU64 : T_codec_AppendU64) (L : Nat) (p0 : List (List V)) (p1 : Int) (k_fin : List (List V) → Option β) : Option β :=
 ifb (decide (p1 < (253 : Int))) (
 lt (IntKind.wrap .u8 p1) fun x0 =>
 F_codec_extend β L p0 (chunks 1 1 [(V.sc (.int .u8 x0))]) (fun v1 =>
 k_fin v1)) (
 ifb (decide (p1 < (65536 : Int))) (
 F_codec_extend β L p0 (chunks 1 1 [(V.sc (.int .u8 (253 : Int)))]) (fun v2 =>
 lt (IntKind.wrap .u16 p1) fun x3 =>
 F_codec_AppendU16 β L v2 x3 (fun v4 =>
 k_fin v4))) (
 ifb (decide (p1 < (4294967296 : Int))) (
 F_codec_extend β L p0 (chunks 1 1 [(V.sc (.int .u8 (254 : Int)))]) (fun v5 =>
 lt (IntKind.wrap .u32 p1) fun x6 =>
 F_codec_AppendU32 β L v5 x6 (fun v7 =>
 k_fin v7))) (
 F_codec_extend β L p0 (chunks 1 1 [(V.sc (.int .u8 (255 : Int)))]) (fun v8 =>
 F_codec_AppendU64 β L v8 p1 (fun v9 =>
 k_fin v9)))))
theorem R_codec_AppendSize_ok {β : Type} (F_codec_extend : T_codec_extend) (F_codec_AppendU16 : T_codec_AppendU16) (F_codec_AppendU32 : T_codec_AppendU32) (F_codec_AppendU64 : T_codec_AppendU64) (L : Nat) (p0 : List (List V)) (p1 : Int) (k : V → Bor → Option β) : funC sh_codec_AppendSize (cb_codec_AppendSize F_codec_extend F_codec_AppendU16 F_codec_AppendU32 F_codec_AppendU64 L) L cf_codec_AppendSize [(V.sl 1 p0), (V.sc (.int .u64 p1))] [] k = R_codec_AppendSize F_codec_extend F_codec_AppendU16 F_codec_AppendU32 F_codec_AppendU64 L p0 p1 (fun p0 => k (V.gs 1 p0) []) := by kernel_rfl
abbrev T_codec_AppendSize := ∀ (β : Type), Nat → List (List V) → Int → (List (List V) → Option β) → Option β
def F_codec_AppendSize (β : Type) (L : Nat) (p0 : List (List V)) (p1 : Int) (k_fin : List (List V) → Option β) : Option β := R_codec_AppendSize F_codec_extend F_codec_AppendU16 F_codec_AppendU32 F_codec_AppendU64 L p0 p1 k_fin
def d_codec_AppendSize (F_codec_AppendSize : T_codec_AppendSize) (L : Nat) (β : Type) (args : List V) (bor : Bor) (k : V → Bor → Option β) : Option β := match args, bor with
  | [a0, a1], [] => aL 1 a0 fun p0 => aI .u64 a1 fun p1 => F_codec_AppendSize β L p0 p1 (fun p0 => k (V.gs 1 p0) [])
  | _, _ => none
theorem d_codec_AppendSize_ok (L : Nat) (β : Type) (args : List V) (bor : Bor) (k : V → Bor → Option β) (r : β) (h : d_codec_AppendSize F_codec_AppendSize L β args bor k = some r) : funC sh_codec_AppendSize (cb_codec_AppendSize F_codec_extend F_codec_AppendU16 F_codec_AppendU32 F_codec_AppendU64 L) L cf_codec_AppendSize args bor k = some r := by
  unfold d_codec_AppendSize at h
  split at h
  · have q := aL_inv h; clear h; obtain ⟨p0, rfl, h⟩ := q
    have q := aI_inv h; clear h; obtain ⟨p1, rfl, h⟩ := q
    exact (R_codec_AppendSize_ok F_codec_extend F_codec_AppendU16 F_codec_AppendU32 F_codec_AppendU64 L p0 p1 k).trans h
  · cases h
/-! codec_AppendHash : 158 -/
def cf_codec_AppendHash : CF := ⟨8, [.tmp 4],
 (.seq (.reg [⟨(some 3), false, none, .box true (.tmp 1)⟩,
   ⟨(some 4), false, none, .move (.const (.gs 1 [])) true⟩])
 (.seq (.reg [⟨(some 5), false, none, .move (.tmp 0) true⟩,
   ⟨(some 6), false, none, .sliceA 32 1 (.tmp 3) none none none⟩,
   ⟨(some 7), false, none, .call 191 [((.tmp 5), false), ((.tmp 6), false)]⟩,
   ⟨(some 4), false, none, .move (.tmp 7) true⟩])
 .ret))⟩
def hint_codec_AppendHash : Hint := ⟨[(0, 1), (1, 0), (1, 3)], [], [none], []⟩
def sh_codec_AppendHash : Nat → Sh := shOf []
def cb_codec_AppendHash (F_codec_extend : T_codec_extend) (L : Nat) : CBC := (addC 191 (d_codec_extend F_codec_extend L) noC)
def R_codec_AppendHash {β : Type} (F_codec_extend : T_codec_extend) (L : Nat) (p0 : List (List V)) (p1 : List V) (k_fin : List (List V) → Option β) : Option β :=
 chk (0 + 32 * 1 ≤ (List.length p1)) (
 F_codec_extend β L p0 (chunks 1 32 p1) (fun v0 =>
 k_fin v0))
theorem R_codec_AppendHash_ok {β : Type} (F_codec_extend : T_codec_extend) (L : Nat) (p0 : List (List V)) (p1 : List V) (k : V → Bor → Option β) : funC sh_codec_AppendHash (cb_codec_AppendHash F_codec_extend L) L cf_codec_AppendHash [(V.sl 1 p0), (V.agg p1)] [] k = R_codec_AppendHash F_codec_extend L p0 p1 (fun p0 => k (V.gs 1 p0) []) := by kernel_rfl
abbrev T_codec_AppendHash := ∀ (β : Type), Nat → List (List V) → List V → (List (List V) → Option β) → Option β
def F_codec_AppendHash (β : Type) (L : Nat) (p0 : List (List V)) (p1 : List V) (k_fin : List (List V) → Option β) : Option β := R_codec_AppendHash F_codec_extend L p0 p1 k_fin
def d_codec_AppendHash (F_codec_AppendHash : T_codec_AppendHash) (L : Nat) (β : Type) (args : List V) (bor : Bor) (k : V → Bor → Option β) : Option β := match args, bor with
  | [a0, a1], [] => aL 1 a0 fun p0 => aG a1 fun p1 => F_codec_AppendHash β L p0 p1 (fun p0 => k (V.gs 1 p0) [])
  | _, _ => none
theorem d_codec_AppendHash_ok (L : Nat) (β : Type) (args : List V) (bor : Bor) (k : V → Bor → Option β) (r : β) (h : d_codec_AppendHash F_codec_AppendHash L β args bor k = some r) : funC sh_codec_AppendHash (cb_codec_AppendHash F_codec_extend L) L cf_codec_AppendHash args bor k = some r := by
  unfold d_codec_AppendHash at h
  split at h
  · have q := aL_inv h; clear h; obtain ⟨p0, rfl, h⟩ := q
    have q := aG_inv h; clear h; obtain ⟨p1, rfl, h⟩ := q
    exact (R_codec_AppendHash_ok F_codec_extend L p0 p1 k).trans h
  · cases h
/-! tx_Point : 137 -/
def cf_tx_Point : CF := ⟨9, [.tmp 2],
 (.seq (.reg [⟨(some 1), false, none, .box true (.tmp 0)⟩,
   ⟨(some 2), false, none, .move (.const (.gs 1 [])) true⟩])
 (.seq (.dreg [] [(⟨(some 3), false, none, .fieldAddr 0 (.tmp 1)⟩, false),
   (⟨(some 4), false, none, .load true 32 (.tmp 3) false⟩, true),
   (⟨(some 5), false, none, .call 158 [((.const (.gs 1 [])), false), ((.tmp 4), false)]⟩, true),
   (⟨(some 6), false, none, .fieldAddr 32 (.tmp 1)⟩, false),
   (⟨(some 7), false, none, .load false 1 (.tmp 6) false⟩, true),
   (⟨(some 8), false, none, .call 157 [((.tmp 5), false), ((.tmp 7), false)]⟩, false),
   (⟨(some 2), false, none, .move (.tmp 8) true⟩, false)])
 .ret))⟩
def hint_tx_Point : Hint := ⟨[(0, 1), (1, 6)], [], [none], []⟩
def sh_tx_Point : Nat → Sh := shOf [(7, (.int .u32))]
def cb_tx_Point (F_codec_AppendHash : T_codec_AppendHash) (F_codec_AppendU32 : T_codec_AppendU32) (L : Nat) : CBC := (addC 157 (d_codec_AppendU32 F_codec_AppendU32 L) (addC 158 (d_codec_AppendHash F_codec_AppendHash L) noC))
def R_tx_Point {β : Type} (F_codec_AppendHash : T_codec_AppendHash) (F_codec_AppendU32 : T_codec_AppendU32) (L : Nat) (p0 : List V) (k_fin : List (List V) → Option β) : Option β :=
 chk (0 + 32 ≤ (List.length p0)) (
 F_codec_AppendHash β L ([] : List (List V)) (List.take 32 p0) (fun v0 =>
 cI .u32 p0 32 fun v1 =>
 F_codec_AppendU32 β L v0 v1 (fun v2 =>
 k_fin v2)))
theorem R_tx_Point_ok {β : Type} (F_codec_AppendHash : T_codec_AppendHash) (F_codec_AppendU32 : T_codec_AppendU32) (L : Nat) (p0 : List V) (k : V → Bor → Option β) : funC sh_tx_Point (cb_tx_Point F_codec_AppendHash F_codec_AppendU32 L) L cf_tx_Point [(V.agg p0)] [] k = R_tx_Point F_codec_AppendHash F_codec_AppendU32 L p0 (fun p0 => k (V.gs 1 p0) []) := by kernel_rfl
abbrev T_tx_Point := ∀ (β : Type), Nat → List V → (List (List V) → Option β) → Option β
def F_tx_Point (β : Type) (L : Nat) (p0 : List V) (k_fin : List (List V) → Option β) : Option β := R_tx_Point F_codec_AppendHash F_codec_AppendU32 L p0 k_fin
def d_tx_Point (F_tx_Point : T_tx_Point) (L : Nat) (β : Type) (args : List V) (bor : Bor) (k : V → Bor → Option β) : Option β := match args, bor with
  | [a0], [] => aG a0 fun p0 => F_tx_Point β L p0 (fun p0 => k (V.gs 1 p0) [])
  | _, _ => none
theorem d_tx_Point_ok (L : Nat) (β : Type) (args : List V) (bor : Bor) (k : V → Bor → Option β) (r : β) (h : d_tx_Point F_tx_Point L β args bor k = some r) : funC sh_tx_Point (cb_tx_Point F_codec_AppendHash F_codec_AppendU32 L) L cf_tx_Point args bor k = some r := by
  unfold d_tx_Point at h
  split at h
  · have q := aG_inv h; clear h; obtain ⟨p0, rfl, h⟩ := q
    exact (R_tx_Point_ok F_codec_AppendHash F_codec_AppendU32 L p0 k).trans h
  · cases h
/-! codec_AppendBytes : 184 -/
def cf_codec_AppendBytes : CF := ⟨12, [.tmp 4],
 (.seq (.reg [⟨(some 4), false, none, .move (.const (.gs 1 [])) true⟩])
 (.seq (.reg [⟨(some 5), false, none, .move (.tmp 0) true⟩,
   ⟨(some 6), false, none, .move (.tmp 1) false⟩,
   ⟨(some 7), false, none, .lenS (.tmp 6)⟩,
   ⟨(some 8), false, none, .conv .u64 (.tmp 7)⟩,
   ⟨(some 9), false, none, .call 182 [((.tmp 5), false), ((.tmp 8), false)]⟩,
   ⟨(some 10), false, none, .move (.tmp 1) true⟩,
   ⟨(some 11), false, none, .call 191 [((.tmp 9), false), ((.tmp 10), false)]⟩,
   ⟨(some 4), false, none, .move (.tmp 11) true⟩])
 .ret))⟩
def hint_codec_AppendBytes : Hint := ⟨[(0, 0), (1, 0), (1, 5), (1, 7)], [], [none], []⟩
def sh_codec_AppendBytes : Nat → Sh := shOf []
def cb_codec_AppendBytes (F_codec_AppendSize : T_codec_AppendSize) (F_codec_extend : T_codec_extend) (L : Nat) : CBC := (addC 191 (d_codec_extend F_codec_extend L) (addC 182 (d_codec_AppendSize F_codec_AppendSize L) noC))
def R_codec_AppendBytes {β : Type} (F_codec_AppendSize : T_codec_AppendSize) (F_codec_extend : T_codec_extend) (L : Nat) (p0 : List (List V)) (p1 : List (List V)) (k_fin : List (List V) → Option β) : Option β :=
 lt (IntKind.wrap .u64 ((List.length p1 : Nat) : Int)) fun x0 =>
 F_codec_AppendSize β L p0 x0 (fun v1 =>
 F_codec_extend β L v1 p1 (fun v2 =>
 k_fin v2))
theorem R_codec_AppendBytes_ok {β : Type} (F_codec_AppendSize : T_codec_AppendSize) (F_codec_extend : T_codec_extend) (L : Nat) (p0 : List (List V)) (p1 : List (List V)) (k : V → Bor → Option β) : funC sh_codec_AppendBytes (cb_codec_AppendBytes F_codec_AppendSize F_codec_extend L) L cf_codec_AppendBytes [(V.sl 1 p0), (V.sl 1 p1)] [] k = R_codec_AppendBytes F_codec_AppendSize F_codec_extend L p0 p1 (fun p0 => k (V.gs 1 p0) []) := by kernel_rfl
abbrev T_codec_AppendBytes := ∀ (β : Type), Nat → List (List V) → List (List V) → (List (List V) → Option β) → Option β
def F_codec_AppendBytes (β : Type) (L : Nat) (p0 : List (List V)) (p1 : List (List V)) (k_fin : List (List V) → Option β) : Option β := R_codec_AppendBytes F_codec_AppendSize F_codec_extend L p0 p1 k_fin
def d_codec_AppendBytes (F_codec_AppendBytes : T_codec_AppendBytes) (L : Nat) (β : Type) (args : List V) (bor : Bor) (k : V → Bor → Option β) : Option β := match args, bor with
  | [a0, a1], [] => aL 1 a0 fun p0 => aL 1 a1 fun p1 => F_codec_AppendBytes β L p0 p1 (fun p0 => k (V.gs 1 p0) [])
  | _, _ => none
theorem d_codec_AppendBytes_ok (L : Nat) (β : Type) (args : List V) (bor : Bor) (k : V → Bor → Option β) (r : β) (h : d_codec_AppendBytes F_codec_AppendBytes L β args bor k = some r) : funC sh_codec_AppendBytes (cb_codec_AppendBytes F_codec_AppendSize F_codec_extend L) L cf_codec_AppendBytes args bor k = some r := by
  unfold d_codec_AppendBytes at h
  split at h
  · have q := aL_inv h; clear h; obtain ⟨p0, rfl, h⟩ := q
    have q := aL_inv h; clear h; obtain ⟨p1, rfl, h⟩ := q
    exact (R_codec_AppendBytes_ok F_codec_AppendSize F_codec_extend L p0 p1 k).trans h
  · cases h
/-! tx_encode : 147 -/
def cbbbbbbbbabaabbaabbbaa_tx_encode : CC := (.seq (.reg [⟨(some 94), false, none, .bin .lss (.tmp 93) (.tmp 92)⟩])
 (.seq (.cond (.tmp 94)
 .skip
 (.seq (.mask (bl 1057810092162800527867936 104) (bl 18380933703309326321702196469759 104))
 (.exit 6)))
 (.seq (.block 7 (.seq (.reg [⟨(some 95), false, none, .indexAddrS 1 (.tmp 91) (.tmp 93)⟩,
   ⟨(some 96), false, none, .load false 1 (.tmp 95) false⟩,
   ⟨(some 13), false, none, .move (.tmp 96) true⟩])
 (.reg [⟨(some 97), false, none, .move (.tmp 5) true⟩,
   ⟨(some 98), false, none, .move (.tmp 13) true⟩,
   ⟨(some 99), false, none, .call 184 [((.const (.gs 1 [])), false), ((.tmp 98), false)]⟩,
   ⟨(some 100), false, none, .append 1 1 (.tmp 97) (.tmp 99)⟩,
   ⟨(some 5), false, none, .move (.tmp 100) true⟩])))
 (.reg [⟨(some 101), false, none, .bin .add (.tmp 93) (.const (.sc (.int .i64 1)))⟩,
   ⟨(some 93), false, none, .move (.tmp 101) false⟩]))))
def cbbbbbbbbabaabbb_tx_encode : CC := (.reg [⟨(some 102), false, none, .bin .add (.tmp 79) (.const (.sc (.int .i64 1)))⟩,
   ⟨(some 79), false, none, .move (.tmp 102) false⟩])
def cbbbbbbbbabaa_tx_encode : CC := (.seq (.reg [⟨(some 80), false, none, .bin .lss (.tmp 79) (.tmp 78)⟩])
 (.seq (.cond (.tmp 80)
 .skip
 (.seq (.mask (bl 32 104) (bl 18374976116870265429129244432383 104))
 (.exit 4)))
 (.seq (.block 5 (.seq (.reg [⟨(some 81), false, none, .indexAddrS 35 (.tmp 77) (.tmp 79)⟩,
   ⟨(some 82), false, none, .load true 35 (.tmp 81) false⟩,
   ⟨(some 11), false, none, .alloc false [(.sc (.int .u8 0)), (.sc (.int .u8 0)), (.sc (.int .u8 0)), (.sc (.int .u8 0)), (.sc (.int .u8 0)), (.sc (.int .u8 0)), (.sc (.int .u8 0)), (.sc (.int .u8 0)), (.sc (.int .u8 0)), (.sc (.int .u8 0)), (.sc (.int .u8 0)), (.sc (.int .u8 0)), (.sc (.int .u8 0)), (.sc (.int .u8 0)), (.sc (.int .u8 0)), (.sc (.int .u8 0)), (.sc (.int .u8 0)), (.sc (.int .u8 0)), (.sc (.int .u8 0)), (.sc (.int .u8 0)), (.sc (.int .u8 0)), (.sc (.int .u8 0)), (.sc (.int .u8 0)), (.sc (.int .u8 0)), (.sc (.int .u8 0)), (.sc (.int .u8 0)), (.sc (.int .u8 0)), (.sc (.int .u8 0)), (.sc (.int .u8 0)), (.sc (.int .u8 0)), (.sc (.int .u8 0)), (.sc (.int .u8 0)), (.sc (.int .u32 0)), (.sc (.int .u32 0)), (.gs 1 [])]⟩,
   ⟨none, false, none, .store 35 (.tmp 11) (.tmp 82)⟩])
 (.seq (.reg [⟨(some 83), false, none, .move (.tmp 5) true⟩,
   ⟨(some 84), false, none, .fieldAddr 34 (.tmp 11)⟩,
   ⟨(some 85), false, none, .load false 1 (.tmp 84) false⟩,
   ⟨(some 86), false, none, .lenS (.tmp 85)⟩,
   ⟨(some 87), false, none, .conv .u64 (.tmp 86)⟩,
   ⟨(some 88), false, none, .call 182 [((.const (.gs 1 [])), false), ((.tmp 87), false)]⟩,
   ⟨(some 89), false, none, .append 1 1 (.tmp 83) (.tmp 88)⟩,
   ⟨(some 5), false, none, .move (.tmp 89) true⟩])
 (.seq (.reg [⟨(some 90), false, none, .fieldAddr 34 (.tmp 11)⟩,
   ⟨(some 91), false, none, .load false 1 (.tmp 90) false⟩,
   ⟨(some 92), false, none, .lenS (.tmp 91)⟩,
   ⟨(some 93), false, none, .move (.const (.sc (.int .i64 0))) false⟩])
 (.block 6 (.loop (bl 17332218360087486649115607072 104) (bl 18380933703309326321702196469759 104)
 cbbbbbbbbabaabbaabbbaa_tx_encode))))))
 cbbbbbbbbabaabbb_tx_encode)))
def cbbbbbabaa_tx_encode : CC := (.seq (.reg [⟨(some 53), false, none, .bin .lss (.tmp 52) (.tmp 51)⟩])
 (.seq (.cond (.tmp 53)
 .skip
 (.seq (.mask (bl 38 104) (bl 20282409603537531194991173434879 104))
 (.exit 2)))
 (.seq (.block 3 (.seq (.reg [⟨(some 54), false, none, .indexAddrS 2 (.tmp 50) (.tmp 52)⟩,
   ⟨(some 55), false, none, .load true 2 (.tmp 54) false⟩,
   ⟨(some 9), false, none, .alloc false [(.sc (.int .i64 0)), (.gs 1 [])]⟩,
   ⟨none, false, none, .store 2 (.tmp 9) (.tmp 55)⟩])
 (.seq (.reg [⟨(some 56), false, none, .move (.tmp 5) true⟩,
   ⟨(some 57), false, none, .fieldAddr 0 (.tmp 9)⟩,
   ⟨(some 58), false, none, .load false 1 (.tmp 57) false⟩,
   ⟨(some 59), false, none, .conv .u64 (.tmp 58)⟩,
   ⟨(some 60), false, none, .call 183 [((.const (.gs 1 [])), false), ((.tmp 59), false)]⟩,
   ⟨(some 61), false, none, .append 1 1 (.tmp 56) (.tmp 60)⟩,
   ⟨(some 5), false, none, .move (.tmp 61) true⟩])
 (.reg [⟨(some 62), false, none, .move (.tmp 5) true⟩,
   ⟨(some 63), false, none, .fieldAddr 1 (.tmp 9)⟩,
   ⟨(some 64), false, none, .load false 1 (.tmp 63) false⟩,
   ⟨(some 65), false, none, .call 184 [((.const (.gs 1 [])), false), ((.tmp 64), false)]⟩,
   ⟨(some 66), false, none, .append 1 1 (.tmp 62) (.tmp 65)⟩,
   ⟨(some 5), false, none, .move (.tmp 66) true⟩]))))
 (.reg [⟨(some 67), false, none, .bin .add (.tmp 52) (.const (.sc (.int .i64 1)))⟩,
   ⟨(some 52), false, none, .move (.tmp 67) false⟩]))))
def cbbbbbbbbb_tx_encode : CC := (.seq (.reg [⟨(some 103), false, none, .move (.tmp 5) true⟩,
   ⟨(some 4), false, none, .move (.tmp 103) true⟩])
 .ret)
def cbbbabaa_tx_encode : CC := (.seq (.reg [⟨(some 28), false, none, .bin .lss (.tmp 27) (.tmp 26)⟩])
 (.seq (.cond (.tmp 28)
 .skip
 (.seq (.mask (bl 38 104) (bl 20282409603651670422246444236671 104))
 (.exit 0)))
 (.seq (.block 1 (.seq (.reg [⟨(some 29), false, none, .indexAddrS 35 (.tmp 25) (.tmp 27)⟩,
   ⟨(some 30), false, none, .load true 35 (.tmp 29) false⟩,
   ⟨(some 7), false, none, .alloc false [(.sc (.int .u8 0)), (.sc (.int .u8 0)), (.sc (.int .u8 0)), (.sc (.int .u8 0)), (.sc (.int .u8 0)), (.sc (.int .u8 0)), (.sc (.int .u8 0)), (.sc (.int .u8 0)), (.sc (.int .u8 0)), (.sc (.int .u8 0)), (.sc (.int .u8 0)), (.sc (.int .u8 0)), (.sc (.int .u8 0)), (.sc (.int .u8 0)), (.sc (.int .u8 0)), (.sc (.int .u8 0)), (.sc (.int .u8 0)), (.sc (.int .u8 0)), (.sc (.int .u8 0)), (.sc (.int .u8 0)), (.sc (.int .u8 0)), (.sc (.int .u8 0)), (.sc (.int .u8 0)), (.sc (.int .u8 0)), (.sc (.int .u8 0)), (.sc (.int .u8 0)), (.sc (.int .u8 0)), (.sc (.int .u8 0)), (.sc (.int .u8 0)), (.sc (.int .u8 0)), (.sc (.int .u8 0)), (.sc (.int .u8 0)), (.sc (.int .u32 0)), (.sc (.int .u32 0)), (.gs 1 [])]⟩,
   ⟨none, false, none, .store 35 (.tmp 7) (.tmp 30)⟩])
 (.seq (.reg [⟨(some 31), false, none, .move (.tmp 5) true⟩,
   ⟨(some 32), false, none, .fieldAddr 0 (.tmp 7)⟩,
   ⟨(some 33), false, none, .load true 33 (.tmp 32) false⟩,
   ⟨(some 34), false, none, .call 137 [((.tmp 33), false)]⟩,
   ⟨(some 35), false, none, .append 1 1 (.tmp 31) (.tmp 34)⟩,
   ⟨(some 5), false, none, .move (.tmp 35) true⟩])
 (.reg [⟨(some 36), false, none, .move (.tmp 5) true⟩,
   ⟨(some 37), false, none, .fieldAddr 33 (.tmp 7)⟩,
   ⟨(some 38), false, none, .load false 1 (.tmp 37) false⟩,
   ⟨(some 39), false, none, .call 157 [((.const (.gs 1 [])), false), ((.tmp 38), false)]⟩,
   ⟨(some 40), false, none, .append 1 1 (.tmp 36) (.tmp 39)⟩,
   ⟨(some 5), false, none, .move (.tmp 40) true⟩]))))
 (.reg [⟨(some 41), false, none, .bin .add (.tmp 27) (.const (.sc (.int .i64 1)))⟩,
   ⟨(some 27), false, none, .move (.tmp 41) false⟩]))))
def cbbbbbb_tx_encode : CC := (.seq (.reg [⟨(some 68), false, none, .move (.tmp 5) true⟩,
   ⟨(some 69), false, none, .fieldAddr 3 (.tmp 2)⟩,
   ⟨(some 70), false, none, .load false 1 (.tmp 69) false⟩,
   ⟨(some 71), false, none, .call 157 [((.const (.gs 1 [])), false), ((.tmp 70), false)]⟩,
   ⟨(some 72), false, none, .append 1 1 (.tmp 68) (.tmp 71)⟩,
   ⟨(some 5), false, none, .move (.tmp 72) true⟩])
 (.seq (.seq (.reg [⟨(some 73), false, none, .move (.tmp 1) false⟩,
   ⟨(some 74), false, none, .un .not (.tmp 73)⟩])
 (.cond (.tmp 74)
 (.seq (.reg [⟨(some 75), false, none, .move (.tmp 5) true⟩,
   ⟨(some 4), false, none, .move (.tmp 75) true⟩])
 .ret)
 .skip))
 (.seq (.seq (.reg [⟨(some 76), false, none, .fieldAddr 1 (.tmp 2)⟩,
   ⟨(some 77), false, none, .load false 1 (.tmp 76) false⟩,
   ⟨(some 78), false, none, .lenS (.tmp 77)⟩,
   ⟨(some 79), false, none, .move (.const (.sc (.int .i64 0))) false⟩])
 (.block 4 (.loop (bl 1057810092162800527867936 104) (bl 18374976116870265429129244432383 104)
 cbbbbbbbbabaa_tx_encode)))
 cbbbbbbbbb_tx_encode)))
def cbbbb_tx_encode : CC := (.seq (.reg [⟨(some 42), false, none, .move (.tmp 5) true⟩,
   ⟨(some 43), false, none, .fieldAddr 2 (.tmp 2)⟩,
   ⟨(some 44), false, none, .load false 1 (.tmp 43) false⟩,
   ⟨(some 45), false, none, .lenS (.tmp 44)⟩,
   ⟨(some 46), false, none, .conv .u64 (.tmp 45)⟩,
   ⟨(some 47), false, none, .call 182 [((.const (.gs 1 [])), false), ((.tmp 46), false)]⟩,
   ⟨(some 48), false, none, .append 1 1 (.tmp 42) (.tmp 47)⟩,
   ⟨(some 5), false, none, .move (.tmp 48) true⟩])
 (.seq (.seq (.reg [⟨(some 49), false, none, .fieldAddr 2 (.tmp 2)⟩,
   ⟨(some 50), false, none, .load false 1 (.tmp 49) false⟩,
   ⟨(some 51), false, none, .lenS (.tmp 50)⟩,
   ⟨(some 52), false, none, .move (.const (.sc (.int .i64 0))) false⟩])
 (.block 2 (.loop (bl 7881299347898406 104) (bl 20282409603537531194991173434879 104)
 cbbbbbabaa_tx_encode)))
 cbbbbbb_tx_encode))
def cf_tx_encode : CF := ⟨104, [.tmp 4],
 (.seq (.reg [⟨(some 2), false, none, .box false (.tmp 0)⟩,
   ⟨(some 4), false, none, .move (.const (.gs 1 [])) true⟩])
 (.seq (.reg [⟨(some 14), false, none, .fieldAddr 0 (.tmp 2)⟩,
   ⟨(some 15), false, none, .load false 1 (.tmp 14) false⟩,
   ⟨(some 16), false, none, .call 157 [((.const (.gs 1 [])), false), ((.tmp 15), false)]⟩,
   ⟨(some 5), false, none, .move (.tmp 16) true⟩])
 (.seq (.reg [⟨(some 17), false, none, .move (.tmp 5) true⟩,
   ⟨(some 18), false, none, .fieldAddr 1 (.tmp 2)⟩,
   ⟨(some 19), false, none, .load false 1 (.tmp 18) false⟩,
   ⟨(some 20), false, none, .lenS (.tmp 19)⟩,
   ⟨(some 21), false, none, .conv .u64 (.tmp 20)⟩,
   ⟨(some 22), false, none, .call 182 [((.const (.gs 1 [])), false), ((.tmp 21), false)]⟩,
   ⟨(some 23), false, none, .append 1 1 (.tmp 17) (.tmp 22)⟩,
   ⟨(some 5), false, none, .move (.tmp 23) true⟩])
 (.seq (.seq (.reg [⟨(some 24), false, none, .fieldAddr 1 (.tmp 2)⟩,
   ⟨(some 25), false, none, .load false 1 (.tmp 24) false⟩,
   ⟨(some 26), false, none, .lenS (.tmp 25)⟩,
   ⟨(some 27), false, none, .move (.const (.sc (.int .i64 0))) false⟩])
 (.block 0 (.loop (bl 234881062 104) (bl 20282409603651670422246444236671 104)
 cbbbabaa_tx_encode)))
 cbbbb_tx_encode))))⟩
def hint_tx_encode : Hint := ⟨[(0, 1), (1, 3), (2, 0), (2, 7), (6, 0), (6, 5), (7, 0), (7, 5), (9, 0), (9, 7), (13, 0), (13, 6), (14, 0), (14, 5), (16, 0), (16, 5), (18, 0), (18, 1), (22, 0), (22, 7), (25, 2), (26, 0), (26, 1), (26, 4), (29, 0), (29, 1)], [], [none, some ((bl 234881062 104), (bl 20282409603651670422246444236671 104)), none, some ((bl 38 104), (bl 20282409603651670422246444236671 104)), none, none, some ((bl 7881299347898406 104), (bl 20282409603537531194991173434879 104)), none, some ((bl 38 104), (bl 20282409603537531194991173434879 104)), none, none, none, none, some ((bl 1057810092162800527867936 104), (bl 18374976116870265429129244432383 104)), none, some ((bl 32 104), (bl 18374976116870265429129244432383 104)), none, none, some ((bl 17332218360087486649115607072 104), (bl 18380933703309326321702196469759 104)), none, some ((bl 1057810092162800527867936 104), (bl 18380933703309326321702196469759 104)), none, none], []⟩
def sh_tx_encode : Nat → Sh := shOf [(2, (.row [(.int .u32), (.sl 35), (.sl 2), (.int .u32)])), (30, (.row [(.int .u8), (.int .u8), (.int .u8), (.int .u8), (.int .u8), (.int .u8), (.int .u8), (.int .u8), (.int .u8), (.int .u8), (.int .u8), (.int .u8), (.int .u8), (.int .u8), (.int .u8), (.int .u8), (.int .u8), (.int .u8), (.int .u8), (.int .u8), (.int .u8), (.int .u8), (.int .u8), (.int .u8), (.int .u8), (.int .u8), (.int .u8), (.int .u8), (.int .u8), (.int .u8), (.int .u8), (.int .u8), (.int .u32), (.int .u32), (.sl 1)])), (55, (.row [(.int .i64), (.sl 1)])), (82, (.row [(.int .u8), (.int .u8), (.int .u8), (.int .u8), (.int .u8), (.int .u8), (.int .u8), (.int .u8), (.int .u8), (.int .u8), (.int .u8), (.int .u8), (.int .u8), (.int .u8), (.int .u8), (.int .u8), (.int .u8), (.int .u8), (.int .u8), (.int .u8), (.int .u8), (.int .u8), (.int .u8), (.int .u8), (.int .u8), (.int .u8), (.int .u8), (.int .u8), (.int .u8), (.int .u8), (.int .u8), (.int .u8), (.int .u32), (.int .u32), (.sl 1)])), (96, (.sl 1))]
def cb_tx_encode (F_codec_AppendU32 : T_codec_AppendU32) (F_codec_AppendSize : T_codec_AppendSize) (F_tx_Point : T_tx_Point) (F_codec_AppendU64 : T_codec_AppendU64) (F_codec_AppendBytes : T_codec_AppendBytes) (L : Nat) : CBC := (addC 184 (d_codec_AppendBytes F_codec_AppendBytes L) (addC 183 (d_codec_AppendU64 F_codec_AppendU64 L) (addC 137 (d_tx_Point F_tx_Point L) (addC 182 (d_codec_AppendSize F_codec_AppendSize L) (addC 157 (d_codec_AppendU32 F_codec_AppendU32 L) noC)))))
def mbbbaba_tx_encode : St → St := mask (bl 234881062 104) (bl 20282409603651670422246444236671 104)
def mbbbbbaba_tx_encode : St → St := mask (bl 7881299347898406 104) (bl 20282409603537531194991173434879 104)
def mbbbbbbbbaba_tx_encode : St → St := mask (bl 1057810092162800527867936 104) (bl 18374976116870265429129244432383 104)
def mbbbbbbbbabaabbaabbba_tx_encode : St → St := mask (bl 17332218360087486649115607072 104) (bl 18380933703309326321702196469759 104)
def st_hbbbaba_tx_encode (p1 : Bool) (p5 : List (List V)) (p25 : List (List V)) (p26 : Int) (p27 : Int) (b2_0 : Int) (b2_1 : List (List V)) (b2_2 : List (List V)) (b2_3 : Int) : St := ⟨[.junk, (V.sc (.bool p1)), (V.ptr 2 0), .junk, .junk, (V.gs 1 p5), .junk, .junk, .junk, .junk, .junk, .junk, .junk, .junk, .junk, .junk, .junk, .junk, .junk, .junk, .junk, .junk, .junk, .junk, .junk, (V.sl 35 p25), (V.sc (.int .i64 p26)), (V.sc (.int .i64 p27)), .junk, .junk, .junk, .junk, .junk, .junk, .junk, .junk, .junk, .junk, .junk, .junk, .junk, .junk, .junk, .junk, .junk, .junk, .junk, .junk, .junk, .junk, .junk, .junk, .junk, .junk, .junk, .junk, .junk, .junk, .junk, .junk, .junk, .junk, .junk, .junk, .junk, .junk, .junk, .junk, .junk, .junk, .junk, .junk, .junk, .junk, .junk, .junk, .junk, .junk, .junk, .junk, .junk, .junk, .junk, .junk, .junk, .junk, .junk, .junk, .junk, .junk, .junk, .junk, .junk, .junk, .junk, .junk, .junk, .junk, .junk, .junk, .junk, .junk, .junk, .junk], [.gone, .gone, (.live false [(V.sc (.int .u32 b2_0)), (V.sl 35 b2_1), (V.sl 2 b2_2), (V.sc (.int .u32 b2_3))]), .gone, .gone, .gone, .gone, .gone, .gone, .gone, .gone, .gone, .gone, .gone, .gone, .gone, .gone, .gone, .gone, .gone, .gone, .gone, .gone, .gone, .gone, .gone, .gone, .gone, .gone, .gone, .gone, .gone, .gone, .gone, .gone, .gone, .gone, .gone, .gone, .gone, .gone, .gone, .gone, .gone, .gone, .gone, .gone, .gone, .gone, .gone, .gone, .gone, .gone, .gone, .gone, .gone, .gone, .gone, .gone, .gone, .gone, .gone, .gone, .gone, .gone, .gone, .gone, .gone, .gone, .gone, .gone, .gone, .gone, .gone, .gone, .gone, .gone, .gone, .gone, .gone, .gone, .gone, .gone, .gone, .gone, .gone, .gone, .gone, .gone, .gone, .gone, .gone, .gone, .gone, .gone, .gone, .gone, .gone, .gone, .gone, .gone, .gone, .gone, .gone]⟩
def st_x0_tx_encode (p1 : Bool) (p5 : List (List V)) (b2_0 : Int) (b2_1 : List (List V)) (b2_2 : List (List V)) (b2_3 : Int) : St := ⟨[.junk, (V.sc (.bool p1)), (V.ptr 2 0), .junk, .junk, (V.gs 1 p5), .junk, .junk, .junk, .junk, .junk, .junk, .junk, .junk, .junk, .junk, .junk, .junk, .junk, .junk, .junk, .junk, .junk, .junk, .junk, .junk, .junk, .junk, .junk, .junk, .junk, .junk, .junk, .junk, .junk, .junk, .junk, .junk, .junk, .junk, .junk, .junk, .junk, .junk, .junk, .junk, .junk, .junk, .junk, .junk, .junk, .junk, .junk, .junk, .junk, .junk, .junk, .junk, .junk, .junk, .junk, .junk, .junk, .junk, .junk, .junk, .junk, .junk, .junk, .junk, .junk, .junk, .junk, .junk, .junk, .junk, .junk, .junk, .junk, .junk, .junk, .junk, .junk, .junk, .junk, .junk, .junk, .junk, .junk, .junk, .junk, .junk, .junk, .junk, .junk, .junk, .junk, .junk, .junk, .junk, .junk, .junk, .junk, .junk], [.gone, .gone, (.live false [(V.sc (.int .u32 b2_0)), (V.sl 35 b2_1), (V.sl 2 b2_2), (V.sc (.int .u32 b2_3))]), .gone, .gone, .gone, .gone, .gone, .gone, .gone, .gone, .gone, .gone, .gone, .gone, .gone, .gone, .gone, .gone, .gone, .gone, .gone, .gone, .gone, .gone, .gone, .gone, .gone, .gone, .gone, .gone, .gone, .gone, .gone, .gone, .gone, .gone, .gone, .gone, .gone, .gone, .gone, .gone, .gone, .gone, .gone, .gone, .gone, .gone, .gone, .gone, .gone, .gone, .gone, .gone, .gone, .gone, .gone, .gone, .gone, .gone, .gone, .gone, .gone, .gone, .gone, .gone, .gone, .gone, .gone, .gone, .gone, .gone, .gone, .gone, .gone, .gone, .gone, .gone, .gone, .gone, .gone, .gone, .gone, .gone, .gone, .gone, .gone, .gone, .gone, .gone, .gone, .gone, .gone, .gone, .gone, .gone, .gone, .gone, .gone, .gone, .gone, .gone, .gone]⟩
def st_hbbbbbaba_tx_encode (p1 : Bool) (p5 : List (List V)) (p50 : List (List V)) (p51 : Int) (p52 : Int) (b2_0 : Int) (b2_1 : List (List V)) (b2_2 : List (List V)) (b2_3 : Int) : St := ⟨[.junk, (V.sc (.bool p1)), (V.ptr 2 0), .junk, .junk, (V.gs 1 p5), .junk, .junk, .junk, .junk, .junk, .junk, .junk, .junk, .junk, .junk, .junk, .junk, .junk, .junk, .junk, .junk, .junk, .junk, .junk, .junk, .junk, .junk, .junk, .junk, .junk, .junk, .junk, .junk, .junk, .junk, .junk, .junk, .junk, .junk, .junk, .junk, .junk, .junk, .junk, .junk, .junk, .junk, .junk, .junk, (V.sl 2 p50), (V.sc (.int .i64 p51)), (V.sc (.int .i64 p52)), .junk, .junk, .junk, .junk, .junk, .junk, .junk, .junk, .junk, .junk, .junk, .junk, .junk, .junk, .junk, .junk, .junk, .junk, .junk, .junk, .junk, .junk, .junk, .junk, .junk, .junk, .junk, .junk, .junk, .junk, .junk, .junk, .junk, .junk, .junk, .junk, .junk, .junk, .junk, .junk, .junk, .junk, .junk, .junk, .junk, .junk, .junk, .junk, .junk, .junk, .junk], [.gone, .gone, (.live false [(V.sc (.int .u32 b2_0)), (V.sl 35 b2_1), (V.sl 2 b2_2), (V.sc (.int .u32 b2_3))]), .gone, .gone, .gone, .gone, .gone, .gone, .gone, .gone, .gone, .gone, .gone, .gone, .gone, .gone, .gone, .gone, .gone, .gone, .gone, .gone, .gone, .gone, .gone, .gone, .gone, .gone, .gone, .gone, .gone, .gone, .gone, .gone, .gone, .gone, .gone, .gone, .gone, .gone, .gone, .gone, .gone, .gone, .gone, .gone, .gone, .gone, .gone, .gone, .gone, .gone, .gone, .gone, .gone, .gone, .gone, .gone, .gone, .gone, .gone, .gone, .gone, .gone, .gone, .gone, .gone, .gone, .gone, .gone, .gone, .gone, .gone, .gone, .gone, .gone, .gone, .gone, .gone, .gone, .gone, .gone, .gone, .gone, .gone, .gone, .gone, .gone, .gone, .gone, .gone, .gone, .gone, .gone, .gone, .gone, .gone, .gone, .gone, .gone, .gone, .gone, .gone]⟩
def st_x2_tx_encode (p1 : Bool) (p5 : List (List V)) (b2_0 : Int) (b2_1 : List (List V)) (b2_2 : List (List V)) (b2_3 : Int) : St := ⟨[.junk, (V.sc (.bool p1)), (V.ptr 2 0), .junk, .junk, (V.gs 1 p5), .junk, .junk, .junk, .junk, .junk, .junk, .junk, .junk, .junk, .junk, .junk, .junk, .junk, .junk, .junk, .junk, .junk, .junk, .junk, .junk, .junk, .junk, .junk, .junk, .junk, .junk, .junk, .junk, .junk, .junk, .junk, .junk, .junk, .junk, .junk, .junk, .junk, .junk, .junk, .junk, .junk, .junk, .junk, .junk, .junk, .junk, .junk, .junk, .junk, .junk, .junk, .junk, .junk, .junk, .junk, .junk, .junk, .junk, .junk, .junk, .junk, .junk, .junk, .junk, .junk, .junk, .junk, .junk, .junk, .junk, .junk, .junk, .junk, .junk, .junk, .junk, .junk, .junk, .junk, .junk, .junk, .junk, .junk, .junk, .junk, .junk, .junk, .junk, .junk, .junk, .junk, .junk, .junk, .junk, .junk, .junk, .junk, .junk], [.gone, .gone, (.live false [(V.sc (.int .u32 b2_0)), (V.sl 35 b2_1), (V.sl 2 b2_2), (V.sc (.int .u32 b2_3))]), .gone, .gone, .gone, .gone, .gone, .gone, .gone, .gone, .gone, .gone, .gone, .gone, .gone, .gone, .gone, .gone, .gone, .gone, .gone, .gone, .gone, .gone, .gone, .gone, .gone, .gone, .gone, .gone, .gone, .gone, .gone, .gone, .gone, .gone, .gone, .gone, .gone, .gone, .gone, .gone, .gone, .gone, .gone, .gone, .gone, .gone, .gone, .gone, .gone, .gone, .gone, .gone, .gone, .gone, .gone, .gone, .gone, .gone, .gone, .gone, .gone, .gone, .gone, .gone, .gone, .gone, .gone, .gone, .gone, .gone, .gone, .gone, .gone, .gone, .gone, .gone, .gone, .gone, .gone, .gone, .gone, .gone, .gone, .gone, .gone, .gone, .gone, .gone, .gone, .gone, .gone, .gone, .gone, .gone, .gone, .gone, .gone, .gone, .gone, .gone, .gone]⟩
def st_hbbbbbbbbaba_tx_encode (p5 : List (List V)) (p77 : List (List V)) (p78 : Int) (p79 : Int) (b2_0 : Int) (b2_1 : List (List V)) (b2_2 : List (List V)) (b2_3 : Int) : St := ⟨[.junk, .junk, .junk, .junk, .junk, (V.gs 1 p5), .junk, .junk, .junk, .junk, .junk, .junk, .junk, .junk, .junk, .junk, .junk, .junk, .junk, .junk, .junk, .junk, .junk, .junk, .junk, .junk, .junk, .junk, .junk, .junk, .junk, .junk, .junk, .junk, .junk, .junk, .junk, .junk, .junk, .junk, .junk, .junk, .junk, .junk, .junk, .junk, .junk, .junk, .junk, .junk, .junk, .junk, .junk, .junk, .junk, .junk, .junk, .junk, .junk, .junk, .junk, .junk, .junk, .junk, .junk, .junk, .junk, .junk, .junk, .junk, .junk, .junk, .junk, .junk, .junk, .junk, .junk, (V.sl 35 p77), (V.sc (.int .i64 p78)), (V.sc (.int .i64 p79)), .junk, .junk, .junk, .junk, .junk, .junk, .junk, .junk, .junk, .junk, .junk, .junk, .junk, .junk, .junk, .junk, .junk, .junk, .junk, .junk, .junk, .junk, .junk, .junk], [.gone, .gone, (.live false [(V.sc (.int .u32 b2_0)), (V.sl 35 b2_1), (V.sl 2 b2_2), (V.sc (.int .u32 b2_3))]), .gone, .gone, .gone, .gone, .gone, .gone, .gone, .gone, .gone, .gone, .gone, .gone, .gone, .gone, .gone, .gone, .gone, .gone, .gone, .gone, .gone, .gone, .gone, .gone, .gone, .gone, .gone, .gone, .gone, .gone, .gone, .gone, .gone, .gone, .gone, .gone, .gone, .gone, .gone, .gone, .gone, .gone, .gone, .gone, .gone, .gone, .gone, .gone, .gone, .gone, .gone, .gone, .gone, .gone, .gone, .gone, .gone, .gone, .gone, .gone, .gone, .gone, .gone, .gone, .gone, .gone, .gone, .gone, .gone, .gone, .gone, .gone, .gone, .gone, .gone, .gone, .gone, .gone, .gone, .gone, .gone, .gone, .gone, .gone, .gone, .gone, .gone, .gone, .gone, .gone, .gone, .gone, .gone, .gone, .gone, .gone, .gone, .gone, .gone, .gone, .gone]⟩
def st_hbbbbbbbbabaabbaabbba_tx_encode (p5 : List (List V)) (p77 : List (List V)) (p78 : Int) (p79 : Int) (p91 : List (List V)) (p92 : Int) (p93 : Int) (b2_0 : Int) (b2_1 : List (List V)) (b2_2 : List (List V)) (b2_3 : Int) (b11_0 : Int) (b11_1 : Int) (b11_2 : Int) (b11_3 : Int) (b11_4 : Int) (b11_5 : Int) (b11_6 : Int) (b11_7 : Int) (b11_8 : Int) (b11_9 : Int) (b11_10 : Int) (b11_11 : Int) (b11_12 : Int) (b11_13 : Int) (b11_14 : Int) (b11_15 : Int) (b11_16 : Int) (b11_17 : Int) (b11_18 : Int) (b11_19 : Int) (b11_20 : Int) (b11_21 : Int) (b11_22 : Int) (b11_23 : Int) (b11_24 : Int) (b11_25 : Int) (b11_26 : Int) (b11_27 : Int) (b11_28 : Int) (b11_29 : Int) (b11_30 : Int) (b11_31 : Int) (b11_32 : Int) (b11_33 : Int) (b11_34 : List (List V)) : St := ⟨[.junk, .junk, .junk, .junk, .junk, (V.gs 1 p5), .junk, .junk, .junk, .junk, .junk, .junk, .junk, .junk, .junk, .junk, .junk, .junk, .junk, .junk, .junk, .junk, .junk, .junk, .junk, .junk, .junk, .junk, .junk, .junk, .junk, .junk, .junk, .junk, .junk, .junk, .junk, .junk, .junk, .junk, .junk, .junk, .junk, .junk, .junk, .junk, .junk, .junk, .junk, .junk, .junk, .junk, .junk, .junk, .junk, .junk, .junk, .junk, .junk, .junk, .junk, .junk, .junk, .junk, .junk, .junk, .junk, .junk, .junk, .junk, .junk, .junk, .junk, .junk, .junk, .junk, .junk, (V.sl 35 p77), (V.sc (.int .i64 p78)), (V.sc (.int .i64 p79)), .junk, .junk, .junk, .junk, .junk, .junk, .junk, .junk, .junk, .junk, .junk, (V.sl 1 p91), (V.sc (.int .i64 p92)), (V.sc (.int .i64 p93)), .junk, .junk, .junk, .junk, .junk, .junk, .junk, .junk, .junk, .junk], [.gone, .gone, (.live false [(V.sc (.int .u32 b2_0)), (V.sl 35 b2_1), (V.sl 2 b2_2), (V.sc (.int .u32 b2_3))]), .gone, .gone, .gone, .gone, .gone, .gone, .gone, .gone, (.live false [(V.sc (.int .u8 b11_0)), (V.sc (.int .u8 b11_1)), (V.sc (.int .u8 b11_2)), (V.sc (.int .u8 b11_3)), (V.sc (.int .u8 b11_4)), (V.sc (.int .u8 b11_5)), (V.sc (.int .u8 b11_6)), (V.sc (.int .u8 b11_7)), (V.sc (.int .u8 b11_8)), (V.sc (.int .u8 b11_9)), (V.sc (.int .u8 b11_10)), (V.sc (.int .u8 b11_11)), (V.sc (.int .u8 b11_12)), (V.sc (.int .u8 b11_13)), (V.sc (.int .u8 b11_14)), (V.sc (.int .u8 b11_15)), (V.sc (.int .u8 b11_16)), (V.sc (.int .u8 b11_17)), (V.sc (.int .u8 b11_18)), (V.sc (.int .u8 b11_19)), (V.sc (.int .u8 b11_20)), (V.sc (.int .u8 b11_21)), (V.sc (.int .u8 b11_22)), (V.sc (.int .u8 b11_23)), (V.sc (.int .u8 b11_24)), (V.sc (.int .u8 b11_25)), (V.sc (.int .u8 b11_26)), (V.sc (.int .u8 b11_27)), (V.sc (.int .u8 b11_28)), (V.sc (.int .u8 b11_29)), (V.sc (.int .u8 b11_30)), (V.sc (.int .u8 b11_31)), (V.sc (.int .u32 b11_32)), (V.sc (.int .u32 b11_33)), (V.sl 1 b11_34)]), .gone, .gone, .gone, .gone, .gone, .gone, .gone, .gone, .gone, .gone, .gone, .gone, .gone, .gone, .gone, .gone, .gone, .gone, .gone, .gone, .gone, .gone, .gone, .gone, .gone, .gone, .gone, .gone, .gone, .gone, .gone, .gone, .gone, .gone, .gone, .gone, .gone, .gone, .gone, .gone, .gone, .gone, .gone, .gone, .gone, .gone, .gone, .gone, .gone, .gone, .gone, .gone, .gone, .gone, .gone, .gone, .gone, .gone, .gone, .gone, .gone, .gone, .gone, .gone, .gone, .gone, .gone, .gone, .gone, .gone, .gone, .gone, .gone, .gone, .gone, .gone, .gone, .gone, .gone, .gone, .gone, .gone, .gone, .gone, .gone, .gone, .gone, .gone, .gone, .gone, .gone, .gone]⟩
def st_x4_tx_encode (p5 : List (List V)) (b2_0 : Int) (b2_1 : List (List V)) (b2_2 : List (List V)) (b2_3 : Int) : St := ⟨[.junk, .junk, .junk, .junk, .junk, (V.gs 1 p5), .junk, .junk, .junk, .junk, .junk, .junk, .junk, .junk, .junk, .junk, .junk, .junk, .junk, .junk, .junk, .junk, .junk, .junk, .junk, .junk, .junk, .junk, .junk, .junk, .junk, .junk, .junk, .junk, .junk, .junk, .junk, .junk, .junk, .junk, .junk, .junk, .junk, .junk, .junk, .junk, .junk, .junk, .junk, .junk, .junk, .junk, .junk, .junk, .junk, .junk, .junk, .junk, .junk, .junk, .junk, .junk, .junk, .junk, .junk, .junk, .junk, .junk, .junk, .junk, .junk, .junk, .junk, .junk, .junk, .junk, .junk, .junk, .junk, .junk, .junk, .junk, .junk, .junk, .junk, .junk, .junk, .junk, .junk, .junk, .junk, .junk, .junk, .junk, .junk, .junk, .junk, .junk, .junk, .junk, .junk, .junk, .junk, .junk], [.gone, .gone, (.live false [(V.sc (.int .u32 b2_0)), (V.sl 35 b2_1), (V.sl 2 b2_2), (V.sc (.int .u32 b2_3))]), .gone, .gone, .gone, .gone, .gone, .gone, .gone, .gone, .gone, .gone, .gone, .gone, .gone, .gone, .gone, .gone, .gone, .gone, .gone, .gone, .gone, .gone, .gone, .gone, .gone, .gone, .gone, .gone, .gone, .gone, .gone, .gone, .gone, .gone, .gone, .gone, .gone, .gone, .gone, .gone, .gone, .gone, .gone, .gone, .gone, .gone, .gone, .gone, .gone, .gone, .gone, .gone, .gone, .gone, .gone, .gone, .gone, .gone, .gone, .gone, .gone, .gone, .gone, .gone, .gone, .gone, .gone, .gone, .gone, .gone, .gone, .gone, .gone, .gone, .gone, .gone, .gone, .gone, .gone, .gone, .gone, .gone, .gone, .gone, .gone, .gone, .gone, .gone, .gone, .gone, .gone, .gone, .gone, .gone, .gone, .gone, .gone, .gone, .gone, .gone, .gone]⟩
def st_x6_tx_encode (p5 : List (List V)) (p77 : List (List V)) (p78 : Int) (p79 : Int) (b2_0 : Int) (b2_1 : List (List V)) (b2_2 : List (List V)) (b2_3 : Int) (b11_0 : Int) (b11_1 : Int) (b11_2 : Int) (b11_3 : Int) (b11_4 : Int) (b11_5 : Int) (b11_6 : Int) (b11_7 : Int) (b11_8 : Int) (b11_9 : Int) (b11_10 : Int) (b11_11 : Int) (b11_12 : Int) (b11_13 : Int) (b11_14 : Int) (b11_15 : Int) (b11_16 : Int) (b11_17 : Int) (b11_18 : Int) (b11_19 : Int) (b11_20 : Int) (b11_21 : Int) (b11_22 : Int) (b11_23 : Int) (b11_24 : Int) (b11_25 : Int) (b11_26 : Int) (b11_27 : Int) (b11_28 : Int) (b11_29 : Int) (b11_30 : Int) (b11_31 : Int) (b11_32 : Int) (b11_33 : Int) (b11_34 : List (List V)) : St := ⟨[.junk, .junk, .junk, .junk, .junk, (V.gs 1 p5), .junk, .junk, .junk, .junk, .junk, .junk, .junk, .junk, .junk, .junk, .junk, .junk, .junk, .junk, .junk, .junk, .junk, .junk, .junk, .junk, .junk, .junk, .junk, .junk, .junk, .junk, .junk, .junk, .junk, .junk, .junk, .junk, .junk, .junk, .junk, .junk, .junk, .junk, .junk, .junk, .junk, .junk, .junk, .junk, .junk, .junk, .junk, .junk, .junk, .junk, .junk, .junk, .junk, .junk, .junk, .junk, .junk, .junk, .junk, .junk, .junk, .junk, .junk, .junk, .junk, .junk, .junk, .junk, .junk, .junk, .junk, (V.sl 35 p77), (V.sc (.int .i64 p78)), (V.sc (.int .i64 p79)), .junk, .junk, .junk, .junk, .junk, .junk, .junk, .junk, .junk, .junk, .junk, .junk, .junk, .junk, .junk, .junk, .junk, .junk, .junk, .junk, .junk, .junk, .junk, .junk], [.gone, .gone, (.live false [(V.sc (.int .u32 b2_0)), (V.sl 35 b2_1), (V.sl 2 b2_2), (V.sc (.int .u32 b2_3))]), .gone, .gone, .gone, .gone, .gone, .gone, .gone, .gone, (.live false [(V.sc (.int .u8 b11_0)), (V.sc (.int .u8 b11_1)), (V.sc (.int .u8 b11_2)), (V.sc (.int .u8 b11_3)), (V.sc (.int .u8 b11_4)), (V.sc (.int .u8 b11_5)), (V.sc (.int .u8 b11_6)), (V.sc (.int .u8 b11_7)), (V.sc (.int .u8 b11_8)), (V.sc (.int .u8 b11_9)), (V.sc (.int .u8 b11_10)), (V.sc (.int .u8 b11_11)), (V.sc (.int .u8 b11_12)), (V.sc (.int .u8 b11_13)), (V.sc (.int .u8 b11_14)), (V.sc (.int .u8 b11_15)), (V.sc (.int .u8 b11_16)), (V.sc (.int .u8 b11_17)), (V.sc (.int .u8 b11_18)), (V.sc (.int .u8 b11_19)), (V.sc (.int .u8 b11_20)), (V.sc (.int .u8 b11_21)), (V.sc (.int .u8 b11_22)), (V.sc (.int .u8 b11_23)), (V.sc (.int .u8 b11_24)), (V.sc (.int .u8 b11_25)), (V.sc (.int .u8 b11_26)), (V.sc (.int .u8 b11_27)), (V.sc (.int .u8 b11_28)), (V.sc (.int .u8 b11_29)), (V.sc (.int .u8 b11_30)), (V.sc (.int .u8 b11_31)), (V.sc (.int .u32 b11_32)), (V.sc (.int .u32 b11_33)), (V.sl 1 b11_34)]), .gone, .gone, .gone, .gone, .gone, .gone, .gone, .gone, .gone, .gone, .gone, .gone, .gone, .gone, .gone, .gone, .gone, .gone, .gone, .gone, .gone, .gone, .gone, .gone, .gone, .gone, .gone, .gone, .gone, .gone, .gone, .gone, .gone, .gone, .gone, .gone, .gone, .gone, .gone, .gone, .gone, .gone, .gone, .gone, .gone, .gone, .gone, .gone, .gone, .gone, .gone, .gone, .gone, .gone, .gone, .gone, .gone, .gone, .gone, .gone, .gone, .gone, .gone, .gone, .gone, .gone, .gone, .gone, .gone, .gone, .gone, .gone, .gone, .gone, .gone, .gone, .gone, .gone, .gone, .gone, .gone, .gone, .gone, .gone, .gone, .gone, .gone, .gone, .gone, .gone, .gone, .gone]⟩
def e_tx_encode {β : Type} (F_codec_AppendU32 : T_codec_AppendU32) (F_codec_AppendSize : T_codec_AppendSize) (F_tx_Point : T_tx_Point) (F_codec_AppendU64 : T_codec_AppendU64) (F_codec_AppendBytes : T_codec_AppendBytes) (L : Nat) (p0 : List V) (p1 : Bool) (k_hbbbaba : Bool → List (List V) → List (List V) → Int → Int → Int → List (List V) → List (List V) → Int → Option β) : Option β :=
 chk (List.length p0 = 4) (
 cI .u32 p0 0 fun v0 =>
 cL 35 p0 1 fun v1 =>
 cL 2 p0 2 fun v2 =>
 cI .u32 p0 3 fun v3 =>
 F_codec_AppendU32 β L ([] : List (List V)) v0 (fun v4 =>
 lt (IntKind.wrap .u64 ((List.length v1 : Nat) : Int)) fun x5 =>
 F_codec_AppendSize β L ([] : List (List V)) x5 (fun v6 =>
 chk ((List.length v4 + List.length v6) * 1 ≤ sizeCap ∧ List.length v4 + List.length v6 ≤ sizeCap) (
 lt (v4 ++ v6) fun l7 =>
 k_hbbbaba p1 l7 v1 ((List.length v1 : Nat) : Int) (0 : Int) v0 v1 v2 v3))))
theorem e_tx_encode_ok {β : Type} (F_codec_AppendU32 : T_codec_AppendU32) (F_codec_AppendSize : T_codec_AppendSize) (F_tx_Point : T_tx_Point) (F_codec_AppendU64 : T_codec_AppendU64) (F_codec_AppendBytes : T_codec_AppendBytes) (L : Nat) (p0 : List V) (p1 : Bool) (k : V → Bor → Option β) : funC sh_tx_encode (cb_tx_encode F_codec_AppendU32 F_codec_AppendSize F_tx_Point F_codec_AppendU64 F_codec_AppendBytes L) L cf_tx_encode [(V.agg p0), (V.sc (.bool p1))] [] k = e_tx_encode F_codec_AppendU32 F_codec_AppendSize F_tx_Point F_codec_AppendU64 F_codec_AppendBytes L p0 p1 (fun p1 p5 p25 p26 p27 b2_0 b2_1 b2_2 b2_3 => loopM (runC sh_tx_encode (cb_tx_encode F_codec_AppendU32 F_codec_AppendSize F_tx_Point F_codec_AppendU64 F_codec_AppendBytes L) 0 L cbbbabaa_tx_encode) mbbbaba_tx_encode L (st_hbbbaba_tx_encode p1 p5 p25 p26 p27 b2_0 b2_1 b2_2 b2_3) (blockK 0 (seqK (runC sh_tx_encode (cb_tx_encode F_codec_AppendU32 F_codec_AppendSize F_tx_Point F_codec_AppendU64 F_codec_AppendBytes L) 0 L cbbbb_tx_encode) (finK 0 (CF.res cf_tx_encode) k)))) := by kernel_rfl
def bbbbaba_tx_encode {β : Type} (F_codec_AppendU32 : T_codec_AppendU32) (F_codec_AppendSize : T_codec_AppendSize) (F_tx_Point : T_tx_Point) (F_codec_AppendU64 : T_codec_AppendU64) (F_codec_AppendBytes : T_codec_AppendBytes) (L : Nat) (p1 : Bool) (p5 : List (List V)) (p25 : List (List V)) (p26 : Int) (p27 : Int) (b2_0 : Int) (b2_1 : List (List V)) (b2_2 : List (List V)) (b2_3 : Int) (k_hbbbaba : Bool → List (List V) → List (List V) → Int → Int → Int → List (List V) → List (List V) → Int → Option β) (k_x0 : Bool → List (List V) → Int → List (List V) → List (List V) → Int → Option β) : Option β :=
 ifb (decide (p27 < p26)) (
 idx p25 p27 fun c8 =>
 chk (List.length (List.take 35 c8) = 35) (
 cI .u8 (List.take 35 c8) 0 fun v9 =>
 cI .u8 (List.take 35 c8) 1 fun v10 =>
 cI .u8 (List.take 35 c8) 2 fun v11 =>
 cI .u8 (List.take 35 c8) 3 fun v12 =>
 cI .u8 (List.take 35 c8) 4 fun v13 =>
 cI .u8 (List.take 35 c8) 5 fun v14 =>
 cI .u8 (List.take 35 c8) 6 fun v15 =>
 cI .u8 (List.take 35 c8) 7 fun v16 =>
 cI .u8 (List.take 35 c8) 8 fun v17 =>
 cI .u8 (List.take 35 c8) 9 fun v18 =>
 cI .u8 (List.take 35 c8) 10 fun v19 =>
 cI .u8 (List.take 35 c8) 11 fun v20 =>
 cI .u8 (List.take 35 c8) 12 fun v21 =>
 cI .u8 (List.take 35 c8) 13 fun v22 =>
 cI .u8 (List.take 35 c8) 14 fun v23 =>
 cI .u8 (List.take 35 c8) 15 fun v24 =>
 cI .u8 (List.take 35 c8) 16 fun v25 =>
 cI .u8 (List.take 35 c8) 17 fun v26 =>
 cI .u8 (List.take 35 c8) 18 fun v27 =>
 cI .u8 (List.take 35 c8) 19 fun v28 =>
 cI .u8 (List.take 35 c8) 20 fun v29 =>
 cI .u8 (List.take 35 c8) 21 fun v30 =>
 cI .u8 (List.take 35 c8) 22 fun v31 =>
 cI .u8 (List.take 35 c8) 23 fun v32 =>
 cI .u8 (List.take 35 c8) 24 fun v33 =>
 cI .u8 (List.take 35 c8) 25 fun v34 =>
 cI .u8 (List.take 35 c8) 26 fun v35 =>
 cI .u8 (List.take 35 c8) 27 fun v36 =>
 cI .u8 (List.take 35 c8) 28 fun v37 =>
 cI .u8 (List.take 35 c8) 29 fun v38 =>
 cI .u8 (List.take 35 c8) 30 fun v39 =>
 cI .u8 (List.take 35 c8) 31 fun v40 =>
 cI .u32 (List.take 35 c8) 32 fun v41 =>
 cI .u32 (List.take 35 c8) 33 fun v42 =>
 cL 1 (List.take 35 c8) 34 fun v43 =>
 F_tx_Point β L [(V.sc (.int .u8 v9)), (V.sc (.int .u8 v10)), (V.sc (.int .u8 v11)), (V.sc (.int .u8 v12)), (V.sc (.int .u8 v13)), (V.sc (.int .u8 v14)), (V.sc (.int .u8 v15)), (V.sc (.int .u8 v16)), (V.sc (.int .u8 v17)), (V.sc (.int .u8 v18)), (V.sc (.int .u8 v19)), (V.sc (.int .u8 v20)), (V.sc (.int .u8 v21)), (V.sc (.int .u8 v22)), (V.sc (.int .u8 v23)), (V.sc (.int .u8 v24)), (V.sc (.int .u8 v25)), (V.sc (.int .u8 v26)), (V.sc (.int .u8 v27)), (V.sc (.int .u8 v28)), (V.sc (.int .u8 v29)), (V.sc (.int .u8 v30)), (V.sc (.int .u8 v31)), (V.sc (.int .u8 v32)), (V.sc (.int .u8 v33)), (V.sc (.int .u8 v34)), (V.sc (.int .u8 v35)), (V.sc (.int .u8 v36)), (V.sc (.int .u8 v37)), (V.sc (.int .u8 v38)), (V.sc (.int .u8 v39)), (V.sc (.int .u8 v40)), (V.sc (.int .u32 v41))] (fun v44 =>
 chk ((List.length p5 + List.length v44) * 1 ≤ sizeCap ∧ List.length p5 + List.length v44 ≤ sizeCap) (
 lt (p5 ++ v44) fun l45 =>
 F_codec_AppendU32 β L ([] : List (List V)) v42 (fun v46 =>
 chk ((List.length l45 + List.length v46) * 1 ≤ sizeCap ∧ List.length l45 + List.length v46 ≤ sizeCap) (
 lt (l45 ++ v46) fun l47 =>
 lt (IntKind.wrap .i64 ((p27 : Int) + (1 : Int))) fun x48 =>
 k_hbbbaba p1 l47 p25 p26 x48 b2_0 b2_1 b2_2 b2_3)))))) (
 k_x0 p1 p5 b2_0 b2_1 b2_2 b2_3)
theorem bbbbaba_tx_encode_ok {β : Type} (F_codec_AppendU32 : T_codec_AppendU32) (F_codec_AppendSize : T_codec_AppendSize) (F_tx_Point : T_tx_Point) (F_codec_AppendU64 : T_codec_AppendU64) (F_codec_AppendBytes : T_codec_AppendBytes) (L : Nat) (p1 : Bool) (p5 : List (List V)) (p25 : List (List V)) (p26 : Int) (p27 : Int) (b2_0 : Int) (b2_1 : List (List V)) (b2_2 : List (List V)) (b2_3 : Int) (X : St → Option β) (K : KT β) : runC sh_tx_encode (cb_tx_encode F_codec_AppendU32 F_codec_AppendSize F_tx_Point F_codec_AppendU64 F_codec_AppendBytes L) 0 L cbbbabaa_tx_encode (st_hbbbaba_tx_encode p1 p5 p25 p26 p27 b2_0 b2_1 b2_2 b2_3) (loopK mbbbaba_tx_encode X K) = bbbbaba_tx_encode F_codec_AppendU32 F_codec_AppendSize F_tx_Point F_codec_AppendU64 F_codec_AppendBytes L p1 p5 p25 p26 p27 b2_0 b2_1 b2_2 b2_3 (fun p1 p5 p25 p26 p27 b2_0 b2_1 b2_2 b2_3 => X (st_hbbbaba_tx_encode p1 p5 p25 p26 p27 b2_0 b2_1 b2_2 b2_3)) (fun p1 p5 b2_0 b2_1 b2_2 b2_3 => K (.exit 0) (st_x0_tx_encode p1 p5 b2_0 b2_1 b2_2 b2_3)) := by kernel_rfl
def rbbbabax0_tx_encode {β : Type} (F_codec_AppendU32 : T_codec_AppendU32) (F_codec_AppendSize : T_codec_AppendSize) (F_tx_Point : T_tx_Point) (F_codec_AppendU64 : T_codec_AppendU64) (F_codec_AppendBytes : T_codec_AppendBytes) (L : Nat) (p1 : Bool) (p5 : List (List V)) (b2_0 : Int) (b2_1 : List (List V)) (b2_2 : List (List V)) (b2_3 : Int) (k_hbbbbbaba : Bool → List (List V) → List (List V) → Int → Int → Int → List (List V) → List (List V) → Int → Option β) : Option β :=
 lt (IntKind.wrap .u64 ((List.length b2_2 : Nat) : Int)) fun x49 =>
 F_codec_AppendSize β L ([] : List (List V)) x49 (fun v50 =>
 chk ((List.length p5 + List.length v50) * 1 ≤ sizeCap ∧ List.length p5 + List.length v50 ≤ sizeCap) (
 lt (p5 ++ v50) fun l51 =>
 k_hbbbbbaba p1 l51 b2_2 ((List.length b2_2 : Nat) : Int) (0 : Int) b2_0 b2_1 b2_2 b2_3))
theorem rbbbabax0_tx_encode_ok {β : Type} (F_codec_AppendU32 : T_codec_AppendU32) (F_codec_AppendSize : T_codec_AppendSize) (F_tx_Point : T_tx_Point) (F_codec_AppendU64 : T_codec_AppendU64) (F_codec_AppendBytes : T_codec_AppendBytes) (L : Nat) (p1 : Bool) (p5 : List (List V)) (b2_0 : Int) (b2_1 : List (List V)) (b2_2 : List (List V)) (b2_3 : Int) (k : V → Bor → Option β) : (blockK 0 (seqK (runC sh_tx_encode (cb_tx_encode F_codec_AppendU32 F_codec_AppendSize F_tx_Point F_codec_AppendU64 F_codec_AppendBytes L) 0 L cbbbb_tx_encode) (finK 0 (CF.res cf_tx_encode) k))) (.exit 0) (st_x0_tx_encode p1 p5 b2_0 b2_1 b2_2 b2_3) = rbbbabax0_tx_encode F_codec_AppendU32 F_codec_AppendSize F_tx_Point F_codec_AppendU64 F_codec_AppendBytes L p1 p5 b2_0 b2_1 b2_2 b2_3 (fun p1 p5 p50 p51 p52 b2_0 b2_1 b2_2 b2_3 => loopM (runC sh_tx_encode (cb_tx_encode F_codec_AppendU32 F_codec_AppendSize F_tx_Point F_codec_AppendU64 F_codec_AppendBytes L) 0 L cbbbbbabaa_tx_encode) mbbbbbaba_tx_encode L (st_hbbbbbaba_tx_encode p1 p5 p50 p51 p52 b2_0 b2_1 b2_2 b2_3) (blockK 2 (seqK (runC sh_tx_encode (cb_tx_encode F_codec_AppendU32 F_codec_AppendSize F_tx_Point F_codec_AppendU64 F_codec_AppendBytes L) 0 L cbbbbbb_tx_encode) (finK 0 (CF.res cf_tx_encode) k)))) := by kernel_rfl
def bbbbbbaba_tx_encode {β : Type} (F_codec_AppendU32 : T_codec_AppendU32) (F_codec_AppendSize : T_codec_AppendSize) (F_tx_Point : T_tx_Point) (F_codec_AppendU64 : T_codec_AppendU64) (F_codec_AppendBytes : T_codec_AppendBytes) (L : Nat) (p1 : Bool) (p5 : List (List V)) (p50 : List (List V)) (p51 : Int) (p52 : Int) (b2_0 : Int) (b2_1 : List (List V)) (b2_2 : List (List V)) (b2_3 : Int) (k_hbbbbbaba : Bool → List (List V) → List (List V) → Int → Int → Int → List (List V) → List (List V) → Int → Option β) (k_x2 : Bool → List (List V) → Int → List (List V) → List (List V) → Int → Option β) : Option β :=
 ifb (decide (p52 < p51)) (
 idx p50 p52 fun c52 =>
 chk (List.length (List.take 2 c52) = 2) (
 cI .i64 (List.take 2 c52) 0 fun v53 =>
 cL 1 (List.take 2 c52) 1 fun v54 =>
 lt (IntKind.wrap .u64 v53) fun x55 =>
 F_codec_AppendU64 β L ([] : List (List V)) x55 (fun v56 =>
 chk ((List.length p5 + List.length v56) * 1 ≤ sizeCap ∧ List.length p5 + List.length v56 ≤ sizeCap) (
 lt (p5 ++ v56) fun l57 =>
 F_codec_AppendBytes β L ([] : List (List V)) v54 (fun v58 =>
 chk ((List.length l57 + List.length v58) * 1 ≤ sizeCap ∧ List.length l57 + List.length v58 ≤ sizeCap) (
 lt (l57 ++ v58) fun l59 =>
 lt (IntKind.wrap .i64 ((p52 : Int) + (1 : Int))) fun x60 =>
 k_hbbbbbaba p1 l59 p50 p51 x60 b2_0 b2_1 b2_2 b2_3)))))) (
 k_x2 p1 p5 b2_0 b2_1 b2_2 b2_3)
theorem bbbbbbaba_tx_encode_ok {β : Type} (F_codec_AppendU32 : T_codec_AppendU32) (F_codec_AppendSize : T_codec_AppendSize) (F_tx_Point : T_tx_Point) (F_codec_AppendU64 : T_codec_AppendU64) (F_codec_AppendBytes : T_codec_AppendBytes) (L : Nat) (p1 : Bool) (p5 : List (List V)) (p50 : List (List V)) (p51 : Int) (p52 : Int) (b2_0 : Int) (b2_1 : List (List V)) (b2_2 : List (List V)) (b2_3 : Int) (X : St → Option β) (K : KT β) : runC sh_tx_encode (cb_tx_encode F_codec_AppendU32 F_codec_AppendSize F_tx_Point F_codec_AppendU64 F_codec_AppendBytes L) 0 L cbbbbbabaa_tx_encode (st_hbbbbbaba_tx_encode p1 p5 p50 p51 p52 b2_0 b2_1 b2_2 b2_3) (loopK mbbbbbaba_tx_encode X K) = bbbbbbaba_tx_encode F_codec_AppendU32 F_codec_AppendSize F_tx_Point F_codec_AppendU64 F_codec_AppendBytes L p1 p5 p50 p51 p52 b2_0 b2_1 b2_2 b2_3 (fun p1 p5 p50 p51 p52 b2_0 b2_1 b2_2 b2_3 => X (st_hbbbbbaba_tx_encode p1 p5 p50 p51 p52 b2_0 b2_1 b2_2 b2_3)) (fun p1 p5 b2_0 b2_1 b2_2 b2_3 => K (.exit 2) (st_x2_tx_encode p1 p5 b2_0 b2_1 b2_2 b2_3)) := by kernel_rfl
def rbbbbbabax2_tx_encode {β : Type} (F_codec_AppendU32 : T_codec_AppendU32) (F_codec_AppendSize : T_codec_AppendSize) (F_tx_Point : T_tx_Point) (F_codec_AppendU64 : T_codec_AppendU64) (F_codec_AppendBytes : T_codec_AppendBytes) (L : Nat) (p1 : Bool) (p5 : List (List V)) (b2_0 : Int) (b2_1 : List (List V)) (b2_2 : List (List V)) (b2_3 : Int) (k_fin : List (List V) → Option β) (k_hbbbbbbbbaba : List (List V) → List (List V) → Int → Int → Int → List (List V) → List (List V) → Int → Option β) : Option β :=
 F_codec_AppendU32 β L ([] : List (List V)) b2_3 (fun v61 =>
 chk ((List.length p5 + List.length v61) * 1 ≤ sizeCap ∧ List.length p5 + List.length v61 ≤ sizeCap) (
 lt (p5 ++ v61) fun l62 =>
 ifb (!p1) (
 k_fin l62) (
 k_hbbbbbbbbaba l62 b2_1 ((List.length b2_1 : Nat) : Int) (0 : Int) b2_0 b2_1 b2_2 b2_3)))
theorem rbbbbbabax2_tx_encode_ok {β : Type} (F_codec_AppendU32 : T_codec_AppendU32) (F_codec_AppendSize : T_codec_AppendSize) (F_tx_Point : T_tx_Point) (F_codec_AppendU64 : T_codec_AppendU64) (F_codec_AppendBytes : T_codec_AppendBytes) (L : Nat) (p1 : Bool) (p5 : List (List V)) (b2_0 : Int) (b2_1 : List (List V)) (b2_2 : List (List V)) (b2_3 : Int) (k : V → Bor → Option β) : (blockK 2 (seqK (runC sh_tx_encode (cb_tx_encode F_codec_AppendU32 F_codec_AppendSize F_tx_Point F_codec_AppendU64 F_codec_AppendBytes L) 0 L cbbbbbb_tx_encode) (finK 0 (CF.res cf_tx_encode) k))) (.exit 2) (st_x2_tx_encode p1 p5 b2_0 b2_1 b2_2 b2_3) = rbbbbbabax2_tx_encode F_codec_AppendU32 F_codec_AppendSize F_tx_Point F_codec_AppendU64 F_codec_AppendBytes L p1 p5 b2_0 b2_1 b2_2 b2_3 (fun p0 => k (V.gs 1 p0) []) (fun p5 p77 p78 p79 b2_0 b2_1 b2_2 b2_3 => loopM (runC sh_tx_encode (cb_tx_encode F_codec_AppendU32 F_codec_AppendSize F_tx_Point F_codec_AppendU64 F_codec_AppendBytes L) 0 L cbbbbbbbbabaa_tx_encode) mbbbbbbbbaba_tx_encode L (st_hbbbbbbbbaba_tx_encode p5 p77 p78 p79 b2_0 b2_1 b2_2 b2_3) (blockK 4 (seqK (runC sh_tx_encode (cb_tx_encode F_codec_AppendU32 F_codec_AppendSize F_tx_Point F_codec_AppendU64 F_codec_AppendBytes L) 0 L cbbbbbbbbb_tx_encode) (finK 0 (CF.res cf_tx_encode) k)))) := by kernel_rfl
def bbbbbbbbbaba_tx_encode {β : Type} (F_codec_AppendU32 : T_codec_AppendU32) (F_codec_AppendSize : T_codec_AppendSize) (F_tx_Point : T_tx_Point) (F_codec_AppendU64 : T_codec_AppendU64) (F_codec_AppendBytes : T_codec_AppendBytes) (L : Nat) (p5 : List (List V)) (p77 : List (List V)) (p78 : Int) (p79 : Int) (b2_0 : Int) (b2_1 : List (List V)) (b2_2 : List (List V)) (b2_3 : Int) (k_hbbbbbbbbabaabbaabbba : List (List V) → List (List V) → Int → Int → List (List V) → Int → Int → Int → List (List V) → List (List V) → Int → Int → Int → Int → Int → Int → Int → Int → Int → Int → Int → Int → Int → Int → Int → Int → Int → Int → Int → Int → Int → Int → Int → Int → Int → Int → Int → Int → Int → Int → Int → Int → Int → Int → Int → List (List V) → Option β) (k_x4 : List (List V) → Int → List (List V) → List (List V) → Int → Option β) : Option β :=
 ifb (decide (p79 < p78)) (
 idx p77 p79 fun c63 =>
 chk (List.length (List.take 35 c63) = 35) (
 cI .u8 (List.take 35 c63) 0 fun v64 =>
 cI .u8 (List.take 35 c63) 1 fun v65 =>
 cI .u8 (List.take 35 c63) 2 fun v66 =>
 cI .u8 (List.take 35 c63) 3 fun v67 =>
 cI .u8 (List.take 35 c63) 4 fun v68 =>
 cI .u8 (List.take 35 c63) 5 fun v69 =>
 cI .u8 (List.take 35 c63) 6 fun v70 =>
 cI .u8 (List.take 35 c63) 7 fun v71 =>
 cI .u8 (List.take 35 c63) 8 fun v72 =>
 cI .u8 (List.take 35 c63) 9 fun v73 =>
 cI .u8 (List.take 35 c63) 10 fun v74 =>
 cI .u8 (List.take 35 c63) 11 fun v75 =>
 cI .u8 (List.take 35 c63) 12 fun v76 =>
 cI .u8 (List.take 35 c63) 13 fun v77 =>
 cI .u8 (List.take 35 c63) 14 fun v78 =>
 cI .u8 (List.take 35 c63) 15 fun v79 =>
 cI .u8 (List.take 35 c63) 16 fun v80 =>
 cI .u8 (List.take 35 c63) 17 fun v81 =>
 cI .u8 (List.take 35 c63) 18 fun v82 =>
 cI .u8 (List.take 35 c63) 19 fun v83 =>
 cI .u8 (List.take 35 c63) 20 fun v84 =>
 cI .u8 (List.take 35 c63) 21 fun v85 =>
 cI .u8 (List.take 35 c63) 22 fun v86 =>
 cI .u8 (List.take 35 c63) 23 fun v87 =>
 cI .u8 (List.take 35 c63) 24 fun v88 =>
 cI .u8 (List.take 35 c63) 25 fun v89 =>
 cI .u8 (List.take 35 c63) 26 fun v90 =>
 cI .u8 (List.take 35 c63) 27 fun v91 =>
 cI .u8 (List.take 35 c63) 28 fun v92 =>
 cI .u8 (List.take 35 c63) 29 fun v93 =>
 cI .u8 (List.take 35 c63) 30 fun v94 =>
 cI .u8 (List.take 35 c63) 31 fun v95 =>
 cI .u32 (List.take 35 c63) 32 fun v96 =>
 cI .u32 (List.take 35 c63) 33 fun v97 =>
 cL 1 (List.take 35 c63) 34 fun v98 =>
 lt (IntKind.wrap .u64 ((List.length v98 : Nat) : Int)) fun x99 =>
 F_codec_AppendSize β L ([] : List (List V)) x99 (fun v100 =>
 chk ((List.length p5 + List.length v100) * 1 ≤ sizeCap ∧ List.length p5 + List.length v100 ≤ sizeCap) (
 lt (p5 ++ v100) fun l101 =>
 k_hbbbbbbbbabaabbaabbba l101 p77 p78 p79 v98 ((List.length v98 : Nat) : Int) (0 : Int) b2_0 b2_1 b2_2 b2_3 v64 v65 v66 v67 v68 v69 v70 v71 v72 v73 v74 v75 v76 v77 v78 v79 v80 v81 v82 v83 v84 v85 v86 v87 v88 v89 v90 v91 v92 v93 v94 v95 v96 v97 v98)))) (
 k_x4 p5 b2_0 b2_1 b2_2 b2_3)
theorem bbbbbbbbbaba_tx_encode_ok {β : Type} (F_codec_AppendU32 : T_codec_AppendU32) (F_codec_AppendSize : T_codec_AppendSize) (F_tx_Point : T_tx_Point) (F_codec_AppendU64 : T_codec_AppendU64) (F_codec_AppendBytes : T_codec_AppendBytes) (L : Nat) (p5 : List (List V)) (p77 : List (List V)) (p78 : Int) (p79 : Int) (b2_0 : Int) (b2_1 : List (List V)) (b2_2 : List (List V)) (b2_3 : Int) (X : St → Option β) (K : KT β) : runC sh_tx_encode (cb_tx_encode F_codec_AppendU32 F_codec_AppendSize F_tx_Point F_codec_AppendU64 F_codec_AppendBytes L) 0 L cbbbbbbbbabaa_tx_encode (st_hbbbbbbbbaba_tx_encode p5 p77 p78 p79 b2_0 b2_1 b2_2 b2_3) (loopK mbbbbbbbbaba_tx_encode X K) = bbbbbbbbbaba_tx_encode F_codec_AppendU32 F_codec_AppendSize F_tx_Point F_codec_AppendU64 F_codec_AppendBytes L p5 p77 p78 p79 b2_0 b2_1 b2_2 b2_3 (fun p5 p77 p78 p79 p91 p92 p93 b2_0 b2_1 b2_2 b2_3 b11_0 b11_1 b11_2 b11_3 b11_4 b11_5 b11_6 b11_7 b11_8 b11_9 b11_10 b11_11 b11_12 b11_13 b11_14 b11_15 b11_16 b11_17 b11_18 b11_19 b11_20 b11_21 b11_22 b11_23 b11_24 b11_25 b11_26 b11_27 b11_28 b11_29 b11_30 b11_31 b11_32 b11_33 b11_34 => loopM (runC sh_tx_encode (cb_tx_encode F_codec_AppendU32 F_codec_AppendSize F_tx_Point F_codec_AppendU64 F_codec_AppendBytes L) 0 L cbbbbbbbbabaabbaabbbaa_tx_encode) mbbbbbbbbabaabbaabbba_tx_encode L (st_hbbbbbbbbabaabbaabbba_tx_encode p5 p77 p78 p79 p91 p92 p93 b2_0 b2_1 b2_2 b2_3 b11_0 b11_1 b11_2 b11_3 b11_4 b11_5 b11_6 b11_7 b11_8 b11_9 b11_10 b11_11 b11_12 b11_13 b11_14 b11_15 b11_16 b11_17 b11_18 b11_19 b11_20 b11_21 b11_22 b11_23 b11_24 b11_25 b11_26 b11_27 b11_28 b11_29 b11_30 b11_31 b11_32 b11_33 b11_34) (blockK 6 (blockK 5 (seqK (runC sh_tx_encode (cb_tx_encode F_codec_AppendU32 F_codec_AppendSize F_tx_Point F_codec_AppendU64 F_codec_AppendBytes L) 0 L cbbbbbbbbabaabbb_tx_encode) (loopK mbbbbbbbbaba_tx_encode X K))))) (fun p5 b2_0 b2_1 b2_2 b2_3 => K (.exit 4) (st_x4_tx_encode p5 b2_0 b2_1 b2_2 b2_3)) := by kernel_rfl
def rbbbbbbbbabax4_tx_encode {β : Type} (F_codec_AppendU32 : T_codec_AppendU32) (F_codec_AppendSize : T_codec_AppendSize) (F_tx_Point : T_tx_Point) (F_codec_AppendU64 : T_codec_AppendU64) (F_codec_AppendBytes : T_codec_AppendBytes) (L : Nat) (p5 : List (List V)) (b2_0 : Int) (b2_1 : List (List V)) (b2_2 : List (List V)) (b2_3 : Int) (k_fin : List (List V) → Option β) : Option β :=
 k_fin p5
theorem rbbbbbbbbabax4_tx_encode_ok {β : Type} (F_codec_AppendU32 : T_codec_AppendU32) (F_codec_AppendSize : T_codec_AppendSize) (F_tx_Point : T_tx_Point) (F_codec_AppendU64 : T_codec_AppendU64) (F_codec_AppendBytes : T_codec_AppendBytes) (L : Nat) (p5 : List (List V)) (b2_0 : Int) (b2_1 : List (List V)) (b2_2 : List (List V)) (b2_3 : Int) (k : V → Bor → Option β) : (blockK 4 (seqK (runC sh_tx_encode (cb_tx_encode F_codec_AppendU32 F_codec_AppendSize F_tx_Point F_codec_AppendU64 F_codec_AppendBytes L) 0 L cbbbbbbbbb_tx_encode) (finK 0 (CF.res cf_tx_encode) k))) (.exit 4) (st_x4_tx_encode p5 b2_0 b2_1 b2_2 b2_3) = rbbbbbbbbabax4_tx_encode F_codec_AppendU32 F_codec_AppendSize F_tx_Point F_codec_AppendU64 F_codec_AppendBytes L p5 b2_0 b2_1 b2_2 b2_3 (fun p0 => k (V.gs 1 p0) []) := by kernel_rfl
def bbbbbbbbbabaabbaabbba_tx_encode {β : Type} (F_codec_AppendU32 : T_codec_AppendU32) (F_codec_AppendSize : T_codec_AppendSize) (F_tx_Point : T_tx_Point) (F_codec_AppendU64 : T_codec_AppendU64) (F_codec_AppendBytes : T_codec_AppendBytes) (L : Nat) (p5 : List (List V)) (p77 : List (List V)) (p78 : Int) (p79 : Int) (p91 : List (List V)) (p92 : Int) (p93 : Int) (b2_0 : Int) (b2_1 : List (List V)) (b2_2 : List (List V)) (b2_3 : Int) (b11_0 : Int) (b11_1 : Int) (b11_2 : Int) (b11_3 : Int) (b11_4 : Int) (b11_5 : Int) (b11_6 : Int) (b11_7 : Int) (b11_8 : Int) (b11_9 : Int) (b11_10 : Int) (b11_11 : Int) (b11_12 : Int) (b11_13 : Int) (b11_14 : Int) (b11_15 : Int) (b11_16 : Int) (b11_17 : Int) (b11_18 : Int) (b11_19 : Int) (b11_20 : Int) (b11_21 : Int) (b11_22 : Int) (b11_23 : Int) (b11_24 : Int) (b11_25 : Int) (b11_26 : Int) (b11_27 : Int) (b11_28 : Int) (b11_29 : Int) (b11_30 : Int) (b11_31 : Int) (b11_32 : Int) (b11_33 : Int) (b11_34 : List (List V)) (k_hbbbbbbbbabaabbaabbba : List (List V) → List (List V) → Int → Int → List (List V) → Int → Int → Int → List (List V) → List (List V) → Int → Int → Int → Int → Int → Int → Int → Int → Int → Int → Int → Int → Int → Int → Int → Int → Int → Int → Int → Int → Int → Int → Int → Int → Int → Int → Int → Int → Int → Int → Int → Int → Int → Int → Int → List (List V) → Option β) (k_x6 : List (List V) → List (List V) → Int → Int → Int → List (List V) → List (List V) → Int → Int → Int → Int → Int → Int → Int → Int → Int → Int → Int → Int → Int → Int → Int → Int → Int → Int → Int → Int → Int → Int → Int → Int → Int → Int → Int → Int → Int → Int → Int → Int → Int → Int → Int → List (List V) → Option β) : Option β :=
 ifb (decide (p93 < p92)) (
 idx p91 p93 fun c102 =>
 cL 1 c102 0 fun v103 =>
 F_codec_AppendBytes β L ([] : List (List V)) v103 (fun v104 =>
 chk ((List.length p5 + List.length v104) * 1 ≤ sizeCap ∧ List.length p5 + List.length v104 ≤ sizeCap) (
 lt (p5 ++ v104) fun l105 =>
 lt (IntKind.wrap .i64 ((p93 : Int) + (1 : Int))) fun x106 =>
 k_hbbbbbbbbabaabbaabbba l105 p77 p78 p79 p91 p92 x106 b2_0 b2_1 b2_2 b2_3 b11_0 b11_1 b11_2 b11_3 b11_4 b11_5 b11_6 b11_7 b11_8 b11_9 b11_10 b11_11 b11_12 b11_13 b11_14 b11_15 b11_16 b11_17 b11_18 b11_19 b11_20 b11_21 b11_22 b11_23 b11_24 b11_25 b11_26 b11_27 b11_28 b11_29 b11_30 b11_31 b11_32 b11_33 b11_34))) (
 k_x6 p5 p77 p78 p79 b2_0 b2_1 b2_2 b2_3 b11_0 b11_1 b11_2 b11_3 b11_4 b11_5 b11_6 b11_7 b11_8 b11_9 b11_10 b11_11 b11_12 b11_13 b11_14 b11_15 b11_16 b11_17 b11_18 b11_19 b11_20 b11_21 b11_22 b11_23 b11_24 b11_25 b11_26 b11_27 b11_28 b11_29 b11_30 b11_31 b11_32 b11_33 b11_34)
theorem bbbbbbbbbabaabbaabbba_tx_encode_ok {β : Type} (F_codec_AppendU32 : T_codec_AppendU32) (F_codec_AppendSize : T_codec_AppendSize) (F_tx_Point : T_tx_Point) (F_codec_AppendU64 : T_codec_AppendU64) (F_codec_AppendBytes : T_codec_AppendBytes) (L : Nat) (p5 : List (List V)) (p77 : List (List V)) (p78 : Int) (p79 : Int) (p91 : List (List V)) (p92 : Int) (p93 : Int) (b2_0 : Int) (b2_1 : List (List V)) (b2_2 : List (List V)) (b2_3 : Int) (b11_0 : Int) (b11_1 : Int) (b11_2 : Int) (b11_3 : Int) (b11_4 : Int) (b11_5 : Int) (b11_6 : Int) (b11_7 : Int) (b11_8 : Int) (b11_9 : Int) (b11_10 : Int) (b11_11 : Int) (b11_12 : Int) (b11_13 : Int) (b11_14 : Int) (b11_15 : Int) (b11_16 : Int) (b11_17 : Int) (b11_18 : Int) (b11_19 : Int) (b11_20 : Int) (b11_21 : Int) (b11_22 : Int) (b11_23 : Int) (b11_24 : Int) (b11_25 : Int) (b11_26 : Int) (b11_27 : Int) (b11_28 : Int) (b11_29 : Int) (b11_30 : Int) (b11_31 : Int) (b11_32 : Int) (b11_33 : Int) (b11_34 : List (List V)) (X : St → Option β) (K : KT β) : runC sh_tx_encode (cb_tx_encode F_codec_AppendU32 F_codec_AppendSize F_tx_Point F_codec_AppendU64 F_codec_AppendBytes L) 0 L cbbbbbbbbabaabbaabbbaa_tx_encode (st_hbbbbbbbbabaabbaabbba_tx_encode p5 p77 p78 p79 p91 p92 p93 b2_0 b2_1 b2_2 b2_3 b11_0 b11_1 b11_2 b11_3 b11_4 b11_5 b11_6 b11_7 b11_8 b11_9 b11_10 b11_11 b11_12 b11_13 b11_14 b11_15 b11_16 b11_17 b11_18 b11_19 b11_20 b11_21 b11_22 b11_23 b11_24 b11_25 b11_26 b11_27 b11_28 b11_29 b11_30 b11_31 b11_32 b11_33 b11_34) (loopK mbbbbbbbbabaabbaabbba_tx_encode X K) = bbbbbbbbbabaabbaabbba_tx_encode F_codec_AppendU32 F_codec_AppendSize F_tx_Point F_codec_AppendU64 F_codec_AppendBytes L p5 p77 p78 p79 p91 p92 p93 b2_0 b2_1 b2_2 b2_3 b11_0 b11_1 b11_2 b11_3 b11_4 b11_5 b11_6 b11_7 b11_8 b11_9 b11_10 b11_11 b11_12 b11_13 b11_14 b11_15 b11_16 b11_17 b11_18 b11_19 b11_20 b11_21 b11_22 b11_23 b11_24 b11_25 b11_26 b11_27 b11_28 b11_29 b11_30 b11_31 b11_32 b11_33 b11_34 (fun p5 p77 p78 p79 p91 p92 p93 b2_0 b2_1 b2_2 b2_3 b11_0 b11_1 b11_2 b11_3 b11_4 b11_5 b11_6 b11_7 b11_8 b11_9 b11_10 b11_11 b11_12 b11_13 b11_14 b11_15 b11_16 b11_17 b11_18 b11_19 b11_20 b11_21 b11_22 b11_23 b11_24 b11_25 b11_26 b11_27 b11_28 b11_29 b11_30 b11_31 b11_32 b11_33 b11_34 => X (st_hbbbbbbbbabaabbaabbba_tx_encode p5 p77 p78 p79 p91 p92 p93 b2_0 b2_1 b2_2 b2_3 b11_0 b11_1 b11_2 b11_3 b11_4 b11_5 b11_6 b11_7 b11_8 b11_9 b11_10 b11_11 b11_12 b11_13 b11_14 b11_15 b11_16 b11_17 b11_18 b11_19 b11_20 b11_21 b11_22 b11_23 b11_24 b11_25 b11_26 b11_27 b11_28 b11_29 b11_30 b11_31 b11_32 b11_33 b11_34)) (fun p5 p77 p78 p79 b2_0 b2_1 b2_2 b2_3 b11_0 b11_1 b11_2 b11_3 b11_4 b11_5 b11_6 b11_7 b11_8 b11_9 b11_10 b11_11 b11_12 b11_13 b11_14 b11_15 b11_16 b11_17 b11_18 b11_19 b11_20 b11_21 b11_22 b11_23 b11_24 b11_25 b11_26 b11_27 b11_28 b11_29 b11_30 b11_31 b11_32 b11_33 b11_34 => K (.exit 6) (st_x6_tx_encode p5 p77 p78 p79 b2_0 b2_1 b2_2 b2_3 b11_0 b11_1 b11_2 b11_3 b11_4 b11_5 b11_6 b11_7 b11_8 b11_9 b11_10 b11_11 b11_12 b11_13 b11_14 b11_15 b11_16 b11_17 b11_18 b11_19 b11_20 b11_21 b11_22 b11_23 b11_24 b11_25 b11_26 b11_27 b11_28 b11_29 b11_30 b11_31 b11_32 b11_33 b11_34)) := by kernel_rfl
def rbbbbbbbbabaabbaabbbax6_tx_encode {β : Type} (F_codec_AppendU32 : T_codec_AppendU32) (F_codec_AppendSize : T_codec_AppendSize) (F_tx_Point : T_tx_Point) (F_codec_AppendU64 : T_codec_AppendU64) (F_codec_AppendBytes : T_codec_AppendBytes) (L : Nat) (p5 : List (List V)) (p77 : List (List V)) (p78 : Int) (p79 : Int) (b2_0 : Int) (b2_1 : List (List V)) (b2_2 : List (List V)) (b2_3 : Int) (b11_0 : Int) (b11_1 : Int) (b11_2 : Int) (b11_3 : Int) (b11_4 : Int) (b11_5 : Int) (b11_6 : Int) (b11_7 : Int) (b11_8 : Int) (b11_9 : Int) (b11_10 : Int) (b11_11 : Int) (b11_12 : Int) (b11_13 : Int) (b11_14 : Int) (b11_15 : Int) (b11_16 : Int) (b11_17 : Int) (b11_18 : Int) (b11_19 : Int) (b11_20 : Int) (b11_21 : Int) (b11_22 : Int) (b11_23 : Int) (b11_24 : Int) (b11_25 : Int) (b11_26 : Int) (b11_27 : Int) (b11_28 : Int) (b11_29 : Int) (b11_30 : Int) (b11_31 : Int) (b11_32 : Int) (b11_33 : Int) (b11_34 : List (List V)) (k_hbbbbbbbbaba : List (List V) → List (List V) → Int → Int → Int → List (List V) → List (List V) → Int → Option β) : Option β :=
 lt (IntKind.wrap .i64 ((p79 : Int) + (1 : Int))) fun x107 =>
 k_hbbbbbbbbaba p5 p77 p78 x107 b2_0 b2_1 b2_2 b2_3
theorem rbbbbbbbbabaabbaabbbax6_tx_encode_ok {β : Type} (F_codec_AppendU32 : T_codec_AppendU32) (F_codec_AppendSize : T_codec_AppendSize) (F_tx_Point : T_tx_Point) (F_codec_AppendU64 : T_codec_AppendU64) (F_codec_AppendBytes : T_codec_AppendBytes) (L : Nat) (p5 : List (List V)) (p77 : List (List V)) (p78 : Int) (p79 : Int) (b2_0 : Int) (b2_1 : List (List V)) (b2_2 : List (List V)) (b2_3 : Int) (b11_0 : Int) (b11_1 : Int) (b11_2 : Int) (b11_3 : Int) (b11_4 : Int) (b11_5 : Int) (b11_6 : Int) (b11_7 : Int) (b11_8 : Int) (b11_9 : Int) (b11_10 : Int) (b11_11 : Int) (b11_12 : Int) (b11_13 : Int) (b11_14 : Int) (b11_15 : Int) (b11_16 : Int) (b11_17 : Int) (b11_18 : Int) (b11_19 : Int) (b11_20 : Int) (b11_21 : Int) (b11_22 : Int) (b11_23 : Int) (b11_24 : Int) (b11_25 : Int) (b11_26 : Int) (b11_27 : Int) (b11_28 : Int) (b11_29 : Int) (b11_30 : Int) (b11_31 : Int) (b11_32 : Int) (b11_33 : Int) (b11_34 : List (List V)) (X : St → Option β) (K : KT β) : (blockK 6 (blockK 5 (seqK (runC sh_tx_encode (cb_tx_encode F_codec_AppendU32 F_codec_AppendSize F_tx_Point F_codec_AppendU64 F_codec_AppendBytes L) 0 L cbbbbbbbbabaabbb_tx_encode) (loopK mbbbbbbbbaba_tx_encode X K)))) (.exit 6) (st_x6_tx_encode p5 p77 p78 p79 b2_0 b2_1 b2_2 b2_3 b11_0 b11_1 b11_2 b11_3 b11_4 b11_5 b11_6 b11_7 b11_8 b11_9 b11_10 b11_11 b11_12 b11_13 b11_14 b11_15 b11_16 b11_17 b11_18 b11_19 b11_20 b11_21 b11_22 b11_23 b11_24 b11_25 b11_26 b11_27 b11_28 b11_29 b11_30 b11_31 b11_32 b11_33 b11_34) = rbbbbbbbbabaabbaabbbax6_tx_encode F_codec_AppendU32 F_codec_AppendSize F_tx_Point F_codec_AppendU64 F_codec_AppendBytes L p5 p77 p78 p79 b2_0 b2_1 b2_2 b2_3 b11_0 b11_1 b11_2 b11_3 b11_4 b11_5 b11_6 b11_7 b11_8 b11_9 b11_10 b11_11 b11_12 b11_13 b11_14 b11_15 b11_16 b11_17 b11_18 b11_19 b11_20 b11_21 b11_22 b11_23 b11_24 b11_25 b11_26 b11_27 b11_28 b11_29 b11_30 b11_31 b11_32 b11_33 b11_34 (fun p5 p77 p78 p79 b2_0 b2_1 b2_2 b2_3 => X (st_hbbbbbbbbaba_tx_encode p5 p77 p78 p79 b2_0 b2_1 b2_2 b2_3)) := by kernel_rfl
def lbbbaba_tx_encode {β : Type} (F_codec_AppendU32 : T_codec_AppendU32) (F_codec_AppendSize : T_codec_AppendSize) (F_tx_Point : T_tx_Point) (F_codec_AppendU64 : T_codec_AppendU64) (F_codec_AppendBytes : T_codec_AppendBytes) (L : Nat) (k_x0 : Bool → List (List V) → Int → List (List V) → List (List V) → Int → Option β) : Nat → Bool → List (List V) → List (List V) → Int → Int → Int → List (List V) → List (List V) → Int → Option β
  | 0, _, _, _, _, _, _, _, _, _ => none
  | n + 1, p1, p5, p25, p26, p27, b2_0, b2_1, b2_2, b2_3 => bbbbaba_tx_encode F_codec_AppendU32 F_codec_AppendSize F_tx_Point F_codec_AppendU64 F_codec_AppendBytes L p1 p5 p25 p26 p27 b2_0 b2_1 b2_2 b2_3 (fun p1 p5 p25 p26 p27 b2_0 b2_1 b2_2 b2_3 => lbbbaba_tx_encode F_codec_AppendU32 F_codec_AppendSize F_tx_Point F_codec_AppendU64 F_codec_AppendBytes L k_x0 n p1 p5 p25 p26 p27 b2_0 b2_1 b2_2 b2_3) k_x0
theorem lbbbaba_tx_encode_ok {β : Type} (F_codec_AppendU32 : T_codec_AppendU32) (F_codec_AppendSize : T_codec_AppendSize) (F_tx_Point : T_tx_Point) (F_codec_AppendU64 : T_codec_AppendU64) (F_codec_AppendBytes : T_codec_AppendBytes) (L : Nat) (K : KT β) : ∀ (n : Nat) (p1 : Bool) (p5 : List (List V)) (p25 : List (List V)) (p26 : Int) (p27 : Int) (b2_0 : Int) (b2_1 : List (List V)) (b2_2 : List (List V)) (b2_3 : Int), loopM (runC sh_tx_encode (cb_tx_encode F_codec_AppendU32 F_codec_AppendSize F_tx_Point F_codec_AppendU64 F_codec_AppendBytes L) 0 L cbbbabaa_tx_encode) mbbbaba_tx_encode n (st_hbbbaba_tx_encode p1 p5 p25 p26 p27 b2_0 b2_1 b2_2 b2_3) K = lbbbaba_tx_encode F_codec_AppendU32 F_codec_AppendSize F_tx_Point F_codec_AppendU64 F_codec_AppendBytes L (fun p1 p5 b2_0 b2_1 b2_2 b2_3 => K (.exit 0) (st_x0_tx_encode p1 p5 b2_0 b2_1 b2_2 b2_3)) n p1 p5 p25 p26 p27 b2_0 b2_1 b2_2 b2_3 := by
  intro n
  induction n with
  | zero => intros; rfl
  | succ n ih =>
    intro p1 p5 p25 p26 p27 b2_0 b2_1 b2_2 b2_3
    refine (bbbbaba_tx_encode_ok F_codec_AppendU32 F_codec_AppendSize F_tx_Point F_codec_AppendU64 F_codec_AppendBytes L p1 p5 p25 p26 p27 b2_0 b2_1 b2_2 b2_3 (fun σ => loopM (runC sh_tx_encode (cb_tx_encode F_codec_AppendU32 F_codec_AppendSize F_tx_Point F_codec_AppendU64 F_codec_AppendBytes L) 0 L cbbbabaa_tx_encode) mbbbaba_tx_encode n σ K) K).trans ?_
    simp only [ih]
    rfl
def lbbbbbaba_tx_encode {β : Type} (F_codec_AppendU32 : T_codec_AppendU32) (F_codec_AppendSize : T_codec_AppendSize) (F_tx_Point : T_tx_Point) (F_codec_AppendU64 : T_codec_AppendU64) (F_codec_AppendBytes : T_codec_AppendBytes) (L : Nat) (k_x2 : Bool → List (List V) → Int → List (List V) → List (List V) → Int → Option β) : Nat → Bool → List (List V) → List (List V) → Int → Int → Int → List (List V) → List (List V) → Int → Option β
  | 0, _, _, _, _, _, _, _, _, _ => none
  | n + 1, p1, p5, p50, p51, p52, b2_0, b2_1, b2_2, b2_3 => bbbbbbaba_tx_encode F_codec_AppendU32 F_codec_AppendSize F_tx_Point F_codec_AppendU64 F_codec_AppendBytes L p1 p5 p50 p51 p52 b2_0 b2_1 b2_2 b2_3 (fun p1 p5 p50 p51 p52 b2_0 b2_1 b2_2 b2_3 => lbbbbbaba_tx_encode F_codec_AppendU32 F_codec_AppendSize F_tx_Point F_codec_AppendU64 F_codec_AppendBytes L k_x2 n p1 p5 p50 p51 p52 b2_0 b2_1 b2_2 b2_3) k_x2
theorem lbbbbbaba_tx_encode_ok {β : Type} (F_codec_AppendU32 : T_codec_AppendU32) (F_codec_AppendSize : T_codec_AppendSize) (F_tx_Point : T_tx_Point) (F_codec_AppendU64 : T_codec_AppendU64) (F_codec_AppendBytes : T_codec_AppendBytes) (L : Nat) (K : KT β) : ∀ (n : Nat) (p1 : Bool) (p5 : List (List V)) (p50 : List (List V)) (p51 : Int) (p52 : Int) (b2_0 : Int) (b2_1 : List (List V)) (b2_2 : List (List V)) (b2_3 : Int), loopM (runC sh_tx_encode (cb_tx_encode F_codec_AppendU32 F_codec_AppendSize F_tx_Point F_codec_AppendU64 F_codec_AppendBytes L) 0 L cbbbbbabaa_tx_encode) mbbbbbaba_tx_encode n (st_hbbbbbaba_tx_encode p1 p5 p50 p51 p52 b2_0 b2_1 b2_2 b2_3) K = lbbbbbaba_tx_encode F_codec_AppendU32 F_codec_AppendSize F_tx_Point F_codec_AppendU64 F_codec_AppendBytes L (fun p1 p5 b2_0 b2_1 b2_2 b2_3 => K (.exit 2) (st_x2_tx_encode p1 p5 b2_0 b2_1 b2_2 b2_3)) n p1 p5 p50 p51 p52 b2_0 b2_1 b2_2 b2_3 := by
  intro n
  induction n with
  | zero => intros; rfl
  | succ n ih =>
    intro p1 p5 p50 p51 p52 b2_0 b2_1 b2_2 b2_3
    refine (bbbbbbaba_tx_encode_ok F_codec_AppendU32 F_codec_AppendSize F_tx_Point F_codec_AppendU64 F_codec_AppendBytes L p1 p5 p50 p51 p52 b2_0 b2_1 b2_2 b2_3 (fun σ => loopM (runC sh_tx_encode (cb_tx_encode F_codec_AppendU32 F_codec_AppendSize F_tx_Point F_codec_AppendU64 F_codec_AppendBytes L) 0 L cbbbbbabaa_tx_encode) mbbbbbaba_tx_encode n σ K) K).trans ?_
    simp only [ih]
    rfl
def lbbbbbbbbabaabbaabbba_tx_encode {β : Type} (F_codec_AppendU32 : T_codec_AppendU32) (F_codec_AppendSize : T_codec_AppendSize) (F_tx_Point : T_tx_Point) (F_codec_AppendU64 : T_codec_AppendU64) (F_codec_AppendBytes : T_codec_AppendBytes) (L : Nat) (k_x6 : List (List V) → List (List V) → Int → Int → Int → List (List V) → List (List V) → Int → Int → Int → Int → Int → Int → Int → Int → Int → Int → Int → Int → Int → Int → Int → Int → Int → Int → Int → Int → Int → Int → Int → Int → Int → Int → Int → Int → Int → Int → Int → Int → Int → Int → Int → List (List V) → Option β) : Nat → List (List V) → List (List V) → Int → Int → List (List V) → Int → Int → Int → List (List V) → List (List V) → Int → Int → Int → Int → Int → Int → Int → Int → Int → Int → Int → Int → Int → Int → Int → Int → Int → Int → Int → Int → Int → Int → Int → Int → Int → Int → Int → Int → Int → Int → Int → Int → Int → Int → Int → List (List V) → Option β
  | 0, _, _, _, _, _, _, _, _, _, _, _, _, _, _, _, _, _, _, _, _, _, _, _, _, _, _, _, _, _, _, _, _, _, _, _, _, _, _, _, _, _, _, _, _, _, _ => none
  | n + 1, p5, p77, p78, p79, p91, p92, p93, b2_0, b2_1, b2_2, b2_3, b11_0, b11_1, b11_2, b11_3, b11_4, b11_5, b11_6, b11_7, b11_8, b11_9, b11_10, b11_11, b11_12, b11_13, b11_14, b11_15, b11_16, b11_17, b11_18, b11_19, b11_20, b11_21, b11_22, b11_23, b11_24, b11_25, b11_26, b11_27, b11_28, b11_29, b11_30, b11_31, b11_32, b11_33, b11_34 => bbbbbbbbbabaabbaabbba_tx_encode F_codec_AppendU32 F_codec_AppendSize F_tx_Point F_codec_AppendU64 F_codec_AppendBytes L p5 p77 p78 p79 p91 p92 p93 b2_0 b2_1 b2_2 b2_3 b11_0 b11_1 b11_2 b11_3 b11_4 b11_5 b11_6 b11_7 b11_8 b11_9 b11_10 b11_11 b11_12 b11_13 b11_14 b11_15 b11_16 b11_17 b11_18 b11_19 b11_20 b11_21 b11_22 b11_23 b11_24 b11_25 b11_26 b11_27 b11_28 b11_29 b11_30 b11_31 b11_32 b11_33 b11_34 (fun p5 p77 p78 p79 p91 p92 p93 b2_0 b2_1 b2_2 b2_3 b11_0 b11_1 b11_2 b11_3 b11_4 b11_5 b11_6 b11_7 b11_8 b11_9 b11_10 b11_11 b11_12 b11_13 b11_14 b11_15 b11_16 b11_17 b11_18 b11_19 b11_20 b11_21 b11_22 b11_23 b11_24 b11_25 b11_26 b11_27 b11_28 b11_29 b11_30 b11_31 b11_32 b11_33 b11_34 => lbbbbbbbbabaabbaabbba_tx_encode F_codec_AppendU32 F_codec_AppendSize F_tx_Point F_codec_AppendU64 F_codec_AppendBytes L k_x6 n p5 p77 p78 p79 p91 p92 p93 b2_0 b2_1 b2_2 b2_3 b11_0 b11_1 b11_2 b11_3 b11_4 b11_5 b11_6 b11_7 b11_8 b11_9 b11_10 b11_11 b11_12 b11_13 b11_14 b11_15 b11_16 b11_17 b11_18 b11_19 b11_20 b11_21 b11_22 b11_23 b11_24 b11_25 b11_26 b11_27 b11_28 b11_29 b11_30 b11_31 b11_32 b11_33 b11_34) k_x6
theorem lbbbbbbbbabaabbaabbba_tx_encode_ok {β : Type} (F_codec_AppendU32 : T_codec_AppendU32) (F_codec_AppendSize : T_codec_AppendSize) (F_tx_Point : T_tx_Point) (F_codec_AppendU64 : T_codec_AppendU64) (F_codec_AppendBytes : T_codec_AppendBytes) (L : Nat) (K : KT β) : ∀ (n : Nat) (p5 : List (List V)) (p77 : List (List V)) (p78 : Int) (p79 : Int) (p91 : List (List V)) (p92 : Int) (p93 : Int) (b2_0 : Int) (b2_1 : List (List V)) (b2_2 : List (List V)) (b2_3 : Int) (b11_0 : Int) (b11_1 : Int) (b11_2 : Int) (b11_3 : Int) (b11_4 : Int) (b11_5 : Int) (b11_6 : Int) (b11_7 : Int) (b11_8 : Int) (b11_9 : Int) (b11_10 : Int) (b11_11 : Int) (b11_12 : Int) (b11_13 : Int) (b11_14 : Int) (b11_15 : Int) (b11_16 : Int) (b11_17 : Int) (b11_18 : Int) (b11_19 : Int) (b11_20 : Int) (b11_21 : Int) (b11_22 : Int) (b11_23 : Int) (b11_24 : Int) (b11_25 : Int) (b11_26 : Int) (b11_27 : Int) (b11_28 : Int) (b11_29 : Int) (b11_30 : Int) (b11_31 : Int) (b11_32 : Int) (b11_33 : Int) (b11_34 : List (List V)), loopM (runC sh_tx_encode (cb_tx_encode F_codec_AppendU32 F_codec_AppendSize F_tx_Point F_codec_AppendU64 F_codec_AppendBytes L) 0 L cbbbbbbbbabaabbaabbbaa_tx_encode) mbbbbbbbbabaabbaabbba_tx_encode n (st_hbbbbbbbbabaabbaabbba_tx_encode p5 p77 p78 p79 p91 p92 p93 b2_0 b2_1 b2_2 b2_3 b11_0 b11_1 b11_2 b11_3 b11_4 b11_5 b11_6 b11_7 b11_8 b11_9 b11_10 b11_11 b11_12 b11_13 b11_14 b11_15 b11_16 b11_17 b11_18 b11_19 b11_20 b11_21 b11_22 b11_23 b11_24 b11_25 b11_26 b11_27 b11_28 b11_29 b11_30 b11_31 b11_32 b11_33 b11_34) K = lbbbbbbbbabaabbaabbba_tx_encode F_codec_AppendU32 F_codec_AppendSize F_tx_Point F_codec_AppendU64 F_codec_AppendBytes L (fun p5 p77 p78 p79 b2_0 b2_1 b2_2 b2_3 b11_0 b11_1 b11_2 b11_3 b11_4 b11_5 b11_6 b11_7 b11_8 b11_9 b11_10 b11_11 b11_12 b11_13 b11_14 b11_15 b11_16 b11_17 b11_18 b11_19 b11_20 b11_21 b11_22 b11_23 b11_24 b11_25 b11_26 b11_27 b11_28 b11_29 b11_30 b11_31 b11_32 b11_33 b11_34 => K (.exit 6) (st_x6_tx_encode p5 p77 p78 p79 b2_0 b2_1 b2_2 b2_3 b11_0 b11_1 b11_2 b11_3 b11_4 b11_5 b11_6 b11_7 b11_8 b11_9 b11_10 b11_11 b11_12 b11_13 b11_14 b11_15 b11_16 b11_17 b11_18 b11_19 b11_20 b11_21 b11_22 b11_23 b11_24 b11_25 b11_26 b11_27 b11_28 b11_29 b11_30 b11_31 b11_32 b11_33 b11_34)) n p5 p77 p78 p79 p91 p92 p93 b2_0 b2_1 b2_2 b2_3 b11_0 b11_1 b11_2 b11_3 b11_4 b11_5 b11_6 b11_7 b11_8 b11_9 b11_10 b11_11 b11_12 b11_13 b11_14 b11_15 b11_16 b11_17 b11_18 b11_19 b11_20 b11_21 b11_22 b11_23 b11_24 b11_25 b11_26 b11_27 b11_28 b11_29 b11_30 b11_31 b11_32 b11_33 b11_34 := by
  intro n
  induction n with
  | zero => intros; rfl
  | succ n ih =>
    intro p5 p77 p78 p79 p91 p92 p93 b2_0 b2_1 b2_2 b2_3 b11_0 b11_1 b11_2 b11_3 b11_4 b11_5 b11_6 b11_7 b11_8 b11_9 b11_10 b11_11 b11_12 b11_13 b11_14 b11_15 b11_16 b11_17 b11_18 b11_19 b11_20 b11_21 b11_22 b11_23 b11_24 b11_25 b11_26 b11_27 b11_28 b11_29 b11_30 b11_31 b11_32 b11_33 b11_34
    refine (bbbbbbbbbabaabbaabbba_tx_encode_ok F_codec_AppendU32 F_codec_AppendSize F_tx_Point F_codec_AppendU64 F_codec_AppendBytes L p5 p77 p78 p79 p91 p92 p93 b2_0 b2_1 b2_2 b2_3 b11_0 b11_1 b11_2 b11_3 b11_4 b11_5 b11_6 b11_7 b11_8 b11_9 b11_10 b11_11 b11_12 b11_13 b11_14 b11_15 b11_16 b11_17 b11_18 b11_19 b11_20 b11_21 b11_22 b11_23 b11_24 b11_25 b11_26 b11_27 b11_28 b11_29 b11_30 b11_31 b11_32 b11_33 b11_34 (fun σ => loopM (runC sh_tx_encode (cb_tx_encode F_codec_AppendU32 F_codec_AppendSize F_tx_Point F_codec_AppendU64 F_codec_AppendBytes L) 0 L cbbbbbbbbabaabbaabbbaa_tx_encode) mbbbbbbbbabaabbaabbba_tx_encode n σ K) K).trans ?_
    simp only [ih]
    rfl
def Cbbbbbbbbbaba_tx_encode {β : Type} (F_codec_AppendU32 : T_codec_AppendU32) (F_codec_AppendSize : T_codec_AppendSize) (F_tx_Point : T_tx_Point) (F_codec_AppendU64 : T_codec_AppendU64) (F_codec_AppendBytes : T_codec_AppendBytes) (L : Nat) (p5 : List (List V)) (p77 : List (List V)) (p78 : Int) (p79 : Int) (b2_0 : Int) (b2_1 : List (List V)) (b2_2 : List (List V)) (b2_3 : Int) (k_x4 : List (List V) → Int → List (List V) → List (List V) → Int → Option β) (k_hbbbbbbbbaba : List (List V) → List (List V) → Int → Int → Int → List (List V) → List (List V) → Int → Option β) : Option β :=
 bbbbbbbbbaba_tx_encode F_codec_AppendU32 F_codec_AppendSize F_tx_Point F_codec_AppendU64 F_codec_AppendBytes L p5 p77 p78 p79 b2_0 b2_1 b2_2 b2_3 (fun p5 p77 p78 p79 p91 p92 p93 b2_0 b2_1 b2_2 b2_3 b11_0 b11_1 b11_2 b11_3 b11_4 b11_5 b11_6 b11_7 b11_8 b11_9 b11_10 b11_11 b11_12 b11_13 b11_14 b11_15 b11_16 b11_17 b11_18 b11_19 b11_20 b11_21 b11_22 b11_23 b11_24 b11_25 b11_26 b11_27 b11_28 b11_29 b11_30 b11_31 b11_32 b11_33 b11_34 => lbbbbbbbbabaabbaabbba_tx_encode F_codec_AppendU32 F_codec_AppendSize F_tx_Point F_codec_AppendU64 F_codec_AppendBytes L (fun p5 p77 p78 p79 b2_0 b2_1 b2_2 b2_3 b11_0 b11_1 b11_2 b11_3 b11_4 b11_5 b11_6 b11_7 b11_8 b11_9 b11_10 b11_11 b11_12 b11_13 b11_14 b11_15 b11_16 b11_17 b11_18 b11_19 b11_20 b11_21 b11_22 b11_23 b11_24 b11_25 b11_26 b11_27 b11_28 b11_29 b11_30 b11_31 b11_32 b11_33 b11_34 => rbbbbbbbbabaabbaabbbax6_tx_encode F_codec_AppendU32 F_codec_AppendSize F_tx_Point F_codec_AppendU64 F_codec_AppendBytes L p5 p77 p78 p79 b2_0 b2_1 b2_2 b2_3 b11_0 b11_1 b11_2 b11_3 b11_4 b11_5 b11_6 b11_7 b11_8 b11_9 b11_10 b11_11 b11_12 b11_13 b11_14 b11_15 b11_16 b11_17 b11_18 b11_19 b11_20 b11_21 b11_22 b11_23 b11_24 b11_25 b11_26 b11_27 b11_28 b11_29 b11_30 b11_31 b11_32 b11_33 b11_34 k_hbbbbbbbbaba) L p5 p77 p78 p79 p91 p92 p93 b2_0 b2_1 b2_2 b2_3 b11_0 b11_1 b11_2 b11_3 b11_4 b11_5 b11_6 b11_7 b11_8 b11_9 b11_10 b11_11 b11_12 b11_13 b11_14 b11_15 b11_16 b11_17 b11_18 b11_19 b11_20 b11_21 b11_22 b11_23 b11_24 b11_25 b11_26 b11_27 b11_28 b11_29 b11_30 b11_31 b11_32 b11_33 b11_34) k_x4
theorem Cbbbbbbbbbaba_tx_encode_ok {β : Type} (F_codec_AppendU32 : T_codec_AppendU32) (F_codec_AppendSize : T_codec_AppendSize) (F_tx_Point : T_tx_Point) (F_codec_AppendU64 : T_codec_AppendU64) (F_codec_AppendBytes : T_codec_AppendBytes) (L : Nat) (p5 : List (List V)) (p77 : List (List V)) (p78 : Int) (p79 : Int) (b2_0 : Int) (b2_1 : List (List V)) (b2_2 : List (List V)) (b2_3 : Int) (X : St → Option β) (K : KT β) : runC sh_tx_encode (cb_tx_encode F_codec_AppendU32 F_codec_AppendSize F_tx_Point F_codec_AppendU64 F_codec_AppendBytes L) 0 L cbbbbbbbbabaa_tx_encode (st_hbbbbbbbbaba_tx_encode p5 p77 p78 p79 b2_0 b2_1 b2_2 b2_3) (loopK mbbbbbbbbaba_tx_encode X K) = Cbbbbbbbbbaba_tx_encode F_codec_AppendU32 F_codec_AppendSize F_tx_Point F_codec_AppendU64 F_codec_AppendBytes L p5 p77 p78 p79 b2_0 b2_1 b2_2 b2_3 (fun p5 b2_0 b2_1 b2_2 b2_3 => K (.exit 4) (st_x4_tx_encode p5 b2_0 b2_1 b2_2 b2_3)) (fun p5 p77 p78 p79 b2_0 b2_1 b2_2 b2_3 => X (st_hbbbbbbbbaba_tx_encode p5 p77 p78 p79 b2_0 b2_1 b2_2 b2_3)) := by
  refine (bbbbbbbbbaba_tx_encode_ok F_codec_AppendU32 F_codec_AppendSize F_tx_Point F_codec_AppendU64 F_codec_AppendBytes L p5 p77 p78 p79 b2_0 b2_1 b2_2 b2_3 X K).trans ?_
  unfold Cbbbbbbbbbaba_tx_encode
  simp only [lbbbbbbbbabaabbaabbba_tx_encode_ok, rbbbbbbbbabaabbaabbbax6_tx_encode_ok]
def lbbbbbbbbaba_tx_encode {β : Type} (F_codec_AppendU32 : T_codec_AppendU32) (F_codec_AppendSize : T_codec_AppendSize) (F_tx_Point : T_tx_Point) (F_codec_AppendU64 : T_codec_AppendU64) (F_codec_AppendBytes : T_codec_AppendBytes) (L : Nat) (k_x4 : List (List V) → Int → List (List V) → List (List V) → Int → Option β) : Nat → List (List V) → List (List V) → Int → Int → Int → List (List V) → List (List V) → Int → Option β
  | 0, _, _, _, _, _, _, _, _ => none
  | n + 1, p5, p77, p78, p79, b2_0, b2_1, b2_2, b2_3 => Cbbbbbbbbbaba_tx_encode F_codec_AppendU32 F_codec_AppendSize F_tx_Point F_codec_AppendU64 F_codec_AppendBytes L p5 p77 p78 p79 b2_0 b2_1 b2_2 b2_3 k_x4 (fun p5 p77 p78 p79 b2_0 b2_1 b2_2 b2_3 => lbbbbbbbbaba_tx_encode F_codec_AppendU32 F_codec_AppendSize F_tx_Point F_codec_AppendU64 F_codec_AppendBytes L k_x4 n p5 p77 p78 p79 b2_0 b2_1 b2_2 b2_3)
theorem lbbbbbbbbaba_tx_encode_ok {β : Type} (F_codec_AppendU32 : T_codec_AppendU32) (F_codec_AppendSize : T_codec_AppendSize) (F_tx_Point : T_tx_Point) (F_codec_AppendU64 : T_codec_AppendU64) (F_codec_AppendBytes : T_codec_AppendBytes) (L : Nat) (K : KT β) : ∀ (n : Nat) (p5 : List (List V)) (p77 : List (List V)) (p78 : Int) (p79 : Int) (b2_0 : Int) (b2_1 : List (List V)) (b2_2 : List (List V)) (b2_3 : Int), loopM (runC sh_tx_encode (cb_tx_encode F_codec_AppendU32 F_codec_AppendSize F_tx_Point F_codec_AppendU64 F_codec_AppendBytes L) 0 L cbbbbbbbbabaa_tx_encode) mbbbbbbbbaba_tx_encode n (st_hbbbbbbbbaba_tx_encode p5 p77 p78 p79 b2_0 b2_1 b2_2 b2_3) K = lbbbbbbbbaba_tx_encode F_codec_AppendU32 F_codec_AppendSize F_tx_Point F_codec_AppendU64 F_codec_AppendBytes L (fun p5 b2_0 b2_1 b2_2 b2_3 => K (.exit 4) (st_x4_tx_encode p5 b2_0 b2_1 b2_2 b2_3)) n p5 p77 p78 p79 b2_0 b2_1 b2_2 b2_3 := by
  intro n
  induction n with
  | zero => intros; rfl
  | succ n ih =>
    intro p5 p77 p78 p79 b2_0 b2_1 b2_2 b2_3
    refine (Cbbbbbbbbbaba_tx_encode_ok F_codec_AppendU32 F_codec_AppendSize F_tx_Point F_codec_AppendU64 F_codec_AppendBytes L p5 p77 p78 p79 b2_0 b2_1 b2_2 b2_3 (fun σ => loopM (runC sh_tx_encode (cb_tx_encode F_codec_AppendU32 F_codec_AppendSize F_tx_Point F_codec_AppendU64 F_codec_AppendBytes L) 0 L cbbbbbbbbabaa_tx_encode) mbbbbbbbbaba_tx_encode n σ K) K).trans ?_
    simp only [ih]
    rfl
def Crbbbbbabax2_tx_encode {β : Type} (F_codec_AppendU32 : T_codec_AppendU32) (F_codec_AppendSize : T_codec_AppendSize) (F_tx_Point : T_tx_Point) (F_codec_AppendU64 : T_codec_AppendU64) (F_codec_AppendBytes : T_codec_AppendBytes) (L : Nat) (p1 : Bool) (p5 : List (List V)) (b2_0 : Int) (b2_1 : List (List V)) (b2_2 : List (List V)) (b2_3 : Int) (k_fin : List (List V) → Option β) : Option β :=
 rbbbbbabax2_tx_encode F_codec_AppendU32 F_codec_AppendSize F_tx_Point F_codec_AppendU64 F_codec_AppendBytes L p1 p5 b2_0 b2_1 b2_2 b2_3 k_fin (fun p5 p77 p78 p79 b2_0 b2_1 b2_2 b2_3 => lbbbbbbbbaba_tx_encode F_codec_AppendU32 F_codec_AppendSize F_tx_Point F_codec_AppendU64 F_codec_AppendBytes L (fun p5 b2_0 b2_1 b2_2 b2_3 => rbbbbbbbbabax4_tx_encode F_codec_AppendU32 F_codec_AppendSize F_tx_Point F_codec_AppendU64 F_codec_AppendBytes L p5 b2_0 b2_1 b2_2 b2_3 k_fin) L p5 p77 p78 p79 b2_0 b2_1 b2_2 b2_3)
theorem Crbbbbbabax2_tx_encode_ok {β : Type} (F_codec_AppendU32 : T_codec_AppendU32) (F_codec_AppendSize : T_codec_AppendSize) (F_tx_Point : T_tx_Point) (F_codec_AppendU64 : T_codec_AppendU64) (F_codec_AppendBytes : T_codec_AppendBytes) (L : Nat) (p1 : Bool) (p5 : List (List V)) (b2_0 : Int) (b2_1 : List (List V)) (b2_2 : List (List V)) (b2_3 : Int) (k : V → Bor → Option β) : (blockK 2 (seqK (runC sh_tx_encode (cb_tx_encode F_codec_AppendU32 F_codec_AppendSize F_tx_Point F_codec_AppendU64 F_codec_AppendBytes L) 0 L cbbbbbb_tx_encode) (finK 0 (CF.res cf_tx_encode) k))) (.exit 2) (st_x2_tx_encode p1 p5 b2_0 b2_1 b2_2 b2_3) = Crbbbbbabax2_tx_encode F_codec_AppendU32 F_codec_AppendSize F_tx_Point F_codec_AppendU64 F_codec_AppendBytes L p1 p5 b2_0 b2_1 b2_2 b2_3 (fun p0 => k (V.gs 1 p0) []) := by
  refine (rbbbbbabax2_tx_encode_ok F_codec_AppendU32 F_codec_AppendSize F_tx_Point F_codec_AppendU64 F_codec_AppendBytes L p1 p5 b2_0 b2_1 b2_2 b2_3 k).trans ?_
  unfold Crbbbbbabax2_tx_encode
  simp only [lbbbbbbbbaba_tx_encode_ok, rbbbbbbbbabax4_tx_encode_ok]
def Crbbbabax0_tx_encode {β : Type} (F_codec_AppendU32 : T_codec_AppendU32) (F_codec_AppendSize : T_codec_AppendSize) (F_tx_Point : T_tx_Point) (F_codec_AppendU64 : T_codec_AppendU64) (F_codec_AppendBytes : T_codec_AppendBytes) (L : Nat) (p1 : Bool) (p5 : List (List V)) (b2_0 : Int) (b2_1 : List (List V)) (b2_2 : List (List V)) (b2_3 : Int) (k_fin : List (List V) → Option β) : Option β :=
 rbbbabax0_tx_encode F_codec_AppendU32 F_codec_AppendSize F_tx_Point F_codec_AppendU64 F_codec_AppendBytes L p1 p5 b2_0 b2_1 b2_2 b2_3 (fun p1 p5 p50 p51 p52 b2_0 b2_1 b2_2 b2_3 => lbbbbbaba_tx_encode F_codec_AppendU32 F_codec_AppendSize F_tx_Point F_codec_AppendU64 F_codec_AppendBytes L (fun p1 p5 b2_0 b2_1 b2_2 b2_3 => Crbbbbbabax2_tx_encode F_codec_AppendU32 F_codec_AppendSize F_tx_Point F_codec_AppendU64 F_codec_AppendBytes L p1 p5 b2_0 b2_1 b2_2 b2_3 k_fin) L p1 p5 p50 p51 p52 b2_0 b2_1 b2_2 b2_3)
theorem Crbbbabax0_tx_encode_ok {β : Type} (F_codec_AppendU32 : T_codec_AppendU32) (F_codec_AppendSize : T_codec_AppendSize) (F_tx_Point : T_tx_Point) (F_codec_AppendU64 : T_codec_AppendU64) (F_codec_AppendBytes : T_codec_AppendBytes) (L : Nat) (p1 : Bool) (p5 : List (List V)) (b2_0 : Int) (b2_1 : List (List V)) (b2_2 : List (List V)) (b2_3 : Int) (k : V → Bor → Option β) : (blockK 0 (seqK (runC sh_tx_encode (cb_tx_encode F_codec_AppendU32 F_codec_AppendSize F_tx_Point F_codec_AppendU64 F_codec_AppendBytes L) 0 L cbbbb_tx_encode) (finK 0 (CF.res cf_tx_encode) k))) (.exit 0) (st_x0_tx_encode p1 p5 b2_0 b2_1 b2_2 b2_3) = Crbbbabax0_tx_encode F_codec_AppendU32 F_codec_AppendSize F_tx_Point F_codec_AppendU64 F_codec_AppendBytes L p1 p5 b2_0 b2_1 b2_2 b2_3 (fun p0 => k (V.gs 1 p0) []) := by
  refine (rbbbabax0_tx_encode_ok F_codec_AppendU32 F_codec_AppendSize F_tx_Point F_codec_AppendU64 F_codec_AppendBytes L p1 p5 b2_0 b2_1 b2_2 b2_3 k).trans ?_
  unfold Crbbbabax0_tx_encode
  simp only [lbbbbbaba_tx_encode_ok, Crbbbbbabax2_tx_encode_ok]
def R_tx_encode {β : Type} (F_codec_AppendU32 : T_codec_AppendU32) (F_codec_AppendSize : T_codec_AppendSize) (F_tx_Point : T_tx_Point) (F_codec_AppendU64 : T_codec_AppendU64) (F_codec_AppendBytes : T_codec_AppendBytes) (L : Nat) (p0 : List V) (p1 : Bool) (k_fin : List (List V) → Option β) : Option β :=
 e_tx_encode F_codec_AppendU32 F_codec_AppendSize F_tx_Point F_codec_AppendU64 F_codec_AppendBytes L p0 p1 (fun p1 p5 p25 p26 p27 b2_0 b2_1 b2_2 b2_3 => lbbbaba_tx_encode F_codec_AppendU32 F_codec_AppendSize F_tx_Point F_codec_AppendU64 F_codec_AppendBytes L (fun p1 p5 b2_0 b2_1 b2_2 b2_3 => Crbbbabax0_tx_encode F_codec_AppendU32 F_codec_AppendSize F_tx_Point F_codec_AppendU64 F_codec_AppendBytes L p1 p5 b2_0 b2_1 b2_2 b2_3 k_fin) L p1 p5 p25 p26 p27 b2_0 b2_1 b2_2 b2_3)
theorem R_tx_encode_ok {β : Type} (F_codec_AppendU32 : T_codec_AppendU32) (F_codec_AppendSize : T_codec_AppendSize) (F_tx_Point : T_tx_Point) (F_codec_AppendU64 : T_codec_AppendU64) (F_codec_AppendBytes : T_codec_AppendBytes) (L : Nat) (p0 : List V) (p1 : Bool) (k : V → Bor → Option β) : funC sh_tx_encode (cb_tx_encode F_codec_AppendU32 F_codec_AppendSize F_tx_Point F_codec_AppendU64 F_codec_AppendBytes L) L cf_tx_encode [(V.agg p0), (V.sc (.bool p1))] [] k = R_tx_encode F_codec_AppendU32 F_codec_AppendSize F_tx_Point F_codec_AppendU64 F_codec_AppendBytes L p0 p1 (fun p0 => k (V.gs 1 p0) []) := by
  refine (e_tx_encode_ok F_codec_AppendU32 F_codec_AppendSize F_tx_Point F_codec_AppendU64 F_codec_AppendBytes L p0 p1 k).trans ?_
  unfold R_tx_encode
  simp only [lbbbaba_tx_encode_ok, Crbbbabax0_tx_encode_ok]
abbrev T_tx_encode := ∀ (β : Type), Nat → List V → Bool → (List (List V) → Option β) → Option β
def F_tx_encode (β : Type) (L : Nat) (p0 : List V) (p1 : Bool) (k_fin : List (List V) → Option β) : Option β := R_tx_encode F_codec_AppendU32 F_codec_AppendSize F_tx_Point F_codec_AppendU64 F_codec_AppendBytes L p0 p1 k_fin
def d_tx_encode (F_tx_encode : T_tx_encode) (L : Nat) (β : Type) (args : List V) (bor : Bor) (k : V → Bor → Option β) : Option β := match args, bor with
  | [a0, a1], [] => aG a0 fun p0 => aB a1 fun p1 => F_tx_encode β L p0 p1 (fun p0 => k (V.gs 1 p0) [])
  | _, _ => none
theorem d_tx_encode_ok (L : Nat) (β : Type) (args : List V) (bor : Bor) (k : V → Bor → Option β) (r : β) (h : d_tx_encode F_tx_encode L β args bor k = some r) : funC sh_tx_encode (cb_tx_encode F_codec_AppendU32 F_codec_AppendSize F_tx_Point F_codec_AppendU64 F_codec_AppendBytes L) L cf_tx_encode args bor k = some r := by
  unfold d_tx_encode at h
  split at h
  · have q := aG_inv h; clear h; obtain ⟨p0, rfl, h⟩ := q
    have q := aB_inv h; clear h; obtain ⟨p1, rfl, h⟩ := q
    exact (R_tx_encode_ok F_codec_AppendU32 F_codec_AppendSize F_tx_Point F_codec_AppendU64 F_codec_AppendBytes L p0 p1 k).trans h
  · cases h
/-! tx_fits : 146 -/
def cbbbabaabbaabbbaa_tx_fits : CC := (.seq (.reg [⟨(some 51), false, none, .bin .lss (.tmp 50) (.tmp 49)⟩])
 (.seq (.cond (.tmp 51)
 .skip
 (.seq (.mask (bl 962072674306 63) (bl 9187343239835811579 63))
 (.exit 4)))
 (.seq (.block 5 (.seq (.reg [⟨(some 52), false, none, .indexAddrS 1 (.tmp 48) (.tmp 50)⟩,
   ⟨(some 53), false, none, .load false 1 (.tmp 52) false⟩,
   ⟨(some 8), false, none, .move (.tmp 53) true⟩])
 (.seq (.reg [⟨(some 54), false, none, .move (.tmp 8) true⟩,
   ⟨(some 55), false, none, .lenS (.tmp 54)⟩,
   ⟨(some 56), false, none, .bin .gtr (.tmp 55) (.const (.sc (.int .i64 520)))⟩])
 (.cond (.tmp 56)
 (.seq (.reg [⟨(some 2), false, none, .move (.const (.sc (.bool false))) false⟩])
 (.seq (.mask (bl 4 63) (bl 9186745105510301375 63))
 .ret))
 .skip))))
 (.reg [⟨(some 57), false, none, .bin .add (.tmp 50) (.const (.sc (.int .i64 1)))⟩,
   ⟨(some 50), false, none, .move (.tmp 57) false⟩]))))
def cbbbabaabbb_tx_fits : CC := (.reg [⟨(some 58), false, none, .bin .add (.tmp 39) (.const (.sc (.int .i64 1)))⟩,
   ⟨(some 39), false, none, .move (.tmp 58) false⟩])
def cbbbabaa_tx_fits : CC := (.seq (.reg [⟨(some 40), false, none, .bin .lss (.tmp 39) (.tmp 38)⟩])
 (.seq (.cond (.tmp 40)
 .skip
 (.seq (.mask (bl 2 63) (bl 9186745105510301371 63))
 (.exit 2)))
 (.seq (.block 3 (.seq (.reg [⟨(some 41), false, none, .indexAddrS 35 (.tmp 37) (.tmp 39)⟩,
   ⟨(some 42), false, none, .load true 35 (.tmp 41) false⟩,
   ⟨(some 6), false, none, .alloc false [(.sc (.int .u8 0)), (.sc (.int .u8 0)), (.sc (.int .u8 0)), (.sc (.int .u8 0)), (.sc (.int .u8 0)), (.sc (.int .u8 0)), (.sc (.int .u8 0)), (.sc (.int .u8 0)), (.sc (.int .u8 0)), (.sc (.int .u8 0)), (.sc (.int .u8 0)), (.sc (.int .u8 0)), (.sc (.int .u8 0)), (.sc (.int .u8 0)), (.sc (.int .u8 0)), (.sc (.int .u8 0)), (.sc (.int .u8 0)), (.sc (.int .u8 0)), (.sc (.int .u8 0)), (.sc (.int .u8 0)), (.sc (.int .u8 0)), (.sc (.int .u8 0)), (.sc (.int .u8 0)), (.sc (.int .u8 0)), (.sc (.int .u8 0)), (.sc (.int .u8 0)), (.sc (.int .u8 0)), (.sc (.int .u8 0)), (.sc (.int .u8 0)), (.sc (.int .u8 0)), (.sc (.int .u8 0)), (.sc (.int .u8 0)), (.sc (.int .u32 0)), (.sc (.int .u32 0)), (.gs 1 [])]⟩,
   ⟨none, false, none, .store 35 (.tmp 6) (.tmp 42)⟩])
 (.seq (.seq (.reg [⟨(some 43), false, none, .fieldAddr 34 (.tmp 6)⟩,
   ⟨(some 44), false, none, .load false 1 (.tmp 43) false⟩,
   ⟨(some 45), false, none, .lenS (.tmp 44)⟩,
   ⟨(some 46), false, none, .bin .gtr (.tmp 45) (.const (.sc (.int .i64 32)))⟩])
 (.cond (.tmp 46)
 (.seq (.reg [⟨(some 2), false, none, .move (.const (.sc (.bool false))) false⟩])
 (.seq (.mask (bl 4 63) (bl 9186745105510301375 63))
 .ret))
 .skip))
 (.seq (.reg [⟨(some 47), false, none, .fieldAddr 34 (.tmp 6)⟩,
   ⟨(some 48), false, none, .load false 1 (.tmp 47) false⟩,
   ⟨(some 49), false, none, .lenS (.tmp 48)⟩,
   ⟨(some 50), false, none, .move (.const (.sc (.int .i64 0))) false⟩])
 (.block 4 (.loop (bl 1971286909648898 63) (bl 9187343239835811579 63)
 cbbbabaabbaabbbaa_tx_fits))))))
 cbbbabaabbb_tx_fits)))
def cbbabaa_tx_fits : CC := (.seq (.reg [⟨(some 23), false, none, .bin .lss (.tmp 22) (.tmp 21)⟩])
 (.seq (.cond (.tmp 23)
 .skip
 (.seq (.mask (bl 2 63) (bl 9223372032559808491 63))
 (.exit 0)))
 (.seq (.block 1 (.seq (.reg [⟨(some 24), false, none, .indexAddrS 2 (.tmp 20) (.tmp 22)⟩,
   ⟨(some 25), false, none, .load true 2 (.tmp 24) false⟩,
   ⟨(some 4), false, none, .alloc false [(.sc (.int .i64 0)), (.gs 1 [])]⟩,
   ⟨none, false, none, .store 2 (.tmp 4) (.tmp 25)⟩])
 (.seq (.reg [⟨(some 26), false, none, .fieldAddr 0 (.tmp 4)⟩,
   ⟨(some 27), false, none, .load false 1 (.tmp 26) false⟩,
   ⟨(some 28), false, none, .bin .lss (.tmp 27) (.const (.sc (.int .i64 0)))⟩,
   ⟨(some 29), false, none, .move (.tmp 28) false⟩,
   ⟨(some 30), false, (some (29, false)), .fieldAddr 1 (.tmp 4)⟩,
   ⟨(some 31), false, (some (29, false)), .load false 1 (.tmp 30) false⟩,
   ⟨(some 32), false, (some (29, false)), .lenS (.tmp 31)⟩,
   ⟨(some 33), false, (some (29, false)), .bin .gtr (.tmp 32) (.const (.sc (.int .i64 520)))⟩,
   ⟨(some 34), false, none, .pick (.tmp 29) (.const (.sc (.bool true))) (.tmp 33)⟩])
 (.cond (.tmp 34)
 (.seq (.reg [⟨(some 2), false, none, .move (.const (.sc (.bool false))) false⟩])
 (.seq (.mask (bl 4 63) (bl 9223372032559808495 63))
 .ret))
 .skip))))
 (.reg [⟨(some 35), false, none, .bin .add (.tmp 22) (.const (.sc (.int .i64 1)))⟩,
   ⟨(some 22), false, none, .move (.tmp 35) false⟩]))))
def cbbbb_tx_fits : CC := (.seq (.reg [⟨(some 59), false, none, .load true 4 (.tmp 1) false⟩,
   ⟨(some 60), false, none, .call 147 [((.tmp 59), true), ((.const (.sc (.bool true))), false)]⟩,
   ⟨(some 61), false, none, .lenS (.tmp 60)⟩,
   ⟨(some 62), false, none, .bin .leq (.tmp 61) (.const (.sc (.int .i64 20000)))⟩,
   ⟨(some 2), false, none, .move (.tmp 62) false⟩])
 .ret)
def cbbb_tx_fits : CC := (.seq (.seq (.reg [⟨(some 36), false, none, .fieldAddr 1 (.tmp 1)⟩,
   ⟨(some 37), false, none, .load false 1 (.tmp 36) false⟩,
   ⟨(some 38), false, none, .lenS (.tmp 37)⟩,
   ⟨(some 39), false, none, .move (.const (.sc (.int .i64 0))) false⟩])
 (.block 2 (.loop (bl 962072674306 63) (bl 9186745105510301371 63)
 cbbbabaa_tx_fits)))
 cbbbb_tx_fits)
def cf_tx_fits : CF := ⟨63, [.tmp 2],
 (.seq (.reg [⟨(some 1), false, none, .box false (.tmp 0)⟩,
   ⟨(some 2), false, none, .move (.const (.sc (.bool false))) false⟩])
 (.seq (.seq (.reg [⟨(some 9), false, none, .fieldAddr 1 (.tmp 1)⟩,
   ⟨(some 10), false, none, .load false 1 (.tmp 9) false⟩,
   ⟨(some 11), false, none, .lenS (.tmp 10)⟩,
   ⟨(some 12), false, none, .bin .gtr (.tmp 11) (.const (.sc (.int .i64 64)))⟩,
   ⟨(some 13), false, none, .move (.tmp 12) false⟩,
   ⟨(some 14), false, (some (13, false)), .fieldAddr 2 (.tmp 1)⟩,
   ⟨(some 15), false, (some (13, false)), .load false 1 (.tmp 14) false⟩,
   ⟨(some 16), false, (some (13, false)), .lenS (.tmp 15)⟩,
   ⟨(some 17), false, (some (13, false)), .bin .gtr (.tmp 16) (.const (.sc (.int .i64 64)))⟩,
   ⟨(some 18), false, none, .pick (.tmp 13) (.const (.sc (.bool true))) (.tmp 17)⟩])
 (.cond (.tmp 18)
 (.seq (.reg [⟨(some 2), false, none, .move (.const (.sc (.bool false))) false⟩])
 .ret)
 .skip))
 (.seq (.seq (.reg [⟨(some 19), false, none, .fieldAddr 2 (.tmp 1)⟩,
   ⟨(some 20), false, none, .load false 1 (.tmp 19) false⟩,
   ⟨(some 21), false, none, .lenS (.tmp 20)⟩,
   ⟨(some 22), false, none, .move (.const (.sc (.int .i64 0))) false⟩])
 (.block 0 (.loop (bl 7340034 63) (bl 9223372032559808491 63)
 cbbabaa_tx_fits)))
 cbbb_tx_fits)))⟩
def hint_tx_fits : Hint := ⟨[(16, 2), (17, 0)], [], [none, none, none, some ((bl 7340034 63), (bl 9223372032559808491 63)), none, some ((bl 2 63), (bl 9223372032559808491 63)), none, none, some ((bl 4 63), (bl 9223372032559808495 63)), none, some ((bl 962072674306 63), (bl 9186745105510301371 63)), none, some ((bl 2 63), (bl 9186745105510301371 63)), none, none, some ((bl 4 63), (bl 9186745105510301375 63)), none, some ((bl 1971286909648898 63), (bl 9187343239835811579 63)), none, some ((bl 962072674306 63), (bl 9187343239835811579 63)), none, none, some ((bl 4 63), (bl 9186745105510301375 63)), none], []⟩
def sh_tx_fits : Nat → Sh := shOf [(1, (.row [(.int .u32), (.sl 35), (.sl 2), (.int .u32)])), (25, (.row [(.int .i64), (.sl 1)])), (42, (.row [(.int .u8), (.int .u8), (.int .u8), (.int .u8), (.int .u8), (.int .u8), (.int .u8), (.int .u8), (.int .u8), (.int .u8), (.int .u8), (.int .u8), (.int .u8), (.int .u8), (.int .u8), (.int .u8), (.int .u8), (.int .u8), (.int .u8), (.int .u8), (.int .u8), (.int .u8), (.int .u8), (.int .u8), (.int .u8), (.int .u8), (.int .u8), (.int .u8), (.int .u8), (.int .u8), (.int .u8), (.int .u8), (.int .u32), (.int .u32), (.sl 1)])), (53, (.sl 1))]
def cb_tx_fits (F_tx_encode : T_tx_encode) (L : Nat) : CBC := (addC 147 (d_tx_encode F_tx_encode L) noC)
def mbbaba_tx_fits : St → St := mask (bl 7340034 63) (bl 9223372032559808491 63)
def mbbbaba_tx_fits : St → St := mask (bl 962072674306 63) (bl 9186745105510301371 63)
def mbbbabaabbaabbba_tx_fits : St → St := mask (bl 1971286909648898 63) (bl 9187343239835811579 63)
def st_hbbaba_tx_fits (p20 : List (List V)) (p21 : Int) (p22 : Int) (b1_0 : Int) (b1_1 : List (List V)) (b1_2 : List (List V)) (b1_3 : Int) : St := ⟨[.junk, (V.ptr 1 0), .junk, .junk, .junk, .junk, .junk, .junk, .junk, .junk, .junk, .junk, .junk, .junk, .junk, .junk, .junk, .junk, .junk, .junk, (V.sl 2 p20), (V.sc (.int .i64 p21)), (V.sc (.int .i64 p22)), .junk, .junk, .junk, .junk, .junk, .junk, .junk, .junk, .junk, .junk, .junk, .junk, .junk, .junk, .junk, .junk, .junk, .junk, .junk, .junk, .junk, .junk, .junk, .junk, .junk, .junk, .junk, .junk, .junk, .junk, .junk, .junk, .junk, .junk, .junk, .junk, .junk, .junk, .junk, .junk], [.gone, (.live false [(V.sc (.int .u32 b1_0)), (V.sl 35 b1_1), (V.sl 2 b1_2), (V.sc (.int .u32 b1_3))]), .gone, .gone, .gone, .gone, .gone, .gone, .gone, .gone, .gone, .gone, .gone, .gone, .gone, .gone, .gone, .gone, .gone, .gone, .gone, .gone, .gone, .gone, .gone, .gone, .gone, .gone, .gone, .gone, .gone, .gone, .gone, .gone, .gone, .gone, .gone, .gone, .gone, .gone, .gone, .gone, .gone, .gone, .gone, .gone, .gone, .gone, .gone, .gone, .gone, .gone, .gone, .gone, .gone, .gone, .gone, .gone, .gone, .gone, .gone, .gone, .gone]⟩
def st_ret_tx_fits (p2 : Bool) (b1_0 : Int) (b1_1 : List (List V)) (b1_2 : List (List V)) (b1_3 : Int) : St := ⟨[.junk, .junk, (V.sc (.bool p2)), .junk, .junk, .junk, .junk, .junk, .junk, .junk, .junk, .junk, .junk, .junk, .junk, .junk, .junk, .junk, .junk, .junk, .junk, .junk, .junk, .junk, .junk, .junk, .junk, .junk, .junk, .junk, .junk, .junk, .junk, .junk, .junk, .junk, .junk, .junk, .junk, .junk, .junk, .junk, .junk, .junk, .junk, .junk, .junk, .junk, .junk, .junk, .junk, .junk, .junk, .junk, .junk, .junk, .junk, .junk, .junk, .junk, .junk, .junk, .junk], [.gone, (.live false [(V.sc (.int .u32 b1_0)), (V.sl 35 b1_1), (V.sl 2 b1_2), (V.sc (.int .u32 b1_3))]), .gone, .gone, .gone, .gone, .gone, .gone, .gone, .gone, .gone, .gone, .gone, .gone, .gone, .gone, .gone, .gone, .gone, .gone, .gone, .gone, .gone, .gone, .gone, .gone, .gone, .gone, .gone, .gone, .gone, .gone, .gone, .gone, .gone, .gone, .gone, .gone, .gone, .gone, .gone, .gone, .gone, .gone, .gone, .gone, .gone, .gone, .gone, .gone, .gone, .gone, .gone, .gone, .gone, .gone, .gone, .gone, .gone, .gone, .gone, .gone, .gone]⟩
def st_x0_tx_fits (b1_0 : Int) (b1_1 : List (List V)) (b1_2 : List (List V)) (b1_3 : Int) : St := ⟨[.junk, (V.ptr 1 0), .junk, .junk, .junk, .junk, .junk, .junk, .junk, .junk, .junk, .junk, .junk, .junk, .junk, .junk, .junk, .junk, .junk, .junk, .junk, .junk, .junk, .junk, .junk, .junk, .junk, .junk, .junk, .junk, .junk, .junk, .junk, .junk, .junk, .junk, .junk, .junk, .junk, .junk, .junk, .junk, .junk, .junk, .junk, .junk, .junk, .junk, .junk, .junk, .junk, .junk, .junk, .junk, .junk, .junk, .junk, .junk, .junk, .junk, .junk, .junk, .junk], [.gone, (.live false [(V.sc (.int .u32 b1_0)), (V.sl 35 b1_1), (V.sl 2 b1_2), (V.sc (.int .u32 b1_3))]), .gone, .gone, .gone, .gone, .gone, .gone, .gone, .gone, .gone, .gone, .gone, .gone, .gone, .gone, .gone, .gone, .gone, .gone, .gone, .gone, .gone, .gone, .gone, .gone, .gone, .gone, .gone, .gone, .gone, .gone, .gone, .gone, .gone, .gone, .gone, .gone, .gone, .gone, .gone, .gone, .gone, .gone, .gone, .gone, .gone, .gone, .gone, .gone, .gone, .gone, .gone, .gone, .gone, .gone, .gone, .gone, .gone, .gone, .gone, .gone, .gone]⟩
def st_hbbbaba_tx_fits (p37 : List (List V)) (p38 : Int) (p39 : Int) (b1_0 : Int) (b1_1 : List (List V)) (b1_2 : List (List V)) (b1_3 : Int) : St := ⟨[.junk, (V.ptr 1 0), .junk, .junk, .junk, .junk, .junk, .junk, .junk, .junk, .junk, .junk, .junk, .junk, .junk, .junk, .junk, .junk, .junk, .junk, .junk, .junk, .junk, .junk, .junk, .junk, .junk, .junk, .junk, .junk, .junk, .junk, .junk, .junk, .junk, .junk, .junk, (V.sl 35 p37), (V.sc (.int .i64 p38)), (V.sc (.int .i64 p39)), .junk, .junk, .junk, .junk, .junk, .junk, .junk, .junk, .junk, .junk, .junk, .junk, .junk, .junk, .junk, .junk, .junk, .junk, .junk, .junk, .junk, .junk, .junk], [.gone, (.live false [(V.sc (.int .u32 b1_0)), (V.sl 35 b1_1), (V.sl 2 b1_2), (V.sc (.int .u32 b1_3))]), .gone, .gone, .gone, .gone, .gone, .gone, .gone, .gone, .gone, .gone, .gone, .gone, .gone, .gone, .gone, .gone, .gone, .gone, .gone, .gone, .gone, .gone, .gone, .gone, .gone, .gone, .gone, .gone, .gone, .gone, .gone, .gone, .gone, .gone, .gone, .gone, .gone, .gone, .gone, .gone, .gone, .gone, .gone, .gone, .gone, .gone, .gone, .gone, .gone, .gone, .gone, .gone, .gone, .gone, .gone, .gone, .gone, .gone, .gone, .gone, .gone]⟩
def st_hbbbabaabbaabbba_tx_fits (p37 : List (List V)) (p38 : Int) (p39 : Int) (p48 : List (List V)) (p49 : Int) (p50 : Int) (b1_0 : Int) (b1_1 : List (List V)) (b1_2 : List (List V)) (b1_3 : Int) (b6_0 : Int) (b6_1 : Int) (b6_2 : Int) (b6_3 : Int) (b6_4 : Int) (b6_5 : Int) (b6_6 : Int) (b6_7 : Int) (b6_8 : Int) (b6_9 : Int) (b6_10 : Int) (b6_11 : Int) (b6_12 : Int) (b6_13 : Int) (b6_14 : Int) (b6_15 : Int) (b6_16 : Int) (b6_17 : Int) (b6_18 : Int) (b6_19 : Int) (b6_20 : Int) (b6_21 : Int) (b6_22 : Int) (b6_23 : Int) (b6_24 : Int) (b6_25 : Int) (b6_26 : Int) (b6_27 : Int) (b6_28 : Int) (b6_29 : Int) (b6_30 : Int) (b6_31 : Int) (b6_32 : Int) (b6_33 : Int) (b6_34 : List (List V)) : St := ⟨[.junk, (V.ptr 1 0), .junk, .junk, .junk, .junk, .junk, .junk, .junk, .junk, .junk, .junk, .junk, .junk, .junk, .junk, .junk, .junk, .junk, .junk, .junk, .junk, .junk, .junk, .junk, .junk, .junk, .junk, .junk, .junk, .junk, .junk, .junk, .junk, .junk, .junk, .junk, (V.sl 35 p37), (V.sc (.int .i64 p38)), (V.sc (.int .i64 p39)), .junk, .junk, .junk, .junk, .junk, .junk, .junk, .junk, (V.sl 1 p48), (V.sc (.int .i64 p49)), (V.sc (.int .i64 p50)), .junk, .junk, .junk, .junk, .junk, .junk, .junk, .junk, .junk, .junk, .junk, .junk], [.gone, (.live false [(V.sc (.int .u32 b1_0)), (V.sl 35 b1_1), (V.sl 2 b1_2), (V.sc (.int .u32 b1_3))]), .gone, .gone, .gone, .gone, (.live false [(V.sc (.int .u8 b6_0)), (V.sc (.int .u8 b6_1)), (V.sc (.int .u8 b6_2)), (V.sc (.int .u8 b6_3)), (V.sc (.int .u8 b6_4)), (V.sc (.int .u8 b6_5)), (V.sc (.int .u8 b6_6)), (V.sc (.int .u8 b6_7)), (V.sc (.int .u8 b6_8)), (V.sc (.int .u8 b6_9)), (V.sc (.int .u8 b6_10)), (V.sc (.int .u8 b6_11)), (V.sc (.int .u8 b6_12)), (V.sc (.int .u8 b6_13)), (V.sc (.int .u8 b6_14)), (V.sc (.int .u8 b6_15)), (V.sc (.int .u8 b6_16)), (V.sc (.int .u8 b6_17)), (V.sc (.int .u8 b6_18)), (V.sc (.int .u8 b6_19)), (V.sc (.int .u8 b6_20)), (V.sc (.int .u8 b6_21)), (V.sc (.int .u8 b6_22)), (V.sc (.int .u8 b6_23)), (V.sc (.int .u8 b6_24)), (V.sc (.int .u8 b6_25)), (V.sc (.int .u8 b6_26)), (V.sc (.int .u8 b6_27)), (V.sc (.int .u8 b6_28)), (V.sc (.int .u8 b6_29)), (V.sc (.int .u8 b6_30)), (V.sc (.int .u8 b6_31)), (V.sc (.int .u32 b6_32)), (V.sc (.int .u32 b6_33)), (V.sl 1 b6_34)]), .gone, .gone, .gone, .gone, .gone, .gone, .gone, .gone, .gone, .gone, .gone, .gone, .gone, .gone, .gone, .gone, .gone, .gone, .gone, .gone, .gone, .gone, .gone, .gone, .gone, .gone, .gone, .gone, .gone, .gone, .gone, .gone, .gone, .gone, .gone, .gone, .gone, .gone, .gone, .gone, .gone, .gone, .gone, .gone, .gone, .gone, .gone, .gone, .gone, .gone, .gone, .gone, .gone, .gone, .gone, .gone]⟩
def st_x2_tx_fits (b1_0 : Int) (b1_1 : List (List V)) (b1_2 : List (List V)) (b1_3 : Int) : St := ⟨[.junk, (V.ptr 1 0), .junk, .junk, .junk, .junk, .junk, .junk, .junk, .junk, .junk, .junk, .junk, .junk, .junk, .junk, .junk, .junk, .junk, .junk, .junk, .junk, .junk, .junk, .junk, .junk, .junk, .junk, .junk, .junk, .junk, .junk, .junk, .junk, .junk, .junk, .junk, .junk, .junk, .junk, .junk, .junk, .junk, .junk, .junk, .junk, .junk, .junk, .junk, .junk, .junk, .junk, .junk, .junk, .junk, .junk, .junk, .junk, .junk, .junk, .junk, .junk, .junk], [.gone, (.live false [(V.sc (.int .u32 b1_0)), (V.sl 35 b1_1), (V.sl 2 b1_2), (V.sc (.int .u32 b1_3))]), .gone, .gone, .gone, .gone, .gone, .gone, .gone, .gone, .gone, .gone, .gone, .gone, .gone, .gone, .gone, .gone, .gone, .gone, .gone, .gone, .gone, .gone, .gone, .gone, .gone, .gone, .gone, .gone, .gone, .gone, .gone, .gone, .gone, .gone, .gone, .gone, .gone, .gone, .gone, .gone, .gone, .gone, .gone, .gone, .gone, .gone, .gone, .gone, .gone, .gone, .gone, .gone, .gone, .gone, .gone, .gone, .gone, .gone, .gone, .gone, .gone]⟩
def st_x4_tx_fits (p37 : List (List V)) (p38 : Int) (p39 : Int) (b1_0 : Int) (b1_1 : List (List V)) (b1_2 : List (List V)) (b1_3 : Int) (b6_0 : Int) (b6_1 : Int) (b6_2 : Int) (b6_3 : Int) (b6_4 : Int) (b6_5 : Int) (b6_6 : Int) (b6_7 : Int) (b6_8 : Int) (b6_9 : Int) (b6_10 : Int) (b6_11 : Int) (b6_12 : Int) (b6_13 : Int) (b6_14 : Int) (b6_15 : Int) (b6_16 : Int) (b6_17 : Int) (b6_18 : Int) (b6_19 : Int) (b6_20 : Int) (b6_21 : Int) (b6_22 : Int) (b6_23 : Int) (b6_24 : Int) (b6_25 : Int) (b6_26 : Int) (b6_27 : Int) (b6_28 : Int) (b6_29 : Int) (b6_30 : Int) (b6_31 : Int) (b6_32 : Int) (b6_33 : Int) (b6_34 : List (List V)) : St := ⟨[.junk, (V.ptr 1 0), .junk, .junk, .junk, .junk, .junk, .junk, .junk, .junk, .junk, .junk, .junk, .junk, .junk, .junk, .junk, .junk, .junk, .junk, .junk, .junk, .junk, .junk, .junk, .junk, .junk, .junk, .junk, .junk, .junk, .junk, .junk, .junk, .junk, .junk, .junk, (V.sl 35 p37), (V.sc (.int .i64 p38)), (V.sc (.int .i64 p39)), .junk, .junk, .junk, .junk, .junk, .junk, .junk, .junk, .junk, .junk, .junk, .junk, .junk, .junk, .junk, .junk, .junk, .junk, .junk, .junk, .junk, .junk, .junk], [.gone, (.live false [(V.sc (.int .u32 b1_0)), (V.sl 35 b1_1), (V.sl 2 b1_2), (V.sc (.int .u32 b1_3))]), .gone, .gone, .gone, .gone, (.live false [(V.sc (.int .u8 b6_0)), (V.sc (.int .u8 b6_1)), (V.sc (.int .u8 b6_2)), (V.sc (.int .u8 b6_3)), (V.sc (.int .u8 b6_4)), (V.sc (.int .u8 b6_5)), (V.sc (.int .u8 b6_6)), (V.sc (.int .u8 b6_7)), (V.sc (.int .u8 b6_8)), (V.sc (.int .u8 b6_9)), (V.sc (.int .u8 b6_10)), (V.sc (.int .u8 b6_11)), (V.sc (.int .u8 b6_12)), (V.sc (.int .u8 b6_13)), (V.sc (.int .u8 b6_14)), (V.sc (.int .u8 b6_15)), (V.sc (.int .u8 b6_16)), (V.sc (.int .u8 b6_17)), (V.sc (.int .u8 b6_18)), (V.sc (.int .u8 b6_19)), (V.sc (.int .u8 b6_20)), (V.sc (.int .u8 b6_21)), (V.sc (.int .u8 b6_22)), (V.sc (.int .u8 b6_23)), (V.sc (.int .u8 b6_24)), (V.sc (.int .u8 b6_25)), (V.sc (.int .u8 b6_26)), (V.sc (.int .u8 b6_27)), (V.sc (.int .u8 b6_28)), (V.sc (.int .u8 b6_29)), (V.sc (.int .u8 b6_30)), (V.sc (.int .u8 b6_31)), (V.sc (.int .u32 b6_32)), (V.sc (.int .u32 b6_33)), (V.sl 1 b6_34)]), .gone, .gone, .gone, .gone, .gone, .gone, .gone, .gone, .gone, .gone, .gone, .gone, .gone, .gone, .gone, .gone, .gone, .gone, .gone, .gone, .gone, .gone, .gone, .gone, .gone, .gone, .gone, .gone, .gone, .gone, .gone, .gone, .gone, .gone, .gone, .gone, .gone, .gone, .gone, .gone, .gone, .gone, .gone, .gone, .gone, .gone, .gone, .gone, .gone, .gone, .gone, .gone, .gone, .gone, .gone, .gone]⟩
def e_tx_fits {β : Type} (F_tx_encode : T_tx_encode) (L : Nat) (p0 : List V) (k_fin : Bool → Option β) (k_hbbaba : List (List V) → Int → Int → Int → List (List V) → List (List V) → Int → Option β) : Option β :=
 chk (List.length p0 = 4) (
 cI .u32 p0 0 fun v0 =>
 cL 35 p0 1 fun v1 =>
 cL 2 p0 2 fun v2 =>
 cI .u32 p0 3 fun v3 =>
 ifb (decide (((List.length v1 : Nat) : Int) > (64 : Int))) (
 k_fin false) (
 ifb (decide (((List.length v2 : Nat) : Int) > (64 : Int))) (
 k_fin false) (
 k_hbbaba v2 ((List.length v2 : Nat) : Int) (0 : Int) v0 v1 v2 v3)))
theorem e_tx_fits_ok {β : Type} (F_tx_encode : T_tx_encode) (L : Nat) (p0 : List V) (k : V → Bor → Option β) : funC sh_tx_fits (cb_tx_fits F_tx_encode L) L cf_tx_fits [(V.agg p0)] [] k = e_tx_fits F_tx_encode L p0 (fun p0 => k (V.sc (.bool p0)) []) (fun p20 p21 p22 b1_0 b1_1 b1_2 b1_3 => loopM (runC sh_tx_fits (cb_tx_fits F_tx_encode L) 0 L cbbabaa_tx_fits) mbbaba_tx_fits L (st_hbbaba_tx_fits p20 p21 p22 b1_0 b1_1 b1_2 b1_3) (blockK 0 (seqK (runC sh_tx_fits (cb_tx_fits F_tx_encode L) 0 L cbbb_tx_fits) (finK 0 (CF.res cf_tx_fits) k)))) := by kernel_rfl
def bbbaba_tx_fits {β : Type} (F_tx_encode : T_tx_encode) (L : Nat) (p20 : List (List V)) (p21 : Int) (p22 : Int) (b1_0 : Int) (b1_1 : List (List V)) (b1_2 : List (List V)) (b1_3 : Int) (k_ret : Bool → Int → List (List V) → List (List V) → Int → Option β) (k_hbbaba : List (List V) → Int → Int → Int → List (List V) → List (List V) → Int → Option β) (k_x0 : Int → List (List V) → List (List V) → Int → Option β) : Option β :=
 ifb (decide (p22 < p21)) (
 idx p20 p22 fun c4 =>
 chk (List.length (List.take 2 c4) = 2) (
 cI .i64 (List.take 2 c4) 0 fun v5 =>
 cL 1 (List.take 2 c4) 1 fun v6 =>
 ifb (decide (v5 < (0 : Int))) (
 k_ret false b1_0 b1_1 b1_2 b1_3) (
 ifb (decide (((List.length v6 : Nat) : Int) > (520 : Int))) (
 k_ret false b1_0 b1_1 b1_2 b1_3) (
 lt (IntKind.wrap .i64 ((p22 : Int) + (1 : Int))) fun x7 =>
 k_hbbaba p20 p21 x7 b1_0 b1_1 b1_2 b1_3)))) (
 k_x0 b1_0 b1_1 b1_2 b1_3)
theorem bbbaba_tx_fits_ok {β : Type} (F_tx_encode : T_tx_encode) (L : Nat) (p20 : List (List V)) (p21 : Int) (p22 : Int) (b1_0 : Int) (b1_1 : List (List V)) (b1_2 : List (List V)) (b1_3 : Int) (X : St → Option β) (K : KT β) : runC sh_tx_fits (cb_tx_fits F_tx_encode L) 0 L cbbabaa_tx_fits (st_hbbaba_tx_fits p20 p21 p22 b1_0 b1_1 b1_2 b1_3) (loopK mbbaba_tx_fits X K) = bbbaba_tx_fits F_tx_encode L p20 p21 p22 b1_0 b1_1 b1_2 b1_3 (fun p2 b1_0 b1_1 b1_2 b1_3 => K .ret (st_ret_tx_fits p2 b1_0 b1_1 b1_2 b1_3)) (fun p20 p21 p22 b1_0 b1_1 b1_2 b1_3 => X (st_hbbaba_tx_fits p20 p21 p22 b1_0 b1_1 b1_2 b1_3)) (fun b1_0 b1_1 b1_2 b1_3 => K (.exit 0) (st_x0_tx_fits b1_0 b1_1 b1_2 b1_3)) := by kernel_rfl
def rbbabaret_tx_fits {β : Type} (F_tx_encode : T_tx_encode) (L : Nat) (p2 : Bool) (b1_0 : Int) (b1_1 : List (List V)) (b1_2 : List (List V)) (b1_3 : Int) (k_fin : Bool → Option β) : Option β :=
 k_fin p2
theorem rbbabaret_tx_fits_ok {β : Type} (F_tx_encode : T_tx_encode) (L : Nat) (p2 : Bool) (b1_0 : Int) (b1_1 : List (List V)) (b1_2 : List (List V)) (b1_3 : Int) (k : V → Bor → Option β) : (blockK 0 (seqK (runC sh_tx_fits (cb_tx_fits F_tx_encode L) 0 L cbbb_tx_fits) (finK 0 (CF.res cf_tx_fits) k))) .ret (st_ret_tx_fits p2 b1_0 b1_1 b1_2 b1_3) = rbbabaret_tx_fits F_tx_encode L p2 b1_0 b1_1 b1_2 b1_3 (fun p0 => k (V.sc (.bool p0)) []) := by kernel_rfl
def rbbabax0_tx_fits {β : Type} (F_tx_encode : T_tx_encode) (L : Nat) (b1_0 : Int) (b1_1 : List (List V)) (b1_2 : List (List V)) (b1_3 : Int) (k_hbbbaba : List (List V) → Int → Int → Int → List (List V) → List (List V) → Int → Option β) : Option β :=
 k_hbbbaba b1_1 ((List.length b1_1 : Nat) : Int) (0 : Int) b1_0 b1_1 b1_2 b1_3
theorem rbbabax0_tx_fits_ok {β : Type} (F_tx_encode : T_tx_encode) (L : Nat) (b1_0 : Int) (b1_1 : List (List V)) (b1_2 : List (List V)) (b1_3 : Int) (k : V → Bor → Option β) : (blockK 0 (seqK (runC sh_tx_fits (cb_tx_fits F_tx_encode L) 0 L cbbb_tx_fits) (finK 0 (CF.res cf_tx_fits) k))) (.exit 0) (st_x0_tx_fits b1_0 b1_1 b1_2 b1_3) = rbbabax0_tx_fits F_tx_encode L b1_0 b1_1 b1_2 b1_3 (fun p37 p38 p39 b1_0 b1_1 b1_2 b1_3 => loopM (runC sh_tx_fits (cb_tx_fits F_tx_encode L) 0 L cbbbabaa_tx_fits) mbbbaba_tx_fits L (st_hbbbaba_tx_fits p37 p38 p39 b1_0 b1_1 b1_2 b1_3) (blockK 2 (seqK (runC sh_tx_fits (cb_tx_fits F_tx_encode L) 0 L cbbbb_tx_fits) (finK 0 (CF.res cf_tx_fits) k)))) := by kernel_rfl
def bbbbaba_tx_fits {β : Type} (F_tx_encode : T_tx_encode) (L : Nat) (p37 : List (List V)) (p38 : Int) (p39 : Int) (b1_0 : Int) (b1_1 : List (List V)) (b1_2 : List (List V)) (b1_3 : Int) (k_ret : Bool → Int → List (List V) → List (List V) → Int → Option β) (k_hbbbabaabbaabbba : List (List V) → Int → Int → List (List V) → Int → Int → Int → List (List V) → List (List V) → Int → Int → Int → Int → Int → Int → Int → Int → Int → Int → Int → Int → Int → Int → Int → Int → Int → Int → Int → Int → Int → Int → Int → Int → Int → Int → Int → Int → Int → Int → Int → Int → Int → Int → Int → List (List V) → Option β) (k_x2 : Int → List (List V) → List (List V) → Int → Option β) : Option β :=
 ifb (decide (p39 < p38)) (
 idx p37 p39 fun c8 =>
 chk (List.length (List.take 35 c8) = 35) (
 cI .u8 (List.take 35 c8) 0 fun v9 =>
 cI .u8 (List.take 35 c8) 1 fun v10 =>
 cI .u8 (List.take 35 c8) 2 fun v11 =>
 cI .u8 (List.take 35 c8) 3 fun v12 =>
 cI .u8 (List.take 35 c8) 4 fun v13 =>
 cI .u8 (List.take 35 c8) 5 fun v14 =>
 cI .u8 (List.take 35 c8) 6 fun v15 =>
 cI .u8 (List.take 35 c8) 7 fun v16 =>
 cI .u8 (List.take 35 c8) 8 fun v17 =>
 cI .u8 (List.take 35 c8) 9 fun v18 =>
 cI .u8 (List.take 35 c8) 10 fun v19 =>
 cI .u8 (List.take 35 c8) 11 fun v20 =>
 cI .u8 (List.take 35 c8) 12 fun v21 =>
 cI .u8 (List.take 35 c8) 13 fun v22 =>
 cI .u8 (List.take 35 c8) 14 fun v23 =>
 cI .u8 (List.take 35 c8) 15 fun v24 =>
 cI .u8 (List.take 35 c8) 16 fun v25 =>
 cI .u8 (List.take 35 c8) 17 fun v26 =>
 cI .u8 (List.take 35 c8) 18 fun v27 =>
 cI .u8 (List.take 35 c8) 19 fun v28 =>
 cI .u8 (List.take 35 c8) 20 fun v29 =>
 cI .u8 (List.take 35 c8) 21 fun v30 =>
 cI .u8 (List.take 35 c8) 22 fun v31 =>
 cI .u8 (List.take 35 c8) 23 fun v32 =>
 cI .u8 (List.take 35 c8) 24 fun v33 =>
 cI .u8 (List.take 35 c8) 25 fun v34 =>
 cI .u8 (List.take 35 c8) 26 fun v35 =>
 cI .u8 (List.take 35 c8) 27 fun v36 =>
 cI .u8 (List.take 35 c8) 28 fun v37 =>
 cI .u8 (List.take 35 c8) 29 fun v38 =>
 cI .u8 (List.take 35 c8) 30 fun v39 =>
 cI .u8 (List.take 35 c8) 31 fun v40 =>
 cI .u32 (List.take 35 c8) 32 fun v41 =>
 cI .u32 (List.take 35 c8) 33 fun v42 =>
 cL 1 (List.take 35 c8) 34 fun v43 =>
 ifb (decide (((List.length v43 : Nat) : Int) > (32 : Int))) (
 k_ret false b1_0 b1_1 b1_2 b1_3) (
 k_hbbbabaabbaabbba p37 p38 p39 v43 ((List.length v43 : Nat) : Int) (0 : Int) b1_0 b1_1 b1_2 b1_3 v9 v10 v11 v12 v13 v14 v15 v16 v17 v18 v19 v20 v21 v22 v23 v24 v25 v26 v27 v28 v29 v30 v31 v32 v33 v34 v35 v36 v37 v38 v39 v40 v41 v42 v43))) (
 k_x2 b1_0 b1_1 b1_2 b1_3)
theorem bbbbaba_tx_fits_ok {β : Type} (F_tx_encode : T_tx_encode) (L : Nat) (p37 : List (List V)) (p38 : Int) (p39 : Int) (b1_0 : Int) (b1_1 : List (List V)) (b1_2 : List (List V)) (b1_3 : Int) (X : St → Option β) (K : KT β) : runC sh_tx_fits (cb_tx_fits F_tx_encode L) 0 L cbbbabaa_tx_fits (st_hbbbaba_tx_fits p37 p38 p39 b1_0 b1_1 b1_2 b1_3) (loopK mbbbaba_tx_fits X K) = bbbbaba_tx_fits F_tx_encode L p37 p38 p39 b1_0 b1_1 b1_2 b1_3 (fun p2 b1_0 b1_1 b1_2 b1_3 => K .ret (st_ret_tx_fits p2 b1_0 b1_1 b1_2 b1_3)) (fun p37 p38 p39 p48 p49 p50 b1_0 b1_1 b1_2 b1_3 b6_0 b6_1 b6_2 b6_3 b6_4 b6_5 b6_6 b6_7 b6_8 b6_9 b6_10 b6_11 b6_12 b6_13 b6_14 b6_15 b6_16 b6_17 b6_18 b6_19 b6_20 b6_21 b6_22 b6_23 b6_24 b6_25 b6_26 b6_27 b6_28 b6_29 b6_30 b6_31 b6_32 b6_33 b6_34 => loopM (runC sh_tx_fits (cb_tx_fits F_tx_encode L) 0 L cbbbabaabbaabbbaa_tx_fits) mbbbabaabbaabbba_tx_fits L (st_hbbbabaabbaabbba_tx_fits p37 p38 p39 p48 p49 p50 b1_0 b1_1 b1_2 b1_3 b6_0 b6_1 b6_2 b6_3 b6_4 b6_5 b6_6 b6_7 b6_8 b6_9 b6_10 b6_11 b6_12 b6_13 b6_14 b6_15 b6_16 b6_17 b6_18 b6_19 b6_20 b6_21 b6_22 b6_23 b6_24 b6_25 b6_26 b6_27 b6_28 b6_29 b6_30 b6_31 b6_32 b6_33 b6_34) (blockK 4 (blockK 3 (seqK (runC sh_tx_fits (cb_tx_fits F_tx_encode L) 0 L cbbbabaabbb_tx_fits) (loopK mbbbaba_tx_fits X K))))) (fun b1_0 b1_1 b1_2 b1_3 => K (.exit 2) (st_x2_tx_fits b1_0 b1_1 b1_2 b1_3)) := by kernel_rfl
def rbbbabaret_tx_fits {β : Type} (F_tx_encode : T_tx_encode) (L : Nat) (p2 : Bool) (b1_0 : Int) (b1_1 : List (List V)) (b1_2 : List (List V)) (b1_3 : Int) (k_fin : Bool → Option β) : Option β :=
 k_fin p2
theorem rbbbabaret_tx_fits_ok {β : Type} (F_tx_encode : T_tx_encode) (L : Nat) (p2 : Bool) (b1_0 : Int) (b1_1 : List (List V)) (b1_2 : List (List V)) (b1_3 : Int) (k : V → Bor → Option β) : (blockK 2 (seqK (runC sh_tx_fits (cb_tx_fits F_tx_encode L) 0 L cbbbb_tx_fits) (finK 0 (CF.res cf_tx_fits) k))) .ret (st_ret_tx_fits p2 b1_0 b1_1 b1_2 b1_3) = rbbbabaret_tx_fits F_tx_encode L p2 b1_0 b1_1 b1_2 b1_3 (fun p0 => k (V.sc (.bool p0)) []) := by kernel_rfl
def rbbbabax2_tx_fits {β : Type} (F_tx_encode : T_tx_encode) (L : Nat) (b1_0 : Int) (b1_1 : List (List V)) (b1_2 : List (List V)) (b1_3 : Int) (k_fin : Bool → Option β) : Option β :=
 F_tx_encode β L [(V.sc (.int .u32 b1_0)), (V.sl 35 b1_1), (V.sl 2 b1_2), (V.sc (.int .u32 b1_3))] true (fun v44 =>
 k_fin (decide (((List.length v44 : Nat) : Int) ≤ (20000 : Int))))
theorem rbbbabax2_tx_fits_ok {β : Type} (F_tx_encode : T_tx_encode) (L : Nat) (b1_0 : Int) (b1_1 : List (List V)) (b1_2 : List (List V)) (b1_3 : Int) (k : V → Bor → Option β) : (blockK 2 (seqK (runC sh_tx_fits (cb_tx_fits F_tx_encode L) 0 L cbbbb_tx_fits) (finK 0 (CF.res cf_tx_fits) k))) (.exit 2) (st_x2_tx_fits b1_0 b1_1 b1_2 b1_3) = rbbbabax2_tx_fits F_tx_encode L b1_0 b1_1 b1_2 b1_3 (fun p0 => k (V.sc (.bool p0)) []) := by kernel_rfl
def bbbbabaabbaabbba_tx_fits {β : Type} (F_tx_encode : T_tx_encode) (L : Nat) (p37 : List (List V)) (p38 : Int) (p39 : Int) (p48 : List (List V)) (p49 : Int) (p50 : Int) (b1_0 : Int) (b1_1 : List (List V)) (b1_2 : List (List V)) (b1_3 : Int) (b6_0 : Int) (b6_1 : Int) (b6_2 : Int) (b6_3 : Int) (b6_4 : Int) (b6_5 : Int) (b6_6 : Int) (b6_7 : Int) (b6_8 : Int) (b6_9 : Int) (b6_10 : Int) (b6_11 : Int) (b6_12 : Int) (b6_13 : Int) (b6_14 : Int) (b6_15 : Int) (b6_16 : Int) (b6_17 : Int) (b6_18 : Int) (b6_19 : Int) (b6_20 : Int) (b6_21 : Int) (b6_22 : Int) (b6_23 : Int) (b6_24 : Int) (b6_25 : Int) (b6_26 : Int) (b6_27 : Int) (b6_28 : Int) (b6_29 : Int) (b6_30 : Int) (b6_31 : Int) (b6_32 : Int) (b6_33 : Int) (b6_34 : List (List V)) (k_ret : Bool → Int → List (List V) → List (List V) → Int → Option β) (k_hbbbabaabbaabbba : List (List V) → Int → Int → List (List V) → Int → Int → Int → List (List V) → List (List V) → Int → Int → Int → Int → Int → Int → Int → Int → Int → Int → Int → Int → Int → Int → Int → Int → Int → Int → Int → Int → Int → Int → Int → Int → Int → Int → Int → Int → Int → Int → Int → Int → Int → Int → Int → List (List V) → Option β) (k_x4 : List (List V) → Int → Int → Int → List (List V) → List (List V) → Int → Int → Int → Int → Int → Int → Int → Int → Int → Int → Int → Int → Int → Int → Int → Int → Int → Int → Int → Int → Int → Int → Int → Int → Int → Int → Int → Int → Int → Int → Int → Int → Int → Int → Int → List (List V) → Option β) : Option β :=
 ifb (decide (p50 < p49)) (
 idx p48 p50 fun c45 =>
 cL 1 c45 0 fun v46 =>
 ifb (decide (((List.length v46 : Nat) : Int) > (520 : Int))) (
 k_ret false b1_0 b1_1 b1_2 b1_3) (
 lt (IntKind.wrap .i64 ((p50 : Int) + (1 : Int))) fun x47 =>
 k_hbbbabaabbaabbba p37 p38 p39 p48 p49 x47 b1_0 b1_1 b1_2 b1_3 b6_0 b6_1 b6_2 b6_3 b6_4 b6_5 b6_6 b6_7 b6_8 b6_9 b6_10 b6_11 b6_12 b6_13 b6_14 b6_15 b6_16 b6_17 b6_18 b6_19 b6_20 b6_21 b6_22 b6_23 b6_24 b6_25 b6_26 b6_27 b6_28 b6_29 b6_30 b6_31 b6_32 b6_33 b6_34)) (
 k_x4 p37 p38 p39 b1_0 b1_1 b1_2 b1_3 b6_0 b6_1 b6_2 b6_3 b6_4 b6_5 b6_6 b6_7 b6_8 b6_9 b6_10 b6_11 b6_12 b6_13 b6_14 b6_15 b6_16 b6_17 b6_18 b6_19 b6_20 b6_21 b6_22 b6_23 b6_24 b6_25 b6_26 b6_27 b6_28 b6_29 b6_30 b6_31 b6_32 b6_33 b6_34)
theorem bbbbabaabbaabbba_tx_fits_ok {β : Type} (F_tx_encode : T_tx_encode) (L : Nat) (p37 : List (List V)) (p38 : Int) (p39 : Int) (p48 : List (List V)) (p49 : Int) (p50 : Int) (b1_0 : Int) (b1_1 : List (List V)) (b1_2 : List (List V)) (b1_3 : Int) (b6_0 : Int) (b6_1 : Int) (b6_2 : Int) (b6_3 : Int) (b6_4 : Int) (b6_5 : Int) (b6_6 : Int) (b6_7 : Int) (b6_8 : Int) (b6_9 : Int) (b6_10 : Int) (b6_11 : Int) (b6_12 : Int) (b6_13 : Int) (b6_14 : Int) (b6_15 : Int) (b6_16 : Int) (b6_17 : Int) (b6_18 : Int) (b6_19 : Int) (b6_20 : Int) (b6_21 : Int) (b6_22 : Int) (b6_23 : Int) (b6_24 : Int) (b6_25 : Int) (b6_26 : Int) (b6_27 : Int) (b6_28 : Int) (b6_29 : Int) (b6_30 : Int) (b6_31 : Int) (b6_32 : Int) (b6_33 : Int) (b6_34 : List (List V)) (X : St → Option β) (K : KT β) : runC sh_tx_fits (cb_tx_fits F_tx_encode L) 0 L cbbbabaabbaabbbaa_tx_fits (st_hbbbabaabbaabbba_tx_fits p37 p38 p39 p48 p49 p50 b1_0 b1_1 b1_2 b1_3 b6_0 b6_1 b6_2 b6_3 b6_4 b6_5 b6_6 b6_7 b6_8 b6_9 b6_10 b6_11 b6_12 b6_13 b6_14 b6_15 b6_16 b6_17 b6_18 b6_19 b6_20 b6_21 b6_22 b6_23 b6_24 b6_25 b6_26 b6_27 b6_28 b6_29 b6_30 b6_31 b6_32 b6_33 b6_34) (loopK mbbbabaabbaabbba_tx_fits X K) = bbbbabaabbaabbba_tx_fits F_tx_encode L p37 p38 p39 p48 p49 p50 b1_0 b1_1 b1_2 b1_3 b6_0 b6_1 b6_2 b6_3 b6_4 b6_5 b6_6 b6_7 b6_8 b6_9 b6_10 b6_11 b6_12 b6_13 b6_14 b6_15 b6_16 b6_17 b6_18 b6_19 b6_20 b6_21 b6_22 b6_23 b6_24 b6_25 b6_26 b6_27 b6_28 b6_29 b6_30 b6_31 b6_32 b6_33 b6_34 (fun p2 b1_0 b1_1 b1_2 b1_3 => K .ret (st_ret_tx_fits p2 b1_0 b1_1 b1_2 b1_3)) (fun p37 p38 p39 p48 p49 p50 b1_0 b1_1 b1_2 b1_3 b6_0 b6_1 b6_2 b6_3 b6_4 b6_5 b6_6 b6_7 b6_8 b6_9 b6_10 b6_11 b6_12 b6_13 b6_14 b6_15 b6_16 b6_17 b6_18 b6_19 b6_20 b6_21 b6_22 b6_23 b6_24 b6_25 b6_26 b6_27 b6_28 b6_29 b6_30 b6_31 b6_32 b6_33 b6_34 => X (st_hbbbabaabbaabbba_tx_fits p37 p38 p39 p48 p49 p50 b1_0 b1_1 b1_2 b1_3 b6_0 b6_1 b6_2 b6_3 b6_4 b6_5 b6_6 b6_7 b6_8 b6_9 b6_10 b6_11 b6_12 b6_13 b6_14 b6_15 b6_16 b6_17 b6_18 b6_19 b6_20 b6_21 b6_22 b6_23 b6_24 b6_25 b6_26 b6_27 b6_28 b6_29 b6_30 b6_31 b6_32 b6_33 b6_34)) (fun p37 p38 p39 b1_0 b1_1 b1_2 b1_3 b6_0 b6_1 b6_2 b6_3 b6_4 b6_5 b6_6 b6_7 b6_8 b6_9 b6_10 b6_11 b6_12 b6_13 b6_14 b6_15 b6_16 b6_17 b6_18 b6_19 b6_20 b6_21 b6_22 b6_23 b6_24 b6_25 b6_26 b6_27 b6_28 b6_29 b6_30 b6_31 b6_32 b6_33 b6_34 => K (.exit 4) (st_x4_tx_fits p37 p38 p39 b1_0 b1_1 b1_2 b1_3 b6_0 b6_1 b6_2 b6_3 b6_4 b6_5 b6_6 b6_7 b6_8 b6_9 b6_10 b6_11 b6_12 b6_13 b6_14 b6_15 b6_16 b6_17 b6_18 b6_19 b6_20 b6_21 b6_22 b6_23 b6_24 b6_25 b6_26 b6_27 b6_28 b6_29 b6_30 b6_31 b6_32 b6_33 b6_34)) := by kernel_rfl
def rbbbabaabbaabbbaret_tx_fits {β : Type} (F_tx_encode : T_tx_encode) (L : Nat) (p2 : Bool) (b1_0 : Int) (b1_1 : List (List V)) (b1_2 : List (List V)) (b1_3 : Int) (k_ret : Bool → Int → List (List V) → List (List V) → Int → Option β) : Option β :=
 k_ret p2 b1_0 b1_1 b1_2 b1_3
theorem rbbbabaabbaabbbaret_tx_fits_ok {β : Type} (F_tx_encode : T_tx_encode) (L : Nat) (p2 : Bool) (b1_0 : Int) (b1_1 : List (List V)) (b1_2 : List (List V)) (b1_3 : Int) (X : St → Option β) (K : KT β) : (blockK 4 (blockK 3 (seqK (runC sh_tx_fits (cb_tx_fits F_tx_encode L) 0 L cbbbabaabbb_tx_fits) (loopK mbbbaba_tx_fits X K)))) .ret (st_ret_tx_fits p2 b1_0 b1_1 b1_2 b1_3) = rbbbabaabbaabbbaret_tx_fits F_tx_encode L p2 b1_0 b1_1 b1_2 b1_3 (fun p2 b1_0 b1_1 b1_2 b1_3 => K .ret (st_ret_tx_fits p2 b1_0 b1_1 b1_2 b1_3)) := by kernel_rfl
def rbbbabaabbaabbbax4_tx_fits {β : Type} (F_tx_encode : T_tx_encode) (L : Nat) (p37 : List (List V)) (p38 : Int) (p39 : Int) (b1_0 : Int) (b1_1 : List (List V)) (b1_2 : List (List V)) (b1_3 : Int) (b6_0 : Int) (b6_1 : Int) (b6_2 : Int) (b6_3 : Int) (b6_4 : Int) (b6_5 : Int) (b6_6 : Int) (b6_7 : Int) (b6_8 : Int) (b6_9 : Int) (b6_10 : Int) (b6_11 : Int) (b6_12 : Int) (b6_13 : Int) (b6_14 : Int) (b6_15 : Int) (b6_16 : Int) (b6_17 : Int) (b6_18 : Int) (b6_19 : Int) (b6_20 : Int) (b6_21 : Int) (b6_22 : Int) (b6_23 : Int) (b6_24 : Int) (b6_25 : Int) (b6_26 : Int) (b6_27 : Int) (b6_28 : Int) (b6_29 : Int) (b6_30 : Int) (b6_31 : Int) (b6_32 : Int) (b6_33 : Int) (b6_34 : List (List V)) (k_hbbbaba : List (List V) → Int → Int → Int → List (List V) → List (List V) → Int → Option β) : Option β :=
 lt (IntKind.wrap .i64 ((p39 : Int) + (1 : Int))) fun x48 =>
 k_hbbbaba p37 p38 x48 b1_0 b1_1 b1_2 b1_3
theorem rbbbabaabbaabbbax4_tx_fits_ok {β : Type} (F_tx_encode : T_tx_encode) (L : Nat) (p37 : List (List V)) (p38 : Int) (p39 : Int) (b1_0 : Int) (b1_1 : List (List V)) (b1_2 : List (List V)) (b1_3 : Int) (b6_0 : Int) (b6_1 : Int) (b6_2 : Int) (b6_3 : Int) (b6_4 : Int) (b6_5 : Int) (b6_6 : Int) (b6_7 : Int) (b6_8 : Int) (b6_9 : Int) (b6_10 : Int) (b6_11 : Int) (b6_12 : Int) (b6_13 : Int) (b6_14 : Int) (b6_15 : Int) (b6_16 : Int) (b6_17 : Int) (b6_18 : Int) (b6_19 : Int) (b6_20 : Int) (b6_21 : Int) (b6_22 : Int) (b6_23 : Int) (b6_24 : Int) (b6_25 : Int) (b6_26 : Int) (b6_27 : Int) (b6_28 : Int) (b6_29 : Int) (b6_30 : Int) (b6_31 : Int) (b6_32 : Int) (b6_33 : Int) (b6_34 : List (List V)) (X : St → Option β) (K : KT β) : (blockK 4 (blockK 3 (seqK (runC sh_tx_fits (cb_tx_fits F_tx_encode L) 0 L cbbbabaabbb_tx_fits) (loopK mbbbaba_tx_fits X K)))) (.exit 4) (st_x4_tx_fits p37 p38 p39 b1_0 b1_1 b1_2 b1_3 b6_0 b6_1 b6_2 b6_3 b6_4 b6_5 b6_6 b6_7 b6_8 b6_9 b6_10 b6_11 b6_12 b6_13 b6_14 b6_15 b6_16 b6_17 b6_18 b6_19 b6_20 b6_21 b6_22 b6_23 b6_24 b6_25 b6_26 b6_27 b6_28 b6_29 b6_30 b6_31 b6_32 b6_33 b6_34) = rbbbabaabbaabbbax4_tx_fits F_tx_encode L p37 p38 p39 b1_0 b1_1 b1_2 b1_3 b6_0 b6_1 b6_2 b6_3 b6_4 b6_5 b6_6 b6_7 b6_8 b6_9 b6_10 b6_11 b6_12 b6_13 b6_14 b6_15 b6_16 b6_17 b6_18 b6_19 b6_20 b6_21 b6_22 b6_23 b6_24 b6_25 b6_26 b6_27 b6_28 b6_29 b6_30 b6_31 b6_32 b6_33 b6_34 (fun p37 p38 p39 b1_0 b1_1 b1_2 b1_3 => X (st_hbbbaba_tx_fits p37 p38 p39 b1_0 b1_1 b1_2 b1_3)) := by kernel_rfl
def lbbaba_tx_fits {β : Type} (F_tx_encode : T_tx_encode) (L : Nat) (k_ret : Bool → Int → List (List V) → List (List V) → Int → Option β) (k_x0 : Int → List (List V) → List (List V) → Int → Option β) : Nat → List (List V) → Int → Int → Int → List (List V) → List (List V) → Int → Option β
  | 0, _, _, _, _, _, _, _ => none
  | n + 1, p20, p21, p22, b1_0, b1_1, b1_2, b1_3 => bbbaba_tx_fits F_tx_encode L p20 p21 p22 b1_0 b1_1 b1_2 b1_3 k_ret (fun p20 p21 p22 b1_0 b1_1 b1_2 b1_3 => lbbaba_tx_fits F_tx_encode L k_ret k_x0 n p20 p21 p22 b1_0 b1_1 b1_2 b1_3) k_x0
theorem lbbaba_tx_fits_ok {β : Type} (F_tx_encode : T_tx_encode) (L : Nat) (K : KT β) : ∀ (n : Nat) (p20 : List (List V)) (p21 : Int) (p22 : Int) (b1_0 : Int) (b1_1 : List (List V)) (b1_2 : List (List V)) (b1_3 : Int), loopM (runC sh_tx_fits (cb_tx_fits F_tx_encode L) 0 L cbbabaa_tx_fits) mbbaba_tx_fits n (st_hbbaba_tx_fits p20 p21 p22 b1_0 b1_1 b1_2 b1_3) K = lbbaba_tx_fits F_tx_encode L (fun p2 b1_0 b1_1 b1_2 b1_3 => K .ret (st_ret_tx_fits p2 b1_0 b1_1 b1_2 b1_3)) (fun b1_0 b1_1 b1_2 b1_3 => K (.exit 0) (st_x0_tx_fits b1_0 b1_1 b1_2 b1_3)) n p20 p21 p22 b1_0 b1_1 b1_2 b1_3 := by
  intro n
  induction n with
  | zero => intros; rfl
  | succ n ih =>
    intro p20 p21 p22 b1_0 b1_1 b1_2 b1_3
    refine (bbbaba_tx_fits_ok F_tx_encode L p20 p21 p22 b1_0 b1_1 b1_2 b1_3 (fun σ => loopM (runC sh_tx_fits (cb_tx_fits F_tx_encode L) 0 L cbbabaa_tx_fits) mbbaba_tx_fits n σ K) K).trans ?_
    simp only [ih]
    rfl
def lbbbabaabbaabbba_tx_fits {β : Type} (F_tx_encode : T_tx_encode) (L : Nat) (k_ret : Bool → Int → List (List V) → List (List V) → Int → Option β) (k_x4 : List (List V) → Int → Int → Int → List (List V) → List (List V) → Int → Int → Int → Int → Int → Int → Int → Int → Int → Int → Int → Int → Int → Int → Int → Int → Int → Int → Int → Int → Int → Int → Int → Int → Int → Int → Int → Int → Int → Int → Int → Int → Int → Int → Int → List (List V) → Option β) : Nat → List (List V) → Int → Int → List (List V) → Int → Int → Int → List (List V) → List (List V) → Int → Int → Int → Int → Int → Int → Int → Int → Int → Int → Int → Int → Int → Int → Int → Int → Int → Int → Int → Int → Int → Int → Int → Int → Int → Int → Int → Int → Int → Int → Int → Int → Int → Int → Int → List (List V) → Option β
  | 0, _, _, _, _, _, _, _, _, _, _, _, _, _, _, _, _, _, _, _, _, _, _, _, _, _, _, _, _, _, _, _, _, _, _, _, _, _, _, _, _, _, _, _, _, _ => none
  | n + 1, p37, p38, p39, p48, p49, p50, b1_0, b1_1, b1_2, b1_3, b6_0, b6_1, b6_2, b6_3, b6_4, b6_5, b6_6, b6_7, b6_8, b6_9, b6_10, b6_11, b6_12, b6_13, b6_14, b6_15, b6_16, b6_17, b6_18, b6_19, b6_20, b6_21, b6_22, b6_23, b6_24, b6_25, b6_26, b6_27, b6_28, b6_29, b6_30, b6_31, b6_32, b6_33, b6_34 => bbbbabaabbaabbba_tx_fits F_tx_encode L p37 p38 p39 p48 p49 p50 b1_0 b1_1 b1_2 b1_3 b6_0 b6_1 b6_2 b6_3 b6_4 b6_5 b6_6 b6_7 b6_8 b6_9 b6_10 b6_11 b6_12 b6_13 b6_14 b6_15 b6_16 b6_17 b6_18 b6_19 b6_20 b6_21 b6_22 b6_23 b6_24 b6_25 b6_26 b6_27 b6_28 b6_29 b6_30 b6_31 b6_32 b6_33 b6_34 k_ret (fun p37 p38 p39 p48 p49 p50 b1_0 b1_1 b1_2 b1_3 b6_0 b6_1 b6_2 b6_3 b6_4 b6_5 b6_6 b6_7 b6_8 b6_9 b6_10 b6_11 b6_12 b6_13 b6_14 b6_15 b6_16 b6_17 b6_18 b6_19 b6_20 b6_21 b6_22 b6_23 b6_24 b6_25 b6_26 b6_27 b6_28 b6_29 b6_30 b6_31 b6_32 b6_33 b6_34 => lbbbabaabbaabbba_tx_fits F_tx_encode L k_ret k_x4 n p37 p38 p39 p48 p49 p50 b1_0 b1_1 b1_2 b1_3 b6_0 b6_1 b6_2 b6_3 b6_4 b6_5 b6_6 b6_7 b6_8 b6_9 b6_10 b6_11 b6_12 b6_13 b6_14 b6_15 b6_16 b6_17 b6_18 b6_19 b6_20 b6_21 b6_22 b6_23 b6_24 b6_25 b6_26 b6_27 b6_28 b6_29 b6_30 b6_31 b6_32 b6_33 b6_34) k_x4
theorem lbbbabaabbaabbba_tx_fits_ok {β : Type} (F_tx_encode : T_tx_encode) (L : Nat) (K : KT β) : ∀ (n : Nat) (p37 : List (List V)) (p38 : Int) (p39 : Int) (p48 : List (List V)) (p49 : Int) (p50 : Int) (b1_0 : Int) (b1_1 : List (List V)) (b1_2 : List (List V)) (b1_3 : Int) (b6_0 : Int) (b6_1 : Int) (b6_2 : Int) (b6_3 : Int) (b6_4 : Int) (b6_5 : Int) (b6_6 : Int) (b6_7 : Int) (b6_8 : Int) (b6_9 : Int) (b6_10 : Int) (b6_11 : Int) (b6_12 : Int) (b6_13 : Int) (b6_14 : Int) (b6_15 : Int) (b6_16 : Int) (b6_17 : Int) (b6_18 : Int) (b6_19 : Int) (b6_20 : Int) (b6_21 : Int) (b6_22 : Int) (b6_23 : Int) (b6_24 : Int) (b6_25 : Int) (b6_26 : Int) (b6_27 : Int) (b6_28 : Int) (b6_29 : Int) (b6_30 : Int) (b6_31 : Int) (b6_32 : Int) (b6_33 : Int) (b6_34 : List (List V)), loopM (runC sh_tx_fits (cb_tx_fits F_tx_encode L) 0 L cbbbabaabbaabbbaa_tx_fits) mbbbabaabbaabbba_tx_fits n (st_hbbbabaabbaabbba_tx_fits p37 p38 p39 p48 p49 p50 b1_0 b1_1 b1_2 b1_3 b6_0 b6_1 b6_2 b6_3 b6_4 b6_5 b6_6 b6_7 b6_8 b6_9 b6_10 b6_11 b6_12 b6_13 b6_14 b6_15 b6_16 b6_17 b6_18 b6_19 b6_20 b6_21 b6_22 b6_23 b6_24 b6_25 b6_26 b6_27 b6_28 b6_29 b6_30 b6_31 b6_32 b6_33 b6_34) K = lbbbabaabbaabbba_tx_fits F_tx_encode L (fun p2 b1_0 b1_1 b1_2 b1_3 => K .ret (st_ret_tx_fits p2 b1_0 b1_1 b1_2 b1_3)) (fun p37 p38 p39 b1_0 b1_1 b1_2 b1_3 b6_0 b6_1 b6_2 b6_3 b6_4 b6_5 b6_6 b6_7 b6_8 b6_9 b6_10 b6_11 b6_12 b6_13 b6_14 b6_15 b6_16 b6_17 b6_18 b6_19 b6_20 b6_21 b6_22 b6_23 b6_24 b6_25 b6_26 b6_27 b6_28 b6_29 b6_30 b6_31 b6_32 b6_33 b6_34 => K (.exit 4) (st_x4_tx_fits p37 p38 p39 b1_0 b1_1 b1_2 b1_3 b6_0 b6_1 b6_2 b6_3 b6_4 b6_5 b6_6 b6_7 b6_8 b6_9 b6_10 b6_11 b6_12 b6_13 b6_14 b6_15 b6_16 b6_17 b6_18 b6_19 b6_20 b6_21 b6_22 b6_23 b6_24 b6_25 b6_26 b6_27 b6_28 b6_29 b6_30 b6_31 b6_32 b6_33 b6_34)) n p37 p38 p39 p48 p49 p50 b1_0 b1_1 b1_2 b1_3 b6_0 b6_1 b6_2 b6_3 b6_4 b6_5 b6_6 b6_7 b6_8 b6_9 b6_10 b6_11 b6_12 b6_13 b6_14 b6_15 b6_16 b6_17 b6_18 b6_19 b6_20 b6_21 b6_22 b6_23 b6_24 b6_25 b6_26 b6_27 b6_28 b6_29 b6_30 b6_31 b6_32 b6_33 b6_34 := by
  intro n
  induction n with
  | zero => intros; rfl
  | succ n ih =>
    intro p37 p38 p39 p48 p49 p50 b1_0 b1_1 b1_2 b1_3 b6_0 b6_1 b6_2 b6_3 b6_4 b6_5 b6_6 b6_7 b6_8 b6_9 b6_10 b6_11 b6_12 b6_13 b6_14 b6_15 b6_16 b6_17 b6_18 b6_19 b6_20 b6_21 b6_22 b6_23 b6_24 b6_25 b6_26 b6_27 b6_28 b6_29 b6_30 b6_31 b6_32 b6_33 b6_34
    refine (bbbbabaabbaabbba_tx_fits_ok F_tx_encode L p37 p38 p39 p48 p49 p50 b1_0 b1_1 b1_2 b1_3 b6_0 b6_1 b6_2 b6_3 b6_4 b6_5 b6_6 b6_7 b6_8 b6_9 b6_10 b6_11 b6_12 b6_13 b6_14 b6_15 b6_16 b6_17 b6_18 b6_19 b6_20 b6_21 b6_22 b6_23 b6_24 b6_25 b6_26 b6_27 b6_28 b6_29 b6_30 b6_31 b6_32 b6_33 b6_34 (fun σ => loopM (runC sh_tx_fits (cb_tx_fits F_tx_encode L) 0 L cbbbabaabbaabbbaa_tx_fits) mbbbabaabbaabbba_tx_fits n σ K) K).trans ?_
    simp only [ih]
    rfl
def Cbbbbaba_tx_fits {β : Type} (F_tx_encode : T_tx_encode) (L : Nat) (p37 : List (List V)) (p38 : Int) (p39 : Int) (b1_0 : Int) (b1_1 : List (List V)) (b1_2 : List (List V)) (b1_3 : Int) (k_ret : Bool → Int → List (List V) → List (List V) → Int → Option β) (k_x2 : Int → List (List V) → List (List V) → Int → Option β) (k_hbbbaba : List (List V) → Int → Int → Int → List (List V) → List (List V) → Int → Option β) : Option β :=
 bbbbaba_tx_fits F_tx_encode L p37 p38 p39 b1_0 b1_1 b1_2 b1_3 k_ret (fun p37 p38 p39 p48 p49 p50 b1_0 b1_1 b1_2 b1_3 b6_0 b6_1 b6_2 b6_3 b6_4 b6_5 b6_6 b6_7 b6_8 b6_9 b6_10 b6_11 b6_12 b6_13 b6_14 b6_15 b6_16 b6_17 b6_18 b6_19 b6_20 b6_21 b6_22 b6_23 b6_24 b6_25 b6_26 b6_27 b6_28 b6_29 b6_30 b6_31 b6_32 b6_33 b6_34 => lbbbabaabbaabbba_tx_fits F_tx_encode L (fun p2 b1_0 b1_1 b1_2 b1_3 => rbbbabaabbaabbbaret_tx_fits F_tx_encode L p2 b1_0 b1_1 b1_2 b1_3 k_ret) (fun p37 p38 p39 b1_0 b1_1 b1_2 b1_3 b6_0 b6_1 b6_2 b6_3 b6_4 b6_5 b6_6 b6_7 b6_8 b6_9 b6_10 b6_11 b6_12 b6_13 b6_14 b6_15 b6_16 b6_17 b6_18 b6_19 b6_20 b6_21 b6_22 b6_23 b6_24 b6_25 b6_26 b6_27 b6_28 b6_29 b6_30 b6_31 b6_32 b6_33 b6_34 => rbbbabaabbaabbbax4_tx_fits F_tx_encode L p37 p38 p39 b1_0 b1_1 b1_2 b1_3 b6_0 b6_1 b6_2 b6_3 b6_4 b6_5 b6_6 b6_7 b6_8 b6_9 b6_10 b6_11 b6_12 b6_13 b6_14 b6_15 b6_16 b6_17 b6_18 b6_19 b6_20 b6_21 b6_22 b6_23 b6_24 b6_25 b6_26 b6_27 b6_28 b6_29 b6_30 b6_31 b6_32 b6_33 b6_34 k_hbbbaba) L p37 p38 p39 p48 p49 p50 b1_0 b1_1 b1_2 b1_3 b6_0 b6_1 b6_2 b6_3 b6_4 b6_5 b6_6 b6_7 b6_8 b6_9 b6_10 b6_11 b6_12 b6_13 b6_14 b6_15 b6_16 b6_17 b6_18 b6_19 b6_20 b6_21 b6_22 b6_23 b6_24 b6_25 b6_26 b6_27 b6_28 b6_29 b6_30 b6_31 b6_32 b6_33 b6_34) k_x2
theorem Cbbbbaba_tx_fits_ok {β : Type} (F_tx_encode : T_tx_encode) (L : Nat) (p37 : List (List V)) (p38 : Int) (p39 : Int) (b1_0 : Int) (b1_1 : List (List V)) (b1_2 : List (List V)) (b1_3 : Int) (X : St → Option β) (K : KT β) : runC sh_tx_fits (cb_tx_fits F_tx_encode L) 0 L cbbbabaa_tx_fits (st_hbbbaba_tx_fits p37 p38 p39 b1_0 b1_1 b1_2 b1_3) (loopK mbbbaba_tx_fits X K) = Cbbbbaba_tx_fits F_tx_encode L p37 p38 p39 b1_0 b1_1 b1_2 b1_3 (fun p2 b1_0 b1_1 b1_2 b1_3 => K .ret (st_ret_tx_fits p2 b1_0 b1_1 b1_2 b1_3)) (fun b1_0 b1_1 b1_2 b1_3 => K (.exit 2) (st_x2_tx_fits b1_0 b1_1 b1_2 b1_3)) (fun p37 p38 p39 b1_0 b1_1 b1_2 b1_3 => X (st_hbbbaba_tx_fits p37 p38 p39 b1_0 b1_1 b1_2 b1_3)) := by
  refine (bbbbaba_tx_fits_ok F_tx_encode L p37 p38 p39 b1_0 b1_1 b1_2 b1_3 X K).trans ?_
  unfold Cbbbbaba_tx_fits
  simp only [lbbbabaabbaabbba_tx_fits_ok, rbbbabaabbaabbbaret_tx_fits_ok, rbbbabaabbaabbbax4_tx_fits_ok]
def lbbbaba_tx_fits {β : Type} (F_tx_encode : T_tx_encode) (L : Nat) (k_ret : Bool → Int → List (List V) → List (List V) → Int → Option β) (k_x2 : Int → List (List V) → List (List V) → Int → Option β) : Nat → List (List V) → Int → Int → Int → List (List V) → List (List V) → Int → Option β
  | 0, _, _, _, _, _, _, _ => none
  | n + 1, p37, p38, p39, b1_0, b1_1, b1_2, b1_3 => Cbbbbaba_tx_fits F_tx_encode L p37 p38 p39 b1_0 b1_1 b1_2 b1_3 k_ret k_x2 (fun p37 p38 p39 b1_0 b1_1 b1_2 b1_3 => lbbbaba_tx_fits F_tx_encode L k_ret k_x2 n p37 p38 p39 b1_0 b1_1 b1_2 b1_3)
theorem lbbbaba_tx_fits_ok {β : Type} (F_tx_encode : T_tx_encode) (L : Nat) (K : KT β) : ∀ (n : Nat) (p37 : List (List V)) (p38 : Int) (p39 : Int) (b1_0 : Int) (b1_1 : List (List V)) (b1_2 : List (List V)) (b1_3 : Int), loopM (runC sh_tx_fits (cb_tx_fits F_tx_encode L) 0 L cbbbabaa_tx_fits) mbbbaba_tx_fits n (st_hbbbaba_tx_fits p37 p38 p39 b1_0 b1_1 b1_2 b1_3) K = lbbbaba_tx_fits F_tx_encode L (fun p2 b1_0 b1_1 b1_2 b1_3 => K .ret (st_ret_tx_fits p2 b1_0 b1_1 b1_2 b1_3)) (fun b1_0 b1_1 b1_2 b1_3 => K (.exit 2) (st_x2_tx_fits b1_0 b1_1 b1_2 b1_3)) n p37 p38 p39 b1_0 b1_1 b1_2 b1_3 := by
  intro n
  induction n with
  | zero => intros; rfl
  | succ n ih =>
    intro p37 p38 p39 b1_0 b1_1 b1_2 b1_3
    refine (Cbbbbaba_tx_fits_ok F_tx_encode L p37 p38 p39 b1_0 b1_1 b1_2 b1_3 (fun σ => loopM (runC sh_tx_fits (cb_tx_fits F_tx_encode L) 0 L cbbbabaa_tx_fits) mbbbaba_tx_fits n σ K) K).trans ?_
    simp only [ih]
    rfl
def Crbbabax0_tx_fits {β : Type} (F_tx_encode : T_tx_encode) (L : Nat) (b1_0 : Int) (b1_1 : List (List V)) (b1_2 : List (List V)) (b1_3 : Int) (k_fin : Bool → Option β) : Option β :=
 rbbabax0_tx_fits F_tx_encode L b1_0 b1_1 b1_2 b1_3 (fun p37 p38 p39 b1_0 b1_1 b1_2 b1_3 => lbbbaba_tx_fits F_tx_encode L (fun p2 b1_0 b1_1 b1_2 b1_3 => rbbbabaret_tx_fits F_tx_encode L p2 b1_0 b1_1 b1_2 b1_3 k_fin) (fun b1_0 b1_1 b1_2 b1_3 => rbbbabax2_tx_fits F_tx_encode L b1_0 b1_1 b1_2 b1_3 k_fin) L p37 p38 p39 b1_0 b1_1 b1_2 b1_3)
theorem Crbbabax0_tx_fits_ok {β : Type} (F_tx_encode : T_tx_encode) (L : Nat) (b1_0 : Int) (b1_1 : List (List V)) (b1_2 : List (List V)) (b1_3 : Int) (k : V → Bor → Option β) : (blockK 0 (seqK (runC sh_tx_fits (cb_tx_fits F_tx_encode L) 0 L cbbb_tx_fits) (finK 0 (CF.res cf_tx_fits) k))) (.exit 0) (st_x0_tx_fits b1_0 b1_1 b1_2 b1_3) = Crbbabax0_tx_fits F_tx_encode L b1_0 b1_1 b1_2 b1_3 (fun p0 => k (V.sc (.bool p0)) []) := by
  refine (rbbabax0_tx_fits_ok F_tx_encode L b1_0 b1_1 b1_2 b1_3 k).trans ?_
  unfold Crbbabax0_tx_fits
  simp only [lbbbaba_tx_fits_ok, rbbbabaret_tx_fits_ok, rbbbabax2_tx_fits_ok]
def R_tx_fits {β : Type} (F_tx_encode : T_tx_encode) (L : Nat) (p0 : List V) (k_fin : Bool → Option β) : Option β :=
 e_tx_fits F_tx_encode L p0 k_fin (fun p20 p21 p22 b1_0 b1_1 b1_2 b1_3 => lbbaba_tx_fits F_tx_encode L (fun p2 b1_0 b1_1 b1_2 b1_3 => rbbabaret_tx_fits F_tx_encode L p2 b1_0 b1_1 b1_2 b1_3 k_fin) (fun b1_0 b1_1 b1_2 b1_3 => Crbbabax0_tx_fits F_tx_encode L b1_0 b1_1 b1_2 b1_3 k_fin) L p20 p21 p22 b1_0 b1_1 b1_2 b1_3)
theorem R_tx_fits_ok {β : Type} (F_tx_encode : T_tx_encode) (L : Nat) (p0 : List V) (k : V → Bor → Option β) : funC sh_tx_fits (cb_tx_fits F_tx_encode L) L cf_tx_fits [(V.agg p0)] [] k = R_tx_fits F_tx_encode L p0 (fun p0 => k (V.sc (.bool p0)) []) := by
  refine (e_tx_fits_ok F_tx_encode L p0 k).trans ?_
  unfold R_tx_fits
  simp only [lbbaba_tx_fits_ok, rbbabaret_tx_fits_ok, Crbbabax0_tx_fits_ok]
abbrev T_tx_fits := ∀ (β : Type), Nat → List V → (Bool → Option β) → Option β
def F_tx_fits (β : Type) (L : Nat) (p0 : List V) (k_fin : Bool → Option β) : Option β := R_tx_fits F_tx_encode L p0 k_fin
def d_tx_fits (F_tx_fits : T_tx_fits) (L : Nat) (β : Type) (args : List V) (bor : Bor) (k : V → Bor → Option β) : Option β := match args, bor with
  | [a0], [] => aG a0 fun p0 => F_tx_fits β L p0 (fun p0 => k (V.sc (.bool p0)) [])
  | _, _ => none
theorem d_tx_fits_ok (L : Nat) (β : Type) (args : List V) (bor : Bor) (k : V → Bor → Option β) (r : β) (h : d_tx_fits F_tx_fits L β args bor k = some r) : funC sh_tx_fits (cb_tx_fits F_tx_encode L) L cf_tx_fits args bor k = some r := by
  unfold d_tx_fits at h
  split at h
  · have q := aG_inv h; clear h; obtain ⟨p0, rfl, h⟩ := q
    exact (R_tx_fits_ok F_tx_encode L p0 k).trans h
  · cases h
/-! tx_Encode : 128 -/
def cf_tx_Encode : CF := ⟨12, [.tmp 4, .tmp 5],
 (.seq (.reg [⟨(some 2), false, none, .box false (.tmp 0)⟩,
   ⟨(some 4), false, none, .move (.const (.gs 1 [])) true⟩,
   ⟨(some 5), false, none, .move (.const (.sc (.int .i64 0))) false⟩])
 (.seq (.seq (.reg [⟨(some 6), false, none, .load true 4 (.tmp 2) false⟩,
   ⟨(some 7), false, none, .call 146 [((.tmp 6), true)]⟩,
   ⟨(some 8), false, none, .un .not (.tmp 7)⟩])
 (.cond (.tmp 8)
 (.seq (.reg [⟨(some 4), false, none, .move (.const (.gs 1 [])) true⟩,
   ⟨(some 5), false, none, .move (.const (.sc (.int .i64 4))) false⟩])
 .ret)
 .skip))
 (.seq (.reg [⟨(some 9), false, none, .load true 4 (.tmp 2) false⟩,
   ⟨(some 10), false, none, .move (.tmp 1) false⟩,
   ⟨(some 11), false, none, .call 147 [((.tmp 9), true), ((.tmp 10), false)]⟩,
   ⟨(some 4), false, none, .move (.tmp 11) true⟩,
   ⟨(some 5), false, none, .move (.const (.sc (.int .i64 0))) false⟩])
 .ret)))⟩
def hint_tx_Encode : Hint := ⟨[(0, 1), (2, 0), (3, 3)], [], [none, none, none], []⟩
def sh_tx_Encode : Nat → Sh := shOf [(2, (.row [(.int .u32), (.sl 35), (.sl 2), (.int .u32)]))]
def cb_tx_Encode (F_tx_fits : T_tx_fits) (F_tx_encode : T_tx_encode) (L : Nat) : CBC := (addC 147 (d_tx_encode F_tx_encode L) (addC 146 (d_tx_fits F_tx_fits L) noC))
def R_tx_Encode {β : Type} (F_tx_fits : T_tx_fits) (F_tx_encode : T_tx_encode) (L : Nat) (p0 : List V) (p1 : Bool) (k_fin : List (List V) → Int → Option β) : Option β :=
 chk (List.length p0 = 4) (
 cI .u32 p0 0 fun v0 =>
 cL 35 p0 1 fun v1 =>
 cL 2 p0 2 fun v2 =>
 cI .u32 p0 3 fun v3 =>
 F_tx_fits β L [(V.sc (.int .u32 v0)), (V.sl 35 v1), (V.sl 2 v2), (V.sc (.int .u32 v3))] (fun v4 =>
 ifb (!v4) (
 k_fin ([] : List (List V)) (4 : Int)) (
 F_tx_encode β L [(V.sc (.int .u32 v0)), (V.sl 35 v1), (V.sl 2 v2), (V.sc (.int .u32 v3))] p1 (fun v5 =>
 k_fin v5 (0 : Int)))))
theorem R_tx_Encode_ok {β : Type} (F_tx_fits : T_tx_fits) (F_tx_encode : T_tx_encode) (L : Nat) (p0 : List V) (p1 : Bool) (k : V → Bor → Option β) : funC sh_tx_Encode (cb_tx_Encode F_tx_fits F_tx_encode L) L cf_tx_Encode [(V.agg p0), (V.sc (.bool p1))] [] k = R_tx_Encode F_tx_fits F_tx_encode L p0 p1 (fun p0_0 p0_1 => k (V.tup [(V.gs 1 p0_0), (V.sc (.int .i64 p0_1))]) []) := by kernel_rfl
abbrev T_tx_Encode := ∀ (β : Type), Nat → List V → Bool → (List (List V) → Int → Option β) → Option β
def F_tx_Encode (β : Type) (L : Nat) (p0 : List V) (p1 : Bool) (k_fin : List (List V) → Int → Option β) : Option β := R_tx_Encode F_tx_fits F_tx_encode L p0 p1 k_fin
def d_tx_Encode (F_tx_Encode : T_tx_Encode) (L : Nat) (β : Type) (args : List V) (bor : Bor) (k : V → Bor → Option β) : Option β := match args, bor with
  | [a0, a1], [] => aG a0 fun p0 => aB a1 fun p1 => F_tx_Encode β L p0 p1 (fun p0_0 p0_1 => k (V.tup [(V.gs 1 p0_0), (V.sc (.int .i64 p0_1))]) [])
  | _, _ => none
theorem d_tx_Encode_ok (L : Nat) (β : Type) (args : List V) (bor : Bor) (k : V → Bor → Option β) (r : β) (h : d_tx_Encode F_tx_Encode L β args bor k = some r) : funC sh_tx_Encode (cb_tx_Encode F_tx_fits F_tx_encode L) L cf_tx_Encode args bor k = some r := by
  unfold d_tx_Encode at h
  split at h
  · have q := aG_inv h; clear h; obtain ⟨p0, rfl, h⟩ := q
    have q := aB_inv h; clear h; obtain ⟨p1, rfl, h⟩ := q
    exact (R_tx_Encode_ok F_tx_fits F_tx_encode L p0 p1 k).trans h
  · cases h
/-! tx_Weight : 144 -/
def cf_tx_Weight : CF := ⟨14, [.tmp 2],
 (.seq (.reg [⟨(some 1), false, none, .box false (.tmp 0)⟩,
   ⟨(some 2), false, none, .move (.const (.sc (.int .i64 0))) false⟩])
 (.seq (.seq (.reg [⟨(some 3), false, none, .load true 4 (.tmp 1) false⟩,
   ⟨(some 4), false, none, .call 146 [((.tmp 3), true)]⟩,
   ⟨(some 5), false, none, .un .not (.tmp 4)⟩])
 (.cond (.tmp 5)
 (.seq (.reg [⟨(some 2), false, none, .move (.const (.sc (.int .i64 0))) false⟩])
 .ret)
 .skip))
 (.seq (.dreg [] [(⟨(some 6), false, none, .load true 4 (.tmp 1) false⟩, true),
   (⟨(some 7), false, none, .call 147 [((.tmp 6), true), ((.const (.sc (.bool false))), false)]⟩, true),
   (⟨(some 8), false, none, .lenS (.tmp 7)⟩, false),
   (⟨(some 9), false, none, .bin .mul (.const (.sc (.int .i64 3))) (.tmp 8)⟩, false),
   (⟨(some 10), false, none, .load true 4 (.tmp 1) false⟩, true),
   (⟨(some 11), false, none, .call 147 [((.tmp 10), true), ((.const (.sc (.bool true))), false)]⟩, false),
   (⟨(some 12), false, none, .lenS (.tmp 11)⟩, false),
   (⟨(some 13), false, none, .bin .add (.tmp 9) (.tmp 12)⟩, false),
   (⟨(some 2), false, none, .move (.tmp 13) false⟩, false)])
 .ret)))⟩
def hint_tx_Weight : Hint := ⟨[], [], [none, none, none], []⟩
def sh_tx_Weight : Nat → Sh := shOf [(1, (.row [(.int .u32), (.sl 35), (.sl 2), (.int .u32)]))]
def cb_tx_Weight (F_tx_fits : T_tx_fits) (F_tx_encode : T_tx_encode) (L : Nat) : CBC := (addC 147 (d_tx_encode F_tx_encode L) (addC 146 (d_tx_fits F_tx_fits L) noC))
def R_tx_Weight {β : Type} (F_tx_fits : T_tx_fits) (F_tx_encode : T_tx_encode) (L : Nat) (p0 : List V) (k_fin : Int → Option β) : Option β :=
 chk (List.length p0 = 4) (
 cI .u32 p0 0 fun v0 =>
 cL 35 p0 1 fun v1 =>
 cL 2 p0 2 fun v2 =>
 cI .u32 p0 3 fun v3 =>
 F_tx_fits β L [(V.sc (.int .u32 v0)), (V.sl 35 v1), (V.sl 2 v2), (V.sc (.int .u32 v3))] (fun v4 =>
 ifb (!v4) (
 k_fin (0 : Int)) (
 F_tx_encode β L [(V.sc (.int .u32 v0)), (V.sl 35 v1), (V.sl 2 v2), (V.sc (.int .u32 v3))] false (fun v5 =>
 lt (IntKind.wrap .i64 (((3 : Int) : Int) * ((List.length v5 : Nat) : Int))) fun x6 =>
 F_tx_encode β L [(V.sc (.int .u32 v0)), (V.sl 35 v1), (V.sl 2 v2), (V.sc (.int .u32 v3))] true (fun v7 =>
 lt (IntKind.wrap .i64 ((x6 : Int) + ((List.length v7 : Nat) : Int))) fun x8 =>
 k_fin x8)))))
theorem R_tx_Weight_ok {β : Type} (F_tx_fits : T_tx_fits) (F_tx_encode : T_tx_encode) (L : Nat) (p0 : List V) (k : V → Bor → Option β) : funC sh_tx_Weight (cb_tx_Weight F_tx_fits F_tx_encode L) L cf_tx_Weight [(V.agg p0)] [] k = R_tx_Weight F_tx_fits F_tx_encode L p0 (fun p0 => k (V.sc (.int .i64 p0)) []) := by kernel_rfl
abbrev T_tx_Weight := ∀ (β : Type), Nat → List V → (Int → Option β) → Option β
def F_tx_Weight (β : Type) (L : Nat) (p0 : List V) (k_fin : Int → Option β) : Option β := R_tx_Weight F_tx_fits F_tx_encode L p0 k_fin
def d_tx_Weight (F_tx_Weight : T_tx_Weight) (L : Nat) (β : Type) (args : List V) (bor : Bor) (k : V → Bor → Option β) : Option β := match args, bor with
  | [a0], [] => aG a0 fun p0 => F_tx_Weight β L p0 (fun p0 => k (V.sc (.int .i64 p0)) [])
  | _, _ => none
theorem d_tx_Weight_ok (L : Nat) (β : Type) (args : List V) (bor : Bor) (k : V → Bor → Option β) (r : β) (h : d_tx_Weight F_tx_Weight L β args bor k = some r) : funC sh_tx_Weight (cb_tx_Weight F_tx_fits F_tx_encode L) L cf_tx_Weight args bor k = some r := by
  unfold d_tx_Weight at h
  split at h
  · have q := aG_inv h; clear h; obtain ⟨p0, rfl, h⟩ := q
    exact (R_tx_Weight_ok F_tx_fits F_tx_encode L p0 k).trans h
  · cases h
/-! tx_money : 150 -/
def cbbabaa_tx_money : CC := (.seq (.reg [⟨(some 9), false, none, .bin .lss (.tmp 8) (.tmp 7)⟩])
 (.seq (.cond (.tmp 9)
 .skip
 (.seq (.mask (bl 0 22) (bl 4194259 22))
 (.exit 0)))
 (.seq (.block 1 (.seq (.reg [⟨(some 10), false, none, .indexAddrS 2 (.tmp 6) (.tmp 8)⟩,
   ⟨(some 11), false, none, .load true 2 (.tmp 10) false⟩,
   ⟨(some 5), false, none, .alloc false [(.sc (.int .i64 0)), (.gs 1 [])]⟩,
   ⟨none, false, none, .store 2 (.tmp 5) (.tmp 11)⟩])
 (.seq (.seq (.reg [⟨(some 12), false, none, .fieldAddr 0 (.tmp 5)⟩,
   ⟨(some 13), false, none, .load false 1 (.tmp 12) false⟩,
   ⟨(some 14), false, none, .move (.tmp 3) false⟩,
   ⟨(some 15), false, none, .bin .sub (.const (.sc (.int .i64 2100000000000000))) (.tmp 14)⟩,
   ⟨(some 16), false, none, .bin .gtr (.tmp 13) (.tmp 15)⟩])
 (.cond (.tmp 16)
 (.seq (.reg [⟨(some 2), false, none, .move (.const (.sc (.bool false))) false⟩])
 (.seq (.mask (bl 4 22) (bl 4194263 22))
 .ret))
 .skip))
 (.reg [⟨(some 17), false, none, .move (.tmp 3) false⟩,
   ⟨(some 18), false, none, .fieldAddr 0 (.tmp 5)⟩,
   ⟨(some 19), false, none, .load false 1 (.tmp 18) false⟩,
   ⟨(some 20), false, none, .bin .add (.tmp 17) (.tmp 19)⟩,
   ⟨(some 3), false, none, .move (.tmp 20) false⟩]))))
 (.reg [⟨(some 21), false, none, .bin .add (.tmp 8) (.const (.sc (.int .i64 1)))⟩,
   ⟨(some 8), false, none, .move (.tmp 21) false⟩]))))
def cbbb_tx_money : CC := (.seq (.reg [⟨(some 2), false, none, .move (.const (.sc (.bool true))) false⟩])
 .ret)
def cf_tx_money : CF := ⟨22, [.tmp 2],
 (.seq (.reg [⟨(some 2), false, none, .move (.const (.sc (.bool false))) false⟩])
 (.seq (.reg [⟨(some 3), false, none, .move (.const (.sc (.int .i64 0))) false⟩])
 (.seq (.seq (.reg [⟨(some 6), false, none, .move (.tmp 0) true⟩,
   ⟨(some 7), false, none, .lenS (.tmp 6)⟩,
   ⟨(some 8), false, none, .move (.const (.sc (.int .i64 0))) false⟩])
 (.block 0 (.loop (bl 456 22) (bl 4194267 22)
 cbbabaa_tx_money)))
 cbbb_tx_money)))⟩
def hint_tx_money : Hint := ⟨[(2, 0)], [], [none, some ((bl 456 22), (bl 4194267 22)), none, some ((bl 0 22), (bl 4194259 22)), none, none, some ((bl 4 22), (bl 4194263 22)), none], []⟩
def sh_tx_money : Nat → Sh := shOf [(11, (.row [(.int .i64), (.sl 1)]))]
def cb_tx_money (L : Nat) : CBC := noC
def mbbaba_tx_money : St → St := mask (bl 456 22) (bl 4194267 22)
def st_hbbaba_tx_money (p3 : Int) (p6 : List (List V)) (p7 : Int) (p8 : Int) : St := ⟨[.junk, .junk, .junk, (V.sc (.int .i64 p3)), .junk, .junk, (V.sl 2 p6), (V.sc (.int .i64 p7)), (V.sc (.int .i64 p8)), .junk, .junk, .junk, .junk, .junk, .junk, .junk, .junk, .junk, .junk, .junk, .junk, .junk], [.gone, .gone, .gone, .gone, .gone, .gone, .gone, .gone, .gone, .gone, .gone, .gone, .gone, .gone, .gone, .gone, .gone, .gone, .gone, .gone, .gone, .gone]⟩
def st_ret_tx_money (p2 : Bool) : St := ⟨[.junk, .junk, (V.sc (.bool p2)), .junk, .junk, .junk, .junk, .junk, .junk, .junk, .junk, .junk, .junk, .junk, .junk, .junk, .junk, .junk, .junk, .junk, .junk, .junk], [.gone, .gone, .gone, .gone, .gone, .gone, .gone, .gone, .gone, .gone, .gone, .gone, .gone, .gone, .gone, .gone, .gone, .gone, .gone, .gone, .gone, .gone]⟩
def st_x0_tx_money : St := ⟨[.junk, .junk, .junk, .junk, .junk, .junk, .junk, .junk, .junk, .junk, .junk, .junk, .junk, .junk, .junk, .junk, .junk, .junk, .junk, .junk, .junk, .junk], [.gone, .gone, .gone, .gone, .gone, .gone, .gone, .gone, .gone, .gone, .gone, .gone, .gone, .gone, .gone, .gone, .gone, .gone, .gone, .gone, .gone, .gone]⟩
def e_tx_money {β : Type} (L : Nat) (p0 : List (List V)) (k_hbbaba : Int → List (List V) → Int → Int → Option β) : Option β :=
 k_hbbaba (0 : Int) p0 ((List.length p0 : Nat) : Int) (0 : Int)
theorem e_tx_money_ok {β : Type} (L : Nat) (p0 : List (List V)) (k : V → Bor → Option β) : funC sh_tx_money (cb_tx_money L) L cf_tx_money [(V.sl 2 p0)] [] k = e_tx_money L p0 (fun p3 p6 p7 p8 => loopM (runC sh_tx_money (cb_tx_money L) 0 L cbbabaa_tx_money) mbbaba_tx_money L (st_hbbaba_tx_money p3 p6 p7 p8) (blockK 0 (seqK (runC sh_tx_money (cb_tx_money L) 0 L cbbb_tx_money) (finK 0 (CF.res cf_tx_money) k)))) := by kernel_rfl
def bbbaba_tx_money {β : Type} (L : Nat) (p3 : Int) (p6 : List (List V)) (p7 : Int) (p8 : Int) (k_ret : Bool → Option β) (k_hbbaba : Int → List (List V) → Int → Int → Option β) (k_x0 : Option β) : Option β :=
 ifb (decide (p8 < p7)) (
 idx p6 p8 fun c0 =>
 chk (List.length (List.take 2 c0) = 2) (
 cI .i64 (List.take 2 c0) 0 fun v1 =>
 cL 1 (List.take 2 c0) 1 fun v2 =>
 lt (IntKind.wrap .i64 (((2100000000000000 : Int) : Int) - p3)) fun x3 =>
 ifb (decide (v1 > x3)) (
 k_ret false) (
 lt (IntKind.wrap .i64 ((p3 : Int) + v1)) fun x4 =>
 lt (IntKind.wrap .i64 ((p8 : Int) + (1 : Int))) fun x5 =>
 k_hbbaba x4 p6 p7 x5))) (
 k_x0)
theorem bbbaba_tx_money_ok {β : Type} (L : Nat) (p3 : Int) (p6 : List (List V)) (p7 : Int) (p8 : Int) (X : St → Option β) (K : KT β) : runC sh_tx_money (cb_tx_money L) 0 L cbbabaa_tx_money (st_hbbaba_tx_money p3 p6 p7 p8) (loopK mbbaba_tx_money X K) = bbbaba_tx_money L p3 p6 p7 p8 (fun p2 => K .ret (st_ret_tx_money p2)) (fun p3 p6 p7 p8 => X (st_hbbaba_tx_money p3 p6 p7 p8)) (K (.exit 0) (st_x0_tx_money)) := by kernel_rfl
def rbbabaret_tx_money {β : Type} (L : Nat) (p2 : Bool) (k_fin : Bool → Option β) : Option β :=
 k_fin p2
theorem rbbabaret_tx_money_ok {β : Type} (L : Nat) (p2 : Bool) (k : V → Bor → Option β) : (blockK 0 (seqK (runC sh_tx_money (cb_tx_money L) 0 L cbbb_tx_money) (finK 0 (CF.res cf_tx_money) k))) .ret (st_ret_tx_money p2) = rbbabaret_tx_money L p2 (fun p0 => k (V.sc (.bool p0)) []) := by kernel_rfl
def rbbabax0_tx_money {β : Type} (L : Nat) (k_fin : Bool → Option β) : Option β :=
 k_fin true
theorem rbbabax0_tx_money_ok {β : Type} (L : Nat) (k : V → Bor → Option β) : (blockK 0 (seqK (runC sh_tx_money (cb_tx_money L) 0 L cbbb_tx_money) (finK 0 (CF.res cf_tx_money) k))) (.exit 0) (st_x0_tx_money) = rbbabax0_tx_money L (fun p0 => k (V.sc (.bool p0)) []) := by kernel_rfl
def lbbaba_tx_money {β : Type} (L : Nat) (k_ret : Bool → Option β) (k_x0 : Option β) : Nat → Int → List (List V) → Int → Int → Option β
  | 0, _, _, _, _ => none
  | n + 1, p3, p6, p7, p8 => bbbaba_tx_money L p3 p6 p7 p8 k_ret (fun p3 p6 p7 p8 => lbbaba_tx_money L k_ret k_x0 n p3 p6 p7 p8) k_x0
theorem lbbaba_tx_money_ok {β : Type} (L : Nat) (K : KT β) : ∀ (n : Nat) (p3 : Int) (p6 : List (List V)) (p7 : Int) (p8 : Int), loopM (runC sh_tx_money (cb_tx_money L) 0 L cbbabaa_tx_money) mbbaba_tx_money n (st_hbbaba_tx_money p3 p6 p7 p8) K = lbbaba_tx_money L (fun p2 => K .ret (st_ret_tx_money p2)) (K (.exit 0) (st_x0_tx_money)) n p3 p6 p7 p8 := by
  intro n
  induction n with
  | zero => intros; rfl
  | succ n ih =>
    intro p3 p6 p7 p8
    refine (bbbaba_tx_money_ok L p3 p6 p7 p8 (fun σ => loopM (runC sh_tx_money (cb_tx_money L) 0 L cbbabaa_tx_money) mbbaba_tx_money n σ K) K).trans ?_
    simp only [ih]
    rfl
def R_tx_money {β : Type} (L : Nat) (p0 : List (List V)) (k_fin : Bool → Option β) : Option β :=
 e_tx_money L p0 (fun p3 p6 p7 p8 => lbbaba_tx_money L (fun p2 => rbbabaret_tx_money L p2 k_fin) (rbbabax0_tx_money L k_fin) L p3 p6 p7 p8)
theorem R_tx_money_ok {β : Type} (L : Nat) (p0 : List (List V)) (k : V → Bor → Option β) : funC sh_tx_money (cb_tx_money L) L cf_tx_money [(V.sl 2 p0)] [] k = R_tx_money L p0 (fun p0 => k (V.sc (.bool p0)) []) := by
  refine (e_tx_money_ok L p0 k).trans ?_
  unfold R_tx_money
  simp only [lbbaba_tx_money_ok, rbbabaret_tx_money_ok, rbbabax0_tx_money_ok]
abbrev T_tx_money := ∀ (β : Type), Nat → List (List V) → (Bool → Option β) → Option β
def F_tx_money (β : Type) (L : Nat) (p0 : List (List V)) (k_fin : Bool → Option β) : Option β := R_tx_money L p0 k_fin
def d_tx_money (F_tx_money : T_tx_money) (L : Nat) (β : Type) (args : List V) (bor : Bor) (k : V → Bor → Option β) : Option β := match args, bor with
  | [a0], [] => aL 2 a0 fun p0 => F_tx_money β L p0 (fun p0 => k (V.sc (.bool p0)) [])
  | _, _ => none
theorem d_tx_money_ok (L : Nat) (β : Type) (args : List V) (bor : Bor) (k : V → Bor → Option β) (r : β) (h : d_tx_money F_tx_money L β args bor k = some r) : funC sh_tx_money (cb_tx_money L) L cf_tx_money args bor k = some r := by
  unfold d_tx_money at h
  split at h
  · have q := aL_inv h; clear h; obtain ⟨p0, rfl, h⟩ := q
    exact (R_tx_money_ok L p0 k).trans h
  · cases h
/-! tx_null : 188 -/
def cf_tx_null : CF := ⟨6, [.tmp 2],
 (.seq (.reg [⟨(some 1), false, none, .box true (.tmp 0)⟩,
   ⟨(some 2), false, none, .move (.const (.sc (.bool false))) false⟩])
 (.seq (.reg [⟨(some 3), false, none, .load true 33 (.tmp 1) false⟩,
   ⟨(some 4), false, none, .build [(.sc (.int .u8 0)), (.sc (.int .u8 0)), (.sc (.int .u8 0)), (.sc (.int .u8 0)), (.sc (.int .u8 0)), (.sc (.int .u8 0)), (.sc (.int .u8 0)), (.sc (.int .u8 0)), (.sc (.int .u8 0)), (.sc (.int .u8 0)), (.sc (.int .u8 0)), (.sc (.int .u8 0)), (.sc (.int .u8 0)), (.sc (.int .u8 0)), (.sc (.int .u8 0)), (.sc (.int .u8 0)), (.sc (.int .u8 0)), (.sc (.int .u8 0)), (.sc (.int .u8 0)), (.sc (.int .u8 0)), (.sc (.int .u8 0)), (.sc (.int .u8 0)), (.sc (.int .u8 0)), (.sc (.int .u8 0)), (.sc (.int .u8 0)), (.sc (.int .u8 0)), (.sc (.int .u8 0)), (.sc (.int .u8 0)), (.sc (.int .u8 0)), (.sc (.int .u8 0)), (.sc (.int .u8 0)), (.sc (.int .u8 0)), (.sc (.int .u32 0))] [(32, 1, (.const (.sc (.int .u32 4294967295))))]⟩,
   ⟨(some 5), false, none, .eqAgg false 33 (.tmp 3) (.tmp 4)⟩,
   ⟨(some 2), false, none, .move (.tmp 5) false⟩])
 .ret))⟩
def hint_tx_null : Hint := ⟨[], [], [none], []⟩
def sh_tx_null : Nat → Sh := shOf []
def cb_tx_null (L : Nat) : CBC := noC
def R_tx_null {β : Type} (L : Nat) (p0 : List V) (k_fin : Bool → Option β) : Option β :=
 chk (0 + 33 ≤ (List.length p0)) (
 eqC 33 (List.take 33 p0) (List.replicate 32 (V.sc (.int .u8 (0 : Int))) ++ [(V.sc (.int .u32 (4294967295 : Int)))]) fun v0 =>
 k_fin v0)
theorem R_tx_null_ok {β : Type} (L : Nat) (p0 : List V) (k : V → Bor → Option β) : funC sh_tx_null (cb_tx_null L) L cf_tx_null [(V.agg p0)] [] k = R_tx_null L p0 (fun p0 => k (V.sc (.bool p0)) []) := by kernel_rfl
abbrev T_tx_null := ∀ (β : Type), Nat → List V → (Bool → Option β) → Option β
def F_tx_null (β : Type) (L : Nat) (p0 : List V) (k_fin : Bool → Option β) : Option β := R_tx_null L p0 k_fin
def d_tx_null (F_tx_null : T_tx_null) (L : Nat) (β : Type) (args : List V) (bor : Bor) (k : V → Bor → Option β) : Option β := match args, bor with
  | [a0], [] => aG a0 fun p0 => F_tx_null β L p0 (fun p0 => k (V.sc (.bool p0)) [])
  | _, _ => none
theorem d_tx_null_ok (L : Nat) (β : Type) (args : List V) (bor : Bor) (k : V → Bor → Option β) (r : β) (h : d_tx_null F_tx_null L β args bor k = some r) : funC sh_tx_null (cb_tx_null L) L cf_tx_null args bor k = some r := by
  unfold d_tx_null at h
  split at h
  · have q := aG_inv h; clear h; obtain ⟨p0, rfl, h⟩ := q
    exact (R_tx_null_ok L p0 k).trans h
  · cases h
/-! tx_Coinbase : 151 -/
def cf_tx_Coinbase : CF := ⟨15, [.tmp 2],
 (.seq (.reg [⟨(some 1), false, none, .box false (.tmp 0)⟩,
   ⟨(some 2), false, none, .move (.const (.sc (.bool false))) false⟩])
 (.seq (.reg [⟨(some 3), false, none, .fieldAddr 1 (.tmp 1)⟩,
   ⟨(some 4), false, none, .load false 1 (.tmp 3) false⟩,
   ⟨(some 5), false, none, .lenS (.tmp 4)⟩,
   ⟨(some 6), false, none, .bin .eql (.tmp 5) (.const (.sc (.int .i64 1)))⟩,
   ⟨(some 7), false, none, .move (.tmp 6) false⟩,
   ⟨(some 8), false, (some (7, true)), .fieldAddr 1 (.tmp 1)⟩,
   ⟨(some 9), false, (some (7, true)), .load false 1 (.tmp 8) false⟩,
   ⟨(some 10), false, (some (7, true)), .indexAddrS 35 (.tmp 9) (.const (.sc (.int .i64 0)))⟩,
   ⟨(some 11), false, (some (7, true)), .fieldAddr 0 (.tmp 10)⟩,
   ⟨(some 12), false, (some (7, true)), .load true 33 (.tmp 11) false⟩,
   ⟨(some 13), false, (some (7, true)), .call 188 [((.tmp 12), false)]⟩,
   ⟨(some 14), false, none, .pick (.tmp 7) (.tmp 13) (.const (.sc (.bool false)))⟩,
   ⟨(some 2), false, none, .move (.tmp 14) false⟩])
 .ret))⟩
def hint_tx_Coinbase : Hint := ⟨[], [], [none], []⟩
def sh_tx_Coinbase : Nat → Sh := shOf [(1, (.row [(.int .u32), (.sl 35), (.sl 2), (.int .u32)]))]
def cb_tx_Coinbase (F_tx_null : T_tx_null) (L : Nat) : CBC := (addC 188 (d_tx_null F_tx_null L) noC)
def R_tx_Coinbase {β : Type} (F_tx_null : T_tx_null) (L : Nat) (p0 : List V) (k_fin : Bool → Option β) : Option β :=
 chk (List.length p0 = 4) (
 cI .u32 p0 0 fun v0 =>
 cL 35 p0 1 fun v1 =>
 cL 2 p0 2 fun v2 =>
 cI .u32 p0 3 fun v3 =>
 ifb ((((List.length v1 : Nat) : Int) : Int) == (1 : Int)) (
 idx v1 (0 : Int) fun c4 =>
 F_tx_null β L (List.take 33 c4) (fun v5 =>
 k_fin v5)) (
 k_fin false))
theorem R_tx_Coinbase_ok {β : Type} (F_tx_null : T_tx_null) (L : Nat) (p0 : List V) (k : V → Bor → Option β) : funC sh_tx_Coinbase (cb_tx_Coinbase F_tx_null L) L cf_tx_Coinbase [(V.agg p0)] [] k = R_tx_Coinbase F_tx_null L p0 (fun p0 => k (V.sc (.bool p0)) []) := by kernel_rfl
abbrev T_tx_Coinbase := ∀ (β : Type), Nat → List V → (Bool → Option β) → Option β
def F_tx_Coinbase (β : Type) (L : Nat) (p0 : List V) (k_fin : Bool → Option β) : Option β := R_tx_Coinbase F_tx_null L p0 k_fin
def d_tx_Coinbase (F_tx_Coinbase : T_tx_Coinbase) (L : Nat) (β : Type) (args : List V) (bor : Bor) (k : V → Bor → Option β) : Option β := match args, bor with
  | [a0], [] => aG a0 fun p0 => F_tx_Coinbase β L p0 (fun p0 => k (V.sc (.bool p0)) [])
  | _, _ => none
theorem d_tx_Coinbase_ok (L : Nat) (β : Type) (args : List V) (bor : Bor) (k : V → Bor → Option β) (r : β) (h : d_tx_Coinbase F_tx_Coinbase L β args bor k = some r) : funC sh_tx_Coinbase (cb_tx_Coinbase F_tx_null L) L cf_tx_Coinbase args bor k = some r := by
  unfold d_tx_Coinbase at h
  split at h
  · have q := aG_inv h; clear h; obtain ⟨p0, rfl, h⟩ := q
    exact (R_tx_Coinbase_ok F_tx_null L p0 k).trans h
  · cases h

end Go.Proofs.Ytoeobffjdbdpgaa
