/- The functions of this seat, as they compute on plain values. Printed by lift2.py. -/
import Derived.Test.YtoeobffjdbdpgaaFtx2
namespace Go.Proofs.Ytoeobffjdbdpgaa
set_option maxRecDepth 100000
set_option linter.unusedVariables false
/-! ref09_Fits : 148 -/
def cbbbabaabbaabbbaa_ref09_Fits : CC := (.seq (.reg [⟨(some 51), false, none, .bin .lss (.tmp 50) (.tmp 49)⟩])
 (.seq (.cond (.tmp 51)
 .skip
 (.seq (.mask (bl 962072674306 63) (bl 9187343239835811579 63))
 (.exit 4)))
 (.seq (.block 5 (.seq (.reg [⟨(some 52), false, none, .indexAddrS 1 (.tmp 48) (.tmp 50)⟩,
   ⟨(some 53), false, none, .load false 1 (.tmp 52) false⟩,
   ⟨(some 8), false, none, .move (.tmp 53) true⟩])
 (.seq (.reg [⟨(some 54), false, none, .move (.tmp 8) true⟩,
   ⟨(some 55), false, none, .lenS (.tmp 54)⟩,
   ⟨(some 56), false, none, .bin .gtr (.tmp 55) (.const (.sc (.int .i64 520)))⟩])
 (.cond (.tmp 56)
 (.seq (.reg [⟨(some 2), false, none, .move (.const (.sc (.bool false))) false⟩])
 (.seq (.mask (bl 4 63) (bl 9186745105510301375 63))
 .ret))
 .skip))))
 (.reg [⟨(some 57), false, none, .bin .add (.tmp 50) (.const (.sc (.int .i64 1)))⟩,
   ⟨(some 50), false, none, .move (.tmp 57) false⟩]))))
def cbbbabaabbb_ref09_Fits : CC := (.reg [⟨(some 58), false, none, .bin .add (.tmp 39) (.const (.sc (.int .i64 1)))⟩,
   ⟨(some 39), false, none, .move (.tmp 58) false⟩])
def cbbbabaa_ref09_Fits : CC := (.seq (.reg [⟨(some 40), false, none, .bin .lss (.tmp 39) (.tmp 38)⟩])
 (.seq (.cond (.tmp 40)
 .skip
 (.seq (.mask (bl 2 63) (bl 9186745105510301371 63))
 (.exit 2)))
 (.seq (.block 3 (.seq (.reg [⟨(some 41), false, none, .indexAddrS 35 (.tmp 37) (.tmp 39)⟩,
   ⟨(some 42), false, none, .load true 35 (.tmp 41) false⟩,
   ⟨(some 6), false, none, .alloc false [(.sc (.int .u8 0)), (.sc (.int .u8 0)), (.sc (.int .u8 0)), (.sc (.int .u8 0)), (.sc (.int .u8 0)), (.sc (.int .u8 0)), (.sc (.int .u8 0)), (.sc (.int .u8 0)), (.sc (.int .u8 0)), (.sc (.int .u8 0)), (.sc (.int .u8 0)), (.sc (.int .u8 0)), (.sc (.int .u8 0)), (.sc (.int .u8 0)), (.sc (.int .u8 0)), (.sc (.int .u8 0)), (.sc (.int .u8 0)), (.sc (.int .u8 0)), (.sc (.int .u8 0)), (.sc (.int .u8 0)), (.sc (.int .u8 0)), (.sc (.int .u8 0)), (.sc (.int .u8 0)), (.sc (.int .u8 0)), (.sc (.int .u8 0)), (.sc (.int .u8 0)), (.sc (.int .u8 0)), (.sc (.int .u8 0)), (.sc (.int .u8 0)), (.sc (.int .u8 0)), (.sc (.int .u8 0)), (.sc (.int .u8 0)), (.sc (.int .u32 0)), (.sc (.int .u32 0)), (.gs 1 [])]⟩,
   ⟨none, false, none, .store 35 (.tmp 6) (.tmp 42)⟩])
 (.seq (.seq (.reg [⟨(some 43), false, none, .fieldAddr 34 (.tmp 6)⟩,
   ⟨(some 44), false, none, .load false 1 (.tmp 43) false⟩,
   ⟨(some 45), false, none, .lenS (.tmp 44)⟩,
   ⟨(some 46), false, none, .bin .gtr (.tmp 45) (.const (.sc (.int .i64 32)))⟩])
 (.cond (.tmp 46)
 (.seq (.reg [⟨(some 2), false, none, .move (.const (.sc (.bool false))) false⟩])
 (.seq (.mask (bl 4 63) (bl 9186745105510301375 63))
 .ret))
 .skip))
 (.seq (.reg [⟨(some 47), false, none, .fieldAddr 34 (.tmp 6)⟩,
   ⟨(some 48), false, none, .load false 1 (.tmp 47) false⟩,
   ⟨(some 49), false, none, .lenS (.tmp 48)⟩,
   ⟨(some 50), false, none, .move (.const (.sc (.int .i64 0))) false⟩])
 (.block 4 (.loop (bl 1971286909648898 63) (bl 9187343239835811579 63)
 cbbbabaabbaabbbaa_ref09_Fits))))))
 cbbbabaabbb_ref09_Fits)))
def cbbabaa_ref09_Fits : CC := (.seq (.reg [⟨(some 23), false, none, .bin .lss (.tmp 22) (.tmp 21)⟩])
 (.seq (.cond (.tmp 23)
 .skip
 (.seq (.mask (bl 2 63) (bl 9223372032559808491 63))
 (.exit 0)))
 (.seq (.block 1 (.seq (.reg [⟨(some 24), false, none, .indexAddrS 2 (.tmp 20) (.tmp 22)⟩,
   ⟨(some 25), false, none, .load true 2 (.tmp 24) false⟩,
   ⟨(some 4), false, none, .alloc false [(.sc (.int .i64 0)), (.gs 1 [])]⟩,
   ⟨none, false, none, .store 2 (.tmp 4) (.tmp 25)⟩])
 (.seq (.reg [⟨(some 26), false, none, .fieldAddr 0 (.tmp 4)⟩,
   ⟨(some 27), false, none, .load false 1 (.tmp 26) false⟩,
   ⟨(some 28), false, none, .bin .lss (.tmp 27) (.const (.sc (.int .i64 0)))⟩,
   ⟨(some 29), false, none, .move (.tmp 28) false⟩,
   ⟨(some 30), false, (some (29, false)), .fieldAddr 1 (.tmp 4)⟩,
   ⟨(some 31), false, (some (29, false)), .load false 1 (.tmp 30) false⟩,
   ⟨(some 32), false, (some (29, false)), .lenS (.tmp 31)⟩,
   ⟨(some 33), false, (some (29, false)), .bin .gtr (.tmp 32) (.const (.sc (.int .i64 520)))⟩,
   ⟨(some 34), false, none, .pick (.tmp 29) (.const (.sc (.bool true))) (.tmp 33)⟩])
 (.cond (.tmp 34)
 (.seq (.reg [⟨(some 2), false, none, .move (.const (.sc (.bool false))) false⟩])
 (.seq (.mask (bl 4 63) (bl 9223372032559808495 63))
 .ret))
 .skip))))
 (.reg [⟨(some 35), false, none, .bin .add (.tmp 22) (.const (.sc (.int .i64 1)))⟩,
   ⟨(some 22), false, none, .move (.tmp 35) false⟩]))))
def cbbbb_ref09_Fits : CC := (.seq (.reg [⟨(some 59), false, none, .load true 4 (.tmp 1) false⟩,
   ⟨(some 60), false, none, .call 149 [((.tmp 59), true), ((.const (.sc (.bool true))), false)]⟩,
   ⟨(some 61), false, none, .lenS (.tmp 60)⟩,
   ⟨(some 62), false, none, .bin .leq (.tmp 61) (.const (.sc (.int .i64 20000)))⟩,
   ⟨(some 2), false, none, .move (.tmp 62) false⟩])
 .ret)
def cbbb_ref09_Fits : CC := (.seq (.seq (.reg [⟨(some 36), false, none, .fieldAddr 1 (.tmp 1)⟩,
   ⟨(some 37), false, none, .load false 1 (.tmp 36) false⟩,
   ⟨(some 38), false, none, .lenS (.tmp 37)⟩,
   ⟨(some 39), false, none, .move (.const (.sc (.int .i64 0))) false⟩])
 (.block 2 (.loop (bl 962072674306 63) (bl 9186745105510301371 63)
 cbbbabaa_ref09_Fits)))
 cbbbb_ref09_Fits)
def cf_ref09_Fits : CF := ⟨63, [.tmp 2],
 (.seq (.reg [⟨(some 1), false, none, .box false (.tmp 0)⟩,
   ⟨(some 2), false, none, .move (.const (.sc (.bool false))) false⟩])
 (.seq (.seq (.reg [⟨(some 9), false, none, .fieldAddr 1 (.tmp 1)⟩,
   ⟨(some 10), false, none, .load false 1 (.tmp 9) false⟩,
   ⟨(some 11), false, none, .lenS (.tmp 10)⟩,
   ⟨(some 12), false, none, .bin .gtr (.tmp 11) (.const (.sc (.int .i64 64)))⟩,
   ⟨(some 13), false, none, .move (.tmp 12) false⟩,
   ⟨(some 14), false, (some (13, false)), .fieldAddr 2 (.tmp 1)⟩,
   ⟨(some 15), false, (some (13, false)), .load false 1 (.tmp 14) false⟩,
   ⟨(some 16), false, (some (13, false)), .lenS (.tmp 15)⟩,
   ⟨(some 17), false, (some (13, false)), .bin .gtr (.tmp 16) (.const (.sc (.int .i64 64)))⟩,
   ⟨(some 18), false, none, .pick (.tmp 13) (.const (.sc (.bool true))) (.tmp 17)⟩])
 (.cond (.tmp 18)
 (.seq (.reg [⟨(some 2), false, none, .move (.const (.sc (.bool false))) false⟩])
 .ret)
 .skip))
 (.seq (.seq (.reg [⟨(some 19), false, none, .fieldAddr 2 (.tmp 1)⟩,
   ⟨(some 20), false, none, .load false 1 (.tmp 19) false⟩,
   ⟨(some 21), false, none, .lenS (.tmp 20)⟩,
   ⟨(some 22), false, none, .move (.const (.sc (.int .i64 0))) false⟩])
 (.block 0 (.loop (bl 7340034 63) (bl 9223372032559808491 63)
 cbbabaa_ref09_Fits)))
 cbbb_ref09_Fits)))⟩
def hint_ref09_Fits : Hint := ⟨[(16, 2), (17, 0)], [], [none, none, none, some ((bl 7340034 63), (bl 9223372032559808491 63)), none, some ((bl 2 63), (bl 9223372032559808491 63)), none, none, some ((bl 4 63), (bl 9223372032559808495 63)), none, some ((bl 962072674306 63), (bl 9186745105510301371 63)), none, some ((bl 2 63), (bl 9186745105510301371 63)), none, none, some ((bl 4 63), (bl 9186745105510301375 63)), none, some ((bl 1971286909648898 63), (bl 9187343239835811579 63)), none, some ((bl 962072674306 63), (bl 9187343239835811579 63)), none, none, some ((bl 4 63), (bl 9186745105510301375 63)), none], []⟩
def sh_ref09_Fits : Nat → Sh := shOf [(1, (.row [(.int .u32), (.sl 35), (.sl 2), (.int .u32)])), (25, (.row [(.int .i64), (.sl 1)])), (42, (.row [(.int .u8), (.int .u8), (.int .u8), (.int .u8), (.int .u8), (.int .u8), (.int .u8), (.int .u8), (.int .u8), (.int .u8), (.int .u8), (.int .u8), (.int .u8), (.int .u8), (.int .u8), (.int .u8), (.int .u8), (.int .u8), (.int .u8), (.int .u8), (.int .u8), (.int .u8), (.int .u8), (.int .u8), (.int .u8), (.int .u8), (.int .u8), (.int .u8), (.int .u8), (.int .u8), (.int .u8), (.int .u8), (.int .u32), (.int .u32), (.sl 1)])), (53, (.sl 1))]
def cb_ref09_Fits (F_ref09_encode : T_ref09_encode) (L : Nat) : CBC := (addC 149 (d_ref09_encode F_ref09_encode L) noC)
def mbbaba_ref09_Fits : St → St := mask (bl 7340034 63) (bl 9223372032559808491 63)
def mbbbaba_ref09_Fits : St → St := mask (bl 962072674306 63) (bl 9186745105510301371 63)
def mbbbabaabbaabbba_ref09_Fits : St → St := mask (bl 1971286909648898 63) (bl 9187343239835811579 63)
def st_hbbaba_ref09_Fits (p20 : List (List V)) (p21 : Int) (p22 : Int) (b1_0 : Int) (b1_1 : List (List V)) (b1_2 : List (List V)) (b1_3 : Int) : St := ⟨[.junk, (V.ptr 1 0), .junk, .junk, .junk, .junk, .junk, .junk, .junk, .junk, .junk, .junk, .junk, .junk, .junk, .junk, .junk, .junk, .junk, .junk, (V.sl 2 p20), (V.sc (.int .i64 p21)), (V.sc (.int .i64 p22)), .junk, .junk, .junk, .junk, .junk, .junk, .junk, .junk, .junk, .junk, .junk, .junk, .junk, .junk, .junk, .junk, .junk, .junk, .junk, .junk, .junk, .junk, .junk, .junk, .junk, .junk, .junk, .junk, .junk, .junk, .junk, .junk, .junk, .junk, .junk, .junk, .junk, .junk, .junk, .junk], [.gone, (.live false [(V.sc (.int .u32 b1_0)), (V.sl 35 b1_1), (V.sl 2 b1_2), (V.sc (.int .u32 b1_3))]), .gone, .gone, .gone, .gone, .gone, .gone, .gone, .gone, .gone, .gone, .gone, .gone, .gone, .gone, .gone, .gone, .gone, .gone, .gone, .gone, .gone, .gone, .gone, .gone, .gone, .gone, .gone, .gone, .gone, .gone, .gone, .gone, .gone, .gone, .gone, .gone, .gone, .gone, .gone, .gone, .gone, .gone, .gone, .gone, .gone, .gone, .gone, .gone, .gone, .gone, .gone, .gone, .gone, .gone, .gone, .gone, .gone, .gone, .gone, .gone, .gone]⟩
def st_ret_ref09_Fits (p2 : Bool) (b1_0 : Int) (b1_1 : List (List V)) (b1_2 : List (List V)) (b1_3 : Int) : St := ⟨[.junk, .junk, (V.sc (.bool p2)), .junk, .junk, .junk, .junk, .junk, .junk, .junk, .junk, .junk, .junk, .junk, .junk, .junk, .junk, .junk, .junk, .junk, .junk, .junk, .junk, .junk, .junk, .junk, .junk, .junk, .junk, .junk, .junk, .junk, .junk, .junk, .junk, .junk, .junk, .junk, .junk, .junk, .junk, .junk, .junk, .junk, .junk, .junk, .junk, .junk, .junk, .junk, .junk, .junk, .junk, .junk, .junk, .junk, .junk, .junk, .junk, .junk, .junk, .junk, .junk], [.gone, (.live false [(V.sc (.int .u32 b1_0)), (V.sl 35 b1_1), (V.sl 2 b1_2), (V.sc (.int .u32 b1_3))]), .gone, .gone, .gone, .gone, .gone, .gone, .gone, .gone, .gone, .gone, .gone, .gone, .gone, .gone, .gone, .gone, .gone, .gone, .gone, .gone, .gone, .gone, .gone, .gone, .gone, .gone, .gone, .gone, .gone, .gone, .gone, .gone, .gone, .gone, .gone, .gone, .gone, .gone, .gone, .gone, .gone, .gone, .gone, .gone, .gone, .gone, .gone, .gone, .gone, .gone, .gone, .gone, .gone, .gone, .gone, .gone, .gone, .gone, .gone, .gone, .gone]⟩
def st_x0_ref09_Fits (b1_0 : Int) (b1_1 : List (List V)) (b1_2 : List (List V)) (b1_3 : Int) : St := ⟨[.junk, (V.ptr 1 0), .junk, .junk, .junk, .junk, .junk, .junk, .junk, .junk, .junk, .junk, .junk, .junk, .junk, .junk, .junk, .junk, .junk, .junk, .junk, .junk, .junk, .junk, .junk, .junk, .junk, .junk, .junk, .junk, .junk, .junk, .junk, .junk, .junk, .junk, .junk, .junk, .junk, .junk, .junk, .junk, .junk, .junk, .junk, .junk, .junk, .junk, .junk, .junk, .junk, .junk, .junk, .junk, .junk, .junk, .junk, .junk, .junk, .junk, .junk, .junk, .junk], [.gone, (.live false [(V.sc (.int .u32 b1_0)), (V.sl 35 b1_1), (V.sl 2 b1_2), (V.sc (.int .u32 b1_3))]), .gone, .gone, .gone, .gone, .gone, .gone, .gone, .gone, .gone, .gone, .gone, .gone, .gone, .gone, .gone, .gone, .gone, .gone, .gone, .gone, .gone, .gone, .gone, .gone, .gone, .gone, .gone, .gone, .gone, .gone, .gone, .gone, .gone, .gone, .gone, .gone, .gone, .gone, .gone, .gone, .gone, .gone, .gone, .gone, .gone, .gone, .gone, .gone, .gone, .gone, .gone, .gone, .gone, .gone, .gone, .gone, .gone, .gone, .gone, .gone, .gone]⟩
def st_hbbbaba_ref09_Fits (p37 : List (List V)) (p38 : Int) (p39 : Int) (b1_0 : Int) (b1_1 : List (List V)) (b1_2 : List (List V)) (b1_3 : Int) : St := ⟨[.junk, (V.ptr 1 0), .junk, .junk, .junk, .junk, .junk, .junk, .junk, .junk, .junk, .junk, .junk, .junk, .junk, .junk, .junk, .junk, .junk, .junk, .junk, .junk, .junk, .junk, .junk, .junk, .junk, .junk, .junk, .junk, .junk, .junk, .junk, .junk, .junk, .junk, .junk, (V.sl 35 p37), (V.sc (.int .i64 p38)), (V.sc (.int .i64 p39)), .junk, .junk, .junk, .junk, .junk, .junk, .junk, .junk, .junk, .junk, .junk, .junk, .junk, .junk, .junk, .junk, .junk, .junk, .junk, .junk, .junk, .junk, .junk], [.gone, (.live false [(V.sc (.int .u32 b1_0)), (V.sl 35 b1_1), (V.sl 2 b1_2), (V.sc (.int .u32 b1_3))]), .gone, .gone, .gone, .gone, .gone, .gone, .gone, .gone, .gone, .gone, .gone, .gone, .gone, .gone, .gone, .gone, .gone, .gone, .gone, .gone, .gone, .gone, .gone, .gone, .gone, .gone, .gone, .gone, .gone, .gone, .gone, .gone, .gone, .gone, .gone, .gone, .gone, .gone, .gone, .gone, .gone, .gone, .gone, .gone, .gone, .gone, .gone, .gone, .gone, .gone, .gone, .gone, .gone, .gone, .gone, .gone, .gone, .gone, .gone, .gone, .gone]⟩
def st_hbbbabaabbaabbba_ref09_Fits (p37 : List (List V)) (p38 : Int) (p39 : Int) (p48 : List (List V)) (p49 : Int) (p50 : Int) (b1_0 : Int) (b1_1 : List (List V)) (b1_2 : List (List V)) (b1_3 : Int) (b6_0 : Int) (b6_1 : Int) (b6_2 : Int) (b6_3 : Int) (b6_4 : Int) (b6_5 : Int) (b6_6 : Int) (b6_7 : Int) (b6_8 : Int) (b6_9 : Int) (b6_10 : Int) (b6_11 : Int) (b6_12 : Int) (b6_13 : Int) (b6_14 : Int) (b6_15 : Int) (b6_16 : Int) (b6_17 : Int) (b6_18 : Int) (b6_19 : Int) (b6_20 : Int) (b6_21 : Int) (b6_22 : Int) (b6_23 : Int) (b6_24 : Int) (b6_25 : Int) (b6_26 : Int) (b6_27 : Int) (b6_28 : Int) (b6_29 : Int) (b6_30 : Int) (b6_31 : Int) (b6_32 : Int) (b6_33 : Int) (b6_34 : List (List V)) : St := ⟨[.junk, (V.ptr 1 0), .junk, .junk, .junk, .junk, .junk, .junk, .junk, .junk, .junk, .junk, .junk, .junk, .junk, .junk, .junk, .junk, .junk, .junk, .junk, .junk, .junk, .junk, .junk, .junk, .junk, .junk, .junk, .junk, .junk, .junk, .junk, .junk, .junk, .junk, .junk, (V.sl 35 p37), (V.sc (.int .i64 p38)), (V.sc (.int .i64 p39)), .junk, .junk, .junk, .junk, .junk, .junk, .junk, .junk, (V.sl 1 p48), (V.sc (.int .i64 p49)), (V.sc (.int .i64 p50)), .junk, .junk, .junk, .junk, .junk, .junk, .junk, .junk, .junk, .junk, .junk, .junk], [.gone, (.live false [(V.sc (.int .u32 b1_0)), (V.sl 35 b1_1), (V.sl 2 b1_2), (V.sc (.int .u32 b1_3))]), .gone, .gone, .gone, .gone, (.live false [(V.sc (.int .u8 b6_0)), (V.sc (.int .u8 b6_1)), (V.sc (.int .u8 b6_2)), (V.sc (.int .u8 b6_3)), (V.sc (.int .u8 b6_4)), (V.sc (.int .u8 b6_5)), (V.sc (.int .u8 b6_6)), (V.sc (.int .u8 b6_7)), (V.sc (.int .u8 b6_8)), (V.sc (.int .u8 b6_9)), (V.sc (.int .u8 b6_10)), (V.sc (.int .u8 b6_11)), (V.sc (.int .u8 b6_12)), (V.sc (.int .u8 b6_13)), (V.sc (.int .u8 b6_14)), (V.sc (.int .u8 b6_15)), (V.sc (.int .u8 b6_16)), (V.sc (.int .u8 b6_17)), (V.sc (.int .u8 b6_18)), (V.sc (.int .u8 b6_19)), (V.sc (.int .u8 b6_20)), (V.sc (.int .u8 b6_21)), (V.sc (.int .u8 b6_22)), (V.sc (.int .u8 b6_23)), (V.sc (.int .u8 b6_24)), (V.sc (.int .u8 b6_25)), (V.sc (.int .u8 b6_26)), (V.sc (.int .u8 b6_27)), (V.sc (.int .u8 b6_28)), (V.sc (.int .u8 b6_29)), (V.sc (.int .u8 b6_30)), (V.sc (.int .u8 b6_31)), (V.sc (.int .u32 b6_32)), (V.sc (.int .u32 b6_33)), (V.sl 1 b6_34)]), .gone, .gone, .gone, .gone, .gone, .gone, .gone, .gone, .gone, .gone, .gone, .gone, .gone, .gone, .gone, .gone, .gone, .gone, .gone, .gone, .gone, .gone, .gone, .gone, .gone, .gone, .gone, .gone, .gone, .gone, .gone, .gone, .gone, .gone, .gone, .gone, .gone, .gone, .gone, .gone, .gone, .gone, .gone, .gone, .gone, .gone, .gone, .gone, .gone, .gone, .gone, .gone, .gone, .gone, .gone, .gone]⟩
def st_x2_ref09_Fits (b1_0 : Int) (b1_1 : List (List V)) (b1_2 : List (List V)) (b1_3 : Int) : St := ⟨[.junk, (V.ptr 1 0), .junk, .junk, .junk, .junk, .junk, .junk, .junk, .junk, .junk, .junk, .junk, .junk, .junk, .junk, .junk, .junk, .junk, .junk, .junk, .junk, .junk, .junk, .junk, .junk, .junk, .junk, .junk, .junk, .junk, .junk, .junk, .junk, .junk, .junk, .junk, .junk, .junk, .junk, .junk, .junk, .junk, .junk, .junk, .junk, .junk, .junk, .junk, .junk, .junk, .junk, .junk, .junk, .junk, .junk, .junk, .junk, .junk, .junk, .junk, .junk, .junk], [.gone, (.live false [(V.sc (.int .u32 b1_0)), (V.sl 35 b1_1), (V.sl 2 b1_2), (V.sc (.int .u32 b1_3))]), .gone, .gone, .gone, .gone, .gone, .gone, .gone, .gone, .gone, .gone, .gone, .gone, .gone, .gone, .gone, .gone, .gone, .gone, .gone, .gone, .gone, .gone, .gone, .gone, .gone, .gone, .gone, .gone, .gone, .gone, .gone, .gone, .gone, .gone, .gone, .gone, .gone, .gone, .gone, .gone, .gone, .gone, .gone, .gone, .gone, .gone, .gone, .gone, .gone, .gone, .gone, .gone, .gone, .gone, .gone, .gone, .gone, .gone, .gone, .gone, .gone]⟩
def st_x4_ref09_Fits (p37 : List (List V)) (p38 : Int) (p39 : Int) (b1_0 : Int) (b1_1 : List (List V)) (b1_2 : List (List V)) (b1_3 : Int) (b6_0 : Int) (b6_1 : Int) (b6_2 : Int) (b6_3 : Int) (b6_4 : Int) (b6_5 : Int) (b6_6 : Int) (b6_7 : Int) (b6_8 : Int) (b6_9 : Int) (b6_10 : Int) (b6_11 : Int) (b6_12 : Int) (b6_13 : Int) (b6_14 : Int) (b6_15 : Int) (b6_16 : Int) (b6_17 : Int) (b6_18 : Int) (b6_19 : Int) (b6_20 : Int) (b6_21 : Int) (b6_22 : Int) (b6_23 : Int) (b6_24 : Int) (b6_25 : Int) (b6_26 : Int) (b6_27 : Int) (b6_28 : Int) (b6_29 : Int) (b6_30 : Int) (b6_31 : Int) (b6_32 : Int) (b6_33 : Int) (b6_34 : List (List V)) : St := ⟨[.junk, (V.ptr 1 0), .junk, .junk, .junk, .junk, .junk, .junk, .junk, .junk, .junk, .junk, .junk, .junk, .junk, .junk, .junk, .junk, .junk, .junk, .junk, .junk, .junk, .junk, .junk, .junk, .junk, .junk, .junk, .junk, .junk, .junk, .junk, .junk, .junk, .junk, .junk, (V.sl 35 p37), (V.sc (.int .i64 p38)), (V.sc (.int .i64 p39)), .junk, .junk, .junk, .junk, .junk, .junk, .junk, .junk, .junk, .junk, .junk, .junk, .junk, .junk, .junk, .junk, .junk, .junk, .junk, .junk, .junk, .junk, .junk], [.gone, (.live false [(V.sc (.int .u32 b1_0)), (V.sl 35 b1_1), (V.sl 2 b1_2), (V.sc (.int .u32 b1_3))]), .gone, .gone, .gone, .gone, (.live false [(V.sc (.int .u8 b6_0)), (V.sc (.int .u8 b6_1)), (V.sc (.int .u8 b6_2)), (V.sc (.int .u8 b6_3)), (V.sc (.int .u8 b6_4)), (V.sc (.int .u8 b6_5)), (V.sc (.int .u8 b6_6)), (V.sc (.int .u8 b6_7)), (V.sc (.int .u8 b6_8)), (V.sc (.int .u8 b6_9)), (V.sc (.int .u8 b6_10)), (V.sc (.int .u8 b6_11)), (V.sc (.int .u8 b6_12)), (V.sc (.int .u8 b6_13)), (V.sc (.int .u8 b6_14)), (V.sc (.int .u8 b6_15)), (V.sc (.int .u8 b6_16)), (V.sc (.int .u8 b6_17)), (V.sc (.int .u8 b6_18)), (V.sc (.int .u8 b6_19)), (V.sc (.int .u8 b6_20)), (V.sc (.int .u8 b6_21)), (V.sc (.int .u8 b6_22)), (V.sc (.int .u8 b6_23)), (V.sc (.int .u8 b6_24)), (V.sc (.int .u8 b6_25)), (V.sc (.int .u8 b6_26)), (V.sc (.int .u8 b6_27)), (V.sc (.int .u8 b6_28)), (V.sc (.int .u8 b6_29)), (V.sc (.int .u8 b6_30)), (V.sc (.int .u8 b6_31)), (V.sc (.int .u32 b6_32)), (V.sc (.int .u32 b6_33)), (V.sl 1 b6_34)]), .gone, .gone, .gone, .gone, .gone, .gone, .gone, .gone, .gone, .gone, .gone, .gone, .gone, .gone, .gone, .gone, .gone, .gone, .gone, .gone, .gone, .gone, .gone, .gone, .gone, .gone, .gone, .gone, .gone, .gone, .gone, .gone, .gone, .gone, .gone, .gone, .gone, .gone, .gone, .gone, .gone, .gone, .gone, .gone, .gone, .gone, .gone, .gone, .gone, .gone, .gone, .gone, .gone, .gone, .gone, .gone]⟩
def e_ref09_Fits {β : Type} (F_ref09_encode : T_ref09_encode) (L : Nat) (p0 : List V) (k_fin : Bool → Option β) (k_hbbaba : List (List V) → Int → Int → Int → List (List V) → List (List V) → Int → Option β) : Option β :=
 chk (List.length p0 = 4) (
 cI .u32 p0 0 fun v0 =>
 cL 35 p0 1 fun v1 =>
 cL 2 p0 2 fun v2 =>
 cI .u32 p0 3 fun v3 =>
 ifb (decide (((List.length v1 : Nat) : Int) > (64 : Int))) (
 k_fin false) (
 ifb (decide (((List.length v2 : Nat) : Int) > (64 : Int))) (
 k_fin false) (
 k_hbbaba v2 ((List.length v2 : Nat) : Int) (0 : Int) v0 v1 v2 v3)))
theorem e_ref09_Fits_ok {β : Type} (F_ref09_encode : T_ref09_encode) (L : Nat) (p0 : List V) (k : V → Bor → Option β) : funC sh_ref09_Fits (cb_ref09_Fits F_ref09_encode L) L cf_ref09_Fits [(V.agg p0)] [] k = e_ref09_Fits F_ref09_encode L p0 (fun p0 => k (V.sc (.bool p0)) []) (fun p20 p21 p22 b1_0 b1_1 b1_2 b1_3 => loopM (runC sh_ref09_Fits (cb_ref09_Fits F_ref09_encode L) 0 L cbbabaa_ref09_Fits) mbbaba_ref09_Fits L (st_hbbaba_ref09_Fits p20 p21 p22 b1_0 b1_1 b1_2 b1_3) (blockK 0 (seqK (runC sh_ref09_Fits (cb_ref09_Fits F_ref09_encode L) 0 L cbbb_ref09_Fits) (finK 0 (CF.res cf_ref09_Fits) k)))) := by kernel_rfl
def bbbaba_ref09_Fits {β : Type} (F_ref09_encode : T_ref09_encode) (L : Nat) (p20 : List (List V)) (p21 : Int) (p22 : Int) (b1_0 : Int) (b1_1 : List (List V)) (b1_2 : List (List V)) (b1_3 : Int) (k_ret : Bool → Int → List (List V) → List (List V) → Int → Option β) (k_hbbaba : List (List V) → Int → Int → Int → List (List V) → List (List V) → Int → Option β) (k_x0 : Int → List (List V) → List (List V) → Int → Option β) : Option β :=
 ifb (decide (p22 < p21)) (
 idx p20 p22 fun c4 =>
 chk (List.length (List.take 2 c4) = 2) (
 cI .i64 (List.take 2 c4) 0 fun v5 =>
 cL 1 (List.take 2 c4) 1 fun v6 =>
 ifb (decide (v5 < (0 : Int))) (
 k_ret false b1_0 b1_1 b1_2 b1_3) (
 ifb (decide (((List.length v6 : Nat) : Int) > (520 : Int))) (
 k_ret false b1_0 b1_1 b1_2 b1_3) (
 lt (IntKind.wrap .i64 ((p22 : Int) + (1 : Int))) fun x7 =>
 k_hbbaba p20 p21 x7 b1_0 b1_1 b1_2 b1_3)))) (
 k_x0 b1_0 b1_1 b1_2 b1_3)
theorem bbbaba_ref09_Fits_ok {β : Type} (F_ref09_encode : T_ref09_encode) (L : Nat) (p20 : List (List V)) (p21 : Int) (p22 : Int) (b1_0 : Int) (b1_1 : List (List V)) (b1_2 : List (List V)) (b1_3 : Int) (X : St → Option β) (K : KT β) : runC sh_ref09_Fits (cb_ref09_Fits F_ref09_encode L) 0 L cbbabaa_ref09_Fits (st_hbbaba_ref09_Fits p20 p21 p22 b1_0 b1_1 b1_2 b1_3) (loopK mbbaba_ref09_Fits X K) = bbbaba_ref09_Fits F_ref09_encode L p20 p21 p22 b1_0 b1_1 b1_2 b1_3 (fun p2 b1_0 b1_1 b1_2 b1_3 => K .ret (st_ret_ref09_Fits p2 b1_0 b1_1 b1_2 b1_3)) (fun p20 p21 p22 b1_0 b1_1 b1_2 b1_3 => X (st_hbbaba_ref09_Fits p20 p21 p22 b1_0 b1_1 b1_2 b1_3)) (fun b1_0 b1_1 b1_2 b1_3 => K (.exit 0) (st_x0_ref09_Fits b1_0 b1_1 b1_2 b1_3)) := by kernel_rfl
def rbbabaret_ref09_Fits {β : Type} (F_ref09_encode : T_ref09_encode) (L : Nat) (p2 : Bool) (b1_0 : Int) (b1_1 : List (List V)) (b1_2 : List (List V)) (b1_3 : Int) (k_fin : Bool → Option β) : Option β :=
 k_fin p2
theorem rbbabaret_ref09_Fits_ok {β : Type} (F_ref09_encode : T_ref09_encode) (L : Nat) (p2 : Bool) (b1_0 : Int) (b1_1 : List (List V)) (b1_2 : List (List V)) (b1_3 : Int) (k : V → Bor → Option β) : (blockK 0 (seqK (runC sh_ref09_Fits (cb_ref09_Fits F_ref09_encode L) 0 L cbbb_ref09_Fits) (finK 0 (CF.res cf_ref09_Fits) k))) .ret (st_ret_ref09_Fits p2 b1_0 b1_1 b1_2 b1_3) = rbbabaret_ref09_Fits F_ref09_encode L p2 b1_0 b1_1 b1_2 b1_3 (fun p0 => k (V.sc (.bool p0)) []) := by kernel_rfl
def rbbabax0_ref09_Fits {β : Type} (F_ref09_encode : T_ref09_encode) (L : Nat) (b1_0 : Int) (b1_1 : List (List V)) (b1_2 : List (List V)) (b1_3 : Int) (k_hbbbaba : List (List V) → Int → Int → Int → List (List V) → List (List V) → Int → Option β) : Option β :=
 k_hbbbaba b1_1 ((List.length b1_1 : Nat) : Int) (0 : Int) b1_0 b1_1 b1_2 b1_3
theorem rbbabax0_ref09_Fits_ok {β : Type} (F_ref09_encode : T_ref09_encode) (L : Nat) (b1_0 : Int) (b1_1 : List (List V)) (b1_2 : List (List V)) (b1_3 : Int) (k : V → Bor → Option β) : (blockK 0 (seqK (runC sh_ref09_Fits (cb_ref09_Fits F_ref09_encode L) 0 L cbbb_ref09_Fits) (finK 0 (CF.res cf_ref09_Fits) k))) (.exit 0) (st_x0_ref09_Fits b1_0 b1_1 b1_2 b1_3) = rbbabax0_ref09_Fits F_ref09_encode L b1_0 b1_1 b1_2 b1_3 (fun p37 p38 p39 b1_0 b1_1 b1_2 b1_3 => loopM (runC sh_ref09_Fits (cb_ref09_Fits F_ref09_encode L) 0 L cbbbabaa_ref09_Fits) mbbbaba_ref09_Fits L (st_hbbbaba_ref09_Fits p37 p38 p39 b1_0 b1_1 b1_2 b1_3) (blockK 2 (seqK (runC sh_ref09_Fits (cb_ref09_Fits F_ref09_encode L) 0 L cbbbb_ref09_Fits) (finK 0 (CF.res cf_ref09_Fits) k)))) := by kernel_rfl
def bbbbaba_ref09_Fits {β : Type} (F_ref09_encode : T_ref09_encode) (L : Nat) (p37 : List (List V)) (p38 : Int) (p39 : Int) (b1_0 : Int) (b1_1 : List (List V)) (b1_2 : List (List V)) (b1_3 : Int) (k_ret : Bool → Int → List (List V) → List (List V) → Int → Option β) (k_hbbbabaabbaabbba : List (List V) → Int → Int → List (List V) → Int → Int → Int → List (List V) → List (List V) → Int → Int → Int → Int → Int → Int → Int → Int → Int → Int → Int → Int → Int → Int → Int → Int → Int → Int → Int → Int → Int → Int → Int → Int → Int → Int → Int → Int → Int → Int → Int → Int → Int → Int → Int → List (List V) → Option β) (k_x2 : Int → List (List V) → List (List V) → Int → Option β) : Option β :=
 ifb (decide (p39 < p38)) (
 idx p37 p39 fun c8 =>
 chk (List.length (List.take 35 c8) = 35) (
 cI .u8 (List.take 35 c8) 0 fun v9 =>
 cI .u8 (List.take 35 c8) 1 fun v10 =>
 cI .u8 (List.take 35 c8) 2 fun v11 =>
 cI .u8 (List.take 35 c8) 3 fun v12 =>
 cI .u8 (List.take 35 c8) 4 fun v13 =>
 cI .u8 (List.take 35 c8) 5 fun v14 =>
 cI .u8 (List.take 35 c8) 6 fun v15 =>
 cI .u8 (List.take 35 c8) 7 fun v16 =>
 cI .u8 (List.take 35 c8) 8 fun v17 =>
 cI .u8 (List.take 35 c8) 9 fun v18 =>
 cI .u8 (List.take 35 c8) 10 fun v19 =>
 cI .u8 (List.take 35 c8) 11 fun v20 =>
 cI .u8 (List.take 35 c8) 12 fun v21 =>
 cI .u8 (List.take 35 c8) 13 fun v22 =>
 cI .u8 (List.take 35 c8) 14 fun v23 =>
 cI .u8 (List.take 35 c8) 15 fun v24 =>
 cI .u8 (List.take 35 c8) 16 fun v25 =>
 cI .u8 (List.take 35 c8) 17 fun v26 =>
 cI .u8 (List.take 35 c8) 18 fun v27 =>
 cI .u8 (List.take 35 c8) 19 fun v28 =>
 cI .u8 (List.take 35 c8) 20 fun v29 =>
 cI .u8 (List.take 35 c8) 21 fun v30 =>
 cI .u8 (List.take 35 c8) 22 fun v31 =>
 cI .u8 (List.take 35 c8) 23 fun v32 =>
 cI .u8 (List.take 35 c8) 24 fun v33 =>
 cI .u8 (List.take 35 c8) 25 fun v34 =>
 cI .u8 (List.take 35 c8) 26 fun v35 =>
 cI .u8 (List.take 35 c8) 27 fun v36 =>
 cI .u8 (List.take 35 c8) 28 fun v37 =>
 cI .u8 (List.take 35 c8) 29 fun v38 =>
 cI .u8 (List.take 35 c8) 30 fun v39 =>
 cI .u8 (List.take 35 c8) 31 fun v40 =>
 cI .u32 (List.take 35 c8) 32 fun v41 =>
 cI .u32 (List.take 35 c8) 33 fun v42 =>
 cL 1 (List.take 35 c8) 34 fun v43 =>
 ifb (decide (((List.length v43 : Nat) : Int) > (32 : Int))) (
 k_ret false b1_0 b1_1 b1_2 b1_3) (
 k_hbbbabaabbaabbba p37 p38 p39 v43 ((List.length v43 : Nat) : Int) (0 : Int) b1_0 b1_1 b1_2 b1_3 v9 v10 v11 v12 v13 v14 v15 v16 v17 v18 v19 v20 v21 v22 v23 v24 v25 v26 v27 v28 v29 v30 v31 v32 v33 v34 v35 v36 v37 v38 v39 v40 v41 v42 v43))) (
 k_x2 b1_0 b1_1 b1_2 b1_3)
theorem bbbbaba_ref09_Fits_ok {β : Type} (F_ref09_encode : T_ref09_encode) (L : Nat) (p37 : List (List V)) (p38 : Int) (p39 : Int) (b1_0 : Int) (b1_1 : List (List V)) (b1_2 : List (List V)) (b1_3 : Int) (X : St → Option β) (K : KT β) : runC sh_ref09_Fits (cb_ref09_Fits F_ref09_encode L) 0 L cbbbabaa_ref09_Fits (st_hbbbaba_ref09_Fits p37 p38 p39 b1_0 b1_1 b1_2 b1_3) (loopK mbbbaba_ref09_Fits X K) = bbbbaba_ref09_Fits F_ref09_encode L p37 p38 p39 b1_0 b1_1 b1_2 b1_3 (fun p2 b1_0 b1_1 b1_2 b1_3 => K .ret (st_ret_ref09_Fits p2 b1_0 b1_1 b1_2 b1_3)) (fun p37 p38 p39 p48 p49 p50 b1_0 b1_1 b1_2 b1_3 b6_0 b6_1 b6_2 b6_3 b6_4 b6_5 b6_6 b6_7 b6_8 b6_9 b6_10 b6_11 b6_12 b6_13 b6_14 b6_15 b6_16 b6_17 b6_18 b6_19 b6_20 b6_21 b6_22 b6_23 b6_24 b6_25 b6_26 b6_27 b6_28 b6_29 b6_30 b6_31 b6_32 b6_33 b6_34 => loopM (runC sh_ref09_Fits (cb_ref09_Fits F_ref09_encode L) 0 L cbbbabaabbaabbbaa_ref09_Fits) mbbbabaabbaabbba_ref09_Fits L (st_hbbbabaabbaabbba_ref09_Fits p37 p38 p39 p48 p49 p50 b1_0 b1_1 b1_2 b1_3 b6_0 b6_1 b6_2 b6_3 b6_4 b6_5 b6_6 b6_7 b6_8 b6_9 b6_10 b6_11 b6_12 b6_13 b6_14 b6_15 b6_16 b6_17 b6_18 b6_19 b6_20 b6_21 b6_22 b6_23 b6_24 b6_25 b6_26 b6_27 b6_28 b6_29 b6_30 b6_31 b6_32 b6_33 b6_34) (blockK 4 (blockK 3 (seqK (runC sh_ref09_Fits (cb_ref09_Fits F_ref09_encode L) 0 L cbbbabaabbb_ref09_Fits) (loopK mbbbaba_ref09_Fits X K))))) (fun b1_0 b1_1 b1_2 b1_3 => K (.exit 2) (st_x2_ref09_Fits b1_0 b1_1 b1_2 b1_3)) := by kernel_rfl
def rbbbabaret_ref09_Fits {β : Type} (F_ref09_encode : T_ref09_encode) (L : Nat) (p2 : Bool) (b1_0 : Int) (b1_1 : List (List V)) (b1_2 : List (List V)) (b1_3 : Int) (k_fin : Bool → Option β) : Option β :=
 k_fin p2
theorem rbbbabaret_ref09_Fits_ok {β : Type} (F_ref09_encode : T_ref09_encode) (L : Nat) (p2 : Bool) (b1_0 : Int) (b1_1 : List (List V)) (b1_2 : List (List V)) (b1_3 : Int) (k : V → Bor → Option β) : (blockK 2 (seqK (runC sh_ref09_Fits (cb_ref09_Fits F_ref09_encode L) 0 L cbbbb_ref09_Fits) (finK 0 (CF.res cf_ref09_Fits) k))) .ret (st_ret_ref09_Fits p2 b1_0 b1_1 b1_2 b1_3) = rbbbabaret_ref09_Fits F_ref09_encode L p2 b1_0 b1_1 b1_2 b1_3 (fun p0 => k (V.sc (.bool p0)) []) := by kernel_rfl
def rbbbabax2_ref09_Fits {β : Type} (F_ref09_encode : T_ref09_encode) (L : Nat) (b1_0 : Int) (b1_1 : List (List V)) (b1_2 : List (List V)) (b1_3 : Int) (k_fin : Bool → Option β) : Option β :=
 F_ref09_encode β L [(V.sc (.int .u32 b1_0)), (V.sl 35 b1_1), (V.sl 2 b1_2), (V.sc (.int .u32 b1_3))] true (fun v44 =>
 k_fin (decide (((List.length v44 : Nat) : Int) ≤ (20000 : Int))))
theorem rbbbabax2_ref09_Fits_ok {β : Type} (F_ref09_encode : T_ref09_encode) (L : Nat) (b1_0 : Int) (b1_1 : List (List V)) (b1_2 : List (List V)) (b1_3 : Int) (k : V → Bor → Option β) : (blockK 2 (seqK (runC sh_ref09_Fits (cb_ref09_Fits F_ref09_encode L) 0 L cbbbb_ref09_Fits) (finK 0 (CF.res cf_ref09_Fits) k))) (.exit 2) (st_x2_ref09_Fits b1_0 b1_1 b1_2 b1_3) = rbbbabax2_ref09_Fits F_ref09_encode L b1_0 b1_1 b1_2 b1_3 (fun p0 => k (V.sc (.bool p0)) []) := by kernel_rfl
def bbbbabaabbaabbba_ref09_Fits {β : Type} (F_ref09_encode : T_ref09_encode) (L : Nat) (p37 : List (List V)) (p38 : Int) (p39 : Int) (p48 : List (List V)) (p49 : Int) (p50 : Int) (b1_0 : Int) (b1_1 : List (List V)) (b1_2 : List (List V)) (b1_3 : Int) (b6_0 : Int) (b6_1 : Int) (b6_2 : Int) (b6_3 : Int) (b6_4 : Int) (b6_5 : Int) (b6_6 : Int) (b6_7 : Int) (b6_8 : Int) (b6_9 : Int) (b6_10 : Int) (b6_11 : Int) (b6_12 : Int) (b6_13 : Int) (b6_14 : Int) (b6_15 : Int) (b6_16 : Int) (b6_17 : Int) (b6_18 : Int) (b6_19 : Int) (b6_20 : Int) (b6_21 : Int) (b6_22 : Int) (b6_23 : Int) (b6_24 : Int) (b6_25 : Int) (b6_26 : Int) (b6_27 : Int) (b6_28 : Int) (b6_29 : Int) (b6_30 : Int) (b6_31 : Int) (b6_32 : Int) (b6_33 : Int) (b6_34 : List (List V)) (k_ret : Bool → Int → List (List V) → List (List V) → Int → Option β) (k_hbbbabaabbaabbba : List (List V) → Int → Int → List (List V) → Int → Int → Int → List (List V) → List (List V) → Int → Int → Int → Int → Int → Int → Int → Int → Int → Int → Int → Int → Int → Int → Int → Int → Int → Int → Int → Int → Int → Int → Int → Int → Int → Int → Int → Int → Int → Int → Int → Int → Int → Int → Int → List (List V) → Option β) (k_x4 : List (List V) → Int → Int → Int → List (List V) → List (List V) → Int → Int → Int → Int → Int → Int → Int → Int → Int → Int → Int → Int → Int → Int → Int → Int → Int → Int → Int → Int → Int → Int → Int → Int → Int → Int → Int → Int → Int → Int → Int → Int → Int → Int → Int → List (List V) → Option β) : Option β :=
 ifb (decide (p50 < p49)) (
 idx p48 p50 fun c45 =>
 cL 1 c45 0 fun v46 =>
 ifb (decide (((List.length v46 : Nat) : Int) > (520 : Int))) (
 k_ret false b1_0 b1_1 b1_2 b1_3) (
 lt (IntKind.wrap .i64 ((p50 : Int) + (1 : Int))) fun x47 =>
 k_hbbbabaabbaabbba p37 p38 p39 p48 p49 x47 b1_0 b1_1 b1_2 b1_3 b6_0 b6_1 b6_2 b6_3 b6_4 b6_5 b6_6 b6_7 b6_8 b6_9 b6_10 b6_11 b6_12 b6_13 b6_14 b6_15 b6_16 b6_17 b6_18 b6_19 b6_20 b6_21 b6_22 b6_23 b6_24 b6_25 b6_26 b6_27 b6_28 b6_29 b6_30 b6_31 b6_32 b6_33 b6_34)) (
 k_x4 p37 p38 p39 b1_0 b1_1 b1_2 b1_3 b6_0 b6_1 b6_2 b6_3 b6_4 b6_5 b6_6 b6_7 b6_8 b6_9 b6_10 b6_11 b6_12 b6_13 b6_14 b6_15 b6_16 b6_17 b6_18 b6_19 b6_20 b6_21 b6_22 b6_23 b6_24 b6_25 b6_26 b6_27 b6_28 b6_29 b6_30 b6_31 b6_32 b6_33 b6_34)
theorem bbbbabaabbaabbba_ref09_Fits_ok {β : Type} (F_ref09_encode : T_ref09_encode) (L : Nat) (p37 : List (List V)) (p38 : Int) (p39 : Int) (p48 : List (List V)) (p49 : Int) (p50 : Int) (b1_0 : Int) (b1_1 : List (List V)) (b1_2 : List (List V)) (b1_3 : Int) (b6_0 : Int) (b6_1 : Int) (b6_2 : Int) (b6_3 : Int) (b6_4 : Int) (b6_5 : Int) (b6_6 : Int) (b6_7 : Int) (b6_8 : Int) (b6_9 : Int) (b6_10 : Int) (b6_11 : Int) (b6_12 : Int) (b6_13 : Int) (b6_14 : Int) (b6_15 : Int) (b6_16 : Int) (b6_17 : Int) (b6_18 : Int) (b6_19 : Int) (b6_20 : Int) (b6_21 : Int) (b6_22 : Int) (b6_23 : Int) (b6_24 : Int) (b6_25 : Int) (b6_26 : Int) (b6_27 : Int) (b6_28 : Int) (b6_29 : Int) (b6_30 : Int) (b6_31 : Int) (b6_32 : Int) (b6_33 : Int) (b6_34 : List (List V)) (X : St → Option β) (K : KT β) : runC sh_ref09_Fits (cb_ref09_Fits F_ref09_encode L) 0 L cbbbabaabbaabbbaa_ref09_Fits (st_hbbbabaabbaabbba_ref09_Fits p37 p38 p39 p48 p49 p50 b1_0 b1_1 b1_2 b1_3 b6_0 b6_1 b6_2 b6_3 b6_4 b6_5 b6_6 b6_7 b6_8 b6_9 b6_10 b6_11 b6_12 b6_13 b6_14 b6_15 b6_16 b6_17 b6_18 b6_19 b6_20 b6_21 b6_22 b6_23 b6_24 b6_25 b6_26 b6_27 b6_28 b6_29 b6_30 b6_31 b6_32 b6_33 b6_34) (loopK mbbbabaabbaabbba_ref09_Fits X K) = bbbbabaabbaabbba_ref09_Fits F_ref09_encode L p37 p38 p39 p48 p49 p50 b1_0 b1_1 b1_2 b1_3 b6_0 b6_1 b6_2 b6_3 b6_4 b6_5 b6_6 b6_7 b6_8 b6_9 b6_10 b6_11 b6_12 b6_13 b6_14 b6_15 b6_16 b6_17 b6_18 b6_19 b6_20 b6_21 b6_22 b6_23 b6_24 b6_25 b6_26 b6_27 b6_28 b6_29 b6_30 b6_31 b6_32 b6_33 b6_34 (fun p2 b1_0 b1_1 b1_2 b1_3 => K .ret (st_ret_ref09_Fits p2 b1_0 b1_1 b1_2 b1_3)) (fun p37 p38 p39 p48 p49 p50 b1_0 b1_1 b1_2 b1_3 b6_0 b6_1 b6_2 b6_3 b6_4 b6_5 b6_6 b6_7 b6_8 b6_9 b6_10 b6_11 b6_12 b6_13 b6_14 b6_15 b6_16 b6_17 b6_18 b6_19 b6_20 b6_21 b6_22 b6_23 b6_24 b6_25 b6_26 b6_27 b6_28 b6_29 b6_30 b6_31 b6_32 b6_33 b6_34 => X (st_hbbbabaabbaabbba_ref09_Fits p37 p38 p39 p48 p49 p50 b1_0 b1_1 b1_2 b1_3 b6_0 b6_1 b6_2 b6_3 b6_4 b6_5 b6_6 b6_7 b6_8 b6_9 b6_10 b6_11 b6_12 b6_13 b6_14 b6_15 b6_16 b6_17 b6_18 b6_19 b6_20 b6_21 b6_22 b6_23 b6_24 b6_25 b6_26 b6_27 b6_28 b6_29 b6_30 b6_31 b6_32 b6_33 b6_34)) (fun p37 p38 p39 b1_0 b1_1 b1_2 b1_3 b6_0 b6_1 b6_2 b6_3 b6_4 b6_5 b6_6 b6_7 b6_8 b6_9 b6_10 b6_11 b6_12 b6_13 b6_14 b6_15 b6_16 b6_17 b6_18 b6_19 b6_20 b6_21 b6_22 b6_23 b6_24 b6_25 b6_26 b6_27 b6_28 b6_29 b6_30 b6_31 b6_32 b6_33 b6_34 => K (.exit 4) (st_x4_ref09_Fits p37 p38 p39 b1_0 b1_1 b1_2 b1_3 b6_0 b6_1 b6_2 b6_3 b6_4 b6_5 b6_6 b6_7 b6_8 b6_9 b6_10 b6_11 b6_12 b6_13 b6_14 b6_15 b6_16 b6_17 b6_18 b6_19 b6_20 b6_21 b6_22 b6_23 b6_24 b6_25 b6_26 b6_27 b6_28 b6_29 b6_30 b6_31 b6_32 b6_33 b6_34)) := by kernel_rfl
def rbbbabaabbaabbbaret_ref09_Fits {β : Type} (F_ref09_encode : T_ref09_encode) (L : Nat) (p2 : Bool) (b1_0 : Int) (b1_1 : List (List V)) (b1_2 : List (List V)) (b1_3 : Int) (k_ret : Bool → Int → List (List V) → List (List V) → Int → Option β) : Option β :=
 k_ret p2 b1_0 b1_1 b1_2 b1_3
theorem rbbbabaabbaabbbaret_ref09_Fits_ok {β : Type} (F_ref09_encode : T_ref09_encode) (L : Nat) (p2 : Bool) (b1_0 : Int) (b1_1 : List (List V)) (b1_2 : List (List V)) (b1_3 : Int) (X : St → Option β) (K : KT β) : (blockK 4 (blockK 3 (seqK (runC sh_ref09_Fits (cb_ref09_Fits F_ref09_encode L) 0 L cbbbabaabbb_ref09_Fits) (loopK mbbbaba_ref09_Fits X K)))) .ret (st_ret_ref09_Fits p2 b1_0 b1_1 b1_2 b1_3) = rbbbabaabbaabbbaret_ref09_Fits F_ref09_encode L p2 b1_0 b1_1 b1_2 b1_3 (fun p2 b1_0 b1_1 b1_2 b1_3 => K .ret (st_ret_ref09_Fits p2 b1_0 b1_1 b1_2 b1_3)) := by kernel_rfl
def rbbbabaabbaabbbax4_ref09_Fits {β : Type} (F_ref09_encode : T_ref09_encode) (L : Nat) (p37 : List (List V)) (p38 : Int) (p39 : Int) (b1_0 : Int) (b1_1 : List (List V)) (b1_2 : List (List V)) (b1_3 : Int) (b6_0 : Int) (b6_1 : Int) (b6_2 : Int) (b6_3 : Int) (b6_4 : Int) (b6_5 : Int) (b6_6 : Int) (b6_7 : Int) (b6_8 : Int) (b6_9 : Int) (b6_10 : Int) (b6_11 : Int) (b6_12 : Int) (b6_13 : Int) (b6_14 : Int) (b6_15 : Int) (b6_16 : Int) (b6_17 : Int) (b6_18 : Int) (b6_19 : Int) (b6_20 : Int) (b6_21 : Int) (b6_22 : Int) (b6_23 : Int) (b6_24 : Int) (b6_25 : Int) (b6_26 : Int) (b6_27 : Int) (b6_28 : Int) (b6_29 : Int) (b6_30 : Int) (b6_31 : Int) (b6_32 : Int) (b6_33 : Int) (b6_34 : List (List V)) (k_hbbbaba : List (List V) → Int → Int → Int → List (List V) → List (List V) → Int → Option β) : Option β :=
 lt (IntKind.wrap .i64 ((p39 : Int) + (1 : Int))) fun x48 =>
 k_hbbbaba p37 p38 x48 b1_0 b1_1 b1_2 b1_3
theorem rbbbabaabbaabbbax4_ref09_Fits_ok {β : Type} (F_ref09_encode : T_ref09_encode) (L : Nat) (p37 : List (List V)) (p38 : Int) (p39 : Int) (b1_0 : Int) (b1_1 : List (List V)) (b1_2 : List (List V)) (b1_3 : Int) (b6_0 : Int) (b6_1 : Int) (b6_2 : Int) (b6_3 : Int) (b6_4 : Int) (b6_5 : Int) (b6_6 : Int) (b6_7 : Int) (b6_8 : Int) (b6_9 : Int) (b6_10 : Int) (b6_11 : Int) (b6_12 : Int) (b6_13 : Int) (b6_14 : Int) (b6_15 : Int) (b6_16 : Int) (b6_17 : Int) (b6_18 : Int) (b6_19 : Int) (b6_20 : Int) (b6_21 : Int) (b6_22 : Int) (b6_23 : Int) (b6_24 : Int) (b6_25 : Int) (b6_26 : Int) (b6_27 : Int) (b6_28 : Int) (b6_29 : Int) (b6_30 : Int) (b6_31 : Int) (b6_32 : Int) (b6_33 : Int) (b6_34 : List (List V)) (X : St → Option β) (K : KT β) : (blockK 4 (blockK 3 (seqK (runC sh_ref09_Fits (cb_ref09_Fits F_ref09_encode L) 0 L cbbbabaabbb_ref09_Fits) (loopK mbbbaba_ref09_Fits X K)))) (.exit 4) (st_x4_ref09_Fits p37 p38 p39 b1_0 b1_1 b1_2 b1_3 b6_0 b6_1 b6_2 b6_3 b6_4 b6_5 b6_6 b6_7 b6_8 b6_9 b6_10 b6_11 b6_12 b6_13 b6_14 b6_15 b6_16 b6_17 b6_18 b6_19 b6_20 b6_21 b6_22 b6_23 b6_24 b6_25 b6_26 b6_27 b6_28 b6_29 b6_30 b6_31 b6_32 b6_33 b6_34) = rbbbabaabbaabbbax4_ref09_Fits F_ref09_encode L p37 p38 p39 b1_0 b1_1 b1_2 b1_3 b6_0 b6_1 b6_2 b6_3 b6_4 b6_5 b6_6 b6_7 b6_8 b6_9 b6_10 b6_11 b6_12 b6_13 b6_14 b6_15 b6_16 b6_17 b6_18 b6_19 b6_20 b6_21 b6_22 b6_23 b6_24 b6_25 b6_26 b6_27 b6_28 b6_29 b6_30 b6_31 b6_32 b6_33 b6_34 (fun p37 p38 p39 b1_0 b1_1 b1_2 b1_3 => X (st_hbbbaba_ref09_Fits p37 p38 p39 b1_0 b1_1 b1_2 b1_3)) := by kernel_rfl
def lbbaba_ref09_Fits {β : Type} (F_ref09_encode : T_ref09_encode) (L : Nat) (k_ret : Bool → Int → List (List V) → List (List V) → Int → Option β) (k_x0 : Int → List (List V) → List (List V) → Int → Option β) : Nat → List (List V) → Int → Int → Int → List (List V) → List (List V) → Int → Option β
  | 0, _, _, _, _, _, _, _ => none
  | n + 1, p20, p21, p22, b1_0, b1_1, b1_2, b1_3 => bbbaba_ref09_Fits F_ref09_encode L p20 p21 p22 b1_0 b1_1 b1_2 b1_3 k_ret (fun p20 p21 p22 b1_0 b1_1 b1_2 b1_3 => lbbaba_ref09_Fits F_ref09_encode L k_ret k_x0 n p20 p21 p22 b1_0 b1_1 b1_2 b1_3) k_x0
theorem lbbaba_ref09_Fits_ok {β : Type} (F_ref09_encode : T_ref09_encode) (L : Nat) (K : KT β) : ∀ (n : Nat) (p20 : List (List V)) (p21 : Int) (p22 : Int) (b1_0 : Int) (b1_1 : List (List V)) (b1_2 : List (List V)) (b1_3 : Int), loopM (runC sh_ref09_Fits (cb_ref09_Fits F_ref09_encode L) 0 L cbbabaa_ref09_Fits) mbbaba_ref09_Fits n (st_hbbaba_ref09_Fits p20 p21 p22 b1_0 b1_1 b1_2 b1_3) K = lbbaba_ref09_Fits F_ref09_encode L (fun p2 b1_0 b1_1 b1_2 b1_3 => K .ret (st_ret_ref09_Fits p2 b1_0 b1_1 b1_2 b1_3)) (fun b1_0 b1_1 b1_2 b1_3 => K (.exit 0) (st_x0_ref09_Fits b1_0 b1_1 b1_2 b1_3)) n p20 p21 p22 b1_0 b1_1 b1_2 b1_3 := by
  intro n
  induction n with
  | zero => intros; rfl
  | succ n ih =>
    intro p20 p21 p22 b1_0 b1_1 b1_2 b1_3
    refine (bbbaba_ref09_Fits_ok F_ref09_encode L p20 p21 p22 b1_0 b1_1 b1_2 b1_3 (fun σ => loopM (runC sh_ref09_Fits (cb_ref09_Fits F_ref09_encode L) 0 L cbbabaa_ref09_Fits) mbbaba_ref09_Fits n σ K) K).trans ?_
    simp only [ih]
    rfl
def lbbbabaabbaabbba_ref09_Fits {β : Type} (F_ref09_encode : T_ref09_encode) (L : Nat) (k_ret : Bool → Int → List (List V) → List (List V) → Int → Option β) (k_x4 : List (List V) → Int → Int → Int → List (List V) → List (List V) → Int → Int → Int → Int → Int → Int → Int → Int → Int → Int → Int → Int → Int → Int → Int → Int → Int → Int → Int → Int → Int → Int → Int → Int → Int → Int → Int → Int → Int → Int → Int → Int → Int → Int → Int → List (List V) → Option β) : Nat → List (List V) → Int → Int → List (List V) → Int → Int → Int → List (List V) → List (List V) → Int → Int → Int → Int → Int → Int → Int → Int → Int → Int → Int → Int → Int → Int → Int → Int → Int → Int → Int → Int → Int → Int → Int → Int → Int → Int → Int → Int → Int → Int → Int → Int → Int → Int → Int → List (List V) → Option β
  | 0, _, _, _, _, _, _, _, _, _, _, _, _, _, _, _, _, _, _, _, _, _, _, _, _, _, _, _, _, _, _, _, _, _, _, _, _, _, _, _, _, _, _, _, _, _ => none
  | n + 1, p37, p38, p39, p48, p49, p50, b1_0, b1_1, b1_2, b1_3, b6_0, b6_1, b6_2, b6_3, b6_4, b6_5, b6_6, b6_7, b6_8, b6_9, b6_10, b6_11, b6_12, b6_13, b6_14, b6_15, b6_16, b6_17, b6_18, b6_19, b6_20, b6_21, b6_22, b6_23, b6_24, b6_25, b6_26, b6_27, b6_28, b6_29, b6_30, b6_31, b6_32, b6_33, b6_34 => bbbbabaabbaabbba_ref09_Fits F_ref09_encode L p37 p38 p39 p48 p49 p50 b1_0 b1_1 b1_2 b1_3 b6_0 b6_1 b6_2 b6_3 b6_4 b6_5 b6_6 b6_7 b6_8 b6_9 b6_10 b6_11 b6_12 b6_13 b6_14 b6_15 b6_16 b6_17 b6_18 b6_19 b6_20 b6_21 b6_22 b6_23 b6_24 b6_25 b6_26 b6_27 b6_28 b6_29 b6_30 b6_31 b6_32 b6_33 b6_34 k_ret (fun p37 p38 p39 p48 p49 p50 b1_0 b1_1 b1_2 b1_3 b6_0 b6_1 b6_2 b6_3 b6_4 b6_5 b6_6 b6_7 b6_8 b6_9 b6_10 b6_11 b6_12 b6_13 b6_14 b6_15 b6_16 b6_17 b6_18 b6_19 b6_20 b6_21 b6_22 b6_23 b6_24 b6_25 b6_26 b6_27 b6_28 b6_29 b6_30 b6_31 b6_32 b6_33 b6_34 => lbbbabaabbaabbba_ref09_Fits F_ref09_encode L k_ret k_x4 n p37 p38 p39 p48 p49 p50 b1_0 b1_1 b1_2 b1_3 b6_0 b6_1 b6_2 b6_3 b6_4 b6_5 b6_6 b6_7 b6_8 b6_9 b6_10 b6_11 b6_12 b6_13 b6_14 b6_15 b6_16 b6_17 b6_18 b6_19 b6_20 b6_21 b6_22 b6_23 b6_24 b6_25 b6_26 b6_27 b6_28 b6_29 b6_30 b6_31 b6_32 b6_33 b6_34) k_x4
theorem lbbbabaabbaabbba_ref09_Fits_ok {β : Type} (F_ref09_encode : T_ref09_encode) (L : Nat) (K : KT β) : ∀ (n : Nat) (p37 : List (List V)) (p38 : Int) (p39 : Int) (p48 : List (List V)) (p49 : Int) (p50 : Int) (b1_0 : Int) (b1_1 : List (List V)) (b1_2 : List (List V)) (b1_3 : Int) (b6_0 : Int) (b6_1 : Int) (b6_2 : Int) (b6_3 : Int) (b6_4 : Int) (b6_5 : Int) (b6_6 : Int) (b6_7 : Int) (b6_8 : Int) (b6_9 : Int) (b6_10 : Int) (b6_11 : Int) (b6_12 : Int) (b6_13 : Int) (b6_14 : Int) (b6_15 : Int) (b6_16 : Int) (b6_17 : Int) (b6_18 : Int) (b6_19 : Int) (b6_20 : Int) (b6_21 : Int) (b6_22 : Int) (b6_23 : Int) (b6_24 : Int) (b6_25 : Int) (b6_26 : Int) (b6_27 : Int) (b6_28 : Int) (b6_29 : Int) (b6_30 : Int) (b6_31 : Int) (b6_32 : Int) (b6_33 : Int) (b6_34 : List (List V)), loopM (runC sh_ref09_Fits (cb_ref09_Fits F_ref09_encode L) 0 L cbbbabaabbaabbbaa_ref09_Fits) mbbbabaabbaabbba_ref09_Fits n (st_hbbbabaabbaabbba_ref09_Fits p37 p38 p39 p48 p49 p50 b1_0 b1_1 b1_2 b1_3 b6_0 b6_1 b6_2 b6_3 b6_4 b6_5 b6_6 b6_7 b6_8 b6_9 b6_10 b6_11 b6_12 b6_13 b6_14 b6_15 b6_16 b6_17 b6_18 b6_19 b6_20 b6_21 b6_22 b6_23 b6_24 b6_25 b6_26 b6_27 b6_28 b6_29 b6_30 b6_31 b6_32 b6_33 b6_34) K = lbbbabaabbaabbba_ref09_Fits F_ref09_encode L (fun p2 b1_0 b1_1 b1_2 b1_3 => K .ret (st_ret_ref09_Fits p2 b1_0 b1_1 b1_2 b1_3)) (fun p37 p38 p39 b1_0 b1_1 b1_2 b1_3 b6_0 b6_1 b6_2 b6_3 b6_4 b6_5 b6_6 b6_7 b6_8 b6_9 b6_10 b6_11 b6_12 b6_13 b6_14 b6_15 b6_16 b6_17 b6_18 b6_19 b6_20 b6_21 b6_22 b6_23 b6_24 b6_25 b6_26 b6_27 b6_28 b6_29 b6_30 b6_31 b6_32 b6_33 b6_34 => K (.exit 4) (st_x4_ref09_Fits p37 p38 p39 b1_0 b1_1 b1_2 b1_3 b6_0 b6_1 b6_2 b6_3 b6_4 b6_5 b6_6 b6_7 b6_8 b6_9 b6_10 b6_11 b6_12 b6_13 b6_14 b6_15 b6_16 b6_17 b6_18 b6_19 b6_20 b6_21 b6_22 b6_23 b6_24 b6_25 b6_26 b6_27 b6_28 b6_29 b6_30 b6_31 b6_32 b6_33 b6_34)) n p37 p38 p39 p48 p49 p50 b1_0 b1_1 b1_2 b1_3 b6_0 b6_1 b6_2 b6_3 b6_4 b6_5 b6_6 b6_7 b6_8 b6_9 b6_10 b6_11 b6_12 b6_13 b6_14 b6_15 b6_16 b6_17 b6_18 b6_19 b6_20 b6_21 b6_22 b6_23 b6_24 b6_25 b6_26 b6_27 b6_28 b6_29 b6_30 b6_31 b6_32 b6_33 b6_34 := by
  intro n
  induction n with
  | zero => intros; rfl
  | succ n ih =>
    intro p37 p38 p39 p48 p49 p50 b1_0 b1_1 b1_2 b1_3 b6_0 b6_1 b6_2 b6_3 b6_4 b6_5 b6_6 b6_7 b6_8 b6_9 b6_10 b6_11 b6_12 b6_13 b6_14 b6_15 b6_16 b6_17 b6_18 b6_19 b6_20 b6_21 b6_22 b6_23 b6_24 b6_25 b6_26 b6_27 b6_28 b6_29 b6_30 b6_31 b6_32 b6_33 b6_34
    refine (bbbbabaabbaabbba_ref09_Fits_ok F_ref09_encode L p37 p38 p39 p48 p49 p50 b1_0 b1_1 b1_2 b1_3 b6_0 b6_1 b6_2 b6_3 b6_4 b6_5 b6_6 b6_7 b6_8 b6_9 b6_10 b6_11 b6_12 b6_13 b6_14 b6_15 b6_16 b6_17 b6_18 b6_19 b6_20 b6_21 b6_22 b6_23 b6_24 b6_25 b6_26 b6_27 b6_28 b6_29 b6_30 b6_31 b6_32 b6_33 b6_34 (fun σ => loopM (runC sh_ref09_Fits (cb_ref09_Fits F_ref09_encode L) 0 L cbbbabaabbaabbbaa_ref09_Fits) mbbbabaabbaabbba_ref09_Fits n σ K) K).trans ?_
    simp only [ih]
    rfl
def Cbbbbaba_ref09_Fits {β : Type} (F_ref09_encode : T_ref09_encode) (L : Nat) (p37 : List (List V)) (p38 : Int) (p39 : Int) (b1_0 : Int) (b1_1 : List (List V)) (b1_2 : List (List V)) (b1_3 : Int) (k_ret : Bool → Int → List (List V) → List (List V) → Int → Option β) (k_x2 : Int → List (List V) → List (List V) → Int → Option β) (k_hbbbaba : List (List V) → Int → Int → Int → List (List V) → List (List V) → Int → Option β) : Option β :=
 bbbbaba_ref09_Fits F_ref09_encode L p37 p38 p39 b1_0 b1_1 b1_2 b1_3 k_ret (fun p37 p38 p39 p48 p49 p50 b1_0 b1_1 b1_2 b1_3 b6_0 b6_1 b6_2 b6_3 b6_4 b6_5 b6_6 b6_7 b6_8 b6_9 b6_10 b6_11 b6_12 b6_13 b6_14 b6_15 b6_16 b6_17 b6_18 b6_19 b6_20 b6_21 b6_22 b6_23 b6_24 b6_25 b6_26 b6_27 b6_28 b6_29 b6_30 b6_31 b6_32 b6_33 b6_34 => lbbbabaabbaabbba_ref09_Fits F_ref09_encode L (fun p2 b1_0 b1_1 b1_2 b1_3 => rbbbabaabbaabbbaret_ref09_Fits F_ref09_encode L p2 b1_0 b1_1 b1_2 b1_3 k_ret) (fun p37 p38 p39 b1_0 b1_1 b1_2 b1_3 b6_0 b6_1 b6_2 b6_3 b6_4 b6_5 b6_6 b6_7 b6_8 b6_9 b6_10 b6_11 b6_12 b6_13 b6_14 b6_15 b6_16 b6_17 b6_18 b6_19 b6_20 b6_21 b6_22 b6_23 b6_24 b6_25 b6_26 b6_27 b6_28 b6_29 b6_30 b6_31 b6_32 b6_33 b6_34 => rbbbabaabbaabbbax4_ref09_Fits F_ref09_encode L p37 p38 p39 b1_0 b1_1 b1_2 b1_3 b6_0 b6_1 b6_2 b6_3 b6_4 b6_5 b6_6 b6_7 b6_8 b6_9 b6_10 b6_11 b6_12 b6_13 b6_14 b6_15 b6_16 b6_17 b6_18 b6_19 b6_20 b6_21 b6_22 b6_23 b6_24 b6_25 b6_26 b6_27 b6_28 b6_29 b6_30 b6_31 b6_32 b6_33 b6_34 k_hbbbaba) L p37 p38 p39 p48 p49 p50 b1_0 b1_1 b1_2 b1_3 b6_0 b6_1 b6_2 b6_3 b6_4 b6_5 b6_6 b6_7 b6_8 b6_9 b6_10 b6_11 b6_12 b6_13 b6_14 b6_15 b6_16 b6_17 b6_18 b6_19 b6_20 b6_21 b6_22 b6_23 b6_24 b6_25 b6_26 b6_27 b6_28 b6_29 b6_30 b6_31 b6_32 b6_33 b6_34) k_x2
theorem Cbbbbaba_ref09_Fits_ok {β : Type} (F_ref09_encode : T_ref09_encode) (L : Nat) (p37 : List (List V)) (p38 : Int) (p39 : Int) (b1_0 : Int) (b1_1 : List (List V)) (b1_2 : List (List V)) (b1_3 : Int) (X : St → Option β) (K : KT β) : runC sh_ref09_Fits (cb_ref09_Fits F_ref09_encode L) 0 L cbbbabaa_ref09_Fits (st_hbbbaba_ref09_Fits p37 p38 p39 b1_0 b1_1 b1_2 b1_3) (loopK mbbbaba_ref09_Fits X K) = Cbbbbaba_ref09_Fits F_ref09_encode L p37 p38 p39 b1_0 b1_1 b1_2 b1_3 (fun p2 b1_0 b1_1 b1_2 b1_3 => K .ret (st_ret_ref09_Fits p2 b1_0 b1_1 b1_2 b1_3)) (fun b1_0 b1_1 b1_2 b1_3 => K (.exit 2) (st_x2_ref09_Fits b1_0 b1_1 b1_2 b1_3)) (fun p37 p38 p39 b1_0 b1_1 b1_2 b1_3 => X (st_hbbbaba_ref09_Fits p37 p38 p39 b1_0 b1_1 b1_2 b1_3)) := by
  refine (bbbbaba_ref09_Fits_ok F_ref09_encode L p37 p38 p39 b1_0 b1_1 b1_2 b1_3 X K).trans ?_
  unfold Cbbbbaba_ref09_Fits
  simp only [lbbbabaabbaabbba_ref09_Fits_ok, rbbbabaabbaabbbaret_ref09_Fits_ok, rbbbabaabbaabbbax4_ref09_Fits_ok]
def lbbbaba_ref09_Fits {β : Type} (F_ref09_encode : T_ref09_encode) (L : Nat) (k_ret : Bool → Int → List (List V) → List (List V) → Int → Option β) (k_x2 : Int → List (List V) → List (List V) → Int → Option β) : Nat → List (List V) → Int → Int → Int → List (List V) → List (List V) → Int → Option β
  | 0, _, _, _, _, _, _, _ => none
  | n + 1, p37, p38, p39, b1_0, b1_1, b1_2, b1_3 => Cbbbbaba_ref09_Fits F_ref09_encode L p37 p38 p39 b1_0 b1_1 b1_2 b1_3 k_ret k_x2 (fun p37 p38 p39 b1_0 b1_1 b1_2 b1_3 => lbbbaba_ref09_Fits F_ref09_encode L k_ret k_x2 n p37 p38 p39 b1_0 b1_1 b1_2 b1_3)
theorem lbbbaba_ref09_Fits_ok {β : Type} (F_ref09_encode : T_ref09_encode) (L : Nat) (K : KT β) : ∀ (n : Nat) (p37 : List (List V)) (p38 : Int) (p39 : Int) (b1_0 : Int) (b1_1 : List (List V)) (b1_2 : List (List V)) (b1_3 : Int), loopM (runC sh_ref09_Fits (cb_ref09_Fits F_ref09_encode L) 0 L cbbbabaa_ref09_Fits) mbbbaba_ref09_Fits n (st_hbbbaba_ref09_Fits p37 p38 p39 b1_0 b1_1 b1_2 b1_3) K = lbbbaba_ref09_Fits F_ref09_encode L (fun p2 b1_0 b1_1 b1_2 b1_3 => K .ret (st_ret_ref09_Fits p2 b1_0 b1_1 b1_2 b1_3)) (fun b1_0 b1_1 b1_2 b1_3 => K (.exit 2) (st_x2_ref09_Fits b1_0 b1_1 b1_2 b1_3)) n p37 p38 p39 b1_0 b1_1 b1_2 b1_3 := by
  intro n
  induction n with
  | zero => intros; rfl
  | succ n ih =>
    intro p37 p38 p39 b1_0 b1_1 b1_2 b1_3
    refine (Cbbbbaba_ref09_Fits_ok F_ref09_encode L p37 p38 p39 b1_0 b1_1 b1_2 b1_3 (fun σ => loopM (runC sh_ref09_Fits (cb_ref09_Fits F_ref09_encode L) 0 L cbbbabaa_ref09_Fits) mbbbaba_ref09_Fits n σ K) K).trans ?_
    simp only [ih]
    rfl
def Crbbabax0_ref09_Fits {β : Type} (F_ref09_encode : T_ref09_encode) (L : Nat) (b1_0 : Int) (b1_1 : List (List V)) (b1_2 : List (List V)) (b1_3 : Int) (k_fin : Bool → Option β) : Option β :=
 rbbabax0_ref09_Fits F_ref09_encode L b1_0 b1_1 b1_2 b1_3 (fun p37 p38 p39 b1_0 b1_1 b1_2 b1_3 => lbbbaba_ref09_Fits F_ref09_encode L (fun p2 b1_0 b1_1 b1_2 b1_3 => rbbbabaret_ref09_Fits F_ref09_encode L p2 b1_0 b1_1 b1_2 b1_3 k_fin) (fun b1_0 b1_1 b1_2 b1_3 => rbbbabax2_ref09_Fits F_ref09_encode L b1_0 b1_1 b1_2 b1_3 k_fin) L p37 p38 p39 b1_0 b1_1 b1_2 b1_3)
theorem Crbbabax0_ref09_Fits_ok {β : Type} (F_ref09_encode : T_ref09_encode) (L : Nat) (b1_0 : Int) (b1_1 : List (List V)) (b1_2 : List (List V)) (b1_3 : Int) (k : V → Bor → Option β) : (blockK 0 (seqK (runC sh_ref09_Fits (cb_ref09_Fits F_ref09_encode L) 0 L cbbb_ref09_Fits) (finK 0 (CF.res cf_ref09_Fits) k))) (.exit 0) (st_x0_ref09_Fits b1_0 b1_1 b1_2 b1_3) = Crbbabax0_ref09_Fits F_ref09_encode L b1_0 b1_1 b1_2 b1_3 (fun p0 => k (V.sc (.bool p0)) []) := by
  refine (rbbabax0_ref09_Fits_ok F_ref09_encode L b1_0 b1_1 b1_2 b1_3 k).trans ?_
  unfold Crbbabax0_ref09_Fits
  simp only [lbbbaba_ref09_Fits_ok, rbbbabaret_ref09_Fits_ok, rbbbabax2_ref09_Fits_ok]
def R_ref09_Fits {β : Type} (F_ref09_encode : T_ref09_encode) (L : Nat) (p0 : List V) (k_fin : Bool → Option β) : Option β :=
 e_ref09_Fits F_ref09_encode L p0 k_fin (fun p20 p21 p22 b1_0 b1_1 b1_2 b1_3 => lbbaba_ref09_Fits F_ref09_encode L (fun p2 b1_0 b1_1 b1_2 b1_3 => rbbabaret_ref09_Fits F_ref09_encode L p2 b1_0 b1_1 b1_2 b1_3 k_fin) (fun b1_0 b1_1 b1_2 b1_3 => Crbbabax0_ref09_Fits F_ref09_encode L b1_0 b1_1 b1_2 b1_3 k_fin) L p20 p21 p22 b1_0 b1_1 b1_2 b1_3)
theorem R_ref09_Fits_ok {β : Type} (F_ref09_encode : T_ref09_encode) (L : Nat) (p0 : List V) (k : V → Bor → Option β) : funC sh_ref09_Fits (cb_ref09_Fits F_ref09_encode L) L cf_ref09_Fits [(V.agg p0)] [] k = R_ref09_Fits F_ref09_encode L p0 (fun p0 => k (V.sc (.bool p0)) []) := by
  refine (e_ref09_Fits_ok F_ref09_encode L p0 k).trans ?_
  unfold R_ref09_Fits
  simp only [lbbaba_ref09_Fits_ok, rbbabaret_ref09_Fits_ok, Crbbabax0_ref09_Fits_ok]
abbrev T_ref09_Fits := ∀ (β : Type), Nat → List V → (Bool → Option β) → Option β
def F_ref09_Fits (β : Type) (L : Nat) (p0 : List V) (k_fin : Bool → Option β) : Option β := R_ref09_Fits F_ref09_encode L p0 k_fin
def d_ref09_Fits (F_ref09_Fits : T_ref09_Fits) (L : Nat) (β : Type) (args : List V) (bor : Bor) (k : V → Bor → Option β) : Option β := match args, bor with
  | [a0], [] => aG a0 fun p0 => F_ref09_Fits β L p0 (fun p0 => k (V.sc (.bool p0)) [])
  | _, _ => none
theorem d_ref09_Fits_ok (L : Nat) (β : Type) (args : List V) (bor : Bor) (k : V → Bor → Option β) (r : β) (h : d_ref09_Fits F_ref09_Fits L β args bor k = some r) : funC sh_ref09_Fits (cb_ref09_Fits F_ref09_encode L) L cf_ref09_Fits args bor k = some r := by
  unfold d_ref09_Fits at h
  split at h
  · have q := aG_inv h; clear h; obtain ⟨p0, rfl, h⟩ := q
    exact (R_ref09_Fits_ok F_ref09_encode L p0 k).trans h
  · cases h
/-! ref09_Encode : 129 -/
def cf_ref09_Encode : CF := ⟨12, [.tmp 4, .tmp 5],
 (.seq (.reg [⟨(some 2), false, none, .box false (.tmp 0)⟩,
   ⟨(some 4), false, none, .move (.const (.gs 1 [])) true⟩,
   ⟨(some 5), false, none, .move (.const (.sc (.int .i64 0))) false⟩])
 (.seq (.seq (.reg [⟨(some 6), false, none, .load true 4 (.tmp 2) false⟩,
   ⟨(some 7), false, none, .call 148 [((.tmp 6), true)]⟩,
   ⟨(some 8), false, none, .un .not (.tmp 7)⟩])
 (.cond (.tmp 8)
 (.seq (.reg [⟨(some 4), false, none, .move (.const (.gs 1 [])) true⟩,
   ⟨(some 5), false, none, .move (.const (.sc (.int .i64 4))) false⟩])
 .ret)
 .skip))
 (.seq (.reg [⟨(some 9), false, none, .load true 4 (.tmp 2) false⟩,
   ⟨(some 10), false, none, .move (.tmp 1) false⟩,
   ⟨(some 11), false, none, .call 149 [((.tmp 9), true), ((.tmp 10), false)]⟩,
   ⟨(some 4), false, none, .move (.tmp 11) true⟩,
   ⟨(some 5), false, none, .move (.const (.sc (.int .i64 0))) false⟩])
 .ret)))⟩
def hint_ref09_Encode : Hint := ⟨[(0, 1), (2, 0), (3, 3)], [], [none, none, none], []⟩
def sh_ref09_Encode : Nat → Sh := shOf [(2, (.row [(.int .u32), (.sl 35), (.sl 2), (.int .u32)]))]
def cb_ref09_Encode (F_ref09_Fits : T_ref09_Fits) (F_ref09_encode : T_ref09_encode) (L : Nat) : CBC := (addC 149 (d_ref09_encode F_ref09_encode L) (addC 148 (d_ref09_Fits F_ref09_Fits L) noC))
def R_ref09_Encode {β : Type} (F_ref09_Fits : T_ref09_Fits) (F_ref09_encode : T_ref09_encode) (L : Nat) (p0 : List V) (p1 : Bool) (k_fin : List (List V) → Int → Option β) : Option β :=
 chk (List.length p0 = 4) (
 cI .u32 p0 0 fun v0 =>
 cL 35 p0 1 fun v1 =>
 cL 2 p0 2 fun v2 =>
 cI .u32 p0 3 fun v3 =>
 F_ref09_Fits β L [(V.sc (.int .u32 v0)), (V.sl 35 v1), (V.sl 2 v2), (V.sc (.int .u32 v3))] (fun v4 =>
 ifb (!v4) (
 k_fin ([] : List (List V)) (4 : Int)) (
 F_ref09_encode β L [(V.sc (.int .u32 v0)), (V.sl 35 v1), (V.sl 2 v2), (V.sc (.int .u32 v3))] p1 (fun v5 =>
 k_fin v5 (0 : Int)))))
theorem R_ref09_Encode_ok {β : Type} (F_ref09_Fits : T_ref09_Fits) (F_ref09_encode : T_ref09_encode) (L : Nat) (p0 : List V) (p1 : Bool) (k : V → Bor → Option β) : funC sh_ref09_Encode (cb_ref09_Encode F_ref09_Fits F_ref09_encode L) L cf_ref09_Encode [(V.agg p0), (V.sc (.bool p1))] [] k = R_ref09_Encode F_ref09_Fits F_ref09_encode L p0 p1 (fun p0_0 p0_1 => k (V.tup [(V.gs 1 p0_0), (V.sc (.int .i64 p0_1))]) []) := by kernel_rfl
abbrev T_ref09_Encode := ∀ (β : Type), Nat → List V → Bool → (List (List V) → Int → Option β) → Option β
def F_ref09_Encode (β : Type) (L : Nat) (p0 : List V) (p1 : Bool) (k_fin : List (List V) → Int → Option β) : Option β := R_ref09_Encode F_ref09_Fits F_ref09_encode L p0 p1 k_fin
def d_ref09_Encode (F_ref09_Encode : T_ref09_Encode) (L : Nat) (β : Type) (args : List V) (bor : Bor) (k : V → Bor → Option β) : Option β := match args, bor with
  | [a0, a1], [] => aG a0 fun p0 => aB a1 fun p1 => F_ref09_Encode β L p0 p1 (fun p0_0 p0_1 => k (V.tup [(V.gs 1 p0_0), (V.sc (.int .i64 p0_1))]) [])
  | _, _ => none
theorem d_ref09_Encode_ok (L : Nat) (β : Type) (args : List V) (bor : Bor) (k : V → Bor → Option β) (r : β) (h : d_ref09_Encode F_ref09_Encode L β args bor k = some r) : funC sh_ref09_Encode (cb_ref09_Encode F_ref09_Fits F_ref09_encode L) L cf_ref09_Encode args bor k = some r := by
  unfold d_ref09_Encode at h
  split at h
  · have q := aG_inv h; clear h; obtain ⟨p0, rfl, h⟩ := q
    have q := aB_inv h; clear h; obtain ⟨p1, rfl, h⟩ := q
    exact (R_ref09_Encode_ok F_ref09_Fits F_ref09_encode L p0 p1 k).trans h
  · cases h
/-! ref01_Same : 130 -/
def cf_ref01_Same : CF := ⟨10, [.tmp 4],
 (.seq (.reg [⟨(some 4), false, none, .move (.const (.sc (.bool false))) false⟩])
 (.seq (.reg [⟨(some 5), false, none, .move (.tmp 0) true⟩,
   ⟨(some 6), false, none, .toStr (.tmp 5)⟩,
   ⟨(some 7), false, none, .move (.tmp 1) true⟩,
   ⟨(some 8), false, none, .toStr (.tmp 7)⟩,
   ⟨(some 9), false, none, .bin .eql (.tmp 6) (.tmp 8)⟩,
   ⟨(some 4), false, none, .move (.tmp 9) false⟩])
 .ret))⟩
def hint_ref01_Same : Hint := ⟨[(1, 0), (1, 2)], [], [none], []⟩
def sh_ref01_Same : Nat → Sh := shOf []
def cb_ref01_Same (L : Nat) : CBC := noC
def R_ref01_Same {β : Type} (L : Nat) (p0 : List (List V)) (p1 : List (List V)) (k_fin : Bool → Option β) : Option β :=
 strC p0 fun v0 =>
 strC p1 fun v1 =>
 k_fin (ByteArray.toList v0 == ByteArray.toList v1)
theorem R_ref01_Same_ok {β : Type} (L : Nat) (p0 : List (List V)) (p1 : List (List V)) (k : V → Bor → Option β) : funC sh_ref01_Same (cb_ref01_Same L) L cf_ref01_Same [(V.sl 1 p0), (V.sl 1 p1)] [] k = R_ref01_Same L p0 p1 (fun p0 => k (V.sc (.bool p0)) []) := by kernel_rfl
abbrev T_ref01_Same := ∀ (β : Type), Nat → List (List V) → List (List V) → (Bool → Option β) → Option β
def F_ref01_Same (β : Type) (L : Nat) (p0 : List (List V)) (p1 : List (List V)) (k_fin : Bool → Option β) : Option β := R_ref01_Same L p0 p1 k_fin
def d_ref01_Same (F_ref01_Same : T_ref01_Same) (L : Nat) (β : Type) (args : List V) (bor : Bor) (k : V → Bor → Option β) : Option β := match args, bor with
  | [a0, a1], [] => aL 1 a0 fun p0 => aL 1 a1 fun p1 => F_ref01_Same β L p0 p1 (fun p0 => k (V.sc (.bool p0)) [])
  | _, _ => none
theorem d_ref01_Same_ok (L : Nat) (β : Type) (args : List V) (bor : Bor) (k : V → Bor → Option β) (r : β) (h : d_ref01_Same F_ref01_Same L β args bor k = some r) : funC sh_ref01_Same (cb_ref01_Same L) L cf_ref01_Same args bor k = some r := by
  unfold d_ref01_Same at h
  split at h
  · have q := aL_inv h; clear h; obtain ⟨p0, rfl, h⟩ := q
    have q := aL_inv h; clear h; obtain ⟨p1, rfl, h⟩ := q
    exact (R_ref01_Same_ok L p0 p1 k).trans h
  · cases h
/-! law09_TxEncodes : 119 -/
def cbbbabaa_law09_TxEncodes : CC := (.seq (.reg [⟨(some 17), false, none, .bin .lss (.tmp 16) (.tmp 15)⟩])
 (.seq (.cond (.tmp 17)
 .skip
 (.seq (.mask (bl 0 42) (bl 4119351787019 42))
 (.exit 0)))
 (.seq (.block 1 (.seq (.reg [⟨(some 18), false, none, .indexAddrS 1 (.tmp 14) (.tmp 16)⟩,
   ⟨(some 19), false, none, .load false 1 (.tmp 18) false⟩,
   ⟨(some 4), false, none, .move (.tmp 19) false⟩])
 (.seq (.reg [⟨(some 21), false, none, .load true 4 (.tmp 1) false⟩,
   ⟨(some 22), false, none, .move (.tmp 4) false⟩,
   ⟨(some 23), false, none, .call 128 [((.tmp 21), true), ((.tmp 22), false)]⟩,
   ⟨(some 20), false, none, .move (.tmp 23) true⟩,
   ⟨(some 24), false, none, .extract (.tmp 20) 0⟩,
   ⟨(some 25), false, none, .pull (.tmp 20) 1⟩,
   ⟨(some 5), false, none, .move (.tmp 24) true⟩,
   ⟨(some 6), false, none, .move (.tmp 25) false⟩])
 (.seq (.reg [⟨(some 27), false, none, .load true 4 (.tmp 1) false⟩,
   ⟨(some 28), false, none, .move (.tmp 4) false⟩,
   ⟨(some 29), false, none, .call 129 [((.tmp 27), true), ((.tmp 28), false)]⟩,
   ⟨(some 26), false, none, .move (.tmp 29) true⟩,
   ⟨(some 30), false, none, .extract (.tmp 26) 0⟩,
   ⟨(some 31), false, none, .pull (.tmp 26) 1⟩,
   ⟨(some 7), false, none, .move (.tmp 30) true⟩,
   ⟨(some 8), false, none, .move (.tmp 31) false⟩])
 (.seq (.reg [⟨(some 32), false, none, .move (.tmp 6) false⟩,
   ⟨(some 33), false, none, .move (.tmp 8) false⟩,
   ⟨(some 34), false, none, .bin .neq (.tmp 32) (.tmp 33)⟩,
   ⟨(some 35), false, none, .move (.tmp 34) false⟩,
   ⟨(some 36), false, (some (35, false)), .move (.tmp 5) true⟩,
   ⟨(some 37), false, (some (35, false)), .move (.tmp 7) true⟩,
   ⟨(some 38), false, (some (35, false)), .call 130 [((.tmp 36), false), ((.tmp 37), false)]⟩,
   ⟨(some 39), false, (some (35, false)), .un .not (.tmp 38)⟩,
   ⟨(some 40), false, none, .pick (.tmp 35) (.const (.sc (.bool true))) (.tmp 39)⟩])
 (.cond (.tmp 40)
 (.seq (.reg [⟨(some 2), false, none, .move (.const (.sc (.bool false))) false⟩])
 (.seq (.mask (bl 4 42) (bl 4119351787023 42))
 .ret))
 .skip))))))
 (.reg [⟨(some 41), false, none, .bin .add (.tmp 16) (.const (.sc (.int .i64 1)))⟩,
   ⟨(some 16), false, none, .move (.tmp 41) false⟩]))))
def cbbbb_law09_TxEncodes : CC := (.seq (.reg [⟨(some 2), false, none, .move (.const (.sc (.bool true))) false⟩])
 .ret)
def cf_law09_TxEncodes : CF := ⟨42, [.tmp 2],
 (.seq (.reg [⟨(some 1), false, none, .box false (.tmp 0)⟩,
   ⟨(some 2), false, none, .move (.const (.sc (.bool false))) false⟩])
 (.seq (.seq (.reg [⟨(some 9), false, none, .call 126 []⟩,
   ⟨(some 10), false, none, .un .not (.tmp 9)⟩])
 (.cond (.tmp 10)
 (.seq (.reg [⟨(some 2), false, none, .move (.const (.sc (.bool false))) false⟩])
 .ret)
 .skip))
 (.seq (.seq (.reg [⟨(some 11), false, none, .load true 4 (.tmp 1) false⟩,
   ⟨(some 12), false, none, .call 127 [((.tmp 11), true)]⟩,
   ⟨(some 13), false, none, .un .not (.tmp 12)⟩])
 (.cond (.tmp 13)
 (.seq (.reg [⟨(some 2), false, none, .move (.const (.sc (.bool true))) false⟩])
 .ret)
 .skip))
 (.seq (.seq (.reg [⟨(some 14), false, none, .buildSlice 1 2 [(.sc (.bool false))] [(0, 1, (.const (.sc (.bool false)))), (1, 1, (.const (.sc (.bool true))))]⟩,
   ⟨(some 15), false, none, .lenS (.tmp 14)⟩,
   ⟨(some 16), false, none, .move (.const (.sc (.int .i64 0))) false⟩])
 (.block 0 (.loop (bl 114690 42) (bl 4119351787019 42)
 cbbbabaa_law09_TxEncodes)))
 cbbbb_law09_TxEncodes))))⟩
def hint_law09_TxEncodes : Hint := ⟨[(8, 3), (8, 4), (8, 6), (9, 3), (9, 4), (9, 6), (10, 4), (10, 5)], [], [none, none, none, none, none, some ((bl 114690 42), (bl 4119351787019 42)), none, some ((bl 0 42), (bl 4119351787019 42)), none, none, some ((bl 4 42), (bl 4119351787023 42)), none], []⟩
def sh_law09_TxEncodes : Nat → Sh := shOf [(1, (.row [(.int .u32), (.sl 35), (.sl 2), (.int .u32)])), (19, .bool)]
def cb_law09_TxEncodes (F_law09_sane : T_law09_sane) (F_keep_Tx : T_keep_Tx) (F_tx_Encode : T_tx_Encode) (F_ref09_Encode : T_ref09_Encode) (F_ref01_Same : T_ref01_Same) (L : Nat) : CBC := (addC 130 (d_ref01_Same F_ref01_Same L) (addC 129 (d_ref09_Encode F_ref09_Encode L) (addC 128 (d_tx_Encode F_tx_Encode L) (addC 127 (d_keep_Tx F_keep_Tx L) (addC 126 (d_law09_sane F_law09_sane L) noC)))))
def mbbbaba_law09_TxEncodes : St → St := mask (bl 114690 42) (bl 4119351787019 42)
def st_hbbbaba_law09_TxEncodes (p14 : List (List V)) (p15 : Int) (p16 : Int) (b1_0 : Int) (b1_1 : List (List V)) (b1_2 : List (List V)) (b1_3 : Int) : St := ⟨[.junk, (V.ptr 1 0), .junk, .junk, .junk, .junk, .junk, .junk, .junk, .junk, .junk, .junk, .junk, .junk, (V.gs 1 p14), (V.sc (.int .i64 p15)), (V.sc (.int .i64 p16)), .junk, .junk, .junk, .junk, .junk, .junk, .junk, .junk, .junk, .junk, .junk, .junk, .junk, .junk, .junk, .junk, .junk, .junk, .junk, .junk, .junk, .junk, .junk, .junk, .junk], [.gone, (.live false [(V.sc (.int .u32 b1_0)), (V.sl 35 b1_1), (V.sl 2 b1_2), (V.sc (.int .u32 b1_3))]), .gone, .gone, .gone, .gone, .gone, .gone, .gone, .gone, .gone, .gone, .gone, .gone, .gone, .gone, .gone, .gone, .gone, .gone, .gone, .gone, .gone, .gone, .gone, .gone, .gone, .gone, .gone, .gone, .gone, .gone, .gone, .gone, .gone, .gone, .gone, .gone, .gone, .gone, .gone, .gone]⟩
def st_ret_law09_TxEncodes (p2 : Bool) (b1_0 : Int) (b1_1 : List (List V)) (b1_2 : List (List V)) (b1_3 : Int) : St := ⟨[.junk, .junk, (V.sc (.bool p2)), .junk, .junk, .junk, .junk, .junk, .junk, .junk, .junk, .junk, .junk, .junk, .junk, .junk, .junk, .junk, .junk, .junk, .junk, .junk, .junk, .junk, .junk, .junk, .junk, .junk, .junk, .junk, .junk, .junk, .junk, .junk, .junk, .junk, .junk, .junk, .junk, .junk, .junk, .junk], [.gone, (.live false [(V.sc (.int .u32 b1_0)), (V.sl 35 b1_1), (V.sl 2 b1_2), (V.sc (.int .u32 b1_3))]), .gone, .gone, .gone, .gone, .gone, .gone, .gone, .gone, .gone, .gone, .gone, .gone, .gone, .gone, .gone, .gone, .gone, .gone, .gone, .gone, .gone, .gone, .gone, .gone, .gone, .gone, .gone, .gone, .gone, .gone, .gone, .gone, .gone, .gone, .gone, .gone, .gone, .gone, .gone, .gone]⟩
def st_x0_law09_TxEncodes (b1_0 : Int) (b1_1 : List (List V)) (b1_2 : List (List V)) (b1_3 : Int) : St := ⟨[.junk, .junk, .junk, .junk, .junk, .junk, .junk, .junk, .junk, .junk, .junk, .junk, .junk, .junk, .junk, .junk, .junk, .junk, .junk, .junk, .junk, .junk, .junk, .junk, .junk, .junk, .junk, .junk, .junk, .junk, .junk, .junk, .junk, .junk, .junk, .junk, .junk, .junk, .junk, .junk, .junk, .junk], [.gone, (.live false [(V.sc (.int .u32 b1_0)), (V.sl 35 b1_1), (V.sl 2 b1_2), (V.sc (.int .u32 b1_3))]), .gone, .gone, .gone, .gone, .gone, .gone, .gone, .gone, .gone, .gone, .gone, .gone, .gone, .gone, .gone, .gone, .gone, .gone, .gone, .gone, .gone, .gone, .gone, .gone, .gone, .gone, .gone, .gone, .gone, .gone, .gone, .gone, .gone, .gone, .gone, .gone, .gone, .gone, .gone, .gone]⟩
def e_law09_TxEncodes {β : Type} (F_law09_sane : T_law09_sane) (F_keep_Tx : T_keep_Tx) (F_tx_Encode : T_tx_Encode) (F_ref09_Encode : T_ref09_Encode) (F_ref01_Same : T_ref01_Same) (L : Nat) (p0 : List V) (k_fin : Bool → Option β) (k_hbbbaba : List (List V) → Int → Int → Int → List (List V) → List (List V) → Int → Option β) : Option β :=
 chk (List.length p0 = 4) (
 cI .u32 p0 0 fun v0 =>
 cL 35 p0 1 fun v1 =>
 cL 2 p0 2 fun v2 =>
 cI .u32 p0 3 fun v3 =>
 F_law09_sane β L  (fun v4 =>
 ifb (!v4) (
 k_fin false) (
 F_keep_Tx β L [(V.sc (.int .u32 v0)), (V.sl 35 v1), (V.sl 2 v2), (V.sc (.int .u32 v3))] (fun v5 =>
 ifb (!v5) (
 k_fin true) (
 k_hbbbaba (chunks 1 2 [(V.sc (.bool false)), (V.sc (.bool true))]) ((List.length (chunks 1 2 [(V.sc (.bool false)), (V.sc (.bool true))]) : Nat) : Int) (0 : Int) v0 v1 v2 v3)))))
theorem e_law09_TxEncodes_ok {β : Type} (F_law09_sane : T_law09_sane) (F_keep_Tx : T_keep_Tx) (F_tx_Encode : T_tx_Encode) (F_ref09_Encode : T_ref09_Encode) (F_ref01_Same : T_ref01_Same) (L : Nat) (p0 : List V) (k : V → Bor → Option β) : funC sh_law09_TxEncodes (cb_law09_TxEncodes F_law09_sane F_keep_Tx F_tx_Encode F_ref09_Encode F_ref01_Same L) L cf_law09_TxEncodes [(V.agg p0)] [] k = e_law09_TxEncodes F_law09_sane F_keep_Tx F_tx_Encode F_ref09_Encode F_ref01_Same L p0 (fun p0 => k (V.sc (.bool p0)) []) (fun p14 p15 p16 b1_0 b1_1 b1_2 b1_3 => loopM (runC sh_law09_TxEncodes (cb_law09_TxEncodes F_law09_sane F_keep_Tx F_tx_Encode F_ref09_Encode F_ref01_Same L) 0 L cbbbabaa_law09_TxEncodes) mbbbaba_law09_TxEncodes L (st_hbbbaba_law09_TxEncodes p14 p15 p16 b1_0 b1_1 b1_2 b1_3) (blockK 0 (seqK (runC sh_law09_TxEncodes (cb_law09_TxEncodes F_law09_sane F_keep_Tx F_tx_Encode F_ref09_Encode F_ref01_Same L) 0 L cbbbb_law09_TxEncodes) (finK 0 (CF.res cf_law09_TxEncodes) k)))) := by kernel_rfl
def bbbbaba_law09_TxEncodes {β : Type} (F_law09_sane : T_law09_sane) (F_keep_Tx : T_keep_Tx) (F_tx_Encode : T_tx_Encode) (F_ref09_Encode : T_ref09_Encode) (F_ref01_Same : T_ref01_Same) (L : Nat) (p14 : List (List V)) (p15 : Int) (p16 : Int) (b1_0 : Int) (b1_1 : List (List V)) (b1_2 : List (List V)) (b1_3 : Int) (k_ret : Bool → Int → List (List V) → List (List V) → Int → Option β) (k_hbbbaba : List (List V) → Int → Int → Int → List (List V) → List (List V) → Int → Option β) (k_x0 : Int → List (List V) → List (List V) → Int → Option β) : Option β :=
 ifb (decide (p16 < p15)) (
 idx p14 p16 fun c6 =>
 cB c6 0 fun v7 =>
 F_tx_Encode β L [(V.sc (.int .u32 b1_0)), (V.sl 35 b1_1), (V.sl 2 b1_2), (V.sc (.int .u32 b1_3))] v7 (fun v8 v9 =>
 F_ref09_Encode β L [(V.sc (.int .u32 b1_0)), (V.sl 35 b1_1), (V.sl 2 b1_2), (V.sc (.int .u32 b1_3))] v7 (fun v10 v11 =>
 ifb ((v9 : Int) != v11) (
 k_ret false b1_0 b1_1 b1_2 b1_3) (
 F_ref01_Same β L v8 v10 (fun v12 =>
 ifb (!v12) (
 k_ret false b1_0 b1_1 b1_2 b1_3) (
 lt (IntKind.wrap .i64 ((p16 : Int) + (1 : Int))) fun x13 =>
 k_hbbbaba p14 p15 x13 b1_0 b1_1 b1_2 b1_3)))))) (
 k_x0 b1_0 b1_1 b1_2 b1_3)
theorem bbbbaba_law09_TxEncodes_ok {β : Type} (F_law09_sane : T_law09_sane) (F_keep_Tx : T_keep_Tx) (F_tx_Encode : T_tx_Encode) (F_ref09_Encode : T_ref09_Encode) (F_ref01_Same : T_ref01_Same) (L : Nat) (p14 : List (List V)) (p15 : Int) (p16 : Int) (b1_0 : Int) (b1_1 : List (List V)) (b1_2 : List (List V)) (b1_3 : Int) (X : St → Option β) (K : KT β) : runC sh_law09_TxEncodes (cb_law09_TxEncodes F_law09_sane F_keep_Tx F_tx_Encode F_ref09_Encode F_ref01_Same L) 0 L cbbbabaa_law09_TxEncodes (st_hbbbaba_law09_TxEncodes p14 p15 p16 b1_0 b1_1 b1_2 b1_3) (loopK mbbbaba_law09_TxEncodes X K) = bbbbaba_law09_TxEncodes F_law09_sane F_keep_Tx F_tx_Encode F_ref09_Encode F_ref01_Same L p14 p15 p16 b1_0 b1_1 b1_2 b1_3 (fun p2 b1_0 b1_1 b1_2 b1_3 => K .ret (st_ret_law09_TxEncodes p2 b1_0 b1_1 b1_2 b1_3)) (fun p14 p15 p16 b1_0 b1_1 b1_2 b1_3 => X (st_hbbbaba_law09_TxEncodes p14 p15 p16 b1_0 b1_1 b1_2 b1_3)) (fun b1_0 b1_1 b1_2 b1_3 => K (.exit 0) (st_x0_law09_TxEncodes b1_0 b1_1 b1_2 b1_3)) := by kernel_rfl
def rbbbabaret_law09_TxEncodes {β : Type} (F_law09_sane : T_law09_sane) (F_keep_Tx : T_keep_Tx) (F_tx_Encode : T_tx_Encode) (F_ref09_Encode : T_ref09_Encode) (F_ref01_Same : T_ref01_Same) (L : Nat) (p2 : Bool) (b1_0 : Int) (b1_1 : List (List V)) (b1_2 : List (List V)) (b1_3 : Int) (k_fin : Bool → Option β) : Option β :=
 k_fin p2
theorem rbbbabaret_law09_TxEncodes_ok {β : Type} (F_law09_sane : T_law09_sane) (F_keep_Tx : T_keep_Tx) (F_tx_Encode : T_tx_Encode) (F_ref09_Encode : T_ref09_Encode) (F_ref01_Same : T_ref01_Same) (L : Nat) (p2 : Bool) (b1_0 : Int) (b1_1 : List (List V)) (b1_2 : List (List V)) (b1_3 : Int) (k : V → Bor → Option β) : (blockK 0 (seqK (runC sh_law09_TxEncodes (cb_law09_TxEncodes F_law09_sane F_keep_Tx F_tx_Encode F_ref09_Encode F_ref01_Same L) 0 L cbbbb_law09_TxEncodes) (finK 0 (CF.res cf_law09_TxEncodes) k))) .ret (st_ret_law09_TxEncodes p2 b1_0 b1_1 b1_2 b1_3) = rbbbabaret_law09_TxEncodes F_law09_sane F_keep_Tx F_tx_Encode F_ref09_Encode F_ref01_Same L p2 b1_0 b1_1 b1_2 b1_3 (fun p0 => k (V.sc (.bool p0)) []) := by kernel_rfl
def rbbbabax0_law09_TxEncodes {β : Type} (F_law09_sane : T_law09_sane) (F_keep_Tx : T_keep_Tx) (F_tx_Encode : T_tx_Encode) (F_ref09_Encode : T_ref09_Encode) (F_ref01_Same : T_ref01_Same) (L : Nat) (b1_0 : Int) (b1_1 : List (List V)) (b1_2 : List (List V)) (b1_3 : Int) (k_fin : Bool → Option β) : Option β :=
 k_fin true
theorem rbbbabax0_law09_TxEncodes_ok {β : Type} (F_law09_sane : T_law09_sane) (F_keep_Tx : T_keep_Tx) (F_tx_Encode : T_tx_Encode) (F_ref09_Encode : T_ref09_Encode) (F_ref01_Same : T_ref01_Same) (L : Nat) (b1_0 : Int) (b1_1 : List (List V)) (b1_2 : List (List V)) (b1_3 : Int) (k : V → Bor → Option β) : (blockK 0 (seqK (runC sh_law09_TxEncodes (cb_law09_TxEncodes F_law09_sane F_keep_Tx F_tx_Encode F_ref09_Encode F_ref01_Same L) 0 L cbbbb_law09_TxEncodes) (finK 0 (CF.res cf_law09_TxEncodes) k))) (.exit 0) (st_x0_law09_TxEncodes b1_0 b1_1 b1_2 b1_3) = rbbbabax0_law09_TxEncodes F_law09_sane F_keep_Tx F_tx_Encode F_ref09_Encode F_ref01_Same L b1_0 b1_1 b1_2 b1_3 (fun p0 => k (V.sc (.bool p0)) []) := by kernel_rfl
def lbbbaba_law09_TxEncodes {β : Type} (F_law09_sane : T_law09_sane) (F_keep_Tx : T_keep_Tx) (F_tx_Encode : T_tx_Encode) (F_ref09_Encode : T_ref09_Encode) (F_ref01_Same : T_ref01_Same) (L : Nat) (k_ret : Bool → Int → List (List V) → List (List V) → Int → Option β) (k_x0 : Int → List (List V) → List (List V) → Int → Option β) : Nat → List (List V) → Int → Int → Int → List (List V) → List (List V) → Int → Option β
  | 0, _, _, _, _, _, _, _ => none
  | n + 1, p14, p15, p16, b1_0, b1_1, b1_2, b1_3 => bbbbaba_law09_TxEncodes F_law09_sane F_keep_Tx F_tx_Encode F_ref09_Encode F_ref01_Same L p14 p15 p16 b1_0 b1_1 b1_2 b1_3 k_ret (fun p14 p15 p16 b1_0 b1_1 b1_2 b1_3 => lbbbaba_law09_TxEncodes F_law09_sane F_keep_Tx F_tx_Encode F_ref09_Encode F_ref01_Same L k_ret k_x0 n p14 p15 p16 b1_0 b1_1 b1_2 b1_3) k_x0
theorem lbbbaba_law09_TxEncodes_ok {β : Type} (F_law09_sane : T_law09_sane) (F_keep_Tx : T_keep_Tx) (F_tx_Encode : T_tx_Encode) (F_ref09_Encode : T_ref09_Encode) (F_ref01_Same : T_ref01_Same) (L : Nat) (K : KT β) : ∀ (n : Nat) (p14 : List (List V)) (p15 : Int) (p16 : Int) (b1_0 : Int) (b1_1 : List (List V)) (b1_2 : List (List V)) (b1_3 : Int), loopM (runC sh_law09_TxEncodes (cb_law09_TxEncodes F_law09_sane F_keep_Tx F_tx_Encode F_ref09_Encode F_ref01_Same L) 0 L cbbbabaa_law09_TxEncodes) mbbbaba_law09_TxEncodes n (st_hbbbaba_law09_TxEncodes p14 p15 p16 b1_0 b1_1 b1_2 b1_3) K = lbbbaba_law09_TxEncodes F_law09_sane F_keep_Tx F_tx_Encode F_ref09_Encode F_ref01_Same L (fun p2 b1_0 b1_1 b1_2 b1_3 => K .ret (st_ret_law09_TxEncodes p2 b1_0 b1_1 b1_2 b1_3)) (fun b1_0 b1_1 b1_2 b1_3 => K (.exit 0) (st_x0_law09_TxEncodes b1_0 b1_1 b1_2 b1_3)) n p14 p15 p16 b1_0 b1_1 b1_2 b1_3 := by
  intro n
  induction n with
  | zero => intros; rfl
  | succ n ih =>
    intro p14 p15 p16 b1_0 b1_1 b1_2 b1_3
    refine (bbbbaba_law09_TxEncodes_ok F_law09_sane F_keep_Tx F_tx_Encode F_ref09_Encode F_ref01_Same L p14 p15 p16 b1_0 b1_1 b1_2 b1_3 (fun σ => loopM (runC sh_law09_TxEncodes (cb_law09_TxEncodes F_law09_sane F_keep_Tx F_tx_Encode F_ref09_Encode F_ref01_Same L) 0 L cbbbabaa_law09_TxEncodes) mbbbaba_law09_TxEncodes n σ K) K).trans ?_
    simp only [ih]
    rfl
def R_law09_TxEncodes {β : Type} (F_law09_sane : T_law09_sane) (F_keep_Tx : T_keep_Tx) (F_tx_Encode : T_tx_Encode) (F_ref09_Encode : T_ref09_Encode) (F_ref01_Same : T_ref01_Same) (L : Nat) (p0 : List V) (k_fin : Bool → Option β) : Option β :=
 e_law09_TxEncodes F_law09_sane F_keep_Tx F_tx_Encode F_ref09_Encode F_ref01_Same L p0 k_fin (fun p14 p15 p16 b1_0 b1_1 b1_2 b1_3 => lbbbaba_law09_TxEncodes F_law09_sane F_keep_Tx F_tx_Encode F_ref09_Encode F_ref01_Same L (fun p2 b1_0 b1_1 b1_2 b1_3 => rbbbabaret_law09_TxEncodes F_law09_sane F_keep_Tx F_tx_Encode F_ref09_Encode F_ref01_Same L p2 b1_0 b1_1 b1_2 b1_3 k_fin) (fun b1_0 b1_1 b1_2 b1_3 => rbbbabax0_law09_TxEncodes F_law09_sane F_keep_Tx F_tx_Encode F_ref09_Encode F_ref01_Same L b1_0 b1_1 b1_2 b1_3 k_fin) L p14 p15 p16 b1_0 b1_1 b1_2 b1_3)
theorem R_law09_TxEncodes_ok {β : Type} (F_law09_sane : T_law09_sane) (F_keep_Tx : T_keep_Tx) (F_tx_Encode : T_tx_Encode) (F_ref09_Encode : T_ref09_Encode) (F_ref01_Same : T_ref01_Same) (L : Nat) (p0 : List V) (k : V → Bor → Option β) : funC sh_law09_TxEncodes (cb_law09_TxEncodes F_law09_sane F_keep_Tx F_tx_Encode F_ref09_Encode F_ref01_Same L) L cf_law09_TxEncodes [(V.agg p0)] [] k = R_law09_TxEncodes F_law09_sane F_keep_Tx F_tx_Encode F_ref09_Encode F_ref01_Same L p0 (fun p0 => k (V.sc (.bool p0)) []) := by
  refine (e_law09_TxEncodes_ok F_law09_sane F_keep_Tx F_tx_Encode F_ref09_Encode F_ref01_Same L p0 k).trans ?_
  unfold R_law09_TxEncodes
  simp only [lbbbaba_law09_TxEncodes_ok, rbbbabaret_law09_TxEncodes_ok, rbbbabax0_law09_TxEncodes_ok]
abbrev T_law09_TxEncodes := ∀ (β : Type), Nat → List V → (Bool → Option β) → Option β
def F_law09_TxEncodes (β : Type) (L : Nat) (p0 : List V) (k_fin : Bool → Option β) : Option β := R_law09_TxEncodes F_law09_sane F_keep_Tx F_tx_Encode F_ref09_Encode F_ref01_Same L p0 k_fin
def d_law09_TxEncodes (F_law09_TxEncodes : T_law09_TxEncodes) (L : Nat) (β : Type) (args : List V) (bor : Bor) (k : V → Bor → Option β) : Option β := match args, bor with
  | [a0], [] => aG a0 fun p0 => F_law09_TxEncodes β L p0 (fun p0 => k (V.sc (.bool p0)) [])
  | _, _ => none
theorem d_law09_TxEncodes_ok (L : Nat) (β : Type) (args : List V) (bor : Bor) (k : V → Bor → Option β) (r : β) (h : d_law09_TxEncodes F_law09_TxEncodes L β args bor k = some r) : funC sh_law09_TxEncodes (cb_law09_TxEncodes F_law09_sane F_keep_Tx F_tx_Encode F_ref09_Encode F_ref01_Same L) L cf_law09_TxEncodes args bor k = some r := by
  unfold d_law09_TxEncodes at h
  split at h
  · have q := aG_inv h; clear h; obtain ⟨p0, rfl, h⟩ := q
    exact (R_law09_TxEncodes_ok F_law09_sane F_keep_Tx F_tx_Encode F_ref09_Encode F_ref01_Same L p0 k).trans h
  · cases h
/-! ref09_Null : 152 -/
def cf_ref09_Null : CF := ⟨6, [.tmp 2],
 (.seq (.reg [⟨(some 1), false, none, .box true (.tmp 0)⟩,
   ⟨(some 2), false, none, .move (.const (.sc (.bool false))) false⟩])
 (.seq (.reg [⟨(some 3), false, none, .load true 33 (.tmp 1) false⟩,
   ⟨(some 4), false, none, .build [(.sc (.int .u8 0)), (.sc (.int .u8 0)), (.sc (.int .u8 0)), (.sc (.int .u8 0)), (.sc (.int .u8 0)), (.sc (.int .u8 0)), (.sc (.int .u8 0)), (.sc (.int .u8 0)), (.sc (.int .u8 0)), (.sc (.int .u8 0)), (.sc (.int .u8 0)), (.sc (.int .u8 0)), (.sc (.int .u8 0)), (.sc (.int .u8 0)), (.sc (.int .u8 0)), (.sc (.int .u8 0)), (.sc (.int .u8 0)), (.sc (.int .u8 0)), (.sc (.int .u8 0)), (.sc (.int .u8 0)), (.sc (.int .u8 0)), (.sc (.int .u8 0)), (.sc (.int .u8 0)), (.sc (.int .u8 0)), (.sc (.int .u8 0)), (.sc (.int .u8 0)), (.sc (.int .u8 0)), (.sc (.int .u8 0)), (.sc (.int .u8 0)), (.sc (.int .u8 0)), (.sc (.int .u8 0)), (.sc (.int .u8 0)), (.sc (.int .u32 0))] [(32, 1, (.const (.sc (.int .u32 4294967295))))]⟩,
   ⟨(some 5), false, none, .eqAgg false 33 (.tmp 3) (.tmp 4)⟩,
   ⟨(some 2), false, none, .move (.tmp 5) false⟩])
 .ret))⟩
def hint_ref09_Null : Hint := ⟨[], [], [none], []⟩
def sh_ref09_Null : Nat → Sh := shOf []
def cb_ref09_Null (L : Nat) : CBC := noC
def R_ref09_Null {β : Type} (L : Nat) (p0 : List V) (k_fin : Bool → Option β) : Option β :=
 chk (0 + 33 ≤ (List.length p0)) (
 eqC 33 (List.take 33 p0) (List.replicate 32 (V.sc (.int .u8 (0 : Int))) ++ [(V.sc (.int .u32 (4294967295 : Int)))]) fun v0 =>
 k_fin v0)
theorem R_ref09_Null_ok {β : Type} (L : Nat) (p0 : List V) (k : V → Bor → Option β) : funC sh_ref09_Null (cb_ref09_Null L) L cf_ref09_Null [(V.agg p0)] [] k = R_ref09_Null L p0 (fun p0 => k (V.sc (.bool p0)) []) := by kernel_rfl
abbrev T_ref09_Null := ∀ (β : Type), Nat → List V → (Bool → Option β) → Option β
def F_ref09_Null (β : Type) (L : Nat) (p0 : List V) (k_fin : Bool → Option β) : Option β := R_ref09_Null L p0 k_fin
def d_ref09_Null (F_ref09_Null : T_ref09_Null) (L : Nat) (β : Type) (args : List V) (bor : Bor) (k : V → Bor → Option β) : Option β := match args, bor with
  | [a0], [] => aG a0 fun p0 => F_ref09_Null β L p0 (fun p0 => k (V.sc (.bool p0)) [])
  | _, _ => none
theorem d_ref09_Null_ok (L : Nat) (β : Type) (args : List V) (bor : Bor) (k : V → Bor → Option β) (r : β) (h : d_ref09_Null F_ref09_Null L β args bor k = some r) : funC sh_ref09_Null (cb_ref09_Null L) L cf_ref09_Null args bor k = some r := by
  unfold d_ref09_Null at h
  split at h
  · have q := aG_inv h; clear h; obtain ⟨p0, rfl, h⟩ := q
    exact (R_ref09_Null_ok L p0 k).trans h
  · cases h
/-! ref09_Coinbase : 153 -/
def cf_ref09_Coinbase : CF := ⟨15, [.tmp 2],
 (.seq (.reg [⟨(some 1), false, none, .box false (.tmp 0)⟩,
   ⟨(some 2), false, none, .move (.const (.sc (.bool false))) false⟩])
 (.seq (.reg [⟨(some 3), false, none, .fieldAddr 1 (.tmp 1)⟩,
   ⟨(some 4), false, none, .load false 1 (.tmp 3) false⟩,
   ⟨(some 5), false, none, .lenS (.tmp 4)⟩,
   ⟨(some 6), false, none, .bin .eql (.tmp 5) (.const (.sc (.int .i64 1)))⟩,
   ⟨(some 7), false, none, .move (.tmp 6) false⟩,
   ⟨(some 8), false, (some (7, true)), .fieldAddr 1 (.tmp 1)⟩,
   ⟨(some 9), false, (some (7, true)), .load false 1 (.tmp 8) false⟩,
   ⟨(some 10), false, (some (7, true)), .indexAddrS 35 (.tmp 9) (.const (.sc (.int .i64 0)))⟩,
   ⟨(some 11), false, (some (7, true)), .fieldAddr 0 (.tmp 10)⟩,
   ⟨(some 12), false, (some (7, true)), .load true 33 (.tmp 11) false⟩,
   ⟨(some 13), false, (some (7, true)), .call 152 [((.tmp 12), false)]⟩,
   ⟨(some 14), false, none, .pick (.tmp 7) (.tmp 13) (.const (.sc (.bool false)))⟩,
   ⟨(some 2), false, none, .move (.tmp 14) false⟩])
 .ret))⟩
def hint_ref09_Coinbase : Hint := ⟨[], [], [none], []⟩
def sh_ref09_Coinbase : Nat → Sh := shOf [(1, (.row [(.int .u32), (.sl 35), (.sl 2), (.int .u32)]))]
def cb_ref09_Coinbase (F_ref09_Null : T_ref09_Null) (L : Nat) : CBC := (addC 152 (d_ref09_Null F_ref09_Null L) noC)
def R_ref09_Coinbase {β : Type} (F_ref09_Null : T_ref09_Null) (L : Nat) (p0 : List V) (k_fin : Bool → Option β) : Option β :=
 chk (List.length p0 = 4) (
 cI .u32 p0 0 fun v0 =>
 cL 35 p0 1 fun v1 =>
 cL 2 p0 2 fun v2 =>
 cI .u32 p0 3 fun v3 =>
 ifb ((((List.length v1 : Nat) : Int) : Int) == (1 : Int)) (
 idx v1 (0 : Int) fun c4 =>
 F_ref09_Null β L (List.take 33 c4) (fun v5 =>
 k_fin v5)) (
 k_fin false))
theorem R_ref09_Coinbase_ok {β : Type} (F_ref09_Null : T_ref09_Null) (L : Nat) (p0 : List V) (k : V → Bor → Option β) : funC sh_ref09_Coinbase (cb_ref09_Coinbase F_ref09_Null L) L cf_ref09_Coinbase [(V.agg p0)] [] k = R_ref09_Coinbase F_ref09_Null L p0 (fun p0 => k (V.sc (.bool p0)) []) := by kernel_rfl
abbrev T_ref09_Coinbase := ∀ (β : Type), Nat → List V → (Bool → Option β) → Option β
def F_ref09_Coinbase (β : Type) (L : Nat) (p0 : List V) (k_fin : Bool → Option β) : Option β := R_ref09_Coinbase F_ref09_Null L p0 k_fin
def d_ref09_Coinbase (F_ref09_Coinbase : T_ref09_Coinbase) (L : Nat) (β : Type) (args : List V) (bor : Bor) (k : V → Bor → Option β) : Option β := match args, bor with
  | [a0], [] => aG a0 fun p0 => F_ref09_Coinbase β L p0 (fun p0 => k (V.sc (.bool p0)) [])
  | _, _ => none
theorem d_ref09_Coinbase_ok (L : Nat) (β : Type) (args : List V) (bor : Bor) (k : V → Bor → Option β) (r : β) (h : d_ref09_Coinbase F_ref09_Coinbase L β args bor k = some r) : funC sh_ref09_Coinbase (cb_ref09_Coinbase F_ref09_Null L) L cf_ref09_Coinbase args bor k = some r := by
  unfold d_ref09_Coinbase at h
  split at h
  · have q := aG_inv h; clear h; obtain ⟨p0, rfl, h⟩ := q
    exact (R_ref09_Coinbase_ok F_ref09_Null L p0 k).trans h
  · cases h
/-! ref09_Check : 132 -/
def cbbbbbbabaabbaabbaa_ref09_Check : CC := (.seq (.seq (.reg [⟨(some 46), false, none, .move (.tmp 7) false⟩,
   ⟨(some 47), false, none, .move (.tmp 6) false⟩,
   ⟨(some 48), false, none, .bin .lss (.tmp 46) (.tmp 47)⟩])
 (.cond (.tmp 48)
 .skip
 (.seq (.mask (bl 13194139533314 81) (bl 2417851639229258349412219 81))
 (.exit 4))))
 (.seq (.block 5 (.seq (.dreg [] [(⟨(some 51), false, none, .fieldAddr 1 (.tmp 1)⟩, false),
   (⟨(some 52), false, none, .load false 1 (.tmp 51) false⟩, true),
   (⟨(some 53), false, none, .move (.tmp 6) false⟩, false),
   (⟨(some 54), false, none, .indexAddrS 35 (.tmp 52) (.tmp 53)⟩, false),
   (⟨(some 55), false, none, .fieldAddr 0 (.tmp 54)⟩, false),
   (⟨(some 56), false, none, .load true 33 (.tmp 55) false⟩, true),
   (⟨(some 57), false, none, .fieldAddr 1 (.tmp 1)⟩, false),
   (⟨(some 58), false, none, .load false 1 (.tmp 57) false⟩, true),
   (⟨(some 59), false, none, .move (.tmp 7) false⟩, false),
   (⟨(some 60), false, none, .indexAddrS 35 (.tmp 58) (.tmp 59)⟩, false),
   (⟨(some 61), false, none, .fieldAddr 0 (.tmp 60)⟩, false),
   (⟨(some 62), false, none, .load true 33 (.tmp 61) false⟩, true),
   (⟨(some 63), false, none, .eqAgg false 33 (.tmp 56) (.tmp 62)⟩, false)])
 (.cond (.tmp 63)
 (.seq (.reg [⟨(some 2), false, none, .move (.const (.sc (.int .i64 91))) false⟩])
 (.seq (.mask (bl 4 81) (bl 2417851639229258349412159 81))
 .ret))
 .skip)))
 (.reg [⟨(some 49), false, none, .move (.tmp 7) false⟩,
   ⟨(some 50), false, none, .bin .add (.tmp 49) (.const (.sc (.int .i64 1)))⟩,
   ⟨(some 7), false, none, .move (.tmp 50) false⟩])))
def cbbbbbbabaabbb_ref09_Check : CC := (.reg [⟨(some 64), false, none, .bin .add (.tmp 43) (.const (.sc (.int .i64 1)))⟩,
   ⟨(some 43), false, none, .move (.tmp 64) false⟩])
def cbbbbbbbabaa_ref09_Check : CC := (.seq (.reg [⟨(some 69), false, none, .bin .lss (.tmp 68) (.tmp 67)⟩])
 (.seq (.cond (.tmp 69)
 .skip
 (.seq (.mask (bl 0 81) (bl 2247846445845951121718779 81))
 (.exit 6)))
 (.seq (.block 7 (.seq (.reg [⟨(some 70), false, none, .indexAddrS 35 (.tmp 66) (.tmp 68)⟩,
   ⟨(some 71), false, none, .load true 35 (.tmp 70) false⟩,
   ⟨(some 9), false, none, .alloc false [(.sc (.int .u8 0)), (.sc (.int .u8 0)), (.sc (.int .u8 0)), (.sc (.int .u8 0)), (.sc (.int .u8 0)), (.sc (.int .u8 0)), (.sc (.int .u8 0)), (.sc (.int .u8 0)), (.sc (.int .u8 0)), (.sc (.int .u8 0)), (.sc (.int .u8 0)), (.sc (.int .u8 0)), (.sc (.int .u8 0)), (.sc (.int .u8 0)), (.sc (.int .u8 0)), (.sc (.int .u8 0)), (.sc (.int .u8 0)), (.sc (.int .u8 0)), (.sc (.int .u8 0)), (.sc (.int .u8 0)), (.sc (.int .u8 0)), (.sc (.int .u8 0)), (.sc (.int .u8 0)), (.sc (.int .u8 0)), (.sc (.int .u8 0)), (.sc (.int .u8 0)), (.sc (.int .u8 0)), (.sc (.int .u8 0)), (.sc (.int .u8 0)), (.sc (.int .u8 0)), (.sc (.int .u8 0)), (.sc (.int .u8 0)), (.sc (.int .u32 0)), (.sc (.int .u32 0)), (.gs 1 [])]⟩,
   ⟨none, false, none, .store 35 (.tmp 9) (.tmp 71)⟩])
 (.seq (.reg [⟨(some 72), false, none, .fieldAddr 0 (.tmp 9)⟩,
   ⟨(some 73), false, none, .load true 33 (.tmp 72) false⟩,
   ⟨(some 74), false, none, .call 152 [((.tmp 73), false)]⟩,
   ⟨(some 75), false, none, .move (.tmp 74) false⟩,
   ⟨(some 76), false, (some (75, true)), .load true 4 (.tmp 1) false⟩,
   ⟨(some 77), false, (some (75, true)), .call 153 [((.tmp 76), true)]⟩,
   ⟨(some 78), false, (some (75, true)), .un .not (.tmp 77)⟩,
   ⟨(some 79), false, none, .pick (.tmp 75) (.tmp 78) (.const (.sc (.bool false)))⟩])
 (.cond (.tmp 79)
 (.seq (.reg [⟨(some 2), false, none, .move (.const (.sc (.int .i64 92))) false⟩])
 (.seq (.mask (bl 4 81) (bl 2247846445845951121718783 81))
 .ret))
 .skip))))
 (.reg [⟨(some 80), false, none, .bin .add (.tmp 68) (.const (.sc (.int .i64 1)))⟩,
   ⟨(some 68), false, none, .move (.tmp 80) false⟩]))))
def cbbbbbbabaa_ref09_Check : CC := (.seq (.reg [⟨(some 44), false, none, .bin .lss (.tmp 43) (.tmp 42)⟩])
 (.seq (.cond (.tmp 44)
 .skip
 (.seq (.mask (bl 2 81) (bl 2417851639229258349412155 81))
 (.exit 2)))
 (.seq (.block 3 (.seq (.reg [⟨(some 45), false, none, .move (.tmp 43) false⟩,
   ⟨(some 6), false, none, .move (.tmp 45) false⟩])
 (.seq (.reg [⟨(some 7), false, none, .move (.const (.sc (.int .i64 0))) false⟩])
 (.block 4 (.loop (bl 13194139533506 81) (bl 2417851639229258349412347 81)
 cbbbbbbabaabbaabbaa_ref09_Check)))))
 cbbbbbbabaabbb_ref09_Check)))
def cbbbbbbbb_ref09_Check : CC := (.seq (.reg [⟨(some 2), false, none, .move (.const (.sc (.int .i64 0))) false⟩])
 .ret)
def cbbbbabaa_ref09_Check : CC := (.seq (.reg [⟨(some 27), false, none, .bin .lss (.tmp 26) (.tmp 25)⟩])
 (.seq (.cond (.tmp 27)
 .skip
 (.seq (.mask (bl 10 81) (bl 2417851639229258349412315 81))
 (.exit 0)))
 (.seq (.block 1 (.seq (.reg [⟨(some 28), false, none, .indexAddrS 2 (.tmp 24) (.tmp 26)⟩,
   ⟨(some 29), false, none, .load true 2 (.tmp 28) false⟩,
   ⟨(some 5), false, none, .alloc false [(.sc (.int .i64 0)), (.gs 1 [])]⟩,
   ⟨none, false, none, .store 2 (.tmp 5) (.tmp 29)⟩])
 (.seq (.seq (.reg [⟨(some 30), false, none, .fieldAddr 0 (.tmp 5)⟩,
   ⟨(some 31), false, none, .load false 1 (.tmp 30) false⟩,
   ⟨(some 32), false, none, .bin .gtr (.tmp 31) (.const (.sc (.int .i64 2100000000000000)))⟩])
 (.cond (.tmp 32)
 (.seq (.reg [⟨(some 2), false, none, .move (.const (.sc (.int .i64 90))) false⟩])
 (.seq (.mask (bl 4 81) (bl 2417851639229258349412311 81))
 .ret))
 .skip))
 (.reg [⟨(some 33), false, none, .move (.tmp 3) false⟩,
   ⟨(some 34), false, none, .fieldAddr 0 (.tmp 5)⟩,
   ⟨(some 35), false, none, .load false 1 (.tmp 34) false⟩,
   ⟨(some 36), false, none, .bin .add (.tmp 33) (.tmp 35)⟩,
   ⟨(some 3), false, none, .move (.tmp 36) false⟩]))))
 (.reg [⟨(some 37), false, none, .bin .add (.tmp 26) (.const (.sc (.int .i64 1)))⟩,
   ⟨(some 26), false, none, .move (.tmp 37) false⟩]))))
def cbbbbbbb_ref09_Check : CC := (.seq (.seq (.reg [⟨(some 65), false, none, .fieldAddr 1 (.tmp 1)⟩,
   ⟨(some 66), false, none, .load false 1 (.tmp 65) false⟩,
   ⟨(some 67), false, none, .lenS (.tmp 66)⟩,
   ⟨(some 68), false, none, .move (.const (.sc (.int .i64 0))) false⟩])
 (.block 6 (.loop (bl 516508834063867445250 81) (bl 2247846445845951121718779 81)
 cbbbbbbbabaa_ref09_Check)))
 cbbbbbbbb_ref09_Check)
def cbbbbb_ref09_Check : CC := (.seq (.seq (.reg [⟨(some 38), false, none, .move (.tmp 3) false⟩,
   ⟨(some 39), false, none, .bin .gtr (.tmp 38) (.const (.sc (.int .i64 2100000000000000)))⟩])
 (.cond (.tmp 39)
 (.seq (.reg [⟨(some 2), false, none, .move (.const (.sc (.int .i64 90))) false⟩])
 .ret)
 .skip))
 (.seq (.seq (.reg [⟨(some 40), false, none, .fieldAddr 1 (.tmp 1)⟩,
   ⟨(some 41), false, none, .load false 1 (.tmp 40) false⟩,
   ⟨(some 42), false, none, .lenS (.tmp 41)⟩,
   ⟨(some 43), false, none, .move (.const (.sc (.int .i64 0))) false⟩])
 (.block 2 (.loop (bl 13194139533314 81) (bl 2417851639229258349412155 81)
 cbbbbbbabaa_ref09_Check)))
 cbbbbbbb_ref09_Check))
def cf_ref09_Check : CF := ⟨81, [.tmp 2],
 (.seq (.reg [⟨(some 1), false, none, .box false (.tmp 0)⟩,
   ⟨(some 2), false, none, .move (.const (.sc (.int .i64 0))) false⟩])
 (.seq (.seq (.reg [⟨(some 10), false, none, .load true 4 (.tmp 1) false⟩,
   ⟨(some 11), false, none, .call 148 [((.tmp 10), true)]⟩,
   ⟨(some 12), false, none, .un .not (.tmp 11)⟩])
 (.cond (.tmp 12)
 (.seq (.reg [⟨(some 2), false, none, .move (.const (.sc (.int .i64 4))) false⟩])
 .ret)
 .skip))
 (.seq (.seq (.reg [⟨(some 13), false, none, .fieldAddr 1 (.tmp 1)⟩,
   ⟨(some 14), false, none, .load false 1 (.tmp 13) false⟩,
   ⟨(some 15), false, none, .lenS (.tmp 14)⟩,
   ⟨(some 16), false, none, .bin .eql (.tmp 15) (.const (.sc (.int .i64 0)))⟩,
   ⟨(some 17), false, none, .move (.tmp 16) false⟩,
   ⟨(some 18), false, (some (17, false)), .fieldAddr 2 (.tmp 1)⟩,
   ⟨(some 19), false, (some (17, false)), .load false 1 (.tmp 18) false⟩,
   ⟨(some 20), false, (some (17, false)), .lenS (.tmp 19)⟩,
   ⟨(some 21), false, (some (17, false)), .bin .eql (.tmp 20) (.const (.sc (.int .i64 0)))⟩,
   ⟨(some 22), false, none, .pick (.tmp 17) (.const (.sc (.bool true))) (.tmp 21)⟩])
 (.cond (.tmp 22)
 (.seq (.reg [⟨(some 2), false, none, .move (.const (.sc (.int .i64 93))) false⟩])
 .ret)
 .skip))
 (.seq (.reg [⟨(some 3), false, none, .move (.const (.sc (.int .i64 0))) false⟩])
 (.seq (.seq (.reg [⟨(some 23), false, none, .fieldAddr 2 (.tmp 1)⟩,
   ⟨(some 24), false, none, .load false 1 (.tmp 23) false⟩,
   ⟨(some 25), false, none, .lenS (.tmp 24)⟩,
   ⟨(some 26), false, none, .move (.const (.sc (.int .i64 0))) false⟩])
 (.block 0 (.loop (bl 117440522 81) (bl 2417851639229258349412315 81)
 cbbbbabaa_ref09_Check)))
 cbbbbb_ref09_Check)))))⟩
def hint_ref09_Check : Hint := ⟨[], [], [none, none, none, none, none, some ((bl 117440522 81), (bl 2417851639229258349412315 81)), none, some ((bl 10 81), (bl 2417851639229258349412315 81)), none, none, some ((bl 4 81), (bl 2417851639229258349412311 81)), none, none, none, some ((bl 13194139533314 81), (bl 2417851639229258349412155 81)), none, some ((bl 2 81), (bl 2417851639229258349412155 81)), none, none, some ((bl 13194139533506 81), (bl 2417851639229258349412347 81)), none, some ((bl 13194139533314 81), (bl 2417851639229258349412219 81)), none, none, some ((bl 4 81), (bl 2417851639229258349412159 81)), none, some ((bl 516508834063867445250 81), (bl 2247846445845951121718779 81)), none, some ((bl 0 81), (bl 2247846445845951121718779 81)), none, none, some ((bl 4 81), (bl 2247846445845951121718783 81)), none], []⟩
def sh_ref09_Check : Nat → Sh := shOf [(1, (.row [(.int .u32), (.sl 35), (.sl 2), (.int .u32)])), (29, (.row [(.int .i64), (.sl 1)])), (71, (.row [(.int .u8), (.int .u8), (.int .u8), (.int .u8), (.int .u8), (.int .u8), (.int .u8), (.int .u8), (.int .u8), (.int .u8), (.int .u8), (.int .u8), (.int .u8), (.int .u8), (.int .u8), (.int .u8), (.int .u8), (.int .u8), (.int .u8), (.int .u8), (.int .u8), (.int .u8), (.int .u8), (.int .u8), (.int .u8), (.int .u8), (.int .u8), (.int .u8), (.int .u8), (.int .u8), (.int .u8), (.int .u8), (.int .u32), (.int .u32), (.sl 1)]))]
def cb_ref09_Check (F_ref09_Fits : T_ref09_Fits) (F_ref09_Null : T_ref09_Null) (F_ref09_Coinbase : T_ref09_Coinbase) (L : Nat) : CBC := (addC 153 (d_ref09_Coinbase F_ref09_Coinbase L) (addC 152 (d_ref09_Null F_ref09_Null L) (addC 148 (d_ref09_Fits F_ref09_Fits L) noC)))
def mbbbbaba_ref09_Check : St → St := mask (bl 117440522 81) (bl 2417851639229258349412315 81)
def mbbbbbbaba_ref09_Check : St → St := mask (bl 13194139533314 81) (bl 2417851639229258349412155 81)
def mbbbbbbabaabbaabba_ref09_Check : St → St := mask (bl 13194139533506 81) (bl 2417851639229258349412347 81)
def mbbbbbbbaba_ref09_Check : St → St := mask (bl 516508834063867445250 81) (bl 2247846445845951121718779 81)
def st_hbbbbaba_ref09_Check (p3 : Int) (p24 : List (List V)) (p25 : Int) (p26 : Int) (b1_0 : Int) (b1_1 : List (List V)) (b1_2 : List (List V)) (b1_3 : Int) : St := ⟨[.junk, (V.ptr 1 0), .junk, (V.sc (.int .i64 p3)), .junk, .junk, .junk, .junk, .junk, .junk, .junk, .junk, .junk, .junk, .junk, .junk, .junk, .junk, .junk, .junk, .junk, .junk, .junk, .junk, (V.sl 2 p24), (V.sc (.int .i64 p25)), (V.sc (.int .i64 p26)), .junk, .junk, .junk, .junk, .junk, .junk, .junk, .junk, .junk, .junk, .junk, .junk, .junk, .junk, .junk, .junk, .junk, .junk, .junk, .junk, .junk, .junk, .junk, .junk, .junk, .junk, .junk, .junk, .junk, .junk, .junk, .junk, .junk, .junk, .junk, .junk, .junk, .junk, .junk, .junk, .junk, .junk, .junk, .junk, .junk, .junk, .junk, .junk, .junk, .junk, .junk, .junk, .junk, .junk], [.gone, (.live false [(V.sc (.int .u32 b1_0)), (V.sl 35 b1_1), (V.sl 2 b1_2), (V.sc (.int .u32 b1_3))]), .gone, .gone, .gone, .gone, .gone, .gone, .gone, .gone, .gone, .gone, .gone, .gone, .gone, .gone, .gone, .gone, .gone, .gone, .gone, .gone, .gone, .gone, .gone, .gone, .gone, .gone, .gone, .gone, .gone, .gone, .gone, .gone, .gone, .gone, .gone, .gone, .gone, .gone, .gone, .gone, .gone, .gone, .gone, .gone, .gone, .gone, .gone, .gone, .gone, .gone, .gone, .gone, .gone, .gone, .gone, .gone, .gone, .gone, .gone, .gone, .gone, .gone, .gone, .gone, .gone, .gone, .gone, .gone, .gone, .gone, .gone, .gone, .gone, .gone, .gone, .gone, .gone, .gone, .gone]⟩
def st_ret_ref09_Check (p2 : Int) (b1_0 : Int) (b1_1 : List (List V)) (b1_2 : List (List V)) (b1_3 : Int) : St := ⟨[.junk, .junk, (V.sc (.int .i64 p2)), .junk, .junk, .junk, .junk, .junk, .junk, .junk, .junk, .junk, .junk, .junk, .junk, .junk, .junk, .junk, .junk, .junk, .junk, .junk, .junk, .junk, .junk, .junk, .junk, .junk, .junk, .junk, .junk, .junk, .junk, .junk, .junk, .junk, .junk, .junk, .junk, .junk, .junk, .junk, .junk, .junk, .junk, .junk, .junk, .junk, .junk, .junk, .junk, .junk, .junk, .junk, .junk, .junk, .junk, .junk, .junk, .junk, .junk, .junk, .junk, .junk, .junk, .junk, .junk, .junk, .junk, .junk, .junk, .junk, .junk, .junk, .junk, .junk, .junk, .junk, .junk, .junk, .junk], [.gone, (.live false [(V.sc (.int .u32 b1_0)), (V.sl 35 b1_1), (V.sl 2 b1_2), (V.sc (.int .u32 b1_3))]), .gone, .gone, .gone, .gone, .gone, .gone, .gone, .gone, .gone, .gone, .gone, .gone, .gone, .gone, .gone, .gone, .gone, .gone, .gone, .gone, .gone, .gone, .gone, .gone, .gone, .gone, .gone, .gone, .gone, .gone, .gone, .gone, .gone, .gone, .gone, .gone, .gone, .gone, .gone, .gone, .gone, .gone, .gone, .gone, .gone, .gone, .gone, .gone, .gone, .gone, .gone, .gone, .gone, .gone, .gone, .gone, .gone, .gone, .gone, .gone, .gone, .gone, .gone, .gone, .gone, .gone, .gone, .gone, .gone, .gone, .gone, .gone, .gone, .gone, .gone, .gone, .gone, .gone, .gone]⟩
def st_x0_ref09_Check (p3 : Int) (b1_0 : Int) (b1_1 : List (List V)) (b1_2 : List (List V)) (b1_3 : Int) : St := ⟨[.junk, (V.ptr 1 0), .junk, (V.sc (.int .i64 p3)), .junk, .junk, .junk, .junk, .junk, .junk, .junk, .junk, .junk, .junk, .junk, .junk, .junk, .junk, .junk, .junk, .junk, .junk, .junk, .junk, .junk, .junk, .junk, .junk, .junk, .junk, .junk, .junk, .junk, .junk, .junk, .junk, .junk, .junk, .junk, .junk, .junk, .junk, .junk, .junk, .junk, .junk, .junk, .junk, .junk, .junk, .junk, .junk, .junk, .junk, .junk, .junk, .junk, .junk, .junk, .junk, .junk, .junk, .junk, .junk, .junk, .junk, .junk, .junk, .junk, .junk, .junk, .junk, .junk, .junk, .junk, .junk, .junk, .junk, .junk, .junk, .junk], [.gone, (.live false [(V.sc (.int .u32 b1_0)), (V.sl 35 b1_1), (V.sl 2 b1_2), (V.sc (.int .u32 b1_3))]), .gone, .gone, .gone, .gone, .gone, .gone, .gone, .gone, .gone, .gone, .gone, .gone, .gone, .gone, .gone, .gone, .gone, .gone, .gone, .gone, .gone, .gone, .gone, .gone, .gone, .gone, .gone, .gone, .gone, .gone, .gone, .gone, .gone, .gone, .gone, .gone, .gone, .gone, .gone, .gone, .gone, .gone, .gone, .gone, .gone, .gone, .gone, .gone, .gone, .gone, .gone, .gone, .gone, .gone, .gone, .gone, .gone, .gone, .gone, .gone, .gone, .gone, .gone, .gone, .gone, .gone, .gone, .gone, .gone, .gone, .gone, .gone, .gone, .gone, .gone, .gone, .gone, .gone, .gone]⟩
def st_hbbbbbbaba_ref09_Check (p42 : Int) (p43 : Int) (b1_0 : Int) (b1_1 : List (List V)) (b1_2 : List (List V)) (b1_3 : Int) : St := ⟨[.junk, (V.ptr 1 0), .junk, .junk, .junk, .junk, .junk, .junk, .junk, .junk, .junk, .junk, .junk, .junk, .junk, .junk, .junk, .junk, .junk, .junk, .junk, .junk, .junk, .junk, .junk, .junk, .junk, .junk, .junk, .junk, .junk, .junk, .junk, .junk, .junk, .junk, .junk, .junk, .junk, .junk, .junk, .junk, (V.sc (.int .i64 p42)), (V.sc (.int .i64 p43)), .junk, .junk, .junk, .junk, .junk, .junk, .junk, .junk, .junk, .junk, .junk, .junk, .junk, .junk, .junk, .junk, .junk, .junk, .junk, .junk, .junk, .junk, .junk, .junk, .junk, .junk, .junk, .junk, .junk, .junk, .junk, .junk, .junk, .junk, .junk, .junk, .junk], [.gone, (.live false [(V.sc (.int .u32 b1_0)), (V.sl 35 b1_1), (V.sl 2 b1_2), (V.sc (.int .u32 b1_3))]), .gone, .gone, .gone, .gone, .gone, .gone, .gone, .gone, .gone, .gone, .gone, .gone, .gone, .gone, .gone, .gone, .gone, .gone, .gone, .gone, .gone, .gone, .gone, .gone, .gone, .gone, .gone, .gone, .gone, .gone, .gone, .gone, .gone, .gone, .gone, .gone, .gone, .gone, .gone, .gone, .gone, .gone, .gone, .gone, .gone, .gone, .gone, .gone, .gone, .gone, .gone, .gone, .gone, .gone, .gone, .gone, .gone, .gone, .gone, .gone, .gone, .gone, .gone, .gone, .gone, .gone, .gone, .gone, .gone, .gone, .gone, .gone, .gone, .gone, .gone, .gone, .gone, .gone, .gone]⟩
def st_hbbbbbbabaabbaabba_ref09_Check (p6 : Int) (p7 : Int) (p42 : Int) (p43 : Int) (b1_0 : Int) (b1_1 : List (List V)) (b1_2 : List (List V)) (b1_3 : Int) : St := ⟨[.junk, (V.ptr 1 0), .junk, .junk, .junk, .junk, (V.sc (.int .i64 p6)), (V.sc (.int .i64 p7)), .junk, .junk, .junk, .junk, .junk, .junk, .junk, .junk, .junk, .junk, .junk, .junk, .junk, .junk, .junk, .junk, .junk, .junk, .junk, .junk, .junk, .junk, .junk, .junk, .junk, .junk, .junk, .junk, .junk, .junk, .junk, .junk, .junk, .junk, (V.sc (.int .i64 p42)), (V.sc (.int .i64 p43)), .junk, .junk, .junk, .junk, .junk, .junk, .junk, .junk, .junk, .junk, .junk, .junk, .junk, .junk, .junk, .junk, .junk, .junk, .junk, .junk, .junk, .junk, .junk, .junk, .junk, .junk, .junk, .junk, .junk, .junk, .junk, .junk, .junk, .junk, .junk, .junk, .junk], [.gone, (.live false [(V.sc (.int .u32 b1_0)), (V.sl 35 b1_1), (V.sl 2 b1_2), (V.sc (.int .u32 b1_3))]), .gone, .gone, .gone, .gone, .gone, .gone, .gone, .gone, .gone, .gone, .gone, .gone, .gone, .gone, .gone, .gone, .gone, .gone, .gone, .gone, .gone, .gone, .gone, .gone, .gone, .gone, .gone, .gone, .gone, .gone, .gone, .gone, .gone, .gone, .gone, .gone, .gone, .gone, .gone, .gone, .gone, .gone, .gone, .gone, .gone, .gone, .gone, .gone, .gone, .gone, .gone, .gone, .gone, .gone, .gone, .gone, .gone, .gone, .gone, .gone, .gone, .gone, .gone, .gone, .gone, .gone, .gone, .gone, .gone, .gone, .gone, .gone, .gone, .gone, .gone, .gone, .gone, .gone, .gone]⟩
def st_x2_ref09_Check (b1_0 : Int) (b1_1 : List (List V)) (b1_2 : List (List V)) (b1_3 : Int) : St := ⟨[.junk, (V.ptr 1 0), .junk, .junk, .junk, .junk, .junk, .junk, .junk, .junk, .junk, .junk, .junk, .junk, .junk, .junk, .junk, .junk, .junk, .junk, .junk, .junk, .junk, .junk, .junk, .junk, .junk, .junk, .junk, .junk, .junk, .junk, .junk, .junk, .junk, .junk, .junk, .junk, .junk, .junk, .junk, .junk, .junk, .junk, .junk, .junk, .junk, .junk, .junk, .junk, .junk, .junk, .junk, .junk, .junk, .junk, .junk, .junk, .junk, .junk, .junk, .junk, .junk, .junk, .junk, .junk, .junk, .junk, .junk, .junk, .junk, .junk, .junk, .junk, .junk, .junk, .junk, .junk, .junk, .junk, .junk], [.gone, (.live false [(V.sc (.int .u32 b1_0)), (V.sl 35 b1_1), (V.sl 2 b1_2), (V.sc (.int .u32 b1_3))]), .gone, .gone, .gone, .gone, .gone, .gone, .gone, .gone, .gone, .gone, .gone, .gone, .gone, .gone, .gone, .gone, .gone, .gone, .gone, .gone, .gone, .gone, .gone, .gone, .gone, .gone, .gone, .gone, .gone, .gone, .gone, .gone, .gone, .gone, .gone, .gone, .gone, .gone, .gone, .gone, .gone, .gone, .gone, .gone, .gone, .gone, .gone, .gone, .gone, .gone, .gone, .gone, .gone, .gone, .gone, .gone, .gone, .gone, .gone, .gone, .gone, .gone, .gone, .gone, .gone, .gone, .gone, .gone, .gone, .gone, .gone, .gone, .gone, .gone, .gone, .gone, .gone, .gone, .gone]⟩
def st_hbbbbbbbaba_ref09_Check (p66 : List (List V)) (p67 : Int) (p68 : Int) (b1_0 : Int) (b1_1 : List (List V)) (b1_2 : List (List V)) (b1_3 : Int) : St := ⟨[.junk, (V.ptr 1 0), .junk, .junk, .junk, .junk, .junk, .junk, .junk, .junk, .junk, .junk, .junk, .junk, .junk, .junk, .junk, .junk, .junk, .junk, .junk, .junk, .junk, .junk, .junk, .junk, .junk, .junk, .junk, .junk, .junk, .junk, .junk, .junk, .junk, .junk, .junk, .junk, .junk, .junk, .junk, .junk, .junk, .junk, .junk, .junk, .junk, .junk, .junk, .junk, .junk, .junk, .junk, .junk, .junk, .junk, .junk, .junk, .junk, .junk, .junk, .junk, .junk, .junk, .junk, .junk, (V.sl 35 p66), (V.sc (.int .i64 p67)), (V.sc (.int .i64 p68)), .junk, .junk, .junk, .junk, .junk, .junk, .junk, .junk, .junk, .junk, .junk, .junk], [.gone, (.live false [(V.sc (.int .u32 b1_0)), (V.sl 35 b1_1), (V.sl 2 b1_2), (V.sc (.int .u32 b1_3))]), .gone, .gone, .gone, .gone, .gone, .gone, .gone, .gone, .gone, .gone, .gone, .gone, .gone, .gone, .gone, .gone, .gone, .gone, .gone, .gone, .gone, .gone, .gone, .gone, .gone, .gone, .gone, .gone, .gone, .gone, .gone, .gone, .gone, .gone, .gone, .gone, .gone, .gone, .gone, .gone, .gone, .gone, .gone, .gone, .gone, .gone, .gone, .gone, .gone, .gone, .gone, .gone, .gone, .gone, .gone, .gone, .gone, .gone, .gone, .gone, .gone, .gone, .gone, .gone, .gone, .gone, .gone, .gone, .gone, .gone, .gone, .gone, .gone, .gone, .gone, .gone, .gone, .gone, .gone]⟩
def st_x4_ref09_Check (p42 : Int) (p43 : Int) (b1_0 : Int) (b1_1 : List (List V)) (b1_2 : List (List V)) (b1_3 : Int) : St := ⟨[.junk, (V.ptr 1 0), .junk, .junk, .junk, .junk, .junk, .junk, .junk, .junk, .junk, .junk, .junk, .junk, .junk, .junk, .junk, .junk, .junk, .junk, .junk, .junk, .junk, .junk, .junk, .junk, .junk, .junk, .junk, .junk, .junk, .junk, .junk, .junk, .junk, .junk, .junk, .junk, .junk, .junk, .junk, .junk, (V.sc (.int .i64 p42)), (V.sc (.int .i64 p43)), .junk, .junk, .junk, .junk, .junk, .junk, .junk, .junk, .junk, .junk, .junk, .junk, .junk, .junk, .junk, .junk, .junk, .junk, .junk, .junk, .junk, .junk, .junk, .junk, .junk, .junk, .junk, .junk, .junk, .junk, .junk, .junk, .junk, .junk, .junk, .junk, .junk], [.gone, (.live false [(V.sc (.int .u32 b1_0)), (V.sl 35 b1_1), (V.sl 2 b1_2), (V.sc (.int .u32 b1_3))]), .gone, .gone, .gone, .gone, .gone, .gone, .gone, .gone, .gone, .gone, .gone, .gone, .gone, .gone, .gone, .gone, .gone, .gone, .gone, .gone, .gone, .gone, .gone, .gone, .gone, .gone, .gone, .gone, .gone, .gone, .gone, .gone, .gone, .gone, .gone, .gone, .gone, .gone, .gone, .gone, .gone, .gone, .gone, .gone, .gone, .gone, .gone, .gone, .gone, .gone, .gone, .gone, .gone, .gone, .gone, .gone, .gone, .gone, .gone, .gone, .gone, .gone, .gone, .gone, .gone, .gone, .gone, .gone, .gone, .gone, .gone, .gone, .gone, .gone, .gone, .gone, .gone, .gone, .gone]⟩
def st_x6_ref09_Check (b1_0 : Int) (b1_1 : List (List V)) (b1_2 : List (List V)) (b1_3 : Int) : St := ⟨[.junk, .junk, .junk, .junk, .junk, .junk, .junk, .junk, .junk, .junk, .junk, .junk, .junk, .junk, .junk, .junk, .junk, .junk, .junk, .junk, .junk, .junk, .junk, .junk, .junk, .junk, .junk, .junk, .junk, .junk, .junk, .junk, .junk, .junk, .junk, .junk, .junk, .junk, .junk, .junk, .junk, .junk, .junk, .junk, .junk, .junk, .junk, .junk, .junk, .junk, .junk, .junk, .junk, .junk, .junk, .junk, .junk, .junk, .junk, .junk, .junk, .junk, .junk, .junk, .junk, .junk, .junk, .junk, .junk, .junk, .junk, .junk, .junk, .junk, .junk, .junk, .junk, .junk, .junk, .junk, .junk], [.gone, (.live false [(V.sc (.int .u32 b1_0)), (V.sl 35 b1_1), (V.sl 2 b1_2), (V.sc (.int .u32 b1_3))]), .gone, .gone, .gone, .gone, .gone, .gone, .gone, .gone, .gone, .gone, .gone, .gone, .gone, .gone, .gone, .gone, .gone, .gone, .gone, .gone, .gone, .gone, .gone, .gone, .gone, .gone, .gone, .gone, .gone, .gone, .gone, .gone, .gone, .gone, .gone, .gone, .gone, .gone, .gone, .gone, .gone, .gone, .gone, .gone, .gone, .gone, .gone, .gone, .gone, .gone, .gone, .gone, .gone, .gone, .gone, .gone, .gone, .gone, .gone, .gone, .gone, .gone, .gone, .gone, .gone, .gone, .gone, .gone, .gone, .gone, .gone, .gone, .gone, .gone, .gone, .gone, .gone, .gone, .gone]⟩
def e_ref09_Check {β : Type} (F_ref09_Fits : T_ref09_Fits) (F_ref09_Null : T_ref09_Null) (F_ref09_Coinbase : T_ref09_Coinbase) (L : Nat) (p0 : List V) (k_fin : Int → Option β) (k_hbbbbaba : Int → List (List V) → Int → Int → Int → List (List V) → List (List V) → Int → Option β) : Option β :=
 chk (List.length p0 = 4) (
 cI .u32 p0 0 fun v0 =>
 cL 35 p0 1 fun v1 =>
 cL 2 p0 2 fun v2 =>
 cI .u32 p0 3 fun v3 =>
 F_ref09_Fits β L [(V.sc (.int .u32 v0)), (V.sl 35 v1), (V.sl 2 v2), (V.sc (.int .u32 v3))] (fun v4 =>
 ifb (!v4) (
 k_fin (4 : Int)) (
 ifb ((((List.length v1 : Nat) : Int) : Int) == (0 : Int)) (
 k_fin (93 : Int)) (
 ifb ((((List.length v2 : Nat) : Int) : Int) == (0 : Int)) (
 k_fin (93 : Int)) (
 k_hbbbbaba (0 : Int) v2 ((List.length v2 : Nat) : Int) (0 : Int) v0 v1 v2 v3)))))
theorem e_ref09_Check_ok {β : Type} (F_ref09_Fits : T_ref09_Fits) (F_ref09_Null : T_ref09_Null) (F_ref09_Coinbase : T_ref09_Coinbase) (L : Nat) (p0 : List V) (k : V → Bor → Option β) : funC sh_ref09_Check (cb_ref09_Check F_ref09_Fits F_ref09_Null F_ref09_Coinbase L) L cf_ref09_Check [(V.agg p0)] [] k = e_ref09_Check F_ref09_Fits F_ref09_Null F_ref09_Coinbase L p0 (fun p0 => k (V.sc (.int .i64 p0)) []) (fun p3 p24 p25 p26 b1_0 b1_1 b1_2 b1_3 => loopM (runC sh_ref09_Check (cb_ref09_Check F_ref09_Fits F_ref09_Null F_ref09_Coinbase L) 0 L cbbbbabaa_ref09_Check) mbbbbaba_ref09_Check L (st_hbbbbaba_ref09_Check p3 p24 p25 p26 b1_0 b1_1 b1_2 b1_3) (blockK 0 (seqK (runC sh_ref09_Check (cb_ref09_Check F_ref09_Fits F_ref09_Null F_ref09_Coinbase L) 0 L cbbbbb_ref09_Check) (finK 0 (CF.res cf_ref09_Check) k)))) := by kernel_rfl
def bbbbbaba_ref09_Check {β : Type} (F_ref09_Fits : T_ref09_Fits) (F_ref09_Null : T_ref09_Null) (F_ref09_Coinbase : T_ref09_Coinbase) (L : Nat) (p3 : Int) (p24 : List (List V)) (p25 : Int) (p26 : Int) (b1_0 : Int) (b1_1 : List (List V)) (b1_2 : List (List V)) (b1_3 : Int) (k_ret : Int → Int → List (List V) → List (List V) → Int → Option β) (k_hbbbbaba : Int → List (List V) → Int → Int → Int → List (List V) → List (List V) → Int → Option β) (k_x0 : Int → Int → List (List V) → List (List V) → Int → Option β) : Option β :=
 ifb (decide (p26 < p25)) (
 idx p24 p26 fun c5 =>
 chk (List.length (List.take 2 c5) = 2) (
 cI .i64 (List.take 2 c5) 0 fun v6 =>
 cL 1 (List.take 2 c5) 1 fun v7 =>
 ifb (decide (v6 > (2100000000000000 : Int))) (
 k_ret (90 : Int) b1_0 b1_1 b1_2 b1_3) (
 lt (IntKind.wrap .i64 ((p3 : Int) + v6)) fun x8 =>
 lt (IntKind.wrap .i64 ((p26 : Int) + (1 : Int))) fun x9 =>
 k_hbbbbaba x8 p24 p25 x9 b1_0 b1_1 b1_2 b1_3))) (
 k_x0 p3 b1_0 b1_1 b1_2 b1_3)
theorem bbbbbaba_ref09_Check_ok {β : Type} (F_ref09_Fits : T_ref09_Fits) (F_ref09_Null : T_ref09_Null) (F_ref09_Coinbase : T_ref09_Coinbase) (L : Nat) (p3 : Int) (p24 : List (List V)) (p25 : Int) (p26 : Int) (b1_0 : Int) (b1_1 : List (List V)) (b1_2 : List (List V)) (b1_3 : Int) (X : St → Option β) (K : KT β) : runC sh_ref09_Check (cb_ref09_Check F_ref09_Fits F_ref09_Null F_ref09_Coinbase L) 0 L cbbbbabaa_ref09_Check (st_hbbbbaba_ref09_Check p3 p24 p25 p26 b1_0 b1_1 b1_2 b1_3) (loopK mbbbbaba_ref09_Check X K) = bbbbbaba_ref09_Check F_ref09_Fits F_ref09_Null F_ref09_Coinbase L p3 p24 p25 p26 b1_0 b1_1 b1_2 b1_3 (fun p2 b1_0 b1_1 b1_2 b1_3 => K .ret (st_ret_ref09_Check p2 b1_0 b1_1 b1_2 b1_3)) (fun p3 p24 p25 p26 b1_0 b1_1 b1_2 b1_3 => X (st_hbbbbaba_ref09_Check p3 p24 p25 p26 b1_0 b1_1 b1_2 b1_3)) (fun p3 b1_0 b1_1 b1_2 b1_3 => K (.exit 0) (st_x0_ref09_Check p3 b1_0 b1_1 b1_2 b1_3)) := by kernel_rfl
def rbbbbabaret_ref09_Check {β : Type} (F_ref09_Fits : T_ref09_Fits) (F_ref09_Null : T_ref09_Null) (F_ref09_Coinbase : T_ref09_Coinbase) (L : Nat) (p2 : Int) (b1_0 : Int) (b1_1 : List (List V)) (b1_2 : List (List V)) (b1_3 : Int) (k_fin : Int → Option β) : Option β :=
 k_fin p2
theorem rbbbbabaret_ref09_Check_ok {β : Type} (F_ref09_Fits : T_ref09_Fits) (F_ref09_Null : T_ref09_Null) (F_ref09_Coinbase : T_ref09_Coinbase) (L : Nat) (p2 : Int) (b1_0 : Int) (b1_1 : List (List V)) (b1_2 : List (List V)) (b1_3 : Int) (k : V → Bor → Option β) : (blockK 0 (seqK (runC sh_ref09_Check (cb_ref09_Check F_ref09_Fits F_ref09_Null F_ref09_Coinbase L) 0 L cbbbbb_ref09_Check) (finK 0 (CF.res cf_ref09_Check) k))) .ret (st_ret_ref09_Check p2 b1_0 b1_1 b1_2 b1_3) = rbbbbabaret_ref09_Check F_ref09_Fits F_ref09_Null F_ref09_Coinbase L p2 b1_0 b1_1 b1_2 b1_3 (fun p0 => k (V.sc (.int .i64 p0)) []) := by kernel_rfl
def rbbbbabax0_ref09_Check {β : Type} (F_ref09_Fits : T_ref09_Fits) (F_ref09_Null : T_ref09_Null) (F_ref09_Coinbase : T_ref09_Coinbase) (L : Nat) (p3 : Int) (b1_0 : Int) (b1_1 : List (List V)) (b1_2 : List (List V)) (b1_3 : Int) (k_fin : Int → Option β) (k_hbbbbbbaba : Int → Int → Int → List (List V) → List (List V) → Int → Option β) : Option β :=
 ifb (decide (p3 > (2100000000000000 : Int))) (
 k_fin (90 : Int)) (
 k_hbbbbbbaba ((List.length b1_1 : Nat) : Int) (0 : Int) b1_0 b1_1 b1_2 b1_3)
theorem rbbbbabax0_ref09_Check_ok {β : Type} (F_ref09_Fits : T_ref09_Fits) (F_ref09_Null : T_ref09_Null) (F_ref09_Coinbase : T_ref09_Coinbase) (L : Nat) (p3 : Int) (b1_0 : Int) (b1_1 : List (List V)) (b1_2 : List (List V)) (b1_3 : Int) (k : V → Bor → Option β) : (blockK 0 (seqK (runC sh_ref09_Check (cb_ref09_Check F_ref09_Fits F_ref09_Null F_ref09_Coinbase L) 0 L cbbbbb_ref09_Check) (finK 0 (CF.res cf_ref09_Check) k))) (.exit 0) (st_x0_ref09_Check p3 b1_0 b1_1 b1_2 b1_3) = rbbbbabax0_ref09_Check F_ref09_Fits F_ref09_Null F_ref09_Coinbase L p3 b1_0 b1_1 b1_2 b1_3 (fun p0 => k (V.sc (.int .i64 p0)) []) (fun p42 p43 b1_0 b1_1 b1_2 b1_3 => loopM (runC sh_ref09_Check (cb_ref09_Check F_ref09_Fits F_ref09_Null F_ref09_Coinbase L) 0 L cbbbbbbabaa_ref09_Check) mbbbbbbaba_ref09_Check L (st_hbbbbbbaba_ref09_Check p42 p43 b1_0 b1_1 b1_2 b1_3) (blockK 2 (seqK (runC sh_ref09_Check (cb_ref09_Check F_ref09_Fits F_ref09_Null F_ref09_Coinbase L) 0 L cbbbbbbb_ref09_Check) (finK 0 (CF.res cf_ref09_Check) k)))) := by kernel_rfl
def bbbbbbbaba_ref09_Check {β : Type} (F_ref09_Fits : T_ref09_Fits) (F_ref09_Null : T_ref09_Null) (F_ref09_Coinbase : T_ref09_Coinbase) (L : Nat) (p42 : Int) (p43 : Int) (b1_0 : Int) (b1_1 : List (List V)) (b1_2 : List (List V)) (b1_3 : Int) (k_hbbbbbbabaabbaabba : Int → Int → Int → Int → Int → List (List V) → List (List V) → Int → Option β) (k_x2 : Int → List (List V) → List (List V) → Int → Option β) : Option β :=
 ifb (decide (p43 < p42)) (
 k_hbbbbbbabaabbaabba p43 (0 : Int) p42 p43 b1_0 b1_1 b1_2 b1_3) (
 k_x2 b1_0 b1_1 b1_2 b1_3)
theorem bbbbbbbaba_ref09_Check_ok {β : Type} (F_ref09_Fits : T_ref09_Fits) (F_ref09_Null : T_ref09_Null) (F_ref09_Coinbase : T_ref09_Coinbase) (L : Nat) (p42 : Int) (p43 : Int) (b1_0 : Int) (b1_1 : List (List V)) (b1_2 : List (List V)) (b1_3 : Int) (X : St → Option β) (K : KT β) : runC sh_ref09_Check (cb_ref09_Check F_ref09_Fits F_ref09_Null F_ref09_Coinbase L) 0 L cbbbbbbabaa_ref09_Check (st_hbbbbbbaba_ref09_Check p42 p43 b1_0 b1_1 b1_2 b1_3) (loopK mbbbbbbaba_ref09_Check X K) = bbbbbbbaba_ref09_Check F_ref09_Fits F_ref09_Null F_ref09_Coinbase L p42 p43 b1_0 b1_1 b1_2 b1_3 (fun p6 p7 p42 p43 b1_0 b1_1 b1_2 b1_3 => loopM (runC sh_ref09_Check (cb_ref09_Check F_ref09_Fits F_ref09_Null F_ref09_Coinbase L) 0 L cbbbbbbabaabbaabbaa_ref09_Check) mbbbbbbabaabbaabba_ref09_Check L (st_hbbbbbbabaabbaabba_ref09_Check p6 p7 p42 p43 b1_0 b1_1 b1_2 b1_3) (blockK 4 (blockK 3 (seqK (runC sh_ref09_Check (cb_ref09_Check F_ref09_Fits F_ref09_Null F_ref09_Coinbase L) 0 L cbbbbbbabaabbb_ref09_Check) (loopK mbbbbbbaba_ref09_Check X K))))) (fun b1_0 b1_1 b1_2 b1_3 => K (.exit 2) (st_x2_ref09_Check b1_0 b1_1 b1_2 b1_3)) := by kernel_rfl
def rbbbbbbabax2_ref09_Check {β : Type} (F_ref09_Fits : T_ref09_Fits) (F_ref09_Null : T_ref09_Null) (F_ref09_Coinbase : T_ref09_Coinbase) (L : Nat) (b1_0 : Int) (b1_1 : List (List V)) (b1_2 : List (List V)) (b1_3 : Int) (k_hbbbbbbbaba : List (List V) → Int → Int → Int → List (List V) → List (List V) → Int → Option β) : Option β :=
 k_hbbbbbbbaba b1_1 ((List.length b1_1 : Nat) : Int) (0 : Int) b1_0 b1_1 b1_2 b1_3
theorem rbbbbbbabax2_ref09_Check_ok {β : Type} (F_ref09_Fits : T_ref09_Fits) (F_ref09_Null : T_ref09_Null) (F_ref09_Coinbase : T_ref09_Coinbase) (L : Nat) (b1_0 : Int) (b1_1 : List (List V)) (b1_2 : List (List V)) (b1_3 : Int) (k : V → Bor → Option β) : (blockK 2 (seqK (runC sh_ref09_Check (cb_ref09_Check F_ref09_Fits F_ref09_Null F_ref09_Coinbase L) 0 L cbbbbbbb_ref09_Check) (finK 0 (CF.res cf_ref09_Check) k))) (.exit 2) (st_x2_ref09_Check b1_0 b1_1 b1_2 b1_3) = rbbbbbbabax2_ref09_Check F_ref09_Fits F_ref09_Null F_ref09_Coinbase L b1_0 b1_1 b1_2 b1_3 (fun p66 p67 p68 b1_0 b1_1 b1_2 b1_3 => loopM (runC sh_ref09_Check (cb_ref09_Check F_ref09_Fits F_ref09_Null F_ref09_Coinbase L) 0 L cbbbbbbbabaa_ref09_Check) mbbbbbbbaba_ref09_Check L (st_hbbbbbbbaba_ref09_Check p66 p67 p68 b1_0 b1_1 b1_2 b1_3) (blockK 6 (seqK (runC sh_ref09_Check (cb_ref09_Check F_ref09_Fits F_ref09_Null F_ref09_Coinbase L) 0 L cbbbbbbbb_ref09_Check) (finK 0 (CF.res cf_ref09_Check) k)))) := by kernel_rfl
def bbbbbbbabaabbaabba_ref09_Check {β : Type} (F_ref09_Fits : T_ref09_Fits) (F_ref09_Null : T_ref09_Null) (F_ref09_Coinbase : T_ref09_Coinbase) (L : Nat) (p6 : Int) (p7 : Int) (p42 : Int) (p43 : Int) (b1_0 : Int) (b1_1 : List (List V)) (b1_2 : List (List V)) (b1_3 : Int) (k_ret : Int → Int → List (List V) → List (List V) → Int → Option β) (k_hbbbbbbabaabbaabba : Int → Int → Int → Int → Int → List (List V) → List (List V) → Int → Option β) (k_x4 : Int → Int → Int → List (List V) → List (List V) → Int → Option β) : Option β :=
 ifb (decide (p7 < p6)) (
 idx b1_1 p6 fun c10 =>
 idx b1_1 p7 fun c11 =>
 eqC 33 (List.take 33 c10) (List.take 33 c11) fun v12 =>
 ifb v12 (
 k_ret (91 : Int) b1_0 b1_1 b1_2 b1_3) (
 lt (IntKind.wrap .i64 ((p7 : Int) + (1 : Int))) fun x13 =>
 k_hbbbbbbabaabbaabba p6 x13 p42 p43 b1_0 b1_1 b1_2 b1_3)) (
 k_x4 p42 p43 b1_0 b1_1 b1_2 b1_3)
theorem bbbbbbbabaabbaabba_ref09_Check_ok {β : Type} (F_ref09_Fits : T_ref09_Fits) (F_ref09_Null : T_ref09_Null) (F_ref09_Coinbase : T_ref09_Coinbase) (L : Nat) (p6 : Int) (p7 : Int) (p42 : Int) (p43 : Int) (b1_0 : Int) (b1_1 : List (List V)) (b1_2 : List (List V)) (b1_3 : Int) (X : St → Option β) (K : KT β) : runC sh_ref09_Check (cb_ref09_Check F_ref09_Fits F_ref09_Null F_ref09_Coinbase L) 0 L cbbbbbbabaabbaabbaa_ref09_Check (st_hbbbbbbabaabbaabba_ref09_Check p6 p7 p42 p43 b1_0 b1_1 b1_2 b1_3) (loopK mbbbbbbabaabbaabba_ref09_Check X K) = bbbbbbbabaabbaabba_ref09_Check F_ref09_Fits F_ref09_Null F_ref09_Coinbase L p6 p7 p42 p43 b1_0 b1_1 b1_2 b1_3 (fun p2 b1_0 b1_1 b1_2 b1_3 => K .ret (st_ret_ref09_Check p2 b1_0 b1_1 b1_2 b1_3)) (fun p6 p7 p42 p43 b1_0 b1_1 b1_2 b1_3 => X (st_hbbbbbbabaabbaabba_ref09_Check p6 p7 p42 p43 b1_0 b1_1 b1_2 b1_3)) (fun p42 p43 b1_0 b1_1 b1_2 b1_3 => K (.exit 4) (st_x4_ref09_Check p42 p43 b1_0 b1_1 b1_2 b1_3)) := by kernel_rfl
def bbbbbbbbaba_ref09_Check {β : Type} (F_ref09_Fits : T_ref09_Fits) (F_ref09_Null : T_ref09_Null) (F_ref09_Coinbase : T_ref09_Coinbase) (L : Nat) (p66 : List (List V)) (p67 : Int) (p68 : Int) (b1_0 : Int) (b1_1 : List (List V)) (b1_2 : List (List V)) (b1_3 : Int) (k_ret : Int → Int → List (List V) → List (List V) → Int → Option β) (k_hbbbbbbbaba : List (List V) → Int → Int → Int → List (List V) → List (List V) → Int → Option β) (k_x6 : Int → List (List V) → List (List V) → Int → Option β) : Option β :=
 ifb (decide (p68 < p67)) (
 idx p66 p68 fun c14 =>
 chk (List.length (List.take 35 c14) = 35) (
 cI .u8 (List.take 35 c14) 0 fun v15 =>
 cI .u8 (List.take 35 c14) 1 fun v16 =>
 cI .u8 (List.take 35 c14) 2 fun v17 =>
 cI .u8 (List.take 35 c14) 3 fun v18 =>
 cI .u8 (List.take 35 c14) 4 fun v19 =>
 cI .u8 (List.take 35 c14) 5 fun v20 =>
 cI .u8 (List.take 35 c14) 6 fun v21 =>
 cI .u8 (List.take 35 c14) 7 fun v22 =>
 cI .u8 (List.take 35 c14) 8 fun v23 =>
 cI .u8 (List.take 35 c14) 9 fun v24 =>
 cI .u8 (List.take 35 c14) 10 fun v25 =>
 cI .u8 (List.take 35 c14) 11 fun v26 =>
 cI .u8 (List.take 35 c14) 12 fun v27 =>
 cI .u8 (List.take 35 c14) 13 fun v28 =>
 cI .u8 (List.take 35 c14) 14 fun v29 =>
 cI .u8 (List.take 35 c14) 15 fun v30 =>
 cI .u8 (List.take 35 c14) 16 fun v31 =>
 cI .u8 (List.take 35 c14) 17 fun v32 =>
 cI .u8 (List.take 35 c14) 18 fun v33 =>
 cI .u8 (List.take 35 c14) 19 fun v34 =>
 cI .u8 (List.take 35 c14) 20 fun v35 =>
 cI .u8 (List.take 35 c14) 21 fun v36 =>
 cI .u8 (List.take 35 c14) 22 fun v37 =>
 cI .u8 (List.take 35 c14) 23 fun v38 =>
 cI .u8 (List.take 35 c14) 24 fun v39 =>
 cI .u8 (List.take 35 c14) 25 fun v40 =>
 cI .u8 (List.take 35 c14) 26 fun v41 =>
 cI .u8 (List.take 35 c14) 27 fun v42 =>
 cI .u8 (List.take 35 c14) 28 fun v43 =>
 cI .u8 (List.take 35 c14) 29 fun v44 =>
 cI .u8 (List.take 35 c14) 30 fun v45 =>
 cI .u8 (List.take 35 c14) 31 fun v46 =>
 cI .u32 (List.take 35 c14) 32 fun v47 =>
 cI .u32 (List.take 35 c14) 33 fun v48 =>
 cL 1 (List.take 35 c14) 34 fun v49 =>
 F_ref09_Null β L [(V.sc (.int .u8 v15)), (V.sc (.int .u8 v16)), (V.sc (.int .u8 v17)), (V.sc (.int .u8 v18)), (V.sc (.int .u8 v19)), (V.sc (.int .u8 v20)), (V.sc (.int .u8 v21)), (V.sc (.int .u8 v22)), (V.sc (.int .u8 v23)), (V.sc (.int .u8 v24)), (V.sc (.int .u8 v25)), (V.sc (.int .u8 v26)), (V.sc (.int .u8 v27)), (V.sc (.int .u8 v28)), (V.sc (.int .u8 v29)), (V.sc (.int .u8 v30)), (V.sc (.int .u8 v31)), (V.sc (.int .u8 v32)), (V.sc (.int .u8 v33)), (V.sc (.int .u8 v34)), (V.sc (.int .u8 v35)), (V.sc (.int .u8 v36)), (V.sc (.int .u8 v37)), (V.sc (.int .u8 v38)), (V.sc (.int .u8 v39)), (V.sc (.int .u8 v40)), (V.sc (.int .u8 v41)), (V.sc (.int .u8 v42)), (V.sc (.int .u8 v43)), (V.sc (.int .u8 v44)), (V.sc (.int .u8 v45)), (V.sc (.int .u8 v46)), (V.sc (.int .u32 v47))] (fun v50 =>
 ifb v50 (
 F_ref09_Coinbase β L [(V.sc (.int .u32 b1_0)), (V.sl 35 b1_1), (V.sl 2 b1_2), (V.sc (.int .u32 b1_3))] (fun v51 =>
 ifb (!v51) (
 k_ret (92 : Int) b1_0 b1_1 b1_2 b1_3) (
 lt (IntKind.wrap .i64 ((p68 : Int) + (1 : Int))) fun x52 =>
 k_hbbbbbbbaba p66 p67 x52 b1_0 b1_1 b1_2 b1_3))) (
 lt (IntKind.wrap .i64 ((p68 : Int) + (1 : Int))) fun x53 =>
 k_hbbbbbbbaba p66 p67 x53 b1_0 b1_1 b1_2 b1_3)))) (
 k_x6 b1_0 b1_1 b1_2 b1_3)
theorem bbbbbbbbaba_ref09_Check_ok {β : Type} (F_ref09_Fits : T_ref09_Fits) (F_ref09_Null : T_ref09_Null) (F_ref09_Coinbase : T_ref09_Coinbase) (L : Nat) (p66 : List (List V)) (p67 : Int) (p68 : Int) (b1_0 : Int) (b1_1 : List (List V)) (b1_2 : List (List V)) (b1_3 : Int) (X : St → Option β) (K : KT β) : runC sh_ref09_Check (cb_ref09_Check F_ref09_Fits F_ref09_Null F_ref09_Coinbase L) 0 L cbbbbbbbabaa_ref09_Check (st_hbbbbbbbaba_ref09_Check p66 p67 p68 b1_0 b1_1 b1_2 b1_3) (loopK mbbbbbbbaba_ref09_Check X K) = bbbbbbbbaba_ref09_Check F_ref09_Fits F_ref09_Null F_ref09_Coinbase L p66 p67 p68 b1_0 b1_1 b1_2 b1_3 (fun p2 b1_0 b1_1 b1_2 b1_3 => K .ret (st_ret_ref09_Check p2 b1_0 b1_1 b1_2 b1_3)) (fun p66 p67 p68 b1_0 b1_1 b1_2 b1_3 => X (st_hbbbbbbbaba_ref09_Check p66 p67 p68 b1_0 b1_1 b1_2 b1_3)) (fun b1_0 b1_1 b1_2 b1_3 => K (.exit 6) (st_x6_ref09_Check b1_0 b1_1 b1_2 b1_3)) := by kernel_rfl
def rbbbbbbabaabbaabbaret_ref09_Check {β : Type} (F_ref09_Fits : T_ref09_Fits) (F_ref09_Null : T_ref09_Null) (F_ref09_Coinbase : T_ref09_Coinbase) (L : Nat) (p2 : Int) (b1_0 : Int) (b1_1 : List (List V)) (b1_2 : List (List V)) (b1_3 : Int) (k_ret : Int → Int → List (List V) → List (List V) → Int → Option β) : Option β :=
 k_ret p2 b1_0 b1_1 b1_2 b1_3
theorem rbbbbbbabaabbaabbaret_ref09_Check_ok {β : Type} (F_ref09_Fits : T_ref09_Fits) (F_ref09_Null : T_ref09_Null) (F_ref09_Coinbase : T_ref09_Coinbase) (L : Nat) (p2 : Int) (b1_0 : Int) (b1_1 : List (List V)) (b1_2 : List (List V)) (b1_3 : Int) (X : St → Option β) (K : KT β) : (blockK 4 (blockK 3 (seqK (runC sh_ref09_Check (cb_ref09_Check F_ref09_Fits F_ref09_Null F_ref09_Coinbase L) 0 L cbbbbbbabaabbb_ref09_Check) (loopK mbbbbbbaba_ref09_Check X K)))) .ret (st_ret_ref09_Check p2 b1_0 b1_1 b1_2 b1_3) = rbbbbbbabaabbaabbaret_ref09_Check F_ref09_Fits F_ref09_Null F_ref09_Coinbase L p2 b1_0 b1_1 b1_2 b1_3 (fun p2 b1_0 b1_1 b1_2 b1_3 => K .ret (st_ret_ref09_Check p2 b1_0 b1_1 b1_2 b1_3)) := by kernel_rfl
def rbbbbbbabaabbaabbax4_ref09_Check {β : Type} (F_ref09_Fits : T_ref09_Fits) (F_ref09_Null : T_ref09_Null) (F_ref09_Coinbase : T_ref09_Coinbase) (L : Nat) (p42 : Int) (p43 : Int) (b1_0 : Int) (b1_1 : List (List V)) (b1_2 : List (List V)) (b1_3 : Int) (k_hbbbbbbaba : Int → Int → Int → List (List V) → List (List V) → Int → Option β) : Option β :=
 lt (IntKind.wrap .i64 ((p43 : Int) + (1 : Int))) fun x54 =>
 k_hbbbbbbaba p42 x54 b1_0 b1_1 b1_2 b1_3
theorem rbbbbbbabaabbaabbax4_ref09_Check_ok {β : Type} (F_ref09_Fits : T_ref09_Fits) (F_ref09_Null : T_ref09_Null) (F_ref09_Coinbase : T_ref09_Coinbase) (L : Nat) (p42 : Int) (p43 : Int) (b1_0 : Int) (b1_1 : List (List V)) (b1_2 : List (List V)) (b1_3 : Int) (X : St → Option β) (K : KT β) : (blockK 4 (blockK 3 (seqK (runC sh_ref09_Check (cb_ref09_Check F_ref09_Fits F_ref09_Null F_ref09_Coinbase L) 0 L cbbbbbbabaabbb_ref09_Check) (loopK mbbbbbbaba_ref09_Check X K)))) (.exit 4) (st_x4_ref09_Check p42 p43 b1_0 b1_1 b1_2 b1_3) = rbbbbbbabaabbaabbax4_ref09_Check F_ref09_Fits F_ref09_Null F_ref09_Coinbase L p42 p43 b1_0 b1_1 b1_2 b1_3 (fun p42 p43 b1_0 b1_1 b1_2 b1_3 => X (st_hbbbbbbaba_ref09_Check p42 p43 b1_0 b1_1 b1_2 b1_3)) := by kernel_rfl
def rbbbbbbbabaret_ref09_Check {β : Type} (F_ref09_Fits : T_ref09_Fits) (F_ref09_Null : T_ref09_Null) (F_ref09_Coinbase : T_ref09_Coinbase) (L : Nat) (p2 : Int) (b1_0 : Int) (b1_1 : List (List V)) (b1_2 : List (List V)) (b1_3 : Int) (k_fin : Int → Option β) : Option β :=
 k_fin p2
theorem rbbbbbbbabaret_ref09_Check_ok {β : Type} (F_ref09_Fits : T_ref09_Fits) (F_ref09_Null : T_ref09_Null) (F_ref09_Coinbase : T_ref09_Coinbase) (L : Nat) (p2 : Int) (b1_0 : Int) (b1_1 : List (List V)) (b1_2 : List (List V)) (b1_3 : Int) (k : V → Bor → Option β) : (blockK 6 (seqK (runC sh_ref09_Check (cb_ref09_Check F_ref09_Fits F_ref09_Null F_ref09_Coinbase L) 0 L cbbbbbbbb_ref09_Check) (finK 0 (CF.res cf_ref09_Check) k))) .ret (st_ret_ref09_Check p2 b1_0 b1_1 b1_2 b1_3) = rbbbbbbbabaret_ref09_Check F_ref09_Fits F_ref09_Null F_ref09_Coinbase L p2 b1_0 b1_1 b1_2 b1_3 (fun p0 => k (V.sc (.int .i64 p0)) []) := by kernel_rfl
def rbbbbbbbabax6_ref09_Check {β : Type} (F_ref09_Fits : T_ref09_Fits) (F_ref09_Null : T_ref09_Null) (F_ref09_Coinbase : T_ref09_Coinbase) (L : Nat) (b1_0 : Int) (b1_1 : List (List V)) (b1_2 : List (List V)) (b1_3 : Int) (k_fin : Int → Option β) : Option β :=
 k_fin (0 : Int)
theorem rbbbbbbbabax6_ref09_Check_ok {β : Type} (F_ref09_Fits : T_ref09_Fits) (F_ref09_Null : T_ref09_Null) (F_ref09_Coinbase : T_ref09_Coinbase) (L : Nat) (b1_0 : Int) (b1_1 : List (List V)) (b1_2 : List (List V)) (b1_3 : Int) (k : V → Bor → Option β) : (blockK 6 (seqK (runC sh_ref09_Check (cb_ref09_Check F_ref09_Fits F_ref09_Null F_ref09_Coinbase L) 0 L cbbbbbbbb_ref09_Check) (finK 0 (CF.res cf_ref09_Check) k))) (.exit 6) (st_x6_ref09_Check b1_0 b1_1 b1_2 b1_3) = rbbbbbbbabax6_ref09_Check F_ref09_Fits F_ref09_Null F_ref09_Coinbase L b1_0 b1_1 b1_2 b1_3 (fun p0 => k (V.sc (.int .i64 p0)) []) := by kernel_rfl
def rbbbbbbabaret_ref09_Check {β : Type} (F_ref09_Fits : T_ref09_Fits) (F_ref09_Null : T_ref09_Null) (F_ref09_Coinbase : T_ref09_Coinbase) (L : Nat) (p2 : Int) (b1_0 : Int) (b1_1 : List (List V)) (b1_2 : List (List V)) (b1_3 : Int) (k_fin : Int → Option β) : Option β :=
 k_fin p2
theorem rbbbbbbabaret_ref09_Check_ok {β : Type} (F_ref09_Fits : T_ref09_Fits) (F_ref09_Null : T_ref09_Null) (F_ref09_Coinbase : T_ref09_Coinbase) (L : Nat) (p2 : Int) (b1_0 : Int) (b1_1 : List (List V)) (b1_2 : List (List V)) (b1_3 : Int) (k : V → Bor → Option β) : (blockK 2 (seqK (runC sh_ref09_Check (cb_ref09_Check F_ref09_Fits F_ref09_Null F_ref09_Coinbase L) 0 L cbbbbbbb_ref09_Check) (finK 0 (CF.res cf_ref09_Check) k))) .ret (st_ret_ref09_Check p2 b1_0 b1_1 b1_2 b1_3) = rbbbbbbabaret_ref09_Check F_ref09_Fits F_ref09_Null F_ref09_Coinbase L p2 b1_0 b1_1 b1_2 b1_3 (fun p0 => k (V.sc (.int .i64 p0)) []) := by kernel_rfl
def lbbbbaba_ref09_Check {β : Type} (F_ref09_Fits : T_ref09_Fits) (F_ref09_Null : T_ref09_Null) (F_ref09_Coinbase : T_ref09_Coinbase) (L : Nat) (k_ret : Int → Int → List (List V) → List (List V) → Int → Option β) (k_x0 : Int → Int → List (List V) → List (List V) → Int → Option β) : Nat → Int → List (List V) → Int → Int → Int → List (List V) → List (List V) → Int → Option β
  | 0, _, _, _, _, _, _, _, _ => none
  | n + 1, p3, p24, p25, p26, b1_0, b1_1, b1_2, b1_3 => bbbbbaba_ref09_Check F_ref09_Fits F_ref09_Null F_ref09_Coinbase L p3 p24 p25 p26 b1_0 b1_1 b1_2 b1_3 k_ret (fun p3 p24 p25 p26 b1_0 b1_1 b1_2 b1_3 => lbbbbaba_ref09_Check F_ref09_Fits F_ref09_Null F_ref09_Coinbase L k_ret k_x0 n p3 p24 p25 p26 b1_0 b1_1 b1_2 b1_3) k_x0
theorem lbbbbaba_ref09_Check_ok {β : Type} (F_ref09_Fits : T_ref09_Fits) (F_ref09_Null : T_ref09_Null) (F_ref09_Coinbase : T_ref09_Coinbase) (L : Nat) (K : KT β) : ∀ (n : Nat) (p3 : Int) (p24 : List (List V)) (p25 : Int) (p26 : Int) (b1_0 : Int) (b1_1 : List (List V)) (b1_2 : List (List V)) (b1_3 : Int), loopM (runC sh_ref09_Check (cb_ref09_Check F_ref09_Fits F_ref09_Null F_ref09_Coinbase L) 0 L cbbbbabaa_ref09_Check) mbbbbaba_ref09_Check n (st_hbbbbaba_ref09_Check p3 p24 p25 p26 b1_0 b1_1 b1_2 b1_3) K = lbbbbaba_ref09_Check F_ref09_Fits F_ref09_Null F_ref09_Coinbase L (fun p2 b1_0 b1_1 b1_2 b1_3 => K .ret (st_ret_ref09_Check p2 b1_0 b1_1 b1_2 b1_3)) (fun p3 b1_0 b1_1 b1_2 b1_3 => K (.exit 0) (st_x0_ref09_Check p3 b1_0 b1_1 b1_2 b1_3)) n p3 p24 p25 p26 b1_0 b1_1 b1_2 b1_3 := by
  intro n
  induction n with
  | zero => intros; rfl
  | succ n ih =>
    intro p3 p24 p25 p26 b1_0 b1_1 b1_2 b1_3
    refine (bbbbbaba_ref09_Check_ok F_ref09_Fits F_ref09_Null F_ref09_Coinbase L p3 p24 p25 p26 b1_0 b1_1 b1_2 b1_3 (fun σ => loopM (runC sh_ref09_Check (cb_ref09_Check F_ref09_Fits F_ref09_Null F_ref09_Coinbase L) 0 L cbbbbabaa_ref09_Check) mbbbbaba_ref09_Check n σ K) K).trans ?_
    simp only [ih]
    rfl
def lbbbbbbabaabbaabba_ref09_Check {β : Type} (F_ref09_Fits : T_ref09_Fits) (F_ref09_Null : T_ref09_Null) (F_ref09_Coinbase : T_ref09_Coinbase) (L : Nat) (k_ret : Int → Int → List (List V) → List (List V) → Int → Option β) (k_x4 : Int → Int → Int → List (List V) → List (List V) → Int → Option β) : Nat → Int → Int → Int → Int → Int → List (List V) → List (List V) → Int → Option β
  | 0, _, _, _, _, _, _, _, _ => none
  | n + 1, p6, p7, p42, p43, b1_0, b1_1, b1_2, b1_3 => bbbbbbbabaabbaabba_ref09_Check F_ref09_Fits F_ref09_Null F_ref09_Coinbase L p6 p7 p42 p43 b1_0 b1_1 b1_2 b1_3 k_ret (fun p6 p7 p42 p43 b1_0 b1_1 b1_2 b1_3 => lbbbbbbabaabbaabba_ref09_Check F_ref09_Fits F_ref09_Null F_ref09_Coinbase L k_ret k_x4 n p6 p7 p42 p43 b1_0 b1_1 b1_2 b1_3) k_x4
theorem lbbbbbbabaabbaabba_ref09_Check_ok {β : Type} (F_ref09_Fits : T_ref09_Fits) (F_ref09_Null : T_ref09_Null) (F_ref09_Coinbase : T_ref09_Coinbase) (L : Nat) (K : KT β) : ∀ (n : Nat) (p6 : Int) (p7 : Int) (p42 : Int) (p43 : Int) (b1_0 : Int) (b1_1 : List (List V)) (b1_2 : List (List V)) (b1_3 : Int), loopM (runC sh_ref09_Check (cb_ref09_Check F_ref09_Fits F_ref09_Null F_ref09_Coinbase L) 0 L cbbbbbbabaabbaabbaa_ref09_Check) mbbbbbbabaabbaabba_ref09_Check n (st_hbbbbbbabaabbaabba_ref09_Check p6 p7 p42 p43 b1_0 b1_1 b1_2 b1_3) K = lbbbbbbabaabbaabba_ref09_Check F_ref09_Fits F_ref09_Null F_ref09_Coinbase L (fun p2 b1_0 b1_1 b1_2 b1_3 => K .ret (st_ret_ref09_Check p2 b1_0 b1_1 b1_2 b1_3)) (fun p42 p43 b1_0 b1_1 b1_2 b1_3 => K (.exit 4) (st_x4_ref09_Check p42 p43 b1_0 b1_1 b1_2 b1_3)) n p6 p7 p42 p43 b1_0 b1_1 b1_2 b1_3 := by
  intro n
  induction n with
  | zero => intros; rfl
  | succ n ih =>
    intro p6 p7 p42 p43 b1_0 b1_1 b1_2 b1_3
    refine (bbbbbbbabaabbaabba_ref09_Check_ok F_ref09_Fits F_ref09_Null F_ref09_Coinbase L p6 p7 p42 p43 b1_0 b1_1 b1_2 b1_3 (fun σ => loopM (runC sh_ref09_Check (cb_ref09_Check F_ref09_Fits F_ref09_Null F_ref09_Coinbase L) 0 L cbbbbbbabaabbaabbaa_ref09_Check) mbbbbbbabaabbaabba_ref09_Check n σ K) K).trans ?_
    simp only [ih]
    rfl
def Cbbbbbbbaba_ref09_Check {β : Type} (F_ref09_Fits : T_ref09_Fits) (F_ref09_Null : T_ref09_Null) (F_ref09_Coinbase : T_ref09_Coinbase) (L : Nat) (p42 : Int) (p43 : Int) (b1_0 : Int) (b1_1 : List (List V)) (b1_2 : List (List V)) (b1_3 : Int) (k_x2 : Int → List (List V) → List (List V) → Int → Option β) (k_ret : Int → Int → List (List V) → List (List V) → Int → Option β) (k_hbbbbbbaba : Int → Int → Int → List (List V) → List (List V) → Int → Option β) : Option β :=
 bbbbbbbaba_ref09_Check F_ref09_Fits F_ref09_Null F_ref09_Coinbase L p42 p43 b1_0 b1_1 b1_2 b1_3 (fun p6 p7 p42 p43 b1_0 b1_1 b1_2 b1_3 => lbbbbbbabaabbaabba_ref09_Check F_ref09_Fits F_ref09_Null F_ref09_Coinbase L (fun p2 b1_0 b1_1 b1_2 b1_3 => rbbbbbbabaabbaabbaret_ref09_Check F_ref09_Fits F_ref09_Null F_ref09_Coinbase L p2 b1_0 b1_1 b1_2 b1_3 k_ret) (fun p42 p43 b1_0 b1_1 b1_2 b1_3 => rbbbbbbabaabbaabbax4_ref09_Check F_ref09_Fits F_ref09_Null F_ref09_Coinbase L p42 p43 b1_0 b1_1 b1_2 b1_3 k_hbbbbbbaba) L p6 p7 p42 p43 b1_0 b1_1 b1_2 b1_3) k_x2
theorem Cbbbbbbbaba_ref09_Check_ok {β : Type} (F_ref09_Fits : T_ref09_Fits) (F_ref09_Null : T_ref09_Null) (F_ref09_Coinbase : T_ref09_Coinbase) (L : Nat) (p42 : Int) (p43 : Int) (b1_0 : Int) (b1_1 : List (List V)) (b1_2 : List (List V)) (b1_3 : Int) (X : St → Option β) (K : KT β) : runC sh_ref09_Check (cb_ref09_Check F_ref09_Fits F_ref09_Null F_ref09_Coinbase L) 0 L cbbbbbbabaa_ref09_Check (st_hbbbbbbaba_ref09_Check p42 p43 b1_0 b1_1 b1_2 b1_3) (loopK mbbbbbbaba_ref09_Check X K) = Cbbbbbbbaba_ref09_Check F_ref09_Fits F_ref09_Null F_ref09_Coinbase L p42 p43 b1_0 b1_1 b1_2 b1_3 (fun b1_0 b1_1 b1_2 b1_3 => K (.exit 2) (st_x2_ref09_Check b1_0 b1_1 b1_2 b1_3)) (fun p2 b1_0 b1_1 b1_2 b1_3 => K .ret (st_ret_ref09_Check p2 b1_0 b1_1 b1_2 b1_3)) (fun p42 p43 b1_0 b1_1 b1_2 b1_3 => X (st_hbbbbbbaba_ref09_Check p42 p43 b1_0 b1_1 b1_2 b1_3)) := by
  refine (bbbbbbbaba_ref09_Check_ok F_ref09_Fits F_ref09_Null F_ref09_Coinbase L p42 p43 b1_0 b1_1 b1_2 b1_3 X K).trans ?_
  unfold Cbbbbbbbaba_ref09_Check
  simp only [lbbbbbbabaabbaabba_ref09_Check_ok, rbbbbbbabaabbaabbaret_ref09_Check_ok, rbbbbbbabaabbaabbax4_ref09_Check_ok]
def lbbbbbbaba_ref09_Check {β : Type} (F_ref09_Fits : T_ref09_Fits) (F_ref09_Null : T_ref09_Null) (F_ref09_Coinbase : T_ref09_Coinbase) (L : Nat) (k_x2 : Int → List (List V) → List (List V) → Int → Option β) (k_ret : Int → Int → List (List V) → List (List V) → Int → Option β) : Nat → Int → Int → Int → List (List V) → List (List V) → Int → Option β
  | 0, _, _, _, _, _, _ => none
  | n + 1, p42, p43, b1_0, b1_1, b1_2, b1_3 => Cbbbbbbbaba_ref09_Check F_ref09_Fits F_ref09_Null F_ref09_Coinbase L p42 p43 b1_0 b1_1 b1_2 b1_3 k_x2 k_ret (fun p42 p43 b1_0 b1_1 b1_2 b1_3 => lbbbbbbaba_ref09_Check F_ref09_Fits F_ref09_Null F_ref09_Coinbase L k_x2 k_ret n p42 p43 b1_0 b1_1 b1_2 b1_3)
theorem lbbbbbbaba_ref09_Check_ok {β : Type} (F_ref09_Fits : T_ref09_Fits) (F_ref09_Null : T_ref09_Null) (F_ref09_Coinbase : T_ref09_Coinbase) (L : Nat) (K : KT β) : ∀ (n : Nat) (p42 : Int) (p43 : Int) (b1_0 : Int) (b1_1 : List (List V)) (b1_2 : List (List V)) (b1_3 : Int), loopM (runC sh_ref09_Check (cb_ref09_Check F_ref09_Fits F_ref09_Null F_ref09_Coinbase L) 0 L cbbbbbbabaa_ref09_Check) mbbbbbbaba_ref09_Check n (st_hbbbbbbaba_ref09_Check p42 p43 b1_0 b1_1 b1_2 b1_3) K = lbbbbbbaba_ref09_Check F_ref09_Fits F_ref09_Null F_ref09_Coinbase L (fun b1_0 b1_1 b1_2 b1_3 => K (.exit 2) (st_x2_ref09_Check b1_0 b1_1 b1_2 b1_3)) (fun p2 b1_0 b1_1 b1_2 b1_3 => K .ret (st_ret_ref09_Check p2 b1_0 b1_1 b1_2 b1_3)) n p42 p43 b1_0 b1_1 b1_2 b1_3 := by
  intro n
  induction n with
  | zero => intros; rfl
  | succ n ih =>
    intro p42 p43 b1_0 b1_1 b1_2 b1_3
    refine (Cbbbbbbbaba_ref09_Check_ok F_ref09_Fits F_ref09_Null F_ref09_Coinbase L p42 p43 b1_0 b1_1 b1_2 b1_3 (fun σ => loopM (runC sh_ref09_Check (cb_ref09_Check F_ref09_Fits F_ref09_Null F_ref09_Coinbase L) 0 L cbbbbbbabaa_ref09_Check) mbbbbbbaba_ref09_Check n σ K) K).trans ?_
    simp only [ih]
    rfl
def lbbbbbbbaba_ref09_Check {β : Type} (F_ref09_Fits : T_ref09_Fits) (F_ref09_Null : T_ref09_Null) (F_ref09_Coinbase : T_ref09_Coinbase) (L : Nat) (k_ret : Int → Int → List (List V) → List (List V) → Int → Option β) (k_x6 : Int → List (List V) → List (List V) → Int → Option β) : Nat → List (List V) → Int → Int → Int → List (List V) → List (List V) → Int → Option β
  | 0, _, _, _, _, _, _, _ => none
  | n + 1, p66, p67, p68, b1_0, b1_1, b1_2, b1_3 => bbbbbbbbaba_ref09_Check F_ref09_Fits F_ref09_Null F_ref09_Coinbase L p66 p67 p68 b1_0 b1_1 b1_2 b1_3 k_ret (fun p66 p67 p68 b1_0 b1_1 b1_2 b1_3 => lbbbbbbbaba_ref09_Check F_ref09_Fits F_ref09_Null F_ref09_Coinbase L k_ret k_x6 n p66 p67 p68 b1_0 b1_1 b1_2 b1_3) k_x6
theorem lbbbbbbbaba_ref09_Check_ok {β : Type} (F_ref09_Fits : T_ref09_Fits) (F_ref09_Null : T_ref09_Null) (F_ref09_Coinbase : T_ref09_Coinbase) (L : Nat) (K : KT β) : ∀ (n : Nat) (p66 : List (List V)) (p67 : Int) (p68 : Int) (b1_0 : Int) (b1_1 : List (List V)) (b1_2 : List (List V)) (b1_3 : Int), loopM (runC sh_ref09_Check (cb_ref09_Check F_ref09_Fits F_ref09_Null F_ref09_Coinbase L) 0 L cbbbbbbbabaa_ref09_Check) mbbbbbbbaba_ref09_Check n (st_hbbbbbbbaba_ref09_Check p66 p67 p68 b1_0 b1_1 b1_2 b1_3) K = lbbbbbbbaba_ref09_Check F_ref09_Fits F_ref09_Null F_ref09_Coinbase L (fun p2 b1_0 b1_1 b1_2 b1_3 => K .ret (st_ret_ref09_Check p2 b1_0 b1_1 b1_2 b1_3)) (fun b1_0 b1_1 b1_2 b1_3 => K (.exit 6) (st_x6_ref09_Check b1_0 b1_1 b1_2 b1_3)) n p66 p67 p68 b1_0 b1_1 b1_2 b1_3 := by
  intro n
  induction n with
  | zero => intros; rfl
  | succ n ih =>
    intro p66 p67 p68 b1_0 b1_1 b1_2 b1_3
    refine (bbbbbbbbaba_ref09_Check_ok F_ref09_Fits F_ref09_Null F_ref09_Coinbase L p66 p67 p68 b1_0 b1_1 b1_2 b1_3 (fun σ => loopM (runC sh_ref09_Check (cb_ref09_Check F_ref09_Fits F_ref09_Null F_ref09_Coinbase L) 0 L cbbbbbbbabaa_ref09_Check) mbbbbbbbaba_ref09_Check n σ K) K).trans ?_
    simp only [ih]
    rfl
def Crbbbbbbabax2_ref09_Check {β : Type} (F_ref09_Fits : T_ref09_Fits) (F_ref09_Null : T_ref09_Null) (F_ref09_Coinbase : T_ref09_Coinbase) (L : Nat) (b1_0 : Int) (b1_1 : List (List V)) (b1_2 : List (List V)) (b1_3 : Int) (k_fin : Int → Option β) : Option β :=
 rbbbbbbabax2_ref09_Check F_ref09_Fits F_ref09_Null F_ref09_Coinbase L b1_0 b1_1 b1_2 b1_3 (fun p66 p67 p68 b1_0 b1_1 b1_2 b1_3 => lbbbbbbbaba_ref09_Check F_ref09_Fits F_ref09_Null F_ref09_Coinbase L (fun p2 b1_0 b1_1 b1_2 b1_3 => rbbbbbbbabaret_ref09_Check F_ref09_Fits F_ref09_Null F_ref09_Coinbase L p2 b1_0 b1_1 b1_2 b1_3 k_fin) (fun b1_0 b1_1 b1_2 b1_3 => rbbbbbbbabax6_ref09_Check F_ref09_Fits F_ref09_Null F_ref09_Coinbase L b1_0 b1_1 b1_2 b1_3 k_fin) L p66 p67 p68 b1_0 b1_1 b1_2 b1_3)
theorem Crbbbbbbabax2_ref09_Check_ok {β : Type} (F_ref09_Fits : T_ref09_Fits) (F_ref09_Null : T_ref09_Null) (F_ref09_Coinbase : T_ref09_Coinbase) (L : Nat) (b1_0 : Int) (b1_1 : List (List V)) (b1_2 : List (List V)) (b1_3 : Int) (k : V → Bor → Option β) : (blockK 2 (seqK (runC sh_ref09_Check (cb_ref09_Check F_ref09_Fits F_ref09_Null F_ref09_Coinbase L) 0 L cbbbbbbb_ref09_Check) (finK 0 (CF.res cf_ref09_Check) k))) (.exit 2) (st_x2_ref09_Check b1_0 b1_1 b1_2 b1_3) = Crbbbbbbabax2_ref09_Check F_ref09_Fits F_ref09_Null F_ref09_Coinbase L b1_0 b1_1 b1_2 b1_3 (fun p0 => k (V.sc (.int .i64 p0)) []) := by
  refine (rbbbbbbabax2_ref09_Check_ok F_ref09_Fits F_ref09_Null F_ref09_Coinbase L b1_0 b1_1 b1_2 b1_3 k).trans ?_
  unfold Crbbbbbbabax2_ref09_Check
  simp only [lbbbbbbbaba_ref09_Check_ok, rbbbbbbbabaret_ref09_Check_ok, rbbbbbbbabax6_ref09_Check_ok]
def Crbbbbabax0_ref09_Check {β : Type} (F_ref09_Fits : T_ref09_Fits) (F_ref09_Null : T_ref09_Null) (F_ref09_Coinbase : T_ref09_Coinbase) (L : Nat) (p3 : Int) (b1_0 : Int) (b1_1 : List (List V)) (b1_2 : List (List V)) (b1_3 : Int) (k_fin : Int → Option β) : Option β :=
 rbbbbabax0_ref09_Check F_ref09_Fits F_ref09_Null F_ref09_Coinbase L p3 b1_0 b1_1 b1_2 b1_3 k_fin (fun p42 p43 b1_0 b1_1 b1_2 b1_3 => lbbbbbbaba_ref09_Check F_ref09_Fits F_ref09_Null F_ref09_Coinbase L (fun b1_0 b1_1 b1_2 b1_3 => Crbbbbbbabax2_ref09_Check F_ref09_Fits F_ref09_Null F_ref09_Coinbase L b1_0 b1_1 b1_2 b1_3 k_fin) (fun p2 b1_0 b1_1 b1_2 b1_3 => rbbbbbbabaret_ref09_Check F_ref09_Fits F_ref09_Null F_ref09_Coinbase L p2 b1_0 b1_1 b1_2 b1_3 k_fin) L p42 p43 b1_0 b1_1 b1_2 b1_3)
theorem Crbbbbabax0_ref09_Check_ok {β : Type} (F_ref09_Fits : T_ref09_Fits) (F_ref09_Null : T_ref09_Null) (F_ref09_Coinbase : T_ref09_Coinbase) (L : Nat) (p3 : Int) (b1_0 : Int) (b1_1 : List (List V)) (b1_2 : List (List V)) (b1_3 : Int) (k : V → Bor → Option β) : (blockK 0 (seqK (runC sh_ref09_Check (cb_ref09_Check F_ref09_Fits F_ref09_Null F_ref09_Coinbase L) 0 L cbbbbb_ref09_Check) (finK 0 (CF.res cf_ref09_Check) k))) (.exit 0) (st_x0_ref09_Check p3 b1_0 b1_1 b1_2 b1_3) = Crbbbbabax0_ref09_Check F_ref09_Fits F_ref09_Null F_ref09_Coinbase L p3 b1_0 b1_1 b1_2 b1_3 (fun p0 => k (V.sc (.int .i64 p0)) []) := by
  refine (rbbbbabax0_ref09_Check_ok F_ref09_Fits F_ref09_Null F_ref09_Coinbase L p3 b1_0 b1_1 b1_2 b1_3 k).trans ?_
  unfold Crbbbbabax0_ref09_Check
  simp only [lbbbbbbaba_ref09_Check_ok, Crbbbbbbabax2_ref09_Check_ok, rbbbbbbabaret_ref09_Check_ok]
def R_ref09_Check {β : Type} (F_ref09_Fits : T_ref09_Fits) (F_ref09_Null : T_ref09_Null) (F_ref09_Coinbase : T_ref09_Coinbase) (L : Nat) (p0 : List V) (k_fin : Int → Option β) : Option β :=
 e_ref09_Check F_ref09_Fits F_ref09_Null F_ref09_Coinbase L p0 k_fin (fun p3 p24 p25 p26 b1_0 b1_1 b1_2 b1_3 => lbbbbaba_ref09_Check F_ref09_Fits F_ref09_Null F_ref09_Coinbase L (fun p2 b1_0 b1_1 b1_2 b1_3 => rbbbbabaret_ref09_Check F_ref09_Fits F_ref09_Null F_ref09_Coinbase L p2 b1_0 b1_1 b1_2 b1_3 k_fin) (fun p3 b1_0 b1_1 b1_2 b1_3 => Crbbbbabax0_ref09_Check F_ref09_Fits F_ref09_Null F_ref09_Coinbase L p3 b1_0 b1_1 b1_2 b1_3 k_fin) L p3 p24 p25 p26 b1_0 b1_1 b1_2 b1_3)
theorem R_ref09_Check_ok {β : Type} (F_ref09_Fits : T_ref09_Fits) (F_ref09_Null : T_ref09_Null) (F_ref09_Coinbase : T_ref09_Coinbase) (L : Nat) (p0 : List V) (k : V → Bor → Option β) : funC sh_ref09_Check (cb_ref09_Check F_ref09_Fits F_ref09_Null F_ref09_Coinbase L) L cf_ref09_Check [(V.agg p0)] [] k = R_ref09_Check F_ref09_Fits F_ref09_Null F_ref09_Coinbase L p0 (fun p0 => k (V.sc (.int .i64 p0)) []) := by
  refine (e_ref09_Check_ok F_ref09_Fits F_ref09_Null F_ref09_Coinbase L p0 k).trans ?_
  unfold R_ref09_Check
  simp only [lbbbbaba_ref09_Check_ok, rbbbbabaret_ref09_Check_ok, Crbbbbabax0_ref09_Check_ok]
abbrev T_ref09_Check := ∀ (β : Type), Nat → List V → (Int → Option β) → Option β
def F_ref09_Check (β : Type) (L : Nat) (p0 : List V) (k_fin : Int → Option β) : Option β := R_ref09_Check F_ref09_Fits F_ref09_Null F_ref09_Coinbase L p0 k_fin
def d_ref09_Check (F_ref09_Check : T_ref09_Check) (L : Nat) (β : Type) (args : List V) (bor : Bor) (k : V → Bor → Option β) : Option β := match args, bor with
  | [a0], [] => aG a0 fun p0 => F_ref09_Check β L p0 (fun p0 => k (V.sc (.int .i64 p0)) [])
  | _, _ => none
theorem d_ref09_Check_ok (L : Nat) (β : Type) (args : List V) (bor : Bor) (k : V → Bor → Option β) (r : β) (h : d_ref09_Check F_ref09_Check L β args bor k = some r) : funC sh_ref09_Check (cb_ref09_Check F_ref09_Fits F_ref09_Null F_ref09_Coinbase L) L cf_ref09_Check args bor k = some r := by
  unfold d_ref09_Check at h
  split at h
  · have q := aG_inv h; clear h; obtain ⟨p0, rfl, h⟩ := q
    exact (R_ref09_Check_ok F_ref09_Fits F_ref09_Null F_ref09_Coinbase L p0 k).trans h
  · cases h
/-! ref09_Final : 134 -/
def cbbabaa_ref09_Final : CC := (.seq (.reg [⟨(some 16), false, none, .bin .lss (.tmp 15) (.tmp 14)⟩])
 (.seq (.cond (.tmp 16)
 .skip
 (.seq (.mask (bl 0 23) (bl 8388527 23))
 (.exit 0)))
 (.seq (.block 1 (.seq (.reg [⟨(some 17), false, none, .indexAddrS 35 (.tmp 13) (.tmp 15)⟩,
   ⟨(some 18), false, none, .load true 35 (.tmp 17) false⟩,
   ⟨(some 6), false, none, .alloc false [(.sc (.int .u8 0)), (.sc (.int .u8 0)), (.sc (.int .u8 0)), (.sc (.int .u8 0)), (.sc (.int .u8 0)), (.sc (.int .u8 0)), (.sc (.int .u8 0)), (.sc (.int .u8 0)), (.sc (.int .u8 0)), (.sc (.int .u8 0)), (.sc (.int .u8 0)), (.sc (.int .u8 0)), (.sc (.int .u8 0)), (.sc (.int .u8 0)), (.sc (.int .u8 0)), (.sc (.int .u8 0)), (.sc (.int .u8 0)), (.sc (.int .u8 0)), (.sc (.int .u8 0)), (.sc (.int .u8 0)), (.sc (.int .u8 0)), (.sc (.int .u8 0)), (.sc (.int .u8 0)), (.sc (.int .u8 0)), (.sc (.int .u8 0)), (.sc (.int .u8 0)), (.sc (.int .u8 0)), (.sc (.int .u8 0)), (.sc (.int .u8 0)), (.sc (.int .u8 0)), (.sc (.int .u8 0)), (.sc (.int .u8 0)), (.sc (.int .u32 0)), (.sc (.int .u32 0)), (.gs 1 [])]⟩,
   ⟨none, false, none, .store 35 (.tmp 6) (.tmp 18)⟩])
 (.seq (.reg [⟨(some 19), false, none, .fieldAddr 33 (.tmp 6)⟩,
   ⟨(some 20), false, none, .load false 1 (.tmp 19) false⟩,
   ⟨(some 21), false, none, .bin .neq (.tmp 20) (.const (.sc (.int .u32 4294967295)))⟩])
 (.cond (.tmp 21)
 (.seq (.reg [⟨(some 4), false, none, .move (.const (.sc (.bool false))) false⟩])
 (.seq (.mask (bl 16 23) (bl 8388543 23))
 .ret))
 .skip))))
 (.reg [⟨(some 22), false, none, .bin .add (.tmp 15) (.const (.sc (.int .i64 1)))⟩,
   ⟨(some 15), false, none, .move (.tmp 22) false⟩]))))
def cbbb_ref09_Final : CC := (.seq (.reg [⟨(some 4), false, none, .move (.const (.sc (.bool true))) false⟩])
 .ret)
def cf_ref09_Final : CF := ⟨23, [.tmp 4],
 (.seq (.reg [⟨(some 2), false, none, .box false (.tmp 0)⟩,
   ⟨(some 4), false, none, .move (.const (.sc (.bool false))) false⟩])
 (.seq (.seq (.reg [⟨(some 7), false, none, .fieldAddr 3 (.tmp 2)⟩,
   ⟨(some 8), false, none, .load false 1 (.tmp 7) false⟩,
   ⟨(some 9), false, none, .conv .i64 (.tmp 8)⟩,
   ⟨(some 10), false, none, .move (.tmp 1) false⟩,
   ⟨(some 11), false, none, .bin .leq (.tmp 9) (.tmp 10)⟩])
 (.cond (.tmp 11)
 (.seq (.reg [⟨(some 4), false, none, .move (.const (.sc (.bool true))) false⟩])
 .ret)
 .skip))
 (.seq (.seq (.reg [⟨(some 12), false, none, .fieldAddr 1 (.tmp 2)⟩,
   ⟨(some 13), false, none, .load false 1 (.tmp 12) false⟩,
   ⟨(some 14), false, none, .lenS (.tmp 13)⟩,
   ⟨(some 15), false, none, .move (.const (.sc (.int .i64 0))) false⟩])
 (.block 0 (.loop (bl 57344 23) (bl 8388527 23)
 cbbabaa_ref09_Final)))
 cbbb_ref09_Final)))⟩
def hint_ref09_Final : Hint := ⟨[], [], [none, none, none, some ((bl 57344 23), (bl 8388527 23)), none, some ((bl 0 23), (bl 8388527 23)), none, none, some ((bl 16 23), (bl 8388543 23)), none], []⟩
def sh_ref09_Final : Nat → Sh := shOf [(2, (.row [(.int .u32), (.sl 35), (.sl 2), (.int .u32)])), (18, (.row [(.int .u8), (.int .u8), (.int .u8), (.int .u8), (.int .u8), (.int .u8), (.int .u8), (.int .u8), (.int .u8), (.int .u8), (.int .u8), (.int .u8), (.int .u8), (.int .u8), (.int .u8), (.int .u8), (.int .u8), (.int .u8), (.int .u8), (.int .u8), (.int .u8), (.int .u8), (.int .u8), (.int .u8), (.int .u8), (.int .u8), (.int .u8), (.int .u8), (.int .u8), (.int .u8), (.int .u8), (.int .u8), (.int .u32), (.int .u32), (.sl 1)]))]
def cb_ref09_Final (L : Nat) : CBC := noC
def mbbaba_ref09_Final : St → St := mask (bl 57344 23) (bl 8388527 23)
def st_hbbaba_ref09_Final (p13 : List (List V)) (p14 : Int) (p15 : Int) (b2_0 : Int) (b2_1 : List (List V)) (b2_2 : List (List V)) (b2_3 : Int) : St := ⟨[.junk, .junk, .junk, .junk, .junk, .junk, .junk, .junk, .junk, .junk, .junk, .junk, .junk, (V.sl 35 p13), (V.sc (.int .i64 p14)), (V.sc (.int .i64 p15)), .junk, .junk, .junk, .junk, .junk, .junk, .junk], [.gone, .gone, (.live false [(V.sc (.int .u32 b2_0)), (V.sl 35 b2_1), (V.sl 2 b2_2), (V.sc (.int .u32 b2_3))]), .gone, .gone, .gone, .gone, .gone, .gone, .gone, .gone, .gone, .gone, .gone, .gone, .gone, .gone, .gone, .gone, .gone, .gone, .gone, .gone]⟩
def st_ret_ref09_Final (p4 : Bool) (b2_0 : Int) (b2_1 : List (List V)) (b2_2 : List (List V)) (b2_3 : Int) : St := ⟨[.junk, .junk, .junk, .junk, (V.sc (.bool p4)), .junk, .junk, .junk, .junk, .junk, .junk, .junk, .junk, .junk, .junk, .junk, .junk, .junk, .junk, .junk, .junk, .junk, .junk], [.gone, .gone, (.live false [(V.sc (.int .u32 b2_0)), (V.sl 35 b2_1), (V.sl 2 b2_2), (V.sc (.int .u32 b2_3))]), .gone, .gone, .gone, .gone, .gone, .gone, .gone, .gone, .gone, .gone, .gone, .gone, .gone, .gone, .gone, .gone, .gone, .gone, .gone, .gone]⟩
def st_x0_ref09_Final (b2_0 : Int) (b2_1 : List (List V)) (b2_2 : List (List V)) (b2_3 : Int) : St := ⟨[.junk, .junk, .junk, .junk, .junk, .junk, .junk, .junk, .junk, .junk, .junk, .junk, .junk, .junk, .junk, .junk, .junk, .junk, .junk, .junk, .junk, .junk, .junk], [.gone, .gone, (.live false [(V.sc (.int .u32 b2_0)), (V.sl 35 b2_1), (V.sl 2 b2_2), (V.sc (.int .u32 b2_3))]), .gone, .gone, .gone, .gone, .gone, .gone, .gone, .gone, .gone, .gone, .gone, .gone, .gone, .gone, .gone, .gone, .gone, .gone, .gone, .gone]⟩
def e_ref09_Final {β : Type} (L : Nat) (p0 : List V) (p1 : Int) (k_fin : Bool → Option β) (k_hbbaba : List (List V) → Int → Int → Int → List (List V) → List (List V) → Int → Option β) : Option β :=
 chk (List.length p0 = 4) (
 cI .u32 p0 0 fun v0 =>
 cL 35 p0 1 fun v1 =>
 cL 2 p0 2 fun v2 =>
 cI .u32 p0 3 fun v3 =>
 lt (IntKind.wrap .i64 v3) fun x4 =>
 ifb (decide (x4 ≤ p1)) (
 k_fin true) (
 k_hbbaba v1 ((List.length v1 : Nat) : Int) (0 : Int) v0 v1 v2 v3))
theorem e_ref09_Final_ok {β : Type} (L : Nat) (p0 : List V) (p1 : Int) (k : V → Bor → Option β) : funC sh_ref09_Final (cb_ref09_Final L) L cf_ref09_Final [(V.agg p0), (V.sc (.int .i64 p1))] [] k = e_ref09_Final L p0 p1 (fun p0 => k (V.sc (.bool p0)) []) (fun p13 p14 p15 b2_0 b2_1 b2_2 b2_3 => loopM (runC sh_ref09_Final (cb_ref09_Final L) 0 L cbbabaa_ref09_Final) mbbaba_ref09_Final L (st_hbbaba_ref09_Final p13 p14 p15 b2_0 b2_1 b2_2 b2_3) (blockK 0 (seqK (runC sh_ref09_Final (cb_ref09_Final L) 0 L cbbb_ref09_Final) (finK 0 (CF.res cf_ref09_Final) k)))) := by kernel_rfl
def bbbaba_ref09_Final {β : Type} (L : Nat) (p13 : List (List V)) (p14 : Int) (p15 : Int) (b2_0 : Int) (b2_1 : List (List V)) (b2_2 : List (List V)) (b2_3 : Int) (k_ret : Bool → Int → List (List V) → List (List V) → Int → Option β) (k_hbbaba : List (List V) → Int → Int → Int → List (List V) → List (List V) → Int → Option β) (k_x0 : Int → List (List V) → List (List V) → Int → Option β) : Option β :=
 ifb (decide (p15 < p14)) (
 idx p13 p15 fun c5 =>
 chk (List.length (List.take 35 c5) = 35) (
 cI .u8 (List.take 35 c5) 0 fun v6 =>
 cI .u8 (List.take 35 c5) 1 fun v7 =>
 cI .u8 (List.take 35 c5) 2 fun v8 =>
 cI .u8 (List.take 35 c5) 3 fun v9 =>
 cI .u8 (List.take 35 c5) 4 fun v10 =>
 cI .u8 (List.take 35 c5) 5 fun v11 =>
 cI .u8 (List.take 35 c5) 6 fun v12 =>
 cI .u8 (List.take 35 c5) 7 fun v13 =>
 cI .u8 (List.take 35 c5) 8 fun v14 =>
 cI .u8 (List.take 35 c5) 9 fun v15 =>
 cI .u8 (List.take 35 c5) 10 fun v16 =>
 cI .u8 (List.take 35 c5) 11 fun v17 =>
 cI .u8 (List.take 35 c5) 12 fun v18 =>
 cI .u8 (List.take 35 c5) 13 fun v19 =>
 cI .u8 (List.take 35 c5) 14 fun v20 =>
 cI .u8 (List.take 35 c5) 15 fun v21 =>
 cI .u8 (List.take 35 c5) 16 fun v22 =>
 cI .u8 (List.take 35 c5) 17 fun v23 =>
 cI .u8 (List.take 35 c5) 18 fun v24 =>
 cI .u8 (List.take 35 c5) 19 fun v25 =>
 cI .u8 (List.take 35 c5) 20 fun v26 =>
 cI .u8 (List.take 35 c5) 21 fun v27 =>
 cI .u8 (List.take 35 c5) 22 fun v28 =>
 cI .u8 (List.take 35 c5) 23 fun v29 =>
 cI .u8 (List.take 35 c5) 24 fun v30 =>
 cI .u8 (List.take 35 c5) 25 fun v31 =>
 cI .u8 (List.take 35 c5) 26 fun v32 =>
 cI .u8 (List.take 35 c5) 27 fun v33 =>
 cI .u8 (List.take 35 c5) 28 fun v34 =>
 cI .u8 (List.take 35 c5) 29 fun v35 =>
 cI .u8 (List.take 35 c5) 30 fun v36 =>
 cI .u8 (List.take 35 c5) 31 fun v37 =>
 cI .u32 (List.take 35 c5) 32 fun v38 =>
 cI .u32 (List.take 35 c5) 33 fun v39 =>
 cL 1 (List.take 35 c5) 34 fun v40 =>
 ifb ((v39 : Int) != (4294967295 : Int)) (
 k_ret false b2_0 b2_1 b2_2 b2_3) (
 lt (IntKind.wrap .i64 ((p15 : Int) + (1 : Int))) fun x41 =>
 k_hbbaba p13 p14 x41 b2_0 b2_1 b2_2 b2_3))) (
 k_x0 b2_0 b2_1 b2_2 b2_3)
theorem bbbaba_ref09_Final_ok {β : Type} (L : Nat) (p13 : List (List V)) (p14 : Int) (p15 : Int) (b2_0 : Int) (b2_1 : List (List V)) (b2_2 : List (List V)) (b2_3 : Int) (X : St → Option β) (K : KT β) : runC sh_ref09_Final (cb_ref09_Final L) 0 L cbbabaa_ref09_Final (st_hbbaba_ref09_Final p13 p14 p15 b2_0 b2_1 b2_2 b2_3) (loopK mbbaba_ref09_Final X K) = bbbaba_ref09_Final L p13 p14 p15 b2_0 b2_1 b2_2 b2_3 (fun p4 b2_0 b2_1 b2_2 b2_3 => K .ret (st_ret_ref09_Final p4 b2_0 b2_1 b2_2 b2_3)) (fun p13 p14 p15 b2_0 b2_1 b2_2 b2_3 => X (st_hbbaba_ref09_Final p13 p14 p15 b2_0 b2_1 b2_2 b2_3)) (fun b2_0 b2_1 b2_2 b2_3 => K (.exit 0) (st_x0_ref09_Final b2_0 b2_1 b2_2 b2_3)) := by kernel_rfl
def rbbabaret_ref09_Final {β : Type} (L : Nat) (p4 : Bool) (b2_0 : Int) (b2_1 : List (List V)) (b2_2 : List (List V)) (b2_3 : Int) (k_fin : Bool → Option β) : Option β :=
 k_fin p4
theorem rbbabaret_ref09_Final_ok {β : Type} (L : Nat) (p4 : Bool) (b2_0 : Int) (b2_1 : List (List V)) (b2_2 : List (List V)) (b2_3 : Int) (k : V → Bor → Option β) : (blockK 0 (seqK (runC sh_ref09_Final (cb_ref09_Final L) 0 L cbbb_ref09_Final) (finK 0 (CF.res cf_ref09_Final) k))) .ret (st_ret_ref09_Final p4 b2_0 b2_1 b2_2 b2_3) = rbbabaret_ref09_Final L p4 b2_0 b2_1 b2_2 b2_3 (fun p0 => k (V.sc (.bool p0)) []) := by kernel_rfl
def rbbabax0_ref09_Final {β : Type} (L : Nat) (b2_0 : Int) (b2_1 : List (List V)) (b2_2 : List (List V)) (b2_3 : Int) (k_fin : Bool → Option β) : Option β :=
 k_fin true
theorem rbbabax0_ref09_Final_ok {β : Type} (L : Nat) (b2_0 : Int) (b2_1 : List (List V)) (b2_2 : List (List V)) (b2_3 : Int) (k : V → Bor → Option β) : (blockK 0 (seqK (runC sh_ref09_Final (cb_ref09_Final L) 0 L cbbb_ref09_Final) (finK 0 (CF.res cf_ref09_Final) k))) (.exit 0) (st_x0_ref09_Final b2_0 b2_1 b2_2 b2_3) = rbbabax0_ref09_Final L b2_0 b2_1 b2_2 b2_3 (fun p0 => k (V.sc (.bool p0)) []) := by kernel_rfl
def lbbaba_ref09_Final {β : Type} (L : Nat) (k_ret : Bool → Int → List (List V) → List (List V) → Int → Option β) (k_x0 : Int → List (List V) → List (List V) → Int → Option β) : Nat → List (List V) → Int → Int → Int → List (List V) → List (List V) → Int → Option β
  | 0, _, _, _, _, _, _, _ => none
  | n + 1, p13, p14, p15, b2_0, b2_1, b2_2, b2_3 => bbbaba_ref09_Final L p13 p14 p15 b2_0 b2_1 b2_2 b2_3 k_ret (fun p13 p14 p15 b2_0 b2_1 b2_2 b2_3 => lbbaba_ref09_Final L k_ret k_x0 n p13 p14 p15 b2_0 b2_1 b2_2 b2_3) k_x0
theorem lbbaba_ref09_Final_ok {β : Type} (L : Nat) (K : KT β) : ∀ (n : Nat) (p13 : List (List V)) (p14 : Int) (p15 : Int) (b2_0 : Int) (b2_1 : List (List V)) (b2_2 : List (List V)) (b2_3 : Int), loopM (runC sh_ref09_Final (cb_ref09_Final L) 0 L cbbabaa_ref09_Final) mbbaba_ref09_Final n (st_hbbaba_ref09_Final p13 p14 p15 b2_0 b2_1 b2_2 b2_3) K = lbbaba_ref09_Final L (fun p4 b2_0 b2_1 b2_2 b2_3 => K .ret (st_ret_ref09_Final p4 b2_0 b2_1 b2_2 b2_3)) (fun b2_0 b2_1 b2_2 b2_3 => K (.exit 0) (st_x0_ref09_Final b2_0 b2_1 b2_2 b2_3)) n p13 p14 p15 b2_0 b2_1 b2_2 b2_3 := by
  intro n
  induction n with
  | zero => intros; rfl
  | succ n ih =>
    intro p13 p14 p15 b2_0 b2_1 b2_2 b2_3
    refine (bbbaba_ref09_Final_ok L p13 p14 p15 b2_0 b2_1 b2_2 b2_3 (fun σ => loopM (runC sh_ref09_Final (cb_ref09_Final L) 0 L cbbabaa_ref09_Final) mbbaba_ref09_Final n σ K) K).trans ?_
    simp only [ih]
    rfl
def R_ref09_Final {β : Type} (L : Nat) (p0 : List V) (p1 : Int) (k_fin : Bool → Option β) : Option β :=
 e_ref09_Final L p0 p1 k_fin (fun p13 p14 p15 b2_0 b2_1 b2_2 b2_3 => lbbaba_ref09_Final L (fun p4 b2_0 b2_1 b2_2 b2_3 => rbbabaret_ref09_Final L p4 b2_0 b2_1 b2_2 b2_3 k_fin) (fun b2_0 b2_1 b2_2 b2_3 => rbbabax0_ref09_Final L b2_0 b2_1 b2_2 b2_3 k_fin) L p13 p14 p15 b2_0 b2_1 b2_2 b2_3)
theorem R_ref09_Final_ok {β : Type} (L : Nat) (p0 : List V) (p1 : Int) (k : V → Bor → Option β) : funC sh_ref09_Final (cb_ref09_Final L) L cf_ref09_Final [(V.agg p0), (V.sc (.int .i64 p1))] [] k = R_ref09_Final L p0 p1 (fun p0 => k (V.sc (.bool p0)) []) := by
  refine (e_ref09_Final_ok L p0 p1 k).trans ?_
  unfold R_ref09_Final
  simp only [lbbaba_ref09_Final_ok, rbbabaret_ref09_Final_ok, rbbabax0_ref09_Final_ok]
abbrev T_ref09_Final := ∀ (β : Type), Nat → List V → Int → (Bool → Option β) → Option β
def F_ref09_Final (β : Type) (L : Nat) (p0 : List V) (p1 : Int) (k_fin : Bool → Option β) : Option β := R_ref09_Final L p0 p1 k_fin
def d_ref09_Final (F_ref09_Final : T_ref09_Final) (L : Nat) (β : Type) (args : List V) (bor : Bor) (k : V → Bor → Option β) : Option β := match args, bor with
  | [a0, a1], [] => aG a0 fun p0 => aI .i64 a1 fun p1 => F_ref09_Final β L p0 p1 (fun p0 => k (V.sc (.bool p0)) [])
  | _, _ => none
theorem d_ref09_Final_ok (L : Nat) (β : Type) (args : List V) (bor : Bor) (k : V → Bor → Option β) (r : β) (h : d_ref09_Final F_ref09_Final L β args bor k = some r) : funC sh_ref09_Final (cb_ref09_Final L) L cf_ref09_Final args bor k = some r := by
  unfold d_ref09_Final at h
  split at h
  · have q := aG_inv h; clear h; obtain ⟨p0, rfl, h⟩ := q
    have q := aI_inv h; clear h; obtain ⟨p1, rfl, h⟩ := q
    exact (R_ref09_Final_ok L p0 p1 k).trans h
  · cases h
/-! law09_TxChecks : 120 -/
def cf_law09_TxChecks : CF := ⟨26, [.tmp 4],
 (.seq (.reg [⟨(some 2), false, none, .box false (.tmp 0)⟩,
   ⟨(some 4), false, none, .move (.const (.sc (.bool false))) false⟩])
 (.seq (.seq (.reg [⟨(some 5), false, none, .call 126 []⟩,
   ⟨(some 6), false, none, .un .not (.tmp 5)⟩])
 (.cond (.tmp 6)
 (.seq (.reg [⟨(some 4), false, none, .move (.const (.sc (.bool false))) false⟩])
 .ret)
 .skip))
 (.seq (.dreg [] [(⟨(some 7), false, none, .load true 4 (.tmp 2) false⟩, false),
   (⟨(some 8), false, none, .call 127 [((.tmp 7), true)]⟩, false),
   (⟨(some 9), false, none, .un .not (.tmp 8)⟩, false),
   (⟨(some 10), false, none, .move (.tmp 9) false⟩, false),
   (⟨(some 11), false, (some (10, false)), .load true 4 (.tmp 2) false⟩, true),
   (⟨(some 12), false, (some (10, false)), .call 131 [((.tmp 11), true)]⟩, true),
   (⟨(some 13), false, (some (10, false)), .load true 4 (.tmp 2) false⟩, true),
   (⟨(some 14), false, (some (10, false)), .call 132 [((.tmp 13), true)]⟩, false),
   (⟨(some 15), false, (some (10, false)), .bin .eql (.tmp 12) (.tmp 14)⟩, false),
   (⟨(some 16), false, (some (10, false)), .move (.tmp 15) false⟩, false),
   (⟨(some 17), false, (some (16, true)), .load true 4 (.tmp 2) false⟩, true),
   (⟨(some 18), false, (some (16, true)), .move (.tmp 1) false⟩, false),
   (⟨(some 19), false, (some (16, true)), .call 133 [((.tmp 17), true), ((.tmp 18), false)]⟩, true),
   (⟨(some 20), false, (some (16, true)), .load true 4 (.tmp 2) false⟩, true),
   (⟨(some 21), false, (some (16, true)), .move (.tmp 1) false⟩, false),
   (⟨(some 22), false, (some (16, true)), .call 134 [((.tmp 20), true), ((.tmp 21), false)]⟩, false),
   (⟨(some 23), false, (some (16, true)), .eqB false (.tmp 19) (.tmp 22)⟩, false),
   (⟨(some 24), false, (some (10, false)), .pick (.tmp 16) (.tmp 23) (.const (.sc (.bool false)))⟩, false),
   (⟨(some 25), false, none, .pick (.tmp 10) (.const (.sc (.bool true))) (.tmp 24)⟩, false),
   (⟨(some 4), false, none, .move (.tmp 25) false⟩, false)])
 .ret)))⟩
def hint_law09_TxChecks : Hint := ⟨[], [], [none, none, none], []⟩
def sh_law09_TxChecks : Nat → Sh := shOf [(2, (.row [(.int .u32), (.sl 35), (.sl 2), (.int .u32)]))]
def cb_law09_TxChecks (F_law09_sane : T_law09_sane) (F_keep_Tx : T_keep_Tx) (F_tx_Check : T_tx_Check) (F_ref09_Check : T_ref09_Check) (F_tx_Final : T_tx_Final) (F_ref09_Final : T_ref09_Final) (L : Nat) : CBC := (addC 134 (d_ref09_Final F_ref09_Final L) (addC 133 (d_tx_Final F_tx_Final L) (addC 132 (d_ref09_Check F_ref09_Check L) (addC 131 (d_tx_Check F_tx_Check L) (addC 127 (d_keep_Tx F_keep_Tx L) (addC 126 (d_law09_sane F_law09_sane L) noC))))))
def R_law09_TxChecks {β : Type} (F_law09_sane : T_law09_sane) (F_keep_Tx : T_keep_Tx) (F_tx_Check : T_tx_Check) (F_ref09_Check : T_ref09_Check) (F_tx_Final : T_tx_Final) (F_ref09_Final : T_ref09_Final) (L : Nat) (p0 : List V) (p1 : Int) (k_fin : Bool → Option β) : Option β :=
 chk (List.length p0 = 4) (
 cI .u32 p0 0 fun v0 =>
 cL 35 p0 1 fun v1 =>
 cL 2 p0 2 fun v2 =>
 cI .u32 p0 3 fun v3 =>
 F_law09_sane β L  (fun v4 =>
 ifb (!v4) (
 k_fin false) (
 F_keep_Tx β L [(V.sc (.int .u32 v0)), (V.sl 35 v1), (V.sl 2 v2), (V.sc (.int .u32 v3))] (fun v5 =>
 ifb (!v5) (
 k_fin true) (
 F_tx_Check β L [(V.sc (.int .u32 v0)), (V.sl 35 v1), (V.sl 2 v2), (V.sc (.int .u32 v3))] (fun v6 =>
 F_ref09_Check β L [(V.sc (.int .u32 v0)), (V.sl 35 v1), (V.sl 2 v2), (V.sc (.int .u32 v3))] (fun v7 =>
 ifb ((v6 : Int) == v7) (
 F_tx_Final β L [(V.sc (.int .u32 v0)), (V.sl 35 v1), (V.sl 2 v2), (V.sc (.int .u32 v3))] p1 (fun v8 =>
 F_ref09_Final β L [(V.sc (.int .u32 v0)), (V.sl 35 v1), (V.sl 2 v2), (V.sc (.int .u32 v3))] p1 (fun v9 =>
 k_fin (v8 == v9)))) (
 k_fin false))))))))
theorem R_law09_TxChecks_ok {β : Type} (F_law09_sane : T_law09_sane) (F_keep_Tx : T_keep_Tx) (F_tx_Check : T_tx_Check) (F_ref09_Check : T_ref09_Check) (F_tx_Final : T_tx_Final) (F_ref09_Final : T_ref09_Final) (L : Nat) (p0 : List V) (p1 : Int) (k : V → Bor → Option β) : funC sh_law09_TxChecks (cb_law09_TxChecks F_law09_sane F_keep_Tx F_tx_Check F_ref09_Check F_tx_Final F_ref09_Final L) L cf_law09_TxChecks [(V.agg p0), (V.sc (.int .i64 p1))] [] k = R_law09_TxChecks F_law09_sane F_keep_Tx F_tx_Check F_ref09_Check F_tx_Final F_ref09_Final L p0 p1 (fun p0 => k (V.sc (.bool p0)) []) := by kernel_rfl
abbrev T_law09_TxChecks := ∀ (β : Type), Nat → List V → Int → (Bool → Option β) → Option β
def F_law09_TxChecks (β : Type) (L : Nat) (p0 : List V) (p1 : Int) (k_fin : Bool → Option β) : Option β := R_law09_TxChecks F_law09_sane F_keep_Tx F_tx_Check F_ref09_Check F_tx_Final F_ref09_Final L p0 p1 k_fin
def d_law09_TxChecks (F_law09_TxChecks : T_law09_TxChecks) (L : Nat) (β : Type) (args : List V) (bor : Bor) (k : V → Bor → Option β) : Option β := match args, bor with
  | [a0, a1], [] => aG a0 fun p0 => aI .i64 a1 fun p1 => F_law09_TxChecks β L p0 p1 (fun p0 => k (V.sc (.bool p0)) [])
  | _, _ => none
theorem d_law09_TxChecks_ok (L : Nat) (β : Type) (args : List V) (bor : Bor) (k : V → Bor → Option β) (r : β) (h : d_law09_TxChecks F_law09_TxChecks L β args bor k = some r) : funC sh_law09_TxChecks (cb_law09_TxChecks F_law09_sane F_keep_Tx F_tx_Check F_ref09_Check F_tx_Final F_ref09_Final L) L cf_law09_TxChecks args bor k = some r := by
  unfold d_law09_TxChecks at h
  split at h
  · have q := aG_inv h; clear h; obtain ⟨p0, rfl, h⟩ := q
    have q := aI_inv h; clear h; obtain ⟨p1, rfl, h⟩ := q
    exact (R_law09_TxChecks_ok F_law09_sane F_keep_Tx F_tx_Check F_ref09_Check F_tx_Final F_ref09_Final L p0 p1 k).trans h
  · cases h
/-! bytes_Compare : 155 -/
def cf_bytes_Compare : CF := ⟨8, [.tmp 4],
 (.seq (.reg [⟨(some 4), false, none, .move (.const (.sc (.int .i64 0))) false⟩])
 (.seq (.reg [⟨(some 5), false, none, .move (.tmp 0) true⟩,
   ⟨(some 6), false, none, .move (.tmp 1) true⟩,
   ⟨(some 7), false, none, .cmpB (.tmp 5) (.tmp 6)⟩,
   ⟨(some 4), false, none, .move (.tmp 7) false⟩])
 .ret))⟩
def hint_bytes_Compare : Hint := ⟨[(1, 0), (1, 1)], [], [none], []⟩
def sh_bytes_Compare : Nat → Sh := shOf []
def cb_bytes_Compare (L : Nat) : CBC := noC
def R_bytes_Compare {β : Type} (L : Nat) (p0 : List (List V)) (p1 : List (List V)) (k_fin : Int → Option β) : Option β :=
 cmpC p0 p1 fun v0 =>
 lt v0 fun x1 =>
 k_fin x1
theorem R_bytes_Compare_ok {β : Type} (L : Nat) (p0 : List (List V)) (p1 : List (List V)) (k : V → Bor → Option β) : funC sh_bytes_Compare (cb_bytes_Compare L) L cf_bytes_Compare [(V.sl 1 p0), (V.sl 1 p1)] [] k = R_bytes_Compare L p0 p1 (fun p0 => k (V.sc (.int .i64 p0)) []) := by kernel_rfl
abbrev T_bytes_Compare := ∀ (β : Type), Nat → List (List V) → List (List V) → (Int → Option β) → Option β
def F_bytes_Compare (β : Type) (L : Nat) (p0 : List (List V)) (p1 : List (List V)) (k_fin : Int → Option β) : Option β := R_bytes_Compare L p0 p1 k_fin
def d_bytes_Compare (F_bytes_Compare : T_bytes_Compare) (L : Nat) (β : Type) (args : List V) (bor : Bor) (k : V → Bor → Option β) : Option β := match args, bor with
  | [a0, a1], [] => aL 1 a0 fun p0 => aL 1 a1 fun p1 => F_bytes_Compare β L p0 p1 (fun p0 => k (V.sc (.int .i64 p0)) [])
  | _, _ => none
theorem d_bytes_Compare_ok (L : Nat) (β : Type) (args : List V) (bor : Bor) (k : V → Bor → Option β) (r : β) (h : d_bytes_Compare F_bytes_Compare L β args bor k = some r) : funC sh_bytes_Compare (cb_bytes_Compare L) L cf_bytes_Compare args bor k = some r := by
  unfold d_bytes_Compare at h
  split at h
  · have q := aL_inv h; clear h; obtain ⟨p0, rfl, h⟩ := q
    have q := aL_inv h; clear h; obtain ⟨p1, rfl, h⟩ := q
    exact (R_bytes_Compare_ok L p0 p1 k).trans h
  · cases h
/-! cmp_isNaN_uint32 : 190 -/
def cf_cmp_isNaN_uint32 : CF := ⟨6, [.tmp 2],
 (.seq (.reg [⟨(some 2), false, none, .move (.const (.sc (.bool false))) false⟩])
 (.seq (.reg [⟨(some 3), false, none, .move (.tmp 0) false⟩,
   ⟨(some 4), false, none, .move (.tmp 0) false⟩,
   ⟨(some 5), false, none, .bin .neq (.tmp 3) (.tmp 4)⟩,
   ⟨(some 2), false, none, .move (.tmp 5) false⟩])
 .ret))⟩
def hint_cmp_isNaN_uint32 : Hint := ⟨[], [], [none], []⟩
def sh_cmp_isNaN_uint32 : Nat → Sh := shOf []
def cb_cmp_isNaN_uint32 (L : Nat) : CBC := noC
def R_cmp_isNaN_uint32 {β : Type} (L : Nat) (p0 : Int) (k_fin : Bool → Option β) : Option β :=
 k_fin ((p0 : Int) != p0)
theorem R_cmp_isNaN_uint32_ok {β : Type} (L : Nat) (p0 : Int) (k : V → Bor → Option β) : funC sh_cmp_isNaN_uint32 (cb_cmp_isNaN_uint32 L) L cf_cmp_isNaN_uint32 [(V.sc (.int .u32 p0))] [] k = R_cmp_isNaN_uint32 L p0 (fun p0 => k (V.sc (.bool p0)) []) := by kernel_rfl
abbrev T_cmp_isNaN_uint32 := ∀ (β : Type), Nat → Int → (Bool → Option β) → Option β
def F_cmp_isNaN_uint32 (β : Type) (L : Nat) (p0 : Int) (k_fin : Bool → Option β) : Option β := R_cmp_isNaN_uint32 L p0 k_fin
def d_cmp_isNaN_uint32 (F_cmp_isNaN_uint32 : T_cmp_isNaN_uint32) (L : Nat) (β : Type) (args : List V) (bor : Bor) (k : V → Bor → Option β) : Option β := match args, bor with
  | [a0], [] => aI .u32 a0 fun p0 => F_cmp_isNaN_uint32 β L p0 (fun p0 => k (V.sc (.bool p0)) [])
  | _, _ => none
theorem d_cmp_isNaN_uint32_ok (L : Nat) (β : Type) (args : List V) (bor : Bor) (k : V → Bor → Option β) (r : β) (h : d_cmp_isNaN_uint32 F_cmp_isNaN_uint32 L β args bor k = some r) : funC sh_cmp_isNaN_uint32 (cb_cmp_isNaN_uint32 L) L cf_cmp_isNaN_uint32 args bor k = some r := by
  unfold d_cmp_isNaN_uint32 at h
  split at h
  · have q := aI_inv h; clear h; obtain ⟨p0, rfl, h⟩ := q
    exact (R_cmp_isNaN_uint32_ok L p0 k).trans h
  · cases h
/-! cmp_Compare_uint32 : 156 -/
def cf_cmp_Compare_uint32 : CF := ⟨20, [.tmp 4],
 (.seq (.reg [⟨(some 4), false, none, .move (.const (.sc (.int .i64 0))) false⟩])
 (.seq (.reg [⟨(some 7), false, none, .move (.tmp 0) false⟩,
   ⟨(some 8), false, none, .call 190 [((.tmp 7), false)]⟩,
   ⟨(some 5), false, none, .move (.tmp 8) false⟩])
 (.seq (.reg [⟨(some 9), false, none, .move (.tmp 1) false⟩,
   ⟨(some 10), false, none, .call 190 [((.tmp 9), false)]⟩,
   ⟨(some 6), false, none, .move (.tmp 10) false⟩])
 (.seq (.seq (.reg [⟨(some 11), false, none, .move (.tmp 5) false⟩])
 (.cond (.tmp 11)
 (.seq (.seq (.reg [⟨(some 12), false, none, .move (.tmp 6) false⟩])
 (.cond (.tmp 12)
 (.seq (.reg [⟨(some 4), false, none, .move (.const (.sc (.int .i64 0))) false⟩])
 .ret)
 .skip))
 (.seq (.reg [⟨(some 4), false, none, .move (.const (.sc (.int .i64 (-1)))) false⟩])
 .ret))
 .skip))
 (.seq (.seq (.reg [⟨(some 13), false, none, .move (.tmp 6) false⟩])
 (.cond (.tmp 13)
 (.seq (.reg [⟨(some 4), false, none, .move (.const (.sc (.int .i64 1))) false⟩])
 .ret)
 .skip))
 (.seq (.seq (.reg [⟨(some 14), false, none, .move (.tmp 0) false⟩,
   ⟨(some 15), false, none, .move (.tmp 1) false⟩,
   ⟨(some 16), false, none, .bin .lss (.tmp 14) (.tmp 15)⟩])
 (.cond (.tmp 16)
 (.seq (.reg [⟨(some 4), false, none, .move (.const (.sc (.int .i64 (-1)))) false⟩])
 .ret)
 .skip))
 (.seq (.seq (.reg [⟨(some 17), false, none, .move (.tmp 0) false⟩,
   ⟨(some 18), false, none, .move (.tmp 1) false⟩,
   ⟨(some 19), false, none, .bin .gtr (.tmp 17) (.tmp 18)⟩])
 (.cond (.tmp 19)
 (.seq (.reg [⟨(some 4), false, none, .move (.const (.sc (.int .i64 1))) false⟩])
 .ret)
 .skip))
 (.seq (.reg [⟨(some 4), false, none, .move (.const (.sc (.int .i64 0))) false⟩])
 .ret))))))))⟩
def hint_cmp_Compare_uint32 : Hint := ⟨[], [], [none, none, none, none, none, none, none, none, none, none, none], []⟩
def sh_cmp_Compare_uint32 : Nat → Sh := shOf []
def cb_cmp_Compare_uint32 (F_cmp_isNaN_uint32 : T_cmp_isNaN_uint32) (L : Nat) : CBC := (addC 190 (d_cmp_isNaN_uint32 F_cmp_isNaN_uint32 L) noC)
def R_cmp_Compare_uint32 {β : Type} (F_cmp_isNaN_uint32 : T_cmp_isNaN_uint32) (L : Nat) (p0 : Int) (p1 : Int) (k_fin : Int → Option β) : Option β :=
 F_cmp_isNaN_uint32 β L p0 (fun v0 =>
 F_cmp_isNaN_uint32 β L p1 (fun v1 =>
 ifb v0 (
 ifb v1 (
 k_fin (0 : Int)) (
 k_fin (-1 : Int))) (
 ifb v1 (
 k_fin (1 : Int)) (
 ifb (decide (p0 < p1)) (
 k_fin (-1 : Int)) (
 ifb (decide (p0 > p1)) (
 k_fin (1 : Int)) (
 k_fin (0 : Int)))))))
theorem R_cmp_Compare_uint32_ok {β : Type} (F_cmp_isNaN_uint32 : T_cmp_isNaN_uint32) (L : Nat) (p0 : Int) (p1 : Int) (k : V → Bor → Option β) : funC sh_cmp_Compare_uint32 (cb_cmp_Compare_uint32 F_cmp_isNaN_uint32 L) L cf_cmp_Compare_uint32 [(V.sc (.int .u32 p0)), (V.sc (.int .u32 p1))] [] k = R_cmp_Compare_uint32 F_cmp_isNaN_uint32 L p0 p1 (fun p0 => k (V.sc (.int .i64 p0)) []) := by kernel_rfl
abbrev T_cmp_Compare_uint32 := ∀ (β : Type), Nat → Int → Int → (Int → Option β) → Option β
def F_cmp_Compare_uint32 (β : Type) (L : Nat) (p0 : Int) (p1 : Int) (k_fin : Int → Option β) : Option β := R_cmp_Compare_uint32 F_cmp_isNaN_uint32 L p0 p1 k_fin
def d_cmp_Compare_uint32 (F_cmp_Compare_uint32 : T_cmp_Compare_uint32) (L : Nat) (β : Type) (args : List V) (bor : Bor) (k : V → Bor → Option β) : Option β := match args, bor with
  | [a0, a1], [] => aI .u32 a0 fun p0 => aI .u32 a1 fun p1 => F_cmp_Compare_uint32 β L p0 p1 (fun p0 => k (V.sc (.int .i64 p0)) [])
  | _, _ => none
theorem d_cmp_Compare_uint32_ok (L : Nat) (β : Type) (args : List V) (bor : Bor) (k : V → Bor → Option β) (r : β) (h : d_cmp_Compare_uint32 F_cmp_Compare_uint32 L β args bor k = some r) : funC sh_cmp_Compare_uint32 (cb_cmp_Compare_uint32 F_cmp_isNaN_uint32 L) L cf_cmp_Compare_uint32 args bor k = some r := by
  unfold d_cmp_Compare_uint32 at h
  split at h
  · have q := aI_inv h; clear h; obtain ⟨p0, rfl, h⟩ := q
    have q := aI_inv h; clear h; obtain ⟨p1, rfl, h⟩ := q
    exact (R_cmp_Compare_uint32_ok F_cmp_isNaN_uint32 L p0 p1 k).trans h
  · cases h
/-! cmp_Or_int : 154 -/
def cbbabaa_cmp_Or_int : CC := (.seq (.reg [⟨(some 9), false, none, .bin .lss (.tmp 8) (.tmp 7)⟩])
 (.seq (.cond (.tmp 9)
 .skip
 (.seq (.mask (bl 8 18) (bl 262107 18))
 (.exit 0)))
 (.seq (.block 1 (.seq (.reg [⟨(some 10), false, none, .indexAddrS 1 (.tmp 6) (.tmp 8)⟩,
   ⟨(some 11), false, none, .load false 1 (.tmp 10) false⟩,
   ⟨(some 5), false, none, .move (.tmp 11) false⟩])
 (.seq (.reg [⟨(some 12), false, none, .move (.tmp 5) false⟩,
   ⟨(some 13), false, none, .move (.tmp 3) false⟩,
   ⟨(some 14), false, none, .bin .neq (.tmp 12) (.tmp 13)⟩])
 (.cond (.tmp 14)
 (.seq (.reg [⟨(some 15), false, none, .move (.tmp 5) false⟩,
   ⟨(some 2), false, none, .move (.tmp 15) false⟩])
 (.seq (.mask (bl 4 18) (bl 262111 18))
 .ret))
 .skip))))
 (.reg [⟨(some 16), false, none, .bin .add (.tmp 8) (.const (.sc (.int .i64 1)))⟩,
   ⟨(some 8), false, none, .move (.tmp 16) false⟩]))))
def cbbb_cmp_Or_int : CC := (.seq (.reg [⟨(some 17), false, none, .move (.tmp 3) false⟩,
   ⟨(some 2), false, none, .move (.tmp 17) false⟩])
 .ret)
def cf_cmp_Or_int : CF := ⟨18, [.tmp 2],
 (.seq (.reg [⟨(some 2), false, none, .move (.const (.sc (.int .i64 0))) false⟩])
 (.seq (.reg [⟨(some 3), false, none, .move (.const (.sc (.int .i64 0))) false⟩])
 (.seq (.seq (.reg [⟨(some 6), false, none, .move (.tmp 0) true⟩,
   ⟨(some 7), false, none, .lenS (.tmp 6)⟩,
   ⟨(some 8), false, none, .move (.const (.sc (.int .i64 0))) false⟩])
 (.block 0 (.loop (bl 456 18) (bl 262107 18)
 cbbabaa_cmp_Or_int)))
 cbbb_cmp_Or_int)))⟩
def hint_cmp_Or_int : Hint := ⟨[(2, 0)], [], [none, some ((bl 456 18), (bl 262107 18)), none, some ((bl 8 18), (bl 262107 18)), none, none, some ((bl 4 18), (bl 262111 18)), none], []⟩
def sh_cmp_Or_int : Nat → Sh := shOf [(11, (.int .i64))]
def cb_cmp_Or_int (L : Nat) : CBC := noC
def mbbaba_cmp_Or_int : St → St := mask (bl 456 18) (bl 262107 18)
def st_hbbaba_cmp_Or_int (p3 : Int) (p6 : List (List V)) (p7 : Int) (p8 : Int) : St := ⟨[.junk, .junk, .junk, (V.sc (.int .i64 p3)), .junk, .junk, (V.sl 1 p6), (V.sc (.int .i64 p7)), (V.sc (.int .i64 p8)), .junk, .junk, .junk, .junk, .junk, .junk, .junk, .junk, .junk], [.gone, .gone, .gone, .gone, .gone, .gone, .gone, .gone, .gone, .gone, .gone, .gone, .gone, .gone, .gone, .gone, .gone, .gone]⟩
def st_ret_cmp_Or_int (p2 : Int) : St := ⟨[.junk, .junk, (V.sc (.int .i64 p2)), .junk, .junk, .junk, .junk, .junk, .junk, .junk, .junk, .junk, .junk, .junk, .junk, .junk, .junk, .junk], [.gone, .gone, .gone, .gone, .gone, .gone, .gone, .gone, .gone, .gone, .gone, .gone, .gone, .gone, .gone, .gone, .gone, .gone]⟩
def st_x0_cmp_Or_int (p3 : Int) : St := ⟨[.junk, .junk, .junk, (V.sc (.int .i64 p3)), .junk, .junk, .junk, .junk, .junk, .junk, .junk, .junk, .junk, .junk, .junk, .junk, .junk, .junk], [.gone, .gone, .gone, .gone, .gone, .gone, .gone, .gone, .gone, .gone, .gone, .gone, .gone, .gone, .gone, .gone, .gone, .gone]⟩
def e_cmp_Or_int {β : Type} (L : Nat) (p0 : List (List V)) (k_hbbaba : Int → List (List V) → Int → Int → Option β) : Option β :=
 k_hbbaba (0 : Int) p0 ((List.length p0 : Nat) : Int) (0 : Int)
theorem e_cmp_Or_int_ok {β : Type} (L : Nat) (p0 : List (List V)) (k : V → Bor → Option β) : funC sh_cmp_Or_int (cb_cmp_Or_int L) L cf_cmp_Or_int [(V.sl 1 p0)] [] k = e_cmp_Or_int L p0 (fun p3 p6 p7 p8 => loopM (runC sh_cmp_Or_int (cb_cmp_Or_int L) 0 L cbbabaa_cmp_Or_int) mbbaba_cmp_Or_int L (st_hbbaba_cmp_Or_int p3 p6 p7 p8) (blockK 0 (seqK (runC sh_cmp_Or_int (cb_cmp_Or_int L) 0 L cbbb_cmp_Or_int) (finK 0 (CF.res cf_cmp_Or_int) k)))) := by kernel_rfl
def bbbaba_cmp_Or_int {β : Type} (L : Nat) (p3 : Int) (p6 : List (List V)) (p7 : Int) (p8 : Int) (k_ret : Int → Option β) (k_hbbaba : Int → List (List V) → Int → Int → Option β) (k_x0 : Int → Option β) : Option β :=
 ifb (decide (p8 < p7)) (
 idx p6 p8 fun c0 =>
 cI .i64 c0 0 fun v1 =>
 ifb ((v1 : Int) != p3) (
 k_ret v1) (
 lt (IntKind.wrap .i64 ((p8 : Int) + (1 : Int))) fun x2 =>
 k_hbbaba p3 p6 p7 x2)) (
 k_x0 p3)
theorem bbbaba_cmp_Or_int_ok {β : Type} (L : Nat) (p3 : Int) (p6 : List (List V)) (p7 : Int) (p8 : Int) (X : St → Option β) (K : KT β) : runC sh_cmp_Or_int (cb_cmp_Or_int L) 0 L cbbabaa_cmp_Or_int (st_hbbaba_cmp_Or_int p3 p6 p7 p8) (loopK mbbaba_cmp_Or_int X K) = bbbaba_cmp_Or_int L p3 p6 p7 p8 (fun p2 => K .ret (st_ret_cmp_Or_int p2)) (fun p3 p6 p7 p8 => X (st_hbbaba_cmp_Or_int p3 p6 p7 p8)) (fun p3 => K (.exit 0) (st_x0_cmp_Or_int p3)) := by kernel_rfl
def rbbabaret_cmp_Or_int {β : Type} (L : Nat) (p2 : Int) (k_fin : Int → Option β) : Option β :=
 k_fin p2
theorem rbbabaret_cmp_Or_int_ok {β : Type} (L : Nat) (p2 : Int) (k : V → Bor → Option β) : (blockK 0 (seqK (runC sh_cmp_Or_int (cb_cmp_Or_int L) 0 L cbbb_cmp_Or_int) (finK 0 (CF.res cf_cmp_Or_int) k))) .ret (st_ret_cmp_Or_int p2) = rbbabaret_cmp_Or_int L p2 (fun p0 => k (V.sc (.int .i64 p0)) []) := by kernel_rfl
def rbbabax0_cmp_Or_int {β : Type} (L : Nat) (p3 : Int) (k_fin : Int → Option β) : Option β :=
 k_fin p3
theorem rbbabax0_cmp_Or_int_ok {β : Type} (L : Nat) (p3 : Int) (k : V → Bor → Option β) : (blockK 0 (seqK (runC sh_cmp_Or_int (cb_cmp_Or_int L) 0 L cbbb_cmp_Or_int) (finK 0 (CF.res cf_cmp_Or_int) k))) (.exit 0) (st_x0_cmp_Or_int p3) = rbbabax0_cmp_Or_int L p3 (fun p0 => k (V.sc (.int .i64 p0)) []) := by kernel_rfl
def lbbaba_cmp_Or_int {β : Type} (L : Nat) (k_ret : Int → Option β) (k_x0 : Int → Option β) : Nat → Int → List (List V) → Int → Int → Option β
  | 0, _, _, _, _ => none
  | n + 1, p3, p6, p7, p8 => bbbaba_cmp_Or_int L p3 p6 p7 p8 k_ret (fun p3 p6 p7 p8 => lbbaba_cmp_Or_int L k_ret k_x0 n p3 p6 p7 p8) k_x0
theorem lbbaba_cmp_Or_int_ok {β : Type} (L : Nat) (K : KT β) : ∀ (n : Nat) (p3 : Int) (p6 : List (List V)) (p7 : Int) (p8 : Int), loopM (runC sh_cmp_Or_int (cb_cmp_Or_int L) 0 L cbbabaa_cmp_Or_int) mbbaba_cmp_Or_int n (st_hbbaba_cmp_Or_int p3 p6 p7 p8) K = lbbaba_cmp_Or_int L (fun p2 => K .ret (st_ret_cmp_Or_int p2)) (fun p3 => K (.exit 0) (st_x0_cmp_Or_int p3)) n p3 p6 p7 p8 := by
  intro n
  induction n with
  | zero => intros; rfl
  | succ n ih =>
    intro p3 p6 p7 p8
    refine (bbbaba_cmp_Or_int_ok L p3 p6 p7 p8 (fun σ => loopM (runC sh_cmp_Or_int (cb_cmp_Or_int L) 0 L cbbabaa_cmp_Or_int) mbbaba_cmp_Or_int n σ K) K).trans ?_
    simp only [ih]
    rfl
def R_cmp_Or_int {β : Type} (L : Nat) (p0 : List (List V)) (k_fin : Int → Option β) : Option β :=
 e_cmp_Or_int L p0 (fun p3 p6 p7 p8 => lbbaba_cmp_Or_int L (fun p2 => rbbabaret_cmp_Or_int L p2 k_fin) (fun p3 => rbbabax0_cmp_Or_int L p3 k_fin) L p3 p6 p7 p8)
theorem R_cmp_Or_int_ok {β : Type} (L : Nat) (p0 : List (List V)) (k : V → Bor → Option β) : funC sh_cmp_Or_int (cb_cmp_Or_int L) L cf_cmp_Or_int [(V.sl 1 p0)] [] k = R_cmp_Or_int L p0 (fun p0 => k (V.sc (.int .i64 p0)) []) := by
  refine (e_cmp_Or_int_ok L p0 k).trans ?_
  unfold R_cmp_Or_int
  simp only [lbbaba_cmp_Or_int_ok, rbbabaret_cmp_Or_int_ok, rbbabax0_cmp_Or_int_ok]
abbrev T_cmp_Or_int := ∀ (β : Type), Nat → List (List V) → (Int → Option β) → Option β
def F_cmp_Or_int (β : Type) (L : Nat) (p0 : List (List V)) (k_fin : Int → Option β) : Option β := R_cmp_Or_int L p0 k_fin
def d_cmp_Or_int (F_cmp_Or_int : T_cmp_Or_int) (L : Nat) (β : Type) (args : List V) (bor : Bor) (k : V → Bor → Option β) : Option β := match args, bor with
  | [a0], [] => aL 1 a0 fun p0 => F_cmp_Or_int β L p0 (fun p0 => k (V.sc (.int .i64 p0)) [])
  | _, _ => none
theorem d_cmp_Or_int_ok (L : Nat) (β : Type) (args : List V) (bor : Bor) (k : V → Bor → Option β) (r : β) (h : d_cmp_Or_int F_cmp_Or_int L β args bor k = some r) : funC sh_cmp_Or_int (cb_cmp_Or_int L) L cf_cmp_Or_int args bor k = some r := by
  unfold d_cmp_Or_int at h
  split at h
  · have q := aL_inv h; clear h; obtain ⟨p0, rfl, h⟩ := q
    exact (R_cmp_Or_int_ok L p0 k).trans h
  · cases h
/-! tx_Compare : 135 -/
def cf_tx_Compare : CF := ⟨17, [.tmp 4],
 (.seq (.reg [⟨(some 2), false, none, .box true (.tmp 0)⟩,
   ⟨(some 3), false, none, .box true (.tmp 1)⟩,
   ⟨(some 4), false, none, .move (.const (.sc (.int .i64 0))) false⟩])
 (.seq (.dreg [2, 3] [(⟨(some 5), false, none, .fieldAddr 0 (.tmp 2)⟩, false),
   (⟨(some 6), false, none, .sliceA 32 1 (.tmp 5) none none none⟩, true),
   (⟨(some 7), false, none, .fieldAddr 0 (.tmp 3)⟩, false),
   (⟨(some 8), false, none, .sliceA 32 1 (.tmp 7) none none none⟩, true),
   (⟨(some 9), false, none, .call 155 [((.tmp 6), false), ((.tmp 8), false)]⟩, true),
   (⟨(some 10), false, none, .fieldAddr 32 (.tmp 2)⟩, false),
   (⟨(some 11), false, none, .load false 1 (.tmp 10) false⟩, true),
   (⟨(some 12), false, none, .fieldAddr 32 (.tmp 3)⟩, false),
   (⟨(some 13), false, none, .load false 1 (.tmp 12) false⟩, true),
   (⟨(some 14), false, none, .call 156 [((.tmp 11), false), ((.tmp 13), false)]⟩, false),
   (⟨(some 15), false, none, .buildSlice 1 2 [(.sc (.int .i64 0))] [(0, 1, (.tmp 9)), (1, 1, (.tmp 14))]⟩, false),
   (⟨(some 16), false, none, .call 154 [((.tmp 15), false)]⟩, false),
   (⟨(some 4), false, none, .move (.tmp 16) false⟩, false)])
 .ret))⟩
def hint_tx_Compare : Hint := ⟨[], [], [none], [(1, [2, 3])]⟩
def sh_tx_Compare : Nat → Sh := shOf [(11, (.int .u32)), (13, (.int .u32))]
def cb_tx_Compare (F_bytes_Compare : T_bytes_Compare) (F_cmp_Compare_uint32 : T_cmp_Compare_uint32) (F_cmp_Or_int : T_cmp_Or_int) (L : Nat) : CBC := (addC 154 (d_cmp_Or_int F_cmp_Or_int L) (addC 156 (d_cmp_Compare_uint32 F_cmp_Compare_uint32 L) (addC 155 (d_bytes_Compare F_bytes_Compare L) noC)))
def R_tx_Compare {β : Type} (F_bytes_Compare : T_bytes_Compare) (F_cmp_Compare_uint32 : T_cmp_Compare_uint32) (F_cmp_Or_int : T_cmp_Or_int) (L : Nat) (p0 : List V) (p1 : List V) (k_fin : Int → Option β) : Option β :=
 chk (0 + 32 * 1 ≤ (List.length p0)) (
 chk (0 + 32 * 1 ≤ (List.length p1)) (
 F_bytes_Compare β L (chunks 1 32 p0) (chunks 1 32 p1) (fun v0 =>
 cI .u32 p0 32 fun v1 =>
 cI .u32 p1 32 fun v2 =>
 F_cmp_Compare_uint32 β L v1 v2 (fun v3 =>
 F_cmp_Or_int β L (chunks 1 2 [(V.sc (.int .i64 v0)), (V.sc (.int .i64 v3))]) (fun v4 =>
 k_fin v4)))))
theorem R_tx_Compare_ok {β : Type} (F_bytes_Compare : T_bytes_Compare) (F_cmp_Compare_uint32 : T_cmp_Compare_uint32) (F_cmp_Or_int : T_cmp_Or_int) (L : Nat) (p0 : List V) (p1 : List V) (k : V → Bor → Option β) : funC sh_tx_Compare (cb_tx_Compare F_bytes_Compare F_cmp_Compare_uint32 F_cmp_Or_int L) L cf_tx_Compare [(V.agg p0), (V.agg p1)] [] k = R_tx_Compare F_bytes_Compare F_cmp_Compare_uint32 F_cmp_Or_int L p0 p1 (fun p0 => k (V.sc (.int .i64 p0)) []) := by kernel_rfl
abbrev T_tx_Compare := ∀ (β : Type), Nat → List V → List V → (Int → Option β) → Option β
def F_tx_Compare (β : Type) (L : Nat) (p0 : List V) (p1 : List V) (k_fin : Int → Option β) : Option β := R_tx_Compare F_bytes_Compare F_cmp_Compare_uint32 F_cmp_Or_int L p0 p1 k_fin
def d_tx_Compare (F_tx_Compare : T_tx_Compare) (L : Nat) (β : Type) (args : List V) (bor : Bor) (k : V → Bor → Option β) : Option β := match args, bor with
  | [a0, a1], [] => aG a0 fun p0 => aG a1 fun p1 => F_tx_Compare β L p0 p1 (fun p0 => k (V.sc (.int .i64 p0)) [])
  | _, _ => none
theorem d_tx_Compare_ok (L : Nat) (β : Type) (args : List V) (bor : Bor) (k : V → Bor → Option β) (r : β) (h : d_tx_Compare F_tx_Compare L β args bor k = some r) : funC sh_tx_Compare (cb_tx_Compare F_bytes_Compare F_cmp_Compare_uint32 F_cmp_Or_int L) L cf_tx_Compare args bor k = some r := by
  unfold d_tx_Compare at h
  split at h
  · have q := aG_inv h; clear h; obtain ⟨p0, rfl, h⟩ := q
    have q := aG_inv h; clear h; obtain ⟨p1, rfl, h⟩ := q
    exact (R_tx_Compare_ok F_bytes_Compare F_cmp_Compare_uint32 F_cmp_Or_int L p0 p1 k).trans h
  · cases h
/-! ref09_Compare : 136 -/
def cbabaa_ref09_Compare : CC := (.seq (.reg [⟨(some 7), false, none, .bin .lss (.tmp 6) (.const (.sc (.int .i64 32)))⟩])
 (.seq (.cond (.tmp 7)
 .skip
 (.seq (.mask (bl 12 40) (bl 1099511627727 40))
 (.exit 0)))
 (.seq (.block 1 (.seq (.reg [⟨(some 8), false, none, .move (.tmp 6) false⟩,
   ⟨(some 5), false, none, .move (.tmp 8) false⟩])
 (.seq (.seq (.dreg [] [(⟨(some 9), false, none, .move (.tmp 5) false⟩, false),
   (⟨(some 10), false, none, .fieldAddr 0 (.tmp 2)⟩, false),
   (⟨(some 11), false, none, .indexAddrA 32 1 (.tmp 10) (.tmp 9)⟩, false),
   (⟨(some 12), false, none, .load false 1 (.tmp 11) false⟩, true),
   (⟨(some 13), false, none, .move (.tmp 5) false⟩, false),
   (⟨(some 14), false, none, .fieldAddr 0 (.tmp 3)⟩, false),
   (⟨(some 15), false, none, .indexAddrA 32 1 (.tmp 14) (.tmp 13)⟩, false),
   (⟨(some 16), false, none, .load false 1 (.tmp 15) false⟩, true),
   (⟨(some 17), false, none, .bin .lss (.tmp 12) (.tmp 16)⟩, false)])
 (.cond (.tmp 17)
 (.seq (.reg [⟨(some 4), false, none, .move (.const (.sc (.int .i64 (-1)))) false⟩])
 (.seq (.mask (bl 16 40) (bl 1099511627743 40))
 .ret))
 .skip))
 (.seq (.dreg [] [(⟨(some 18), false, none, .move (.tmp 5) false⟩, false),
   (⟨(some 19), false, none, .fieldAddr 0 (.tmp 2)⟩, false),
   (⟨(some 20), false, none, .indexAddrA 32 1 (.tmp 19) (.tmp 18)⟩, false),
   (⟨(some 21), false, none, .load false 1 (.tmp 20) false⟩, true),
   (⟨(some 22), false, none, .move (.tmp 5) false⟩, false),
   (⟨(some 23), false, none, .fieldAddr 0 (.tmp 3)⟩, false),
   (⟨(some 24), false, none, .indexAddrA 32 1 (.tmp 23) (.tmp 22)⟩, false),
   (⟨(some 25), false, none, .load false 1 (.tmp 24) false⟩, true),
   (⟨(some 26), false, none, .bin .gtr (.tmp 21) (.tmp 25)⟩, false)])
 (.cond (.tmp 26)
 (.seq (.reg [⟨(some 4), false, none, .move (.const (.sc (.int .i64 1))) false⟩])
 (.seq (.mask (bl 16 40) (bl 1099511627743 40))
 .ret))
 .skip)))))
 (.reg [⟨(some 27), false, none, .bin .add (.tmp 6) (.const (.sc (.int .i64 1)))⟩,
   ⟨(some 6), false, none, .move (.tmp 27) false⟩]))))
def cbb_ref09_Compare : CC := (.seq (.block 2 (.seq (.reg [⟨(some 29), false, none, .fieldAddr 32 (.tmp 2)⟩,
   ⟨(some 30), false, none, .load false 1 (.tmp 29) false⟩,
   ⟨(some 31), false, none, .fieldAddr 32 (.tmp 3)⟩,
   ⟨(some 32), false, none, .load false 1 (.tmp 31) false⟩,
   ⟨(some 33), false, none, .bin .lss (.tmp 30) (.tmp 32)⟩,
   ⟨(some 28), false, none, .move (.tmp 33) false⟩])
 (.cond (.tmp 28)
 (.seq (.reg [⟨(some 4), false, none, .move (.const (.sc (.int .i64 (-1)))) false⟩])
 .ret)
 (.seq (.reg [⟨(some 35), false, none, .fieldAddr 32 (.tmp 2)⟩,
   ⟨(some 36), false, none, .load false 1 (.tmp 35) false⟩,
   ⟨(some 37), false, none, .fieldAddr 32 (.tmp 3)⟩,
   ⟨(some 38), false, none, .load false 1 (.tmp 37) false⟩,
   ⟨(some 39), false, none, .bin .gtr (.tmp 36) (.tmp 38)⟩,
   ⟨(some 34), false, none, .move (.tmp 39) false⟩])
 (.cond (.tmp 34)
 (.seq (.reg [⟨(some 4), false, none, .move (.const (.sc (.int .i64 1))) false⟩])
 .ret)
 .skip)))))
 (.seq (.reg [⟨(some 4), false, none, .move (.const (.sc (.int .i64 0))) false⟩])
 .ret))
def cf_ref09_Compare : CF := ⟨40, [.tmp 4],
 (.seq (.reg [⟨(some 2), false, none, .box true (.tmp 0)⟩,
   ⟨(some 3), false, none, .box true (.tmp 1)⟩,
   ⟨(some 4), false, none, .move (.const (.sc (.int .i64 0))) false⟩])
 (.seq (.seq (.reg [⟨(some 6), false, none, .move (.const (.sc (.int .i64 0))) false⟩])
 (.block 0 (.loop (bl 76 40) (bl 1099511627727 40)
 cbabaa_ref09_Compare)))
 cbb_ref09_Compare))⟩
def hint_ref09_Compare : Hint := ⟨[], [], [none, some ((bl 76 40), (bl 1099511627727 40)), none, some ((bl 12 40), (bl 1099511627727 40)), none, none, some ((bl 16 40), (bl 1099511627743 40)), none, some ((bl 16 40), (bl 1099511627743 40)), none, none, none, none, none, none], []⟩
def sh_ref09_Compare : Nat → Sh := shOf [(12, (.int .u8)), (16, (.int .u8)), (21, (.int .u8)), (25, (.int .u8)), (30, (.int .u32)), (32, (.int .u32)), (36, (.int .u32)), (38, (.int .u32))]
def cb_ref09_Compare (L : Nat) : CBC := noC
def mbaba_ref09_Compare : St → St := mask (bl 76 40) (bl 1099511627727 40)
def st_hbaba_ref09_Compare (p6 : Int) (b2 : List V) (b3 : List V) : St := ⟨[.junk, .junk, (V.ptr 2 0), (V.ptr 3 0), .junk, .junk, (V.sc (.int .i64 p6)), .junk, .junk, .junk, .junk, .junk, .junk, .junk, .junk, .junk, .junk, .junk, .junk, .junk, .junk, .junk, .junk, .junk, .junk, .junk, .junk, .junk, .junk, .junk, .junk, .junk, .junk, .junk, .junk, .junk, .junk, .junk, .junk, .junk], [.gone, .gone, (.live true b2), (.live true b3), .gone, .gone, .gone, .gone, .gone, .gone, .gone, .gone, .gone, .gone, .gone, .gone, .gone, .gone, .gone, .gone, .gone, .gone, .gone, .gone, .gone, .gone, .gone, .gone, .gone, .gone, .gone, .gone, .gone, .gone, .gone, .gone, .gone, .gone, .gone, .gone]⟩
def st_ret_ref09_Compare (p4 : Int) (b2 : List V) (b3 : List V) : St := ⟨[.junk, .junk, .junk, .junk, (V.sc (.int .i64 p4)), .junk, .junk, .junk, .junk, .junk, .junk, .junk, .junk, .junk, .junk, .junk, .junk, .junk, .junk, .junk, .junk, .junk, .junk, .junk, .junk, .junk, .junk, .junk, .junk, .junk, .junk, .junk, .junk, .junk, .junk, .junk, .junk, .junk, .junk, .junk], [.gone, .gone, (.live true b2), (.live true b3), .gone, .gone, .gone, .gone, .gone, .gone, .gone, .gone, .gone, .gone, .gone, .gone, .gone, .gone, .gone, .gone, .gone, .gone, .gone, .gone, .gone, .gone, .gone, .gone, .gone, .gone, .gone, .gone, .gone, .gone, .gone, .gone, .gone, .gone, .gone, .gone]⟩
def st_x0_ref09_Compare (b2 : List V) (b3 : List V) : St := ⟨[.junk, .junk, (V.ptr 2 0), (V.ptr 3 0), .junk, .junk, .junk, .junk, .junk, .junk, .junk, .junk, .junk, .junk, .junk, .junk, .junk, .junk, .junk, .junk, .junk, .junk, .junk, .junk, .junk, .junk, .junk, .junk, .junk, .junk, .junk, .junk, .junk, .junk, .junk, .junk, .junk, .junk, .junk, .junk], [.gone, .gone, (.live true b2), (.live true b3), .gone, .gone, .gone, .gone, .gone, .gone, .gone, .gone, .gone, .gone, .gone, .gone, .gone, .gone, .gone, .gone, .gone, .gone, .gone, .gone, .gone, .gone, .gone, .gone, .gone, .gone, .gone, .gone, .gone, .gone, .gone, .gone, .gone, .gone, .gone, .gone]⟩
def e_ref09_Compare {β : Type} (L : Nat) (p0 : List V) (p1 : List V) (k_hbaba : Int → List V → List V → Option β) : Option β :=
 k_hbaba (0 : Int) p0 p1
theorem e_ref09_Compare_ok {β : Type} (L : Nat) (p0 : List V) (p1 : List V) (k : V → Bor → Option β) : funC sh_ref09_Compare (cb_ref09_Compare L) L cf_ref09_Compare [(V.agg p0), (V.agg p1)] [] k = e_ref09_Compare L p0 p1 (fun p6 b2 b3 => loopM (runC sh_ref09_Compare (cb_ref09_Compare L) 0 L cbabaa_ref09_Compare) mbaba_ref09_Compare L (st_hbaba_ref09_Compare p6 b2 b3) (blockK 0 (seqK (runC sh_ref09_Compare (cb_ref09_Compare L) 0 L cbb_ref09_Compare) (finK 0 (CF.res cf_ref09_Compare) k)))) := by kernel_rfl
def bbaba_ref09_Compare {β : Type} (L : Nat) (p6 : Int) (b2 : List V) (b3 : List V) (k_ret : Int → List V → List V → Option β) (k_hbaba : Int → List V → List V → Option β) (k_x0 : List V → List V → Option β) : Option β :=
 ifb (decide (p6 < (32 : Int))) (
 chk (0 ≤ p6 ∧ p6 < ((32 : Nat) : Int)) (
 cI .u8 b2 (0 + ((Int.toNat p6) * 1)) fun v0 =>
 chk (0 ≤ p6 ∧ p6 < ((32 : Nat) : Int)) (
 cI .u8 b3 (0 + ((Int.toNat p6) * 1)) fun v1 =>
 ifb (decide (v0 < v1)) (
 k_ret (-1 : Int) b2 b3) (
 chk (0 ≤ p6 ∧ p6 < ((32 : Nat) : Int)) (
 cI .u8 b2 (0 + ((Int.toNat p6) * 1)) fun v2 =>
 chk (0 ≤ p6 ∧ p6 < ((32 : Nat) : Int)) (
 cI .u8 b3 (0 + ((Int.toNat p6) * 1)) fun v3 =>
 ifb (decide (v2 > v3)) (
 k_ret (1 : Int) b2 b3) (
 lt (IntKind.wrap .i64 ((p6 : Int) + (1 : Int))) fun x4 =>
 k_hbaba x4 b2 b3))))))) (
 k_x0 b2 b3)
theorem bbaba_ref09_Compare_ok {β : Type} (L : Nat) (p6 : Int) (b2 : List V) (b3 : List V) (X : St → Option β) (K : KT β) : runC sh_ref09_Compare (cb_ref09_Compare L) 0 L cbabaa_ref09_Compare (st_hbaba_ref09_Compare p6 b2 b3) (loopK mbaba_ref09_Compare X K) = bbaba_ref09_Compare L p6 b2 b3 (fun p4 b2 b3 => K .ret (st_ret_ref09_Compare p4 b2 b3)) (fun p6 b2 b3 => X (st_hbaba_ref09_Compare p6 b2 b3)) (fun b2 b3 => K (.exit 0) (st_x0_ref09_Compare b2 b3)) := by kernel_rfl
def rbabaret_ref09_Compare {β : Type} (L : Nat) (p4 : Int) (b2 : List V) (b3 : List V) (k_fin : Int → Option β) : Option β :=
 k_fin p4
theorem rbabaret_ref09_Compare_ok {β : Type} (L : Nat) (p4 : Int) (b2 : List V) (b3 : List V) (k : V → Bor → Option β) : (blockK 0 (seqK (runC sh_ref09_Compare (cb_ref09_Compare L) 0 L cbb_ref09_Compare) (finK 0 (CF.res cf_ref09_Compare) k))) .ret (st_ret_ref09_Compare p4 b2 b3) = rbabaret_ref09_Compare L p4 b2 b3 (fun p0 => k (V.sc (.int .i64 p0)) []) := by kernel_rfl
def rbabax0_ref09_Compare {β : Type} (L : Nat) (b2 : List V) (b3 : List V) (k_fin : Int → Option β) : Option β :=
 cI .u32 b2 32 fun v5 =>
 cI .u32 b3 32 fun v6 =>
 ifb (decide (v5 < v6)) (
 k_fin (-1 : Int)) (
 cI .u32 b2 32 fun v7 =>
 cI .u32 b3 32 fun v8 =>
 ifb (decide (v7 > v8)) (
 k_fin (1 : Int)) (
 k_fin (0 : Int)))
theorem rbabax0_ref09_Compare_ok {β : Type} (L : Nat) (b2 : List V) (b3 : List V) (k : V → Bor → Option β) : (blockK 0 (seqK (runC sh_ref09_Compare (cb_ref09_Compare L) 0 L cbb_ref09_Compare) (finK 0 (CF.res cf_ref09_Compare) k))) (.exit 0) (st_x0_ref09_Compare b2 b3) = rbabax0_ref09_Compare L b2 b3 (fun p0 => k (V.sc (.int .i64 p0)) []) := by kernel_rfl
def lbaba_ref09_Compare {β : Type} (L : Nat) (k_ret : Int → List V → List V → Option β) (k_x0 : List V → List V → Option β) : Nat → Int → List V → List V → Option β
  | 0, _, _, _ => none
  | n + 1, p6, b2, b3 => bbaba_ref09_Compare L p6 b2 b3 k_ret (fun p6 b2 b3 => lbaba_ref09_Compare L k_ret k_x0 n p6 b2 b3) k_x0
theorem lbaba_ref09_Compare_ok {β : Type} (L : Nat) (K : KT β) : ∀ (n : Nat) (p6 : Int) (b2 : List V) (b3 : List V), loopM (runC sh_ref09_Compare (cb_ref09_Compare L) 0 L cbabaa_ref09_Compare) mbaba_ref09_Compare n (st_hbaba_ref09_Compare p6 b2 b3) K = lbaba_ref09_Compare L (fun p4 b2 b3 => K .ret (st_ret_ref09_Compare p4 b2 b3)) (fun b2 b3 => K (.exit 0) (st_x0_ref09_Compare b2 b3)) n p6 b2 b3 := by
  intro n
  induction n with
  | zero => intros; rfl
  | succ n ih =>
    intro p6 b2 b3
    refine (bbaba_ref09_Compare_ok L p6 b2 b3 (fun σ => loopM (runC sh_ref09_Compare (cb_ref09_Compare L) 0 L cbabaa_ref09_Compare) mbaba_ref09_Compare n σ K) K).trans ?_
    simp only [ih]
    rfl
def R_ref09_Compare {β : Type} (L : Nat) (p0 : List V) (p1 : List V) (k_fin : Int → Option β) : Option β :=
 e_ref09_Compare L p0 p1 (fun p6 b2 b3 => lbaba_ref09_Compare L (fun p4 b2 b3 => rbabaret_ref09_Compare L p4 b2 b3 k_fin) (fun b2 b3 => rbabax0_ref09_Compare L b2 b3 k_fin) L p6 b2 b3)
theorem R_ref09_Compare_ok {β : Type} (L : Nat) (p0 : List V) (p1 : List V) (k : V → Bor → Option β) : funC sh_ref09_Compare (cb_ref09_Compare L) L cf_ref09_Compare [(V.agg p0), (V.agg p1)] [] k = R_ref09_Compare L p0 p1 (fun p0 => k (V.sc (.int .i64 p0)) []) := by
  refine (e_ref09_Compare_ok L p0 p1 k).trans ?_
  unfold R_ref09_Compare
  simp only [lbaba_ref09_Compare_ok, rbabaret_ref09_Compare_ok, rbabax0_ref09_Compare_ok]
abbrev T_ref09_Compare := ∀ (β : Type), Nat → List V → List V → (Int → Option β) → Option β
def F_ref09_Compare (β : Type) (L : Nat) (p0 : List V) (p1 : List V) (k_fin : Int → Option β) : Option β := R_ref09_Compare L p0 p1 k_fin
def d_ref09_Compare (F_ref09_Compare : T_ref09_Compare) (L : Nat) (β : Type) (args : List V) (bor : Bor) (k : V → Bor → Option β) : Option β := match args, bor with
  | [a0, a1], [] => aG a0 fun p0 => aG a1 fun p1 => F_ref09_Compare β L p0 p1 (fun p0 => k (V.sc (.int .i64 p0)) [])
  | _, _ => none
theorem d_ref09_Compare_ok (L : Nat) (β : Type) (args : List V) (bor : Bor) (k : V → Bor → Option β) (r : β) (h : d_ref09_Compare F_ref09_Compare L β args bor k = some r) : funC sh_ref09_Compare (cb_ref09_Compare L) L cf_ref09_Compare args bor k = some r := by
  unfold d_ref09_Compare at h
  split at h
  · have q := aG_inv h; clear h; obtain ⟨p0, rfl, h⟩ := q
    have q := aG_inv h; clear h; obtain ⟨p1, rfl, h⟩ := q
    exact (R_ref09_Compare_ok L p0 p1 k).trans h
  · cases h

end Go.Proofs.Ytoeobffjdbdpgaa
