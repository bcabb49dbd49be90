/- The functions of this seat, as they compute on plain values. Printed by lift2.py. -/
import Derived.Test.YtoeobffjdbdpgaaFtx1
namespace Go.Proofs.Ytoeobffjdbdpgaa
set_option maxRecDepth 100000
set_option linter.unusedVariables false
/-! tx_Check : 131 -/
def cbbbbbabaa_tx_Check : CC := (.seq (.reg [⟨(some 28), false, none, .bin .lss (.tmp 27) (.tmp 26)⟩])
 (.seq (.cond (.tmp 28)
 .skip
 (.seq (.mask (bl 10 47) (bl 140737488355291 47))
 (.exit 0)))
 (.seq (.block 1 (.seq (.reg [⟨(some 29), false, none, .indexAddrS 35 (.tmp 25) (.tmp 27)⟩,
   ⟨(some 30), false, none, .load true 35 (.tmp 29) false⟩,
   ⟨(some 5), false, none, .alloc false [(.sc (.int .u8 0)), (.sc (.int .u8 0)), (.sc (.int .u8 0)), (.sc (.int .u8 0)), (.sc (.int .u8 0)), (.sc (.int .u8 0)), (.sc (.int .u8 0)), (.sc (.int .u8 0)), (.sc (.int .u8 0)), (.sc (.int .u8 0)), (.sc (.int .u8 0)), (.sc (.int .u8 0)), (.sc (.int .u8 0)), (.sc (.int .u8 0)), (.sc (.int .u8 0)), (.sc (.int .u8 0)), (.sc (.int .u8 0)), (.sc (.int .u8 0)), (.sc (.int .u8 0)), (.sc (.int .u8 0)), (.sc (.int .u8 0)), (.sc (.int .u8 0)), (.sc (.int .u8 0)), (.sc (.int .u8 0)), (.sc (.int .u8 0)), (.sc (.int .u8 0)), (.sc (.int .u8 0)), (.sc (.int .u8 0)), (.sc (.int .u8 0)), (.sc (.int .u8 0)), (.sc (.int .u8 0)), (.sc (.int .u8 0)), (.sc (.int .u32 0)), (.sc (.int .u32 0)), (.gs 1 [])]⟩,
   ⟨none, false, none, .store 35 (.tmp 5) (.tmp 30)⟩])
 (.seq (.seq (.reg [⟨(some 31), false, none, .move (.tmp 3) false⟩,
   ⟨(some 32), false, none, .fieldAddr 0 (.tmp 5)⟩,
   ⟨(some 33), false, none, .load true 33 (.tmp 32) false⟩,
   ⟨(some 34), false, none, .mlook 35 false (.sc (.bool false)) (.tmp 31) (.tmp 33)⟩])
 (.cond (.tmp 34)
 (.seq (.reg [⟨(some 2), false, none, .move (.const (.sc (.int .i64 91))) false⟩])
 (.seq (.mask (bl 4 47) (bl 140737488355295 47))
 .ret))
 .skip))
 (.reg [⟨(some 35), false, none, .move (.tmp 3) false⟩,
   ⟨(some 36), false, none, .fieldAddr 0 (.tmp 5)⟩,
   ⟨(some 37), false, none, .load true 33 (.tmp 36) false⟩,
   ⟨none, false, none, .mput 35 (.tmp 35) (.tmp 37) (.const (.sc (.bool true)))⟩]))))
 (.reg [⟨(some 38), false, none, .bin .add (.tmp 27) (.const (.sc (.int .i64 1)))⟩,
   ⟨(some 27), false, none, .move (.tmp 38) false⟩]))))
def cbbbbbb_tx_Check : CC := (.seq (.seq (.reg [⟨(some 39), false, none, .move (.tmp 3) false⟩,
   ⟨(some 40), false, none, .build [(.sc (.int .u8 0)), (.sc (.int .u8 0)), (.sc (.int .u8 0)), (.sc (.int .u8 0)), (.sc (.int .u8 0)), (.sc (.int .u8 0)), (.sc (.int .u8 0)), (.sc (.int .u8 0)), (.sc (.int .u8 0)), (.sc (.int .u8 0)), (.sc (.int .u8 0)), (.sc (.int .u8 0)), (.sc (.int .u8 0)), (.sc (.int .u8 0)), (.sc (.int .u8 0)), (.sc (.int .u8 0)), (.sc (.int .u8 0)), (.sc (.int .u8 0)), (.sc (.int .u8 0)), (.sc (.int .u8 0)), (.sc (.int .u8 0)), (.sc (.int .u8 0)), (.sc (.int .u8 0)), (.sc (.int .u8 0)), (.sc (.int .u8 0)), (.sc (.int .u8 0)), (.sc (.int .u8 0)), (.sc (.int .u8 0)), (.sc (.int .u8 0)), (.sc (.int .u8 0)), (.sc (.int .u8 0)), (.sc (.int .u8 0)), (.sc (.int .u32 0))] [(32, 1, (.const (.sc (.int .u32 4294967295))))]⟩,
   ⟨(some 41), false, none, .mlook 35 false (.sc (.bool false)) (.tmp 39) (.tmp 40)⟩,
   ⟨(some 42), false, none, .move (.tmp 41) false⟩,
   ⟨(some 43), false, (some (42, true)), .load true 4 (.tmp 1) false⟩,
   ⟨(some 44), false, (some (42, true)), .call 151 [((.tmp 43), true)]⟩,
   ⟨(some 45), false, (some (42, true)), .un .not (.tmp 44)⟩,
   ⟨(some 46), false, none, .pick (.tmp 42) (.tmp 45) (.const (.sc (.bool false)))⟩])
 (.cond (.tmp 46)
 (.seq (.reg [⟨(some 2), false, none, .move (.const (.sc (.int .i64 92))) false⟩])
 .ret)
 .skip))
 (.seq (.reg [⟨(some 2), false, none, .move (.const (.sc (.int .i64 0))) false⟩])
 .ret))
def cf_tx_Check : CF := ⟨47, [.tmp 2],
 (.seq (.reg [⟨(some 1), false, none, .box false (.tmp 0)⟩,
   ⟨(some 2), false, none, .move (.const (.sc (.int .i64 0))) false⟩])
 (.seq (.seq (.reg [⟨(some 6), false, none, .load true 4 (.tmp 1) false⟩,
   ⟨(some 7), false, none, .call 146 [((.tmp 6), true)]⟩,
   ⟨(some 8), false, none, .un .not (.tmp 7)⟩])
 (.cond (.tmp 8)
 (.seq (.reg [⟨(some 2), false, none, .move (.const (.sc (.int .i64 4))) false⟩])
 .ret)
 .skip))
 (.seq (.seq (.reg [⟨(some 9), false, none, .fieldAddr 1 (.tmp 1)⟩,
   ⟨(some 10), false, none, .load false 1 (.tmp 9) false⟩,
   ⟨(some 11), false, none, .lenS (.tmp 10)⟩,
   ⟨(some 12), false, none, .bin .eql (.tmp 11) (.const (.sc (.int .i64 0)))⟩,
   ⟨(some 13), false, none, .move (.tmp 12) false⟩,
   ⟨(some 14), false, (some (13, false)), .fieldAddr 2 (.tmp 1)⟩,
   ⟨(some 15), false, (some (13, false)), .load false 1 (.tmp 14) false⟩,
   ⟨(some 16), false, (some (13, false)), .lenS (.tmp 15)⟩,
   ⟨(some 17), false, (some (13, false)), .bin .eql (.tmp 16) (.const (.sc (.int .i64 0)))⟩,
   ⟨(some 18), false, none, .pick (.tmp 13) (.const (.sc (.bool true))) (.tmp 17)⟩])
 (.cond (.tmp 18)
 (.seq (.reg [⟨(some 2), false, none, .move (.const (.sc (.int .i64 93))) false⟩])
 .ret)
 .skip))
 (.seq (.seq (.reg [⟨(some 19), false, none, .fieldAddr 2 (.tmp 1)⟩,
   ⟨(some 20), false, none, .load false 1 (.tmp 19) false⟩,
   ⟨(some 21), false, none, .call 150 [((.tmp 20), false)]⟩,
   ⟨(some 22), false, none, .un .not (.tmp 21)⟩])
 (.cond (.tmp 22)
 (.seq (.reg [⟨(some 2), false, none, .move (.const (.sc (.int .i64 90))) false⟩])
 .ret)
 .skip))
 (.seq (.reg [⟨(some 23), false, none, .makeMap⟩,
   ⟨(some 3), false, none, .move (.tmp 23) false⟩])
 (.seq (.seq (.reg [⟨(some 24), false, none, .fieldAddr 1 (.tmp 1)⟩,
   ⟨(some 25), false, none, .load false 1 (.tmp 24) false⟩,
   ⟨(some 26), false, none, .lenS (.tmp 25)⟩,
   ⟨(some 27), false, none, .move (.const (.sc (.int .i64 0))) false⟩])
 (.block 0 (.loop (bl 234881034 47) (bl 140737488355291 47)
 cbbbbbabaa_tx_Check)))
 cbbbbbb_tx_Check))))))⟩
def hint_tx_Check : Hint := ⟨[], [], [none, none, none, none, none, none, none, some ((bl 234881034 47), (bl 140737488355291 47)), none, some ((bl 10 47), (bl 140737488355291 47)), none, none, some ((bl 4 47), (bl 140737488355295 47)), none, none, none], []⟩
def sh_tx_Check : Nat → Sh := shOf [(1, (.row [(.int .u32), (.sl 35), (.sl 2), (.int .u32)])), (30, (.row [(.int .u8), (.int .u8), (.int .u8), (.int .u8), (.int .u8), (.int .u8), (.int .u8), (.int .u8), (.int .u8), (.int .u8), (.int .u8), (.int .u8), (.int .u8), (.int .u8), (.int .u8), (.int .u8), (.int .u8), (.int .u8), (.int .u8), (.int .u8), (.int .u8), (.int .u8), (.int .u8), (.int .u8), (.int .u8), (.int .u8), (.int .u8), (.int .u8), (.int .u8), (.int .u8), (.int .u8), (.int .u8), (.int .u32), (.int .u32), (.sl 1)])), (34, .bool), (41, .bool)]
def cb_tx_Check (F_tx_fits : T_tx_fits) (F_tx_money : T_tx_money) (F_tx_Coinbase : T_tx_Coinbase) (L : Nat) : CBC := (addC 151 (d_tx_Coinbase F_tx_Coinbase L) (addC 150 (d_tx_money F_tx_money L) (addC 146 (d_tx_fits F_tx_fits L) noC)))
def mbbbbbaba_tx_Check : St → St := mask (bl 234881034 47) (bl 140737488355291 47)
def st_hbbbbbaba_tx_Check (p25 : List (List V)) (p26 : Int) (p27 : Int) (b1_0 : Int) (b1_1 : List (List V)) (b1_2 : List (List V)) (b1_3 : Int) (b23 : List (V × V)) : St := ⟨[.junk, (V.ptr 1 0), .junk, (V.mp 23), .junk, .junk, .junk, .junk, .junk, .junk, .junk, .junk, .junk, .junk, .junk, .junk, .junk, .junk, .junk, .junk, .junk, .junk, .junk, .junk, .junk, (V.sl 35 p25), (V.sc (.int .i64 p26)), (V.sc (.int .i64 p27)), .junk, .junk, .junk, .junk, .junk, .junk, .junk, .junk, .junk, .junk, .junk, .junk, .junk, .junk, .junk, .junk, .junk, .junk, .junk], [.gone, (.live false [(V.sc (.int .u32 b1_0)), (V.sl 35 b1_1), (V.sl 2 b1_2), (V.sc (.int .u32 b1_3))]), .gone, .gone, .gone, .gone, .gone, .gone, .gone, .gone, .gone, .gone, .gone, .gone, .gone, .gone, .gone, .gone, .gone, .gone, .gone, .gone, .gone, (.mp b23), .gone, .gone, .gone, .gone, .gone, .gone, .gone, .gone, .gone, .gone, .gone, .gone, .gone, .gone, .gone, .gone, .gone, .gone, .gone, .gone, .gone, .gone, .gone]⟩
def st_ret_tx_Check (p2 : Int) (b1_0 : Int) (b1_1 : List (List V)) (b1_2 : List (List V)) (b1_3 : Int) (b23 : List (V × V)) : St := ⟨[.junk, .junk, (V.sc (.int .i64 p2)), .junk, .junk, .junk, .junk, .junk, .junk, .junk, .junk, .junk, .junk, .junk, .junk, .junk, .junk, .junk, .junk, .junk, .junk, .junk, .junk, .junk, .junk, .junk, .junk, .junk, .junk, .junk, .junk, .junk, .junk, .junk, .junk, .junk, .junk, .junk, .junk, .junk, .junk, .junk, .junk, .junk, .junk, .junk, .junk], [.gone, (.live false [(V.sc (.int .u32 b1_0)), (V.sl 35 b1_1), (V.sl 2 b1_2), (V.sc (.int .u32 b1_3))]), .gone, .gone, .gone, .gone, .gone, .gone, .gone, .gone, .gone, .gone, .gone, .gone, .gone, .gone, .gone, .gone, .gone, .gone, .gone, .gone, .gone, (.mp b23), .gone, .gone, .gone, .gone, .gone, .gone, .gone, .gone, .gone, .gone, .gone, .gone, .gone, .gone, .gone, .gone, .gone, .gone, .gone, .gone, .gone, .gone, .gone]⟩
def st_x0_tx_Check (b1_0 : Int) (b1_1 : List (List V)) (b1_2 : List (List V)) (b1_3 : Int) (b23 : List (V × V)) : St := ⟨[.junk, (V.ptr 1 0), .junk, (V.mp 23), .junk, .junk, .junk, .junk, .junk, .junk, .junk, .junk, .junk, .junk, .junk, .junk, .junk, .junk, .junk, .junk, .junk, .junk, .junk, .junk, .junk, .junk, .junk, .junk, .junk, .junk, .junk, .junk, .junk, .junk, .junk, .junk, .junk, .junk, .junk, .junk, .junk, .junk, .junk, .junk, .junk, .junk, .junk], [.gone, (.live false [(V.sc (.int .u32 b1_0)), (V.sl 35 b1_1), (V.sl 2 b1_2), (V.sc (.int .u32 b1_3))]), .gone, .gone, .gone, .gone, .gone, .gone, .gone, .gone, .gone, .gone, .gone, .gone, .gone, .gone, .gone, .gone, .gone, .gone, .gone, .gone, .gone, (.mp b23), .gone, .gone, .gone, .gone, .gone, .gone, .gone, .gone, .gone, .gone, .gone, .gone, .gone, .gone, .gone, .gone, .gone, .gone, .gone, .gone, .gone, .gone, .gone]⟩
def e_tx_Check {β : Type} (F_tx_fits : T_tx_fits) (F_tx_money : T_tx_money) (F_tx_Coinbase : T_tx_Coinbase) (L : Nat) (p0 : List V) (k_fin : Int → Option β) (k_hbbbbbaba : List (List V) → Int → Int → Int → List (List V) → List (List V) → Int → List (V × V) → Option β) : Option β :=
 chk (List.length p0 = 4) (
 cI .u32 p0 0 fun v0 =>
 cL 35 p0 1 fun v1 =>
 cL 2 p0 2 fun v2 =>
 cI .u32 p0 3 fun v3 =>
 F_tx_fits β L [(V.sc (.int .u32 v0)), (V.sl 35 v1), (V.sl 2 v2), (V.sc (.int .u32 v3))] (fun v4 =>
 ifb (!v4) (
 k_fin (4 : Int)) (
 ifb ((((List.length v1 : Nat) : Int) : Int) == (0 : Int)) (
 k_fin (93 : Int)) (
 ifb ((((List.length v2 : Nat) : Int) : Int) == (0 : Int)) (
 k_fin (93 : Int)) (
 F_tx_money β L v2 (fun v5 =>
 ifb (!v5) (
 k_fin (90 : Int)) (
 k_hbbbbbaba v1 ((List.length v1 : Nat) : Int) (0 : Int) v0 v1 v2 v3 ([] : List (V × V)))))))))
theorem e_tx_Check_ok {β : Type} (F_tx_fits : T_tx_fits) (F_tx_money : T_tx_money) (F_tx_Coinbase : T_tx_Coinbase) (L : Nat) (p0 : List V) (k : V → Bor → Option β) : funC sh_tx_Check (cb_tx_Check F_tx_fits F_tx_money F_tx_Coinbase L) L cf_tx_Check [(V.agg p0)] [] k = e_tx_Check F_tx_fits F_tx_money F_tx_Coinbase L p0 (fun p0 => k (V.sc (.int .i64 p0)) []) (fun p25 p26 p27 b1_0 b1_1 b1_2 b1_3 b23 => loopM (runC sh_tx_Check (cb_tx_Check F_tx_fits F_tx_money F_tx_Coinbase L) 0 L cbbbbbabaa_tx_Check) mbbbbbaba_tx_Check L (st_hbbbbbaba_tx_Check p25 p26 p27 b1_0 b1_1 b1_2 b1_3 b23) (blockK 0 (seqK (runC sh_tx_Check (cb_tx_Check F_tx_fits F_tx_money F_tx_Coinbase L) 0 L cbbbbbb_tx_Check) (finK 0 (CF.res cf_tx_Check) k)))) := by kernel_rfl
def bbbbbbaba_tx_Check {β : Type} (F_tx_fits : T_tx_fits) (F_tx_money : T_tx_money) (F_tx_Coinbase : T_tx_Coinbase) (L : Nat) (p25 : List (List V)) (p26 : Int) (p27 : Int) (b1_0 : Int) (b1_1 : List (List V)) (b1_2 : List (List V)) (b1_3 : Int) (b23 : List (V × V)) (k_ret : Int → Int → List (List V) → List (List V) → Int → List (V × V) → Option β) (k_hbbbbbaba : List (List V) → Int → Int → Int → List (List V) → List (List V) → Int → List (V × V) → Option β) (k_x0 : Int → List (List V) → List (List V) → Int → List (V × V) → Option β) : Option β :=
 ifb (decide (p27 < p26)) (
 idx p25 p27 fun c6 =>
 chk (List.length (List.take 35 c6) = 35) (
 cI .u8 (List.take 35 c6) 0 fun v7 =>
 cI .u8 (List.take 35 c6) 1 fun v8 =>
 cI .u8 (List.take 35 c6) 2 fun v9 =>
 cI .u8 (List.take 35 c6) 3 fun v10 =>
 cI .u8 (List.take 35 c6) 4 fun v11 =>
 cI .u8 (List.take 35 c6) 5 fun v12 =>
 cI .u8 (List.take 35 c6) 6 fun v13 =>
 cI .u8 (List.take 35 c6) 7 fun v14 =>
 cI .u8 (List.take 35 c6) 8 fun v15 =>
 cI .u8 (List.take 35 c6) 9 fun v16 =>
 cI .u8 (List.take 35 c6) 10 fun v17 =>
 cI .u8 (List.take 35 c6) 11 fun v18 =>
 cI .u8 (List.take 35 c6) 12 fun v19 =>
 cI .u8 (List.take 35 c6) 13 fun v20 =>
 cI .u8 (List.take 35 c6) 14 fun v21 =>
 cI .u8 (List.take 35 c6) 15 fun v22 =>
 cI .u8 (List.take 35 c6) 16 fun v23 =>
 cI .u8 (List.take 35 c6) 17 fun v24 =>
 cI .u8 (List.take 35 c6) 18 fun v25 =>
 cI .u8 (List.take 35 c6) 19 fun v26 =>
 cI .u8 (List.take 35 c6) 20 fun v27 =>
 cI .u8 (List.take 35 c6) 21 fun v28 =>
 cI .u8 (List.take 35 c6) 22 fun v29 =>
 cI .u8 (List.take 35 c6) 23 fun v30 =>
 cI .u8 (List.take 35 c6) 24 fun v31 =>
 cI .u8 (List.take 35 c6) 25 fun v32 =>
 cI .u8 (List.take 35 c6) 26 fun v33 =>
 cI .u8 (List.take 35 c6) 27 fun v34 =>
 cI .u8 (List.take 35 c6) 28 fun v35 =>
 cI .u8 (List.take 35 c6) 29 fun v36 =>
 cI .u8 (List.take 35 c6) 30 fun v37 =>
 cI .u8 (List.take 35 c6) 31 fun v38 =>
 cI .u32 (List.take 35 c6) 32 fun v39 =>
 cI .u32 (List.take 35 c6) 33 fun v40 =>
 cL 1 (List.take 35 c6) 34 fun v41 =>
 mAt 35 (V.agg [(V.sc (.int .u8 v7)), (V.sc (.int .u8 v8)), (V.sc (.int .u8 v9)), (V.sc (.int .u8 v10)), (V.sc (.int .u8 v11)), (V.sc (.int .u8 v12)), (V.sc (.int .u8 v13)), (V.sc (.int .u8 v14)), (V.sc (.int .u8 v15)), (V.sc (.int .u8 v16)), (V.sc (.int .u8 v17)), (V.sc (.int .u8 v18)), (V.sc (.int .u8 v19)), (V.sc (.int .u8 v20)), (V.sc (.int .u8 v21)), (V.sc (.int .u8 v22)), (V.sc (.int .u8 v23)), (V.sc (.int .u8 v24)), (V.sc (.int .u8 v25)), (V.sc (.int .u8 v26)), (V.sc (.int .u8 v27)), (V.sc (.int .u8 v28)), (V.sc (.int .u8 v29)), (V.sc (.int .u8 v30)), (V.sc (.int .u8 v31)), (V.sc (.int .u8 v32)), (V.sc (.int .u8 v33)), (V.sc (.int .u8 v34)), (V.sc (.int .u8 v35)), (V.sc (.int .u8 v36)), (V.sc (.int .u8 v37)), (V.sc (.int .u8 v38)), (V.sc (.int .u32 v39))]) b23 fun q42 =>
 aB (Option.getD q42 (V.sc (.bool false))) fun v43 =>
 ifb v43 (
 k_ret (91 : Int) b1_0 b1_1 b1_2 b1_3 b23) (
 mPut 35 (V.agg [(V.sc (.int .u8 v7)), (V.sc (.int .u8 v8)), (V.sc (.int .u8 v9)), (V.sc (.int .u8 v10)), (V.sc (.int .u8 v11)), (V.sc (.int .u8 v12)), (V.sc (.int .u8 v13)), (V.sc (.int .u8 v14)), (V.sc (.int .u8 v15)), (V.sc (.int .u8 v16)), (V.sc (.int .u8 v17)), (V.sc (.int .u8 v18)), (V.sc (.int .u8 v19)), (V.sc (.int .u8 v20)), (V.sc (.int .u8 v21)), (V.sc (.int .u8 v22)), (V.sc (.int .u8 v23)), (V.sc (.int .u8 v24)), (V.sc (.int .u8 v25)), (V.sc (.int .u8 v26)), (V.sc (.int .u8 v27)), (V.sc (.int .u8 v28)), (V.sc (.int .u8 v29)), (V.sc (.int .u8 v30)), (V.sc (.int .u8 v31)), (V.sc (.int .u8 v32)), (V.sc (.int .u8 v33)), (V.sc (.int .u8 v34)), (V.sc (.int .u8 v35)), (V.sc (.int .u8 v36)), (V.sc (.int .u8 v37)), (V.sc (.int .u8 v38)), (V.sc (.int .u32 v39))]) (V.sc (.bool true)) b23 fun m44 =>
 lt (IntKind.wrap .i64 ((p27 : Int) + (1 : Int))) fun x45 =>
 k_hbbbbbaba p25 p26 x45 b1_0 b1_1 b1_2 b1_3 m44))) (
 k_x0 b1_0 b1_1 b1_2 b1_3 b23)
theorem bbbbbbaba_tx_Check_ok {β : Type} (F_tx_fits : T_tx_fits) (F_tx_money : T_tx_money) (F_tx_Coinbase : T_tx_Coinbase) (L : Nat) (p25 : List (List V)) (p26 : Int) (p27 : Int) (b1_0 : Int) (b1_1 : List (List V)) (b1_2 : List (List V)) (b1_3 : Int) (b23 : List (V × V)) (X : St → Option β) (K : KT β) : runC sh_tx_Check (cb_tx_Check F_tx_fits F_tx_money F_tx_Coinbase L) 0 L cbbbbbabaa_tx_Check (st_hbbbbbaba_tx_Check p25 p26 p27 b1_0 b1_1 b1_2 b1_3 b23) (loopK mbbbbbaba_tx_Check X K) = bbbbbbaba_tx_Check F_tx_fits F_tx_money F_tx_Coinbase L p25 p26 p27 b1_0 b1_1 b1_2 b1_3 b23 (fun p2 b1_0 b1_1 b1_2 b1_3 b23 => K .ret (st_ret_tx_Check p2 b1_0 b1_1 b1_2 b1_3 b23)) (fun p25 p26 p27 b1_0 b1_1 b1_2 b1_3 b23 => X (st_hbbbbbaba_tx_Check p25 p26 p27 b1_0 b1_1 b1_2 b1_3 b23)) (fun b1_0 b1_1 b1_2 b1_3 b23 => K (.exit 0) (st_x0_tx_Check b1_0 b1_1 b1_2 b1_3 b23)) := by kernel_rfl
def rbbbbbabaret_tx_Check {β : Type} (F_tx_fits : T_tx_fits) (F_tx_money : T_tx_money) (F_tx_Coinbase : T_tx_Coinbase) (L : Nat) (p2 : Int) (b1_0 : Int) (b1_1 : List (List V)) (b1_2 : List (List V)) (b1_3 : Int) (b23 : List (V × V)) (k_fin : Int → Option β) : Option β :=
 k_fin p2
theorem rbbbbbabaret_tx_Check_ok {β : Type} (F_tx_fits : T_tx_fits) (F_tx_money : T_tx_money) (F_tx_Coinbase : T_tx_Coinbase) (L : Nat) (p2 : Int) (b1_0 : Int) (b1_1 : List (List V)) (b1_2 : List (List V)) (b1_3 : Int) (b23 : List (V × V)) (k : V → Bor → Option β) : (blockK 0 (seqK (runC sh_tx_Check (cb_tx_Check F_tx_fits F_tx_money F_tx_Coinbase L) 0 L cbbbbbb_tx_Check) (finK 0 (CF.res cf_tx_Check) k))) .ret (st_ret_tx_Check p2 b1_0 b1_1 b1_2 b1_3 b23) = rbbbbbabaret_tx_Check F_tx_fits F_tx_money F_tx_Coinbase L p2 b1_0 b1_1 b1_2 b1_3 b23 (fun p0 => k (V.sc (.int .i64 p0)) []) := by kernel_rfl
def rbbbbbabax0_tx_Check {β : Type} (F_tx_fits : T_tx_fits) (F_tx_money : T_tx_money) (F_tx_Coinbase : T_tx_Coinbase) (L : Nat) (b1_0 : Int) (b1_1 : List (List V)) (b1_2 : List (List V)) (b1_3 : Int) (b23 : List (V × V)) (k_fin : Int → Option β) : Option β :=
 mAt 35 (V.agg (List.replicate 32 (V.sc (.int .u8 (0 : Int))) ++ [(V.sc (.int .u32 (4294967295 : Int)))])) b23 fun q46 =>
 aB (Option.getD q46 (V.sc (.bool false))) fun v47 =>
 ifb v47 (
 F_tx_Coinbase β L [(V.sc (.int .u32 b1_0)), (V.sl 35 b1_1), (V.sl 2 b1_2), (V.sc (.int .u32 b1_3))] (fun v48 =>
 ifb (!v48) (
 k_fin (92 : Int)) (
 k_fin (0 : Int)))) (
 k_fin (0 : Int))
theorem rbbbbbabax0_tx_Check_ok {β : Type} (F_tx_fits : T_tx_fits) (F_tx_money : T_tx_money) (F_tx_Coinbase : T_tx_Coinbase) (L : Nat) (b1_0 : Int) (b1_1 : List (List V)) (b1_2 : List (List V)) (b1_3 : Int) (b23 : List (V × V)) (k : V → Bor → Option β) : (blockK 0 (seqK (runC sh_tx_Check (cb_tx_Check F_tx_fits F_tx_money F_tx_Coinbase L) 0 L cbbbbbb_tx_Check) (finK 0 (CF.res cf_tx_Check) k))) (.exit 0) (st_x0_tx_Check b1_0 b1_1 b1_2 b1_3 b23) = rbbbbbabax0_tx_Check F_tx_fits F_tx_money F_tx_Coinbase L b1_0 b1_1 b1_2 b1_3 b23 (fun p0 => k (V.sc (.int .i64 p0)) []) := by kernel_rfl
def lbbbbbaba_tx_Check {β : Type} (F_tx_fits : T_tx_fits) (F_tx_money : T_tx_money) (F_tx_Coinbase : T_tx_Coinbase) (L : Nat) (k_ret : Int → Int → List (List V) → List (List V) → Int → List (V × V) → Option β) (k_x0 : Int → List (List V) → List (List V) → Int → List (V × V) → Option β) : Nat → List (List V) → Int → Int → Int → List (List V) → List (List V) → Int → List (V × V) → Option β
  | 0, _, _, _, _, _, _, _, _ => none
  | n + 1, p25, p26, p27, b1_0, b1_1, b1_2, b1_3, b23 => bbbbbbaba_tx_Check F_tx_fits F_tx_money F_tx_Coinbase L p25 p26 p27 b1_0 b1_1 b1_2 b1_3 b23 k_ret (fun p25 p26 p27 b1_0 b1_1 b1_2 b1_3 b23 => lbbbbbaba_tx_Check F_tx_fits F_tx_money F_tx_Coinbase L k_ret k_x0 n p25 p26 p27 b1_0 b1_1 b1_2 b1_3 b23) k_x0
theorem lbbbbbaba_tx_Check_ok {β : Type} (F_tx_fits : T_tx_fits) (F_tx_money : T_tx_money) (F_tx_Coinbase : T_tx_Coinbase) (L : Nat) (K : KT β) : ∀ (n : Nat) (p25 : List (List V)) (p26 : Int) (p27 : Int) (b1_0 : Int) (b1_1 : List (List V)) (b1_2 : List (List V)) (b1_3 : Int) (b23 : List (V × V)), loopM (runC sh_tx_Check (cb_tx_Check F_tx_fits F_tx_money F_tx_Coinbase L) 0 L cbbbbbabaa_tx_Check) mbbbbbaba_tx_Check n (st_hbbbbbaba_tx_Check p25 p26 p27 b1_0 b1_1 b1_2 b1_3 b23) K = lbbbbbaba_tx_Check F_tx_fits F_tx_money F_tx_Coinbase L (fun p2 b1_0 b1_1 b1_2 b1_3 b23 => K .ret (st_ret_tx_Check p2 b1_0 b1_1 b1_2 b1_3 b23)) (fun b1_0 b1_1 b1_2 b1_3 b23 => K (.exit 0) (st_x0_tx_Check b1_0 b1_1 b1_2 b1_3 b23)) n p25 p26 p27 b1_0 b1_1 b1_2 b1_3 b23 := by
  intro n
  induction n with
  | zero => intros; rfl
  | succ n ih =>
    intro p25 p26 p27 b1_0 b1_1 b1_2 b1_3 b23
    refine (bbbbbbaba_tx_Check_ok F_tx_fits F_tx_money F_tx_Coinbase L p25 p26 p27 b1_0 b1_1 b1_2 b1_3 b23 (fun σ => loopM (runC sh_tx_Check (cb_tx_Check F_tx_fits F_tx_money F_tx_Coinbase L) 0 L cbbbbbabaa_tx_Check) mbbbbbaba_tx_Check n σ K) K).trans ?_
    simp only [ih]
    rfl
def R_tx_Check {β : Type} (F_tx_fits : T_tx_fits) (F_tx_money : T_tx_money) (F_tx_Coinbase : T_tx_Coinbase) (L : Nat) (p0 : List V) (k_fin : Int → Option β) : Option β :=
 e_tx_Check F_tx_fits F_tx_money F_tx_Coinbase L p0 k_fin (fun p25 p26 p27 b1_0 b1_1 b1_2 b1_3 b23 => lbbbbbaba_tx_Check F_tx_fits F_tx_money F_tx_Coinbase L (fun p2 b1_0 b1_1 b1_2 b1_3 b23 => rbbbbbabaret_tx_Check F_tx_fits F_tx_money F_tx_Coinbase L p2 b1_0 b1_1 b1_2 b1_3 b23 k_fin) (fun b1_0 b1_1 b1_2 b1_3 b23 => rbbbbbabax0_tx_Check F_tx_fits F_tx_money F_tx_Coinbase L b1_0 b1_1 b1_2 b1_3 b23 k_fin) L p25 p26 p27 b1_0 b1_1 b1_2 b1_3 b23)
theorem R_tx_Check_ok {β : Type} (F_tx_fits : T_tx_fits) (F_tx_money : T_tx_money) (F_tx_Coinbase : T_tx_Coinbase) (L : Nat) (p0 : List V) (k : V → Bor → Option β) : funC sh_tx_Check (cb_tx_Check F_tx_fits F_tx_money F_tx_Coinbase L) L cf_tx_Check [(V.agg p0)] [] k = R_tx_Check F_tx_fits F_tx_money F_tx_Coinbase L p0 (fun p0 => k (V.sc (.int .i64 p0)) []) := by
  refine (e_tx_Check_ok F_tx_fits F_tx_money F_tx_Coinbase L p0 k).trans ?_
  unfold R_tx_Check
  simp only [lbbbbbaba_tx_Check_ok, rbbbbbabaret_tx_Check_ok, rbbbbbabax0_tx_Check_ok]
abbrev T_tx_Check := ∀ (β : Type), Nat → List V → (Int → Option β) → Option β
def F_tx_Check (β : Type) (L : Nat) (p0 : List V) (k_fin : Int → Option β) : Option β := R_tx_Check F_tx_fits F_tx_money F_tx_Coinbase L p0 k_fin
def d_tx_Check (F_tx_Check : T_tx_Check) (L : Nat) (β : Type) (args : List V) (bor : Bor) (k : V → Bor → Option β) : Option β := match args, bor with
  | [a0], [] => aG a0 fun p0 => F_tx_Check β L p0 (fun p0 => k (V.sc (.int .i64 p0)) [])
  | _, _ => none
theorem d_tx_Check_ok (L : Nat) (β : Type) (args : List V) (bor : Bor) (k : V → Bor → Option β) (r : β) (h : d_tx_Check F_tx_Check L β args bor k = some r) : funC sh_tx_Check (cb_tx_Check F_tx_fits F_tx_money F_tx_Coinbase L) L cf_tx_Check args bor k = some r := by
  unfold d_tx_Check at h
  split at h
  · have q := aG_inv h; clear h; obtain ⟨p0, rfl, h⟩ := q
    exact (R_tx_Check_ok F_tx_fits F_tx_money F_tx_Coinbase L p0 k).trans h
  · cases h
/-! law09_sane : 126 -/
def cf_law09_sane : CF := ⟨36, [.tmp 0],
 (.seq (.reg [⟨(some 0), false, none, .move (.const (.sc (.bool false))) false⟩])
 (.seq (.reg [⟨(some 6), false, none, .build [(.sc (.int .u32 0)), (.sl 35 []), (.sl 2 []), (.sc (.int .u32 0))] []⟩,
   ⟨(some 7), false, none, .call 128 [((.tmp 6), true), ((.const (.sc (.bool false))), false)]⟩,
   ⟨(some 5), false, none, .move (.tmp 7) true⟩,
   ⟨(some 8), false, none, .extract (.tmp 5) 0⟩,
   ⟨(some 9), false, none, .pull (.tmp 5) 1⟩,
   ⟨(some 1), false, none, .move (.tmp 8) true⟩,
   ⟨(some 2), false, none, .move (.tmp 9) false⟩])
 (.seq (.reg [⟨(some 10), false, none, .build [(.sc (.int .u8 0)), (.sc (.int .u8 0)), (.sc (.int .u8 0)), (.sc (.int .u8 0)), (.sc (.int .u8 0)), (.sc (.int .u8 0)), (.sc (.int .u8 0)), (.sc (.int .u8 0)), (.sc (.int .u8 0)), (.sc (.int .u8 0)), (.sc (.int .u8 0)), (.sc (.int .u8 0)), (.sc (.int .u8 0)), (.sc (.int .u8 0)), (.sc (.int .u8 0)), (.sc (.int .u8 0)), (.sc (.int .u8 0)), (.sc (.int .u8 0)), (.sc (.int .u8 0)), (.sc (.int .u8 0)), (.sc (.int .u8 0)), (.sc (.int .u8 0)), (.sc (.int .u8 0)), (.sc (.int .u8 0)), (.sc (.int .u8 0)), (.sc (.int .u8 0)), (.sc (.int .u8 0)), (.sc (.int .u8 0)), (.sc (.int .u8 0)), (.sc (.int .u8 0)), (.sc (.int .u8 0)), (.sc (.int .u8 0)), (.sc (.int .u32 0))] [(32, 1, (.const (.sc (.int .u32 3))))]⟩,
   ⟨(some 3), false, none, .alloc true [(.sc (.int .u8 0)), (.sc (.int .u8 0)), (.sc (.int .u8 0)), (.sc (.int .u8 0)), (.sc (.int .u8 0)), (.sc (.int .u8 0)), (.sc (.int .u8 0)), (.sc (.int .u8 0)), (.sc (.int .u8 0)), (.sc (.int .u8 0)), (.sc (.int .u8 0)), (.sc (.int .u8 0)), (.sc (.int .u8 0)), (.sc (.int .u8 0)), (.sc (.int .u8 0)), (.sc (.int .u8 0)), (.sc (.int .u8 0)), (.sc (.int .u8 0)), (.sc (.int .u8 0)), (.sc (.int .u8 0)), (.sc (.int .u8 0)), (.sc (.int .u8 0)), (.sc (.int .u8 0)), (.sc (.int .u8 0)), (.sc (.int .u8 0)), (.sc (.int .u8 0)), (.sc (.int .u8 0)), (.sc (.int .u8 0)), (.sc (.int .u8 0)), (.sc (.int .u8 0)), (.sc (.int .u8 0)), (.sc (.int .u8 0)), (.sc (.int .u32 0))]⟩,
   ⟨none, false, none, .store 33 (.tmp 3) (.tmp 10)⟩])
 (.seq (.reg [⟨(some 11), false, none, .load true 33 (.tmp 3) false⟩,
   ⟨(some 12), false, none, .build [(.sc (.int .u8 0)), (.sc (.int .u8 0)), (.sc (.int .u8 0)), (.sc (.int .u8 0)), (.sc (.int .u8 0)), (.sc (.int .u8 0)), (.sc (.int .u8 0)), (.sc (.int .u8 0)), (.sc (.int .u8 0)), (.sc (.int .u8 0)), (.sc (.int .u8 0)), (.sc (.int .u8 0)), (.sc (.int .u8 0)), (.sc (.int .u8 0)), (.sc (.int .u8 0)), (.sc (.int .u8 0)), (.sc (.int .u8 0)), (.sc (.int .u8 0)), (.sc (.int .u8 0)), (.sc (.int .u8 0)), (.sc (.int .u8 0)), (.sc (.int .u8 0)), (.sc (.int .u8 0)), (.sc (.int .u8 0)), (.sc (.int .u8 0)), (.sc (.int .u8 0)), (.sc (.int .u8 0)), (.sc (.int .u8 0)), (.sc (.int .u8 0)), (.sc (.int .u8 0)), (.sc (.int .u8 0)), (.sc (.int .u8 0)), (.sc (.int .u32 0)), (.sc (.int .u32 0)), (.sl 1 [])] [(0, 33, (.tmp 11))]⟩,
   ⟨(some 13), false, none, .load true 33 (.tmp 3) false⟩,
   ⟨(some 14), false, none, .build [(.sc (.int .u8 0)), (.sc (.int .u8 0)), (.sc (.int .u8 0)), (.sc (.int .u8 0)), (.sc (.int .u8 0)), (.sc (.int .u8 0)), (.sc (.int .u8 0)), (.sc (.int .u8 0)), (.sc (.int .u8 0)), (.sc (.int .u8 0)), (.sc (.int .u8 0)), (.sc (.int .u8 0)), (.sc (.int .u8 0)), (.sc (.int .u8 0)), (.sc (.int .u8 0)), (.sc (.int .u8 0)), (.sc (.int .u8 0)), (.sc (.int .u8 0)), (.sc (.int .u8 0)), (.sc (.int .u8 0)), (.sc (.int .u8 0)), (.sc (.int .u8 0)), (.sc (.int .u8 0)), (.sc (.int .u8 0)), (.sc (.int .u8 0)), (.sc (.int .u8 0)), (.sc (.int .u8 0)), (.sc (.int .u8 0)), (.sc (.int .u8 0)), (.sc (.int .u8 0)), (.sc (.int .u8 0)), (.sc (.int .u8 0)), (.sc (.int .u32 0)), (.sc (.int .u32 0)), (.sl 1 [])] [(0, 33, (.tmp 13))]⟩,
   ⟨(some 15), false, none, .buildSlice 35 2 [(.sc (.int .u8 0)), (.sc (.int .u8 0)), (.sc (.int .u8 0)), (.sc (.int .u8 0)), (.sc (.int .u8 0)), (.sc (.int .u8 0)), (.sc (.int .u8 0)), (.sc (.int .u8 0)), (.sc (.int .u8 0)), (.sc (.int .u8 0)), (.sc (.int .u8 0)), (.sc (.int .u8 0)), (.sc (.int .u8 0)), (.sc (.int .u8 0)), (.sc (.int .u8 0)), (.sc (.int .u8 0)), (.sc (.int .u8 0)), (.sc (.int .u8 0)), (.sc (.int .u8 0)), (.sc (.int .u8 0)), (.sc (.int .u8 0)), (.sc (.int .u8 0)), (.sc (.int .u8 0)), (.sc (.int .u8 0)), (.sc (.int .u8 0)), (.sc (.int .u8 0)), (.sc (.int .u8 0)), (.sc (.int .u8 0)), (.sc (.int .u8 0)), (.sc (.int .u8 0)), (.sc (.int .u8 0)), (.sc (.int .u8 0)), (.sc (.int .u32 0)), (.sc (.int .u32 0)), (.sl 1 [])] [(0, 35, (.tmp 12)), (35, 35, (.tmp 14))]⟩,
   ⟨(some 16), false, none, .build [(.sc (.int .i64 0)), (.sl 1 [])] []⟩,
   ⟨(some 17), false, none, .buildSlice 2 1 [(.sc (.int .i64 0)), (.sl 1 [])] [(0, 2, (.tmp 16))]⟩,
   ⟨(some 18), false, none, .build [(.sc (.int .u32 0)), (.sl 35 []), (.sl 2 []), (.sc (.int .u32 0))] [(1, 1, (.tmp 15)), (2, 1, (.tmp 17))]⟩,
   ⟨(some 4), false, none, .alloc false [(.sc (.int .u32 0)), (.gs 35 []), (.gs 2 []), (.sc (.int .u32 0))]⟩,
   ⟨none, false, none, .store 4 (.tmp 4) (.tmp 18)⟩])
 (.seq (.reg [⟨(some 19), false, none, .move (.tmp 2) false⟩,
   ⟨(some 20), false, none, .bin .eql (.tmp 19) (.const (.sc (.int .i64 0)))⟩,
   ⟨(some 21), false, none, .move (.tmp 20) false⟩,
   ⟨(some 22), false, (some (21, true)), .move (.tmp 1) true⟩,
   ⟨(some 23), false, (some (21, true)), .lenS (.tmp 22)⟩,
   ⟨(some 24), false, (some (21, true)), .bin .eql (.tmp 23) (.const (.sc (.int .i64 10)))⟩,
   ⟨(some 25), false, none, .pick (.tmp 21) (.tmp 24) (.const (.sc (.bool false)))⟩,
   ⟨(some 26), false, none, .move (.tmp 25) false⟩,
   ⟨(some 27), false, (some (26, true)), .build [(.sc (.int .u32 0)), (.sl 35 []), (.sl 2 []), (.sc (.int .u32 0))] []⟩,
   ⟨(some 28), false, (some (26, true)), .call 144 [((.tmp 27), true)]⟩,
   ⟨(some 29), false, (some (26, true)), .bin .eql (.tmp 28) (.const (.sc (.int .i64 40)))⟩,
   ⟨(some 30), false, none, .pick (.tmp 26) (.tmp 29) (.const (.sc (.bool false)))⟩,
   ⟨(some 31), false, none, .move (.tmp 30) false⟩,
   ⟨(some 32), false, (some (31, true)), .load true 4 (.tmp 4) false⟩,
   ⟨(some 33), false, (some (31, true)), .call 131 [((.tmp 32), true)]⟩,
   ⟨(some 34), false, (some (31, true)), .bin .eql (.tmp 33) (.const (.sc (.int .i64 91)))⟩,
   ⟨(some 35), false, none, .pick (.tmp 31) (.tmp 34) (.const (.sc (.bool false)))⟩,
   ⟨(some 0), false, none, .move (.tmp 35) false⟩])
 .ret)))))⟩
def hint_law09_sane : Hint := ⟨[(1, 2), (1, 3), (1, 5), (4, 3)], [], [none], []⟩
def sh_law09_sane : Nat → Sh := shOf []
def cb_law09_sane (F_tx_Encode : T_tx_Encode) (F_tx_Weight : T_tx_Weight) (F_tx_Check : T_tx_Check) (L : Nat) : CBC := (addC 131 (d_tx_Check F_tx_Check L) (addC 144 (d_tx_Weight F_tx_Weight L) (addC 128 (d_tx_Encode F_tx_Encode L) noC)))
def R_law09_sane {β : Type} (F_tx_Encode : T_tx_Encode) (F_tx_Weight : T_tx_Weight) (F_tx_Check : T_tx_Check) (L : Nat) (k_fin : Bool → Option β) : Option β :=
 F_tx_Encode β L [(V.sc (.int .u32 (0 : Int))), (V.sl 35 ([] : List (List V))), (V.sl 2 ([] : List (List V))), (V.sc (.int .u32 (0 : Int)))] false (fun v0 v1 =>
 lt (List.replicate 32 (V.sc (.int .u8 (0 : Int))) ++ [(V.sc (.int .u32 (3 : Int)))]) fun r2 =>
 chk (0 + 33 ≤ (List.length r2)) (
 chk ((List.length (List.take 33 r2)) = 33 ∧ 0 + 33 ≤ 35) (
 chk (0 + 33 ≤ (List.length r2)) (
 chk ((List.length (List.take 33 r2)) = 33 ∧ 0 + 33 ≤ 35) (
 chk ((List.length (setAt (List.replicate 32 (V.sc (.int .u8 (0 : Int))) ++ [(V.sc (.int .u32 (0 : Int))), (V.sc (.int .u32 (0 : Int))), (V.sl 1 ([] : List (List V)))]) 0 (List.take 33 r2))) = 35 ∧ 0 + 35 ≤ 70) (
 chk ((List.length (setAt (List.replicate 32 (V.sc (.int .u8 (0 : Int))) ++ [(V.sc (.int .u32 (0 : Int))), (V.sc (.int .u32 (0 : Int))), (V.sl 1 ([] : List (List V)))]) 0 (List.take 33 r2))) = 35 ∧ 35 + 35 ≤ (List.length (setAt (List.replicate 32 (V.sc (.int .u8 (0 : Int))) ++ [(V.sc (.int .u32 (0 : Int))), (V.sc (.int .u32 (0 : Int))), (V.sl 1 ([] : List (List V)))] ++ List.replicate 32 (V.sc (.int .u8 (0 : Int))) ++ [(V.sc (.int .u32 (0 : Int))), (V.sc (.int .u32 (0 : Int))), (V.sl 1 ([] : List (List V)))]) 0 (setAt (List.replicate 32 (V.sc (.int .u8 (0 : Int))) ++ [(V.sc (.int .u32 (0 : Int))), (V.sc (.int .u32 (0 : Int))), (V.sl 1 ([] : List (List V)))]) 0 (List.take 33 r2))))) (
 ifb ((v1 : Int) == (0 : Int)) (
 ifb ((((List.length v0 : Nat) : Int) : Int) == (10 : Int)) (
 F_tx_Weight β L [(V.sc (.int .u32 (0 : Int))), (V.sl 35 ([] : List (List V))), (V.sl 2 ([] : List (List V))), (V.sc (.int .u32 (0 : Int)))] (fun v3 =>
 ifb ((v3 : Int) == (40 : Int)) (
 F_tx_Check β L [(V.sc (.int .u32 (0 : Int))), (V.sl 35 (chunks 35 2 (setAt (setAt (List.replicate 32 (V.sc (.int .u8 (0 : Int))) ++ [(V.sc (.int .u32 (0 : Int))), (V.sc (.int .u32 (0 : Int))), (V.sl 1 ([] : List (List V)))] ++ List.replicate 32 (V.sc (.int .u8 (0 : Int))) ++ [(V.sc (.int .u32 (0 : Int))), (V.sc (.int .u32 (0 : Int))), (V.sl 1 ([] : List (List V)))]) 0 (setAt (List.replicate 32 (V.sc (.int .u8 (0 : Int))) ++ [(V.sc (.int .u32 (0 : Int))), (V.sc (.int .u32 (0 : Int))), (V.sl 1 ([] : List (List V)))]) 0 (List.take 33 r2))) 35 (setAt (List.replicate 32 (V.sc (.int .u8 (0 : Int))) ++ [(V.sc (.int .u32 (0 : Int))), (V.sc (.int .u32 (0 : Int))), (V.sl 1 ([] : List (List V)))]) 0 (List.take 33 r2))))), (V.sl 2 (chunks 2 1 [(V.sc (.int .i64 (0 : Int))), (V.sl 1 ([] : List (List V)))])), (V.sc (.int .u32 (0 : Int)))] (fun v4 =>
 k_fin ((v4 : Int) == (91 : Int)))) (
 k_fin false))) (
 k_fin false)) (
 k_fin false))))))))
theorem R_law09_sane_ok {β : Type} (F_tx_Encode : T_tx_Encode) (F_tx_Weight : T_tx_Weight) (F_tx_Check : T_tx_Check) (L : Nat) (k : V → Bor → Option β) : funC sh_law09_sane (cb_law09_sane F_tx_Encode F_tx_Weight F_tx_Check L) L cf_law09_sane [] [] k = R_law09_sane F_tx_Encode F_tx_Weight F_tx_Check L (fun p0 => k (V.sc (.bool p0)) []) := by kernel_rfl
abbrev T_law09_sane := ∀ (β : Type), Nat → (Bool → Option β) → Option β
def F_law09_sane (β : Type) (L : Nat) (k_fin : Bool → Option β) : Option β := R_law09_sane F_tx_Encode F_tx_Weight F_tx_Check L k_fin
def d_law09_sane (F_law09_sane : T_law09_sane) (L : Nat) (β : Type) (args : List V) (bor : Bor) (k : V → Bor → Option β) : Option β := match args, bor with
  | [], [] => F_law09_sane β L (fun p0 => k (V.sc (.bool p0)) [])
  | _, _ => none
theorem d_law09_sane_ok (L : Nat) (β : Type) (args : List V) (bor : Bor) (k : V → Bor → Option β) (r : β) (h : d_law09_sane F_law09_sane L β args bor k = some r) : funC sh_law09_sane (cb_law09_sane F_tx_Encode F_tx_Weight F_tx_Check L) L cf_law09_sane args bor k = some r := by
  unfold d_law09_sane at h
  split at h
  · exact (R_law09_sane_ok F_tx_Encode F_tx_Weight F_tx_Check L k).trans h
  · cases h
/-! keep_Items : 145 -/
def cbbabaa_keep_Items : CC := (.seq (.reg [⟨(some 16), false, none, .bin .lss (.tmp 15) (.tmp 14)⟩])
 (.seq (.cond (.tmp 16)
 .skip
 (.seq (.mask (bl 0 24) (bl 15728319 24))
 (.exit 0)))
 (.seq (.block 1 (.seq (.reg [⟨(some 17), false, none, .indexAddrS 1 (.tmp 13) (.tmp 15)⟩,
   ⟨(some 18), false, none, .load false 1 (.tmp 17) false⟩,
   ⟨(some 8), false, none, .move (.tmp 18) true⟩])
 (.seq (.reg [⟨(some 19), false, none, .move (.tmp 8) true⟩,
   ⟨(some 20), false, none, .lenS (.tmp 19)⟩,
   ⟨(some 21), false, none, .move (.tmp 2) false⟩,
   ⟨(some 22), false, none, .bin .gtr (.tmp 20) (.tmp 21)⟩])
 (.cond (.tmp 22)
 (.seq (.reg [⟨(some 6), false, none, .move (.const (.sc (.bool false))) false⟩])
 (.seq (.mask (bl 64 24) (bl 15728383 24))
 .ret))
 .skip))))
 (.reg [⟨(some 23), false, none, .bin .add (.tmp 15) (.const (.sc (.int .i64 1)))⟩,
   ⟨(some 15), false, none, .move (.tmp 23) false⟩]))))
def cbbb_keep_Items : CC := (.seq (.reg [⟨(some 6), false, none, .move (.const (.sc (.bool true))) false⟩])
 .ret)
def cf_keep_Items : CF := ⟨24, [.tmp 6],
 (.seq (.reg [⟨(some 6), false, none, .move (.const (.sc (.bool false))) false⟩])
 (.seq (.seq (.reg [⟨(some 9), false, none, .move (.tmp 0) false⟩,
   ⟨(some 10), false, none, .lenS (.tmp 9)⟩,
   ⟨(some 11), false, none, .move (.tmp 1) false⟩,
   ⟨(some 12), false, none, .bin .gtr (.tmp 10) (.tmp 11)⟩])
 (.cond (.tmp 12)
 (.seq (.reg [⟨(some 6), false, none, .move (.const (.sc (.bool false))) false⟩])
 .ret)
 .skip))
 (.seq (.seq (.reg [⟨(some 13), false, none, .move (.tmp 0) true⟩,
   ⟨(some 14), false, none, .lenS (.tmp 13)⟩,
   ⟨(some 15), false, none, .move (.const (.sc (.int .i64 0))) false⟩])
 (.block 0 (.loop (bl 57348 24) (bl 15728319 24)
 cbbabaa_keep_Items)))
 cbbb_keep_Items)))⟩
def hint_keep_Items : Hint := ⟨[(3, 0), (5, 2), (6, 0)], [], [none, none, none, some ((bl 57348 24), (bl 15728319 24)), none, some ((bl 0 24), (bl 15728319 24)), none, none, some ((bl 64 24), (bl 15728383 24)), none], []⟩
def sh_keep_Items : Nat → Sh := shOf [(18, (.sl 1))]
def cb_keep_Items (L : Nat) : CBC := noC
def mbbaba_keep_Items : St → St := mask (bl 57348 24) (bl 15728319 24)
def st_hbbaba_keep_Items (p2 : Int) (p13 : List (List V)) (p14 : Int) (p15 : Int) : St := ⟨[.junk, .junk, (V.sc (.int .i64 p2)), .junk, .junk, .junk, .junk, .junk, .junk, .junk, .junk, .junk, .junk, (V.sl 1 p13), (V.sc (.int .i64 p14)), (V.sc (.int .i64 p15)), .junk, .junk, .junk, .junk, .junk, .junk, .junk, .junk], [.gone, .gone, .gone, .gone, .gone, .gone, .gone, .gone, .gone, .gone, .gone, .gone, .gone, .gone, .gone, .gone, .gone, .gone, .gone, .gone, .gone, .gone, .gone, .gone]⟩
def st_ret_keep_Items (p6 : Bool) : St := ⟨[.junk, .junk, .junk, .junk, .junk, .junk, (V.sc (.bool p6)), .junk, .junk, .junk, .junk, .junk, .junk, .junk, .junk, .junk, .junk, .junk, .junk, .junk, .junk, .junk, .junk, .junk], [.gone, .gone, .gone, .gone, .gone, .gone, .gone, .gone, .gone, .gone, .gone, .gone, .gone, .gone, .gone, .gone, .gone, .gone, .gone, .gone, .gone, .gone, .gone, .gone]⟩
def st_x0_keep_Items : St := ⟨[.junk, .junk, .junk, .junk, .junk, .junk, .junk, .junk, .junk, .junk, .junk, .junk, .junk, .junk, .junk, .junk, .junk, .junk, .junk, .junk, .junk, .junk, .junk, .junk], [.gone, .gone, .gone, .gone, .gone, .gone, .gone, .gone, .gone, .gone, .gone, .gone, .gone, .gone, .gone, .gone, .gone, .gone, .gone, .gone, .gone, .gone, .gone, .gone]⟩
def e_keep_Items {β : Type} (L : Nat) (p0 : List (List V)) (p1 : Int) (p2 : Int) (k_fin : Bool → Option β) (k_hbbaba : Int → List (List V) → Int → Int → Option β) : Option β :=
 ifb (decide (((List.length p0 : Nat) : Int) > p1)) (
 k_fin false) (
 k_hbbaba p2 p0 ((List.length p0 : Nat) : Int) (0 : Int))
theorem e_keep_Items_ok {β : Type} (L : Nat) (p0 : List (List V)) (p1 : Int) (p2 : Int) (k : V → Bor → Option β) : funC sh_keep_Items (cb_keep_Items L) L cf_keep_Items [(V.sl 1 p0), (V.sc (.int .i64 p1)), (V.sc (.int .i64 p2))] [] k = e_keep_Items L p0 p1 p2 (fun p0 => k (V.sc (.bool p0)) []) (fun p2 p13 p14 p15 => loopM (runC sh_keep_Items (cb_keep_Items L) 0 L cbbabaa_keep_Items) mbbaba_keep_Items L (st_hbbaba_keep_Items p2 p13 p14 p15) (blockK 0 (seqK (runC sh_keep_Items (cb_keep_Items L) 0 L cbbb_keep_Items) (finK 0 (CF.res cf_keep_Items) k)))) := by kernel_rfl
def bbbaba_keep_Items {β : Type} (L : Nat) (p2 : Int) (p13 : List (List V)) (p14 : Int) (p15 : Int) (k_ret : Bool → Option β) (k_hbbaba : Int → List (List V) → Int → Int → Option β) (k_x0 : Option β) : Option β :=
 ifb (decide (p15 < p14)) (
 idx p13 p15 fun c0 =>
 cL 1 c0 0 fun v1 =>
 ifb (decide (((List.length v1 : Nat) : Int) > p2)) (
 k_ret false) (
 lt (IntKind.wrap .i64 ((p15 : Int) + (1 : Int))) fun x2 =>
 k_hbbaba p2 p13 p14 x2)) (
 k_x0)
theorem bbbaba_keep_Items_ok {β : Type} (L : Nat) (p2 : Int) (p13 : List (List V)) (p14 : Int) (p15 : Int) (X : St → Option β) (K : KT β) : runC sh_keep_Items (cb_keep_Items L) 0 L cbbabaa_keep_Items (st_hbbaba_keep_Items p2 p13 p14 p15) (loopK mbbaba_keep_Items X K) = bbbaba_keep_Items L p2 p13 p14 p15 (fun p6 => K .ret (st_ret_keep_Items p6)) (fun p2 p13 p14 p15 => X (st_hbbaba_keep_Items p2 p13 p14 p15)) (K (.exit 0) (st_x0_keep_Items)) := by kernel_rfl
def rbbabaret_keep_Items {β : Type} (L : Nat) (p6 : Bool) (k_fin : Bool → Option β) : Option β :=
 k_fin p6
theorem rbbabaret_keep_Items_ok {β : Type} (L : Nat) (p6 : Bool) (k : V → Bor → Option β) : (blockK 0 (seqK (runC sh_keep_Items (cb_keep_Items L) 0 L cbbb_keep_Items) (finK 0 (CF.res cf_keep_Items) k))) .ret (st_ret_keep_Items p6) = rbbabaret_keep_Items L p6 (fun p0 => k (V.sc (.bool p0)) []) := by kernel_rfl
def rbbabax0_keep_Items {β : Type} (L : Nat) (k_fin : Bool → Option β) : Option β :=
 k_fin true
theorem rbbabax0_keep_Items_ok {β : Type} (L : Nat) (k : V → Bor → Option β) : (blockK 0 (seqK (runC sh_keep_Items (cb_keep_Items L) 0 L cbbb_keep_Items) (finK 0 (CF.res cf_keep_Items) k))) (.exit 0) (st_x0_keep_Items) = rbbabax0_keep_Items L (fun p0 => k (V.sc (.bool p0)) []) := by kernel_rfl
def lbbaba_keep_Items {β : Type} (L : Nat) (k_ret : Bool → Option β) (k_x0 : Option β) : Nat → Int → List (List V) → Int → Int → Option β
  | 0, _, _, _, _ => none
  | n + 1, p2, p13, p14, p15 => bbbaba_keep_Items L p2 p13 p14 p15 k_ret (fun p2 p13 p14 p15 => lbbaba_keep_Items L k_ret k_x0 n p2 p13 p14 p15) k_x0
theorem lbbaba_keep_Items_ok {β : Type} (L : Nat) (K : KT β) : ∀ (n : Nat) (p2 : Int) (p13 : List (List V)) (p14 : Int) (p15 : Int), loopM (runC sh_keep_Items (cb_keep_Items L) 0 L cbbabaa_keep_Items) mbbaba_keep_Items n (st_hbbaba_keep_Items p2 p13 p14 p15) K = lbbaba_keep_Items L (fun p6 => K .ret (st_ret_keep_Items p6)) (K (.exit 0) (st_x0_keep_Items)) n p2 p13 p14 p15 := by
  intro n
  induction n with
  | zero => intros; rfl
  | succ n ih =>
    intro p2 p13 p14 p15
    refine (bbbaba_keep_Items_ok L p2 p13 p14 p15 (fun σ => loopM (runC sh_keep_Items (cb_keep_Items L) 0 L cbbabaa_keep_Items) mbbaba_keep_Items n σ K) K).trans ?_
    simp only [ih]
    rfl
def R_keep_Items {β : Type} (L : Nat) (p0 : List (List V)) (p1 : Int) (p2 : Int) (k_fin : Bool → Option β) : Option β :=
 e_keep_Items L p0 p1 p2 k_fin (fun p2 p13 p14 p15 => lbbaba_keep_Items L (fun p6 => rbbabaret_keep_Items L p6 k_fin) (rbbabax0_keep_Items L k_fin) L p2 p13 p14 p15)
theorem R_keep_Items_ok {β : Type} (L : Nat) (p0 : List (List V)) (p1 : Int) (p2 : Int) (k : V → Bor → Option β) : funC sh_keep_Items (cb_keep_Items L) L cf_keep_Items [(V.sl 1 p0), (V.sc (.int .i64 p1)), (V.sc (.int .i64 p2))] [] k = R_keep_Items L p0 p1 p2 (fun p0 => k (V.sc (.bool p0)) []) := by
  refine (e_keep_Items_ok L p0 p1 p2 k).trans ?_
  unfold R_keep_Items
  simp only [lbbaba_keep_Items_ok, rbbabaret_keep_Items_ok, rbbabax0_keep_Items_ok]
abbrev T_keep_Items := ∀ (β : Type), Nat → List (List V) → Int → Int → (Bool → Option β) → Option β
def F_keep_Items (β : Type) (L : Nat) (p0 : List (List V)) (p1 : Int) (p2 : Int) (k_fin : Bool → Option β) : Option β := R_keep_Items L p0 p1 p2 k_fin
def d_keep_Items (F_keep_Items : T_keep_Items) (L : Nat) (β : Type) (args : List V) (bor : Bor) (k : V → Bor → Option β) : Option β := match args, bor with
  | [a0, a1, a2], [] => aL 1 a0 fun p0 => aI .i64 a1 fun p1 => aI .i64 a2 fun p2 => F_keep_Items β L p0 p1 p2 (fun p0 => k (V.sc (.bool p0)) [])
  | _, _ => none
theorem d_keep_Items_ok (L : Nat) (β : Type) (args : List V) (bor : Bor) (k : V → Bor → Option β) (r : β) (h : d_keep_Items F_keep_Items L β args bor k = some r) : funC sh_keep_Items (cb_keep_Items L) L cf_keep_Items args bor k = some r := by
  unfold d_keep_Items at h
  split at h
  · have q := aL_inv h; clear h; obtain ⟨p0, rfl, h⟩ := q
    have q := aI_inv h; clear h; obtain ⟨p1, rfl, h⟩ := q
    have q := aI_inv h; clear h; obtain ⟨p2, rfl, h⟩ := q
    exact (R_keep_Items_ok L p0 p1 p2 k).trans h
  · cases h
/-! keep_Tx : 127 -/
def cbbbabaa_keep_Tx : CC := (.seq (.reg [⟨(some 33), false, none, .bin .lss (.tmp 32) (.tmp 31)⟩])
 (.seq (.cond (.tmp 33)
 .skip
 (.seq (.mask (bl 0 41) (bl 1924145348539 41))
 (.exit 2)))
 (.seq (.block 3 (.seq (.reg [⟨(some 34), false, none, .indexAddrS 2 (.tmp 30) (.tmp 32)⟩,
   ⟨(some 35), false, none, .load true 2 (.tmp 34) false⟩,
   ⟨(some 6), false, none, .alloc false [(.sc (.int .i64 0)), (.gs 1 [])]⟩,
   ⟨none, false, none, .store 2 (.tmp 6) (.tmp 35)⟩])
 (.seq (.reg [⟨(some 36), false, none, .fieldAddr 1 (.tmp 6)⟩,
   ⟨(some 37), false, none, .load false 1 (.tmp 36) false⟩,
   ⟨(some 38), false, none, .lenS (.tmp 37)⟩,
   ⟨(some 39), false, none, .bin .gtr (.tmp 38) (.const (.sc (.int .i64 600)))⟩])
 (.cond (.tmp 39)
 (.seq (.reg [⟨(some 2), false, none, .move (.const (.sc (.bool false))) false⟩])
 (.seq (.mask (bl 4 41) (bl 1924145348543 41))
 .ret))
 .skip))))
 (.reg [⟨(some 40), false, none, .bin .add (.tmp 32) (.const (.sc (.int .i64 1)))⟩,
   ⟨(some 32), false, none, .move (.tmp 40) false⟩]))))
def cbbabaa_keep_Tx : CC := (.seq (.reg [⟨(some 21), false, none, .bin .lss (.tmp 20) (.tmp 19)⟩])
 (.seq (.cond (.tmp 21)
 .skip
 (.seq (.mask (bl 2 41) (bl 2198956146667 41))
 (.exit 0)))
 (.seq (.block 1 (.seq (.reg [⟨(some 22), false, none, .indexAddrS 35 (.tmp 18) (.tmp 20)⟩,
   ⟨(some 23), false, none, .load true 35 (.tmp 22) false⟩,
   ⟨(some 4), false, none, .alloc false [(.sc (.int .u8 0)), (.sc (.int .u8 0)), (.sc (.int .u8 0)), (.sc (.int .u8 0)), (.sc (.int .u8 0)), (.sc (.int .u8 0)), (.sc (.int .u8 0)), (.sc (.int .u8 0)), (.sc (.int .u8 0)), (.sc (.int .u8 0)), (.sc (.int .u8 0)), (.sc (.int .u8 0)), (.sc (.int .u8 0)), (.sc (.int .u8 0)), (.sc (.int .u8 0)), (.sc (.int .u8 0)), (.sc (.int .u8 0)), (.sc (.int .u8 0)), (.sc (.int .u8 0)), (.sc (.int .u8 0)), (.sc (.int .u8 0)), (.sc (.int .u8 0)), (.sc (.int .u8 0)), (.sc (.int .u8 0)), (.sc (.int .u8 0)), (.sc (.int .u8 0)), (.sc (.int .u8 0)), (.sc (.int .u8 0)), (.sc (.int .u8 0)), (.sc (.int .u8 0)), (.sc (.int .u8 0)), (.sc (.int .u8 0)), (.sc (.int .u32 0)), (.sc (.int .u32 0)), (.gs 1 [])]⟩,
   ⟨none, false, none, .store 35 (.tmp 4) (.tmp 23)⟩])
 (.seq (.reg [⟨(some 24), false, none, .fieldAddr 34 (.tmp 4)⟩,
   ⟨(some 25), false, none, .load false 1 (.tmp 24) false⟩,
   ⟨(some 26), false, none, .call 145 [((.tmp 25), false), ((.const (.sc (.int .i64 40))), false), ((.const (.sc (.int .i64 600))), false)]⟩,
   ⟨(some 27), false, none, .un .not (.tmp 26)⟩])
 (.cond (.tmp 27)
 (.seq (.reg [⟨(some 2), false, none, .move (.const (.sc (.bool false))) false⟩])
 (.seq (.mask (bl 4 41) (bl 2198956146671 41))
 .ret))
 .skip))))
 (.reg [⟨(some 28), false, none, .bin .add (.tmp 20) (.const (.sc (.int .i64 1)))⟩,
   ⟨(some 20), false, none, .move (.tmp 28) false⟩]))))
def cbbbb_keep_Tx : CC := (.seq (.reg [⟨(some 2), false, none, .move (.const (.sc (.bool true))) false⟩])
 .ret)
def cbbb_keep_Tx : CC := (.seq (.seq (.reg [⟨(some 29), false, none, .fieldAddr 2 (.tmp 1)⟩,
   ⟨(some 30), false, none, .load false 1 (.tmp 29) false⟩,
   ⟨(some 31), false, none, .lenS (.tmp 30)⟩,
   ⟨(some 32), false, none, .move (.const (.sc (.int .i64 0))) false⟩])
 (.block 2 (.loop (bl 7516192768 41) (bl 1924145348539 41)
 cbbbabaa_keep_Tx)))
 cbbbb_keep_Tx)
def cf_keep_Tx : CF := ⟨41, [.tmp 2],
 (.seq (.reg [⟨(some 1), false, none, .box false (.tmp 0)⟩,
   ⟨(some 2), false, none, .move (.const (.sc (.bool false))) false⟩])
 (.seq (.seq (.reg [⟨(some 7), false, none, .fieldAddr 1 (.tmp 1)⟩,
   ⟨(some 8), false, none, .load false 1 (.tmp 7) false⟩,
   ⟨(some 9), false, none, .lenS (.tmp 8)⟩,
   ⟨(some 10), false, none, .bin .gtr (.tmp 9) (.const (.sc (.int .i64 70)))⟩,
   ⟨(some 11), false, none, .move (.tmp 10) false⟩,
   ⟨(some 12), false, (some (11, false)), .fieldAddr 2 (.tmp 1)⟩,
   ⟨(some 13), false, (some (11, false)), .load false 1 (.tmp 12) false⟩,
   ⟨(some 14), false, (some (11, false)), .lenS (.tmp 13)⟩,
   ⟨(some 15), false, (some (11, false)), .bin .gtr (.tmp 14) (.const (.sc (.int .i64 70)))⟩,
   ⟨(some 16), false, none, .pick (.tmp 11) (.const (.sc (.bool true))) (.tmp 15)⟩])
 (.cond (.tmp 16)
 (.seq (.reg [⟨(some 2), false, none, .move (.const (.sc (.bool false))) false⟩])
 .ret)
 .skip))
 (.seq (.seq (.reg [⟨(some 17), false, none, .fieldAddr 1 (.tmp 1)⟩,
   ⟨(some 18), false, none, .load false 1 (.tmp 17) false⟩,
   ⟨(some 19), false, none, .lenS (.tmp 18)⟩,
   ⟨(some 20), false, none, .move (.const (.sc (.int .i64 0))) false⟩])
 (.block 0 (.loop (bl 1835010 41) (bl 2198956146667 41)
 cbbabaa_keep_Tx)))
 cbbb_keep_Tx)))⟩
def hint_keep_Tx : Hint := ⟨[], [], [none, none, none, some ((bl 1835010 41), (bl 2198956146667 41)), none, some ((bl 2 41), (bl 2198956146667 41)), none, none, some ((bl 4 41), (bl 2198956146671 41)), none, some ((bl 7516192768 41), (bl 1924145348539 41)), none, some ((bl 0 41), (bl 1924145348539 41)), none, none, some ((bl 4 41), (bl 1924145348543 41)), none], []⟩
def sh_keep_Tx : Nat → Sh := shOf [(1, (.row [(.int .u32), (.sl 35), (.sl 2), (.int .u32)])), (23, (.row [(.int .u8), (.int .u8), (.int .u8), (.int .u8), (.int .u8), (.int .u8), (.int .u8), (.int .u8), (.int .u8), (.int .u8), (.int .u8), (.int .u8), (.int .u8), (.int .u8), (.int .u8), (.int .u8), (.int .u8), (.int .u8), (.int .u8), (.int .u8), (.int .u8), (.int .u8), (.int .u8), (.int .u8), (.int .u8), (.int .u8), (.int .u8), (.int .u8), (.int .u8), (.int .u8), (.int .u8), (.int .u8), (.int .u32), (.int .u32), (.sl 1)])), (35, (.row [(.int .i64), (.sl 1)]))]
def cb_keep_Tx (F_keep_Items : T_keep_Items) (L : Nat) : CBC := (addC 145 (d_keep_Items F_keep_Items L) noC)
def mbbaba_keep_Tx : St → St := mask (bl 1835010 41) (bl 2198956146667 41)
def mbbbaba_keep_Tx : St → St := mask (bl 7516192768 41) (bl 1924145348539 41)
def st_hbbaba_keep_Tx (p18 : List (List V)) (p19 : Int) (p20 : Int) (b1_0 : Int) (b1_1 : List (List V)) (b1_2 : List (List V)) (b1_3 : Int) : St := ⟨[.junk, (V.ptr 1 0), .junk, .junk, .junk, .junk, .junk, .junk, .junk, .junk, .junk, .junk, .junk, .junk, .junk, .junk, .junk, .junk, (V.sl 35 p18), (V.sc (.int .i64 p19)), (V.sc (.int .i64 p20)), .junk, .junk, .junk, .junk, .junk, .junk, .junk, .junk, .junk, .junk, .junk, .junk, .junk, .junk, .junk, .junk, .junk, .junk, .junk, .junk], [.gone, (.live false [(V.sc (.int .u32 b1_0)), (V.sl 35 b1_1), (V.sl 2 b1_2), (V.sc (.int .u32 b1_3))]), .gone, .gone, .gone, .gone, .gone, .gone, .gone, .gone, .gone, .gone, .gone, .gone, .gone, .gone, .gone, .gone, .gone, .gone, .gone, .gone, .gone, .gone, .gone, .gone, .gone, .gone, .gone, .gone, .gone, .gone, .gone, .gone, .gone, .gone, .gone, .gone, .gone, .gone, .gone]⟩
def st_ret_keep_Tx (p2 : Bool) (b1_0 : Int) (b1_1 : List (List V)) (b1_2 : List (List V)) (b1_3 : Int) : St := ⟨[.junk, .junk, (V.sc (.bool p2)), .junk, .junk, .junk, .junk, .junk, .junk, .junk, .junk, .junk, .junk, .junk, .junk, .junk, .junk, .junk, .junk, .junk, .junk, .junk, .junk, .junk, .junk, .junk, .junk, .junk, .junk, .junk, .junk, .junk, .junk, .junk, .junk, .junk, .junk, .junk, .junk, .junk, .junk], [.gone, (.live false [(V.sc (.int .u32 b1_0)), (V.sl 35 b1_1), (V.sl 2 b1_2), (V.sc (.int .u32 b1_3))]), .gone, .gone, .gone, .gone, .gone, .gone, .gone, .gone, .gone, .gone, .gone, .gone, .gone, .gone, .gone, .gone, .gone, .gone, .gone, .gone, .gone, .gone, .gone, .gone, .gone, .gone, .gone, .gone, .gone, .gone, .gone, .gone, .gone, .gone, .gone, .gone, .gone, .gone, .gone]⟩
def st_x0_keep_Tx (b1_0 : Int) (b1_1 : List (List V)) (b1_2 : List (List V)) (b1_3 : Int) : St := ⟨[.junk, (V.ptr 1 0), .junk, .junk, .junk, .junk, .junk, .junk, .junk, .junk, .junk, .junk, .junk, .junk, .junk, .junk, .junk, .junk, .junk, .junk, .junk, .junk, .junk, .junk, .junk, .junk, .junk, .junk, .junk, .junk, .junk, .junk, .junk, .junk, .junk, .junk, .junk, .junk, .junk, .junk, .junk], [.gone, (.live false [(V.sc (.int .u32 b1_0)), (V.sl 35 b1_1), (V.sl 2 b1_2), (V.sc (.int .u32 b1_3))]), .gone, .gone, .gone, .gone, .gone, .gone, .gone, .gone, .gone, .gone, .gone, .gone, .gone, .gone, .gone, .gone, .gone, .gone, .gone, .gone, .gone, .gone, .gone, .gone, .gone, .gone, .gone, .gone, .gone, .gone, .gone, .gone, .gone, .gone, .gone, .gone, .gone, .gone, .gone]⟩
def st_hbbbaba_keep_Tx (p30 : List (List V)) (p31 : Int) (p32 : Int) (b1_0 : Int) (b1_1 : List (List V)) (b1_2 : List (List V)) (b1_3 : Int) : St := ⟨[.junk, .junk, .junk, .junk, .junk, .junk, .junk, .junk, .junk, .junk, .junk, .junk, .junk, .junk, .junk, .junk, .junk, .junk, .junk, .junk, .junk, .junk, .junk, .junk, .junk, .junk, .junk, .junk, .junk, .junk, (V.sl 2 p30), (V.sc (.int .i64 p31)), (V.sc (.int .i64 p32)), .junk, .junk, .junk, .junk, .junk, .junk, .junk, .junk], [.gone, (.live false [(V.sc (.int .u32 b1_0)), (V.sl 35 b1_1), (V.sl 2 b1_2), (V.sc (.int .u32 b1_3))]), .gone, .gone, .gone, .gone, .gone, .gone, .gone, .gone, .gone, .gone, .gone, .gone, .gone, .gone, .gone, .gone, .gone, .gone, .gone, .gone, .gone, .gone, .gone, .gone, .gone, .gone, .gone, .gone, .gone, .gone, .gone, .gone, .gone, .gone, .gone, .gone, .gone, .gone, .gone]⟩
def st_x2_keep_Tx (b1_0 : Int) (b1_1 : List (List V)) (b1_2 : List (List V)) (b1_3 : Int) : St := ⟨[.junk, .junk, .junk, .junk, .junk, .junk, .junk, .junk, .junk, .junk, .junk, .junk, .junk, .junk, .junk, .junk, .junk, .junk, .junk, .junk, .junk, .junk, .junk, .junk, .junk, .junk, .junk, .junk, .junk, .junk, .junk, .junk, .junk, .junk, .junk, .junk, .junk, .junk, .junk, .junk, .junk], [.gone, (.live false [(V.sc (.int .u32 b1_0)), (V.sl 35 b1_1), (V.sl 2 b1_2), (V.sc (.int .u32 b1_3))]), .gone, .gone, .gone, .gone, .gone, .gone, .gone, .gone, .gone, .gone, .gone, .gone, .gone, .gone, .gone, .gone, .gone, .gone, .gone, .gone, .gone, .gone, .gone, .gone, .gone, .gone, .gone, .gone, .gone, .gone, .gone, .gone, .gone, .gone, .gone, .gone, .gone, .gone, .gone]⟩
def e_keep_Tx {β : Type} (F_keep_Items : T_keep_Items) (L : Nat) (p0 : List V) (k_fin : Bool → Option β) (k_hbbaba : List (List V) → Int → Int → Int → List (List V) → List (List V) → Int → Option β) : Option β :=
 chk (List.length p0 = 4) (
 cI .u32 p0 0 fun v0 =>
 cL 35 p0 1 fun v1 =>
 cL 2 p0 2 fun v2 =>
 cI .u32 p0 3 fun v3 =>
 ifb (decide (((List.length v1 : Nat) : Int) > (70 : Int))) (
 k_fin false) (
 ifb (decide (((List.length v2 : Nat) : Int) > (70 : Int))) (
 k_fin false) (
 k_hbbaba v1 ((List.length v1 : Nat) : Int) (0 : Int) v0 v1 v2 v3)))
theorem e_keep_Tx_ok {β : Type} (F_keep_Items : T_keep_Items) (L : Nat) (p0 : List V) (k : V → Bor → Option β) : funC sh_keep_Tx (cb_keep_Tx F_keep_Items L) L cf_keep_Tx [(V.agg p0)] [] k = e_keep_Tx F_keep_Items L p0 (fun p0 => k (V.sc (.bool p0)) []) (fun p18 p19 p20 b1_0 b1_1 b1_2 b1_3 => loopM (runC sh_keep_Tx (cb_keep_Tx F_keep_Items L) 0 L cbbabaa_keep_Tx) mbbaba_keep_Tx L (st_hbbaba_keep_Tx p18 p19 p20 b1_0 b1_1 b1_2 b1_3) (blockK 0 (seqK (runC sh_keep_Tx (cb_keep_Tx F_keep_Items L) 0 L cbbb_keep_Tx) (finK 0 (CF.res cf_keep_Tx) k)))) := by kernel_rfl
def bbbaba_keep_Tx {β : Type} (F_keep_Items : T_keep_Items) (L : Nat) (p18 : List (List V)) (p19 : Int) (p20 : Int) (b1_0 : Int) (b1_1 : List (List V)) (b1_2 : List (List V)) (b1_3 : Int) (k_ret : Bool → Int → List (List V) → List (List V) → Int → Option β) (k_hbbaba : List (List V) → Int → Int → Int → List (List V) → List (List V) → Int → Option β) (k_x0 : Int → List (List V) → List (List V) → Int → Option β) : Option β :=
 ifb (decide (p20 < p19)) (
 idx p18 p20 fun c4 =>
 chk (List.length (List.take 35 c4) = 35) (
 cI .u8 (List.take 35 c4) 0 fun v5 =>
 cI .u8 (List.take 35 c4) 1 fun v6 =>
 cI .u8 (List.take 35 c4) 2 fun v7 =>
 cI .u8 (List.take 35 c4) 3 fun v8 =>
 cI .u8 (List.take 35 c4) 4 fun v9 =>
 cI .u8 (List.take 35 c4) 5 fun v10 =>
 cI .u8 (List.take 35 c4) 6 fun v11 =>
 cI .u8 (List.take 35 c4) 7 fun v12 =>
 cI .u8 (List.take 35 c4) 8 fun v13 =>
 cI .u8 (List.take 35 c4) 9 fun v14 =>
 cI .u8 (List.take 35 c4) 10 fun v15 =>
 cI .u8 (List.take 35 c4) 11 fun v16 =>
 cI .u8 (List.take 35 c4) 12 fun v17 =>
 cI .u8 (List.take 35 c4) 13 fun v18 =>
 cI .u8 (List.take 35 c4) 14 fun v19 =>
 cI .u8 (List.take 35 c4) 15 fun v20 =>
 cI .u8 (List.take 35 c4) 16 fun v21 =>
 cI .u8 (List.take 35 c4) 17 fun v22 =>
 cI .u8 (List.take 35 c4) 18 fun v23 =>
 cI .u8 (List.take 35 c4) 19 fun v24 =>
 cI .u8 (List.take 35 c4) 20 fun v25 =>
 cI .u8 (List.take 35 c4) 21 fun v26 =>
 cI .u8 (List.take 35 c4) 22 fun v27 =>
 cI .u8 (List.take 35 c4) 23 fun v28 =>
 cI .u8 (List.take 35 c4) 24 fun v29 =>
 cI .u8 (List.take 35 c4) 25 fun v30 =>
 cI .u8 (List.take 35 c4) 26 fun v31 =>
 cI .u8 (List.take 35 c4) 27 fun v32 =>
 cI .u8 (List.take 35 c4) 28 fun v33 =>
 cI .u8 (List.take 35 c4) 29 fun v34 =>
 cI .u8 (List.take 35 c4) 30 fun v35 =>
 cI .u8 (List.take 35 c4) 31 fun v36 =>
 cI .u32 (List.take 35 c4) 32 fun v37 =>
 cI .u32 (List.take 35 c4) 33 fun v38 =>
 cL 1 (List.take 35 c4) 34 fun v39 =>
 F_keep_Items β L v39 (40 : Int) (600 : Int) (fun v40 =>
 ifb (!v40) (
 k_ret false b1_0 b1_1 b1_2 b1_3) (
 lt (IntKind.wrap .i64 ((p20 : Int) + (1 : Int))) fun x41 =>
 k_hbbaba p18 p19 x41 b1_0 b1_1 b1_2 b1_3)))) (
 k_x0 b1_0 b1_1 b1_2 b1_3)
theorem bbbaba_keep_Tx_ok {β : Type} (F_keep_Items : T_keep_Items) (L : Nat) (p18 : List (List V)) (p19 : Int) (p20 : Int) (b1_0 : Int) (b1_1 : List (List V)) (b1_2 : List (List V)) (b1_3 : Int) (X : St → Option β) (K : KT β) : runC sh_keep_Tx (cb_keep_Tx F_keep_Items L) 0 L cbbabaa_keep_Tx (st_hbbaba_keep_Tx p18 p19 p20 b1_0 b1_1 b1_2 b1_3) (loopK mbbaba_keep_Tx X K) = bbbaba_keep_Tx F_keep_Items L p18 p19 p20 b1_0 b1_1 b1_2 b1_3 (fun p2 b1_0 b1_1 b1_2 b1_3 => K .ret (st_ret_keep_Tx p2 b1_0 b1_1 b1_2 b1_3)) (fun p18 p19 p20 b1_0 b1_1 b1_2 b1_3 => X (st_hbbaba_keep_Tx p18 p19 p20 b1_0 b1_1 b1_2 b1_3)) (fun b1_0 b1_1 b1_2 b1_3 => K (.exit 0) (st_x0_keep_Tx b1_0 b1_1 b1_2 b1_3)) := by kernel_rfl
def rbbabaret_keep_Tx {β : Type} (F_keep_Items : T_keep_Items) (L : Nat) (p2 : Bool) (b1_0 : Int) (b1_1 : List (List V)) (b1_2 : List (List V)) (b1_3 : Int) (k_fin : Bool → Option β) : Option β :=
 k_fin p2
theorem rbbabaret_keep_Tx_ok {β : Type} (F_keep_Items : T_keep_Items) (L : Nat) (p2 : Bool) (b1_0 : Int) (b1_1 : List (List V)) (b1_2 : List (List V)) (b1_3 : Int) (k : V → Bor → Option β) : (blockK 0 (seqK (runC sh_keep_Tx (cb_keep_Tx F_keep_Items L) 0 L cbbb_keep_Tx) (finK 0 (CF.res cf_keep_Tx) k))) .ret (st_ret_keep_Tx p2 b1_0 b1_1 b1_2 b1_3) = rbbabaret_keep_Tx F_keep_Items L p2 b1_0 b1_1 b1_2 b1_3 (fun p0 => k (V.sc (.bool p0)) []) := by kernel_rfl
def rbbabax0_keep_Tx {β : Type} (F_keep_Items : T_keep_Items) (L : Nat) (b1_0 : Int) (b1_1 : List (List V)) (b1_2 : List (List V)) (b1_3 : Int) (k_hbbbaba : List (List V) → Int → Int → Int → List (List V) → List (List V) → Int → Option β) : Option β :=
 k_hbbbaba b1_2 ((List.length b1_2 : Nat) : Int) (0 : Int) b1_0 b1_1 b1_2 b1_3
theorem rbbabax0_keep_Tx_ok {β : Type} (F_keep_Items : T_keep_Items) (L : Nat) (b1_0 : Int) (b1_1 : List (List V)) (b1_2 : List (List V)) (b1_3 : Int) (k : V → Bor → Option β) : (blockK 0 (seqK (runC sh_keep_Tx (cb_keep_Tx F_keep_Items L) 0 L cbbb_keep_Tx) (finK 0 (CF.res cf_keep_Tx) k))) (.exit 0) (st_x0_keep_Tx b1_0 b1_1 b1_2 b1_3) = rbbabax0_keep_Tx F_keep_Items L b1_0 b1_1 b1_2 b1_3 (fun p30 p31 p32 b1_0 b1_1 b1_2 b1_3 => loopM (runC sh_keep_Tx (cb_keep_Tx F_keep_Items L) 0 L cbbbabaa_keep_Tx) mbbbaba_keep_Tx L (st_hbbbaba_keep_Tx p30 p31 p32 b1_0 b1_1 b1_2 b1_3) (blockK 2 (seqK (runC sh_keep_Tx (cb_keep_Tx F_keep_Items L) 0 L cbbbb_keep_Tx) (finK 0 (CF.res cf_keep_Tx) k)))) := by kernel_rfl
def bbbbaba_keep_Tx {β : Type} (F_keep_Items : T_keep_Items) (L : Nat) (p30 : List (List V)) (p31 : Int) (p32 : Int) (b1_0 : Int) (b1_1 : List (List V)) (b1_2 : List (List V)) (b1_3 : Int) (k_ret : Bool → Int → List (List V) → List (List V) → Int → Option β) (k_hbbbaba : List (List V) → Int → Int → Int → List (List V) → List (List V) → Int → Option β) (k_x2 : Int → List (List V) → List (List V) → Int → Option β) : Option β :=
 ifb (decide (p32 < p31)) (
 idx p30 p32 fun c42 =>
 chk (List.length (List.take 2 c42) = 2) (
 cI .i64 (List.take 2 c42) 0 fun v43 =>
 cL 1 (List.take 2 c42) 1 fun v44 =>
 ifb (decide (((List.length v44 : Nat) : Int) > (600 : Int))) (
 k_ret false b1_0 b1_1 b1_2 b1_3) (
 lt (IntKind.wrap .i64 ((p32 : Int) + (1 : Int))) fun x45 =>
 k_hbbbaba p30 p31 x45 b1_0 b1_1 b1_2 b1_3))) (
 k_x2 b1_0 b1_1 b1_2 b1_3)
theorem bbbbaba_keep_Tx_ok {β : Type} (F_keep_Items : T_keep_Items) (L : Nat) (p30 : List (List V)) (p31 : Int) (p32 : Int) (b1_0 : Int) (b1_1 : List (List V)) (b1_2 : List (List V)) (b1_3 : Int) (X : St → Option β) (K : KT β) : runC sh_keep_Tx (cb_keep_Tx F_keep_Items L) 0 L cbbbabaa_keep_Tx (st_hbbbaba_keep_Tx p30 p31 p32 b1_0 b1_1 b1_2 b1_3) (loopK mbbbaba_keep_Tx X K) = bbbbaba_keep_Tx F_keep_Items L p30 p31 p32 b1_0 b1_1 b1_2 b1_3 (fun p2 b1_0 b1_1 b1_2 b1_3 => K .ret (st_ret_keep_Tx p2 b1_0 b1_1 b1_2 b1_3)) (fun p30 p31 p32 b1_0 b1_1 b1_2 b1_3 => X (st_hbbbaba_keep_Tx p30 p31 p32 b1_0 b1_1 b1_2 b1_3)) (fun b1_0 b1_1 b1_2 b1_3 => K (.exit 2) (st_x2_keep_Tx b1_0 b1_1 b1_2 b1_3)) := by kernel_rfl
def rbbbabaret_keep_Tx {β : Type} (F_keep_Items : T_keep_Items) (L : Nat) (p2 : Bool) (b1_0 : Int) (b1_1 : List (List V)) (b1_2 : List (List V)) (b1_3 : Int) (k_fin : Bool → Option β) : Option β :=
 k_fin p2
theorem rbbbabaret_keep_Tx_ok {β : Type} (F_keep_Items : T_keep_Items) (L : Nat) (p2 : Bool) (b1_0 : Int) (b1_1 : List (List V)) (b1_2 : List (List V)) (b1_3 : Int) (k : V → Bor → Option β) : (blockK 2 (seqK (runC sh_keep_Tx (cb_keep_Tx F_keep_Items L) 0 L cbbbb_keep_Tx) (finK 0 (CF.res cf_keep_Tx) k))) .ret (st_ret_keep_Tx p2 b1_0 b1_1 b1_2 b1_3) = rbbbabaret_keep_Tx F_keep_Items L p2 b1_0 b1_1 b1_2 b1_3 (fun p0 => k (V.sc (.bool p0)) []) := by kernel_rfl
def rbbbabax2_keep_Tx {β : Type} (F_keep_Items : T_keep_Items) (L : Nat) (b1_0 : Int) (b1_1 : List (List V)) (b1_2 : List (List V)) (b1_3 : Int) (k_fin : Bool → Option β) : Option β :=
 k_fin true
theorem rbbbabax2_keep_Tx_ok {β : Type} (F_keep_Items : T_keep_Items) (L : Nat) (b1_0 : Int) (b1_1 : List (List V)) (b1_2 : List (List V)) (b1_3 : Int) (k : V → Bor → Option β) : (blockK 2 (seqK (runC sh_keep_Tx (cb_keep_Tx F_keep_Items L) 0 L cbbbb_keep_Tx) (finK 0 (CF.res cf_keep_Tx) k))) (.exit 2) (st_x2_keep_Tx b1_0 b1_1 b1_2 b1_3) = rbbbabax2_keep_Tx F_keep_Items L b1_0 b1_1 b1_2 b1_3 (fun p0 => k (V.sc (.bool p0)) []) := by kernel_rfl
def lbbaba_keep_Tx {β : Type} (F_keep_Items : T_keep_Items) (L : Nat) (k_ret : Bool → Int → List (List V) → List (List V) → Int → Option β) (k_x0 : Int → List (List V) → List (List V) → Int → Option β) : Nat → List (List V) → Int → Int → Int → List (List V) → List (List V) → Int → Option β
  | 0, _, _, _, _, _, _, _ => none
  | n + 1, p18, p19, p20, b1_0, b1_1, b1_2, b1_3 => bbbaba_keep_Tx F_keep_Items L p18 p19 p20 b1_0 b1_1 b1_2 b1_3 k_ret (fun p18 p19 p20 b1_0 b1_1 b1_2 b1_3 => lbbaba_keep_Tx F_keep_Items L k_ret k_x0 n p18 p19 p20 b1_0 b1_1 b1_2 b1_3) k_x0
theorem lbbaba_keep_Tx_ok {β : Type} (F_keep_Items : T_keep_Items) (L : Nat) (K : KT β) : ∀ (n : Nat) (p18 : List (List V)) (p19 : Int) (p20 : Int) (b1_0 : Int) (b1_1 : List (List V)) (b1_2 : List (List V)) (b1_3 : Int), loopM (runC sh_keep_Tx (cb_keep_Tx F_keep_Items L) 0 L cbbabaa_keep_Tx) mbbaba_keep_Tx n (st_hbbaba_keep_Tx p18 p19 p20 b1_0 b1_1 b1_2 b1_3) K = lbbaba_keep_Tx F_keep_Items L (fun p2 b1_0 b1_1 b1_2 b1_3 => K .ret (st_ret_keep_Tx p2 b1_0 b1_1 b1_2 b1_3)) (fun b1_0 b1_1 b1_2 b1_3 => K (.exit 0) (st_x0_keep_Tx b1_0 b1_1 b1_2 b1_3)) n p18 p19 p20 b1_0 b1_1 b1_2 b1_3 := by
  intro n
  induction n with
  | zero => intros; rfl
  | succ n ih =>
    intro p18 p19 p20 b1_0 b1_1 b1_2 b1_3
    refine (bbbaba_keep_Tx_ok F_keep_Items L p18 p19 p20 b1_0 b1_1 b1_2 b1_3 (fun σ => loopM (runC sh_keep_Tx (cb_keep_Tx F_keep_Items L) 0 L cbbabaa_keep_Tx) mbbaba_keep_Tx n σ K) K).trans ?_
    simp only [ih]
    rfl
def lbbbaba_keep_Tx {β : Type} (F_keep_Items : T_keep_Items) (L : Nat) (k_ret : Bool → Int → List (List V) → List (List V) → Int → Option β) (k_x2 : Int → List (List V) → List (List V) → Int → Option β) : Nat → List (List V) → Int → Int → Int → List (List V) → List (List V) → Int → Option β
  | 0, _, _, _, _, _, _, _ => none
  | n + 1, p30, p31, p32, b1_0, b1_1, b1_2, b1_3 => bbbbaba_keep_Tx F_keep_Items L p30 p31 p32 b1_0 b1_1 b1_2 b1_3 k_ret (fun p30 p31 p32 b1_0 b1_1 b1_2 b1_3 => lbbbaba_keep_Tx F_keep_Items L k_ret k_x2 n p30 p31 p32 b1_0 b1_1 b1_2 b1_3) k_x2
theorem lbbbaba_keep_Tx_ok {β : Type} (F_keep_Items : T_keep_Items) (L : Nat) (K : KT β) : ∀ (n : Nat) (p30 : List (List V)) (p31 : Int) (p32 : Int) (b1_0 : Int) (b1_1 : List (List V)) (b1_2 : List (List V)) (b1_3 : Int), loopM (runC sh_keep_Tx (cb_keep_Tx F_keep_Items L) 0 L cbbbabaa_keep_Tx) mbbbaba_keep_Tx n (st_hbbbaba_keep_Tx p30 p31 p32 b1_0 b1_1 b1_2 b1_3) K = lbbbaba_keep_Tx F_keep_Items L (fun p2 b1_0 b1_1 b1_2 b1_3 => K .ret (st_ret_keep_Tx p2 b1_0 b1_1 b1_2 b1_3)) (fun b1_0 b1_1 b1_2 b1_3 => K (.exit 2) (st_x2_keep_Tx b1_0 b1_1 b1_2 b1_3)) n p30 p31 p32 b1_0 b1_1 b1_2 b1_3 := by
  intro n
  induction n with
  | zero => intros; rfl
  | succ n ih =>
    intro p30 p31 p32 b1_0 b1_1 b1_2 b1_3
    refine (bbbbaba_keep_Tx_ok F_keep_Items L p30 p31 p32 b1_0 b1_1 b1_2 b1_3 (fun σ => loopM (runC sh_keep_Tx (cb_keep_Tx F_keep_Items L) 0 L cbbbabaa_keep_Tx) mbbbaba_keep_Tx n σ K) K).trans ?_
    simp only [ih]
    rfl
def Crbbabax0_keep_Tx {β : Type} (F_keep_Items : T_keep_Items) (L : Nat) (b1_0 : Int) (b1_1 : List (List V)) (b1_2 : List (List V)) (b1_3 : Int) (k_fin : Bool → Option β) : Option β :=
 rbbabax0_keep_Tx F_keep_Items L b1_0 b1_1 b1_2 b1_3 (fun p30 p31 p32 b1_0 b1_1 b1_2 b1_3 => lbbbaba_keep_Tx F_keep_Items L (fun p2 b1_0 b1_1 b1_2 b1_3 => rbbbabaret_keep_Tx F_keep_Items L p2 b1_0 b1_1 b1_2 b1_3 k_fin) (fun b1_0 b1_1 b1_2 b1_3 => rbbbabax2_keep_Tx F_keep_Items L b1_0 b1_1 b1_2 b1_3 k_fin) L p30 p31 p32 b1_0 b1_1 b1_2 b1_3)
theorem Crbbabax0_keep_Tx_ok {β : Type} (F_keep_Items : T_keep_Items) (L : Nat) (b1_0 : Int) (b1_1 : List (List V)) (b1_2 : List (List V)) (b1_3 : Int) (k : V → Bor → Option β) : (blockK 0 (seqK (runC sh_keep_Tx (cb_keep_Tx F_keep_Items L) 0 L cbbb_keep_Tx) (finK 0 (CF.res cf_keep_Tx) k))) (.exit 0) (st_x0_keep_Tx b1_0 b1_1 b1_2 b1_3) = Crbbabax0_keep_Tx F_keep_Items L b1_0 b1_1 b1_2 b1_3 (fun p0 => k (V.sc (.bool p0)) []) := by
  refine (rbbabax0_keep_Tx_ok F_keep_Items L b1_0 b1_1 b1_2 b1_3 k).trans ?_
  unfold Crbbabax0_keep_Tx
  simp only [lbbbaba_keep_Tx_ok, rbbbabaret_keep_Tx_ok, rbbbabax2_keep_Tx_ok]
def R_keep_Tx {β : Type} (F_keep_Items : T_keep_Items) (L : Nat) (p0 : List V) (k_fin : Bool → Option β) : Option β :=
 e_keep_Tx F_keep_Items L p0 k_fin (fun p18 p19 p20 b1_0 b1_1 b1_2 b1_3 => lbbaba_keep_Tx F_keep_Items L (fun p2 b1_0 b1_1 b1_2 b1_3 => rbbabaret_keep_Tx F_keep_Items L p2 b1_0 b1_1 b1_2 b1_3 k_fin) (fun b1_0 b1_1 b1_2 b1_3 => Crbbabax0_keep_Tx F_keep_Items L b1_0 b1_1 b1_2 b1_3 k_fin) L p18 p19 p20 b1_0 b1_1 b1_2 b1_3)
theorem R_keep_Tx_ok {β : Type} (F_keep_Items : T_keep_Items) (L : Nat) (p0 : List V) (k : V → Bor → Option β) : funC sh_keep_Tx (cb_keep_Tx F_keep_Items L) L cf_keep_Tx [(V.agg p0)] [] k = R_keep_Tx F_keep_Items L p0 (fun p0 => k (V.sc (.bool p0)) []) := by
  refine (e_keep_Tx_ok F_keep_Items L p0 k).trans ?_
  unfold R_keep_Tx
  simp only [lbbaba_keep_Tx_ok, rbbabaret_keep_Tx_ok, Crbbabax0_keep_Tx_ok]
abbrev T_keep_Tx := ∀ (β : Type), Nat → List V → (Bool → Option β) → Option β
def F_keep_Tx (β : Type) (L : Nat) (p0 : List V) (k_fin : Bool → Option β) : Option β := R_keep_Tx F_keep_Items L p0 k_fin
def d_keep_Tx (F_keep_Tx : T_keep_Tx) (L : Nat) (β : Type) (args : List V) (bor : Bor) (k : V → Bor → Option β) : Option β := match args, bor with
  | [a0], [] => aG a0 fun p0 => F_keep_Tx β L p0 (fun p0 => k (V.sc (.bool p0)) [])
  | _, _ => none
theorem d_keep_Tx_ok (L : Nat) (β : Type) (args : List V) (bor : Bor) (k : V → Bor → Option β) (r : β) (h : d_keep_Tx F_keep_Tx L β args bor k = some r) : funC sh_keep_Tx (cb_keep_Tx F_keep_Items L) L cf_keep_Tx args bor k = some r := by
  unfold d_keep_Tx at h
  split at h
  · have q := aG_inv h; clear h; obtain ⟨p0, rfl, h⟩ := q
    exact (R_keep_Tx_ok F_keep_Items L p0 k).trans h
  · cases h
/-! tx_Final : 133 -/
def cbbabaa_tx_Final : CC := (.seq (.reg [⟨(some 16), false, none, .bin .lss (.tmp 15) (.tmp 14)⟩])
 (.seq (.cond (.tmp 16)
 .skip
 (.seq (.mask (bl 0 23) (bl 8388527 23))
 (.exit 0)))
 (.seq (.block 1 (.seq (.reg [⟨(some 17), false, none, .indexAddrS 35 (.tmp 13) (.tmp 15)⟩,
   ⟨(some 18), false, none, .load true 35 (.tmp 17) false⟩,
   ⟨(some 6), false, none, .alloc false [(.sc (.int .u8 0)), (.sc (.int .u8 0)), (.sc (.int .u8 0)), (.sc (.int .u8 0)), (.sc (.int .u8 0)), (.sc (.int .u8 0)), (.sc (.int .u8 0)), (.sc (.int .u8 0)), (.sc (.int .u8 0)), (.sc (.int .u8 0)), (.sc (.int .u8 0)), (.sc (.int .u8 0)), (.sc (.int .u8 0)), (.sc (.int .u8 0)), (.sc (.int .u8 0)), (.sc (.int .u8 0)), (.sc (.int .u8 0)), (.sc (.int .u8 0)), (.sc (.int .u8 0)), (.sc (.int .u8 0)), (.sc (.int .u8 0)), (.sc (.int .u8 0)), (.sc (.int .u8 0)), (.sc (.int .u8 0)), (.sc (.int .u8 0)), (.sc (.int .u8 0)), (.sc (.int .u8 0)), (.sc (.int .u8 0)), (.sc (.int .u8 0)), (.sc (.int .u8 0)), (.sc (.int .u8 0)), (.sc (.int .u8 0)), (.sc (.int .u32 0)), (.sc (.int .u32 0)), (.gs 1 [])]⟩,
   ⟨none, false, none, .store 35 (.tmp 6) (.tmp 18)⟩])
 (.seq (.reg [⟨(some 19), false, none, .fieldAddr 33 (.tmp 6)⟩,
   ⟨(some 20), false, none, .load false 1 (.tmp 19) false⟩,
   ⟨(some 21), false, none, .bin .neq (.tmp 20) (.const (.sc (.int .u32 4294967295)))⟩])
 (.cond (.tmp 21)
 (.seq (.reg [⟨(some 4), false, none, .move (.const (.sc (.bool false))) false⟩])
 (.seq (.mask (bl 16 23) (bl 8388543 23))
 .ret))
 .skip))))
 (.reg [⟨(some 22), false, none, .bin .add (.tmp 15) (.const (.sc (.int .i64 1)))⟩,
   ⟨(some 15), false, none, .move (.tmp 22) false⟩]))))
def cbbb_tx_Final : CC := (.seq (.reg [⟨(some 4), false, none, .move (.const (.sc (.bool true))) false⟩])
 .ret)
def cf_tx_Final : CF := ⟨23, [.tmp 4],
 (.seq (.reg [⟨(some 2), false, none, .box false (.tmp 0)⟩,
   ⟨(some 4), false, none, .move (.const (.sc (.bool false))) false⟩])
 (.seq (.seq (.reg [⟨(some 7), false, none, .fieldAddr 3 (.tmp 2)⟩,
   ⟨(some 8), false, none, .load false 1 (.tmp 7) false⟩,
   ⟨(some 9), false, none, .conv .i64 (.tmp 8)⟩,
   ⟨(some 10), false, none, .move (.tmp 1) false⟩,
   ⟨(some 11), false, none, .bin .leq (.tmp 9) (.tmp 10)⟩])
 (.cond (.tmp 11)
 (.seq (.reg [⟨(some 4), false, none, .move (.const (.sc (.bool true))) false⟩])
 .ret)
 .skip))
 (.seq (.seq (.reg [⟨(some 12), false, none, .fieldAddr 1 (.tmp 2)⟩,
   ⟨(some 13), false, none, .load false 1 (.tmp 12) false⟩,
   ⟨(some 14), false, none, .lenS (.tmp 13)⟩,
   ⟨(some 15), false, none, .move (.const (.sc (.int .i64 0))) false⟩])
 (.block 0 (.loop (bl 57344 23) (bl 8388527 23)
 cbbabaa_tx_Final)))
 cbbb_tx_Final)))⟩
def hint_tx_Final : Hint := ⟨[], [], [none, none, none, some ((bl 57344 23), (bl 8388527 23)), none, some ((bl 0 23), (bl 8388527 23)), none, none, some ((bl 16 23), (bl 8388543 23)), none], []⟩
def sh_tx_Final : Nat → Sh := shOf [(2, (.row [(.int .u32), (.sl 35), (.sl 2), (.int .u32)])), (18, (.row [(.int .u8), (.int .u8), (.int .u8), (.int .u8), (.int .u8), (.int .u8), (.int .u8), (.int .u8), (.int .u8), (.int .u8), (.int .u8), (.int .u8), (.int .u8), (.int .u8), (.int .u8), (.int .u8), (.int .u8), (.int .u8), (.int .u8), (.int .u8), (.int .u8), (.int .u8), (.int .u8), (.int .u8), (.int .u8), (.int .u8), (.int .u8), (.int .u8), (.int .u8), (.int .u8), (.int .u8), (.int .u8), (.int .u32), (.int .u32), (.sl 1)]))]
def cb_tx_Final (L : Nat) : CBC := noC
def mbbaba_tx_Final : St → St := mask (bl 57344 23) (bl 8388527 23)
def st_hbbaba_tx_Final (p13 : List (List V)) (p14 : Int) (p15 : Int) (b2_0 : Int) (b2_1 : List (List V)) (b2_2 : List (List V)) (b2_3 : Int) : St := ⟨[.junk, .junk, .junk, .junk, .junk, .junk, .junk, .junk, .junk, .junk, .junk, .junk, .junk, (V.sl 35 p13), (V.sc (.int .i64 p14)), (V.sc (.int .i64 p15)), .junk, .junk, .junk, .junk, .junk, .junk, .junk], [.gone, .gone, (.live false [(V.sc (.int .u32 b2_0)), (V.sl 35 b2_1), (V.sl 2 b2_2), (V.sc (.int .u32 b2_3))]), .gone, .gone, .gone, .gone, .gone, .gone, .gone, .gone, .gone, .gone, .gone, .gone, .gone, .gone, .gone, .gone, .gone, .gone, .gone, .gone]⟩
def st_ret_tx_Final (p4 : Bool) (b2_0 : Int) (b2_1 : List (List V)) (b2_2 : List (List V)) (b2_3 : Int) : St := ⟨[.junk, .junk, .junk, .junk, (V.sc (.bool p4)), .junk, .junk, .junk, .junk, .junk, .junk, .junk, .junk, .junk, .junk, .junk, .junk, .junk, .junk, .junk, .junk, .junk, .junk], [.gone, .gone, (.live false [(V.sc (.int .u32 b2_0)), (V.sl 35 b2_1), (V.sl 2 b2_2), (V.sc (.int .u32 b2_3))]), .gone, .gone, .gone, .gone, .gone, .gone, .gone, .gone, .gone, .gone, .gone, .gone, .gone, .gone, .gone, .gone, .gone, .gone, .gone, .gone]⟩
def st_x0_tx_Final (b2_0 : Int) (b2_1 : List (List V)) (b2_2 : List (List V)) (b2_3 : Int) : St := ⟨[.junk, .junk, .junk, .junk, .junk, .junk, .junk, .junk, .junk, .junk, .junk, .junk, .junk, .junk, .junk, .junk, .junk, .junk, .junk, .junk, .junk, .junk, .junk], [.gone, .gone, (.live false [(V.sc (.int .u32 b2_0)), (V.sl 35 b2_1), (V.sl 2 b2_2), (V.sc (.int .u32 b2_3))]), .gone, .gone, .gone, .gone, .gone, .gone, .gone, .gone, .gone, .gone, .gone, .gone, .gone, .gone, .gone, .gone, .gone, .gone, .gone, .gone]⟩
def e_tx_Final {β : Type} (L : Nat) (p0 : List V) (p1 : Int) (k_fin : Bool → Option β) (k_hbbaba : List (List V) → Int → Int → Int → List (List V) → List (List V) → Int → Option β) : Option β :=
 chk (List.length p0 = 4) (
 cI .u32 p0 0 fun v0 =>
 cL 35 p0 1 fun v1 =>
 cL 2 p0 2 fun v2 =>
 cI .u32 p0 3 fun v3 =>
 lt (IntKind.wrap .i64 v3) fun x4 =>
 ifb (decide (x4 ≤ p1)) (
 k_fin true) (
 k_hbbaba v1 ((List.length v1 : Nat) : Int) (0 : Int) v0 v1 v2 v3))
theorem e_tx_Final_ok {β : Type} (L : Nat) (p0 : List V) (p1 : Int) (k : V → Bor → Option β) : funC sh_tx_Final (cb_tx_Final L) L cf_tx_Final [(V.agg p0), (V.sc (.int .i64 p1))] [] k = e_tx_Final L p0 p1 (fun p0 => k (V.sc (.bool p0)) []) (fun p13 p14 p15 b2_0 b2_1 b2_2 b2_3 => loopM (runC sh_tx_Final (cb_tx_Final L) 0 L cbbabaa_tx_Final) mbbaba_tx_Final L (st_hbbaba_tx_Final p13 p14 p15 b2_0 b2_1 b2_2 b2_3) (blockK 0 (seqK (runC sh_tx_Final (cb_tx_Final L) 0 L cbbb_tx_Final) (finK 0 (CF.res cf_tx_Final) k)))) := by kernel_rfl
def bbbaba_tx_Final {β : Type} (L : Nat) (p13 : List (List V)) (p14 : Int) (p15 : Int) (b2_0 : Int) (b2_1 : List (List V)) (b2_2 : List (List V)) (b2_3 : Int) (k_ret : Bool → Int → List (List V) → List (List V) → Int → Option β) (k_hbbaba : List (List V) → Int → Int → Int → List (List V) → List (List V) → Int → Option β) (k_x0 : Int → List (List V) → List (List V) → Int → Option β) : Option β :=
 ifb (decide (p15 < p14)) (
 idx p13 p15 fun c5 =>
 chk (List.length (List.take 35 c5) = 35) (
 cI .u8 (List.take 35 c5) 0 fun v6 =>
 cI .u8 (List.take 35 c5) 1 fun v7 =>
 cI .u8 (List.take 35 c5) 2 fun v8 =>
 cI .u8 (List.take 35 c5) 3 fun v9 =>
 cI .u8 (List.take 35 c5) 4 fun v10 =>
 cI .u8 (List.take 35 c5) 5 fun v11 =>
 cI .u8 (List.take 35 c5) 6 fun v12 =>
 cI .u8 (List.take 35 c5) 7 fun v13 =>
 cI .u8 (List.take 35 c5) 8 fun v14 =>
 cI .u8 (List.take 35 c5) 9 fun v15 =>
 cI .u8 (List.take 35 c5) 10 fun v16 =>
 cI .u8 (List.take 35 c5) 11 fun v17 =>
 cI .u8 (List.take 35 c5) 12 fun v18 =>
 cI .u8 (List.take 35 c5) 13 fun v19 =>
 cI .u8 (List.take 35 c5) 14 fun v20 =>
 cI .u8 (List.take 35 c5) 15 fun v21 =>
 cI .u8 (List.take 35 c5) 16 fun v22 =>
 cI .u8 (List.take 35 c5) 17 fun v23 =>
 cI .u8 (List.take 35 c5) 18 fun v24 =>
 cI .u8 (List.take 35 c5) 19 fun v25 =>
 cI .u8 (List.take 35 c5) 20 fun v26 =>
 cI .u8 (List.take 35 c5) 21 fun v27 =>
 cI .u8 (List.take 35 c5) 22 fun v28 =>
 cI .u8 (List.take 35 c5) 23 fun v29 =>
 cI .u8 (List.take 35 c5) 24 fun v30 =>
 cI .u8 (List.take 35 c5) 25 fun v31 =>
 cI .u8 (List.take 35 c5) 26 fun v32 =>
 cI .u8 (List.take 35 c5) 27 fun v33 =>
 cI .u8 (List.take 35 c5) 28 fun v34 =>
 cI .u8 (List.take 35 c5) 29 fun v35 =>
 cI .u8 (List.take 35 c5) 30 fun v36 =>
 cI .u8 (List.take 35 c5) 31 fun v37 =>
 cI .u32 (List.take 35 c5) 32 fun v38 =>
 cI .u32 (List.take 35 c5) 33 fun v39 =>
 cL 1 (List.take 35 c5) 34 fun v40 =>
 ifb ((v39 : Int) != (4294967295 : Int)) (
 k_ret false b2_0 b2_1 b2_2 b2_3) (
 lt (IntKind.wrap .i64 ((p15 : Int) + (1 : Int))) fun x41 =>
 k_hbbaba p13 p14 x41 b2_0 b2_1 b2_2 b2_3))) (
 k_x0 b2_0 b2_1 b2_2 b2_3)
theorem bbbaba_tx_Final_ok {β : Type} (L : Nat) (p13 : List (List V)) (p14 : Int) (p15 : Int) (b2_0 : Int) (b2_1 : List (List V)) (b2_2 : List (List V)) (b2_3 : Int) (X : St → Option β) (K : KT β) : runC sh_tx_Final (cb_tx_Final L) 0 L cbbabaa_tx_Final (st_hbbaba_tx_Final p13 p14 p15 b2_0 b2_1 b2_2 b2_3) (loopK mbbaba_tx_Final X K) = bbbaba_tx_Final L p13 p14 p15 b2_0 b2_1 b2_2 b2_3 (fun p4 b2_0 b2_1 b2_2 b2_3 => K .ret (st_ret_tx_Final p4 b2_0 b2_1 b2_2 b2_3)) (fun p13 p14 p15 b2_0 b2_1 b2_2 b2_3 => X (st_hbbaba_tx_Final p13 p14 p15 b2_0 b2_1 b2_2 b2_3)) (fun b2_0 b2_1 b2_2 b2_3 => K (.exit 0) (st_x0_tx_Final b2_0 b2_1 b2_2 b2_3)) := by kernel_rfl
def rbbabaret_tx_Final {β : Type} (L : Nat) (p4 : Bool) (b2_0 : Int) (b2_1 : List (List V)) (b2_2 : List (List V)) (b2_3 : Int) (k_fin : Bool → Option β) : Option β :=
 k_fin p4
theorem rbbabaret_tx_Final_ok {β : Type} (L : Nat) (p4 : Bool) (b2_0 : Int) (b2_1 : List (List V)) (b2_2 : List (List V)) (b2_3 : Int) (k : V → Bor → Option β) : (blockK 0 (seqK (runC sh_tx_Final (cb_tx_Final L) 0 L cbbb_tx_Final) (finK 0 (CF.res cf_tx_Final) k))) .ret (st_ret_tx_Final p4 b2_0 b2_1 b2_2 b2_3) = rbbabaret_tx_Final L p4 b2_0 b2_1 b2_2 b2_3 (fun p0 => k (V.sc (.bool p0)) []) := by kernel_rfl
def rbbabax0_tx_Final {β : Type} (L : Nat) (b2_0 : Int) (b2_1 : List (List V)) (b2_2 : List (List V)) (b2_3 : Int) (k_fin : Bool → Option β) : Option β :=
 k_fin true
theorem rbbabax0_tx_Final_ok {β : Type} (L : Nat) (b2_0 : Int) (b2_1 : List (List V)) (b2_2 : List (List V)) (b2_3 : Int) (k : V → Bor → Option β) : (blockK 0 (seqK (runC sh_tx_Final (cb_tx_Final L) 0 L cbbb_tx_Final) (finK 0 (CF.res cf_tx_Final) k))) (.exit 0) (st_x0_tx_Final b2_0 b2_1 b2_2 b2_3) = rbbabax0_tx_Final L b2_0 b2_1 b2_2 b2_3 (fun p0 => k (V.sc (.bool p0)) []) := by kernel_rfl
def lbbaba_tx_Final {β : Type} (L : Nat) (k_ret : Bool → Int → List (List V) → List (List V) → Int → Option β) (k_x0 : Int → List (List V) → List (List V) → Int → Option β) : Nat → List (List V) → Int → Int → Int → List (List V) → List (List V) → Int → Option β
  | 0, _, _, _, _, _, _, _ => none
  | n + 1, p13, p14, p15, b2_0, b2_1, b2_2, b2_3 => bbbaba_tx_Final L p13 p14 p15 b2_0 b2_1 b2_2 b2_3 k_ret (fun p13 p14 p15 b2_0 b2_1 b2_2 b2_3 => lbbaba_tx_Final L k_ret k_x0 n p13 p14 p15 b2_0 b2_1 b2_2 b2_3) k_x0
theorem lbbaba_tx_Final_ok {β : Type} (L : Nat) (K : KT β) : ∀ (n : Nat) (p13 : List (List V)) (p14 : Int) (p15 : Int) (b2_0 : Int) (b2_1 : List (List V)) (b2_2 : List (List V)) (b2_3 : Int), loopM (runC sh_tx_Final (cb_tx_Final L) 0 L cbbabaa_tx_Final) mbbaba_tx_Final n (st_hbbaba_tx_Final p13 p14 p15 b2_0 b2_1 b2_2 b2_3) K = lbbaba_tx_Final L (fun p4 b2_0 b2_1 b2_2 b2_3 => K .ret (st_ret_tx_Final p4 b2_0 b2_1 b2_2 b2_3)) (fun b2_0 b2_1 b2_2 b2_3 => K (.exit 0) (st_x0_tx_Final b2_0 b2_1 b2_2 b2_3)) n p13 p14 p15 b2_0 b2_1 b2_2 b2_3 := by
  intro n
  induction n with
  | zero => intros; rfl
  | succ n ih =>
    intro p13 p14 p15 b2_0 b2_1 b2_2 b2_3
    refine (bbbaba_tx_Final_ok L p13 p14 p15 b2_0 b2_1 b2_2 b2_3 (fun σ => loopM (runC sh_tx_Final (cb_tx_Final L) 0 L cbbabaa_tx_Final) mbbaba_tx_Final n σ K) K).trans ?_
    simp only [ih]
    rfl
def R_tx_Final {β : Type} (L : Nat) (p0 : List V) (p1 : Int) (k_fin : Bool → Option β) : Option β :=
 e_tx_Final L p0 p1 k_fin (fun p13 p14 p15 b2_0 b2_1 b2_2 b2_3 => lbbaba_tx_Final L (fun p4 b2_0 b2_1 b2_2 b2_3 => rbbabaret_tx_Final L p4 b2_0 b2_1 b2_2 b2_3 k_fin) (fun b2_0 b2_1 b2_2 b2_3 => rbbabax0_tx_Final L b2_0 b2_1 b2_2 b2_3 k_fin) L p13 p14 p15 b2_0 b2_1 b2_2 b2_3)
theorem R_tx_Final_ok {β : Type} (L : Nat) (p0 : List V) (p1 : Int) (k : V → Bor → Option β) : funC sh_tx_Final (cb_tx_Final L) L cf_tx_Final [(V.agg p0), (V.sc (.int .i64 p1))] [] k = R_tx_Final L p0 p1 (fun p0 => k (V.sc (.bool p0)) []) := by
  refine (e_tx_Final_ok L p0 p1 k).trans ?_
  unfold R_tx_Final
  simp only [lbbaba_tx_Final_ok, rbbabaret_tx_Final_ok, rbbabax0_tx_Final_ok]
abbrev T_tx_Final := ∀ (β : Type), Nat → List V → Int → (Bool → Option β) → Option β
def F_tx_Final (β : Type) (L : Nat) (p0 : List V) (p1 : Int) (k_fin : Bool → Option β) : Option β := R_tx_Final L p0 p1 k_fin
def d_tx_Final (F_tx_Final : T_tx_Final) (L : Nat) (β : Type) (args : List V) (bor : Bor) (k : V → Bor → Option β) : Option β := match args, bor with
  | [a0, a1], [] => aG a0 fun p0 => aI .i64 a1 fun p1 => F_tx_Final β L p0 p1 (fun p0 => k (V.sc (.bool p0)) [])
  | _, _ => none
theorem d_tx_Final_ok (L : Nat) (β : Type) (args : List V) (bor : Bor) (k : V → Bor → Option β) (r : β) (h : d_tx_Final F_tx_Final L β args bor k = some r) : funC sh_tx_Final (cb_tx_Final L) L cf_tx_Final args bor k = some r := by
  unfold d_tx_Final at h
  split at h
  · have q := aG_inv h; clear h; obtain ⟨p0, rfl, h⟩ := q
    have q := aI_inv h; clear h; obtain ⟨p1, rfl, h⟩ := q
    exact (R_tx_Final_ok L p0 p1 k).trans h
  · cases h
/-! law09_TxLater : 121 -/
def cf_law09_TxLater : CF := ⟨28, [.tmp 6],
 (.seq (.reg [⟨(some 3), false, none, .box false (.tmp 0)⟩,
   ⟨(some 6), false, none, .move (.const (.sc (.bool false))) false⟩])
 (.seq (.seq (.reg [⟨(some 7), false, none, .call 126 []⟩,
   ⟨(some 8), false, none, .un .not (.tmp 7)⟩])
 (.cond (.tmp 8)
 (.seq (.reg [⟨(some 6), false, none, .move (.const (.sc (.bool false))) false⟩])
 .ret)
 .skip))
 (.seq (.reg [⟨(some 9), false, none, .load true 4 (.tmp 3) false⟩,
   ⟨(some 10), false, none, .call 127 [((.tmp 9), true)]⟩,
   ⟨(some 11), false, none, .un .not (.tmp 10)⟩,
   ⟨(some 12), false, none, .move (.tmp 11) false⟩,
   ⟨(some 13), false, (some (12, false)), .load true 4 (.tmp 3) false⟩,
   ⟨(some 14), false, (some (12, false)), .move (.tmp 1) false⟩,
   ⟨(some 15), false, (some (12, false)), .conv .i64 (.tmp 14)⟩,
   ⟨(some 16), false, (some (12, false)), .call 133 [((.tmp 13), true), ((.tmp 15), false)]⟩,
   ⟨(some 17), false, (some (12, false)), .un .not (.tmp 16)⟩,
   ⟨(some 18), false, none, .pick (.tmp 12) (.const (.sc (.bool true))) (.tmp 17)⟩,
   ⟨(some 19), false, none, .move (.tmp 18) false⟩,
   ⟨(some 20), false, (some (19, false)), .load true 4 (.tmp 3) false⟩,
   ⟨(some 21), false, (some (19, false)), .move (.tmp 1) false⟩,
   ⟨(some 22), false, (some (19, false)), .conv .i64 (.tmp 21)⟩,
   ⟨(some 23), false, (some (19, false)), .move (.tmp 2) false⟩,
   ⟨(some 24), false, (some (19, false)), .conv .i64 (.tmp 23)⟩,
   ⟨(some 25), false, (some (19, false)), .bin .add (.tmp 22) (.tmp 24)⟩,
   ⟨(some 26), false, (some (19, false)), .call 133 [((.tmp 20), true), ((.tmp 25), false)]⟩,
   ⟨(some 27), false, none, .pick (.tmp 19) (.const (.sc (.bool true))) (.tmp 26)⟩,
   ⟨(some 6), false, none, .move (.tmp 27) false⟩])
 .ret)))⟩
def hint_law09_TxLater : Hint := ⟨[], [], [none, none, none], []⟩
def sh_law09_TxLater : Nat → Sh := shOf [(3, (.row [(.int .u32), (.sl 35), (.sl 2), (.int .u32)]))]
def cb_law09_TxLater (F_law09_sane : T_law09_sane) (F_keep_Tx : T_keep_Tx) (F_tx_Final : T_tx_Final) (L : Nat) : CBC := (addC 133 (d_tx_Final F_tx_Final L) (addC 127 (d_keep_Tx F_keep_Tx L) (addC 126 (d_law09_sane F_law09_sane L) noC)))
def R_law09_TxLater {β : Type} (F_law09_sane : T_law09_sane) (F_keep_Tx : T_keep_Tx) (F_tx_Final : T_tx_Final) (L : Nat) (p0 : List V) (p1 : Int) (p2 : Int) (k_fin : Bool → Option β) : Option β :=
 chk (List.length p0 = 4) (
 cI .u32 p0 0 fun v0 =>
 cL 35 p0 1 fun v1 =>
 cL 2 p0 2 fun v2 =>
 cI .u32 p0 3 fun v3 =>
 F_law09_sane β L  (fun v4 =>
 ifb (!v4) (
 k_fin false) (
 F_keep_Tx β L [(V.sc (.int .u32 v0)), (V.sl 35 v1), (V.sl 2 v2), (V.sc (.int .u32 v3))] (fun v5 =>
 ifb (!v5) (
 k_fin true) (
 lt (IntKind.wrap .i64 p1) fun x6 =>
 F_tx_Final β L [(V.sc (.int .u32 v0)), (V.sl 35 v1), (V.sl 2 v2), (V.sc (.int .u32 v3))] x6 (fun v7 =>
 ifb (!v7) (
 k_fin true) (
 lt (IntKind.wrap .i64 p1) fun x8 =>
 lt (IntKind.wrap .i64 p2) fun x9 =>
 lt (IntKind.wrap .i64 ((x8 : Int) + x9)) fun x10 =>
 F_tx_Final β L [(V.sc (.int .u32 v0)), (V.sl 35 v1), (V.sl 2 v2), (V.sc (.int .u32 v3))] x10 (fun v11 =>
 k_fin v11))))))))
theorem R_law09_TxLater_ok {β : Type} (F_law09_sane : T_law09_sane) (F_keep_Tx : T_keep_Tx) (F_tx_Final : T_tx_Final) (L : Nat) (p0 : List V) (p1 : Int) (p2 : Int) (k : V → Bor → Option β) : funC sh_law09_TxLater (cb_law09_TxLater F_law09_sane F_keep_Tx F_tx_Final L) L cf_law09_TxLater [(V.agg p0), (V.sc (.int .u32 p1)), (V.sc (.int .u32 p2))] [] k = R_law09_TxLater F_law09_sane F_keep_Tx F_tx_Final L p0 p1 p2 (fun p0 => k (V.sc (.bool p0)) []) := by kernel_rfl
abbrev T_law09_TxLater := ∀ (β : Type), Nat → List V → Int → Int → (Bool → Option β) → Option β
def F_law09_TxLater (β : Type) (L : Nat) (p0 : List V) (p1 : Int) (p2 : Int) (k_fin : Bool → Option β) : Option β := R_law09_TxLater F_law09_sane F_keep_Tx F_tx_Final L p0 p1 p2 k_fin
def d_law09_TxLater (F_law09_TxLater : T_law09_TxLater) (L : Nat) (β : Type) (args : List V) (bor : Bor) (k : V → Bor → Option β) : Option β := match args, bor with
  | [a0, a1, a2], [] => aG a0 fun p0 => aI .u32 a1 fun p1 => aI .u32 a2 fun p2 => F_law09_TxLater β L p0 p1 p2 (fun p0 => k (V.sc (.bool p0)) [])
  | _, _ => none
theorem d_law09_TxLater_ok (L : Nat) (β : Type) (args : List V) (bor : Bor) (k : V → Bor → Option β) (r : β) (h : d_law09_TxLater F_law09_TxLater L β args bor k = some r) : funC sh_law09_TxLater (cb_law09_TxLater F_law09_sane F_keep_Tx F_tx_Final L) L cf_law09_TxLater args bor k = some r := by
  unfold d_law09_TxLater at h
  split at h
  · have q := aG_inv h; clear h; obtain ⟨p0, rfl, h⟩ := q
    have q := aI_inv h; clear h; obtain ⟨p1, rfl, h⟩ := q
    have q := aI_inv h; clear h; obtain ⟨p2, rfl, h⟩ := q
    exact (R_law09_TxLater_ok F_law09_sane F_keep_Tx F_tx_Final L p0 p1 p2 k).trans h
  · cases h
/-! ref01_little : 194 -/
def cbbabaa_ref01_little : CC := (.seq (.reg [⟨(some 12), false, none, .bin .lss (.tmp 11) (.tmp 10)⟩])
 (.seq (.cond (.tmp 12)
 .skip
 (.seq (.mask (bl 32 24) (bl 16777151 24))
 (.exit 0)))
 (.seq (.block 1 (.seq (.reg [⟨(some 13), false, none, .move (.tmp 11) false⟩,
   ⟨(some 6), false, none, .move (.tmp 13) false⟩])
 (.reg [⟨(some 14), false, none, .move (.tmp 5) false⟩,
   ⟨(some 15), false, none, .move (.tmp 6) false⟩,
   ⟨(some 16), false, none, .move (.tmp 0) false⟩,
   ⟨(some 17), false, none, .move (.tmp 6) false⟩,
   ⟨(some 18), false, none, .bin .mul (.const (.sc (.int .i64 8))) (.tmp 17)⟩,
   ⟨(some 19), false, none, .bin .shr (.tmp 16) (.tmp 18)⟩,
   ⟨(some 20), false, none, .conv .u8 (.tmp 19)⟩,
   ⟨(some 21), false, none, .indexAddrS 1 (.tmp 14) (.tmp 15)⟩,
   ⟨none, false, none, .store 1 (.tmp 21) (.tmp 20)⟩])))
 (.reg [⟨(some 22), false, none, .bin .add (.tmp 11) (.const (.sc (.int .i64 1)))⟩,
   ⟨(some 11), false, none, .move (.tmp 22) false⟩]))))
def cbbb_ref01_little : CC := (.seq (.reg [⟨(some 23), false, none, .move (.tmp 5) true⟩,
   ⟨(some 4), false, none, .move (.tmp 23) true⟩])
 .ret)
def cf_ref01_little : CF := ⟨24, [.tmp 4],
 (.seq (.reg [⟨(some 4), false, none, .move (.const (.gs 1 [])) true⟩])
 (.seq (.reg [⟨(some 7), false, none, .move (.tmp 1) false⟩,
   ⟨(some 8), true, none, .makeSlice 1 1 [(.sc (.int .u8 0))] (.tmp 7) (.tmp 7)⟩,
   ⟨(some 5), false, none, .move (.tmp 8) true⟩])
 (.seq (.seq (.reg [⟨(some 9), false, none, .move (.tmp 5) false⟩,
   ⟨(some 10), false, none, .lenS (.tmp 9)⟩,
   ⟨(some 11), false, none, .move (.const (.sc (.int .i64 0))) false⟩])
 (.block 0 (.loop (bl 3105 24) (bl 16777151 24)
 cbbabaa_ref01_little)))
 cbbb_ref01_little)))⟩
def hint_ref01_little : Hint := ⟨[(0, 0), (1, 2), (7, 0), (7, 1)], [(1, 1)], [none, some ((bl 3105 24), (bl 16777151 24)), none, some ((bl 32 24), (bl 16777151 24)), none, none], []⟩
def sh_ref01_little : Nat → Sh := shOf []
def cb_ref01_little (L : Nat) : CBC := noC
def mbbaba_ref01_little : St → St := mask (bl 3105 24) (bl 16777151 24)
def st_hbbaba_ref01_little (p0 : Int) (p5l : Nat) (p10 : Int) (p11 : Int) (b8 : List V) : St := ⟨[(V.sc (.int .u64 p0)), .junk, .junk, .junk, .junk, (V.own 8 0 p5l 1), .junk, .junk, .junk, .junk, (V.sc (.int .i64 p10)), (V.sc (.int .i64 p11)), .junk, .junk, .junk, .junk, .junk, .junk, .junk, .junk, .junk, .junk, .junk, .junk], [.gone, .gone, .gone, .gone, .gone, .gone, .gone, .gone, (.live true b8), .gone, .gone, .gone, .gone, .gone, .gone, .gone, .gone, .gone, .gone, .gone, .gone, .gone, .gone, .gone]⟩
def st_x0_ref01_little (p5l : Nat) (b8 : List V) : St := ⟨[.junk, .junk, .junk, .junk, .junk, (V.own 8 0 p5l 1), .junk, .junk, .junk, .junk, .junk, .junk, .junk, .junk, .junk, .junk, .junk, .junk, .junk, .junk, .junk, .junk, .junk, .junk], [.gone, .gone, .gone, .gone, .gone, .gone, .gone, .gone, (.live true b8), .gone, .gone, .gone, .gone, .gone, .gone, .gone, .gone, .gone, .gone, .gone, .gone, .gone, .gone, .gone]⟩
def e_ref01_little {β : Type} (L : Nat) (p0 : Int) (p1 : Int) (k_hbbaba : Int → Nat → Int → Int → List V → Option β) : Option β :=
 chk (0 ≤ p1 ∧ p1 ≤ p1 ∧ (Int.toNat p1) * 1 ≤ sizeCap ∧ p1 ≤ sizeCap) (
 k_hbbaba p0 (List.length (List.replicate (Int.toNat p1) [(V.sc (.int .u8 (0 : Int)))])) (((List.length (List.replicate (Int.toNat p1) [(V.sc (.int .u8 (0 : Int)))])) : Nat) : Int) (0 : Int) (List.flatten (List.replicate (Int.toNat p1) [(V.sc (.int .u8 (0 : Int)))])))
theorem e_ref01_little_ok {β : Type} (L : Nat) (p0 : Int) (p1 : Int) (k : V → Bor → Option β) : funC sh_ref01_little (cb_ref01_little L) L cf_ref01_little [(V.sc (.int .u64 p0)), (V.sc (.int .i64 p1))] [] k = e_ref01_little L p0 p1 (fun p0 p5l p10 p11 b8 => loopM (runC sh_ref01_little (cb_ref01_little L) 0 L cbbabaa_ref01_little) mbbaba_ref01_little L (st_hbbaba_ref01_little p0 p5l p10 p11 b8) (blockK 0 (seqK (runC sh_ref01_little (cb_ref01_little L) 0 L cbbb_ref01_little) (finK 0 (CF.res cf_ref01_little) k)))) := by kernel_rfl
def bbbaba_ref01_little {β : Type} (L : Nat) (p0 : Int) (p5l : Nat) (p10 : Int) (p11 : Int) (b8 : List V) (k_hbbaba : Int → Nat → Int → Int → List V → Option β) (k_x0 : Nat → List V → Option β) : Option β :=
 ifb (decide (p11 < p10)) (
 lt (IntKind.wrap .i64 (((8 : Int) : Int) * p11)) fun x0 =>
 chk (0 ≤ x0) (
 lt (ishr .u64 p0 x0) fun x1 =>
 lt (IntKind.wrap .u8 x1) fun x2 =>
 chk (0 ≤ p11 ∧ p11 < ((p5l : Nat) : Int)) (
 chk (1 = 1 ∧ (0 + ((Int.toNat p11) * 1)) + 1 ≤ (List.length b8)) (
 lt (setAt b8 (0 + ((Int.toNat p11) * 1)) [(V.sc (.int .u8 x2))]) fun r3 =>
 lt (IntKind.wrap .i64 ((p11 : Int) + (1 : Int))) fun x4 =>
 k_hbbaba p0 p5l p10 x4 r3)))) (
 k_x0 p5l b8)
theorem bbbaba_ref01_little_ok {β : Type} (L : Nat) (p0 : Int) (p5l : Nat) (p10 : Int) (p11 : Int) (b8 : List V) (X : St → Option β) (K : KT β) : runC sh_ref01_little (cb_ref01_little L) 0 L cbbabaa_ref01_little (st_hbbaba_ref01_little p0 p5l p10 p11 b8) (loopK mbbaba_ref01_little X K) = bbbaba_ref01_little L p0 p5l p10 p11 b8 (fun p0 p5l p10 p11 b8 => X (st_hbbaba_ref01_little p0 p5l p10 p11 b8)) (fun p5l b8 => K (.exit 0) (st_x0_ref01_little p5l b8)) := by kernel_rfl
def rbbabax0_ref01_little {β : Type} (L : Nat) (p5l : Nat) (b8 : List V) (k_fin : List (List V) → Option β) : Option β :=
 k_fin (chunks 1 p5l b8)
theorem rbbabax0_ref01_little_ok {β : Type} (L : Nat) (p5l : Nat) (b8 : List V) (k : V → Bor → Option β) : (blockK 0 (seqK (runC sh_ref01_little (cb_ref01_little L) 0 L cbbb_ref01_little) (finK 0 (CF.res cf_ref01_little) k))) (.exit 0) (st_x0_ref01_little p5l b8) = rbbabax0_ref01_little L p5l b8 (fun p0 => k (V.fr 1 p0) []) := by kernel_rfl
def lbbaba_ref01_little {β : Type} (L : Nat) (k_x0 : Nat → List V → Option β) : Nat → Int → Nat → Int → Int → List V → Option β
  | 0, _, _, _, _, _ => none
  | n + 1, p0, p5l, p10, p11, b8 => bbbaba_ref01_little L p0 p5l p10 p11 b8 (fun p0 p5l p10 p11 b8 => lbbaba_ref01_little L k_x0 n p0 p5l p10 p11 b8) k_x0
theorem lbbaba_ref01_little_ok {β : Type} (L : Nat) (K : KT β) : ∀ (n : Nat) (p0 : Int) (p5l : Nat) (p10 : Int) (p11 : Int) (b8 : List V), loopM (runC sh_ref01_little (cb_ref01_little L) 0 L cbbabaa_ref01_little) mbbaba_ref01_little n (st_hbbaba_ref01_little p0 p5l p10 p11 b8) K = lbbaba_ref01_little L (fun p5l b8 => K (.exit 0) (st_x0_ref01_little p5l b8)) n p0 p5l p10 p11 b8 := by
  intro n
  induction n with
  | zero => intros; rfl
  | succ n ih =>
    intro p0 p5l p10 p11 b8
    refine (bbbaba_ref01_little_ok L p0 p5l p10 p11 b8 (fun σ => loopM (runC sh_ref01_little (cb_ref01_little L) 0 L cbbabaa_ref01_little) mbbaba_ref01_little n σ K) K).trans ?_
    simp only [ih]
    rfl
def R_ref01_little {β : Type} (L : Nat) (p0 : Int) (p1 : Int) (k_fin : List (List V) → Option β) : Option β :=
 e_ref01_little L p0 p1 (fun p0 p5l p10 p11 b8 => lbbaba_ref01_little L (fun p5l b8 => rbbabax0_ref01_little L p5l b8 k_fin) L p0 p5l p10 p11 b8)
theorem R_ref01_little_ok {β : Type} (L : Nat) (p0 : Int) (p1 : Int) (k : V → Bor → Option β) : funC sh_ref01_little (cb_ref01_little L) L cf_ref01_little [(V.sc (.int .u64 p0)), (V.sc (.int .i64 p1))] [] k = R_ref01_little L p0 p1 (fun p0 => k (V.fr 1 p0) []) := by
  refine (e_ref01_little_ok L p0 p1 k).trans ?_
  unfold R_ref01_little
  simp only [lbbaba_ref01_little_ok, rbbabax0_ref01_little_ok]
abbrev T_ref01_little := ∀ (β : Type), Nat → Int → Int → (List (List V) → Option β) → Option β
def F_ref01_little (β : Type) (L : Nat) (p0 : Int) (p1 : Int) (k_fin : List (List V) → Option β) : Option β := R_ref01_little L p0 p1 k_fin
def d_ref01_little (F_ref01_little : T_ref01_little) (L : Nat) (β : Type) (args : List V) (bor : Bor) (k : V → Bor → Option β) : Option β := match args, bor with
  | [a0, a1], [] => aI .u64 a0 fun p0 => aI .i64 a1 fun p1 => F_ref01_little β L p0 p1 (fun p0 => k (V.fr 1 p0) [])
  | _, _ => none
theorem d_ref01_little_ok (L : Nat) (β : Type) (args : List V) (bor : Bor) (k : V → Bor → Option β) (r : β) (h : d_ref01_little F_ref01_little L β args bor k = some r) : funC sh_ref01_little (cb_ref01_little L) L cf_ref01_little args bor k = some r := by
  unfold d_ref01_little at h
  split at h
  · have q := aI_inv h; clear h; obtain ⟨p0, rfl, h⟩ := q
    have q := aI_inv h; clear h; obtain ⟨p1, rfl, h⟩ := q
    exact (R_ref01_little_ok L p0 p1 k).trans h
  · cases h
/-! ref01_joined : 193 -/
def cf_ref01_joined : CF := ⟨17, [.tmp 4],
 (.seq (.reg [⟨(some 4), false, none, .move (.const (.gs 1 [])) true⟩])
 (.seq (.reg [⟨(some 6), false, none, .move (.tmp 0) false⟩,
   ⟨(some 7), false, none, .lenS (.tmp 6)⟩,
   ⟨(some 8), false, none, .move (.tmp 1) false⟩,
   ⟨(some 9), false, none, .lenS (.tmp 8)⟩,
   ⟨(some 10), false, none, .bin .add (.tmp 7) (.tmp 9)⟩,
   ⟨(some 11), false, none, .makeSlice 1 1 [(.sc (.int .u8 0))] (.const (.sc (.int .i64 0))) (.tmp 10)⟩,
   ⟨(some 5), false, none, .move (.tmp 11) true⟩])
 (.seq (.reg [⟨(some 12), false, none, .move (.tmp 5) true⟩,
   ⟨(some 13), false, none, .move (.tmp 0) true⟩,
   ⟨(some 14), false, none, .append 1 1 (.tmp 12) (.tmp 13)⟩,
   ⟨(some 15), false, none, .move (.tmp 1) true⟩,
   ⟨(some 16), false, none, .append 1 1 (.tmp 14) (.tmp 15)⟩,
   ⟨(some 4), false, none, .move (.tmp 16) true⟩])
 .ret)))⟩
def hint_ref01_joined : Hint := ⟨[(0, 0), (1, 6), (2, 0), (2, 1), (2, 3), (2, 5)], [], [none], []⟩
def sh_ref01_joined : Nat → Sh := shOf []
def cb_ref01_joined (L : Nat) : CBC := noC
def R_ref01_joined {β : Type} (L : Nat) (p0 : List (List V)) (p1 : List (List V)) (k_fin : List (List V) → Option β) : Option β :=
 lt (IntKind.wrap .i64 ((((List.length p0 : Nat) : Int) : Int) + ((List.length p1 : Nat) : Int))) fun x0 =>
 chk (0 ≤ (0 : Int) ∧ (0 : Int) ≤ x0 ∧ (Int.toNat x0) * 1 ≤ sizeCap ∧ x0 ≤ sizeCap) (
 chk ((List.length (List.replicate 0 [(V.sc (.int .u8 (0 : Int)))]) + List.length p0) * 1 ≤ sizeCap ∧ List.length (List.replicate 0 [(V.sc (.int .u8 (0 : Int)))]) + List.length p0 ≤ sizeCap) (
 lt ((List.replicate 0 [(V.sc (.int .u8 (0 : Int)))]) ++ p0) fun l1 =>
 chk ((List.length l1 + List.length p1) * 1 ≤ sizeCap ∧ List.length l1 + List.length p1 ≤ sizeCap) (
 lt (l1 ++ p1) fun l2 =>
 k_fin l2)))
theorem R_ref01_joined_ok {β : Type} (L : Nat) (p0 : List (List V)) (p1 : List (List V)) (k : V → Bor → Option β) : funC sh_ref01_joined (cb_ref01_joined L) L cf_ref01_joined [(V.sl 1 p0), (V.sl 1 p1)] [] k = R_ref01_joined L p0 p1 (fun p0 => k (V.gs 1 p0) []) := by kernel_rfl
abbrev T_ref01_joined := ∀ (β : Type), Nat → List (List V) → List (List V) → (List (List V) → Option β) → Option β
def F_ref01_joined (β : Type) (L : Nat) (p0 : List (List V)) (p1 : List (List V)) (k_fin : List (List V) → Option β) : Option β := R_ref01_joined L p0 p1 k_fin
def d_ref01_joined (F_ref01_joined : T_ref01_joined) (L : Nat) (β : Type) (args : List V) (bor : Bor) (k : V → Bor → Option β) : Option β := match args, bor with
  | [a0, a1], [] => aL 1 a0 fun p0 => aL 1 a1 fun p1 => F_ref01_joined β L p0 p1 (fun p0 => k (V.gs 1 p0) [])
  | _, _ => none
theorem d_ref01_joined_ok (L : Nat) (β : Type) (args : List V) (bor : Bor) (k : V → Bor → Option β) (r : β) (h : d_ref01_joined F_ref01_joined L β args bor k = some r) : funC sh_ref01_joined (cb_ref01_joined L) L cf_ref01_joined args bor k = some r := by
  unfold d_ref01_joined at h
  split at h
  · have q := aL_inv h; clear h; obtain ⟨p0, rfl, h⟩ := q
    have q := aL_inv h; clear h; obtain ⟨p1, rfl, h⟩ := q
    exact (R_ref01_joined_ok L p0 p1 k).trans h
  · cases h
/-! ref01_AppendU32 : 159 -/
def cf_ref01_AppendU32 : CF := ⟨10, [.tmp 4],
 (.seq (.reg [⟨(some 4), false, none, .move (.const (.gs 1 [])) true⟩])
 (.seq (.reg [⟨(some 5), false, none, .move (.tmp 0) true⟩,
   ⟨(some 6), false, none, .move (.tmp 1) false⟩,
   ⟨(some 7), false, none, .conv .u64 (.tmp 6)⟩,
   ⟨(some 8), false, none, .call 194 [((.tmp 7), false), ((.const (.sc (.int .i64 4))), false)]⟩,
   ⟨(some 9), false, none, .call 193 [((.tmp 5), false), ((.tmp 8), false)]⟩,
   ⟨(some 4), false, none, .move (.tmp 9) true⟩])
 .ret))⟩
def hint_ref01_AppendU32 : Hint := ⟨[(0, 0), (1, 0), (1, 5)], [], [none], []⟩
def sh_ref01_AppendU32 : Nat → Sh := shOf []
def cb_ref01_AppendU32 (F_ref01_little : T_ref01_little) (F_ref01_joined : T_ref01_joined) (L : Nat) : CBC := (addC 193 (d_ref01_joined F_ref01_joined L) (addC 194 (d_ref01_little F_ref01_little L) noC))
def R_ref01_AppendU32 {β : Type} (F_ref01_little : T_ref01_little) (F_ref01_joined : T_ref01_joined) (L : Nat) (p0 : List (List V)) (p1 : Int) (k_fin : List (List V) → Option β) : Option β :=
 lt (IntKind.wrap .u64 p1) fun x0 =>
 F_ref01_little β L x0 (4 : Int) (fun v1 =>
 F_ref01_joined β L p0 v1 (fun v2 =>
 k_fin v2))
theorem R_ref01_AppendU32_ok {β : Type} (F_ref01_little : T_ref01_little) (F_ref01_joined : T_ref01_joined) (L : Nat) (p0 : List (List V)) (p1 : Int) (k : V → Bor → Option β) : funC sh_ref01_AppendU32 (cb_ref01_AppendU32 F_ref01_little F_ref01_joined L) L cf_ref01_AppendU32 [(V.sl 1 p0), (V.sc (.int .u32 p1))] [] k = R_ref01_AppendU32 F_ref01_little F_ref01_joined L p0 p1 (fun p0 => k (V.gs 1 p0) []) := by kernel_rfl
abbrev T_ref01_AppendU32 := ∀ (β : Type), Nat → List (List V) → Int → (List (List V) → Option β) → Option β
def F_ref01_AppendU32 (β : Type) (L : Nat) (p0 : List (List V)) (p1 : Int) (k_fin : List (List V) → Option β) : Option β := R_ref01_AppendU32 F_ref01_little F_ref01_joined L p0 p1 k_fin
def d_ref01_AppendU32 (F_ref01_AppendU32 : T_ref01_AppendU32) (L : Nat) (β : Type) (args : List V) (bor : Bor) (k : V → Bor → Option β) : Option β := match args, bor with
  | [a0, a1], [] => aL 1 a0 fun p0 => aI .u32 a1 fun p1 => F_ref01_AppendU32 β L p0 p1 (fun p0 => k (V.gs 1 p0) [])
  | _, _ => none
theorem d_ref01_AppendU32_ok (L : Nat) (β : Type) (args : List V) (bor : Bor) (k : V → Bor → Option β) (r : β) (h : d_ref01_AppendU32 F_ref01_AppendU32 L β args bor k = some r) : funC sh_ref01_AppendU32 (cb_ref01_AppendU32 F_ref01_little F_ref01_joined L) L cf_ref01_AppendU32 args bor k = some r := by
  unfold d_ref01_AppendU32 at h
  split at h
  · have q := aL_inv h; clear h; obtain ⟨p0, rfl, h⟩ := q
    have q := aI_inv h; clear h; obtain ⟨p1, rfl, h⟩ := q
    exact (R_ref01_AppendU32_ok F_ref01_little F_ref01_joined L p0 p1 k).trans h
  · cases h
/-! ref01_AppendSize : 185 -/
def cf_ref01_AppendSize : CF := ⟨36, [.tmp 4],
 (.seq (.reg [⟨(some 4), false, none, .move (.const (.gs 1 [])) true⟩])
 (.seq (.block 0 (.seq (.reg [⟨(some 6), false, none, .move (.tmp 1) false⟩,
   ⟨(some 7), false, none, .bin .lss (.tmp 6) (.const (.sc (.int .u64 253)))⟩,
   ⟨(some 5), false, none, .move (.tmp 7) false⟩])
 (.cond (.tmp 5)
 (.seq (.reg [⟨(some 8), false, none, .move (.tmp 0) true⟩,
   ⟨(some 9), false, none, .move (.tmp 1) false⟩,
   ⟨(some 10), false, none, .call 194 [((.tmp 9), false), ((.const (.sc (.int .i64 1))), false)]⟩,
   ⟨(some 11), false, none, .call 193 [((.tmp 8), false), ((.tmp 10), false)]⟩,
   ⟨(some 4), false, none, .move (.tmp 11) true⟩])
 .ret)
 (.seq (.reg [⟨(some 13), false, none, .move (.tmp 1) false⟩,
   ⟨(some 14), false, none, .bin .lss (.tmp 13) (.const (.sc (.int .u64 65536)))⟩,
   ⟨(some 12), false, none, .move (.tmp 14) false⟩])
 (.cond (.tmp 12)
 (.seq (.reg [⟨(some 15), false, none, .move (.tmp 0) true⟩,
   ⟨(some 16), false, none, .buildSlice 1 1 [(.sc (.int .u8 0))] [(0, 1, (.const (.sc (.int .u8 253))))]⟩,
   ⟨(some 17), false, none, .move (.tmp 1) false⟩,
   ⟨(some 18), false, none, .call 194 [((.tmp 17), false), ((.const (.sc (.int .i64 2))), false)]⟩,
   ⟨(some 19), false, none, .call 193 [((.tmp 16), false), ((.tmp 18), false)]⟩,
   ⟨(some 20), false, none, .call 193 [((.tmp 15), false), ((.tmp 19), false)]⟩,
   ⟨(some 4), false, none, .move (.tmp 20) true⟩])
 .ret)
 (.seq (.reg [⟨(some 22), false, none, .move (.tmp 1) false⟩,
   ⟨(some 23), false, none, .bin .lss (.tmp 22) (.const (.sc (.int .u64 4294967296)))⟩,
   ⟨(some 21), false, none, .move (.tmp 23) false⟩])
 (.cond (.tmp 21)
 (.seq (.reg [⟨(some 24), false, none, .move (.tmp 0) true⟩,
   ⟨(some 25), false, none, .buildSlice 1 1 [(.sc (.int .u8 0))] [(0, 1, (.const (.sc (.int .u8 254))))]⟩,
   ⟨(some 26), false, none, .move (.tmp 1) false⟩,
   ⟨(some 27), false, none, .call 194 [((.tmp 26), false), ((.const (.sc (.int .i64 4))), false)]⟩,
   ⟨(some 28), false, none, .call 193 [((.tmp 25), false), ((.tmp 27), false)]⟩,
   ⟨(some 29), false, none, .call 193 [((.tmp 24), false), ((.tmp 28), false)]⟩,
   ⟨(some 4), false, none, .move (.tmp 29) true⟩])
 .ret)
 .skip)))))))
 (.seq (.reg [⟨(some 30), false, none, .move (.tmp 0) true⟩,
   ⟨(some 31), false, none, .buildSlice 1 1 [(.sc (.int .u8 0))] [(0, 1, (.const (.sc (.int .u8 255))))]⟩,
   ⟨(some 32), false, none, .move (.tmp 1) false⟩,
   ⟨(some 33), false, none, .call 194 [((.tmp 32), false), ((.const (.sc (.int .i64 8))), false)]⟩,
   ⟨(some 34), false, none, .call 193 [((.tmp 31), false), ((.tmp 33), false)]⟩,
   ⟨(some 35), false, none, .call 193 [((.tmp 30), false), ((.tmp 34), false)]⟩,
   ⟨(some 4), false, none, .move (.tmp 35) true⟩])
 .ret)))⟩
def hint_ref01_AppendSize : Hint := ⟨[(0, 0), (2, 0), (2, 4), (4, 0), (4, 6), (6, 0), (6, 6), (7, 0), (7, 6)], [], [none, none, none, none, none, none, none, none], []⟩
def sh_ref01_AppendSize : Nat → Sh := shOf []
def cb_ref01_AppendSize (F_ref01_little : T_ref01_little) (F_ref01_joined : T_ref01_joined) (L : Nat) : CBC := (addC 193 (d_ref01_joined F_ref01_joined L) (addC 194 (d_ref01_little F_ref01_little L) noC))
def R_ref01_AppendSize {β : Type} (F_ref01_little : T_ref01_little) (F_ref01_joined : T_ref01_joined) (L : Nat) (p0 : List (List V)) (p1 : Int) (k_fin : List (List V) → Option β) : Option β :=
 ifb (decide (p1 < (253 : Int))) (
 F_ref01_little β L p1 (1 : Int) (fun v0 =>
 F_ref01_joined β L p0 v0 (fun v1 =>
 k_fin v1))) (
 ifb (decide (p1 < (65536 : Int))) (
 F_ref01_little β L p1 (2 : Int) (fun v2 =>
 F_ref01_joined β L (chunks 1 1 [(V.sc (.int .u8 (253 : Int)))]) v2 (fun v3 =>
 F_ref01_joined β L p0 v3 (fun v4 =>
 k_fin v4)))) (
 ifb (decide (p1 < (4294967296 : Int))) (
 F_ref01_little β L p1 (4 : Int) (fun v5 =>
 F_ref01_joined β L (chunks 1 1 [(V.sc (.int .u8 (254 : Int)))]) v5 (fun v6 =>
 F_ref01_joined β L p0 v6 (fun v7 =>
 k_fin v7)))) (
 F_ref01_little β L p1 (8 : Int) (fun v8 =>
 F_ref01_joined β L (chunks 1 1 [(V.sc (.int .u8 (255 : Int)))]) v8 (fun v9 =>
 F_ref01_joined β L p0 v9 (fun v10 =>
 k_fin v10))))))
theorem R_ref01_AppendSize_ok {β : Type} (F_ref01_little : T_ref01_little) (F_ref01_joined : T_ref01_joined) (L : Nat) (p0 : List (List V)) (p1 : Int) (k : V → Bor → Option β) : funC sh_ref01_AppendSize (cb_ref01_AppendSize F_ref01_little F_ref01_joined L) L cf_ref01_AppendSize [(V.sl 1 p0), (V.sc (.int .u64 p1))] [] k = R_ref01_AppendSize F_ref01_little F_ref01_joined L p0 p1 (fun p0 => k (V.gs 1 p0) []) := by kernel_rfl
abbrev T_ref01_AppendSize := ∀ (β : Type), Nat → List (List V) → Int → (List (List V) → Option β) → Option β
def F_ref01_AppendSize (β : Type) (L : Nat) (p0 : List (List V)) (p1 : Int) (k_fin : List (List V) → Option β) : Option β := R_ref01_AppendSize F_ref01_little F_ref01_joined L p0 p1 k_fin
def d_ref01_AppendSize (F_ref01_AppendSize : T_ref01_AppendSize) (L : Nat) (β : Type) (args : List V) (bor : Bor) (k : V → Bor → Option β) : Option β := match args, bor with
  | [a0, a1], [] => aL 1 a0 fun p0 => aI .u64 a1 fun p1 => F_ref01_AppendSize β L p0 p1 (fun p0 => k (V.gs 1 p0) [])
  | _, _ => none
theorem d_ref01_AppendSize_ok (L : Nat) (β : Type) (args : List V) (bor : Bor) (k : V → Bor → Option β) (r : β) (h : d_ref01_AppendSize F_ref01_AppendSize L β args bor k = some r) : funC sh_ref01_AppendSize (cb_ref01_AppendSize F_ref01_little F_ref01_joined L) L cf_ref01_AppendSize args bor k = some r := by
  unfold d_ref01_AppendSize at h
  split at h
  · have q := aL_inv h; clear h; obtain ⟨p0, rfl, h⟩ := q
    have q := aI_inv h; clear h; obtain ⟨p1, rfl, h⟩ := q
    exact (R_ref01_AppendSize_ok F_ref01_little F_ref01_joined L p0 p1 k).trans h
  · cases h
/-! ref01_AppendHash : 160 -/
def cf_ref01_AppendHash : CF := ⟨8, [.tmp 4],
 (.seq (.reg [⟨(some 3), false, none, .box true (.tmp 1)⟩,
   ⟨(some 4), false, none, .move (.const (.gs 1 [])) true⟩])
 (.seq (.reg [⟨(some 5), false, none, .move (.tmp 0) true⟩,
   ⟨(some 6), false, none, .sliceA 32 1 (.tmp 3) none none none⟩,
   ⟨(some 7), false, none, .call 193 [((.tmp 5), false), ((.tmp 6), false)]⟩,
   ⟨(some 4), false, none, .move (.tmp 7) true⟩])
 .ret))⟩
def hint_ref01_AppendHash : Hint := ⟨[(0, 1), (1, 0), (1, 3)], [], [none], []⟩
def sh_ref01_AppendHash : Nat → Sh := shOf []
def cb_ref01_AppendHash (F_ref01_joined : T_ref01_joined) (L : Nat) : CBC := (addC 193 (d_ref01_joined F_ref01_joined L) noC)
def R_ref01_AppendHash {β : Type} (F_ref01_joined : T_ref01_joined) (L : Nat) (p0 : List (List V)) (p1 : List V) (k_fin : List (List V) → Option β) : Option β :=
 chk (0 + 32 * 1 ≤ (List.length p1)) (
 F_ref01_joined β L p0 (chunks 1 32 p1) (fun v0 =>
 k_fin v0))
theorem R_ref01_AppendHash_ok {β : Type} (F_ref01_joined : T_ref01_joined) (L : Nat) (p0 : List (List V)) (p1 : List V) (k : V → Bor → Option β) : funC sh_ref01_AppendHash (cb_ref01_AppendHash F_ref01_joined L) L cf_ref01_AppendHash [(V.sl 1 p0), (V.agg p1)] [] k = R_ref01_AppendHash F_ref01_joined L p0 p1 (fun p0 => k (V.gs 1 p0) []) := by kernel_rfl
abbrev T_ref01_AppendHash := ∀ (β : Type), Nat → List (List V) → List V → (List (List V) → Option β) → Option β
def F_ref01_AppendHash (β : Type) (L : Nat) (p0 : List (List V)) (p1 : List V) (k_fin : List (List V) → Option β) : Option β := R_ref01_AppendHash F_ref01_joined L p0 p1 k_fin
def d_ref01_AppendHash (F_ref01_AppendHash : T_ref01_AppendHash) (L : Nat) (β : Type) (args : List V) (bor : Bor) (k : V → Bor → Option β) : Option β := match args, bor with
  | [a0, a1], [] => aL 1 a0 fun p0 => aG a1 fun p1 => F_ref01_AppendHash β L p0 p1 (fun p0 => k (V.gs 1 p0) [])
  | _, _ => none
theorem d_ref01_AppendHash_ok (L : Nat) (β : Type) (args : List V) (bor : Bor) (k : V → Bor → Option β) (r : β) (h : d_ref01_AppendHash F_ref01_AppendHash L β args bor k = some r) : funC sh_ref01_AppendHash (cb_ref01_AppendHash F_ref01_joined L) L cf_ref01_AppendHash args bor k = some r := by
  unfold d_ref01_AppendHash at h
  split at h
  · have q := aL_inv h; clear h; obtain ⟨p0, rfl, h⟩ := q
    have q := aG_inv h; clear h; obtain ⟨p1, rfl, h⟩ := q
    exact (R_ref01_AppendHash_ok F_ref01_joined L p0 p1 k).trans h
  · cases h
/-! ref09_Point : 138 -/
def cf_ref09_Point : CF := ⟨9, [.tmp 2],
 (.seq (.reg [⟨(some 1), false, none, .box true (.tmp 0)⟩,
   ⟨(some 2), false, none, .move (.const (.gs 1 [])) true⟩])
 (.seq (.dreg [] [(⟨(some 3), false, none, .fieldAddr 0 (.tmp 1)⟩, false),
   (⟨(some 4), false, none, .load true 32 (.tmp 3) false⟩, true),
   (⟨(some 5), false, none, .call 160 [((.const (.gs 1 [])), false), ((.tmp 4), false)]⟩, true),
   (⟨(some 6), false, none, .fieldAddr 32 (.tmp 1)⟩, false),
   (⟨(some 7), false, none, .load false 1 (.tmp 6) false⟩, true),
   (⟨(some 8), false, none, .call 159 [((.tmp 5), false), ((.tmp 7), false)]⟩, false),
   (⟨(some 2), false, none, .move (.tmp 8) true⟩, false)])
 .ret))⟩
def hint_ref09_Point : Hint := ⟨[(0, 1), (1, 6)], [], [none], []⟩
def sh_ref09_Point : Nat → Sh := shOf [(7, (.int .u32))]
def cb_ref09_Point (F_ref01_AppendHash : T_ref01_AppendHash) (F_ref01_AppendU32 : T_ref01_AppendU32) (L : Nat) : CBC := (addC 159 (d_ref01_AppendU32 F_ref01_AppendU32 L) (addC 160 (d_ref01_AppendHash F_ref01_AppendHash L) noC))
def R_ref09_Point {β : Type} (F_ref01_AppendHash : T_ref01_AppendHash) (F_ref01_AppendU32 : T_ref01_AppendU32) (L : Nat) (p0 : List V) (k_fin : List (List V) → Option β) : Option β :=
 chk (0 + 32 ≤ (List.length p0)) (
 F_ref01_AppendHash β L ([] : List (List V)) (List.take 32 p0) (fun v0 =>
 cI .u32 p0 32 fun v1 =>
 F_ref01_AppendU32 β L v0 v1 (fun v2 =>
 k_fin v2)))
theorem R_ref09_Point_ok {β : Type} (F_ref01_AppendHash : T_ref01_AppendHash) (F_ref01_AppendU32 : T_ref01_AppendU32) (L : Nat) (p0 : List V) (k : V → Bor → Option β) : funC sh_ref09_Point (cb_ref09_Point F_ref01_AppendHash F_ref01_AppendU32 L) L cf_ref09_Point [(V.agg p0)] [] k = R_ref09_Point F_ref01_AppendHash F_ref01_AppendU32 L p0 (fun p0 => k (V.gs 1 p0) []) := by kernel_rfl
abbrev T_ref09_Point := ∀ (β : Type), Nat → List V → (List (List V) → Option β) → Option β
def F_ref09_Point (β : Type) (L : Nat) (p0 : List V) (k_fin : List (List V) → Option β) : Option β := R_ref09_Point F_ref01_AppendHash F_ref01_AppendU32 L p0 k_fin
def d_ref09_Point (F_ref09_Point : T_ref09_Point) (L : Nat) (β : Type) (args : List V) (bor : Bor) (k : V → Bor → Option β) : Option β := match args, bor with
  | [a0], [] => aG a0 fun p0 => F_ref09_Point β L p0 (fun p0 => k (V.gs 1 p0) [])
  | _, _ => none
theorem d_ref09_Point_ok (L : Nat) (β : Type) (args : List V) (bor : Bor) (k : V → Bor → Option β) (r : β) (h : d_ref09_Point F_ref09_Point L β args bor k = some r) : funC sh_ref09_Point (cb_ref09_Point F_ref01_AppendHash F_ref01_AppendU32 L) L cf_ref09_Point args bor k = some r := by
  unfold d_ref09_Point at h
  split at h
  · have q := aG_inv h; clear h; obtain ⟨p0, rfl, h⟩ := q
    exact (R_ref09_Point_ok F_ref01_AppendHash F_ref01_AppendU32 L p0 k).trans h
  · cases h
/-! ref01_AppendU64 : 206 -/
def cf_ref01_AppendU64 : CF := ⟨9, [.tmp 4],
 (.seq (.reg [⟨(some 4), false, none, .move (.const (.gs 1 [])) true⟩])
 (.seq (.reg [⟨(some 5), false, none, .move (.tmp 0) true⟩,
   ⟨(some 6), false, none, .move (.tmp 1) false⟩,
   ⟨(some 7), false, none, .call 194 [((.tmp 6), false), ((.const (.sc (.int .i64 8))), false)]⟩,
   ⟨(some 8), false, none, .call 193 [((.tmp 5), false), ((.tmp 7), false)]⟩,
   ⟨(some 4), false, none, .move (.tmp 8) true⟩])
 .ret))⟩
def hint_ref01_AppendU64 : Hint := ⟨[(0, 0), (1, 0), (1, 4)], [], [none], []⟩
def sh_ref01_AppendU64 : Nat → Sh := shOf []
def cb_ref01_AppendU64 (F_ref01_little : T_ref01_little) (F_ref01_joined : T_ref01_joined) (L : Nat) : CBC := (addC 193 (d_ref01_joined F_ref01_joined L) (addC 194 (d_ref01_little F_ref01_little L) noC))
def R_ref01_AppendU64 {β : Type} (F_ref01_little : T_ref01_little) (F_ref01_joined : T_ref01_joined) (L : Nat) (p0 : List (List V)) (p1 : Int) (k_fin : List (List V) → Option β) : Option β :=
 F_ref01_little β L p1 (8 : Int) (fun v0 =>
 F_ref01_joined β L p0 v0 (fun v1 =>
 k_fin v1))
theorem R_ref01_AppendU64_ok {β : Type} (F_ref01_little : T_ref01_little) (F_ref01_joined : T_ref01_joined) (L : Nat) (p0 : List (List V)) (p1 : Int) (k : V → Bor → Option β) : funC sh_ref01_AppendU64 (cb_ref01_AppendU64 F_ref01_little F_ref01_joined L) L cf_ref01_AppendU64 [(V.sl 1 p0), (V.sc (.int .u64 p1))] [] k = R_ref01_AppendU64 F_ref01_little F_ref01_joined L p0 p1 (fun p0 => k (V.gs 1 p0) []) := by kernel_rfl
abbrev T_ref01_AppendU64 := ∀ (β : Type), Nat → List (List V) → Int → (List (List V) → Option β) → Option β
def F_ref01_AppendU64 (β : Type) (L : Nat) (p0 : List (List V)) (p1 : Int) (k_fin : List (List V) → Option β) : Option β := R_ref01_AppendU64 F_ref01_little F_ref01_joined L p0 p1 k_fin
def d_ref01_AppendU64 (F_ref01_AppendU64 : T_ref01_AppendU64) (L : Nat) (β : Type) (args : List V) (bor : Bor) (k : V → Bor → Option β) : Option β := match args, bor with
  | [a0, a1], [] => aL 1 a0 fun p0 => aI .u64 a1 fun p1 => F_ref01_AppendU64 β L p0 p1 (fun p0 => k (V.gs 1 p0) [])
  | _, _ => none
theorem d_ref01_AppendU64_ok (L : Nat) (β : Type) (args : List V) (bor : Bor) (k : V → Bor → Option β) (r : β) (h : d_ref01_AppendU64 F_ref01_AppendU64 L β args bor k = some r) : funC sh_ref01_AppendU64 (cb_ref01_AppendU64 F_ref01_little F_ref01_joined L) L cf_ref01_AppendU64 args bor k = some r := by
  unfold d_ref01_AppendU64 at h
  split at h
  · have q := aL_inv h; clear h; obtain ⟨p0, rfl, h⟩ := q
    have q := aI_inv h; clear h; obtain ⟨p1, rfl, h⟩ := q
    exact (R_ref01_AppendU64_ok F_ref01_little F_ref01_joined L p0 p1 k).trans h
  · cases h
/-! ref01_AppendBytes : 187 -/
def cf_ref01_AppendBytes : CF := ⟨12, [.tmp 4],
 (.seq (.reg [⟨(some 4), false, none, .move (.const (.gs 1 [])) true⟩])
 (.seq (.reg [⟨(some 5), false, none, .move (.tmp 0) true⟩,
   ⟨(some 6), false, none, .move (.tmp 1) false⟩,
   ⟨(some 7), false, none, .lenS (.tmp 6)⟩,
   ⟨(some 8), false, none, .conv .u64 (.tmp 7)⟩,
   ⟨(some 9), false, none, .call 185 [((.tmp 5), false), ((.tmp 8), false)]⟩,
   ⟨(some 10), false, none, .move (.tmp 1) true⟩,
   ⟨(some 11), false, none, .call 193 [((.tmp 9), false), ((.tmp 10), false)]⟩,
   ⟨(some 4), false, none, .move (.tmp 11) true⟩])
 .ret))⟩
def hint_ref01_AppendBytes : Hint := ⟨[(0, 0), (1, 0), (1, 5), (1, 7)], [], [none], []⟩
def sh_ref01_AppendBytes : Nat → Sh := shOf []
def cb_ref01_AppendBytes (F_ref01_AppendSize : T_ref01_AppendSize) (F_ref01_joined : T_ref01_joined) (L : Nat) : CBC := (addC 193 (d_ref01_joined F_ref01_joined L) (addC 185 (d_ref01_AppendSize F_ref01_AppendSize L) noC))
def R_ref01_AppendBytes {β : Type} (F_ref01_AppendSize : T_ref01_AppendSize) (F_ref01_joined : T_ref01_joined) (L : Nat) (p0 : List (List V)) (p1 : List (List V)) (k_fin : List (List V) → Option β) : Option β :=
 lt (IntKind.wrap .u64 ((List.length p1 : Nat) : Int)) fun x0 =>
 F_ref01_AppendSize β L p0 x0 (fun v1 =>
 F_ref01_joined β L v1 p1 (fun v2 =>
 k_fin v2))
theorem R_ref01_AppendBytes_ok {β : Type} (F_ref01_AppendSize : T_ref01_AppendSize) (F_ref01_joined : T_ref01_joined) (L : Nat) (p0 : List (List V)) (p1 : List (List V)) (k : V → Bor → Option β) : funC sh_ref01_AppendBytes (cb_ref01_AppendBytes F_ref01_AppendSize F_ref01_joined L) L cf_ref01_AppendBytes [(V.sl 1 p0), (V.sl 1 p1)] [] k = R_ref01_AppendBytes F_ref01_AppendSize F_ref01_joined L p0 p1 (fun p0 => k (V.gs 1 p0) []) := by kernel_rfl
abbrev T_ref01_AppendBytes := ∀ (β : Type), Nat → List (List V) → List (List V) → (List (List V) → Option β) → Option β
def F_ref01_AppendBytes (β : Type) (L : Nat) (p0 : List (List V)) (p1 : List (List V)) (k_fin : List (List V) → Option β) : Option β := R_ref01_AppendBytes F_ref01_AppendSize F_ref01_joined L p0 p1 k_fin
def d_ref01_AppendBytes (F_ref01_AppendBytes : T_ref01_AppendBytes) (L : Nat) (β : Type) (args : List V) (bor : Bor) (k : V → Bor → Option β) : Option β := match args, bor with
  | [a0, a1], [] => aL 1 a0 fun p0 => aL 1 a1 fun p1 => F_ref01_AppendBytes β L p0 p1 (fun p0 => k (V.gs 1 p0) [])
  | _, _ => none
theorem d_ref01_AppendBytes_ok (L : Nat) (β : Type) (args : List V) (bor : Bor) (k : V → Bor → Option β) (r : β) (h : d_ref01_AppendBytes F_ref01_AppendBytes L β args bor k = some r) : funC sh_ref01_AppendBytes (cb_ref01_AppendBytes F_ref01_AppendSize F_ref01_joined L) L cf_ref01_AppendBytes args bor k = some r := by
  unfold d_ref01_AppendBytes at h
  split at h
  · have q := aL_inv h; clear h; obtain ⟨p0, rfl, h⟩ := q
    have q := aL_inv h; clear h; obtain ⟨p1, rfl, h⟩ := q
    exact (R_ref01_AppendBytes_ok F_ref01_AppendSize F_ref01_joined L p0 p1 k).trans h
  · cases h
/-! ref09_Out : 186 -/
def cf_ref09_Out : CF := ⟨10, [.tmp 2],
 (.seq (.reg [⟨(some 1), false, none, .box false (.tmp 0)⟩,
   ⟨(some 2), false, none, .move (.const (.gs 1 [])) true⟩])
 (.seq (.dreg [] [(⟨(some 3), false, none, .fieldAddr 0 (.tmp 1)⟩, false),
   (⟨(some 4), false, none, .load false 1 (.tmp 3) false⟩, true),
   (⟨(some 5), false, none, .conv .u64 (.tmp 4)⟩, false),
   (⟨(some 6), false, none, .call 206 [((.const (.gs 1 [])), false), ((.tmp 5), false)]⟩, true),
   (⟨(some 7), false, none, .fieldAddr 1 (.tmp 1)⟩, false),
   (⟨(some 8), false, none, .load false 1 (.tmp 7) false⟩, true),
   (⟨(some 9), false, none, .call 187 [((.tmp 6), false), ((.tmp 8), false)]⟩, false),
   (⟨(some 2), false, none, .move (.tmp 9) true⟩, false)])
 .ret))⟩
def hint_ref09_Out : Hint := ⟨[(0, 1), (1, 7)], [], [none], []⟩
def sh_ref09_Out : Nat → Sh := shOf [(1, (.row [(.int .i64), (.sl 1)]))]
def cb_ref09_Out (F_ref01_AppendU64 : T_ref01_AppendU64) (F_ref01_AppendBytes : T_ref01_AppendBytes) (L : Nat) : CBC := (addC 187 (d_ref01_AppendBytes F_ref01_AppendBytes L) (addC 206 (d_ref01_AppendU64 F_ref01_AppendU64 L) noC))
def R_ref09_Out {β : Type} (F_ref01_AppendU64 : T_ref01_AppendU64) (F_ref01_AppendBytes : T_ref01_AppendBytes) (L : Nat) (p0 : List V) (k_fin : List (List V) → Option β) : Option β :=
 chk (List.length p0 = 2) (
 cI .i64 p0 0 fun v0 =>
 cL 1 p0 1 fun v1 =>
 lt (IntKind.wrap .u64 v0) fun x2 =>
 F_ref01_AppendU64 β L ([] : List (List V)) x2 (fun v3 =>
 F_ref01_AppendBytes β L v3 v1 (fun v4 =>
 k_fin v4)))
theorem R_ref09_Out_ok {β : Type} (F_ref01_AppendU64 : T_ref01_AppendU64) (F_ref01_AppendBytes : T_ref01_AppendBytes) (L : Nat) (p0 : List V) (k : V → Bor → Option β) : funC sh_ref09_Out (cb_ref09_Out F_ref01_AppendU64 F_ref01_AppendBytes L) L cf_ref09_Out [(V.agg p0)] [] k = R_ref09_Out F_ref01_AppendU64 F_ref01_AppendBytes L p0 (fun p0 => k (V.gs 1 p0) []) := by kernel_rfl
abbrev T_ref09_Out := ∀ (β : Type), Nat → List V → (List (List V) → Option β) → Option β
def F_ref09_Out (β : Type) (L : Nat) (p0 : List V) (k_fin : List (List V) → Option β) : Option β := R_ref09_Out F_ref01_AppendU64 F_ref01_AppendBytes L p0 k_fin
def d_ref09_Out (F_ref09_Out : T_ref09_Out) (L : Nat) (β : Type) (args : List V) (bor : Bor) (k : V → Bor → Option β) : Option β := match args, bor with
  | [a0], [] => aG a0 fun p0 => F_ref09_Out β L p0 (fun p0 => k (V.gs 1 p0) [])
  | _, _ => none
theorem d_ref09_Out_ok (L : Nat) (β : Type) (args : List V) (bor : Bor) (k : V → Bor → Option β) (r : β) (h : d_ref09_Out F_ref09_Out L β args bor k = some r) : funC sh_ref09_Out (cb_ref09_Out F_ref01_AppendU64 F_ref01_AppendBytes L) L cf_ref09_Out args bor k = some r := by
  unfold d_ref09_Out at h
  split at h
  · have q := aG_inv h; clear h; obtain ⟨p0, rfl, h⟩ := q
    exact (R_ref09_Out_ok F_ref01_AppendU64 F_ref01_AppendBytes L p0 k).trans h
  · cases h
/-! ref09_encode : 149 -/
def cbbbbbbbabaabbaabbbbaa_ref09_encode : CC := (.seq (.reg [⟨(some 80), false, none, .bin .lss (.tmp 79) (.tmp 78)⟩])
 (.seq (.cond (.tmp 80)
 .skip
 (.seq (.mask (bl 32281802128991715362 89) (bl 580284393415022003858956287 89))
 (.exit 6)))
 (.seq (.block 7 (.seq (.reg [⟨(some 81), false, none, .indexAddrS 1 (.tmp 77) (.tmp 79)⟩,
   ⟨(some 82), false, none, .load false 1 (.tmp 81) false⟩,
   ⟨(some 13), false, none, .move (.tmp 82) true⟩])
 (.reg [⟨(some 83), false, none, .move (.tmp 5) true⟩,
   ⟨(some 84), false, none, .move (.tmp 13) true⟩,
   ⟨(some 85), false, none, .call 187 [((.tmp 83), false), ((.tmp 84), false)]⟩,
   ⟨(some 5), false, none, .move (.tmp 85) true⟩])))
 (.reg [⟨(some 86), false, none, .bin .add (.tmp 79) (.const (.sc (.int .i64 1)))⟩,
   ⟨(some 79), false, none, .move (.tmp 86) false⟩]))))
def cbbbbbbbabaabbb_ref09_encode : CC := (.reg [⟨(some 87), false, none, .bin .add (.tmp 64) (.const (.sc (.int .i64 1)))⟩,
   ⟨(some 64), false, none, .move (.tmp 87) false⟩])
def cbbbbbbbabaa_ref09_encode : CC := (.seq (.reg [⟨(some 65), false, none, .bin .lss (.tmp 64) (.tmp 63)⟩])
 (.seq (.cond (.tmp 65)
 .skip
 (.seq (.mask (bl 32 89) (bl 579934938295289650113140735 89))
 (.exit 4)))
 (.seq (.block 5 (.seq (.reg [⟨(some 66), false, none, .indexAddrS 35 (.tmp 62) (.tmp 64)⟩,
   ⟨(some 67), false, none, .load true 35 (.tmp 66) false⟩,
   ⟨(some 11), false, none, .alloc false [(.sc (.int .u8 0)), (.sc (.int .u8 0)), (.sc (.int .u8 0)), (.sc (.int .u8 0)), (.sc (.int .u8 0)), (.sc (.int .u8 0)), (.sc (.int .u8 0)), (.sc (.int .u8 0)), (.sc (.int .u8 0)), (.sc (.int .u8 0)), (.sc (.int .u8 0)), (.sc (.int .u8 0)), (.sc (.int .u8 0)), (.sc (.int .u8 0)), (.sc (.int .u8 0)), (.sc (.int .u8 0)), (.sc (.int .u8 0)), (.sc (.int .u8 0)), (.sc (.int .u8 0)), (.sc (.int .u8 0)), (.sc (.int .u8 0)), (.sc (.int .u8 0)), (.sc (.int .u8 0)), (.sc (.int .u8 0)), (.sc (.int .u8 0)), (.sc (.int .u8 0)), (.sc (.int .u8 0)), (.sc (.int .u8 0)), (.sc (.int .u8 0)), (.sc (.int .u8 0)), (.sc (.int .u8 0)), (.sc (.int .u8 0)), (.sc (.int .u32 0)), (.sc (.int .u32 0)), (.gs 1 [])]⟩,
   ⟨none, false, none, .store 35 (.tmp 11) (.tmp 67)⟩])
 (.seq (.seq (.reg [⟨(some 68), false, none, .move (.tmp 1) false⟩,
   ⟨(some 69), false, none, .un .not (.tmp 68)⟩])
 (.cond (.tmp 69)
 (.seq (.mask (bl 32 89) (bl 579934938295289650113140735 89))
 (.exit 4))
 .skip))
 (.seq (.reg [⟨(some 70), false, none, .move (.tmp 5) true⟩,
   ⟨(some 71), false, none, .fieldAddr 34 (.tmp 11)⟩,
   ⟨(some 72), false, none, .load false 1 (.tmp 71) false⟩,
   ⟨(some 73), false, none, .lenS (.tmp 72)⟩,
   ⟨(some 74), false, none, .conv .u64 (.tmp 73)⟩,
   ⟨(some 75), false, none, .call 185 [((.tmp 70), false), ((.tmp 74), false)]⟩,
   ⟨(some 5), false, none, .move (.tmp 75) true⟩])
 (.seq (.reg [⟨(some 76), false, none, .fieldAddr 34 (.tmp 11)⟩,
   ⟨(some 77), false, none, .load false 1 (.tmp 76) false⟩,
   ⟨(some 78), false, none, .lenS (.tmp 77)⟩,
   ⟨(some 79), false, none, .move (.const (.sc (.int .i64 0))) false⟩])
 (.block 6 (.loop (bl 1057842373964929519583266 89) (bl 580284393415022003858956287 89)
 cbbbbbbbabaabbaabbbbaa_ref09_encode)))))))
 cbbbbbbbabaabbb_ref09_encode)))
def cbbbbbabaa_ref09_encode : CC := (.seq (.reg [⟨(some 49), false, none, .bin .lss (.tmp 48) (.tmp 47)⟩])
 (.seq (.cond (.tmp 49)
 .skip
 (.seq (.mask (bl 38 89) (bl 618970019588646941921115647 89))
 (.exit 2)))
 (.seq (.block 3 (.seq (.reg [⟨(some 50), false, none, .indexAddrS 2 (.tmp 46) (.tmp 48)⟩,
   ⟨(some 51), false, none, .load true 2 (.tmp 50) false⟩,
   ⟨(some 9), false, none, .alloc false [(.sc (.int .i64 0)), (.gs 1 [])]⟩,
   ⟨none, false, none, .store 2 (.tmp 9) (.tmp 51)⟩])
 (.reg [⟨(some 52), false, none, .move (.tmp 5) true⟩,
   ⟨(some 53), false, none, .load true 2 (.tmp 9) false⟩,
   ⟨(some 54), false, none, .call 186 [((.tmp 53), true)]⟩,
   ⟨(some 55), false, none, .append 1 1 (.tmp 52) (.tmp 54)⟩,
   ⟨(some 5), false, none, .move (.tmp 55) true⟩])))
 (.reg [⟨(some 56), false, none, .bin .add (.tmp 48) (.const (.sc (.int .i64 1)))⟩,
   ⟨(some 48), false, none, .move (.tmp 56) false⟩]))))
def cbbbbbbbb_ref09_encode : CC := (.seq (.reg [⟨(some 88), false, none, .move (.tmp 5) true⟩,
   ⟨(some 4), false, none, .move (.tmp 88) true⟩])
 .ret)
def cbbbabaa_ref09_encode : CC := (.seq (.reg [⟨(some 27), false, none, .bin .lss (.tmp 26) (.tmp 25)⟩])
 (.seq (.cond (.tmp 27)
 .skip
 (.seq (.mask (bl 38 89) (bl 618970019642689974240804735 89))
 (.exit 0)))
 (.seq (.block 1 (.seq (.reg [⟨(some 28), false, none, .indexAddrS 35 (.tmp 24) (.tmp 26)⟩,
   ⟨(some 29), false, none, .load true 35 (.tmp 28) false⟩,
   ⟨(some 7), false, none, .alloc false [(.sc (.int .u8 0)), (.sc (.int .u8 0)), (.sc (.int .u8 0)), (.sc (.int .u8 0)), (.sc (.int .u8 0)), (.sc (.int .u8 0)), (.sc (.int .u8 0)), (.sc (.int .u8 0)), (.sc (.int .u8 0)), (.sc (.int .u8 0)), (.sc (.int .u8 0)), (.sc (.int .u8 0)), (.sc (.int .u8 0)), (.sc (.int .u8 0)), (.sc (.int .u8 0)), (.sc (.int .u8 0)), (.sc (.int .u8 0)), (.sc (.int .u8 0)), (.sc (.int .u8 0)), (.sc (.int .u8 0)), (.sc (.int .u8 0)), (.sc (.int .u8 0)), (.sc (.int .u8 0)), (.sc (.int .u8 0)), (.sc (.int .u8 0)), (.sc (.int .u8 0)), (.sc (.int .u8 0)), (.sc (.int .u8 0)), (.sc (.int .u8 0)), (.sc (.int .u8 0)), (.sc (.int .u8 0)), (.sc (.int .u8 0)), (.sc (.int .u32 0)), (.sc (.int .u32 0)), (.gs 1 [])]⟩,
   ⟨none, false, none, .store 35 (.tmp 7) (.tmp 29)⟩])
 (.dreg [] [(⟨(some 30), false, none, .move (.tmp 5) true⟩, true),
   (⟨(some 31), false, none, .fieldAddr 0 (.tmp 7)⟩, false),
   (⟨(some 32), false, none, .load true 33 (.tmp 31) false⟩, true),
   (⟨(some 33), false, none, .call 138 [((.tmp 32), false)]⟩, true),
   (⟨(some 34), false, none, .append 1 1 (.tmp 30) (.tmp 33)⟩, true),
   (⟨(some 35), false, none, .fieldAddr 33 (.tmp 7)⟩, false),
   (⟨(some 36), false, none, .load false 1 (.tmp 35) false⟩, true),
   (⟨(some 37), false, none, .call 159 [((.tmp 34), false), ((.tmp 36), false)]⟩, false),
   (⟨(some 5), false, none, .move (.tmp 37) true⟩, false)])))
 (.reg [⟨(some 38), false, none, .bin .add (.tmp 26) (.const (.sc (.int .i64 1)))⟩,
   ⟨(some 26), false, none, .move (.tmp 38) false⟩]))))
def cbbbbbb_ref09_encode : CC := (.seq (.reg [⟨(some 57), false, none, .move (.tmp 5) true⟩,
   ⟨(some 58), false, none, .fieldAddr 3 (.tmp 2)⟩,
   ⟨(some 59), false, none, .load false 1 (.tmp 58) false⟩,
   ⟨(some 60), false, none, .call 159 [((.tmp 57), false), ((.tmp 59), false)]⟩,
   ⟨(some 5), false, none, .move (.tmp 60) true⟩])
 (.seq (.seq (.reg [⟨(some 61), false, none, .fieldAddr 1 (.tmp 2)⟩,
   ⟨(some 62), false, none, .load false 1 (.tmp 61) false⟩,
   ⟨(some 63), false, none, .lenS (.tmp 62)⟩,
   ⟨(some 64), false, none, .move (.const (.sc (.int .i64 0))) false⟩])
 (.block 4 (.loop (bl 32281802128991715362 89) (bl 579934938295289650113140735 89)
 cbbbbbbbabaa_ref09_encode)))
 cbbbbbbbb_ref09_encode))
def cbbbb_ref09_encode : CC := (.seq (.reg [⟨(some 39), false, none, .move (.tmp 5) true⟩,
   ⟨(some 40), false, none, .fieldAddr 2 (.tmp 2)⟩,
   ⟨(some 41), false, none, .load false 1 (.tmp 40) false⟩,
   ⟨(some 42), false, none, .lenS (.tmp 41)⟩,
   ⟨(some 43), false, none, .conv .u64 (.tmp 42)⟩,
   ⟨(some 44), false, none, .call 185 [((.tmp 39), false), ((.tmp 43), false)]⟩,
   ⟨(some 5), false, none, .move (.tmp 44) true⟩])
 (.seq (.seq (.reg [⟨(some 45), false, none, .fieldAddr 2 (.tmp 2)⟩,
   ⟨(some 46), false, none, .load false 1 (.tmp 45) false⟩,
   ⟨(some 47), false, none, .lenS (.tmp 46)⟩,
   ⟨(some 48), false, none, .move (.const (.sc (.int .i64 0))) false⟩])
 (.block 2 (.loop (bl 492581209243686 89) (bl 618970019588646941921115647 89)
 cbbbbbabaa_ref09_encode)))
 cbbbbbb_ref09_encode))
def cf_ref09_encode : CF := ⟨89, [.tmp 4],
 (.seq (.reg [⟨(some 2), false, none, .box false (.tmp 0)⟩,
   ⟨(some 4), false, none, .move (.const (.gs 1 [])) true⟩])
 (.seq (.reg [⟨(some 14), false, none, .fieldAddr 0 (.tmp 2)⟩,
   ⟨(some 15), false, none, .load false 1 (.tmp 14) false⟩,
   ⟨(some 16), false, none, .call 159 [((.const (.gs 1 [])), false), ((.tmp 15), false)]⟩,
   ⟨(some 5), false, none, .move (.tmp 16) true⟩])
 (.seq (.reg [⟨(some 17), false, none, .move (.tmp 5) true⟩,
   ⟨(some 18), false, none, .fieldAddr 1 (.tmp 2)⟩,
   ⟨(some 19), false, none, .load false 1 (.tmp 18) false⟩,
   ⟨(some 20), false, none, .lenS (.tmp 19)⟩,
   ⟨(some 21), false, none, .conv .u64 (.tmp 20)⟩,
   ⟨(some 22), false, none, .call 185 [((.tmp 17), false), ((.tmp 21), false)]⟩,
   ⟨(some 5), false, none, .move (.tmp 22) true⟩])
 (.seq (.seq (.reg [⟨(some 23), false, none, .fieldAddr 1 (.tmp 2)⟩,
   ⟨(some 24), false, none, .load false 1 (.tmp 23) false⟩,
   ⟨(some 25), false, none, .lenS (.tmp 24)⟩,
   ⟨(some 26), false, none, .move (.const (.sc (.int .i64 0))) false⟩])
 (.block 0 (.loop (bl 117440550 89) (bl 618970019642689974240804735 89)
 cbbbabaa_ref09_encode)))
 cbbbb_ref09_encode))))⟩
def hint_ref09_encode : Hint := ⟨[(0, 1), (1, 3), (2, 0), (2, 6), (6, 0), (6, 8), (8, 0), (8, 6), (12, 0), (12, 4), (14, 0), (14, 4), (19, 0), (19, 6), (22, 2), (23, 0), (23, 1), (23, 3), (26, 0), (26, 1)], [], [none, some ((bl 117440550 89), (bl 618970019642689974240804735 89)), none, some ((bl 38 89), (bl 618970019642689974240804735 89)), none, none, some ((bl 492581209243686 89), (bl 618970019588646941921115647 89)), none, some ((bl 38 89), (bl 618970019588646941921115647 89)), none, none, some ((bl 32281802128991715362 89), (bl 579934938295289650113140735 89)), none, some ((bl 32 89), (bl 579934938295289650113140735 89)), none, none, some ((bl 32 89), (bl 579934938295289650113140735 89)), none, some ((bl 1057842373964929519583266 89), (bl 580284393415022003858956287 89)), none, some ((bl 32281802128991715362 89), (bl 580284393415022003858956287 89)), none, none], []⟩
def sh_ref09_encode : Nat → Sh := shOf [(2, (.row [(.int .u32), (.sl 35), (.sl 2), (.int .u32)])), (29, (.row [(.int .u8), (.int .u8), (.int .u8), (.int .u8), (.int .u8), (.int .u8), (.int .u8), (.int .u8), (.int .u8), (.int .u8), (.int .u8), (.int .u8), (.int .u8), (.int .u8), (.int .u8), (.int .u8), (.int .u8), (.int .u8), (.int .u8), (.int .u8), (.int .u8), (.int .u8), (.int .u8), (.int .u8), (.int .u8), (.int .u8), (.int .u8), (.int .u8), (.int .u8), (.int .u8), (.int .u8), (.int .u8), (.int .u32), (.int .u32), (.sl 1)])), (51, (.row [(.int .i64), (.sl 1)])), (67, (.row [(.int .u8), (.int .u8), (.int .u8), (.int .u8), (.int .u8), (.int .u8), (.int .u8), (.int .u8), (.int .u8), (.int .u8), (.int .u8), (.int .u8), (.int .u8), (.int .u8), (.int .u8), (.int .u8), (.int .u8), (.int .u8), (.int .u8), (.int .u8), (.int .u8), (.int .u8), (.int .u8), (.int .u8), (.int .u8), (.int .u8), (.int .u8), (.int .u8), (.int .u8), (.int .u8), (.int .u8), (.int .u8), (.int .u32), (.int .u32), (.sl 1)])), (82, (.sl 1))]
def cb_ref09_encode (F_ref01_AppendU32 : T_ref01_AppendU32) (F_ref01_AppendSize : T_ref01_AppendSize) (F_ref09_Point : T_ref09_Point) (F_ref09_Out : T_ref09_Out) (F_ref01_AppendBytes : T_ref01_AppendBytes) (L : Nat) : CBC := (addC 187 (d_ref01_AppendBytes F_ref01_AppendBytes L) (addC 186 (d_ref09_Out F_ref09_Out L) (addC 138 (d_ref09_Point F_ref09_Point L) (addC 185 (d_ref01_AppendSize F_ref01_AppendSize L) (addC 159 (d_ref01_AppendU32 F_ref01_AppendU32 L) noC)))))
def mbbbaba_ref09_encode : St → St := mask (bl 117440550 89) (bl 618970019642689974240804735 89)
def mbbbbbaba_ref09_encode : St → St := mask (bl 492581209243686 89) (bl 618970019588646941921115647 89)
def mbbbbbbbaba_ref09_encode : St → St := mask (bl 32281802128991715362 89) (bl 579934938295289650113140735 89)
def mbbbbbbbabaabbaabbbba_ref09_encode : St → St := mask (bl 1057842373964929519583266 89) (bl 580284393415022003858956287 89)
def st_hbbbaba_ref09_encode (p1 : Bool) (p5 : List (List V)) (p24 : List (List V)) (p25 : Int) (p26 : Int) (b2_0 : Int) (b2_1 : List (List V)) (b2_2 : List (List V)) (b2_3 : Int) : St := ⟨[.junk, (V.sc (.bool p1)), (V.ptr 2 0), .junk, .junk, (V.gs 1 p5), .junk, .junk, .junk, .junk, .junk, .junk, .junk, .junk, .junk, .junk, .junk, .junk, .junk, .junk, .junk, .junk, .junk, .junk, (V.sl 35 p24), (V.sc (.int .i64 p25)), (V.sc (.int .i64 p26)), .junk, .junk, .junk, .junk, .junk, .junk, .junk, .junk, .junk, .junk, .junk, .junk, .junk, .junk, .junk, .junk, .junk, .junk, .junk, .junk, .junk, .junk, .junk, .junk, .junk, .junk, .junk, .junk, .junk, .junk, .junk, .junk, .junk, .junk, .junk, .junk, .junk, .junk, .junk, .junk, .junk, .junk, .junk, .junk, .junk, .junk, .junk, .junk, .junk, .junk, .junk, .junk, .junk, .junk, .junk, .junk, .junk, .junk, .junk, .junk, .junk, .junk], [.gone, .gone, (.live false [(V.sc (.int .u32 b2_0)), (V.sl 35 b2_1), (V.sl 2 b2_2), (V.sc (.int .u32 b2_3))]), .gone, .gone, .gone, .gone, .gone, .gone, .gone, .gone, .gone, .gone, .gone, .gone, .gone, .gone, .gone, .gone, .gone, .gone, .gone, .gone, .gone, .gone, .gone, .gone, .gone, .gone, .gone, .gone, .gone, .gone, .gone, .gone, .gone, .gone, .gone, .gone, .gone, .gone, .gone, .gone, .gone, .gone, .gone, .gone, .gone, .gone, .gone, .gone, .gone, .gone, .gone, .gone, .gone, .gone, .gone, .gone, .gone, .gone, .gone, .gone, .gone, .gone, .gone, .gone, .gone, .gone, .gone, .gone, .gone, .gone, .gone, .gone, .gone, .gone, .gone, .gone, .gone, .gone, .gone, .gone, .gone, .gone, .gone, .gone, .gone, .gone]⟩
def st_x0_ref09_encode (p1 : Bool) (p5 : List (List V)) (b2_0 : Int) (b2_1 : List (List V)) (b2_2 : List (List V)) (b2_3 : Int) : St := ⟨[.junk, (V.sc (.bool p1)), (V.ptr 2 0), .junk, .junk, (V.gs 1 p5), .junk, .junk, .junk, .junk, .junk, .junk, .junk, .junk, .junk, .junk, .junk, .junk, .junk, .junk, .junk, .junk, .junk, .junk, .junk, .junk, .junk, .junk, .junk, .junk, .junk, .junk, .junk, .junk, .junk, .junk, .junk, .junk, .junk, .junk, .junk, .junk, .junk, .junk, .junk, .junk, .junk, .junk, .junk, .junk, .junk, .junk, .junk, .junk, .junk, .junk, .junk, .junk, .junk, .junk, .junk, .junk, .junk, .junk, .junk, .junk, .junk, .junk, .junk, .junk, .junk, .junk, .junk, .junk, .junk, .junk, .junk, .junk, .junk, .junk, .junk, .junk, .junk, .junk, .junk, .junk, .junk, .junk, .junk], [.gone, .gone, (.live false [(V.sc (.int .u32 b2_0)), (V.sl 35 b2_1), (V.sl 2 b2_2), (V.sc (.int .u32 b2_3))]), .gone, .gone, .gone, .gone, .gone, .gone, .gone, .gone, .gone, .gone, .gone, .gone, .gone, .gone, .gone, .gone, .gone, .gone, .gone, .gone, .gone, .gone, .gone, .gone, .gone, .gone, .gone, .gone, .gone, .gone, .gone, .gone, .gone, .gone, .gone, .gone, .gone, .gone, .gone, .gone, .gone, .gone, .gone, .gone, .gone, .gone, .gone, .gone, .gone, .gone, .gone, .gone, .gone, .gone, .gone, .gone, .gone, .gone, .gone, .gone, .gone, .gone, .gone, .gone, .gone, .gone, .gone, .gone, .gone, .gone, .gone, .gone, .gone, .gone, .gone, .gone, .gone, .gone, .gone, .gone, .gone, .gone, .gone, .gone, .gone, .gone]⟩
def st_hbbbbbaba_ref09_encode (p1 : Bool) (p5 : List (List V)) (p46 : List (List V)) (p47 : Int) (p48 : Int) (b2_0 : Int) (b2_1 : List (List V)) (b2_2 : List (List V)) (b2_3 : Int) : St := ⟨[.junk, (V.sc (.bool p1)), (V.ptr 2 0), .junk, .junk, (V.gs 1 p5), .junk, .junk, .junk, .junk, .junk, .junk, .junk, .junk, .junk, .junk, .junk, .junk, .junk, .junk, .junk, .junk, .junk, .junk, .junk, .junk, .junk, .junk, .junk, .junk, .junk, .junk, .junk, .junk, .junk, .junk, .junk, .junk, .junk, .junk, .junk, .junk, .junk, .junk, .junk, .junk, (V.sl 2 p46), (V.sc (.int .i64 p47)), (V.sc (.int .i64 p48)), .junk, .junk, .junk, .junk, .junk, .junk, .junk, .junk, .junk, .junk, .junk, .junk, .junk, .junk, .junk, .junk, .junk, .junk, .junk, .junk, .junk, .junk, .junk, .junk, .junk, .junk, .junk, .junk, .junk, .junk, .junk, .junk, .junk, .junk, .junk, .junk, .junk, .junk, .junk, .junk], [.gone, .gone, (.live false [(V.sc (.int .u32 b2_0)), (V.sl 35 b2_1), (V.sl 2 b2_2), (V.sc (.int .u32 b2_3))]), .gone, .gone, .gone, .gone, .gone, .gone, .gone, .gone, .gone, .gone, .gone, .gone, .gone, .gone, .gone, .gone, .gone, .gone, .gone, .gone, .gone, .gone, .gone, .gone, .gone, .gone, .gone, .gone, .gone, .gone, .gone, .gone, .gone, .gone, .gone, .gone, .gone, .gone, .gone, .gone, .gone, .gone, .gone, .gone, .gone, .gone, .gone, .gone, .gone, .gone, .gone, .gone, .gone, .gone, .gone, .gone, .gone, .gone, .gone, .gone, .gone, .gone, .gone, .gone, .gone, .gone, .gone, .gone, .gone, .gone, .gone, .gone, .gone, .gone, .gone, .gone, .gone, .gone, .gone, .gone, .gone, .gone, .gone, .gone, .gone, .gone]⟩
def st_x2_ref09_encode (p1 : Bool) (p5 : List (List V)) (b2_0 : Int) (b2_1 : List (List V)) (b2_2 : List (List V)) (b2_3 : Int) : St := ⟨[.junk, (V.sc (.bool p1)), (V.ptr 2 0), .junk, .junk, (V.gs 1 p5), .junk, .junk, .junk, .junk, .junk, .junk, .junk, .junk, .junk, .junk, .junk, .junk, .junk, .junk, .junk, .junk, .junk, .junk, .junk, .junk, .junk, .junk, .junk, .junk, .junk, .junk, .junk, .junk, .junk, .junk, .junk, .junk, .junk, .junk, .junk, .junk, .junk, .junk, .junk, .junk, .junk, .junk, .junk, .junk, .junk, .junk, .junk, .junk, .junk, .junk, .junk, .junk, .junk, .junk, .junk, .junk, .junk, .junk, .junk, .junk, .junk, .junk, .junk, .junk, .junk, .junk, .junk, .junk, .junk, .junk, .junk, .junk, .junk, .junk, .junk, .junk, .junk, .junk, .junk, .junk, .junk, .junk, .junk], [.gone, .gone, (.live false [(V.sc (.int .u32 b2_0)), (V.sl 35 b2_1), (V.sl 2 b2_2), (V.sc (.int .u32 b2_3))]), .gone, .gone, .gone, .gone, .gone, .gone, .gone, .gone, .gone, .gone, .gone, .gone, .gone, .gone, .gone, .gone, .gone, .gone, .gone, .gone, .gone, .gone, .gone, .gone, .gone, .gone, .gone, .gone, .gone, .gone, .gone, .gone, .gone, .gone, .gone, .gone, .gone, .gone, .gone, .gone, .gone, .gone, .gone, .gone, .gone, .gone, .gone, .gone, .gone, .gone, .gone, .gone, .gone, .gone, .gone, .gone, .gone, .gone, .gone, .gone, .gone, .gone, .gone, .gone, .gone, .gone, .gone, .gone, .gone, .gone, .gone, .gone, .gone, .gone, .gone, .gone, .gone, .gone, .gone, .gone, .gone, .gone, .gone, .gone, .gone, .gone]⟩
def st_hbbbbbbbaba_ref09_encode (p1 : Bool) (p5 : List (List V)) (p62 : List (List V)) (p63 : Int) (p64 : Int) (b2_0 : Int) (b2_1 : List (List V)) (b2_2 : List (List V)) (b2_3 : Int) : St := ⟨[.junk, (V.sc (.bool p1)), .junk, .junk, .junk, (V.gs 1 p5), .junk, .junk, .junk, .junk, .junk, .junk, .junk, .junk, .junk, .junk, .junk, .junk, .junk, .junk, .junk, .junk, .junk, .junk, .junk, .junk, .junk, .junk, .junk, .junk, .junk, .junk, .junk, .junk, .junk, .junk, .junk, .junk, .junk, .junk, .junk, .junk, .junk, .junk, .junk, .junk, .junk, .junk, .junk, .junk, .junk, .junk, .junk, .junk, .junk, .junk, .junk, .junk, .junk, .junk, .junk, .junk, (V.sl 35 p62), (V.sc (.int .i64 p63)), (V.sc (.int .i64 p64)), .junk, .junk, .junk, .junk, .junk, .junk, .junk, .junk, .junk, .junk, .junk, .junk, .junk, .junk, .junk, .junk, .junk, .junk, .junk, .junk, .junk, .junk, .junk, .junk], [.gone, .gone, (.live false [(V.sc (.int .u32 b2_0)), (V.sl 35 b2_1), (V.sl 2 b2_2), (V.sc (.int .u32 b2_3))]), .gone, .gone, .gone, .gone, .gone, .gone, .gone, .gone, .gone, .gone, .gone, .gone, .gone, .gone, .gone, .gone, .gone, .gone, .gone, .gone, .gone, .gone, .gone, .gone, .gone, .gone, .gone, .gone, .gone, .gone, .gone, .gone, .gone, .gone, .gone, .gone, .gone, .gone, .gone, .gone, .gone, .gone, .gone, .gone, .gone, .gone, .gone, .gone, .gone, .gone, .gone, .gone, .gone, .gone, .gone, .gone, .gone, .gone, .gone, .gone, .gone, .gone, .gone, .gone, .gone, .gone, .gone, .gone, .gone, .gone, .gone, .gone, .gone, .gone, .gone, .gone, .gone, .gone, .gone, .gone, .gone, .gone, .gone, .gone, .gone, .gone]⟩
def st_x4_ref09_encode (p5 : List (List V)) (b2_0 : Int) (b2_1 : List (List V)) (b2_2 : List (List V)) (b2_3 : Int) : St := ⟨[.junk, .junk, .junk, .junk, .junk, (V.gs 1 p5), .junk, .junk, .junk, .junk, .junk, .junk, .junk, .junk, .junk, .junk, .junk, .junk, .junk, .junk, .junk, .junk, .junk, .junk, .junk, .junk, .junk, .junk, .junk, .junk, .junk, .junk, .junk, .junk, .junk, .junk, .junk, .junk, .junk, .junk, .junk, .junk, .junk, .junk, .junk, .junk, .junk, .junk, .junk, .junk, .junk, .junk, .junk, .junk, .junk, .junk, .junk, .junk, .junk, .junk, .junk, .junk, .junk, .junk, .junk, .junk, .junk, .junk, .junk, .junk, .junk, .junk, .junk, .junk, .junk, .junk, .junk, .junk, .junk, .junk, .junk, .junk, .junk, .junk, .junk, .junk, .junk, .junk, .junk], [.gone, .gone, (.live false [(V.sc (.int .u32 b2_0)), (V.sl 35 b2_1), (V.sl 2 b2_2), (V.sc (.int .u32 b2_3))]), .gone, .gone, .gone, .gone, .gone, .gone, .gone, .gone, .gone, .gone, .gone, .gone, .gone, .gone, .gone, .gone, .gone, .gone, .gone, .gone, .gone, .gone, .gone, .gone, .gone, .gone, .gone, .gone, .gone, .gone, .gone, .gone, .gone, .gone, .gone, .gone, .gone, .gone, .gone, .gone, .gone, .gone, .gone, .gone, .gone, .gone, .gone, .gone, .gone, .gone, .gone, .gone, .gone, .gone, .gone, .gone, .gone, .gone, .gone, .gone, .gone, .gone, .gone, .gone, .gone, .gone, .gone, .gone, .gone, .gone, .gone, .gone, .gone, .gone, .gone, .gone, .gone, .gone, .gone, .gone, .gone, .gone, .gone, .gone, .gone, .gone]⟩
def st_hbbbbbbbabaabbaabbbba_ref09_encode (p1 : Bool) (p5 : List (List V)) (p62 : List (List V)) (p63 : Int) (p64 : Int) (p77 : List (List V)) (p78 : Int) (p79 : Int) (b2_0 : Int) (b2_1 : List (List V)) (b2_2 : List (List V)) (b2_3 : Int) (b11_0 : Int) (b11_1 : Int) (b11_2 : Int) (b11_3 : Int) (b11_4 : Int) (b11_5 : Int) (b11_6 : Int) (b11_7 : Int) (b11_8 : Int) (b11_9 : Int) (b11_10 : Int) (b11_11 : Int) (b11_12 : Int) (b11_13 : Int) (b11_14 : Int) (b11_15 : Int) (b11_16 : Int) (b11_17 : Int) (b11_18 : Int) (b11_19 : Int) (b11_20 : Int) (b11_21 : Int) (b11_22 : Int) (b11_23 : Int) (b11_24 : Int) (b11_25 : Int) (b11_26 : Int) (b11_27 : Int) (b11_28 : Int) (b11_29 : Int) (b11_30 : Int) (b11_31 : Int) (b11_32 : Int) (b11_33 : Int) (b11_34 : List (List V)) : St := ⟨[.junk, (V.sc (.bool p1)), .junk, .junk, .junk, (V.gs 1 p5), .junk, .junk, .junk, .junk, .junk, .junk, .junk, .junk, .junk, .junk, .junk, .junk, .junk, .junk, .junk, .junk, .junk, .junk, .junk, .junk, .junk, .junk, .junk, .junk, .junk, .junk, .junk, .junk, .junk, .junk, .junk, .junk, .junk, .junk, .junk, .junk, .junk, .junk, .junk, .junk, .junk, .junk, .junk, .junk, .junk, .junk, .junk, .junk, .junk, .junk, .junk, .junk, .junk, .junk, .junk, .junk, (V.sl 35 p62), (V.sc (.int .i64 p63)), (V.sc (.int .i64 p64)), .junk, .junk, .junk, .junk, .junk, .junk, .junk, .junk, .junk, .junk, .junk, .junk, (V.sl 1 p77), (V.sc (.int .i64 p78)), (V.sc (.int .i64 p79)), .junk, .junk, .junk, .junk, .junk, .junk, .junk, .junk, .junk], [.gone, .gone, (.live false [(V.sc (.int .u32 b2_0)), (V.sl 35 b2_1), (V.sl 2 b2_2), (V.sc (.int .u32 b2_3))]), .gone, .gone, .gone, .gone, .gone, .gone, .gone, .gone, (.live false [(V.sc (.int .u8 b11_0)), (V.sc (.int .u8 b11_1)), (V.sc (.int .u8 b11_2)), (V.sc (.int .u8 b11_3)), (V.sc (.int .u8 b11_4)), (V.sc (.int .u8 b11_5)), (V.sc (.int .u8 b11_6)), (V.sc (.int .u8 b11_7)), (V.sc (.int .u8 b11_8)), (V.sc (.int .u8 b11_9)), (V.sc (.int .u8 b11_10)), (V.sc (.int .u8 b11_11)), (V.sc (.int .u8 b11_12)), (V.sc (.int .u8 b11_13)), (V.sc (.int .u8 b11_14)), (V.sc (.int .u8 b11_15)), (V.sc (.int .u8 b11_16)), (V.sc (.int .u8 b11_17)), (V.sc (.int .u8 b11_18)), (V.sc (.int .u8 b11_19)), (V.sc (.int .u8 b11_20)), (V.sc (.int .u8 b11_21)), (V.sc (.int .u8 b11_22)), (V.sc (.int .u8 b11_23)), (V.sc (.int .u8 b11_24)), (V.sc (.int .u8 b11_25)), (V.sc (.int .u8 b11_26)), (V.sc (.int .u8 b11_27)), (V.sc (.int .u8 b11_28)), (V.sc (.int .u8 b11_29)), (V.sc (.int .u8 b11_30)), (V.sc (.int .u8 b11_31)), (V.sc (.int .u32 b11_32)), (V.sc (.int .u32 b11_33)), (V.sl 1 b11_34)]), .gone, .gone, .gone, .gone, .gone, .gone, .gone, .gone, .gone, .gone, .gone, .gone, .gone, .gone, .gone, .gone, .gone, .gone, .gone, .gone, .gone, .gone, .gone, .gone, .gone, .gone, .gone, .gone, .gone, .gone, .gone, .gone, .gone, .gone, .gone, .gone, .gone, .gone, .gone, .gone, .gone, .gone, .gone, .gone, .gone, .gone, .gone, .gone, .gone, .gone, .gone, .gone, .gone, .gone, .gone, .gone, .gone, .gone, .gone, .gone, .gone, .gone, .gone, .gone, .gone, .gone, .gone, .gone, .gone, .gone, .gone, .gone, .gone, .gone, .gone, .gone, .gone]⟩
def st_x6_ref09_encode (p1 : Bool) (p5 : List (List V)) (p62 : List (List V)) (p63 : Int) (p64 : Int) (b2_0 : Int) (b2_1 : List (List V)) (b2_2 : List (List V)) (b2_3 : Int) (b11_0 : Int) (b11_1 : Int) (b11_2 : Int) (b11_3 : Int) (b11_4 : Int) (b11_5 : Int) (b11_6 : Int) (b11_7 : Int) (b11_8 : Int) (b11_9 : Int) (b11_10 : Int) (b11_11 : Int) (b11_12 : Int) (b11_13 : Int) (b11_14 : Int) (b11_15 : Int) (b11_16 : Int) (b11_17 : Int) (b11_18 : Int) (b11_19 : Int) (b11_20 : Int) (b11_21 : Int) (b11_22 : Int) (b11_23 : Int) (b11_24 : Int) (b11_25 : Int) (b11_26 : Int) (b11_27 : Int) (b11_28 : Int) (b11_29 : Int) (b11_30 : Int) (b11_31 : Int) (b11_32 : Int) (b11_33 : Int) (b11_34 : List (List V)) : St := ⟨[.junk, (V.sc (.bool p1)), .junk, .junk, .junk, (V.gs 1 p5), .junk, .junk, .junk, .junk, .junk, .junk, .junk, .junk, .junk, .junk, .junk, .junk, .junk, .junk, .junk, .junk, .junk, .junk, .junk, .junk, .junk, .junk, .junk, .junk, .junk, .junk, .junk, .junk, .junk, .junk, .junk, .junk, .junk, .junk, .junk, .junk, .junk, .junk, .junk, .junk, .junk, .junk, .junk, .junk, .junk, .junk, .junk, .junk, .junk, .junk, .junk, .junk, .junk, .junk, .junk, .junk, (V.sl 35 p62), (V.sc (.int .i64 p63)), (V.sc (.int .i64 p64)), .junk, .junk, .junk, .junk, .junk, .junk, .junk, .junk, .junk, .junk, .junk, .junk, .junk, .junk, .junk, .junk, .junk, .junk, .junk, .junk, .junk, .junk, .junk, .junk], [.gone, .gone, (.live false [(V.sc (.int .u32 b2_0)), (V.sl 35 b2_1), (V.sl 2 b2_2), (V.sc (.int .u32 b2_3))]), .gone, .gone, .gone, .gone, .gone, .gone, .gone, .gone, (.live false [(V.sc (.int .u8 b11_0)), (V.sc (.int .u8 b11_1)), (V.sc (.int .u8 b11_2)), (V.sc (.int .u8 b11_3)), (V.sc (.int .u8 b11_4)), (V.sc (.int .u8 b11_5)), (V.sc (.int .u8 b11_6)), (V.sc (.int .u8 b11_7)), (V.sc (.int .u8 b11_8)), (V.sc (.int .u8 b11_9)), (V.sc (.int .u8 b11_10)), (V.sc (.int .u8 b11_11)), (V.sc (.int .u8 b11_12)), (V.sc (.int .u8 b11_13)), (V.sc (.int .u8 b11_14)), (V.sc (.int .u8 b11_15)), (V.sc (.int .u8 b11_16)), (V.sc (.int .u8 b11_17)), (V.sc (.int .u8 b11_18)), (V.sc (.int .u8 b11_19)), (V.sc (.int .u8 b11_20)), (V.sc (.int .u8 b11_21)), (V.sc (.int .u8 b11_22)), (V.sc (.int .u8 b11_23)), (V.sc (.int .u8 b11_24)), (V.sc (.int .u8 b11_25)), (V.sc (.int .u8 b11_26)), (V.sc (.int .u8 b11_27)), (V.sc (.int .u8 b11_28)), (V.sc (.int .u8 b11_29)), (V.sc (.int .u8 b11_30)), (V.sc (.int .u8 b11_31)), (V.sc (.int .u32 b11_32)), (V.sc (.int .u32 b11_33)), (V.sl 1 b11_34)]), .gone, .gone, .gone, .gone, .gone, .gone, .gone, .gone, .gone, .gone, .gone, .gone, .gone, .gone, .gone, .gone, .gone, .gone, .gone, .gone, .gone, .gone, .gone, .gone, .gone, .gone, .gone, .gone, .gone, .gone, .gone, .gone, .gone, .gone, .gone, .gone, .gone, .gone, .gone, .gone, .gone, .gone, .gone, .gone, .gone, .gone, .gone, .gone, .gone, .gone, .gone, .gone, .gone, .gone, .gone, .gone, .gone, .gone, .gone, .gone, .gone, .gone, .gone, .gone, .gone, .gone, .gone, .gone, .gone, .gone, .gone, .gone, .gone, .gone, .gone, .gone, .gone]⟩
def e_ref09_encode {β : Type} (F_ref01_AppendU32 : T_ref01_AppendU32) (F_ref01_AppendSize : T_ref01_AppendSize) (F_ref09_Point : T_ref09_Point) (F_ref09_Out : T_ref09_Out) (F_ref01_AppendBytes : T_ref01_AppendBytes) (L : Nat) (p0 : List V) (p1 : Bool) (k_hbbbaba : Bool → List (List V) → List (List V) → Int → Int → Int → List (List V) → List (List V) → Int → Option β) : Option β :=
 chk (List.length p0 = 4) (
 cI .u32 p0 0 fun v0 =>
 cL 35 p0 1 fun v1 =>
 cL 2 p0 2 fun v2 =>
 cI .u32 p0 3 fun v3 =>
 F_ref01_AppendU32 β L ([] : List (List V)) v0 (fun v4 =>
 lt (IntKind.wrap .u64 ((List.length v1 : Nat) : Int)) fun x5 =>
 F_ref01_AppendSize β L v4 x5 (fun v6 =>
 k_hbbbaba p1 v6 v1 ((List.length v1 : Nat) : Int) (0 : Int) v0 v1 v2 v3)))
theorem e_ref09_encode_ok {β : Type} (F_ref01_AppendU32 : T_ref01_AppendU32) (F_ref01_AppendSize : T_ref01_AppendSize) (F_ref09_Point : T_ref09_Point) (F_ref09_Out : T_ref09_Out) (F_ref01_AppendBytes : T_ref01_AppendBytes) (L : Nat) (p0 : List V) (p1 : Bool) (k : V → Bor → Option β) : funC sh_ref09_encode (cb_ref09_encode F_ref01_AppendU32 F_ref01_AppendSize F_ref09_Point F_ref09_Out F_ref01_AppendBytes L) L cf_ref09_encode [(V.agg p0), (V.sc (.bool p1))] [] k = e_ref09_encode F_ref01_AppendU32 F_ref01_AppendSize F_ref09_Point F_ref09_Out F_ref01_AppendBytes L p0 p1 (fun p1 p5 p24 p25 p26 b2_0 b2_1 b2_2 b2_3 => loopM (runC sh_ref09_encode (cb_ref09_encode F_ref01_AppendU32 F_ref01_AppendSize F_ref09_Point F_ref09_Out F_ref01_AppendBytes L) 0 L cbbbabaa_ref09_encode) mbbbaba_ref09_encode L (st_hbbbaba_ref09_encode p1 p5 p24 p25 p26 b2_0 b2_1 b2_2 b2_3) (blockK 0 (seqK (runC sh_ref09_encode (cb_ref09_encode F_ref01_AppendU32 F_ref01_AppendSize F_ref09_Point F_ref09_Out F_ref01_AppendBytes L) 0 L cbbbb_ref09_encode) (finK 0 (CF.res cf_ref09_encode) k)))) := by kernel_rfl
def bbbbaba_ref09_encode {β : Type} (F_ref01_AppendU32 : T_ref01_AppendU32) (F_ref01_AppendSize : T_ref01_AppendSize) (F_ref09_Point : T_ref09_Point) (F_ref09_Out : T_ref09_Out) (F_ref01_AppendBytes : T_ref01_AppendBytes) (L : Nat) (p1 : Bool) (p5 : List (List V)) (p24 : List (List V)) (p25 : Int) (p26 : Int) (b2_0 : Int) (b2_1 : List (List V)) (b2_2 : List (List V)) (b2_3 : Int) (k_hbbbaba : Bool → List (List V) → List (List V) → Int → Int → Int → List (List V) → List (List V) → Int → Option β) (k_x0 : Bool → List (List V) → Int → List (List V) → List (List V) → Int → Option β) : Option β :=
 ifb (decide (p26 < p25)) (
 idx p24 p26 fun c7 =>
 chk (List.length (List.take 35 c7) = 35) (
 cI .u8 (List.take 35 c7) 0 fun v8 =>
 cI .u8 (List.take 35 c7) 1 fun v9 =>
 cI .u8 (List.take 35 c7) 2 fun v10 =>
 cI .u8 (List.take 35 c7) 3 fun v11 =>
 cI .u8 (List.take 35 c7) 4 fun v12 =>
 cI .u8 (List.take 35 c7) 5 fun v13 =>
 cI .u8 (List.take 35 c7) 6 fun v14 =>
 cI .u8 (List.take 35 c7) 7 fun v15 =>
 cI .u8 (List.take 35 c7) 8 fun v16 =>
 cI .u8 (List.take 35 c7) 9 fun v17 =>
 cI .u8 (List.take 35 c7) 10 fun v18 =>
 cI .u8 (List.take 35 c7) 11 fun v19 =>
 cI .u8 (List.take 35 c7) 12 fun v20 =>
 cI .u8 (List.take 35 c7) 13 fun v21 =>
 cI .u8 (List.take 35 c7) 14 fun v22 =>
 cI .u8 (List.take 35 c7) 15 fun v23 =>
 cI .u8 (List.take 35 c7) 16 fun v24 =>
 cI .u8 (List.take 35 c7) 17 fun v25 =>
 cI .u8 (List.take 35 c7) 18 fun v26 =>
 cI .u8 (List.take 35 c7) 19 fun v27 =>
 cI .u8 (List.take 35 c7) 20 fun v28 =>
 cI .u8 (List.take 35 c7) 21 fun v29 =>
 cI .u8 (List.take 35 c7) 22 fun v30 =>
 cI .u8 (List.take 35 c7) 23 fun v31 =>
 cI .u8 (List.take 35 c7) 24 fun v32 =>
 cI .u8 (List.take 35 c7) 25 fun v33 =>
 cI .u8 (List.take 35 c7) 26 fun v34 =>
 cI .u8 (List.take 35 c7) 27 fun v35 =>
 cI .u8 (List.take 35 c7) 28 fun v36 =>
 cI .u8 (List.take 35 c7) 29 fun v37 =>
 cI .u8 (List.take 35 c7) 30 fun v38 =>
 cI .u8 (List.take 35 c7) 31 fun v39 =>
 cI .u32 (List.take 35 c7) 32 fun v40 =>
 cI .u32 (List.take 35 c7) 33 fun v41 =>
 cL 1 (List.take 35 c7) 34 fun v42 =>
 F_ref09_Point β L [(V.sc (.int .u8 v8)), (V.sc (.int .u8 v9)), (V.sc (.int .u8 v10)), (V.sc (.int .u8 v11)), (V.sc (.int .u8 v12)), (V.sc (.int .u8 v13)), (V.sc (.int .u8 v14)), (V.sc (.int .u8 v15)), (V.sc (.int .u8 v16)), (V.sc (.int .u8 v17)), (V.sc (.int .u8 v18)), (V.sc (.int .u8 v19)), (V.sc (.int .u8 v20)), (V.sc (.int .u8 v21)), (V.sc (.int .u8 v22)), (V.sc (.int .u8 v23)), (V.sc (.int .u8 v24)), (V.sc (.int .u8 v25)), (V.sc (.int .u8 v26)), (V.sc (.int .u8 v27)), (V.sc (.int .u8 v28)), (V.sc (.int .u8 v29)), (V.sc (.int .u8 v30)), (V.sc (.int .u8 v31)), (V.sc (.int .u8 v32)), (V.sc (.int .u8 v33)), (V.sc (.int .u8 v34)), (V.sc (.int .u8 v35)), (V.sc (.int .u8 v36)), (V.sc (.int .u8 v37)), (V.sc (.int .u8 v38)), (V.sc (.int .u8 v39)), (V.sc (.int .u32 v40))] (fun v43 =>
 chk ((List.length p5 + List.length v43) * 1 ≤ sizeCap ∧ List.length p5 + List.length v43 ≤ sizeCap) (
 lt (p5 ++ v43) fun l44 =>
 F_ref01_AppendU32 β L l44 v41 (fun v45 =>
 lt (IntKind.wrap .i64 ((p26 : Int) + (1 : Int))) fun x46 =>
 k_hbbbaba p1 v45 p24 p25 x46 b2_0 b2_1 b2_2 b2_3))))) (
 k_x0 p1 p5 b2_0 b2_1 b2_2 b2_3)
theorem bbbbaba_ref09_encode_ok {β : Type} (F_ref01_AppendU32 : T_ref01_AppendU32) (F_ref01_AppendSize : T_ref01_AppendSize) (F_ref09_Point : T_ref09_Point) (F_ref09_Out : T_ref09_Out) (F_ref01_AppendBytes : T_ref01_AppendBytes) (L : Nat) (p1 : Bool) (p5 : List (List V)) (p24 : List (List V)) (p25 : Int) (p26 : Int) (b2_0 : Int) (b2_1 : List (List V)) (b2_2 : List (List V)) (b2_3 : Int) (X : St → Option β) (K : KT β) : runC sh_ref09_encode (cb_ref09_encode F_ref01_AppendU32 F_ref01_AppendSize F_ref09_Point F_ref09_Out F_ref01_AppendBytes L) 0 L cbbbabaa_ref09_encode (st_hbbbaba_ref09_encode p1 p5 p24 p25 p26 b2_0 b2_1 b2_2 b2_3) (loopK mbbbaba_ref09_encode X K) = bbbbaba_ref09_encode F_ref01_AppendU32 F_ref01_AppendSize F_ref09_Point F_ref09_Out F_ref01_AppendBytes L p1 p5 p24 p25 p26 b2_0 b2_1 b2_2 b2_3 (fun p1 p5 p24 p25 p26 b2_0 b2_1 b2_2 b2_3 => X (st_hbbbaba_ref09_encode p1 p5 p24 p25 p26 b2_0 b2_1 b2_2 b2_3)) (fun p1 p5 b2_0 b2_1 b2_2 b2_3 => K (.exit 0) (st_x0_ref09_encode p1 p5 b2_0 b2_1 b2_2 b2_3)) := by kernel_rfl
def rbbbabax0_ref09_encode {β : Type} (F_ref01_AppendU32 : T_ref01_AppendU32) (F_ref01_AppendSize : T_ref01_AppendSize) (F_ref09_Point : T_ref09_Point) (F_ref09_Out : T_ref09_Out) (F_ref01_AppendBytes : T_ref01_AppendBytes) (L : Nat) (p1 : Bool) (p5 : List (List V)) (b2_0 : Int) (b2_1 : List (List V)) (b2_2 : List (List V)) (b2_3 : Int) (k_hbbbbbaba : Bool → List (List V) → List (List V) → Int → Int → Int → List (List V) → List (List V) → Int → Option β) : Option β :=
 lt (IntKind.wrap .u64 ((List.length b2_2 : Nat) : Int)) fun x47 =>
 F_ref01_AppendSize β L p5 x47 (fun v48 =>
 k_hbbbbbaba p1 v48 b2_2 ((List.length b2_2 : Nat) : Int) (0 : Int) b2_0 b2_1 b2_2 b2_3)
theorem rbbbabax0_ref09_encode_ok {β : Type} (F_ref01_AppendU32 : T_ref01_AppendU32) (F_ref01_AppendSize : T_ref01_AppendSize) (F_ref09_Point : T_ref09_Point) (F_ref09_Out : T_ref09_Out) (F_ref01_AppendBytes : T_ref01_AppendBytes) (L : Nat) (p1 : Bool) (p5 : List (List V)) (b2_0 : Int) (b2_1 : List (List V)) (b2_2 : List (List V)) (b2_3 : Int) (k : V → Bor → Option β) : (blockK 0 (seqK (runC sh_ref09_encode (cb_ref09_encode F_ref01_AppendU32 F_ref01_AppendSize F_ref09_Point F_ref09_Out F_ref01_AppendBytes L) 0 L cbbbb_ref09_encode) (finK 0 (CF.res cf_ref09_encode) k))) (.exit 0) (st_x0_ref09_encode p1 p5 b2_0 b2_1 b2_2 b2_3) = rbbbabax0_ref09_encode F_ref01_AppendU32 F_ref01_AppendSize F_ref09_Point F_ref09_Out F_ref01_AppendBytes L p1 p5 b2_0 b2_1 b2_2 b2_3 (fun p1 p5 p46 p47 p48 b2_0 b2_1 b2_2 b2_3 => loopM (runC sh_ref09_encode (cb_ref09_encode F_ref01_AppendU32 F_ref01_AppendSize F_ref09_Point F_ref09_Out F_ref01_AppendBytes L) 0 L cbbbbbabaa_ref09_encode) mbbbbbaba_ref09_encode L (st_hbbbbbaba_ref09_encode p1 p5 p46 p47 p48 b2_0 b2_1 b2_2 b2_3) (blockK 2 (seqK (runC sh_ref09_encode (cb_ref09_encode F_ref01_AppendU32 F_ref01_AppendSize F_ref09_Point F_ref09_Out F_ref01_AppendBytes L) 0 L cbbbbbb_ref09_encode) (finK 0 (CF.res cf_ref09_encode) k)))) := by kernel_rfl
def bbbbbbaba_ref09_encode {β : Type} (F_ref01_AppendU32 : T_ref01_AppendU32) (F_ref01_AppendSize : T_ref01_AppendSize) (F_ref09_Point : T_ref09_Point) (F_ref09_Out : T_ref09_Out) (F_ref01_AppendBytes : T_ref01_AppendBytes) (L : Nat) (p1 : Bool) (p5 : List (List V)) (p46 : List (List V)) (p47 : Int) (p48 : Int) (b2_0 : Int) (b2_1 : List (List V)) (b2_2 : List (List V)) (b2_3 : Int) (k_hbbbbbaba : Bool → List (List V) → List (List V) → Int → Int → Int → List (List V) → List (List V) → Int → Option β) (k_x2 : Bool → List (List V) → Int → List (List V) → List (List V) → Int → Option β) : Option β :=
 ifb (decide (p48 < p47)) (
 idx p46 p48 fun c49 =>
 chk (List.length (List.take 2 c49) = 2) (
 cI .i64 (List.take 2 c49) 0 fun v50 =>
 cL 1 (List.take 2 c49) 1 fun v51 =>
 F_ref09_Out β L [(V.sc (.int .i64 v50)), (V.sl 1 v51)] (fun v52 =>
 chk ((List.length p5 + List.length v52) * 1 ≤ sizeCap ∧ List.length p5 + List.length v52 ≤ sizeCap) (
 lt (p5 ++ v52) fun l53 =>
 lt (IntKind.wrap .i64 ((p48 : Int) + (1 : Int))) fun x54 =>
 k_hbbbbbaba p1 l53 p46 p47 x54 b2_0 b2_1 b2_2 b2_3)))) (
 k_x2 p1 p5 b2_0 b2_1 b2_2 b2_3)
theorem bbbbbbaba_ref09_encode_ok {β : Type} (F_ref01_AppendU32 : T_ref01_AppendU32) (F_ref01_AppendSize : T_ref01_AppendSize) (F_ref09_Point : T_ref09_Point) (F_ref09_Out : T_ref09_Out) (F_ref01_AppendBytes : T_ref01_AppendBytes) (L : Nat) (p1 : Bool) (p5 : List (List V)) (p46 : List (List V)) (p47 : Int) (p48 : Int) (b2_0 : Int) (b2_1 : List (List V)) (b2_2 : List (List V)) (b2_3 : Int) (X : St → Option β) (K : KT β) : runC sh_ref09_encode (cb_ref09_encode F_ref01_AppendU32 F_ref01_AppendSize F_ref09_Point F_ref09_Out F_ref01_AppendBytes L) 0 L cbbbbbabaa_ref09_encode (st_hbbbbbaba_ref09_encode p1 p5 p46 p47 p48 b2_0 b2_1 b2_2 b2_3) (loopK mbbbbbaba_ref09_encode X K) = bbbbbbaba_ref09_encode F_ref01_AppendU32 F_ref01_AppendSize F_ref09_Point F_ref09_Out F_ref01_AppendBytes L p1 p5 p46 p47 p48 b2_0 b2_1 b2_2 b2_3 (fun p1 p5 p46 p47 p48 b2_0 b2_1 b2_2 b2_3 => X (st_hbbbbbaba_ref09_encode p1 p5 p46 p47 p48 b2_0 b2_1 b2_2 b2_3)) (fun p1 p5 b2_0 b2_1 b2_2 b2_3 => K (.exit 2) (st_x2_ref09_encode p1 p5 b2_0 b2_1 b2_2 b2_3)) := by kernel_rfl
def rbbbbbabax2_ref09_encode {β : Type} (F_ref01_AppendU32 : T_ref01_AppendU32) (F_ref01_AppendSize : T_ref01_AppendSize) (F_ref09_Point : T_ref09_Point) (F_ref09_Out : T_ref09_Out) (F_ref01_AppendBytes : T_ref01_AppendBytes) (L : Nat) (p1 : Bool) (p5 : List (List V)) (b2_0 : Int) (b2_1 : List (List V)) (b2_2 : List (List V)) (b2_3 : Int) (k_hbbbbbbbaba : Bool → List (List V) → List (List V) → Int → Int → Int → List (List V) → List (List V) → Int → Option β) : Option β :=
 F_ref01_AppendU32 β L p5 b2_3 (fun v55 =>
 k_hbbbbbbbaba p1 v55 b2_1 ((List.length b2_1 : Nat) : Int) (0 : Int) b2_0 b2_1 b2_2 b2_3)
theorem rbbbbbabax2_ref09_encode_ok {β : Type} (F_ref01_AppendU32 : T_ref01_AppendU32) (F_ref01_AppendSize : T_ref01_AppendSize) (F_ref09_Point : T_ref09_Point) (F_ref09_Out : T_ref09_Out) (F_ref01_AppendBytes : T_ref01_AppendBytes) (L : Nat) (p1 : Bool) (p5 : List (List V)) (b2_0 : Int) (b2_1 : List (List V)) (b2_2 : List (List V)) (b2_3 : Int) (k : V → Bor → Option β) : (blockK 2 (seqK (runC sh_ref09_encode (cb_ref09_encode F_ref01_AppendU32 F_ref01_AppendSize F_ref09_Point F_ref09_Out F_ref01_AppendBytes L) 0 L cbbbbbb_ref09_encode) (finK 0 (CF.res cf_ref09_encode) k))) (.exit 2) (st_x2_ref09_encode p1 p5 b2_0 b2_1 b2_2 b2_3) = rbbbbbabax2_ref09_encode F_ref01_AppendU32 F_ref01_AppendSize F_ref09_Point F_ref09_Out F_ref01_AppendBytes L p1 p5 b2_0 b2_1 b2_2 b2_3 (fun p1 p5 p62 p63 p64 b2_0 b2_1 b2_2 b2_3 => loopM (runC sh_ref09_encode (cb_ref09_encode F_ref01_AppendU32 F_ref01_AppendSize F_ref09_Point F_ref09_Out F_ref01_AppendBytes L) 0 L cbbbbbbbabaa_ref09_encode) mbbbbbbbaba_ref09_encode L (st_hbbbbbbbaba_ref09_encode p1 p5 p62 p63 p64 b2_0 b2_1 b2_2 b2_3) (blockK 4 (seqK (runC sh_ref09_encode (cb_ref09_encode F_ref01_AppendU32 F_ref01_AppendSize F_ref09_Point F_ref09_Out F_ref01_AppendBytes L) 0 L cbbbbbbbb_ref09_encode) (finK 0 (CF.res cf_ref09_encode) k)))) := by kernel_rfl
def bbbbbbbbaba_ref09_encode {β : Type} (F_ref01_AppendU32 : T_ref01_AppendU32) (F_ref01_AppendSize : T_ref01_AppendSize) (F_ref09_Point : T_ref09_Point) (F_ref09_Out : T_ref09_Out) (F_ref01_AppendBytes : T_ref01_AppendBytes) (L : Nat) (p1 : Bool) (p5 : List (List V)) (p62 : List (List V)) (p63 : Int) (p64 : Int) (b2_0 : Int) (b2_1 : List (List V)) (b2_2 : List (List V)) (b2_3 : Int) (k_x4 : List (List V) → Int → List (List V) → List (List V) → Int → Option β) (k_hbbbbbbbabaabbaabbbba : Bool → List (List V) → List (List V) → Int → Int → List (List V) → Int → Int → Int → List (List V) → List (List V) → Int → Int → Int → Int → Int → Int → Int → Int → Int → Int → Int → Int → Int → Int → Int → Int → Int → Int → Int → Int → Int → Int → Int → Int → Int → Int → Int → Int → Int → Int → Int → Int → Int → Int → Int → List (List V) → Option β) : Option β :=
 ifb (decide (p64 < p63)) (
 idx p62 p64 fun c56 =>
 chk (List.length (List.take 35 c56) = 35) (
 cI .u8 (List.take 35 c56) 0 fun v57 =>
 cI .u8 (List.take 35 c56) 1 fun v58 =>
 cI .u8 (List.take 35 c56) 2 fun v59 =>
 cI .u8 (List.take 35 c56) 3 fun v60 =>
 cI .u8 (List.take 35 c56) 4 fun v61 =>
 cI .u8 (List.take 35 c56) 5 fun v62 =>
 cI .u8 (List.take 35 c56) 6 fun v63 =>
 cI .u8 (List.take 35 c56) 7 fun v64 =>
 cI .u8 (List.take 35 c56) 8 fun v65 =>
 cI .u8 (List.take 35 c56) 9 fun v66 =>
 cI .u8 (List.take 35 c56) 10 fun v67 =>
 cI .u8 (List.take 35 c56) 11 fun v68 =>
 cI .u8 (List.take 35 c56) 12 fun v69 =>
 cI .u8 (List.take 35 c56) 13 fun v70 =>
 cI .u8 (List.take 35 c56) 14 fun v71 =>
 cI .u8 (List.take 35 c56) 15 fun v72 =>
 cI .u8 (List.take 35 c56) 16 fun v73 =>
 cI .u8 (List.take 35 c56) 17 fun v74 =>
 cI .u8 (List.take 35 c56) 18 fun v75 =>
 cI .u8 (List.take 35 c56) 19 fun v76 =>
 cI .u8 (List.take 35 c56) 20 fun v77 =>
 cI .u8 (List.take 35 c56) 21 fun v78 =>
 cI .u8 (List.take 35 c56) 22 fun v79 =>
 cI .u8 (List.take 35 c56) 23 fun v80 =>
 cI .u8 (List.take 35 c56) 24 fun v81 =>
 cI .u8 (List.take 35 c56) 25 fun v82 =>
 cI .u8 (List.take 35 c56) 26 fun v83 =>
 cI .u8 (List.take 35 c56) 27 fun v84 =>
 cI .u8 (List.take 35 c56) 28 fun v85 =>
 cI .u8 (List.take 35 c56) 29 fun v86 =>
 cI .u8 (List.take 35 c56) 30 fun v87 =>
 cI .u8 (List.take 35 c56) 31 fun v88 =>
 cI .u32 (List.take 35 c56) 32 fun v89 =>
 cI .u32 (List.take 35 c56) 33 fun v90 =>
 cL 1 (List.take 35 c56) 34 fun v91 =>
 ifb (!p1) (
 k_x4 p5 b2_0 b2_1 b2_2 b2_3) (
 lt (IntKind.wrap .u64 ((List.length v91 : Nat) : Int)) fun x92 =>
 F_ref01_AppendSize β L p5 x92 (fun v93 =>
 k_hbbbbbbbabaabbaabbbba p1 v93 p62 p63 p64 v91 ((List.length v91 : Nat) : Int) (0 : Int) b2_0 b2_1 b2_2 b2_3 v57 v58 v59 v60 v61 v62 v63 v64 v65 v66 v67 v68 v69 v70 v71 v72 v73 v74 v75 v76 v77 v78 v79 v80 v81 v82 v83 v84 v85 v86 v87 v88 v89 v90 v91)))) (
 k_x4 p5 b2_0 b2_1 b2_2 b2_3)
theorem bbbbbbbbaba_ref09_encode_ok {β : Type} (F_ref01_AppendU32 : T_ref01_AppendU32) (F_ref01_AppendSize : T_ref01_AppendSize) (F_ref09_Point : T_ref09_Point) (F_ref09_Out : T_ref09_Out) (F_ref01_AppendBytes : T_ref01_AppendBytes) (L : Nat) (p1 : Bool) (p5 : List (List V)) (p62 : List (List V)) (p63 : Int) (p64 : Int) (b2_0 : Int) (b2_1 : List (List V)) (b2_2 : List (List V)) (b2_3 : Int) (X : St → Option β) (K : KT β) : runC sh_ref09_encode (cb_ref09_encode F_ref01_AppendU32 F_ref01_AppendSize F_ref09_Point F_ref09_Out F_ref01_AppendBytes L) 0 L cbbbbbbbabaa_ref09_encode (st_hbbbbbbbaba_ref09_encode p1 p5 p62 p63 p64 b2_0 b2_1 b2_2 b2_3) (loopK mbbbbbbbaba_ref09_encode X K) = bbbbbbbbaba_ref09_encode F_ref01_AppendU32 F_ref01_AppendSize F_ref09_Point F_ref09_Out F_ref01_AppendBytes L p1 p5 p62 p63 p64 b2_0 b2_1 b2_2 b2_3 (fun p5 b2_0 b2_1 b2_2 b2_3 => K (.exit 4) (st_x4_ref09_encode p5 b2_0 b2_1 b2_2 b2_3)) (fun p1 p5 p62 p63 p64 p77 p78 p79 b2_0 b2_1 b2_2 b2_3 b11_0 b11_1 b11_2 b11_3 b11_4 b11_5 b11_6 b11_7 b11_8 b11_9 b11_10 b11_11 b11_12 b11_13 b11_14 b11_15 b11_16 b11_17 b11_18 b11_19 b11_20 b11_21 b11_22 b11_23 b11_24 b11_25 b11_26 b11_27 b11_28 b11_29 b11_30 b11_31 b11_32 b11_33 b11_34 => loopM (runC sh_ref09_encode (cb_ref09_encode F_ref01_AppendU32 F_ref01_AppendSize F_ref09_Point F_ref09_Out F_ref01_AppendBytes L) 0 L cbbbbbbbabaabbaabbbbaa_ref09_encode) mbbbbbbbabaabbaabbbba_ref09_encode L (st_hbbbbbbbabaabbaabbbba_ref09_encode p1 p5 p62 p63 p64 p77 p78 p79 b2_0 b2_1 b2_2 b2_3 b11_0 b11_1 b11_2 b11_3 b11_4 b11_5 b11_6 b11_7 b11_8 b11_9 b11_10 b11_11 b11_12 b11_13 b11_14 b11_15 b11_16 b11_17 b11_18 b11_19 b11_20 b11_21 b11_22 b11_23 b11_24 b11_25 b11_26 b11_27 b11_28 b11_29 b11_30 b11_31 b11_32 b11_33 b11_34) (blockK 6 (blockK 5 (seqK (runC sh_ref09_encode (cb_ref09_encode F_ref01_AppendU32 F_ref01_AppendSize F_ref09_Point F_ref09_Out F_ref01_AppendBytes L) 0 L cbbbbbbbabaabbb_ref09_encode) (loopK mbbbbbbbaba_ref09_encode X K))))) := by kernel_rfl
def rbbbbbbbabax4_ref09_encode {β : Type} (F_ref01_AppendU32 : T_ref01_AppendU32) (F_ref01_AppendSize : T_ref01_AppendSize) (F_ref09_Point : T_ref09_Point) (F_ref09_Out : T_ref09_Out) (F_ref01_AppendBytes : T_ref01_AppendBytes) (L : Nat) (p5 : List (List V)) (b2_0 : Int) (b2_1 : List (List V)) (b2_2 : List (List V)) (b2_3 : Int) (k_fin : List (List V) → Option β) : Option β :=
 k_fin p5
theorem rbbbbbbbabax4_ref09_encode_ok {β : Type} (F_ref01_AppendU32 : T_ref01_AppendU32) (F_ref01_AppendSize : T_ref01_AppendSize) (F_ref09_Point : T_ref09_Point) (F_ref09_Out : T_ref09_Out) (F_ref01_AppendBytes : T_ref01_AppendBytes) (L : Nat) (p5 : List (List V)) (b2_0 : Int) (b2_1 : List (List V)) (b2_2 : List (List V)) (b2_3 : Int) (k : V → Bor → Option β) : (blockK 4 (seqK (runC sh_ref09_encode (cb_ref09_encode F_ref01_AppendU32 F_ref01_AppendSize F_ref09_Point F_ref09_Out F_ref01_AppendBytes L) 0 L cbbbbbbbb_ref09_encode) (finK 0 (CF.res cf_ref09_encode) k))) (.exit 4) (st_x4_ref09_encode p5 b2_0 b2_1 b2_2 b2_3) = rbbbbbbbabax4_ref09_encode F_ref01_AppendU32 F_ref01_AppendSize F_ref09_Point F_ref09_Out F_ref01_AppendBytes L p5 b2_0 b2_1 b2_2 b2_3 (fun p0 => k (V.gs 1 p0) []) := by kernel_rfl
def bbbbbbbbabaabbaabbbba_ref09_encode {β : Type} (F_ref01_AppendU32 : T_ref01_AppendU32) (F_ref01_AppendSize : T_ref01_AppendSize) (F_ref09_Point : T_ref09_Point) (F_ref09_Out : T_ref09_Out) (F_ref01_AppendBytes : T_ref01_AppendBytes) (L : Nat) (p1 : Bool) (p5 : List (List V)) (p62 : List (List V)) (p63 : Int) (p64 : Int) (p77 : List (List V)) (p78 : Int) (p79 : Int) (b2_0 : Int) (b2_1 : List (List V)) (b2_2 : List (List V)) (b2_3 : Int) (b11_0 : Int) (b11_1 : Int) (b11_2 : Int) (b11_3 : Int) (b11_4 : Int) (b11_5 : Int) (b11_6 : Int) (b11_7 : Int) (b11_8 : Int) (b11_9 : Int) (b11_10 : Int) (b11_11 : Int) (b11_12 : Int) (b11_13 : Int) (b11_14 : Int) (b11_15 : Int) (b11_16 : Int) (b11_17 : Int) (b11_18 : Int) (b11_19 : Int) (b11_20 : Int) (b11_21 : Int) (b11_22 : Int) (b11_23 : Int) (b11_24 : Int) (b11_25 : Int) (b11_26 : Int) (b11_27 : Int) (b11_28 : Int) (b11_29 : Int) (b11_30 : Int) (b11_31 : Int) (b11_32 : Int) (b11_33 : Int) (b11_34 : List (List V)) (k_hbbbbbbbabaabbaabbbba : Bool → List (List V) → List (List V) → Int → Int → List (List V) → Int → Int → Int → List (List V) → List (List V) → Int → Int → Int → Int → Int → Int → Int → Int → Int → Int → Int → Int → Int → Int → Int → Int → Int → Int → Int → Int → Int → Int → Int → Int → Int → Int → Int → Int → Int → Int → Int → Int → Int → Int → Int → List (List V) → Option β) (k_x6 : Bool → List (List V) → List (List V) → Int → Int → Int → List (List V) → List (List V) → Int → Int → Int → Int → Int → Int → Int → Int → Int → Int → Int → Int → Int → Int → Int → Int → Int → Int → Int → Int → Int → Int → Int → Int → Int → Int → Int → Int → Int → Int → Int → Int → Int → Int → Int → List (List V) → Option β) : Option β :=
 ifb (decide (p79 < p78)) (
 idx p77 p79 fun c94 =>
 cL 1 c94 0 fun v95 =>
 F_ref01_AppendBytes β L p5 v95 (fun v96 =>
 lt (IntKind.wrap .i64 ((p79 : Int) + (1 : Int))) fun x97 =>
 k_hbbbbbbbabaabbaabbbba p1 v96 p62 p63 p64 p77 p78 x97 b2_0 b2_1 b2_2 b2_3 b11_0 b11_1 b11_2 b11_3 b11_4 b11_5 b11_6 b11_7 b11_8 b11_9 b11_10 b11_11 b11_12 b11_13 b11_14 b11_15 b11_16 b11_17 b11_18 b11_19 b11_20 b11_21 b11_22 b11_23 b11_24 b11_25 b11_26 b11_27 b11_28 b11_29 b11_30 b11_31 b11_32 b11_33 b11_34)) (
 k_x6 p1 p5 p62 p63 p64 b2_0 b2_1 b2_2 b2_3 b11_0 b11_1 b11_2 b11_3 b11_4 b11_5 b11_6 b11_7 b11_8 b11_9 b11_10 b11_11 b11_12 b11_13 b11_14 b11_15 b11_16 b11_17 b11_18 b11_19 b11_20 b11_21 b11_22 b11_23 b11_24 b11_25 b11_26 b11_27 b11_28 b11_29 b11_30 b11_31 b11_32 b11_33 b11_34)
theorem bbbbbbbbabaabbaabbbba_ref09_encode_ok {β : Type} (F_ref01_AppendU32 : T_ref01_AppendU32) (F_ref01_AppendSize : T_ref01_AppendSize) (F_ref09_Point : T_ref09_Point) (F_ref09_Out : T_ref09_Out) (F_ref01_AppendBytes : T_ref01_AppendBytes) (L : Nat) (p1 : Bool) (p5 : List (List V)) (p62 : List (List V)) (p63 : Int) (p64 : Int) (p77 : List (List V)) (p78 : Int) (p79 : Int) (b2_0 : Int) (b2_1 : List (List V)) (b2_2 : List (List V)) (b2_3 : Int) (b11_0 : Int) (b11_1 : Int) (b11_2 : Int) (b11_3 : Int) (b11_4 : Int) (b11_5 : Int) (b11_6 : Int) (b11_7 : Int) (b11_8 : Int) (b11_9 : Int) (b11_10 : Int) (b11_11 : Int) (b11_12 : Int) (b11_13 : Int) (b11_14 : Int) (b11_15 : Int) (b11_16 : Int) (b11_17 : Int) (b11_18 : Int) (b11_19 : Int) (b11_20 : Int) (b11_21 : Int) (b11_22 : Int) (b11_23 : Int) (b11_24 : Int) (b11_25 : Int) (b11_26 : Int) (b11_27 : Int) (b11_28 : Int) (b11_29 : Int) (b11_30 : Int) (b11_31 : Int) (b11_32 : Int) (b11_33 : Int) (b11_34 : List (List V)) (X : St → Option β) (K : KT β) : runC sh_ref09_encode (cb_ref09_encode F_ref01_AppendU32 F_ref01_AppendSize F_ref09_Point F_ref09_Out F_ref01_AppendBytes L) 0 L cbbbbbbbabaabbaabbbbaa_ref09_encode (st_hbbbbbbbabaabbaabbbba_ref09_encode p1 p5 p62 p63 p64 p77 p78 p79 b2_0 b2_1 b2_2 b2_3 b11_0 b11_1 b11_2 b11_3 b11_4 b11_5 b11_6 b11_7 b11_8 b11_9 b11_10 b11_11 b11_12 b11_13 b11_14 b11_15 b11_16 b11_17 b11_18 b11_19 b11_20 b11_21 b11_22 b11_23 b11_24 b11_25 b11_26 b11_27 b11_28 b11_29 b11_30 b11_31 b11_32 b11_33 b11_34) (loopK mbbbbbbbabaabbaabbbba_ref09_encode X K) = bbbbbbbbabaabbaabbbba_ref09_encode F_ref01_AppendU32 F_ref01_AppendSize F_ref09_Point F_ref09_Out F_ref01_AppendBytes L p1 p5 p62 p63 p64 p77 p78 p79 b2_0 b2_1 b2_2 b2_3 b11_0 b11_1 b11_2 b11_3 b11_4 b11_5 b11_6 b11_7 b11_8 b11_9 b11_10 b11_11 b11_12 b11_13 b11_14 b11_15 b11_16 b11_17 b11_18 b11_19 b11_20 b11_21 b11_22 b11_23 b11_24 b11_25 b11_26 b11_27 b11_28 b11_29 b11_30 b11_31 b11_32 b11_33 b11_34 (fun p1 p5 p62 p63 p64 p77 p78 p79 b2_0 b2_1 b2_2 b2_3 b11_0 b11_1 b11_2 b11_3 b11_4 b11_5 b11_6 b11_7 b11_8 b11_9 b11_10 b11_11 b11_12 b11_13 b11_14 b11_15 b11_16 b11_17 b11_18 b11_19 b11_20 b11_21 b11_22 b11_23 b11_24 b11_25 b11_26 b11_27 b11_28 b11_29 b11_30 b11_31 b11_32 b11_33 b11_34 => X (st_hbbbbbbbabaabbaabbbba_ref09_encode p1 p5 p62 p63 p64 p77 p78 p79 b2_0 b2_1 b2_2 b2_3 b11_0 b11_1 b11_2 b11_3 b11_4 b11_5 b11_6 b11_7 b11_8 b11_9 b11_10 b11_11 b11_12 b11_13 b11_14 b11_15 b11_16 b11_17 b11_18 b11_19 b11_20 b11_21 b11_22 b11_23 b11_24 b11_25 b11_26 b11_27 b11_28 b11_29 b11_30 b11_31 b11_32 b11_33 b11_34)) (fun p1 p5 p62 p63 p64 b2_0 b2_1 b2_2 b2_3 b11_0 b11_1 b11_2 b11_3 b11_4 b11_5 b11_6 b11_7 b11_8 b11_9 b11_10 b11_11 b11_12 b11_13 b11_14 b11_15 b11_16 b11_17 b11_18 b11_19 b11_20 b11_21 b11_22 b11_23 b11_24 b11_25 b11_26 b11_27 b11_28 b11_29 b11_30 b11_31 b11_32 b11_33 b11_34 => K (.exit 6) (st_x6_ref09_encode p1 p5 p62 p63 p64 b2_0 b2_1 b2_2 b2_3 b11_0 b11_1 b11_2 b11_3 b11_4 b11_5 b11_6 b11_7 b11_8 b11_9 b11_10 b11_11 b11_12 b11_13 b11_14 b11_15 b11_16 b11_17 b11_18 b11_19 b11_20 b11_21 b11_22 b11_23 b11_24 b11_25 b11_26 b11_27 b11_28 b11_29 b11_30 b11_31 b11_32 b11_33 b11_34)) := by kernel_rfl
def rbbbbbbbabaabbaabbbbax6_ref09_encode {β : Type} (F_ref01_AppendU32 : T_ref01_AppendU32) (F_ref01_AppendSize : T_ref01_AppendSize) (F_ref09_Point : T_ref09_Point) (F_ref09_Out : T_ref09_Out) (F_ref01_AppendBytes : T_ref01_AppendBytes) (L : Nat) (p1 : Bool) (p5 : List (List V)) (p62 : List (List V)) (p63 : Int) (p64 : Int) (b2_0 : Int) (b2_1 : List (List V)) (b2_2 : List (List V)) (b2_3 : Int) (b11_0 : Int) (b11_1 : Int) (b11_2 : Int) (b11_3 : Int) (b11_4 : Int) (b11_5 : Int) (b11_6 : Int) (b11_7 : Int) (b11_8 : Int) (b11_9 : Int) (b11_10 : Int) (b11_11 : Int) (b11_12 : Int) (b11_13 : Int) (b11_14 : Int) (b11_15 : Int) (b11_16 : Int) (b11_17 : Int) (b11_18 : Int) (b11_19 : Int) (b11_20 : Int) (b11_21 : Int) (b11_22 : Int) (b11_23 : Int) (b11_24 : Int) (b11_25 : Int) (b11_26 : Int) (b11_27 : Int) (b11_28 : Int) (b11_29 : Int) (b11_30 : Int) (b11_31 : Int) (b11_32 : Int) (b11_33 : Int) (b11_34 : List (List V)) (k_hbbbbbbbaba : Bool → List (List V) → List (List V) → Int → Int → Int → List (List V) → List (List V) → Int → Option β) : Option β :=
 lt (IntKind.wrap .i64 ((p64 : Int) + (1 : Int))) fun x98 =>
 k_hbbbbbbbaba p1 p5 p62 p63 x98 b2_0 b2_1 b2_2 b2_3
theorem rbbbbbbbabaabbaabbbbax6_ref09_encode_ok {β : Type} (F_ref01_AppendU32 : T_ref01_AppendU32) (F_ref01_AppendSize : T_ref01_AppendSize) (F_ref09_Point : T_ref09_Point) (F_ref09_Out : T_ref09_Out) (F_ref01_AppendBytes : T_ref01_AppendBytes) (L : Nat) (p1 : Bool) (p5 : List (List V)) (p62 : List (List V)) (p63 : Int) (p64 : Int) (b2_0 : Int) (b2_1 : List (List V)) (b2_2 : List (List V)) (b2_3 : Int) (b11_0 : Int) (b11_1 : Int) (b11_2 : Int) (b11_3 : Int) (b11_4 : Int) (b11_5 : Int) (b11_6 : Int) (b11_7 : Int) (b11_8 : Int) (b11_9 : Int) (b11_10 : Int) (b11_11 : Int) (b11_12 : Int) (b11_13 : Int) (b11_14 : Int) (b11_15 : Int) (b11_16 : Int) (b11_17 : Int) (b11_18 : Int) (b11_19 : Int) (b11_20 : Int) (b11_21 : Int) (b11_22 : Int) (b11_23 : Int) (b11_24 : Int) (b11_25 : Int) (b11_26 : Int) (b11_27 : Int) (b11_28 : Int) (b11_29 : Int) (b11_30 : Int) (b11_31 : Int) (b11_32 : Int) (b11_33 : Int) (b11_34 : List (List V)) (X : St → Option β) (K : KT β) : (blockK 6 (blockK 5 (seqK (runC sh_ref09_encode (cb_ref09_encode F_ref01_AppendU32 F_ref01_AppendSize F_ref09_Point F_ref09_Out F_ref01_AppendBytes L) 0 L cbbbbbbbabaabbb_ref09_encode) (loopK mbbbbbbbaba_ref09_encode X K)))) (.exit 6) (st_x6_ref09_encode p1 p5 p62 p63 p64 b2_0 b2_1 b2_2 b2_3 b11_0 b11_1 b11_2 b11_3 b11_4 b11_5 b11_6 b11_7 b11_8 b11_9 b11_10 b11_11 b11_12 b11_13 b11_14 b11_15 b11_16 b11_17 b11_18 b11_19 b11_20 b11_21 b11_22 b11_23 b11_24 b11_25 b11_26 b11_27 b11_28 b11_29 b11_30 b11_31 b11_32 b11_33 b11_34) = rbbbbbbbabaabbaabbbbax6_ref09_encode F_ref01_AppendU32 F_ref01_AppendSize F_ref09_Point F_ref09_Out F_ref01_AppendBytes L p1 p5 p62 p63 p64 b2_0 b2_1 b2_2 b2_3 b11_0 b11_1 b11_2 b11_3 b11_4 b11_5 b11_6 b11_7 b11_8 b11_9 b11_10 b11_11 b11_12 b11_13 b11_14 b11_15 b11_16 b11_17 b11_18 b11_19 b11_20 b11_21 b11_22 b11_23 b11_24 b11_25 b11_26 b11_27 b11_28 b11_29 b11_30 b11_31 b11_32 b11_33 b11_34 (fun p1 p5 p62 p63 p64 b2_0 b2_1 b2_2 b2_3 => X (st_hbbbbbbbaba_ref09_encode p1 p5 p62 p63 p64 b2_0 b2_1 b2_2 b2_3)) := by kernel_rfl
def lbbbaba_ref09_encode {β : Type} (F_ref01_AppendU32 : T_ref01_AppendU32) (F_ref01_AppendSize : T_ref01_AppendSize) (F_ref09_Point : T_ref09_Point) (F_ref09_Out : T_ref09_Out) (F_ref01_AppendBytes : T_ref01_AppendBytes) (L : Nat) (k_x0 : Bool → List (List V) → Int → List (List V) → List (List V) → Int → Option β) : Nat → Bool → List (List V) → List (List V) → Int → Int → Int → List (List V) → List (List V) → Int → Option β
  | 0, _, _, _, _, _, _, _, _, _ => none
  | n + 1, p1, p5, p24, p25, p26, b2_0, b2_1, b2_2, b2_3 => bbbbaba_ref09_encode F_ref01_AppendU32 F_ref01_AppendSize F_ref09_Point F_ref09_Out F_ref01_AppendBytes L p1 p5 p24 p25 p26 b2_0 b2_1 b2_2 b2_3 (fun p1 p5 p24 p25 p26 b2_0 b2_1 b2_2 b2_3 => lbbbaba_ref09_encode F_ref01_AppendU32 F_ref01_AppendSize F_ref09_Point F_ref09_Out F_ref01_AppendBytes L k_x0 n p1 p5 p24 p25 p26 b2_0 b2_1 b2_2 b2_3) k_x0
theorem lbbbaba_ref09_encode_ok {β : Type} (F_ref01_AppendU32 : T_ref01_AppendU32) (F_ref01_AppendSize : T_ref01_AppendSize) (F_ref09_Point : T_ref09_Point) (F_ref09_Out : T_ref09_Out) (F_ref01_AppendBytes : T_ref01_AppendBytes) (L : Nat) (K : KT β) : ∀ (n : Nat) (p1 : Bool) (p5 : List (List V)) (p24 : List (List V)) (p25 : Int) (p26 : Int) (b2_0 : Int) (b2_1 : List (List V)) (b2_2 : List (List V)) (b2_3 : Int), loopM (runC sh_ref09_encode (cb_ref09_encode F_ref01_AppendU32 F_ref01_AppendSize F_ref09_Point F_ref09_Out F_ref01_AppendBytes L) 0 L cbbbabaa_ref09_encode) mbbbaba_ref09_encode n (st_hbbbaba_ref09_encode p1 p5 p24 p25 p26 b2_0 b2_1 b2_2 b2_3) K = lbbbaba_ref09_encode F_ref01_AppendU32 F_ref01_AppendSize F_ref09_Point F_ref09_Out F_ref01_AppendBytes L (fun p1 p5 b2_0 b2_1 b2_2 b2_3 => K (.exit 0) (st_x0_ref09_encode p1 p5 b2_0 b2_1 b2_2 b2_3)) n p1 p5 p24 p25 p26 b2_0 b2_1 b2_2 b2_3 := by
  intro n
  induction n with
  | zero => intros; rfl
  | succ n ih =>
    intro p1 p5 p24 p25 p26 b2_0 b2_1 b2_2 b2_3
    refine (bbbbaba_ref09_encode_ok F_ref01_AppendU32 F_ref01_AppendSize F_ref09_Point F_ref09_Out F_ref01_AppendBytes L p1 p5 p24 p25 p26 b2_0 b2_1 b2_2 b2_3 (fun σ => loopM (runC sh_ref09_encode (cb_ref09_encode F_ref01_AppendU32 F_ref01_AppendSize F_ref09_Point F_ref09_Out F_ref01_AppendBytes L) 0 L cbbbabaa_ref09_encode) mbbbaba_ref09_encode n σ K) K).trans ?_
    simp only [ih]
    rfl
def lbbbbbaba_ref09_encode {β : Type} (F_ref01_AppendU32 : T_ref01_AppendU32) (F_ref01_AppendSize : T_ref01_AppendSize) (F_ref09_Point : T_ref09_Point) (F_ref09_Out : T_ref09_Out) (F_ref01_AppendBytes : T_ref01_AppendBytes) (L : Nat) (k_x2 : Bool → List (List V) → Int → List (List V) → List (List V) → Int → Option β) : Nat → Bool → List (List V) → List (List V) → Int → Int → Int → List (List V) → List (List V) → Int → Option β
  | 0, _, _, _, _, _, _, _, _, _ => none
  | n + 1, p1, p5, p46, p47, p48, b2_0, b2_1, b2_2, b2_3 => bbbbbbaba_ref09_encode F_ref01_AppendU32 F_ref01_AppendSize F_ref09_Point F_ref09_Out F_ref01_AppendBytes L p1 p5 p46 p47 p48 b2_0 b2_1 b2_2 b2_3 (fun p1 p5 p46 p47 p48 b2_0 b2_1 b2_2 b2_3 => lbbbbbaba_ref09_encode F_ref01_AppendU32 F_ref01_AppendSize F_ref09_Point F_ref09_Out F_ref01_AppendBytes L k_x2 n p1 p5 p46 p47 p48 b2_0 b2_1 b2_2 b2_3) k_x2
theorem lbbbbbaba_ref09_encode_ok {β : Type} (F_ref01_AppendU32 : T_ref01_AppendU32) (F_ref01_AppendSize : T_ref01_AppendSize) (F_ref09_Point : T_ref09_Point) (F_ref09_Out : T_ref09_Out) (F_ref01_AppendBytes : T_ref01_AppendBytes) (L : Nat) (K : KT β) : ∀ (n : Nat) (p1 : Bool) (p5 : List (List V)) (p46 : List (List V)) (p47 : Int) (p48 : Int) (b2_0 : Int) (b2_1 : List (List V)) (b2_2 : List (List V)) (b2_3 : Int), loopM (runC sh_ref09_encode (cb_ref09_encode F_ref01_AppendU32 F_ref01_AppendSize F_ref09_Point F_ref09_Out F_ref01_AppendBytes L) 0 L cbbbbbabaa_ref09_encode) mbbbbbaba_ref09_encode n (st_hbbbbbaba_ref09_encode p1 p5 p46 p47 p48 b2_0 b2_1 b2_2 b2_3) K = lbbbbbaba_ref09_encode F_ref01_AppendU32 F_ref01_AppendSize F_ref09_Point F_ref09_Out F_ref01_AppendBytes L (fun p1 p5 b2_0 b2_1 b2_2 b2_3 => K (.exit 2) (st_x2_ref09_encode p1 p5 b2_0 b2_1 b2_2 b2_3)) n p1 p5 p46 p47 p48 b2_0 b2_1 b2_2 b2_3 := by
  intro n
  induction n with
  | zero => intros; rfl
  | succ n ih =>
    intro p1 p5 p46 p47 p48 b2_0 b2_1 b2_2 b2_3
    refine (bbbbbbaba_ref09_encode_ok F_ref01_AppendU32 F_ref01_AppendSize F_ref09_Point F_ref09_Out F_ref01_AppendBytes L p1 p5 p46 p47 p48 b2_0 b2_1 b2_2 b2_3 (fun σ => loopM (runC sh_ref09_encode (cb_ref09_encode F_ref01_AppendU32 F_ref01_AppendSize F_ref09_Point F_ref09_Out F_ref01_AppendBytes L) 0 L cbbbbbabaa_ref09_encode) mbbbbbaba_ref09_encode n σ K) K).trans ?_
    simp only [ih]
    rfl
def lbbbbbbbabaabbaabbbba_ref09_encode {β : Type} (F_ref01_AppendU32 : T_ref01_AppendU32) (F_ref01_AppendSize : T_ref01_AppendSize) (F_ref09_Point : T_ref09_Point) (F_ref09_Out : T_ref09_Out) (F_ref01_AppendBytes : T_ref01_AppendBytes) (L : Nat) (k_x6 : Bool → List (List V) → List (List V) → Int → Int → Int → List (List V) → List (List V) → Int → Int → Int → Int → Int → Int → Int → Int → Int → Int → Int → Int → Int → Int → Int → Int → Int → Int → Int → Int → Int → Int → Int → Int → Int → Int → Int → Int → Int → Int → Int → Int → Int → Int → Int → List (List V) → Option β) : Nat → Bool → List (List V) → List (List V) → Int → Int → List (List V) → Int → Int → Int → List (List V) → List (List V) → Int → Int → Int → Int → Int → Int → Int → Int → Int → Int → Int → Int → Int → Int → Int → Int → Int → Int → Int → Int → Int → Int → Int → Int → Int → Int → Int → Int → Int → Int → Int → Int → Int → Int → Int → List (List V) → Option β
  | 0, _, _, _, _, _, _, _, _, _, _, _, _, _, _, _, _, _, _, _, _, _, _, _, _, _, _, _, _, _, _, _, _, _, _, _, _, _, _, _, _, _, _, _, _, _, _, _ => none
  | n + 1, p1, p5, p62, p63, p64, p77, p78, p79, b2_0, b2_1, b2_2, b2_3, b11_0, b11_1, b11_2, b11_3, b11_4, b11_5, b11_6, b11_7, b11_8, b11_9, b11_10, b11_11, b11_12, b11_13, b11_14, b11_15, b11_16, b11_17, b11_18, b11_19, b11_20, b11_21, b11_22, b11_23, b11_24, b11_25, b11_26, b11_27, b11_28, b11_29, b11_30, b11_31, b11_32, b11_33, b11_34 => bbbbbbbbabaabbaabbbba_ref09_encode F_ref01_AppendU32 F_ref01_AppendSize F_ref09_Point F_ref09_Out F_ref01_AppendBytes L p1 p5 p62 p63 p64 p77 p78 p79 b2_0 b2_1 b2_2 b2_3 b11_0 b11_1 b11_2 b11_3 b11_4 b11_5 b11_6 b11_7 b11_8 b11_9 b11_10 b11_11 b11_12 b11_13 b11_14 b11_15 b11_16 b11_17 b11_18 b11_19 b11_20 b11_21 b11_22 b11_23 b11_24 b11_25 b11_26 b11_27 b11_28 b11_29 b11_30 b11_31 b11_32 b11_33 b11_34 (fun p1 p5 p62 p63 p64 p77 p78 p79 b2_0 b2_1 b2_2 b2_3 b11_0 b11_1 b11_2 b11_3 b11_4 b11_5 b11_6 b11_7 b11_8 b11_9 b11_10 b11_11 b11_12 b11_13 b11_14 b11_15 b11_16 b11_17 b11_18 b11_19 b11_20 b11_21 b11_22 b11_23 b11_24 b11_25 b11_26 b11_27 b11_28 b11_29 b11_30 b11_31 b11_32 b11_33 b11_34 => lbbbbbbbabaabbaabbbba_ref09_encode F_ref01_AppendU32 F_ref01_AppendSize F_ref09_Point F_ref09_Out F_ref01_AppendBytes L k_x6 n p1 p5 p62 p63 p64 p77 p78 p79 b2_0 b2_1 b2_2 b2_3 b11_0 b11_1 b11_2 b11_3 b11_4 b11_5 b11_6 b11_7 b11_8 b11_9 b11_10 b11_11 b11_12 b11_13 b11_14 b11_15 b11_16 b11_17 b11_18 b11_19 b11_20 b11_21 b11_22 b11_23 b11_24 b11_25 b11_26 b11_27 b11_28 b11_29 b11_30 b11_31 b11_32 b11_33 b11_34) k_x6
theorem lbbbbbbbabaabbaabbbba_ref09_encode_ok {β : Type} (F_ref01_AppendU32 : T_ref01_AppendU32) (F_ref01_AppendSize : T_ref01_AppendSize) (F_ref09_Point : T_ref09_Point) (F_ref09_Out : T_ref09_Out) (F_ref01_AppendBytes : T_ref01_AppendBytes) (L : Nat) (K : KT β) : ∀ (n : Nat) (p1 : Bool) (p5 : List (List V)) (p62 : List (List V)) (p63 : Int) (p64 : Int) (p77 : List (List V)) (p78 : Int) (p79 : Int) (b2_0 : Int) (b2_1 : List (List V)) (b2_2 : List (List V)) (b2_3 : Int) (b11_0 : Int) (b11_1 : Int) (b11_2 : Int) (b11_3 : Int) (b11_4 : Int) (b11_5 : Int) (b11_6 : Int) (b11_7 : Int) (b11_8 : Int) (b11_9 : Int) (b11_10 : Int) (b11_11 : Int) (b11_12 : Int) (b11_13 : Int) (b11_14 : Int) (b11_15 : Int) (b11_16 : Int) (b11_17 : Int) (b11_18 : Int) (b11_19 : Int) (b11_20 : Int) (b11_21 : Int) (b11_22 : Int) (b11_23 : Int) (b11_24 : Int) (b11_25 : Int) (b11_26 : Int) (b11_27 : Int) (b11_28 : Int) (b11_29 : Int) (b11_30 : Int) (b11_31 : Int) (b11_32 : Int) (b11_33 : Int) (b11_34 : List (List V)), loopM (runC sh_ref09_encode (cb_ref09_encode F_ref01_AppendU32 F_ref01_AppendSize F_ref09_Point F_ref09_Out F_ref01_AppendBytes L) 0 L cbbbbbbbabaabbaabbbbaa_ref09_encode) mbbbbbbbabaabbaabbbba_ref09_encode n (st_hbbbbbbbabaabbaabbbba_ref09_encode p1 p5 p62 p63 p64 p77 p78 p79 b2_0 b2_1 b2_2 b2_3 b11_0 b11_1 b11_2 b11_3 b11_4 b11_5 b11_6 b11_7 b11_8 b11_9 b11_10 b11_11 b11_12 b11_13 b11_14 b11_15 b11_16 b11_17 b11_18 b11_19 b11_20 b11_21 b11_22 b11_23 b11_24 b11_25 b11_26 b11_27 b11_28 b11_29 b11_30 b11_31 b11_32 b11_33 b11_34) K = lbbbbbbbabaabbaabbbba_ref09_encode F_ref01_AppendU32 F_ref01_AppendSize F_ref09_Point F_ref09_Out F_ref01_AppendBytes L (fun p1 p5 p62 p63 p64 b2_0 b2_1 b2_2 b2_3 b11_0 b11_1 b11_2 b11_3 b11_4 b11_5 b11_6 b11_7 b11_8 b11_9 b11_10 b11_11 b11_12 b11_13 b11_14 b11_15 b11_16 b11_17 b11_18 b11_19 b11_20 b11_21 b11_22 b11_23 b11_24 b11_25 b11_26 b11_27 b11_28 b11_29 b11_30 b11_31 b11_32 b11_33 b11_34 => K (.exit 6) (st_x6_ref09_encode p1 p5 p62 p63 p64 b2_0 b2_1 b2_2 b2_3 b11_0 b11_1 b11_2 b11_3 b11_4 b11_5 b11_6 b11_7 b11_8 b11_9 b11_10 b11_11 b11_12 b11_13 b11_14 b11_15 b11_16 b11_17 b11_18 b11_19 b11_20 b11_21 b11_22 b11_23 b11_24 b11_25 b11_26 b11_27 b11_28 b11_29 b11_30 b11_31 b11_32 b11_33 b11_34)) n p1 p5 p62 p63 p64 p77 p78 p79 b2_0 b2_1 b2_2 b2_3 b11_0 b11_1 b11_2 b11_3 b11_4 b11_5 b11_6 b11_7 b11_8 b11_9 b11_10 b11_11 b11_12 b11_13 b11_14 b11_15 b11_16 b11_17 b11_18 b11_19 b11_20 b11_21 b11_22 b11_23 b11_24 b11_25 b11_26 b11_27 b11_28 b11_29 b11_30 b11_31 b11_32 b11_33 b11_34 := by
  intro n
  induction n with
  | zero => intros; rfl
  | succ n ih =>
    intro p1 p5 p62 p63 p64 p77 p78 p79 b2_0 b2_1 b2_2 b2_3 b11_0 b11_1 b11_2 b11_3 b11_4 b11_5 b11_6 b11_7 b11_8 b11_9 b11_10 b11_11 b11_12 b11_13 b11_14 b11_15 b11_16 b11_17 b11_18 b11_19 b11_20 b11_21 b11_22 b11_23 b11_24 b11_25 b11_26 b11_27 b11_28 b11_29 b11_30 b11_31 b11_32 b11_33 b11_34
    refine (bbbbbbbbabaabbaabbbba_ref09_encode_ok F_ref01_AppendU32 F_ref01_AppendSize F_ref09_Point F_ref09_Out F_ref01_AppendBytes L p1 p5 p62 p63 p64 p77 p78 p79 b2_0 b2_1 b2_2 b2_3 b11_0 b11_1 b11_2 b11_3 b11_4 b11_5 b11_6 b11_7 b11_8 b11_9 b11_10 b11_11 b11_12 b11_13 b11_14 b11_15 b11_16 b11_17 b11_18 b11_19 b11_20 b11_21 b11_22 b11_23 b11_24 b11_25 b11_26 b11_27 b11_28 b11_29 b11_30 b11_31 b11_32 b11_33 b11_34 (fun σ => loopM (runC sh_ref09_encode (cb_ref09_encode F_ref01_AppendU32 F_ref01_AppendSize F_ref09_Point F_ref09_Out F_ref01_AppendBytes L) 0 L cbbbbbbbabaabbaabbbbaa_ref09_encode) mbbbbbbbabaabbaabbbba_ref09_encode n σ K) K).trans ?_
    simp only [ih]
    rfl
def Cbbbbbbbbaba_ref09_encode {β : Type} (F_ref01_AppendU32 : T_ref01_AppendU32) (F_ref01_AppendSize : T_ref01_AppendSize) (F_ref09_Point : T_ref09_Point) (F_ref09_Out : T_ref09_Out) (F_ref01_AppendBytes : T_ref01_AppendBytes) (L : Nat) (p1 : Bool) (p5 : List (List V)) (p62 : List (List V)) (p63 : Int) (p64 : Int) (b2_0 : Int) (b2_1 : List (List V)) (b2_2 : List (List V)) (b2_3 : Int) (k_x4 : List (List V) → Int → List (List V) → List (List V) → Int → Option β) (k_hbbbbbbbaba : Bool → List (List V) → List (List V) → Int → Int → Int → List (List V) → List (List V) → Int → Option β) : Option β :=
 bbbbbbbbaba_ref09_encode F_ref01_AppendU32 F_ref01_AppendSize F_ref09_Point F_ref09_Out F_ref01_AppendBytes L p1 p5 p62 p63 p64 b2_0 b2_1 b2_2 b2_3 k_x4 (fun p1 p5 p62 p63 p64 p77 p78 p79 b2_0 b2_1 b2_2 b2_3 b11_0 b11_1 b11_2 b11_3 b11_4 b11_5 b11_6 b11_7 b11_8 b11_9 b11_10 b11_11 b11_12 b11_13 b11_14 b11_15 b11_16 b11_17 b11_18 b11_19 b11_20 b11_21 b11_22 b11_23 b11_24 b11_25 b11_26 b11_27 b11_28 b11_29 b11_30 b11_31 b11_32 b11_33 b11_34 => lbbbbbbbabaabbaabbbba_ref09_encode F_ref01_AppendU32 F_ref01_AppendSize F_ref09_Point F_ref09_Out F_ref01_AppendBytes L (fun p1 p5 p62 p63 p64 b2_0 b2_1 b2_2 b2_3 b11_0 b11_1 b11_2 b11_3 b11_4 b11_5 b11_6 b11_7 b11_8 b11_9 b11_10 b11_11 b11_12 b11_13 b11_14 b11_15 b11_16 b11_17 b11_18 b11_19 b11_20 b11_21 b11_22 b11_23 b11_24 b11_25 b11_26 b11_27 b11_28 b11_29 b11_30 b11_31 b11_32 b11_33 b11_34 => rbbbbbbbabaabbaabbbbax6_ref09_encode F_ref01_AppendU32 F_ref01_AppendSize F_ref09_Point F_ref09_Out F_ref01_AppendBytes L p1 p5 p62 p63 p64 b2_0 b2_1 b2_2 b2_3 b11_0 b11_1 b11_2 b11_3 b11_4 b11_5 b11_6 b11_7 b11_8 b11_9 b11_10 b11_11 b11_12 b11_13 b11_14 b11_15 b11_16 b11_17 b11_18 b11_19 b11_20 b11_21 b11_22 b11_23 b11_24 b11_25 b11_26 b11_27 b11_28 b11_29 b11_30 b11_31 b11_32 b11_33 b11_34 k_hbbbbbbbaba) L p1 p5 p62 p63 p64 p77 p78 p79 b2_0 b2_1 b2_2 b2_3 b11_0 b11_1 b11_2 b11_3 b11_4 b11_5 b11_6 b11_7 b11_8 b11_9 b11_10 b11_11 b11_12 b11_13 b11_14 b11_15 b11_16 b11_17 b11_18 b11_19 b11_20 b11_21 b11_22 b11_23 b11_24 b11_25 b11_26 b11_27 b11_28 b11_29 b11_30 b11_31 b11_32 b11_33 b11_34)
theorem Cbbbbbbbbaba_ref09_encode_ok {β : Type} (F_ref01_AppendU32 : T_ref01_AppendU32) (F_ref01_AppendSize : T_ref01_AppendSize) (F_ref09_Point : T_ref09_Point) (F_ref09_Out : T_ref09_Out) (F_ref01_AppendBytes : T_ref01_AppendBytes) (L : Nat) (p1 : Bool) (p5 : List (List V)) (p62 : List (List V)) (p63 : Int) (p64 : Int) (b2_0 : Int) (b2_1 : List (List V)) (b2_2 : List (List V)) (b2_3 : Int) (X : St → Option β) (K : KT β) : runC sh_ref09_encode (cb_ref09_encode F_ref01_AppendU32 F_ref01_AppendSize F_ref09_Point F_ref09_Out F_ref01_AppendBytes L) 0 L cbbbbbbbabaa_ref09_encode (st_hbbbbbbbaba_ref09_encode p1 p5 p62 p63 p64 b2_0 b2_1 b2_2 b2_3) (loopK mbbbbbbbaba_ref09_encode X K) = Cbbbbbbbbaba_ref09_encode F_ref01_AppendU32 F_ref01_AppendSize F_ref09_Point F_ref09_Out F_ref01_AppendBytes L p1 p5 p62 p63 p64 b2_0 b2_1 b2_2 b2_3 (fun p5 b2_0 b2_1 b2_2 b2_3 => K (.exit 4) (st_x4_ref09_encode p5 b2_0 b2_1 b2_2 b2_3)) (fun p1 p5 p62 p63 p64 b2_0 b2_1 b2_2 b2_3 => X (st_hbbbbbbbaba_ref09_encode p1 p5 p62 p63 p64 b2_0 b2_1 b2_2 b2_3)) := by
  refine (bbbbbbbbaba_ref09_encode_ok F_ref01_AppendU32 F_ref01_AppendSize F_ref09_Point F_ref09_Out F_ref01_AppendBytes L p1 p5 p62 p63 p64 b2_0 b2_1 b2_2 b2_3 X K).trans ?_
  unfold Cbbbbbbbbaba_ref09_encode
  simp only [lbbbbbbbabaabbaabbbba_ref09_encode_ok, rbbbbbbbabaabbaabbbbax6_ref09_encode_ok]
def lbbbbbbbaba_ref09_encode {β : Type} (F_ref01_AppendU32 : T_ref01_AppendU32) (F_ref01_AppendSize : T_ref01_AppendSize) (F_ref09_Point : T_ref09_Point) (F_ref09_Out : T_ref09_Out) (F_ref01_AppendBytes : T_ref01_AppendBytes) (L : Nat) (k_x4 : List (List V) → Int → List (List V) → List (List V) → Int → Option β) : Nat → Bool → List (List V) → List (List V) → Int → Int → Int → List (List V) → List (List V) → Int → Option β
  | 0, _, _, _, _, _, _, _, _, _ => none
  | n + 1, p1, p5, p62, p63, p64, b2_0, b2_1, b2_2, b2_3 => Cbbbbbbbbaba_ref09_encode F_ref01_AppendU32 F_ref01_AppendSize F_ref09_Point F_ref09_Out F_ref01_AppendBytes L p1 p5 p62 p63 p64 b2_0 b2_1 b2_2 b2_3 k_x4 (fun p1 p5 p62 p63 p64 b2_0 b2_1 b2_2 b2_3 => lbbbbbbbaba_ref09_encode F_ref01_AppendU32 F_ref01_AppendSize F_ref09_Point F_ref09_Out F_ref01_AppendBytes L k_x4 n p1 p5 p62 p63 p64 b2_0 b2_1 b2_2 b2_3)
theorem lbbbbbbbaba_ref09_encode_ok {β : Type} (F_ref01_AppendU32 : T_ref01_AppendU32) (F_ref01_AppendSize : T_ref01_AppendSize) (F_ref09_Point : T_ref09_Point) (F_ref09_Out : T_ref09_Out) (F_ref01_AppendBytes : T_ref01_AppendBytes) (L : Nat) (K : KT β) : ∀ (n : Nat) (p1 : Bool) (p5 : List (List V)) (p62 : List (List V)) (p63 : Int) (p64 : Int) (b2_0 : Int) (b2_1 : List (List V)) (b2_2 : List (List V)) (b2_3 : Int), loopM (runC sh_ref09_encode (cb_ref09_encode F_ref01_AppendU32 F_ref01_AppendSize F_ref09_Point F_ref09_Out F_ref01_AppendBytes L) 0 L cbbbbbbbabaa_ref09_encode) mbbbbbbbaba_ref09_encode n (st_hbbbbbbbaba_ref09_encode p1 p5 p62 p63 p64 b2_0 b2_1 b2_2 b2_3) K = lbbbbbbbaba_ref09_encode F_ref01_AppendU32 F_ref01_AppendSize F_ref09_Point F_ref09_Out F_ref01_AppendBytes L (fun p5 b2_0 b2_1 b2_2 b2_3 => K (.exit 4) (st_x4_ref09_encode p5 b2_0 b2_1 b2_2 b2_3)) n p1 p5 p62 p63 p64 b2_0 b2_1 b2_2 b2_3 := by
  intro n
  induction n with
  | zero => intros; rfl
  | succ n ih =>
    intro p1 p5 p62 p63 p64 b2_0 b2_1 b2_2 b2_3
    refine (Cbbbbbbbbaba_ref09_encode_ok F_ref01_AppendU32 F_ref01_AppendSize F_ref09_Point F_ref09_Out F_ref01_AppendBytes L p1 p5 p62 p63 p64 b2_0 b2_1 b2_2 b2_3 (fun σ => loopM (runC sh_ref09_encode (cb_ref09_encode F_ref01_AppendU32 F_ref01_AppendSize F_ref09_Point F_ref09_Out F_ref01_AppendBytes L) 0 L cbbbbbbbabaa_ref09_encode) mbbbbbbbaba_ref09_encode n σ K) K).trans ?_
    simp only [ih]
    rfl
def Crbbbbbabax2_ref09_encode {β : Type} (F_ref01_AppendU32 : T_ref01_AppendU32) (F_ref01_AppendSize : T_ref01_AppendSize) (F_ref09_Point : T_ref09_Point) (F_ref09_Out : T_ref09_Out) (F_ref01_AppendBytes : T_ref01_AppendBytes) (L : Nat) (p1 : Bool) (p5 : List (List V)) (b2_0 : Int) (b2_1 : List (List V)) (b2_2 : List (List V)) (b2_3 : Int) (k_fin : List (List V) → Option β) : Option β :=
 rbbbbbabax2_ref09_encode F_ref01_AppendU32 F_ref01_AppendSize F_ref09_Point F_ref09_Out F_ref01_AppendBytes L p1 p5 b2_0 b2_1 b2_2 b2_3 (fun p1 p5 p62 p63 p64 b2_0 b2_1 b2_2 b2_3 => lbbbbbbbaba_ref09_encode F_ref01_AppendU32 F_ref01_AppendSize F_ref09_Point F_ref09_Out F_ref01_AppendBytes L (fun p5 b2_0 b2_1 b2_2 b2_3 => rbbbbbbbabax4_ref09_encode F_ref01_AppendU32 F_ref01_AppendSize F_ref09_Point F_ref09_Out F_ref01_AppendBytes L p5 b2_0 b2_1 b2_2 b2_3 k_fin) L p1 p5 p62 p63 p64 b2_0 b2_1 b2_2 b2_3)
theorem Crbbbbbabax2_ref09_encode_ok {β : Type} (F_ref01_AppendU32 : T_ref01_AppendU32) (F_ref01_AppendSize : T_ref01_AppendSize) (F_ref09_Point : T_ref09_Point) (F_ref09_Out : T_ref09_Out) (F_ref01_AppendBytes : T_ref01_AppendBytes) (L : Nat) (p1 : Bool) (p5 : List (List V)) (b2_0 : Int) (b2_1 : List (List V)) (b2_2 : List (List V)) (b2_3 : Int) (k : V → Bor → Option β) : (blockK 2 (seqK (runC sh_ref09_encode (cb_ref09_encode F_ref01_AppendU32 F_ref01_AppendSize F_ref09_Point F_ref09_Out F_ref01_AppendBytes L) 0 L cbbbbbb_ref09_encode) (finK 0 (CF.res cf_ref09_encode) k))) (.exit 2) (st_x2_ref09_encode p1 p5 b2_0 b2_1 b2_2 b2_3) = Crbbbbbabax2_ref09_encode F_ref01_AppendU32 F_ref01_AppendSize F_ref09_Point F_ref09_Out F_ref01_AppendBytes L p1 p5 b2_0 b2_1 b2_2 b2_3 (fun p0 => k (V.gs 1 p0) []) := by
  refine (rbbbbbabax2_ref09_encode_ok F_ref01_AppendU32 F_ref01_AppendSize F_ref09_Point F_ref09_Out F_ref01_AppendBytes L p1 p5 b2_0 b2_1 b2_2 b2_3 k).trans ?_
  unfold Crbbbbbabax2_ref09_encode
  simp only [lbbbbbbbaba_ref09_encode_ok, rbbbbbbbabax4_ref09_encode_ok]
def Crbbbabax0_ref09_encode {β : Type} (F_ref01_AppendU32 : T_ref01_AppendU32) (F_ref01_AppendSize : T_ref01_AppendSize) (F_ref09_Point : T_ref09_Point) (F_ref09_Out : T_ref09_Out) (F_ref01_AppendBytes : T_ref01_AppendBytes) (L : Nat) (p1 : Bool) (p5 : List (List V)) (b2_0 : Int) (b2_1 : List (List V)) (b2_2 : List (List V)) (b2_3 : Int) (k_fin : List (List V) → Option β) : Option β :=
 rbbbabax0_ref09_encode F_ref01_AppendU32 F_ref01_AppendSize F_ref09_Point F_ref09_Out F_ref01_AppendBytes L p1 p5 b2_0 b2_1 b2_2 b2_3 (fun p1 p5 p46 p47 p48 b2_0 b2_1 b2_2 b2_3 => lbbbbbaba_ref09_encode F_ref01_AppendU32 F_ref01_AppendSize F_ref09_Point F_ref09_Out F_ref01_AppendBytes L (fun p1 p5 b2_0 b2_1 b2_2 b2_3 => Crbbbbbabax2_ref09_encode F_ref01_AppendU32 F_ref01_AppendSize F_ref09_Point F_ref09_Out F_ref01_AppendBytes L p1 p5 b2_0 b2_1 b2_2 b2_3 k_fin) L p1 p5 p46 p47 p48 b2_0 b2_1 b2_2 b2_3)
theorem Crbbbabax0_ref09_encode_ok {β : Type} (F_ref01_AppendU32 : T_ref01_AppendU32) (F_ref01_AppendSize : T_ref01_AppendSize) (F_ref09_Point : T_ref09_Point) (F_ref09_Out : T_ref09_Out) (F_ref01_AppendBytes : T_ref01_AppendBytes) (L : Nat) (p1 : Bool) (p5 : List (List V)) (b2_0 : Int) (b2_1 : List (List V)) (b2_2 : List (List V)) (b2_3 : Int) (k : V → Bor → Option β) : (blockK 0 (seqK (runC sh_ref09_encode (cb_ref09_encode F_ref01_AppendU32 F_ref01_AppendSize F_ref09_Point F_ref09_Out F_ref01_AppendBytes L) 0 L cbbbb_ref09_encode) (finK 0 (CF.res cf_ref09_encode) k))) (.exit 0) (st_x0_ref09_encode p1 p5 b2_0 b2_1 b2_2 b2_3) = Crbbbabax0_ref09_encode F_ref01_AppendU32 F_ref01_AppendSize F_ref09_Point F_ref09_Out F_ref01_AppendBytes L p1 p5 b2_0 b2_1 b2_2 b2_3 (fun p0 => k (V.gs 1 p0) []) := by
  refine (rbbbabax0_ref09_encode_ok F_ref01_AppendU32 F_ref01_AppendSize F_ref09_Point F_ref09_Out F_ref01_AppendBytes L p1 p5 b2_0 b2_1 b2_2 b2_3 k).trans ?_
  unfold Crbbbabax0_ref09_encode
  simp only [lbbbbbaba_ref09_encode_ok, Crbbbbbabax2_ref09_encode_ok]
def R_ref09_encode {β : Type} (F_ref01_AppendU32 : T_ref01_AppendU32) (F_ref01_AppendSize : T_ref01_AppendSize) (F_ref09_Point : T_ref09_Point) (F_ref09_Out : T_ref09_Out) (F_ref01_AppendBytes : T_ref01_AppendBytes) (L : Nat) (p0 : List V) (p1 : Bool) (k_fin : List (List V) → Option β) : Option β :=
 e_ref09_encode F_ref01_AppendU32 F_ref01_AppendSize F_ref09_Point F_ref09_Out F_ref01_AppendBytes L p0 p1 (fun p1 p5 p24 p25 p26 b2_0 b2_1 b2_2 b2_3 => lbbbaba_ref09_encode F_ref01_AppendU32 F_ref01_AppendSize F_ref09_Point F_ref09_Out F_ref01_AppendBytes L (fun p1 p5 b2_0 b2_1 b2_2 b2_3 => Crbbbabax0_ref09_encode F_ref01_AppendU32 F_ref01_AppendSize F_ref09_Point F_ref09_Out F_ref01_AppendBytes L p1 p5 b2_0 b2_1 b2_2 b2_3 k_fin) L p1 p5 p24 p25 p26 b2_0 b2_1 b2_2 b2_3)
theorem R_ref09_encode_ok {β : Type} (F_ref01_AppendU32 : T_ref01_AppendU32) (F_ref01_AppendSize : T_ref01_AppendSize) (F_ref09_Point : T_ref09_Point) (F_ref09_Out : T_ref09_Out) (F_ref01_AppendBytes : T_ref01_AppendBytes) (L : Nat) (p0 : List V) (p1 : Bool) (k : V → Bor → Option β) : funC sh_ref09_encode (cb_ref09_encode F_ref01_AppendU32 F_ref01_AppendSize F_ref09_Point F_ref09_Out F_ref01_AppendBytes L) L cf_ref09_encode [(V.agg p0), (V.sc (.bool p1))] [] k = R_ref09_encode F_ref01_AppendU32 F_ref01_AppendSize F_ref09_Point F_ref09_Out F_ref01_AppendBytes L p0 p1 (fun p0 => k (V.gs 1 p0) []) := by
  refine (e_ref09_encode_ok F_ref01_AppendU32 F_ref01_AppendSize F_ref09_Point F_ref09_Out F_ref01_AppendBytes L p0 p1 k).trans ?_
  unfold R_ref09_encode
  simp only [lbbbaba_ref09_encode_ok, Crbbbabax0_ref09_encode_ok]
abbrev T_ref09_encode := ∀ (β : Type), Nat → List V → Bool → (List (List V) → Option β) → Option β
def F_ref09_encode (β : Type) (L : Nat) (p0 : List V) (p1 : Bool) (k_fin : List (List V) → Option β) : Option β := R_ref09_encode F_ref01_AppendU32 F_ref01_AppendSize F_ref09_Point F_ref09_Out F_ref01_AppendBytes L p0 p1 k_fin
def d_ref09_encode (F_ref09_encode : T_ref09_encode) (L : Nat) (β : Type) (args : List V) (bor : Bor) (k : V → Bor → Option β) : Option β := match args, bor with
  | [a0, a1], [] => aG a0 fun p0 => aB a1 fun p1 => F_ref09_encode β L p0 p1 (fun p0 => k (V.gs 1 p0) [])
  | _, _ => none
theorem d_ref09_encode_ok (L : Nat) (β : Type) (args : List V) (bor : Bor) (k : V → Bor → Option β) (r : β) (h : d_ref09_encode F_ref09_encode L β args bor k = some r) : funC sh_ref09_encode (cb_ref09_encode F_ref01_AppendU32 F_ref01_AppendSize F_ref09_Point F_ref09_Out F_ref01_AppendBytes L) L cf_ref09_encode args bor k = some r := by
  unfold d_ref09_encode at h
  split at h
  · have q := aG_inv h; clear h; obtain ⟨p0, rfl, h⟩ := q
    have q := aB_inv h; clear h; obtain ⟨p1, rfl, h⟩ := q
    exact (R_ref09_encode_ok F_ref01_AppendU32 F_ref01_AppendSize F_ref09_Point F_ref09_Out F_ref01_AppendBytes L p0 p1 k).trans h
  · cases h

end Go.Proofs.Ytoeobffjdbdpgaa
