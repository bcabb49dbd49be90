/- The functions of this seat, as they compute on plain values. Printed by lift2.py. -/
import Derived.Test.YtoeobffjdbdpgaaFtx3
namespace Go.Proofs.Ytoeobffjdbdpgaa
set_option maxRecDepth 100000
set_option linter.unusedVariables false
/-! law09_TxPoints : 122 -/
def cf_law09_TxPoints : CF := ⟨56, [.tmp 6],
 (.seq (.reg [⟨(some 3), false, none, .box true (.tmp 0)⟩,
   ⟨(some 4), false, none, .box true (.tmp 1)⟩,
   ⟨(some 5), false, none, .box true (.tmp 2)⟩,
   ⟨(some 6), false, none, .move (.const (.sc (.bool false))) false⟩])
 (.seq (.seq (.reg [⟨(some 8), false, none, .call 126 []⟩,
   ⟨(some 9), false, none, .un .not (.tmp 8)⟩])
 (.cond (.tmp 9)
 (.seq (.reg [⟨(some 6), false, none, .move (.const (.sc (.bool false))) false⟩])
 .ret)
 .skip))
 (.seq (.reg [⟨(some 10), false, none, .load true 33 (.tmp 3) false⟩,
   ⟨(some 11), false, none, .load true 33 (.tmp 4) false⟩,
   ⟨(some 12), false, none, .call 135 [((.tmp 10), false), ((.tmp 11), false)]⟩,
   ⟨(some 7), false, none, .move (.tmp 12) false⟩])
 (.seq (.seq (.dreg [] [(⟨(some 13), false, none, .move (.tmp 7) false⟩, false),
   (⟨(some 14), false, none, .load true 33 (.tmp 3) false⟩, true),
   (⟨(some 15), false, none, .load true 33 (.tmp 4) false⟩, true),
   (⟨(some 16), false, none, .call 136 [((.tmp 14), false), ((.tmp 15), false)]⟩, false),
   (⟨(some 17), false, none, .bin .neq (.tmp 13) (.tmp 16)⟩, false),
   (⟨(some 18), false, none, .move (.tmp 17) false⟩, false),
   (⟨(some 19), false, (some (18, false)), .move (.tmp 7) false⟩, false),
   (⟨(some 20), false, (some (18, false)), .load true 33 (.tmp 4) false⟩, true),
   (⟨(some 21), false, (some (18, false)), .load true 33 (.tmp 3) false⟩, true),
   (⟨(some 22), false, (some (18, false)), .call 135 [((.tmp 20), false), ((.tmp 21), false)]⟩, false),
   (⟨(some 23), false, (some (18, false)), .un .neg (.tmp 22)⟩, false),
   (⟨(some 24), false, (some (18, false)), .bin .neq (.tmp 19) (.tmp 23)⟩, false),
   (⟨(some 25), false, none, .pick (.tmp 18) (.const (.sc (.bool true))) (.tmp 24)⟩, false),
   (⟨(some 26), false, none, .move (.tmp 25) false⟩, false),
   (⟨(some 27), false, (some (26, false)), .move (.tmp 7) false⟩, false),
   (⟨(some 28), false, (some (26, false)), .bin .eql (.tmp 27) (.const (.sc (.int .i64 0)))⟩, false),
   (⟨(some 29), false, (some (26, false)), .load true 33 (.tmp 3) false⟩, true),
   (⟨(some 30), false, (some (26, false)), .load true 33 (.tmp 4) false⟩, true),
   (⟨(some 31), false, (some (26, false)), .eqAgg false 33 (.tmp 29) (.tmp 30)⟩, false),
   (⟨(some 32), false, (some (26, false)), .eqB true (.tmp 28) (.tmp 31)⟩, false),
   (⟨(some 33), false, none, .pick (.tmp 26) (.const (.sc (.bool true))) (.tmp 32)⟩, false),
   (⟨(some 34), false, none, .move (.tmp 33) false⟩, false),
   (⟨(some 35), false, (some (34, false)), .load true 33 (.tmp 3) false⟩, true),
   (⟨(some 36), false, (some (34, false)), .call 137 [((.tmp 35), false)]⟩, true),
   (⟨(some 37), false, (some (34, false)), .load true 33 (.tmp 3) false⟩, true),
   (⟨(some 38), false, (some (34, false)), .call 138 [((.tmp 37), false)]⟩, false),
   (⟨(some 39), false, (some (34, false)), .call 130 [((.tmp 36), false), ((.tmp 38), false)]⟩, false),
   (⟨(some 40), false, (some (34, false)), .un .not (.tmp 39)⟩, false),
   (⟨(some 41), false, none, .pick (.tmp 34) (.const (.sc (.bool true))) (.tmp 40)⟩, false)])
 (.cond (.tmp 41)
 (.seq (.reg [⟨(some 6), false, none, .move (.const (.sc (.bool false))) false⟩])
 .ret)
 .skip))
 (.seq (.reg [⟨(some 42), false, none, .move (.tmp 7) false⟩,
   ⟨(some 43), false, none, .bin .gtr (.tmp 42) (.const (.sc (.int .i64 0)))⟩,
   ⟨(some 44), false, none, .move (.tmp 43) false⟩,
   ⟨(some 45), false, (some (44, false)), .load true 33 (.tmp 4) false⟩,
   ⟨(some 46), false, (some (44, false)), .load true 33 (.tmp 5) false⟩,
   ⟨(some 47), false, (some (44, false)), .call 135 [((.tmp 45), false), ((.tmp 46), false)]⟩,
   ⟨(some 48), false, (some (44, false)), .bin .gtr (.tmp 47) (.const (.sc (.int .i64 0)))⟩,
   ⟨(some 49), false, none, .pick (.tmp 44) (.const (.sc (.bool true))) (.tmp 48)⟩,
   ⟨(some 50), false, none, .move (.tmp 49) false⟩,
   ⟨(some 51), false, (some (50, false)), .load true 33 (.tmp 3) false⟩,
   ⟨(some 52), false, (some (50, false)), .load true 33 (.tmp 5) false⟩,
   ⟨(some 53), false, (some (50, false)), .call 135 [((.tmp 51), false), ((.tmp 52), false)]⟩,
   ⟨(some 54), false, (some (50, false)), .bin .leq (.tmp 53) (.const (.sc (.int .i64 0)))⟩,
   ⟨(some 55), false, none, .pick (.tmp 50) (.const (.sc (.bool true))) (.tmp 54)⟩,
   ⟨(some 6), false, none, .move (.tmp 55) false⟩])
 .ret)))))⟩
def hint_law09_TxPoints : Hint := ⟨[], [], [none, none, none, none, none], []⟩
def sh_law09_TxPoints : Nat → Sh := shOf []
def cb_law09_TxPoints (F_law09_sane : T_law09_sane) (F_tx_Compare : T_tx_Compare) (F_ref09_Compare : T_ref09_Compare) (F_tx_Point : T_tx_Point) (F_ref09_Point : T_ref09_Point) (F_ref01_Same : T_ref01_Same) (L : Nat) : CBC := (addC 130 (d_ref01_Same F_ref01_Same L) (addC 138 (d_ref09_Point F_ref09_Point L) (addC 137 (d_tx_Point F_tx_Point L) (addC 136 (d_ref09_Compare F_ref09_Compare L) (addC 135 (d_tx_Compare F_tx_Compare L) (addC 126 (d_law09_sane F_law09_sane L) noC))))))
def R_law09_TxPoints {β : Type} (F_law09_sane : T_law09_sane) (F_tx_Compare : T_tx_Compare) (F_ref09_Compare : T_ref09_Compare) (F_tx_Point : T_tx_Point) (F_ref09_Point : T_ref09_Point) (F_ref01_Same : T_ref01_Same) (L : Nat) (p0 : List V) (p1 : List V) (p2 : List V) (k_fin : Bool → Option β) : Option β :=
 F_law09_sane β L  (fun v0 =>
 ifb (!v0) (
 k_fin false) (
 chk (0 + 33 ≤ (List.length p0)) (
 chk (0 + 33 ≤ (List.length p1)) (
 F_tx_Compare β L (List.take 33 p0) (List.take 33 p1) (fun v1 =>
 chk (0 + 33 ≤ (List.length p0)) (
 chk (0 + 33 ≤ (List.length p1)) (
 F_ref09_Compare β L (List.take 33 p0) (List.take 33 p1) (fun v2 =>
 ifb ((v1 : Int) != v2) (
 k_fin false) (
 chk (0 + 33 ≤ (List.length p1)) (
 chk (0 + 33 ≤ (List.length p0)) (
 F_tx_Compare β L (List.take 33 p1) (List.take 33 p0) (fun v3 =>
 lt (IntKind.wrap .i64 (0 - v3)) fun x4 =>
 ifb ((v1 : Int) != x4) (
 k_fin false) (
 chk (0 + 33 ≤ (List.length p0)) (
 chk (0 + 33 ≤ (List.length p1)) (
 eqC 33 (List.take 33 p0) (List.take 33 p1) fun v5 =>
 ifb (!(((v1 : Int) == (0 : Int)) == v5)) (
 k_fin false) (
 chk (0 + 33 ≤ (List.length p0)) (
 F_tx_Point β L (List.take 33 p0) (fun v6 =>
 chk (0 + 33 ≤ (List.length p0)) (
 F_ref09_Point β L (List.take 33 p0) (fun v7 =>
 F_ref01_Same β L v6 v7 (fun v8 =>
 ifb (!v8) (
 k_fin false) (
 ifb (decide (v1 > (0 : Int))) (
 k_fin true) (
 chk (0 + 33 ≤ (List.length p1)) (
 chk (0 + 33 ≤ (List.length p2)) (
 F_tx_Compare β L (List.take 33 p1) (List.take 33 p2) (fun v9 =>
 ifb (decide (v9 > (0 : Int))) (
 k_fin true) (
 chk (0 + 33 ≤ (List.length p0)) (
 chk (0 + 33 ≤ (List.length p2)) (
 F_tx_Compare β L (List.take 33 p0) (List.take 33 p2) (fun v10 =>
 k_fin (decide (v10 ≤ (0 : Int)))))))))))))))))))))))))))))))))
theorem R_law09_TxPoints_ok {β : Type} (F_law09_sane : T_law09_sane) (F_tx_Compare : T_tx_Compare) (F_ref09_Compare : T_ref09_Compare) (F_tx_Point : T_tx_Point) (F_ref09_Point : T_ref09_Point) (F_ref01_Same : T_ref01_Same) (L : Nat) (p0 : List V) (p1 : List V) (p2 : List V) (k : V → Bor → Option β) : funC sh_law09_TxPoints (cb_law09_TxPoints F_law09_sane F_tx_Compare F_ref09_Compare F_tx_Point F_ref09_Point F_ref01_Same L) L cf_law09_TxPoints [(V.agg p0), (V.agg p1), (V.agg p2)] [] k = R_law09_TxPoints F_law09_sane F_tx_Compare F_ref09_Compare F_tx_Point F_ref09_Point F_ref01_Same L p0 p1 p2 (fun p0 => k (V.sc (.bool p0)) []) := by kernel_rfl
abbrev T_law09_TxPoints := ∀ (β : Type), Nat → List V → List V → List V → (Bool → Option β) → Option β
def F_law09_TxPoints (β : Type) (L : Nat) (p0 : List V) (p1 : List V) (p2 : List V) (k_fin : Bool → Option β) : Option β := R_law09_TxPoints F_law09_sane F_tx_Compare F_ref09_Compare F_tx_Point F_ref09_Point F_ref01_Same L p0 p1 p2 k_fin
def d_law09_TxPoints (F_law09_TxPoints : T_law09_TxPoints) (L : Nat) (β : Type) (args : List V) (bor : Bor) (k : V → Bor → Option β) : Option β := match args, bor with
  | [a0, a1, a2], [] => aG a0 fun p0 => aG a1 fun p1 => aG a2 fun p2 => F_law09_TxPoints β L p0 p1 p2 (fun p0 => k (V.sc (.bool p0)) [])
  | _, _ => none
theorem d_law09_TxPoints_ok (L : Nat) (β : Type) (args : List V) (bor : Bor) (k : V → Bor → Option β) (r : β) (h : d_law09_TxPoints F_law09_TxPoints L β args bor k = some r) : funC sh_law09_TxPoints (cb_law09_TxPoints F_law09_sane F_tx_Compare F_ref09_Compare F_tx_Point F_ref09_Point F_ref01_Same L) L cf_law09_TxPoints args bor k = some r := by
  unfold d_law09_TxPoints at h
  split at h
  · have q := aG_inv h; clear h; obtain ⟨p0, rfl, h⟩ := q
    have q := aG_inv h; clear h; obtain ⟨p1, rfl, h⟩ := q
    have q := aG_inv h; clear h; obtain ⟨p2, rfl, h⟩ := q
    exact (R_law09_TxPoints_ok F_law09_sane F_tx_Compare F_ref09_Compare F_tx_Point F_ref09_Point F_ref01_Same L p0 p1 p2 k).trans h
  · cases h
def fg : List (Nat × Nat) := [(3, 119), (4, 120), (5, 121), (6, 122), (7, 123), (8, 124), (9, 125), (10, 126), (11, 127), (12, 128), (13, 129), (14, 130), (15, 131), (16, 132), (17, 133), (18, 134), (19, 135), (20, 136), (21, 137), (22, 138), (23, 139), (24, 140), (25, 141), (26, 142), (27, 143), (28, 144), (29, 145), (30, 146), (31, 147), (32, 148), (33, 149), (34, 150), (35, 151), (36, 152), (37, 153), (38, 154), (39, 155), (40, 156), (41, 157), (42, 158), (43, 159), (44, 160), (45, 161), (46, 162), (47, 163), (48, 164), (49, 165), (50, 166), (51, 167), (52, 168), (53, 169), (54, 170), (55, 171), (56, 172), (57, 173), (58, 174), (59, 175), (60, 176), (61, 177), (62, 178), (63, 179), (64, 180), (65, 181), (66, 182), (67, 183), (68, 184), (69, 185), (70, 186), (71, 187), (72, 188), (73, 189), (74, 190), (75, 191), (76, 192), (77, 193), (78, 194), (79, 195), (80, 196), (81, 197), (82, 198), (83, 199), (84, 200), (85, 201), (86, 202), (87, 203), (88, 204), (89, 205), (90, 206), (91, 207), (92, 208), (93, 209), (94, 210)]
def rows : List Row := [⟨76, 192, hint_codec_lowest, cf_codec_lowest⟩, ⟨75, 191, hint_codec_extend, cf_codec_extend⟩, ⟨41, 157, hint_codec_AppendU32, cf_codec_AppendU32⟩, ⟨89, 205, hint_codec_AppendU16, cf_codec_AppendU16⟩, ⟨67, 183, hint_codec_AppendU64, cf_codec_AppendU64⟩, ⟨66, 182, hint_codec_AppendSize, cf_codec_AppendSize⟩, ⟨42, 158, hint_codec_AppendHash, cf_codec_AppendHash⟩, ⟨21, 137, hint_tx_Point, cf_tx_Point⟩, ⟨68, 184, hint_codec_AppendBytes, cf_codec_AppendBytes⟩, ⟨31, 147, hint_tx_encode, cf_tx_encode⟩, ⟨30, 146, hint_tx_fits, cf_tx_fits⟩, ⟨12, 128, hint_tx_Encode, cf_tx_Encode⟩, ⟨28, 144, hint_tx_Weight, cf_tx_Weight⟩, ⟨34, 150, hint_tx_money, cf_tx_money⟩, ⟨72, 188, hint_tx_null, cf_tx_null⟩, ⟨35, 151, hint_tx_Coinbase, cf_tx_Coinbase⟩, ⟨15, 131, hint_tx_Check, cf_tx_Check⟩, ⟨10, 126, hint_law09_sane, cf_law09_sane⟩, ⟨29, 145, hint_keep_Items, cf_keep_Items⟩, ⟨11, 127, hint_keep_Tx, cf_keep_Tx⟩, ⟨17, 133, hint_tx_Final, cf_tx_Final⟩, ⟨5, 121, hint_law09_TxLater, cf_law09_TxLater⟩, ⟨78, 194, hint_ref01_little, cf_ref01_little⟩, ⟨77, 193, hint_ref01_joined, cf_ref01_joined⟩, ⟨43, 159, hint_ref01_AppendU32, cf_ref01_AppendU32⟩, ⟨69, 185, hint_ref01_AppendSize, cf_ref01_AppendSize⟩, ⟨44, 160, hint_ref01_AppendHash, cf_ref01_AppendHash⟩, ⟨22, 138, hint_ref09_Point, cf_ref09_Point⟩, ⟨90, 206, hint_ref01_AppendU64, cf_ref01_AppendU64⟩, ⟨71, 187, hint_ref01_AppendBytes, cf_ref01_AppendBytes⟩, ⟨70, 186, hint_ref09_Out, cf_ref09_Out⟩, ⟨33, 149, hint_ref09_encode, cf_ref09_encode⟩, ⟨32, 148, hint_ref09_Fits, cf_ref09_Fits⟩, ⟨13, 129, hint_ref09_Encode, cf_ref09_Encode⟩, ⟨14, 130, hint_ref01_Same, cf_ref01_Same⟩, ⟨3, 119, hint_law09_TxEncodes, cf_law09_TxEncodes⟩, ⟨36, 152, hint_ref09_Null, cf_ref09_Null⟩, ⟨37, 153, hint_ref09_Coinbase, cf_ref09_Coinbase⟩, ⟨16, 132, hint_ref09_Check, cf_ref09_Check⟩, ⟨18, 134, hint_ref09_Final, cf_ref09_Final⟩, ⟨4, 120, hint_law09_TxChecks, cf_law09_TxChecks⟩, ⟨39, 155, hint_bytes_Compare, cf_bytes_Compare⟩, ⟨74, 190, hint_cmp_isNaN_uint32, cf_cmp_isNaN_uint32⟩, ⟨40, 156, hint_cmp_Compare_uint32, cf_cmp_Compare_uint32⟩, ⟨38, 154, hint_cmp_Or_int, cf_cmp_Or_int⟩, ⟨19, 135, hint_tx_Compare, cf_tx_Compare⟩, ⟨20, 136, hint_ref09_Compare, cf_ref09_Compare⟩, ⟨6, 122, hint_law09_TxPoints, cf_law09_TxPoints⟩]
theorem kc_codec_lowest : cFun Try.prog (renOf fg) hint_codec_lowest 76 = some cf_codec_lowest := by kernel_rfl
theorem kc_codec_extend : cFun Try.prog (renOf fg) hint_codec_extend 75 = some cf_codec_extend := by kernel_rfl
theorem kc_codec_AppendU32 : cFun Try.prog (renOf fg) hint_codec_AppendU32 41 = some cf_codec_AppendU32 := by kernel_rfl
theorem kc_codec_AppendU16 : cFun Try.prog (renOf fg) hint_codec_AppendU16 89 = some cf_codec_AppendU16 := by kernel_rfl
theorem kc_codec_AppendU64 : cFun Try.prog (renOf fg) hint_codec_AppendU64 67 = some cf_codec_AppendU64 := by kernel_rfl
theorem kc_codec_AppendSize : cFun Try.prog (renOf fg) hint_codec_AppendSize 66 = some cf_codec_AppendSize := by kernel_rfl
theorem kc_codec_AppendHash : cFun Try.prog (renOf fg) hint_codec_AppendHash 42 = some cf_codec_AppendHash := by kernel_rfl
theorem kc_tx_Point : cFun Try.prog (renOf fg) hint_tx_Point 21 = some cf_tx_Point := by kernel_rfl
theorem kc_codec_AppendBytes : cFun Try.prog (renOf fg) hint_codec_AppendBytes 68 = some cf_codec_AppendBytes := by kernel_rfl
theorem kc_tx_encode : cFun Try.prog (renOf fg) hint_tx_encode 31 = some cf_tx_encode := by kernel_rfl
theorem kc_tx_fits : cFun Try.prog (renOf fg) hint_tx_fits 30 = some cf_tx_fits := by kernel_rfl
theorem kc_tx_Encode : cFun Try.prog (renOf fg) hint_tx_Encode 12 = some cf_tx_Encode := by kernel_rfl
theorem kc_tx_Weight : cFun Try.prog (renOf fg) hint_tx_Weight 28 = some cf_tx_Weight := by kernel_rfl
theorem kc_tx_money : cFun Try.prog (renOf fg) hint_tx_money 34 = some cf_tx_money := by kernel_rfl
theorem kc_tx_null : cFun Try.prog (renOf fg) hint_tx_null 72 = some cf_tx_null := by kernel_rfl
theorem kc_tx_Coinbase : cFun Try.prog (renOf fg) hint_tx_Coinbase 35 = some cf_tx_Coinbase := by kernel_rfl
theorem kc_tx_Check : cFun Try.prog (renOf fg) hint_tx_Check 15 = some cf_tx_Check := by kernel_rfl
theorem kc_law09_sane : cFun Try.prog (renOf fg) hint_law09_sane 10 = some cf_law09_sane := by kernel_rfl
theorem kc_keep_Items : cFun Try.prog (renOf fg) hint_keep_Items 29 = some cf_keep_Items := by kernel_rfl
theorem kc_keep_Tx : cFun Try.prog (renOf fg) hint_keep_Tx 11 = some cf_keep_Tx := by kernel_rfl
theorem kc_tx_Final : cFun Try.prog (renOf fg) hint_tx_Final 17 = some cf_tx_Final := by kernel_rfl
theorem kc_law09_TxLater : cFun Try.prog (renOf fg) hint_law09_TxLater 5 = some cf_law09_TxLater := by kernel_rfl
theorem kc_ref01_little : cFun Try.prog (renOf fg) hint_ref01_little 78 = some cf_ref01_little := by kernel_rfl
theorem kc_ref01_joined : cFun Try.prog (renOf fg) hint_ref01_joined 77 = some cf_ref01_joined := by kernel_rfl
theorem kc_ref01_AppendU32 : cFun Try.prog (renOf fg) hint_ref01_AppendU32 43 = some cf_ref01_AppendU32 := by kernel_rfl
theorem kc_ref01_AppendSize : cFun Try.prog (renOf fg) hint_ref01_AppendSize 69 = some cf_ref01_AppendSize := by kernel_rfl
theorem kc_ref01_AppendHash : cFun Try.prog (renOf fg) hint_ref01_AppendHash 44 = some cf_ref01_AppendHash := by kernel_rfl
theorem kc_ref09_Point : cFun Try.prog (renOf fg) hint_ref09_Point 22 = some cf_ref09_Point := by kernel_rfl
theorem kc_ref01_AppendU64 : cFun Try.prog (renOf fg) hint_ref01_AppendU64 90 = some cf_ref01_AppendU64 := by kernel_rfl
theorem kc_ref01_AppendBytes : cFun Try.prog (renOf fg) hint_ref01_AppendBytes 71 = some cf_ref01_AppendBytes := by kernel_rfl
theorem kc_ref09_Out : cFun Try.prog (renOf fg) hint_ref09_Out 70 = some cf_ref09_Out := by kernel_rfl
theorem kc_ref09_encode : cFun Try.prog (renOf fg) hint_ref09_encode 33 = some cf_ref09_encode := by kernel_rfl
theorem kc_ref09_Fits : cFun Try.prog (renOf fg) hint_ref09_Fits 32 = some cf_ref09_Fits := by kernel_rfl
theorem kc_ref09_Encode : cFun Try.prog (renOf fg) hint_ref09_Encode 13 = some cf_ref09_Encode := by kernel_rfl
theorem kc_ref01_Same : cFun Try.prog (renOf fg) hint_ref01_Same 14 = some cf_ref01_Same := by kernel_rfl
theorem kc_law09_TxEncodes : cFun Try.prog (renOf fg) hint_law09_TxEncodes 3 = some cf_law09_TxEncodes := by kernel_rfl
theorem kc_ref09_Null : cFun Try.prog (renOf fg) hint_ref09_Null 36 = some cf_ref09_Null := by kernel_rfl
theorem kc_ref09_Coinbase : cFun Try.prog (renOf fg) hint_ref09_Coinbase 37 = some cf_ref09_Coinbase := by kernel_rfl
theorem kc_ref09_Check : cFun Try.prog (renOf fg) hint_ref09_Check 16 = some cf_ref09_Check := by kernel_rfl
theorem kc_ref09_Final : cFun Try.prog (renOf fg) hint_ref09_Final 18 = some cf_ref09_Final := by kernel_rfl
theorem kc_law09_TxChecks : cFun Try.prog (renOf fg) hint_law09_TxChecks 4 = some cf_law09_TxChecks := by kernel_rfl
theorem kc_bytes_Compare : cFun Try.prog (renOf fg) hint_bytes_Compare 39 = some cf_bytes_Compare := by kernel_rfl
theorem kc_cmp_isNaN_uint32 : cFun Try.prog (renOf fg) hint_cmp_isNaN_uint32 74 = some cf_cmp_isNaN_uint32 := by kernel_rfl
theorem kc_cmp_Compare_uint32 : cFun Try.prog (renOf fg) hint_cmp_Compare_uint32 40 = some cf_cmp_Compare_uint32 := by kernel_rfl
theorem kc_cmp_Or_int : cFun Try.prog (renOf fg) hint_cmp_Or_int 38 = some cf_cmp_Or_int := by kernel_rfl
theorem kc_tx_Compare : cFun Try.prog (renOf fg) hint_tx_Compare 19 = some cf_tx_Compare := by kernel_rfl
theorem kc_ref09_Compare : cFun Try.prog (renOf fg) hint_ref09_Compare 20 = some cf_ref09_Compare := by kernel_rfl
theorem kc_law09_TxPoints : cFun Try.prog (renOf fg) hint_law09_TxPoints 6 = some cf_law09_TxPoints := by kernel_rfl
theorem rows_ok : ∀ r ∈ rows, (r.f, r.g) ∈ fg ∧ callable Try.prog r.f = true ∧ cFun Try.prog (renOf fg) r.h r.f = some r.c := by
  intro r hr
  simp only [rows, List.mem_cons, List.not_mem_nil, or_false] at hr
  rcases hr with rfl | rfl | rfl | rfl | rfl | rfl | rfl | rfl | rfl | rfl | rfl | rfl | rfl | rfl | rfl | rfl | rfl | rfl | rfl | rfl | rfl | rfl | rfl | rfl | rfl | rfl | rfl | rfl | rfl | rfl | rfl | rfl | rfl | rfl | rfl | rfl | rfl | rfl | rfl | rfl | rfl | rfl | rfl | rfl | rfl | rfl | rfl | rfl
  · exact ⟨of_decide_eq_true (by kernel_rfl), by kernel_rfl, kc_codec_lowest⟩
  · exact ⟨of_decide_eq_true (by kernel_rfl), by kernel_rfl, kc_codec_extend⟩
  · exact ⟨of_decide_eq_true (by kernel_rfl), by kernel_rfl, kc_codec_AppendU32⟩
  · exact ⟨of_decide_eq_true (by kernel_rfl), by kernel_rfl, kc_codec_AppendU16⟩
  · exact ⟨of_decide_eq_true (by kernel_rfl), by kernel_rfl, kc_codec_AppendU64⟩
  · exact ⟨of_decide_eq_true (by kernel_rfl), by kernel_rfl, kc_codec_AppendSize⟩
  · exact ⟨of_decide_eq_true (by kernel_rfl), by kernel_rfl, kc_codec_AppendHash⟩
  · exact ⟨of_decide_eq_true (by kernel_rfl), by kernel_rfl, kc_tx_Point⟩
  · exact ⟨of_decide_eq_true (by kernel_rfl), by kernel_rfl, kc_codec_AppendBytes⟩
  · exact ⟨of_decide_eq_true (by kernel_rfl), by kernel_rfl, kc_tx_encode⟩
  · exact ⟨of_decide_eq_true (by kernel_rfl), by kernel_rfl, kc_tx_fits⟩
  · exact ⟨of_decide_eq_true (by kernel_rfl), by kernel_rfl, kc_tx_Encode⟩
  · exact ⟨of_decide_eq_true (by kernel_rfl), by kernel_rfl, kc_tx_Weight⟩
  · exact ⟨of_decide_eq_true (by kernel_rfl), by kernel_rfl, kc_tx_money⟩
  · exact ⟨of_decide_eq_true (by kernel_rfl), by kernel_rfl, kc_tx_null⟩
  · exact ⟨of_decide_eq_true (by kernel_rfl), by kernel_rfl, kc_tx_Coinbase⟩
  · exact ⟨of_decide_eq_true (by kernel_rfl), by kernel_rfl, kc_tx_Check⟩
  · exact ⟨of_decide_eq_true (by kernel_rfl), by kernel_rfl, kc_law09_sane⟩
  · exact ⟨of_decide_eq_true (by kernel_rfl), by kernel_rfl, kc_keep_Items⟩
  · exact ⟨of_decide_eq_true (by kernel_rfl), by kernel_rfl, kc_keep_Tx⟩
  · exact ⟨of_decide_eq_true (by kernel_rfl), by kernel_rfl, kc_tx_Final⟩
  · exact ⟨of_decide_eq_true (by kernel_rfl), by kernel_rfl, kc_law09_TxLater⟩
  · exact ⟨of_decide_eq_true (by kernel_rfl), by kernel_rfl, kc_ref01_little⟩
  · exact ⟨of_decide_eq_true (by kernel_rfl), by kernel_rfl, kc_ref01_joined⟩
  · exact ⟨of_decide_eq_true (by kernel_rfl), by kernel_rfl, kc_ref01_AppendU32⟩
  · exact ⟨of_decide_eq_true (by kernel_rfl), by kernel_rfl, kc_ref01_AppendSize⟩
  · exact ⟨of_decide_eq_true (by kernel_rfl), by kernel_rfl, kc_ref01_AppendHash⟩
  · exact ⟨of_decide_eq_true (by kernel_rfl), by kernel_rfl, kc_ref09_Point⟩
  · exact ⟨of_decide_eq_true (by kernel_rfl), by kernel_rfl, kc_ref01_AppendU64⟩
  · exact ⟨of_decide_eq_true (by kernel_rfl), by kernel_rfl, kc_ref01_AppendBytes⟩
  · exact ⟨of_decide_eq_true (by kernel_rfl), by kernel_rfl, kc_ref09_Out⟩
  · exact ⟨of_decide_eq_true (by kernel_rfl), by kernel_rfl, kc_ref09_encode⟩
  · exact ⟨of_decide_eq_true (by kernel_rfl), by kernel_rfl, kc_ref09_Fits⟩
  · exact ⟨of_decide_eq_true (by kernel_rfl), by kernel_rfl, kc_ref09_Encode⟩
  · exact ⟨of_decide_eq_true (by kernel_rfl), by kernel_rfl, kc_ref01_Same⟩
  · exact ⟨of_decide_eq_true (by kernel_rfl), by kernel_rfl, kc_law09_TxEncodes⟩
  · exact ⟨of_decide_eq_true (by kernel_rfl), by kernel_rfl, kc_ref09_Null⟩
  · exact ⟨of_decide_eq_true (by kernel_rfl), by kernel_rfl, kc_ref09_Coinbase⟩
  · exact ⟨of_decide_eq_true (by kernel_rfl), by kernel_rfl, kc_ref09_Check⟩
  · exact ⟨of_decide_eq_true (by kernel_rfl), by kernel_rfl, kc_ref09_Final⟩
  · exact ⟨of_decide_eq_true (by kernel_rfl), by kernel_rfl, kc_law09_TxChecks⟩
  · exact ⟨of_decide_eq_true (by kernel_rfl), by kernel_rfl, kc_bytes_Compare⟩
  · exact ⟨of_decide_eq_true (by kernel_rfl), by kernel_rfl, kc_cmp_isNaN_uint32⟩
  · exact ⟨of_decide_eq_true (by kernel_rfl), by kernel_rfl, kc_cmp_Compare_uint32⟩
  · exact ⟨of_decide_eq_true (by kernel_rfl), by kernel_rfl, kc_cmp_Or_int⟩
  · exact ⟨of_decide_eq_true (by kernel_rfl), by kernel_rfl, kc_tx_Compare⟩
  · exact ⟨of_decide_eq_true (by kernel_rfl), by kernel_rfl, kc_ref09_Compare⟩
  · exact ⟨of_decide_eq_true (by kernel_rfl), by kernel_rfl, kc_law09_TxPoints⟩
theorem mixed : Try.prog.follows .mixedOrders = true := by kernel_rfl
theorem fg_ok : fgOk fg = true := by kernel_rfl
theorem ev_ok (L d : Nat) : CBok Try.prog (renOf fg) (evF (tabOf rows) noPr L d) := seat_ok mixed fg_ok rows_ok L d
theorem fok_codec_lowest (L : Nat) : FOk (tabOf rows) L 192 (d_codec_lowest F_codec_lowest L) 1 := fok_of (D := 0) (by kernel_rfl) fun m hm => ⟨sh_codec_lowest, cb_codec_lowest L, cbc_no, d_codec_lowest_ok L⟩
theorem fok_codec_extend (L : Nat) : FOk (tabOf rows) L 191 (d_codec_extend F_codec_extend L) 1 := fok_of (D := 0) (by kernel_rfl) fun m hm => ⟨sh_codec_extend, cb_codec_extend L, cbc_no, d_codec_extend_ok L⟩
theorem fok_codec_AppendU32 (L : Nat) : FOk (tabOf rows) L 157 (d_codec_AppendU32 F_codec_AppendU32 L) 2 := fok_of (D := 1) (by kernel_rfl) fun m hm => ⟨sh_codec_AppendU32, cb_codec_AppendU32 F_codec_lowest F_codec_extend L, (cbc_add (cbc_add cbc_no (fok_codec_lowest L m (by omega))) (fok_codec_extend L m (by omega))), d_codec_AppendU32_ok L⟩
theorem fok_codec_AppendU16 (L : Nat) : FOk (tabOf rows) L 205 (d_codec_AppendU16 F_codec_AppendU16 L) 2 := fok_of (D := 1) (by kernel_rfl) fun m hm => ⟨sh_codec_AppendU16, cb_codec_AppendU16 F_codec_lowest F_codec_extend L, (cbc_add (cbc_add cbc_no (fok_codec_lowest L m (by omega))) (fok_codec_extend L m (by omega))), d_codec_AppendU16_ok L⟩
theorem fok_codec_AppendU64 (L : Nat) : FOk (tabOf rows) L 183 (d_codec_AppendU64 F_codec_AppendU64 L) 2 := fok_of (D := 1) (by kernel_rfl) fun m hm => ⟨sh_codec_AppendU64, cb_codec_AppendU64 F_codec_lowest F_codec_extend L, (cbc_add (cbc_add cbc_no (fok_codec_lowest L m (by omega))) (fok_codec_extend L m (by omega))), d_codec_AppendU64_ok L⟩
theorem fok_codec_AppendSize (L : Nat) : FOk (tabOf rows) L 182 (d_codec_AppendSize F_codec_AppendSize L) 3 := fok_of (D := 2) (by kernel_rfl) fun m hm => ⟨sh_codec_AppendSize, cb_codec_AppendSize F_codec_extend F_codec_AppendU16 F_codec_AppendU32 F_codec_AppendU64 L, (cbc_add (cbc_add (cbc_add (cbc_add cbc_no (fok_codec_extend L m (by omega))) (fok_codec_AppendU16 L m (by omega))) (fok_codec_AppendU32 L m (by omega))) (fok_codec_AppendU64 L m (by omega))), d_codec_AppendSize_ok L⟩
theorem fok_codec_AppendHash (L : Nat) : FOk (tabOf rows) L 158 (d_codec_AppendHash F_codec_AppendHash L) 2 := fok_of (D := 1) (by kernel_rfl) fun m hm => ⟨sh_codec_AppendHash, cb_codec_AppendHash F_codec_extend L, (cbc_add cbc_no (fok_codec_extend L m (by omega))), d_codec_AppendHash_ok L⟩
theorem fok_tx_Point (L : Nat) : FOk (tabOf rows) L 137 (d_tx_Point F_tx_Point L) 3 := fok_of (D := 2) (by kernel_rfl) fun m hm => ⟨sh_tx_Point, cb_tx_Point F_codec_AppendHash F_codec_AppendU32 L, (cbc_add (cbc_add cbc_no (fok_codec_AppendHash L m (by omega))) (fok_codec_AppendU32 L m (by omega))), d_tx_Point_ok L⟩
theorem fok_codec_AppendBytes (L : Nat) : FOk (tabOf rows) L 184 (d_codec_AppendBytes F_codec_AppendBytes L) 4 := fok_of (D := 3) (by kernel_rfl) fun m hm => ⟨sh_codec_AppendBytes, cb_codec_AppendBytes F_codec_AppendSize F_codec_extend L, (cbc_add (cbc_add cbc_no (fok_codec_AppendSize L m (by omega))) (fok_codec_extend L m (by omega))), d_codec_AppendBytes_ok L⟩
theorem fok_tx_encode (L : Nat) : FOk (tabOf rows) L 147 (d_tx_encode F_tx_encode L) 5 := fok_of (D := 4) (by kernel_rfl) fun m hm => ⟨sh_tx_encode, cb_tx_encode F_codec_AppendU32 F_codec_AppendSize F_tx_Point F_codec_AppendU64 F_codec_AppendBytes L, (cbc_add (cbc_add (cbc_add (cbc_add (cbc_add cbc_no (fok_codec_AppendU32 L m (by omega))) (fok_codec_AppendSize L m (by omega))) (fok_tx_Point L m (by omega))) (fok_codec_AppendU64 L m (by omega))) (fok_codec_AppendBytes L m (by omega))), d_tx_encode_ok L⟩
theorem fok_tx_fits (L : Nat) : FOk (tabOf rows) L 146 (d_tx_fits F_tx_fits L) 6 := fok_of (D := 5) (by kernel_rfl) fun m hm => ⟨sh_tx_fits, cb_tx_fits F_tx_encode L, (cbc_add cbc_no (fok_tx_encode L m (by omega))), d_tx_fits_ok L⟩
theorem fok_tx_Encode (L : Nat) : FOk (tabOf rows) L 128 (d_tx_Encode F_tx_Encode L) 7 := fok_of (D := 6) (by kernel_rfl) fun m hm => ⟨sh_tx_Encode, cb_tx_Encode F_tx_fits F_tx_encode L, (cbc_add (cbc_add cbc_no (fok_tx_fits L m (by omega))) (fok_tx_encode L m (by omega))), d_tx_Encode_ok L⟩
theorem fok_tx_Weight (L : Nat) : FOk (tabOf rows) L 144 (d_tx_Weight F_tx_Weight L) 7 := fok_of (D := 6) (by kernel_rfl) fun m hm => ⟨sh_tx_Weight, cb_tx_Weight F_tx_fits F_tx_encode L, (cbc_add (cbc_add cbc_no (fok_tx_fits L m (by omega))) (fok_tx_encode L m (by omega))), d_tx_Weight_ok L⟩
theorem fok_tx_money (L : Nat) : FOk (tabOf rows) L 150 (d_tx_money F_tx_money L) 1 := fok_of (D := 0) (by kernel_rfl) fun m hm => ⟨sh_tx_money, cb_tx_money L, cbc_no, d_tx_money_ok L⟩
theorem fok_tx_null (L : Nat) : FOk (tabOf rows) L 188 (d_tx_null F_tx_null L) 1 := fok_of (D := 0) (by kernel_rfl) fun m hm => ⟨sh_tx_null, cb_tx_null L, cbc_no, d_tx_null_ok L⟩
theorem fok_tx_Coinbase (L : Nat) : FOk (tabOf rows) L 151 (d_tx_Coinbase F_tx_Coinbase L) 2 := fok_of (D := 1) (by kernel_rfl) fun m hm => ⟨sh_tx_Coinbase, cb_tx_Coinbase F_tx_null L, (cbc_add cbc_no (fok_tx_null L m (by omega))), d_tx_Coinbase_ok L⟩
theorem fok_tx_Check (L : Nat) : FOk (tabOf rows) L 131 (d_tx_Check F_tx_Check L) 7 := fok_of (D := 6) (by kernel_rfl) fun m hm => ⟨sh_tx_Check, cb_tx_Check F_tx_fits F_tx_money F_tx_Coinbase L, (cbc_add (cbc_add (cbc_add cbc_no (fok_tx_fits L m (by omega))) (fok_tx_money L m (by omega))) (fok_tx_Coinbase L m (by omega))), d_tx_Check_ok L⟩
theorem fok_law09_sane (L : Nat) : FOk (tabOf rows) L 126 (d_law09_sane F_law09_sane L) 8 := fok_of (D := 7) (by kernel_rfl) fun m hm => ⟨sh_law09_sane, cb_law09_sane F_tx_Encode F_tx_Weight F_tx_Check L, (cbc_add (cbc_add (cbc_add cbc_no (fok_tx_Encode L m (by omega))) (fok_tx_Weight L m (by omega))) (fok_tx_Check L m (by omega))), d_law09_sane_ok L⟩
theorem fok_keep_Items (L : Nat) : FOk (tabOf rows) L 145 (d_keep_Items F_keep_Items L) 1 := fok_of (D := 0) (by kernel_rfl) fun m hm => ⟨sh_keep_Items, cb_keep_Items L, cbc_no, d_keep_Items_ok L⟩
theorem fok_keep_Tx (L : Nat) : FOk (tabOf rows) L 127 (d_keep_Tx F_keep_Tx L) 2 := fok_of (D := 1) (by kernel_rfl) fun m hm => ⟨sh_keep_Tx, cb_keep_Tx F_keep_Items L, (cbc_add cbc_no (fok_keep_Items L m (by omega))), d_keep_Tx_ok L⟩
theorem fok_tx_Final (L : Nat) : FOk (tabOf rows) L 133 (d_tx_Final F_tx_Final L) 1 := fok_of (D := 0) (by kernel_rfl) fun m hm => ⟨sh_tx_Final, cb_tx_Final L, cbc_no, d_tx_Final_ok L⟩
theorem fok_law09_TxLater (L : Nat) : FOk (tabOf rows) L 121 (d_law09_TxLater F_law09_TxLater L) 9 := fok_of (D := 8) (by kernel_rfl) fun m hm => ⟨sh_law09_TxLater, cb_law09_TxLater F_law09_sane F_keep_Tx F_tx_Final L, (cbc_add (cbc_add (cbc_add cbc_no (fok_law09_sane L m (by omega))) (fok_keep_Tx L m (by omega))) (fok_tx_Final L m (by omega))), d_law09_TxLater_ok L⟩
theorem fok_ref01_little (L : Nat) : FOk (tabOf rows) L 194 (d_ref01_little F_ref01_little L) 1 := fok_of (D := 0) (by kernel_rfl) fun m hm => ⟨sh_ref01_little, cb_ref01_little L, cbc_no, d_ref01_little_ok L⟩
theorem fok_ref01_joined (L : Nat) : FOk (tabOf rows) L 193 (d_ref01_joined F_ref01_joined L) 1 := fok_of (D := 0) (by kernel_rfl) fun m hm => ⟨sh_ref01_joined, cb_ref01_joined L, cbc_no, d_ref01_joined_ok L⟩
theorem fok_ref01_AppendU32 (L : Nat) : FOk (tabOf rows) L 159 (d_ref01_AppendU32 F_ref01_AppendU32 L) 2 := fok_of (D := 1) (by kernel_rfl) fun m hm => ⟨sh_ref01_AppendU32, cb_ref01_AppendU32 F_ref01_little F_ref01_joined L, (cbc_add (cbc_add cbc_no (fok_ref01_little L m (by omega))) (fok_ref01_joined L m (by omega))), d_ref01_AppendU32_ok L⟩
theorem fok_ref01_AppendSize (L : Nat) : FOk (tabOf rows) L 185 (d_ref01_AppendSize F_ref01_AppendSize L) 2 := fok_of (D := 1) (by kernel_rfl) fun m hm => ⟨sh_ref01_AppendSize, cb_ref01_AppendSize F_ref01_little F_ref01_joined L, (cbc_add (cbc_add cbc_no (fok_ref01_little L m (by omega))) (fok_ref01_joined L m (by omega))), d_ref01_AppendSize_ok L⟩
theorem fok_ref01_AppendHash (L : Nat) : FOk (tabOf rows) L 160 (d_ref01_AppendHash F_ref01_AppendHash L) 2 := fok_of (D := 1) (by kernel_rfl) fun m hm => ⟨sh_ref01_AppendHash, cb_ref01_AppendHash F_ref01_joined L, (cbc_add cbc_no (fok_ref01_joined L m (by omega))), d_ref01_AppendHash_ok L⟩
theorem fok_ref09_Point (L : Nat) : FOk (tabOf rows) L 138 (d_ref09_Point F_ref09_Point L) 3 := fok_of (D := 2) (by kernel_rfl) fun m hm => ⟨sh_ref09_Point, cb_ref09_Point F_ref01_AppendHash F_ref01_AppendU32 L, (cbc_add (cbc_add cbc_no (fok_ref01_AppendHash L m (by omega))) (fok_ref01_AppendU32 L m (by omega))), d_ref09_Point_ok L⟩
theorem fok_ref01_AppendU64 (L : Nat) : FOk (tabOf rows) L 206 (d_ref01_AppendU64 F_ref01_AppendU64 L) 2 := fok_of (D := 1) (by kernel_rfl) fun m hm => ⟨sh_ref01_AppendU64, cb_ref01_AppendU64 F_ref01_little F_ref01_joined L, (cbc_add (cbc_add cbc_no (fok_ref01_little L m (by omega))) (fok_ref01_joined L m (by omega))), d_ref01_AppendU64_ok L⟩
theorem fok_ref01_AppendBytes (L : Nat) : FOk (tabOf rows) L 187 (d_ref01_AppendBytes F_ref01_AppendBytes L) 3 := fok_of (D := 2) (by kernel_rfl) fun m hm => ⟨sh_ref01_AppendBytes, cb_ref01_AppendBytes F_ref01_AppendSize F_ref01_joined L, (cbc_add (cbc_add cbc_no (fok_ref01_AppendSize L m (by omega))) (fok_ref01_joined L m (by omega))), d_ref01_AppendBytes_ok L⟩
theorem fok_ref09_Out (L : Nat) : FOk (tabOf rows) L 186 (d_ref09_Out F_ref09_Out L) 4 := fok_of (D := 3) (by kernel_rfl) fun m hm => ⟨sh_ref09_Out, cb_ref09_Out F_ref01_AppendU64 F_ref01_AppendBytes L, (cbc_add (cbc_add cbc_no (fok_ref01_AppendU64 L m (by omega))) (fok_ref01_AppendBytes L m (by omega))), d_ref09_Out_ok L⟩
theorem fok_ref09_encode (L : Nat) : FOk (tabOf rows) L 149 (d_ref09_encode F_ref09_encode L) 5 := fok_of (D := 4) (by kernel_rfl) fun m hm => ⟨sh_ref09_encode, cb_ref09_encode F_ref01_AppendU32 F_ref01_AppendSize F_ref09_Point F_ref09_Out F_ref01_AppendBytes L, (cbc_add (cbc_add (cbc_add (cbc_add (cbc_add cbc_no (fok_ref01_AppendU32 L m (by omega))) (fok_ref01_AppendSize L m (by omega))) (fok_ref09_Point L m (by omega))) (fok_ref09_Out L m (by omega))) (fok_ref01_AppendBytes L m (by omega))), d_ref09_encode_ok L⟩
theorem fok_ref09_Fits (L : Nat) : FOk (tabOf rows) L 148 (d_ref09_Fits F_ref09_Fits L) 6 := fok_of (D := 5) (by kernel_rfl) fun m hm => ⟨sh_ref09_Fits, cb_ref09_Fits F_ref09_encode L, (cbc_add cbc_no (fok_ref09_encode L m (by omega))), d_ref09_Fits_ok L⟩
theorem fok_ref09_Encode (L : Nat) : FOk (tabOf rows) L 129 (d_ref09_Encode F_ref09_Encode L) 7 := fok_of (D := 6) (by kernel_rfl) fun m hm => ⟨sh_ref09_Encode, cb_ref09_Encode F_ref09_Fits F_ref09_encode L, (cbc_add (cbc_add cbc_no (fok_ref09_Fits L m (by omega))) (fok_ref09_encode L m (by omega))), d_ref09_Encode_ok L⟩
theorem fok_ref01_Same (L : Nat) : FOk (tabOf rows) L 130 (d_ref01_Same F_ref01_Same L) 1 := fok_of (D := 0) (by kernel_rfl) fun m hm => ⟨sh_ref01_Same, cb_ref01_Same L, cbc_no, d_ref01_Same_ok L⟩
theorem fok_law09_TxEncodes (L : Nat) : FOk (tabOf rows) L 119 (d_law09_TxEncodes F_law09_TxEncodes L) 9 := fok_of (D := 8) (by kernel_rfl) fun m hm => ⟨sh_law09_TxEncodes, cb_law09_TxEncodes F_law09_sane F_keep_Tx F_tx_Encode F_ref09_Encode F_ref01_Same L, (cbc_add (cbc_add (cbc_add (cbc_add (cbc_add cbc_no (fok_law09_sane L m (by omega))) (fok_keep_Tx L m (by omega))) (fok_tx_Encode L m (by omega))) (fok_ref09_Encode L m (by omega))) (fok_ref01_Same L m (by omega))), d_law09_TxEncodes_ok L⟩
theorem fok_ref09_Null (L : Nat) : FOk (tabOf rows) L 152 (d_ref09_Null F_ref09_Null L) 1 := fok_of (D := 0) (by kernel_rfl) fun m hm => ⟨sh_ref09_Null, cb_ref09_Null L, cbc_no, d_ref09_Null_ok L⟩
theorem fok_ref09_Coinbase (L : Nat) : FOk (tabOf rows) L 153 (d_ref09_Coinbase F_ref09_Coinbase L) 2 := fok_of (D := 1) (by kernel_rfl) fun m hm => ⟨sh_ref09_Coinbase, cb_ref09_Coinbase F_ref09_Null L, (cbc_add cbc_no (fok_ref09_Null L m (by omega))), d_ref09_Coinbase_ok L⟩
theorem fok_ref09_Check (L : Nat) : FOk (tabOf rows) L 132 (d_ref09_Check F_ref09_Check L) 7 := fok_of (D := 6) (by kernel_rfl) fun m hm => ⟨sh_ref09_Check, cb_ref09_Check F_ref09_Fits F_ref09_Null F_ref09_Coinbase L, (cbc_add (cbc_add (cbc_add cbc_no (fok_ref09_Fits L m (by omega))) (fok_ref09_Null L m (by omega))) (fok_ref09_Coinbase L m (by omega))), d_ref09_Check_ok L⟩
theorem fok_ref09_Final (L : Nat) : FOk (tabOf rows) L 134 (d_ref09_Final F_ref09_Final L) 1 := fok_of (D := 0) (by kernel_rfl) fun m hm => ⟨sh_ref09_Final, cb_ref09_Final L, cbc_no, d_ref09_Final_ok L⟩
theorem fok_law09_TxChecks (L : Nat) : FOk (tabOf rows) L 120 (d_law09_TxChecks F_law09_TxChecks L) 9 := fok_of (D := 8) (by kernel_rfl) fun m hm => ⟨sh_law09_TxChecks, cb_law09_TxChecks F_law09_sane F_keep_Tx F_tx_Check F_ref09_Check F_tx_Final F_ref09_Final L, (cbc_add (cbc_add (cbc_add (cbc_add (cbc_add (cbc_add cbc_no (fok_law09_sane L m (by omega))) (fok_keep_Tx L m (by omega))) (fok_tx_Check L m (by omega))) (fok_ref09_Check L m (by omega))) (fok_tx_Final L m (by omega))) (fok_ref09_Final L m (by omega))), d_law09_TxChecks_ok L⟩
theorem fok_bytes_Compare (L : Nat) : FOk (tabOf rows) L 155 (d_bytes_Compare F_bytes_Compare L) 1 := fok_of (D := 0) (by kernel_rfl) fun m hm => ⟨sh_bytes_Compare, cb_bytes_Compare L, cbc_no, d_bytes_Compare_ok L⟩
theorem fok_cmp_isNaN_uint32 (L : Nat) : FOk (tabOf rows) L 190 (d_cmp_isNaN_uint32 F_cmp_isNaN_uint32 L) 1 := fok_of (D := 0) (by kernel_rfl) fun m hm => ⟨sh_cmp_isNaN_uint32, cb_cmp_isNaN_uint32 L, cbc_no, d_cmp_isNaN_uint32_ok L⟩
theorem fok_cmp_Compare_uint32 (L : Nat) : FOk (tabOf rows) L 156 (d_cmp_Compare_uint32 F_cmp_Compare_uint32 L) 2 := fok_of (D := 1) (by kernel_rfl) fun m hm => ⟨sh_cmp_Compare_uint32, cb_cmp_Compare_uint32 F_cmp_isNaN_uint32 L, (cbc_add cbc_no (fok_cmp_isNaN_uint32 L m (by omega))), d_cmp_Compare_uint32_ok L⟩
theorem fok_cmp_Or_int (L : Nat) : FOk (tabOf rows) L 154 (d_cmp_Or_int F_cmp_Or_int L) 1 := fok_of (D := 0) (by kernel_rfl) fun m hm => ⟨sh_cmp_Or_int, cb_cmp_Or_int L, cbc_no, d_cmp_Or_int_ok L⟩
theorem fok_tx_Compare (L : Nat) : FOk (tabOf rows) L 135 (d_tx_Compare F_tx_Compare L) 3 := fok_of (D := 2) (by kernel_rfl) fun m hm => ⟨sh_tx_Compare, cb_tx_Compare F_bytes_Compare F_cmp_Compare_uint32 F_cmp_Or_int L, (cbc_add (cbc_add (cbc_add cbc_no (fok_bytes_Compare L m (by omega))) (fok_cmp_Compare_uint32 L m (by omega))) (fok_cmp_Or_int L m (by omega))), d_tx_Compare_ok L⟩
theorem fok_ref09_Compare (L : Nat) : FOk (tabOf rows) L 136 (d_ref09_Compare F_ref09_Compare L) 1 := fok_of (D := 0) (by kernel_rfl) fun m hm => ⟨sh_ref09_Compare, cb_ref09_Compare L, cbc_no, d_ref09_Compare_ok L⟩
theorem fok_law09_TxPoints (L : Nat) : FOk (tabOf rows) L 122 (d_law09_TxPoints F_law09_TxPoints L) 9 := fok_of (D := 8) (by kernel_rfl) fun m hm => ⟨sh_law09_TxPoints, cb_law09_TxPoints F_law09_sane F_tx_Compare F_ref09_Compare F_tx_Point F_ref09_Point F_ref01_Same L, (cbc_add (cbc_add (cbc_add (cbc_add (cbc_add (cbc_add cbc_no (fok_law09_sane L m (by omega))) (fok_tx_Compare L m (by omega))) (fok_ref09_Compare L m (by omega))) (fok_tx_Point L m (by omega))) (fok_ref09_Point L m (by omega))) (fok_ref01_Same L m (by omega))), d_law09_TxPoints_ok L⟩
end Go.Proofs.Ytoeobffjdbdpgaa
