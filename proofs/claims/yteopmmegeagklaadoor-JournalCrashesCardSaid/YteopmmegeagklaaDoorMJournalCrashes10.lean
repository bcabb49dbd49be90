/- Part 10 of the proof of JournalCrashes: an abstract machine over plain values, its soundness, and the functions of the program on plain values. -/
import Derived.ProofKit
import Derived.OpenShut
import Derived.ChangeOld
import Derived.Deep.Slices
import Derived.SizedLaws
import Derived.Test.YteopmmegeagklaaDoorMJournalCrashes9
namespace Go.Proofs.YteopmmegeagklaaDoor
section
set_option maxRecDepth 100000
set_option linter.unusedVariables false
set_option linter.unusedSimpArgs false
def zf0:CC:=(.seq (.reg [oo 66 (.bin .lss (tq 65) (tq 64))])
 (.seq (.cond (tq 66)
 .skip
 (.seq (.mask (bl 31525197391597633 92) (bl 4794868975481142876659842815 92))
 (.exit 2)))
 (.seq (.block 3 (.seq (.reg [oo 67 (.indexAddrS 3 (tq 63) (tq 65)),
   oo 68 (.load true 3 (tq 67) false),
   oo 16 (.alloc true [(.sc (.int .i64 0)),(.sc (.int .i64 0)),(.gs 1 [])]),
   oz (.store 3 (tq 16) (tq 68))])
 (.seq (.reg [oo 70 (.move (tq 14) false),
   oo 71 (.load true 3 (tq 16) false),
   oo 72 (.call 414 [((tq 70),0),((tq 71),1)] []),
   oo 69 (.move (tq 72) true),
   oo 73 (.extract (tq 69) 0),
   oo 74 (.pull (tq 69) 1),
   oo 17 (.move (tq 73) false),
   oo 18 (.move (tq 74) false)])
 (.seq (.reg [oo 76 (.move (tq 14) false),
   oo 77 (.load true 3 (tq 16) false),
   oo 78 (.call 652 [((tq 76),0),((tq 77),1)] []),
   oo 75 (.move (tq 78) true),
   oo 79 (.extract (tq 75) 0),
   oo 80 (.pull (tq 75) 1),
   oo 19 (.move (tq 79) false),
   oo 20 (.move (tq 80) false)])
 (.seq (.reg [oo 81 (.move (tq 18) false),
   oo 82 (.move (tq 20) false),
   oo 83 (.bin .neq (tq 81) (tq 82)),
   oo 84 (.move (tq 83) false),
   ⟨(some 85),false,(some (84,false)),.move (tq 17) false⟩,
   ⟨(some 86),false,(some (84,false)),.move (tq 19) false⟩,
   ⟨(some 87),false,(some (84,false)),.call 130 [((tq 85),0),((tq 86),0)] []⟩,
   ⟨(some 88),false,(some (84,false)),.un .not (tq 87)⟩,
   oo 89 (.pick (tq 84) (.const (.sc (.bool true))) (tq 88))])
 (.cond (tq 89)
 (.seq (.reg [oo 8 (.move (.const (.sc (.bool false))) false)])
 (.seq (.mask (bl 256 92) (bl 4794868940893497738454413247 92))
 .ret))
 .skip))))))
 (.reg [oo 90 (.bin .add (tq 65) (.const (.sc (.int .i64 1)))),
   oo 65 (.move (tq 90) false)]))))
def zhy:CC:=(.reg [oo 91 (.bin .add (tq 54) (.const (.sc (.int .i64 1)))),
   oo 54 (.move (tq 91) false)])
def zir:CC:=(.seq (.reg [oo 55 (.bin .lss (tq 54) (tq 53))])
 (.seq (.cond (tq 55)
 .skip
 (.seq (.mask (bl 0 92) (bl 4794868940893497738454412991 92))
 (.exit 0)))
 (.seq (.block 1 (.seq (.reg [oo 56 (.indexAddrS 1 (tq 52) (tq 54)),
   oo 57 (.load false 1 (tq 56) false),
   oo 14 (.move (tq 57) false)])
 (.seq (.dreg [] [(oo 58 (.load true 3 (tq 6) false),ql 6 [12] []),
   (oo 59 (.load true 3 (tq 12) false),ql 12 [6] []),
   (oo 60 (.move (tq 0) false),q0),
   (oo 61 (.call 225 [((tq 60),0)] []),qc [6,12] []),
   (oo 62 (.call 651 [((tq 61),0)] []),qc [6,12] []),
   (oo 63 (.buildSlice 3 3 [(.sc (.int .i64 0)),(.sc (.int .i64 0)),(.sl 1 [])] [(0,3,(tq 58)),(3,3,(tq 59)),(6,3,(tq 62))]),q0),
   (oo 64 (.lenS (tq 63)),q0),
   (oo 65 (.move (.const (.sc (.int .i64 0))) false),q0)])
 (.block 2 (.loop (bl 64595129455375044673 92) (bl 4794868975481142876659842815 92)
 zf0)))))
 zhy)))
def zjL:CC:=(.seq (.reg [oo 8 (.move (.const (.sc (.bool true))) false)])
 .ret)
def zhz:CF:=⟨92,[.tmp 8],
 (.seq (.reg [oo 6 (.box true (tq 2)),
   oo 8 (.move (.const (.sc (.bool false))) false)])
 (.seq (.seq (.reg [oo 21 (.call 410 [] []),
   oo 22 (.un .not (tq 21))])
 (.cond (tq 22)
 (.seq (.reg [oo 8 (.move (.const (.sc (.bool false))) false)])
 .ret)
 .skip))
 (.seq (.seq (.reg [oo 23 (.move (tq 1) false),
   oo 24 (.lenS (tq 23)),
   oo 25 (.bin .gtr (tq 24) (.const (.sc (.int .i64 200)))),
   oo 26 (.move (tq 25) false),
   ⟨(some 27),false,(some (26,false)),.fieldAddr 2 (tq 6)⟩,
   ⟨(some 28),false,(some (26,false)),.load false 1 (tq 27) false⟩,
   ⟨(some 29),false,(some (26,false)),.lenS (tq 28)⟩,
   ⟨(some 30),false,(some (26,false)),.bin .gtr (tq 29) (.const (.sc (.int .i64 100)))⟩,
   oo 31 (.pick (tq 26) (.const (.sc (.bool true))) (tq 30))])
 (.cond (tq 31)
 (.seq (.reg [oo 8 (.move (.const (.sc (.bool true))) false)])
 .ret)
 .skip))
 (.seq (.reg [oo 33 (.move (tq 0) false),
   oo 34 (.call 650 [((tq 33),0)] []),
   oo 32 (.move (tq 34) true),
   oo 35 (.extract (tq 32) 0),
   oo 36 (.extract (tq 32) 1),
   oo 37 (.extract (tq 32) 2),
   oo 9 (.move (tq 35) false),
   oo 10 (.move (tq 36) false),
   oo 11 (.move (tq 37) false)])
 (.seq (.reg [oo 38 (.move (tq 0) false),
   oo 39 (.call 225 [((tq 38),0)] []),
   oo 40 (.call 651 [((tq 39),0)] []),
   oo 12 (.alloc false [(.sc (.int .i64 0)),(.sc (.int .i64 0)),(.gs 1 [])]),
   oz (.store 3 (tq 12) (tq 40))])
 (.seq (.reg [oo 41 (.move (tq 3) false),
   oo 42 (.call 217 [((tq 41),0),((.const (.sc (.int .i64 3))),0)] []),
   oo 43 (.bin .add (.const (.sc (.int .i64 4095))) (tq 42)),
   oo 44 (.makeSlice 1 1 [(.sc (.int .u8 0))] (tq 43) (tq 43)),
   oo 45 (.fieldAddr 2 (tq 12)),
   oz (.store 1 (tq 45) (tq 44))])
 (.seq (.seq (.reg [oo 46 (.move (tq 9) false),
   oo 47 (.move (tq 9) false),
   oo 48 (.move (tq 1) false),
   oo 49 (.buildSlice 1 2 [(.sl 1 [])] [(0,1,(tq 47)),(1,1,(tq 48))]),
   oo 50 (.call 453 [((tq 49),0)] []),
   oo 51 (.move (tq 1) false),
   oo 52 (.buildSlice 1 3 [(.sl 1 [])] [(0,1,(tq 46)),(1,1,(tq 50)),(2,1,(tq 51))]),
   oo 53 (.lenS (tq 52)),
   oo 54 (.move (.const (.sc (.int .i64 0))) false)])
 (.block 0 (.loop (bl 31525197391597633 92) (bl 4794868940893497738454417151 92)
 zir)))
 zjL)))))))⟩
def zgs:Hint:=⟨[(0,0),(5,2),(5,3),(5,4),(5,5),(13,2),(14,3),(14,4),(15,3),(15,4)],[],[none,none,none,none,none,some ((bl 31525197391597633 92),(bl 4794868940893497738454417151 92)),none,some ((bl 0 92),(bl 4794868940893497738454412991 92)),none,none,some ((bl 64595129455375044673 92),(bl 4794868975481142876659842815 92)),none,some ((bl 31525197391597633 92),(bl 4794868975481142876659842815 92)),none,none,some ((bl 256 92),(bl 4794868940893497738454413247 92)),none],[],[],false,false⟩
def zxY:Nat→Sh:=xT [(28,(.sl 1)),(40,(.row [(.int .i64),(.int .i64),(.sl 1)])),(57,(.sl 1))]
def zxX (yc:xi) (xx:zay) (zd:zk) (yb:xg) (yd:xk) (zc:zi) (ya:xe) (yo:xK) (xa:yg) (L:Nat):CBC:=(zD 130 (zeq xa L) (zD 652 (zoh yo L) (zD 414 (zc8 ya L) (zD 453 (zek zc L) (zD 217 (zhe yd L) (zD 651 (zeE yb L) (zD 225 (zhv zd L) (zD 650 (zvR xx L) (zD 410 (zg6 yc L) noC)))))))))
def zta:St→St:=xY 0 (bl 31525197391597633 92) (bl 4794868940893497738454417151 92)
def zpF:St→St:=xY 0 (bl 64595129455375044673 92) (bl 4794868975481142876659842815 92)
def zrL (p0 p52:List (List V)) (p53 p54:Int) (b6:List V) (zEP zEQ:Int) (zE3 zET:List (List V)) (zEU:Int):St:=⟨((V.sl 1 p0)::(jn 5 ((V.ptr 6 0)::(jn 5 ((V.ptr 12 0)::(jn 39 ((V.gs 1 p52)::((V.sc (.int .i64 p53))::((V.sc (.int .i64 p54))::(jn 37 [])))))))))),(gn 6 ((.live true b6)::(gn 5 ((.live false [(V.sc (.int .i64 zEP)),(V.sc (.int .i64 zEQ)),(V.gs 1 zE3)])::(gn 26 ((.live false [(V.sl 1 zET),(V.sc (.int .i64 zEU))])::(gn 52 [])))))))⟩
def zod (p0 p14 p52:List (List V)) (p53 p54:Int) (p63:List (List V)) (p64 p65:Int) (b6:List V) (zEP zEQ:Int) (zE3 zET:List (List V)) (zEU:Int) (zE7:List (List V)) (zE8:Int):St:=⟨((V.sl 1 p0)::(jn 5 ((V.ptr 6 0)::(jn 5 ((V.ptr 12 0)::(jn 1 ((V.sl 1 p14)::(jn 37 ((V.gs 1 p52)::((V.sc (.int .i64 p53))::((V.sc (.int .i64 p54))::(jn 8 ((V.gs 3 p63)::((V.sc (.int .i64 p64))::((V.sc (.int .i64 p65))::(jn 26 [])))))))))))))))),(gn 6 ((.live true b6)::(gn 5 ((.live false [(V.sc (.int .i64 zEP)),(V.sc (.int .i64 zEQ)),(V.gs 1 zE3)])::(gn 26 ((.live false [(V.sl 1 zET),(V.sc (.int .i64 zEU))])::(gn 21 ((.live false [(V.sl 1 zE7),(V.sc (.int .i64 zE8))])::(gn 30 [])))))))))⟩
def zwc (zET:List (List V)) (zEU:Int):St:=⟨(jn 92 []),(gn 39 ((.live false [(V.sl 1 zET),(V.sc (.int .i64 zEU))])::(gn 52 [])))⟩
def zvf (p8:Bool) (zET:List (List V)) (zEU:Int):St:=⟨(jn 8 ((V.sc (.bool p8))::(jn 83 []))),(gn 39 ((.live false [(V.sl 1 zET),(V.sc (.int .i64 zEU))])::(gn 52 [])))⟩
def zvW (p0 p52:List (List V)) (p53 p54:Int) (b6:List V) (zEP zEQ:Int) (zE3 zET:List (List V)) (zEU:Int) (zE7:List (List V)) (zE8:Int):St:=⟨((V.sl 1 p0)::(jn 5 ((V.ptr 6 0)::(jn 5 ((V.ptr 12 0)::(jn 39 ((V.gs 1 p52)::((V.sc (.int .i64 p53))::((V.sc (.int .i64 p54))::(jn 37 [])))))))))),(gn 6 ((.live true b6)::(gn 5 ((.live false [(V.sc (.int .i64 zEP)),(V.sc (.int .i64 zEQ)),(V.gs 1 zE3)])::(gn 26 ((.live false [(V.sl 1 zET),(V.sc (.int .i64 zEU))])::(gn 21 ((.live false [(V.sl 1 zE7),(V.sc (.int .i64 zE8))])::(gn 30 [])))))))))⟩
abbrev zcn (β:Type):Type:=List (List V)→List (List V)→Int→Int→List V→Int→Int→List (List V)→List (List V)→Int→Option β
abbrev zcL (β:Type):Type:=List (List V)→List (List V)→List (List V)→Int→Int→List (List V)→Int→Int→List V→Int→Int→List (List V)→List (List V)→Int→List (List V)→Int→Option β
abbrev zhc (β:Type):Type:=List (List V)→List (List V)→Int→Int→List V→Int→Int→List (List V)→List (List V)→Int→List (List V)→Int→Option β
def znZ {β:Type} (yc:xi) (xx:zay) (zd:zk) (yb:xg) (yd:xk) (zc:zi) (ya:xe) (yo:xK) (xa:yg) (L:Nat) (p0 p1:List (List V)) (p2:List V) (p3:Int) (k_fin:Bool→Option β) (k_hbbbbbbaba:zcn β):Option β :=
 yc β L  (fun v0 =>
 ifb (!v0) (
 k_fin false) (
 ifb (decide (((List.length p1:Nat):Int) > (200:Int))) (
 k_fin true) (
 cLd 1 p2 2 fun v1 =>
 ifb (decide (((List.length v1:Nat):Int) > (100:Int))) (
 k_fin true) (
 xx β L p0 (fun v2 v3 v4 =>
 zd β L p0 (fun v5 v6 =>
 yb β L v5 v6 (fun v7 v8 v9 =>
 chk (List.length v7=3) (
 cI .i64 v7 0 fun v10 =>
 cI .i64 v7 1 fun v11 =>
 cL 1 v7 2 fun v12 =>
 yd β L p3 (3:Int) (fun v13 =>
 lt (IntKind.wrap .i64 (((4095:Int):Int)+v13)) fun x14 =>
 chk (0≤x14∧x14≤x14∧(Int.toNat x14) * 1≤yj∧x14≤yj) (
 zc β L (xh 1 2 [(V.sl 1 v2),(V.sl 1 p1)]) (fun v15 =>
 k_hbbbbbbaba p0 (xh 1 3 [(V.sl 1 v2),(V.sl 1 v15),(V.sl 1 p1)]) ((List.length (xh 1 3 [(V.sl 1 v2),(V.sl 1 v15),(V.sl 1 p1)]):Nat):Int) (0:Int) p2 v10 v11 (List.replicate (Int.toNat x14) [(V.sc (.int .u8 (0:Int)))]) v8 v9)))))))))))
def ziN {β:Type} (yc:xi) (xx:zay) (zd:zk) (yb:xg) (yd:xk) (zc:zi) (ya:xe) (yo:xK) (xa:yg) (L:Nat) (p0 p52:List (List V)) (p53 p54:Int) (b6:List V) (zEP zEQ:Int) (zE3 zET:List (List V)) (zEU:Int) (k_hbbbbbbabaabbaabba:zcL β) (k_x0:List (List V)→Int→Option β):Option β :=
 ifb (decide (p54 < p53)) (
 idx p52 p54 fun c16 =>
 cL 1 c16 0 fun v17 =>
 chk (0+3≤(List.length b6)) (
 zd β L p0 (fun v18 v19 =>
 yb β L v18 v19 (fun v20 v21 v22 =>
 chk ((List.length (List.take 3 b6))=3∧0+3≤9) (
 chk (3=3∧3+3≤(List.length (xn [(V.sc (.int .i64 (0:Int))),(V.sc (.int .i64 (0:Int))),(V.sl 1 ([]:List (List V))),(V.sc (.int .i64 (0:Int))),(V.sc (.int .i64 (0:Int))),(V.sl 1 ([]:List (List V))),(V.sc (.int .i64 (0:Int))),(V.sc (.int .i64 (0:Int))),(V.sl 1 ([]:List (List V)))] 0 (List.take 3 b6)))) (
 chk ((List.length v20)=3∧6+3≤(List.length (xn (xn [(V.sc (.int .i64 (0:Int))),(V.sc (.int .i64 (0:Int))),(V.sl 1 ([]:List (List V))),(V.sc (.int .i64 (0:Int))),(V.sc (.int .i64 (0:Int))),(V.sl 1 ([]:List (List V))),(V.sc (.int .i64 (0:Int))),(V.sc (.int .i64 (0:Int))),(V.sl 1 ([]:List (List V)))] 0 (List.take 3 b6)) 3 [(V.sc (.int .i64 zEP)),(V.sc (.int .i64 zEQ)),(V.sl 1 zE3)]))) (
 k_hbbbbbbabaabbaabba p0 v17 p52 p53 p54 (xh 3 3 (xn (xn (xn [(V.sc (.int .i64 (0:Int))),(V.sc (.int .i64 (0:Int))),(V.sl 1 ([]:List (List V))),(V.sc (.int .i64 (0:Int))),(V.sc (.int .i64 (0:Int))),(V.sl 1 ([]:List (List V))),(V.sc (.int .i64 (0:Int))),(V.sc (.int .i64 (0:Int))),(V.sl 1 ([]:List (List V)))] 0 (List.take 3 b6)) 3 [(V.sc (.int .i64 zEP)),(V.sc (.int .i64 zEQ)),(V.sl 1 zE3)]) 6 v20)) ((List.length (xh 3 3 (xn (xn (xn [(V.sc (.int .i64 (0:Int))),(V.sc (.int .i64 (0:Int))),(V.sl 1 ([]:List (List V))),(V.sc (.int .i64 (0:Int))),(V.sc (.int .i64 (0:Int))),(V.sl 1 ([]:List (List V))),(V.sc (.int .i64 (0:Int))),(V.sc (.int .i64 (0:Int))),(V.sl 1 ([]:List (List V)))] 0 (List.take 3 b6)) 3 [(V.sc (.int .i64 zEP)),(V.sc (.int .i64 zEQ)),(V.sl 1 zE3)]) 6 v20)):Nat):Int) (0:Int) b6 zEP zEQ zE3 zET zEU v21 v22))))))) (
 k_x0 zET zEU)
def zia {β:Type} (yc:xi) (xx:zay) (zd:zk) (yb:xg) (yd:xk) (zc:zi) (ya:xe) (yo:xK) (xa:yg) (L:Nat) (zET:List (List V)) (zEU:Int) (k_fin:Bool→Option β):Option β :=
 k_fin true
def zf6 {β:Type} (yc:xi) (xx:zay) (zd:zk) (yb:xg) (yd:xk) (zc:zi) (ya:xe) (yo:xK) (xa:yg) (L:Nat) (p0 p14 p52:List (List V)) (p53 p54:Int) (p63:List (List V)) (p64 p65:Int) (b6:List V) (zEP zEQ:Int) (zE3 zET:List (List V)) (zEU:Int) (zE7:List (List V)) (zE8:Int) (k_ret:Bool→List (List V)→Int→Option β) (k_hbbbbbbabaabbaabba:zcL β) (k_x2:zhc β):Option β :=
 ifb (decide (p65 < p64)) (
 idx p63 p65 fun c23 =>
 chk ((List.length (List.take 3 c23))=3∧0+3≤3) (
 lt (xn [(V.sc (.int .i64 (0:Int))),(V.sc (.int .i64 (0:Int))),(V.gs 1 ([]:List (List V)))] 0 (List.take 3 c23)) fun r24 =>
 chk (0+3≤(List.length r24)) (
 ya β L p14 (List.map V.dem (List.take 3 r24)) (fun v25 v26 =>
 chk (0+3≤(List.length r24)) (
 yo β L p14 (List.map V.dem (List.take 3 r24)) (fun v27 v28 =>
 ifb ((v26:Int) != v28) (
 k_ret false zET zEU) (
 xa β L v25 v27 (fun v29 =>
 ifb (!v29) (
 k_ret false zET zEU) (
 lt (IntKind.wrap .i64 ((p65:Int)+(1:Int))) fun x30 =>
 k_hbbbbbbabaabbaabba p0 p14 p52 p53 p54 p63 p64 x30 b6 zEP zEQ zE3 zET zEU zE7 zE8))))))))) (
 k_x2 p0 p52 p53 p54 b6 zEP zEQ zE3 zET zEU zE7 zE8)
def zfv {β:Type} (yc:xi) (xx:zay) (zd:zk) (yb:xg) (yd:xk) (zc:zi) (ya:xe) (yo:xK) (xa:yg) (L:Nat) (p8:Bool) (zET:List (List V)) (zEU:Int) (k_ret:Bool→List (List V)→Int→Option β):Option β :=
 k_ret p8 zET zEU
def zfB {β:Type} (yc:xi) (xx:zay) (zd:zk) (yb:xg) (yd:xk) (zc:zi) (ya:xe) (yo:xK) (xa:yg) (L:Nat) (p0 p52:List (List V)) (p53 p54:Int) (b6:List V) (zEP zEQ:Int) (zE3 zET:List (List V)) (zEU:Int) (zE7:List (List V)) (zE8:Int) (k_hbbbbbbaba:zcn β):Option β :=
 lt (IntKind.wrap .i64 ((p54:Int)+(1:Int))) fun x31 =>
 k_hbbbbbbaba p0 p52 p53 x31 b6 zEP zEQ zE3 zET zEU
def zhO {β:Type} (yc:xi) (xx:zay) (zd:zk) (yb:xg) (yd:xk) (zc:zi) (ya:xe) (yo:xK) (xa:yg) (L:Nat) (p8:Bool) (zET:List (List V)) (zEU:Int) (k_fin:Bool→Option β):Option β :=
 k_fin p8
def zcT {β:Type} (yc:xi) (xx:zay) (zd:zk) (yb:xg) (yd:xk) (zc:zi) (ya:xe) (yo:xK) (xa:yg) (L:Nat) (k_ret:Bool→List (List V)→Int→Option β) (k_x2:zhc β):Nat→List (List V)→List (List V)→List (List V)→Int→Int→List (List V)→Int→Int→List V→Int→Int→List (List V)→List (List V)→Int→List (List V)→Int→Option β
 | 0,_,_,_,_,_,_,_,_,_,_,_,_,_,_,_,_=>none
 | n+1,p0,p14,p52,p53,p54,p63,p64,p65,b6,zEP,zEQ,zE3,zET,zEU,zE7,zE8=>zf6 yc xx zd yb yd zc ya yo xa L p0 p14 p52 p53 p54 p63 p64 p65 b6 zEP zEQ zE3 zET zEU zE7 zE8 k_ret (fun p0 p14 p52 p53 p54 p63 p64 p65 b6 zEP zEQ zE3 zET zEU zE7 zE8=>zcT yc xx zd yb yd zc ya yo xa L k_ret k_x2 n p0 p14 p52 p53 p54 p63 p64 p65 b6 zEP zEQ zE3 zET zEU zE7 zE8) k_x2
def ziy {β:Type} (yc:xi) (xx:zay) (zd:zk) (yb:xg) (yd:xk) (zc:zi) (ya:xe) (yo:xK) (xa:yg) (L:Nat) (p0 p52:List (List V)) (p53 p54:Int) (b6:List V) (zEP zEQ:Int) (zE3 zET:List (List V)) (zEU:Int) (k_x0:List (List V)→Int→Option β) (k_ret:Bool→List (List V)→Int→Option β) (k_hbbbbbbaba:zcn β):Option β :=
 ziN yc xx zd yb yd zc ya yo xa L p0 p52 p53 p54 b6 zEP zEQ zE3 zET zEU (fun p0 p14 p52 p53 p54 p63 p64 p65 b6 zEP zEQ zE3 zET zEU zE7 zE8=>zcT yc xx zd yb yd zc ya yo xa L (fun p8 zET zEU=>zfv yc xx zd yb yd zc ya yo xa L p8 zET zEU k_ret) (fun p0 p52 p53 p54 b6 zEP zEQ zE3 zET zEU zE7 zE8=>zfB yc xx zd yb yd zc ya yo xa L p0 p52 p53 p54 b6 zEP zEQ zE3 zET zEU zE7 zE8 k_hbbbbbbaba) L p0 p14 p52 p53 p54 p63 p64 p65 b6 zEP zEQ zE3 zET zEU zE7 zE8) k_x0
def zey {β:Type} (yc:xi) (xx:zay) (zd:zk) (yb:xg) (yd:xk) (zc:zi) (ya:xe) (yo:xK) (xa:yg) (L:Nat) (k_x0:List (List V)→Int→Option β) (k_ret:Bool→List (List V)→Int→Option β):Nat→List (List V)→List (List V)→Int→Int→List V→Int→Int→List (List V)→List (List V)→Int→Option β
 | 0,_,_,_,_,_,_,_,_,_,_=>none
 | n+1,p0,p52,p53,p54,b6,zEP,zEQ,zE3,zET,zEU=>ziy yc xx zd yb yd zc ya yo xa L p0 p52 p53 p54 b6 zEP zEQ zE3 zET zEU k_x0 k_ret (fun p0 p52 p53 p54 b6 zEP zEQ zE3 zET zEU=>zey yc xx zd yb yd zc ya yo xa L k_x0 k_ret n p0 p52 p53 p54 b6 zEP zEQ zE3 zET zEU)
def zn5 {β:Type} (yc:xi) (xx:zay) (zd:zk) (yb:xg) (yd:xk) (zc:zi) (ya:xe) (yo:xK) (xa:yg) (L:Nat) (p0 p1:List (List V)) (p2:List V) (p3:Int) (k_fin:Bool→Option β):Option β :=
 znZ yc xx zd yb yd zc ya yo xa L p0 p1 p2 p3 k_fin (fun p0 p52 p53 p54 b6 zEP zEQ zE3 zET zEU=>zey yc xx zd yb yd zc ya yo xa L (fun zET zEU=>zia yc xx zd yb yd zc ya yo xa L zET zEU k_fin) (fun p8 zET zEU=>zhO yc xx zd yb yd zc ya yo xa L p8 zET zEU k_fin) L p0 p52 p53 p54 b6 zEP zEQ zE3 zET zEU)
abbrev znV:=∀ (β:Type),Nat→List (List V)→List (List V)→List V→Int→(Bool→Option β)→Option β
def zh1 (β:Type) (L:Nat) (p0 p1:List (List V)) (p2:List V) (p3:Int) (k_fin:Bool→Option β):Option β:=zn5 yc xx zd yb yd zc ya yo xa L p0 p1 p2 p3 k_fin
def zyq (zh1:znV) (L:Nat) (β:Type) (args:List V) (bor:Bor) (k:KK β):Option β:=match args,bor with
 | [a0,a1,a2,a3],[]=>aL 1 a0 fun p0=>aL 1 a1 fun p1=>aG a2 fun p2=>aI .i64 a3 fun p3=>zh1 β L p0 p1 p2 p3 (fun p0=>k (V.sc (.bool p0)) [])
 | _,_=>none
def zdq:CC:=(.seq (.seq (.reg [oo 11 (.move (tq 5) false),
   oo 12 (.move (tq 0) false),
   oo 13 (.lenS (tq 12)),
   oo 14 (.bin .lss (tq 11) (tq 13))])
 (.cond (tq 14)
 .skip
 (.seq (.mask (bl 0 55) (bl 31525197391585231 55))
 (.exit 0))))
 (.seq (.block 1 (.seq (.dreg [] [(oo 17 (.move (tq 0) false),q0),
   (oo 18 (.move (tq 5) false),q0),
   (oo 19 (.indexAddrS 3 (tq 17) (tq 18)),q0),
   (oo 20 (.fieldAddr 0 (tq 19)),q0),
   (oo 21 (.load false 1 (tq 20) false),qc [] []),
   (oo 22 (.move (tq 1) false),q0),
   (oo 23 (.move (tq 5) false),q0),
   (oo 24 (.indexAddrS 3 (tq 22) (tq 23)),q0),
   (oo 25 (.fieldAddr 0 (tq 24)),q0),
   (oo 26 (.load false 1 (tq 25) false),qc [] []),
   (oo 27 (.bin .neq (tq 21) (tq 26)),q0),
   (oo 28 (.move (tq 27) false),q0),
   (⟨(some 29),false,(some (28,false)),.move (tq 0) false⟩,q0),
   (⟨(some 30),false,(some (28,false)),.move (tq 5) false⟩,q0),
   (⟨(some 31),false,(some (28,false)),.indexAddrS 3 (tq 29) (tq 30)⟩,q0),
   (⟨(some 32),false,(some (28,false)),.fieldAddr 1 (tq 31)⟩,q0),
   (⟨(some 33),false,(some (28,false)),.load false 1 (tq 32) false⟩,qc [] []),
   (⟨(some 34),false,(some (28,false)),.move (tq 1) false⟩,q0),
   (⟨(some 35),false,(some (28,false)),.move (tq 5) false⟩,q0),
   (⟨(some 36),false,(some (28,false)),.indexAddrS 3 (tq 34) (tq 35)⟩,q0),
   (⟨(some 37),false,(some (28,false)),.fieldAddr 1 (tq 36)⟩,q0),
   (⟨(some 38),false,(some (28,false)),.load false 1 (tq 37) false⟩,qc [] []),
   (⟨(some 39),false,(some (28,false)),.bin .neq (tq 33) (tq 38)⟩,q0),
   (oo 40 (.pick (tq 28) (.const (.sc (.bool true))) (tq 39)),q0),
   (oo 41 (.move (tq 40) false),q0),
   (⟨(some 42),false,(some (41,false)),.move (tq 0) false⟩,q0),
   (⟨(some 43),false,(some (41,false)),.move (tq 5) false⟩,q0),
   (⟨(some 44),false,(some (41,false)),.indexAddrS 3 (tq 42) (tq 43)⟩,q0),
   (⟨(some 45),false,(some (41,false)),.fieldAddr 2 (tq 44)⟩,q0),
   (⟨(some 46),false,(some (41,false)),.load false 1 (tq 45) false⟩,qc [] []),
   (⟨(some 47),false,(some (41,false)),.move (tq 1) false⟩,q0),
   (⟨(some 48),false,(some (41,false)),.move (tq 5) false⟩,q0),
   (⟨(some 49),false,(some (41,false)),.indexAddrS 3 (tq 47) (tq 48)⟩,q0),
   (⟨(some 50),false,(some (41,false)),.fieldAddr 2 (tq 49)⟩,q0),
   (⟨(some 51),false,(some (41,false)),.load false 1 (tq 50) false⟩,qc [] []),
   (⟨(some 52),false,(some (41,false)),.call 130 [((tq 46),0),((tq 51),0)] []⟩,q0),
   (⟨(some 53),false,(some (41,false)),.un .not (tq 52)⟩,q0),
   (oo 54 (.pick (tq 41) (.const (.sc (.bool true))) (tq 53)),q0)])
 (.cond (tq 54)
 (.seq (.reg [oo 4 (.move (.const (.sc (.bool false))) false)])
 (.seq (.mask (bl 16 55) (bl 31525197391585247 55))
 .ret))
 .skip)))
 (.reg [oo 15 (.move (tq 5) false),
   oo 16 (.bin .add (tq 15) (.const (.sc (.int .i64 1)))),
   oo 5 (.move (tq 16) false)])))
def zgz:CC:=(.seq (.reg [oo 4 (.move (.const (.sc (.bool true))) false)])
 .ret)
def zcS:CF:=⟨55,[.tmp 4],
 (.seq (.reg [oo 4 (.move (.const (.sc (.bool false))) false)])
 (.seq (.seq (.reg [oo 6 (.move (tq 0) false),
   oo 7 (.lenS (tq 6)),
   oo 8 (.move (tq 1) false),
   oo 9 (.lenS (tq 8)),
   oo 10 (.bin .neq (tq 7) (tq 9))])
 (.cond (tq 10)
 (.seq (.reg [oo 4 (.move (.const (.sc (.bool false))) false)])
 .ret)
 .skip))
 (.seq (.seq (.reg [oo 5 (.move (.const (.sc (.int .i64 0))) false)])
 (.block 0 (.loop (bl 35 55) (bl 31525197391585263 55)
 zdq)))
 zgz)))⟩
def znn:Hint:=⟨[],[],[none,none,none,some ((bl 35 55),(bl 31525197391585263 55)),none,some ((bl 0 55),(bl 31525197391585231 55)),none,none,some ((bl 16 55),(bl 31525197391585247 55)),none],[],[],false,false⟩
def zbh:Nat→Sh:=xT [(21,(.int .i64)),(26,(.int .i64)),(33,(.int .i64)),(38,(.int .i64)),(46,(.sl 1)),(51,(.sl 1))]
def zbe (xa:yg) (L:Nat):CBC:=(zD 130 (zeq xa L) noC)
def zfk:St→St:=xY 0 (bl 35 55) (bl 31525197391585263 55)
def zdY (p0 p1:List (List V)) (p5:Int):St:=⟨((V.sl 3 p0)::((V.sl 3 p1)::(jn 3 ((V.sc (.int .i64 p5))::(jn 49 []))))),(gn 55 [])⟩
def zhD (p4:Bool):St:=⟨(jn 4 ((V.sc (.bool p4))::(jn 50 []))),(gn 55 [])⟩
def zit:St:=⟨(jn 55 []),(gn 55 [])⟩
def zmA {β:Type} (xa:yg) (L:Nat) (p0 p1:List (List V)) (k_fin:Bool→Option β) (k_hbbaba:List (List V)→List (List V)→Int→Option β):Option β :=
 ifb ((((List.length p0:Nat):Int):Int) != ((List.length p1:Nat):Int)) (
 k_fin false) (
 k_hbbaba p0 p1 (0:Int))
theorem ztH {β:Type} (xa:yg) (L:Nat) (p0 p1:List (List V)) (k:KK β):xB zbh (zbe xa L) L zcS [(V.sl 3 p0),(V.sl 3 p1)] [] k=zmA xa L p0 p1 (fun p0=>k (V.sc (.bool p0)) []) (fun p0 p1 p5=>xA (yn zbh (zbe xa L) 0 L zdq) zfk L (zdY p0 p1 p5) (yA 0 (yQ (yn zbh (zbe xa L) 0 L zgz) (xS 0 (CF.res zcS) k)))):=by kernel_rfl
def zhL {β:Type} (xa:yg) (L:Nat) (p0 p1:List (List V)) (p5:Int) (k_ret:Bool→Option β) (k_hbbaba:List (List V)→List (List V)→Int→Option β) (k_x0:Option β):Option β :=
 ifb (decide (p5 < ((List.length p0:Nat):Int))) (
 idx p0 p5 fun c0 =>
 cI .i64 c0 0 fun v1 =>
 idx p1 p5 fun c2 =>
 cI .i64 c2 0 fun v3 =>
 ifb ((v1:Int) != v3) (
 k_ret false) (
 idx p0 p5 fun c4 =>
 cI .i64 (List.drop 1 c4) 0 fun v5 =>
 idx p1 p5 fun c6 =>
 cI .i64 (List.drop 1 c6) 0 fun v7 =>
 ifb ((v5:Int) != v7) (
 k_ret false) (
 idx p0 p5 fun c8 =>
 cL 1 (List.drop 2 c8) 0 fun v9 =>
 idx p1 p5 fun c10 =>
 cL 1 (List.drop 2 c10) 0 fun v11 =>
 xa β L v9 v11 (fun v12 =>
 ifb (!v12) (
 k_ret false) (
 lt (IntKind.wrap .i64 ((p5:Int)+(1:Int))) fun x13 =>
 k_hbbaba p0 p1 x13))))) (
 k_x0)
theorem zpw {β:Type} (xa:yg) (L:Nat) (p0 p1:List (List V)) (p5:Int) (X:St→Option β) (K:KT β):yn zbh (zbe xa L) 0 L zdq (zdY p0 p1 p5) (zbF zfk X K)=zhL xa L p0 p1 p5 (fun p4=>K .ret (zhD p4)) (fun p0 p1 p5=>X (zdY p0 p1 p5)) (K (.exit 0) (zit)):=by kernel_rfl
def zjm {β:Type} (xa:yg) (L:Nat) (p4:Bool) (k_fin:Bool→Option β):Option β :=
 k_fin p4
theorem zmX {β:Type} (xa:yg) (L:Nat) (p4:Bool) (k:KK β):(yA 0 (yQ (yn zbh (zbe xa L) 0 L zgz) (xS 0 (CF.res zcS) k))) .ret (zhD p4)=zjm xa L p4 (fun p0=>k (V.sc (.bool p0)) []):=by kernel_rfl
def zjV {β:Type} (xa:yg) (L:Nat) (k_fin:Bool→Option β):Option β :=
 k_fin true
theorem zn3 {β:Type} (xa:yg) (L:Nat) (k:KK β):(yA 0 (yQ (yn zbh (zbe xa L) 0 L zgz) (xS 0 (CF.res zcS) k))) (.exit 0) (zit)=zjV xa L (fun p0=>k (V.sc (.bool p0)) []):=by kernel_rfl
def zdT {β:Type} (xa:yg) (L:Nat) (k_ret:Bool→Option β) (k_x0:Option β):Nat→List (List V)→List (List V)→Int→Option β
 | 0,_,_,_=>none
 | n+1,p0,p1,p5=>zhL xa L p0 p1 p5 k_ret (fun p0 p1 p5=>zdT xa L k_ret k_x0 n p0 p1 p5) k_x0
theorem zjb {β:Type} (xa:yg) (L:Nat) (K:KT β):∀ (n:Nat) (p0 p1:List (List V)) (p5:Int),xA (yn zbh (zbe xa L) 0 L zdq) zfk n (zdY p0 p1 p5) K=zdT xa L (fun p4=>K .ret (zhD p4)) (K (.exit 0) (zit)) n p0 p1 p5:=by
 intro n
 induction n with
 | zero=>intros; rfl
 | succ n ih =>
  intro p0 p1 p5
  refine (zpw xa L p0 p1 p5 (fun σ=>xA (yn zbh (zbe xa L) 0 L zdq) zfk n σ K) K).trans ?_
  simp only [ih]
  rfl
def zjf {β:Type} (xa:yg) (L:Nat) (p0 p1:List (List V)) (k_fin:Bool→Option β):Option β :=
 zmA xa L p0 p1 k_fin (fun p0 p1 p5=>zdT xa L (fun p4=>zjm xa L p4 k_fin) (zjV xa L k_fin) L p0 p1 p5)
theorem ztS {β:Type} (xa:yg) (L:Nat) (p0 p1:List (List V)) (k:KK β):xB zbh (zbe xa L) L zcS [(V.sl 3 p0),(V.sl 3 p1)] [] k=zjf xa L p0 p1 (fun p0=>k (V.sc (.bool p0)) []):=by
 refine (ztH xa L p0 p1 k).trans ?_
 unfold zjf
 first
  | (simp only [zjb,zmX,zn3]; done)
  | (simp only [zjb]; rfl)
abbrev zm:=∀ (β:Type),Nat→List (List V)→List (List V)→(Bool→Option β)→Option β
def xc (β:Type) (L:Nat) (p0 p1:List (List V)) (k_fin:Bool→Option β):Option β:=zjf xa L p0 p1 k_fin
def zjH (xc:zm) (L:Nat) (β:Type) (args:List V) (bor:Bor) (k:KK β):Option β:=match args,bor with
 | [a0,a1],[]=>aL 3 a0 fun p0=>aL 3 a1 fun p1=>xc β L p0 p1 (fun p0=>k (V.sc (.bool p0)) [])
 | _,_=>none
theorem zue (L:Nat) (β:Type) (args:List V) (bor:Bor) (k:KK β) (r:β) (h:zjH xc L β args bor k=some r):xB zbh (zbe xa L) L zcS args bor k=some r:=by
 unfold zjH at h
 split at h
 ·have q:=y8 h; clear h; obtain ⟨p0,rfl,h⟩:=q
  have q:=y8 h; clear h; obtain ⟨p1,rfl,h⟩:=q
  exact (ztS xa L p0 p1 k).trans h
 ·cases h
def zfg:CF:=⟨16,[.tmp 2],
 (.seq (.reg [oo 2 (.move (.const (.gs 1 [])) true)])
 (.seq (.reg [oo 7 (.move (tq 0) false),
   oo 8 (.call 433 [((tq 7),0)] []),
   oo 6 (.move (tq 8) true),
   oo 9 (.extract (tq 6) 0),
   oo 10 (.pull (tq 6) 1),
   oo 11 (.pull (tq 6) 2),
   oo 5 (.alloc true [(.sc (.int .u8 0)),(.sc (.int .u8 0)),(.sc (.int .u8 0)),(.sc (.int .u8 0))]),
   oo 3 (.move (tq 9) false),
   oo 4 (.move (tq 10) false),
   oz (.store 4 (tq 5) (tq 11))])
 (.seq (.reg [oo 12 (.move (tq 0) true),
   oo 13 (.move (tq 4) false),
   oo 14 (.sliceS 1 (tq 12) none (some (tq 13)) none),
   oo 15 (.call 495 [((tq 14),0)] []),
   oo 2 (.move (tq 15) true)])
 .ret)))⟩
def zjX:Hint:=⟨[(0,0),(1,2),(1,3),(2,0),(2,4)],[],[none],[],[],false,false⟩
def zhC:Nat→Sh:=xT []
def zhQ (zq:zbo) (zl:zab) (L:Nat):CBC:=(zD 495 (zbx zl L) (zD 433 (zeb zq L) noC))
def zim {β:Type} (zq:zbo) (zl:zab) (L:Nat) (p0:List (List V)) (k_fin:List (List V)→Option β):Option β :=
 zq β L p0 (fun v0 v1 v2 =>
 chk ((List.length v2)=4∧0+4≤4) (
 lt (xn [(V.sc (.int .u8 (0:Int))),(V.sc (.int .u8 (0:Int))),(V.sc (.int .u8 (0:Int))),(V.sc (.int .u8 (0:Int)))] 0 v2) fun r3 =>
 chk (0≤v1∧v1≤(((List.length p0):Nat):Int)) (
 zl β L (List.take ((Int.toNat v1) - 0) (List.drop 0 p0)) (fun v4 =>
 k_fin v4))))
theorem zqb {β:Type} (zq:zbo) (zl:zab) (L:Nat) (p0:List (List V)) (k:KK β):xB zhC (zhQ zq zl L) L zfg [(V.sl 1 p0)] [] k=zim zq zl L p0 (fun p0=>k (V.gs 1 p0) []):=by kernel_rfl
abbrev yh:=∀ (β:Type),Nat→List (List V)→(List (List V)→Option β)→Option β
def zb (β:Type) (L:Nat) (p0:List (List V)) (k_fin:List (List V)→Option β):Option β:=zim zq zl L p0 k_fin
def zfW (zb:yh) (L:Nat) (β:Type) (args:List V) (bor:Bor) (k:KK β):Option β:=match args,bor with
 | [a0],[]=>aL 1 a0 fun p0=>zb β L p0 (fun p0=>k (V.gs 1 p0) [])
 | _,_=>none
theorem zp7 (L:Nat) (β:Type) (args:List V) (bor:Bor) (k:KK β) (r:β) (h:zfW zb L β args bor k=some r):xB zhC (zhQ zq zl L) L zfg args bor k=some r:=by
 unfold zfW at h
 split at h
 ·have q:=y8 h; clear h; obtain ⟨p0,rfl,h⟩:=q
  exact (zqb zq zl L p0 k).trans h
 ·cases h
def zw:CC:=(.seq (.reg [oo 122 (.bin .lss (tq 121) (tq 120))])
 (.seq (.cond (tq 122)
 .skip
 (.seq (.mask (bl 2097408 138) (bl 346067167158594417342251975758108212326335 138))
 (.exit 4)))
 (.seq (.block 5 (.seq (.reg [oo 123 (.indexAddrS 3 (tq 119) (tq 121)),
   oo 124 (.load true 3 (tq 123) false),
   oo 23 (.alloc true [(.sc (.int .i64 0)),(.sc (.int .i64 0)),(.gs 1 [])]),
   oz (.store 3 (tq 23) (tq 124))])
 (.seq (.reg [oo 126 (.move (tq 21) false),
   oo 127 (.load true 3 (tq 23) false),
   oo 128 (.call 414 [((tq 126),0),((tq 127),1)] []),
   oo 125 (.move (tq 128) true),
   oo 129 (.extract (tq 125) 0),
   oo 130 (.pull (tq 125) 1),
   oo 24 (.move (tq 129) false),
   oo 25 (.move (tq 130) false)])
 (.seq (.seq (.reg [oo 131 (.move (tq 25) false),
   oo 132 (.bin .neq (tq 131) (.const (.sc (.int .i64 0))))])
 (.cond (tq 132)
 (.seq (.reg [oo 6 (.move (.const (.sc (.bool false))) false)])
 (.seq (.mask (bl 64 138) (bl 346067167158594417342251975758108210229247 138))
 .ret))
 .skip))
 (.reg [oo 133 (.move (tq 24) false),
   oo 21 (.move (tq 133) false)])))))
 (.reg [oo 134 (.bin .add (tq 121) (.const (.sc (.int .i64 1)))),
   oo 121 (.move (tq 134) false)]))))
def zG:CC:=(.seq (.reg [oo 135 (.move (tq 21) false),
   oo 136 (.move (tq 8) false),
   oo 137 (.call 130 [((tq 135),0),((tq 136),0)] []),
   oo 6 (.move (tq 137) false)])
 .ret)
def yD:CC:=(.seq (.seq (.reg [oo 64 (.move (tq 16) false),
   oo 65 (.move (tq 10) false),
   oo 66 (.lenS (tq 65)),
   oo 67 (.bin .lss (tq 64) (tq 66)),
   oo 68 (.move (tq 67) false),
   ⟨(some 69),false,(some (68,true)),.move (tq 10) false⟩,
   ⟨(some 70),false,(some (68,true)),.move (tq 16) false⟩,
   ⟨(some 71),false,(some (68,true)),.indexAddrS 1 (tq 69) (tq 70)⟩,
   ⟨(some 72),false,(some (68,true)),.load false 1 (tq 71) false⟩,
   ⟨(some 73),false,(some (68,true)),.move (tq 15) false⟩,
   ⟨(some 74),false,(some (68,true)),.bin .leq (tq 72) (tq 73)⟩,
   oo 75 (.pick (tq 68) (tq 74) (.const (.sc (.bool false))))])
 (.cond (tq 75)
 .skip
 (.seq (.mask (bl 99076 138) (bl 348449143727040986586421811033835801931775 138))
 (.exit 2))))
 (.block 3 (.reg [oo 76 (.move (tq 16) false),
   oo 77 (.bin .add (tq 76) (.const (.sc (.int .i64 1)))),
   oo 16 (.move (tq 77) false)])))
def zN:CC:=(.seq (.reg [oo 79 (.move (tq 8) false),
   oo 80 (.move (tq 15) false),
   oo 81 (.sliceS 1 (tq 79) none (some (tq 80)) none),
   oo 82 (.call 415 [((tq 81),0)] []),
   oo 78 (.move (tq 82) true),
   oo 83 (.extract (tq 78) 0),
   oo 84 (.pull (tq 78) 1),
   oo 17 (.move (tq 83) false),
   oo 18 (.move (tq 84) false)])
 (.seq (.seq (.reg [oo 85 (.move (tq 17) false),
   oo 86 (.move (tq 9) false),
   oo 87 (.move (tq 16) false),
   oo 88 (.sliceS 3 (tq 86) none (some (tq 87)) none),
   oo 89 (.call 654 [((tq 85),0),((tq 88),0)] []),
   oo 90 (.un .not (tq 89))])
 (.cond (tq 90)
 (.seq (.reg [oo 6 (.move (.const (.sc (.bool false))) false)])
 .ret)
 .skip))
 (.seq (.reg [oo 92 (.move (tq 8) false),
   oo 93 (.move (tq 2) false),
   oo 94 (.buildSlice 1 2 [(.sl 1 [])] [(0,1,(tq 92)),(1,1,(tq 93))]),
   oo 95 (.call 453 [((tq 94),0)] []),
   oo 96 (.call 415 [((tq 95),0)] []),
   oo 91 (.move (tq 96) true),
   oo 97 (.extract (tq 91) 0),
   oo 98 (.pull (tq 91) 1),
   oo 19 (.move (tq 97) true),
   oo 20 (.move (tq 98) false)])
 (.seq (.seq (.reg [oo 99 (.move (tq 19) false),
   oo 100 (.lenS (tq 99)),
   oo 101 (.move (tq 9) false),
   oo 102 (.lenS (tq 101)),
   oo 103 (.bin .lss (tq 100) (tq 102)),
   oo 104 (.move (tq 103) false),
   ⟨(some 105),false,(some (104,false)),.move (tq 19) true⟩,
   ⟨(some 106),false,(some (104,false)),.move (tq 9) false⟩,
   ⟨(some 107),false,(some (104,false)),.lenS (tq 106)⟩,
   ⟨(some 108),false,(some (104,false)),.sliceS 3 (tq 105) none (some (tq 107)) none⟩,
   ⟨(some 109),false,(some (104,false)),.move (tq 9) false⟩,
   ⟨(some 110),false,(some (104,false)),.call 654 [((tq 108),0),((tq 109),0)] []⟩,
   ⟨(some 111),false,(some (104,false)),.un .not (tq 110)⟩,
   oo 112 (.pick (tq 104) (.const (.sc (.bool true))) (tq 111))])
 (.cond (tq 112)
 (.seq (.reg [oo 6 (.move (.const (.sc (.bool false))) false)])
 .ret)
 .skip))
 (.seq (.reg [oo 113 (.move (tq 8) false),
   oo 114 (.move (tq 15) false),
   oo 115 (.sliceS 1 (tq 113) none (some (tq 114)) none),
   oo 116 (.call 655 [((tq 115),0)] []),
   oo 21 (.move (tq 116) false)])
 (.seq (.seq (.reg [oo 117 (.move (tq 9) true),
   oo 118 (.move (tq 16) false),
   oo 119 (.sliceS 3 (tq 117) (some (tq 118)) none none),
   oo 120 (.lenS (tq 119)),
   oo 121 (.move (.const (.sc (.int .i64 0))) false)])
 (.block 4 (.loop (bl 4652297985247205555163324710983303424 138) (bl 346067167158594417342251975758108212326335 138)
 zw)))
 zG))))))
def yH:CC:=(.seq (.seq (.reg [oo 35 (.move (tq 11) false),
   oo 36 (.bin .gtr (tq 35) (.const (.sc (.int .i64 0))))])
 (.cond (tq 36)
 .skip
 (.seq (.mask (bl 1798 138) (bl 348449143727040986586495079971928678565823 138))
 (.exit 0))))
 (.seq (.block 1 (.seq (.reg [oo 39 (.move (tq 7) false),
   oo 40 (.call 651 [((tq 39),0)] []),
   oo 12 (.alloc true [(.sc (.int .i64 0)),(.sc (.int .i64 0)),(.gs 1 [])]),
   oz (.store 3 (tq 12) (tq 40))])
 (.seq (.reg [oo 42 (.move (tq 8) false),
   oo 43 (.load true 3 (tq 12) false),
   oo 44 (.call 414 [((tq 42),0),((tq 43),1)] []),
   oo 41 (.move (tq 44) true),
   oo 45 (.extract (tq 41) 0),
   oo 46 (.pull (tq 41) 1),
   oo 13 (.move (tq 45) true),
   oo 14 (.move (tq 46) false)])
 (.seq (.seq (.reg [oo 47 (.move (tq 14) false),
   oo 48 (.bin .neq (tq 47) (.const (.sc (.int .i64 0))))])
 (.cond (tq 48)
 (.seq (.reg [oo 6 (.move (.const (.sc (.bool false))) false)])
 (.seq (.mask (bl 64 138) (bl 348449143727040986586495079971928678564095 138))
 .ret))
 .skip))
 (.reg [oo 49 (.move (tq 13) false),
   oo 50 (.move (tq 9) true),
   oo 51 (.load true 3 (tq 12) false),
   oo 52 (.buildSlice 3 1 [(.sc (.int .i64 0)),(.sc (.int .i64 0)),(.sl 1 [])] [(0,3,(tq 51))]),
   oo 53 (.append 3 40 (tq 50) (tq 52)),
   oo 54 (.move (tq 10) true),
   oo 55 (.move (tq 13) false),
   oo 56 (.lenS (tq 55)),
   oo 57 (.buildSlice 1 1 [(.sc (.int .i64 0))] [(0,1,(tq 56))]),
   oo 58 (.append 1 8 (tq 54) (tq 57)),
   oo 8 (.move (tq 49) true),
   oo 9 (.move (tq 53) true),
   oo 10 (.move (tq 58) true)])))))
 (.reg [oo 37 (.move (tq 11) false),
   oo 38 (.bin .sub (tq 37) (.const (.sc (.int .i64 1)))),
   oo 11 (.move (tq 38) false)])))
def zQ:CC:=(.seq (.reg [oo 59 (.move (tq 1) false),
   oo 60 (.move (tq 8) false),
   oo 61 (.lenS (tq 60)),
   oo 62 (.bin .add (tq 61) (.const (.sc (.int .i64 1)))),
   oo 63 (.call 217 [((tq 59),0),((tq 62),0)] []),
   oo 15 (.move (tq 63) false)])
 (.seq (.reg [oo 16 (.move (.const (.sc (.int .i64 0))) false)])
 (.seq (.block 2 (.loop (bl 100100 138) (bl 348449143727040986586421811033835801931775 138)
 yD))
 zN)))
def yr:CF:=⟨138,[.tmp 6],
 (.seq (.reg [oo 6 (.move (.const (.sc (.bool false))) false)])
 (.seq (.seq (.reg [oo 26 (.call 410 [] []),
   oo 27 (.un .not (tq 26))])
 (.cond (tq 27)
 (.seq (.reg [oo 6 (.move (.const (.sc (.bool false))) false)])
 .ret)
 .skip))
 (.seq (.seq (.reg [oo 28 (.move (tq 2) false),
   oo 29 (.lenS (tq 28)),
   oo 30 (.bin .gtr (tq 29) (.const (.sc (.int .i64 100))))])
 (.cond (tq 30)
 (.seq (.reg [oo 6 (.move (.const (.sc (.bool true))) false)])
 .ret)
 .skip))
 (.seq (.reg [oo 31 (.move (tq 0) false),
   oo 32 (.call 225 [((tq 31),0)] []),
   oo 7 (.move (tq 32) false)])
 (.seq (.reg [oo 8 (.move (.const (.gs 1 [])) true)])
 (.seq (.reg [oo 9 (.move (.const (.gs 3 [])) true)])
 (.seq (.reg [oo 10 (.move (.const (.gs 1 [])) true)])
 (.seq (.seq (.reg [oo 33 (.move (tq 7) false),
   oo 34 (.call 231 [((tq 33),0),((.const (.sc (.int .i64 6))),0)] []),
   oo 11 (.move (tq 34) false)])
 (.block 0 (.loop (bl 3974 138) (bl 348449143727040986586495079971928678567871 138)
 yH)))
 zQ))))))))⟩
def zgv:Hint:=⟨[(6,0),(7,0),(8,0),(12,2),(13,3),(13,4),(13,6),(16,1),(16,5),(16,10),(16,11),(16,12),(21,4),(21,5),(24,5),(24,6),(24,8),(25,6),(28,0),(30,2),(31,3),(31,4)],[],[none,none,none,none,none,some ((bl 3974 138),(bl 348449143727040986586495079971928678567871 138)),none,some ((bl 1798 138),(bl 348449143727040986586495079971928678565823 138)),none,none,some ((bl 64 138),(bl 348449143727040986586495079971928678564095 138)),none,some ((bl 100100 138),(bl 348449143727040986586421811033835801931775 138)),none,some ((bl 99076 138),(bl 348449143727040986586421811033835801931775 138)),none,none,none,none,none,none,some ((bl 4652297985247205555163324710983303424 138),(bl 346067167158594417342251975758108212326335 138)),none,some ((bl 2097408 138),(bl 346067167158594417342251975758108212326335 138)),none,none,some ((bl 64 138),(bl 346067167158594417342251975758108210229247 138)),none],[],[],false,false⟩
def yf:Nat→Sh:=xT [(72,(.int .i64))]
def zf (yc:xi) (zd:zk) (za:ye) (yb:xg) (ya:xe) (yd:xk) (xb:yi) (xc:zm) (zc:zi) (zb:yh) (xa:yg) (L:Nat):CBC:=(zD 130 (zeq xa L) (zD 655 (zfW zb L) (zD 453 (zek zc L) (zD 654 (zjH xc L) (zD 415 (zfs xb L) (zD 217 (zhe yd L) (zD 414 (zc8 ya L) (zD 651 (zeE yb L) (zD 231 (zcl za L) (zD 225 (zhv zd L) (zD 410 (zg6 yc L) noC)))))))))))
def xN:St→St:=xY 0 (bl 3974 138) (bl 348449143727040986586495079971928678567871 138)
def xG:St→St:=xY 0 (bl 100100 138) (bl 348449143727040986586421811033835801931775 138)
def zB:St→St:=xY 0 (bl 4652297985247205555163324710983303424 138) (bl 346067167158594417342251975758108212326335 138)
def zbV (p1:Int) (p2 p8 p9 p10:List (List V)) (p11:Int) (zEH:List (List V)) (zEI:Int):St:=⟨(jn 1 ((V.sc (.int .i64 p1))::((V.sl 1 p2)::(jn 4 ((V.ptr 32 0)::((V.gs 1 p8)::((V.gs 3 p9)::((V.gs 1 p10)::((V.sc (.int .i64 p11))::(jn 126 [])))))))))),(gn 32 ((.live false [(V.sl 1 zEH),(V.sc (.int .i64 zEI))])::(gn 105 [])))⟩
def xE (p6:Bool) (zEH:List (List V)) (zEI:Int):St:=⟨(jn 6 ((V.sc (.bool p6))::(jn 131 []))),(gn 32 ((.live false [(V.sl 1 zEH),(V.sc (.int .i64 zEI))])::(gn 105 [])))⟩
def zat (p1:Int) (p2 p8 p9 p10:List (List V)) (p11:Int) (zEH:List (List V)) (zEI:Int):St:=⟨(jn 1 ((V.sc (.int .i64 p1))::((V.sl 1 p2)::(jn 4 ((V.ptr 32 0)::((V.sl 1 p8)::((V.gs 3 p9)::((V.gs 1 p10)::((V.sc (.int .i64 p11))::(jn 126 [])))))))))),(gn 32 ((.live false [(V.sl 1 zEH),(V.sc (.int .i64 zEI))])::(gn 105 [])))⟩
def zci (p1:Int) (p2 p8 p9 p10 zEH:List (List V)) (zEI:Int):St:=⟨(jn 1 ((V.sc (.int .i64 p1))::((V.sl 1 p2)::(jn 5 ((V.gs 1 p8)::((V.gs 3 p9)::((V.gs 1 p10)::(jn 127 [])))))))),(gn 32 ((.live false [(V.sl 1 zEH),(V.sc (.int .i64 zEI))])::(gn 105 [])))⟩
def zau (p2 p8 p9 p10:List (List V)) (p15 p16:Int) (zEH:List (List V)) (zEI:Int):St:=⟨(jn 2 ((V.sl 1 p2)::(jn 5 ((V.gs 1 p8)::((V.gs 3 p9)::((V.gs 1 p10)::(jn 4 ((V.sc (.int .i64 p15))::((V.sc (.int .i64 p16))::(jn 121 [])))))))))),(gn 32 ((.live false [(V.sl 1 zEH),(V.sc (.int .i64 zEI))])::(gn 105 [])))⟩
def zaS (p1:Int) (p2 p8 p9 p10 zEH:List (List V)) (zEI:Int):St:=⟨(jn 1 ((V.sc (.int .i64 p1))::((V.sl 1 p2)::(jn 5 ((V.sl 1 p8)::((V.gs 3 p9)::((V.gs 1 p10)::(jn 127 [])))))))),(gn 32 ((.live false [(V.sl 1 zEH),(V.sc (.int .i64 zEI))])::(gn 105 [])))⟩
def zcg (p2 p8 p9:List (List V)) (p15 p16:Int) (zEH:List (List V)) (zEI:Int):St:=⟨(jn 2 ((V.sl 1 p2)::(jn 5 ((V.gs 1 p8)::((V.gs 3 p9)::(jn 5 ((V.sc (.int .i64 p15))::((V.sc (.int .i64 p16))::(jn 121 []))))))))),(gn 32 ((.live false [(V.sl 1 zEH),(V.sc (.int .i64 zEI))])::(gn 105 [])))⟩
def zaj (p2 p8 p9 p10:List (List V)) (p15 p16:Int) (zEH:List (List V)) (zEI:Int):St:=⟨(jn 2 ((V.sl 1 p2)::(jn 5 ((V.sl 1 p8)::((V.gs 3 p9)::((V.gs 1 p10)::(jn 4 ((V.sc (.int .i64 p15))::((V.sc (.int .i64 p16))::(jn 121 [])))))))))),(gn 32 ((.live false [(V.sl 1 zEH),(V.sc (.int .i64 zEI))])::(gn 105 [])))⟩
def yW (p8 p21 zE0:List (List V)) (zE1 zEZ:Int) (zEH:List (List V)) (zEI:Int):St:=⟨(jn 8 ((V.gs 1 p8)::(jn 12 ((V.sl 1 p21)::(jn 97 ((V.sl 3 zE0)::((V.sc (.int .i64 zE1))::((V.sc (.int .i64 zEZ))::(jn 16 []))))))))),(gn 32 ((.live false [(V.sl 1 zEH),(V.sc (.int .i64 zEI))])::(gn 105 [])))⟩
def zbT (p2 p8 p9:List (List V)) (p15 p16:Int) (zEH:List (List V)) (zEI:Int):St:=⟨(jn 2 ((V.sl 1 p2)::(jn 5 ((V.sl 1 p8)::((V.gs 3 p9)::(jn 5 ((V.sc (.int .i64 p15))::((V.sc (.int .i64 p16))::(jn 121 []))))))))),(gn 32 ((.live false [(V.sl 1 zEH),(V.sc (.int .i64 zEI))])::(gn 105 [])))⟩
def zdI (p8 p21 zEH:List (List V)) (zEI:Int):St:=⟨(jn 8 ((V.gs 1 p8)::(jn 12 ((V.sl 1 p21)::(jn 116 []))))),(gn 32 ((.live false [(V.sl 1 zEH),(V.sc (.int .i64 zEI))])::(gn 105 [])))⟩
def yS (p8 p21 zE0:List (List V)) (zE1 zEZ:Int) (zEH:List (List V)) (zEI:Int):St:=⟨(jn 8 ((V.sl 1 p8)::(jn 12 ((V.sl 1 p21)::(jn 97 ((V.sl 3 zE0)::((V.sc (.int .i64 zE1))::((V.sc (.int .i64 zEZ))::(jn 16 []))))))))),(gn 32 ((.live false [(V.sl 1 zEH),(V.sc (.int .i64 zEI))])::(gn 105 [])))⟩
def zc6 (p8 p21 zEH:List (List V)) (zEI:Int):St:=⟨(jn 8 ((V.sl 1 p8)::(jn 12 ((V.sl 1 p21)::(jn 116 []))))),(gn 32 ((.live false [(V.sl 1 zEH),(V.sc (.int .i64 zEI))])::(gn 105 [])))⟩
abbrev zic (β:Type):Type:=Int→List (List V)→List (List V)→List (List V)→List (List V)→Int→List (List V)→Int→Option β
abbrev zdE (β:Type):Type:=Int→List (List V)→List (List V)→List (List V)→List (List V)→Int→List (List V)→Int→Option β
abbrev zei (β:Type):Type:=Int→List (List V)→List (List V)→List (List V)→List (List V)→List (List V)→Int→Option β
abbrev zdx (β:Type):Type:=List (List V)→List (List V)→List (List V)→List (List V)→Int→Int→List (List V)→Int→Option β
abbrev zbf (β:Type):Type:=Int→List (List V)→List (List V)→List (List V)→List (List V)→List (List V)→Int→Option β
abbrev zeh (β:Type):Type:=List (List V)→List (List V)→List (List V)→Int→Int→List (List V)→Int→Option β
abbrev zdb (β:Type):Type:=List (List V)→List (List V)→List (List V)→List (List V)→Int→Int→List (List V)→Int→Option β
abbrev zco (β:Type):Type:=List (List V)→List (List V)→List (List V)→Int→Int→List (List V)→Int→Option β
abbrev zdQ (β:Type):Type:=List (List V)→List (List V)→List (List V)→Int→Int→List (List V)→Int→Option β
abbrev zem (β:Type):Type:=List (List V)→List (List V)→List (List V)→Int→Option β
abbrev zcb (β:Type):Type:=List (List V)→List (List V)→List (List V)→Int→Int→List (List V)→Int→Option β
abbrev zdH (β:Type):Type:=List (List V)→List (List V)→List (List V)→Int→Option β
def ze4 {β:Type} (yc:xi) (zd:zk) (za:ye) (yb:xg) (ya:xe) (yd:xk) (xb:yi) (xc:zm) (zc:zi) (zb:yh) (xa:yg) (L:Nat) (p0:List (List V)) (p1:Int) (p2:List (List V)) (k_fin:Bool→Option β) (k_hbbbbbbbaba:zic β):Option β :=
 yc β L  (fun v0 =>
 ifb (!v0) (
 k_fin false) (
 ifb (decide (((List.length p2:Nat):Int) > (100:Int))) (
 k_fin true) (
 zd β L p0 (fun v1 v2 =>
 za β L (6:Int) v1 v2 (fun v3 v4 v5 =>
 k_hbbbbbbbaba p1 p2 ([]:List (List V)) ([]:List (List V)) ([]:List (List V)) v3 v4 v5)))))
theorem zlM {β:Type} (yc:xi) (zd:zk) (za:ye) (yb:xg) (ya:xe) (yd:xk) (xb:yi) (xc:zm) (zc:zi) (zb:yh) (xa:yg) (L:Nat) (p0:List (List V)) (p1:Int) (p2:List (List V)) (k:KK β):xB yf (zf yc zd za yb ya yd xb xc zc zb xa L) L yr [(V.sl 1 p0),(V.sc (.int .i64 p1)),(V.sl 1 p2)] [] k=ze4 yc zd za yb ya yd xb xc zc zb xa L p0 p1 p2 (fun p0=>k (V.sc (.bool p0)) []) (fun p1 p2 p8 p9 p10 p11 zEH zEI=>xA (yn yf (zf yc zd za yb ya yd xb xc zc zb xa L) 0 L yH) xN L (zbV p1 p2 p8 p9 p10 p11 zEH zEI) (yA 0 (yQ (yn yf (zf yc zd za yb ya yd xb xc zc zb xa L) 0 L zQ) (xS 0 (CF.res yr) k)))):=by kernel_rfl
def za7 {β:Type} (yc:xi) (zd:zk) (za:ye) (yb:xg) (ya:xe) (yd:xk) (xb:yi) (xc:zm) (zc:zi) (zb:yh) (xa:yg) (L:Nat) (p1:Int) (p2 p8 p9 p10:List (List V)) (p11:Int) (zEH:List (List V)) (zEI:Int) (k_ret:Bool→List (List V)→Int→Option β) (k_hbbbbbbbabav1:zdE β) (k_x0:zei β):Option β :=
 ifb (decide (p11 > (0:Int))) (
 yb β L zEH zEI (fun v6 v7 v8 =>
 chk ((List.length v6)=3∧0+3≤3) (
 lt (xn [(V.sc (.int .i64 (0:Int))),(V.sc (.int .i64 (0:Int))),(V.gs 1 ([]:List (List V)))] 0 v6) fun r9 =>
 chk (0+3≤(List.length r9)) (
 ya β L p8 (List.map V.dem (List.take 3 r9)) (fun v10 v11 =>
 ifb ((v11:Int) != (0:Int)) (
 k_ret false v7 v8) (
 chk (0+3≤(List.length r9)) (
 chk ((List.length (List.take 3 r9))=3∧0+3≤3) (
 chk ((List.length p9+List.length (xh 3 1 (xn [(V.sc (.int .i64 (0:Int))),(V.sc (.int .i64 (0:Int))),(V.sl 1 ([]:List (List V)))] 0 (List.take 3 r9)))) * 40≤yj∧List.length p9+List.length (xh 3 1 (xn [(V.sc (.int .i64 (0:Int))),(V.sc (.int .i64 (0:Int))),(V.sl 1 ([]:List (List V)))] 0 (List.take 3 r9)))≤yj) (
 lt (p9++(xh 3 1 (xn [(V.sc (.int .i64 (0:Int))),(V.sc (.int .i64 (0:Int))),(V.sl 1 ([]:List (List V)))] 0 (List.take 3 r9)))) fun l12 =>
 chk ((List.length p10+List.length (xh 1 1 [(V.sc (.int .i64 ((List.length v10:Nat):Int)))])) * 8≤yj∧List.length p10+List.length (xh 1 1 [(V.sc (.int .i64 ((List.length v10:Nat):Int)))])≤yj) (
 lt (p10++(xh 1 1 [(V.sc (.int .i64 ((List.length v10:Nat):Int)))])) fun l13 =>
 lt (IntKind.wrap .i64 ((p11:Int) - (1:Int))) fun x14 =>
 k_hbbbbbbbabav1 p1 p2 v10 l12 l13 x14 v7 v8)))))))))) (
 k_x0 p1 p2 p8 p9 p10 zEH zEI)
theorem zhw {β:Type} (yc:xi) (zd:zk) (za:ye) (yb:xg) (ya:xe) (yd:xk) (xb:yi) (xc:zm) (zc:zi) (zb:yh) (xa:yg) (L:Nat) (p1:Int) (p2 p8 p9 p10:List (List V)) (p11:Int) (zEH:List (List V)) (zEI:Int) (X:St→Option β) (K:KT β):yn yf (zf yc zd za yb ya yd xb xc zc zb xa L) 0 L yH (zbV p1 p2 p8 p9 p10 p11 zEH zEI) (zbF xN X K)=za7 yc zd za yb ya yd xb xc zc zb xa L p1 p2 p8 p9 p10 p11 zEH zEI (fun p6 zEH zEI=>K .ret (xE p6 zEH zEI)) (fun p1 p2 p8 p9 p10 p11 zEH zEI=>X (zat p1 p2 p8 p9 p10 p11 zEH zEI)) (fun p1 p2 p8 p9 p10 zEH zEI=>K (.exit 0) (zci p1 p2 p8 p9 p10 zEH zEI)):=by kernel_rfl
def zdv {β:Type} (yc:xi) (zd:zk) (za:ye) (yb:xg) (ya:xe) (yd:xk) (xb:yi) (xc:zm) (zc:zi) (zb:yh) (xa:yg) (L:Nat) (p6:Bool) (zEH:List (List V)) (zEI:Int) (k_fin:Bool→Option β):Option β :=
 k_fin p6
theorem zgn {β:Type} (yc:xi) (zd:zk) (za:ye) (yb:xg) (ya:xe) (yd:xk) (xb:yi) (xc:zm) (zc:zi) (zb:yh) (xa:yg) (L:Nat) (p6:Bool) (zEH:List (List V)) (zEI:Int) (k:KK β):(yA 0 (yQ (yn yf (zf yc zd za yb ya yd xb xc zc zb xa L) 0 L zQ) (xS 0 (CF.res yr) k))) .ret (xE p6 zEH zEI)=zdv yc zd za yb ya yd xb xc zc zb xa L p6 zEH zEI (fun p0=>k (V.sc (.bool p0)) []):=by kernel_rfl
def zbZ {β:Type} (yc:xi) (zd:zk) (za:ye) (yb:xg) (ya:xe) (yd:xk) (xb:yi) (xc:zm) (zc:zi) (zb:yh) (xa:yg) (L:Nat) (p1:Int) (p2 p8 p9 p10 zEH:List (List V)) (zEI:Int) (k_hbbbbbbbbbbaa:zdx β):Option β :=
 lt (IntKind.wrap .i64 ((((List.length p8:Nat):Int):Int)+(1:Int))) fun x15 =>
 yd β L p1 x15 (fun v16 =>
 k_hbbbbbbbbbbaa p2 p8 p9 p10 v16 (0:Int) zEH zEI)
theorem zgH {β:Type} (yc:xi) (zd:zk) (za:ye) (yb:xg) (ya:xe) (yd:xk) (xb:yi) (xc:zm) (zc:zi) (zb:yh) (xa:yg) (L:Nat) (p1:Int) (p2 p8 p9 p10 zEH:List (List V)) (zEI:Int) (k:KK β):(yA 0 (yQ (yn yf (zf yc zd za yb ya yd xb xc zc zb xa L) 0 L zQ) (xS 0 (CF.res yr) k))) (.exit 0) (zci p1 p2 p8 p9 p10 zEH zEI)=zbZ yc zd za yb ya yd xb xc zc zb xa L p1 p2 p8 p9 p10 zEH zEI (fun p2 p8 p9 p10 p15 p16 zEH zEI=>xA (yn yf (zf yc zd za yb ya yd xb xc zc zb xa L) 0 L yD) xG L (zau p2 p8 p9 p10 p15 p16 zEH zEI) (yA 2 (yQ (yn yf (zf yc zd za yb ya yd xb xc zc zb xa L) 0 L zN) (xS 0 (CF.res yr) k)))):=by kernel_rfl
def zaK {β:Type} (yc:xi) (zd:zk) (za:ye) (yb:xg) (ya:xe) (yd:xk) (xb:yi) (xc:zm) (zc:zi) (zb:yh) (xa:yg) (L:Nat) (p1:Int) (p2 p8 p9 p10:List (List V)) (p11:Int) (zEH:List (List V)) (zEI:Int) (k_ret:Bool→List (List V)→Int→Option β) (k_hbbbbbbbabav1:zdE β) (k_x0v1:zbf β):Option β :=
 ifb (decide (p11 > (0:Int))) (
 yb β L zEH zEI (fun v17 v18 v19 =>
 chk ((List.length v17)=3∧0+3≤3) (
 lt (xn [(V.sc (.int .i64 (0:Int))),(V.sc (.int .i64 (0:Int))),(V.gs 1 ([]:List (List V)))] 0 v17) fun r20 =>
 chk (0+3≤(List.length r20)) (
 ya β L p8 (List.map V.dem (List.take 3 r20)) (fun v21 v22 =>
 ifb ((v22:Int) != (0:Int)) (
 k_ret false v18 v19) (
 chk (0+3≤(List.length r20)) (
 chk ((List.length (List.take 3 r20))=3∧0+3≤3) (
 chk ((List.length p9+List.length (xh 3 1 (xn [(V.sc (.int .i64 (0:Int))),(V.sc (.int .i64 (0:Int))),(V.sl 1 ([]:List (List V)))] 0 (List.take 3 r20)))) * 40≤yj∧List.length p9+List.length (xh 3 1 (xn [(V.sc (.int .i64 (0:Int))),(V.sc (.int .i64 (0:Int))),(V.sl 1 ([]:List (List V)))] 0 (List.take 3 r20)))≤yj) (
 lt (p9++(xh 3 1 (xn [(V.sc (.int .i64 (0:Int))),(V.sc (.int .i64 (0:Int))),(V.sl 1 ([]:List (List V)))] 0 (List.take 3 r20)))) fun l23 =>
 chk ((List.length p10+List.length (xh 1 1 [(V.sc (.int .i64 ((List.length v21:Nat):Int)))])) * 8≤yj∧List.length p10+List.length (xh 1 1 [(V.sc (.int .i64 ((List.length v21:Nat):Int)))])≤yj) (
 lt (p10++(xh 1 1 [(V.sc (.int .i64 ((List.length v21:Nat):Int)))])) fun l24 =>
 lt (IntKind.wrap .i64 ((p11:Int) - (1:Int))) fun x25 =>
 k_hbbbbbbbabav1 p1 p2 v21 l23 l24 x25 v18 v19)))))))))) (
 k_x0v1 p1 p2 p8 p9 p10 zEH zEI)
theorem zgJ {β:Type} (yc:xi) (zd:zk) (za:ye) (yb:xg) (ya:xe) (yd:xk) (xb:yi) (xc:zm) (zc:zi) (zb:yh) (xa:yg) (L:Nat) (p1:Int) (p2 p8 p9 p10:List (List V)) (p11:Int) (zEH:List (List V)) (zEI:Int) (X:St→Option β) (K:KT β):yn yf (zf yc zd za yb ya yd xb xc zc zb xa L) 0 L yH (zat p1 p2 p8 p9 p10 p11 zEH zEI) (zbF xN X K)=zaK yc zd za yb ya yd xb xc zc zb xa L p1 p2 p8 p9 p10 p11 zEH zEI (fun p6 zEH zEI=>K .ret (xE p6 zEH zEI)) (fun p1 p2 p8 p9 p10 p11 zEH zEI=>X (zat p1 p2 p8 p9 p10 p11 zEH zEI)) (fun p1 p2 p8 p9 p10 zEH zEI=>K (.exit 0) (zaS p1 p2 p8 p9 p10 zEH zEI)):=by kernel_rfl
def y9 {β:Type} (yc:xi) (zd:zk) (za:ye) (yb:xg) (ya:xe) (yd:xk) (xb:yi) (xc:zm) (zc:zi) (zb:yh) (xa:yg) (L:Nat) (p2 p8 p9 p10:List (List V)) (p15 p16:Int) (zEH:List (List V)) (zEI:Int) (k_hbbbbbbbbbbaa:zdx β) (k_x2:zeh β):Option β :=
 ifb (decide (p16 < ((List.length p10:Nat):Int))) (
 idx p10 p16 fun c26 =>
 cI .i64 c26 0 fun v27 =>
 ifb (decide (v27≤p15)) (
 lt (IntKind.wrap .i64 ((p16:Int)+(1:Int))) fun x28 =>
 k_hbbbbbbbbbbaa p2 p8 p9 p10 p15 x28 zEH zEI) (
 k_x2 p2 p8 p9 p15 p16 zEH zEI)) (
 k_x2 p2 p8 p9 p15 p16 zEH zEI)
theorem zgI {β:Type} (yc:xi) (zd:zk) (za:ye) (yb:xg) (ya:xe) (yd:xk) (xb:yi) (xc:zm) (zc:zi) (zb:yh) (xa:yg) (L:Nat) (p2 p8 p9 p10:List (List V)) (p15 p16:Int) (zEH:List (List V)) (zEI:Int) (X:St→Option β) (K:KT β):yn yf (zf yc zd za yb ya yd xb xc zc zb xa L) 0 L yD (zau p2 p8 p9 p10 p15 p16 zEH zEI) (zbF xG X K)=y9 yc zd za yb ya yd xb xc zc zb xa L p2 p8 p9 p10 p15 p16 zEH zEI (fun p2 p8 p9 p10 p15 p16 zEH zEI=>X (zau p2 p8 p9 p10 p15 p16 zEH zEI)) (fun p2 p8 p9 p15 p16 zEH zEI=>K (.exit 2) (zcg p2 p8 p9 p15 p16 zEH zEI)):=by kernel_rfl
def zgK {β:Type} (yc:xi) (zd:zk) (za:ye) (yb:xg) (ya:xe) (yd:xk) (xb:yi) (xc:zm) (zc:zi) (zb:yh) (xa:yg) (L:Nat) (p6:Bool) (zEH:List (List V)) (zEI:Int) (k_fin:Bool→Option β):Option β :=
 k_fin p6
def zbr {β:Type} (yc:xi) (zd:zk) (za:ye) (yb:xg) (ya:xe) (yd:xk) (xb:yi) (xc:zm) (zc:zi) (zb:yh) (xa:yg) (L:Nat) (p1:Int) (p2 p8 p9 p10 zEH:List (List V)) (zEI:Int) (k_hbbbbbbbbbbaav1:zdb β):Option β :=
 lt (IntKind.wrap .i64 ((((List.length p8:Nat):Int):Int)+(1:Int))) fun x29 =>
 yd β L p1 x29 (fun v30 =>
 k_hbbbbbbbbbbaav1 p2 p8 p9 p10 v30 (0:Int) zEH zEI)
theorem zfC {β:Type} (yc:xi) (zd:zk) (za:ye) (yb:xg) (ya:xe) (yd:xk) (xb:yi) (xc:zm) (zc:zi) (zb:yh) (xa:yg) (L:Nat) (p1:Int) (p2 p8 p9 p10 zEH:List (List V)) (zEI:Int) (k:KK β):(yA 0 (yQ (yn yf (zf yc zd za yb ya yd xb xc zc zb xa L) 0 L zQ) (xS 0 (CF.res yr) k))) (.exit 0) (zaS p1 p2 p8 p9 p10 zEH zEI)=zbr yc zd za yb ya yd xb xc zc zb xa L p1 p2 p8 p9 p10 zEH zEI (fun p2 p8 p9 p10 p15 p16 zEH zEI=>xA (yn yf (zf yc zd za yb ya yd xb xc zc zb xa L) 0 L yD) xG L (zaj p2 p8 p9 p10 p15 p16 zEH zEI) (yA 2 (yQ (yn yf (zf yc zd za yb ya yd xb xc zc zb xa L) 0 L zN) (xS 0 (CF.res yr) k)))):=by kernel_rfl
def zbH {β:Type} (yc:xi) (zd:zk) (za:ye) (yb:xg) (ya:xe) (yd:xk) (xb:yi) (xc:zm) (zc:zi) (zb:yh) (xa:yg) (L:Nat) (p2 p8 p9:List (List V)) (p15 p16:Int) (zEH:List (List V)) (zEI:Int) (k_fin:Bool→Option β) (k_hbbbbbbbbbbbbbbbbaba:zco β):Option β :=
 chk (0≤p15∧p15≤(((List.length p8):Nat):Int)) (
 xb β L (List.take ((Int.toNat p15) - 0) (List.drop 0 p8)) (fun v31 v32 =>
 chk (0≤p16∧p16≤(((List.length p9):Nat):Int)) (
 xc β L v31 (List.take ((Int.toNat p16) - 0) (List.drop 0 p9)) (fun v33 =>
 ifb (!v33) (
 k_fin false) (
 zc β L (xh 1 2 [(V.sl 1 p8),(V.sl 1 p2)]) (fun v34 =>
 xb β L v34 (fun v35 v36 =>
 ifb (decide (((List.length v35:Nat):Int) < ((List.length p9:Nat):Int))) (
 k_fin false) (
 chk (0≤((List.length p9:Nat):Int)∧((List.length p9:Nat):Int)≤(((List.length v35):Nat):Int)) (
 xc β L (List.take ((Int.toNat ((List.length p9:Nat):Int)) - 0) (List.drop 0 v35)) p9 (fun v37 =>
 ifb (!v37) (
 k_fin false) (
 chk (0≤p15∧p15≤(((List.length p8):Nat):Int)) (
 zb β L (List.take ((Int.toNat p15) - 0) (List.drop 0 p8)) (fun v38 =>
 chk (0≤p16∧p16≤(((List.length p9):Nat):Int)) (
 k_hbbbbbbbbbbbbbbbbaba p8 v38 (List.take ((List.length p9) - (Int.toNat p16)) (List.drop (Int.toNat p16) p9)) ((List.length (List.take ((List.length p9) - (Int.toNat p16)) (List.drop (Int.toNat p16) p9)):Nat):Int) (0:Int) zEH zEI))))))))))))))
theorem zf7 {β:Type} (yc:xi) (zd:zk) (za:ye) (yb:xg) (ya:xe) (yd:xk) (xb:yi) (xc:zm) (zc:zi) (zb:yh) (xa:yg) (L:Nat) (p2 p8 p9:List (List V)) (p15 p16:Int) (zEH:List (List V)) (zEI:Int) (k:KK β):(yA 2 (yQ (yn yf (zf yc zd za yb ya yd xb xc zc zb xa L) 0 L zN) (xS 0 (CF.res yr) k))) (.exit 2) (zcg p2 p8 p9 p15 p16 zEH zEI)=zbH yc zd za yb ya yd xb xc zc zb xa L p2 p8 p9 p15 p16 zEH zEI (fun p0=>k (V.sc (.bool p0)) []) (fun p8 p21 zE0 zE1 zEZ zEH zEI=>xA (yn yf (zf yc zd za yb ya yd xb xc zc zb xa L) 0 L zw) zB L (yW p8 p21 zE0 zE1 zEZ zEH zEI) (yA 4 (yQ (yn yf (zf yc zd za yb ya yd xb xc zc zb xa L) 0 L zG) (xS 0 (CF.res yr) k)))):=by kernel_rfl
def yX {β:Type} (yc:xi) (zd:zk) (za:ye) (yb:xg) (ya:xe) (yd:xk) (xb:yi) (xc:zm) (zc:zi) (zb:yh) (xa:yg) (L:Nat) (p2 p8 p9 p10:List (List V)) (p15 p16:Int) (zEH:List (List V)) (zEI:Int) (k_hbbbbbbbbbbaav1:zdb β) (k_x2v1:zdQ β):Option β :=
 ifb (decide (p16 < ((List.length p10:Nat):Int))) (
 idx p10 p16 fun c39 =>
 cI .i64 c39 0 fun v40 =>
 ifb (decide (v40≤p15)) (
 lt (IntKind.wrap .i64 ((p16:Int)+(1:Int))) fun x41 =>
 k_hbbbbbbbbbbaav1 p2 p8 p9 p10 p15 x41 zEH zEI) (
 k_x2v1 p2 p8 p9 p15 p16 zEH zEI)) (
 k_x2v1 p2 p8 p9 p15 p16 zEH zEI)
theorem zgb {β:Type} (yc:xi) (zd:zk) (za:ye) (yb:xg) (ya:xe) (yd:xk) (xb:yi) (xc:zm) (zc:zi) (zb:yh) (xa:yg) (L:Nat) (p2 p8 p9 p10:List (List V)) (p15 p16:Int) (zEH:List (List V)) (zEI:Int) (X:St→Option β) (K:KT β):yn yf (zf yc zd za yb ya yd xb xc zc zb xa L) 0 L yD (zaj p2 p8 p9 p10 p15 p16 zEH zEI) (zbF xG X K)=yX yc zd za yb ya yd xb xc zc zb xa L p2 p8 p9 p10 p15 p16 zEH zEI (fun p2 p8 p9 p10 p15 p16 zEH zEI=>X (zaj p2 p8 p9 p10 p15 p16 zEH zEI)) (fun p2 p8 p9 p15 p16 zEH zEI=>K (.exit 2) (zbT p2 p8 p9 p15 p16 zEH zEI)):=by kernel_rfl
def za5 {β:Type} (yc:xi) (zd:zk) (za:ye) (yb:xg) (ya:xe) (yd:xk) (xb:yi) (xc:zm) (zc:zi) (zb:yh) (xa:yg) (L:Nat) (p8 p21 zE0:List (List V)) (zE1 zEZ:Int) (zEH:List (List V)) (zEI:Int) (k_ret:Bool→List (List V)→Int→Option β) (k_hbbbbbbbbbbbbbbbbaba:zco β) (k_x4:zem β):Option β :=
 ifb (decide (zEZ < zE1)) (
 idx zE0 zEZ fun c42 =>
 chk ((List.length (List.take 3 c42))=3∧0+3≤3) (
 lt (xn [(V.sc (.int .i64 (0:Int))),(V.sc (.int .i64 (0:Int))),(V.gs 1 ([]:List (List V)))] 0 (List.take 3 c42)) fun r43 =>
 chk (0+3≤(List.length r43)) (
 ya β L p21 (List.map V.dem (List.take 3 r43)) (fun v44 v45 =>
 ifb ((v45:Int) != (0:Int)) (
 k_ret false zEH zEI) (
 lt (IntKind.wrap .i64 ((zEZ:Int)+(1:Int))) fun x46 =>
 k_hbbbbbbbbbbbbbbbbaba p8 v44 zE0 zE1 x46 zEH zEI))))) (
 k_x4 p8 p21 zEH zEI)
theorem ze1 {β:Type} (yc:xi) (zd:zk) (za:ye) (yb:xg) (ya:xe) (yd:xk) (xb:yi) (xc:zm) (zc:zi) (zb:yh) (xa:yg) (L:Nat) (p8 p21 zE0:List (List V)) (zE1 zEZ:Int) (zEH:List (List V)) (zEI:Int) (X:St→Option β) (K:KT β):yn yf (zf yc zd za yb ya yd xb xc zc zb xa L) 0 L zw (yW p8 p21 zE0 zE1 zEZ zEH zEI) (zbF zB X K)=za5 yc zd za yb ya yd xb xc zc zb xa L p8 p21 zE0 zE1 zEZ zEH zEI (fun p6 zEH zEI=>K .ret (xE p6 zEH zEI)) (fun p8 p21 zE0 zE1 zEZ zEH zEI=>X (yW p8 p21 zE0 zE1 zEZ zEH zEI)) (fun p8 p21 zEH zEI=>K (.exit 4) (zdI p8 p21 zEH zEI)):=by kernel_rfl
def zbc {β:Type} (yc:xi) (zd:zk) (za:ye) (yb:xg) (ya:xe) (yd:xk) (xb:yi) (xc:zm) (zc:zi) (zb:yh) (xa:yg) (L:Nat) (p2 p8 p9:List (List V)) (p15 p16:Int) (zEH:List (List V)) (zEI:Int) (k_fin:Bool→Option β) (k_hbbbbbbbbbbbbbbbbabav1:zcb β):Option β :=
 chk (0≤p15∧p15≤(((List.length p8):Nat):Int)) (
 xb β L (List.take ((Int.toNat p15) - 0) (List.drop 0 p8)) (fun v47 v48 =>
 chk (0≤p16∧p16≤(((List.length p9):Nat):Int)) (
 xc β L v47 (List.take ((Int.toNat p16) - 0) (List.drop 0 p9)) (fun v49 =>
 ifb (!v49) (
 k_fin false) (
 zc β L (xh 1 2 [(V.sl 1 p8),(V.sl 1 p2)]) (fun v50 =>
 xb β L v50 (fun v51 v52 =>
 ifb (decide (((List.length v51:Nat):Int) < ((List.length p9:Nat):Int))) (
 k_fin false) (
 chk (0≤((List.length p9:Nat):Int)∧((List.length p9:Nat):Int)≤(((List.length v51):Nat):Int)) (
 xc β L (List.take ((Int.toNat ((List.length p9:Nat):Int)) - 0) (List.drop 0 v51)) p9 (fun v53 =>
 ifb (!v53) (
 k_fin false) (
 chk (0≤p15∧p15≤(((List.length p8):Nat):Int)) (
 zb β L (List.take ((Int.toNat p15) - 0) (List.drop 0 p8)) (fun v54 =>
 chk (0≤p16∧p16≤(((List.length p9):Nat):Int)) (
 k_hbbbbbbbbbbbbbbbbabav1 p8 v54 (List.take ((List.length p9) - (Int.toNat p16)) (List.drop (Int.toNat p16) p9)) ((List.length (List.take ((List.length p9) - (Int.toNat p16)) (List.drop (Int.toNat p16) p9)):Nat):Int) (0:Int) zEH zEI))))))))))))))
theorem zfb {β:Type} (yc:xi) (zd:zk) (za:ye) (yb:xg) (ya:xe) (yd:xk) (xb:yi) (xc:zm) (zc:zi) (zb:yh) (xa:yg) (L:Nat) (p2 p8 p9:List (List V)) (p15 p16:Int) (zEH:List (List V)) (zEI:Int) (k:KK β):(yA 2 (yQ (yn yf (zf yc zd za yb ya yd xb xc zc zb xa L) 0 L zN) (xS 0 (CF.res yr) k))) (.exit 2) (zbT p2 p8 p9 p15 p16 zEH zEI)=zbc yc zd za yb ya yd xb xc zc zb xa L p2 p8 p9 p15 p16 zEH zEI (fun p0=>k (V.sc (.bool p0)) []) (fun p8 p21 zE0 zE1 zEZ zEH zEI=>xA (yn yf (zf yc zd za yb ya yd xb xc zc zb xa L) 0 L zw) zB L (yS p8 p21 zE0 zE1 zEZ zEH zEI) (yA 4 (yQ (yn yf (zf yc zd za yb ya yd xb xc zc zb xa L) 0 L zG) (xS 0 (CF.res yr) k)))):=by kernel_rfl
def zaH {β:Type} (yc:xi) (zd:zk) (za:ye) (yb:xg) (ya:xe) (yd:xk) (xb:yi) (xc:zm) (zc:zi) (zb:yh) (xa:yg) (L:Nat) (p6:Bool) (zEH:List (List V)) (zEI:Int) (k_fin:Bool→Option β):Option β :=
 k_fin p6
theorem zex {β:Type} (yc:xi) (zd:zk) (za:ye) (yb:xg) (ya:xe) (yd:xk) (xb:yi) (xc:zm) (zc:zi) (zb:yh) (xa:yg) (L:Nat) (p6:Bool) (zEH:List (List V)) (zEI:Int) (k:KK β):(yA 4 (yQ (yn yf (zf yc zd za yb ya yd xb xc zc zb xa L) 0 L zG) (xS 0 (CF.res yr) k))) .ret (xE p6 zEH zEI)=zaH yc zd za yb ya yd xb xc zc zb xa L p6 zEH zEI (fun p0=>k (V.sc (.bool p0)) []):=by kernel_rfl
def yY {β:Type} (yc:xi) (zd:zk) (za:ye) (yb:xg) (ya:xe) (yd:xk) (xb:yi) (xc:zm) (zc:zi) (zb:yh) (xa:yg) (L:Nat) (p8 p21 zEH:List (List V)) (zEI:Int) (k_fin:Bool→Option β):Option β :=
 xa β L p21 p8 (fun v55 =>
 k_fin v55)
theorem zeD {β:Type} (yc:xi) (zd:zk) (za:ye) (yb:xg) (ya:xe) (yd:xk) (xb:yi) (xc:zm) (zc:zi) (zb:yh) (xa:yg) (L:Nat) (p8 p21 zEH:List (List V)) (zEI:Int) (k:KK β):(yA 4 (yQ (yn yf (zf yc zd za yb ya yd xb xc zc zb xa L) 0 L zG) (xS 0 (CF.res yr) k))) (.exit 4) (zdI p8 p21 zEH zEI)=yY yc zd za yb ya yd xb xc zc zb xa L p8 p21 zEH zEI (fun p0=>k (V.sc (.bool p0)) []):=by kernel_rfl
def zaJ {β:Type} (yc:xi) (zd:zk) (za:ye) (yb:xg) (ya:xe) (yd:xk) (xb:yi) (xc:zm) (zc:zi) (zb:yh) (xa:yg) (L:Nat) (p8 p21 zE0:List (List V)) (zE1 zEZ:Int) (zEH:List (List V)) (zEI:Int) (k_ret:Bool→List (List V)→Int→Option β) (k_hbbbbbbbbbbbbbbbbabav1:zcb β) (k_x4v1:zdH β):Option β :=
 ifb (decide (zEZ < zE1)) (
 idx zE0 zEZ fun c56 =>
 chk ((List.length (List.take 3 c56))=3∧0+3≤3) (
 lt (xn [(V.sc (.int .i64 (0:Int))),(V.sc (.int .i64 (0:Int))),(V.gs 1 ([]:List (List V)))] 0 (List.take 3 c56)) fun r57 =>
 chk (0+3≤(List.length r57)) (
 ya β L p21 (List.map V.dem (List.take 3 r57)) (fun v58 v59 =>
 ifb ((v59:Int) != (0:Int)) (
 k_ret false zEH zEI) (
 lt (IntKind.wrap .i64 ((zEZ:Int)+(1:Int))) fun x60 =>
 k_hbbbbbbbbbbbbbbbbabav1 p8 v58 zE0 zE1 x60 zEH zEI))))) (
 k_x4v1 p8 p21 zEH zEI)
theorem zeC {β:Type} (yc:xi) (zd:zk) (za:ye) (yb:xg) (ya:xe) (yd:xk) (xb:yi) (xc:zm) (zc:zi) (zb:yh) (xa:yg) (L:Nat) (p8 p21 zE0:List (List V)) (zE1 zEZ:Int) (zEH:List (List V)) (zEI:Int) (X:St→Option β) (K:KT β):yn yf (zf yc zd za yb ya yd xb xc zc zb xa L) 0 L zw (yS p8 p21 zE0 zE1 zEZ zEH zEI) (zbF zB X K)=zaJ yc zd za yb ya yd xb xc zc zb xa L p8 p21 zE0 zE1 zEZ zEH zEI (fun p6 zEH zEI=>K .ret (xE p6 zEH zEI)) (fun p8 p21 zE0 zE1 zEZ zEH zEI=>X (yS p8 p21 zE0 zE1 zEZ zEH zEI)) (fun p8 p21 zEH zEI=>K (.exit 4) (zc6 p8 p21 zEH zEI)):=by kernel_rfl
def zav {β:Type} (yc:xi) (zd:zk) (za:ye) (yb:xg) (ya:xe) (yd:xk) (xb:yi) (xc:zm) (zc:zi) (zb:yh) (xa:yg) (L:Nat) (p6:Bool) (zEH:List (List V)) (zEI:Int) (k_fin:Bool→Option β):Option β :=
 k_fin p6
theorem zee {β:Type} (yc:xi) (zd:zk) (za:ye) (yb:xg) (ya:xe) (yd:xk) (xb:yi) (xc:zm) (zc:zi) (zb:yh) (xa:yg) (L:Nat) (p6:Bool) (zEH:List (List V)) (zEI:Int) (k:KK β):(yA 4 (yQ (yn yf (zf yc zd za yb ya yd xb xc zc zb xa L) 0 L zG) (xS 0 (CF.res yr) k))) .ret (xE p6 zEH zEI)=zav yc zd za yb ya yd xb xc zc zb xa L p6 zEH zEI (fun p0=>k (V.sc (.bool p0)) []):=by kernel_rfl
def xR {β:Type} (yc:xi) (zd:zk) (za:ye) (yb:xg) (ya:xe) (yd:xk) (xb:yi) (xc:zm) (zc:zi) (zb:yh) (xa:yg) (L:Nat) (p8 p21 zEH:List (List V)) (zEI:Int) (k_fin:Bool→Option β):Option β :=
 xa β L p21 p8 (fun v61 =>
 k_fin v61)
theorem zd0 {β:Type} (yc:xi) (zd:zk) (za:ye) (yb:xg) (ya:xe) (yd:xk) (xb:yi) (xc:zm) (zc:zi) (zb:yh) (xa:yg) (L:Nat) (p8 p21 zEH:List (List V)) (zEI:Int) (k:KK β):(yA 4 (yQ (yn yf (zf yc zd za yb ya yd xb xc zc zb xa L) 0 L zG) (xS 0 (CF.res yr) k))) (.exit 4) (zc6 p8 p21 zEH zEI)=xR yc zd za yb ya yd xb xc zc zb xa L p8 p21 zEH zEI (fun p0=>k (V.sc (.bool p0)) []):=by kernel_rfl
def zM {β:Type} (yc:xi) (zd:zk) (za:ye) (yb:xg) (ya:xe) (yd:xk) (xb:yi) (xc:zm) (zc:zi) (zb:yh) (xa:yg) (L:Nat) (k_ret:Bool→List (List V)→Int→Option β) (k_x0v1:zbf β):Nat→Int→List (List V)→List (List V)→List (List V)→List (List V)→Int→List (List V)→Int→Option β
 | 0,_,_,_,_,_,_,_,_=>none
 | n+1,p1,p2,p8,p9,p10,p11,zEH,zEI=>zaK yc zd za yb ya yd xb xc zc zb xa L p1 p2 p8 p9 p10 p11 zEH zEI k_ret (fun p1 p2 p8 p9 p10 p11 zEH zEI=>zM yc zd za yb ya yd xb xc zc zb xa L k_ret k_x0v1 n p1 p2 p8 p9 p10 p11 zEH zEI) k_x0v1
theorem zgF {β:Type} (yc:xi) (zd:zk) (za:ye) (yb:xg) (ya:xe) (yd:xk) (xb:yi) (xc:zm) (zc:zi) (zb:yh) (xa:yg) (L:Nat) (K:KT β):∀ (n:Nat) (p1:Int) (p2 p8 p9 p10:List (List V)) (p11:Int) (zEH:List (List V)) (zEI:Int),xA (yn yf (zf yc zd za yb ya yd xb xc zc zb xa L) 0 L yH) xN n (zat p1 p2 p8 p9 p10 p11 zEH zEI) K=zM yc zd za yb ya yd xb xc zc zb xa L (fun p6 zEH zEI=>K .ret (xE p6 zEH zEI)) (fun p1 p2 p8 p9 p10 zEH zEI=>K (.exit 0) (zaS p1 p2 p8 p9 p10 zEH zEI)) n p1 p2 p8 p9 p10 p11 zEH zEI:=by
 intro n
 induction n with
 | zero=>intros; rfl
 | succ n ih =>
  intro p1 p2 p8 p9 p10 p11 zEH zEI
  refine (zgJ yc zd za yb ya yd xb xc zc zb xa L p1 p2 p8 p9 p10 p11 zEH zEI (fun σ=>xA (yn yf (zf yc zd za yb ya yd xb xc zc zb xa L) 0 L yH) xN n σ K) K).trans ?_
  simp only [ih]
  rfl
def za9 {β:Type} (yc:xi) (zd:zk) (za:ye) (yb:xg) (ya:xe) (yd:xk) (xb:yi) (xc:zm) (zc:zi) (zb:yh) (xa:yg) (L:Nat) (k_ret:Bool→List (List V)→Int→Option β) (k_x0:zei β) (k_x0v1:zbf β):Nat→Int→List (List V)→List (List V)→List (List V)→List (List V)→Int→List (List V)→Int→Option β
 | 0,_,_,_,_,_,_,_,_=>none
 | n+1,p1,p2,p8,p9,p10,p11,zEH,zEI=>za7 yc zd za yb ya yd xb xc zc zb xa L p1 p2 p8 p9 p10 p11 zEH zEI k_ret (fun p1 p2 p8 p9 p10 p11 zEH zEI=>zM yc zd za yb ya yd xb xc zc zb xa L k_ret k_x0v1 n p1 p2 p8 p9 p10 p11 zEH zEI) k_x0
theorem zdB {β:Type} (yc:xi) (zd:zk) (za:ye) (yb:xg) (ya:xe) (yd:xk) (xb:yi) (xc:zm) (zc:zi) (zb:yh) (xa:yg) (L:Nat) (K:KT β):∀ (n:Nat) (p1:Int) (p2 p8 p9 p10:List (List V)) (p11:Int) (zEH:List (List V)) (zEI:Int),xA (yn yf (zf yc zd za yb ya yd xb xc zc zb xa L) 0 L yH) xN n (zbV p1 p2 p8 p9 p10 p11 zEH zEI) K=za9 yc zd za yb ya yd xb xc zc zb xa L (fun p6 zEH zEI=>K .ret (xE p6 zEH zEI)) (fun p1 p2 p8 p9 p10 zEH zEI=>K (.exit 0) (zci p1 p2 p8 p9 p10 zEH zEI)) (fun p1 p2 p8 p9 p10 zEH zEI=>K (.exit 0) (zaS p1 p2 p8 p9 p10 zEH zEI)) n p1 p2 p8 p9 p10 p11 zEH zEI:=by
 intro n
 induction n with
 | zero=>intros; rfl
 | succ n ih =>
  intro p1 p2 p8 p9 p10 p11 zEH zEI
  refine (zhw yc zd za yb ya yd xb xc zc zb xa L p1 p2 p8 p9 p10 p11 zEH zEI (fun σ=>xA (yn yf (zf yc zd za yb ya yd xb xc zc zb xa L) 0 L yH) xN n σ K) K).trans ?_
  simp only [zgF]
  rfl
def xL {β:Type} (yc:xi) (zd:zk) (za:ye) (yb:xg) (ya:xe) (yd:xk) (xb:yi) (xc:zm) (zc:zi) (zb:yh) (xa:yg) (L:Nat) (k_x2:zeh β):Nat→List (List V)→List (List V)→List (List V)→List (List V)→Int→Int→List (List V)→Int→Option β
 | 0,_,_,_,_,_,_,_,_=>none
 | n+1,p2,p8,p9,p10,p15,p16,zEH,zEI=>y9 yc zd za yb ya yd xb xc zc zb xa L p2 p8 p9 p10 p15 p16 zEH zEI (fun p2 p8 p9 p10 p15 p16 zEH zEI=>xL yc zd za yb ya yd xb xc zc zb xa L k_x2 n p2 p8 p9 p10 p15 p16 zEH zEI) k_x2
theorem zda {β:Type} (yc:xi) (zd:zk) (za:ye) (yb:xg) (ya:xe) (yd:xk) (xb:yi) (xc:zm) (zc:zi) (zb:yh) (xa:yg) (L:Nat) (K:KT β):∀ (n:Nat) (p2 p8 p9 p10:List (List V)) (p15 p16:Int) (zEH:List (List V)) (zEI:Int),xA (yn yf (zf yc zd za yb ya yd xb xc zc zb xa L) 0 L yD) xG n (zau p2 p8 p9 p10 p15 p16 zEH zEI) K=xL yc zd za yb ya yd xb xc zc zb xa L (fun p2 p8 p9 p15 p16 zEH zEI=>K (.exit 2) (zcg p2 p8 p9 p15 p16 zEH zEI)) n p2 p8 p9 p10 p15 p16 zEH zEI:=by
 intro n
 induction n with
 | zero=>intros; rfl
 | succ n ih =>
  intro p2 p8 p9 p10 p15 p16 zEH zEI
  refine (zgI yc zd za yb ya yd xb xc zc zb xa L p2 p8 p9 p10 p15 p16 zEH zEI (fun σ=>xA (yn yf (zf yc zd za yb ya yd xb xc zc zb xa L) 0 L yD) xG n σ K) K).trans ?_
  simp only [ih]
  rfl
def zP {β:Type} (yc:xi) (zd:zk) (za:ye) (yb:xg) (ya:xe) (yd:xk) (xb:yi) (xc:zm) (zc:zi) (zb:yh) (xa:yg) (L:Nat) (k_ret:Bool→List (List V)→Int→Option β) (k_x4:zem β):Nat→List (List V)→List (List V)→List (List V)→Int→Int→List (List V)→Int→Option β
 | 0,_,_,_,_,_,_,_=>none
 | n+1,p8,p21,zE0,zE1,zEZ,zEH,zEI=>za5 yc zd za yb ya yd xb xc zc zb xa L p8 p21 zE0 zE1 zEZ zEH zEI k_ret (fun p8 p21 zE0 zE1 zEZ zEH zEI=>zP yc zd za yb ya yd xb xc zc zb xa L k_ret k_x4 n p8 p21 zE0 zE1 zEZ zEH zEI) k_x4
theorem zcd {β:Type} (yc:xi) (zd:zk) (za:ye) (yb:xg) (ya:xe) (yd:xk) (xb:yi) (xc:zm) (zc:zi) (zb:yh) (xa:yg) (L:Nat) (K:KT β):∀ (n:Nat) (p8 p21 zE0:List (List V)) (zE1 zEZ:Int) (zEH:List (List V)) (zEI:Int),xA (yn yf (zf yc zd za yb ya yd xb xc zc zb xa L) 0 L zw) zB n (yW p8 p21 zE0 zE1 zEZ zEH zEI) K=zP yc zd za yb ya yd xb xc zc zb xa L (fun p6 zEH zEI=>K .ret (xE p6 zEH zEI)) (fun p8 p21 zEH zEI=>K (.exit 4) (zdI p8 p21 zEH zEI)) n p8 p21 zE0 zE1 zEZ zEH zEI:=by
 intro n
 induction n with
 | zero=>intros; rfl
 | succ n ih =>
  intro p8 p21 zE0 zE1 zEZ zEH zEI
  refine (ze1 yc zd za yb ya yd xb xc zc zb xa L p8 p21 zE0 zE1 zEZ zEH zEI (fun σ=>xA (yn yf (zf yc zd za yb ya yd xb xc zc zb xa L) 0 L zw) zB n σ K) K).trans ?_
  simp only [ih]
  rfl
def zU {β:Type} (yc:xi) (zd:zk) (za:ye) (yb:xg) (ya:xe) (yd:xk) (xb:yi) (xc:zm) (zc:zi) (zb:yh) (xa:yg) (L:Nat) (p2 p8 p9:List (List V)) (p15 p16:Int) (zEH:List (List V)) (zEI:Int) (k_fin:Bool→Option β):Option β :=
 zbH yc zd za yb ya yd xb xc zc zb xa L p2 p8 p9 p15 p16 zEH zEI k_fin (fun p8 p21 zE0 zE1 zEZ zEH zEI=>zP yc zd za yb ya yd xb xc zc zb xa L (fun p6 zEH zEI=>zaH yc zd za yb ya yd xb xc zc zb xa L p6 zEH zEI k_fin) (fun p8 p21 zEH zEI=>yY yc zd za yb ya yd xb xc zc zb xa L p8 p21 zEH zEI k_fin) L p8 p21 zE0 zE1 zEZ zEH zEI)
theorem zfY {β:Type} (yc:xi) (zd:zk) (za:ye) (yb:xg) (ya:xe) (yd:xk) (xb:yi) (xc:zm) (zc:zi) (zb:yh) (xa:yg) (L:Nat) (p2 p8 p9:List (List V)) (p15 p16:Int) (zEH:List (List V)) (zEI:Int) (k:KK β):(yA 2 (yQ (yn yf (zf yc zd za yb ya yd xb xc zc zb xa L) 0 L zN) (xS 0 (CF.res yr) k))) (.exit 2) (zcg p2 p8 p9 p15 p16 zEH zEI)=zU yc zd za yb ya yd xb xc zc zb xa L p2 p8 p9 p15 p16 zEH zEI (fun p0=>k (V.sc (.bool p0)) []):=by
 refine (zf7 yc zd za yb ya yd xb xc zc zb xa L p2 p8 p9 p15 p16 zEH zEI k).trans ?_
 unfold zU
 first
  | (simp only [zcd,zex,zeD]; done)
  | (simp only [zcd]; rfl)
def yZ {β:Type} (yc:xi) (zd:zk) (za:ye) (yb:xg) (ya:xe) (yd:xk) (xb:yi) (xc:zm) (zc:zi) (zb:yh) (xa:yg) (L:Nat) (p1:Int) (p2 p8 p9 p10 zEH:List (List V)) (zEI:Int) (k_fin:Bool→Option β):Option β :=
 zbZ yc zd za yb ya yd xb xc zc zb xa L p1 p2 p8 p9 p10 zEH zEI (fun p2 p8 p9 p10 p15 p16 zEH zEI=>xL yc zd za yb ya yd xb xc zc zb xa L (fun p2 p8 p9 p15 p16 zEH zEI=>zU yc zd za yb ya yd xb xc zc zb xa L p2 p8 p9 p15 p16 zEH zEI k_fin) L p2 p8 p9 p10 p15 p16 zEH zEI)
theorem zgi {β:Type} (yc:xi) (zd:zk) (za:ye) (yb:xg) (ya:xe) (yd:xk) (xb:yi) (xc:zm) (zc:zi) (zb:yh) (xa:yg) (L:Nat) (p1:Int) (p2 p8 p9 p10 zEH:List (List V)) (zEI:Int) (k:KK β):(yA 0 (yQ (yn yf (zf yc zd za yb ya yd xb xc zc zb xa L) 0 L zQ) (xS 0 (CF.res yr) k))) (.exit 0) (zci p1 p2 p8 p9 p10 zEH zEI)=yZ yc zd za yb ya yd xb xc zc zb xa L p1 p2 p8 p9 p10 zEH zEI (fun p0=>k (V.sc (.bool p0)) []):=by
 refine (zgH yc zd za yb ya yd xb xc zc zb xa L p1 p2 p8 p9 p10 zEH zEI k).trans ?_
 unfold yZ
 first
  | (simp only [zda,zfY]; done)
  | (simp only [zda]; rfl)
def yJ {β:Type} (yc:xi) (zd:zk) (za:ye) (yb:xg) (ya:xe) (yd:xk) (xb:yi) (xc:zm) (zc:zi) (zb:yh) (xa:yg) (L:Nat) (k_x2v1:zdQ β):Nat→List (List V)→List (List V)→List (List V)→List (List V)→Int→Int→List (List V)→Int→Option β
 | 0,_,_,_,_,_,_,_,_=>none
 | n+1,p2,p8,p9,p10,p15,p16,zEH,zEI=>yX yc zd za yb ya yd xb xc zc zb xa L p2 p8 p9 p10 p15 p16 zEH zEI (fun p2 p8 p9 p10 p15 p16 zEH zEI=>yJ yc zd za yb ya yd xb xc zc zb xa L k_x2v1 n p2 p8 p9 p10 p15 p16 zEH zEI) k_x2v1
theorem zcU {β:Type} (yc:xi) (zd:zk) (za:ye) (yb:xg) (ya:xe) (yd:xk) (xb:yi) (xc:zm) (zc:zi) (zb:yh) (xa:yg) (L:Nat) (K:KT β):∀ (n:Nat) (p2 p8 p9 p10:List (List V)) (p15 p16:Int) (zEH:List (List V)) (zEI:Int),xA (yn yf (zf yc zd za yb ya yd xb xc zc zb xa L) 0 L yD) xG n (zaj p2 p8 p9 p10 p15 p16 zEH zEI) K=yJ yc zd za yb ya yd xb xc zc zb xa L (fun p2 p8 p9 p15 p16 zEH zEI=>K (.exit 2) (zbT p2 p8 p9 p15 p16 zEH zEI)) n p2 p8 p9 p10 p15 p16 zEH zEI:=by
 intro n
 induction n with
 | zero=>intros; rfl
 | succ n ih =>
  intro p2 p8 p9 p10 p15 p16 zEH zEI
  refine (zgb yc zd za yb ya yd xb xc zc zb xa L p2 p8 p9 p10 p15 p16 zEH zEI (fun σ=>xA (yn yf (zf yc zd za yb ya yd xb xc zc zb xa L) 0 L yD) xG n σ K) K).trans ?_
  simp only [ih]
  rfl
def yN {β:Type} (yc:xi) (zd:zk) (za:ye) (yb:xg) (ya:xe) (yd:xk) (xb:yi) (xc:zm) (zc:zi) (zb:yh) (xa:yg) (L:Nat) (k_ret:Bool→List (List V)→Int→Option β) (k_x4v1:zdH β):Nat→List (List V)→List (List V)→List (List V)→Int→Int→List (List V)→Int→Option β
 | 0,_,_,_,_,_,_,_=>none
 | n+1,p8,p21,zE0,zE1,zEZ,zEH,zEI=>zaJ yc zd za yb ya yd xb xc zc zb xa L p8 p21 zE0 zE1 zEZ zEH zEI k_ret (fun p8 p21 zE0 zE1 zEZ zEH zEI=>yN yc zd za yb ya yd xb xc zc zb xa L k_ret k_x4v1 n p8 p21 zE0 zE1 zEZ zEH zEI) k_x4v1
theorem zbW {β:Type} (yc:xi) (zd:zk) (za:ye) (yb:xg) (ya:xe) (yd:xk) (xb:yi) (xc:zm) (zc:zi) (zb:yh) (xa:yg) (L:Nat) (K:KT β):∀ (n:Nat) (p8 p21 zE0:List (List V)) (zE1 zEZ:Int) (zEH:List (List V)) (zEI:Int),xA (yn yf (zf yc zd za yb ya yd xb xc zc zb xa L) 0 L zw) zB n (yS p8 p21 zE0 zE1 zEZ zEH zEI) K=yN yc zd za yb ya yd xb xc zc zb xa L (fun p6 zEH zEI=>K .ret (xE p6 zEH zEI)) (fun p8 p21 zEH zEI=>K (.exit 4) (zc6 p8 p21 zEH zEI)) n p8 p21 zE0 zE1 zEZ zEH zEI:=by
 intro n
 induction n with
 | zero=>intros; rfl
 | succ n ih =>
  intro p8 p21 zE0 zE1 zEZ zEH zEI
  refine (zeC yc zd za yb ya yd xb xc zc zb xa L p8 p21 zE0 zE1 zEZ zEH zEI (fun σ=>xA (yn yf (zf yc zd za yb ya yd xb xc zc zb xa L) 0 L zw) zB n σ K) K).trans ?_
  simp only [ih]
  rfl
def xO {β:Type} (yc:xi) (zd:zk) (za:ye) (yb:xg) (ya:xe) (yd:xk) (xb:yi) (xc:zm) (zc:zi) (zb:yh) (xa:yg) (L:Nat) (p2 p8 p9:List (List V)) (p15 p16:Int) (zEH:List (List V)) (zEI:Int) (k_fin:Bool→Option β):Option β :=
 zbc yc zd za yb ya yd xb xc zc zb xa L p2 p8 p9 p15 p16 zEH zEI k_fin (fun p8 p21 zE0 zE1 zEZ zEH zEI=>yN yc zd za yb ya yd xb xc zc zb xa L (fun p6 zEH zEI=>zav yc zd za yb ya yd xb xc zc zb xa L p6 zEH zEI k_fin) (fun p8 p21 zEH zEI=>xR yc zd za yb ya yd xb xc zc zb xa L p8 p21 zEH zEI k_fin) L p8 p21 zE0 zE1 zEZ zEH zEI)
theorem ze7 {β:Type} (yc:xi) (zd:zk) (za:ye) (yb:xg) (ya:xe) (yd:xk) (xb:yi) (xc:zm) (zc:zi) (zb:yh) (xa:yg) (L:Nat) (p2 p8 p9:List (List V)) (p15 p16:Int) (zEH:List (List V)) (zEI:Int) (k:KK β):(yA 2 (yQ (yn yf (zf yc zd za yb ya yd xb xc zc zb xa L) 0 L zN) (xS 0 (CF.res yr) k))) (.exit 2) (zbT p2 p8 p9 p15 p16 zEH zEI)=xO yc zd za yb ya yd xb xc zc zb xa L p2 p8 p9 p15 p16 zEH zEI (fun p0=>k (V.sc (.bool p0)) []):=by
 refine (zfb yc zd za yb ya yd xb xc zc zb xa L p2 p8 p9 p15 p16 zEH zEI k).trans ?_
 unfold xO
 first
  | (simp only [zbW,zee,zd0]; done)
  | (simp only [zbW]; rfl)
def zL {β:Type} (yc:xi) (zd:zk) (za:ye) (yb:xg) (ya:xe) (yd:xk) (xb:yi) (xc:zm) (zc:zi) (zb:yh) (xa:yg) (L:Nat) (p1:Int) (p2 p8 p9 p10 zEH:List (List V)) (zEI:Int) (k_fin:Bool→Option β):Option β :=
 zbr yc zd za yb ya yd xb xc zc zb xa L p1 p2 p8 p9 p10 zEH zEI (fun p2 p8 p9 p10 p15 p16 zEH zEI=>yJ yc zd za yb ya yd xb xc zc zb xa L (fun p2 p8 p9 p15 p16 zEH zEI=>xO yc zd za yb ya yd xb xc zc zb xa L p2 p8 p9 p15 p16 zEH zEI k_fin) L p2 p8 p9 p10 p15 p16 zEH zEI)
theorem zfw {β:Type} (yc:xi) (zd:zk) (za:ye) (yb:xg) (ya:xe) (yd:xk) (xb:yi) (xc:zm) (zc:zi) (zb:yh) (xa:yg) (L:Nat) (p1:Int) (p2 p8 p9 p10 zEH:List (List V)) (zEI:Int) (k:KK β):(yA 0 (yQ (yn yf (zf yc zd za yb ya yd xb xc zc zb xa L) 0 L zQ) (xS 0 (CF.res yr) k))) (.exit 0) (zaS p1 p2 p8 p9 p10 zEH zEI)=zL yc zd za yb ya yd xb xc zc zb xa L p1 p2 p8 p9 p10 zEH zEI (fun p0=>k (V.sc (.bool p0)) []):=by
 refine (zfC yc zd za yb ya yd xb xc zc zb xa L p1 p2 p8 p9 p10 zEH zEI k).trans ?_
 unfold zL
 first
  | (simp only [zcU,ze7]; done)
  | (simp only [zcU]; rfl)
def zdh {β:Type} (yc:xi) (zd:zk) (za:ye) (yb:xg) (ya:xe) (yd:xk) (xb:yi) (xc:zm) (zc:zi) (zb:yh) (xa:yg) (L:Nat) (p0:List (List V)) (p1:Int) (p2:List (List V)) (k_fin:Bool→Option β):Option β :=
 ze4 yc zd za yb ya yd xb xc zc zb xa L p0 p1 p2 k_fin (fun p1 p2 p8 p9 p10 p11 zEH zEI=>za9 yc zd za yb ya yd xb xc zc zb xa L (fun p6 zEH zEI=>zdv yc zd za yb ya yd xb xc zc zb xa L p6 zEH zEI k_fin) (fun p1 p2 p8 p9 p10 zEH zEI=>yZ yc zd za yb ya yd xb xc zc zb xa L p1 p2 p8 p9 p10 zEH zEI k_fin) (fun p1 p2 p8 p9 p10 zEH zEI=>zL yc zd za yb ya yd xb xc zc zb xa L p1 p2 p8 p9 p10 zEH zEI k_fin) L p1 p2 p8 p9 p10 p11 zEH zEI)
theorem zlN {β:Type} (yc:xi) (zd:zk) (za:ye) (yb:xg) (ya:xe) (yd:xk) (xb:yi) (xc:zm) (zc:zi) (zb:yh) (xa:yg) (L:Nat) (p0:List (List V)) (p1:Int) (p2:List (List V)) (k:KK β):xB yf (zf yc zd za yb ya yd xb xc zc zb xa L) L yr [(V.sl 1 p0),(V.sc (.int .i64 p1)),(V.sl 1 p2)] [] k=zdh yc zd za yb ya yd xb xc zc zb xa L p0 p1 p2 (fun p0=>k (V.sc (.bool p0)) []):=by
 refine (zlM yc zd za yb ya yd xb xc zc zb xa L p0 p1 p2 k).trans ?_
 unfold zdh
 first
  | (simp only [zdB,zgn,zgi,zfw]; done)
  | (simp only [zdB]; rfl)
abbrev znQ:=∀ (β:Type),Nat→List (List V)→Int→List (List V)→(Bool→Option β)→Option β
def zaf (β:Type) (L:Nat) (p0:List (List V)) (p1:Int) (p2:List (List V)) (k_fin:Bool→Option β):Option β:=zdh yc zd za yb ya yd xb xc zc zb xa L p0 p1 p2 k_fin
def zdd (zaf:znQ) (L:Nat) (β:Type) (args:List V) (bor:Bor) (k:KK β):Option β:=match args,bor with
 | [a0,a1,a2],[]=>aL 1 a0 fun p0=>aI .i64 a1 fun p1=>aL 1 a2 fun p2=>zaf β L p0 p1 p2 (fun p0=>k (V.sc (.bool p0)) [])
 | _,_=>none
theorem zlF (L:Nat) (β:Type) (args:List V) (bor:Bor) (k:KK β) (r:β) (h:zdd zaf L β args bor k=some r):xB yf (zf yc zd za yb ya yd xb xc zc zb xa L) L yr args bor k=some r:=by
 unfold zdd at h
 split at h
 ·have q:=y8 h; clear h; obtain ⟨p0,rfl,h⟩:=q
  have q:=zaq h; clear h; obtain ⟨p1,rfl,h⟩:=q
  have q:=y8 h; clear h; obtain ⟨p2,rfl,h⟩:=q
  exact (zlN yc zd za yb ya yd xb xc zc zb xa L p0 p1 p2 k).trans h
 ·cases h
def gls:List (Nat × List V):=[(0,gk_sha_initial),(1,gk_sha_k)]
def fg:List (Nat × Nat):=[(3,647),(4,648),(5,649),(6,410),(7,650),(8,651),(9,225),(10,217),(11,453),(12,414),(13,652),(14,130),(15,415),(16,653),(17,654),(18,655),(19,656),(20,432),(21,657),(22,231),(23,274),(24,193),(25,433),(26,157),(27,434),(28,435),(29,658),(30,159),(31,659),(32,495),(33,247),(34,457),(35,191),(36,192),(37,458),(38,459),(39,660),(40,194),(41,494),(42,170),(43,195),(44,496),(45,497),(46,498),(47,200),(48,531),(49,532),(50,533),(51,197),(52,207),(53,534),(54,535),(55,209),(56,569),(57,570),(58,571),(59,198),(60,572),(77,640),(78,641),(79,642),(80,643)]
def rows:List Row:=[⟨20,432,zkK,zfV⟩,⟨59,198,zm6,zih⟩,⟨51,197,zh3,zba⟩,⟨42,170,zoE,zjt⟩,⟨52,207,ziE,zbt⟩,⟨43,195,zpO,zkz⟩,⟨32,495,zft,zcj⟩,⟨28,435,zfa,xH⟩,⟨45,497,zqZ,zeI⟩,⟨44,496,zqq,zfU⟩,⟨60,572,zfJ,zcv⟩,⟨54,535,zpH,zkB⟩,⟨53,534,zlD,za4⟩,⟨46,498,zls,zcF⟩,⟨37,458,zqE,zdc⟩,⟨27,434,zkV,zf1⟩,⟨34,457,zlE,zgy⟩,⟨25,433,zlx,zcN⟩,⟨36,192,zly,zcB⟩,⟨35,191,zlv,zgu⟩,⟨26,157,zi5,zeO⟩,⟨12,414,zjU,zff⟩,⟨15,415,zlB,zgt⟩,⟨6,410,zm2,zie⟩,⟨9,225,zpG,zks⟩,⟨33,247,zjZ,zfe⟩,⟨10,217,zpK,zkD⟩,⟨22,231,zjT,zfn⟩,⟨23,274,zjx,zeV⟩,⟨8,651,zmm,zc4⟩,⟨21,657,zml,zoc⟩,⟨55,209,zlu,zm8⟩,⟨47,200,zoI,zqH⟩,⟨24,193,zlt,zgA⟩,⟨11,453,zm5,zdK⟩,⟨48,531,zoH,zqD⟩,⟨49,532,zkI,zmu⟩,⟨58,571,zni,zpB⟩,⟨56,569,zjR,zlo⟩,⟨57,570,zjG,zkH⟩,⟨50,533,zjN,zlr⟩,⟨41,494,zoq,zrc⟩,⟨31,659,zmr,zob⟩,⟨14,130,zm9,zid⟩,⟨39,660,zmq,zoA⟩,⟨29,658,znd,zpS⟩,⟨40,194,zlA,zm7⟩,⟨30,159,zjF,zkO⟩,⟨13,652,zlw,znw⟩,⟨7,650,zmy,zoN⟩,⟨3,647,zgs,zhz⟩,⟨17,654,znn,zcS⟩,⟨18,655,zjX,zfg⟩,⟨5,649,zgv,yr⟩]
theorem zs2:xP Tryd.prog (yI fg gls) zkK 20=some zfV:=by kernel_rfl
theorem zv9:xP Tryd.prog (yI fg gls) zm6 59=some zih:=by kernel_rfl
theorem zo1:xP Tryd.prog (yI fg gls) zh3 51=some zba:=by kernel_rfl
theorem zwM:xP Tryd.prog (yI fg gls) zoE 42=some zjt:=by kernel_rfl
theorem zp4:xP Tryd.prog (yI fg gls) ziE 52=some zbt:=by kernel_rfl
theorem zx9:xP Tryd.prog (yI fg gls) zpO 43=some zkz:=by kernel_rfl
theorem zk3:xP Tryd.prog (yI fg gls) zft 32=some zcj:=by kernel_rfl
theorem zk0:xP Tryd.prog (yI fg gls) zfa 28=some xH:=by kernel_rfl
theorem zy7:xP Tryd.prog (yI fg gls) zqZ 45=some zeI:=by kernel_rfl
theorem zze:xP Tryd.prog (yI fg gls) zqq 44=some zfU:=by kernel_rfl
theorem zlR:xP Tryd.prog (yI fg gls) zfJ 60=some zcv:=by kernel_rfl
theorem zyo:xP Tryd.prog (yI fg gls) zpH 54=some zkB:=by kernel_rfl
theorem ztT:xP Tryd.prog (yI fg gls) zlD 53=some za4:=by kernel_rfl
theorem ztr:xP Tryd.prog (yI fg gls) zls 46=some zcF:=by kernel_rfl
theorem zzg:xP Tryd.prog (yI fg gls) zqE 37=some zdc:=by kernel_rfl
theorem zsS:xP Tryd.prog (yI fg gls) zkV 27=some zf1:=by kernel_rfl
theorem zud:xP Tryd.prog (yI fg gls) zlE 34=some zgy:=by kernel_rfl
theorem zt8:xP Tryd.prog (yI fg gls) zlx 25=some zcN:=by kernel_rfl
theorem ztP:xP Tryd.prog (yI fg gls) zly 36=some zcB:=by kernel_rfl
theorem zup:xP Tryd.prog (yI fg gls) zlv 35=some zgu:=by kernel_rfl
theorem zqJ:xP Tryd.prog (yI fg gls) zi5 26=some zeO:=by kernel_rfl
theorem zrE:xP Tryd.prog (yI fg gls) zjU 12=some zff:=by kernel_rfl
theorem ztZ:xP Tryd.prog (yI fg gls) zlB 15=some zgt:=by kernel_rfl
theorem zwg:xP Tryd.prog (yI fg gls) zm2 6=some zie:=by kernel_rfl
theorem zyn:xP Tryd.prog (yI fg gls) zpG 9=some zks:=by kernel_rfl
theorem zr1:xP Tryd.prog (yI fg gls) zjZ 33=some zfe:=by kernel_rfl
theorem zx1:xP Tryd.prog (yI fg gls) zpK 10=some zkD:=by kernel_rfl
theorem zry:xP Tryd.prog (yI fg gls) zjT 22=some zfn:=by kernel_rfl
theorem zq9:xP Tryd.prog (yI fg gls) zjx 23=some zeV:=by kernel_rfl
theorem zva:xP Tryd.prog (yI fg gls) zmm 8=some zc4:=by kernel_rfl
theorem zuw:xP Tryd.prog (yI fg gls) zml 21=some zoc:=by kernel_rfl
theorem zte:xP Tryd.prog (yI fg gls) zlu 55=some zm8:=by kernel_rfl
theorem zwY:xP Tryd.prog (yI fg gls) zoI 47=some zqH:=by kernel_rfl
theorem zt1:xP Tryd.prog (yI fg gls) zlt 24=some zgA:=by kernel_rfl
theorem zwd:xP Tryd.prog (yI fg gls) zm5 11=some zdK:=by kernel_rfl
theorem zwF:xP Tryd.prog (yI fg gls) zoH 48=some zqD:=by kernel_rfl
theorem zsL:xP Tryd.prog (yI fg gls) zkI 49=some zmu:=by kernel_rfl
theorem zwi:xP Tryd.prog (yI fg gls) zni 58=some zpB:=by kernel_rfl
theorem zrx:xP Tryd.prog (yI fg gls) zjR 56=some zlo:=by kernel_rfl
theorem zqF:xP Tryd.prog (yI fg gls) zjG 57=some zkH:=by kernel_rfl
theorem zrV:xP Tryd.prog (yI fg gls) zjN 50=some zlr:=by kernel_rfl
theorem zxO:xP Tryd.prog (yI fg gls) zoq 41=some zrc:=by kernel_rfl
theorem zuy:xP Tryd.prog (yI fg gls) zmr 31=some zob:=by kernel_rfl
theorem zvY:xP Tryd.prog (yI fg gls) zm9 14=some zid:=by kernel_rfl
theorem zuZ:xP Tryd.prog (yI fg gls) zmq 39=some zoA:=by kernel_rfl
theorem zv7:xP Tryd.prog (yI fg gls) znd 29=some zpS:=by kernel_rfl
theorem ztt:xP Tryd.prog (yI fg gls) zlA 40=some zm7:=by kernel_rfl
theorem zra:xP Tryd.prog (yI fg gls) zjF 30=some zkO:=by kernel_rfl
theorem zty:xP Tryd.prog (yI fg gls) zlw 13=some znw:=by kernel_rfl
theorem zuM:xP Tryd.prog (yI fg gls) zmy 7=some zoN:=by kernel_rfl
theorem zmT:xP Tryd.prog (yI fg gls) zgs 3=some zhz:=by kernel_rfl
theorem zv1:xP Tryd.prog (yI fg gls) znn 17=some zcS:=by kernel_rfl
theorem zrz:xP Tryd.prog (yI fg gls) zjX 18=some zfg:=by kernel_rfl
theorem zmR:xP Tryd.prog (yI fg gls) zgv 5=some yr:=by kernel_rfl
theorem zCW:∀ r ∈ rows,(r.f,r.g) ∈ fg∧ze9 Tryd.prog r.f=true∧xP Tryd.prog (yI fg gls) r.h r.f=some r.c:=by
 intro r hr
 simp only [rows,List.mem_cons,List.not_mem_nil,or_false] at hr
 rcases hr with rfl | rfl | rfl | rfl | rfl | rfl | rfl | rfl | rfl | rfl | rfl | rfl | rfl | rfl | rfl | rfl | rfl | rfl | rfl | rfl | rfl | rfl | rfl | rfl | rfl | rfl | rfl | rfl | rfl | rfl | rfl | rfl | rfl | rfl | rfl | rfl | rfl | rfl | rfl | rfl | rfl | rfl | rfl | rfl | rfl | rfl | rfl | rfl | rfl | rfl | rfl | rfl | rfl | rfl
 ·exact ⟨of_decide_eq_true (by kernel_rfl),by kernel_rfl,zs2⟩
 ·exact ⟨of_decide_eq_true (by kernel_rfl),by kernel_rfl,zv9⟩
 ·exact ⟨of_decide_eq_true (by kernel_rfl),by kernel_rfl,zo1⟩
 ·exact ⟨of_decide_eq_true (by kernel_rfl),by kernel_rfl,zwM⟩
 ·exact ⟨of_decide_eq_true (by kernel_rfl),by kernel_rfl,zp4⟩
 ·exact ⟨of_decide_eq_true (by kernel_rfl),by kernel_rfl,zx9⟩
 ·exact ⟨of_decide_eq_true (by kernel_rfl),by kernel_rfl,zk3⟩
 ·exact ⟨of_decide_eq_true (by kernel_rfl),by kernel_rfl,zk0⟩
 ·exact ⟨of_decide_eq_true (by kernel_rfl),by kernel_rfl,zy7⟩
 ·exact ⟨of_decide_eq_true (by kernel_rfl),by kernel_rfl,zze⟩
 ·exact ⟨of_decide_eq_true (by kernel_rfl),by kernel_rfl,zlR⟩
 ·exact ⟨of_decide_eq_true (by kernel_rfl),by kernel_rfl,zyo⟩
 ·exact ⟨of_decide_eq_true (by kernel_rfl),by kernel_rfl,ztT⟩
 ·exact ⟨of_decide_eq_true (by kernel_rfl),by kernel_rfl,ztr⟩
 ·exact ⟨of_decide_eq_true (by kernel_rfl),by kernel_rfl,zzg⟩
 ·exact ⟨of_decide_eq_true (by kernel_rfl),by kernel_rfl,zsS⟩
 ·exact ⟨of_decide_eq_true (by kernel_rfl),by kernel_rfl,zud⟩
 ·exact ⟨of_decide_eq_true (by kernel_rfl),by kernel_rfl,zt8⟩
 ·exact ⟨of_decide_eq_true (by kernel_rfl),by kernel_rfl,ztP⟩
 ·exact ⟨of_decide_eq_true (by kernel_rfl),by kernel_rfl,zup⟩
 ·exact ⟨of_decide_eq_true (by kernel_rfl),by kernel_rfl,zqJ⟩
 ·exact ⟨of_decide_eq_true (by kernel_rfl),by kernel_rfl,zrE⟩
 ·exact ⟨of_decide_eq_true (by kernel_rfl),by kernel_rfl,ztZ⟩
 ·exact ⟨of_decide_eq_true (by kernel_rfl),by kernel_rfl,zwg⟩
 ·exact ⟨of_decide_eq_true (by kernel_rfl),by kernel_rfl,zyn⟩
 ·exact ⟨of_decide_eq_true (by kernel_rfl),by kernel_rfl,zr1⟩
 ·exact ⟨of_decide_eq_true (by kernel_rfl),by kernel_rfl,zx1⟩
 ·exact ⟨of_decide_eq_true (by kernel_rfl),by kernel_rfl,zry⟩
 ·exact ⟨of_decide_eq_true (by kernel_rfl),by kernel_rfl,zq9⟩
 ·exact ⟨of_decide_eq_true (by kernel_rfl),by kernel_rfl,zva⟩
 ·exact ⟨of_decide_eq_true (by kernel_rfl),by kernel_rfl,zuw⟩
 ·exact ⟨of_decide_eq_true (by kernel_rfl),by kernel_rfl,zte⟩
 ·exact ⟨of_decide_eq_true (by kernel_rfl),by kernel_rfl,zwY⟩
 ·exact ⟨of_decide_eq_true (by kernel_rfl),by kernel_rfl,zt1⟩
 ·exact ⟨of_decide_eq_true (by kernel_rfl),by kernel_rfl,zwd⟩
 ·exact ⟨of_decide_eq_true (by kernel_rfl),by kernel_rfl,zwF⟩
 ·exact ⟨of_decide_eq_true (by kernel_rfl),by kernel_rfl,zsL⟩
 ·exact ⟨of_decide_eq_true (by kernel_rfl),by kernel_rfl,zwi⟩
 ·exact ⟨of_decide_eq_true (by kernel_rfl),by kernel_rfl,zrx⟩
 ·exact ⟨of_decide_eq_true (by kernel_rfl),by kernel_rfl,zqF⟩
 ·exact ⟨of_decide_eq_true (by kernel_rfl),by kernel_rfl,zrV⟩
 ·exact ⟨of_decide_eq_true (by kernel_rfl),by kernel_rfl,zxO⟩
 ·exact ⟨of_decide_eq_true (by kernel_rfl),by kernel_rfl,zuy⟩
 ·exact ⟨of_decide_eq_true (by kernel_rfl),by kernel_rfl,zvY⟩
 ·exact ⟨of_decide_eq_true (by kernel_rfl),by kernel_rfl,zuZ⟩
 ·exact ⟨of_decide_eq_true (by kernel_rfl),by kernel_rfl,zv7⟩
 ·exact ⟨of_decide_eq_true (by kernel_rfl),by kernel_rfl,ztt⟩
 ·exact ⟨of_decide_eq_true (by kernel_rfl),by kernel_rfl,zra⟩
 ·exact ⟨of_decide_eq_true (by kernel_rfl),by kernel_rfl,zty⟩
 ·exact ⟨of_decide_eq_true (by kernel_rfl),by kernel_rfl,zuM⟩
 ·exact ⟨of_decide_eq_true (by kernel_rfl),by kernel_rfl,zmT⟩
 ·exact ⟨of_decide_eq_true (by kernel_rfl),by kernel_rfl,zv1⟩
 ·exact ⟨of_decide_eq_true (by kernel_rfl),by kernel_rfl,zrz⟩
 ·exact ⟨of_decide_eq_true (by kernel_rfl),by kernel_rfl,zmR⟩
theorem zD5:Tryd.prog.follows .mixedOrders=true:=by kernel_rfl
theorem zD1:zBE fg=true:=by kernel_rfl
shelf_lay_g Lays8.n4 Nm8 4 at Tryd 38 as growB
theorem zD4:zfZ Tryd.prog (yI fg gls) znL:=zAt growB (f0:=38) rfl (by kernel_rfl) (by kernel_rfl) (by kernel_rfl)
theorem zD9 (L d:Nat):zfZ Tryd.prog (yI fg gls) (evF (xZ rows) znL L d):=zCV zD5 zD1 zD4 zCW L d
theorem zlz (L:Nat):FOk (xZ rows) L 432 (zeX xu L) 1:=xU (D:=0) (by kernel_rfl) fun m hm=>⟨ziu,zip L,yU,zq5 L⟩
theorem zoG (L:Nat):FOk (xZ rows) L 198 (zgQ xf L) 1:=xU (D:=0) (by kernel_rfl) fun m hm=>⟨zlj,zk4 L,yU,zui L⟩
theorem zos (L:Nat):FOk (xZ rows) L 197 (zev yF L) 2:=xU (D:=1) (by kernel_rfl) fun m hm=>⟨zW,xW xf L,(xC yU (zoG L m (by omega))),zn0 L⟩
theorem zwm (L:Nat):FOk (xZ rows) L 170 (zkx y5 L) 3:=xU (D:=2) (by kernel_rfl) fun m hm=>⟨zmF,zmn yF L,(xC yU (zos L m (by omega))),zuV L⟩
theorem zo9 (L:Nat):FOk (xZ rows) L 207 (zeK yG L) 2:=xU (D:=1) (by kernel_rfl) fun m hm=>⟨y6,y4 xf L,(xC yU (zoG L m (by omega))),zoo L⟩
theorem zxR (L:Nat):FOk (xZ rows) L 195 (zlT zaD L) 3:=xU (D:=2) (by kernel_rfl) fun m hm=>⟨znE,zn2 yG L,(xC yU (zo9 L m (by omega))),zvQ L⟩
theorem zfE (L:Nat):FOk (xZ rows) L 495 (zbx zl L) 1:=xU (D:=0) (by kernel_rfl) fun m hm=>⟨zdM,zdG L,yU,zj2 L⟩
theorem zli (L:Nat):FOk (xZ rows) L 459 (zcA xd L) 1:=zBc (d:=zcA xd L) (by kernel_rfl) (fun β args bor k r h=>by
 unfold zcA xd at h
 split at h
 ·obtain ⟨n,rfl,h0,h1,h⟩:=zDT h
  exact ⟨n,rfl,rfl,h0,h1,h⟩
 ·cases h)
theorem zfq (L:Nat):FOk (xZ rows) L 435 (zbi yk L) 2:=xU (D:=1) (by kernel_rfl) fun m hm=>⟨xt,zu xd L,(xC yU (zli L m (by omega))),zjI L⟩
theorem zyj (L:Nat):FOk (xZ rows) L 497 (znb xm L) 1:=xU (D:=0) (by kernel_rfl) fun m hm=>⟨zbB,zbA L,yU,zw4 L⟩
theorem zx5 (L:Nat):FOk (xZ rows) L 496 (znh ym L) 1:=xU (D:=0) (by kernel_rfl) fun m hm=>⟨zdg,zdl L,yU,zxF L⟩
theorem zlf (L:Nat):FOk (xZ rows) L 572 (zbI zr L) 1:=xU (D:=0) (by kernel_rfl) fun m hm=>⟨zd1,zd5 L,yU,zkJ L⟩
theorem zq7 (L:Nat):FOk (xZ rows) L 535 (zjq ze L) 2:=xU (D:=1) (by kernel_rfl) fun m hm=>⟨znz,znH zr L,(xC yU (zlf L m (by omega))),zv2 L⟩
theorem zs9 (L:Nat):FOk (xZ rows) L 534 (zhm zn L) 3:=xU (D:=2) (by kernel_rfl) fun m hm=>⟨zA,xz ze L,(xC yU (zq7 L m (by omega))),zrB L⟩
theorem zsV (L:Nat):FOk (xZ rows) L 498 (zhp zg L) 4:=xU (D:=3) (by kernel_rfl) fun m hm=>⟨za0,za3 zn ze L,(xC (xC yU (zs9 L m (by omega))) (zq7 L m (by omega))),zrK L⟩
theorem zye (L:Nat):FOk (xZ rows) L 458 (znc za6 L) 5:=xU (D:=4) (by kernel_rfl) fun m hm=>⟨zaE,zaB xm ym zg L,(xC (xC (xC yU (zyj L m (by omega))) (zx5 L m (by omega))) (zsV L m (by omega))),zxW L⟩
theorem zlq (L:Nat):FOk (xZ rows) L 434 (zeN yv L) 6:=xU (D:=5) (by kernel_rfl) fun m hm=>⟨zix,ziv yk za6 L,(xC (xC yU (zfq L m (by omega))) (zye L m (by omega))),zqu L⟩
theorem zsM (L:Nat):FOk (xZ rows) L 457 (zhu xo L) 7:=xU (D:=6) (by kernel_rfl) fun m hm=>⟨ziT,ziP y5 zaD zl xu yv L,(xC (xC (xC (xC (xC yU (zwm L m (by omega))) (zxR L m (by omega))) (zfE L m (by omega))) (zlz L m (by omega))) (zlq L m (by omega))),zrZ L⟩
theorem zin (L:Nat):FOk (xZ rows) L 433 (zeb zq L) 8:=xU (D:=7) (by kernel_rfl) fun m hm=>⟨zb6,zb5 xo L,(xC yU (zsM L m (by omega))),zrT L⟩
theorem zsJ (L:Nat):FOk (xZ rows) L 192 (zho yR L) 1:=xU (D:=0) (by kernel_rfl) fun m hm=>⟨zaZ,zaY L,yU,zrH L⟩
theorem zsQ (L:Nat):FOk (xZ rows) L 191 (zhx yO L) 1:=xU (D:=0) (by kernel_rfl) fun m hm=>⟨zi6,zjj L,yU,zrC L⟩
theorem zpT (L:Nat):FOk (xZ rows) L 157 (zfj zF L) 2:=xU (D:=1) (by kernel_rfl) fun m hm=>⟨zgM,zgO yR yO L,(xC (xC yU (zsJ L m (by omega))) (zsQ L m (by omega))),zph L⟩
theorem zkS (L:Nat):FOk (xZ rows) L 414 (zc8 ya L) 9:=xU (D:=8) (by kernel_rfl) fun m hm=>⟨zhG,zhM xu zq zF yv yk L,(xC (xC (xC (xC (xC yU (zlz L m (by omega))) (zin L m (by omega))) (zpT L m (by omega))) (zlq L m (by omega))) (zfq L m (by omega))),zpZ L⟩
theorem zl6 (L:Nat):FOk (xZ rows) L 415 (zfs xb L) 9:=xU (D:=8) (by kernel_rfl) fun m hm=>⟨zi7,zjy zq L,(xC yU (zin L m (by omega))),zr8 L⟩
theorem zuY (L:Nat):FOk (xZ rows) L 410 (zg6 yc L) 10:=xU (D:=9) (by kernel_rfl) fun m hm=>⟨zlc,zk8 ya xb L,(xC (xC yU (zkS L m (by omega))) (zl6 L m (by omega))),zul L⟩
theorem zxG (L:Nat):FOk (xZ rows) L 225 (zhv zd L) 1:=xU (D:=0) (by kernel_rfl) fun m hm=>⟨znD,znB L,yU,zv8 L⟩
theorem zqj (L:Nat):FOk (xZ rows) L 247 (zfN xJ L) 1:=xU (D:=0) (by kernel_rfl) fun m hm=>⟨zhP,zhR L,yU,zp5 L⟩
theorem zqM (L:Nat):FOk (xZ rows) L 217 (zhe yd L) 1:=xU (D:=0) (by kernel_rfl) fun m hm=>⟨zny,znP L,yU,zvX L⟩
theorem zgV (L:Nat):FOk (xZ rows) L 231 (zcl za L) 2:=xU (D:=1) (by kernel_rfl) fun m hm=>⟨zhK,zhH xJ yd L,(xC (xC yU (zqj L m (by omega))) (zqM L m (by omega))),zp9 L⟩
theorem zqa (L:Nat):FOk (xZ rows) L 274 (zfh xj L) 3:=xU (D:=2) (by kernel_rfl) fun m hm=>⟨zhb,zgL za L,(xC yU (zgV L m (by omega))),zo6 L⟩
theorem zug (L:Nat):FOk (xZ rows) L 651 (zeE yb L) 4:=xU (D:=3) (by kernel_rfl) fun m hm=>⟨zbk,zbn xj za L,(xC (xC yU (zqa L m (by omega))) (zgV L m (by omega))),zsw L⟩
theorem zsE (L:Nat):FOk (xZ rows) L 193 (zfu xl L) 1:=xU (D:=0) (by kernel_rfl) fun m hm=>⟨zjD,zjc L,yU,zr4 L⟩
theorem zuJ (L:Nat):FOk (xZ rows) L 453 (zek zc L) 2:=xU (D:=1) (by kernel_rfl) fun m hm=>⟨zbL,zbM xl L,(xC yU (zsE L m (by omega))),ztR L⟩
theorem zor (L:Nat):FOk (xZ rows) L 130 (zeq xa L) 1:=xU (D:=0) (by kernel_rfl) fun m hm=>⟨zle,zlk L,yU,zt4 L⟩
theorem zuv (L:Nat):FOk (xZ rows) L 654 (zjH xc L) 2:=xU (D:=1) (by kernel_rfl) fun m hm=>⟨zbh,zbe xa L,(xC yU (zor L m (by omega))),zue L⟩
theorem zqg (L:Nat):FOk (xZ rows) L 655 (zfW zb L) 9:=xU (D:=8) (by kernel_rfl) fun m hm=>⟨zhC,zhQ zq zl L,(xC (xC yU (zin L m (by omega))) (zfE L m (by omega))),zp7 L⟩
theorem zmC (L:Nat):FOk (xZ rows) L 649 (zdd zaf L) 11:=xU (D:=10) (by kernel_rfl) fun m hm=>⟨yf,zf yc zd za yb ya yd xb xc zc zb xa L,(xC (xC (xC (xC (xC (xC (xC (xC (xC (xC (xC yU (zuY L m (by omega))) (zxG L m (by omega))) (zgV L m (by omega))) (zug L m (by omega))) (zkS L m (by omega))) (zqM L m (by omega))) (zl6 L m (by omega))) (zuv L m (by omega))) (zuJ L m (by omega))) (zqg L m (by omega))) (zor L m (by omega))),zlF L⟩
end
section
open Go.ChangeShapes Go.WideShapes Go.RowKit Go.Deep
set_option linter.unusedVariables false
set_option linter.unusedSimpArgs false
inductive CT where
 | int (k:IntKind)
 | bool
 | str
 | sl (cs:List CT)
inductive HasC:CT→V→Prop
 | int (k:IntKind) (n:Int) (h:(Lit.int k n).wf=true):HasC (.int k) (.sc (.int k n))
 | bool (b:Bool):HasC .bool (.sc (.bool b))
 | str (s:ByteArray) (h:s.size≤maxLen):HasC .str (.sc (.string s))
 | sl (cs:List CT) (es:List (List V)) (hl:es.length≤maxLen) (h0:∀ e ∈ es,e.length=cs.length) (h:∀ e ∈ es,∀ (i:Nat) (c:V) (ct:CT),e[i]?=some c→cs[i]?=some ct→HasC ct c):HasC (.sl cs) (.sl cs.length es)
def HasRow (cts:List CT) (vs:List V):Prop:=vs.length=cts.length∧∀ (i:Nat) (c:V) (ct:CT),vs[i]?=some c→cts[i]?=some ct→HasC ct c
def zrr (f:TypeId→Option (List CT)) (size:TypeId→Nat):List Field→Nat→Option (List CT)
 | [],_=>some []
 | x::xs,off=>do
  let a ← f x.type
  if x.offset=off∧size x.type=a.length then
   let b ← zrr f size xs (off+a.length)
   some (a++b)
  else none
def zl4 (P:Program):Nat→TypeId→Option (List CT)
 | 0,_=>none
 | d+1,t=>match P.underlying t with
  | some .bool=>some [.bool]
  | some (.int k)=>some [.int k]
  | some .string=>some [.str]
  | some (.slice e)=>do
   let c ← zl4 P d e
   if P.cellsOf e=c.length∧0 < c.length then some [.sl c] else none
  | some (.array n e)=>do
   let c ← zl4 P d e
   if P.cellsOf e=c.length∧P.cellsOf t=n * c.length then some (List.replicate n c).flatten else none
  | some (.struct fs)=>do
   let c ← zrr (zl4 P d) P.cellsOf fs.toList 0
   if P.cellsOf t=c.length then some c else none
  | _=>none
section
variable {H:Type} {enc:TypeId × Value→H} {P:Program} {w:World} {base:Nat} {spare:Nat→Bool} {held:Bool} {ren:Rn}
def RdC (ren:Rn) (w:World) (cts:List CT) (cs:List Value) (vs:List V):Prop :=
 cs.length=cts.length∧vs.length=cts.length∧∀ (i:Nat) (u:Value) (v:V) (ct:CT),cs[i]?=some u→vs[i]?=some v→cts[i]?=some ct→u.oneCell'=true∧RepP ren w zhU v u∧HasC ct v
theorem RdC.one {ct:CT} {u:Value} {v:V} (h1:u.oneCell'=true) (h2:RepP ren w zhU v u) (h3:HasC ct v):RdC ren w [ct] [u] [v]:=by
 refine ⟨rfl,rfl,fun i u' v' ct' hu hv hc=>?_⟩
 cases i with
 | zero=>simp at hu hv hc; subst hu; subst hv; subst hc; exact ⟨h1,h2,h3⟩
 | succ i=>simp at hu
theorem RdC.nil:RdC ren w [] [] []:=⟨rfl,rfl,fun i u v ct h=>by simp at h⟩
theorem RdC.app {c1 c2:List CT} {a1 a2:List Value} {b1 b2:List V} (h1:RdC ren w c1 a1 b1) (h2:RdC ren w c2 a2 b2):RdC ren w (c1++c2) (a1++a2) (b1++b2):=by
 obtain ⟨l1,m1,q1⟩:=h1
 obtain ⟨l2,m2,q2⟩:=h2
 refine ⟨by simp [l1,l2],by simp [m1,m2],fun i u v ct hu hv hc=>?_⟩
 by_cases hi:i < c1.length
 ·rw [List.getElem?_append_left (by omega)] at hu hv hc
  exact q1 i u v ct hu hv hc
 ·rw [List.getElem?_append_right (by omega)] at hu hv hc
  rw [l1] at hu; rw [m1] at hv
  exact q2 _ u v ct hu hv hc
theorem RdC.row {cts:List CT} {cs:List Value} {vs:List V} (h:RdC ren w cts cs vs):HasRow cts vs:=by
 refine ⟨h.2.1,fun i c ct hc ht=>?_⟩
 have hlt:i < cs.length:=by rw [h.1,← h.2.1]; exact (List.getElem?_eq_some_iff.1 hc).1
 exact (h.2.2 i _ c ct (List.getElem?_eq_getElem hlt) hc ht).2.2
theorem zrj {f:TypeId→Option (List CT)} {size:TypeId→Nat} {cs:List Value} (rd:∀ (t:TypeId) (cts:List CT),f t=some cts→∀ x ∈ ([]:List Nat),True) :
  ∀ (fs:List Field) (off:Nat) (cts:List CT),zrr f size fs off=some cts→(∀ x ∈ fs,∀ a,f x.type=some a→∃ vs,RdC ren w a ((cs.drop x.offset).take (size x.type)) vs)→∃ vs,RdC ren w cts ((cs.drop off).take cts.length) vs
 | [],off,cts,h,_=>by
  cases h
  exact ⟨[],by simpa using RdC.nil⟩
 | x::xs,off,cts,h,H=>by
  simp only [zrr,Option.bind_eq_bind,Option.bind_eq_some_iff] at h
  obtain ⟨a,ha,h⟩:=h
  split at h
  ·rename_i hc
   simp only [Option.bind_eq_some_iff,Option.some.injEq] at h
   obtain ⟨b,hb,rfl⟩:=h
   obtain ⟨vs1,r1⟩:=H x (by simp) a ha
   obtain ⟨vs2,r2⟩:=zrj rd xs _ b hb (fun y hy=>H y (by simp [hy]))
   refine ⟨vs1++vs2,?_⟩
   have e:(cs.drop off).take (a++b).length=(cs.drop x.offset).take (size x.type)++(cs.drop (off+a.length)).take b.length:=by
    rw [hc.1,hc.2,List.length_append,List.take_add,List.drop_drop]
   rw [e]
   exact r1.app r2
  ·cases h
theorem zss {cs:List Value} {c:List CT}:∀ (n m:Nat),(∀ i,i < n→∃ vs,RdC ren w c ((cs.drop ((m+i) * c.length)).take c.length) vs)→∃ vs,RdC ren w (List.replicate n c).flatten ((cs.drop (m * c.length)).take (n * c.length)) vs
 | 0,m,H=>⟨[],by simpa using RdC.nil⟩
 | n+1,m,H=>by
  obtain ⟨vs1,r1⟩:=H 0 (by omega)
  obtain ⟨vs2,r2⟩:=zss n (m+1) (fun i hi=>by
   obtain ⟨vs,r⟩:=H (i+1) (by omega)
   exact ⟨vs,by rw [show m+1+i=m+(i+1) by omega]; exact r⟩)
  refine ⟨vs1++vs2,?_⟩
  have e:(cs.drop (m * c.length)).take ((n+1) * c.length)=(cs.drop ((m+0) * c.length)).take c.length++(cs.drop ((m+1) * c.length)).take (n * c.length):=by
   rw [Nat.add_zero,Nat.add_mul n,Nat.one_mul,Nat.add_comm (n * c.length),List.take_add,List.drop_drop,show (m+1) * c.length=m * c.length+c.length by rw [Nat.add_mul,Nat.one_mul]]
   rw [show m+0=m from rfl]
  rw [e,List.replicate_succ,List.flatten_cons]
  exact r1.app r2
theorem zxm {α:Type} {n:Nat}:∀ (es:List (List α)),(∀ e ∈ es,e.length=n)→0 < n→∀ (i:Nat),es.flatten[i]?=(es[i / n]?).bind (fun e=>e[i % n]?)
 | [],_,_,i=>by simp
 | e::es,h,hn,i=>by
  have he:=h e (by simp)
  rw [List.flatten_cons]
  by_cases hi:i < n
  ·rw [List.getElem?_append_left (by omega),Nat.div_eq_of_lt hi,Nat.mod_eq_of_lt hi]; simp
  ·rw [List.getElem?_append_right (by omega),zxm es (fun x hx=>h x (by simp [hx])) hn,he]
   obtain ⟨j,rfl⟩:∃ j,i=j+n:=⟨i - n,by omega⟩
   rw [Nat.add_sub_cancel,Nat.add_div_right _ hn,Nat.add_mod_right]
   simp
theorem zpr:∀ (d:Nat) (t:TypeId) (cts:List CT),zl4 P d t=some cts→∀ (fuel:Nat) (cs:List Value) (x:DataW H × List MemPlace),DataW.trod enc P w base spare held fuel t cs=some x→∃ vs,RdC ren w cts cs vs
 | 0,t,cts,h,fuel,cs,x,hx=>by cases h
 | d+1,t,cts,h,fuel,cs,x,hx=>by
  unfold zl4 at h
  split at h
  ·rename_i ht
   cases h
   obtain ⟨b,rfl,_⟩:=DataW.trod_bool ht hx
   exact ⟨[.sc (.bool b)],.one rfl (.sc _ rfl) (.bool b)⟩
  ·rename_i k ht
   cases h
   obtain ⟨n,rfl,_,hw⟩:=DataW.trod_int ht hx
   exact ⟨[.sc (.int k n)],.one rfl (.sc _ rfl) (.int k n hw)⟩
  ·rename_i ht
   cases h
   obtain ⟨s,rfl,_,hw⟩:=DataW.trod_string ht hx
   exact ⟨[.sc (.string s)],.one rfl (.sc _ rfl) (.str s hw)⟩
  ·rename_i e ht
   simp only [Option.bind_eq_bind,Option.bind_eq_some_iff] at h
   obtain ⟨c,hc,h⟩:=h
   split at h
   ·rename_i hsz
    obtain ⟨hsz,hpos⟩:=hsz
    cases h
    rcases open_slice ht hx with ⟨rfl,_⟩ | ⟨a,len,cap,m,n,D,Pl,rfl,_,hl,hm,hmm,_,hi⟩
    ·refine ⟨[.sl c.length []],.one rfl (.sl _ [] none 0 (fun _=>undef) (Nat.le_refl _) (by simp) 0 0 (by simp) (by simp) (by simp) (by simp)) (.sl c [] (by simp) (by simp) (by simp))⟩
    ·have hlm:len≤m:=by rw [hmm]; split <;> omega
     have each:∀ i,i < len→∃ (us:List Value) (vs:List V),RdC ren w c us vs∧∀ j,j < c.length→w.cell? ((a.add (i * c.length)).add j)=us[j]?:=by
      intro i hil
      obtain ⟨cs',h1,h2⟩:=hi i (by omega)
      rw [hsz] at h1
      obtain ⟨_,hcl,hat⟩:=World.cells?_some h1
      obtain ⟨vs,r⟩:=zpr d e c hc _ _ _ h2
      exact ⟨cs',vs,r,hat⟩
     have hex:∃ (us:Nat→List Value) (vs:Nat→List V),∀ i,i < len→RdC ren w c (us i) (vs i)∧∀ j,j < c.length→w.cell? ((a.add (i * c.length)).add j)=(us i)[j]?:=by
      have:∀ i,∃ p:List Value × List V,i < len→RdC ren w c p.1 p.2∧∀ j,j < c.length→w.cell? ((a.add (i * c.length)).add j)=p.1[j]?:=by
       intro i
       by_cases hil:i < len
       ·obtain ⟨us,vs,q⟩:=each i hil; exact ⟨(us,vs),fun _=>q⟩
       ·exact ⟨([],[]),fun h=>absurd h hil⟩
      refine ⟨fun i=>(Classical.choose (this i)).1,fun i=>(Classical.choose (this i)).2,fun i hil=>Classical.choose_spec (this i) hil⟩
     obtain ⟨us,vs,hrow⟩:=hex
     have hget:∀ i,i < len→((List.range len).map vs)[i]?=some (vs i):=fun i hil=>by simp [hil]
     have hsz2:∀ e ∈ (List.range len).map vs,e.length=c.length:=by
      intro e he
      obtain ⟨i,hil,rfl⟩:=List.mem_map.1 he
      exact (hrow i (List.mem_range.1 hil)).1.2.1
     have cell:∀ (i:Nat) (v:V),((List.range len).map vs).flatten[i]?=some v→0 < c.length∧i / c.length < len∧(vs (i / c.length))[i % c.length]?=some v∧∃ u,(us (i / c.length))[i % c.length]?=some u∧u.oneCell'=true∧RepP ren w zhU v u∧w.cell? ((a.add (i / c.length * c.length)).add (i % c.length))=some u:=by
      intro i v hv
      have hpos:0 < c.length:=by
       rcases Nat.eq_zero_or_pos c.length with h0 | h0
       ·have:((List.range len).map vs).flatten=[]:=by
         rw [List.flatten_eq_nil_iff]
         intro l hl'
         exact List.length_eq_zero_iff.1 ((hsz2 l hl').trans h0)
        rw [this] at hv; simp at hv
       ·exact h0
      rw [zxm _ hsz2 hpos] at hv
      have hlt:i / c.length < len:=by
       cases hq:((List.range len).map vs)[i / c.length]? with
       | none=>rw [hq] at hv; simp at hv
       | some e=>have:=(List.getElem?_eq_some_iff.1 hq).1; simpa using this
      rw [hget _ hlt] at hv
      have hv:(vs (i / c.length))[i % c.length]?=some v:=hv
      have hr:=hrow _ hlt
      have hm:=Nat.mod_lt i hpos
      have hu:(us (i / c.length))[i % c.length]?=some ((us (i / c.length))[i % c.length]'(by rw [hr.1.1]; exact hm)):=List.getElem?_eq_getElem _
      obtain ⟨q1,q2,q3⟩:=hr.1.2.2 _ _ _ _ hu hv (List.getElem?_eq_getElem hm)
      exact ⟨hpos,hlt,hv,_,hu,q1,q2,by rw [hr.2 _ hm]; exact hu⟩
     have spot:((List.range len).map vs).flatten≠[]→a.spot=none:=by
      intro hne
      have hl0:0 < ((List.range len).map vs).flatten.length:=List.length_pos_iff.2 hne
      obtain ⟨_,_,_,u,_,_,_,hcell⟩:=cell 0 _ (List.getElem?_eq_getElem hl0)
      have hcell:w.cell? a=some u:=by simpa [Addr.add] using hcell
      unfold World.cell? at hcell
      split at hcell
      ·split at hcell
       ·cases hcell
       ·rename_i hs; simpa using hs
      ·cases hcell
     have addr:((List.range len).map vs).flatten≠[]→a=⟨a.block,a.off,none⟩:=by
      intro hne
      have:=spot hne
      cases a; simp_all
     have addto:∀ i v,((List.range len).map vs).flatten[i]?=some v→(a.add (i / c.length * c.length)).add (i % c.length)=⟨a.block,a.off+i,none⟩:=by
      intro i v hv
      have hne:((List.range len).map vs).flatten≠[]:=by intro h0; rw [h0] at hv; simp at hv
      rw [addr hne,zc0,zc0]
      have:=Nat.div_add_mod i c.length
      rw [Nat.mul_comm] at this
      show (⟨a.block,a.off+i / c.length * c.length+i % c.length,none⟩:Addr)=⟨a.block,a.off+i,none⟩
      congr 1; omega
     have hcap:len≤maxLen:=by omega
     have hlen:((List.range len).map vs).length=len:=by simp
     have rp:RepP ren w zhU (.sl c.length ((List.range len).map vs)) (.slice (some a) ((List.range len).map vs).length cap):=by
      by_cases hne:((List.range len).map vs).flatten=[]
      ·
       have:(List.range len).map vs=[]:=by
        cases hes:(List.range len).map vs with
        | nil=>rfl
        | cons e es =>
         have h1:=hsz2 e (by rw [hes]; simp)
         rw [hes,List.flatten_cons,List.append_eq_nil_iff] at hne
         rw [hne.1] at h1
         simp at h1; omega
       rw [this]
       exact .sl _ [] (some a) cap (fun _=>undef) (Nat.zero_le _) (by simp) 0 0 (by simp) (by simp) (by simp) (by simp)
      ·refine .sl _ _ (some a) cap (fun i=>(w.cell? ⟨a.block,a.off+i,none⟩).getD undef) (by rw [hlen]; exact hl) hsz2 a.block a.off (fun _=>by rw [← addr hne]) (fun i v hv=>?_) (fun i v hv=>?_) (fun i v hv=>?_) <;>
        (obtain ⟨hpos,hlt,hv',u,hu,q1,q2,hcell⟩:=cell i v hv
         rw [addto i v hv] at hcell
         simp only [hcell,Option.getD_some])
       ·exact ⟨fun h=>h,trivial⟩
       ·exact q1
       ·exact q2
     refine ⟨[.sl c.length ((List.range len).map vs)],.one rfl (by rw [hlen] at rp; exact rp) (.sl c _ (by rw [hlen]; exact hcap) hsz2 (fun e he i v ct hv hct=>?_))⟩
     obtain ⟨q,hq,rfl⟩:=List.mem_map.1 he
     exact (hrow q (List.mem_range.1 hq)).1.row.2 i v ct hv hct
   ·cases h
  ·rename_i n e ht
   simp only [Option.bind_eq_bind,Option.bind_eq_some_iff] at h
   obtain ⟨c,hc,h⟩:=h
   split at h
   ·rename_i hsz
    cases h
    obtain ⟨xs,m,_,_,hl,hxl,hi⟩:=DataW.trod_array ht hx
    have:=zss (ren:=ren) (w:=w) (cs:=cs) (c:=c) n 0 (fun i hin=>by
     have:=hi i hin
     rw [List.getElem?_eq_getElem (by omega)] at this
     rw [hsz.1] at this
     obtain ⟨vs,r⟩:=zpr d e c hc _ _ _ this
     exact ⟨vs,by rw [Nat.zero_add]; exact r⟩)
    rw [Nat.zero_mul,List.drop_zero,List.take_of_length_le (by omega)] at this
    exact this
   ·cases h
  ·rename_i fs ht
   simp only [Option.bind_eq_bind,Option.bind_eq_some_iff] at h
   obtain ⟨c,hc,h⟩:=h
   split at h
   ·rename_i hsz
    cases h
    obtain ⟨xs,m,_,_,hl,hxl,hi⟩:=DataW.trod_struct ht hx
    have:=zrj (ren:=ren) (w:=w) (cs:=cs) (fun _ _ _ _ h=>by cases h) fs.toList 0 cts hc (fun y hy a ha=>by
     obtain ⟨i,hil,rfl⟩:=List.getElem_of_mem hy
     have hil':i < fs.size:=by simpa using hil
     have:=hi i fs[i] (Array.getElem?_eq_getElem hil')
     rw [List.getElem?_eq_getElem (by omega)] at this
     exact zpr d _ a ha _ _ _ (by simpa using this))
    rw [List.drop_zero,List.take_of_length_le (by omega)] at this
    exact this
   ·cases h
  ·cases h
theorem zyz {r:Reach} {b0:Nat} {t:TypeId} {v:Value} {dd:DataW H} {p:List MemPlace} {ct:CT} {d:Nat} (hv1:v.cells=#[v]) (h:DataW.Trod enc P w base spare held t v dd p) (hc:zl4 P d t=some [ct]) :
  ∃ x,HasC ct x∧RepP ren w zhU x v:=by
 obtain ⟨fuel,hf⟩:=h
 obtain ⟨vs,rd⟩:=zpr (ren:=ren) d t [ct] hc _ _ _ hf
 rw [hv1] at rd
 have hl:vs.length=1:=rd.2.1
 obtain ⟨x,rfl⟩:∃ x,vs=[x]:=by
  match vs,hl with
  | [x],_=>exact ⟨x,rfl⟩
 obtain ⟨q1,q2,q3⟩:=rd.2.2 0 v x ct rfl rfl rfl
 exact ⟨x,q3,q2⟩
theorem HasC.int_inv {k:IntKind} {v:V} (h:HasC (.int k) v):∃ n,v=.sc (.int k n)∧(Lit.int k n).wf=true:=by
 cases h with | int _ n h=>exact ⟨n,rfl,h⟩
theorem HasC.sl_inv {cs:List CT} {v:V} (h:HasC (.sl cs) v):∃ es,v=.sl cs.length es∧es.length≤maxLen∧∀ e ∈ es,HasRow cs e:=by
 cases h with | sl _ es hl h0 h=>exact ⟨es,rfl,hl,fun e he=>⟨h0 e he,h e he⟩⟩
end
def zrw:V→Bor→Option Bool:=fun v _=>match v with
 | .sc (.bool true)=>some true
 | _=>none
theorem zAp {v:V} {b:Bor} (h:zrw v b=some true):v=.sc (.bool true):=by
 unfold zrw at h
 split at h
 ·rfl
 ·cases h
end
section
set_option linter.unusedVariables false
set_option linter.unusedSimpArgs false
section
variable {β:Type}
theorem xr {α:Type} (a:α) (k:α→Option β):lt a k=k a:=Eq.trans rfl rfl
theorem zj {p:Prop} {inst:Decidable p} (h:p) (k:Option β):@chk β p inst k=k:=(zf8 p k).trans (if_pos h)
theorem ztQ {inst:Decidable True} (k:Option β):@chk β True inst k=k:=(zf8 True k).trans (if_pos trivial)
theorem zoW (a b:Option β):ifb true a b=a:=rfl
theorem zd8 (a b:Option β):ifb false a b=b:=rfl
theorem zu6 {p:Prop} {inst:Decidable p} (a b:Option β):ifb (@decide p inst) a b=if p then a else b:=by
 by_cases h:p <;> simp [ifb,h]
theorem xQ {p:Prop} {inst:Decidable p} (h:p) (a b:Option β):ifb (@decide p inst) a b=a:=by rw [zu6,if_pos h]
theorem yP {p:Prop} {inst:Decidable p} (h:¬ p) (a b:Option β):ifb (@decide p inst) a b=b:=by rw [zu6,if_neg h]
theorem zj7 {kd:IntKind} {cs:List V} {off:Nat} {n:Int} (h:cs[off]?=some (.sc (.int kd n))) (k:Int→Option β):cI kd cs off k=k n:=by
 simp [cI,zeg,h,aI,ztQ]
theorem zrt {sz:Nat} {cs:List V} {off:Nat} {es:List (List V)} (h:cs[off]?=some (.sl sz es)) (k:List (List V)→Option β):cL sz cs off k=k es:=by
 simp [cL,zeg,h,aL,ztQ]
theorem zBT {sz:Nat} {cs:List V} {off:Nat} {es:List (List V)} (h:cs[off]?=some (.sl sz es)) (k:List (List V)→Option β):cLd sz cs off k=k es:=by
 simp [cLd,zeg,h,aLd,ztQ]
theorem zBD {es:List (List V)} {j:Int} {c:List V} (h0:0≤j) (h:es[j.toNat]?=some c) (k:List V→Option β):idx es j k=k c:=by
 simp [idx,h0,h,ztQ]
theorem zbD {es:List (List V)} {j:Nat} {c:List V} (h:es[j]?=some c) (k:List V→Option β):idx es (j:Int) k=k c :=
 zBD (Int.natCast_nonneg j) (by simpa using h) k
end
theorem xF {n:Int} (h1:-9223372036854775808≤n) (h2:n≤9223372036854775807):IntKind.wrap .i64 n=n:=IntWalk.i64_in _ ⟨h1,h2⟩
theorem zwJ {k:IntKind} {n:Int} (hk:k.signed=false) (h1:0≤n) (h2:n < 2 ^ k.bits):IntKind.wrap k n=n:=by
 unfold IntKind.wrap
 simp only [hk,Bool.false_and,Bool.false_eq_true,if_false]
 exact Int.emod_eq_of_lt h1 h2
theorem zkk {n:Int} (h1:0≤n) (h2:n≤18446744073709551615):IntKind.wrap .u64 n=n:=zwJ rfl h1 (Int.lt_of_le_of_lt h2 (by decide))
theorem zmf {n:Int} (h1:0≤n) (h2:n≤4294967295):IntKind.wrap .u32 n=n:=zwJ rfl h1 (Int.lt_of_le_of_lt h2 (by decide))
theorem zCS {n:Int} (h1:0≤n) (h2:n≤255):IntKind.wrap .u8 n=n:=zwJ rfl h1 (Int.lt_of_le_of_lt h2 (by decide))
theorem zD8 {n:Int} (h:(Lit.int .u8 n).wf=true):0≤n∧n≤255:=by
 simpa [Lit.wf,IntKind.min,IntKind.max,IntKind.signed,IntKind.bits] using h
def zo (k:IntKind) (l:List Int):List (List V):=l.map fun n=>[.sc (.int k n)]
theorem yw (k:IntKind) (l:List Int):(zo k l).length=l.length:=by simp [zo]
theorem zsG (k:IntKind) {l:List Int} {i:Nat} (h:i < l.length):(zo k l)[i]?=some [.sc (.int k l[i])]:=by simp [zo,h]
theorem zvB (k:IntKind) (l:List Int) (i:Nat):(zo k l).drop i=zo k (l.drop i):=by simp [zo,List.map_drop]
theorem zfH (k:IntKind) (l:List Int) (i:Nat):(zo k l).take i=zo k (l.take i):=by simp [zo,List.map_take]
theorem ze0 (k:IntKind) (l m:List Int):zo k l++zo k m=zo k (l++m):=by simp [zo]
theorem HasRow.int1 {k:IntKind} {e:List V} (h:HasRow [.int k] e):∃ n,e=[.sc (.int k n)]∧(Lit.int k n).wf=true:=by
 obtain ⟨h1,h2⟩:=h
 match e,h1 with
 | [v],_ =>
  obtain ⟨n,rfl,hn⟩:=(h2 0 v _ rfl rfl).int_inv
  exact ⟨n,rfl,hn⟩
theorem zuS {k:IntKind}:∀ {es:List (List V)},(∀ e ∈ es,HasRow [.int k] e)→∃ l:List Int,es=zo k l∧∀ n ∈ l,(Lit.int k n).wf=true
 | [],_=>⟨[],rfl,by simp⟩
 | e::es,h=>by
  obtain ⟨n,rfl,hn⟩:=(h e (by simp)).int1
  obtain ⟨l,rfl,hl⟩:=zuS (es:=es) (fun x hx=>h x (by simp [hx]))
  exact ⟨n::l,rfl,by simpa [hn] using hl⟩
def row (k:IntKind) (l:List Int):List V:=l.map fun n=>.sc (.int k n)
theorem zC (k:IntKind) (l:List Int):(row k l).length=l.length:=by simp [row]
theorem zoT (k:IntKind):∀ (n:Nat) (l:List Int),n≤l.length→xh 1 n (row k l)=zo k (l.take n)
 | 0,l,_=>by simp [xh,zo]
 | n+1,[],h=>by simp at h
 | n+1,x::l,h=>by
  have:=zoT k n l (by simpa using h)
  simp only [row] at this
  simp [xh,row,zo,this]
theorem zBt (k:IntKind) (l:List Int) (i:Nat):(row k l).drop i=row k (l.drop i):=by simp [row,List.map_drop]
theorem zBr (k:IntKind) (l:List Int) (i:Nat):(row k l).take i=row k (l.take i):=by simp [row,List.map_take]
end
section
set_option linter.unusedVariables false
set_option linter.unusedSimpArgs false
theorem zd7 {cs new:List V} (h:new.length=cs.length):xn cs 0 new=new:=by
 simp [xn,h]
theorem zz8 {cs:List V} {off:Nat} {v:V} (h:off < cs.length):xn cs off [v]=cs.set off v:=by
 simp only [xn,List.length_singleton]
 rw [List.set_eq_take_append_cons_drop,if_pos h]
 simp
theorem zso {sz:Nat}:∀ {es:List (List V)},(∀ e ∈ es,e.length=sz)→xh sz es.length es.flatten=es
 | [],_=>rfl
 | e::es,h=>by
  have he:=h e (by simp)
  have:=zso (es:=es) (fun x hx=>h x (by simp [hx]))
  simp only [List.length_cons,xh,List.flatten_cons]
  rw [List.take_append_of_le_length (by omega),List.take_of_length_le (by omega),List.drop_append_of_le_length (by omega),List.drop_of_length_le (by omega),List.nil_append,this]
theorem zql (k:IntKind):∀ (l m:List Int),l.length=m.length→zfo (row k l) (row k m)=some (decide (l=m))
 | [],[],_=>rfl
 | x::l,y::m,h=>by
  have:=zql k l m (by simpa using h)
  simp only [row] at this
  simp only [row,List.map_cons,zfo,if_true,this,Option.map_some]
  congr 1
  by_cases h1:x=y <;> by_cases h2:l=m <;> simp [h1,h2]
theorem zC8 {β:Type} (k:IntKind) {n:Nat} {l m:List Int} (h1:l.length=n) (h2:m.length=n) (κ:Bool→Option β):eqC n (row k l) (row k m) κ=κ (decide (l=m)):=by
 simp only [eqC,zC,h1,h2,and_self,ztQ,zql k l m (by omega)]
theorem zxS {β:Type} {p:Prop} {inst:Decidable p} (a b:Option β):ifb (!(@decide p inst)) a b=if p then b else a:=by
 by_cases h:p <;> simp [ifb,h]
theorem zcr {β:Type} (x y:Int) (a b:Option β):ifb (x != y) a b=if x=y then b else a:=by
 by_cases h:x=y
 ·subst h; simp [ifb]
 ·rw [bne_iff_ne.2 h,if_neg h]; rfl
end
section
set_option linter.unusedVariables false
set_option linter.unusedSimpArgs false
def zEt {α:Type} (p:α→Bool):List α→Nat→Int
 | [],_=>-1
 | x::l,i=>if p x=true then (i:Int) else zEt p l (i+1)
theorem zao {i:Nat} (h:i≤1000000000):IntKind.wrap .i64 ((i:Int)+1)=((i+1:Nat):Int):=by
 rw [xF (by omega) (by omega)]; omega
end
end Go.Proofs.YteopmmegeagklaaDoor
