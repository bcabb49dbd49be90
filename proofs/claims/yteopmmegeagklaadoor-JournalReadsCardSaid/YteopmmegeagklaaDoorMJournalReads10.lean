/- Part 10 of the proof of JournalReads: an abstract machine over plain values, its soundness, and the functions of the program on plain values. -/
import Derived.Test.YteopmmegeagklaaDoorMJournalReads9
namespace Go.Proofs.YteopmmegeagklaaDoor
section
set_option maxRecDepth 100000
set_option linter.unusedVariables false
set_option linter.unusedSimpArgs false
def zhe:CC:=(.seq (.reg [oo 66 (.bin .lss (tq 65) (tq 64))])
 (.seq (.cond (tq 66)
 .skip
 (.seq (.mask (bl 31525197391597633 92) (bl 4794868975481142876659842815 92))
 (.exit 2)))
 (.seq (.block 3 (.seq (.reg [oo 67 (.indexAddrS 3 (tq 63) (tq 65)),
   oo 68 (.load true 3 (tq 67) false),
   oo 16 (.alloc true [(.sc (.int .i64 0)),(.sc (.int .i64 0)),(.gs 1 [])]),
   oz (.store 3 (tq 16) (tq 68))])
 (.seq (.reg [oo 70 (.move (tq 14) false),
   oo 71 (.load true 3 (tq 16) false),
   oo 72 (.call 414 [((tq 70),0),((tq 71),1)] []),
   oo 69 (.move (tq 72) true),
   oo 73 (.extract (tq 69) 0),
   oo 74 (.pull (tq 69) 1),
   oo 17 (.move (tq 73) false),
   oo 18 (.move (tq 74) false)])
 (.seq (.reg [oo 76 (.move (tq 14) false),
   oo 77 (.load true 3 (tq 16) false),
   oo 78 (.call 652 [((tq 76),0),((tq 77),1)] []),
   oo 75 (.move (tq 78) true),
   oo 79 (.extract (tq 75) 0),
   oo 80 (.pull (tq 75) 1),
   oo 19 (.move (tq 79) false),
   oo 20 (.move (tq 80) false)])
 (.seq (.reg [oo 81 (.move (tq 18) false),
   oo 82 (.move (tq 20) false),
   oo 83 (.bin .neq (tq 81) (tq 82)),
   oo 84 (.move (tq 83) false),
   ⟨(some 85),false,(some (84,false)),.move (tq 17) false⟩,
   ⟨(some 86),false,(some (84,false)),.move (tq 19) false⟩,
   ⟨(some 87),false,(some (84,false)),.call 130 [((tq 85),0),((tq 86),0)] []⟩,
   ⟨(some 88),false,(some (84,false)),.un .not (tq 87)⟩,
   oo 89 (.pick (tq 84) (.const (.sc (.bool true))) (tq 88))])
 (.cond (tq 89)
 (.seq (.reg [oo 8 (.move (.const (.sc (.bool false))) false)])
 (.seq (.mask (bl 256 92) (bl 4794868940893497738454413247 92))
 .ret))
 .skip))))))
 (.reg [oo 90 (.bin .add (tq 65) (.const (.sc (.int .i64 1)))),
   oo 65 (.move (tq 90) false)]))))
def zi2:CC:=(.reg [oo 91 (.bin .add (tq 54) (.const (.sc (.int .i64 1)))),
   oo 54 (.move (tq 91) false)])
def zkU:CC:=(.seq (.reg [oo 55 (.bin .lss (tq 54) (tq 53))])
 (.seq (.cond (tq 55)
 .skip
 (.seq (.mask (bl 0 92) (bl 4794868940893497738454412991 92))
 (.exit 0)))
 (.seq (.block 1 (.seq (.reg [oo 56 (.indexAddrS 1 (tq 52) (tq 54)),
   oo 57 (.load false 1 (tq 56) false),
   oo 14 (.move (tq 57) false)])
 (.seq (.dreg [] [(oo 58 (.load true 3 (tq 6) false),ql 6 [12] []),
   (oo 59 (.load true 3 (tq 12) false),ql 12 [6] []),
   (oo 60 (.move (tq 0) false),q0),
   (oo 61 (.call 225 [((tq 60),0)] []),qc [6,12] []),
   (oo 62 (.call 651 [((tq 61),0)] []),qc [6,12] []),
   (oo 63 (.buildSlice 3 3 [(.sc (.int .i64 0)),(.sc (.int .i64 0)),(.sl 1 [])] [(0,3,(tq 58)),(3,3,(tq 59)),(6,3,(tq 62))]),q0),
   (oo 64 (.lenS (tq 63)),q0),
   (oo 65 (.move (.const (.sc (.int .i64 0))) false),q0)])
 (.block 2 (.loop (bl 64595129455375044673 92) (bl 4794868975481142876659842815 92)
 zhe)))))
 zi2)))
def zmu:CC:=(.seq (.reg [oo 8 (.move (.const (.sc (.bool true))) false)])
 .ret)
def zjy:CF:=⟨92,[.tmp 8],
 (.seq (.reg [oo 6 (.box true (tq 2)),
   oo 8 (.move (.const (.sc (.bool false))) false)])
 (.seq (.seq (.reg [oo 21 (.call 410 [] []),
   oo 22 (.un .not (tq 21))])
 (.cond (tq 22)
 (.seq (.reg [oo 8 (.move (.const (.sc (.bool false))) false)])
 .ret)
 .skip))
 (.seq (.seq (.reg [oo 23 (.move (tq 1) false),
   oo 24 (.lenS (tq 23)),
   oo 25 (.bin .gtr (tq 24) (.const (.sc (.int .i64 200)))),
   oo 26 (.move (tq 25) false),
   ⟨(some 27),false,(some (26,false)),.fieldAddr 2 (tq 6)⟩,
   ⟨(some 28),false,(some (26,false)),.load false 1 (tq 27) false⟩,
   ⟨(some 29),false,(some (26,false)),.lenS (tq 28)⟩,
   ⟨(some 30),false,(some (26,false)),.bin .gtr (tq 29) (.const (.sc (.int .i64 100)))⟩,
   oo 31 (.pick (tq 26) (.const (.sc (.bool true))) (tq 30))])
 (.cond (tq 31)
 (.seq (.reg [oo 8 (.move (.const (.sc (.bool true))) false)])
 .ret)
 .skip))
 (.seq (.reg [oo 33 (.move (tq 0) false),
   oo 34 (.call 650 [((tq 33),0)] []),
   oo 32 (.move (tq 34) true),
   oo 35 (.extract (tq 32) 0),
   oo 36 (.extract (tq 32) 1),
   oo 37 (.extract (tq 32) 2),
   oo 9 (.move (tq 35) false),
   oo 10 (.move (tq 36) false),
   oo 11 (.move (tq 37) false)])
 (.seq (.reg [oo 38 (.move (tq 0) false),
   oo 39 (.call 225 [((tq 38),0)] []),
   oo 40 (.call 651 [((tq 39),0)] []),
   oo 12 (.alloc false [(.sc (.int .i64 0)),(.sc (.int .i64 0)),(.gs 1 [])]),
   oz (.store 3 (tq 12) (tq 40))])
 (.seq (.reg [oo 41 (.move (tq 3) false),
   oo 42 (.call 217 [((tq 41),0),((.const (.sc (.int .i64 3))),0)] []),
   oo 43 (.bin .add (.const (.sc (.int .i64 4095))) (tq 42)),
   oo 44 (.makeSlice 1 1 [(.sc (.int .u8 0))] (tq 43) (tq 43)),
   oo 45 (.fieldAddr 2 (tq 12)),
   oz (.store 1 (tq 45) (tq 44))])
 (.seq (.seq (.reg [oo 46 (.move (tq 9) false),
   oo 47 (.move (tq 9) false),
   oo 48 (.move (tq 1) false),
   oo 49 (.buildSlice 1 2 [(.sl 1 [])] [(0,1,(tq 47)),(1,1,(tq 48))]),
   oo 50 (.call 453 [((tq 49),0)] []),
   oo 51 (.move (tq 1) false),
   oo 52 (.buildSlice 1 3 [(.sl 1 [])] [(0,1,(tq 46)),(1,1,(tq 50)),(2,1,(tq 51))]),
   oo 53 (.lenS (tq 52)),
   oo 54 (.move (.const (.sc (.int .i64 0))) false)])
 (.block 0 (.loop (bl 31525197391597633 92) (bl 4794868940893497738454417151 92)
 zkU)))
 zmu)))))))⟩
def zh8:Hint:=⟨[(0,0),(5,2),(5,3),(5,4),(5,5),(13,2),(14,3),(14,4),(15,3),(15,4)],[],[none,none,none,none,none,some ((bl 31525197391597633 92),(bl 4794868940893497738454417151 92)),none,some ((bl 0 92),(bl 4794868940893497738454412991 92)),none,none,some ((bl 64595129455375044673 92),(bl 4794868975481142876659842815 92)),none,some ((bl 31525197391597633 92),(bl 4794868975481142876659842815 92)),none,none,some ((bl 256 92),(bl 4794868940893497738454413247 92)),none],[],[],false,false⟩
def zBp:Nat→Sh:=yV [(28,(.sl 1)),(40,(.row [(.int .i64),(.int .i64),(.sl 1)])),(57,(.sl 1))]
def zBq (xb:zn) (xe:zA) (yf:yw) (xc:yp) (zc:yq) (xa:zk) (zd:yo) (zi:yG) (za:xi) (L:Nat):CBC:=(xB 130 (zd2 za L) (xB 652 (zgJ zi L) (xB 414 (zdz zd L) (xB 453 (zdS xa L) (xB 217 (zhc zc L) (xB 651 (zfB xc L) (xB 225 (zjw yf L) (xB 650 (zhp xe L) (xB 410 (zgB xb L) noC)))))))))
def zwz:St→St:=zZ 0 (bl 31525197391597633 92) (bl 4794868940893497738454417151 92)
def zsW:St→St:=zZ 0 (bl 64595129455375044673 92) (bl 4794868975481142876659842815 92)
def zuW (p0 p52:List (List V)) (p53 p54:Int) (b6:List V) (zHr zHs:Int) (zHC zHA:List (List V)) (zHB:Int):St:=⟨((V.sl 1 p0)::(jn 5 ((V.ptr 6 0)::(jn 5 ((V.ptr 12 0)::(jn 39 ((V.gs 1 p52)::((V.sc (.int .i64 p53))::((V.sc (.int .i64 p54))::(jn 37 [])))))))))),(gn 6 ((.live true b6)::(gn 5 ((.live false [(V.sc (.int .i64 zHr)),(V.sc (.int .i64 zHs)),(V.gs 1 zHC)])::(gn 26 ((.live false [(V.sl 1 zHA),(V.sc (.int .i64 zHB))])::(gn 52 [])))))))⟩
def zrF (p0 p14 p52:List (List V)) (p53 p54:Int) (p63:List (List V)) (p64 p65:Int) (b6:List V) (zHr zHs:Int) (zHC zHA:List (List V)) (zHB:Int) (zHJ:List (List V)) (zHK:Int):St:=⟨((V.sl 1 p0)::(jn 5 ((V.ptr 6 0)::(jn 5 ((V.ptr 12 0)::(jn 1 ((V.sl 1 p14)::(jn 37 ((V.gs 1 p52)::((V.sc (.int .i64 p53))::((V.sc (.int .i64 p54))::(jn 8 ((V.gs 3 p63)::((V.sc (.int .i64 p64))::((V.sc (.int .i64 p65))::(jn 26 [])))))))))))))))),(gn 6 ((.live true b6)::(gn 5 ((.live false [(V.sc (.int .i64 zHr)),(V.sc (.int .i64 zHs)),(V.gs 1 zHC)])::(gn 26 ((.live false [(V.sl 1 zHA),(V.sc (.int .i64 zHB))])::(gn 21 ((.live false [(V.sl 1 zHJ),(V.sc (.int .i64 zHK))])::(gn 30 [])))))))))⟩
def zzX (zHA:List (List V)) (zHB:Int):St:=⟨(jn 92 []),(gn 39 ((.live false [(V.sl 1 zHA),(V.sc (.int .i64 zHB))])::(gn 52 [])))⟩
def zza (p8:Bool) (zHA:List (List V)) (zHB:Int):St:=⟨(jn 8 ((V.sc (.bool p8))::(jn 83 []))),(gn 39 ((.live false [(V.sl 1 zHA),(V.sc (.int .i64 zHB))])::(gn 52 [])))⟩
def zzT (p0 p52:List (List V)) (p53 p54:Int) (b6:List V) (zHr zHs:Int) (zHC zHA:List (List V)) (zHB:Int) (zHJ:List (List V)) (zHK:Int):St:=⟨((V.sl 1 p0)::(jn 5 ((V.ptr 6 0)::(jn 5 ((V.ptr 12 0)::(jn 39 ((V.gs 1 p52)::((V.sc (.int .i64 p53))::((V.sc (.int .i64 p54))::(jn 37 [])))))))))),(gn 6 ((.live true b6)::(gn 5 ((.live false [(V.sc (.int .i64 zHr)),(V.sc (.int .i64 zHs)),(V.gs 1 zHC)])::(gn 26 ((.live false [(V.sl 1 zHA),(V.sc (.int .i64 zHB))])::(gn 21 ((.live false [(V.sl 1 zHJ),(V.sc (.int .i64 zHK))])::(gn 30 [])))))))))⟩
abbrev zcy (β:Type):Type:=List (List V)→List (List V)→Int→Int→List V→Int→Int→List (List V)→List (List V)→Int→Option β
abbrev zdb (β:Type):Type:=List (List V)→List (List V)→List (List V)→Int→Int→List (List V)→Int→Int→List V→Int→Int→List (List V)→List (List V)→Int→List (List V)→Int→Option β
abbrev zip (β:Type):Type:=List (List V)→List (List V)→Int→Int→List V→Int→Int→List (List V)→List (List V)→Int→List (List V)→Int→Option β
def zqX {β:Type} (xb:zn) (xe:zA) (yf:yw) (xc:yp) (zc:yq) (xa:zk) (zd:yo) (zi:yG) (za:xi) (L:Nat) (p0 p1:List (List V)) (p2:List V) (p3:Int) (k_fin:Bool→Option β) (k_hbbbbbbaba:zcy β):Option β :=
 xb β L  (fun v0 =>
 ifb (!v0) (
 k_fin false) (
 ifb (decide (((List.length p1:Nat):Int) > (200:Int))) (
 k_fin true) (
 cLd 1 p2 2 fun v1 =>
 ifb (decide (((List.length v1:Nat):Int) > (100:Int))) (
 k_fin true) (
 xe β L p0 (fun v2 v3 v4 =>
 yf β L p0 (fun v5 v6 =>
 xc β L v5 v6 (fun v7 v8 v9 =>
 chk (List.length v7=3) (
 cI .i64 v7 0 fun v10 =>
 cI .i64 v7 1 fun v11 =>
 cL 1 v7 2 fun v12 =>
 zc β L p3 (3:Int) (fun v13 =>
 lt (IntKind.wrap .i64 (((4095:Int):Int)+v13)) fun x14 =>
 chk (0≤x14∧x14≤x14∧(Int.toNat x14) * 1≤xj∧x14≤xj) (
 xa β L (zh 1 2 [(V.sl 1 v2),(V.sl 1 p1)]) (fun v15 =>
 k_hbbbbbbaba p0 (zh 1 3 [(V.sl 1 v2),(V.sl 1 v15),(V.sl 1 p1)]) ((List.length (zh 1 3 [(V.sl 1 v2),(V.sl 1 v15),(V.sl 1 p1)]):Nat):Int) (0:Int) p2 v10 v11 (List.replicate (Int.toNat x14) [(V.sc (.int .u8 (0:Int)))]) v8 v9)))))))))))
def zle {β:Type} (xb:zn) (xe:zA) (yf:yw) (xc:yp) (zc:yq) (xa:zk) (zd:yo) (zi:yG) (za:xi) (L:Nat) (p0 p52:List (List V)) (p53 p54:Int) (b6:List V) (zHr zHs:Int) (zHC zHA:List (List V)) (zHB:Int) (k_hbbbbbbabaabbaabba:zdb β) (k_x0:List (List V)→Int→Option β):Option β :=
 ifb (decide (p54 < p53)) (
 idx p52 p54 fun c16 =>
 cL 1 c16 0 fun v17 =>
 chk (0+3≤(List.length b6)) (
 yf β L p0 (fun v18 v19 =>
 xc β L v18 v19 (fun v20 v21 v22 =>
 chk ((List.length (List.take 3 b6))=3∧0+3≤9) (
 chk (3=3∧3+3≤(List.length (zr [(V.sc (.int .i64 (0:Int))),(V.sc (.int .i64 (0:Int))),(V.sl 1 ([]:List (List V))),(V.sc (.int .i64 (0:Int))),(V.sc (.int .i64 (0:Int))),(V.sl 1 ([]:List (List V))),(V.sc (.int .i64 (0:Int))),(V.sc (.int .i64 (0:Int))),(V.sl 1 ([]:List (List V)))] 0 (List.take 3 b6)))) (
 chk ((List.length v20)=3∧6+3≤(List.length (zr (zr [(V.sc (.int .i64 (0:Int))),(V.sc (.int .i64 (0:Int))),(V.sl 1 ([]:List (List V))),(V.sc (.int .i64 (0:Int))),(V.sc (.int .i64 (0:Int))),(V.sl 1 ([]:List (List V))),(V.sc (.int .i64 (0:Int))),(V.sc (.int .i64 (0:Int))),(V.sl 1 ([]:List (List V)))] 0 (List.take 3 b6)) 3 [(V.sc (.int .i64 zHr)),(V.sc (.int .i64 zHs)),(V.sl 1 zHC)]))) (
 k_hbbbbbbabaabbaabba p0 v17 p52 p53 p54 (zh 3 3 (zr (zr (zr [(V.sc (.int .i64 (0:Int))),(V.sc (.int .i64 (0:Int))),(V.sl 1 ([]:List (List V))),(V.sc (.int .i64 (0:Int))),(V.sc (.int .i64 (0:Int))),(V.sl 1 ([]:List (List V))),(V.sc (.int .i64 (0:Int))),(V.sc (.int .i64 (0:Int))),(V.sl 1 ([]:List (List V)))] 0 (List.take 3 b6)) 3 [(V.sc (.int .i64 zHr)),(V.sc (.int .i64 zHs)),(V.sl 1 zHC)]) 6 v20)) ((List.length (zh 3 3 (zr (zr (zr [(V.sc (.int .i64 (0:Int))),(V.sc (.int .i64 (0:Int))),(V.sl 1 ([]:List (List V))),(V.sc (.int .i64 (0:Int))),(V.sc (.int .i64 (0:Int))),(V.sl 1 ([]:List (List V))),(V.sc (.int .i64 (0:Int))),(V.sc (.int .i64 (0:Int))),(V.sl 1 ([]:List (List V)))] 0 (List.take 3 b6)) 3 [(V.sc (.int .i64 zHr)),(V.sc (.int .i64 zHs)),(V.sl 1 zHC)]) 6 v20)):Nat):Int) (0:Int) b6 zHr zHs zHC zHA zHB v21 v22))))))) (
 k_x0 zHA zHB)
def zkp {β:Type} (xb:zn) (xe:zA) (yf:yw) (xc:yp) (zc:yq) (xa:zk) (zd:yo) (zi:yG) (za:xi) (L:Nat) (zHA:List (List V)) (zHB:Int) (k_fin:Bool→Option β):Option β :=
 k_fin true
def zhv {β:Type} (xb:zn) (xe:zA) (yf:yw) (xc:yp) (zc:yq) (xa:zk) (zd:yo) (zi:yG) (za:xi) (L:Nat) (p0 p14 p52:List (List V)) (p53 p54:Int) (p63:List (List V)) (p64 p65:Int) (b6:List V) (zHr zHs:Int) (zHC zHA:List (List V)) (zHB:Int) (zHJ:List (List V)) (zHK:Int) (k_ret:Bool→List (List V)→Int→Option β) (k_hbbbbbbabaabbaabba:zdb β) (k_x2:zip β):Option β :=
 ifb (decide (p65 < p64)) (
 idx p63 p65 fun c23 =>
 chk ((List.length (List.take 3 c23))=3∧0+3≤3) (
 lt (zr [(V.sc (.int .i64 (0:Int))),(V.sc (.int .i64 (0:Int))),(V.gs 1 ([]:List (List V)))] 0 (List.take 3 c23)) fun r24 =>
 chk (0+3≤(List.length r24)) (
 zd β L p14 (List.map V.dem (List.take 3 r24)) (fun v25 v26 =>
 chk (0+3≤(List.length r24)) (
 zi β L p14 (List.map V.dem (List.take 3 r24)) (fun v27 v28 =>
 ifb ((v26:Int) != v28) (
 k_ret false zHA zHB) (
 za β L v25 v27 (fun v29 =>
 ifb (!v29) (
 k_ret false zHA zHB) (
 lt (IntKind.wrap .i64 ((p65:Int)+(1:Int))) fun x30 =>
 k_hbbbbbbabaabbaabba p0 p14 p52 p53 p54 p63 p64 x30 b6 zHr zHs zHC zHA zHB zHJ zHK))))))))) (
 k_x2 p0 p52 p53 p54 b6 zHr zHs zHC zHA zHB zHJ zHK)
def zgy {β:Type} (xb:zn) (xe:zA) (yf:yw) (xc:yp) (zc:yq) (xa:zk) (zd:yo) (zi:yG) (za:xi) (L:Nat) (p8:Bool) (zHA:List (List V)) (zHB:Int) (k_ret:Bool→List (List V)→Int→Option β):Option β :=
 k_ret p8 zHA zHB
def zgM {β:Type} (xb:zn) (xe:zA) (yf:yw) (xc:yp) (zc:yq) (xa:zk) (zd:yo) (zi:yG) (za:xi) (L:Nat) (p0 p52:List (List V)) (p53 p54:Int) (b6:List V) (zHr zHs:Int) (zHC zHA:List (List V)) (zHB:Int) (zHJ:List (List V)) (zHK:Int) (k_hbbbbbbaba:zcy β):Option β :=
 lt (IntKind.wrap .i64 ((p54:Int)+(1:Int))) fun x31 =>
 k_hbbbbbbaba p0 p52 p53 x31 b6 zHr zHs zHC zHA zHB
def zjX {β:Type} (xb:zn) (xe:zA) (yf:yw) (xc:yp) (zc:yq) (xa:zk) (zd:yo) (zi:yG) (za:xi) (L:Nat) (p8:Bool) (zHA:List (List V)) (zHB:Int) (k_fin:Bool→Option β):Option β :=
 k_fin p8
def zdk {β:Type} (xb:zn) (xe:zA) (yf:yw) (xc:yp) (zc:yq) (xa:zk) (zd:yo) (zi:yG) (za:xi) (L:Nat) (k_ret:Bool→List (List V)→Int→Option β) (k_x2:zip β):Nat→List (List V)→List (List V)→List (List V)→Int→Int→List (List V)→Int→Int→List V→Int→Int→List (List V)→List (List V)→Int→List (List V)→Int→Option β
 | 0,_,_,_,_,_,_,_,_,_,_,_,_,_,_,_,_=>none
 | n+1,p0,p14,p52,p53,p54,p63,p64,p65,b6,zHr,zHs,zHC,zHA,zHB,zHJ,zHK=>zhv xb xe yf xc zc xa zd zi za L p0 p14 p52 p53 p54 p63 p64 p65 b6 zHr zHs zHC zHA zHB zHJ zHK k_ret (fun p0 p14 p52 p53 p54 p63 p64 p65 b6 zHr zHs zHC zHA zHB zHJ zHK=>zdk xb xe yf xc zc xa zd zi za L k_ret k_x2 n p0 p14 p52 p53 p54 p63 p64 p65 b6 zHr zHs zHC zHA zHB zHJ zHK) k_x2
def zkZ {β:Type} (xb:zn) (xe:zA) (yf:yw) (xc:yp) (zc:yq) (xa:zk) (zd:yo) (zi:yG) (za:xi) (L:Nat) (p0 p52:List (List V)) (p53 p54:Int) (b6:List V) (zHr zHs:Int) (zHC zHA:List (List V)) (zHB:Int) (k_x0:List (List V)→Int→Option β) (k_ret:Bool→List (List V)→Int→Option β) (k_hbbbbbbaba:zcy β):Option β :=
 zle xb xe yf xc zc xa zd zi za L p0 p52 p53 p54 b6 zHr zHs zHC zHA zHB (fun p0 p14 p52 p53 p54 p63 p64 p65 b6 zHr zHs zHC zHA zHB zHJ zHK=>zdk xb xe yf xc zc xa zd zi za L (fun p8 zHA zHB=>zgy xb xe yf xc zc xa zd zi za L p8 zHA zHB k_ret) (fun p0 p52 p53 p54 b6 zHr zHs zHC zHA zHB zHJ zHK=>zgM xb xe yf xc zc xa zd zi za L p0 p52 p53 p54 b6 zHr zHs zHC zHA zHB zHJ zHK k_hbbbbbbaba) L p0 p14 p52 p53 p54 p63 p64 p65 b6 zHr zHs zHC zHA zHB zHJ zHK) k_x0
def zfs {β:Type} (xb:zn) (xe:zA) (yf:yw) (xc:yp) (zc:yq) (xa:zk) (zd:yo) (zi:yG) (za:xi) (L:Nat) (k_x0:List (List V)→Int→Option β) (k_ret:Bool→List (List V)→Int→Option β):Nat→List (List V)→List (List V)→Int→Int→List V→Int→Int→List (List V)→List (List V)→Int→Option β
 | 0,_,_,_,_,_,_,_,_,_,_=>none
 | n+1,p0,p52,p53,p54,b6,zHr,zHs,zHC,zHA,zHB=>zkZ xb xe yf xc zc xa zd zi za L p0 p52 p53 p54 b6 zHr zHs zHC zHA zHB k_x0 k_ret (fun p0 p52 p53 p54 b6 zHr zHs zHC zHA zHB=>zfs xb xe yf xc zc xa zd zi za L k_x0 k_ret n p0 p52 p53 p54 b6 zHr zHs zHC zHA zHB)
def zq5 {β:Type} (xb:zn) (xe:zA) (yf:yw) (xc:yp) (zc:yq) (xa:zk) (zd:yo) (zi:yG) (za:xi) (L:Nat) (p0 p1:List (List V)) (p2:List V) (p3:Int) (k_fin:Bool→Option β):Option β :=
 zqX xb xe yf xc zc xa zd zi za L p0 p1 p2 p3 k_fin (fun p0 p52 p53 p54 b6 zHr zHs zHC zHA zHB=>zfs xb xe yf xc zc xa zd zi za L (fun zHA zHB=>zkp xb xe yf xc zc xa zd zi za L zHA zHB k_fin) (fun p8 zHA zHB=>zjX xb xe yf xc zc xa zd zi za L p8 zHA zHB k_fin) L p0 p52 p53 p54 b6 zHr zHs zHC zHA zHB)
abbrev zrl:=∀ (β:Type),Nat→List (List V)→List (List V)→List V→Int→(Bool→Option β)→Option β
def zkn (β:Type) (L:Nat) (p0 p1:List (List V)) (p2:List V) (p3:Int) (k_fin:Bool→Option β):Option β:=zq5 xb xe yf xc zc xa zd zi za L p0 p1 p2 p3 k_fin
def zBy (zkn:zrl) (L:Nat) (β:Type) (args:List V) (bor:Bor) (k:KK β):Option β:=match args,bor with
 | [a0,a1,a2,a3],[]=>aL 1 a0 fun p0=>aL 1 a1 fun p1=>aG a2 fun p2=>aI .i64 a3 fun p3=>zkn β L p0 p1 p2 p3 (fun p0=>k (V.sc (.bool p0)) [])
 | _,_=>none
def zd0:CC:=(.seq (.seq (.reg [oo 11 (.move (tq 5) false),
   oo 12 (.move (tq 0) false),
   oo 13 (.lenS (tq 12)),
   oo 14 (.bin .lss (tq 11) (tq 13))])
 (.cond (tq 14)
 .skip
 (.seq (.mask (bl 0 55) (bl 31525197391585231 55))
 (.exit 0))))
 (.seq (.block 1 (.seq (.dreg [] [(oo 17 (.move (tq 0) false),q0),
   (oo 18 (.move (tq 5) false),q0),
   (oo 19 (.indexAddrS 3 (tq 17) (tq 18)),q0),
   (oo 20 (.fieldAddr 0 (tq 19)),q0),
   (oo 21 (.load false 1 (tq 20) false),qc [] []),
   (oo 22 (.move (tq 1) false),q0),
   (oo 23 (.move (tq 5) false),q0),
   (oo 24 (.indexAddrS 3 (tq 22) (tq 23)),q0),
   (oo 25 (.fieldAddr 0 (tq 24)),q0),
   (oo 26 (.load false 1 (tq 25) false),qc [] []),
   (oo 27 (.bin .neq (tq 21) (tq 26)),q0),
   (oo 28 (.move (tq 27) false),q0),
   (⟨(some 29),false,(some (28,false)),.move (tq 0) false⟩,q0),
   (⟨(some 30),false,(some (28,false)),.move (tq 5) false⟩,q0),
   (⟨(some 31),false,(some (28,false)),.indexAddrS 3 (tq 29) (tq 30)⟩,q0),
   (⟨(some 32),false,(some (28,false)),.fieldAddr 1 (tq 31)⟩,q0),
   (⟨(some 33),false,(some (28,false)),.load false 1 (tq 32) false⟩,qc [] []),
   (⟨(some 34),false,(some (28,false)),.move (tq 1) false⟩,q0),
   (⟨(some 35),false,(some (28,false)),.move (tq 5) false⟩,q0),
   (⟨(some 36),false,(some (28,false)),.indexAddrS 3 (tq 34) (tq 35)⟩,q0),
   (⟨(some 37),false,(some (28,false)),.fieldAddr 1 (tq 36)⟩,q0),
   (⟨(some 38),false,(some (28,false)),.load false 1 (tq 37) false⟩,qc [] []),
   (⟨(some 39),false,(some (28,false)),.bin .neq (tq 33) (tq 38)⟩,q0),
   (oo 40 (.pick (tq 28) (.const (.sc (.bool true))) (tq 39)),q0),
   (oo 41 (.move (tq 40) false),q0),
   (⟨(some 42),false,(some (41,false)),.move (tq 0) false⟩,q0),
   (⟨(some 43),false,(some (41,false)),.move (tq 5) false⟩,q0),
   (⟨(some 44),false,(some (41,false)),.indexAddrS 3 (tq 42) (tq 43)⟩,q0),
   (⟨(some 45),false,(some (41,false)),.fieldAddr 2 (tq 44)⟩,q0),
   (⟨(some 46),false,(some (41,false)),.load false 1 (tq 45) false⟩,qc [] []),
   (⟨(some 47),false,(some (41,false)),.move (tq 1) false⟩,q0),
   (⟨(some 48),false,(some (41,false)),.move (tq 5) false⟩,q0),
   (⟨(some 49),false,(some (41,false)),.indexAddrS 3 (tq 47) (tq 48)⟩,q0),
   (⟨(some 50),false,(some (41,false)),.fieldAddr 2 (tq 49)⟩,q0),
   (⟨(some 51),false,(some (41,false)),.load false 1 (tq 50) false⟩,qc [] []),
   (⟨(some 52),false,(some (41,false)),.call 130 [((tq 46),0),((tq 51),0)] []⟩,q0),
   (⟨(some 53),false,(some (41,false)),.un .not (tq 52)⟩,q0),
   (oo 54 (.pick (tq 41) (.const (.sc (.bool true))) (tq 53)),q0)])
 (.cond (tq 54)
 (.seq (.reg [oo 4 (.move (.const (.sc (.bool false))) false)])
 (.seq (.mask (bl 16 55) (bl 31525197391585247 55))
 .ret))
 .skip)))
 (.reg [oo 15 (.move (tq 5) false),
   oo 16 (.bin .add (tq 15) (.const (.sc (.int .i64 1)))),
   oo 5 (.move (tq 16) false)])))
def zhV:CC:=(.seq (.reg [oo 4 (.move (.const (.sc (.bool true))) false)])
 .ret)
def zdh:CF:=⟨55,[.tmp 4],
 (.seq (.reg [oo 4 (.move (.const (.sc (.bool false))) false)])
 (.seq (.seq (.reg [oo 6 (.move (tq 0) false),
   oo 7 (.lenS (tq 6)),
   oo 8 (.move (tq 1) false),
   oo 9 (.lenS (tq 8)),
   oo 10 (.bin .neq (tq 7) (tq 9))])
 (.cond (tq 10)
 (.seq (.reg [oo 4 (.move (.const (.sc (.bool false))) false)])
 .ret)
 .skip))
 (.seq (.seq (.reg [oo 5 (.move (.const (.sc (.int .i64 0))) false)])
 (.block 0 (.loop (bl 35 55) (bl 31525197391585263 55)
 zd0)))
 zhV)))⟩
def zqc:Hint:=⟨[],[],[none,none,none,some ((bl 35 55),(bl 31525197391585263 55)),none,some ((bl 0 55),(bl 31525197391585231 55)),none,none,some ((bl 16 55),(bl 31525197391585247 55)),none],[],[],false,false⟩
def zbg:Nat→Sh:=yV [(21,(.int .i64)),(26,(.int .i64)),(33,(.int .i64)),(38,(.int .i64)),(46,(.sl 1)),(51,(.sl 1))]
def zbh (za:xi) (L:Nat):CBC:=(xB 130 (zd2 za L) noC)
def zgs:St→St:=zZ 0 (bl 35 55) (bl 31525197391585263 55)
def zeP (p0 p1:List (List V)) (p5:Int):St:=⟨((V.sl 3 p0)::((V.sl 3 p1)::(jn 3 ((V.sc (.int .i64 p5))::(jn 49 []))))),(gn 55 [])⟩
def zjK (p4:Bool):St:=⟨(jn 4 ((V.sc (.bool p4))::(jn 50 []))),(gn 55 [])⟩
def zkJ:St:=⟨(jn 55 []),(gn 55 [])⟩
def zpv {β:Type} (za:xi) (L:Nat) (p0 p1:List (List V)) (k_fin:Bool→Option β) (k_hbbaba:List (List V)→List (List V)→Int→Option β):Option β :=
 ifb ((((List.length p0:Nat):Int):Int) != ((List.length p1:Nat):Int)) (
 k_fin false) (
 k_hbbaba p0 p1 (0:Int))
theorem zwH {β:Type} (za:xi) (L:Nat) (p0 p1:List (List V)) (k:KK β):zw zbg (zbh za L) L zdh [(V.sl 3 p0),(V.sl 3 p1)] [] k=zpv za L p0 p1 (fun p0=>k (V.sc (.bool p0)) []) (fun p0 p1 p5=>zz (xk zbg (zbh za L) 0 L zd0) zgs L (zeP p0 p1 p5) (yA 0 (xO (xk zbg (zbh za L) 0 L zhV) (yP 0 (CF.res zdh) k)))):=by kernel_rfl
def zj6 {β:Type} (za:xi) (L:Nat) (p0 p1:List (List V)) (p5:Int) (k_ret:Bool→Option β) (k_hbbaba:List (List V)→List (List V)→Int→Option β) (k_x0:Option β):Option β :=
 ifb (decide (p5 < ((List.length p0:Nat):Int))) (
 idx p0 p5 fun c0 =>
 cI .i64 c0 0 fun v1 =>
 idx p1 p5 fun c2 =>
 cI .i64 c2 0 fun v3 =>
 ifb ((v1:Int) != v3) (
 k_ret false) (
 idx p0 p5 fun c4 =>
 cI .i64 (List.drop 1 c4) 0 fun v5 =>
 idx p1 p5 fun c6 =>
 cI .i64 (List.drop 1 c6) 0 fun v7 =>
 ifb ((v5:Int) != v7) (
 k_ret false) (
 idx p0 p5 fun c8 =>
 cL 1 (List.drop 2 c8) 0 fun v9 =>
 idx p1 p5 fun c10 =>
 cL 1 (List.drop 2 c10) 0 fun v11 =>
 za β L v9 v11 (fun v12 =>
 ifb (!v12) (
 k_ret false) (
 lt (IntKind.wrap .i64 ((p5:Int)+(1:Int))) fun x13 =>
 k_hbbaba p0 p1 x13))))) (
 k_x0)
theorem zsl {β:Type} (za:xi) (L:Nat) (p0 p1:List (List V)) (p5:Int) (X:St→Option β) (K:KT β):xk zbg (zbh za L) 0 L zd0 (zeP p0 p1 p5) (zaJ zgs X K)=zj6 za L p0 p1 p5 (fun p4=>K .ret (zjK p4)) (fun p0 p1 p5=>X (zeP p0 p1 p5)) (K (.exit 0) (zkJ)):=by kernel_rfl
def zlg {β:Type} (za:xi) (L:Nat) (p4:Bool) (k_fin:Bool→Option β):Option β :=
 k_fin p4
theorem zp4 {β:Type} (za:xi) (L:Nat) (p4:Bool) (k:KK β):(yA 0 (xO (xk zbg (zbh za L) 0 L zhV) (yP 0 (CF.res zdh) k))) .ret (zjK p4)=zlg za L p4 (fun p0=>k (V.sc (.bool p0)) []):=by kernel_rfl
def zmy {β:Type} (za:xi) (L:Nat) (k_fin:Bool→Option β):Option β :=
 k_fin true
theorem zre {β:Type} (za:xi) (L:Nat) (k:KK β):(yA 0 (xO (xk zbg (zbh za L) 0 L zhV) (yP 0 (CF.res zdh) k))) (.exit 0) (zkJ)=zmy za L (fun p0=>k (V.sc (.bool p0)) []):=by kernel_rfl
def zey {β:Type} (za:xi) (L:Nat) (k_ret:Bool→Option β) (k_x0:Option β):Nat→List (List V)→List (List V)→Int→Option β
 | 0,_,_,_=>none
 | n+1,p0,p1,p5=>zj6 za L p0 p1 p5 k_ret (fun p0 p1 p5=>zey za L k_ret k_x0 n p0 p1 p5) k_x0
theorem zl9 {β:Type} (za:xi) (L:Nat) (K:KT β):∀ (n:Nat) (p0 p1:List (List V)) (p5:Int),zz (xk zbg (zbh za L) 0 L zd0) zgs n (zeP p0 p1 p5) K=zey za L (fun p4=>K .ret (zjK p4)) (K (.exit 0) (zkJ)) n p0 p1 p5:=by
 intro n
 induction n with
 | zero=>intros; rfl
 | succ n ih =>
  intro p0 p1 p5
  refine (zsl za L p0 p1 p5 (fun σ=>zz (xk zbg (zbh za L) 0 L zd0) zgs n σ K) K).trans ?_
  simp only [ih]
  rfl
def zlP {β:Type} (za:xi) (L:Nat) (p0 p1:List (List V)) (k_fin:Bool→Option β):Option β :=
 zpv za L p0 p1 k_fin (fun p0 p1 p5=>zey za L (fun p4=>zlg za L p4 k_fin) (zmy za L k_fin) L p0 p1 p5)
theorem zxF {β:Type} (za:xi) (L:Nat) (p0 p1:List (List V)) (k:KK β):zw zbg (zbh za L) L zdh [(V.sl 3 p0),(V.sl 3 p1)] [] k=zlP za L p0 p1 (fun p0=>k (V.sc (.bool p0)) []):=by
 refine (zwH za L p0 p1 k).trans ?_
 unfold zlP
 first
  | (simp only [zl9,zp4,zre]; done)
  | (simp only [zl9]; rfl)
abbrev zt:=∀ (β:Type),Nat→List (List V)→List (List V)→(Bool→Option β)→Option β
def yc (β:Type) (L:Nat) (p0 p1:List (List V)) (k_fin:Bool→Option β):Option β:=zlP za L p0 p1 k_fin
def zil (yc:zt) (L:Nat) (β:Type) (args:List V) (bor:Bor) (k:KK β):Option β:=match args,bor with
 | [a0,a1],[]=>aL 3 a0 fun p0=>aL 3 a1 fun p1=>yc β L p0 p1 (fun p0=>k (V.sc (.bool p0)) [])
 | _,_=>none
theorem zxU (L:Nat) (β:Type) (args:List V) (bor:Bor) (k:KK β) (r:β) (h:zil yc L β args bor k=some r):zw zbg (zbh za L) L zdh args bor k=some r:=by
 unfold zil at h
 split at h
 ·have q:=zP h; clear h; obtain ⟨p0,rfl,h⟩:=q
  have q:=zP h; clear h; obtain ⟨p1,rfl,h⟩:=q
  exact (zxF za L p0 p1 k).trans h
 ·cases h
def zgn:CF:=⟨16,[.tmp 2],
 (.seq (.reg [oo 2 (.move (.const (.gs 1 [])) true)])
 (.seq (.reg [oo 7 (.move (tq 0) false),
   oo 8 (.call 433 [((tq 7),0)] []),
   oo 6 (.move (tq 8) true),
   oo 9 (.extract (tq 6) 0),
   oo 10 (.pull (tq 6) 1),
   oo 11 (.pull (tq 6) 2),
   oo 5 (.alloc true [(.sc (.int .u8 0)),(.sc (.int .u8 0)),(.sc (.int .u8 0)),(.sc (.int .u8 0))]),
   oo 3 (.move (tq 9) false),
   oo 4 (.move (tq 10) false),
   oz (.store 4 (tq 5) (tq 11))])
 (.seq (.reg [oo 12 (.move (tq 0) true),
   oo 13 (.move (tq 4) false),
   oo 14 (.sliceS 1 (tq 12) none (some (tq 13)) none),
   oo 15 (.call 495 [((tq 14),0)] []),
   oo 2 (.move (tq 15) true)])
 .ret)))⟩
def zmD:Hint:=⟨[(0,0),(1,2),(1,3),(2,0),(2,4)],[],[none],[],[],false,false⟩
def zj7:Nat→Sh:=yV []
def zjJ (xu:zbt) (xo:zak) (L:Nat):CBC:=(xB 495 (zby xo L) (xB 433 (ze1 xu L) noC))
def zk1 {β:Type} (xu:zbt) (xo:zak) (L:Nat) (p0:List (List V)) (k_fin:List (List V)→Option β):Option β :=
 xu β L p0 (fun v0 v1 v2 =>
 chk ((List.length v2)=4∧0+4≤4) (
 lt (zr [(V.sc (.int .u8 (0:Int))),(V.sc (.int .u8 (0:Int))),(V.sc (.int .u8 (0:Int))),(V.sc (.int .u8 (0:Int)))] 0 v2) fun r3 =>
 chk (0≤v1∧v1≤(((List.length p0):Nat):Int)) (
 xo β L (List.take ((Int.toNat v1) - 0) (List.drop 0 p0)) (fun v4 =>
 k_fin v4))))
theorem ztk {β:Type} (xu:zbt) (xo:zak) (L:Nat) (p0:List (List V)) (k:KK β):zw zj7 (zjJ xu xo L) L zgn [(V.sl 1 p0)] [] k=zk1 xu xo L p0 (fun p0=>k (V.gs 1 p0) []):=by kernel_rfl
abbrev yk:=∀ (β:Type),Nat→List (List V)→(List (List V)→Option β)→Option β
def zb (β:Type) (L:Nat) (p0:List (List V)) (k_fin:List (List V)→Option β):Option β:=zk1 xu xo L p0 k_fin
def ze6 (zb:yk) (L:Nat) (β:Type) (args:List V) (bor:Bor) (k:KK β):Option β:=match args,bor with
 | [a0],[]=>aL 1 a0 fun p0=>zb β L p0 (fun p0=>k (V.gs 1 p0) [])
 | _,_=>none
theorem zs8 (L:Nat) (β:Type) (args:List V) (bor:Bor) (k:KK β) (r:β) (h:ze6 zb L β args bor k=some r):zw zj7 (zjJ xu xo L) L zgn args bor k=some r:=by
 unfold ze6 at h
 split at h
 ·have q:=zP h; clear h; obtain ⟨p0,rfl,h⟩:=q
  exact (ztk xu xo L p0 k).trans h
 ·cases h
def zgv:CC:=(.seq (.reg [oo 122 (.bin .lss (tq 121) (tq 120))])
 (.seq (.cond (tq 122)
 .skip
 (.seq (.mask (bl 2097408 138) (bl 346067167158594417342251975758108212326335 138))
 (.exit 4)))
 (.seq (.block 5 (.seq (.reg [oo 123 (.indexAddrS 3 (tq 119) (tq 121)),
   oo 124 (.load true 3 (tq 123) false),
   oo 23 (.alloc true [(.sc (.int .i64 0)),(.sc (.int .i64 0)),(.gs 1 [])]),
   oz (.store 3 (tq 23) (tq 124))])
 (.seq (.reg [oo 126 (.move (tq 21) false),
   oo 127 (.load true 3 (tq 23) false),
   oo 128 (.call 414 [((tq 126),0),((tq 127),1)] []),
   oo 125 (.move (tq 128) true),
   oo 129 (.extract (tq 125) 0),
   oo 130 (.pull (tq 125) 1),
   oo 24 (.move (tq 129) false),
   oo 25 (.move (tq 130) false)])
 (.seq (.seq (.reg [oo 131 (.move (tq 25) false),
   oo 132 (.bin .neq (tq 131) (.const (.sc (.int .i64 0))))])
 (.cond (tq 132)
 (.seq (.reg [oo 6 (.move (.const (.sc (.bool false))) false)])
 (.seq (.mask (bl 64 138) (bl 346067167158594417342251975758108210229247 138))
 .ret))
 .skip))
 (.reg [oo 133 (.move (tq 24) false),
   oo 21 (.move (tq 133) false)])))))
 (.reg [oo 134 (.bin .add (tq 121) (.const (.sc (.int .i64 1)))),
   oo 121 (.move (tq 134) false)]))))
def zhr:CC:=(.seq (.reg [oo 135 (.move (tq 21) false),
   oo 136 (.move (tq 8) false),
   oo 137 (.call 130 [((tq 135),0),((tq 136),0)] []),
   oo 6 (.move (tq 137) false)])
 .ret)
def zju:CC:=(.seq (.seq (.reg [oo 64 (.move (tq 16) false),
   oo 65 (.move (tq 10) false),
   oo 66 (.lenS (tq 65)),
   oo 67 (.bin .lss (tq 64) (tq 66)),
   oo 68 (.move (tq 67) false),
   ⟨(some 69),false,(some (68,true)),.move (tq 10) false⟩,
   ⟨(some 70),false,(some (68,true)),.move (tq 16) false⟩,
   ⟨(some 71),false,(some (68,true)),.indexAddrS 1 (tq 69) (tq 70)⟩,
   ⟨(some 72),false,(some (68,true)),.load false 1 (tq 71) false⟩,
   ⟨(some 73),false,(some (68,true)),.move (tq 15) false⟩,
   ⟨(some 74),false,(some (68,true)),.bin .leq (tq 72) (tq 73)⟩,
   oo 75 (.pick (tq 68) (tq 74) (.const (.sc (.bool false))))])
 (.cond (tq 75)
 .skip
 (.seq (.mask (bl 99076 138) (bl 348449143727040986586421811033835801931775 138))
 (.exit 2))))
 (.block 3 (.reg [oo 76 (.move (tq 16) false),
   oo 77 (.bin .add (tq 76) (.const (.sc (.int .i64 1)))),
   oo 16 (.move (tq 77) false)])))
def zkq:CC:=(.seq (.reg [oo 79 (.move (tq 8) false),
   oo 80 (.move (tq 15) false),
   oo 81 (.sliceS 1 (tq 79) none (some (tq 80)) none),
   oo 82 (.call 415 [((tq 81),0)] []),
   oo 78 (.move (tq 82) true),
   oo 83 (.extract (tq 78) 0),
   oo 84 (.pull (tq 78) 1),
   oo 17 (.move (tq 83) false),
   oo 18 (.move (tq 84) false)])
 (.seq (.seq (.reg [oo 85 (.move (tq 17) false),
   oo 86 (.move (tq 9) false),
   oo 87 (.move (tq 16) false),
   oo 88 (.sliceS 3 (tq 86) none (some (tq 87)) none),
   oo 89 (.call 654 [((tq 85),0),((tq 88),0)] []),
   oo 90 (.un .not (tq 89))])
 (.cond (tq 90)
 (.seq (.reg [oo 6 (.move (.const (.sc (.bool false))) false)])
 .ret)
 .skip))
 (.seq (.reg [oo 92 (.move (tq 8) false),
   oo 93 (.move (tq 2) false),
   oo 94 (.buildSlice 1 2 [(.sl 1 [])] [(0,1,(tq 92)),(1,1,(tq 93))]),
   oo 95 (.call 453 [((tq 94),0)] []),
   oo 96 (.call 415 [((tq 95),0)] []),
   oo 91 (.move (tq 96) true),
   oo 97 (.extract (tq 91) 0),
   oo 98 (.pull (tq 91) 1),
   oo 19 (.move (tq 97) true),
   oo 20 (.move (tq 98) false)])
 (.seq (.seq (.reg [oo 99 (.move (tq 19) false),
   oo 100 (.lenS (tq 99)),
   oo 101 (.move (tq 9) false),
   oo 102 (.lenS (tq 101)),
   oo 103 (.bin .lss (tq 100) (tq 102)),
   oo 104 (.move (tq 103) false),
   ⟨(some 105),false,(some (104,false)),.move (tq 19) true⟩,
   ⟨(some 106),false,(some (104,false)),.move (tq 9) false⟩,
   ⟨(some 107),false,(some (104,false)),.lenS (tq 106)⟩,
   ⟨(some 108),false,(some (104,false)),.sliceS 3 (tq 105) none (some (tq 107)) none⟩,
   ⟨(some 109),false,(some (104,false)),.move (tq 9) false⟩,
   ⟨(some 110),false,(some (104,false)),.call 654 [((tq 108),0),((tq 109),0)] []⟩,
   ⟨(some 111),false,(some (104,false)),.un .not (tq 110)⟩,
   oo 112 (.pick (tq 104) (.const (.sc (.bool true))) (tq 111))])
 (.cond (tq 112)
 (.seq (.reg [oo 6 (.move (.const (.sc (.bool false))) false)])
 .ret)
 .skip))
 (.seq (.reg [oo 113 (.move (tq 8) false),
   oo 114 (.move (tq 15) false),
   oo 115 (.sliceS 1 (tq 113) none (some (tq 114)) none),
   oo 116 (.call 655 [((tq 115),0)] []),
   oo 21 (.move (tq 116) false)])
 (.seq (.seq (.reg [oo 117 (.move (tq 9) true),
   oo 118 (.move (tq 16) false),
   oo 119 (.sliceS 3 (tq 117) (some (tq 118)) none none),
   oo 120 (.lenS (tq 119)),
   oo 121 (.move (.const (.sc (.int .i64 0))) false)])
 (.block 4 (.loop (bl 4652297985247205555163324710983303424 138) (bl 346067167158594417342251975758108212326335 138)
 zgv)))
 zhr))))))
def zka:CC:=(.seq (.seq (.reg [oo 35 (.move (tq 11) false),
   oo 36 (.bin .gtr (tq 35) (.const (.sc (.int .i64 0))))])
 (.cond (tq 36)
 .skip
 (.seq (.mask (bl 1798 138) (bl 348449143727040986586495079971928678565823 138))
 (.exit 0))))
 (.seq (.block 1 (.seq (.reg [oo 39 (.move (tq 7) false),
   oo 40 (.call 651 [((tq 39),0)] []),
   oo 12 (.alloc true [(.sc (.int .i64 0)),(.sc (.int .i64 0)),(.gs 1 [])]),
   oz (.store 3 (tq 12) (tq 40))])
 (.seq (.reg [oo 42 (.move (tq 8) false),
   oo 43 (.load true 3 (tq 12) false),
   oo 44 (.call 414 [((tq 42),0),((tq 43),1)] []),
   oo 41 (.move (tq 44) true),
   oo 45 (.extract (tq 41) 0),
   oo 46 (.pull (tq 41) 1),
   oo 13 (.move (tq 45) true),
   oo 14 (.move (tq 46) false)])
 (.seq (.seq (.reg [oo 47 (.move (tq 14) false),
   oo 48 (.bin .neq (tq 47) (.const (.sc (.int .i64 0))))])
 (.cond (tq 48)
 (.seq (.reg [oo 6 (.move (.const (.sc (.bool false))) false)])
 (.seq (.mask (bl 64 138) (bl 348449143727040986586495079971928678564095 138))
 .ret))
 .skip))
 (.reg [oo 49 (.move (tq 13) false),
   oo 50 (.move (tq 9) true),
   oo 51 (.load true 3 (tq 12) false),
   oo 52 (.buildSlice 3 1 [(.sc (.int .i64 0)),(.sc (.int .i64 0)),(.sl 1 [])] [(0,3,(tq 51))]),
   oo 53 (.append 3 40 (tq 50) (tq 52)),
   oo 54 (.move (tq 10) true),
   oo 55 (.move (tq 13) false),
   oo 56 (.lenS (tq 55)),
   oo 57 (.buildSlice 1 1 [(.sc (.int .i64 0))] [(0,1,(tq 56))]),
   oo 58 (.append 1 8 (tq 54) (tq 57)),
   oo 8 (.move (tq 49) true),
   oo 9 (.move (tq 53) true),
   oo 10 (.move (tq 58) true)])))))
 (.reg [oo 37 (.move (tq 11) false),
   oo 38 (.bin .sub (tq 37) (.const (.sc (.int .i64 1)))),
   oo 11 (.move (tq 38) false)])))
def zlV:CC:=(.seq (.reg [oo 59 (.move (tq 1) false),
   oo 60 (.move (tq 8) false),
   oo 61 (.lenS (tq 60)),
   oo 62 (.bin .add (tq 61) (.const (.sc (.int .i64 1)))),
   oo 63 (.call 217 [((tq 59),0),((tq 62),0)] []),
   oo 15 (.move (tq 63) false)])
 (.seq (.reg [oo 16 (.move (.const (.sc (.int .i64 0))) false)])
 (.seq (.block 2 (.loop (bl 100100 138) (bl 348449143727040986586421811033835801931775 138)
 zju))
 zkq)))
def zjz:CF:=⟨138,[.tmp 6],
 (.seq (.reg [oo 6 (.move (.const (.sc (.bool false))) false)])
 (.seq (.seq (.reg [oo 26 (.call 410 [] []),
   oo 27 (.un .not (tq 26))])
 (.cond (tq 27)
 (.seq (.reg [oo 6 (.move (.const (.sc (.bool false))) false)])
 .ret)
 .skip))
 (.seq (.seq (.reg [oo 28 (.move (tq 2) false),
   oo 29 (.lenS (tq 28)),
   oo 30 (.bin .gtr (tq 29) (.const (.sc (.int .i64 100))))])
 (.cond (tq 30)
 (.seq (.reg [oo 6 (.move (.const (.sc (.bool true))) false)])
 .ret)
 .skip))
 (.seq (.reg [oo 31 (.move (tq 0) false),
   oo 32 (.call 225 [((tq 31),0)] []),
   oo 7 (.move (tq 32) false)])
 (.seq (.reg [oo 8 (.move (.const (.gs 1 [])) true)])
 (.seq (.reg [oo 9 (.move (.const (.gs 3 [])) true)])
 (.seq (.reg [oo 10 (.move (.const (.gs 1 [])) true)])
 (.seq (.seq (.reg [oo 33 (.move (tq 7) false),
   oo 34 (.call 231 [((tq 33),0),((.const (.sc (.int .i64 6))),0)] []),
   oo 11 (.move (tq 34) false)])
 (.block 0 (.loop (bl 3974 138) (bl 348449143727040986586495079971928678567871 138)
 zka)))
 zlV))))))))⟩
def zhU:Hint:=⟨[(6,0),(7,0),(8,0),(12,2),(13,3),(13,4),(13,6),(16,1),(16,5),(16,10),(16,11),(16,12),(21,4),(21,5),(24,5),(24,6),(24,8),(25,6),(28,0),(30,2),(31,3),(31,4)],[],[none,none,none,none,none,some ((bl 3974 138),(bl 348449143727040986586495079971928678567871 138)),none,some ((bl 1798 138),(bl 348449143727040986586495079971928678565823 138)),none,none,some ((bl 64 138),(bl 348449143727040986586495079971928678564095 138)),none,some ((bl 100100 138),(bl 348449143727040986586421811033835801931775 138)),none,some ((bl 99076 138),(bl 348449143727040986586421811033835801931775 138)),none,none,none,none,none,none,some ((bl 4652297985247205555163324710983303424 138),(bl 346067167158594417342251975758108212326335 138)),none,some ((bl 2097408 138),(bl 346067167158594417342251975758108212326335 138)),none,none,some ((bl 64 138),(bl 346067167158594417342251975758108210229247 138)),none],[],[],false,false⟩
def zBr:Nat→Sh:=yV [(72,(.int .i64))]
def zBo (xb:zn) (yf:yw) (ya:yj) (xc:yp) (zd:yo) (zc:yq) (yb:xm) (yc:zt) (xa:zk) (zb:yk) (za:xi) (L:Nat):CBC:=(xB 130 (zd2 za L) (xB 655 (ze6 zb L) (xB 453 (zdS xa L) (xB 654 (zil yc L) (xB 415 (ze4 yb L) (xB 217 (zhc zc L) (xB 414 (zdz zd L) (xB 651 (zfB xc L) (xB 231 (zcz ya L) (xB 225 (zjw yf L) (xB 410 (zgB xb L) noC)))))))))))
def zv2:St→St:=zZ 0 (bl 3974 138) (bl 348449143727040986586495079971928678567871 138)
def zuY:St→St:=zZ 0 (bl 100100 138) (bl 348449143727040986586421811033835801931775 138)
def zr7:St→St:=zZ 0 (bl 4652297985247205555163324710983303424 138) (bl 346067167158594417342251975758108212326335 138)
def zuH (p1:Int) (p2 p8 p9 p10:List (List V)) (p11:Int) (zHj:List (List V)) (zHk:Int):St:=⟨(jn 1 ((V.sc (.int .i64 p1))::((V.sl 1 p2)::(jn 4 ((V.ptr 32 0)::((V.gs 1 p8)::((V.gs 3 p9)::((V.gs 1 p10)::((V.sc (.int .i64 p11))::(jn 126 [])))))))))),(gn 32 ((.live false [(V.sl 1 zHj),(V.sc (.int .i64 zHk))])::(gn 105 [])))⟩
def zzu (p6:Bool) (zHj:List (List V)) (zHk:Int):St:=⟨(jn 6 ((V.sc (.bool p6))::(jn 131 []))),(gn 32 ((.live false [(V.sl 1 zHj),(V.sc (.int .i64 zHk))])::(gn 105 [])))⟩
def ztv (p1:Int) (p2 p8 p9 p10:List (List V)) (p11:Int) (zHj:List (List V)) (zHk:Int):St:=⟨(jn 1 ((V.sc (.int .i64 p1))::((V.sl 1 p2)::(jn 4 ((V.ptr 32 0)::((V.sl 1 p8)::((V.gs 3 p9)::((V.gs 1 p10)::((V.sc (.int .i64 p11))::(jn 126 [])))))))))),(gn 32 ((.live false [(V.sl 1 zHj),(V.sc (.int .i64 zHk))])::(gn 105 [])))⟩
def zzD (p1:Int) (p2 p8 p9 p10 zHj:List (List V)) (zHk:Int):St:=⟨(jn 1 ((V.sc (.int .i64 p1))::((V.sl 1 p2)::(jn 5 ((V.gs 1 p8)::((V.gs 3 p9)::((V.gs 1 p10)::(jn 127 [])))))))),(gn 32 ((.live false [(V.sl 1 zHj),(V.sc (.int .i64 zHk))])::(gn 105 [])))⟩
def ztu (p2 p8 p9 p10:List (List V)) (p15 p16:Int) (zHj:List (List V)) (zHk:Int):St:=⟨(jn 2 ((V.sl 1 p2)::(jn 5 ((V.gs 1 p8)::((V.gs 3 p9)::((V.gs 1 p10)::(jn 4 ((V.sc (.int .i64 p15))::((V.sc (.int .i64 p16))::(jn 121 [])))))))))),(gn 32 ((.live false [(V.sl 1 zHj),(V.sc (.int .i64 zHk))])::(gn 105 [])))⟩
def zyt (p1:Int) (p2 p8 p9 p10 zHj:List (List V)) (zHk:Int):St:=⟨(jn 1 ((V.sc (.int .i64 p1))::((V.sl 1 p2)::(jn 5 ((V.sl 1 p8)::((V.gs 3 p9)::((V.gs 1 p10)::(jn 127 [])))))))),(gn 32 ((.live false [(V.sl 1 zHj),(V.sc (.int .i64 zHk))])::(gn 105 [])))⟩
def zzO (p2 p8 p9:List (List V)) (p15 p16:Int) (zHj:List (List V)) (zHk:Int):St:=⟨(jn 2 ((V.sl 1 p2)::(jn 5 ((V.gs 1 p8)::((V.gs 3 p9)::(jn 5 ((V.sc (.int .i64 p15))::((V.sc (.int .i64 p16))::(jn 121 []))))))))),(gn 32 ((.live false [(V.sl 1 zHj),(V.sc (.int .i64 zHk))])::(gn 105 [])))⟩
def zs6 (p2 p8 p9 p10:List (List V)) (p15 p16:Int) (zHj:List (List V)) (zHk:Int):St:=⟨(jn 2 ((V.sl 1 p2)::(jn 5 ((V.sl 1 p8)::((V.gs 3 p9)::((V.gs 1 p10)::(jn 4 ((V.sc (.int .i64 p15))::((V.sc (.int .i64 p16))::(jn 121 [])))))))))),(gn 32 ((.live false [(V.sl 1 zHj),(V.sc (.int .i64 zHk))])::(gn 105 [])))⟩
def zrb (p8 p21 zHH:List (List V)) (zHI zHG:Int) (zHj:List (List V)) (zHk:Int):St:=⟨(jn 8 ((V.gs 1 p8)::(jn 12 ((V.sl 1 p21)::(jn 97 ((V.sl 3 zHH)::((V.sc (.int .i64 zHI))::((V.sc (.int .i64 zHG))::(jn 16 []))))))))),(gn 32 ((.live false [(V.sl 1 zHj),(V.sc (.int .i64 zHk))])::(gn 105 [])))⟩
def zys (p2 p8 p9:List (List V)) (p15 p16:Int) (zHj:List (List V)) (zHk:Int):St:=⟨(jn 2 ((V.sl 1 p2)::(jn 5 ((V.sl 1 p8)::((V.gs 3 p9)::(jn 5 ((V.sc (.int .i64 p15))::((V.sc (.int .i64 p16))::(jn 121 []))))))))),(gn 32 ((.live false [(V.sl 1 zHj),(V.sc (.int .i64 zHk))])::(gn 105 [])))⟩
def zzA (p8 p21 zHj:List (List V)) (zHk:Int):St:=⟨(jn 8 ((V.gs 1 p8)::(jn 12 ((V.sl 1 p21)::(jn 116 []))))),(gn 32 ((.live false [(V.sl 1 zHj),(V.sc (.int .i64 zHk))])::(gn 105 [])))⟩
def zp6 (p8 p21 zHH:List (List V)) (zHI zHG:Int) (zHj:List (List V)) (zHk:Int):St:=⟨(jn 8 ((V.sl 1 p8)::(jn 12 ((V.sl 1 p21)::(jn 97 ((V.sl 3 zHH)::((V.sc (.int .i64 zHI))::((V.sc (.int .i64 zHG))::(jn 16 []))))))))),(gn 32 ((.live false [(V.sl 1 zHj),(V.sc (.int .i64 zHk))])::(gn 105 [])))⟩
def zya (p8 p21 zHj:List (List V)) (zHk:Int):St:=⟨(jn 8 ((V.sl 1 p8)::(jn 12 ((V.sl 1 p21)::(jn 116 []))))),(gn 32 ((.live false [(V.sl 1 zHj),(V.sc (.int .i64 zHk))])::(gn 105 [])))⟩
abbrev zkj (β:Type):Type:=Int→List (List V)→List (List V)→List (List V)→List (List V)→Int→List (List V)→Int→Option β
abbrev zd6 (β:Type):Type:=Int→List (List V)→List (List V)→List (List V)→List (List V)→Int→List (List V)→Int→Option β
abbrev zix (β:Type):Type:=Int→List (List V)→List (List V)→List (List V)→List (List V)→List (List V)→Int→Option β
abbrev zej (β:Type):Type:=List (List V)→List (List V)→List (List V)→List (List V)→Int→Int→List (List V)→Int→Option β
abbrev zel (β:Type):Type:=Int→List (List V)→List (List V)→List (List V)→List (List V)→List (List V)→Int→Option β
abbrev zij (β:Type):Type:=List (List V)→List (List V)→List (List V)→Int→Int→List (List V)→Int→Option β
abbrev zdC (β:Type):Type:=List (List V)→List (List V)→List (List V)→List (List V)→Int→Int→List (List V)→Int→Option β
abbrev zcC (β:Type):Type:=List (List V)→List (List V)→List (List V)→Int→Int→List (List V)→Int→Option β
abbrev zhu (β:Type):Type:=List (List V)→List (List V)→List (List V)→Int→Int→List (List V)→Int→Option β
abbrev zin (β:Type):Type:=List (List V)→List (List V)→List (List V)→Int→Option β
abbrev zch (β:Type):Type:=List (List V)→List (List V)→List (List V)→Int→Int→List (List V)→Int→Option β
abbrev zhs (β:Type):Type:=List (List V)→List (List V)→List (List V)→Int→Option β
def zq0 {β:Type} (xb:zn) (yf:yw) (ya:yj) (xc:yp) (zd:yo) (zc:yq) (yb:xm) (yc:zt) (xa:zk) (zb:yk) (za:xi) (L:Nat) (p0:List (List V)) (p1:Int) (p2:List (List V)) (k_fin:Bool→Option β) (k_hbbbbbbbaba:zkj β):Option β :=
 xb β L  (fun v0 =>
 ifb (!v0) (
 k_fin false) (
 ifb (decide (((List.length p2:Nat):Int) > (100:Int))) (
 k_fin true) (
 yf β L p0 (fun v1 v2 =>
 ya β L (6:Int) v1 v2 (fun v3 v4 v5 =>
 k_hbbbbbbbaba p1 p2 ([]:List (List V)) ([]:List (List V)) ([]:List (List V)) v3 v4 v5)))))
def zkX {β:Type} (xb:zn) (yf:yw) (ya:yj) (xc:yp) (zd:yo) (zc:yq) (yb:xm) (yc:zt) (xa:zk) (zb:yk) (za:xi) (L:Nat) (p1:Int) (p2 p8 p9 p10:List (List V)) (p11:Int) (zHj:List (List V)) (zHk:Int) (k_ret:Bool→List (List V)→Int→Option β) (k_hbbbbbbbabav1:zd6 β) (k_x0:zix β):Option β :=
 ifb (decide (p11 > (0:Int))) (
 xc β L zHj zHk (fun v6 v7 v8 =>
 chk ((List.length v6)=3∧0+3≤3) (
 lt (zr [(V.sc (.int .i64 (0:Int))),(V.sc (.int .i64 (0:Int))),(V.gs 1 ([]:List (List V)))] 0 v6) fun r9 =>
 chk (0+3≤(List.length r9)) (
 zd β L p8 (List.map V.dem (List.take 3 r9)) (fun v10 v11 =>
 ifb ((v11:Int) != (0:Int)) (
 k_ret false v7 v8) (
 chk (0+3≤(List.length r9)) (
 chk ((List.length (List.take 3 r9))=3∧0+3≤3) (
 chk ((List.length p9+List.length (zh 3 1 (zr [(V.sc (.int .i64 (0:Int))),(V.sc (.int .i64 (0:Int))),(V.sl 1 ([]:List (List V)))] 0 (List.take 3 r9)))) * 40≤xj∧List.length p9+List.length (zh 3 1 (zr [(V.sc (.int .i64 (0:Int))),(V.sc (.int .i64 (0:Int))),(V.sl 1 ([]:List (List V)))] 0 (List.take 3 r9)))≤xj) (
 lt (p9++(zh 3 1 (zr [(V.sc (.int .i64 (0:Int))),(V.sc (.int .i64 (0:Int))),(V.sl 1 ([]:List (List V)))] 0 (List.take 3 r9)))) fun l12 =>
 chk ((List.length p10+List.length (zh 1 1 [(V.sc (.int .i64 ((List.length v10:Nat):Int)))])) * 8≤xj∧List.length p10+List.length (zh 1 1 [(V.sc (.int .i64 ((List.length v10:Nat):Int)))])≤xj) (
 lt (p10++(zh 1 1 [(V.sc (.int .i64 ((List.length v10:Nat):Int)))])) fun l13 =>
 lt (IntKind.wrap .i64 ((p11:Int) - (1:Int))) fun x14 =>
 k_hbbbbbbbabav1 p1 p2 v10 l12 l13 x14 v7 v8)))))))))) (
 k_x0 p1 p2 p8 p9 p10 zHj zHk)
def zi9 {β:Type} (xb:zn) (yf:yw) (ya:yj) (xc:yp) (zd:yo) (zc:yq) (yb:xm) (yc:zt) (xa:zk) (zb:yk) (za:xi) (L:Nat) (p6:Bool) (zHj:List (List V)) (zHk:Int) (k_fin:Bool→Option β):Option β :=
 k_fin p6
def zjL {β:Type} (xb:zn) (yf:yw) (ya:yj) (xc:yp) (zd:yo) (zc:yq) (yb:xm) (yc:zt) (xa:zk) (zb:yk) (za:xi) (L:Nat) (p1:Int) (p2 p8 p9 p10 zHj:List (List V)) (zHk:Int) (k_hbbbbbbbbbbaa:zej β):Option β :=
 lt (IntKind.wrap .i64 ((((List.length p8:Nat):Int):Int)+(1:Int))) fun x15 =>
 zc β L p1 x15 (fun v16 =>
 k_hbbbbbbbbbbaa p2 p8 p9 p10 v16 (0:Int) zHj zHk)
def zjI {β:Type} (xb:zn) (yf:yw) (ya:yj) (xc:yp) (zd:yo) (zc:yq) (yb:xm) (yc:zt) (xa:zk) (zb:yk) (za:xi) (L:Nat) (p1:Int) (p2 p8 p9 p10:List (List V)) (p11:Int) (zHj:List (List V)) (zHk:Int) (k_ret:Bool→List (List V)→Int→Option β) (k_hbbbbbbbabav1:zd6 β) (k_x0v1:zel β):Option β :=
 ifb (decide (p11 > (0:Int))) (
 xc β L zHj zHk (fun v17 v18 v19 =>
 chk ((List.length v17)=3∧0+3≤3) (
 lt (zr [(V.sc (.int .i64 (0:Int))),(V.sc (.int .i64 (0:Int))),(V.gs 1 ([]:List (List V)))] 0 v17) fun r20 =>
 chk (0+3≤(List.length r20)) (
 zd β L p8 (List.map V.dem (List.take 3 r20)) (fun v21 v22 =>
 ifb ((v22:Int) != (0:Int)) (
 k_ret false v18 v19) (
 chk (0+3≤(List.length r20)) (
 chk ((List.length (List.take 3 r20))=3∧0+3≤3) (
 chk ((List.length p9+List.length (zh 3 1 (zr [(V.sc (.int .i64 (0:Int))),(V.sc (.int .i64 (0:Int))),(V.sl 1 ([]:List (List V)))] 0 (List.take 3 r20)))) * 40≤xj∧List.length p9+List.length (zh 3 1 (zr [(V.sc (.int .i64 (0:Int))),(V.sc (.int .i64 (0:Int))),(V.sl 1 ([]:List (List V)))] 0 (List.take 3 r20)))≤xj) (
 lt (p9++(zh 3 1 (zr [(V.sc (.int .i64 (0:Int))),(V.sc (.int .i64 (0:Int))),(V.sl 1 ([]:List (List V)))] 0 (List.take 3 r20)))) fun l23 =>
 chk ((List.length p10+List.length (zh 1 1 [(V.sc (.int .i64 ((List.length v21:Nat):Int)))])) * 8≤xj∧List.length p10+List.length (zh 1 1 [(V.sc (.int .i64 ((List.length v21:Nat):Int)))])≤xj) (
 lt (p10++(zh 1 1 [(V.sc (.int .i64 ((List.length v21:Nat):Int)))])) fun l24 =>
 lt (IntKind.wrap .i64 ((p11:Int) - (1:Int))) fun x25 =>
 k_hbbbbbbbabav1 p1 p2 v21 l23 l24 x25 v18 v19)))))))))) (
 k_x0v1 p1 p2 p8 p9 p10 zHj zHk)
def zjT {β:Type} (xb:zn) (yf:yw) (ya:yj) (xc:yp) (zd:yo) (zc:yq) (yb:xm) (yc:zt) (xa:zk) (zb:yk) (za:xi) (L:Nat) (p2 p8 p9 p10:List (List V)) (p15 p16:Int) (zHj:List (List V)) (zHk:Int) (k_hbbbbbbbbbbaa:zej β) (k_x2:zij β):Option β :=
 ifb (decide (p16 < ((List.length p10:Nat):Int))) (
 idx p10 p16 fun c26 =>
 cI .i64 c26 0 fun v27 =>
 ifb (decide (v27≤p15)) (
 lt (IntKind.wrap .i64 ((p16:Int)+(1:Int))) fun x28 =>
 k_hbbbbbbbbbbaa p2 p8 p9 p10 p15 x28 zHj zHk) (
 k_x2 p2 p8 p9 p15 p16 zHj zHk)) (
 k_x2 p2 p8 p9 p15 p16 zHj zHk)
def ztt {β:Type} (xb:zn) (yf:yw) (ya:yj) (xc:yp) (zd:yo) (zc:yq) (yb:xm) (yc:zt) (xa:zk) (zb:yk) (za:xi) (L:Nat) (p6:Bool) (zHj:List (List V)) (zHk:Int) (k_fin:Bool→Option β):Option β :=
 k_fin p6
def zhP {β:Type} (xb:zn) (yf:yw) (ya:yj) (xc:yp) (zd:yo) (zc:yq) (yb:xm) (yc:zt) (xa:zk) (zb:yk) (za:xi) (L:Nat) (p1:Int) (p2 p8 p9 p10 zHj:List (List V)) (zHk:Int) (k_hbbbbbbbbbbaav1:zdC β):Option β :=
 lt (IntKind.wrap .i64 ((((List.length p8:Nat):Int):Int)+(1:Int))) fun x29 =>
 zc β L p1 x29 (fun v30 =>
 k_hbbbbbbbbbbaav1 p2 p8 p9 p10 v30 (0:Int) zHj zHk)
def ziq {β:Type} (xb:zn) (yf:yw) (ya:yj) (xc:yp) (zd:yo) (zc:yq) (yb:xm) (yc:zt) (xa:zk) (zb:yk) (za:xi) (L:Nat) (p2 p8 p9:List (List V)) (p15 p16:Int) (zHj:List (List V)) (zHk:Int) (k_fin:Bool→Option β) (k_hbbbbbbbbbbbbbbbbaba:zcC β):Option β :=
 chk (0≤p15∧p15≤(((List.length p8):Nat):Int)) (
 yb β L (List.take ((Int.toNat p15) - 0) (List.drop 0 p8)) (fun v31 v32 =>
 chk (0≤p16∧p16≤(((List.length p9):Nat):Int)) (
 yc β L v31 (List.take ((Int.toNat p16) - 0) (List.drop 0 p9)) (fun v33 =>
 ifb (!v33) (
 k_fin false) (
 xa β L (zh 1 2 [(V.sl 1 p8),(V.sl 1 p2)]) (fun v34 =>
 yb β L v34 (fun v35 v36 =>
 ifb (decide (((List.length v35:Nat):Int) < ((List.length p9:Nat):Int))) (
 k_fin false) (
 chk (0≤((List.length p9:Nat):Int)∧((List.length p9:Nat):Int)≤(((List.length v35):Nat):Int)) (
 yc β L (List.take ((Int.toNat ((List.length p9:Nat):Int)) - 0) (List.drop 0 v35)) p9 (fun v37 =>
 ifb (!v37) (
 k_fin false) (
 chk (0≤p15∧p15≤(((List.length p8):Nat):Int)) (
 zb β L (List.take ((Int.toNat p15) - 0) (List.drop 0 p8)) (fun v38 =>
 chk (0≤p16∧p16≤(((List.length p9):Nat):Int)) (
 k_hbbbbbbbbbbbbbbbbaba p8 v38 (List.take ((List.length p9) - (Int.toNat p16)) (List.drop (Int.toNat p16) p9)) ((List.length (List.take ((List.length p9) - (Int.toNat p16)) (List.drop (Int.toNat p16) p9)):Nat):Int) (0:Int) zHj zHk))))))))))))))
def ziz {β:Type} (xb:zn) (yf:yw) (ya:yj) (xc:yp) (zd:yo) (zc:yq) (yb:xm) (yc:zt) (xa:zk) (zb:yk) (za:xi) (L:Nat) (p2 p8 p9 p10:List (List V)) (p15 p16:Int) (zHj:List (List V)) (zHk:Int) (k_hbbbbbbbbbbaav1:zdC β) (k_x2v1:zhu β):Option β :=
 ifb (decide (p16 < ((List.length p10:Nat):Int))) (
 idx p10 p16 fun c39 =>
 cI .i64 c39 0 fun v40 =>
 ifb (decide (v40≤p15)) (
 lt (IntKind.wrap .i64 ((p16:Int)+(1:Int))) fun x41 =>
 k_hbbbbbbbbbbaav1 p2 p8 p9 p10 p15 x41 zHj zHk) (
 k_x2v1 p2 p8 p9 p15 p16 zHj zHk)) (
 k_x2v1 p2 p8 p9 p15 p16 zHj zHk)
def zgN {β:Type} (xb:zn) (yf:yw) (ya:yj) (xc:yp) (zd:yo) (zc:yq) (yb:xm) (yc:zt) (xa:zk) (zb:yk) (za:xi) (L:Nat) (p8 p21 zHH:List (List V)) (zHI zHG:Int) (zHj:List (List V)) (zHk:Int) (k_ret:Bool→List (List V)→Int→Option β) (k_hbbbbbbbbbbbbbbbbaba:zcC β) (k_x4:zin β):Option β :=
 ifb (decide (zHG < zHI)) (
 idx zHH zHG fun c42 =>
 chk ((List.length (List.take 3 c42))=3∧0+3≤3) (
 lt (zr [(V.sc (.int .i64 (0:Int))),(V.sc (.int .i64 (0:Int))),(V.gs 1 ([]:List (List V)))] 0 (List.take 3 c42)) fun r43 =>
 chk (0+3≤(List.length r43)) (
 zd β L p21 (List.map V.dem (List.take 3 r43)) (fun v44 v45 =>
 ifb ((v45:Int) != (0:Int)) (
 k_ret false zHj zHk) (
 lt (IntKind.wrap .i64 ((zHG:Int)+(1:Int))) fun x46 =>
 k_hbbbbbbbbbbbbbbbbaba p8 v44 zHH zHI x46 zHj zHk))))) (
 k_x4 p8 p21 zHj zHk)
def zg1 {β:Type} (xb:zn) (yf:yw) (ya:yj) (xc:yp) (zd:yo) (zc:yq) (yb:xm) (yc:zt) (xa:zk) (zb:yk) (za:xi) (L:Nat) (p2 p8 p9:List (List V)) (p15 p16:Int) (zHj:List (List V)) (zHk:Int) (k_fin:Bool→Option β) (k_hbbbbbbbbbbbbbbbbabav1:zch β):Option β :=
 chk (0≤p15∧p15≤(((List.length p8):Nat):Int)) (
 yb β L (List.take ((Int.toNat p15) - 0) (List.drop 0 p8)) (fun v47 v48 =>
 chk (0≤p16∧p16≤(((List.length p9):Nat):Int)) (
 yc β L v47 (List.take ((Int.toNat p16) - 0) (List.drop 0 p9)) (fun v49 =>
 ifb (!v49) (
 k_fin false) (
 xa β L (zh 1 2 [(V.sl 1 p8),(V.sl 1 p2)]) (fun v50 =>
 yb β L v50 (fun v51 v52 =>
 ifb (decide (((List.length v51:Nat):Int) < ((List.length p9:Nat):Int))) (
 k_fin false) (
 chk (0≤((List.length p9:Nat):Int)∧((List.length p9:Nat):Int)≤(((List.length v51):Nat):Int)) (
 yc β L (List.take ((Int.toNat ((List.length p9:Nat):Int)) - 0) (List.drop 0 v51)) p9 (fun v53 =>
 ifb (!v53) (
 k_fin false) (
 chk (0≤p15∧p15≤(((List.length p8):Nat):Int)) (
 zb β L (List.take ((Int.toNat p15) - 0) (List.drop 0 p8)) (fun v54 =>
 chk (0≤p16∧p16≤(((List.length p9):Nat):Int)) (
 k_hbbbbbbbbbbbbbbbbabav1 p8 v54 (List.take ((List.length p9) - (Int.toNat p16)) (List.drop (Int.toNat p16) p9)) ((List.length (List.take ((List.length p9) - (Int.toNat p16)) (List.drop (Int.toNat p16) p9)):Nat):Int) (0:Int) zHj zHk))))))))))))))
def zf6 {β:Type} (xb:zn) (yf:yw) (ya:yj) (xc:yp) (zd:yo) (zc:yq) (yb:xm) (yc:zt) (xa:zk) (zb:yk) (za:xi) (L:Nat) (p6:Bool) (zHj:List (List V)) (zHk:Int) (k_fin:Bool→Option β):Option β :=
 k_fin p6
def zgc {β:Type} (xb:zn) (yf:yw) (ya:yj) (xc:yp) (zd:yo) (zc:yq) (yb:xm) (yc:zt) (xa:zk) (zb:yk) (za:xi) (L:Nat) (p8 p21 zHj:List (List V)) (zHk:Int) (k_fin:Bool→Option β):Option β :=
 za β L p21 p8 (fun v55 =>
 k_fin v55)
def zgb {β:Type} (xb:zn) (yf:yw) (ya:yj) (xc:yp) (zd:yo) (zc:yq) (yb:xm) (yc:zt) (xa:zk) (zb:yk) (za:xi) (L:Nat) (p8 p21 zHH:List (List V)) (zHI zHG:Int) (zHj:List (List V)) (zHk:Int) (k_ret:Bool→List (List V)→Int→Option β) (k_hbbbbbbbbbbbbbbbbabav1:zch β) (k_x4v1:zhs β):Option β :=
 ifb (decide (zHG < zHI)) (
 idx zHH zHG fun c56 =>
 chk ((List.length (List.take 3 c56))=3∧0+3≤3) (
 lt (zr [(V.sc (.int .i64 (0:Int))),(V.sc (.int .i64 (0:Int))),(V.gs 1 ([]:List (List V)))] 0 (List.take 3 c56)) fun r57 =>
 chk (0+3≤(List.length r57)) (
 zd β L p21 (List.map V.dem (List.take 3 r57)) (fun v58 v59 =>
 ifb ((v59:Int) != (0:Int)) (
 k_ret false zHj zHk) (
 lt (IntKind.wrap .i64 ((zHG:Int)+(1:Int))) fun x60 =>
 k_hbbbbbbbbbbbbbbbbabav1 p8 v58 zHH zHI x60 zHj zHk))))) (
 k_x4v1 p8 p21 zHj zHk)
def zfu {β:Type} (xb:zn) (yf:yw) (ya:yj) (xc:yp) (zd:yo) (zc:yq) (yb:xm) (yc:zt) (xa:zk) (zb:yk) (za:xi) (L:Nat) (p6:Bool) (zHj:List (List V)) (zHk:Int) (k_fin:Bool→Option β):Option β :=
 k_fin p6
def zfr {β:Type} (xb:zn) (yf:yw) (ya:yj) (xc:yp) (zd:yo) (zc:yq) (yb:xm) (yc:zt) (xa:zk) (zb:yk) (za:xi) (L:Nat) (p8 p21 zHj:List (List V)) (zHk:Int) (k_fin:Bool→Option β):Option β :=
 za β L p21 p8 (fun v61 =>
 k_fin v61)
def zeC {β:Type} (xb:zn) (yf:yw) (ya:yj) (xc:yp) (zd:yo) (zc:yq) (yb:xm) (yc:zt) (xa:zk) (zb:yk) (za:xi) (L:Nat) (k_ret:Bool→List (List V)→Int→Option β) (k_x0v1:zel β):Nat→Int→List (List V)→List (List V)→List (List V)→List (List V)→Int→List (List V)→Int→Option β
 | 0,_,_,_,_,_,_,_,_=>none
 | n+1,p1,p2,p8,p9,p10,p11,zHj,zHk=>zjI xb yf ya xc zd zc yb yc xa zb za L p1 p2 p8 p9 p10 p11 zHj zHk k_ret (fun p1 p2 p8 p9 p10 p11 zHj zHk=>zeC xb yf ya xc zd zc yb yc xa zb za L k_ret k_x0v1 n p1 p2 p8 p9 p10 p11 zHj zHk) k_x0v1
def zkT {β:Type} (xb:zn) (yf:yw) (ya:yj) (xc:yp) (zd:yo) (zc:yq) (yb:xm) (yc:zt) (xa:zk) (zb:yk) (za:xi) (L:Nat) (k_ret:Bool→List (List V)→Int→Option β) (k_x0:zix β) (k_x0v1:zel β):Nat→Int→List (List V)→List (List V)→List (List V)→List (List V)→Int→List (List V)→Int→Option β
 | 0,_,_,_,_,_,_,_,_=>none
 | n+1,p1,p2,p8,p9,p10,p11,zHj,zHk=>zkX xb yf ya xc zd zc yb yc xa zb za L p1 p2 p8 p9 p10 p11 zHj zHk k_ret (fun p1 p2 p8 p9 p10 p11 zHj zHk=>zeC xb yf ya xc zd zc yb yc xa zb za L k_ret k_x0v1 n p1 p2 p8 p9 p10 p11 zHj zHk) k_x0
def zeH {β:Type} (xb:zn) (yf:yw) (ya:yj) (xc:yp) (zd:yo) (zc:yq) (yb:xm) (yc:zt) (xa:zk) (zb:yk) (za:xi) (L:Nat) (k_x2:zij β):Nat→List (List V)→List (List V)→List (List V)→List (List V)→Int→Int→List (List V)→Int→Option β
 | 0,_,_,_,_,_,_,_,_=>none
 | n+1,p2,p8,p9,p10,p15,p16,zHj,zHk=>zjT xb yf ya xc zd zc yb yc xa zb za L p2 p8 p9 p10 p15 p16 zHj zHk (fun p2 p8 p9 p10 p15 p16 zHj zHk=>zeH xb yf ya xc zd zc yb yc xa zb za L k_x2 n p2 p8 p9 p10 p15 p16 zHj zHk) k_x2
def zcN {β:Type} (xb:zn) (yf:yw) (ya:yj) (xc:yp) (zd:yo) (zc:yq) (yb:xm) (yc:zt) (xa:zk) (zb:yk) (za:xi) (L:Nat) (k_ret:Bool→List (List V)→Int→Option β) (k_x4:zin β):Nat→List (List V)→List (List V)→List (List V)→Int→Int→List (List V)→Int→Option β
 | 0,_,_,_,_,_,_,_=>none
 | n+1,p8,p21,zHH,zHI,zHG,zHj,zHk=>zgN xb yf ya xc zd zc yb yc xa zb za L p8 p21 zHH zHI zHG zHj zHk k_ret (fun p8 p21 zHH zHI zHG zHj zHk=>zcN xb yf ya xc zd zc yb yc xa zb za L k_ret k_x4 n p8 p21 zHH zHI zHG zHj zHk) k_x4
def zif {β:Type} (xb:zn) (yf:yw) (ya:yj) (xc:yp) (zd:yo) (zc:yq) (yb:xm) (yc:zt) (xa:zk) (zb:yk) (za:xi) (L:Nat) (p2 p8 p9:List (List V)) (p15 p16:Int) (zHj:List (List V)) (zHk:Int) (k_fin:Bool→Option β):Option β :=
 ziq xb yf ya xc zd zc yb yc xa zb za L p2 p8 p9 p15 p16 zHj zHk k_fin (fun p8 p21 zHH zHI zHG zHj zHk=>zcN xb yf ya xc zd zc yb yc xa zb za L (fun p6 zHj zHk=>zf6 xb yf ya xc zd zc yb yc xa zb za L p6 zHj zHk k_fin) (fun p8 p21 zHj zHk=>zgc xb yf ya xc zd zc yb yc xa zb za L p8 p21 zHj zHk k_fin) L p8 p21 zHH zHI zHG zHj zHk)
def zjx {β:Type} (xb:zn) (yf:yw) (ya:yj) (xc:yp) (zd:yo) (zc:yq) (yb:xm) (yc:zt) (xa:zk) (zb:yk) (za:xi) (L:Nat) (p1:Int) (p2 p8 p9 p10 zHj:List (List V)) (zHk:Int) (k_fin:Bool→Option β):Option β :=
 zjL xb yf ya xc zd zc yb yc xa zb za L p1 p2 p8 p9 p10 zHj zHk (fun p2 p8 p9 p10 p15 p16 zHj zHk=>zeH xb yf ya xc zd zc yb yc xa zb za L (fun p2 p8 p9 p15 p16 zHj zHk=>zif xb yf ya xc zd zc yb yc xa zb za L p2 p8 p9 p15 p16 zHj zHk k_fin) L p2 p8 p9 p10 p15 p16 zHj zHk)
def zdV {β:Type} (xb:zn) (yf:yw) (ya:yj) (xc:yp) (zd:yo) (zc:yq) (yb:xm) (yc:zt) (xa:zk) (zb:yk) (za:xi) (L:Nat) (k_x2v1:zhu β):Nat→List (List V)→List (List V)→List (List V)→List (List V)→Int→Int→List (List V)→Int→Option β
 | 0,_,_,_,_,_,_,_,_=>none
 | n+1,p2,p8,p9,p10,p15,p16,zHj,zHk=>ziz xb yf ya xc zd zc yb yc xa zb za L p2 p8 p9 p10 p15 p16 zHj zHk (fun p2 p8 p9 p10 p15 p16 zHj zHk=>zdV xb yf ya xc zd zc yb yc xa zb za L k_x2v1 n p2 p8 p9 p10 p15 p16 zHj zHk) k_x2v1
def zcv {β:Type} (xb:zn) (yf:yw) (ya:yj) (xc:yp) (zd:yo) (zc:yq) (yb:xm) (yc:zt) (xa:zk) (zb:yk) (za:xi) (L:Nat) (k_ret:Bool→List (List V)→Int→Option β) (k_x4v1:zhs β):Nat→List (List V)→List (List V)→List (List V)→Int→Int→List (List V)→Int→Option β
 | 0,_,_,_,_,_,_,_=>none
 | n+1,p8,p21,zHH,zHI,zHG,zHj,zHk=>zgb xb yf ya xc zd zc yb yc xa zb za L p8 p21 zHH zHI zHG zHj zHk k_ret (fun p8 p21 zHH zHI zHG zHj zHk=>zcv xb yf ya xc zd zc yb yc xa zb za L k_ret k_x4v1 n p8 p21 zHH zHI zHG zHj zHk) k_x4v1
def zgO {β:Type} (xb:zn) (yf:yw) (ya:yj) (xc:yp) (zd:yo) (zc:yq) (yb:xm) (yc:zt) (xa:zk) (zb:yk) (za:xi) (L:Nat) (p2 p8 p9:List (List V)) (p15 p16:Int) (zHj:List (List V)) (zHk:Int) (k_fin:Bool→Option β):Option β :=
 zg1 xb yf ya xc zd zc yb yc xa zb za L p2 p8 p9 p15 p16 zHj zHk k_fin (fun p8 p21 zHH zHI zHG zHj zHk=>zcv xb yf ya xc zd zc yb yc xa zb za L (fun p6 zHj zHk=>zfu xb yf ya xc zd zc yb yc xa zb za L p6 zHj zHk k_fin) (fun p8 p21 zHj zHk=>zfr xb yf ya xc zd zc yb yc xa zb za L p8 p21 zHj zHk k_fin) L p8 p21 zHH zHI zHG zHj zHk)
def zhx {β:Type} (xb:zn) (yf:yw) (ya:yj) (xc:yp) (zd:yo) (zc:yq) (yb:xm) (yc:zt) (xa:zk) (zb:yk) (za:xi) (L:Nat) (p1:Int) (p2 p8 p9 p10 zHj:List (List V)) (zHk:Int) (k_fin:Bool→Option β):Option β :=
 zhP xb yf ya xc zd zc yb yc xa zb za L p1 p2 p8 p9 p10 zHj zHk (fun p2 p8 p9 p10 p15 p16 zHj zHk=>zdV xb yf ya xc zd zc yb yc xa zb za L (fun p2 p8 p9 p15 p16 zHj zHk=>zgO xb yf ya xc zd zc yb yc xa zb za L p2 p8 p9 p15 p16 zHj zHk k_fin) L p2 p8 p9 p10 p15 p16 zHj zHk)
def zrd {β:Type} (xb:zn) (yf:yw) (ya:yj) (xc:yp) (zd:yo) (zc:yq) (yb:xm) (yc:zt) (xa:zk) (zb:yk) (za:xi) (L:Nat) (p0:List (List V)) (p1:Int) (p2:List (List V)) (k_fin:Bool→Option β):Option β :=
 zq0 xb yf ya xc zd zc yb yc xa zb za L p0 p1 p2 k_fin (fun p1 p2 p8 p9 p10 p11 zHj zHk=>zkT xb yf ya xc zd zc yb yc xa zb za L (fun p6 zHj zHk=>zi9 xb yf ya xc zd zc yb yc xa zb za L p6 zHj zHk k_fin) (fun p1 p2 p8 p9 p10 zHj zHk=>zjx xb yf ya xc zd zc yb yc xa zb za L p1 p2 p8 p9 p10 zHj zHk k_fin) (fun p1 p2 p8 p9 p10 zHj zHk=>zhx xb yf ya xc zd zc yb yc xa zb za L p1 p2 p8 p9 p10 zHj zHk k_fin) L p1 p2 p8 p9 p10 p11 zHj zHk)
abbrev zq4:=∀ (β:Type),Nat→List (List V)→Int→List (List V)→(Bool→Option β)→Option β
def zki (β:Type) (L:Nat) (p0:List (List V)) (p1:Int) (p2:List (List V)) (k_fin:Bool→Option β):Option β:=zrd xb yf ya xc zd zc yb yc xa zb za L p0 p1 p2 k_fin
def zBz (zki:zq4) (L:Nat) (β:Type) (args:List V) (bor:Bor) (k:KK β):Option β:=match args,bor with
 | [a0,a1,a2],[]=>aL 1 a0 fun p0=>aI .i64 a1 fun p1=>aL 1 a2 fun p2=>zki β L p0 p1 p2 (fun p0=>k (V.sc (.bool p0)) [])
 | _,_=>none
def zkt:CF:=⟨15,[.tmp 2,.tmp 3],
 (.seq (.reg [oo 2 (.move (.const (.gs 3 [])) true),
   oo 3 (.move (.const (.sc (.int .i64 0))) false)])
 (.seq (.reg [oo 8 (.move (tq 0) false),
   oo 9 (.call 658 [((tq 8),0)] []),
   oo 7 (.move (tq 9) true),
   oo 10 (.extract (tq 7) 0),
   oo 11 (.pull (tq 7) 1),
   oo 12 (.extract (tq 7) 2),
   oo 4 (.move (tq 10) true),
   oo 5 (.move (tq 11) false),
   oo 6 (.move (tq 12) false)])
 (.seq (.reg [oo 13 (.move (tq 4) true),
   oo 14 (.move (tq 5) false),
   oo 2 (.move (tq 13) true),
   oo 3 (.move (tq 14) false)])
 .ret)))⟩
def zqr:Hint:=⟨[(0,0),(1,2),(1,3),(1,5),(1,6),(2,0),(2,2)],[],[none],[],[],false,false⟩
def zn9:Nat→Sh:=yV []
def zoi (xy:zcl) (L:Nat):CBC:=(xB 658 (zgC xy L) noC)
def zpx {β:Type} (xy:zcl) (L:Nat) (p0:List (List V)) (k_fin:List (List V)→Int→Option β):Option β :=
 xy β L p0 (fun v0 v1 v2 =>
 k_fin v0 v1)
theorem zw0 {β:Type} (xy:zcl) (L:Nat) (p0:List (List V)) (k:KK β):zw zn9 (zoi xy L) L zkt [(V.sl 1 p0)] [] k=zpx xy L p0 (fun zHt zHu=>k (V.tup [(V.gs 3 zHt),(V.sc (.int .i64 zHu))]) []):=by kernel_rfl
abbrev zQ:=∀ (β:Type),Nat→List (List V)→(List (List V)→Int→Option β)→Option β
def yi (β:Type) (L:Nat) (p0:List (List V)) (k_fin:List (List V)→Int→Option β):Option β:=zpx xy L p0 k_fin
def zl0 (yi:zQ) (L:Nat) (β:Type) (args:List V) (bor:Bor) (k:KK β):Option β:=match args,bor with
 | [a0],[]=>aL 1 a0 fun p0=>yi β L p0 (fun zHt zHu=>k (V.tup [(V.gs 3 zHt),(V.sc (.int .i64 zHu))]) [])
 | _,_=>none
theorem zxG (L:Nat) (β:Type) (args:List V) (bor:Bor) (k:KK β) (r:β) (h:zl0 yi L β args bor k=some r):zw zn9 (zoi xy L) L zkt args bor k=some r:=by
 unfold zl0 at h
 split at h
 ·have q:=zP h; clear h; obtain ⟨p0,rfl,h⟩:=q
  exact (zw0 xy L p0 k).trans h
 ·cases h
def zhZ:CF:=⟨17,[.tmp 2],
 (.seq (.reg [oo 2 (.move (.const (.gs 1 [])) true)])
 (.seq (.reg [oo 7 (.move (tq 0) false),
   oo 8 (.call 658 [((tq 7),0)] []),
   oo 6 (.move (tq 8) true),
   oo 9 (.extract (tq 6) 0),
   oo 10 (.pull (tq 6) 1),
   oo 11 (.extract (tq 6) 2),
   oo 3 (.move (tq 9) false),
   oo 4 (.move (tq 10) false),
   oo 5 (.move (tq 11) false)])
 (.seq (.reg [oo 12 (.buildSlice 1 0 [(.sc (.int .u8 0))] []),
   oo 13 (.move (tq 0) true),
   oo 14 (.move (tq 4) false),
   oo 15 (.sliceS 1 (tq 13) none (some (tq 14)) none),
   oo 16 (.append 1 1 (tq 12) (tq 15)),
   oo 2 (.move (tq 16) true)])
 .ret)))⟩
def zoz:Hint:=⟨[(0,0),(1,2),(1,3),(1,5),(2,1),(2,5)],[],[none],[],[],false,false⟩
def zmk:Nat→Sh:=yV []
def zmg (xy:zcl) (L:Nat):CBC:=(xB 658 (zgC xy L) noC)
def zmH {β:Type} (xy:zcl) (L:Nat) (p0:List (List V)) (k_fin:List (List V)→Option β):Option β :=
 xy β L p0 (fun v0 v1 v2 =>
 chk (0≤v1∧v1≤(((List.length p0):Nat):Int)) (
 chk ((List.length ([]:List (List V))+List.length (List.take ((Int.toNat v1) - 0) (List.drop 0 p0))) * 1≤xj∧List.length ([]:List (List V))+List.length (List.take ((Int.toNat v1) - 0) (List.drop 0 p0))≤xj) (
 lt (([]:List (List V))++(List.take ((Int.toNat v1) - 0) (List.drop 0 p0))) fun l3 =>
 k_fin l3)))
theorem zvb {β:Type} (xy:zcl) (L:Nat) (p0:List (List V)) (k:KK β):zw zmk (zmg xy L) L zhZ [(V.sl 1 p0)] [] k=zmH xy L p0 (fun p0=>k (V.gs 1 p0) []):=by kernel_rfl
abbrev xJ:=∀ (β:Type),Nat→List (List V)→(List (List V)→Option β)→Option β
def zg (β:Type) (L:Nat) (p0:List (List V)) (k_fin:List (List V)→Option β):Option β:=zmH xy L p0 k_fin
def zjt (zg:xJ) (L:Nat) (β:Type) (args:List V) (bor:Bor) (k:KK β):Option β:=match args,bor with
 | [a0],[]=>aL 1 a0 fun p0=>zg β L p0 (fun p0=>k (V.gs 1 p0) [])
 | _,_=>none
theorem zvd (L:Nat) (β:Type) (args:List V) (bor:Bor) (k:KK β) (r:β) (h:zjt zg L β args bor k=some r):zw zmk (zmg xy L) L zhZ args bor k=some r:=by
 unfold zjt at h
 split at h
 ·have q:=zP h; clear h; obtain ⟨p0,rfl,h⟩:=q
  exact (zvb xy L p0 k).trans h
 ·cases h
def yM:CC:=(.seq (.reg [oo 71 (.bin .lss (tq 70) (tq 69))])
 (.seq (.cond (tq 71)
 .skip
 (.seq (.mask (bl 2048 107) (bl 161743038378964839130736357535743 107))
 (.exit 0)))
 (.seq (.block 1 (.seq (.reg [oo 72 (.indexAddrS 1 (tq 68) (tq 70)),
   oo 73 (.load false 1 (tq 72) false),
   oo 18 (.move (tq 73) false)])
 (.seq (.reg [oo 75 (.move (tq 18) false),
   oo 76 (.call 415 [((tq 75),0)] []),
   oo 74 (.move (tq 76) true),
   oo 77 (.extract (tq 74) 0),
   oo 78 (.pull (tq 74) 1),
   oo 19 (.move (tq 77) false),
   oo 20 (.move (tq 78) false)])
 (.seq (.reg [oo 80 (.move (tq 18) false),
   oo 81 (.call 653 [((tq 80),0)] []),
   oo 79 (.move (tq 81) true),
   oo 82 (.extract (tq 79) 0),
   oo 83 (.pull (tq 79) 1),
   oo 21 (.move (tq 82) false),
   oo 22 (.move (tq 83) false)])
 (.seq (.reg [oo 84 (.move (tq 20) false),
   oo 85 (.move (tq 22) false),
   oo 86 (.bin .neq (tq 84) (tq 85)),
   oo 87 (.move (tq 86) false),
   ⟨(some 88),false,(some (87,false)),.move (tq 19) false⟩,
   ⟨(some 89),false,(some (87,false)),.move (tq 21) false⟩,
   ⟨(some 90),false,(some (87,false)),.call 654 [((tq 88),0),((tq 89),0)] []⟩,
   ⟨(some 91),false,(some (87,false)),.un .not (tq 90)⟩,
   oo 92 (.pick (tq 87) (.const (.sc (.bool true))) (tq 91)),
   oo 93 (.move (tq 92) false),
   ⟨(some 94),false,(some (93,false)),.move (tq 18) false⟩,
   ⟨(some 95),false,(some (93,false)),.call 655 [((tq 94),0)] []⟩,
   ⟨(some 96),false,(some (93,false)),.move (tq 18) false⟩,
   ⟨(some 97),false,(some (93,false)),.call 656 [((tq 96),0)] []⟩,
   ⟨(some 98),false,(some (93,false)),.call 130 [((tq 95),0),((tq 97),0)] []⟩,
   ⟨(some 99),false,(some (93,false)),.un .not (tq 98)⟩,
   oo 100 (.pick (tq 93) (.const (.sc (.bool true))) (tq 99))])
 (.cond (tq 100)
 (.seq (.reg [oo 12 (.move (.const (.sc (.bool false))) false)])
 (.seq (.mask (bl 4096 107) (bl 161743038378964839130736357537791 107))
 .ret))
 .skip))))))
 (.reg [oo 101 (.bin .add (tq 70) (.const (.sc (.int .i64 1)))),
   oo 70 (.move (tq 101) false)]))))
def y6:CC:=(.seq (.dreg [] [(oo 102 (.load true 3 (tq 11) false),ql 11 [] []),
   (oo 103 (.call 432 [((tq 102),1)] []),qc [11] []),
   (oo 104 (.load true 3 (tq 11) false),ql 11 [] []),
   (oo 105 (.call 657 [((tq 104),1)] []),q0),
   (oo 106 (.eqB false (tq 103) (tq 105)),q0),
   (oo 12 (.move (tq 106) false),q0)])
 .ret)
def xS:CF:=⟨107,[.tmp 12],
 (.seq (.reg [oo 11 (.box true (tq 5)),
   oo 12 (.move (.const (.sc (.bool false))) false)])
 (.seq (.seq (.reg [oo 23 (.call 410 [] []),
   oo 24 (.un .not (tq 23))])
 (.cond (tq 24)
 (.seq (.reg [oo 12 (.move (.const (.sc (.bool false))) false)])
 .ret)
 .skip))
 (.seq (.seq (.reg [oo 25 (.move (tq 1) false),
   oo 26 (.lenS (tq 25)),
   oo 27 (.bin .gtr (tq 26) (.const (.sc (.int .i64 200)))),
   oo 28 (.move (tq 27) false),
   ⟨(some 29),false,(some (28,false)),.fieldAddr 2 (tq 11)⟩,
   ⟨(some 30),false,(some (28,false)),.load false 1 (tq 29) false⟩,
   ⟨(some 31),false,(some (28,false)),.lenS (tq 30)⟩,
   ⟨(some 32),false,(some (28,false)),.bin .gtr (tq 31) (.const (.sc (.int .i64 100)))⟩,
   oo 33 (.pick (tq 28) (.const (.sc (.bool true))) (tq 32))])
 (.cond (tq 33)
 (.seq (.reg [oo 12 (.move (.const (.sc (.bool true))) false)])
 .ret)
 .skip))
 (.seq (.reg [oo 35 (.move (tq 0) false),
   oo 36 (.call 650 [((tq 35),0)] []),
   oo 34 (.move (tq 36) true),
   oo 37 (.extract (tq 34) 0),
   oo 38 (.extract (tq 34) 1),
   oo 39 (.extract (tq 34) 2),
   oo 13 (.move (tq 37) true),
   oo 14 (.move (tq 38) false),
   oo 15 (.move (tq 39) false)])
 (.seq (.reg [⟨(some 40),true,none,.buildSlice 1 0 [(.sc (.int .u8 0))] []⟩,
   oo 41 (.move (tq 13) false),
   ⟨(some 42),true,none,.append 1 1 (tq 40) (tq 41)⟩,
   oo 16 (.move (tq 42) false)])
 (.seq (.seq (.reg [oo 43 (.move (tq 16) false),
   oo 44 (.lenS (tq 43)),
   oo 45 (.bin .gtr (tq 44) (.const (.sc (.int .i64 0))))])
 (.cond (tq 45)
 (.reg [oo 46 (.move (tq 16) false),
   oo 47 (.move (tq 2) false),
   oo 48 (.move (tq 16) false),
   oo 49 (.lenS (tq 48)),
   oo 50 (.call 217 [((tq 47),0),((tq 49),0)] []),
   oo 51 (.move (tq 3) false),
   oo 52 (.conv .u8 (tq 51)),
   oo 53 (.indexAddrS 1 (tq 46) (tq 50)),
   oz (.store 1 (tq 53) (tq 52))])
 .skip))
 (.seq (.seq (.dreg [42] [(oo 54 (.move (tq 13) false),q0),
   (oo 55 (.see (tq 16)),q1),
   (oo 56 (.move (tq 13) false),q0),
   (oo 57 (.move (tq 4) false),q0),
   (oo 58 (.move (tq 13) false),q0),
   (oo 59 (.lenS (tq 58)),q0),
   (oo 60 (.bin .add (tq 59) (.const (.sc (.int .i64 1)))),q0),
   (oo 61 (.call 217 [((tq 57),0),((tq 60),0)] []),q2),
   (oo 62 (.sliceS 1 (tq 56) none (some (tq 61)) none),q0),
   (oo 63 (.move (tq 1) false),q0),
   (oo 64 (.move (tq 13) false),q0),
   (oo 65 (.move (tq 1) false),q0),
   (oo 66 (.buildSlice 1 2 [(.sl 1 [])] [(0,1,(tq 64)),(1,1,(tq 65))]),q1),
   (oo 67 (.call 453 [((tq 66),0)] []),q1),
   (oo 68 (.buildSlice 1 5 [(.sl 1 [])] [(0,1,(tq 54)),(1,1,(tq 55)),(2,1,(tq 62)),(3,1,(tq 63)),(4,1,(tq 67))]),q0),
   (oo 69 (.lenS (tq 68)),q0),
   (oo 70 (.move (.const (.sc (.int .i64 0))) false),q0)])
 (.block 0 (.loop (bl 2066035336255469783040 107) (bl 161743038378964839130736357535743 107)
 yM)))
 y6)))))))⟩
def zjB:Hint:=⟨[(0,0),(5,2),(5,3),(5,4),(5,5),(5,6),(12,2),(12,3),(13,2),(13,3)],[(6,0),(6,2)],[none,none,none,none,none,none,some ((bl 2066035336255469783040 107),(bl 161743038378964839130736357535743 107)),none,some ((bl 2048 107),(bl 161743038378964839130736357535743 107)),none,none,some ((bl 4096 107),(bl 161743038378964839130736357537791 107)),none],[(9,[42])],[(9,1,[0,0])],false,false⟩
def zD:Nat→Sh:=yV [(30,(.sl 1)),(73,(.sl 1))]
def xC (xb:zn) (xe:zA) (zc:yq) (xa:zk) (yb:xm) (yi:zQ) (yc:zt) (zb:yk) (zg:xJ) (za:xi) (ze:zB) (zf:xE) (L:Nat):CBC:=(xB 657 (zfC zf L) (xB 432 (zeh ze L) (xB 130 (zd2 za L) (xB 656 (zjt zg L) (xB 655 (ze6 zb L) (xB 654 (zil yc L) (xB 653 (zl0 yi L) (xB 415 (ze4 yb L) (xB 453 (zdS xa L) (xB 217 (zhc zc L) (xB 650 (zhp xe L) (xB 410 (zgB xb L) noC))))))))))))
def yR:St→St:=zZ 0 (bl 2066035336255469783040 107) (bl 161743038378964839130736357535743 107)
def zbc (p68:List (List V)) (p69 p70:Int) (b11:List V):St:=⟨(jn 11 ((V.ptr 11 0)::(jn 56 ((V.gs 1 p68)::((V.sc (.int .i64 p69))::((V.sc (.int .i64 p70))::(jn 36 []))))))),(gn 11 ((.live true b11)::(gn 30 ((.live true [])::(gn 64 [])))))⟩
def zaP (p68:List (List V)) (p69 p70:Int) (b11 b42:List V):St:=⟨(jn 11 ((V.ptr 11 0)::(jn 56 ((V.gs 1 p68)::((V.sc (.int .i64 p69))::((V.sc (.int .i64 p70))::(jn 36 []))))))),(gn 11 ((.live true b11)::(gn 30 ((.fz b42)::(gn 64 [])))))⟩
def zeX (p12:Bool):St:=⟨(jn 12 ((V.sc (.bool p12))::(jn 94 []))),(gn 42 ((.live true [])::(gn 64 [])))⟩
def zfa (b11:List V):St:=⟨(jn 11 ((V.ptr 11 0)::(jn 95 []))),(gn 11 ((.live true b11)::(gn 30 ((.live true [])::(gn 64 [])))))⟩
def zdY (p12:Bool) (b42:List V):St:=⟨(jn 12 ((V.sc (.bool p12))::(jn 94 []))),(gn 42 ((.fz b42)::(gn 64 [])))⟩
def zeu (b11 b42:List V):St:=⟨(jn 11 ((V.ptr 11 0)::(jn 95 []))),(gn 11 ((.live true b11)::(gn 30 ((.fz b42)::(gn 64 [])))))⟩
def zhj {β:Type} (xb:zn) (xe:zA) (zc:yq) (xa:zk) (yb:xm) (yi:zQ) (yc:zt) (zb:yk) (zg:xJ) (za:xi) (ze:zB) (zf:xE) (L:Nat) (p0 p1:List (List V)) (p2 p3 p4:Int) (p5:List V) (k_fin:Bool→Option β) (k_hbbbbbbaba:List (List V)→Int→Int→List V→Option β) (k_hbbbbbbabav1:List (List V)→Int→Int→List V→List V→Option β):Option β :=
 xb β L  (fun v0 =>
 ifb (!v0) (
 k_fin false) (
 ifb (decide (((List.length p1:Nat):Int) > (200:Int))) (
 k_fin true) (
 cLd 1 p5 2 fun v1 =>
 ifb (decide (((List.length v1:Nat):Int) > (100:Int))) (
 k_fin true) (
 xe β L p0 (fun v2 v3 v4 =>
 chk ((0+List.length v2) * 1≤xj∧0+List.length v2≤xj) (
 ifb (decide ((((List.length v2):Nat):Int) > (0:Int))) (
 zc β L p2 (((List.length v2):Nat):Int) (fun v5 =>
 lt (IntKind.wrap .u8 p3) fun x6 =>
 chk (0≤v5∧v5 < (((List.length v2):Nat):Int)) (
 chk (1=1∧(0+((Int.toNat v5) * 1))+1≤(List.length (List.flatten v2))) (
 lt (zr (List.flatten v2) (0+((Int.toNat v5) * 1)) [(V.sc (.int .u8 x6))]) fun r7 =>
 lc r7 (
 chk ((List.length v2)=0) (
 lt (IntKind.wrap .i64 ((((List.length v2:Nat):Int):Int)+(1:Int))) fun x10 =>
 zc β L p4 x10 (fun v11 =>
 chk (0≤v11∧v11≤(((List.length v2):Nat):Int)) (
 xa β L (zh 1 2 [(V.sl 1 v2),(V.sl 1 p1)]) (fun v12 =>
 k_hbbbbbbaba (zh 1 5 [(V.sl 1 v2),(V.sl 1 ([]:List (List V))),(V.sl 1 (List.take ((Int.toNat v11) - 0) (List.drop 0 v2))),(V.sl 1 p1),(V.sl 1 v12)]) ((List.length (zh 1 5 [(V.sl 1 v2),(V.sl 1 ([]:List (List V))),(V.sl 1 (List.take ((Int.toNat v11) - 0) (List.drop 0 v2))),(V.sl 1 p1),(V.sl 1 v12)]):Nat):Int) (0:Int) p5))))) (fun h8 t9 =>
 lt (IntKind.wrap .i64 ((((List.length v2:Nat):Int):Int)+(1:Int))) fun x13 =>
 zc β L p4 x13 (fun v14 =>
 chk (0≤v14∧v14≤(((List.length v2):Nat):Int)) (
 xa β L (zh 1 2 [(V.sl 1 v2),(V.sl 1 p1)]) (fun v15 =>
 k_hbbbbbbabav1 (zh 1 5 [(V.sl 1 v2),(V.sl 1 (zh 1 (List.length v2) (h8::t9))),(V.sl 1 (List.take ((Int.toNat v14) - 0) (List.drop 0 v2))),(V.sl 1 p1),(V.sl 1 v15)]) ((List.length (zh 1 5 [(V.sl 1 v2),(V.sl 1 (zh 1 (List.length v2) (h8::t9))),(V.sl 1 (List.take ((Int.toNat v14) - 0) (List.drop 0 v2))),(V.sl 1 p1),(V.sl 1 v15)]):Nat):Int) (0:Int) p5 (h8::t9))))))))) (
 lc (List.flatten v2) (
 chk ((List.length v2)=0) (
 lt (IntKind.wrap .i64 ((((List.length v2:Nat):Int):Int)+(1:Int))) fun x18 =>
 zc β L p4 x18 (fun v19 =>
 chk (0≤v19∧v19≤(((List.length v2):Nat):Int)) (
 xa β L (zh 1 2 [(V.sl 1 v2),(V.sl 1 p1)]) (fun v20 =>
 k_hbbbbbbaba (zh 1 5 [(V.sl 1 v2),(V.sl 1 ([]:List (List V))),(V.sl 1 (List.take ((Int.toNat v19) - 0) (List.drop 0 v2))),(V.sl 1 p1),(V.sl 1 v20)]) ((List.length (zh 1 5 [(V.sl 1 v2),(V.sl 1 ([]:List (List V))),(V.sl 1 (List.take ((Int.toNat v19) - 0) (List.drop 0 v2))),(V.sl 1 p1),(V.sl 1 v20)]):Nat):Int) (0:Int) p5))))) (fun h16 t17 =>
 lt (IntKind.wrap .i64 ((((List.length v2:Nat):Int):Int)+(1:Int))) fun x21 =>
 zc β L p4 x21 (fun v22 =>
 chk (0≤v22∧v22≤(((List.length v2):Nat):Int)) (
 xa β L (zh 1 2 [(V.sl 1 v2),(V.sl 1 p1)]) (fun v23 =>
 k_hbbbbbbabav1 (zh 1 5 [(V.sl 1 v2),(V.sl 1 (zh 1 (List.length v2) (h16::t17))),(V.sl 1 (List.take ((Int.toNat v22) - 0) (List.drop 0 v2))),(V.sl 1 p1),(V.sl 1 v23)]) ((List.length (zh 1 5 [(V.sl 1 v2),(V.sl 1 (zh 1 (List.length v2) (h16::t17))),(V.sl 1 (List.take ((Int.toNat v22) - 0) (List.drop 0 v2))),(V.sl 1 p1),(V.sl 1 v23)]):Nat):Int) (0:Int) p5 (h16::t17))))))))))))
theorem zp8 {β:Type} (xb:zn) (xe:zA) (zc:yq) (xa:zk) (yb:xm) (yi:zQ) (yc:zt) (zb:yk) (zg:xJ) (za:xi) (ze:zB) (zf:xE) (L:Nat) (p0 p1:List (List V)) (p2 p3 p4:Int) (p5:List V) (k:KK β):zw zD (xC xb xe zc xa yb yi yc zb zg za ze zf L) L xS [(V.sl 1 p0),(V.sl 1 p1),(V.sc (.int .i64 p2)),(V.sc (.int .i64 p3)),(V.sc (.int .i64 p4)),(V.agg p5)] [] k=zhj xb xe zc xa yb yi yc zb zg za ze zf L p0 p1 p2 p3 p4 p5 (fun p0=>k (V.sc (.bool p0)) []) (fun p68 p69 p70 b11=>zz (xk zD (xC xb xe zc xa yb yi yc zb zg za ze zf L) 0 L yM) yR L (zbc p68 p69 p70 b11) (yA 0 (xO (xk zD (xC xb xe zc xa yb yi yc zb zg za ze zf L) 0 L y6) (yP 0 (CF.res xS) k)))) (fun p68 p69 p70 b11 b42=>zz (xk zD (xC xb xe zc xa yb yi yc zb zg za ze zf L) 0 L yM) yR L (zaP p68 p69 p70 b11 b42) (yA 0 (xO (xk zD (xC xb xe zc xa yb yi yc zb zg za ze zf L) 0 L y6) (yP 0 (CF.res xS) k)))):=by kernel_rfl
def zdl {β:Type} (xb:zn) (xe:zA) (zc:yq) (xa:zk) (yb:xm) (yi:zQ) (yc:zt) (zb:yk) (zg:xJ) (za:xi) (ze:zB) (zf:xE) (L:Nat) (p68:List (List V)) (p69 p70:Int) (b11:List V) (k_ret:Bool→Option β) (k_hbbbbbbaba:List (List V)→Int→Int→List V→Option β) (k_x0:List V→Option β):Option β :=
 ifb (decide (p70 < p69)) (
 idx p68 p70 fun c24 =>
 cL 1 c24 0 fun v25 =>
 yb β L v25 (fun v26 v27 =>
 yi β L v25 (fun v28 v29 =>
 ifb ((v27:Int) != v29) (
 k_ret false) (
 yc β L v26 v28 (fun v30 =>
 ifb (!v30) (
 k_ret false) (
 zb β L v25 (fun v31 =>
 zg β L v25 (fun v32 =>
 za β L v31 v32 (fun v33 =>
 ifb (!v33) (
 k_ret false) (
 lt (IntKind.wrap .i64 ((p70:Int)+(1:Int))) fun x34 =>
 k_hbbbbbbaba p68 p69 x34 b11)))))))))) (
 k_x0 b11)
theorem zkG {β:Type} (xb:zn) (xe:zA) (zc:yq) (xa:zk) (yb:xm) (yi:zQ) (yc:zt) (zb:yk) (zg:xJ) (za:xi) (ze:zB) (zf:xE) (L:Nat) (p68:List (List V)) (p69 p70:Int) (b11:List V) (X:St→Option β) (K:KT β):xk zD (xC xb xe zc xa yb yi yc zb zg za ze zf L) 0 L yM (zbc p68 p69 p70 b11) (zaJ yR X K)=zdl xb xe zc xa yb yi yc zb zg za ze zf L p68 p69 p70 b11 (fun p12=>K .ret (zeX p12)) (fun p68 p69 p70 b11=>X (zbc p68 p69 p70 b11)) (fun b11=>K (.exit 0) (zfa b11)):=by kernel_rfl
def zcL {β:Type} (xb:zn) (xe:zA) (zc:yq) (xa:zk) (yb:xm) (yi:zQ) (yc:zt) (zb:yk) (zg:xJ) (za:xi) (ze:zB) (zf:xE) (L:Nat) (p68:List (List V)) (p69 p70:Int) (b11 b42:List V) (k_retv1:Bool→List V→Option β) (k_hbbbbbbabav1:List (List V)→Int→Int→List V→List V→Option β) (k_x0v1:List V→List V→Option β):Option β :=
 ifb (decide (p70 < p69)) (
 idx p68 p70 fun c35 =>
 cL 1 c35 0 fun v36 =>
 yb β L v36 (fun v37 v38 =>
 yi β L v36 (fun v39 v40 =>
 ifb ((v38:Int) != v40) (
 k_retv1 false b42) (
 yc β L v37 v39 (fun v41 =>
 ifb (!v41) (
 k_retv1 false b42) (
 zb β L v36 (fun v42 =>
 zg β L v36 (fun v43 =>
 za β L v42 v43 (fun v44 =>
 ifb (!v44) (
 k_retv1 false b42) (
 lt (IntKind.wrap .i64 ((p70:Int)+(1:Int))) fun x45 =>
 k_hbbbbbbabav1 p68 p69 x45 b11 b42)))))))))) (
 k_x0v1 b11 b42)
theorem zjY {β:Type} (xb:zn) (xe:zA) (zc:yq) (xa:zk) (yb:xm) (yi:zQ) (yc:zt) (zb:yk) (zg:xJ) (za:xi) (ze:zB) (zf:xE) (L:Nat) (p68:List (List V)) (p69 p70:Int) (b11 b42:List V) (X:St→Option β) (K:KT β):xk zD (xC xb xe zc xa yb yi yc zb zg za ze zf L) 0 L yM (zaP p68 p69 p70 b11 b42) (zaJ yR X K)=zcL xb xe zc xa yb yi yc zb zg za ze zf L p68 p69 p70 b11 b42 (fun p12 b42=>K .ret (zdY p12 b42)) (fun p68 p69 p70 b11 b42=>X (zaP p68 p69 p70 b11 b42)) (fun b11 b42=>K (.exit 0) (zeu b11 b42)):=by kernel_rfl
def zcx {β:Type} (xb:zn) (xe:zA) (zc:yq) (xa:zk) (yb:xm) (yi:zQ) (yc:zt) (zb:yk) (zg:xJ) (za:xi) (ze:zB) (zf:xE) (L:Nat) (p12:Bool) (k_fin:Bool→Option β):Option β :=
 k_fin p12
theorem zjr {β:Type} (xb:zn) (xe:zA) (zc:yq) (xa:zk) (yb:xm) (yi:zQ) (yc:zt) (zb:yk) (zg:xJ) (za:xi) (ze:zB) (zf:xE) (L:Nat) (p12:Bool) (k:KK β):(yA 0 (xO (xk zD (xC xb xe zc xa yb yi yc zb zg za ze zf L) 0 L y6) (yP 0 (CF.res xS) k))) .ret (zeX p12)=zcx xb xe zc xa yb yi yc zb zg za ze zf L p12 (fun p0=>k (V.sc (.bool p0)) []):=by kernel_rfl
def zbl {β:Type} (xb:zn) (xe:zA) (zc:yq) (xa:zk) (yb:xm) (yi:zQ) (yc:zt) (zb:yk) (zg:xJ) (za:xi) (ze:zB) (zf:xE) (L:Nat) (b11:List V) (k_fin:Bool→Option β):Option β :=
 chk (0+3≤(List.length b11)) (
 ze β L (List.map V.dem (List.take 3 b11)) (fun v46 =>
 chk (0+3≤(List.length b11)) (
 zf β L (List.map V.dem (List.take 3 b11)) (fun v47 =>
 k_fin (v46 == v47)))))
theorem zj0 {β:Type} (xb:zn) (xe:zA) (zc:yq) (xa:zk) (yb:xm) (yi:zQ) (yc:zt) (zb:yk) (zg:xJ) (za:xi) (ze:zB) (zf:xE) (L:Nat) (b11:List V) (k:KK β):(yA 0 (xO (xk zD (xC xb xe zc xa yb yi yc zb zg za ze zf L) 0 L y6) (yP 0 (CF.res xS) k))) (.exit 0) (zfa b11)=zbl xb xe zc xa yb yi yc zb zg za ze zf L b11 (fun p0=>k (V.sc (.bool p0)) []):=by kernel_rfl
def zbN {β:Type} (xb:zn) (xe:zA) (zc:yq) (xa:zk) (yb:xm) (yi:zQ) (yc:zt) (zb:yk) (zg:xJ) (za:xi) (ze:zB) (zf:xE) (L:Nat) (p12:Bool) (b42:List V) (k_fin:Bool→Option β):Option β :=
 k_fin p12
theorem zhy {β:Type} (xb:zn) (xe:zA) (zc:yq) (xa:zk) (yb:xm) (yi:zQ) (yc:zt) (zb:yk) (zg:xJ) (za:xi) (ze:zB) (zf:xE) (L:Nat) (p12:Bool) (b42:List V) (k:KK β):(yA 0 (xO (xk zD (xC xb xe zc xa yb yi yc zb zg za ze zf L) 0 L y6) (yP 0 (CF.res xS) k))) .ret (zdY p12 b42)=zbN xb xe zc xa yb yi yc zb zg za ze zf L p12 b42 (fun p0=>k (V.sc (.bool p0)) []):=by kernel_rfl
def zaO {β:Type} (xb:zn) (xe:zA) (zc:yq) (xa:zk) (yb:xm) (yi:zQ) (yc:zt) (zb:yk) (zg:xJ) (za:xi) (ze:zB) (zf:xE) (L:Nat) (b11 b42:List V) (k_fin:Bool→Option β):Option β :=
 chk (0+3≤(List.length b11)) (
 ze β L (List.map V.dem (List.take 3 b11)) (fun v48 =>
 chk (0+3≤(List.length b11)) (
 zf β L (List.map V.dem (List.take 3 b11)) (fun v49 =>
 k_fin (v48 == v49)))))
theorem zhF {β:Type} (xb:zn) (xe:zA) (zc:yq) (xa:zk) (yb:xm) (yi:zQ) (yc:zt) (zb:yk) (zg:xJ) (za:xi) (ze:zB) (zf:xE) (L:Nat) (b11 b42:List V) (k:KK β):(yA 0 (xO (xk zD (xC xb xe zc xa yb yi yc zb zg za ze zf L) 0 L y6) (yP 0 (CF.res xS) k))) (.exit 0) (zeu b11 b42)=zaO xb xe zc xa yb yi yc zb zg za ze zf L b11 b42 (fun p0=>k (V.sc (.bool p0)) []):=by kernel_rfl
def zah {β:Type} (xb:zn) (xe:zA) (zc:yq) (xa:zk) (yb:xm) (yi:zQ) (yc:zt) (zb:yk) (zg:xJ) (za:xi) (ze:zB) (zf:xE) (L:Nat) (k_ret:Bool→Option β) (k_x0:List V→Option β):Nat→List (List V)→Int→Int→List V→Option β
 | 0,_,_,_,_=>none
 | n+1,p68,p69,p70,b11=>zdl xb xe zc xa yb yi yc zb zg za ze zf L p68 p69 p70 b11 k_ret (fun p68 p69 p70 b11=>zah xb xe zc xa yb yi yc zb zg za ze zf L k_ret k_x0 n p68 p69 p70 b11) k_x0
theorem zfh {β:Type} (xb:zn) (xe:zA) (zc:yq) (xa:zk) (yb:xm) (yi:zQ) (yc:zt) (zb:yk) (zg:xJ) (za:xi) (ze:zB) (zf:xE) (L:Nat) (K:KT β):∀ (n:Nat) (p68:List (List V)) (p69 p70:Int) (b11:List V),zz (xk zD (xC xb xe zc xa yb yi yc zb zg za ze zf L) 0 L yM) yR n (zbc p68 p69 p70 b11) K=zah xb xe zc xa yb yi yc zb zg za ze zf L (fun p12=>K .ret (zeX p12)) (fun b11=>K (.exit 0) (zfa b11)) n p68 p69 p70 b11:=by
 intro n
 induction n with
 | zero=>intros; rfl
 | succ n ih =>
  intro p68 p69 p70 b11
  refine (zkG xb xe zc xa yb yi yc zb zg za ze zf L p68 p69 p70 b11 (fun σ=>zz (xk zD (xC xb xe zc xa yb yi yc zb zg za ze zf L) 0 L yM) yR n σ K) K).trans ?_
  simp only [ih]
  rfl
def yZ {β:Type} (xb:zn) (xe:zA) (zc:yq) (xa:zk) (yb:xm) (yi:zQ) (yc:zt) (zb:yk) (zg:xJ) (za:xi) (ze:zB) (zf:xE) (L:Nat) (k_retv1:Bool→List V→Option β) (k_x0v1:List V→List V→Option β):Nat→List (List V)→Int→Int→List V→List V→Option β
 | 0,_,_,_,_,_=>none
 | n+1,p68,p69,p70,b11,b42=>zcL xb xe zc xa yb yi yc zb zg za ze zf L p68 p69 p70 b11 b42 k_retv1 (fun p68 p69 p70 b11 b42=>yZ xb xe zc xa yb yi yc zb zg za ze zf L k_retv1 k_x0v1 n p68 p69 p70 b11 b42) k_x0v1
theorem zeD {β:Type} (xb:zn) (xe:zA) (zc:yq) (xa:zk) (yb:xm) (yi:zQ) (yc:zt) (zb:yk) (zg:xJ) (za:xi) (ze:zB) (zf:xE) (L:Nat) (K:KT β):∀ (n:Nat) (p68:List (List V)) (p69 p70:Int) (b11 b42:List V),zz (xk zD (xC xb xe zc xa yb yi yc zb zg za ze zf L) 0 L yM) yR n (zaP p68 p69 p70 b11 b42) K=yZ xb xe zc xa yb yi yc zb zg za ze zf L (fun p12 b42=>K .ret (zdY p12 b42)) (fun b11 b42=>K (.exit 0) (zeu b11 b42)) n p68 p69 p70 b11 b42:=by
 intro n
 induction n with
 | zero=>intros; rfl
 | succ n ih =>
  intro p68 p69 p70 b11 b42
  refine (zjY xb xe zc xa yb yi yc zb zg za ze zf L p68 p69 p70 b11 b42 (fun σ=>zz (xk zD (xC xb xe zc xa yb yi yc zb zg za ze zf L) 0 L yM) yR n σ K) K).trans ?_
  simp only [ih]
  rfl
def zeO {β:Type} (xb:zn) (xe:zA) (zc:yq) (xa:zk) (yb:xm) (yi:zQ) (yc:zt) (zb:yk) (zg:xJ) (za:xi) (ze:zB) (zf:xE) (L:Nat) (p0 p1:List (List V)) (p2 p3 p4:Int) (p5:List V) (k_fin:Bool→Option β):Option β :=
 zhj xb xe zc xa yb yi yc zb zg za ze zf L p0 p1 p2 p3 p4 p5 k_fin (fun p68 p69 p70 b11=>zah xb xe zc xa yb yi yc zb zg za ze zf L (fun p12=>zcx xb xe zc xa yb yi yc zb zg za ze zf L p12 k_fin) (fun b11=>zbl xb xe zc xa yb yi yc zb zg za ze zf L b11 k_fin) L p68 p69 p70 b11) (fun p68 p69 p70 b11 b42=>yZ xb xe zc xa yb yi yc zb zg za ze zf L (fun p12 b42=>zbN xb xe zc xa yb yi yc zb zg za ze zf L p12 b42 k_fin) (fun b11 b42=>zaO xb xe zc xa yb yi yc zb zg za ze zf L b11 b42 k_fin) L p68 p69 p70 b11 b42)
theorem zp9 {β:Type} (xb:zn) (xe:zA) (zc:yq) (xa:zk) (yb:xm) (yi:zQ) (yc:zt) (zb:yk) (zg:xJ) (za:xi) (ze:zB) (zf:xE) (L:Nat) (p0 p1:List (List V)) (p2 p3 p4:Int) (p5:List V) (k:KK β):zw zD (xC xb xe zc xa yb yi yc zb zg za ze zf L) L xS [(V.sl 1 p0),(V.sl 1 p1),(V.sc (.int .i64 p2)),(V.sc (.int .i64 p3)),(V.sc (.int .i64 p4)),(V.agg p5)] [] k=zeO xb xe zc xa yb yi yc zb zg za ze zf L p0 p1 p2 p3 p4 p5 (fun p0=>k (V.sc (.bool p0)) []):=by
 refine (zp8 xb xe zc xa yb yi yc zb zg za ze zf L p0 p1 p2 p3 p4 p5 k).trans ?_
 unfold zeO
 first
  | (simp only [zfh,zjr,zj0,zeD,zhy,zhF]; done)
  | (simp only [zfh,zeD]; rfl)
abbrev zsz:=∀ (β:Type),Nat→List (List V)→List (List V)→Int→Int→Int→List V→(Bool→Option β)→Option β
def zaI (β:Type) (L:Nat) (p0 p1:List (List V)) (p2 p3 p4:Int) (p5:List V) (k_fin:Bool→Option β):Option β:=zeO xb xe zc xa yb yi yc zb zg za ze zf L p0 p1 p2 p3 p4 p5 k_fin
def zeQ (zaI:zsz) (L:Nat) (β:Type) (args:List V) (bor:Bor) (k:KK β):Option β:=match args,bor with
 | [a0,a1,a2,a3,a4,a5],[]=>aL 1 a0 fun p0=>aL 1 a1 fun p1=>aI .i64 a2 fun p2=>aI .i64 a3 fun p3=>aI .i64 a4 fun p4=>aG a5 fun p5=>zaI β L p0 p1 p2 p3 p4 p5 (fun p0=>k (V.sc (.bool p0)) [])
 | _,_=>none
theorem zpZ (L:Nat) (β:Type) (args:List V) (bor:Bor) (k:KK β) (r:β) (h:zeQ zaI L β args bor k=some r):zw zD (xC xb xe zc xa yb yi yc zb zg za ze zf L) L xS args bor k=some r:=by
 unfold zeQ at h
 split at h
 ·have q:=zP h; clear h; obtain ⟨p0,rfl,h⟩:=q
  have q:=zP h; clear h; obtain ⟨p1,rfl,h⟩:=q
  have q:=xR h; clear h; obtain ⟨p2,rfl,h⟩:=q
  have q:=xR h; clear h; obtain ⟨p3,rfl,h⟩:=q
  have q:=xR h; clear h; obtain ⟨p4,rfl,h⟩:=q
  have q:=zgK h; clear h; obtain ⟨p5,rfl,h⟩:=q
  exact (zp9 xb xe zc xa yb yi yc zb zg za ze zf L p0 p1 p2 p3 p4 p5 k).trans h
 ·cases h
def gls:List (Nat × List V):=[(0,gk_sha_initial),(1,gk_sha_k)]
def fg:List (Nat × Nat):=[(3,647),(4,648),(5,649),(6,410),(7,650),(8,651),(9,225),(10,217),(11,453),(12,414),(13,652),(14,130),(15,415),(16,653),(17,654),(18,655),(19,656),(20,432),(21,657),(22,231),(23,274),(24,193),(25,433),(26,157),(27,434),(28,435),(29,658),(30,159),(31,659),(32,495),(33,247),(34,457),(35,191),(36,192),(37,458),(38,459),(39,660),(40,194),(41,494),(42,170),(43,195),(44,496),(45,497),(46,498),(47,200),(48,531),(49,532),(50,533),(51,197),(52,207),(53,534),(54,535),(55,209),(56,569),(57,570),(58,571),(59,198),(60,572),(77,640),(78,641),(79,642),(80,643)]
def rows:List Row:=[⟨20,432,znK,zhi⟩,⟨59,198,zqC,zkD⟩,⟨51,197,zkh,zbd⟩,⟨42,170,zrA,zlm⟩,⟨52,207,zk3,zbv⟩,⟨43,195,zsV,znD⟩,⟨32,495,zgL,zcs⟩,⟨28,435,zga,zN⟩,⟨45,497,ztz,zfK⟩,⟨44,496,zur,zg6⟩,⟨60,572,zgP,zcH⟩,⟨54,535,zs2,znw⟩,⟨53,534,zoB,za0⟩,⟨46,498,zow,zc1⟩,⟨37,458,ztX,zdL⟩,⟨27,434,znR,zg9⟩,⟨34,457,zoD,zib⟩,⟨25,433,zoC,zcZ⟩,⟨36,192,zot,zda⟩,⟨35,191,zoF,zh7⟩,⟨26,157,zlk,zfL⟩,⟨12,414,zmC,zgu⟩,⟨15,415,zoA,zh3⟩,⟨6,410,zqi,zkv⟩,⟨9,225,zs5,znu⟩,⟨33,247,zmw,zgk⟩,⟨10,217,zsZ,znA⟩,⟨22,231,zmA,zgd⟩,⟨23,274,zmo,zfY⟩,⟨8,651,zpo,zdA⟩,⟨21,657,zpn,zjq⟩,⟨55,209,zoE,zc7⟩,⟨47,200,zrO,zl6⟩,⟨24,193,zoy,zh9⟩,⟨11,453,zqp,zer⟩,⟨48,531,zrs,zcq⟩,⟨49,532,znH,zhm⟩,⟨58,571,zqD,zkx⟩,⟨56,569,zmF,zaz⟩,⟨57,570,zlf,zfG⟩,⟨50,533,zmB,zb1⟩,⟨41,494,zrB,zcn⟩,⟨31,659,zpu,zjc⟩,⟨14,130,zqG,zkw⟩,⟨39,660,zpF,zjb⟩,⟨29,658,zqx,zeq⟩,⟨40,194,zoG,zc4⟩,⟨30,159,zlw,zfM⟩,⟨13,652,zou,zh0⟩,⟨7,650,zpI,zdy⟩,⟨3,647,zh8,zjy⟩,⟨17,654,zqc,zdh⟩,⟨18,655,zmD,zgn⟩,⟨5,649,zhU,zjz⟩,⟨16,653,zqr,zkt⟩,⟨19,656,zoz,zhZ⟩,⟨4,648,zjB,xS⟩]
theorem zvO:zS Tryd.prog (yK fg gls) znK 20=some zhi:=by kernel_rfl
theorem zzz:zS Tryd.prog (yK fg gls) zqC 59=some zkD:=by kernel_rfl
theorem zsL:zS Tryd.prog (yK fg gls) zkh 51=some zbd:=by kernel_rfl
theorem zAZ:zS Tryd.prog (yK fg gls) zrA 42=some zlm:=by kernel_rfl
theorem ztj:zS Tryd.prog (yK fg gls) zk3 52=some zbv:=by kernel_rfl
theorem zBE:zS Tryd.prog (yK fg gls) zsV 43=some znD:=by kernel_rfl
theorem zn3:zS Tryd.prog (yK fg gls) zgL 32=some zcs:=by kernel_rfl
theorem znS:zS Tryd.prog (yK fg gls) zga 28=some zN:=by kernel_rfl
theorem zCu:zS Tryd.prog (yK fg gls) ztz 45=some zfK:=by kernel_rfl
theorem zCq:zS Tryd.prog (yK fg gls) zur 44=some zg6:=by kernel_rfl
theorem zoV:zS Tryd.prog (yK fg gls) zgP 60=some zcH:=by kernel_rfl
theorem zBG:zS Tryd.prog (yK fg gls) zs2 54=some znw:=by kernel_rfl
theorem zwJ:zS Tryd.prog (yK fg gls) zoB 53=some za0:=by kernel_rfl
theorem zxf:zS Tryd.prog (yK fg gls) zow 46=some zc1:=by kernel_rfl
theorem zCw:zS Tryd.prog (yK fg gls) ztX 37=some zdL:=by kernel_rfl
theorem zwg:zS Tryd.prog (yK fg gls) znR 27=some zg9:=by kernel_rfl
theorem zxH:zS Tryd.prog (yK fg gls) zoD 34=some zib:=by kernel_rfl
theorem zxh:zS Tryd.prog (yK fg gls) zoC 25=some zcZ:=by kernel_rfl
theorem zxA:zS Tryd.prog (yK fg gls) zot 36=some zda:=by kernel_rfl
theorem zxL:zS Tryd.prog (yK fg gls) zoF 35=some zh7:=by kernel_rfl
theorem zuo:zS Tryd.prog (yK fg gls) zlk 26=some zfL:=by kernel_rfl
theorem zu7:zS Tryd.prog (yK fg gls) zmC 12=some zgu:=by kernel_rfl
theorem zwR:zS Tryd.prog (yK fg gls) zoA 15=some zh3:=by kernel_rfl
theorem zz2:zS Tryd.prog (yK fg gls) zqi 6=some zkv:=by kernel_rfl
theorem zBH:zS Tryd.prog (yK fg gls) zs5 9=some znu:=by kernel_rfl
theorem zuU:zS Tryd.prog (yK fg gls) zmw 33=some zgk:=by kernel_rfl
theorem zBB:zS Tryd.prog (yK fg gls) zsZ 10=some znA:=by kernel_rfl
theorem zuP:zS Tryd.prog (yK fg gls) zmA 22=some zgd:=by kernel_rfl
theorem ztW:zS Tryd.prog (yK fg gls) zmo 23=some zfY:=by kernel_rfl
theorem zyj:zS Tryd.prog (yK fg gls) zpo 8=some zdA:=by kernel_rfl
theorem zyK:zS Tryd.prog (yK fg gls) zpn 21=some zjq:=by kernel_rfl
theorem zxO:zS Tryd.prog (yK fg gls) zoE 55=some zc7:=by kernel_rfl
theorem zAs:zS Tryd.prog (yK fg gls) zrO 47=some zl6:=by kernel_rfl
theorem zwA:zS Tryd.prog (yK fg gls) zoy 24=some zh9:=by kernel_rfl
theorem zzY:zS Tryd.prog (yK fg gls) zqp 11=some zer:=by kernel_rfl
theorem zAu:zS Tryd.prog (yK fg gls) zrs 48=some zcq:=by kernel_rfl
theorem zws:zS Tryd.prog (yK fg gls) znH 49=some zhm:=by kernel_rfl
theorem zzG:zS Tryd.prog (yK fg gls) zqD 58=some zkx:=by kernel_rfl
theorem zvt:zS Tryd.prog (yK fg gls) zmF 56=some zaz:=by kernel_rfl
theorem zt7:zS Tryd.prog (yK fg gls) zlf 57=some zfG:=by kernel_rfl
theorem zvq:zS Tryd.prog (yK fg gls) zmB 50=some zb1:=by kernel_rfl
theorem zAC:zS Tryd.prog (yK fg gls) zrB 41=some zcn:=by kernel_rfl
theorem zyH:zS Tryd.prog (yK fg gls) zpu 31=some zjc:=by kernel_rfl
theorem zzy:zS Tryd.prog (yK fg gls) zqG 14=some zkw:=by kernel_rfl
theorem zyB:zS Tryd.prog (yK fg gls) zpF 39=some zjb:=by kernel_rfl
theorem zz1:zS Tryd.prog (yK fg gls) zqx 29=some zeq:=by kernel_rfl
theorem zx0:zS Tryd.prog (yK fg gls) zoG 40=some zc4:=by kernel_rfl
theorem zut:zS Tryd.prog (yK fg gls) zlw 30=some zfM:=by kernel_rfl
theorem zxi:zS Tryd.prog (yK fg gls) zou 13=some zh0:=by kernel_rfl
theorem zx9:zS Tryd.prog (yK fg gls) zpI 7=some zdy:=by kernel_rfl
theorem zp1:zS Tryd.prog (yK fg gls) zh8 3=some zjy:=by kernel_rfl
theorem zzK:zS Tryd.prog (yK fg gls) zqc 17=some zdh:=by kernel_rfl
theorem zuV:zS Tryd.prog (yK fg gls) zmD 18=some zgn:=by kernel_rfl
theorem zp5:zS Tryd.prog (yK fg gls) zhU 5=some zjz:=by kernel_rfl
theorem zzR:zS Tryd.prog (yK fg gls) zqr 16=some zkt:=by kernel_rfl
theorem zxu:zS Tryd.prog (yK fg gls) zoz 19=some zhZ:=by kernel_rfl
theorem zrz:zS Tryd.prog (yK fg gls) zjB 4=some xS:=by kernel_rfl
theorem zFw:∀ r ∈ rows,(r.f,r.g) ∈ fg∧zf7 Tryd.prog r.f=true∧zS Tryd.prog (yK fg gls) r.h r.f=some r.c:=by
 intro r hr
 simp only [rows,List.mem_cons,List.not_mem_nil,or_false] at hr
 rcases hr with rfl | rfl | rfl | rfl | rfl | rfl | rfl | rfl | rfl | rfl | rfl | rfl | rfl | rfl | rfl | rfl | rfl | rfl | rfl | rfl | rfl | rfl | rfl | rfl | rfl | rfl | rfl | rfl | rfl | rfl | rfl | rfl | rfl | rfl | rfl | rfl | rfl | rfl | rfl | rfl | rfl | rfl | rfl | rfl | rfl | rfl | rfl | rfl | rfl | rfl | rfl | rfl | rfl | rfl | rfl | rfl | rfl
 ·exact ⟨of_decide_eq_true (by kernel_rfl),by kernel_rfl,zvO⟩
 ·exact ⟨of_decide_eq_true (by kernel_rfl),by kernel_rfl,zzz⟩
 ·exact ⟨of_decide_eq_true (by kernel_rfl),by kernel_rfl,zsL⟩
 ·exact ⟨of_decide_eq_true (by kernel_rfl),by kernel_rfl,zAZ⟩
 ·exact ⟨of_decide_eq_true (by kernel_rfl),by kernel_rfl,ztj⟩
 ·exact ⟨of_decide_eq_true (by kernel_rfl),by kernel_rfl,zBE⟩
 ·exact ⟨of_decide_eq_true (by kernel_rfl),by kernel_rfl,zn3⟩
 ·exact ⟨of_decide_eq_true (by kernel_rfl),by kernel_rfl,znS⟩
 ·exact ⟨of_decide_eq_true (by kernel_rfl),by kernel_rfl,zCu⟩
 ·exact ⟨of_decide_eq_true (by kernel_rfl),by kernel_rfl,zCq⟩
 ·exact ⟨of_decide_eq_true (by kernel_rfl),by kernel_rfl,zoV⟩
 ·exact ⟨of_decide_eq_true (by kernel_rfl),by kernel_rfl,zBG⟩
 ·exact ⟨of_decide_eq_true (by kernel_rfl),by kernel_rfl,zwJ⟩
 ·exact ⟨of_decide_eq_true (by kernel_rfl),by kernel_rfl,zxf⟩
 ·exact ⟨of_decide_eq_true (by kernel_rfl),by kernel_rfl,zCw⟩
 ·exact ⟨of_decide_eq_true (by kernel_rfl),by kernel_rfl,zwg⟩
 ·exact ⟨of_decide_eq_true (by kernel_rfl),by kernel_rfl,zxH⟩
 ·exact ⟨of_decide_eq_true (by kernel_rfl),by kernel_rfl,zxh⟩
 ·exact ⟨of_decide_eq_true (by kernel_rfl),by kernel_rfl,zxA⟩
 ·exact ⟨of_decide_eq_true (by kernel_rfl),by kernel_rfl,zxL⟩
 ·exact ⟨of_decide_eq_true (by kernel_rfl),by kernel_rfl,zuo⟩
 ·exact ⟨of_decide_eq_true (by kernel_rfl),by kernel_rfl,zu7⟩
 ·exact ⟨of_decide_eq_true (by kernel_rfl),by kernel_rfl,zwR⟩
 ·exact ⟨of_decide_eq_true (by kernel_rfl),by kernel_rfl,zz2⟩
 ·exact ⟨of_decide_eq_true (by kernel_rfl),by kernel_rfl,zBH⟩
 ·exact ⟨of_decide_eq_true (by kernel_rfl),by kernel_rfl,zuU⟩
 ·exact ⟨of_decide_eq_true (by kernel_rfl),by kernel_rfl,zBB⟩
 ·exact ⟨of_decide_eq_true (by kernel_rfl),by kernel_rfl,zuP⟩
 ·exact ⟨of_decide_eq_true (by kernel_rfl),by kernel_rfl,ztW⟩
 ·exact ⟨of_decide_eq_true (by kernel_rfl),by kernel_rfl,zyj⟩
 ·exact ⟨of_decide_eq_true (by kernel_rfl),by kernel_rfl,zyK⟩
 ·exact ⟨of_decide_eq_true (by kernel_rfl),by kernel_rfl,zxO⟩
 ·exact ⟨of_decide_eq_true (by kernel_rfl),by kernel_rfl,zAs⟩
 ·exact ⟨of_decide_eq_true (by kernel_rfl),by kernel_rfl,zwA⟩
 ·exact ⟨of_decide_eq_true (by kernel_rfl),by kernel_rfl,zzY⟩
 ·exact ⟨of_decide_eq_true (by kernel_rfl),by kernel_rfl,zAu⟩
 ·exact ⟨of_decide_eq_true (by kernel_rfl),by kernel_rfl,zws⟩
 ·exact ⟨of_decide_eq_true (by kernel_rfl),by kernel_rfl,zzG⟩
 ·exact ⟨of_decide_eq_true (by kernel_rfl),by kernel_rfl,zvt⟩
 ·exact ⟨of_decide_eq_true (by kernel_rfl),by kernel_rfl,zt7⟩
 ·exact ⟨of_decide_eq_true (by kernel_rfl),by kernel_rfl,zvq⟩
 ·exact ⟨of_decide_eq_true (by kernel_rfl),by kernel_rfl,zAC⟩
 ·exact ⟨of_decide_eq_true (by kernel_rfl),by kernel_rfl,zyH⟩
 ·exact ⟨of_decide_eq_true (by kernel_rfl),by kernel_rfl,zzy⟩
 ·exact ⟨of_decide_eq_true (by kernel_rfl),by kernel_rfl,zyB⟩
 ·exact ⟨of_decide_eq_true (by kernel_rfl),by kernel_rfl,zz1⟩
 ·exact ⟨of_decide_eq_true (by kernel_rfl),by kernel_rfl,zx0⟩
 ·exact ⟨of_decide_eq_true (by kernel_rfl),by kernel_rfl,zut⟩
 ·exact ⟨of_decide_eq_true (by kernel_rfl),by kernel_rfl,zxi⟩
 ·exact ⟨of_decide_eq_true (by kernel_rfl),by kernel_rfl,zx9⟩
 ·exact ⟨of_decide_eq_true (by kernel_rfl),by kernel_rfl,zp1⟩
 ·exact ⟨of_decide_eq_true (by kernel_rfl),by kernel_rfl,zzK⟩
 ·exact ⟨of_decide_eq_true (by kernel_rfl),by kernel_rfl,zuV⟩
 ·exact ⟨of_decide_eq_true (by kernel_rfl),by kernel_rfl,zp5⟩
 ·exact ⟨of_decide_eq_true (by kernel_rfl),by kernel_rfl,zzR⟩
 ·exact ⟨of_decide_eq_true (by kernel_rfl),by kernel_rfl,zxu⟩
 ·exact ⟨of_decide_eq_true (by kernel_rfl),by kernel_rfl,zrz⟩
theorem zGK:Tryd.prog.follows .mixedOrders=true:=by kernel_rfl
theorem zGQ:zER fg=true:=by kernel_rfl
shelf_lay_g Lays8.n4 Nm8 4 at Tryd 38 as growB
theorem zGI:zgW Tryd.prog (yK fg gls) zqZ:=zDM growB (f0:=38) rfl (by kernel_rfl) (by kernel_rfl) (by kernel_rfl)
theorem zGC (L d:Nat):zgW Tryd.prog (yK fg gls) (evF (xL rows) zqZ L d):=zFv zGK zGQ zGI zFw L d
theorem zjM (L:Nat):FOk (xL rows) L 432 (zeh ze L) 1:=yI (D:=0) (by kernel_rfl) fun m hm=>⟨zkQ,zkW L,zI,zus L⟩
theorem zr3 (L:Nat):FOk (xL rows) L 198 (ziX yh L) 1:=yI (D:=0) (by kernel_rfl) fun m hm=>⟨zoc,zoj L,zI,zxX L⟩
theorem zrL (L:Nat):FOk (xL rows) L 197 (zfl xI L) 2:=yI (D:=1) (by kernel_rfl) fun m hm=>⟨yY,xY yh L,(zu zI (zr3 L m (by omega))),zqR L⟩
theorem zzE (L:Nat):FOk (xL rows) L 170 (znk zad L) 3:=yI (D:=2) (by kernel_rfl) fun m hm=>⟨zpP,zpe xI L,(zu zI (zrL L m (by omega))),zx3 L⟩
theorem zsD (L:Nat):FOk (xL rows) L 207 (zfR yL L) 2:=yI (D:=1) (by kernel_rfl) fun m hm=>⟨zaa,zab yh L,(zu zI (zr3 L m (by omega))),zrJ L⟩
theorem zAM (L:Nat):FOk (xL rows) L 195 (zoQ zaF L) 3:=yI (D:=2) (by kernel_rfl) fun m hm=>⟨zqS,zqK yL L,(zu zI (zsD L m (by omega))),zzC L⟩
theorem zgS (L:Nat):FOk (xL rows) L 495 (zby xo L) 1:=yI (D:=0) (by kernel_rfl) fun m hm=>⟨zep,zem L,zI,zmJ L⟩
theorem zoq (L:Nat):FOk (xL rows) L 459 (zcW yd L) 1:=zE2 (d:=zcW yd L) (by kernel_rfl) (fun β args bor k r h=>by
 unfold zcW yd at h
 split at h
 ·obtain ⟨n,rfl,h0,h1,h⟩:=zGd h
  exact ⟨n,rfl,rfl,h0,h1,h⟩
 ·cases h)
theorem zgE (L:Nat):FOk (xL rows) L 435 (zbi xn L) 2:=yI (D:=1) (by kernel_rfl) fun m hm=>⟨zy,yy yd L,(zu zI (zoq L m (by omega))),zmq L⟩
theorem zBC (L:Nat):FOk (xL rows) L 497 (zqq xq L) 1:=yI (D:=0) (by kernel_rfl) fun m hm=>⟨zbx,zbC L,zI,zBg L⟩
theorem zBM (L:Nat):FOk (xL rows) L 496 (zqf zq L) 1:=yI (D:=0) (by kernel_rfl) fun m hm=>⟨zdF,zdP L,zI,zAy L⟩
theorem zhz (L:Nat):FOk (xL rows) L 572 (zbK xp L) 1:=yI (D:=0) (by kernel_rfl) fun m hm=>⟨zeV,zeM L,zI,znQ L⟩
theorem ztM (L:Nat):FOk (xL rows) L 535 (zl2 xd L) 2:=yI (D:=1) (by kernel_rfl) fun m hm=>⟨zqO,zq1 xp L,(zu zI (zhz L m (by omega))),zzF L⟩
theorem zwa (L:Nat):FOk (xL rows) L 534 (zjh yr L) 3:=yI (D:=2) (by kernel_rfl) fun m hm=>⟨xF,yF xd L,(zu zI (ztM L m (by omega))),zvm L⟩
theorem zv7 (L:Nat):FOk (xL rows) L 498 (zi6 xh L) 4:=yI (D:=3) (by kernel_rfl) fun m hm=>⟨za7,za6 yr xd L,(zu (zu zI (zwa L m (by omega))) (ztM L m (by omega))),zvn L⟩
theorem zBL (L:Nat):FOk (xL rows) L 458 (zqs zbb L) 5:=yI (D:=4) (by kernel_rfl) fun m hm=>⟨zaL,zaG xq zq xh L,(zu (zu (zu zI (zBC L m (by omega))) (zBM L m (by omega))) (zv7 L m (by omega))),zBb L⟩
theorem zov (L:Nat):FOk (xL rows) L 434 (zfE xA L) 6:=yI (D:=5) (by kernel_rfl) fun m hm=>⟨zkP,zk2 xn zbb L,(zu (zu zI (zgE L m (by omega))) (zBL L m (by omega))),ztC L⟩
theorem zwr (L:Nat):FOk (xL rows) L 457 (zi4 yt L) 7:=yI (D:=6) (by kernel_rfl) fun m hm=>⟨zlN,zlt zad zaF xo ze xA L,(zu (zu (zu (zu (zu zI (zzE L m (by omega))) (zAM L m (by omega))) (zgS L m (by omega))) (zjM L m (by omega))) (zov L m (by omega))),zve L⟩
theorem zkS (L:Nat):FOk (xL rows) L 433 (ze1 xu L) 8:=yI (D:=7) (by kernel_rfl) fun m hm=>⟨zb5,zb7 yt L,(zu zI (zwr L m (by omega))),zvo L⟩
theorem zwn (L:Nat):FOk (xL rows) L 192 (zjk zU L) 1:=yI (D:=0) (by kernel_rfl) fun m hm=>⟨za1,za8 L,zI,zvf L⟩
theorem zwf (L:Nat):FOk (xL rows) L 191 (zi8 zT L) 1:=yI (D:=0) (by kernel_rfl) fun m hm=>⟨zlS,zmm L,zI,zu6 L⟩
theorem zs9 (L:Nat):FOk (xL rows) L 157 (zgr zJ L) 2:=yI (D:=1) (by kernel_rfl) fun m hm=>⟨ziP,ziR zU zT L,(zu (zu zI (zwn L m (by omega))) (zwf L m (by omega))),zsd L⟩
theorem ztw (L:Nat):FOk (xL rows) L 414 (zdz zd L) 9:=yI (D:=8) (by kernel_rfl) fun m hm=>⟨zjO,zjV ze xu zJ xA xn L,(zu (zu (zu (zu (zu zI (zjM L m (by omega))) (zkS L m (by omega))) (zs9 L m (by omega))) (zov L m (by omega))) (zgE L m (by omega))),ztq L⟩
theorem zpq (L:Nat):FOk (xL rows) L 415 (ze4 yb L) 9:=yI (D:=8) (by kernel_rfl) fun m hm=>⟨zmc,zl5 xu L,(zu zI (zkS L m (by omega))),zuR L⟩
theorem zyM (L:Nat):FOk (xL rows) L 410 (zgB xb L) 10:=yI (D:=9) (by kernel_rfl) fun m hm=>⟨zol,zn0 zd yb L,(zu (zu zI (ztw L m (by omega))) (zpq L m (by omega))),zxd L⟩
theorem zAQ (L:Nat):FOk (xL rows) L 225 (zjw yf L) 1:=yI (D:=0) (by kernel_rfl) fun m hm=>⟨zqV,zrq L,zI,zzS L⟩
theorem ztZ (L:Nat):FOk (xL rows) L 247 (zg5 yO L) 1:=yI (D:=0) (by kernel_rfl) fun m hm=>⟨zj1,zjZ L,zI,ztp L⟩
theorem zud (L:Nat):FOk (xL rows) L 217 (zhc zc L) 1:=yI (D:=0) (by kernel_rfl) fun m hm=>⟨zqP,zqU L,zI,zzU L⟩
theorem zik (L:Nat):FOk (xL rows) L 231 (zcz ya L) 2:=yI (D:=1) (by kernel_rfl) fun m hm=>⟨zjN,zj5 yO zc L,(zu (zu zI (ztZ L m (by omega))) (zud L m (by omega))),zta L⟩
theorem ztc (L:Nat):FOk (xL rows) L 274 (zgj yn L) 3:=yI (D:=2) (by kernel_rfl) fun m hm=>⟨ziH,zit ya L,(zu zI (zik L m (by omega))),zso L⟩
theorem zxq (L:Nat):FOk (xL rows) L 651 (zfB xc L) 4:=yI (D:=3) (by kernel_rfl) fun m hm=>⟨zbo,zbn yn ya L,(zu (zu zI (ztc L m (by omega))) (zik L m (by omega))),zv0 L⟩
theorem zmn (L:Nat):FOk (xL rows) L 657 (zfC zf L) 1:=yI (D:=0) (by kernel_rfl) fun m hm=>⟨zmM,zmI L,zI,zvU L⟩
theorem zwq (L:Nat):FOk (xL rows) L 209 (zi5 xU L) 1:=yI (D:=0) (by kernel_rfl) fun m hm=>⟨zba,za2 L,zI,zvh L⟩
theorem zzV (L:Nat):FOk (xL rows) L 200 (znC zac L) 2:=yI (D:=1) (by kernel_rfl) fun m hm=>⟨zpV,zpC xU L,(zu zI (zwq L m (by omega))),zx7 L⟩
theorem zpE (L:Nat):FOk (xL rows) L 193 (zgz ym L) 1:=yI (D:=0) (by kernel_rfl) fun m hm=>⟨zl7,zlH L,zI,zu5 L⟩
theorem zmL (L:Nat):FOk (xL rows) L 453 (zdS xa L) 2:=yI (D:=1) (by kernel_rfl) fun m hm=>⟨zbP,zbQ ym L,(zu zI (zpE L m (by omega))),zxj L⟩
theorem zz3 (L:Nat):FOk (xL rows) L 531 (zno zl L) 1:=yI (D:=0) (by kernel_rfl) fun m hm=>⟨y5,y4 L,zI,zyu L⟩
theorem zvp (L:Nat):FOk (xL rows) L 532 (zhX xg L) 1:=yI (D:=0) (by kernel_rfl) fun m hm=>⟨zkY,zkO L,zI,ztA L⟩
theorem zrI (L:Nat):FOk (xL rows) L 571 (ziN ye L) 2:=yI (D:=1) (by kernel_rfl) fun m hm=>⟨zoo,zn4 xp L,(zu zI (zhz L m (by omega))),zwT L⟩
theorem zuc (L:Nat):FOk (xL rows) L 569 (zg4 zo L) 3:=yI (D:=2) (by kernel_rfl) fun m hm=>⟨zL,xK ye L,(zu zI (zrI L m (by omega))),ztb L⟩
theorem zts (L:Nat):FOk (xL rows) L 570 (zgq zm L) 1:=yI (D:=0) (by kernel_rfl) fun m hm=>⟨ziT,zio L,zI,zsA L⟩
theorem zt4 (L:Nat):FOk (xL rows) L 533 (zho xf L) 4:=yI (D:=3) (by kernel_rfl) fun m hm=>⟨zay,zax zo zm ye L,(zu (zu (zu zI (zuc L m (by omega))) (zts L m (by omega))) (zrI L m (by omega))),ztd L⟩
theorem zzJ (L:Nat):FOk (xL rows) L 494 (znv zao L) 5:=yI (D:=4) (by kernel_rfl) fun m hm=>⟨y8,xZ zl xg xf L,(zu (zu (zu zI (zz3 L m (by omega))) (zvp L m (by omega))) (zt4 L m (by omega))),zx6 L⟩
theorem zqk (L:Nat):FOk (xL rows) L 659 (zhq zF L) 6:=yI (D:=5) (by kernel_rfl) fun m hm=>⟨zmU,zmY xa zao L,(zu (zu zI (zmL L m (by omega))) (zzJ L m (by omega))),zwk L⟩
theorem zmV (L:Nat):FOk (xL rows) L 130 (zd2 za L) 1:=yI (D:=0) (by kernel_rfl) fun m hm=>⟨zn1,zop L,zI,zxK L⟩
theorem zw6 (L:Nat):FOk (xL rows) L 660 (zkC yv L) 7:=yI (D:=6) (by kernel_rfl) fun m hm=>⟨zmN,zmZ zac zF zf za L,(zu (zu (zu (zu zI (zzV L m (by omega))) (zqk L m (by omega))) (zmn L m (by omega))) (zmV L m (by omega))),zvT L⟩
theorem zmO (L:Nat):FOk (xL rows) L 658 (zgC xy L) 8:=yI (D:=7) (by kernel_rfl) fun m hm=>⟨zdg,zdf yv L,(zu zI (zw6 L m (by omega))),zwV L⟩
theorem zv8 (L:Nat):FOk (xL rows) L 194 (zje zV L) 1:=yI (D:=0) (by kernel_rfl) fun m hm=>⟨za4,za5 L,zI,zva L⟩
theorem zti (L:Nat):FOk (xL rows) L 159 (zgm yJ L) 2:=yI (D:=1) (by kernel_rfl) fun m hm=>⟨ziw,ziv zV ym L,(zu (zu zI (zv8 L m (by omega))) (zpE L m (by omega))),zsB L⟩
theorem zwh (L:Nat):FOk (xL rows) L 652 (zgJ zi L) 9:=yI (D:=8) (by kernel_rfl) fun m hm=>⟨zlW,zlC zf xy yJ xa zF L,(zu (zu (zu (zu (zu zI (zmn L m (by omega))) (zmO L m (by omega))) (zti L m (by omega))) (zmL L m (by omega))) (zqk L m (by omega))),zu1 L⟩
theorem zxQ (L:Nat):FOk (xL rows) L 650 (zhp xe L) 10:=yI (D:=9) (by kernel_rfl) fun m hm=>⟨zbr,zbm yf ya xc zi L,(zu (zu (zu (zu zI (zAQ L m (by omega))) (zik L m (by omega))) (zxq L m (by omega))) (zwh L m (by omega))),zvZ L⟩
theorem zyJ (L:Nat):FOk (xL rows) L 654 (zil yc L) 2:=yI (D:=1) (by kernel_rfl) fun m hm=>⟨zbg,zbh za L,(zu zI (zmV L m (by omega))),zxU L⟩
theorem ztL (L:Nat):FOk (xL rows) L 655 (ze6 zb L) 9:=yI (D:=8) (by kernel_rfl) fun m hm=>⟨zj7,zjJ xu xo L,(zu (zu zI (zkS L m (by omega))) (zgS L m (by omega))),zs8 L⟩
theorem zyF (L:Nat):FOk (xL rows) L 653 (zl0 yi L) 9:=yI (D:=8) (by kernel_rfl) fun m hm=>⟨zn9,zoi xy L,(zu zI (zmO L m (by omega))),zxG L⟩
theorem zwd (L:Nat):FOk (xL rows) L 656 (zjt zg L) 9:=yI (D:=8) (by kernel_rfl) fun m hm=>⟨zmk,zmg xy L,(zu zI (zmO L m (by omega))),zvd L⟩
theorem zrj (L:Nat):FOk (xL rows) L 648 (zeQ zaI L) 11:=yI (D:=10) (by kernel_rfl) fun m hm=>⟨zD,xC xb xe zc xa yb yi yc zb zg za ze zf L,(zu (zu (zu (zu (zu (zu (zu (zu (zu (zu (zu (zu zI (zyM L m (by omega))) (zxQ L m (by omega))) (zud L m (by omega))) (zmL L m (by omega))) (zpq L m (by omega))) (zyF L m (by omega))) (zyJ L m (by omega))) (ztL L m (by omega))) (zwd L m (by omega))) (zmV L m (by omega))) (zjM L m (by omega))) (zmn L m (by omega))),zpZ L⟩
end
end Go.Proofs.YteopmmegeagklaaDoor
