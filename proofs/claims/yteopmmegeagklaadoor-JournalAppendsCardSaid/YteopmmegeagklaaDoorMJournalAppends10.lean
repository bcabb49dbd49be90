/- Part 10 of the proof of JournalAppends: an abstract machine over plain values, its soundness, and the functions of the program on plain values. -/
import Derived.ProofKit
import Derived.OpenShut
import Derived.ChangeOld
import Derived.Deep.Slices
import Derived.SizedLaws
import Derived.Test.YteopmmegeagklaaDoorMJournalAppends9
namespace Go.Proofs.YteopmmegeagklaaDoor
section
set_option maxRecDepth 100000
set_option linter.unusedVariables false
set_option linter.unusedSimpArgs false
def yQ:CC:=(.seq (.reg [oo 66 (.bin .lss (tq 65) (tq 64))])
 (.seq (.cond (tq 66)
 .skip
 (.seq (.mask (bl 31525197391597633 92) (bl 4794868975481142876659842815 92))
 (.exit 2)))
 (.seq (.block 3 (.seq (.reg [oo 67 (.indexAddrS 3 (tq 63) (tq 65)),
   oo 68 (.load true 3 (tq 67) false),
   oo 16 (.alloc true [(.sc (.int .i64 0)),(.sc (.int .i64 0)),(.gs 1 [])]),
   oz (.store 3 (tq 16) (tq 68))])
 (.seq (.reg [oo 70 (.move (tq 14) false),
   oo 71 (.load true 3 (tq 16) false),
   oo 72 (.call 414 [((tq 70),0),((tq 71),1)] []),
   oo 69 (.move (tq 72) true),
   oo 73 (.extract (tq 69) 0),
   oo 74 (.pull (tq 69) 1),
   oo 17 (.move (tq 73) false),
   oo 18 (.move (tq 74) false)])
 (.seq (.reg [oo 76 (.move (tq 14) false),
   oo 77 (.load true 3 (tq 16) false),
   oo 78 (.call 652 [((tq 76),0),((tq 77),1)] []),
   oo 75 (.move (tq 78) true),
   oo 79 (.extract (tq 75) 0),
   oo 80 (.pull (tq 75) 1),
   oo 19 (.move (tq 79) false),
   oo 20 (.move (tq 80) false)])
 (.seq (.reg [oo 81 (.move (tq 18) false),
   oo 82 (.move (tq 20) false),
   oo 83 (.bin .neq (tq 81) (tq 82)),
   oo 84 (.move (tq 83) false),
   ⟨(some 85),false,(some (84,false)),.move (tq 17) false⟩,
   ⟨(some 86),false,(some (84,false)),.move (tq 19) false⟩,
   ⟨(some 87),false,(some (84,false)),.call 130 [((tq 85),0),((tq 86),0)] []⟩,
   ⟨(some 88),false,(some (84,false)),.un .not (tq 87)⟩,
   oo 89 (.pick (tq 84) (.const (.sc (.bool true))) (tq 88))])
 (.cond (tq 89)
 (.seq (.reg [oo 8 (.move (.const (.sc (.bool false))) false)])
 (.seq (.mask (bl 256 92) (bl 4794868940893497738454413247 92))
 .ret))
 .skip))))))
 (.reg [oo 90 (.bin .add (tq 65) (.const (.sc (.int .i64 1)))),
   oo 65 (.move (tq 90) false)]))))
def zaL:CC:=(.reg [oo 91 (.bin .add (tq 54) (.const (.sc (.int .i64 1)))),
   oo 54 (.move (tq 91) false)])
def zV:CC:=(.seq (.reg [oo 55 (.bin .lss (tq 54) (tq 53))])
 (.seq (.cond (tq 55)
 .skip
 (.seq (.mask (bl 0 92) (bl 4794868940893497738454412991 92))
 (.exit 0)))
 (.seq (.block 1 (.seq (.reg [oo 56 (.indexAddrS 1 (tq 52) (tq 54)),
   oo 57 (.load false 1 (tq 56) false),
   oo 14 (.move (tq 57) false)])
 (.seq (.dreg [] [(oo 58 (.load true 3 (tq 6) false),ql 6 [12] []),
   (oo 59 (.load true 3 (tq 12) false),ql 12 [6] []),
   (oo 60 (.move (tq 0) false),q0),
   (oo 61 (.call 225 [((tq 60),0)] []),qc [6,12] []),
   (oo 62 (.call 651 [((tq 61),0)] []),qc [6,12] []),
   (oo 63 (.buildSlice 3 3 [(.sc (.int .i64 0)),(.sc (.int .i64 0)),(.sl 1 [])] [(0,3,(tq 58)),(3,3,(tq 59)),(6,3,(tq 62))]),q0),
   (oo 64 (.lenS (tq 63)),q0),
   (oo 65 (.move (.const (.sc (.int .i64 0))) false),q0)])
 (.block 2 (.loop (bl 64595129455375044673 92) (bl 4794868975481142876659842815 92)
 yQ)))))
 zaL)))
def zbC:CC:=(.seq (.reg [oo 8 (.move (.const (.sc (.bool true))) false)])
 .ret)
def zab:CF:=⟨92,[.tmp 8],
 (.seq (.reg [oo 6 (.box true (tq 2)),
   oo 8 (.move (.const (.sc (.bool false))) false)])
 (.seq (.seq (.reg [oo 21 (.call 410 [] []),
   oo 22 (.un .not (tq 21))])
 (.cond (tq 22)
 (.seq (.reg [oo 8 (.move (.const (.sc (.bool false))) false)])
 .ret)
 .skip))
 (.seq (.seq (.reg [oo 23 (.move (tq 1) false),
   oo 24 (.lenS (tq 23)),
   oo 25 (.bin .gtr (tq 24) (.const (.sc (.int .i64 200)))),
   oo 26 (.move (tq 25) false),
   ⟨(some 27),false,(some (26,false)),.fieldAddr 2 (tq 6)⟩,
   ⟨(some 28),false,(some (26,false)),.load false 1 (tq 27) false⟩,
   ⟨(some 29),false,(some (26,false)),.lenS (tq 28)⟩,
   ⟨(some 30),false,(some (26,false)),.bin .gtr (tq 29) (.const (.sc (.int .i64 100)))⟩,
   oo 31 (.pick (tq 26) (.const (.sc (.bool true))) (tq 30))])
 (.cond (tq 31)
 (.seq (.reg [oo 8 (.move (.const (.sc (.bool true))) false)])
 .ret)
 .skip))
 (.seq (.reg [oo 33 (.move (tq 0) false),
   oo 34 (.call 650 [((tq 33),0)] []),
   oo 32 (.move (tq 34) true),
   oo 35 (.extract (tq 32) 0),
   oo 36 (.extract (tq 32) 1),
   oo 37 (.extract (tq 32) 2),
   oo 9 (.move (tq 35) false),
   oo 10 (.move (tq 36) false),
   oo 11 (.move (tq 37) false)])
 (.seq (.reg [oo 38 (.move (tq 0) false),
   oo 39 (.call 225 [((tq 38),0)] []),
   oo 40 (.call 651 [((tq 39),0)] []),
   oo 12 (.alloc false [(.sc (.int .i64 0)),(.sc (.int .i64 0)),(.gs 1 [])]),
   oz (.store 3 (tq 12) (tq 40))])
 (.seq (.reg [oo 41 (.move (tq 3) false),
   oo 42 (.call 217 [((tq 41),0),((.const (.sc (.int .i64 3))),0)] []),
   oo 43 (.bin .add (.const (.sc (.int .i64 4095))) (tq 42)),
   oo 44 (.makeSlice 1 1 [(.sc (.int .u8 0))] (tq 43) (tq 43)),
   oo 45 (.fieldAddr 2 (tq 12)),
   oz (.store 1 (tq 45) (tq 44))])
 (.seq (.seq (.reg [oo 46 (.move (tq 9) false),
   oo 47 (.move (tq 9) false),
   oo 48 (.move (tq 1) false),
   oo 49 (.buildSlice 1 2 [(.sl 1 [])] [(0,1,(tq 47)),(1,1,(tq 48))]),
   oo 50 (.call 453 [((tq 49),0)] []),
   oo 51 (.move (tq 1) false),
   oo 52 (.buildSlice 1 3 [(.sl 1 [])] [(0,1,(tq 46)),(1,1,(tq 50)),(2,1,(tq 51))]),
   oo 53 (.lenS (tq 52)),
   oo 54 (.move (.const (.sc (.int .i64 0))) false)])
 (.block 0 (.loop (bl 31525197391597633 92) (bl 4794868940893497738454417151 92)
 zV)))
 zbC)))))))⟩
def zhO:Hint:=⟨[(0,0),(5,2),(5,3),(5,4),(5,5),(13,2),(14,3),(14,4),(15,3),(15,4)],[],[none,none,none,none,none,some ((bl 31525197391597633 92),(bl 4794868940893497738454417151 92)),none,some ((bl 0 92),(bl 4794868940893497738454412991 92)),none,none,some ((bl 64595129455375044673 92),(bl 4794868975481142876659842815 92)),none,some ((bl 31525197391597633 92),(bl 4794868975481142876659842815 92)),none,none,some ((bl 256 92),(bl 4794868940893497738454413247 92)),none],[],[],false,false⟩
def zy:Nat→Sh:=yU [(28,(.sl 1)),(40,(.row [(.int .i64),(.int .i64),(.sl 1)])),(57,(.sl 1))]
def xx (zc:zp) (xf:zG) (xb:xo) (xa:zi) (zd:xq) (yb:zm) (ya:zh) (xc:zu) (zb:xk) (L:Nat):CBC:=(yE 130 (ze1 zb L) (yE 652 (zgs xc L) (yE 414 (zdp ya L) (yE 453 (ze2 yb L) (yE 217 (ziV zd L) (yE 651 (zfm xa L) (yE 225 (ziH xb L) (yE 650 (zjX xf L) (yE 410 (zic zc L) noC)))))))))
def xM:St→St:=y4 0 (bl 31525197391597633 92) (bl 4794868940893497738454417151 92)
def zam:St→St:=y4 0 (bl 64595129455375044673 92) (bl 4794868975481142876659842815 92)
def xR (p0 p52:List (List V)) (p53 p54:Int) (b6:List V) (zF8 zF9:Int) (zGf zF5:List (List V)) (zF6:Int):St:=⟨((V.sl 1 p0)::(jn 5 ((V.ptr 6 0)::(jn 5 ((V.ptr 12 0)::(jn 39 ((V.gs 1 p52)::((V.sc (.int .i64 p53))::((V.sc (.int .i64 p54))::(jn 37 [])))))))))),(gn 6 ((.live true b6)::(gn 5 ((.live false [(V.sc (.int .i64 zF8)),(V.sc (.int .i64 zF9)),(V.gs 1 zGf)])::(gn 26 ((.live false [(V.sl 1 zF5),(V.sc (.int .i64 zF6))])::(gn 52 [])))))))⟩
def y5 (p0 p14 p52:List (List V)) (p53 p54:Int) (p63:List (List V)) (p64 p65:Int) (b6:List V) (zF8 zF9:Int) (zGf zF5:List (List V)) (zF6:Int) (zGn:List (List V)) (zGo:Int):St:=⟨((V.sl 1 p0)::(jn 5 ((V.ptr 6 0)::(jn 5 ((V.ptr 12 0)::(jn 1 ((V.sl 1 p14)::(jn 37 ((V.gs 1 p52)::((V.sc (.int .i64 p53))::((V.sc (.int .i64 p54))::(jn 8 ((V.gs 3 p63)::((V.sc (.int .i64 p64))::((V.sc (.int .i64 p65))::(jn 26 [])))))))))))))))),(gn 6 ((.live true b6)::(gn 5 ((.live false [(V.sc (.int .i64 zF8)),(V.sc (.int .i64 zF9)),(V.gs 1 zGf)])::(gn 26 ((.live false [(V.sl 1 zF5),(V.sc (.int .i64 zF6))])::(gn 21 ((.live false [(V.sl 1 zGn),(V.sc (.int .i64 zGo))])::(gn 30 [])))))))))⟩
def zcl (zF5:List (List V)) (zF6:Int):St:=⟨(jn 92 []),(gn 39 ((.live false [(V.sl 1 zF5),(V.sc (.int .i64 zF6))])::(gn 52 [])))⟩
def xZ (p8:Bool) (zF5:List (List V)) (zF6:Int):St:=⟨(jn 8 ((V.sc (.bool p8))::(jn 83 []))),(gn 39 ((.live false [(V.sl 1 zF5),(V.sc (.int .i64 zF6))])::(gn 52 [])))⟩
def zef (p0 p52:List (List V)) (p53 p54:Int) (b6:List V) (zF8 zF9:Int) (zGf zF5:List (List V)) (zF6:Int) (zGn:List (List V)) (zGo:Int):St:=⟨((V.sl 1 p0)::(jn 5 ((V.ptr 6 0)::(jn 5 ((V.ptr 12 0)::(jn 39 ((V.gs 1 p52)::((V.sc (.int .i64 p53))::((V.sc (.int .i64 p54))::(jn 37 [])))))))))),(gn 6 ((.live true b6)::(gn 5 ((.live false [(V.sc (.int .i64 zF8)),(V.sc (.int .i64 zF9)),(V.gs 1 zGf)])::(gn 26 ((.live false [(V.sl 1 zF5),(V.sc (.int .i64 zF6))])::(gn 21 ((.live false [(V.sl 1 zGn),(V.sc (.int .i64 zGo))])::(gn 30 [])))))))))⟩
abbrev zcp (β:Type):Type:=List (List V)→List (List V)→Int→Int→List V→Int→Int→List (List V)→List (List V)→Int→Option β
abbrev zcW (β:Type):Type:=List (List V)→List (List V)→List (List V)→Int→Int→List (List V)→Int→Int→List V→Int→Int→List (List V)→List (List V)→Int→List (List V)→Int→Option β
abbrev zeY (β:Type):Type:=List (List V)→List (List V)→Int→Int→List V→Int→Int→List (List V)→List (List V)→Int→List (List V)→Int→Option β
def zfV {β:Type} (zc:zp) (xf:zG) (xb:xo) (xa:zi) (zd:xq) (yb:zm) (ya:zh) (xc:zu) (zb:xk) (L:Nat) (p0 p1:List (List V)) (p2:List V) (p3:Int) (k_fin:Bool→Option β) (k_hbbbbbbaba:zcp β):Option β :=
 zc β L  (fun v0 =>
 ifb (!v0) (
 k_fin false) (
 ifb (decide (((List.length p1:Nat):Int) > (200:Int))) (
 k_fin true) (
 cLd 1 p2 2 fun v1 =>
 ifb (decide (((List.length v1:Nat):Int) > (100:Int))) (
 k_fin true) (
 xf β L p0 (fun v2 v3 v4 =>
 xb β L p0 (fun v5 v6 =>
 xa β L v5 v6 (fun v7 v8 v9 =>
 chk (List.length v7=3) (
 cI .i64 v7 0 fun v10 =>
 cI .i64 v7 1 fun v11 =>
 cL 1 v7 2 fun v12 =>
 zd β L p3 (3:Int) (fun v13 =>
 lt (IntKind.wrap .i64 (((4095:Int):Int)+v13)) fun x14 =>
 chk (0≤x14∧x14≤x14∧(Int.toNat x14) * 1≤xi∧x14≤xi) (
 yb β L (yh 1 2 [(V.sl 1 v2),(V.sl 1 p1)]) (fun v15 =>
 k_hbbbbbbaba p0 (yh 1 3 [(V.sl 1 v2),(V.sl 1 v15),(V.sl 1 p1)]) ((List.length (yh 1 3 [(V.sl 1 v2),(V.sl 1 v15),(V.sl 1 p1)]):Nat):Int) (0:Int) p2 v10 v11 (List.replicate (Int.toNat x14) [(V.sc (.int .u8 (0:Int)))]) v8 v9)))))))))))
theorem zob {β:Type} (zc:zp) (xf:zG) (xb:xo) (xa:zi) (zd:xq) (yb:zm) (ya:zh) (xc:zu) (zb:xk) (L:Nat) (p0 p1:List (List V)) (p2:List V) (p3:Int) (k:KK β):yt zy (xx zc xf xb xa zd yb ya xc zb L) L zab [(V.sl 1 p0),(V.sl 1 p1),(V.agg p2),(V.sc (.int .i64 p3))] [] k=zfV zc xf xb xa zd yb ya xc zb L p0 p1 p2 p3 (fun p0=>k (V.sc (.bool p0)) []) (fun p0 p52 p53 p54 b6 zF8 zF9 zGf zF5 zF6=>yx (xj zy (xx zc xf xb xa zd yb ya xc zb L) 0 L zV) xM L (xR p0 p52 p53 p54 b6 zF8 zF9 zGf zF5 zF6) (zz 0 (zN (xj zy (xx zc xf xb xa zd yb ya xc zb L) 0 L zbC) (yO 0 (CF.res zab) k)))):=by kernel_rfl
def zcE {β:Type} (zc:zp) (xf:zG) (xb:xo) (xa:zi) (zd:xq) (yb:zm) (ya:zh) (xc:zu) (zb:xk) (L:Nat) (p0 p52:List (List V)) (p53 p54:Int) (b6:List V) (zF8 zF9:Int) (zGf zF5:List (List V)) (zF6:Int) (k_hbbbbbbabaabbaabba:zcW β) (k_x0:List (List V)→Int→Option β):Option β :=
 ifb (decide (p54 < p53)) (
 idx p52 p54 fun c16 =>
 cL 1 c16 0 fun v17 =>
 chk (0+3≤(List.length b6)) (
 xb β L p0 (fun v18 v19 =>
 xa β L v18 v19 (fun v20 v21 v22 =>
 chk ((List.length (List.take 3 b6))=3∧0+3≤9) (
 chk (3=3∧3+3≤(List.length (xn [(V.sc (.int .i64 (0:Int))),(V.sc (.int .i64 (0:Int))),(V.sl 1 ([]:List (List V))),(V.sc (.int .i64 (0:Int))),(V.sc (.int .i64 (0:Int))),(V.sl 1 ([]:List (List V))),(V.sc (.int .i64 (0:Int))),(V.sc (.int .i64 (0:Int))),(V.sl 1 ([]:List (List V)))] 0 (List.take 3 b6)))) (
 chk ((List.length v20)=3∧6+3≤(List.length (xn (xn [(V.sc (.int .i64 (0:Int))),(V.sc (.int .i64 (0:Int))),(V.sl 1 ([]:List (List V))),(V.sc (.int .i64 (0:Int))),(V.sc (.int .i64 (0:Int))),(V.sl 1 ([]:List (List V))),(V.sc (.int .i64 (0:Int))),(V.sc (.int .i64 (0:Int))),(V.sl 1 ([]:List (List V)))] 0 (List.take 3 b6)) 3 [(V.sc (.int .i64 zF8)),(V.sc (.int .i64 zF9)),(V.sl 1 zGf)]))) (
 k_hbbbbbbabaabbaabba p0 v17 p52 p53 p54 (yh 3 3 (xn (xn (xn [(V.sc (.int .i64 (0:Int))),(V.sc (.int .i64 (0:Int))),(V.sl 1 ([]:List (List V))),(V.sc (.int .i64 (0:Int))),(V.sc (.int .i64 (0:Int))),(V.sl 1 ([]:List (List V))),(V.sc (.int .i64 (0:Int))),(V.sc (.int .i64 (0:Int))),(V.sl 1 ([]:List (List V)))] 0 (List.take 3 b6)) 3 [(V.sc (.int .i64 zF8)),(V.sc (.int .i64 zF9)),(V.sl 1 zGf)]) 6 v20)) ((List.length (yh 3 3 (xn (xn (xn [(V.sc (.int .i64 (0:Int))),(V.sc (.int .i64 (0:Int))),(V.sl 1 ([]:List (List V))),(V.sc (.int .i64 (0:Int))),(V.sc (.int .i64 (0:Int))),(V.sl 1 ([]:List (List V))),(V.sc (.int .i64 (0:Int))),(V.sc (.int .i64 (0:Int))),(V.sl 1 ([]:List (List V)))] 0 (List.take 3 b6)) 3 [(V.sc (.int .i64 zF8)),(V.sc (.int .i64 zF9)),(V.sl 1 zGf)]) 6 v20)):Nat):Int) (0:Int) b6 zF8 zF9 zGf zF5 zF6 v21 v22))))))) (
 k_x0 zF5 zF6)
theorem zjB {β:Type} (zc:zp) (xf:zG) (xb:xo) (xa:zi) (zd:xq) (yb:zm) (ya:zh) (xc:zu) (zb:xk) (L:Nat) (p0 p52:List (List V)) (p53 p54:Int) (b6:List V) (zF8 zF9:Int) (zGf zF5:List (List V)) (zF6:Int) (X:St→Option β) (K:KT β):xj zy (xx zc xf xb xa zd yb ya xc zb L) 0 L zV (xR p0 p52 p53 p54 b6 zF8 zF9 zGf zF5 zF6) (zan xM X K)=zcE zc xf xb xa zd yb ya xc zb L p0 p52 p53 p54 b6 zF8 zF9 zGf zF5 zF6 (fun p0 p14 p52 p53 p54 p63 p64 p65 b6 zF8 zF9 zGf zF5 zF6 zGn zGo=>yx (xj zy (xx zc xf xb xa zd yb ya xc zb L) 0 L yQ) zam L (y5 p0 p14 p52 p53 p54 p63 p64 p65 b6 zF8 zF9 zGf zF5 zF6 zGn zGo) (zz 2 (zz 1 (zN (xj zy (xx zc xf xb xa zd yb ya xc zb L) 0 L zaL) (zan xM X K))))) (fun zF5 zF6=>K (.exit 0) (zcl zF5 zF6)):=by kernel_rfl
def zeL {β:Type} (zc:zp) (xf:zG) (xb:xo) (xa:zi) (zd:xq) (yb:zm) (ya:zh) (xc:zu) (zb:xk) (L:Nat) (zF5:List (List V)) (zF6:Int) (k_fin:Bool→Option β):Option β :=
 k_fin true
theorem zia {β:Type} (zc:zp) (xf:zG) (xb:xo) (xa:zi) (zd:xq) (yb:zm) (ya:zh) (xc:zu) (zb:xk) (L:Nat) (zF5:List (List V)) (zF6:Int) (k:KK β):(zz 0 (zN (xj zy (xx zc xf xb xa zd yb ya xc zb L) 0 L zbC) (yO 0 (CF.res zab) k))) (.exit 0) (zcl zF5 zF6)=zeL zc xf xb xa zd yb ya xc zb L zF5 zF6 (fun p0=>k (V.sc (.bool p0)) []):=by kernel_rfl
def zbe {β:Type} (zc:zp) (xf:zG) (xb:xo) (xa:zi) (zd:xq) (yb:zm) (ya:zh) (xc:zu) (zb:xk) (L:Nat) (p0 p14 p52:List (List V)) (p53 p54:Int) (p63:List (List V)) (p64 p65:Int) (b6:List V) (zF8 zF9:Int) (zGf zF5:List (List V)) (zF6:Int) (zGn:List (List V)) (zGo:Int) (k_ret:Bool→List (List V)→Int→Option β) (k_hbbbbbbabaabbaabba:zcW β) (k_x2:zeY β):Option β :=
 ifb (decide (p65 < p64)) (
 idx p63 p65 fun c23 =>
 chk ((List.length (List.take 3 c23))=3∧0+3≤3) (
 lt (xn [(V.sc (.int .i64 (0:Int))),(V.sc (.int .i64 (0:Int))),(V.gs 1 ([]:List (List V)))] 0 (List.take 3 c23)) fun r24 =>
 chk (0+3≤(List.length r24)) (
 ya β L p14 (List.map V.dem (List.take 3 r24)) (fun v25 v26 =>
 chk (0+3≤(List.length r24)) (
 xc β L p14 (List.map V.dem (List.take 3 r24)) (fun v27 v28 =>
 ifb ((v26:Int) != v28) (
 k_ret false zF5 zF6) (
 zb β L v25 v27 (fun v29 =>
 ifb (!v29) (
 k_ret false zF5 zF6) (
 lt (IntKind.wrap .i64 ((p65:Int)+(1:Int))) fun x30 =>
 k_hbbbbbbabaabbaabba p0 p14 p52 p53 p54 p63 p64 x30 b6 zF8 zF9 zGf zF5 zF6 zGn zGo))))))))) (
 k_x2 p0 p52 p53 p54 b6 zF8 zF9 zGf zF5 zF6 zGn zGo)
theorem zgt {β:Type} (zc:zp) (xf:zG) (xb:xo) (xa:zi) (zd:xq) (yb:zm) (ya:zh) (xc:zu) (zb:xk) (L:Nat) (p0 p14 p52:List (List V)) (p53 p54:Int) (p63:List (List V)) (p64 p65:Int) (b6:List V) (zF8 zF9:Int) (zGf zF5:List (List V)) (zF6:Int) (zGn:List (List V)) (zGo:Int) (X:St→Option β) (K:KT β):xj zy (xx zc xf xb xa zd yb ya xc zb L) 0 L yQ (y5 p0 p14 p52 p53 p54 p63 p64 p65 b6 zF8 zF9 zGf zF5 zF6 zGn zGo) (zan zam X K)=zbe zc xf xb xa zd yb ya xc zb L p0 p14 p52 p53 p54 p63 p64 p65 b6 zF8 zF9 zGf zF5 zF6 zGn zGo (fun p8 zF5 zF6=>K .ret (xZ p8 zF5 zF6)) (fun p0 p14 p52 p53 p54 p63 p64 p65 b6 zF8 zF9 zGf zF5 zF6 zGn zGo=>X (y5 p0 p14 p52 p53 p54 p63 p64 p65 b6 zF8 zF9 zGf zF5 zF6 zGn zGo)) (fun p0 p52 p53 p54 b6 zF8 zF9 zGf zF5 zF6 zGn zGo=>K (.exit 2) (zef p0 p52 p53 p54 b6 zF8 zF9 zGf zF5 zF6 zGn zGo)):=by kernel_rfl
def zcs {β:Type} (zc:zp) (xf:zG) (xb:xo) (xa:zi) (zd:xq) (yb:zm) (ya:zh) (xc:zu) (zb:xk) (L:Nat) (p8:Bool) (zF5:List (List V)) (zF6:Int) (k_ret:Bool→List (List V)→Int→Option β):Option β :=
 k_ret p8 zF5 zF6
theorem zfo {β:Type} (zc:zp) (xf:zG) (xb:xo) (xa:zi) (zd:xq) (yb:zm) (ya:zh) (xc:zu) (zb:xk) (L:Nat) (p8:Bool) (zF5:List (List V)) (zF6:Int) (X:St→Option β) (K:KT β):(zz 2 (zz 1 (zN (xj zy (xx zc xf xb xa zd yb ya xc zb L) 0 L zaL) (zan xM X K)))) .ret (xZ p8 zF5 zF6)=zcs zc xf xb xa zd yb ya xc zb L p8 zF5 zF6 (fun p8 zF5 zF6=>K .ret (xZ p8 zF5 zF6)):=by kernel_rfl
def za7 {β:Type} (zc:zp) (xf:zG) (xb:xo) (xa:zi) (zd:xq) (yb:zm) (ya:zh) (xc:zu) (zb:xk) (L:Nat) (p0 p52:List (List V)) (p53 p54:Int) (b6:List V) (zF8 zF9:Int) (zGf zF5:List (List V)) (zF6:Int) (zGn:List (List V)) (zGo:Int) (k_hbbbbbbaba:zcp β):Option β :=
 lt (IntKind.wrap .i64 ((p54:Int)+(1:Int))) fun x31 =>
 k_hbbbbbbaba p0 p52 p53 x31 b6 zF8 zF9 zGf zF5 zF6
theorem zfQ {β:Type} (zc:zp) (xf:zG) (xb:xo) (xa:zi) (zd:xq) (yb:zm) (ya:zh) (xc:zu) (zb:xk) (L:Nat) (p0 p52:List (List V)) (p53 p54:Int) (b6:List V) (zF8 zF9:Int) (zGf zF5:List (List V)) (zF6:Int) (zGn:List (List V)) (zGo:Int) (X:St→Option β) (K:KT β):(zz 2 (zz 1 (zN (xj zy (xx zc xf xb xa zd yb ya xc zb L) 0 L zaL) (zan xM X K)))) (.exit 2) (zef p0 p52 p53 p54 b6 zF8 zF9 zGf zF5 zF6 zGn zGo)=za7 zc xf xb xa zd yb ya xc zb L p0 p52 p53 p54 b6 zF8 zF9 zGf zF5 zF6 zGn zGo (fun p0 p52 p53 p54 b6 zF8 zF9 zGf zF5 zF6=>X (xR p0 p52 p53 p54 b6 zF8 zF9 zGf zF5 zF6)):=by kernel_rfl
def zeu {β:Type} (zc:zp) (xf:zG) (xb:xo) (xa:zi) (zd:xq) (yb:zm) (ya:zh) (xc:zu) (zb:xk) (L:Nat) (p8:Bool) (zF5:List (List V)) (zF6:Int) (k_fin:Bool→Option β):Option β :=
 k_fin p8
theorem zhT {β:Type} (zc:zp) (xf:zG) (xb:xo) (xa:zi) (zd:xq) (yb:zm) (ya:zh) (xc:zu) (zb:xk) (L:Nat) (p8:Bool) (zF5:List (List V)) (zF6:Int) (k:KK β):(zz 0 (zN (xj zy (xx zc xf xb xa zd yb ya xc zb L) 0 L zbC) (yO 0 (CF.res zab) k))) .ret (xZ p8 zF5 zF6)=zeu zc xf xb xa zd yb ya xc zb L p8 zF5 zF6 (fun p0=>k (V.sc (.bool p0)) []):=by kernel_rfl
def yS {β:Type} (zc:zp) (xf:zG) (xb:xo) (xa:zi) (zd:xq) (yb:zm) (ya:zh) (xc:zu) (zb:xk) (L:Nat) (k_ret:Bool→List (List V)→Int→Option β) (k_x2:zeY β):Nat→List (List V)→List (List V)→List (List V)→Int→Int→List (List V)→Int→Int→List V→Int→Int→List (List V)→List (List V)→Int→List (List V)→Int→Option β
 | 0,_,_,_,_,_,_,_,_,_,_,_,_,_,_,_,_=>none
 | n+1,p0,p14,p52,p53,p54,p63,p64,p65,b6,zF8,zF9,zGf,zF5,zF6,zGn,zGo=>zbe zc xf xb xa zd yb ya xc zb L p0 p14 p52 p53 p54 p63 p64 p65 b6 zF8 zF9 zGf zF5 zF6 zGn zGo k_ret (fun p0 p14 p52 p53 p54 p63 p64 p65 b6 zF8 zF9 zGf zF5 zF6 zGn zGo=>yS zc xf xb xa zd yb ya xc zb L k_ret k_x2 n p0 p14 p52 p53 p54 p63 p64 p65 b6 zF8 zF9 zGf zF5 zF6 zGn zGo) k_x2
theorem zcz {β:Type} (zc:zp) (xf:zG) (xb:xo) (xa:zi) (zd:xq) (yb:zm) (ya:zh) (xc:zu) (zb:xk) (L:Nat) (K:KT β):∀ (n:Nat) (p0 p14 p52:List (List V)) (p53 p54:Int) (p63:List (List V)) (p64 p65:Int) (b6:List V) (zF8 zF9:Int) (zGf zF5:List (List V)) (zF6:Int) (zGn:List (List V)) (zGo:Int),yx (xj zy (xx zc xf xb xa zd yb ya xc zb L) 0 L yQ) zam n (y5 p0 p14 p52 p53 p54 p63 p64 p65 b6 zF8 zF9 zGf zF5 zF6 zGn zGo) K=yS zc xf xb xa zd yb ya xc zb L (fun p8 zF5 zF6=>K .ret (xZ p8 zF5 zF6)) (fun p0 p52 p53 p54 b6 zF8 zF9 zGf zF5 zF6 zGn zGo=>K (.exit 2) (zef p0 p52 p53 p54 b6 zF8 zF9 zGf zF5 zF6 zGn zGo)) n p0 p14 p52 p53 p54 p63 p64 p65 b6 zF8 zF9 zGf zF5 zF6 zGn zGo:=by
 intro n
 induction n with
 | zero=>intros; rfl
 | succ n ih =>
  intro p0 p14 p52 p53 p54 p63 p64 p65 b6 zF8 zF9 zGf zF5 zF6 zGn zGo
  refine (zgt zc xf xb xa zd yb ya xc zb L p0 p14 p52 p53 p54 p63 p64 p65 b6 zF8 zF9 zGf zF5 zF6 zGn zGo (fun σ=>yx (xj zy (xx zc xf xb xa zd yb ya xc zb L) 0 L yQ) zam n σ K) K).trans ?_
  simp only [ih]
  rfl
def zbb {β:Type} (zc:zp) (xf:zG) (xb:xo) (xa:zi) (zd:xq) (yb:zm) (ya:zh) (xc:zu) (zb:xk) (L:Nat) (p0 p52:List (List V)) (p53 p54:Int) (b6:List V) (zF8 zF9:Int) (zGf zF5:List (List V)) (zF6:Int) (k_x0:List (List V)→Int→Option β) (k_ret:Bool→List (List V)→Int→Option β) (k_hbbbbbbaba:zcp β):Option β :=
 zcE zc xf xb xa zd yb ya xc zb L p0 p52 p53 p54 b6 zF8 zF9 zGf zF5 zF6 (fun p0 p14 p52 p53 p54 p63 p64 p65 b6 zF8 zF9 zGf zF5 zF6 zGn zGo=>yS zc xf xb xa zd yb ya xc zb L (fun p8 zF5 zF6=>zcs zc xf xb xa zd yb ya xc zb L p8 zF5 zF6 k_ret) (fun p0 p52 p53 p54 b6 zF8 zF9 zGf zF5 zF6 zGn zGo=>za7 zc xf xb xa zd yb ya xc zb L p0 p52 p53 p54 b6 zF8 zF9 zGf zF5 zF6 zGn zGo k_hbbbbbbaba) L p0 p14 p52 p53 p54 p63 p64 p65 b6 zF8 zF9 zGf zF5 zF6 zGn zGo) k_x0
theorem ziT {β:Type} (zc:zp) (xf:zG) (xb:xo) (xa:zi) (zd:xq) (yb:zm) (ya:zh) (xc:zu) (zb:xk) (L:Nat) (p0 p52:List (List V)) (p53 p54:Int) (b6:List V) (zF8 zF9:Int) (zGf zF5:List (List V)) (zF6:Int) (X:St→Option β) (K:KT β):xj zy (xx zc xf xb xa zd yb ya xc zb L) 0 L zV (xR p0 p52 p53 p54 b6 zF8 zF9 zGf zF5 zF6) (zan xM X K)=zbb zc xf xb xa zd yb ya xc zb L p0 p52 p53 p54 b6 zF8 zF9 zGf zF5 zF6 (fun zF5 zF6=>K (.exit 0) (zcl zF5 zF6)) (fun p8 zF5 zF6=>K .ret (xZ p8 zF5 zF6)) (fun p0 p52 p53 p54 b6 zF8 zF9 zGf zF5 zF6=>X (xR p0 p52 p53 p54 b6 zF8 zF9 zGf zF5 zF6)):=by
 refine (zjB zc xf xb xa zd yb ya xc zb L p0 p52 p53 p54 b6 zF8 zF9 zGf zF5 zF6 X K).trans ?_
 unfold zbb
 first
  | (simp only [zcz,zfo,zfQ]; done)
  | (simp only [zcz]; rfl)
def zaz {β:Type} (zc:zp) (xf:zG) (xb:xo) (xa:zi) (zd:xq) (yb:zm) (ya:zh) (xc:zu) (zb:xk) (L:Nat) (k_x0:List (List V)→Int→Option β) (k_ret:Bool→List (List V)→Int→Option β):Nat→List (List V)→List (List V)→Int→Int→List V→Int→Int→List (List V)→List (List V)→Int→Option β
 | 0,_,_,_,_,_,_,_,_,_,_=>none
 | n+1,p0,p52,p53,p54,b6,zF8,zF9,zGf,zF5,zF6=>zbb zc xf xb xa zd yb ya xc zb L p0 p52 p53 p54 b6 zF8 zF9 zGf zF5 zF6 k_x0 k_ret (fun p0 p52 p53 p54 b6 zF8 zF9 zGf zF5 zF6=>zaz zc xf xb xa zd yb ya xc zb L k_x0 k_ret n p0 p52 p53 p54 b6 zF8 zF9 zGf zF5 zF6)
theorem zen {β:Type} (zc:zp) (xf:zG) (xb:xo) (xa:zi) (zd:xq) (yb:zm) (ya:zh) (xc:zu) (zb:xk) (L:Nat) (K:KT β):∀ (n:Nat) (p0 p52:List (List V)) (p53 p54:Int) (b6:List V) (zF8 zF9:Int) (zGf zF5:List (List V)) (zF6:Int),yx (xj zy (xx zc xf xb xa zd yb ya xc zb L) 0 L zV) xM n (xR p0 p52 p53 p54 b6 zF8 zF9 zGf zF5 zF6) K=zaz zc xf xb xa zd yb ya xc zb L (fun zF5 zF6=>K (.exit 0) (zcl zF5 zF6)) (fun p8 zF5 zF6=>K .ret (xZ p8 zF5 zF6)) n p0 p52 p53 p54 b6 zF8 zF9 zGf zF5 zF6:=by
 intro n
 induction n with
 | zero=>intros; rfl
 | succ n ih =>
  intro p0 p52 p53 p54 b6 zF8 zF9 zGf zF5 zF6
  refine (ziT zc xf xb xa zd yb ya xc zb L p0 p52 p53 p54 b6 zF8 zF9 zGf zF5 zF6 (fun σ=>yx (xj zy (xx zc xf xb xa zd yb ya xc zb L) 0 L zV) xM n σ K) K).trans ?_
  simp only [ih]
  rfl
def zdu {β:Type} (zc:zp) (xf:zG) (xb:xo) (xa:zi) (zd:xq) (yb:zm) (ya:zh) (xc:zu) (zb:xk) (L:Nat) (p0 p1:List (List V)) (p2:List V) (p3:Int) (k_fin:Bool→Option β):Option β :=
 zfV zc xf xb xa zd yb ya xc zb L p0 p1 p2 p3 k_fin (fun p0 p52 p53 p54 b6 zF8 zF9 zGf zF5 zF6=>zaz zc xf xb xa zd yb ya xc zb L (fun zF5 zF6=>zeL zc xf xb xa zd yb ya xc zb L zF5 zF6 k_fin) (fun p8 zF5 zF6=>zeu zc xf xb xa zd yb ya xc zb L p8 zF5 zF6 k_fin) L p0 p52 p53 p54 b6 zF8 zF9 zGf zF5 zF6)
theorem zn8 {β:Type} (zc:zp) (xf:zG) (xb:xo) (xa:zi) (zd:xq) (yb:zm) (ya:zh) (xc:zu) (zb:xk) (L:Nat) (p0 p1:List (List V)) (p2:List V) (p3:Int) (k:KK β):yt zy (xx zc xf xb xa zd yb ya xc zb L) L zab [(V.sl 1 p0),(V.sl 1 p1),(V.agg p2),(V.sc (.int .i64 p3))] [] k=zdu zc xf xb xa zd yb ya xc zb L p0 p1 p2 p3 (fun p0=>k (V.sc (.bool p0)) []):=by
 refine (zob zc xf xb xa zd yb ya xc zb L p0 p1 p2 p3 k).trans ?_
 unfold zdu
 first
  | (simp only [zen,zia,zhT]; done)
  | (simp only [zen]; rfl)
abbrev zpS:=∀ (β:Type),Nat→List (List V)→List (List V)→List V→Int→(Bool→Option β)→Option β
def zaj (β:Type) (L:Nat) (p0 p1:List (List V)) (p2:List V) (p3:Int) (k_fin:Bool→Option β):Option β:=zdu zc xf xb xa zd yb ya xc zb L p0 p1 p2 p3 k_fin
def zdD (zaj:zpS) (L:Nat) (β:Type) (args:List V) (bor:Bor) (k:KK β):Option β:=match args,bor with
 | [a0,a1,a2,a3],[]=>aL 1 a0 fun p0=>aL 1 a1 fun p1=>aG a2 fun p2=>aI .i64 a3 fun p3=>zaj β L p0 p1 p2 p3 (fun p0=>k (V.sc (.bool p0)) [])
 | _,_=>none
theorem zn9 (L:Nat) (β:Type) (args:List V) (bor:Bor) (k:KK β) (r:β) (h:zdD zaj L β args bor k=some r):yt zy (xx zc xf xb xa zd yb ya xc zb L) L zab args bor k=some r:=by
 unfold zdD at h
 split at h
 ·have q:=yP h; clear h; obtain ⟨p0,rfl,h⟩:=q
  have q:=yP h; clear h; obtain ⟨p1,rfl,h⟩:=q
  have q:=zgy h; clear h; obtain ⟨p2,rfl,h⟩:=q
  have q:=xP h; clear h; obtain ⟨p3,rfl,h⟩:=q
  exact (zn8 zc xf xb xa zd yb ya xc zb L p0 p1 p2 p3 k).trans h
 ·cases h
def zsQ:CC:=(.seq (.seq (.reg [oo 11 (.move (tq 5) false),
   oo 12 (.move (tq 0) false),
   oo 13 (.lenS (tq 12)),
   oo 14 (.bin .lss (tq 11) (tq 13))])
 (.cond (tq 14)
 .skip
 (.seq (.mask (bl 0 55) (bl 31525197391585231 55))
 (.exit 0))))
 (.seq (.block 1 (.seq (.dreg [] [(oo 17 (.move (tq 0) false),q0),
   (oo 18 (.move (tq 5) false),q0),
   (oo 19 (.indexAddrS 3 (tq 17) (tq 18)),q0),
   (oo 20 (.fieldAddr 0 (tq 19)),q0),
   (oo 21 (.load false 1 (tq 20) false),qc [] []),
   (oo 22 (.move (tq 1) false),q0),
   (oo 23 (.move (tq 5) false),q0),
   (oo 24 (.indexAddrS 3 (tq 22) (tq 23)),q0),
   (oo 25 (.fieldAddr 0 (tq 24)),q0),
   (oo 26 (.load false 1 (tq 25) false),qc [] []),
   (oo 27 (.bin .neq (tq 21) (tq 26)),q0),
   (oo 28 (.move (tq 27) false),q0),
   (⟨(some 29),false,(some (28,false)),.move (tq 0) false⟩,q0),
   (⟨(some 30),false,(some (28,false)),.move (tq 5) false⟩,q0),
   (⟨(some 31),false,(some (28,false)),.indexAddrS 3 (tq 29) (tq 30)⟩,q0),
   (⟨(some 32),false,(some (28,false)),.fieldAddr 1 (tq 31)⟩,q0),
   (⟨(some 33),false,(some (28,false)),.load false 1 (tq 32) false⟩,qc [] []),
   (⟨(some 34),false,(some (28,false)),.move (tq 1) false⟩,q0),
   (⟨(some 35),false,(some (28,false)),.move (tq 5) false⟩,q0),
   (⟨(some 36),false,(some (28,false)),.indexAddrS 3 (tq 34) (tq 35)⟩,q0),
   (⟨(some 37),false,(some (28,false)),.fieldAddr 1 (tq 36)⟩,q0),
   (⟨(some 38),false,(some (28,false)),.load false 1 (tq 37) false⟩,qc [] []),
   (⟨(some 39),false,(some (28,false)),.bin .neq (tq 33) (tq 38)⟩,q0),
   (oo 40 (.pick (tq 28) (.const (.sc (.bool true))) (tq 39)),q0),
   (oo 41 (.move (tq 40) false),q0),
   (⟨(some 42),false,(some (41,false)),.move (tq 0) false⟩,q0),
   (⟨(some 43),false,(some (41,false)),.move (tq 5) false⟩,q0),
   (⟨(some 44),false,(some (41,false)),.indexAddrS 3 (tq 42) (tq 43)⟩,q0),
   (⟨(some 45),false,(some (41,false)),.fieldAddr 2 (tq 44)⟩,q0),
   (⟨(some 46),false,(some (41,false)),.load false 1 (tq 45) false⟩,qc [] []),
   (⟨(some 47),false,(some (41,false)),.move (tq 1) false⟩,q0),
   (⟨(some 48),false,(some (41,false)),.move (tq 5) false⟩,q0),
   (⟨(some 49),false,(some (41,false)),.indexAddrS 3 (tq 47) (tq 48)⟩,q0),
   (⟨(some 50),false,(some (41,false)),.fieldAddr 2 (tq 49)⟩,q0),
   (⟨(some 51),false,(some (41,false)),.load false 1 (tq 50) false⟩,qc [] []),
   (⟨(some 52),false,(some (41,false)),.call 130 [((tq 46),0),((tq 51),0)] []⟩,q0),
   (⟨(some 53),false,(some (41,false)),.un .not (tq 52)⟩,q0),
   (oo 54 (.pick (tq 41) (.const (.sc (.bool true))) (tq 53)),q0)])
 (.cond (tq 54)
 (.seq (.reg [oo 4 (.move (.const (.sc (.bool false))) false)])
 (.seq (.mask (bl 16 55) (bl 31525197391585247 55))
 .ret))
 .skip)))
 (.reg [oo 15 (.move (tq 5) false),
   oo 16 (.bin .add (tq 15) (.const (.sc (.int .i64 1)))),
   oo 5 (.move (tq 16) false)])))
def zwF:CC:=(.seq (.reg [oo 4 (.move (.const (.sc (.bool true))) false)])
 .ret)
def zr1:CF:=⟨55,[.tmp 4],
 (.seq (.reg [oo 4 (.move (.const (.sc (.bool false))) false)])
 (.seq (.seq (.reg [oo 6 (.move (tq 0) false),
   oo 7 (.lenS (tq 6)),
   oo 8 (.move (tq 1) false),
   oo 9 (.lenS (tq 8)),
   oo 10 (.bin .neq (tq 7) (tq 9))])
 (.cond (tq 10)
 (.seq (.reg [oo 4 (.move (.const (.sc (.bool false))) false)])
 .ret)
 .skip))
 (.seq (.seq (.reg [oo 5 (.move (.const (.sc (.int .i64 0))) false)])
 (.block 0 (.loop (bl 35 55) (bl 31525197391585263 55)
 zsQ)))
 zwF)))⟩
def zpG:Hint:=⟨[],[],[none,none,none,some ((bl 35 55),(bl 31525197391585263 55)),none,some ((bl 0 55),(bl 31525197391585231 55)),none,none,some ((bl 16 55),(bl 31525197391585247 55)),none],[],[],false,false⟩
def zEH:Nat→Sh:=yU [(21,(.int .i64)),(26,(.int .i64)),(33,(.int .i64)),(38,(.int .i64)),(46,(.sl 1)),(51,(.sl 1))]
def zEI (zb:xk) (L:Nat):CBC:=(yE 130 (ze1 zb L) noC)
def zCV:St→St:=y4 0 (bl 35 55) (bl 31525197391585263 55)
def zBe (p0 p1:List (List V)) (p5:Int):St:=⟨((V.sl 3 p0)::((V.sl 3 p1)::(jn 3 ((V.sc (.int .i64 p5))::(jn 49 []))))),(gn 55 [])⟩
def zCS (p4:Bool):St:=⟨(jn 4 ((V.sc (.bool p4))::(jn 50 []))),(gn 55 [])⟩
def zDw:St:=⟨(jn 55 []),(gn 55 [])⟩
def zyV {β:Type} (zb:xk) (L:Nat) (p0 p1:List (List V)) (k_fin:Bool→Option β) (k_hbbaba:List (List V)→List (List V)→Int→Option β):Option β :=
 ifb ((((List.length p0:Nat):Int):Int) != ((List.length p1:Nat):Int)) (
 k_fin false) (
 k_hbbaba p0 p1 (0:Int))
def zuc {β:Type} (zb:xk) (L:Nat) (p0 p1:List (List V)) (p5:Int) (k_ret:Bool→Option β) (k_hbbaba:List (List V)→List (List V)→Int→Option β) (k_x0:Option β):Option β :=
 ifb (decide (p5 < ((List.length p0:Nat):Int))) (
 idx p0 p5 fun c0 =>
 cI .i64 c0 0 fun v1 =>
 idx p1 p5 fun c2 =>
 cI .i64 c2 0 fun v3 =>
 ifb ((v1:Int) != v3) (
 k_ret false) (
 idx p0 p5 fun c4 =>
 cI .i64 (List.drop 1 c4) 0 fun v5 =>
 idx p1 p5 fun c6 =>
 cI .i64 (List.drop 1 c6) 0 fun v7 =>
 ifb ((v5:Int) != v7) (
 k_ret false) (
 idx p0 p5 fun c8 =>
 cL 1 (List.drop 2 c8) 0 fun v9 =>
 idx p1 p5 fun c10 =>
 cL 1 (List.drop 2 c10) 0 fun v11 =>
 zb β L v9 v11 (fun v12 =>
 ifb (!v12) (
 k_ret false) (
 lt (IntKind.wrap .i64 ((p5:Int)+(1:Int))) fun x13 =>
 k_hbbaba p0 p1 x13))))) (
 k_x0)
def zrj {β:Type} (zb:xk) (L:Nat) (p4:Bool) (k_fin:Bool→Option β):Option β :=
 k_fin p4
def zr9 {β:Type} (zb:xk) (L:Nat) (k_fin:Bool→Option β):Option β :=
 k_fin true
def znQ {β:Type} (zb:xk) (L:Nat) (k_ret:Bool→Option β) (k_x0:Option β):Nat→List (List V)→List (List V)→Int→Option β
 | 0,_,_,_=>none
 | n+1,p0,p1,p5=>zuc zb L p0 p1 p5 k_ret (fun p0 p1 p5=>znQ zb L k_ret k_x0 n p0 p1 p5) k_x0
def zz3 {β:Type} (zb:xk) (L:Nat) (p0 p1:List (List V)) (k_fin:Bool→Option β):Option β :=
 zyV zb L p0 p1 k_fin (fun p0 p1 p5=>znQ zb L (fun p4=>zrj zb L p4 k_fin) (zr9 zb L k_fin) L p0 p1 p5)
abbrev xD:=∀ (β:Type),Nat→List (List V)→List (List V)→(Bool→Option β)→Option β
def yi (β:Type) (L:Nat) (p0 p1:List (List V)) (k_fin:Bool→Option β):Option β:=zz3 zb L p0 p1 k_fin
def zyX (yi:xD) (L:Nat) (β:Type) (args:List V) (bor:Bor) (k:KK β):Option β:=match args,bor with
 | [a0,a1],[]=>aL 3 a0 fun p0=>aL 3 a1 fun p1=>yi β L p0 p1 (fun p0=>k (V.sc (.bool p0)) [])
 | _,_=>none
def znH:CF:=⟨16,[.tmp 2],
 (.seq (.reg [oo 2 (.move (.const (.gs 1 [])) true)])
 (.seq (.reg [oo 7 (.move (tq 0) false),
   oo 8 (.call 433 [((tq 7),0)] []),
   oo 6 (.move (tq 8) true),
   oo 9 (.extract (tq 6) 0),
   oo 10 (.pull (tq 6) 1),
   oo 11 (.pull (tq 6) 2),
   oo 5 (.alloc true [(.sc (.int .u8 0)),(.sc (.int .u8 0)),(.sc (.int .u8 0)),(.sc (.int .u8 0))]),
   oo 3 (.move (tq 9) false),
   oo 4 (.move (tq 10) false),
   oz (.store 4 (tq 5) (tq 11))])
 (.seq (.reg [oo 12 (.move (tq 0) true),
   oo 13 (.move (tq 4) false),
   oo 14 (.sliceS 1 (tq 12) none (some (tq 13)) none),
   oo 15 (.call 495 [((tq 14),0)] []),
   oo 2 (.move (tq 15) true)])
 .ret)))⟩
def zlQ:Hint:=⟨[(0,0),(1,2),(1,3),(2,0),(2,4)],[],[none],[],[],false,false⟩
def zCT:Nat→Sh:=yU []
def zCU (xw:zbP) (yq:zaK) (L:Nat):CBC:=(yE 495 (zbt yq L) (yE 433 (zeP xw L) noC))
def zvo {β:Type} (xw:zbP) (yq:zaK) (L:Nat) (p0:List (List V)) (k_fin:List (List V)→Option β):Option β :=
 xw β L p0 (fun v0 v1 v2 =>
 chk ((List.length v2)=4∧0+4≤4) (
 lt (xn [(V.sc (.int .u8 (0:Int))),(V.sc (.int .u8 (0:Int))),(V.sc (.int .u8 (0:Int))),(V.sc (.int .u8 (0:Int)))] 0 v2) fun r3 =>
 chk (0≤v1∧v1≤(((List.length p0):Nat):Int)) (
 yq β L (List.take ((Int.toNat v1) - 0) (List.drop 0 p0)) (fun v4 =>
 k_fin v4))))
abbrev yv:=∀ (β:Type),Nat→List (List V)→(List (List V)→Option β)→Option β
def yf (β:Type) (L:Nat) (p0:List (List V)) (k_fin:List (List V)→Option β):Option β:=zvo xw yq L p0 k_fin
def zu9 (yf:yv) (L:Nat) (β:Type) (args:List V) (bor:Bor) (k:KK β):Option β:=match args,bor with
 | [a0],[]=>aL 1 a0 fun p0=>yf β L p0 (fun p0=>k (V.gs 1 p0) [])
 | _,_=>none
def zgl:CC:=(.seq (.reg [oo 122 (.bin .lss (tq 121) (tq 120))])
 (.seq (.cond (tq 122)
 .skip
 (.seq (.mask (bl 2097408 138) (bl 346067167158594417342251975758108212326335 138))
 (.exit 4)))
 (.seq (.block 5 (.seq (.reg [oo 123 (.indexAddrS 3 (tq 119) (tq 121)),
   oo 124 (.load true 3 (tq 123) false),
   oo 23 (.alloc true [(.sc (.int .i64 0)),(.sc (.int .i64 0)),(.gs 1 [])]),
   oz (.store 3 (tq 23) (tq 124))])
 (.seq (.reg [oo 126 (.move (tq 21) false),
   oo 127 (.load true 3 (tq 23) false),
   oo 128 (.call 414 [((tq 126),0),((tq 127),1)] []),
   oo 125 (.move (tq 128) true),
   oo 129 (.extract (tq 125) 0),
   oo 130 (.pull (tq 125) 1),
   oo 24 (.move (tq 129) false),
   oo 25 (.move (tq 130) false)])
 (.seq (.seq (.reg [oo 131 (.move (tq 25) false),
   oo 132 (.bin .neq (tq 131) (.const (.sc (.int .i64 0))))])
 (.cond (tq 132)
 (.seq (.reg [oo 6 (.move (.const (.sc (.bool false))) false)])
 (.seq (.mask (bl 64 138) (bl 346067167158594417342251975758108210229247 138))
 .ret))
 .skip))
 (.reg [oo 133 (.move (tq 24) false),
   oo 21 (.move (tq 133) false)])))))
 (.reg [oo 134 (.bin .add (tq 121) (.const (.sc (.int .i64 1)))),
   oo 121 (.move (tq 134) false)]))))
def zhe:CC:=(.seq (.reg [oo 135 (.move (tq 21) false),
   oo 136 (.move (tq 8) false),
   oo 137 (.call 130 [((tq 135),0),((tq 136),0)] []),
   oo 6 (.move (tq 137) false)])
 .ret)
def ziR:CC:=(.seq (.seq (.reg [oo 64 (.move (tq 16) false),
   oo 65 (.move (tq 10) false),
   oo 66 (.lenS (tq 65)),
   oo 67 (.bin .lss (tq 64) (tq 66)),
   oo 68 (.move (tq 67) false),
   ⟨(some 69),false,(some (68,true)),.move (tq 10) false⟩,
   ⟨(some 70),false,(some (68,true)),.move (tq 16) false⟩,
   ⟨(some 71),false,(some (68,true)),.indexAddrS 1 (tq 69) (tq 70)⟩,
   ⟨(some 72),false,(some (68,true)),.load false 1 (tq 71) false⟩,
   ⟨(some 73),false,(some (68,true)),.move (tq 15) false⟩,
   ⟨(some 74),false,(some (68,true)),.bin .leq (tq 72) (tq 73)⟩,
   oo 75 (.pick (tq 68) (tq 74) (.const (.sc (.bool false))))])
 (.cond (tq 75)
 .skip
 (.seq (.mask (bl 99076 138) (bl 348449143727040986586421811033835801931775 138))
 (.exit 2))))
 (.block 3 (.reg [oo 76 (.move (tq 16) false),
   oo 77 (.bin .add (tq 76) (.const (.sc (.int .i64 1)))),
   oo 16 (.move (tq 77) false)])))
def zjM:CC:=(.seq (.reg [oo 79 (.move (tq 8) false),
   oo 80 (.move (tq 15) false),
   oo 81 (.sliceS 1 (tq 79) none (some (tq 80)) none),
   oo 82 (.call 415 [((tq 81),0)] []),
   oo 78 (.move (tq 82) true),
   oo 83 (.extract (tq 78) 0),
   oo 84 (.pull (tq 78) 1),
   oo 17 (.move (tq 83) false),
   oo 18 (.move (tq 84) false)])
 (.seq (.seq (.reg [oo 85 (.move (tq 17) false),
   oo 86 (.move (tq 9) false),
   oo 87 (.move (tq 16) false),
   oo 88 (.sliceS 3 (tq 86) none (some (tq 87)) none),
   oo 89 (.call 654 [((tq 85),0),((tq 88),0)] []),
   oo 90 (.un .not (tq 89))])
 (.cond (tq 90)
 (.seq (.reg [oo 6 (.move (.const (.sc (.bool false))) false)])
 .ret)
 .skip))
 (.seq (.reg [oo 92 (.move (tq 8) false),
   oo 93 (.move (tq 2) false),
   oo 94 (.buildSlice 1 2 [(.sl 1 [])] [(0,1,(tq 92)),(1,1,(tq 93))]),
   oo 95 (.call 453 [((tq 94),0)] []),
   oo 96 (.call 415 [((tq 95),0)] []),
   oo 91 (.move (tq 96) true),
   oo 97 (.extract (tq 91) 0),
   oo 98 (.pull (tq 91) 1),
   oo 19 (.move (tq 97) true),
   oo 20 (.move (tq 98) false)])
 (.seq (.seq (.reg [oo 99 (.move (tq 19) false),
   oo 100 (.lenS (tq 99)),
   oo 101 (.move (tq 9) false),
   oo 102 (.lenS (tq 101)),
   oo 103 (.bin .lss (tq 100) (tq 102)),
   oo 104 (.move (tq 103) false),
   ⟨(some 105),false,(some (104,false)),.move (tq 19) true⟩,
   ⟨(some 106),false,(some (104,false)),.move (tq 9) false⟩,
   ⟨(some 107),false,(some (104,false)),.lenS (tq 106)⟩,
   ⟨(some 108),false,(some (104,false)),.sliceS 3 (tq 105) none (some (tq 107)) none⟩,
   ⟨(some 109),false,(some (104,false)),.move (tq 9) false⟩,
   ⟨(some 110),false,(some (104,false)),.call 654 [((tq 108),0),((tq 109),0)] []⟩,
   ⟨(some 111),false,(some (104,false)),.un .not (tq 110)⟩,
   oo 112 (.pick (tq 104) (.const (.sc (.bool true))) (tq 111))])
 (.cond (tq 112)
 (.seq (.reg [oo 6 (.move (.const (.sc (.bool false))) false)])
 .ret)
 .skip))
 (.seq (.reg [oo 113 (.move (tq 8) false),
   oo 114 (.move (tq 15) false),
   oo 115 (.sliceS 1 (tq 113) none (some (tq 114)) none),
   oo 116 (.call 655 [((tq 115),0)] []),
   oo 21 (.move (tq 116) false)])
 (.seq (.seq (.reg [oo 117 (.move (tq 9) true),
   oo 118 (.move (tq 16) false),
   oo 119 (.sliceS 3 (tq 117) (some (tq 118)) none none),
   oo 120 (.lenS (tq 119)),
   oo 121 (.move (.const (.sc (.int .i64 0))) false)])
 (.block 4 (.loop (bl 4652297985247205555163324710983303424 138) (bl 346067167158594417342251975758108212326335 138)
 zgl)))
 zhe))))))
def zjF:CC:=(.seq (.seq (.reg [oo 35 (.move (tq 11) false),
   oo 36 (.bin .gtr (tq 35) (.const (.sc (.int .i64 0))))])
 (.cond (tq 36)
 .skip
 (.seq (.mask (bl 1798 138) (bl 348449143727040986586495079971928678565823 138))
 (.exit 0))))
 (.seq (.block 1 (.seq (.reg [oo 39 (.move (tq 7) false),
   oo 40 (.call 651 [((tq 39),0)] []),
   oo 12 (.alloc true [(.sc (.int .i64 0)),(.sc (.int .i64 0)),(.gs 1 [])]),
   oz (.store 3 (tq 12) (tq 40))])
 (.seq (.reg [oo 42 (.move (tq 8) false),
   oo 43 (.load true 3 (tq 12) false),
   oo 44 (.call 414 [((tq 42),0),((tq 43),1)] []),
   oo 41 (.move (tq 44) true),
   oo 45 (.extract (tq 41) 0),
   oo 46 (.pull (tq 41) 1),
   oo 13 (.move (tq 45) true),
   oo 14 (.move (tq 46) false)])
 (.seq (.seq (.reg [oo 47 (.move (tq 14) false),
   oo 48 (.bin .neq (tq 47) (.const (.sc (.int .i64 0))))])
 (.cond (tq 48)
 (.seq (.reg [oo 6 (.move (.const (.sc (.bool false))) false)])
 (.seq (.mask (bl 64 138) (bl 348449143727040986586495079971928678564095 138))
 .ret))
 .skip))
 (.reg [oo 49 (.move (tq 13) false),
   oo 50 (.move (tq 9) true),
   oo 51 (.load true 3 (tq 12) false),
   oo 52 (.buildSlice 3 1 [(.sc (.int .i64 0)),(.sc (.int .i64 0)),(.sl 1 [])] [(0,3,(tq 51))]),
   oo 53 (.append 3 40 (tq 50) (tq 52)),
   oo 54 (.move (tq 10) true),
   oo 55 (.move (tq 13) false),
   oo 56 (.lenS (tq 55)),
   oo 57 (.buildSlice 1 1 [(.sc (.int .i64 0))] [(0,1,(tq 56))]),
   oo 58 (.append 1 8 (tq 54) (tq 57)),
   oo 8 (.move (tq 49) true),
   oo 9 (.move (tq 53) true),
   oo 10 (.move (tq 58) true)])))))
 (.reg [oo 37 (.move (tq 11) false),
   oo 38 (.bin .sub (tq 37) (.const (.sc (.int .i64 1)))),
   oo 11 (.move (tq 38) false)])))
def zk4:CC:=(.seq (.reg [oo 59 (.move (tq 1) false),
   oo 60 (.move (tq 8) false),
   oo 61 (.lenS (tq 60)),
   oo 62 (.bin .add (tq 61) (.const (.sc (.int .i64 1)))),
   oo 63 (.call 217 [((tq 59),0),((tq 62),0)] []),
   oo 15 (.move (tq 63) false)])
 (.seq (.reg [oo 16 (.move (.const (.sc (.int .i64 0))) false)])
 (.seq (.block 2 (.loop (bl 100100 138) (bl 348449143727040986586421811033835801931775 138)
 ziR))
 zjM)))
def zjc:CF:=⟨138,[.tmp 6],
 (.seq (.reg [oo 6 (.move (.const (.sc (.bool false))) false)])
 (.seq (.seq (.reg [oo 26 (.call 410 [] []),
   oo 27 (.un .not (tq 26))])
 (.cond (tq 27)
 (.seq (.reg [oo 6 (.move (.const (.sc (.bool false))) false)])
 .ret)
 .skip))
 (.seq (.seq (.reg [oo 28 (.move (tq 2) false),
   oo 29 (.lenS (tq 28)),
   oo 30 (.bin .gtr (tq 29) (.const (.sc (.int .i64 100))))])
 (.cond (tq 30)
 (.seq (.reg [oo 6 (.move (.const (.sc (.bool true))) false)])
 .ret)
 .skip))
 (.seq (.reg [oo 31 (.move (tq 0) false),
   oo 32 (.call 225 [((tq 31),0)] []),
   oo 7 (.move (tq 32) false)])
 (.seq (.reg [oo 8 (.move (.const (.gs 1 [])) true)])
 (.seq (.reg [oo 9 (.move (.const (.gs 3 [])) true)])
 (.seq (.reg [oo 10 (.move (.const (.gs 1 [])) true)])
 (.seq (.seq (.reg [oo 33 (.move (tq 7) false),
   oo 34 (.call 231 [((tq 33),0),((.const (.sc (.int .i64 6))),0)] []),
   oo 11 (.move (tq 34) false)])
 (.block 0 (.loop (bl 3974 138) (bl 348449143727040986586495079971928678567871 138)
 zjF)))
 zk4))))))))⟩
def zhA:Hint:=⟨[(6,0),(7,0),(8,0),(12,2),(13,3),(13,4),(13,6),(16,1),(16,5),(16,10),(16,11),(16,12),(21,4),(21,5),(24,5),(24,6),(24,8),(25,6),(28,0),(30,2),(31,3),(31,4)],[],[none,none,none,none,none,some ((bl 3974 138),(bl 348449143727040986586495079971928678567871 138)),none,some ((bl 1798 138),(bl 348449143727040986586495079971928678565823 138)),none,none,some ((bl 64 138),(bl 348449143727040986586495079971928678564095 138)),none,some ((bl 100100 138),(bl 348449143727040986586421811033835801931775 138)),none,some ((bl 99076 138),(bl 348449143727040986586421811033835801931775 138)),none,none,none,none,none,none,some ((bl 4652297985247205555163324710983303424 138),(bl 346067167158594417342251975758108212326335 138)),none,some ((bl 2097408 138),(bl 346067167158594417342251975758108212326335 138)),none,none,some ((bl 64 138),(bl 346067167158594417342251975758108210229247 138)),none],[],[],false,false⟩
def zz8:Nat→Sh:=yU [(72,(.int .i64))]
def zz9 (zc:zp) (xb:xo) (za:xh) (xa:zi) (ya:zh) (zd:xq) (ze:yw) (yi:xD) (yb:zm) (yf:yv) (zb:xk) (L:Nat):CBC:=(yE 130 (ze1 zb L) (yE 655 (zu9 yf L) (yE 453 (ze2 yb L) (yE 654 (zyX yi L) (yE 415 (zgm ze L) (yE 217 (ziV zd L) (yE 414 (zdp ya L) (yE 651 (zfm xa L) (yE 231 (zcr za L) (yE 225 (ziH xb L) (yE 410 (zic zc L) noC)))))))))))
def zvd:St→St:=y4 0 (bl 3974 138) (bl 348449143727040986586495079971928678567871 138)
def zup:St→St:=y4 0 (bl 100100 138) (bl 348449143727040986586421811033835801931775 138)
def zq2:St→St:=y4 0 (bl 4652297985247205555163324710983303424 138) (bl 346067167158594417342251975758108212326335 138)
def ztO (p1:Int) (p2 p8 p9 p10:List (List V)) (p11:Int) (zF3:List (List V)) (zF4:Int):St:=⟨(jn 1 ((V.sc (.int .i64 p1))::((V.sl 1 p2)::(jn 4 ((V.ptr 32 0)::((V.gs 1 p8)::((V.gs 3 p9)::((V.gs 1 p10)::((V.sc (.int .i64 p11))::(jn 126 [])))))))))),(gn 32 ((.live false [(V.sl 1 zF3),(V.sc (.int .i64 zF4))])::(gn 105 [])))⟩
def zxF (p6:Bool) (zF3:List (List V)) (zF4:Int):St:=⟨(jn 6 ((V.sc (.bool p6))::(jn 131 []))),(gn 32 ((.live false [(V.sl 1 zF3),(V.sc (.int .i64 zF4))])::(gn 105 [])))⟩
def zsr (p1:Int) (p2 p8 p9 p10:List (List V)) (p11:Int) (zF3:List (List V)) (zF4:Int):St:=⟨(jn 1 ((V.sc (.int .i64 p1))::((V.sl 1 p2)::(jn 4 ((V.ptr 32 0)::((V.sl 1 p8)::((V.gs 3 p9)::((V.gs 1 p10)::((V.sc (.int .i64 p11))::(jn 126 [])))))))))),(gn 32 ((.live false [(V.sl 1 zF3),(V.sc (.int .i64 zF4))])::(gn 105 [])))⟩
def zyn (p1:Int) (p2 p8 p9 p10 zF3:List (List V)) (zF4:Int):St:=⟨(jn 1 ((V.sc (.int .i64 p1))::((V.sl 1 p2)::(jn 5 ((V.gs 1 p8)::((V.gs 3 p9)::((V.gs 1 p10)::(jn 127 [])))))))),(gn 32 ((.live false [(V.sl 1 zF3),(V.sc (.int .i64 zF4))])::(gn 105 [])))⟩
def zss (p2 p8 p9 p10:List (List V)) (p15 p16:Int) (zF3:List (List V)) (zF4:Int):St:=⟨(jn 2 ((V.sl 1 p2)::(jn 5 ((V.gs 1 p8)::((V.gs 3 p9)::((V.gs 1 p10)::(jn 4 ((V.sc (.int .i64 p15))::((V.sc (.int .i64 p16))::(jn 121 [])))))))))),(gn 32 ((.live false [(V.sl 1 zF3),(V.sc (.int .i64 zF4))])::(gn 105 [])))⟩
def zxi (p1:Int) (p2 p8 p9 p10 zF3:List (List V)) (zF4:Int):St:=⟨(jn 1 ((V.sc (.int .i64 p1))::((V.sl 1 p2)::(jn 5 ((V.sl 1 p8)::((V.gs 3 p9)::((V.gs 1 p10)::(jn 127 [])))))))),(gn 32 ((.live false [(V.sl 1 zF3),(V.sc (.int .i64 zF4))])::(gn 105 [])))⟩
def zyB (p2 p8 p9:List (List V)) (p15 p16:Int) (zF3:List (List V)) (zF4:Int):St:=⟨(jn 2 ((V.sl 1 p2)::(jn 5 ((V.gs 1 p8)::((V.gs 3 p9)::(jn 5 ((V.sc (.int .i64 p15))::((V.sc (.int .i64 p16))::(jn 121 []))))))))),(gn 32 ((.live false [(V.sl 1 zF3),(V.sc (.int .i64 zF4))])::(gn 105 [])))⟩
def zr4 (p2 p8 p9 p10:List (List V)) (p15 p16:Int) (zF3:List (List V)) (zF4:Int):St:=⟨(jn 2 ((V.sl 1 p2)::(jn 5 ((V.sl 1 p8)::((V.gs 3 p9)::((V.gs 1 p10)::(jn 4 ((V.sc (.int .i64 p15))::((V.sc (.int .i64 p16))::(jn 121 [])))))))))),(gn 32 ((.live false [(V.sl 1 zF3),(V.sc (.int .i64 zF4))])::(gn 105 [])))⟩
def zp6 (p8 p21 zGt:List (List V)) (zGu zGs:Int) (zF3:List (List V)) (zF4:Int):St:=⟨(jn 8 ((V.gs 1 p8)::(jn 12 ((V.sl 1 p21)::(jn 97 ((V.sl 3 zGt)::((V.sc (.int .i64 zGu))::((V.sc (.int .i64 zGs))::(jn 16 []))))))))),(gn 32 ((.live false [(V.sl 1 zF3),(V.sc (.int .i64 zF4))])::(gn 105 [])))⟩
def zxh (p2 p8 p9:List (List V)) (p15 p16:Int) (zF3:List (List V)) (zF4:Int):St:=⟨(jn 2 ((V.sl 1 p2)::(jn 5 ((V.sl 1 p8)::((V.gs 3 p9)::(jn 5 ((V.sc (.int .i64 p15))::((V.sc (.int .i64 p16))::(jn 121 []))))))))),(gn 32 ((.live false [(V.sl 1 zF3),(V.sc (.int .i64 zF4))])::(gn 105 [])))⟩
def zyI (p8 p21 zF3:List (List V)) (zF4:Int):St:=⟨(jn 8 ((V.gs 1 p8)::(jn 12 ((V.sl 1 p21)::(jn 116 []))))),(gn 32 ((.live false [(V.sl 1 zF3),(V.sc (.int .i64 zF4))])::(gn 105 [])))⟩
def zpd (p8 p21 zGt:List (List V)) (zGu zGs:Int) (zF3:List (List V)) (zF4:Int):St:=⟨(jn 8 ((V.sl 1 p8)::(jn 12 ((V.sl 1 p21)::(jn 97 ((V.sl 3 zGt)::((V.sc (.int .i64 zGu))::((V.sc (.int .i64 zGs))::(jn 16 []))))))))),(gn 32 ((.live false [(V.sl 1 zF3),(V.sc (.int .i64 zF4))])::(gn 105 [])))⟩
def zwW (p8 p21 zF3:List (List V)) (zF4:Int):St:=⟨(jn 8 ((V.sl 1 p8)::(jn 12 ((V.sl 1 p21)::(jn 116 []))))),(gn 32 ((.live false [(V.sl 1 zF3),(V.sc (.int .i64 zF4))])::(gn 105 [])))⟩
abbrev zjQ (β:Type):Type:=Int→List (List V)→List (List V)→List (List V)→List (List V)→Int→List (List V)→Int→Option β
abbrev zd7 (β:Type):Type:=Int→List (List V)→List (List V)→List (List V)→List (List V)→Int→List (List V)→Int→Option β
abbrev zim (β:Type):Type:=Int→List (List V)→List (List V)→List (List V)→List (List V)→List (List V)→Int→Option β
abbrev zd6 (β:Type):Type:=List (List V)→List (List V)→List (List V)→List (List V)→Int→Int→List (List V)→Int→Option β
abbrev zee (β:Type):Type:=Int→List (List V)→List (List V)→List (List V)→List (List V)→List (List V)→Int→Option β
abbrev zh7 (β:Type):Type:=List (List V)→List (List V)→List (List V)→Int→Int→List (List V)→Int→Option β
abbrev zdt (β:Type):Type:=List (List V)→List (List V)→List (List V)→List (List V)→Int→Int→List (List V)→Int→Option β
abbrev zcx (β:Type):Type:=List (List V)→List (List V)→List (List V)→Int→Int→List (List V)→Int→Option β
abbrev zg8 (β:Type):Type:=List (List V)→List (List V)→List (List V)→Int→Int→List (List V)→Int→Option β
abbrev ziB (β:Type):Type:=List (List V)→List (List V)→List (List V)→Int→Option β
abbrev zcg (β:Type):Type:=List (List V)→List (List V)→List (List V)→Int→Int→List (List V)→Int→Option β
abbrev zhc (β:Type):Type:=List (List V)→List (List V)→List (List V)→Int→Option β
def zqb {β:Type} (zc:zp) (xb:xo) (za:xh) (xa:zi) (ya:zh) (zd:xq) (ze:yw) (yi:xD) (yb:zm) (yf:yv) (zb:xk) (L:Nat) (p0:List (List V)) (p1:Int) (p2:List (List V)) (k_fin:Bool→Option β) (k_hbbbbbbbaba:zjQ β):Option β :=
 zc β L  (fun v0 =>
 ifb (!v0) (
 k_fin false) (
 ifb (decide (((List.length p2:Nat):Int) > (100:Int))) (
 k_fin true) (
 xb β L p0 (fun v1 v2 =>
 za β L (6:Int) v1 v2 (fun v3 v4 v5 =>
 k_hbbbbbbbaba p1 p2 ([]:List (List V)) ([]:List (List V)) ([]:List (List V)) v3 v4 v5)))))
def zj7 {β:Type} (zc:zp) (xb:xo) (za:xh) (xa:zi) (ya:zh) (zd:xq) (ze:yw) (yi:xD) (yb:zm) (yf:yv) (zb:xk) (L:Nat) (p1:Int) (p2 p8 p9 p10:List (List V)) (p11:Int) (zF3:List (List V)) (zF4:Int) (k_ret:Bool→List (List V)→Int→Option β) (k_hbbbbbbbabav1:zd7 β) (k_x0:zim β):Option β :=
 ifb (decide (p11 > (0:Int))) (
 xa β L zF3 zF4 (fun v6 v7 v8 =>
 chk ((List.length v6)=3∧0+3≤3) (
 lt (xn [(V.sc (.int .i64 (0:Int))),(V.sc (.int .i64 (0:Int))),(V.gs 1 ([]:List (List V)))] 0 v6) fun r9 =>
 chk (0+3≤(List.length r9)) (
 ya β L p8 (List.map V.dem (List.take 3 r9)) (fun v10 v11 =>
 ifb ((v11:Int) != (0:Int)) (
 k_ret false v7 v8) (
 chk (0+3≤(List.length r9)) (
 chk ((List.length (List.take 3 r9))=3∧0+3≤3) (
 chk ((List.length p9+List.length (yh 3 1 (xn [(V.sc (.int .i64 (0:Int))),(V.sc (.int .i64 (0:Int))),(V.sl 1 ([]:List (List V)))] 0 (List.take 3 r9)))) * 40≤xi∧List.length p9+List.length (yh 3 1 (xn [(V.sc (.int .i64 (0:Int))),(V.sc (.int .i64 (0:Int))),(V.sl 1 ([]:List (List V)))] 0 (List.take 3 r9)))≤xi) (
 lt (p9++(yh 3 1 (xn [(V.sc (.int .i64 (0:Int))),(V.sc (.int .i64 (0:Int))),(V.sl 1 ([]:List (List V)))] 0 (List.take 3 r9)))) fun l12 =>
 chk ((List.length p10+List.length (yh 1 1 [(V.sc (.int .i64 ((List.length v10:Nat):Int)))])) * 8≤xi∧List.length p10+List.length (yh 1 1 [(V.sc (.int .i64 ((List.length v10:Nat):Int)))])≤xi) (
 lt (p10++(yh 1 1 [(V.sc (.int .i64 ((List.length v10:Nat):Int)))])) fun l13 =>
 lt (IntKind.wrap .i64 ((p11:Int) - (1:Int))) fun x14 =>
 k_hbbbbbbbabav1 p1 p2 v10 l12 l13 x14 v7 v8)))))))))) (
 k_x0 p1 p2 p8 p9 p10 zF3 zF4)
def zi3 {β:Type} (zc:zp) (xb:xo) (za:xh) (xa:zi) (ya:zh) (zd:xq) (ze:yw) (yi:xD) (yb:zm) (yf:yv) (zb:xk) (L:Nat) (p6:Bool) (zF3:List (List V)) (zF4:Int) (k_fin:Bool→Option β):Option β :=
 k_fin p6
def zjg {β:Type} (zc:zp) (xb:xo) (za:xh) (xa:zi) (ya:zh) (zd:xq) (ze:yw) (yi:xD) (yb:zm) (yf:yv) (zb:xk) (L:Nat) (p1:Int) (p2 p8 p9 p10 zF3:List (List V)) (zF4:Int) (k_hbbbbbbbbbbaa:zd6 β):Option β :=
 lt (IntKind.wrap .i64 ((((List.length p8:Nat):Int):Int)+(1:Int))) fun x15 =>
 zd β L p1 x15 (fun v16 =>
 k_hbbbbbbbbbbaa p2 p8 p9 p10 v16 (0:Int) zF3 zF4)
def zjp {β:Type} (zc:zp) (xb:xo) (za:xh) (xa:zi) (ya:zh) (zd:xq) (ze:yw) (yi:xD) (yb:zm) (yf:yv) (zb:xk) (L:Nat) (p1:Int) (p2 p8 p9 p10:List (List V)) (p11:Int) (zF3:List (List V)) (zF4:Int) (k_ret:Bool→List (List V)→Int→Option β) (k_hbbbbbbbabav1:zd7 β) (k_x0v1:zee β):Option β :=
 ifb (decide (p11 > (0:Int))) (
 xa β L zF3 zF4 (fun v17 v18 v19 =>
 chk ((List.length v17)=3∧0+3≤3) (
 lt (xn [(V.sc (.int .i64 (0:Int))),(V.sc (.int .i64 (0:Int))),(V.gs 1 ([]:List (List V)))] 0 v17) fun r20 =>
 chk (0+3≤(List.length r20)) (
 ya β L p8 (List.map V.dem (List.take 3 r20)) (fun v21 v22 =>
 ifb ((v22:Int) != (0:Int)) (
 k_ret false v18 v19) (
 chk (0+3≤(List.length r20)) (
 chk ((List.length (List.take 3 r20))=3∧0+3≤3) (
 chk ((List.length p9+List.length (yh 3 1 (xn [(V.sc (.int .i64 (0:Int))),(V.sc (.int .i64 (0:Int))),(V.sl 1 ([]:List (List V)))] 0 (List.take 3 r20)))) * 40≤xi∧List.length p9+List.length (yh 3 1 (xn [(V.sc (.int .i64 (0:Int))),(V.sc (.int .i64 (0:Int))),(V.sl 1 ([]:List (List V)))] 0 (List.take 3 r20)))≤xi) (
 lt (p9++(yh 3 1 (xn [(V.sc (.int .i64 (0:Int))),(V.sc (.int .i64 (0:Int))),(V.sl 1 ([]:List (List V)))] 0 (List.take 3 r20)))) fun l23 =>
 chk ((List.length p10+List.length (yh 1 1 [(V.sc (.int .i64 ((List.length v21:Nat):Int)))])) * 8≤xi∧List.length p10+List.length (yh 1 1 [(V.sc (.int .i64 ((List.length v21:Nat):Int)))])≤xi) (
 lt (p10++(yh 1 1 [(V.sc (.int .i64 ((List.length v21:Nat):Int)))])) fun l24 =>
 lt (IntKind.wrap .i64 ((p11:Int) - (1:Int))) fun x25 =>
 k_hbbbbbbbabav1 p1 p2 v21 l23 l24 x25 v18 v19)))))))))) (
 k_x0v1 p1 p2 p8 p9 p10 zF3 zF4)
def zjm {β:Type} (zc:zp) (xb:xo) (za:xh) (xa:zi) (ya:zh) (zd:xq) (ze:yw) (yi:xD) (yb:zm) (yf:yv) (zb:xk) (L:Nat) (p2 p8 p9 p10:List (List V)) (p15 p16:Int) (zF3:List (List V)) (zF4:Int) (k_hbbbbbbbbbbaa:zd6 β) (k_x2:zh7 β):Option β :=
 ifb (decide (p16 < ((List.length p10:Nat):Int))) (
 idx p10 p16 fun c26 =>
 cI .i64 c26 0 fun v27 =>
 ifb (decide (v27≤p15)) (
 lt (IntKind.wrap .i64 ((p16:Int)+(1:Int))) fun x28 =>
 k_hbbbbbbbbbbaa p2 p8 p9 p10 p15 x28 zF3 zF4) (
 k_x2 p2 p8 p9 p15 p16 zF3 zF4)) (
 k_x2 p2 p8 p9 p15 p16 zF3 zF4)
def zsq {β:Type} (zc:zp) (xb:xo) (za:xh) (xa:zi) (ya:zh) (zd:xq) (ze:yw) (yi:xD) (yb:zm) (yf:yv) (zb:xk) (L:Nat) (p6:Bool) (zF3:List (List V)) (zF4:Int) (k_fin:Bool→Option β):Option β :=
 k_fin p6
def zhs {β:Type} (zc:zp) (xb:xo) (za:xh) (xa:zi) (ya:zh) (zd:xq) (ze:yw) (yi:xD) (yb:zm) (yf:yv) (zb:xk) (L:Nat) (p1:Int) (p2 p8 p9 p10 zF3:List (List V)) (zF4:Int) (k_hbbbbbbbbbbaav1:zdt β):Option β :=
 lt (IntKind.wrap .i64 ((((List.length p8:Nat):Int):Int)+(1:Int))) fun x29 =>
 zd β L p1 x29 (fun v30 =>
 k_hbbbbbbbbbbaav1 p2 p8 p9 p10 v30 (0:Int) zF3 zF4)
def zis {β:Type} (zc:zp) (xb:xo) (za:xh) (xa:zi) (ya:zh) (zd:xq) (ze:yw) (yi:xD) (yb:zm) (yf:yv) (zb:xk) (L:Nat) (p2 p8 p9:List (List V)) (p15 p16:Int) (zF3:List (List V)) (zF4:Int) (k_fin:Bool→Option β) (k_hbbbbbbbbbbbbbbbbaba:zcx β):Option β :=
 chk (0≤p15∧p15≤(((List.length p8):Nat):Int)) (
 ze β L (List.take ((Int.toNat p15) - 0) (List.drop 0 p8)) (fun v31 v32 =>
 chk (0≤p16∧p16≤(((List.length p9):Nat):Int)) (
 yi β L v31 (List.take ((Int.toNat p16) - 0) (List.drop 0 p9)) (fun v33 =>
 ifb (!v33) (
 k_fin false) (
 yb β L (yh 1 2 [(V.sl 1 p8),(V.sl 1 p2)]) (fun v34 =>
 ze β L v34 (fun v35 v36 =>
 ifb (decide (((List.length v35:Nat):Int) < ((List.length p9:Nat):Int))) (
 k_fin false) (
 chk (0≤((List.length p9:Nat):Int)∧((List.length p9:Nat):Int)≤(((List.length v35):Nat):Int)) (
 yi β L (List.take ((Int.toNat ((List.length p9:Nat):Int)) - 0) (List.drop 0 v35)) p9 (fun v37 =>
 ifb (!v37) (
 k_fin false) (
 chk (0≤p15∧p15≤(((List.length p8):Nat):Int)) (
 yf β L (List.take ((Int.toNat p15) - 0) (List.drop 0 p8)) (fun v38 =>
 chk (0≤p16∧p16≤(((List.length p9):Nat):Int)) (
 k_hbbbbbbbbbbbbbbbbaba p8 v38 (List.take ((List.length p9) - (Int.toNat p16)) (List.drop (Int.toNat p16) p9)) ((List.length (List.take ((List.length p9) - (Int.toNat p16)) (List.drop (Int.toNat p16) p9)):Nat):Int) (0:Int) zF3 zF4))))))))))))))
def zid {β:Type} (zc:zp) (xb:xo) (za:xh) (xa:zi) (ya:zh) (zd:xq) (ze:yw) (yi:xD) (yb:zm) (yf:yv) (zb:xk) (L:Nat) (p2 p8 p9 p10:List (List V)) (p15 p16:Int) (zF3:List (List V)) (zF4:Int) (k_hbbbbbbbbbbaav1:zdt β) (k_x2v1:zg8 β):Option β :=
 ifb (decide (p16 < ((List.length p10:Nat):Int))) (
 idx p10 p16 fun c39 =>
 cI .i64 c39 0 fun v40 =>
 ifb (decide (v40≤p15)) (
 lt (IntKind.wrap .i64 ((p16:Int)+(1:Int))) fun x41 =>
 k_hbbbbbbbbbbaav1 p2 p8 p9 p10 p15 x41 zF3 zF4) (
 k_x2v1 p2 p8 p9 p15 p16 zF3 zF4)) (
 k_x2v1 p2 p8 p9 p15 p16 zF3 zF4)
def zgA {β:Type} (zc:zp) (xb:xo) (za:xh) (xa:zi) (ya:zh) (zd:xq) (ze:yw) (yi:xD) (yb:zm) (yf:yv) (zb:xk) (L:Nat) (p8 p21 zGt:List (List V)) (zGu zGs:Int) (zF3:List (List V)) (zF4:Int) (k_ret:Bool→List (List V)→Int→Option β) (k_hbbbbbbbbbbbbbbbbaba:zcx β) (k_x4:ziB β):Option β :=
 ifb (decide (zGs < zGu)) (
 idx zGt zGs fun c42 =>
 chk ((List.length (List.take 3 c42))=3∧0+3≤3) (
 lt (xn [(V.sc (.int .i64 (0:Int))),(V.sc (.int .i64 (0:Int))),(V.gs 1 ([]:List (List V)))] 0 (List.take 3 c42)) fun r43 =>
 chk (0+3≤(List.length r43)) (
 ya β L p21 (List.map V.dem (List.take 3 r43)) (fun v44 v45 =>
 ifb ((v45:Int) != (0:Int)) (
 k_ret false zF3 zF4) (
 lt (IntKind.wrap .i64 ((zGs:Int)+(1:Int))) fun x46 =>
 k_hbbbbbbbbbbbbbbbbaba p8 v44 zGt zGu x46 zF3 zF4))))) (
 k_x4 p8 p21 zF3 zF4)
def zgX {β:Type} (zc:zp) (xb:xo) (za:xh) (xa:zi) (ya:zh) (zd:xq) (ze:yw) (yi:xD) (yb:zm) (yf:yv) (zb:xk) (L:Nat) (p2 p8 p9:List (List V)) (p15 p16:Int) (zF3:List (List V)) (zF4:Int) (k_fin:Bool→Option β) (k_hbbbbbbbbbbbbbbbbabav1:zcg β):Option β :=
 chk (0≤p15∧p15≤(((List.length p8):Nat):Int)) (
 ze β L (List.take ((Int.toNat p15) - 0) (List.drop 0 p8)) (fun v47 v48 =>
 chk (0≤p16∧p16≤(((List.length p9):Nat):Int)) (
 yi β L v47 (List.take ((Int.toNat p16) - 0) (List.drop 0 p9)) (fun v49 =>
 ifb (!v49) (
 k_fin false) (
 yb β L (yh 1 2 [(V.sl 1 p8),(V.sl 1 p2)]) (fun v50 =>
 ze β L v50 (fun v51 v52 =>
 ifb (decide (((List.length v51:Nat):Int) < ((List.length p9:Nat):Int))) (
 k_fin false) (
 chk (0≤((List.length p9:Nat):Int)∧((List.length p9:Nat):Int)≤(((List.length v51):Nat):Int)) (
 yi β L (List.take ((Int.toNat ((List.length p9:Nat):Int)) - 0) (List.drop 0 v51)) p9 (fun v53 =>
 ifb (!v53) (
 k_fin false) (
 chk (0≤p15∧p15≤(((List.length p8):Nat):Int)) (
 yf β L (List.take ((Int.toNat p15) - 0) (List.drop 0 p8)) (fun v54 =>
 chk (0≤p16∧p16≤(((List.length p9):Nat):Int)) (
 k_hbbbbbbbbbbbbbbbbabav1 p8 v54 (List.take ((List.length p9) - (Int.toNat p16)) (List.drop (Int.toNat p16) p9)) ((List.length (List.take ((List.length p9) - (Int.toNat p16)) (List.drop (Int.toNat p16) p9)):Nat):Int) (0:Int) zF3 zF4))))))))))))))
def zfW {β:Type} (zc:zp) (xb:xo) (za:xh) (xa:zi) (ya:zh) (zd:xq) (ze:yw) (yi:xD) (yb:zm) (yf:yv) (zb:xk) (L:Nat) (p6:Bool) (zF3:List (List V)) (zF4:Int) (k_fin:Bool→Option β):Option β :=
 k_fin p6
def zf0 {β:Type} (zc:zp) (xb:xo) (za:xh) (xa:zi) (ya:zh) (zd:xq) (ze:yw) (yi:xD) (yb:zm) (yf:yv) (zb:xk) (L:Nat) (p8 p21 zF3:List (List V)) (zF4:Int) (k_fin:Bool→Option β):Option β :=
 zb β L p21 p8 (fun v55 =>
 k_fin v55)
def zf1 {β:Type} (zc:zp) (xb:xo) (za:xh) (xa:zi) (ya:zh) (zd:xq) (ze:yw) (yi:xD) (yb:zm) (yf:yv) (zb:xk) (L:Nat) (p8 p21 zGt:List (List V)) (zGu zGs:Int) (zF3:List (List V)) (zF4:Int) (k_ret:Bool→List (List V)→Int→Option β) (k_hbbbbbbbbbbbbbbbbabav1:zcg β) (k_x4v1:zhc β):Option β :=
 ifb (decide (zGs < zGu)) (
 idx zGt zGs fun c56 =>
 chk ((List.length (List.take 3 c56))=3∧0+3≤3) (
 lt (xn [(V.sc (.int .i64 (0:Int))),(V.sc (.int .i64 (0:Int))),(V.gs 1 ([]:List (List V)))] 0 (List.take 3 c56)) fun r57 =>
 chk (0+3≤(List.length r57)) (
 ya β L p21 (List.map V.dem (List.take 3 r57)) (fun v58 v59 =>
 ifb ((v59:Int) != (0:Int)) (
 k_ret false zF3 zF4) (
 lt (IntKind.wrap .i64 ((zGs:Int)+(1:Int))) fun x60 =>
 k_hbbbbbbbbbbbbbbbbabav1 p8 v58 zGt zGu x60 zF3 zF4))))) (
 k_x4v1 p8 p21 zF3 zF4)
def zfl {β:Type} (zc:zp) (xb:xo) (za:xh) (xa:zi) (ya:zh) (zd:xq) (ze:yw) (yi:xD) (yb:zm) (yf:yv) (zb:xk) (L:Nat) (p6:Bool) (zF3:List (List V)) (zF4:Int) (k_fin:Bool→Option β):Option β :=
 k_fin p6
def zfe {β:Type} (zc:zp) (xb:xo) (za:xh) (xa:zi) (ya:zh) (zd:xq) (ze:yw) (yi:xD) (yb:zm) (yf:yv) (zb:xk) (L:Nat) (p8 p21 zF3:List (List V)) (zF4:Int) (k_fin:Bool→Option β):Option β :=
 zb β L p21 p8 (fun v61 =>
 k_fin v61)
def zep {β:Type} (zc:zp) (xb:xo) (za:xh) (xa:zi) (ya:zh) (zd:xq) (ze:yw) (yi:xD) (yb:zm) (yf:yv) (zb:xk) (L:Nat) (k_ret:Bool→List (List V)→Int→Option β) (k_x0v1:zee β):Nat→Int→List (List V)→List (List V)→List (List V)→List (List V)→Int→List (List V)→Int→Option β
 | 0,_,_,_,_,_,_,_,_=>none
 | n+1,p1,p2,p8,p9,p10,p11,zF3,zF4=>zjp zc xb za xa ya zd ze yi yb yf zb L p1 p2 p8 p9 p10 p11 zF3 zF4 k_ret (fun p1 p2 p8 p9 p10 p11 zF3 zF4=>zep zc xb za xa ya zd ze yi yb yf zb L k_ret k_x0v1 n p1 p2 p8 p9 p10 p11 zF3 zF4) k_x0v1
def zkb {β:Type} (zc:zp) (xb:xo) (za:xh) (xa:zi) (ya:zh) (zd:xq) (ze:yw) (yi:xD) (yb:zm) (yf:yv) (zb:xk) (L:Nat) (k_ret:Bool→List (List V)→Int→Option β) (k_x0:zim β) (k_x0v1:zee β):Nat→Int→List (List V)→List (List V)→List (List V)→List (List V)→Int→List (List V)→Int→Option β
 | 0,_,_,_,_,_,_,_,_=>none
 | n+1,p1,p2,p8,p9,p10,p11,zF3,zF4=>zj7 zc xb za xa ya zd ze yi yb yf zb L p1 p2 p8 p9 p10 p11 zF3 zF4 k_ret (fun p1 p2 p8 p9 p10 p11 zF3 zF4=>zep zc xb za xa ya zd ze yi yb yf zb L k_ret k_x0v1 n p1 p2 p8 p9 p10 p11 zF3 zF4) k_x0
def zev {β:Type} (zc:zp) (xb:xo) (za:xh) (xa:zi) (ya:zh) (zd:xq) (ze:yw) (yi:xD) (yb:zm) (yf:yv) (zb:xk) (L:Nat) (k_x2:zh7 β):Nat→List (List V)→List (List V)→List (List V)→List (List V)→Int→Int→List (List V)→Int→Option β
 | 0,_,_,_,_,_,_,_,_=>none
 | n+1,p2,p8,p9,p10,p15,p16,zF3,zF4=>zjm zc xb za xa ya zd ze yi yb yf zb L p2 p8 p9 p10 p15 p16 zF3 zF4 (fun p2 p8 p9 p10 p15 p16 zF3 zF4=>zev zc xb za xa ya zd ze yi yb yf zb L k_x2 n p2 p8 p9 p10 p15 p16 zF3 zF4) k_x2
def zcH {β:Type} (zc:zp) (xb:xo) (za:xh) (xa:zi) (ya:zh) (zd:xq) (ze:yw) (yi:xD) (yb:zm) (yf:yv) (zb:xk) (L:Nat) (k_ret:Bool→List (List V)→Int→Option β) (k_x4:ziB β):Nat→List (List V)→List (List V)→List (List V)→Int→Int→List (List V)→Int→Option β
 | 0,_,_,_,_,_,_,_=>none
 | n+1,p8,p21,zGt,zGu,zGs,zF3,zF4=>zgA zc xb za xa ya zd ze yi yb yf zb L p8 p21 zGt zGu zGs zF3 zF4 k_ret (fun p8 p21 zGt zGu zGs zF3 zF4=>zcH zc xb za xa ya zd ze yi yb yf zb L k_ret k_x4 n p8 p21 zGt zGu zGs zF3 zF4) k_x4
def zhU {β:Type} (zc:zp) (xb:xo) (za:xh) (xa:zi) (ya:zh) (zd:xq) (ze:yw) (yi:xD) (yb:zm) (yf:yv) (zb:xk) (L:Nat) (p2 p8 p9:List (List V)) (p15 p16:Int) (zF3:List (List V)) (zF4:Int) (k_fin:Bool→Option β):Option β :=
 zis zc xb za xa ya zd ze yi yb yf zb L p2 p8 p9 p15 p16 zF3 zF4 k_fin (fun p8 p21 zGt zGu zGs zF3 zF4=>zcH zc xb za xa ya zd ze yi yb yf zb L (fun p6 zF3 zF4=>zfW zc xb za xa ya zd ze yi yb yf zb L p6 zF3 zF4 k_fin) (fun p8 p21 zF3 zF4=>zf0 zc xb za xa ya zd ze yi yb yf zb L p8 p21 zF3 zF4 k_fin) L p8 p21 zGt zGu zGs zF3 zF4)
def ziL {β:Type} (zc:zp) (xb:xo) (za:xh) (xa:zi) (ya:zh) (zd:xq) (ze:yw) (yi:xD) (yb:zm) (yf:yv) (zb:xk) (L:Nat) (p1:Int) (p2 p8 p9 p10 zF3:List (List V)) (zF4:Int) (k_fin:Bool→Option β):Option β :=
 zjg zc xb za xa ya zd ze yi yb yf zb L p1 p2 p8 p9 p10 zF3 zF4 (fun p2 p8 p9 p10 p15 p16 zF3 zF4=>zev zc xb za xa ya zd ze yi yb yf zb L (fun p2 p8 p9 p15 p16 zF3 zF4=>zhU zc xb za xa ya zd ze yi yb yf zb L p2 p8 p9 p15 p16 zF3 zF4 k_fin) L p2 p8 p9 p10 p15 p16 zF3 zF4)
def zdK {β:Type} (zc:zp) (xb:xo) (za:xh) (xa:zi) (ya:zh) (zd:xq) (ze:yw) (yi:xD) (yb:zm) (yf:yv) (zb:xk) (L:Nat) (k_x2v1:zg8 β):Nat→List (List V)→List (List V)→List (List V)→List (List V)→Int→Int→List (List V)→Int→Option β
 | 0,_,_,_,_,_,_,_,_=>none
 | n+1,p2,p8,p9,p10,p15,p16,zF3,zF4=>zid zc xb za xa ya zd ze yi yb yf zb L p2 p8 p9 p10 p15 p16 zF3 zF4 (fun p2 p8 p9 p10 p15 p16 zF3 zF4=>zdK zc xb za xa ya zd ze yi yb yf zb L k_x2v1 n p2 p8 p9 p10 p15 p16 zF3 zF4) k_x2v1
def zco {β:Type} (zc:zp) (xb:xo) (za:xh) (xa:zi) (ya:zh) (zd:xq) (ze:yw) (yi:xD) (yb:zm) (yf:yv) (zb:xk) (L:Nat) (k_ret:Bool→List (List V)→Int→Option β) (k_x4v1:zhc β):Nat→List (List V)→List (List V)→List (List V)→Int→Int→List (List V)→Int→Option β
 | 0,_,_,_,_,_,_,_=>none
 | n+1,p8,p21,zGt,zGu,zGs,zF3,zF4=>zf1 zc xb za xa ya zd ze yi yb yf zb L p8 p21 zGt zGu zGs zF3 zF4 k_ret (fun p8 p21 zGt zGu zGs zF3 zF4=>zco zc xb za xa ya zd ze yi yb yf zb L k_ret k_x4v1 n p8 p21 zGt zGu zGs zF3 zF4) k_x4v1
def zgz {β:Type} (zc:zp) (xb:xo) (za:xh) (xa:zi) (ya:zh) (zd:xq) (ze:yw) (yi:xD) (yb:zm) (yf:yv) (zb:xk) (L:Nat) (p2 p8 p9:List (List V)) (p15 p16:Int) (zF3:List (List V)) (zF4:Int) (k_fin:Bool→Option β):Option β :=
 zgX zc xb za xa ya zd ze yi yb yf zb L p2 p8 p9 p15 p16 zF3 zF4 k_fin (fun p8 p21 zGt zGu zGs zF3 zF4=>zco zc xb za xa ya zd ze yi yb yf zb L (fun p6 zF3 zF4=>zfl zc xb za xa ya zd ze yi yb yf zb L p6 zF3 zF4 k_fin) (fun p8 p21 zF3 zF4=>zfe zc xb za xa ya zd ze yi yb yf zb L p8 p21 zF3 zF4 k_fin) L p8 p21 zGt zGu zGs zF3 zF4)
def zhd {β:Type} (zc:zp) (xb:xo) (za:xh) (xa:zi) (ya:zh) (zd:xq) (ze:yw) (yi:xD) (yb:zm) (yf:yv) (zb:xk) (L:Nat) (p1:Int) (p2 p8 p9 p10 zF3:List (List V)) (zF4:Int) (k_fin:Bool→Option β):Option β :=
 zhs zc xb za xa ya zd ze yi yb yf zb L p1 p2 p8 p9 p10 zF3 zF4 (fun p2 p8 p9 p10 p15 p16 zF3 zF4=>zdK zc xb za xa ya zd ze yi yb yf zb L (fun p2 p8 p9 p15 p16 zF3 zF4=>zgz zc xb za xa ya zd ze yi yb yf zb L p2 p8 p9 p15 p16 zF3 zF4 k_fin) L p2 p8 p9 p10 p15 p16 zF3 zF4)
def zpU {β:Type} (zc:zp) (xb:xo) (za:xh) (xa:zi) (ya:zh) (zd:xq) (ze:yw) (yi:xD) (yb:zm) (yf:yv) (zb:xk) (L:Nat) (p0:List (List V)) (p1:Int) (p2:List (List V)) (k_fin:Bool→Option β):Option β :=
 zqb zc xb za xa ya zd ze yi yb yf zb L p0 p1 p2 k_fin (fun p1 p2 p8 p9 p10 p11 zF3 zF4=>zkb zc xb za xa ya zd ze yi yb yf zb L (fun p6 zF3 zF4=>zi3 zc xb za xa ya zd ze yi yb yf zb L p6 zF3 zF4 k_fin) (fun p1 p2 p8 p9 p10 zF3 zF4=>ziL zc xb za xa ya zd ze yi yb yf zb L p1 p2 p8 p9 p10 zF3 zF4 k_fin) (fun p1 p2 p8 p9 p10 zF3 zF4=>zhd zc xb za xa ya zd ze yi yb yf zb L p1 p2 p8 p9 p10 zF3 zF4 k_fin) L p1 p2 p8 p9 p10 p11 zF3 zF4)
abbrev zqm:=∀ (β:Type),Nat→List (List V)→Int→List (List V)→(Bool→Option β)→Option β
def zjG (β:Type) (L:Nat) (p0:List (List V)) (p1:Int) (p2:List (List V)) (k_fin:Bool→Option β):Option β:=zpU zc xb za xa ya zd ze yi yb yf zb L p0 p1 p2 k_fin
def zAq (zjG:zqm) (L:Nat) (β:Type) (args:List V) (bor:Bor) (k:KK β):Option β:=match args,bor with
 | [a0,a1,a2],[]=>aL 1 a0 fun p0=>aI .i64 a1 fun p1=>aL 1 a2 fun p2=>zjG β L p0 p1 p2 (fun p0=>k (V.sc (.bool p0)) [])
 | _,_=>none
def gls:List (Nat × List V):=[(0,gk_sha_initial),(1,gk_sha_k)]
def fg:List (Nat × Nat):=[(3,647),(4,648),(5,649),(6,410),(7,650),(8,651),(9,225),(10,217),(11,453),(12,414),(13,652),(14,130),(15,415),(16,653),(17,654),(18,655),(19,656),(20,432),(21,657),(22,231),(23,274),(24,193),(25,433),(26,157),(27,434),(28,435),(29,658),(30,159),(31,659),(32,495),(33,247),(34,457),(35,191),(36,192),(37,458),(38,459),(39,660),(40,194),(41,494),(42,170),(43,195),(44,496),(45,497),(46,498),(47,200),(48,531),(49,532),(50,533),(51,197),(52,207),(53,534),(54,535),(55,209),(56,569),(57,570),(58,571),(59,198),(60,572),(77,640),(78,641),(79,642),(80,643)]
def rows:List Row:=[⟨20,432,zmS,zgP⟩,⟨59,198,zpz,zj4⟩,⟨51,197,zjR,zba⟩,⟨42,170,zqA,zlz⟩,⟨52,207,zkv,zbr⟩,⟨43,195,zrW,zmJ⟩,⟨32,495,zgw,zcm⟩,⟨28,435,zfZ,xJ⟩,⟨45,497,zsJ,zfO⟩,⟨44,496,zsU,zgW⟩,⟨60,572,zgD,zcD⟩,⟨54,535,zrX,zmD⟩,⟨53,534,znS,zaW⟩,⟨46,498,znK,zcJ⟩,⟨37,458,ztx,zdJ⟩,⟨27,434,zmR,zgR⟩,⟨34,457,znP,zhK⟩,⟨25,433,znT,zcK⟩,⟨36,192,znR,zcR⟩,⟨35,191,znF,zhR⟩,⟨26,157,zk9,zfN⟩,⟨12,414,zlU,zgf⟩,⟨15,415,znM,zhP⟩,⟨6,410,zpy,zj1⟩,⟨9,225,zr0,zmM⟩,⟨33,247,zlK,zgb⟩,⟨10,217,zr3,zmy⟩,⟨22,231,zlL,zf4⟩,⟨23,274,zlw,zfH⟩,⟨8,651,zoG,zdo⟩,⟨21,657,zou,zi7⟩,⟨55,209,znI,zcV⟩,⟨47,200,zqG,zla⟩,⟨24,193,znU,zhH⟩,⟨11,453,zpw,zed⟩,⟨48,531,zqU,zcf⟩,⟨49,532,zm4,zgN⟩,⟨58,571,zpj,zj2⟩,⟨56,569,zlN,zax⟩,⟨57,570,zkC,zfz⟩,⟨50,533,zlR,zbZ⟩,⟨41,494,zqV,zca⟩,⟨31,659,zoZ,ziG⟩,⟨14,130,zpq,zj5⟩,⟨39,660,zor,zi9⟩,⟨29,658,zpC,zd9⟩,⟨40,194,znG,zcM⟩,⟨30,159,zkT,zfr⟩,⟨13,652,znO,zhI⟩,⟨7,650,zo4,zdr⟩,⟨3,647,zhO,zab⟩,⟨17,654,zpG,zr1⟩,⟨18,655,zlQ,znH⟩,⟨5,649,zhA,zjc⟩]
theorem zvl:zQ Tryd.prog (zK fg gls) zmS 20=some zgP:=by kernel_rfl
theorem zyE:zQ Tryd.prog (zK fg gls) zpz 59=some zj4:=by kernel_rfl
theorem zrF:zQ Tryd.prog (zK fg gls) zjR 51=some zba:=by kernel_rfl
theorem zzN:zQ Tryd.prog (zK fg gls) zqA 42=some zlz:=by kernel_rfl
theorem zsh:zQ Tryd.prog (zK fg gls) zkv 52=some zbr:=by kernel_rfl
theorem zAp:zQ Tryd.prog (zK fg gls) zrW 43=some zmJ:=by kernel_rfl
theorem zno:zQ Tryd.prog (zK fg gls) zgw 32=some zcm:=by kernel_rfl
theorem zmT:zQ Tryd.prog (zK fg gls) zfZ 28=some xJ:=by kernel_rfl
theorem zA8:zQ Tryd.prog (zK fg gls) zsJ 45=some zfO:=by kernel_rfl
theorem zBf:zQ Tryd.prog (zK fg gls) zsU 44=some zgW:=by kernel_rfl
theorem znZ:zQ Tryd.prog (zK fg gls) zgD 60=some zcD:=by kernel_rfl
theorem zAn:zQ Tryd.prog (zK fg gls) zrX 54=some zmD:=by kernel_rfl
theorem zwQ:zQ Tryd.prog (zK fg gls) znS 53=some zaW:=by kernel_rfl
theorem zvR:zQ Tryd.prog (zK fg gls) znK 46=some zcJ:=by kernel_rfl
theorem zA7:zQ Tryd.prog (zK fg gls) ztx 37=some zdJ:=by kernel_rfl
theorem zve:zQ Tryd.prog (zK fg gls) zmR 27=some zgR:=by kernel_rfl
theorem zvV:zQ Tryd.prog (zK fg gls) znP 34=some zhK:=by kernel_rfl
theorem zvO:zQ Tryd.prog (zK fg gls) znT 25=some zcK:=by kernel_rfl
theorem zv4:zQ Tryd.prog (zK fg gls) znR 36=some zcR:=by kernel_rfl
theorem zv9:zQ Tryd.prog (zK fg gls) znF 35=some zhR:=by kernel_rfl
theorem ztz:zQ Tryd.prog (zK fg gls) zk9 26=some zfN:=by kernel_rfl
theorem ztT:zQ Tryd.prog (zK fg gls) zlU 12=some zgf:=by kernel_rfl
theorem zwo:zQ Tryd.prog (zK fg gls) znM 15=some zhP:=by kernel_rfl
theorem zyJ:zQ Tryd.prog (zK fg gls) zpy 6=some zj1:=by kernel_rfl
theorem zAo:zQ Tryd.prog (zK fg gls) zr0 9=some zmM:=by kernel_rfl
theorem zui:zQ Tryd.prog (zK fg gls) zlK 33=some zgb:=by kernel_rfl
theorem zAa:zQ Tryd.prog (zK fg gls) zr3 10=some zmy:=by kernel_rfl
theorem zud:zQ Tryd.prog (zK fg gls) zlL 22=some zf4:=by kernel_rfl
theorem ztl:zQ Tryd.prog (zK fg gls) zlw 23=some zfH:=by kernel_rfl
theorem zxf:zQ Tryd.prog (zK fg gls) zoG 8=some zdo:=by kernel_rfl
theorem zwX:zQ Tryd.prog (zK fg gls) zou 21=some zi7:=by kernel_rfl
theorem zwb:zQ Tryd.prog (zK fg gls) znI 55=some zcV:=by kernel_rfl
theorem zzF:zQ Tryd.prog (zK fg gls) zqG 47=some zla:=by kernel_rfl
theorem zwH:zQ Tryd.prog (zK fg gls) znU 24=some zhH:=by kernel_rfl
theorem zyF:zQ Tryd.prog (zK fg gls) zpw 11=some zed:=by kernel_rfl
theorem zzW:zQ Tryd.prog (zK fg gls) zqU 48=some zcf:=by kernel_rfl
theorem zvc:zQ Tryd.prog (zK fg gls) zm4 49=some zgN:=by kernel_rfl
theorem zyk:zQ Tryd.prog (zK fg gls) zpj 58=some zj2:=by kernel_rfl
theorem zt4:zQ Tryd.prog (zK fg gls) zlN 56=some zax:=by kernel_rfl
theorem zsX:zQ Tryd.prog (zK fg gls) zkC 57=some zfz:=by kernel_rfl
theorem zt3:zQ Tryd.prog (zK fg gls) zlR 50=some zbZ:=by kernel_rfl
theorem zze:zQ Tryd.prog (zK fg gls) zqV 41=some zca:=by kernel_rfl
theorem zxg:zQ Tryd.prog (zK fg gls) zoZ 31=some ziG:=by kernel_rfl
theorem zyx:zQ Tryd.prog (zK fg gls) zpq 14=some zj5:=by kernel_rfl
theorem zxc:zQ Tryd.prog (zK fg gls) zor 39=some zi9:=by kernel_rfl
theorem zyj:zQ Tryd.prog (zK fg gls) zpC 29=some zd9:=by kernel_rfl
theorem zwC:zQ Tryd.prog (zK fg gls) znG 40=some zcM:=by kernel_rfl
theorem zsZ:zQ Tryd.prog (zK fg gls) zkT 30=some zfr:=by kernel_rfl
theorem zwx:zQ Tryd.prog (zK fg gls) znO 13=some zhI:=by kernel_rfl
theorem zxv:zQ Tryd.prog (zK fg gls) zo4 7=some zdr:=by kernel_rfl
theorem zpb:zQ Tryd.prog (zK fg gls) zhO 3=some zab:=by kernel_rfl
theorem zyC:zQ Tryd.prog (zK fg gls) zpG 17=some zr1:=by kernel_rfl
theorem zt9:zQ Tryd.prog (zK fg gls) zlQ 18=some znH:=by kernel_rfl
theorem zo6:zQ Tryd.prog (zK fg gls) zhA 5=some zjc:=by kernel_rfl
theorem zD1:∀ r ∈ rows,(r.f,r.g) ∈ fg∧zfS Tryd.prog r.f=true∧zQ Tryd.prog (zK fg gls) r.h r.f=some r.c:=by
 intro r hr
 simp only [rows,List.mem_cons,List.not_mem_nil,or_false] at hr
 rcases hr with rfl | rfl | rfl | rfl | rfl | rfl | rfl | rfl | rfl | rfl | rfl | rfl | rfl | rfl | rfl | rfl | rfl | rfl | rfl | rfl | rfl | rfl | rfl | rfl | rfl | rfl | rfl | rfl | rfl | rfl | rfl | rfl | rfl | rfl | rfl | rfl | rfl | rfl | rfl | rfl | rfl | rfl | rfl | rfl | rfl | rfl | rfl | rfl | rfl | rfl | rfl | rfl | rfl | rfl
 ·exact ⟨of_decide_eq_true (by kernel_rfl),by kernel_rfl,zvl⟩
 ·exact ⟨of_decide_eq_true (by kernel_rfl),by kernel_rfl,zyE⟩
 ·exact ⟨of_decide_eq_true (by kernel_rfl),by kernel_rfl,zrF⟩
 ·exact ⟨of_decide_eq_true (by kernel_rfl),by kernel_rfl,zzN⟩
 ·exact ⟨of_decide_eq_true (by kernel_rfl),by kernel_rfl,zsh⟩
 ·exact ⟨of_decide_eq_true (by kernel_rfl),by kernel_rfl,zAp⟩
 ·exact ⟨of_decide_eq_true (by kernel_rfl),by kernel_rfl,zno⟩
 ·exact ⟨of_decide_eq_true (by kernel_rfl),by kernel_rfl,zmT⟩
 ·exact ⟨of_decide_eq_true (by kernel_rfl),by kernel_rfl,zA8⟩
 ·exact ⟨of_decide_eq_true (by kernel_rfl),by kernel_rfl,zBf⟩
 ·exact ⟨of_decide_eq_true (by kernel_rfl),by kernel_rfl,znZ⟩
 ·exact ⟨of_decide_eq_true (by kernel_rfl),by kernel_rfl,zAn⟩
 ·exact ⟨of_decide_eq_true (by kernel_rfl),by kernel_rfl,zwQ⟩
 ·exact ⟨of_decide_eq_true (by kernel_rfl),by kernel_rfl,zvR⟩
 ·exact ⟨of_decide_eq_true (by kernel_rfl),by kernel_rfl,zA7⟩
 ·exact ⟨of_decide_eq_true (by kernel_rfl),by kernel_rfl,zve⟩
 ·exact ⟨of_decide_eq_true (by kernel_rfl),by kernel_rfl,zvV⟩
 ·exact ⟨of_decide_eq_true (by kernel_rfl),by kernel_rfl,zvO⟩
 ·exact ⟨of_decide_eq_true (by kernel_rfl),by kernel_rfl,zv4⟩
 ·exact ⟨of_decide_eq_true (by kernel_rfl),by kernel_rfl,zv9⟩
 ·exact ⟨of_decide_eq_true (by kernel_rfl),by kernel_rfl,ztz⟩
 ·exact ⟨of_decide_eq_true (by kernel_rfl),by kernel_rfl,ztT⟩
 ·exact ⟨of_decide_eq_true (by kernel_rfl),by kernel_rfl,zwo⟩
 ·exact ⟨of_decide_eq_true (by kernel_rfl),by kernel_rfl,zyJ⟩
 ·exact ⟨of_decide_eq_true (by kernel_rfl),by kernel_rfl,zAo⟩
 ·exact ⟨of_decide_eq_true (by kernel_rfl),by kernel_rfl,zui⟩
 ·exact ⟨of_decide_eq_true (by kernel_rfl),by kernel_rfl,zAa⟩
 ·exact ⟨of_decide_eq_true (by kernel_rfl),by kernel_rfl,zud⟩
 ·exact ⟨of_decide_eq_true (by kernel_rfl),by kernel_rfl,ztl⟩
 ·exact ⟨of_decide_eq_true (by kernel_rfl),by kernel_rfl,zxf⟩
 ·exact ⟨of_decide_eq_true (by kernel_rfl),by kernel_rfl,zwX⟩
 ·exact ⟨of_decide_eq_true (by kernel_rfl),by kernel_rfl,zwb⟩
 ·exact ⟨of_decide_eq_true (by kernel_rfl),by kernel_rfl,zzF⟩
 ·exact ⟨of_decide_eq_true (by kernel_rfl),by kernel_rfl,zwH⟩
 ·exact ⟨of_decide_eq_true (by kernel_rfl),by kernel_rfl,zyF⟩
 ·exact ⟨of_decide_eq_true (by kernel_rfl),by kernel_rfl,zzW⟩
 ·exact ⟨of_decide_eq_true (by kernel_rfl),by kernel_rfl,zvc⟩
 ·exact ⟨of_decide_eq_true (by kernel_rfl),by kernel_rfl,zyk⟩
 ·exact ⟨of_decide_eq_true (by kernel_rfl),by kernel_rfl,zt4⟩
 ·exact ⟨of_decide_eq_true (by kernel_rfl),by kernel_rfl,zsX⟩
 ·exact ⟨of_decide_eq_true (by kernel_rfl),by kernel_rfl,zt3⟩
 ·exact ⟨of_decide_eq_true (by kernel_rfl),by kernel_rfl,zze⟩
 ·exact ⟨of_decide_eq_true (by kernel_rfl),by kernel_rfl,zxg⟩
 ·exact ⟨of_decide_eq_true (by kernel_rfl),by kernel_rfl,zyx⟩
 ·exact ⟨of_decide_eq_true (by kernel_rfl),by kernel_rfl,zxc⟩
 ·exact ⟨of_decide_eq_true (by kernel_rfl),by kernel_rfl,zyj⟩
 ·exact ⟨of_decide_eq_true (by kernel_rfl),by kernel_rfl,zwC⟩
 ·exact ⟨of_decide_eq_true (by kernel_rfl),by kernel_rfl,zsZ⟩
 ·exact ⟨of_decide_eq_true (by kernel_rfl),by kernel_rfl,zwx⟩
 ·exact ⟨of_decide_eq_true (by kernel_rfl),by kernel_rfl,zxv⟩
 ·exact ⟨of_decide_eq_true (by kernel_rfl),by kernel_rfl,zpb⟩
 ·exact ⟨of_decide_eq_true (by kernel_rfl),by kernel_rfl,zyC⟩
 ·exact ⟨of_decide_eq_true (by kernel_rfl),by kernel_rfl,zt9⟩
 ·exact ⟨of_decide_eq_true (by kernel_rfl),by kernel_rfl,zo6⟩
theorem zFh:Tryd.prog.follows .mixedOrders=true:=by kernel_rfl
theorem zFk:zC8 fg=true:=by kernel_rfl
shelf_lay_g Lays8.n4 Nm8 4 at Tryd 38 as growB
theorem zFy:zg4 Tryd.prog (zK fg gls) zqd:=zCF growB (f0:=38) rfl (by kernel_rfl) (by kernel_rfl) (by kernel_rfl)
theorem zFr (L d:Nat):zg4 Tryd.prog (zK fg gls) (evF (zM rows) zqd L d):=zEj zFh zFk zFy zD1 L d
theorem znJ (L:Nat):FOk (zM rows) L 432 (zfE yz L) 1:=zI (D:=0) (by kernel_rfl) fun m hm=>⟨zkd,zkk L,xH,zs9 L⟩
theorem zqY (L:Nat):FOk (zM rows) L 198 (ziu zg L) 1:=zI (D:=0) (by kernel_rfl) fun m hm=>⟨zni,znu L,xH,zvF L⟩
theorem zqw (L:Nat):FOk (zM rows) L 197 (ze5 yG L) 2:=zI (D:=1) (by kernel_rfl) fun m hm=>⟨yW,xW zg L,(zt xH (zqY L m (by omega))),zqa L⟩
theorem zyK (L:Nat):FOk (zM rows) L 170 (zmK y7 L) 3:=zI (D:=2) (by kernel_rfl) fun m hm=>⟨zoC,zo1 yG L,(zt xH (zqw L m (by omega))),zxd L⟩
theorem zrz (L:Nat):FOk (zM rows) L 207 (zfJ zJ L) 2:=zI (D:=1) (by kernel_rfl) fun m hm=>⟨y6,y8 zg L,(zt xH (zqY L m (by omega))),zqH L⟩
theorem zzS (L:Nat):FOk (zM rows) L 195 (zn5 zaF L) 3:=zI (D:=2) (by kernel_rfl) fun m hm=>⟨zqk,zp0 zJ L,(zt xH (zrz L m (by omega))),zyr L⟩
theorem zmZ (L:Nat):FOk (zM rows) L 495 (zbt yq L) 1:=zI (D:=0) (by kernel_rfl) fun m hm=>⟨zej,zei L,xH,zma L⟩
theorem znl (L:Nat):FOk (zM rows) L 459 (zc0 yc L) 1:=zDy (d:=zc0 yc L) (by kernel_rfl) (fun β args bor k r h=>by
 unfold zc0 yc at h
 split at h
 ·obtain ⟨n,rfl,h0,h1,h⟩:=zE1 h
  exact ⟨n,rfl,rfl,h0,h1,h⟩
 ·cases h)
theorem zgq (L:Nat):FOk (zM rows) L 435 (zbf yl L) 2:=zI (D:=1) (by kernel_rfl) fun m hm=>⟨xv,zw yc L,(zt xH (znl L m (by omega))),zlI L⟩
theorem zAk (L:Nat):FOk (zM rows) L 497 (zpk zo L) 1:=zI (D:=0) (by kernel_rfl) fun m hm=>⟨zbv,zbs L,xH,zzl L⟩
theorem zAm (L:Nat):FOk (zM rows) L 496 (zpf yn L) 1:=zI (D:=0) (by kernel_rfl) fun m hm=>⟨zdH,zdA L,xH,zzo L⟩
theorem zg7 (L:Nat):FOk (zM rows) L 572 (zbH xm L) 1:=zI (D:=0) (by kernel_rfl) fun m hm=>⟨zeF,zex L,xH,znb L⟩
theorem ztc (L:Nat):FOk (zM rows) L 535 (zlC yd L) 2:=zI (D:=1) (by kernel_rfl) fun m hm=>⟨zpN,zpT xm L,(zt xH (zg7 L m (by omega))),zyh L⟩
theorem zuZ (L:Nat):FOk (zM rows) L 534 (ziN yo L) 3:=zI (D:=2) (by kernel_rfl) fun m hm=>⟨zD,yD yd L,(zt xH (ztc L m (by omega))),zum L⟩
theorem zvy (L:Nat):FOk (zM rows) L 498 (zi8 yg L) 4:=zI (D:=3) (by kernel_rfl) fun m hm=>⟨za4,zaY yo yd L,(zt (zt xH (zuZ L m (by omega))) (ztc L m (by omega))),zub L⟩
theorem zAe (L:Nat):FOk (zM rows) L 458 (zpt za8 L) 5:=zI (D:=4) (by kernel_rfl) fun m hm=>⟨zaH,zaG zo yn yg L,(zt (zt (zt xH (zAk L m (by omega))) (zAm L m (by omega))) (zvy L m (by omega))),zzI L⟩
theorem znL (L:Nat):FOk (zM rows) L 434 (zfI xz L) 6:=zI (D:=5) (by kernel_rfl) fun m hm=>⟨zj9,zkh yl za8 L,(zt (zt xH (zgq L m (by omega))) (zAe L m (by omega))),ztu L⟩
theorem zuO (L:Nat):FOk (zM rows) L 457 (zi6 yp L) 7:=zI (D:=6) (by kernel_rfl) fun m hm=>⟨zlr,zk1 y7 zaF yq yz xz L,(zt (zt (zt (zt (zt xH (zyK L m (by omega))) (zzS L m (by omega))) (zmZ L m (by omega))) (znJ L m (by omega))) (znL L m (by omega))),zt7 L⟩
theorem zoy (L:Nat):FOk (zM rows) L 433 (zeP xw L) 8:=zI (D:=7) (by kernel_rfl) fun m hm=>⟨zb2,zb5 yp L,(zt xH (zuO L m (by omega))),zuf L⟩
theorem zvu (L:Nat):FOk (zM rows) L 192 (ziW xQ L) 1:=zI (D:=0) (by kernel_rfl) fun m hm=>⟨za6,zaX L,xH,ztR L⟩
theorem zuX (L:Nat):FOk (zM rows) L 191 (ziM zP L) 1:=zI (D:=0) (by kernel_rfl) fun m hm=>⟨zlk,zlE L,xH,zuq L⟩
theorem zr8 (L:Nat):FOk (zM rows) L 157 (zf6 zH L) 2:=zI (D:=1) (by kernel_rfl) fun m hm=>⟨zih,zif xQ zP L,(zt (zt xH (zvu L m (by omega))) (zuX L m (by omega))),zrc L⟩
theorem zm8 (L:Nat):FOk (zM rows) L 414 (zdp ya L) 9:=zI (D:=8) (by kernel_rfl) fun m hm=>⟨zjz,zji yz xw zH xz yl L,(zt (zt (zt (zt (zt xH (znJ L m (by omega))) (zoy L m (by omega))) (zr8 L m (by omega))) (znL L m (by omega))) (zgq L m (by omega))),zse L⟩
theorem zuY (L:Nat):FOk (zM rows) L 415 (zgm ze L) 9:=zI (D:=8) (by kernel_rfl) fun m hm=>⟨zlh,zkP xw L,(zt xH (zoy L m (by omega))),ztY L⟩
theorem zw9 (L:Nat):FOk (zM rows) L 410 (zic zc L) 10:=zI (D:=9) (by kernel_rfl) fun m hm=>⟨znC,znz ya ze L,(zt (zt xH (zm8 L m (by omega))) (zuY L m (by omega))),zv7 L⟩
theorem zs2 (L:Nat):FOk (zM rows) L 225 (ziH xb L) 1:=zI (D:=0) (by kernel_rfl) fun m hm=>⟨zp1,zp4 L,xH,zyy L⟩
theorem zsP (L:Nat):FOk (zM rows) L 247 (zgO zL L) 1:=zI (D:=0) (by kernel_rfl) fun m hm=>⟨zjr,zjk L,xH,zsb L⟩
theorem zsY (L:Nat):FOk (zM rows) L 217 (ziV zd L) 1:=zI (D:=0) (by kernel_rfl) fun m hm=>⟨zqh,zpO L,xH,zyz L⟩
theorem ziq (L:Nat):FOk (zM rows) L 231 (zcr za L) 2:=zI (D:=1) (by kernel_rfl) fun m hm=>⟨zjq,zjs zL zd L,(zt (zt xH (zsP L m (by omega))) (zsY L m (by omega))),zsn L⟩
theorem zr6 (L:Nat):FOk (zM rows) L 274 (zf8 zl L) 3:=zI (D:=2) (by kernel_rfl) fun m hm=>⟨zhX,zip za L,(zt xH (ziq L m (by omega))),zrE L⟩
theorem zpv (L:Nat):FOk (zM rows) L 651 (zfm xa L) 4:=zI (D:=3) (by kernel_rfl) fun m hm=>⟨zbm,zbh zl za L,(zt (zt xH (zr6 L m (by omega))) (ziq L m (by omega))),zuW L⟩
theorem zpm (L:Nat):FOk (zM rows) L 657 (zhb yC L) 1:=zI (D:=0) (by kernel_rfl) fun m hm=>⟨zl8,zl4 L,xH,zvv L⟩
theorem zu5 (L:Nat):FOk (zM rows) L 209 (ziO zS L) 1:=zI (D:=0) (by kernel_rfl) fun m hm=>⟨za5,zaZ L,xH,zut L⟩
theorem zyH (L:Nat):FOk (zM rows) L 200 (zmw z8 L) 2:=zI (D:=1) (by kernel_rfl) fun m hm=>⟨zoL,zox zS L,(zt xH (zu5 L m (by omega))),zw7 L⟩
theorem zoK (L:Nat):FOk (zM rows) L 193 (zgr yk L) 1:=zI (D:=0) (by kernel_rfl) fun m hm=>⟨zkN,zlv L,xH,zua L⟩
theorem zmd (L:Nat):FOk (zM rows) L 453 (ze2 yb L) 2:=zI (D:=1) (by kernel_rfl) fun m hm=>⟨zbJ,zbK yk L,(zt xH (zoK L m (by omega))),zvT L⟩
theorem zyo (L:Nat):FOk (zM rows) L 531 (zmP zj L) 1:=zI (D:=0) (by kernel_rfl) fun m hm=>⟨zY,xX L,xH,zxA L⟩
theorem zus (L:Nat):FOk (zM rows) L 532 (zhQ xe L) 1:=zI (D:=0) (by kernel_rfl) fun m hm=>⟨zkj,zkl L,xH,ztj L⟩
theorem zqS (L:Nat):FOk (zM rows) L 571 (zh6 xd L) 2:=zI (D:=1) (by kernel_rfl) fun m hm=>⟨znD,znh xm L,(zt xH (zg7 L m (by omega))),zvK L⟩
theorem zsN (L:Nat):FOk (zM rows) L 569 (zgI xl L) 3:=zI (D:=2) (by kernel_rfl) fun m hm=>⟨yI,xI xd L,(zt xH (zqS L m (by omega))),zso L⟩
theorem zsd (L:Nat):FOk (zM rows) L 570 (zge yj L) 1:=zI (D:=0) (by kernel_rfl) fun m hm=>⟨zio,ziz L,xH,zrw L⟩
theorem ztd (L:Nat):FOk (zM rows) L 533 (zg1 ye L) 4:=zI (D:=3) (by kernel_rfl) fun m hm=>⟨zav,zaw xl yj xd L,(zt (zt (zt xH (zsN L m (by omega))) (zsd L m (by omega))) (zqS L m (by omega))),zsg L⟩
theorem zyt (L:Nat):FOk (zM rows) L 494 (zmH zak L) 5:=zI (D:=4) (by kernel_rfl) fun m hm=>⟨zZ,yZ zj xe ye L,(zt (zt (zt xH (zyo L m (by omega))) (zus L m (by omega))) (ztd L m (by omega))),zxu L⟩
theorem zpH (L:Nat):FOk (zM rows) L 659 (zha zC L) 6:=zI (D:=5) (by kernel_rfl) fun m hm=>⟨zmb,zmm yb zak L,(zt (zt xH (zmd L m (by omega))) (zyt L m (by omega))),zvp L⟩
theorem zqR (L:Nat):FOk (zM rows) L 130 (ze1 zb L) 1:=zI (D:=0) (by kernel_rfl) fun m hm=>⟨znA,zne L,xH,zvJ L⟩
theorem zvz (L:Nat):FOk (zM rows) L 660 (zjZ yr L) 7:=zI (D:=6) (by kernel_rfl) fun m hm=>⟨zl3,zmr z8 zC yC zb L,(zt (zt (zt (zt xH (zyH L m (by omega))) (zpH L m (by omega))) (zpm L m (by omega))) (zqR L m (by omega))),zvk L⟩
theorem zwY (L:Nat):FOk (zM rows) L 658 (zkU xY L) 8:=zI (D:=7) (by kernel_rfl) fun m hm=>⟨zdb,zdc yr L,(zt xH (zvz L m (by omega))),zvC L⟩
theorem zuN (L:Nat):FOk (zM rows) L 194 (ziF zR L) 1:=zI (D:=0) (by kernel_rfl) fun m hm=>⟨za1,za2 L,xH,zug L⟩
theorem zr7 (L:Nat):FOk (zM rows) L 159 (zgc xG L) 2:=zI (D:=1) (by kernel_rfl) fun m hm=>⟨zij,zh0 zR yk L,(zt (zt xH (zuN L m (by omega))) (zoK L m (by omega))),zq5 L⟩
theorem zoV (L:Nat):FOk (zM rows) L 652 (zgs xc L) 9:=zI (D:=8) (by kernel_rfl) fun m hm=>⟨zld,zkW yC xY xG yb zC L,(zt (zt (zt (zt (zt xH (zpm L m (by omega))) (zwY L m (by omega))) (zr7 L m (by omega))) (zmd L m (by omega))) (zpH L m (by omega))),zur L⟩
theorem zws (L:Nat):FOk (zM rows) L 650 (zjX xf L) 10:=zI (D:=9) (by kernel_rfl) fun m hm=>⟨zbo,zbl xb za xa xc L,(zt (zt (zt (zt xH (zs2 L m (by omega))) (ziq L m (by omega))) (zpv L m (by omega))) (zoV L m (by omega))),zu8 L⟩
theorem zo3 (L:Nat):FOk (zM rows) L 647 (zdD zaj L) 11:=zI (D:=10) (by kernel_rfl) fun m hm=>⟨zy,xx zc xf xb xa zd yb ya xc zb L,(zt (zt (zt (zt (zt (zt (zt (zt (zt xH (zw9 L m (by omega))) (zws L m (by omega))) (zs2 L m (by omega))) (zpv L m (by omega))) (zsY L m (by omega))) (zmd L m (by omega))) (zm8 L m (by omega))) (zoV L m (by omega))) (zqR L m (by omega))),zn9 L⟩
end
section
open Go.ChangeShapes Go.WideShapes Go.RowKit Go.Deep
set_option linter.unusedVariables false
set_option linter.unusedSimpArgs false
inductive CT where
 | int (k:IntKind)
 | bool
 | str
 | sl (cs:List CT)
inductive HasC:CT→V→Prop
 | int (k:IntKind) (n:Int) (h:(Lit.int k n).wf=true):HasC (.int k) (.sc (.int k n))
 | bool (b:Bool):HasC .bool (.sc (.bool b))
 | str (s:ByteArray) (h:s.size≤maxLen):HasC .str (.sc (.string s))
 | sl (cs:List CT) (es:List (List V)) (hl:es.length≤maxLen) (h0:∀ e ∈ es,e.length=cs.length) (h:∀ e ∈ es,∀ (i:Nat) (c:V) (ct:CT),e[i]?=some c→cs[i]?=some ct→HasC ct c):HasC (.sl cs) (.sl cs.length es)
def HasRow (cts:List CT) (vs:List V):Prop:=vs.length=cts.length∧∀ (i:Nat) (c:V) (ct:CT),vs[i]?=some c→cts[i]?=some ct→HasC ct c
def ztQ (f:TypeId→Option (List CT)) (size:TypeId→Nat):List Field→Nat→Option (List CT)
 | [],_=>some []
 | x::xs,off=>do
  let a ← f x.type
  if x.offset=off∧size x.type=a.length then
   let b ← ztQ f size xs (off+a.length)
   some (a++b)
  else none
def zl5 (P:Program):Nat→TypeId→Option (List CT)
 | 0,_=>none
 | d+1,t=>match P.underlying t with
  | some .bool=>some [.bool]
  | some (.int k)=>some [.int k]
  | some .string=>some [.str]
  | some (.slice e)=>do
   let c ← zl5 P d e
   if P.cellsOf e=c.length∧0 < c.length then some [.sl c] else none
  | some (.array n e)=>do
   let c ← zl5 P d e
   if P.cellsOf e=c.length∧P.cellsOf t=n * c.length then some (List.replicate n c).flatten else none
  | some (.struct fs)=>do
   let c ← ztQ (zl5 P d) P.cellsOf fs.toList 0
   if P.cellsOf t=c.length then some c else none
  | _=>none
section
variable {H:Type} {enc:TypeId × Value→H} {P:Program} {w:World} {base:Nat} {spare:Nat→Bool} {held:Bool} {ren:Rn}
def RdC (ren:Rn) (w:World) (cts:List CT) (cs:List Value) (vs:List V):Prop :=
 cs.length=cts.length∧vs.length=cts.length∧∀ (i:Nat) (u:Value) (v:V) (ct:CT),cs[i]?=some u→vs[i]?=some v→cts[i]?=some ct→u.oneCell'=true∧RepP ren w zhy v u∧HasC ct v
theorem RdC.one {ct:CT} {u:Value} {v:V} (h1:u.oneCell'=true) (h2:RepP ren w zhy v u) (h3:HasC ct v):RdC ren w [ct] [u] [v]:=by
 refine ⟨rfl,rfl,fun i u' v' ct' hu hv hc=>?_⟩
 cases i with
 | zero=>simp at hu hv hc; subst hu; subst hv; subst hc; exact ⟨h1,h2,h3⟩
 | succ i=>simp at hu
theorem RdC.nil:RdC ren w [] [] []:=⟨rfl,rfl,fun i u v ct h=>by simp at h⟩
theorem RdC.app {c1 c2:List CT} {a1 a2:List Value} {b1 b2:List V} (h1:RdC ren w c1 a1 b1) (h2:RdC ren w c2 a2 b2):RdC ren w (c1++c2) (a1++a2) (b1++b2):=by
 obtain ⟨l1,m1,q1⟩:=h1
 obtain ⟨l2,m2,q2⟩:=h2
 refine ⟨by simp [l1,l2],by simp [m1,m2],fun i u v ct hu hv hc=>?_⟩
 by_cases hi:i < c1.length
 ·rw [List.getElem?_append_left (by omega)] at hu hv hc
  exact q1 i u v ct hu hv hc
 ·rw [List.getElem?_append_right (by omega)] at hu hv hc
  rw [l1] at hu; rw [m1] at hv
  exact q2 _ u v ct hu hv hc
theorem RdC.row {cts:List CT} {cs:List Value} {vs:List V} (h:RdC ren w cts cs vs):HasRow cts vs:=by
 refine ⟨h.2.1,fun i c ct hc ht=>?_⟩
 have hlt:i < cs.length:=by rw [h.1,← h.2.1]; exact (List.getElem?_eq_some_iff.1 hc).1
 exact (h.2.2 i _ c ct (List.getElem?_eq_getElem hlt) hc ht).2.2
theorem zs6 {f:TypeId→Option (List CT)} {size:TypeId→Nat} {cs:List Value} (rd:∀ (t:TypeId) (cts:List CT),f t=some cts→∀ x ∈ ([]:List Nat),True) :
  ∀ (fs:List Field) (off:Nat) (cts:List CT),ztQ f size fs off=some cts→(∀ x ∈ fs,∀ a,f x.type=some a→∃ vs,RdC ren w a ((cs.drop x.offset).take (size x.type)) vs)→∃ vs,RdC ren w cts ((cs.drop off).take cts.length) vs
 | [],off,cts,h,_=>by
  cases h
  exact ⟨[],by simpa using RdC.nil⟩
 | x::xs,off,cts,h,H=>by
  simp only [ztQ,Option.bind_eq_bind,Option.bind_eq_some_iff] at h
  obtain ⟨a,ha,h⟩:=h
  split at h
  ·rename_i hc
   simp only [Option.bind_eq_some_iff,Option.some.injEq] at h
   obtain ⟨b,hb,rfl⟩:=h
   obtain ⟨vs1,r1⟩:=H x (by simp) a ha
   obtain ⟨vs2,r2⟩:=zs6 rd xs _ b hb (fun y hy=>H y (by simp [hy]))
   refine ⟨vs1++vs2,?_⟩
   have e:(cs.drop off).take (a++b).length=(cs.drop x.offset).take (size x.type)++(cs.drop (off+a.length)).take b.length:=by
    rw [hc.1,hc.2,List.length_append,List.take_add,List.drop_drop]
   rw [e]
   exact r1.app r2
  ·cases h
theorem zuB {cs:List Value} {c:List CT}:∀ (n m:Nat),(∀ i,i < n→∃ vs,RdC ren w c ((cs.drop ((m+i) * c.length)).take c.length) vs)→∃ vs,RdC ren w (List.replicate n c).flatten ((cs.drop (m * c.length)).take (n * c.length)) vs
 | 0,m,H=>⟨[],by simpa using RdC.nil⟩
 | n+1,m,H=>by
  obtain ⟨vs1,r1⟩:=H 0 (by omega)
  obtain ⟨vs2,r2⟩:=zuB n (m+1) (fun i hi=>by
   obtain ⟨vs,r⟩:=H (i+1) (by omega)
   exact ⟨vs,by rw [show m+1+i=m+(i+1) by omega]; exact r⟩)
  refine ⟨vs1++vs2,?_⟩
  have e:(cs.drop (m * c.length)).take ((n+1) * c.length)=(cs.drop ((m+0) * c.length)).take c.length++(cs.drop ((m+1) * c.length)).take (n * c.length):=by
   rw [Nat.add_zero,Nat.add_mul n,Nat.one_mul,Nat.add_comm (n * c.length),List.take_add,List.drop_drop,show (m+1) * c.length=m * c.length+c.length by rw [Nat.add_mul,Nat.one_mul]]
   rw [show m+0=m from rfl]
  rw [e,List.replicate_succ,List.flatten_cons]
  exact r1.app r2
theorem zzf {α:Type} {n:Nat}:∀ (es:List (List α)),(∀ e ∈ es,e.length=n)→0 < n→∀ (i:Nat),es.flatten[i]?=(es[i / n]?).bind (fun e=>e[i % n]?)
 | [],_,_,i=>by simp
 | e::es,h,hn,i=>by
  have he:=h e (by simp)
  rw [List.flatten_cons]
  by_cases hi:i < n
  ·rw [List.getElem?_append_left (by omega),Nat.div_eq_of_lt hi,Nat.mod_eq_of_lt hi]; simp
  ·rw [List.getElem?_append_right (by omega),zzf es (fun x hx=>h x (by simp [hx])) hn,he]
   obtain ⟨j,rfl⟩:∃ j,i=j+n:=⟨i - n,by omega⟩
   rw [Nat.add_sub_cancel,Nat.add_div_right _ hn,Nat.add_mod_right]
   simp
theorem zoR:∀ (d:Nat) (t:TypeId) (cts:List CT),zl5 P d t=some cts→∀ (fuel:Nat) (cs:List Value) (x:DataW H × List MemPlace),DataW.trod enc P w base spare held fuel t cs=some x→∃ vs,RdC ren w cts cs vs
 | 0,t,cts,h,fuel,cs,x,hx=>by cases h
 | d+1,t,cts,h,fuel,cs,x,hx=>by
  unfold zl5 at h
  split at h
  ·rename_i ht
   cases h
   obtain ⟨b,rfl,_⟩:=DataW.trod_bool ht hx
   exact ⟨[.sc (.bool b)],.one rfl (.sc _ rfl) (.bool b)⟩
  ·rename_i k ht
   cases h
   obtain ⟨n,rfl,_,hw⟩:=DataW.trod_int ht hx
   exact ⟨[.sc (.int k n)],.one rfl (.sc _ rfl) (.int k n hw)⟩
  ·rename_i ht
   cases h
   obtain ⟨s,rfl,_,hw⟩:=DataW.trod_string ht hx
   exact ⟨[.sc (.string s)],.one rfl (.sc _ rfl) (.str s hw)⟩
  ·rename_i e ht
   simp only [Option.bind_eq_bind,Option.bind_eq_some_iff] at h
   obtain ⟨c,hc,h⟩:=h
   split at h
   ·rename_i hsz
    obtain ⟨hsz,hpos⟩:=hsz
    cases h
    rcases open_slice ht hx with ⟨rfl,_⟩ | ⟨a,len,cap,m,n,D,Pl,rfl,_,hl,hm,hmm,_,hi⟩
    ·refine ⟨[.sl c.length []],.one rfl (.sl _ [] none 0 (fun _=>undef) (Nat.le_refl _) (by simp) 0 0 (by simp) (by simp) (by simp) (by simp)) (.sl c [] (by simp) (by simp) (by simp))⟩
    ·have hlm:len≤m:=by rw [hmm]; split <;> omega
     have each:∀ i,i < len→∃ (us:List Value) (vs:List V),RdC ren w c us vs∧∀ j,j < c.length→w.cell? ((a.add (i * c.length)).add j)=us[j]?:=by
      intro i hil
      obtain ⟨cs',h1,h2⟩:=hi i (by omega)
      rw [hsz] at h1
      obtain ⟨_,hcl,hat⟩:=World.cells?_some h1
      obtain ⟨vs,r⟩:=zoR d e c hc _ _ _ h2
      exact ⟨cs',vs,r,hat⟩
     have hex:∃ (us:Nat→List Value) (vs:Nat→List V),∀ i,i < len→RdC ren w c (us i) (vs i)∧∀ j,j < c.length→w.cell? ((a.add (i * c.length)).add j)=(us i)[j]?:=by
      have:∀ i,∃ p:List Value × List V,i < len→RdC ren w c p.1 p.2∧∀ j,j < c.length→w.cell? ((a.add (i * c.length)).add j)=p.1[j]?:=by
       intro i
       by_cases hil:i < len
       ·obtain ⟨us,vs,q⟩:=each i hil; exact ⟨(us,vs),fun _=>q⟩
       ·exact ⟨([],[]),fun h=>absurd h hil⟩
      refine ⟨fun i=>(Classical.choose (this i)).1,fun i=>(Classical.choose (this i)).2,fun i hil=>Classical.choose_spec (this i) hil⟩
     obtain ⟨us,vs,hrow⟩:=hex
     have hget:∀ i,i < len→((List.range len).map vs)[i]?=some (vs i):=fun i hil=>by simp [hil]
     have hsz2:∀ e ∈ (List.range len).map vs,e.length=c.length:=by
      intro e he
      obtain ⟨i,hil,rfl⟩:=List.mem_map.1 he
      exact (hrow i (List.mem_range.1 hil)).1.2.1
     have cell:∀ (i:Nat) (v:V),((List.range len).map vs).flatten[i]?=some v→0 < c.length∧i / c.length < len∧(vs (i / c.length))[i % c.length]?=some v∧∃ u,(us (i / c.length))[i % c.length]?=some u∧u.oneCell'=true∧RepP ren w zhy v u∧w.cell? ((a.add (i / c.length * c.length)).add (i % c.length))=some u:=by
      intro i v hv
      have hpos:0 < c.length:=by
       rcases Nat.eq_zero_or_pos c.length with h0 | h0
       ·have:((List.range len).map vs).flatten=[]:=by
         rw [List.flatten_eq_nil_iff]
         intro l hl'
         exact List.length_eq_zero_iff.1 ((hsz2 l hl').trans h0)
        rw [this] at hv; simp at hv
       ·exact h0
      rw [zzf _ hsz2 hpos] at hv
      have hlt:i / c.length < len:=by
       cases hq:((List.range len).map vs)[i / c.length]? with
       | none=>rw [hq] at hv; simp at hv
       | some e=>have:=(List.getElem?_eq_some_iff.1 hq).1; simpa using this
      rw [hget _ hlt] at hv
      have hv:(vs (i / c.length))[i % c.length]?=some v:=hv
      have hr:=hrow _ hlt
      have hm:=Nat.mod_lt i hpos
      have hu:(us (i / c.length))[i % c.length]?=some ((us (i / c.length))[i % c.length]'(by rw [hr.1.1]; exact hm)):=List.getElem?_eq_getElem _
      obtain ⟨q1,q2,q3⟩:=hr.1.2.2 _ _ _ _ hu hv (List.getElem?_eq_getElem hm)
      exact ⟨hpos,hlt,hv,_,hu,q1,q2,by rw [hr.2 _ hm]; exact hu⟩
     have spot:((List.range len).map vs).flatten≠[]→a.spot=none:=by
      intro hne
      have hl0:0 < ((List.range len).map vs).flatten.length:=List.length_pos_iff.2 hne
      obtain ⟨_,_,_,u,_,_,_,hcell⟩:=cell 0 _ (List.getElem?_eq_getElem hl0)
      have hcell:w.cell? a=some u:=by simpa [Addr.add] using hcell
      unfold World.cell? at hcell
      split at hcell
      ·split at hcell
       ·cases hcell
       ·rename_i hs; simpa using hs
      ·cases hcell
     have addr:((List.range len).map vs).flatten≠[]→a=⟨a.block,a.off,none⟩:=by
      intro hne
      have:=spot hne
      cases a; simp_all
     have addto:∀ i v,((List.range len).map vs).flatten[i]?=some v→(a.add (i / c.length * c.length)).add (i % c.length)=⟨a.block,a.off+i,none⟩:=by
      intro i v hv
      have hne:((List.range len).map vs).flatten≠[]:=by intro h0; rw [h0] at hv; simp at hv
      rw [addr hne,zdj,zdj]
      have:=Nat.div_add_mod i c.length
      rw [Nat.mul_comm] at this
      show (⟨a.block,a.off+i / c.length * c.length+i % c.length,none⟩:Addr)=⟨a.block,a.off+i,none⟩
      congr 1; omega
     have hcap:len≤maxLen:=by omega
     have hlen:((List.range len).map vs).length=len:=by simp
     have rp:RepP ren w zhy (.sl c.length ((List.range len).map vs)) (.slice (some a) ((List.range len).map vs).length cap):=by
      by_cases hne:((List.range len).map vs).flatten=[]
      ·
       have:(List.range len).map vs=[]:=by
        cases hes:(List.range len).map vs with
        | nil=>rfl
        | cons e es =>
         have h1:=hsz2 e (by rw [hes]; simp)
         rw [hes,List.flatten_cons,List.append_eq_nil_iff] at hne
         rw [hne.1] at h1
         simp at h1; omega
       rw [this]
       exact .sl _ [] (some a) cap (fun _=>undef) (Nat.zero_le _) (by simp) 0 0 (by simp) (by simp) (by simp) (by simp)
      ·refine .sl _ _ (some a) cap (fun i=>(w.cell? ⟨a.block,a.off+i,none⟩).getD undef) (by rw [hlen]; exact hl) hsz2 a.block a.off (fun _=>by rw [← addr hne]) (fun i v hv=>?_) (fun i v hv=>?_) (fun i v hv=>?_) <;>
        (obtain ⟨hpos,hlt,hv',u,hu,q1,q2,hcell⟩:=cell i v hv
         rw [addto i v hv] at hcell
         simp only [hcell,Option.getD_some])
       ·exact ⟨fun h=>h,trivial⟩
       ·exact q1
       ·exact q2
     refine ⟨[.sl c.length ((List.range len).map vs)],.one rfl (by rw [hlen] at rp; exact rp) (.sl c _ (by rw [hlen]; exact hcap) hsz2 (fun e he i v ct hv hct=>?_))⟩
     obtain ⟨q,hq,rfl⟩:=List.mem_map.1 he
     exact (hrow q (List.mem_range.1 hq)).1.row.2 i v ct hv hct
   ·cases h
  ·rename_i n e ht
   simp only [Option.bind_eq_bind,Option.bind_eq_some_iff] at h
   obtain ⟨c,hc,h⟩:=h
   split at h
   ·rename_i hsz
    cases h
    obtain ⟨xs,m,_,_,hl,hxl,hi⟩:=DataW.trod_array ht hx
    have:=zuB (ren:=ren) (w:=w) (cs:=cs) (c:=c) n 0 (fun i hin=>by
     have:=hi i hin
     rw [List.getElem?_eq_getElem (by omega)] at this
     rw [hsz.1] at this
     obtain ⟨vs,r⟩:=zoR d e c hc _ _ _ this
     exact ⟨vs,by rw [Nat.zero_add]; exact r⟩)
    rw [Nat.zero_mul,List.drop_zero,List.take_of_length_le (by omega)] at this
    exact this
   ·cases h
  ·rename_i fs ht
   simp only [Option.bind_eq_bind,Option.bind_eq_some_iff] at h
   obtain ⟨c,hc,h⟩:=h
   split at h
   ·rename_i hsz
    cases h
    obtain ⟨xs,m,_,_,hl,hxl,hi⟩:=DataW.trod_struct ht hx
    have:=zs6 (ren:=ren) (w:=w) (cs:=cs) (fun _ _ _ _ h=>by cases h) fs.toList 0 cts hc (fun y hy a ha=>by
     obtain ⟨i,hil,rfl⟩:=List.getElem_of_mem hy
     have hil':i < fs.size:=by simpa using hil
     have:=hi i fs[i] (Array.getElem?_eq_getElem hil')
     rw [List.getElem?_eq_getElem (by omega)] at this
     exact zoR d _ a ha _ _ _ (by simpa using this))
    rw [List.drop_zero,List.take_of_length_le (by omega)] at this
    exact this
   ·cases h
  ·cases h
theorem zEr {r:Reach} {b0:Nat} {t:TypeId} {v:Value} {dd:DataW H} {p:List MemPlace} {cts:List CT} {d:Nat} (hagg:zau P t=some true) (hv:Value.okWide P w r b0 t v) (h:DataW.Trod enc P w base spare held t v dd p) (hc:zl5 P d t=some cts) :
  ∃ vs,HasRow cts vs∧RepP ren w zhy (.agg vs) v:=by
 obtain ⟨fuel,hf⟩:=h
 obtain ⟨vs,rd⟩:=zoR (ren:=ren) d t cts hc _ _ _ hf
 have:∃ us:Array Value,v=.agg us:=by
  unfold zau at hagg
  cases hu:P.underlying t with
  | none=>simp [hu] at hagg
  | some T =>
   simp only [Value.okWide,hu] at hv
   cases T <;> simp [hu] at hagg
   ·obtain ⟨us,h1,_⟩:=hv; exact ⟨us,h1⟩
   ·obtain ⟨us,h1,_⟩:=hv; exact ⟨us,h1⟩
 obtain ⟨us,rfl⟩:=this
 have rd:RdC ren w cts us.toList vs:=rd
 refine ⟨vs,rd.row,?_⟩
 have key:=RepP.agg (ren:=ren) (w:=w) (Wr:=zhy) vs us.toList (by rw [rd.1,rd.2.1]) (fun i c u hc hu=>(rd.2.2 i u c _ hu hc (List.getElem?_eq_getElem (by rw [← rd.1]; exact (List.getElem?_eq_some_iff.1 hu).1))).2.1) (fun u hu=>by
  obtain ⟨i,hi,rfl⟩:=List.getElem_of_mem hu
  have h1:i < vs.length:=by rw [rd.2.1,← rd.1]; exact hi
  have h2:i < cts.length:=by rw [← rd.1]; exact hi
  exact (rd.2.2 i _ _ _ (List.getElem?_eq_getElem hi) (List.getElem?_eq_getElem h1) (List.getElem?_eq_getElem h2)).1)
 simpa using key
theorem zAz {r:Reach} {b0:Nat} {t:TypeId} {v:Value} {dd:DataW H} {p:List MemPlace} {ct:CT} {d:Nat} (hv1:v.cells=#[v]) (h:DataW.Trod enc P w base spare held t v dd p) (hc:zl5 P d t=some [ct]) :
  ∃ x,HasC ct x∧RepP ren w zhy x v:=by
 obtain ⟨fuel,hf⟩:=h
 obtain ⟨vs,rd⟩:=zoR (ren:=ren) d t [ct] hc _ _ _ hf
 rw [hv1] at rd
 have hl:vs.length=1:=rd.2.1
 obtain ⟨x,rfl⟩:∃ x,vs=[x]:=by
  match vs,hl with
  | [x],_=>exact ⟨x,rfl⟩
 obtain ⟨q1,q2,q3⟩:=rd.2.2 0 v x ct rfl rfl rfl
 exact ⟨x,q3,q2⟩
theorem HasC.int_inv {k:IntKind} {v:V} (h:HasC (.int k) v):∃ n,v=.sc (.int k n)∧(Lit.int k n).wf=true:=by
 cases h with | int _ n h=>exact ⟨n,rfl,h⟩
theorem HasC.sl_inv {cs:List CT} {v:V} (h:HasC (.sl cs) v):∃ es,v=.sl cs.length es∧es.length≤maxLen∧∀ e ∈ es,HasRow cs e:=by
 cases h with | sl _ es hl h0 h=>exact ⟨es,rfl,hl,fun e he=>⟨h0 e he,h e he⟩⟩
end
def ztC:V→Bor→Option Bool:=fun v _=>match v with
 | .sc (.bool true)=>some true
 | _=>none
theorem zCi {v:V} {b:Bor} (h:ztC v b=some true):v=.sc (.bool true):=by
 unfold ztC at h
 split at h
 ·rfl
 ·cases h
end
section
set_option linter.unusedVariables false
set_option linter.unusedSimpArgs false
section
variable {β:Type}
theorem zk {α:Type} (a:α) (k:α→Option β):lt a k=k a:=Eq.trans rfl rfl
theorem zf {p:Prop} {inst:Decidable p} (h:p) (k:Option β):@chk β p inst k=k:=(zhf p k).trans (if_pos h)
theorem zwf {inst:Decidable True} (k:Option β):@chk β True inst k=k:=(zhf True k).trans (if_pos trivial)
theorem ziy (a b:Option β):ifb true a b=a:=rfl
theorem zeO (a b:Option β):ifb false a b=b:=rfl
theorem zw6 {p:Prop} {inst:Decidable p} (a b:Option β):ifb (@decide p inst) a b=if p then a else b:=by
 by_cases h:p <;> simp [ifb,h]
theorem zO {p:Prop} {inst:Decidable p} (h:p) (a b:Option β):ifb (@decide p inst) a b=a:=by rw [zw6,if_pos h]
theorem xL {p:Prop} {inst:Decidable p} (h:¬ p) (a b:Option β):ifb (@decide p inst) a b=b:=by rw [zw6,if_neg h]
theorem zqC {kd:IntKind} {cs:List V} {off:Nat} {n:Int} (h:cs[off]?=some (.sc (.int kd n))) (k:Int→Option β):cI kd cs off k=k n:=by
 simp [cI,zeU,h,aI,zwf]
theorem ztD {sz:Nat} {cs:List V} {off:Nat} {es:List (List V)} (h:cs[off]?=some (.sl sz es)) (k:List (List V)→Option β):cL sz cs off k=k es:=by
 simp [cL,zeU,h,aL,zwf]
theorem zDE {sz:Nat} {cs:List V} {off:Nat} {es:List (List V)} (h:cs[off]?=some (.sl sz es)) (k:List (List V)→Option β):cLd sz cs off k=k es:=by
 simp [cLd,zeU,h,aLd,zwf]
theorem zDM {es:List (List V)} {j:Int} {c:List V} (h0:0≤j) (h:es[j.toNat]?=some c) (k:List V→Option β):idx es j k=k c:=by
 simp [idx,h0,h,zwf]
theorem zfn {es:List (List V)} {j:Nat} {c:List V} (h:es[j]?=some c) (k:List V→Option β):idx es (j:Int) k=k c :=
 zDM (Int.natCast_nonneg j) (by simpa using h) k
end
theorem yy {n:Int} (h1:-9223372036854775808≤n) (h2:n≤9223372036854775807):IntKind.wrap .i64 n=n:=IntWalk.i64_in _ ⟨h1,h2⟩
theorem zzO {k:IntKind} {n:Int} (hk:k.signed=false) (h1:0≤n) (h2:n < 2 ^ k.bits):IntKind.wrap k n=n:=by
 unfold IntKind.wrap
 simp only [hk,Bool.false_and,Bool.false_eq_true,if_false]
 exact Int.emod_eq_of_lt h1 h2
theorem zds {n:Int} (h1:0≤n) (h2:n≤18446744073709551615):IntKind.wrap .u64 n=n:=zzO rfl h1 (Int.lt_of_le_of_lt h2 (by decide))
theorem zdn {n:Int} (h1:0≤n) (h2:n≤4294967295):IntKind.wrap .u32 n=n:=zzO rfl h1 (Int.lt_of_le_of_lt h2 (by decide))
theorem zEt {n:Int} (h1:0≤n) (h2:n≤255):IntKind.wrap .u8 n=n:=zzO rfl h1 (Int.lt_of_le_of_lt h2 (by decide))
theorem zFo {n:Int} (h:(Lit.int .u8 n).wf=true):0≤n∧n≤255:=by
 simpa [Lit.wf,IntKind.min,IntKind.max,IntKind.signed,IntKind.bits] using h
def zn (k:IntKind) (l:List Int):List (List V):=l.map fun n=>[.sc (.int k n)]
theorem zx (k:IntKind) (l:List Int):(zn k l).length=l.length:=by simp [zn]
theorem zzj (k:IntKind) {l:List Int} {i:Nat} (h:i < l.length):(zn k l)[i]?=some [.sc (.int k l[i])]:=by simp [zn,h]
theorem zx3 (k:IntKind) (l:List Int) (i:Nat):(zn k l).drop i=zn k (l.drop i):=by simp [zn,List.map_drop]
theorem zh2 (k:IntKind) (l:List Int) (i:Nat):(zn k l).take i=zn k (l.take i):=by simp [zn,List.map_take]
theorem zcL (k:IntKind) (l m:List Int):zn k l++zn k m=zn k (l++m):=by simp [zn]
theorem HasRow.int1 {k:IntKind} {e:List V} (h:HasRow [.int k] e):∃ n,e=[.sc (.int k n)]∧(Lit.int k n).wf=true:=by
 obtain ⟨h1,h2⟩:=h
 match e,h1 with
 | [v],_ =>
  obtain ⟨n,rfl,hn⟩:=(h2 0 v _ rfl rfl).int_inv
  exact ⟨n,rfl,hn⟩
theorem ztA {k:IntKind}:∀ {es:List (List V)},(∀ e ∈ es,HasRow [.int k] e)→∃ l:List Int,es=zn k l∧∀ n ∈ l,(Lit.int k n).wf=true
 | [],_=>⟨[],rfl,by simp⟩
 | e::es,h=>by
  obtain ⟨n,rfl,hn⟩:=(h e (by simp)).int1
  obtain ⟨l,rfl,hl⟩:=ztA (es:=es) (fun x hx=>h x (by simp [hx]))
  exact ⟨n::l,rfl,by simpa [hn] using hl⟩
def row (k:IntKind) (l:List Int):List V:=l.map fun n=>.sc (.int k n)
theorem xu (k:IntKind) (l:List Int):(row k l).length=l.length:=by simp [row]
theorem zrG (k:IntKind):∀ (n:Nat) (l:List Int),n≤l.length→yh 1 n (row k l)=zn k (l.take n)
 | 0,l,_=>by simp [yh,zn]
 | n+1,[],h=>by simp at h
 | n+1,x::l,h=>by
  have:=zrG k n l (by simpa using h)
  simp only [row] at this
  simp [yh,row,zn,this]
theorem zDa (k:IntKind) (l:List Int) (i:Nat):(row k l).drop i=row k (l.drop i):=by simp [row,List.map_drop]
theorem zDF (k:IntKind) (l:List Int) (i:Nat):(row k l).take i=row k (l.take i):=by simp [row,List.map_take]
end
section
set_option linter.unusedVariables false
set_option linter.unusedSimpArgs false
theorem zbF {cs new:List V} (h:new.length=cs.length):xn cs 0 new=new:=by
 simp [xn,h]
theorem zBT {cs:List V} {off:Nat} {v:V} (h:off < cs.length):xn cs off [v]=cs.set off v:=by
 simp only [xn,List.length_singleton]
 rw [List.set_eq_take_append_cons_drop,if_pos h]
 simp
theorem zuK {sz:Nat}:∀ {es:List (List V)},(∀ e ∈ es,e.length=sz)→yh sz es.length es.flatten=es
 | [],_=>rfl
 | e::es,h=>by
  have he:=h e (by simp)
  have:=zuK (es:=es) (fun x hx=>h x (by simp [hx]))
  simp only [List.length_cons,yh,List.flatten_cons]
  rw [List.take_append_of_le_length (by omega),List.take_of_length_le (by omega),List.drop_append_of_le_length (by omega),List.drop_of_length_le (by omega),List.nil_append,this]
theorem zsB (k:IntKind):∀ (l m:List Int),l.length=m.length→zgp (row k l) (row k m)=some (decide (l=m))
 | [],[],_=>rfl
 | x::l,y::m,h=>by
  have:=zsB k l m (by simpa using h)
  simp only [row] at this
  simp only [row,List.map_cons,zgp,if_true,this,Option.map_some]
  congr 1
  by_cases h1:x=y <;> by_cases h2:l=m <;> simp [h1,h2]
theorem zEu {β:Type} (k:IntKind) {n:Nat} {l m:List Int} (h1:l.length=n) (h2:m.length=n) (κ:Bool→Option β):eqC n (row k l) (row k m) κ=κ (decide (l=m)):=by
 simp only [eqC,xu,h1,h2,and_self,zwf,zsB k l m (by omega)]
theorem zzB {β:Type} {p:Prop} {inst:Decidable p} (a b:Option β):ifb (!(@decide p inst)) a b=if p then b else a:=by
 by_cases h:p <;> simp [ifb,h]
theorem zdV {β:Type} (x y:Int) (a b:Option β):ifb (x != y) a b=if x=y then b else a:=by
 by_cases h:x=y
 ·subst h; simp [ifb]
 ·rw [bne_iff_ne.2 h,if_neg h]; rfl
end
section
set_option linter.unusedVariables false
set_option linter.unusedSimpArgs false
def zFT {α:Type} (p:α→Bool):List α→Nat→Int
 | [],_=>-1
 | x::l,i=>if p x=true then (i:Int) else zFT p l (i+1)
theorem zaM {i:Nat} (h:i≤1000000000):IntKind.wrap .i64 ((i:Int)+1)=((i+1:Nat):Int):=by
 rw [yy (by omega) (by omega)]; omega
end
end Go.Proofs.YteopmmegeagklaaDoor
