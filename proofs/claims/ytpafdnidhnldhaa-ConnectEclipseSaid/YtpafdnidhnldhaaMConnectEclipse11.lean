/- Part 11 of the proof of ConnectEclipse: an abstract machine over plain values, its soundness, and the functions of the program on plain values. -/
import Derived.Test.YtpafdnidhnldhaaMConnectEclipse10
namespace Go.Proofs.Ytpafdnidhnldhaa
section
set_option maxRecDepth 100000
set_option linter.unusedVariables false
set_option linter.unusedSimpArgs false
def zpN:CC:=(.seq (.seq (.reg [oo 24 (.move (tq 9) false),
   oo 25 (.move (tq 7) false),
   oo 26 (.lenS (tq 25)),
   oo 27 (.bin .lss (tq 24) (tq 26))])
 (.cond (tq 27)
 .skip
 (.seq (.mask (bl 256 47) (bl 87892143635959 47))
 (.exit 1))))
 (.seq (.block 2 (.seq (.reg [oo 30 (.move (tq 1) false),
   oo 31 (.move (tq 7) false),
   oo 32 (.move (tq 9) false),
   oo 33 (.indexAddrS 5 (tq 31) (tq 32)),
   oo 34 (.fieldAddr 1 (tq 33)),
   oo 35 (.load true 3 (tq 34) false),
   oo 36 (.call 283 [((tq 30),0),((tq 35),0)] []),
   oo 37 (.un .not (tq 36))])
 (.cond (tq 37)
 (.reg [oo 38 (.move (tq 8) true),
   oo 39 (.move (tq 7) false),
   oo 40 (.move (tq 9) false),
   oo 41 (.indexAddrS 5 (tq 39) (tq 40)),
   oo 42 (.fieldAddr 1 (tq 41)),
   oo 43 (.load true 3 (tq 42) false),
   oo 44 (.buildSlice 3 1 [(.sc (.int .u32 0)),(.sc (.int .u16 0)),(.sc (.int .u32 0))] [(0,3,(tq 43))]),
   oo 45 (.append 3 12 (tq 38) (tq 44)),
   oo 8 (.move (tq 45) true)])
 .skip)))
 (.reg [oo 28 (.move (tq 9) false),
   oo 29 (.bin .add (tq 28) (.const (.sc (.int .i64 1)))),
   oo 9 (.move (tq 29) false)])))
def zss:CC:=(.seq (.reg [oo 46 (.move (tq 8) true),
   oo 6 (.move (tq 46) true)])
 .ret)
def zoc:CF:=⟨47,[.tmp 6],
 (.seq (.reg [oo 3 (.box true (tq 0)),
   oo 6 (.move (.const (.gs 3 [])) true)])
 (.seq (.reg [oo 7 (.move (.const (.gs 5 [])) true)])
 (.seq (.seq (.reg [oo 10 (.move (tq 2) false)])
 (.block 0 (.seq (.reg [oo 12 (.bin .eql (tq 10) (.const (.sc (.int .i64 2)))),
   oo 11 (.move (tq 12) false)])
 (.cond (tq 11)
 (.dreg [] [(oo 13 (.buildSlice 5 0 [(.sc (.int .i64 0)),(.sc (.int .u32 0)),(.sc (.int .u16 0)),(.sc (.int .u32 0)),(.sc (.int .u32 0))] []),qn [3] []),
   (oo 14 (.fieldAddr 33 (tq 3)),q0),
   (oo 15 (.load false 1 (tq 14) false),ql 3 [] [13]),
   (oo 16 (.append 5 24 (tq 13) (tq 15)),qn [3] []),
   (oo 17 (.fieldAddr 32 (tq 3)),q0),
   (oo 18 (.load false 1 (tq 17) false),ql 3 [] [13,16]),
   (oo 19 (.append 5 24 (tq 16) (tq 18)),q0),
   (oo 7 (.move (tq 19) false),q0)])
 (.seq (.reg [oo 21 (.bin .eql (tq 10) (.const (.sc (.int .i64 3)))),
   oo 20 (.move (tq 21) false)])
 (.cond (tq 20)
 (.reg [oo 22 (.fieldAddr 32 (tq 3)),
   oo 23 (.load false 1 (tq 22) false),
   oo 7 (.move (tq 23) false)])
 .skip))))))
 (.seq (.reg [oo 8 (.move (.const (.gs 3 [])) true)])
 (.seq (.seq (.reg [oo 9 (.move (.const (.sc (.int .i64 0))) false)])
 (.block 1 (.loop (bl 898 47) (bl 87892143636471 47)
 zpN)))
 zss)))))⟩
def zmr:Hint:=⟨[(0,0),(0,1),(1,0),(7,0),(12,0),(12,8),(13,0),(13,1)],[],[none,none,none,none,some ((bl 898 47),(bl 87892143636471 47)),none,some ((bl 256 47),(bl 87892143635959 47)),none,none,none],[],[],false,false⟩
def zGA:Nat→Sh:=zP [(15,(.sl 5)),(18,(.sl 5)),(23,(.sl 5))]
def zGC (zo:xN) (L:Nat):CBC:=(zw 283 (zp9 zo L) noC)
def zDw:St→St:=zae 0 (bl 898 47) (bl 87892143636471 47)
def zB2 (p1 p7 p8:List (List V)) (p9:Int):St:=⟨(jn 1 ((V.sl 4 p1)::(jn 5 ((V.sl 5 p7)::((V.gs 3 p8)::((V.sc (.int .i64 p9))::(jn 37 []))))))),(gn 47 [])⟩
def zAd (p1 p7 p8:List (List V)) (p9:Int):St:=⟨(jn 1 ((V.sl 4 p1)::(jn 5 ((V.gs 5 p7)::((V.gs 3 p8)::((V.sc (.int .i64 p9))::(jn 37 []))))))),(gn 47 [])⟩
def zET (p8:List (List V)):St:=⟨(jn 8 ((V.gs 3 p8)::(jn 38 []))),(gn 47 [])⟩
abbrev ziw (β:Type):Type:=List (List V)→List (List V)→List (List V)→Int→Option β
abbrev zht (β:Type):Type:=List (List V)→List (List V)→List (List V)→Int→Option β
def zwC {β:Type} (zo:xN) (L:Nat) (p0:List V) (p1:List (List V)) (p2:Int) (k_hbbbbaba:ziw β) (k_hbbbbabav1:zht β):Option β :=
 ifb ((p2:Int) == (2:Int)) (
 cLd 5 p0 33 fun v0 =>
 chk ((List.length ([]:List (List V))+List.length v0) * 24≤zs∧List.length ([]:List (List V))+List.length v0≤zs) (
 lt (([]:List (List V))++v0) fun l1 =>
 cLd 5 p0 32 fun v2 =>
 chk ((List.length l1+List.length v2) * 24≤zs∧List.length l1+List.length v2≤zs) (
 lt (l1++v2) fun l3 =>
 k_hbbbbaba p1 l3 ([]:List (List V)) (0:Int)))) (
 ifb ((p2:Int) == (3:Int)) (
 cLd 5 p0 32 fun v4 =>
 k_hbbbbaba p1 v4 ([]:List (List V)) (0:Int)) (
 k_hbbbbabav1 p1 ([]:List (List V)) ([]:List (List V)) (0:Int)))
def zqU {β:Type} (zo:xN) (L:Nat) (p1 p7 p8:List (List V)) (p9:Int) (k_hbbbbaba:ziw β) (k_x1:List (List V)→Option β):Option β :=
 ifb (decide (p9 < ((List.length p7:Nat):Int))) (
 idx p7 p9 fun c5 =>
 zo β L p1 (List.take 3 (List.drop 1 c5)) (fun v6 =>
 ifb (!v6) (
 idx p7 p9 fun c7 =>
 chk ((List.length (List.take 3 (List.drop 1 c7)))=3∧0+3≤3) (
 chk ((List.length p8+List.length (yl 3 1 (xg [(V.sc (.int .u32 (0:Int))),(V.sc (.int .u16 (0:Int))),(V.sc (.int .u32 (0:Int)))] 0 (List.take 3 (List.drop 1 c7))))) * 12≤zs∧List.length p8+List.length (yl 3 1 (xg [(V.sc (.int .u32 (0:Int))),(V.sc (.int .u16 (0:Int))),(V.sc (.int .u32 (0:Int)))] 0 (List.take 3 (List.drop 1 c7))))≤zs) (
 lt (p8++(yl 3 1 (xg [(V.sc (.int .u32 (0:Int))),(V.sc (.int .u16 (0:Int))),(V.sc (.int .u32 (0:Int)))] 0 (List.take 3 (List.drop 1 c7))))) fun l8 =>
 lt (IntKind.wrap .i64 ((p9:Int)+(1:Int))) fun x9 =>
 k_hbbbbaba p1 p7 l8 x9))) (
 lt (IntKind.wrap .i64 ((p9:Int)+(1:Int))) fun x10 =>
 k_hbbbbaba p1 p7 p8 x10))) (
 k_x1 p8)
def zpw {β:Type} (zo:xN) (L:Nat) (p1 p7 p8:List (List V)) (p9:Int) (k_hbbbbabav1:zht β) (k_x1:List (List V)→Option β):Option β :=
 ifb (decide (p9 < ((List.length p7:Nat):Int))) (
 idx p7 p9 fun c11 =>
 zo β L p1 (List.take 3 (List.drop 1 c11)) (fun v12 =>
 ifb (!v12) (
 idx p7 p9 fun c13 =>
 chk ((List.length (List.take 3 (List.drop 1 c13)))=3∧0+3≤3) (
 chk ((List.length p8+List.length (yl 3 1 (xg [(V.sc (.int .u32 (0:Int))),(V.sc (.int .u16 (0:Int))),(V.sc (.int .u32 (0:Int)))] 0 (List.take 3 (List.drop 1 c13))))) * 12≤zs∧List.length p8+List.length (yl 3 1 (xg [(V.sc (.int .u32 (0:Int))),(V.sc (.int .u16 (0:Int))),(V.sc (.int .u32 (0:Int)))] 0 (List.take 3 (List.drop 1 c13))))≤zs) (
 lt (p8++(yl 3 1 (xg [(V.sc (.int .u32 (0:Int))),(V.sc (.int .u16 (0:Int))),(V.sc (.int .u32 (0:Int)))] 0 (List.take 3 (List.drop 1 c13))))) fun l14 =>
 lt (IntKind.wrap .i64 ((p9:Int)+(1:Int))) fun x15 =>
 k_hbbbbabav1 p1 p7 l14 x15))) (
 lt (IntKind.wrap .i64 ((p9:Int)+(1:Int))) fun x16 =>
 k_hbbbbabav1 p1 p7 p8 x16))) (
 k_x1 p8)
def zpC {β:Type} (zo:xN) (L:Nat) (p8:List (List V)) (k_fin:List (List V)→Option β):Option β :=
 k_fin p8
def zn6 {β:Type} (zo:xN) (L:Nat) (p8:List (List V)) (k_fin:List (List V)→Option β):Option β :=
 k_fin p8
def zi1 {β:Type} (zo:xN) (L:Nat) (k_x1:List (List V)→Option β):Nat→List (List V)→List (List V)→List (List V)→Int→Option β
 | 0,_,_,_,_=>none
 | n+1,p1,p7,p8,p9=>zqU zo L p1 p7 p8 p9 (fun p1 p7 p8 p9=>zi1 zo L k_x1 n p1 p7 p8 p9) k_x1
def zhD {β:Type} (zo:xN) (L:Nat) (k_x1:List (List V)→Option β):Nat→List (List V)→List (List V)→List (List V)→Int→Option β
 | 0,_,_,_,_=>none
 | n+1,p1,p7,p8,p9=>zpw zo L p1 p7 p8 p9 (fun p1 p7 p8 p9=>zhD zo L k_x1 n p1 p7 p8 p9) k_x1
def zwI {β:Type} (zo:xN) (L:Nat) (p0:List V) (p1:List (List V)) (p2:Int) (k_fin:List (List V)→Option β):Option β :=
 zwC zo L p0 p1 p2 (fun p1 p7 p8 p9=>zi1 zo L (fun p8=>zpC zo L p8 k_fin) L p1 p7 p8 p9) (fun p1 p7 p8 p9=>zhD zo L (fun p8=>zn6 zo L p8 k_fin) L p1 p7 p8 p9)
abbrev xC:=∀ (β:Type),Nat→List V→List (List V)→Int→(List (List V)→Option β)→Option β
def zh (β:Type) (L:Nat) (p0:List V) (p1:List (List V)) (p2:Int) (k_fin:List (List V)→Option β):Option β:=zwI zo L p0 p1 p2 k_fin
def zpK (zh:xC) (L:Nat) (β:Type) (args:List V) (bor:Bor) (k:KK β):Option β:=match args,bor with
 | [a0,a1,a2],[]=>aG a0 fun p0=>aL 4 a1 fun p1=>aI .i64 a2 fun p2=>zh β L p0 p1 p2 (fun p0=>k (V.gs 3 p0) [])
 | _,_=>none
def ztn:CC:=(.seq (.seq (.reg [oo 28 (.move (tq 11) false),
   oo 29 (.move (tq 1) false),
   oo 30 (.lenS (tq 29)),
   oo 31 (.bin .lss (tq 28) (tq 30)),
   oo 32 (.move (tq 31) false),
   ⟨(some 33),false,(some (32,true)),.move (tq 2) false⟩,
   ⟨(some 34),false,(some (32,true)),.call 282 [((tq 33),0),((.const (.sc (.int .i64 1))),0)] []⟩,
   ⟨(some 35),false,(some (32,true)),.bin .lss (tq 34) (.const (.sc (.int .i64 2)))⟩,
   oo 36 (.pick (tq 32) (tq 35) (.const (.sc (.bool false)))),
   oo 37 (.move (tq 36) false),
   ⟨(some 38),false,(some (37,true)),.move (tq 2) false⟩,
   ⟨(some 39),false,(some (37,true)),.lenS (tq 38)⟩,
   ⟨(some 40),false,(some (37,true)),.bin .lss (tq 39) (.const (.sc (.int .i64 8)))⟩,
   oo 41 (.pick (tq 37) (tq 40) (.const (.sc (.bool false))))])
 (.cond (tq 41)
 .skip
 (.seq (.mask (bl 1308 88) (bl 309485009820781550761932287 88))
 (.exit 0))))
 (.seq (.block 1 (.seq (.reg [oo 44 (.move (tq 2) false),
   oo 45 (.move (tq 1) false),
   oo 46 (.move (tq 11) false),
   oo 47 (.indexAddrS 3 (tq 45) (tq 46)),
   oo 48 (.load true 3 (tq 47) false),
   oo 49 (.call 283 [((tq 44),0),((tq 48),0)] []),
   oo 50 (.un .not (tq 49))])
 (.cond (tq 50)
 (.seq (.reg [oo 51 (.move (tq 1) false),
   oo 52 (.move (tq 11) false),
   oo 53 (.indexAddrS 3 (tq 51) (tq 52)),
   oo 54 (.load true 3 (tq 53) false),
   oo 55 (.build [(.sc (.int .i64 0)),(.sc (.int .u32 0)),(.sc (.int .u16 0)),(.sc (.int .u32 0))] [(0,1,(.const (.sc (.int .i64 1)))),(1,3,(tq 54))]),
   oz (.store 4 (tq 8) (tq 55)),
   oo 9 (.move (.const (.sc (.int .i64 0))) false)])
 (.seq (.mask (bl 768 88) (bl 309485009820781550761932783 88))
 .ret))
 .skip)))
 (.reg [oo 42 (.move (tq 11) false),
   oo 43 (.bin .add (tq 42) (.const (.sc (.int .i64 1)))),
   oo 11 (.move (tq 43) false)])))
def zv8:CC:=(.seq (.seq (.reg [oo 56 (.move (tq 2) false),
   oo 57 (.lenS (tq 56)),
   oo 58 (.bin .geq (tq 57) (.const (.sc (.int .i64 8)))),
   oo 59 (.move (tq 58) false),
   ⟨(some 60),false,(some (59,false)),.move (tq 10) false⟩,
   ⟨(some 61),false,(some (59,false)),.bin .eql (tq 60) (.const (.sc (.int .i64 3)))⟩,
   ⟨(some 62),false,(some (59,false)),.move (tq 61) false⟩,
   ⟨(some 63),false,(some (62,true)),.move (tq 2) false⟩,
   ⟨(some 64),false,(some (62,true)),.call 282 [((tq 63),0),((.const (.sc (.int .i64 3))),0)] []⟩,
   ⟨(some 65),false,(some (62,true)),.bin .gtr (tq 64) (.const (.sc (.int .i64 0)))⟩,
   ⟨(some 66),false,(some (59,false)),.pick (tq 62) (tq 65) (.const (.sc (.bool false)))⟩,
   oo 67 (.pick (tq 59) (.const (.sc (.bool true))) (tq 66))])
 (.cond (tq 67)
 (.seq (.reg [oo 68 (.build [(.sc (.int .i64 0)),(.sc (.int .u32 0)),(.sc (.int .u16 0)),(.sc (.int .u32 0))] []),
   oz (.store 4 (tq 8) (tq 68)),
   oo 9 (.move (.const (.sc (.int .i64 380))) false)])
 .ret)
 .skip))
 (.seq (.reg [oo 69 (.load true 34 (tq 4) false),
   oo 70 (.move (tq 2) false),
   oo 71 (.move (tq 10) false),
   oo 72 (.call 267 [((tq 69),1),((tq 70),0),((tq 71),0)] []),
   oo 12 (.move (tq 72) false)])
 (.seq (.seq (.reg [oo 73 (.move (tq 12) false),
   oo 74 (.lenS (tq 73)),
   oo 75 (.bin .eql (tq 74) (.const (.sc (.int .i64 0))))])
 (.cond (tq 75)
 (.seq (.reg [oo 76 (.build [(.sc (.int .i64 0)),(.sc (.int .u32 0)),(.sc (.int .u16 0)),(.sc (.int .u32 0))] []),
   oz (.store 4 (tq 8) (tq 76)),
   oo 9 (.move (.const (.sc (.int .i64 390))) false)])
 .ret)
 .skip))
 (.seq (.reg [oo 77 (.move (tq 10) false),
   oo 78 (.move (tq 12) false),
   oo 79 (.move (tq 3) false),
   oo 80 (.move (tq 12) false),
   oo 81 (.lenS (tq 80)),
   oo 82 (.conv .u64 (tq 81)),
   oo 83 (.bin .rem (tq 79) (tq 82)),
   oo 84 (.conv .i64 (tq 83)),
   oo 85 (.indexAddrS 3 (tq 78) (tq 84)),
   oo 86 (.load true 3 (tq 85) false),
   oo 87 (.build [(.sc (.int .i64 0)),(.sc (.int .u32 0)),(.sc (.int .u16 0)),(.sc (.int .u32 0))] [(0,1,(tq 77)),(1,3,(tq 86))]),
   oz (.store 4 (tq 8) (tq 87)),
   oo 9 (.move (.const (.sc (.int .i64 0))) false)])
 .ret))))
def zsR:CF:=⟨88,[.cell 8 true 4,.tmp 9],
 (.seq (.reg [oo 4 (.box true (tq 0)),
   oo 8 (.alloc true [(.sc (.int .i64 0)),(.sc (.int .u32 0)),(.sc (.int .u16 0)),(.sc (.int .u32 0))]),
   oo 9 (.move (.const (.sc (.int .i64 0))) false)])
 (.seq (.seq (.reg [oo 13 (.move (tq 2) false),
   oo 14 (.call 280 [((tq 13),0)] []),
   oo 15 (.un .not (tq 14)),
   oo 16 (.move (tq 15) false),
   ⟨(some 17),false,(some (16,false)),.load true 34 (tq 4) false⟩,
   ⟨(some 18),false,(some (16,false)),.call 281 [((tq 17),1)] []⟩,
   ⟨(some 19),false,(some (16,false)),.un .not (tq 18)⟩,
   oo 20 (.pick (tq 16) (.const (.sc (.bool true))) (tq 19))])
 (.cond (tq 20)
 (.seq (.reg [oo 21 (.build [(.sc (.int .i64 0)),(.sc (.int .u32 0)),(.sc (.int .u16 0)),(.sc (.int .u32 0))] []),
   oz (.store 4 (tq 8) (tq 21)),
   oo 9 (.move (.const (.sc (.int .i64 6))) false)])
 .ret)
 .skip))
 (.seq (.reg [oo 10 (.move (.const (.sc (.int .i64 3))) false)])
 (.seq (.seq (.reg [oo 22 (.move (tq 2) false),
   oo 23 (.lenS (tq 22)),
   oo 24 (.move (tq 2) false),
   oo 25 (.call 282 [((tq 24),0),((.const (.sc (.int .i64 3))),0)] []),
   oo 26 (.bin .sub (tq 23) (tq 25)),
   oo 27 (.bin .lss (tq 26) (.const (.sc (.int .i64 7))))])
 (.cond (tq 27)
 (.reg [oo 10 (.move (.const (.sc (.int .i64 2))) false)])
 .skip))
 (.seq (.seq (.reg [oo 11 (.move (.const (.sc (.int .i64 0))) false)])
 (.block 0 (.loop (bl 3358 88) (bl 309485009820781550761934335 88)
 ztn)))
 zv8)))))⟩
def zqj:Hint:=⟨[(0,0)],[],[none,none,none,none,some ((bl 3358 88),(bl 309485009820781550761934335 88)),none,some ((bl 1308 88),(bl 309485009820781550761932287 88)),none,none,some ((bl 768 88),(bl 309485009820781550761932783 88)),none,none,none,none,none],[],[],false,false⟩
def zIW:Nat→Sh:=zP []
def zIM (y9:zdD) (yv:zaT) (yV:zdE) (zo:xN) (zh:xC) (L:Nat):CBC:=(zw 267 (zpK zh L) (zw 283 (zp9 zo L) (zw 282 (zDg yV L) (zw 281 (zf2 yv L) (zw 280 (zDk y9 L) noC)))))
def zFp:St→St:=zae 0 (bl 3358 88) (bl 309485009820781550761934335 88)
def zEH (p1 p2:List (List V)) (p3 p10 p11:Int) (b4:List V) (zKV zKW zKX zKY:Int):St:=⟨(jn 1 ((V.sl 3 p1)::((V.sl 4 p2)::((V.sc (.int .u64 p3))::((V.ptr 4 0)::(jn 3 ((V.ptr 8 0)::(jn 1 ((V.sc (.int .i64 p10))::((V.sc (.int .i64 p11))::(jn 76 []))))))))))),(gn 4 ((.live true b4)::(gn 3 ((.live true [(V.sc (.int .i64 zKV)),(V.sc (.int .u32 zKW)),(V.sc (.int .u16 zKX)),(V.sc (.int .u32 zKY))])::(gn 79 [])))))⟩
def zGz (p9:Int) (b8:List V):St:=⟨(jn 8 ((V.ptr 8 0)::((V.sc (.int .i64 p9))::(jn 78 [])))),(gn 8 ((.live true b8)::(gn 79 [])))⟩
def zHI (p2:List (List V)) (p3 p10:Int) (b4:List V) (zKV zKW zKX zKY:Int):St:=⟨(jn 2 ((V.sl 4 p2)::((V.sc (.int .u64 p3))::((V.ptr 4 0)::(jn 3 ((V.ptr 8 0)::(jn 1 ((V.sc (.int .i64 p10))::(jn 77 []))))))))),(gn 4 ((.live true b4)::(gn 3 ((.live true [(V.sc (.int .i64 zKV)),(V.sc (.int .u32 zKW)),(V.sc (.int .u16 zKX)),(V.sc (.int .u32 zKY))])::(gn 79 [])))))⟩
abbrev zlH (β:Type):Type:=List (List V)→List (List V)→Int→Int→Int→List V→Int→Int→Int→Int→Option β
abbrev zrn (β:Type):Type:=List (List V)→Int→Int→List V→Int→Int→Int→Int→Option β
def zBi {β:Type} (y9:zdD) (yv:zaT) (yV:zdE) (zo:xN) (zh:xC) (L:Nat) (p0:List V) (p1 p2:List (List V)) (p3:Int) (k_fin:List V→Int→Option β) (k_hbbbbaba:zlH β):Option β :=
 y9 β L p2 (fun v0 =>
 ifb (!v0) (
 lt [(V.sc (.int .i64 (0:Int))),(V.sc (.int .u32 (0:Int))),(V.sc (.int .u16 (0:Int))),(V.sc (.int .u32 (0:Int)))] fun r1 =>
 chk (0=0∧(List.length r1)=4∧4≠0) (
 k_fin r1 (6:Int))) (
 chk (0+34≤(List.length p0)) (
 yv β L (List.map V.dem (List.take 34 p0)) (fun v2 =>
 ifb (!v2) (
 lt [(V.sc (.int .i64 (0:Int))),(V.sc (.int .u32 (0:Int))),(V.sc (.int .u16 (0:Int))),(V.sc (.int .u32 (0:Int)))] fun r3 =>
 chk (0=0∧(List.length r3)=4∧4≠0) (
 k_fin r3 (6:Int))) (
 yV β L p2 (3:Int) (fun v4 =>
 lt (IntKind.wrap .i64 ((((List.length p2:Nat):Int):Int) - v4)) fun x5 =>
 ifb (decide (x5 < (7:Int))) (
 k_hbbbbaba p1 p2 p3 (2:Int) (0:Int) p0 (0:Int) (0:Int) (0:Int) (0:Int)) (
 k_hbbbbaba p1 p2 p3 (3:Int) (0:Int) p0 (0:Int) (0:Int) (0:Int) (0:Int))))))))
def zuz {β:Type} (y9:zdD) (yv:zaT) (yV:zdE) (zo:xN) (zh:xC) (L:Nat) (p1 p2:List (List V)) (p3 p10 p11:Int) (b4:List V) (zKV zKW zKX zKY:Int) (k_ret:Int→List V→Option β) (k_hbbbbaba:zlH β) (k_x0:zrn β):Option β :=
 ifb (decide (p11 < ((List.length p1:Nat):Int))) (
 yV β L p2 (1:Int) (fun v6 =>
 ifb (decide (v6 < (2:Int))) (
 ifb (decide (((List.length p2:Nat):Int) < (8:Int))) (
 idx p1 p11 fun c7 =>
 zo β L p2 (List.take 3 c7) (fun v8 =>
 ifb (!v8) (
 idx p1 p11 fun c9 =>
 chk ((List.length (List.take 3 c9))=3∧1+3≤4) (
 chk ((List.length (xg [(V.sc (.int .i64 (1:Int))),(V.sc (.int .u32 (0:Int))),(V.sc (.int .u16 (0:Int))),(V.sc (.int .u32 (0:Int)))] 1 (List.take 3 c9)))=4∧0+4≤4) (
 lt (xg [(V.sc (.int .i64 zKV)),(V.sc (.int .u32 zKW)),(V.sc (.int .u16 zKX)),(V.sc (.int .u32 zKY))] 0 (xg [(V.sc (.int .i64 (1:Int))),(V.sc (.int .u32 (0:Int))),(V.sc (.int .u16 (0:Int))),(V.sc (.int .u32 (0:Int)))] 1 (List.take 3 c9))) fun r10 =>
 k_ret (0:Int) r10))) (
 lt (IntKind.wrap .i64 ((p11:Int)+(1:Int))) fun x11 =>
 k_hbbbbaba p1 p2 p3 p10 x11 b4 zKV zKW zKX zKY))) (
 k_x0 p2 p3 p10 b4 zKV zKW zKX zKY)) (
 k_x0 p2 p3 p10 b4 zKV zKW zKX zKY))) (
 k_x0 p2 p3 p10 b4 zKV zKW zKX zKY)
def zrq {β:Type} (y9:zdD) (yv:zaT) (yV:zdE) (zo:xN) (zh:xC) (L:Nat) (p9:Int) (b8:List V) (k_fin:List V→Int→Option β):Option β :=
 chk (0=0∧(List.length b8)=4∧4≠0) (
 k_fin b8 p9)
def zst {β:Type} (y9:zdD) (yv:zaT) (yV:zdE) (zo:xN) (zh:xC) (L:Nat) (p2:List (List V)) (p3 p10:Int) (b4:List V) (zKV zKW zKX zKY:Int) (k_fin:List V→Int→Option β):Option β :=
 ifb (decide (((List.length p2:Nat):Int) ≥ (8:Int))) (
 lt [(V.sc (.int .i64 (0:Int))),(V.sc (.int .u32 (0:Int))),(V.sc (.int .u16 (0:Int))),(V.sc (.int .u32 (0:Int)))] fun r12 =>
 chk (0=0∧(List.length r12)=4∧4≠0) (
 k_fin r12 (380:Int))) (
 ifb ((p10:Int) == (3:Int)) (
 yV β L p2 (3:Int) (fun v13 =>
 ifb (decide (v13 > (0:Int))) (
 lt [(V.sc (.int .i64 (0:Int))),(V.sc (.int .u32 (0:Int))),(V.sc (.int .u16 (0:Int))),(V.sc (.int .u32 (0:Int)))] fun r14 =>
 chk (0=0∧(List.length r14)=4∧4≠0) (
 k_fin r14 (380:Int))) (
 chk (0+34≤(List.length b4)) (
 zh β L (List.map V.dem (List.take 34 b4)) p2 p10 (fun v15 =>
 ifb ((((List.length v15:Nat):Int):Int) == (0:Int)) (
 lt [(V.sc (.int .i64 (0:Int))),(V.sc (.int .u32 (0:Int))),(V.sc (.int .u16 (0:Int))),(V.sc (.int .u32 (0:Int)))] fun r16 =>
 chk (0=0∧(List.length r16)=4∧4≠0) (
 k_fin r16 (390:Int))) (
 lt (IntKind.wrap .u64 ((List.length v15:Nat):Int)) fun x17 =>
 chk (x17≠0) (
 lt (Int.tmod p3 x17) fun x18 =>
 lt (IntKind.wrap .i64 x18) fun x19 =>
 idx v15 x19 fun c20 =>
 chk ((List.length (List.take 3 c20))=3∧1+3≤4) (
 chk ((List.length (xg [(V.sc (.int .i64 p10)),(V.sc (.int .u32 (0:Int))),(V.sc (.int .u16 (0:Int))),(V.sc (.int .u32 (0:Int)))] 1 (List.take 3 c20)))=4∧0+4≤4) (
 lt (xg [(V.sc (.int .i64 zKV)),(V.sc (.int .u32 zKW)),(V.sc (.int .u16 zKX)),(V.sc (.int .u32 zKY))] 0 (xg [(V.sc (.int .i64 p10)),(V.sc (.int .u32 (0:Int))),(V.sc (.int .u16 (0:Int))),(V.sc (.int .u32 (0:Int)))] 1 (List.take 3 c20))) fun r21 =>
 chk (0=0∧(List.length r21)=4∧4≠0) (
 k_fin r21 (0:Int))))))))))) (
 chk (0+34≤(List.length b4)) (
 zh β L (List.map V.dem (List.take 34 b4)) p2 p10 (fun v22 =>
 ifb ((((List.length v22:Nat):Int):Int) == (0:Int)) (
 lt [(V.sc (.int .i64 (0:Int))),(V.sc (.int .u32 (0:Int))),(V.sc (.int .u16 (0:Int))),(V.sc (.int .u32 (0:Int)))] fun r23 =>
 chk (0=0∧(List.length r23)=4∧4≠0) (
 k_fin r23 (390:Int))) (
 lt (IntKind.wrap .u64 ((List.length v22:Nat):Int)) fun x24 =>
 chk (x24≠0) (
 lt (Int.tmod p3 x24) fun x25 =>
 lt (IntKind.wrap .i64 x25) fun x26 =>
 idx v22 x26 fun c27 =>
 chk ((List.length (List.take 3 c27))=3∧1+3≤4) (
 chk ((List.length (xg [(V.sc (.int .i64 p10)),(V.sc (.int .u32 (0:Int))),(V.sc (.int .u16 (0:Int))),(V.sc (.int .u32 (0:Int)))] 1 (List.take 3 c27)))=4∧0+4≤4) (
 lt (xg [(V.sc (.int .i64 zKV)),(V.sc (.int .u32 zKW)),(V.sc (.int .u16 zKX)),(V.sc (.int .u32 zKY))] 0 (xg [(V.sc (.int .i64 p10)),(V.sc (.int .u32 (0:Int))),(V.sc (.int .u16 (0:Int))),(V.sc (.int .u32 (0:Int)))] 1 (List.take 3 c27))) fun r28 =>
 chk (0=0∧(List.length r28)=4∧4≠0) (
 k_fin r28 (0:Int))))))))))
def zmF {β:Type} (y9:zdD) (yv:zaT) (yV:zdE) (zo:xN) (zh:xC) (L:Nat) (k_ret:Int→List V→Option β) (k_x0:zrn β):Nat→List (List V)→List (List V)→Int→Int→Int→List V→Int→Int→Int→Int→Option β
 | 0,_,_,_,_,_,_,_,_,_,_=>none
 | n+1,p1,p2,p3,p10,p11,b4,zKV,zKW,zKX,zKY=>zuz y9 yv yV zo zh L p1 p2 p3 p10 p11 b4 zKV zKW zKX zKY k_ret (fun p1 p2 p3 p10 p11 b4 zKV zKW zKX zKY=>zmF y9 yv yV zo zh L k_ret k_x0 n p1 p2 p3 p10 p11 b4 zKV zKW zKX zKY) k_x0
def zBG {β:Type} (y9:zdD) (yv:zaT) (yV:zdE) (zo:xN) (zh:xC) (L:Nat) (p0:List V) (p1 p2:List (List V)) (p3:Int) (k_fin:List V→Int→Option β):Option β :=
 zBi y9 yv yV zo zh L p0 p1 p2 p3 k_fin (fun p1 p2 p3 p10 p11 b4 zKV zKW zKX zKY=>zmF y9 yv yV zo zh L (fun p9 b8=>zrq y9 yv yV zo zh L p9 b8 k_fin) (fun p2 p3 p10 b4 zKV zKW zKX zKY=>zst y9 yv yV zo zh L p2 p3 p10 b4 zKV zKW zKX zKY k_fin) L p1 p2 p3 p10 p11 b4 zKV zKW zKX zKY)
abbrev z8:=∀ (β:Type),Nat→List V→List (List V)→List (List V)→Int→(List V→Int→Option β)→Option β
def yy (β:Type) (L:Nat) (p0:List V) (p1 p2:List (List V)) (p3:Int) (k_fin:List V→Int→Option β):Option β:=zBG y9 yv yV zo zh L p0 p1 p2 p3 k_fin
def zBw (yy:z8) (L:Nat) (β:Type) (args:List V) (bor:Bor) (k:KK β):Option β:=match args,bor with
 | [a0,a1,a2,a3],[]=>aG a0 fun p0=>aL 3 a1 fun p1=>aL 4 a2 fun p2=>aI .u64 a3 fun p3=>yy β L p0 p1 p2 p3 (fun zL8 zL9=>k (V.tup [(V.agg zL8),(V.sc (.int .i64 zL9))]) [])
 | _,_=>none
def zsq:CC:=(.seq (.seq (.reg [oo 11 (.move (tq 5) false),
   oo 12 (.move (tq 0) false),
   oo 13 (.lenS (tq 12)),
   oo 14 (.bin .lss (tq 11) (tq 13))])
 (.cond (tq 14)
 .skip
 (.seq (.mask (bl 0 26) (bl 67100623 26))
 (.exit 0))))
 (.seq (.block 1 (.seq (.dreg [] [(oo 17 (.move (tq 0) false),q0),
   (oo 18 (.move (tq 5) false),q0),
   (oo 19 (.indexAddrS 3 (tq 17) (tq 18)),q0),
   (oo 20 (.load true 3 (tq 19) false),q1),
   (oo 21 (.move (tq 1) false),q0),
   (oo 22 (.move (tq 5) false),q0),
   (oo 23 (.indexAddrS 3 (tq 21) (tq 22)),q0),
   (oo 24 (.load true 3 (tq 23) false),q1),
   (oo 25 (.eqAgg true 3 (tq 20) (tq 24)),q0)])
 (.cond (tq 25)
 (.seq (.reg [oo 4 (.move (.const (.sc (.bool false))) false)])
 (.seq (.mask (bl 16 26) (bl 67100639 26))
 .ret))
 .skip)))
 (.reg [oo 15 (.move (tq 5) false),
   oo 16 (.bin .add (tq 15) (.const (.sc (.int .i64 1)))),
   oo 5 (.move (tq 16) false)])))
def zuN:CC:=(.seq (.reg [oo 4 (.move (.const (.sc (.bool true))) false)])
 .ret)
def zpn:CF:=⟨26,[.tmp 4],
 (.seq (.reg [oo 4 (.move (.const (.sc (.bool false))) false)])
 (.seq (.seq (.reg [oo 6 (.move (tq 0) false),
   oo 7 (.lenS (tq 6)),
   oo 8 (.move (tq 1) false),
   oo 9 (.lenS (tq 8)),
   oo 10 (.bin .neq (tq 7) (tq 9))])
 (.cond (tq 10)
 (.seq (.reg [oo 4 (.move (.const (.sc (.bool false))) false)])
 .ret)
 .skip))
 (.seq (.seq (.reg [oo 5 (.move (.const (.sc (.int .i64 0))) false)])
 (.block 0 (.loop (bl 35 26) (bl 67100655 26)
 zsq)))
 zuN)))⟩
def zmO:Hint:=⟨[],[],[none,none,none,some ((bl 35 26),(bl 67100655 26)),none,some ((bl 0 26),(bl 67100623 26)),none,none,some ((bl 16 26),(bl 67100639 26)),none],[],[],false,false⟩
def zGS:Nat→Sh:=zP []
def zGE (L:Nat):CBC:=noC
def zER:St→St:=zae 0 (bl 35 26) (bl 67100655 26)
def zDy (p0 p1:List (List V)) (p5:Int):St:=⟨((V.sl 3 p0)::((V.sl 3 p1)::(jn 3 ((V.sc (.int .i64 p5))::(jn 20 []))))),(gn 26 [])⟩
def zEU (p4:Bool):St:=⟨(jn 4 ((V.sc (.bool p4))::(jn 21 []))),(gn 26 [])⟩
def zE9:St:=⟨(jn 26 []),(gn 26 [])⟩
def zx7 {β:Type} (L:Nat) (p0 p1:List (List V)) (k_fin:Bool→Option β) (k_hbbaba:List (List V)→List (List V)→Int→Option β):Option β :=
 ifb ((((List.length p0:Nat):Int):Int) != ((List.length p1:Nat):Int)) (
 k_fin false) (
 k_hbbaba p0 p1 (0:Int))
def ztj {β:Type} (L:Nat) (p0 p1:List (List V)) (p5:Int) (k_ret:Bool→Option β) (k_hbbaba:List (List V)→List (List V)→Int→Option β) (k_x0:Option β):Option β :=
 ifb (decide (p5 < ((List.length p0:Nat):Int))) (
 idx p0 p5 fun c0 =>
 idx p1 p5 fun c1 =>
 eqC 3 (List.take 3 c0) (List.take 3 c1) fun v2 =>
 ifb (!v2) (
 k_ret false) (
 lt (IntKind.wrap .i64 ((p5:Int)+(1:Int))) fun x3 =>
 k_hbbaba p0 p1 x3)) (
 k_x0)
def zqF {β:Type} (L:Nat) (p4:Bool) (k_fin:Bool→Option β):Option β :=
 k_fin p4
def zrL {β:Type} (L:Nat) (k_fin:Bool→Option β):Option β :=
 k_fin true
def zlm {β:Type} (L:Nat) (k_ret:Bool→Option β) (k_x0:Option β):Nat→List (List V)→List (List V)→Int→Option β
 | 0,_,_,_=>none
 | n+1,p0,p1,p5=>ztj L p0 p1 p5 k_ret (fun p0 p1 p5=>zlm L k_ret k_x0 n p0 p1 p5) k_x0
def zyo {β:Type} (L:Nat) (p0 p1:List (List V)) (k_fin:Bool→Option β):Option β :=
 zx7 L p0 p1 k_fin (fun p0 p1 p5=>zlm L (fun p4=>zqF L p4 k_fin) (zrL L k_fin) L p0 p1 p5)
abbrev zR:=∀ (β:Type),Nat→List (List V)→List (List V)→(Bool→Option β)→Option β
def xq (β:Type) (L:Nat) (p0 p1:List (List V)) (k_fin:Bool→Option β):Option β:=zyo L p0 p1 k_fin
def zxX (xq:zR) (L:Nat) (β:Type) (args:List V) (bor:Bor) (k:KK β):Option β:=match args,bor with
 | [a0,a1],[]=>aL 3 a0 fun p0=>aL 3 a1 fun p1=>xq β L p0 p1 (fun p0=>k (V.sc (.bool p0)) [])
 | _,_=>none
def zgJ:CC:=(.seq (.reg [oo 81 (.bin .lss (tq 80) (tq 79))])
 (.seq (.cond (tq 81)
 .skip
 (.seq (.mask (bl 246290604623110 96) (bl 71645779773641383409786208191 96))
 (.exit 4)))
 (.seq (.block 5 (.seq (.reg [oo 82 (.indexAddrS 1 (tq 78) (tq 80)),
   oo 83 (.load false 1 (tq 82) false),
   oo 19 (.move (tq 83) false)])
 (.seq (.dreg [] [(oo 84 (.load true 34 (tq 8) false),ql 8 [] []),
   (oo 85 (.move (tq 13) false),q0),
   (oo 86 (.move (tq 19) false),q0),
   (oo 87 (.call 266 [((tq 84),1),((tq 85),0),((tq 86),0)] []),qc [8] []),
   (oo 88 (.load true 34 (tq 8) false),ql 8 [] []),
   (oo 89 (.move (tq 13) false),q0),
   (oo 90 (.move (tq 19) false),q0),
   (oo 91 (.call 267 [((tq 88),1),((tq 89),0),((tq 90),0)] []),q0),
   (oo 92 (.call 265 [((tq 87),0),((tq 91),0)] []),q0),
   (oo 93 (.un .not (tq 92)),q0)])
 (.cond (tq 93)
 (.seq (.reg [oo 6 (.move (.const (.sc (.bool false))) false)])
 (.seq (.mask (bl 64 96) (bl 71644721833917608935025811199 96))
 .ret))
 .skip))))
 (.reg [oo 94 (.bin .add (tq 80) (.const (.sc (.int .i64 1)))),
   oo 80 (.move (tq 94) false)]))))
def zjL:CC:=(.reg [oo 95 (.bin .add (tq 47) (.const (.sc (.int .i64 1)))),
   oo 47 (.move (tq 95) false)])
def zlu:CC:=(.seq (.reg [oo 48 (.bin .lss (tq 47) (tq 46))])
 (.seq (.cond (tq 48)
 .skip
 (.seq (.mask (bl 0 96) (bl 71644721833917608935025811135 96))
 (.exit 2)))
 (.seq (.block 3 (.seq (.reg [oo 49 (.indexAddrS 1 (tq 45) (tq 47)),
   oo 50 (.load false 1 (tq 49) false),
   oo 13 (.move (tq 50) false)])
 (.seq (.reg [oo 52 (.load true 34 (tq 8) false),
   oo 53 (.move (tq 10) false),
   oo 54 (.move (tq 13) false),
   oo 55 (.move (tq 2) false),
   oo 56 (.call 263 [((tq 52),1),((tq 53),0),((tq 54),0),((tq 55),0)] []),
   oo 51 (.move (tq 56) true),
   oo 57 (.pull (tq 51) 0),
   oo 58 (.pull (tq 51) 1),
   oo 14 (.alloc true [(.sc (.int .i64 0)),(.sc (.int .u32 0)),(.sc (.int .u16 0)),(.sc (.int .u32 0))]),
   oz (.store 4 (tq 14) (tq 57)),
   oo 15 (.move (tq 58) false)])
 (.seq (.reg [oo 60 (.load true 34 (tq 8) false),
   oo 61 (.move (tq 10) false),
   oo 62 (.move (tq 13) false),
   oo 63 (.move (tq 2) false),
   oo 64 (.call 264 [((tq 60),1),((tq 61),0),((tq 62),0),((tq 63),0)] []),
   oo 59 (.move (tq 64) true),
   oo 65 (.pull (tq 59) 0),
   oo 66 (.pull (tq 59) 1),
   oo 16 (.alloc true [(.sc (.int .i64 0)),(.sc (.int .u32 0)),(.sc (.int .u16 0)),(.sc (.int .u32 0))]),
   oz (.store 4 (tq 16) (tq 65)),
   oo 17 (.move (tq 66) false)])
 (.seq (.seq (.reg [oo 67 (.move (tq 15) false),
   oo 68 (.move (tq 17) false),
   oo 69 (.bin .neq (tq 67) (tq 68)),
   oo 70 (.move (tq 69) false),
   ⟨(some 71),false,(some (70,false)),.load true 4 (tq 14) false⟩,
   ⟨(some 72),false,(some (70,false)),.load true 4 (tq 16) false⟩,
   ⟨(some 73),false,(some (70,false)),.eqAgg true 4 (tq 71) (tq 72)⟩,
   oo 74 (.pick (tq 70) (.const (.sc (.bool true))) (tq 73))])
 (.cond (tq 74)
 (.seq (.reg [oo 6 (.move (.const (.sc (.bool false))) false)])
 (.seq (.mask (bl 64 96) (bl 71644721833917608935025811199 96))
 .ret))
 .skip))
 (.seq (.reg [oo 75 (.move (tq 1) false),
   oo 76 (.move (tq 1) false),
   oo 77 (.call 217 [((tq 76),0),((.const (.sc (.int .i64 5))),0)] []),
   oo 78 (.buildSlice 1 2 [(.sc (.int .i64 0))] [(0,1,(tq 75)),(1,1,(tq 77))]),
   oo 79 (.lenS (tq 78)),
   oo 80 (.move (.const (.sc (.int .i64 0))) false)])
 (.block 4 (.loop (bl 2115620184571891660367110 96) (bl 71645779773641383409786208191 96)
 zgJ))))))))
 zjL)))
def zl4:CC:=(.seq (.seq (.reg [oo 30 (.move (tq 11) false),
   oo 31 (.bin .gtr (tq 30) (.const (.sc (.int .i64 0))))])
 (.cond (tq 31)
 .skip
 (.seq (.mask (bl 1798 96) (bl 79228162514264337112507529215 96))
 (.exit 0))))
 (.seq (.block 1 (.reg [oo 34 (.move (tq 10) true),
   oo 35 (.move (tq 7) false),
   oo 36 (.call 262 [((tq 35),0)] []),
   oo 37 (.buildSlice 3 1 [(.sc (.int .u32 0)),(.sc (.int .u16 0)),(.sc (.int .u32 0))] [(0,3,(tq 36))]),
   oo 38 (.append 3 12 (tq 34) (tq 37)),
   oo 10 (.move (tq 38) true)]))
 (.reg [oo 32 (.move (tq 11) false),
   oo 33 (.bin .sub (tq 32) (.const (.sc (.int .i64 1)))),
   oo 11 (.move (tq 33) false)])))
def znw:CC:=(.seq (.reg [oo 6 (.move (.const (.sc (.bool true))) false)])
 .ret)
def zn5:CC:=(.seq (.seq (.reg [oo 39 (.move (tq 9) false),
   oo 40 (.move (tq 9) false),
   oo 41 (.move (tq 9) false),
   oo 42 (.lenS (tq 41)),
   oo 43 (.mm false (.const (.sc (.int .i64 2))) (tq 42)),
   oo 44 (.sliceS 4 (tq 40) none (some (tq 43)) none),
   oo 45 (.buildSlice 1 3 [(.sl 4 [])] [(0,1,(tq 39)),(1,1,(.const (.gs 4 []))),(2,1,(tq 44))]),
   oo 46 (.lenS (tq 45)),
   oo 47 (.move (.const (.sc (.int .i64 0))) false)])
 (.block 2 (.loop (bl 246290604623110 96) (bl 71644721833917608935025811391 96)
 zlu)))
 znw)
def zkM:CF:=⟨96,[.tmp 6],
 (.seq (.reg [oo 6 (.move (.const (.sc (.bool false))) false)])
 (.seq (.seq (.reg [oo 20 (.call 259 [] []),
   oo 21 (.un .not (tq 20))])
 (.cond (tq 21)
 (.seq (.reg [oo 6 (.move (.const (.sc (.bool false))) false)])
 .ret)
 .skip))
 (.seq (.reg [oo 22 (.move (tq 0) false),
   oo 23 (.call 225 [((tq 22),0)] []),
   oo 7 (.move (tq 23) false)])
 (.seq (.reg [oo 24 (.move (tq 7) false),
   oo 25 (.call 260 [((tq 24),0)] []),
   oo 8 (.alloc true (rp 32 (.sc (.int .u8 0)) (rp 2 (.gs 5 []) []))),
   oz (.store 34 (tq 8) (tq 25))])
 (.seq (.reg [oo 26 (.move (tq 7) false),
   oo 27 (.call 261 [((tq 26),0)] []),
   oo 9 (.move (tq 27) true)])
 (.seq (.reg [oo 10 (.move (.const (.gs 3 [])) true)])
 (.seq (.seq (.reg [oo 28 (.move (tq 7) false),
   oo 29 (.call 231 [((tq 28),0),((.const (.sc (.int .i64 4))),0)] []),
   oo 11 (.move (tq 29) false)])
 (.block 0 (.loop (bl 3974 96) (bl 79228162514264337112507531263 96)
 zl4)))
 zn5)))))))⟩
def ziW:Hint:=⟨[(4,2),(5,2),(6,0),(10,0),(10,5),(14,5),(15,5)],[],[none,none,none,some ((bl 3974 96),(bl 79228162514264337112507531263 96)),none,some ((bl 1798 96),(bl 79228162514264337112507529215 96)),none,none,some ((bl 246290604623110 96),(bl 71644721833917608935025811391 96)),none,some ((bl 0 96),(bl 71644721833917608935025811135 96)),none,none,some ((bl 64 96),(bl 71644721833917608935025811199 96)),none,some ((bl 2115620184571891660367110 96),(bl 71645779773641383409786208191 96)),none,some ((bl 246290604623110 96),(bl 71645779773641383409786208191 96)),none,none,some ((bl 64 96),(bl 71644721833917608935025811199 96)),none],[],[],false,false⟩
def zEM:Nat→Sh:=zP [(50,(.sl 4)),(83,(.int .i64))]
def zEK (zd:zx) (zc:xt) (xd:yz) (yB:zau) (za:xj) (xf:yC) (xb:xr) (yy:z8) (yi:xO) (zb:yn) (zh:xC) (xq:zR) (L:Nat):CBC:=(zw 265 (zxX xq L) (zw 267 (zpK zh L) (zw 266 (zct zb L) (zw 217 (zkv yi L) (zw 264 (zBw yy L) (zw 263 (zc5 xb L) (zw 262 (ziz xf L) (zw 231 (zbl za L) (zw 261 (zD8 yB L) (zw 260 (zgN xd L) (zw 225 (zf5 zc L) (zw 259 (zfB zd L) noC))))))))))))
def zzI:St→St:=zae 0 (bl 3974 96) (bl 79228162514264337112507531263 96)
def zzF:St→St:=zae 0 (bl 246290604623110 96) (bl 71644721833917608935025811391 96)
def ztE:St→St:=zae 0 (bl 2115620184571891660367110 96) (bl 71645779773641383409786208191 96)
def zx9 (p1 p2:Int) (p9 p10:List (List V)) (p11:Int) (b8:List V) (zLP:List (List V)) (zLQ:Int):St:=⟨(jn 1 ((V.sc (.int .i64 p1))::((V.sc (.int .u64 p2))::(jn 4 ((V.ptr 23 0)::((V.ptr 8 0)::((V.gs 4 p9)::((V.gs 3 p10)::((V.sc (.int .i64 p11))::(jn 84 [])))))))))),(gn 8 ((.live true b8)::(gn 14 ((.live false [(V.sl 1 zLP),(V.sc (.int .i64 zLQ))])::(gn 72 [])))))⟩
def zDe (p1 p2:Int) (p9 p10:List (List V)) (b8:List V) (zLP:List (List V)) (zLQ:Int):St:=⟨(jn 1 ((V.sc (.int .i64 p1))::((V.sc (.int .u64 p2))::(jn 5 ((V.ptr 8 0)::((V.gs 4 p9)::((V.gs 3 p10)::(jn 85 [])))))))),(gn 8 ((.live true b8)::(gn 14 ((.live false [(V.sl 1 zLP),(V.sc (.int .i64 zLQ))])::(gn 72 [])))))⟩
def zxM (p1 p2:Int) (p10 p45:List (List V)) (p46 p47:Int) (b8:List V) (zLP:List (List V)) (zLQ:Int):St:=⟨(jn 1 ((V.sc (.int .i64 p1))::((V.sc (.int .u64 p2))::(jn 5 ((V.ptr 8 0)::(jn 1 ((V.gs 3 p10)::(jn 34 ((V.gs 1 p45)::((V.sc (.int .i64 p46))::((V.sc (.int .i64 p47))::(jn 48 [])))))))))))),(gn 8 ((.live true b8)::(gn 14 ((.live false [(V.sl 1 zLP),(V.sc (.int .i64 zLQ))])::(gn 72 [])))))⟩
def zCE (p6:Bool) (zLP:List (List V)) (zLQ:Int):St:=⟨(jn 6 ((V.sc (.bool p6))::(jn 89 []))),(gn 23 ((.live false [(V.sl 1 zLP),(V.sc (.int .i64 zLQ))])::(gn 72 [])))⟩
def zsd (p1 p2:Int) (p10 p13 p45:List (List V)) (p46 p47:Int) (p78:List (List V)) (p79 p80:Int) (b8:List V) (zLP:List (List V)) (zLQ:Int):St:=⟨(jn 1 ((V.sc (.int .i64 p1))::((V.sc (.int .u64 p2))::(jn 5 ((V.ptr 8 0)::(jn 1 ((V.gs 3 p10)::(jn 2 ((V.sl 4 p13)::(jn 31 ((V.gs 1 p45)::((V.sc (.int .i64 p46))::((V.sc (.int .i64 p47))::(jn 30 ((V.gs 1 p78)::((V.sc (.int .i64 p79))::((V.sc (.int .i64 p80))::(jn 15 [])))))))))))))))))),(gn 8 ((.live true b8)::(gn 14 ((.live false [(V.sl 1 zLP),(V.sc (.int .i64 zLQ))])::(gn 72 [])))))⟩
def zDa (zLP:List (List V)) (zLQ:Int):St:=⟨(jn 96 []),(gn 23 ((.live false [(V.sl 1 zLP),(V.sc (.int .i64 zLQ))])::(gn 72 [])))⟩
def zCX (p1 p2:Int) (p10 p45:List (List V)) (p46 p47:Int) (b8:List V) (zLP:List (List V)) (zLQ:Int):St:=⟨(jn 1 ((V.sc (.int .i64 p1))::((V.sc (.int .u64 p2))::(jn 5 ((V.ptr 8 0)::(jn 1 ((V.gs 3 p10)::(jn 34 ((V.gs 1 p45)::((V.sc (.int .i64 p46))::((V.sc (.int .i64 p47))::(jn 48 [])))))))))))),(gn 8 ((.live true b8)::(gn 14 ((.live false [(V.sl 1 zLP),(V.sc (.int .i64 zLQ))])::(gn 72 [])))))⟩
abbrev zfx (β:Type):Type:=Int→Int→List (List V)→List (List V)→Int→List V→List (List V)→Int→Option β
abbrev zjD (β:Type):Type:=Int→Int→List (List V)→List (List V)→List V→List (List V)→Int→Option β
abbrev zcV (β:Type):Type:=Int→Int→List (List V)→List (List V)→Int→Int→List V→List (List V)→Int→Option β
abbrev zcQ (β:Type):Type:=Int→Int→List (List V)→List (List V)→List (List V)→Int→Int→List (List V)→Int→Int→List V→List (List V)→Int→Option β
abbrev zjK (β:Type):Type:=Int→Int→List (List V)→List (List V)→Int→Int→List V→List (List V)→Int→Option β
def ztg {β:Type} (zd:zx) (zc:xt) (xd:yz) (yB:zau) (za:xj) (xf:yC) (xb:xr) (yy:z8) (yi:xO) (zb:yn) (zh:xC) (xq:zR) (L:Nat) (p0:List (List V)) (p1 p2:Int) (k_fin:Bool→Option β) (k_hbbbbbbaba:zfx β):Option β :=
 zd β L  (fun v0 =>
 ifb (!v0) (
 k_fin false) (
 zc β L p0 (fun v1 v2 =>
 xd β L v1 v2 (fun v3 v4 v5 =>
 chk ((List.length v3)=34∧0+34≤34) (
 lt (xg (List.replicate 32 (V.sc (.int .u8 (0:Int)))++[(V.gs 5 ([]:List (List V))),(V.gs 5 ([]:List (List V)))]) 0 v3) fun r6 =>
 yB β L v4 v5 (fun v7 v8 v9 =>
 za β L (4:Int) v8 v9 (fun v10 v11 v12 =>
 k_hbbbbbbaba p1 p2 v7 ([]:List (List V)) v10 r6 v11 v12)))))))
def zmK {β:Type} (zd:zx) (zc:xt) (xd:yz) (yB:zau) (za:xj) (xf:yC) (xb:xr) (yy:z8) (yi:xO) (zb:yn) (zh:xC) (xq:zR) (L:Nat) (p1 p2:Int) (p9 p10:List (List V)) (p11:Int) (b8:List V) (zLP:List (List V)) (zLQ:Int) (k_hbbbbbbaba:zfx β) (k_x0:zjD β):Option β :=
 ifb (decide (p11 > (0:Int))) (
 xf β L zLP zLQ (fun v13 v14 v15 =>
 chk ((List.length v13)=3∧0+3≤3) (
 chk ((List.length p10+List.length (yl 3 1 (xg [(V.sc (.int .u32 (0:Int))),(V.sc (.int .u16 (0:Int))),(V.sc (.int .u32 (0:Int)))] 0 v13))) * 12≤zs∧List.length p10+List.length (yl 3 1 (xg [(V.sc (.int .u32 (0:Int))),(V.sc (.int .u16 (0:Int))),(V.sc (.int .u32 (0:Int)))] 0 v13))≤zs) (
 lt (p10++(yl 3 1 (xg [(V.sc (.int .u32 (0:Int))),(V.sc (.int .u16 (0:Int))),(V.sc (.int .u32 (0:Int)))] 0 v13))) fun l16 =>
 lt (IntKind.wrap .i64 ((p11:Int) - (1:Int))) fun x17 =>
 k_hbbbbbbaba p1 p2 p9 l16 x17 b8 v14 v15)))) (
 k_x0 p1 p2 p9 p10 b8 zLP zLQ)
def zlD {β:Type} (zd:zx) (zc:xt) (xd:yz) (yB:zau) (za:xj) (xf:yC) (xb:xr) (yy:z8) (yi:xO) (zb:yn) (zh:xC) (xq:zR) (L:Nat) (p1 p2:Int) (p9 p10:List (List V)) (b8:List V) (zLP:List (List V)) (zLQ:Int) (k_hbbbbbbbaba:zcV β):Option β :=
 lt (zKF (2:Int) ((List.length p9:Nat):Int)) fun x18 =>
 chk (0≤x18∧x18≤(((List.length p9):Nat):Int)) (
 k_hbbbbbbbaba p1 p2 p10 (yl 1 3 [(V.sl 4 p9),(V.sl 4 ([]:List (List V))),(V.sl 4 (List.take ((Int.toNat x18) - 0) (List.drop 0 p9)))]) ((List.length (yl 1 3 [(V.sl 4 p9),(V.sl 4 ([]:List (List V))),(V.sl 4 (List.take ((Int.toNat x18) - 0) (List.drop 0 p9)))]):Nat):Int) (0:Int) b8 zLP zLQ)
def zmd {β:Type} (zd:zx) (zc:xt) (xd:yz) (yB:zau) (za:xj) (xf:yC) (xb:xr) (yy:z8) (yi:xO) (zb:yn) (zh:xC) (xq:zR) (L:Nat) (p1 p2:Int) (p10 p45:List (List V)) (p46 p47:Int) (b8:List V) (zLP:List (List V)) (zLQ:Int) (k_ret:Bool→List (List V)→Int→Option β) (k_hbbbbbbbabaabbaabbbbba:zcQ β) (k_x2:List (List V)→Int→Option β):Option β :=
 ifb (decide (p47 < p46)) (
 idx p45 p47 fun c19 =>
 cL 4 c19 0 fun v20 =>
 chk (0+34≤(List.length b8)) (
 xb β L (List.map V.dem (List.take 34 b8)) p10 v20 p2 (fun v21 v22 =>
 chk ((List.length v21)=4∧0+4≤4) (
 lt (xg [(V.sc (.int .i64 (0:Int))),(V.sc (.int .u32 (0:Int))),(V.sc (.int .u16 (0:Int))),(V.sc (.int .u32 (0:Int)))] 0 v21) fun r23 =>
 chk (0+34≤(List.length b8)) (
 yy β L (List.map V.dem (List.take 34 b8)) p10 v20 p2 (fun v24 v25 =>
 chk ((List.length v24)=4∧0+4≤4) (
 lt (xg [(V.sc (.int .i64 (0:Int))),(V.sc (.int .u32 (0:Int))),(V.sc (.int .u16 (0:Int))),(V.sc (.int .u32 (0:Int)))] 0 v24) fun r26 =>
 ifb ((v22:Int) != v25) (
 k_ret false zLP zLQ) (
 chk (0+4≤(List.length r23)) (
 chk (0+4≤(List.length r26)) (
 eqC 4 (List.take 4 r23) (List.take 4 r26) fun v27 =>
 ifb (!v27) (
 k_ret false zLP zLQ) (
 yi β L p1 (5:Int) (fun v28 =>
 k_hbbbbbbbabaabbaabbbbba p1 p2 p10 v20 p45 p46 p47 (yl 1 2 [(V.sc (.int .i64 p1)),(V.sc (.int .i64 v28))]) ((List.length (yl 1 2 [(V.sc (.int .i64 p1)),(V.sc (.int .i64 v28))]):Nat):Int) (0:Int) b8 zLP zLQ)))))))))))) (
 k_x2 zLP zLQ)
def zkF {β:Type} (zd:zx) (zc:xt) (xd:yz) (yB:zau) (za:xj) (xf:yC) (xb:xr) (yy:z8) (yi:xO) (zb:yn) (zh:xC) (xq:zR) (L:Nat) (p6:Bool) (zLP:List (List V)) (zLQ:Int) (k_fin:Bool→Option β):Option β :=
 k_fin p6
def zla {β:Type} (zd:zx) (zc:xt) (xd:yz) (yB:zau) (za:xj) (xf:yC) (xb:xr) (yy:z8) (yi:xO) (zb:yn) (zh:xC) (xq:zR) (L:Nat) (zLP:List (List V)) (zLQ:Int) (k_fin:Bool→Option β):Option β :=
 k_fin true
def zgT {β:Type} (zd:zx) (zc:xt) (xd:yz) (yB:zau) (za:xj) (xf:yC) (xb:xr) (yy:z8) (yi:xO) (zb:yn) (zh:xC) (xq:zR) (L:Nat) (p1 p2:Int) (p10 p13 p45:List (List V)) (p46 p47:Int) (p78:List (List V)) (p79 p80:Int) (b8:List V) (zLP:List (List V)) (zLQ:Int) (k_ret:Bool→List (List V)→Int→Option β) (k_hbbbbbbbabaabbaabbbbba:zcQ β) (k_x4:zjK β):Option β :=
 ifb (decide (p80 < p79)) (
 idx p78 p80 fun c29 =>
 cI .i64 c29 0 fun v30 =>
 chk (0+34≤(List.length b8)) (
 zb β L (List.map V.dem (List.take 34 b8)) p13 v30 (fun v31 =>
 chk (0+34≤(List.length b8)) (
 zh β L (List.map V.dem (List.take 34 b8)) p13 v30 (fun v32 =>
 xq β L v31 v32 (fun v33 =>
 ifb (!v33) (
 k_ret false zLP zLQ) (
 lt (IntKind.wrap .i64 ((p80:Int)+(1:Int))) fun x34 =>
 k_hbbbbbbbabaabbaabbbbba p1 p2 p10 p13 p45 p46 p47 p78 p79 x34 b8 zLP zLQ))))))) (
 k_x4 p1 p2 p10 p45 p46 p47 b8 zLP zLQ)
def zfU {β:Type} (zd:zx) (zc:xt) (xd:yz) (yB:zau) (za:xj) (xf:yC) (xb:xr) (yy:z8) (yi:xO) (zb:yn) (zh:xC) (xq:zR) (L:Nat) (p6:Bool) (zLP:List (List V)) (zLQ:Int) (k_ret:Bool→List (List V)→Int→Option β):Option β :=
 k_ret p6 zLP zLQ
def zgn {β:Type} (zd:zx) (zc:xt) (xd:yz) (yB:zau) (za:xj) (xf:yC) (xb:xr) (yy:z8) (yi:xO) (zb:yn) (zh:xC) (xq:zR) (L:Nat) (p1 p2:Int) (p10 p45:List (List V)) (p46 p47:Int) (b8:List V) (zLP:List (List V)) (zLQ:Int) (k_hbbbbbbbaba:zcV β):Option β :=
 lt (IntKind.wrap .i64 ((p47:Int)+(1:Int))) fun x35 =>
 k_hbbbbbbbaba p1 p2 p10 p45 p46 x35 b8 zLP zLQ
def zfT {β:Type} (zd:zx) (zc:xt) (xd:yz) (yB:zau) (za:xj) (xf:yC) (xb:xr) (yy:z8) (yi:xO) (zb:yn) (zh:xC) (xq:zR) (L:Nat) (k_x0:zjD β):Nat→Int→Int→List (List V)→List (List V)→Int→List V→List (List V)→Int→Option β
 | 0,_,_,_,_,_,_,_,_=>none
 | n+1,p1,p2,p9,p10,p11,b8,zLP,zLQ=>zmK zd zc xd yB za xf xb yy yi zb zh xq L p1 p2 p9 p10 p11 b8 zLP zLQ (fun p1 p2 p9 p10 p11 b8 zLP zLQ=>zfT zd zc xd yB za xf xb yy yi zb zh xq L k_x0 n p1 p2 p9 p10 p11 b8 zLP zLQ) k_x0
def zc2 {β:Type} (zd:zx) (zc:xt) (xd:yz) (yB:zau) (za:xj) (xf:yC) (xb:xr) (yy:z8) (yi:xO) (zb:yn) (zh:xC) (xq:zR) (L:Nat) (k_ret:Bool→List (List V)→Int→Option β) (k_x4:zjK β):Nat→Int→Int→List (List V)→List (List V)→List (List V)→Int→Int→List (List V)→Int→Int→List V→List (List V)→Int→Option β
 | 0,_,_,_,_,_,_,_,_,_,_,_,_,_=>none
 | n+1,p1,p2,p10,p13,p45,p46,p47,p78,p79,p80,b8,zLP,zLQ=>zgT zd zc xd yB za xf xb yy yi zb zh xq L p1 p2 p10 p13 p45 p46 p47 p78 p79 p80 b8 zLP zLQ k_ret (fun p1 p2 p10 p13 p45 p46 p47 p78 p79 p80 b8 zLP zLQ=>zc2 zd zc xd yB za xf xb yy yi zb zh xq L k_ret k_x4 n p1 p2 p10 p13 p45 p46 p47 p78 p79 p80 b8 zLP zLQ) k_x4
def zlI {β:Type} (zd:zx) (zc:xt) (xd:yz) (yB:zau) (za:xj) (xf:yC) (xb:xr) (yy:z8) (yi:xO) (zb:yn) (zh:xC) (xq:zR) (L:Nat) (p1 p2:Int) (p10 p45:List (List V)) (p46 p47:Int) (b8:List V) (zLP:List (List V)) (zLQ:Int) (k_ret:Bool→List (List V)→Int→Option β) (k_x2:List (List V)→Int→Option β) (k_hbbbbbbbaba:zcV β):Option β :=
 zmd zd zc xd yB za xf xb yy yi zb zh xq L p1 p2 p10 p45 p46 p47 b8 zLP zLQ k_ret (fun p1 p2 p10 p13 p45 p46 p47 p78 p79 p80 b8 zLP zLQ=>zc2 zd zc xd yB za xf xb yy yi zb zh xq L (fun p6 zLP zLQ=>zfU zd zc xd yB za xf xb yy yi zb zh xq L p6 zLP zLQ k_ret) (fun p1 p2 p10 p45 p46 p47 b8 zLP zLQ=>zgn zd zc xd yB za xf xb yy yi zb zh xq L p1 p2 p10 p45 p46 p47 b8 zLP zLQ k_hbbbbbbbaba) L p1 p2 p10 p13 p45 p46 p47 p78 p79 p80 b8 zLP zLQ) k_x2
def zfq {β:Type} (zd:zx) (zc:xt) (xd:yz) (yB:zau) (za:xj) (xf:yC) (xb:xr) (yy:z8) (yi:xO) (zb:yn) (zh:xC) (xq:zR) (L:Nat) (k_ret:Bool→List (List V)→Int→Option β) (k_x2:List (List V)→Int→Option β):Nat→Int→Int→List (List V)→List (List V)→Int→Int→List V→List (List V)→Int→Option β
 | 0,_,_,_,_,_,_,_,_,_=>none
 | n+1,p1,p2,p10,p45,p46,p47,b8,zLP,zLQ=>zlI zd zc xd yB za xf xb yy yi zb zh xq L p1 p2 p10 p45 p46 p47 b8 zLP zLQ k_ret k_x2 (fun p1 p2 p10 p45 p46 p47 b8 zLP zLQ=>zfq zd zc xd yB za xf xb yy yi zb zh xq L k_ret k_x2 n p1 p2 p10 p45 p46 p47 b8 zLP zLQ)
def zlj {β:Type} (zd:zx) (zc:xt) (xd:yz) (yB:zau) (za:xj) (xf:yC) (xb:xr) (yy:z8) (yi:xO) (zb:yn) (zh:xC) (xq:zR) (L:Nat) (p1 p2:Int) (p9 p10:List (List V)) (b8:List V) (zLP:List (List V)) (zLQ:Int) (k_fin:Bool→Option β):Option β :=
 zlD zd zc xd yB za xf xb yy yi zb zh xq L p1 p2 p9 p10 b8 zLP zLQ (fun p1 p2 p10 p45 p46 p47 b8 zLP zLQ=>zfq zd zc xd yB za xf xb yy yi zb zh xq L (fun p6 zLP zLQ=>zkF zd zc xd yB za xf xb yy yi zb zh xq L p6 zLP zLQ k_fin) (fun zLP zLQ=>zla zd zc xd yB za xf xb yy yi zb zh xq L zLP zLQ k_fin) L p1 p2 p10 p45 p46 p47 b8 zLP zLQ)
def ztx {β:Type} (zd:zx) (zc:xt) (xd:yz) (yB:zau) (za:xj) (xf:yC) (xb:xr) (yy:z8) (yi:xO) (zb:yn) (zh:xC) (xq:zR) (L:Nat) (p0:List (List V)) (p1 p2:Int) (k_fin:Bool→Option β):Option β :=
 ztg zd zc xd yB za xf xb yy yi zb zh xq L p0 p1 p2 k_fin (fun p1 p2 p9 p10 p11 b8 zLP zLQ=>zfT zd zc xd yB za xf xb yy yi zb zh xq L (fun p1 p2 p9 p10 b8 zLP zLQ=>zlj zd zc xd yB za xf xb yy yi zb zh xq L p1 p2 p9 p10 b8 zLP zLQ k_fin) L p1 p2 p9 p10 p11 b8 zLP zLQ)
abbrev ztA:=∀ (β:Type),Nat→List (List V)→Int→Int→(Bool→Option β)→Option β
def zln (β:Type) (L:Nat) (p0:List (List V)) (p1 p2:Int) (k_fin:Bool→Option β):Option β:=ztx zd zc xd yB za xf xb yy yi zb zh xq L p0 p1 p2 k_fin
def zE4 (zln:ztA) (L:Nat) (β:Type) (args:List V) (bor:Bor) (k:KK β):Option β:=match args,bor with
 | [a0,a1,a2],[]=>aL 1 a0 fun p0=>aI .i64 a1 fun p1=>aI .u64 a2 fun p2=>zln β L p0 p1 p2 (fun p0=>k (V.sc (.bool p0)) [])
 | _,_=>none
def zdQ:CC:=(.seq (.seq (.reg [oo 17 (.move (tq 10) false),
   oo 18 (.bin .lss (tq 17) (.const (.sc (.int .i64 20))))])
 (.cond (tq 18)
 .skip
 (.seq (.mask (bl 256 51) (bl 2190225216340791 51))
 (.exit 0))))
 (.seq (.block 1 (.seq (.dreg [] [(oo 22 (.load true 34 (tq 3) false),ql 3 [] [11]),
   (oo 23 (.move (tq 1) false),q0),
   (oo 24 (.move (tq 8) false),q0),
   (oo 25 (.move (tq 9) false),q0),
   (oo 26 (.call 231 [((tq 25),0),((.const (.sc (.int .i64 1048576))),0)] []),qc [3] [11]),
   (oo 27 (.conv .u64 (tq 26)),q0),
   (oo 28 (.call 263 [((tq 22),1),((tq 23),0),((tq 24),0),((tq 27),0)] []),qc [] [11]),
   (oo 21 (.move (tq 28) true),qc [] [11]),
   (oo 29 (.pull (tq 21) 0),q0),
   (oo 30 (.pull (tq 21) 1),q0),
   (oo 11 (.alloc true [(.sc (.int .i64 0)),(.sc (.int .u32 0)),(.sc (.int .u16 0)),(.sc (.int .u32 0))]),qn [3] []),
   (oz (.store 4 (tq 11) (tq 29)),q0),
   (oo 12 (.move (tq 30) false),q0)])
 (.seq (.seq (.reg [oo 31 (.move (tq 12) false),
   oo 32 (.bin .neq (tq 31) (.const (.sc (.int .i64 0))))])
 (.cond (tq 32)
 (.seq (.reg [oo 33 (.move (tq 8) true),
   oo 34 (.move (tq 12) false),
   oo 35 (.bin .eql (tq 34) (.const (.sc (.int .i64 390)))),
   oo 36 (.move (tq 35) false),
   ⟨(some 37),false,(some (36,false)),.move (tq 12) false⟩,
   ⟨(some 38),false,(some (36,false)),.bin .eql (tq 37) (.const (.sc (.int .i64 380)))⟩,
   oo 39 (.pick (tq 36) (.const (.sc (.bool true))) (tq 38)),
   oo 6 (.move (tq 33) true),
   oo 7 (.move (tq 39) false)])
 (.seq (.mask (bl 192 51) (bl 2190225216340727 51))
 .ret))
 .skip))
 (.seq (.reg [oo 41 (.move (tq 8) false),
   oo 42 (.load true 4 (tq 11) false),
   oo 43 (.call 271 [((tq 41),0),((tq 42),0)] []),
   oo 40 (.move (tq 43) true),
   oo 44 (.extract (tq 40) 0),
   oo 45 (.pull (tq 40) 1),
   oo 13 (.move (tq 44) true),
   oo 14 (.move (tq 45) false)])
 (.seq (.seq (.reg [oo 46 (.move (tq 14) false),
   oo 47 (.bin .neq (tq 46) (.const (.sc (.int .i64 0))))])
 (.cond (tq 47)
 (.seq (.reg [oo 48 (.move (tq 8) true),
   oo 6 (.move (tq 48) true),
   oo 7 (.move (.const (.sc (.bool false))) false)])
 (.seq (.mask (bl 192 51) (bl 2190225216340727 51))
 .ret))
 .skip))
 (.reg [oo 49 (.move (tq 13) true),
   oo 8 (.move (tq 49) true)]))))))
 (.reg [oo 19 (.move (tq 10) false),
   oo 20 (.bin .add (tq 19) (.const (.sc (.int .i64 1)))),
   oo 10 (.move (tq 20) false)])))
def zh2:CC:=(.seq (.reg [oo 50 (.move (tq 8) true),
   oo 6 (.move (tq 50) true),
   oo 7 (.move (.const (.sc (.bool false))) false)])
 .ret)
def zdF:CF:=⟨51,[.tmp 6,.tmp 7],
 (.seq (.reg [oo 3 (.box true (tq 0)),
   oo 6 (.move (.const (.gs 4 [])) true),
   oo 7 (.move (.const (.sc (.bool false))) false)])
 (.seq (.reg [oo 8 (.move (.const (.gs 4 [])) true)])
 (.seq (.reg [oo 15 (.move (tq 2) false),
   oo 16 (.call 225 [((tq 15),0)] []),
   oo 9 (.move (tq 16) false)])
 (.seq (.seq (.reg [oo 10 (.move (.const (.sc (.int .i64 0))) false)])
 (.block 0 (.loop (bl 1802 51) (bl 2190225216341823 51)
 zdQ)))
 zh2))))⟩
def zsy:Hint:=⟨[(0,0),(0,1),(1,0),(6,7),(8,0),(8,7),(9,3),(9,4),(9,6),(11,0),(11,1),(12,0),(12,1),(13,0),(13,1)],[],[none,some ((bl 1802 51),(bl 2190225216341823 51)),none,some ((bl 256 51),(bl 2190225216340791 51)),none,none,some ((bl 192 51),(bl 2190225216340727 51)),none,some ((bl 192 51),(bl 2190225216340727 51)),none],[],[],false,false⟩
def zb1:Nat→Sh:=zP []
def zbZ (zc:xt) (za:xj) (xb:xr) (zj:y8) (L:Nat):CBC:=(zw 271 (zhy zj L) (zw 263 (zc5 xb L) (zw 231 (zbl za L) (zw 225 (zf5 zc L) noC))))
def zf6:St→St:=zae 0 (bl 1802 51) (bl 2190225216341823 51)
def zeu (p1 p8:List (List V)) (p10:Int) (b3:List V) (zK1:List (List V)) (zK2:Int):St:=⟨(jn 1 ((V.sl 3 p1)::(jn 1 ((V.ptr 3 0)::(jn 4 ((V.gs 4 p8)::((V.ptr 16 0)::((V.sc (.int .i64 p10))::(jn 40 []))))))))),(gn 3 ((.live true b3)::(gn 12 ((.live false [(V.sl 1 zK1),(V.sc (.int .i64 zK2))])::(gn 34 [])))))⟩
def zk9 (p6:List (List V)) (p7:Bool) (zK1:List (List V)) (zK2:Int):St:=⟨(jn 6 ((V.gs 4 p6)::((V.sc (.bool p7))::(jn 43 [])))),(gn 16 ((.live false [(V.sl 1 zK1),(V.sc (.int .i64 zK2))])::(gn 34 [])))⟩
def zlW (p8 zK1:List (List V)) (zK2:Int):St:=⟨(jn 8 ((V.gs 4 p8)::(jn 42 []))),(gn 16 ((.live false [(V.sl 1 zK1),(V.sc (.int .i64 zK2))])::(gn 34 [])))⟩
abbrev zoe (β:Type):Type:=List (List V)→List (List V)→Int→List V→List (List V)→Int→Option β
def zrf {β:Type} (zc:xt) (za:xj) (xb:xr) (zj:y8) (L:Nat) (p0:List V) (p1 p2:List (List V)) (k_hbbbaba:zoe β):Option β :=
 zc β L p2 (fun v0 v1 =>
 k_hbbbaba p1 ([]:List (List V)) (0:Int) p0 v0 v1)
theorem zAa {β:Type} (zc:xt) (za:xj) (xb:xr) (zj:y8) (L:Nat) (p0:List V) (p1 p2:List (List V)) (k:KK β):zt zb1 (zbZ zc za xb zj L) L zdF [(V.agg p0),(V.sl 3 p1),(V.sl 1 p2)] [] k=zrf zc za xb zj L p0 p1 p2 (fun p1 p8 p10 b3 zK1 zK2=>yE (yo zb1 (zbZ zc za xb zj L) 0 L zdQ) zf6 L (zeu p1 p8 p10 b3 zK1 zK2) (xG 0 (yU (yo zb1 (zbZ zc za xb zj L) 0 L zh2) (xZ 0 (CF.res zdF) k)))):=by kernel_rfl
def zj1 {β:Type} (zc:xt) (za:xj) (xb:xr) (zj:y8) (L:Nat) (p1 p8:List (List V)) (p10:Int) (b3:List V) (zK1:List (List V)) (zK2:Int) (k_ret:List (List V)→Bool→List (List V)→Int→Option β) (k_hbbbaba:zoe β) (k_x0:List (List V)→List (List V)→Int→Option β):Option β :=
 ifb (decide (p10 < (20:Int))) (
 chk (0+34≤(List.length b3)) (
 za β L (1048576:Int) zK1 zK2 (fun v2 v3 v4 =>
 lt (IntKind.wrap .u64 v2) fun x5 =>
 xb β L (List.map V.dem (List.take 34 b3)) p1 p8 x5 (fun v6 v7 =>
 chk ((List.length v6)=4∧0+4≤4) (
 lt (xg [(V.sc (.int .i64 (0:Int))),(V.sc (.int .u32 (0:Int))),(V.sc (.int .u16 (0:Int))),(V.sc (.int .u32 (0:Int)))] 0 v6) fun r8 =>
 ifb ((v7:Int) != (0:Int)) (
 ifb ((v7:Int) == (390:Int)) (
 k_ret p8 true v3 v4) (
 k_ret p8 ((v7:Int) == (380:Int)) v3 v4)) (
 chk (0+4≤(List.length r8)) (
 zj β L p8 (List.take 4 r8) (fun v9 v10 =>
 ifb ((v10:Int) != (0:Int)) (
 k_ret p8 false v3 v4) (
 lt (IntKind.wrap .i64 ((p10:Int)+(1:Int))) fun x11 =>
 k_hbbbaba p1 v9 x11 b3 v3 v4))))))))) (
 k_x0 p8 zK1 zK2)
theorem zus {β:Type} (zc:xt) (za:xj) (xb:xr) (zj:y8) (L:Nat) (p1 p8:List (List V)) (p10:Int) (b3:List V) (zK1:List (List V)) (zK2:Int) (X:St→Option β) (K:KT β):yo zb1 (zbZ zc za xb zj L) 0 L zdQ (zeu p1 p8 p10 b3 zK1 zK2) (zcr zf6 X K)=zj1 zc za xb zj L p1 p8 p10 b3 zK1 zK2 (fun p6 p7 zK1 zK2=>K .ret (zk9 p6 p7 zK1 zK2)) (fun p1 p8 p10 b3 zK1 zK2=>X (zeu p1 p8 p10 b3 zK1 zK2)) (fun p8 zK1 zK2=>K (.exit 0) (zlW p8 zK1 zK2)):=by kernel_rfl
def zmv {β:Type} (zc:xt) (za:xj) (xb:xr) (zj:y8) (L:Nat) (p6:List (List V)) (p7:Bool) (zK1:List (List V)) (zK2:Int) (k_fin:List (List V)→Bool→Option β):Option β :=
 k_fin p6 p7
theorem zrp {β:Type} (zc:xt) (za:xj) (xb:xr) (zj:y8) (L:Nat) (p6:List (List V)) (p7:Bool) (zK1:List (List V)) (zK2:Int) (k:KK β):(xG 0 (yU (yo zb1 (zbZ zc za xb zj L) 0 L zh2) (xZ 0 (CF.res zdF) k))) .ret (zk9 p6 p7 zK1 zK2)=zmv zc za xb zj L p6 p7 zK1 zK2 (fun zL8 zL9=>k (V.tup [(V.gs 4 zL8),(V.sc (.bool zL9))]) []):=by kernel_rfl
def znr {β:Type} (zc:xt) (za:xj) (xb:xr) (zj:y8) (L:Nat) (p8 zK1:List (List V)) (zK2:Int) (k_fin:List (List V)→Bool→Option β):Option β :=
 k_fin p8 false
theorem zsr {β:Type} (zc:xt) (za:xj) (xb:xr) (zj:y8) (L:Nat) (p8 zK1:List (List V)) (zK2:Int) (k:KK β):(xG 0 (yU (yo zb1 (zbZ zc za xb zj L) 0 L zh2) (xZ 0 (CF.res zdF) k))) (.exit 0) (zlW p8 zK1 zK2)=znr zc za xb zj L p8 zK1 zK2 (fun zL8 zL9=>k (V.tup [(V.gs 4 zL8),(V.sc (.bool zL9))]) []):=by kernel_rfl
def zci {β:Type} (zc:xt) (za:xj) (xb:xr) (zj:y8) (L:Nat) (k_ret:List (List V)→Bool→List (List V)→Int→Option β) (k_x0:List (List V)→List (List V)→Int→Option β):Nat→List (List V)→List (List V)→Int→List V→List (List V)→Int→Option β
 | 0,_,_,_,_,_,_=>none
 | n+1,p1,p8,p10,b3,zK1,zK2=>zj1 zc za xb zj L p1 p8 p10 b3 zK1 zK2 k_ret (fun p1 p8 p10 b3 zK1 zK2=>zci zc za xb zj L k_ret k_x0 n p1 p8 p10 b3 zK1 zK2) k_x0
theorem zmi {β:Type} (zc:xt) (za:xj) (xb:xr) (zj:y8) (L:Nat) (K:KT β):∀ (n:Nat) (p1 p8:List (List V)) (p10:Int) (b3:List V) (zK1:List (List V)) (zK2:Int),yE (yo zb1 (zbZ zc za xb zj L) 0 L zdQ) zf6 n (zeu p1 p8 p10 b3 zK1 zK2) K=zci zc za xb zj L (fun p6 p7 zK1 zK2=>K .ret (zk9 p6 p7 zK1 zK2)) (fun p8 zK1 zK2=>K (.exit 0) (zlW p8 zK1 zK2)) n p1 p8 p10 b3 zK1 zK2:=by
 intro n
 induction n with
 | zero=>intros; rfl
 | succ n ih =>
  intro p1 p8 p10 b3 zK1 zK2
  refine (zus zc za xb zj L p1 p8 p10 b3 zK1 zK2 (fun σ=>yE (yo zb1 (zbZ zc za xb zj L) 0 L zdQ) zf6 n σ K) K).trans ?_
  simp only [ih]
  rfl
def znl {β:Type} (zc:xt) (za:xj) (xb:xr) (zj:y8) (L:Nat) (p0:List V) (p1 p2:List (List V)) (k_fin:List (List V)→Bool→Option β):Option β :=
 zrf zc za xb zj L p0 p1 p2 (fun p1 p8 p10 b3 zK1 zK2=>zci zc za xb zj L (fun p6 p7 zK1 zK2=>zmv zc za xb zj L p6 p7 zK1 zK2 k_fin) (fun p8 zK1 zK2=>znr zc za xb zj L p8 zK1 zK2 k_fin) L p1 p8 p10 b3 zK1 zK2)
theorem zAJ {β:Type} (zc:xt) (za:xj) (xb:xr) (zj:y8) (L:Nat) (p0:List V) (p1 p2:List (List V)) (k:KK β):zt zb1 (zbZ zc za xb zj L) L zdF [(V.agg p0),(V.sl 3 p1),(V.sl 1 p2)] [] k=znl zc za xb zj L p0 p1 p2 (fun zL8 zL9=>k (V.tup [(V.gs 4 zL8),(V.sc (.bool zL9))]) []):=by
 refine (zAa zc za xb zj L p0 p1 p2 k).trans ?_
 unfold znl
 first
  | (simp only [zmi,zrp,zsr]; done)
  | (simp only [zmi]; rfl)
abbrev xS:=∀ (β:Type),Nat→List V→List (List V)→List (List V)→(List (List V)→Bool→Option β)→Option β
def zl (β:Type) (L:Nat) (p0:List V) (p1 p2:List (List V)) (k_fin:List (List V)→Bool→Option β):Option β:=znl zc za xb zj L p0 p1 p2 k_fin
def zjC (zl:xS) (L:Nat) (β:Type) (args:List V) (bor:Bor) (k:KK β):Option β:=match args,bor with
 | [a0,a1,a2],[]=>aG a0 fun p0=>aL 3 a1 fun p1=>aL 1 a2 fun p2=>zl β L p0 p1 p2 (fun zL8 zL9=>k (V.tup [(V.gs 4 zL8),(V.sc (.bool zL9))]) [])
 | _,_=>none
theorem zzM (L:Nat) (β:Type) (args:List V) (bor:Bor) (k:KK β) (r:β) (h:zjC zl L β args bor k=some r):zt zb1 (zbZ zc za xb zj L) L zdF args bor k=some r:=by
 unfold zjC at h
 split at h
 ·have q:=xY h; clear h; obtain ⟨p0,rfl,h⟩:=q
  have q:=zZ h; clear h; obtain ⟨p1,rfl,h⟩:=q
  have q:=zZ h; clear h; obtain ⟨p2,rfl,h⟩:=q
  exact (zAJ zc za xb zj L p0 p1 p2 k).trans h
 ·cases h
def zgV:CC:=(.seq (.reg [oo 57 (.bin .lss (tq 56) (tq 55))])
 (.seq (.cond (tq 57)
 .skip
 (.seq (.mask (bl 246290604627328 97) (bl 158456324987023501021241393071 97))
 (.exit 2)))
 (.seq (.block 3 (.seq (.reg [oo 58 (.indexAddrS 4 (tq 54) (tq 56)),
   oo 59 (.load true 4 (tq 58) false),
   oo 14 (.alloc true [(.sc (.int .i64 0)),(.sc (.int .u32 0)),(.sc (.int .u16 0)),(.sc (.int .u32 0))]),
   oz (.store 4 (tq 14) (tq 59))])
 (.seq (.dreg [] [(oo 60 (.fieldAddr 1 (tq 12)),q0),
   (oo 61 (.load true 3 (tq 60) false),ql 12 [14] []),
   (oo 62 (.call 269 [((tq 61),0)] []),qc [14] []),
   (oo 63 (.fieldAddr 1 (tq 14)),q0),
   (oo 64 (.load true 3 (tq 63) false),ql 14 [12] []),
   (oo 65 (.call 269 [((tq 64),0)] []),q0),
   (oo 66 (.bin .eql (tq 62) (tq 65)),q0)])
 (.cond (tq 66)
 (.seq (.reg [oo 4 (.move (.const (.sc (.bool false))) false)])
 (.seq (.mask (bl 16 97) (bl 158456324986987472224222421951 97))
 .ret))
 .skip))))
 (.reg [oo 67 (.bin .add (tq 56) (.const (.sc (.int .i64 1)))),
   oo 56 (.move (tq 67) false)]))))
def zh0:CC:=(.seq (.reg [oo 68 (.fieldAddr 0 (tq 12)),
   oo 69 (.load false 1 (tq 68) false),
   oo 70 (.bin .eql (tq 69) (.const (.sc (.int .i64 3))))])
 (.cond (tq 70)
 (.reg [oo 71 (.move (tq 10) false),
   oo 72 (.bin .add (tq 71) (.const (.sc (.int .i64 1)))),
   oo 10 (.move (tq 72) false)])
 .skip))
def zjr:CC:=(.reg [oo 73 (.bin .add (tq 47) (.const (.sc (.int .i64 1)))),
   oo 47 (.move (tq 73) false)])
def zk8:CC:=(.seq (.reg [oo 48 (.bin .lss (tq 47) (tq 46))])
 (.seq (.cond (tq 48)
 .skip
 (.seq (.mask (bl 1408 97) (bl 158456324986987472224222422959 97))
 (.exit 0)))
 (.seq (.block 1 (.seq (.reg [oo 49 (.move (tq 47) false),
   oo 50 (.indexAddrS 4 (tq 45) (tq 47)),
   oo 51 (.load true 4 (tq 50) false),
   oo 12 (.alloc true [(.sc (.int .i64 0)),(.sc (.int .u32 0)),(.sc (.int .u16 0)),(.sc (.int .u32 0))]),
   oo 11 (.move (tq 49) false),
   oz (.store 4 (tq 12) (tq 51))])
 (.seq (.seq (.reg [oo 52 (.move (tq 8) false),
   oo 53 (.move (tq 11) false),
   oo 54 (.sliceS 4 (tq 52) none (some (tq 53)) none),
   oo 55 (.lenS (tq 54)),
   oo 56 (.move (.const (.sc (.int .i64 0))) false)])
 (.block 2 (.loop (bl 126347080171001216 97) (bl 158456324987023501021241393071 97)
 zgV)))
 zh0)))
 zjr)))
def zmL:CC:=(.seq (.dreg [] [(oo 74 (.move (tq 10) false),q0),
   (oo 75 (.bin .leq (tq 74) (.const (.sc (.int .i64 1)))),q0),
   (oo 76 (.move (tq 75) false),q0),
   (⟨(some 77),false,(some (76,true)),.move (tq 8) false⟩,q0),
   (⟨(some 78),false,(some (76,true)),.indexAddrS 4 (tq 77) (.const (.sc (.int .i64 0)))⟩,q0),
   (⟨(some 79),false,(some (76,true)),.fieldAddr 0 (tq 78)⟩,q0),
   (⟨(some 80),false,(some (76,true)),.load false 1 (tq 79) false⟩,q0),
   (⟨(some 81),false,(some (76,true)),.bin .eql (tq 80) (.const (.sc (.int .i64 1)))⟩,q0),
   (oo 82 (.pick (tq 76) (tq 81) (.const (.sc (.bool false)))),q0),
   (oo 83 (.move (tq 82) false),q0),
   (⟨(some 84),false,(some (83,true)),.move (tq 8) false⟩,q0),
   (⟨(some 85),false,(some (83,true)),.indexAddrS 4 (tq 84) (.const (.sc (.int .i64 0)))⟩,q0),
   (⟨(some 86),false,(some (83,true)),.fieldAddr 1 (tq 85)⟩,q0),
   (⟨(some 87),false,(some (83,true)),.load true 3 (tq 86) false⟩,q1),
   (⟨(some 88),false,(some (83,true)),.move (tq 7) false⟩,q0),
   (⟨(some 89),false,(some (83,true)),.indexAddrS 3 (tq 88) (.const (.sc (.int .i64 0)))⟩,q0),
   (⟨(some 90),false,(some (83,true)),.load true 3 (tq 89) false⟩,q1),
   (⟨(some 91),false,(some (83,true)),.eqAgg false 3 (tq 87) (tq 90)⟩,q0),
   (oo 92 (.pick (tq 83) (tq 91) (.const (.sc (.bool false)))),q0),
   (oo 93 (.move (tq 92) false),q0),
   (⟨(some 94),false,(some (93,true)),.move (tq 8) false⟩,q0),
   (⟨(some 95),false,(some (93,true)),.call 270 [((tq 94),0)] []⟩,q0),
   (oo 96 (.pick (tq 93) (tq 95) (.const (.sc (.bool false)))),q0),
   (oo 4 (.move (tq 96) false),q0)])
 .ret)
def zkI:CF:=⟨97,[.tmp 4],
 (.seq (.reg [oo 4 (.move (.const (.sc (.bool false))) false)])
 (.seq (.seq (.reg [oo 15 (.call 259 [] []),
   oo 16 (.un .not (tq 15))])
 (.cond (tq 16)
 (.seq (.reg [oo 4 (.move (.const (.sc (.bool false))) false)])
 .ret)
 .skip))
 (.seq (.reg [oo 17 (.move (tq 0) false),
   oo 18 (.call 225 [((tq 17),0)] []),
   oo 5 (.move (tq 18) false)])
 (.seq (.reg [oo 19 (.move (tq 5) false),
   oo 20 (.call 260 [((tq 19),0)] []),
   oo 6 (.alloc true (rp 32 (.sc (.int .u8 0)) (rp 2 (.gs 5 []) []))),
   oz (.store 34 (tq 6) (tq 20))])
 (.seq (.reg [oo 21 (.move (tq 5) false),
   oo 22 (.call 262 [((tq 21),0)] []),
   oo 23 (.move (tq 5) false),
   oo 24 (.call 262 [((tq 23),0)] []),
   oo 25 (.buildSlice 3 2 [(.sc (.int .u32 0)),(.sc (.int .u16 0)),(.sc (.int .u32 0))] [(0,3,(tq 22)),(3,3,(tq 24))]),
   oo 7 (.move (tq 25) false)])
 (.seq (.reg [oo 27 (.load true 34 (tq 6) false),
   oo 28 (.move (tq 7) false),
   oo 29 (.move (tq 1) false),
   oo 30 (.call 268 [((tq 27),1),((tq 28),0),((tq 29),0)] []),
   oo 26 (.move (tq 30) true),
   oo 31 (.extract (tq 26) 0),
   oo 32 (.pull (tq 26) 1),
   oo 8 (.move (tq 31) true),
   oo 9 (.move (tq 32) false)])
 (.seq (.seq (.reg [oo 33 (.move (tq 9) false),
   oo 34 (.un .not (tq 33)),
   oo 35 (.move (tq 34) false),
   ⟨(some 36),false,(some (35,false)),.move (tq 8) false⟩,
   ⟨(some 37),false,(some (35,false)),.lenS (tq 36)⟩,
   ⟨(some 38),false,(some (35,false)),.bin .gtr (tq 37) (.const (.sc (.int .i64 8)))⟩,
   oo 39 (.pick (tq 35) (.const (.sc (.bool true))) (tq 38)),
   oo 40 (.move (tq 39) false),
   ⟨(some 41),false,(some (40,false)),.move (tq 8) false⟩,
   ⟨(some 42),false,(some (40,false)),.lenS (tq 41)⟩,
   ⟨(some 43),false,(some (40,false)),.bin .eql (tq 42) (.const (.sc (.int .i64 0)))⟩,
   oo 44 (.pick (tq 40) (.const (.sc (.bool true))) (tq 43))])
 (.cond (tq 44)
 (.seq (.reg [oo 4 (.move (.const (.sc (.bool false))) false)])
 .ret)
 .skip))
 (.seq (.reg [oo 10 (.move (.const (.sc (.int .i64 0))) false)])
 (.seq (.seq (.reg [oo 45 (.move (tq 8) false),
   oo 46 (.lenS (tq 45)),
   oo 47 (.move (.const (.sc (.int .i64 0))) false)])
 (.block 0 (.loop (bl 246290604623232 97) (bl 158456324986987472224222422959 97)
 zk8)))
 zmL)))))))))⟩
def zjo:Hint:=⟨[(4,2),(6,4),(6,5),(6,7)],[],[none,none,none,none,none,some ((bl 246290604623232 97),(bl 158456324986987472224222422959 97)),none,some ((bl 1408 97),(bl 158456324986987472224222422959 97)),none,none,some ((bl 126347080171001216 97),(bl 158456324987023501021241393071 97)),none,some ((bl 246290604627328 97),(bl 158456324987023501021241393071 97)),none,none,some ((bl 16 97),(bl 158456324986987472224222421951 97)),none,none],[],[],false,false⟩
def zEN:Nat→Sh:=zP [(80,(.int .i64)),(69,(.int .i64))]
def zEL (zd:zx) (zc:xt) (xd:yz) (xf:yC) (zl:xS) (ye:zD) (yb:yr) (L:Nat):CBC:=(zw 269 (zbV yb L) (zw 270 (zeB ye L) (zw 268 (zjC zl L) (zw 262 (ziz xf L) (zw 260 (zgN xd L) (zw 225 (zf5 zc L) (zw 259 (zfB zd L) noC)))))))
def zyK:St→St:=zae 0 (bl 246290604623232 97) (bl 158456324986987472224222422959 97)
def ztY:St→St:=zae 0 (bl 126347080171001216 97) (bl 158456324987023501021241393071 97)
def zxo (p7 p8:List (List V)) (p10:Int) (p45:List (List V)) (p46 p47:Int) (zLN:List (List V)) (zLO:Int):St:=⟨(jn 7 ((V.sl 3 p7)::((V.gs 4 p8)::(jn 1 ((V.sc (.int .i64 p10))::(jn 34 ((V.sl 4 p45)::((V.sc (.int .i64 p46))::((V.sc (.int .i64 p47))::(jn 49 [])))))))))),(gn 18 ((.live false [(V.sl 1 zLN),(V.sc (.int .i64 zLO))])::(gn 78 [])))⟩
def zsS (p7 p8:List (List V)) (p10:Int) (p45:List (List V)) (p46 p47:Int) (p54:List (List V)) (p55 p56:Int) (b12:List V) (zLN:List (List V)) (zLO:Int):St:=⟨(jn 7 ((V.sl 3 p7)::((V.gs 4 p8)::(jn 1 ((V.sc (.int .i64 p10))::(jn 1 ((V.ptr 12 0)::(jn 32 ((V.sl 4 p45)::((V.sc (.int .i64 p46))::((V.sc (.int .i64 p47))::(jn 6 ((V.sl 4 p54)::((V.sc (.int .i64 p55))::((V.sc (.int .i64 p56))::(jn 40 [])))))))))))))))),(gn 12 ((.live true b12)::(gn 5 ((.live false [(V.sl 1 zLN),(V.sc (.int .i64 zLO))])::(gn 78 [])))))⟩
def zC2 (p7 p8:List (List V)) (p10:Int) (zLN:List (List V)) (zLO:Int):St:=⟨(jn 7 ((V.sl 3 p7)::((V.gs 4 p8)::(jn 1 ((V.sc (.int .i64 p10))::(jn 86 [])))))),(gn 18 ((.live false [(V.sl 1 zLN),(V.sc (.int .i64 zLO))])::(gn 78 [])))⟩
def zCy (p4:Bool) (zLN:List (List V)) (zLO:Int):St:=⟨(jn 4 ((V.sc (.bool p4))::(jn 92 []))),(gn 18 ((.live false [(V.sl 1 zLN),(V.sc (.int .i64 zLO))])::(gn 78 [])))⟩
def zC8 (p7 p8:List (List V)) (p10:Int) (p45:List (List V)) (p46 p47:Int) (b12:List V) (zLN:List (List V)) (zLO:Int):St:=⟨(jn 7 ((V.sl 3 p7)::((V.gs 4 p8)::(jn 1 ((V.sc (.int .i64 p10))::(jn 1 ((V.ptr 12 0)::(jn 32 ((V.sl 4 p45)::((V.sc (.int .i64 p46))::((V.sc (.int .i64 p47))::(jn 49 [])))))))))))),(gn 12 ((.live true b12)::(gn 5 ((.live false [(V.sl 1 zLN),(V.sc (.int .i64 zLO))])::(gn 78 [])))))⟩
abbrev zcz (β:Type):Type:=List (List V)→List (List V)→Int→List (List V)→Int→Int→List (List V)→Int→Option β
abbrev zc3 (β:Type):Type:=List (List V)→List (List V)→Int→List (List V)→Int→Int→List (List V)→Int→Int→List V→List (List V)→Int→Option β
abbrev zfE (β:Type):Type:=List (List V)→List (List V)→Int→List (List V)→Int→Option β
abbrev zjH (β:Type):Type:=List (List V)→List (List V)→Int→List (List V)→Int→Int→List V→List (List V)→Int→Option β
def ztw {β:Type} (zd:zx) (zc:xt) (xd:yz) (xf:yC) (zl:xS) (ye:zD) (yb:yr) (L:Nat) (p0 p1:List (List V)) (k_fin:Bool→Option β) (k_hbbbbbbbbaba:zcz β):Option β :=
 zd β L  (fun v0 =>
 ifb (!v0) (
 k_fin false) (
 zc β L p0 (fun v1 v2 =>
 xd β L v1 v2 (fun v3 v4 v5 =>
 chk ((List.length v3)=34∧0+34≤34) (
 lt (xg (List.replicate 32 (V.sc (.int .u8 (0:Int)))++[(V.gs 5 ([]:List (List V))),(V.gs 5 ([]:List (List V)))]) 0 v3) fun r6 =>
 xf β L v4 v5 (fun v7 v8 v9 =>
 xf β L v8 v9 (fun v10 v11 v12 =>
 chk ((List.length v7)=3∧0+3≤6) (
 chk ((List.length v10)=3∧3+3≤(List.length (xg [(V.sc (.int .u32 (0:Int))),(V.sc (.int .u16 (0:Int))),(V.sc (.int .u32 (0:Int))),(V.sc (.int .u32 (0:Int))),(V.sc (.int .u16 (0:Int))),(V.sc (.int .u32 (0:Int)))] 0 v7))) (
 chk (0+34≤(List.length r6)) (
 zl β L (List.map V.dem (List.take 34 r6)) (yl 3 2 (xg (xg [(V.sc (.int .u32 (0:Int))),(V.sc (.int .u16 (0:Int))),(V.sc (.int .u32 (0:Int))),(V.sc (.int .u32 (0:Int))),(V.sc (.int .u16 (0:Int))),(V.sc (.int .u32 (0:Int)))] 0 v7) 3 v10)) p1 (fun v13 v14 =>
 ifb (!v14) (
 k_fin false) (
 ifb (decide (((List.length v13:Nat):Int) > (8:Int))) (
 k_fin false) (
 ifb ((((List.length v13:Nat):Int):Int) == (0:Int)) (
 k_fin false) (
 k_hbbbbbbbbaba (yl 3 2 (xg (xg [(V.sc (.int .u32 (0:Int))),(V.sc (.int .u16 (0:Int))),(V.sc (.int .u32 (0:Int))),(V.sc (.int .u32 (0:Int))),(V.sc (.int .u16 (0:Int))),(V.sc (.int .u32 (0:Int)))] 0 v7) 3 v10)) v13 (0:Int) v13 ((List.length v13:Nat):Int) (0:Int) v11 v12))))))))))))))
def zlo {β:Type} (zd:zx) (zc:xt) (xd:yz) (xf:yC) (zl:xS) (ye:zD) (yb:yr) (L:Nat) (p7 p8:List (List V)) (p10:Int) (p45:List (List V)) (p46 p47:Int) (zLN:List (List V)) (zLO:Int) (k_hbbbbbbbbabaabbaababa:zc3 β) (k_x0:zfE β):Option β :=
 ifb (decide (p47 < p46)) (
 idx p45 p47 fun c15 =>
 chk ((List.length (List.take 4 c15))=4∧0+4≤4) (
 lt (xg [(V.sc (.int .i64 (0:Int))),(V.sc (.int .u32 (0:Int))),(V.sc (.int .u16 (0:Int))),(V.sc (.int .u32 (0:Int)))] 0 (List.take 4 c15)) fun r16 =>
 chk (0≤p47∧p47≤(((List.length p8):Nat):Int)) (
 k_hbbbbbbbbabaabbaababa p7 p8 p10 p45 p46 p47 (List.take ((Int.toNat p47) - 0) (List.drop 0 p8)) ((List.length (List.take ((Int.toNat p47) - 0) (List.drop 0 p8)):Nat):Int) (0:Int) r16 zLN zLO))) (
 k_x0 p7 p8 p10 zLN zLO)
def zkB {β:Type} (zd:zx) (zc:xt) (xd:yz) (xf:yC) (zl:xS) (ye:zD) (yb:yr) (L:Nat) (p7 p8:List (List V)) (p10:Int) (zLN:List (List V)) (zLO:Int) (k_fin:Bool→Option β):Option β :=
 ifb (decide (p10≤(1:Int))) (
 idx p8 (0:Int) fun c17 =>
 cI .i64 c17 0 fun v18 =>
 ifb ((v18:Int) == (1:Int)) (
 idx p8 (0:Int) fun c19 =>
 idx p7 (0:Int) fun c20 =>
 eqC 3 (List.take 3 (List.drop 1 c19)) (List.take 3 c20) fun v21 =>
 ifb v21 (
 ye β L p8 (fun v22 =>
 k_fin v22)) (
 k_fin false)) (
 k_fin false)) (
 k_fin false)
def zhk {β:Type} (zd:zx) (zc:xt) (xd:yz) (xf:yC) (zl:xS) (ye:zD) (yb:yr) (L:Nat) (p7 p8:List (List V)) (p10:Int) (p45:List (List V)) (p46 p47:Int) (p54:List (List V)) (p55 p56:Int) (b12:List V) (zLN:List (List V)) (zLO:Int) (k_ret:Bool→List (List V)→Int→Option β) (k_hbbbbbbbbabaabbaababa:zc3 β) (k_x2:zjH β):Option β :=
 ifb (decide (p56 < p55)) (
 idx p54 p56 fun c23 =>
 chk ((List.length (List.take 4 c23))=4∧0+4≤4) (
 lt (xg [(V.sc (.int .i64 (0:Int))),(V.sc (.int .u32 (0:Int))),(V.sc (.int .u16 (0:Int))),(V.sc (.int .u32 (0:Int)))] 0 (List.take 4 c23)) fun r24 =>
 chk (1+3≤(List.length b12)) (
 yb β L (List.take 3 (List.drop 1 b12)) (fun v25 =>
 chk (1+3≤(List.length r24)) (
 yb β L (List.take 3 (List.drop 1 r24)) (fun v26 =>
 ifb ((v25:Int) == v26) (
 k_ret false zLN zLO) (
 lt (IntKind.wrap .i64 ((p56:Int)+(1:Int))) fun x27 =>
 k_hbbbbbbbbabaabbaababa p7 p8 p10 p45 p46 p47 p54 p55 x27 b12 zLN zLO))))))) (
 k_x2 p7 p8 p10 p45 p46 p47 b12 zLN zLO)
def zgf {β:Type} (zd:zx) (zc:xt) (xd:yz) (xf:yC) (zl:xS) (ye:zD) (yb:yr) (L:Nat) (p4:Bool) (zLN:List (List V)) (zLO:Int) (k_ret:Bool→List (List V)→Int→Option β):Option β :=
 k_ret p4 zLN zLO
def zgH {β:Type} (zd:zx) (zc:xt) (xd:yz) (xf:yC) (zl:xS) (ye:zD) (yb:yr) (L:Nat) (p7 p8:List (List V)) (p10:Int) (p45:List (List V)) (p46 p47:Int) (b12:List V) (zLN:List (List V)) (zLO:Int) (k_hbbbbbbbbaba:zcz β):Option β :=
 cI .i64 b12 0 fun v28 =>
 ifb ((v28:Int) == (3:Int)) (
 lt (IntKind.wrap .i64 ((p10:Int)+(1:Int))) fun x29 =>
 lt (IntKind.wrap .i64 ((p47:Int)+(1:Int))) fun x30 =>
 k_hbbbbbbbbaba p7 p8 x29 p45 p46 x30 zLN zLO) (
 lt (IntKind.wrap .i64 ((p47:Int)+(1:Int))) fun x31 =>
 k_hbbbbbbbbaba p7 p8 p10 p45 p46 x31 zLN zLO)
def zju {β:Type} (zd:zx) (zc:xt) (xd:yz) (xf:yC) (zl:xS) (ye:zD) (yb:yr) (L:Nat) (p4:Bool) (zLN:List (List V)) (zLO:Int) (k_fin:Bool→Option β):Option β :=
 k_fin p4
def zde {β:Type} (zd:zx) (zc:xt) (xd:yz) (xf:yC) (zl:xS) (ye:zD) (yb:yr) (L:Nat) (k_ret:Bool→List (List V)→Int→Option β) (k_x2:zjH β):Nat→List (List V)→List (List V)→Int→List (List V)→Int→Int→List (List V)→Int→Int→List V→List (List V)→Int→Option β
 | 0,_,_,_,_,_,_,_,_,_,_,_,_=>none
 | n+1,p7,p8,p10,p45,p46,p47,p54,p55,p56,b12,zLN,zLO=>zhk zd zc xd xf zl ye yb L p7 p8 p10 p45 p46 p47 p54 p55 p56 b12 zLN zLO k_ret (fun p7 p8 p10 p45 p46 p47 p54 p55 p56 b12 zLN zLO=>zde zd zc xd xf zl ye yb L k_ret k_x2 n p7 p8 p10 p45 p46 p47 p54 p55 p56 b12 zLN zLO) k_x2
def zli {β:Type} (zd:zx) (zc:xt) (xd:yz) (xf:yC) (zl:xS) (ye:zD) (yb:yr) (L:Nat) (p7 p8:List (List V)) (p10:Int) (p45:List (List V)) (p46 p47:Int) (zLN:List (List V)) (zLO:Int) (k_x0:zfE β) (k_ret:Bool→List (List V)→Int→Option β) (k_hbbbbbbbbaba:zcz β):Option β :=
 zlo zd zc xd xf zl ye yb L p7 p8 p10 p45 p46 p47 zLN zLO (fun p7 p8 p10 p45 p46 p47 p54 p55 p56 b12 zLN zLO=>zde zd zc xd xf zl ye yb L (fun p4 zLN zLO=>zgf zd zc xd xf zl ye yb L p4 zLN zLO k_ret) (fun p7 p8 p10 p45 p46 p47 b12 zLN zLO=>zgH zd zc xd xf zl ye yb L p7 p8 p10 p45 p46 p47 b12 zLN zLO k_hbbbbbbbbaba) L p7 p8 p10 p45 p46 p47 p54 p55 p56 b12 zLN zLO) k_x0
def zfe {β:Type} (zd:zx) (zc:xt) (xd:yz) (xf:yC) (zl:xS) (ye:zD) (yb:yr) (L:Nat) (k_x0:zfE β) (k_ret:Bool→List (List V)→Int→Option β):Nat→List (List V)→List (List V)→Int→List (List V)→Int→Int→List (List V)→Int→Option β
 | 0,_,_,_,_,_,_,_,_=>none
 | n+1,p7,p8,p10,p45,p46,p47,zLN,zLO=>zli zd zc xd xf zl ye yb L p7 p8 p10 p45 p46 p47 zLN zLO k_x0 k_ret (fun p7 p8 p10 p45 p46 p47 zLN zLO=>zfe zd zc xd xf zl ye yb L k_x0 k_ret n p7 p8 p10 p45 p46 p47 zLN zLO)
def ztt {β:Type} (zd:zx) (zc:xt) (xd:yz) (xf:yC) (zl:xS) (ye:zD) (yb:yr) (L:Nat) (p0 p1:List (List V)) (k_fin:Bool→Option β):Option β :=
 ztw zd zc xd xf zl ye yb L p0 p1 k_fin (fun p7 p8 p10 p45 p46 p47 zLN zLO=>zfe zd zc xd xf zl ye yb L (fun p7 p8 p10 zLN zLO=>zkB zd zc xd xf zl ye yb L p7 p8 p10 zLN zLO k_fin) (fun p4 zLN zLO=>zju zd zc xd xf zl ye yb L p4 zLN zLO k_fin) L p7 p8 p10 p45 p46 p47 zLN zLO)
abbrev zs4:=∀ (β:Type),Nat→List (List V)→List (List V)→(Bool→Option β)→Option β
def zlz (β:Type) (L:Nat) (p0 p1:List (List V)) (k_fin:Bool→Option β):Option β:=ztt zd zc xd xf zl ye yb L p0 p1 k_fin
def zE0 (zlz:zs4) (L:Nat) (β:Type) (args:List V) (bor:Bor) (k:KK β):Option β:=match args,bor with
 | [a0,a1],[]=>aL 1 a0 fun p0=>aL 1 a1 fun p1=>zlz β L p0 p1 (fun p0=>k (V.sc (.bool p0)) [])
 | _,_=>none
def zn4:CC:=(.seq (.reg [oo 26 (.bin .lss (tq 25) (tq 24))])
 (.seq (.cond (tq 26)
 .skip
 (.seq (.mask (bl 3840 81) (bl 2417851350435691726081983 81))
 (.exit 0)))
 (.seq (.block 1 (.seq (.reg [oo 27 (.move (tq 25) false),
   oo 12 (.move (tq 27) false)])
 (.seq (.reg [oo 29 (.load true 34 (tq 8) false),
   oo 30 (.move (tq 1) false),
   oo 31 (.bin .rem (tq 30) (.const (.sc (.int .u64 1152921504606846976)))),
   oo 32 (.move (tq 12) false),
   oo 33 (.conv .u64 (tq 32)),
   oo 34 (.bin .add (tq 31) (tq 33)),
   oo 35 (.call 263 [((tq 29),1),((.const (.gs 3 [])),0),((.const (.gs 4 [])),0),((tq 34),0)] []),
   oo 28 (.move (tq 35) true),
   oo 36 (.pull (tq 28) 0),
   oo 37 (.pull (tq 28) 1),
   oo 13 (.alloc true [(.sc (.int .i64 0)),(.sc (.int .u32 0)),(.sc (.int .u16 0)),(.sc (.int .u32 0))]),
   oz (.store 4 (tq 13) (tq 36)),
   oo 14 (.move (tq 37) false)])
 (.seq (.seq (.reg [oo 38 (.move (tq 14) false),
   oo 39 (.bin .neq (tq 38) (.const (.sc (.int .i64 0)))),
   oo 40 (.move (tq 39) false),
   ⟨(some 41),false,(some (40,false)),.fieldAddr 0 (tq 13)⟩,
   ⟨(some 42),false,(some (40,false)),.load false 1 (tq 41) false⟩,
   ⟨(some 43),false,(some (40,false)),.bin .neq (tq 42) (.const (.sc (.int .i64 2)))⟩,
   oo 44 (.pick (tq 40) (.const (.sc (.bool true))) (tq 43))])
 (.cond (tq 44)
 (.seq (.reg [oo 6 (.move (.const (.sc (.bool false))) false)])
 (.seq (.mask (bl 64 81) (bl 2417851350435691726078719 81))
 .ret))
 .skip))
 (.seq (.seq (.reg [oo 45 (.move (tq 9) false),
   oo 46 (.move (tq 12) false),
   oo 47 (.indexAddrS 3 (tq 45) (tq 46)),
   oo 48 (.load true 3 (tq 47) false),
   oo 49 (.call 269 [((tq 48),0)] []),
   oo 50 (.bin .rem (tq 49) (.const (.sc (.int .u32 3)))),
   oo 51 (.move (tq 2) false),
   oo 52 (.bin .rem (tq 51) (.const (.sc (.int .u32 3)))),
   oo 53 (.bin .eql (tq 50) (tq 52))])
 (.cond (tq 53)
 (.reg [oo 54 (.move (tq 10) false),
   oo 55 (.bin .add (tq 54) (.const (.sc (.int .i64 1)))),
   oo 10 (.move (tq 55) false)])
 .skip))
 (.seq (.reg [oo 56 (.fieldAddr 1 (tq 13)),
   oo 57 (.load true 3 (tq 56) false),
   oo 58 (.call 269 [((tq 57),0)] []),
   oo 59 (.bin .rem (tq 58) (.const (.sc (.int .u32 3)))),
   oo 60 (.move (tq 2) false),
   oo 61 (.bin .rem (tq 60) (.const (.sc (.int .u32 3)))),
   oo 62 (.bin .eql (tq 59) (tq 61))])
 (.cond (tq 62)
 (.reg [oo 63 (.move (tq 11) false),
   oo 64 (.bin .add (tq 63) (.const (.sc (.int .i64 1)))),
   oo 11 (.move (tq 64) false)])
 .skip)))))))
 (.reg [oo 65 (.bin .add (tq 25) (.const (.sc (.int .i64 1)))),
   oo 25 (.move (tq 65) false)]))))
def zp7:CC:=(.seq (.reg [oo 66 (.move (tq 10) false),
   oo 67 (.move (tq 11) false),
   oo 68 (.bin .eql (tq 66) (tq 67)),
   oo 69 (.move (tq 68) false),
   ⟨(some 70),false,(some (69,true)),.move (tq 9) false⟩,
   ⟨(some 71),false,(some (69,true)),.lenS (tq 70)⟩,
   ⟨(some 72),false,(some (69,true)),.fieldAddr 32 (tq 8)⟩,
   ⟨(some 73),false,(some (69,true)),.load false 1 (tq 72) false⟩,
   ⟨(some 74),false,(some (69,true)),.lenS (tq 73)⟩,
   ⟨(some 75),false,(some (69,true)),.fieldAddr 33 (tq 8)⟩,
   ⟨(some 76),false,(some (69,true)),.load false 1 (tq 75) false⟩,
   ⟨(some 77),false,(some (69,true)),.lenS (tq 76)⟩,
   ⟨(some 78),false,(some (69,true)),.bin .add (tq 74) (tq 77)⟩,
   ⟨(some 79),false,(some (69,true)),.bin .eql (tq 71) (tq 78)⟩,
   oo 80 (.pick (tq 69) (tq 79) (.const (.sc (.bool false)))),
   oo 6 (.move (tq 80) false)])
 .ret)
def znN:CF:=⟨81,[.tmp 6],
 (.seq (.reg [oo 6 (.move (.const (.sc (.bool false))) false)])
 (.seq (.seq (.reg [oo 15 (.call 259 [] []),
   oo 16 (.un .not (tq 15))])
 (.cond (tq 16)
 (.seq (.reg [oo 6 (.move (.const (.sc (.bool false))) false)])
 .ret)
 .skip))
 (.seq (.reg [oo 17 (.move (tq 0) false),
   oo 18 (.call 225 [((tq 17),0)] []),
   oo 7 (.move (tq 18) false)])
 (.seq (.reg [oo 19 (.move (tq 7) false),
   oo 20 (.call 260 [((tq 19),0)] []),
   oo 8 (.alloc true (rp 32 (.sc (.int .u8 0)) (rp 2 (.gs 5 []) []))),
   oz (.store 34 (tq 8) (tq 20))])
 (.seq (.reg [oo 21 (.load true 34 (tq 8) false),
   oo 22 (.call 266 [((tq 21),1),((.const (.gs 4 [])),0),((.const (.sc (.int .i64 2))),0)] []),
   oo 9 (.move (tq 22) false)])
 (.seq (.reg [oo 10 (.move (.const (.sc (.int .i64 0))) false),
   oo 11 (.move (.const (.sc (.int .i64 0))) false)])
 (.seq (.seq (.reg [oo 23 (.move (tq 9) false),
   oo 24 (.lenS (tq 23)),
   oo 25 (.move (.const (.sc (.int .i64 0))) false)])
 (.block 0 (.loop (bl 50335494 81) (bl 2417851350435691726081983 81)
 zn4)))
 zp7)))))))⟩
def zlK:Hint:=⟨[(4,2),(10,7)],[],[none,none,none,some ((bl 50335494 81),(bl 2417851350435691726081983 81)),none,some ((bl 3840 81),(bl 2417851350435691726081983 81)),none,none,some ((bl 64 81),(bl 2417851350435691726078719 81)),none,none,none],[],[],false,false⟩
def zGv:Nat→Sh:=zP [(42,(.int .i64)),(73,(.sl 5)),(76,(.sl 5))]
def zFw (zd:zx) (zc:xt) (xd:yz) (zb:yn) (xb:xr) (yb:yr) (L:Nat):CBC:=(zw 269 (zbV yb L) (zw 263 (zc5 xb L) (zw 266 (zct zb L) (zw 260 (zgN xd L) (zw 225 (zf5 zc L) (zw 259 (zfB zd L) noC))))))
def zBt:St→St:=zae 0 (bl 50335494 81) (bl 2417851350435691726081983 81)
def zzH (p1 p2:Int) (p9:List (List V)) (p10 p11 p24 p25:Int) (b8:List V) (zLN:List (List V)) (zLO:Int):St:=⟨(jn 1 ((V.sc (.int .u64 p1))::((V.sc (.int .u32 p2))::(jn 5 ((V.ptr 8 0)::((V.sl 3 p9)::((V.sc (.int .i64 p10))::((V.sc (.int .i64 p11))::(jn 12 ((V.sc (.int .i64 p24))::((V.sc (.int .i64 p25))::(jn 55 [])))))))))))),(gn 8 ((.live true b8)::(gn 9 ((.live false [(V.sl 1 zLN),(V.sc (.int .i64 zLO))])::(gn 62 [])))))⟩
def zEl (p6:Bool) (zLN:List (List V)) (zLO:Int):St:=⟨(jn 6 ((V.sc (.bool p6))::(jn 74 []))),(gn 18 ((.live false [(V.sl 1 zLN),(V.sc (.int .i64 zLO))])::(gn 62 [])))⟩
def zEJ (p9:List (List V)) (p10 p11:Int) (b8:List V) (zLN:List (List V)) (zLO:Int):St:=⟨(jn 8 ((V.ptr 8 0)::((V.sl 3 p9)::((V.sc (.int .i64 p10))::((V.sc (.int .i64 p11))::(jn 69 [])))))),(gn 8 ((.live true b8)::(gn 9 ((.live false [(V.sl 1 zLN),(V.sc (.int .i64 zLO))])::(gn 62 [])))))⟩
abbrev zgS (β:Type):Type:=Int→Int→List (List V)→Int→Int→Int→Int→List V→List (List V)→Int→Option β
abbrev zmz (β:Type):Type:=List (List V)→Int→Int→List V→List (List V)→Int→Option β
def zwl {β:Type} (zd:zx) (zc:xt) (xd:yz) (zb:yn) (xb:xr) (yb:yr) (L:Nat) (p0:List (List V)) (p1 p2:Int) (k_fin:Bool→Option β) (k_hbbbbbbaba:zgS β):Option β :=
 zd β L  (fun v0 =>
 ifb (!v0) (
 k_fin false) (
 zc β L p0 (fun v1 v2 =>
 xd β L v1 v2 (fun v3 v4 v5 =>
 chk ((List.length v3)=34∧0+34≤34) (
 lt (xg (List.replicate 32 (V.sc (.int .u8 (0:Int)))++[(V.gs 5 ([]:List (List V))),(V.gs 5 ([]:List (List V)))]) 0 v3) fun r6 =>
 chk (0+34≤(List.length r6)) (
 zb β L (List.map V.dem (List.take 34 r6)) ([]:List (List V)) (2:Int) (fun v7 =>
 k_hbbbbbbaba p1 p2 v7 (0:Int) (0:Int) ((List.length v7:Nat):Int) (0:Int) r6 v4 v5)))))))
def zoU {β:Type} (zd:zx) (zc:xt) (xd:yz) (zb:yn) (xb:xr) (yb:yr) (L:Nat) (p1 p2:Int) (p9:List (List V)) (p10 p11 p24 p25:Int) (b8:List V) (zLN:List (List V)) (zLO:Int) (k_ret:Bool→List (List V)→Int→Option β) (k_hbbbbbbaba:zgS β) (k_x0:zmz β):Option β :=
 ifb (decide (p25 < p24)) (
 chk (0+34≤(List.length b8)) (
 lt (Int.tmod p1 (1152921504606846976:Int)) fun x8 =>
 lt (IntKind.wrap .u64 p25) fun x9 =>
 lt (IntKind.wrap .u64 ((x8:Int)+x9)) fun x10 =>
 xb β L (List.map V.dem (List.take 34 b8)) ([]:List (List V)) ([]:List (List V)) x10 (fun v11 v12 =>
 chk ((List.length v11)=4∧0+4≤4) (
 lt (xg [(V.sc (.int .i64 (0:Int))),(V.sc (.int .u32 (0:Int))),(V.sc (.int .u16 (0:Int))),(V.sc (.int .u32 (0:Int)))] 0 v11) fun r13 =>
 ifb ((v12:Int) != (0:Int)) (
 k_ret false zLN zLO) (
 cI .i64 r13 0 fun v14 =>
 ifb ((v14:Int) != (2:Int)) (
 k_ret false zLN zLO) (
 idx p9 p25 fun c15 =>
 yb β L (List.take 3 c15) (fun v16 =>
 lt (Int.tmod v16 (3:Int)) fun x17 =>
 lt (Int.tmod p2 (3:Int)) fun x18 =>
 ifb ((x17:Int) == x18) (
 lt (IntKind.wrap .i64 ((p10:Int)+(1:Int))) fun x19 =>
 chk (1+3≤(List.length r13)) (
 yb β L (List.take 3 (List.drop 1 r13)) (fun v20 =>
 lt (Int.tmod v20 (3:Int)) fun x21 =>
 lt (Int.tmod p2 (3:Int)) fun x22 =>
 ifb ((x21:Int) == x22) (
 lt (IntKind.wrap .i64 ((p11:Int)+(1:Int))) fun x23 =>
 lt (IntKind.wrap .i64 ((p25:Int)+(1:Int))) fun x24 =>
 k_hbbbbbbaba p1 p2 p9 x19 x23 p24 x24 b8 zLN zLO) (
 lt (IntKind.wrap .i64 ((p25:Int)+(1:Int))) fun x25 =>
 k_hbbbbbbaba p1 p2 p9 x19 p11 p24 x25 b8 zLN zLO)))) (
 chk (1+3≤(List.length r13)) (
 yb β L (List.take 3 (List.drop 1 r13)) (fun v26 =>
 lt (Int.tmod v26 (3:Int)) fun x27 =>
 lt (Int.tmod p2 (3:Int)) fun x28 =>
 ifb ((x27:Int) == x28) (
 lt (IntKind.wrap .i64 ((p11:Int)+(1:Int))) fun x29 =>
 lt (IntKind.wrap .i64 ((p25:Int)+(1:Int))) fun x30 =>
 k_hbbbbbbaba p1 p2 p9 p10 x29 p24 x30 b8 zLN zLO) (
 lt (IntKind.wrap .i64 ((p25:Int)+(1:Int))) fun x31 =>
 k_hbbbbbbaba p1 p2 p9 p10 p11 p24 x31 b8 zLN zLO))))))))))) (
 k_x0 p9 p10 p11 b8 zLN zLO)
def zmJ {β:Type} (zd:zx) (zc:xt) (xd:yz) (zb:yn) (xb:xr) (yb:yr) (L:Nat) (p6:Bool) (zLN:List (List V)) (zLO:Int) (k_fin:Bool→Option β):Option β :=
 k_fin p6
def zna {β:Type} (zd:zx) (zc:xt) (xd:yz) (zb:yn) (xb:xr) (yb:yr) (L:Nat) (p9:List (List V)) (p10 p11:Int) (b8:List V) (zLN:List (List V)) (zLO:Int) (k_fin:Bool→Option β):Option β :=
 ifb ((p10:Int) == p11) (
 cLd 5 b8 32 fun v32 =>
 cLd 5 b8 33 fun v33 =>
 lt (IntKind.wrap .i64 ((((List.length v32:Nat):Int):Int)+((List.length v33:Nat):Int))) fun x34 =>
 k_fin ((((List.length p9:Nat):Int):Int) == x34)) (
 k_fin false)
def zhh {β:Type} (zd:zx) (zc:xt) (xd:yz) (zb:yn) (xb:xr) (yb:yr) (L:Nat) (k_ret:Bool→List (List V)→Int→Option β) (k_x0:zmz β):Nat→Int→Int→List (List V)→Int→Int→Int→Int→List V→List (List V)→Int→Option β
 | 0,_,_,_,_,_,_,_,_,_,_=>none
 | n+1,p1,p2,p9,p10,p11,p24,p25,b8,zLN,zLO=>zoU zd zc xd zb xb yb L p1 p2 p9 p10 p11 p24 p25 b8 zLN zLO k_ret (fun p1 p2 p9 p10 p11 p24 p25 b8 zLN zLO=>zhh zd zc xd zb xb yb L k_ret k_x0 n p1 p2 p9 p10 p11 p24 p25 b8 zLN zLO) k_x0
def zv2 {β:Type} (zd:zx) (zc:xt) (xd:yz) (zb:yn) (xb:xr) (yb:yr) (L:Nat) (p0:List (List V)) (p1 p2:Int) (k_fin:Bool→Option β):Option β :=
 zwl zd zc xd zb xb yb L p0 p1 p2 k_fin (fun p1 p2 p9 p10 p11 p24 p25 b8 zLN zLO=>zhh zd zc xd zb xb yb L (fun p6 zLN zLO=>zmJ zd zc xd zb xb yb L p6 zLN zLO k_fin) (fun p9 p10 p11 b8 zLN zLO=>zna zd zc xd zb xb yb L p9 p10 p11 b8 zLN zLO k_fin) L p1 p2 p9 p10 p11 p24 p25 b8 zLN zLO)
abbrev zv1:=∀ (β:Type),Nat→List (List V)→Int→Int→(Bool→Option β)→Option β
def zob (β:Type) (L:Nat) (p0:List (List V)) (p1 p2:Int) (k_fin:Bool→Option β):Option β:=zv2 zd zc xd zb xb yb L p0 p1 p2 k_fin
def zGB (zob:zv1) (L:Nat) (β:Type) (args:List V) (bor:Bor) (k:KK β):Option β:=match args,bor with
 | [a0,a1,a2],[]=>aL 1 a0 fun p0=>aI .u64 a1 fun p1=>aI .u32 a2 fun p2=>zob β L p0 p1 p2 (fun p0=>k (V.sc (.bool p0)) [])
 | _,_=>none
def zaZ:CC:=(.seq (.reg [oo 29 (.bin .lss (tq 28) (tq 27))])
 (.seq (.cond (tq 29)
 .skip
 (.seq (.mask (bl 1540 47) (bl 140720308481919 47))
 (.exit 0)))
 (.seq (.block 1 (.seq (.reg [oo 30 (.indexAddrS 4 (tq 26) (tq 28)),
   oo 31 (.load true 4 (tq 30) false),
   oo 12 (.alloc true [(.sc (.int .i64 0)),(.sc (.int .u32 0)),(.sc (.int .u16 0)),(.sc (.int .u32 0))]),
   oz (.store 4 (tq 12) (tq 31))])
 (.seq (.reg [oo 32 (.fieldAddr 1 (tq 12)),
   oo 33 (.load true 3 (tq 32) false),
   oo 34 (.call 269 [((tq 33),0)] []),
   oo 35 (.move (tq 2) false),
   oo 36 (.conv .u32 (tq 35)),
   oo 37 (.bin .lss (tq 34) (tq 36))])
 (.cond (tq 37)
 (.reg [oo 38 (.move (tq 10) false),
   oo 39 (.bin .add (tq 38) (.const (.sc (.int .i64 1)))),
   oo 10 (.move (tq 39) false)])
 .skip))))
 (.reg [oo 40 (.bin .add (tq 28) (.const (.sc (.int .i64 1)))),
   oo 28 (.move (tq 40) false)]))))
def zdG:CC:=(.seq (.reg [oo 41 (.move (tq 9) false),
   oo 42 (.move (tq 41) false),
   ⟨(some 43),false,(some (42,true)),.move (tq 10) false⟩,
   ⟨(some 44),false,(some (42,true)),.move (tq 2) false⟩,
   ⟨(some 45),false,(some (42,true)),.bin .leq (tq 43) (tq 44)⟩,
   oo 46 (.pick (tq 42) (tq 45) (.const (.sc (.bool false)))),
   oo 6 (.move (tq 46) false)])
 .ret)
def zba:CF:=⟨47,[.tmp 6],
 (.seq (.reg [oo 6 (.move (.const (.sc (.bool false))) false)])
 (.seq (.seq (.reg [oo 13 (.call 259 [] []),
   oo 14 (.un .not (tq 13))])
 (.cond (tq 14)
 (.seq (.reg [oo 6 (.move (.const (.sc (.bool false))) false)])
 .ret)
 .skip))
 (.seq (.reg [oo 15 (.move (tq 0) false),
   oo 16 (.call 225 [((tq 15),0)] []),
   oo 17 (.call 260 [((tq 16),0)] []),
   oo 7 (.alloc true (rp 32 (.sc (.int .u8 0)) (rp 2 (.gs 5 []) []))),
   oz (.store 34 (tq 7) (tq 17))])
 (.seq (.reg [oo 19 (.load true 34 (tq 7) false),
   oo 20 (.move (tq 1) false),
   oo 21 (.call 268 [((tq 19),1),((.const (.gs 3 [])),0),((tq 20),0)] []),
   oo 18 (.move (tq 21) true),
   oo 22 (.extract (tq 18) 0),
   oo 23 (.pull (tq 18) 1),
   oo 8 (.move (tq 22) false),
   oo 9 (.move (tq 23) false)])
 (.seq (.reg [oo 24 (.move (tq 2) false),
   oo 25 (.call 217 [((tq 24),0),((.const (.sc (.int .i64 7))),0)] []),
   oo 2 (.move (tq 25) false)])
 (.seq (.reg [oo 10 (.move (.const (.sc (.int .i64 0))) false)])
 (.seq (.seq (.reg [oo 26 (.move (tq 8) false),
   oo 27 (.lenS (tq 26)),
   oo 28 (.move (.const (.sc (.int .i64 0))) false)])
 (.block 0 (.loop (bl 469763588 47) (bl 140720308481919 47)
 zaZ)))
 zdG)))))))⟩
def zje:Hint:=⟨[(3,3),(4,3),(4,4)],[],[none,none,none,some ((bl 469763588 47),(bl 140720308481919 47)),none,some ((bl 1540 47),(bl 140720308481919 47)),none,none,none],[],[],false,false⟩
def z7:Nat→Sh:=zP []
def y6 (zd:zx) (zc:xt) (xd:yz) (zl:xS) (yi:xO) (yb:yr) (L:Nat):CBC:=(zw 269 (zbV yb L) (zw 217 (zkv yi L) (zw 268 (zjC zl L) (zw 260 (zgN xd L) (zw 225 (zf5 zc L) (zw 259 (zfB zd L) noC))))))
def zb4:St→St:=zae 0 (bl 469763588 47) (bl 140720308481919 47)
def zbo (p2:Int) (p9:Bool) (p10:Int) (p26:List (List V)) (p27 p28:Int) (zK1:List (List V)) (zK2:Int):St:=⟨(jn 2 ((V.sc (.int .i64 p2))::(jn 6 ((V.sc (.bool p9))::((V.sc (.int .i64 p10))::(jn 15 ((V.sl 4 p26)::((V.sc (.int .i64 p27))::((V.sc (.int .i64 p28))::(jn 18 [])))))))))),(gn 16 ((.live false [(V.sl 1 zK1),(V.sc (.int .i64 zK2))])::(gn 30 [])))⟩
def zeD (p2:Int) (p9:Bool) (p10:Int) (zK1:List (List V)) (zK2:Int):St:=⟨(jn 2 ((V.sc (.int .i64 p2))::(jn 6 ((V.sc (.bool p9))::((V.sc (.int .i64 p10))::(jn 36 [])))))),(gn 16 ((.live false [(V.sl 1 zK1),(V.sc (.int .i64 zK2))])::(gn 30 [])))⟩
abbrev zfA (β:Type):Type:=Int→Bool→Int→List (List V)→Int→Int→List (List V)→Int→Option β
def zgD {β:Type} (zd:zx) (zc:xt) (xd:yz) (zl:xS) (yi:xO) (yb:yr) (L:Nat) (p0 p1:List (List V)) (p2:Int) (k_fin:Bool→Option β) (k_hbbbbbbaba:zfA β):Option β :=
 zd β L  (fun v0 =>
 ifb (!v0) (
 k_fin false) (
 zc β L p0 (fun v1 v2 =>
 xd β L v1 v2 (fun v3 v4 v5 =>
 chk ((List.length v3)=34∧0+34≤34) (
 lt (xg (List.replicate 32 (V.sc (.int .u8 (0:Int)))++[(V.gs 5 ([]:List (List V))),(V.gs 5 ([]:List (List V)))]) 0 v3) fun r6 =>
 chk (0+34≤(List.length r6)) (
 zl β L (List.map V.dem (List.take 34 r6)) ([]:List (List V)) p1 (fun v7 v8 =>
 yi β L p2 (7:Int) (fun v9 =>
 k_hbbbbbbaba v9 v8 (0:Int) v7 ((List.length v7:Nat):Int) (0:Int) v4 v5))))))))
theorem zqM {β:Type} (zd:zx) (zc:xt) (xd:yz) (zl:xS) (yi:xO) (yb:yr) (L:Nat) (p0 p1:List (List V)) (p2:Int) (k:KK β):zt z7 (y6 zd zc xd zl yi yb L) L zba [(V.sl 1 p0),(V.sl 1 p1),(V.sc (.int .i64 p2))] [] k=zgD zd zc xd zl yi yb L p0 p1 p2 (fun p0=>k (V.sc (.bool p0)) []) (fun p2 p9 p10 p26 p27 p28 zK1 zK2=>yE (yo z7 (y6 zd zc xd zl yi yb L) 0 L zaZ) zb4 L (zbo p2 p9 p10 p26 p27 p28 zK1 zK2) (xG 0 (yU (yo z7 (y6 zd zc xd zl yi yb L) 0 L zdG) (xZ 0 (CF.res zba) k)))):=by kernel_rfl
def zdl {β:Type} (zd:zx) (zc:xt) (xd:yz) (zl:xS) (yi:xO) (yb:yr) (L:Nat) (p2:Int) (p9:Bool) (p10:Int) (p26:List (List V)) (p27 p28:Int) (zK1:List (List V)) (zK2:Int) (k_hbbbbbbaba:zfA β) (k_x0:Int→Bool→Int→List (List V)→Int→Option β):Option β :=
 ifb (decide (p28 < p27)) (
 idx p26 p28 fun c10 =>
 chk ((List.length (List.take 4 c10))=4∧0+4≤4) (
 lt (xg [(V.sc (.int .i64 (0:Int))),(V.sc (.int .u32 (0:Int))),(V.sc (.int .u16 (0:Int))),(V.sc (.int .u32 (0:Int)))] 0 (List.take 4 c10)) fun r11 =>
 chk (1+3≤(List.length r11)) (
 yb β L (List.take 3 (List.drop 1 r11)) (fun v12 =>
 lt (IntKind.wrap .u32 p2) fun x13 =>
 ifb (decide (v12 < x13)) (
 lt (IntKind.wrap .i64 ((p10:Int)+(1:Int))) fun x14 =>
 lt (IntKind.wrap .i64 ((p28:Int)+(1:Int))) fun x15 =>
 k_hbbbbbbaba p2 p9 x14 p26 p27 x15 zK1 zK2) (
 lt (IntKind.wrap .i64 ((p28:Int)+(1:Int))) fun x16 =>
 k_hbbbbbbaba p2 p9 p10 p26 p27 x16 zK1 zK2))))) (
 k_x0 p2 p9 p10 zK1 zK2)
theorem zlh {β:Type} (zd:zx) (zc:xt) (xd:yz) (zl:xS) (yi:xO) (yb:yr) (L:Nat) (p2:Int) (p9:Bool) (p10:Int) (p26:List (List V)) (p27 p28:Int) (zK1:List (List V)) (zK2:Int) (X:St→Option β) (K:KT β):yo z7 (y6 zd zc xd zl yi yb L) 0 L zaZ (zbo p2 p9 p10 p26 p27 p28 zK1 zK2) (zcr zb4 X K)=zdl zd zc xd zl yi yb L p2 p9 p10 p26 p27 p28 zK1 zK2 (fun p2 p9 p10 p26 p27 p28 zK1 zK2=>X (zbo p2 p9 p10 p26 p27 p28 zK1 zK2)) (fun p2 p9 p10 zK1 zK2=>K (.exit 0) (zeD p2 p9 p10 zK1 zK2)):=by kernel_rfl
def zcT {β:Type} (zd:zx) (zc:xt) (xd:yz) (zl:xS) (yi:xO) (yb:yr) (L:Nat) (p2:Int) (p9:Bool) (p10:Int) (zK1:List (List V)) (zK2:Int) (k_fin:Bool→Option β):Option β :=
 ifb p9 (
 k_fin (decide (p10≤p2))) (
 k_fin false)
theorem zjW {β:Type} (zd:zx) (zc:xt) (xd:yz) (zl:xS) (yi:xO) (yb:yr) (L:Nat) (p2:Int) (p9:Bool) (p10:Int) (zK1:List (List V)) (zK2:Int) (k:KK β):(xG 0 (yU (yo z7 (y6 zd zc xd zl yi yb L) 0 L zdG) (xZ 0 (CF.res zba) k))) (.exit 0) (zeD p2 p9 p10 zK1 zK2)=zcT zd zc xd zl yi yb L p2 p9 p10 zK1 zK2 (fun p0=>k (V.sc (.bool p0)) []):=by kernel_rfl
def za6 {β:Type} (zd:zx) (zc:xt) (xd:yz) (zl:xS) (yi:xO) (yb:yr) (L:Nat) (k_x0:Int→Bool→Int→List (List V)→Int→Option β):Nat→Int→Bool→Int→List (List V)→Int→Int→List (List V)→Int→Option β
 | 0,_,_,_,_,_,_,_,_=>none
 | n+1,p2,p9,p10,p26,p27,p28,zK1,zK2=>zdl zd zc xd zl yi yb L p2 p9 p10 p26 p27 p28 zK1 zK2 (fun p2 p9 p10 p26 p27 p28 zK1 zK2=>za6 zd zc xd zl yi yb L k_x0 n p2 p9 p10 p26 p27 p28 zK1 zK2) k_x0
theorem zeY {β:Type} (zd:zx) (zc:xt) (xd:yz) (zl:xS) (yi:xO) (yb:yr) (L:Nat) (K:KT β):∀ (n:Nat) (p2:Int) (p9:Bool) (p10:Int) (p26:List (List V)) (p27 p28:Int) (zK1:List (List V)) (zK2:Int),yE (yo z7 (y6 zd zc xd zl yi yb L) 0 L zaZ) zb4 n (zbo p2 p9 p10 p26 p27 p28 zK1 zK2) K=za6 zd zc xd zl yi yb L (fun p2 p9 p10 zK1 zK2=>K (.exit 0) (zeD p2 p9 p10 zK1 zK2)) n p2 p9 p10 p26 p27 p28 zK1 zK2:=by
 intro n
 induction n with
 | zero=>intros; rfl
 | succ n ih =>
  intro p2 p9 p10 p26 p27 p28 zK1 zK2
  refine (zlh zd zc xd zl yi yb L p2 p9 p10 p26 p27 p28 zK1 zK2 (fun σ=>yE (yo z7 (y6 zd zc xd zl yi yb L) 0 L zaZ) zb4 n σ K) K).trans ?_
  simp only [ih]
  rfl
def zd9 {β:Type} (zd:zx) (zc:xt) (xd:yz) (zl:xS) (yi:xO) (yb:yr) (L:Nat) (p0 p1:List (List V)) (p2:Int) (k_fin:Bool→Option β):Option β :=
 zgD zd zc xd zl yi yb L p0 p1 p2 k_fin (fun p2 p9 p10 p26 p27 p28 zK1 zK2=>za6 zd zc xd zl yi yb L (fun p2 p9 p10 zK1 zK2=>zcT zd zc xd zl yi yb L p2 p9 p10 zK1 zK2 k_fin) L p2 p9 p10 p26 p27 p28 zK1 zK2)
theorem zqy {β:Type} (zd:zx) (zc:xt) (xd:yz) (zl:xS) (yi:xO) (yb:yr) (L:Nat) (p0 p1:List (List V)) (p2:Int) (k:KK β):zt z7 (y6 zd zc xd zl yi yb L) L zba [(V.sl 1 p0),(V.sl 1 p1),(V.sc (.int .i64 p2))] [] k=zd9 zd zc xd zl yi yb L p0 p1 p2 (fun p0=>k (V.sc (.bool p0)) []):=by
 refine (zqM zd zc xd zl yi yb L p0 p1 p2 k).trans ?_
 unfold zd9
 first
  | (simp only [zeY,zjW]; done)
  | (simp only [zeY]; rfl)
abbrev zs6:=∀ (β:Type),Nat→List (List V)→List (List V)→Int→(Bool→Option β)→Option β
def zb6 (β:Type) (L:Nat) (p0 p1:List (List V)) (p2:Int) (k_fin:Bool→Option β):Option β:=zd9 zd zc xd zl yi yb L p0 p1 p2 k_fin
def zgC (zb6:zs6) (L:Nat) (β:Type) (args:List V) (bor:Bor) (k:KK β):Option β:=match args,bor with
 | [a0,a1,a2],[]=>aL 1 a0 fun p0=>aL 1 a1 fun p1=>aI .i64 a2 fun p2=>zb6 β L p0 p1 p2 (fun p0=>k (V.sc (.bool p0)) [])
 | _,_=>none
theorem zqK (L:Nat) (β:Type) (args:List V) (bor:Bor) (k:KK β) (r:β) (h:zgC zb6 L β args bor k=some r):zt z7 (y6 zd zc xd zl yi yb L) L zba args bor k=some r:=by
 unfold zgC at h
 split at h
 ·have q:=zZ h; clear h; obtain ⟨p0,rfl,h⟩:=q
  have q:=zZ h; clear h; obtain ⟨p1,rfl,h⟩:=q
  have q:=zaC h; clear h; obtain ⟨p2,rfl,h⟩:=q
  exact (zqy zd zc xd zl yi yb L p0 p1 p2 k).trans h
 ·cases h
def fg:List (Nat × Nat):=[(3,255),(4,256),(5,257),(6,258),(7,259),(8,225),(9,260),(10,261),(11,231),(12,262),(13,263),(14,264),(15,217),(16,265),(17,266),(18,267),(19,268),(20,269),(21,270),(22,271),(23,236),(24,272),(25,273),(26,274),(27,247),(28,275),(29,276),(30,277),(31,278),(32,279),(33,280),(34,281),(35,282),(36,283),(37,284),(38,285),(39,286),(40,287),(41,288),(42,289),(43,290),(44,291),(45,292),(46,293),(47,294),(48,295),(49,296),(50,297),(51,298),(52,299),(53,300),(54,301),(55,302),(56,303),(57,110),(58,106),(59,304),(60,159),(61,305),(62,109),(63,105),(64,157),(65,205),(66,306),(67,115),(68,114),(69,116),(70,193),(71,194),(72,112),(73,111),(74,113),(75,191),(76,192),(77,118)]
def rows:List Row:=[⟨38,285,zpj,zid⟩,⟨20,269,zof,zg9⟩,⟨54,301,zmw,zfR⟩,⟨66,306,zdu,zL⟩,⟨53,300,zc1,zaz⟩,⟨31,278,zoj,zg5⟩,⟨21,270,zpF,zck⟩,⟨72,112,zvM,zgM⟩,⟨62,109,zwv,zqT⟩,⟨76,192,zqn,zdw⟩,⟨75,191,zqa,zi4⟩,⟨64,157,zmY,zgt⟩,⟨77,118,zhK,zdh⟩,⟨74,113,zsU,zeO⟩,⟨73,111,zsC,zlQ⟩,⟨63,105,zw9,zh1⟩,⟨50,297,zjq,zdM⟩,⟨49,296,zmo,zfL⟩,⟨48,295,zn8,zbp⟩,⟨65,205,zm0,zge⟩,⟨52,299,zji,zdI⟩,⟨51,298,zmu,zfP⟩,⟨28,275,zn9,zg2⟩,⟨30,277,zmt,zfO⟩,⟨29,276,zpf,zcj⟩,⟨32,279,zms,zfK⟩,⟨37,284,zjj,zbb⟩,⟨17,266,zkP,zet⟩,⟨13,263,zod,zb7⟩,⟨39,286,zem,zbq⟩,⟨22,271,zqc,zja⟩,⟨7,259,zsN,zlR⟩,⟨8,225,zvz,zpc⟩,⟨27,247,zoi,zg0⟩,⟨15,217,zvD,zo1⟩,⟨11,231,zop,zg1⟩,⟨23,236,zuu,znL⟩,⟨67,115,zsB,zeL⟩,⟨57,110,zux,zno⟩,⟨71,194,zql,zdA⟩,⟨70,193,zqp,zi2⟩,⟨60,159,znd,zgw⟩,⟨59,304,zmQ,zgk⟩,⟨69,116,zrH,zkG⟩,⟨68,114,zqb,ziZ⟩,⟨58,106,zt2,zfm⟩,⟨47,294,zrv,zky⟩,⟨43,290,zlr,ze4⟩,⟨61,305,zls,ze7⟩,⟨56,303,zsA,zlS⟩,⟨40,287,zsD,zcY⟩,⟨55,302,zra,zdc⟩,⟨34,281,zr5,zdf⟩,⟨41,288,zqi,zi6⟩,⟨42,289,zqo,zi3⟩,⟨44,291,zqh,zbG⟩,⟨45,292,zqq,zjb⟩,⟨46,293,zsV,zcZ⟩,⟨24,272,zsW,zlN⟩,⟨12,262,zur,zm8⟩,⟨25,273,zrQ,zkr⟩,⟨9,260,zt0,zfr⟩,⟨26,274,zm9,zpB⟩,⟨10,261,zsx,zvB⟩,⟨36,283,zrC,zt4⟩,⟨33,280,zrD,zum⟩,⟨35,282,zrw,zue⟩,⟨18,267,zmr,zoc⟩,⟨14,264,zqj,zsR⟩,⟨16,265,zmO,zpn⟩,⟨3,255,ziW,zkM⟩,⟨19,268,zsy,zdF⟩,⟨4,256,zjo,zkI⟩,⟨5,257,zlK,znN⟩,⟨6,258,zje,zba⟩]
theorem zzq:yN Try.prog (zE fg) zpj 38=some zid:=by kernel_rfl
theorem zx0:yN Try.prog (zE fg) zof 20=some zg9:=by kernel_rfl
theorem zv0:yN Try.prog (zE fg) zmw 54=some zfR:=by kernel_rfl
theorem ziN:yN Try.prog (zE fg) zdu 66=some zL:=by kernel_rfl
theorem zhB:yN Try.prog (zE fg) zc1 53=some zaz:=by kernel_rfl
theorem zyu:yN Try.prog (zE fg) zoj 31=some zg5:=by kernel_rfl
theorem zy6:yN Try.prog (zE fg) zpF 21=some zck:=by kernel_rfl
theorem zEO:yN Try.prog (zE fg) zvM 72=some zgM:=by kernel_rfl
theorem zFy:yN Try.prog (zE fg) zwv 62=some zqT:=by kernel_rfl
theorem zzT:yN Try.prog (zE fg) zqn 76=some zdw:=by kernel_rfl
theorem zAC:yN Try.prog (zE fg) zqa 75=some zi4:=by kernel_rfl
theorem zwx:yN Try.prog (zE fg) zmY 64=some zgt:=by kernel_rfl
theorem zqH:yN Try.prog (zE fg) zhK 77=some zdh:=by kernel_rfl
theorem zCM:yN Try.prog (zE fg) zsU 74=some zeO:=by kernel_rfl
theorem zDh:yN Try.prog (zE fg) zsC 73=some zlQ:=by kernel_rfl
theorem zFZ:yN Try.prog (zE fg) zw9 63=some zh1:=by kernel_rfl
theorem zsg:yN Try.prog (zE fg) zjq 50=some zdM:=by kernel_rfl
theorem zwn:yN Try.prog (zE fg) zmo 49=some zfL:=by kernel_rfl
theorem zx2:yN Try.prog (zE fg) zn8 48=some zbp:=by kernel_rfl
theorem zwT:yN Try.prog (zE fg) zm0 65=some zge:=by kernel_rfl
theorem zso:yN Try.prog (zE fg) zji 52=some zdI:=by kernel_rfl
theorem zvW:yN Try.prog (zE fg) zmu 51=some zfP:=by kernel_rfl
theorem zxW:yN Try.prog (zE fg) zn9 28=some zg2:=by kernel_rfl
theorem zwa:yN Try.prog (zE fg) zmt 30=some zfO:=by kernel_rfl
theorem zzj:yN Try.prog (zE fg) zpf 29=some zcj:=by kernel_rfl
theorem zv6:yN Try.prog (zE fg) zms 32=some zfK:=by kernel_rfl
theorem zsl:yN Try.prog (zE fg) zjj 37=some zbb:=by kernel_rfl
theorem ztU:yN Try.prog (zE fg) zkP 17=some zet:=by kernel_rfl
theorem zyf:yN Try.prog (zE fg) zod 13=some zb7:=by kernel_rfl
theorem zkY:yN Try.prog (zE fg) zem 39=some zbq:=by kernel_rfl
theorem zAM:yN Try.prog (zE fg) zqc 22=some zja:=by kernel_rfl
theorem zCT:yN Try.prog (zE fg) zsN 7=some zlR:=by kernel_rfl
theorem zEZ:yN Try.prog (zE fg) zvz 8=some zpc:=by kernel_rfl
theorem zx5:yN Try.prog (zE fg) zoi 27=some zg0:=by kernel_rfl
theorem zE3:yN Try.prog (zE fg) zvD 15=some zo1:=by kernel_rfl
theorem zyy:yN Try.prog (zE fg) zop 11=some zg1:=by kernel_rfl
theorem zDX:yN Try.prog (zE fg) zuu 23=some znL:=by kernel_rfl
theorem zDj:yN Try.prog (zE fg) zsB 67=some zeL:=by kernel_rfl
theorem zEv:yN Try.prog (zE fg) zux 57=some zno:=by kernel_rfl
theorem zAH:yN Try.prog (zE fg) zql 71=some zdA:=by kernel_rfl
theorem zAK:yN Try.prog (zE fg) zqp 70=some zi2:=by kernel_rfl
theorem zxb:yN Try.prog (zE fg) znd 60=some zgw:=by kernel_rfl
theorem zwz:yN Try.prog (zE fg) zmQ 59=some zgk:=by kernel_rfl
theorem zBK:yN Try.prog (zE fg) zrH 69=some zkG:=by kernel_rfl
theorem zA4:yN Try.prog (zE fg) zqb 68=some ziZ:=by kernel_rfl
theorem zDD:yN Try.prog (zE fg) zt2 58=some zfm:=by kernel_rfl
theorem zBe:yN Try.prog (zE fg) zrv 47=some zky:=by kernel_rfl
theorem zuM:yN Try.prog (zE fg) zlr 43=some ze4:=by kernel_rfl
theorem zu6:yN Try.prog (zE fg) zls 61=some ze7:=by kernel_rfl
theorem zC7:yN Try.prog (zE fg) zsA 56=some zlS:=by kernel_rfl
theorem zDc:yN Try.prog (zE fg) zsD 40=some zcY:=by kernel_rfl
theorem zBl:yN Try.prog (zE fg) zra 55=some zdc:=by kernel_rfl
theorem zBo:yN Try.prog (zE fg) zr5 34=some zdf:=by kernel_rfl
theorem zAV:yN Try.prog (zE fg) zqi 41=some zi6:=by kernel_rfl
theorem zz1:yN Try.prog (zE fg) zqo 42=some zi3:=by kernel_rfl
theorem zzN:yN Try.prog (zE fg) zqh 44=some zbG:=by kernel_rfl
theorem zAp:yN Try.prog (zE fg) zqq 45=some zjb:=by kernel_rfl
theorem zDi:yN Try.prog (zE fg) zsV 46=some zcZ:=by kernel_rfl
theorem zDl:yN Try.prog (zE fg) zsW 24=some zlN:=by kernel_rfl
theorem zEi:yN Try.prog (zE fg) zur 12=some zm8:=by kernel_rfl
theorem zBy:yN Try.prog (zE fg) zrQ 25=some zkr:=by kernel_rfl
theorem zDC:yN Try.prog (zE fg) zt0 9=some zfr:=by kernel_rfl
theorem zws:yN Try.prog (zE fg) zm9 26=some zpB:=by kernel_rfl
theorem zDb:yN Try.prog (zE fg) zsx 10=some zvB:=by kernel_rfl
theorem zBQ:yN Try.prog (zE fg) zrC 36=some zt4:=by kernel_rfl
theorem zBk:yN Try.prog (zE fg) zrD 33=some zum:=by kernel_rfl
theorem zB1:yN Try.prog (zE fg) zrw 35=some zue:=by kernel_rfl
theorem zvV:yN Try.prog (zE fg) zmr 18=some zoc:=by kernel_rfl
theorem zAY:yN Try.prog (zE fg) zqj 14=some zsR:=by kernel_rfl
theorem zxj:yN Try.prog (zE fg) zmO 16=some zpn:=by kernel_rfl
theorem zsn:yN Try.prog (zE fg) ziW 3=some zkM:=by kernel_rfl
theorem zDd:yN Try.prog (zE fg) zsy 19=some zdF:=by kernel_rfl
theorem zsp:yN Try.prog (zE fg) zjo 4=some zkI:=by kernel_rfl
theorem zu5:yN Try.prog (zE fg) zlK 5=some znN:=by kernel_rfl
theorem zsc:yN Try.prog (zE fg) zje 6=some zba:=by kernel_rfl
theorem zJS:∀ r ∈ rows,(r.f,r.g) ∈ fg∧zh9 Try.prog r.f=true∧yN Try.prog (zE fg) r.h r.f=some r.c:=by
 intro r hr
 simp only [rows,List.mem_cons,List.not_mem_nil,or_false] at hr
 rcases hr with rfl | rfl | rfl | rfl | rfl | rfl | rfl | rfl | rfl | rfl | rfl | rfl | rfl | rfl | rfl | rfl | rfl | rfl | rfl | rfl | rfl | rfl | rfl | rfl | rfl | rfl | rfl | rfl | rfl | rfl | rfl | rfl | rfl | rfl | rfl | rfl | rfl | rfl | rfl | rfl | rfl | rfl | rfl | rfl | rfl | rfl | rfl | rfl | rfl | rfl | rfl | rfl | rfl | rfl | rfl | rfl | rfl | rfl | rfl | rfl | rfl | rfl | rfl | rfl | rfl | rfl | rfl | rfl | rfl | rfl | rfl | rfl | rfl | rfl | rfl
 ·exact ⟨of_decide_eq_true (by kernel_rfl),by kernel_rfl,zzq⟩
 ·exact ⟨of_decide_eq_true (by kernel_rfl),by kernel_rfl,zx0⟩
 ·exact ⟨of_decide_eq_true (by kernel_rfl),by kernel_rfl,zv0⟩
 ·exact ⟨of_decide_eq_true (by kernel_rfl),by kernel_rfl,ziN⟩
 ·exact ⟨of_decide_eq_true (by kernel_rfl),by kernel_rfl,zhB⟩
 ·exact ⟨of_decide_eq_true (by kernel_rfl),by kernel_rfl,zyu⟩
 ·exact ⟨of_decide_eq_true (by kernel_rfl),by kernel_rfl,zy6⟩
 ·exact ⟨of_decide_eq_true (by kernel_rfl),by kernel_rfl,zEO⟩
 ·exact ⟨of_decide_eq_true (by kernel_rfl),by kernel_rfl,zFy⟩
 ·exact ⟨of_decide_eq_true (by kernel_rfl),by kernel_rfl,zzT⟩
 ·exact ⟨of_decide_eq_true (by kernel_rfl),by kernel_rfl,zAC⟩
 ·exact ⟨of_decide_eq_true (by kernel_rfl),by kernel_rfl,zwx⟩
 ·exact ⟨of_decide_eq_true (by kernel_rfl),by kernel_rfl,zqH⟩
 ·exact ⟨of_decide_eq_true (by kernel_rfl),by kernel_rfl,zCM⟩
 ·exact ⟨of_decide_eq_true (by kernel_rfl),by kernel_rfl,zDh⟩
 ·exact ⟨of_decide_eq_true (by kernel_rfl),by kernel_rfl,zFZ⟩
 ·exact ⟨of_decide_eq_true (by kernel_rfl),by kernel_rfl,zsg⟩
 ·exact ⟨of_decide_eq_true (by kernel_rfl),by kernel_rfl,zwn⟩
 ·exact ⟨of_decide_eq_true (by kernel_rfl),by kernel_rfl,zx2⟩
 ·exact ⟨of_decide_eq_true (by kernel_rfl),by kernel_rfl,zwT⟩
 ·exact ⟨of_decide_eq_true (by kernel_rfl),by kernel_rfl,zso⟩
 ·exact ⟨of_decide_eq_true (by kernel_rfl),by kernel_rfl,zvW⟩
 ·exact ⟨of_decide_eq_true (by kernel_rfl),by kernel_rfl,zxW⟩
 ·exact ⟨of_decide_eq_true (by kernel_rfl),by kernel_rfl,zwa⟩
 ·exact ⟨of_decide_eq_true (by kernel_rfl),by kernel_rfl,zzj⟩
 ·exact ⟨of_decide_eq_true (by kernel_rfl),by kernel_rfl,zv6⟩
 ·exact ⟨of_decide_eq_true (by kernel_rfl),by kernel_rfl,zsl⟩
 ·exact ⟨of_decide_eq_true (by kernel_rfl),by kernel_rfl,ztU⟩
 ·exact ⟨of_decide_eq_true (by kernel_rfl),by kernel_rfl,zyf⟩
 ·exact ⟨of_decide_eq_true (by kernel_rfl),by kernel_rfl,zkY⟩
 ·exact ⟨of_decide_eq_true (by kernel_rfl),by kernel_rfl,zAM⟩
 ·exact ⟨of_decide_eq_true (by kernel_rfl),by kernel_rfl,zCT⟩
 ·exact ⟨of_decide_eq_true (by kernel_rfl),by kernel_rfl,zEZ⟩
 ·exact ⟨of_decide_eq_true (by kernel_rfl),by kernel_rfl,zx5⟩
 ·exact ⟨of_decide_eq_true (by kernel_rfl),by kernel_rfl,zE3⟩
 ·exact ⟨of_decide_eq_true (by kernel_rfl),by kernel_rfl,zyy⟩
 ·exact ⟨of_decide_eq_true (by kernel_rfl),by kernel_rfl,zDX⟩
 ·exact ⟨of_decide_eq_true (by kernel_rfl),by kernel_rfl,zDj⟩
 ·exact ⟨of_decide_eq_true (by kernel_rfl),by kernel_rfl,zEv⟩
 ·exact ⟨of_decide_eq_true (by kernel_rfl),by kernel_rfl,zAH⟩
 ·exact ⟨of_decide_eq_true (by kernel_rfl),by kernel_rfl,zAK⟩
 ·exact ⟨of_decide_eq_true (by kernel_rfl),by kernel_rfl,zxb⟩
 ·exact ⟨of_decide_eq_true (by kernel_rfl),by kernel_rfl,zwz⟩
 ·exact ⟨of_decide_eq_true (by kernel_rfl),by kernel_rfl,zBK⟩
 ·exact ⟨of_decide_eq_true (by kernel_rfl),by kernel_rfl,zA4⟩
 ·exact ⟨of_decide_eq_true (by kernel_rfl),by kernel_rfl,zDD⟩
 ·exact ⟨of_decide_eq_true (by kernel_rfl),by kernel_rfl,zBe⟩
 ·exact ⟨of_decide_eq_true (by kernel_rfl),by kernel_rfl,zuM⟩
 ·exact ⟨of_decide_eq_true (by kernel_rfl),by kernel_rfl,zu6⟩
 ·exact ⟨of_decide_eq_true (by kernel_rfl),by kernel_rfl,zC7⟩
 ·exact ⟨of_decide_eq_true (by kernel_rfl),by kernel_rfl,zDc⟩
 ·exact ⟨of_decide_eq_true (by kernel_rfl),by kernel_rfl,zBl⟩
 ·exact ⟨of_decide_eq_true (by kernel_rfl),by kernel_rfl,zBo⟩
 ·exact ⟨of_decide_eq_true (by kernel_rfl),by kernel_rfl,zAV⟩
 ·exact ⟨of_decide_eq_true (by kernel_rfl),by kernel_rfl,zz1⟩
 ·exact ⟨of_decide_eq_true (by kernel_rfl),by kernel_rfl,zzN⟩
 ·exact ⟨of_decide_eq_true (by kernel_rfl),by kernel_rfl,zAp⟩
 ·exact ⟨of_decide_eq_true (by kernel_rfl),by kernel_rfl,zDi⟩
 ·exact ⟨of_decide_eq_true (by kernel_rfl),by kernel_rfl,zDl⟩
 ·exact ⟨of_decide_eq_true (by kernel_rfl),by kernel_rfl,zEi⟩
 ·exact ⟨of_decide_eq_true (by kernel_rfl),by kernel_rfl,zBy⟩
 ·exact ⟨of_decide_eq_true (by kernel_rfl),by kernel_rfl,zDC⟩
 ·exact ⟨of_decide_eq_true (by kernel_rfl),by kernel_rfl,zws⟩
 ·exact ⟨of_decide_eq_true (by kernel_rfl),by kernel_rfl,zDb⟩
 ·exact ⟨of_decide_eq_true (by kernel_rfl),by kernel_rfl,zBQ⟩
 ·exact ⟨of_decide_eq_true (by kernel_rfl),by kernel_rfl,zBk⟩
 ·exact ⟨of_decide_eq_true (by kernel_rfl),by kernel_rfl,zB1⟩
 ·exact ⟨of_decide_eq_true (by kernel_rfl),by kernel_rfl,zvV⟩
 ·exact ⟨of_decide_eq_true (by kernel_rfl),by kernel_rfl,zAY⟩
 ·exact ⟨of_decide_eq_true (by kernel_rfl),by kernel_rfl,zxj⟩
 ·exact ⟨of_decide_eq_true (by kernel_rfl),by kernel_rfl,zsn⟩
 ·exact ⟨of_decide_eq_true (by kernel_rfl),by kernel_rfl,zDd⟩
 ·exact ⟨of_decide_eq_true (by kernel_rfl),by kernel_rfl,zsp⟩
 ·exact ⟨of_decide_eq_true (by kernel_rfl),by kernel_rfl,zu5⟩
 ·exact ⟨of_decide_eq_true (by kernel_rfl),by kernel_rfl,zsc⟩
theorem zKx:Try.prog.follows .mixedOrders=true:=by kernel_rfl
theorem zKB:zId fg=true:=by kernel_rfl
theorem zKj (L d:Nat):zko Try.prog (zE fg) (evF (zK rows) zIq L d):=zJg zKx zKB zJS L d
theorem zqe (L:Nat):FOk (zK rows) L 285 (zgj xi L) 1:=zF (D:=0) (by kernel_rfl) fun m hm=>⟨zl7,zl8 L,xE,zxd L⟩
theorem zgl (L:Nat):FOk (zK rows) L 269 (zbV yb L) 1:=zF (D:=0) (by kernel_rfl) fun m hm=>⟨zkZ,zlk L,xE,zvZ L⟩
theorem zvi (L:Nat):FOk (zK rows) L 301 (zf3 yj L) 2:=zF (D:=1) (by kernel_rfl) fun m hm=>⟨ziQ,ziL yb L,(xn xE (zgl L m (by omega))),zuh L⟩
theorem zix (L:Nat):FOk (zK rows) L 306 (za8 yt L) 3:=zF (D:=2) (by kernel_rfl) fun m hm=>⟨xB,zC yj L,(xn xE (zvi L m (by omega))),zin L⟩
theorem zhp (L:Nat):FOk (zK rows) L 300 (zaN zq L) 4:=zF (D:=3) (by kernel_rfl) fun m hm=>⟨zbP,zbO yt L,(xn xE (zix L m (by omega))),zgU L⟩
theorem zgq (L:Nat):FOk (zK rows) L 278 (zc4 ya L) 5:=zF (D:=4) (by kernel_rfl) fun m hm=>⟨zkX,zk6 zq L,(xn xE (zhp L m (by omega))),zwk L⟩
theorem zqm (L:Nat):FOk (zK rows) L 270 (zeB ye L) 6:=zF (D:=5) (by kernel_rfl) fun m hm=>⟨za0,zaY xi ya L,(xn (xn xE (zqe L m (by omega))) (zgq L m (by omega))),zwZ L⟩
theorem zwq (L:Nat):FOk (zK rows) L 112 (zm2 xu L) 1:=zF (D:=0) (by kernel_rfl) fun m hm=>⟨zdn,zdm L,xE,zCN L⟩
theorem zyM (L:Nat):FOk (zK rows) L 109 (zpe yZ L) 2:=zF (D:=1) (by kernel_rfl) fun m hm=>⟨zuZ,zu1 xu L,(xn xE (zwq L m (by omega))),zDH L⟩
theorem zrz (L:Nat):FOk (zK rows) L 192 (zhA yG L) 1:=zF (D:=0) (by kernel_rfl) fun m hm=>⟨zbJ,zbH L,xE,zyz L⟩
theorem zrb (L:Nat):FOk (zK rows) L 191 (zhc xF L) 1:=zF (D:=0) (by kernel_rfl) fun m hm=>⟨znf,znD L,xE,zyr L⟩
theorem zn7 (L:Nat):FOk (zK rows) L 157 (zeZ xw L) 2:=zF (D:=1) (by kernel_rfl) fun m hm=>⟨zjz,zkg yG xF L,(xn (xn xE (zrz L m (by omega))) (zrb L m (by omega))),zuW L⟩
theorem ziv (L:Nat):FOk (zK rows) L 118 (zch yc L) 1:=zF (D:=0) (by kernel_rfl) fun m hm=>⟨zfb,ze2 L,xE,zpD L⟩
theorem zt6 (L:Nat):FOk (zK rows) L 113 (zjY xp L) 2:=zF (D:=1) (by kernel_rfl) fun m hm=>⟨zcn,zcp yc L,(xn xE (ziv L m (by omega))),zAw L⟩
theorem zBh (L:Nat):FOk (zK rows) L 111 (zmR yx L) 3:=zF (D:=2) (by kernel_rfl) fun m hm=>⟨zp1,zpV xp L,(xn xE (zt6 L m (by omega))),zAT L⟩
theorem zyX (L:Nat):FOk (zK rows) L 105 (zps xU L) 4:=zF (D:=3) (by kernel_rfl) fun m hm=>⟨zeh,zd2 xu yx xp L,(xn (xn (xn xE (zwq L m (by omega))) (zBh L m (by omega))) (zt6 L m (by omega))),zDV L⟩
theorem zrB (L:Nat):FOk (zK rows) L 297 (zd6 zH L) 5:=zF (D:=4) (by kernel_rfl) fun m hm=>⟨zfX,zf0 yZ yb xw xU L,(xn (xn (xn (xn xE (zyM L m (by omega))) (zgl L m (by omega))) (zn7 L m (by omega))) (zyX L m (by omega))),zqs L⟩
theorem zvc (L:Nat):FOk (zK rows) L 296 (zgA xh L) 6:=zF (D:=5) (by kernel_rfl) fun m hm=>⟨ziH,ziG zH L,(xn xE (zrB L m (by omega))),zuf L⟩
theorem zw0 (L:Nat):FOk (zK rows) L 295 (zib yT L) 7:=zF (D:=6) (by kernel_rfl) fun m hm=>⟨zaD,zaE xh L,(xn xE (zvc L m (by omega))),zvO L⟩
theorem zwm (L:Nat):FOk (zK rows) L 205 (zg7 yR L) 2:=zF (D:=1) (by kernel_rfl) fun m hm=>⟨zka,zjB yG xF L,(xn (xn xE (zrz L m (by omega))) (zrb L m (by omega))),zvr L⟩
theorem zrZ (L:Nat):FOk (zK rows) L 299 (zee yH L) 5:=zF (D:=4) (by kernel_rfl) fun m hm=>⟨zfW,zfZ yZ xw yR xU yb L,(xn (xn (xn (xn (xn xE (zyM L m (by omega))) (zn7 L m (by omega))) (zwm L m (by omega))) (zyX L m (by omega))) (zgl L m (by omega))),zqx L⟩
theorem zvf (L:Nat):FOk (zK rows) L 298 (zgp zi L) 6:=zF (D:=5) (by kernel_rfl) fun m hm=>⟨ziD,ziC yH L,(xn xE (zrZ L m (by omega))),zt3 L⟩
theorem zuF (L:Nat):FOk (zK rows) L 295 (zgd zO L) 7:=zF (D:=6) (by kernel_rfl) fun m hm=>⟨zan,zam zi L,(xn xE (zvf L m (by omega))),zuw L⟩
theorem zxt (L:Nat):FOk (zK rows) L 275 (zhT xl L) 8:=zF (D:=7) (by kernel_rfl) fun m hm=>⟨zle,zkW yT zO L,(zu9 (zu9 xE (zw0 L m (by omega))) (zuF L m (by omega))),zvY L⟩
theorem zuH (L:Nat):FOk (zK rows) L 277 (zgu xm L) 1:=zF (D:=0) (by kernel_rfl) fun m hm=>⟨ziT,ziU L,xE,ztQ L⟩
theorem zyl (L:Nat):FOk (zK rows) L 276 (zjg zn L) 2:=zF (D:=1) (by kernel_rfl) fun m hm=>⟨zbj,zbi xm L,(xn xE (zuH L m (by omega))),zwO L⟩
theorem zvn (L:Nat):FOk (zK rows) L 279 (zf8 ym L) 1:=zF (D:=0) (by kernel_rfl) fun m hm=>⟨ziS,ziK L,xE,ztL L⟩
theorem zv3 (L:Nat):FOk (zK rows) L 276 (zgX yk L) 2:=zF (D:=1) (by kernel_rfl) fun m hm=>⟨zaS,zaR ym L,(xn xE (zvn L m (by omega))),zvk L⟩
theorem zru (L:Nat):FOk (zK rows) L 284 (zef yD L) 6:=zF (D:=5) (by kernel_rfl) fun m hm=>⟨zay,zax ya L,(xn xE (zgq L m (by omega))),zqW L⟩
theorem ztr (L:Nat):FOk (zK rows) L 266 (zct zb L) 7:=zF (D:=6) (by kernel_rfl) fun m hm=>⟨zhl,zhi yD L,(xn xE (zru L m (by omega))),zsk L⟩
theorem zpx (L:Nat):FOk (zK rows) L 263 (zc5 xb L) 9:=zF (D:=8) (by kernel_rfl) fun m hm=>⟨zaF,zaG ye xl zn yk zb ya L,(xn (xn (zu9 (zu9 (xn (xn xE (zqm L m (by omega))) (zxt L m (by omega))) (zyl L m (by omega))) (zv3 L m (by omega))) (ztr L m (by omega))) (zgq L m (by omega))),zv7 L⟩
theorem zkp (L:Nat):FOk (zK rows) L 286 (zbE yu L) 1:=zF (D:=0) (by kernel_rfl) fun m hm=>⟨zcE,zcy L,xE,zkf L⟩
theorem zrU (L:Nat):FOk (zK rows) L 271 (zhy zj L) 7:=zF (D:=6) (by kernel_rfl) fun m hm=>⟨znW,znI ye xi ya yu L,(xn (xn (xn (xn xE (zqm L m (by omega))) (zqe L m (by omega))) (zgq L m (by omega))) (zkp L m (by omega))),zxV L⟩
theorem zBM (L:Nat):FOk (zK rows) L 259 (zfB zd L) 10:=zF (D:=9) (by kernel_rfl) fun m hm=>⟨zpU,zpX xb zj L,(xn (xn xE (zpx L m (by omega))) (zrU L m (by omega))),zAD L⟩
theorem zxx (L:Nat):FOk (zK rows) L 225 (zf5 zc L) 1:=zF (D:=0) (by kernel_rfl) fun m hm=>⟨zs0,ztD L,xE,zCS L⟩
theorem zxe (L:Nat):FOk (zK rows) L 247 (zhX xT L) 1:=zF (D:=0) (by kernel_rfl) fun m hm=>⟨zkU,zlf L,xE,zwf L⟩
theorem zxB (L:Nat):FOk (zK rows) L 217 (zkv yi L) 1:=zF (D:=0) (by kernel_rfl) fun m hm=>⟨ztp,zs3 L,xE,zC9 L⟩
theorem zgz (L:Nat):FOk (zK rows) L 231 (zbl za L) 2:=zF (D:=1) (by kernel_rfl) fun m hm=>⟨zk0,zlc xT yi L,(xn (xn xE (zxe L m (by omega))) (zxB L m (by omega))),zvQ L⟩
theorem zCR (L:Nat):FOk (zK rows) L 236 (zo8 yA L) 3:=zF (D:=2) (by kernel_rfl) fun m hm=>⟨zr4,zrR za L,(xn xE (zgz L m (by omega))),zBU L⟩
theorem zup (L:Nat):FOk (zK rows) L 115 (zkm xo L) 1:=zF (D:=0) (by kernel_rfl) fun m hm=>⟨zcl,zco L,xE,zAG L⟩
theorem zvL (L:Nat):FOk (zK rows) L 110 (zlq yP L) 2:=zF (D:=1) (by kernel_rfl) fun m hm=>⟨zrc,zrM xo L,(xn xE (zup L m (by omega))),zBz L⟩
theorem zrF (L:Nat):FOk (zK rows) L 194 (zhd yF L) 1:=zF (D:=0) (by kernel_rfl) fun m hm=>⟨zbD,zbK L,xE,zyb L⟩
theorem zrK (L:Nat):FOk (zK rows) L 193 (zhv zG L) 1:=zF (D:=0) (by kernel_rfl) fun m hm=>⟨znJ,znF L,xE,zyx L⟩
theorem zoq (L:Nat):FOk (zK rows) L 159 (ze0 yw L) 2:=zF (D:=1) (by kernel_rfl) fun m hm=>⟨zjN,zjX yF zG L,(xn (xn xE (zrF L m (by omega))) (zrK L m (by omega))),zvl L⟩
theorem zv5 (L:Nat):FOk (zK rows) L 304 (zgY xR L) 2:=zF (D:=1) (by kernel_rfl) fun m hm=>⟨zjF,zkl yF zG L,(xn (xn xE (zrF L m (by omega))) (zrK L m (by omega))),zvt L⟩
theorem zsv (L:Nat):FOk (zK rows) L 116 (ziu zm L) 2:=zF (D:=1) (by kernel_rfl) fun m hm=>⟨zoz,zoJ yc L,(xn xE (ziv L m (by omega))),zy8 L⟩
theorem zzB (L:Nat):FOk (zK rows) L 114 (zkz zr L) 3:=zF (D:=2) (by kernel_rfl) fun m hm=>⟨znH,znQ zm L,(xn xE (zsv L m (by omega))),zyA L⟩
theorem zvJ (L:Nat):FOk (zK rows) L 106 (zlA yL L) 4:=zF (D:=3) (by kernel_rfl) fun m hm=>⟨zcW,zcN xo zr zm L,(xn (xn (xn xE (zup L m (by omega))) (zzB L m (by omega))) (zsv L m (by omega))),zBs L⟩
theorem znq (L:Nat):FOk (zK rows) L 294 (zeI zk L) 1:=zF (D:=0) (by kernel_rfl) fun m hm=>⟨zoS,zos L,xE,zzt L⟩
theorem zml (L:Nat):FOk (zK rows) L 290 (zdP yf L) 5:=zF (D:=4) (by kernel_rfl) fun m hm=>⟨zhM,zic yP yw xR yL zk L,(xn (xn (xn (xn (xn xE (zvL L m (by omega))) (zoq L m (by omega))) (zv5 L m (by omega))) (zvJ L m (by omega))) (znq L m (by omega))),ztb L⟩
theorem zmy (L:Nat):FOk (zK rows) L 305 (zdS xa L) 5:=zF (D:=4) (by kernel_rfl) fun m hm=>⟨zhO,zh5 yP zk yw yL L,(xn (xn (xn (xn xE (zvL L m (by omega))) (znq L m (by omega))) (zoq L m (by omega))) (zvJ L m (by omega))),ztq L⟩
theorem zuA (L:Nat):FOk (zK rows) L 303 (zj4 yg L) 1:=zF (D:=0) (by kernel_rfl) fun m hm=>⟨zpZ,zpW L,xE,zAI L⟩
theorem zoy (L:Nat):FOk (zK rows) L 287 (zhe yd L) 2:=zF (D:=1) (by kernel_rfl) fun m hm=>⟨zb0,zbX yg L,(xn xE (zuA L m (by omega))),zAZ L⟩
theorem zA8 (L:Nat):FOk (zK rows) L 302 (zlV zp L) 6:=zF (D:=5) (by kernel_rfl) fun m hm=>⟨zbx,zbC yf xa yd L,(xn (xn (xn xE (zml L m (by omega))) (zmy L m (by omega))) (zoy L m (by omega))),zzr L⟩
theorem zsK (L:Nat):FOk (zK rows) L 281 (zf2 yv L) 7:=zF (D:=6) (by kernel_rfl) fun m hm=>⟨zbv,zbA zp yd L,(xn (xn xE (zA8 L m (by omega))) (zoy L m (by omega))),zzm L⟩
theorem zrs (L:Nat):FOk (zK rows) L 288 (zhf zg L) 1:=zF (D:=0) (by kernel_rfl) fun m hm=>⟨znx,znj L,xE,zxZ L⟩
theorem zr2 (L:Nat):FOk (zK rows) L 289 (zhq zf L) 1:=zF (D:=0) (by kernel_rfl) fun m hm=>⟨znK,znk L,xE,zyw L⟩
theorem zl1 (L:Nat):FOk (zK rows) L 291 (zfi xe L) 1:=zF (D:=0) (by kernel_rfl) fun m hm=>⟨zW,xW L,xE,zym L⟩
theorem zri (L:Nat):FOk (zK rows) L 292 (zhx ze L) 2:=zF (D:=1) (by kernel_rfl) fun m hm=>⟨zm6,zmZ xe L,(xn xE (zl1 L m (by omega))),zxY L⟩
theorem zzc (L:Nat):FOk (zK rows) L 287 (zkt yh L) 2:=zF (D:=1) (by kernel_rfl) fun m hm=>⟨zbf,zbe yg L,(xn xE (zuA L m (by omega))),zyc L⟩
theorem ztJ (L:Nat):FOk (zK rows) L 293 (zjQ zB L) 6:=zF (D:=5) (by kernel_rfl) fun m hm=>⟨xV,zV zg yh xa xe ze zf L,(xn (xn (xn (xn (xn (xn xE (zrs L m (by omega))) (zzc L m (by omega))) (zmy L m (by omega))) (zl1 L m (by omega))) (zri L m (by omega))) (zr2 L m (by omega))),zz9 L⟩
theorem zBx (L:Nat):FOk (zK rows) L 272 (znM xy L) 8:=zF (D:=7) (by kernel_rfl) fun m hm=>⟨zp8,zpS yv yd zg zf yf xe ze zk zB L,(xn (xn (xn (xn (xn (xn (xn (xn (xn xE (zsK L m (by omega))) (zoy L m (by omega))) (zrs L m (by omega))) (zr2 L m (by omega))) (zml L m (by omega))) (zl1 L m (by omega))) (zri L m (by omega))) (znq L m (by omega))) (ztJ L m (by omega))),zzW L⟩
theorem zC5 (L:Nat):FOk (zK rows) L 262 (ziz xf L) 3:=zF (D:=2) (by kernel_rfl) fun m hm=>⟨zrT,zr0 za L,(xn xE (zgz L m (by omega))),zBN L⟩
theorem zAg (L:Nat):FOk (zK rows) L 273 (zlP xv L) 8:=zF (D:=7) (by kernel_rfl) fun m hm=>⟨zow,zoH yv zB L,(xn (xn xE (zsK L m (by omega))) (ztJ L m (by omega))),zzG L⟩
theorem zCU (L:Nat):FOk (zK rows) L 260 (zgN xd L) 9:=zF (D:=8) (by kernel_rfl) fun m hm=>⟨zcP,zcR yA za xy xf xv L,(xn (xn (xn (xn (xn xE (zCR L m (by omega))) (zgz L m (by omega))) (zBx L m (by omega))) (zC5 L m (by omega))) (zAg L m (by omega))),zBD L⟩
theorem zBY (L:Nat):FOk (zK rows) L 268 (zjC zl L) 10:=zF (D:=9) (by kernel_rfl) fun m hm=>⟨zb1,zbZ zc za xb zj L,(xn (xn (xn (xn xE (zxx L m (by omega))) (zgz L m (by omega))) (zpx L m (by omega))) (zrU L m (by omega))),zzM L⟩
theorem zrt (L:Nat):FOk (zK rows) L 258 (zgC zb6 L) 11:=zF (D:=10) (by kernel_rfl) fun m hm=>⟨z7,y6 zd zc xd zl yi yb L,(xn (xn (xn (xn (xn (xn xE (zBM L m (by omega))) (zxx L m (by omega))) (zCU L m (by omega))) (zBY L m (by omega))) (zxB L m (by omega))) (zgl L m (by omega))),zqK L⟩
end
section
set_option linter.unusedVariables false
set_option maxRecDepth 100000
variable {β:Type}
def zjn (m:Int) (i:Nat):List Int→Int
 | []=>m
 | b::bs=>zjn (ior .u64 m (zre .u64 (IntKind.wrap .u64 b) (IntKind.wrap .i64 (8 * (i:Int))))) (i+1) bs
theorem zvK (L:Nat) (kx:Int→Option β) (l:List Int) (hl:l.length≤1000000):∀ (n:Nat) (m:Int) (i:Nat),i≤l.length→l.length - i < n→zgx L kx n m (zaP .u8 l) (l.length:Int) (i:Int)=kx (zjn m i (l.drop i))
 | 0,m,i,hi,hn=>by omega
 | n+1,m,i,hi,hn=>by
  simp only [zgx,znt,zA]
  by_cases h:i < l.length
  ·rw [zaI (by omega),za3 (zzC _ h),xI (by rfl),xc (by rw [zaf (by omega) (by omega)]; omega)]
   rw [show IntKind.wrap .i64 ((i:Int)+1)=((i+1:Nat):Int) by rw [zaf (by omega) (by omega)]; omega]
   rw [zvK L kx l hl n _ (i+1) (by omega) (by omega),List.drop_eq_getElem_cons h]
   rfl
  ·rw [za2 (by omega),List.drop_of_length_le (by omega)]
   rfl
theorem zvs (L:Nat) (l:List Int) (hl:l.length≤1000000) (hL:l.length < L) (k:Int→Option β):xu β L (zaP .u8 l) k=k (zjn 0 0 l):=by
 simp only [xu,zqR,zuX,zeJ]
 exact zvK L _ l hl L 0 0 (by omega) (by omega)
theorem zvH (L:Nat) (kx:Int→Option β) (l:List Int) (hl:l.length≤1000000):∀ (n:Nat) (m:Int) (i:Nat),i≤l.length→l.length - i < n→zeX L kx n (zaP .u8 l) m (l.length:Int) (i:Int)=kx (zjn m i (l.drop i))
 | 0,m,i,hi,hn=>by omega
 | n+1,m,i,hi,hn=>by
  simp only [zeX,zkR,zA]
  by_cases h:i < l.length
  ·rw [zaI (by omega),za3 (zzC _ h),xI (by rfl),xc (by rw [zaf (by omega) (by omega)]; omega)]
   rw [show IntKind.wrap .i64 ((i:Int)+1)=((i+1:Nat):Int) by rw [zaf (by omega) (by omega)]; omega]
   rw [zvH L kx l hl n _ (i+1) (by omega) (by omega),List.drop_eq_getElem_cons h]
   rfl
  ·rw [za2 (by omega),List.drop_of_length_le (by omega)]
   rfl
theorem zuB (L:Nat) (l:List Int) (hl:l.length≤1000000) (hL:l.length < L) (k:Int→Option β):xo β L (zaP .u8 l) k=k (zjn 0 0 l):=by
 simp only [xo,zns,zrA,zeJ]
 exact zvH L _ l hl L 0 0 (by omega) (by omega)
theorem zzK (L:Nat) (hL:8 < L) (l:List Int) (h:l.length=32) (k:List V→Option β):yZ β L (row .u8 l) k=k (row .u64 [zjn 0 0 (l.take 8),zjn 0 0 ((l.drop 8).take 8)])∧yP β L (row .u8 l) k=k (row .u64 [zjn 0 0 (l.take 8),zjn 0 0 ((l.drop 8).take 8)]):=by
 constructor
 ·simp only [yZ,zwy,zA,zcq,h,zEB]
  rw [xc (by decide),znm _ _ _ (by omega),zvs _ _ (by simp; omega) (by simp; omega),xc (by decide),znm _ _ _ (by simp; omega),zvs _ _ (by simp; omega) (by simp; omega),xc (by simp)]
  rfl
 ·simp only [yP,ztc,zA,zcq,h,zEB]
  rw [xc (by decide),znm _ _ _ (by omega),zuB _ _ (by simp; omega) (by simp; omega),xc (by decide),znm _ _ _ (by simp; omega),zuB _ _ (by simp; omega) (by simp; omega),xc (by simp)]
  rfl
end
end Go.Proofs.Ytpafdnidhnldhaa
