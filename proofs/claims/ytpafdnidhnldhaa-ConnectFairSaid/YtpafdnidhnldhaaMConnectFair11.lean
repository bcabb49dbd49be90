/- Part 11 of the proof of ConnectFair: an abstract machine over plain values, its soundness, and the functions of the program on plain values. -/
import Derived.Test.YtpafdnidhnldhaaMConnectFair10
namespace Go.Proofs.Ytpafdnidhnldhaa
section
set_option maxRecDepth 100000
set_option linter.unusedVariables false
set_option linter.unusedSimpArgs false
def zpX:CC:=(.seq (.seq (.reg [oo 24 (.move (tq 9) false),
   oo 25 (.move (tq 7) false),
   oo 26 (.lenS (tq 25)),
   oo 27 (.bin .lss (tq 24) (tq 26))])
 (.cond (tq 27)
 .skip
 (.seq (.mask (bl 256 47) (bl 87892143635959 47))
 (.exit 1))))
 (.seq (.block 2 (.seq (.reg [oo 30 (.move (tq 1) false),
   oo 31 (.move (tq 7) false),
   oo 32 (.move (tq 9) false),
   oo 33 (.indexAddrS 5 (tq 31) (tq 32)),
   oo 34 (.fieldAddr 1 (tq 33)),
   oo 35 (.load true 3 (tq 34) false),
   oo 36 (.call 283 [((tq 30),0),((tq 35),0)] []),
   oo 37 (.un .not (tq 36))])
 (.cond (tq 37)
 (.reg [oo 38 (.move (tq 8) true),
   oo 39 (.move (tq 7) false),
   oo 40 (.move (tq 9) false),
   oo 41 (.indexAddrS 5 (tq 39) (tq 40)),
   oo 42 (.fieldAddr 1 (tq 41)),
   oo 43 (.load true 3 (tq 42) false),
   oo 44 (.buildSlice 3 1 [(.sc (.int .u32 0)),(.sc (.int .u16 0)),(.sc (.int .u32 0))] [(0,3,(tq 43))]),
   oo 45 (.append 3 12 (tq 38) (tq 44)),
   oo 8 (.move (tq 45) true)])
 .skip)))
 (.reg [oo 28 (.move (tq 9) false),
   oo 29 (.bin .add (tq 28) (.const (.sc (.int .i64 1)))),
   oo 9 (.move (tq 29) false)])))
def zr0:CC:=(.seq (.reg [oo 46 (.move (tq 8) true),
   oo 6 (.move (tq 46) true)])
 .ret)
def zoe:CF:=⟨47,[.tmp 6],
 (.seq (.reg [oo 3 (.box true (tq 0)),
   oo 6 (.move (.const (.gs 3 [])) true)])
 (.seq (.reg [oo 7 (.move (.const (.gs 5 [])) true)])
 (.seq (.seq (.reg [oo 10 (.move (tq 2) false)])
 (.block 0 (.seq (.reg [oo 12 (.bin .eql (tq 10) (.const (.sc (.int .i64 2)))),
   oo 11 (.move (tq 12) false)])
 (.cond (tq 11)
 (.dreg [] [(oo 13 (.buildSlice 5 0 [(.sc (.int .i64 0)),(.sc (.int .u32 0)),(.sc (.int .u16 0)),(.sc (.int .u32 0)),(.sc (.int .u32 0))] []),qn [3] []),
   (oo 14 (.fieldAddr 33 (tq 3)),q0),
   (oo 15 (.load false 1 (tq 14) false),ql 3 [] [13]),
   (oo 16 (.append 5 24 (tq 13) (tq 15)),qn [3] []),
   (oo 17 (.fieldAddr 32 (tq 3)),q0),
   (oo 18 (.load false 1 (tq 17) false),ql 3 [] [13,16]),
   (oo 19 (.append 5 24 (tq 16) (tq 18)),q0),
   (oo 7 (.move (tq 19) false),q0)])
 (.seq (.reg [oo 21 (.bin .eql (tq 10) (.const (.sc (.int .i64 3)))),
   oo 20 (.move (tq 21) false)])
 (.cond (tq 20)
 (.reg [oo 22 (.fieldAddr 32 (tq 3)),
   oo 23 (.load false 1 (tq 22) false),
   oo 7 (.move (tq 23) false)])
 .skip))))))
 (.seq (.reg [oo 8 (.move (.const (.gs 3 [])) true)])
 (.seq (.seq (.reg [oo 9 (.move (.const (.sc (.int .i64 0))) false)])
 (.block 1 (.loop (bl 898 47) (bl 87892143636471 47)
 zpX)))
 zr0)))))⟩
def zmx:Hint:=⟨[(0,0),(0,1),(1,0),(7,0),(12,0),(12,8),(13,0),(13,1)],[],[none,none,none,none,some ((bl 898 47),(bl 87892143636471 47)),none,some ((bl 256 47),(bl 87892143635959 47)),none,none,none],[],[],false,false⟩
def zGi:Nat→Sh:=xO [(15,(.sl 5)),(18,(.sl 5)),(23,(.sl 5))]
def zGk (xm:xN) (L:Nat):CBC:=(xu 283 (zpM xm L) noC)
def zDf:St→St:=zac 0 (bl 898 47) (bl 87892143636471 47)
def zBH (p1 p7 p8:List (List V)) (p9:Int):St:=⟨(jn 1 ((V.sl 4 p1)::(jn 5 ((V.sl 5 p7)::((V.gs 3 p8)::((V.sc (.int .i64 p9))::(jn 37 []))))))),(gn 47 [])⟩
def zzx (p1 p7 p8:List (List V)) (p9:Int):St:=⟨(jn 1 ((V.sl 4 p1)::(jn 5 ((V.gs 5 p7)::((V.gs 3 p8)::((V.sc (.int .i64 p9))::(jn 37 []))))))),(gn 47 [])⟩
def zEK (p8:List (List V)):St:=⟨(jn 8 ((V.gs 3 p8)::(jn 38 []))),(gn 47 [])⟩
abbrev zim (β:Type):Type:=List (List V)→List (List V)→List (List V)→Int→Option β
abbrev zhq (β:Type):Type:=List (List V)→List (List V)→List (List V)→Int→Option β
def zv5 {β:Type} (xm:xN) (L:Nat) (p0:List V) (p1:List (List V)) (p2:Int) (k_hbbbbaba:zim β) (k_hbbbbabav1:zhq β):Option β :=
 ifb ((p2:Int) == (2:Int)) (
 cLd 5 p0 33 fun v0 =>
 chk ((List.length ([]:List (List V))+List.length v0) * 24≤yr∧List.length ([]:List (List V))+List.length v0≤yr) (
 lt (([]:List (List V))++v0) fun l1 =>
 cLd 5 p0 32 fun v2 =>
 chk ((List.length l1+List.length v2) * 24≤yr∧List.length l1+List.length v2≤yr) (
 lt (l1++v2) fun l3 =>
 k_hbbbbaba p1 l3 ([]:List (List V)) (0:Int)))) (
 ifb ((p2:Int) == (3:Int)) (
 cLd 5 p0 32 fun v4 =>
 k_hbbbbaba p1 v4 ([]:List (List V)) (0:Int)) (
 k_hbbbbabav1 p1 ([]:List (List V)) ([]:List (List V)) (0:Int)))
def zqz {β:Type} (xm:xN) (L:Nat) (p1 p7 p8:List (List V)) (p9:Int) (k_hbbbbaba:zim β) (k_x1:List (List V)→Option β):Option β :=
 ifb (decide (p9 < ((List.length p7:Nat):Int))) (
 idx p7 p9 fun c5 =>
 xm β L p1 (List.take 3 (List.drop 1 c5)) (fun v6 =>
 ifb (!v6) (
 idx p7 p9 fun c7 =>
 chk ((List.length (List.take 3 (List.drop 1 c7)))=3∧0+3≤3) (
 chk ((List.length p8+List.length (yk 3 1 (xg [(V.sc (.int .u32 (0:Int))),(V.sc (.int .u16 (0:Int))),(V.sc (.int .u32 (0:Int)))] 0 (List.take 3 (List.drop 1 c7))))) * 12≤yr∧List.length p8+List.length (yk 3 1 (xg [(V.sc (.int .u32 (0:Int))),(V.sc (.int .u16 (0:Int))),(V.sc (.int .u32 (0:Int)))] 0 (List.take 3 (List.drop 1 c7))))≤yr) (
 lt (p8++(yk 3 1 (xg [(V.sc (.int .u32 (0:Int))),(V.sc (.int .u16 (0:Int))),(V.sc (.int .u32 (0:Int)))] 0 (List.take 3 (List.drop 1 c7))))) fun l8 =>
 lt (IntKind.wrap .i64 ((p9:Int)+(1:Int))) fun x9 =>
 k_hbbbbaba p1 p7 l8 x9))) (
 lt (IntKind.wrap .i64 ((p9:Int)+(1:Int))) fun x10 =>
 k_hbbbbaba p1 p7 p8 x10))) (
 k_x1 p8)
def zpq {β:Type} (xm:xN) (L:Nat) (p1 p7 p8:List (List V)) (p9:Int) (k_hbbbbabav1:zhq β) (k_x1:List (List V)→Option β):Option β :=
 ifb (decide (p9 < ((List.length p7:Nat):Int))) (
 idx p7 p9 fun c11 =>
 xm β L p1 (List.take 3 (List.drop 1 c11)) (fun v12 =>
 ifb (!v12) (
 idx p7 p9 fun c13 =>
 chk ((List.length (List.take 3 (List.drop 1 c13)))=3∧0+3≤3) (
 chk ((List.length p8+List.length (yk 3 1 (xg [(V.sc (.int .u32 (0:Int))),(V.sc (.int .u16 (0:Int))),(V.sc (.int .u32 (0:Int)))] 0 (List.take 3 (List.drop 1 c13))))) * 12≤yr∧List.length p8+List.length (yk 3 1 (xg [(V.sc (.int .u32 (0:Int))),(V.sc (.int .u16 (0:Int))),(V.sc (.int .u32 (0:Int)))] 0 (List.take 3 (List.drop 1 c13))))≤yr) (
 lt (p8++(yk 3 1 (xg [(V.sc (.int .u32 (0:Int))),(V.sc (.int .u16 (0:Int))),(V.sc (.int .u32 (0:Int)))] 0 (List.take 3 (List.drop 1 c13))))) fun l14 =>
 lt (IntKind.wrap .i64 ((p9:Int)+(1:Int))) fun x15 =>
 k_hbbbbabav1 p1 p7 l14 x15))) (
 lt (IntKind.wrap .i64 ((p9:Int)+(1:Int))) fun x16 =>
 k_hbbbbabav1 p1 p7 p8 x16))) (
 k_x1 p8)
def zpb {β:Type} (xm:xN) (L:Nat) (p8:List (List V)) (k_fin:List (List V)→Option β):Option β :=
 k_fin p8
def znV {β:Type} (xm:xN) (L:Nat) (p8:List (List V)) (k_fin:List (List V)→Option β):Option β :=
 k_fin p8
def zi5 {β:Type} (xm:xN) (L:Nat) (k_x1:List (List V)→Option β):Nat→List (List V)→List (List V)→List (List V)→Int→Option β
 | 0,_,_,_,_=>none
 | n+1,p1,p7,p8,p9=>zqz xm L p1 p7 p8 p9 (fun p1 p7 p8 p9=>zi5 xm L k_x1 n p1 p7 p8 p9) k_x1
def zhu {β:Type} (xm:xN) (L:Nat) (k_x1:List (List V)→Option β):Nat→List (List V)→List (List V)→List (List V)→Int→Option β
 | 0,_,_,_,_=>none
 | n+1,p1,p7,p8,p9=>zpq xm L p1 p7 p8 p9 (fun p1 p7 p8 p9=>zhu xm L k_x1 n p1 p7 p8 p9) k_x1
def zwV {β:Type} (xm:xN) (L:Nat) (p0:List V) (p1:List (List V)) (p2:Int) (k_fin:List (List V)→Option β):Option β :=
 zv5 xm L p0 p1 p2 (fun p1 p7 p8 p9=>zi5 xm L (fun p8=>zpb xm L p8 k_fin) L p1 p7 p8 p9) (fun p1 p7 p8 p9=>zhu xm L (fun p8=>znV xm L p8 k_fin) L p1 p7 p8 p9)
abbrev xC:=∀ (β:Type),Nat→List V→List (List V)→Int→(List (List V)→Option β)→Option β
def zh (β:Type) (L:Nat) (p0:List V) (p1:List (List V)) (p2:Int) (k_fin:List (List V)→Option β):Option β:=zwV xm L p0 p1 p2 k_fin
def zpk (zh:xC) (L:Nat) (β:Type) (args:List V) (bor:Bor) (k:KK β):Option β:=match args,bor with
 | [a0,a1,a2],[]=>aG a0 fun p0=>aL 4 a1 fun p1=>aI .i64 a2 fun p2=>zh β L p0 p1 p2 (fun p0=>k (V.gs 3 p0) [])
 | _,_=>none
def ztg:CC:=(.seq (.seq (.reg [oo 28 (.move (tq 11) false),
   oo 29 (.move (tq 1) false),
   oo 30 (.lenS (tq 29)),
   oo 31 (.bin .lss (tq 28) (tq 30)),
   oo 32 (.move (tq 31) false),
   ⟨(some 33),false,(some (32,true)),.move (tq 2) false⟩,
   ⟨(some 34),false,(some (32,true)),.call 282 [((tq 33),0),((.const (.sc (.int .i64 1))),0)] []⟩,
   ⟨(some 35),false,(some (32,true)),.bin .lss (tq 34) (.const (.sc (.int .i64 2)))⟩,
   oo 36 (.pick (tq 32) (tq 35) (.const (.sc (.bool false)))),
   oo 37 (.move (tq 36) false),
   ⟨(some 38),false,(some (37,true)),.move (tq 2) false⟩,
   ⟨(some 39),false,(some (37,true)),.lenS (tq 38)⟩,
   ⟨(some 40),false,(some (37,true)),.bin .lss (tq 39) (.const (.sc (.int .i64 8)))⟩,
   oo 41 (.pick (tq 37) (tq 40) (.const (.sc (.bool false))))])
 (.cond (tq 41)
 .skip
 (.seq (.mask (bl 1308 88) (bl 309485009820781550761932287 88))
 (.exit 0))))
 (.seq (.block 1 (.seq (.reg [oo 44 (.move (tq 2) false),
   oo 45 (.move (tq 1) false),
   oo 46 (.move (tq 11) false),
   oo 47 (.indexAddrS 3 (tq 45) (tq 46)),
   oo 48 (.load true 3 (tq 47) false),
   oo 49 (.call 283 [((tq 44),0),((tq 48),0)] []),
   oo 50 (.un .not (tq 49))])
 (.cond (tq 50)
 (.seq (.reg [oo 51 (.move (tq 1) false),
   oo 52 (.move (tq 11) false),
   oo 53 (.indexAddrS 3 (tq 51) (tq 52)),
   oo 54 (.load true 3 (tq 53) false),
   oo 55 (.build [(.sc (.int .i64 0)),(.sc (.int .u32 0)),(.sc (.int .u16 0)),(.sc (.int .u32 0))] [(0,1,(.const (.sc (.int .i64 1)))),(1,3,(tq 54))]),
   oz (.store 4 (tq 8) (tq 55)),
   oo 9 (.move (.const (.sc (.int .i64 0))) false)])
 (.seq (.mask (bl 768 88) (bl 309485009820781550761932783 88))
 .ret))
 .skip)))
 (.reg [oo 42 (.move (tq 11) false),
   oo 43 (.bin .add (tq 42) (.const (.sc (.int .i64 1)))),
   oo 11 (.move (tq 43) false)])))
def zv3:CC:=(.seq (.seq (.reg [oo 56 (.move (tq 2) false),
   oo 57 (.lenS (tq 56)),
   oo 58 (.bin .geq (tq 57) (.const (.sc (.int .i64 8)))),
   oo 59 (.move (tq 58) false),
   ⟨(some 60),false,(some (59,false)),.move (tq 10) false⟩,
   ⟨(some 61),false,(some (59,false)),.bin .eql (tq 60) (.const (.sc (.int .i64 3)))⟩,
   ⟨(some 62),false,(some (59,false)),.move (tq 61) false⟩,
   ⟨(some 63),false,(some (62,true)),.move (tq 2) false⟩,
   ⟨(some 64),false,(some (62,true)),.call 282 [((tq 63),0),((.const (.sc (.int .i64 3))),0)] []⟩,
   ⟨(some 65),false,(some (62,true)),.bin .gtr (tq 64) (.const (.sc (.int .i64 0)))⟩,
   ⟨(some 66),false,(some (59,false)),.pick (tq 62) (tq 65) (.const (.sc (.bool false)))⟩,
   oo 67 (.pick (tq 59) (.const (.sc (.bool true))) (tq 66))])
 (.cond (tq 67)
 (.seq (.reg [oo 68 (.build [(.sc (.int .i64 0)),(.sc (.int .u32 0)),(.sc (.int .u16 0)),(.sc (.int .u32 0))] []),
   oz (.store 4 (tq 8) (tq 68)),
   oo 9 (.move (.const (.sc (.int .i64 380))) false)])
 .ret)
 .skip))
 (.seq (.reg [oo 69 (.load true 34 (tq 4) false),
   oo 70 (.move (tq 2) false),
   oo 71 (.move (tq 10) false),
   oo 72 (.call 267 [((tq 69),1),((tq 70),0),((tq 71),0)] []),
   oo 12 (.move (tq 72) false)])
 (.seq (.seq (.reg [oo 73 (.move (tq 12) false),
   oo 74 (.lenS (tq 73)),
   oo 75 (.bin .eql (tq 74) (.const (.sc (.int .i64 0))))])
 (.cond (tq 75)
 (.seq (.reg [oo 76 (.build [(.sc (.int .i64 0)),(.sc (.int .u32 0)),(.sc (.int .u16 0)),(.sc (.int .u32 0))] []),
   oz (.store 4 (tq 8) (tq 76)),
   oo 9 (.move (.const (.sc (.int .i64 390))) false)])
 .ret)
 .skip))
 (.seq (.reg [oo 77 (.move (tq 10) false),
   oo 78 (.move (tq 12) false),
   oo 79 (.move (tq 3) false),
   oo 80 (.move (tq 12) false),
   oo 81 (.lenS (tq 80)),
   oo 82 (.conv .u64 (tq 81)),
   oo 83 (.bin .rem (tq 79) (tq 82)),
   oo 84 (.conv .i64 (tq 83)),
   oo 85 (.indexAddrS 3 (tq 78) (tq 84)),
   oo 86 (.load true 3 (tq 85) false),
   oo 87 (.build [(.sc (.int .i64 0)),(.sc (.int .u32 0)),(.sc (.int .u16 0)),(.sc (.int .u32 0))] [(0,1,(tq 77)),(1,3,(tq 86))]),
   oz (.store 4 (tq 8) (tq 87)),
   oo 9 (.move (.const (.sc (.int .i64 0))) false)])
 .ret))))
def zso:CF:=⟨88,[.cell 8 true 4,.tmp 9],
 (.seq (.reg [oo 4 (.box true (tq 0)),
   oo 8 (.alloc true [(.sc (.int .i64 0)),(.sc (.int .u32 0)),(.sc (.int .u16 0)),(.sc (.int .u32 0))]),
   oo 9 (.move (.const (.sc (.int .i64 0))) false)])
 (.seq (.seq (.reg [oo 13 (.move (tq 2) false),
   oo 14 (.call 280 [((tq 13),0)] []),
   oo 15 (.un .not (tq 14)),
   oo 16 (.move (tq 15) false),
   ⟨(some 17),false,(some (16,false)),.load true 34 (tq 4) false⟩,
   ⟨(some 18),false,(some (16,false)),.call 281 [((tq 17),1)] []⟩,
   ⟨(some 19),false,(some (16,false)),.un .not (tq 18)⟩,
   oo 20 (.pick (tq 16) (.const (.sc (.bool true))) (tq 19))])
 (.cond (tq 20)
 (.seq (.reg [oo 21 (.build [(.sc (.int .i64 0)),(.sc (.int .u32 0)),(.sc (.int .u16 0)),(.sc (.int .u32 0))] []),
   oz (.store 4 (tq 8) (tq 21)),
   oo 9 (.move (.const (.sc (.int .i64 6))) false)])
 .ret)
 .skip))
 (.seq (.reg [oo 10 (.move (.const (.sc (.int .i64 3))) false)])
 (.seq (.seq (.reg [oo 22 (.move (tq 2) false),
   oo 23 (.lenS (tq 22)),
   oo 24 (.move (tq 2) false),
   oo 25 (.call 282 [((tq 24),0),((.const (.sc (.int .i64 3))),0)] []),
   oo 26 (.bin .sub (tq 23) (tq 25)),
   oo 27 (.bin .lss (tq 26) (.const (.sc (.int .i64 7))))])
 (.cond (tq 27)
 (.reg [oo 10 (.move (.const (.sc (.int .i64 2))) false)])
 .skip))
 (.seq (.seq (.reg [oo 11 (.move (.const (.sc (.int .i64 0))) false)])
 (.block 0 (.loop (bl 3358 88) (bl 309485009820781550761934335 88)
 ztg)))
 zv3)))))⟩
def zqb:Hint:=⟨[(0,0)],[],[none,none,none,none,some ((bl 3358 88),(bl 309485009820781550761934335 88)),none,some ((bl 1308 88),(bl 309485009820781550761932287 88)),none,none,some ((bl 768 88),(bl 309485009820781550761932783 88)),none,none,none,none,none],[],[],false,false⟩
def zIt:Nat→Sh:=xO []
def zIC (z8:zdv) (yu:zaR) (xU:zdw) (xm:xN) (zh:xC) (L:Nat):CBC:=(xu 267 (zpk zh L) (xu 283 (zpM xm L) (xu 282 (zCr xU L) (xu 281 (zfX yu L) (xu 280 (zCR z8 L) noC)))))
def zEX:St→St:=zac 0 (bl 3358 88) (bl 309485009820781550761934335 88)
def zEo (p1 p2:List (List V)) (p3 p10 p11:Int) (b4:List V) (zKC zKD zKE zKF:Int):St:=⟨(jn 1 ((V.sl 3 p1)::((V.sl 4 p2)::((V.sc (.int .u64 p3))::((V.ptr 4 0)::(jn 3 ((V.ptr 8 0)::(jn 1 ((V.sc (.int .i64 p10))::((V.sc (.int .i64 p11))::(jn 76 []))))))))))),(gn 4 ((.live true b4)::(gn 3 ((.live true [(V.sc (.int .i64 zKC)),(V.sc (.int .u32 zKD)),(V.sc (.int .u16 zKE)),(V.sc (.int .u32 zKF))])::(gn 79 [])))))⟩
def zGj (p9:Int) (b8:List V):St:=⟨(jn 8 ((V.ptr 8 0)::((V.sc (.int .i64 p9))::(jn 78 [])))),(gn 8 ((.live true b8)::(gn 79 [])))⟩
def zGs (p2:List (List V)) (p3 p10:Int) (b4:List V) (zKC zKD zKE zKF:Int):St:=⟨(jn 2 ((V.sl 4 p2)::((V.sc (.int .u64 p3))::((V.ptr 4 0)::(jn 3 ((V.ptr 8 0)::(jn 1 ((V.sc (.int .i64 p10))::(jn 77 []))))))))),(gn 4 ((.live true b4)::(gn 3 ((.live true [(V.sc (.int .i64 zKC)),(V.sc (.int .u32 zKD)),(V.sc (.int .u16 zKE)),(V.sc (.int .u32 zKF))])::(gn 79 [])))))⟩
abbrev zlg (β:Type):Type:=List (List V)→List (List V)→Int→Int→Int→List V→Int→Int→Int→Int→Option β
abbrev zrp (β:Type):Type:=List (List V)→Int→Int→List V→Int→Int→Int→Int→Option β
def zBy {β:Type} (z8:zdv) (yu:zaR) (xU:zdw) (xm:xN) (zh:xC) (L:Nat) (p0:List V) (p1 p2:List (List V)) (p3:Int) (k_fin:List V→Int→Option β) (k_hbbbbaba:zlg β):Option β :=
 z8 β L p2 (fun v0 =>
 ifb (!v0) (
 lt [(V.sc (.int .i64 (0:Int))),(V.sc (.int .u32 (0:Int))),(V.sc (.int .u16 (0:Int))),(V.sc (.int .u32 (0:Int)))] fun r1 =>
 chk (0=0∧(List.length r1)=4∧4≠0) (
 k_fin r1 (6:Int))) (
 chk (0+34≤(List.length p0)) (
 yu β L (List.map V.dem (List.take 34 p0)) (fun v2 =>
 ifb (!v2) (
 lt [(V.sc (.int .i64 (0:Int))),(V.sc (.int .u32 (0:Int))),(V.sc (.int .u16 (0:Int))),(V.sc (.int .u32 (0:Int)))] fun r3 =>
 chk (0=0∧(List.length r3)=4∧4≠0) (
 k_fin r3 (6:Int))) (
 xU β L p2 (3:Int) (fun v4 =>
 lt (IntKind.wrap .i64 ((((List.length p2:Nat):Int):Int) - v4)) fun x5 =>
 ifb (decide (x5 < (7:Int))) (
 k_hbbbbaba p1 p2 p3 (2:Int) (0:Int) p0 (0:Int) (0:Int) (0:Int) (0:Int)) (
 k_hbbbbaba p1 p2 p3 (3:Int) (0:Int) p0 (0:Int) (0:Int) (0:Int) (0:Int))))))))
def zuc {β:Type} (z8:zdv) (yu:zaR) (xU:zdw) (xm:xN) (zh:xC) (L:Nat) (p1 p2:List (List V)) (p3 p10 p11:Int) (b4:List V) (zKC zKD zKE zKF:Int) (k_ret:Int→List V→Option β) (k_hbbbbaba:zlg β) (k_x0:zrp β):Option β :=
 ifb (decide (p11 < ((List.length p1:Nat):Int))) (
 xU β L p2 (1:Int) (fun v6 =>
 ifb (decide (v6 < (2:Int))) (
 ifb (decide (((List.length p2:Nat):Int) < (8:Int))) (
 idx p1 p11 fun c7 =>
 xm β L p2 (List.take 3 c7) (fun v8 =>
 ifb (!v8) (
 idx p1 p11 fun c9 =>
 chk ((List.length (List.take 3 c9))=3∧1+3≤4) (
 chk ((List.length (xg [(V.sc (.int .i64 (1:Int))),(V.sc (.int .u32 (0:Int))),(V.sc (.int .u16 (0:Int))),(V.sc (.int .u32 (0:Int)))] 1 (List.take 3 c9)))=4∧0+4≤4) (
 lt (xg [(V.sc (.int .i64 zKC)),(V.sc (.int .u32 zKD)),(V.sc (.int .u16 zKE)),(V.sc (.int .u32 zKF))] 0 (xg [(V.sc (.int .i64 (1:Int))),(V.sc (.int .u32 (0:Int))),(V.sc (.int .u16 (0:Int))),(V.sc (.int .u32 (0:Int)))] 1 (List.take 3 c9))) fun r10 =>
 k_ret (0:Int) r10))) (
 lt (IntKind.wrap .i64 ((p11:Int)+(1:Int))) fun x11 =>
 k_hbbbbaba p1 p2 p3 p10 x11 b4 zKC zKD zKE zKF))) (
 k_x0 p2 p3 p10 b4 zKC zKD zKE zKF)) (
 k_x0 p2 p3 p10 b4 zKC zKD zKE zKF))) (
 k_x0 p2 p3 p10 b4 zKC zKD zKE zKF)
def zrt {β:Type} (z8:zdv) (yu:zaR) (xU:zdw) (xm:xN) (zh:xC) (L:Nat) (p9:Int) (b8:List V) (k_fin:List V→Int→Option β):Option β :=
 chk (0=0∧(List.length b8)=4∧4≠0) (
 k_fin b8 p9)
def zrT {β:Type} (z8:zdv) (yu:zaR) (xU:zdw) (xm:xN) (zh:xC) (L:Nat) (p2:List (List V)) (p3 p10:Int) (b4:List V) (zKC zKD zKE zKF:Int) (k_fin:List V→Int→Option β):Option β :=
 ifb (decide (((List.length p2:Nat):Int) ≥ (8:Int))) (
 lt [(V.sc (.int .i64 (0:Int))),(V.sc (.int .u32 (0:Int))),(V.sc (.int .u16 (0:Int))),(V.sc (.int .u32 (0:Int)))] fun r12 =>
 chk (0=0∧(List.length r12)=4∧4≠0) (
 k_fin r12 (380:Int))) (
 ifb ((p10:Int) == (3:Int)) (
 xU β L p2 (3:Int) (fun v13 =>
 ifb (decide (v13 > (0:Int))) (
 lt [(V.sc (.int .i64 (0:Int))),(V.sc (.int .u32 (0:Int))),(V.sc (.int .u16 (0:Int))),(V.sc (.int .u32 (0:Int)))] fun r14 =>
 chk (0=0∧(List.length r14)=4∧4≠0) (
 k_fin r14 (380:Int))) (
 chk (0+34≤(List.length b4)) (
 zh β L (List.map V.dem (List.take 34 b4)) p2 p10 (fun v15 =>
 ifb ((((List.length v15:Nat):Int):Int) == (0:Int)) (
 lt [(V.sc (.int .i64 (0:Int))),(V.sc (.int .u32 (0:Int))),(V.sc (.int .u16 (0:Int))),(V.sc (.int .u32 (0:Int)))] fun r16 =>
 chk (0=0∧(List.length r16)=4∧4≠0) (
 k_fin r16 (390:Int))) (
 lt (IntKind.wrap .u64 ((List.length v15:Nat):Int)) fun x17 =>
 chk (x17≠0) (
 lt (Int.tmod p3 x17) fun x18 =>
 lt (IntKind.wrap .i64 x18) fun x19 =>
 idx v15 x19 fun c20 =>
 chk ((List.length (List.take 3 c20))=3∧1+3≤4) (
 chk ((List.length (xg [(V.sc (.int .i64 p10)),(V.sc (.int .u32 (0:Int))),(V.sc (.int .u16 (0:Int))),(V.sc (.int .u32 (0:Int)))] 1 (List.take 3 c20)))=4∧0+4≤4) (
 lt (xg [(V.sc (.int .i64 zKC)),(V.sc (.int .u32 zKD)),(V.sc (.int .u16 zKE)),(V.sc (.int .u32 zKF))] 0 (xg [(V.sc (.int .i64 p10)),(V.sc (.int .u32 (0:Int))),(V.sc (.int .u16 (0:Int))),(V.sc (.int .u32 (0:Int)))] 1 (List.take 3 c20))) fun r21 =>
 chk (0=0∧(List.length r21)=4∧4≠0) (
 k_fin r21 (0:Int))))))))))) (
 chk (0+34≤(List.length b4)) (
 zh β L (List.map V.dem (List.take 34 b4)) p2 p10 (fun v22 =>
 ifb ((((List.length v22:Nat):Int):Int) == (0:Int)) (
 lt [(V.sc (.int .i64 (0:Int))),(V.sc (.int .u32 (0:Int))),(V.sc (.int .u16 (0:Int))),(V.sc (.int .u32 (0:Int)))] fun r23 =>
 chk (0=0∧(List.length r23)=4∧4≠0) (
 k_fin r23 (390:Int))) (
 lt (IntKind.wrap .u64 ((List.length v22:Nat):Int)) fun x24 =>
 chk (x24≠0) (
 lt (Int.tmod p3 x24) fun x25 =>
 lt (IntKind.wrap .i64 x25) fun x26 =>
 idx v22 x26 fun c27 =>
 chk ((List.length (List.take 3 c27))=3∧1+3≤4) (
 chk ((List.length (xg [(V.sc (.int .i64 p10)),(V.sc (.int .u32 (0:Int))),(V.sc (.int .u16 (0:Int))),(V.sc (.int .u32 (0:Int)))] 1 (List.take 3 c27)))=4∧0+4≤4) (
 lt (xg [(V.sc (.int .i64 zKC)),(V.sc (.int .u32 zKD)),(V.sc (.int .u16 zKE)),(V.sc (.int .u32 zKF))] 0 (xg [(V.sc (.int .i64 p10)),(V.sc (.int .u32 (0:Int))),(V.sc (.int .u16 (0:Int))),(V.sc (.int .u32 (0:Int)))] 1 (List.take 3 c27))) fun r28 =>
 chk (0=0∧(List.length r28)=4∧4≠0) (
 k_fin r28 (0:Int))))))))))
def zme {β:Type} (z8:zdv) (yu:zaR) (xU:zdw) (xm:xN) (zh:xC) (L:Nat) (k_ret:Int→List V→Option β) (k_x0:zrp β):Nat→List (List V)→List (List V)→Int→Int→Int→List V→Int→Int→Int→Int→Option β
 | 0,_,_,_,_,_,_,_,_,_,_=>none
 | n+1,p1,p2,p3,p10,p11,b4,zKC,zKD,zKE,zKF=>zuc z8 yu xU xm zh L p1 p2 p3 p10 p11 b4 zKC zKD zKE zKF k_ret (fun p1 p2 p3 p10 p11 b4 zKC zKD zKE zKF=>zme z8 yu xU xm zh L k_ret k_x0 n p1 p2 p3 p10 p11 b4 zKC zKD zKE zKF) k_x0
def zBj {β:Type} (z8:zdv) (yu:zaR) (xU:zdw) (xm:xN) (zh:xC) (L:Nat) (p0:List V) (p1 p2:List (List V)) (p3:Int) (k_fin:List V→Int→Option β):Option β :=
 zBy z8 yu xU xm zh L p0 p1 p2 p3 k_fin (fun p1 p2 p3 p10 p11 b4 zKC zKD zKE zKF=>zme z8 yu xU xm zh L (fun p9 b8=>zrt z8 yu xU xm zh L p9 b8 k_fin) (fun p2 p3 p10 b4 zKC zKD zKE zKF=>zrT z8 yu xU xm zh L p2 p3 p10 b4 zKC zKD zKE zKF k_fin) L p1 p2 p3 p10 p11 b4 zKC zKD zKE zKF)
abbrev z6:=∀ (β:Type),Nat→List V→List (List V)→List (List V)→Int→(List V→Int→Option β)→Option β
def xx (β:Type) (L:Nat) (p0:List V) (p1 p2:List (List V)) (p3:Int) (k_fin:List V→Int→Option β):Option β:=zBj z8 yu xU xm zh L p0 p1 p2 p3 k_fin
def zBw (xx:z6) (L:Nat) (β:Type) (args:List V) (bor:Bor) (k:KK β):Option β:=match args,bor with
 | [a0,a1,a2,a3],[]=>aG a0 fun p0=>aL 3 a1 fun p1=>aL 4 a2 fun p2=>aI .u64 a3 fun p3=>xx β L p0 p1 p2 p3 (fun zLN zLO=>k (V.tup [(V.agg zLN),(V.sc (.int .i64 zLO))]) [])
 | _,_=>none
def zr4:CC:=(.seq (.seq (.reg [oo 11 (.move (tq 5) false),
   oo 12 (.move (tq 0) false),
   oo 13 (.lenS (tq 12)),
   oo 14 (.bin .lss (tq 11) (tq 13))])
 (.cond (tq 14)
 .skip
 (.seq (.mask (bl 0 26) (bl 67100623 26))
 (.exit 0))))
 (.seq (.block 1 (.seq (.dreg [] [(oo 17 (.move (tq 0) false),q0),
   (oo 18 (.move (tq 5) false),q0),
   (oo 19 (.indexAddrS 3 (tq 17) (tq 18)),q0),
   (oo 20 (.load true 3 (tq 19) false),q1),
   (oo 21 (.move (tq 1) false),q0),
   (oo 22 (.move (tq 5) false),q0),
   (oo 23 (.indexAddrS 3 (tq 21) (tq 22)),q0),
   (oo 24 (.load true 3 (tq 23) false),q1),
   (oo 25 (.eqAgg true 3 (tq 20) (tq 24)),q0)])
 (.cond (tq 25)
 (.seq (.reg [oo 4 (.move (.const (.sc (.bool false))) false)])
 (.seq (.mask (bl 16 26) (bl 67100639 26))
 .ret))
 .skip)))
 (.reg [oo 15 (.move (tq 5) false),
   oo 16 (.bin .add (tq 15) (.const (.sc (.int .i64 1)))),
   oo 5 (.move (tq 16) false)])))
def zu5:CC:=(.seq (.reg [oo 4 (.move (.const (.sc (.bool true))) false)])
 .ret)
def zo5:CF:=⟨26,[.tmp 4],
 (.seq (.reg [oo 4 (.move (.const (.sc (.bool false))) false)])
 (.seq (.seq (.reg [oo 6 (.move (tq 0) false),
   oo 7 (.lenS (tq 6)),
   oo 8 (.move (tq 1) false),
   oo 9 (.lenS (tq 8)),
   oo 10 (.bin .neq (tq 7) (tq 9))])
 (.cond (tq 10)
 (.seq (.reg [oo 4 (.move (.const (.sc (.bool false))) false)])
 .ret)
 .skip))
 (.seq (.seq (.reg [oo 5 (.move (.const (.sc (.int .i64 0))) false)])
 (.block 0 (.loop (bl 35 26) (bl 67100655 26)
 zr4)))
 zu5)))⟩
def znm:Hint:=⟨[],[],[none,none,none,some ((bl 35 26),(bl 67100655 26)),none,some ((bl 0 26),(bl 67100623 26)),none,none,some ((bl 16 26),(bl 67100639 26)),none],[],[],false,false⟩
def zHe:Nat→Sh:=xO []
def zHd (L:Nat):CBC:=noC
def zEI:St→St:=zac 0 (bl 35 26) (bl 67100655 26)
def zDa (p0 p1:List (List V)) (p5:Int):St:=⟨((V.sl 3 p0)::((V.sl 3 p1)::(jn 3 ((V.sc (.int .i64 p5))::(jn 20 []))))),(gn 26 [])⟩
def zEF (p4:Bool):St:=⟨(jn 4 ((V.sc (.bool p4))::(jn 21 []))),(gn 26 [])⟩
def zET:St:=⟨(jn 26 []),(gn 26 [])⟩
def zxQ {β:Type} (L:Nat) (p0 p1:List (List V)) (k_fin:Bool→Option β) (k_hbbaba:List (List V)→List (List V)→Int→Option β):Option β :=
 ifb ((((List.length p0:Nat):Int):Int) != ((List.length p1:Nat):Int)) (
 k_fin false) (
 k_hbbaba p0 p1 (0:Int))
def zsQ {β:Type} (L:Nat) (p0 p1:List (List V)) (p5:Int) (k_ret:Bool→Option β) (k_hbbaba:List (List V)→List (List V)→Int→Option β) (k_x0:Option β):Option β :=
 ifb (decide (p5 < ((List.length p0:Nat):Int))) (
 idx p0 p5 fun c0 =>
 idx p1 p5 fun c1 =>
 eqC 3 (List.take 3 c0) (List.take 3 c1) fun v2 =>
 ifb (!v2) (
 k_ret false) (
 lt (IntKind.wrap .i64 ((p5:Int)+(1:Int))) fun x3 =>
 k_hbbaba p0 p1 x3)) (
 k_x0)
def zqp {β:Type} (L:Nat) (p4:Bool) (k_fin:Bool→Option β):Option β :=
 k_fin p4
def zrF {β:Type} (L:Nat) (k_fin:Bool→Option β):Option β :=
 k_fin true
def zlB {β:Type} (L:Nat) (k_ret:Bool→Option β) (k_x0:Option β):Nat→List (List V)→List (List V)→Int→Option β
 | 0,_,_,_=>none
 | n+1,p0,p1,p5=>zsQ L p0 p1 p5 k_ret (fun p0 p1 p5=>zlB L k_ret k_x0 n p0 p1 p5) k_x0
def zx6 {β:Type} (L:Nat) (p0 p1:List (List V)) (k_fin:Bool→Option β):Option β :=
 zxQ L p0 p1 k_fin (fun p0 p1 p5=>zlB L (fun p4=>zqp L p4 k_fin) (zrF L k_fin) L p0 p1 p5)
abbrev zR:=∀ (β:Type),Nat→List (List V)→List (List V)→(Bool→Option β)→Option β
def yq (β:Type) (L:Nat) (p0 p1:List (List V)) (k_fin:Bool→Option β):Option β:=zx6 L p0 p1 k_fin
def zxS (yq:zR) (L:Nat) (β:Type) (args:List V) (bor:Bor) (k:KK β):Option β:=match args,bor with
 | [a0,a1],[]=>aL 3 a0 fun p0=>aL 3 a1 fun p1=>yq β L p0 p1 (fun p0=>k (V.sc (.bool p0)) [])
 | _,_=>none
def zgJ:CC:=(.seq (.reg [oo 81 (.bin .lss (tq 80) (tq 79))])
 (.seq (.cond (tq 81)
 .skip
 (.seq (.mask (bl 246290604623110 96) (bl 71645779773641383409786208191 96))
 (.exit 4)))
 (.seq (.block 5 (.seq (.reg [oo 82 (.indexAddrS 1 (tq 78) (tq 80)),
   oo 83 (.load false 1 (tq 82) false),
   oo 19 (.move (tq 83) false)])
 (.seq (.dreg [] [(oo 84 (.load true 34 (tq 8) false),ql 8 [] []),
   (oo 85 (.move (tq 13) false),q0),
   (oo 86 (.move (tq 19) false),q0),
   (oo 87 (.call 266 [((tq 84),1),((tq 85),0),((tq 86),0)] []),qc [8] []),
   (oo 88 (.load true 34 (tq 8) false),ql 8 [] []),
   (oo 89 (.move (tq 13) false),q0),
   (oo 90 (.move (tq 19) false),q0),
   (oo 91 (.call 267 [((tq 88),1),((tq 89),0),((tq 90),0)] []),q0),
   (oo 92 (.call 265 [((tq 87),0),((tq 91),0)] []),q0),
   (oo 93 (.un .not (tq 92)),q0)])
 (.cond (tq 93)
 (.seq (.reg [oo 6 (.move (.const (.sc (.bool false))) false)])
 (.seq (.mask (bl 64 96) (bl 71644721833917608935025811199 96))
 .ret))
 .skip))))
 (.reg [oo 94 (.bin .add (tq 80) (.const (.sc (.int .i64 1)))),
   oo 80 (.move (tq 94) false)]))))
def zkc:CC:=(.reg [oo 95 (.bin .add (tq 47) (.const (.sc (.int .i64 1)))),
   oo 47 (.move (tq 95) false)])
def zly:CC:=(.seq (.reg [oo 48 (.bin .lss (tq 47) (tq 46))])
 (.seq (.cond (tq 48)
 .skip
 (.seq (.mask (bl 0 96) (bl 71644721833917608935025811135 96))
 (.exit 2)))
 (.seq (.block 3 (.seq (.reg [oo 49 (.indexAddrS 1 (tq 45) (tq 47)),
   oo 50 (.load false 1 (tq 49) false),
   oo 13 (.move (tq 50) false)])
 (.seq (.reg [oo 52 (.load true 34 (tq 8) false),
   oo 53 (.move (tq 10) false),
   oo 54 (.move (tq 13) false),
   oo 55 (.move (tq 2) false),
   oo 56 (.call 263 [((tq 52),1),((tq 53),0),((tq 54),0),((tq 55),0)] []),
   oo 51 (.move (tq 56) true),
   oo 57 (.pull (tq 51) 0),
   oo 58 (.pull (tq 51) 1),
   oo 14 (.alloc true [(.sc (.int .i64 0)),(.sc (.int .u32 0)),(.sc (.int .u16 0)),(.sc (.int .u32 0))]),
   oz (.store 4 (tq 14) (tq 57)),
   oo 15 (.move (tq 58) false)])
 (.seq (.reg [oo 60 (.load true 34 (tq 8) false),
   oo 61 (.move (tq 10) false),
   oo 62 (.move (tq 13) false),
   oo 63 (.move (tq 2) false),
   oo 64 (.call 264 [((tq 60),1),((tq 61),0),((tq 62),0),((tq 63),0)] []),
   oo 59 (.move (tq 64) true),
   oo 65 (.pull (tq 59) 0),
   oo 66 (.pull (tq 59) 1),
   oo 16 (.alloc true [(.sc (.int .i64 0)),(.sc (.int .u32 0)),(.sc (.int .u16 0)),(.sc (.int .u32 0))]),
   oz (.store 4 (tq 16) (tq 65)),
   oo 17 (.move (tq 66) false)])
 (.seq (.seq (.reg [oo 67 (.move (tq 15) false),
   oo 68 (.move (tq 17) false),
   oo 69 (.bin .neq (tq 67) (tq 68)),
   oo 70 (.move (tq 69) false),
   ⟨(some 71),false,(some (70,false)),.load true 4 (tq 14) false⟩,
   ⟨(some 72),false,(some (70,false)),.load true 4 (tq 16) false⟩,
   ⟨(some 73),false,(some (70,false)),.eqAgg true 4 (tq 71) (tq 72)⟩,
   oo 74 (.pick (tq 70) (.const (.sc (.bool true))) (tq 73))])
 (.cond (tq 74)
 (.seq (.reg [oo 6 (.move (.const (.sc (.bool false))) false)])
 (.seq (.mask (bl 64 96) (bl 71644721833917608935025811199 96))
 .ret))
 .skip))
 (.seq (.reg [oo 75 (.move (tq 1) false),
   oo 76 (.move (tq 1) false),
   oo 77 (.call 217 [((tq 76),0),((.const (.sc (.int .i64 5))),0)] []),
   oo 78 (.buildSlice 1 2 [(.sc (.int .i64 0))] [(0,1,(tq 75)),(1,1,(tq 77))]),
   oo 79 (.lenS (tq 78)),
   oo 80 (.move (.const (.sc (.int .i64 0))) false)])
 (.block 4 (.loop (bl 2115620184571891660367110 96) (bl 71645779773641383409786208191 96)
 zgJ))))))))
 zkc)))
def zl2:CC:=(.seq (.seq (.reg [oo 30 (.move (tq 11) false),
   oo 31 (.bin .gtr (tq 30) (.const (.sc (.int .i64 0))))])
 (.cond (tq 31)
 .skip
 (.seq (.mask (bl 1798 96) (bl 79228162514264337112507529215 96))
 (.exit 0))))
 (.seq (.block 1 (.reg [oo 34 (.move (tq 10) true),
   oo 35 (.move (tq 7) false),
   oo 36 (.call 262 [((tq 35),0)] []),
   oo 37 (.buildSlice 3 1 [(.sc (.int .u32 0)),(.sc (.int .u16 0)),(.sc (.int .u32 0))] [(0,3,(tq 36))]),
   oo 38 (.append 3 12 (tq 34) (tq 37)),
   oo 10 (.move (tq 38) true)]))
 (.reg [oo 32 (.move (tq 11) false),
   oo 33 (.bin .sub (tq 32) (.const (.sc (.int .i64 1)))),
   oo 11 (.move (tq 33) false)])))
def zm1:CC:=(.seq (.reg [oo 6 (.move (.const (.sc (.bool true))) false)])
 .ret)
def znX:CC:=(.seq (.seq (.reg [oo 39 (.move (tq 9) false),
   oo 40 (.move (tq 9) false),
   oo 41 (.move (tq 9) false),
   oo 42 (.lenS (tq 41)),
   oo 43 (.mm false (.const (.sc (.int .i64 2))) (tq 42)),
   oo 44 (.sliceS 4 (tq 40) none (some (tq 43)) none),
   oo 45 (.buildSlice 1 3 [(.sl 4 [])] [(0,1,(tq 39)),(1,1,(.const (.gs 4 []))),(2,1,(tq 44))]),
   oo 46 (.lenS (tq 45)),
   oo 47 (.move (.const (.sc (.int .i64 0))) false)])
 (.block 2 (.loop (bl 246290604623110 96) (bl 71644721833917608935025811391 96)
 zly)))
 zm1)
def zkC:CF:=⟨96,[.tmp 6],
 (.seq (.reg [oo 6 (.move (.const (.sc (.bool false))) false)])
 (.seq (.seq (.reg [oo 20 (.call 259 [] []),
   oo 21 (.un .not (tq 20))])
 (.cond (tq 21)
 (.seq (.reg [oo 6 (.move (.const (.sc (.bool false))) false)])
 .ret)
 .skip))
 (.seq (.reg [oo 22 (.move (tq 0) false),
   oo 23 (.call 225 [((tq 22),0)] []),
   oo 7 (.move (tq 23) false)])
 (.seq (.reg [oo 24 (.move (tq 7) false),
   oo 25 (.call 260 [((tq 24),0)] []),
   oo 8 (.alloc true (rp 32 (.sc (.int .u8 0)) (rp 2 (.gs 5 []) []))),
   oz (.store 34 (tq 8) (tq 25))])
 (.seq (.reg [oo 26 (.move (tq 7) false),
   oo 27 (.call 261 [((tq 26),0)] []),
   oo 9 (.move (tq 27) true)])
 (.seq (.reg [oo 10 (.move (.const (.gs 3 [])) true)])
 (.seq (.seq (.reg [oo 28 (.move (tq 7) false),
   oo 29 (.call 231 [((tq 28),0),((.const (.sc (.int .i64 4))),0)] []),
   oo 11 (.move (tq 29) false)])
 (.block 0 (.loop (bl 3974 96) (bl 79228162514264337112507531263 96)
 zl2)))
 znX)))))))⟩
def ziX:Hint:=⟨[(4,2),(5,2),(6,0),(10,0),(10,5),(14,5),(15,5)],[],[none,none,none,some ((bl 3974 96),(bl 79228162514264337112507531263 96)),none,some ((bl 1798 96),(bl 79228162514264337112507529215 96)),none,none,some ((bl 246290604623110 96),(bl 71644721833917608935025811391 96)),none,some ((bl 0 96),(bl 71644721833917608935025811135 96)),none,none,some ((bl 64 96),(bl 71644721833917608935025811199 96)),none,some ((bl 2115620184571891660367110 96),(bl 71645779773641383409786208191 96)),none,some ((bl 246290604623110 96),(bl 71645779773641383409786208191 96)),none,none,some ((bl 64 96),(bl 71644721833917608935025811199 96)),none],[],[],false,false⟩
def zEr:Nat→Sh:=xO [(50,(.sl 4)),(83,(.int .i64))]
def zEv (yc:xt) (yd:zx) (xd:xy) (zB:zat) (ya:zl) (xf:yC) (xb:zr) (xx:z6) (zo:yW) (za:xj) (zh:xC) (yq:zR) (L:Nat):CBC:=(xu 265 (zxS yq L) (xu 267 (zpk zh L) (xu 266 (zcm za L) (xu 217 (zkg zo L) (xu 264 (zBw xx L) (xu 263 (zc1 xb L) (xu 262 (zir xf L) (xu 231 (zbg ya L) (xu 261 (zDr zB L) (xu 260 (zgx xd L) (xu 225 (zgs yd L) (xu 259 (zfc yc L) noC))))))))))))
def zzt:St→St:=zac 0 (bl 3974 96) (bl 79228162514264337112507531263 96)
def zyQ:St→St:=zac 0 (bl 246290604623110 96) (bl 71644721833917608935025811391 96)
def ztk:St→St:=zac 0 (bl 2115620184571891660367110 96) (bl 71645779773641383409786208191 96)
def zya (p1 p2:Int) (p9 p10:List (List V)) (p11:Int) (b8:List V) (zLu:List (List V)) (zLv:Int):St:=⟨(jn 1 ((V.sc (.int .i64 p1))::((V.sc (.int .u64 p2))::(jn 4 ((V.ptr 23 0)::((V.ptr 8 0)::((V.gs 4 p9)::((V.gs 3 p10)::((V.sc (.int .i64 p11))::(jn 84 [])))))))))),(gn 8 ((.live true b8)::(gn 14 ((.live false [(V.sl 1 zLu),(V.sc (.int .i64 zLv))])::(gn 72 [])))))⟩
def zC7 (p1 p2:Int) (p9 p10:List (List V)) (b8:List V) (zLu:List (List V)) (zLv:Int):St:=⟨(jn 1 ((V.sc (.int .i64 p1))::((V.sc (.int .u64 p2))::(jn 5 ((V.ptr 8 0)::((V.gs 4 p9)::((V.gs 3 p10)::(jn 85 [])))))))),(gn 8 ((.live true b8)::(gn 14 ((.live false [(V.sl 1 zLu),(V.sc (.int .i64 zLv))])::(gn 72 [])))))⟩
def zxm (p1 p2:Int) (p10 p45:List (List V)) (p46 p47:Int) (b8:List V) (zLu:List (List V)) (zLv:Int):St:=⟨(jn 1 ((V.sc (.int .i64 p1))::((V.sc (.int .u64 p2))::(jn 5 ((V.ptr 8 0)::(jn 1 ((V.gs 3 p10)::(jn 34 ((V.gs 1 p45)::((V.sc (.int .i64 p46))::((V.sc (.int .i64 p47))::(jn 48 [])))))))))))),(gn 8 ((.live true b8)::(gn 14 ((.live false [(V.sl 1 zLu),(V.sc (.int .i64 zLv))])::(gn 72 [])))))⟩
def zB0 (p6:Bool) (zLu:List (List V)) (zLv:Int):St:=⟨(jn 6 ((V.sc (.bool p6))::(jn 89 []))),(gn 23 ((.live false [(V.sl 1 zLu),(V.sc (.int .i64 zLv))])::(gn 72 [])))⟩
def zr7 (p1 p2:Int) (p10 p13 p45:List (List V)) (p46 p47:Int) (p78:List (List V)) (p79 p80:Int) (b8:List V) (zLu:List (List V)) (zLv:Int):St:=⟨(jn 1 ((V.sc (.int .i64 p1))::((V.sc (.int .u64 p2))::(jn 5 ((V.ptr 8 0)::(jn 1 ((V.gs 3 p10)::(jn 2 ((V.sl 4 p13)::(jn 31 ((V.gs 1 p45)::((V.sc (.int .i64 p46))::((V.sc (.int .i64 p47))::(jn 30 ((V.gs 1 p78)::((V.sc (.int .i64 p79))::((V.sc (.int .i64 p80))::(jn 15 [])))))))))))))))))),(gn 8 ((.live true b8)::(gn 14 ((.live false [(V.sl 1 zLu),(V.sc (.int .i64 zLv))])::(gn 72 [])))))⟩
def zCM (zLu:List (List V)) (zLv:Int):St:=⟨(jn 96 []),(gn 23 ((.live false [(V.sl 1 zLu),(V.sc (.int .i64 zLv))])::(gn 72 [])))⟩
def zCQ (p1 p2:Int) (p10 p45:List (List V)) (p46 p47:Int) (b8:List V) (zLu:List (List V)) (zLv:Int):St:=⟨(jn 1 ((V.sc (.int .i64 p1))::((V.sc (.int .u64 p2))::(jn 5 ((V.ptr 8 0)::(jn 1 ((V.gs 3 p10)::(jn 34 ((V.gs 1 p45)::((V.sc (.int .i64 p46))::((V.sc (.int .i64 p47))::(jn 48 [])))))))))))),(gn 8 ((.live true b8)::(gn 14 ((.live false [(V.sl 1 zLu),(V.sc (.int .i64 zLv))])::(gn 72 [])))))⟩
abbrev zfj (β:Type):Type:=Int→Int→List (List V)→List (List V)→Int→List V→List (List V)→Int→Option β
abbrev zj3 (β:Type):Type:=Int→Int→List (List V)→List (List V)→List V→List (List V)→Int→Option β
abbrev zcL (β:Type):Type:=Int→Int→List (List V)→List (List V)→Int→Int→List V→List (List V)→Int→Option β
abbrev zcS (β:Type):Type:=Int→Int→List (List V)→List (List V)→List (List V)→Int→Int→List (List V)→Int→Int→List V→List (List V)→Int→Option β
abbrev zjq (β:Type):Type:=Int→Int→List (List V)→List (List V)→Int→Int→List V→List (List V)→Int→Option β
def ztd {β:Type} (yc:xt) (yd:zx) (xd:xy) (zB:zat) (ya:zl) (xf:yC) (xb:zr) (xx:z6) (zo:yW) (za:xj) (zh:xC) (yq:zR) (L:Nat) (p0:List (List V)) (p1 p2:Int) (k_fin:Bool→Option β) (k_hbbbbbbaba:zfj β):Option β :=
 yc β L  (fun v0 =>
 ifb (!v0) (
 k_fin false) (
 yd β L p0 (fun v1 v2 =>
 xd β L v1 v2 (fun v3 v4 v5 =>
 chk ((List.length v3)=34∧0+34≤34) (
 lt (xg (List.replicate 32 (V.sc (.int .u8 (0:Int)))++[(V.gs 5 ([]:List (List V))),(V.gs 5 ([]:List (List V)))]) 0 v3) fun r6 =>
 zB β L v4 v5 (fun v7 v8 v9 =>
 ya β L (4:Int) v8 v9 (fun v10 v11 v12 =>
 k_hbbbbbbaba p1 p2 v7 ([]:List (List V)) v10 r6 v11 v12)))))))
def zmE {β:Type} (yc:xt) (yd:zx) (xd:xy) (zB:zat) (ya:zl) (xf:yC) (xb:zr) (xx:z6) (zo:yW) (za:xj) (zh:xC) (yq:zR) (L:Nat) (p1 p2:Int) (p9 p10:List (List V)) (p11:Int) (b8:List V) (zLu:List (List V)) (zLv:Int) (k_hbbbbbbaba:zfj β) (k_x0:zj3 β):Option β :=
 ifb (decide (p11 > (0:Int))) (
 xf β L zLu zLv (fun v13 v14 v15 =>
 chk ((List.length v13)=3∧0+3≤3) (
 chk ((List.length p10+List.length (yk 3 1 (xg [(V.sc (.int .u32 (0:Int))),(V.sc (.int .u16 (0:Int))),(V.sc (.int .u32 (0:Int)))] 0 v13))) * 12≤yr∧List.length p10+List.length (yk 3 1 (xg [(V.sc (.int .u32 (0:Int))),(V.sc (.int .u16 (0:Int))),(V.sc (.int .u32 (0:Int)))] 0 v13))≤yr) (
 lt (p10++(yk 3 1 (xg [(V.sc (.int .u32 (0:Int))),(V.sc (.int .u16 (0:Int))),(V.sc (.int .u32 (0:Int)))] 0 v13))) fun l16 =>
 lt (IntKind.wrap .i64 ((p11:Int) - (1:Int))) fun x17 =>
 k_hbbbbbbaba p1 p2 p9 l16 x17 b8 v14 v15)))) (
 k_x0 p1 p2 p9 p10 b8 zLu zLv)
def zlE {β:Type} (yc:xt) (yd:zx) (xd:xy) (zB:zat) (ya:zl) (xf:yC) (xb:zr) (xx:z6) (zo:yW) (za:xj) (zh:xC) (yq:zR) (L:Nat) (p1 p2:Int) (p9 p10:List (List V)) (b8:List V) (zLu:List (List V)) (zLv:Int) (k_hbbbbbbbaba:zcL β):Option β :=
 lt (zKs (2:Int) ((List.length p9:Nat):Int)) fun x18 =>
 chk (0≤x18∧x18≤(((List.length p9):Nat):Int)) (
 k_hbbbbbbbaba p1 p2 p10 (yk 1 3 [(V.sl 4 p9),(V.sl 4 ([]:List (List V))),(V.sl 4 (List.take ((Int.toNat x18) - 0) (List.drop 0 p9)))]) ((List.length (yk 1 3 [(V.sl 4 p9),(V.sl 4 ([]:List (List V))),(V.sl 4 (List.take ((Int.toNat x18) - 0) (List.drop 0 p9)))]):Nat):Int) (0:Int) b8 zLu zLv)
def zlW {β:Type} (yc:xt) (yd:zx) (xd:xy) (zB:zat) (ya:zl) (xf:yC) (xb:zr) (xx:z6) (zo:yW) (za:xj) (zh:xC) (yq:zR) (L:Nat) (p1 p2:Int) (p10 p45:List (List V)) (p46 p47:Int) (b8:List V) (zLu:List (List V)) (zLv:Int) (k_ret:Bool→List (List V)→Int→Option β) (k_hbbbbbbbabaabbaabbbbba:zcS β) (k_x2:List (List V)→Int→Option β):Option β :=
 ifb (decide (p47 < p46)) (
 idx p45 p47 fun c19 =>
 cL 4 c19 0 fun v20 =>
 chk (0+34≤(List.length b8)) (
 xb β L (List.map V.dem (List.take 34 b8)) p10 v20 p2 (fun v21 v22 =>
 chk ((List.length v21)=4∧0+4≤4) (
 lt (xg [(V.sc (.int .i64 (0:Int))),(V.sc (.int .u32 (0:Int))),(V.sc (.int .u16 (0:Int))),(V.sc (.int .u32 (0:Int)))] 0 v21) fun r23 =>
 chk (0+34≤(List.length b8)) (
 xx β L (List.map V.dem (List.take 34 b8)) p10 v20 p2 (fun v24 v25 =>
 chk ((List.length v24)=4∧0+4≤4) (
 lt (xg [(V.sc (.int .i64 (0:Int))),(V.sc (.int .u32 (0:Int))),(V.sc (.int .u16 (0:Int))),(V.sc (.int .u32 (0:Int)))] 0 v24) fun r26 =>
 ifb ((v22:Int) != v25) (
 k_ret false zLu zLv) (
 chk (0+4≤(List.length r23)) (
 chk (0+4≤(List.length r26)) (
 eqC 4 (List.take 4 r23) (List.take 4 r26) fun v27 =>
 ifb (!v27) (
 k_ret false zLu zLv) (
 zo β L p1 (5:Int) (fun v28 =>
 k_hbbbbbbbabaabbaabbbbba p1 p2 p10 v20 p45 p46 p47 (yk 1 2 [(V.sc (.int .i64 p1)),(V.sc (.int .i64 v28))]) ((List.length (yk 1 2 [(V.sc (.int .i64 p1)),(V.sc (.int .i64 v28))]):Nat):Int) (0:Int) b8 zLu zLv)))))))))))) (
 k_x2 zLu zLv)
def zko {β:Type} (yc:xt) (yd:zx) (xd:xy) (zB:zat) (ya:zl) (xf:yC) (xb:zr) (xx:z6) (zo:yW) (za:xj) (zh:xC) (yq:zR) (L:Nat) (p6:Bool) (zLu:List (List V)) (zLv:Int) (k_fin:Bool→Option β):Option β :=
 k_fin p6
def zkP {β:Type} (yc:xt) (yd:zx) (xd:xy) (zB:zat) (ya:zl) (xf:yC) (xb:zr) (xx:z6) (zo:yW) (za:xj) (zh:xC) (yq:zR) (L:Nat) (zLu:List (List V)) (zLv:Int) (k_fin:Bool→Option β):Option β :=
 k_fin true
def zgL {β:Type} (yc:xt) (yd:zx) (xd:xy) (zB:zat) (ya:zl) (xf:yC) (xb:zr) (xx:z6) (zo:yW) (za:xj) (zh:xC) (yq:zR) (L:Nat) (p1 p2:Int) (p10 p13 p45:List (List V)) (p46 p47:Int) (p78:List (List V)) (p79 p80:Int) (b8:List V) (zLu:List (List V)) (zLv:Int) (k_ret:Bool→List (List V)→Int→Option β) (k_hbbbbbbbabaabbaabbbbba:zcS β) (k_x4:zjq β):Option β :=
 ifb (decide (p80 < p79)) (
 idx p78 p80 fun c29 =>
 cI .i64 c29 0 fun v30 =>
 chk (0+34≤(List.length b8)) (
 za β L (List.map V.dem (List.take 34 b8)) p13 v30 (fun v31 =>
 chk (0+34≤(List.length b8)) (
 zh β L (List.map V.dem (List.take 34 b8)) p13 v30 (fun v32 =>
 yq β L v31 v32 (fun v33 =>
 ifb (!v33) (
 k_ret false zLu zLv) (
 lt (IntKind.wrap .i64 ((p80:Int)+(1:Int))) fun x34 =>
 k_hbbbbbbbabaabbaabbbbba p1 p2 p10 p13 p45 p46 p47 p78 p79 x34 b8 zLu zLv))))))) (
 k_x4 p1 p2 p10 p45 p46 p47 b8 zLu zLv)
def zfT {β:Type} (yc:xt) (yd:zx) (xd:xy) (zB:zat) (ya:zl) (xf:yC) (xb:zr) (xx:z6) (zo:yW) (za:xj) (zh:xC) (yq:zR) (L:Nat) (p6:Bool) (zLu:List (List V)) (zLv:Int) (k_ret:Bool→List (List V)→Int→Option β):Option β :=
 k_ret p6 zLu zLv
def zgv {β:Type} (yc:xt) (yd:zx) (xd:xy) (zB:zat) (ya:zl) (xf:yC) (xb:zr) (xx:z6) (zo:yW) (za:xj) (zh:xC) (yq:zR) (L:Nat) (p1 p2:Int) (p10 p45:List (List V)) (p46 p47:Int) (b8:List V) (zLu:List (List V)) (zLv:Int) (k_hbbbbbbbaba:zcL β):Option β :=
 lt (IntKind.wrap .i64 ((p47:Int)+(1:Int))) fun x35 =>
 k_hbbbbbbbaba p1 p2 p10 p45 p46 x35 b8 zLu zLv
def zfL {β:Type} (yc:xt) (yd:zx) (xd:xy) (zB:zat) (ya:zl) (xf:yC) (xb:zr) (xx:z6) (zo:yW) (za:xj) (zh:xC) (yq:zR) (L:Nat) (k_x0:zj3 β):Nat→Int→Int→List (List V)→List (List V)→Int→List V→List (List V)→Int→Option β
 | 0,_,_,_,_,_,_,_,_=>none
 | n+1,p1,p2,p9,p10,p11,b8,zLu,zLv=>zmE yc yd xd zB ya xf xb xx zo za zh yq L p1 p2 p9 p10 p11 b8 zLu zLv (fun p1 p2 p9 p10 p11 b8 zLu zLv=>zfL yc yd xd zB ya xf xb xx zo za zh yq L k_x0 n p1 p2 p9 p10 p11 b8 zLu zLv) k_x0
def zcX {β:Type} (yc:xt) (yd:zx) (xd:xy) (zB:zat) (ya:zl) (xf:yC) (xb:zr) (xx:z6) (zo:yW) (za:xj) (zh:xC) (yq:zR) (L:Nat) (k_ret:Bool→List (List V)→Int→Option β) (k_x4:zjq β):Nat→Int→Int→List (List V)→List (List V)→List (List V)→Int→Int→List (List V)→Int→Int→List V→List (List V)→Int→Option β
 | 0,_,_,_,_,_,_,_,_,_,_,_,_,_=>none
 | n+1,p1,p2,p10,p13,p45,p46,p47,p78,p79,p80,b8,zLu,zLv=>zgL yc yd xd zB ya xf xb xx zo za zh yq L p1 p2 p10 p13 p45 p46 p47 p78 p79 p80 b8 zLu zLv k_ret (fun p1 p2 p10 p13 p45 p46 p47 p78 p79 p80 b8 zLu zLv=>zcX yc yd xd zB ya xf xb xx zo za zh yq L k_ret k_x4 n p1 p2 p10 p13 p45 p46 p47 p78 p79 p80 b8 zLu zLv) k_x4
def zlw {β:Type} (yc:xt) (yd:zx) (xd:xy) (zB:zat) (ya:zl) (xf:yC) (xb:zr) (xx:z6) (zo:yW) (za:xj) (zh:xC) (yq:zR) (L:Nat) (p1 p2:Int) (p10 p45:List (List V)) (p46 p47:Int) (b8:List V) (zLu:List (List V)) (zLv:Int) (k_ret:Bool→List (List V)→Int→Option β) (k_x2:List (List V)→Int→Option β) (k_hbbbbbbbaba:zcL β):Option β :=
 zlW yc yd xd zB ya xf xb xx zo za zh yq L p1 p2 p10 p45 p46 p47 b8 zLu zLv k_ret (fun p1 p2 p10 p13 p45 p46 p47 p78 p79 p80 b8 zLu zLv=>zcX yc yd xd zB ya xf xb xx zo za zh yq L (fun p6 zLu zLv=>zfT yc yd xd zB ya xf xb xx zo za zh yq L p6 zLu zLv k_ret) (fun p1 p2 p10 p45 p46 p47 b8 zLu zLv=>zgv yc yd xd zB ya xf xb xx zo za zh yq L p1 p2 p10 p45 p46 p47 b8 zLu zLv k_hbbbbbbbaba) L p1 p2 p10 p13 p45 p46 p47 p78 p79 p80 b8 zLu zLv) k_x2
def zfp {β:Type} (yc:xt) (yd:zx) (xd:xy) (zB:zat) (ya:zl) (xf:yC) (xb:zr) (xx:z6) (zo:yW) (za:xj) (zh:xC) (yq:zR) (L:Nat) (k_ret:Bool→List (List V)→Int→Option β) (k_x2:List (List V)→Int→Option β):Nat→Int→Int→List (List V)→List (List V)→Int→Int→List V→List (List V)→Int→Option β
 | 0,_,_,_,_,_,_,_,_,_=>none
 | n+1,p1,p2,p10,p45,p46,p47,b8,zLu,zLv=>zlw yc yd xd zB ya xf xb xx zo za zh yq L p1 p2 p10 p45 p46 p47 b8 zLu zLv k_ret k_x2 (fun p1 p2 p10 p45 p46 p47 b8 zLu zLv=>zfp yc yd xd zB ya xf xb xx zo za zh yq L k_ret k_x2 n p1 p2 p10 p45 p46 p47 b8 zLu zLv)
def zkU {β:Type} (yc:xt) (yd:zx) (xd:xy) (zB:zat) (ya:zl) (xf:yC) (xb:zr) (xx:z6) (zo:yW) (za:xj) (zh:xC) (yq:zR) (L:Nat) (p1 p2:Int) (p9 p10:List (List V)) (b8:List V) (zLu:List (List V)) (zLv:Int) (k_fin:Bool→Option β):Option β :=
 zlE yc yd xd zB ya xf xb xx zo za zh yq L p1 p2 p9 p10 b8 zLu zLv (fun p1 p2 p10 p45 p46 p47 b8 zLu zLv=>zfp yc yd xd zB ya xf xb xx zo za zh yq L (fun p6 zLu zLv=>zko yc yd xd zB ya xf xb xx zo za zh yq L p6 zLu zLv k_fin) (fun zLu zLv=>zkP yc yd xd zB ya xf xb xx zo za zh yq L zLu zLv k_fin) L p1 p2 p10 p45 p46 p47 b8 zLu zLv)
def zsM {β:Type} (yc:xt) (yd:zx) (xd:xy) (zB:zat) (ya:zl) (xf:yC) (xb:zr) (xx:z6) (zo:yW) (za:xj) (zh:xC) (yq:zR) (L:Nat) (p0:List (List V)) (p1 p2:Int) (k_fin:Bool→Option β):Option β :=
 ztd yc yd xd zB ya xf xb xx zo za zh yq L p0 p1 p2 k_fin (fun p1 p2 p9 p10 p11 b8 zLu zLv=>zfL yc yd xd zB ya xf xb xx zo za zh yq L (fun p1 p2 p9 p10 b8 zLu zLv=>zkU yc yd xd zB ya xf xb xx zo za zh yq L p1 p2 p9 p10 b8 zLu zLv k_fin) L p1 p2 p9 p10 p11 b8 zLu zLv)
abbrev zsV:=∀ (β:Type),Nat→List (List V)→Int→Int→(Bool→Option β)→Option β
def zle (β:Type) (L:Nat) (p0:List (List V)) (p1 p2:Int) (k_fin:Bool→Option β):Option β:=zsM yc yd xd zB ya xf xb xx zo za zh yq L p0 p1 p2 k_fin
def zEG (zle:zsV) (L:Nat) (β:Type) (args:List V) (bor:Bor) (k:KK β):Option β:=match args,bor with
 | [a0,a1,a2],[]=>aL 1 a0 fun p0=>aI .i64 a1 fun p1=>aI .u64 a2 fun p2=>zle β L p0 p1 p2 (fun p0=>k (V.sc (.bool p0)) [])
 | _,_=>none
def zvX:CC:=(.seq (.seq (.reg [oo 17 (.move (tq 10) false),
   oo 18 (.bin .lss (tq 17) (.const (.sc (.int .i64 20))))])
 (.cond (tq 18)
 .skip
 (.seq (.mask (bl 256 51) (bl 2190225216340791 51))
 (.exit 0))))
 (.seq (.block 1 (.seq (.dreg [] [(oo 22 (.load true 34 (tq 3) false),ql 3 [] [11]),
   (oo 23 (.move (tq 1) false),q0),
   (oo 24 (.move (tq 8) false),q0),
   (oo 25 (.move (tq 9) false),q0),
   (oo 26 (.call 231 [((tq 25),0),((.const (.sc (.int .i64 1048576))),0)] []),qc [3] [11]),
   (oo 27 (.conv .u64 (tq 26)),q0),
   (oo 28 (.call 263 [((tq 22),1),((tq 23),0),((tq 24),0),((tq 27),0)] []),qc [] [11]),
   (oo 21 (.move (tq 28) true),qc [] [11]),
   (oo 29 (.pull (tq 21) 0),q0),
   (oo 30 (.pull (tq 21) 1),q0),
   (oo 11 (.alloc true [(.sc (.int .i64 0)),(.sc (.int .u32 0)),(.sc (.int .u16 0)),(.sc (.int .u32 0))]),qn [3] []),
   (oz (.store 4 (tq 11) (tq 29)),q0),
   (oo 12 (.move (tq 30) false),q0)])
 (.seq (.seq (.reg [oo 31 (.move (tq 12) false),
   oo 32 (.bin .neq (tq 31) (.const (.sc (.int .i64 0))))])
 (.cond (tq 32)
 (.seq (.reg [oo 33 (.move (tq 8) true),
   oo 34 (.move (tq 12) false),
   oo 35 (.bin .eql (tq 34) (.const (.sc (.int .i64 390)))),
   oo 36 (.move (tq 35) false),
   ⟨(some 37),false,(some (36,false)),.move (tq 12) false⟩,
   ⟨(some 38),false,(some (36,false)),.bin .eql (tq 37) (.const (.sc (.int .i64 380)))⟩,
   oo 39 (.pick (tq 36) (.const (.sc (.bool true))) (tq 38)),
   oo 6 (.move (tq 33) true),
   oo 7 (.move (tq 39) false)])
 (.seq (.mask (bl 192 51) (bl 2190225216340727 51))
 .ret))
 .skip))
 (.seq (.reg [oo 41 (.move (tq 8) false),
   oo 42 (.load true 4 (tq 11) false),
   oo 43 (.call 271 [((tq 41),0),((tq 42),0)] []),
   oo 40 (.move (tq 43) true),
   oo 44 (.extract (tq 40) 0),
   oo 45 (.pull (tq 40) 1),
   oo 13 (.move (tq 44) true),
   oo 14 (.move (tq 45) false)])
 (.seq (.seq (.reg [oo 46 (.move (tq 14) false),
   oo 47 (.bin .neq (tq 46) (.const (.sc (.int .i64 0))))])
 (.cond (tq 47)
 (.seq (.reg [oo 48 (.move (tq 8) true),
   oo 6 (.move (tq 48) true),
   oo 7 (.move (.const (.sc (.bool false))) false)])
 (.seq (.mask (bl 192 51) (bl 2190225216340727 51))
 .ret))
 .skip))
 (.reg [oo 49 (.move (tq 13) true),
   oo 8 (.move (tq 49) true)]))))))
 (.reg [oo 19 (.move (tq 10) false),
   oo 20 (.bin .add (tq 19) (.const (.sc (.int .i64 1)))),
   oo 10 (.move (tq 20) false)])))
def zzp:CC:=(.seq (.reg [oo 50 (.move (tq 8) true),
   oo 6 (.move (tq 50) true),
   oo 7 (.move (.const (.sc (.bool false))) false)])
 .ret)
def zvt:CF:=⟨51,[.tmp 6,.tmp 7],
 (.seq (.reg [oo 3 (.box true (tq 0)),
   oo 6 (.move (.const (.gs 4 [])) true),
   oo 7 (.move (.const (.sc (.bool false))) false)])
 (.seq (.reg [oo 8 (.move (.const (.gs 4 [])) true)])
 (.seq (.reg [oo 15 (.move (tq 2) false),
   oo 16 (.call 225 [((tq 15),0)] []),
   oo 9 (.move (tq 16) false)])
 (.seq (.seq (.reg [oo 10 (.move (.const (.sc (.int .i64 0))) false)])
 (.block 0 (.loop (bl 1802 51) (bl 2190225216341823 51)
 zvX)))
 zzp))))⟩
def zsj:Hint:=⟨[(0,0),(0,1),(1,0),(6,7),(8,0),(8,7),(9,3),(9,4),(9,6),(11,0),(11,1),(12,0),(12,1),(13,0),(13,1)],[],[none,some ((bl 1802 51),(bl 2190225216341823 51)),none,some ((bl 256 51),(bl 2190225216340791 51)),none,none,some ((bl 192 51),(bl 2190225216340727 51)),none,some ((bl 192 51),(bl 2190225216340727 51)),none],[],[],false,false⟩
def zJB:Nat→Sh:=xO []
def zJz (yd:zx) (ya:zl) (xb:zr) (yB:zbt) (L:Nat):CBC:=(xu 271 (zhk yB L) (xu 263 (zc1 xb L) (xu 231 (zbg ya L) (xu 225 (zgs yd L) noC))))
def zHq:St→St:=zac 0 (bl 1802 51) (bl 2190225216341823 51)
def zE8 (p1 p8:List (List V)) (p10:Int) (b3:List V) (zLP:List (List V)) (zLQ:Int):St:=⟨(jn 1 ((V.sl 3 p1)::(jn 1 ((V.ptr 3 0)::(jn 4 ((V.gs 4 p8)::((V.ptr 16 0)::((V.sc (.int .i64 p10))::(jn 40 []))))))))),(gn 3 ((.live true b3)::(gn 12 ((.live false [(V.sl 1 zLP),(V.sc (.int .i64 zLQ))])::(gn 34 [])))))⟩
def zHw (p6:List (List V)) (p7:Bool) (zLP:List (List V)) (zLQ:Int):St:=⟨(jn 6 ((V.gs 4 p6)::((V.sc (.bool p7))::(jn 43 [])))),(gn 16 ((.live false [(V.sl 1 zLP),(V.sc (.int .i64 zLQ))])::(gn 34 [])))⟩
def zIl (p8 zLP:List (List V)) (zLQ:Int):St:=⟨(jn 8 ((V.gs 4 p8)::(jn 42 []))),(gn 16 ((.live false [(V.sl 1 zLP),(V.sc (.int .i64 zLQ))])::(gn 34 [])))⟩
abbrev zn1 (β:Type):Type:=List (List V)→List (List V)→Int→List V→List (List V)→Int→Option β
def zDH {β:Type} (yd:zx) (ya:zl) (xb:zr) (yB:zbt) (L:Nat) (p0:List V) (p1 p2:List (List V)) (k_hbbbaba:zn1 β):Option β :=
 yd β L p2 (fun v0 v1 =>
 k_hbbbaba p1 ([]:List (List V)) (0:Int) p0 v0 v1)
def zwW {β:Type} (yd:zx) (ya:zl) (xb:zr) (yB:zbt) (L:Nat) (p1 p8:List (List V)) (p10:Int) (b3:List V) (zLP:List (List V)) (zLQ:Int) (k_ret:List (List V)→Bool→List (List V)→Int→Option β) (k_hbbbaba:zn1 β) (k_x0:List (List V)→List (List V)→Int→Option β):Option β :=
 ifb (decide (p10 < (20:Int))) (
 chk (0+34≤(List.length b3)) (
 ya β L (1048576:Int) zLP zLQ (fun v2 v3 v4 =>
 lt (IntKind.wrap .u64 v2) fun x5 =>
 xb β L (List.map V.dem (List.take 34 b3)) p1 p8 x5 (fun v6 v7 =>
 chk ((List.length v6)=4∧0+4≤4) (
 lt (xg [(V.sc (.int .i64 (0:Int))),(V.sc (.int .u32 (0:Int))),(V.sc (.int .u16 (0:Int))),(V.sc (.int .u32 (0:Int)))] 0 v6) fun r8 =>
 ifb ((v7:Int) != (0:Int)) (
 ifb ((v7:Int) == (390:Int)) (
 k_ret p8 true v3 v4) (
 k_ret p8 ((v7:Int) == (380:Int)) v3 v4)) (
 chk (0+4≤(List.length r8)) (
 yB β L p8 (List.take 4 r8) (fun v9 v10 =>
 ifb ((v10:Int) != (0:Int)) (
 k_ret p8 false v3 v4) (
 lt (IntKind.wrap .i64 ((p10:Int)+(1:Int))) fun x11 =>
 k_hbbbaba p1 v9 x11 b3 v3 v4))))))))) (
 k_x0 p8 zLP zLQ)
def ztx {β:Type} (yd:zx) (ya:zl) (xb:zr) (yB:zbt) (L:Nat) (p6:List (List V)) (p7:Bool) (zLP:List (List V)) (zLQ:Int) (k_fin:List (List V)→Bool→Option β):Option β :=
 k_fin p6 p7
def zuX {β:Type} (yd:zx) (ya:zl) (xb:zr) (yB:zbt) (L:Nat) (p8 zLP:List (List V)) (zLQ:Int) (k_fin:List (List V)→Bool→Option β):Option β :=
 k_fin p8 false
def zpw {β:Type} (yd:zx) (ya:zl) (xb:zr) (yB:zbt) (L:Nat) (k_ret:List (List V)→Bool→List (List V)→Int→Option β) (k_x0:List (List V)→List (List V)→Int→Option β):Nat→List (List V)→List (List V)→Int→List V→List (List V)→Int→Option β
 | 0,_,_,_,_,_,_=>none
 | n+1,p1,p8,p10,b3,zLP,zLQ=>zwW yd ya xb yB L p1 p8 p10 b3 zLP zLQ k_ret (fun p1 p8 p10 b3 zLP zLQ=>zpw yd ya xb yB L k_ret k_x0 n p1 p8 p10 b3 zLP zLQ) k_x0
def zDR {β:Type} (yd:zx) (ya:zl) (xb:zr) (yB:zbt) (L:Nat) (p0:List V) (p1 p2:List (List V)) (k_fin:List (List V)→Bool→Option β):Option β :=
 zDH yd ya xb yB L p0 p1 p2 (fun p1 p8 p10 b3 zLP zLQ=>zpw yd ya xb yB L (fun p6 p7 zLP zLQ=>ztx yd ya xb yB L p6 p7 zLP zLQ k_fin) (fun p8 zLP zLQ=>zuX yd ya xb yB L p8 zLP zLQ k_fin) L p1 p8 p10 b3 zLP zLQ)
abbrev zab:=∀ (β:Type),Nat→List V→List (List V)→List (List V)→(List (List V)→Bool→Option β)→Option β
def zz (β:Type) (L:Nat) (p0:List V) (p1 p2:List (List V)) (k_fin:List (List V)→Bool→Option β):Option β:=zDR yd ya xb yB L p0 p1 p2 k_fin
def zwM (zz:zab) (L:Nat) (β:Type) (args:List V) (bor:Bor) (k:KK β):Option β:=match args,bor with
 | [a0,a1,a2],[]=>aG a0 fun p0=>aL 3 a1 fun p1=>aL 1 a2 fun p2=>zz β L p0 p1 p2 (fun zLN zLO=>k (V.tup [(V.gs 4 zLN),(V.sc (.bool zLO))]) [])
 | _,_=>none
def zgM:CC:=(.seq (.reg [oo 57 (.bin .lss (tq 56) (tq 55))])
 (.seq (.cond (tq 57)
 .skip
 (.seq (.mask (bl 246290604627328 97) (bl 158456324987023501021241393071 97))
 (.exit 2)))
 (.seq (.block 3 (.seq (.reg [oo 58 (.indexAddrS 4 (tq 54) (tq 56)),
   oo 59 (.load true 4 (tq 58) false),
   oo 14 (.alloc true [(.sc (.int .i64 0)),(.sc (.int .u32 0)),(.sc (.int .u16 0)),(.sc (.int .u32 0))]),
   oz (.store 4 (tq 14) (tq 59))])
 (.seq (.dreg [] [(oo 60 (.fieldAddr 1 (tq 12)),q0),
   (oo 61 (.load true 3 (tq 60) false),ql 12 [14] []),
   (oo 62 (.call 269 [((tq 61),0)] []),qc [14] []),
   (oo 63 (.fieldAddr 1 (tq 14)),q0),
   (oo 64 (.load true 3 (tq 63) false),ql 14 [12] []),
   (oo 65 (.call 269 [((tq 64),0)] []),q0),
   (oo 66 (.bin .eql (tq 62) (tq 65)),q0)])
 (.cond (tq 66)
 (.seq (.reg [oo 4 (.move (.const (.sc (.bool false))) false)])
 (.seq (.mask (bl 16 97) (bl 158456324986987472224222421951 97))
 .ret))
 .skip))))
 (.reg [oo 67 (.bin .add (tq 56) (.const (.sc (.int .i64 1)))),
   oo 56 (.move (tq 67) false)]))))
def zhJ:CC:=(.seq (.reg [oo 68 (.fieldAddr 0 (tq 12)),
   oo 69 (.load false 1 (tq 68) false),
   oo 70 (.bin .eql (tq 69) (.const (.sc (.int .i64 3))))])
 (.cond (tq 70)
 (.reg [oo 71 (.move (tq 10) false),
   oo 72 (.bin .add (tq 71) (.const (.sc (.int .i64 1)))),
   oo 10 (.move (tq 72) false)])
 .skip))
def zjj:CC:=(.reg [oo 73 (.bin .add (tq 47) (.const (.sc (.int .i64 1)))),
   oo 47 (.move (tq 73) false)])
def zkH:CC:=(.seq (.reg [oo 48 (.bin .lss (tq 47) (tq 46))])
 (.seq (.cond (tq 48)
 .skip
 (.seq (.mask (bl 1408 97) (bl 158456324986987472224222422959 97))
 (.exit 0)))
 (.seq (.block 1 (.seq (.reg [oo 49 (.move (tq 47) false),
   oo 50 (.indexAddrS 4 (tq 45) (tq 47)),
   oo 51 (.load true 4 (tq 50) false),
   oo 12 (.alloc true [(.sc (.int .i64 0)),(.sc (.int .u32 0)),(.sc (.int .u16 0)),(.sc (.int .u32 0))]),
   oo 11 (.move (tq 49) false),
   oz (.store 4 (tq 12) (tq 51))])
 (.seq (.seq (.reg [oo 52 (.move (tq 8) false),
   oo 53 (.move (tq 11) false),
   oo 54 (.sliceS 4 (tq 52) none (some (tq 53)) none),
   oo 55 (.lenS (tq 54)),
   oo 56 (.move (.const (.sc (.int .i64 0))) false)])
 (.block 2 (.loop (bl 126347080171001216 97) (bl 158456324987023501021241393071 97)
 zgM)))
 zhJ)))
 zjj)))
def zmF:CC:=(.seq (.dreg [] [(oo 74 (.move (tq 10) false),q0),
   (oo 75 (.bin .leq (tq 74) (.const (.sc (.int .i64 1)))),q0),
   (oo 76 (.move (tq 75) false),q0),
   (⟨(some 77),false,(some (76,true)),.move (tq 8) false⟩,q0),
   (⟨(some 78),false,(some (76,true)),.indexAddrS 4 (tq 77) (.const (.sc (.int .i64 0)))⟩,q0),
   (⟨(some 79),false,(some (76,true)),.fieldAddr 0 (tq 78)⟩,q0),
   (⟨(some 80),false,(some (76,true)),.load false 1 (tq 79) false⟩,q0),
   (⟨(some 81),false,(some (76,true)),.bin .eql (tq 80) (.const (.sc (.int .i64 1)))⟩,q0),
   (oo 82 (.pick (tq 76) (tq 81) (.const (.sc (.bool false)))),q0),
   (oo 83 (.move (tq 82) false),q0),
   (⟨(some 84),false,(some (83,true)),.move (tq 8) false⟩,q0),
   (⟨(some 85),false,(some (83,true)),.indexAddrS 4 (tq 84) (.const (.sc (.int .i64 0)))⟩,q0),
   (⟨(some 86),false,(some (83,true)),.fieldAddr 1 (tq 85)⟩,q0),
   (⟨(some 87),false,(some (83,true)),.load true 3 (tq 86) false⟩,q1),
   (⟨(some 88),false,(some (83,true)),.move (tq 7) false⟩,q0),
   (⟨(some 89),false,(some (83,true)),.indexAddrS 3 (tq 88) (.const (.sc (.int .i64 0)))⟩,q0),
   (⟨(some 90),false,(some (83,true)),.load true 3 (tq 89) false⟩,q1),
   (⟨(some 91),false,(some (83,true)),.eqAgg false 3 (tq 87) (tq 90)⟩,q0),
   (oo 92 (.pick (tq 83) (tq 91) (.const (.sc (.bool false)))),q0),
   (oo 93 (.move (tq 92) false),q0),
   (⟨(some 94),false,(some (93,true)),.move (tq 8) false⟩,q0),
   (⟨(some 95),false,(some (93,true)),.call 270 [((tq 94),0)] []⟩,q0),
   (oo 96 (.pick (tq 93) (tq 95) (.const (.sc (.bool false)))),q0),
   (oo 4 (.move (tq 96) false),q0)])
 .ret)
def zkz:CF:=⟨97,[.tmp 4],
 (.seq (.reg [oo 4 (.move (.const (.sc (.bool false))) false)])
 (.seq (.seq (.reg [oo 15 (.call 259 [] []),
   oo 16 (.un .not (tq 15))])
 (.cond (tq 16)
 (.seq (.reg [oo 4 (.move (.const (.sc (.bool false))) false)])
 .ret)
 .skip))
 (.seq (.reg [oo 17 (.move (tq 0) false),
   oo 18 (.call 225 [((tq 17),0)] []),
   oo 5 (.move (tq 18) false)])
 (.seq (.reg [oo 19 (.move (tq 5) false),
   oo 20 (.call 260 [((tq 19),0)] []),
   oo 6 (.alloc true (rp 32 (.sc (.int .u8 0)) (rp 2 (.gs 5 []) []))),
   oz (.store 34 (tq 6) (tq 20))])
 (.seq (.reg [oo 21 (.move (tq 5) false),
   oo 22 (.call 262 [((tq 21),0)] []),
   oo 23 (.move (tq 5) false),
   oo 24 (.call 262 [((tq 23),0)] []),
   oo 25 (.buildSlice 3 2 [(.sc (.int .u32 0)),(.sc (.int .u16 0)),(.sc (.int .u32 0))] [(0,3,(tq 22)),(3,3,(tq 24))]),
   oo 7 (.move (tq 25) false)])
 (.seq (.reg [oo 27 (.load true 34 (tq 6) false),
   oo 28 (.move (tq 7) false),
   oo 29 (.move (tq 1) false),
   oo 30 (.call 268 [((tq 27),1),((tq 28),0),((tq 29),0)] []),
   oo 26 (.move (tq 30) true),
   oo 31 (.extract (tq 26) 0),
   oo 32 (.pull (tq 26) 1),
   oo 8 (.move (tq 31) true),
   oo 9 (.move (tq 32) false)])
 (.seq (.seq (.reg [oo 33 (.move (tq 9) false),
   oo 34 (.un .not (tq 33)),
   oo 35 (.move (tq 34) false),
   ⟨(some 36),false,(some (35,false)),.move (tq 8) false⟩,
   ⟨(some 37),false,(some (35,false)),.lenS (tq 36)⟩,
   ⟨(some 38),false,(some (35,false)),.bin .gtr (tq 37) (.const (.sc (.int .i64 8)))⟩,
   oo 39 (.pick (tq 35) (.const (.sc (.bool true))) (tq 38)),
   oo 40 (.move (tq 39) false),
   ⟨(some 41),false,(some (40,false)),.move (tq 8) false⟩,
   ⟨(some 42),false,(some (40,false)),.lenS (tq 41)⟩,
   ⟨(some 43),false,(some (40,false)),.bin .eql (tq 42) (.const (.sc (.int .i64 0)))⟩,
   oo 44 (.pick (tq 40) (.const (.sc (.bool true))) (tq 43))])
 (.cond (tq 44)
 (.seq (.reg [oo 4 (.move (.const (.sc (.bool false))) false)])
 .ret)
 .skip))
 (.seq (.reg [oo 10 (.move (.const (.sc (.int .i64 0))) false)])
 (.seq (.seq (.reg [oo 45 (.move (tq 8) false),
   oo 46 (.lenS (tq 45)),
   oo 47 (.move (.const (.sc (.int .i64 0))) false)])
 (.block 0 (.loop (bl 246290604623232 97) (bl 158456324986987472224222422959 97)
 zkH)))
 zmF)))))))))⟩
def ziZ:Hint:=⟨[(4,2),(6,4),(6,5),(6,7)],[],[none,none,none,none,none,some ((bl 246290604623232 97),(bl 158456324986987472224222422959 97)),none,some ((bl 1408 97),(bl 158456324986987472224222422959 97)),none,none,some ((bl 126347080171001216 97),(bl 158456324987023501021241393071 97)),none,some ((bl 246290604627328 97),(bl 158456324987023501021241393071 97)),none,none,some ((bl 16 97),(bl 158456324986987472224222421951 97)),none,none],[],[],false,false⟩
def zEs:Nat→Sh:=xO [(80,(.int .i64)),(69,(.int .i64))]
def zEu (yc:xt) (yd:zx) (xd:xy) (xf:yC) (zz:zab) (ye:zD) (yb:zq) (L:Nat):CBC:=(xu 269 (zbQ yb L) (xu 270 (zep ye L) (xu 268 (zwM zz L) (xu 262 (zir xf L) (xu 260 (zgx xd L) (xu 225 (zgs yd L) (xu 259 (zfc yc L) noC)))))))
def zyp:St→St:=zac 0 (bl 246290604623232 97) (bl 158456324986987472224222422959 97)
def ztw:St→St:=zac 0 (bl 126347080171001216 97) (bl 158456324987023501021241393071 97)
def zw9 (p7 p8:List (List V)) (p10:Int) (p45:List (List V)) (p46 p47:Int) (zKH:List (List V)) (zKI:Int):St:=⟨(jn 7 ((V.sl 3 p7)::((V.gs 4 p8)::(jn 1 ((V.sc (.int .i64 p10))::(jn 34 ((V.sl 4 p45)::((V.sc (.int .i64 p46))::((V.sc (.int .i64 p47))::(jn 49 [])))))))))),(gn 18 ((.live false [(V.sl 1 zKH),(V.sc (.int .i64 zKI))])::(gn 78 [])))⟩
def zsr (p7 p8:List (List V)) (p10:Int) (p45:List (List V)) (p46 p47:Int) (p54:List (List V)) (p55 p56:Int) (b12:List V) (zKH:List (List V)) (zKI:Int):St:=⟨(jn 7 ((V.sl 3 p7)::((V.gs 4 p8)::(jn 1 ((V.sc (.int .i64 p10))::(jn 1 ((V.ptr 12 0)::(jn 32 ((V.sl 4 p45)::((V.sc (.int .i64 p46))::((V.sc (.int .i64 p47))::(jn 6 ((V.sl 4 p54)::((V.sc (.int .i64 p55))::((V.sc (.int .i64 p56))::(jn 40 [])))))))))))))))),(gn 12 ((.live true b12)::(gn 5 ((.live false [(V.sl 1 zKH),(V.sc (.int .i64 zKI))])::(gn 78 [])))))⟩
def zCZ (p7 p8:List (List V)) (p10:Int) (zKH:List (List V)) (zKI:Int):St:=⟨(jn 7 ((V.sl 3 p7)::((V.gs 4 p8)::(jn 1 ((V.sc (.int .i64 p10))::(jn 86 [])))))),(gn 18 ((.live false [(V.sl 1 zKH),(V.sc (.int .i64 zKI))])::(gn 78 [])))⟩
def zB4 (p4:Bool) (zKH:List (List V)) (zKI:Int):St:=⟨(jn 4 ((V.sc (.bool p4))::(jn 92 []))),(gn 18 ((.live false [(V.sl 1 zKH),(V.sc (.int .i64 zKI))])::(gn 78 [])))⟩
def zCG (p7 p8:List (List V)) (p10:Int) (p45:List (List V)) (p46 p47:Int) (b12:List V) (zKH:List (List V)) (zKI:Int):St:=⟨(jn 7 ((V.sl 3 p7)::((V.gs 4 p8)::(jn 1 ((V.sc (.int .i64 p10))::(jn 1 ((V.ptr 12 0)::(jn 32 ((V.sl 4 p45)::((V.sc (.int .i64 p46))::((V.sc (.int .i64 p47))::(jn 49 [])))))))))))),(gn 12 ((.live true b12)::(gn 5 ((.live false [(V.sl 1 zKH),(V.sc (.int .i64 zKI))])::(gn 78 [])))))⟩
abbrev zcA (β:Type):Type:=List (List V)→List (List V)→Int→List (List V)→Int→Int→List (List V)→Int→Option β
abbrev zcW (β:Type):Type:=List (List V)→List (List V)→Int→List (List V)→Int→Int→List (List V)→Int→Int→List V→List (List V)→Int→Option β
abbrev zft (β:Type):Type:=List (List V)→List (List V)→Int→List (List V)→Int→Option β
abbrev zjL (β:Type):Type:=List (List V)→List (List V)→Int→List (List V)→Int→Int→List V→List (List V)→Int→Option β
def zs8 {β:Type} (yc:xt) (yd:zx) (xd:xy) (xf:yC) (zz:zab) (ye:zD) (yb:zq) (L:Nat) (p0 p1:List (List V)) (k_fin:Bool→Option β) (k_hbbbbbbbbaba:zcA β):Option β :=
 yc β L  (fun v0 =>
 ifb (!v0) (
 k_fin false) (
 yd β L p0 (fun v1 v2 =>
 xd β L v1 v2 (fun v3 v4 v5 =>
 chk ((List.length v3)=34∧0+34≤34) (
 lt (xg (List.replicate 32 (V.sc (.int .u8 (0:Int)))++[(V.gs 5 ([]:List (List V))),(V.gs 5 ([]:List (List V)))]) 0 v3) fun r6 =>
 xf β L v4 v5 (fun v7 v8 v9 =>
 xf β L v8 v9 (fun v10 v11 v12 =>
 chk ((List.length v7)=3∧0+3≤6) (
 chk ((List.length v10)=3∧3+3≤(List.length (xg [(V.sc (.int .u32 (0:Int))),(V.sc (.int .u16 (0:Int))),(V.sc (.int .u32 (0:Int))),(V.sc (.int .u32 (0:Int))),(V.sc (.int .u16 (0:Int))),(V.sc (.int .u32 (0:Int)))] 0 v7))) (
 chk (0+34≤(List.length r6)) (
 zz β L (List.map V.dem (List.take 34 r6)) (yk 3 2 (xg (xg [(V.sc (.int .u32 (0:Int))),(V.sc (.int .u16 (0:Int))),(V.sc (.int .u32 (0:Int))),(V.sc (.int .u32 (0:Int))),(V.sc (.int .u16 (0:Int))),(V.sc (.int .u32 (0:Int)))] 0 v7) 3 v10)) p1 (fun v13 v14 =>
 ifb (!v14) (
 k_fin false) (
 ifb (decide (((List.length v13:Nat):Int) > (8:Int))) (
 k_fin false) (
 ifb ((((List.length v13:Nat):Int):Int) == (0:Int)) (
 k_fin false) (
 k_hbbbbbbbbaba (yk 3 2 (xg (xg [(V.sc (.int .u32 (0:Int))),(V.sc (.int .u16 (0:Int))),(V.sc (.int .u32 (0:Int))),(V.sc (.int .u32 (0:Int))),(V.sc (.int .u16 (0:Int))),(V.sc (.int .u32 (0:Int)))] 0 v7) 3 v10)) v13 (0:Int) v13 ((List.length v13:Nat):Int) (0:Int) v11 v12))))))))))))))
def zlu {β:Type} (yc:xt) (yd:zx) (xd:xy) (xf:yC) (zz:zab) (ye:zD) (yb:zq) (L:Nat) (p7 p8:List (List V)) (p10:Int) (p45:List (List V)) (p46 p47:Int) (zKH:List (List V)) (zKI:Int) (k_hbbbbbbbbabaabbaababa:zcW β) (k_x0:zft β):Option β :=
 ifb (decide (p47 < p46)) (
 idx p45 p47 fun c15 =>
 chk ((List.length (List.take 4 c15))=4∧0+4≤4) (
 lt (xg [(V.sc (.int .i64 (0:Int))),(V.sc (.int .u32 (0:Int))),(V.sc (.int .u16 (0:Int))),(V.sc (.int .u32 (0:Int)))] 0 (List.take 4 c15)) fun r16 =>
 chk (0≤p47∧p47≤(((List.length p8):Nat):Int)) (
 k_hbbbbbbbbabaabbaababa p7 p8 p10 p45 p46 p47 (List.take ((Int.toNat p47) - 0) (List.drop 0 p8)) ((List.length (List.take ((Int.toNat p47) - 0) (List.drop 0 p8)):Nat):Int) (0:Int) r16 zKH zKI))) (
 k_x0 p7 p8 p10 zKH zKI)
def zkf {β:Type} (yc:xt) (yd:zx) (xd:xy) (xf:yC) (zz:zab) (ye:zD) (yb:zq) (L:Nat) (p7 p8:List (List V)) (p10:Int) (zKH:List (List V)) (zKI:Int) (k_fin:Bool→Option β):Option β :=
 ifb (decide (p10≤(1:Int))) (
 idx p8 (0:Int) fun c17 =>
 cI .i64 c17 0 fun v18 =>
 ifb ((v18:Int) == (1:Int)) (
 idx p8 (0:Int) fun c19 =>
 idx p7 (0:Int) fun c20 =>
 eqC 3 (List.take 3 (List.drop 1 c19)) (List.take 3 c20) fun v21 =>
 ifb v21 (
 ye β L p8 (fun v22 =>
 k_fin v22)) (
 k_fin false)) (
 k_fin false)) (
 k_fin false)
def zg7 {β:Type} (yc:xt) (yd:zx) (xd:xy) (xf:yC) (zz:zab) (ye:zD) (yb:zq) (L:Nat) (p7 p8:List (List V)) (p10:Int) (p45:List (List V)) (p46 p47:Int) (p54:List (List V)) (p55 p56:Int) (b12:List V) (zKH:List (List V)) (zKI:Int) (k_ret:Bool→List (List V)→Int→Option β) (k_hbbbbbbbbabaabbaababa:zcW β) (k_x2:zjL β):Option β :=
 ifb (decide (p56 < p55)) (
 idx p54 p56 fun c23 =>
 chk ((List.length (List.take 4 c23))=4∧0+4≤4) (
 lt (xg [(V.sc (.int .i64 (0:Int))),(V.sc (.int .u32 (0:Int))),(V.sc (.int .u16 (0:Int))),(V.sc (.int .u32 (0:Int)))] 0 (List.take 4 c23)) fun r24 =>
 chk (1+3≤(List.length b12)) (
 yb β L (List.take 3 (List.drop 1 b12)) (fun v25 =>
 chk (1+3≤(List.length r24)) (
 yb β L (List.take 3 (List.drop 1 r24)) (fun v26 =>
 ifb ((v25:Int) == v26) (
 k_ret false zKH zKI) (
 lt (IntKind.wrap .i64 ((p56:Int)+(1:Int))) fun x27 =>
 k_hbbbbbbbbabaabbaababa p7 p8 p10 p45 p46 p47 p54 p55 x27 b12 zKH zKI))))))) (
 k_x2 p7 p8 p10 p45 p46 p47 b12 zKH zKI)
def zgr {β:Type} (yc:xt) (yd:zx) (xd:xy) (xf:yC) (zz:zab) (ye:zD) (yb:zq) (L:Nat) (p4:Bool) (zKH:List (List V)) (zKI:Int) (k_ret:Bool→List (List V)→Int→Option β):Option β :=
 k_ret p4 zKH zKI
def zgG {β:Type} (yc:xt) (yd:zx) (xd:xy) (xf:yC) (zz:zab) (ye:zD) (yb:zq) (L:Nat) (p7 p8:List (List V)) (p10:Int) (p45:List (List V)) (p46 p47:Int) (b12:List V) (zKH:List (List V)) (zKI:Int) (k_hbbbbbbbbaba:zcA β):Option β :=
 cI .i64 b12 0 fun v28 =>
 ifb ((v28:Int) == (3:Int)) (
 lt (IntKind.wrap .i64 ((p10:Int)+(1:Int))) fun x29 =>
 lt (IntKind.wrap .i64 ((p47:Int)+(1:Int))) fun x30 =>
 k_hbbbbbbbbaba p7 p8 x29 p45 p46 x30 zKH zKI) (
 lt (IntKind.wrap .i64 ((p47:Int)+(1:Int))) fun x31 =>
 k_hbbbbbbbbaba p7 p8 p10 p45 p46 x31 zKH zKI)
def zjK {β:Type} (yc:xt) (yd:zx) (xd:xy) (xf:yC) (zz:zab) (ye:zD) (yb:zq) (L:Nat) (p4:Bool) (zKH:List (List V)) (zKI:Int) (k_fin:Bool→Option β):Option β :=
 k_fin p4
def zc9 {β:Type} (yc:xt) (yd:zx) (xd:xy) (xf:yC) (zz:zab) (ye:zD) (yb:zq) (L:Nat) (k_ret:Bool→List (List V)→Int→Option β) (k_x2:zjL β):Nat→List (List V)→List (List V)→Int→List (List V)→Int→Int→List (List V)→Int→Int→List V→List (List V)→Int→Option β
 | 0,_,_,_,_,_,_,_,_,_,_,_,_=>none
 | n+1,p7,p8,p10,p45,p46,p47,p54,p55,p56,b12,zKH,zKI=>zg7 yc yd xd xf zz ye yb L p7 p8 p10 p45 p46 p47 p54 p55 p56 b12 zKH zKI k_ret (fun p7 p8 p10 p45 p46 p47 p54 p55 p56 b12 zKH zKI=>zc9 yc yd xd xf zz ye yb L k_ret k_x2 n p7 p8 p10 p45 p46 p47 p54 p55 p56 b12 zKH zKI) k_x2
def zkW {β:Type} (yc:xt) (yd:zx) (xd:xy) (xf:yC) (zz:zab) (ye:zD) (yb:zq) (L:Nat) (p7 p8:List (List V)) (p10:Int) (p45:List (List V)) (p46 p47:Int) (zKH:List (List V)) (zKI:Int) (k_x0:zft β) (k_ret:Bool→List (List V)→Int→Option β) (k_hbbbbbbbbaba:zcA β):Option β :=
 zlu yc yd xd xf zz ye yb L p7 p8 p10 p45 p46 p47 zKH zKI (fun p7 p8 p10 p45 p46 p47 p54 p55 p56 b12 zKH zKI=>zc9 yc yd xd xf zz ye yb L (fun p4 zKH zKI=>zgr yc yd xd xf zz ye yb L p4 zKH zKI k_ret) (fun p7 p8 p10 p45 p46 p47 b12 zKH zKI=>zgG yc yd xd xf zz ye yb L p7 p8 p10 p45 p46 p47 b12 zKH zKI k_hbbbbbbbbaba) L p7 p8 p10 p45 p46 p47 p54 p55 p56 b12 zKH zKI) k_x0
def ze1 {β:Type} (yc:xt) (yd:zx) (xd:xy) (xf:yC) (zz:zab) (ye:zD) (yb:zq) (L:Nat) (k_x0:zft β) (k_ret:Bool→List (List V)→Int→Option β):Nat→List (List V)→List (List V)→Int→List (List V)→Int→Int→List (List V)→Int→Option β
 | 0,_,_,_,_,_,_,_,_=>none
 | n+1,p7,p8,p10,p45,p46,p47,zKH,zKI=>zkW yc yd xd xf zz ye yb L p7 p8 p10 p45 p46 p47 zKH zKI k_x0 k_ret (fun p7 p8 p10 p45 p46 p47 zKH zKI=>ze1 yc yd xd xf zz ye yb L k_x0 k_ret n p7 p8 p10 p45 p46 p47 zKH zKI)
def zsZ {β:Type} (yc:xt) (yd:zx) (xd:xy) (xf:yC) (zz:zab) (ye:zD) (yb:zq) (L:Nat) (p0 p1:List (List V)) (k_fin:Bool→Option β):Option β :=
 zs8 yc yd xd xf zz ye yb L p0 p1 k_fin (fun p7 p8 p10 p45 p46 p47 zKH zKI=>ze1 yc yd xd xf zz ye yb L (fun p7 p8 p10 zKH zKI=>zkf yc yd xd xf zz ye yb L p7 p8 p10 zKH zKI k_fin) (fun p4 zKH zKI=>zjK yc yd xd xf zz ye yb L p4 zKH zKI k_fin) L p7 p8 p10 p45 p46 p47 zKH zKI)
abbrev zsO:=∀ (β:Type),Nat→List (List V)→List (List V)→(Bool→Option β)→Option β
def zln (β:Type) (L:Nat) (p0 p1:List (List V)) (k_fin:Bool→Option β):Option β:=zsZ yc yd xd xf zz ye yb L p0 p1 k_fin
def zEC (zln:zsO) (L:Nat) (β:Type) (args:List V) (bor:Bor) (k:KK β):Option β:=match args,bor with
 | [a0,a1],[]=>aL 1 a0 fun p0=>aL 1 a1 fun p1=>zln β L p0 p1 (fun p0=>k (V.sc (.bool p0)) [])
 | _,_=>none
def zbj:CC:=(.seq (.reg [oo 26 (.bin .lss (tq 25) (tq 24))])
 (.seq (.cond (tq 26)
 .skip
 (.seq (.mask (bl 3840 81) (bl 2417851350435691726081983 81))
 (.exit 0)))
 (.seq (.block 1 (.seq (.reg [oo 27 (.move (tq 25) false),
   oo 12 (.move (tq 27) false)])
 (.seq (.reg [oo 29 (.load true 34 (tq 8) false),
   oo 30 (.move (tq 1) false),
   oo 31 (.bin .rem (tq 30) (.const (.sc (.int .u64 1152921504606846976)))),
   oo 32 (.move (tq 12) false),
   oo 33 (.conv .u64 (tq 32)),
   oo 34 (.bin .add (tq 31) (tq 33)),
   oo 35 (.call 263 [((tq 29),1),((.const (.gs 3 [])),0),((.const (.gs 4 [])),0),((tq 34),0)] []),
   oo 28 (.move (tq 35) true),
   oo 36 (.pull (tq 28) 0),
   oo 37 (.pull (tq 28) 1),
   oo 13 (.alloc true [(.sc (.int .i64 0)),(.sc (.int .u32 0)),(.sc (.int .u16 0)),(.sc (.int .u32 0))]),
   oz (.store 4 (tq 13) (tq 36)),
   oo 14 (.move (tq 37) false)])
 (.seq (.seq (.reg [oo 38 (.move (tq 14) false),
   oo 39 (.bin .neq (tq 38) (.const (.sc (.int .i64 0)))),
   oo 40 (.move (tq 39) false),
   ⟨(some 41),false,(some (40,false)),.fieldAddr 0 (tq 13)⟩,
   ⟨(some 42),false,(some (40,false)),.load false 1 (tq 41) false⟩,
   ⟨(some 43),false,(some (40,false)),.bin .neq (tq 42) (.const (.sc (.int .i64 2)))⟩,
   oo 44 (.pick (tq 40) (.const (.sc (.bool true))) (tq 43))])
 (.cond (tq 44)
 (.seq (.reg [oo 6 (.move (.const (.sc (.bool false))) false)])
 (.seq (.mask (bl 64 81) (bl 2417851350435691726078719 81))
 .ret))
 .skip))
 (.seq (.seq (.reg [oo 45 (.move (tq 9) false),
   oo 46 (.move (tq 12) false),
   oo 47 (.indexAddrS 3 (tq 45) (tq 46)),
   oo 48 (.load true 3 (tq 47) false),
   oo 49 (.call 269 [((tq 48),0)] []),
   oo 50 (.bin .rem (tq 49) (.const (.sc (.int .u32 3)))),
   oo 51 (.move (tq 2) false),
   oo 52 (.bin .rem (tq 51) (.const (.sc (.int .u32 3)))),
   oo 53 (.bin .eql (tq 50) (tq 52))])
 (.cond (tq 53)
 (.reg [oo 54 (.move (tq 10) false),
   oo 55 (.bin .add (tq 54) (.const (.sc (.int .i64 1)))),
   oo 10 (.move (tq 55) false)])
 .skip))
 (.seq (.reg [oo 56 (.fieldAddr 1 (tq 13)),
   oo 57 (.load true 3 (tq 56) false),
   oo 58 (.call 269 [((tq 57),0)] []),
   oo 59 (.bin .rem (tq 58) (.const (.sc (.int .u32 3)))),
   oo 60 (.move (tq 2) false),
   oo 61 (.bin .rem (tq 60) (.const (.sc (.int .u32 3)))),
   oo 62 (.bin .eql (tq 59) (tq 61))])
 (.cond (tq 62)
 (.reg [oo 63 (.move (tq 11) false),
   oo 64 (.bin .add (tq 63) (.const (.sc (.int .i64 1)))),
   oo 11 (.move (tq 64) false)])
 .skip)))))))
 (.reg [oo 65 (.bin .add (tq 25) (.const (.sc (.int .i64 1)))),
   oo 25 (.move (tq 65) false)]))))
def zcU:CC:=(.seq (.reg [oo 66 (.move (tq 10) false),
   oo 67 (.move (tq 11) false),
   oo 68 (.bin .eql (tq 66) (tq 67)),
   oo 69 (.move (tq 68) false),
   ⟨(some 70),false,(some (69,true)),.move (tq 9) false⟩,
   ⟨(some 71),false,(some (69,true)),.lenS (tq 70)⟩,
   ⟨(some 72),false,(some (69,true)),.fieldAddr 32 (tq 8)⟩,
   ⟨(some 73),false,(some (69,true)),.load false 1 (tq 72) false⟩,
   ⟨(some 74),false,(some (69,true)),.lenS (tq 73)⟩,
   ⟨(some 75),false,(some (69,true)),.fieldAddr 33 (tq 8)⟩,
   ⟨(some 76),false,(some (69,true)),.load false 1 (tq 75) false⟩,
   ⟨(some 77),false,(some (69,true)),.lenS (tq 76)⟩,
   ⟨(some 78),false,(some (69,true)),.bin .add (tq 74) (tq 77)⟩,
   ⟨(some 79),false,(some (69,true)),.bin .eql (tq 71) (tq 78)⟩,
   oo 80 (.pick (tq 69) (tq 79) (.const (.sc (.bool false)))),
   oo 6 (.move (tq 80) false)])
 .ret)
def zbb:CF:=⟨81,[.tmp 6],
 (.seq (.reg [oo 6 (.move (.const (.sc (.bool false))) false)])
 (.seq (.seq (.reg [oo 15 (.call 259 [] []),
   oo 16 (.un .not (tq 15))])
 (.cond (tq 16)
 (.seq (.reg [oo 6 (.move (.const (.sc (.bool false))) false)])
 .ret)
 .skip))
 (.seq (.reg [oo 17 (.move (tq 0) false),
   oo 18 (.call 225 [((tq 17),0)] []),
   oo 7 (.move (tq 18) false)])
 (.seq (.reg [oo 19 (.move (tq 7) false),
   oo 20 (.call 260 [((tq 19),0)] []),
   oo 8 (.alloc true (rp 32 (.sc (.int .u8 0)) (rp 2 (.gs 5 []) []))),
   oz (.store 34 (tq 8) (tq 20))])
 (.seq (.reg [oo 21 (.load true 34 (tq 8) false),
   oo 22 (.call 266 [((tq 21),1),((.const (.gs 4 [])),0),((.const (.sc (.int .i64 2))),0)] []),
   oo 9 (.move (tq 22) false)])
 (.seq (.reg [oo 10 (.move (.const (.sc (.int .i64 0))) false),
   oo 11 (.move (.const (.sc (.int .i64 0))) false)])
 (.seq (.seq (.reg [oo 23 (.move (tq 9) false),
   oo 24 (.lenS (tq 23)),
   oo 25 (.move (.const (.sc (.int .i64 0))) false)])
 (.block 0 (.loop (bl 50335494 81) (bl 2417851350435691726081983 81)
 zbj)))
 zcU)))))))⟩
def zlc:Hint:=⟨[(4,2),(10,7)],[],[none,none,none,some ((bl 50335494 81),(bl 2417851350435691726081983 81)),none,some ((bl 3840 81),(bl 2417851350435691726081983 81)),none,none,some ((bl 64 81),(bl 2417851350435691726078719 81)),none,none,none],[],[],false,false⟩
def zad:Nat→Sh:=xO [(42,(.int .i64)),(73,(.sl 5)),(76,(.sl 5))]
def zaa (yc:xt) (yd:zx) (xd:xy) (za:xj) (xb:zr) (yb:zq) (L:Nat):CBC:=(xu 269 (zbQ yb L) (xu 263 (zc1 xb L) (xu 266 (zcm za L) (xu 260 (zgx xd L) (xu 225 (zgs yd L) (xu 259 (zfc yc L) noC))))))
def zcp:St→St:=zac 0 (bl 50335494 81) (bl 2417851350435691726081983 81)
def zbY (p1 p2:Int) (p9:List (List V)) (p10 p11 p24 p25:Int) (b8:List V) (zKH:List (List V)) (zKI:Int):St:=⟨(jn 1 ((V.sc (.int .u64 p1))::((V.sc (.int .u32 p2))::(jn 5 ((V.ptr 8 0)::((V.sl 3 p9)::((V.sc (.int .i64 p10))::((V.sc (.int .i64 p11))::(jn 12 ((V.sc (.int .i64 p24))::((V.sc (.int .i64 p25))::(jn 55 [])))))))))))),(gn 8 ((.live true b8)::(gn 9 ((.live false [(V.sl 1 zKH),(V.sc (.int .i64 zKI))])::(gn 62 [])))))⟩
def zfm (p6:Bool) (zKH:List (List V)) (zKI:Int):St:=⟨(jn 6 ((V.sc (.bool p6))::(jn 74 []))),(gn 18 ((.live false [(V.sl 1 zKH),(V.sc (.int .i64 zKI))])::(gn 62 [])))⟩
def zfP (p9:List (List V)) (p10 p11:Int) (b8:List V) (zKH:List (List V)) (zKI:Int):St:=⟨(jn 8 ((V.ptr 8 0)::((V.sl 3 p9)::((V.sc (.int .i64 p10))::((V.sc (.int .i64 p11))::(jn 69 [])))))),(gn 8 ((.live true b8)::(gn 9 ((.live false [(V.sl 1 zKH),(V.sc (.int .i64 zKI))])::(gn 62 [])))))⟩
abbrev zgK (β:Type):Type:=Int→Int→List (List V)→Int→Int→Int→Int→List V→List (List V)→Int→Option β
abbrev zg4 (β:Type):Type:=List (List V)→Int→Int→List V→List (List V)→Int→Option β
def ziJ {β:Type} (yc:xt) (yd:zx) (xd:xy) (za:xj) (xb:zr) (yb:zq) (L:Nat) (p0:List (List V)) (p1 p2:Int) (k_fin:Bool→Option β) (k_hbbbbbbaba:zgK β):Option β :=
 yc β L  (fun v0 =>
 ifb (!v0) (
 k_fin false) (
 yd β L p0 (fun v1 v2 =>
 xd β L v1 v2 (fun v3 v4 v5 =>
 chk ((List.length v3)=34∧0+34≤34) (
 lt (xg (List.replicate 32 (V.sc (.int .u8 (0:Int)))++[(V.gs 5 ([]:List (List V))),(V.gs 5 ([]:List (List V)))]) 0 v3) fun r6 =>
 chk (0+34≤(List.length r6)) (
 za β L (List.map V.dem (List.take 34 r6)) ([]:List (List V)) (2:Int) (fun v7 =>
 k_hbbbbbbaba p1 p2 v7 (0:Int) (0:Int) ((List.length v7:Nat):Int) (0:Int) r6 v4 v5)))))))
theorem ztc {β:Type} (yc:xt) (yd:zx) (xd:xy) (za:xj) (xb:zr) (yb:zq) (L:Nat) (p0:List (List V)) (p1 p2:Int) (k:KK β):xr zad (zaa yc yd xd za xb yb L) L zbb [(V.sl 1 p0),(V.sc (.int .u64 p1)),(V.sc (.int .u32 p2))] [] k=ziJ yc yd xd za xb yb L p0 p1 p2 (fun p0=>k (V.sc (.bool p0)) []) (fun p1 p2 p9 p10 p11 p24 p25 b8 zKH zKI=>zH (yn zad (zaa yc yd xd za xb yb L) 0 L zbj) zcp L (zbY p1 p2 p9 p10 p11 p24 p25 b8 zKH zKI) (yH 0 (zV (yn zad (zaa yc yd xd za xb yb L) 0 L zcU) (y6 0 (CF.res zbb) k)))):=by kernel_rfl
def zco {β:Type} (yc:xt) (yd:zx) (xd:xy) (za:xj) (xb:zr) (yb:zq) (L:Nat) (p1 p2:Int) (p9:List (List V)) (p10 p11 p24 p25:Int) (b8:List V) (zKH:List (List V)) (zKI:Int) (k_ret:Bool→List (List V)→Int→Option β) (k_hbbbbbbaba:zgK β) (k_x0:zg4 β):Option β :=
 ifb (decide (p25 < p24)) (
 chk (0+34≤(List.length b8)) (
 lt (Int.tmod p1 (1152921504606846976:Int)) fun x8 =>
 lt (IntKind.wrap .u64 p25) fun x9 =>
 lt (IntKind.wrap .u64 ((x8:Int)+x9)) fun x10 =>
 xb β L (List.map V.dem (List.take 34 b8)) ([]:List (List V)) ([]:List (List V)) x10 (fun v11 v12 =>
 chk ((List.length v11)=4∧0+4≤4) (
 lt (xg [(V.sc (.int .i64 (0:Int))),(V.sc (.int .u32 (0:Int))),(V.sc (.int .u16 (0:Int))),(V.sc (.int .u32 (0:Int)))] 0 v11) fun r13 =>
 ifb ((v12:Int) != (0:Int)) (
 k_ret false zKH zKI) (
 cI .i64 r13 0 fun v14 =>
 ifb ((v14:Int) != (2:Int)) (
 k_ret false zKH zKI) (
 idx p9 p25 fun c15 =>
 yb β L (List.take 3 c15) (fun v16 =>
 lt (Int.tmod v16 (3:Int)) fun x17 =>
 lt (Int.tmod p2 (3:Int)) fun x18 =>
 ifb ((x17:Int) == x18) (
 lt (IntKind.wrap .i64 ((p10:Int)+(1:Int))) fun x19 =>
 chk (1+3≤(List.length r13)) (
 yb β L (List.take 3 (List.drop 1 r13)) (fun v20 =>
 lt (Int.tmod v20 (3:Int)) fun x21 =>
 lt (Int.tmod p2 (3:Int)) fun x22 =>
 ifb ((x21:Int) == x22) (
 lt (IntKind.wrap .i64 ((p11:Int)+(1:Int))) fun x23 =>
 lt (IntKind.wrap .i64 ((p25:Int)+(1:Int))) fun x24 =>
 k_hbbbbbbaba p1 p2 p9 x19 x23 p24 x24 b8 zKH zKI) (
 lt (IntKind.wrap .i64 ((p25:Int)+(1:Int))) fun x25 =>
 k_hbbbbbbaba p1 p2 p9 x19 p11 p24 x25 b8 zKH zKI)))) (
 chk (1+3≤(List.length r13)) (
 yb β L (List.take 3 (List.drop 1 r13)) (fun v26 =>
 lt (Int.tmod v26 (3:Int)) fun x27 =>
 lt (Int.tmod p2 (3:Int)) fun x28 =>
 ifb ((x27:Int) == x28) (
 lt (IntKind.wrap .i64 ((p11:Int)+(1:Int))) fun x29 =>
 lt (IntKind.wrap .i64 ((p25:Int)+(1:Int))) fun x30 =>
 k_hbbbbbbaba p1 p2 p9 p10 x29 p24 x30 b8 zKH zKI) (
 lt (IntKind.wrap .i64 ((p25:Int)+(1:Int))) fun x31 =>
 k_hbbbbbbaba p1 p2 p9 p10 p11 p24 x31 b8 zKH zKI))))))))))) (
 k_x0 p9 p10 p11 b8 zKH zKI)
theorem zmD {β:Type} (yc:xt) (yd:zx) (xd:xy) (za:xj) (xb:zr) (yb:zq) (L:Nat) (p1 p2:Int) (p9:List (List V)) (p10 p11 p24 p25:Int) (b8:List V) (zKH:List (List V)) (zKI:Int) (X:St→Option β) (K:KT β):yn zad (zaa yc yd xd za xb yb L) 0 L zbj (zbY p1 p2 p9 p10 p11 p24 p25 b8 zKH zKI) (zcC zcp X K)=zco yc yd xd za xb yb L p1 p2 p9 p10 p11 p24 p25 b8 zKH zKI (fun p6 zKH zKI=>K .ret (zfm p6 zKH zKI)) (fun p1 p2 p9 p10 p11 p24 p25 b8 zKH zKI=>X (zbY p1 p2 p9 p10 p11 p24 p25 b8 zKH zKI)) (fun p9 p10 p11 b8 zKH zKI=>K (.exit 0) (zfP p9 p10 p11 b8 zKH zKI)):=by kernel_rfl
def zfK {β:Type} (yc:xt) (yd:zx) (xd:xy) (za:xj) (xb:zr) (yb:zq) (L:Nat) (p6:Bool) (zKH:List (List V)) (zKI:Int) (k_fin:Bool→Option β):Option β :=
 k_fin p6
theorem zla {β:Type} (yc:xt) (yd:zx) (xd:xy) (za:xj) (xb:zr) (yb:zq) (L:Nat) (p6:Bool) (zKH:List (List V)) (zKI:Int) (k:KK β):(yH 0 (zV (yn zad (zaa yc yd xd za xb yb L) 0 L zcU) (y6 0 (CF.res zbb) k))) .ret (zfm p6 zKH zKI)=zfK yc yd xd za xb yb L p6 zKH zKI (fun p0=>k (V.sc (.bool p0)) []):=by kernel_rfl
def zdm {β:Type} (yc:xt) (yd:zx) (xd:xy) (za:xj) (xb:zr) (yb:zq) (L:Nat) (p9:List (List V)) (p10 p11:Int) (b8:List V) (zKH:List (List V)) (zKI:Int) (k_fin:Bool→Option β):Option β :=
 ifb ((p10:Int) == p11) (
 cLd 5 b8 32 fun v32 =>
 cLd 5 b8 33 fun v33 =>
 lt (IntKind.wrap .i64 ((((List.length v32:Nat):Int):Int)+((List.length v33:Nat):Int))) fun x34 =>
 k_fin ((((List.length p9:Nat):Int):Int) == x34)) (
 k_fin false)
theorem zlF {β:Type} (yc:xt) (yd:zx) (xd:xy) (za:xj) (xb:zr) (yb:zq) (L:Nat) (p9:List (List V)) (p10 p11:Int) (b8:List V) (zKH:List (List V)) (zKI:Int) (k:KK β):(yH 0 (zV (yn zad (zaa yc yd xd za xb yb L) 0 L zcU) (y6 0 (CF.res zbb) k))) (.exit 0) (zfP p9 p10 p11 b8 zKH zKI)=zdm yc yd xd za xb yb L p9 p10 p11 b8 zKH zKI (fun p0=>k (V.sc (.bool p0)) []):=by kernel_rfl
def zaP {β:Type} (yc:xt) (yd:zx) (xd:xy) (za:xj) (xb:zr) (yb:zq) (L:Nat) (k_ret:Bool→List (List V)→Int→Option β) (k_x0:zg4 β):Nat→Int→Int→List (List V)→Int→Int→Int→Int→List V→List (List V)→Int→Option β
 | 0,_,_,_,_,_,_,_,_,_,_=>none
 | n+1,p1,p2,p9,p10,p11,p24,p25,b8,zKH,zKI=>zco yc yd xd za xb yb L p1 p2 p9 p10 p11 p24 p25 b8 zKH zKI k_ret (fun p1 p2 p9 p10 p11 p24 p25 b8 zKH zKI=>zaP yc yd xd za xb yb L k_ret k_x0 n p1 p2 p9 p10 p11 p24 p25 b8 zKH zKI) k_x0
theorem zfM {β:Type} (yc:xt) (yd:zx) (xd:xy) (za:xj) (xb:zr) (yb:zq) (L:Nat) (K:KT β):∀ (n:Nat) (p1 p2:Int) (p9:List (List V)) (p10 p11 p24 p25:Int) (b8:List V) (zKH:List (List V)) (zKI:Int),zH (yn zad (zaa yc yd xd za xb yb L) 0 L zbj) zcp n (zbY p1 p2 p9 p10 p11 p24 p25 b8 zKH zKI) K=zaP yc yd xd za xb yb L (fun p6 zKH zKI=>K .ret (zfm p6 zKH zKI)) (fun p9 p10 p11 b8 zKH zKI=>K (.exit 0) (zfP p9 p10 p11 b8 zKH zKI)) n p1 p2 p9 p10 p11 p24 p25 b8 zKH zKI:=by
 intro n
 induction n with
 | zero=>intros; rfl
 | succ n ih =>
  intro p1 p2 p9 p10 p11 p24 p25 b8 zKH zKI
  refine (zmD yc yd xd za xb yb L p1 p2 p9 p10 p11 p24 p25 b8 zKH zKI (fun σ=>zH (yn zad (zaa yc yd xd za xb yb L) 0 L zbj) zcp n σ K) K).trans ?_
  simp only [ih]
  rfl
def zfH {β:Type} (yc:xt) (yd:zx) (xd:xy) (za:xj) (xb:zr) (yb:zq) (L:Nat) (p0:List (List V)) (p1 p2:Int) (k_fin:Bool→Option β):Option β :=
 ziJ yc yd xd za xb yb L p0 p1 p2 k_fin (fun p1 p2 p9 p10 p11 p24 p25 b8 zKH zKI=>zaP yc yd xd za xb yb L (fun p6 zKH zKI=>zfK yc yd xd za xb yb L p6 zKH zKI k_fin) (fun p9 p10 p11 b8 zKH zKI=>zdm yc yd xd za xb yb L p9 p10 p11 b8 zKH zKI k_fin) L p1 p2 p9 p10 p11 p24 p25 b8 zKH zKI)
theorem zsG {β:Type} (yc:xt) (yd:zx) (xd:xy) (za:xj) (xb:zr) (yb:zq) (L:Nat) (p0:List (List V)) (p1 p2:Int) (k:KK β):xr zad (zaa yc yd xd za xb yb L) L zbb [(V.sl 1 p0),(V.sc (.int .u64 p1)),(V.sc (.int .u32 p2))] [] k=zfH yc yd xd za xb yb L p0 p1 p2 (fun p0=>k (V.sc (.bool p0)) []):=by
 refine (ztc yc yd xd za xb yb L p0 p1 p2 k).trans ?_
 unfold zfH
 first
  | (simp only [zfM,zla,zlF]; done)
  | (simp only [zfM]; rfl)
abbrev zvJ:=∀ (β:Type),Nat→List (List V)→Int→Int→(Bool→Option β)→Option β
def zcJ (β:Type) (L:Nat) (p0:List (List V)) (p1 p2:Int) (k_fin:Bool→Option β):Option β:=zfH yc yd xd za xb yb L p0 p1 p2 k_fin
def ziK (zcJ:zvJ) (L:Nat) (β:Type) (args:List V) (bor:Bor) (k:KK β):Option β:=match args,bor with
 | [a0,a1,a2],[]=>aL 1 a0 fun p0=>aI .u64 a1 fun p1=>aI .u32 a2 fun p2=>zcJ β L p0 p1 p2 (fun p0=>k (V.sc (.bool p0)) [])
 | _,_=>none
theorem zsJ (L:Nat) (β:Type) (args:List V) (bor:Bor) (k:KK β) (r:β) (h:ziK zcJ L β args bor k=some r):xr zad (zaa yc yd xd za xb yb L) L zbb args bor k=some r:=by
 unfold ziK at h
 split at h
 ·have q:=z9 h; clear h; obtain ⟨p0,rfl,h⟩:=q
  have q:=zau h; clear h; obtain ⟨p1,rfl,h⟩:=q
  have q:=zau h; clear h; obtain ⟨p2,rfl,h⟩:=q
  exact (zsG yc yd xd za xb yb L p0 p1 p2 k).trans h
 ·cases h
def zmd:CC:=(.seq (.reg [oo 29 (.bin .lss (tq 28) (tq 27))])
 (.seq (.cond (tq 29)
 .skip
 (.seq (.mask (bl 1540 47) (bl 140720308481919 47))
 (.exit 0)))
 (.seq (.block 1 (.seq (.reg [oo 30 (.indexAddrS 4 (tq 26) (tq 28)),
   oo 31 (.load true 4 (tq 30) false),
   oo 12 (.alloc true [(.sc (.int .i64 0)),(.sc (.int .u32 0)),(.sc (.int .u16 0)),(.sc (.int .u32 0))]),
   oz (.store 4 (tq 12) (tq 31))])
 (.seq (.reg [oo 32 (.fieldAddr 1 (tq 12)),
   oo 33 (.load true 3 (tq 32) false),
   oo 34 (.call 269 [((tq 33),0)] []),
   oo 35 (.move (tq 2) false),
   oo 36 (.conv .u32 (tq 35)),
   oo 37 (.bin .lss (tq 34) (tq 36))])
 (.cond (tq 37)
 (.reg [oo 38 (.move (tq 10) false),
   oo 39 (.bin .add (tq 38) (.const (.sc (.int .i64 1)))),
   oo 10 (.move (tq 39) false)])
 .skip))))
 (.reg [oo 40 (.bin .add (tq 28) (.const (.sc (.int .i64 1)))),
   oo 28 (.move (tq 40) false)]))))
def znW:CC:=(.seq (.reg [oo 41 (.move (tq 9) false),
   oo 42 (.move (tq 41) false),
   ⟨(some 43),false,(some (42,true)),.move (tq 10) false⟩,
   ⟨(some 44),false,(some (42,true)),.move (tq 2) false⟩,
   ⟨(some 45),false,(some (42,true)),.bin .leq (tq 43) (tq 44)⟩,
   oo 46 (.pick (tq 42) (tq 45) (.const (.sc (.bool false)))),
   oo 6 (.move (tq 46) false)])
 .ret)
def zkE:CF:=⟨47,[.tmp 6],
 (.seq (.reg [oo 6 (.move (.const (.sc (.bool false))) false)])
 (.seq (.seq (.reg [oo 13 (.call 259 [] []),
   oo 14 (.un .not (tq 13))])
 (.cond (tq 14)
 (.seq (.reg [oo 6 (.move (.const (.sc (.bool false))) false)])
 .ret)
 .skip))
 (.seq (.reg [oo 15 (.move (tq 0) false),
   oo 16 (.call 225 [((tq 15),0)] []),
   oo 17 (.call 260 [((tq 16),0)] []),
   oo 7 (.alloc true (rp 32 (.sc (.int .u8 0)) (rp 2 (.gs 5 []) []))),
   oz (.store 34 (tq 7) (tq 17))])
 (.seq (.reg [oo 19 (.load true 34 (tq 7) false),
   oo 20 (.move (tq 1) false),
   oo 21 (.call 268 [((tq 19),1),((.const (.gs 3 [])),0),((tq 20),0)] []),
   oo 18 (.move (tq 21) true),
   oo 22 (.extract (tq 18) 0),
   oo 23 (.pull (tq 18) 1),
   oo 8 (.move (tq 22) false),
   oo 9 (.move (tq 23) false)])
 (.seq (.reg [oo 24 (.move (tq 2) false),
   oo 25 (.call 217 [((tq 24),0),((.const (.sc (.int .i64 7))),0)] []),
   oo 2 (.move (tq 25) false)])
 (.seq (.reg [oo 10 (.move (.const (.sc (.int .i64 0))) false)])
 (.seq (.seq (.reg [oo 26 (.move (tq 8) false),
   oo 27 (.lenS (tq 26)),
   oo 28 (.move (.const (.sc (.int .i64 0))) false)])
 (.block 0 (.loop (bl 469763588 47) (bl 140720308481919 47)
 zmd)))
 znW)))))))⟩
def ziT:Hint:=⟨[(3,3),(4,3),(4,4)],[],[none,none,none,some ((bl 469763588 47),(bl 140720308481919 47)),none,some ((bl 1540 47),(bl 140720308481919 47)),none,none,none],[],[],false,false⟩
def zEw:Nat→Sh:=xO []
def zEt (yc:xt) (yd:zx) (xd:xy) (zz:zab) (zo:yW) (yb:zq) (L:Nat):CBC:=(xu 269 (zbQ yb L) (xu 217 (zkg zo L) (xu 268 (zwM zz L) (xu 260 (zgx xd L) (xu 225 (zgs yd L) (xu 259 (zfc yc L) noC))))))
def zzu:St→St:=zac 0 (bl 469763588 47) (bl 140720308481919 47)
def zxM (p2:Int) (p9:Bool) (p10:Int) (p26:List (List V)) (p27 p28:Int) (zLP:List (List V)) (zLQ:Int):St:=⟨(jn 2 ((V.sc (.int .i64 p2))::(jn 6 ((V.sc (.bool p9))::((V.sc (.int .i64 p10))::(jn 15 ((V.sl 4 p26)::((V.sc (.int .i64 p27))::((V.sc (.int .i64 p28))::(jn 18 [])))))))))),(gn 16 ((.live false [(V.sl 1 zLP),(V.sc (.int .i64 zLQ))])::(gn 30 [])))⟩
def zCx (p2:Int) (p9:Bool) (p10:Int) (zLP:List (List V)) (zLQ:Int):St:=⟨(jn 2 ((V.sc (.int .i64 p2))::(jn 6 ((V.sc (.bool p9))::((V.sc (.int .i64 p10))::(jn 36 [])))))),(gn 16 ((.live false [(V.sl 1 zLP),(V.sc (.int .i64 zLQ))])::(gn 30 [])))⟩
abbrev zfe (β:Type):Type:=Int→Bool→Int→List (List V)→Int→Int→List (List V)→Int→Option β
def ztb {β:Type} (yc:xt) (yd:zx) (xd:xy) (zz:zab) (zo:yW) (yb:zq) (L:Nat) (p0 p1:List (List V)) (p2:Int) (k_fin:Bool→Option β) (k_hbbbbbbaba:zfe β):Option β :=
 yc β L  (fun v0 =>
 ifb (!v0) (
 k_fin false) (
 yd β L p0 (fun v1 v2 =>
 xd β L v1 v2 (fun v3 v4 v5 =>
 chk ((List.length v3)=34∧0+34≤34) (
 lt (xg (List.replicate 32 (V.sc (.int .u8 (0:Int)))++[(V.gs 5 ([]:List (List V))),(V.gs 5 ([]:List (List V)))]) 0 v3) fun r6 =>
 chk (0+34≤(List.length r6)) (
 zz β L (List.map V.dem (List.take 34 r6)) ([]:List (List V)) p1 (fun v7 v8 =>
 zo β L p2 (7:Int) (fun v9 =>
 k_hbbbbbbaba v9 v8 (0:Int) v7 ((List.length v7:Nat):Int) (0:Int) v4 v5))))))))
def zmG {β:Type} (yc:xt) (yd:zx) (xd:xy) (zz:zab) (zo:yW) (yb:zq) (L:Nat) (p2:Int) (p9:Bool) (p10:Int) (p26:List (List V)) (p27 p28:Int) (zLP:List (List V)) (zLQ:Int) (k_hbbbbbbaba:zfe β) (k_x0:Int→Bool→Int→List (List V)→Int→Option β):Option β :=
 ifb (decide (p28 < p27)) (
 idx p26 p28 fun c10 =>
 chk ((List.length (List.take 4 c10))=4∧0+4≤4) (
 lt (xg [(V.sc (.int .i64 (0:Int))),(V.sc (.int .u32 (0:Int))),(V.sc (.int .u16 (0:Int))),(V.sc (.int .u32 (0:Int)))] 0 (List.take 4 c10)) fun r11 =>
 chk (1+3≤(List.length r11)) (
 yb β L (List.take 3 (List.drop 1 r11)) (fun v12 =>
 lt (IntKind.wrap .u32 p2) fun x13 =>
 ifb (decide (v12 < x13)) (
 lt (IntKind.wrap .i64 ((p10:Int)+(1:Int))) fun x14 =>
 lt (IntKind.wrap .i64 ((p28:Int)+(1:Int))) fun x15 =>
 k_hbbbbbbaba p2 p9 x14 p26 p27 x15 zLP zLQ) (
 lt (IntKind.wrap .i64 ((p28:Int)+(1:Int))) fun x16 =>
 k_hbbbbbbaba p2 p9 p10 p26 p27 x16 zLP zLQ))))) (
 k_x0 p2 p9 p10 zLP zLQ)
def zlz {β:Type} (yc:xt) (yd:zx) (xd:xy) (zz:zab) (zo:yW) (yb:zq) (L:Nat) (p2:Int) (p9:Bool) (p10:Int) (zLP:List (List V)) (zLQ:Int) (k_fin:Bool→Option β):Option β :=
 ifb p9 (
 k_fin (decide (p10≤p2))) (
 k_fin false)
def zfN {β:Type} (yc:xt) (yd:zx) (xd:xy) (zz:zab) (zo:yW) (yb:zq) (L:Nat) (k_x0:Int→Bool→Int→List (List V)→Int→Option β):Nat→Int→Bool→Int→List (List V)→Int→Int→List (List V)→Int→Option β
 | 0,_,_,_,_,_,_,_,_=>none
 | n+1,p2,p9,p10,p26,p27,p28,zLP,zLQ=>zmG yc yd xd zz zo yb L p2 p9 p10 p26 p27 p28 zLP zLQ (fun p2 p9 p10 p26 p27 p28 zLP zLQ=>zfN yc yd xd zz zo yb L k_x0 n p2 p9 p10 p26 p27 p28 zLP zLQ) k_x0
def zs0 {β:Type} (yc:xt) (yd:zx) (xd:xy) (zz:zab) (zo:yW) (yb:zq) (L:Nat) (p0 p1:List (List V)) (p2:Int) (k_fin:Bool→Option β):Option β :=
 ztb yc yd xd zz zo yb L p0 p1 p2 k_fin (fun p2 p9 p10 p26 p27 p28 zLP zLQ=>zfN yc yd xd zz zo yb L (fun p2 p9 p10 zLP zLQ=>zlz yc yd xd zz zo yb L p2 p9 p10 zLP zLQ k_fin) L p2 p9 p10 p26 p27 p28 zLP zLQ)
abbrev zs3:=∀ (β:Type),Nat→List (List V)→List (List V)→Int→(Bool→Option β)→Option β
def zls (β:Type) (L:Nat) (p0 p1:List (List V)) (p2:Int) (k_fin:Bool→Option β):Option β:=zs0 yc yd xd zz zo yb L p0 p1 p2 k_fin
def zEE (zls:zs3) (L:Nat) (β:Type) (args:List V) (bor:Bor) (k:KK β):Option β:=match args,bor with
 | [a0,a1,a2],[]=>aL 1 a0 fun p0=>aL 1 a1 fun p1=>aI .i64 a2 fun p2=>zls β L p0 p1 p2 (fun p0=>k (V.sc (.bool p0)) [])
 | _,_=>none
def fg:List (Nat × Nat):=[(3,255),(4,256),(5,257),(6,258),(7,259),(8,225),(9,260),(10,261),(11,231),(12,262),(13,263),(14,264),(15,217),(16,265),(17,266),(18,267),(19,268),(20,269),(21,270),(22,271),(23,236),(24,272),(25,273),(26,274),(27,247),(28,275),(29,276),(30,277),(31,278),(32,279),(33,280),(34,281),(35,282),(36,283),(37,284),(38,285),(39,286),(40,287),(41,288),(42,289),(43,290),(44,291),(45,292),(46,293),(47,294),(48,295),(49,296),(50,297),(51,298),(52,299),(53,300),(54,301),(55,302),(56,303),(57,110),(58,106),(59,304),(60,159),(61,305),(62,109),(63,105),(64,157),(65,205),(66,306),(67,115),(68,114),(69,116),(70,193),(71,194),(72,112),(73,111),(74,113),(75,191),(76,192),(77,118)]
def rows:List Row:=[⟨38,285,zpc,zhZ⟩,⟨20,269,zod,zgZ⟩,⟨54,301,zmt,zfF⟩,⟨66,306,zdl,zL⟩,⟨53,300,zcY,zaz⟩,⟨31,278,zn9,zg2⟩,⟨21,270,zpi,zb8⟩,⟨72,112,zvq,zgI⟩,⟨62,109,zwn,zqi⟩,⟨76,192,zp6,zdu⟩,⟨75,191,zp2,zjg⟩,⟨64,157,znA,zf0⟩,⟨77,118,zhA,zda⟩,⟨74,113,zsz,zeD⟩,⟨73,111,zsd,zlI⟩,⟨63,105,zwR,zic⟩,⟨50,297,zi7,zdA⟩,⟨49,296,zmj,zfG⟩,⟨48,295,zoa,zbl⟩,⟨65,205,zmM,zgc⟩,⟨52,299,ziW,zdF⟩,⟨51,298,zmm,zfy⟩,⟨28,275,zn0,zgX⟩,⟨30,277,zmy,zfv⟩,⟨29,276,zo3,zcb⟩,⟨32,279,zmu,zfB⟩,⟨37,284,zi9,za5⟩,⟨17,266,zkG,zes⟩,⟨13,263,zof,zb2⟩,⟨39,286,zec,zbm⟩,⟨22,271,zqc,ziU⟩,⟨7,259,zr9,zlL⟩,⟨8,225,zvs,zoM⟩,⟨27,247,zoc,zgV⟩,⟨15,217,zvk,zo0⟩,⟨11,231,zog,zgW⟩,⟨23,236,ztJ,zm0⟩,⟨67,115,zsa,zeA⟩,⟨57,110,ztM,znC⟩,⟨71,194,zqe,zdk⟩,⟨70,193,zp5,zi4⟩,⟨60,159,znO,zfZ⟩,⟨59,304,znK,zgd⟩,⟨69,116,zrr,zkh⟩,⟨68,114,zqf,ziS⟩,⟨58,106,ztU,zfg⟩,⟨47,294,zqU,zks⟩,⟨43,290,zlh,zeT⟩,⟨61,305,zlq,zeW⟩,⟨56,303,zsw,zlG⟩,⟨40,287,zsh,zcT⟩,⟨55,302,zrb,zc8⟩,⟨34,281,zrP,zc4⟩,⟨41,288,zp0,zi2⟩,⟨42,289,zp4,ziO⟩,⟨44,291,zqd,zbG⟩,⟨45,292,zqa,zi1⟩,⟨46,293,zsn,zcV⟩,⟨24,272,zss,zlQ⟩,⟨12,262,zt7,znb⟩,⟨25,273,zqV,zkx⟩,⟨9,260,zug,zfh⟩,⟨26,274,zmK,zo9⟩,⟨10,261,zsA,zve⟩,⟨36,283,zre,ztB⟩,⟨33,280,zro,ztI⟩,⟨35,282,zrC,ztz⟩,⟨18,267,zmx,zoe⟩,⟨14,264,zqb,zso⟩,⟨16,265,znm,zo5⟩,⟨3,255,ziX,zkC⟩,⟨19,268,zsj,zvt⟩,⟨4,256,ziZ,zkz⟩,⟨5,257,zlc,zbb⟩,⟨6,258,ziT,zkE⟩]
theorem zy9:yN Try.prog (zE fg) zpc 38=some zhZ:=by kernel_rfl
theorem zye:yN Try.prog (zE fg) zod 20=some zgZ:=by kernel_rfl
theorem zvF:yN Try.prog (zE fg) zmt 54=some zfF:=by kernel_rfl
theorem ziv:yN Try.prog (zE fg) zdl 66=some zL:=by kernel_rfl
theorem zhr:yN Try.prog (zE fg) zcY 53=some zaz:=by kernel_rfl
theorem zxU:yN Try.prog (zE fg) zn9 31=some zg2:=by kernel_rfl
theorem zzq:yN Try.prog (zE fg) zpi 21=some zb8:=by kernel_rfl
theorem zED:yN Try.prog (zE fg) zvq 72=some zgI:=by kernel_rfl
theorem zFF:yN Try.prog (zE fg) zwn 62=some zqi:=by kernel_rfl
theorem zzX:yN Try.prog (zE fg) zp6 76=some zdu:=by kernel_rfl
theorem zAW:yN Try.prog (zE fg) zp2 75=some zjg:=by kernel_rfl
theorem zw4:yN Try.prog (zE fg) znA 64=some zf0:=by kernel_rfl
theorem zqv:yN Try.prog (zE fg) zhA 77=some zda:=by kernel_rfl
theorem zCB:yN Try.prog (zE fg) zsz 74=some zeD:=by kernel_rfl
theorem zCP:yN Try.prog (zE fg) zsd 73=some zlI:=by kernel_rfl
theorem zF7:yN Try.prog (zE fg) zwR 63=some zic:=by kernel_rfl
theorem zrU:yN Try.prog (zE fg) zi7 50=some zdA:=by kernel_rfl
theorem zvC:yN Try.prog (zE fg) zmj 49=some zfG:=by kernel_rfl
theorem zyd:yN Try.prog (zE fg) zoa 48=some zbl:=by kernel_rfl
theorem zw1:yN Try.prog (zE fg) zmM 65=some zgc:=by kernel_rfl
theorem zr3:yN Try.prog (zE fg) ziW 52=some zdF:=by kernel_rfl
theorem zvG:yN Try.prog (zE fg) zmm 51=some zfy:=by kernel_rfl
theorem zxP:yN Try.prog (zE fg) zn0 28=some zgX:=by kernel_rfl
theorem zvY:yN Try.prog (zE fg) zmy 30=some zfv:=by kernel_rfl
theorem zzb:yN Try.prog (zE fg) zo3 29=some zcb:=by kernel_rfl
theorem zvA:yN Try.prog (zE fg) zmu 32=some zfB:=by kernel_rfl
theorem zrZ:yN Try.prog (zE fg) zi9 37=some za5:=by kernel_rfl
theorem ztP:yN Try.prog (zE fg) zkG 17=some zes:=by kernel_rfl
theorem zxZ:yN Try.prog (zE fg) zof 13=some zb2:=by kernel_rfl
theorem zkI:yN Try.prog (zE fg) zec 39=some zbm:=by kernel_rfl
theorem zAx:yN Try.prog (zE fg) zqc 22=some ziU:=by kernel_rfl
theorem zCK:yN Try.prog (zE fg) zr9 7=some zlL:=by kernel_rfl
theorem zEM:yN Try.prog (zE fg) zvs 8=some zoM:=by kernel_rfl
theorem zxK:yN Try.prog (zE fg) zoc 27=some zgV:=by kernel_rfl
theorem zEz:yN Try.prog (zE fg) zvk 15=some zo0:=by kernel_rfl
theorem zx9:yN Try.prog (zE fg) zog 11=some zgW:=by kernel_rfl
theorem zD1:yN Try.prog (zE fg) ztJ 23=some zm0:=by kernel_rfl
theorem zCw:yN Try.prog (zE fg) zsa 67=some zeA:=by kernel_rfl
theorem zDq:yN Try.prog (zE fg) ztM 57=some znC:=by kernel_rfl
theorem zzw:yN Try.prog (zE fg) zqe 71=some zdk:=by kernel_rfl
theorem zzZ:yN Try.prog (zE fg) zp5 70=some zi4:=by kernel_rfl
theorem zwC:yN Try.prog (zE fg) znO 60=some zfZ:=by kernel_rfl
theorem zwm:yN Try.prog (zE fg) znK 59=some zgd:=by kernel_rfl
theorem zBs:yN Try.prog (zE fg) zrr 69=some zkh:=by kernel_rfl
theorem zzH:yN Try.prog (zE fg) zqf 68=some ziS:=by kernel_rfl
theorem zDS:yN Try.prog (zE fg) ztU 58=some zfg:=by kernel_rfl
theorem zBJ:yN Try.prog (zE fg) zqU 47=some zks:=by kernel_rfl
theorem zui:yN Try.prog (zE fg) zlh 43=some zeT:=by kernel_rfl
theorem zva:yN Try.prog (zE fg) zlq 61=some zeW:=by kernel_rfl
theorem zCu:yN Try.prog (zE fg) zsw 56=some zlG:=by kernel_rfl
theorem zCs:yN Try.prog (zE fg) zsh 40=some zcT:=by kernel_rfl
theorem zBb:yN Try.prog (zE fg) zrb 55=some zc8:=by kernel_rfl
theorem zBm:yN Try.prog (zE fg) zrP 34=some zc4:=by kernel_rfl
theorem zzL:yN Try.prog (zE fg) zp0 41=some zi2:=by kernel_rfl
theorem zzV:yN Try.prog (zE fg) zp4 42=some ziO:=by kernel_rfl
theorem zAp:yN Try.prog (zE fg) zqd 44=some zbG:=by kernel_rfl
theorem zz4:yN Try.prog (zE fg) zqa 45=some zi1:=by kernel_rfl
theorem zCD:yN Try.prog (zE fg) zsn 46=some zcV:=by kernel_rfl
theorem zCF:yN Try.prog (zE fg) zss 24=some zlQ:=by kernel_rfl
theorem zEp:yN Try.prog (zE fg) zt7 12=some znb:=by kernel_rfl
theorem zA6:yN Try.prog (zE fg) zqV 25=some zkx:=by kernel_rfl
theorem zDQ:yN Try.prog (zE fg) zug 9=some zfh:=by kernel_rfl
theorem zwf:yN Try.prog (zE fg) zmK 26=some zo9:=by kernel_rfl
theorem zC5:yN Try.prog (zE fg) zsA 10=some zve:=by kernel_rfl
theorem zBB:yN Try.prog (zE fg) zre 36=some ztB:=by kernel_rfl
theorem zBq:yN Try.prog (zE fg) zro 33=some ztI:=by kernel_rfl
theorem zA0:yN Try.prog (zE fg) zrC 35=some ztz:=by kernel_rfl
theorem zv1:yN Try.prog (zE fg) zmx 18=some zoe:=by kernel_rfl
theorem zAw:yN Try.prog (zE fg) zqb 14=some zso:=by kernel_rfl
theorem zxd:yN Try.prog (zE fg) znm 16=some zo5:=by kernel_rfl
theorem zrR:yN Try.prog (zE fg) ziX 3=some zkC:=by kernel_rfl
theorem zCI:yN Try.prog (zE fg) zsj 19=some zvt:=by kernel_rfl
theorem zr8:yN Try.prog (zE fg) ziZ 4=some zkz:=by kernel_rfl
theorem zu2:yN Try.prog (zE fg) zlc 5=some zbb:=by kernel_rfl
theorem zrV:yN Try.prog (zE fg) ziT 6=some zkE:=by kernel_rfl
theorem zJt:∀ r ∈ rows,(r.f,r.g) ∈ fg∧zh6 Try.prog r.f=true∧yN Try.prog (zE fg) r.h r.f=some r.c:=by
 intro r hr
 simp only [rows,List.mem_cons,List.not_mem_nil,or_false] at hr
 rcases hr with rfl | rfl | rfl | rfl | rfl | rfl | rfl | rfl | rfl | rfl | rfl | rfl | rfl | rfl | rfl | rfl | rfl | rfl | rfl | rfl | rfl | rfl | rfl | rfl | rfl | rfl | rfl | rfl | rfl | rfl | rfl | rfl | rfl | rfl | rfl | rfl | rfl | rfl | rfl | rfl | rfl | rfl | rfl | rfl | rfl | rfl | rfl | rfl | rfl | rfl | rfl | rfl | rfl | rfl | rfl | rfl | rfl | rfl | rfl | rfl | rfl | rfl | rfl | rfl | rfl | rfl | rfl | rfl | rfl | rfl | rfl | rfl | rfl | rfl | rfl
 ·exact ⟨of_decide_eq_true (by kernel_rfl),by kernel_rfl,zy9⟩
 ·exact ⟨of_decide_eq_true (by kernel_rfl),by kernel_rfl,zye⟩
 ·exact ⟨of_decide_eq_true (by kernel_rfl),by kernel_rfl,zvF⟩
 ·exact ⟨of_decide_eq_true (by kernel_rfl),by kernel_rfl,ziv⟩
 ·exact ⟨of_decide_eq_true (by kernel_rfl),by kernel_rfl,zhr⟩
 ·exact ⟨of_decide_eq_true (by kernel_rfl),by kernel_rfl,zxU⟩
 ·exact ⟨of_decide_eq_true (by kernel_rfl),by kernel_rfl,zzq⟩
 ·exact ⟨of_decide_eq_true (by kernel_rfl),by kernel_rfl,zED⟩
 ·exact ⟨of_decide_eq_true (by kernel_rfl),by kernel_rfl,zFF⟩
 ·exact ⟨of_decide_eq_true (by kernel_rfl),by kernel_rfl,zzX⟩
 ·exact ⟨of_decide_eq_true (by kernel_rfl),by kernel_rfl,zAW⟩
 ·exact ⟨of_decide_eq_true (by kernel_rfl),by kernel_rfl,zw4⟩
 ·exact ⟨of_decide_eq_true (by kernel_rfl),by kernel_rfl,zqv⟩
 ·exact ⟨of_decide_eq_true (by kernel_rfl),by kernel_rfl,zCB⟩
 ·exact ⟨of_decide_eq_true (by kernel_rfl),by kernel_rfl,zCP⟩
 ·exact ⟨of_decide_eq_true (by kernel_rfl),by kernel_rfl,zF7⟩
 ·exact ⟨of_decide_eq_true (by kernel_rfl),by kernel_rfl,zrU⟩
 ·exact ⟨of_decide_eq_true (by kernel_rfl),by kernel_rfl,zvC⟩
 ·exact ⟨of_decide_eq_true (by kernel_rfl),by kernel_rfl,zyd⟩
 ·exact ⟨of_decide_eq_true (by kernel_rfl),by kernel_rfl,zw1⟩
 ·exact ⟨of_decide_eq_true (by kernel_rfl),by kernel_rfl,zr3⟩
 ·exact ⟨of_decide_eq_true (by kernel_rfl),by kernel_rfl,zvG⟩
 ·exact ⟨of_decide_eq_true (by kernel_rfl),by kernel_rfl,zxP⟩
 ·exact ⟨of_decide_eq_true (by kernel_rfl),by kernel_rfl,zvY⟩
 ·exact ⟨of_decide_eq_true (by kernel_rfl),by kernel_rfl,zzb⟩
 ·exact ⟨of_decide_eq_true (by kernel_rfl),by kernel_rfl,zvA⟩
 ·exact ⟨of_decide_eq_true (by kernel_rfl),by kernel_rfl,zrZ⟩
 ·exact ⟨of_decide_eq_true (by kernel_rfl),by kernel_rfl,ztP⟩
 ·exact ⟨of_decide_eq_true (by kernel_rfl),by kernel_rfl,zxZ⟩
 ·exact ⟨of_decide_eq_true (by kernel_rfl),by kernel_rfl,zkI⟩
 ·exact ⟨of_decide_eq_true (by kernel_rfl),by kernel_rfl,zAx⟩
 ·exact ⟨of_decide_eq_true (by kernel_rfl),by kernel_rfl,zCK⟩
 ·exact ⟨of_decide_eq_true (by kernel_rfl),by kernel_rfl,zEM⟩
 ·exact ⟨of_decide_eq_true (by kernel_rfl),by kernel_rfl,zxK⟩
 ·exact ⟨of_decide_eq_true (by kernel_rfl),by kernel_rfl,zEz⟩
 ·exact ⟨of_decide_eq_true (by kernel_rfl),by kernel_rfl,zx9⟩
 ·exact ⟨of_decide_eq_true (by kernel_rfl),by kernel_rfl,zD1⟩
 ·exact ⟨of_decide_eq_true (by kernel_rfl),by kernel_rfl,zCw⟩
 ·exact ⟨of_decide_eq_true (by kernel_rfl),by kernel_rfl,zDq⟩
 ·exact ⟨of_decide_eq_true (by kernel_rfl),by kernel_rfl,zzw⟩
 ·exact ⟨of_decide_eq_true (by kernel_rfl),by kernel_rfl,zzZ⟩
 ·exact ⟨of_decide_eq_true (by kernel_rfl),by kernel_rfl,zwC⟩
 ·exact ⟨of_decide_eq_true (by kernel_rfl),by kernel_rfl,zwm⟩
 ·exact ⟨of_decide_eq_true (by kernel_rfl),by kernel_rfl,zBs⟩
 ·exact ⟨of_decide_eq_true (by kernel_rfl),by kernel_rfl,zzH⟩
 ·exact ⟨of_decide_eq_true (by kernel_rfl),by kernel_rfl,zDS⟩
 ·exact ⟨of_decide_eq_true (by kernel_rfl),by kernel_rfl,zBJ⟩
 ·exact ⟨of_decide_eq_true (by kernel_rfl),by kernel_rfl,zui⟩
 ·exact ⟨of_decide_eq_true (by kernel_rfl),by kernel_rfl,zva⟩
 ·exact ⟨of_decide_eq_true (by kernel_rfl),by kernel_rfl,zCu⟩
 ·exact ⟨of_decide_eq_true (by kernel_rfl),by kernel_rfl,zCs⟩
 ·exact ⟨of_decide_eq_true (by kernel_rfl),by kernel_rfl,zBb⟩
 ·exact ⟨of_decide_eq_true (by kernel_rfl),by kernel_rfl,zBm⟩
 ·exact ⟨of_decide_eq_true (by kernel_rfl),by kernel_rfl,zzL⟩
 ·exact ⟨of_decide_eq_true (by kernel_rfl),by kernel_rfl,zzV⟩
 ·exact ⟨of_decide_eq_true (by kernel_rfl),by kernel_rfl,zAp⟩
 ·exact ⟨of_decide_eq_true (by kernel_rfl),by kernel_rfl,zz4⟩
 ·exact ⟨of_decide_eq_true (by kernel_rfl),by kernel_rfl,zCD⟩
 ·exact ⟨of_decide_eq_true (by kernel_rfl),by kernel_rfl,zCF⟩
 ·exact ⟨of_decide_eq_true (by kernel_rfl),by kernel_rfl,zEp⟩
 ·exact ⟨of_decide_eq_true (by kernel_rfl),by kernel_rfl,zA6⟩
 ·exact ⟨of_decide_eq_true (by kernel_rfl),by kernel_rfl,zDQ⟩
 ·exact ⟨of_decide_eq_true (by kernel_rfl),by kernel_rfl,zwf⟩
 ·exact ⟨of_decide_eq_true (by kernel_rfl),by kernel_rfl,zC5⟩
 ·exact ⟨of_decide_eq_true (by kernel_rfl),by kernel_rfl,zBB⟩
 ·exact ⟨of_decide_eq_true (by kernel_rfl),by kernel_rfl,zBq⟩
 ·exact ⟨of_decide_eq_true (by kernel_rfl),by kernel_rfl,zA0⟩
 ·exact ⟨of_decide_eq_true (by kernel_rfl),by kernel_rfl,zv1⟩
 ·exact ⟨of_decide_eq_true (by kernel_rfl),by kernel_rfl,zAw⟩
 ·exact ⟨of_decide_eq_true (by kernel_rfl),by kernel_rfl,zxd⟩
 ·exact ⟨of_decide_eq_true (by kernel_rfl),by kernel_rfl,zrR⟩
 ·exact ⟨of_decide_eq_true (by kernel_rfl),by kernel_rfl,zCI⟩
 ·exact ⟨of_decide_eq_true (by kernel_rfl),by kernel_rfl,zr8⟩
 ·exact ⟨of_decide_eq_true (by kernel_rfl),by kernel_rfl,zu2⟩
 ·exact ⟨of_decide_eq_true (by kernel_rfl),by kernel_rfl,zrV⟩
theorem zJ1:Try.prog.follows .mixedOrders=true:=by kernel_rfl
theorem zJ6:zIg fg=true:=by kernel_rfl
theorem zKe (L d:Nat):zjF Try.prog (zE fg) (evF (zK rows) zHG L d):=zIL zJ1 zJ6 zJt L d
theorem zp8 (L:Nat):FOk (zK rows) L 285 (zf7 yi L) 1:=zG (D:=0) (by kernel_rfl) fun m hm=>⟨zl4,zl5 L,xF,zxb L⟩
theorem zgq (L:Nat):FOk (zK rows) L 269 (zbQ yb L) 1:=zG (D:=0) (by kernel_rfl) fun m hm=>⟨zkZ,zk4 L,xF,zvx L⟩
theorem zus (L:Nat):FOk (zK rows) L 301 (zfY xi L) 2:=zG (D:=1) (by kernel_rfl) fun m hm=>⟨ziN,zis yb L,(zn xF (zgq L m (by omega))),ztN L⟩
theorem zih (L:Nat):FOk (zK rows) L 306 (za3 zs L) 3:=zG (D:=2) (by kernel_rfl) fun m hm=>⟨xB,zC xi L,(zn xF (zus L m (by omega))),zhF L⟩
theorem zg6 (L:Nat):FOk (zK rows) L 300 (zaH yp L) 4:=zG (D:=3) (by kernel_rfl) fun m hm=>⟨zbI,zbL zs L,(zn xF (zih L m (by omega))),zgN L⟩
theorem zgo (L:Nat):FOk (zK rows) L 278 (zc2 xa L) 5:=zG (D:=4) (by kernel_rfl) fun m hm=>⟨zkV,zlb yp L,(zn xF (zg6 L m (by omega))),zvK L⟩
theorem zp3 (L:Nat):FOk (zK rows) L 270 (zep ye L) 6:=zG (D:=5) (by kernel_rfl) fun m hm=>⟨zaY,zaX yi xa L,(zn (zn xF (zp8 L m (by omega))) (zgo L m (by omega))),zwo L⟩
theorem zw5 (L:Nat):FOk (zK rows) L 112 (zno yt L) 1:=zG (D:=0) (by kernel_rfl) fun m hm=>⟨zdf,zdg L,xF,zCJ L⟩
theorem zyC (L:Nat):FOk (zK rows) L 109 (zpy yY L) 2:=zG (D:=1) (by kernel_rfl) fun m hm=>⟨zuT,zut yt L,(zn xF (zw5 L m (by omega))),zDB L⟩
theorem zq7 (L:Nat):FOk (zK rows) L 192 (zhd yF L) 1:=zG (D:=0) (by kernel_rfl) fun m hm=>⟨zbA,zbC L,xF,zxN L⟩
theorem zrL (L:Nat):FOk (zK rows) L 191 (zhp yE L) 1:=zG (D:=0) (by kernel_rfl) fun m hm=>⟨znv,znk L,xF,zxW L⟩
theorem zob (L:Nat):FOk (zK rows) L 157 (zeF xv L) 2:=zG (D:=1) (by kernel_rfl) fun m hm=>⟨zj8,zjN yF yE L,(zn (zn xF (zq7 L m (by omega))) (zrL L m (by omega))),zuq L⟩
theorem zik (L:Nat):FOk (zK rows) L 118 (zcd zc L) 1:=zG (D:=0) (by kernel_rfl) fun m hm=>⟨zeV,zeS L,xF,zpj L⟩
theorem ztu (L:Nat):FOk (zK rows) L 113 (zjU zp L) 2:=zG (D:=1) (by kernel_rfl) fun m hm=>⟨zcf,zch zc L,(zn xF (zik L m (by omega))),zzQ L⟩
theorem zBh (L:Nat):FOk (zK rows) L 111 (zm6 zw L) 3:=zG (D:=2) (by kernel_rfl) fun m hm=>⟨zpY,zpP zp L,(zn xF (ztu L m (by omega))),zAP L⟩
theorem zyn (L:Nat):FOk (zK rows) L 105 (zpu xT L) 4:=zG (D:=3) (by kernel_rfl) fun m hm=>⟨zd8,zd0 yt zw zp L,(zn (zn (zn xF (zw5 L m (by omega))) (zBh L m (by omega))) (ztu L m (by omega))),zDl L⟩
theorem zrh (L:Nat):FOk (zK rows) L 297 (zdZ xG L) 5:=zG (D:=4) (by kernel_rfl) fun m hm=>⟨zfO,zfR yY yb xv xT L,(zn (zn (zn (zn xF (zyC L m (by omega))) (zgq L m (by omega))) (zob L m (by omega))) (zyn L m (by omega))),zqG L⟩
theorem zu9 (L:Nat):FOk (zK rows) L 296 (zgm zi L) 6:=zG (D:=5) (by kernel_rfl) fun m hm=>⟨ziA,ziw xG L,(zn xF (zrh L m (by omega))),ztS L⟩
theorem zwp (L:Nat):FOk (zK rows) L 295 (zhN zT L) 7:=zG (D:=6) (by kernel_rfl) fun m hm=>⟨zaD,zaB zi L,(zn xF (zu9 L m (by omega))),zvH L⟩
theorem zvy (L:Nat):FOk (zK rows) L 205 (zgR yR L) 2:=zG (D:=1) (by kernel_rfl) fun m hm=>⟨zjm,zjx yF yE L,(zn (zn xF (zq7 L m (by omega))) (zrL L m (by omega))),zu1 L⟩
theorem zrD (L:Nat):FOk (zK rows) L 299 (zd1 yG L) 5:=zG (D:=4) (by kernel_rfl) fun m hm=>⟨zfW,zfS yY xv yR xT yb L,(zn (zn (zn (zn (zn xF (zyC L m (by omega))) (zob L m (by omega))) (zvy L m (by omega))) (zyn L m (by omega))) (zgq L m (by omega))),zqg L⟩
theorem zum (L:Nat):FOk (zK rows) L 298 (zgl xh L) 6:=zG (D:=5) (by kernel_rfl) fun m hm=>⟨zix,ziF yG L,(zn xF (zrD L m (by omega))),ztX L⟩
theorem zu4 (L:Nat):FOk (zK rows) L 295 (zf1 zO L) 7:=zG (D:=6) (by kernel_rfl) fun m hm=>⟨zam,zal xh L,(zn xF (zum L m (by omega))),zt8 L⟩
theorem zw8 (L:Nat):FOk (zK rows) L 275 (zh1 xk L) 8:=zG (D:=7) (by kernel_rfl) fun m hm=>⟨zkK,zk6 zT zO L,(zuw (zuw xF (zwp L m (by omega))) (zu4 L m (by omega))),zvN L⟩
theorem zuI (L:Nat):FOk (zK rows) L 277 (zgn zm L) 1:=zG (D:=0) (by kernel_rfl) fun m hm=>⟨ziB,ziM L,xF,zuf L⟩
theorem zyg (L:Nat):FOk (zK rows) L 276 (zjd ym L) 2:=zG (D:=1) (by kernel_rfl) fun m hm=>⟨zbh,zbe zm L,(zn xF (zuI L m (by omega))),zxk L⟩
theorem zvc (L:Nat):FOk (zK rows) L 279 (zgj xl L) 1:=zG (D:=0) (by kernel_rfl) fun m hm=>⟨ziu,ziy L,xF,ztR L⟩
theorem zvS (L:Nat):FOk (zK rows) L 276 (zgP yj L) 2:=zG (D:=1) (by kernel_rfl) fun m hm=>⟨zaM,zaN xl L,(zn xF (zvc L m (by omega))),zuR L⟩
theorem zrv (L:Nat):FOk (zK rows) L 284 (zd7 xD L) 6:=zG (D:=5) (by kernel_rfl) fun m hm=>⟨zay,zax xa L,(zn xF (zgo L m (by omega))),zqA L⟩
theorem zlj (L:Nat):FOk (zK rows) L 266 (zcm za L) 7:=zG (D:=6) (by kernel_rfl) fun m hm=>⟨zhf,zhl xD L,(zn xF (zrv L m (by omega))),zr2 L⟩
theorem zpa (L:Nat):FOk (zK rows) L 263 (zc1 xb L) 9:=zG (D:=8) (by kernel_rfl) fun m hm=>⟨zaC,zaE ye xk ym yj za xa L,(zn (zn (zuw (zuw (zn (zn xF (zp3 L m (by omega))) (zw8 L m (by omega))) (zyg L m (by omega))) (zvS L m (by omega))) (zlj L m (by omega))) (zgo L m (by omega))),zvE L⟩
theorem zkm (L:Nat):FOk (zK rows) L 286 (zbB yz L) 1:=zG (D:=0) (by kernel_rfl) fun m hm=>⟨zcu,zcy L,xF,zjM L⟩
theorem zyR (L:Nat):FOk (zK rows) L 271 (zhk yB L) 7:=zG (D:=6) (by kernel_rfl) fun m hm=>⟨zmL,zne ye yi xa yz L,(zn (zn (zn (zn xF (zp3 L m (by omega))) (zp8 L m (by omega))) (zgo L m (by omega))) (zkm L m (by omega))),zxL L⟩
theorem zBx (L:Nat):FOk (zK rows) L 259 (zfc yc L) 10:=zG (D:=9) (by kernel_rfl) fun m hm=>⟨zpF,zpO xb yB L,(zn (zn xF (zpa L m (by omega))) (zyR L m (by omega))),zz1 L⟩
theorem zEa (L:Nat):FOk (zK rows) L 225 (zgs yd L) 1:=zG (D:=0) (by kernel_rfl) fun m hm=>⟨zsI,zs1 L,xF,zC3 L⟩
theorem zwO (L:Nat):FOk (zK rows) L 247 (zhP xS L) 1:=zG (D:=0) (by kernel_rfl) fun m hm=>⟨zk8,zkS L,xF,zv0 L⟩
theorem zDy (L:Nat):FOk (zK rows) L 217 (zkg zo L) 1:=zG (D:=0) (by kernel_rfl) fun m hm=>⟨zsH,zsR L,xF,zCH L⟩
theorem zjE (L:Nat):FOk (zK rows) L 231 (zbg ya L) 2:=zG (D:=1) (by kernel_rfl) fun m hm=>⟨zkJ,zkR xS zo L,(zn (zn xF (zwO L m (by omega))) (zDy L m (by omega))),zvw L⟩
theorem zC0 (L:Nat):FOk (zK rows) L 236 (zoN zA L) 3:=zG (D:=2) (by kernel_rfl) fun m hm=>⟨zrA,zrK ya L,(zn xF (zjE L m (by omega))),zBA L⟩
theorem zt4 (L:Nat):FOk (zK rows) L 115 (zjl xn L) 1:=zG (D:=0) (by kernel_rfl) fun m hm=>⟨zcg,zcj L,xF,zAm L⟩
theorem zvj (L:Nat):FOk (zK rows) L 110 (zlA zP L) 2:=zG (D:=1) (by kernel_rfl) fun m hm=>⟨zrE,zq4 xn L,(zn xF (zt4 L m (by omega))),zBn L⟩
theorem zrw (L:Nat):FOk (zK rows) L 194 (zg3 xE L) 1:=zG (D:=0) (by kernel_rfl) fun m hm=>⟨zbD,zbE L,xF,zxF L⟩
theorem zrH (L:Nat):FOk (zK rows) L 193 (zhm zF L) 1:=zG (D:=0) (by kernel_rfl) fun m hm=>⟨zm7,znN L,xF,zyl L⟩
theorem zn5 (L:Nat):FOk (zK rows) L 159 (zeL yv L) 2:=zG (D:=1) (by kernel_rfl) fun m hm=>⟨zjs,zj0 xE zF L,(zn (zn xF (zrw L m (by omega))) (zrH L m (by omega))),zuQ L⟩
theorem zvO (L:Nat):FOk (zK rows) L 304 (zgU xQ L) 2:=zG (D:=1) (by kernel_rfl) fun m hm=>⟨zjo,zkd xE zF L,(zn (zn xF (zrw L m (by omega))) (zrH L m (by omega))),zu7 L⟩
theorem zsf (L:Nat):FOk (zK rows) L 116 (zil yl L) 2:=zG (D:=1) (by kernel_rfl) fun m hm=>⟨zoC,zok zc L,(zn xF (zik L m (by omega))),zy2 L⟩
theorem zyM (L:Nat):FOk (zK rows) L 114 (zkr xq L) 3:=zG (D:=2) (by kernel_rfl) fun m hm=>⟨zmS,zmJ yl L,(zn xF (zsf L m (by omega))),zxO L⟩
theorem zvp (L:Nat):FOk (zK rows) L 106 (zlk yL L) 4:=zG (D:=3) (by kernel_rfl) fun m hm=>⟨zcN,zcQ xn xq yl L,(zn (zn (zn xF (zt4 L m (by omega))) (zyM L m (by omega))) (zsf L m (by omega))),zA1 L⟩
theorem znR (L:Nat):FOk (zK rows) L 294 (zeu zj L) 1:=zG (D:=0) (by kernel_rfl) fun m hm=>⟨zoi,zon L,xF,zzr L⟩
theorem zmq (L:Nat):FOk (zK rows) L 290 (zdJ yf L) 5:=zG (D:=4) (by kernel_rfl) fun m hm=>⟨zh3,zhX zP yv xQ yL zj L,(zn (zn (zn (zn (zn xF (zvj L m (by omega))) (zn5 L m (by omega))) (zvO L m (by omega))) (zvp L m (by omega))) (znR L m (by omega))),zti L⟩
theorem zmv (L:Nat):FOk (zK rows) L 305 (zdM zb L) 5:=zG (D:=4) (by kernel_rfl) fun m hm=>⟨zhM,zhK zP zj yv yL L,(zn (zn (zn (zn xF (zvj L m (by omega))) (znR L m (by omega))) (zn5 L m (by omega))) (zvp L m (by omega))),zsD L⟩
theorem zt0 (L:Nat):FOk (zK rows) L 303 (zjG yg L) 1:=zG (D:=0) (by kernel_rfl) fun m hm=>⟨zpQ,zpN L,xF,zAq L⟩
theorem zoF (L:Nat):FOk (zK rows) L 287 (zhj zd L) 2:=zG (D:=1) (by kernel_rfl) fun m hm=>⟨zbW,zbT yg L,(zn xF (zt0 L m (by omega))),zAo L⟩
theorem zzT (L:Nat):FOk (zK rows) L 302 (zlO yo L) 6:=zG (D:=5) (by kernel_rfl) fun m hm=>⟨zbq,zbr yf zb zd L,(zn (zn (zn xF (zmq L m (by omega))) (zmv L m (by omega))) (zoF L m (by omega))),zzn L⟩
theorem zsu (L:Nat):FOk (zK rows) L 281 (zfX yu L) 7:=zG (D:=6) (by kernel_rfl) fun m hm=>⟨zbv,zbz yo zd L,(zn (zn xF (zzT L m (by omega))) (zoF L m (by omega))),zyO L⟩
theorem zqZ (L:Nat):FOk (zK rows) L 288 (zhc zg L) 1:=zG (D:=0) (by kernel_rfl) fun m hm=>⟨znz,znB L,xF,zxY L⟩
theorem zru (L:Nat):FOk (zK rows) L 289 (zhn zf L) 1:=zG (D:=0) (by kernel_rfl) fun m hm=>⟨zm4,zmQ L,xF,zxI L⟩
theorem zlV (L:Nat):FOk (zK rows) L 291 (ze5 xe L) 1:=zG (D:=0) (by kernel_rfl) fun m hm=>⟨xV,zX L,xF,zyb L⟩
theorem zq1 (L:Nat):FOk (zK rows) L 292 (zg8 ze L) 2:=zG (D:=1) (by kernel_rfl) fun m hm=>⟨znp,zmY xe L,(zn xF (zlV L m (by omega))),zx0 L⟩
theorem zyX (L:Nat):FOk (zK rows) L 287 (zkt yh L) 2:=zG (D:=1) (by kernel_rfl) fun m hm=>⟨za9,zba yg L,(zn xF (zt0 L m (by omega))),zx1 L⟩
theorem ztr (L:Nat):FOk (zK rows) L 293 (zjn xA L) 6:=zG (D:=5) (by kernel_rfl) fun m hm=>⟨yU,zU zg yh zb xe ze zf L,(zn (zn (zn (zn (zn (zn xF (zqZ L m (by omega))) (zyX L m (by omega))) (zmv L m (by omega))) (zlV L m (by omega))) (zq1 L m (by omega))) (zru L m (by omega))),zzN L⟩
theorem zBG (L:Nat):FOk (zK rows) L 272 (znu zy L) 8:=zG (D:=7) (by kernel_rfl) fun m hm=>⟨zpG,zpI yu zd zg zf yf xe ze zj xA L,(zn (zn (zn (zn (zn (zn (zn (zn (zn xF (zsu L m (by omega))) (zoF L m (by omega))) (zqZ L m (by omega))) (zru L m (by omega))) (zmq L m (by omega))) (zlV L m (by omega))) (zq1 L m (by omega))) (znR L m (by omega))) (ztr L m (by omega))),zAT L⟩
theorem zCv (L:Nat):FOk (zK rows) L 262 (zir xf L) 3:=zG (D:=2) (by kernel_rfl) fun m hm=>⟨zrj,zrd ya L,(zn xF (zjE L m (by omega))),zBz L⟩
theorem zAg (L:Nat):FOk (zK rows) L 273 (zlJ zu L) 8:=zG (D:=7) (by kernel_rfl) fun m hm=>⟨zoy,zol yu xA L,(zn (zn xF (zsu L m (by omega))) (ztr L m (by omega))),zy0 L⟩
theorem zC2 (L:Nat):FOk (zK rows) L 260 (zgx xd L) 9:=zG (D:=8) (by kernel_rfl) fun m hm=>⟨zcM,zcK zA ya zy xf zu L,(zn (zn (zn (zn (zn xF (zC0 L m (by omega))) (zjE L m (by omega))) (zBG L m (by omega))) (zCv L m (by omega))) (zAg L m (by omega))),zA5 L⟩
theorem zuh (L:Nat):FOk (zK rows) L 257 (ziK zcJ L) 11:=zG (D:=10) (by kernel_rfl) fun m hm=>⟨zad,zaa yc yd xd za xb yb L,(zn (zn (zn (zn (zn (zn xF (zBx L m (by omega))) (zEa L m (by omega))) (zC2 L m (by omega))) (zlj L m (by omega))) (zpa L m (by omega))) (zgq L m (by omega))),zsJ L⟩
end
section
set_option linter.unusedVariables false
set_option maxRecDepth 100000
variable {β:Type}
def ziQ (m:Int) (i:Nat):List Int→Int
 | []=>m
 | b::bs=>ziQ (ior .u64 m (zrq .u64 (IntKind.wrap .u64 b) (IntKind.wrap .i64 (8 * (i:Int))))) (i+1) bs
theorem zvm (L:Nat) (kx:Int→Option β) (l:List Int) (hl:l.length≤1000000):∀ (n:Nat) (m:Int) (i:Nat),i≤l.length→l.length - i < n→zf2 L kx n m (zaO .u8 l) (l.length:Int) (i:Int)=kx (ziQ m i (l.drop i))
 | 0,m,i,hi,hn=>by omega
 | n+1,m,i,hi,hn=>by
  simp only [zf2,znx,yx]
  by_cases h:i < l.length
  ·rw [zaQ (by omega),zaZ (zy7 _ h),xI (by rfl),xc (by rw [y7 (by omega) (by omega)]; omega)]
   rw [show IntKind.wrap .i64 ((i:Int)+1)=((i+1:Nat):Int) by rw [y7 (by omega) (by omega)]; omega]
   rw [zvm L kx l hl n _ (i+1) (by omega) (by omega),List.drop_eq_getElem_cons h]
   rfl
  ·rw [za6 (by omega),List.drop_of_length_le (by omega)]
   rfl
theorem zuJ (L:Nat) (l:List Int) (hl:l.length≤1000000) (hL:l.length < L) (k:Int→Option β):yt β L (zaO .u8 l) k=k (ziQ 0 0 l):=by
 simp only [yt,zqx,zuW,zew]
 exact zvm L _ l hl L 0 0 (by omega) (by omega)
theorem zvu (L:Nat) (kx:Int→Option β) (l:List Int) (hl:l.length≤1000000):∀ (n:Nat) (m:Int) (i:Nat),i≤l.length→l.length - i < n→zeN L kx n (zaO .u8 l) m (l.length:Int) (i:Int)=kx (ziQ m i (l.drop i))
 | 0,m,i,hi,hn=>by omega
 | n+1,m,i,hi,hn=>by
  simp only [zeN,zk5,yx]
  by_cases h:i < l.length
  ·rw [zaQ (by omega),zaZ (zy7 _ h),xI (by rfl),xc (by rw [y7 (by omega) (by omega)]; omega)]
   rw [show IntKind.wrap .i64 ((i:Int)+1)=((i+1:Nat):Int) by rw [y7 (by omega) (by omega)]; omega]
   rw [zvu L kx l hl n _ (i+1) (by omega) (by omega),List.drop_eq_getElem_cons h]
   rfl
  ·rw [za6 (by omega),List.drop_of_length_le (by omega)]
   rfl
theorem zuY (L:Nat) (l:List Int) (hl:l.length≤1000000) (hL:l.length < L) (k:Int→Option β):xn β L (zaO .u8 l) k=k (ziQ 0 0 l):=by
 simp only [xn,zmU,zqS,zew]
 exact zvu L _ l hl L 0 0 (by omega) (by omega)
theorem zAI (L:Nat) (hL:8 < L) (l:List Int) (h:l.length=32) (k:List V→Option β):yY β L (row .u8 l) k=k (row .u64 [ziQ 0 0 (l.take 8),ziQ 0 0 ((l.drop 8).take 8)])∧zP β L (row .u8 l) k=k (row .u64 [ziQ 0 0 (l.take 8),ziQ 0 0 ((l.drop 8).take 8)]):=by
 constructor
 ·simp only [yY,zwD,yx,zcl,h,zDN]
  rw [xc (by decide),zmO _ _ _ (by omega),zuJ _ _ (by simp; omega) (by simp; omega),xc (by decide),zmO _ _ _ (by simp; omega),zuJ _ _ (by simp; omega) (by simp; omega),xc (by simp)]
  rfl
 ·simp only [zP,zth,yx,zcl,h,zDN]
  rw [xc (by decide),zmO _ _ _ (by omega),zuY _ _ (by simp; omega) (by simp; omega),xc (by decide),zmO _ _ _ (by simp; omega),zuY _ _ (by simp; omega) (by simp; omega),xc (by simp)]
  rfl
end
end Go.Proofs.Ytpafdnidhnldhaa
