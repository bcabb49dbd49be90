/- Part 11 of the proof of ConnectSpreads: an abstract machine over plain values, its soundness, and the functions of the program on plain values. -/
import Derived.Test.YtpafdnidhnldhaaMConnectSpreads10
namespace Go.Proofs.Ytpafdnidhnldhaa
section
set_option maxRecDepth 100000
set_option linter.unusedVariables false
set_option linter.unusedSimpArgs false
def zp0:CC:=(.seq (.seq (.reg [oo 24 (.move (tq 9) false),
   oo 25 (.move (tq 7) false),
   oo 26 (.lenS (tq 25)),
   oo 27 (.bin .lss (tq 24) (tq 26))])
 (.cond (tq 27)
 .skip
 (.seq (.mask (bl 256 47) (bl 87892143635959 47))
 (.exit 1))))
 (.seq (.block 2 (.seq (.reg [oo 30 (.move (tq 1) false),
   oo 31 (.move (tq 7) false),
   oo 32 (.move (tq 9) false),
   oo 33 (.indexAddrS 5 (tq 31) (tq 32)),
   oo 34 (.fieldAddr 1 (tq 33)),
   oo 35 (.load true 3 (tq 34) false),
   oo 36 (.call 283 [((tq 30),0),((tq 35),0)] []),
   oo 37 (.un .not (tq 36))])
 (.cond (tq 37)
 (.reg [oo 38 (.move (tq 8) true),
   oo 39 (.move (tq 7) false),
   oo 40 (.move (tq 9) false),
   oo 41 (.indexAddrS 5 (tq 39) (tq 40)),
   oo 42 (.fieldAddr 1 (tq 41)),
   oo 43 (.load true 3 (tq 42) false),
   oo 44 (.buildSlice 3 1 [(.sc (.int .u32 0)),(.sc (.int .u16 0)),(.sc (.int .u32 0))] [(0,3,(tq 43))]),
   oo 45 (.append 3 12 (tq 38) (tq 44)),
   oo 8 (.move (tq 45) true)])
 .skip)))
 (.reg [oo 28 (.move (tq 9) false),
   oo 29 (.bin .add (tq 28) (.const (.sc (.int .i64 1)))),
   oo 9 (.move (tq 29) false)])))
def zsA:CC:=(.seq (.reg [oo 46 (.move (tq 8) true),
   oo 6 (.move (tq 46) true)])
 .ret)
def zoq:CF:=⟨47,[.tmp 6],
 (.seq (.reg [oo 3 (.box true (tq 0)),
   oo 6 (.move (.const (.gs 3 [])) true)])
 (.seq (.reg [oo 7 (.move (.const (.gs 5 [])) true)])
 (.seq (.seq (.reg [oo 10 (.move (tq 2) false)])
 (.block 0 (.seq (.reg [oo 12 (.bin .eql (tq 10) (.const (.sc (.int .i64 2)))),
   oo 11 (.move (tq 12) false)])
 (.cond (tq 11)
 (.dreg [] [(oo 13 (.buildSlice 5 0 [(.sc (.int .i64 0)),(.sc (.int .u32 0)),(.sc (.int .u16 0)),(.sc (.int .u32 0)),(.sc (.int .u32 0))] []),qn [3] []),
   (oo 14 (.fieldAddr 33 (tq 3)),q0),
   (oo 15 (.load false 1 (tq 14) false),ql 3 [] [13]),
   (oo 16 (.append 5 24 (tq 13) (tq 15)),qn [3] []),
   (oo 17 (.fieldAddr 32 (tq 3)),q0),
   (oo 18 (.load false 1 (tq 17) false),ql 3 [] [13,16]),
   (oo 19 (.append 5 24 (tq 16) (tq 18)),q0),
   (oo 7 (.move (tq 19) false),q0)])
 (.seq (.reg [oo 21 (.bin .eql (tq 10) (.const (.sc (.int .i64 3)))),
   oo 20 (.move (tq 21) false)])
 (.cond (tq 20)
 (.reg [oo 22 (.fieldAddr 32 (tq 3)),
   oo 23 (.load false 1 (tq 22) false),
   oo 7 (.move (tq 23) false)])
 .skip))))))
 (.seq (.reg [oo 8 (.move (.const (.gs 3 [])) true)])
 (.seq (.seq (.reg [oo 9 (.move (.const (.sc (.int .i64 0))) false)])
 (.block 1 (.loop (bl 898 47) (bl 87892143636471 47)
 zp0)))
 zsA)))))⟩
def zmx:Hint:=⟨[(0,0),(0,1),(1,0),(7,0),(12,0),(12,8),(13,0),(13,1)],[],[none,none,none,none,some ((bl 898 47),(bl 87892143636471 47)),none,some ((bl 256 47),(bl 87892143635959 47)),none,none,none],[],[],false,false⟩
def zGI:Nat→Sh:=xP [(15,(.sl 5)),(18,(.sl 5)),(23,(.sl 5))]
def zGJ (yo:xO) (L:Nat):CBC:=(zx 283 (zp1 yo L) noC)
def zDx:St→St:=zaj 0 (bl 898 47) (bl 87892143636471 47)
def zB1 (p1 p7 p8:List (List V)) (p9:Int):St:=⟨(jn 1 ((V.sl 4 p1)::(jn 5 ((V.sl 5 p7)::((V.gs 3 p8)::((V.sc (.int .i64 p9))::(jn 37 []))))))),(gn 47 [])⟩
def zAo (p1 p7 p8:List (List V)) (p9:Int):St:=⟨(jn 1 ((V.sl 4 p1)::(jn 5 ((V.gs 5 p7)::((V.gs 3 p8)::((V.sc (.int .i64 p9))::(jn 37 []))))))),(gn 47 [])⟩
def zFd (p8:List (List V)):St:=⟨(jn 8 ((V.gs 3 p8)::(jn 38 []))),(gn 47 [])⟩
abbrev ziL (β:Type):Type:=List (List V)→List (List V)→List (List V)→Int→Option β
abbrev zhF (β:Type):Type:=List (List V)→List (List V)→List (List V)→Int→Option β
def zw2 {β:Type} (yo:xO) (L:Nat) (p0:List V) (p1:List (List V)) (p2:Int) (k_hbbbbaba:ziL β) (k_hbbbbabav1:zhF β):Option β :=
 ifb ((p2:Int) == (2:Int)) (
 cLd 5 p0 33 fun v0 =>
 chk ((List.length ([]:List (List V))+List.length v0) * 24≤zt∧List.length ([]:List (List V))+List.length v0≤zt) (
 lt (([]:List (List V))++v0) fun l1 =>
 cLd 5 p0 32 fun v2 =>
 chk ((List.length l1+List.length v2) * 24≤zt∧List.length l1+List.length v2≤zt) (
 lt (l1++v2) fun l3 =>
 k_hbbbbaba p1 l3 ([]:List (List V)) (0:Int)))) (
 ifb ((p2:Int) == (3:Int)) (
 cLd 5 p0 32 fun v4 =>
 k_hbbbbaba p1 v4 ([]:List (List V)) (0:Int)) (
 k_hbbbbabav1 p1 ([]:List (List V)) ([]:List (List V)) (0:Int)))
def zqJ {β:Type} (yo:xO) (L:Nat) (p1 p7 p8:List (List V)) (p9:Int) (k_hbbbbaba:ziL β) (k_x1:List (List V)→Option β):Option β :=
 ifb (decide (p9 < ((List.length p7:Nat):Int))) (
 idx p7 p9 fun c5 =>
 yo β L p1 (List.take 3 (List.drop 1 c5)) (fun v6 =>
 ifb (!v6) (
 idx p7 p9 fun c7 =>
 chk ((List.length (List.take 3 (List.drop 1 c7)))=3∧0+3≤3) (
 chk ((List.length p8+List.length (zl 3 1 (zh [(V.sc (.int .u32 (0:Int))),(V.sc (.int .u16 (0:Int))),(V.sc (.int .u32 (0:Int)))] 0 (List.take 3 (List.drop 1 c7))))) * 12≤zt∧List.length p8+List.length (zl 3 1 (zh [(V.sc (.int .u32 (0:Int))),(V.sc (.int .u16 (0:Int))),(V.sc (.int .u32 (0:Int)))] 0 (List.take 3 (List.drop 1 c7))))≤zt) (
 lt (p8++(zl 3 1 (zh [(V.sc (.int .u32 (0:Int))),(V.sc (.int .u16 (0:Int))),(V.sc (.int .u32 (0:Int)))] 0 (List.take 3 (List.drop 1 c7))))) fun l8 =>
 lt (IntKind.wrap .i64 ((p9:Int)+(1:Int))) fun x9 =>
 k_hbbbbaba p1 p7 l8 x9))) (
 lt (IntKind.wrap .i64 ((p9:Int)+(1:Int))) fun x10 =>
 k_hbbbbaba p1 p7 p8 x10))) (
 k_x1 p8)
def zps {β:Type} (yo:xO) (L:Nat) (p1 p7 p8:List (List V)) (p9:Int) (k_hbbbbabav1:zhF β) (k_x1:List (List V)→Option β):Option β :=
 ifb (decide (p9 < ((List.length p7:Nat):Int))) (
 idx p7 p9 fun c11 =>
 yo β L p1 (List.take 3 (List.drop 1 c11)) (fun v12 =>
 ifb (!v12) (
 idx p7 p9 fun c13 =>
 chk ((List.length (List.take 3 (List.drop 1 c13)))=3∧0+3≤3) (
 chk ((List.length p8+List.length (zl 3 1 (zh [(V.sc (.int .u32 (0:Int))),(V.sc (.int .u16 (0:Int))),(V.sc (.int .u32 (0:Int)))] 0 (List.take 3 (List.drop 1 c13))))) * 12≤zt∧List.length p8+List.length (zl 3 1 (zh [(V.sc (.int .u32 (0:Int))),(V.sc (.int .u16 (0:Int))),(V.sc (.int .u32 (0:Int)))] 0 (List.take 3 (List.drop 1 c13))))≤zt) (
 lt (p8++(zl 3 1 (zh [(V.sc (.int .u32 (0:Int))),(V.sc (.int .u16 (0:Int))),(V.sc (.int .u32 (0:Int)))] 0 (List.take 3 (List.drop 1 c13))))) fun l14 =>
 lt (IntKind.wrap .i64 ((p9:Int)+(1:Int))) fun x15 =>
 k_hbbbbabav1 p1 p7 l14 x15))) (
 lt (IntKind.wrap .i64 ((p9:Int)+(1:Int))) fun x16 =>
 k_hbbbbabav1 p1 p7 p8 x16))) (
 k_x1 p8)
def zpx {β:Type} (yo:xO) (L:Nat) (p8:List (List V)) (k_fin:List (List V)→Option β):Option β :=
 k_fin p8
def zof {β:Type} (yo:xO) (L:Nat) (p8:List (List V)) (k_fin:List (List V)→Option β):Option β :=
 k_fin p8
def zjj {β:Type} (yo:xO) (L:Nat) (k_x1:List (List V)→Option β):Nat→List (List V)→List (List V)→List (List V)→Int→Option β
 | 0,_,_,_,_=>none
 | n+1,p1,p7,p8,p9=>zqJ yo L p1 p7 p8 p9 (fun p1 p7 p8 p9=>zjj yo L k_x1 n p1 p7 p8 p9) k_x1
def zhU {β:Type} (yo:xO) (L:Nat) (k_x1:List (List V)→Option β):Nat→List (List V)→List (List V)→List (List V)→Int→Option β
 | 0,_,_,_,_=>none
 | n+1,p1,p7,p8,p9=>zps yo L p1 p7 p8 p9 (fun p1 p7 p8 p9=>zhU yo L k_x1 n p1 p7 p8 p9) k_x1
def zwK {β:Type} (yo:xO) (L:Nat) (p0:List V) (p1:List (List V)) (p2:Int) (k_fin:List (List V)→Option β):Option β :=
 zw2 yo L p0 p1 p2 (fun p1 p7 p8 p9=>zjj yo L (fun p8=>zpx yo L p8 k_fin) L p1 p7 p8 p9) (fun p1 p7 p8 p9=>zhU yo L (fun p8=>zof yo L p8 k_fin) L p1 p7 p8 p9)
abbrev xD:=∀ (β:Type),Nat→List V→List (List V)→Int→(List (List V)→Option β)→Option β
def yh (β:Type) (L:Nat) (p0:List V) (p1:List (List V)) (p2:Int) (k_fin:List (List V)→Option β):Option β:=zwK yo L p0 p1 p2 k_fin
def zpR (yh:xD) (L:Nat) (β:Type) (args:List V) (bor:Bor) (k:KK β):Option β:=match args,bor with
 | [a0,a1,a2],[]=>aG a0 fun p0=>aL 4 a1 fun p1=>aI .i64 a2 fun p2=>yh β L p0 p1 p2 (fun p0=>k (V.gs 3 p0) [])
 | _,_=>none
def ztl:CC:=(.seq (.seq (.reg [oo 28 (.move (tq 11) false),
   oo 29 (.move (tq 1) false),
   oo 30 (.lenS (tq 29)),
   oo 31 (.bin .lss (tq 28) (tq 30)),
   oo 32 (.move (tq 31) false),
   ⟨(some 33),false,(some (32,true)),.move (tq 2) false⟩,
   ⟨(some 34),false,(some (32,true)),.call 282 [((tq 33),0),((.const (.sc (.int .i64 1))),0)] []⟩,
   ⟨(some 35),false,(some (32,true)),.bin .lss (tq 34) (.const (.sc (.int .i64 2)))⟩,
   oo 36 (.pick (tq 32) (tq 35) (.const (.sc (.bool false)))),
   oo 37 (.move (tq 36) false),
   ⟨(some 38),false,(some (37,true)),.move (tq 2) false⟩,
   ⟨(some 39),false,(some (37,true)),.lenS (tq 38)⟩,
   ⟨(some 40),false,(some (37,true)),.bin .lss (tq 39) (.const (.sc (.int .i64 8)))⟩,
   oo 41 (.pick (tq 37) (tq 40) (.const (.sc (.bool false))))])
 (.cond (tq 41)
 .skip
 (.seq (.mask (bl 1308 88) (bl 309485009820781550761932287 88))
 (.exit 0))))
 (.seq (.block 1 (.seq (.reg [oo 44 (.move (tq 2) false),
   oo 45 (.move (tq 1) false),
   oo 46 (.move (tq 11) false),
   oo 47 (.indexAddrS 3 (tq 45) (tq 46)),
   oo 48 (.load true 3 (tq 47) false),
   oo 49 (.call 283 [((tq 44),0),((tq 48),0)] []),
   oo 50 (.un .not (tq 49))])
 (.cond (tq 50)
 (.seq (.reg [oo 51 (.move (tq 1) false),
   oo 52 (.move (tq 11) false),
   oo 53 (.indexAddrS 3 (tq 51) (tq 52)),
   oo 54 (.load true 3 (tq 53) false),
   oo 55 (.build [(.sc (.int .i64 0)),(.sc (.int .u32 0)),(.sc (.int .u16 0)),(.sc (.int .u32 0))] [(0,1,(.const (.sc (.int .i64 1)))),(1,3,(tq 54))]),
   oz (.store 4 (tq 8) (tq 55)),
   oo 9 (.move (.const (.sc (.int .i64 0))) false)])
 (.seq (.mask (bl 768 88) (bl 309485009820781550761932783 88))
 .ret))
 .skip)))
 (.reg [oo 42 (.move (tq 11) false),
   oo 43 (.bin .add (tq 42) (.const (.sc (.int .i64 1)))),
   oo 11 (.move (tq 43) false)])))
def zwc:CC:=(.seq (.seq (.reg [oo 56 (.move (tq 2) false),
   oo 57 (.lenS (tq 56)),
   oo 58 (.bin .geq (tq 57) (.const (.sc (.int .i64 8)))),
   oo 59 (.move (tq 58) false),
   ⟨(some 60),false,(some (59,false)),.move (tq 10) false⟩,
   ⟨(some 61),false,(some (59,false)),.bin .eql (tq 60) (.const (.sc (.int .i64 3)))⟩,
   ⟨(some 62),false,(some (59,false)),.move (tq 61) false⟩,
   ⟨(some 63),false,(some (62,true)),.move (tq 2) false⟩,
   ⟨(some 64),false,(some (62,true)),.call 282 [((tq 63),0),((.const (.sc (.int .i64 3))),0)] []⟩,
   ⟨(some 65),false,(some (62,true)),.bin .gtr (tq 64) (.const (.sc (.int .i64 0)))⟩,
   ⟨(some 66),false,(some (59,false)),.pick (tq 62) (tq 65) (.const (.sc (.bool false)))⟩,
   oo 67 (.pick (tq 59) (.const (.sc (.bool true))) (tq 66))])
 (.cond (tq 67)
 (.seq (.reg [oo 68 (.build [(.sc (.int .i64 0)),(.sc (.int .u32 0)),(.sc (.int .u16 0)),(.sc (.int .u32 0))] []),
   oz (.store 4 (tq 8) (tq 68)),
   oo 9 (.move (.const (.sc (.int .i64 380))) false)])
 .ret)
 .skip))
 (.seq (.reg [oo 69 (.load true 34 (tq 4) false),
   oo 70 (.move (tq 2) false),
   oo 71 (.move (tq 10) false),
   oo 72 (.call 267 [((tq 69),1),((tq 70),0),((tq 71),0)] []),
   oo 12 (.move (tq 72) false)])
 (.seq (.seq (.reg [oo 73 (.move (tq 12) false),
   oo 74 (.lenS (tq 73)),
   oo 75 (.bin .eql (tq 74) (.const (.sc (.int .i64 0))))])
 (.cond (tq 75)
 (.seq (.reg [oo 76 (.build [(.sc (.int .i64 0)),(.sc (.int .u32 0)),(.sc (.int .u16 0)),(.sc (.int .u32 0))] []),
   oz (.store 4 (tq 8) (tq 76)),
   oo 9 (.move (.const (.sc (.int .i64 390))) false)])
 .ret)
 .skip))
 (.seq (.reg [oo 77 (.move (tq 10) false),
   oo 78 (.move (tq 12) false),
   oo 79 (.move (tq 3) false),
   oo 80 (.move (tq 12) false),
   oo 81 (.lenS (tq 80)),
   oo 82 (.conv .u64 (tq 81)),
   oo 83 (.bin .rem (tq 79) (tq 82)),
   oo 84 (.conv .i64 (tq 83)),
   oo 85 (.indexAddrS 3 (tq 78) (tq 84)),
   oo 86 (.load true 3 (tq 85) false),
   oo 87 (.build [(.sc (.int .i64 0)),(.sc (.int .u32 0)),(.sc (.int .u16 0)),(.sc (.int .u32 0))] [(0,1,(tq 77)),(1,3,(tq 86))]),
   oz (.store 4 (tq 8) (tq 87)),
   oo 9 (.move (.const (.sc (.int .i64 0))) false)])
 .ret))))
def zsI:CF:=⟨88,[.cell 8 true 4,.tmp 9],
 (.seq (.reg [oo 4 (.box true (tq 0)),
   oo 8 (.alloc true [(.sc (.int .i64 0)),(.sc (.int .u32 0)),(.sc (.int .u16 0)),(.sc (.int .u32 0))]),
   oo 9 (.move (.const (.sc (.int .i64 0))) false)])
 (.seq (.seq (.reg [oo 13 (.move (tq 2) false),
   oo 14 (.call 280 [((tq 13),0)] []),
   oo 15 (.un .not (tq 14)),
   oo 16 (.move (tq 15) false),
   ⟨(some 17),false,(some (16,false)),.load true 34 (tq 4) false⟩,
   ⟨(some 18),false,(some (16,false)),.call 281 [((tq 17),1)] []⟩,
   ⟨(some 19),false,(some (16,false)),.un .not (tq 18)⟩,
   oo 20 (.pick (tq 16) (.const (.sc (.bool true))) (tq 19))])
 (.cond (tq 20)
 (.seq (.reg [oo 21 (.build [(.sc (.int .i64 0)),(.sc (.int .u32 0)),(.sc (.int .u16 0)),(.sc (.int .u32 0))] []),
   oz (.store 4 (tq 8) (tq 21)),
   oo 9 (.move (.const (.sc (.int .i64 6))) false)])
 .ret)
 .skip))
 (.seq (.reg [oo 10 (.move (.const (.sc (.int .i64 3))) false)])
 (.seq (.seq (.reg [oo 22 (.move (tq 2) false),
   oo 23 (.lenS (tq 22)),
   oo 24 (.move (tq 2) false),
   oo 25 (.call 282 [((tq 24),0),((.const (.sc (.int .i64 3))),0)] []),
   oo 26 (.bin .sub (tq 23) (tq 25)),
   oo 27 (.bin .lss (tq 26) (.const (.sc (.int .i64 7))))])
 (.cond (tq 27)
 (.reg [oo 10 (.move (.const (.sc (.int .i64 2))) false)])
 .skip))
 (.seq (.seq (.reg [oo 11 (.move (.const (.sc (.int .i64 0))) false)])
 (.block 0 (.loop (bl 3358 88) (bl 309485009820781550761934335 88)
 ztl)))
 zwc)))))⟩
def zqq:Hint:=⟨[(0,0)],[],[none,none,none,none,some ((bl 3358 88),(bl 309485009820781550761934335 88)),none,some ((bl 1308 88),(bl 309485009820781550761932287 88)),none,none,some ((bl 768 88),(bl 309485009820781550761932783 88)),none,none,none,none,none],[],[],false,false⟩
def zIS:Nat→Sh:=xP []
def zI0 (zae:zdT) (xw:za8) (xV:zdR) (yo:xO) (yh:xD) (L:Nat):CBC:=(zx 267 (zpR yh L) (zx 283 (zp1 yo L) (zx 282 (zDa xV L) (zx 281 (zgk xw L) (zx 280 (zDc zae L) noC)))))
def zFp:St→St:=zaj 0 (bl 3358 88) (bl 309485009820781550761934335 88)
def zDK (p1 p2:List (List V)) (p3 p10 p11:Int) (b4:List V) (zK1 zK2 zK3 zK4:Int):St:=⟨(jn 1 ((V.sl 3 p1)::((V.sl 4 p2)::((V.sc (.int .u64 p3))::((V.ptr 4 0)::(jn 3 ((V.ptr 8 0)::(jn 1 ((V.sc (.int .i64 p10))::((V.sc (.int .i64 p11))::(jn 76 []))))))))))),(gn 4 ((.live true b4)::(gn 3 ((.live true [(V.sc (.int .i64 zK1)),(V.sc (.int .u32 zK2)),(V.sc (.int .u16 zK3)),(V.sc (.int .u32 zK4))])::(gn 79 [])))))⟩
def zGK (p9:Int) (b8:List V):St:=⟨(jn 8 ((V.ptr 8 0)::((V.sc (.int .i64 p9))::(jn 78 [])))),(gn 8 ((.live true b8)::(gn 79 [])))⟩
def zHi (p2:List (List V)) (p3 p10:Int) (b4:List V) (zK1 zK2 zK3 zK4:Int):St:=⟨(jn 2 ((V.sl 4 p2)::((V.sc (.int .u64 p3))::((V.ptr 4 0)::(jn 3 ((V.ptr 8 0)::(jn 1 ((V.sc (.int .i64 p10))::(jn 77 []))))))))),(gn 4 ((.live true b4)::(gn 3 ((.live true [(V.sc (.int .i64 zK1)),(V.sc (.int .u32 zK2)),(V.sc (.int .u16 zK3)),(V.sc (.int .u32 zK4))])::(gn 79 [])))))⟩
abbrev zlM (β:Type):Type:=List (List V)→List (List V)→Int→Int→Int→List V→Int→Int→Int→Int→Option β
abbrev zrU (β:Type):Type:=List (List V)→Int→Int→List V→Int→Int→Int→Int→Option β
def zBs {β:Type} (zae:zdT) (xw:za8) (xV:zdR) (yo:xO) (yh:xD) (L:Nat) (p0:List V) (p1 p2:List (List V)) (p3:Int) (k_fin:List V→Int→Option β) (k_hbbbbaba:zlM β):Option β :=
 zae β L p2 (fun v0 =>
 ifb (!v0) (
 lt [(V.sc (.int .i64 (0:Int))),(V.sc (.int .u32 (0:Int))),(V.sc (.int .u16 (0:Int))),(V.sc (.int .u32 (0:Int)))] fun r1 =>
 chk (0=0∧(List.length r1)=4∧4≠0) (
 k_fin r1 (6:Int))) (
 chk (0+34≤(List.length p0)) (
 xw β L (List.map V.dem (List.take 34 p0)) (fun v2 =>
 ifb (!v2) (
 lt [(V.sc (.int .i64 (0:Int))),(V.sc (.int .u32 (0:Int))),(V.sc (.int .u16 (0:Int))),(V.sc (.int .u32 (0:Int)))] fun r3 =>
 chk (0=0∧(List.length r3)=4∧4≠0) (
 k_fin r3 (6:Int))) (
 xV β L p2 (3:Int) (fun v4 =>
 lt (IntKind.wrap .i64 ((((List.length p2:Nat):Int):Int) - v4)) fun x5 =>
 ifb (decide (x5 < (7:Int))) (
 k_hbbbbaba p1 p2 p3 (2:Int) (0:Int) p0 (0:Int) (0:Int) (0:Int) (0:Int)) (
 k_hbbbbaba p1 p2 p3 (3:Int) (0:Int) p0 (0:Int) (0:Int) (0:Int) (0:Int))))))))
def zt2 {β:Type} (zae:zdT) (xw:za8) (xV:zdR) (yo:xO) (yh:xD) (L:Nat) (p1 p2:List (List V)) (p3 p10 p11:Int) (b4:List V) (zK1 zK2 zK3 zK4:Int) (k_ret:Int→List V→Option β) (k_hbbbbaba:zlM β) (k_x0:zrU β):Option β :=
 ifb (decide (p11 < ((List.length p1:Nat):Int))) (
 xV β L p2 (1:Int) (fun v6 =>
 ifb (decide (v6 < (2:Int))) (
 ifb (decide (((List.length p2:Nat):Int) < (8:Int))) (
 idx p1 p11 fun c7 =>
 yo β L p2 (List.take 3 c7) (fun v8 =>
 ifb (!v8) (
 idx p1 p11 fun c9 =>
 chk ((List.length (List.take 3 c9))=3∧1+3≤4) (
 chk ((List.length (zh [(V.sc (.int .i64 (1:Int))),(V.sc (.int .u32 (0:Int))),(V.sc (.int .u16 (0:Int))),(V.sc (.int .u32 (0:Int)))] 1 (List.take 3 c9)))=4∧0+4≤4) (
 lt (zh [(V.sc (.int .i64 zK1)),(V.sc (.int .u32 zK2)),(V.sc (.int .u16 zK3)),(V.sc (.int .u32 zK4))] 0 (zh [(V.sc (.int .i64 (1:Int))),(V.sc (.int .u32 (0:Int))),(V.sc (.int .u16 (0:Int))),(V.sc (.int .u32 (0:Int)))] 1 (List.take 3 c9))) fun r10 =>
 k_ret (0:Int) r10))) (
 lt (IntKind.wrap .i64 ((p11:Int)+(1:Int))) fun x11 =>
 k_hbbbbaba p1 p2 p3 p10 x11 b4 zK1 zK2 zK3 zK4))) (
 k_x0 p2 p3 p10 b4 zK1 zK2 zK3 zK4)) (
 k_x0 p2 p3 p10 b4 zK1 zK2 zK3 zK4))) (
 k_x0 p2 p3 p10 b4 zK1 zK2 zK3 zK4)
def zrX {β:Type} (zae:zdT) (xw:za8) (xV:zdR) (yo:xO) (yh:xD) (L:Nat) (p9:Int) (b8:List V) (k_fin:List V→Int→Option β):Option β :=
 chk (0=0∧(List.length b8)=4∧4≠0) (
 k_fin b8 p9)
def zsz {β:Type} (zae:zdT) (xw:za8) (xV:zdR) (yo:xO) (yh:xD) (L:Nat) (p2:List (List V)) (p3 p10:Int) (b4:List V) (zK1 zK2 zK3 zK4:Int) (k_fin:List V→Int→Option β):Option β :=
 ifb (decide (((List.length p2:Nat):Int) ≥ (8:Int))) (
 lt [(V.sc (.int .i64 (0:Int))),(V.sc (.int .u32 (0:Int))),(V.sc (.int .u16 (0:Int))),(V.sc (.int .u32 (0:Int)))] fun r12 =>
 chk (0=0∧(List.length r12)=4∧4≠0) (
 k_fin r12 (380:Int))) (
 ifb ((p10:Int) == (3:Int)) (
 xV β L p2 (3:Int) (fun v13 =>
 ifb (decide (v13 > (0:Int))) (
 lt [(V.sc (.int .i64 (0:Int))),(V.sc (.int .u32 (0:Int))),(V.sc (.int .u16 (0:Int))),(V.sc (.int .u32 (0:Int)))] fun r14 =>
 chk (0=0∧(List.length r14)=4∧4≠0) (
 k_fin r14 (380:Int))) (
 chk (0+34≤(List.length b4)) (
 yh β L (List.map V.dem (List.take 34 b4)) p2 p10 (fun v15 =>
 ifb ((((List.length v15:Nat):Int):Int) == (0:Int)) (
 lt [(V.sc (.int .i64 (0:Int))),(V.sc (.int .u32 (0:Int))),(V.sc (.int .u16 (0:Int))),(V.sc (.int .u32 (0:Int)))] fun r16 =>
 chk (0=0∧(List.length r16)=4∧4≠0) (
 k_fin r16 (390:Int))) (
 lt (IntKind.wrap .u64 ((List.length v15:Nat):Int)) fun x17 =>
 chk (x17≠0) (
 lt (Int.tmod p3 x17) fun x18 =>
 lt (IntKind.wrap .i64 x18) fun x19 =>
 idx v15 x19 fun c20 =>
 chk ((List.length (List.take 3 c20))=3∧1+3≤4) (
 chk ((List.length (zh [(V.sc (.int .i64 p10)),(V.sc (.int .u32 (0:Int))),(V.sc (.int .u16 (0:Int))),(V.sc (.int .u32 (0:Int)))] 1 (List.take 3 c20)))=4∧0+4≤4) (
 lt (zh [(V.sc (.int .i64 zK1)),(V.sc (.int .u32 zK2)),(V.sc (.int .u16 zK3)),(V.sc (.int .u32 zK4))] 0 (zh [(V.sc (.int .i64 p10)),(V.sc (.int .u32 (0:Int))),(V.sc (.int .u16 (0:Int))),(V.sc (.int .u32 (0:Int)))] 1 (List.take 3 c20))) fun r21 =>
 chk (0=0∧(List.length r21)=4∧4≠0) (
 k_fin r21 (0:Int))))))))))) (
 chk (0+34≤(List.length b4)) (
 yh β L (List.map V.dem (List.take 34 b4)) p2 p10 (fun v22 =>
 ifb ((((List.length v22:Nat):Int):Int) == (0:Int)) (
 lt [(V.sc (.int .i64 (0:Int))),(V.sc (.int .u32 (0:Int))),(V.sc (.int .u16 (0:Int))),(V.sc (.int .u32 (0:Int)))] fun r23 =>
 chk (0=0∧(List.length r23)=4∧4≠0) (
 k_fin r23 (390:Int))) (
 lt (IntKind.wrap .u64 ((List.length v22:Nat):Int)) fun x24 =>
 chk (x24≠0) (
 lt (Int.tmod p3 x24) fun x25 =>
 lt (IntKind.wrap .i64 x25) fun x26 =>
 idx v22 x26 fun c27 =>
 chk ((List.length (List.take 3 c27))=3∧1+3≤4) (
 chk ((List.length (zh [(V.sc (.int .i64 p10)),(V.sc (.int .u32 (0:Int))),(V.sc (.int .u16 (0:Int))),(V.sc (.int .u32 (0:Int)))] 1 (List.take 3 c27)))=4∧0+4≤4) (
 lt (zh [(V.sc (.int .i64 zK1)),(V.sc (.int .u32 zK2)),(V.sc (.int .u16 zK3)),(V.sc (.int .u32 zK4))] 0 (zh [(V.sc (.int .i64 p10)),(V.sc (.int .u32 (0:Int))),(V.sc (.int .u16 (0:Int))),(V.sc (.int .u32 (0:Int)))] 1 (List.take 3 c27))) fun r28 =>
 chk (0=0∧(List.length r28)=4∧4≠0) (
 k_fin r28 (0:Int))))))))))
def zmM {β:Type} (zae:zdT) (xw:za8) (xV:zdR) (yo:xO) (yh:xD) (L:Nat) (k_ret:Int→List V→Option β) (k_x0:zrU β):Nat→List (List V)→List (List V)→Int→Int→Int→List V→Int→Int→Int→Int→Option β
 | 0,_,_,_,_,_,_,_,_,_,_=>none
 | n+1,p1,p2,p3,p10,p11,b4,zK1,zK2,zK3,zK4=>zt2 zae xw xV yo yh L p1 p2 p3 p10 p11 b4 zK1 zK2 zK3 zK4 k_ret (fun p1 p2 p3 p10 p11 b4 zK1 zK2 zK3 zK4=>zmM zae xw xV yo yh L k_ret k_x0 n p1 p2 p3 p10 p11 b4 zK1 zK2 zK3 zK4) k_x0
def zBU {β:Type} (zae:zdT) (xw:za8) (xV:zdR) (yo:xO) (yh:xD) (L:Nat) (p0:List V) (p1 p2:List (List V)) (p3:Int) (k_fin:List V→Int→Option β):Option β :=
 zBs zae xw xV yo yh L p0 p1 p2 p3 k_fin (fun p1 p2 p3 p10 p11 b4 zK1 zK2 zK3 zK4=>zmM zae xw xV yo yh L (fun p9 b8=>zrX zae xw xV yo yh L p9 b8 k_fin) (fun p2 p3 p10 b4 zK1 zK2 zK3 zK4=>zsz zae xw xV yo yh L p2 p3 p10 b4 zK1 zK2 zK3 zK4 k_fin) L p1 p2 p3 p10 p11 b4 zK1 zK2 zK3 zK4)
abbrev zab:=∀ (β:Type),Nat→List V→List (List V)→List (List V)→Int→(List V→Int→Option β)→Option β
def yz (β:Type) (L:Nat) (p0:List V) (p1 p2:List (List V)) (p3:Int) (k_fin:List V→Int→Option β):Option β:=zBU zae xw xV yo yh L p0 p1 p2 p3 k_fin
def zBw (yz:zab) (L:Nat) (β:Type) (args:List V) (bor:Bor) (k:KK β):Option β:=match args,bor with
 | [a0,a1,a2,a3],[]=>aG a0 fun p0=>aL 3 a1 fun p1=>aL 4 a2 fun p2=>aI .u64 a3 fun p3=>yz β L p0 p1 p2 p3 (fun zMc zMd=>k (V.tup [(V.agg zMc),(V.sc (.int .i64 zMd))]) [])
 | _,_=>none
def zsC:CC:=(.seq (.seq (.reg [oo 11 (.move (tq 5) false),
   oo 12 (.move (tq 0) false),
   oo 13 (.lenS (tq 12)),
   oo 14 (.bin .lss (tq 11) (tq 13))])
 (.cond (tq 14)
 .skip
 (.seq (.mask (bl 0 26) (bl 67100623 26))
 (.exit 0))))
 (.seq (.block 1 (.seq (.dreg [] [(oo 17 (.move (tq 0) false),q0),
   (oo 18 (.move (tq 5) false),q0),
   (oo 19 (.indexAddrS 3 (tq 17) (tq 18)),q0),
   (oo 20 (.load true 3 (tq 19) false),q1),
   (oo 21 (.move (tq 1) false),q0),
   (oo 22 (.move (tq 5) false),q0),
   (oo 23 (.indexAddrS 3 (tq 21) (tq 22)),q0),
   (oo 24 (.load true 3 (tq 23) false),q1),
   (oo 25 (.eqAgg true 3 (tq 20) (tq 24)),q0)])
 (.cond (tq 25)
 (.seq (.reg [oo 4 (.move (.const (.sc (.bool false))) false)])
 (.seq (.mask (bl 16 26) (bl 67100639 26))
 .ret))
 .skip)))
 (.reg [oo 15 (.move (tq 5) false),
   oo 16 (.bin .add (tq 15) (.const (.sc (.int .i64 1)))),
   oo 5 (.move (tq 16) false)])))
def zuJ:CC:=(.seq (.reg [oo 4 (.move (.const (.sc (.bool true))) false)])
 .ret)
def zpX:CF:=⟨26,[.tmp 4],
 (.seq (.reg [oo 4 (.move (.const (.sc (.bool false))) false)])
 (.seq (.seq (.reg [oo 6 (.move (tq 0) false),
   oo 7 (.lenS (tq 6)),
   oo 8 (.move (tq 1) false),
   oo 9 (.lenS (tq 8)),
   oo 10 (.bin .neq (tq 7) (tq 9))])
 (.cond (tq 10)
 (.seq (.reg [oo 4 (.move (.const (.sc (.bool false))) false)])
 .ret)
 .skip))
 (.seq (.seq (.reg [oo 5 (.move (.const (.sc (.int .i64 0))) false)])
 (.block 0 (.loop (bl 35 26) (bl 67100655 26)
 zsC)))
 zuJ)))⟩
def znr:Hint:=⟨[],[],[none,none,none,some ((bl 35 26),(bl 67100655 26)),none,some ((bl 0 26),(bl 67100623 26)),none,none,some ((bl 16 26),(bl 67100639 26)),none],[],[],false,false⟩
def zHR:Nat→Sh:=xP []
def zHE (L:Nat):CBC:=noC
def zE2:St→St:=zaj 0 (bl 35 26) (bl 67100655 26)
def zDD (p0 p1:List (List V)) (p5:Int):St:=⟨((V.sl 3 p0)::((V.sl 3 p1)::(jn 3 ((V.sc (.int .i64 p5))::(jn 20 []))))),(gn 26 [])⟩
def zFb (p4:Bool):St:=⟨(jn 4 ((V.sc (.bool p4))::(jn 21 []))),(gn 26 [])⟩
def zFg:St:=⟨(jn 26 []),(gn 26 [])⟩
def zx5 {β:Type} (L:Nat) (p0 p1:List (List V)) (k_fin:Bool→Option β) (k_hbbaba:List (List V)→List (List V)→Int→Option β):Option β :=
 ifb ((((List.length p0:Nat):Int):Int) != ((List.length p1:Nat):Int)) (
 k_fin false) (
 k_hbbaba p0 p1 (0:Int))
def ztA {β:Type} (L:Nat) (p0 p1:List (List V)) (p5:Int) (k_ret:Bool→Option β) (k_hbbaba:List (List V)→List (List V)→Int→Option β) (k_x0:Option β):Option β :=
 ifb (decide (p5 < ((List.length p0:Nat):Int))) (
 idx p0 p5 fun c0 =>
 idx p1 p5 fun c1 =>
 eqC 3 (List.take 3 c0) (List.take 3 c1) fun v2 =>
 ifb (!v2) (
 k_ret false) (
 lt (IntKind.wrap .i64 ((p5:Int)+(1:Int))) fun x3 =>
 k_hbbaba p0 p1 x3)) (
 k_x0)
def zqS {β:Type} (L:Nat) (p4:Bool) (k_fin:Bool→Option β):Option β :=
 k_fin p4
def zr9 {β:Type} (L:Nat) (k_fin:Bool→Option β):Option β :=
 k_fin true
def zlI {β:Type} (L:Nat) (k_ret:Bool→Option β) (k_x0:Option β):Nat→List (List V)→List (List V)→Int→Option β
 | 0,_,_,_=>none
 | n+1,p0,p1,p5=>ztA L p0 p1 p5 k_ret (fun p0 p1 p5=>zlI L k_ret k_x0 n p0 p1 p5) k_x0
def zyu {β:Type} (L:Nat) (p0 p1:List (List V)) (k_fin:Bool→Option β):Option β :=
 zx5 L p0 p1 k_fin (fun p0 p1 p5=>zlI L (fun p4=>zqS L p4 k_fin) (zr9 L k_fin) L p0 p1 p5)
abbrev xS:=∀ (β:Type),Nat→List (List V)→List (List V)→(Bool→Option β)→Option β
def yr (β:Type) (L:Nat) (p0 p1:List (List V)) (k_fin:Bool→Option β):Option β:=zyu L p0 p1 k_fin
def zys (yr:xS) (L:Nat) (β:Type) (args:List V) (bor:Bor) (k:KK β):Option β:=match args,bor with
 | [a0,a1],[]=>aL 3 a0 fun p0=>aL 3 a1 fun p1=>yr β L p0 p1 (fun p0=>k (V.sc (.bool p0)) [])
 | _,_=>none
def zg7:CC:=(.seq (.reg [oo 81 (.bin .lss (tq 80) (tq 79))])
 (.seq (.cond (tq 81)
 .skip
 (.seq (.mask (bl 246290604623110 96) (bl 71645779773641383409786208191 96))
 (.exit 4)))
 (.seq (.block 5 (.seq (.reg [oo 82 (.indexAddrS 1 (tq 78) (tq 80)),
   oo 83 (.load false 1 (tq 82) false),
   oo 19 (.move (tq 83) false)])
 (.seq (.dreg [] [(oo 84 (.load true 34 (tq 8) false),ql 8 [] []),
   (oo 85 (.move (tq 13) false),q0),
   (oo 86 (.move (tq 19) false),q0),
   (oo 87 (.call 266 [((tq 84),1),((tq 85),0),((tq 86),0)] []),qc [8] []),
   (oo 88 (.load true 34 (tq 8) false),ql 8 [] []),
   (oo 89 (.move (tq 13) false),q0),
   (oo 90 (.move (tq 19) false),q0),
   (oo 91 (.call 267 [((tq 88),1),((tq 89),0),((tq 90),0)] []),q0),
   (oo 92 (.call 265 [((tq 87),0),((tq 91),0)] []),q0),
   (oo 93 (.un .not (tq 92)),q0)])
 (.cond (tq 93)
 (.seq (.reg [oo 6 (.move (.const (.sc (.bool false))) false)])
 (.seq (.mask (bl 64 96) (bl 71644721833917608935025811199 96))
 .ret))
 .skip))))
 (.reg [oo 94 (.bin .add (tq 80) (.const (.sc (.int .i64 1)))),
   oo 80 (.move (tq 94) false)]))))
def zj9:CC:=(.reg [oo 95 (.bin .add (tq 47) (.const (.sc (.int .i64 1)))),
   oo 47 (.move (tq 95) false)])
def zlU:CC:=(.seq (.reg [oo 48 (.bin .lss (tq 47) (tq 46))])
 (.seq (.cond (tq 48)
 .skip
 (.seq (.mask (bl 0 96) (bl 71644721833917608935025811135 96))
 (.exit 2)))
 (.seq (.block 3 (.seq (.reg [oo 49 (.indexAddrS 1 (tq 45) (tq 47)),
   oo 50 (.load false 1 (tq 49) false),
   oo 13 (.move (tq 50) false)])
 (.seq (.reg [oo 52 (.load true 34 (tq 8) false),
   oo 53 (.move (tq 10) false),
   oo 54 (.move (tq 13) false),
   oo 55 (.move (tq 2) false),
   oo 56 (.call 263 [((tq 52),1),((tq 53),0),((tq 54),0),((tq 55),0)] []),
   oo 51 (.move (tq 56) true),
   oo 57 (.pull (tq 51) 0),
   oo 58 (.pull (tq 51) 1),
   oo 14 (.alloc true [(.sc (.int .i64 0)),(.sc (.int .u32 0)),(.sc (.int .u16 0)),(.sc (.int .u32 0))]),
   oz (.store 4 (tq 14) (tq 57)),
   oo 15 (.move (tq 58) false)])
 (.seq (.reg [oo 60 (.load true 34 (tq 8) false),
   oo 61 (.move (tq 10) false),
   oo 62 (.move (tq 13) false),
   oo 63 (.move (tq 2) false),
   oo 64 (.call 264 [((tq 60),1),((tq 61),0),((tq 62),0),((tq 63),0)] []),
   oo 59 (.move (tq 64) true),
   oo 65 (.pull (tq 59) 0),
   oo 66 (.pull (tq 59) 1),
   oo 16 (.alloc true [(.sc (.int .i64 0)),(.sc (.int .u32 0)),(.sc (.int .u16 0)),(.sc (.int .u32 0))]),
   oz (.store 4 (tq 16) (tq 65)),
   oo 17 (.move (tq 66) false)])
 (.seq (.seq (.reg [oo 67 (.move (tq 15) false),
   oo 68 (.move (tq 17) false),
   oo 69 (.bin .neq (tq 67) (tq 68)),
   oo 70 (.move (tq 69) false),
   ⟨(some 71),false,(some (70,false)),.load true 4 (tq 14) false⟩,
   ⟨(some 72),false,(some (70,false)),.load true 4 (tq 16) false⟩,
   ⟨(some 73),false,(some (70,false)),.eqAgg true 4 (tq 71) (tq 72)⟩,
   oo 74 (.pick (tq 70) (.const (.sc (.bool true))) (tq 73))])
 (.cond (tq 74)
 (.seq (.reg [oo 6 (.move (.const (.sc (.bool false))) false)])
 (.seq (.mask (bl 64 96) (bl 71644721833917608935025811199 96))
 .ret))
 .skip))
 (.seq (.reg [oo 75 (.move (tq 1) false),
   oo 76 (.move (tq 1) false),
   oo 77 (.call 217 [((tq 76),0),((.const (.sc (.int .i64 5))),0)] []),
   oo 78 (.buildSlice 1 2 [(.sc (.int .i64 0))] [(0,1,(tq 75)),(1,1,(tq 77))]),
   oo 79 (.lenS (tq 78)),
   oo 80 (.move (.const (.sc (.int .i64 0))) false)])
 (.block 4 (.loop (bl 2115620184571891660367110 96) (bl 71645779773641383409786208191 96)
 zg7))))))))
 zj9)))
def zmp:CC:=(.seq (.seq (.reg [oo 30 (.move (tq 11) false),
   oo 31 (.bin .gtr (tq 30) (.const (.sc (.int .i64 0))))])
 (.cond (tq 31)
 .skip
 (.seq (.mask (bl 1798 96) (bl 79228162514264337112507529215 96))
 (.exit 0))))
 (.seq (.block 1 (.reg [oo 34 (.move (tq 10) true),
   oo 35 (.move (tq 7) false),
   oo 36 (.call 262 [((tq 35),0)] []),
   oo 37 (.buildSlice 3 1 [(.sc (.int .u32 0)),(.sc (.int .u16 0)),(.sc (.int .u32 0))] [(0,3,(tq 36))]),
   oo 38 (.append 3 12 (tq 34) (tq 37)),
   oo 10 (.move (tq 38) true)]))
 (.reg [oo 32 (.move (tq 11) false),
   oo 33 (.bin .sub (tq 32) (.const (.sc (.int .i64 1)))),
   oo 11 (.move (tq 33) false)])))
def zns:CC:=(.seq (.reg [oo 6 (.move (.const (.sc (.bool true))) false)])
 .ret)
def zoa:CC:=(.seq (.seq (.reg [oo 39 (.move (tq 9) false),
   oo 40 (.move (tq 9) false),
   oo 41 (.move (tq 9) false),
   oo 42 (.lenS (tq 41)),
   oo 43 (.mm false (.const (.sc (.int .i64 2))) (tq 42)),
   oo 44 (.sliceS 4 (tq 40) none (some (tq 43)) none),
   oo 45 (.buildSlice 1 3 [(.sl 4 [])] [(0,1,(tq 39)),(1,1,(.const (.gs 4 []))),(2,1,(tq 44))]),
   oo 46 (.lenS (tq 45)),
   oo 47 (.move (.const (.sc (.int .i64 0))) false)])
 (.block 2 (.loop (bl 246290604623110 96) (bl 71644721833917608935025811391 96)
 zlU)))
 zns)
def zkY:CF:=⟨96,[.tmp 6],
 (.seq (.reg [oo 6 (.move (.const (.sc (.bool false))) false)])
 (.seq (.seq (.reg [oo 20 (.call 259 [] []),
   oo 21 (.un .not (tq 20))])
 (.cond (tq 21)
 (.seq (.reg [oo 6 (.move (.const (.sc (.bool false))) false)])
 .ret)
 .skip))
 (.seq (.reg [oo 22 (.move (tq 0) false),
   oo 23 (.call 225 [((tq 22),0)] []),
   oo 7 (.move (tq 23) false)])
 (.seq (.reg [oo 24 (.move (tq 7) false),
   oo 25 (.call 260 [((tq 24),0)] []),
   oo 8 (.alloc true (rp 32 (.sc (.int .u8 0)) (rp 2 (.gs 5 []) []))),
   oz (.store 34 (tq 8) (tq 25))])
 (.seq (.reg [oo 26 (.move (tq 7) false),
   oo 27 (.call 261 [((tq 26),0)] []),
   oo 9 (.move (tq 27) true)])
 (.seq (.reg [oo 10 (.move (.const (.gs 3 [])) true)])
 (.seq (.seq (.reg [oo 28 (.move (tq 7) false),
   oo 29 (.call 231 [((tq 28),0),((.const (.sc (.int .i64 4))),0)] []),
   oo 11 (.move (tq 29) false)])
 (.block 0 (.loop (bl 3974 96) (bl 79228162514264337112507531263 96)
 zmp)))
 zoa)))))))⟩
def zjv:Hint:=⟨[(4,2),(5,2),(6,0),(10,0),(10,5),(14,5),(15,5)],[],[none,none,none,some ((bl 3974 96),(bl 79228162514264337112507531263 96)),none,some ((bl 1798 96),(bl 79228162514264337112507529215 96)),none,none,some ((bl 246290604623110 96),(bl 71644721833917608935025811391 96)),none,some ((bl 0 96),(bl 71644721833917608935025811135 96)),none,none,some ((bl 64 96),(bl 71644721833917608935025811199 96)),none,some ((bl 2115620184571891660367110 96),(bl 71645779773641383409786208191 96)),none,some ((bl 246290604623110 96),(bl 71645779773641383409786208191 96)),none,none,some ((bl 64 96),(bl 71644721833917608935025811199 96)),none],[],[],false,false⟩
def zEV:Nat→Sh:=xP [(50,(.sl 4)),(83,(.int .i64))]
def zEU (xc:yt) (zc:zr) (xd:xv) (xC:zaC) (za:xj) (zd:zy) (yc:zs) (yz:zab) (zp:zY) (yb:yn) (yh:xD) (yr:xS) (L:Nat):CBC:=(zx 265 (zys yr L) (zx 267 (zpR yh L) (zx 266 (zcG yb L) (zx 217 (zkT zp L) (zx 264 (zBw yz L) (zx 263 (zdl yc L) (zx 262 (ziP zd L) (zx 231 (zbs za L) (zx 261 (zED xC L) (zx 260 (zg0 xd L) (zx 225 (zgr zc L) (zx 259 (zfL xc L) noC))))))))))))
def zzP:St→St:=zaj 0 (bl 3974 96) (bl 79228162514264337112507531263 96)
def zzJ:St→St:=zaj 0 (bl 246290604623110 96) (bl 71644721833917608935025811391 96)
def ztN:St→St:=zaj 0 (bl 2115620184571891660367110 96) (bl 71645779773641383409786208191 96)
def zye (p1 p2:Int) (p9 p10:List (List V)) (p11:Int) (b8:List V) (zLR:List (List V)) (zLS:Int):St:=⟨(jn 1 ((V.sc (.int .i64 p1))::((V.sc (.int .u64 p2))::(jn 4 ((V.ptr 23 0)::((V.ptr 8 0)::((V.gs 4 p9)::((V.gs 3 p10)::((V.sc (.int .i64 p11))::(jn 84 [])))))))))),(gn 8 ((.live true b8)::(gn 14 ((.live false [(V.sl 1 zLR),(V.sc (.int .i64 zLS))])::(gn 72 [])))))⟩
def zDw (p1 p2:Int) (p9 p10:List (List V)) (b8:List V) (zLR:List (List V)) (zLS:Int):St:=⟨(jn 1 ((V.sc (.int .i64 p1))::((V.sc (.int .u64 p2))::(jn 5 ((V.ptr 8 0)::((V.gs 4 p9)::((V.gs 3 p10)::(jn 85 [])))))))),(gn 8 ((.live true b8)::(gn 14 ((.live false [(V.sl 1 zLR),(V.sc (.int .i64 zLS))])::(gn 72 [])))))⟩
def zxZ (p1 p2:Int) (p10 p45:List (List V)) (p46 p47:Int) (b8:List V) (zLR:List (List V)) (zLS:Int):St:=⟨(jn 1 ((V.sc (.int .i64 p1))::((V.sc (.int .u64 p2))::(jn 5 ((V.ptr 8 0)::(jn 1 ((V.gs 3 p10)::(jn 34 ((V.gs 1 p45)::((V.sc (.int .i64 p46))::((V.sc (.int .i64 p47))::(jn 48 [])))))))))))),(gn 8 ((.live true b8)::(gn 14 ((.live false [(V.sl 1 zLR),(V.sc (.int .i64 zLS))])::(gn 72 [])))))⟩
def zCs (p6:Bool) (zLR:List (List V)) (zLS:Int):St:=⟨(jn 6 ((V.sc (.bool p6))::(jn 89 []))),(gn 23 ((.live false [(V.sl 1 zLR),(V.sc (.int .i64 zLS))])::(gn 72 [])))⟩
def zsl (p1 p2:Int) (p10 p13 p45:List (List V)) (p46 p47:Int) (p78:List (List V)) (p79 p80:Int) (b8:List V) (zLR:List (List V)) (zLS:Int):St:=⟨(jn 1 ((V.sc (.int .i64 p1))::((V.sc (.int .u64 p2))::(jn 5 ((V.ptr 8 0)::(jn 1 ((V.gs 3 p10)::(jn 2 ((V.sl 4 p13)::(jn 31 ((V.gs 1 p45)::((V.sc (.int .i64 p46))::((V.sc (.int .i64 p47))::(jn 30 ((V.gs 1 p78)::((V.sc (.int .i64 p79))::((V.sc (.int .i64 p80))::(jn 15 [])))))))))))))))))),(gn 8 ((.live true b8)::(gn 14 ((.live false [(V.sl 1 zLR),(V.sc (.int .i64 zLS))])::(gn 72 [])))))⟩
def zDb (zLR:List (List V)) (zLS:Int):St:=⟨(jn 96 []),(gn 23 ((.live false [(V.sl 1 zLR),(V.sc (.int .i64 zLS))])::(gn 72 [])))⟩
def zDd (p1 p2:Int) (p10 p45:List (List V)) (p46 p47:Int) (b8:List V) (zLR:List (List V)) (zLS:Int):St:=⟨(jn 1 ((V.sc (.int .i64 p1))::((V.sc (.int .u64 p2))::(jn 5 ((V.ptr 8 0)::(jn 1 ((V.gs 3 p10)::(jn 34 ((V.gs 1 p45)::((V.sc (.int .i64 p46))::((V.sc (.int .i64 p47))::(jn 48 [])))))))))))),(gn 8 ((.live true b8)::(gn 14 ((.live false [(V.sl 1 zLR),(V.sc (.int .i64 zLS))])::(gn 72 [])))))⟩
abbrev zfT (β:Type):Type:=Int→Int→List (List V)→List (List V)→Int→List V→List (List V)→Int→Option β
abbrev zjP (β:Type):Type:=Int→Int→List (List V)→List (List V)→List V→List (List V)→Int→Option β
abbrev zc4 (β:Type):Type:=Int→Int→List (List V)→List (List V)→Int→Int→List V→List (List V)→Int→Option β
abbrev zc8 (β:Type):Type:=Int→Int→List (List V)→List (List V)→List (List V)→Int→Int→List (List V)→Int→Int→List V→List (List V)→Int→Option β
abbrev zkg (β:Type):Type:=Int→Int→List (List V)→List (List V)→Int→Int→List V→List (List V)→Int→Option β
def ztp {β:Type} (xc:yt) (zc:zr) (xd:xv) (xC:zaC) (za:xj) (zd:zy) (yc:zs) (yz:zab) (zp:zY) (yb:yn) (yh:xD) (yr:xS) (L:Nat) (p0:List (List V)) (p1 p2:Int) (k_fin:Bool→Option β) (k_hbbbbbbaba:zfT β):Option β :=
 xc β L  (fun v0 =>
 ifb (!v0) (
 k_fin false) (
 zc β L p0 (fun v1 v2 =>
 xd β L v1 v2 (fun v3 v4 v5 =>
 chk ((List.length v3)=34∧0+34≤34) (
 lt (zh (List.replicate 32 (V.sc (.int .u8 (0:Int)))++[(V.gs 5 ([]:List (List V))),(V.gs 5 ([]:List (List V)))]) 0 v3) fun r6 =>
 xC β L v4 v5 (fun v7 v8 v9 =>
 za β L (4:Int) v8 v9 (fun v10 v11 v12 =>
 k_hbbbbbbaba p1 p2 v7 ([]:List (List V)) v10 r6 v11 v12)))))))
def zmT {β:Type} (xc:yt) (zc:zr) (xd:xv) (xC:zaC) (za:xj) (zd:zy) (yc:zs) (yz:zab) (zp:zY) (yb:yn) (yh:xD) (yr:xS) (L:Nat) (p1 p2:Int) (p9 p10:List (List V)) (p11:Int) (b8:List V) (zLR:List (List V)) (zLS:Int) (k_hbbbbbbaba:zfT β) (k_x0:zjP β):Option β :=
 ifb (decide (p11 > (0:Int))) (
 zd β L zLR zLS (fun v13 v14 v15 =>
 chk ((List.length v13)=3∧0+3≤3) (
 chk ((List.length p10+List.length (zl 3 1 (zh [(V.sc (.int .u32 (0:Int))),(V.sc (.int .u16 (0:Int))),(V.sc (.int .u32 (0:Int)))] 0 v13))) * 12≤zt∧List.length p10+List.length (zl 3 1 (zh [(V.sc (.int .u32 (0:Int))),(V.sc (.int .u16 (0:Int))),(V.sc (.int .u32 (0:Int)))] 0 v13))≤zt) (
 lt (p10++(zl 3 1 (zh [(V.sc (.int .u32 (0:Int))),(V.sc (.int .u16 (0:Int))),(V.sc (.int .u32 (0:Int)))] 0 v13))) fun l16 =>
 lt (IntKind.wrap .i64 ((p11:Int) - (1:Int))) fun x17 =>
 k_hbbbbbbaba p1 p2 p9 l16 x17 b8 v14 v15)))) (
 k_x0 p1 p2 p9 p10 b8 zLR zLS)
def zlD {β:Type} (xc:yt) (zc:zr) (xd:xv) (xC:zaC) (za:xj) (zd:zy) (yc:zs) (yz:zab) (zp:zY) (yb:yn) (yh:xD) (yr:xS) (L:Nat) (p1 p2:Int) (p9 p10:List (List V)) (b8:List V) (zLR:List (List V)) (zLS:Int) (k_hbbbbbbbaba:zc4 β):Option β :=
 lt (zKI (2:Int) ((List.length p9:Nat):Int)) fun x18 =>
 chk (0≤x18∧x18≤(((List.length p9):Nat):Int)) (
 k_hbbbbbbbaba p1 p2 p10 (zl 1 3 [(V.sl 4 p9),(V.sl 4 ([]:List (List V))),(V.sl 4 (List.take ((Int.toNat x18) - 0) (List.drop 0 p9)))]) ((List.length (zl 1 3 [(V.sl 4 p9),(V.sl 4 ([]:List (List V))),(V.sl 4 (List.take ((Int.toNat x18) - 0) (List.drop 0 p9)))]):Nat):Int) (0:Int) b8 zLR zLS)
def zmr {β:Type} (xc:yt) (zc:zr) (xd:xv) (xC:zaC) (za:xj) (zd:zy) (yc:zs) (yz:zab) (zp:zY) (yb:yn) (yh:xD) (yr:xS) (L:Nat) (p1 p2:Int) (p10 p45:List (List V)) (p46 p47:Int) (b8:List V) (zLR:List (List V)) (zLS:Int) (k_ret:Bool→List (List V)→Int→Option β) (k_hbbbbbbbabaabbaabbbbba:zc8 β) (k_x2:List (List V)→Int→Option β):Option β :=
 ifb (decide (p47 < p46)) (
 idx p45 p47 fun c19 =>
 cL 4 c19 0 fun v20 =>
 chk (0+34≤(List.length b8)) (
 yc β L (List.map V.dem (List.take 34 b8)) p10 v20 p2 (fun v21 v22 =>
 chk ((List.length v21)=4∧0+4≤4) (
 lt (zh [(V.sc (.int .i64 (0:Int))),(V.sc (.int .u32 (0:Int))),(V.sc (.int .u16 (0:Int))),(V.sc (.int .u32 (0:Int)))] 0 v21) fun r23 =>
 chk (0+34≤(List.length b8)) (
 yz β L (List.map V.dem (List.take 34 b8)) p10 v20 p2 (fun v24 v25 =>
 chk ((List.length v24)=4∧0+4≤4) (
 lt (zh [(V.sc (.int .i64 (0:Int))),(V.sc (.int .u32 (0:Int))),(V.sc (.int .u16 (0:Int))),(V.sc (.int .u32 (0:Int)))] 0 v24) fun r26 =>
 ifb ((v22:Int) != v25) (
 k_ret false zLR zLS) (
 chk (0+4≤(List.length r23)) (
 chk (0+4≤(List.length r26)) (
 eqC 4 (List.take 4 r23) (List.take 4 r26) fun v27 =>
 ifb (!v27) (
 k_ret false zLR zLS) (
 zp β L p1 (5:Int) (fun v28 =>
 k_hbbbbbbbabaabbaabbbbba p1 p2 p10 v20 p45 p46 p47 (zl 1 2 [(V.sc (.int .i64 p1)),(V.sc (.int .i64 v28))]) ((List.length (zl 1 2 [(V.sc (.int .i64 p1)),(V.sc (.int .i64 v28))]):Nat):Int) (0:Int) b8 zLR zLS)))))))))))) (
 k_x2 zLR zLS)
def zkK {β:Type} (xc:yt) (zc:zr) (xd:xv) (xC:zaC) (za:xj) (zd:zy) (yc:zs) (yz:zab) (zp:zY) (yb:yn) (yh:xD) (yr:xS) (L:Nat) (p6:Bool) (zLR:List (List V)) (zLS:Int) (k_fin:Bool→Option β):Option β :=
 k_fin p6
def zla {β:Type} (xc:yt) (zc:zr) (xd:xv) (xC:zaC) (za:xj) (zd:zy) (yc:zs) (yz:zab) (zp:zY) (yb:yn) (yh:xD) (yr:xS) (L:Nat) (zLR:List (List V)) (zLS:Int) (k_fin:Bool→Option β):Option β :=
 k_fin true
def zhb {β:Type} (xc:yt) (zc:zr) (xd:xv) (xC:zaC) (za:xj) (zd:zy) (yc:zs) (yz:zab) (zp:zY) (yb:yn) (yh:xD) (yr:xS) (L:Nat) (p1 p2:Int) (p10 p13 p45:List (List V)) (p46 p47:Int) (p78:List (List V)) (p79 p80:Int) (b8:List V) (zLR:List (List V)) (zLS:Int) (k_ret:Bool→List (List V)→Int→Option β) (k_hbbbbbbbabaabbaabbbbba:zc8 β) (k_x4:zkg β):Option β :=
 ifb (decide (p80 < p79)) (
 idx p78 p80 fun c29 =>
 cI .i64 c29 0 fun v30 =>
 chk (0+34≤(List.length b8)) (
 yb β L (List.map V.dem (List.take 34 b8)) p13 v30 (fun v31 =>
 chk (0+34≤(List.length b8)) (
 yh β L (List.map V.dem (List.take 34 b8)) p13 v30 (fun v32 =>
 yr β L v31 v32 (fun v33 =>
 ifb (!v33) (
 k_ret false zLR zLS) (
 lt (IntKind.wrap .i64 ((p80:Int)+(1:Int))) fun x34 =>
 k_hbbbbbbbabaabbaabbbbba p1 p2 p10 p13 p45 p46 p47 p78 p79 x34 b8 zLR zLS))))))) (
 k_x4 p1 p2 p10 p45 p46 p47 b8 zLR zLS)
def zge {β:Type} (xc:yt) (zc:zr) (xd:xv) (xC:zaC) (za:xj) (zd:zy) (yc:zs) (yz:zab) (zp:zY) (yb:yn) (yh:xD) (yr:xS) (L:Nat) (p6:Bool) (zLR:List (List V)) (zLS:Int) (k_ret:Bool→List (List V)→Int→Option β):Option β :=
 k_ret p6 zLR zLS
def zgs {β:Type} (xc:yt) (zc:zr) (xd:xv) (xC:zaC) (za:xj) (zd:zy) (yc:zs) (yz:zab) (zp:zY) (yb:yn) (yh:xD) (yr:xS) (L:Nat) (p1 p2:Int) (p10 p45:List (List V)) (p46 p47:Int) (b8:List V) (zLR:List (List V)) (zLS:Int) (k_hbbbbbbbaba:zc4 β):Option β :=
 lt (IntKind.wrap .i64 ((p47:Int)+(1:Int))) fun x35 =>
 k_hbbbbbbbaba p1 p2 p10 p45 p46 x35 b8 zLR zLS
def zf9 {β:Type} (xc:yt) (zc:zr) (xd:xv) (xC:zaC) (za:xj) (zd:zy) (yc:zs) (yz:zab) (zp:zY) (yb:yn) (yh:xD) (yr:xS) (L:Nat) (k_x0:zjP β):Nat→Int→Int→List (List V)→List (List V)→Int→List V→List (List V)→Int→Option β
 | 0,_,_,_,_,_,_,_,_=>none
 | n+1,p1,p2,p9,p10,p11,b8,zLR,zLS=>zmT xc zc xd xC za zd yc yz zp yb yh yr L p1 p2 p9 p10 p11 b8 zLR zLS (fun p1 p2 p9 p10 p11 b8 zLR zLS=>zf9 xc zc xd xC za zd yc yz zp yb yh yr L k_x0 n p1 p2 p9 p10 p11 b8 zLR zLS) k_x0
def zdg {β:Type} (xc:yt) (zc:zr) (xd:xv) (xC:zaC) (za:xj) (zd:zy) (yc:zs) (yz:zab) (zp:zY) (yb:yn) (yh:xD) (yr:xS) (L:Nat) (k_ret:Bool→List (List V)→Int→Option β) (k_x4:zkg β):Nat→Int→Int→List (List V)→List (List V)→List (List V)→Int→Int→List (List V)→Int→Int→List V→List (List V)→Int→Option β
 | 0,_,_,_,_,_,_,_,_,_,_,_,_,_=>none
 | n+1,p1,p2,p10,p13,p45,p46,p47,p78,p79,p80,b8,zLR,zLS=>zhb xc zc xd xC za zd yc yz zp yb yh yr L p1 p2 p10 p13 p45 p46 p47 p78 p79 p80 b8 zLR zLS k_ret (fun p1 p2 p10 p13 p45 p46 p47 p78 p79 p80 b8 zLR zLS=>zdg xc zc xd xC za zd yc yz zp yb yh yr L k_ret k_x4 n p1 p2 p10 p13 p45 p46 p47 p78 p79 p80 b8 zLR zLS) k_x4
def zlw {β:Type} (xc:yt) (zc:zr) (xd:xv) (xC:zaC) (za:xj) (zd:zy) (yc:zs) (yz:zab) (zp:zY) (yb:yn) (yh:xD) (yr:xS) (L:Nat) (p1 p2:Int) (p10 p45:List (List V)) (p46 p47:Int) (b8:List V) (zLR:List (List V)) (zLS:Int) (k_ret:Bool→List (List V)→Int→Option β) (k_x2:List (List V)→Int→Option β) (k_hbbbbbbbaba:zc4 β):Option β :=
 zmr xc zc xd xC za zd yc yz zp yb yh yr L p1 p2 p10 p45 p46 p47 b8 zLR zLS k_ret (fun p1 p2 p10 p13 p45 p46 p47 p78 p79 p80 b8 zLR zLS=>zdg xc zc xd xC za zd yc yz zp yb yh yr L (fun p6 zLR zLS=>zge xc zc xd xC za zd yc yz zp yb yh yr L p6 zLR zLS k_ret) (fun p1 p2 p10 p45 p46 p47 b8 zLR zLS=>zgs xc zc xd xC za zd yc yz zp yb yh yr L p1 p2 p10 p45 p46 p47 b8 zLR zLS k_hbbbbbbbaba) L p1 p2 p10 p13 p45 p46 p47 p78 p79 p80 b8 zLR zLS) k_x2
def zfF {β:Type} (xc:yt) (zc:zr) (xd:xv) (xC:zaC) (za:xj) (zd:zy) (yc:zs) (yz:zab) (zp:zY) (yb:yn) (yh:xD) (yr:xS) (L:Nat) (k_ret:Bool→List (List V)→Int→Option β) (k_x2:List (List V)→Int→Option β):Nat→Int→Int→List (List V)→List (List V)→Int→Int→List V→List (List V)→Int→Option β
 | 0,_,_,_,_,_,_,_,_,_=>none
 | n+1,p1,p2,p10,p45,p46,p47,b8,zLR,zLS=>zlw xc zc xd xC za zd yc yz zp yb yh yr L p1 p2 p10 p45 p46 p47 b8 zLR zLS k_ret k_x2 (fun p1 p2 p10 p45 p46 p47 b8 zLR zLS=>zfF xc zc xd xC za zd yc yz zp yb yh yr L k_ret k_x2 n p1 p2 p10 p45 p46 p47 b8 zLR zLS)
def zld {β:Type} (xc:yt) (zc:zr) (xd:xv) (xC:zaC) (za:xj) (zd:zy) (yc:zs) (yz:zab) (zp:zY) (yb:yn) (yh:xD) (yr:xS) (L:Nat) (p1 p2:Int) (p9 p10:List (List V)) (b8:List V) (zLR:List (List V)) (zLS:Int) (k_fin:Bool→Option β):Option β :=
 zlD xc zc xd xC za zd yc yz zp yb yh yr L p1 p2 p9 p10 b8 zLR zLS (fun p1 p2 p10 p45 p46 p47 b8 zLR zLS=>zfF xc zc xd xC za zd yc yz zp yb yh yr L (fun p6 zLR zLS=>zkK xc zc xd xC za zd yc yz zp yb yh yr L p6 zLR zLS k_fin) (fun zLR zLS=>zla xc zc xd xC za zd yc yz zp yb yh yr L zLR zLS k_fin) L p1 p2 p10 p45 p46 p47 b8 zLR zLS)
def ztB {β:Type} (xc:yt) (zc:zr) (xd:xv) (xC:zaC) (za:xj) (zd:zy) (yc:zs) (yz:zab) (zp:zY) (yb:yn) (yh:xD) (yr:xS) (L:Nat) (p0:List (List V)) (p1 p2:Int) (k_fin:Bool→Option β):Option β :=
 ztp xc zc xd xC za zd yc yz zp yb yh yr L p0 p1 p2 k_fin (fun p1 p2 p9 p10 p11 b8 zLR zLS=>zf9 xc zc xd xC za zd yc yz zp yb yh yr L (fun p1 p2 p9 p10 b8 zLR zLS=>zld xc zc xd xC za zd yc yz zp yb yh yr L p1 p2 p9 p10 b8 zLR zLS k_fin) L p1 p2 p9 p10 p11 b8 zLR zLS)
abbrev ztw:=∀ (β:Type),Nat→List (List V)→Int→Int→(Bool→Option β)→Option β
def zlK (β:Type) (L:Nat) (p0:List (List V)) (p1 p2:Int) (k_fin:Bool→Option β):Option β:=ztB xc zc xd xC za zd yc yz zp yb yh yr L p0 p1 p2 k_fin
def zEX (zlK:ztw) (L:Nat) (β:Type) (args:List V) (bor:Bor) (k:KK β):Option β:=match args,bor with
 | [a0,a1,a2],[]=>aL 1 a0 fun p0=>aI .i64 a1 fun p1=>aI .u64 a2 fun p2=>zlK β L p0 p1 p2 (fun p0=>k (V.sc (.bool p0)) [])
 | _,_=>none
def zd6:CC:=(.seq (.seq (.reg [oo 17 (.move (tq 10) false),
   oo 18 (.bin .lss (tq 17) (.const (.sc (.int .i64 20))))])
 (.cond (tq 18)
 .skip
 (.seq (.mask (bl 256 51) (bl 2190225216340791 51))
 (.exit 0))))
 (.seq (.block 1 (.seq (.dreg [] [(oo 22 (.load true 34 (tq 3) false),ql 3 [] [11]),
   (oo 23 (.move (tq 1) false),q0),
   (oo 24 (.move (tq 8) false),q0),
   (oo 25 (.move (tq 9) false),q0),
   (oo 26 (.call 231 [((tq 25),0),((.const (.sc (.int .i64 1048576))),0)] []),qc [3] [11]),
   (oo 27 (.conv .u64 (tq 26)),q0),
   (oo 28 (.call 263 [((tq 22),1),((tq 23),0),((tq 24),0),((tq 27),0)] []),qc [] [11]),
   (oo 21 (.move (tq 28) true),qc [] [11]),
   (oo 29 (.pull (tq 21) 0),q0),
   (oo 30 (.pull (tq 21) 1),q0),
   (oo 11 (.alloc true [(.sc (.int .i64 0)),(.sc (.int .u32 0)),(.sc (.int .u16 0)),(.sc (.int .u32 0))]),qn [3] []),
   (oz (.store 4 (tq 11) (tq 29)),q0),
   (oo 12 (.move (tq 30) false),q0)])
 (.seq (.seq (.reg [oo 31 (.move (tq 12) false),
   oo 32 (.bin .neq (tq 31) (.const (.sc (.int .i64 0))))])
 (.cond (tq 32)
 (.seq (.reg [oo 33 (.move (tq 8) true),
   oo 34 (.move (tq 12) false),
   oo 35 (.bin .eql (tq 34) (.const (.sc (.int .i64 390)))),
   oo 36 (.move (tq 35) false),
   ⟨(some 37),false,(some (36,false)),.move (tq 12) false⟩,
   ⟨(some 38),false,(some (36,false)),.bin .eql (tq 37) (.const (.sc (.int .i64 380)))⟩,
   oo 39 (.pick (tq 36) (.const (.sc (.bool true))) (tq 38)),
   oo 6 (.move (tq 33) true),
   oo 7 (.move (tq 39) false)])
 (.seq (.mask (bl 192 51) (bl 2190225216340727 51))
 .ret))
 .skip))
 (.seq (.reg [oo 41 (.move (tq 8) false),
   oo 42 (.load true 4 (tq 11) false),
   oo 43 (.call 271 [((tq 41),0),((tq 42),0)] []),
   oo 40 (.move (tq 43) true),
   oo 44 (.extract (tq 40) 0),
   oo 45 (.pull (tq 40) 1),
   oo 13 (.move (tq 44) true),
   oo 14 (.move (tq 45) false)])
 (.seq (.seq (.reg [oo 46 (.move (tq 14) false),
   oo 47 (.bin .neq (tq 46) (.const (.sc (.int .i64 0))))])
 (.cond (tq 47)
 (.seq (.reg [oo 48 (.move (tq 8) true),
   oo 6 (.move (tq 48) true),
   oo 7 (.move (.const (.sc (.bool false))) false)])
 (.seq (.mask (bl 192 51) (bl 2190225216340727 51))
 .ret))
 .skip))
 (.reg [oo 49 (.move (tq 13) true),
   oo 8 (.move (tq 49) true)]))))))
 (.reg [oo 19 (.move (tq 10) false),
   oo 20 (.bin .add (tq 19) (.const (.sc (.int .i64 1)))),
   oo 10 (.move (tq 20) false)])))
def zh9:CC:=(.seq (.reg [oo 50 (.move (tq 8) true),
   oo 6 (.move (tq 50) true),
   oo 7 (.move (.const (.sc (.bool false))) false)])
 .ret)
def zdQ:CF:=⟨51,[.tmp 6,.tmp 7],
 (.seq (.reg [oo 3 (.box true (tq 0)),
   oo 6 (.move (.const (.gs 4 [])) true),
   oo 7 (.move (.const (.sc (.bool false))) false)])
 (.seq (.reg [oo 8 (.move (.const (.gs 4 [])) true)])
 (.seq (.reg [oo 15 (.move (tq 2) false),
   oo 16 (.call 225 [((tq 15),0)] []),
   oo 9 (.move (tq 16) false)])
 (.seq (.seq (.reg [oo 10 (.move (.const (.sc (.int .i64 0))) false)])
 (.block 0 (.loop (bl 1802 51) (bl 2190225216341823 51)
 zd6)))
 zh9))))⟩
def zsP:Hint:=⟨[(0,0),(0,1),(1,0),(6,7),(8,0),(8,7),(9,3),(9,4),(9,6),(11,0),(11,1),(12,0),(12,1),(13,0),(13,1)],[],[none,some ((bl 1802 51),(bl 2190225216341823 51)),none,some ((bl 256 51),(bl 2190225216340791 51)),none,none,some ((bl 192 51),(bl 2190225216340727 51)),none,some ((bl 192 51),(bl 2190225216340727 51)),none],[],[],false,false⟩
def zcd:Nat→Sh:=xP []
def zca (zc:zr) (za:xj) (yc:zs) (zj:y9) (L:Nat):CBC:=(zx 271 (zhz zj L) (zx 263 (zdl yc L) (zx 231 (zbs za L) (zx 225 (zgr zc L) noC))))
def zgu:St→St:=zaj 0 (bl 1802 51) (bl 2190225216341823 51)
def zeL (p1 p8:List (List V)) (p10:Int) (b3:List V) (zLT:List (List V)) (zLU:Int):St:=⟨(jn 1 ((V.sl 3 p1)::(jn 1 ((V.ptr 3 0)::(jn 4 ((V.gs 4 p8)::((V.ptr 16 0)::((V.sc (.int .i64 p10))::(jn 40 []))))))))),(gn 3 ((.live true b3)::(gn 12 ((.live false [(V.sl 1 zLT),(V.sc (.int .i64 zLU))])::(gn 34 [])))))⟩
def zlu (p6:List (List V)) (p7:Bool) (zLT:List (List V)) (zLU:Int):St:=⟨(jn 6 ((V.gs 4 p6)::((V.sc (.bool p7))::(jn 43 [])))),(gn 16 ((.live false [(V.sl 1 zLT),(V.sc (.int .i64 zLU))])::(gn 34 [])))⟩
def zml (p8 zLT:List (List V)) (zLU:Int):St:=⟨(jn 8 ((V.gs 4 p8)::(jn 42 []))),(gn 16 ((.live false [(V.sl 1 zLT),(V.sc (.int .i64 zLU))])::(gn 34 [])))⟩
abbrev zox (β:Type):Type:=List (List V)→List (List V)→Int→List V→List (List V)→Int→Option β
def zrN {β:Type} (zc:zr) (za:xj) (yc:zs) (zj:y9) (L:Nat) (p0:List V) (p1 p2:List (List V)) (k_hbbbaba:zox β):Option β :=
 zc β L p2 (fun v0 v1 =>
 k_hbbbaba p1 ([]:List (List V)) (0:Int) p0 v0 v1)
theorem zAC {β:Type} (zc:zr) (za:xj) (yc:zs) (zj:y9) (L:Nat) (p0:List V) (p1 p2:List (List V)) (k:KK β):xt zcd (zca zc za yc zj L) L zdQ [(V.agg p0),(V.sl 3 p1),(V.sl 1 p2)] [] k=zrN zc za yc zj L p0 p1 p2 (fun p1 p8 p10 b3 zLT zLU=>yF (xm zcd (zca zc za yc zj L) 0 L zd6) zgu L (zeL p1 p8 p10 b3 zLT zLU) (xE 0 (xR (xm zcd (zca zc za yc zj L) 0 L zh9) (y5 0 (CF.res zdQ) k)))):=by kernel_rfl
def zjV {β:Type} (zc:zr) (za:xj) (yc:zs) (zj:y9) (L:Nat) (p1 p8:List (List V)) (p10:Int) (b3:List V) (zLT:List (List V)) (zLU:Int) (k_ret:List (List V)→Bool→List (List V)→Int→Option β) (k_hbbbaba:zox β) (k_x0:List (List V)→List (List V)→Int→Option β):Option β :=
 ifb (decide (p10 < (20:Int))) (
 chk (0+34≤(List.length b3)) (
 za β L (1048576:Int) zLT zLU (fun v2 v3 v4 =>
 lt (IntKind.wrap .u64 v2) fun x5 =>
 yc β L (List.map V.dem (List.take 34 b3)) p1 p8 x5 (fun v6 v7 =>
 chk ((List.length v6)=4∧0+4≤4) (
 lt (zh [(V.sc (.int .i64 (0:Int))),(V.sc (.int .u32 (0:Int))),(V.sc (.int .u16 (0:Int))),(V.sc (.int .u32 (0:Int)))] 0 v6) fun r8 =>
 ifb ((v7:Int) != (0:Int)) (
 ifb ((v7:Int) == (390:Int)) (
 k_ret p8 true v3 v4) (
 k_ret p8 ((v7:Int) == (380:Int)) v3 v4)) (
 chk (0+4≤(List.length r8)) (
 zj β L p8 (List.take 4 r8) (fun v9 v10 =>
 ifb ((v10:Int) != (0:Int)) (
 k_ret p8 false v3 v4) (
 lt (IntKind.wrap .i64 ((p10:Int)+(1:Int))) fun x11 =>
 k_hbbbaba p1 v9 x11 b3 v3 v4))))))))) (
 k_x0 p8 zLT zLU)
theorem zub {β:Type} (zc:zr) (za:xj) (yc:zs) (zj:y9) (L:Nat) (p1 p8:List (List V)) (p10:Int) (b3:List V) (zLT:List (List V)) (zLU:Int) (X:St→Option β) (K:KT β):xm zcd (zca zc za yc zj L) 0 L zd6 (zeL p1 p8 p10 b3 zLT zLU) (zbR zgu X K)=zjV zc za yc zj L p1 p8 p10 b3 zLT zLU (fun p6 p7 zLT zLU=>K .ret (zlu p6 p7 zLT zLU)) (fun p1 p8 p10 b3 zLT zLU=>X (zeL p1 p8 p10 b3 zLT zLU)) (fun p8 zLT zLU=>K (.exit 0) (zml p8 zLT zLU)):=by kernel_rfl
def zmF {β:Type} (zc:zr) (za:xj) (yc:zs) (zj:y9) (L:Nat) (p6:List (List V)) (p7:Bool) (zLT:List (List V)) (zLU:Int) (k_fin:List (List V)→Bool→Option β):Option β :=
 k_fin p6 p7
theorem zrv {β:Type} (zc:zr) (za:xj) (yc:zs) (zj:y9) (L:Nat) (p6:List (List V)) (p7:Bool) (zLT:List (List V)) (zLU:Int) (k:KK β):(xE 0 (xR (xm zcd (zca zc za yc zj L) 0 L zh9) (y5 0 (CF.res zdQ) k))) .ret (zlu p6 p7 zLT zLU)=zmF zc za yc zj L p6 p7 zLT zLU (fun zMc zMd=>k (V.tup [(V.gs 4 zMc),(V.sc (.bool zMd))]) []):=by kernel_rfl
def znx {β:Type} (zc:zr) (za:xj) (yc:zs) (zj:y9) (L:Nat) (p8 zLT:List (List V)) (zLU:Int) (k_fin:List (List V)→Bool→Option β):Option β :=
 k_fin p8 false
theorem zsn {β:Type} (zc:zr) (za:xj) (yc:zs) (zj:y9) (L:Nat) (p8 zLT:List (List V)) (zLU:Int) (k:KK β):(xE 0 (xR (xm zcd (zca zc za yc zj L) 0 L zh9) (y5 0 (CF.res zdQ) k))) (.exit 0) (zml p8 zLT zLU)=znx zc za yc zj L p8 zLT zLU (fun zMc zMd=>k (V.tup [(V.gs 4 zMc),(V.sc (.bool zMd))]) []):=by kernel_rfl
def zcu {β:Type} (zc:zr) (za:xj) (yc:zs) (zj:y9) (L:Nat) (k_ret:List (List V)→Bool→List (List V)→Int→Option β) (k_x0:List (List V)→List (List V)→Int→Option β):Nat→List (List V)→List (List V)→Int→List V→List (List V)→Int→Option β
 | 0,_,_,_,_,_,_=>none
 | n+1,p1,p8,p10,b3,zLT,zLU=>zjV zc za yc zj L p1 p8 p10 b3 zLT zLU k_ret (fun p1 p8 p10 b3 zLT zLU=>zcu zc za yc zj L k_ret k_x0 n p1 p8 p10 b3 zLT zLU) k_x0
theorem zmQ {β:Type} (zc:zr) (za:xj) (yc:zs) (zj:y9) (L:Nat) (K:KT β):∀ (n:Nat) (p1 p8:List (List V)) (p10:Int) (b3:List V) (zLT:List (List V)) (zLU:Int),yF (xm zcd (zca zc za yc zj L) 0 L zd6) zgu n (zeL p1 p8 p10 b3 zLT zLU) K=zcu zc za yc zj L (fun p6 p7 zLT zLU=>K .ret (zlu p6 p7 zLT zLU)) (fun p8 zLT zLU=>K (.exit 0) (zml p8 zLT zLU)) n p1 p8 p10 b3 zLT zLU:=by
 intro n
 induction n with
 | zero=>intros; rfl
 | succ n ih =>
  intro p1 p8 p10 b3 zLT zLU
  refine (zub zc za yc zj L p1 p8 p10 b3 zLT zLU (fun σ=>yF (xm zcd (zca zc za yc zj L) 0 L zd6) zgu n σ K) K).trans ?_
  simp only [ih]
  rfl
def znB {β:Type} (zc:zr) (za:xj) (yc:zs) (zj:y9) (L:Nat) (p0:List V) (p1 p2:List (List V)) (k_fin:List (List V)→Bool→Option β):Option β :=
 zrN zc za yc zj L p0 p1 p2 (fun p1 p8 p10 b3 zLT zLU=>zcu zc za yc zj L (fun p6 p7 zLT zLU=>zmF zc za yc zj L p6 p7 zLT zLU k_fin) (fun p8 zLT zLU=>znx zc za yc zj L p8 zLT zLU k_fin) L p1 p8 p10 b3 zLT zLU)
theorem zBh {β:Type} (zc:zr) (za:xj) (yc:zs) (zj:y9) (L:Nat) (p0:List V) (p1 p2:List (List V)) (k:KK β):xt zcd (zca zc za yc zj L) L zdQ [(V.agg p0),(V.sl 3 p1),(V.sl 1 p2)] [] k=znB zc za yc zj L p0 p1 p2 (fun zMc zMd=>k (V.tup [(V.gs 4 zMc),(V.sc (.bool zMd))]) []):=by
 refine (zAC zc za yc zj L p0 p1 p2 k).trans ?_
 unfold znB
 first
  | (simp only [zmQ,zrv,zsn]; done)
  | (simp only [zmQ]; rfl)
abbrev yJ:=∀ (β:Type),Nat→List V→List (List V)→List (List V)→(List (List V)→Bool→Option β)→Option β
def zg (β:Type) (L:Nat) (p0:List V) (p1 p2:List (List V)) (k_fin:List (List V)→Bool→Option β):Option β:=znB zc za yc zj L p0 p1 p2 k_fin
def zkj (zg:yJ) (L:Nat) (β:Type) (args:List V) (bor:Bor) (k:KK β):Option β:=match args,bor with
 | [a0,a1,a2],[]=>aG a0 fun p0=>aL 3 a1 fun p1=>aL 1 a2 fun p2=>zg β L p0 p1 p2 (fun zMc zMd=>k (V.tup [(V.gs 4 zMc),(V.sc (.bool zMd))]) [])
 | _,_=>none
theorem zAM (L:Nat) (β:Type) (args:List V) (bor:Bor) (k:KK β) (r:β) (h:zkj zg L β args bor k=some r):xt zcd (zca zc za yc zj L) L zdQ args bor k=some r:=by
 unfold zkj at h
 split at h
 ·have q:=xZ h; clear h; obtain ⟨p0,rfl,h⟩:=q
  have q:=y4 h; clear h; obtain ⟨p1,rfl,h⟩:=q
  have q:=y4 h; clear h; obtain ⟨p2,rfl,h⟩:=q
  exact (zBh zc za yc zj L p0 p1 p2 k).trans h
 ·cases h
def y7:CC:=(.seq (.reg [oo 57 (.bin .lss (tq 56) (tq 55))])
 (.seq (.cond (tq 57)
 .skip
 (.seq (.mask (bl 246290604627328 97) (bl 158456324987023501021241393071 97))
 (.exit 2)))
 (.seq (.block 3 (.seq (.reg [oo 58 (.indexAddrS 4 (tq 54) (tq 56)),
   oo 59 (.load true 4 (tq 58) false),
   oo 14 (.alloc true [(.sc (.int .i64 0)),(.sc (.int .u32 0)),(.sc (.int .u16 0)),(.sc (.int .u32 0))]),
   oz (.store 4 (tq 14) (tq 59))])
 (.seq (.dreg [] [(oo 60 (.fieldAddr 1 (tq 12)),q0),
   (oo 61 (.load true 3 (tq 60) false),ql 12 [14] []),
   (oo 62 (.call 269 [((tq 61),0)] []),qc [14] []),
   (oo 63 (.fieldAddr 1 (tq 14)),q0),
   (oo 64 (.load true 3 (tq 63) false),ql 14 [12] []),
   (oo 65 (.call 269 [((tq 64),0)] []),q0),
   (oo 66 (.bin .eql (tq 62) (tq 65)),q0)])
 (.cond (tq 66)
 (.seq (.reg [oo 4 (.move (.const (.sc (.bool false))) false)])
 (.seq (.mask (bl 16 97) (bl 158456324986987472224222421951 97))
 .ret))
 .skip))))
 (.reg [oo 67 (.bin .add (tq 56) (.const (.sc (.int .i64 1)))),
   oo 56 (.move (tq 67) false)]))))
def zaX:CC:=(.seq (.reg [oo 68 (.fieldAddr 0 (tq 12)),
   oo 69 (.load false 1 (tq 68) false),
   oo 70 (.bin .eql (tq 69) (.const (.sc (.int .i64 3))))])
 (.cond (tq 70)
 (.reg [oo 71 (.move (tq 10) false),
   oo 72 (.bin .add (tq 71) (.const (.sc (.int .i64 1)))),
   oo 10 (.move (tq 72) false)])
 .skip))
def zbg:CC:=(.reg [oo 73 (.bin .add (tq 47) (.const (.sc (.int .i64 1)))),
   oo 47 (.move (tq 73) false)])
def zak:CC:=(.seq (.reg [oo 48 (.bin .lss (tq 47) (tq 46))])
 (.seq (.cond (tq 48)
 .skip
 (.seq (.mask (bl 1408 97) (bl 158456324986987472224222422959 97))
 (.exit 0)))
 (.seq (.block 1 (.seq (.reg [oo 49 (.move (tq 47) false),
   oo 50 (.indexAddrS 4 (tq 45) (tq 47)),
   oo 51 (.load true 4 (tq 50) false),
   oo 12 (.alloc true [(.sc (.int .i64 0)),(.sc (.int .u32 0)),(.sc (.int .u16 0)),(.sc (.int .u32 0))]),
   oo 11 (.move (tq 49) false),
   oz (.store 4 (tq 12) (tq 51))])
 (.seq (.seq (.reg [oo 52 (.move (tq 8) false),
   oo 53 (.move (tq 11) false),
   oo 54 (.sliceS 4 (tq 52) none (some (tq 53)) none),
   oo 55 (.lenS (tq 54)),
   oo 56 (.move (.const (.sc (.int .i64 0))) false)])
 (.block 2 (.loop (bl 126347080171001216 97) (bl 158456324987023501021241393071 97)
 y7)))
 zaX)))
 zbg)))
def zcg:CC:=(.seq (.dreg [] [(oo 74 (.move (tq 10) false),q0),
   (oo 75 (.bin .leq (tq 74) (.const (.sc (.int .i64 1)))),q0),
   (oo 76 (.move (tq 75) false),q0),
   (⟨(some 77),false,(some (76,true)),.move (tq 8) false⟩,q0),
   (⟨(some 78),false,(some (76,true)),.indexAddrS 4 (tq 77) (.const (.sc (.int .i64 0)))⟩,q0),
   (⟨(some 79),false,(some (76,true)),.fieldAddr 0 (tq 78)⟩,q0),
   (⟨(some 80),false,(some (76,true)),.load false 1 (tq 79) false⟩,q0),
   (⟨(some 81),false,(some (76,true)),.bin .eql (tq 80) (.const (.sc (.int .i64 1)))⟩,q0),
   (oo 82 (.pick (tq 76) (tq 81) (.const (.sc (.bool false)))),q0),
   (oo 83 (.move (tq 82) false),q0),
   (⟨(some 84),false,(some (83,true)),.move (tq 8) false⟩,q0),
   (⟨(some 85),false,(some (83,true)),.indexAddrS 4 (tq 84) (.const (.sc (.int .i64 0)))⟩,q0),
   (⟨(some 86),false,(some (83,true)),.fieldAddr 1 (tq 85)⟩,q0),
   (⟨(some 87),false,(some (83,true)),.load true 3 (tq 86) false⟩,q1),
   (⟨(some 88),false,(some (83,true)),.move (tq 7) false⟩,q0),
   (⟨(some 89),false,(some (83,true)),.indexAddrS 3 (tq 88) (.const (.sc (.int .i64 0)))⟩,q0),
   (⟨(some 90),false,(some (83,true)),.load true 3 (tq 89) false⟩,q1),
   (⟨(some 91),false,(some (83,true)),.eqAgg false 3 (tq 87) (tq 90)⟩,q0),
   (oo 92 (.pick (tq 83) (tq 91) (.const (.sc (.bool false)))),q0),
   (oo 93 (.move (tq 92) false),q0),
   (⟨(some 94),false,(some (93,true)),.move (tq 8) false⟩,q0),
   (⟨(some 95),false,(some (93,true)),.call 270 [((tq 94),0)] []⟩,q0),
   (oo 96 (.pick (tq 93) (tq 95) (.const (.sc (.bool false)))),q0),
   (oo 4 (.move (tq 96) false),q0)])
 .ret)
def zaK:CF:=⟨97,[.tmp 4],
 (.seq (.reg [oo 4 (.move (.const (.sc (.bool false))) false)])
 (.seq (.seq (.reg [oo 15 (.call 259 [] []),
   oo 16 (.un .not (tq 15))])
 (.cond (tq 16)
 (.seq (.reg [oo 4 (.move (.const (.sc (.bool false))) false)])
 .ret)
 .skip))
 (.seq (.reg [oo 17 (.move (tq 0) false),
   oo 18 (.call 225 [((tq 17),0)] []),
   oo 5 (.move (tq 18) false)])
 (.seq (.reg [oo 19 (.move (tq 5) false),
   oo 20 (.call 260 [((tq 19),0)] []),
   oo 6 (.alloc true (rp 32 (.sc (.int .u8 0)) (rp 2 (.gs 5 []) []))),
   oz (.store 34 (tq 6) (tq 20))])
 (.seq (.reg [oo 21 (.move (tq 5) false),
   oo 22 (.call 262 [((tq 21),0)] []),
   oo 23 (.move (tq 5) false),
   oo 24 (.call 262 [((tq 23),0)] []),
   oo 25 (.buildSlice 3 2 [(.sc (.int .u32 0)),(.sc (.int .u16 0)),(.sc (.int .u32 0))] [(0,3,(tq 22)),(3,3,(tq 24))]),
   oo 7 (.move (tq 25) false)])
 (.seq (.reg [oo 27 (.load true 34 (tq 6) false),
   oo 28 (.move (tq 7) false),
   oo 29 (.move (tq 1) false),
   oo 30 (.call 268 [((tq 27),1),((tq 28),0),((tq 29),0)] []),
   oo 26 (.move (tq 30) true),
   oo 31 (.extract (tq 26) 0),
   oo 32 (.pull (tq 26) 1),
   oo 8 (.move (tq 31) true),
   oo 9 (.move (tq 32) false)])
 (.seq (.seq (.reg [oo 33 (.move (tq 9) false),
   oo 34 (.un .not (tq 33)),
   oo 35 (.move (tq 34) false),
   ⟨(some 36),false,(some (35,false)),.move (tq 8) false⟩,
   ⟨(some 37),false,(some (35,false)),.lenS (tq 36)⟩,
   ⟨(some 38),false,(some (35,false)),.bin .gtr (tq 37) (.const (.sc (.int .i64 8)))⟩,
   oo 39 (.pick (tq 35) (.const (.sc (.bool true))) (tq 38)),
   oo 40 (.move (tq 39) false),
   ⟨(some 41),false,(some (40,false)),.move (tq 8) false⟩,
   ⟨(some 42),false,(some (40,false)),.lenS (tq 41)⟩,
   ⟨(some 43),false,(some (40,false)),.bin .eql (tq 42) (.const (.sc (.int .i64 0)))⟩,
   oo 44 (.pick (tq 40) (.const (.sc (.bool true))) (tq 43))])
 (.cond (tq 44)
 (.seq (.reg [oo 4 (.move (.const (.sc (.bool false))) false)])
 .ret)
 .skip))
 (.seq (.reg [oo 10 (.move (.const (.sc (.int .i64 0))) false)])
 (.seq (.seq (.reg [oo 45 (.move (tq 8) false),
   oo 46 (.lenS (tq 45)),
   oo 47 (.move (.const (.sc (.int .i64 0))) false)])
 (.block 0 (.loop (bl 246290604623232 97) (bl 158456324986987472224222422959 97)
 zak)))
 zcg)))))))))⟩
def zjB:Hint:=⟨[(4,2),(6,4),(6,5),(6,7)],[],[none,none,none,none,none,some ((bl 246290604623232 97),(bl 158456324986987472224222422959 97)),none,some ((bl 1408 97),(bl 158456324986987472224222422959 97)),none,none,some ((bl 126347080171001216 97),(bl 158456324987023501021241393071 97)),none,some ((bl 246290604627328 97),(bl 158456324987023501021241393071 97)),none,none,some ((bl 16 97),(bl 158456324986987472224222421951 97)),none,none],[],[],false,false⟩
def xA:Nat→Sh:=xP [(80,(.int .i64)),(69,(.int .i64))]
def yA (xc:yt) (zc:zr) (xd:xv) (zd:zy) (zg:yJ) (xb:yu) (ya:zo) (L:Nat):CBC:=(zx 269 (zb4 ya L) (zx 270 (zeM xb L) (zx 268 (zkj zg L) (zx 262 (ziP zd L) (zx 260 (zg0 xd L) (zx 225 (zgr zc L) (zx 259 (zfL xc L) noC)))))))
def xT:St→St:=zaj 0 (bl 246290604623232 97) (bl 158456324986987472224222422959 97)
def zaG:St→St:=zaj 0 (bl 126347080171001216 97) (bl 158456324987023501021241393071 97)
def z9 (p7 p8:List (List V)) (p10:Int) (p45:List (List V)) (p46 p47:Int) (zKY:List (List V)) (zKZ:Int):St:=⟨(jn 7 ((V.sl 3 p7)::((V.gs 4 p8)::(jn 1 ((V.sc (.int .i64 p10))::(jn 34 ((V.sl 4 p45)::((V.sc (.int .i64 p46))::((V.sc (.int .i64 p47))::(jn 49 [])))))))))),(gn 18 ((.live false [(V.sl 1 zKY),(V.sc (.int .i64 zKZ))])::(gn 78 [])))⟩
def zau (p7 p8:List (List V)) (p10:Int) (p45:List (List V)) (p46 p47:Int) (p54:List (List V)) (p55 p56:Int) (b12:List V) (zKY:List (List V)) (zKZ:Int):St:=⟨(jn 7 ((V.sl 3 p7)::((V.gs 4 p8)::(jn 1 ((V.sc (.int .i64 p10))::(jn 1 ((V.ptr 12 0)::(jn 32 ((V.sl 4 p45)::((V.sc (.int .i64 p46))::((V.sc (.int .i64 p47))::(jn 6 ((V.sl 4 p54)::((V.sc (.int .i64 p55))::((V.sc (.int .i64 p56))::(jn 40 [])))))))))))))))),(gn 12 ((.live true b12)::(gn 5 ((.live false [(V.sl 1 zKY),(V.sc (.int .i64 zKZ))])::(gn 78 [])))))⟩
def zdd (p7 p8:List (List V)) (p10:Int) (zKY:List (List V)) (zKZ:Int):St:=⟨(jn 7 ((V.sl 3 p7)::((V.gs 4 p8)::(jn 1 ((V.sc (.int .i64 p10))::(jn 86 [])))))),(gn 18 ((.live false [(V.sl 1 zKY),(V.sc (.int .i64 zKZ))])::(gn 78 [])))⟩
def zaE (p4:Bool) (zKY:List (List V)) (zKZ:Int):St:=⟨(jn 4 ((V.sc (.bool p4))::(jn 92 []))),(gn 18 ((.live false [(V.sl 1 zKY),(V.sc (.int .i64 zKZ))])::(gn 78 [])))⟩
def ze5 (p7 p8:List (List V)) (p10:Int) (p45:List (List V)) (p46 p47:Int) (b12:List V) (zKY:List (List V)) (zKZ:Int):St:=⟨(jn 7 ((V.sl 3 p7)::((V.gs 4 p8)::(jn 1 ((V.sc (.int .i64 p10))::(jn 1 ((V.ptr 12 0)::(jn 32 ((V.sl 4 p45)::((V.sc (.int .i64 p46))::((V.sc (.int .i64 p47))::(jn 49 [])))))))))))),(gn 12 ((.live true b12)::(gn 5 ((.live false [(V.sl 1 zKY),(V.sc (.int .i64 zKZ))])::(gn 78 [])))))⟩
abbrev zcM (β:Type):Type:=List (List V)→List (List V)→Int→List (List V)→Int→Int→List (List V)→Int→Option β
abbrev zdi (β:Type):Type:=List (List V)→List (List V)→Int→List (List V)→Int→Int→List (List V)→Int→Int→List V→List (List V)→Int→Option β
abbrev zdI (β:Type):Type:=List (List V)→List (List V)→Int→List (List V)→Int→Option β
abbrev zfR (β:Type):Type:=List (List V)→List (List V)→Int→List (List V)→Int→Int→List V→List (List V)→Int→Option β
def zgV {β:Type} (xc:yt) (zc:zr) (xd:xv) (zd:zy) (zg:yJ) (xb:yu) (ya:zo) (L:Nat) (p0 p1:List (List V)) (k_fin:Bool→Option β) (k_hbbbbbbbbaba:zcM β):Option β :=
 xc β L  (fun v0 =>
 ifb (!v0) (
 k_fin false) (
 zc β L p0 (fun v1 v2 =>
 xd β L v1 v2 (fun v3 v4 v5 =>
 chk ((List.length v3)=34∧0+34≤34) (
 lt (zh (List.replicate 32 (V.sc (.int .u8 (0:Int)))++[(V.gs 5 ([]:List (List V))),(V.gs 5 ([]:List (List V)))]) 0 v3) fun r6 =>
 zd β L v4 v5 (fun v7 v8 v9 =>
 zd β L v8 v9 (fun v10 v11 v12 =>
 chk ((List.length v7)=3∧0+3≤6) (
 chk ((List.length v10)=3∧3+3≤(List.length (zh [(V.sc (.int .u32 (0:Int))),(V.sc (.int .u16 (0:Int))),(V.sc (.int .u32 (0:Int))),(V.sc (.int .u32 (0:Int))),(V.sc (.int .u16 (0:Int))),(V.sc (.int .u32 (0:Int)))] 0 v7))) (
 chk (0+34≤(List.length r6)) (
 zg β L (List.map V.dem (List.take 34 r6)) (zl 3 2 (zh (zh [(V.sc (.int .u32 (0:Int))),(V.sc (.int .u16 (0:Int))),(V.sc (.int .u32 (0:Int))),(V.sc (.int .u32 (0:Int))),(V.sc (.int .u16 (0:Int))),(V.sc (.int .u32 (0:Int)))] 0 v7) 3 v10)) p1 (fun v13 v14 =>
 ifb (!v14) (
 k_fin false) (
 ifb (decide (((List.length v13:Nat):Int) > (8:Int))) (
 k_fin false) (
 ifb ((((List.length v13:Nat):Int):Int) == (0:Int)) (
 k_fin false) (
 k_hbbbbbbbbaba (zl 3 2 (zh (zh [(V.sc (.int .u32 (0:Int))),(V.sc (.int .u16 (0:Int))),(V.sc (.int .u32 (0:Int))),(V.sc (.int .u32 (0:Int))),(V.sc (.int .u16 (0:Int))),(V.sc (.int .u32 (0:Int)))] 0 v7) 3 v10)) v13 (0:Int) v13 ((List.length v13:Nat):Int) (0:Int) v11 v12))))))))))))))
theorem zq2 {β:Type} (xc:yt) (zc:zr) (xd:xv) (zd:zy) (zg:yJ) (xb:yu) (ya:zo) (L:Nat) (p0 p1:List (List V)) (k:KK β):xt xA (yA xc zc xd zd zg xb ya L) L zaK [(V.sl 1 p0),(V.sl 1 p1)] [] k=zgV xc zc xd zd zg xb ya L p0 p1 (fun p0=>k (V.sc (.bool p0)) []) (fun p7 p8 p10 p45 p46 p47 zKY zKZ=>yF (xm xA (yA xc zc xd zd zg xb ya L) 0 L zak) xT L (z9 p7 p8 p10 p45 p46 p47 zKY zKZ) (xE 0 (xR (xm xA (yA xc zc xd zd zg xb ya L) 0 L zcg) (y5 0 (CF.res zaK) k)))):=by kernel_rfl
def zc9 {β:Type} (xc:yt) (zc:zr) (xd:xv) (zd:zy) (zg:yJ) (xb:yu) (ya:zo) (L:Nat) (p7 p8:List (List V)) (p10:Int) (p45:List (List V)) (p46 p47:Int) (zKY:List (List V)) (zKZ:Int) (k_hbbbbbbbbabaabbaababa:zdi β) (k_x0:zdI β):Option β :=
 ifb (decide (p47 < p46)) (
 idx p45 p47 fun c15 =>
 chk ((List.length (List.take 4 c15))=4∧0+4≤4) (
 lt (zh [(V.sc (.int .i64 (0:Int))),(V.sc (.int .u32 (0:Int))),(V.sc (.int .u16 (0:Int))),(V.sc (.int .u32 (0:Int)))] 0 (List.take 4 c15)) fun r16 =>
 chk (0≤p47∧p47≤(((List.length p8):Nat):Int)) (
 k_hbbbbbbbbabaabbaababa p7 p8 p10 p45 p46 p47 (List.take ((Int.toNat p47) - 0) (List.drop 0 p8)) ((List.length (List.take ((Int.toNat p47) - 0) (List.drop 0 p8)):Nat):Int) (0:Int) r16 zKY zKZ))) (
 k_x0 p7 p8 p10 zKY zKZ)
theorem zjO {β:Type} (xc:yt) (zc:zr) (xd:xv) (zd:zy) (zg:yJ) (xb:yu) (ya:zo) (L:Nat) (p7 p8:List (List V)) (p10:Int) (p45:List (List V)) (p46 p47:Int) (zKY:List (List V)) (zKZ:Int) (X:St→Option β) (K:KT β):xm xA (yA xc zc xd zd zg xb ya L) 0 L zak (z9 p7 p8 p10 p45 p46 p47 zKY zKZ) (zbR xT X K)=zc9 xc zc xd zd zg xb ya L p7 p8 p10 p45 p46 p47 zKY zKZ (fun p7 p8 p10 p45 p46 p47 p54 p55 p56 b12 zKY zKZ=>yF (xm xA (yA xc zc xd zd zg xb ya L) 0 L y7) zaG L (zau p7 p8 p10 p45 p46 p47 p54 p55 p56 b12 zKY zKZ) (xE 2 (xR (xm xA (yA xc zc xd zd zg xb ya L) 0 L zaX) (xE 1 (xR (xm xA (yA xc zc xd zd zg xb ya L) 0 L zbg) (zbR xT X K)))))) (fun p7 p8 p10 zKY zKZ=>K (.exit 0) (zdd p7 p8 p10 zKY zKZ)):=by kernel_rfl
def zcE {β:Type} (xc:yt) (zc:zr) (xd:xv) (zd:zy) (zg:yJ) (xb:yu) (ya:zo) (L:Nat) (p7 p8:List (List V)) (p10:Int) (zKY:List (List V)) (zKZ:Int) (k_fin:Bool→Option β):Option β :=
 ifb (decide (p10≤(1:Int))) (
 idx p8 (0:Int) fun c17 =>
 cI .i64 c17 0 fun v18 =>
 ifb ((v18:Int) == (1:Int)) (
 idx p8 (0:Int) fun c19 =>
 idx p7 (0:Int) fun c20 =>
 eqC 3 (List.take 3 (List.drop 1 c19)) (List.take 3 c20) fun v21 =>
 ifb v21 (
 xb β L p8 (fun v22 =>
 k_fin v22)) (
 k_fin false)) (
 k_fin false)) (
 k_fin false)
theorem zi4 {β:Type} (xc:yt) (zc:zr) (xd:xv) (zd:zy) (zg:yJ) (xb:yu) (ya:zo) (L:Nat) (p7 p8:List (List V)) (p10:Int) (zKY:List (List V)) (zKZ:Int) (k:KK β):(xE 0 (xR (xm xA (yA xc zc xd zd zg xb ya L) 0 L zcg) (y5 0 (CF.res zaK) k))) (.exit 0) (zdd p7 p8 p10 zKY zKZ)=zcE xc zc xd zd zg xb ya L p7 p8 p10 zKY zKZ (fun p0=>k (V.sc (.bool p0)) []):=by kernel_rfl
def zbE {β:Type} (xc:yt) (zc:zr) (xd:xv) (zd:zy) (zg:yJ) (xb:yu) (ya:zo) (L:Nat) (p7 p8:List (List V)) (p10:Int) (p45:List (List V)) (p46 p47:Int) (p54:List (List V)) (p55 p56:Int) (b12:List V) (zKY:List (List V)) (zKZ:Int) (k_ret:Bool→List (List V)→Int→Option β) (k_hbbbbbbbbabaabbaababa:zdi β) (k_x2:zfR β):Option β :=
 ifb (decide (p56 < p55)) (
 idx p54 p56 fun c23 =>
 chk ((List.length (List.take 4 c23))=4∧0+4≤4) (
 lt (zh [(V.sc (.int .i64 (0:Int))),(V.sc (.int .u32 (0:Int))),(V.sc (.int .u16 (0:Int))),(V.sc (.int .u32 (0:Int)))] 0 (List.take 4 c23)) fun r24 =>
 chk (1+3≤(List.length b12)) (
 ya β L (List.take 3 (List.drop 1 b12)) (fun v25 =>
 chk (1+3≤(List.length r24)) (
 ya β L (List.take 3 (List.drop 1 r24)) (fun v26 =>
 ifb ((v25:Int) == v26) (
 k_ret false zKY zKZ) (
 lt (IntKind.wrap .i64 ((p56:Int)+(1:Int))) fun x27 =>
 k_hbbbbbbbbabaabbaababa p7 p8 p10 p45 p46 p47 p54 p55 x27 b12 zKY zKZ))))))) (
 k_x2 p7 p8 p10 p45 p46 p47 b12 zKY zKZ)
theorem zgz {β:Type} (xc:yt) (zc:zr) (xd:xv) (zd:zy) (zg:yJ) (xb:yu) (ya:zo) (L:Nat) (p7 p8:List (List V)) (p10:Int) (p45:List (List V)) (p46 p47:Int) (p54:List (List V)) (p55 p56:Int) (b12:List V) (zKY:List (List V)) (zKZ:Int) (X:St→Option β) (K:KT β):xm xA (yA xc zc xd zd zg xb ya L) 0 L y7 (zau p7 p8 p10 p45 p46 p47 p54 p55 p56 b12 zKY zKZ) (zbR zaG X K)=zbE xc zc xd zd zg xb ya L p7 p8 p10 p45 p46 p47 p54 p55 p56 b12 zKY zKZ (fun p4 zKY zKZ=>K .ret (zaE p4 zKY zKZ)) (fun p7 p8 p10 p45 p46 p47 p54 p55 p56 b12 zKY zKZ=>X (zau p7 p8 p10 p45 p46 p47 p54 p55 p56 b12 zKY zKZ)) (fun p7 p8 p10 p45 p46 p47 b12 zKY zKZ=>K (.exit 2) (ze5 p7 p8 p10 p45 p46 p47 b12 zKY zKZ)):=by kernel_rfl
def zcT {β:Type} (xc:yt) (zc:zr) (xd:xv) (zd:zy) (zg:yJ) (xb:yu) (ya:zo) (L:Nat) (p4:Bool) (zKY:List (List V)) (zKZ:Int) (k_ret:Bool→List (List V)→Int→Option β):Option β :=
 k_ret p4 zKY zKZ
theorem zfE {β:Type} (xc:yt) (zc:zr) (xd:xv) (zd:zy) (zg:yJ) (xb:yu) (ya:zo) (L:Nat) (p4:Bool) (zKY:List (List V)) (zKZ:Int) (X:St→Option β) (K:KT β):(xE 2 (xR (xm xA (yA xc zc xd zd zg xb ya L) 0 L zaX) (xE 1 (xR (xm xA (yA xc zc xd zd zg xb ya L) 0 L zbg) (zbR xT X K))))) .ret (zaE p4 zKY zKZ)=zcT xc zc xd zd zg xb ya L p4 zKY zKZ (fun p4 zKY zKZ=>K .ret (zaE p4 zKY zKZ)):=by kernel_rfl
def zbr {β:Type} (xc:yt) (zc:zr) (xd:xv) (zd:zy) (zg:yJ) (xb:yu) (ya:zo) (L:Nat) (p7 p8:List (List V)) (p10:Int) (p45:List (List V)) (p46 p47:Int) (b12:List V) (zKY:List (List V)) (zKZ:Int) (k_hbbbbbbbbaba:zcM β):Option β :=
 cI .i64 b12 0 fun v28 =>
 ifb ((v28:Int) == (3:Int)) (
 lt (IntKind.wrap .i64 ((p10:Int)+(1:Int))) fun x29 =>
 lt (IntKind.wrap .i64 ((p47:Int)+(1:Int))) fun x30 =>
 k_hbbbbbbbbaba p7 p8 x29 p45 p46 x30 zKY zKZ) (
 lt (IntKind.wrap .i64 ((p47:Int)+(1:Int))) fun x31 =>
 k_hbbbbbbbbaba p7 p8 p10 p45 p46 x31 zKY zKZ)
theorem zf7 {β:Type} (xc:yt) (zc:zr) (xd:xv) (zd:zy) (zg:yJ) (xb:yu) (ya:zo) (L:Nat) (p7 p8:List (List V)) (p10:Int) (p45:List (List V)) (p46 p47:Int) (b12:List V) (zKY:List (List V)) (zKZ:Int) (X:St→Option β) (K:KT β):(xE 2 (xR (xm xA (yA xc zc xd zd zg xb ya L) 0 L zaX) (xE 1 (xR (xm xA (yA xc zc xd zd zg xb ya L) 0 L zbg) (zbR xT X K))))) (.exit 2) (ze5 p7 p8 p10 p45 p46 p47 b12 zKY zKZ)=zbr xc zc xd zd zg xb ya L p7 p8 p10 p45 p46 p47 b12 zKY zKZ (fun p7 p8 p10 p45 p46 p47 zKY zKZ=>X (z9 p7 p8 p10 p45 p46 p47 zKY zKZ)):=by kernel_rfl
def zex {β:Type} (xc:yt) (zc:zr) (xd:xv) (zd:zy) (zg:yJ) (xb:yu) (ya:zo) (L:Nat) (p4:Bool) (zKY:List (List V)) (zKZ:Int) (k_fin:Bool→Option β):Option β :=
 k_fin p4
theorem ziM {β:Type} (xc:yt) (zc:zr) (xd:xv) (zd:zy) (zg:yJ) (xb:yu) (ya:zo) (L:Nat) (p4:Bool) (zKY:List (List V)) (zKZ:Int) (k:KK β):(xE 0 (xR (xm xA (yA xc zc xd zd zg xb ya L) 0 L zcg) (y5 0 (CF.res zaK) k))) .ret (zaE p4 zKY zKZ)=zex xc zc xd zd zg xb ya L p4 zKY zKZ (fun p0=>k (V.sc (.bool p0)) []):=by kernel_rfl
def zaa {β:Type} (xc:yt) (zc:zr) (xd:xv) (zd:zy) (zg:yJ) (xb:yu) (ya:zo) (L:Nat) (k_ret:Bool→List (List V)→Int→Option β) (k_x2:zfR β):Nat→List (List V)→List (List V)→Int→List (List V)→Int→Int→List (List V)→Int→Int→List V→List (List V)→Int→Option β
 | 0,_,_,_,_,_,_,_,_,_,_,_,_=>none
 | n+1,p7,p8,p10,p45,p46,p47,p54,p55,p56,b12,zKY,zKZ=>zbE xc zc xd zd zg xb ya L p7 p8 p10 p45 p46 p47 p54 p55 p56 b12 zKY zKZ k_ret (fun p7 p8 p10 p45 p46 p47 p54 p55 p56 b12 zKY zKZ=>zaa xc zc xd zd zg xb ya L k_ret k_x2 n p7 p8 p10 p45 p46 p47 p54 p55 p56 b12 zKY zKZ) k_x2
theorem zcV {β:Type} (xc:yt) (zc:zr) (xd:xv) (zd:zy) (zg:yJ) (xb:yu) (ya:zo) (L:Nat) (K:KT β):∀ (n:Nat) (p7 p8:List (List V)) (p10:Int) (p45:List (List V)) (p46 p47:Int) (p54:List (List V)) (p55 p56:Int) (b12:List V) (zKY:List (List V)) (zKZ:Int),yF (xm xA (yA xc zc xd zd zg xb ya L) 0 L y7) zaG n (zau p7 p8 p10 p45 p46 p47 p54 p55 p56 b12 zKY zKZ) K=zaa xc zc xd zd zg xb ya L (fun p4 zKY zKZ=>K .ret (zaE p4 zKY zKZ)) (fun p7 p8 p10 p45 p46 p47 b12 zKY zKZ=>K (.exit 2) (ze5 p7 p8 p10 p45 p46 p47 b12 zKY zKZ)) n p7 p8 p10 p45 p46 p47 p54 p55 p56 b12 zKY zKZ:=by
 intro n
 induction n with
 | zero=>intros; rfl
 | succ n ih =>
  intro p7 p8 p10 p45 p46 p47 p54 p55 p56 b12 zKY zKZ
  refine (zgz xc zc xd zd zg xb ya L p7 p8 p10 p45 p46 p47 p54 p55 p56 b12 zKY zKZ (fun σ=>yF (xm xA (yA xc zc xd zd zg xb ya L) 0 L y7) zaG n σ K) K).trans ?_
  simp only [ih]
  rfl
def zbA {β:Type} (xc:yt) (zc:zr) (xd:xv) (zd:zy) (zg:yJ) (xb:yu) (ya:zo) (L:Nat) (p7 p8:List (List V)) (p10:Int) (p45:List (List V)) (p46 p47:Int) (zKY:List (List V)) (zKZ:Int) (k_x0:zdI β) (k_ret:Bool→List (List V)→Int→Option β) (k_hbbbbbbbbaba:zcM β):Option β :=
 zc9 xc zc xd zd zg xb ya L p7 p8 p10 p45 p46 p47 zKY zKZ (fun p7 p8 p10 p45 p46 p47 p54 p55 p56 b12 zKY zKZ=>zaa xc zc xd zd zg xb ya L (fun p4 zKY zKZ=>zcT xc zc xd zd zg xb ya L p4 zKY zKZ k_ret) (fun p7 p8 p10 p45 p46 p47 b12 zKY zKZ=>zbr xc zc xd zd zg xb ya L p7 p8 p10 p45 p46 p47 b12 zKY zKZ k_hbbbbbbbbaba) L p7 p8 p10 p45 p46 p47 p54 p55 p56 b12 zKY zKZ) k_x0
theorem zjG {β:Type} (xc:yt) (zc:zr) (xd:xv) (zd:zy) (zg:yJ) (xb:yu) (ya:zo) (L:Nat) (p7 p8:List (List V)) (p10:Int) (p45:List (List V)) (p46 p47:Int) (zKY:List (List V)) (zKZ:Int) (X:St→Option β) (K:KT β):xm xA (yA xc zc xd zd zg xb ya L) 0 L zak (z9 p7 p8 p10 p45 p46 p47 zKY zKZ) (zbR xT X K)=zbA xc zc xd zd zg xb ya L p7 p8 p10 p45 p46 p47 zKY zKZ (fun p7 p8 p10 zKY zKZ=>K (.exit 0) (zdd p7 p8 p10 zKY zKZ)) (fun p4 zKY zKZ=>K .ret (zaE p4 zKY zKZ)) (fun p7 p8 p10 p45 p46 p47 zKY zKZ=>X (z9 p7 p8 p10 p45 p46 p47 zKY zKZ)):=by
 refine (zjO xc zc xd zd zg xb ya L p7 p8 p10 p45 p46 p47 zKY zKZ X K).trans ?_
 unfold zbA
 first
  | (simp only [zcV,zfE,zf7]; done)
  | (simp only [zcV]; rfl)
def za4 {β:Type} (xc:yt) (zc:zr) (xd:xv) (zd:zy) (zg:yJ) (xb:yu) (ya:zo) (L:Nat) (k_x0:zdI β) (k_ret:Bool→List (List V)→Int→Option β):Nat→List (List V)→List (List V)→Int→List (List V)→Int→Int→List (List V)→Int→Option β
 | 0,_,_,_,_,_,_,_,_=>none
 | n+1,p7,p8,p10,p45,p46,p47,zKY,zKZ=>zbA xc zc xd zd zg xb ya L p7 p8 p10 p45 p46 p47 zKY zKZ k_x0 k_ret (fun p7 p8 p10 p45 p46 p47 zKY zKZ=>za4 xc zc xd zd zg xb ya L k_x0 k_ret n p7 p8 p10 p45 p46 p47 zKY zKZ)
theorem zeC {β:Type} (xc:yt) (zc:zr) (xd:xv) (zd:zy) (zg:yJ) (xb:yu) (ya:zo) (L:Nat) (K:KT β):∀ (n:Nat) (p7 p8:List (List V)) (p10:Int) (p45:List (List V)) (p46 p47:Int) (zKY:List (List V)) (zKZ:Int),yF (xm xA (yA xc zc xd zd zg xb ya L) 0 L zak) xT n (z9 p7 p8 p10 p45 p46 p47 zKY zKZ) K=za4 xc zc xd zd zg xb ya L (fun p7 p8 p10 zKY zKZ=>K (.exit 0) (zdd p7 p8 p10 zKY zKZ)) (fun p4 zKY zKZ=>K .ret (zaE p4 zKY zKZ)) n p7 p8 p10 p45 p46 p47 zKY zKZ:=by
 intro n
 induction n with
 | zero=>intros; rfl
 | succ n ih =>
  intro p7 p8 p10 p45 p46 p47 zKY zKZ
  refine (zjG xc zc xd zd zg xb ya L p7 p8 p10 p45 p46 p47 zKY zKZ (fun σ=>yF (xm xA (yA xc zc xd zd zg xb ya L) 0 L zak) xT n σ K) K).trans ?_
  simp only [ih]
  rfl
def zej {β:Type} (xc:yt) (zc:zr) (xd:xv) (zd:zy) (zg:yJ) (xb:yu) (ya:zo) (L:Nat) (p0 p1:List (List V)) (k_fin:Bool→Option β):Option β :=
 zgV xc zc xd zd zg xb ya L p0 p1 k_fin (fun p7 p8 p10 p45 p46 p47 zKY zKZ=>za4 xc zc xd zd zg xb ya L (fun p7 p8 p10 zKY zKZ=>zcE xc zc xd zd zg xb ya L p7 p8 p10 zKY zKZ k_fin) (fun p4 zKY zKZ=>zex xc zc xd zd zg xb ya L p4 zKY zKZ k_fin) L p7 p8 p10 p45 p46 p47 zKY zKZ)
theorem zqO {β:Type} (xc:yt) (zc:zr) (xd:xv) (zd:zy) (zg:yJ) (xb:yu) (ya:zo) (L:Nat) (p0 p1:List (List V)) (k:KK β):xt xA (yA xc zc xd zd zg xb ya L) L zaK [(V.sl 1 p0),(V.sl 1 p1)] [] k=zej xc zc xd zd zg xb ya L p0 p1 (fun p0=>k (V.sc (.bool p0)) []):=by
 refine (zq2 xc zc xd zd zg xb ya L p0 p1 k).trans ?_
 unfold zej
 first
  | (simp only [zeC,zi4,ziM]; done)
  | (simp only [zeC]; rfl)
abbrev zte:=∀ (β:Type),Nat→List (List V)→List (List V)→(Bool→Option β)→Option β
def zcj (β:Type) (L:Nat) (p0 p1:List (List V)) (k_fin:Bool→Option β):Option β:=zej xc zc xd zd zg xb ya L p0 p1 k_fin
def zg1 (zcj:zte) (L:Nat) (β:Type) (args:List V) (bor:Bor) (k:KK β):Option β:=match args,bor with
 | [a0,a1],[]=>aL 1 a0 fun p0=>aL 1 a1 fun p1=>zcj β L p0 p1 (fun p0=>k (V.sc (.bool p0)) [])
 | _,_=>none
theorem zq8 (L:Nat) (β:Type) (args:List V) (bor:Bor) (k:KK β) (r:β) (h:zg1 zcj L β args bor k=some r):xt xA (yA xc zc xd zd zg xb ya L) L zaK args bor k=some r:=by
 unfold zg1 at h
 split at h
 ·have q:=y4 h; clear h; obtain ⟨p0,rfl,h⟩:=q
  have q:=y4 h; clear h; obtain ⟨p1,rfl,h⟩:=q
  exact (zqO xc zc xd zd zg xb ya L p0 p1 k).trans h
 ·cases h
def zob:CC:=(.seq (.reg [oo 26 (.bin .lss (tq 25) (tq 24))])
 (.seq (.cond (tq 26)
 .skip
 (.seq (.mask (bl 3840 81) (bl 2417851350435691726081983 81))
 (.exit 0)))
 (.seq (.block 1 (.seq (.reg [oo 27 (.move (tq 25) false),
   oo 12 (.move (tq 27) false)])
 (.seq (.reg [oo 29 (.load true 34 (tq 8) false),
   oo 30 (.move (tq 1) false),
   oo 31 (.bin .rem (tq 30) (.const (.sc (.int .u64 1152921504606846976)))),
   oo 32 (.move (tq 12) false),
   oo 33 (.conv .u64 (tq 32)),
   oo 34 (.bin .add (tq 31) (tq 33)),
   oo 35 (.call 263 [((tq 29),1),((.const (.gs 3 [])),0),((.const (.gs 4 [])),0),((tq 34),0)] []),
   oo 28 (.move (tq 35) true),
   oo 36 (.pull (tq 28) 0),
   oo 37 (.pull (tq 28) 1),
   oo 13 (.alloc true [(.sc (.int .i64 0)),(.sc (.int .u32 0)),(.sc (.int .u16 0)),(.sc (.int .u32 0))]),
   oz (.store 4 (tq 13) (tq 36)),
   oo 14 (.move (tq 37) false)])
 (.seq (.seq (.reg [oo 38 (.move (tq 14) false),
   oo 39 (.bin .neq (tq 38) (.const (.sc (.int .i64 0)))),
   oo 40 (.move (tq 39) false),
   ⟨(some 41),false,(some (40,false)),.fieldAddr 0 (tq 13)⟩,
   ⟨(some 42),false,(some (40,false)),.load false 1 (tq 41) false⟩,
   ⟨(some 43),false,(some (40,false)),.bin .neq (tq 42) (.const (.sc (.int .i64 2)))⟩,
   oo 44 (.pick (tq 40) (.const (.sc (.bool true))) (tq 43))])
 (.cond (tq 44)
 (.seq (.reg [oo 6 (.move (.const (.sc (.bool false))) false)])
 (.seq (.mask (bl 64 81) (bl 2417851350435691726078719 81))
 .ret))
 .skip))
 (.seq (.seq (.reg [oo 45 (.move (tq 9) false),
   oo 46 (.move (tq 12) false),
   oo 47 (.indexAddrS 3 (tq 45) (tq 46)),
   oo 48 (.load true 3 (tq 47) false),
   oo 49 (.call 269 [((tq 48),0)] []),
   oo 50 (.bin .rem (tq 49) (.const (.sc (.int .u32 3)))),
   oo 51 (.move (tq 2) false),
   oo 52 (.bin .rem (tq 51) (.const (.sc (.int .u32 3)))),
   oo 53 (.bin .eql (tq 50) (tq 52))])
 (.cond (tq 53)
 (.reg [oo 54 (.move (tq 10) false),
   oo 55 (.bin .add (tq 54) (.const (.sc (.int .i64 1)))),
   oo 10 (.move (tq 55) false)])
 .skip))
 (.seq (.reg [oo 56 (.fieldAddr 1 (tq 13)),
   oo 57 (.load true 3 (tq 56) false),
   oo 58 (.call 269 [((tq 57),0)] []),
   oo 59 (.bin .rem (tq 58) (.const (.sc (.int .u32 3)))),
   oo 60 (.move (tq 2) false),
   oo 61 (.bin .rem (tq 60) (.const (.sc (.int .u32 3)))),
   oo 62 (.bin .eql (tq 59) (tq 61))])
 (.cond (tq 62)
 (.reg [oo 63 (.move (tq 11) false),
   oo 64 (.bin .add (tq 63) (.const (.sc (.int .i64 1)))),
   oo 11 (.move (tq 64) false)])
 .skip)))))))
 (.reg [oo 65 (.bin .add (tq 25) (.const (.sc (.int .i64 1)))),
   oo 25 (.move (tq 65) false)]))))
def zp6:CC:=(.seq (.reg [oo 66 (.move (tq 10) false),
   oo 67 (.move (tq 11) false),
   oo 68 (.bin .eql (tq 66) (tq 67)),
   oo 69 (.move (tq 68) false),
   ⟨(some 70),false,(some (69,true)),.move (tq 9) false⟩,
   ⟨(some 71),false,(some (69,true)),.lenS (tq 70)⟩,
   ⟨(some 72),false,(some (69,true)),.fieldAddr 32 (tq 8)⟩,
   ⟨(some 73),false,(some (69,true)),.load false 1 (tq 72) false⟩,
   ⟨(some 74),false,(some (69,true)),.lenS (tq 73)⟩,
   ⟨(some 75),false,(some (69,true)),.fieldAddr 33 (tq 8)⟩,
   ⟨(some 76),false,(some (69,true)),.load false 1 (tq 75) false⟩,
   ⟨(some 77),false,(some (69,true)),.lenS (tq 76)⟩,
   ⟨(some 78),false,(some (69,true)),.bin .add (tq 74) (tq 77)⟩,
   ⟨(some 79),false,(some (69,true)),.bin .eql (tq 71) (tq 78)⟩,
   oo 80 (.pick (tq 69) (tq 79) (.const (.sc (.bool false)))),
   oo 6 (.move (tq 80) false)])
 .ret)
def znh:CF:=⟨81,[.tmp 6],
 (.seq (.reg [oo 6 (.move (.const (.sc (.bool false))) false)])
 (.seq (.seq (.reg [oo 15 (.call 259 [] []),
   oo 16 (.un .not (tq 15))])
 (.cond (tq 16)
 (.seq (.reg [oo 6 (.move (.const (.sc (.bool false))) false)])
 .ret)
 .skip))
 (.seq (.reg [oo 17 (.move (tq 0) false),
   oo 18 (.call 225 [((tq 17),0)] []),
   oo 7 (.move (tq 18) false)])
 (.seq (.reg [oo 19 (.move (tq 7) false),
   oo 20 (.call 260 [((tq 19),0)] []),
   oo 8 (.alloc true (rp 32 (.sc (.int .u8 0)) (rp 2 (.gs 5 []) []))),
   oz (.store 34 (tq 8) (tq 20))])
 (.seq (.reg [oo 21 (.load true 34 (tq 8) false),
   oo 22 (.call 266 [((tq 21),1),((.const (.gs 4 [])),0),((.const (.sc (.int .i64 2))),0)] []),
   oo 9 (.move (tq 22) false)])
 (.seq (.reg [oo 10 (.move (.const (.sc (.int .i64 0))) false),
   oo 11 (.move (.const (.sc (.int .i64 0))) false)])
 (.seq (.seq (.reg [oo 23 (.move (tq 9) false),
   oo 24 (.lenS (tq 23)),
   oo 25 (.move (.const (.sc (.int .i64 0))) false)])
 (.block 0 (.loop (bl 50335494 81) (bl 2417851350435691726081983 81)
 zob)))
 zp6)))))))⟩
def zlA:Hint:=⟨[(4,2),(10,7)],[],[none,none,none,some ((bl 50335494 81),(bl 2417851350435691726081983 81)),none,some ((bl 3840 81),(bl 2417851350435691726081983 81)),none,none,some ((bl 64 81),(bl 2417851350435691726078719 81)),none,none,none],[],[],false,false⟩
def zF9:Nat→Sh:=xP [(42,(.int .i64)),(73,(.sl 5)),(76,(.sl 5))]
def zFN (xc:yt) (zc:zr) (xd:xv) (yb:yn) (yc:zs) (ya:zo) (L:Nat):CBC:=(zx 269 (zb4 ya L) (zx 263 (zdl yc L) (zx 266 (zcG yb L) (zx 260 (zg0 xd L) (zx 225 (zgr zc L) (zx 259 (zfL xc L) noC))))))
def zBW:St→St:=zaj 0 (bl 50335494 81) (bl 2417851350435691726081983 81)
def zzQ (p1 p2:Int) (p9:List (List V)) (p10 p11 p24 p25:Int) (b8:List V) (zKY:List (List V)) (zKZ:Int):St:=⟨(jn 1 ((V.sc (.int .u64 p1))::((V.sc (.int .u32 p2))::(jn 5 ((V.ptr 8 0)::((V.sl 3 p9)::((V.sc (.int .i64 p10))::((V.sc (.int .i64 p11))::(jn 12 ((V.sc (.int .i64 p24))::((V.sc (.int .i64 p25))::(jn 55 [])))))))))))),(gn 8 ((.live true b8)::(gn 9 ((.live false [(V.sl 1 zKY),(V.sc (.int .i64 zKZ))])::(gn 62 [])))))⟩
def zEl (p6:Bool) (zKY:List (List V)) (zKZ:Int):St:=⟨(jn 6 ((V.sc (.bool p6))::(jn 74 []))),(gn 18 ((.live false [(V.sl 1 zKY),(V.sc (.int .i64 zKZ))])::(gn 62 [])))⟩
def zES (p9:List (List V)) (p10 p11:Int) (b8:List V) (zKY:List (List V)) (zKZ:Int):St:=⟨(jn 8 ((V.ptr 8 0)::((V.sl 3 p9)::((V.sc (.int .i64 p10))::((V.sc (.int .i64 p11))::(jn 69 [])))))),(gn 8 ((.live true b8)::(gn 9 ((.live false [(V.sl 1 zKY),(V.sc (.int .i64 zKZ))])::(gn 62 [])))))⟩
abbrev zg9 (β:Type):Type:=Int→Int→List (List V)→Int→Int→Int→Int→List V→List (List V)→Int→Option β
abbrev zmB (β:Type):Type:=List (List V)→Int→Int→List V→List (List V)→Int→Option β
def zwb {β:Type} (xc:yt) (zc:zr) (xd:xv) (yb:yn) (yc:zs) (ya:zo) (L:Nat) (p0:List (List V)) (p1 p2:Int) (k_fin:Bool→Option β) (k_hbbbbbbaba:zg9 β):Option β :=
 xc β L  (fun v0 =>
 ifb (!v0) (
 k_fin false) (
 zc β L p0 (fun v1 v2 =>
 xd β L v1 v2 (fun v3 v4 v5 =>
 chk ((List.length v3)=34∧0+34≤34) (
 lt (zh (List.replicate 32 (V.sc (.int .u8 (0:Int)))++[(V.gs 5 ([]:List (List V))),(V.gs 5 ([]:List (List V)))]) 0 v3) fun r6 =>
 chk (0+34≤(List.length r6)) (
 yb β L (List.map V.dem (List.take 34 r6)) ([]:List (List V)) (2:Int) (fun v7 =>
 k_hbbbbbbaba p1 p2 v7 (0:Int) (0:Int) ((List.length v7:Nat):Int) (0:Int) r6 v4 v5)))))))
def zoW {β:Type} (xc:yt) (zc:zr) (xd:xv) (yb:yn) (yc:zs) (ya:zo) (L:Nat) (p1 p2:Int) (p9:List (List V)) (p10 p11 p24 p25:Int) (b8:List V) (zKY:List (List V)) (zKZ:Int) (k_ret:Bool→List (List V)→Int→Option β) (k_hbbbbbbaba:zg9 β) (k_x0:zmB β):Option β :=
 ifb (decide (p25 < p24)) (
 chk (0+34≤(List.length b8)) (
 lt (Int.tmod p1 (1152921504606846976:Int)) fun x8 =>
 lt (IntKind.wrap .u64 p25) fun x9 =>
 lt (IntKind.wrap .u64 ((x8:Int)+x9)) fun x10 =>
 yc β L (List.map V.dem (List.take 34 b8)) ([]:List (List V)) ([]:List (List V)) x10 (fun v11 v12 =>
 chk ((List.length v11)=4∧0+4≤4) (
 lt (zh [(V.sc (.int .i64 (0:Int))),(V.sc (.int .u32 (0:Int))),(V.sc (.int .u16 (0:Int))),(V.sc (.int .u32 (0:Int)))] 0 v11) fun r13 =>
 ifb ((v12:Int) != (0:Int)) (
 k_ret false zKY zKZ) (
 cI .i64 r13 0 fun v14 =>
 ifb ((v14:Int) != (2:Int)) (
 k_ret false zKY zKZ) (
 idx p9 p25 fun c15 =>
 ya β L (List.take 3 c15) (fun v16 =>
 lt (Int.tmod v16 (3:Int)) fun x17 =>
 lt (Int.tmod p2 (3:Int)) fun x18 =>
 ifb ((x17:Int) == x18) (
 lt (IntKind.wrap .i64 ((p10:Int)+(1:Int))) fun x19 =>
 chk (1+3≤(List.length r13)) (
 ya β L (List.take 3 (List.drop 1 r13)) (fun v20 =>
 lt (Int.tmod v20 (3:Int)) fun x21 =>
 lt (Int.tmod p2 (3:Int)) fun x22 =>
 ifb ((x21:Int) == x22) (
 lt (IntKind.wrap .i64 ((p11:Int)+(1:Int))) fun x23 =>
 lt (IntKind.wrap .i64 ((p25:Int)+(1:Int))) fun x24 =>
 k_hbbbbbbaba p1 p2 p9 x19 x23 p24 x24 b8 zKY zKZ) (
 lt (IntKind.wrap .i64 ((p25:Int)+(1:Int))) fun x25 =>
 k_hbbbbbbaba p1 p2 p9 x19 p11 p24 x25 b8 zKY zKZ)))) (
 chk (1+3≤(List.length r13)) (
 ya β L (List.take 3 (List.drop 1 r13)) (fun v26 =>
 lt (Int.tmod v26 (3:Int)) fun x27 =>
 lt (Int.tmod p2 (3:Int)) fun x28 =>
 ifb ((x27:Int) == x28) (
 lt (IntKind.wrap .i64 ((p11:Int)+(1:Int))) fun x29 =>
 lt (IntKind.wrap .i64 ((p25:Int)+(1:Int))) fun x30 =>
 k_hbbbbbbaba p1 p2 p9 p10 x29 p24 x30 b8 zKY zKZ) (
 lt (IntKind.wrap .i64 ((p25:Int)+(1:Int))) fun x31 =>
 k_hbbbbbbaba p1 p2 p9 p10 p11 p24 x31 b8 zKY zKZ))))))))))) (
 k_x0 p9 p10 p11 b8 zKY zKZ)
def zmU {β:Type} (xc:yt) (zc:zr) (xd:xv) (yb:yn) (yc:zs) (ya:zo) (L:Nat) (p6:Bool) (zKY:List (List V)) (zKZ:Int) (k_fin:Bool→Option β):Option β :=
 k_fin p6
def znS {β:Type} (xc:yt) (zc:zr) (xd:xv) (yb:yn) (yc:zs) (ya:zo) (L:Nat) (p9:List (List V)) (p10 p11:Int) (b8:List V) (zKY:List (List V)) (zKZ:Int) (k_fin:Bool→Option β):Option β :=
 ifb ((p10:Int) == p11) (
 cLd 5 b8 32 fun v32 =>
 cLd 5 b8 33 fun v33 =>
 lt (IntKind.wrap .i64 ((((List.length v32:Nat):Int):Int)+((List.length v33:Nat):Int))) fun x34 =>
 k_fin ((((List.length p9:Nat):Int):Int) == x34)) (
 k_fin false)
def zhG {β:Type} (xc:yt) (zc:zr) (xd:xv) (yb:yn) (yc:zs) (ya:zo) (L:Nat) (k_ret:Bool→List (List V)→Int→Option β) (k_x0:zmB β):Nat→Int→Int→List (List V)→Int→Int→Int→Int→List V→List (List V)→Int→Option β
 | 0,_,_,_,_,_,_,_,_,_,_=>none
 | n+1,p1,p2,p9,p10,p11,p24,p25,b8,zKY,zKZ=>zoW xc zc xd yb yc ya L p1 p2 p9 p10 p11 p24 p25 b8 zKY zKZ k_ret (fun p1 p2 p9 p10 p11 p24 p25 b8 zKY zKZ=>zhG xc zc xd yb yc ya L k_ret k_x0 n p1 p2 p9 p10 p11 p24 p25 b8 zKY zKZ) k_x0
def zww {β:Type} (xc:yt) (zc:zr) (xd:xv) (yb:yn) (yc:zs) (ya:zo) (L:Nat) (p0:List (List V)) (p1 p2:Int) (k_fin:Bool→Option β):Option β :=
 zwb xc zc xd yb yc ya L p0 p1 p2 k_fin (fun p1 p2 p9 p10 p11 p24 p25 b8 zKY zKZ=>zhG xc zc xd yb yc ya L (fun p6 zKY zKZ=>zmU xc zc xd yb yc ya L p6 zKY zKZ k_fin) (fun p9 p10 p11 b8 zKY zKZ=>znS xc zc xd yb yc ya L p9 p10 p11 b8 zKY zKZ k_fin) L p1 p2 p9 p10 p11 p24 p25 b8 zKY zKZ)
abbrev zwm:=∀ (β:Type),Nat→List (List V)→Int→Int→(Bool→Option β)→Option β
def zoA (β:Type) (L:Nat) (p0:List (List V)) (p1 p2:Int) (k_fin:Bool→Option β):Option β:=zww xc zc xd yb yc ya L p0 p1 p2 k_fin
def zGL (zoA:zwm) (L:Nat) (β:Type) (args:List V) (bor:Bor) (k:KK β):Option β:=match args,bor with
 | [a0,a1,a2],[]=>aL 1 a0 fun p0=>aI .u64 a1 fun p1=>aI .u32 a2 fun p2=>zoA β L p0 p1 p2 (fun p0=>k (V.sc (.bool p0)) [])
 | _,_=>none
def zmf:CC:=(.seq (.reg [oo 29 (.bin .lss (tq 28) (tq 27))])
 (.seq (.cond (tq 29)
 .skip
 (.seq (.mask (bl 1540 47) (bl 140720308481919 47))
 (.exit 0)))
 (.seq (.block 1 (.seq (.reg [oo 30 (.indexAddrS 4 (tq 26) (tq 28)),
   oo 31 (.load true 4 (tq 30) false),
   oo 12 (.alloc true [(.sc (.int .i64 0)),(.sc (.int .u32 0)),(.sc (.int .u16 0)),(.sc (.int .u32 0))]),
   oz (.store 4 (tq 12) (tq 31))])
 (.seq (.reg [oo 32 (.fieldAddr 1 (tq 12)),
   oo 33 (.load true 3 (tq 32) false),
   oo 34 (.call 269 [((tq 33),0)] []),
   oo 35 (.move (tq 2) false),
   oo 36 (.conv .u32 (tq 35)),
   oo 37 (.bin .lss (tq 34) (tq 36))])
 (.cond (tq 37)
 (.reg [oo 38 (.move (tq 10) false),
   oo 39 (.bin .add (tq 38) (.const (.sc (.int .i64 1)))),
   oo 10 (.move (tq 39) false)])
 .skip))))
 (.reg [oo 40 (.bin .add (tq 28) (.const (.sc (.int .i64 1)))),
   oo 28 (.move (tq 40) false)]))))
def zoe:CC:=(.seq (.reg [oo 41 (.move (tq 9) false),
   oo 42 (.move (tq 41) false),
   ⟨(some 43),false,(some (42,true)),.move (tq 10) false⟩,
   ⟨(some 44),false,(some (42,true)),.move (tq 2) false⟩,
   ⟨(some 45),false,(some (42,true)),.bin .leq (tq 43) (tq 44)⟩,
   oo 46 (.pick (tq 42) (tq 45) (.const (.sc (.bool false)))),
   oo 6 (.move (tq 46) false)])
 .ret)
def zk0:CF:=⟨47,[.tmp 6],
 (.seq (.reg [oo 6 (.move (.const (.sc (.bool false))) false)])
 (.seq (.seq (.reg [oo 13 (.call 259 [] []),
   oo 14 (.un .not (tq 13))])
 (.cond (tq 14)
 (.seq (.reg [oo 6 (.move (.const (.sc (.bool false))) false)])
 .ret)
 .skip))
 (.seq (.reg [oo 15 (.move (tq 0) false),
   oo 16 (.call 225 [((tq 15),0)] []),
   oo 17 (.call 260 [((tq 16),0)] []),
   oo 7 (.alloc true (rp 32 (.sc (.int .u8 0)) (rp 2 (.gs 5 []) []))),
   oz (.store 34 (tq 7) (tq 17))])
 (.seq (.reg [oo 19 (.load true 34 (tq 7) false),
   oo 20 (.move (tq 1) false),
   oo 21 (.call 268 [((tq 19),1),((.const (.gs 3 [])),0),((tq 20),0)] []),
   oo 18 (.move (tq 21) true),
   oo 22 (.extract (tq 18) 0),
   oo 23 (.pull (tq 18) 1),
   oo 8 (.move (tq 22) false),
   oo 9 (.move (tq 23) false)])
 (.seq (.reg [oo 24 (.move (tq 2) false),
   oo 25 (.call 217 [((tq 24),0),((.const (.sc (.int .i64 7))),0)] []),
   oo 2 (.move (tq 25) false)])
 (.seq (.reg [oo 10 (.move (.const (.sc (.int .i64 0))) false)])
 (.seq (.seq (.reg [oo 26 (.move (tq 8) false),
   oo 27 (.lenS (tq 26)),
   oo 28 (.move (.const (.sc (.int .i64 0))) false)])
 (.block 0 (.loop (bl 469763588 47) (bl 140720308481919 47)
 zmf)))
 zoe)))))))⟩
def zjg:Hint:=⟨[(3,3),(4,3),(4,4)],[],[none,none,none,some ((bl 469763588 47),(bl 140720308481919 47)),none,some ((bl 1540 47),(bl 140720308481919 47)),none,none,none],[],[],false,false⟩
def zET:Nat→Sh:=xP []
def zEW (xc:yt) (zc:zr) (xd:xv) (zg:yJ) (zp:zY) (ya:zo) (L:Nat):CBC:=(zx 269 (zb4 ya L) (zx 217 (zkT zp L) (zx 268 (zkj zg L) (zx 260 (zg0 xd L) (zx 225 (zgr zc L) (zx 259 (zfL xc L) noC))))))
def zzO:St→St:=zaj 0 (bl 469763588 47) (bl 140720308481919 47)
def zyq (p2:Int) (p9:Bool) (p10:Int) (p26:List (List V)) (p27 p28:Int) (zLT:List (List V)) (zLU:Int):St:=⟨(jn 2 ((V.sc (.int .i64 p2))::(jn 6 ((V.sc (.bool p9))::((V.sc (.int .i64 p10))::(jn 15 ((V.sl 4 p26)::((V.sc (.int .i64 p27))::((V.sc (.int .i64 p28))::(jn 18 [])))))))))),(gn 16 ((.live false [(V.sl 1 zLT),(V.sc (.int .i64 zLU))])::(gn 30 [])))⟩
def zDu (p2:Int) (p9:Bool) (p10:Int) (zLT:List (List V)) (zLU:Int):St:=⟨(jn 2 ((V.sc (.int .i64 p2))::(jn 6 ((V.sc (.bool p9))::((V.sc (.int .i64 p10))::(jn 36 [])))))),(gn 16 ((.live false [(V.sl 1 zLT),(V.sc (.int .i64 zLU))])::(gn 30 [])))⟩
abbrev zfP (β:Type):Type:=Int→Bool→Int→List (List V)→Int→Int→List (List V)→Int→Option β
def ztJ {β:Type} (xc:yt) (zc:zr) (xd:xv) (zg:yJ) (zp:zY) (ya:zo) (L:Nat) (p0 p1:List (List V)) (p2:Int) (k_fin:Bool→Option β) (k_hbbbbbbaba:zfP β):Option β :=
 xc β L  (fun v0 =>
 ifb (!v0) (
 k_fin false) (
 zc β L p0 (fun v1 v2 =>
 xd β L v1 v2 (fun v3 v4 v5 =>
 chk ((List.length v3)=34∧0+34≤34) (
 lt (zh (List.replicate 32 (V.sc (.int .u8 (0:Int)))++[(V.gs 5 ([]:List (List V))),(V.gs 5 ([]:List (List V)))]) 0 v3) fun r6 =>
 chk (0+34≤(List.length r6)) (
 zg β L (List.map V.dem (List.take 34 r6)) ([]:List (List V)) p1 (fun v7 v8 =>
 zp β L p2 (7:Int) (fun v9 =>
 k_hbbbbbbaba v9 v8 (0:Int) v7 ((List.length v7:Nat):Int) (0:Int) v4 v5))))))))
def zmV {β:Type} (xc:yt) (zc:zr) (xd:xv) (zg:yJ) (zp:zY) (ya:zo) (L:Nat) (p2:Int) (p9:Bool) (p10:Int) (p26:List (List V)) (p27 p28:Int) (zLT:List (List V)) (zLU:Int) (k_hbbbbbbaba:zfP β) (k_x0:Int→Bool→Int→List (List V)→Int→Option β):Option β :=
 ifb (decide (p28 < p27)) (
 idx p26 p28 fun c10 =>
 chk ((List.length (List.take 4 c10))=4∧0+4≤4) (
 lt (zh [(V.sc (.int .i64 (0:Int))),(V.sc (.int .u32 (0:Int))),(V.sc (.int .u16 (0:Int))),(V.sc (.int .u32 (0:Int)))] 0 (List.take 4 c10)) fun r11 =>
 chk (1+3≤(List.length r11)) (
 ya β L (List.take 3 (List.drop 1 r11)) (fun v12 =>
 lt (IntKind.wrap .u32 p2) fun x13 =>
 ifb (decide (v12 < x13)) (
 lt (IntKind.wrap .i64 ((p10:Int)+(1:Int))) fun x14 =>
 lt (IntKind.wrap .i64 ((p28:Int)+(1:Int))) fun x15 =>
 k_hbbbbbbaba p2 p9 x14 p26 p27 x15 zLT zLU) (
 lt (IntKind.wrap .i64 ((p28:Int)+(1:Int))) fun x16 =>
 k_hbbbbbbaba p2 p9 p10 p26 p27 x16 zLT zLU))))) (
 k_x0 p2 p9 p10 zLT zLU)
def zlH {β:Type} (xc:yt) (zc:zr) (xd:xv) (zg:yJ) (zp:zY) (ya:zo) (L:Nat) (p2:Int) (p9:Bool) (p10:Int) (zLT:List (List V)) (zLU:Int) (k_fin:Bool→Option β):Option β :=
 ifb p9 (
 k_fin (decide (p10≤p2))) (
 k_fin false)
def zga {β:Type} (xc:yt) (zc:zr) (xd:xv) (zg:yJ) (zp:zY) (ya:zo) (L:Nat) (k_x0:Int→Bool→Int→List (List V)→Int→Option β):Nat→Int→Bool→Int→List (List V)→Int→Int→List (List V)→Int→Option β
 | 0,_,_,_,_,_,_,_,_=>none
 | n+1,p2,p9,p10,p26,p27,p28,zLT,zLU=>zmV xc zc xd zg zp ya L p2 p9 p10 p26 p27 p28 zLT zLU (fun p2 p9 p10 p26 p27 p28 zLT zLU=>zga xc zc xd zg zp ya L k_x0 n p2 p9 p10 p26 p27 p28 zLT zLU) k_x0
def ztD {β:Type} (xc:yt) (zc:zr) (xd:xv) (zg:yJ) (zp:zY) (ya:zo) (L:Nat) (p0 p1:List (List V)) (p2:Int) (k_fin:Bool→Option β):Option β :=
 ztJ xc zc xd zg zp ya L p0 p1 p2 k_fin (fun p2 p9 p10 p26 p27 p28 zLT zLU=>zga xc zc xd zg zp ya L (fun p2 p9 p10 zLT zLU=>zlH xc zc xd zg zp ya L p2 p9 p10 zLT zLU k_fin) L p2 p9 p10 p26 p27 p28 zLT zLU)
abbrev zto:=∀ (β:Type),Nat→List (List V)→List (List V)→Int→(Bool→Option β)→Option β
def zlQ (β:Type) (L:Nat) (p0 p1:List (List V)) (p2:Int) (k_fin:Bool→Option β):Option β:=ztD xc zc xd zg zp ya L p0 p1 p2 k_fin
def zE8 (zlQ:zto) (L:Nat) (β:Type) (args:List V) (bor:Bor) (k:KK β):Option β:=match args,bor with
 | [a0,a1,a2],[]=>aL 1 a0 fun p0=>aL 1 a1 fun p1=>aI .i64 a2 fun p2=>zlQ β L p0 p1 p2 (fun p0=>k (V.sc (.bool p0)) [])
 | _,_=>none
def fg:List (Nat × Nat):=[(3,255),(4,256),(5,257),(6,258),(7,259),(8,225),(9,260),(10,261),(11,231),(12,262),(13,263),(14,264),(15,217),(16,265),(17,266),(18,267),(19,268),(20,269),(21,270),(22,271),(23,236),(24,272),(25,273),(26,274),(27,247),(28,275),(29,276),(30,277),(31,278),(32,279),(33,280),(34,281),(35,282),(36,283),(37,284),(38,285),(39,286),(40,287),(41,288),(42,289),(43,290),(44,291),(45,292),(46,293),(47,294),(48,295),(49,296),(50,297),(51,298),(52,299),(53,300),(54,301),(55,302),(56,303),(57,110),(58,106),(59,304),(60,159),(61,305),(62,109),(63,105),(64,157),(65,205),(66,306),(67,115),(68,114),(69,116),(70,193),(71,194),(72,112),(73,111),(74,113),(75,191),(76,192),(77,118)]
def rows:List Row:=[⟨38,285,zpG,ziw⟩,⟨20,269,zom,zhm⟩,⟨54,301,zmI,zfX⟩,⟨66,306,zdJ,zM⟩,⟨53,300,zdh,zaM⟩,⟨31,278,zou,zhk⟩,⟨21,270,zpw,zcs⟩,⟨72,112,zvN,zgW⟩,⟨62,109,zwX,zqM⟩,⟨76,192,zqs,zdG⟩,⟨75,191,zqC,zjw⟩,⟨64,157,znV,zgK⟩,⟨77,118,zhV,zdw⟩,⟨74,113,zsF,ze3⟩,⟨73,111,zs8,zl4⟩,⟨63,105,zwV,zik⟩,⟨50,297,zjC,zdX⟩,⟨49,296,zmK,zf6⟩,⟨48,295,zol,zbz⟩,⟨65,205,znQ,zgS⟩,⟨52,299,zjq,zd0⟩,⟨51,298,zmL,zfV⟩,⟨28,275,zoh,zhl⟩,⟨30,277,zmG,zfY⟩,⟨29,276,zpT,zcv⟩,⟨32,279,zmA,zf2⟩,⟨37,284,zjb,zbk⟩,⟨17,266,zkX,zeP⟩,⟨13,263,zov,zck⟩,⟨39,286,zeA,zby⟩,⟨22,271,zqx,zjh⟩,⟨7,259,zsX,zl3⟩,⟨8,225,zvS,zpe⟩,⟨27,247,zon,zhn⟩,⟨15,217,zvP,zo9⟩,⟨11,231,zok,zho⟩,⟨23,236,zt8,znM⟩,⟨67,115,zsL,zeV⟩,⟨57,110,zus,znN⟩,⟨71,194,zqB,zdO⟩,⟨70,193,zqt,zju⟩,⟨60,159,znF,zgI⟩,⟨59,304,zn7,zgP⟩,⟨69,116,zrW,zkH⟩,⟨68,114,zqo,zji⟩,⟨58,106,zuE,zfC⟩,⟨47,294,zrl,zkF⟩,⟨43,290,zlF,zfi⟩,⟨61,305,zlE,zfp⟩,⟨56,303,zsY,zlV⟩,⟨40,287,zsR,zde⟩,⟨55,302,zrZ,zds⟩,⟨34,281,zsa,zdu⟩,⟨41,288,zqw,zjs⟩,⟨42,289,zqn,zjl⟩,⟨44,291,zqv,zbS⟩,⟨45,292,zqz,zjz⟩,⟨46,293,zs0,zdc⟩,⟨24,272,zs1,zl0⟩,⟨12,262,zui,znW⟩,⟨25,273,zrD,zkL⟩,⟨9,260,zt6,zfG⟩,⟨26,274,znK,zpO⟩,⟨10,261,zs4,zvU⟩,⟨36,283,zrG,zuG⟩,⟨33,280,zrs,zuq⟩,⟨35,282,zr4,zun⟩,⟨18,267,zmx,zoq⟩,⟨14,264,zqq,zsI⟩,⟨16,265,znr,zpX⟩,⟨3,255,zjv,zkY⟩,⟨19,268,zsP,zdQ⟩,⟨4,256,zjB,zaK⟩,⟨5,257,zlA,znh⟩,⟨6,258,zjg,zk0⟩]
theorem zzM:yO Try.prog (zF fg) zpG 38=some ziw:=by kernel_rfl
theorem zyr:yO Try.prog (zF fg) zom 20=some zhm:=by kernel_rfl
theorem zwj:yO Try.prog (zF fg) zmI 54=some zfX:=by kernel_rfl
theorem ziQ:yO Try.prog (zF fg) zdJ 66=some zM:=by kernel_rfl
theorem zhP:yO Try.prog (zF fg) zdh 53=some zaM:=by kernel_rfl
theorem zyH:yO Try.prog (zF fg) zou 31=some zhk:=by kernel_rfl
theorem zzy:yO Try.prog (zF fg) zpw 21=some zcs:=by kernel_rfl
theorem zEZ:yO Try.prog (zF fg) zvN 72=some zgW:=by kernel_rfl
theorem zFW:yO Try.prog (zF fg) zwX 62=some zqM:=by kernel_rfl
theorem zAr:yO Try.prog (zF fg) zqs 76=some zdG:=by kernel_rfl
theorem zBg:yO Try.prog (zF fg) zqC 75=some zjw:=by kernel_rfl
theorem zxq:yO Try.prog (zF fg) znV 64=some zgK:=by kernel_rfl
theorem zq1:yO Try.prog (zF fg) zhV 77=some zdw:=by kernel_rfl
theorem zC1:yO Try.prog (zF fg) zsF 74=some ze3:=by kernel_rfl
theorem zDm:yO Try.prog (zF fg) zs8 73=some zl4:=by kernel_rfl
theorem zFX:yO Try.prog (zF fg) zwV 63=some zik:=by kernel_rfl
theorem zsD:yO Try.prog (zF fg) zjC 50=some zdX:=by kernel_rfl
theorem zwq:yO Try.prog (zF fg) zmK 49=some zf6:=by kernel_rfl
theorem zyz:yO Try.prog (zF fg) zol 48=some zbz:=by kernel_rfl
theorem zxe:yO Try.prog (zF fg) znQ 65=some zgS:=by kernel_rfl
theorem zso:yO Try.prog (zF fg) zjq 52=some zd0:=by kernel_rfl
theorem zwp:yO Try.prog (zF fg) zmL 51=some zfV:=by kernel_rfl
theorem zyC:yO Try.prog (zF fg) zoh 28=some zhl:=by kernel_rfl
theorem zv8:yO Try.prog (zF fg) zmG 30=some zfY:=by kernel_rfl
theorem zzf:yO Try.prog (zF fg) zpT 29=some zcv:=by kernel_rfl
theorem zv5:yO Try.prog (zF fg) zmA 32=some zf2:=by kernel_rfl
theorem zsr:yO Try.prog (zF fg) zjb 37=some zbk:=by kernel_rfl
theorem zt3:yO Try.prog (zF fg) zkX 17=some zeP:=by kernel_rfl
theorem zyA:yO Try.prog (zF fg) zov 13=some zck:=by kernel_rfl
theorem zlc:yO Try.prog (zF fg) zeA 39=some zby:=by kernel_rfl
theorem zAK:yO Try.prog (zF fg) zqx 22=some zjh:=by kernel_rfl
theorem zDn:yO Try.prog (zF fg) zsX 7=some zl3:=by kernel_rfl
theorem zFa:yO Try.prog (zF fg) zvS 8=some zpe:=by kernel_rfl
theorem zx9:yO Try.prog (zF fg) zon 27=some zhn:=by kernel_rfl
theorem zE6:yO Try.prog (zF fg) zvP 15=some zo9:=by kernel_rfl
theorem zyb:yO Try.prog (zF fg) zok 11=some zho:=by kernel_rfl
theorem zEa:yO Try.prog (zF fg) zt8 23=some znM:=by kernel_rfl
theorem zC3:yO Try.prog (zF fg) zsL 67=some zeV:=by kernel_rfl
theorem zEK:yO Try.prog (zF fg) zus 57=some znN:=by kernel_rfl
theorem zA3:yO Try.prog (zF fg) zqB 71=some zdO:=by kernel_rfl
theorem zAB:yO Try.prog (zF fg) zqt 70=some zju:=by kernel_rfl
theorem zxm:yO Try.prog (zF fg) znF 60=some zgI:=by kernel_rfl
theorem zxx:yO Try.prog (zF fg) zn7 59=some zgP:=by kernel_rfl
theorem zBp:yO Try.prog (zF fg) zrW 69=some zkH:=by kernel_rfl
theorem zAn:yO Try.prog (zF fg) zqo 68=some zji:=by kernel_rfl
theorem zDX:yO Try.prog (zF fg) zuE 58=some zfC:=by kernel_rfl
theorem zCa:yO Try.prog (zF fg) zrl 47=some zkF:=by kernel_rfl
theorem zvr:yO Try.prog (zF fg) zlF 43=some zfi:=by kernel_rfl
theorem zuS:yO Try.prog (zF fg) zlE 61=some zfp:=by kernel_rfl
theorem zC9:yO Try.prog (zF fg) zsY 56=some zlV:=by kernel_rfl
theorem zDf:yO Try.prog (zF fg) zsR 40=some zde:=by kernel_rfl
theorem zBT:yO Try.prog (zF fg) zrZ 55=some zds:=by kernel_rfl
theorem zBV:yO Try.prog (zF fg) zsa 34=some zdu:=by kernel_rfl
theorem zAk:yO Try.prog (zF fg) zqw 41=some zjs:=by kernel_rfl
theorem zAN:yO Try.prog (zF fg) zqn 42=some zjl:=by kernel_rfl
theorem zAq:yO Try.prog (zF fg) zqv 44=some zbS:=by kernel_rfl
theorem zBc:yO Try.prog (zF fg) zqz 45=some zjz:=by kernel_rfl
theorem zCU:yO Try.prog (zF fg) zs0 46=some zdc:=by kernel_rfl
theorem zDg:yO Try.prog (zF fg) zs1 24=some zl0:=by kernel_rfl
theorem zEm:yO Try.prog (zF fg) zui 12=some znW:=by kernel_rfl
theorem zBC:yO Try.prog (zF fg) zrD 25=some zkL:=by kernel_rfl
theorem zEH:yO Try.prog (zF fg) zt6 9=some zfG:=by kernel_rfl
theorem zwW:yO Try.prog (zF fg) znK 26=some zpO:=by kernel_rfl
theorem zCY:yO Try.prog (zF fg) zs4 10=some zvU:=by kernel_rfl
theorem zBN:yO Try.prog (zF fg) zrG 36=some zuG:=by kernel_rfl
theorem zBv:yO Try.prog (zF fg) zrs 33=some zuq:=by kernel_rfl
theorem zBA:yO Try.prog (zF fg) zr4 35=some zun:=by kernel_rfl
theorem zwl:yO Try.prog (zF fg) zmx 18=some zoq:=by kernel_rfl
theorem zzV:yO Try.prog (zF fg) zqq 14=some zsI:=by kernel_rfl
theorem zxz:yO Try.prog (zF fg) znr 16=some zpX:=by kernel_rfl
theorem zss:yO Try.prog (zF fg) zjv 3=some zkY:=by kernel_rfl
theorem zDo:yO Try.prog (zF fg) zsP 19=some zdQ:=by kernel_rfl
theorem zsy:yO Try.prog (zF fg) zjB 4=some zaK:=by kernel_rfl
theorem zu8:yO Try.prog (zF fg) zlA 5=some znh:=by kernel_rfl
theorem zsp:yO Try.prog (zF fg) zjg 6=some zk0:=by kernel_rfl
theorem zJz:∀ r ∈ rows,(r.f,r.g) ∈ fg∧zim Try.prog r.f=true∧yO Try.prog (zF fg) r.h r.f=some r.c:=by
 intro r hr
 simp only [rows,List.mem_cons,List.not_mem_nil,or_false] at hr
 rcases hr with rfl | rfl | rfl | rfl | rfl | rfl | rfl | rfl | rfl | rfl | rfl | rfl | rfl | rfl | rfl | rfl | rfl | rfl | rfl | rfl | rfl | rfl | rfl | rfl | rfl | rfl | rfl | rfl | rfl | rfl | rfl | rfl | rfl | rfl | rfl | rfl | rfl | rfl | rfl | rfl | rfl | rfl | rfl | rfl | rfl | rfl | rfl | rfl | rfl | rfl | rfl | rfl | rfl | rfl | rfl | rfl | rfl | rfl | rfl | rfl | rfl | rfl | rfl | rfl | rfl | rfl | rfl | rfl | rfl | rfl | rfl | rfl | rfl | rfl | rfl
 ·exact ⟨of_decide_eq_true (by kernel_rfl),by kernel_rfl,zzM⟩
 ·exact ⟨of_decide_eq_true (by kernel_rfl),by kernel_rfl,zyr⟩
 ·exact ⟨of_decide_eq_true (by kernel_rfl),by kernel_rfl,zwj⟩
 ·exact ⟨of_decide_eq_true (by kernel_rfl),by kernel_rfl,ziQ⟩
 ·exact ⟨of_decide_eq_true (by kernel_rfl),by kernel_rfl,zhP⟩
 ·exact ⟨of_decide_eq_true (by kernel_rfl),by kernel_rfl,zyH⟩
 ·exact ⟨of_decide_eq_true (by kernel_rfl),by kernel_rfl,zzy⟩
 ·exact ⟨of_decide_eq_true (by kernel_rfl),by kernel_rfl,zEZ⟩
 ·exact ⟨of_decide_eq_true (by kernel_rfl),by kernel_rfl,zFW⟩
 ·exact ⟨of_decide_eq_true (by kernel_rfl),by kernel_rfl,zAr⟩
 ·exact ⟨of_decide_eq_true (by kernel_rfl),by kernel_rfl,zBg⟩
 ·exact ⟨of_decide_eq_true (by kernel_rfl),by kernel_rfl,zxq⟩
 ·exact ⟨of_decide_eq_true (by kernel_rfl),by kernel_rfl,zq1⟩
 ·exact ⟨of_decide_eq_true (by kernel_rfl),by kernel_rfl,zC1⟩
 ·exact ⟨of_decide_eq_true (by kernel_rfl),by kernel_rfl,zDm⟩
 ·exact ⟨of_decide_eq_true (by kernel_rfl),by kernel_rfl,zFX⟩
 ·exact ⟨of_decide_eq_true (by kernel_rfl),by kernel_rfl,zsD⟩
 ·exact ⟨of_decide_eq_true (by kernel_rfl),by kernel_rfl,zwq⟩
 ·exact ⟨of_decide_eq_true (by kernel_rfl),by kernel_rfl,zyz⟩
 ·exact ⟨of_decide_eq_true (by kernel_rfl),by kernel_rfl,zxe⟩
 ·exact ⟨of_decide_eq_true (by kernel_rfl),by kernel_rfl,zso⟩
 ·exact ⟨of_decide_eq_true (by kernel_rfl),by kernel_rfl,zwp⟩
 ·exact ⟨of_decide_eq_true (by kernel_rfl),by kernel_rfl,zyC⟩
 ·exact ⟨of_decide_eq_true (by kernel_rfl),by kernel_rfl,zv8⟩
 ·exact ⟨of_decide_eq_true (by kernel_rfl),by kernel_rfl,zzf⟩
 ·exact ⟨of_decide_eq_true (by kernel_rfl),by kernel_rfl,zv5⟩
 ·exact ⟨of_decide_eq_true (by kernel_rfl),by kernel_rfl,zsr⟩
 ·exact ⟨of_decide_eq_true (by kernel_rfl),by kernel_rfl,zt3⟩
 ·exact ⟨of_decide_eq_true (by kernel_rfl),by kernel_rfl,zyA⟩
 ·exact ⟨of_decide_eq_true (by kernel_rfl),by kernel_rfl,zlc⟩
 ·exact ⟨of_decide_eq_true (by kernel_rfl),by kernel_rfl,zAK⟩
 ·exact ⟨of_decide_eq_true (by kernel_rfl),by kernel_rfl,zDn⟩
 ·exact ⟨of_decide_eq_true (by kernel_rfl),by kernel_rfl,zFa⟩
 ·exact ⟨of_decide_eq_true (by kernel_rfl),by kernel_rfl,zx9⟩
 ·exact ⟨of_decide_eq_true (by kernel_rfl),by kernel_rfl,zE6⟩
 ·exact ⟨of_decide_eq_true (by kernel_rfl),by kernel_rfl,zyb⟩
 ·exact ⟨of_decide_eq_true (by kernel_rfl),by kernel_rfl,zEa⟩
 ·exact ⟨of_decide_eq_true (by kernel_rfl),by kernel_rfl,zC3⟩
 ·exact ⟨of_decide_eq_true (by kernel_rfl),by kernel_rfl,zEK⟩
 ·exact ⟨of_decide_eq_true (by kernel_rfl),by kernel_rfl,zA3⟩
 ·exact ⟨of_decide_eq_true (by kernel_rfl),by kernel_rfl,zAB⟩
 ·exact ⟨of_decide_eq_true (by kernel_rfl),by kernel_rfl,zxm⟩
 ·exact ⟨of_decide_eq_true (by kernel_rfl),by kernel_rfl,zxx⟩
 ·exact ⟨of_decide_eq_true (by kernel_rfl),by kernel_rfl,zBp⟩
 ·exact ⟨of_decide_eq_true (by kernel_rfl),by kernel_rfl,zAn⟩
 ·exact ⟨of_decide_eq_true (by kernel_rfl),by kernel_rfl,zDX⟩
 ·exact ⟨of_decide_eq_true (by kernel_rfl),by kernel_rfl,zCa⟩
 ·exact ⟨of_decide_eq_true (by kernel_rfl),by kernel_rfl,zvr⟩
 ·exact ⟨of_decide_eq_true (by kernel_rfl),by kernel_rfl,zuS⟩
 ·exact ⟨of_decide_eq_true (by kernel_rfl),by kernel_rfl,zC9⟩
 ·exact ⟨of_decide_eq_true (by kernel_rfl),by kernel_rfl,zDf⟩
 ·exact ⟨of_decide_eq_true (by kernel_rfl),by kernel_rfl,zBT⟩
 ·exact ⟨of_decide_eq_true (by kernel_rfl),by kernel_rfl,zBV⟩
 ·exact ⟨of_decide_eq_true (by kernel_rfl),by kernel_rfl,zAk⟩
 ·exact ⟨of_decide_eq_true (by kernel_rfl),by kernel_rfl,zAN⟩
 ·exact ⟨of_decide_eq_true (by kernel_rfl),by kernel_rfl,zAq⟩
 ·exact ⟨of_decide_eq_true (by kernel_rfl),by kernel_rfl,zBc⟩
 ·exact ⟨of_decide_eq_true (by kernel_rfl),by kernel_rfl,zCU⟩
 ·exact ⟨of_decide_eq_true (by kernel_rfl),by kernel_rfl,zDg⟩
 ·exact ⟨of_decide_eq_true (by kernel_rfl),by kernel_rfl,zEm⟩
 ·exact ⟨of_decide_eq_true (by kernel_rfl),by kernel_rfl,zBC⟩
 ·exact ⟨of_decide_eq_true (by kernel_rfl),by kernel_rfl,zEH⟩
 ·exact ⟨of_decide_eq_true (by kernel_rfl),by kernel_rfl,zwW⟩
 ·exact ⟨of_decide_eq_true (by kernel_rfl),by kernel_rfl,zCY⟩
 ·exact ⟨of_decide_eq_true (by kernel_rfl),by kernel_rfl,zBN⟩
 ·exact ⟨of_decide_eq_true (by kernel_rfl),by kernel_rfl,zBv⟩
 ·exact ⟨of_decide_eq_true (by kernel_rfl),by kernel_rfl,zBA⟩
 ·exact ⟨of_decide_eq_true (by kernel_rfl),by kernel_rfl,zwl⟩
 ·exact ⟨of_decide_eq_true (by kernel_rfl),by kernel_rfl,zzV⟩
 ·exact ⟨of_decide_eq_true (by kernel_rfl),by kernel_rfl,zxz⟩
 ·exact ⟨of_decide_eq_true (by kernel_rfl),by kernel_rfl,zss⟩
 ·exact ⟨of_decide_eq_true (by kernel_rfl),by kernel_rfl,zDo⟩
 ·exact ⟨of_decide_eq_true (by kernel_rfl),by kernel_rfl,zsy⟩
 ·exact ⟨of_decide_eq_true (by kernel_rfl),by kernel_rfl,zu8⟩
 ·exact ⟨of_decide_eq_true (by kernel_rfl),by kernel_rfl,zsp⟩
theorem zKz:Try.prog.follows .mixedOrders=true:=by kernel_rfl
theorem zKx:zIw fg=true:=by kernel_rfl
theorem zKs (L d:Nat):zkb Try.prog (zF fg) (evF (yK rows) zIl L d):=zJD zKz zKx zJz L d
theorem zqy (L:Nat):FOk (yK rows) L 285 (zgG xi L) 1:=zG (D:=0) (by kernel_rfl) fun m hm=>⟨zmb,zl8 L,xF,zxB L⟩
theorem zgC (L:Nat):FOk (yK rows) L 269 (zb4 ya L) 1:=zG (D:=0) (by kernel_rfl) fun m hm=>⟨zlp,zle L,xF,zv9 L⟩
theorem zuN (L:Nat):FOk (yK rows) L 301 (zgx yj L) 2:=zG (D:=1) (by kernel_rfl) fun m hm=>⟨zi6,zi2 ya L,(xn xF (zgC L m (by omega))),zuz L⟩
theorem ziI (L:Nat):FOk (yK rows) L 306 (zbj zu L) 3:=zG (D:=2) (by kernel_rfl) fun m hm=>⟨zD,yD yj L,(xn xF (zuN L m (by omega))),zie L⟩
theorem zhM (L:Nat):FOk (yK rows) L 300 (zaW yq L) 4:=zG (D:=3) (by kernel_rfl) fun m hm=>⟨zbX,zb0 zu L,(xn xF (ziI L m (by omega))),zhc L⟩
theorem zgJ (L:Nat):FOk (yK rows) L 278 (zdj xa L) 5:=zG (D:=4) (by kernel_rfl) fun m hm=>⟨zln,zll yq L,(xn xF (zhM L m (by omega))),zv0 L⟩
theorem zlf (L:Nat):FOk (yK rows) L 270 (zeM xb L) 6:=zG (D:=5) (by kernel_rfl) fun m hm=>⟨zbd,zbc xi xa L,(xn (xn xF (zqy L m (by omega))) (zgJ L m (by omega))),zxu L⟩
theorem zxf (L:Nat):FOk (yK rows) L 112 (zm8 zw L) 1:=zG (D:=0) (by kernel_rfl) fun m hm=>⟨zdB,zdA L,xF,zCZ L⟩
theorem zyL (L:Nat):FOk (yK rows) L 109 (zpV z6 L) 2:=zG (D:=1) (by kernel_rfl) fun m hm=>⟨zuO,zvB zw L,(xn xF (zxf L m (by omega))),zD9 L⟩
theorem zr7 (L:Nat):FOk (yK rows) L 192 (zhN xG L) 1:=zG (D:=0) (by kernel_rfl) fun m hm=>⟨zbQ,zbW L,xF,zyK L⟩
theorem zr3 (L:Nat):FOk (yK rows) L 191 (zhx yH L) 1:=zG (D:=0) (by kernel_rfl) fun m hm=>⟨znt,znC L,xF,zx6 L⟩
theorem zoy (L:Nat):FOk (yK rows) L 157 (zfa yx L) 2:=zG (D:=1) (by kernel_rfl) fun m hm=>⟨zjW,zkB xG yH L,(xn (xn xF (zr7 L m (by omega))) (zr3 L m (by omega))),zvo L⟩
theorem ziN (L:Nat):FOk (yK rows) L 118 (zcw yd L) 1:=zG (D:=0) (by kernel_rfl) fun m hm=>⟨zfl,zfs L,xF,zpD L⟩
theorem zt7 (L:Nat):FOk (yK rows) L 113 (zjL xp L) 2:=zG (D:=1) (by kernel_rfl) fun m hm=>⟨zcz,zcA yd L,(xn xF (ziN L m (by omega))),zz7 L⟩
theorem zBS (L:Nat):FOk (yK rows) L 111 (znL yy L) 3:=zG (D:=2) (by kernel_rfl) fun m hm=>⟨zqi,zqb xp L,(xn xF (zt7 L m (by omega))),zAZ L⟩
theorem zy5 (L:Nat):FOk (yK rows) L 105 (zpN yV L) 4:=zG (D:=3) (by kernel_rfl) fun m hm=>⟨zem,zep zw yy xp L,(xn (xn (xn xF (zxf L m (by omega))) (zBS L m (by omega))) (zt7 L m (by omega))),zEc L⟩
theorem zrK (L:Nat):FOk (yK rows) L 297 (zew zI L) 5:=zG (D:=4) (by kernel_rfl) fun m hm=>⟨zgf,zgc z6 ya yx yV L,(xn (xn (xn (xn xF (zyL L m (by omega))) (zgC L m (by omega))) (zoy L m (by omega))) (zy5 L m (by omega))),zqX L⟩
theorem zvD (L:Nat):FOk (yK rows) L 296 (zgF zi L) 6:=zG (D:=5) (by kernel_rfl) fun m hm=>⟨ziW,ziR zI L,(xn xF (zrK L m (by omega))),ztZ L⟩
theorem zxg (L:Nat):FOk (yK rows) L 295 (ziz xU L) 7:=zG (D:=6) (by kernel_rfl) fun m hm=>⟨zaO,zaR zi L,(xn xF (zvD L m (by omega))),zwv L⟩
theorem zwk (L:Nat):FOk (yK rows) L 205 (zhj zS L) 2:=zG (D:=1) (by kernel_rfl) fun m hm=>⟨zkm,zkl xG yH L,(xn (xn xF (zr7 L m (by omega))) (zr3 L m (by omega))),zvC L⟩
theorem zrp (L:Nat):FOk (yK rows) L 299 (zen xH L) 5:=zG (D:=4) (by kernel_rfl) fun m hm=>⟨zgd,zgh z6 yx zS yV ya L,(xn (xn (xn (xn (xn xF (zyL L m (by omega))) (zoy L m (by omega))) (zwk L m (by omega))) (zy5 L m (by omega))) (zgC L m (by omega))),zq4 L⟩
theorem zvc (L:Nat):FOk (yK rows) L 298 (zgR yi L) 6:=zG (D:=5) (by kernel_rfl) fun m hm=>⟨zi9,zi5 xH L,(xn xF (zrp L m (by omega))),zt5 L⟩
theorem zu7 (L:Nat):FOk (yK rows) L 295 (zgQ zP L) 7:=zG (D:=6) (by kernel_rfl) fun m hm=>⟨zas,zat yi L,(xn xF (zvc L m (by omega))),zuA L⟩
theorem zwF (L:Nat):FOk (yK rows) L 275 (zih yl L) 8:=zG (D:=7) (by kernel_rfl) fun m hm=>⟨zk2,zk6 xU zP L,(zuU (zuU xF (zxg L m (by omega))) (zu7 L m (by omega))),zwr L⟩
theorem zvi (L:Nat):FOk (yK rows) L 277 (zgA ym L) 1:=zG (D:=0) (by kernel_rfl) fun m hm=>⟨ziV,zja L,xF,ztV L⟩
theorem zyB (L:Nat):FOk (yK rows) L 276 (zjt zn L) 2:=zG (D:=1) (by kernel_rfl) fun m hm=>⟨zbu,zbt ym L,(xn xF (zvi L m (by omega))),zxl L⟩
theorem zu9 (L:Nat):FOk (yK rows) L 279 (zgH zm L) 1:=zG (D:=0) (by kernel_rfl) fun m hm=>⟨ziS,ziY L,xF,zuF L⟩
theorem zwt (L:Nat):FOk (yK rows) L 276 (zhq zk L) 2:=zG (D:=1) (by kernel_rfl) fun m hm=>⟨za3,za2 zm L,(xn xF (zu9 L m (by omega))),zvn L⟩
theorem zrm (L:Nat):FOk (yK rows) L 284 (zev zE L) 6:=zG (D:=5) (by kernel_rfl) fun m hm=>⟨zaI,zaJ xa L,(xn xF (zgJ L m (by omega))),zqH L⟩
theorem ztG (L:Nat):FOk (yK rows) L 266 (zcG yb L) 7:=zG (D:=6) (by kernel_rfl) fun m hm=>⟨zhu,zhA zE L,(xn xF (zrm L m (by omega))),zsB L⟩
theorem zpL (L:Nat):FOk (yK rows) L 263 (zdl yc L) 9:=zG (D:=8) (by kernel_rfl) fun m hm=>⟨zaQ,zaP xb yl zn zk yb xa L,(xn (xn (zuU (zuU (xn (xn xF (zlf L m (by omega))) (zwF L m (by omega))) (zyB L m (by omega))) (zwt L m (by omega))) (ztG L m (by omega))) (zgJ L m (by omega))),zv7 L⟩
theorem zkG (L:Nat):FOk (yK rows) L 286 (zbV yv L) 1:=zG (D:=0) (by kernel_rfl) fun m hm=>⟨zcN,zcQ L,xF,zjN L⟩
theorem zsk (L:Nat):FOk (yK rows) L 271 (zhz zj L) 7:=zG (D:=6) (by kernel_rfl) fun m hm=>⟨znf,zm5 xb xi xa yv L,(xn (xn (xn (xn xF (zlf L m (by omega))) (zqy L m (by omega))) (zgJ L m (by omega))) (zkG L m (by omega))),zyx L⟩
theorem zBR (L:Nat):FOk (yK rows) L 259 (zfL xc L) 10:=zG (D:=9) (by kernel_rfl) fun m hm=>⟨zp9,zqk yc zj L,(xn (xn xF (zpL L m (by omega))) (zsk L m (by omega))),zAz L⟩
theorem zwO (L:Nat):FOk (yK rows) L 225 (zgr zc L) 1:=zG (D:=0) (by kernel_rfl) fun m hm=>⟨ztK,ztL L,xF,zDl L⟩
theorem zxA (L:Nat):FOk (yK rows) L 247 (zii yU L) 1:=zG (D:=0) (by kernel_rfl) fun m hm=>⟨zlr,zk9 L,xF,zwu L⟩
theorem zDR (L:Nat):FOk (yK rows) L 217 (zkT zp L) 1:=zG (D:=0) (by kernel_rfl) fun m hm=>⟨ztq,ztv L,xF,zC0 L⟩
theorem zgy (L:Nat):FOk (yK rows) L 231 (zbs za L) 2:=zG (D:=1) (by kernel_rfl) fun m hm=>⟨zk7,zlg yU zp L,(xn (xn xF (zxA L m (by omega))) (zDR L m (by omega))),zvW L⟩
theorem zCW (L:Nat):FOk (yK rows) L 236 (zpk xB L) 3:=zG (D:=2) (by kernel_rfl) fun m hm=>⟨zrR,zse za L,(xn xF (zgy L m (by omega))),zBn L⟩
theorem ztX (L:Nat):FOk (yK rows) L 115 (zkq xo L) 1:=zG (D:=0) (by kernel_rfl) fun m hm=>⟨zcx,zcB L,xF,zBm L⟩
theorem zvF (L:Nat):FOk (yK rows) L 110 (zlL zQ L) 2:=zG (D:=1) (by kernel_rfl) fun m hm=>⟨zsc,zr2 xo L,(xn xF (ztX L m (by omega))),zB9 L⟩
theorem zrB (L:Nat):FOk (yK rows) L 194 (zhw yG L) 1:=zG (D:=0) (by kernel_rfl) fun m hm=>⟨zbO,zbU L,xF,zyv L⟩
theorem zry (L:Nat):FOk (yK rows) L 193 (zhO zH L) 1:=zG (D:=0) (by kernel_rfl) fun m hm=>⟨znD,znG L,xF,zyl L⟩
theorem zor (L:Nat):FOk (yK rows) L 159 (ze8 xx L) 2:=zG (D:=1) (by kernel_rfl) fun m hm=>⟨zkk,zkf yG zH L,(xn (xn xF (zrB L m (by omega))) (zry L m (by omega))),zu4 L⟩
theorem zwe (L:Nat):FOk (yK rows) L 304 (zhd yS L) 2:=zG (D:=1) (by kernel_rfl) fun m hm=>⟨zjM,zjT yG zH L,(xn (xn xF (zrB L m (by omega))) (zry L m (by omega))),zuY L⟩
theorem zsU (L:Nat):FOk (yK rows) L 116 (ziH xl L) 2:=zG (D:=1) (by kernel_rfl) fun m hm=>⟨zoL,zoJ yd L,(xn xF (ziN L m (by omega))),zzK L⟩
theorem zze (L:Nat):FOk (yK rows) L 114 (zkJ xr L) 3:=zG (D:=2) (by kernel_rfl) fun m hm=>⟨zne,zm0 xl L,(xn xF (zsU L m (by omega))),zyy L⟩
theorem zvM (L:Nat):FOk (yK rows) L 106 (zlT yM L) 4:=zG (D:=3) (by kernel_rfl) fun m hm=>⟨zc5,zc6 xo xr xl L,(xn (xn (xn xF (ztX L m (by omega))) (zze L m (by omega))) (zsU L m (by omega))),zCb L⟩
theorem znU (L:Nat):FOk (yK rows) L 294 (ze1 yk L) 1:=zG (D:=0) (by kernel_rfl) fun m hm=>⟨zoI,zo6 L,xF,zzr L⟩
theorem zmO (L:Nat):FOk (yK rows) L 290 (zd7 xf L) 5:=zG (D:=4) (by kernel_rfl) fun m hm=>⟨zib,zh8 zQ xx yS yM yk L,(xn (xn (xn (xn (xn xF (zvF L m (by omega))) (zor L m (by omega))) (zwe L m (by omega))) (zvM L m (by omega))) (znU L m (by omega))),ztM L⟩
theorem zmE (L:Nat):FOk (yK rows) L 305 (zd8 zb L) 5:=zG (D:=4) (by kernel_rfl) fun m hm=>⟨zif,zh4 zQ yk xx yM L,(xn (xn (xn (xn xF (zvF L m (by omega))) (znU L m (by omega))) (zor L m (by omega))) (zvM L m (by omega))),zty L⟩
theorem zt4 (L:Nat):FOk (yK rows) L 303 (zj5 xg L) 1:=zG (D:=0) (by kernel_rfl) fun m hm=>⟨zqf,zpZ L,xF,zAH L⟩
theorem zoX (L:Nat):FOk (yK rows) L 287 (zhs ye L) 2:=zG (D:=1) (by kernel_rfl) fun m hm=>⟨zb9,zcb xg L,(xn xF (zt4 L m (by omega))),zA4 L⟩
theorem zAY (L:Nat):FOk (yK rows) L 302 (zl2 yp L) 6:=zG (D:=5) (by kernel_rfl) fun m hm=>⟨zbM,zbN xf zb ye L,(xn (xn (xn xF (zmO L m (by omega))) (zmE L m (by omega))) (zoX L m (by omega))),zzB L⟩
theorem zs5 (L:Nat):FOk (yK rows) L 281 (zgk xw L) 7:=zG (D:=6) (by kernel_rfl) fun m hm=>⟨zbG,zbI yp ye L,(xn (xn xF (zAY L m (by omega))) (zoX L m (by omega))),zzL L⟩
theorem zrS (L:Nat):FOk (yK rows) L 288 (zhB yg L) 1:=zG (D:=0) (by kernel_rfl) fun m hm=>⟨znH,zm7 L,xF,zyc L⟩
theorem zrC (L:Nat):FOk (yK rows) L 289 (zhD yf L) 1:=zG (D:=0) (by kernel_rfl) fun m hm=>⟨zm9,zmZ L,xF,zyf L⟩
theorem zmj (L:Nat):FOk (yK rows) L 291 (zfx zf L) 1:=zG (D:=0) (by kernel_rfl) fun m hm=>⟨xY,xX L,xF,zx8 L⟩
theorem zrx (L:Nat):FOk (yK rows) L 292 (zhI xe L) 2:=zG (D:=1) (by kernel_rfl) fun m hm=>⟨zn2,znl zf L,(xn xF (zmj L m (by omega))),zym L⟩
theorem zy8 (L:Nat):FOk (yK rows) L 287 (zkR xh L) 2:=zG (D:=1) (by kernel_rfl) fun m hm=>⟨zbq,zbp xg L,(xn xF (zt4 L m (by omega))),zyo L⟩
theorem ztR (L:Nat):FOk (yK rows) L 293 (zjX yC L) 6:=zG (D:=5) (by kernel_rfl) fun m hm=>⟨yW,zW yg xh zb zf xe yf L,(xn (xn (xn (xn (xn (xn xF (zrS L m (by omega))) (zy8 L m (by omega))) (zmE L m (by omega))) (zmj L m (by omega))) (zrx L m (by omega))) (zrC L m (by omega))),zzT L⟩
theorem zBo (L:Nat):FOk (yK rows) L 272 (znv xz L) 8:=zG (D:=7) (by kernel_rfl) fun m hm=>⟨zp8,zp5 xw ye yg yf xf zf xe yk yC L,(xn (xn (xn (xn (xn (xn (xn (xn (xn xF (zs5 L m (by omega))) (zoX L m (by omega))) (zrS L m (by omega))) (zrC L m (by omega))) (zmO L m (by omega))) (zmj L m (by omega))) (zrx L m (by omega))) (znU L m (by omega))) (ztR L m (by omega))),zAU L⟩
theorem zvI (L:Nat):FOk (yK rows) L 262 (ziP zd L) 3:=zG (D:=2) (by kernel_rfl) fun m hm=>⟨zsj,zrw za L,(xn xF (zgy L m (by omega))),zB0 L⟩
theorem zz3 (L:Nat):FOk (yK rows) L 273 (zlY yw L) 8:=zG (D:=7) (by kernel_rfl) fun m hm=>⟨zoO,zoN xw yC L,(xn (xn xF (zs5 L m (by omega))) (ztR L m (by omega))),zzD L⟩
theorem zDs (L:Nat):FOk (yK rows) L 260 (zg0 xd L) 9:=zG (D:=8) (by kernel_rfl) fun m hm=>⟨zdb,zda xB za xz zd yw L,(xn (xn (xn (xn (xn xF (zCW L m (by omega))) (zgy L m (by omega))) (zBo L m (by omega))) (zvI L m (by omega))) (zz3 L m (by omega))),zB3 L⟩
theorem zBJ (L:Nat):FOk (yK rows) L 268 (zkj zg L) 10:=zG (D:=9) (by kernel_rfl) fun m hm=>⟨zcd,zca zc za yc zj L,(xn (xn (xn (xn xF (zwO L m (by omega))) (zgy L m (by omega))) (zpL L m (by omega))) (zsk L m (by omega))),zAM L⟩
theorem zrQ (L:Nat):FOk (yK rows) L 256 (zg1 zcj L) 11:=zG (D:=10) (by kernel_rfl) fun m hm=>⟨xA,yA xc zc xd zd zg xb ya L,(xn (xn (xn (xn (xn (xn (xn xF (zBR L m (by omega))) (zwO L m (by omega))) (zDs L m (by omega))) (zvI L m (by omega))) (zBJ L m (by omega))) (zlf L m (by omega))) (zgC L m (by omega))),zq8 L⟩
end
end Go.Proofs.Ytpafdnidhnldhaa
