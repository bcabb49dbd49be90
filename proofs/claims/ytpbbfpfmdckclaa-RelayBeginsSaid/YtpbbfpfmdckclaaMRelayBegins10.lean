/- Part 10 of the proof of RelayBegins: an abstract machine over plain values, its soundness, and the functions of the program on plain values. -/
import Derived.Test.YtpbbfpfmdckclaaMRelayBegins9
namespace Go.Proofs.Ytpbbfpfmdckclaa
section
set_option maxRecDepth 100000
set_option linter.unusedVariables false
set_option linter.unusedSimpArgs false
def zpb:CC:=(.seq (.reg [oo 9 (.bin .lss (tq 8) (tq 7))])
 (.seq (.cond (tq 9)
 .skip
 (.seq (.mask (bl 0 19) (bl 458703 19))
 (.exit 0)))
 (.seq (.block 1 (.seq (.reg [oo 10 (.move (tq 8) false),
   oo 5 (.move (tq 10) false)])
 (.seq (.reg [oo 11 (.move (tq 1) false),
   oo 12 (.move (tq 0) false),
   oo 13 (.move (tq 5) false),
   oo 14 (.indexAddrS 35 (tq 12) (tq 13)),
   oo 15 (.load true 35 (tq 14) false),
   oo 16 (.callv (tq 11) [((tq 15),0)] [])])
 (.cond (tq 16)
 (.seq (.reg [oo 17 (.move (tq 5) false),
   oo 4 (.move (tq 17) false)])
 (.seq (.mask (bl 16 19) (bl 458719 19))
 .ret))
 .skip))))
 (.reg [oo 18 (.bin .add (tq 8) (.const (.sc (.int .i64 1)))),
   oo 8 (.move (tq 18) false)]))))
def zqg:CC:=(.seq (.reg [oo 4 (.move (.const (.sc (.int .i64 (-1)))) false)])
 .ret)
def zqq:CF:=zao
def zqx:Nat→Sh:=xZ []
def zqt (yA:zah) (L:Nat):CBC:=(xB 368 (zra yA L) noC)
def zpC:St→St:=yT 3 (bl 387 19) (bl 458703 19)
def zoE (p0l:Nat) (p7 p8:Int) (b0:List V) (zEZ:Int) (zE2:List (List V)):St:=⟨((V.own 0 0 p0l 35)::((V.fn 368 [(V.ptr 1 0),(V.ptr 2 0)])::(jn 5 ((V.sc (.int .i64 p7))::((V.sc (.int .i64 p8))::(jn 10 [])))))),((.live true b0)::((.live true [(V.sc (.int .u32 zEZ))])::((.live false [(V.gs 32 zE2)])::(gn 19 []))))⟩
def zo6 (p4:Int) (b0:List V) (zEZ:Int) (zE2:List (List V)):St:=⟨(jn 4 ((V.sc (.int .i64 p4))::(jn 14 []))),((.live true b0)::((.live true [(V.sc (.int .u32 zEZ))])::((.live false [(V.gs 32 zE2)])::(gn 19 []))))⟩
def zpF (b0:List V) (zEZ:Int) (zE2:List (List V)):St:=⟨(jn 19 []),((.live true b0)::((.live true [(V.sc (.int .u32 zEZ))])::((.live false [(V.gs 32 zE2)])::(gn 19 []))))⟩
def zg0 {β:Type} (yA:zah) (L:Nat) (p0l:Nat) (b0:List V) (zEZ:Int) (zE2:List (List V)) (k_hbaba:Nat→Int→Int→List V→Int→List (List V)→Option β):Option β :=
 k_hbaba p0l ((p0l:Nat):Int) (0:Int) b0 zEZ zE2
def zfL {β:Type} (yA:zah) (L:Nat) (p0l:Nat) (p7 p8:Int) (b0:List V) (zEZ:Int) (zE2:List (List V)) (k_ret:Int→List V→Int→List (List V)→Option β) (k_hbaba:Nat→Int→Int→List V→Int→List (List V)→Option β) (k_x0:List V→Int→List (List V)→Option β):Option β :=
 ifb (decide (p8 < p7)) (
 chk (0≤p8∧p8 < ((p0l:Nat):Int)) (
 chk ((0+((Int.toNat p8) * 35))+35≤(List.length b0)) (
 yA β L (List.take 35 (List.drop (0+((Int.toNat p8) * 35)) b0)) zEZ zE2 (fun v0 v1 v2 =>
 ifb v0 (
 k_ret p8 b0 v1 v2) (
 lt (IntKind.wrap .i64 ((p8:Int)+(1:Int))) fun x3 =>
 k_hbaba p0l p7 x3 b0 v1 v2))))) (
 k_x0 b0 zEZ zE2)
def zfb {β:Type} (yA:zah) (L:Nat) (p4:Int) (b0:List V) (zEZ:Int) (zE2:List (List V)) (k_fin:Int→List V→Int→List (List V)→Option β):Option β :=
 k_fin p4 b0 zEZ zE2
def zfk {β:Type} (yA:zah) (L:Nat) (b0:List V) (zEZ:Int) (zE2:List (List V)) (k_fin:Int→List V→Int→List (List V)→Option β):Option β :=
 k_fin (-1:Int) b0 zEZ zE2
def zce {β:Type} (yA:zah) (L:Nat) (k_ret:Int→List V→Int→List (List V)→Option β) (k_x0:List V→Int→List (List V)→Option β):Nat→Nat→Int→Int→List V→Int→List (List V)→Option β
 | 0,_,_,_,_,_,_=>none
 | n+1,p0l,p7,p8,b0,zEZ,zE2=>zfL yA L p0l p7 p8 b0 zEZ zE2 k_ret (fun p0l p7 p8 b0 zEZ zE2=>zce yA L k_ret k_x0 n p0l p7 p8 b0 zEZ zE2) k_x0
def zgE {β:Type} (yA:zah) (L:Nat) (p0l:Nat) (b0:List V) (zEZ:Int) (zE2:List (List V)) (k_fin:Int→List V→Int→List (List V)→Option β):Option β :=
 zg0 yA L p0l b0 zEZ zE2 (fun p0l p7 p8 b0 zEZ zE2=>zce yA L (fun p4 b0 zEZ zE2=>zfb yA L p4 b0 zEZ zE2 k_fin) (fun b0 zEZ zE2=>zfk yA L b0 zEZ zE2 k_fin) L p0l p7 p8 b0 zEZ zE2)
abbrev xK:=∀ (β:Type),Nat→Nat→List V→Int→List (List V)→(Int→List V→Int→List (List V)→Option β)→Option β
def xo (β:Type) (L:Nat) (p0l:Nat) (b0:List V) (zEZ:Int) (zE2:List (List V)) (k_fin:Int→List V→Int→List (List V)→Option β):Option β:=zgE yA L p0l b0 zEZ zE2 k_fin
def zgM (xo:xK) (L:Nat) (β:Type) (args:List V) (bor:Bor) (k:KK β):Option β:=match args,bor with
 | [a0,a1],[(.live true b0),(.live true [w1_0]),(.live false [w2_0])]=>aO0 0 35 a0 fun p0l=>aF 368 [(1,0),(2,0)] a1 (aI .u32 w1_0 fun zEZ=>aGs 32 w2_0 fun zE2=>xo β L p0l b0 zEZ zE2 (fun p0 b0 zEZ zE2=>k (V.sc (.int .i64 p0)) [(.live true b0),(.live true [(V.sc (.int .u32 zEZ))]),(.live false [(V.gs 32 zE2)])]))
 | _,_=>none
def zfD:CC:=(.seq (.seq (.reg [oo 16 (.move (tq 6) false),
   oo 17 (.move (tq 0) false),
   oo 18 (.lenS (tq 17)),
   oo 19 (.bin .lss (tq 16) (tq 18))])
 (.cond (tq 19)
 .skip
 (.seq (.mask (bl 33 42) (bl 4397777813311 42))
 (.exit 0))))
 (.seq (.block 1 (.seq (.reg [oo 22 (.move (tq 0) false),
   oo 23 (.move (tq 6) false),
   oo 24 (.indexAddrS 35 (tq 22) (tq 23)),
   oo 25 (.load true 35 (tq 24) false),
   oo 7 (.alloc true (rp 32 (.sc (.int .u8 0)) (rp 2 (.sc (.int .i64 0)) (rp 1 (.sc (.int .u32 0)) [])))),
   oz (.store 35 (tq 7) (tq 25))])
 (.seq (.reg [oo 26 (.move (tq 1) false),
   oo 27 (.load true 35 (tq 7) false),
   oo 28 (.callv (tq 26) [((tq 27),0)] []),
   oo 29 (.un .not (tq 28))])
 (.cond (tq 29)
 (.seq (.reg [oo 30 (.move (tq 0) false),
   oo 31 (.move (tq 5) false),
   oo 32 (.load true 35 (tq 7) false),
   oo 33 (.indexAddrS 35 (tq 30) (tq 31)),
   oz (.store 35 (tq 33) (tq 32))])
 (.reg [oo 34 (.move (tq 5) false),
   oo 35 (.bin .add (tq 34) (.const (.sc (.int .i64 1)))),
   oo 5 (.move (tq 35) false)]))
 .skip))))
 (.reg [oo 20 (.move (tq 6) false),
   oo 21 (.bin .add (tq 20) (.const (.sc (.int .i64 1)))),
   oo 6 (.move (tq 21) false)])))
def zgr:CC:=(.seq (.reg [oo 36 (.move (tq 0) false),
   oo 37 (.move (tq 5) false),
   oo 38 (.sliceS 35 (tq 36) (some (tq 37)) none none),
   oz (.clear 35 (rp 32 (.sc (.int .u8 0)) (rp 2 (.sc (.int .i64 0)) (rp 1 (.sc (.int .u32 0)) []))) (tq 38))])
 (.seq (.reg [oo 39 (.move (tq 0) true),
   oo 40 (.move (tq 5) false),
   oo 41 (.sliceS 35 (tq 39) none (some (tq 40)) none),
   oo 4 (.move (tq 41) true)])
 .ret))
def zc0:CF:=⟨42,[.tmp 4],
 (.seq (.reg [oo 4 (.move (.const (.gs 35 [])) true)])
 (.seq (.reg [oo 8 (.move (tq 0) false),
   oo 9 (.move (tq 1) false),
   oo 10 (.call 372 [((tq 8),2),((tq 9),2)] []),
   oo 5 (.move (tq 10) false)])
 (.seq (.seq (.reg [oo 11 (.move (tq 5) false),
   oo 12 (.bin .eql (tq 11) (.const (.sc (.int .i64 (-1)))))])
 (.cond (tq 12)
 (.seq (.reg [oo 13 (.move (tq 0) true),
   oo 4 (.move (tq 13) true)])
 .ret)
 .skip))
 (.seq (.seq (.reg [oo 14 (.move (tq 5) false),
   oo 15 (.bin .add (tq 14) (.const (.sc (.int .i64 1)))),
   oo 6 (.move (tq 15) false)])
 (.block 0 (.loop (bl 99 42) (bl 4397777813375 42)
 zfD)))
 zgr))))⟩
def zcA:Hint:=⟨[(0,0),(1,2),(3,0),(3,1),(12,0),(12,3)],[],[none,none,none,some ((bl 99 42),(bl 4397777813375 42)),none,some ((bl 33 42),(bl 4397777813311 42)),none,none,none],[],[],false,false⟩
def zri:Nat→Sh:=xZ []
def zrh (xo:xK) (yA:zah) (L:Nat):CBC:=(xB 368 (zra yA L) (xB 372 (zgM xo L) noC))
def zpy:St→St:=yT 3 (bl 99 42) (bl 4397777813375 42)
def zoD (p0l:Nat) (p5 p6:Int) (b0:List V) (zEZ:Int) (zE2:List (List V)):St:=⟨((V.own 0 0 p0l 35)::((V.fn 368 [(V.ptr 1 0),(V.ptr 2 0)])::(jn 3 ((V.sc (.int .i64 p5))::((V.sc (.int .i64 p6))::(jn 35 [])))))),((.live true b0)::((.live true [(V.sc (.int .u32 zEZ))])::((.live false [(V.gs 32 zE2)])::(gn 42 []))))⟩
def zp7 (p0l:Nat) (p5:Int) (b0:List V) (zEZ:Int) (zE2:List (List V)):St:=⟨((V.own 0 0 p0l 35)::(jn 4 ((V.sc (.int .i64 p5))::(jn 36 [])))),((.live true b0)::((.live true [(V.sc (.int .u32 zEZ))])::((.live false [(V.gs 32 zE2)])::(gn 42 []))))⟩
def zhA {β:Type} (xo:xK) (yA:zah) (L:Nat) (p0l:Nat) (b0:List V) (zEZ:Int) (zE2:List (List V)) (k_fin:Nat→List V→Int→List (List V)→Option β) (k_hbbbaba:Nat→Int→Int→List V→Int→List (List V)→Option β):Option β :=
 xo β L p0l b0 zEZ zE2 (fun v0 v1 v2 v3 =>
 chk ([(List.length v1),1,1]=[(List.length b0),1,1]) (
 ifb ((v0:Int) == (-1:Int)) (
 k_fin p0l v1 v2 v3) (
 lt (IntKind.wrap .i64 ((v0:Int)+(1:Int))) fun x4 =>
 k_hbbbaba p0l v0 x4 v1 v2 v3)))
def zfI {β:Type} (xo:xK) (yA:zah) (L:Nat) (p0l:Nat) (p5 p6:Int) (b0:List V) (zEZ:Int) (zE2:List (List V)) (k_hbbbaba:Nat→Int→Int→List V→Int→List (List V)→Option β) (k_x0:Nat→Int→List V→Int→List (List V)→Option β):Option β :=
 ifb (decide (p6 < ((p0l:Nat):Int))) (
 chk (0≤p6∧p6 < ((p0l:Nat):Int)) (
 chk ((0+((Int.toNat p6) * 35))+35≤(List.length b0)) (
 chk ((List.length (List.take 35 (List.drop (0+((Int.toNat p6) * 35)) b0)))=35∧0+35≤35) (
 lt (zc (List.replicate 32 (V.sc (.int .u8 (0:Int)))++[(V.sc (.int .i64 (0:Int))),(V.sc (.int .i64 (0:Int))),(V.sc (.int .u32 (0:Int)))]) 0 (List.take 35 (List.drop (0+((Int.toNat p6) * 35)) b0))) fun r5 =>
 chk (0+35≤(List.length r5)) (
 yA β L (List.take 35 r5) zEZ zE2 (fun v6 v7 v8 =>
 ifb (!v6) (
 chk (0+35≤(List.length r5)) (
 chk (0≤p5∧p5 < ((p0l:Nat):Int)) (
 chk ((List.length (List.take 35 r5))=35∧(0+((Int.toNat p5) * 35))+35≤(List.length b0)) (
 lt (zc b0 (0+((Int.toNat p5) * 35)) (List.take 35 r5)) fun r9 =>
 lt (IntKind.wrap .i64 ((p5:Int)+(1:Int))) fun x10 =>
 lt (IntKind.wrap .i64 ((p6:Int)+(1:Int))) fun x11 =>
 k_hbbbaba p0l x10 x11 r9 v7 v8)))) (
 lt (IntKind.wrap .i64 ((p6:Int)+(1:Int))) fun x12 =>
 k_hbbbaba p0l p5 x12 b0 v7 v8))))))) (
 k_x0 p0l p5 b0 zEZ zE2)
def zfj {β:Type} (xo:xK) (yA:zah) (L:Nat) (p0l:Nat) (p5:Int) (b0:List V) (zEZ:Int) (zE2:List (List V)) (k_fin:Nat→List V→Int→List (List V)→Option β):Option β :=
 chk (0≤p5∧p5≤((p0l:Nat):Int)) (
 lt (zc b0 (0+((Int.toNat p5) * 35)) (List.flatten (List.replicate (p0l - (Int.toNat p5)) (List.replicate 32 (V.sc (.int .u8 (0:Int)))++[(V.sc (.int .i64 (0:Int))),(V.sc (.int .i64 (0:Int))),(V.sc (.int .u32 (0:Int)))])))) fun r13 =>
 chk (0≤p5∧p5≤((p0l:Nat):Int)) (
 k_fin ((Int.toNat p5) - 0) r13 zEZ zE2))
def zcc {β:Type} (xo:xK) (yA:zah) (L:Nat) (k_x0:Nat→Int→List V→Int→List (List V)→Option β):Nat→Nat→Int→Int→List V→Int→List (List V)→Option β
 | 0,_,_,_,_,_,_=>none
 | n+1,p0l,p5,p6,b0,zEZ,zE2=>zfI xo yA L p0l p5 p6 b0 zEZ zE2 (fun p0l p5 p6 b0 zEZ zE2=>zcc xo yA L k_x0 n p0l p5 p6 b0 zEZ zE2) k_x0
def zhF {β:Type} (xo:xK) (yA:zah) (L:Nat) (p0l:Nat) (b0:List V) (zEZ:Int) (zE2:List (List V)) (k_fin:Nat→List V→Int→List (List V)→Option β):Option β :=
 zhA xo yA L p0l b0 zEZ zE2 k_fin (fun p0l p5 p6 b0 zEZ zE2=>zcc xo yA L (fun p0l p5 b0 zEZ zE2=>zfj xo yA L p0l p5 b0 zEZ zE2 k_fin) L p0l p5 p6 b0 zEZ zE2)
abbrev zbo:=∀ (β:Type),Nat→Nat→List V→Int→List (List V)→(Nat→List V→Int→List (List V)→Option β)→Option β
def xL (β:Type) (L:Nat) (p0l:Nat) (b0:List V) (zEZ:Int) (zE2:List (List V)) (k_fin:Nat→List V→Int→List (List V)→Option β):Option β:=zhF xo yA L p0l b0 zEZ zE2 k_fin
def zhx (xL:zbo) (L:Nat) (β:Type) (args:List V) (bor:Bor) (k:KK β):Option β:=match args,bor with
 | [a0,a1],[(.live true b0),(.live true [w1_0]),(.live false [w2_0])]=>aO0 0 35 a0 fun p0l=>aF 368 [(1,0),(2,0)] a1 (aI .u32 w1_0 fun zEZ=>aGs 32 w2_0 fun zE2=>xL β L p0l b0 zEZ zE2 (fun p0l b0 zEZ zE2=>k (V.own 0 0 p0l 35) [(.live true b0),(.live true [(V.sc (.int .u32 zEZ))]),(.live false [(V.gs 32 zE2)])]))
 | _,_=>none
def zsI:CF:=⟨22,[.cellS 4 5 true,.tmpP 5],
 (.seq (.reg [oo 2 (.box false (tq 0)),
   oo 3 (.box true (tq 1)),
   oo 4 (.alloc false [(.sc (.int .u32 0)),(.sc (.bool false)),(.gs 1 []),(.gs 35 []),(.gs 32 [])]),
   oo 5 (.move (.const (.gs 32 [])) true)])
 (.seq (.reg [oo 8 (.load true 5 (tq 2) false),
   oo 9 (.call 356 [((tq 8),1)] []),
   oo 6 (.move (tq 9) false)])
 (.seq (.reg [oo 10 (.load true 5 (tq 2) false),
   oo 11 (.call 358 [((tq 10),1)] [13,15,19]),
   oz (.store 5 (tq 2) (tq 11))])
 (.seq (.seq (.reg [oo 12 (.move (tq 6) false),
   oo 13 (.un .not (tq 12))])
 (.cond (tq 13)
 (.seq (.reg [oo 14 (.load true 5 (tq 2) true),
   oz (.store 5 (tq 4) (tq 14)),
   oo 5 (.move (.const (.gs 32 [])) true)])
 .ret)
 .skip))
 (.seq (.reg [oo 7 (.alloc false [(.gs 32 [])])])
 (.seq (.reg [oo 15 (.fieldAddr 3 (tq 2)),
   oo 16 (.load false 1 (tq 15) false),
   oo 17 (.makeFunc 368 [(tq 3),(tq 7)]),
   oo 18 (.call 367 [((tq 16),2),((tq 17),2)] []),
   oo 19 (.fieldAddr 3 (tq 2)),
   oz (.store 1 (tq 19) (tq 18))])
 (.seq (.dreg [] [(oo 20 (.load true 5 (tq 2) true),ql 2 [7] []),
   (oo 21 (.load false 1 (tq 7) false),ql 7 [2,4] []),
   (oz (.store 5 (tq 4) (tq 20)),ql 4 [7] []),
   (oo 5 (.move (tq 21) true),q0)])
 .ret)))))))⟩
def zqa:Hint:=⟨[(0,3),(4,0),(4,2),(6,3),(7,0),(7,3)],[],[none,none,none],[],[(2,1,[13,15,19])],true,true⟩
def zDD:Nat→Sh:=xZ [(2,(.row [(.int .u32),.bool,(.sl 1),(.sl 35),(.sl 32)]))]
def zC2 (ym:xS) (zl:yP) (xL:zbo) (L:Nat):CBC:=(xB 367 (zhx xL L) (xB 358 (zdn zl L) (xB 356 (zd9 ym L) noC)))
def zyS {β:Type} (ym:xS) (zl:yP) (xL:zbo) (L:Nat) (p0:List V) (p1:Int) (k_fin:List V→List (List V)→Option β) (k_finv1:List V→List (List V)→Option β):Option β :=
 chk (List.length p0=5) (
 cI .u32 p0 0 fun v0 =>
 cB p0 1 fun v1 =>
 cL 1 p0 2 fun v2 =>
 cL 35 p0 3 fun v3 =>
 cL 32 p0 4 fun v4 =>
 ym β L [(V.sc (.int .u32 v0)),(V.sc (.bool v1)),(V.sl 1 v2),(V.sl 35 v3),(V.sl 32 v4)] (fun v5 =>
 zl β L [(V.sc (.int .u32 v0)),(V.sc (.bool v1)),(V.sl 1 v2),(V.sl 35 v3),(V.sl 32 v4)] (fun v6 v7 v8 v9 v10 v11 v12 v13 =>
 ifb (!v5) (
 k_fin [(V.sc (.int .u32 v6)),(V.sc (.bool v7)),(V.sl 1 (xc 1 v8 v11)),(V.sl 35 (xc 35 v9 v12)),(V.sl 32 (xc 32 v10 v13))] ([]:List (List V))) (
 xL β L v9 v12 p1 ([]:List (List V)) (fun v14 v15 v16 v17 =>
 chk ([(List.length v15),1,1]=[(List.length v12),1,1]) (
 k_finv1 [(V.sc (.int .u32 v6)),(V.sc (.bool v7)),(V.sl 1 (xc 1 v8 v11)),(V.sl 35 (xc 35 v14 v15)),(V.sl 32 (xc 32 v10 v13))] v17))))))
abbrev yC:=∀ (β:Type),Nat→List V→Int→(List V→List (List V)→Option β)→(List V→List (List V)→Option β)→Option β
def xl (β:Type) (L:Nat) (p0:List V) (p1:Int) (k_fin:List V→List (List V)→Option β) (k_finv1:List V→List (List V)→Option β):Option β:=zyS ym zl xL L p0 p1 k_fin k_finv1
def ztq (xl:yC) (L:Nat) (β:Type) (args:List V) (bor:Bor) (k:KK β):Option β:=match args,bor with
 | [a0,a1],[]=>aG a0 fun p0=>aI .u32 a1 fun p1=>xl β L p0 p1 (fun zE0 zE1=>k (V.tup [(V.agg zE0),(V.gs 32 zE1)]) []) (fun zE0 zE1=>k (V.tup [(V.agg zE0),(V.sl 32 zE1)]) [])
 | _,_=>none
def zqQ:CC:=(.seq (.seq (.reg [oo 16 (.move (tq 8) false),
   oo 17 (.fieldAddr 3 (tq 2)),
   oo 18 (.load false 1 (tq 17) false),
   oo 19 (.lenS (tq 18)),
   oo 20 (.bin .lss (tq 16) (tq 19))])
 (.cond (tq 20)
 .skip
 (.seq (.mask (bl 208 52) (bl 4080562528059131 52))
 (.exit 0))))
 (.seq (.block 1 (.seq (.reg [oo 23 (.fieldAddr 3 (tq 2)),
   oo 24 (.load false 1 (tq 23) false),
   oo 25 (.move (tq 8) false),
   oo 26 (.indexAddrS 35 (tq 24) (tq 25)),
   oo 27 (.fieldAddr 34 (tq 26)),
   oo 28 (.load false 1 (tq 27) false),
   oo 29 (.move (tq 1) false),
   oo 30 (.bin .leq (tq 28) (tq 29))])
 (.cond (tq 30)
 (.reg [oo 31 (.move (tq 7) true),
   oo 32 (.fieldAddr 3 (tq 2)),
   oo 33 (.load false 1 (tq 32) false),
   oo 34 (.move (tq 8) false),
   oo 35 (.indexAddrS 35 (tq 33) (tq 34)),
   oo 36 (.fieldAddr 0 (tq 35)),
   oo 37 (.load true 32 (tq 36) false),
   oo 38 (.buildSlice 32 1 (rp 32 (.sc (.int .u8 0)) []) [(0,32,(tq 37))]),
   oo 39 (.append 32 32 (tq 31) (tq 38)),
   oo 7 (.move (tq 39) true)])
 (.dreg [] [(oo 40 (.fieldAddr 3 (tq 6)),q0),
   (oo 41 (.load false 1 (tq 40) true),ql 6 [2] [47]),
   (oo 42 (.fieldAddr 3 (tq 2)),q0),
   (oo 43 (.load false 1 (tq 42) false),ql 2 [6] []),
   (oo 44 (.move (tq 8) false),q0),
   (oo 45 (.indexAddrS 35 (tq 43) (tq 44)),q0),
   (oo 46 (.load true 35 (tq 45) false),qc [6] []),
   (oo 47 (.buildSlice 35 1 (rp 32 (.sc (.int .u8 0)) (rp 2 (.sc (.int .i64 0)) (rp 1 (.sc (.int .u32 0)) []))) [(0,35,(tq 46))]),qn [6] []),
   (oo 48 (.append 35 56 (tq 41) (tq 47)),q0),
   (oo 49 (.fieldAddr 3 (tq 6)),q0),
   (oz (.store 1 (tq 49) (tq 48)),q0)]))))
 (.reg [oo 21 (.move (tq 8) false),
   oo 22 (.bin .add (tq 21) (.const (.sc (.int .i64 1)))),
   oo 8 (.move (tq 22) false)])))
def zs7:CC:=(.seq (.reg [oo 50 (.load true 5 (tq 6) true),
   oo 51 (.move (tq 7) true),
   oz (.store 5 (tq 4) (tq 50)),
   oo 5 (.move (tq 51) true)])
 .ret)
def zrU:CF:=⟨52,[.cellS 4 5 true,.tmpP 5],
 (.seq (.reg [oo 2 (.box true (tq 0)),
   oo 4 (.alloc false [(.sc (.int .u32 0)),(.sc (.bool false)),(.gs 1 []),(.gs 35 []),(.gs 32 [])]),
   oo 5 (.move (.const (.gs 32 [])) true)])
 (.seq (.reg [oo 9 (.load true 5 (tq 2) false),
   oo 10 (.call 355 [((tq 9),1)] [13,15,17]),
   oo 6 (.alloc false [(.sc (.int .u32 0)),(.sc (.bool false)),(.gs 1 []),(.gs 35 []),(.gs 32 [])]),
   oz (.store 5 (tq 6) (tq 10))])
 (.seq (.seq (.reg [oo 11 (.load true 5 (tq 2) false),
   oo 12 (.call 362 [((tq 11),1)] []),
   oo 13 (.un .not (tq 12))])
 (.cond (tq 13)
 (.seq (.reg [oo 14 (.load true 5 (tq 6) true),
   oz (.store 5 (tq 4) (tq 14)),
   oo 5 (.move (.const (.gs 32 [])) true)])
 .ret)
 .skip))
 (.seq (.reg [oo 7 (.move (.const (.gs 32 [])) true)])
 (.seq (.reg [oo 15 (.fieldAddr 3 (tq 6)),
   oz (.store 1 (tq 15) (.const (.gs 35 [])))])
 (.seq (.seq (.reg [oo 8 (.move (.const (.sc (.int .i64 0))) false)])
 (.block 0 (.loop (bl 470 52) (bl 4080562528059391 52)
 zqQ)))
 zs7))))))⟩
def zp2:Hint:=⟨[(0,0),(0,2),(3,0),(3,2),(4,0),(10,0),(10,9),(11,1),(12,0),(12,1),(12,3)],[],[none,none,none,some ((bl 470 52),(bl 4080562528059391 52)),none,some ((bl 208 52),(bl 4080562528059131 52)),none,none,none],[],[(1,1,[13,15,17])],true,true⟩
def zDt:Nat→Sh:=xZ [(18,(.sl 35)),(24,(.sl 35)),(28,(.int .u32)),(33,(.sl 35)),(43,(.sl 35))]
def zDs (xf:zw) (zg:xz) (L:Nat):CBC:=(xB 362 (zd8 zg L) (xB 355 (zcm xf L) noC))
def zAk:St→St:=yT 0 (bl 470 52) (bl 4080562528059391 52)
def zyE (p1:Int) (p7:List (List V)) (p8:Int) (b2:List V) (zEL:Int) (zEM:Bool) (zEI zEJ zEK:List (List V)) (zE3:Int) (zE4:Bool) (zFf:Nat) (zFg:List (List V)) (zEY:Nat) (b13 b15 b17:List V):St:=⟨(jn 1 ((V.sc (.int .u32 p1))::((V.ptr 2 0)::(jn 1 ((V.ptr 4 0)::(jn 1 ((V.ptr 6 0)::((V.gs 32 p7)::((V.sc (.int .i64 p8))::(jn 43 [])))))))))),(gn 2 ((.live true b2)::(gn 1 ((.live false [(V.sc (.int .u32 zEL)),(V.sc (.bool zEM)),(V.gs 1 zEI),(V.gs 35 zEJ),(V.gs 32 zEK)])::(gn 1 ((.live false [(V.sc (.int .u32 zE3)),(V.sc (.bool zE4)),(V.own 13 0 zFf 1),(V.gs 35 zFg),(V.own 17 0 zEY 32)])::(gn 6 ((.live true b13)::(gn 1 ((.live true b15)::(gn 1 ((.live true b17)::(gn 34 [])))))))))))))⟩
def zB9 (p7:List (List V)) (zEL:Int) (zEM:Bool) (zEI zEJ zEK:List (List V)) (zE3:Int) (zE4:Bool) (zFf:Nat) (zFg:List (List V)) (zEY:Nat) (b13 b15 b17:List V):St:=⟨(jn 4 ((V.ptr 4 0)::(jn 1 ((V.ptr 6 0)::((V.gs 32 p7)::(jn 44 [])))))),(gn 4 ((.live false [(V.sc (.int .u32 zEL)),(V.sc (.bool zEM)),(V.gs 1 zEI),(V.gs 35 zEJ),(V.gs 32 zEK)])::(gn 1 ((.live false [(V.sc (.int .u32 zE3)),(V.sc (.bool zE4)),(V.own 13 0 zFf 1),(V.gs 35 zFg),(V.own 17 0 zEY 32)])::(gn 6 ((.live true b13)::(gn 1 ((.live true b15)::(gn 1 ((.live true b17)::(gn 34 [])))))))))))⟩
abbrev zkW (β:Type):Type:=Int→List (List V)→Int→List V→Int→Bool→List (List V)→List (List V)→List (List V)→Int→Bool→Nat→List (List V)→Nat→List V→List V→List V→Option β
abbrev zrl (β:Type):Type:=List (List V)→Int→Bool→List (List V)→List (List V)→List (List V)→Int→Bool→Nat→List (List V)→Nat→List V→List V→List V→Option β
def zyP {β:Type} (xf:zw) (zg:xz) (L:Nat) (p0:List V) (p1:Int) (k_fin:List V→List (List V)→Option β) (k_hbbbbbaba:zkW β):Option β :=
 chk (0+5≤(List.length p0)) (
 xf β L (List.map V.dem (List.take 5 p0)) (fun v0 v1 v2 v3 v4 v5 v6 v7 =>
 chk (0+5≤(List.length p0)) (
 zg β L (List.map V.dem (List.take 5 p0)) (fun v8 =>
 ifb (!v8) (
 k_fin [(V.sc (.int .u32 v0)),(V.sc (.bool v1)),(V.sl 1 (xc 1 v2 v5)),(V.sl 35 (xc 35 v3 v6)),(V.sl 32 (xc 32 v4 v7))] ([]:List (List V))) (
 k_hbbbbbaba p1 ([]:List (List V)) (0:Int) p0 (0:Int) false ([]:List (List V)) ([]:List (List V)) ([]:List (List V)) v0 v1 v2 ([]:List (List V)) v4 v5 v6 v7)))))
def zrD {β:Type} (xf:zw) (zg:xz) (L:Nat) (p1:Int) (p7:List (List V)) (p8:Int) (b2:List V) (zEL:Int) (zEM:Bool) (zEI zEJ zEK:List (List V)) (zE3:Int) (zE4:Bool) (zFf:Nat) (zFg:List (List V)) (zEY:Nat) (b13 b15 b17:List V) (k_hbbbbbaba:zkW β) (k_x0:zrl β):Option β :=
 cLd 35 b2 3 fun v9 =>
 ifb (decide (p8 < ((List.length v9:Nat):Int))) (
 cLd 35 b2 3 fun v10 =>
 idx v10 p8 fun c11 =>
 cI .u32 (List.drop 34 c11) 0 fun v12 =>
 ifb (decide (v12≤p1)) (
 cLd 35 b2 3 fun v13 =>
 idx v13 p8 fun c14 =>
 chk ((List.length (List.take 32 c14))=32∧0+32≤32) (
 chk ((List.length p7+List.length (xc 32 1 (zc (List.replicate 32 (V.sc (.int .u8 (0:Int)))) 0 (List.take 32 c14)))) * 32≤zj∧List.length p7+List.length (xc 32 1 (zc (List.replicate 32 (V.sc (.int .u8 (0:Int)))) 0 (List.take 32 c14)))≤zj) (
 lt (p7++(xc 32 1 (zc (List.replicate 32 (V.sc (.int .u8 (0:Int)))) 0 (List.take 32 c14)))) fun l15 =>
 lt (IntKind.wrap .i64 ((p8:Int)+(1:Int))) fun x16 =>
 k_hbbbbbaba p1 l15 x16 b2 zEL zEM zEI zEJ zEK zE3 zE4 zFf zFg zEY b13 b15 b17))) (
 cLd 35 b2 3 fun v17 =>
 idx v17 p8 fun c18 =>
 chk ((List.length (List.take 35 c18))=35∧0+35≤35) (
 chk ((List.length zFg+List.length (xc 35 1 (zc (List.replicate 32 (V.sc (.int .u8 (0:Int)))++[(V.sc (.int .i64 (0:Int))),(V.sc (.int .i64 (0:Int))),(V.sc (.int .u32 (0:Int)))]) 0 (List.take 35 c18)))) * 56≤zj∧List.length zFg+List.length (xc 35 1 (zc (List.replicate 32 (V.sc (.int .u8 (0:Int)))++[(V.sc (.int .i64 (0:Int))),(V.sc (.int .i64 (0:Int))),(V.sc (.int .u32 (0:Int)))]) 0 (List.take 35 c18)))≤zj) (
 lt (zFg++(xc 35 1 (zc (List.replicate 32 (V.sc (.int .u8 (0:Int)))++[(V.sc (.int .i64 (0:Int))),(V.sc (.int .i64 (0:Int))),(V.sc (.int .u32 (0:Int)))]) 0 (List.take 35 c18)))) fun l19 =>
 lt (IntKind.wrap .i64 ((p8:Int)+(1:Int))) fun x20 =>
 k_hbbbbbaba p1 p7 x20 b2 zEL zEM zEI zEJ zEK zE3 zE4 zFf l19 zEY b13 b15 b17)))) (
 k_x0 p7 zEL zEM zEI zEJ zEK zE3 zE4 zFf zFg zEY b13 b15 b17)
def zpO {β:Type} (xf:zw) (zg:xz) (L:Nat) (p7:List (List V)) (zEL:Int) (zEM:Bool) (zEI zEJ zEK:List (List V)) (zE3:Int) (zE4:Bool) (zFf:Nat) (zFg:List (List V)) (zEY:Nat) (b13 b15 b17:List V) (k_fin:List V→List (List V)→Option β):Option β :=
 k_fin [(V.sc (.int .u32 zE3)),(V.sc (.bool zE4)),(V.sl 1 (xc 1 zFf b13)),(V.sl 35 zFg),(V.sl 32 (xc 32 zEY b17))] p7
def zlr {β:Type} (xf:zw) (zg:xz) (L:Nat) (k_x0:zrl β):Nat→Int→List (List V)→Int→List V→Int→Bool→List (List V)→List (List V)→List (List V)→Int→Bool→Nat→List (List V)→Nat→List V→List V→List V→Option β
 | 0,_,_,_,_,_,_,_,_,_,_,_,_,_,_,_,_,_=>none
 | n+1,p1,p7,p8,b2,zEL,zEM,zEI,zEJ,zEK,zE3,zE4,zFf,zFg,zEY,b13,b15,b17=>zrD xf zg L p1 p7 p8 b2 zEL zEM zEI zEJ zEK zE3 zE4 zFf zFg zEY b13 b15 b17 (fun p1 p7 p8 b2 zEL zEM zEI zEJ zEK zE3 zE4 zFf zFg zEY b13 b15 b17=>zlr xf zg L k_x0 n p1 p7 p8 b2 zEL zEM zEI zEJ zEK zE3 zE4 zFf zFg zEY b13 b15 b17) k_x0
def zyM {β:Type} (xf:zw) (zg:xz) (L:Nat) (p0:List V) (p1:Int) (k_fin:List V→List (List V)→Option β):Option β :=
 zyP xf zg L p0 p1 k_fin (fun p1 p7 p8 b2 zEL zEM zEI zEJ zEK zE3 zE4 zFf zFg zEY b13 b15 b17=>zlr xf zg L (fun p7 zEL zEM zEI zEJ zEK zE3 zE4 zFf zFg zEY b13 b15 b17=>zpO xf zg L p7 zEL zEM zEI zEJ zEK zE3 zE4 zFf zFg zEY b13 b15 b17 k_fin) L p1 p7 p8 b2 zEL zEM zEI zEJ zEK zE3 zE4 zFf zFg zEY b13 b15 b17)
abbrev y6:=∀ (β:Type),Nat→List V→Int→(List V→List (List V)→Option β)→Option β
def zy (β:Type) (L:Nat) (p0:List V) (p1:Int) (k_fin:List V→List (List V)→Option β):Option β:=zyM xf zg L p0 p1 k_fin
def zyA (zy:y6) (L:Nat) (β:Type) (args:List V) (bor:Bor) (k:KK β):Option β:=match args,bor with
 | [a0,a1],[]=>aG a0 fun p0=>aI .u32 a1 fun p1=>zy β L p0 p1 (fun zE0 zE1=>k (V.tup [(V.agg zE0),(V.gs 32 zE1)]) [])
 | _,_=>none
def ziz:CC:=(.seq (.reg [oo 50 (.bin .lss (tq 49) (tq 48))])
 (.seq (.cond (tq 50)
 .skip
 (.seq (.mask (bl 481036345428 108) (bl 324518553656032757336433918768127 108))
 (.exit 2)))
 (.seq (.block 3 (.seq (.reg [oo 51 (.indexAddrS 32 (tq 47) (tq 49)),
   oo 52 (.load true 32 (tq 51) false),
   oo 15 (.alloc true (rp 32 (.sc (.int .u8 0)) [])),
   oz (.store 32 (tq 15) (tq 52))])
 (.seq (.reg [oo 54 (.load true 5 (tq 13) false),
   oo 55 (.load true 32 (tq 15) false),
   oo 56 (.call 348 [((tq 54),1),((tq 55),0)] []),
   oo 53 (.move (tq 56) true),
   oo 57 (.pull (tq 53) 0),
   oo 58 (.pull (tq 53) 1),
   oo 16 (.alloc true [(.sc (.int .u32 0)),(.sc (.bool false)),(.gs 1 []),(.gs 35 []),(.gs 32 [])]),
   oz (.store 5 (tq 16) (tq 57)),
   oo 17 (.move (tq 58) false)])
 (.seq (.reg [oo 60 (.load true 5 (tq 13) false),
   oo 61 (.load true 32 (tq 15) false),
   oo 62 (.call 349 [((tq 60),1),((tq 61),0)] []),
   oo 59 (.move (tq 62) true),
   oo 63 (.pull (tq 59) 0),
   oo 64 (.pull (tq 59) 1),
   oo 18 (.alloc true [(.sc (.int .u32 0)),(.sc (.bool false)),(.gs 1 []),(.gs 35 []),(.gs 32 [])]),
   oz (.store 5 (tq 18) (tq 63)),
   oo 19 (.move (tq 64) false)])
 (.seq (.reg [oo 65 (.move (tq 17) false),
   oo 66 (.move (tq 19) false),
   oo 67 (.bin .neq (tq 65) (tq 66)),
   oo 68 (.move (tq 67) false),
   ⟨(some 69),false,(some (68,false)),.load true 5 (tq 16) false⟩,
   ⟨(some 70),false,(some (68,false)),.load true 5 (tq 18) false⟩,
   ⟨(some 71),false,(some (68,false)),.call 343 [((tq 69),1),((tq 70),1)] []⟩,
   ⟨(some 72),false,(some (68,false)),.un .not (tq 71)⟩,
   oo 73 (.pick (tq 68) (.const (.sc (.bool true))) (tq 72))])
 (.cond (tq 73)
 (.seq (.reg [oo 10 (.move (.const (.sc (.bool false))) false)])
 (.seq (.mask (bl 1024 108) (bl 313990027457721143620174653446079 108))
 .ret))
 .skip))))))
 (.reg [oo 74 (.bin .add (tq 49) (.const (.sc (.int .i64 1)))),
   oo 49 (.move (tq 74) false)]))))
def zix:CC:=(.seq (.reg [oo 81 (.bin .lss (tq 80) (tq 79))])
 (.seq (.cond (tq 81)
 .skip
 (.seq (.mask (bl 481036337236 108) (bl 313990028366809478217673266058239 108))
 (.exit 4)))
 (.seq (.block 5 (.seq (.reg [oo 82 (.indexAddrS 1 (tq 78) (tq 80)),
   oo 83 (.load false 1 (tq 82) false),
   oo 21 (.move (tq 83) false)])
 (.seq (.reg [oo 85 (.load true 5 (tq 13) false),
   oo 86 (.move (tq 21) false),
   oo 87 (.call 350 [((tq 85),1),((tq 86),0)] []),
   oo 84 (.move (tq 87) true),
   oo 88 (.pull (tq 84) 0),
   oo 89 (.extract (tq 84) 1),
   oo 22 (.alloc true [(.sc (.int .u32 0)),(.sc (.bool false)),(.gs 1 []),(.gs 35 []),(.gs 32 [])]),
   oz (.store 5 (tq 22) (tq 88)),
   oo 23 (.move (tq 89) false)])
 (.seq (.reg [oo 91 (.load true 5 (tq 13) false),
   oo 92 (.move (tq 21) false),
   oo 93 (.call 351 [((tq 91),1),((tq 92),0)] []),
   oo 90 (.move (tq 93) true),
   oo 94 (.pull (tq 90) 0),
   oo 95 (.extract (tq 90) 1),
   oo 24 (.alloc true [(.sc (.int .u32 0)),(.sc (.bool false)),(.gs 1 []),(.gs 35 []),(.gs 32 [])]),
   oz (.store 5 (tq 24) (tq 94)),
   oo 25 (.move (tq 95) false)])
 (.seq (.reg [oo 96 (.load true 5 (tq 22) false),
   oo 97 (.load true 5 (tq 24) false),
   oo 98 (.call 343 [((tq 96),1),((tq 97),1)] []),
   oo 99 (.un .not (tq 98)),
   oo 100 (.move (tq 99) false),
   ⟨(some 101),false,(some (100,false)),.move (tq 23) false⟩,
   ⟨(some 102),false,(some (100,false)),.move (tq 25) false⟩,
   ⟨(some 103),false,(some (100,false)),.call 352 [((tq 101),0),((tq 102),0)] []⟩,
   ⟨(some 104),false,(some (100,false)),.un .not (tq 103)⟩,
   oo 105 (.pick (tq 100) (.const (.sc (.bool true))) (tq 104))])
 (.cond (tq 105)
 (.seq (.reg [oo 10 (.move (.const (.sc (.bool false))) false)])
 (.seq (.mask (bl 1024 108) (bl 313990027457721143620174653446079 108))
 .ret))
 .skip))))))
 (.reg [oo 106 (.bin .add (tq 80) (.const (.sc (.int .i64 1)))),
   oo 80 (.move (tq 106) false)]))))
def zj8:CC:=(.seq (.reg [oo 75 (.move (tq 2) false),
   oo 76 (.move (tq 2) false),
   oo 77 (.bin .rem (tq 76) (.const (.sc (.int .u32 60)))),
   oo 78 (.buildSlice 1 2 [(.sc (.int .u32 0))] [(0,1,(tq 75)),(1,1,(tq 77))]),
   oo 79 (.lenS (tq 78)),
   oo 80 (.move (.const (.sc (.int .i64 0))) false)])
 (.block 4 (.loop (bl 2115620184326082092081236 108) (bl 313990028366809478217673266066431 108)
 zix)))
def zlp:CC:=(.reg [oo 107 (.bin .add (tq 38) (.const (.sc (.int .i64 1)))),
   oo 38 (.move (tq 107) false)])
def znb:CC:=(.seq (.reg [oo 39 (.bin .lss (tq 38) (tq 37))])
 (.seq (.cond (tq 39)
 .skip
 (.seq (.mask (bl 0 108) (bl 313990027457721143620174653445055 108))
 (.exit 0)))
 (.seq (.block 1 (.seq (.reg [oo 40 (.indexAddrS 5 (tq 36) (tq 38)),
   oo 41 (.load true 5 (tq 40) false),
   oo 13 (.alloc true [(.sc (.int .u32 0)),(.sc (.bool false)),(.gs 1 []),(.gs 35 []),(.gs 32 [])]),
   oz (.store 5 (tq 13) (tq 41))])
 (.seq (.seq (.dreg [] [(oo 42 (.load true 32 (tq 6) false),ql 6 [] []),
   (oo 43 (.move (tq 4) false),q0),
   (oo 44 (.call 217 [((tq 43),0),((.const (.sc (.int .i64 10))),0)] []),qc [6] []),
   (oo 45 (.conv .u8 (tq 44)),q0),
   (oo 46 (.build (rp 32 (.sc (.int .u8 0)) []) [(0,1,(tq 45))]),q0),
   (oo 47 (.buildSlice 32 2 (rp 32 (.sc (.int .u8 0)) []) [(0,32,(tq 42)),(32,32,(tq 46))]),q0),
   (oo 48 (.lenS (tq 47)),q0),
   (oo 49 (.move (.const (.sc (.int .i64 0))) false),q0)])
 (.block 2 (.loop (bl 985643454832724 108) (bl 324518553656032757336433918768127 108)
 ziz)))
 zj8)))
 zlp)))
def zoH:CC:=(.seq (.reg [oo 10 (.move (.const (.sc (.bool true))) false)])
 .ret)
def zk5:CF:=⟨108,[.tmp 10],
 (.seq (.reg [oo 6 (.box true (tq 1)),
   oo 10 (.move (.const (.sc (.bool false))) false)])
 (.seq (.seq (.reg [oo 26 (.call 332 [] []),
   oo 27 (.un .not (tq 26))])
 (.cond (tq 27)
 (.seq (.reg [oo 10 (.move (.const (.sc (.bool false))) false)])
 .ret)
 .skip))
 (.seq (.reg [oo 28 (.move (tq 0) false),
   oo 29 (.call 225 [((tq 28),0)] []),
   oo 30 (.call 339 [((tq 29),0)] []),
   oo 11 (.alloc true [(.sc (.int .u32 0)),(.sc (.bool false)),(.gs 1 []),(.gs 35 []),(.gs 32 [])]),
   oz (.store 5 (tq 11) (tq 30))])
 (.seq (.seq (.dreg [] [(oo 31 (.load true 5 (tq 11) false),ql 11 [] []),
   (oo 32 (.load true 5 (tq 11) false),ql 11 [] []),
   (oo 33 (.move (tq 3) false),q0),
   (oo 34 (.move (tq 4) false),q0),
   (oo 35 (.call 340 [((tq 32),1),((tq 33),0),((tq 34),0)] []),qc [11] []),
   (oo 36 (.buildSlice 5 2 [(.sc (.int .u32 0)),(.sc (.bool false)),(.sl 1 []),(.sl 35 []),(.sl 32 [])] [(0,5,(tq 31)),(5,5,(tq 35))]),q0),
   (oo 37 (.lenS (tq 36)),q0),
   (oo 38 (.move (.const (.sc (.int .i64 0))) false),q0)])
 (.block 0 (.loop (bl 481036337236 108) (bl 313990027457721143620174653445119 108)
 znb)))
 zoH))))⟩
def zjw:Hint:=⟨[(3,3),(6,2),(10,3),(10,6),(11,3),(11,6),(18,3),(18,5),(18,6),(19,3),(19,5),(19,6)],[],[none,none,none,some ((bl 481036337236 108),(bl 313990027457721143620174653445119 108)),none,some ((bl 0 108),(bl 313990027457721143620174653445055 108)),none,none,some ((bl 985643454832724 108),(bl 324518553656032757336433918768127 108)),none,some ((bl 481036345428 108),(bl 324518553656032757336433918768127 108)),none,none,some ((bl 1024 108),(bl 313990027457721143620174653446079 108)),none,some ((bl 2115620184326082092081236 108),(bl 313990028366809478217673266066431 108)),none,some ((bl 481036337236 108),(bl 313990028366809478217673266058239 108)),none,none,some ((bl 1024 108),(bl 313990027457721143620174653446079 108)),none],[],[],false,false⟩
def zz9:Nat→Sh:=xZ [(83,(.int .u32))]
def zz7 (ya:yh) (xb:xj) (yb:yk) (xa:xi) (yc:zm) (zi:xx) (xu:yS) (zb:xk) (xl:yC) (zy:y6) (yf:yr) (L:Nat):CBC:=(xB 352 (zdK yf L) (xB 351 (zyA zy L) (xB 350 (ztq xl L) (xB 343 (zgg zb L) (xB 349 (zxm xu L) (xB 348 (zre zi L) (xB 217 (zfx yc L) (xB 340 (zfp xa L) (xB 339 (zgs yb L) (xB 225 (zg7 xb L) (xB 332 (zeO ya L) noC)))))))))))
def zxs:St→St:=yT 0 (bl 481036337236 108) (bl 313990027457721143620174653445119 108)
def ztg:St→St:=yT 0 (bl 985643454832724 108) (bl 324518553656032757336433918768127 108)
def ztb:St→St:=yT 0 (bl 2115620184326082092081236 108) (bl 313990028366809478217673266066431 108)
def zwh (p2 p4:Int) (p36:List (List V)) (p37 p38:Int) (b6:List V) (zEN:List (List V)) (zEO:Int):St:=⟨(jn 2 ((V.sc (.int .u32 p2))::(jn 1 ((V.sc (.int .i64 p4))::(jn 1 ((V.ptr 6 0)::(jn 29 ((V.gs 5 p36)::((V.sc (.int .i64 p37))::((V.sc (.int .i64 p38))::(jn 69 []))))))))))),(gn 6 ((.live true b6)::(gn 22 ((.live false [(V.sl 1 zEN),(V.sc (.int .i64 zEO))])::(gn 78 [])))))⟩
def zrH (p2 p4:Int) (p36:List (List V)) (p37 p38:Int) (p47:List (List V)) (p48 p49:Int) (b6 b13:List V) (zEN:List (List V)) (zEO:Int):St:=⟨(jn 2 ((V.sc (.int .u32 p2))::(jn 1 ((V.sc (.int .i64 p4))::(jn 1 ((V.ptr 6 0)::(jn 6 ((V.ptr 13 0)::(jn 22 ((V.gs 5 p36)::((V.sc (.int .i64 p37))::((V.sc (.int .i64 p38))::(jn 8 ((V.gs 32 p47)::((V.sc (.int .i64 p48))::((V.sc (.int .i64 p49))::(jn 58 []))))))))))))))))),(gn 6 ((.live true b6)::(gn 6 ((.live true b13)::(gn 15 ((.live false [(V.sl 1 zEN),(V.sc (.int .i64 zEO))])::(gn 78 [])))))))⟩
def zyw (zEN:List (List V)) (zEO:Int):St:=⟨(jn 108 []),(gn 29 ((.live false [(V.sl 1 zEN),(V.sc (.int .i64 zEO))])::(gn 78 [])))⟩
def zx5 (p10:Bool) (zEN:List (List V)) (zEO:Int):St:=⟨(jn 10 ((V.sc (.bool p10))::(jn 97 []))),(gn 29 ((.live false [(V.sl 1 zEN),(V.sc (.int .i64 zEO))])::(gn 78 [])))⟩
def zyx (p2 p4:Int) (p36:List (List V)) (p37 p38:Int) (b6 b13:List V) (zEN:List (List V)) (zEO:Int):St:=⟨(jn 2 ((V.sc (.int .u32 p2))::(jn 1 ((V.sc (.int .i64 p4))::(jn 1 ((V.ptr 6 0)::(jn 6 ((V.ptr 13 0)::(jn 22 ((V.gs 5 p36)::((V.sc (.int .i64 p37))::((V.sc (.int .i64 p38))::(jn 69 []))))))))))))),(gn 6 ((.live true b6)::(gn 6 ((.live true b13)::(gn 15 ((.live false [(V.sl 1 zEN),(V.sc (.int .i64 zEO))])::(gn 78 [])))))))⟩
def zrJ (p2 p4:Int) (p36:List (List V)) (p37 p38:Int) (p78:List (List V)) (p79 p80:Int) (b6 b13:List V) (zEN:List (List V)) (zEO:Int):St:=⟨(jn 2 ((V.sc (.int .u32 p2))::(jn 1 ((V.sc (.int .i64 p4))::(jn 1 ((V.ptr 6 0)::(jn 6 ((V.ptr 13 0)::(jn 22 ((V.gs 5 p36)::((V.sc (.int .i64 p37))::((V.sc (.int .i64 p38))::(jn 39 ((V.gs 1 p78)::((V.sc (.int .i64 p79))::((V.sc (.int .i64 p80))::(jn 27 []))))))))))))))))),(gn 6 ((.live true b6)::(gn 6 ((.live true b13)::(gn 15 ((.live false [(V.sl 1 zEN),(V.sc (.int .i64 zEO))])::(gn 78 [])))))))⟩
def zyv (p2 p4:Int) (p36:List (List V)) (p37 p38:Int) (b6:List V) (zEN:List (List V)) (zEO:Int):St:=⟨(jn 2 ((V.sc (.int .u32 p2))::(jn 1 ((V.sc (.int .i64 p4))::(jn 1 ((V.ptr 6 0)::(jn 29 ((V.gs 5 p36)::((V.sc (.int .i64 p37))::((V.sc (.int .i64 p38))::(jn 69 []))))))))))),(gn 6 ((.live true b6)::(gn 22 ((.live false [(V.sl 1 zEN),(V.sc (.int .i64 zEO))])::(gn 78 [])))))⟩
abbrev zcl (β:Type):Type:=Int→Int→List (List V)→Int→Int→List V→List (List V)→Int→Option β
abbrev zdU (β:Type):Type:=Int→Int→List (List V)→Int→Int→List (List V)→Int→Int→List V→List V→List (List V)→Int→Option β
abbrev zkp (β:Type):Type:=Int→Int→List (List V)→Int→Int→List V→List V→List (List V)→Int→Option β
abbrev zdY (β:Type):Type:=Int→Int→List (List V)→Int→Int→List (List V)→Int→Int→List V→List V→List (List V)→Int→Option β
abbrev zkg (β:Type):Type:=Int→Int→List (List V)→Int→Int→List V→List (List V)→Int→Option β
def zry {β:Type} (ya:yh) (xb:xj) (yb:yk) (xa:xi) (yc:zm) (zi:xx) (xu:yS) (zb:xk) (xl:yC) (zy:y6) (yf:yr) (L:Nat) (p0:List (List V)) (p1:List V) (p2 p3 p4:Int) (k_fin:Bool→Option β) (k_hbbbaba:zcl β):Option β :=
 ya β L  (fun v0 =>
 ifb (!v0) (
 k_fin false) (
 xb β L p0 (fun v1 v2 =>
 yb β L v1 v2 (fun v3 v4 v5 =>
 chk ((List.length v3)=5∧0+5≤5) (
 lt (zc [(V.sc (.int .u32 (0:Int))),(V.sc (.bool false)),(V.gs 1 ([]:List (List V))),(V.gs 35 ([]:List (List V))),(V.gs 32 ([]:List (List V)))] 0 v3) fun r6 =>
 chk (0+5≤(List.length r6)) (
 chk (0+5≤(List.length r6)) (
 xa β L (List.map V.dem (List.take 5 r6)) p3 p4 (fun v7 =>
 chk ((List.length (List.take 5 r6))=5∧0+5≤10) (
 chk ((List.length v7)=5∧5+5≤(List.length (zc [(V.sc (.int .u32 (0:Int))),(V.sc (.bool false)),(V.sl 1 ([]:List (List V))),(V.sl 35 ([]:List (List V))),(V.sl 32 ([]:List (List V))),(V.sc (.int .u32 (0:Int))),(V.sc (.bool false)),(V.sl 1 ([]:List (List V))),(V.sl 35 ([]:List (List V))),(V.sl 32 ([]:List (List V)))] 0 (List.take 5 r6)))) (
 k_hbbbaba p2 p4 (xc 5 2 (zc (zc [(V.sc (.int .u32 (0:Int))),(V.sc (.bool false)),(V.sl 1 ([]:List (List V))),(V.sl 35 ([]:List (List V))),(V.sl 32 ([]:List (List V))),(V.sc (.int .u32 (0:Int))),(V.sc (.bool false)),(V.sl 1 ([]:List (List V))),(V.sl 35 ([]:List (List V))),(V.sl 32 ([]:List (List V)))] 0 (List.take 5 r6)) 5 v7)) ((List.length (xc 5 2 (zc (zc [(V.sc (.int .u32 (0:Int))),(V.sc (.bool false)),(V.sl 1 ([]:List (List V))),(V.sl 35 ([]:List (List V))),(V.sl 32 ([]:List (List V))),(V.sc (.int .u32 (0:Int))),(V.sc (.bool false)),(V.sl 1 ([]:List (List V))),(V.sl 35 ([]:List (List V))),(V.sl 32 ([]:List (List V)))] 0 (List.take 5 r6)) 5 v7)):Nat):Int) (0:Int) p1 v4 v5))))))))))
def znz {β:Type} (ya:yh) (xb:xj) (yb:yk) (xa:xi) (yc:zm) (zi:xx) (xu:yS) (zb:xk) (xl:yC) (zy:y6) (yf:yr) (L:Nat) (p2 p4:Int) (p36:List (List V)) (p37 p38:Int) (b6:List V) (zEN:List (List V)) (zEO:Int) (k_hbbbabaabbaababa:zdU β) (k_x0:List (List V)→Int→Option β):Option β :=
 ifb (decide (p38 < p37)) (
 idx p36 p38 fun c8 =>
 chk ((List.length (List.take 5 c8))=5∧0+5≤5) (
 lt (zc [(V.sc (.int .u32 (0:Int))),(V.sc (.bool false)),(V.gs 1 ([]:List (List V))),(V.gs 35 ([]:List (List V))),(V.gs 32 ([]:List (List V)))] 0 (List.take 5 c8)) fun r9 =>
 chk (0+32≤(List.length b6)) (
 yc β L p4 (10:Int) (fun v10 =>
 lt (IntKind.wrap .u8 v10) fun x11 =>
 chk ((List.length (List.take 32 b6))=32∧0+32≤64) (
 chk (32=32∧32+32≤(List.length (zc (List.replicate 64 (V.sc (.int .u8 (0:Int)))) 0 (List.take 32 b6)))) (
 k_hbbbabaabbaababa p2 p4 p36 p37 p38 (xc 32 2 (zc (zc (List.replicate 64 (V.sc (.int .u8 (0:Int)))) 0 (List.take 32 b6)) 32 ([(V.sc (.int .u8 x11))]++List.replicate 31 (V.sc (.int .u8 (0:Int)))))) ((List.length (xc 32 2 (zc (zc (List.replicate 64 (V.sc (.int .u8 (0:Int)))) 0 (List.take 32 b6)) 32 ([(V.sc (.int .u8 x11))]++List.replicate 31 (V.sc (.int .u8 (0:Int)))))):Nat):Int) (0:Int) b6 r9 zEN zEO)))))) (
 k_x0 zEN zEO)
def zmH {β:Type} (ya:yh) (xb:xj) (yb:yk) (xa:xi) (yc:zm) (zi:xx) (xu:yS) (zb:xk) (xl:yC) (zy:y6) (yf:yr) (L:Nat) (zEN:List (List V)) (zEO:Int) (k_fin:Bool→Option β):Option β :=
 k_fin true
def zjd {β:Type} (ya:yh) (xb:xj) (yb:yk) (xa:xi) (yc:zm) (zi:xx) (xu:yS) (zb:xk) (xl:yC) (zy:y6) (yf:yr) (L:Nat) (p2 p4:Int) (p36:List (List V)) (p37 p38:Int) (p47:List (List V)) (p48 p49:Int) (b6 b13:List V) (zEN:List (List V)) (zEO:Int) (k_ret:Bool→List (List V)→Int→Option β) (k_hbbbabaabbaababa:zdU β) (k_x2:zkp β):Option β :=
 ifb (decide (p49 < p48)) (
 idx p47 p49 fun c12 =>
 chk ((List.length (List.take 32 c12))=32∧0+32≤32) (
 lt (zc (List.replicate 32 (V.sc (.int .u8 (0:Int)))) 0 (List.take 32 c12)) fun r13 =>
 chk (0+5≤(List.length b13)) (
 chk (0+32≤(List.length r13)) (
 zi β L (List.map V.dem (List.take 5 b13)) (List.take 32 r13) (fun v14 v15 =>
 chk ((List.length v14)=5∧0+5≤5) (
 lt (zc [(V.sc (.int .u32 (0:Int))),(V.sc (.bool false)),(V.gs 1 ([]:List (List V))),(V.gs 35 ([]:List (List V))),(V.gs 32 ([]:List (List V)))] 0 v14) fun r16 =>
 chk (0+5≤(List.length b13)) (
 chk (0+32≤(List.length r13)) (
 xu β L (List.map V.dem (List.take 5 b13)) (List.take 32 r13) (fun v17 v18 =>
 chk ((List.length v17)=5∧0+5≤5) (
 lt (zc [(V.sc (.int .u32 (0:Int))),(V.sc (.bool false)),(V.gs 1 ([]:List (List V))),(V.gs 35 ([]:List (List V))),(V.gs 32 ([]:List (List V)))] 0 v17) fun r19 =>
 ifb ((v15:Int) != v18) (
 k_ret false zEN zEO) (
 chk (0+5≤(List.length r16)) (
 chk (0+5≤(List.length r19)) (
 zb β L (List.map V.dem (List.take 5 r16)) (List.map V.dem (List.take 5 r19)) (fun v20 =>
 ifb (!v20) (
 k_ret false zEN zEO) (
 lt (IntKind.wrap .i64 ((p49:Int)+(1:Int))) fun x21 =>
 k_hbbbabaabbaababa p2 p4 p36 p37 p38 p47 p48 x21 b6 b13 zEN zEO))))))))))))))) (
 k_x2 p2 p4 p36 p37 p38 b6 b13 zEN zEO)
def zh1 {β:Type} (ya:yh) (xb:xj) (yb:yk) (xa:xi) (yc:zm) (zi:xx) (xu:yS) (zb:xk) (xl:yC) (zy:y6) (yf:yr) (L:Nat) (p10:Bool) (zEN:List (List V)) (zEO:Int) (k_ret:Bool→List (List V)→Int→Option β):Option β :=
 k_ret p10 zEN zEO
def zip {β:Type} (ya:yh) (xb:xj) (yb:yk) (xa:xi) (yc:zm) (zi:xx) (xu:yS) (zb:xk) (xl:yC) (zy:y6) (yf:yr) (L:Nat) (p2 p4:Int) (p36:List (List V)) (p37 p38:Int) (b6 b13:List V) (zEN:List (List V)) (zEO:Int) (k_hbbbabaabbaabbba:zdY β):Option β :=
 lt (Int.tmod p2 (60:Int)) fun x22 =>
 k_hbbbabaabbaabbba p2 p4 p36 p37 p38 (xc 1 2 [(V.sc (.int .u32 p2)),(V.sc (.int .u32 x22))]) ((List.length (xc 1 2 [(V.sc (.int .u32 p2)),(V.sc (.int .u32 x22))]):Nat):Int) (0:Int) b6 b13 zEN zEO
def zi4 {β:Type} (ya:yh) (xb:xj) (yb:yk) (xa:xi) (yc:zm) (zi:xx) (xu:yS) (zb:xk) (xl:yC) (zy:y6) (yf:yr) (L:Nat) (p2 p4:Int) (p36:List (List V)) (p37 p38:Int) (p78:List (List V)) (p79 p80:Int) (b6 b13:List V) (zEN:List (List V)) (zEO:Int) (k_ret:Bool→List (List V)→Int→Option β) (k_hbbbabaabbaabbba:zdY β) (k_x4:zkg β):Option β :=
 ifb (decide (p80 < p79)) (
 idx p78 p80 fun c23 =>
 cI .u32 c23 0 fun v24 =>
 chk (0+5≤(List.length b13)) (
 xl β L (List.map V.dem (List.take 5 b13)) v24 (fun v25 v26 =>
 chk ((List.length v25)=5∧0+5≤5) (
 lt (zc [(V.sc (.int .u32 (0:Int))),(V.sc (.bool false)),(V.gs 1 ([]:List (List V))),(V.gs 35 ([]:List (List V))),(V.gs 32 ([]:List (List V)))] 0 v25) fun r27 =>
 chk (0+5≤(List.length b13)) (
 zy β L (List.map V.dem (List.take 5 b13)) v24 (fun v28 v29 =>
 chk ((List.length v28)=5∧0+5≤5) (
 lt (zc [(V.sc (.int .u32 (0:Int))),(V.sc (.bool false)),(V.gs 1 ([]:List (List V))),(V.gs 35 ([]:List (List V))),(V.gs 32 ([]:List (List V)))] 0 v28) fun r30 =>
 chk (0+5≤(List.length r27)) (
 chk (0+5≤(List.length r30)) (
 zb β L (List.map V.dem (List.take 5 r27)) (List.map V.dem (List.take 5 r30)) (fun v31 =>
 ifb (!v31) (
 k_ret false zEN zEO) (
 yf β L v26 v29 (fun v32 =>
 ifb (!v32) (
 k_ret false zEN zEO) (
 lt (IntKind.wrap .i64 ((p80:Int)+(1:Int))) fun x33 =>
 k_hbbbabaabbaabbba p2 p4 p36 p37 p38 p78 p79 x33 b6 b13 zEN zEO))))))))))) (fun v34 v35 =>
 chk ((List.length v34)=5∧0+5≤5) (
 lt (zc [(V.sc (.int .u32 (0:Int))),(V.sc (.bool false)),(V.gs 1 ([]:List (List V))),(V.gs 35 ([]:List (List V))),(V.gs 32 ([]:List (List V)))] 0 v34) fun r36 =>
 chk (0+5≤(List.length b13)) (
 zy β L (List.map V.dem (List.take 5 b13)) v24 (fun v37 v38 =>
 chk ((List.length v37)=5∧0+5≤5) (
 lt (zc [(V.sc (.int .u32 (0:Int))),(V.sc (.bool false)),(V.gs 1 ([]:List (List V))),(V.gs 35 ([]:List (List V))),(V.gs 32 ([]:List (List V)))] 0 v37) fun r39 =>
 chk (0+5≤(List.length r36)) (
 chk (0+5≤(List.length r39)) (
 zb β L (List.map V.dem (List.take 5 r36)) (List.map V.dem (List.take 5 r39)) (fun v40 =>
 ifb (!v40) (
 k_ret false zEN zEO) (
 yf β L v35 v38 (fun v41 =>
 ifb (!v41) (
 k_ret false zEN zEO) (
 lt (IntKind.wrap .i64 ((p80:Int)+(1:Int))) fun x42 =>
 k_hbbbabaabbaabbba p2 p4 p36 p37 p38 p78 p79 x42 b6 b13 zEN zEO))))))))))))) (
 k_x4 p2 p4 p36 p37 p38 b6 zEN zEO)
def zl9 {β:Type} (ya:yh) (xb:xj) (yb:yk) (xa:xi) (yc:zm) (zi:xx) (xu:yS) (zb:xk) (xl:yC) (zy:y6) (yf:yr) (L:Nat) (p10:Bool) (zEN:List (List V)) (zEO:Int) (k_fin:Bool→Option β):Option β :=
 k_fin p10
def zh2 {β:Type} (ya:yh) (xb:xj) (yb:yk) (xa:xi) (yc:zm) (zi:xx) (xu:yS) (zb:xk) (xl:yC) (zy:y6) (yf:yr) (L:Nat) (p10:Bool) (zEN:List (List V)) (zEO:Int) (k_ret:Bool→List (List V)→Int→Option β):Option β :=
 k_ret p10 zEN zEO
def zid {β:Type} (ya:yh) (xb:xj) (yb:yk) (xa:xi) (yc:zm) (zi:xx) (xu:yS) (zb:xk) (xl:yC) (zy:y6) (yf:yr) (L:Nat) (p2 p4:Int) (p36:List (List V)) (p37 p38:Int) (b6:List V) (zEN:List (List V)) (zEO:Int) (k_hbbbaba:zcl β):Option β :=
 lt (IntKind.wrap .i64 ((p38:Int)+(1:Int))) fun x43 =>
 k_hbbbaba p2 p4 p36 p37 x43 b6 zEN zEO
def zef {β:Type} (ya:yh) (xb:xj) (yb:yk) (xa:xi) (yc:zm) (zi:xx) (xu:yS) (zb:xk) (xl:yC) (zy:y6) (yf:yr) (L:Nat) (k_ret:Bool→List (List V)→Int→Option β) (k_x2:zkp β):Nat→Int→Int→List (List V)→Int→Int→List (List V)→Int→Int→List V→List V→List (List V)→Int→Option β
 | 0,_,_,_,_,_,_,_,_,_,_,_,_=>none
 | n+1,p2,p4,p36,p37,p38,p47,p48,p49,b6,b13,zEN,zEO=>zjd ya xb yb xa yc zi xu zb xl zy yf L p2 p4 p36 p37 p38 p47 p48 p49 b6 b13 zEN zEO k_ret (fun p2 p4 p36 p37 p38 p47 p48 p49 b6 b13 zEN zEO=>zef ya xb yb xa yc zi xu zb xl zy yf L k_ret k_x2 n p2 p4 p36 p37 p38 p47 p48 p49 b6 b13 zEN zEO) k_x2
def zem {β:Type} (ya:yh) (xb:xj) (yb:yk) (xa:xi) (yc:zm) (zi:xx) (xu:yS) (zb:xk) (xl:yC) (zy:y6) (yf:yr) (L:Nat) (k_ret:Bool→List (List V)→Int→Option β) (k_x4:zkg β):Nat→Int→Int→List (List V)→Int→Int→List (List V)→Int→Int→List V→List V→List (List V)→Int→Option β
 | 0,_,_,_,_,_,_,_,_,_,_,_,_=>none
 | n+1,p2,p4,p36,p37,p38,p78,p79,p80,b6,b13,zEN,zEO=>zi4 ya xb yb xa yc zi xu zb xl zy yf L p2 p4 p36 p37 p38 p78 p79 p80 b6 b13 zEN zEO k_ret (fun p2 p4 p36 p37 p38 p78 p79 p80 b6 b13 zEN zEO=>zem ya xb yb xa yc zi xu zb xl zy yf L k_ret k_x4 n p2 p4 p36 p37 p38 p78 p79 p80 b6 b13 zEN zEO) k_x4
def zh0 {β:Type} (ya:yh) (xb:xj) (yb:yk) (xa:xi) (yc:zm) (zi:xx) (xu:yS) (zb:xk) (xl:yC) (zy:y6) (yf:yr) (L:Nat) (p2 p4:Int) (p36:List (List V)) (p37 p38:Int) (b6 b13:List V) (zEN:List (List V)) (zEO:Int) (k_ret:Bool→List (List V)→Int→Option β) (k_hbbbaba:zcl β):Option β :=
 zip ya xb yb xa yc zi xu zb xl zy yf L p2 p4 p36 p37 p38 b6 b13 zEN zEO (fun p2 p4 p36 p37 p38 p78 p79 p80 b6 b13 zEN zEO=>zem ya xb yb xa yc zi xu zb xl zy yf L (fun p10 zEN zEO=>zh2 ya xb yb xa yc zi xu zb xl zy yf L p10 zEN zEO k_ret) (fun p2 p4 p36 p37 p38 b6 zEN zEO=>zid ya xb yb xa yc zi xu zb xl zy yf L p2 p4 p36 p37 p38 b6 zEN zEO k_hbbbaba) L p2 p4 p36 p37 p38 p78 p79 p80 b6 b13 zEN zEO)
def znj {β:Type} (ya:yh) (xb:xj) (yb:yk) (xa:xi) (yc:zm) (zi:xx) (xu:yS) (zb:xk) (xl:yC) (zy:y6) (yf:yr) (L:Nat) (p2 p4:Int) (p36:List (List V)) (p37 p38:Int) (b6:List V) (zEN:List (List V)) (zEO:Int) (k_x0:List (List V)→Int→Option β) (k_ret:Bool→List (List V)→Int→Option β) (k_hbbbaba:zcl β):Option β :=
 znz ya xb yb xa yc zi xu zb xl zy yf L p2 p4 p36 p37 p38 b6 zEN zEO (fun p2 p4 p36 p37 p38 p47 p48 p49 b6 b13 zEN zEO=>zef ya xb yb xa yc zi xu zb xl zy yf L (fun p10 zEN zEO=>zh1 ya xb yb xa yc zi xu zb xl zy yf L p10 zEN zEO k_ret) (fun p2 p4 p36 p37 p38 b6 b13 zEN zEO=>zh0 ya xb yb xa yc zi xu zb xl zy yf L p2 p4 p36 p37 p38 b6 b13 zEN zEO k_ret k_hbbbaba) L p2 p4 p36 p37 p38 p47 p48 p49 b6 b13 zEN zEO) k_x0
def zhJ {β:Type} (ya:yh) (xb:xj) (yb:yk) (xa:xi) (yc:zm) (zi:xx) (xu:yS) (zb:xk) (xl:yC) (zy:y6) (yf:yr) (L:Nat) (k_x0:List (List V)→Int→Option β) (k_ret:Bool→List (List V)→Int→Option β):Nat→Int→Int→List (List V)→Int→Int→List V→List (List V)→Int→Option β
 | 0,_,_,_,_,_,_,_,_=>none
 | n+1,p2,p4,p36,p37,p38,b6,zEN,zEO=>znj ya xb yb xa yc zi xu zb xl zy yf L p2 p4 p36 p37 p38 b6 zEN zEO k_x0 k_ret (fun p2 p4 p36 p37 p38 b6 zEN zEO=>zhJ ya xb yb xa yc zi xu zb xl zy yf L k_x0 k_ret n p2 p4 p36 p37 p38 b6 zEN zEO)
def zrF {β:Type} (ya:yh) (xb:xj) (yb:yk) (xa:xi) (yc:zm) (zi:xx) (xu:yS) (zb:xk) (xl:yC) (zy:y6) (yf:yr) (L:Nat) (p0:List (List V)) (p1:List V) (p2 p3 p4:Int) (k_fin:Bool→Option β):Option β :=
 zry ya xb yb xa yc zi xu zb xl zy yf L p0 p1 p2 p3 p4 k_fin (fun p2 p4 p36 p37 p38 b6 zEN zEO=>zhJ ya xb yb xa yc zi xu zb xl zy yf L (fun zEN zEO=>zmH ya xb yb xa yc zi xu zb xl zy yf L zEN zEO k_fin) (fun p10 zEN zEO=>zl9 ya xb yb xa yc zi xu zb xl zy yf L p10 zEN zEO k_fin) L p2 p4 p36 p37 p38 b6 zEN zEO)
abbrev zrE:=∀ (β:Type),Nat→List (List V)→List V→Int→Int→Int→(Bool→Option β)→Option β
def zlt (β:Type) (L:Nat) (p0:List (List V)) (p1:List V) (p2 p3 p4:Int) (k_fin:Bool→Option β):Option β:=zrF ya xb yb xa yc zi xu zb xl zy yf L p0 p1 p2 p3 p4 k_fin
def zAl (zlt:zrE) (L:Nat) (β:Type) (args:List V) (bor:Bor) (k:KK β):Option β:=match args,bor with
 | [a0,a1,a2,a3,a4],[]=>aL 1 a0 fun p0=>aG a1 fun p1=>aI .u32 a2 fun p2=>aI .i64 a3 fun p3=>aI .i64 a4 fun p4=>zlt β L p0 p1 p2 p3 p4 (fun p0=>k (V.sc (.bool p0)) [])
 | _,_=>none
def ztn:CF:=⟨6,[.tmp 2],
 (.seq (.reg [oo 2 (.move (.const (.sc (.bool false))) false)])
 (.seq (.reg [oo 3 (.move (tq 0) false),
   oo 4 (.lenS (tq 3)),
   oo 5 (.bin .leq (tq 4) (.const (.sc (.int .i64 200)))),
   oo 2 (.move (tq 5) false)])
 .ret))⟩
def zq4:Hint:=⟨[],[],[none],[],[],false,false⟩
def zDI:Nat→Sh:=xZ []
def zDH (L:Nat):CBC:=noC
def zAc {β:Type} (L:Nat) (p0:List (List V)) (k_fin:Bool→Option β):Option β :=
 k_fin (decide (((List.length p0:Nat):Int)≤(200:Int)))
abbrev zap:=∀ (β:Type),Nat→List (List V)→(Bool→Option β)→Option β
def yB (β:Type) (L:Nat) (p0:List (List V)) (k_fin:Bool→Option β):Option β:=zAc L p0 k_fin
def zzH (yB:zap) (L:Nat) (β:Type) (args:List V) (bor:Bor) (k:KK β):Option β:=match args,bor with
 | [a0],[]=>aL 1 a0 fun p0=>yB β L p0 (fun p0=>k (V.sc (.bool p0)) [])
 | _,_=>none
def ztV:CC:=(.seq (.reg [oo 10 (.bin .lss (tq 9) (tq 8))])
 (.seq (.cond (tq 10)
 .skip
 (.seq (.mask (bl 0 17) (bl 130983 17))
 (.exit 0)))
 (.seq (.block 1 (.seq (.reg [oo 11 (.indexAddrS 32 (tq 7) (tq 9)),
   oo 12 (.load true 32 (tq 11) false),
   oo 6 (.alloc true (rp 32 (.sc (.int .u8 0)) [])),
   oz (.store 32 (tq 6) (tq 12))])
 (.seq (.reg [oo 13 (.load true 32 (tq 6) false),
   oo 14 (.load true 32 (tq 3) false),
   oo 15 (.eqAgg false 32 (tq 13) (tq 14))])
 (.cond (tq 15)
 (.seq (.reg [oo 4 (.move (.const (.sc (.bool true))) false)])
 (.seq (.mask (bl 16 17) (bl 130999 17))
 .ret))
 .skip))))
 (.reg [oo 16 (.bin .add (tq 9) (.const (.sc (.int .i64 1)))),
   oo 9 (.move (tq 16) false)]))))
def zxk:CC:=(.seq (.reg [oo 4 (.move (.const (.sc (.bool false))) false)])
 .ret)
def zr0:CF:=⟨17,[.tmp 4],
 (.seq (.reg [oo 3 (.box true (tq 1)),
   oo 4 (.move (.const (.sc (.bool false))) false)])
 (.seq (.seq (.reg [oo 7 (.move (tq 0) false),
   oo 8 (.lenS (tq 7)),
   oo 9 (.move (.const (.sc (.int .i64 0))) false)])
 (.block 0 (.loop (bl 904 17) (bl 130991 17)
 ztV)))
 zxk))⟩
def zpS:Hint:=⟨[],[],[none,some ((bl 904 17),(bl 130991 17)),none,some ((bl 0 17),(bl 130983 17)),none,none,some ((bl 16 17),(bl 130999 17)),none],[],[],false,false⟩
def zDr:Nat→Sh:=xZ []
def zDA (L:Nat):CBC:=noC
def zCa:St→St:=yT 0 (bl 904 17) (bl 130991 17)
def zAR (p7:List (List V)) (p8 p9:Int) (b3:List V):St:=⟨(jn 3 ((V.ptr 3 0)::(jn 3 ((V.sl 32 p7)::((V.sc (.int .i64 p8))::((V.sc (.int .i64 p9))::(jn 7 []))))))),(gn 3 ((.live true b3)::(gn 13 [])))⟩
def zBz (p4:Bool):St:=⟨(jn 4 ((V.sc (.bool p4))::(jn 12 []))),(gn 17 [])⟩
def zB7:St:=⟨(jn 17 []),(gn 17 [])⟩
def zyI {β:Type} (L:Nat) (p0:List (List V)) (p1:List V) (k_hbaba:List (List V)→Int→Int→List V→Option β):Option β :=
 k_hbaba p0 ((List.length p0:Nat):Int) (0:Int) p1
def zu1 {β:Type} (L:Nat) (p7:List (List V)) (p8 p9:Int) (b3:List V) (k_ret:Bool→Option β) (k_hbaba:List (List V)→Int→Int→List V→Option β) (k_x0:Option β):Option β :=
 ifb (decide (p9 < p8)) (
 idx p7 p9 fun c0 =>
 chk ((List.length (List.take 32 c0))=32∧0+32≤32) (
 lt (zc (List.replicate 32 (V.sc (.int .u8 (0:Int)))) 0 (List.take 32 c0)) fun r1 =>
 chk (0+32≤(List.length r1)) (
 chk (0+32≤(List.length b3)) (
 eqC 32 (List.take 32 r1) (List.take 32 b3) fun v2 =>
 ifb v2 (
 k_ret true) (
 lt (IntKind.wrap .i64 ((p9:Int)+(1:Int))) fun x3 =>
 k_hbaba p7 p8 x3 b3))))) (
 k_x0)
def zrS {β:Type} (L:Nat) (p4:Bool) (k_fin:Bool→Option β):Option β :=
 k_fin p4
def zta {β:Type} (L:Nat) (k_fin:Bool→Option β):Option β :=
 k_fin false
def zo1 {β:Type} (L:Nat) (k_ret:Bool→Option β) (k_x0:Option β):Nat→List (List V)→Int→Int→List V→Option β
 | 0,_,_,_,_=>none
 | n+1,p7,p8,p9,b3=>zu1 L p7 p8 p9 b3 k_ret (fun p7 p8 p9 b3=>zo1 L k_ret k_x0 n p7 p8 p9 b3) k_x0
def zyB {β:Type} (L:Nat) (p0:List (List V)) (p1:List V) (k_fin:Bool→Option β):Option β :=
 zyI L p0 p1 (fun p7 p8 p9 b3=>zo1 L (fun p4=>zrS L p4 k_fin) (zta L k_fin) L p7 p8 p9 b3)
abbrev z7:=∀ (β:Type),Nat→List (List V)→List V→(Bool→Option β)→Option β
def zx (β:Type) (L:Nat) (p0:List (List V)) (p1:List V) (k_fin:Bool→Option β):Option β:=zyB L p0 p1 k_fin
def zyR (zx:z7) (L:Nat) (β:Type) (args:List V) (bor:Bor) (k:KK β):Option β:=match args,bor with
 | [a0,a1],[]=>aL 32 a0 fun p0=>aG a1 fun p1=>zx β L p0 p1 (fun p0=>k (V.sc (.bool p0)) [])
 | _,_=>none
def zga:CC:=(.seq (.reg [oo 97 (.bin .lss (tq 96) (tq 95))])
 (.seq (.cond (tq 97)
 .skip
 (.seq (.mask (bl 992 148) (bl 356811919152373704659264560651937353093403631 148))
 (.exit 3)))
 (.seq (.block 4 (.seq (.reg [oo 98 (.indexAddrS 32 (tq 94) (tq 96)),
   oo 99 (.load true 32 (tq 98) false),
   oo 16 (.alloc true (rp 32 (.sc (.int .u8 0)) [])),
   oz (.store 32 (tq 16) (tq 99))])
 (.seq (.seq (.reg [oo 100 (.move (tq 8) false),
   oo 101 (.load true 32 (tq 16) false),
   oo 102 (.call 354 [((tq 100),0),((tq 101),0)] []),
   oo 103 (.move (tq 102) false),
   ⟨(some 104),false,(some (103,false)),.move (tq 7) false⟩,
   ⟨(some 105),false,(some (103,false)),.load true 32 (tq 16) false⟩,
   ⟨(some 106),false,(some (103,false)),.call 354 [((tq 104),0),((tq 105),0)] []⟩,
   ⟨(some 107),false,(some (103,false)),.un .not (tq 106)⟩,
   oo 108 (.pick (tq 103) (.const (.sc (.bool true))) (tq 107))])
 (.cond (tq 108)
 (.seq (.reg [oo 4 (.move (.const (.sc (.bool false))) false)])
 (.seq (.mask (bl 16 148) (bl 356811919152373656311636663522476535484285023 148))
 .ret))
 .skip))
 (.seq (.reg [oo 110 (.load true 5 (tq 5) false),
   oo 111 (.load true 32 (tq 16) false),
   oo 112 (.call 348 [((tq 110),1),((tq 111),0)] []),
   oo 109 (.move (tq 112) true),
   oo 113 (.pull (tq 109) 0),
   oo 114 (.pull (tq 109) 1),
   oo 17 (.alloc true [(.sc (.int .u32 0)),(.sc (.bool false)),(.gs 1 []),(.gs 35 []),(.gs 32 [])]),
   oz (.store 5 (tq 17) (tq 113)),
   oo 18 (.move (tq 114) false)])
 (.seq (.seq (.reg [oo 115 (.move (tq 18) false),
   oo 116 (.bin .neq (tq 115) (.const (.sc (.int .i64 0))))])
 (.cond (tq 116)
 (.seq (.reg [oo 4 (.move (.const (.sc (.bool false))) false)])
 (.seq (.mask (bl 16 148) (bl 356811919152373656311636663522476535484285023 148))
 .ret))
 .skip))
 (.dreg [] [(oo 117 (.load true 5 (tq 17) false),ql 17 [16] [120,121]),
   (oo 118 (.move (tq 8) true),qc [17,16] [120]),
   (oo 119 (.load true 32 (tq 16) false),ql 16 [17] []),
   (oo 120 (.buildSlice 32 1 (rp 32 (.sc (.int .u8 0)) []) [(0,32,(tq 119))]),qn [17] []),
   (oo 121 (.append 32 32 (tq 118) (tq 120)),qn [17] []),
   (oz (.store 5 (tq 5) (tq 117)),q0),
   (oo 8 (.move (tq 121) true),q0)]))))))
 (.reg [oo 122 (.bin .add (tq 96) (.const (.sc (.int .i64 1)))),
   oo 96 (.move (tq 122) false)]))))
def zkq:CC:=(.seq (.reg [oo 136 (.bin .lss (tq 135) (tq 134))])
 (.seq (.cond (tq 136)
 .skip
 (.seq (.mask (bl 4194304 148) (bl 354024330026673642371879527578292738873152463 148))
 (.exit 5)))
 (.seq (.block 6 (.seq (.reg [oo 137 (.indexAddrS 32 (tq 133) (tq 135)),
   oo 138 (.load true 32 (tq 137) false),
   oo 25 (.alloc true (rp 32 (.sc (.int .u8 0)) [])),
   oz (.store 32 (tq 25) (tq 138))])
 (.seq (.reg [oo 139 (.move (tq 8) false),
   oo 140 (.load true 32 (tq 25) false),
   oo 141 (.call 354 [((tq 139),0),((tq 140),0)] []),
   oo 142 (.un .not (tq 141))])
 (.cond (tq 142)
 (.seq (.reg [oo 4 (.move (.const (.sc (.bool false))) false)])
 (.seq (.mask (bl 16 148) (bl 354024330026673642371879527578292738868958175 148))
 .ret))
 .skip))))
 (.reg [oo 143 (.bin .add (tq 135) (.const (.sc (.int .i64 1)))),
   oo 135 (.move (tq 143) false)]))))
def zlK:CC:=(.seq (.reg [oo 144 (.fieldAddr 3 (tq 22)),
   oo 145 (.load false 1 (tq 144) false),
   oo 146 (.lenS (tq 145)),
   oo 147 (.bin .eql (tq 146) (.const (.sc (.int .i64 0)))),
   oo 4 (.move (tq 147) false)])
 .ret)
def zmD:CC:=(.seq (.seq (.reg [oo 35 (.move (tq 6) false),
   oo 36 (.call 247 [((tq 35),0)] [])])
 (.cond (tq 36)
 .skip
 (.seq (.mask (bl 928 148) (bl 356811919152373656311636663522476535484285935 148))
 (.exit 0))))
 (.block 1 (.seq (.reg [oo 37 (.move (tq 9) false),
   oo 38 (.move (tq 6) false),
   oo 39 (.call 231 [((tq 38),0),((.const (.sc (.int .i64 5))),0)] []),
   oo 40 (.conv .u32 (tq 39)),
   oo 41 (.bin .add (tq 37) (tq 40)),
   oo 9 (.move (tq 41) false)])
 (.seq (.reg [oo 42 (.move (tq 6) false),
   oo 43 (.call 231 [((tq 42),0),((.const (.sc (.int .i64 30))),0)] []),
   oo 44 (.conv .u8 (tq 43)),
   oo 45 (.build (rp 32 (.sc (.int .u8 0)) []) [(0,1,(tq 44))]),
   oo 10 (.alloc true (rp 32 (.sc (.int .u8 0)) [])),
   oz (.store 32 (tq 10) (tq 45))])
 (.seq (.reg [oo 46 (.move (tq 6) false),
   oo 47 (.call 231 [((tq 46),0),((.const (.sc (.int .i64 4))),0)] [])])
 (.block 2 (.seq (.reg [oo 71 (.bin .eql (tq 47) (.const (.sc (.int .i64 0)))),
   oo 70 (.move (tq 71) false)])
 (.cond (tq 70)
 (.seq (.reg [oo 73 (.load true 5 (tq 5) false),
   oo 74 (.load true 32 (tq 10) false),
   oo 75 (.call 348 [((tq 73),1),((tq 74),0)] []),
   oo 72 (.move (tq 75) true),
   oo 76 (.pull (tq 72) 0),
   oo 77 (.pull (tq 72) 1),
   oo 11 (.alloc true [(.sc (.int .u32 0)),(.sc (.bool false)),(.gs 1 []),(.gs 35 []),(.gs 32 [])]),
   oz (.store 5 (tq 11) (tq 76)),
   oo 12 (.move (tq 77) false)])
 (.seq (.reg [oo 78 (.move (tq 12) false),
   oo 79 (.bin .eql (tq 78) (.const (.sc (.int .i64 0))))])
 (.cond (tq 79)
 (.dreg [] [(oo 80 (.load true 5 (tq 11) false),ql 11 [10] [83,84]),
   (oo 81 (.move (tq 8) true),qc [11,10] [83]),
   (oo 82 (.load true 32 (tq 10) false),ql 10 [11] []),
   (oo 83 (.buildSlice 32 1 (rp 32 (.sc (.int .u8 0)) []) [(0,32,(tq 82))]),qn [11] []),
   (oo 84 (.append 32 32 (tq 81) (tq 83)),qn [11] []),
   (oz (.store 5 (tq 5) (tq 80)),q0),
   (oo 8 (.move (tq 84) true),q0)])
 .skip)))
 (.seq (.reg [oo 86 (.bin .eql (tq 47) (.const (.sc (.int .i64 1)))),
   oo 85 (.move (tq 86) false)])
 (.cond (tq 85)
 (.seq (.reg [oo 88 (.load true 5 (tq 5) false),
   oo 89 (.move (tq 9) false),
   oo 90 (.call 350 [((tq 88),1),((tq 89),0)] []),
   oo 87 (.move (tq 90) true),
   oo 91 (.pull (tq 87) 0),
   oo 92 (.extract (tq 87) 1),
   oo 13 (.alloc true [(.sc (.int .u32 0)),(.sc (.bool false)),(.gs 1 []),(.gs 35 []),(.gs 32 [])]),
   oz (.store 5 (tq 13) (tq 91)),
   oo 14 (.move (tq 92) false)])
 (.seq (.reg [oo 93 (.load true 5 (tq 13) false),
   oz (.store 5 (tq 5) (tq 93))])
 (.seq (.reg [oo 94 (.move (tq 14) false),
   oo 95 (.lenS (tq 94)),
   oo 96 (.move (.const (.sc (.int .i64 0))) false)])
 (.block 3 (.loop (bl 138649284399962590788701914080 148) (bl 356811919152373704659264560651937353093403631 148)
 zga)))))
 (.seq (.dreg [] [(oo 49 (.load true 5 (tq 5) false),ql 5 [10] [19]),
   (oo 50 (.move (tq 6) false),q0),
   (oo 51 (.call 231 [((tq 50),0),((.const (.sc (.int .i64 9))),0)] []),qc [5,10] [19]),
   (oo 52 (.bin .sub (tq 51) (.const (.sc (.int .i64 1)))),q0),
   (oo 53 (.load true 32 (tq 10) false),ql 10 [5] [19]),
   (oo 54 (.move (tq 9) false),q0),
   (oo 55 (.call 346 [((tq 49),1),((tq 52),0),((tq 53),0),((tq 54),0),((.const (.sc (.int .u32 10))),0)] []),qc [] [19]),
   (oo 48 (.move (tq 55) true),qc [] [19]),
   (oo 56 (.pull (tq 48) 0),q0),
   (oo 57 (.pull (tq 48) 1),q0),
   (oo 58 (.pull (tq 48) 2),q0),
   (oo 19 (.alloc true [(.sc (.int .u32 0)),(.sc (.bool false)),(.gs 1 []),(.gs 35 []),(.gs 32 [])]),qn [5,10] []),
   (oz (.store 5 (tq 19) (tq 56)),q0),
   (oo 20 (.move (tq 57) false),q0),
   (oo 21 (.move (tq 58) false),q0)])
 (.seq (.reg [oo 59 (.move (tq 21) false),
   oo 60 (.bin .eql (tq 59) (.const (.sc (.int .i64 0)))),
   oo 61 (.move (tq 60) false),
   ⟨(some 62),false,(some (61,true)),.move (tq 20) false⟩,
   ⟨(some 63),false,(some (61,true)),.bin .geq (tq 62) (.const (.sc (.int .i64 0)))⟩,
   oo 64 (.pick (tq 61) (tq 63) (.const (.sc (.bool false))))])
 (.cond (tq 64)
 (.dreg [] [(oo 65 (.load true 5 (tq 19) false),ql 19 [10] [68,69]),
   (oo 66 (.move (tq 7) true),qc [19,10] [68]),
   (oo 67 (.load true 32 (tq 10) false),ql 10 [19] []),
   (oo 68 (.buildSlice 32 1 (rp 32 (.sc (.int .u8 0)) []) [(0,32,(tq 67))]),qn [19] []),
   (oo 69 (.append 32 32 (tq 66) (tq 68)),qn [19] []),
   (oz (.store 5 (tq 5) (tq 65)),q0),
   (oo 7 (.move (tq 69) true),q0)])
 .skip)))))))))))))
def znF:CC:=(.seq (.reg [oo 124 (.load true 5 (tq 5) false),
   oo 125 (.move (tq 9) false),
   oo 126 (.bin .add (tq 125) (.const (.sc (.int .u32 10)))),
   oo 127 (.call 350 [((tq 124),1),((tq 126),0)] []),
   oo 123 (.move (tq 127) true),
   oo 128 (.pull (tq 123) 0),
   oo 129 (.extract (tq 123) 1),
   oo 22 (.alloc true [(.sc (.int .u32 0)),(.sc (.bool false)),(.gs 1 []),(.gs 35 []),(.gs 32 [])]),
   oz (.store 5 (tq 22) (tq 128)),
   oo 23 (.move (tq 129) false)])
 (.seq (.reg [oo 130 (.move (tq 8) true),
   oo 131 (.move (tq 23) false),
   oo 132 (.append 32 32 (tq 130) (tq 131)),
   oo 8 (.move (tq 132) true)])
 (.seq (.seq (.reg [oo 133 (.move (tq 7) false),
   oo 134 (.lenS (tq 133)),
   oo 135 (.move (.const (.sc (.int .i64 0))) false)])
 (.block 5 (.loop (bl 76223250190290215815795912064716083560704 148) (bl 354024330026673642371879527578292738873152463 148)
 zkq)))
 zlK)))
def zmo:CF:=⟨148,[.tmp 4],
 (.seq (.reg [oo 4 (.move (.const (.sc (.bool false))) false)])
 (.seq (.seq (.reg [oo 26 (.call 332 [] []),
   oo 27 (.un .not (tq 26))])
 (.cond (tq 27)
 (.seq (.reg [oo 4 (.move (.const (.sc (.bool false))) false)])
 .ret)
 .skip))
 (.seq (.seq (.reg [oo 28 (.move (tq 1) false),
   oo 29 (.call 353 [((tq 28),0)] []),
   oo 30 (.un .not (tq 29))])
 (.cond (tq 30)
 (.seq (.reg [oo 4 (.move (.const (.sc (.bool true))) false)])
 .ret)
 .skip))
 (.seq (.reg [oo 31 (.buildSlice 1 2 [(.sc (.int .i64 0))] [(0,1,(.const (.sc (.int .i64 4)))),(1,1,(.const (.sc (.int .i64 7))))]),
   oo 32 (.build [(.sc (.int .u32 0)),(.sc (.bool false)),(.sl 1 []),(.sl 35 []),(.sl 32 [])] [(2,1,(tq 31))]),
   oo 5 (.alloc true [(.sc (.int .u32 0)),(.sc (.bool false)),(.gs 1 []),(.gs 35 []),(.gs 32 [])]),
   oz (.store 5 (tq 5) (tq 32))])
 (.seq (.reg [oo 33 (.move (tq 1) false),
   oo 34 (.call 225 [((tq 33),0)] []),
   oo 6 (.move (tq 34) false)])
 (.seq (.reg [oo 7 (.move (.const (.gs 32 [])) true),
   oo 8 (.move (.const (.gs 32 [])) true)])
 (.seq (.reg [oo 9 (.move (.const (.sc (.int .u32 0))) false)])
 (.seq (.block 0 (.loop (bl 992 148) (bl 356811919152373656311636663522476535484285935 148)
 zmD))
 znF))))))))⟩
def zlf:Hint:=⟨[(5,2),(7,0),(7,1),(17,3),(17,6),(19,1),(19,6),(21,3),(21,5),(21,6),(28,3),(28,6),(31,1),(31,6),(13,7),(13,11),(15,1),(15,6),(33,4),(33,6),(33,7),(34,0),(34,3)],[],[none,none,none,none,none,some ((bl 992 148),(bl 356811919152373656311636663522476535484285935 148)),none,some ((bl 928 148),(bl 356811919152373656311636663522476535484285935 148)),none,none,none,none,none,none,some ((bl 138649284399962590788701914080 148),(bl 356811919152373704659264560651937353093403631 148)),none,some ((bl 992 148),(bl 356811919152373704659264560651937353093403631 148)),none,none,some ((bl 16 148),(bl 356811919152373656311636663522476535484285023 148)),none,some ((bl 16 148),(bl 356811919152373656311636663522476535484285023 148)),none,none,some ((bl 76223250190290215815795912064716083560704 148),(bl 354024330026673642371879527578292738873152463 148)),none,some ((bl 4194304 148),(bl 354024330026673642371879527578292738873152463 148)),none,none,some ((bl 16 148),(bl 354024330026673642371879527578292738868958175 148)),none],[],[],false,false⟩
def zAD:Nat→Sh:=xZ [(145,(.sl 35))]
def zAO (ya:yh) (yB:zap) (xb:xj) (yl:yH) (za:xg) (zi:xx) (xl:yC) (yi:yz) (zx:z7) (L:Nat):CBC:=(xB 354 (zyR zx L) (xB 346 (zsj yi L) (xB 350 (ztq xl L) (xB 348 (zre zi L) (xB 231 (zdo za L) (xB 247 (zeL yl L) (xB 225 (zg7 xb L) (xB 353 (zzH yB L) (xB 332 (zeO ya L) noC)))))))))
def zw4:St→St:=yT 0 (bl 992 148) (bl 356811919152373656311636663522476535484285935 148)
def zqu:St→St:=yT 0 (bl 138649284399962590788701914080 148) (bl 356811919152373704659264560651937353093403631 148)
def zuw:St→St:=yT 0 (bl 76223250190290215815795912064716083560704 148) (bl 354024330026673642371879527578292738873152463 148)
def zvK (p7 p8:List (List V)) (p9:Int) (b5:List V) (zER:List (List V)) (zES:Int):St:=⟨(jn 5 ((V.ptr 5 0)::((V.ptr 34 0)::((V.gs 32 p7)::((V.gs 32 p8)::((V.sc (.int .u32 p9))::(jn 138 []))))))),(gn 5 ((.live true b5)::(gn 28 ((.live false [(V.sl 1 zER),(V.sc (.int .i64 zES))])::(gn 113 [])))))⟩
def zpH (p7 p8:List (List V)) (p9:Int) (p94:List (List V)) (p95 p96:Int) (b5:List V) (zER:List (List V)) (zES:Int):St:=⟨(jn 5 ((V.ptr 5 0)::((V.ptr 34 0)::((V.gs 32 p7)::((V.gs 32 p8)::((V.sc (.int .u32 p9))::(jn 84 ((V.sl 32 p94)::((V.sc (.int .i64 p95))::((V.sc (.int .i64 p96))::(jn 51 []))))))))))),(gn 5 ((.live true b5)::(gn 28 ((.live false [(V.sl 1 zER),(V.sc (.int .i64 zES))])::(gn 113 [])))))⟩
def zy9 (p7 p8:List (List V)) (p9:Int) (b5:List V) (zER:List (List V)) (zES:Int):St:=⟨(jn 5 ((V.ptr 5 0)::(jn 1 ((V.gs 32 p7)::((V.gs 32 p8)::((V.sc (.int .u32 p9))::(jn 138 []))))))),(gn 5 ((.live true b5)::(gn 28 ((.live false [(V.sl 1 zER),(V.sc (.int .i64 zES))])::(gn 113 [])))))⟩
def ztk (p8 zFl:List (List V)) (zFm zFk:Int) (b22:List V) (zER:List (List V)) (zES:Int):St:=⟨(jn 8 ((V.gs 32 p8)::(jn 13 ((V.ptr 22 0)::(jn 110 ((V.sl 32 zFl)::((V.sc (.int .i64 zFm))::((V.sc (.int .i64 zFk))::(jn 12 []))))))))),(gn 22 ((.live true b22)::(gn 11 ((.live false [(V.sl 1 zER),(V.sc (.int .i64 zES))])::(gn 113 [])))))⟩
def zyN (p4:Bool) (zER:List (List V)) (zES:Int):St:=⟨(jn 4 ((V.sc (.bool p4))::(jn 143 []))),(gn 34 ((.live false [(V.sl 1 zER),(V.sc (.int .i64 zES))])::(gn 113 [])))⟩
def zzi (p7 p8:List (List V)) (p9:Int) (b5:List V) (zER:List (List V)) (zES:Int):St:=⟨(jn 5 ((V.ptr 5 0)::((V.ptr 34 0)::((V.gs 32 p7)::((V.gs 32 p8)::((V.sc (.int .u32 p9))::(jn 138 []))))))),(gn 5 ((.live true b5)::(gn 28 ((.live false [(V.sl 1 zER),(V.sc (.int .i64 zES))])::(gn 113 [])))))⟩
def zy7 (b22:List V) (zER:List (List V)) (zES:Int):St:=⟨(jn 22 ((V.ptr 22 0)::(jn 125 []))),(gn 22 ((.live true b22)::(gn 11 ((.live false [(V.sl 1 zER),(V.sc (.int .i64 zES))])::(gn 113 [])))))⟩
abbrev zb1 (β:Type):Type:=List (List V)→List (List V)→Int→List V→List (List V)→Int→Option β
abbrev zcn (β:Type):Type:=List (List V)→List (List V)→Int→List (List V)→Int→Int→List V→List (List V)→Int→Option β
abbrev zhD (β:Type):Type:=List (List V)→List (List V)→Int→List V→List (List V)→Int→Option β
abbrev zff (β:Type):Type:=List (List V)→List (List V)→Int→Int→List V→List (List V)→Int→Option β
abbrev zlv (β:Type):Type:=List (List V)→List (List V)→Int→List V→List (List V)→Int→Option β
def zs9 {β:Type} (ya:yh) (yB:zap) (xb:xj) (yl:yH) (za:xg) (zi:xx) (xl:yC) (yi:yz) (zx:z7) (L:Nat) (p0 p1:List (List V)) (k_fin:Bool→Option β) (k_hbbbbbbbaa:zb1 β):Option β :=
 ya β L  (fun v0 =>
 ifb (!v0) (
 k_fin false) (
 yB β L p1 (fun v1 =>
 ifb (!v1) (
 k_fin true) (
 lt [(V.sc (.int .u32 (0:Int))),(V.sc (.bool false)),(V.sl 1 (xc 1 2 [(V.sc (.int .i64 (4:Int))),(V.sc (.int .i64 (7:Int)))])),(V.sl 35 ([]:List (List V))),(V.sl 32 ([]:List (List V)))] fun r2 =>
 xb β L p1 (fun v3 v4 =>
 k_hbbbbbbbaa ([]:List (List V)) ([]:List (List V)) (0:Int) r2 v3 v4)))))
def zm7 {β:Type} (ya:yh) (yB:zap) (xb:xj) (yl:yH) (za:xg) (zi:xx) (xl:yC) (yi:yz) (zx:z7) (L:Nat) (p7 p8:List (List V)) (p9:Int) (b5:List V) (zER:List (List V)) (zES:Int) (k_hbbbbbbbaa:zb1 β) (k_hbbbbbbbaaababbbabbbabbba:zcn β) (k_x0:zhD β):Option β :=
 yl β L zER zES (fun v5 v6 v7 =>
 ifb v5 (
 za β L (5:Int) v6 v7 (fun v8 v9 v10 =>
 lt (IntKind.wrap .u32 v8) fun x11 =>
 lt (IntKind.wrap .u32 ((p9:Int)+x11)) fun x12 =>
 za β L (30:Int) v9 v10 (fun v13 v14 v15 =>
 lt (IntKind.wrap .u8 v13) fun x16 =>
 lt ([(V.sc (.int .u8 x16))]++List.replicate 31 (V.sc (.int .u8 (0:Int)))) fun r17 =>
 za β L (4:Int) v14 v15 (fun v18 v19 v20 =>
 ifb ((v18:Int) == (0:Int)) (
 chk (0+5≤(List.length b5)) (
 chk (0+32≤(List.length r17)) (
 zi β L (List.map V.dem (List.take 5 b5)) (List.take 32 r17) (fun v21 v22 =>
 chk ((List.length v21)=5∧0+5≤5) (
 lt (zc [(V.sc (.int .u32 (0:Int))),(V.sc (.bool false)),(V.gs 1 ([]:List (List V))),(V.gs 35 ([]:List (List V))),(V.gs 32 ([]:List (List V)))] 0 v21) fun r23 =>
 ifb ((v22:Int) == (0:Int)) (
 chk (0+5≤(List.length r23)) (
 chk (0+32≤(List.length r17)) (
 chk ((List.length (List.take 32 r17))=32∧0+32≤32) (
 chk ((List.length p8+List.length (xc 32 1 (zc (List.replicate 32 (V.sc (.int .u8 (0:Int)))) 0 (List.take 32 r17)))) * 32≤zj∧List.length p8+List.length (xc 32 1 (zc (List.replicate 32 (V.sc (.int .u8 (0:Int)))) 0 (List.take 32 r17)))≤zj) (
 lt (p8++(xc 32 1 (zc (List.replicate 32 (V.sc (.int .u8 (0:Int)))) 0 (List.take 32 r17)))) fun l24 =>
 chk ((List.length (List.take 5 r23))=5∧0+5≤(List.length b5)) (
 lt (zc b5 0 (List.take 5 r23)) fun r25 =>
 k_hbbbbbbbaa p7 l24 x12 r25 v19 v20)))))) (
 k_hbbbbbbbaa p7 p8 x12 b5 v19 v20)))))) (
 ifb ((v18:Int) == (1:Int)) (
 chk (0+5≤(List.length b5)) (
 xl β L (List.map V.dem (List.take 5 b5)) x12 (fun v26 v27 =>
 chk ((List.length v26)=5∧0+5≤5) (
 lt (zc [(V.sc (.int .u32 (0:Int))),(V.sc (.bool false)),(V.gs 1 ([]:List (List V))),(V.gs 35 ([]:List (List V))),(V.gs 32 ([]:List (List V)))] 0 v26) fun r28 =>
 chk (0+5≤(List.length r28)) (
 chk ((List.length (List.take 5 r28))=5∧0+5≤(List.length b5)) (
 lt (zc b5 0 (List.take 5 r28)) fun r29 =>
 k_hbbbbbbbaaababbbabbbabbba p7 p8 x12 v27 ((List.length v27:Nat):Int) (0:Int) r29 v19 v20)))) (fun v30 v31 =>
 chk ((List.length v30)=5∧0+5≤5) (
 lt (zc [(V.sc (.int .u32 (0:Int))),(V.sc (.bool false)),(V.gs 1 ([]:List (List V))),(V.gs 35 ([]:List (List V))),(V.gs 32 ([]:List (List V)))] 0 v30) fun r32 =>
 chk (0+5≤(List.length r32)) (
 chk ((List.length (List.take 5 r32))=5∧0+5≤(List.length b5)) (
 lt (zc b5 0 (List.take 5 r32)) fun r33 =>
 k_hbbbbbbbaaababbbabbbabbba p7 p8 x12 v31 ((List.length v31:Nat):Int) (0:Int) r33 v19 v20)))))) (
 chk (0+5≤(List.length b5)) (
 za β L (9:Int) v19 v20 (fun v34 v35 v36 =>
 lt (IntKind.wrap .i64 ((v34:Int) - (1:Int))) fun x37 =>
 chk (0+32≤(List.length r17)) (
 yi β L (List.map V.dem (List.take 5 b5)) x37 (List.take 32 r17) x12 (10:Int) (fun v38 v39 v40 =>
 chk ((List.length v38)=5∧0+5≤5) (
 lt (zc [(V.sc (.int .u32 (0:Int))),(V.sc (.bool false)),(V.gs 1 ([]:List (List V))),(V.gs 35 ([]:List (List V))),(V.gs 32 ([]:List (List V)))] 0 v38) fun r41 =>
 ifb ((v40:Int) == (0:Int)) (
 ifb (decide (v39 ≥ (0:Int))) (
 chk (0+5≤(List.length r41)) (
 chk (0+32≤(List.length r17)) (
 chk ((List.length (List.take 32 r17))=32∧0+32≤32) (
 chk ((List.length p7+List.length (xc 32 1 (zc (List.replicate 32 (V.sc (.int .u8 (0:Int)))) 0 (List.take 32 r17)))) * 32≤zj∧List.length p7+List.length (xc 32 1 (zc (List.replicate 32 (V.sc (.int .u8 (0:Int)))) 0 (List.take 32 r17)))≤zj) (
 lt (p7++(xc 32 1 (zc (List.replicate 32 (V.sc (.int .u8 (0:Int)))) 0 (List.take 32 r17)))) fun l42 =>
 chk ((List.length (List.take 5 r41))=5∧0+5≤(List.length b5)) (
 lt (zc b5 0 (List.take 5 r41)) fun r43 =>
 k_hbbbbbbbaa l42 p8 x12 r43 v35 v36)))))) (
 k_hbbbbbbbaa p7 p8 x12 b5 v35 v36)) (
 k_hbbbbbbbaa p7 p8 x12 b5 v35 v36)))))))))))) (
 k_x0 p7 p8 p9 b5 v6 v7))
def zl0 {β:Type} (ya:yh) (yB:zap) (xb:xj) (yl:yH) (za:xg) (zi:xx) (xl:yC) (yi:yz) (zx:z7) (L:Nat) (p7 p8:List (List V)) (p9:Int) (b5:List V) (zER:List (List V)) (zES:Int) (k_hbbbbbbbbbbaba:zff β):Option β :=
 chk (0+5≤(List.length b5)) (
 lt (IntKind.wrap .u32 ((p9:Int)+(10:Int))) fun x44 =>
 xl β L (List.map V.dem (List.take 5 b5)) x44 (fun v45 v46 =>
 chk ((List.length v45)=5∧0+5≤5) (
 lt (zc [(V.sc (.int .u32 (0:Int))),(V.sc (.bool false)),(V.gs 1 ([]:List (List V))),(V.gs 35 ([]:List (List V))),(V.gs 32 ([]:List (List V)))] 0 v45) fun r47 =>
 chk ((List.length p8+List.length v46) * 32≤zj∧List.length p8+List.length v46≤zj) (
 lt (p8++v46) fun l48 =>
 k_hbbbbbbbbbbaba l48 p7 ((List.length p7:Nat):Int) (0:Int) r47 zER zES))) (fun v49 v50 =>
 chk ((List.length v49)=5∧0+5≤5) (
 lt (zc [(V.sc (.int .u32 (0:Int))),(V.sc (.bool false)),(V.gs 1 ([]:List (List V))),(V.gs 35 ([]:List (List V))),(V.gs 32 ([]:List (List V)))] 0 v49) fun r51 =>
 chk ((List.length p8+List.length v50) * 32≤zj∧List.length p8+List.length v50≤zj) (
 lt (p8++v50) fun l52 =>
 k_hbbbbbbbbbbaba l52 p7 ((List.length p7:Nat):Int) (0:Int) r51 zER zES))))
def zgv {β:Type} (ya:yh) (yB:zap) (xb:xj) (yl:yH) (za:xg) (zi:xx) (xl:yC) (yi:yz) (zx:z7) (L:Nat) (p7 p8:List (List V)) (p9:Int) (p94:List (List V)) (p95 p96:Int) (b5:List V) (zER:List (List V)) (zES:Int) (k_ret:Bool→List (List V)→Int→Option β) (k_hbbbbbbbaaababbbabbbabbba:zcn β) (k_x3:zlv β):Option β :=
 ifb (decide (p96 < p95)) (
 idx p94 p96 fun c53 =>
 chk ((List.length (List.take 32 c53))=32∧0+32≤32) (
 lt (zc (List.replicate 32 (V.sc (.int .u8 (0:Int)))) 0 (List.take 32 c53)) fun r54 =>
 chk (0+32≤(List.length r54)) (
 zx β L p8 (List.take 32 r54) (fun v55 =>
 ifb v55 (
 k_ret false zER zES) (
 chk (0+32≤(List.length r54)) (
 zx β L p7 (List.take 32 r54) (fun v56 =>
 ifb (!v56) (
 k_ret false zER zES) (
 chk (0+5≤(List.length b5)) (
 chk (0+32≤(List.length r54)) (
 zi β L (List.map V.dem (List.take 5 b5)) (List.take 32 r54) (fun v57 v58 =>
 chk ((List.length v57)=5∧0+5≤5) (
 lt (zc [(V.sc (.int .u32 (0:Int))),(V.sc (.bool false)),(V.gs 1 ([]:List (List V))),(V.gs 35 ([]:List (List V))),(V.gs 32 ([]:List (List V)))] 0 v57) fun r59 =>
 ifb ((v58:Int) != (0:Int)) (
 k_ret false zER zES) (
 chk (0+5≤(List.length r59)) (
 chk (0+32≤(List.length r54)) (
 chk ((List.length (List.take 32 r54))=32∧0+32≤32) (
 chk ((List.length p8+List.length (xc 32 1 (zc (List.replicate 32 (V.sc (.int .u8 (0:Int)))) 0 (List.take 32 r54)))) * 32≤zj∧List.length p8+List.length (xc 32 1 (zc (List.replicate 32 (V.sc (.int .u8 (0:Int)))) 0 (List.take 32 r54)))≤zj) (
 lt (p8++(xc 32 1 (zc (List.replicate 32 (V.sc (.int .u8 (0:Int)))) 0 (List.take 32 r54)))) fun l60 =>
 chk ((List.length (List.take 5 r59))=5∧0+5≤(List.length b5)) (
 lt (zc b5 0 (List.take 5 r59)) fun r61 =>
 lt (IntKind.wrap .i64 ((p96:Int)+(1:Int))) fun x62 =>
 k_hbbbbbbbaaababbbabbbabbba p7 l60 p9 p94 p95 x62 r61 zER zES)))))))))))))))))) (
 k_x3 p7 p8 p9 b5 zER zES)
def zkK {β:Type} (ya:yh) (yB:zap) (xb:xj) (yl:yH) (za:xg) (zi:xx) (xl:yC) (yi:yz) (zx:z7) (L:Nat) (p8 zFl:List (List V)) (zFm zFk:Int) (b22:List V) (zER:List (List V)) (zES:Int) (k_ret:Bool→List (List V)→Int→Option β) (k_hbbbbbbbbbbaba:zff β) (k_x5:List V→List (List V)→Int→Option β):Option β :=
 ifb (decide (zFk < zFm)) (
 idx zFl zFk fun c63 =>
 chk ((List.length (List.take 32 c63))=32∧0+32≤32) (
 lt (zc (List.replicate 32 (V.sc (.int .u8 (0:Int)))) 0 (List.take 32 c63)) fun r64 =>
 chk (0+32≤(List.length r64)) (
 zx β L p8 (List.take 32 r64) (fun v65 =>
 ifb (!v65) (
 k_ret false zER zES) (
 lt (IntKind.wrap .i64 ((zFk:Int)+(1:Int))) fun x66 =>
 k_hbbbbbbbbbbaba p8 zFl zFm x66 b22 zER zES))))) (
 k_x5 b22 zER zES)
def zfM {β:Type} (ya:yh) (yB:zap) (xb:xj) (yl:yH) (za:xg) (zi:xx) (xl:yC) (yi:yz) (zx:z7) (L:Nat) (p4:Bool) (zER:List (List V)) (zES:Int) (k_ret:Bool→List (List V)→Int→Option β):Option β :=
 k_ret p4 zER zES
def zfV {β:Type} (ya:yh) (yB:zap) (xb:xj) (yl:yH) (za:xg) (zi:xx) (xl:yC) (yi:yz) (zx:z7) (L:Nat) (p7 p8:List (List V)) (p9:Int) (b5:List V) (zER:List (List V)) (zES:Int) (k_hbbbbbbbaa:zb1 β):Option β :=
 k_hbbbbbbbaa p7 p8 p9 b5 zER zES
def zjq {β:Type} (ya:yh) (yB:zap) (xb:xj) (yl:yH) (za:xg) (zi:xx) (xl:yC) (yi:yz) (zx:z7) (L:Nat) (p4:Bool) (zER:List (List V)) (zES:Int) (k_fin:Bool→Option β):Option β :=
 k_fin p4
def zj1 {β:Type} (ya:yh) (yB:zap) (xb:xj) (yl:yH) (za:xg) (zi:xx) (xl:yC) (yi:yz) (zx:z7) (L:Nat) (b22:List V) (zER:List (List V)) (zES:Int) (k_fin:Bool→Option β):Option β :=
 cLd 35 b22 3 fun v67 =>
 k_fin ((((List.length v67:Nat):Int):Int) == (0:Int))
def zlq {β:Type} (ya:yh) (yB:zap) (xb:xj) (yl:yH) (za:xg) (zi:xx) (xl:yC) (yi:yz) (zx:z7) (L:Nat) (p4:Bool) (zER:List (List V)) (zES:Int) (k_fin:Bool→Option β):Option β :=
 k_fin p4
def zcC {β:Type} (ya:yh) (yB:zap) (xb:xj) (yl:yH) (za:xg) (zi:xx) (xl:yC) (yi:yz) (zx:z7) (L:Nat) (k_ret:Bool→List (List V)→Int→Option β) (k_x3:zlv β):Nat→List (List V)→List (List V)→Int→List (List V)→Int→Int→List V→List (List V)→Int→Option β
 | 0,_,_,_,_,_,_,_,_,_=>none
 | n+1,p7,p8,p9,p94,p95,p96,b5,zER,zES=>zgv ya yB xb yl za zi xl yi zx L p7 p8 p9 p94 p95 p96 b5 zER zES k_ret (fun p7 p8 p9 p94 p95 p96 b5 zER zES=>zcC ya yB xb yl za zi xl yi zx L k_ret k_x3 n p7 p8 p9 p94 p95 p96 b5 zER zES) k_x3
def zmE {β:Type} (ya:yh) (yB:zap) (xb:xj) (yl:yH) (za:xg) (zi:xx) (xl:yC) (yi:yz) (zx:z7) (L:Nat) (p7 p8:List (List V)) (p9:Int) (b5:List V) (zER:List (List V)) (zES:Int) (k_hbbbbbbbaa:zb1 β) (k_x0:zhD β) (k_ret:Bool→List (List V)→Int→Option β):Option β :=
 zm7 ya yB xb yl za zi xl yi zx L p7 p8 p9 b5 zER zES k_hbbbbbbbaa (fun p7 p8 p9 p94 p95 p96 b5 zER zES=>zcC ya yB xb yl za zi xl yi zx L (fun p4 zER zES=>zfM ya yB xb yl za zi xl yi zx L p4 zER zES k_ret) (fun p7 p8 p9 b5 zER zES=>zfV ya yB xb yl za zi xl yi zx L p7 p8 p9 b5 zER zES k_hbbbbbbbaa) L p7 p8 p9 p94 p95 p96 b5 zER zES) k_x0
def zhm {β:Type} (ya:yh) (yB:zap) (xb:xj) (yl:yH) (za:xg) (zi:xx) (xl:yC) (yi:yz) (zx:z7) (L:Nat) (k_x0:zhD β) (k_ret:Bool→List (List V)→Int→Option β):Nat→List (List V)→List (List V)→Int→List V→List (List V)→Int→Option β
 | 0,_,_,_,_,_,_=>none
 | n+1,p7,p8,p9,b5,zER,zES=>zmE ya yB xb yl za zi xl yi zx L p7 p8 p9 b5 zER zES (fun p7 p8 p9 b5 zER zES=>zhm ya yB xb yl za zi xl yi zx L k_x0 k_ret n p7 p8 p9 b5 zER zES) k_x0 k_ret
def zfs {β:Type} (ya:yh) (yB:zap) (xb:xj) (yl:yH) (za:xg) (zi:xx) (xl:yC) (yi:yz) (zx:z7) (L:Nat) (k_ret:Bool→List (List V)→Int→Option β) (k_x5:List V→List (List V)→Int→Option β):Nat→List (List V)→List (List V)→Int→Int→List V→List (List V)→Int→Option β
 | 0,_,_,_,_,_,_,_=>none
 | n+1,p8,zFl,zFm,zFk,b22,zER,zES=>zkK ya yB xb yl za zi xl yi zx L p8 zFl zFm zFk b22 zER zES k_ret (fun p8 zFl zFm zFk b22 zER zES=>zfs ya yB xb yl za zi xl yi zx L k_ret k_x5 n p8 zFl zFm zFk b22 zER zES) k_x5
def zln {β:Type} (ya:yh) (yB:zap) (xb:xj) (yl:yH) (za:xg) (zi:xx) (xl:yC) (yi:yz) (zx:z7) (L:Nat) (p7 p8:List (List V)) (p9:Int) (b5:List V) (zER:List (List V)) (zES:Int) (k_fin:Bool→Option β):Option β :=
 zl0 ya yB xb yl za zi xl yi zx L p7 p8 p9 b5 zER zES (fun p8 zFl zFm zFk b22 zER zES=>zfs ya yB xb yl za zi xl yi zx L (fun p4 zER zES=>zjq ya yB xb yl za zi xl yi zx L p4 zER zES k_fin) (fun b22 zER zES=>zj1 ya yB xb yl za zi xl yi zx L b22 zER zES k_fin) L p8 zFl zFm zFk b22 zER zES)
def zs1 {β:Type} (ya:yh) (yB:zap) (xb:xj) (yl:yH) (za:xg) (zi:xx) (xl:yC) (yi:yz) (zx:z7) (L:Nat) (p0 p1:List (List V)) (k_fin:Bool→Option β):Option β :=
 zs9 ya yB xb yl za zi xl yi zx L p0 p1 k_fin (fun p7 p8 p9 b5 zER zES=>zhm ya yB xb yl za zi xl yi zx L (fun p7 p8 p9 b5 zER zES=>zln ya yB xb yl za zi xl yi zx L p7 p8 p9 b5 zER zES k_fin) (fun p4 zER zES=>zlq ya yB xb yl za zi xl yi zx L p4 zER zES k_fin) L p7 p8 p9 b5 zER zES)
abbrev zth:=∀ (β:Type),Nat→List (List V)→List (List V)→(Bool→Option β)→Option β
def znq (β:Type) (L:Nat) (p0 p1:List (List V)) (k_fin:Bool→Option β):Option β:=zs1 ya yB xb yl za zi xl yi zx L p0 p1 k_fin
def zBg (znq:zth) (L:Nat) (β:Type) (args:List V) (bor:Bor) (k:KK β):Option β:=match args,bor with
 | [a0,a1],[]=>aL 1 a0 fun p0=>aL 1 a1 fun p1=>znq β L p0 p1 (fun p0=>k (V.sc (.bool p0)) [])
 | _,_=>none
def zbP:CC:=(.seq (.reg [oo 9 (.bin .lss (tq 8) (tq 7))])
 (.seq (.cond (tq 9)
 .skip
 (.seq (.mask (bl 0 17) (bl 131027 17))
 (.exit 0)))
 (.seq (.block 1 (.seq (.reg [oo 10 (.indexAddrS 1 (tq 6) (tq 8)),
   oo 11 (.load false 1 (tq 10) false),
   oo 5 (.move (tq 11) false)])
 (.seq (.seq (.reg [oo 12 (.move (tq 5) false),
   oo 13 (.move (tq 3) false),
   oo 14 (.bin .leq (tq 12) (tq 13))])
 (.cond (tq 14)
 (.seq (.reg [oo 2 (.move (.const (.sc (.bool false))) false)])
 (.seq (.mask (bl 4 17) (bl 131031 17))
 .ret))
 .skip))
 (.reg [oo 15 (.move (tq 5) false),
   oo 3 (.move (tq 15) false)]))))
 (.reg [oo 16 (.bin .add (tq 8) (.const (.sc (.int .i64 1)))),
   oo 8 (.move (tq 16) false)]))))
def zey:CC:=(.seq (.reg [oo 2 (.move (.const (.sc (.bool true))) false)])
 .ret)
def za0:CF:=⟨17,[.tmp 2],
 (.seq (.reg [oo 2 (.move (.const (.sc (.bool false))) false)])
 (.seq (.reg [oo 3 (.move (.const (.sc (.int .i64 (-1)))) false)])
 (.seq (.seq (.reg [oo 6 (.move (tq 0) false),
   oo 7 (.lenS (tq 6)),
   oo 8 (.move (.const (.sc (.int .i64 0))) false)])
 (.block 0 (.loop (bl 456 17) (bl 131035 17)
 zbP)))
 zey)))⟩
def zkV:Hint:=⟨[],[],[none,some ((bl 456 17),(bl 131035 17)),none,some ((bl 0 17),(bl 131027 17)),none,none,some ((bl 4 17),(bl 131031 17)),none],[],[],false,false⟩
def y4:Nat→Sh:=xZ [(11,(.int .i64))]
def y5 (L:Nat):CBC:=noC
def zdC:St→St:=yT 0 (bl 456 17) (bl 131035 17)
def zct (p3:Int) (p6:List (List V)) (p7 p8:Int):St:=⟨(jn 3 ((V.sc (.int .i64 p3))::(jn 2 ((V.sl 1 p6)::((V.sc (.int .i64 p7))::((V.sc (.int .i64 p8))::(jn 8 []))))))),(gn 17 [])⟩
def zfK (p2:Bool):St:=⟨(jn 2 ((V.sc (.bool p2))::(jn 14 []))),(gn 17 [])⟩
def zgb:St:=⟨(jn 17 []),(gn 17 [])⟩
def zja {β:Type} (L:Nat) (p0:List (List V)) (k_hbbaba:Int→List (List V)→Int→Int→Option β):Option β :=
 k_hbbaba (-1:Int) p0 ((List.length p0:Nat):Int) (0:Int)
theorem zq1 {β:Type} (L:Nat) (p0:List (List V)) (k:KK β):zK y4 (y5 L) L za0 [(V.sl 1 p0)] [] k=zja L p0 (fun p3 p6 p7 p8=>xG (zn y4 (y5 L) 0 L zbP) zdC L (zct p3 p6 p7 p8) (yy 0 (zM (zn y4 (y5 L) 0 L zey) (zO 0 (CF.res za0) k)))):=by kernel_rfl
def zfO {β:Type} (L:Nat) (p3:Int) (p6:List (List V)) (p7 p8:Int) (k_ret:Bool→Option β) (k_hbbaba:Int→List (List V)→Int→Int→Option β) (k_x0:Option β):Option β :=
 ifb (decide (p8 < p7)) (
 idx p6 p8 fun c0 =>
 cI .i64 c0 0 fun v1 =>
 ifb (decide (v1≤p3)) (
 k_ret false) (
 lt (IntKind.wrap .i64 ((p8:Int)+(1:Int))) fun x2 =>
 k_hbbaba v1 p6 p7 x2)) (
 k_x0)
theorem znE {β:Type} (L:Nat) (p3:Int) (p6:List (List V)) (p7 p8:Int) (X:St→Option β) (K:KT β):zn y4 (y5 L) 0 L zbP (zct p3 p6 p7 p8) (zbw zdC X K)=zfO L p3 p6 p7 p8 (fun p2=>K .ret (zfK p2)) (fun p3 p6 p7 p8=>X (zct p3 p6 p7 p8)) (K (.exit 0) (zgb)):=by kernel_rfl
def zet {β:Type} (L:Nat) (p2:Bool) (k_fin:Bool→Option β):Option β :=
 k_fin p2
theorem zlH {β:Type} (L:Nat) (p2:Bool) (k:KK β):(yy 0 (zM (zn y4 (y5 L) 0 L zey) (zO 0 (CF.res za0) k))) .ret (zfK p2)=zet L p2 (fun p0=>k (V.sc (.bool p0)) []):=by kernel_rfl
def ze2 {β:Type} (L:Nat) (k_fin:Bool→Option β):Option β :=
 k_fin true
theorem zmr {β:Type} (L:Nat) (k:KK β):(yy 0 (zM (zn y4 (y5 L) 0 L zey) (zO 0 (CF.res za0) k))) (.exit 0) (zgb)=ze2 L (fun p0=>k (V.sc (.bool p0)) []):=by kernel_rfl
def zb6 {β:Type} (L:Nat) (k_ret:Bool→Option β) (k_x0:Option β):Nat→Int→List (List V)→Int→Int→Option β
 | 0,_,_,_,_=>none
 | n+1,p3,p6,p7,p8=>zfO L p3 p6 p7 p8 k_ret (fun p3 p6 p7 p8=>zb6 L k_ret k_x0 n p3 p6 p7 p8) k_x0
theorem zhQ {β:Type} (L:Nat) (K:KT β):∀ (n:Nat) (p3:Int) (p6:List (List V)) (p7 p8:Int),xG (zn y4 (y5 L) 0 L zbP) zdC n (zct p3 p6 p7 p8) K=zb6 L (fun p2=>K .ret (zfK p2)) (K (.exit 0) (zgb)) n p3 p6 p7 p8:=by
 intro n
 induction n with
 | zero=>intros; rfl
 | succ n ih =>
  intro p3 p6 p7 p8
  refine (znE L p3 p6 p7 p8 (fun σ=>xG (zn y4 (y5 L) 0 L zbP) zdC n σ K) K).trans ?_
  simp only [ih]
  rfl
def zfY {β:Type} (L:Nat) (p0:List (List V)) (k_fin:Bool→Option β):Option β :=
 zja L p0 (fun p3 p6 p7 p8=>zb6 L (fun p2=>zet L p2 k_fin) (ze2 L k_fin) L p3 p6 p7 p8)
theorem zq2 {β:Type} (L:Nat) (p0:List (List V)) (k:KK β):zK y4 (y5 L) L za0 [(V.sl 1 p0)] [] k=zfY L p0 (fun p0=>k (V.sc (.bool p0)) []):=by
 refine (zq1 L p0 k).trans ?_
 unfold zfY
 first
  | (simp only [zhQ,zlH,zmr]; done)
  | (simp only [zhQ]; rfl)
abbrev zZ:=∀ (β:Type),Nat→List (List V)→(Bool→Option β)→Option β
def xm (β:Type) (L:Nat) (p0:List (List V)) (k_fin:Bool→Option β):Option β:=zfY L p0 k_fin
def zf7 (xm:zZ) (L:Nat) (β:Type) (args:List V) (bor:Bor) (k:KK β):Option β:=match args,bor with
 | [a0],[]=>aL 1 a0 fun p0=>xm β L p0 (fun p0=>k (V.sc (.bool p0)) [])
 | _,_=>none
theorem zqE (L:Nat) (β:Type) (args:List V) (bor:Bor) (k:KK β) (r:β) (h:zf7 xm L β args bor k=some r):zK y4 (y5 L) L za0 args bor k=some r:=by
 unfold zf7 at h
 split at h
 ·have q:=zaZ h; clear h; obtain ⟨p0,rfl,h⟩:=q
  exact (zq2 L p0 k).trans h
 ·cases h
def zcw:CF:=⟨33,[.tmp 6],
 (.seq (.reg [oo 6 (.move (.const (.gs 1 [])) true)])
 (.seq (.reg [oo 8 (.move (tq 0) false),
   oo 9 (.move (tq 1) false),
   oo 10 (.move (tq 2) false),
   oo 11 (.move (tq 0) false),
   oo 12 (.lenS (tq 11)),
   oo 13 (.sliceS 1 (tq 8) (some (tq 9)) (some (tq 10)) (some (tq 12)))])
 (.seq (.seq (.reg [oo 14 (.move (tq 1) false),
   oo 15 (.move (tq 2) false),
   oo 16 (.bin .eql (tq 14) (tq 15))])
 (.cond (tq 16)
 (.seq (.reg [oo 17 (.move (tq 0) true),
   oo 6 (.move (tq 17) true)])
 .ret)
 .skip))
 (.seq (.reg [oo 18 (.move (tq 0) false),
   oo 19 (.lenS (tq 18)),
   oo 7 (.move (tq 19) false)])
 (.seq (.dreg [] [(oo 20 (.move (tq 0) false),q0),
   (oo 21 (.move (tq 1) false),q0),
   (oo 22 (.sliceC 1 (tq 20) (some (tq 21))),q0),
   (oo 23 (.move (tq 0) false),q0),
   (oo 24 (.move (tq 2) false),q0),
   (oo 25 (.sliceS 1 (tq 23) (some (tq 24)) none none),q0),
   (oo 26 (.append 1 8 (tq 22) (tq 25)),q0),
   (oo 0 (.move (tq 26) true),q0)])
 (.seq (.reg [oo 27 (.move (tq 0) false),
   oo 28 (.move (tq 0) false),
   oo 29 (.lenS (tq 28)),
   oo 30 (.move (tq 7) false),
   oo 31 (.sliceS 1 (tq 27) (some (tq 29)) (some (tq 30)) none),
   oz (.clear 1 [(.sc (.int .i64 0))] (tq 31))])
 (.seq (.reg [oo 32 (.move (tq 0) true),
   oo 6 (.move (tq 32) true)])
 .ret)))))))⟩
def zgy:Hint:=⟨[(0,0),(3,0),(3,1),(5,2),(5,7),(7,0),(7,1)],[],[none,none,none],[],[],false,false⟩
def zex:Nat→Sh:=xZ []
def zev (L:Nat):CBC:=noC
def zeQ {β:Type} (L:Nat) (p0l:Nat) (p1 p2:Int) (b0:List V) (k_fin:Nat→List V→Option β):Option β :=
 chk (0≤((p0l:Nat):Int)∧((p0l:Nat):Int)≤((p0l:Nat):Int)) (
 chk (0≤p2∧p2≤(((Int.toNat ((p0l:Nat):Int)):Nat):Int)) (
 chk (0≤p1∧p1≤(((Int.toNat p2):Nat):Int)) (
 ifb (decide ((Int.toNat ((p0l:Nat):Int))=(Int.toNat p1))) (
 ifb ((p1:Int) == p2) (
 k_fin p0l b0) (
 chk (0≤p1∧p1≤((p0l:Nat):Int)) (
 chk (0≤p2∧p2≤((p0l:Nat):Int)) (
 chk ((Int.toNat p1)+List.length (xc 1 (p0l - (Int.toNat p2)) (List.drop (0+((Int.toNat p2) * 1)) b0))≤p0l) (
 lt (zc b0 ((Int.toNat p1) * 1) (List.flatten (xc 1 (p0l - (Int.toNat p2)) (List.drop (0+((Int.toNat p2) * 1)) b0)))) fun r0 =>
 chk (0≤((p0l:Nat):Int)∧((p0l:Nat):Int)≤((p0l:Nat):Int)) (
 chk (0≤((((Int.toNat p1)+List.length (xc 1 (p0l - (Int.toNat p2)) (List.drop (0+((Int.toNat p2) * 1)) b0))):Nat):Int)∧((((Int.toNat p1)+List.length (xc 1 (p0l - (Int.toNat p2)) (List.drop (0+((Int.toNat p2) * 1)) b0))):Nat):Int)≤(((Int.toNat ((p0l:Nat):Int)):Nat):Int)) (
 lt (zc r0 (0+((Int.toNat ((((Int.toNat p1)+List.length (xc 1 (p0l - (Int.toNat p2)) (List.drop (0+((Int.toNat p2) * 1)) b0))):Nat):Int)) * 1)) (List.flatten (List.replicate ((Int.toNat ((p0l:Nat):Int)) - (Int.toNat ((((Int.toNat p1)+List.length (xc 1 (p0l - (Int.toNat p2)) (List.drop (0+((Int.toNat p2) * 1)) b0))):Nat):Int))) [(V.sc (.int .i64 (0:Int)))]))) fun r1 =>
 k_fin ((Int.toNat p1)+List.length (xc 1 (p0l - (Int.toNat p2)) (List.drop (0+((Int.toNat p2) * 1)) b0))) r1))))))) (
 ifb ((p1:Int) == p2) (
 k_fin p0l b0) (
 chk (0≤p1∧p1≤((p0l:Nat):Int)) (
 chk (0≤p2∧p2≤((p0l:Nat):Int)) (
 chk ((Int.toNat p1)+List.length (xc 1 (p0l - (Int.toNat p2)) (List.drop (0+((Int.toNat p2) * 1)) b0))≤p0l) (
 lt (zc b0 ((Int.toNat p1) * 1) (List.flatten (xc 1 (p0l - (Int.toNat p2)) (List.drop (0+((Int.toNat p2) * 1)) b0)))) fun r2 =>
 chk (0≤((p0l:Nat):Int)∧((p0l:Nat):Int)≤((p0l:Nat):Int)) (
 chk (0≤((((Int.toNat p1)+List.length (xc 1 (p0l - (Int.toNat p2)) (List.drop (0+((Int.toNat p2) * 1)) b0))):Nat):Int)∧((((Int.toNat p1)+List.length (xc 1 (p0l - (Int.toNat p2)) (List.drop (0+((Int.toNat p2) * 1)) b0))):Nat):Int)≤(((Int.toNat ((p0l:Nat):Int)):Nat):Int)) (
 lt (zc r2 (0+((Int.toNat ((((Int.toNat p1)+List.length (xc 1 (p0l - (Int.toNat p2)) (List.drop (0+((Int.toNat p2) * 1)) b0))):Nat):Int)) * 1)) (List.flatten (List.replicate ((Int.toNat ((p0l:Nat):Int)) - (Int.toNat ((((Int.toNat p1)+List.length (xc 1 (p0l - (Int.toNat p2)) (List.drop (0+((Int.toNat p2) * 1)) b0))):Nat):Int))) [(V.sc (.int .i64 (0:Int)))]))) fun r3 =>
 k_fin ((Int.toNat p1)+List.length (xc 1 (p0l - (Int.toNat p2)) (List.drop (0+((Int.toNat p2) * 1)) b0))) r3))))))))))
theorem zmu {β:Type} (L:Nat) (p0l:Nat) (p1 p2:Int) (b0:List V) (k:KK β):zK zex (zev L) L zcw [(V.own 0 0 p0l 1),(V.sc (.int .i64 p1)),(V.sc (.int .i64 p2))] [(.live true b0)] k=zeQ L p0l p1 p2 b0 (fun p0l b0=>k (V.own 0 0 p0l 1) [(.live true b0)]):=by kernel_rfl
abbrev yL:=∀ (β:Type),Nat→Nat→Int→Int→List V→(Nat→List V→Option β)→Option β
def zh (β:Type) (L:Nat) (p0l:Nat) (p1 p2:Int) (b0:List V) (k_fin:Nat→List V→Option β):Option β:=zeQ L p0l p1 p2 b0 k_fin
def zcN (zh:yL) (L:Nat) (β:Type) (args:List V) (bor:Bor) (k:KK β):Option β:=match args,bor with
 | [a0,a1,a2],[(.live true b0)]=>aO0 0 1 a0 fun p0l=>aI .i64 a1 fun p1=>aI .i64 a2 fun p2=>zh β L p0l p1 p2 b0 (fun p0l b0=>k (V.own 0 0 p0l 1) [(.live true b0)])
 | _,_=>none
theorem zmz (L:Nat) (β:Type) (args:List V) (bor:Bor) (k:KK β) (r:β) (h:zcN zh L β args bor k=some r):zK zex (zev L) L zcw args bor k=some r:=by
 unfold zcN at h
 split at h
 ·have q:=zCr h; clear h; obtain ⟨p0l,rfl,h⟩:=q
  have q:=zaG h; clear h; obtain ⟨p1,rfl,h⟩:=q
  have q:=zaG h; clear h; obtain ⟨p2,rfl,h⟩:=q
  exact (zmu L p0l p1 p2 _ k).trans h
 ·cases h
end
end Go.Proofs.Ytpbbfpfmdckclaa
