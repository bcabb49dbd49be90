/- Part 10 of the proof of RelayHears: an abstract machine over plain values, its soundness, and the functions of the program on plain values. -/
import Derived.ProofKit
import Derived.OpenShut
import Derived.ChangeOld
import Derived.Deep.Slices
import Derived.SizedLaws
import Derived.Test.YtpbbfpfmdckclaaMRelayHears9
namespace Go.Proofs.Ytpbbfpfmdckclaa
section
set_option maxRecDepth 100000
set_option linter.unusedVariables false
set_option linter.unusedSimpArgs false
def znv:CC:=(.seq (.reg [oo 9 (.bin .lss (tq 8) (tq 7))])
 (.seq (.cond (tq 9)
 .skip
 (.seq (.mask (bl 0 19) (bl 458703 19))
 (.exit 0)))
 (.seq (.block 1 (.seq (.reg [oo 10 (.move (tq 8) false),
   oo 5 (.move (tq 10) false)])
 (.seq (.reg [oo 11 (.move (tq 1) false),
   oo 12 (.move (tq 0) false),
   oo 13 (.move (tq 5) false),
   oo 14 (.indexAddrS 35 (tq 12) (tq 13)),
   oo 15 (.load true 35 (tq 14) false),
   oo 16 (.callv (tq 11) [((tq 15),0)] [])])
 (.cond (tq 16)
 (.seq (.reg [oo 17 (.move (tq 5) false),
   oo 4 (.move (tq 17) false)])
 (.seq (.mask (bl 16 19) (bl 458719 19))
 .ret))
 .skip))))
 (.reg [oo 18 (.bin .add (tq 8) (.const (.sc (.int .i64 1)))),
   oo 8 (.move (tq 18) false)]))))
def zoz:CC:=(.seq (.reg [oo 4 (.move (.const (.sc (.int .i64 (-1)))) false)])
 .ret)
def zoJ:CF:=zw
def zoH:Nat→Sh:=z6 []
def zoF (xu:z9) (L:Nat):CBC:=(xD 368 (zpb xu L) noC)
def znL:St→St:=xZ 3 (bl 387 19) (bl 458703 19)
def zm0 (p0l:Nat) (p7 p8:Int) (b0:List V) (zBM:Int) (zBN:List (List V)):St:=⟨((V.own 0 0 p0l 35)::((V.fn 368 [(V.ptr 1 0),(V.ptr 2 0)])::(jn 5 ((V.sc (.int .i64 p7))::((V.sc (.int .i64 p8))::(jn 10 [])))))),((.live true b0)::((.live true [(V.sc (.int .u32 zBM))])::((.live false [(V.gs 32 zBN)])::(gn 19 []))))⟩
def znu (p4:Int) (b0:List V) (zBM:Int) (zBN:List (List V)):St:=⟨(jn 4 ((V.sc (.int .i64 p4))::(jn 14 []))),((.live true b0)::((.live true [(V.sc (.int .u32 zBM))])::((.live false [(V.gs 32 zBN)])::(gn 19 []))))⟩
def znG (b0:List V) (zBM:Int) (zBN:List (List V)):St:=⟨(jn 19 []),((.live true b0)::((.live true [(V.sc (.int .u32 zBM))])::((.live false [(V.gs 32 zBN)])::(gn 19 []))))⟩
def zfR {β:Type} (xu:z9) (L:Nat) (p0l:Nat) (b0:List V) (zBM:Int) (zBN:List (List V)) (k_hbaba:Nat→Int→Int→List V→Int→List (List V)→Option β):Option β :=
 k_hbaba p0l ((p0l:Nat):Int) (0:Int) b0 zBM zBN
def zeQ {β:Type} (xu:z9) (L:Nat) (p0l:Nat) (p7 p8:Int) (b0:List V) (zBM:Int) (zBN:List (List V)) (k_ret:Int→List V→Int→List (List V)→Option β) (k_hbaba:Nat→Int→Int→List V→Int→List (List V)→Option β) (k_x0:List V→Int→List (List V)→Option β):Option β :=
 ifb (decide (p8 < p7)) (
 chk (0≤p8∧p8 < ((p0l:Nat):Int)) (
 chk ((0+((Int.toNat p8) * 35))+35≤(List.length b0)) (
 xu β L (List.take 35 (List.drop (0+((Int.toNat p8) * 35)) b0)) zBM zBN (fun v0 v1 v2 =>
 ifb v0 (
 k_ret p8 b0 v1 v2) (
 lt (IntKind.wrap .i64 ((p8:Int)+(1:Int))) fun x3 =>
 k_hbaba p0l p7 x3 b0 v1 v2))))) (
 k_x0 b0 zBM zBN)
def zeg {β:Type} (xu:z9) (L:Nat) (p4:Int) (b0:List V) (zBM:Int) (zBN:List (List V)) (k_fin:Int→List V→Int→List (List V)→Option β):Option β :=
 k_fin p4 b0 zBM zBN
def zen {β:Type} (xu:z9) (L:Nat) (b0:List V) (zBM:Int) (zBN:List (List V)) (k_fin:Int→List V→Int→List (List V)→Option β):Option β :=
 k_fin (-1:Int) b0 zBM zBN
def zbX {β:Type} (xu:z9) (L:Nat) (k_ret:Int→List V→Int→List (List V)→Option β) (k_x0:List V→Int→List (List V)→Option β):Nat→Nat→Int→Int→List V→Int→List (List V)→Option β
 | 0,_,_,_,_,_,_=>none
 | n+1,p0l,p7,p8,b0,zBM,zBN=>zeQ xu L p0l p7 p8 b0 zBM zBN k_ret (fun p0l p7 p8 b0 zBM zBN=>zbX xu L k_ret k_x0 n p0l p7 p8 b0 zBM zBN) k_x0
def zfw {β:Type} (xu:z9) (L:Nat) (p0l:Nat) (b0:List V) (zBM:Int) (zBN:List (List V)) (k_fin:Int→List V→Int→List (List V)→Option β):Option β :=
 zfR xu L p0l b0 zBM zBN (fun p0l p7 p8 b0 zBM zBN=>zbX xu L (fun p4 b0 zBM zBN=>zeg xu L p4 b0 zBM zBN k_fin) (fun b0 zBM zBN=>zen xu L b0 zBM zBN k_fin) L p0l p7 p8 b0 zBM zBN)
abbrev yE:=∀ (β:Type),Nat→Nat→List V→Int→List (List V)→(Int→List V→Int→List (List V)→Option β)→Option β
def xi (β:Type) (L:Nat) (p0l:Nat) (b0:List V) (zBM:Int) (zBN:List (List V)) (k_fin:Int→List V→Int→List (List V)→Option β):Option β:=zfw xu L p0l b0 zBM zBN k_fin
def zfM (xi:yE) (L:Nat) (β:Type) (args:List V) (bor:Bor) (k:KK β):Option β:=match args,bor with
 | [a0,a1],[(.live true b0),(.live true [w1_0]),(.live false [w2_0])]=>aO0 0 35 a0 fun p0l=>aF 368 [(1,0),(2,0)] a1 (aI .u32 w1_0 fun zBM=>aGs 32 w2_0 fun zBN=>xi β L p0l b0 zBM zBN (fun p0 b0 zBM zBN=>k (V.sc (.int .i64 p0)) [(.live true b0),(.live true [(V.sc (.int .u32 zBM))]),(.live false [(V.gs 32 zBN)])]))
 | _,_=>none
def zeJ:CC:=(.seq (.seq (.reg [oo 16 (.move (tq 6) false),
   oo 17 (.move (tq 0) false),
   oo 18 (.lenS (tq 17)),
   oo 19 (.bin .lss (tq 16) (tq 18))])
 (.cond (tq 19)
 .skip
 (.seq (.mask (bl 33 42) (bl 4397777813311 42))
 (.exit 0))))
 (.seq (.block 1 (.seq (.reg [oo 22 (.move (tq 0) false),
   oo 23 (.move (tq 6) false),
   oo 24 (.indexAddrS 35 (tq 22) (tq 23)),
   oo 25 (.load true 35 (tq 24) false),
   oo 7 (.alloc true (rp 32 (.sc (.int .u8 0)) (rp 2 (.sc (.int .i64 0)) (rp 1 (.sc (.int .u32 0)) [])))),
   oz (.store 35 (tq 7) (tq 25))])
 (.seq (.reg [oo 26 (.move (tq 1) false),
   oo 27 (.load true 35 (tq 7) false),
   oo 28 (.callv (tq 26) [((tq 27),0)] []),
   oo 29 (.un .not (tq 28))])
 (.cond (tq 29)
 (.seq (.reg [oo 30 (.move (tq 0) false),
   oo 31 (.move (tq 5) false),
   oo 32 (.load true 35 (tq 7) false),
   oo 33 (.indexAddrS 35 (tq 30) (tq 31)),
   oz (.store 35 (tq 33) (tq 32))])
 (.reg [oo 34 (.move (tq 5) false),
   oo 35 (.bin .add (tq 34) (.const (.sc (.int .i64 1)))),
   oo 5 (.move (tq 35) false)]))
 .skip))))
 (.reg [oo 20 (.move (tq 6) false),
   oo 21 (.bin .add (tq 20) (.const (.sc (.int .i64 1)))),
   oo 6 (.move (tq 21) false)])))
def zfi:CC:=(.seq (.reg [oo 36 (.move (tq 0) false),
   oo 37 (.move (tq 5) false),
   oo 38 (.sliceS 35 (tq 36) (some (tq 37)) none none),
   oz (.clear 35 (rp 32 (.sc (.int .u8 0)) (rp 2 (.sc (.int .i64 0)) (rp 1 (.sc (.int .u32 0)) []))) (tq 38))])
 (.seq (.reg [oo 39 (.move (tq 0) true),
   oo 40 (.move (tq 5) false),
   oo 41 (.sliceS 35 (tq 39) none (some (tq 40)) none),
   oo 4 (.move (tq 41) true)])
 .ret))
def zcG:CF:=⟨42,[.tmp 4],
 (.seq (.reg [oo 4 (.move (.const (.gs 35 [])) true)])
 (.seq (.reg [oo 8 (.move (tq 0) false),
   oo 9 (.move (tq 1) false),
   oo 10 (.call 372 [((tq 8),2),((tq 9),2)] []),
   oo 5 (.move (tq 10) false)])
 (.seq (.seq (.reg [oo 11 (.move (tq 5) false),
   oo 12 (.bin .eql (tq 11) (.const (.sc (.int .i64 (-1)))))])
 (.cond (tq 12)
 (.seq (.reg [oo 13 (.move (tq 0) true),
   oo 4 (.move (tq 13) true)])
 .ret)
 .skip))
 (.seq (.seq (.reg [oo 14 (.move (tq 5) false),
   oo 15 (.bin .add (tq 14) (.const (.sc (.int .i64 1)))),
   oo 6 (.move (tq 15) false)])
 (.block 0 (.loop (bl 99 42) (bl 4397777813375 42)
 zeJ)))
 zfi))))⟩
def zcl:Hint:=⟨[(0,0),(1,2),(3,0),(3,1),(12,0),(12,3)],[],[none,none,none,some ((bl 99 42),(bl 4397777813375 42)),none,some ((bl 33 42),(bl 4397777813311 42)),none,none,none],[],[],false,false⟩
def zpp:Nat→Sh:=z6 []
def zph (xi:yE) (xu:z9) (L:Nat):CBC:=(xD 368 (zpb xu L) (xD 372 (zfM xi L) noC))
def znV:St→St:=xZ 3 (bl 99 42) (bl 4397777813375 42)
def zm1 (p0l:Nat) (p5 p6:Int) (b0:List V) (zBM:Int) (zBN:List (List V)):St:=⟨((V.own 0 0 p0l 35)::((V.fn 368 [(V.ptr 1 0),(V.ptr 2 0)])::(jn 3 ((V.sc (.int .i64 p5))::((V.sc (.int .i64 p6))::(jn 35 [])))))),((.live true b0)::((.live true [(V.sc (.int .u32 zBM))])::((.live false [(V.gs 32 zBN)])::(gn 42 []))))⟩
def zoe (p0l:Nat) (p5:Int) (b0:List V) (zBM:Int) (zBN:List (List V)):St:=⟨((V.own 0 0 p0l 35)::(jn 4 ((V.sc (.int .i64 p5))::(jn 36 [])))),((.live true b0)::((.live true [(V.sc (.int .u32 zBM))])::((.live false [(V.gs 32 zBN)])::(gn 42 []))))⟩
def zge {β:Type} (xi:yE) (xu:z9) (L:Nat) (p0l:Nat) (b0:List V) (zBM:Int) (zBN:List (List V)) (k_fin:Nat→List V→Int→List (List V)→Option β) (k_hbbbaba:Nat→Int→Int→List V→Int→List (List V)→Option β):Option β :=
 xi β L p0l b0 zBM zBN (fun v0 v1 v2 v3 =>
 chk ([(List.length v1),1,1]=[(List.length b0),1,1]) (
 ifb ((v0:Int) == (-1:Int)) (
 k_fin p0l v1 v2 v3) (
 lt (IntKind.wrap .i64 ((v0:Int)+(1:Int))) fun x4 =>
 k_hbbbaba p0l v0 x4 v1 v2 v3)))
def zeT {β:Type} (xi:yE) (xu:z9) (L:Nat) (p0l:Nat) (p5 p6:Int) (b0:List V) (zBM:Int) (zBN:List (List V)) (k_hbbbaba:Nat→Int→Int→List V→Int→List (List V)→Option β) (k_x0:Nat→Int→List V→Int→List (List V)→Option β):Option β :=
 ifb (decide (p6 < ((p0l:Nat):Int))) (
 chk (0≤p6∧p6 < ((p0l:Nat):Int)) (
 chk ((0+((Int.toNat p6) * 35))+35≤(List.length b0)) (
 chk ((List.length (List.take 35 (List.drop (0+((Int.toNat p6) * 35)) b0)))=35∧0+35≤35) (
 lt (za (List.replicate 32 (V.sc (.int .u8 (0:Int)))++[(V.sc (.int .i64 (0:Int))),(V.sc (.int .i64 (0:Int))),(V.sc (.int .u32 (0:Int)))]) 0 (List.take 35 (List.drop (0+((Int.toNat p6) * 35)) b0))) fun r5 =>
 chk (0+35≤(List.length r5)) (
 xu β L (List.take 35 r5) zBM zBN (fun v6 v7 v8 =>
 ifb (!v6) (
 chk (0+35≤(List.length r5)) (
 chk (0≤p5∧p5 < ((p0l:Nat):Int)) (
 chk ((List.length (List.take 35 r5))=35∧(0+((Int.toNat p5) * 35))+35≤(List.length b0)) (
 lt (za b0 (0+((Int.toNat p5) * 35)) (List.take 35 r5)) fun r9 =>
 lt (IntKind.wrap .i64 ((p5:Int)+(1:Int))) fun x10 =>
 lt (IntKind.wrap .i64 ((p6:Int)+(1:Int))) fun x11 =>
 k_hbbbaba p0l x10 x11 r9 v7 v8)))) (
 lt (IntKind.wrap .i64 ((p6:Int)+(1:Int))) fun x12 =>
 k_hbbbaba p0l p5 x12 b0 v7 v8))))))) (
 k_x0 p0l p5 b0 zBM zBN)
def zel {β:Type} (xi:yE) (xu:z9) (L:Nat) (p0l:Nat) (p5:Int) (b0:List V) (zBM:Int) (zBN:List (List V)) (k_fin:Nat→List V→Int→List (List V)→Option β):Option β :=
 chk (0≤p5∧p5≤((p0l:Nat):Int)) (
 lt (za b0 (0+((Int.toNat p5) * 35)) (List.flatten (List.replicate (p0l - (Int.toNat p5)) (List.replicate 32 (V.sc (.int .u8 (0:Int)))++[(V.sc (.int .i64 (0:Int))),(V.sc (.int .i64 (0:Int))),(V.sc (.int .u32 (0:Int)))])))) fun r13 =>
 chk (0≤p5∧p5≤((p0l:Nat):Int)) (
 k_fin ((Int.toNat p5) - 0) r13 zBM zBN))
def zbY {β:Type} (xi:yE) (xu:z9) (L:Nat) (k_x0:Nat→Int→List V→Int→List (List V)→Option β):Nat→Nat→Int→Int→List V→Int→List (List V)→Option β
 | 0,_,_,_,_,_,_=>none
 | n+1,p0l,p5,p6,b0,zBM,zBN=>zeT xi xu L p0l p5 p6 b0 zBM zBN (fun p0l p5 p6 b0 zBM zBN=>zbY xi xu L k_x0 n p0l p5 p6 b0 zBM zBN) k_x0
def zgk {β:Type} (xi:yE) (xu:z9) (L:Nat) (p0l:Nat) (b0:List V) (zBM:Int) (zBN:List (List V)) (k_fin:Nat→List V→Int→List (List V)→Option β):Option β :=
 zge xi xu L p0l b0 zBM zBN k_fin (fun p0l p5 p6 b0 zBM zBN=>zbY xi xu L (fun p0l p5 b0 zBM zBN=>zel xi xu L p0l p5 b0 zBM zBN k_fin) L p0l p5 p6 b0 zBM zBN)
abbrev zbc:=∀ (β:Type),Nat→Nat→List V→Int→List (List V)→(Nat→List V→Int→List (List V)→Option β)→Option β
def xG (β:Type) (L:Nat) (p0l:Nat) (b0:List V) (zBM:Int) (zBN:List (List V)) (k_fin:Nat→List V→Int→List (List V)→Option β):Option β:=zgk xi xu L p0l b0 zBM zBN k_fin
def zgi (xG:zbc) (L:Nat) (β:Type) (args:List V) (bor:Bor) (k:KK β):Option β:=match args,bor with
 | [a0,a1],[(.live true b0),(.live true [w1_0]),(.live false [w2_0])]=>aO0 0 35 a0 fun p0l=>aF 368 [(1,0),(2,0)] a1 (aI .u32 w1_0 fun zBM=>aGs 32 w2_0 fun zBN=>xG β L p0l b0 zBM zBN (fun p0l b0 zBM zBN=>k (V.own 0 0 p0l 35) [(.live true b0),(.live true [(V.sc (.int .u32 zBM))]),(.live false [(V.gs 32 zBN)])]))
 | _,_=>none
def zp0:CF:=⟨22,[.cellS 4 5 true,.tmpP 5],
 (.seq (.reg [oo 2 (.box false (tq 0)),
   oo 3 (.box true (tq 1)),
   oo 4 (.alloc false [(.sc (.int .u32 0)),(.sc (.bool false)),(.gs 1 []),(.gs 35 []),(.gs 32 [])]),
   oo 5 (.move (.const (.gs 32 [])) true)])
 (.seq (.reg [oo 8 (.load true 5 (tq 2) false),
   oo 9 (.call 356 [((tq 8),1)] []),
   oo 6 (.move (tq 9) false)])
 (.seq (.reg [oo 10 (.load true 5 (tq 2) false),
   oo 11 (.call 358 [((tq 10),1)] [13,15,19]),
   oz (.store 5 (tq 2) (tq 11))])
 (.seq (.seq (.reg [oo 12 (.move (tq 6) false),
   oo 13 (.un .not (tq 12))])
 (.cond (tq 13)
 (.seq (.reg [oo 14 (.load true 5 (tq 2) true),
   oz (.store 5 (tq 4) (tq 14)),
   oo 5 (.move (.const (.gs 32 [])) true)])
 .ret)
 .skip))
 (.seq (.reg [oo 7 (.alloc false [(.gs 32 [])])])
 (.seq (.reg [oo 15 (.fieldAddr 3 (tq 2)),
   oo 16 (.load false 1 (tq 15) false),
   oo 17 (.makeFunc 368 [(tq 3),(tq 7)]),
   oo 18 (.call 367 [((tq 16),2),((tq 17),2)] []),
   oo 19 (.fieldAddr 3 (tq 2)),
   oz (.store 1 (tq 19) (tq 18))])
 (.seq (.dreg [] [(oo 20 (.load true 5 (tq 2) true),ql 2 [7] []),
   (oo 21 (.load false 1 (tq 7) false),ql 7 [2,4] []),
   (oz (.store 5 (tq 4) (tq 20)),ql 4 [7] []),
   (oo 5 (.move (tq 21) true),q0)])
 .ret)))))))⟩
def zod:Hint:=⟨[(0,3),(4,0),(4,2),(6,3),(7,0),(7,3)],[],[none,none,none],[],[(2,1,[13,15,19])],true,true⟩
def zAE:Nat→Sh:=z6 [(2,(.row [(.int .u32),.bool,(.sl 1),(.sl 35),(.sl 32)]))]
def zAk (zB:zcD) (zu:zcf) (xG:zbc) (L:Nat):CBC:=(xD 367 (zgi xG L) (xD 358 (zdW zu L) (xD 356 (zev zB L) noC)))
def zv0 {β:Type} (zB:zcD) (zu:zcf) (xG:zbc) (L:Nat) (p0:List V) (p1:Int) (k_fin:List V→List (List V)→Option β) (k_finv1:List V→List (List V)→Option β):Option β :=
 chk (List.length p0=5) (
 cI .u32 p0 0 fun v0 =>
 cB p0 1 fun v1 =>
 cL 1 p0 2 fun v2 =>
 cL 35 p0 3 fun v3 =>
 cL 32 p0 4 fun v4 =>
 zB β L [(V.sc (.int .u32 v0)),(V.sc (.bool v1)),(V.sl 1 v2),(V.sl 35 v3),(V.sl 32 v4)] (fun v5 =>
 zu β L [(V.sc (.int .u32 v0)),(V.sc (.bool v1)),(V.sl 1 v2),(V.sl 35 v3),(V.sl 32 v4)] (fun v6 v7 v8 v9 v10 v11 v12 v13 =>
 ifb (!v5) (
 k_fin [(V.sc (.int .u32 v6)),(V.sc (.bool v7)),(V.sl 1 (zc 1 v8 v11)),(V.sl 35 (zc 35 v9 v12)),(V.sl 32 (zc 32 v10 v13))] ([]:List (List V))) (
 xG β L v9 v12 p1 ([]:List (List V)) (fun v14 v15 v16 v17 =>
 chk ([(List.length v15),1,1]=[(List.length v12),1,1]) (
 k_finv1 [(V.sc (.int .u32 v6)),(V.sc (.bool v7)),(V.sl 1 (zc 1 v8 v11)),(V.sl 35 (zc 35 v14 v15)),(V.sl 32 (zc 32 v10 v13))] v17))))))
abbrev zy:=∀ (β:Type),Nat→List V→Int→(List V→List (List V)→Option β)→(List V→List (List V)→Option β)→Option β
def xg (β:Type) (L:Nat) (p0:List V) (p1:Int) (k_fin:List V→List (List V)→Option β) (k_finv1:List V→List (List V)→Option β):Option β:=zv0 zB zu xG L p0 p1 k_fin k_finv1
def zra (xg:zy) (L:Nat) (β:Type) (args:List V) (bor:Bor) (k:KK β):Option β:=match args,bor with
 | [a0,a1],[]=>aG a0 fun p0=>aI .u32 a1 fun p1=>xg β L p0 p1 (fun zBO zBP=>k (V.tup [(V.agg zBO),(V.gs 32 zBP)]) []) (fun zBO zBP=>k (V.tup [(V.agg zBO),(V.sl 32 zBP)]) [])
 | _,_=>none
def zoO:CC:=(.seq (.seq (.reg [oo 16 (.move (tq 8) false),
   oo 17 (.fieldAddr 3 (tq 2)),
   oo 18 (.load false 1 (tq 17) false),
   oo 19 (.lenS (tq 18)),
   oo 20 (.bin .lss (tq 16) (tq 19))])
 (.cond (tq 20)
 .skip
 (.seq (.mask (bl 208 52) (bl 4080562528059131 52))
 (.exit 0))))
 (.seq (.block 1 (.seq (.reg [oo 23 (.fieldAddr 3 (tq 2)),
   oo 24 (.load false 1 (tq 23) false),
   oo 25 (.move (tq 8) false),
   oo 26 (.indexAddrS 35 (tq 24) (tq 25)),
   oo 27 (.fieldAddr 34 (tq 26)),
   oo 28 (.load false 1 (tq 27) false),
   oo 29 (.move (tq 1) false),
   oo 30 (.bin .leq (tq 28) (tq 29))])
 (.cond (tq 30)
 (.reg [oo 31 (.move (tq 7) true),
   oo 32 (.fieldAddr 3 (tq 2)),
   oo 33 (.load false 1 (tq 32) false),
   oo 34 (.move (tq 8) false),
   oo 35 (.indexAddrS 35 (tq 33) (tq 34)),
   oo 36 (.fieldAddr 0 (tq 35)),
   oo 37 (.load true 32 (tq 36) false),
   oo 38 (.buildSlice 32 1 (rp 32 (.sc (.int .u8 0)) []) [(0,32,(tq 37))]),
   oo 39 (.append 32 32 (tq 31) (tq 38)),
   oo 7 (.move (tq 39) true)])
 (.dreg [] [(oo 40 (.fieldAddr 3 (tq 6)),q0),
   (oo 41 (.load false 1 (tq 40) true),ql 6 [2] [47]),
   (oo 42 (.fieldAddr 3 (tq 2)),q0),
   (oo 43 (.load false 1 (tq 42) false),ql 2 [6] []),
   (oo 44 (.move (tq 8) false),q0),
   (oo 45 (.indexAddrS 35 (tq 43) (tq 44)),q0),
   (oo 46 (.load true 35 (tq 45) false),qc [6] []),
   (oo 47 (.buildSlice 35 1 (rp 32 (.sc (.int .u8 0)) (rp 2 (.sc (.int .i64 0)) (rp 1 (.sc (.int .u32 0)) []))) [(0,35,(tq 46))]),qn [6] []),
   (oo 48 (.append 35 56 (tq 41) (tq 47)),q0),
   (oo 49 (.fieldAddr 3 (tq 6)),q0),
   (oz (.store 1 (tq 49) (tq 48)),q0)]))))
 (.reg [oo 21 (.move (tq 8) false),
   oo 22 (.bin .add (tq 21) (.const (.sc (.int .i64 1)))),
   oo 8 (.move (tq 22) false)])))
def zq0:CC:=(.seq (.reg [oo 50 (.load true 5 (tq 6) true),
   oo 51 (.move (tq 7) true),
   oz (.store 5 (tq 4) (tq 50)),
   oo 5 (.move (tq 51) true)])
 .ret)
def zpP:CF:=⟨52,[.cellS 4 5 true,.tmpP 5],
 (.seq (.reg [oo 2 (.box true (tq 0)),
   oo 4 (.alloc false [(.sc (.int .u32 0)),(.sc (.bool false)),(.gs 1 []),(.gs 35 []),(.gs 32 [])]),
   oo 5 (.move (.const (.gs 32 [])) true)])
 (.seq (.reg [oo 9 (.load true 5 (tq 2) false),
   oo 10 (.call 355 [((tq 9),1)] [13,15,17]),
   oo 6 (.alloc false [(.sc (.int .u32 0)),(.sc (.bool false)),(.gs 1 []),(.gs 35 []),(.gs 32 [])]),
   oz (.store 5 (tq 6) (tq 10))])
 (.seq (.seq (.reg [oo 11 (.load true 5 (tq 2) false),
   oo 12 (.call 362 [((tq 11),1)] []),
   oo 13 (.un .not (tq 12))])
 (.cond (tq 13)
 (.seq (.reg [oo 14 (.load true 5 (tq 6) true),
   oz (.store 5 (tq 4) (tq 14)),
   oo 5 (.move (.const (.gs 32 [])) true)])
 .ret)
 .skip))
 (.seq (.reg [oo 7 (.move (.const (.gs 32 [])) true)])
 (.seq (.reg [oo 15 (.fieldAddr 3 (tq 6)),
   oz (.store 1 (tq 15) (.const (.gs 35 [])))])
 (.seq (.seq (.reg [oo 8 (.move (.const (.sc (.int .i64 0))) false)])
 (.block 0 (.loop (bl 470 52) (bl 4080562528059391 52)
 zoO)))
 zq0))))))⟩
def zoC:Hint:=⟨[(0,0),(0,2),(3,0),(3,2),(4,0),(10,0),(10,9),(11,1),(12,0),(12,1),(12,3)],[],[none,none,none,some ((bl 470 52),(bl 4080562528059391 52)),none,some ((bl 208 52),(bl 4080562528059131 52)),none,none,none],[],[(1,1,[13,15,17])],true,true⟩
def zAc:Nat→Sh:=z6 [(18,(.sl 35)),(24,(.sl 35)),(28,(.int .u32)),(33,(.sl 35)),(43,(.sl 35))]
def zAw (yj:zU) (yq:zaF) (L:Nat):CBC:=(xD 362 (zet yq L) (xD 355 (zcZ yj L) noC))
def zxz:St→St:=xZ 0 (bl 470 52) (bl 4080562528059391 52)
def zwh (p1:Int) (p7:List (List V)) (p8:Int) (b2:List V) (zBB:Int) (zBC:Bool) (zBy zBz zBA:List (List V)) (zBU:Int) (zBV:Bool) (zBQ:Nat) (zBS:List (List V)) (zBR:Nat) (b13 b15 b17:List V):St:=⟨(jn 1 ((V.sc (.int .u32 p1))::((V.ptr 2 0)::(jn 1 ((V.ptr 4 0)::(jn 1 ((V.ptr 6 0)::((V.gs 32 p7)::((V.sc (.int .i64 p8))::(jn 43 [])))))))))),(gn 2 ((.live true b2)::(gn 1 ((.live false [(V.sc (.int .u32 zBB)),(V.sc (.bool zBC)),(V.gs 1 zBy),(V.gs 35 zBz),(V.gs 32 zBA)])::(gn 1 ((.live false [(V.sc (.int .u32 zBU)),(V.sc (.bool zBV)),(V.own 13 0 zBQ 1),(V.gs 35 zBS),(V.own 17 0 zBR 32)])::(gn 6 ((.live true b13)::(gn 1 ((.live true b15)::(gn 1 ((.live true b17)::(gn 34 [])))))))))))))⟩
def zzf (p7:List (List V)) (zBB:Int) (zBC:Bool) (zBy zBz zBA:List (List V)) (zBU:Int) (zBV:Bool) (zBQ:Nat) (zBS:List (List V)) (zBR:Nat) (b13 b15 b17:List V):St:=⟨(jn 4 ((V.ptr 4 0)::(jn 1 ((V.ptr 6 0)::((V.gs 32 p7)::(jn 44 [])))))),(gn 4 ((.live false [(V.sc (.int .u32 zBB)),(V.sc (.bool zBC)),(V.gs 1 zBy),(V.gs 35 zBz),(V.gs 32 zBA)])::(gn 1 ((.live false [(V.sc (.int .u32 zBU)),(V.sc (.bool zBV)),(V.own 13 0 zBQ 1),(V.gs 35 zBS),(V.own 17 0 zBR 32)])::(gn 6 ((.live true b13)::(gn 1 ((.live true b15)::(gn 1 ((.live true b17)::(gn 34 [])))))))))))⟩
abbrev zjP (β:Type):Type:=Int→List (List V)→Int→List V→Int→Bool→List (List V)→List (List V)→List (List V)→Int→Bool→Nat→List (List V)→Nat→List V→List V→List V→Option β
abbrev zpf (β:Type):Type:=List (List V)→Int→Bool→List (List V)→List (List V)→List (List V)→Int→Bool→Nat→List (List V)→Nat→List V→List V→List V→Option β
def zv4 {β:Type} (yj:zU) (yq:zaF) (L:Nat) (p0:List V) (p1:Int) (k_fin:List V→List (List V)→Option β) (k_hbbbbbaba:zjP β):Option β :=
 chk (0+5≤(List.length p0)) (
 yj β L (List.map V.dem (List.take 5 p0)) (fun v0 v1 v2 v3 v4 v5 v6 v7 =>
 chk (0+5≤(List.length p0)) (
 yq β L (List.map V.dem (List.take 5 p0)) (fun v8 =>
 ifb (!v8) (
 k_fin [(V.sc (.int .u32 v0)),(V.sc (.bool v1)),(V.sl 1 (zc 1 v2 v5)),(V.sl 35 (zc 35 v3 v6)),(V.sl 32 (zc 32 v4 v7))] ([]:List (List V))) (
 k_hbbbbbaba p1 ([]:List (List V)) (0:Int) p0 (0:Int) false ([]:List (List V)) ([]:List (List V)) ([]:List (List V)) v0 v1 v2 ([]:List (List V)) v4 v5 v6 v7)))))
def zpw {β:Type} (yj:zU) (yq:zaF) (L:Nat) (p1:Int) (p7:List (List V)) (p8:Int) (b2:List V) (zBB:Int) (zBC:Bool) (zBy zBz zBA:List (List V)) (zBU:Int) (zBV:Bool) (zBQ:Nat) (zBS:List (List V)) (zBR:Nat) (b13 b15 b17:List V) (k_hbbbbbaba:zjP β) (k_x0:zpf β):Option β :=
 cLd 35 b2 3 fun v9 =>
 ifb (decide (p8 < ((List.length v9:Nat):Int))) (
 cLd 35 b2 3 fun v10 =>
 idx v10 p8 fun c11 =>
 cI .u32 (List.drop 34 c11) 0 fun v12 =>
 ifb (decide (v12≤p1)) (
 cLd 35 b2 3 fun v13 =>
 idx v13 p8 fun c14 =>
 chk ((List.length (List.take 32 c14))=32∧0+32≤32) (
 chk ((List.length p7+List.length (zc 32 1 (za (List.replicate 32 (V.sc (.int .u8 (0:Int)))) 0 (List.take 32 c14)))) * 32≤xh∧List.length p7+List.length (zc 32 1 (za (List.replicate 32 (V.sc (.int .u8 (0:Int)))) 0 (List.take 32 c14)))≤xh) (
 lt (p7++(zc 32 1 (za (List.replicate 32 (V.sc (.int .u8 (0:Int)))) 0 (List.take 32 c14)))) fun l15 =>
 lt (IntKind.wrap .i64 ((p8:Int)+(1:Int))) fun x16 =>
 k_hbbbbbaba p1 l15 x16 b2 zBB zBC zBy zBz zBA zBU zBV zBQ zBS zBR b13 b15 b17))) (
 cLd 35 b2 3 fun v17 =>
 idx v17 p8 fun c18 =>
 chk ((List.length (List.take 35 c18))=35∧0+35≤35) (
 chk ((List.length zBS+List.length (zc 35 1 (za (List.replicate 32 (V.sc (.int .u8 (0:Int)))++[(V.sc (.int .i64 (0:Int))),(V.sc (.int .i64 (0:Int))),(V.sc (.int .u32 (0:Int)))]) 0 (List.take 35 c18)))) * 56≤xh∧List.length zBS+List.length (zc 35 1 (za (List.replicate 32 (V.sc (.int .u8 (0:Int)))++[(V.sc (.int .i64 (0:Int))),(V.sc (.int .i64 (0:Int))),(V.sc (.int .u32 (0:Int)))]) 0 (List.take 35 c18)))≤xh) (
 lt (zBS++(zc 35 1 (za (List.replicate 32 (V.sc (.int .u8 (0:Int)))++[(V.sc (.int .i64 (0:Int))),(V.sc (.int .i64 (0:Int))),(V.sc (.int .u32 (0:Int)))]) 0 (List.take 35 c18)))) fun l19 =>
 lt (IntKind.wrap .i64 ((p8:Int)+(1:Int))) fun x20 =>
 k_hbbbbbaba p1 p7 x20 b2 zBB zBC zBy zBz zBA zBU zBV zBQ l19 zBR b13 b15 b17)))) (
 k_x0 p7 zBB zBC zBy zBz zBA zBU zBV zBQ zBS zBR b13 b15 b17)
def zox {β:Type} (yj:zU) (yq:zaF) (L:Nat) (p7:List (List V)) (zBB:Int) (zBC:Bool) (zBy zBz zBA:List (List V)) (zBU:Int) (zBV:Bool) (zBQ:Nat) (zBS:List (List V)) (zBR:Nat) (b13 b15 b17:List V) (k_fin:List V→List (List V)→Option β):Option β :=
 k_fin [(V.sc (.int .u32 zBU)),(V.sc (.bool zBV)),(V.sl 1 (zc 1 zBQ b13)),(V.sl 35 zBS),(V.sl 32 (zc 32 zBR b17))] p7
def zkf {β:Type} (yj:zU) (yq:zaF) (L:Nat) (k_x0:zpf β):Nat→Int→List (List V)→Int→List V→Int→Bool→List (List V)→List (List V)→List (List V)→Int→Bool→Nat→List (List V)→Nat→List V→List V→List V→Option β
 | 0,_,_,_,_,_,_,_,_,_,_,_,_,_,_,_,_,_=>none
 | n+1,p1,p7,p8,b2,zBB,zBC,zBy,zBz,zBA,zBU,zBV,zBQ,zBS,zBR,b13,b15,b17=>zpw yj yq L p1 p7 p8 b2 zBB zBC zBy zBz zBA zBU zBV zBQ zBS zBR b13 b15 b17 (fun p1 p7 p8 b2 zBB zBC zBy zBz zBA zBU zBV zBQ zBS zBR b13 b15 b17=>zkf yj yq L k_x0 n p1 p7 p8 b2 zBB zBC zBy zBz zBA zBU zBV zBQ zBS zBR b13 b15 b17) k_x0
def zvZ {β:Type} (yj:zU) (yq:zaF) (L:Nat) (p0:List V) (p1:Int) (k_fin:List V→List (List V)→Option β):Option β :=
 zv4 yj yq L p0 p1 k_fin (fun p1 p7 p8 b2 zBB zBC zBy zBz zBA zBU zBV zBQ zBS zBR b13 b15 b17=>zkf yj yq L (fun p7 zBB zBC zBy zBz zBA zBU zBV zBQ zBS zBR b13 b15 b17=>zox yj yq L p7 zBB zBC zBy zBz zBA zBU zBV zBQ zBS zBR b13 b15 b17 k_fin) L p1 p7 p8 b2 zBB zBC zBy zBz zBA zBU zBV zBQ zBS zBR b13 b15 b17)
abbrev xY:=∀ (β:Type),Nat→List V→Int→(List V→List (List V)→Option β)→Option β
def zs (β:Type) (L:Nat) (p0:List V) (p1:Int) (k_fin:List V→List (List V)→Option β):Option β:=zvZ yj yq L p0 p1 k_fin
def zwb (zs:xY) (L:Nat) (β:Type) (args:List V) (bor:Bor) (k:KK β):Option β:=match args,bor with
 | [a0,a1],[]=>aG a0 fun p0=>aI .u32 a1 fun p1=>zs β L p0 p1 (fun zBO zBP=>k (V.tup [(V.agg zBO),(V.gs 32 zBP)]) [])
 | _,_=>none
def zho:CC:=(.seq (.reg [oo 50 (.bin .lss (tq 49) (tq 48))])
 (.seq (.cond (tq 50)
 .skip
 (.seq (.mask (bl 481036345428 108) (bl 324518553656032757336433918768127 108))
 (.exit 2)))
 (.seq (.block 3 (.seq (.reg [oo 51 (.indexAddrS 32 (tq 47) (tq 49)),
   oo 52 (.load true 32 (tq 51) false),
   oo 15 (.alloc true (rp 32 (.sc (.int .u8 0)) [])),
   oz (.store 32 (tq 15) (tq 52))])
 (.seq (.reg [oo 54 (.load true 5 (tq 13) false),
   oo 55 (.load true 32 (tq 15) false),
   oo 56 (.call 348 [((tq 54),1),((tq 55),0)] []),
   oo 53 (.move (tq 56) true),
   oo 57 (.pull (tq 53) 0),
   oo 58 (.pull (tq 53) 1),
   oo 16 (.alloc true [(.sc (.int .u32 0)),(.sc (.bool false)),(.gs 1 []),(.gs 35 []),(.gs 32 [])]),
   oz (.store 5 (tq 16) (tq 57)),
   oo 17 (.move (tq 58) false)])
 (.seq (.reg [oo 60 (.load true 5 (tq 13) false),
   oo 61 (.load true 32 (tq 15) false),
   oo 62 (.call 349 [((tq 60),1),((tq 61),0)] []),
   oo 59 (.move (tq 62) true),
   oo 63 (.pull (tq 59) 0),
   oo 64 (.pull (tq 59) 1),
   oo 18 (.alloc true [(.sc (.int .u32 0)),(.sc (.bool false)),(.gs 1 []),(.gs 35 []),(.gs 32 [])]),
   oz (.store 5 (tq 18) (tq 63)),
   oo 19 (.move (tq 64) false)])
 (.seq (.reg [oo 65 (.move (tq 17) false),
   oo 66 (.move (tq 19) false),
   oo 67 (.bin .neq (tq 65) (tq 66)),
   oo 68 (.move (tq 67) false),
   ⟨(some 69),false,(some (68,false)),.load true 5 (tq 16) false⟩,
   ⟨(some 70),false,(some (68,false)),.load true 5 (tq 18) false⟩,
   ⟨(some 71),false,(some (68,false)),.call 343 [((tq 69),1),((tq 70),1)] []⟩,
   ⟨(some 72),false,(some (68,false)),.un .not (tq 71)⟩,
   oo 73 (.pick (tq 68) (.const (.sc (.bool true))) (tq 72))])
 (.cond (tq 73)
 (.seq (.reg [oo 10 (.move (.const (.sc (.bool false))) false)])
 (.seq (.mask (bl 1024 108) (bl 313990027457721143620174653446079 108))
 .ret))
 .skip))))))
 (.reg [oo 74 (.bin .add (tq 49) (.const (.sc (.int .i64 1)))),
   oo 49 (.move (tq 74) false)]))))
def zhi:CC:=(.seq (.reg [oo 81 (.bin .lss (tq 80) (tq 79))])
 (.seq (.cond (tq 81)
 .skip
 (.seq (.mask (bl 481036337236 108) (bl 313990028366809478217673266058239 108))
 (.exit 4)))
 (.seq (.block 5 (.seq (.reg [oo 82 (.indexAddrS 1 (tq 78) (tq 80)),
   oo 83 (.load false 1 (tq 82) false),
   oo 21 (.move (tq 83) false)])
 (.seq (.reg [oo 85 (.load true 5 (tq 13) false),
   oo 86 (.move (tq 21) false),
   oo 87 (.call 350 [((tq 85),1),((tq 86),0)] []),
   oo 84 (.move (tq 87) true),
   oo 88 (.pull (tq 84) 0),
   oo 89 (.extract (tq 84) 1),
   oo 22 (.alloc true [(.sc (.int .u32 0)),(.sc (.bool false)),(.gs 1 []),(.gs 35 []),(.gs 32 [])]),
   oz (.store 5 (tq 22) (tq 88)),
   oo 23 (.move (tq 89) false)])
 (.seq (.reg [oo 91 (.load true 5 (tq 13) false),
   oo 92 (.move (tq 21) false),
   oo 93 (.call 351 [((tq 91),1),((tq 92),0)] []),
   oo 90 (.move (tq 93) true),
   oo 94 (.pull (tq 90) 0),
   oo 95 (.extract (tq 90) 1),
   oo 24 (.alloc true [(.sc (.int .u32 0)),(.sc (.bool false)),(.gs 1 []),(.gs 35 []),(.gs 32 [])]),
   oz (.store 5 (tq 24) (tq 94)),
   oo 25 (.move (tq 95) false)])
 (.seq (.reg [oo 96 (.load true 5 (tq 22) false),
   oo 97 (.load true 5 (tq 24) false),
   oo 98 (.call 343 [((tq 96),1),((tq 97),1)] []),
   oo 99 (.un .not (tq 98)),
   oo 100 (.move (tq 99) false),
   ⟨(some 101),false,(some (100,false)),.move (tq 23) false⟩,
   ⟨(some 102),false,(some (100,false)),.move (tq 25) false⟩,
   ⟨(some 103),false,(some (100,false)),.call 352 [((tq 101),0),((tq 102),0)] []⟩,
   ⟨(some 104),false,(some (100,false)),.un .not (tq 103)⟩,
   oo 105 (.pick (tq 100) (.const (.sc (.bool true))) (tq 104))])
 (.cond (tq 105)
 (.seq (.reg [oo 10 (.move (.const (.sc (.bool false))) false)])
 (.seq (.mask (bl 1024 108) (bl 313990027457721143620174653446079 108))
 .ret))
 .skip))))))
 (.reg [oo 106 (.bin .add (tq 80) (.const (.sc (.int .i64 1)))),
   oo 80 (.move (tq 106) false)]))))
def ziI:CC:=(.seq (.reg [oo 75 (.move (tq 2) false),
   oo 76 (.move (tq 2) false),
   oo 77 (.bin .rem (tq 76) (.const (.sc (.int .u32 60)))),
   oo 78 (.buildSlice 1 2 [(.sc (.int .u32 0))] [(0,1,(tq 75)),(1,1,(tq 77))]),
   oo 79 (.lenS (tq 78)),
   oo 80 (.move (.const (.sc (.int .i64 0))) false)])
 (.block 4 (.loop (bl 2115620184326082092081236 108) (bl 313990028366809478217673266066431 108)
 zhi)))
def zj4:CC:=(.reg [oo 107 (.bin .add (tq 38) (.const (.sc (.int .i64 1)))),
   oo 38 (.move (tq 107) false)])
def zlD:CC:=(.seq (.reg [oo 39 (.bin .lss (tq 38) (tq 37))])
 (.seq (.cond (tq 39)
 .skip
 (.seq (.mask (bl 0 108) (bl 313990027457721143620174653445055 108))
 (.exit 0)))
 (.seq (.block 1 (.seq (.reg [oo 40 (.indexAddrS 5 (tq 36) (tq 38)),
   oo 41 (.load true 5 (tq 40) false),
   oo 13 (.alloc true [(.sc (.int .u32 0)),(.sc (.bool false)),(.gs 1 []),(.gs 35 []),(.gs 32 [])]),
   oz (.store 5 (tq 13) (tq 41))])
 (.seq (.seq (.dreg [] [(oo 42 (.load true 32 (tq 6) false),ql 6 [] []),
   (oo 43 (.move (tq 4) false),q0),
   (oo 44 (.call 217 [((tq 43),0),((.const (.sc (.int .i64 10))),0)] []),qc [6] []),
   (oo 45 (.conv .u8 (tq 44)),q0),
   (oo 46 (.build (rp 32 (.sc (.int .u8 0)) []) [(0,1,(tq 45))]),q0),
   (oo 47 (.buildSlice 32 2 (rp 32 (.sc (.int .u8 0)) []) [(0,32,(tq 42)),(32,32,(tq 46))]),q0),
   (oo 48 (.lenS (tq 47)),q0),
   (oo 49 (.move (.const (.sc (.int .i64 0))) false),q0)])
 (.block 2 (.loop (bl 985643454832724 108) (bl 324518553656032757336433918768127 108)
 zho)))
 ziI)))
 zj4)))
def zm3:CC:=(.seq (.reg [oo 10 (.move (.const (.sc (.bool true))) false)])
 .ret)
def zju:CF:=⟨108,[.tmp 10],
 (.seq (.reg [oo 6 (.box true (tq 1)),
   oo 10 (.move (.const (.sc (.bool false))) false)])
 (.seq (.seq (.reg [oo 26 (.call 332 [] []),
   oo 27 (.un .not (tq 26))])
 (.cond (tq 27)
 (.seq (.reg [oo 10 (.move (.const (.sc (.bool false))) false)])
 .ret)
 .skip))
 (.seq (.reg [oo 28 (.move (tq 0) false),
   oo 29 (.call 225 [((tq 28),0)] []),
   oo 30 (.call 339 [((tq 29),0)] []),
   oo 11 (.alloc true [(.sc (.int .u32 0)),(.sc (.bool false)),(.gs 1 []),(.gs 35 []),(.gs 32 [])]),
   oz (.store 5 (tq 11) (tq 30))])
 (.seq (.seq (.dreg [] [(oo 31 (.load true 5 (tq 11) false),ql 11 [] []),
   (oo 32 (.load true 5 (tq 11) false),ql 11 [] []),
   (oo 33 (.move (tq 3) false),q0),
   (oo 34 (.move (tq 4) false),q0),
   (oo 35 (.call 340 [((tq 32),1),((tq 33),0),((tq 34),0)] []),qc [11] []),
   (oo 36 (.buildSlice 5 2 [(.sc (.int .u32 0)),(.sc (.bool false)),(.sl 1 []),(.sl 35 []),(.sl 32 [])] [(0,5,(tq 31)),(5,5,(tq 35))]),q0),
   (oo 37 (.lenS (tq 36)),q0),
   (oo 38 (.move (.const (.sc (.int .i64 0))) false),q0)])
 (.block 0 (.loop (bl 481036337236 108) (bl 313990027457721143620174653445119 108)
 zlD)))
 zm3))))⟩
def zid:Hint:=⟨[(3,3),(6,2),(10,3),(10,6),(11,3),(11,6),(18,3),(18,5),(18,6),(19,3),(19,5),(19,6)],[],[none,none,none,some ((bl 481036337236 108),(bl 313990027457721143620174653445119 108)),none,some ((bl 0 108),(bl 313990027457721143620174653445055 108)),none,none,some ((bl 985643454832724 108),(bl 324518553656032757336433918768127 108)),none,some ((bl 481036345428 108),(bl 324518553656032757336433918768127 108)),none,none,some ((bl 1024 108),(bl 313990027457721143620174653446079 108)),none,some ((bl 2115620184326082092081236 108),(bl 313990028366809478217673266066431 108)),none,some ((bl 481036337236 108),(bl 313990028366809478217673266058239 108)),none,none,some ((bl 1024 108),(bl 313990027457721143620174653446079 108)),none],[],[],false,false⟩
def zwQ:Nat→Sh:=z6 [(83,(.int .u32))]
def zxy (ya:yh) (xb:yi) (yd:zl) (xa:zj) (xd:zn) (zf:yr) (xo:xM) (yc:xk) (xg:zy) (zs:xY) (ye:yn) (L:Nat):CBC:=(xD 352 (zde ye L) (xD 351 (zwb zs L) (xD 350 (zra xg L) (xD 343 (zgS yc L) (xD 349 (zuD xo L) (xD 348 (zo9 zf L) (xD 217 (zfK xd L) (xD 340 (zfX xa L) (xD 339 (zgX yd L) (xD 225 (zhl xb L) (xD 332 (zfg ya L) noC)))))))))))
def zuZ:St→St:=xZ 0 (bl 481036337236 108) (bl 313990027457721143620174653445119 108)
def zq3:St→St:=xZ 0 (bl 985643454832724 108) (bl 324518553656032757336433918768127 108)
def zqQ:St→St:=xZ 0 (bl 2115620184326082092081236 108) (bl 313990028366809478217673266066431 108)
def ztD (p2 p4:Int) (p36:List (List V)) (p37 p38:Int) (b6:List V) (zBD:List (List V)) (zBE:Int):St:=⟨(jn 2 ((V.sc (.int .u32 p2))::(jn 1 ((V.sc (.int .i64 p4))::(jn 1 ((V.ptr 6 0)::(jn 29 ((V.gs 5 p36)::((V.sc (.int .i64 p37))::((V.sc (.int .i64 p38))::(jn 69 []))))))))))),(gn 6 ((.live true b6)::(gn 22 ((.live false [(V.sl 1 zBD),(V.sc (.int .i64 zBE))])::(gn 78 [])))))⟩
def zpF (p2 p4:Int) (p36:List (List V)) (p37 p38:Int) (p47:List (List V)) (p48 p49:Int) (b6 b13:List V) (zBD:List (List V)) (zBE:Int):St:=⟨(jn 2 ((V.sc (.int .u32 p2))::(jn 1 ((V.sc (.int .i64 p4))::(jn 1 ((V.ptr 6 0)::(jn 6 ((V.ptr 13 0)::(jn 22 ((V.gs 5 p36)::((V.sc (.int .i64 p37))::((V.sc (.int .i64 p38))::(jn 8 ((V.gs 32 p47)::((V.sc (.int .i64 p48))::((V.sc (.int .i64 p49))::(jn 58 []))))))))))))))))),(gn 6 ((.live true b6)::(gn 6 ((.live true b13)::(gn 15 ((.live false [(V.sl 1 zBD),(V.sc (.int .i64 zBE))])::(gn 78 [])))))))⟩
def zvU (zBD:List (List V)) (zBE:Int):St:=⟨(jn 108 []),(gn 29 ((.live false [(V.sl 1 zBD),(V.sc (.int .i64 zBE))])::(gn 78 [])))⟩
def zvy (p10:Bool) (zBD:List (List V)) (zBE:Int):St:=⟨(jn 10 ((V.sc (.bool p10))::(jn 97 []))),(gn 29 ((.live false [(V.sl 1 zBD),(V.sc (.int .i64 zBE))])::(gn 78 [])))⟩
def zvV (p2 p4:Int) (p36:List (List V)) (p37 p38:Int) (b6 b13:List V) (zBD:List (List V)) (zBE:Int):St:=⟨(jn 2 ((V.sc (.int .u32 p2))::(jn 1 ((V.sc (.int .i64 p4))::(jn 1 ((V.ptr 6 0)::(jn 6 ((V.ptr 13 0)::(jn 22 ((V.gs 5 p36)::((V.sc (.int .i64 p37))::((V.sc (.int .i64 p38))::(jn 69 []))))))))))))),(gn 6 ((.live true b6)::(gn 6 ((.live true b13)::(gn 15 ((.live false [(V.sl 1 zBD),(V.sc (.int .i64 zBE))])::(gn 78 [])))))))⟩
def zpG (p2 p4:Int) (p36:List (List V)) (p37 p38:Int) (p78:List (List V)) (p79 p80:Int) (b6 b13:List V) (zBD:List (List V)) (zBE:Int):St:=⟨(jn 2 ((V.sc (.int .u32 p2))::(jn 1 ((V.sc (.int .i64 p4))::(jn 1 ((V.ptr 6 0)::(jn 6 ((V.ptr 13 0)::(jn 22 ((V.gs 5 p36)::((V.sc (.int .i64 p37))::((V.sc (.int .i64 p38))::(jn 39 ((V.gs 1 p78)::((V.sc (.int .i64 p79))::((V.sc (.int .i64 p80))::(jn 27 []))))))))))))))))),(gn 6 ((.live true b6)::(gn 6 ((.live true b13)::(gn 15 ((.live false [(V.sl 1 zBD),(V.sc (.int .i64 zBE))])::(gn 78 [])))))))⟩
def zvW (p2 p4:Int) (p36:List (List V)) (p37 p38:Int) (b6:List V) (zBD:List (List V)) (zBE:Int):St:=⟨(jn 2 ((V.sc (.int .u32 p2))::(jn 1 ((V.sc (.int .i64 p4))::(jn 1 ((V.ptr 6 0)::(jn 29 ((V.gs 5 p36)::((V.sc (.int .i64 p37))::((V.sc (.int .i64 p38))::(jn 69 []))))))))))),(gn 6 ((.live true b6)::(gn 22 ((.live false [(V.sl 1 zBD),(V.sc (.int .i64 zBE))])::(gn 78 [])))))⟩
abbrev zb5 (β:Type):Type:=Int→Int→List (List V)→Int→Int→List V→List (List V)→Int→Option β
abbrev zdk (β:Type):Type:=Int→Int→List (List V)→Int→Int→List (List V)→Int→Int→List V→List V→List (List V)→Int→Option β
abbrev ziL (β:Type):Type:=Int→Int→List (List V)→Int→Int→List V→List V→List (List V)→Int→Option β
abbrev zdw (β:Type):Type:=Int→Int→List (List V)→Int→Int→List (List V)→Int→Int→List V→List V→List (List V)→Int→Option β
abbrev ziT (β:Type):Type:=Int→Int→List (List V)→Int→Int→List V→List (List V)→Int→Option β
def zpr {β:Type} (ya:yh) (xb:yi) (yd:zl) (xa:zj) (xd:zn) (zf:yr) (xo:xM) (yc:xk) (xg:zy) (zs:xY) (ye:yn) (L:Nat) (p0:List (List V)) (p1:List V) (p2 p3 p4:Int) (k_fin:Bool→Option β) (k_hbbbaba:zb5 β):Option β :=
 ya β L  (fun v0 =>
 ifb (!v0) (
 k_fin false) (
 xb β L p0 (fun v1 v2 =>
 yd β L v1 v2 (fun v3 v4 v5 =>
 chk ((List.length v3)=5∧0+5≤5) (
 lt (za [(V.sc (.int .u32 (0:Int))),(V.sc (.bool false)),(V.gs 1 ([]:List (List V))),(V.gs 35 ([]:List (List V))),(V.gs 32 ([]:List (List V)))] 0 v3) fun r6 =>
 chk (0+5≤(List.length r6)) (
 chk (0+5≤(List.length r6)) (
 xa β L (List.map V.dem (List.take 5 r6)) p3 p4 (fun v7 =>
 chk ((List.length (List.take 5 r6))=5∧0+5≤10) (
 chk ((List.length v7)=5∧5+5≤(List.length (za [(V.sc (.int .u32 (0:Int))),(V.sc (.bool false)),(V.sl 1 ([]:List (List V))),(V.sl 35 ([]:List (List V))),(V.sl 32 ([]:List (List V))),(V.sc (.int .u32 (0:Int))),(V.sc (.bool false)),(V.sl 1 ([]:List (List V))),(V.sl 35 ([]:List (List V))),(V.sl 32 ([]:List (List V)))] 0 (List.take 5 r6)))) (
 k_hbbbaba p2 p4 (zc 5 2 (za (za [(V.sc (.int .u32 (0:Int))),(V.sc (.bool false)),(V.sl 1 ([]:List (List V))),(V.sl 35 ([]:List (List V))),(V.sl 32 ([]:List (List V))),(V.sc (.int .u32 (0:Int))),(V.sc (.bool false)),(V.sl 1 ([]:List (List V))),(V.sl 35 ([]:List (List V))),(V.sl 32 ([]:List (List V)))] 0 (List.take 5 r6)) 5 v7)) ((List.length (zc 5 2 (za (za [(V.sc (.int .u32 (0:Int))),(V.sc (.bool false)),(V.sl 1 ([]:List (List V))),(V.sl 35 ([]:List (List V))),(V.sl 32 ([]:List (List V))),(V.sc (.int .u32 (0:Int))),(V.sc (.bool false)),(V.sl 1 ([]:List (List V))),(V.sl 35 ([]:List (List V))),(V.sl 32 ([]:List (List V)))] 0 (List.take 5 r6)) 5 v7)):Nat):Int) (0:Int) p1 v4 v5))))))))))
def zl7 {β:Type} (ya:yh) (xb:yi) (yd:zl) (xa:zj) (xd:zn) (zf:yr) (xo:xM) (yc:xk) (xg:zy) (zs:xY) (ye:yn) (L:Nat) (p2 p4:Int) (p36:List (List V)) (p37 p38:Int) (b6:List V) (zBD:List (List V)) (zBE:Int) (k_hbbbabaabbaababa:zdk β) (k_x0:List (List V)→Int→Option β):Option β :=
 ifb (decide (p38 < p37)) (
 idx p36 p38 fun c8 =>
 chk ((List.length (List.take 5 c8))=5∧0+5≤5) (
 lt (za [(V.sc (.int .u32 (0:Int))),(V.sc (.bool false)),(V.gs 1 ([]:List (List V))),(V.gs 35 ([]:List (List V))),(V.gs 32 ([]:List (List V)))] 0 (List.take 5 c8)) fun r9 =>
 chk (0+32≤(List.length b6)) (
 xd β L p4 (10:Int) (fun v10 =>
 lt (IntKind.wrap .u8 v10) fun x11 =>
 chk ((List.length (List.take 32 b6))=32∧0+32≤64) (
 chk (32=32∧32+32≤(List.length (za (List.replicate 64 (V.sc (.int .u8 (0:Int)))) 0 (List.take 32 b6)))) (
 k_hbbbabaabbaababa p2 p4 p36 p37 p38 (zc 32 2 (za (za (List.replicate 64 (V.sc (.int .u8 (0:Int)))) 0 (List.take 32 b6)) 32 ([(V.sc (.int .u8 x11))]++List.replicate 31 (V.sc (.int .u8 (0:Int)))))) ((List.length (zc 32 2 (za (za (List.replicate 64 (V.sc (.int .u8 (0:Int)))) 0 (List.take 32 b6)) 32 ([(V.sc (.int .u8 x11))]++List.replicate 31 (V.sc (.int .u8 (0:Int)))))):Nat):Int) (0:Int) b6 r9 zBD zBE)))))) (
 k_x0 zBD zBE)
def zlf {β:Type} (ya:yh) (xb:yi) (yd:zl) (xa:zj) (xd:zn) (zf:yr) (xo:xM) (yc:xk) (xg:zy) (zs:xY) (ye:yn) (L:Nat) (zBD:List (List V)) (zBE:Int) (k_fin:Bool→Option β):Option β :=
 k_fin true
def zhP {β:Type} (ya:yh) (xb:yi) (yd:zl) (xa:zj) (xd:zn) (zf:yr) (xo:xM) (yc:xk) (xg:zy) (zs:xY) (ye:yn) (L:Nat) (p2 p4:Int) (p36:List (List V)) (p37 p38:Int) (p47:List (List V)) (p48 p49:Int) (b6 b13:List V) (zBD:List (List V)) (zBE:Int) (k_ret:Bool→List (List V)→Int→Option β) (k_hbbbabaabbaababa:zdk β) (k_x2:ziL β):Option β :=
 ifb (decide (p49 < p48)) (
 idx p47 p49 fun c12 =>
 chk ((List.length (List.take 32 c12))=32∧0+32≤32) (
 lt (za (List.replicate 32 (V.sc (.int .u8 (0:Int)))) 0 (List.take 32 c12)) fun r13 =>
 chk (0+5≤(List.length b13)) (
 chk (0+32≤(List.length r13)) (
 zf β L (List.map V.dem (List.take 5 b13)) (List.take 32 r13) (fun v14 v15 =>
 chk ((List.length v14)=5∧0+5≤5) (
 lt (za [(V.sc (.int .u32 (0:Int))),(V.sc (.bool false)),(V.gs 1 ([]:List (List V))),(V.gs 35 ([]:List (List V))),(V.gs 32 ([]:List (List V)))] 0 v14) fun r16 =>
 chk (0+5≤(List.length b13)) (
 chk (0+32≤(List.length r13)) (
 xo β L (List.map V.dem (List.take 5 b13)) (List.take 32 r13) (fun v17 v18 =>
 chk ((List.length v17)=5∧0+5≤5) (
 lt (za [(V.sc (.int .u32 (0:Int))),(V.sc (.bool false)),(V.gs 1 ([]:List (List V))),(V.gs 35 ([]:List (List V))),(V.gs 32 ([]:List (List V)))] 0 v17) fun r19 =>
 ifb ((v15:Int) != v18) (
 k_ret false zBD zBE) (
 chk (0+5≤(List.length r16)) (
 chk (0+5≤(List.length r19)) (
 yc β L (List.map V.dem (List.take 5 r16)) (List.map V.dem (List.take 5 r19)) (fun v20 =>
 ifb (!v20) (
 k_ret false zBD zBE) (
 lt (IntKind.wrap .i64 ((p49:Int)+(1:Int))) fun x21 =>
 k_hbbbabaabbaababa p2 p4 p36 p37 p38 p47 p48 x21 b6 b13 zBD zBE))))))))))))))) (
 k_x2 p2 p4 p36 p37 p38 b6 b13 zBD zBE)
def zgE {β:Type} (ya:yh) (xb:yi) (yd:zl) (xa:zj) (xd:zn) (zf:yr) (xo:xM) (yc:xk) (xg:zy) (zs:xY) (ye:yn) (L:Nat) (p10:Bool) (zBD:List (List V)) (zBE:Int) (k_ret:Bool→List (List V)→Int→Option β):Option β :=
 k_ret p10 zBD zBE
def zgP {β:Type} (ya:yh) (xb:yi) (yd:zl) (xa:zj) (xd:zn) (zf:yr) (xo:xM) (yc:xk) (xg:zy) (zs:xY) (ye:yn) (L:Nat) (p2 p4:Int) (p36:List (List V)) (p37 p38:Int) (b6 b13:List V) (zBD:List (List V)) (zBE:Int) (k_hbbbabaabbaabbba:zdw β):Option β :=
 lt (Int.tmod p2 (60:Int)) fun x22 =>
 k_hbbbabaabbaabbba p2 p4 p36 p37 p38 (zc 1 2 [(V.sc (.int .u32 p2)),(V.sc (.int .u32 x22))]) ((List.length (zc 1 2 [(V.sc (.int .u32 p2)),(V.sc (.int .u32 x22))]):Nat):Int) (0:Int) b6 b13 zBD zBE
def zhV {β:Type} (ya:yh) (xb:yi) (yd:zl) (xa:zj) (xd:zn) (zf:yr) (xo:xM) (yc:xk) (xg:zy) (zs:xY) (ye:yn) (L:Nat) (p2 p4:Int) (p36:List (List V)) (p37 p38:Int) (p78:List (List V)) (p79 p80:Int) (b6 b13:List V) (zBD:List (List V)) (zBE:Int) (k_ret:Bool→List (List V)→Int→Option β) (k_hbbbabaabbaabbba:zdw β) (k_x4:ziT β):Option β :=
 ifb (decide (p80 < p79)) (
 idx p78 p80 fun c23 =>
 cI .u32 c23 0 fun v24 =>
 chk (0+5≤(List.length b13)) (
 xg β L (List.map V.dem (List.take 5 b13)) v24 (fun v25 v26 =>
 chk ((List.length v25)=5∧0+5≤5) (
 lt (za [(V.sc (.int .u32 (0:Int))),(V.sc (.bool false)),(V.gs 1 ([]:List (List V))),(V.gs 35 ([]:List (List V))),(V.gs 32 ([]:List (List V)))] 0 v25) fun r27 =>
 chk (0+5≤(List.length b13)) (
 zs β L (List.map V.dem (List.take 5 b13)) v24 (fun v28 v29 =>
 chk ((List.length v28)=5∧0+5≤5) (
 lt (za [(V.sc (.int .u32 (0:Int))),(V.sc (.bool false)),(V.gs 1 ([]:List (List V))),(V.gs 35 ([]:List (List V))),(V.gs 32 ([]:List (List V)))] 0 v28) fun r30 =>
 chk (0+5≤(List.length r27)) (
 chk (0+5≤(List.length r30)) (
 yc β L (List.map V.dem (List.take 5 r27)) (List.map V.dem (List.take 5 r30)) (fun v31 =>
 ifb (!v31) (
 k_ret false zBD zBE) (
 ye β L v26 v29 (fun v32 =>
 ifb (!v32) (
 k_ret false zBD zBE) (
 lt (IntKind.wrap .i64 ((p80:Int)+(1:Int))) fun x33 =>
 k_hbbbabaabbaabbba p2 p4 p36 p37 p38 p78 p79 x33 b6 b13 zBD zBE))))))))))) (fun v34 v35 =>
 chk ((List.length v34)=5∧0+5≤5) (
 lt (za [(V.sc (.int .u32 (0:Int))),(V.sc (.bool false)),(V.gs 1 ([]:List (List V))),(V.gs 35 ([]:List (List V))),(V.gs 32 ([]:List (List V)))] 0 v34) fun r36 =>
 chk (0+5≤(List.length b13)) (
 zs β L (List.map V.dem (List.take 5 b13)) v24 (fun v37 v38 =>
 chk ((List.length v37)=5∧0+5≤5) (
 lt (za [(V.sc (.int .u32 (0:Int))),(V.sc (.bool false)),(V.gs 1 ([]:List (List V))),(V.gs 35 ([]:List (List V))),(V.gs 32 ([]:List (List V)))] 0 v37) fun r39 =>
 chk (0+5≤(List.length r36)) (
 chk (0+5≤(List.length r39)) (
 yc β L (List.map V.dem (List.take 5 r36)) (List.map V.dem (List.take 5 r39)) (fun v40 =>
 ifb (!v40) (
 k_ret false zBD zBE) (
 ye β L v35 v38 (fun v41 =>
 ifb (!v41) (
 k_ret false zBD zBE) (
 lt (IntKind.wrap .i64 ((p80:Int)+(1:Int))) fun x42 =>
 k_hbbbabaabbaabbba p2 p4 p36 p37 p38 p78 p79 x42 b6 b13 zBD zBE))))))))))))) (
 k_x4 p2 p4 p36 p37 p38 b6 zBD zBE)
def zkj {β:Type} (ya:yh) (xb:yi) (yd:zl) (xa:zj) (xd:zn) (zf:yr) (xo:xM) (yc:xk) (xg:zy) (zs:xY) (ye:yn) (L:Nat) (p10:Bool) (zBD:List (List V)) (zBE:Int) (k_fin:Bool→Option β):Option β :=
 k_fin p10
def zgF {β:Type} (ya:yh) (xb:yi) (yd:zl) (xa:zj) (xd:zn) (zf:yr) (xo:xM) (yc:xk) (xg:zy) (zs:xY) (ye:yn) (L:Nat) (p10:Bool) (zBD:List (List V)) (zBE:Int) (k_ret:Bool→List (List V)→Int→Option β):Option β :=
 k_ret p10 zBD zBE
def zgJ {β:Type} (ya:yh) (xb:yi) (yd:zl) (xa:zj) (xd:zn) (zf:yr) (xo:xM) (yc:xk) (xg:zy) (zs:xY) (ye:yn) (L:Nat) (p2 p4:Int) (p36:List (List V)) (p37 p38:Int) (b6:List V) (zBD:List (List V)) (zBE:Int) (k_hbbbaba:zb5 β):Option β :=
 lt (IntKind.wrap .i64 ((p38:Int)+(1:Int))) fun x43 =>
 k_hbbbaba p2 p4 p36 p37 x43 b6 zBD zBE
def zdL {β:Type} (ya:yh) (xb:yi) (yd:zl) (xa:zj) (xd:zn) (zf:yr) (xo:xM) (yc:xk) (xg:zy) (zs:xY) (ye:yn) (L:Nat) (k_ret:Bool→List (List V)→Int→Option β) (k_x2:ziL β):Nat→Int→Int→List (List V)→Int→Int→List (List V)→Int→Int→List V→List V→List (List V)→Int→Option β
 | 0,_,_,_,_,_,_,_,_,_,_,_,_=>none
 | n+1,p2,p4,p36,p37,p38,p47,p48,p49,b6,b13,zBD,zBE=>zhP ya xb yd xa xd zf xo yc xg zs ye L p2 p4 p36 p37 p38 p47 p48 p49 b6 b13 zBD zBE k_ret (fun p2 p4 p36 p37 p38 p47 p48 p49 b6 b13 zBD zBE=>zdL ya xb yd xa xd zf xo yc xg zs ye L k_ret k_x2 n p2 p4 p36 p37 p38 p47 p48 p49 b6 b13 zBD zBE) k_x2
def zdE {β:Type} (ya:yh) (xb:yi) (yd:zl) (xa:zj) (xd:zn) (zf:yr) (xo:xM) (yc:xk) (xg:zy) (zs:xY) (ye:yn) (L:Nat) (k_ret:Bool→List (List V)→Int→Option β) (k_x4:ziT β):Nat→Int→Int→List (List V)→Int→Int→List (List V)→Int→Int→List V→List V→List (List V)→Int→Option β
 | 0,_,_,_,_,_,_,_,_,_,_,_,_=>none
 | n+1,p2,p4,p36,p37,p38,p78,p79,p80,b6,b13,zBD,zBE=>zhV ya xb yd xa xd zf xo yc xg zs ye L p2 p4 p36 p37 p38 p78 p79 p80 b6 b13 zBD zBE k_ret (fun p2 p4 p36 p37 p38 p78 p79 p80 b6 b13 zBD zBE=>zdE ya xb yd xa xd zf xo yc xg zs ye L k_ret k_x4 n p2 p4 p36 p37 p38 p78 p79 p80 b6 b13 zBD zBE) k_x4
def zgD {β:Type} (ya:yh) (xb:yi) (yd:zl) (xa:zj) (xd:zn) (zf:yr) (xo:xM) (yc:xk) (xg:zy) (zs:xY) (ye:yn) (L:Nat) (p2 p4:Int) (p36:List (List V)) (p37 p38:Int) (b6 b13:List V) (zBD:List (List V)) (zBE:Int) (k_ret:Bool→List (List V)→Int→Option β) (k_hbbbaba:zb5 β):Option β :=
 zgP ya xb yd xa xd zf xo yc xg zs ye L p2 p4 p36 p37 p38 b6 b13 zBD zBE (fun p2 p4 p36 p37 p38 p78 p79 p80 b6 b13 zBD zBE=>zdE ya xb yd xa xd zf xo yc xg zs ye L (fun p10 zBD zBE=>zgF ya xb yd xa xd zf xo yc xg zs ye L p10 zBD zBE k_ret) (fun p2 p4 p36 p37 p38 b6 zBD zBE=>zgJ ya xb yd xa xd zf xo yc xg zs ye L p2 p4 p36 p37 p38 b6 zBD zBE k_hbbbaba) L p2 p4 p36 p37 p38 p78 p79 p80 b6 b13 zBD zBE)
def zlB {β:Type} (ya:yh) (xb:yi) (yd:zl) (xa:zj) (xd:zn) (zf:yr) (xo:xM) (yc:xk) (xg:zy) (zs:xY) (ye:yn) (L:Nat) (p2 p4:Int) (p36:List (List V)) (p37 p38:Int) (b6:List V) (zBD:List (List V)) (zBE:Int) (k_x0:List (List V)→Int→Option β) (k_ret:Bool→List (List V)→Int→Option β) (k_hbbbaba:zb5 β):Option β :=
 zl7 ya xb yd xa xd zf xo yc xg zs ye L p2 p4 p36 p37 p38 b6 zBD zBE (fun p2 p4 p36 p37 p38 p47 p48 p49 b6 b13 zBD zBE=>zdL ya xb yd xa xd zf xo yc xg zs ye L (fun p10 zBD zBE=>zgE ya xb yd xa xd zf xo yc xg zs ye L p10 zBD zBE k_ret) (fun p2 p4 p36 p37 p38 b6 b13 zBD zBE=>zgD ya xb yd xa xd zf xo yc xg zs ye L p2 p4 p36 p37 p38 b6 b13 zBD zBE k_ret k_hbbbaba) L p2 p4 p36 p37 p38 p47 p48 p49 b6 b13 zBD zBE) k_x0
def zgs {β:Type} (ya:yh) (xb:yi) (yd:zl) (xa:zj) (xd:zn) (zf:yr) (xo:xM) (yc:xk) (xg:zy) (zs:xY) (ye:yn) (L:Nat) (k_x0:List (List V)→Int→Option β) (k_ret:Bool→List (List V)→Int→Option β):Nat→Int→Int→List (List V)→Int→Int→List V→List (List V)→Int→Option β
 | 0,_,_,_,_,_,_,_,_=>none
 | n+1,p2,p4,p36,p37,p38,b6,zBD,zBE=>zlB ya xb yd xa xd zf xo yc xg zs ye L p2 p4 p36 p37 p38 b6 zBD zBE k_x0 k_ret (fun p2 p4 p36 p37 p38 b6 zBD zBE=>zgs ya xb yd xa xd zf xo yc xg zs ye L k_x0 k_ret n p2 p4 p36 p37 p38 b6 zBD zBE)
def zpq {β:Type} (ya:yh) (xb:yi) (yd:zl) (xa:zj) (xd:zn) (zf:yr) (xo:xM) (yc:xk) (xg:zy) (zs:xY) (ye:yn) (L:Nat) (p0:List (List V)) (p1:List V) (p2 p3 p4:Int) (k_fin:Bool→Option β):Option β :=
 zpr ya xb yd xa xd zf xo yc xg zs ye L p0 p1 p2 p3 p4 k_fin (fun p2 p4 p36 p37 p38 b6 zBD zBE=>zgs ya xb yd xa xd zf xo yc xg zs ye L (fun zBD zBE=>zlf ya xb yd xa xd zf xo yc xg zs ye L zBD zBE k_fin) (fun p10 zBD zBE=>zkj ya xb yd xa xd zf xo yc xg zs ye L p10 zBD zBE k_fin) L p2 p4 p36 p37 p38 b6 zBD zBE)
abbrev zpy:=∀ (β:Type),Nat→List (List V)→List V→Int→Int→Int→(Bool→Option β)→Option β
def zj9 (β:Type) (L:Nat) (p0:List (List V)) (p1:List V) (p2 p3 p4:Int) (k_fin:Bool→Option β):Option β:=zpq ya xb yd xa xd zf xo yc xg zs ye L p0 p1 p2 p3 p4 k_fin
def zxA (zj9:zpy) (L:Nat) (β:Type) (args:List V) (bor:Bor) (k:KK β):Option β:=match args,bor with
 | [a0,a1,a2,a3,a4],[]=>aL 1 a0 fun p0=>aG a1 fun p1=>aI .u32 a2 fun p2=>aI .i64 a3 fun p3=>aI .i64 a4 fun p4=>zj9 β L p0 p1 p2 p3 p4 (fun p0=>k (V.sc (.bool p0)) [])
 | _,_=>none
def zq6:CF:=⟨6,[.tmp 2],
 (.seq (.reg [oo 2 (.move (.const (.sc (.bool false))) false)])
 (.seq (.reg [oo 3 (.move (tq 0) false),
   oo 4 (.lenS (tq 3)),
   oo 5 (.bin .leq (tq 4) (.const (.sc (.int .i64 200)))),
   oo 2 (.move (tq 5) false)])
 .ret))⟩
def zpl:Hint:=⟨[],[],[none],[],[],false,false⟩
def zAI:Nat→Sh:=z6 []
def zAJ (L:Nat):CBC:=noC
def zw1 {β:Type} (L:Nat) (p0:List (List V)) (k_fin:Bool→Option β):Option β :=
 k_fin (decide (((List.length p0:Nat):Int)≤(200:Int)))
abbrev zae:=∀ (β:Type),Nat→List (List V)→(Bool→Option β)→Option β
def zx (β:Type) (L:Nat) (p0:List (List V)) (k_fin:Bool→Option β):Option β:=zw1 L p0 k_fin
def zxs (zx:zae) (L:Nat) (β:Type) (args:List V) (bor:Bor) (k:KK β):Option β:=match args,bor with
 | [a0],[]=>aL 1 a0 fun p0=>zx β L p0 (fun p0=>k (V.sc (.bool p0)) [])
 | _,_=>none
def zrL:CC:=(.seq (.reg [oo 10 (.bin .lss (tq 9) (tq 8))])
 (.seq (.cond (tq 10)
 .skip
 (.seq (.mask (bl 0 17) (bl 130983 17))
 (.exit 0)))
 (.seq (.block 1 (.seq (.reg [oo 11 (.indexAddrS 32 (tq 7) (tq 9)),
   oo 12 (.load true 32 (tq 11) false),
   oo 6 (.alloc true (rp 32 (.sc (.int .u8 0)) [])),
   oz (.store 32 (tq 6) (tq 12))])
 (.seq (.reg [oo 13 (.load true 32 (tq 6) false),
   oo 14 (.load true 32 (tq 3) false),
   oo 15 (.eqAgg false 32 (tq 13) (tq 14))])
 (.cond (tq 15)
 (.seq (.reg [oo 4 (.move (.const (.sc (.bool true))) false)])
 (.seq (.mask (bl 16 17) (bl 130999 17))
 .ret))
 .skip))))
 (.reg [oo 16 (.bin .add (tq 9) (.const (.sc (.int .i64 1)))),
   oo 9 (.move (tq 16) false)]))))
def zuK:CC:=(.seq (.reg [oo 4 (.move (.const (.sc (.bool false))) false)])
 .ret)
def zqg:CF:=⟨17,[.tmp 4],
 (.seq (.reg [oo 3 (.box true (tq 1)),
   oo 4 (.move (.const (.sc (.bool false))) false)])
 (.seq (.seq (.reg [oo 7 (.move (tq 0) false),
   oo 8 (.lenS (tq 7)),
   oo 9 (.move (.const (.sc (.int .i64 0))) false)])
 (.block 0 (.loop (bl 904 17) (bl 130991 17)
 zrL)))
 zuK))⟩
def zom:Hint:=⟨[],[],[none,some ((bl 904 17),(bl 130991 17)),none,some ((bl 0 17),(bl 130983 17)),none,none,some ((bl 16 17),(bl 130999 17)),none],[],[],false,false⟩
def zAt:Nat→Sh:=z6 []
def zAn (L:Nat):CBC:=noC
def zzl:St→St:=xZ 0 (bl 904 17) (bl 130991 17)
def zyd (p7:List (List V)) (p8 p9:Int) (b3:List V):St:=⟨(jn 3 ((V.ptr 3 0)::(jn 3 ((V.sl 32 p7)::((V.sc (.int .i64 p8))::((V.sc (.int .i64 p9))::(jn 7 []))))))),(gn 3 ((.live true b3)::(gn 13 [])))⟩
def zyF (p4:Bool):St:=⟨(jn 4 ((V.sc (.bool p4))::(jn 12 []))),(gn 17 [])⟩
def zze:St:=⟨(jn 17 []),(gn 17 [])⟩
def zvY {β:Type} (L:Nat) (p0:List (List V)) (p1:List V) (k_hbaba:List (List V)→Int→Int→List V→Option β):Option β :=
 k_hbaba p0 ((List.length p0:Nat):Int) (0:Int) p1
def zsV {β:Type} (L:Nat) (p7:List (List V)) (p8 p9:Int) (b3:List V) (k_ret:Bool→Option β) (k_hbaba:List (List V)→Int→Int→List V→Option β) (k_x0:Option β):Option β :=
 ifb (decide (p9 < p8)) (
 idx p7 p9 fun c0 =>
 chk ((List.length (List.take 32 c0))=32∧0+32≤32) (
 lt (za (List.replicate 32 (V.sc (.int .u8 (0:Int)))) 0 (List.take 32 c0)) fun r1 =>
 chk (0+32≤(List.length r1)) (
 chk (0+32≤(List.length b3)) (
 eqC 32 (List.take 32 r1) (List.take 32 b3) fun v2 =>
 ifb v2 (
 k_ret true) (
 lt (IntKind.wrap .i64 ((p9:Int)+(1:Int))) fun x3 =>
 k_hbaba p7 p8 x3 b3))))) (
 k_x0)
def zp3 {β:Type} (L:Nat) (p4:Bool) (k_fin:Bool→Option β):Option β :=
 k_fin p4
def zqM {β:Type} (L:Nat) (k_fin:Bool→Option β):Option β :=
 k_fin false
def znt {β:Type} (L:Nat) (k_ret:Bool→Option β) (k_x0:Option β):Nat→List (List V)→Int→Int→List V→Option β
 | 0,_,_,_,_=>none
 | n+1,p7,p8,p9,b3=>zsV L p7 p8 p9 b3 k_ret (fun p7 p8 p9 b3=>znt L k_ret k_x0 n p7 p8 p9 b3) k_x0
def zvX {β:Type} (L:Nat) (p0:List (List V)) (p1:List V) (k_fin:Bool→Option β):Option β :=
 zvY L p0 p1 (fun p7 p8 p9 b3=>znt L (fun p4=>zp3 L p4 k_fin) (zqM L k_fin) L p7 p8 p9 b3)
abbrev zY:=∀ (β:Type),Nat→List (List V)→List V→(Bool→Option β)→Option β
def zr (β:Type) (L:Nat) (p0:List (List V)) (p1:List V) (k_fin:Bool→Option β):Option β:=zvX L p0 p1 k_fin
def zwg (zr:zY) (L:Nat) (β:Type) (args:List V) (bor:Bor) (k:KK β):Option β:=match args,bor with
 | [a0,a1],[]=>aL 32 a0 fun p0=>aG a1 fun p1=>zr β L p0 p1 (fun p0=>k (V.sc (.bool p0)) [])
 | _,_=>none
def ze6:CC:=(.seq (.reg [oo 97 (.bin .lss (tq 96) (tq 95))])
 (.seq (.cond (tq 97)
 .skip
 (.seq (.mask (bl 992 148) (bl 356811919152373704659264560651937353093403631 148))
 (.exit 3)))
 (.seq (.block 4 (.seq (.reg [oo 98 (.indexAddrS 32 (tq 94) (tq 96)),
   oo 99 (.load true 32 (tq 98) false),
   oo 16 (.alloc true (rp 32 (.sc (.int .u8 0)) [])),
   oz (.store 32 (tq 16) (tq 99))])
 (.seq (.seq (.reg [oo 100 (.move (tq 8) false),
   oo 101 (.load true 32 (tq 16) false),
   oo 102 (.call 354 [((tq 100),0),((tq 101),0)] []),
   oo 103 (.move (tq 102) false),
   ⟨(some 104),false,(some (103,false)),.move (tq 7) false⟩,
   ⟨(some 105),false,(some (103,false)),.load true 32 (tq 16) false⟩,
   ⟨(some 106),false,(some (103,false)),.call 354 [((tq 104),0),((tq 105),0)] []⟩,
   ⟨(some 107),false,(some (103,false)),.un .not (tq 106)⟩,
   oo 108 (.pick (tq 103) (.const (.sc (.bool true))) (tq 107))])
 (.cond (tq 108)
 (.seq (.reg [oo 4 (.move (.const (.sc (.bool false))) false)])
 (.seq (.mask (bl 16 148) (bl 356811919152373656311636663522476535484285023 148))
 .ret))
 .skip))
 (.seq (.reg [oo 110 (.load true 5 (tq 5) false),
   oo 111 (.load true 32 (tq 16) false),
   oo 112 (.call 348 [((tq 110),1),((tq 111),0)] []),
   oo 109 (.move (tq 112) true),
   oo 113 (.pull (tq 109) 0),
   oo 114 (.pull (tq 109) 1),
   oo 17 (.alloc true [(.sc (.int .u32 0)),(.sc (.bool false)),(.gs 1 []),(.gs 35 []),(.gs 32 [])]),
   oz (.store 5 (tq 17) (tq 113)),
   oo 18 (.move (tq 114) false)])
 (.seq (.seq (.reg [oo 115 (.move (tq 18) false),
   oo 116 (.bin .neq (tq 115) (.const (.sc (.int .i64 0))))])
 (.cond (tq 116)
 (.seq (.reg [oo 4 (.move (.const (.sc (.bool false))) false)])
 (.seq (.mask (bl 16 148) (bl 356811919152373656311636663522476535484285023 148))
 .ret))
 .skip))
 (.dreg [] [(oo 117 (.load true 5 (tq 17) false),ql 17 [16] [120,121]),
   (oo 118 (.move (tq 8) true),qc [17,16] [120]),
   (oo 119 (.load true 32 (tq 16) false),ql 16 [17] []),
   (oo 120 (.buildSlice 32 1 (rp 32 (.sc (.int .u8 0)) []) [(0,32,(tq 119))]),qn [17] []),
   (oo 121 (.append 32 32 (tq 118) (tq 120)),qn [17] []),
   (oz (.store 5 (tq 5) (tq 117)),q0),
   (oo 8 (.move (tq 121) true),q0)]))))))
 (.reg [oo 122 (.bin .add (tq 96) (.const (.sc (.int .i64 1)))),
   oo 96 (.move (tq 122) false)]))))
def zi3:CC:=(.seq (.reg [oo 136 (.bin .lss (tq 135) (tq 134))])
 (.seq (.cond (tq 136)
 .skip
 (.seq (.mask (bl 4194304 148) (bl 354024330026673642371879527578292738873152463 148))
 (.exit 5)))
 (.seq (.block 6 (.seq (.reg [oo 137 (.indexAddrS 32 (tq 133) (tq 135)),
   oo 138 (.load true 32 (tq 137) false),
   oo 25 (.alloc true (rp 32 (.sc (.int .u8 0)) [])),
   oz (.store 32 (tq 25) (tq 138))])
 (.seq (.reg [oo 139 (.move (tq 8) false),
   oo 140 (.load true 32 (tq 25) false),
   oo 141 (.call 354 [((tq 139),0),((tq 140),0)] []),
   oo 142 (.un .not (tq 141))])
 (.cond (tq 142)
 (.seq (.reg [oo 4 (.move (.const (.sc (.bool false))) false)])
 (.seq (.mask (bl 16 148) (bl 354024330026673642371879527578292738868958175 148))
 .ret))
 .skip))))
 (.reg [oo 143 (.bin .add (tq 135) (.const (.sc (.int .i64 1)))),
   oo 135 (.move (tq 143) false)]))))
def zkq:CC:=(.seq (.reg [oo 144 (.fieldAddr 3 (tq 22)),
   oo 145 (.load false 1 (tq 144) false),
   oo 146 (.lenS (tq 145)),
   oo 147 (.bin .eql (tq 146) (.const (.sc (.int .i64 0)))),
   oo 4 (.move (tq 147) false)])
 .ret)
def zlb:CC:=(.seq (.seq (.reg [oo 35 (.move (tq 6) false),
   oo 36 (.call 247 [((tq 35),0)] [])])
 (.cond (tq 36)
 .skip
 (.seq (.mask (bl 928 148) (bl 356811919152373656311636663522476535484285935 148))
 (.exit 0))))
 (.block 1 (.seq (.reg [oo 37 (.move (tq 9) false),
   oo 38 (.move (tq 6) false),
   oo 39 (.call 231 [((tq 38),0),((.const (.sc (.int .i64 5))),0)] []),
   oo 40 (.conv .u32 (tq 39)),
   oo 41 (.bin .add (tq 37) (tq 40)),
   oo 9 (.move (tq 41) false)])
 (.seq (.reg [oo 42 (.move (tq 6) false),
   oo 43 (.call 231 [((tq 42),0),((.const (.sc (.int .i64 30))),0)] []),
   oo 44 (.conv .u8 (tq 43)),
   oo 45 (.build (rp 32 (.sc (.int .u8 0)) []) [(0,1,(tq 44))]),
   oo 10 (.alloc true (rp 32 (.sc (.int .u8 0)) [])),
   oz (.store 32 (tq 10) (tq 45))])
 (.seq (.reg [oo 46 (.move (tq 6) false),
   oo 47 (.call 231 [((tq 46),0),((.const (.sc (.int .i64 4))),0)] [])])
 (.block 2 (.seq (.reg [oo 71 (.bin .eql (tq 47) (.const (.sc (.int .i64 0)))),
   oo 70 (.move (tq 71) false)])
 (.cond (tq 70)
 (.seq (.reg [oo 73 (.load true 5 (tq 5) false),
   oo 74 (.load true 32 (tq 10) false),
   oo 75 (.call 348 [((tq 73),1),((tq 74),0)] []),
   oo 72 (.move (tq 75) true),
   oo 76 (.pull (tq 72) 0),
   oo 77 (.pull (tq 72) 1),
   oo 11 (.alloc true [(.sc (.int .u32 0)),(.sc (.bool false)),(.gs 1 []),(.gs 35 []),(.gs 32 [])]),
   oz (.store 5 (tq 11) (tq 76)),
   oo 12 (.move (tq 77) false)])
 (.seq (.reg [oo 78 (.move (tq 12) false),
   oo 79 (.bin .eql (tq 78) (.const (.sc (.int .i64 0))))])
 (.cond (tq 79)
 (.dreg [] [(oo 80 (.load true 5 (tq 11) false),ql 11 [10] [83,84]),
   (oo 81 (.move (tq 8) true),qc [11,10] [83]),
   (oo 82 (.load true 32 (tq 10) false),ql 10 [11] []),
   (oo 83 (.buildSlice 32 1 (rp 32 (.sc (.int .u8 0)) []) [(0,32,(tq 82))]),qn [11] []),
   (oo 84 (.append 32 32 (tq 81) (tq 83)),qn [11] []),
   (oz (.store 5 (tq 5) (tq 80)),q0),
   (oo 8 (.move (tq 84) true),q0)])
 .skip)))
 (.seq (.reg [oo 86 (.bin .eql (tq 47) (.const (.sc (.int .i64 1)))),
   oo 85 (.move (tq 86) false)])
 (.cond (tq 85)
 (.seq (.reg [oo 88 (.load true 5 (tq 5) false),
   oo 89 (.move (tq 9) false),
   oo 90 (.call 350 [((tq 88),1),((tq 89),0)] []),
   oo 87 (.move (tq 90) true),
   oo 91 (.pull (tq 87) 0),
   oo 92 (.extract (tq 87) 1),
   oo 13 (.alloc true [(.sc (.int .u32 0)),(.sc (.bool false)),(.gs 1 []),(.gs 35 []),(.gs 32 [])]),
   oz (.store 5 (tq 13) (tq 91)),
   oo 14 (.move (tq 92) false)])
 (.seq (.reg [oo 93 (.load true 5 (tq 13) false),
   oz (.store 5 (tq 5) (tq 93))])
 (.seq (.reg [oo 94 (.move (tq 14) false),
   oo 95 (.lenS (tq 94)),
   oo 96 (.move (.const (.sc (.int .i64 0))) false)])
 (.block 3 (.loop (bl 138649284399962590788701914080 148) (bl 356811919152373704659264560651937353093403631 148)
 ze6)))))
 (.seq (.dreg [] [(oo 49 (.load true 5 (tq 5) false),ql 5 [10] [19]),
   (oo 50 (.move (tq 6) false),q0),
   (oo 51 (.call 231 [((tq 50),0),((.const (.sc (.int .i64 9))),0)] []),qc [5,10] [19]),
   (oo 52 (.bin .sub (tq 51) (.const (.sc (.int .i64 1)))),q0),
   (oo 53 (.load true 32 (tq 10) false),ql 10 [5] [19]),
   (oo 54 (.move (tq 9) false),q0),
   (oo 55 (.call 346 [((tq 49),1),((tq 52),0),((tq 53),0),((tq 54),0),((.const (.sc (.int .u32 10))),0)] []),qc [] [19]),
   (oo 48 (.move (tq 55) true),qc [] [19]),
   (oo 56 (.pull (tq 48) 0),q0),
   (oo 57 (.pull (tq 48) 1),q0),
   (oo 58 (.pull (tq 48) 2),q0),
   (oo 19 (.alloc true [(.sc (.int .u32 0)),(.sc (.bool false)),(.gs 1 []),(.gs 35 []),(.gs 32 [])]),qn [5,10] []),
   (oz (.store 5 (tq 19) (tq 56)),q0),
   (oo 20 (.move (tq 57) false),q0),
   (oo 21 (.move (tq 58) false),q0)])
 (.seq (.reg [oo 59 (.move (tq 21) false),
   oo 60 (.bin .eql (tq 59) (.const (.sc (.int .i64 0)))),
   oo 61 (.move (tq 60) false),
   ⟨(some 62),false,(some (61,true)),.move (tq 20) false⟩,
   ⟨(some 63),false,(some (61,true)),.bin .geq (tq 62) (.const (.sc (.int .i64 0)))⟩,
   oo 64 (.pick (tq 61) (tq 63) (.const (.sc (.bool false))))])
 (.cond (tq 64)
 (.dreg [] [(oo 65 (.load true 5 (tq 19) false),ql 19 [10] [68,69]),
   (oo 66 (.move (tq 7) true),qc [19,10] [68]),
   (oo 67 (.load true 32 (tq 10) false),ql 10 [19] []),
   (oo 68 (.buildSlice 32 1 (rp 32 (.sc (.int .u8 0)) []) [(0,32,(tq 67))]),qn [19] []),
   (oo 69 (.append 32 32 (tq 66) (tq 68)),qn [19] []),
   (oz (.store 5 (tq 5) (tq 65)),q0),
   (oo 7 (.move (tq 69) true),q0)])
 .skip)))))))))))))
def zl4:CC:=(.seq (.reg [oo 124 (.load true 5 (tq 5) false),
   oo 125 (.move (tq 9) false),
   oo 126 (.bin .add (tq 125) (.const (.sc (.int .u32 10)))),
   oo 127 (.call 350 [((tq 124),1),((tq 126),0)] []),
   oo 123 (.move (tq 127) true),
   oo 128 (.pull (tq 123) 0),
   oo 129 (.extract (tq 123) 1),
   oo 22 (.alloc true [(.sc (.int .u32 0)),(.sc (.bool false)),(.gs 1 []),(.gs 35 []),(.gs 32 [])]),
   oz (.store 5 (tq 22) (tq 128)),
   oo 23 (.move (tq 129) false)])
 (.seq (.reg [oo 130 (.move (tq 8) true),
   oo 131 (.move (tq 23) false),
   oo 132 (.append 32 32 (tq 130) (tq 131)),
   oo 8 (.move (tq 132) true)])
 (.seq (.seq (.reg [oo 133 (.move (tq 7) false),
   oo 134 (.lenS (tq 133)),
   oo 135 (.move (.const (.sc (.int .i64 0))) false)])
 (.block 5 (.loop (bl 76223250190290215815795912064716083560704 148) (bl 354024330026673642371879527578292738873152463 148)
 zi3)))
 zkq)))
def zk4:CF:=⟨148,[.tmp 4],
 (.seq (.reg [oo 4 (.move (.const (.sc (.bool false))) false)])
 (.seq (.seq (.reg [oo 26 (.call 332 [] []),
   oo 27 (.un .not (tq 26))])
 (.cond (tq 27)
 (.seq (.reg [oo 4 (.move (.const (.sc (.bool false))) false)])
 .ret)
 .skip))
 (.seq (.seq (.reg [oo 28 (.move (tq 1) false),
   oo 29 (.call 353 [((tq 28),0)] []),
   oo 30 (.un .not (tq 29))])
 (.cond (tq 30)
 (.seq (.reg [oo 4 (.move (.const (.sc (.bool true))) false)])
 .ret)
 .skip))
 (.seq (.reg [oo 31 (.buildSlice 1 2 [(.sc (.int .i64 0))] [(0,1,(.const (.sc (.int .i64 4)))),(1,1,(.const (.sc (.int .i64 7))))]),
   oo 32 (.build [(.sc (.int .u32 0)),(.sc (.bool false)),(.sl 1 []),(.sl 35 []),(.sl 32 [])] [(2,1,(tq 31))]),
   oo 5 (.alloc true [(.sc (.int .u32 0)),(.sc (.bool false)),(.gs 1 []),(.gs 35 []),(.gs 32 [])]),
   oz (.store 5 (tq 5) (tq 32))])
 (.seq (.reg [oo 33 (.move (tq 1) false),
   oo 34 (.call 225 [((tq 33),0)] []),
   oo 6 (.move (tq 34) false)])
 (.seq (.reg [oo 7 (.move (.const (.gs 32 [])) true),
   oo 8 (.move (.const (.gs 32 [])) true)])
 (.seq (.reg [oo 9 (.move (.const (.sc (.int .u32 0))) false)])
 (.seq (.block 0 (.loop (bl 992 148) (bl 356811919152373656311636663522476535484285935 148)
 zlb))
 zl4))))))))⟩
def zjU:Hint:=⟨[(5,2),(7,0),(7,1),(17,3),(17,6),(19,1),(19,6),(21,3),(21,5),(21,6),(28,3),(28,6),(31,1),(31,6),(13,7),(13,11),(15,1),(15,6),(33,4),(33,6),(33,7),(34,0),(34,3)],[],[none,none,none,none,none,some ((bl 992 148),(bl 356811919152373656311636663522476535484285935 148)),none,some ((bl 928 148),(bl 356811919152373656311636663522476535484285935 148)),none,none,none,none,none,none,some ((bl 138649284399962590788701914080 148),(bl 356811919152373704659264560651937353093403631 148)),none,some ((bl 992 148),(bl 356811919152373704659264560651937353093403631 148)),none,none,some ((bl 16 148),(bl 356811919152373656311636663522476535484285023 148)),none,some ((bl 16 148),(bl 356811919152373656311636663522476535484285023 148)),none,none,some ((bl 76223250190290215815795912064716083560704 148),(bl 354024330026673642371879527578292738873152463 148)),none,some ((bl 4194304 148),(bl 354024330026673642371879527578292738873152463 148)),none,none,some ((bl 16 148),(bl 354024330026673642371879527578292738868958175 148)),none],[],[],false,false⟩
def zx5:Nat→Sh:=z6 [(145,(.sl 35))]
def zxH (ya:yh) (zx:zae) (xb:yi) (yg:xB) (yb:xl) (zf:yr) (xg:zy) (zd:yk) (zr:zY) (L:Nat):CBC:=(xD 354 (zwg zr L) (xD 346 (zhd zd L) (xD 350 (zra xg L) (xD 348 (zo9 zf L) (xD 231 (zd8 yb L) (xD 247 (zd6 yg L) (xD 225 (zhl xb L) (xD 353 (zxs zx L) (xD 332 (zfg ya L) noC)))))))))
def zuz:St→St:=xZ 0 (bl 992 148) (bl 356811919152373656311636663522476535484285935 148)
def zoK:St→St:=xZ 0 (bl 138649284399962590788701914080 148) (bl 356811919152373704659264560651937353093403631 148)
def zsf:St→St:=xZ 0 (bl 76223250190290215815795912064716083560704 148) (bl 354024330026673642371879527578292738873152463 148)
def zts (p7 p8:List (List V)) (p9:Int) (b5:List V) (zBF:List (List V)) (zBG:Int):St:=⟨(jn 5 ((V.ptr 5 0)::((V.ptr 34 0)::((V.gs 32 p7)::((V.gs 32 p8)::((V.sc (.int .u32 p9))::(jn 138 []))))))),(gn 5 ((.live true b5)::(gn 28 ((.live false [(V.sl 1 zBF),(V.sc (.int .i64 zBG))])::(gn 113 [])))))⟩
def znK (p7 p8:List (List V)) (p9:Int) (p94:List (List V)) (p95 p96:Int) (b5:List V) (zBF:List (List V)) (zBG:Int):St:=⟨(jn 5 ((V.ptr 5 0)::((V.ptr 34 0)::((V.gs 32 p7)::((V.gs 32 p8)::((V.sc (.int .u32 p9))::(jn 84 ((V.sl 32 p94)::((V.sc (.int .i64 p95))::((V.sc (.int .i64 p96))::(jn 51 []))))))))))),(gn 5 ((.live true b5)::(gn 28 ((.live false [(V.sl 1 zBF),(V.sc (.int .i64 zBG))])::(gn 113 [])))))⟩
def zwy (p7 p8:List (List V)) (p9:Int) (b5:List V) (zBF:List (List V)) (zBG:Int):St:=⟨(jn 5 ((V.ptr 5 0)::(jn 1 ((V.gs 32 p7)::((V.gs 32 p8)::((V.sc (.int .u32 p9))::(jn 138 []))))))),(gn 5 ((.live true b5)::(gn 28 ((.live false [(V.sl 1 zBF),(V.sc (.int .i64 zBG))])::(gn 113 [])))))⟩
def zq4 (p8 zB1:List (List V)) (zB2 zBZ:Int) (b22:List V) (zBF:List (List V)) (zBG:Int):St:=⟨(jn 8 ((V.gs 32 p8)::(jn 13 ((V.ptr 22 0)::(jn 110 ((V.sl 32 zB1)::((V.sc (.int .i64 zB2))::((V.sc (.int .i64 zBZ))::(jn 12 []))))))))),(gn 22 ((.live true b22)::(gn 11 ((.live false [(V.sl 1 zBF),(V.sc (.int .i64 zBG))])::(gn 113 [])))))⟩
def zv3 (p4:Bool) (zBF:List (List V)) (zBG:Int):St:=⟨(jn 4 ((V.sc (.bool p4))::(jn 143 []))),(gn 34 ((.live false [(V.sl 1 zBF),(V.sc (.int .i64 zBG))])::(gn 113 [])))⟩
def zwx (p7 p8:List (List V)) (p9:Int) (b5:List V) (zBF:List (List V)) (zBG:Int):St:=⟨(jn 5 ((V.ptr 5 0)::((V.ptr 34 0)::((V.gs 32 p7)::((V.gs 32 p8)::((V.sc (.int .u32 p9))::(jn 138 []))))))),(gn 5 ((.live true b5)::(gn 28 ((.live false [(V.sl 1 zBF),(V.sc (.int .i64 zBG))])::(gn 113 [])))))⟩
def zwo (b22:List V) (zBF:List (List V)) (zBG:Int):St:=⟨(jn 22 ((V.ptr 22 0)::(jn 125 []))),(gn 22 ((.live true b22)::(gn 11 ((.live false [(V.sl 1 zBF),(V.sc (.int .i64 zBG))])::(gn 113 [])))))⟩
abbrev zbN (β:Type):Type:=List (List V)→List (List V)→Int→List V→List (List V)→Int→Option β
abbrev zcg (β:Type):Type:=List (List V)→List (List V)→Int→List (List V)→Int→Int→List V→List (List V)→Int→Option β
abbrev zgm (β:Type):Type:=List (List V)→List (List V)→Int→List V→List (List V)→Int→Option β
abbrev zej (β:Type):Type:=List (List V)→List (List V)→Int→Int→List V→List (List V)→Int→Option β
abbrev zkg (β:Type):Type:=List (List V)→List (List V)→Int→List V→List (List V)→Int→Option β
def zqX {β:Type} (ya:yh) (zx:zae) (xb:yi) (yg:xB) (yb:xl) (zf:yr) (xg:zy) (zd:yk) (zr:zY) (L:Nat) (p0 p1:List (List V)) (k_fin:Bool→Option β) (k_hbbbbbbbaa:zbN β):Option β :=
 ya β L  (fun v0 =>
 ifb (!v0) (
 k_fin false) (
 zx β L p1 (fun v1 =>
 ifb (!v1) (
 k_fin true) (
 lt [(V.sc (.int .u32 (0:Int))),(V.sc (.bool false)),(V.sl 1 (zc 1 2 [(V.sc (.int .i64 (4:Int))),(V.sc (.int .i64 (7:Int)))])),(V.sl 35 ([]:List (List V))),(V.sl 32 ([]:List (List V)))] fun r2 =>
 xb β L p1 (fun v3 v4 =>
 k_hbbbbbbbaa ([]:List (List V)) ([]:List (List V)) (0:Int) r2 v3 v4)))))
def zlF {β:Type} (ya:yh) (zx:zae) (xb:yi) (yg:xB) (yb:xl) (zf:yr) (xg:zy) (zd:yk) (zr:zY) (L:Nat) (p7 p8:List (List V)) (p9:Int) (b5:List V) (zBF:List (List V)) (zBG:Int) (k_hbbbbbbbaa:zbN β) (k_hbbbbbbbaaababbbabbbabbba:zcg β) (k_x0:zgm β):Option β :=
 yg β L zBF zBG (fun v5 v6 v7 =>
 ifb v5 (
 yb β L (5:Int) v6 v7 (fun v8 v9 v10 =>
 lt (IntKind.wrap .u32 v8) fun x11 =>
 lt (IntKind.wrap .u32 ((p9:Int)+x11)) fun x12 =>
 yb β L (30:Int) v9 v10 (fun v13 v14 v15 =>
 lt (IntKind.wrap .u8 v13) fun x16 =>
 lt ([(V.sc (.int .u8 x16))]++List.replicate 31 (V.sc (.int .u8 (0:Int)))) fun r17 =>
 yb β L (4:Int) v14 v15 (fun v18 v19 v20 =>
 ifb ((v18:Int) == (0:Int)) (
 chk (0+5≤(List.length b5)) (
 chk (0+32≤(List.length r17)) (
 zf β L (List.map V.dem (List.take 5 b5)) (List.take 32 r17) (fun v21 v22 =>
 chk ((List.length v21)=5∧0+5≤5) (
 lt (za [(V.sc (.int .u32 (0:Int))),(V.sc (.bool false)),(V.gs 1 ([]:List (List V))),(V.gs 35 ([]:List (List V))),(V.gs 32 ([]:List (List V)))] 0 v21) fun r23 =>
 ifb ((v22:Int) == (0:Int)) (
 chk (0+5≤(List.length r23)) (
 chk (0+32≤(List.length r17)) (
 chk ((List.length (List.take 32 r17))=32∧0+32≤32) (
 chk ((List.length p8+List.length (zc 32 1 (za (List.replicate 32 (V.sc (.int .u8 (0:Int)))) 0 (List.take 32 r17)))) * 32≤xh∧List.length p8+List.length (zc 32 1 (za (List.replicate 32 (V.sc (.int .u8 (0:Int)))) 0 (List.take 32 r17)))≤xh) (
 lt (p8++(zc 32 1 (za (List.replicate 32 (V.sc (.int .u8 (0:Int)))) 0 (List.take 32 r17)))) fun l24 =>
 chk ((List.length (List.take 5 r23))=5∧0+5≤(List.length b5)) (
 lt (za b5 0 (List.take 5 r23)) fun r25 =>
 k_hbbbbbbbaa p7 l24 x12 r25 v19 v20)))))) (
 k_hbbbbbbbaa p7 p8 x12 b5 v19 v20)))))) (
 ifb ((v18:Int) == (1:Int)) (
 chk (0+5≤(List.length b5)) (
 xg β L (List.map V.dem (List.take 5 b5)) x12 (fun v26 v27 =>
 chk ((List.length v26)=5∧0+5≤5) (
 lt (za [(V.sc (.int .u32 (0:Int))),(V.sc (.bool false)),(V.gs 1 ([]:List (List V))),(V.gs 35 ([]:List (List V))),(V.gs 32 ([]:List (List V)))] 0 v26) fun r28 =>
 chk (0+5≤(List.length r28)) (
 chk ((List.length (List.take 5 r28))=5∧0+5≤(List.length b5)) (
 lt (za b5 0 (List.take 5 r28)) fun r29 =>
 k_hbbbbbbbaaababbbabbbabbba p7 p8 x12 v27 ((List.length v27:Nat):Int) (0:Int) r29 v19 v20)))) (fun v30 v31 =>
 chk ((List.length v30)=5∧0+5≤5) (
 lt (za [(V.sc (.int .u32 (0:Int))),(V.sc (.bool false)),(V.gs 1 ([]:List (List V))),(V.gs 35 ([]:List (List V))),(V.gs 32 ([]:List (List V)))] 0 v30) fun r32 =>
 chk (0+5≤(List.length r32)) (
 chk ((List.length (List.take 5 r32))=5∧0+5≤(List.length b5)) (
 lt (za b5 0 (List.take 5 r32)) fun r33 =>
 k_hbbbbbbbaaababbbabbbabbba p7 p8 x12 v31 ((List.length v31:Nat):Int) (0:Int) r33 v19 v20)))))) (
 chk (0+5≤(List.length b5)) (
 yb β L (9:Int) v19 v20 (fun v34 v35 v36 =>
 lt (IntKind.wrap .i64 ((v34:Int) - (1:Int))) fun x37 =>
 chk (0+32≤(List.length r17)) (
 zd β L (List.map V.dem (List.take 5 b5)) x37 (List.take 32 r17) x12 (10:Int) (fun v38 v39 v40 =>
 chk ((List.length v38)=5∧0+5≤5) (
 lt (za [(V.sc (.int .u32 (0:Int))),(V.sc (.bool false)),(V.gs 1 ([]:List (List V))),(V.gs 35 ([]:List (List V))),(V.gs 32 ([]:List (List V)))] 0 v38) fun r41 =>
 ifb ((v40:Int) == (0:Int)) (
 ifb (decide (v39 ≥ (0:Int))) (
 chk (0+5≤(List.length r41)) (
 chk (0+32≤(List.length r17)) (
 chk ((List.length (List.take 32 r17))=32∧0+32≤32) (
 chk ((List.length p7+List.length (zc 32 1 (za (List.replicate 32 (V.sc (.int .u8 (0:Int)))) 0 (List.take 32 r17)))) * 32≤xh∧List.length p7+List.length (zc 32 1 (za (List.replicate 32 (V.sc (.int .u8 (0:Int)))) 0 (List.take 32 r17)))≤xh) (
 lt (p7++(zc 32 1 (za (List.replicate 32 (V.sc (.int .u8 (0:Int)))) 0 (List.take 32 r17)))) fun l42 =>
 chk ((List.length (List.take 5 r41))=5∧0+5≤(List.length b5)) (
 lt (za b5 0 (List.take 5 r41)) fun r43 =>
 k_hbbbbbbbaa l42 p8 x12 r43 v35 v36)))))) (
 k_hbbbbbbbaa p7 p8 x12 b5 v35 v36)) (
 k_hbbbbbbbaa p7 p8 x12 b5 v35 v36)))))))))))) (
 k_x0 p7 p8 p9 b5 v6 v7))
def zkB {β:Type} (ya:yh) (zx:zae) (xb:yi) (yg:xB) (yb:xl) (zf:yr) (xg:zy) (zd:yk) (zr:zY) (L:Nat) (p7 p8:List (List V)) (p9:Int) (b5:List V) (zBF:List (List V)) (zBG:Int) (k_hbbbbbbbbbbaba:zej β):Option β :=
 chk (0+5≤(List.length b5)) (
 lt (IntKind.wrap .u32 ((p9:Int)+(10:Int))) fun x44 =>
 xg β L (List.map V.dem (List.take 5 b5)) x44 (fun v45 v46 =>
 chk ((List.length v45)=5∧0+5≤5) (
 lt (za [(V.sc (.int .u32 (0:Int))),(V.sc (.bool false)),(V.gs 1 ([]:List (List V))),(V.gs 35 ([]:List (List V))),(V.gs 32 ([]:List (List V)))] 0 v45) fun r47 =>
 chk ((List.length p8+List.length v46) * 32≤xh∧List.length p8+List.length v46≤xh) (
 lt (p8++v46) fun l48 =>
 k_hbbbbbbbbbbaba l48 p7 ((List.length p7:Nat):Int) (0:Int) r47 zBF zBG))) (fun v49 v50 =>
 chk ((List.length v49)=5∧0+5≤5) (
 lt (za [(V.sc (.int .u32 (0:Int))),(V.sc (.bool false)),(V.gs 1 ([]:List (List V))),(V.gs 35 ([]:List (List V))),(V.gs 32 ([]:List (List V)))] 0 v49) fun r51 =>
 chk ((List.length p8+List.length v50) * 32≤xh∧List.length p8+List.length v50≤xh) (
 lt (p8++v50) fun l52 =>
 k_hbbbbbbbbbbaba l52 p7 ((List.length p7:Nat):Int) (0:Int) r51 zBF zBG))))
def zfk {β:Type} (ya:yh) (zx:zae) (xb:yi) (yg:xB) (yb:xl) (zf:yr) (xg:zy) (zd:yk) (zr:zY) (L:Nat) (p7 p8:List (List V)) (p9:Int) (p94:List (List V)) (p95 p96:Int) (b5:List V) (zBF:List (List V)) (zBG:Int) (k_ret:Bool→List (List V)→Int→Option β) (k_hbbbbbbbaaababbbabbbabbba:zcg β) (k_x3:zkg β):Option β :=
 ifb (decide (p96 < p95)) (
 idx p94 p96 fun c53 =>
 chk ((List.length (List.take 32 c53))=32∧0+32≤32) (
 lt (za (List.replicate 32 (V.sc (.int .u8 (0:Int)))) 0 (List.take 32 c53)) fun r54 =>
 chk (0+32≤(List.length r54)) (
 zr β L p8 (List.take 32 r54) (fun v55 =>
 ifb v55 (
 k_ret false zBF zBG) (
 chk (0+32≤(List.length r54)) (
 zr β L p7 (List.take 32 r54) (fun v56 =>
 ifb (!v56) (
 k_ret false zBF zBG) (
 chk (0+5≤(List.length b5)) (
 chk (0+32≤(List.length r54)) (
 zf β L (List.map V.dem (List.take 5 b5)) (List.take 32 r54) (fun v57 v58 =>
 chk ((List.length v57)=5∧0+5≤5) (
 lt (za [(V.sc (.int .u32 (0:Int))),(V.sc (.bool false)),(V.gs 1 ([]:List (List V))),(V.gs 35 ([]:List (List V))),(V.gs 32 ([]:List (List V)))] 0 v57) fun r59 =>
 ifb ((v58:Int) != (0:Int)) (
 k_ret false zBF zBG) (
 chk (0+5≤(List.length r59)) (
 chk (0+32≤(List.length r54)) (
 chk ((List.length (List.take 32 r54))=32∧0+32≤32) (
 chk ((List.length p8+List.length (zc 32 1 (za (List.replicate 32 (V.sc (.int .u8 (0:Int)))) 0 (List.take 32 r54)))) * 32≤xh∧List.length p8+List.length (zc 32 1 (za (List.replicate 32 (V.sc (.int .u8 (0:Int)))) 0 (List.take 32 r54)))≤xh) (
 lt (p8++(zc 32 1 (za (List.replicate 32 (V.sc (.int .u8 (0:Int)))) 0 (List.take 32 r54)))) fun l60 =>
 chk ((List.length (List.take 5 r59))=5∧0+5≤(List.length b5)) (
 lt (za b5 0 (List.take 5 r59)) fun r61 =>
 lt (IntKind.wrap .i64 ((p96:Int)+(1:Int))) fun x62 =>
 k_hbbbbbbbaaababbbabbbabbba p7 l60 p9 p94 p95 x62 r61 zBF zBG)))))))))))))))))) (
 k_x3 p7 p8 p9 b5 zBF zBG)
def zjl {β:Type} (ya:yh) (zx:zae) (xb:yi) (yg:xB) (yb:xl) (zf:yr) (xg:zy) (zd:yk) (zr:zY) (L:Nat) (p8 zB1:List (List V)) (zB2 zBZ:Int) (b22:List V) (zBF:List (List V)) (zBG:Int) (k_ret:Bool→List (List V)→Int→Option β) (k_hbbbbbbbbbbaba:zej β) (k_x5:List V→List (List V)→Int→Option β):Option β :=
 ifb (decide (zBZ < zB2)) (
 idx zB1 zBZ fun c63 =>
 chk ((List.length (List.take 32 c63))=32∧0+32≤32) (
 lt (za (List.replicate 32 (V.sc (.int .u8 (0:Int)))) 0 (List.take 32 c63)) fun r64 =>
 chk (0+32≤(List.length r64)) (
 zr β L p8 (List.take 32 r64) (fun v65 =>
 ifb (!v65) (
 k_ret false zBF zBG) (
 lt (IntKind.wrap .i64 ((zBZ:Int)+(1:Int))) fun x66 =>
 k_hbbbbbbbbbbaba p8 zB1 zB2 x66 b22 zBF zBG))))) (
 k_x5 b22 zBF zBG)
def zeL {β:Type} (ya:yh) (zx:zae) (xb:yi) (yg:xB) (yb:xl) (zf:yr) (xg:zy) (zd:yk) (zr:zY) (L:Nat) (p4:Bool) (zBF:List (List V)) (zBG:Int) (k_ret:Bool→List (List V)→Int→Option β):Option β :=
 k_ret p4 zBF zBG
def zeV {β:Type} (ya:yh) (zx:zae) (xb:yi) (yg:xB) (yb:xl) (zf:yr) (xg:zy) (zd:yk) (zr:zY) (L:Nat) (p7 p8:List (List V)) (p9:Int) (b5:List V) (zBF:List (List V)) (zBG:Int) (k_hbbbbbbbaa:zbN β):Option β :=
 k_hbbbbbbbaa p7 p8 p9 b5 zBF zBG
def zh5 {β:Type} (ya:yh) (zx:zae) (xb:yi) (yg:xB) (yb:xl) (zf:yr) (xg:zy) (zd:yk) (zr:zY) (L:Nat) (p4:Bool) (zBF:List (List V)) (zBG:Int) (k_fin:Bool→Option β):Option β :=
 k_fin p4
def ziK {β:Type} (ya:yh) (zx:zae) (xb:yi) (yg:xB) (yb:xl) (zf:yr) (xg:zy) (zd:yk) (zr:zY) (L:Nat) (b22:List V) (zBF:List (List V)) (zBG:Int) (k_fin:Bool→Option β):Option β :=
 cLd 35 b22 3 fun v67 =>
 k_fin ((((List.length v67:Nat):Int):Int) == (0:Int))
def zj2 {β:Type} (ya:yh) (zx:zae) (xb:yi) (yg:xB) (yb:xl) (zf:yr) (xg:zy) (zd:yk) (zr:zY) (L:Nat) (p4:Bool) (zBF:List (List V)) (zBG:Int) (k_fin:Bool→Option β):Option β :=
 k_fin p4
def zcm {β:Type} (ya:yh) (zx:zae) (xb:yi) (yg:xB) (yb:xl) (zf:yr) (xg:zy) (zd:yk) (zr:zY) (L:Nat) (k_ret:Bool→List (List V)→Int→Option β) (k_x3:zkg β):Nat→List (List V)→List (List V)→Int→List (List V)→Int→Int→List V→List (List V)→Int→Option β
 | 0,_,_,_,_,_,_,_,_,_=>none
 | n+1,p7,p8,p9,p94,p95,p96,b5,zBF,zBG=>zfk ya zx xb yg yb zf xg zd zr L p7 p8 p9 p94 p95 p96 b5 zBF zBG k_ret (fun p7 p8 p9 p94 p95 p96 b5 zBF zBG=>zcm ya zx xb yg yb zf xg zd zr L k_ret k_x3 n p7 p8 p9 p94 p95 p96 b5 zBF zBG) k_x3
def zlc {β:Type} (ya:yh) (zx:zae) (xb:yi) (yg:xB) (yb:xl) (zf:yr) (xg:zy) (zd:yk) (zr:zY) (L:Nat) (p7 p8:List (List V)) (p9:Int) (b5:List V) (zBF:List (List V)) (zBG:Int) (k_hbbbbbbbaa:zbN β) (k_x0:zgm β) (k_ret:Bool→List (List V)→Int→Option β):Option β :=
 zlF ya zx xb yg yb zf xg zd zr L p7 p8 p9 b5 zBF zBG k_hbbbbbbbaa (fun p7 p8 p9 p94 p95 p96 b5 zBF zBG=>zcm ya zx xb yg yb zf xg zd zr L (fun p4 zBF zBG=>zeL ya zx xb yg yb zf xg zd zr L p4 zBF zBG k_ret) (fun p7 p8 p9 b5 zBF zBG=>zeV ya zx xb yg yb zf xg zd zr L p7 p8 p9 b5 zBF zBG k_hbbbbbbbaa) L p7 p8 p9 p94 p95 p96 b5 zBF zBG) k_x0
def zf4 {β:Type} (ya:yh) (zx:zae) (xb:yi) (yg:xB) (yb:xl) (zf:yr) (xg:zy) (zd:yk) (zr:zY) (L:Nat) (k_x0:zgm β) (k_ret:Bool→List (List V)→Int→Option β):Nat→List (List V)→List (List V)→Int→List V→List (List V)→Int→Option β
 | 0,_,_,_,_,_,_=>none
 | n+1,p7,p8,p9,b5,zBF,zBG=>zlc ya zx xb yg yb zf xg zd zr L p7 p8 p9 b5 zBF zBG (fun p7 p8 p9 b5 zBF zBG=>zf4 ya zx xb yg yb zf xg zd zr L k_x0 k_ret n p7 p8 p9 b5 zBF zBG) k_x0 k_ret
def zeD {β:Type} (ya:yh) (zx:zae) (xb:yi) (yg:xB) (yb:xl) (zf:yr) (xg:zy) (zd:yk) (zr:zY) (L:Nat) (k_ret:Bool→List (List V)→Int→Option β) (k_x5:List V→List (List V)→Int→Option β):Nat→List (List V)→List (List V)→Int→Int→List V→List (List V)→Int→Option β
 | 0,_,_,_,_,_,_,_=>none
 | n+1,p8,zB1,zB2,zBZ,b22,zBF,zBG=>zjl ya zx xb yg yb zf xg zd zr L p8 zB1 zB2 zBZ b22 zBF zBG k_ret (fun p8 zB1 zB2 zBZ b22 zBF zBG=>zeD ya zx xb yg yb zf xg zd zr L k_ret k_x5 n p8 zB1 zB2 zBZ b22 zBF zBG) k_x5
def zj1 {β:Type} (ya:yh) (zx:zae) (xb:yi) (yg:xB) (yb:xl) (zf:yr) (xg:zy) (zd:yk) (zr:zY) (L:Nat) (p7 p8:List (List V)) (p9:Int) (b5:List V) (zBF:List (List V)) (zBG:Int) (k_fin:Bool→Option β):Option β :=
 zkB ya zx xb yg yb zf xg zd zr L p7 p8 p9 b5 zBF zBG (fun p8 zB1 zB2 zBZ b22 zBF zBG=>zeD ya zx xb yg yb zf xg zd zr L (fun p4 zBF zBG=>zh5 ya zx xb yg yb zf xg zd zr L p4 zBF zBG k_fin) (fun b22 zBF zBG=>ziK ya zx xb yg yb zf xg zd zr L b22 zBF zBG k_fin) L p8 zB1 zB2 zBZ b22 zBF zBG)
def zq2 {β:Type} (ya:yh) (zx:zae) (xb:yi) (yg:xB) (yb:xl) (zf:yr) (xg:zy) (zd:yk) (zr:zY) (L:Nat) (p0 p1:List (List V)) (k_fin:Bool→Option β):Option β :=
 zqX ya zx xb yg yb zf xg zd zr L p0 p1 k_fin (fun p7 p8 p9 b5 zBF zBG=>zf4 ya zx xb yg yb zf xg zd zr L (fun p7 p8 p9 b5 zBF zBG=>zj1 ya zx xb yg yb zf xg zd zr L p7 p8 p9 b5 zBF zBG k_fin) (fun p4 zBF zBG=>zj2 ya zx xb yg yb zf xg zd zr L p4 zBF zBG k_fin) L p7 p8 p9 b5 zBF zBG)
abbrev zqR:=∀ (β:Type),Nat→List (List V)→List (List V)→(Bool→Option β)→Option β
def zlR (β:Type) (L:Nat) (p0 p1:List (List V)) (k_fin:Bool→Option β):Option β:=zq2 ya zx xb yg yb zf xg zd zr L p0 p1 k_fin
def zys (zlR:zqR) (L:Nat) (β:Type) (args:List V) (bor:Bor) (k:KK β):Option β:=match args,bor with
 | [a0,a1],[]=>aL 1 a0 fun p0=>aL 1 a1 fun p1=>zlR β L p0 p1 (fun p0=>k (V.sc (.bool p0)) [])
 | _,_=>none
def gls:List (Nat × List V):=[]
def fg:List (Nat × Nat):=[(3,325),(4,326),(5,327),(6,328),(7,329),(8,330),(9,331),(10,332),(11,333),(12,217),(13,334),(14,335),(15,336),(16,337),(17,338),(18,225),(19,339),(20,231),(21,340),(22,341),(23,342),(24,343),(25,344),(26,345),(27,346),(28,347),(29,348),(30,349),(31,350),(32,351),(33,352),(34,353),(35,247),(36,354),(37,274),(38,355),(39,356),(40,357),(41,358),(42,359),(43,360),(44,361),(45,362),(46,319),(47,363),(48,248),(49,364),(50,365),(51,366),(52,367),(53,368),(54,369),(55,370),(56,371),(57,372),(58,373),(59,254)]
def rows:List Row:=[⟨13,334,zna,zdC⟩,⟨15,336,znh,zcF⟩,⟨17,338,zka,zbb⟩,⟨10,332,znn,zis⟩,⟨18,225,zpg,zkP⟩,⟨35,247,zj7,ze5⟩,⟨12,217,zpi,zk0⟩,⟨20,231,zj8,ze3⟩,⟨19,339,znm,zbu⟩,⟨38,355,zlU,zgv⟩,⟨21,340,zmG,zhD⟩,⟨54,369,zld,zfv⟩,⟨39,356,zmr,zP⟩,⟨58,373,zlS,zgC⟩,⟨57,372,zcz,zw⟩,⟨47,363,znb,zf0⟩,⟨59,254,zdc,yG⟩,⟨48,248,zcE,zaj⟩,⟨25,344,zmS,zhr⟩,⟨43,360,zf9,zcr⟩,⟨55,370,zdd,zaD⟩,⟨56,371,zdh,zaC⟩,⟨41,358,zlP,zgo⟩,⟨42,359,zmQ,zhA⟩,⟨27,346,znd,zin⟩,⟨50,365,zok,zda⟩,⟨49,364,znz,zcI⟩,⟨45,362,zmF,xO⟩,⟨26,345,zmq,zhu⟩,⟨46,319,zmW,zhn⟩,⟨28,347,znx,zij⟩,⟨33,352,ziS,zaB⟩,⟨24,343,znc,zcJ⟩,⟨7,329,ziY,zaA⟩,⟨51,366,zc1,zdy⟩,⟨29,348,zmm,zn8⟩,⟨30,349,zmA,zow⟩,⟨53,368,zmT,zof⟩,⟨52,367,zcl,zcG⟩,⟨31,350,zod,zp0⟩,⟨32,351,zoC,zpP⟩,⟨8,330,zid,zju⟩,⟨34,353,zpl,zq6⟩,⟨36,354,zom,zqg⟩,⟨9,331,zjU,zk4⟩]
theorem zuC:zZ Try.prog (yS fg gls) zna 13=some zdC:=by kernel_rfl
theorem zuN:zZ Try.prog (yS fg gls) znh 15=some zcF:=by kernel_rfl
theorem zqZ:zZ Try.prog (yS fg gls) zka 17=some zbb:=by kernel_rfl
theorem zuV:zZ Try.prog (yS fg gls) znn 10=some zis:=by kernel_rfl
theorem zwi:zZ Try.prog (yS fg gls) zpg 18=some zkP:=by kernel_rfl
theorem zqN:zZ Try.prog (yS fg gls) zj7 35=some ze5:=by kernel_rfl
theorem zv6:zZ Try.prog (yS fg gls) zpi 12=some zk0:=by kernel_rfl
theorem zqT:zZ Try.prog (yS fg gls) zj8 20=some ze3:=by kernel_rfl
theorem zuM:zZ Try.prog (yS fg gls) znm 19=some zbu:=by kernel_rfl
theorem zsF:zZ Try.prog (yS fg gls) zlU 38=some zgv:=by kernel_rfl
theorem zt3:zZ Try.prog (yS fg gls) zmG 21=some zhD:=by kernel_rfl
theorem zrU:zZ Try.prog (yS fg gls) zld 54=some zfv:=by kernel_rfl
theorem ztz:zZ Try.prog (yS fg gls) zmr 39=some zP:=by kernel_rfl
theorem zsU:zZ Try.prog (yS fg gls) zlS 58=some zgC:=by kernel_rfl
theorem zgg:zZ Try.prog (yS fg gls) zcz 57=some zw:=by kernel_rfl
theorem zuP:zZ Try.prog (yS fg gls) znb 47=some zf0:=by kernel_rfl
theorem zh1:zZ Try.prog (yS fg gls) zdc 59=some yG:=by kernel_rfl
theorem zgH:zZ Try.prog (yS fg gls) zcE 48=some zaj:=by kernel_rfl
theorem ztt:zZ Try.prog (yS fg gls) zmS 25=some zhr:=by kernel_rfl
theorem zmo:zZ Try.prog (yS fg gls) zf9 43=some zcr:=by kernel_rfl
theorem zhR:zZ Try.prog (yS fg gls) zdd 55=some zaD:=by kernel_rfl
theorem zhX:zZ Try.prog (yS fg gls) zdh 56=some zaC:=by kernel_rfl
theorem zsC:zZ Try.prog (yS fg gls) zlP 41=some zgo:=by kernel_rfl
theorem ztF:zZ Try.prog (yS fg gls) zmQ 42=some zhA:=by kernel_rfl
theorem zuT:zZ Try.prog (yS fg gls) znd 27=some zin:=by kernel_rfl
theorem zvw:zZ Try.prog (yS fg gls) zok 50=some zda:=by kernel_rfl
theorem zuQ:zZ Try.prog (yS fg gls) znz 49=some zcI:=by kernel_rfl
theorem ztu:zZ Try.prog (yS fg gls) zmF 45=some xO:=by kernel_rfl
theorem zt2:zZ Try.prog (yS fg gls) zmq 26=some zhu:=by kernel_rfl
theorem zty:zZ Try.prog (yS fg gls) zmW 46=some zhn:=by kernel_rfl
theorem zuH:zZ Try.prog (yS fg gls) znx 28=some zij:=by kernel_rfl
theorem zps:zZ Try.prog (yS fg gls) ziS 33=some zaB:=by kernel_rfl
theorem zuB:zZ Try.prog (yS fg gls) znc 24=some zcJ:=by kernel_rfl
theorem zpA:zZ Try.prog (yS fg gls) ziY 7=some zaA:=by kernel_rfl
theorem zhj:zZ Try.prog (yS fg gls) zc1 51=some zdy:=by kernel_rfl
theorem ztw:zZ Try.prog (yS fg gls) zmm 29=some zn8:=by kernel_rfl
theorem ztG:zZ Try.prog (yS fg gls) zmA 30=some zow:=by kernel_rfl
theorem ztH:zZ Try.prog (yS fg gls) zmT 53=some zof:=by kernel_rfl
theorem zf1:zZ Try.prog (yS fg gls) zcl 52=some zcG:=by kernel_rfl
theorem zvn:zZ Try.prog (yS fg gls) zod 31=some zp0:=by kernel_rfl
theorem zvK:zZ Try.prog (yS fg gls) zoC 32=some zpP:=by kernel_rfl
theorem zo6:zZ Try.prog (yS fg gls) zid 8=some zju:=by kernel_rfl
theorem zv8:zZ Try.prog (yS fg gls) zpl 34=some zq6:=by kernel_rfl
theorem zvs:zZ Try.prog (yS fg gls) zom 36=some zqg:=by kernel_rfl
theorem zpM:zZ Try.prog (yS fg gls) zjU 9=some zk4:=by kernel_rfl
theorem zzZ:∀ r ∈ rows,(r.f,r.g) ∈ fg∧zfA Try.prog r.f=true∧zZ Try.prog (yS fg gls) r.h r.f=some r.c:=by
 intro r hr
 simp only [rows,List.mem_cons,List.not_mem_nil,or_false] at hr
 rcases hr with rfl | rfl | rfl | rfl | rfl | rfl | rfl | rfl | rfl | rfl | rfl | rfl | rfl | rfl | rfl | rfl | rfl | rfl | rfl | rfl | rfl | rfl | rfl | rfl | rfl | rfl | rfl | rfl | rfl | rfl | rfl | rfl | rfl | rfl | rfl | rfl | rfl | rfl | rfl | rfl | rfl | rfl | rfl | rfl | rfl
 ·exact ⟨of_decide_eq_true (by kernel_rfl),by kernel_rfl,zuC⟩
 ·exact ⟨of_decide_eq_true (by kernel_rfl),by kernel_rfl,zuN⟩
 ·exact ⟨of_decide_eq_true (by kernel_rfl),by kernel_rfl,zqZ⟩
 ·exact ⟨of_decide_eq_true (by kernel_rfl),by kernel_rfl,zuV⟩
 ·exact ⟨of_decide_eq_true (by kernel_rfl),by kernel_rfl,zwi⟩
 ·exact ⟨of_decide_eq_true (by kernel_rfl),by kernel_rfl,zqN⟩
 ·exact ⟨of_decide_eq_true (by kernel_rfl),by kernel_rfl,zv6⟩
 ·exact ⟨of_decide_eq_true (by kernel_rfl),by kernel_rfl,zqT⟩
 ·exact ⟨of_decide_eq_true (by kernel_rfl),by kernel_rfl,zuM⟩
 ·exact ⟨of_decide_eq_true (by kernel_rfl),by kernel_rfl,zsF⟩
 ·exact ⟨of_decide_eq_true (by kernel_rfl),by kernel_rfl,zt3⟩
 ·exact ⟨of_decide_eq_true (by kernel_rfl),by kernel_rfl,zrU⟩
 ·exact ⟨of_decide_eq_true (by kernel_rfl),by kernel_rfl,ztz⟩
 ·exact ⟨of_decide_eq_true (by kernel_rfl),by kernel_rfl,zsU⟩
 ·exact ⟨of_decide_eq_true (by kernel_rfl),by kernel_rfl,zgg⟩
 ·exact ⟨of_decide_eq_true (by kernel_rfl),by kernel_rfl,zuP⟩
 ·exact ⟨of_decide_eq_true (by kernel_rfl),by kernel_rfl,zh1⟩
 ·exact ⟨of_decide_eq_true (by kernel_rfl),by kernel_rfl,zgH⟩
 ·exact ⟨of_decide_eq_true (by kernel_rfl),by kernel_rfl,ztt⟩
 ·exact ⟨of_decide_eq_true (by kernel_rfl),by kernel_rfl,zmo⟩
 ·exact ⟨of_decide_eq_true (by kernel_rfl),by kernel_rfl,zhR⟩
 ·exact ⟨of_decide_eq_true (by kernel_rfl),by kernel_rfl,zhX⟩
 ·exact ⟨of_decide_eq_true (by kernel_rfl),by kernel_rfl,zsC⟩
 ·exact ⟨of_decide_eq_true (by kernel_rfl),by kernel_rfl,ztF⟩
 ·exact ⟨of_decide_eq_true (by kernel_rfl),by kernel_rfl,zuT⟩
 ·exact ⟨of_decide_eq_true (by kernel_rfl),by kernel_rfl,zvw⟩
 ·exact ⟨of_decide_eq_true (by kernel_rfl),by kernel_rfl,zuQ⟩
 ·exact ⟨of_decide_eq_true (by kernel_rfl),by kernel_rfl,ztu⟩
 ·exact ⟨of_decide_eq_true (by kernel_rfl),by kernel_rfl,zt2⟩
 ·exact ⟨of_decide_eq_true (by kernel_rfl),by kernel_rfl,zty⟩
 ·exact ⟨of_decide_eq_true (by kernel_rfl),by kernel_rfl,zuH⟩
 ·exact ⟨of_decide_eq_true (by kernel_rfl),by kernel_rfl,zps⟩
 ·exact ⟨of_decide_eq_true (by kernel_rfl),by kernel_rfl,zuB⟩
 ·exact ⟨of_decide_eq_true (by kernel_rfl),by kernel_rfl,zpA⟩
 ·exact ⟨of_decide_eq_true (by kernel_rfl),by kernel_rfl,zhj⟩
 ·exact ⟨of_decide_eq_true (by kernel_rfl),by kernel_rfl,ztw⟩
 ·exact ⟨of_decide_eq_true (by kernel_rfl),by kernel_rfl,ztG⟩
 ·exact ⟨of_decide_eq_true (by kernel_rfl),by kernel_rfl,ztH⟩
 ·exact ⟨of_decide_eq_true (by kernel_rfl),by kernel_rfl,zf1⟩
 ·exact ⟨of_decide_eq_true (by kernel_rfl),by kernel_rfl,zvn⟩
 ·exact ⟨of_decide_eq_true (by kernel_rfl),by kernel_rfl,zvK⟩
 ·exact ⟨of_decide_eq_true (by kernel_rfl),by kernel_rfl,zo6⟩
 ·exact ⟨of_decide_eq_true (by kernel_rfl),by kernel_rfl,zv8⟩
 ·exact ⟨of_decide_eq_true (by kernel_rfl),by kernel_rfl,zvs⟩
 ·exact ⟨of_decide_eq_true (by kernel_rfl),by kernel_rfl,zpM⟩
theorem zAZ:Try.prog.follows .mixedOrders=true:=by kernel_rfl
theorem zAN:zyH fg=true:=by kernel_rfl
theorem zAO (L d:Nat):zgM Try.prog (yS fg gls) (evF (y8 rows) zy6 L d):=zzF zAZ zAN zzZ L d
theorem ztx (L:Nat):FOk (y8 rows) L 334 (zjV zad L) 1:=xX (D:=0) (by kernel_rfl) fun m hm=>⟨zbv,zbx L,yX,zsw L⟩
theorem ztC (L:Nat):FOk (y8 rows) L 336 (zjJ zaa L) 1:=xX (D:=0) (by kernel_rfl) fun m hm=>⟨za8,za6 L,yX,ztd L⟩
theorem zk7 (L:Nat):FOk (y8 rows) L 338 (zd7 yf L) 1:=xX (D:=0) (by kernel_rfl) fun m hm=>⟨z4,y4 L,yX,zpz L⟩
theorem ztV (L:Nat):FOk (y8 rows) L 332 (zfg ya L) 2:=xX (D:=1) (by kernel_rfl) fun m hm=>⟨zlE,zlN zad zaa yf L,(yJ (yJ (yJ yX (ztx L m (by omega))) (ztC L m (by omega))) (zk7 L m (by omega))),zsY L⟩
theorem zvM (L:Nat):FOk (y8 rows) L 225 (zhl xb L) 1:=xX (D:=0) (by kernel_rfl) fun m hm=>⟨znT,znM L,yX,zuI L⟩
theorem zqu (L:Nat):FOk (y8 rows) L 247 (zd6 yg L) 1:=xX (D:=0) (by kernel_rfl) fun m hm=>⟨zh2,zhS L,yX,zpv L⟩
theorem zmM (L:Nat):FOk (y8 rows) L 217 (zfK xd L) 1:=xX (D:=0) (by kernel_rfl) fun m hm=>⟨znR,znF L,yX,zuW L⟩
theorem zqi (L:Nat):FOk (y8 rows) L 231 (zd8 yb L) 2:=xX (D:=1) (by kernel_rfl) fun m hm=>⟨zhW,zhL yg xd L,(yJ (yJ yX (zqu L m (by omega))) (zmM L m (by omega))),zpE L⟩
theorem ztS (L:Nat):FOk (y8 rows) L 339 (zgX yd L) 3:=xX (D:=2) (by kernel_rfl) fun m hm=>⟨zR,xQ yb L,(yJ yX (zqi L m (by omega))),zsL L⟩
theorem zmD (L:Nat):FOk (y8 rows) L 355 (zcZ yj L) 1:=xX (D:=0) (by kernel_rfl) fun m hm=>⟨zjF,zjb L,yX,zqS L⟩
theorem zsv (L:Nat):FOk (y8 rows) L 340 (zfX xa L) 2:=xX (D:=1) (by kernel_rfl) fun m hm=>⟨zkk,zkt yj xd L,(yJ (yJ yX (zmD L m (by omega))) (zmM L m (by omega))),zrA L⟩
theorem zqP (L:Nat):FOk (y8 rows) L 369 (zgA ze L) 1:=xX (D:=0) (by kernel_rfl) fun m hm=>⟨ziC,ziv L,yX,zpL L⟩
theorem ztr (L:Nat):FOk (y8 rows) L 356 (zev zB L) 2:=xX (D:=1) (by kernel_rfl) fun m hm=>⟨xy,zz ze L,(yJ yX (zqP L m (by omega))),zru L⟩
theorem zrX (L:Nat):FOk (y8 rows) L 373 (zfd zg L) 1:=xX (D:=0) (by kernel_rfl) fun m hm=>⟨zjW,zjY L,yX,zqU L⟩
theorem zf5 (L:Nat):FOk (y8 rows) L 372 (zam zk L) 2:=xX (D:=1) (by kernel_rfl) fun m hm=>⟨xt,zt zg L,(yJ yX (zrX L m (by omega))),zfG L⟩
theorem ztY (L:Nat):FOk (y8 rows) L 363 (zjZ zW L) 3:=xX (D:=2) (by kernel_rfl) fun m hm=>⟨zlL,zlp zk L,(yJ yX (zf5 L m (by omega))),zr5 L⟩
theorem zhE (L:Nat):FOk (y8 rows) L 254 (zaQ xn L) 1:=xX (D:=0) (by kernel_rfl) fun m hm=>⟨xx,yx L,yX,zha L⟩
theorem zgn (L:Nat):FOk (y8 rows) L 248 (xW zh L) 2:=xX (D:=1) (by kernel_rfl) fun m hm=>⟨zbh,zbj xn L,(yJ yX (zhE L m (by omega))),zf7 L⟩
theorem ztn (L:Nat):FOk (y8 rows) L 344 (zik xP L) 1:=xX (D:=0) (by kernel_rfl) fun m hm=>⟨zkF,zks L,yX,zrD L⟩
theorem zl1 (L:Nat):FOk (y8 rows) L 360 (zcS yw L) 1:=xX (D:=0) (by kernel_rfl) fun m hm=>⟨zd0,zd9 L,yX,zlI L⟩
theorem zhv (L:Nat):FOk (y8 rows) L 370 (zaU zm L) 1:=xX (D:=0) (by kernel_rfl) fun m hm=>⟨zbM,zbJ L,yX,zhc L⟩
theorem zhB (L:Nat):FOk (y8 rows) L 371 (zaT ym L) 1:=xX (D:=0) (by kernel_rfl) fun m hm=>⟨zbH,zbI L,yX,zg8 L⟩
theorem zrN (L:Nat):FOk (y8 rows) L 358 (zdW zu L) 2:=xX (D:=1) (by kernel_rfl) fun m hm=>⟨zjN,zjG yw zm ym L,(yJ (yJ (yJ yX (zl1 L m (by omega))) (zhv L m (by omega))) (zhB L m (by omega))),zqV L⟩
theorem zsi (L:Nat):FOk (y8 rows) L 359 (zip zK L) 1:=xX (D:=0) (by kernel_rfl) fun m hm=>⟨zkD,zkE L,yX,zr0 L⟩
theorem ztA (L:Nat):FOk (y8 rows) L 346 (zhd zd L) 4:=xX (D:=3) (by kernel_rfl) fun m hm=>⟨zlv,zlM zB zW zh xP zu zK L,(yJ (yJ (yJ (yJ (yJ (yJ yX (ztr L m (by omega))) (ztY L m (by omega))) (zgn L m (by omega))) (ztn L m (by omega))) (zrN L m (by omega))) (zsi L m (by omega))),zsG L⟩
theorem zpa (L:Nat):FOk (y8 rows) L 365 (zgb xc L) 1:=xX (D:=0) (by kernel_rfl) fun m hm=>⟨zbs,zbp L,yX,ztP L⟩
theorem zop (L:Nat):FOk (y8 rows) L 364 (ze8 zb L) 1:=xX (D:=0) (by kernel_rfl) fun m hm=>⟨za3,za9 L,yX,ztq L⟩
theorem ztc (L:Nat):FOk (y8 rows) L 362 (zet yq L) 2:=xX (D:=1) (by kernel_rfl) fun m hm=>⟨yz,yy xc zb L,(yJ (yJ yX (zpa L m (by omega))) (zop L m (by omega))),zrx L⟩
theorem zs6 (L:Nat):FOk (y8 rows) L 345 (zio zQ L) 1:=xX (D:=0) (by kernel_rfl) fun m hm=>⟨zkH,zkz L,yX,zrr L⟩
theorem zta (L:Nat):FOk (y8 rows) L 319 (zii zN L) 1:=xX (D:=0) (by kernel_rfl) fun m hm=>⟨zkM,zkw L,yX,zrv L⟩
theorem ztN (L:Nat):FOk (y8 rows) L 347 (zjg xe L) 3:=xX (D:=2) (by kernel_rfl) fun m hm=>⟨zlr,zls yq zb xc yj zQ zN L,(yJ (yJ (yJ (yJ (yJ (yJ yX (ztc L m (by omega))) (zop L m (by omega))) (zpa L m (by omega))) (zmD L m (by omega))) (zs6 L m (by omega))) (zta L m (by omega))),zsK L⟩
theorem zoU (L:Nat):FOk (y8 rows) L 352 (zde ye L) 1:=xX (D:=0) (by kernel_rfl) fun m hm=>⟨zT,yT L,yX,zoc L⟩
theorem ztR (L:Nat):FOk (y8 rows) L 343 (zgS yc L) 2:=xX (D:=1) (by kernel_rfl) fun m hm=>⟨za2,za4 yf ye L,(yJ (yJ yX (zk7 L m (by omega))) (zoU L m (by omega))),zr3 L⟩
theorem zoT (L:Nat):FOk (y8 rows) L 329 (zgK zcd L) 5:=xX (D:=4) (by kernel_rfl) fun m hm=>⟨zp,yp ya xb yd xa xd zd xe yc L,(yJ (yJ (yJ (yJ (yJ (yJ (yJ (yJ yX (ztV L m (by omega))) (zvM L m (by omega))) (ztS L m (by omega))) (zsv L m (by omega))) (zmM L m (by omega))) (ztA L m (by omega))) (ztN L m (by omega))) (ztR L m (by omega))),zob L⟩
end
section
open Go.ChangeShapes Go.WideShapes Go.RowKit Go.Deep
set_option linter.unusedVariables false
set_option linter.unusedSimpArgs false
inductive CT where
 | int (k:IntKind)
 | bool
 | str
 | sl (cs:List CT)
inductive HasC:CT→V→Prop
 | int (k:IntKind) (n:Int) (h:(Lit.int k n).wf=true):HasC (.int k) (.sc (.int k n))
 | bool (b:Bool):HasC .bool (.sc (.bool b))
 | str (s:ByteArray) (h:s.size≤maxLen):HasC .str (.sc (.string s))
 | sl (cs:List CT) (es:List (List V)) (hl:es.length≤maxLen) (h0:∀ e ∈ es,e.length=cs.length) (h:∀ e ∈ es,∀ (i:Nat) (c:V) (ct:CT),e[i]?=some c→cs[i]?=some ct→HasC ct c):HasC (.sl cs) (.sl cs.length es)
def HasRow (cts:List CT) (vs:List V):Prop:=vs.length=cts.length∧∀ (i:Nat) (c:V) (ct:CT),vs[i]?=some c→cts[i]?=some ct→HasC ct c
def zqB (f:TypeId→Option (List CT)) (size:TypeId→Nat):List Field→Nat→Option (List CT)
 | [],_=>some []
 | x::xs,off=>do
  let a ← f x.type
  if x.offset=off∧size x.type=a.length then
   let b ← zqB f size xs (off+a.length)
   some (a++b)
  else none
def zkK (P:Program):Nat→TypeId→Option (List CT)
 | 0,_=>none
 | d+1,t=>match P.underlying t with
  | some .bool=>some [.bool]
  | some (.int k)=>some [.int k]
  | some .string=>some [.str]
  | some (.slice e)=>do
   let c ← zkK P d e
   if P.cellsOf e=c.length∧0 < c.length then some [.sl c] else none
  | some (.array n e)=>do
   let c ← zkK P d e
   if P.cellsOf e=c.length∧P.cellsOf t=n * c.length then some (List.replicate n c).flatten else none
  | some (.struct fs)=>do
   let c ← zqB (zkK P d) P.cellsOf fs.toList 0
   if P.cellsOf t=c.length then some c else none
  | _=>none
section
variable {H:Type} {enc:TypeId × Value→H} {P:Program} {w:World} {base:Nat} {spare:Nat→Bool} {held:Bool} {ren:Rn}
def RdC (ren:Rn) (w:World) (cts:List CT) (cs:List Value) (vs:List V):Prop :=
 cs.length=cts.length∧vs.length=cts.length∧∀ (i:Nat) (u:Value) (v:V) (ct:CT),cs[i]?=some u→vs[i]?=some v→cts[i]?=some ct→u.oneCell'=true∧RepP ren w zgR v u∧HasC ct v
theorem RdC.one {ct:CT} {u:Value} {v:V} (h1:u.oneCell'=true) (h2:RepP ren w zgR v u) (h3:HasC ct v):RdC ren w [ct] [u] [v]:=by
 refine ⟨rfl,rfl,fun i u' v' ct' hu hv hc=>?_⟩
 cases i with
 | zero=>simp at hu hv hc; subst hu; subst hv; subst hc; exact ⟨h1,h2,h3⟩
 | succ i=>simp at hu
theorem RdC.nil:RdC ren w [] [] []:=⟨rfl,rfl,fun i u v ct h=>by simp at h⟩
theorem RdC.app {c1 c2:List CT} {a1 a2:List Value} {b1 b2:List V} (h1:RdC ren w c1 a1 b1) (h2:RdC ren w c2 a2 b2):RdC ren w (c1++c2) (a1++a2) (b1++b2):=by
 obtain ⟨l1,m1,q1⟩:=h1
 obtain ⟨l2,m2,q2⟩:=h2
 refine ⟨by simp [l1,l2],by simp [m1,m2],fun i u v ct hu hv hc=>?_⟩
 by_cases hi:i < c1.length
 ·rw [List.getElem?_append_left (by omega)] at hu hv hc
  exact q1 i u v ct hu hv hc
 ·rw [List.getElem?_append_right (by omega)] at hu hv hc
  rw [l1] at hu; rw [m1] at hv
  exact q2 _ u v ct hu hv hc
theorem RdC.row {cts:List CT} {cs:List Value} {vs:List V} (h:RdC ren w cts cs vs):HasRow cts vs:=by
 refine ⟨h.2.1,fun i c ct hc ht=>?_⟩
 have hlt:i < cs.length:=by rw [h.1,← h.2.1]; exact (List.getElem?_eq_some_iff.1 hc).1
 exact (h.2.2 i _ c ct (List.getElem?_eq_getElem hlt) hc ht).2.2
theorem zqz {f:TypeId→Option (List CT)} {size:TypeId→Nat} {cs:List Value} (rd:∀ (t:TypeId) (cts:List CT),f t=some cts→∀ x ∈ ([]:List Nat),True) :
  ∀ (fs:List Field) (off:Nat) (cts:List CT),zqB f size fs off=some cts→(∀ x ∈ fs,∀ a,f x.type=some a→∃ vs,RdC ren w a ((cs.drop x.offset).take (size x.type)) vs)→∃ vs,RdC ren w cts ((cs.drop off).take cts.length) vs
 | [],off,cts,h,_=>by
  cases h
  exact ⟨[],by simpa using RdC.nil⟩
 | x::xs,off,cts,h,H=>by
  simp only [zqB,Option.bind_eq_bind,Option.bind_eq_some_iff] at h
  obtain ⟨a,ha,h⟩:=h
  split at h
  ·rename_i hc
   simp only [Option.bind_eq_some_iff,Option.some.injEq] at h
   obtain ⟨b,hb,rfl⟩:=h
   obtain ⟨vs1,r1⟩:=H x (by simp) a ha
   obtain ⟨vs2,r2⟩:=zqz rd xs _ b hb (fun y hy=>H y (by simp [hy]))
   refine ⟨vs1++vs2,?_⟩
   have e:(cs.drop off).take (a++b).length=(cs.drop x.offset).take (size x.type)++(cs.drop (off+a.length)).take b.length:=by
    rw [hc.1,hc.2,List.length_append,List.take_add,List.drop_drop]
   rw [e]
   exact r1.app r2
  ·cases h
theorem zrm {cs:List Value} {c:List CT}:∀ (n m:Nat),(∀ i,i < n→∃ vs,RdC ren w c ((cs.drop ((m+i) * c.length)).take c.length) vs)→∃ vs,RdC ren w (List.replicate n c).flatten ((cs.drop (m * c.length)).take (n * c.length)) vs
 | 0,m,H=>⟨[],by simpa using RdC.nil⟩
 | n+1,m,H=>by
  obtain ⟨vs1,r1⟩:=H 0 (by omega)
  obtain ⟨vs2,r2⟩:=zrm n (m+1) (fun i hi=>by
   obtain ⟨vs,r⟩:=H (i+1) (by omega)
   exact ⟨vs,by rw [show m+1+i=m+(i+1) by omega]; exact r⟩)
  refine ⟨vs1++vs2,?_⟩
  have e:(cs.drop (m * c.length)).take ((n+1) * c.length)=(cs.drop ((m+0) * c.length)).take c.length++(cs.drop ((m+1) * c.length)).take (n * c.length):=by
   rw [Nat.add_zero,Nat.add_mul n,Nat.one_mul,Nat.add_comm (n * c.length),List.take_add,List.drop_drop,show (m+1) * c.length=m * c.length+c.length by rw [Nat.add_mul,Nat.one_mul]]
   rw [show m+0=m from rfl]
  rw [e,List.replicate_succ,List.flatten_cons]
  exact r1.app r2
theorem zvP {α:Type} {n:Nat}:∀ (es:List (List α)),(∀ e ∈ es,e.length=n)→0 < n→∀ (i:Nat),es.flatten[i]?=(es[i / n]?).bind (fun e=>e[i % n]?)
 | [],_,_,i=>by simp
 | e::es,h,hn,i=>by
  have he:=h e (by simp)
  rw [List.flatten_cons]
  by_cases hi:i < n
  ·rw [List.getElem?_append_left (by omega),Nat.div_eq_of_lt hi,Nat.mod_eq_of_lt hi]; simp
  ·rw [List.getElem?_append_right (by omega),zvP es (fun x hx=>h x (by simp [hx])) hn,he]
   obtain ⟨j,rfl⟩:∃ j,i=j+n:=⟨i - n,by omega⟩
   rw [Nat.add_sub_cancel,Nat.add_div_right _ hn,Nat.add_mod_right]
   simp
theorem zmZ:∀ (d:Nat) (t:TypeId) (cts:List CT),zkK P d t=some cts→∀ (fuel:Nat) (cs:List Value) (x:DataW H × List MemPlace),DataW.trod enc P w base spare held fuel t cs=some x→∃ vs,RdC ren w cts cs vs
 | 0,t,cts,h,fuel,cs,x,hx=>by cases h
 | d+1,t,cts,h,fuel,cs,x,hx=>by
  unfold zkK at h
  split at h
  ·rename_i ht
   cases h
   obtain ⟨b,rfl,_⟩:=DataW.trod_bool ht hx
   exact ⟨[.sc (.bool b)],.one rfl (.sc _ rfl) (.bool b)⟩
  ·rename_i k ht
   cases h
   obtain ⟨n,rfl,_,hw⟩:=DataW.trod_int ht hx
   exact ⟨[.sc (.int k n)],.one rfl (.sc _ rfl) (.int k n hw)⟩
  ·rename_i ht
   cases h
   obtain ⟨s,rfl,_,hw⟩:=DataW.trod_string ht hx
   exact ⟨[.sc (.string s)],.one rfl (.sc _ rfl) (.str s hw)⟩
  ·rename_i e ht
   simp only [Option.bind_eq_bind,Option.bind_eq_some_iff] at h
   obtain ⟨c,hc,h⟩:=h
   split at h
   ·rename_i hsz
    obtain ⟨hsz,hpos⟩:=hsz
    cases h
    rcases open_slice ht hx with ⟨rfl,_⟩ | ⟨a,len,cap,m,n,D,Pl,rfl,_,hl,hm,hmm,_,hi⟩
    ·refine ⟨[.sl c.length []],.one rfl (.sl _ [] none 0 (fun _=>undef) (Nat.le_refl _) (by simp) 0 0 (by simp) (by simp) (by simp) (by simp)) (.sl c [] (by simp) (by simp) (by simp))⟩
    ·have hlm:len≤m:=by rw [hmm]; split <;> omega
     have each:∀ i,i < len→∃ (us:List Value) (vs:List V),RdC ren w c us vs∧∀ j,j < c.length→w.cell? ((a.add (i * c.length)).add j)=us[j]?:=by
      intro i hil
      obtain ⟨cs',h1,h2⟩:=hi i (by omega)
      rw [hsz] at h1
      obtain ⟨_,hcl,hat⟩:=World.cells?_some h1
      obtain ⟨vs,r⟩:=zmZ d e c hc _ _ _ h2
      exact ⟨cs',vs,r,hat⟩
     have hex:∃ (us:Nat→List Value) (vs:Nat→List V),∀ i,i < len→RdC ren w c (us i) (vs i)∧∀ j,j < c.length→w.cell? ((a.add (i * c.length)).add j)=(us i)[j]?:=by
      have:∀ i,∃ p:List Value × List V,i < len→RdC ren w c p.1 p.2∧∀ j,j < c.length→w.cell? ((a.add (i * c.length)).add j)=p.1[j]?:=by
       intro i
       by_cases hil:i < len
       ·obtain ⟨us,vs,q⟩:=each i hil; exact ⟨(us,vs),fun _=>q⟩
       ·exact ⟨([],[]),fun h=>absurd h hil⟩
      refine ⟨fun i=>(Classical.choose (this i)).1,fun i=>(Classical.choose (this i)).2,fun i hil=>Classical.choose_spec (this i) hil⟩
     obtain ⟨us,vs,hrow⟩:=hex
     have hget:∀ i,i < len→((List.range len).map vs)[i]?=some (vs i):=fun i hil=>by simp [hil]
     have hsz2:∀ e ∈ (List.range len).map vs,e.length=c.length:=by
      intro e he
      obtain ⟨i,hil,rfl⟩:=List.mem_map.1 he
      exact (hrow i (List.mem_range.1 hil)).1.2.1
     have cell:∀ (i:Nat) (v:V),((List.range len).map vs).flatten[i]?=some v→0 < c.length∧i / c.length < len∧(vs (i / c.length))[i % c.length]?=some v∧∃ u,(us (i / c.length))[i % c.length]?=some u∧u.oneCell'=true∧RepP ren w zgR v u∧w.cell? ((a.add (i / c.length * c.length)).add (i % c.length))=some u:=by
      intro i v hv
      have hpos:0 < c.length:=by
       rcases Nat.eq_zero_or_pos c.length with h0 | h0
       ·have:((List.range len).map vs).flatten=[]:=by
         rw [List.flatten_eq_nil_iff]
         intro l hl'
         exact List.length_eq_zero_iff.1 ((hsz2 l hl').trans h0)
        rw [this] at hv; simp at hv
       ·exact h0
      rw [zvP _ hsz2 hpos] at hv
      have hlt:i / c.length < len:=by
       cases hq:((List.range len).map vs)[i / c.length]? with
       | none=>rw [hq] at hv; simp at hv
       | some e=>have:=(List.getElem?_eq_some_iff.1 hq).1; simpa using this
      rw [hget _ hlt] at hv
      have hv:(vs (i / c.length))[i % c.length]?=some v:=hv
      have hr:=hrow _ hlt
      have hm:=Nat.mod_lt i hpos
      have hu:(us (i / c.length))[i % c.length]?=some ((us (i / c.length))[i % c.length]'(by rw [hr.1.1]; exact hm)):=List.getElem?_eq_getElem _
      obtain ⟨q1,q2,q3⟩:=hr.1.2.2 _ _ _ _ hu hv (List.getElem?_eq_getElem hm)
      exact ⟨hpos,hlt,hv,_,hu,q1,q2,by rw [hr.2 _ hm]; exact hu⟩
     have spot:((List.range len).map vs).flatten≠[]→a.spot=none:=by
      intro hne
      have hl0:0 < ((List.range len).map vs).flatten.length:=List.length_pos_iff.2 hne
      obtain ⟨_,_,_,u,_,_,_,hcell⟩:=cell 0 _ (List.getElem?_eq_getElem hl0)
      have hcell:w.cell? a=some u:=by simpa [Addr.add] using hcell
      unfold World.cell? at hcell
      split at hcell
      ·split at hcell
       ·cases hcell
       ·rename_i hs; simpa using hs
      ·cases hcell
     have addr:((List.range len).map vs).flatten≠[]→a=⟨a.block,a.off,none⟩:=by
      intro hne
      have:=spot hne
      cases a; simp_all
     have addto:∀ i v,((List.range len).map vs).flatten[i]?=some v→(a.add (i / c.length * c.length)).add (i % c.length)=⟨a.block,a.off+i,none⟩:=by
      intro i v hv
      have hne:((List.range len).map vs).flatten≠[]:=by intro h0; rw [h0] at hv; simp at hv
      rw [addr hne,zcV,zcV]
      have:=Nat.div_add_mod i c.length
      rw [Nat.mul_comm] at this
      show (⟨a.block,a.off+i / c.length * c.length+i % c.length,none⟩:Addr)=⟨a.block,a.off+i,none⟩
      congr 1; omega
     have hcap:len≤maxLen:=by omega
     have hlen:((List.range len).map vs).length=len:=by simp
     have rp:RepP ren w zgR (.sl c.length ((List.range len).map vs)) (.slice (some a) ((List.range len).map vs).length cap):=by
      by_cases hne:((List.range len).map vs).flatten=[]
      ·
       have:(List.range len).map vs=[]:=by
        cases hes:(List.range len).map vs with
        | nil=>rfl
        | cons e es =>
         have h1:=hsz2 e (by rw [hes]; simp)
         rw [hes,List.flatten_cons,List.append_eq_nil_iff] at hne
         rw [hne.1] at h1
         simp at h1; omega
       rw [this]
       exact .sl _ [] (some a) cap (fun _=>undef) (Nat.zero_le _) (by simp) 0 0 (by simp) (by simp) (by simp) (by simp)
      ·refine .sl _ _ (some a) cap (fun i=>(w.cell? ⟨a.block,a.off+i,none⟩).getD undef) (by rw [hlen]; exact hl) hsz2 a.block a.off (fun _=>by rw [← addr hne]) (fun i v hv=>?_) (fun i v hv=>?_) (fun i v hv=>?_) <;>
        (obtain ⟨hpos,hlt,hv',u,hu,q1,q2,hcell⟩:=cell i v hv
         rw [addto i v hv] at hcell
         simp only [hcell,Option.getD_some])
       ·exact ⟨fun h=>h,trivial⟩
       ·exact q1
       ·exact q2
     refine ⟨[.sl c.length ((List.range len).map vs)],.one rfl (by rw [hlen] at rp; exact rp) (.sl c _ (by rw [hlen]; exact hcap) hsz2 (fun e he i v ct hv hct=>?_))⟩
     obtain ⟨q,hq,rfl⟩:=List.mem_map.1 he
     exact (hrow q (List.mem_range.1 hq)).1.row.2 i v ct hv hct
   ·cases h
  ·rename_i n e ht
   simp only [Option.bind_eq_bind,Option.bind_eq_some_iff] at h
   obtain ⟨c,hc,h⟩:=h
   split at h
   ·rename_i hsz
    cases h
    obtain ⟨xs,m,_,_,hl,hxl,hi⟩:=DataW.trod_array ht hx
    have:=zrm (ren:=ren) (w:=w) (cs:=cs) (c:=c) n 0 (fun i hin=>by
     have:=hi i hin
     rw [List.getElem?_eq_getElem (by omega)] at this
     rw [hsz.1] at this
     obtain ⟨vs,r⟩:=zmZ d e c hc _ _ _ this
     exact ⟨vs,by rw [Nat.zero_add]; exact r⟩)
    rw [Nat.zero_mul,List.drop_zero,List.take_of_length_le (by omega)] at this
    exact this
   ·cases h
  ·rename_i fs ht
   simp only [Option.bind_eq_bind,Option.bind_eq_some_iff] at h
   obtain ⟨c,hc,h⟩:=h
   split at h
   ·rename_i hsz
    cases h
    obtain ⟨xs,m,_,_,hl,hxl,hi⟩:=DataW.trod_struct ht hx
    have:=zqz (ren:=ren) (w:=w) (cs:=cs) (fun _ _ _ _ h=>by cases h) fs.toList 0 cts hc (fun y hy a ha=>by
     obtain ⟨i,hil,rfl⟩:=List.getElem_of_mem hy
     have hil':i < fs.size:=by simpa using hil
     have:=hi i fs[i] (Array.getElem?_eq_getElem hil')
     rw [List.getElem?_eq_getElem (by omega)] at this
     exact zmZ d _ a ha _ _ _ (by simpa using this))
    rw [List.drop_zero,List.take_of_length_le (by omega)] at this
    exact this
   ·cases h
  ·cases h
theorem zzt {r:Reach} {b0:Nat} {t:TypeId} {v:Value} {dd:DataW H} {p:List MemPlace} {cts:List CT} {d:Nat} (hagg:zag P t=some true) (hv:Value.okWide P w r b0 t v) (h:DataW.Trod enc P w base spare held t v dd p) (hc:zkK P d t=some cts) :
  ∃ vs,HasRow cts vs∧RepP ren w zgR (.agg vs) v:=by
 obtain ⟨fuel,hf⟩:=h
 obtain ⟨vs,rd⟩:=zmZ (ren:=ren) d t cts hc _ _ _ hf
 have:∃ us:Array Value,v=.agg us:=by
  unfold zag at hagg
  cases hu:P.underlying t with
  | none=>simp [hu] at hagg
  | some T =>
   simp only [Value.okWide,hu] at hv
   cases T <;> simp [hu] at hagg
   ·obtain ⟨us,h1,_⟩:=hv; exact ⟨us,h1⟩
   ·obtain ⟨us,h1,_⟩:=hv; exact ⟨us,h1⟩
 obtain ⟨us,rfl⟩:=this
 have rd:RdC ren w cts us.toList vs:=rd
 refine ⟨vs,rd.row,?_⟩
 have key:=RepP.agg (ren:=ren) (w:=w) (Wr:=zgR) vs us.toList (by rw [rd.1,rd.2.1]) (fun i c u hc hu=>(rd.2.2 i u c _ hu hc (List.getElem?_eq_getElem (by rw [← rd.1]; exact (List.getElem?_eq_some_iff.1 hu).1))).2.1) (fun u hu=>by
  obtain ⟨i,hi,rfl⟩:=List.getElem_of_mem hu
  have h1:i < vs.length:=by rw [rd.2.1,← rd.1]; exact hi
  have h2:i < cts.length:=by rw [← rd.1]; exact hi
  exact (rd.2.2 i _ _ _ (List.getElem?_eq_getElem hi) (List.getElem?_eq_getElem h1) (List.getElem?_eq_getElem h2)).1)
 simpa using key
theorem zzT {r:Reach} {b0:Nat} {t:TypeId} {v:Value} {dd:DataW H} {p:List MemPlace} {ct:CT} {d:Nat} (hv1:v.cells=#[v]) (h:DataW.Trod enc P w base spare held t v dd p) (hc:zkK P d t=some [ct]) :
  ∃ x,HasC ct x∧RepP ren w zgR x v:=by
 obtain ⟨fuel,hf⟩:=h
 obtain ⟨vs,rd⟩:=zmZ (ren:=ren) d t [ct] hc _ _ _ hf
 rw [hv1] at rd
 have hl:vs.length=1:=rd.2.1
 obtain ⟨x,rfl⟩:∃ x,vs=[x]:=by
  match vs,hl with
  | [x],_=>exact ⟨x,rfl⟩
 obtain ⟨q1,q2,q3⟩:=rd.2.2 0 v x ct rfl rfl rfl
 exact ⟨x,q3,q2⟩
theorem HasC.int_inv {k:IntKind} {v:V} (h:HasC (.int k) v):∃ n,v=.sc (.int k n)∧(Lit.int k n).wf=true:=by
 cases h with | int _ n h=>exact ⟨n,rfl,h⟩
theorem HasC.sl_inv {cs:List CT} {v:V} (h:HasC (.sl cs) v):∃ es,v=.sl cs.length es∧es.length≤maxLen∧∀ e ∈ es,HasRow cs e:=by
 cases h with | sl _ es hl h0 h=>exact ⟨es,rfl,hl,fun e he=>⟨h0 e he,h e he⟩⟩
end
def zu2:V→Bor→Option Bool:=fun v _=>match v with
 | .sc (.bool true)=>some true
 | _=>none
theorem zxQ {v:V} {b:Bor} (h:zu2 v b=some true):v=.sc (.bool true):=by
 unfold zu2 at h
 split at h
 ·rfl
 ·cases h
end
section
set_option linter.unusedVariables false
set_option linter.unusedSimpArgs false
section
variable {β:Type}
theorem yH {α:Type} (a:α) (k:α→Option β):lt a k=k a:=Eq.trans rfl rfl
theorem yt {p:Prop} {inst:Decidable p} (h:p) (k:Option β):@chk β p inst k=k:=(zgQ p k).trans (if_pos h)
theorem zqG {inst:Decidable True} (k:Option β):@chk β True inst k=k:=(zgQ True k).trans (if_pos trivial)
theorem xV (a b:Option β):ifb true a b=a:=rfl
theorem xH (a b:Option β):ifb false a b=b:=rfl
theorem zn4 {p:Prop} {inst:Decidable p} (a b:Option β):ifb (@decide p inst) a b=if p then a else b:=by
 by_cases h:p <;> simp [ifb,h]
theorem xI {p:Prop} {inst:Decidable p} (h:p) (a b:Option β):ifb (@decide p inst) a b=a:=by rw [zn4,if_pos h]
theorem zE {p:Prop} {inst:Decidable p} (h:¬ p) (a b:Option β):ifb (@decide p inst) a b=b:=by rw [zn4,if_neg h]
theorem zav {x y:Int} (h:x=y) (a b:Option β):ifb (x == y) a b=a:=by subst h; simp [ifb]
theorem yF {x y:Int} (h:x≠y) (a b:Option β):ifb (x == y) a b=b:=by rw [beq_eq_false_iff_ne.2 h]; rfl
theorem zdl {kd:IntKind} {cs:List V} {off:Nat} {n:Int} (h:cs[off]?=some (.sc (.int kd n))) (k:Int→Option β):cI kd cs off k=k n:=by
 simp [cI,zdG,h,aI,zqG]
theorem zzY {cs:List V} {off:Nat} {b:Bool} (h:cs[off]?=some (.sc (.bool b))) (k:Bool→Option β):cB cs off k=k b:=by
 simp [cB,zdG,h,aB]
theorem zt4 {sz:Nat} {cs:List V} {off:Nat} {es:List (List V)} (h:cs[off]?=some (.sl sz es)) (k:List (List V)→Option β):cL sz cs off k=k es:=by
 simp [cL,zdG,h,aL,zqG]
theorem zrW {sz:Nat} {cs:List V} {off:Nat} {es:List (List V)} (h:cs[off]?=some (.sl sz es)) (k:List (List V)→Option β):cLd sz cs off k=k es:=by
 simp [cLd,zdG,h,aLd,zqG]
theorem ziz {es:List (List V)} {j:Int} {c:List V} (h0:0≤j) (h:es[j.toNat]?=some c) (k:List V→Option β):idx es j k=k c:=by
 simp [idx,h0,h,zqG]
theorem zaI {es:List (List V)} {j:Nat} {c:List V} (h:es[j]?=some c) (k:List V→Option β):idx es (j:Int) k=k c :=
 ziz (Int.natCast_nonneg j) (by simpa using h) k
end
theorem zmj {n:Int} (h1:-9223372036854775808≤n) (h2:n≤9223372036854775807):IntKind.wrap .i64 n=n:=IntWalk.i64_in _ ⟨h1,h2⟩
theorem zx3 {k:IntKind} {n:Int} (hk:k.signed=false) (h1:0≤n) (h2:n < 2 ^ k.bits):IntKind.wrap k n=n:=by
 unfold IntKind.wrap
 simp only [hk,Bool.false_and,Bool.false_eq_true,if_false]
 exact Int.emod_eq_of_lt h1 h2
theorem zrB {n:Int} (h1:0≤n) (h2:n≤18446744073709551615):IntKind.wrap .u64 n=n:=zx3 rfl h1 (Int.lt_of_le_of_lt h2 (by decide))
theorem zrT {n:Int} (h1:0≤n) (h2:n≤4294967295):IntKind.wrap .u32 n=n:=zx3 rfl h1 (Int.lt_of_le_of_lt h2 (by decide))
theorem zym {n:Int} (h:(Lit.int .u32 n).wf=true):0≤n∧n≤4294967295:=by
 simpa [Lit.wf,IntKind.min,IntKind.max,IntKind.signed,IntKind.bits] using h
def zaz (k:IntKind) (l:List Int):List (List V):=l.map fun n=>[.sc (.int k n)]
theorem yR (k:IntKind) (l:List Int):(zaz k l).length=l.length:=by simp [zaz]
theorem zmV (k:IntKind) {l:List Int} {i:Nat} (h:i < l.length):(zaz k l)[i]?=some [.sc (.int k l[i])]:=by simp [zaz,h]
theorem zvt (k:IntKind) (l m:List Int):zaz k l++zaz k m=zaz k (l++m):=by simp [zaz]
theorem HasRow.int1 {k:IntKind} {e:List V} (h:HasRow [.int k] e):∃ n,e=[.sc (.int k n)]∧(Lit.int k n).wf=true:=by
 obtain ⟨h1,h2⟩:=h
 match e,h1 with
 | [v],_ =>
  obtain ⟨n,rfl,hn⟩:=(h2 0 v _ rfl rfl).int_inv
  exact ⟨n,rfl,hn⟩
theorem zwH {k:IntKind}:∀ {es:List (List V)},(∀ e ∈ es,HasRow [.int k] e)→∃ l:List Int,es=zaz k l∧∀ n ∈ l,(Lit.int k n).wf=true
 | [],_=>⟨[],rfl,by simp⟩
 | e::es,h=>by
  obtain ⟨n,rfl,hn⟩:=(h e (by simp)).int1
  obtain ⟨l,rfl,hl⟩:=zwH (es:=es) (fun x hx=>h x (by simp [hx]))
  exact ⟨n::l,rfl,by simpa [hn] using hl⟩
def row (k:IntKind) (l:List Int):List V:=l.map fun n=>.sc (.int k n)
theorem zhq (k:IntKind) (l:List Int):(row k l).length=l.length:=by simp [row]
theorem zyl {k:IntKind}:∀ {n:Nat} {vs:List V},HasRow (List.replicate n (.int k)) vs→∃ l:List Int,vs=row k l∧l.length=n∧∀ x ∈ l,(Lit.int k x).wf=true
 | 0,vs,h=>by
  have:vs=[]:=List.length_eq_zero_iff.1 (by simpa using h.1)
  subst this
  exact ⟨[],rfl,rfl,by simp⟩
 | n+1,[],h=>by have:=h.1; simp at this
 | n+1,v::vs,h=>by
  obtain ⟨x,rfl,hx⟩:=(h.2 0 v (.int k) rfl (by simp [List.replicate_succ])).int_inv
  obtain ⟨l,rfl,hl,hw⟩:=zyl (n:=n) (vs:=vs) ⟨by have:=h.1; simpa using this,fun i c ct hc hct=>h.2 (i+1) c ct (by simpa using hc) (by simpa [List.replicate_succ] using hct)⟩
  exact ⟨x::l,rfl,by simp [hl],by simpa [hx] using hw⟩
end
section
set_option linter.unusedVariables false
set_option linter.unusedSimpArgs false
theorem zp8 {cs new:List V} (h:new.length=cs.length):za cs 0 new=new:=by
 simp [za,h]
theorem znf {cs new:List V} {off:Nat} (h:off+new.length≤cs.length):(za cs off new).length=cs.length:=by
 simp [za]; omega
theorem zyf {cs:List V} {off:Nat} {v:V} (h:off < cs.length):za cs off [v]=cs.set off v:=by
 simp only [za,List.length_singleton]
 rw [List.set_eq_take_append_cons_drop,if_pos h]
 simp
theorem zeS {sz:Nat}:∀ {es:List (List V)},(∀ e ∈ es,e.length=sz)→zc sz es.length es.flatten=es
 | [],_=>rfl
 | e::es,h=>by
  have he:=h e (by simp)
  have:=zeS (es:=es) (fun x hx=>h x (by simp [hx]))
  simp only [List.length_cons,zc,List.flatten_cons]
  rw [List.take_append_of_le_length (by omega),List.take_of_length_le (by omega),List.drop_append_of_le_length (by omega),List.drop_of_length_le (by omega),List.nil_append,this]
theorem zrs {sz:Nat} {es:List (List V)} (h:∀ e ∈ es,e.length=sz):es.flatten.length=es.length * sz:=yY h
theorem zuh {sz:Nat}:∀ {es:List (List V)},(∀ e ∈ es,e.length=sz)→∀ (i:Nat),es.flatten.drop (i * sz)=(es.drop i).flatten
 | [],_,i=>by simp
 | e::es,h,0=>by simp
 | e::es,h,i+1=>by
  have he:=h e (by simp)
  have:=zuh (es:=es) (fun x hx=>h x (by simp [hx])) i
  have e1:(e++es.flatten).drop sz=es.flatten:=by rw [List.drop_append_of_le_length (by omega),List.drop_of_length_le (by omega),List.nil_append]
  rw [List.flatten_cons,List.drop_succ_cons,← this,show (i+1) * sz=sz+i * sz by rw [Nat.add_mul]; omega,← List.drop_drop,e1]
theorem zpI {sz n:Nat} {es:List (List V)} (h:∀ e ∈ es,e.length=sz) (hn:n≤sz) {i:Nat} {e:List V} (he:es[i]?=some e):(es.flatten.drop (i * sz)).take n=e.take n:=by
 rw [zuh h]
 obtain ⟨hi,rfl⟩:=List.getElem?_eq_some_iff.1 he
 rw [List.drop_eq_getElem_cons hi,List.flatten_cons,List.take_append_of_le_length (by rw [h _ (List.getElem_mem hi)]; exact hn)]
theorem zmp (k:IntKind):∀ (l m:List Int),l.length=m.length→zcB (row k l) (row k m)=some (decide (l=m))
 | [],[],_=>rfl
 | x::l,y::m,h=>by
  have:=zmp k l m (by simpa using h)
  simp only [row] at this
  simp only [row,List.map_cons,zcB,if_true,this,Option.map_some]
  congr 1
  by_cases h1:x=y <;> by_cases h2:l=m <;> simp [h1,h2]
theorem zzI {β:Type} (k:IntKind) {n:Nat} {l m:List Int} (h1:l.length=n) (h2:m.length=n) (κ:Bool→Option β):eqC n (row k l) (row k m) κ=κ (decide (l=m)):=by
 simp only [eqC,zhq,h1,h2,and_self,zqG,zmp k l m (by omega)]
theorem zu8 {β:Type} {p:Prop} {inst:Decidable p} (a b:Option β):ifb (!(@decide p inst)) a b=if p then b else a:=by
 by_cases h:p <;> simp [ifb,h]
theorem zbR {β:Type} (x y:Int) (a b:Option β):ifb (x != y) a b=if x=y then b else a:=by
 by_cases h:x=y
 ·subst h; simp [ifb]
 ·rw [bne_iff_ne.2 h,if_neg h]; rfl
end
section
set_option linter.unusedVariables false
set_option linter.unusedSimpArgs false
def zgV {α:Type} (p:α→Bool):List α→Nat→Int
 | [],_=>-1
 | x::l,i=>if p x=true then (i:Int) else zgV p l (i+1)
theorem zqf {α:Type} (p:α→Bool):∀ (l:List α) (a:Nat),(zgV p l a=-1∧∀ x ∈ l,p x=false)∨∃ (i:Nat),∃ h:i < l.length,zgV p l a=((a+i:Nat):Int)∧(∀ x ∈ l.take i,p x=false)∧p l[i]=true
 | [],a=>.inl ⟨rfl,by simp⟩
 | x::l,a=>by
  by_cases hx:p x=true
  ·exact .inr ⟨0,by simp,by simp [zgV,hx],by simp,by simpa using hx⟩
  ·have hx':p x=false:=by simpa using hx
   rcases zqf p l (a+1) with ⟨h1,h2⟩ | ⟨i,hi,h1,h2,h3⟩
   ·refine .inl ⟨by simp [zgV,hx',h1],?_⟩
    intro y hy
    rcases List.mem_cons.1 hy with rfl | hy
    ·exact hx'
    ·exact h2 y hy
   ·refine .inr ⟨i+1,by simpa using hi,?_,?_,by simpa using h3⟩
    ·simp only [zgV,hx',h1]; simp; omega
    ·intro y hy
     simp only [List.take_succ_cons,List.mem_cons] at hy
     rcases hy with rfl | hy
     ·exact hx'
     ·exact h2 y hy
theorem zt1 {α:Type} (p:α→Bool) (l:List α) (a:Nat):decide (zgV p l a ≥ 0)=l.any p:=by
 rcases zqf p l a with ⟨h1,h2⟩ | ⟨i,hi,h1,h2,h3⟩
 ·rw [h1]
  have:l.any p=false:=by
   rw [List.any_eq_false]
   intro x hx; rw [h2 x hx]; simp
  rw [this]; rfl
 ·rw [h1]
  have:l.any p=true:=List.any_eq_true.2 ⟨_,List.getElem_mem hi,h3⟩
  rw [this]
  exact decide_eq_true (by omega)
theorem z8 {i:Nat} (h:i≤1000000000):IntKind.wrap .i64 ((i:Int)+1)=((i+1:Nat):Int):=by
 rw [zmj (by omega) (by omega)]; omega
end
end Go.Proofs.Ytpbbfpfmdckclaa
