/- Part 9 of the proof of ConnectEclipse: an abstract machine over plain values, its soundness, and the functions of the program on plain values. -/
import Derived.Test.YtpafdnidhnldhaaMConnectEclipse8
namespace Go.Proofs.Ytpafdnidhnldhaa
section
set_option maxRecDepth 100000
set_option linter.unusedVariables false
set_option linter.unusedSimpArgs false
def zcb:CC:=(.seq (.reg [oo 34 (.bin .lss (tq 33) (tq 32))])
 (.seq (.cond (tq 34)
 .skip
 (.seq (.mask (bl 284 72) (bl 4722366482319889397247 72))
 (.exit 0)))
 (.seq (.block 1 (.seq (.reg [oo 35 (.indexAddrS 3 (tq 31) (tq 33)),
   oo 36 (.load true 3 (tq 35) false),
   oo 11 (.alloc true [(.sc (.int .u32 0)),(.sc (.int .u16 0)),(.sc (.int .u32 0))]),
   oz (.store 3 (tq 11) (tq 36))])
 (.seq (.reg [oo 37 (.move (tq 2) false),
   oo 38 (.load true 3 (tq 11) false),
   oo 39 (.call 278 [((tq 37),0),((tq 38),0)] []),
   oo 40 (.un .not (tq 39))])
 (.cond (tq 40)
 (.seq (.reg [oo 41 (.load true 3 (tq 11) false),
   oo 42 (.build [(.sc (.int .i64 0)),(.sc (.int .u32 0)),(.sc (.int .u16 0)),(.sc (.int .u32 0))] [(0,1,(.const (.sc (.int .i64 1)))),(1,3,(tq 41))]),
   oz (.store 4 (tq 8) (tq 42)),
   oo 9 (.move (.const (.sc (.int .i64 0))) false)])
 (.seq (.mask (bl 768 72) (bl 4722366482319889397743 72))
 .ret))
 .skip))))
 (.reg [oo 43 (.bin .add (tq 33) (.const (.sc (.int .i64 1)))),
   oo 33 (.move (tq 43) false)]))))
def ze6:CC:=(.seq (.reg [oo 12 (.move (.const (.sc (.int .i64 2))) false)])
 (.seq (.reg [oo 44 (.move (tq 2) false),
   oo 45 (.call 276 [((tq 44),0),((.const (.fn 279 [])),0)] []),
   oo 13 (.move (tq 45) false)])
 (.seq (.seq (.reg [oo 46 (.move (tq 2) false),
   oo 47 (.lenS (tq 46)),
   oo 48 (.move (tq 13) false),
   oo 49 (.bin .sub (tq 47) (tq 48)),
   oo 50 (.bin .geq (tq 49) (.const (.sc (.int .i64 7))))])
 (.cond (tq 50)
 (.seq (.reg [oo 12 (.move (.const (.sc (.int .i64 3))) false)])
 (.seq (.reg [oo 51 (.move (tq 13) false),
   oo 52 (.bin .gtr (tq 51) (.const (.sc (.int .i64 0))))])
 (.cond (tq 52)
 (.seq (.reg [oo 53 (.build [(.sc (.int .i64 0)),(.sc (.int .u32 0)),(.sc (.int .u16 0)),(.sc (.int .u32 0))] []),
   oz (.store 4 (tq 8) (tq 53)),
   oo 9 (.move (.const (.sc (.int .i64 380))) false)])
 .ret)
 .skip)))
 .skip))
 (.seq (.reg [oo 54 (.load true 34 (tq 4) false),
   oo 55 (.move (tq 2) false),
   oo 56 (.move (tq 12) false),
   oo 57 (.call 266 [((tq 54),1),((tq 55),0),((tq 56),0)] []),
   oo 14 (.move (tq 57) false)])
 (.seq (.seq (.reg [oo 58 (.move (tq 14) false),
   oo 59 (.lenS (tq 58)),
   oo 60 (.bin .eql (tq 59) (.const (.sc (.int .i64 0))))])
 (.cond (tq 60)
 (.seq (.reg [oo 61 (.build [(.sc (.int .i64 0)),(.sc (.int .u32 0)),(.sc (.int .u16 0)),(.sc (.int .u32 0))] []),
   oz (.store 4 (tq 8) (tq 61)),
   oo 9 (.move (.const (.sc (.int .i64 390))) false)])
 .ret)
 .skip))
 (.seq (.reg [oo 62 (.move (tq 12) false),
   oo 63 (.move (tq 14) false),
   oo 64 (.move (tq 3) false),
   oo 65 (.move (tq 14) false),
   oo 66 (.lenS (tq 65)),
   oo 67 (.conv .u64 (tq 66)),
   oo 68 (.bin .rem (tq 64) (tq 67)),
   oo 69 (.indexAddrS 3 (tq 63) (tq 68)),
   oo 70 (.load true 3 (tq 69) false),
   oo 71 (.build [(.sc (.int .i64 0)),(.sc (.int .u32 0)),(.sc (.int .u16 0)),(.sc (.int .u32 0))] [(0,1,(tq 62)),(1,3,(tq 70))]),
   oz (.store 4 (tq 8) (tq 71)),
   oo 9 (.move (.const (.sc (.int .i64 0))) false)])
 .ret))))))
def zb7:CF:=⟨72,[.cell 8 true 4,.tmp 9],
 (.seq (.reg [oo 4 (.box true (tq 0)),
   oo 8 (.alloc true [(.sc (.int .i64 0)),(.sc (.int .u32 0)),(.sc (.int .u16 0)),(.sc (.int .u32 0))]),
   oo 9 (.move (.const (.sc (.int .i64 0))) false)])
 (.seq (.seq (.reg [oo 15 (.move (tq 2) false),
   oo 16 (.call 270 [((tq 15),0)] []),
   oo 17 (.un .not (tq 16)),
   oo 18 (.move (tq 17) false),
   ⟨(some 19),false,(some (18,false)),.load true 34 (tq 4) false⟩,
   ⟨(some 20),false,(some (18,false)),.call 275 [((tq 19),1)] []⟩,
   ⟨(some 21),false,(some (18,false)),.un .not (tq 20)⟩,
   oo 22 (.pick (tq 18) (.const (.sc (.bool true))) (tq 21))])
 (.cond (tq 22)
 (.seq (.reg [oo 23 (.build [(.sc (.int .i64 0)),(.sc (.int .u32 0)),(.sc (.int .u16 0)),(.sc (.int .u32 0))] []),
   oz (.store 4 (tq 8) (tq 23)),
   oo 9 (.move (.const (.sc (.int .i64 6))) false)])
 .ret)
 .skip))
 (.seq (.seq (.reg [oo 24 (.move (tq 2) false),
   oo 25 (.lenS (tq 24)),
   oo 26 (.bin .geq (tq 25) (.const (.sc (.int .i64 8))))])
 (.cond (tq 26)
 (.seq (.reg [oo 27 (.build [(.sc (.int .i64 0)),(.sc (.int .u32 0)),(.sc (.int .u16 0)),(.sc (.int .u32 0))] []),
   oz (.store 4 (tq 8) (tq 27)),
   oo 9 (.move (.const (.sc (.int .i64 380))) false)])
 .ret)
 .skip))
 (.seq (.seq (.reg [oo 28 (.move (tq 2) false),
   oo 29 (.call 276 [((tq 28),0),((.const (.fn 277 [])),0)] []),
   oo 30 (.bin .lss (tq 29) (.const (.sc (.int .i64 2))))])
 (.cond (tq 30)
 (.seq (.reg [oo 31 (.move (tq 1) false),
   oo 32 (.lenS (tq 31)),
   oo 33 (.move (.const (.sc (.int .i64 0))) false)])
 (.block 0 (.loop (bl 15032385820 72) (bl 4722366482319889397247 72)
 zcb)))
 .skip))
 ze6))))⟩
def zod:Hint:=⟨[(0,0)],[],[none,none,none,none,none,none,some ((bl 15032385820 72),(bl 4722366482319889397247 72)),none,some ((bl 284 72),(bl 4722366482319889397247 72)),none,none,some ((bl 768 72),(bl 4722366482319889397743 72)),none,none,none,none,none,none],[],[],false,false⟩
def zaF:Nat→Sh:=zP []
def zaG (ye:zD) (xl:zad) (zn:zao) (yk:z6) (zb:yn) (ya:yq) (L:Nat):CBC:=(zw 278 (zc4 ya L) (zw 266 (zct zb L) (zBf 276 [6,379] (zgX yk L) (zBf 276 [6,377] (zjg zn L) (zw 275 (zhT xl L) (zw 270 (zeB ye L) noC))))))
def zdp:St→St:=zae 0 (bl 15032385820 72) (bl 4722366482319889397247 72)
def zcJ (p2:List (List V)) (p3:Int) (p31:List (List V)) (p32 p33:Int) (b4:List V) (zKV zKW zKX zKY:Int):St:=⟨(jn 2 ((V.sl 4 p2)::((V.sc (.int .u64 p3))::((V.ptr 4 0)::(jn 3 ((V.ptr 8 0)::(jn 22 ((V.sl 3 p31)::((V.sc (.int .i64 p32))::((V.sc (.int .i64 p33))::(jn 38 []))))))))))),(gn 4 ((.live true b4)::(gn 3 ((.live true [(V.sc (.int .i64 zKV)),(V.sc (.int .u32 zKW)),(V.sc (.int .u16 zKX)),(V.sc (.int .u32 zKY))])::(gn 63 [])))))⟩
def zhu (p9:Int) (b8:List V):St:=⟨(jn 8 ((V.ptr 8 0)::((V.sc (.int .i64 p9))::(jn 62 [])))),(gn 8 ((.live true b8)::(gn 63 [])))⟩
def zh4 (p2:List (List V)) (p3:Int) (b4:List V) (zKV zKW zKX zKY:Int):St:=⟨(jn 2 ((V.sl 4 p2)::((V.sc (.int .u64 p3))::((V.ptr 4 0)::(jn 3 ((V.ptr 8 0)::(jn 63 []))))))),(gn 4 ((.live true b4)::(gn 3 ((.live true [(V.sc (.int .i64 zKV)),(V.sc (.int .u32 zKW)),(V.sc (.int .u16 zKX)),(V.sc (.int .u32 zKY))])::(gn 63 [])))))⟩
abbrev zjm (β:Type):Type:=List (List V)→Int→List (List V)→Int→Int→List V→Int→Int→Int→Int→Option β
abbrev zkj (β:Type):Type:=List (List V)→Int→List V→Int→Int→Int→Int→Option β
def zl9 {β:Type} (ye:zD) (xl:zad) (zn:zao) (yk:z6) (zb:yn) (ya:yq) (L:Nat) (p0:List V) (p1 p2:List (List V)) (p3:Int) (k_fin:List V→Int→Option β) (k_hbbbababa:zjm β):Option β :=
 ye β L p2 (fun v0 =>
 ifb (!v0) (
 lt [(V.sc (.int .i64 (0:Int))),(V.sc (.int .u32 (0:Int))),(V.sc (.int .u16 (0:Int))),(V.sc (.int .u32 (0:Int)))] fun r1 =>
 chk (0=0∧(List.length r1)=4∧4≠0) (
 k_fin r1 (6:Int))) (
 chk (0+34≤(List.length p0)) (
 xl β L (List.map V.dem (List.take 34 p0)) (fun v2 =>
 ifb (!v2) (
 lt [(V.sc (.int .i64 (0:Int))),(V.sc (.int .u32 (0:Int))),(V.sc (.int .u16 (0:Int))),(V.sc (.int .u32 (0:Int)))] fun r3 =>
 chk (0=0∧(List.length r3)=4∧4≠0) (
 k_fin r3 (6:Int))) (
 ifb (decide (((List.length p2:Nat):Int) ≥ (8:Int))) (
 lt [(V.sc (.int .i64 (0:Int))),(V.sc (.int .u32 (0:Int))),(V.sc (.int .u16 (0:Int))),(V.sc (.int .u32 (0:Int)))] fun r4 =>
 chk (0=0∧(List.length r4)=4∧4≠0) (
 k_fin r4 (380:Int))) (
 zn β L p2 (fun v5 =>
 ifb (decide (v5 < (2:Int))) (
 k_hbbbababa p2 p3 p1 ((List.length p1:Nat):Int) (0:Int) p0 (0:Int) (0:Int) (0:Int) (0:Int)) (
 yk β L p2 (fun v6 =>
 lt (IntKind.wrap .i64 ((((List.length p2:Nat):Int):Int) - v6)) fun x7 =>
 ifb (decide (x7 ≥ (7:Int))) (
 ifb (decide (v6 > (0:Int))) (
 lt [(V.sc (.int .i64 (0:Int))),(V.sc (.int .u32 (0:Int))),(V.sc (.int .u16 (0:Int))),(V.sc (.int .u32 (0:Int)))] fun r8 =>
 chk (0=0∧(List.length r8)=4∧4≠0) (
 k_fin r8 (380:Int))) (
 chk (0+34≤(List.length p0)) (
 zb β L (List.map V.dem (List.take 34 p0)) p2 (3:Int) (fun v9 =>
 ifb ((((List.length v9:Nat):Int):Int) == (0:Int)) (
 lt [(V.sc (.int .i64 (0:Int))),(V.sc (.int .u32 (0:Int))),(V.sc (.int .u16 (0:Int))),(V.sc (.int .u32 (0:Int)))] fun r10 =>
 chk (0=0∧(List.length r10)=4∧4≠0) (
 k_fin r10 (390:Int))) (
 lt (IntKind.wrap .u64 ((List.length v9:Nat):Int)) fun x11 =>
 chk (x11≠0) (
 lt (Int.tmod p3 x11) fun x12 =>
 idx v9 x12 fun c13 =>
 chk ((List.length (List.take 3 c13))=3∧1+3≤4) (
 chk ((List.length (xg [(V.sc (.int .i64 (3:Int))),(V.sc (.int .u32 (0:Int))),(V.sc (.int .u16 (0:Int))),(V.sc (.int .u32 (0:Int)))] 1 (List.take 3 c13)))=4∧0+4≤4) (
 lt (xg [(V.sc (.int .i64 (0:Int))),(V.sc (.int .u32 (0:Int))),(V.sc (.int .u16 (0:Int))),(V.sc (.int .u32 (0:Int)))] 0 (xg [(V.sc (.int .i64 (3:Int))),(V.sc (.int .u32 (0:Int))),(V.sc (.int .u16 (0:Int))),(V.sc (.int .u32 (0:Int)))] 1 (List.take 3 c13))) fun r14 =>
 chk (0=0∧(List.length r14)=4∧4≠0) (
 k_fin r14 (0:Int)))))))))) (
 chk (0+34≤(List.length p0)) (
 zb β L (List.map V.dem (List.take 34 p0)) p2 (2:Int) (fun v15 =>
 ifb ((((List.length v15:Nat):Int):Int) == (0:Int)) (
 lt [(V.sc (.int .i64 (0:Int))),(V.sc (.int .u32 (0:Int))),(V.sc (.int .u16 (0:Int))),(V.sc (.int .u32 (0:Int)))] fun r16 =>
 chk (0=0∧(List.length r16)=4∧4≠0) (
 k_fin r16 (390:Int))) (
 lt (IntKind.wrap .u64 ((List.length v15:Nat):Int)) fun x17 =>
 chk (x17≠0) (
 lt (Int.tmod p3 x17) fun x18 =>
 idx v15 x18 fun c19 =>
 chk ((List.length (List.take 3 c19))=3∧1+3≤4) (
 chk ((List.length (xg [(V.sc (.int .i64 (2:Int))),(V.sc (.int .u32 (0:Int))),(V.sc (.int .u16 (0:Int))),(V.sc (.int .u32 (0:Int)))] 1 (List.take 3 c19)))=4∧0+4≤4) (
 lt (xg [(V.sc (.int .i64 (0:Int))),(V.sc (.int .u32 (0:Int))),(V.sc (.int .u16 (0:Int))),(V.sc (.int .u32 (0:Int)))] 0 (xg [(V.sc (.int .i64 (2:Int))),(V.sc (.int .u32 (0:Int))),(V.sc (.int .u16 (0:Int))),(V.sc (.int .u32 (0:Int)))] 1 (List.take 3 c19))) fun r20 =>
 chk (0=0∧(List.length r20)=4∧4≠0) (
 k_fin r20 (0:Int))))))))))))))))))
theorem zv4 {β:Type} (ye:zD) (xl:zad) (zn:zao) (yk:z6) (zb:yn) (ya:yq) (L:Nat) (p0:List V) (p1 p2:List (List V)) (p3:Int) (k:KK β):zt zaF (zaG ye xl zn yk zb ya L) L zb7 [(V.agg p0),(V.sl 3 p1),(V.sl 4 p2),(V.sc (.int .u64 p3))] [] k=zl9 ye xl zn yk zb ya L p0 p1 p2 p3 (fun zL8 zL9=>k (V.tup [(V.agg zL8),(V.sc (.int .i64 zL9))]) []) (fun p2 p3 p31 p32 p33 b4 zKV zKW zKX zKY=>yE (yo zaF (zaG ye xl zn yk zb ya L) 0 L zcb) zdp L (zcJ p2 p3 p31 p32 p33 b4 zKV zKW zKX zKY) (xG 0 (yU (yo zaF (zaG ye xl zn yk zb ya L) 0 L ze6) (xZ 0 (CF.res zb7) k)))):=by kernel_rfl
def zfl {β:Type} (ye:zD) (xl:zad) (zn:zao) (yk:z6) (zb:yn) (ya:yq) (L:Nat) (p2:List (List V)) (p3:Int) (p31:List (List V)) (p32 p33:Int) (b4:List V) (zKV zKW zKX zKY:Int) (k_ret:Int→List V→Option β) (k_hbbbababa:zjm β) (k_x0:zkj β):Option β :=
 ifb (decide (p33 < p32)) (
 idx p31 p33 fun c21 =>
 chk ((List.length (List.take 3 c21))=3∧0+3≤3) (
 lt (xg [(V.sc (.int .u32 (0:Int))),(V.sc (.int .u16 (0:Int))),(V.sc (.int .u32 (0:Int)))] 0 (List.take 3 c21)) fun r22 =>
 chk (0+3≤(List.length r22)) (
 ya β L p2 (List.take 3 r22) (fun v23 =>
 ifb (!v23) (
 chk (0+3≤(List.length r22)) (
 chk ((List.length (List.take 3 r22))=3∧1+3≤4) (
 chk ((List.length (xg [(V.sc (.int .i64 (1:Int))),(V.sc (.int .u32 (0:Int))),(V.sc (.int .u16 (0:Int))),(V.sc (.int .u32 (0:Int)))] 1 (List.take 3 r22)))=4∧0+4≤4) (
 lt (xg [(V.sc (.int .i64 zKV)),(V.sc (.int .u32 zKW)),(V.sc (.int .u16 zKX)),(V.sc (.int .u32 zKY))] 0 (xg [(V.sc (.int .i64 (1:Int))),(V.sc (.int .u32 (0:Int))),(V.sc (.int .u16 (0:Int))),(V.sc (.int .u32 (0:Int)))] 1 (List.take 3 r22))) fun r24 =>
 k_ret (0:Int) r24)))) (
 lt (IntKind.wrap .i64 ((p33:Int)+(1:Int))) fun x25 =>
 k_hbbbababa p2 p3 p31 p32 x25 b4 zKV zKW zKX zKY))))) (
 k_x0 p2 p3 b4 zKV zKW zKX zKY)
theorem zpH {β:Type} (ye:zD) (xl:zad) (zn:zao) (yk:z6) (zb:yn) (ya:yq) (L:Nat) (p2:List (List V)) (p3:Int) (p31:List (List V)) (p32 p33:Int) (b4:List V) (zKV zKW zKX zKY:Int) (X:St→Option β) (K:KT β):yo zaF (zaG ye xl zn yk zb ya L) 0 L zcb (zcJ p2 p3 p31 p32 p33 b4 zKV zKW zKX zKY) (zcr zdp X K)=zfl ye xl zn yk zb ya L p2 p3 p31 p32 p33 b4 zKV zKW zKX zKY (fun p9 b8=>K .ret (zhu p9 b8)) (fun p2 p3 p31 p32 p33 b4 zKV zKW zKX zKY=>X (zcJ p2 p3 p31 p32 p33 b4 zKV zKW zKX zKY)) (fun p2 p3 b4 zKV zKW zKX zKY=>K (.exit 0) (zh4 p2 p3 b4 zKV zKW zKX zKY)):=by kernel_rfl
def zel {β:Type} (ye:zD) (xl:zad) (zn:zao) (yk:z6) (zb:yn) (ya:yq) (L:Nat) (p9:Int) (b8:List V) (k_fin:List V→Int→Option β):Option β :=
 chk (0=0∧(List.length b8)=4∧4≠0) (
 k_fin b8 p9)
theorem znR {β:Type} (ye:zD) (xl:zad) (zn:zao) (yk:z6) (zb:yn) (ya:yq) (L:Nat) (p9:Int) (b8:List V) (k:KK β):(xG 0 (yU (yo zaF (zaG ye xl zn yk zb ya L) 0 L ze6) (xZ 0 (CF.res zb7) k))) .ret (zhu p9 b8)=zel ye xl zn yk zb ya L p9 b8 (fun zL8 zL9=>k (V.tup [(V.agg zL8),(V.sc (.int .i64 zL9))]) []):=by kernel_rfl
def zbY {β:Type} (ye:zD) (xl:zad) (zn:zao) (yk:z6) (zb:yn) (ya:yq) (L:Nat) (p2:List (List V)) (p3:Int) (b4:List V) (zKV zKW zKX zKY:Int) (k_fin:List V→Int→Option β):Option β :=
 yk β L p2 (fun v26 =>
 lt (IntKind.wrap .i64 ((((List.length p2:Nat):Int):Int) - v26)) fun x27 =>
 ifb (decide (x27 ≥ (7:Int))) (
 ifb (decide (v26 > (0:Int))) (
 lt [(V.sc (.int .i64 (0:Int))),(V.sc (.int .u32 (0:Int))),(V.sc (.int .u16 (0:Int))),(V.sc (.int .u32 (0:Int)))] fun r28 =>
 chk (0=0∧(List.length r28)=4∧4≠0) (
 k_fin r28 (380:Int))) (
 chk (0+34≤(List.length b4)) (
 zb β L (List.map V.dem (List.take 34 b4)) p2 (3:Int) (fun v29 =>
 ifb ((((List.length v29:Nat):Int):Int) == (0:Int)) (
 lt [(V.sc (.int .i64 (0:Int))),(V.sc (.int .u32 (0:Int))),(V.sc (.int .u16 (0:Int))),(V.sc (.int .u32 (0:Int)))] fun r30 =>
 chk (0=0∧(List.length r30)=4∧4≠0) (
 k_fin r30 (390:Int))) (
 lt (IntKind.wrap .u64 ((List.length v29:Nat):Int)) fun x31 =>
 chk (x31≠0) (
 lt (Int.tmod p3 x31) fun x32 =>
 idx v29 x32 fun c33 =>
 chk ((List.length (List.take 3 c33))=3∧1+3≤4) (
 chk ((List.length (xg [(V.sc (.int .i64 (3:Int))),(V.sc (.int .u32 (0:Int))),(V.sc (.int .u16 (0:Int))),(V.sc (.int .u32 (0:Int)))] 1 (List.take 3 c33)))=4∧0+4≤4) (
 lt (xg [(V.sc (.int .i64 zKV)),(V.sc (.int .u32 zKW)),(V.sc (.int .u16 zKX)),(V.sc (.int .u32 zKY))] 0 (xg [(V.sc (.int .i64 (3:Int))),(V.sc (.int .u32 (0:Int))),(V.sc (.int .u16 (0:Int))),(V.sc (.int .u32 (0:Int)))] 1 (List.take 3 c33))) fun r34 =>
 chk (0=0∧(List.length r34)=4∧4≠0) (
 k_fin r34 (0:Int)))))))))) (
 chk (0+34≤(List.length b4)) (
 zb β L (List.map V.dem (List.take 34 b4)) p2 (2:Int) (fun v35 =>
 ifb ((((List.length v35:Nat):Int):Int) == (0:Int)) (
 lt [(V.sc (.int .i64 (0:Int))),(V.sc (.int .u32 (0:Int))),(V.sc (.int .u16 (0:Int))),(V.sc (.int .u32 (0:Int)))] fun r36 =>
 chk (0=0∧(List.length r36)=4∧4≠0) (
 k_fin r36 (390:Int))) (
 lt (IntKind.wrap .u64 ((List.length v35:Nat):Int)) fun x37 =>
 chk (x37≠0) (
 lt (Int.tmod p3 x37) fun x38 =>
 idx v35 x38 fun c39 =>
 chk ((List.length (List.take 3 c39))=3∧1+3≤4) (
 chk ((List.length (xg [(V.sc (.int .i64 (2:Int))),(V.sc (.int .u32 (0:Int))),(V.sc (.int .u16 (0:Int))),(V.sc (.int .u32 (0:Int)))] 1 (List.take 3 c39)))=4∧0+4≤4) (
 lt (xg [(V.sc (.int .i64 zKV)),(V.sc (.int .u32 zKW)),(V.sc (.int .u16 zKX)),(V.sc (.int .u32 zKY))] 0 (xg [(V.sc (.int .i64 (2:Int))),(V.sc (.int .u32 (0:Int))),(V.sc (.int .u16 (0:Int))),(V.sc (.int .u32 (0:Int)))] 1 (List.take 3 c39))) fun r40 =>
 chk (0=0∧(List.length r40)=4∧4≠0) (
 k_fin r40 (0:Int))))))))))
theorem zn3 {β:Type} (ye:zD) (xl:zad) (zn:zao) (yk:z6) (zb:yn) (ya:yq) (L:Nat) (p2:List (List V)) (p3:Int) (b4:List V) (zKV zKW zKX zKY:Int) (k:KK β):(xG 0 (yU (yo zaF (zaG ye xl zn yk zb ya L) 0 L ze6) (xZ 0 (CF.res zb7) k))) (.exit 0) (zh4 p2 p3 b4 zKV zKW zKX zKY)=zbY ye xl zn yk zb ya L p2 p3 b4 zKV zKW zKX zKY (fun zL8 zL9=>k (V.tup [(V.agg zL8),(V.sc (.int .i64 zL9))]) []):=by kernel_rfl
def zcg {β:Type} (ye:zD) (xl:zad) (zn:zao) (yk:z6) (zb:yn) (ya:yq) (L:Nat) (k_ret:Int→List V→Option β) (k_x0:zkj β):Nat→List (List V)→Int→List (List V)→Int→Int→List V→Int→Int→Int→Int→Option β
 | 0,_,_,_,_,_,_,_,_,_,_=>none
 | n+1,p2,p3,p31,p32,p33,b4,zKV,zKW,zKX,zKY=>zfl ye xl zn yk zb ya L p2 p3 p31 p32 p33 b4 zKV zKW zKX zKY k_ret (fun p2 p3 p31 p32 p33 b4 zKV zKW zKX zKY=>zcg ye xl zn yk zb ya L k_ret k_x0 n p2 p3 p31 p32 p33 b4 zKV zKW zKX zKY) k_x0
theorem zhJ {β:Type} (ye:zD) (xl:zad) (zn:zao) (yk:z6) (zb:yn) (ya:yq) (L:Nat) (K:KT β):∀ (n:Nat) (p2:List (List V)) (p3:Int) (p31:List (List V)) (p32 p33:Int) (b4:List V) (zKV zKW zKX zKY:Int),yE (yo zaF (zaG ye xl zn yk zb ya L) 0 L zcb) zdp n (zcJ p2 p3 p31 p32 p33 b4 zKV zKW zKX zKY) K=zcg ye xl zn yk zb ya L (fun p9 b8=>K .ret (zhu p9 b8)) (fun p2 p3 b4 zKV zKW zKX zKY=>K (.exit 0) (zh4 p2 p3 b4 zKV zKW zKX zKY)) n p2 p3 p31 p32 p33 b4 zKV zKW zKX zKY:=by
 intro n
 induction n with
 | zero=>intros; rfl
 | succ n ih =>
  intro p2 p3 p31 p32 p33 b4 zKV zKW zKX zKY
  refine (zpH ye xl zn yk zb ya L p2 p3 p31 p32 p33 b4 zKV zKW zKX zKY (fun σ=>yE (yo zaF (zaG ye xl zn yk zb ya L) 0 L zcb) zdp n σ K) K).trans ?_
  simp only [ih]
  rfl
def zhS {β:Type} (ye:zD) (xl:zad) (zn:zao) (yk:z6) (zb:yn) (ya:yq) (L:Nat) (p0:List V) (p1 p2:List (List V)) (p3:Int) (k_fin:List V→Int→Option β):Option β :=
 zl9 ye xl zn yk zb ya L p0 p1 p2 p3 k_fin (fun p2 p3 p31 p32 p33 b4 zKV zKW zKX zKY=>zcg ye xl zn yk zb ya L (fun p9 b8=>zel ye xl zn yk zb ya L p9 b8 k_fin) (fun p2 p3 b4 zKV zKW zKX zKY=>zbY ye xl zn yk zb ya L p2 p3 b4 zKV zKW zKX zKY k_fin) L p2 p3 p31 p32 p33 b4 zKV zKW zKX zKY)
theorem zvN {β:Type} (ye:zD) (xl:zad) (zn:zao) (yk:z6) (zb:yn) (ya:yq) (L:Nat) (p0:List V) (p1 p2:List (List V)) (p3:Int) (k:KK β):zt zaF (zaG ye xl zn yk zb ya L) L zb7 [(V.agg p0),(V.sl 3 p1),(V.sl 4 p2),(V.sc (.int .u64 p3))] [] k=zhS ye xl zn yk zb ya L p0 p1 p2 p3 (fun zL8 zL9=>k (V.tup [(V.agg zL8),(V.sc (.int .i64 zL9))]) []):=by
 refine (zv4 ye xl zn yk zb ya L p0 p1 p2 p3 k).trans ?_
 unfold zhS
 first
  | (simp only [zhJ,znR,zn3]; done)
  | (simp only [zhJ]; rfl)
abbrev xr:=∀ (β:Type),Nat→List V→List (List V)→List (List V)→Int→(List V→Int→Option β)→Option β
def xb (β:Type) (L:Nat) (p0:List V) (p1 p2:List (List V)) (p3:Int) (k_fin:List V→Int→Option β):Option β:=zhS ye xl zn yk zb ya L p0 p1 p2 p3 k_fin
def zc5 (xb:xr) (L:Nat) (β:Type) (args:List V) (bor:Bor) (k:KK β):Option β:=match args,bor with
 | [a0,a1,a2,a3],[]=>aG a0 fun p0=>aL 3 a1 fun p1=>aL 4 a2 fun p2=>aI .u64 a3 fun p3=>xb β L p0 p1 p2 p3 (fun zL8 zL9=>k (V.tup [(V.agg zL8),(V.sc (.int .i64 zL9))]) [])
 | _,_=>none
theorem zv7 (L:Nat) (β:Type) (args:List V) (bor:Bor) (k:KK β) (r:β) (h:zc5 xb L β args bor k=some r):zt zaF (zaG ye xl zn yk zb ya L) L zb7 args bor k=some r:=by
 unfold zc5 at h
 split at h
 ·have q:=xY h; clear h; obtain ⟨p0,rfl,h⟩:=q
  have q:=zZ h; clear h; obtain ⟨p1,rfl,h⟩:=q
  have q:=zZ h; clear h; obtain ⟨p2,rfl,h⟩:=q
  have q:=zaC h; clear h; obtain ⟨p3,rfl,h⟩:=q
  exact (zvN ye xl zn yk zb ya L p0 p1 p2 p3 k).trans h
 ·cases h
def zbq:CF:=⟨8,[.tmp 2],
 (.seq (.reg [oo 2 (.move (.const (.gs 4 [])) true)])
 (.fork (.reg [oo 3 (.move (tq 0) false),
   oo 4 (.nilT false (tq 3))])
 (tq 4)
 (.seq (.reg [oo 2 (.nilS 4 7)])
 (.seq (.mask (bl 4 8) (bl 128 8))
 .ret))
 (.seq (.reg [⟨(some 5),true,none,.buildSlice 4 0 [(.sc (.int .i64 0)),(.sc (.int .u32 0)),(.sc (.int .u16 0)),(.sc (.int .u32 0))] []⟩,
   oo 6 (.move (tq 0) false),
   ⟨(some 7),true,none,.append 4 24 (tq 5) (tq 6)⟩,
   oo 2 (.move (tq 7) true)])
 (.seq (.mask (bl 4 8) (bl 128 8))
 .ret))))⟩
def zem:Hint:=⟨[(0,0),(2,0),(3,3)],[(3,0),(3,2)],[none,some ((bl 4 8),(bl 128 8)),some ((bl 4 8),(bl 128 8))],[],[(2,0,[7])],false,false⟩
def zcE:Nat→Sh:=zP []
def zcy (L:Nat):CBC:=noC
def zcS {β:Type} (L:Nat) (p0:List (List V)) (k_fin:List (List V)→Option β):Option β :=
 lc p0 (
 k_fin ([]:List (List V))) (fun h0 t0 =>
 chk ((0+List.length (h0::t0)) * 24≤zs∧0+List.length (h0::t0)≤zs) (
 chk ((List.length (h0::t0))≠0∨(List.length (List.flatten (h0::t0)))=0) (
 k_fin (yl 4 (List.length (h0::t0)) (List.flatten (h0::t0))))))
theorem zjV {β:Type} (L:Nat) (p0:List (List V)) (k:KK β):zt zcE (zcy L) L zbq [(V.sl 4 p0)] [] k=zcS L p0 (fun p0=>k (V.fr 4 p0) []):=by kernel_rfl
abbrev zbF:=∀ (β:Type),Nat→List (List V)→(List (List V)→Option β)→Option β
def yu (β:Type) (L:Nat) (p0:List (List V)) (k_fin:List (List V)→Option β):Option β:=zcS L p0 k_fin
def zbE (yu:zbF) (L:Nat) (β:Type) (args:List V) (bor:Bor) (k:KK β):Option β:=match args,bor with
 | [a0],[]=>aL 4 a0 fun p0=>yu β L p0 (fun p0=>k (V.fr 4 p0) [])
 | _,_=>none
theorem zkf (L:Nat) (β:Type) (args:List V) (bor:Bor) (k:KK β) (r:β) (h:zbE yu L β args bor k=some r):zt zcE (zcy L) L zbq args bor k=some r:=by
 unfold zbE at h
 split at h
 ·have q:=zZ h; clear h; obtain ⟨p0,rfl,h⟩:=q
  exact (zjV L p0 k).trans h
 ·cases h
def zja:CF:=⟨30,[.tmp 4,.tmp 5],
 (.seq (.reg [oo 3 (.box true (tq 1)),
   oo 4 (.move (.const (.gs 4 [])) true),
   oo 5 (.move (.const (.sc (.int .i64 0))) false)])
 (.seq (.block 0 (.seq (.reg [oo 7 (.move (tq 0) false),
   oo 8 (.call 270 [((tq 7),0)] []),
   oo 9 (.un .not (tq 8)),
   oo 10 (.move (tq 9) false),
   ⟨(some 11),false,(some (10,false)),.fieldAddr 0 (tq 3)⟩,
   ⟨(some 12),false,(some (10,false)),.load false 1 (tq 11) false⟩,
   ⟨(some 13),false,(some (10,false)),.call 285 [((tq 12),0)] []⟩,
   ⟨(some 14),false,(some (10,false)),.un .not (tq 13)⟩,
   oo 15 (.pick (tq 10) (.const (.sc (.bool true))) (tq 14)),
   oo 6 (.move (tq 15) false)])
 (.cond (tq 6)
 (.seq (.reg [oo 4 (.move (.const (.gs 4 [])) true),
   oo 5 (.move (.const (.sc (.int .i64 6))) false)])
 .ret)
 (.seq (.reg [oo 17 (.move (tq 0) false),
   oo 18 (.fieldAddr 1 (tq 3)),
   oo 19 (.load true 3 (tq 18) false),
   oo 20 (.call 278 [((tq 17),0),((tq 19),0)] []),
   oo 16 (.move (tq 20) false)])
 (.cond (tq 16)
 (.seq (.reg [oo 4 (.move (.const (.gs 4 [])) true),
   oo 5 (.move (.const (.sc (.int .i64 350))) false)])
 .ret)
 (.seq (.reg [oo 22 (.move (tq 0) false),
   oo 23 (.lenS (tq 22)),
   oo 24 (.bin .geq (tq 23) (.const (.sc (.int .i64 8)))),
   oo 21 (.move (tq 24) false)])
 (.cond (tq 21)
 (.seq (.reg [oo 4 (.move (.const (.gs 4 [])) true),
   oo 5 (.move (.const (.sc (.int .i64 380))) false)])
 .ret)
 .skip)))))))
 (.seq (.dreg [] [(oo 25 (.move (tq 0) false),q0),
   (oo 26 (.call 286 [((tq 25),0)] []),qc [3] [28]),
   (oo 27 (.load true 4 (tq 3) false),ql 3 [] []),
   (oo 28 (.buildSlice 4 1 [(.sc (.int .i64 0)),(.sc (.int .u32 0)),(.sc (.int .u16 0)),(.sc (.int .u32 0))] [(0,4,(tq 27))]),qn [] []),
   (oo 29 (.append 4 24 (tq 26) (tq 28)),q0),
   (oo 4 (.move (tq 29) true),q0),
   (oo 5 (.move (.const (.sc (.int .i64 0))) false),q0)])
 .ret)))⟩
def zqc:Hint:=⟨[(0,1),(2,0),(4,0),(6,0),(7,5)],[],[none,none,none,none,none,none,none,none],[],[],false,false⟩
def znW:Nat→Sh:=zP [(12,(.int .i64))]
def znI (ye:zD) (xi:yW) (ya:yq) (yu:zbF) (L:Nat):CBC:=(zw 286 (zbE yu L) (zw 278 (zc4 ya L) (zw 285 (zgj xi L) (zw 270 (zeB ye L) noC))))
def zoE {β:Type} (ye:zD) (xi:yW) (ya:yq) (yu:zbF) (L:Nat) (p0:List (List V)) (p1:List V) (k_fin:List (List V)→Int→Option β):Option β :=
 ye β L p0 (fun v0 =>
 ifb (!v0) (
 k_fin ([]:List (List V)) (6:Int)) (
 cI .i64 p1 0 fun v1 =>
 xi β L v1 (fun v2 =>
 ifb (!v2) (
 k_fin ([]:List (List V)) (6:Int)) (
 chk (1+3≤(List.length p1)) (
 ya β L p0 (List.take 3 (List.drop 1 p1)) (fun v3 =>
 ifb v3 (
 k_fin ([]:List (List V)) (350:Int)) (
 ifb (decide (((List.length p0:Nat):Int) ≥ (8:Int))) (
 k_fin ([]:List (List V)) (380:Int)) (
 yu β L p0 (fun v4 =>
 chk (0+4≤(List.length p1)) (
 chk ((List.length (List.take 4 p1))=4∧0+4≤4) (
 chk ((List.length v4+List.length (yl 4 1 (xg [(V.sc (.int .i64 (0:Int))),(V.sc (.int .u32 (0:Int))),(V.sc (.int .u16 (0:Int))),(V.sc (.int .u32 (0:Int)))] 0 (List.take 4 p1)))) * 24≤zs∧List.length v4+List.length (yl 4 1 (xg [(V.sc (.int .i64 (0:Int))),(V.sc (.int .u32 (0:Int))),(V.sc (.int .u16 (0:Int))),(V.sc (.int .u32 (0:Int)))] 0 (List.take 4 p1)))≤zs) (
 lt (v4++(yl 4 1 (xg [(V.sc (.int .i64 (0:Int))),(V.sc (.int .u32 (0:Int))),(V.sc (.int .u16 (0:Int))),(V.sc (.int .u32 (0:Int)))] 0 (List.take 4 p1)))) fun l5 =>
 k_fin l5 (0:Int)))))))))))))
theorem zx8 {β:Type} (ye:zD) (xi:yW) (ya:yq) (yu:zbF) (L:Nat) (p0:List (List V)) (p1:List V) (k:KK β):zt znW (znI ye xi ya yu L) L zja [(V.sl 4 p0),(V.agg p1)] [] k=zoE ye xi ya yu L p0 p1 (fun zL8 zL9=>k (V.tup [(V.gs 4 zL8),(V.sc (.int .i64 zL9))]) []):=by kernel_rfl
abbrev y8:=∀ (β:Type),Nat→List (List V)→List V→(List (List V)→Int→Option β)→Option β
def zj (β:Type) (L:Nat) (p0:List (List V)) (p1:List V) (k_fin:List (List V)→Int→Option β):Option β:=zoE ye xi ya yu L p0 p1 k_fin
def zhy (zj:y8) (L:Nat) (β:Type) (args:List V) (bor:Bor) (k:KK β):Option β:=match args,bor with
 | [a0,a1],[]=>aL 4 a0 fun p0=>aG a1 fun p1=>zj β L p0 p1 (fun zL8 zL9=>k (V.tup [(V.gs 4 zL8),(V.sc (.int .i64 zL9))]) [])
 | _,_=>none
theorem zxV (L:Nat) (β:Type) (args:List V) (bor:Bor) (k:KK β) (r:β) (h:zhy zj L β args bor k=some r):zt znW (znI ye xi ya yu L) L zja args bor k=some r:=by
 unfold zhy at h
 split at h
 ·have q:=zZ h; clear h; obtain ⟨p0,rfl,h⟩:=q
  have q:=xY h; clear h; obtain ⟨p1,rfl,h⟩:=q
  exact (zx8 ye xi ya yu L p0 p1 k).trans h
 ·cases h
def zlR:CF:=⟨40,[.tmp 0],
 (.seq (.reg [oo 0 (.move (.const (.sc (.bool false))) false)])
 (.seq (.reg [oo 8 (.build (rp 32 (.sc (.int .u8 0)) (rp 2 (.sl 5 []) [])) []),
   oo 9 (.call 263 [((tq 8),1),((.const (.gs 3 [])),0),((.const (.gs 4 [])),0),((.const (.sc (.int .u64 0))),0)] []),
   oo 7 (.move (tq 9) true),
   oo 10 (.pull (tq 7) 0),
   oo 11 (.pull (tq 7) 1),
   oo 1 (.alloc true [(.sc (.int .i64 0)),(.sc (.int .u32 0)),(.sc (.int .u16 0)),(.sc (.int .u32 0))]),
   oz (.store 4 (tq 1) (tq 10)),
   oo 2 (.move (tq 11) false)])
 (.seq (.reg [oo 13 (.build [(.sc (.int .u32 0)),(.sc (.int .u16 0)),(.sc (.int .u32 0))] [(0,1,(.const (.sc (.int .u32 65536))))]),
   oo 14 (.build [(.sc (.int .i64 0)),(.sc (.int .u32 0)),(.sc (.int .u16 0)),(.sc (.int .u32 0))] [(0,1,(.const (.sc (.int .i64 2)))),(1,3,(tq 13))]),
   oo 15 (.call 271 [((.const (.gs 4 [])),0),((tq 14),0)] []),
   oo 12 (.move (tq 15) true),
   oo 16 (.extract (tq 12) 0),
   oo 17 (.pull (tq 12) 1),
   oo 3 (.move (tq 16) false),
   oo 4 (.move (tq 17) false)])
 (.seq (.reg [oo 19 (.move (tq 3) false),
   oo 20 (.build [(.sc (.int .u32 0)),(.sc (.int .u16 0)),(.sc (.int .u32 0))] [(0,1,(.const (.sc (.int .u32 65539))))]),
   oo 21 (.build [(.sc (.int .i64 0)),(.sc (.int .u32 0)),(.sc (.int .u16 0)),(.sc (.int .u32 0))] [(0,1,(.const (.sc (.int .i64 2)))),(1,3,(tq 20))]),
   oo 22 (.call 271 [((tq 19),0),((tq 21),0)] []),
   oo 18 (.move (tq 22) true),
   oo 23 (.extract (tq 18) 0),
   oo 24 (.pull (tq 18) 1),
   oo 5 (.move (tq 23) false),
   oo 6 (.move (tq 24) false)])
 (.seq (.reg [oo 25 (.move (tq 2) false),
   oo 26 (.bin .eql (tq 25) (.const (.sc (.int .i64 390)))),
   oo 27 (.move (tq 26) false),
   ⟨(some 28),false,(some (27,true)),.move (tq 4) false⟩,
   ⟨(some 29),false,(some (27,true)),.bin .eql (tq 28) (.const (.sc (.int .i64 0)))⟩,
   oo 30 (.pick (tq 27) (tq 29) (.const (.sc (.bool false)))),
   oo 31 (.move (tq 30) false),
   ⟨(some 32),false,(some (31,true)),.move (tq 3) false⟩,
   ⟨(some 33),false,(some (31,true)),.lenS (tq 32)⟩,
   ⟨(some 34),false,(some (31,true)),.bin .eql (tq 33) (.const (.sc (.int .i64 1)))⟩,
   oo 35 (.pick (tq 31) (tq 34) (.const (.sc (.bool false)))),
   oo 36 (.move (tq 35) false),
   ⟨(some 37),false,(some (36,true)),.move (tq 6) false⟩,
   ⟨(some 38),false,(some (36,true)),.bin .eql (tq 37) (.const (.sc (.int .i64 350)))⟩,
   oo 39 (.pick (tq 36) (tq 38) (.const (.sc (.bool false)))),
   oo 0 (.move (tq 39) false)])
 .ret)))))⟩
def zsN:Hint:=⟨[(1,2),(2,3),(2,4),(3,4),(3,5)],[],[none],[],[],false,false⟩
def zpU:Nat→Sh:=zP []
def zpX (xb:xr) (zj:y8) (L:Nat):CBC:=(zw 271 (zhy zj L) (zw 263 (zc5 xb L) noC))
def zw2 {β:Type} (xb:xr) (zj:y8) (L:Nat) (k_fin:Bool→Option β):Option β :=
 xb β L (List.replicate 32 (V.sc (.int .u8 (0:Int)))++[(V.sl 5 ([]:List (List V))),(V.sl 5 ([]:List (List V)))]) ([]:List (List V)) ([]:List (List V)) (0:Int) (fun v0 v1 =>
 chk ((List.length v0)=4∧0+4≤4) (
 lt (xg [(V.sc (.int .i64 (0:Int))),(V.sc (.int .u32 (0:Int))),(V.sc (.int .u16 (0:Int))),(V.sc (.int .u32 (0:Int)))] 0 v0) fun r2 =>
 zj β L ([]:List (List V)) [(V.sc (.int .i64 (2:Int))),(V.sc (.int .u32 (65536:Int))),(V.sc (.int .u16 (0:Int))),(V.sc (.int .u32 (0:Int)))] (fun v3 v4 =>
 zj β L v3 [(V.sc (.int .i64 (2:Int))),(V.sc (.int .u32 (65539:Int))),(V.sc (.int .u16 (0:Int))),(V.sc (.int .u32 (0:Int)))] (fun v5 v6 =>
 ifb ((v1:Int) == (390:Int)) (
 ifb ((v4:Int) == (0:Int)) (
 ifb ((((List.length v3:Nat):Int):Int) == (1:Int)) (
 k_fin ((v6:Int) == (350:Int))) (
 k_fin false)) (
 k_fin false)) (
 k_fin false)))))
theorem zAf {β:Type} (xb:xr) (zj:y8) (L:Nat) (k:KK β):zt zpU (zpX xb zj L) L zlR [] [] k=zw2 xb zj L (fun p0=>k (V.sc (.bool p0)) []):=by kernel_rfl
abbrev zx:=∀ (β:Type),Nat→(Bool→Option β)→Option β
def zd (β:Type) (L:Nat) (k_fin:Bool→Option β):Option β:=zw2 xb zj L k_fin
def zfB (zd:zx) (L:Nat) (β:Type) (args:List V) (bor:Bor) (k:KK β):Option β:=match args,bor with
 | [],[]=>zd β L (fun p0=>k (V.sc (.bool p0)) [])
 | _,_=>none
theorem zAD (L:Nat) (β:Type) (args:List V) (bor:Bor) (k:KK β) (r:β) (h:zfB zd L β args bor k=some r):zt zpU (zpX xb zj L) L zlR args bor k=some r:=by
 unfold zfB at h
 split at h
 ·exact (zAf xb zj L k).trans h
 ·cases h
def zpc:CF:=⟨6,[.tmp 2],
 (.seq (.reg [oo 2 (.move (.const (.sc (.pointer none))) false)])
 (.seq (.reg [oo 3 (.move (tq 0) false),
   oo 4 (.build [(.sl 1 []),(.sc (.int .i64 0))] [(0,1,(tq 3))]),
   oo 5 (.box false (tq 4)),
   oo 2 (.move (tq 5) false)])
 .ret))⟩
def zvz:Hint:=⟨[],[],[none],[],[],false,false⟩
def zs0:Nat→Sh:=zP []
def ztD (L:Nat):CBC:=noC
def zAS {β:Type} (L:Nat) (p0:List (List V)) (k_fin:List (List V)→Int→Option β):Option β :=
 k_fin p0 (0:Int)
theorem zC4 {β:Type} (L:Nat) (p0:List (List V)) (k:KK β):zt zs0 (ztD L) L zpc [(V.sl 1 p0)] [] k=zAS L p0 (fun zL8 zL9=>k (V.bx false [(V.sl 1 zL8),(V.sc (.int .i64 zL9))]) []):=by kernel_rfl
abbrev xt:=∀ (β:Type),Nat→List (List V)→(List (List V)→Int→Option β)→Option β
def zc (β:Type) (L:Nat) (p0:List (List V)) (k_fin:List (List V)→Int→Option β):Option β:=zAS L p0 k_fin
def zf5 (zc:xt) (L:Nat) (β:Type) (args:List V) (bor:Bor) (k:KK β):Option β:=match args,bor with
 | [a0],[]=>aL 1 a0 fun p0=>zc β L p0 (fun zL8 zL9=>k (V.bx false [(V.sl 1 zL8),(V.sc (.int .i64 zL9))]) [])
 | _,_=>none
theorem zCS (L:Nat) (β:Type) (args:List V) (bor:Bor) (k:KK β) (r:β) (h:zf5 zc L β args bor k=some r):zt zs0 (ztD L) L zpc args bor k=some r:=by
 unfold zf5 at h
 split at h
 ·have q:=zZ h; clear h; obtain ⟨p0,rfl,h⟩:=q
  exact (zC4 L p0 k).trans h
 ·cases h
def zg0:CF:=⟨13,[.tmp 2],
 (.seq (.reg [oo 2 (.move (.const (.sc (.bool false))) false)])
 (.seq (.dreg [] [(oo 3 (.move (tq 0) false),q0),
   (oo 4 (.nilCheck (tq 3)),q0),
   (oo 5 (.fieldAddr 1 (tq 4)),q0),
   (oo 6 (.load false 1 (tq 5) false),ql 0 [] []),
   (oo 7 (.move (tq 0) false),q0),
   (oo 8 (.nilCheck (tq 7)),q0),
   (oo 9 (.fieldAddr 0 (tq 8)),q0),
   (oo 10 (.load false 1 (tq 9) false),ql 0 [] []),
   (oo 11 (.lenS (tq 10)),q0),
   (oo 12 (.bin .lss (tq 6) (tq 11)),q0),
   (oo 2 (.move (tq 12) false),q0)])
 .ret))⟩
def zoi:Hint:=⟨[],[],[none],[],[],false,false⟩
def zkU:Nat→Sh:=zP []
def zlf (L:Nat):CBC:=noC
def zig {β:Type} (L:Nat) (zKT:List (List V)) (zKU:Int) (k_fin:Bool→List (List V)→Int→Option β):Option β :=
 k_fin (decide (zKU < ((List.length zKT:Nat):Int))) zKT zKU
theorem zvS {β:Type} (L:Nat) (zKT:List (List V)) (zKU:Int) (k:KK β):zt zkU (zlf L) L zg0 [(V.ptr 0 0)] [(.live false [(V.sl 1 zKT),(V.sc (.int .i64 zKU))])] k=zig L zKT zKU (fun p0 zKT zKU=>k (V.sc (.bool p0)) [(.live false [(V.sl 1 zKT),(V.sc (.int .i64 zKU))])]):=by kernel_rfl
abbrev zii:=∀ (β:Type),Nat→List (List V)→Int→(Bool→List (List V)→Int→Option β)→Option β
def xT (β:Type) (L:Nat) (zKT:List (List V)) (zKU:Int) (k_fin:Bool→List (List V)→Int→Option β):Option β:=zig L zKT zKU k_fin
def zhX (xT:zii) (L:Nat) (β:Type) (args:List V) (bor:Bor) (k:KK β):Option β:=match args,bor with
 | [a0],[(.live false [w0_0,w0_1])]=>aP 0 0 a0 (aL 1 w0_0 fun zKT=>aI .i64 w0_1 fun zKU=>xT β L zKT zKU (fun p0 zKT zKU=>k (V.sc (.bool p0)) [(.live false [(V.sl 1 zKT),(V.sc (.int .i64 zKU))])]))
 | _,_=>none
theorem zwf (L:Nat) (β:Type) (args:List V) (bor:Bor) (k:KK β) (r:β) (h:zhX xT L β args bor k=some r):zt zkU (zlf L) L zg0 args bor k=some r:=by
 unfold zhX at h
 split at h
 ·have q:=zlF h; clear h; obtain ⟨rfl,h⟩:=q
  have q:=zZ h; clear h; obtain ⟨zKT,rfl,h⟩:=q
  have q:=zaC h; clear h; obtain ⟨zKU,rfl,h⟩:=q
  exact (zvS L zKT zKU k).trans h
 ·cases h
def zo1:CF:=⟨15,[.tmp 4],
 (.seq (.reg [oo 4 (.move (.const (.sc (.int .i64 0))) false)])
 (.seq (.reg [oo 6 (.move (tq 0) false),
   oo 7 (.move (tq 1) false),
   oo 8 (.bin .rem (tq 6) (tq 7)),
   oo 5 (.move (tq 8) false)])
 (.seq (.seq (.reg [oo 9 (.move (tq 5) false),
   oo 10 (.bin .lss (tq 9) (.const (.sc (.int .i64 0))))])
 (.cond (tq 10)
 (.reg [oo 11 (.move (tq 5) false),
   oo 12 (.move (tq 1) false),
   oo 13 (.bin .add (tq 11) (tq 12)),
   oo 5 (.move (tq 13) false)])
 .skip))
 (.seq (.reg [oo 14 (.move (tq 5) false),
   oo 4 (.move (tq 14) false)])
 .ret))))⟩
def zvD:Hint:=⟨[],[],[none,none],[],[],false,false⟩
def ztp:Nat→Sh:=zP []
def zs3 (L:Nat):CBC:=noC
def zqP {β:Type} (L:Nat) (p0 p1:Int) (k_fin:Int→Option β):Option β :=
 chk (p1≠0) (
 lt (Int.tmod p0 p1) fun x0 =>
 ifb (decide (x0 < (0:Int))) (
 lt (IntKind.wrap .i64 ((x0:Int)+p1)) fun x1 =>
 k_fin x1) (
 k_fin x0))
theorem zCV {β:Type} (L:Nat) (p0 p1:Int) (k:KK β):zt ztp (zs3 L) L zo1 [(V.sc (.int .i64 p0)),(V.sc (.int .i64 p1))] [] k=zqP L p0 p1 (fun p0=>k (V.sc (.int .i64 p0)) []):=by kernel_rfl
abbrev xO:=∀ (β:Type),Nat→Int→Int→(Int→Option β)→Option β
def yi (β:Type) (L:Nat) (p0 p1:Int) (k_fin:Int→Option β):Option β:=zqP L p0 p1 k_fin
def zkv (yi:xO) (L:Nat) (β:Type) (args:List V) (bor:Bor) (k:KK β):Option β:=match args,bor with
 | [a0,a1],[]=>aI .i64 a0 fun p0=>aI .i64 a1 fun p1=>yi β L p0 p1 (fun p0=>k (V.sc (.int .i64 p0)) [])
 | _,_=>none
theorem zC9 (L:Nat) (β:Type) (args:List V) (bor:Bor) (k:KK β) (r:β) (h:zkv yi L β args bor k=some r):zt ztp (zs3 L) L zo1 args bor k=some r:=by
 unfold zkv at h
 split at h
 ·have q:=zaC h; clear h; obtain ⟨p0,rfl,h⟩:=q
  have q:=zaC h; clear h; obtain ⟨p1,rfl,h⟩:=q
  exact (zCV L p0 p1 k).trans h
 ·cases h
def zg1:CF:=⟨28,[.tmp 4],
 (.seq (.reg [oo 4 (.move (.const (.sc (.int .i64 0))) false)])
 (.seq (.seq (.reg [oo 5 (.move (tq 0) false),
   oo 6 (.call 247 [((tq 5),0)] []),
   oo 7 (.un .not (tq 6))])
 (.cond (tq 7)
 (.seq (.reg [oo 4 (.move (.const (.sc (.int .i64 0))) false)])
 .ret)
 .skip))
 (.seq (.reg [oo 8 (.move (tq 0) false),
   oo 9 (.nilCheck (tq 8)),
   oo 10 (.fieldAddr 1 (tq 9)),
   oo 11 (.load false 1 (tq 10) false),
   oo 12 (.bin .add (tq 11) (.const (.sc (.int .i64 1)))),
   oo 13 (.nilCheck (tq 8)),
   oo 14 (.fieldAddr 1 (tq 13)),
   oz (.store 1 (tq 14) (tq 12))])
 (.seq (.dreg [] [(oo 15 (.move (tq 0) false),q0),
   (oo 16 (.nilCheck (tq 15)),q0),
   (oo 17 (.fieldAddr 0 (tq 16)),q0),
   (oo 18 (.load false 1 (tq 17) false),ql 0 [] []),
   (oo 19 (.move (tq 0) false),q0),
   (oo 20 (.nilCheck (tq 19)),q0),
   (oo 21 (.fieldAddr 1 (tq 20)),q0),
   (oo 22 (.load false 1 (tq 21) false),ql 0 [] []),
   (oo 23 (.bin .sub (tq 22) (.const (.sc (.int .i64 1)))),q0),
   (oo 24 (.indexAddrS 1 (tq 18) (tq 23)),q0),
   (oo 25 (.load false 1 (tq 24) false),q0),
   (oo 26 (.move (tq 1) false),q0),
   (oo 27 (.call 217 [((tq 25),0),((tq 26),0)] []),q0),
   (oo 4 (.move (tq 27) false),q0)])
 .ret))))⟩
def zop:Hint:=⟨[],[],[none,none,none],[],[],false,false⟩
def zk0:Nat→Sh:=zP [(25,(.int .i64))]
def zlc (xT:zii) (yi:xO) (L:Nat):CBC:=(zw 217 (zkv yi L) (zw 247 (zhX xT L) noC))
def zio {β:Type} (xT:zii) (yi:xO) (L:Nat) (p1:Int) (zKT:List (List V)) (zKU:Int) (k_fin:Int→List (List V)→Int→Option β):Option β :=
 xT β L zKT zKU (fun v0 v1 v2 =>
 ifb (!v0) (
 k_fin (0:Int) v1 v2) (
 lt (IntKind.wrap .i64 ((v2:Int)+(1:Int))) fun x3 =>
 lt (IntKind.wrap .i64 ((x3:Int) - (1:Int))) fun x4 =>
 idx v1 x4 fun c5 =>
 cI .i64 c5 0 fun v6 =>
 yi β L v6 p1 (fun v7 =>
 k_fin v7 v1 x3)))
theorem zwj {β:Type} (xT:zii) (yi:xO) (L:Nat) (p1:Int) (zKT:List (List V)) (zKU:Int) (k:KK β):zt zk0 (zlc xT yi L) L zg1 [(V.ptr 0 0),(V.sc (.int .i64 p1))] [(.live false [(V.sl 1 zKT),(V.sc (.int .i64 zKU))])] k=zio xT yi L p1 zKT zKU (fun p0 zKT zKU=>k (V.sc (.int .i64 p0)) [(.live false [(V.sl 1 zKT),(V.sc (.int .i64 zKU))])]):=by kernel_rfl
abbrev xj:=∀ (β:Type),Nat→Int→List (List V)→Int→(Int→List (List V)→Int→Option β)→Option β
def za (β:Type) (L:Nat) (p1:Int) (zKT:List (List V)) (zKU:Int) (k_fin:Int→List (List V)→Int→Option β):Option β:=zio xT yi L p1 zKT zKU k_fin
def zbl (za:xj) (L:Nat) (β:Type) (args:List V) (bor:Bor) (k:KK β):Option β:=match args,bor with
 | [a0,a1],[(.live false [w0_0,w0_1])]=>aP 0 0 a0 (aI .i64 a1 fun p1=>aL 1 w0_0 fun zKT=>aI .i64 w0_1 fun zKU=>za β L p1 zKT zKU (fun p0 zKT zKU=>k (V.sc (.int .i64 p0)) [(.live false [(V.sl 1 zKT),(V.sc (.int .i64 zKU))])]))
 | _,_=>none
theorem zvQ (L:Nat) (β:Type) (args:List V) (bor:Bor) (k:KK β) (r:β) (h:zbl za L β args bor k=some r):zt zk0 (zlc xT yi L) L zg1 args bor k=some r:=by
 unfold zbl at h
 split at h
 ·have q:=zlF h; clear h; obtain ⟨rfl,h⟩:=q
  have q:=zaC h; clear h; obtain ⟨p1,rfl,h⟩:=q
  have q:=zZ h; clear h; obtain ⟨zKT,rfl,h⟩:=q
  have q:=zaC h; clear h; obtain ⟨zKU,rfl,h⟩:=q
  exact (zwj xT yi L p1 zKT zKU k).trans h
 ·cases h
def znL:CF:=⟨10,[.cell 2 true 32],
 (.seq (.reg [oo 2 (.alloc true (rp 32 (.sc (.int .u8 0)) []))])
 (.seq (.reg [oo 3 (.move (tq 0) false),
   oo 4 (.call 231 [((tq 3),0),((.const (.sc (.int .i64 5))),0)] []),
   oo 5 (.conv .u8 (tq 4)),
   oo 6 (.move (tq 0) false),
   oo 7 (.call 231 [((tq 6),0),((.const (.sc (.int .i64 7))),0)] []),
   oo 8 (.conv .u8 (tq 7)),
   oo 9 (.build (rp 32 (.sc (.int .u8 0)) []) [(0,1,(tq 5)),(31,1,(tq 8))]),
   oz (.store 32 (tq 2) (tq 9))])
 .ret))⟩
def zuu:Hint:=⟨[],[],[none],[],[],false,false⟩
def zr4:Nat→Sh:=zP []
def zrR (za:xj) (L:Nat):CBC:=(zw 231 (zbl za L) noC)
def ztk {β:Type} (za:xj) (L:Nat) (zKT:List (List V)) (zKU:Int) (k_fin:List V→List (List V)→Int→Option β):Option β :=
 za β L (5:Int) zKT zKU (fun v0 v1 v2 =>
 lt (IntKind.wrap .u8 v0) fun x3 =>
 za β L (7:Int) v1 v2 (fun v4 v5 v6 =>
 lt (IntKind.wrap .u8 v4) fun x7 =>
 lt ([(V.sc (.int .u8 x3))]++List.replicate 30 (V.sc (.int .u8 (0:Int)))++[(V.sc (.int .u8 x7))]) fun r8 =>
 chk (0=0∧(List.length r8)=32∧32≠0) (
 k_fin r8 v5 v6)))
theorem zBW {β:Type} (za:xj) (L:Nat) (zKT:List (List V)) (zKU:Int) (k:KK β):zt zr4 (zrR za L) L znL [(V.ptr 0 0)] [(.live false [(V.sl 1 zKT),(V.sc (.int .i64 zKU))])] k=ztk za L zKT zKU (fun p0 zKT zKU=>k (V.agg p0) [(.live false [(V.sl 1 zKT),(V.sc (.int .i64 zKU))])]):=by kernel_rfl
abbrev zcm:=∀ (β:Type),Nat→List (List V)→Int→(List V→List (List V)→Int→Option β)→Option β
def yA (β:Type) (L:Nat) (zKT:List (List V)) (zKU:Int) (k_fin:List V→List (List V)→Int→Option β):Option β:=ztk za L zKT zKU k_fin
def zo8 (yA:zcm) (L:Nat) (β:Type) (args:List V) (bor:Bor) (k:KK β):Option β:=match args,bor with
 | [a0],[(.live false [w0_0,w0_1])]=>aP 0 0 a0 (aL 1 w0_0 fun zKT=>aI .i64 w0_1 fun zKU=>yA β L zKT zKU (fun p0 zKT zKU=>k (V.agg p0) [(.live false [(V.sl 1 zKT),(V.sc (.int .i64 zKU))])]))
 | _,_=>none
theorem zBU (L:Nat) (β:Type) (args:List V) (bor:Bor) (k:KK β) (r:β) (h:zo8 yA L β args bor k=some r):zt zr4 (zrR za L) L znL args bor k=some r:=by
 unfold zo8 at h
 split at h
 ·have q:=zlF h; clear h; obtain ⟨rfl,h⟩:=q
  have q:=zZ h; clear h; obtain ⟨zKT,rfl,h⟩:=q
  have q:=zaC h; clear h; obtain ⟨zKU,rfl,h⟩:=q
  exact (zBW za L zKT zKU k).trans h
 ·cases h
def zek:CC:=(.seq (.reg [oo 8 (.bin .lss (tq 7) (tq 6))])
 (.seq (.cond (tq 8)
 .skip
 (.seq (.mask (bl 8 22) (bl 4194287 22))
 (.exit 0)))
 (.seq (.block 1 (.seq (.reg [oo 9 (.move (tq 7) false),
   oo 4 (.move (tq 9) false)])
 (.reg [oo 10 (.move (tq 3) false),
   oo 11 (.move (tq 0) false),
   oo 12 (.move (tq 4) false),
   oo 13 (.indexAddrS 1 (tq 11) (tq 12)),
   oo 14 (.load false 1 (tq 13) false),
   oo 15 (.conv .u64 (tq 14)),
   oo 16 (.move (tq 4) false),
   oo 17 (.bin .mul (.const (.sc (.int .i64 8))) (tq 16)),
   oo 18 (.bin .shl (tq 15) (tq 17)),
   oo 19 (.bin .or (tq 10) (tq 18)),
   oo 3 (.move (tq 19) false)])))
 (.reg [oo 20 (.bin .add (tq 7) (.const (.sc (.int .i64 1)))),
   oo 7 (.move (tq 20) false)]))))
def zmV:CC:=(.seq (.reg [oo 21 (.move (tq 3) false),
   oo 2 (.move (tq 21) false)])
 .ret)
def zeL:CF:=⟨22,[.tmp 2],
 (.seq (.reg [oo 2 (.move (.const (.sc (.int .u64 0))) false)])
 (.seq (.reg [oo 3 (.move (.const (.sc (.int .u64 0))) false)])
 (.seq (.seq (.reg [oo 5 (.move (tq 0) false),
   oo 6 (.lenS (tq 5)),
   oo 7 (.move (.const (.sc (.int .i64 0))) false)])
 (.block 0 (.loop (bl 201 22) (bl 4194287 22)
 zek)))
 zmV)))⟩
def zsB:Hint:=⟨[],[],[none,some ((bl 201 22),(bl 4194287 22)),none,some ((bl 8 22),(bl 4194287 22)),none,none],[],[],false,false⟩
def zcl:Nat→Sh:=zP [(14,(.int .u8))]
def zco (L:Nat):CBC:=noC
def zha:St→St:=zae 0 (bl 201 22) (bl 4194287 22)
def ze8 (p0:List (List V)) (p3 p6 p7:Int):St:=⟨((V.sl 1 p0)::(jn 2 ((V.sc (.int .u64 p3))::(jn 2 ((V.sc (.int .i64 p6))::((V.sc (.int .i64 p7))::(jn 14 []))))))),(gn 22 [])⟩
def zl0 (p3:Int):St:=⟨(jn 3 ((V.sc (.int .u64 p3))::(jn 18 []))),(gn 22 [])⟩
def zrA {β:Type} (L:Nat) (p0:List (List V)) (k_hbbaba:List (List V)→Int→Int→Int→Option β):Option β :=
 k_hbbaba p0 (0:Int) ((List.length p0:Nat):Int) (0:Int)
theorem zAn {β:Type} (L:Nat) (p0:List (List V)) (k:KK β):zt zcl (zco L) L zeL [(V.sl 1 p0)] [] k=zrA L p0 (fun p0 p3 p6 p7=>yE (yo zcl (zco L) 0 L zek) zha L (ze8 p0 p3 p6 p7) (xG 0 (yU (yo zcl (zco L) 0 L zmV) (xZ 0 (CF.res zeL) k)))):=by kernel_rfl
def zkR {β:Type} (L:Nat) (p0:List (List V)) (p3 p6 p7:Int) (k_hbbaba:List (List V)→Int→Int→Int→Option β) (k_x0:Int→Option β):Option β :=
 ifb (decide (p7 < p6)) (
 idx p0 p7 fun c0 =>
 cI .u8 c0 0 fun v1 =>
 lt (IntKind.wrap .u64 v1) fun x2 =>
 lt (IntKind.wrap .i64 (((8:Int):Int) * p7)) fun x3 =>
 chk (0≤x3) (
 lt (zre .u64 x2 x3) fun x4 =>
 lt (ior .u64 p3 x4) fun x5 =>
 lt (IntKind.wrap .i64 ((p7:Int)+(1:Int))) fun x6 =>
 k_hbbaba p0 x5 p6 x6)) (
 k_x0 p3)
theorem zuJ {β:Type} (L:Nat) (p0:List (List V)) (p3 p6 p7:Int) (X:St→Option β) (K:KT β):yo zcl (zco L) 0 L zek (ze8 p0 p3 p6 p7) (zcr zha X K)=zkR L p0 p3 p6 p7 (fun p0 p3 p6 p7=>X (ze8 p0 p3 p6 p7)) (fun p3=>K (.exit 0) (zl0 p3)):=by kernel_rfl
def zoo {β:Type} (L:Nat) (p3:Int) (k_fin:Int→Option β):Option β :=
 k_fin p3
theorem ztv {β:Type} (L:Nat) (p3:Int) (k:KK β):(xG 0 (yU (yo zcl (zco L) 0 L zmV) (xZ 0 (CF.res zeL) k))) (.exit 0) (zl0 p3)=zoo L p3 (fun p0=>k (V.sc (.int .u64 p0)) []):=by kernel_rfl
def zeX {β:Type} (L:Nat) (k_x0:Int→Option β):Nat→List (List V)→Int→Int→Int→Option β
 | 0,_,_,_,_=>none
 | n+1,p0,p3,p6,p7=>zkR L p0 p3 p6 p7 (fun p0 p3 p6 p7=>zeX L k_x0 n p0 p3 p6 p7) k_x0
theorem zmM {β:Type} (L:Nat) (K:KT β):∀ (n:Nat) (p0:List (List V)) (p3 p6 p7:Int),yE (yo zcl (zco L) 0 L zek) zha n (ze8 p0 p3 p6 p7) K=zeX L (fun p3=>K (.exit 0) (zl0 p3)) n p0 p3 p6 p7:=by
 intro n
 induction n with
 | zero=>intros; rfl
 | succ n ih =>
  intro p0 p3 p6 p7
  refine (zuJ L p0 p3 p6 p7 (fun σ=>yE (yo zcl (zco L) 0 L zek) zha n σ K) K).trans ?_
  simp only [ih]
  rfl
def zns {β:Type} (L:Nat) (p0:List (List V)) (k_fin:Int→Option β):Option β :=
 zrA L p0 (fun p0 p3 p6 p7=>zeX L (fun p3=>zoo L p3 k_fin) L p0 p3 p6 p7)
theorem zzV {β:Type} (L:Nat) (p0:List (List V)) (k:KK β):zt zcl (zco L) L zeL [(V.sl 1 p0)] [] k=zns L p0 (fun p0=>k (V.sc (.int .u64 p0)) []):=by
 refine (zAn L p0 k).trans ?_
 unfold zns
 first
  | (simp only [zmM,ztv]; done)
  | (simp only [zmM]; rfl)
abbrev za1:=∀ (β:Type),Nat→List (List V)→(Int→Option β)→Option β
def xo (β:Type) (L:Nat) (p0:List (List V)) (k_fin:Int→Option β):Option β:=zns L p0 k_fin
def zkm (xo:za1) (L:Nat) (β:Type) (args:List V) (bor:Bor) (k:KK β):Option β:=match args,bor with
 | [a0],[]=>aL 1 a0 fun p0=>xo β L p0 (fun p0=>k (V.sc (.int .u64 p0)) [])
 | _,_=>none
theorem zAG (L:Nat) (β:Type) (args:List V) (bor:Bor) (k:KK β) (r:β) (h:zkm xo L β args bor k=some r):zt zcl (zco L) L zeL args bor k=some r:=by
 unfold zkm at h
 split at h
 ·have q:=zZ h; clear h; obtain ⟨p0,rfl,h⟩:=q
  exact (zzV L p0 k).trans h
 ·cases h
def zno:CF:=⟨8,[.cell 2 true 2],
 (.seq (.reg [oo 1 (.box true (tq 0)),
   oo 2 (.alloc true [(.sc (.int .u64 0)),(.sc (.int .u64 0))])])
 (.seq (.dreg [1] [(oo 3 (.sliceA 32 1 (tq 1) none (some (.const (.sc (.int .i64 8)))) none),q1),
   (oo 4 (.call 115 [((tq 3),0)] []),q1),
   (oo 5 (.sliceA 32 1 (tq 1) (some (.const (.sc (.int .i64 8)))) (some (.const (.sc (.int .i64 16)))) none),q1),
   (oo 6 (.call 115 [((tq 5),0)] []),q0),
   (oo 7 (.build [(.sc (.int .u64 0)),(.sc (.int .u64 0))] [(0,1,(tq 4)),(1,1,(tq 6))]),q0),
   (oz (.store 2 (tq 2) (tq 7)),q0)])
 .ret))⟩
def zux:Hint:=⟨[],[],[none],[(1,[1])],[],false,false⟩
def zrc:Nat→Sh:=zP []
def zrM (xo:za1) (L:Nat):CBC:=(zw 115 (zkm xo L) noC)
def ztc {β:Type} (xo:za1) (L:Nat) (p0:List V) (k_fin:List V→Option β):Option β :=
 chk ((List.length p0)≠0) (
 chk (0+32 * 1≤(List.length p0)) (
 xo β L (yl 1 8 p0) (fun v0 =>
 chk (0+32 * 1≤(List.length p0)) (
 xo β L (yl 1 8 (List.drop 8 p0)) (fun v1 =>
 lt [(V.sc (.int .u64 v0)),(V.sc (.int .u64 v1))] fun r2 =>
 chk (0=0∧(List.length r2)=2∧2≠0) (
 k_fin r2))))))
theorem zBC {β:Type} (xo:za1) (L:Nat) (p0:List V) (k:KK β):zt zrc (zrM xo L) L zno [(V.agg p0)] [] k=ztc xo L p0 (fun p0=>k (V.agg p0) []):=by kernel_rfl
abbrev zgF:=∀ (β:Type),Nat→List V→(List V→Option β)→Option β
def yP (β:Type) (L:Nat) (p0:List V) (k_fin:List V→Option β):Option β:=ztc xo L p0 k_fin
def zlq (yP:zgF) (L:Nat) (β:Type) (args:List V) (bor:Bor) (k:KK β):Option β:=match args,bor with
 | [a0],[]=>aG a0 fun p0=>yP β L p0 (fun p0=>k (V.agg p0) [])
 | _,_=>none
theorem zBz (L:Nat) (β:Type) (args:List V) (bor:Bor) (k:KK β) (r:β) (h:zlq yP L β args bor k=some r):zt zrc (zrM xo L) L zno args bor k=some r:=by
 unfold zlq at h
 split at h
 ·have q:=xY h; clear h; obtain ⟨p0,rfl,h⟩:=q
  exact (zBC xo L p0 k).trans h
 ·cases h
def zdx:CC:=(.seq (.reg [oo 12 (.bin .lss (tq 11) (tq 10))])
 (.seq (.cond (tq 12)
 .skip
 (.seq (.mask (bl 32 24) (bl 16777151 24))
 (.exit 0)))
 (.seq (.block 1 (.seq (.reg [oo 13 (.move (tq 11) false),
   oo 6 (.move (tq 13) false)])
 (.reg [oo 14 (.move (tq 5) false),
   oo 15 (.move (tq 6) false),
   oo 16 (.move (tq 0) false),
   oo 17 (.move (tq 6) false),
   oo 18 (.bin .mul (.const (.sc (.int .i64 8))) (tq 17)),
   oo 19 (.bin .shr (tq 16) (tq 18)),
   oo 20 (.conv .u8 (tq 19)),
   oo 21 (.indexAddrS 1 (tq 14) (tq 15)),
   oz (.store 1 (tq 21) (tq 20))])))
 (.reg [oo 22 (.bin .add (tq 11) (.const (.sc (.int .i64 1)))),
   oo 11 (.move (tq 22) false)]))))
def zkQ:CC:=(.seq (.reg [oo 23 (.move (tq 5) true),
   oo 4 (.move (tq 23) true)])
 .ret)
def zdA:CF:=⟨24,[.tmp 4],
 (.seq (.reg [oo 4 (.move (.const (.gs 1 [])) true)])
 (.seq (.reg [oo 7 (.move (tq 1) false),
   ⟨(some 8),true,none,.makeSlice 1 1 [(.sc (.int .u8 0))] (tq 7) (tq 7)⟩,
   oo 5 (.move (tq 8) true)])
 (.seq (.seq (.reg [oo 9 (.move (tq 5) false),
   oo 10 (.lenS (tq 9)),
   oo 11 (.move (.const (.sc (.int .i64 0))) false)])
 (.block 0 (.loop (bl 3105 24) (bl 16777151 24)
 zdx)))
 zkQ)))⟩
def zql:Hint:=⟨[(0,0),(1,2),(7,0),(7,1)],[(1,1)],[none,some ((bl 3105 24),(bl 16777151 24)),none,some ((bl 32 24),(bl 16777151 24)),none,none],[],[],false,false⟩
def zbD:Nat→Sh:=zP []
def zbK (L:Nat):CBC:=noC
def zfM:St→St:=zae 0 (bl 3105 24) (bl 16777151 24)
def zd4 (p0:Int) (p5l:Nat) (p10 p11:Int) (b8:List V):St:=⟨((V.sc (.int .u64 p0))::(jn 4 ((V.own 8 0 p5l 1)::(jn 4 ((V.sc (.int .i64 p10))::((V.sc (.int .i64 p11))::(jn 12 []))))))),(gn 8 ((.live true b8)::(gn 15 [])))⟩
def zjw (p5l:Nat) (b8:List V):St:=⟨(jn 5 ((V.own 8 0 p5l 1)::(jn 18 []))),(gn 8 ((.live true b8)::(gn 15 [])))⟩
def ztX {β:Type} (L:Nat) (p0 p1:Int) (k_hbbaba:Int→Nat→Int→Int→List V→Option β):Option β :=
 chk (0≤p1∧p1≤p1∧(Int.toNat p1) * 1≤zs∧p1≤zs∧p1=p1) (
 k_hbbaba p0 (List.length (List.replicate (Int.toNat p1) [(V.sc (.int .u8 (0:Int)))])) (((List.length (List.replicate (Int.toNat p1) [(V.sc (.int .u8 (0:Int)))])):Nat):Int) (0:Int) (List.flatten (List.replicate (Int.toNat p1) [(V.sc (.int .u8 (0:Int)))])))
theorem zyn {β:Type} (L:Nat) (p0 p1:Int) (k:KK β):zt zbD (zbK L) L zdA [(V.sc (.int .u64 p0)),(V.sc (.int .i64 p1))] [] k=ztX L p0 p1 (fun p0 p5l p10 p11 b8=>yE (yo zbD (zbK L) 0 L zdx) zfM L (zd4 p0 p5l p10 p11 b8) (xG 0 (yU (yo zbD (zbK L) 0 L zkQ) (xZ 0 (CF.res zdA) k)))):=by kernel_rfl
def zon {β:Type} (L:Nat) (p0:Int) (p5l:Nat) (p10 p11:Int) (b8:List V) (k_hbbaba:Int→Nat→Int→Int→List V→Option β) (k_x0:Nat→List V→Option β):Option β :=
 ifb (decide (p11 < p10)) (
 lt (IntKind.wrap .i64 (((8:Int):Int) * p11)) fun x0 =>
 chk (0≤x0) (
 lt (znO .u64 p0 x0) fun x1 =>
 lt (IntKind.wrap .u8 x1) fun x2 =>
 chk (0≤p11∧p11 < ((p5l:Nat):Int)) (
 chk (1=1∧(0+((Int.toNat p11) * 1))+1≤(List.length b8)) (
 lt (xg b8 (0+((Int.toNat p11) * 1)) [(V.sc (.int .u8 x2))]) fun r3 =>
 lt (IntKind.wrap .i64 ((p11:Int)+(1:Int))) fun x4 =>
 k_hbbaba p0 p5l p10 x4 r3)))) (
 k_x0 p5l b8)
theorem ztm {β:Type} (L:Nat) (p0:Int) (p5l:Nat) (p10 p11:Int) (b8:List V) (X:St→Option β) (K:KT β):yo zbD (zbK L) 0 L zdx (zd4 p0 p5l p10 p11 b8) (zcr zfM X K)=zon L p0 p5l p10 p11 b8 (fun p0 p5l p10 p11 b8=>X (zd4 p0 p5l p10 p11 b8)) (fun p5l b8=>K (.exit 0) (zjw p5l b8)):=by kernel_rfl
def zmn {β:Type} (L:Nat) (p5l:Nat) (b8:List V) (k_fin:List (List V)→Option β):Option β :=
 chk (p5l≠0∨(List.length b8)=0) (
 k_fin (yl 1 p5l b8))
theorem zrW {β:Type} (L:Nat) (p5l:Nat) (b8:List V) (k:KK β):(xG 0 (yU (yo zbD (zbK L) 0 L zkQ) (xZ 0 (CF.res zdA) k))) (.exit 0) (zjw p5l b8)=zmn L p5l b8 (fun p0=>k (V.fr 1 p0) []):=by kernel_rfl
def ziV {β:Type} (L:Nat) (k_x0:Nat→List V→Option β):Nat→Int→Nat→Int→Int→List V→Option β
 | 0,_,_,_,_,_=>none
 | n+1,p0,p5l,p10,p11,b8=>zon L p0 p5l p10 p11 b8 (fun p0 p5l p10 p11 b8=>ziV L k_x0 n p0 p5l p10 p11 b8) k_x0
theorem zlC {β:Type} (L:Nat) (K:KT β):∀ (n:Nat) (p0:Int) (p5l:Nat) (p10 p11:Int) (b8:List V),yE (yo zbD (zbK L) 0 L zdx) zfM n (zd4 p0 p5l p10 p11 b8) K=ziV L (fun p5l b8=>K (.exit 0) (zjw p5l b8)) n p0 p5l p10 p11 b8:=by
 intro n
 induction n with
 | zero=>intros; rfl
 | succ n ih =>
  intro p0 p5l p10 p11 b8
  refine (ztm L p0 p5l p10 p11 b8 (fun σ=>yE (yo zbD (zbK L) 0 L zdx) zfM n σ K) K).trans ?_
  simp only [ih]
  rfl
def zoD {β:Type} (L:Nat) (p0 p1:Int) (k_fin:List (List V)→Option β):Option β :=
 ztX L p0 p1 (fun p0 p5l p10 p11 b8=>ziV L (fun p5l b8=>zmn L p5l b8 k_fin) L p0 p5l p10 p11 b8)
theorem zyB {β:Type} (L:Nat) (p0 p1:Int) (k:KK β):zt zbD (zbK L) L zdA [(V.sc (.int .u64 p0)),(V.sc (.int .i64 p1))] [] k=zoD L p0 p1 (fun p0=>k (V.fr 1 p0) []):=by
 refine (zyn L p0 p1 k).trans ?_
 unfold zoD
 first
  | (simp only [zlC,zrW]; done)
  | (simp only [zlC]; rfl)
abbrev zdX:=∀ (β:Type),Nat→Int→Int→(List (List V)→Option β)→Option β
def yF (β:Type) (L:Nat) (p0 p1:Int) (k_fin:List (List V)→Option β):Option β:=zoD L p0 p1 k_fin
def zhd (yF:zdX) (L:Nat) (β:Type) (args:List V) (bor:Bor) (k:KK β):Option β:=match args,bor with
 | [a0,a1],[]=>aI .u64 a0 fun p0=>aI .i64 a1 fun p1=>yF β L p0 p1 (fun p0=>k (V.fr 1 p0) [])
 | _,_=>none
theorem zyb (L:Nat) (β:Type) (args:List V) (bor:Bor) (k:KK β) (r:β) (h:zhd yF L β args bor k=some r):zt zbD (zbK L) L zdA args bor k=some r:=by
 unfold zhd at h
 split at h
 ·have q:=zaC h; clear h; obtain ⟨p0,rfl,h⟩:=q
  have q:=zaC h; clear h; obtain ⟨p1,rfl,h⟩:=q
  exact (zyB L p0 p1 k).trans h
 ·cases h
def zi2:CF:=⟨17,[.tmp 4],
 (.seq (.reg [oo 4 (.move (.const (.gs 1 [])) true)])
 (.seq (.reg [oo 6 (.move (tq 0) false),
   oo 7 (.lenS (tq 6)),
   oo 8 (.move (tq 1) false),
   oo 9 (.lenS (tq 8)),
   oo 10 (.bin .add (tq 7) (tq 9)),
   oo 11 (.makeSlice 1 1 [(.sc (.int .u8 0))] (.const (.sc (.int .i64 0))) (tq 10)),
   oo 5 (.move (tq 11) true)])
 (.seq (.reg [oo 12 (.move (tq 5) true),
   oo 13 (.move (tq 0) false),
   oo 14 (.append 1 1 (tq 12) (tq 13)),
   oo 15 (.move (tq 1) false),
   oo 16 (.append 1 1 (tq 14) (tq 15)),
   oo 4 (.move (tq 16) true)])
 .ret)))⟩
def zqp:Hint:=⟨[(0,0),(1,6),(2,0),(2,5)],[],[none],[],[],false,false⟩
def znJ:Nat→Sh:=zP []
def znF (L:Nat):CBC:=noC
def zoA {β:Type} (L:Nat) (p0 p1:List (List V)) (k_fin:List (List V)→Option β):Option β :=
 lt (IntKind.wrap .i64 ((((List.length p0:Nat):Int):Int)+((List.length p1:Nat):Int))) fun x0 =>
 chk (0≤(0:Int)∧(0:Int)≤x0∧(Int.toNat x0) * 1≤zs∧x0≤zs) (
 chk ((List.length (List.replicate 0 [(V.sc (.int .u8 (0:Int)))])+List.length p0) * 1≤zs∧List.length (List.replicate 0 [(V.sc (.int .u8 (0:Int)))])+List.length p0≤zs) (
 lt ((List.replicate 0 [(V.sc (.int .u8 (0:Int)))])++p0) fun l1 =>
 chk ((List.length l1+List.length p1) * 1≤zs∧List.length l1+List.length p1≤zs) (
 lt (l1++p1) fun l2 =>
 k_fin l2)))
theorem zyC {β:Type} (L:Nat) (p0 p1:List (List V)) (k:KK β):zt znJ (znF L) L zi2 [(V.sl 1 p0),(V.sl 1 p1)] [] k=zoA L p0 p1 (fun p0=>k (V.gs 1 p0) []):=by kernel_rfl
abbrev zdY:=∀ (β:Type),Nat→List (List V)→List (List V)→(List (List V)→Option β)→Option β
def zG (β:Type) (L:Nat) (p0 p1:List (List V)) (k_fin:List (List V)→Option β):Option β:=zoA L p0 p1 k_fin
def zhv (zG:zdY) (L:Nat) (β:Type) (args:List V) (bor:Bor) (k:KK β):Option β:=match args,bor with
 | [a0,a1],[]=>aL 1 a0 fun p0=>aL 1 a1 fun p1=>zG β L p0 p1 (fun p0=>k (V.gs 1 p0) [])
 | _,_=>none
theorem zyx (L:Nat) (β:Type) (args:List V) (bor:Bor) (k:KK β) (r:β) (h:zhv zG L β args bor k=some r):zt znJ (znF L) L zi2 args bor k=some r:=by
 unfold zhv at h
 split at h
 ·have q:=zZ h; clear h; obtain ⟨p0,rfl,h⟩:=q
  have q:=zZ h; clear h; obtain ⟨p1,rfl,h⟩:=q
  exact (zyC L p0 p1 k).trans h
 ·cases h
def zgw:CF:=⟨10,[.tmp 4],
 (.seq (.reg [oo 4 (.move (.const (.gs 1 [])) true)])
 (.seq (.reg [oo 5 (.move (tq 0) false),
   oo 6 (.move (tq 1) false),
   oo 7 (.conv .u64 (tq 6)),
   oo 8 (.call 194 [((tq 7),0),((.const (.sc (.int .i64 4))),0)] []),
   oo 9 (.call 193 [((tq 5),0),((tq 8),0)] []),
   oo 4 (.move (tq 9) true)])
 .ret))⟩
def znd:Hint:=⟨[(0,0),(1,5)],[],[none],[],[],false,false⟩
def zjN:Nat→Sh:=zP []
def zjX (yF:zdX) (zG:zdY) (L:Nat):CBC:=(zw 193 (zhv zG L) (zw 194 (zhd yF L) noC))
def zk2 {β:Type} (yF:zdX) (zG:zdY) (L:Nat) (p0:List (List V)) (p1:Int) (k_fin:List (List V)→Option β):Option β :=
 lt (IntKind.wrap .u64 p1) fun x0 =>
 yF β L x0 (4:Int) (fun v1 =>
 zG β L p0 v1 (fun v2 =>
 k_fin v2))
theorem zuK {β:Type} (yF:zdX) (zG:zdY) (L:Nat) (p0:List (List V)) (p1:Int) (k:KK β):zt zjN (zjX yF zG L) L zgw [(V.sl 1 p0),(V.sc (.int .u32 p1))] [] k=zk2 yF zG L p0 p1 (fun p0=>k (V.gs 1 p0) []):=by kernel_rfl
abbrev zcA:=∀ (β:Type),Nat→List (List V)→Int→(List (List V)→Option β)→Option β
def yw (β:Type) (L:Nat) (p0:List (List V)) (p1:Int) (k_fin:List (List V)→Option β):Option β:=zk2 yF zG L p0 p1 k_fin
def ze0 (yw:zcA) (L:Nat) (β:Type) (args:List V) (bor:Bor) (k:KK β):Option β:=match args,bor with
 | [a0,a1],[]=>aL 1 a0 fun p0=>aI .u32 a1 fun p1=>yw β L p0 p1 (fun p0=>k (V.gs 1 p0) [])
 | _,_=>none
theorem zvl (L:Nat) (β:Type) (args:List V) (bor:Bor) (k:KK β) (r:β) (h:ze0 yw L β args bor k=some r):zt zjN (zjX yF zG L) L zgw args bor k=some r:=by
 unfold ze0 at h
 split at h
 ·have q:=zZ h; clear h; obtain ⟨p0,rfl,h⟩:=q
  have q:=zaC h; clear h; obtain ⟨p1,rfl,h⟩:=q
  exact (zuK yF zG L p0 p1 k).trans h
 ·cases h
def zgk:CF:=⟨10,[.tmp 4],
 (.seq (.reg [oo 4 (.move (.const (.gs 1 [])) true)])
 (.seq (.reg [oo 5 (.move (tq 0) false),
   oo 6 (.move (tq 1) false),
   oo 7 (.conv .u64 (tq 6)),
   oo 8 (.call 194 [((tq 7),0),((.const (.sc (.int .i64 2))),0)] []),
   oo 9 (.call 193 [((tq 5),0),((tq 8),0)] []),
   oo 4 (.move (tq 9) true)])
 .ret))⟩
def zmQ:Hint:=⟨[(0,0),(1,5)],[],[none],[],[],false,false⟩
def zjF:Nat→Sh:=zP []
def zkl (yF:zdX) (zG:zdY) (L:Nat):CBC:=(zw 193 (zhv zG L) (zw 194 (zhd yF L) noC))
def zk3 {β:Type} (yF:zdX) (zG:zdY) (L:Nat) (p0:List (List V)) (p1:Int) (k_fin:List (List V)→Option β):Option β :=
 lt (IntKind.wrap .u64 p1) fun x0 =>
 yF β L x0 (2:Int) (fun v1 =>
 zG β L p0 v1 (fun v2 =>
 k_fin v2))
theorem zu4 {β:Type} (yF:zdX) (zG:zdY) (L:Nat) (p0:List (List V)) (p1:Int) (k:KK β):zt zjF (zkl yF zG L) L zgk [(V.sl 1 p0),(V.sc (.int .u16 p1))] [] k=zk3 yF zG L p0 p1 (fun p0=>k (V.gs 1 p0) []):=by kernel_rfl
abbrev zg3:=∀ (β:Type),Nat→List (List V)→Int→(List (List V)→Option β)→Option β
def xR (β:Type) (L:Nat) (p0:List (List V)) (p1:Int) (k_fin:List (List V)→Option β):Option β:=zk3 yF zG L p0 p1 k_fin
def zgY (xR:zg3) (L:Nat) (β:Type) (args:List V) (bor:Bor) (k:KK β):Option β:=match args,bor with
 | [a0,a1],[]=>aL 1 a0 fun p0=>aI .u16 a1 fun p1=>xR β L p0 p1 (fun p0=>k (V.gs 1 p0) [])
 | _,_=>none
theorem zvt (L:Nat) (β:Type) (args:List V) (bor:Bor) (k:KK β) (r:β) (h:zgY xR L β args bor k=some r):zt zjF (zkl yF zG L) L zgk args bor k=some r:=by
 unfold zgY at h
 split at h
 ·have q:=zZ h; clear h; obtain ⟨p0,rfl,h⟩:=q
  have q:=zaC h; clear h; obtain ⟨p1,rfl,h⟩:=q
  exact (zu4 yF zG L p0 p1 k).trans h
 ·cases h
def zkG:CF:=⟨64,[.cell 2 true 4],
 (.seq (.reg [oo 1 (.box true (tq 0)),
   oo 2 (.alloc true [(.sc (.int .u64 0)),(.sc (.int .u64 0)),(.sc (.int .u64 0)),(.sc (.int .u64 0))])])
 (.seq (.reg [oo 3 (.indexAddrA 4 1 (tq 1) (.const (.sc (.int .i64 0)))),
   oo 4 (.load false 1 (tq 3) false),
   oo 5 (.indexAddrA 4 1 (tq 1) (.const (.sc (.int .i64 1)))),
   oo 6 (.load false 1 (tq 5) false),
   oo 7 (.bin .add (tq 4) (tq 6)),
   oo 8 (.indexAddrA 4 1 (tq 1) (.const (.sc (.int .i64 0)))),
   oz (.store 1 (tq 8) (tq 7))])
 (.seq (.dreg [] [(oo 9 (.indexAddrA 4 1 (tq 1) (.const (.sc (.int .i64 1)))),q0),
   (oo 10 (.load false 1 (tq 9) false),q1),
   (oo 11 (.call 118 [((tq 10),0),((.const (.sc (.int .i64 13))),0)] []),q1),
   (oo 12 (.indexAddrA 4 1 (tq 1) (.const (.sc (.int .i64 0)))),q0),
   (oo 13 (.load false 1 (tq 12) false),q1),
   (oo 14 (.bin .xor (tq 11) (tq 13)),q0),
   (oo 15 (.indexAddrA 4 1 (tq 1) (.const (.sc (.int .i64 1)))),q0),
   (oz (.store 1 (tq 15) (tq 14)),q0)])
 (.seq (.reg [oo 16 (.indexAddrA 4 1 (tq 1) (.const (.sc (.int .i64 0)))),
   oo 17 (.load false 1 (tq 16) false),
   oo 18 (.call 118 [((tq 17),0),((.const (.sc (.int .i64 32))),0)] []),
   oo 19 (.indexAddrA 4 1 (tq 1) (.const (.sc (.int .i64 0)))),
   oz (.store 1 (tq 19) (tq 18))])
 (.seq (.reg [oo 20 (.indexAddrA 4 1 (tq 1) (.const (.sc (.int .i64 2)))),
   oo 21 (.load false 1 (tq 20) false),
   oo 22 (.indexAddrA 4 1 (tq 1) (.const (.sc (.int .i64 3)))),
   oo 23 (.load false 1 (tq 22) false),
   oo 24 (.bin .add (tq 21) (tq 23)),
   oo 25 (.indexAddrA 4 1 (tq 1) (.const (.sc (.int .i64 2)))),
   oz (.store 1 (tq 25) (tq 24))])
 (.seq (.dreg [] [(oo 26 (.indexAddrA 4 1 (tq 1) (.const (.sc (.int .i64 3)))),q0),
   (oo 27 (.load false 1 (tq 26) false),q1),
   (oo 28 (.call 118 [((tq 27),0),((.const (.sc (.int .i64 16))),0)] []),q1),
   (oo 29 (.indexAddrA 4 1 (tq 1) (.const (.sc (.int .i64 2)))),q0),
   (oo 30 (.load false 1 (tq 29) false),q1),
   (oo 31 (.bin .xor (tq 28) (tq 30)),q0),
   (oo 32 (.indexAddrA 4 1 (tq 1) (.const (.sc (.int .i64 3)))),q0),
   (oz (.store 1 (tq 32) (tq 31)),q0)])
 (.seq (.reg [oo 33 (.indexAddrA 4 1 (tq 1) (.const (.sc (.int .i64 0)))),
   oo 34 (.load false 1 (tq 33) false),
   oo 35 (.indexAddrA 4 1 (tq 1) (.const (.sc (.int .i64 3)))),
   oo 36 (.load false 1 (tq 35) false),
   oo 37 (.bin .add (tq 34) (tq 36)),
   oo 38 (.indexAddrA 4 1 (tq 1) (.const (.sc (.int .i64 0)))),
   oz (.store 1 (tq 38) (tq 37))])
 (.seq (.dreg [] [(oo 39 (.indexAddrA 4 1 (tq 1) (.const (.sc (.int .i64 3)))),q0),
   (oo 40 (.load false 1 (tq 39) false),q1),
   (oo 41 (.call 118 [((tq 40),0),((.const (.sc (.int .i64 21))),0)] []),q1),
   (oo 42 (.indexAddrA 4 1 (tq 1) (.const (.sc (.int .i64 0)))),q0),
   (oo 43 (.load false 1 (tq 42) false),q1),
   (oo 44 (.bin .xor (tq 41) (tq 43)),q0),
   (oo 45 (.indexAddrA 4 1 (tq 1) (.const (.sc (.int .i64 3)))),q0),
   (oz (.store 1 (tq 45) (tq 44)),q0)])
 (.seq (.reg [oo 46 (.indexAddrA 4 1 (tq 1) (.const (.sc (.int .i64 2)))),
   oo 47 (.load false 1 (tq 46) false),
   oo 48 (.indexAddrA 4 1 (tq 1) (.const (.sc (.int .i64 1)))),
   oo 49 (.load false 1 (tq 48) false),
   oo 50 (.bin .add (tq 47) (tq 49)),
   oo 51 (.indexAddrA 4 1 (tq 1) (.const (.sc (.int .i64 2)))),
   oz (.store 1 (tq 51) (tq 50))])
 (.seq (.dreg [] [(oo 52 (.indexAddrA 4 1 (tq 1) (.const (.sc (.int .i64 1)))),q0),
   (oo 53 (.load false 1 (tq 52) false),q1),
   (oo 54 (.call 118 [((tq 53),0),((.const (.sc (.int .i64 17))),0)] []),q1),
   (oo 55 (.indexAddrA 4 1 (tq 1) (.const (.sc (.int .i64 2)))),q0),
   (oo 56 (.load false 1 (tq 55) false),q1),
   (oo 57 (.bin .xor (tq 54) (tq 56)),q0),
   (oo 58 (.indexAddrA 4 1 (tq 1) (.const (.sc (.int .i64 1)))),q0),
   (oz (.store 1 (tq 58) (tq 57)),q0)])
 (.seq (.reg [oo 59 (.indexAddrA 4 1 (tq 1) (.const (.sc (.int .i64 2)))),
   oo 60 (.load false 1 (tq 59) false),
   oo 61 (.call 118 [((tq 60),0),((.const (.sc (.int .i64 32))),0)] []),
   oo 62 (.indexAddrA 4 1 (tq 1) (.const (.sc (.int .i64 2)))),
   oz (.store 1 (tq 62) (tq 61))])
 (.seq (.reg [oo 63 (.load true 4 (tq 1) false),
   oz (.store 4 (tq 2) (tq 63))])
 .ret))))))))))))⟩
def zrH:Hint:=⟨[],[],[none],[],[],false,false⟩
def zoz:Nat→Sh:=zP [(4,(.int .u64)),(6,(.int .u64)),(10,(.int .u64)),(13,(.int .u64)),(17,(.int .u64)),(21,(.int .u64)),(23,(.int .u64)),(27,(.int .u64)),(30,(.int .u64)),(34,(.int .u64)),(36,(.int .u64)),(40,(.int .u64)),(43,(.int .u64)),(47,(.int .u64)),(49,(.int .u64)),(53,(.int .u64)),(56,(.int .u64)),(60,(.int .u64))]
def zoJ (yc:xH) (L:Nat):CBC:=(zw 118 (zch yc L) noC)
def zp2 {β:Type} (yc:xH) (L:Nat) (p0:List V) (k_fin:List V→Option β):Option β :=
 cI .u64 p0 0 fun v0 =>
 cI .u64 p0 1 fun v1 =>
 lt (IntKind.wrap .u64 ((v0:Int)+v1)) fun x2 =>
 chk (1=1∧0+1≤(List.length p0)) (
 lt (xg p0 0 [(V.sc (.int .u64 x2))]) fun r3 =>
 cI .u64 r3 1 fun v4 =>
 yc β L v4 (13:Int) (fun v5 =>
 cI .u64 r3 0 fun v6 =>
 lt (za4 .u64 v5 v6) fun x7 =>
 chk (1=1∧1+1≤(List.length r3)) (
 lt (xg r3 1 [(V.sc (.int .u64 x7))]) fun r8 =>
 cI .u64 r8 0 fun v9 =>
 yc β L v9 (32:Int) (fun v10 =>
 chk (1=1∧0+1≤(List.length r8)) (
 lt (xg r8 0 [(V.sc (.int .u64 v10))]) fun r11 =>
 cI .u64 r11 2 fun v12 =>
 cI .u64 r11 3 fun v13 =>
 lt (IntKind.wrap .u64 ((v12:Int)+v13)) fun x14 =>
 chk (1=1∧2+1≤(List.length r11)) (
 lt (xg r11 2 [(V.sc (.int .u64 x14))]) fun r15 =>
 cI .u64 r15 3 fun v16 =>
 yc β L v16 (16:Int) (fun v17 =>
 cI .u64 r15 2 fun v18 =>
 lt (za4 .u64 v17 v18) fun x19 =>
 chk (1=1∧3+1≤(List.length r15)) (
 lt (xg r15 3 [(V.sc (.int .u64 x19))]) fun r20 =>
 cI .u64 r20 0 fun v21 =>
 cI .u64 r20 3 fun v22 =>
 lt (IntKind.wrap .u64 ((v21:Int)+v22)) fun x23 =>
 chk (1=1∧0+1≤(List.length r20)) (
 lt (xg r20 0 [(V.sc (.int .u64 x23))]) fun r24 =>
 cI .u64 r24 3 fun v25 =>
 yc β L v25 (21:Int) (fun v26 =>
 cI .u64 r24 0 fun v27 =>
 lt (za4 .u64 v26 v27) fun x28 =>
 chk (1=1∧3+1≤(List.length r24)) (
 lt (xg r24 3 [(V.sc (.int .u64 x28))]) fun r29 =>
 cI .u64 r29 2 fun v30 =>
 cI .u64 r29 1 fun v31 =>
 lt (IntKind.wrap .u64 ((v30:Int)+v31)) fun x32 =>
 chk (1=1∧2+1≤(List.length r29)) (
 lt (xg r29 2 [(V.sc (.int .u64 x32))]) fun r33 =>
 cI .u64 r33 1 fun v34 =>
 yc β L v34 (17:Int) (fun v35 =>
 cI .u64 r33 2 fun v36 =>
 lt (za4 .u64 v35 v36) fun x37 =>
 chk (1=1∧1+1≤(List.length r33)) (
 lt (xg r33 1 [(V.sc (.int .u64 x37))]) fun r38 =>
 cI .u64 r38 2 fun v39 =>
 yc β L v39 (32:Int) (fun v40 =>
 chk (1=1∧2+1≤(List.length r38)) (
 lt (xg r38 2 [(V.sc (.int .u64 v40))]) fun r41 =>
 chk (0+4≤(List.length r41)) (
 chk ((List.length (List.take 4 r41))=4∧0+4≤4) (
 lt (xg [(V.sc (.int .u64 (0:Int))),(V.sc (.int .u64 (0:Int))),(V.sc (.int .u64 (0:Int))),(V.sc (.int .u64 (0:Int)))] 0 (List.take 4 r41)) fun r42 =>
 chk (0=0∧(List.length r42)=4∧4≠0) (
 k_fin r42)))))))))))))))))))
theorem zy7 {β:Type} (yc:xH) (L:Nat) (p0:List V) (k:KK β):zt zoz (zoJ yc L) L zkG [(V.agg p0)] [] k=zp2 yc L p0 (fun p0=>k (V.agg p0) []):=by kernel_rfl
abbrev zaw:=∀ (β:Type),Nat→List V→(List V→Option β)→Option β
def zm (β:Type) (L:Nat) (p0:List V) (k_fin:List V→Option β):Option β:=zp2 yc L p0 k_fin
def ziu (zm:zaw) (L:Nat) (β:Type) (args:List V) (bor:Bor) (k:KK β):Option β:=match args,bor with
 | [a0],[]=>aG a0 fun p0=>zm β L p0 (fun p0=>k (V.agg p0) [])
 | _,_=>none
theorem zy8 (L:Nat) (β:Type) (args:List V) (bor:Bor) (k:KK β) (r:β) (h:ziu zm L β args bor k=some r):zt zoz (zoJ yc L) L zkG args bor k=some r:=by
 unfold ziu at h
 split at h
 ·have q:=xY h; clear h; obtain ⟨p0,rfl,h⟩:=q
  exact (zy7 yc L p0 k).trans h
 ·cases h
def ziZ:CF:=⟨19,[.cell 4 true 4],
 (.seq (.reg [oo 2 (.box true (tq 0)),
   oo 4 (.alloc true [(.sc (.int .u64 0)),(.sc (.int .u64 0)),(.sc (.int .u64 0)),(.sc (.int .u64 0))])])
 (.seq (.reg [oo 5 (.indexAddrA 4 1 (tq 2) (.const (.sc (.int .i64 3)))),
   oo 6 (.load false 1 (tq 5) false),
   oo 7 (.move (tq 1) false),
   oo 8 (.bin .xor (tq 6) (tq 7)),
   oo 9 (.indexAddrA 4 1 (tq 2) (.const (.sc (.int .i64 3)))),
   oz (.store 1 (tq 9) (tq 8))])
 (.seq (.reg [oo 10 (.load true 4 (tq 2) false),
   oo 11 (.call 116 [((tq 10),0)] []),
   oo 12 (.call 116 [((tq 11),0)] []),
   oz (.store 4 (tq 2) (tq 12))])
 (.seq (.reg [oo 13 (.indexAddrA 4 1 (tq 2) (.const (.sc (.int .i64 0)))),
   oo 14 (.load false 1 (tq 13) false),
   oo 15 (.move (tq 1) false),
   oo 16 (.bin .xor (tq 14) (tq 15)),
   oo 17 (.indexAddrA 4 1 (tq 2) (.const (.sc (.int .i64 0)))),
   oz (.store 1 (tq 17) (tq 16))])
 (.seq (.reg [oo 18 (.load true 4 (tq 2) false),
   oz (.store 4 (tq 4) (tq 18))])
 .ret)))))⟩
def zqb:Hint:=⟨[],[],[none],[],[],false,false⟩
def znH:Nat→Sh:=zP [(6,(.int .u64)),(14,(.int .u64))]
def znQ (zm:zaw) (L:Nat):CBC:=(zw 116 (ziu zm L) noC)
def zoI {β:Type} (zm:zaw) (L:Nat) (p0:List V) (p1:Int) (k_fin:List V→Option β):Option β :=
 cI .u64 p0 3 fun v0 =>
 lt (za4 .u64 v0 p1) fun x1 =>
 chk (1=1∧3+1≤(List.length p0)) (
 lt (xg p0 3 [(V.sc (.int .u64 x1))]) fun r2 =>
 chk (0+4≤(List.length r2)) (
 zm β L (List.take 4 r2) (fun v3 =>
 zm β L v3 (fun v4 =>
 chk ((List.length v4)=4∧0+4≤(List.length r2)) (
 lt (xg r2 0 v4) fun r5 =>
 cI .u64 r5 0 fun v6 =>
 lt (za4 .u64 v6 p1) fun x7 =>
 chk (1=1∧0+1≤(List.length r5)) (
 lt (xg r5 0 [(V.sc (.int .u64 x7))]) fun r8 =>
 chk (0+4≤(List.length r8)) (
 chk ((List.length (List.take 4 r8))=4∧0+4≤4) (
 lt (xg [(V.sc (.int .u64 (0:Int))),(V.sc (.int .u64 (0:Int))),(V.sc (.int .u64 (0:Int))),(V.sc (.int .u64 (0:Int)))] 0 (List.take 4 r8)) fun r9 =>
 chk (0=0∧(List.length r9)=4∧4≠0) (
 k_fin r9)))))))))
theorem zye {β:Type} (zm:zaw) (L:Nat) (p0:List V) (p1:Int) (k:KK β):zt znH (znQ zm L) L ziZ [(V.agg p0),(V.sc (.int .u64 p1))] [] k=zoI zm L p0 p1 (fun p0=>k (V.agg p0) []):=by kernel_rfl
abbrev zbd:=∀ (β:Type),Nat→List V→Int→(List V→Option β)→Option β
def zr (β:Type) (L:Nat) (p0:List V) (p1:Int) (k_fin:List V→Option β):Option β:=zoI zm L p0 p1 k_fin
def zkz (zr:zbd) (L:Nat) (β:Type) (args:List V) (bor:Bor) (k:KK β):Option β:=match args,bor with
 | [a0,a1],[]=>aG a0 fun p0=>aI .u64 a1 fun p1=>zr β L p0 p1 (fun p0=>k (V.agg p0) [])
 | _,_=>none
theorem zyA (L:Nat) (β:Type) (args:List V) (bor:Bor) (k:KK β) (r:β) (h:zkz zr L β args bor k=some r):zt znH (znQ zm L) L ziZ args bor k=some r:=by
 unfold zkz at h
 split at h
 ·have q:=xY h; clear h; obtain ⟨p0,rfl,h⟩:=q
  have q:=zaC h; clear h; obtain ⟨p1,rfl,h⟩:=q
  exact (zye zm L p0 p1 k).trans h
 ·cases h
def zeV:CC:=(.seq (.seq (.reg [oo 22 (.move (tq 1) false),
   oo 23 (.lenS (tq 22)),
   oo 24 (.bin .geq (tq 23) (.const (.sc (.int .i64 8))))])
 (.cond (tq 24)
 .skip
 (.seq (.mask (bl 98 61) (bl 2305843008399998971 61))
 (.exit 0))))
 (.block 1 (.dreg [] [(oo 25 (.load true 4 (tq 5) false),ql 5 [] []),
   (oo 26 (.move (tq 1) false),q0),
   (oo 27 (.sliceS 1 (tq 26) none (some (.const (.sc (.int .i64 8)))) none),q0),
   (oo 28 (.call 115 [((tq 27),0)] []),qc [5] []),
   (oo 29 (.call 114 [((tq 25),0),((tq 28),0)] []),q0),
   (oo 30 (.move (tq 1) false),q0),
   (oo 31 (.sliceS 1 (tq 30) (some (.const (.sc (.int .i64 8)))) none none),q0),
   (oz (.store 4 (tq 5) (tq 29)),q0),
   (oo 1 (.move (tq 31) true),q0)])))
def zn0:CC:=(.seq (.dreg [] [(oo 32 (.load true 4 (tq 5) false),ql 5 [] []),
   (oo 33 (.move (tq 1) false),q0),
   (oo 34 (.call 115 [((tq 33),0)] []),qc [5] []),
   (oo 35 (.move (tq 6) false),q0),
   (oo 36 (.bin .rem (tq 35) (.const (.sc (.int .i64 256)))),q0),
   (oo 37 (.conv .u64 (tq 36)),q0),
   (oo 38 (.bin .shl (tq 37) (.const (.sc (.int .u64 56)))),q0),
   (oo 39 (.bin .or (tq 34) (tq 38)),q0),
   (oo 40 (.call 114 [((tq 32),0),((tq 39),0)] []),q0),
   (oz (.store 4 (tq 5) (tq 40)),q0)])
 (.seq (.reg [oo 41 (.indexAddrA 4 1 (tq 5) (.const (.sc (.int .i64 2)))),
   oo 42 (.load false 1 (tq 41) false),
   oo 43 (.bin .xor (tq 42) (.const (.sc (.int .u64 255)))),
   oo 44 (.indexAddrA 4 1 (tq 5) (.const (.sc (.int .i64 2)))),
   oz (.store 1 (tq 44) (tq 43))])
 (.seq (.reg [oo 45 (.load true 4 (tq 5) false),
   oo 46 (.call 116 [((tq 45),0)] []),
   oo 47 (.call 116 [((tq 46),0)] []),
   oo 48 (.call 116 [((tq 47),0)] []),
   oo 49 (.call 116 [((tq 48),0)] []),
   oz (.store 4 (tq 5) (tq 49))])
 (.seq (.reg [oo 50 (.indexAddrA 4 1 (tq 5) (.const (.sc (.int .i64 0)))),
   oo 51 (.load false 1 (tq 50) false),
   oo 52 (.indexAddrA 4 1 (tq 5) (.const (.sc (.int .i64 1)))),
   oo 53 (.load false 1 (tq 52) false),
   oo 54 (.bin .xor (tq 51) (tq 53)),
   oo 55 (.indexAddrA 4 1 (tq 5) (.const (.sc (.int .i64 2)))),
   oo 56 (.load false 1 (tq 55) false),
   oo 57 (.bin .xor (tq 54) (tq 56)),
   oo 58 (.indexAddrA 4 1 (tq 5) (.const (.sc (.int .i64 3)))),
   oo 59 (.load false 1 (tq 58) false),
   oo 60 (.bin .xor (tq 57) (tq 59)),
   oo 4 (.move (tq 60) false)])
 .ret))))
def zfm:CF:=⟨61,[.tmp 4],
 (.seq (.reg [oo 2 (.box true (tq 0)),
   oo 4 (.move (.const (.sc (.int .u64 0))) false)])
 (.seq (.reg [oo 7 (.indexAddrA 2 1 (tq 2) (.const (.sc (.int .i64 0)))),
   oo 8 (.load false 1 (tq 7) false),
   oo 9 (.bin .xor (tq 8) (.const (.sc (.int .u64 8317987319222330741)))),
   oo 10 (.indexAddrA 2 1 (tq 2) (.const (.sc (.int .i64 1)))),
   oo 11 (.load false 1 (tq 10) false),
   oo 12 (.bin .xor (tq 11) (.const (.sc (.int .u64 7237128888997146477)))),
   oo 13 (.indexAddrA 2 1 (tq 2) (.const (.sc (.int .i64 0)))),
   oo 14 (.load false 1 (tq 13) false),
   oo 15 (.bin .xor (tq 14) (.const (.sc (.int .u64 7816392313619706465)))),
   oo 16 (.indexAddrA 2 1 (tq 2) (.const (.sc (.int .i64 1)))),
   oo 17 (.load false 1 (tq 16) false),
   oo 18 (.bin .xor (tq 17) (.const (.sc (.int .u64 8387220255154660723)))),
   oo 19 (.build [(.sc (.int .u64 0)),(.sc (.int .u64 0)),(.sc (.int .u64 0)),(.sc (.int .u64 0))] [(0,1,(tq 9)),(1,1,(tq 12)),(2,1,(tq 15)),(3,1,(tq 18))]),
   oo 5 (.alloc true [(.sc (.int .u64 0)),(.sc (.int .u64 0)),(.sc (.int .u64 0)),(.sc (.int .u64 0))]),
   oz (.store 4 (tq 5) (tq 19))])
 (.seq (.reg [oo 20 (.move (tq 1) false),
   oo 21 (.lenS (tq 20)),
   oo 6 (.move (tq 21) false)])
 (.seq (.block 0 (.loop (bl 98 61) (bl 2305843008399998971 61)
 zeV))
 zn0))))⟩
def zt2:Hint:=⟨[(4,8)],[],[none,some ((bl 98 61),(bl 2305843008399998971 61)),none,some ((bl 98 61),(bl 2305843008399998971 61)),none,none],[],[],false,false⟩
def zcW:Nat→Sh:=zP [(8,(.int .u64)),(11,(.int .u64)),(14,(.int .u64)),(17,(.int .u64)),(42,(.int .u64)),(51,(.int .u64)),(53,(.int .u64)),(56,(.int .u64)),(59,(.int .u64))]
def zcN (xo:za1) (zr:zbd) (zm:zaw) (L:Nat):CBC:=(zw 116 (ziu zm L) (zw 114 (zkz zr L) (zw 115 (zkm xo L) noC)))
def zil:St→St:=zae 0 (bl 98 61) (bl 2305843008399998971 61)
def zfH (p1:List (List V)) (p6:Int) (b5:List V):St:=⟨(jn 1 ((V.sl 1 p1)::(jn 3 ((V.ptr 5 0)::((V.sc (.int .i64 p6))::(jn 54 [])))))),(gn 5 ((.live true b5)::(gn 55 [])))⟩
def zni (p1:List (List V)) (p6:Int) (b5:List V):St:=⟨(jn 1 ((V.sl 1 p1)::(jn 3 ((V.ptr 5 0)::((V.sc (.int .i64 p6))::(jn 54 [])))))),(gn 5 ((.live true b5)::(gn 55 [])))⟩
def zti {β:Type} (xo:za1) (zr:zbd) (zm:zaw) (L:Nat) (p0:List V) (p1:List (List V)) (k_hbbbaa:List (List V)→Int→List V→Option β):Option β :=
 cI .u64 p0 0 fun v0 =>
 lt (za4 .u64 v0 (8317987319222330741:Int)) fun x1 =>
 cI .u64 p0 1 fun v2 =>
 lt (za4 .u64 v2 (7237128888997146477:Int)) fun x3 =>
 cI .u64 p0 0 fun v4 =>
 lt (za4 .u64 v4 (7816392313619706465:Int)) fun x5 =>
 cI .u64 p0 1 fun v6 =>
 lt (za4 .u64 v6 (8387220255154660723:Int)) fun x7 =>
 lt [(V.sc (.int .u64 x1)),(V.sc (.int .u64 x3)),(V.sc (.int .u64 x5)),(V.sc (.int .u64 x7))] fun r8 =>
 k_hbbbaa p1 ((List.length p1:Nat):Int) r8
theorem zBF {β:Type} (xo:za1) (zr:zbd) (zm:zaw) (L:Nat) (p0:List V) (p1:List (List V)) (k:KK β):zt zcW (zcN xo zr zm L) L zfm [(V.agg p0),(V.sl 1 p1)] [] k=zti xo zr zm L p0 p1 (fun p1 p6 b5=>yE (yo zcW (zcN xo zr zm L) 0 L zeV) zil L (zfH p1 p6 b5) (xG 0 (yU (yo zcW (zcN xo zr zm L) 0 L zn0) (xZ 0 (CF.res zfm) k)))):=by kernel_rfl
def zmc {β:Type} (xo:za1) (zr:zbd) (zm:zaw) (L:Nat) (p1:List (List V)) (p6:Int) (b5:List V) (k_hbbbaa:List (List V)→Int→List V→Option β) (k_x0:List (List V)→Int→List V→Option β):Option β :=
 ifb (decide (((List.length p1:Nat):Int) ≥ (8:Int))) (
 chk (0+4≤(List.length b5)) (
 chk (0≤(8:Int)∧(8:Int)≤(((List.length p1):Nat):Int)) (
 xo β L (List.take 8 (List.drop 0 p1)) (fun v9 =>
 zr β L (List.take 4 b5) v9 (fun v10 =>
 chk (0≤(8:Int)∧(8:Int)≤(((List.length p1):Nat):Int)) (
 chk ((List.length v10)=4∧0+4≤(List.length b5)) (
 lt (xg b5 0 v10) fun r11 =>
 k_hbbbaa (List.take ((List.length p1) - 8) (List.drop 8 p1)) p6 r11))))))) (
 k_x0 p1 p6 b5)
theorem zv9 {β:Type} (xo:za1) (zr:zbd) (zm:zaw) (L:Nat) (p1:List (List V)) (p6:Int) (b5:List V) (X:St→Option β) (K:KT β):yo zcW (zcN xo zr zm L) 0 L zeV (zfH p1 p6 b5) (zcr zil X K)=zmc xo zr zm L p1 p6 b5 (fun p1 p6 b5=>X (zfH p1 p6 b5)) (fun p1 p6 b5=>K (.exit 0) (zni p1 p6 b5)):=by kernel_rfl
def zgv {β:Type} (xo:za1) (zr:zbd) (zm:zaw) (L:Nat) (p1:List (List V)) (p6:Int) (b5:List V) (k_fin:Int→Option β):Option β :=
 chk (0+4≤(List.length b5)) (
 xo β L p1 (fun v12 =>
 lt (Int.tmod p6 (256:Int)) fun x13 =>
 lt (IntKind.wrap .u64 x13) fun x14 =>
 lt (zre .u64 x14 (56:Int)) fun x15 =>
 lt (ior .u64 v12 x15) fun x16 =>
 zr β L (List.take 4 b5) x16 (fun v17 =>
 chk ((List.length v17)=4∧0+4≤(List.length b5)) (
 lt (xg b5 0 v17) fun r18 =>
 cI .u64 r18 2 fun v19 =>
 lt (za4 .u64 v19 (255:Int)) fun x20 =>
 chk (1=1∧2+1≤(List.length r18)) (
 lt (xg r18 2 [(V.sc (.int .u64 x20))]) fun r21 =>
 chk (0+4≤(List.length r21)) (
 zm β L (List.take 4 r21) (fun v22 =>
 zm β L v22 (fun v23 =>
 zm β L v23 (fun v24 =>
 zm β L v24 (fun v25 =>
 chk ((List.length v25)=4∧0+4≤(List.length r21)) (
 lt (xg r21 0 v25) fun r26 =>
 cI .u64 r26 0 fun v27 =>
 cI .u64 r26 1 fun v28 =>
 lt (za4 .u64 v27 v28) fun x29 =>
 cI .u64 r26 2 fun v30 =>
 lt (za4 .u64 x29 v30) fun x31 =>
 cI .u64 r26 3 fun v32 =>
 lt (za4 .u64 x31 v32) fun x33 =>
 k_fin x33)))))))))))
theorem ztO {β:Type} (xo:za1) (zr:zbd) (zm:zaw) (L:Nat) (p1:List (List V)) (p6:Int) (b5:List V) (k:KK β):(xG 0 (yU (yo zcW (zcN xo zr zm L) 0 L zn0) (xZ 0 (CF.res zfm) k))) (.exit 0) (zni p1 p6 b5)=zgv xo zr zm L p1 p6 b5 (fun p0=>k (V.sc (.int .u64 p0)) []):=by kernel_rfl
def zfC {β:Type} (xo:za1) (zr:zbd) (zm:zaw) (L:Nat) (k_x0:List (List V)→Int→List V→Option β):Nat→List (List V)→Int→List V→Option β
 | 0,_,_,_=>none
 | n+1,p1,p6,b5=>zmc xo zr zm L p1 p6 b5 (fun p1 p6 b5=>zfC xo zr zm L k_x0 n p1 p6 b5) k_x0
theorem zok {β:Type} (xo:za1) (zr:zbd) (zm:zaw) (L:Nat) (K:KT β):∀ (n:Nat) (p1:List (List V)) (p6:Int) (b5:List V),yE (yo zcW (zcN xo zr zm L) 0 L zeV) zil n (zfH p1 p6 b5) K=zfC xo zr zm L (fun p1 p6 b5=>K (.exit 0) (zni p1 p6 b5)) n p1 p6 b5:=by
 intro n
 induction n with
 | zero=>intros; rfl
 | succ n ih =>
  intro p1 p6 b5
  refine (zv9 xo zr zm L p1 p6 b5 (fun σ=>yE (yo zcW (zcN xo zr zm L) 0 L zeV) zil n σ K) K).trans ?_
  simp only [ih]
  rfl
def zoY {β:Type} (xo:za1) (zr:zbd) (zm:zaw) (L:Nat) (p0:List V) (p1:List (List V)) (k_fin:Int→Option β):Option β :=
 zti xo zr zm L p0 p1 (fun p1 p6 b5=>zfC xo zr zm L (fun p1 p6 b5=>zgv xo zr zm L p1 p6 b5 k_fin) L p1 p6 b5)
theorem zBp {β:Type} (xo:za1) (zr:zbd) (zm:zaw) (L:Nat) (p0:List V) (p1:List (List V)) (k:KK β):zt zcW (zcN xo zr zm L) L zfm [(V.agg p0),(V.sl 1 p1)] [] k=zoY xo zr zm L p0 p1 (fun p0=>k (V.sc (.int .u64 p0)) []):=by
 refine (zBF xo zr zm L p0 p1 k).trans ?_
 unfold zoY
 first
  | (simp only [zok,ztO]; done)
  | (simp only [zok]; rfl)
abbrev zgP:=∀ (β:Type),Nat→List V→List (List V)→(Int→Option β)→Option β
def yL (β:Type) (L:Nat) (p0:List V) (p1:List (List V)) (k_fin:Int→Option β):Option β:=zoY xo zr zm L p0 p1 k_fin
def zlA (yL:zgP) (L:Nat) (β:Type) (args:List V) (bor:Bor) (k:KK β):Option β:=match args,bor with
 | [a0,a1],[]=>aG a0 fun p0=>aL 1 a1 fun p1=>yL β L p0 p1 (fun p0=>k (V.sc (.int .u64 p0)) [])
 | _,_=>none
theorem zBs (L:Nat) (β:Type) (args:List V) (bor:Bor) (k:KK β) (r:β) (h:zlA yL L β args bor k=some r):zt zcW (zcN xo zr zm L) L zfm args bor k=some r:=by
 unfold zlA at h
 split at h
 ·have q:=xY h; clear h; obtain ⟨p0,rfl,h⟩:=q
  have q:=zZ h; clear h; obtain ⟨p1,rfl,h⟩:=q
  exact (zBp xo zr zm L p0 p1 k).trans h
 ·cases h
def zky:CF:=⟨6,[.tmp 2],
 (.seq (.reg [oo 1 (.box true (tq 0)),
   oo 2 (.move (.const (.sc (.int .u32 0))) false)])
 (.seq (.reg [oo 3 (.fieldAddr 0 (tq 1)),
   oo 4 (.load false 1 (tq 3) false),
   oo 5 (.bin .shr (tq 4) (.const (.sc (.int .u64 16)))),
   oo 2 (.move (tq 5) false)])
 .ret))⟩
def zrv:Hint:=⟨[],[],[none],[],[],false,false⟩
def zoS:Nat→Sh:=zP [(4,(.int .u32))]
def zos (L:Nat):CBC:=noC
def zp6 {β:Type} (L:Nat) (p0:List V) (k_fin:Int→Option β):Option β :=
 cI .u32 p0 0 fun v0 =>
 lt (znO .u32 v0 (16:Int)) fun x1 =>
 k_fin x1
theorem zzn {β:Type} (L:Nat) (p0:List V) (k:KK β):zt zoS (zos L) L zky [(V.agg p0)] [] k=zp6 L p0 (fun p0=>k (V.sc (.int .u32 p0)) []):=by kernel_rfl
abbrev zaj:=∀ (β:Type),Nat→List V→(Int→Option β)→Option β
def zk (β:Type) (L:Nat) (p0:List V) (k_fin:Int→Option β):Option β:=zp6 L p0 k_fin
def zeI (zk:zaj) (L:Nat) (β:Type) (args:List V) (bor:Bor) (k:KK β):Option β:=match args,bor with
 | [a0],[]=>aG a0 fun p0=>zk β L p0 (fun p0=>k (V.sc (.int .u32 p0)) [])
 | _,_=>none
theorem zzt (L:Nat) (β:Type) (args:List V) (bor:Bor) (k:KK β) (r:β) (h:zeI zk L β args bor k=some r):zt zoS (zos L) L zky args bor k=some r:=by
 unfold zeI at h
 split at h
 ·have q:=xY h; clear h; obtain ⟨p0,rfl,h⟩:=q
  exact (zzn L p0 k).trans h
 ·cases h
def ze4:CF:=⟨30,[.tmp 4],
 (.seq (.reg [oo 2 (.box true (tq 0)),
   oo 3 (.box true (tq 1)),
   oo 4 (.move (.const (.sc (.int .i64 0))) false)])
 (.seq (.reg [oo 7 (.load true 32 (tq 2) false),
   oo 8 (.call 110 [((tq 7),0)] []),
   oo 5 (.alloc true [(.sc (.int .u64 0)),(.sc (.int .u64 0))]),
   oz (.store 2 (tq 5) (tq 8))])
 (.seq (.dreg [] [(oo 9 (.load true 2 (tq 5) false),ql 5 [3] [10]),
   (oo 10 (.buildSlice 1 1 [(.sc (.int .u8 0))] [(0,1,(.const (.sc (.int .u8 4))))]),qn [5,3] []),
   (oo 11 (.fieldAddr 0 (tq 3)),q0),
   (oo 12 (.load false 1 (tq 11) false),ql 3 [5] [10]),
   (oo 13 (.call 159 [((tq 10),0),((tq 12),0)] []),qc [5,3] []),
   (oo 14 (.fieldAddr 1 (tq 3)),q0),
   (oo 15 (.load false 1 (tq 14) false),ql 3 [5] [10]),
   (oo 16 (.call 304 [((tq 13),0),((tq 15),0)] []),qc [5] []),
   (oo 17 (.call 106 [((tq 9),0),((tq 16),0)] []),q0),
   (oo 18 (.bin .rem (tq 17) (.const (.sc (.int .u64 4)))),q0),
   (oo 6 (.move (tq 18) false),q0)])
 (.seq (.dreg [] [(oo 19 (.load true 2 (tq 5) false),ql 5 [3] [20]),
   (oo 20 (.buildSlice 1 1 [(.sc (.int .u8 0))] [(0,1,(.const (.sc (.int .u8 3))))]),qn [5,3] []),
   (oo 21 (.load true 3 (tq 3) false),ql 3 [5] [20]),
   (oo 22 (.call 294 [((tq 21),0)] []),qc [5] [20]),
   (oo 23 (.call 159 [((tq 20),0),((tq 22),0)] []),qc [5] []),
   (oo 24 (.move (tq 6) false),q0),
   (oo 25 (.conv .u32 (tq 24)),q0),
   (oo 26 (.call 159 [((tq 23),0),((tq 25),0)] []),qc [5] []),
   (oo 27 (.call 106 [((tq 19),0),((tq 26),0)] []),q0),
   (oo 28 (.bin .rem (tq 27) (.const (.sc (.int .u64 64)))),q0),
   (oo 29 (.conv .i64 (tq 28)),q0),
   (oo 4 (.move (tq 29) false),q0)])
 .ret))))⟩
def zlr:Hint:=⟨[],[],[none],[],[],false,false⟩
def zhM:Nat→Sh:=zP [(12,(.int .u32)),(15,(.int .u16))]
def zic (yP:zgF) (yw:zcA) (xR:zg3) (yL:zgP) (zk:zaj) (L:Nat):CBC:=(zw 294 (zeI zk L) (zw 106 (zlA yL L) (zw 304 (zgY xR L) (zw 159 (ze0 yw L) (zw 110 (zlq yP L) noC)))))
def ziF {β:Type} (yP:zgF) (yw:zcA) (xR:zg3) (yL:zgP) (zk:zaj) (L:Nat) (p0 p1:List V) (k_fin:Int→Option β):Option β :=
 chk (0+32≤(List.length p0)) (
 yP β L (List.take 32 p0) (fun v0 =>
 chk ((List.length v0)=2∧0+2≤2) (
 lt (xg [(V.sc (.int .u64 (0:Int))),(V.sc (.int .u64 (0:Int)))] 0 v0) fun r1 =>
 chk (0+2≤(List.length r1)) (
 cI .u32 p1 0 fun v2 =>
 yw β L (yl 1 1 [(V.sc (.int .u8 (4:Int)))]) v2 (fun v3 =>
 cI .u16 p1 1 fun v4 =>
 xR β L v3 v4 (fun v5 =>
 yL β L (List.take 2 r1) v5 (fun v6 =>
 lt (Int.tmod v6 (4:Int)) fun x7 =>
 chk (0+2≤(List.length r1)) (
 chk (0+3≤(List.length p1)) (
 zk β L (List.take 3 p1) (fun v8 =>
 yw β L (yl 1 1 [(V.sc (.int .u8 (3:Int)))]) v8 (fun v9 =>
 lt (IntKind.wrap .u32 x7) fun x10 =>
 yw β L v9 x10 (fun v11 =>
 yL β L (List.take 2 r1) v11 (fun v12 =>
 lt (Int.tmod v12 (64:Int)) fun x13 =>
 lt (IntKind.wrap .i64 x13) fun x14 =>
 k_fin x14)))))))))))))
theorem ztd {β:Type} (yP:zgF) (yw:zcA) (xR:zg3) (yL:zgP) (zk:zaj) (L:Nat) (p0 p1:List V) (k:KK β):zt zhM (zic yP yw xR yL zk L) L ze4 [(V.agg p0),(V.agg p1)] [] k=ziF yP yw xR yL zk L p0 p1 (fun p0=>k (V.sc (.int .i64 p0)) []):=by kernel_rfl
abbrev xK:=∀ (β:Type),Nat→List V→List V→(Int→Option β)→Option β
def yf (β:Type) (L:Nat) (p0 p1:List V) (k_fin:Int→Option β):Option β:=ziF yP yw xR yL zk L p0 p1 k_fin
def zdP (yf:xK) (L:Nat) (β:Type) (args:List V) (bor:Bor) (k:KK β):Option β:=match args,bor with
 | [a0,a1],[]=>aG a0 fun p0=>aG a1 fun p1=>yf β L p0 p1 (fun p0=>k (V.sc (.int .i64 p0)) [])
 | _,_=>none
theorem ztb (L:Nat) (β:Type) (args:List V) (bor:Bor) (k:KK β) (r:β) (h:zdP yf L β args bor k=some r):zt zhM (zic yP yw xR yL zk L) L ze4 args bor k=some r:=by
 unfold zdP at h
 split at h
 ·have q:=xY h; clear h; obtain ⟨p0,rfl,h⟩:=q
  have q:=xY h; clear h; obtain ⟨p1,rfl,h⟩:=q
  exact (ztd yP yw xR yL zk L p0 p1 k).trans h
 ·cases h
def ze7:CF:=⟨30,[.tmp 6],
 (.seq (.reg [oo 3 (.box true (tq 0)),
   oo 4 (.box true (tq 1)),
   oo 6 (.move (.const (.sc (.int .i64 0))) false)])
 (.seq (.reg [oo 9 (.load true 32 (tq 3) false),
   oo 10 (.call 110 [((tq 9),0)] []),
   oo 7 (.alloc true [(.sc (.int .u64 0)),(.sc (.int .u64 0))]),
   oz (.store 2 (tq 7) (tq 10))])
 (.seq (.dreg [] [(oo 11 (.load true 2 (tq 7) false),ql 7 [4] [12]),
   (oo 12 (.buildSlice 1 1 [(.sc (.int .u8 0))] [(0,1,(.const (.sc (.int .u8 2))))]),qn [7,4] []),
   (oo 13 (.load true 3 (tq 4) false),ql 4 [7] [12]),
   (oo 14 (.call 294 [((tq 13),0)] []),qc [7] [12]),
   (oo 15 (.call 159 [((tq 12),0),((tq 14),0)] []),qc [7] []),
   (oo 16 (.move (tq 2) false),q0),
   (oo 17 (.call 159 [((tq 15),0),((tq 16),0)] []),qc [7] []),
   (oo 18 (.call 106 [((tq 11),0),((tq 17),0)] []),q0),
   (oo 19 (.bin .rem (tq 18) (.const (.sc (.int .u64 4)))),q0),
   (oo 8 (.move (tq 19) false),q0)])
 (.seq (.dreg [] [(oo 20 (.load true 2 (tq 7) false),ql 7 [] [21]),
   (oo 21 (.buildSlice 1 1 [(.sc (.int .u8 0))] [(0,1,(.const (.sc (.int .u8 1))))]),qn [7] []),
   (oo 22 (.move (tq 2) false),q0),
   (oo 23 (.call 159 [((tq 21),0),((tq 22),0)] []),qc [7] []),
   (oo 24 (.move (tq 8) false),q0),
   (oo 25 (.conv .u32 (tq 24)),q0),
   (oo 26 (.call 159 [((tq 23),0),((tq 25),0)] []),qc [7] []),
   (oo 27 (.call 106 [((tq 20),0),((tq 26),0)] []),q0),
   (oo 28 (.bin .rem (tq 27) (.const (.sc (.int .u64 64)))),q0),
   (oo 29 (.conv .i64 (tq 28)),q0),
   (oo 6 (.move (tq 29) false),q0)])
 .ret))))⟩
def zls:Hint:=⟨[],[],[none],[],[],false,false⟩
def zhO:Nat→Sh:=zP []
def zh5 (yP:zgF) (zk:zaj) (yw:zcA) (yL:zgP) (L:Nat):CBC:=(zw 106 (zlA yL L) (zw 159 (ze0 yw L) (zw 294 (zeI zk L) (zw 110 (zlq yP L) noC))))
def ziJ {β:Type} (yP:zgF) (zk:zaj) (yw:zcA) (yL:zgP) (L:Nat) (p0 p1:List V) (p2:Int) (k_fin:Int→Option β):Option β :=
 chk (0+32≤(List.length p0)) (
 yP β L (List.take 32 p0) (fun v0 =>
 chk ((List.length v0)=2∧0+2≤2) (
 lt (xg [(V.sc (.int .u64 (0:Int))),(V.sc (.int .u64 (0:Int)))] 0 v0) fun r1 =>
 chk (0+2≤(List.length r1)) (
 chk (0+3≤(List.length p1)) (
 zk β L (List.take 3 p1) (fun v2 =>
 yw β L (yl 1 1 [(V.sc (.int .u8 (2:Int)))]) v2 (fun v3 =>
 yw β L v3 p2 (fun v4 =>
 yL β L (List.take 2 r1) v4 (fun v5 =>
 lt (Int.tmod v5 (4:Int)) fun x6 =>
 chk (0+2≤(List.length r1)) (
 yw β L (yl 1 1 [(V.sc (.int .u8 (1:Int)))]) p2 (fun v7 =>
 lt (IntKind.wrap .u32 x6) fun x8 =>
 yw β L v7 x8 (fun v9 =>
 yL β L (List.take 2 r1) v9 (fun v10 =>
 lt (Int.tmod v10 (64:Int)) fun x11 =>
 lt (IntKind.wrap .i64 x11) fun x12 =>
 k_fin x12)))))))))))))
theorem ztl {β:Type} (yP:zgF) (zk:zaj) (yw:zcA) (yL:zgP) (L:Nat) (p0 p1:List V) (p2:Int) (k:KK β):zt zhO (zh5 yP zk yw yL L) L ze7 [(V.agg p0),(V.agg p1),(V.sc (.int .u32 p2))] [] k=ziJ yP zk yw yL L p0 p1 p2 (fun p0=>k (V.sc (.int .i64 p0)) []):=by kernel_rfl
abbrev zu:=∀ (β:Type),Nat→List V→List V→Int→(Int→Option β)→Option β
def xa (β:Type) (L:Nat) (p0 p1:List V) (p2:Int) (k_fin:Int→Option β):Option β:=ziJ yP zk yw yL L p0 p1 p2 k_fin
def zdS (xa:zu) (L:Nat) (β:Type) (args:List V) (bor:Bor) (k:KK β):Option β:=match args,bor with
 | [a0,a1,a2],[]=>aG a0 fun p0=>aG a1 fun p1=>aI .u32 a2 fun p2=>xa β L p0 p1 p2 (fun p0=>k (V.sc (.int .i64 p0)) [])
 | _,_=>none
theorem ztq (L:Nat) (β:Type) (args:List V) (bor:Bor) (k:KK β) (r:β) (h:zdS xa L β args bor k=some r):zt zhO (zh5 yP zk yw yL L) L ze7 args bor k=some r:=by
 unfold zdS at h
 split at h
 ·have q:=xY h; clear h; obtain ⟨p0,rfl,h⟩:=q
  have q:=xY h; clear h; obtain ⟨p1,rfl,h⟩:=q
  have q:=zaC h; clear h; obtain ⟨p2,rfl,h⟩:=q
  exact (ztl yP zk yw yL L p0 p1 p2 k).trans h
 ·cases h
def zlS:CF:=⟨17,[.tmp 4],
 (.seq (.reg [oo 2 (.box true (tq 0)),
   oo 3 (.box true (tq 1)),
   oo 4 (.move (.const (.sc (.bool false))) false)])
 (.seq (.reg [oo 5 (.fieldAddr 0 (tq 2)),
   oo 6 (.load false 1 (tq 5) false),
   oo 7 (.fieldAddr 0 (tq 3)),
   oo 8 (.load false 1 (tq 7) false),
   oo 9 (.bin .eql (tq 6) (tq 8)),
   oo 10 (.move (tq 9) false),
   ⟨(some 11),false,(some (10,true)),.fieldAddr 1 (tq 2)⟩,
   ⟨(some 12),false,(some (10,true)),.load false 1 (tq 11) false⟩,
   ⟨(some 13),false,(some (10,true)),.fieldAddr 1 (tq 3)⟩,
   ⟨(some 14),false,(some (10,true)),.load false 1 (tq 13) false⟩,
   ⟨(some 15),false,(some (10,true)),.bin .eql (tq 12) (tq 14)⟩,
   oo 16 (.pick (tq 10) (tq 15) (.const (.sc (.bool false)))),
   oo 4 (.move (tq 16) false)])
 .ret))⟩
def zsA:Hint:=⟨[],[],[none],[],[],false,false⟩
def zpZ:Nat→Sh:=zP [(6,(.int .u32)),(8,(.int .u32)),(12,(.int .u16)),(14,(.int .u16))]
def zpW (L:Nat):CBC:=noC
def zrP {β:Type} (L:Nat) (p0 p1:List V) (k_fin:Bool→Option β):Option β :=
 cI .u32 p0 0 fun v0 =>
 cI .u32 p1 0 fun v1 =>
 ifb ((v0:Int) == v1) (
 cI .u16 p0 1 fun v2 =>
 cI .u16 p1 1 fun v3 =>
 k_fin ((v2:Int) == v3)) (
 k_fin false)
theorem zz0 {β:Type} (L:Nat) (p0 p1:List V) (k:KK β):zt zpZ (zpW L) L zlS [(V.agg p0),(V.agg p1)] [] k=zrP L p0 p1 (fun p0=>k (V.sc (.bool p0)) []):=by kernel_rfl
abbrev zM:=∀ (β:Type),Nat→List V→List V→(Bool→Option β)→Option β
def yg (β:Type) (L:Nat) (p0 p1:List V) (k_fin:Bool→Option β):Option β:=zrP L p0 p1 k_fin
def zj4 (yg:zM) (L:Nat) (β:Type) (args:List V) (bor:Bor) (k:KK β):Option β:=match args,bor with
 | [a0,a1],[]=>aG a0 fun p0=>aG a1 fun p1=>yg β L p0 p1 (fun p0=>k (V.sc (.bool p0)) [])
 | _,_=>none
theorem zAI (L:Nat) (β:Type) (args:List V) (bor:Bor) (k:KK β) (r:β) (h:zj4 yg L β args bor k=some r):zt zpZ (zpW L) L zlS args bor k=some r:=by
 unfold zj4 at h
 split at h
 ·have q:=xY h; clear h; obtain ⟨p0,rfl,h⟩:=q
  have q:=xY h; clear h; obtain ⟨p1,rfl,h⟩:=q
  exact (zz0 L p0 p1 k).trans h
 ·cases h
def zeR:CC:=(.seq (.seq (.reg [oo 6 (.move (tq 5) false),
   oo 7 (.move (tq 0) false),
   oo 8 (.lenS (tq 7)),
   oo 9 (.bin .lss (tq 6) (tq 8))])
 (.cond (tq 9)
 .skip
 (.seq (.mask (bl 0 20) (bl 786119 20))
 (.exit 0))))
 (.seq (.block 1 (.seq (.dreg [] [(oo 12 (.move (tq 0) false),q0),
   (oo 13 (.move (tq 5) false),q0),
   (oo 14 (.indexAddrS 5 (tq 12) (tq 13)),q0),
   (oo 15 (.fieldAddr 1 (tq 14)),q0),
   (oo 16 (.load true 3 (tq 15) false),q1),
   (oo 17 (.load true 3 (tq 3) false),{ q1 with root:=some 3 }),
   (oo 18 (.call 303 [((tq 16),0),((tq 17),0)] []),q0)])
 (.cond (tq 18)
 (.seq (.reg [oo 19 (.move (tq 5) false),
   oo 4 (.move (tq 19) false)])
 (.seq (.mask (bl 16 20) (bl 786135 20))
 .ret))
 .skip)))
 (.reg [oo 10 (.move (tq 5) false),
   oo 11 (.bin .add (tq 10) (.const (.sc (.int .i64 1)))),
   oo 5 (.move (tq 11) false)])))
def zkq:CC:=(.seq (.reg [oo 4 (.move (.const (.sc (.int .i64 (-1)))) false)])
 .ret)
def zcY:CF:=⟨20,[.tmp 4],
 (.seq (.reg [oo 3 (.box true (tq 1)),
   oo 4 (.move (.const (.sc (.int .i64 0))) false)])
 (.seq (.seq (.reg [oo 5 (.move (.const (.sc (.int .i64 0))) false)])
 (.block 0 (.loop (bl 41 20) (bl 786159 20)
 zeR)))
 zkq))⟩
def zsD:Hint:=⟨[],[],[none,some ((bl 41 20),(bl 786159 20)),none,some ((bl 0 20),(bl 786119 20)),none,none,some ((bl 16 20),(bl 786135 20)),none],[],[],false,false⟩
def zb0:Nat→Sh:=zP []
def zbX (yg:zM) (L:Nat):CBC:=(zw 303 (zj4 yg L) noC)
def zhW:St→St:=zae 0 (bl 41 20) (bl 786159 20)
def zfF (p0:List (List V)) (p5:Int) (b3:List V):St:=⟨((V.sl 5 p0)::(jn 2 ((V.ptr 3 0)::(jn 1 ((V.sc (.int .i64 p5))::(jn 14 [])))))),(gn 3 ((.live true b3)::(gn 16 [])))⟩
def zlb (p4:Int):St:=⟨(jn 4 ((V.sc (.int .i64 p4))::(jn 15 []))),(gn 20 [])⟩
def zmb:St:=⟨(jn 20 []),(gn 20 [])⟩
def zrd {β:Type} (yg:zM) (L:Nat) (p0:List (List V)) (p1:List V) (k_hbaba:List (List V)→Int→List V→Option β):Option β :=
 k_hbaba p0 (0:Int) p1
theorem zAO {β:Type} (yg:zM) (L:Nat) (p0:List (List V)) (p1:List V) (k:KK β):zt zb0 (zbX yg L) L zcY [(V.sl 5 p0),(V.agg p1)] [] k=zrd yg L p0 p1 (fun p0 p5 b3=>yE (yo zb0 (zbX yg L) 0 L zeR) zhW L (zfF p0 p5 b3) (xG 0 (yU (yo zb0 (zbX yg L) 0 L zkq) (xZ 0 (CF.res zcY) k)))):=by kernel_rfl
def zl5 {β:Type} (yg:zM) (L:Nat) (p0:List (List V)) (p5:Int) (b3:List V) (k_ret:Int→Option β) (k_hbaba:List (List V)→Int→List V→Option β) (k_x0:Option β):Option β :=
 ifb (decide (p5 < ((List.length p0:Nat):Int))) (
 idx p0 p5 fun c0 =>
 chk (0+3≤(List.length b3)) (
 yg β L (List.take 3 (List.drop 1 c0)) (List.take 3 b3) (fun v1 =>
 ifb v1 (
 k_ret p5) (
 lt (IntKind.wrap .i64 ((p5:Int)+(1:Int))) fun x2 =>
 k_hbaba p0 x2 b3)))) (
 k_x0)
theorem zwb {β:Type} (yg:zM) (L:Nat) (p0:List (List V)) (p5:Int) (b3:List V) (X:St→Option β) (K:KT β):yo zb0 (zbX yg L) 0 L zeR (zfF p0 p5 b3) (zcr zhW X K)=zl5 yg L p0 p5 b3 (fun p4=>K .ret (zlb p4)) (fun p0 p5 b3=>X (zfF p0 p5 b3)) (K (.exit 0) (zmb)):=by kernel_rfl
def zol {β:Type} (yg:zM) (L:Nat) (p4:Int) (k_fin:Int→Option β):Option β :=
 k_fin p4
theorem zs7 {β:Type} (yg:zM) (L:Nat) (p4:Int) (k:KK β):(xG 0 (yU (yo zb0 (zbX yg L) 0 L zkq) (xZ 0 (CF.res zcY) k))) .ret (zlb p4)=zol yg L p4 (fun p0=>k (V.sc (.int .i64 p0)) []):=by kernel_rfl
def zph {β:Type} (yg:zM) (L:Nat) (k_fin:Int→Option β):Option β :=
 k_fin (-1:Int)
theorem zun {β:Type} (yg:zM) (L:Nat) (k:KK β):(xG 0 (yU (yo zb0 (zbX yg L) 0 L zkq) (xZ 0 (CF.res zcY) k))) (.exit 0) (zmb)=zph yg L (fun p0=>k (V.sc (.int .i64 p0)) []):=by kernel_rfl
def zft {β:Type} (yg:zM) (L:Nat) (k_ret:Int→Option β) (k_x0:Option β):Nat→List (List V)→Int→List V→Option β
 | 0,_,_,_=>none
 | n+1,p0,p5,b3=>zl5 yg L p0 p5 b3 k_ret (fun p0 p5 b3=>zft yg L k_ret k_x0 n p0 p5 b3) k_x0
theorem zoa {β:Type} (yg:zM) (L:Nat) (K:KT β):∀ (n:Nat) (p0:List (List V)) (p5:Int) (b3:List V),yE (yo zb0 (zbX yg L) 0 L zeR) zhW n (zfF p0 p5 b3) K=zft yg L (fun p4=>K .ret (zlb p4)) (K (.exit 0) (zmb)) n p0 p5 b3:=by
 intro n
 induction n with
 | zero=>intros; rfl
 | succ n ih =>
  intro p0 p5 b3
  refine (zwb yg L p0 p5 b3 (fun σ=>yE (yo zb0 (zbX yg L) 0 L zeR) zhW n σ K) K).trans ?_
  simp only [ih]
  rfl
def znX {β:Type} (yg:zM) (L:Nat) (p0:List (List V)) (p1:List V) (k_fin:Int→Option β):Option β :=
 zrd yg L p0 p1 (fun p0 p5 b3=>zft yg L (fun p4=>zol yg L p4 k_fin) (zph yg L k_fin) L p0 p5 b3)
theorem zAv {β:Type} (yg:zM) (L:Nat) (p0:List (List V)) (p1:List V) (k:KK β):zt zb0 (zbX yg L) L zcY [(V.sl 5 p0),(V.agg p1)] [] k=znX yg L p0 p1 (fun p0=>k (V.sc (.int .i64 p0)) []):=by
 refine (zAO yg L p0 p1 k).trans ?_
 unfold znX
 first
  | (simp only [zoa,zs7,zun]; done)
  | (simp only [zoa]; rfl)
abbrev yI:=∀ (β:Type),Nat→List (List V)→List V→(Int→Option β)→Option β
def yd (β:Type) (L:Nat) (p0:List (List V)) (p1:List V) (k_fin:Int→Option β):Option β:=znX yg L p0 p1 k_fin
def zhe (yd:yI) (L:Nat) (β:Type) (args:List V) (bor:Bor) (k:KK β):Option β:=match args,bor with
 | [a0,a1],[]=>aL 5 a0 fun p0=>aG a1 fun p1=>yd β L p0 p1 (fun p0=>k (V.sc (.int .i64 p0)) [])
 | _,_=>none
theorem zAZ (L:Nat) (β:Type) (args:List V) (bor:Bor) (k:KK β) (r:β) (h:zhe yd L β args bor k=some r):zt zb0 (zbX yg L) L zcY args bor k=some r:=by
 unfold zhe at h
 split at h
 ·have q:=zZ h; clear h; obtain ⟨p0,rfl,h⟩:=q
  have q:=xY h; clear h; obtain ⟨p1,rfl,h⟩:=q
  exact (zAv yg L p0 p1 k).trans h
 ·cases h
def zdR:CC:=(.seq (.seq (.reg [oo 12 (.move (tq 7) false),
   oo 13 (.move (tq 1) false),
   oo 14 (.lenS (tq 13)),
   oo 15 (.bin .lss (tq 12) (tq 14))])
 (.cond (tq 15)
 .skip
 (.seq (.mask (bl 0 84) (bl 18133887294219300164845111 84))
 (.exit 0))))
 (.seq (.block 1 (.seq (.dreg [] [(oo 18 (.load true 32 (tq 3) false),{ q1 with root:=some 3 }),
   (oo 19 (.move (tq 1) false),q0),
   (oo 20 (.move (tq 7) false),q0),
   (oo 21 (.indexAddrS 5 (tq 19) (tq 20)),q0),
   (oo 22 (.fieldAddr 1 (tq 21)),q0),
   (oo 23 (.load true 3 (tq 22) false),q1),
   (oo 24 (.call 290 [((tq 18),0),((tq 23),0)] []),q0),
   (oo 8 (.move (tq 24) false),q0)])
 (.seq (.seq (.reg [oo 25 (.move (tq 2) false)])
 (.cond (tq 25)
 (.dreg [] [(oo 26 (.load true 32 (tq 3) false),{ q1 with root:=some 3 }),
   (oo 27 (.move (tq 1) false),q0),
   (oo 28 (.move (tq 7) false),q0),
   (oo 29 (.indexAddrS 5 (tq 27) (tq 28)),q0),
   (oo 30 (.fieldAddr 1 (tq 29)),q0),
   (oo 31 (.load true 3 (tq 30) false),q1),
   (oo 32 (.move (tq 1) false),q0),
   (oo 33 (.move (tq 7) false),q0),
   (oo 34 (.indexAddrS 5 (tq 32) (tq 33)),q0),
   (oo 35 (.fieldAddr 4 (tq 34)),q0),
   (oo 36 (.load false 1 (tq 35) false),q1),
   (oo 37 (.call 305 [((tq 26),0),((tq 31),0),((tq 36),0)] []),q0),
   (oo 8 (.move (tq 37) false),q0)])
 .skip))
 (.seq (.reg [oo 38 (.move (tq 1) false),
   oo 39 (.move (tq 7) false),
   oo 40 (.indexAddrS 5 (tq 38) (tq 39)),
   oo 41 (.fieldAddr 0 (tq 40)),
   oo 42 (.load false 1 (tq 41) false),
   oo 43 (.move (tq 8) false),
   oo 44 (.bin .neq (tq 42) (tq 43)),
   oo 45 (.move (tq 44) false),
   ⟨(some 46),false,(some (45,false)),.move (tq 7) false⟩,
   ⟨(some 47),false,(some (45,false)),.bin .gtr (tq 46) (.const (.sc (.int .i64 0)))⟩,
   ⟨(some 48),false,(some (45,false)),.move (tq 47) false⟩,
   ⟨(some 49),false,(some (48,true)),.move (tq 1) false⟩,
   ⟨(some 50),false,(some (48,true)),.move (tq 7) false⟩,
   ⟨(some 51),false,(some (48,true)),.bin .sub (tq 50) (.const (.sc (.int .i64 1)))⟩,
   ⟨(some 52),false,(some (48,true)),.indexAddrS 5 (tq 49) (tq 51)⟩,
   ⟨(some 53),false,(some (48,true)),.fieldAddr 0 (tq 52)⟩,
   ⟨(some 54),false,(some (48,true)),.load false 1 (tq 53) false⟩,
   ⟨(some 55),false,(some (48,true)),.move (tq 8) false⟩,
   ⟨(some 56),false,(some (48,true)),.bin .gtr (tq 54) (tq 55)⟩,
   ⟨(some 57),false,(some (45,false)),.pick (tq 48) (tq 56) (.const (.sc (.bool false)))⟩,
   oo 58 (.pick (tq 45) (.const (.sc (.bool true))) (tq 57)),
   oo 59 (.move (tq 58) false),
   ⟨(some 60),false,(some (59,false)),.move (tq 7) false⟩,
   ⟨(some 61),false,(some (59,false)),.bin .geq (tq 60) (.const (.sc (.int .i64 8)))⟩,
   ⟨(some 62),false,(some (59,false)),.move (tq 61) false⟩,
   ⟨(some 63),false,(some (62,true)),.move (tq 1) false⟩,
   ⟨(some 64),false,(some (62,true)),.move (tq 7) false⟩,
   ⟨(some 65),false,(some (62,true)),.bin .sub (tq 64) (.const (.sc (.int .i64 8)))⟩,
   ⟨(some 66),false,(some (62,true)),.indexAddrS 5 (tq 63) (tq 65)⟩,
   ⟨(some 67),false,(some (62,true)),.fieldAddr 0 (tq 66)⟩,
   ⟨(some 68),false,(some (62,true)),.load false 1 (tq 67) false⟩,
   ⟨(some 69),false,(some (62,true)),.move (tq 8) false⟩,
   ⟨(some 70),false,(some (62,true)),.bin .eql (tq 68) (tq 69)⟩,
   ⟨(some 71),false,(some (59,false)),.pick (tq 62) (tq 70) (.const (.sc (.bool false)))⟩,
   oo 72 (.pick (tq 59) (.const (.sc (.bool true))) (tq 71)),
   oo 73 (.move (tq 72) false),
   ⟨(some 74),false,(some (73,false)),.move (tq 1) false⟩,
   ⟨(some 75),false,(some (73,false)),.move (tq 1) false⟩,
   ⟨(some 76),false,(some (73,false)),.move (tq 7) false⟩,
   ⟨(some 77),false,(some (73,false)),.indexAddrS 5 (tq 75) (tq 76)⟩,
   ⟨(some 78),false,(some (73,false)),.fieldAddr 1 (tq 77)⟩,
   ⟨(some 79),false,(some (73,false)),.load true 3 (tq 78) false⟩,
   ⟨(some 80),false,(some (73,false)),.call 287 [((tq 74),2),((tq 79),2)] []⟩,
   ⟨(some 81),false,(some (73,false)),.move (tq 7) false⟩,
   ⟨(some 82),false,(some (73,false)),.bin .neq (tq 80) (tq 81)⟩,
   oo 83 (.pick (tq 73) (.const (.sc (.bool true))) (tq 82))])
 (.cond (tq 83)
 (.seq (.reg [oo 6 (.move (.const (.sc (.bool false))) false)])
 (.seq (.mask (bl 64 84) (bl 18133887294219300164845175 84))
 .ret))
 .skip)))))
 (.reg [oo 16 (.move (tq 7) false),
   oo 17 (.bin .add (tq 16) (.const (.sc (.int .i64 1)))),
   oo 7 (.move (tq 17) false)])))
def zim:CC:=(.seq (.reg [oo 6 (.move (.const (.sc (.bool true))) false)])
 .ret)
def zdc:CF:=⟨84,[.tmp 6],
 (.seq (.reg [oo 3 (.box true (tq 0)),
   oo 6 (.move (.const (.sc (.bool false))) false)])
 (.seq (.seq (.reg [oo 9 (.move (tq 1) false),
   oo 10 (.lenS (tq 9)),
   oo 11 (.bin .gtr (tq 10) (.const (.sc (.int .i64 512))))])
 (.cond (tq 11)
 (.seq (.reg [oo 6 (.move (.const (.sc (.bool false))) false)])
 .ret)
 .skip))
 (.seq (.seq (.reg [oo 7 (.move (.const (.sc (.int .i64 0))) false)])
 (.block 0 (.loop (bl 142 84) (bl 18133887294219300164845247 84)
 zdR)))
 zim)))⟩
def zra:Hint:=⟨[(9,42)],[],[none,none,none,some ((bl 142 84),(bl 18133887294219300164845247 84)),none,some ((bl 0 84),(bl 18133887294219300164845111 84)),none,none,none,some ((bl 64 84),(bl 18133887294219300164845175 84)),none],[],[],false,false⟩
def zbx:Nat→Sh:=zP [(36,(.int .u32)),(42,(.int .i64)),(54,(.int .i64)),(68,(.int .i64))]
def zbC (yf:xK) (xa:zu) (yd:yI) (L:Nat):CBC:=(zw 287 (zhe yd L) (zw 305 (zdS xa L) (zw 290 (zdP yf L) noC)))
def zga:St→St:=zae 0 (bl 142 84) (bl 18133887294219300164845247 84)
def zeC (p1:List (List V)) (p2:Bool) (p7:Int) (b3:List V):St:=⟨(jn 1 ((V.sl 5 p1)::((V.sc (.bool p2))::((V.ptr 3 0)::(jn 3 ((V.sc (.int .i64 p7))::(jn 76 []))))))),(gn 3 ((.live true b3)::(gn 80 [])))⟩
def zjx (p6:Bool):St:=⟨(jn 6 ((V.sc (.bool p6))::(jn 77 []))),(gn 84 [])⟩
def zkT:St:=⟨(jn 84 []),(gn 84 [])⟩
def zlM {β:Type} (yf:xK) (xa:zu) (yd:yI) (L:Nat) (p0:List V) (p1:List (List V)) (p2:Bool) (k_fin:Bool→Option β) (k_hbbaba:List (List V)→Bool→Int→List V→Option β):Option β :=
 ifb (decide (((List.length p1:Nat):Int) > (512:Int))) (
 k_fin false) (
 k_hbbaba p1 p2 (0:Int) p0)
theorem zy4 {β:Type} (yf:xK) (xa:zu) (yd:yI) (L:Nat) (p0:List V) (p1:List (List V)) (p2:Bool) (k:KK β):zt zbx (zbC yf xa yd L) L zdc [(V.agg p0),(V.sl 5 p1),(V.sc (.bool p2))] [] k=zlM yf xa yd L p0 p1 p2 (fun p0=>k (V.sc (.bool p0)) []) (fun p1 p2 p7 b3=>yE (yo zbx (zbC yf xa yd L) 0 L zdR) zga L (zeC p1 p2 p7 b3) (xG 0 (yU (yo zbx (zbC yf xa yd L) 0 L zim) (xZ 0 (CF.res zdc) k)))):=by kernel_rfl
def zgs {β:Type} (yf:xK) (xa:zu) (yd:yI) (L:Nat) (p1:List (List V)) (p2:Bool) (p7:Int) (b3:List V) (k_ret:Bool→Option β) (k_hbbaba:List (List V)→Bool→Int→List V→Option β) (k_x0:Option β):Option β :=
 ifb (decide (p7 < ((List.length p1:Nat):Int))) (
 chk (0+32≤(List.length b3)) (
 idx p1 p7 fun c0 =>
 yf β L (List.take 32 b3) (List.take 3 (List.drop 1 c0)) (fun v1 =>
 ifb p2 (
 chk (0+32≤(List.length b3)) (
 idx p1 p7 fun c2 =>
 idx p1 p7 fun c3 =>
 cI .u32 (List.drop 4 c3) 0 fun v4 =>
 xa β L (List.take 32 b3) (List.take 3 (List.drop 1 c2)) v4 (fun v5 =>
 idx p1 p7 fun c6 =>
 cI .i64 c6 0 fun v7 =>
 ifb ((v7:Int) != v5) (
 k_ret false) (
 ifb (decide (p7 > (0:Int))) (
 lt (IntKind.wrap .i64 ((p7:Int) - (1:Int))) fun x8 =>
 idx p1 x8 fun c9 =>
 cI .i64 c9 0 fun v10 =>
 ifb (decide (v10 > v5)) (
 k_ret false) (
 ifb (decide (p7 ≥ (8:Int))) (
 lt (IntKind.wrap .i64 ((p7:Int) - (8:Int))) fun x11 =>
 idx p1 x11 fun c12 =>
 cI .i64 c12 0 fun v13 =>
 ifb ((v13:Int) == v5) (
 k_ret false) (
 idx p1 p7 fun c14 =>
 yd β L p1 (List.take 3 (List.drop 1 c14)) (fun v15 =>
 ifb ((v15:Int) != p7) (
 k_ret false) (
 lt (IntKind.wrap .i64 ((p7:Int)+(1:Int))) fun x16 =>
 k_hbbaba p1 p2 x16 b3)))) (
 idx p1 p7 fun c17 =>
 yd β L p1 (List.take 3 (List.drop 1 c17)) (fun v18 =>
 ifb ((v18:Int) != p7) (
 k_ret false) (
 lt (IntKind.wrap .i64 ((p7:Int)+(1:Int))) fun x19 =>
 k_hbbaba p1 p2 x19 b3))))) (
 ifb (decide (p7 ≥ (8:Int))) (
 lt (IntKind.wrap .i64 ((p7:Int) - (8:Int))) fun x20 =>
 idx p1 x20 fun c21 =>
 cI .i64 c21 0 fun v22 =>
 ifb ((v22:Int) == v5) (
 k_ret false) (
 idx p1 p7 fun c23 =>
 yd β L p1 (List.take 3 (List.drop 1 c23)) (fun v24 =>
 ifb ((v24:Int) != p7) (
 k_ret false) (
 lt (IntKind.wrap .i64 ((p7:Int)+(1:Int))) fun x25 =>
 k_hbbaba p1 p2 x25 b3)))) (
 idx p1 p7 fun c26 =>
 yd β L p1 (List.take 3 (List.drop 1 c26)) (fun v27 =>
 ifb ((v27:Int) != p7) (
 k_ret false) (
 lt (IntKind.wrap .i64 ((p7:Int)+(1:Int))) fun x28 =>
 k_hbbaba p1 p2 x28 b3)))))))) (
 idx p1 p7 fun c29 =>
 cI .i64 c29 0 fun v30 =>
 ifb ((v30:Int) != v1) (
 k_ret false) (
 ifb (decide (p7 > (0:Int))) (
 lt (IntKind.wrap .i64 ((p7:Int) - (1:Int))) fun x31 =>
 idx p1 x31 fun c32 =>
 cI .i64 c32 0 fun v33 =>
 ifb (decide (v33 > v1)) (
 k_ret false) (
 ifb (decide (p7 ≥ (8:Int))) (
 lt (IntKind.wrap .i64 ((p7:Int) - (8:Int))) fun x34 =>
 idx p1 x34 fun c35 =>
 cI .i64 c35 0 fun v36 =>
 ifb ((v36:Int) == v1) (
 k_ret false) (
 idx p1 p7 fun c37 =>
 yd β L p1 (List.take 3 (List.drop 1 c37)) (fun v38 =>
 ifb ((v38:Int) != p7) (
 k_ret false) (
 lt (IntKind.wrap .i64 ((p7:Int)+(1:Int))) fun x39 =>
 k_hbbaba p1 p2 x39 b3)))) (
 idx p1 p7 fun c40 =>
 yd β L p1 (List.take 3 (List.drop 1 c40)) (fun v41 =>
 ifb ((v41:Int) != p7) (
 k_ret false) (
 lt (IntKind.wrap .i64 ((p7:Int)+(1:Int))) fun x42 =>
 k_hbbaba p1 p2 x42 b3))))) (
 ifb (decide (p7 ≥ (8:Int))) (
 lt (IntKind.wrap .i64 ((p7:Int) - (8:Int))) fun x43 =>
 idx p1 x43 fun c44 =>
 cI .i64 c44 0 fun v45 =>
 ifb ((v45:Int) == v1) (
 k_ret false) (
 idx p1 p7 fun c46 =>
 yd β L p1 (List.take 3 (List.drop 1 c46)) (fun v47 =>
 ifb ((v47:Int) != p7) (
 k_ret false) (
 lt (IntKind.wrap .i64 ((p7:Int)+(1:Int))) fun x48 =>
 k_hbbaba p1 p2 x48 b3)))) (
 idx p1 p7 fun c49 =>
 yd β L p1 (List.take 3 (List.drop 1 c49)) (fun v50 =>
 ifb ((v50:Int) != p7) (
 k_ret false) (
 lt (IntKind.wrap .i64 ((p7:Int)+(1:Int))) fun x51 =>
 k_hbbaba p1 p2 x51 b3))))))))) (
 k_x0)
theorem zuo {β:Type} (yf:xK) (xa:zu) (yd:yI) (L:Nat) (p1:List (List V)) (p2:Bool) (p7:Int) (b3:List V) (X:St→Option β) (K:KT β):yo zbx (zbC yf xa yd L) 0 L zdR (zeC p1 p2 p7 b3) (zcr zga X K)=zgs yf xa yd L p1 p2 p7 b3 (fun p6=>K .ret (zjx p6)) (fun p1 p2 p7 b3=>X (zeC p1 p2 p7 b3)) (K (.exit 0) (zkT)):=by kernel_rfl
def zmm {β:Type} (yf:xK) (xa:zu) (yd:yI) (L:Nat) (p6:Bool) (k_fin:Bool→Option β):Option β :=
 k_fin p6
theorem zq9 {β:Type} (yf:xK) (xa:zu) (yd:yI) (L:Nat) (p6:Bool) (k:KK β):(xG 0 (yU (yo zbx (zbC yf xa yd L) 0 L zim) (xZ 0 (CF.res zdc) k))) .ret (zjx p6)=zmm yf xa yd L p6 (fun p0=>k (V.sc (.bool p0)) []):=by kernel_rfl
def zmW {β:Type} (yf:xK) (xa:zu) (yd:yI) (L:Nat) (k_fin:Bool→Option β):Option β :=
 k_fin true
theorem zsj {β:Type} (yf:xK) (xa:zu) (yd:yI) (L:Nat) (k:KK β):(xG 0 (yU (yo zbx (zbC yf xa yd L) 0 L zim) (xZ 0 (CF.res zdc) k))) (.exit 0) (zkT)=zmW yf xa yd L (fun p0=>k (V.sc (.bool p0)) []):=by kernel_rfl
def zbh {β:Type} (yf:xK) (xa:zu) (yd:yI) (L:Nat) (k_ret:Bool→Option β) (k_x0:Option β):Nat→List (List V)→Bool→Int→List V→Option β
 | 0,_,_,_,_=>none
 | n+1,p1,p2,p7,b3=>zgs yf xa yd L p1 p2 p7 b3 k_ret (fun p1 p2 p7 b3=>zbh yf xa yd L k_ret k_x0 n p1 p2 p7 b3) k_x0
theorem zmI {β:Type} (yf:xK) (xa:zu) (yd:yI) (L:Nat) (K:KT β):∀ (n:Nat) (p1:List (List V)) (p2:Bool) (p7:Int) (b3:List V),yE (yo zbx (zbC yf xa yd L) 0 L zdR) zga n (zeC p1 p2 p7 b3) K=zbh yf xa yd L (fun p6=>K .ret (zjx p6)) (K (.exit 0) (zkT)) n p1 p2 p7 b3:=by
 intro n
 induction n with
 | zero=>intros; rfl
 | succ n ih =>
  intro p1 p2 p7 b3
  refine (zuo yf xa yd L p1 p2 p7 b3 (fun σ=>yE (yo zbx (zbC yf xa yd L) 0 L zdR) zga n σ K) K).trans ?_
  simp only [ih]
  rfl
def zir {β:Type} (yf:xK) (xa:zu) (yd:yI) (L:Nat) (p0:List V) (p1:List (List V)) (p2:Bool) (k_fin:Bool→Option β):Option β :=
 zlM yf xa yd L p0 p1 p2 k_fin (fun p1 p2 p7 b3=>zbh yf xa yd L (fun p6=>zmm yf xa yd L p6 k_fin) (zmW yf xa yd L k_fin) L p1 p2 p7 b3)
theorem zzp {β:Type} (yf:xK) (xa:zu) (yd:yI) (L:Nat) (p0:List V) (p1:List (List V)) (p2:Bool) (k:KK β):zt zbx (zbC yf xa yd L) L zdc [(V.agg p0),(V.sl 5 p1),(V.sc (.bool p2))] [] k=zir yf xa yd L p0 p1 p2 (fun p0=>k (V.sc (.bool p0)) []):=by
 refine (zy4 yf xa yd L p0 p1 p2 k).trans ?_
 unfold zir
 first
  | (simp only [zmI,zq9,zsj]; done)
  | (simp only [zmI]; rfl)
abbrev zaU:=∀ (β:Type),Nat→List V→List (List V)→Bool→(Bool→Option β)→Option β
def zp (β:Type) (L:Nat) (p0:List V) (p1:List (List V)) (p2:Bool) (k_fin:Bool→Option β):Option β:=zir yf xa yd L p0 p1 p2 k_fin
def zlV (zp:zaU) (L:Nat) (β:Type) (args:List V) (bor:Bor) (k:KK β):Option β:=match args,bor with
 | [a0,a1,a2],[]=>aG a0 fun p0=>aL 5 a1 fun p1=>aB a2 fun p2=>zp β L p0 p1 p2 (fun p0=>k (V.sc (.bool p0)) [])
 | _,_=>none
theorem zzr (L:Nat) (β:Type) (args:List V) (bor:Bor) (k:KK β) (r:β) (h:zlV zp L β args bor k=some r):zt zbx (zbC yf xa yd L) L zdc args bor k=some r:=by
 unfold zlV at h
 split at h
 ·have q:=xY h; clear h; obtain ⟨p0,rfl,h⟩:=q
  have q:=zZ h; clear h; obtain ⟨p1,rfl,h⟩:=q
  have q:=ztI h; clear h; obtain ⟨p2,rfl,h⟩:=q
  exact (zzp yf xa yd L p0 p1 p2 k).trans h
 ·cases h
def zdT:CC:=(.seq (.seq (.reg [oo 18 (.move (tq 3) false),
   oo 19 (.fieldAddr 32 (tq 1)),
   oo 20 (.load false 1 (tq 19) false),
   oo 21 (.lenS (tq 20)),
   oo 22 (.bin .lss (tq 18) (tq 21))])
 (.cond (tq 22)
 .skip
 (.seq (.mask (bl 0 35) (bl 25767706609 35))
 (.exit 0))))
 (.seq (.block 1 (.seq (.dreg [] [(oo 25 (.fieldAddr 33 (tq 1)),q0),
   (oo 26 (.load false 1 (tq 25) false),{ q1 with root:=some 1 }),
   (oo 27 (.fieldAddr 32 (tq 1)),q0),
   (oo 28 (.load false 1 (tq 27) false),{ q1 with root:=some 1 }),
   (oo 29 (.move (tq 3) false),q0),
   (oo 30 (.indexAddrS 5 (tq 28) (tq 29)),q0),
   (oo 31 (.fieldAddr 1 (tq 30)),q0),
   (oo 32 (.load true 3 (tq 31) false),q1),
   (oo 33 (.call 287 [((tq 26),2),((tq 32),2)] []),q0),
   (oo 34 (.bin .geq (tq 33) (.const (.sc (.int .i64 0)))),q0)])
 (.cond (tq 34)
 (.seq (.reg [oo 2 (.move (.const (.sc (.bool false))) false)])
 (.seq (.mask (bl 4 35) (bl 25767706613 35))
 .ret))
 .skip)))
 (.reg [oo 23 (.move (tq 3) false),
   oo 24 (.bin .add (tq 23) (.const (.sc (.int .i64 1)))),
   oo 3 (.move (tq 24) false)])))
def zh8:CC:=(.seq (.reg [oo 2 (.move (.const (.sc (.bool true))) false)])
 .ret)
def zdf:CF:=⟨35,[.tmp 2],
 (.seq (.reg [oo 1 (.box true (tq 0)),
   oo 2 (.move (.const (.sc (.bool false))) false)])
 (.seq (.seq (.reg [oo 4 (.fieldAddr 0 (tq 1)),
   oo 5 (.load true 32 (tq 4) false),
   oo 6 (.fieldAddr 32 (tq 1)),
   oo 7 (.load false 1 (tq 6) false),
   oo 8 (.call 302 [((tq 5),0),((tq 7),0),((.const (.sc (.bool true))),0)] []),
   oo 9 (.un .not (tq 8)),
   oo 10 (.move (tq 9) false),
   ⟨(some 11),false,(some (10,false)),.fieldAddr 0 (tq 1)⟩,
   ⟨(some 12),false,(some (10,false)),.load true 32 (tq 11) false⟩,
   ⟨(some 13),false,(some (10,false)),.fieldAddr 33 (tq 1)⟩,
   ⟨(some 14),false,(some (10,false)),.load false 1 (tq 13) false⟩,
   ⟨(some 15),false,(some (10,false)),.call 302 [((tq 12),0),((tq 14),0),((.const (.sc (.bool false))),0)] []⟩,
   ⟨(some 16),false,(some (10,false)),.un .not (tq 15)⟩,
   oo 17 (.pick (tq 10) (.const (.sc (.bool true))) (tq 16))])
 (.cond (tq 17)
 (.seq (.reg [oo 2 (.move (.const (.sc (.bool false))) false)])
 .ret)
 .skip))
 (.seq (.seq (.reg [oo 3 (.move (.const (.sc (.int .i64 0))) false)])
 (.block 0 (.loop (bl 10 35) (bl 25767706619 35)
 zdT)))
 zh8)))⟩
def zr5:Hint:=⟨[(0,0),(6,8)],[],[none,none,none,some ((bl 10 35),(bl 25767706619 35)),none,some ((bl 0 35),(bl 25767706609 35)),none,none,some ((bl 4 35),(bl 25767706613 35)),none],[],[],false,false⟩
def zbv:Nat→Sh:=zP [(7,(.sl 5)),(14,(.sl 5)),(20,(.sl 5)),(26,(.sl 5)),(28,(.sl 5))]
def zbA (zp:zaU) (yd:yI) (L:Nat):CBC:=(zw 287 (zhe yd L) (zw 302 (zlV zp L) noC))
def zgr:St→St:=zae 0 (bl 10 35) (bl 25767706619 35)
def zev (p3:Int) (b1:List V):St:=⟨(jn 1 ((V.ptr 1 0)::(jn 1 ((V.sc (.int .i64 p3))::(jn 31 []))))),(gn 1 ((.live true b1)::(gn 33 [])))⟩
def zjR (p2:Bool):St:=⟨(jn 2 ((V.sc (.bool p2))::(jn 32 []))),(gn 35 [])⟩
def zk7:St:=⟨(jn 35 []),(gn 35 [])⟩
def zp5 {β:Type} (zp:zaU) (yd:yI) (L:Nat) (p0:List V) (k_fin:Bool→Option β) (k_hbbaba:Int→List V→Option β):Option β :=
 chk (0+32≤(List.length p0)) (
 cLd 5 p0 32 fun v0 =>
 zp β L (List.take 32 p0) v0 true (fun v1 =>
 ifb (!v1) (
 k_fin false) (
 chk (0+32≤(List.length p0)) (
 cLd 5 p0 33 fun v2 =>
 zp β L (List.take 32 p0) v2 false (fun v3 =>
 ifb (!v3) (
 k_fin false) (
 k_hbbaba (0:Int) p0))))))
theorem zza {β:Type} (zp:zaU) (yd:yI) (L:Nat) (p0:List V) (k:KK β):zt zbv (zbA zp yd L) L zdf [(V.agg p0)] [] k=zp5 zp yd L p0 (fun p0=>k (V.sc (.bool p0)) []) (fun p3 b1=>yE (yo zbv (zbA zp yd L) 0 L zdT) zgr L (zev p3 b1) (xG 0 (yU (yo zbv (zbA zp yd L) 0 L zh8) (xZ 0 (CF.res zdf) k)))):=by kernel_rfl
def zkh {β:Type} (zp:zaU) (yd:yI) (L:Nat) (p3:Int) (b1:List V) (k_ret:Bool→Option β) (k_hbbaba:Int→List V→Option β) (k_x0:Option β):Option β :=
 cLd 5 b1 32 fun v4 =>
 ifb (decide (p3 < ((List.length v4:Nat):Int))) (
 cLd 5 b1 33 fun v5 =>
 cLd 5 b1 32 fun v6 =>
 idx v6 p3 fun c7 =>
 yd β L v5 (List.take 3 (List.drop 1 c7)) (fun v8 =>
 ifb (decide (v8 ≥ (0:Int))) (
 k_ret false) (
 lt (IntKind.wrap .i64 ((p3:Int)+(1:Int))) fun x9 =>
 k_hbbaba x9 b1))) (
 k_x0)
theorem zuc {β:Type} (zp:zaU) (yd:yI) (L:Nat) (p3:Int) (b1:List V) (X:St→Option β) (K:KT β):yo zbv (zbA zp yd L) 0 L zdT (zev p3 b1) (zcr zgr X K)=zkh zp yd L p3 b1 (fun p2=>K .ret (zjR p2)) (fun p3 b1=>X (zev p3 b1)) (K (.exit 0) (zk7)):=by kernel_rfl
def zmE {β:Type} (zp:zaU) (yd:yI) (L:Nat) (p2:Bool) (k_fin:Bool→Option β):Option β :=
 k_fin p2
theorem zr9 {β:Type} (zp:zaU) (yd:yI) (L:Nat) (p2:Bool) (k:KK β):(xG 0 (yU (yo zbv (zbA zp yd L) 0 L zh8) (xZ 0 (CF.res zdf) k))) .ret (zjR p2)=zmE zp yd L p2 (fun p0=>k (V.sc (.bool p0)) []):=by kernel_rfl
def znb {β:Type} (zp:zaU) (yd:yI) (L:Nat) (k_fin:Bool→Option β):Option β :=
 k_fin true
theorem zsf {β:Type} (zp:zaU) (yd:yI) (L:Nat) (k:KK β):(xG 0 (yU (yo zbv (zbA zp yd L) 0 L zh8) (xZ 0 (CF.res zdf) k))) (.exit 0) (zk7)=znb zp yd L (fun p0=>k (V.sc (.bool p0)) []):=by kernel_rfl
def zei {β:Type} (zp:zaU) (yd:yI) (L:Nat) (k_ret:Bool→Option β) (k_x0:Option β):Nat→Int→List V→Option β
 | 0,_,_=>none
 | n+1,p3,b1=>zkh zp yd L p3 b1 k_ret (fun p3 b1=>zei zp yd L k_ret k_x0 n p3 b1) k_x0
theorem zmD {β:Type} (zp:zaU) (yd:yI) (L:Nat) (K:KT β):∀ (n:Nat) (p3:Int) (b1:List V),yE (yo zbv (zbA zp yd L) 0 L zdT) zgr n (zev p3 b1) K=zei zp yd L (fun p2=>K .ret (zjR p2)) (K (.exit 0) (zk7)) n p3 b1:=by
 intro n
 induction n with
 | zero=>intros; rfl
 | succ n ih =>
  intro p3 b1
  refine (zuc zp yd L p3 b1 (fun σ=>yE (yo zbv (zbA zp yd L) 0 L zdT) zgr n σ K) K).trans ?_
  simp only [ih]
  rfl
def zlU {β:Type} (zp:zaU) (yd:yI) (L:Nat) (p0:List V) (k_fin:Bool→Option β):Option β :=
 zp5 zp yd L p0 k_fin (fun p3 b1=>zei zp yd L (fun p2=>zmE zp yd L p2 k_fin) (znb zp yd L k_fin) L p3 b1)
theorem zzx {β:Type} (zp:zaU) (yd:yI) (L:Nat) (p0:List V) (k:KK β):zt zbv (zbA zp yd L) L zdf [(V.agg p0)] [] k=zlU zp yd L p0 (fun p0=>k (V.sc (.bool p0)) []):=by
 refine (zza zp yd L p0 k).trans ?_
 unfold zlU
 first
  | (simp only [zmD,zr9,zsf]; done)
  | (simp only [zmD]; rfl)
abbrev zaT:=∀ (β:Type),Nat→List V→(Bool→Option β)→Option β
def yv (β:Type) (L:Nat) (p0:List V) (k_fin:Bool→Option β):Option β:=zlU zp yd L p0 k_fin
def zf2 (yv:zaT) (L:Nat) (β:Type) (args:List V) (bor:Bor) (k:KK β):Option β:=match args,bor with
 | [a0],[]=>aG a0 fun p0=>yv β L p0 (fun p0=>k (V.sc (.bool p0)) [])
 | _,_=>none
theorem zzm (L:Nat) (β:Type) (args:List V) (bor:Bor) (k:KK β) (r:β) (h:zf2 yv L β args bor k=some r):zt zbv (zbA zp yd L) L zdf args bor k=some r:=by
 unfold zf2 at h
 split at h
 ·have q:=xY h; clear h; obtain ⟨p0,rfl,h⟩:=q
  exact (zzx zp yd L p0 k).trans h
 ·cases h
def zi6:CF:=⟨14,[.cellS 2 34 false],
 (.seq (.reg [oo 1 (.box false (tq 0)),
   oo 2 (.alloc false (rp 32 (.sc (.int .u8 0)) (rp 2 (.gs 5 []) [])))])
 (.seq (.dreg [] [(oo 3 (.fieldAddr 0 (tq 1)),q0),
   (oo 4 (.load true 32 (tq 3) false),ql 1 [] [5,8,9,12]),
   (⟨(some 5),true,none,.buildSlice 5 0 [(.sc (.int .i64 0)),(.sc (.int .u32 0)),(.sc (.int .u16 0)),(.sc (.int .u32 0)),(.sc (.int .u32 0))] []⟩,qn [1] [9]),
   (oo 6 (.fieldAddr 32 (tq 1)),q0),
   (oo 7 (.load false 1 (tq 6) false),ql 1 [] [5,9]),
   (⟨(some 8),true,none,.append 5 24 (tq 5) (tq 7)⟩,qn [1] [9]),
   (⟨(some 9),true,none,.buildSlice 5 0 [(.sc (.int .i64 0)),(.sc (.int .u32 0)),(.sc (.int .u16 0)),(.sc (.int .u32 0)),(.sc (.int .u32 0))] []⟩,qn [1] [5,8]),
   (oo 10 (.fieldAddr 33 (tq 1)),q0),
   (oo 11 (.load false 1 (tq 10) false),ql 1 [] [5,8,9]),
   (⟨(some 12),true,none,.append 5 24 (tq 9) (tq 11)⟩,qn [1] []),
   (oo 13 (.buildSt (rp 32 (.sc (.int .u8 0)) (rp 2 (.sl 5 []) [])) [(0,32,(tq 4)),(32,1,(tq 8)),(33,1,(tq 12))]),q0),
   (oz (.store 34 (tq 2) (tq 13)),q0)])
 .ret))⟩
def zqi:Hint:=⟨[(1,10)],[(1,2),(1,5),(1,6),(1,9)],[none],[],[],false,true⟩
def znx:Nat→Sh:=zP [(1,(.row [(.int .u8),(.int .u8),(.int .u8),(.int .u8),(.int .u8),(.int .u8),(.int .u8),(.int .u8),(.int .u8),(.int .u8),(.int .u8),(.int .u8),(.int .u8),(.int .u8),(.int .u8),(.int .u8),(.int .u8),(.int .u8),(.int .u8),(.int .u8),(.int .u8),(.int .u8),(.int .u8),(.int .u8),(.int .u8),(.int .u8),(.int .u8),(.int .u8),(.int .u8),(.int .u8),(.int .u8),(.int .u8),(.sl 5),(.sl 5)]))]
def znj (L:Nat):CBC:=noC
abbrev zkV (β:Type):Type:=Int→Int→Int→Int→Int→Int→Int→Int→Int→Int→Int→Int→Int→Int→Int→Int→Int→Int→Int→Int→Int→Int→Int→Int→Int→Int→Int→Int→Int→Int→Int→Int→Nat→Nat→List V→List V→Option β
def zoQ {β:Type} (L:Nat) (p0:List V) (k_fin:zkV β):Option β :=
 chk (List.length p0=34) (
 cI .u8 p0 0 fun v0 =>
 cI .u8 p0 1 fun v1 =>
 cI .u8 p0 2 fun v2 =>
 cI .u8 p0 3 fun v3 =>
 cI .u8 p0 4 fun v4 =>
 cI .u8 p0 5 fun v5 =>
 cI .u8 p0 6 fun v6 =>
 cI .u8 p0 7 fun v7 =>
 cI .u8 p0 8 fun v8 =>
 cI .u8 p0 9 fun v9 =>
 cI .u8 p0 10 fun v10 =>
 cI .u8 p0 11 fun v11 =>
 cI .u8 p0 12 fun v12 =>
 cI .u8 p0 13 fun v13 =>
 cI .u8 p0 14 fun v14 =>
 cI .u8 p0 15 fun v15 =>
 cI .u8 p0 16 fun v16 =>
 cI .u8 p0 17 fun v17 =>
 cI .u8 p0 18 fun v18 =>
 cI .u8 p0 19 fun v19 =>
 cI .u8 p0 20 fun v20 =>
 cI .u8 p0 21 fun v21 =>
 cI .u8 p0 22 fun v22 =>
 cI .u8 p0 23 fun v23 =>
 cI .u8 p0 24 fun v24 =>
 cI .u8 p0 25 fun v25 =>
 cI .u8 p0 26 fun v26 =>
 cI .u8 p0 27 fun v27 =>
 cI .u8 p0 28 fun v28 =>
 cI .u8 p0 29 fun v29 =>
 cI .u8 p0 30 fun v30 =>
 cI .u8 p0 31 fun v31 =>
 cL 5 p0 32 fun v32 =>
 cL 5 p0 33 fun v33 =>
 chk ((0+List.length v32) * 24≤zs∧0+List.length v32≤zs) (
 chk ((0+List.length v33) * 24≤zs∧0+List.length v33≤zs) (
 k_fin v0 v1 v2 v3 v4 v5 v6 v7 v8 v9 v10 v11 v12 v13 v14 v15 v16 v17 v18 v19 v20 v21 v22 v23 v24 v25 v26 v27 v28 v29 v30 v31 (List.length v32) (List.length v33) (List.flatten v32) (List.flatten v33))))
theorem zyt {β:Type} (L:Nat) (p0:List V) (k:KK β):zt znx (znj L) L zi6 [(V.agg p0)] [] k=zoQ L p0 (fun zL8 zL9 zMs zMW zMX zMY zMZ zM0 zM1 zM2 zMy zMz zMA zMB zMC zMD zME zMF zMG zMH zMI zMJ zMK zML zMM zMN zMO zMP zMQ zMR zMS zMT zMv zMw b0 b1=>k (V.st [(V.sc (.int .u8 zL8)),(V.sc (.int .u8 zL9)),(V.sc (.int .u8 zMs)),(V.sc (.int .u8 zMW)),(V.sc (.int .u8 zMX)),(V.sc (.int .u8 zMY)),(V.sc (.int .u8 zMZ)),(V.sc (.int .u8 zM0)),(V.sc (.int .u8 zM1)),(V.sc (.int .u8 zM2)),(V.sc (.int .u8 zMy)),(V.sc (.int .u8 zMz)),(V.sc (.int .u8 zMA)),(V.sc (.int .u8 zMB)),(V.sc (.int .u8 zMC)),(V.sc (.int .u8 zMD)),(V.sc (.int .u8 zME)),(V.sc (.int .u8 zMF)),(V.sc (.int .u8 zMG)),(V.sc (.int .u8 zMH)),(V.sc (.int .u8 zMI)),(V.sc (.int .u8 zMJ)),(V.sc (.int .u8 zMK)),(V.sc (.int .u8 zML)),(V.sc (.int .u8 zMM)),(V.sc (.int .u8 zMN)),(V.sc (.int .u8 zMO)),(V.sc (.int .u8 zMP)),(V.sc (.int .u8 zMQ)),(V.sc (.int .u8 zMR)),(V.sc (.int .u8 zMS)),(V.sc (.int .u8 zMT)),(V.own 0 0 zMv 5),(V.own 1 0 zMw 5)]) [(.live true b0),(.live true b1)]):=by kernel_rfl
abbrev yQ:=∀ (β:Type),Nat→List V→(Int→Int→Int→Int→Int→Int→Int→Int→Int→Int→Int→Int→Int→Int→Int→Int→Int→Int→Int→Int→Int→Int→Int→Int→Int→Int→Int→Int→Int→Int→Int→Int→Nat→Nat→List V→List V→Option β)→Option β
def zg (β:Type) (L:Nat) (p0:List V) (k_fin:zkV β):Option β:=zoQ L p0 k_fin
def zhf (zg:yQ) (L:Nat) (β:Type) (args:List V) (bor:Bor) (k:KK β):Option β:=match args,bor with
 | [a0],[]=>aG a0 fun p0=>zg β L p0 (fun zL8 zL9 zMs zMW zMX zMY zMZ zM0 zM1 zM2 zMy zMz zMA zMB zMC zMD zME zMF zMG zMH zMI zMJ zMK zML zMM zMN zMO zMP zMQ zMR zMS zMT zMv zMw b0 b1=>k (V.st [(V.sc (.int .u8 zL8)),(V.sc (.int .u8 zL9)),(V.sc (.int .u8 zMs)),(V.sc (.int .u8 zMW)),(V.sc (.int .u8 zMX)),(V.sc (.int .u8 zMY)),(V.sc (.int .u8 zMZ)),(V.sc (.int .u8 zM0)),(V.sc (.int .u8 zM1)),(V.sc (.int .u8 zM2)),(V.sc (.int .u8 zMy)),(V.sc (.int .u8 zMz)),(V.sc (.int .u8 zMA)),(V.sc (.int .u8 zMB)),(V.sc (.int .u8 zMC)),(V.sc (.int .u8 zMD)),(V.sc (.int .u8 zME)),(V.sc (.int .u8 zMF)),(V.sc (.int .u8 zMG)),(V.sc (.int .u8 zMH)),(V.sc (.int .u8 zMI)),(V.sc (.int .u8 zMJ)),(V.sc (.int .u8 zMK)),(V.sc (.int .u8 zML)),(V.sc (.int .u8 zMM)),(V.sc (.int .u8 zMN)),(V.sc (.int .u8 zMO)),(V.sc (.int .u8 zMP)),(V.sc (.int .u8 zMQ)),(V.sc (.int .u8 zMR)),(V.sc (.int .u8 zMS)),(V.sc (.int .u8 zMT)),(V.own 0 0 zMv 5),(V.own 1 0 zMw 5)]) [(.live true b0),(.live true b1)])
 | _,_=>none
theorem zxZ (L:Nat) (β:Type) (args:List V) (bor:Bor) (k:KK β) (r:β) (h:zhf zg L β args bor k=some r):zt znx (znj L) L zi6 args bor k=some r:=by
 unfold zhf at h
 split at h
 ·have q:=xY h; clear h; obtain ⟨p0,rfl,h⟩:=q
  exact (zyt L p0 k).trans h
 ·cases h
def zi3:CF:=⟨15,[.tmp 4],
 (.seq (.reg [oo 4 (.move (.const (.gs 5 [])) true)])
 (.seq (.dreg [] [(oo 5 (.buildSlice 5 0 [(.sc (.int .i64 0)),(.sc (.int .u32 0)),(.sc (.int .u16 0)),(.sc (.int .u32 0)),(.sc (.int .u32 0))] []),q0),
   (oo 6 (.move (tq 0) false),q0),
   (oo 7 (.move (tq 1) false),q0),
   (oo 8 (.sliceS 5 (tq 6) none (some (tq 7)) none),q0),
   (oo 9 (.append 5 24 (tq 5) (tq 8)),q0),
   (oo 10 (.move (tq 0) false),q0),
   (oo 11 (.move (tq 1) false),q0),
   (oo 12 (.bin .add (tq 11) (.const (.sc (.int .i64 1)))),q0),
   (oo 13 (.sliceS 5 (tq 10) (some (tq 12)) none none),q0),
   (oo 14 (.append 5 24 (tq 9) (tq 13)),q0),
   (oo 4 (.move (tq 14) true),q0)])
 .ret))⟩
def zqo:Hint:=⟨[(0,0),(1,10)],[],[none],[],[],false,false⟩
def znK:Nat→Sh:=zP []
def znk (L:Nat):CBC:=noC
def zox {β:Type} (L:Nat) (p0:List (List V)) (p1:Int) (k_fin:List (List V)→Option β):Option β :=
 chk (0≤p1∧p1≤(((List.length p0):Nat):Int)) (
 chk ((List.length ([]:List (List V))+List.length (List.take ((Int.toNat p1) - 0) (List.drop 0 p0))) * 24≤zs∧List.length ([]:List (List V))+List.length (List.take ((Int.toNat p1) - 0) (List.drop 0 p0))≤zs) (
 lt (([]:List (List V))++(List.take ((Int.toNat p1) - 0) (List.drop 0 p0))) fun l0 =>
 lt (IntKind.wrap .i64 ((p1:Int)+(1:Int))) fun x1 =>
 chk (0≤x1∧x1≤(((List.length p0):Nat):Int)) (
 chk ((List.length l0+List.length (List.take ((List.length p0) - (Int.toNat x1)) (List.drop (Int.toNat x1) p0))) * 24≤zs∧List.length l0+List.length (List.take ((List.length p0) - (Int.toNat x1)) (List.drop (Int.toNat x1) p0))≤zs) (
 lt (l0++(List.take ((List.length p0) - (Int.toNat x1)) (List.drop (Int.toNat x1) p0))) fun l2 =>
 k_fin l2))))
theorem zx1 {β:Type} (L:Nat) (p0:List (List V)) (p1:Int) (k:KK β):zt znK (znk L) L zi3 [(V.sl 5 p0),(V.sc (.int .i64 p1))] [] k=zox L p0 p1 (fun p0=>k (V.gs 5 p0) []):=by kernel_rfl
abbrev xQ:=∀ (β:Type),Nat→List (List V)→Int→(List (List V)→Option β)→Option β
def zf (β:Type) (L:Nat) (p0:List (List V)) (p1:Int) (k_fin:List (List V)→Option β):Option β:=zox L p0 p1 k_fin
def zhq (zf:xQ) (L:Nat) (β:Type) (args:List V) (bor:Bor) (k:KK β):Option β:=match args,bor with
 | [a0,a1],[]=>aL 5 a0 fun p0=>aI .i64 a1 fun p1=>zf β L p0 p1 (fun p0=>k (V.gs 5 p0) [])
 | _,_=>none
theorem zyw (L:Nat) (β:Type) (args:List V) (bor:Bor) (k:KK β) (r:β) (h:zhq zf L β args bor k=some r):zt znK (znk L) L zi3 args bor k=some r:=by
 unfold zhq at h
 split at h
 ·have q:=zZ h; clear h; obtain ⟨p0,rfl,h⟩:=q
  have q:=zaC h; clear h; obtain ⟨p1,rfl,h⟩:=q
  exact (zx1 L p0 p1 k).trans h
 ·cases h
def zdd:CC:=(.seq (.seq (.reg [oo 24 (.move (tq 7) false),
   oo 25 (.move (tq 0) false),
   oo 26 (.lenS (tq 25)),
   oo 27 (.bin .lss (tq 24) (tq 26)),
   oo 28 (.move (tq 27) false),
   ⟨(some 29),false,(some (28,true)),.move (tq 0) false⟩,
   ⟨(some 30),false,(some (28,true)),.move (tq 7) false⟩,
   ⟨(some 31),false,(some (28,true)),.indexAddrS 5 (tq 29) (tq 30)⟩,
   ⟨(some 32),false,(some (28,true)),.fieldAddr 0 (tq 31)⟩,
   ⟨(some 33),false,(some (28,true)),.load false 1 (tq 32) false⟩,
   ⟨(some 34),false,(some (28,true)),.move (tq 1) false⟩,
   ⟨(some 35),false,(some (28,true)),.bin .eql (tq 33) (tq 34)⟩,
   oo 36 (.pick (tq 28) (tq 35) (.const (.sc (.bool false))))])
 (.cond (tq 36)
 .skip
 (.seq (.mask (bl 192 41) (bl 2198956146687 41))
 (.exit 2))))
 (.block 3 (.reg [oo 37 (.move (tq 7) false),
   oo 38 (.bin .add (tq 37) (.const (.sc (.int .i64 1)))),
   oo 7 (.move (tq 38) false)])))
def ziR:CC:=(.seq (.reg [oo 39 (.move (tq 6) false),
   oo 40 (.move (tq 7) false),
   oo 4 (.move (tq 39) false),
   oo 5 (.move (tq 40) false)])
 .ret)
def zdU:CC:=(.seq (.seq (.reg [oo 8 (.move (tq 6) false),
   oo 9 (.move (tq 0) false),
   oo 10 (.lenS (tq 9)),
   oo 11 (.bin .lss (tq 8) (tq 10)),
   oo 12 (.move (tq 11) false),
   ⟨(some 13),false,(some (12,true)),.move (tq 0) false⟩,
   ⟨(some 14),false,(some (12,true)),.move (tq 6) false⟩,
   ⟨(some 15),false,(some (12,true)),.indexAddrS 5 (tq 13) (tq 14)⟩,
   ⟨(some 16),false,(some (12,true)),.fieldAddr 0 (tq 15)⟩,
   ⟨(some 17),false,(some (12,true)),.load false 1 (tq 16) false⟩,
   ⟨(some 18),false,(some (12,true)),.move (tq 1) false⟩,
   ⟨(some 19),false,(some (12,true)),.bin .lss (tq 17) (tq 18)⟩,
   oo 20 (.pick (tq 12) (tq 19) (.const (.sc (.bool false))))])
 (.cond (tq 20)
 .skip
 (.seq (.mask (bl 67 41) (bl 2199023254527 41))
 (.exit 0))))
 (.block 1 (.reg [oo 21 (.move (tq 6) false),
   oo 22 (.bin .add (tq 21) (.const (.sc (.int .i64 1)))),
   oo 6 (.move (tq 22) false)])))
def zg4:CC:=(.seq (.reg [oo 23 (.move (tq 6) false),
   oo 7 (.move (tq 23) false)])
 (.seq (.block 2 (.loop (bl 195 41) (bl 2198956146687 41)
 zdd))
 ziR))
def zbG:CF:=⟨41,[.tmp 4,.tmp 5],
 (.seq (.reg [oo 4 (.move (.const (.sc (.int .i64 0))) false),
   oo 5 (.move (.const (.sc (.int .i64 0))) false)])
 (.seq (.reg [oo 6 (.move (.const (.sc (.int .i64 0))) false)])
 (.seq (.block 0 (.loop (bl 67 41) (bl 2199023254527 41)
 zdU))
 zg4)))⟩
def zqh:Hint:=⟨[],[],[none,some ((bl 67 41),(bl 2199023254527 41)),none,some ((bl 67 41),(bl 2199023254527 41)),none,none,some ((bl 195 41),(bl 2198956146687 41)),none,some ((bl 192 41),(bl 2198956146687 41)),none,none],[],[],false,false⟩
def zW:Nat→Sh:=zP [(17,(.int .i64)),(33,(.int .i64))]
def xW (L:Nat):CBC:=noC
def zf7:St→St:=zae 0 (bl 67 41) (bl 2199023254527 41)
def zfc:St→St:=zae 0 (bl 195 41) (bl 2198956146687 41)
def zez (p0:List (List V)) (p1 p6:Int):St:=⟨((V.sl 5 p0)::((V.sc (.int .i64 p1))::(jn 4 ((V.sc (.int .i64 p6))::(jn 34 []))))),(gn 41 [])⟩
def zf4 (p0:List (List V)) (p1 p6:Int):St:=⟨((V.sl 5 p0)::((V.sc (.int .i64 p1))::(jn 4 ((V.sc (.int .i64 p6))::(jn 34 []))))),(gn 41 [])⟩
def zdK (p0:List (List V)) (p1 p6 p7:Int):St:=⟨((V.sl 5 p0)::((V.sc (.int .i64 p1))::(jn 4 ((V.sc (.int .i64 p6))::((V.sc (.int .i64 p7))::(jn 33 [])))))),(gn 41 [])⟩
def zjT (p6 p7:Int):St:=⟨(jn 6 ((V.sc (.int .i64 p6))::((V.sc (.int .i64 p7))::(jn 33 [])))),(gn 41 [])⟩
def zoB {β:Type} (L:Nat) (p0:List (List V)) (p1:Int) (k_hbbaa:List (List V)→Int→Int→Option β):Option β :=
 k_hbbaa p0 p1 (0:Int)
theorem zyp {β:Type} (L:Nat) (p0:List (List V)) (p1:Int) (k:KK β):zt zW (xW L) L zbG [(V.sl 5 p0),(V.sc (.int .i64 p1))] [] k=zoB L p0 p1 (fun p0 p1 p6=>yE (yo zW (xW L) 0 L zdU) zf7 L (zez p0 p1 p6) (xG 0 (yU (yo zW (xW L) 0 L zg4) (xZ 0 (CF.res zbG) k)))):=by kernel_rfl
def zj3 {β:Type} (L:Nat) (p0:List (List V)) (p1 p6:Int) (k_hbbaa:List (List V)→Int→Int→Option β) (k_x0:List (List V)→Int→Int→Option β):Option β :=
 ifb (decide (p6 < ((List.length p0:Nat):Int))) (
 idx p0 p6 fun c0 =>
 cI .i64 c0 0 fun v1 =>
 ifb (decide (v1 < p1)) (
 lt (IntKind.wrap .i64 ((p6:Int)+(1:Int))) fun x2 =>
 k_hbbaa p0 p1 x2) (
 k_x0 p0 p1 p6)) (
 k_x0 p0 p1 p6)
theorem zub {β:Type} (L:Nat) (p0:List (List V)) (p1 p6:Int) (X:St→Option β) (K:KT β):yo zW (xW L) 0 L zdU (zez p0 p1 p6) (zcr zf7 X K)=zj3 L p0 p1 p6 (fun p0 p1 p6=>X (zez p0 p1 p6)) (fun p0 p1 p6=>K (.exit 0) (zf4 p0 p1 p6)):=by kernel_rfl
def zm4 {β:Type} (L:Nat) (p0:List (List V)) (p1 p6:Int) (k_hbbbbaa:List (List V)→Int→Int→Int→Option β):Option β :=
 k_hbbbbaa p0 p1 p6 p6
theorem zse {β:Type} (L:Nat) (p0:List (List V)) (p1 p6:Int) (k:KK β):(xG 0 (yU (yo zW (xW L) 0 L zg4) (xZ 0 (CF.res zbG) k))) (.exit 0) (zf4 p0 p1 p6)=zm4 L p0 p1 p6 (fun p0 p1 p6 p7=>yE (yo zW (xW L) 0 L zdd) zfc L (zdK p0 p1 p6 p7) (xG 2 (yU (yo zW (xW L) 0 L ziR) (xZ 0 (CF.res zbG) k)))):=by kernel_rfl
def zhZ {β:Type} (L:Nat) (p0:List (List V)) (p1 p6 p7:Int) (k_hbbbbaa:List (List V)→Int→Int→Int→Option β) (k_x2:Int→Int→Option β):Option β :=
 ifb (decide (p7 < ((List.length p0:Nat):Int))) (
 idx p0 p7 fun c3 =>
 cI .i64 c3 0 fun v4 =>
 ifb ((v4:Int) == p1) (
 lt (IntKind.wrap .i64 ((p7:Int)+(1:Int))) fun x5 =>
 k_hbbbbaa p0 p1 p6 x5) (
 k_x2 p6 p7)) (
 k_x2 p6 p7)
theorem zsi {β:Type} (L:Nat) (p0:List (List V)) (p1 p6 p7:Int) (X:St→Option β) (K:KT β):yo zW (xW L) 0 L zdd (zdK p0 p1 p6 p7) (zcr zfc X K)=zhZ L p0 p1 p6 p7 (fun p0 p1 p6 p7=>X (zdK p0 p1 p6 p7)) (fun p6 p7=>K (.exit 2) (zjT p6 p7)):=by kernel_rfl
def zly {β:Type} (L:Nat) (p6 p7:Int) (k_fin:Int→Int→Option β):Option β :=
 k_fin p6 p7
theorem zqS {β:Type} (L:Nat) (p6 p7:Int) (k:KK β):(xG 2 (yU (yo zW (xW L) 0 L ziR) (xZ 0 (CF.res zbG) k))) (.exit 2) (zjT p6 p7)=zly L p6 p7 (fun zL8 zL9=>k (V.tup [(V.sc (.int .i64 zL8)),(V.sc (.int .i64 zL9))]) []):=by kernel_rfl
def zeo {β:Type} (L:Nat) (k_x0:List (List V)→Int→Int→Option β):Nat→List (List V)→Int→Int→Option β
 | 0,_,_,_=>none
 | n+1,p0,p1,p6=>zj3 L p0 p1 p6 (fun p0 p1 p6=>zeo L k_x0 n p0 p1 p6) k_x0
theorem zmq {β:Type} (L:Nat) (K:KT β):∀ (n:Nat) (p0:List (List V)) (p1 p6:Int),yE (yo zW (xW L) 0 L zdU) zf7 n (zez p0 p1 p6) K=zeo L (fun p0 p1 p6=>K (.exit 0) (zf4 p0 p1 p6)) n p0 p1 p6:=by
 intro n
 induction n with
 | zero=>intros; rfl
 | succ n ih =>
  intro p0 p1 p6
  refine (zub L p0 p1 p6 (fun σ=>yE (yo zW (xW L) 0 L zdU) zf7 n σ K) K).trans ?_
  simp only [ih]
  rfl
def zds {β:Type} (L:Nat) (k_x2:Int→Int→Option β):Nat→List (List V)→Int→Int→Int→Option β
 | 0,_,_,_,_=>none
 | n+1,p0,p1,p6,p7=>zhZ L p0 p1 p6 p7 (fun p0 p1 p6 p7=>zds L k_x2 n p0 p1 p6 p7) k_x2
theorem zkL {β:Type} (L:Nat) (K:KT β):∀ (n:Nat) (p0:List (List V)) (p1 p6 p7:Int),yE (yo zW (xW L) 0 L zdd) zfc n (zdK p0 p1 p6 p7) K=zds L (fun p6 p7=>K (.exit 2) (zjT p6 p7)) n p0 p1 p6 p7:=by
 intro n
 induction n with
 | zero=>intros; rfl
 | succ n ih =>
  intro p0 p1 p6 p7
  refine (zsi L p0 p1 p6 p7 (fun σ=>yE (yo zW (xW L) 0 L zdd) zfc n σ K) K).trans ?_
  simp only [ih]
  rfl
def zhs {β:Type} (L:Nat) (p0:List (List V)) (p1 p6:Int) (k_fin:Int→Int→Option β):Option β :=
 zm4 L p0 p1 p6 (fun p0 p1 p6 p7=>zds L (fun p6 p7=>zly L p6 p7 k_fin) L p0 p1 p6 p7)
theorem zr8 {β:Type} (L:Nat) (p0:List (List V)) (p1 p6:Int) (k:KK β):(xG 0 (yU (yo zW (xW L) 0 L zg4) (xZ 0 (CF.res zbG) k))) (.exit 0) (zf4 p0 p1 p6)=zhs L p0 p1 p6 (fun zL8 zL9=>k (V.tup [(V.sc (.int .i64 zL8)),(V.sc (.int .i64 zL9))]) []):=by
 refine (zse L p0 p1 p6 k).trans ?_
 unfold zhs
 first
  | (simp only [zkL,zqS]; done)
  | (simp only [zkL]; rfl)
def zkw {β:Type} (L:Nat) (p0:List (List V)) (p1:Int) (k_fin:Int→Int→Option β):Option β :=
 zoB L p0 p1 (fun p0 p1 p6=>zeo L (fun p0 p1 p6=>zhs L p0 p1 p6 k_fin) L p0 p1 p6)
theorem zyh {β:Type} (L:Nat) (p0:List (List V)) (p1:Int) (k:KK β):zt zW (xW L) L zbG [(V.sl 5 p0),(V.sc (.int .i64 p1))] [] k=zkw L p0 p1 (fun zL8 zL9=>k (V.tup [(V.sc (.int .i64 zL8)),(V.sc (.int .i64 zL9))]) []):=by
 refine (zyp L p0 p1 k).trans ?_
 unfold zkw
 first
  | (simp only [zmq,zr8]; done)
  | (simp only [zmq]; rfl)
abbrev yK:=∀ (β:Type),Nat→List (List V)→Int→(Int→Int→Option β)→Option β
def xe (β:Type) (L:Nat) (p0:List (List V)) (p1:Int) (k_fin:Int→Int→Option β):Option β:=zkw L p0 p1 k_fin
def zfi (xe:yK) (L:Nat) (β:Type) (args:List V) (bor:Bor) (k:KK β):Option β:=match args,bor with
 | [a0,a1],[]=>aL 5 a0 fun p0=>aI .i64 a1 fun p1=>xe β L p0 p1 (fun zL8 zL9=>k (V.tup [(V.sc (.int .i64 zL8)),(V.sc (.int .i64 zL9))]) [])
 | _,_=>none
theorem zym (L:Nat) (β:Type) (args:List V) (bor:Bor) (k:KK β) (r:β) (h:zfi xe L β args bor k=some r):zt zW (xW L) L zbG args bor k=some r:=by
 unfold zfi at h
 split at h
 ·have q:=zZ h; clear h; obtain ⟨p0,rfl,h⟩:=q
  have q:=zaC h; clear h; obtain ⟨p1,rfl,h⟩:=q
  exact (zyh L p0 p1 k).trans h
 ·cases h
def zjb:CF:=⟨26,[.tmp 4],
 (.seq (.reg [oo 3 (.box true (tq 1)),
   oo 4 (.move (.const (.gs 5 [])) true)])
 (.seq (.reg [oo 8 (.move (tq 0) false),
   oo 9 (.fieldAddr 0 (tq 3)),
   oo 10 (.load false 1 (tq 9) false),
   oo 11 (.call 291 [((tq 8),0),((tq 10),0)] []),
   oo 7 (.move (tq 11) true),
   oo 12 (.pull (tq 7) 0),
   oo 13 (.pull (tq 7) 1),
   oo 5 (.move (tq 12) false),
   oo 6 (.move (tq 13) false)])
 (.seq (.dreg [] [(oo 14 (.buildSlice 5 0 [(.sc (.int .i64 0)),(.sc (.int .u32 0)),(.sc (.int .u16 0)),(.sc (.int .u32 0)),(.sc (.int .u32 0))] []),qn [3] [20]),
   (oo 15 (.move (tq 0) false),q0),
   (oo 16 (.move (tq 6) false),q0),
   (oo 17 (.sliceS 5 (tq 15) none (some (tq 16)) none),q0),
   (oo 18 (.append 5 24 (tq 14) (tq 17)),qn [3] [20]),
   (oo 19 (.load true 5 (tq 3) false),ql 3 [] [14,18]),
   (oo 20 (.buildSlice 5 1 [(.sc (.int .i64 0)),(.sc (.int .u32 0)),(.sc (.int .u16 0)),(.sc (.int .u32 0)),(.sc (.int .u32 0))] [(0,5,(tq 19))]),qn [] [14,18]),
   (oo 21 (.append 5 24 (tq 18) (tq 20)),q0),
   (oo 22 (.move (tq 0) false),q0),
   (oo 23 (.move (tq 6) false),q0),
   (oo 24 (.sliceS 5 (tq 22) (some (tq 23)) none none),q0),
   (oo 25 (.append 5 24 (tq 21) (tq 24)),q0),
   (oo 4 (.move (tq 25) true),q0)])
 .ret)))⟩
def zqq:Hint:=⟨[(0,1),(1,4),(2,12)],[],[none],[],[],false,false⟩
def zm6:Nat→Sh:=zP [(10,(.int .i64))]
def zmZ (xe:yK) (L:Nat):CBC:=(zw 291 (zfi xe L) noC)
def zoP {β:Type} (xe:yK) (L:Nat) (p0:List (List V)) (p1:List V) (k_fin:List (List V)→Option β):Option β :=
 cI .i64 p1 0 fun v0 =>
 xe β L p0 v0 (fun v1 v2 =>
 chk (0≤v2∧v2≤(((List.length p0):Nat):Int)) (
 chk ((List.length ([]:List (List V))+List.length (List.take ((Int.toNat v2) - 0) (List.drop 0 p0))) * 24≤zs∧List.length ([]:List (List V))+List.length (List.take ((Int.toNat v2) - 0) (List.drop 0 p0))≤zs) (
 lt (([]:List (List V))++(List.take ((Int.toNat v2) - 0) (List.drop 0 p0))) fun l3 =>
 chk (0+5≤(List.length p1)) (
 chk ((List.length (List.take 5 p1))=5∧0+5≤5) (
 chk ((List.length l3+List.length (yl 5 1 (xg [(V.sc (.int .i64 (0:Int))),(V.sc (.int .u32 (0:Int))),(V.sc (.int .u16 (0:Int))),(V.sc (.int .u32 (0:Int))),(V.sc (.int .u32 (0:Int)))] 0 (List.take 5 p1)))) * 24≤zs∧List.length l3+List.length (yl 5 1 (xg [(V.sc (.int .i64 (0:Int))),(V.sc (.int .u32 (0:Int))),(V.sc (.int .u16 (0:Int))),(V.sc (.int .u32 (0:Int))),(V.sc (.int .u32 (0:Int)))] 0 (List.take 5 p1)))≤zs) (
 lt (l3++(yl 5 1 (xg [(V.sc (.int .i64 (0:Int))),(V.sc (.int .u32 (0:Int))),(V.sc (.int .u16 (0:Int))),(V.sc (.int .u32 (0:Int))),(V.sc (.int .u32 (0:Int)))] 0 (List.take 5 p1)))) fun l4 =>
 chk (0≤v2∧v2≤(((List.length p0):Nat):Int)) (
 chk ((List.length l4+List.length (List.take ((List.length p0) - (Int.toNat v2)) (List.drop (Int.toNat v2) p0))) * 24≤zs∧List.length l4+List.length (List.take ((List.length p0) - (Int.toNat v2)) (List.drop (Int.toNat v2) p0))≤zs) (
 lt (l4++(List.take ((List.length p0) - (Int.toNat v2)) (List.drop (Int.toNat v2) p0))) fun l5 =>
 k_fin l5))))))))
theorem zyq {β:Type} (xe:yK) (L:Nat) (p0:List (List V)) (p1:List V) (k:KK β):zt zm6 (zmZ xe L) L zjb [(V.sl 5 p0),(V.agg p1)] [] k=zoP xe L p0 p1 (fun p0=>k (V.gs 5 p0) []):=by kernel_rfl
abbrev zQ:=∀ (β:Type),Nat→List (List V)→List V→(List (List V)→Option β)→Option β
def ze (β:Type) (L:Nat) (p0:List (List V)) (p1:List V) (k_fin:List (List V)→Option β):Option β:=zoP xe L p0 p1 k_fin
def zhx (ze:zQ) (L:Nat) (β:Type) (args:List V) (bor:Bor) (k:KK β):Option β:=match args,bor with
 | [a0,a1],[]=>aL 5 a0 fun p0=>aG a1 fun p1=>ze β L p0 p1 (fun p0=>k (V.gs 5 p0) [])
 | _,_=>none
theorem zxY (L:Nat) (β:Type) (args:List V) (bor:Bor) (k:KK β) (r:β) (h:zhx ze L β args bor k=some r):zt zm6 (zmZ xe L) L zjb args bor k=some r:=by
 unfold zhx at h
 split at h
 ·have q:=zZ h; clear h; obtain ⟨p0,rfl,h⟩:=q
  have q:=xY h; clear h; obtain ⟨p1,rfl,h⟩:=q
  exact (zyq xe L p0 p1 k).trans h
 ·cases h
def zfJ:CC:=(.seq (.seq (.reg [oo 6 (.move (tq 5) false),
   oo 7 (.move (tq 0) false),
   oo 8 (.lenS (tq 7)),
   oo 9 (.bin .lss (tq 6) (tq 8))])
 (.cond (tq 9)
 .skip
 (.seq (.mask (bl 0 20) (bl 786119 20))
 (.exit 0))))
 (.seq (.block 1 (.seq (.dreg [] [(oo 12 (.move (tq 0) false),q0),
   (oo 13 (.move (tq 5) false),q0),
   (oo 14 (.indexAddrS 5 (tq 12) (tq 13)),q0),
   (oo 15 (.fieldAddr 1 (tq 14)),q0),
   (oo 16 (.load true 3 (tq 15) false),q1),
   (oo 17 (.load true 3 (tq 3) false),{ q1 with root:=some 3 }),
   (oo 18 (.call 303 [((tq 16),0),((tq 17),0)] []),q0)])
 (.cond (tq 18)
 (.seq (.reg [oo 19 (.move (tq 5) false),
   oo 4 (.move (tq 19) false)])
 (.seq (.mask (bl 16 20) (bl 786135 20))
 .ret))
 .skip)))
 (.reg [oo 10 (.move (tq 5) false),
   oo 11 (.bin .add (tq 10) (.const (.sc (.int .i64 1)))),
   oo 5 (.move (tq 11) false)])))
def zl2:CC:=(.seq (.reg [oo 4 (.move (.const (.sc (.int .i64 (-1)))) false)])
 .ret)
def zer:CF:=zcY
def zbf:Nat→Sh:=zP []
def zbe (yg:zM) (L:Nat):CBC:=(zw 303 (zj4 yg L) noC)
def zgm:St→St:=zae 1 (bl 41 20) (bl 786159 20)
def zes (p0l:Nat) (p5:Int) (b0 b4:List V):St:=⟨((V.own 0 0 p0l 5)::(jn 2 ((V.ptr 4 0)::(jn 1 ((V.sc (.int .i64 p5))::(jn 14 [])))))),((.live true b0)::(gn 3 ((.live true b4)::(gn 16 []))))⟩
def ziM (p4:Int) (b0:List V):St:=⟨(jn 4 ((V.sc (.int .i64 p4))::(jn 15 []))),((.live true b0)::(gn 20 []))⟩
def zj7 (b0:List V):St:=⟨(jn 20 []),((.live true b0)::(gn 20 []))⟩
def zoG {β:Type} (yg:zM) (L:Nat) (p0l:Nat) (p1 b0:List V) (k_hbaba:Nat→Int→List V→List V→Option β):Option β :=
 k_hbaba p0l (0:Int) b0 p1
theorem zyi {β:Type} (yg:zM) (L:Nat) (p0l:Nat) (p1 b0:List V) (k:KK β):zt zbf (zbe yg L) L zer [(V.own 0 0 p0l 5),(V.agg p1)] [(.live true b0)] k=zoG yg L p0l p1 b0 (fun p0l p5 b0 b4=>yE (yo zbf (zbe yg L) 1 L zfJ) zgm L (zes p0l p5 b0 b4) (xG 0 (yU (yo zbf (zbe yg L) 1 L zl2) (xZ 1 (CF.res zer) k)))):=by kernel_rfl
def zjO {β:Type} (yg:zM) (L:Nat) (p0l:Nat) (p5:Int) (b0 b4:List V) (k_ret:Int→List V→Option β) (k_hbaba:Nat→Int→List V→List V→Option β) (k_x0:List V→Option β):Option β :=
 ifb (decide (p5 < ((p0l:Nat):Int))) (
 chk (0≤p5∧p5 < ((p0l:Nat):Int)) (
 chk (((0+((Int.toNat p5) * 5))+1)+3≤(List.length b0)) (
 chk (0+3≤(List.length b4)) (
 yg β L (List.take 3 (List.drop ((0+((Int.toNat p5) * 5))+1) b0)) (List.take 3 b4) (fun v0 =>
 ifb v0 (
 k_ret p5 b0) (
 lt (IntKind.wrap .i64 ((p5:Int)+(1:Int))) fun x1 =>
 k_hbaba p0l x1 b0 b4)))))) (
 k_x0 b0)
theorem zt1 {β:Type} (yg:zM) (L:Nat) (p0l:Nat) (p5:Int) (b0 b4:List V) (X:St→Option β) (K:KT β):yo zbf (zbe yg L) 1 L zfJ (zes p0l p5 b0 b4) (zcr zgm X K)=zjO yg L p0l p5 b0 b4 (fun p4 b0=>K .ret (ziM p4 b0)) (fun p0l p5 b0 b4=>X (zes p0l p5 b0 b4)) (fun b0=>K (.exit 0) (zj7 b0)):=by kernel_rfl
def zmp {β:Type} (yg:zM) (L:Nat) (p4:Int) (b0:List V) (k_fin:Int→List V→Option β):Option β :=
 k_fin p4 b0
theorem zrh {β:Type} (yg:zM) (L:Nat) (p4:Int) (b0:List V) (k:KK β):(xG 0 (yU (yo zbf (zbe yg L) 1 L zl2) (xZ 1 (CF.res zer) k))) .ret (ziM p4 b0)=zmp yg L p4 b0 (fun p0 b0=>k (V.sc (.int .i64 p0)) [(.live true b0)]):=by kernel_rfl
def znv {β:Type} (yg:zM) (L:Nat) (b0:List V) (k_fin:Int→List V→Option β):Option β :=
 k_fin (-1:Int) b0
theorem zsb {β:Type} (yg:zM) (L:Nat) (b0:List V) (k:KK β):(xG 0 (yU (yo zbf (zbe yg L) 1 L zl2) (xZ 1 (CF.res zer) k))) (.exit 0) (zj7 b0)=znv yg L b0 (fun p0 b0=>k (V.sc (.int .i64 p0)) [(.live true b0)]):=by kernel_rfl
def zej {β:Type} (yg:zM) (L:Nat) (k_ret:Int→List V→Option β) (k_x0:List V→Option β):Nat→Nat→Int→List V→List V→Option β
 | 0,_,_,_,_=>none
 | n+1,p0l,p5,b0,b4=>zjO yg L p0l p5 b0 b4 k_ret (fun p0l p5 b0 b4=>zej yg L k_ret k_x0 n p0l p5 b0 b4) k_x0
theorem zmx {β:Type} (yg:zM) (L:Nat) (K:KT β):∀ (n:Nat) (p0l:Nat) (p5:Int) (b0 b4:List V),yE (yo zbf (zbe yg L) 1 L zfJ) zgm n (zes p0l p5 b0 b4) K=zej yg L (fun p4 b0=>K .ret (ziM p4 b0)) (fun b0=>K (.exit 0) (zj7 b0)) n p0l p5 b0 b4:=by
 intro n
 induction n with
 | zero=>intros; rfl
 | succ n ih =>
  intro p0l p5 b0 b4
  refine (zt1 yg L p0l p5 b0 b4 (fun σ=>yE (yo zbf (zbe yg L) 1 L zfJ) zgm n σ K) K).trans ?_
  simp only [ih]
  rfl
def zkH {β:Type} (yg:zM) (L:Nat) (p0l:Nat) (p1 b0:List V) (k_fin:Int→List V→Option β):Option β :=
 zoG yg L p0l p1 b0 (fun p0l p5 b0 b4=>zej yg L (fun p4 b0=>zmp yg L p4 b0 k_fin) (fun b0=>znv yg L b0 k_fin) L p0l p5 b0 b4)
theorem zyv {β:Type} (yg:zM) (L:Nat) (p0l:Nat) (p1 b0:List V) (k:KK β):zt zbf (zbe yg L) L zer [(V.own 0 0 p0l 5),(V.agg p1)] [(.live true b0)] k=zkH yg L p0l p1 b0 (fun p0 b0=>k (V.sc (.int .i64 p0)) [(.live true b0)]):=by
 refine (zyi yg L p0l p1 b0 k).trans ?_
 unfold zkH
 first
  | (simp only [zmx,zrh,zsb]; done)
  | (simp only [zmx]; rfl)
abbrev zY:=∀ (β:Type),Nat→Nat→List V→List V→(Int→List V→Option β)→Option β
def yh (β:Type) (L:Nat) (p0l:Nat) (p1 b0:List V) (k_fin:Int→List V→Option β):Option β:=zkH yg L p0l p1 b0 k_fin
def zkt (yh:zY) (L:Nat) (β:Type) (args:List V) (bor:Bor) (k:KK β):Option β:=match args,bor with
 | [a0,a1],[(.live true b0)]=>aO0 0 5 a0 fun p0l=>aG a1 fun p1=>yh β L p0l p1 b0 (fun p0 b0=>k (V.sc (.int .i64 p0)) [(.live true b0)])
 | _,_=>none
theorem zyc (L:Nat) (β:Type) (args:List V) (bor:Bor) (k:KK β) (r:β) (h:zkt yh L β args bor k=some r):zt zbf (zbe yg L) L zer args bor k=some r:=by
 unfold zkt at h
 split at h
 ·have q:=zIZ h; clear h; obtain ⟨p0l,rfl,h⟩:=q
  have q:=xY h; clear h; obtain ⟨p1,rfl,h⟩:=q
  exact (zyv yg L p0l p1 _ k).trans h
 ·cases h
end
end Go.Proofs.Ytpafdnidhnldhaa
