/- Part 9 of the proof of ConnectSpreads: an abstract machine over plain values, its soundness, and the functions of the program on plain values. -/
import Derived.Test.YtpafdnidhnldhaaMConnectSpreads8
namespace Go.Proofs.Ytpafdnidhnldhaa
section
set_option maxRecDepth 100000
set_option linter.unusedVariables false
set_option linter.unusedSimpArgs false
def zcl:CC:=(.seq (.reg [oo 34 (.bin .lss (tq 33) (tq 32))])
 (.seq (.cond (tq 34)
 .skip
 (.seq (.mask (bl 284 72) (bl 4722366482319889397247 72))
 (.exit 0)))
 (.seq (.block 1 (.seq (.reg [oo 35 (.indexAddrS 3 (tq 31) (tq 33)),
   oo 36 (.load true 3 (tq 35) false),
   oo 11 (.alloc true [(.sc (.int .u32 0)),(.sc (.int .u16 0)),(.sc (.int .u32 0))]),
   oz (.store 3 (tq 11) (tq 36))])
 (.seq (.reg [oo 37 (.move (tq 2) false),
   oo 38 (.load true 3 (tq 11) false),
   oo 39 (.call 278 [((tq 37),0),((tq 38),0)] []),
   oo 40 (.un .not (tq 39))])
 (.cond (tq 40)
 (.seq (.reg [oo 41 (.load true 3 (tq 11) false),
   oo 42 (.build [(.sc (.int .i64 0)),(.sc (.int .u32 0)),(.sc (.int .u16 0)),(.sc (.int .u32 0))] [(0,1,(.const (.sc (.int .i64 1)))),(1,3,(tq 41))]),
   oz (.store 4 (tq 8) (tq 42)),
   oo 9 (.move (.const (.sc (.int .i64 0))) false)])
 (.seq (.mask (bl 768 72) (bl 4722366482319889397743 72))
 .ret))
 .skip))))
 (.reg [oo 43 (.bin .add (tq 33) (.const (.sc (.int .i64 1)))),
   oo 33 (.move (tq 43) false)]))))
def zfr:CC:=(.seq (.reg [oo 12 (.move (.const (.sc (.int .i64 2))) false)])
 (.seq (.reg [oo 44 (.move (tq 2) false),
   oo 45 (.call 276 [((tq 44),0),((.const (.fn 279 [])),0)] []),
   oo 13 (.move (tq 45) false)])
 (.seq (.seq (.reg [oo 46 (.move (tq 2) false),
   oo 47 (.lenS (tq 46)),
   oo 48 (.move (tq 13) false),
   oo 49 (.bin .sub (tq 47) (tq 48)),
   oo 50 (.bin .geq (tq 49) (.const (.sc (.int .i64 7))))])
 (.cond (tq 50)
 (.seq (.reg [oo 12 (.move (.const (.sc (.int .i64 3))) false)])
 (.seq (.reg [oo 51 (.move (tq 13) false),
   oo 52 (.bin .gtr (tq 51) (.const (.sc (.int .i64 0))))])
 (.cond (tq 52)
 (.seq (.reg [oo 53 (.build [(.sc (.int .i64 0)),(.sc (.int .u32 0)),(.sc (.int .u16 0)),(.sc (.int .u32 0))] []),
   oz (.store 4 (tq 8) (tq 53)),
   oo 9 (.move (.const (.sc (.int .i64 380))) false)])
 .ret)
 .skip)))
 .skip))
 (.seq (.reg [oo 54 (.load true 34 (tq 4) false),
   oo 55 (.move (tq 2) false),
   oo 56 (.move (tq 12) false),
   oo 57 (.call 266 [((tq 54),1),((tq 55),0),((tq 56),0)] []),
   oo 14 (.move (tq 57) false)])
 (.seq (.seq (.reg [oo 58 (.move (tq 14) false),
   oo 59 (.lenS (tq 58)),
   oo 60 (.bin .eql (tq 59) (.const (.sc (.int .i64 0))))])
 (.cond (tq 60)
 (.seq (.reg [oo 61 (.build [(.sc (.int .i64 0)),(.sc (.int .u32 0)),(.sc (.int .u16 0)),(.sc (.int .u32 0))] []),
   oz (.store 4 (tq 8) (tq 61)),
   oo 9 (.move (.const (.sc (.int .i64 390))) false)])
 .ret)
 .skip))
 (.seq (.reg [oo 62 (.move (tq 12) false),
   oo 63 (.move (tq 14) false),
   oo 64 (.move (tq 3) false),
   oo 65 (.move (tq 14) false),
   oo 66 (.lenS (tq 65)),
   oo 67 (.conv .u64 (tq 66)),
   oo 68 (.bin .rem (tq 64) (tq 67)),
   oo 69 (.indexAddrS 3 (tq 63) (tq 68)),
   oo 70 (.load true 3 (tq 69) false),
   oo 71 (.build [(.sc (.int .i64 0)),(.sc (.int .u32 0)),(.sc (.int .u16 0)),(.sc (.int .u32 0))] [(0,1,(tq 62)),(1,3,(tq 70))]),
   oz (.store 4 (tq 8) (tq 71)),
   oo 9 (.move (.const (.sc (.int .i64 0))) false)])
 .ret))))))
def zck:CF:=⟨72,[.cell 8 true 4,.tmp 9],
 (.seq (.reg [oo 4 (.box true (tq 0)),
   oo 8 (.alloc true [(.sc (.int .i64 0)),(.sc (.int .u32 0)),(.sc (.int .u16 0)),(.sc (.int .u32 0))]),
   oo 9 (.move (.const (.sc (.int .i64 0))) false)])
 (.seq (.seq (.reg [oo 15 (.move (tq 2) false),
   oo 16 (.call 270 [((tq 15),0)] []),
   oo 17 (.un .not (tq 16)),
   oo 18 (.move (tq 17) false),
   ⟨(some 19),false,(some (18,false)),.load true 34 (tq 4) false⟩,
   ⟨(some 20),false,(some (18,false)),.call 275 [((tq 19),1)] []⟩,
   ⟨(some 21),false,(some (18,false)),.un .not (tq 20)⟩,
   oo 22 (.pick (tq 18) (.const (.sc (.bool true))) (tq 21))])
 (.cond (tq 22)
 (.seq (.reg [oo 23 (.build [(.sc (.int .i64 0)),(.sc (.int .u32 0)),(.sc (.int .u16 0)),(.sc (.int .u32 0))] []),
   oz (.store 4 (tq 8) (tq 23)),
   oo 9 (.move (.const (.sc (.int .i64 6))) false)])
 .ret)
 .skip))
 (.seq (.seq (.reg [oo 24 (.move (tq 2) false),
   oo 25 (.lenS (tq 24)),
   oo 26 (.bin .geq (tq 25) (.const (.sc (.int .i64 8))))])
 (.cond (tq 26)
 (.seq (.reg [oo 27 (.build [(.sc (.int .i64 0)),(.sc (.int .u32 0)),(.sc (.int .u16 0)),(.sc (.int .u32 0))] []),
   oz (.store 4 (tq 8) (tq 27)),
   oo 9 (.move (.const (.sc (.int .i64 380))) false)])
 .ret)
 .skip))
 (.seq (.seq (.reg [oo 28 (.move (tq 2) false),
   oo 29 (.call 276 [((tq 28),0),((.const (.fn 277 [])),0)] []),
   oo 30 (.bin .lss (tq 29) (.const (.sc (.int .i64 2))))])
 (.cond (tq 30)
 (.seq (.reg [oo 31 (.move (tq 1) false),
   oo 32 (.lenS (tq 31)),
   oo 33 (.move (.const (.sc (.int .i64 0))) false)])
 (.block 0 (.loop (bl 15032385820 72) (bl 4722366482319889397247 72)
 zcl)))
 .skip))
 zfr))))⟩
def zov:Hint:=⟨[(0,0)],[],[none,none,none,none,none,none,some ((bl 15032385820 72),(bl 4722366482319889397247 72)),none,some ((bl 284 72),(bl 4722366482319889397247 72)),none,none,some ((bl 768 72),(bl 4722366482319889397743 72)),none,none,none,none,none,none],[],[],false,false⟩
def zaQ:Nat→Sh:=xP []
def zaP (xb:yu) (yl:zah) (zn:zaw) (zk:z8) (yb:yn) (xa:xq) (L:Nat):CBC:=(zx 278 (zdj xa L) (zx 266 (zcG yb L) (zB4 276 [6,379] (zhq zk L) (zB4 276 [6,377] (zjt zn L) (zx 275 (zih yl L) (zx 270 (zeM xb L) noC))))))
def zdP:St→St:=zaj 0 (bl 15032385820 72) (bl 4722366482319889397247 72)
def zcX (p2:List (List V)) (p3:Int) (p31:List (List V)) (p32 p33:Int) (b4:List V) (zK1 zK2 zK3 zK4:Int):St:=⟨(jn 2 ((V.sl 4 p2)::((V.sc (.int .u64 p3))::((V.ptr 4 0)::(jn 3 ((V.ptr 8 0)::(jn 22 ((V.sl 3 p31)::((V.sc (.int .i64 p32))::((V.sc (.int .i64 p33))::(jn 38 []))))))))))),(gn 4 ((.live true b4)::(gn 3 ((.live true [(V.sc (.int .i64 zK1)),(V.sc (.int .u32 zK2)),(V.sc (.int .u16 zK3)),(V.sc (.int .u32 zK4))])::(gn 63 [])))))⟩
def zhr (p9:Int) (b8:List V):St:=⟨(jn 8 ((V.ptr 8 0)::((V.sc (.int .i64 p9))::(jn 62 [])))),(gn 8 ((.live true b8)::(gn 63 [])))⟩
def zig (p2:List (List V)) (p3:Int) (b4:List V) (zK1 zK2 zK3 zK4:Int):St:=⟨(jn 2 ((V.sl 4 p2)::((V.sc (.int .u64 p3))::((V.ptr 4 0)::(jn 3 ((V.ptr 8 0)::(jn 63 []))))))),(gn 4 ((.live true b4)::(gn 3 ((.live true [(V.sc (.int .i64 zK1)),(V.sc (.int .u32 zK2)),(V.sc (.int .u16 zK3)),(V.sc (.int .u32 zK4))])::(gn 63 [])))))⟩
abbrev zjE (β:Type):Type:=List (List V)→Int→List (List V)→Int→Int→List V→Int→Int→Int→Int→Option β
abbrev zjU (β:Type):Type:=List (List V)→Int→List V→Int→Int→Int→Int→Option β
def zmm {β:Type} (xb:yu) (yl:zah) (zn:zaw) (zk:z8) (yb:yn) (xa:xq) (L:Nat) (p0:List V) (p1 p2:List (List V)) (p3:Int) (k_fin:List V→Int→Option β) (k_hbbbababa:zjE β):Option β :=
 xb β L p2 (fun v0 =>
 ifb (!v0) (
 lt [(V.sc (.int .i64 (0:Int))),(V.sc (.int .u32 (0:Int))),(V.sc (.int .u16 (0:Int))),(V.sc (.int .u32 (0:Int)))] fun r1 =>
 chk (0=0∧(List.length r1)=4∧4≠0) (
 k_fin r1 (6:Int))) (
 chk (0+34≤(List.length p0)) (
 yl β L (List.map V.dem (List.take 34 p0)) (fun v2 =>
 ifb (!v2) (
 lt [(V.sc (.int .i64 (0:Int))),(V.sc (.int .u32 (0:Int))),(V.sc (.int .u16 (0:Int))),(V.sc (.int .u32 (0:Int)))] fun r3 =>
 chk (0=0∧(List.length r3)=4∧4≠0) (
 k_fin r3 (6:Int))) (
 ifb (decide (((List.length p2:Nat):Int) ≥ (8:Int))) (
 lt [(V.sc (.int .i64 (0:Int))),(V.sc (.int .u32 (0:Int))),(V.sc (.int .u16 (0:Int))),(V.sc (.int .u32 (0:Int)))] fun r4 =>
 chk (0=0∧(List.length r4)=4∧4≠0) (
 k_fin r4 (380:Int))) (
 zn β L p2 (fun v5 =>
 ifb (decide (v5 < (2:Int))) (
 k_hbbbababa p2 p3 p1 ((List.length p1:Nat):Int) (0:Int) p0 (0:Int) (0:Int) (0:Int) (0:Int)) (
 zk β L p2 (fun v6 =>
 lt (IntKind.wrap .i64 ((((List.length p2:Nat):Int):Int) - v6)) fun x7 =>
 ifb (decide (x7 ≥ (7:Int))) (
 ifb (decide (v6 > (0:Int))) (
 lt [(V.sc (.int .i64 (0:Int))),(V.sc (.int .u32 (0:Int))),(V.sc (.int .u16 (0:Int))),(V.sc (.int .u32 (0:Int)))] fun r8 =>
 chk (0=0∧(List.length r8)=4∧4≠0) (
 k_fin r8 (380:Int))) (
 chk (0+34≤(List.length p0)) (
 yb β L (List.map V.dem (List.take 34 p0)) p2 (3:Int) (fun v9 =>
 ifb ((((List.length v9:Nat):Int):Int) == (0:Int)) (
 lt [(V.sc (.int .i64 (0:Int))),(V.sc (.int .u32 (0:Int))),(V.sc (.int .u16 (0:Int))),(V.sc (.int .u32 (0:Int)))] fun r10 =>
 chk (0=0∧(List.length r10)=4∧4≠0) (
 k_fin r10 (390:Int))) (
 lt (IntKind.wrap .u64 ((List.length v9:Nat):Int)) fun x11 =>
 chk (x11≠0) (
 lt (Int.tmod p3 x11) fun x12 =>
 idx v9 x12 fun c13 =>
 chk ((List.length (List.take 3 c13))=3∧1+3≤4) (
 chk ((List.length (zh [(V.sc (.int .i64 (3:Int))),(V.sc (.int .u32 (0:Int))),(V.sc (.int .u16 (0:Int))),(V.sc (.int .u32 (0:Int)))] 1 (List.take 3 c13)))=4∧0+4≤4) (
 lt (zh [(V.sc (.int .i64 (0:Int))),(V.sc (.int .u32 (0:Int))),(V.sc (.int .u16 (0:Int))),(V.sc (.int .u32 (0:Int)))] 0 (zh [(V.sc (.int .i64 (3:Int))),(V.sc (.int .u32 (0:Int))),(V.sc (.int .u16 (0:Int))),(V.sc (.int .u32 (0:Int)))] 1 (List.take 3 c13))) fun r14 =>
 chk (0=0∧(List.length r14)=4∧4≠0) (
 k_fin r14 (0:Int)))))))))) (
 chk (0+34≤(List.length p0)) (
 yb β L (List.map V.dem (List.take 34 p0)) p2 (2:Int) (fun v15 =>
 ifb ((((List.length v15:Nat):Int):Int) == (0:Int)) (
 lt [(V.sc (.int .i64 (0:Int))),(V.sc (.int .u32 (0:Int))),(V.sc (.int .u16 (0:Int))),(V.sc (.int .u32 (0:Int)))] fun r16 =>
 chk (0=0∧(List.length r16)=4∧4≠0) (
 k_fin r16 (390:Int))) (
 lt (IntKind.wrap .u64 ((List.length v15:Nat):Int)) fun x17 =>
 chk (x17≠0) (
 lt (Int.tmod p3 x17) fun x18 =>
 idx v15 x18 fun c19 =>
 chk ((List.length (List.take 3 c19))=3∧1+3≤4) (
 chk ((List.length (zh [(V.sc (.int .i64 (2:Int))),(V.sc (.int .u32 (0:Int))),(V.sc (.int .u16 (0:Int))),(V.sc (.int .u32 (0:Int)))] 1 (List.take 3 c19)))=4∧0+4≤4) (
 lt (zh [(V.sc (.int .i64 (0:Int))),(V.sc (.int .u32 (0:Int))),(V.sc (.int .u16 (0:Int))),(V.sc (.int .u32 (0:Int)))] 0 (zh [(V.sc (.int .i64 (2:Int))),(V.sc (.int .u32 (0:Int))),(V.sc (.int .u16 (0:Int))),(V.sc (.int .u32 (0:Int)))] 1 (List.take 3 c19))) fun r20 =>
 chk (0=0∧(List.length r20)=4∧4≠0) (
 k_fin r20 (0:Int))))))))))))))))))
theorem zwi {β:Type} (xb:yu) (yl:zah) (zn:zaw) (zk:z8) (yb:yn) (xa:xq) (L:Nat) (p0:List V) (p1 p2:List (List V)) (p3:Int) (k:KK β):xt zaQ (zaP xb yl zn zk yb xa L) L zck [(V.agg p0),(V.sl 3 p1),(V.sl 4 p2),(V.sc (.int .u64 p3))] [] k=zmm xb yl zn zk yb xa L p0 p1 p2 p3 (fun zMc zMd=>k (V.tup [(V.agg zMc),(V.sc (.int .i64 zMd))]) []) (fun p2 p3 p31 p32 p33 b4 zK1 zK2 zK3 zK4=>yF (xm zaQ (zaP xb yl zn zk yb xa L) 0 L zcl) zdP L (zcX p2 p3 p31 p32 p33 b4 zK1 zK2 zK3 zK4) (xE 0 (xR (xm zaQ (zaP xb yl zn zk yb xa L) 0 L zfr) (y5 0 (CF.res zck) k)))):=by kernel_rfl
def zfI {β:Type} (xb:yu) (yl:zah) (zn:zaw) (zk:z8) (yb:yn) (xa:xq) (L:Nat) (p2:List (List V)) (p3:Int) (p31:List (List V)) (p32 p33:Int) (b4:List V) (zK1 zK2 zK3 zK4:Int) (k_ret:Int→List V→Option β) (k_hbbbababa:zjE β) (k_x0:zjU β):Option β :=
 ifb (decide (p33 < p32)) (
 idx p31 p33 fun c21 =>
 chk ((List.length (List.take 3 c21))=3∧0+3≤3) (
 lt (zh [(V.sc (.int .u32 (0:Int))),(V.sc (.int .u16 (0:Int))),(V.sc (.int .u32 (0:Int)))] 0 (List.take 3 c21)) fun r22 =>
 chk (0+3≤(List.length r22)) (
 xa β L p2 (List.take 3 r22) (fun v23 =>
 ifb (!v23) (
 chk (0+3≤(List.length r22)) (
 chk ((List.length (List.take 3 r22))=3∧1+3≤4) (
 chk ((List.length (zh [(V.sc (.int .i64 (1:Int))),(V.sc (.int .u32 (0:Int))),(V.sc (.int .u16 (0:Int))),(V.sc (.int .u32 (0:Int)))] 1 (List.take 3 r22)))=4∧0+4≤4) (
 lt (zh [(V.sc (.int .i64 zK1)),(V.sc (.int .u32 zK2)),(V.sc (.int .u16 zK3)),(V.sc (.int .u32 zK4))] 0 (zh [(V.sc (.int .i64 (1:Int))),(V.sc (.int .u32 (0:Int))),(V.sc (.int .u16 (0:Int))),(V.sc (.int .u32 (0:Int)))] 1 (List.take 3 r22))) fun r24 =>
 k_ret (0:Int) r24)))) (
 lt (IntKind.wrap .i64 ((p33:Int)+(1:Int))) fun x25 =>
 k_hbbbababa p2 p3 p31 p32 x25 b4 zK1 zK2 zK3 zK4))))) (
 k_x0 p2 p3 b4 zK1 zK2 zK3 zK4)
theorem zpr {β:Type} (xb:yu) (yl:zah) (zn:zaw) (zk:z8) (yb:yn) (xa:xq) (L:Nat) (p2:List (List V)) (p3:Int) (p31:List (List V)) (p32 p33:Int) (b4:List V) (zK1 zK2 zK3 zK4:Int) (X:St→Option β) (K:KT β):xm zaQ (zaP xb yl zn zk yb xa L) 0 L zcl (zcX p2 p3 p31 p32 p33 b4 zK1 zK2 zK3 zK4) (zbR zdP X K)=zfI xb yl zn zk yb xa L p2 p3 p31 p32 p33 b4 zK1 zK2 zK3 zK4 (fun p9 b8=>K .ret (zhr p9 b8)) (fun p2 p3 p31 p32 p33 b4 zK1 zK2 zK3 zK4=>X (zcX p2 p3 p31 p32 p33 b4 zK1 zK2 zK3 zK4)) (fun p2 p3 b4 zK1 zK2 zK3 zK4=>K (.exit 0) (zig p2 p3 b4 zK1 zK2 zK3 zK4)):=by kernel_rfl
def zez {β:Type} (xb:yu) (yl:zah) (zn:zaw) (zk:z8) (yb:yn) (xa:xq) (L:Nat) (p9:Int) (b8:List V) (k_fin:List V→Int→Option β):Option β :=
 chk (0=0∧(List.length b8)=4∧4≠0) (
 k_fin b8 p9)
theorem zn4 {β:Type} (xb:yu) (yl:zah) (zn:zaw) (zk:z8) (yb:yn) (xa:xq) (L:Nat) (p9:Int) (b8:List V) (k:KK β):(xE 0 (xR (xm zaQ (zaP xb yl zn zk yb xa L) 0 L zfr) (y5 0 (CF.res zck) k))) .ret (zhr p9 b8)=zez xb yl zn zk yb xa L p9 b8 (fun zMc zMd=>k (V.tup [(V.agg zMc),(V.sc (.int .i64 zMd))]) []):=by kernel_rfl
def zce {β:Type} (xb:yu) (yl:zah) (zn:zaw) (zk:z8) (yb:yn) (xa:xq) (L:Nat) (p2:List (List V)) (p3:Int) (b4:List V) (zK1 zK2 zK3 zK4:Int) (k_fin:List V→Int→Option β):Option β :=
 zk β L p2 (fun v26 =>
 lt (IntKind.wrap .i64 ((((List.length p2:Nat):Int):Int) - v26)) fun x27 =>
 ifb (decide (x27 ≥ (7:Int))) (
 ifb (decide (v26 > (0:Int))) (
 lt [(V.sc (.int .i64 (0:Int))),(V.sc (.int .u32 (0:Int))),(V.sc (.int .u16 (0:Int))),(V.sc (.int .u32 (0:Int)))] fun r28 =>
 chk (0=0∧(List.length r28)=4∧4≠0) (
 k_fin r28 (380:Int))) (
 chk (0+34≤(List.length b4)) (
 yb β L (List.map V.dem (List.take 34 b4)) p2 (3:Int) (fun v29 =>
 ifb ((((List.length v29:Nat):Int):Int) == (0:Int)) (
 lt [(V.sc (.int .i64 (0:Int))),(V.sc (.int .u32 (0:Int))),(V.sc (.int .u16 (0:Int))),(V.sc (.int .u32 (0:Int)))] fun r30 =>
 chk (0=0∧(List.length r30)=4∧4≠0) (
 k_fin r30 (390:Int))) (
 lt (IntKind.wrap .u64 ((List.length v29:Nat):Int)) fun x31 =>
 chk (x31≠0) (
 lt (Int.tmod p3 x31) fun x32 =>
 idx v29 x32 fun c33 =>
 chk ((List.length (List.take 3 c33))=3∧1+3≤4) (
 chk ((List.length (zh [(V.sc (.int .i64 (3:Int))),(V.sc (.int .u32 (0:Int))),(V.sc (.int .u16 (0:Int))),(V.sc (.int .u32 (0:Int)))] 1 (List.take 3 c33)))=4∧0+4≤4) (
 lt (zh [(V.sc (.int .i64 zK1)),(V.sc (.int .u32 zK2)),(V.sc (.int .u16 zK3)),(V.sc (.int .u32 zK4))] 0 (zh [(V.sc (.int .i64 (3:Int))),(V.sc (.int .u32 (0:Int))),(V.sc (.int .u16 (0:Int))),(V.sc (.int .u32 (0:Int)))] 1 (List.take 3 c33))) fun r34 =>
 chk (0=0∧(List.length r34)=4∧4≠0) (
 k_fin r34 (0:Int)))))))))) (
 chk (0+34≤(List.length b4)) (
 yb β L (List.map V.dem (List.take 34 b4)) p2 (2:Int) (fun v35 =>
 ifb ((((List.length v35:Nat):Int):Int) == (0:Int)) (
 lt [(V.sc (.int .i64 (0:Int))),(V.sc (.int .u32 (0:Int))),(V.sc (.int .u16 (0:Int))),(V.sc (.int .u32 (0:Int)))] fun r36 =>
 chk (0=0∧(List.length r36)=4∧4≠0) (
 k_fin r36 (390:Int))) (
 lt (IntKind.wrap .u64 ((List.length v35:Nat):Int)) fun x37 =>
 chk (x37≠0) (
 lt (Int.tmod p3 x37) fun x38 =>
 idx v35 x38 fun c39 =>
 chk ((List.length (List.take 3 c39))=3∧1+3≤4) (
 chk ((List.length (zh [(V.sc (.int .i64 (2:Int))),(V.sc (.int .u32 (0:Int))),(V.sc (.int .u16 (0:Int))),(V.sc (.int .u32 (0:Int)))] 1 (List.take 3 c39)))=4∧0+4≤4) (
 lt (zh [(V.sc (.int .i64 zK1)),(V.sc (.int .u32 zK2)),(V.sc (.int .u16 zK3)),(V.sc (.int .u32 zK4))] 0 (zh [(V.sc (.int .i64 (2:Int))),(V.sc (.int .u32 (0:Int))),(V.sc (.int .u16 (0:Int))),(V.sc (.int .u32 (0:Int)))] 1 (List.take 3 c39))) fun r40 =>
 chk (0=0∧(List.length r40)=4∧4≠0) (
 k_fin r40 (0:Int))))))))))
theorem zod {β:Type} (xb:yu) (yl:zah) (zn:zaw) (zk:z8) (yb:yn) (xa:xq) (L:Nat) (p2:List (List V)) (p3:Int) (b4:List V) (zK1 zK2 zK3 zK4:Int) (k:KK β):(xE 0 (xR (xm zaQ (zaP xb yl zn zk yb xa L) 0 L zfr) (y5 0 (CF.res zck) k))) (.exit 0) (zig p2 p3 b4 zK1 zK2 zK3 zK4)=zce xb yl zn zk yb xa L p2 p3 b4 zK1 zK2 zK3 zK4 (fun zMc zMd=>k (V.tup [(V.agg zMc),(V.sc (.int .i64 zMd))]) []):=by kernel_rfl
def zct {β:Type} (xb:yu) (yl:zah) (zn:zaw) (zk:z8) (yb:yn) (xa:xq) (L:Nat) (k_ret:Int→List V→Option β) (k_x0:zjU β):Nat→List (List V)→Int→List (List V)→Int→Int→List V→Int→Int→Int→Int→Option β
 | 0,_,_,_,_,_,_,_,_,_,_=>none
 | n+1,p2,p3,p31,p32,p33,b4,zK1,zK2,zK3,zK4=>zfI xb yl zn zk yb xa L p2 p3 p31 p32 p33 b4 zK1 zK2 zK3 zK4 k_ret (fun p2 p3 p31 p32 p33 b4 zK1 zK2 zK3 zK4=>zct xb yl zn zk yb xa L k_ret k_x0 n p2 p3 p31 p32 p33 b4 zK1 zK2 zK3 zK4) k_x0
theorem zhW {β:Type} (xb:yu) (yl:zah) (zn:zaw) (zk:z8) (yb:yn) (xa:xq) (L:Nat) (K:KT β):∀ (n:Nat) (p2:List (List V)) (p3:Int) (p31:List (List V)) (p32 p33:Int) (b4:List V) (zK1 zK2 zK3 zK4:Int),yF (xm zaQ (zaP xb yl zn zk yb xa L) 0 L zcl) zdP n (zcX p2 p3 p31 p32 p33 b4 zK1 zK2 zK3 zK4) K=zct xb yl zn zk yb xa L (fun p9 b8=>K .ret (zhr p9 b8)) (fun p2 p3 b4 zK1 zK2 zK3 zK4=>K (.exit 0) (zig p2 p3 b4 zK1 zK2 zK3 zK4)) n p2 p3 p31 p32 p33 b4 zK1 zK2 zK3 zK4:=by
 intro n
 induction n with
 | zero=>intros; rfl
 | succ n ih =>
  intro p2 p3 p31 p32 p33 b4 zK1 zK2 zK3 zK4
  refine (zpr xb yl zn zk yb xa L p2 p3 p31 p32 p33 b4 zK1 zK2 zK3 zK4 (fun σ=>yF (xm zaQ (zaP xb yl zn zk yb xa L) 0 L zcl) zdP n σ K) K).trans ?_
  simp only [ih]
  rfl
def zh5 {β:Type} (xb:yu) (yl:zah) (zn:zaw) (zk:z8) (yb:yn) (xa:xq) (L:Nat) (p0:List V) (p1 p2:List (List V)) (p3:Int) (k_fin:List V→Int→Option β):Option β :=
 zmm xb yl zn zk yb xa L p0 p1 p2 p3 k_fin (fun p2 p3 p31 p32 p33 b4 zK1 zK2 zK3 zK4=>zct xb yl zn zk yb xa L (fun p9 b8=>zez xb yl zn zk yb xa L p9 b8 k_fin) (fun p2 p3 b4 zK1 zK2 zK3 zK4=>zce xb yl zn zk yb xa L p2 p3 b4 zK1 zK2 zK3 zK4 k_fin) L p2 p3 p31 p32 p33 b4 zK1 zK2 zK3 zK4)
theorem zv6 {β:Type} (xb:yu) (yl:zah) (zn:zaw) (zk:z8) (yb:yn) (xa:xq) (L:Nat) (p0:List V) (p1 p2:List (List V)) (p3:Int) (k:KK β):xt zaQ (zaP xb yl zn zk yb xa L) L zck [(V.agg p0),(V.sl 3 p1),(V.sl 4 p2),(V.sc (.int .u64 p3))] [] k=zh5 xb yl zn zk yb xa L p0 p1 p2 p3 (fun zMc zMd=>k (V.tup [(V.agg zMc),(V.sc (.int .i64 zMd))]) []):=by
 refine (zwi xb yl zn zk yb xa L p0 p1 p2 p3 k).trans ?_
 unfold zh5
 first
  | (simp only [zhW,zn4,zod]; done)
  | (simp only [zhW]; rfl)
abbrev zs:=∀ (β:Type),Nat→List V→List (List V)→List (List V)→Int→(List V→Int→Option β)→Option β
def yc (β:Type) (L:Nat) (p0:List V) (p1 p2:List (List V)) (p3:Int) (k_fin:List V→Int→Option β):Option β:=zh5 xb yl zn zk yb xa L p0 p1 p2 p3 k_fin
def zdl (yc:zs) (L:Nat) (β:Type) (args:List V) (bor:Bor) (k:KK β):Option β:=match args,bor with
 | [a0,a1,a2,a3],[]=>aG a0 fun p0=>aL 3 a1 fun p1=>aL 4 a2 fun p2=>aI .u64 a3 fun p3=>yc β L p0 p1 p2 p3 (fun zMc zMd=>k (V.tup [(V.agg zMc),(V.sc (.int .i64 zMd))]) [])
 | _,_=>none
theorem zv7 (L:Nat) (β:Type) (args:List V) (bor:Bor) (k:KK β) (r:β) (h:zdl yc L β args bor k=some r):xt zaQ (zaP xb yl zn zk yb xa L) L zck args bor k=some r:=by
 unfold zdl at h
 split at h
 ·have q:=xZ h; clear h; obtain ⟨p0,rfl,h⟩:=q
  have q:=y4 h; clear h; obtain ⟨p1,rfl,h⟩:=q
  have q:=y4 h; clear h; obtain ⟨p2,rfl,h⟩:=q
  have q:=za5 h; clear h; obtain ⟨p3,rfl,h⟩:=q
  exact (zv6 xb yl zn zk yb xa L p0 p1 p2 p3 k).trans h
 ·cases h
def zby:CF:=⟨8,[.tmp 2],
 (.seq (.reg [oo 2 (.move (.const (.gs 4 [])) true)])
 (.fork (.reg [oo 3 (.move (tq 0) false),
   oo 4 (.nilT false (tq 3))])
 (tq 4)
 (.seq (.reg [oo 2 (.nilS 4 7)])
 (.seq (.mask (bl 4 8) (bl 128 8))
 .ret))
 (.seq (.reg [⟨(some 5),true,none,.buildSlice 4 0 [(.sc (.int .i64 0)),(.sc (.int .u32 0)),(.sc (.int .u16 0)),(.sc (.int .u32 0))] []⟩,
   oo 6 (.move (tq 0) false),
   ⟨(some 7),true,none,.append 4 24 (tq 5) (tq 6)⟩,
   oo 2 (.move (tq 7) true)])
 (.seq (.mask (bl 4 8) (bl 128 8))
 .ret))))⟩
def zeA:Hint:=⟨[(0,0),(2,0),(3,3)],[(3,0),(3,2)],[none,some ((bl 4 8),(bl 128 8)),some ((bl 4 8),(bl 128 8))],[],[(2,0,[7])],false,false⟩
def zcN:Nat→Sh:=xP []
def zcQ (L:Nat):CBC:=noC
def zc2 {β:Type} (L:Nat) (p0:List (List V)) (k_fin:List (List V)→Option β):Option β :=
 lc p0 (
 k_fin ([]:List (List V))) (fun h0 t0 =>
 chk ((0+List.length (h0::t0)) * 24≤zt∧0+List.length (h0::t0)≤zt) (
 chk ((List.length (h0::t0))≠0∨(List.length (List.flatten (h0::t0)))=0) (
 k_fin (zl 4 (List.length (h0::t0)) (List.flatten (h0::t0))))))
theorem zjQ {β:Type} (L:Nat) (p0:List (List V)) (k:KK β):xt zcN (zcQ L) L zby [(V.sl 4 p0)] [] k=zc2 L p0 (fun p0=>k (V.fr 4 p0) []):=by kernel_rfl
abbrev zbT:=∀ (β:Type),Nat→List (List V)→(List (List V)→Option β)→Option β
def yv (β:Type) (L:Nat) (p0:List (List V)) (k_fin:List (List V)→Option β):Option β:=zc2 L p0 k_fin
def zbV (yv:zbT) (L:Nat) (β:Type) (args:List V) (bor:Bor) (k:KK β):Option β:=match args,bor with
 | [a0],[]=>aL 4 a0 fun p0=>yv β L p0 (fun p0=>k (V.fr 4 p0) [])
 | _,_=>none
theorem zjN (L:Nat) (β:Type) (args:List V) (bor:Bor) (k:KK β) (r:β) (h:zbV yv L β args bor k=some r):xt zcN (zcQ L) L zby args bor k=some r:=by
 unfold zbV at h
 split at h
 ·have q:=y4 h; clear h; obtain ⟨p0,rfl,h⟩:=q
  exact (zjQ L p0 k).trans h
 ·cases h
def zjh:CF:=⟨30,[.tmp 4,.tmp 5],
 (.seq (.reg [oo 3 (.box true (tq 1)),
   oo 4 (.move (.const (.gs 4 [])) true),
   oo 5 (.move (.const (.sc (.int .i64 0))) false)])
 (.seq (.block 0 (.seq (.reg [oo 7 (.move (tq 0) false),
   oo 8 (.call 270 [((tq 7),0)] []),
   oo 9 (.un .not (tq 8)),
   oo 10 (.move (tq 9) false),
   ⟨(some 11),false,(some (10,false)),.fieldAddr 0 (tq 3)⟩,
   ⟨(some 12),false,(some (10,false)),.load false 1 (tq 11) false⟩,
   ⟨(some 13),false,(some (10,false)),.call 285 [((tq 12),0)] []⟩,
   ⟨(some 14),false,(some (10,false)),.un .not (tq 13)⟩,
   oo 15 (.pick (tq 10) (.const (.sc (.bool true))) (tq 14)),
   oo 6 (.move (tq 15) false)])
 (.cond (tq 6)
 (.seq (.reg [oo 4 (.move (.const (.gs 4 [])) true),
   oo 5 (.move (.const (.sc (.int .i64 6))) false)])
 .ret)
 (.seq (.reg [oo 17 (.move (tq 0) false),
   oo 18 (.fieldAddr 1 (tq 3)),
   oo 19 (.load true 3 (tq 18) false),
   oo 20 (.call 278 [((tq 17),0),((tq 19),0)] []),
   oo 16 (.move (tq 20) false)])
 (.cond (tq 16)
 (.seq (.reg [oo 4 (.move (.const (.gs 4 [])) true),
   oo 5 (.move (.const (.sc (.int .i64 350))) false)])
 .ret)
 (.seq (.reg [oo 22 (.move (tq 0) false),
   oo 23 (.lenS (tq 22)),
   oo 24 (.bin .geq (tq 23) (.const (.sc (.int .i64 8)))),
   oo 21 (.move (tq 24) false)])
 (.cond (tq 21)
 (.seq (.reg [oo 4 (.move (.const (.gs 4 [])) true),
   oo 5 (.move (.const (.sc (.int .i64 380))) false)])
 .ret)
 .skip)))))))
 (.seq (.dreg [] [(oo 25 (.move (tq 0) false),q0),
   (oo 26 (.call 286 [((tq 25),0)] []),qc [3] [28]),
   (oo 27 (.load true 4 (tq 3) false),ql 3 [] []),
   (oo 28 (.buildSlice 4 1 [(.sc (.int .i64 0)),(.sc (.int .u32 0)),(.sc (.int .u16 0)),(.sc (.int .u32 0))] [(0,4,(tq 27))]),qn [] []),
   (oo 29 (.append 4 24 (tq 26) (tq 28)),q0),
   (oo 4 (.move (tq 29) true),q0),
   (oo 5 (.move (.const (.sc (.int .i64 0))) false),q0)])
 .ret)))⟩
def zqx:Hint:=⟨[(0,1),(2,0),(4,0),(6,0),(7,5)],[],[none,none,none,none,none,none,none,none],[],[],false,false⟩
def znf:Nat→Sh:=xP [(12,(.int .i64))]
def zm5 (xb:yu) (xi:yX) (xa:xq) (yv:zbT) (L:Nat):CBC:=(zx 286 (zbV yv L) (zx 278 (zdj xa L) (zx 285 (zgG xi L) (zx 270 (zeM xb L) noC))))
def zo7 {β:Type} (xb:yu) (xi:yX) (xa:xq) (yv:zbT) (L:Nat) (p0:List (List V)) (p1:List V) (k_fin:List (List V)→Int→Option β):Option β :=
 xb β L p0 (fun v0 =>
 ifb (!v0) (
 k_fin ([]:List (List V)) (6:Int)) (
 cI .i64 p1 0 fun v1 =>
 xi β L v1 (fun v2 =>
 ifb (!v2) (
 k_fin ([]:List (List V)) (6:Int)) (
 chk (1+3≤(List.length p1)) (
 xa β L p0 (List.take 3 (List.drop 1 p1)) (fun v3 =>
 ifb v3 (
 k_fin ([]:List (List V)) (350:Int)) (
 ifb (decide (((List.length p0:Nat):Int) ≥ (8:Int))) (
 k_fin ([]:List (List V)) (380:Int)) (
 yv β L p0 (fun v4 =>
 chk (0+4≤(List.length p1)) (
 chk ((List.length (List.take 4 p1))=4∧0+4≤4) (
 chk ((List.length v4+List.length (zl 4 1 (zh [(V.sc (.int .i64 (0:Int))),(V.sc (.int .u32 (0:Int))),(V.sc (.int .u16 (0:Int))),(V.sc (.int .u32 (0:Int)))] 0 (List.take 4 p1)))) * 24≤zt∧List.length v4+List.length (zl 4 1 (zh [(V.sc (.int .i64 (0:Int))),(V.sc (.int .u32 (0:Int))),(V.sc (.int .u16 (0:Int))),(V.sc (.int .u32 (0:Int)))] 0 (List.take 4 p1)))≤zt) (
 lt (v4++(zl 4 1 (zh [(V.sc (.int .i64 (0:Int))),(V.sc (.int .u32 (0:Int))),(V.sc (.int .u16 (0:Int))),(V.sc (.int .u32 (0:Int)))] 0 (List.take 4 p1)))) fun l5 =>
 k_fin l5 (0:Int)))))))))))))
theorem zyE {β:Type} (xb:yu) (xi:yX) (xa:xq) (yv:zbT) (L:Nat) (p0:List (List V)) (p1:List V) (k:KK β):xt znf (zm5 xb xi xa yv L) L zjh [(V.sl 4 p0),(V.agg p1)] [] k=zo7 xb xi xa yv L p0 p1 (fun zMc zMd=>k (V.tup [(V.gs 4 zMc),(V.sc (.int .i64 zMd))]) []):=by kernel_rfl
abbrev y9:=∀ (β:Type),Nat→List (List V)→List V→(List (List V)→Int→Option β)→Option β
def zj (β:Type) (L:Nat) (p0:List (List V)) (p1:List V) (k_fin:List (List V)→Int→Option β):Option β:=zo7 xb xi xa yv L p0 p1 k_fin
def zhz (zj:y9) (L:Nat) (β:Type) (args:List V) (bor:Bor) (k:KK β):Option β:=match args,bor with
 | [a0,a1],[]=>aL 4 a0 fun p0=>aG a1 fun p1=>zj β L p0 p1 (fun zMc zMd=>k (V.tup [(V.gs 4 zMc),(V.sc (.int .i64 zMd))]) [])
 | _,_=>none
theorem zyx (L:Nat) (β:Type) (args:List V) (bor:Bor) (k:KK β) (r:β) (h:zhz zj L β args bor k=some r):xt znf (zm5 xb xi xa yv L) L zjh args bor k=some r:=by
 unfold zhz at h
 split at h
 ·have q:=y4 h; clear h; obtain ⟨p0,rfl,h⟩:=q
  have q:=xZ h; clear h; obtain ⟨p1,rfl,h⟩:=q
  exact (zyE xb xi xa yv L p0 p1 k).trans h
 ·cases h
def zl3:CF:=⟨40,[.tmp 0],
 (.seq (.reg [oo 0 (.move (.const (.sc (.bool false))) false)])
 (.seq (.reg [oo 8 (.build (rp 32 (.sc (.int .u8 0)) (rp 2 (.sl 5 []) [])) []),
   oo 9 (.call 263 [((tq 8),1),((.const (.gs 3 [])),0),((.const (.gs 4 [])),0),((.const (.sc (.int .u64 0))),0)] []),
   oo 7 (.move (tq 9) true),
   oo 10 (.pull (tq 7) 0),
   oo 11 (.pull (tq 7) 1),
   oo 1 (.alloc true [(.sc (.int .i64 0)),(.sc (.int .u32 0)),(.sc (.int .u16 0)),(.sc (.int .u32 0))]),
   oz (.store 4 (tq 1) (tq 10)),
   oo 2 (.move (tq 11) false)])
 (.seq (.reg [oo 13 (.build [(.sc (.int .u32 0)),(.sc (.int .u16 0)),(.sc (.int .u32 0))] [(0,1,(.const (.sc (.int .u32 65536))))]),
   oo 14 (.build [(.sc (.int .i64 0)),(.sc (.int .u32 0)),(.sc (.int .u16 0)),(.sc (.int .u32 0))] [(0,1,(.const (.sc (.int .i64 2)))),(1,3,(tq 13))]),
   oo 15 (.call 271 [((.const (.gs 4 [])),0),((tq 14),0)] []),
   oo 12 (.move (tq 15) true),
   oo 16 (.extract (tq 12) 0),
   oo 17 (.pull (tq 12) 1),
   oo 3 (.move (tq 16) false),
   oo 4 (.move (tq 17) false)])
 (.seq (.reg [oo 19 (.move (tq 3) false),
   oo 20 (.build [(.sc (.int .u32 0)),(.sc (.int .u16 0)),(.sc (.int .u32 0))] [(0,1,(.const (.sc (.int .u32 65539))))]),
   oo 21 (.build [(.sc (.int .i64 0)),(.sc (.int .u32 0)),(.sc (.int .u16 0)),(.sc (.int .u32 0))] [(0,1,(.const (.sc (.int .i64 2)))),(1,3,(tq 20))]),
   oo 22 (.call 271 [((tq 19),0),((tq 21),0)] []),
   oo 18 (.move (tq 22) true),
   oo 23 (.extract (tq 18) 0),
   oo 24 (.pull (tq 18) 1),
   oo 5 (.move (tq 23) false),
   oo 6 (.move (tq 24) false)])
 (.seq (.reg [oo 25 (.move (tq 2) false),
   oo 26 (.bin .eql (tq 25) (.const (.sc (.int .i64 390)))),
   oo 27 (.move (tq 26) false),
   ⟨(some 28),false,(some (27,true)),.move (tq 4) false⟩,
   ⟨(some 29),false,(some (27,true)),.bin .eql (tq 28) (.const (.sc (.int .i64 0)))⟩,
   oo 30 (.pick (tq 27) (tq 29) (.const (.sc (.bool false)))),
   oo 31 (.move (tq 30) false),
   ⟨(some 32),false,(some (31,true)),.move (tq 3) false⟩,
   ⟨(some 33),false,(some (31,true)),.lenS (tq 32)⟩,
   ⟨(some 34),false,(some (31,true)),.bin .eql (tq 33) (.const (.sc (.int .i64 1)))⟩,
   oo 35 (.pick (tq 31) (tq 34) (.const (.sc (.bool false)))),
   oo 36 (.move (tq 35) false),
   ⟨(some 37),false,(some (36,true)),.move (tq 6) false⟩,
   ⟨(some 38),false,(some (36,true)),.bin .eql (tq 37) (.const (.sc (.int .i64 350)))⟩,
   oo 39 (.pick (tq 36) (tq 38) (.const (.sc (.bool false)))),
   oo 0 (.move (tq 39) false)])
 .ret)))))⟩
def zsX:Hint:=⟨[(1,2),(2,3),(2,4),(3,4),(3,5)],[],[none],[],[],false,false⟩
def zp9:Nat→Sh:=xP []
def zqk (yc:zs) (zj:y9) (L:Nat):CBC:=(zx 271 (zhz zj L) (zx 263 (zdl yc L) noC))
def zw4 {β:Type} (yc:zs) (zj:y9) (L:Nat) (k_fin:Bool→Option β):Option β :=
 yc β L (List.replicate 32 (V.sc (.int .u8 (0:Int)))++[(V.sl 5 ([]:List (List V))),(V.sl 5 ([]:List (List V)))]) ([]:List (List V)) ([]:List (List V)) (0:Int) (fun v0 v1 =>
 chk ((List.length v0)=4∧0+4≤4) (
 lt (zh [(V.sc (.int .i64 (0:Int))),(V.sc (.int .u32 (0:Int))),(V.sc (.int .u16 (0:Int))),(V.sc (.int .u32 (0:Int)))] 0 v0) fun r2 =>
 zj β L ([]:List (List V)) [(V.sc (.int .i64 (2:Int))),(V.sc (.int .u32 (65536:Int))),(V.sc (.int .u16 (0:Int))),(V.sc (.int .u32 (0:Int)))] (fun v3 v4 =>
 zj β L v3 [(V.sc (.int .i64 (2:Int))),(V.sc (.int .u32 (65539:Int))),(V.sc (.int .u16 (0:Int))),(V.sc (.int .u32 (0:Int)))] (fun v5 v6 =>
 ifb ((v1:Int) == (390:Int)) (
 ifb ((v4:Int) == (0:Int)) (
 ifb ((((List.length v3:Nat):Int):Int) == (1:Int)) (
 k_fin ((v6:Int) == (350:Int))) (
 k_fin false)) (
 k_fin false)) (
 k_fin false)))))
theorem zzU {β:Type} (yc:zs) (zj:y9) (L:Nat) (k:KK β):xt zp9 (zqk yc zj L) L zl3 [] [] k=zw4 yc zj L (fun p0=>k (V.sc (.bool p0)) []):=by kernel_rfl
abbrev yt:=∀ (β:Type),Nat→(Bool→Option β)→Option β
def xc (β:Type) (L:Nat) (k_fin:Bool→Option β):Option β:=zw4 yc zj L k_fin
def zfL (xc:yt) (L:Nat) (β:Type) (args:List V) (bor:Bor) (k:KK β):Option β:=match args,bor with
 | [],[]=>xc β L (fun p0=>k (V.sc (.bool p0)) [])
 | _,_=>none
theorem zAz (L:Nat) (β:Type) (args:List V) (bor:Bor) (k:KK β) (r:β) (h:zfL xc L β args bor k=some r):xt zp9 (zqk yc zj L) L zl3 args bor k=some r:=by
 unfold zfL at h
 split at h
 ·exact (zzU yc zj L k).trans h
 ·cases h
def zpe:CF:=⟨6,[.tmp 2],
 (.seq (.reg [oo 2 (.move (.const (.sc (.pointer none))) false)])
 (.seq (.reg [oo 3 (.move (tq 0) false),
   oo 4 (.build [(.sl 1 []),(.sc (.int .i64 0))] [(0,1,(tq 3))]),
   oo 5 (.box false (tq 4)),
   oo 2 (.move (tq 5) false)])
 .ret))⟩
def zvS:Hint:=⟨[],[],[none],[],[],false,false⟩
def ztK:Nat→Sh:=xP []
def ztL (L:Nat):CBC:=noC
def zAy {β:Type} (L:Nat) (p0:List (List V)) (k_fin:List (List V)→Int→Option β):Option β :=
 k_fin p0 (0:Int)
theorem zDj {β:Type} (L:Nat) (p0:List (List V)) (k:KK β):xt ztK (ztL L) L zpe [(V.sl 1 p0)] [] k=zAy L p0 (fun zMc zMd=>k (V.bx false [(V.sl 1 zMc),(V.sc (.int .i64 zMd))]) []):=by kernel_rfl
abbrev zr:=∀ (β:Type),Nat→List (List V)→(List (List V)→Int→Option β)→Option β
def zc (β:Type) (L:Nat) (p0:List (List V)) (k_fin:List (List V)→Int→Option β):Option β:=zAy L p0 k_fin
def zgr (zc:zr) (L:Nat) (β:Type) (args:List V) (bor:Bor) (k:KK β):Option β:=match args,bor with
 | [a0],[]=>aL 1 a0 fun p0=>zc β L p0 (fun zMc zMd=>k (V.bx false [(V.sl 1 zMc),(V.sc (.int .i64 zMd))]) [])
 | _,_=>none
theorem zDl (L:Nat) (β:Type) (args:List V) (bor:Bor) (k:KK β) (r:β) (h:zgr zc L β args bor k=some r):xt ztK (ztL L) L zpe args bor k=some r:=by
 unfold zgr at h
 split at h
 ·have q:=y4 h; clear h; obtain ⟨p0,rfl,h⟩:=q
  exact (zDj L p0 k).trans h
 ·cases h
def zhn:CF:=⟨13,[.tmp 2],
 (.seq (.reg [oo 2 (.move (.const (.sc (.bool false))) false)])
 (.seq (.dreg [] [(oo 3 (.move (tq 0) false),q0),
   (oo 4 (.nilCheck (tq 3)),q0),
   (oo 5 (.fieldAddr 1 (tq 4)),q0),
   (oo 6 (.load false 1 (tq 5) false),ql 0 [] []),
   (oo 7 (.move (tq 0) false),q0),
   (oo 8 (.nilCheck (tq 7)),q0),
   (oo 9 (.fieldAddr 0 (tq 8)),q0),
   (oo 10 (.load false 1 (tq 9) false),ql 0 [] []),
   (oo 11 (.lenS (tq 10)),q0),
   (oo 12 (.bin .lss (tq 6) (tq 11)),q0),
   (oo 2 (.move (tq 12) false),q0)])
 .ret))⟩
def zon:Hint:=⟨[],[],[none],[],[],false,false⟩
def zlr:Nat→Sh:=xP []
def zk9 (L:Nat):CBC:=noC
def zh0 {β:Type} (L:Nat) (zKX:List (List V)) (zK0:Int) (k_fin:Bool→List (List V)→Int→Option β):Option β :=
 k_fin (decide (zK0 < ((List.length zKX:Nat):Int))) zKX zK0
theorem zv2 {β:Type} (L:Nat) (zKX:List (List V)) (zK0:Int) (k:KK β):xt zlr (zk9 L) L zhn [(V.ptr 0 0)] [(.live false [(V.sl 1 zKX),(V.sc (.int .i64 zK0))])] k=zh0 L zKX zK0 (fun p0 zKX zK0=>k (V.sc (.bool p0)) [(.live false [(V.sl 1 zKX),(V.sc (.int .i64 zK0))])]):=by kernel_rfl
abbrev zip:=∀ (β:Type),Nat→List (List V)→Int→(Bool→List (List V)→Int→Option β)→Option β
def yU (β:Type) (L:Nat) (zKX:List (List V)) (zK0:Int) (k_fin:Bool→List (List V)→Int→Option β):Option β:=zh0 L zKX zK0 k_fin
def zii (yU:zip) (L:Nat) (β:Type) (args:List V) (bor:Bor) (k:KK β):Option β:=match args,bor with
 | [a0],[(.live false [w0_0,w0_1])]=>aP 0 0 a0 (aL 1 w0_0 fun zKX=>aI .i64 w0_1 fun zK0=>yU β L zKX zK0 (fun p0 zKX zK0=>k (V.sc (.bool p0)) [(.live false [(V.sl 1 zKX),(V.sc (.int .i64 zK0))])]))
 | _,_=>none
theorem zwu (L:Nat) (β:Type) (args:List V) (bor:Bor) (k:KK β) (r:β) (h:zii yU L β args bor k=some r):xt zlr (zk9 L) L zhn args bor k=some r:=by
 unfold zii at h
 split at h
 ·have q:=zlz h; clear h; obtain ⟨rfl,h⟩:=q
  have q:=y4 h; clear h; obtain ⟨zKX,rfl,h⟩:=q
  have q:=za5 h; clear h; obtain ⟨zK0,rfl,h⟩:=q
  exact (zv2 L zKX zK0 k).trans h
 ·cases h
def zo9:CF:=⟨15,[.tmp 4],
 (.seq (.reg [oo 4 (.move (.const (.sc (.int .i64 0))) false)])
 (.seq (.reg [oo 6 (.move (tq 0) false),
   oo 7 (.move (tq 1) false),
   oo 8 (.bin .rem (tq 6) (tq 7)),
   oo 5 (.move (tq 8) false)])
 (.seq (.seq (.reg [oo 9 (.move (tq 5) false),
   oo 10 (.bin .lss (tq 9) (.const (.sc (.int .i64 0))))])
 (.cond (tq 10)
 (.reg [oo 11 (.move (tq 5) false),
   oo 12 (.move (tq 1) false),
   oo 13 (.bin .add (tq 11) (tq 12)),
   oo 5 (.move (tq 13) false)])
 .skip))
 (.seq (.reg [oo 14 (.move (tq 5) false),
   oo 4 (.move (tq 14) false)])
 .ret))))⟩
def zvP:Hint:=⟨[],[],[none,none],[],[],false,false⟩
def ztq:Nat→Sh:=xP []
def ztv (L:Nat):CBC:=noC
def zqQ {β:Type} (L:Nat) (p0 p1:Int) (k_fin:Int→Option β):Option β :=
 chk (p1≠0) (
 lt (Int.tmod p0 p1) fun x0 =>
 ifb (decide (x0 < (0:Int))) (
 lt (IntKind.wrap .i64 ((x0:Int)+p1)) fun x1 =>
 k_fin x1) (
 k_fin x0))
theorem zDi {β:Type} (L:Nat) (p0 p1:Int) (k:KK β):xt ztq (ztv L) L zo9 [(V.sc (.int .i64 p0)),(V.sc (.int .i64 p1))] [] k=zqQ L p0 p1 (fun p0=>k (V.sc (.int .i64 p0)) []):=by kernel_rfl
abbrev zY:=∀ (β:Type),Nat→Int→Int→(Int→Option β)→Option β
def zp (β:Type) (L:Nat) (p0 p1:Int) (k_fin:Int→Option β):Option β:=zqQ L p0 p1 k_fin
def zkT (zp:zY) (L:Nat) (β:Type) (args:List V) (bor:Bor) (k:KK β):Option β:=match args,bor with
 | [a0,a1],[]=>aI .i64 a0 fun p0=>aI .i64 a1 fun p1=>zp β L p0 p1 (fun p0=>k (V.sc (.int .i64 p0)) [])
 | _,_=>none
theorem zC0 (L:Nat) (β:Type) (args:List V) (bor:Bor) (k:KK β) (r:β) (h:zkT zp L β args bor k=some r):xt ztq (ztv L) L zo9 args bor k=some r:=by
 unfold zkT at h
 split at h
 ·have q:=za5 h; clear h; obtain ⟨p0,rfl,h⟩:=q
  have q:=za5 h; clear h; obtain ⟨p1,rfl,h⟩:=q
  exact (zDi L p0 p1 k).trans h
 ·cases h
def zho:CF:=⟨28,[.tmp 4],
 (.seq (.reg [oo 4 (.move (.const (.sc (.int .i64 0))) false)])
 (.seq (.seq (.reg [oo 5 (.move (tq 0) false),
   oo 6 (.call 247 [((tq 5),0)] []),
   oo 7 (.un .not (tq 6))])
 (.cond (tq 7)
 (.seq (.reg [oo 4 (.move (.const (.sc (.int .i64 0))) false)])
 .ret)
 .skip))
 (.seq (.reg [oo 8 (.move (tq 0) false),
   oo 9 (.nilCheck (tq 8)),
   oo 10 (.fieldAddr 1 (tq 9)),
   oo 11 (.load false 1 (tq 10) false),
   oo 12 (.bin .add (tq 11) (.const (.sc (.int .i64 1)))),
   oo 13 (.nilCheck (tq 8)),
   oo 14 (.fieldAddr 1 (tq 13)),
   oz (.store 1 (tq 14) (tq 12))])
 (.seq (.dreg [] [(oo 15 (.move (tq 0) false),q0),
   (oo 16 (.nilCheck (tq 15)),q0),
   (oo 17 (.fieldAddr 0 (tq 16)),q0),
   (oo 18 (.load false 1 (tq 17) false),ql 0 [] []),
   (oo 19 (.move (tq 0) false),q0),
   (oo 20 (.nilCheck (tq 19)),q0),
   (oo 21 (.fieldAddr 1 (tq 20)),q0),
   (oo 22 (.load false 1 (tq 21) false),ql 0 [] []),
   (oo 23 (.bin .sub (tq 22) (.const (.sc (.int .i64 1)))),q0),
   (oo 24 (.indexAddrS 1 (tq 18) (tq 23)),q0),
   (oo 25 (.load false 1 (tq 24) false),q0),
   (oo 26 (.move (tq 1) false),q0),
   (oo 27 (.call 217 [((tq 25),0),((tq 26),0)] []),q0),
   (oo 4 (.move (tq 27) false),q0)])
 .ret))))⟩
def zok:Hint:=⟨[],[],[none,none,none],[],[],false,false⟩
def zk7:Nat→Sh:=xP [(25,(.int .i64))]
def zlg (yU:zip) (zp:zY) (L:Nat):CBC:=(zx 217 (zkT zp L) (zx 247 (zii yU L) noC))
def ziv {β:Type} (yU:zip) (zp:zY) (L:Nat) (p1:Int) (zKX:List (List V)) (zK0:Int) (k_fin:Int→List (List V)→Int→Option β):Option β :=
 yU β L zKX zK0 (fun v0 v1 v2 =>
 ifb (!v0) (
 k_fin (0:Int) v1 v2) (
 lt (IntKind.wrap .i64 ((v2:Int)+(1:Int))) fun x3 =>
 lt (IntKind.wrap .i64 ((x3:Int) - (1:Int))) fun x4 =>
 idx v1 x4 fun c5 =>
 cI .i64 c5 0 fun v6 =>
 zp β L v6 p1 (fun v7 =>
 k_fin v7 v1 x3)))
theorem zwg {β:Type} (yU:zip) (zp:zY) (L:Nat) (p1:Int) (zKX:List (List V)) (zK0:Int) (k:KK β):xt zk7 (zlg yU zp L) L zho [(V.ptr 0 0),(V.sc (.int .i64 p1))] [(.live false [(V.sl 1 zKX),(V.sc (.int .i64 zK0))])] k=ziv yU zp L p1 zKX zK0 (fun p0 zKX zK0=>k (V.sc (.int .i64 p0)) [(.live false [(V.sl 1 zKX),(V.sc (.int .i64 zK0))])]):=by kernel_rfl
abbrev xj:=∀ (β:Type),Nat→Int→List (List V)→Int→(Int→List (List V)→Int→Option β)→Option β
def za (β:Type) (L:Nat) (p1:Int) (zKX:List (List V)) (zK0:Int) (k_fin:Int→List (List V)→Int→Option β):Option β:=ziv yU zp L p1 zKX zK0 k_fin
def zbs (za:xj) (L:Nat) (β:Type) (args:List V) (bor:Bor) (k:KK β):Option β:=match args,bor with
 | [a0,a1],[(.live false [w0_0,w0_1])]=>aP 0 0 a0 (aI .i64 a1 fun p1=>aL 1 w0_0 fun zKX=>aI .i64 w0_1 fun zK0=>za β L p1 zKX zK0 (fun p0 zKX zK0=>k (V.sc (.int .i64 p0)) [(.live false [(V.sl 1 zKX),(V.sc (.int .i64 zK0))])]))
 | _,_=>none
theorem zvW (L:Nat) (β:Type) (args:List V) (bor:Bor) (k:KK β) (r:β) (h:zbs za L β args bor k=some r):xt zk7 (zlg yU zp L) L zho args bor k=some r:=by
 unfold zbs at h
 split at h
 ·have q:=zlz h; clear h; obtain ⟨rfl,h⟩:=q
  have q:=za5 h; clear h; obtain ⟨p1,rfl,h⟩:=q
  have q:=y4 h; clear h; obtain ⟨zKX,rfl,h⟩:=q
  have q:=za5 h; clear h; obtain ⟨zK0,rfl,h⟩:=q
  exact (zwg yU zp L p1 zKX zK0 k).trans h
 ·cases h
def znM:CF:=⟨10,[.cell 2 true 32],
 (.seq (.reg [oo 2 (.alloc true (rp 32 (.sc (.int .u8 0)) []))])
 (.seq (.reg [oo 3 (.move (tq 0) false),
   oo 4 (.call 231 [((tq 3),0),((.const (.sc (.int .i64 5))),0)] []),
   oo 5 (.conv .u8 (tq 4)),
   oo 6 (.move (tq 0) false),
   oo 7 (.call 231 [((tq 6),0),((.const (.sc (.int .i64 7))),0)] []),
   oo 8 (.conv .u8 (tq 7)),
   oo 9 (.build (rp 32 (.sc (.int .u8 0)) []) [(0,1,(tq 5)),(31,1,(tq 8))]),
   oz (.store 32 (tq 2) (tq 9))])
 .ret))⟩
def zt8:Hint:=⟨[],[],[none],[],[],false,false⟩
def zrR:Nat→Sh:=xP []
def zse (za:xj) (L:Nat):CBC:=(zx 231 (zbs za L) noC)
def ztr {β:Type} (za:xj) (L:Nat) (zKX:List (List V)) (zK0:Int) (k_fin:List V→List (List V)→Int→Option β):Option β :=
 za β L (5:Int) zKX zK0 (fun v0 v1 v2 =>
 lt (IntKind.wrap .u8 v0) fun x3 =>
 za β L (7:Int) v1 v2 (fun v4 v5 v6 =>
 lt (IntKind.wrap .u8 v4) fun x7 =>
 lt ([(V.sc (.int .u8 x3))]++List.replicate 30 (V.sc (.int .u8 (0:Int)))++[(V.sc (.int .u8 x7))]) fun r8 =>
 chk (0=0∧(List.length r8)=32∧32≠0) (
 k_fin r8 v5 v6)))
theorem zBu {β:Type} (za:xj) (L:Nat) (zKX:List (List V)) (zK0:Int) (k:KK β):xt zrR (zse za L) L znM [(V.ptr 0 0)] [(.live false [(V.sl 1 zKX),(V.sc (.int .i64 zK0))])] k=ztr za L zKX zK0 (fun p0 zKX zK0=>k (V.agg p0) [(.live false [(V.sl 1 zKX),(V.sc (.int .i64 zK0))])]):=by kernel_rfl
abbrev zcy:=∀ (β:Type),Nat→List (List V)→Int→(List V→List (List V)→Int→Option β)→Option β
def xB (β:Type) (L:Nat) (zKX:List (List V)) (zK0:Int) (k_fin:List V→List (List V)→Int→Option β):Option β:=ztr za L zKX zK0 k_fin
def zpk (xB:zcy) (L:Nat) (β:Type) (args:List V) (bor:Bor) (k:KK β):Option β:=match args,bor with
 | [a0],[(.live false [w0_0,w0_1])]=>aP 0 0 a0 (aL 1 w0_0 fun zKX=>aI .i64 w0_1 fun zK0=>xB β L zKX zK0 (fun p0 zKX zK0=>k (V.agg p0) [(.live false [(V.sl 1 zKX),(V.sc (.int .i64 zK0))])]))
 | _,_=>none
theorem zBn (L:Nat) (β:Type) (args:List V) (bor:Bor) (k:KK β) (r:β) (h:zpk xB L β args bor k=some r):xt zrR (zse za L) L znM args bor k=some r:=by
 unfold zpk at h
 split at h
 ·have q:=zlz h; clear h; obtain ⟨rfl,h⟩:=q
  have q:=y4 h; clear h; obtain ⟨zKX,rfl,h⟩:=q
  have q:=za5 h; clear h; obtain ⟨zK0,rfl,h⟩:=q
  exact (zBu za L zKX zK0 k).trans h
 ·cases h
def zeD:CC:=(.seq (.reg [oo 8 (.bin .lss (tq 7) (tq 6))])
 (.seq (.cond (tq 8)
 .skip
 (.seq (.mask (bl 8 22) (bl 4194287 22))
 (.exit 0)))
 (.seq (.block 1 (.seq (.reg [oo 9 (.move (tq 7) false),
   oo 4 (.move (tq 9) false)])
 (.reg [oo 10 (.move (tq 3) false),
   oo 11 (.move (tq 0) false),
   oo 12 (.move (tq 4) false),
   oo 13 (.indexAddrS 1 (tq 11) (tq 12)),
   oo 14 (.load false 1 (tq 13) false),
   oo 15 (.conv .u64 (tq 14)),
   oo 16 (.move (tq 4) false),
   oo 17 (.bin .mul (.const (.sc (.int .i64 8))) (tq 16)),
   oo 18 (.bin .shl (tq 15) (tq 17)),
   oo 19 (.bin .or (tq 10) (tq 18)),
   oo 3 (.move (tq 19) false)])))
 (.reg [oo 20 (.bin .add (tq 7) (.const (.sc (.int .i64 1)))),
   oo 7 (.move (tq 20) false)]))))
def znn:CC:=(.seq (.reg [oo 21 (.move (tq 3) false),
   oo 2 (.move (tq 21) false)])
 .ret)
def zeV:CF:=⟨22,[.tmp 2],
 (.seq (.reg [oo 2 (.move (.const (.sc (.int .u64 0))) false)])
 (.seq (.reg [oo 3 (.move (.const (.sc (.int .u64 0))) false)])
 (.seq (.seq (.reg [oo 5 (.move (tq 0) false),
   oo 6 (.lenS (tq 5)),
   oo 7 (.move (.const (.sc (.int .i64 0))) false)])
 (.block 0 (.loop (bl 201 22) (bl 4194287 22)
 zeD)))
 znn)))⟩
def zsL:Hint:=⟨[],[],[none,some ((bl 201 22),(bl 4194287 22)),none,some ((bl 8 22),(bl 4194287 22)),none,none],[],[],false,false⟩
def zcx:Nat→Sh:=xP [(14,(.int .u8))]
def zcB (L:Nat):CBC:=noC
def zhh:St→St:=zaj 0 (bl 201 22) (bl 4194287 22)
def zfm (p0:List (List V)) (p3 p6 p7:Int):St:=⟨((V.sl 1 p0)::(jn 2 ((V.sc (.int .u64 p3))::(jn 2 ((V.sc (.int .i64 p6))::((V.sc (.int .i64 p7))::(jn 14 []))))))),(gn 22 [])⟩
def zmc (p3:Int):St:=⟨(jn 3 ((V.sc (.int .u64 p3))::(jn 18 []))),(gn 22 [])⟩
def zsi {β:Type} (L:Nat) (p0:List (List V)) (k_hbbaba:List (List V)→Int→Int→Int→Option β):Option β :=
 k_hbbaba p0 (0:Int) ((List.length p0:Nat):Int) (0:Int)
theorem zAu {β:Type} (L:Nat) (p0:List (List V)) (k:KK β):xt zcx (zcB L) L zeV [(V.sl 1 p0)] [] k=zsi L p0 (fun p0 p3 p6 p7=>yF (xm zcx (zcB L) 0 L zeD) zhh L (zfm p0 p3 p6 p7) (xE 0 (xR (xm zcx (zcB L) 0 L znn) (y5 0 (CF.res zeV) k)))):=by kernel_rfl
def zk4 {β:Type} (L:Nat) (p0:List (List V)) (p3 p6 p7:Int) (k_hbbaba:List (List V)→Int→Int→Int→Option β) (k_x0:Int→Option β):Option β :=
 ifb (decide (p7 < p6)) (
 idx p0 p7 fun c0 =>
 cI .u8 c0 0 fun v1 =>
 lt (IntKind.wrap .u64 v1) fun x2 =>
 lt (IntKind.wrap .i64 (((8:Int):Int) * p7)) fun x3 =>
 chk (0≤x3) (
 lt (zr8 .u64 x2 x3) fun x4 =>
 lt (ior .u64 p3 x4) fun x5 =>
 lt (IntKind.wrap .i64 ((p7:Int)+(1:Int))) fun x6 =>
 k_hbbaba p0 x5 p6 x6)) (
 k_x0 p3)
theorem zvm {β:Type} (L:Nat) (p0:List (List V)) (p3 p6 p7:Int) (X:St→Option β) (K:KT β):xm zcx (zcB L) 0 L zeD (zfm p0 p3 p6 p7) (zbR zhh X K)=zk4 L p0 p3 p6 p7 (fun p0 p3 p6 p7=>X (zfm p0 p3 p6 p7)) (fun p3=>K (.exit 0) (zmc p3)):=by kernel_rfl
def zos {β:Type} (L:Nat) (p3:Int) (k_fin:Int→Option β):Option β :=
 k_fin p3
theorem ztn {β:Type} (L:Nat) (p3:Int) (k:KK β):(xE 0 (xR (xm zcx (zcB L) 0 L znn) (y5 0 (CF.res zeV) k))) (.exit 0) (zmc p3)=zos L p3 (fun p0=>k (V.sc (.int .u64 p0)) []):=by kernel_rfl
def ze9 {β:Type} (L:Nat) (k_x0:Int→Option β):Nat→List (List V)→Int→Int→Int→Option β
 | 0,_,_,_,_=>none
 | n+1,p0,p3,p6,p7=>zk4 L p0 p3 p6 p7 (fun p0 p3 p6 p7=>ze9 L k_x0 n p0 p3 p6 p7) k_x0
theorem zm2 {β:Type} (L:Nat) (K:KT β):∀ (n:Nat) (p0:List (List V)) (p3 p6 p7:Int),yF (xm zcx (zcB L) 0 L zeD) zhh n (zfm p0 p3 p6 p7) K=ze9 L (fun p3=>K (.exit 0) (zmc p3)) n p0 p3 p6 p7:=by
 intro n
 induction n with
 | zero=>intros; rfl
 | succ n ih =>
  intro p0 p3 p6 p7
  refine (zvm L p0 p3 p6 p7 (fun σ=>yF (xm zcx (zcB L) 0 L zeD) zhh n σ K) K).trans ?_
  simp only [ih]
  rfl
def zn3 {β:Type} (L:Nat) (p0:List (List V)) (k_fin:Int→Option β):Option β :=
 zsi L p0 (fun p0 p3 p6 p7=>ze9 L (fun p3=>zos L p3 k_fin) L p0 p3 p6 p7)
theorem zBd {β:Type} (L:Nat) (p0:List (List V)) (k:KK β):xt zcx (zcB L) L zeV [(V.sl 1 p0)] [] k=zn3 L p0 (fun p0=>k (V.sc (.int .u64 p0)) []):=by
 refine (zAu L p0 k).trans ?_
 unfold zn3
 first
  | (simp only [zm2,ztn]; done)
  | (simp only [zm2]; rfl)
abbrev zba:=∀ (β:Type),Nat→List (List V)→(Int→Option β)→Option β
def xo (β:Type) (L:Nat) (p0:List (List V)) (k_fin:Int→Option β):Option β:=zn3 L p0 k_fin
def zkq (xo:zba) (L:Nat) (β:Type) (args:List V) (bor:Bor) (k:KK β):Option β:=match args,bor with
 | [a0],[]=>aL 1 a0 fun p0=>xo β L p0 (fun p0=>k (V.sc (.int .u64 p0)) [])
 | _,_=>none
theorem zBm (L:Nat) (β:Type) (args:List V) (bor:Bor) (k:KK β) (r:β) (h:zkq xo L β args bor k=some r):xt zcx (zcB L) L zeV args bor k=some r:=by
 unfold zkq at h
 split at h
 ·have q:=y4 h; clear h; obtain ⟨p0,rfl,h⟩:=q
  exact (zBd L p0 k).trans h
 ·cases h
def znN:CF:=⟨8,[.cell 2 true 2],
 (.seq (.reg [oo 1 (.box true (tq 0)),
   oo 2 (.alloc true [(.sc (.int .u64 0)),(.sc (.int .u64 0))])])
 (.seq (.dreg [1] [(oo 3 (.sliceA 32 1 (tq 1) none (some (.const (.sc (.int .i64 8)))) none),q1),
   (oo 4 (.call 115 [((tq 3),0)] []),q1),
   (oo 5 (.sliceA 32 1 (tq 1) (some (.const (.sc (.int .i64 8)))) (some (.const (.sc (.int .i64 16)))) none),q1),
   (oo 6 (.call 115 [((tq 5),0)] []),q0),
   (oo 7 (.build [(.sc (.int .u64 0)),(.sc (.int .u64 0))] [(0,1,(tq 4)),(1,1,(tq 6))]),q0),
   (oz (.store 2 (tq 2) (tq 7)),q0)])
 .ret))⟩
def zus:Hint:=⟨[],[],[none],[(1,[1])],[],false,false⟩
def zsc:Nat→Sh:=xP []
def zr2 (xo:zba) (L:Nat):CBC:=(zx 115 (zkq xo L) noC)
def ztI {β:Type} (xo:zba) (L:Nat) (p0:List V) (k_fin:List V→Option β):Option β :=
 chk ((List.length p0)≠0) (
 chk (0+32 * 1≤(List.length p0)) (
 xo β L (zl 1 8 p0) (fun v0 =>
 chk (0+32 * 1≤(List.length p0)) (
 xo β L (zl 1 8 (List.drop 8 p0)) (fun v1 =>
 lt [(V.sc (.int .u64 v0)),(V.sc (.int .u64 v1))] fun r2 =>
 chk (0=0∧(List.length r2)=2∧2≠0) (
 k_fin r2))))))
theorem zBF {β:Type} (xo:zba) (L:Nat) (p0:List V) (k:KK β):xt zsc (zr2 xo L) L znN [(V.agg p0)] [] k=ztI xo L p0 (fun p0=>k (V.agg p0) []):=by kernel_rfl
abbrev zg5:=∀ (β:Type),Nat→List V→(List V→Option β)→Option β
def zQ (β:Type) (L:Nat) (p0:List V) (k_fin:List V→Option β):Option β:=ztI xo L p0 k_fin
def zlL (zQ:zg5) (L:Nat) (β:Type) (args:List V) (bor:Bor) (k:KK β):Option β:=match args,bor with
 | [a0],[]=>aG a0 fun p0=>zQ β L p0 (fun p0=>k (V.agg p0) [])
 | _,_=>none
theorem zB9 (L:Nat) (β:Type) (args:List V) (bor:Bor) (k:KK β) (r:β) (h:zlL zQ L β args bor k=some r):xt zsc (zr2 xo L) L znN args bor k=some r:=by
 unfold zlL at h
 split at h
 ·have q:=xZ h; clear h; obtain ⟨p0,rfl,h⟩:=q
  exact (zBF xo L p0 k).trans h
 ·cases h
def zdM:CC:=(.seq (.reg [oo 12 (.bin .lss (tq 11) (tq 10))])
 (.seq (.cond (tq 12)
 .skip
 (.seq (.mask (bl 32 24) (bl 16777151 24))
 (.exit 0)))
 (.seq (.block 1 (.seq (.reg [oo 13 (.move (tq 11) false),
   oo 6 (.move (tq 13) false)])
 (.reg [oo 14 (.move (tq 5) false),
   oo 15 (.move (tq 6) false),
   oo 16 (.move (tq 0) false),
   oo 17 (.move (tq 6) false),
   oo 18 (.bin .mul (.const (.sc (.int .i64 8))) (tq 17)),
   oo 19 (.bin .shr (tq 16) (tq 18)),
   oo 20 (.conv .u8 (tq 19)),
   oo 21 (.indexAddrS 1 (tq 14) (tq 15)),
   oz (.store 1 (tq 21) (tq 20))])))
 (.reg [oo 22 (.bin .add (tq 11) (.const (.sc (.int .i64 1)))),
   oo 11 (.move (tq 22) false)]))))
def zlq:CC:=(.seq (.reg [oo 23 (.move (tq 5) true),
   oo 4 (.move (tq 23) true)])
 .ret)
def zdO:CF:=⟨24,[.tmp 4],
 (.seq (.reg [oo 4 (.move (.const (.gs 1 [])) true)])
 (.seq (.reg [oo 7 (.move (tq 1) false),
   ⟨(some 8),true,none,.makeSlice 1 1 [(.sc (.int .u8 0))] (tq 7) (tq 7)⟩,
   oo 5 (.move (tq 8) true)])
 (.seq (.seq (.reg [oo 9 (.move (tq 5) false),
   oo 10 (.lenS (tq 9)),
   oo 11 (.move (.const (.sc (.int .i64 0))) false)])
 (.block 0 (.loop (bl 3105 24) (bl 16777151 24)
 zdM)))
 zlq)))⟩
def zqB:Hint:=⟨[(0,0),(1,2),(7,0),(7,1)],[(1,1)],[none,some ((bl 3105 24),(bl 16777151 24)),none,some ((bl 32 24),(bl 16777151 24)),none,none],[],[],false,false⟩
def zbO:Nat→Sh:=xP []
def zbU (L:Nat):CBC:=noC
def zfZ:St→St:=zaj 0 (bl 3105 24) (bl 16777151 24)
def zes (p0:Int) (p5l:Nat) (p10 p11:Int) (b8:List V):St:=⟨((V.sc (.int .u64 p0))::(jn 4 ((V.own 8 0 p5l 1)::(jn 4 ((V.sc (.int .i64 p10))::((V.sc (.int .i64 p11))::(jn 12 []))))))),(gn 8 ((.live true b8)::(gn 15 [])))⟩
def zj2 (p5l:Nat) (b8:List V):St:=⟨(jn 5 ((V.own 8 0 p5l 1)::(jn 18 []))),(gn 8 ((.live true b8)::(gn 15 [])))⟩
def zuu {β:Type} (L:Nat) (p0 p1:Int) (k_hbbaba:Int→Nat→Int→Int→List V→Option β):Option β :=
 chk (0≤p1∧p1≤p1∧(Int.toNat p1) * 1≤zt∧p1≤zt∧p1=p1) (
 k_hbbaba p0 (List.length (List.replicate (Int.toNat p1) [(V.sc (.int .u8 (0:Int)))])) (((List.length (List.replicate (Int.toNat p1) [(V.sc (.int .u8 (0:Int)))])):Nat):Int) (0:Int) (List.flatten (List.replicate (Int.toNat p1) [(V.sc (.int .u8 (0:Int)))])))
theorem zyJ {β:Type} (L:Nat) (p0 p1:Int) (k:KK β):xt zbO (zbU L) L zdO [(V.sc (.int .u64 p0)),(V.sc (.int .i64 p1))] [] k=zuu L p0 p1 (fun p0 p5l p10 p11 b8=>yF (xm zbO (zbU L) 0 L zdM) zfZ L (zes p0 p5l p10 p11 b8) (xE 0 (xR (xm zbO (zbU L) 0 L zlq) (y5 0 (CF.res zdO) k)))):=by kernel_rfl
def zow {β:Type} (L:Nat) (p0:Int) (p5l:Nat) (p10 p11:Int) (b8:List V) (k_hbbaba:Int→Nat→Int→Int→List V→Option β) (k_x0:Nat→List V→Option β):Option β :=
 ifb (decide (p11 < p10)) (
 lt (IntKind.wrap .i64 (((8:Int):Int) * p11)) fun x0 =>
 chk (0≤x0) (
 lt (zo0 .u64 p0 x0) fun x1 =>
 lt (IntKind.wrap .u8 x1) fun x2 =>
 chk (0≤p11∧p11 < ((p5l:Nat):Int)) (
 chk (1=1∧(0+((Int.toNat p11) * 1))+1≤(List.length b8)) (
 lt (zh b8 (0+((Int.toNat p11) * 1)) [(V.sc (.int .u8 x2))]) fun r3 =>
 lt (IntKind.wrap .i64 ((p11:Int)+(1:Int))) fun x4 =>
 k_hbbaba p0 p5l p10 x4 r3)))) (
 k_x0 p5l b8)
theorem ztb {β:Type} (L:Nat) (p0:Int) (p5l:Nat) (p10 p11:Int) (b8:List V) (X:St→Option β) (K:KT β):xm zbO (zbU L) 0 L zdM (zes p0 p5l p10 p11 b8) (zbR zfZ X K)=zow L p0 p5l p10 p11 b8 (fun p0 p5l p10 p11 b8=>X (zes p0 p5l p10 p11 b8)) (fun p5l b8=>K (.exit 0) (zj2 p5l b8)):=by kernel_rfl
def zmH {β:Type} (L:Nat) (p5l:Nat) (b8:List V) (k_fin:List (List V)→Option β):Option β :=
 chk (p5l≠0∨(List.length b8)=0) (
 k_fin (zl 1 p5l b8))
theorem zrY {β:Type} (L:Nat) (p5l:Nat) (b8:List V) (k:KK β):(xE 0 (xR (xm zbO (zbU L) 0 L zlq) (y5 0 (CF.res zdO) k))) (.exit 0) (zj2 p5l b8)=zmH L p5l b8 (fun p0=>k (V.fr 1 p0) []):=by kernel_rfl
def zi3 {β:Type} (L:Nat) (k_x0:Nat→List V→Option β):Nat→Int→Nat→Int→Int→List V→Option β
 | 0,_,_,_,_,_=>none
 | n+1,p0,p5l,p10,p11,b8=>zow L p0 p5l p10 p11 b8 (fun p0 p5l p10 p11 b8=>zi3 L k_x0 n p0 p5l p10 p11 b8) k_x0
theorem zlB {β:Type} (L:Nat) (K:KT β):∀ (n:Nat) (p0:Int) (p5l:Nat) (p10 p11:Int) (b8:List V),yF (xm zbO (zbU L) 0 L zdM) zfZ n (zes p0 p5l p10 p11 b8) K=zi3 L (fun p5l b8=>K (.exit 0) (zj2 p5l b8)) n p0 p5l p10 p11 b8:=by
 intro n
 induction n with
 | zero=>intros; rfl
 | succ n ih =>
  intro p0 p5l p10 p11 b8
  refine (ztb L p0 p5l p10 p11 b8 (fun σ=>yF (xm zbO (zbU L) 0 L zdM) zfZ n σ K) K).trans ?_
  simp only [ih]
  rfl
def zoM {β:Type} (L:Nat) (p0 p1:Int) (k_fin:List (List V)→Option β):Option β :=
 zuu L p0 p1 (fun p0 p5l p10 p11 b8=>zi3 L (fun p5l b8=>zmH L p5l b8 k_fin) L p0 p5l p10 p11 b8)
theorem zya {β:Type} (L:Nat) (p0 p1:Int) (k:KK β):xt zbO (zbU L) L zdO [(V.sc (.int .u64 p0)),(V.sc (.int .i64 p1))] [] k=zoM L p0 p1 (fun p0=>k (V.fr 1 p0) []):=by
 refine (zyJ L p0 p1 k).trans ?_
 unfold zoM
 first
  | (simp only [zlB,zrY]; done)
  | (simp only [zlB]; rfl)
abbrev zef:=∀ (β:Type),Nat→Int→Int→(List (List V)→Option β)→Option β
def yG (β:Type) (L:Nat) (p0 p1:Int) (k_fin:List (List V)→Option β):Option β:=zoM L p0 p1 k_fin
def zhw (yG:zef) (L:Nat) (β:Type) (args:List V) (bor:Bor) (k:KK β):Option β:=match args,bor with
 | [a0,a1],[]=>aI .u64 a0 fun p0=>aI .i64 a1 fun p1=>yG β L p0 p1 (fun p0=>k (V.fr 1 p0) [])
 | _,_=>none
theorem zyv (L:Nat) (β:Type) (args:List V) (bor:Bor) (k:KK β) (r:β) (h:zhw yG L β args bor k=some r):xt zbO (zbU L) L zdO args bor k=some r:=by
 unfold zhw at h
 split at h
 ·have q:=za5 h; clear h; obtain ⟨p0,rfl,h⟩:=q
  have q:=za5 h; clear h; obtain ⟨p1,rfl,h⟩:=q
  exact (zya L p0 p1 k).trans h
 ·cases h
def zju:CF:=⟨17,[.tmp 4],
 (.seq (.reg [oo 4 (.move (.const (.gs 1 [])) true)])
 (.seq (.reg [oo 6 (.move (tq 0) false),
   oo 7 (.lenS (tq 6)),
   oo 8 (.move (tq 1) false),
   oo 9 (.lenS (tq 8)),
   oo 10 (.bin .add (tq 7) (tq 9)),
   oo 11 (.makeSlice 1 1 [(.sc (.int .u8 0))] (.const (.sc (.int .i64 0))) (tq 10)),
   oo 5 (.move (tq 11) true)])
 (.seq (.reg [oo 12 (.move (tq 5) true),
   oo 13 (.move (tq 0) false),
   oo 14 (.append 1 1 (tq 12) (tq 13)),
   oo 15 (.move (tq 1) false),
   oo 16 (.append 1 1 (tq 14) (tq 15)),
   oo 4 (.move (tq 16) true)])
 .ret)))⟩
def zqt:Hint:=⟨[(0,0),(1,6),(2,0),(2,5)],[],[none],[],[],false,false⟩
def znD:Nat→Sh:=xP []
def znG (L:Nat):CBC:=noC
def zoT {β:Type} (L:Nat) (p0 p1:List (List V)) (k_fin:List (List V)→Option β):Option β :=
 lt (IntKind.wrap .i64 ((((List.length p0:Nat):Int):Int)+((List.length p1:Nat):Int))) fun x0 =>
 chk (0≤(0:Int)∧(0:Int)≤x0∧(Int.toNat x0) * 1≤zt∧x0≤zt) (
 chk ((List.length (List.replicate 0 [(V.sc (.int .u8 (0:Int)))])+List.length p0) * 1≤zt∧List.length (List.replicate 0 [(V.sc (.int .u8 (0:Int)))])+List.length p0≤zt) (
 lt ((List.replicate 0 [(V.sc (.int .u8 (0:Int)))])++p0) fun l1 =>
 chk ((List.length l1+List.length p1) * 1≤zt∧List.length l1+List.length p1≤zt) (
 lt (l1++p1) fun l2 =>
 k_fin l2)))
theorem zyj {β:Type} (L:Nat) (p0 p1:List (List V)) (k:KK β):xt znD (znG L) L zju [(V.sl 1 p0),(V.sl 1 p1)] [] k=zoT L p0 p1 (fun p0=>k (V.gs 1 p0) []):=by kernel_rfl
abbrev zee:=∀ (β:Type),Nat→List (List V)→List (List V)→(List (List V)→Option β)→Option β
def zH (β:Type) (L:Nat) (p0 p1:List (List V)) (k_fin:List (List V)→Option β):Option β:=zoT L p0 p1 k_fin
def zhO (zH:zee) (L:Nat) (β:Type) (args:List V) (bor:Bor) (k:KK β):Option β:=match args,bor with
 | [a0,a1],[]=>aL 1 a0 fun p0=>aL 1 a1 fun p1=>zH β L p0 p1 (fun p0=>k (V.gs 1 p0) [])
 | _,_=>none
theorem zyl (L:Nat) (β:Type) (args:List V) (bor:Bor) (k:KK β) (r:β) (h:zhO zH L β args bor k=some r):xt znD (znG L) L zju args bor k=some r:=by
 unfold zhO at h
 split at h
 ·have q:=y4 h; clear h; obtain ⟨p0,rfl,h⟩:=q
  have q:=y4 h; clear h; obtain ⟨p1,rfl,h⟩:=q
  exact (zyj L p0 p1 k).trans h
 ·cases h
def zgI:CF:=⟨10,[.tmp 4],
 (.seq (.reg [oo 4 (.move (.const (.gs 1 [])) true)])
 (.seq (.reg [oo 5 (.move (tq 0) false),
   oo 6 (.move (tq 1) false),
   oo 7 (.conv .u64 (tq 6)),
   oo 8 (.call 194 [((tq 7),0),((.const (.sc (.int .i64 4))),0)] []),
   oo 9 (.call 193 [((tq 5),0),((tq 8),0)] []),
   oo 4 (.move (tq 9) true)])
 .ret))⟩
def znF:Hint:=⟨[(0,0),(1,5)],[],[none],[],[],false,false⟩
def zkk:Nat→Sh:=xP []
def zkf (yG:zef) (zH:zee) (L:Nat):CBC:=(zx 193 (zhO zH L) (zx 194 (zhw yG L) noC))
def zlh {β:Type} (yG:zef) (zH:zee) (L:Nat) (p0:List (List V)) (p1:Int) (k_fin:List (List V)→Option β):Option β :=
 lt (IntKind.wrap .u64 p1) fun x0 =>
 yG β L x0 (4:Int) (fun v1 =>
 zH β L p0 v1 (fun v2 =>
 k_fin v2))
theorem zvg {β:Type} (yG:zef) (zH:zee) (L:Nat) (p0:List (List V)) (p1:Int) (k:KK β):xt zkk (zkf yG zH L) L zgI [(V.sl 1 p0),(V.sc (.int .u32 p1))] [] k=zlh yG zH L p0 p1 (fun p0=>k (V.gs 1 p0) []):=by kernel_rfl
abbrev zcL:=∀ (β:Type),Nat→List (List V)→Int→(List (List V)→Option β)→Option β
def xx (β:Type) (L:Nat) (p0:List (List V)) (p1:Int) (k_fin:List (List V)→Option β):Option β:=zlh yG zH L p0 p1 k_fin
def ze8 (xx:zcL) (L:Nat) (β:Type) (args:List V) (bor:Bor) (k:KK β):Option β:=match args,bor with
 | [a0,a1],[]=>aL 1 a0 fun p0=>aI .u32 a1 fun p1=>xx β L p0 p1 (fun p0=>k (V.gs 1 p0) [])
 | _,_=>none
theorem zu4 (L:Nat) (β:Type) (args:List V) (bor:Bor) (k:KK β) (r:β) (h:ze8 xx L β args bor k=some r):xt zkk (zkf yG zH L) L zgI args bor k=some r:=by
 unfold ze8 at h
 split at h
 ·have q:=y4 h; clear h; obtain ⟨p0,rfl,h⟩:=q
  have q:=za5 h; clear h; obtain ⟨p1,rfl,h⟩:=q
  exact (zvg yG zH L p0 p1 k).trans h
 ·cases h
def zgP:CF:=⟨10,[.tmp 4],
 (.seq (.reg [oo 4 (.move (.const (.gs 1 [])) true)])
 (.seq (.reg [oo 5 (.move (tq 0) false),
   oo 6 (.move (tq 1) false),
   oo 7 (.conv .u64 (tq 6)),
   oo 8 (.call 194 [((tq 7),0),((.const (.sc (.int .i64 2))),0)] []),
   oo 9 (.call 193 [((tq 5),0),((tq 8),0)] []),
   oo 4 (.move (tq 9) true)])
 .ret))⟩
def zn7:Hint:=⟨[(0,0),(1,5)],[],[none],[],[],false,false⟩
def zjM:Nat→Sh:=xP []
def zjT (yG:zef) (zH:zee) (L:Nat):CBC:=(zx 193 (zhO zH L) (zx 194 (zhw yG L) noC))
def zlt {β:Type} (yG:zef) (zH:zee) (L:Nat) (p0:List (List V)) (p1:Int) (k_fin:List (List V)→Option β):Option β :=
 lt (IntKind.wrap .u64 p1) fun x0 =>
 yG β L x0 (2:Int) (fun v1 =>
 zH β L p0 v1 (fun v2 =>
 k_fin v2))
theorem zuK {β:Type} (yG:zef) (zH:zee) (L:Nat) (p0:List (List V)) (p1:Int) (k:KK β):xt zjM (zjT yG zH L) L zgP [(V.sl 1 p0),(V.sc (.int .u16 p1))] [] k=zlt yG zH L p0 p1 (fun p0=>k (V.gs 1 p0) []):=by kernel_rfl
abbrev zhg:=∀ (β:Type),Nat→List (List V)→Int→(List (List V)→Option β)→Option β
def yS (β:Type) (L:Nat) (p0:List (List V)) (p1:Int) (k_fin:List (List V)→Option β):Option β:=zlt yG zH L p0 p1 k_fin
def zhd (yS:zhg) (L:Nat) (β:Type) (args:List V) (bor:Bor) (k:KK β):Option β:=match args,bor with
 | [a0,a1],[]=>aL 1 a0 fun p0=>aI .u16 a1 fun p1=>yS β L p0 p1 (fun p0=>k (V.gs 1 p0) [])
 | _,_=>none
theorem zuY (L:Nat) (β:Type) (args:List V) (bor:Bor) (k:KK β) (r:β) (h:zhd yS L β args bor k=some r):xt zjM (zjT yG zH L) L zgP args bor k=some r:=by
 unfold zhd at h
 split at h
 ·have q:=y4 h; clear h; obtain ⟨p0,rfl,h⟩:=q
  have q:=za5 h; clear h; obtain ⟨p1,rfl,h⟩:=q
  exact (zuK yG zH L p0 p1 k).trans h
 ·cases h
def zkH:CF:=⟨64,[.cell 2 true 4],
 (.seq (.reg [oo 1 (.box true (tq 0)),
   oo 2 (.alloc true [(.sc (.int .u64 0)),(.sc (.int .u64 0)),(.sc (.int .u64 0)),(.sc (.int .u64 0))])])
 (.seq (.reg [oo 3 (.indexAddrA 4 1 (tq 1) (.const (.sc (.int .i64 0)))),
   oo 4 (.load false 1 (tq 3) false),
   oo 5 (.indexAddrA 4 1 (tq 1) (.const (.sc (.int .i64 1)))),
   oo 6 (.load false 1 (tq 5) false),
   oo 7 (.bin .add (tq 4) (tq 6)),
   oo 8 (.indexAddrA 4 1 (tq 1) (.const (.sc (.int .i64 0)))),
   oz (.store 1 (tq 8) (tq 7))])
 (.seq (.dreg [] [(oo 9 (.indexAddrA 4 1 (tq 1) (.const (.sc (.int .i64 1)))),q0),
   (oo 10 (.load false 1 (tq 9) false),q1),
   (oo 11 (.call 118 [((tq 10),0),((.const (.sc (.int .i64 13))),0)] []),q1),
   (oo 12 (.indexAddrA 4 1 (tq 1) (.const (.sc (.int .i64 0)))),q0),
   (oo 13 (.load false 1 (tq 12) false),q1),
   (oo 14 (.bin .xor (tq 11) (tq 13)),q0),
   (oo 15 (.indexAddrA 4 1 (tq 1) (.const (.sc (.int .i64 1)))),q0),
   (oz (.store 1 (tq 15) (tq 14)),q0)])
 (.seq (.reg [oo 16 (.indexAddrA 4 1 (tq 1) (.const (.sc (.int .i64 0)))),
   oo 17 (.load false 1 (tq 16) false),
   oo 18 (.call 118 [((tq 17),0),((.const (.sc (.int .i64 32))),0)] []),
   oo 19 (.indexAddrA 4 1 (tq 1) (.const (.sc (.int .i64 0)))),
   oz (.store 1 (tq 19) (tq 18))])
 (.seq (.reg [oo 20 (.indexAddrA 4 1 (tq 1) (.const (.sc (.int .i64 2)))),
   oo 21 (.load false 1 (tq 20) false),
   oo 22 (.indexAddrA 4 1 (tq 1) (.const (.sc (.int .i64 3)))),
   oo 23 (.load false 1 (tq 22) false),
   oo 24 (.bin .add (tq 21) (tq 23)),
   oo 25 (.indexAddrA 4 1 (tq 1) (.const (.sc (.int .i64 2)))),
   oz (.store 1 (tq 25) (tq 24))])
 (.seq (.dreg [] [(oo 26 (.indexAddrA 4 1 (tq 1) (.const (.sc (.int .i64 3)))),q0),
   (oo 27 (.load false 1 (tq 26) false),q1),
   (oo 28 (.call 118 [((tq 27),0),((.const (.sc (.int .i64 16))),0)] []),q1),
   (oo 29 (.indexAddrA 4 1 (tq 1) (.const (.sc (.int .i64 2)))),q0),
   (oo 30 (.load false 1 (tq 29) false),q1),
   (oo 31 (.bin .xor (tq 28) (tq 30)),q0),
   (oo 32 (.indexAddrA 4 1 (tq 1) (.const (.sc (.int .i64 3)))),q0),
   (oz (.store 1 (tq 32) (tq 31)),q0)])
 (.seq (.reg [oo 33 (.indexAddrA 4 1 (tq 1) (.const (.sc (.int .i64 0)))),
   oo 34 (.load false 1 (tq 33) false),
   oo 35 (.indexAddrA 4 1 (tq 1) (.const (.sc (.int .i64 3)))),
   oo 36 (.load false 1 (tq 35) false),
   oo 37 (.bin .add (tq 34) (tq 36)),
   oo 38 (.indexAddrA 4 1 (tq 1) (.const (.sc (.int .i64 0)))),
   oz (.store 1 (tq 38) (tq 37))])
 (.seq (.dreg [] [(oo 39 (.indexAddrA 4 1 (tq 1) (.const (.sc (.int .i64 3)))),q0),
   (oo 40 (.load false 1 (tq 39) false),q1),
   (oo 41 (.call 118 [((tq 40),0),((.const (.sc (.int .i64 21))),0)] []),q1),
   (oo 42 (.indexAddrA 4 1 (tq 1) (.const (.sc (.int .i64 0)))),q0),
   (oo 43 (.load false 1 (tq 42) false),q1),
   (oo 44 (.bin .xor (tq 41) (tq 43)),q0),
   (oo 45 (.indexAddrA 4 1 (tq 1) (.const (.sc (.int .i64 3)))),q0),
   (oz (.store 1 (tq 45) (tq 44)),q0)])
 (.seq (.reg [oo 46 (.indexAddrA 4 1 (tq 1) (.const (.sc (.int .i64 2)))),
   oo 47 (.load false 1 (tq 46) false),
   oo 48 (.indexAddrA 4 1 (tq 1) (.const (.sc (.int .i64 1)))),
   oo 49 (.load false 1 (tq 48) false),
   oo 50 (.bin .add (tq 47) (tq 49)),
   oo 51 (.indexAddrA 4 1 (tq 1) (.const (.sc (.int .i64 2)))),
   oz (.store 1 (tq 51) (tq 50))])
 (.seq (.dreg [] [(oo 52 (.indexAddrA 4 1 (tq 1) (.const (.sc (.int .i64 1)))),q0),
   (oo 53 (.load false 1 (tq 52) false),q1),
   (oo 54 (.call 118 [((tq 53),0),((.const (.sc (.int .i64 17))),0)] []),q1),
   (oo 55 (.indexAddrA 4 1 (tq 1) (.const (.sc (.int .i64 2)))),q0),
   (oo 56 (.load false 1 (tq 55) false),q1),
   (oo 57 (.bin .xor (tq 54) (tq 56)),q0),
   (oo 58 (.indexAddrA 4 1 (tq 1) (.const (.sc (.int .i64 1)))),q0),
   (oz (.store 1 (tq 58) (tq 57)),q0)])
 (.seq (.reg [oo 59 (.indexAddrA 4 1 (tq 1) (.const (.sc (.int .i64 2)))),
   oo 60 (.load false 1 (tq 59) false),
   oo 61 (.call 118 [((tq 60),0),((.const (.sc (.int .i64 32))),0)] []),
   oo 62 (.indexAddrA 4 1 (tq 1) (.const (.sc (.int .i64 2)))),
   oz (.store 1 (tq 62) (tq 61))])
 (.seq (.reg [oo 63 (.load true 4 (tq 1) false),
   oz (.store 4 (tq 2) (tq 63))])
 .ret))))))))))))⟩
def zrW:Hint:=⟨[],[],[none],[],[],false,false⟩
def zoL:Nat→Sh:=xP [(4,(.int .u64)),(6,(.int .u64)),(10,(.int .u64)),(13,(.int .u64)),(17,(.int .u64)),(21,(.int .u64)),(23,(.int .u64)),(27,(.int .u64)),(30,(.int .u64)),(34,(.int .u64)),(36,(.int .u64)),(40,(.int .u64)),(43,(.int .u64)),(47,(.int .u64)),(49,(.int .u64)),(53,(.int .u64)),(56,(.int .u64)),(60,(.int .u64))]
def zoJ (yd:xI) (L:Nat):CBC:=(zx 118 (zcw yd L) noC)
def zqh {β:Type} (yd:xI) (L:Nat) (p0:List V) (k_fin:List V→Option β):Option β :=
 cI .u64 p0 0 fun v0 =>
 cI .u64 p0 1 fun v1 =>
 lt (IntKind.wrap .u64 ((v0:Int)+v1)) fun x2 =>
 chk (1=1∧0+1≤(List.length p0)) (
 lt (zh p0 0 [(V.sc (.int .u64 x2))]) fun r3 =>
 cI .u64 r3 1 fun v4 =>
 yd β L v4 (13:Int) (fun v5 =>
 cI .u64 r3 0 fun v6 =>
 lt (zbe .u64 v5 v6) fun x7 =>
 chk (1=1∧1+1≤(List.length r3)) (
 lt (zh r3 1 [(V.sc (.int .u64 x7))]) fun r8 =>
 cI .u64 r8 0 fun v9 =>
 yd β L v9 (32:Int) (fun v10 =>
 chk (1=1∧0+1≤(List.length r8)) (
 lt (zh r8 0 [(V.sc (.int .u64 v10))]) fun r11 =>
 cI .u64 r11 2 fun v12 =>
 cI .u64 r11 3 fun v13 =>
 lt (IntKind.wrap .u64 ((v12:Int)+v13)) fun x14 =>
 chk (1=1∧2+1≤(List.length r11)) (
 lt (zh r11 2 [(V.sc (.int .u64 x14))]) fun r15 =>
 cI .u64 r15 3 fun v16 =>
 yd β L v16 (16:Int) (fun v17 =>
 cI .u64 r15 2 fun v18 =>
 lt (zbe .u64 v17 v18) fun x19 =>
 chk (1=1∧3+1≤(List.length r15)) (
 lt (zh r15 3 [(V.sc (.int .u64 x19))]) fun r20 =>
 cI .u64 r20 0 fun v21 =>
 cI .u64 r20 3 fun v22 =>
 lt (IntKind.wrap .u64 ((v21:Int)+v22)) fun x23 =>
 chk (1=1∧0+1≤(List.length r20)) (
 lt (zh r20 0 [(V.sc (.int .u64 x23))]) fun r24 =>
 cI .u64 r24 3 fun v25 =>
 yd β L v25 (21:Int) (fun v26 =>
 cI .u64 r24 0 fun v27 =>
 lt (zbe .u64 v26 v27) fun x28 =>
 chk (1=1∧3+1≤(List.length r24)) (
 lt (zh r24 3 [(V.sc (.int .u64 x28))]) fun r29 =>
 cI .u64 r29 2 fun v30 =>
 cI .u64 r29 1 fun v31 =>
 lt (IntKind.wrap .u64 ((v30:Int)+v31)) fun x32 =>
 chk (1=1∧2+1≤(List.length r29)) (
 lt (zh r29 2 [(V.sc (.int .u64 x32))]) fun r33 =>
 cI .u64 r33 1 fun v34 =>
 yd β L v34 (17:Int) (fun v35 =>
 cI .u64 r33 2 fun v36 =>
 lt (zbe .u64 v35 v36) fun x37 =>
 chk (1=1∧1+1≤(List.length r33)) (
 lt (zh r33 1 [(V.sc (.int .u64 x37))]) fun r38 =>
 cI .u64 r38 2 fun v39 =>
 yd β L v39 (32:Int) (fun v40 =>
 chk (1=1∧2+1≤(List.length r38)) (
 lt (zh r38 2 [(V.sc (.int .u64 v40))]) fun r41 =>
 chk (0+4≤(List.length r41)) (
 chk ((List.length (List.take 4 r41))=4∧0+4≤4) (
 lt (zh [(V.sc (.int .u64 (0:Int))),(V.sc (.int .u64 (0:Int))),(V.sc (.int .u64 (0:Int))),(V.sc (.int .u64 (0:Int)))] 0 (List.take 4 r41)) fun r42 =>
 chk (0=0∧(List.length r42)=4∧4≠0) (
 k_fin r42)))))))))))))))))))
theorem zzF {β:Type} (yd:xI) (L:Nat) (p0:List V) (k:KK β):xt zoL (zoJ yd L) L zkH [(V.agg p0)] [] k=zqh yd L p0 (fun p0=>k (V.agg p0) []):=by kernel_rfl
abbrev zaH:=∀ (β:Type),Nat→List V→(List V→Option β)→Option β
def xl (β:Type) (L:Nat) (p0:List V) (k_fin:List V→Option β):Option β:=zqh yd L p0 k_fin
def ziH (xl:zaH) (L:Nat) (β:Type) (args:List V) (bor:Bor) (k:KK β):Option β:=match args,bor with
 | [a0],[]=>aG a0 fun p0=>xl β L p0 (fun p0=>k (V.agg p0) [])
 | _,_=>none
theorem zzK (L:Nat) (β:Type) (args:List V) (bor:Bor) (k:KK β) (r:β) (h:ziH xl L β args bor k=some r):xt zoL (zoJ yd L) L zkH args bor k=some r:=by
 unfold ziH at h
 split at h
 ·have q:=xZ h; clear h; obtain ⟨p0,rfl,h⟩:=q
  exact (zzF yd L p0 k).trans h
 ·cases h
def zji:CF:=⟨19,[.cell 4 true 4],
 (.seq (.reg [oo 2 (.box true (tq 0)),
   oo 4 (.alloc true [(.sc (.int .u64 0)),(.sc (.int .u64 0)),(.sc (.int .u64 0)),(.sc (.int .u64 0))])])
 (.seq (.reg [oo 5 (.indexAddrA 4 1 (tq 2) (.const (.sc (.int .i64 3)))),
   oo 6 (.load false 1 (tq 5) false),
   oo 7 (.move (tq 1) false),
   oo 8 (.bin .xor (tq 6) (tq 7)),
   oo 9 (.indexAddrA 4 1 (tq 2) (.const (.sc (.int .i64 3)))),
   oz (.store 1 (tq 9) (tq 8))])
 (.seq (.reg [oo 10 (.load true 4 (tq 2) false),
   oo 11 (.call 116 [((tq 10),0)] []),
   oo 12 (.call 116 [((tq 11),0)] []),
   oz (.store 4 (tq 2) (tq 12))])
 (.seq (.reg [oo 13 (.indexAddrA 4 1 (tq 2) (.const (.sc (.int .i64 0)))),
   oo 14 (.load false 1 (tq 13) false),
   oo 15 (.move (tq 1) false),
   oo 16 (.bin .xor (tq 14) (tq 15)),
   oo 17 (.indexAddrA 4 1 (tq 2) (.const (.sc (.int .i64 0)))),
   oz (.store 1 (tq 17) (tq 16))])
 (.seq (.reg [oo 18 (.load true 4 (tq 2) false),
   oz (.store 4 (tq 4) (tq 18))])
 .ret)))))⟩
def zqo:Hint:=⟨[],[],[none],[],[],false,false⟩
def zne:Nat→Sh:=xP [(6,(.int .u64)),(14,(.int .u64))]
def zm0 (xl:zaH) (L:Nat):CBC:=(zx 116 (ziH xl L) noC)
def zoF {β:Type} (xl:zaH) (L:Nat) (p0:List V) (p1:Int) (k_fin:List V→Option β):Option β :=
 cI .u64 p0 3 fun v0 =>
 lt (zbe .u64 v0 p1) fun x1 =>
 chk (1=1∧3+1≤(List.length p0)) (
 lt (zh p0 3 [(V.sc (.int .u64 x1))]) fun r2 =>
 chk (0+4≤(List.length r2)) (
 xl β L (List.take 4 r2) (fun v3 =>
 xl β L v3 (fun v4 =>
 chk ((List.length v4)=4∧0+4≤(List.length r2)) (
 lt (zh r2 0 v4) fun r5 =>
 cI .u64 r5 0 fun v6 =>
 lt (zbe .u64 v6 p1) fun x7 =>
 chk (1=1∧0+1≤(List.length r5)) (
 lt (zh r5 0 [(V.sc (.int .u64 x7))]) fun r8 =>
 chk (0+4≤(List.length r8)) (
 chk ((List.length (List.take 4 r8))=4∧0+4≤4) (
 lt (zh [(V.sc (.int .u64 (0:Int))),(V.sc (.int .u64 (0:Int))),(V.sc (.int .u64 (0:Int))),(V.sc (.int .u64 (0:Int)))] 0 (List.take 4 r8)) fun r9 =>
 chk (0=0∧(List.length r9)=4∧4≠0) (
 k_fin r9)))))))))
theorem zyp {β:Type} (xl:zaH) (L:Nat) (p0:List V) (p1:Int) (k:KK β):xt zne (zm0 xl L) L zji [(V.agg p0),(V.sc (.int .u64 p1))] [] k=zoF xl L p0 p1 (fun p0=>k (V.agg p0) []):=by kernel_rfl
abbrev zbm:=∀ (β:Type),Nat→List V→Int→(List V→Option β)→Option β
def xr (β:Type) (L:Nat) (p0:List V) (p1:Int) (k_fin:List V→Option β):Option β:=zoF xl L p0 p1 k_fin
def zkJ (xr:zbm) (L:Nat) (β:Type) (args:List V) (bor:Bor) (k:KK β):Option β:=match args,bor with
 | [a0,a1],[]=>aG a0 fun p0=>aI .u64 a1 fun p1=>xr β L p0 p1 (fun p0=>k (V.agg p0) [])
 | _,_=>none
theorem zyy (L:Nat) (β:Type) (args:List V) (bor:Bor) (k:KK β) (r:β) (h:zkJ xr L β args bor k=some r):xt zne (zm0 xl L) L zji args bor k=some r:=by
 unfold zkJ at h
 split at h
 ·have q:=xZ h; clear h; obtain ⟨p0,rfl,h⟩:=q
  have q:=za5 h; clear h; obtain ⟨p1,rfl,h⟩:=q
  exact (zyp xl L p0 p1 k).trans h
 ·cases h
def zfc:CC:=(.seq (.seq (.reg [oo 22 (.move (tq 1) false),
   oo 23 (.lenS (tq 22)),
   oo 24 (.bin .geq (tq 23) (.const (.sc (.int .i64 8))))])
 (.cond (tq 24)
 .skip
 (.seq (.mask (bl 98 61) (bl 2305843008399998971 61))
 (.exit 0))))
 (.block 1 (.dreg [] [(oo 25 (.load true 4 (tq 5) false),ql 5 [] []),
   (oo 26 (.move (tq 1) false),q0),
   (oo 27 (.sliceS 1 (tq 26) none (some (.const (.sc (.int .i64 8)))) none),q0),
   (oo 28 (.call 115 [((tq 27),0)] []),qc [5] []),
   (oo 29 (.call 114 [((tq 25),0),((tq 28),0)] []),q0),
   (oo 30 (.move (tq 1) false),q0),
   (oo 31 (.sliceS 1 (tq 30) (some (.const (.sc (.int .i64 8)))) none none),q0),
   (oz (.store 4 (tq 5) (tq 29)),q0),
   (oo 1 (.move (tq 31) true),q0)])))
def zm6:CC:=(.seq (.dreg [] [(oo 32 (.load true 4 (tq 5) false),ql 5 [] []),
   (oo 33 (.move (tq 1) false),q0),
   (oo 34 (.call 115 [((tq 33),0)] []),qc [5] []),
   (oo 35 (.move (tq 6) false),q0),
   (oo 36 (.bin .rem (tq 35) (.const (.sc (.int .i64 256)))),q0),
   (oo 37 (.conv .u64 (tq 36)),q0),
   (oo 38 (.bin .shl (tq 37) (.const (.sc (.int .u64 56)))),q0),
   (oo 39 (.bin .or (tq 34) (tq 38)),q0),
   (oo 40 (.call 114 [((tq 32),0),((tq 39),0)] []),q0),
   (oz (.store 4 (tq 5) (tq 40)),q0)])
 (.seq (.reg [oo 41 (.indexAddrA 4 1 (tq 5) (.const (.sc (.int .i64 2)))),
   oo 42 (.load false 1 (tq 41) false),
   oo 43 (.bin .xor (tq 42) (.const (.sc (.int .u64 255)))),
   oo 44 (.indexAddrA 4 1 (tq 5) (.const (.sc (.int .i64 2)))),
   oz (.store 1 (tq 44) (tq 43))])
 (.seq (.reg [oo 45 (.load true 4 (tq 5) false),
   oo 46 (.call 116 [((tq 45),0)] []),
   oo 47 (.call 116 [((tq 46),0)] []),
   oo 48 (.call 116 [((tq 47),0)] []),
   oo 49 (.call 116 [((tq 48),0)] []),
   oz (.store 4 (tq 5) (tq 49))])
 (.seq (.reg [oo 50 (.indexAddrA 4 1 (tq 5) (.const (.sc (.int .i64 0)))),
   oo 51 (.load false 1 (tq 50) false),
   oo 52 (.indexAddrA 4 1 (tq 5) (.const (.sc (.int .i64 1)))),
   oo 53 (.load false 1 (tq 52) false),
   oo 54 (.bin .xor (tq 51) (tq 53)),
   oo 55 (.indexAddrA 4 1 (tq 5) (.const (.sc (.int .i64 2)))),
   oo 56 (.load false 1 (tq 55) false),
   oo 57 (.bin .xor (tq 54) (tq 56)),
   oo 58 (.indexAddrA 4 1 (tq 5) (.const (.sc (.int .i64 3)))),
   oo 59 (.load false 1 (tq 58) false),
   oo 60 (.bin .xor (tq 57) (tq 59)),
   oo 4 (.move (tq 60) false)])
 .ret))))
def zfC:CF:=⟨61,[.tmp 4],
 (.seq (.reg [oo 2 (.box true (tq 0)),
   oo 4 (.move (.const (.sc (.int .u64 0))) false)])
 (.seq (.reg [oo 7 (.indexAddrA 2 1 (tq 2) (.const (.sc (.int .i64 0)))),
   oo 8 (.load false 1 (tq 7) false),
   oo 9 (.bin .xor (tq 8) (.const (.sc (.int .u64 8317987319222330741)))),
   oo 10 (.indexAddrA 2 1 (tq 2) (.const (.sc (.int .i64 1)))),
   oo 11 (.load false 1 (tq 10) false),
   oo 12 (.bin .xor (tq 11) (.const (.sc (.int .u64 7237128888997146477)))),
   oo 13 (.indexAddrA 2 1 (tq 2) (.const (.sc (.int .i64 0)))),
   oo 14 (.load false 1 (tq 13) false),
   oo 15 (.bin .xor (tq 14) (.const (.sc (.int .u64 7816392313619706465)))),
   oo 16 (.indexAddrA 2 1 (tq 2) (.const (.sc (.int .i64 1)))),
   oo 17 (.load false 1 (tq 16) false),
   oo 18 (.bin .xor (tq 17) (.const (.sc (.int .u64 8387220255154660723)))),
   oo 19 (.build [(.sc (.int .u64 0)),(.sc (.int .u64 0)),(.sc (.int .u64 0)),(.sc (.int .u64 0))] [(0,1,(tq 9)),(1,1,(tq 12)),(2,1,(tq 15)),(3,1,(tq 18))]),
   oo 5 (.alloc true [(.sc (.int .u64 0)),(.sc (.int .u64 0)),(.sc (.int .u64 0)),(.sc (.int .u64 0))]),
   oz (.store 4 (tq 5) (tq 19))])
 (.seq (.reg [oo 20 (.move (tq 1) false),
   oo 21 (.lenS (tq 20)),
   oo 6 (.move (tq 21) false)])
 (.seq (.block 0 (.loop (bl 98 61) (bl 2305843008399998971 61)
 zfc))
 zm6))))⟩
def zuE:Hint:=⟨[(4,8)],[],[none,some ((bl 98 61),(bl 2305843008399998971 61)),none,some ((bl 98 61),(bl 2305843008399998971 61)),none,none],[],[],false,false⟩
def zc5:Nat→Sh:=xP [(8,(.int .u64)),(11,(.int .u64)),(14,(.int .u64)),(17,(.int .u64)),(42,(.int .u64)),(51,(.int .u64)),(53,(.int .u64)),(56,(.int .u64)),(59,(.int .u64))]
def zc6 (xo:zba) (xr:zbm) (xl:zaH) (L:Nat):CBC:=(zx 116 (ziH xl L) (zx 114 (zkJ xr L) (zx 115 (zkq xo L) noC)))
def zh2:St→St:=zaj 0 (bl 98 61) (bl 2305843008399998971 61)
def zf4 (p1:List (List V)) (p6:Int) (b5:List V):St:=⟨(jn 1 ((V.sl 1 p1)::(jn 3 ((V.ptr 5 0)::((V.sc (.int .i64 p6))::(jn 54 [])))))),(gn 5 ((.live true b5)::(gn 55 [])))⟩
def zmW (p1:List (List V)) (p6:Int) (b5:List V):St:=⟨(jn 1 ((V.sl 1 p1)::(jn 3 ((V.ptr 5 0)::((V.sc (.int .i64 p6))::(jn 54 [])))))),(gn 5 ((.live true b5)::(gn 55 [])))⟩
def ztC {β:Type} (xo:zba) (xr:zbm) (xl:zaH) (L:Nat) (p0:List V) (p1:List (List V)) (k_hbbbaa:List (List V)→Int→List V→Option β):Option β :=
 cI .u64 p0 0 fun v0 =>
 lt (zbe .u64 v0 (8317987319222330741:Int)) fun x1 =>
 cI .u64 p0 1 fun v2 =>
 lt (zbe .u64 v2 (7237128888997146477:Int)) fun x3 =>
 cI .u64 p0 0 fun v4 =>
 lt (zbe .u64 v4 (7816392313619706465:Int)) fun x5 =>
 cI .u64 p0 1 fun v6 =>
 lt (zbe .u64 v6 (8387220255154660723:Int)) fun x7 =>
 lt [(V.sc (.int .u64 x1)),(V.sc (.int .u64 x3)),(V.sc (.int .u64 x5)),(V.sc (.int .u64 x7))] fun r8 =>
 k_hbbbaa p1 ((List.length p1:Nat):Int) r8
theorem zBQ {β:Type} (xo:zba) (xr:zbm) (xl:zaH) (L:Nat) (p0:List V) (p1:List (List V)) (k:KK β):xt zc5 (zc6 xo xr xl L) L zfC [(V.agg p0),(V.sl 1 p1)] [] k=ztC xo xr xl L p0 p1 (fun p1 p6 b5=>yF (xm zc5 (zc6 xo xr xl L) 0 L zfc) zh2 L (zf4 p1 p6 b5) (xE 0 (xR (xm zc5 (zc6 xo xr xl L) 0 L zm6) (y5 0 (CF.res zfC) k)))):=by kernel_rfl
def zl9 {β:Type} (xo:zba) (xr:zbm) (xl:zaH) (L:Nat) (p1:List (List V)) (p6:Int) (b5:List V) (k_hbbbaa:List (List V)→Int→List V→Option β) (k_x0:List (List V)→Int→List V→Option β):Option β :=
 ifb (decide (((List.length p1:Nat):Int) ≥ (8:Int))) (
 chk (0+4≤(List.length b5)) (
 chk (0≤(8:Int)∧(8:Int)≤(((List.length p1):Nat):Int)) (
 xo β L (List.take 8 (List.drop 0 p1)) (fun v9 =>
 xr β L (List.take 4 b5) v9 (fun v10 =>
 chk (0≤(8:Int)∧(8:Int)≤(((List.length p1):Nat):Int)) (
 chk ((List.length v10)=4∧0+4≤(List.length b5)) (
 lt (zh b5 0 v10) fun r11 =>
 k_hbbbaa (List.take ((List.length p1) - 8) (List.drop 8 p1)) p6 r11))))))) (
 k_x0 p1 p6 b5)
theorem zws {β:Type} (xo:zba) (xr:zbm) (xl:zaH) (L:Nat) (p1:List (List V)) (p6:Int) (b5:List V) (X:St→Option β) (K:KT β):xm zc5 (zc6 xo xr xl L) 0 L zfc (zf4 p1 p6 b5) (zbR zh2 X K)=zl9 xo xr xl L p1 p6 b5 (fun p1 p6 b5=>X (zf4 p1 p6 b5)) (fun p1 p6 b5=>K (.exit 0) (zmW p1 p6 b5)):=by kernel_rfl
def zgo {β:Type} (xo:zba) (xr:zbm) (xl:zaH) (L:Nat) (p1:List (List V)) (p6:Int) (b5:List V) (k_fin:Int→Option β):Option β :=
 chk (0+4≤(List.length b5)) (
 xo β L p1 (fun v12 =>
 lt (Int.tmod p6 (256:Int)) fun x13 =>
 lt (IntKind.wrap .u64 x13) fun x14 =>
 lt (zr8 .u64 x14 (56:Int)) fun x15 =>
 lt (ior .u64 v12 x15) fun x16 =>
 xr β L (List.take 4 b5) x16 (fun v17 =>
 chk ((List.length v17)=4∧0+4≤(List.length b5)) (
 lt (zh b5 0 v17) fun r18 =>
 cI .u64 r18 2 fun v19 =>
 lt (zbe .u64 v19 (255:Int)) fun x20 =>
 chk (1=1∧2+1≤(List.length r18)) (
 lt (zh r18 2 [(V.sc (.int .u64 x20))]) fun r21 =>
 chk (0+4≤(List.length r21)) (
 xl β L (List.take 4 r21) (fun v22 =>
 xl β L v22 (fun v23 =>
 xl β L v23 (fun v24 =>
 xl β L v24 (fun v25 =>
 chk ((List.length v25)=4∧0+4≤(List.length r21)) (
 lt (zh r21 0 v25) fun r26 =>
 cI .u64 r26 0 fun v27 =>
 cI .u64 r26 1 fun v28 =>
 lt (zbe .u64 v27 v28) fun x29 =>
 cI .u64 r26 2 fun v30 =>
 lt (zbe .u64 x29 v30) fun x31 =>
 cI .u64 r26 3 fun v32 =>
 lt (zbe .u64 x31 v32) fun x33 =>
 k_fin x33)))))))))))
theorem zur {β:Type} (xo:zba) (xr:zbm) (xl:zaH) (L:Nat) (p1:List (List V)) (p6:Int) (b5:List V) (k:KK β):(xE 0 (xR (xm zc5 (zc6 xo xr xl L) 0 L zm6) (y5 0 (CF.res zfC) k))) (.exit 0) (zmW p1 p6 b5)=zgo xo xr xl L p1 p6 b5 (fun p0=>k (V.sc (.int .u64 p0)) []):=by kernel_rfl
def zfH {β:Type} (xo:zba) (xr:zbm) (xl:zaH) (L:Nat) (k_x0:List (List V)→Int→List V→Option β):Nat→List (List V)→Int→List V→Option β
 | 0,_,_,_=>none
 | n+1,p1,p6,b5=>zl9 xo xr xl L p1 p6 b5 (fun p1 p6 b5=>zfH xo xr xl L k_x0 n p1 p6 b5) k_x0
theorem zot {β:Type} (xo:zba) (xr:zbm) (xl:zaH) (L:Nat) (K:KT β):∀ (n:Nat) (p1:List (List V)) (p6:Int) (b5:List V),yF (xm zc5 (zc6 xo xr xl L) 0 L zfc) zh2 n (zf4 p1 p6 b5) K=zfH xo xr xl L (fun p1 p6 b5=>K (.exit 0) (zmW p1 p6 b5)) n p1 p6 b5:=by
 intro n
 induction n with
 | zero=>intros; rfl
 | succ n ih =>
  intro p1 p6 b5
  refine (zws xo xr xl L p1 p6 b5 (fun σ=>yF (xm zc5 (zc6 xo xr xl L) 0 L zfc) zh2 n σ K) K).trans ?_
  simp only [ih]
  rfl
def zpc {β:Type} (xo:zba) (xr:zbm) (xl:zaH) (L:Nat) (p0:List V) (p1:List (List V)) (k_fin:Int→Option β):Option β :=
 ztC xo xr xl L p0 p1 (fun p1 p6 b5=>zfH xo xr xl L (fun p1 p6 b5=>zgo xo xr xl L p1 p6 b5 k_fin) L p1 p6 b5)
theorem zBt {β:Type} (xo:zba) (xr:zbm) (xl:zaH) (L:Nat) (p0:List V) (p1:List (List V)) (k:KK β):xt zc5 (zc6 xo xr xl L) L zfC [(V.agg p0),(V.sl 1 p1)] [] k=zpc xo xr xl L p0 p1 (fun p0=>k (V.sc (.int .u64 p0)) []):=by
 refine (zBQ xo xr xl L p0 p1 k).trans ?_
 unfold zpc
 first
  | (simp only [zot,zur]; done)
  | (simp only [zot]; rfl)
abbrev zg3:=∀ (β:Type),Nat→List V→List (List V)→(Int→Option β)→Option β
def yM (β:Type) (L:Nat) (p0:List V) (p1:List (List V)) (k_fin:Int→Option β):Option β:=zpc xo xr xl L p0 p1 k_fin
def zlT (yM:zg3) (L:Nat) (β:Type) (args:List V) (bor:Bor) (k:KK β):Option β:=match args,bor with
 | [a0,a1],[]=>aG a0 fun p0=>aL 1 a1 fun p1=>yM β L p0 p1 (fun p0=>k (V.sc (.int .u64 p0)) [])
 | _,_=>none
theorem zCb (L:Nat) (β:Type) (args:List V) (bor:Bor) (k:KK β) (r:β) (h:zlT yM L β args bor k=some r):xt zc5 (zc6 xo xr xl L) L zfC args bor k=some r:=by
 unfold zlT at h
 split at h
 ·have q:=xZ h; clear h; obtain ⟨p0,rfl,h⟩:=q
  have q:=y4 h; clear h; obtain ⟨p1,rfl,h⟩:=q
  exact (zBt xo xr xl L p0 p1 k).trans h
 ·cases h
def zkF:CF:=⟨6,[.tmp 2],
 (.seq (.reg [oo 1 (.box true (tq 0)),
   oo 2 (.move (.const (.sc (.int .u32 0))) false)])
 (.seq (.reg [oo 3 (.fieldAddr 0 (tq 1)),
   oo 4 (.load false 1 (tq 3) false),
   oo 5 (.bin .shr (tq 4) (.const (.sc (.int .u64 16)))),
   oo 2 (.move (tq 5) false)])
 .ret))⟩
def zrl:Hint:=⟨[],[],[none],[],[],false,false⟩
def zoI:Nat→Sh:=xP [(4,(.int .u32))]
def zo6 (L:Nat):CBC:=noC
def zql {β:Type} (L:Nat) (p0:List V) (k_fin:Int→Option β):Option β :=
 cI .u32 p0 0 fun v0 =>
 lt (zo0 .u32 v0 (16:Int)) fun x1 =>
 k_fin x1
theorem zzg {β:Type} (L:Nat) (p0:List V) (k:KK β):xt zoI (zo6 L) L zkF [(V.agg p0)] [] k=zql L p0 (fun p0=>k (V.sc (.int .u32 p0)) []):=by kernel_rfl
abbrev zap:=∀ (β:Type),Nat→List V→(Int→Option β)→Option β
def yk (β:Type) (L:Nat) (p0:List V) (k_fin:Int→Option β):Option β:=zql L p0 k_fin
def ze1 (yk:zap) (L:Nat) (β:Type) (args:List V) (bor:Bor) (k:KK β):Option β:=match args,bor with
 | [a0],[]=>aG a0 fun p0=>yk β L p0 (fun p0=>k (V.sc (.int .u32 p0)) [])
 | _,_=>none
theorem zzr (L:Nat) (β:Type) (args:List V) (bor:Bor) (k:KK β) (r:β) (h:ze1 yk L β args bor k=some r):xt zoI (zo6 L) L zkF args bor k=some r:=by
 unfold ze1 at h
 split at h
 ·have q:=xZ h; clear h; obtain ⟨p0,rfl,h⟩:=q
  exact (zzg L p0 k).trans h
 ·cases h
def zfi:CF:=⟨30,[.tmp 4],
 (.seq (.reg [oo 2 (.box true (tq 0)),
   oo 3 (.box true (tq 1)),
   oo 4 (.move (.const (.sc (.int .i64 0))) false)])
 (.seq (.reg [oo 7 (.load true 32 (tq 2) false),
   oo 8 (.call 110 [((tq 7),0)] []),
   oo 5 (.alloc true [(.sc (.int .u64 0)),(.sc (.int .u64 0))]),
   oz (.store 2 (tq 5) (tq 8))])
 (.seq (.dreg [] [(oo 9 (.load true 2 (tq 5) false),ql 5 [3] [10]),
   (oo 10 (.buildSlice 1 1 [(.sc (.int .u8 0))] [(0,1,(.const (.sc (.int .u8 4))))]),qn [5,3] []),
   (oo 11 (.fieldAddr 0 (tq 3)),q0),
   (oo 12 (.load false 1 (tq 11) false),ql 3 [5] [10]),
   (oo 13 (.call 159 [((tq 10),0),((tq 12),0)] []),qc [5,3] []),
   (oo 14 (.fieldAddr 1 (tq 3)),q0),
   (oo 15 (.load false 1 (tq 14) false),ql 3 [5] [10]),
   (oo 16 (.call 304 [((tq 13),0),((tq 15),0)] []),qc [5] []),
   (oo 17 (.call 106 [((tq 9),0),((tq 16),0)] []),q0),
   (oo 18 (.bin .rem (tq 17) (.const (.sc (.int .u64 4)))),q0),
   (oo 6 (.move (tq 18) false),q0)])
 (.seq (.dreg [] [(oo 19 (.load true 2 (tq 5) false),ql 5 [3] [20]),
   (oo 20 (.buildSlice 1 1 [(.sc (.int .u8 0))] [(0,1,(.const (.sc (.int .u8 3))))]),qn [5,3] []),
   (oo 21 (.load true 3 (tq 3) false),ql 3 [5] [20]),
   (oo 22 (.call 294 [((tq 21),0)] []),qc [5] [20]),
   (oo 23 (.call 159 [((tq 20),0),((tq 22),0)] []),qc [5] []),
   (oo 24 (.move (tq 6) false),q0),
   (oo 25 (.conv .u32 (tq 24)),q0),
   (oo 26 (.call 159 [((tq 23),0),((tq 25),0)] []),qc [5] []),
   (oo 27 (.call 106 [((tq 19),0),((tq 26),0)] []),q0),
   (oo 28 (.bin .rem (tq 27) (.const (.sc (.int .u64 64)))),q0),
   (oo 29 (.conv .i64 (tq 28)),q0),
   (oo 4 (.move (tq 29) false),q0)])
 .ret))))⟩
def zlF:Hint:=⟨[],[],[none],[],[],false,false⟩
def zib:Nat→Sh:=xP [(12,(.int .u32)),(15,(.int .u16))]
def zh8 (zQ:zg5) (xx:zcL) (yS:zhg) (yM:zg3) (yk:zap) (L:Nat):CBC:=(zx 294 (ze1 yk L) (zx 106 (zlT yM L) (zx 304 (zhd yS L) (zx 159 (ze8 xx L) (zx 110 (zlL zQ L) noC)))))
def ziX {β:Type} (zQ:zg5) (xx:zcL) (yS:zhg) (yM:zg3) (yk:zap) (L:Nat) (p0 p1:List V) (k_fin:Int→Option β):Option β :=
 chk (0+32≤(List.length p0)) (
 zQ β L (List.take 32 p0) (fun v0 =>
 chk ((List.length v0)=2∧0+2≤2) (
 lt (zh [(V.sc (.int .u64 (0:Int))),(V.sc (.int .u64 (0:Int)))] 0 v0) fun r1 =>
 chk (0+2≤(List.length r1)) (
 cI .u32 p1 0 fun v2 =>
 xx β L (zl 1 1 [(V.sc (.int .u8 (4:Int)))]) v2 (fun v3 =>
 cI .u16 p1 1 fun v4 =>
 yS β L v3 v4 (fun v5 =>
 yM β L (List.take 2 r1) v5 (fun v6 =>
 lt (Int.tmod v6 (4:Int)) fun x7 =>
 chk (0+2≤(List.length r1)) (
 chk (0+3≤(List.length p1)) (
 yk β L (List.take 3 p1) (fun v8 =>
 xx β L (zl 1 1 [(V.sc (.int .u8 (3:Int)))]) v8 (fun v9 =>
 lt (IntKind.wrap .u32 x7) fun x10 =>
 xx β L v9 x10 (fun v11 =>
 yM β L (List.take 2 r1) v11 (fun v12 =>
 lt (Int.tmod v12 (64:Int)) fun x13 =>
 lt (IntKind.wrap .i64 x13) fun x14 =>
 k_fin x14)))))))))))))
theorem ztF {β:Type} (zQ:zg5) (xx:zcL) (yS:zhg) (yM:zg3) (yk:zap) (L:Nat) (p0 p1:List V) (k:KK β):xt zib (zh8 zQ xx yS yM yk L) L zfi [(V.agg p0),(V.agg p1)] [] k=ziX zQ xx yS yM yk L p0 p1 (fun p0=>k (V.sc (.int .i64 p0)) []):=by kernel_rfl
abbrev xL:=∀ (β:Type),Nat→List V→List V→(Int→Option β)→Option β
def xf (β:Type) (L:Nat) (p0 p1:List V) (k_fin:Int→Option β):Option β:=ziX zQ xx yS yM yk L p0 p1 k_fin
def zd7 (xf:xL) (L:Nat) (β:Type) (args:List V) (bor:Bor) (k:KK β):Option β:=match args,bor with
 | [a0,a1],[]=>aG a0 fun p0=>aG a1 fun p1=>xf β L p0 p1 (fun p0=>k (V.sc (.int .i64 p0)) [])
 | _,_=>none
theorem ztM (L:Nat) (β:Type) (args:List V) (bor:Bor) (k:KK β) (r:β) (h:zd7 xf L β args bor k=some r):xt zib (zh8 zQ xx yS yM yk L) L zfi args bor k=some r:=by
 unfold zd7 at h
 split at h
 ·have q:=xZ h; clear h; obtain ⟨p0,rfl,h⟩:=q
  have q:=xZ h; clear h; obtain ⟨p1,rfl,h⟩:=q
  exact (ztF zQ xx yS yM yk L p0 p1 k).trans h
 ·cases h
def zfp:CF:=⟨30,[.tmp 6],
 (.seq (.reg [oo 3 (.box true (tq 0)),
   oo 4 (.box true (tq 1)),
   oo 6 (.move (.const (.sc (.int .i64 0))) false)])
 (.seq (.reg [oo 9 (.load true 32 (tq 3) false),
   oo 10 (.call 110 [((tq 9),0)] []),
   oo 7 (.alloc true [(.sc (.int .u64 0)),(.sc (.int .u64 0))]),
   oz (.store 2 (tq 7) (tq 10))])
 (.seq (.dreg [] [(oo 11 (.load true 2 (tq 7) false),ql 7 [4] [12]),
   (oo 12 (.buildSlice 1 1 [(.sc (.int .u8 0))] [(0,1,(.const (.sc (.int .u8 2))))]),qn [7,4] []),
   (oo 13 (.load true 3 (tq 4) false),ql 4 [7] [12]),
   (oo 14 (.call 294 [((tq 13),0)] []),qc [7] [12]),
   (oo 15 (.call 159 [((tq 12),0),((tq 14),0)] []),qc [7] []),
   (oo 16 (.move (tq 2) false),q0),
   (oo 17 (.call 159 [((tq 15),0),((tq 16),0)] []),qc [7] []),
   (oo 18 (.call 106 [((tq 11),0),((tq 17),0)] []),q0),
   (oo 19 (.bin .rem (tq 18) (.const (.sc (.int .u64 4)))),q0),
   (oo 8 (.move (tq 19) false),q0)])
 (.seq (.dreg [] [(oo 20 (.load true 2 (tq 7) false),ql 7 [] [21]),
   (oo 21 (.buildSlice 1 1 [(.sc (.int .u8 0))] [(0,1,(.const (.sc (.int .u8 1))))]),qn [7] []),
   (oo 22 (.move (tq 2) false),q0),
   (oo 23 (.call 159 [((tq 21),0),((tq 22),0)] []),qc [7] []),
   (oo 24 (.move (tq 8) false),q0),
   (oo 25 (.conv .u32 (tq 24)),q0),
   (oo 26 (.call 159 [((tq 23),0),((tq 25),0)] []),qc [7] []),
   (oo 27 (.call 106 [((tq 20),0),((tq 26),0)] []),q0),
   (oo 28 (.bin .rem (tq 27) (.const (.sc (.int .u64 64)))),q0),
   (oo 29 (.conv .i64 (tq 28)),q0),
   (oo 6 (.move (tq 29) false),q0)])
 .ret))))⟩
def zlE:Hint:=⟨[],[],[none],[],[],false,false⟩
def zif:Nat→Sh:=xP []
def zh4 (zQ:zg5) (yk:zap) (xx:zcL) (yM:zg3) (L:Nat):CBC:=(zx 106 (zlT yM L) (zx 159 (ze8 xx L) (zx 294 (ze1 yk L) (zx 110 (zlL zQ L) noC))))
def zi1 {β:Type} (zQ:zg5) (yk:zap) (xx:zcL) (yM:zg3) (L:Nat) (p0 p1:List V) (p2:Int) (k_fin:Int→Option β):Option β :=
 chk (0+32≤(List.length p0)) (
 zQ β L (List.take 32 p0) (fun v0 =>
 chk ((List.length v0)=2∧0+2≤2) (
 lt (zh [(V.sc (.int .u64 (0:Int))),(V.sc (.int .u64 (0:Int)))] 0 v0) fun r1 =>
 chk (0+2≤(List.length r1)) (
 chk (0+3≤(List.length p1)) (
 yk β L (List.take 3 p1) (fun v2 =>
 xx β L (zl 1 1 [(V.sc (.int .u8 (2:Int)))]) v2 (fun v3 =>
 xx β L v3 p2 (fun v4 =>
 yM β L (List.take 2 r1) v4 (fun v5 =>
 lt (Int.tmod v5 (4:Int)) fun x6 =>
 chk (0+2≤(List.length r1)) (
 xx β L (zl 1 1 [(V.sc (.int .u8 (1:Int)))]) p2 (fun v7 =>
 lt (IntKind.wrap .u32 x6) fun x8 =>
 xx β L v7 x8 (fun v9 =>
 yM β L (List.take 2 r1) v9 (fun v10 =>
 lt (Int.tmod v10 (64:Int)) fun x11 =>
 lt (IntKind.wrap .i64 x11) fun x12 =>
 k_fin x12)))))))))))))
theorem ztj {β:Type} (zQ:zg5) (yk:zap) (xx:zcL) (yM:zg3) (L:Nat) (p0 p1:List V) (p2:Int) (k:KK β):xt zif (zh4 zQ yk xx yM L) L zfp [(V.agg p0),(V.agg p1),(V.sc (.int .u32 p2))] [] k=zi1 zQ yk xx yM L p0 p1 p2 (fun p0=>k (V.sc (.int .i64 p0)) []):=by kernel_rfl
abbrev xu:=∀ (β:Type),Nat→List V→List V→Int→(Int→Option β)→Option β
def zb (β:Type) (L:Nat) (p0 p1:List V) (p2:Int) (k_fin:Int→Option β):Option β:=zi1 zQ yk xx yM L p0 p1 p2 k_fin
def zd8 (zb:xu) (L:Nat) (β:Type) (args:List V) (bor:Bor) (k:KK β):Option β:=match args,bor with
 | [a0,a1,a2],[]=>aG a0 fun p0=>aG a1 fun p1=>aI .u32 a2 fun p2=>zb β L p0 p1 p2 (fun p0=>k (V.sc (.int .i64 p0)) [])
 | _,_=>none
theorem zty (L:Nat) (β:Type) (args:List V) (bor:Bor) (k:KK β) (r:β) (h:zd8 zb L β args bor k=some r):xt zif (zh4 zQ yk xx yM L) L zfp args bor k=some r:=by
 unfold zd8 at h
 split at h
 ·have q:=xZ h; clear h; obtain ⟨p0,rfl,h⟩:=q
  have q:=xZ h; clear h; obtain ⟨p1,rfl,h⟩:=q
  have q:=za5 h; clear h; obtain ⟨p2,rfl,h⟩:=q
  exact (ztj zQ yk xx yM L p0 p1 p2 k).trans h
 ·cases h
def zlV:CF:=⟨17,[.tmp 4],
 (.seq (.reg [oo 2 (.box true (tq 0)),
   oo 3 (.box true (tq 1)),
   oo 4 (.move (.const (.sc (.bool false))) false)])
 (.seq (.reg [oo 5 (.fieldAddr 0 (tq 2)),
   oo 6 (.load false 1 (tq 5) false),
   oo 7 (.fieldAddr 0 (tq 3)),
   oo 8 (.load false 1 (tq 7) false),
   oo 9 (.bin .eql (tq 6) (tq 8)),
   oo 10 (.move (tq 9) false),
   ⟨(some 11),false,(some (10,true)),.fieldAddr 1 (tq 2)⟩,
   ⟨(some 12),false,(some (10,true)),.load false 1 (tq 11) false⟩,
   ⟨(some 13),false,(some (10,true)),.fieldAddr 1 (tq 3)⟩,
   ⟨(some 14),false,(some (10,true)),.load false 1 (tq 13) false⟩,
   ⟨(some 15),false,(some (10,true)),.bin .eql (tq 12) (tq 14)⟩,
   oo 16 (.pick (tq 10) (tq 15) (.const (.sc (.bool false)))),
   oo 4 (.move (tq 16) false)])
 .ret))⟩
def zsY:Hint:=⟨[],[],[none],[],[],false,false⟩
def zqf:Nat→Sh:=xP [(6,(.int .u32)),(8,(.int .u32)),(12,(.int .u16)),(14,(.int .u16))]
def zpZ (L:Nat):CBC:=noC
def zrT {β:Type} (L:Nat) (p0 p1:List V) (k_fin:Bool→Option β):Option β :=
 cI .u32 p0 0 fun v0 =>
 cI .u32 p1 0 fun v1 =>
 ifb ((v0:Int) == v1) (
 cI .u16 p0 1 fun v2 =>
 cI .u16 p1 1 fun v3 =>
 k_fin ((v2:Int) == v3)) (
 k_fin false)
theorem zBj {β:Type} (L:Nat) (p0 p1:List V) (k:KK β):xt zqf (zpZ L) L zlV [(V.agg p0),(V.agg p1)] [] k=zrT L p0 p1 (fun p0=>k (V.sc (.bool p0)) []):=by kernel_rfl
abbrev zN:=∀ (β:Type),Nat→List V→List V→(Bool→Option β)→Option β
def xg (β:Type) (L:Nat) (p0 p1:List V) (k_fin:Bool→Option β):Option β:=zrT L p0 p1 k_fin
def zj5 (xg:zN) (L:Nat) (β:Type) (args:List V) (bor:Bor) (k:KK β):Option β:=match args,bor with
 | [a0,a1],[]=>aG a0 fun p0=>aG a1 fun p1=>xg β L p0 p1 (fun p0=>k (V.sc (.bool p0)) [])
 | _,_=>none
theorem zAH (L:Nat) (β:Type) (args:List V) (bor:Bor) (k:KK β) (r:β) (h:zj5 xg L β args bor k=some r):xt zqf (zpZ L) L zlV args bor k=some r:=by
 unfold zj5 at h
 split at h
 ·have q:=xZ h; clear h; obtain ⟨p0,rfl,h⟩:=q
  have q:=xZ h; clear h; obtain ⟨p1,rfl,h⟩:=q
  exact (zBj L p0 p1 k).trans h
 ·cases h
def zff:CC:=(.seq (.seq (.reg [oo 6 (.move (tq 5) false),
   oo 7 (.move (tq 0) false),
   oo 8 (.lenS (tq 7)),
   oo 9 (.bin .lss (tq 6) (tq 8))])
 (.cond (tq 9)
 .skip
 (.seq (.mask (bl 0 20) (bl 786119 20))
 (.exit 0))))
 (.seq (.block 1 (.seq (.dreg [] [(oo 12 (.move (tq 0) false),q0),
   (oo 13 (.move (tq 5) false),q0),
   (oo 14 (.indexAddrS 5 (tq 12) (tq 13)),q0),
   (oo 15 (.fieldAddr 1 (tq 14)),q0),
   (oo 16 (.load true 3 (tq 15) false),q1),
   (oo 17 (.load true 3 (tq 3) false),{ q1 with root:=some 3 }),
   (oo 18 (.call 303 [((tq 16),0),((tq 17),0)] []),q0)])
 (.cond (tq 18)
 (.seq (.reg [oo 19 (.move (tq 5) false),
   oo 4 (.move (tq 19) false)])
 (.seq (.mask (bl 16 20) (bl 786135 20))
 .ret))
 .skip)))
 (.reg [oo 10 (.move (tq 5) false),
   oo 11 (.bin .add (tq 10) (.const (.sc (.int .i64 1)))),
   oo 5 (.move (tq 11) false)])))
def zkQ:CC:=(.seq (.reg [oo 4 (.move (.const (.sc (.int .i64 (-1)))) false)])
 .ret)
def zde:CF:=⟨20,[.tmp 4],
 (.seq (.reg [oo 3 (.box true (tq 1)),
   oo 4 (.move (.const (.sc (.int .i64 0))) false)])
 (.seq (.seq (.reg [oo 5 (.move (.const (.sc (.int .i64 0))) false)])
 (.block 0 (.loop (bl 41 20) (bl 786159 20)
 zff)))
 zkQ))⟩
def zsR:Hint:=⟨[],[],[none,some ((bl 41 20),(bl 786159 20)),none,some ((bl 0 20),(bl 786119 20)),none,none,some ((bl 16 20),(bl 786135 20)),none],[],[],false,false⟩
def zb9:Nat→Sh:=xP []
def zcb (xg:zN) (L:Nat):CBC:=(zx 303 (zj5 xg L) noC)
def ziy:St→St:=zaj 0 (bl 41 20) (bl 786159 20)
def zf5 (p0:List (List V)) (p5:Int) (b3:List V):St:=⟨((V.sl 5 p0)::(jn 2 ((V.ptr 3 0)::(jn 1 ((V.sc (.int .i64 p5))::(jn 14 [])))))),(gn 3 ((.live true b3)::(gn 16 [])))⟩
def zlk (p4:Int):St:=⟨(jn 4 ((V.sc (.int .i64 p4))::(jn 15 []))),(gn 20 [])⟩
def zmo:St:=⟨(jn 20 []),(gn 20 [])⟩
def zsh {β:Type} (xg:zN) (L:Nat) (p0:List (List V)) (p1:List V) (k_hbaba:List (List V)→Int→List V→Option β):Option β :=
 k_hbaba p0 (0:Int) p1
theorem zA6 {β:Type} (xg:zN) (L:Nat) (p0:List (List V)) (p1:List V) (k:KK β):xt zb9 (zcb xg L) L zde [(V.sl 5 p0),(V.agg p1)] [] k=zsh xg L p0 p1 (fun p0 p5 b3=>yF (xm zb9 (zcb xg L) 0 L zff) ziy L (zf5 p0 p5 b3) (xE 0 (xR (xm zb9 (zcb xg L) 0 L zkQ) (y5 0 (CF.res zde) k)))):=by kernel_rfl
def zme {β:Type} (xg:zN) (L:Nat) (p0:List (List V)) (p5:Int) (b3:List V) (k_ret:Int→Option β) (k_hbaba:List (List V)→Int→List V→Option β) (k_x0:Option β):Option β :=
 ifb (decide (p5 < ((List.length p0:Nat):Int))) (
 idx p0 p5 fun c0 =>
 chk (0+3≤(List.length b3)) (
 xg β L (List.take 3 (List.drop 1 c0)) (List.take 3 b3) (fun v1 =>
 ifb v1 (
 k_ret p5) (
 lt (IntKind.wrap .i64 ((p5:Int)+(1:Int))) fun x2 =>
 k_hbaba p0 x2 b3)))) (
 k_x0)
theorem zwh {β:Type} (xg:zN) (L:Nat) (p0:List (List V)) (p5:Int) (b3:List V) (X:St→Option β) (K:KT β):xm zb9 (zcb xg L) 0 L zff (zf5 p0 p5 b3) (zbR ziy X K)=zme xg L p0 p5 b3 (fun p4=>K .ret (zlk p4)) (fun p0 p5 b3=>X (zf5 p0 p5 b3)) (K (.exit 0) (zmo)):=by kernel_rfl
def zoj {β:Type} (xg:zN) (L:Nat) (p4:Int) (k_fin:Int→Option β):Option β :=
 k_fin p4
theorem ztz {β:Type} (xg:zN) (L:Nat) (p4:Int) (k:KK β):(xE 0 (xR (xm zb9 (zcb xg L) 0 L zkQ) (y5 0 (CF.res zde) k))) .ret (zlk p4)=zoj xg L p4 (fun p0=>k (V.sc (.int .i64 p0)) []):=by kernel_rfl
def zpI {β:Type} (xg:zN) (L:Nat) (k_fin:Int→Option β):Option β :=
 k_fin (-1:Int)
theorem zup {β:Type} (xg:zN) (L:Nat) (k:KK β):(xE 0 (xR (xm zb9 (zcb xg L) 0 L zkQ) (y5 0 (CF.res zde) k))) (.exit 0) (zmo)=zpI xg L (fun p0=>k (V.sc (.int .i64 p0)) []):=by kernel_rfl
def zfO {β:Type} (xg:zN) (L:Nat) (k_ret:Int→Option β) (k_x0:Option β):Nat→List (List V)→Int→List V→Option β
 | 0,_,_,_=>none
 | n+1,p0,p5,b3=>zme xg L p0 p5 b3 k_ret (fun p0 p5 b3=>zfO xg L k_ret k_x0 n p0 p5 b3) k_x0
theorem zop {β:Type} (xg:zN) (L:Nat) (K:KT β):∀ (n:Nat) (p0:List (List V)) (p5:Int) (b3:List V),yF (xm zb9 (zcb xg L) 0 L zff) ziy n (zf5 p0 p5 b3) K=zfO xg L (fun p4=>K .ret (zlk p4)) (K (.exit 0) (zmo)) n p0 p5 b3:=by
 intro n
 induction n with
 | zero=>intros; rfl
 | succ n ih =>
  intro p0 p5 b3
  refine (zwh xg L p0 p5 b3 (fun σ=>yF (xm zb9 (zcb xg L) 0 L zff) ziy n σ K) K).trans ?_
  simp only [ih]
  rfl
def znR {β:Type} (xg:zN) (L:Nat) (p0:List (List V)) (p1:List V) (k_fin:Int→Option β):Option β :=
 zsh xg L p0 p1 (fun p0 p5 b3=>zfO xg L (fun p4=>zoj xg L p4 k_fin) (zpI xg L k_fin) L p0 p5 b3)
theorem zAP {β:Type} (xg:zN) (L:Nat) (p0:List (List V)) (p1:List V) (k:KK β):xt zb9 (zcb xg L) L zde [(V.sl 5 p0),(V.agg p1)] [] k=znR xg L p0 p1 (fun p0=>k (V.sc (.int .i64 p0)) []):=by
 refine (zA6 xg L p0 p1 k).trans ?_
 unfold znR
 first
  | (simp only [zop,ztz,zup]; done)
  | (simp only [zop]; rfl)
abbrev xJ:=∀ (β:Type),Nat→List (List V)→List V→(Int→Option β)→Option β
def ye (β:Type) (L:Nat) (p0:List (List V)) (p1:List V) (k_fin:Int→Option β):Option β:=znR xg L p0 p1 k_fin
def zhs (ye:xJ) (L:Nat) (β:Type) (args:List V) (bor:Bor) (k:KK β):Option β:=match args,bor with
 | [a0,a1],[]=>aL 5 a0 fun p0=>aG a1 fun p1=>ye β L p0 p1 (fun p0=>k (V.sc (.int .i64 p0)) [])
 | _,_=>none
theorem zA4 (L:Nat) (β:Type) (args:List V) (bor:Bor) (k:KK β) (r:β) (h:zhs ye L β args bor k=some r):xt zb9 (zcb xg L) L zde args bor k=some r:=by
 unfold zhs at h
 split at h
 ·have q:=y4 h; clear h; obtain ⟨p0,rfl,h⟩:=q
  have q:=xZ h; clear h; obtain ⟨p1,rfl,h⟩:=q
  exact (zAP xg L p0 p1 k).trans h
 ·cases h
def zd2:CC:=(.seq (.seq (.reg [oo 12 (.move (tq 7) false),
   oo 13 (.move (tq 1) false),
   oo 14 (.lenS (tq 13)),
   oo 15 (.bin .lss (tq 12) (tq 14))])
 (.cond (tq 15)
 .skip
 (.seq (.mask (bl 0 84) (bl 18133887294219300164845111 84))
 (.exit 0))))
 (.seq (.block 1 (.seq (.dreg [] [(oo 18 (.load true 32 (tq 3) false),{ q1 with root:=some 3 }),
   (oo 19 (.move (tq 1) false),q0),
   (oo 20 (.move (tq 7) false),q0),
   (oo 21 (.indexAddrS 5 (tq 19) (tq 20)),q0),
   (oo 22 (.fieldAddr 1 (tq 21)),q0),
   (oo 23 (.load true 3 (tq 22) false),q1),
   (oo 24 (.call 290 [((tq 18),0),((tq 23),0)] []),q0),
   (oo 8 (.move (tq 24) false),q0)])
 (.seq (.seq (.reg [oo 25 (.move (tq 2) false)])
 (.cond (tq 25)
 (.dreg [] [(oo 26 (.load true 32 (tq 3) false),{ q1 with root:=some 3 }),
   (oo 27 (.move (tq 1) false),q0),
   (oo 28 (.move (tq 7) false),q0),
   (oo 29 (.indexAddrS 5 (tq 27) (tq 28)),q0),
   (oo 30 (.fieldAddr 1 (tq 29)),q0),
   (oo 31 (.load true 3 (tq 30) false),q1),
   (oo 32 (.move (tq 1) false),q0),
   (oo 33 (.move (tq 7) false),q0),
   (oo 34 (.indexAddrS 5 (tq 32) (tq 33)),q0),
   (oo 35 (.fieldAddr 4 (tq 34)),q0),
   (oo 36 (.load false 1 (tq 35) false),q1),
   (oo 37 (.call 305 [((tq 26),0),((tq 31),0),((tq 36),0)] []),q0),
   (oo 8 (.move (tq 37) false),q0)])
 .skip))
 (.seq (.reg [oo 38 (.move (tq 1) false),
   oo 39 (.move (tq 7) false),
   oo 40 (.indexAddrS 5 (tq 38) (tq 39)),
   oo 41 (.fieldAddr 0 (tq 40)),
   oo 42 (.load false 1 (tq 41) false),
   oo 43 (.move (tq 8) false),
   oo 44 (.bin .neq (tq 42) (tq 43)),
   oo 45 (.move (tq 44) false),
   ⟨(some 46),false,(some (45,false)),.move (tq 7) false⟩,
   ⟨(some 47),false,(some (45,false)),.bin .gtr (tq 46) (.const (.sc (.int .i64 0)))⟩,
   ⟨(some 48),false,(some (45,false)),.move (tq 47) false⟩,
   ⟨(some 49),false,(some (48,true)),.move (tq 1) false⟩,
   ⟨(some 50),false,(some (48,true)),.move (tq 7) false⟩,
   ⟨(some 51),false,(some (48,true)),.bin .sub (tq 50) (.const (.sc (.int .i64 1)))⟩,
   ⟨(some 52),false,(some (48,true)),.indexAddrS 5 (tq 49) (tq 51)⟩,
   ⟨(some 53),false,(some (48,true)),.fieldAddr 0 (tq 52)⟩,
   ⟨(some 54),false,(some (48,true)),.load false 1 (tq 53) false⟩,
   ⟨(some 55),false,(some (48,true)),.move (tq 8) false⟩,
   ⟨(some 56),false,(some (48,true)),.bin .gtr (tq 54) (tq 55)⟩,
   ⟨(some 57),false,(some (45,false)),.pick (tq 48) (tq 56) (.const (.sc (.bool false)))⟩,
   oo 58 (.pick (tq 45) (.const (.sc (.bool true))) (tq 57)),
   oo 59 (.move (tq 58) false),
   ⟨(some 60),false,(some (59,false)),.move (tq 7) false⟩,
   ⟨(some 61),false,(some (59,false)),.bin .geq (tq 60) (.const (.sc (.int .i64 8)))⟩,
   ⟨(some 62),false,(some (59,false)),.move (tq 61) false⟩,
   ⟨(some 63),false,(some (62,true)),.move (tq 1) false⟩,
   ⟨(some 64),false,(some (62,true)),.move (tq 7) false⟩,
   ⟨(some 65),false,(some (62,true)),.bin .sub (tq 64) (.const (.sc (.int .i64 8)))⟩,
   ⟨(some 66),false,(some (62,true)),.indexAddrS 5 (tq 63) (tq 65)⟩,
   ⟨(some 67),false,(some (62,true)),.fieldAddr 0 (tq 66)⟩,
   ⟨(some 68),false,(some (62,true)),.load false 1 (tq 67) false⟩,
   ⟨(some 69),false,(some (62,true)),.move (tq 8) false⟩,
   ⟨(some 70),false,(some (62,true)),.bin .eql (tq 68) (tq 69)⟩,
   ⟨(some 71),false,(some (59,false)),.pick (tq 62) (tq 70) (.const (.sc (.bool false)))⟩,
   oo 72 (.pick (tq 59) (.const (.sc (.bool true))) (tq 71)),
   oo 73 (.move (tq 72) false),
   ⟨(some 74),false,(some (73,false)),.move (tq 1) false⟩,
   ⟨(some 75),false,(some (73,false)),.move (tq 1) false⟩,
   ⟨(some 76),false,(some (73,false)),.move (tq 7) false⟩,
   ⟨(some 77),false,(some (73,false)),.indexAddrS 5 (tq 75) (tq 76)⟩,
   ⟨(some 78),false,(some (73,false)),.fieldAddr 1 (tq 77)⟩,
   ⟨(some 79),false,(some (73,false)),.load true 3 (tq 78) false⟩,
   ⟨(some 80),false,(some (73,false)),.call 287 [((tq 74),2),((tq 79),2)] []⟩,
   ⟨(some 81),false,(some (73,false)),.move (tq 7) false⟩,
   ⟨(some 82),false,(some (73,false)),.bin .neq (tq 80) (tq 81)⟩,
   oo 83 (.pick (tq 73) (.const (.sc (.bool true))) (tq 82))])
 (.cond (tq 83)
 (.seq (.reg [oo 6 (.move (.const (.sc (.bool false))) false)])
 (.seq (.mask (bl 64 84) (bl 18133887294219300164845175 84))
 .ret))
 .skip)))))
 (.reg [oo 16 (.move (tq 7) false),
   oo 17 (.bin .add (tq 16) (.const (.sc (.int .i64 1)))),
   oo 7 (.move (tq 17) false)])))
def zh7:CC:=(.seq (.reg [oo 6 (.move (.const (.sc (.bool true))) false)])
 .ret)
def zds:CF:=⟨84,[.tmp 6],
 (.seq (.reg [oo 3 (.box true (tq 0)),
   oo 6 (.move (.const (.sc (.bool false))) false)])
 (.seq (.seq (.reg [oo 9 (.move (tq 1) false),
   oo 10 (.lenS (tq 9)),
   oo 11 (.bin .gtr (tq 10) (.const (.sc (.int .i64 512))))])
 (.cond (tq 11)
 (.seq (.reg [oo 6 (.move (.const (.sc (.bool false))) false)])
 .ret)
 .skip))
 (.seq (.seq (.reg [oo 7 (.move (.const (.sc (.int .i64 0))) false)])
 (.block 0 (.loop (bl 142 84) (bl 18133887294219300164845247 84)
 zd2)))
 zh7)))⟩
def zrZ:Hint:=⟨[(9,42)],[],[none,none,none,some ((bl 142 84),(bl 18133887294219300164845247 84)),none,some ((bl 0 84),(bl 18133887294219300164845111 84)),none,none,none,some ((bl 64 84),(bl 18133887294219300164845175 84)),none],[],[],false,false⟩
def zbM:Nat→Sh:=xP [(36,(.int .u32)),(42,(.int .i64)),(54,(.int .i64)),(68,(.int .i64))]
def zbN (xf:xL) (zb:xu) (ye:xJ) (L:Nat):CBC:=(zx 287 (zhs ye L) (zx 305 (zd8 zb L) (zx 290 (zd7 xf L) noC)))
def zgw:St→St:=zaj 0 (bl 142 84) (bl 18133887294219300164845247 84)
def zeN (p1:List (List V)) (p2:Bool) (p7:Int) (b3:List V):St:=⟨(jn 1 ((V.sl 5 p1)::((V.sc (.bool p2))::((V.ptr 3 0)::(jn 3 ((V.sc (.int .i64 p7))::(jn 76 []))))))),(gn 3 ((.live true b3)::(gn 80 [])))⟩
def zka (p6:Bool):St:=⟨(jn 6 ((V.sc (.bool p6))::(jn 77 []))),(gn 84 [])⟩
def zls:St:=⟨(jn 84 []),(gn 84 [])⟩
def zl1 {β:Type} (xf:xL) (zb:xu) (ye:xJ) (L:Nat) (p0:List V) (p1:List (List V)) (p2:Bool) (k_fin:Bool→Option β) (k_hbbaba:List (List V)→Bool→Int→List V→Option β):Option β :=
 ifb (decide (((List.length p1:Nat):Int) > (512:Int))) (
 k_fin false) (
 k_hbbaba p1 p2 (0:Int) p0)
theorem zzh {β:Type} (xf:xL) (zb:xu) (ye:xJ) (L:Nat) (p0:List V) (p1:List (List V)) (p2:Bool) (k:KK β):xt zbM (zbN xf zb ye L) L zds [(V.agg p0),(V.sl 5 p1),(V.sc (.bool p2))] [] k=zl1 xf zb ye L p0 p1 p2 (fun p0=>k (V.sc (.bool p0)) []) (fun p1 p2 p7 b3=>yF (xm zbM (zbN xf zb ye L) 0 L zd2) zgw L (zeN p1 p2 p7 b3) (xE 0 (xR (xm zbM (zbN xf zb ye L) 0 L zh7) (y5 0 (CF.res zds) k)))):=by kernel_rfl
def zgq {β:Type} (xf:xL) (zb:xu) (ye:xJ) (L:Nat) (p1:List (List V)) (p2:Bool) (p7:Int) (b3:List V) (k_ret:Bool→Option β) (k_hbbaba:List (List V)→Bool→Int→List V→Option β) (k_x0:Option β):Option β :=
 ifb (decide (p7 < ((List.length p1:Nat):Int))) (
 chk (0+32≤(List.length b3)) (
 idx p1 p7 fun c0 =>
 xf β L (List.take 32 b3) (List.take 3 (List.drop 1 c0)) (fun v1 =>
 ifb p2 (
 chk (0+32≤(List.length b3)) (
 idx p1 p7 fun c2 =>
 idx p1 p7 fun c3 =>
 cI .u32 (List.drop 4 c3) 0 fun v4 =>
 zb β L (List.take 32 b3) (List.take 3 (List.drop 1 c2)) v4 (fun v5 =>
 idx p1 p7 fun c6 =>
 cI .i64 c6 0 fun v7 =>
 ifb ((v7:Int) != v5) (
 k_ret false) (
 ifb (decide (p7 > (0:Int))) (
 lt (IntKind.wrap .i64 ((p7:Int) - (1:Int))) fun x8 =>
 idx p1 x8 fun c9 =>
 cI .i64 c9 0 fun v10 =>
 ifb (decide (v10 > v5)) (
 k_ret false) (
 ifb (decide (p7 ≥ (8:Int))) (
 lt (IntKind.wrap .i64 ((p7:Int) - (8:Int))) fun x11 =>
 idx p1 x11 fun c12 =>
 cI .i64 c12 0 fun v13 =>
 ifb ((v13:Int) == v5) (
 k_ret false) (
 idx p1 p7 fun c14 =>
 ye β L p1 (List.take 3 (List.drop 1 c14)) (fun v15 =>
 ifb ((v15:Int) != p7) (
 k_ret false) (
 lt (IntKind.wrap .i64 ((p7:Int)+(1:Int))) fun x16 =>
 k_hbbaba p1 p2 x16 b3)))) (
 idx p1 p7 fun c17 =>
 ye β L p1 (List.take 3 (List.drop 1 c17)) (fun v18 =>
 ifb ((v18:Int) != p7) (
 k_ret false) (
 lt (IntKind.wrap .i64 ((p7:Int)+(1:Int))) fun x19 =>
 k_hbbaba p1 p2 x19 b3))))) (
 ifb (decide (p7 ≥ (8:Int))) (
 lt (IntKind.wrap .i64 ((p7:Int) - (8:Int))) fun x20 =>
 idx p1 x20 fun c21 =>
 cI .i64 c21 0 fun v22 =>
 ifb ((v22:Int) == v5) (
 k_ret false) (
 idx p1 p7 fun c23 =>
 ye β L p1 (List.take 3 (List.drop 1 c23)) (fun v24 =>
 ifb ((v24:Int) != p7) (
 k_ret false) (
 lt (IntKind.wrap .i64 ((p7:Int)+(1:Int))) fun x25 =>
 k_hbbaba p1 p2 x25 b3)))) (
 idx p1 p7 fun c26 =>
 ye β L p1 (List.take 3 (List.drop 1 c26)) (fun v27 =>
 ifb ((v27:Int) != p7) (
 k_ret false) (
 lt (IntKind.wrap .i64 ((p7:Int)+(1:Int))) fun x28 =>
 k_hbbaba p1 p2 x28 b3)))))))) (
 idx p1 p7 fun c29 =>
 cI .i64 c29 0 fun v30 =>
 ifb ((v30:Int) != v1) (
 k_ret false) (
 ifb (decide (p7 > (0:Int))) (
 lt (IntKind.wrap .i64 ((p7:Int) - (1:Int))) fun x31 =>
 idx p1 x31 fun c32 =>
 cI .i64 c32 0 fun v33 =>
 ifb (decide (v33 > v1)) (
 k_ret false) (
 ifb (decide (p7 ≥ (8:Int))) (
 lt (IntKind.wrap .i64 ((p7:Int) - (8:Int))) fun x34 =>
 idx p1 x34 fun c35 =>
 cI .i64 c35 0 fun v36 =>
 ifb ((v36:Int) == v1) (
 k_ret false) (
 idx p1 p7 fun c37 =>
 ye β L p1 (List.take 3 (List.drop 1 c37)) (fun v38 =>
 ifb ((v38:Int) != p7) (
 k_ret false) (
 lt (IntKind.wrap .i64 ((p7:Int)+(1:Int))) fun x39 =>
 k_hbbaba p1 p2 x39 b3)))) (
 idx p1 p7 fun c40 =>
 ye β L p1 (List.take 3 (List.drop 1 c40)) (fun v41 =>
 ifb ((v41:Int) != p7) (
 k_ret false) (
 lt (IntKind.wrap .i64 ((p7:Int)+(1:Int))) fun x42 =>
 k_hbbaba p1 p2 x42 b3))))) (
 ifb (decide (p7 ≥ (8:Int))) (
 lt (IntKind.wrap .i64 ((p7:Int) - (8:Int))) fun x43 =>
 idx p1 x43 fun c44 =>
 cI .i64 c44 0 fun v45 =>
 ifb ((v45:Int) == v1) (
 k_ret false) (
 idx p1 p7 fun c46 =>
 ye β L p1 (List.take 3 (List.drop 1 c46)) (fun v47 =>
 ifb ((v47:Int) != p7) (
 k_ret false) (
 lt (IntKind.wrap .i64 ((p7:Int)+(1:Int))) fun x48 =>
 k_hbbaba p1 p2 x48 b3)))) (
 idx p1 p7 fun c49 =>
 ye β L p1 (List.take 3 (List.drop 1 c49)) (fun v50 =>
 ifb ((v50:Int) != p7) (
 k_ret false) (
 lt (IntKind.wrap .i64 ((p7:Int)+(1:Int))) fun x51 =>
 k_hbbaba p1 p2 x51 b3))))))))) (
 k_x0)
theorem zuh {β:Type} (xf:xL) (zb:xu) (ye:xJ) (L:Nat) (p1:List (List V)) (p2:Bool) (p7:Int) (b3:List V) (X:St→Option β) (K:KT β):xm zbM (zbN xf zb ye L) 0 L zd2 (zeN p1 p2 p7 b3) (zbR zgw X K)=zgq xf zb ye L p1 p2 p7 b3 (fun p6=>K .ret (zka p6)) (fun p1 p2 p7 b3=>X (zeN p1 p2 p7 b3)) (K (.exit 0) (zls)):=by kernel_rfl
def zmR {β:Type} (xf:xL) (zb:xu) (ye:xJ) (L:Nat) (p6:Bool) (k_fin:Bool→Option β):Option β :=
 k_fin p6
theorem zr5 {β:Type} (xf:xL) (zb:xu) (ye:xJ) (L:Nat) (p6:Bool) (k:KK β):(xE 0 (xR (xm zbM (zbN xf zb ye L) 0 L zh7) (y5 0 (CF.res zds) k))) .ret (zka p6)=zmR xf zb ye L p6 (fun p0=>k (V.sc (.bool p0)) []):=by kernel_rfl
def znp {β:Type} (xf:xL) (zb:xu) (ye:xJ) (L:Nat) (k_fin:Bool→Option β):Option β :=
 k_fin true
theorem zsv {β:Type} (xf:xL) (zb:xu) (ye:xJ) (L:Nat) (k:KK β):(xE 0 (xR (xm zbM (zbN xf zb ye L) 0 L zh7) (y5 0 (CF.res zds) k))) (.exit 0) (zls)=znp xf zb ye L (fun p0=>k (V.sc (.bool p0)) []):=by kernel_rfl
def zbn {β:Type} (xf:xL) (zb:xu) (ye:xJ) (L:Nat) (k_ret:Bool→Option β) (k_x0:Option β):Nat→List (List V)→Bool→Int→List V→Option β
 | 0,_,_,_,_=>none
 | n+1,p1,p2,p7,b3=>zgq xf zb ye L p1 p2 p7 b3 k_ret (fun p1 p2 p7 b3=>zbn xf zb ye L k_ret k_x0 n p1 p2 p7 b3) k_x0
theorem zmv {β:Type} (xf:xL) (zb:xu) (ye:xJ) (L:Nat) (K:KT β):∀ (n:Nat) (p1:List (List V)) (p2:Bool) (p7:Int) (b3:List V),yF (xm zbM (zbN xf zb ye L) 0 L zd2) zgw n (zeN p1 p2 p7 b3) K=zbn xf zb ye L (fun p6=>K .ret (zka p6)) (K (.exit 0) (zls)) n p1 p2 p7 b3:=by
 intro n
 induction n with
 | zero=>intros; rfl
 | succ n ih =>
  intro p1 p2 p7 b3
  refine (zuh xf zb ye L p1 p2 p7 b3 (fun σ=>yF (xm zbM (zbN xf zb ye L) 0 L zd2) zgw n σ K) K).trans ?_
  simp only [ih]
  rfl
def ziJ {β:Type} (xf:xL) (zb:xu) (ye:xJ) (L:Nat) (p0:List V) (p1:List (List V)) (p2:Bool) (k_fin:Bool→Option β):Option β :=
 zl1 xf zb ye L p0 p1 p2 k_fin (fun p1 p2 p7 b3=>zbn xf zb ye L (fun p6=>zmR xf zb ye L p6 k_fin) (znp xf zb ye L k_fin) L p1 p2 p7 b3)
theorem zzw {β:Type} (xf:xL) (zb:xu) (ye:xJ) (L:Nat) (p0:List V) (p1:List (List V)) (p2:Bool) (k:KK β):xt zbM (zbN xf zb ye L) L zds [(V.agg p0),(V.sl 5 p1),(V.sc (.bool p2))] [] k=ziJ xf zb ye L p0 p1 p2 (fun p0=>k (V.sc (.bool p0)) []):=by
 refine (zzh xf zb ye L p0 p1 p2 k).trans ?_
 unfold ziJ
 first
  | (simp only [zmv,zr5,zsv]; done)
  | (simp only [zmv]; rfl)
abbrev za7:=∀ (β:Type),Nat→List V→List (List V)→Bool→(Bool→Option β)→Option β
def yp (β:Type) (L:Nat) (p0:List V) (p1:List (List V)) (p2:Bool) (k_fin:Bool→Option β):Option β:=ziJ xf zb ye L p0 p1 p2 k_fin
def zl2 (yp:za7) (L:Nat) (β:Type) (args:List V) (bor:Bor) (k:KK β):Option β:=match args,bor with
 | [a0,a1,a2],[]=>aG a0 fun p0=>aL 5 a1 fun p1=>aB a2 fun p2=>yp β L p0 p1 p2 (fun p0=>k (V.sc (.bool p0)) [])
 | _,_=>none
theorem zzB (L:Nat) (β:Type) (args:List V) (bor:Bor) (k:KK β) (r:β) (h:zl2 yp L β args bor k=some r):xt zbM (zbN xf zb ye L) L zds args bor k=some r:=by
 unfold zl2 at h
 split at h
 ·have q:=xZ h; clear h; obtain ⟨p0,rfl,h⟩:=q
  have q:=y4 h; clear h; obtain ⟨p1,rfl,h⟩:=q
  have q:=ztO h; clear h; obtain ⟨p2,rfl,h⟩:=q
  exact (zzw xf zb ye L p0 p1 p2 k).trans h
 ·cases h
def zd3:CC:=(.seq (.seq (.reg [oo 18 (.move (tq 3) false),
   oo 19 (.fieldAddr 32 (tq 1)),
   oo 20 (.load false 1 (tq 19) false),
   oo 21 (.lenS (tq 20)),
   oo 22 (.bin .lss (tq 18) (tq 21))])
 (.cond (tq 22)
 .skip
 (.seq (.mask (bl 0 35) (bl 25767706609 35))
 (.exit 0))))
 (.seq (.block 1 (.seq (.dreg [] [(oo 25 (.fieldAddr 33 (tq 1)),q0),
   (oo 26 (.load false 1 (tq 25) false),{ q1 with root:=some 1 }),
   (oo 27 (.fieldAddr 32 (tq 1)),q0),
   (oo 28 (.load false 1 (tq 27) false),{ q1 with root:=some 1 }),
   (oo 29 (.move (tq 3) false),q0),
   (oo 30 (.indexAddrS 5 (tq 28) (tq 29)),q0),
   (oo 31 (.fieldAddr 1 (tq 30)),q0),
   (oo 32 (.load true 3 (tq 31) false),q1),
   (oo 33 (.call 287 [((tq 26),2),((tq 32),2)] []),q0),
   (oo 34 (.bin .geq (tq 33) (.const (.sc (.int .i64 0)))),q0)])
 (.cond (tq 34)
 (.seq (.reg [oo 2 (.move (.const (.sc (.bool false))) false)])
 (.seq (.mask (bl 4 35) (bl 25767706613 35))
 .ret))
 .skip)))
 (.reg [oo 23 (.move (tq 3) false),
   oo 24 (.bin .add (tq 23) (.const (.sc (.int .i64 1)))),
   oo 3 (.move (tq 24) false)])))
def zis:CC:=(.seq (.reg [oo 2 (.move (.const (.sc (.bool true))) false)])
 .ret)
def zdu:CF:=⟨35,[.tmp 2],
 (.seq (.reg [oo 1 (.box true (tq 0)),
   oo 2 (.move (.const (.sc (.bool false))) false)])
 (.seq (.seq (.reg [oo 4 (.fieldAddr 0 (tq 1)),
   oo 5 (.load true 32 (tq 4) false),
   oo 6 (.fieldAddr 32 (tq 1)),
   oo 7 (.load false 1 (tq 6) false),
   oo 8 (.call 302 [((tq 5),0),((tq 7),0),((.const (.sc (.bool true))),0)] []),
   oo 9 (.un .not (tq 8)),
   oo 10 (.move (tq 9) false),
   ⟨(some 11),false,(some (10,false)),.fieldAddr 0 (tq 1)⟩,
   ⟨(some 12),false,(some (10,false)),.load true 32 (tq 11) false⟩,
   ⟨(some 13),false,(some (10,false)),.fieldAddr 33 (tq 1)⟩,
   ⟨(some 14),false,(some (10,false)),.load false 1 (tq 13) false⟩,
   ⟨(some 15),false,(some (10,false)),.call 302 [((tq 12),0),((tq 14),0),((.const (.sc (.bool false))),0)] []⟩,
   ⟨(some 16),false,(some (10,false)),.un .not (tq 15)⟩,
   oo 17 (.pick (tq 10) (.const (.sc (.bool true))) (tq 16))])
 (.cond (tq 17)
 (.seq (.reg [oo 2 (.move (.const (.sc (.bool false))) false)])
 .ret)
 .skip))
 (.seq (.seq (.reg [oo 3 (.move (.const (.sc (.int .i64 0))) false)])
 (.block 0 (.loop (bl 10 35) (bl 25767706619 35)
 zd3)))
 zis)))⟩
def zsa:Hint:=⟨[(0,0),(6,8)],[],[none,none,none,some ((bl 10 35),(bl 25767706619 35)),none,some ((bl 0 35),(bl 25767706609 35)),none,none,some ((bl 4 35),(bl 25767706613 35)),none],[],[],false,false⟩
def zbG:Nat→Sh:=xP [(7,(.sl 5)),(14,(.sl 5)),(20,(.sl 5)),(26,(.sl 5)),(28,(.sl 5))]
def zbI (yp:za7) (ye:xJ) (L:Nat):CBC:=(zx 287 (zhs ye L) (zx 302 (zl2 yp L) noC))
def zgp:St→St:=zaj 0 (bl 10 35) (bl 25767706619 35)
def zeK (p3:Int) (b1:List V):St:=⟨(jn 1 ((V.ptr 1 0)::(jn 1 ((V.sc (.int .i64 p3))::(jn 31 []))))),(gn 1 ((.live true b1)::(gn 33 [])))⟩
def zko (p2:Bool):St:=⟨(jn 2 ((V.sc (.bool p2))::(jn 32 []))),(gn 35 [])⟩
def zlv:St:=⟨(jn 35 []),(gn 35 [])⟩
def zqa {β:Type} (yp:za7) (ye:xJ) (L:Nat) (p0:List V) (k_fin:Bool→Option β) (k_hbbaba:Int→List V→Option β):Option β :=
 chk (0+32≤(List.length p0)) (
 cLd 5 p0 32 fun v0 =>
 yp β L (List.take 32 p0) v0 true (fun v1 =>
 ifb (!v1) (
 k_fin false) (
 chk (0+32≤(List.length p0)) (
 cLd 5 p0 33 fun v2 =>
 yp β L (List.take 32 p0) v2 false (fun v3 =>
 ifb (!v3) (
 k_fin false) (
 k_hbbaba (0:Int) p0))))))
theorem zzG {β:Type} (yp:za7) (ye:xJ) (L:Nat) (p0:List V) (k:KK β):xt zbG (zbI yp ye L) L zdu [(V.agg p0)] [] k=zqa yp ye L p0 (fun p0=>k (V.sc (.bool p0)) []) (fun p3 b1=>yF (xm zbG (zbI yp ye L) 0 L zd3) zgp L (zeK p3 b1) (xE 0 (xR (xm zbG (zbI yp ye L) 0 L zis) (y5 0 (CF.res zdu) k)))):=by kernel_rfl
def zke {β:Type} (yp:za7) (ye:xJ) (L:Nat) (p3:Int) (b1:List V) (k_ret:Bool→Option β) (k_hbbaba:Int→List V→Option β) (k_x0:Option β):Option β :=
 cLd 5 b1 32 fun v4 =>
 ifb (decide (p3 < ((List.length v4:Nat):Int))) (
 cLd 5 b1 33 fun v5 =>
 cLd 5 b1 32 fun v6 =>
 idx v6 p3 fun c7 =>
 ye β L v5 (List.take 3 (List.drop 1 c7)) (fun v8 =>
 ifb (decide (v8 ≥ (0:Int))) (
 k_ret false) (
 lt (IntKind.wrap .i64 ((p3:Int)+(1:Int))) fun x9 =>
 k_hbbaba x9 b1))) (
 k_x0)
theorem ztT {β:Type} (yp:za7) (ye:xJ) (L:Nat) (p3:Int) (b1:List V) (X:St→Option β) (K:KT β):xm zbG (zbI yp ye L) 0 L zd3 (zeK p3 b1) (zbR zgp X K)=zke yp ye L p3 b1 (fun p2=>K .ret (zko p2)) (fun p3 b1=>X (zeK p3 b1)) (K (.exit 0) (zlv)):=by kernel_rfl
def zmt {β:Type} (yp:za7) (ye:xJ) (L:Nat) (p2:Bool) (k_fin:Bool→Option β):Option β :=
 k_fin p2
theorem zrn {β:Type} (yp:za7) (ye:xJ) (L:Nat) (p2:Bool) (k:KK β):(xE 0 (xR (xm zbG (zbI yp ye L) 0 L zis) (y5 0 (CF.res zdu) k))) .ret (zko p2)=zmt yp ye L p2 (fun p0=>k (V.sc (.bool p0)) []):=by kernel_rfl
def znA {β:Type} (yp:za7) (ye:xJ) (L:Nat) (k_fin:Bool→Option β):Option β :=
 k_fin true
theorem zsx {β:Type} (yp:za7) (ye:xJ) (L:Nat) (k:KK β):(xE 0 (xR (xm zbG (zbI yp ye L) 0 L zis) (y5 0 (CF.res zdu) k))) (.exit 0) (zlv)=znA yp ye L (fun p0=>k (V.sc (.bool p0)) []):=by kernel_rfl
def zeE {β:Type} (yp:za7) (ye:xJ) (L:Nat) (k_ret:Bool→Option β) (k_x0:Option β):Nat→Int→List V→Option β
 | 0,_,_=>none
 | n+1,p3,b1=>zke yp ye L p3 b1 k_ret (fun p3 b1=>zeE yp ye L k_ret k_x0 n p3 b1) k_x0
theorem zmC {β:Type} (yp:za7) (ye:xJ) (L:Nat) (K:KT β):∀ (n:Nat) (p3:Int) (b1:List V),yF (xm zbG (zbI yp ye L) 0 L zd3) zgp n (zeK p3 b1) K=zeE yp ye L (fun p2=>K .ret (zko p2)) (K (.exit 0) (zlv)) n p3 b1:=by
 intro n
 induction n with
 | zero=>intros; rfl
 | succ n ih =>
  intro p3 b1
  refine (ztT yp ye L p3 b1 (fun σ=>yF (xm zbG (zbI yp ye L) 0 L zd3) zgp n σ K) K).trans ?_
  simp only [ih]
  rfl
def zlZ {β:Type} (yp:za7) (ye:xJ) (L:Nat) (p0:List V) (k_fin:Bool→Option β):Option β :=
 zqa yp ye L p0 k_fin (fun p3 b1=>zeE yp ye L (fun p2=>zmt yp ye L p2 k_fin) (znA yp ye L k_fin) L p3 b1)
theorem zzj {β:Type} (yp:za7) (ye:xJ) (L:Nat) (p0:List V) (k:KK β):xt zbG (zbI yp ye L) L zdu [(V.agg p0)] [] k=zlZ yp ye L p0 (fun p0=>k (V.sc (.bool p0)) []):=by
 refine (zzG yp ye L p0 k).trans ?_
 unfold zlZ
 first
  | (simp only [zmC,zrn,zsx]; done)
  | (simp only [zmC]; rfl)
abbrev za8:=∀ (β:Type),Nat→List V→(Bool→Option β)→Option β
def xw (β:Type) (L:Nat) (p0:List V) (k_fin:Bool→Option β):Option β:=zlZ yp ye L p0 k_fin
def zgk (xw:za8) (L:Nat) (β:Type) (args:List V) (bor:Bor) (k:KK β):Option β:=match args,bor with
 | [a0],[]=>aG a0 fun p0=>xw β L p0 (fun p0=>k (V.sc (.bool p0)) [])
 | _,_=>none
theorem zzL (L:Nat) (β:Type) (args:List V) (bor:Bor) (k:KK β) (r:β) (h:zgk xw L β args bor k=some r):xt zbG (zbI yp ye L) L zdu args bor k=some r:=by
 unfold zgk at h
 split at h
 ·have q:=xZ h; clear h; obtain ⟨p0,rfl,h⟩:=q
  exact (zzj yp ye L p0 k).trans h
 ·cases h
def zjs:CF:=⟨14,[.cellS 2 34 false],
 (.seq (.reg [oo 1 (.box false (tq 0)),
   oo 2 (.alloc false (rp 32 (.sc (.int .u8 0)) (rp 2 (.gs 5 []) [])))])
 (.seq (.dreg [] [(oo 3 (.fieldAddr 0 (tq 1)),q0),
   (oo 4 (.load true 32 (tq 3) false),ql 1 [] [5,8,9,12]),
   (⟨(some 5),true,none,.buildSlice 5 0 [(.sc (.int .i64 0)),(.sc (.int .u32 0)),(.sc (.int .u16 0)),(.sc (.int .u32 0)),(.sc (.int .u32 0))] []⟩,qn [1] [9]),
   (oo 6 (.fieldAddr 32 (tq 1)),q0),
   (oo 7 (.load false 1 (tq 6) false),ql 1 [] [5,9]),
   (⟨(some 8),true,none,.append 5 24 (tq 5) (tq 7)⟩,qn [1] [9]),
   (⟨(some 9),true,none,.buildSlice 5 0 [(.sc (.int .i64 0)),(.sc (.int .u32 0)),(.sc (.int .u16 0)),(.sc (.int .u32 0)),(.sc (.int .u32 0))] []⟩,qn [1] [5,8]),
   (oo 10 (.fieldAddr 33 (tq 1)),q0),
   (oo 11 (.load false 1 (tq 10) false),ql 1 [] [5,8,9]),
   (⟨(some 12),true,none,.append 5 24 (tq 9) (tq 11)⟩,qn [1] []),
   (oo 13 (.buildSt (rp 32 (.sc (.int .u8 0)) (rp 2 (.sl 5 []) [])) [(0,32,(tq 4)),(32,1,(tq 8)),(33,1,(tq 12))]),q0),
   (oz (.store 34 (tq 2) (tq 13)),q0)])
 .ret))⟩
def zqw:Hint:=⟨[(1,10)],[(1,2),(1,5),(1,6),(1,9)],[none],[],[],false,true⟩
def znH:Nat→Sh:=xP [(1,(.row [(.int .u8),(.int .u8),(.int .u8),(.int .u8),(.int .u8),(.int .u8),(.int .u8),(.int .u8),(.int .u8),(.int .u8),(.int .u8),(.int .u8),(.int .u8),(.int .u8),(.int .u8),(.int .u8),(.int .u8),(.int .u8),(.int .u8),(.int .u8),(.int .u8),(.int .u8),(.int .u8),(.int .u8),(.int .u8),(.int .u8),(.int .u8),(.int .u8),(.int .u8),(.int .u8),(.int .u8),(.int .u8),(.sl 5),(.sl 5)]))]
def zm7 (L:Nat):CBC:=noC
abbrev zk5 (β:Type):Type:=Int→Int→Int→Int→Int→Int→Int→Int→Int→Int→Int→Int→Int→Int→Int→Int→Int→Int→Int→Int→Int→Int→Int→Int→Int→Int→Int→Int→Int→Int→Int→Int→Nat→Nat→List V→List V→Option β
def zoE {β:Type} (L:Nat) (p0:List V) (k_fin:zk5 β):Option β :=
 chk (List.length p0=34) (
 cI .u8 p0 0 fun v0 =>
 cI .u8 p0 1 fun v1 =>
 cI .u8 p0 2 fun v2 =>
 cI .u8 p0 3 fun v3 =>
 cI .u8 p0 4 fun v4 =>
 cI .u8 p0 5 fun v5 =>
 cI .u8 p0 6 fun v6 =>
 cI .u8 p0 7 fun v7 =>
 cI .u8 p0 8 fun v8 =>
 cI .u8 p0 9 fun v9 =>
 cI .u8 p0 10 fun v10 =>
 cI .u8 p0 11 fun v11 =>
 cI .u8 p0 12 fun v12 =>
 cI .u8 p0 13 fun v13 =>
 cI .u8 p0 14 fun v14 =>
 cI .u8 p0 15 fun v15 =>
 cI .u8 p0 16 fun v16 =>
 cI .u8 p0 17 fun v17 =>
 cI .u8 p0 18 fun v18 =>
 cI .u8 p0 19 fun v19 =>
 cI .u8 p0 20 fun v20 =>
 cI .u8 p0 21 fun v21 =>
 cI .u8 p0 22 fun v22 =>
 cI .u8 p0 23 fun v23 =>
 cI .u8 p0 24 fun v24 =>
 cI .u8 p0 25 fun v25 =>
 cI .u8 p0 26 fun v26 =>
 cI .u8 p0 27 fun v27 =>
 cI .u8 p0 28 fun v28 =>
 cI .u8 p0 29 fun v29 =>
 cI .u8 p0 30 fun v30 =>
 cI .u8 p0 31 fun v31 =>
 cL 5 p0 32 fun v32 =>
 cL 5 p0 33 fun v33 =>
 chk ((0+List.length v32) * 24≤zt∧0+List.length v32≤zt) (
 chk ((0+List.length v33) * 24≤zt∧0+List.length v33≤zt) (
 k_fin v0 v1 v2 v3 v4 v5 v6 v7 v8 v9 v10 v11 v12 v13 v14 v15 v16 v17 v18 v19 v20 v21 v22 v23 v24 v25 v26 v27 v28 v29 v30 v31 (List.length v32) (List.length v33) (List.flatten v32) (List.flatten v33))))
theorem zyn {β:Type} (L:Nat) (p0:List V) (k:KK β):xt znH (zm7 L) L zjs [(V.agg p0)] [] k=zoE L p0 (fun zMc zMd zMw zM0 zM1 zM2 zM3 zM4 zM5 zM6 zMC zMD zME zMF zMG zMH zMI zMJ zMK zML zMM zMN zMO zMP zMQ zMR zMS zMT zMU zMV zMW zMX zMz zMA b0 b1=>k (V.st [(V.sc (.int .u8 zMc)),(V.sc (.int .u8 zMd)),(V.sc (.int .u8 zMw)),(V.sc (.int .u8 zM0)),(V.sc (.int .u8 zM1)),(V.sc (.int .u8 zM2)),(V.sc (.int .u8 zM3)),(V.sc (.int .u8 zM4)),(V.sc (.int .u8 zM5)),(V.sc (.int .u8 zM6)),(V.sc (.int .u8 zMC)),(V.sc (.int .u8 zMD)),(V.sc (.int .u8 zME)),(V.sc (.int .u8 zMF)),(V.sc (.int .u8 zMG)),(V.sc (.int .u8 zMH)),(V.sc (.int .u8 zMI)),(V.sc (.int .u8 zMJ)),(V.sc (.int .u8 zMK)),(V.sc (.int .u8 zML)),(V.sc (.int .u8 zMM)),(V.sc (.int .u8 zMN)),(V.sc (.int .u8 zMO)),(V.sc (.int .u8 zMP)),(V.sc (.int .u8 zMQ)),(V.sc (.int .u8 zMR)),(V.sc (.int .u8 zMS)),(V.sc (.int .u8 zMT)),(V.sc (.int .u8 zMU)),(V.sc (.int .u8 zMV)),(V.sc (.int .u8 zMW)),(V.sc (.int .u8 zMX)),(V.own 0 0 zMz 5),(V.own 1 0 zMA 5)]) [(.live true b0),(.live true b1)]):=by kernel_rfl
abbrev zR:=∀ (β:Type),Nat→List V→(Int→Int→Int→Int→Int→Int→Int→Int→Int→Int→Int→Int→Int→Int→Int→Int→Int→Int→Int→Int→Int→Int→Int→Int→Int→Int→Int→Int→Int→Int→Int→Int→Nat→Nat→List V→List V→Option β)→Option β
def yg (β:Type) (L:Nat) (p0:List V) (k_fin:zk5 β):Option β:=zoE L p0 k_fin
def zhB (yg:zR) (L:Nat) (β:Type) (args:List V) (bor:Bor) (k:KK β):Option β:=match args,bor with
 | [a0],[]=>aG a0 fun p0=>yg β L p0 (fun zMc zMd zMw zM0 zM1 zM2 zM3 zM4 zM5 zM6 zMC zMD zME zMF zMG zMH zMI zMJ zMK zML zMM zMN zMO zMP zMQ zMR zMS zMT zMU zMV zMW zMX zMz zMA b0 b1=>k (V.st [(V.sc (.int .u8 zMc)),(V.sc (.int .u8 zMd)),(V.sc (.int .u8 zMw)),(V.sc (.int .u8 zM0)),(V.sc (.int .u8 zM1)),(V.sc (.int .u8 zM2)),(V.sc (.int .u8 zM3)),(V.sc (.int .u8 zM4)),(V.sc (.int .u8 zM5)),(V.sc (.int .u8 zM6)),(V.sc (.int .u8 zMC)),(V.sc (.int .u8 zMD)),(V.sc (.int .u8 zME)),(V.sc (.int .u8 zMF)),(V.sc (.int .u8 zMG)),(V.sc (.int .u8 zMH)),(V.sc (.int .u8 zMI)),(V.sc (.int .u8 zMJ)),(V.sc (.int .u8 zMK)),(V.sc (.int .u8 zML)),(V.sc (.int .u8 zMM)),(V.sc (.int .u8 zMN)),(V.sc (.int .u8 zMO)),(V.sc (.int .u8 zMP)),(V.sc (.int .u8 zMQ)),(V.sc (.int .u8 zMR)),(V.sc (.int .u8 zMS)),(V.sc (.int .u8 zMT)),(V.sc (.int .u8 zMU)),(V.sc (.int .u8 zMV)),(V.sc (.int .u8 zMW)),(V.sc (.int .u8 zMX)),(V.own 0 0 zMz 5),(V.own 1 0 zMA 5)]) [(.live true b0),(.live true b1)])
 | _,_=>none
theorem zyc (L:Nat) (β:Type) (args:List V) (bor:Bor) (k:KK β) (r:β) (h:zhB yg L β args bor k=some r):xt znH (zm7 L) L zjs args bor k=some r:=by
 unfold zhB at h
 split at h
 ·have q:=xZ h; clear h; obtain ⟨p0,rfl,h⟩:=q
  exact (zyn L p0 k).trans h
 ·cases h
def zjl:CF:=⟨15,[.tmp 4],
 (.seq (.reg [oo 4 (.move (.const (.gs 5 [])) true)])
 (.seq (.dreg [] [(oo 5 (.buildSlice 5 0 [(.sc (.int .i64 0)),(.sc (.int .u32 0)),(.sc (.int .u16 0)),(.sc (.int .u32 0)),(.sc (.int .u32 0))] []),q0),
   (oo 6 (.move (tq 0) false),q0),
   (oo 7 (.move (tq 1) false),q0),
   (oo 8 (.sliceS 5 (tq 6) none (some (tq 7)) none),q0),
   (oo 9 (.append 5 24 (tq 5) (tq 8)),q0),
   (oo 10 (.move (tq 0) false),q0),
   (oo 11 (.move (tq 1) false),q0),
   (oo 12 (.bin .add (tq 11) (.const (.sc (.int .i64 1)))),q0),
   (oo 13 (.sliceS 5 (tq 10) (some (tq 12)) none none),q0),
   (oo 14 (.append 5 24 (tq 9) (tq 13)),q0),
   (oo 4 (.move (tq 14) true),q0)])
 .ret))⟩
def zqn:Hint:=⟨[(0,0),(1,10)],[],[none],[],[],false,false⟩
def zm9:Nat→Sh:=xP []
def zmZ (L:Nat):CBC:=noC
def zoC {β:Type} (L:Nat) (p0:List (List V)) (p1:Int) (k_fin:List (List V)→Option β):Option β :=
 chk (0≤p1∧p1≤(((List.length p0):Nat):Int)) (
 chk ((List.length ([]:List (List V))+List.length (List.take ((Int.toNat p1) - 0) (List.drop 0 p0))) * 24≤zt∧List.length ([]:List (List V))+List.length (List.take ((Int.toNat p1) - 0) (List.drop 0 p0))≤zt) (
 lt (([]:List (List V))++(List.take ((Int.toNat p1) - 0) (List.drop 0 p0))) fun l0 =>
 lt (IntKind.wrap .i64 ((p1:Int)+(1:Int))) fun x1 =>
 chk (0≤x1∧x1≤(((List.length p0):Nat):Int)) (
 chk ((List.length l0+List.length (List.take ((List.length p0) - (Int.toNat x1)) (List.drop (Int.toNat x1) p0))) * 24≤zt∧List.length l0+List.length (List.take ((List.length p0) - (Int.toNat x1)) (List.drop (Int.toNat x1) p0))≤zt) (
 lt (l0++(List.take ((List.length p0) - (Int.toNat x1)) (List.drop (Int.toNat x1) p0))) fun l2 =>
 k_fin l2))))
theorem zyI {β:Type} (L:Nat) (p0:List (List V)) (p1:Int) (k:KK β):xt zm9 (zmZ L) L zjl [(V.sl 5 p0),(V.sc (.int .i64 p1))] [] k=zoC L p0 p1 (fun p0=>k (V.gs 5 p0) []):=by kernel_rfl
abbrev xQ:=∀ (β:Type),Nat→List (List V)→Int→(List (List V)→Option β)→Option β
def yf (β:Type) (L:Nat) (p0:List (List V)) (p1:Int) (k_fin:List (List V)→Option β):Option β:=zoC L p0 p1 k_fin
def zhD (yf:xQ) (L:Nat) (β:Type) (args:List V) (bor:Bor) (k:KK β):Option β:=match args,bor with
 | [a0,a1],[]=>aL 5 a0 fun p0=>aI .i64 a1 fun p1=>yf β L p0 p1 (fun p0=>k (V.gs 5 p0) [])
 | _,_=>none
theorem zyf (L:Nat) (β:Type) (args:List V) (bor:Bor) (k:KK β) (r:β) (h:zhD yf L β args bor k=some r):xt zm9 (zmZ L) L zjl args bor k=some r:=by
 unfold zhD at h
 split at h
 ·have q:=y4 h; clear h; obtain ⟨p0,rfl,h⟩:=q
  have q:=za5 h; clear h; obtain ⟨p1,rfl,h⟩:=q
  exact (zyI L p0 p1 k).trans h
 ·cases h
def zdt:CC:=(.seq (.seq (.reg [oo 24 (.move (tq 7) false),
   oo 25 (.move (tq 0) false),
   oo 26 (.lenS (tq 25)),
   oo 27 (.bin .lss (tq 24) (tq 26)),
   oo 28 (.move (tq 27) false),
   ⟨(some 29),false,(some (28,true)),.move (tq 0) false⟩,
   ⟨(some 30),false,(some (28,true)),.move (tq 7) false⟩,
   ⟨(some 31),false,(some (28,true)),.indexAddrS 5 (tq 29) (tq 30)⟩,
   ⟨(some 32),false,(some (28,true)),.fieldAddr 0 (tq 31)⟩,
   ⟨(some 33),false,(some (28,true)),.load false 1 (tq 32) false⟩,
   ⟨(some 34),false,(some (28,true)),.move (tq 1) false⟩,
   ⟨(some 35),false,(some (28,true)),.bin .eql (tq 33) (tq 34)⟩,
   oo 36 (.pick (tq 28) (tq 35) (.const (.sc (.bool false))))])
 (.cond (tq 36)
 .skip
 (.seq (.mask (bl 192 41) (bl 2198956146687 41))
 (.exit 2))))
 (.block 3 (.reg [oo 37 (.move (tq 7) false),
   oo 38 (.bin .add (tq 37) (.const (.sc (.int .i64 1)))),
   oo 7 (.move (tq 38) false)])))
def ziT:CC:=(.seq (.reg [oo 39 (.move (tq 6) false),
   oo 40 (.move (tq 7) false),
   oo 4 (.move (tq 39) false),
   oo 5 (.move (tq 40) false)])
 .ret)
def zd5:CC:=(.seq (.seq (.reg [oo 8 (.move (tq 6) false),
   oo 9 (.move (tq 0) false),
   oo 10 (.lenS (tq 9)),
   oo 11 (.bin .lss (tq 8) (tq 10)),
   oo 12 (.move (tq 11) false),
   ⟨(some 13),false,(some (12,true)),.move (tq 0) false⟩,
   ⟨(some 14),false,(some (12,true)),.move (tq 6) false⟩,
   ⟨(some 15),false,(some (12,true)),.indexAddrS 5 (tq 13) (tq 14)⟩,
   ⟨(some 16),false,(some (12,true)),.fieldAddr 0 (tq 15)⟩,
   ⟨(some 17),false,(some (12,true)),.load false 1 (tq 16) false⟩,
   ⟨(some 18),false,(some (12,true)),.move (tq 1) false⟩,
   ⟨(some 19),false,(some (12,true)),.bin .lss (tq 17) (tq 18)⟩,
   oo 20 (.pick (tq 12) (tq 19) (.const (.sc (.bool false))))])
 (.cond (tq 20)
 .skip
 (.seq (.mask (bl 67 41) (bl 2199023254527 41))
 (.exit 0))))
 (.block 1 (.reg [oo 21 (.move (tq 6) false),
   oo 22 (.bin .add (tq 21) (.const (.sc (.int .i64 1)))),
   oo 6 (.move (tq 22) false)])))
def zhf:CC:=(.seq (.reg [oo 23 (.move (tq 6) false),
   oo 7 (.move (tq 23) false)])
 (.seq (.block 2 (.loop (bl 195 41) (bl 2198956146687 41)
 zdt))
 ziT))
def zbS:CF:=⟨41,[.tmp 4,.tmp 5],
 (.seq (.reg [oo 4 (.move (.const (.sc (.int .i64 0))) false),
   oo 5 (.move (.const (.sc (.int .i64 0))) false)])
 (.seq (.reg [oo 6 (.move (.const (.sc (.int .i64 0))) false)])
 (.seq (.block 0 (.loop (bl 67 41) (bl 2199023254527 41)
 zd5))
 zhf)))⟩
def zqv:Hint:=⟨[],[],[none,some ((bl 67 41),(bl 2199023254527 41)),none,some ((bl 67 41),(bl 2199023254527 41)),none,none,some ((bl 195 41),(bl 2198956146687 41)),none,some ((bl 192 41),(bl 2198956146687 41)),none,none],[],[],false,false⟩
def xY:Nat→Sh:=xP [(17,(.int .i64)),(33,(.int .i64))]
def xX (L:Nat):CBC:=noC
def zgl:St→St:=zaj 0 (bl 67 41) (bl 2199023254527 41)
def zfn:St→St:=zaj 0 (bl 195 41) (bl 2198956146687 41)
def zeO (p0:List (List V)) (p1 p6:Int):St:=⟨((V.sl 5 p0)::((V.sc (.int .i64 p1))::(jn 4 ((V.sc (.int .i64 p6))::(jn 34 []))))),(gn 41 [])⟩
def zgO (p0:List (List V)) (p1 p6:Int):St:=⟨((V.sl 5 p0)::((V.sc (.int .i64 p1))::(jn 4 ((V.sc (.int .i64 p6))::(jn 34 []))))),(gn 41 [])⟩
def zdW (p0:List (List V)) (p1 p6 p7:Int):St:=⟨((V.sl 5 p0)::((V.sc (.int .i64 p1))::(jn 4 ((V.sc (.int .i64 p6))::((V.sc (.int .i64 p7))::(jn 33 [])))))),(gn 41 [])⟩
def zj1 (p6 p7:Int):St:=⟨(jn 6 ((V.sc (.int .i64 p6))::((V.sc (.int .i64 p7))::(jn 33 [])))),(gn 41 [])⟩
def zo2 {β:Type} (L:Nat) (p0:List (List V)) (p1:Int) (k_hbbaa:List (List V)→Int→Int→Option β):Option β :=
 k_hbbaa p0 p1 (0:Int)
theorem zyi {β:Type} (L:Nat) (p0:List (List V)) (p1:Int) (k:KK β):xt xY (xX L) L zbS [(V.sl 5 p0),(V.sc (.int .i64 p1))] [] k=zo2 L p0 p1 (fun p0 p1 p6=>yF (xm xY (xX L) 0 L zd5) zgl L (zeO p0 p1 p6) (xE 0 (xR (xm xY (xX L) 0 L zhf) (y5 0 (CF.res zbS) k)))):=by kernel_rfl
def zkt {β:Type} (L:Nat) (p0:List (List V)) (p1 p6:Int) (k_hbbaa:List (List V)→Int→Int→Option β) (k_x0:List (List V)→Int→Int→Option β):Option β :=
 ifb (decide (p6 < ((List.length p0:Nat):Int))) (
 idx p0 p6 fun c0 =>
 cI .i64 c0 0 fun v1 =>
 ifb (decide (v1 < p1)) (
 lt (IntKind.wrap .i64 ((p6:Int)+(1:Int))) fun x2 =>
 k_hbbaa p0 p1 x2) (
 k_x0 p0 p1 p6)) (
 k_x0 p0 p1 p6)
theorem zuC {β:Type} (L:Nat) (p0:List (List V)) (p1 p6:Int) (X:St→Option β) (K:KT β):xm xY (xX L) 0 L zd5 (zeO p0 p1 p6) (zbR zgl X K)=zkt L p0 p1 p6 (fun p0 p1 p6=>X (zeO p0 p1 p6)) (fun p0 p1 p6=>K (.exit 0) (zgO p0 p1 p6)):=by kernel_rfl
def znd {β:Type} (L:Nat) (p0:List (List V)) (p1 p6:Int) (k_hbbbbaa:List (List V)→Int→Int→Int→Option β):Option β :=
 k_hbbbbaa p0 p1 p6 p6
theorem zsu {β:Type} (L:Nat) (p0:List (List V)) (p1 p6:Int) (k:KK β):(xE 0 (xR (xm xY (xX L) 0 L zhf) (y5 0 (CF.res zbS) k))) (.exit 0) (zgO p0 p1 p6)=znd L p0 p1 p6 (fun p0 p1 p6 p7=>yF (xm xY (xX L) 0 L zdt) zfn L (zdW p0 p1 p6 p7) (xE 2 (xR (xm xY (xX L) 0 L ziT) (y5 0 (CF.res zbS) k)))):=by kernel_rfl
def zix {β:Type} (L:Nat) (p0:List (List V)) (p1 p6 p7:Int) (k_hbbbbaa:List (List V)→Int→Int→Int→Option β) (k_x2:Int→Int→Option β):Option β :=
 ifb (decide (p7 < ((List.length p0:Nat):Int))) (
 idx p0 p7 fun c3 =>
 cI .i64 c3 0 fun v4 =>
 ifb ((v4:Int) == p1) (
 lt (IntKind.wrap .i64 ((p7:Int)+(1:Int))) fun x5 =>
 k_hbbbbaa p0 p1 p6 x5) (
 k_x2 p6 p7)) (
 k_x2 p6 p7)
theorem zsE {β:Type} (L:Nat) (p0:List (List V)) (p1 p6 p7:Int) (X:St→Option β) (K:KT β):xm xY (xX L) 0 L zdt (zdW p0 p1 p6 p7) (zbR zfn X K)=zix L p0 p1 p6 p7 (fun p0 p1 p6 p7=>X (zdW p0 p1 p6 p7)) (fun p6 p7=>K (.exit 2) (zj1 p6 p7)):=by kernel_rfl
def zlP {β:Type} (L:Nat) (p6 p7:Int) (k_fin:Int→Int→Option β):Option β :=
 k_fin p6 p7
theorem zqE {β:Type} (L:Nat) (p6 p7:Int) (k:KK β):(xE 2 (xR (xm xY (xX L) 0 L ziT) (y5 0 (CF.res zbS) k))) (.exit 2) (zj1 p6 p7)=zlP L p6 p7 (fun zMc zMd=>k (V.tup [(V.sc (.int .i64 zMc)),(V.sc (.int .i64 zMd))]) []):=by kernel_rfl
def zeG {β:Type} (L:Nat) (k_x0:List (List V)→Int→Int→Option β):Nat→List (List V)→Int→Int→Option β
 | 0,_,_,_=>none
 | n+1,p0,p1,p6=>zkt L p0 p1 p6 (fun p0 p1 p6=>zeG L k_x0 n p0 p1 p6) k_x0
theorem zmS {β:Type} (L:Nat) (K:KT β):∀ (n:Nat) (p0:List (List V)) (p1 p6:Int),yF (xm xY (xX L) 0 L zd5) zgl n (zeO p0 p1 p6) K=zeG L (fun p0 p1 p6=>K (.exit 0) (zgO p0 p1 p6)) n p0 p1 p6:=by
 intro n
 induction n with
 | zero=>intros; rfl
 | succ n ih =>
  intro p0 p1 p6
  refine (zuC L p0 p1 p6 (fun σ=>yF (xm xY (xX L) 0 L zd5) zgl n σ K) K).trans ?_
  simp only [ih]
  rfl
def zdH {β:Type} (L:Nat) (k_x2:Int→Int→Option β):Nat→List (List V)→Int→Int→Int→Option β
 | 0,_,_,_,_=>none
 | n+1,p0,p1,p6,p7=>zix L p0 p1 p6 p7 (fun p0 p1 p6 p7=>zdH L k_x2 n p0 p1 p6 p7) k_x2
theorem zkW {β:Type} (L:Nat) (K:KT β):∀ (n:Nat) (p0:List (List V)) (p1 p6 p7:Int),yF (xm xY (xX L) 0 L zdt) zfn n (zdW p0 p1 p6 p7) K=zdH L (fun p6 p7=>K (.exit 2) (zj1 p6 p7)) n p0 p1 p6 p7:=by
 intro n
 induction n with
 | zero=>intros; rfl
 | succ n ih =>
  intro p0 p1 p6 p7
  refine (zsE L p0 p1 p6 p7 (fun σ=>yF (xm xY (xX L) 0 L zdt) zfn n σ K) K).trans ?_
  simp only [ih]
  rfl
def zhy {β:Type} (L:Nat) (p0:List (List V)) (p1 p6:Int) (k_fin:Int→Int→Option β):Option β :=
 znd L p0 p1 p6 (fun p0 p1 p6 p7=>zdH L (fun p6 p7=>zlP L p6 p7 k_fin) L p0 p1 p6 p7)
theorem zr6 {β:Type} (L:Nat) (p0:List (List V)) (p1 p6:Int) (k:KK β):(xE 0 (xR (xm xY (xX L) 0 L zhf) (y5 0 (CF.res zbS) k))) (.exit 0) (zgO p0 p1 p6)=zhy L p0 p1 p6 (fun zMc zMd=>k (V.tup [(V.sc (.int .i64 zMc)),(V.sc (.int .i64 zMd))]) []):=by
 refine (zsu L p0 p1 p6 k).trans ?_
 unfold zhy
 first
  | (simp only [zkW,zqE]; done)
  | (simp only [zkW]; rfl)
def zkO {β:Type} (L:Nat) (p0:List (List V)) (p1:Int) (k_fin:Int→Int→Option β):Option β :=
 zo2 L p0 p1 (fun p0 p1 p6=>zeG L (fun p0 p1 p6=>zhy L p0 p1 p6 k_fin) L p0 p1 p6)
theorem zyg {β:Type} (L:Nat) (p0:List (List V)) (p1:Int) (k:KK β):xt xY (xX L) L zbS [(V.sl 5 p0),(V.sc (.int .i64 p1))] [] k=zkO L p0 p1 (fun zMc zMd=>k (V.tup [(V.sc (.int .i64 zMc)),(V.sc (.int .i64 zMd))]) []):=by
 refine (zyi L p0 p1 k).trans ?_
 unfold zkO
 first
  | (simp only [zmS,zr6]; done)
  | (simp only [zmS]; rfl)
abbrev yL:=∀ (β:Type),Nat→List (List V)→Int→(Int→Int→Option β)→Option β
def zf (β:Type) (L:Nat) (p0:List (List V)) (p1:Int) (k_fin:Int→Int→Option β):Option β:=zkO L p0 p1 k_fin
def zfx (zf:yL) (L:Nat) (β:Type) (args:List V) (bor:Bor) (k:KK β):Option β:=match args,bor with
 | [a0,a1],[]=>aL 5 a0 fun p0=>aI .i64 a1 fun p1=>zf β L p0 p1 (fun zMc zMd=>k (V.tup [(V.sc (.int .i64 zMc)),(V.sc (.int .i64 zMd))]) [])
 | _,_=>none
theorem zx8 (L:Nat) (β:Type) (args:List V) (bor:Bor) (k:KK β) (r:β) (h:zfx zf L β args bor k=some r):xt xY (xX L) L zbS args bor k=some r:=by
 unfold zfx at h
 split at h
 ·have q:=y4 h; clear h; obtain ⟨p0,rfl,h⟩:=q
  have q:=za5 h; clear h; obtain ⟨p1,rfl,h⟩:=q
  exact (zyg L p0 p1 k).trans h
 ·cases h
def zjz:CF:=⟨26,[.tmp 4],
 (.seq (.reg [oo 3 (.box true (tq 1)),
   oo 4 (.move (.const (.gs 5 [])) true)])
 (.seq (.reg [oo 8 (.move (tq 0) false),
   oo 9 (.fieldAddr 0 (tq 3)),
   oo 10 (.load false 1 (tq 9) false),
   oo 11 (.call 291 [((tq 8),0),((tq 10),0)] []),
   oo 7 (.move (tq 11) true),
   oo 12 (.pull (tq 7) 0),
   oo 13 (.pull (tq 7) 1),
   oo 5 (.move (tq 12) false),
   oo 6 (.move (tq 13) false)])
 (.seq (.dreg [] [(oo 14 (.buildSlice 5 0 [(.sc (.int .i64 0)),(.sc (.int .u32 0)),(.sc (.int .u16 0)),(.sc (.int .u32 0)),(.sc (.int .u32 0))] []),qn [3] [20]),
   (oo 15 (.move (tq 0) false),q0),
   (oo 16 (.move (tq 6) false),q0),
   (oo 17 (.sliceS 5 (tq 15) none (some (tq 16)) none),q0),
   (oo 18 (.append 5 24 (tq 14) (tq 17)),qn [3] [20]),
   (oo 19 (.load true 5 (tq 3) false),ql 3 [] [14,18]),
   (oo 20 (.buildSlice 5 1 [(.sc (.int .i64 0)),(.sc (.int .u32 0)),(.sc (.int .u16 0)),(.sc (.int .u32 0)),(.sc (.int .u32 0))] [(0,5,(tq 19))]),qn [] [14,18]),
   (oo 21 (.append 5 24 (tq 18) (tq 20)),q0),
   (oo 22 (.move (tq 0) false),q0),
   (oo 23 (.move (tq 6) false),q0),
   (oo 24 (.sliceS 5 (tq 22) (some (tq 23)) none none),q0),
   (oo 25 (.append 5 24 (tq 21) (tq 24)),q0),
   (oo 4 (.move (tq 25) true),q0)])
 .ret)))⟩
def zqz:Hint:=⟨[(0,1),(1,4),(2,12)],[],[none],[],[],false,false⟩
def zn2:Nat→Sh:=xP [(10,(.int .i64))]
def znl (zf:yL) (L:Nat):CBC:=(zx 291 (zfx zf L) noC)
def zo4 {β:Type} (zf:yL) (L:Nat) (p0:List (List V)) (p1:List V) (k_fin:List (List V)→Option β):Option β :=
 cI .i64 p1 0 fun v0 =>
 zf β L p0 v0 (fun v1 v2 =>
 chk (0≤v2∧v2≤(((List.length p0):Nat):Int)) (
 chk ((List.length ([]:List (List V))+List.length (List.take ((Int.toNat v2) - 0) (List.drop 0 p0))) * 24≤zt∧List.length ([]:List (List V))+List.length (List.take ((Int.toNat v2) - 0) (List.drop 0 p0))≤zt) (
 lt (([]:List (List V))++(List.take ((Int.toNat v2) - 0) (List.drop 0 p0))) fun l3 =>
 chk (0+5≤(List.length p1)) (
 chk ((List.length (List.take 5 p1))=5∧0+5≤5) (
 chk ((List.length l3+List.length (zl 5 1 (zh [(V.sc (.int .i64 (0:Int))),(V.sc (.int .u32 (0:Int))),(V.sc (.int .u16 (0:Int))),(V.sc (.int .u32 (0:Int))),(V.sc (.int .u32 (0:Int)))] 0 (List.take 5 p1)))) * 24≤zt∧List.length l3+List.length (zl 5 1 (zh [(V.sc (.int .i64 (0:Int))),(V.sc (.int .u32 (0:Int))),(V.sc (.int .u16 (0:Int))),(V.sc (.int .u32 (0:Int))),(V.sc (.int .u32 (0:Int)))] 0 (List.take 5 p1)))≤zt) (
 lt (l3++(zl 5 1 (zh [(V.sc (.int .i64 (0:Int))),(V.sc (.int .u32 (0:Int))),(V.sc (.int .u16 (0:Int))),(V.sc (.int .u32 (0:Int))),(V.sc (.int .u32 (0:Int)))] 0 (List.take 5 p1)))) fun l4 =>
 chk (0≤v2∧v2≤(((List.length p0):Nat):Int)) (
 chk ((List.length l4+List.length (List.take ((List.length p0) - (Int.toNat v2)) (List.drop (Int.toNat v2) p0))) * 24≤zt∧List.length l4+List.length (List.take ((List.length p0) - (Int.toNat v2)) (List.drop (Int.toNat v2) p0))≤zt) (
 lt (l4++(List.take ((List.length p0) - (Int.toNat v2)) (List.drop (Int.toNat v2) p0))) fun l5 =>
 k_fin l5))))))))
theorem zyD {β:Type} (zf:yL) (L:Nat) (p0:List (List V)) (p1:List V) (k:KK β):xt zn2 (znl zf L) L zjz [(V.sl 5 p0),(V.agg p1)] [] k=zo4 zf L p0 p1 (fun p0=>k (V.gs 5 p0) []):=by kernel_rfl
abbrev yR:=∀ (β:Type),Nat→List (List V)→List V→(List (List V)→Option β)→Option β
def xe (β:Type) (L:Nat) (p0:List (List V)) (p1:List V) (k_fin:List (List V)→Option β):Option β:=zo4 zf L p0 p1 k_fin
def zhI (xe:yR) (L:Nat) (β:Type) (args:List V) (bor:Bor) (k:KK β):Option β:=match args,bor with
 | [a0,a1],[]=>aL 5 a0 fun p0=>aG a1 fun p1=>xe β L p0 p1 (fun p0=>k (V.gs 5 p0) [])
 | _,_=>none
theorem zym (L:Nat) (β:Type) (args:List V) (bor:Bor) (k:KK β) (r:β) (h:zhI xe L β args bor k=some r):xt zn2 (znl zf L) L zjz args bor k=some r:=by
 unfold zhI at h
 split at h
 ·have q:=y4 h; clear h; obtain ⟨p0,rfl,h⟩:=q
  have q:=xZ h; clear h; obtain ⟨p1,rfl,h⟩:=q
  exact (zyD zf L p0 p1 k).trans h
 ·cases h
def zfU:CC:=(.seq (.seq (.reg [oo 6 (.move (tq 5) false),
   oo 7 (.move (tq 0) false),
   oo 8 (.lenS (tq 7)),
   oo 9 (.bin .lss (tq 6) (tq 8))])
 (.cond (tq 9)
 .skip
 (.seq (.mask (bl 0 20) (bl 786119 20))
 (.exit 0))))
 (.seq (.block 1 (.seq (.dreg [] [(oo 12 (.move (tq 0) false),q0),
   (oo 13 (.move (tq 5) false),q0),
   (oo 14 (.indexAddrS 5 (tq 12) (tq 13)),q0),
   (oo 15 (.fieldAddr 1 (tq 14)),q0),
   (oo 16 (.load true 3 (tq 15) false),q1),
   (oo 17 (.load true 3 (tq 3) false),{ q1 with root:=some 3 }),
   (oo 18 (.call 303 [((tq 16),0),((tq 17),0)] []),q0)])
 (.cond (tq 18)
 (.seq (.reg [oo 19 (.move (tq 5) false),
   oo 4 (.move (tq 19) false)])
 (.seq (.mask (bl 16 20) (bl 786135 20))
 .ret))
 .skip)))
 (.reg [oo 10 (.move (tq 5) false),
   oo 11 (.bin .add (tq 10) (.const (.sc (.int .i64 1)))),
   oo 5 (.move (tq 11) false)])))
def zmi:CC:=(.seq (.reg [oo 4 (.move (.const (.sc (.int .i64 (-1)))) false)])
 .ret)
def zeI:CF:=zde
def zbq:Nat→Sh:=xP []
def zbp (xg:zN) (L:Nat):CBC:=(zx 303 (zj5 xg L) noC)
def zgt:St→St:=zaj 1 (bl 41 20) (bl 786159 20)
def zeR (p0l:Nat) (p5:Int) (b0 b4:List V):St:=⟨((V.own 0 0 p0l 5)::(jn 2 ((V.ptr 4 0)::(jn 1 ((V.sc (.int .i64 p5))::(jn 14 [])))))),((.live true b0)::(gn 3 ((.live true b4)::(gn 16 []))))⟩
def ziZ (p4:Int) (b0:List V):St:=⟨(jn 4 ((V.sc (.int .i64 p4))::(jn 15 []))),((.live true b0)::(gn 20 []))⟩
def zj0 (b0:List V):St:=⟨(jn 20 []),((.live true b0)::(gn 20 []))⟩
def zoP {β:Type} (xg:zN) (L:Nat) (p0l:Nat) (p1 b0:List V) (k_hbaba:Nat→Int→List V→List V→Option β):Option β :=
 k_hbaba p0l (0:Int) b0 p1
theorem zx2 {β:Type} (xg:zN) (L:Nat) (p0l:Nat) (p1 b0:List V) (k:KK β):xt zbq (zbp xg L) L zeI [(V.own 0 0 p0l 5),(V.agg p1)] [(.live true b0)] k=zoP xg L p0l p1 b0 (fun p0l p5 b0 b4=>yF (xm zbq (zbp xg L) 1 L zfU) zgt L (zeR p0l p5 b0 b4) (xE 0 (xR (xm zbq (zbp xg L) 1 L zmi) (y5 1 (CF.res zeI) k)))):=by kernel_rfl
def zkv {β:Type} (xg:zN) (L:Nat) (p0l:Nat) (p5:Int) (b0 b4:List V) (k_ret:Int→List V→Option β) (k_hbaba:Nat→Int→List V→List V→Option β) (k_x0:List V→Option β):Option β :=
 ifb (decide (p5 < ((p0l:Nat):Int))) (
 chk (0≤p5∧p5 < ((p0l:Nat):Int)) (
 chk (((0+((Int.toNat p5) * 5))+1)+3≤(List.length b0)) (
 chk (0+3≤(List.length b4)) (
 xg β L (List.take 3 (List.drop ((0+((Int.toNat p5) * 5))+1) b0)) (List.take 3 b4) (fun v0 =>
 ifb v0 (
 k_ret p5 b0) (
 lt (IntKind.wrap .i64 ((p5:Int)+(1:Int))) fun x1 =>
 k_hbaba p0l x1 b0 b4)))))) (
 k_x0 b0)
theorem zuy {β:Type} (xg:zN) (L:Nat) (p0l:Nat) (p5:Int) (b0 b4:List V) (X:St→Option β) (K:KT β):xm zbq (zbp xg L) 1 L zfU (zeR p0l p5 b0 b4) (zbR zgt X K)=zkv xg L p0l p5 b0 b4 (fun p4 b0=>K .ret (ziZ p4 b0)) (fun p0l p5 b0 b4=>X (zeR p0l p5 b0 b4)) (fun b0=>K (.exit 0) (zj0 b0)):=by kernel_rfl
def zmy {β:Type} (xg:zN) (L:Nat) (p4:Int) (b0:List V) (k_fin:Int→List V→Option β):Option β :=
 k_fin p4 b0
theorem zrE {β:Type} (xg:zN) (L:Nat) (p4:Int) (b0:List V) (k:KK β):(xE 0 (xR (xm zbq (zbp xg L) 1 L zmi) (y5 1 (CF.res zeI) k))) .ret (ziZ p4 b0)=zmy xg L p4 b0 (fun p0 b0=>k (V.sc (.int .i64 p0)) [(.live true b0)]):=by kernel_rfl
def znP {β:Type} (xg:zN) (L:Nat) (b0:List V) (k_fin:Int→List V→Option β):Option β :=
 k_fin (-1:Int) b0
theorem zsw {β:Type} (xg:zN) (L:Nat) (b0:List V) (k:KK β):(xE 0 (xR (xm zbq (zbp xg L) 1 L zmi) (y5 1 (CF.res zeI) k))) (.exit 0) (zj0 b0)=znP xg L b0 (fun p0 b0=>k (V.sc (.int .i64 p0)) [(.live true b0)]):=by kernel_rfl
def zeH {β:Type} (xg:zN) (L:Nat) (k_ret:Int→List V→Option β) (k_x0:List V→Option β):Nat→Nat→Int→List V→List V→Option β
 | 0,_,_,_,_=>none
 | n+1,p0l,p5,b0,b4=>zkv xg L p0l p5 b0 b4 k_ret (fun p0l p5 b0 b4=>zeH xg L k_ret k_x0 n p0l p5 b0 b4) k_x0
theorem zmP {β:Type} (xg:zN) (L:Nat) (K:KT β):∀ (n:Nat) (p0l:Nat) (p5:Int) (b0 b4:List V),yF (xm zbq (zbp xg L) 1 L zfU) zgt n (zeR p0l p5 b0 b4) K=zeH xg L (fun p4 b0=>K .ret (ziZ p4 b0)) (fun b0=>K (.exit 0) (zj0 b0)) n p0l p5 b0 b4:=by
 intro n
 induction n with
 | zero=>intros; rfl
 | succ n ih =>
  intro p0l p5 b0 b4
  refine (zuy xg L p0l p5 b0 b4 (fun σ=>yF (xm zbq (zbp xg L) 1 L zfU) zgt n σ K) K).trans ?_
  simp only [ih]
  rfl
def zkI {β:Type} (xg:zN) (L:Nat) (p0l:Nat) (p1 b0:List V) (k_fin:Int→List V→Option β):Option β :=
 zoP xg L p0l p1 b0 (fun p0l p5 b0 b4=>zeH xg L (fun p4 b0=>zmy xg L p4 b0 k_fin) (fun b0=>znP xg L b0 k_fin) L p0l p5 b0 b4)
theorem zyw {β:Type} (xg:zN) (L:Nat) (p0l:Nat) (p1 b0:List V) (k:KK β):xt zbq (zbp xg L) L zeI [(V.own 0 0 p0l 5),(V.agg p1)] [(.live true b0)] k=zkI xg L p0l p1 b0 (fun p0 b0=>k (V.sc (.int .i64 p0)) [(.live true b0)]):=by
 refine (zx2 xg L p0l p1 b0 k).trans ?_
 unfold zkI
 first
  | (simp only [zmP,zrE,zsw]; done)
  | (simp only [zmP]; rfl)
abbrev zZ:=∀ (β:Type),Nat→Nat→List V→List V→(Int→List V→Option β)→Option β
def xh (β:Type) (L:Nat) (p0l:Nat) (p1 b0:List V) (k_fin:Int→List V→Option β):Option β:=zkI xg L p0l p1 b0 k_fin
def zkR (xh:zZ) (L:Nat) (β:Type) (args:List V) (bor:Bor) (k:KK β):Option β:=match args,bor with
 | [a0,a1],[(.live true b0)]=>aO0 0 5 a0 fun p0l=>aG a1 fun p1=>xh β L p0l p1 b0 (fun p0 b0=>k (V.sc (.int .i64 p0)) [(.live true b0)])
 | _,_=>none
theorem zyo (L:Nat) (β:Type) (args:List V) (bor:Bor) (k:KK β) (r:β) (h:zkR xh L β args bor k=some r):xt zbq (zbp xg L) L zeI args bor k=some r:=by
 unfold zkR at h
 split at h
 ·have q:=zJc h; clear h; obtain ⟨p0l,rfl,h⟩:=q
  have q:=xZ h; clear h; obtain ⟨p1,rfl,h⟩:=q
  exact (zyw xg L p0l p1 _ k).trans h
 ·cases h
end
end Go.Proofs.Ytpafdnidhnldhaa
