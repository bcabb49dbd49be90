/- Part 9 of the proof of ConnectFair: an abstract machine over plain values, its soundness, and the functions of the program on plain values. -/
import Derived.Test.YtpafdnidhnldhaaMConnectFair8
namespace Go.Proofs.Ytpafdnidhnldhaa
section
set_option maxRecDepth 100000
set_option linter.unusedVariables false
set_option linter.unusedSimpArgs false
def zb5:CC:=(.seq (.reg [oo 34 (.bin .lss (tq 33) (tq 32))])
 (.seq (.cond (tq 34)
 .skip
 (.seq (.mask (bl 284 72) (bl 4722366482319889397247 72))
 (.exit 0)))
 (.seq (.block 1 (.seq (.reg [oo 35 (.indexAddrS 3 (tq 31) (tq 33)),
   oo 36 (.load true 3 (tq 35) false),
   oo 11 (.alloc true [(.sc (.int .u32 0)),(.sc (.int .u16 0)),(.sc (.int .u32 0))]),
   oz (.store 3 (tq 11) (tq 36))])
 (.seq (.reg [oo 37 (.move (tq 2) false),
   oo 38 (.load true 3 (tq 11) false),
   oo 39 (.call 278 [((tq 37),0),((tq 38),0)] []),
   oo 40 (.un .not (tq 39))])
 (.cond (tq 40)
 (.seq (.reg [oo 41 (.load true 3 (tq 11) false),
   oo 42 (.build [(.sc (.int .i64 0)),(.sc (.int .u32 0)),(.sc (.int .u16 0)),(.sc (.int .u32 0))] [(0,1,(.const (.sc (.int .i64 1)))),(1,3,(tq 41))]),
   oz (.store 4 (tq 8) (tq 42)),
   oo 9 (.move (.const (.sc (.int .i64 0))) false)])
 (.seq (.mask (bl 768 72) (bl 4722366482319889397743 72))
 .ret))
 .skip))))
 (.reg [oo 43 (.bin .add (tq 33) (.const (.sc (.int .i64 1)))),
   oo 33 (.move (tq 43) false)]))))
def zeO:CC:=(.seq (.reg [oo 12 (.move (.const (.sc (.int .i64 2))) false)])
 (.seq (.reg [oo 44 (.move (tq 2) false),
   oo 45 (.call 276 [((tq 44),0),((.const (.fn 279 [])),0)] []),
   oo 13 (.move (tq 45) false)])
 (.seq (.seq (.reg [oo 46 (.move (tq 2) false),
   oo 47 (.lenS (tq 46)),
   oo 48 (.move (tq 13) false),
   oo 49 (.bin .sub (tq 47) (tq 48)),
   oo 50 (.bin .geq (tq 49) (.const (.sc (.int .i64 7))))])
 (.cond (tq 50)
 (.seq (.reg [oo 12 (.move (.const (.sc (.int .i64 3))) false)])
 (.seq (.reg [oo 51 (.move (tq 13) false),
   oo 52 (.bin .gtr (tq 51) (.const (.sc (.int .i64 0))))])
 (.cond (tq 52)
 (.seq (.reg [oo 53 (.build [(.sc (.int .i64 0)),(.sc (.int .u32 0)),(.sc (.int .u16 0)),(.sc (.int .u32 0))] []),
   oz (.store 4 (tq 8) (tq 53)),
   oo 9 (.move (.const (.sc (.int .i64 380))) false)])
 .ret)
 .skip)))
 .skip))
 (.seq (.reg [oo 54 (.load true 34 (tq 4) false),
   oo 55 (.move (tq 2) false),
   oo 56 (.move (tq 12) false),
   oo 57 (.call 266 [((tq 54),1),((tq 55),0),((tq 56),0)] []),
   oo 14 (.move (tq 57) false)])
 (.seq (.seq (.reg [oo 58 (.move (tq 14) false),
   oo 59 (.lenS (tq 58)),
   oo 60 (.bin .eql (tq 59) (.const (.sc (.int .i64 0))))])
 (.cond (tq 60)
 (.seq (.reg [oo 61 (.build [(.sc (.int .i64 0)),(.sc (.int .u32 0)),(.sc (.int .u16 0)),(.sc (.int .u32 0))] []),
   oz (.store 4 (tq 8) (tq 61)),
   oo 9 (.move (.const (.sc (.int .i64 390))) false)])
 .ret)
 .skip))
 (.seq (.reg [oo 62 (.move (tq 12) false),
   oo 63 (.move (tq 14) false),
   oo 64 (.move (tq 3) false),
   oo 65 (.move (tq 14) false),
   oo 66 (.lenS (tq 65)),
   oo 67 (.conv .u64 (tq 66)),
   oo 68 (.bin .rem (tq 64) (tq 67)),
   oo 69 (.indexAddrS 3 (tq 63) (tq 68)),
   oo 70 (.load true 3 (tq 69) false),
   oo 71 (.build [(.sc (.int .i64 0)),(.sc (.int .u32 0)),(.sc (.int .u16 0)),(.sc (.int .u32 0))] [(0,1,(tq 62)),(1,3,(tq 70))]),
   oz (.store 4 (tq 8) (tq 71)),
   oo 9 (.move (.const (.sc (.int .i64 0))) false)])
 .ret))))))
def zb2:CF:=⟨72,[.cell 8 true 4,.tmp 9],
 (.seq (.reg [oo 4 (.box true (tq 0)),
   oo 8 (.alloc true [(.sc (.int .i64 0)),(.sc (.int .u32 0)),(.sc (.int .u16 0)),(.sc (.int .u32 0))]),
   oo 9 (.move (.const (.sc (.int .i64 0))) false)])
 (.seq (.seq (.reg [oo 15 (.move (tq 2) false),
   oo 16 (.call 270 [((tq 15),0)] []),
   oo 17 (.un .not (tq 16)),
   oo 18 (.move (tq 17) false),
   ⟨(some 19),false,(some (18,false)),.load true 34 (tq 4) false⟩,
   ⟨(some 20),false,(some (18,false)),.call 275 [((tq 19),1)] []⟩,
   ⟨(some 21),false,(some (18,false)),.un .not (tq 20)⟩,
   oo 22 (.pick (tq 18) (.const (.sc (.bool true))) (tq 21))])
 (.cond (tq 22)
 (.seq (.reg [oo 23 (.build [(.sc (.int .i64 0)),(.sc (.int .u32 0)),(.sc (.int .u16 0)),(.sc (.int .u32 0))] []),
   oz (.store 4 (tq 8) (tq 23)),
   oo 9 (.move (.const (.sc (.int .i64 6))) false)])
 .ret)
 .skip))
 (.seq (.seq (.reg [oo 24 (.move (tq 2) false),
   oo 25 (.lenS (tq 24)),
   oo 26 (.bin .geq (tq 25) (.const (.sc (.int .i64 8))))])
 (.cond (tq 26)
 (.seq (.reg [oo 27 (.build [(.sc (.int .i64 0)),(.sc (.int .u32 0)),(.sc (.int .u16 0)),(.sc (.int .u32 0))] []),
   oz (.store 4 (tq 8) (tq 27)),
   oo 9 (.move (.const (.sc (.int .i64 380))) false)])
 .ret)
 .skip))
 (.seq (.seq (.reg [oo 28 (.move (tq 2) false),
   oo 29 (.call 276 [((tq 28),0),((.const (.fn 277 [])),0)] []),
   oo 30 (.bin .lss (tq 29) (.const (.sc (.int .i64 2))))])
 (.cond (tq 30)
 (.seq (.reg [oo 31 (.move (tq 1) false),
   oo 32 (.lenS (tq 31)),
   oo 33 (.move (.const (.sc (.int .i64 0))) false)])
 (.block 0 (.loop (bl 15032385820 72) (bl 4722366482319889397247 72)
 zb5)))
 .skip))
 zeO))))⟩
def zof:Hint:=⟨[(0,0)],[],[none,none,none,none,none,none,some ((bl 15032385820 72),(bl 4722366482319889397247 72)),none,some ((bl 284 72),(bl 4722366482319889397247 72)),none,none,some ((bl 768 72),(bl 4722366482319889397743 72)),none,none,none,none,none,none],[],[],false,false⟩
def zaC:Nat→Sh:=xO []
def zaE (ye:zD) (xk:y9) (ym:zao) (yj:y4) (za:xj) (xa:xp) (L:Nat):CBC:=(xu 278 (zc2 xa L) (xu 266 (zcm za L) (zBv 276 [6,379] (zgP yj L) (zBv 276 [6,377] (zjd ym L) (xu 275 (zh1 xk L) (xu 270 (zep ye L) noC))))))
def zdp:St→St:=zac 0 (bl 15032385820 72) (bl 4722366482319889397247 72)
def zcD (p2:List (List V)) (p3:Int) (p31:List (List V)) (p32 p33:Int) (b4:List V) (zKC zKD zKE zKF:Int):St:=⟨(jn 2 ((V.sl 4 p2)::((V.sc (.int .u64 p3))::((V.ptr 4 0)::(jn 3 ((V.ptr 8 0)::(jn 22 ((V.sl 3 p31)::((V.sc (.int .i64 p32))::((V.sc (.int .i64 p33))::(jn 38 []))))))))))),(gn 4 ((.live true b4)::(gn 3 ((.live true [(V.sc (.int .i64 zKC)),(V.sc (.int .u32 zKD)),(V.sc (.int .u16 zKE)),(V.sc (.int .u32 zKF))])::(gn 63 [])))))⟩
def zhi (p9:Int) (b8:List V):St:=⟨(jn 8 ((V.ptr 8 0)::((V.sc (.int .i64 p9))::(jn 62 [])))),(gn 8 ((.live true b8)::(gn 63 [])))⟩
def zhT (p2:List (List V)) (p3:Int) (b4:List V) (zKC zKD zKE zKF:Int):St:=⟨(jn 2 ((V.sl 4 p2)::((V.sc (.int .u64 p3))::((V.ptr 4 0)::(jn 3 ((V.ptr 8 0)::(jn 63 []))))))),(gn 4 ((.live true b4)::(gn 3 ((.live true [(V.sc (.int .i64 zKC)),(V.sc (.int .u32 zKD)),(V.sc (.int .u16 zKE)),(V.sc (.int .u32 zKF))])::(gn 63 [])))))⟩
abbrev zjb (β:Type):Type:=List (List V)→Int→List (List V)→Int→Int→List V→Int→Int→Int→Int→Option β
abbrev zj2 (β:Type):Type:=List (List V)→Int→List V→Int→Int→Int→Int→Option β
def zlY {β:Type} (ye:zD) (xk:y9) (ym:zao) (yj:y4) (za:xj) (xa:xp) (L:Nat) (p0:List V) (p1 p2:List (List V)) (p3:Int) (k_fin:List V→Int→Option β) (k_hbbbababa:zjb β):Option β :=
 ye β L p2 (fun v0 =>
 ifb (!v0) (
 lt [(V.sc (.int .i64 (0:Int))),(V.sc (.int .u32 (0:Int))),(V.sc (.int .u16 (0:Int))),(V.sc (.int .u32 (0:Int)))] fun r1 =>
 chk (0=0∧(List.length r1)=4∧4≠0) (
 k_fin r1 (6:Int))) (
 chk (0+34≤(List.length p0)) (
 xk β L (List.map V.dem (List.take 34 p0)) (fun v2 =>
 ifb (!v2) (
 lt [(V.sc (.int .i64 (0:Int))),(V.sc (.int .u32 (0:Int))),(V.sc (.int .u16 (0:Int))),(V.sc (.int .u32 (0:Int)))] fun r3 =>
 chk (0=0∧(List.length r3)=4∧4≠0) (
 k_fin r3 (6:Int))) (
 ifb (decide (((List.length p2:Nat):Int) ≥ (8:Int))) (
 lt [(V.sc (.int .i64 (0:Int))),(V.sc (.int .u32 (0:Int))),(V.sc (.int .u16 (0:Int))),(V.sc (.int .u32 (0:Int)))] fun r4 =>
 chk (0=0∧(List.length r4)=4∧4≠0) (
 k_fin r4 (380:Int))) (
 ym β L p2 (fun v5 =>
 ifb (decide (v5 < (2:Int))) (
 k_hbbbababa p2 p3 p1 ((List.length p1:Nat):Int) (0:Int) p0 (0:Int) (0:Int) (0:Int) (0:Int)) (
 yj β L p2 (fun v6 =>
 lt (IntKind.wrap .i64 ((((List.length p2:Nat):Int):Int) - v6)) fun x7 =>
 ifb (decide (x7 ≥ (7:Int))) (
 ifb (decide (v6 > (0:Int))) (
 lt [(V.sc (.int .i64 (0:Int))),(V.sc (.int .u32 (0:Int))),(V.sc (.int .u16 (0:Int))),(V.sc (.int .u32 (0:Int)))] fun r8 =>
 chk (0=0∧(List.length r8)=4∧4≠0) (
 k_fin r8 (380:Int))) (
 chk (0+34≤(List.length p0)) (
 za β L (List.map V.dem (List.take 34 p0)) p2 (3:Int) (fun v9 =>
 ifb ((((List.length v9:Nat):Int):Int) == (0:Int)) (
 lt [(V.sc (.int .i64 (0:Int))),(V.sc (.int .u32 (0:Int))),(V.sc (.int .u16 (0:Int))),(V.sc (.int .u32 (0:Int)))] fun r10 =>
 chk (0=0∧(List.length r10)=4∧4≠0) (
 k_fin r10 (390:Int))) (
 lt (IntKind.wrap .u64 ((List.length v9:Nat):Int)) fun x11 =>
 chk (x11≠0) (
 lt (Int.tmod p3 x11) fun x12 =>
 idx v9 x12 fun c13 =>
 chk ((List.length (List.take 3 c13))=3∧1+3≤4) (
 chk ((List.length (xg [(V.sc (.int .i64 (3:Int))),(V.sc (.int .u32 (0:Int))),(V.sc (.int .u16 (0:Int))),(V.sc (.int .u32 (0:Int)))] 1 (List.take 3 c13)))=4∧0+4≤4) (
 lt (xg [(V.sc (.int .i64 (0:Int))),(V.sc (.int .u32 (0:Int))),(V.sc (.int .u16 (0:Int))),(V.sc (.int .u32 (0:Int)))] 0 (xg [(V.sc (.int .i64 (3:Int))),(V.sc (.int .u32 (0:Int))),(V.sc (.int .u16 (0:Int))),(V.sc (.int .u32 (0:Int)))] 1 (List.take 3 c13))) fun r14 =>
 chk (0=0∧(List.length r14)=4∧4≠0) (
 k_fin r14 (0:Int)))))))))) (
 chk (0+34≤(List.length p0)) (
 za β L (List.map V.dem (List.take 34 p0)) p2 (2:Int) (fun v15 =>
 ifb ((((List.length v15:Nat):Int):Int) == (0:Int)) (
 lt [(V.sc (.int .i64 (0:Int))),(V.sc (.int .u32 (0:Int))),(V.sc (.int .u16 (0:Int))),(V.sc (.int .u32 (0:Int)))] fun r16 =>
 chk (0=0∧(List.length r16)=4∧4≠0) (
 k_fin r16 (390:Int))) (
 lt (IntKind.wrap .u64 ((List.length v15:Nat):Int)) fun x17 =>
 chk (x17≠0) (
 lt (Int.tmod p3 x17) fun x18 =>
 idx v15 x18 fun c19 =>
 chk ((List.length (List.take 3 c19))=3∧1+3≤4) (
 chk ((List.length (xg [(V.sc (.int .i64 (2:Int))),(V.sc (.int .u32 (0:Int))),(V.sc (.int .u16 (0:Int))),(V.sc (.int .u32 (0:Int)))] 1 (List.take 3 c19)))=4∧0+4≤4) (
 lt (xg [(V.sc (.int .i64 (0:Int))),(V.sc (.int .u32 (0:Int))),(V.sc (.int .u16 (0:Int))),(V.sc (.int .u32 (0:Int)))] 0 (xg [(V.sc (.int .i64 (2:Int))),(V.sc (.int .u32 (0:Int))),(V.sc (.int .u16 (0:Int))),(V.sc (.int .u32 (0:Int)))] 1 (List.take 3 c19))) fun r20 =>
 chk (0=0∧(List.length r20)=4∧4≠0) (
 k_fin r20 (0:Int))))))))))))))))))
theorem zvT {β:Type} (ye:zD) (xk:y9) (ym:zao) (yj:y4) (za:xj) (xa:xp) (L:Nat) (p0:List V) (p1 p2:List (List V)) (p3:Int) (k:KK β):xr zaC (zaE ye xk ym yj za xa L) L zb2 [(V.agg p0),(V.sl 3 p1),(V.sl 4 p2),(V.sc (.int .u64 p3))] [] k=zlY ye xk ym yj za xa L p0 p1 p2 p3 (fun zLN zLO=>k (V.tup [(V.agg zLN),(V.sc (.int .i64 zLO))]) []) (fun p2 p3 p31 p32 p33 b4 zKC zKD zKE zKF=>zH (yn zaC (zaE ye xk ym yj za xa L) 0 L zb5) zdp L (zcD p2 p3 p31 p32 p33 b4 zKC zKD zKE zKF) (yH 0 (zV (yn zaC (zaE ye xk ym yj za xa L) 0 L zeO) (y6 0 (CF.res zb2) k)))):=by kernel_rfl
def zfa {β:Type} (ye:zD) (xk:y9) (ym:zao) (yj:y4) (za:xj) (xa:xp) (L:Nat) (p2:List (List V)) (p3:Int) (p31:List (List V)) (p32 p33:Int) (b4:List V) (zKC zKD zKE zKF:Int) (k_ret:Int→List V→Option β) (k_hbbbababa:zjb β) (k_x0:zj2 β):Option β :=
 ifb (decide (p33 < p32)) (
 idx p31 p33 fun c21 =>
 chk ((List.length (List.take 3 c21))=3∧0+3≤3) (
 lt (xg [(V.sc (.int .u32 (0:Int))),(V.sc (.int .u16 (0:Int))),(V.sc (.int .u32 (0:Int)))] 0 (List.take 3 c21)) fun r22 =>
 chk (0+3≤(List.length r22)) (
 xa β L p2 (List.take 3 r22) (fun v23 =>
 ifb (!v23) (
 chk (0+3≤(List.length r22)) (
 chk ((List.length (List.take 3 r22))=3∧1+3≤4) (
 chk ((List.length (xg [(V.sc (.int .i64 (1:Int))),(V.sc (.int .u32 (0:Int))),(V.sc (.int .u16 (0:Int))),(V.sc (.int .u32 (0:Int)))] 1 (List.take 3 r22)))=4∧0+4≤4) (
 lt (xg [(V.sc (.int .i64 zKC)),(V.sc (.int .u32 zKD)),(V.sc (.int .u16 zKE)),(V.sc (.int .u32 zKF))] 0 (xg [(V.sc (.int .i64 (1:Int))),(V.sc (.int .u32 (0:Int))),(V.sc (.int .u16 (0:Int))),(V.sc (.int .u32 (0:Int)))] 1 (List.take 3 r22))) fun r24 =>
 k_ret (0:Int) r24)))) (
 lt (IntKind.wrap .i64 ((p33:Int)+(1:Int))) fun x25 =>
 k_hbbbababa p2 p3 p31 p32 x25 b4 zKC zKD zKE zKF))))) (
 k_x0 p2 p3 b4 zKC zKD zKE zKF)
theorem zps {β:Type} (ye:zD) (xk:y9) (ym:zao) (yj:y4) (za:xj) (xa:xp) (L:Nat) (p2:List (List V)) (p3:Int) (p31:List (List V)) (p32 p33:Int) (b4:List V) (zKC zKD zKE zKF:Int) (X:St→Option β) (K:KT β):yn zaC (zaE ye xk ym yj za xa L) 0 L zb5 (zcD p2 p3 p31 p32 p33 b4 zKC zKD zKE zKF) (zcC zdp X K)=zfa ye xk ym yj za xa L p2 p3 p31 p32 p33 b4 zKC zKD zKE zKF (fun p9 b8=>K .ret (zhi p9 b8)) (fun p2 p3 p31 p32 p33 b4 zKC zKD zKE zKF=>X (zcD p2 p3 p31 p32 p33 b4 zKC zKD zKE zKF)) (fun p2 p3 b4 zKC zKD zKE zKF=>K (.exit 0) (zhT p2 p3 b4 zKC zKD zKE zKF)):=by kernel_rfl
def zea {β:Type} (ye:zD) (xk:y9) (ym:zao) (yj:y4) (za:xj) (xa:xp) (L:Nat) (p9:Int) (b8:List V) (k_fin:List V→Int→Option β):Option β :=
 chk (0=0∧(List.length b8)=4∧4≠0) (
 k_fin b8 p9)
theorem znn {β:Type} (ye:zD) (xk:y9) (ym:zao) (yj:y4) (za:xj) (xa:xp) (L:Nat) (p9:Int) (b8:List V) (k:KK β):(yH 0 (zV (yn zaC (zaE ye xk ym yj za xa L) 0 L zeO) (y6 0 (CF.res zb2) k))) .ret (zhi p9 b8)=zea ye xk ym yj za xa L p9 b8 (fun zLN zLO=>k (V.tup [(V.agg zLN),(V.sc (.int .i64 zLO))]) []):=by kernel_rfl
def zbV {β:Type} (ye:zD) (xk:y9) (ym:zao) (yj:y4) (za:xj) (xa:xp) (L:Nat) (p2:List (List V)) (p3:Int) (b4:List V) (zKC zKD zKE zKF:Int) (k_fin:List V→Int→Option β):Option β :=
 yj β L p2 (fun v26 =>
 lt (IntKind.wrap .i64 ((((List.length p2:Nat):Int):Int) - v26)) fun x27 =>
 ifb (decide (x27 ≥ (7:Int))) (
 ifb (decide (v26 > (0:Int))) (
 lt [(V.sc (.int .i64 (0:Int))),(V.sc (.int .u32 (0:Int))),(V.sc (.int .u16 (0:Int))),(V.sc (.int .u32 (0:Int)))] fun r28 =>
 chk (0=0∧(List.length r28)=4∧4≠0) (
 k_fin r28 (380:Int))) (
 chk (0+34≤(List.length b4)) (
 za β L (List.map V.dem (List.take 34 b4)) p2 (3:Int) (fun v29 =>
 ifb ((((List.length v29:Nat):Int):Int) == (0:Int)) (
 lt [(V.sc (.int .i64 (0:Int))),(V.sc (.int .u32 (0:Int))),(V.sc (.int .u16 (0:Int))),(V.sc (.int .u32 (0:Int)))] fun r30 =>
 chk (0=0∧(List.length r30)=4∧4≠0) (
 k_fin r30 (390:Int))) (
 lt (IntKind.wrap .u64 ((List.length v29:Nat):Int)) fun x31 =>
 chk (x31≠0) (
 lt (Int.tmod p3 x31) fun x32 =>
 idx v29 x32 fun c33 =>
 chk ((List.length (List.take 3 c33))=3∧1+3≤4) (
 chk ((List.length (xg [(V.sc (.int .i64 (3:Int))),(V.sc (.int .u32 (0:Int))),(V.sc (.int .u16 (0:Int))),(V.sc (.int .u32 (0:Int)))] 1 (List.take 3 c33)))=4∧0+4≤4) (
 lt (xg [(V.sc (.int .i64 zKC)),(V.sc (.int .u32 zKD)),(V.sc (.int .u16 zKE)),(V.sc (.int .u32 zKF))] 0 (xg [(V.sc (.int .i64 (3:Int))),(V.sc (.int .u32 (0:Int))),(V.sc (.int .u16 (0:Int))),(V.sc (.int .u32 (0:Int)))] 1 (List.take 3 c33))) fun r34 =>
 chk (0=0∧(List.length r34)=4∧4≠0) (
 k_fin r34 (0:Int)))))))))) (
 chk (0+34≤(List.length b4)) (
 za β L (List.map V.dem (List.take 34 b4)) p2 (2:Int) (fun v35 =>
 ifb ((((List.length v35:Nat):Int):Int) == (0:Int)) (
 lt [(V.sc (.int .i64 (0:Int))),(V.sc (.int .u32 (0:Int))),(V.sc (.int .u16 (0:Int))),(V.sc (.int .u32 (0:Int)))] fun r36 =>
 chk (0=0∧(List.length r36)=4∧4≠0) (
 k_fin r36 (390:Int))) (
 lt (IntKind.wrap .u64 ((List.length v35:Nat):Int)) fun x37 =>
 chk (x37≠0) (
 lt (Int.tmod p3 x37) fun x38 =>
 idx v35 x38 fun c39 =>
 chk ((List.length (List.take 3 c39))=3∧1+3≤4) (
 chk ((List.length (xg [(V.sc (.int .i64 (2:Int))),(V.sc (.int .u32 (0:Int))),(V.sc (.int .u16 (0:Int))),(V.sc (.int .u32 (0:Int)))] 1 (List.take 3 c39)))=4∧0+4≤4) (
 lt (xg [(V.sc (.int .i64 zKC)),(V.sc (.int .u32 zKD)),(V.sc (.int .u16 zKE)),(V.sc (.int .u32 zKF))] 0 (xg [(V.sc (.int .i64 (2:Int))),(V.sc (.int .u32 (0:Int))),(V.sc (.int .u16 (0:Int))),(V.sc (.int .u32 (0:Int)))] 1 (List.take 3 c39))) fun r40 =>
 chk (0=0∧(List.length r40)=4∧4≠0) (
 k_fin r40 (0:Int))))))))))
theorem znU {β:Type} (ye:zD) (xk:y9) (ym:zao) (yj:y4) (za:xj) (xa:xp) (L:Nat) (p2:List (List V)) (p3:Int) (b4:List V) (zKC zKD zKE zKF:Int) (k:KK β):(yH 0 (zV (yn zaC (zaE ye xk ym yj za xa L) 0 L zeO) (y6 0 (CF.res zb2) k))) (.exit 0) (zhT p2 p3 b4 zKC zKD zKE zKF)=zbV ye xk ym yj za xa L p2 p3 b4 zKC zKD zKE zKF (fun zLN zLO=>k (V.tup [(V.agg zLN),(V.sc (.int .i64 zLO))]) []):=by kernel_rfl
def zcc {β:Type} (ye:zD) (xk:y9) (ym:zao) (yj:y4) (za:xj) (xa:xp) (L:Nat) (k_ret:Int→List V→Option β) (k_x0:zj2 β):Nat→List (List V)→Int→List (List V)→Int→Int→List V→Int→Int→Int→Int→Option β
 | 0,_,_,_,_,_,_,_,_,_,_=>none
 | n+1,p2,p3,p31,p32,p33,b4,zKC,zKD,zKE,zKF=>zfa ye xk ym yj za xa L p2 p3 p31 p32 p33 b4 zKC zKD zKE zKF k_ret (fun p2 p3 p31 p32 p33 b4 zKC zKD zKE zKF=>zcc ye xk ym yj za xa L k_ret k_x0 n p2 p3 p31 p32 p33 b4 zKC zKD zKE zKF) k_x0
theorem zhv {β:Type} (ye:zD) (xk:y9) (ym:zao) (yj:y4) (za:xj) (xa:xp) (L:Nat) (K:KT β):∀ (n:Nat) (p2:List (List V)) (p3:Int) (p31:List (List V)) (p32 p33:Int) (b4:List V) (zKC zKD zKE zKF:Int),zH (yn zaC (zaE ye xk ym yj za xa L) 0 L zb5) zdp n (zcD p2 p3 p31 p32 p33 b4 zKC zKD zKE zKF) K=zcc ye xk ym yj za xa L (fun p9 b8=>K .ret (zhi p9 b8)) (fun p2 p3 b4 zKC zKD zKE zKF=>K (.exit 0) (zhT p2 p3 b4 zKC zKD zKE zKF)) n p2 p3 p31 p32 p33 b4 zKC zKD zKE zKF:=by
 intro n
 induction n with
 | zero=>intros; rfl
 | succ n ih =>
  intro p2 p3 p31 p32 p33 b4 zKC zKD zKE zKF
  refine (zps ye xk ym yj za xa L p2 p3 p31 p32 p33 b4 zKC zKD zKE zKF (fun σ=>zH (yn zaC (zaE ye xk ym yj za xa L) 0 L zb5) zdp n σ K) K).trans ?_
  simp only [ih]
  rfl
def zid {β:Type} (ye:zD) (xk:y9) (ym:zao) (yj:y4) (za:xj) (xa:xp) (L:Nat) (p0:List V) (p1 p2:List (List V)) (p3:Int) (k_fin:List V→Int→Option β):Option β :=
 zlY ye xk ym yj za xa L p0 p1 p2 p3 k_fin (fun p2 p3 p31 p32 p33 b4 zKC zKD zKE zKF=>zcc ye xk ym yj za xa L (fun p9 b8=>zea ye xk ym yj za xa L p9 b8 k_fin) (fun p2 p3 b4 zKC zKD zKE zKF=>zbV ye xk ym yj za xa L p2 p3 b4 zKC zKD zKE zKF k_fin) L p2 p3 p31 p32 p33 b4 zKC zKD zKE zKF)
theorem zvI {β:Type} (ye:zD) (xk:y9) (ym:zao) (yj:y4) (za:xj) (xa:xp) (L:Nat) (p0:List V) (p1 p2:List (List V)) (p3:Int) (k:KK β):xr zaC (zaE ye xk ym yj za xa L) L zb2 [(V.agg p0),(V.sl 3 p1),(V.sl 4 p2),(V.sc (.int .u64 p3))] [] k=zid ye xk ym yj za xa L p0 p1 p2 p3 (fun zLN zLO=>k (V.tup [(V.agg zLN),(V.sc (.int .i64 zLO))]) []):=by
 refine (zvT ye xk ym yj za xa L p0 p1 p2 p3 k).trans ?_
 unfold zid
 first
  | (simp only [zhv,znn,znU]; done)
  | (simp only [zhv]; rfl)
abbrev zr:=∀ (β:Type),Nat→List V→List (List V)→List (List V)→Int→(List V→Int→Option β)→Option β
def xb (β:Type) (L:Nat) (p0:List V) (p1 p2:List (List V)) (p3:Int) (k_fin:List V→Int→Option β):Option β:=zid ye xk ym yj za xa L p0 p1 p2 p3 k_fin
def zc1 (xb:zr) (L:Nat) (β:Type) (args:List V) (bor:Bor) (k:KK β):Option β:=match args,bor with
 | [a0,a1,a2,a3],[]=>aG a0 fun p0=>aL 3 a1 fun p1=>aL 4 a2 fun p2=>aI .u64 a3 fun p3=>xb β L p0 p1 p2 p3 (fun zLN zLO=>k (V.tup [(V.agg zLN),(V.sc (.int .i64 zLO))]) [])
 | _,_=>none
theorem zvE (L:Nat) (β:Type) (args:List V) (bor:Bor) (k:KK β) (r:β) (h:zc1 xb L β args bor k=some r):xr zaC (zaE ye xk ym yj za xa L) L zb2 args bor k=some r:=by
 unfold zc1 at h
 split at h
 ·have q:=yZ h; clear h; obtain ⟨p0,rfl,h⟩:=q
  have q:=z9 h; clear h; obtain ⟨p1,rfl,h⟩:=q
  have q:=z9 h; clear h; obtain ⟨p2,rfl,h⟩:=q
  have q:=zau h; clear h; obtain ⟨p3,rfl,h⟩:=q
  exact (zvI ye xk ym yj za xa L p0 p1 p2 p3 k).trans h
 ·cases h
def zbm:CF:=⟨8,[.tmp 2],
 (.seq (.reg [oo 2 (.move (.const (.gs 4 [])) true)])
 (.fork (.reg [oo 3 (.move (tq 0) false),
   oo 4 (.nilT false (tq 3))])
 (tq 4)
 (.seq (.reg [oo 2 (.nilS 4 7)])
 (.seq (.mask (bl 4 8) (bl 128 8))
 .ret))
 (.seq (.reg [⟨(some 5),true,none,.buildSlice 4 0 [(.sc (.int .i64 0)),(.sc (.int .u32 0)),(.sc (.int .u16 0)),(.sc (.int .u32 0))] []⟩,
   oo 6 (.move (tq 0) false),
   ⟨(some 7),true,none,.append 4 24 (tq 5) (tq 6)⟩,
   oo 2 (.move (tq 7) true)])
 (.seq (.mask (bl 4 8) (bl 128 8))
 .ret))))⟩
def zec:Hint:=⟨[(0,0),(2,0),(3,3)],[(3,0),(3,2)],[none,some ((bl 4 8),(bl 128 8)),some ((bl 4 8),(bl 128 8))],[],[(2,0,[7])],false,false⟩
def zcu:Nat→Sh:=xO []
def zcy (L:Nat):CBC:=noC
def ze3 {β:Type} (L:Nat) (p0:List (List V)) (k_fin:List (List V)→Option β):Option β :=
 lc p0 (
 k_fin ([]:List (List V))) (fun h0 t0 =>
 chk ((0+List.length (h0::t0)) * 24≤yr∧0+List.length (h0::t0)≤yr) (
 chk ((List.length (h0::t0))≠0∨(List.length (List.flatten (h0::t0)))=0) (
 k_fin (yk 4 (List.length (h0::t0)) (List.flatten (h0::t0))))))
theorem zjP {β:Type} (L:Nat) (p0:List (List V)) (k:KK β):xr zcu (zcy L) L zbm [(V.sl 4 p0)] [] k=ze3 L p0 (fun p0=>k (V.fr 4 p0) []):=by kernel_rfl
abbrev zbF:=∀ (β:Type),Nat→List (List V)→(List (List V)→Option β)→Option β
def yz (β:Type) (L:Nat) (p0:List (List V)) (k_fin:List (List V)→Option β):Option β:=ze3 L p0 k_fin
def zbB (yz:zbF) (L:Nat) (β:Type) (args:List V) (bor:Bor) (k:KK β):Option β:=match args,bor with
 | [a0],[]=>aL 4 a0 fun p0=>yz β L p0 (fun p0=>k (V.fr 4 p0) [])
 | _,_=>none
theorem zjM (L:Nat) (β:Type) (args:List V) (bor:Bor) (k:KK β) (r:β) (h:zbB yz L β args bor k=some r):xr zcu (zcy L) L zbm args bor k=some r:=by
 unfold zbB at h
 split at h
 ·have q:=z9 h; clear h; obtain ⟨p0,rfl,h⟩:=q
  exact (zjP L p0 k).trans h
 ·cases h
def ziU:CF:=⟨30,[.tmp 4,.tmp 5],
 (.seq (.reg [oo 3 (.box true (tq 1)),
   oo 4 (.move (.const (.gs 4 [])) true),
   oo 5 (.move (.const (.sc (.int .i64 0))) false)])
 (.seq (.block 0 (.seq (.reg [oo 7 (.move (tq 0) false),
   oo 8 (.call 270 [((tq 7),0)] []),
   oo 9 (.un .not (tq 8)),
   oo 10 (.move (tq 9) false),
   ⟨(some 11),false,(some (10,false)),.fieldAddr 0 (tq 3)⟩,
   ⟨(some 12),false,(some (10,false)),.load false 1 (tq 11) false⟩,
   ⟨(some 13),false,(some (10,false)),.call 285 [((tq 12),0)] []⟩,
   ⟨(some 14),false,(some (10,false)),.un .not (tq 13)⟩,
   oo 15 (.pick (tq 10) (.const (.sc (.bool true))) (tq 14)),
   oo 6 (.move (tq 15) false)])
 (.cond (tq 6)
 (.seq (.reg [oo 4 (.move (.const (.gs 4 [])) true),
   oo 5 (.move (.const (.sc (.int .i64 6))) false)])
 .ret)
 (.seq (.reg [oo 17 (.move (tq 0) false),
   oo 18 (.fieldAddr 1 (tq 3)),
   oo 19 (.load true 3 (tq 18) false),
   oo 20 (.call 278 [((tq 17),0),((tq 19),0)] []),
   oo 16 (.move (tq 20) false)])
 (.cond (tq 16)
 (.seq (.reg [oo 4 (.move (.const (.gs 4 [])) true),
   oo 5 (.move (.const (.sc (.int .i64 350))) false)])
 .ret)
 (.seq (.reg [oo 22 (.move (tq 0) false),
   oo 23 (.lenS (tq 22)),
   oo 24 (.bin .geq (tq 23) (.const (.sc (.int .i64 8)))),
   oo 21 (.move (tq 24) false)])
 (.cond (tq 21)
 (.seq (.reg [oo 4 (.move (.const (.gs 4 [])) true),
   oo 5 (.move (.const (.sc (.int .i64 380))) false)])
 .ret)
 .skip)))))))
 (.seq (.dreg [] [(oo 25 (.move (tq 0) false),q0),
   (oo 26 (.call 286 [((tq 25),0)] []),qc [3] [28]),
   (oo 27 (.load true 4 (tq 3) false),ql 3 [] []),
   (oo 28 (.buildSlice 4 1 [(.sc (.int .i64 0)),(.sc (.int .u32 0)),(.sc (.int .u16 0)),(.sc (.int .u32 0))] [(0,4,(tq 27))]),qn [] []),
   (oo 29 (.append 4 24 (tq 26) (tq 28)),q0),
   (oo 4 (.move (tq 29) true),q0),
   (oo 5 (.move (.const (.sc (.int .i64 0))) false),q0)])
 .ret)))⟩
def zqc:Hint:=⟨[(0,1),(2,0),(4,0),(6,0),(7,5)],[],[none,none,none,none,none,none,none,none],[],[],false,false⟩
def zmL:Nat→Sh:=xO [(12,(.int .i64))]
def zne (ye:zD) (yi:xW) (xa:xp) (yz:zbF) (L:Nat):CBC:=(xu 286 (zbB yz L) (xu 278 (zc2 xa L) (xu 285 (zf7 yi L) (xu 270 (zep ye L) noC))))
def ztt {β:Type} (ye:zD) (yi:xW) (xa:xp) (yz:zbF) (L:Nat) (p0:List (List V)) (p1:List V) (k_fin:List (List V)→Int→Option β):Option β :=
 ye β L p0 (fun v0 =>
 ifb (!v0) (
 k_fin ([]:List (List V)) (6:Int)) (
 cI .i64 p1 0 fun v1 =>
 yi β L v1 (fun v2 =>
 ifb (!v2) (
 k_fin ([]:List (List V)) (6:Int)) (
 chk (1+3≤(List.length p1)) (
 xa β L p0 (List.take 3 (List.drop 1 p1)) (fun v3 =>
 ifb v3 (
 k_fin ([]:List (List V)) (350:Int)) (
 ifb (decide (((List.length p0:Nat):Int) ≥ (8:Int))) (
 k_fin ([]:List (List V)) (380:Int)) (
 yz β L p0 (fun v4 =>
 chk (0+4≤(List.length p1)) (
 chk ((List.length (List.take 4 p1))=4∧0+4≤4) (
 chk ((List.length v4+List.length (yk 4 1 (xg [(V.sc (.int .i64 (0:Int))),(V.sc (.int .u32 (0:Int))),(V.sc (.int .u16 (0:Int))),(V.sc (.int .u32 (0:Int)))] 0 (List.take 4 p1)))) * 24≤yr∧List.length v4+List.length (yk 4 1 (xg [(V.sc (.int .i64 (0:Int))),(V.sc (.int .u32 (0:Int))),(V.sc (.int .u16 (0:Int))),(V.sc (.int .u32 (0:Int)))] 0 (List.take 4 p1)))≤yr) (
 lt (v4++(yk 4 1 (xg [(V.sc (.int .i64 (0:Int))),(V.sc (.int .u32 (0:Int))),(V.sc (.int .u16 (0:Int))),(V.sc (.int .u32 (0:Int)))] 0 (List.take 4 p1)))) fun l5 =>
 k_fin l5 (0:Int)))))))))))))
theorem zyk {β:Type} (ye:zD) (yi:xW) (xa:xp) (yz:zbF) (L:Nat) (p0:List (List V)) (p1:List V) (k:KK β):xr zmL (zne ye yi xa yz L) L ziU [(V.sl 4 p0),(V.agg p1)] [] k=ztt ye yi xa yz L p0 p1 (fun zLN zLO=>k (V.tup [(V.gs 4 zLN),(V.sc (.int .i64 zLO))]) []):=by kernel_rfl
abbrev zbt:=∀ (β:Type),Nat→List (List V)→List V→(List (List V)→Int→Option β)→Option β
def yB (β:Type) (L:Nat) (p0:List (List V)) (p1:List V) (k_fin:List (List V)→Int→Option β):Option β:=ztt ye yi xa yz L p0 p1 k_fin
def zhk (yB:zbt) (L:Nat) (β:Type) (args:List V) (bor:Bor) (k:KK β):Option β:=match args,bor with
 | [a0,a1],[]=>aL 4 a0 fun p0=>aG a1 fun p1=>yB β L p0 p1 (fun zLN zLO=>k (V.tup [(V.gs 4 zLN),(V.sc (.int .i64 zLO))]) [])
 | _,_=>none
theorem zxL (L:Nat) (β:Type) (args:List V) (bor:Bor) (k:KK β) (r:β) (h:zhk yB L β args bor k=some r):xr zmL (zne ye yi xa yz L) L ziU args bor k=some r:=by
 unfold zhk at h
 split at h
 ·have q:=z9 h; clear h; obtain ⟨p0,rfl,h⟩:=q
  have q:=yZ h; clear h; obtain ⟨p1,rfl,h⟩:=q
  exact (zyk ye yi xa yz L p0 p1 k).trans h
 ·cases h
def zlL:CF:=⟨40,[.tmp 0],
 (.seq (.reg [oo 0 (.move (.const (.sc (.bool false))) false)])
 (.seq (.reg [oo 8 (.build (rp 32 (.sc (.int .u8 0)) (rp 2 (.sl 5 []) [])) []),
   oo 9 (.call 263 [((tq 8),1),((.const (.gs 3 [])),0),((.const (.gs 4 [])),0),((.const (.sc (.int .u64 0))),0)] []),
   oo 7 (.move (tq 9) true),
   oo 10 (.pull (tq 7) 0),
   oo 11 (.pull (tq 7) 1),
   oo 1 (.alloc true [(.sc (.int .i64 0)),(.sc (.int .u32 0)),(.sc (.int .u16 0)),(.sc (.int .u32 0))]),
   oz (.store 4 (tq 1) (tq 10)),
   oo 2 (.move (tq 11) false)])
 (.seq (.reg [oo 13 (.build [(.sc (.int .u32 0)),(.sc (.int .u16 0)),(.sc (.int .u32 0))] [(0,1,(.const (.sc (.int .u32 65536))))]),
   oo 14 (.build [(.sc (.int .i64 0)),(.sc (.int .u32 0)),(.sc (.int .u16 0)),(.sc (.int .u32 0))] [(0,1,(.const (.sc (.int .i64 2)))),(1,3,(tq 13))]),
   oo 15 (.call 271 [((.const (.gs 4 [])),0),((tq 14),0)] []),
   oo 12 (.move (tq 15) true),
   oo 16 (.extract (tq 12) 0),
   oo 17 (.pull (tq 12) 1),
   oo 3 (.move (tq 16) false),
   oo 4 (.move (tq 17) false)])
 (.seq (.reg [oo 19 (.move (tq 3) false),
   oo 20 (.build [(.sc (.int .u32 0)),(.sc (.int .u16 0)),(.sc (.int .u32 0))] [(0,1,(.const (.sc (.int .u32 65539))))]),
   oo 21 (.build [(.sc (.int .i64 0)),(.sc (.int .u32 0)),(.sc (.int .u16 0)),(.sc (.int .u32 0))] [(0,1,(.const (.sc (.int .i64 2)))),(1,3,(tq 20))]),
   oo 22 (.call 271 [((tq 19),0),((tq 21),0)] []),
   oo 18 (.move (tq 22) true),
   oo 23 (.extract (tq 18) 0),
   oo 24 (.pull (tq 18) 1),
   oo 5 (.move (tq 23) false),
   oo 6 (.move (tq 24) false)])
 (.seq (.reg [oo 25 (.move (tq 2) false),
   oo 26 (.bin .eql (tq 25) (.const (.sc (.int .i64 390)))),
   oo 27 (.move (tq 26) false),
   ⟨(some 28),false,(some (27,true)),.move (tq 4) false⟩,
   ⟨(some 29),false,(some (27,true)),.bin .eql (tq 28) (.const (.sc (.int .i64 0)))⟩,
   oo 30 (.pick (tq 27) (tq 29) (.const (.sc (.bool false)))),
   oo 31 (.move (tq 30) false),
   ⟨(some 32),false,(some (31,true)),.move (tq 3) false⟩,
   ⟨(some 33),false,(some (31,true)),.lenS (tq 32)⟩,
   ⟨(some 34),false,(some (31,true)),.bin .eql (tq 33) (.const (.sc (.int .i64 1)))⟩,
   oo 35 (.pick (tq 31) (tq 34) (.const (.sc (.bool false)))),
   oo 36 (.move (tq 35) false),
   ⟨(some 37),false,(some (36,true)),.move (tq 6) false⟩,
   ⟨(some 38),false,(some (36,true)),.bin .eql (tq 37) (.const (.sc (.int .i64 350)))⟩,
   oo 39 (.pick (tq 36) (tq 38) (.const (.sc (.bool false)))),
   oo 0 (.move (tq 39) false)])
 .ret)))))⟩
def zr9:Hint:=⟨[(1,2),(2,3),(2,4),(3,4),(3,5)],[],[none],[],[],false,false⟩
def zpF:Nat→Sh:=xO []
def zpO (xb:zr) (yB:zbt) (L:Nat):CBC:=(xu 271 (zhk yB L) (xu 263 (zc1 xb L) noC))
def zxh {β:Type} (xb:zr) (yB:zbt) (L:Nat) (k_fin:Bool→Option β):Option β :=
 xb β L (List.replicate 32 (V.sc (.int .u8 (0:Int)))++[(V.sl 5 ([]:List (List V))),(V.sl 5 ([]:List (List V)))]) ([]:List (List V)) ([]:List (List V)) (0:Int) (fun v0 v1 =>
 chk ((List.length v0)=4∧0+4≤4) (
 lt (xg [(V.sc (.int .i64 (0:Int))),(V.sc (.int .u32 (0:Int))),(V.sc (.int .u16 (0:Int))),(V.sc (.int .u32 (0:Int)))] 0 v0) fun r2 =>
 yB β L ([]:List (List V)) [(V.sc (.int .i64 (2:Int))),(V.sc (.int .u32 (65536:Int))),(V.sc (.int .u16 (0:Int))),(V.sc (.int .u32 (0:Int)))] (fun v3 v4 =>
 yB β L v3 [(V.sc (.int .i64 (2:Int))),(V.sc (.int .u32 (65539:Int))),(V.sc (.int .u16 (0:Int))),(V.sc (.int .u32 (0:Int)))] (fun v5 v6 =>
 ifb ((v1:Int) == (390:Int)) (
 ifb ((v4:Int) == (0:Int)) (
 ifb ((((List.length v3:Nat):Int):Int) == (1:Int)) (
 k_fin ((v6:Int) == (350:Int))) (
 k_fin false)) (
 k_fin false)) (
 k_fin false)))))
theorem zAn {β:Type} (xb:zr) (yB:zbt) (L:Nat) (k:KK β):xr zpF (zpO xb yB L) L zlL [] [] k=zxh xb yB L (fun p0=>k (V.sc (.bool p0)) []):=by kernel_rfl
abbrev xt:=∀ (β:Type),Nat→(Bool→Option β)→Option β
def yc (β:Type) (L:Nat) (k_fin:Bool→Option β):Option β:=zxh xb yB L k_fin
def zfc (yc:xt) (L:Nat) (β:Type) (args:List V) (bor:Bor) (k:KK β):Option β:=match args,bor with
 | [],[]=>yc β L (fun p0=>k (V.sc (.bool p0)) [])
 | _,_=>none
theorem zz1 (L:Nat) (β:Type) (args:List V) (bor:Bor) (k:KK β) (r:β) (h:zfc yc L β args bor k=some r):xr zpF (zpO xb yB L) L zlL args bor k=some r:=by
 unfold zfc at h
 split at h
 ·exact (zAn xb yB L k).trans h
 ·cases h
def zoM:CF:=⟨6,[.tmp 2],
 (.seq (.reg [oo 2 (.move (.const (.sc (.pointer none))) false)])
 (.seq (.reg [oo 3 (.move (tq 0) false),
   oo 4 (.build [(.sl 1 []),(.sc (.int .i64 0))] [(0,1,(tq 3))]),
   oo 5 (.box false (tq 4)),
   oo 2 (.move (tq 5) false)])
 .ret))⟩
def zvs:Hint:=⟨[],[],[none],[],[],false,false⟩
def zsI:Nat→Sh:=xO []
def zs1 (L:Nat):CBC:=noC
def zAE {β:Type} (L:Nat) (p0:List (List V)) (k_fin:List (List V)→Int→Option β):Option β :=
 k_fin p0 (0:Int)
theorem zC6 {β:Type} (L:Nat) (p0:List (List V)) (k:KK β):xr zsI (zs1 L) L zoM [(V.sl 1 p0)] [] k=zAE L p0 (fun zLN zLO=>k (V.bx false [(V.sl 1 zLN),(V.sc (.int .i64 zLO))]) []):=by kernel_rfl
abbrev zx:=∀ (β:Type),Nat→List (List V)→(List (List V)→Int→Option β)→Option β
def yd (β:Type) (L:Nat) (p0:List (List V)) (k_fin:List (List V)→Int→Option β):Option β:=zAE L p0 k_fin
def zgs (yd:zx) (L:Nat) (β:Type) (args:List V) (bor:Bor) (k:KK β):Option β:=match args,bor with
 | [a0],[]=>aL 1 a0 fun p0=>yd β L p0 (fun zLN zLO=>k (V.bx false [(V.sl 1 zLN),(V.sc (.int .i64 zLO))]) [])
 | _,_=>none
theorem zC3 (L:Nat) (β:Type) (args:List V) (bor:Bor) (k:KK β) (r:β) (h:zgs yd L β args bor k=some r):xr zsI (zs1 L) L zoM args bor k=some r:=by
 unfold zgs at h
 split at h
 ·have q:=z9 h; clear h; obtain ⟨p0,rfl,h⟩:=q
  exact (zC6 L p0 k).trans h
 ·cases h
def zgV:CF:=⟨13,[.tmp 2],
 (.seq (.reg [oo 2 (.move (.const (.sc (.bool false))) false)])
 (.seq (.dreg [] [(oo 3 (.move (tq 0) false),q0),
   (oo 4 (.nilCheck (tq 3)),q0),
   (oo 5 (.fieldAddr 1 (tq 4)),q0),
   (oo 6 (.load false 1 (tq 5) false),ql 0 [] []),
   (oo 7 (.move (tq 0) false),q0),
   (oo 8 (.nilCheck (tq 7)),q0),
   (oo 9 (.fieldAddr 0 (tq 8)),q0),
   (oo 10 (.load false 1 (tq 9) false),ql 0 [] []),
   (oo 11 (.lenS (tq 10)),q0),
   (oo 12 (.bin .lss (tq 6) (tq 11)),q0),
   (oo 2 (.move (tq 12) false),q0)])
 .ret))⟩
def zoc:Hint:=⟨[],[],[none],[],[],false,false⟩
def zk8:Nat→Sh:=xO []
def zkS (L:Nat):CBC:=noC
def zia {β:Type} (L:Nat) (zKA:List (List V)) (zKB:Int) (k_fin:Bool→List (List V)→Int→Option β):Option β :=
 k_fin (decide (zKB < ((List.length zKA:Nat):Int))) zKA zKB
theorem zvM {β:Type} (L:Nat) (zKA:List (List V)) (zKB:Int) (k:KK β):xr zk8 (zkS L) L zgV [(V.ptr 0 0)] [(.live false [(V.sl 1 zKA),(V.sc (.int .i64 zKB))])] k=zia L zKA zKB (fun p0 zKA zKB=>k (V.sc (.bool p0)) [(.live false [(V.sl 1 zKA),(V.sc (.int .i64 zKB))])]):=by kernel_rfl
abbrev zhV:=∀ (β:Type),Nat→List (List V)→Int→(Bool→List (List V)→Int→Option β)→Option β
def xS (β:Type) (L:Nat) (zKA:List (List V)) (zKB:Int) (k_fin:Bool→List (List V)→Int→Option β):Option β:=zia L zKA zKB k_fin
def zhP (xS:zhV) (L:Nat) (β:Type) (args:List V) (bor:Bor) (k:KK β):Option β:=match args,bor with
 | [a0],[(.live false [w0_0,w0_1])]=>aP 0 0 a0 (aL 1 w0_0 fun zKA=>aI .i64 w0_1 fun zKB=>xS β L zKA zKB (fun p0 zKA zKB=>k (V.sc (.bool p0)) [(.live false [(V.sl 1 zKA),(V.sc (.int .i64 zKB))])]))
 | _,_=>none
theorem zv0 (L:Nat) (β:Type) (args:List V) (bor:Bor) (k:KK β) (r:β) (h:zhP xS L β args bor k=some r):xr zk8 (zkS L) L zgV args bor k=some r:=by
 unfold zhP at h
 split at h
 ·have q:=zlx h; clear h; obtain ⟨rfl,h⟩:=q
  have q:=z9 h; clear h; obtain ⟨zKA,rfl,h⟩:=q
  have q:=zau h; clear h; obtain ⟨zKB,rfl,h⟩:=q
  exact (zvM L zKA zKB k).trans h
 ·cases h
def zo0:CF:=⟨15,[.tmp 4],
 (.seq (.reg [oo 4 (.move (.const (.sc (.int .i64 0))) false)])
 (.seq (.reg [oo 6 (.move (tq 0) false),
   oo 7 (.move (tq 1) false),
   oo 8 (.bin .rem (tq 6) (tq 7)),
   oo 5 (.move (tq 8) false)])
 (.seq (.seq (.reg [oo 9 (.move (tq 5) false),
   oo 10 (.bin .lss (tq 9) (.const (.sc (.int .i64 0))))])
 (.cond (tq 10)
 (.reg [oo 11 (.move (tq 5) false),
   oo 12 (.move (tq 1) false),
   oo 13 (.bin .add (tq 11) (tq 12)),
   oo 5 (.move (tq 13) false)])
 .skip))
 (.seq (.reg [oo 14 (.move (tq 5) false),
   oo 4 (.move (tq 14) false)])
 .ret))))⟩
def zvk:Hint:=⟨[],[],[none,none],[],[],false,false⟩
def zsH:Nat→Sh:=xO []
def zsR (L:Nat):CBC:=noC
def zqI {β:Type} (L:Nat) (p0 p1:Int) (k_fin:Int→Option β):Option β :=
 chk (p1≠0) (
 lt (Int.tmod p0 p1) fun x0 =>
 ifb (decide (x0 < (0:Int))) (
 lt (IntKind.wrap .i64 ((x0:Int)+p1)) fun x1 =>
 k_fin x1) (
 k_fin x0))
theorem zCX {β:Type} (L:Nat) (p0 p1:Int) (k:KK β):xr zsH (zsR L) L zo0 [(V.sc (.int .i64 p0)),(V.sc (.int .i64 p1))] [] k=zqI L p0 p1 (fun p0=>k (V.sc (.int .i64 p0)) []):=by kernel_rfl
abbrev yW:=∀ (β:Type),Nat→Int→Int→(Int→Option β)→Option β
def zo (β:Type) (L:Nat) (p0 p1:Int) (k_fin:Int→Option β):Option β:=zqI L p0 p1 k_fin
def zkg (zo:yW) (L:Nat) (β:Type) (args:List V) (bor:Bor) (k:KK β):Option β:=match args,bor with
 | [a0,a1],[]=>aI .i64 a0 fun p0=>aI .i64 a1 fun p1=>zo β L p0 p1 (fun p0=>k (V.sc (.int .i64 p0)) [])
 | _,_=>none
theorem zCH (L:Nat) (β:Type) (args:List V) (bor:Bor) (k:KK β) (r:β) (h:zkg zo L β args bor k=some r):xr zsH (zsR L) L zo0 args bor k=some r:=by
 unfold zkg at h
 split at h
 ·have q:=zau h; clear h; obtain ⟨p0,rfl,h⟩:=q
  have q:=zau h; clear h; obtain ⟨p1,rfl,h⟩:=q
  exact (zCX L p0 p1 k).trans h
 ·cases h
def zgW:CF:=⟨28,[.tmp 4],
 (.seq (.reg [oo 4 (.move (.const (.sc (.int .i64 0))) false)])
 (.seq (.seq (.reg [oo 5 (.move (tq 0) false),
   oo 6 (.call 247 [((tq 5),0)] []),
   oo 7 (.un .not (tq 6))])
 (.cond (tq 7)
 (.seq (.reg [oo 4 (.move (.const (.sc (.int .i64 0))) false)])
 .ret)
 .skip))
 (.seq (.reg [oo 8 (.move (tq 0) false),
   oo 9 (.nilCheck (tq 8)),
   oo 10 (.fieldAddr 1 (tq 9)),
   oo 11 (.load false 1 (tq 10) false),
   oo 12 (.bin .add (tq 11) (.const (.sc (.int .i64 1)))),
   oo 13 (.nilCheck (tq 8)),
   oo 14 (.fieldAddr 1 (tq 13)),
   oz (.store 1 (tq 14) (tq 12))])
 (.seq (.dreg [] [(oo 15 (.move (tq 0) false),q0),
   (oo 16 (.nilCheck (tq 15)),q0),
   (oo 17 (.fieldAddr 0 (tq 16)),q0),
   (oo 18 (.load false 1 (tq 17) false),ql 0 [] []),
   (oo 19 (.move (tq 0) false),q0),
   (oo 20 (.nilCheck (tq 19)),q0),
   (oo 21 (.fieldAddr 1 (tq 20)),q0),
   (oo 22 (.load false 1 (tq 21) false),ql 0 [] []),
   (oo 23 (.bin .sub (tq 22) (.const (.sc (.int .i64 1)))),q0),
   (oo 24 (.indexAddrS 1 (tq 18) (tq 23)),q0),
   (oo 25 (.load false 1 (tq 24) false),q0),
   (oo 26 (.move (tq 1) false),q0),
   (oo 27 (.call 217 [((tq 25),0),((tq 26),0)] []),q0),
   (oo 4 (.move (tq 27) false),q0)])
 .ret))))⟩
def zog:Hint:=⟨[],[],[none,none,none],[],[],false,false⟩
def zkJ:Nat→Sh:=xO [(25,(.int .i64))]
def zkR (xS:zhV) (zo:yW) (L:Nat):CBC:=(xu 217 (zkg zo L) (xu 247 (zhP xS L) noC))
def zhO {β:Type} (xS:zhV) (zo:yW) (L:Nat) (p1:Int) (zKA:List (List V)) (zKB:Int) (k_fin:Int→List (List V)→Int→Option β):Option β :=
 xS β L zKA zKB (fun v0 v1 v2 =>
 ifb (!v0) (
 k_fin (0:Int) v1 v2) (
 lt (IntKind.wrap .i64 ((v2:Int)+(1:Int))) fun x3 =>
 lt (IntKind.wrap .i64 ((x3:Int) - (1:Int))) fun x4 =>
 idx v1 x4 fun c5 =>
 cI .i64 c5 0 fun v6 =>
 zo β L v6 p1 (fun v7 =>
 k_fin v7 v1 x3)))
theorem zvQ {β:Type} (xS:zhV) (zo:yW) (L:Nat) (p1:Int) (zKA:List (List V)) (zKB:Int) (k:KK β):xr zkJ (zkR xS zo L) L zgW [(V.ptr 0 0),(V.sc (.int .i64 p1))] [(.live false [(V.sl 1 zKA),(V.sc (.int .i64 zKB))])] k=zhO xS zo L p1 zKA zKB (fun p0 zKA zKB=>k (V.sc (.int .i64 p0)) [(.live false [(V.sl 1 zKA),(V.sc (.int .i64 zKB))])]):=by kernel_rfl
abbrev zl:=∀ (β:Type),Nat→Int→List (List V)→Int→(Int→List (List V)→Int→Option β)→Option β
def ya (β:Type) (L:Nat) (p1:Int) (zKA:List (List V)) (zKB:Int) (k_fin:Int→List (List V)→Int→Option β):Option β:=zhO xS zo L p1 zKA zKB k_fin
def zbg (ya:zl) (L:Nat) (β:Type) (args:List V) (bor:Bor) (k:KK β):Option β:=match args,bor with
 | [a0,a1],[(.live false [w0_0,w0_1])]=>aP 0 0 a0 (aI .i64 a1 fun p1=>aL 1 w0_0 fun zKA=>aI .i64 w0_1 fun zKB=>ya β L p1 zKA zKB (fun p0 zKA zKB=>k (V.sc (.int .i64 p0)) [(.live false [(V.sl 1 zKA),(V.sc (.int .i64 zKB))])]))
 | _,_=>none
theorem zvw (L:Nat) (β:Type) (args:List V) (bor:Bor) (k:KK β) (r:β) (h:zbg ya L β args bor k=some r):xr zkJ (zkR xS zo L) L zgW args bor k=some r:=by
 unfold zbg at h
 split at h
 ·have q:=zlx h; clear h; obtain ⟨rfl,h⟩:=q
  have q:=zau h; clear h; obtain ⟨p1,rfl,h⟩:=q
  have q:=z9 h; clear h; obtain ⟨zKA,rfl,h⟩:=q
  have q:=zau h; clear h; obtain ⟨zKB,rfl,h⟩:=q
  exact (zvQ xS zo L p1 zKA zKB k).trans h
 ·cases h
def zm0:CF:=⟨10,[.cell 2 true 32],
 (.seq (.reg [oo 2 (.alloc true (rp 32 (.sc (.int .u8 0)) []))])
 (.seq (.reg [oo 3 (.move (tq 0) false),
   oo 4 (.call 231 [((tq 3),0),((.const (.sc (.int .i64 5))),0)] []),
   oo 5 (.conv .u8 (tq 4)),
   oo 6 (.move (tq 0) false),
   oo 7 (.call 231 [((tq 6),0),((.const (.sc (.int .i64 7))),0)] []),
   oo 8 (.conv .u8 (tq 7)),
   oo 9 (.build (rp 32 (.sc (.int .u8 0)) []) [(0,1,(tq 5)),(31,1,(tq 8))]),
   oz (.store 32 (tq 2) (tq 9))])
 .ret))⟩
def ztJ:Hint:=⟨[],[],[none],[],[],false,false⟩
def zrA:Nat→Sh:=xO []
def zrK (ya:zl) (L:Nat):CBC:=(xu 231 (zbg ya L) noC)
def zsC {β:Type} (ya:zl) (L:Nat) (zKA:List (List V)) (zKB:Int) (k_fin:List V→List (List V)→Int→Option β):Option β :=
 ya β L (5:Int) zKA zKB (fun v0 v1 v2 =>
 lt (IntKind.wrap .u8 v0) fun x3 =>
 ya β L (7:Int) v1 v2 (fun v4 v5 v6 =>
 lt (IntKind.wrap .u8 v4) fun x7 =>
 lt ([(V.sc (.int .u8 x3))]++List.replicate 30 (V.sc (.int .u8 (0:Int)))++[(V.sc (.int .u8 x7))]) fun r8 =>
 chk (0=0∧(List.length r8)=32∧32≠0) (
 k_fin r8 v5 v6)))
theorem zBp {β:Type} (ya:zl) (L:Nat) (zKA:List (List V)) (zKB:Int) (k:KK β):xr zrA (zrK ya L) L zm0 [(V.ptr 0 0)] [(.live false [(V.sl 1 zKA),(V.sc (.int .i64 zKB))])] k=zsC ya L zKA zKB (fun p0 zKA zKB=>k (V.agg p0) [(.live false [(V.sl 1 zKA),(V.sc (.int .i64 zKB))])]):=by kernel_rfl
abbrev zci:=∀ (β:Type),Nat→List (List V)→Int→(List V→List (List V)→Int→Option β)→Option β
def zA (β:Type) (L:Nat) (zKA:List (List V)) (zKB:Int) (k_fin:List V→List (List V)→Int→Option β):Option β:=zsC ya L zKA zKB k_fin
def zoN (zA:zci) (L:Nat) (β:Type) (args:List V) (bor:Bor) (k:KK β):Option β:=match args,bor with
 | [a0],[(.live false [w0_0,w0_1])]=>aP 0 0 a0 (aL 1 w0_0 fun zKA=>aI .i64 w0_1 fun zKB=>zA β L zKA zKB (fun p0 zKA zKB=>k (V.agg p0) [(.live false [(V.sl 1 zKA),(V.sc (.int .i64 zKB))])]))
 | _,_=>none
theorem zBA (L:Nat) (β:Type) (args:List V) (bor:Bor) (k:KK β) (r:β) (h:zoN zA L β args bor k=some r):xr zrA (zrK ya L) L zm0 args bor k=some r:=by
 unfold zoN at h
 split at h
 ·have q:=zlx h; clear h; obtain ⟨rfl,h⟩:=q
  have q:=z9 h; clear h; obtain ⟨zKA,rfl,h⟩:=q
  have q:=zau h; clear h; obtain ⟨zKB,rfl,h⟩:=q
  exact (zBp ya L zKA zKB k).trans h
 ·cases h
def zd9:CC:=(.seq (.reg [oo 8 (.bin .lss (tq 7) (tq 6))])
 (.seq (.cond (tq 8)
 .skip
 (.seq (.mask (bl 8 22) (bl 4194287 22))
 (.exit 0)))
 (.seq (.block 1 (.seq (.reg [oo 9 (.move (tq 7) false),
   oo 4 (.move (tq 9) false)])
 (.reg [oo 10 (.move (tq 3) false),
   oo 11 (.move (tq 0) false),
   oo 12 (.move (tq 4) false),
   oo 13 (.indexAddrS 1 (tq 11) (tq 12)),
   oo 14 (.load false 1 (tq 13) false),
   oo 15 (.conv .u64 (tq 14)),
   oo 16 (.move (tq 4) false),
   oo 17 (.bin .mul (.const (.sc (.int .i64 8))) (tq 16)),
   oo 18 (.bin .shl (tq 15) (tq 17)),
   oo 19 (.bin .or (tq 10) (tq 18)),
   oo 3 (.move (tq 19) false)])))
 (.reg [oo 20 (.bin .add (tq 7) (.const (.sc (.int .i64 1)))),
   oo 7 (.move (tq 20) false)]))))
def znH:CC:=(.seq (.reg [oo 21 (.move (tq 3) false),
   oo 2 (.move (tq 21) false)])
 .ret)
def zeA:CF:=⟨22,[.tmp 2],
 (.seq (.reg [oo 2 (.move (.const (.sc (.int .u64 0))) false)])
 (.seq (.reg [oo 3 (.move (.const (.sc (.int .u64 0))) false)])
 (.seq (.seq (.reg [oo 5 (.move (tq 0) false),
   oo 6 (.lenS (tq 5)),
   oo 7 (.move (.const (.sc (.int .i64 0))) false)])
 (.block 0 (.loop (bl 201 22) (bl 4194287 22)
 zd9)))
 znH)))⟩
def zsa:Hint:=⟨[],[],[none,some ((bl 201 22),(bl 4194287 22)),none,some ((bl 8 22),(bl 4194287 22)),none,none],[],[],false,false⟩
def zcg:Nat→Sh:=xO [(14,(.int .u8))]
def zcj (L:Nat):CBC:=noC
def zg0:St→St:=zac 0 (bl 201 22) (bl 4194287 22)
def zeU (p0:List (List V)) (p3 p6 p7:Int):St:=⟨((V.sl 1 p0)::(jn 2 ((V.sc (.int .u64 p3))::(jn 2 ((V.sc (.int .i64 p6))::((V.sc (.int .i64 p7))::(jn 14 []))))))),(gn 22 [])⟩
def zl8 (p3:Int):St:=⟨(jn 3 ((V.sc (.int .u64 p3))::(jn 18 []))),(gn 22 [])⟩
def zqS {β:Type} (L:Nat) (p0:List (List V)) (k_hbbaba:List (List V)→Int→Int→Int→Option β):Option β :=
 k_hbbaba p0 (0:Int) ((List.length p0:Nat):Int) (0:Int)
theorem zzJ {β:Type} (L:Nat) (p0:List (List V)) (k:KK β):xr zcg (zcj L) L zeA [(V.sl 1 p0)] [] k=zqS L p0 (fun p0 p3 p6 p7=>zH (yn zcg (zcj L) 0 L zd9) zg0 L (zeU p0 p3 p6 p7) (yH 0 (zV (yn zcg (zcj L) 0 L znH) (y6 0 (CF.res zeA) k)))):=by kernel_rfl
def zk5 {β:Type} (L:Nat) (p0:List (List V)) (p3 p6 p7:Int) (k_hbbaba:List (List V)→Int→Int→Int→Option β) (k_x0:Int→Option β):Option β :=
 ifb (decide (p7 < p6)) (
 idx p0 p7 fun c0 =>
 cI .u8 c0 0 fun v1 =>
 lt (IntKind.wrap .u64 v1) fun x2 =>
 lt (IntKind.wrap .i64 (((8:Int):Int) * p7)) fun x3 =>
 chk (0≤x3) (
 lt (zrq .u64 x2 x3) fun x4 =>
 lt (ior .u64 p3 x4) fun x5 =>
 lt (IntKind.wrap .i64 ((p7:Int)+(1:Int))) fun x6 =>
 k_hbbaba p0 x5 p6 x6)) (
 k_x0 p3)
theorem zuN {β:Type} (L:Nat) (p0:List (List V)) (p3 p6 p7:Int) (X:St→Option β) (K:KT β):yn zcg (zcj L) 0 L zd9 (zeU p0 p3 p6 p7) (zcC zg0 X K)=zk5 L p0 p3 p6 p7 (fun p0 p3 p6 p7=>X (zeU p0 p3 p6 p7)) (fun p3=>K (.exit 0) (zl8 p3)):=by kernel_rfl
def zn2 {β:Type} (L:Nat) (p3:Int) (k_fin:Int→Option β):Option β :=
 k_fin p3
theorem zsN {β:Type} (L:Nat) (p3:Int) (k:KK β):(yH 0 (zV (yn zcg (zcj L) 0 L znH) (y6 0 (CF.res zeA) k))) (.exit 0) (zl8 p3)=zn2 L p3 (fun p0=>k (V.sc (.int .u64 p0)) []):=by kernel_rfl
def zeN {β:Type} (L:Nat) (k_x0:Int→Option β):Nat→List (List V)→Int→Int→Int→Option β
 | 0,_,_,_,_=>none
 | n+1,p0,p3,p6,p7=>zk5 L p0 p3 p6 p7 (fun p0 p3 p6 p7=>zeN L k_x0 n p0 p3 p6 p7) k_x0
theorem znP {β:Type} (L:Nat) (K:KT β):∀ (n:Nat) (p0:List (List V)) (p3 p6 p7:Int),zH (yn zcg (zcj L) 0 L zd9) zg0 n (zeU p0 p3 p6 p7) K=zeN L (fun p3=>K (.exit 0) (zl8 p3)) n p0 p3 p6 p7:=by
 intro n
 induction n with
 | zero=>intros; rfl
 | succ n ih =>
  intro p0 p3 p6 p7
  refine (zuN L p0 p3 p6 p7 (fun σ=>zH (yn zcg (zcj L) 0 L zd9) zg0 n σ K) K).trans ?_
  simp only [ih]
  rfl
def zmU {β:Type} (L:Nat) (p0:List (List V)) (k_fin:Int→Option β):Option β :=
 zqS L p0 (fun p0 p3 p6 p7=>zeN L (fun p3=>zn2 L p3 k_fin) L p0 p3 p6 p7)
theorem zAj {β:Type} (L:Nat) (p0:List (List V)) (k:KK β):xr zcg (zcj L) L zeA [(V.sl 1 p0)] [] k=zmU L p0 (fun p0=>k (V.sc (.int .u64 p0)) []):=by
 refine (zzJ L p0 k).trans ?_
 unfold zmU
 first
  | (simp only [znP,zsN]; done)
  | (simp only [znP]; rfl)
abbrev zaV:=∀ (β:Type),Nat→List (List V)→(Int→Option β)→Option β
def xn (β:Type) (L:Nat) (p0:List (List V)) (k_fin:Int→Option β):Option β:=zmU L p0 k_fin
def zjl (xn:zaV) (L:Nat) (β:Type) (args:List V) (bor:Bor) (k:KK β):Option β:=match args,bor with
 | [a0],[]=>aL 1 a0 fun p0=>xn β L p0 (fun p0=>k (V.sc (.int .u64 p0)) [])
 | _,_=>none
theorem zAm (L:Nat) (β:Type) (args:List V) (bor:Bor) (k:KK β) (r:β) (h:zjl xn L β args bor k=some r):xr zcg (zcj L) L zeA args bor k=some r:=by
 unfold zjl at h
 split at h
 ·have q:=z9 h; clear h; obtain ⟨p0,rfl,h⟩:=q
  exact (zAj L p0 k).trans h
 ·cases h
def znC:CF:=⟨8,[.cell 2 true 2],
 (.seq (.reg [oo 1 (.box true (tq 0)),
   oo 2 (.alloc true [(.sc (.int .u64 0)),(.sc (.int .u64 0))])])
 (.seq (.dreg [1] [(oo 3 (.sliceA 32 1 (tq 1) none (some (.const (.sc (.int .i64 8)))) none),q1),
   (oo 4 (.call 115 [((tq 3),0)] []),q1),
   (oo 5 (.sliceA 32 1 (tq 1) (some (.const (.sc (.int .i64 8)))) (some (.const (.sc (.int .i64 16)))) none),q1),
   (oo 6 (.call 115 [((tq 5),0)] []),q0),
   (oo 7 (.build [(.sc (.int .u64 0)),(.sc (.int .u64 0))] [(0,1,(tq 4)),(1,1,(tq 6))]),q0),
   (oz (.store 2 (tq 2) (tq 7)),q0)])
 .ret))⟩
def ztM:Hint:=⟨[],[],[none],[(1,[1])],[],false,false⟩
def zrE:Nat→Sh:=xO []
def zq4 (xn:zaV) (L:Nat):CBC:=(xu 115 (zjl xn L) noC)
def zth {β:Type} (xn:zaV) (L:Nat) (p0:List V) (k_fin:List V→Option β):Option β :=
 chk ((List.length p0)≠0) (
 chk (0+32 * 1≤(List.length p0)) (
 xn β L (yk 1 8 p0) (fun v0 =>
 chk (0+32 * 1≤(List.length p0)) (
 xn β L (yk 1 8 (List.drop 8 p0)) (fun v1 =>
 lt [(V.sc (.int .u64 v0)),(V.sc (.int .u64 v1))] fun r2 =>
 chk (0=0∧(List.length r2)=2∧2≠0) (
 k_fin r2))))))
theorem zBk {β:Type} (xn:zaV) (L:Nat) (p0:List V) (k:KK β):xr zrE (zq4 xn L) L znC [(V.agg p0)] [] k=zth xn L p0 (fun p0=>k (V.agg p0) []):=by kernel_rfl
abbrev zgH:=∀ (β:Type),Nat→List V→(List V→Option β)→Option β
def zP (β:Type) (L:Nat) (p0:List V) (k_fin:List V→Option β):Option β:=zth xn L p0 k_fin
def zlA (zP:zgH) (L:Nat) (β:Type) (args:List V) (bor:Bor) (k:KK β):Option β:=match args,bor with
 | [a0],[]=>aG a0 fun p0=>zP β L p0 (fun p0=>k (V.agg p0) [])
 | _,_=>none
theorem zBn (L:Nat) (β:Type) (args:List V) (bor:Bor) (k:KK β) (r:β) (h:zlA zP L β args bor k=some r):xr zrE (zq4 xn L) L znC args bor k=some r:=by
 unfold zlA at h
 split at h
 ·have q:=yZ h; clear h; obtain ⟨p0,rfl,h⟩:=q
  exact (zBk xn L p0 k).trans h
 ·cases h
def zdo:CC:=(.seq (.reg [oo 12 (.bin .lss (tq 11) (tq 10))])
 (.seq (.cond (tq 12)
 .skip
 (.seq (.mask (bl 32 24) (bl 16777151 24))
 (.exit 0)))
 (.seq (.block 1 (.seq (.reg [oo 13 (.move (tq 11) false),
   oo 6 (.move (tq 13) false)])
 (.reg [oo 14 (.move (tq 5) false),
   oo 15 (.move (tq 6) false),
   oo 16 (.move (tq 0) false),
   oo 17 (.move (tq 6) false),
   oo 18 (.bin .mul (.const (.sc (.int .i64 8))) (tq 17)),
   oo 19 (.bin .shr (tq 16) (tq 18)),
   oo 20 (.conv .u8 (tq 19)),
   oo 21 (.indexAddrS 1 (tq 14) (tq 15)),
   oz (.store 1 (tq 21) (tq 20))])))
 (.reg [oo 22 (.bin .add (tq 11) (.const (.sc (.int .i64 1)))),
   oo 11 (.move (tq 22) false)]))))
def zkO:CC:=(.seq (.reg [oo 23 (.move (tq 5) true),
   oo 4 (.move (tq 23) true)])
 .ret)
def zdk:CF:=⟨24,[.tmp 4],
 (.seq (.reg [oo 4 (.move (.const (.gs 1 [])) true)])
 (.seq (.reg [oo 7 (.move (tq 1) false),
   ⟨(some 8),true,none,.makeSlice 1 1 [(.sc (.int .u8 0))] (tq 7) (tq 7)⟩,
   oo 5 (.move (tq 8) true)])
 (.seq (.seq (.reg [oo 9 (.move (tq 5) false),
   oo 10 (.lenS (tq 9)),
   oo 11 (.move (.const (.sc (.int .i64 0))) false)])
 (.block 0 (.loop (bl 3105 24) (bl 16777151 24)
 zdo)))
 zkO)))⟩
def zqe:Hint:=⟨[(0,0),(1,2),(7,0),(7,1)],[(1,1)],[none,some ((bl 3105 24),(bl 16777151 24)),none,some ((bl 32 24),(bl 16777151 24)),none,none],[],[],false,false⟩
def zbD:Nat→Sh:=xO []
def zbE (L:Nat):CBC:=noC
def zfx:St→St:=zac 0 (bl 3105 24) (bl 16777151 24)
def zdW (p0:Int) (p5l:Nat) (p10 p11:Int) (b8:List V):St:=⟨((V.sc (.int .u64 p0))::(jn 4 ((V.own 8 0 p5l 1)::(jn 4 ((V.sc (.int .i64 p10))::((V.sc (.int .i64 p11))::(jn 12 []))))))),(gn 8 ((.live true b8)::(gn 15 [])))⟩
def zjR (p5l:Nat) (b8:List V):St:=⟨(jn 5 ((V.own 8 0 p5l 1)::(jn 18 []))),(gn 8 ((.live true b8)::(gn 15 [])))⟩
def zua {β:Type} (L:Nat) (p0 p1:Int) (k_hbbaba:Int→Nat→Int→Int→List V→Option β):Option β :=
 chk (0≤p1∧p1≤p1∧(Int.toNat p1) * 1≤yr∧p1≤yr∧p1=p1) (
 k_hbbaba p0 (List.length (List.replicate (Int.toNat p1) [(V.sc (.int .u8 (0:Int)))])) (((List.length (List.replicate (Int.toNat p1) [(V.sc (.int .u8 (0:Int)))])):Nat):Int) (0:Int) (List.flatten (List.replicate (Int.toNat p1) [(V.sc (.int .u8 (0:Int)))])))
theorem zxG {β:Type} (L:Nat) (p0 p1:Int) (k:KK β):xr zbD (zbE L) L zdk [(V.sc (.int .u64 p0)),(V.sc (.int .i64 p1))] [] k=zua L p0 p1 (fun p0 p5l p10 p11 b8=>zH (yn zbD (zbE L) 0 L zdo) zfx L (zdW p0 p5l p10 p11 b8) (yH 0 (zV (yn zbD (zbE L) 0 L zkO) (y6 0 (CF.res zdk) k)))):=by kernel_rfl
def zn8 {β:Type} (L:Nat) (p0:Int) (p5l:Nat) (p10 p11:Int) (b8:List V) (k_hbbaba:Int→Nat→Int→Int→List V→Option β) (k_x0:Nat→List V→Option β):Option β :=
 ifb (decide (p11 < p10)) (
 lt (IntKind.wrap .i64 (((8:Int):Int) * p11)) fun x0 =>
 chk (0≤x0) (
 lt (zoj .u64 p0 x0) fun x1 =>
 lt (IntKind.wrap .u8 x1) fun x2 =>
 chk (0≤p11∧p11 < ((p5l:Nat):Int)) (
 chk (1=1∧(0+((Int.toNat p11) * 1))+1≤(List.length b8)) (
 lt (xg b8 (0+((Int.toNat p11) * 1)) [(V.sc (.int .u8 x2))]) fun r3 =>
 lt (IntKind.wrap .i64 ((p11:Int)+(1:Int))) fun x4 =>
 k_hbbaba p0 p5l p10 x4 r3)))) (
 k_x0 p5l b8)
theorem zsU {β:Type} (L:Nat) (p0:Int) (p5l:Nat) (p10 p11:Int) (b8:List V) (X:St→Option β) (K:KT β):yn zbD (zbE L) 0 L zdo (zdW p0 p5l p10 p11 b8) (zcC zfx X K)=zn8 L p0 p5l p10 p11 b8 (fun p0 p5l p10 p11 b8=>X (zdW p0 p5l p10 p11 b8)) (fun p5l b8=>K (.exit 0) (zjR p5l b8)):=by kernel_rfl
def zmB {β:Type} (L:Nat) (p5l:Nat) (b8:List V) (k_fin:List (List V)→Option β):Option β :=
 chk (p5l≠0∨(List.length b8)=0) (
 k_fin (yk 1 p5l b8))
theorem zq9 {β:Type} (L:Nat) (p5l:Nat) (b8:List V) (k:KK β):(yH 0 (zV (yn zbD (zbE L) 0 L zkO) (y6 0 (CF.res zdk) k))) (.exit 0) (zjR p5l b8)=zmB L p5l b8 (fun p0=>k (V.fr 1 p0) []):=by kernel_rfl
def ziE {β:Type} (L:Nat) (k_x0:Nat→List V→Option β):Nat→Int→Nat→Int→Int→List V→Option β
 | 0,_,_,_,_,_=>none
 | n+1,p0,p5l,p10,p11,b8=>zn8 L p0 p5l p10 p11 b8 (fun p0 p5l p10 p11 b8=>ziE L k_x0 n p0 p5l p10 p11 b8) k_x0
theorem zlm {β:Type} (L:Nat) (K:KT β):∀ (n:Nat) (p0:Int) (p5l:Nat) (p10 p11:Int) (b8:List V),zH (yn zbD (zbE L) 0 L zdo) zfx n (zdW p0 p5l p10 p11 b8) K=ziE L (fun p5l b8=>K (.exit 0) (zjR p5l b8)) n p0 p5l p10 p11 b8:=by
 intro n
 induction n with
 | zero=>intros; rfl
 | succ n ih =>
  intro p0 p5l p10 p11 b8
  refine (zsU L p0 p5l p10 p11 b8 (fun σ=>zH (yn zbD (zbE L) 0 L zdo) zfx n σ K) K).trans ?_
  simp only [ih]
  rfl
def zoA {β:Type} (L:Nat) (p0 p1:Int) (k_fin:List (List V)→Option β):Option β :=
 zua L p0 p1 (fun p0 p5l p10 p11 b8=>ziE L (fun p5l b8=>zmB L p5l b8 k_fin) L p0 p5l p10 p11 b8)
theorem zxE {β:Type} (L:Nat) (p0 p1:Int) (k:KK β):xr zbD (zbE L) L zdk [(V.sc (.int .u64 p0)),(V.sc (.int .i64 p1))] [] k=zoA L p0 p1 (fun p0=>k (V.fr 1 p0) []):=by
 refine (zxG L p0 p1 k).trans ?_
 unfold zoA
 first
  | (simp only [zlm,zq9]; done)
  | (simp only [zlm]; rfl)
abbrev zdP:=∀ (β:Type),Nat→Int→Int→(List (List V)→Option β)→Option β
def xE (β:Type) (L:Nat) (p0 p1:Int) (k_fin:List (List V)→Option β):Option β:=zoA L p0 p1 k_fin
def zg3 (xE:zdP) (L:Nat) (β:Type) (args:List V) (bor:Bor) (k:KK β):Option β:=match args,bor with
 | [a0,a1],[]=>aI .u64 a0 fun p0=>aI .i64 a1 fun p1=>xE β L p0 p1 (fun p0=>k (V.fr 1 p0) [])
 | _,_=>none
theorem zxF (L:Nat) (β:Type) (args:List V) (bor:Bor) (k:KK β) (r:β) (h:zg3 xE L β args bor k=some r):xr zbD (zbE L) L zdk args bor k=some r:=by
 unfold zg3 at h
 split at h
 ·have q:=zau h; clear h; obtain ⟨p0,rfl,h⟩:=q
  have q:=zau h; clear h; obtain ⟨p1,rfl,h⟩:=q
  exact (zxE L p0 p1 k).trans h
 ·cases h
def zi4:CF:=⟨17,[.tmp 4],
 (.seq (.reg [oo 4 (.move (.const (.gs 1 [])) true)])
 (.seq (.reg [oo 6 (.move (tq 0) false),
   oo 7 (.lenS (tq 6)),
   oo 8 (.move (tq 1) false),
   oo 9 (.lenS (tq 8)),
   oo 10 (.bin .add (tq 7) (tq 9)),
   oo 11 (.makeSlice 1 1 [(.sc (.int .u8 0))] (.const (.sc (.int .i64 0))) (tq 10)),
   oo 5 (.move (tq 11) true)])
 (.seq (.reg [oo 12 (.move (tq 5) true),
   oo 13 (.move (tq 0) false),
   oo 14 (.append 1 1 (tq 12) (tq 13)),
   oo 15 (.move (tq 1) false),
   oo 16 (.append 1 1 (tq 14) (tq 15)),
   oo 4 (.move (tq 16) true)])
 .ret)))⟩
def zp5:Hint:=⟨[(0,0),(1,6),(2,0),(2,5)],[],[none],[],[],false,false⟩
def zm7:Nat→Sh:=xO []
def znN (L:Nat):CBC:=noC
def zoh {β:Type} (L:Nat) (p0 p1:List (List V)) (k_fin:List (List V)→Option β):Option β :=
 lt (IntKind.wrap .i64 ((((List.length p0:Nat):Int):Int)+((List.length p1:Nat):Int))) fun x0 =>
 chk (0≤(0:Int)∧(0:Int)≤x0∧(Int.toNat x0) * 1≤yr∧x0≤yr) (
 chk ((List.length (List.replicate 0 [(V.sc (.int .u8 (0:Int)))])+List.length p0) * 1≤yr∧List.length (List.replicate 0 [(V.sc (.int .u8 (0:Int)))])+List.length p0≤yr) (
 lt ((List.replicate 0 [(V.sc (.int .u8 (0:Int)))])++p0) fun l1 =>
 chk ((List.length l1+List.length p1) * 1≤yr∧List.length l1+List.length p1≤yr) (
 lt (l1++p1) fun l2 =>
 k_fin l2)))
theorem zyi {β:Type} (L:Nat) (p0 p1:List (List V)) (k:KK β):xr zm7 (znN L) L zi4 [(V.sl 1 p0),(V.sl 1 p1)] [] k=zoh L p0 p1 (fun p0=>k (V.gs 1 p0) []):=by kernel_rfl
abbrev zdO:=∀ (β:Type),Nat→List (List V)→List (List V)→(List (List V)→Option β)→Option β
def zF (β:Type) (L:Nat) (p0 p1:List (List V)) (k_fin:List (List V)→Option β):Option β:=zoh L p0 p1 k_fin
def zhm (zF:zdO) (L:Nat) (β:Type) (args:List V) (bor:Bor) (k:KK β):Option β:=match args,bor with
 | [a0,a1],[]=>aL 1 a0 fun p0=>aL 1 a1 fun p1=>zF β L p0 p1 (fun p0=>k (V.gs 1 p0) [])
 | _,_=>none
theorem zyl (L:Nat) (β:Type) (args:List V) (bor:Bor) (k:KK β) (r:β) (h:zhm zF L β args bor k=some r):xr zm7 (znN L) L zi4 args bor k=some r:=by
 unfold zhm at h
 split at h
 ·have q:=z9 h; clear h; obtain ⟨p0,rfl,h⟩:=q
  have q:=z9 h; clear h; obtain ⟨p1,rfl,h⟩:=q
  exact (zyi L p0 p1 k).trans h
 ·cases h
def zfZ:CF:=⟨10,[.tmp 4],
 (.seq (.reg [oo 4 (.move (.const (.gs 1 [])) true)])
 (.seq (.reg [oo 5 (.move (tq 0) false),
   oo 6 (.move (tq 1) false),
   oo 7 (.conv .u64 (tq 6)),
   oo 8 (.call 194 [((tq 7),0),((.const (.sc (.int .i64 4))),0)] []),
   oo 9 (.call 193 [((tq 5),0),((tq 8),0)] []),
   oo 4 (.move (tq 9) true)])
 .ret))⟩
def znO:Hint:=⟨[(0,0),(1,5)],[],[none],[],[],false,false⟩
def zjs:Nat→Sh:=xO []
def zj0 (xE:zdP) (zF:zdO) (L:Nat):CBC:=(xu 193 (zhm zF L) (xu 194 (zg3 xE L) noC))
def zkL {β:Type} (xE:zdP) (zF:zdO) (L:Nat) (p0:List (List V)) (p1:Int) (k_fin:List (List V)→Option β):Option β :=
 lt (IntKind.wrap .u64 p1) fun x0 =>
 xE β L x0 (4:Int) (fun v1 =>
 zF β L p0 v1 (fun v2 =>
 k_fin v2))
theorem zuM {β:Type} (xE:zdP) (zF:zdO) (L:Nat) (p0:List (List V)) (p1:Int) (k:KK β):xr zjs (zj0 xE zF L) L zfZ [(V.sl 1 p0),(V.sc (.int .u32 p1))] [] k=zkL xE zF L p0 p1 (fun p0=>k (V.gs 1 p0) []):=by kernel_rfl
abbrev zcs:=∀ (β:Type),Nat→List (List V)→Int→(List (List V)→Option β)→Option β
def yv (β:Type) (L:Nat) (p0:List (List V)) (p1:Int) (k_fin:List (List V)→Option β):Option β:=zkL xE zF L p0 p1 k_fin
def zeL (yv:zcs) (L:Nat) (β:Type) (args:List V) (bor:Bor) (k:KK β):Option β:=match args,bor with
 | [a0,a1],[]=>aL 1 a0 fun p0=>aI .u32 a1 fun p1=>yv β L p0 p1 (fun p0=>k (V.gs 1 p0) [])
 | _,_=>none
theorem zuQ (L:Nat) (β:Type) (args:List V) (bor:Bor) (k:KK β) (r:β) (h:zeL yv L β args bor k=some r):xr zjs (zj0 xE zF L) L zfZ args bor k=some r:=by
 unfold zeL at h
 split at h
 ·have q:=z9 h; clear h; obtain ⟨p0,rfl,h⟩:=q
  have q:=zau h; clear h; obtain ⟨p1,rfl,h⟩:=q
  exact (zuM xE zF L p0 p1 k).trans h
 ·cases h
def zgd:CF:=⟨10,[.tmp 4],
 (.seq (.reg [oo 4 (.move (.const (.gs 1 [])) true)])
 (.seq (.reg [oo 5 (.move (tq 0) false),
   oo 6 (.move (tq 1) false),
   oo 7 (.conv .u64 (tq 6)),
   oo 8 (.call 194 [((tq 7),0),((.const (.sc (.int .i64 2))),0)] []),
   oo 9 (.call 193 [((tq 5),0),((tq 8),0)] []),
   oo 4 (.move (tq 9) true)])
 .ret))⟩
def znK:Hint:=⟨[(0,0),(1,5)],[],[none],[],[],false,false⟩
def zjo:Nat→Sh:=xO []
def zkd (xE:zdP) (zF:zdO) (L:Nat):CBC:=(xu 193 (zhm zF L) (xu 194 (zg3 xE L) noC))
def zk7 {β:Type} (xE:zdP) (zF:zdO) (L:Nat) (p0:List (List V)) (p1:Int) (k_fin:List (List V)→Option β):Option β :=
 lt (IntKind.wrap .u64 p1) fun x0 =>
 xE β L x0 (2:Int) (fun v1 =>
 zF β L p0 v1 (fun v2 =>
 k_fin v2))
theorem zuD {β:Type} (xE:zdP) (zF:zdO) (L:Nat) (p0:List (List V)) (p1:Int) (k:KK β):xr zjo (zkd xE zF L) L zgd [(V.sl 1 p0),(V.sc (.int .u16 p1))] [] k=zk7 xE zF L p0 p1 (fun p0=>k (V.gs 1 p0) []):=by kernel_rfl
abbrev zgQ:=∀ (β:Type),Nat→List (List V)→Int→(List (List V)→Option β)→Option β
def xQ (β:Type) (L:Nat) (p0:List (List V)) (p1:Int) (k_fin:List (List V)→Option β):Option β:=zk7 xE zF L p0 p1 k_fin
def zgU (xQ:zgQ) (L:Nat) (β:Type) (args:List V) (bor:Bor) (k:KK β):Option β:=match args,bor with
 | [a0,a1],[]=>aL 1 a0 fun p0=>aI .u16 a1 fun p1=>xQ β L p0 p1 (fun p0=>k (V.gs 1 p0) [])
 | _,_=>none
theorem zu7 (L:Nat) (β:Type) (args:List V) (bor:Bor) (k:KK β) (r:β) (h:zgU xQ L β args bor k=some r):xr zjo (zkd xE zF L) L zgd args bor k=some r:=by
 unfold zgU at h
 split at h
 ·have q:=z9 h; clear h; obtain ⟨p0,rfl,h⟩:=q
  have q:=zau h; clear h; obtain ⟨p1,rfl,h⟩:=q
  exact (zuD xE zF L p0 p1 k).trans h
 ·cases h
def zkh:CF:=⟨64,[.cell 2 true 4],
 (.seq (.reg [oo 1 (.box true (tq 0)),
   oo 2 (.alloc true [(.sc (.int .u64 0)),(.sc (.int .u64 0)),(.sc (.int .u64 0)),(.sc (.int .u64 0))])])
 (.seq (.reg [oo 3 (.indexAddrA 4 1 (tq 1) (.const (.sc (.int .i64 0)))),
   oo 4 (.load false 1 (tq 3) false),
   oo 5 (.indexAddrA 4 1 (tq 1) (.const (.sc (.int .i64 1)))),
   oo 6 (.load false 1 (tq 5) false),
   oo 7 (.bin .add (tq 4) (tq 6)),
   oo 8 (.indexAddrA 4 1 (tq 1) (.const (.sc (.int .i64 0)))),
   oz (.store 1 (tq 8) (tq 7))])
 (.seq (.dreg [] [(oo 9 (.indexAddrA 4 1 (tq 1) (.const (.sc (.int .i64 1)))),q0),
   (oo 10 (.load false 1 (tq 9) false),q1),
   (oo 11 (.call 118 [((tq 10),0),((.const (.sc (.int .i64 13))),0)] []),q1),
   (oo 12 (.indexAddrA 4 1 (tq 1) (.const (.sc (.int .i64 0)))),q0),
   (oo 13 (.load false 1 (tq 12) false),q1),
   (oo 14 (.bin .xor (tq 11) (tq 13)),q0),
   (oo 15 (.indexAddrA 4 1 (tq 1) (.const (.sc (.int .i64 1)))),q0),
   (oz (.store 1 (tq 15) (tq 14)),q0)])
 (.seq (.reg [oo 16 (.indexAddrA 4 1 (tq 1) (.const (.sc (.int .i64 0)))),
   oo 17 (.load false 1 (tq 16) false),
   oo 18 (.call 118 [((tq 17),0),((.const (.sc (.int .i64 32))),0)] []),
   oo 19 (.indexAddrA 4 1 (tq 1) (.const (.sc (.int .i64 0)))),
   oz (.store 1 (tq 19) (tq 18))])
 (.seq (.reg [oo 20 (.indexAddrA 4 1 (tq 1) (.const (.sc (.int .i64 2)))),
   oo 21 (.load false 1 (tq 20) false),
   oo 22 (.indexAddrA 4 1 (tq 1) (.const (.sc (.int .i64 3)))),
   oo 23 (.load false 1 (tq 22) false),
   oo 24 (.bin .add (tq 21) (tq 23)),
   oo 25 (.indexAddrA 4 1 (tq 1) (.const (.sc (.int .i64 2)))),
   oz (.store 1 (tq 25) (tq 24))])
 (.seq (.dreg [] [(oo 26 (.indexAddrA 4 1 (tq 1) (.const (.sc (.int .i64 3)))),q0),
   (oo 27 (.load false 1 (tq 26) false),q1),
   (oo 28 (.call 118 [((tq 27),0),((.const (.sc (.int .i64 16))),0)] []),q1),
   (oo 29 (.indexAddrA 4 1 (tq 1) (.const (.sc (.int .i64 2)))),q0),
   (oo 30 (.load false 1 (tq 29) false),q1),
   (oo 31 (.bin .xor (tq 28) (tq 30)),q0),
   (oo 32 (.indexAddrA 4 1 (tq 1) (.const (.sc (.int .i64 3)))),q0),
   (oz (.store 1 (tq 32) (tq 31)),q0)])
 (.seq (.reg [oo 33 (.indexAddrA 4 1 (tq 1) (.const (.sc (.int .i64 0)))),
   oo 34 (.load false 1 (tq 33) false),
   oo 35 (.indexAddrA 4 1 (tq 1) (.const (.sc (.int .i64 3)))),
   oo 36 (.load false 1 (tq 35) false),
   oo 37 (.bin .add (tq 34) (tq 36)),
   oo 38 (.indexAddrA 4 1 (tq 1) (.const (.sc (.int .i64 0)))),
   oz (.store 1 (tq 38) (tq 37))])
 (.seq (.dreg [] [(oo 39 (.indexAddrA 4 1 (tq 1) (.const (.sc (.int .i64 3)))),q0),
   (oo 40 (.load false 1 (tq 39) false),q1),
   (oo 41 (.call 118 [((tq 40),0),((.const (.sc (.int .i64 21))),0)] []),q1),
   (oo 42 (.indexAddrA 4 1 (tq 1) (.const (.sc (.int .i64 0)))),q0),
   (oo 43 (.load false 1 (tq 42) false),q1),
   (oo 44 (.bin .xor (tq 41) (tq 43)),q0),
   (oo 45 (.indexAddrA 4 1 (tq 1) (.const (.sc (.int .i64 3)))),q0),
   (oz (.store 1 (tq 45) (tq 44)),q0)])
 (.seq (.reg [oo 46 (.indexAddrA 4 1 (tq 1) (.const (.sc (.int .i64 2)))),
   oo 47 (.load false 1 (tq 46) false),
   oo 48 (.indexAddrA 4 1 (tq 1) (.const (.sc (.int .i64 1)))),
   oo 49 (.load false 1 (tq 48) false),
   oo 50 (.bin .add (tq 47) (tq 49)),
   oo 51 (.indexAddrA 4 1 (tq 1) (.const (.sc (.int .i64 2)))),
   oz (.store 1 (tq 51) (tq 50))])
 (.seq (.dreg [] [(oo 52 (.indexAddrA 4 1 (tq 1) (.const (.sc (.int .i64 1)))),q0),
   (oo 53 (.load false 1 (tq 52) false),q1),
   (oo 54 (.call 118 [((tq 53),0),((.const (.sc (.int .i64 17))),0)] []),q1),
   (oo 55 (.indexAddrA 4 1 (tq 1) (.const (.sc (.int .i64 2)))),q0),
   (oo 56 (.load false 1 (tq 55) false),q1),
   (oo 57 (.bin .xor (tq 54) (tq 56)),q0),
   (oo 58 (.indexAddrA 4 1 (tq 1) (.const (.sc (.int .i64 1)))),q0),
   (oz (.store 1 (tq 58) (tq 57)),q0)])
 (.seq (.reg [oo 59 (.indexAddrA 4 1 (tq 1) (.const (.sc (.int .i64 2)))),
   oo 60 (.load false 1 (tq 59) false),
   oo 61 (.call 118 [((tq 60),0),((.const (.sc (.int .i64 32))),0)] []),
   oo 62 (.indexAddrA 4 1 (tq 1) (.const (.sc (.int .i64 2)))),
   oz (.store 1 (tq 62) (tq 61))])
 (.seq (.reg [oo 63 (.load true 4 (tq 1) false),
   oz (.store 4 (tq 2) (tq 63))])
 .ret))))))))))))⟩
def zrr:Hint:=⟨[],[],[none],[],[],false,false⟩
def zoC:Nat→Sh:=xO [(4,(.int .u64)),(6,(.int .u64)),(10,(.int .u64)),(13,(.int .u64)),(17,(.int .u64)),(21,(.int .u64)),(23,(.int .u64)),(27,(.int .u64)),(30,(.int .u64)),(34,(.int .u64)),(36,(.int .u64)),(40,(.int .u64)),(43,(.int .u64)),(47,(.int .u64)),(49,(.int .u64)),(53,(.int .u64)),(56,(.int .u64)),(60,(.int .u64))]
def zok (zc:xH) (L:Nat):CBC:=(xu 118 (zcd zc L) noC)
def zpC {β:Type} (zc:xH) (L:Nat) (p0:List V) (k_fin:List V→Option β):Option β :=
 cI .u64 p0 0 fun v0 =>
 cI .u64 p0 1 fun v1 =>
 lt (IntKind.wrap .u64 ((v0:Int)+v1)) fun x2 =>
 chk (1=1∧0+1≤(List.length p0)) (
 lt (xg p0 0 [(V.sc (.int .u64 x2))]) fun r3 =>
 cI .u64 r3 1 fun v4 =>
 zc β L v4 (13:Int) (fun v5 =>
 cI .u64 r3 0 fun v6 =>
 lt (za0 .u64 v5 v6) fun x7 =>
 chk (1=1∧1+1≤(List.length r3)) (
 lt (xg r3 1 [(V.sc (.int .u64 x7))]) fun r8 =>
 cI .u64 r8 0 fun v9 =>
 zc β L v9 (32:Int) (fun v10 =>
 chk (1=1∧0+1≤(List.length r8)) (
 lt (xg r8 0 [(V.sc (.int .u64 v10))]) fun r11 =>
 cI .u64 r11 2 fun v12 =>
 cI .u64 r11 3 fun v13 =>
 lt (IntKind.wrap .u64 ((v12:Int)+v13)) fun x14 =>
 chk (1=1∧2+1≤(List.length r11)) (
 lt (xg r11 2 [(V.sc (.int .u64 x14))]) fun r15 =>
 cI .u64 r15 3 fun v16 =>
 zc β L v16 (16:Int) (fun v17 =>
 cI .u64 r15 2 fun v18 =>
 lt (za0 .u64 v17 v18) fun x19 =>
 chk (1=1∧3+1≤(List.length r15)) (
 lt (xg r15 3 [(V.sc (.int .u64 x19))]) fun r20 =>
 cI .u64 r20 0 fun v21 =>
 cI .u64 r20 3 fun v22 =>
 lt (IntKind.wrap .u64 ((v21:Int)+v22)) fun x23 =>
 chk (1=1∧0+1≤(List.length r20)) (
 lt (xg r20 0 [(V.sc (.int .u64 x23))]) fun r24 =>
 cI .u64 r24 3 fun v25 =>
 zc β L v25 (21:Int) (fun v26 =>
 cI .u64 r24 0 fun v27 =>
 lt (za0 .u64 v26 v27) fun x28 =>
 chk (1=1∧3+1≤(List.length r24)) (
 lt (xg r24 3 [(V.sc (.int .u64 x28))]) fun r29 =>
 cI .u64 r29 2 fun v30 =>
 cI .u64 r29 1 fun v31 =>
 lt (IntKind.wrap .u64 ((v30:Int)+v31)) fun x32 =>
 chk (1=1∧2+1≤(List.length r29)) (
 lt (xg r29 2 [(V.sc (.int .u64 x32))]) fun r33 =>
 cI .u64 r33 1 fun v34 =>
 zc β L v34 (17:Int) (fun v35 =>
 cI .u64 r33 2 fun v36 =>
 lt (za0 .u64 v35 v36) fun x37 =>
 chk (1=1∧1+1≤(List.length r33)) (
 lt (xg r33 1 [(V.sc (.int .u64 x37))]) fun r38 =>
 cI .u64 r38 2 fun v39 =>
 zc β L v39 (32:Int) (fun v40 =>
 chk (1=1∧2+1≤(List.length r38)) (
 lt (xg r38 2 [(V.sc (.int .u64 v40))]) fun r41 =>
 chk (0+4≤(List.length r41)) (
 chk ((List.length (List.take 4 r41))=4∧0+4≤4) (
 lt (xg [(V.sc (.int .u64 (0:Int))),(V.sc (.int .u64 (0:Int))),(V.sc (.int .u64 (0:Int))),(V.sc (.int .u64 (0:Int)))] 0 (List.take 4 r41)) fun r42 =>
 chk (0=0∧(List.length r42)=4∧4≠0) (
 k_fin r42)))))))))))))))))))
theorem zyY {β:Type} (zc:xH) (L:Nat) (p0:List V) (k:KK β):xr zoC (zok zc L) L zkh [(V.agg p0)] [] k=zpC zc L p0 (fun p0=>k (V.agg p0) []):=by kernel_rfl
abbrev zaw:=∀ (β:Type),Nat→List V→(List V→Option β)→Option β
def yl (β:Type) (L:Nat) (p0:List V) (k_fin:List V→Option β):Option β:=zpC zc L p0 k_fin
def zil (yl:zaw) (L:Nat) (β:Type) (args:List V) (bor:Bor) (k:KK β):Option β:=match args,bor with
 | [a0],[]=>aG a0 fun p0=>yl β L p0 (fun p0=>k (V.agg p0) [])
 | _,_=>none
theorem zy2 (L:Nat) (β:Type) (args:List V) (bor:Bor) (k:KK β) (r:β) (h:zil yl L β args bor k=some r):xr zoC (zok zc L) L zkh args bor k=some r:=by
 unfold zil at h
 split at h
 ·have q:=yZ h; clear h; obtain ⟨p0,rfl,h⟩:=q
  exact (zyY zc L p0 k).trans h
 ·cases h
def ziS:CF:=⟨19,[.cell 4 true 4],
 (.seq (.reg [oo 2 (.box true (tq 0)),
   oo 4 (.alloc true [(.sc (.int .u64 0)),(.sc (.int .u64 0)),(.sc (.int .u64 0)),(.sc (.int .u64 0))])])
 (.seq (.reg [oo 5 (.indexAddrA 4 1 (tq 2) (.const (.sc (.int .i64 3)))),
   oo 6 (.load false 1 (tq 5) false),
   oo 7 (.move (tq 1) false),
   oo 8 (.bin .xor (tq 6) (tq 7)),
   oo 9 (.indexAddrA 4 1 (tq 2) (.const (.sc (.int .i64 3)))),
   oz (.store 1 (tq 9) (tq 8))])
 (.seq (.reg [oo 10 (.load true 4 (tq 2) false),
   oo 11 (.call 116 [((tq 10),0)] []),
   oo 12 (.call 116 [((tq 11),0)] []),
   oz (.store 4 (tq 2) (tq 12))])
 (.seq (.reg [oo 13 (.indexAddrA 4 1 (tq 2) (.const (.sc (.int .i64 0)))),
   oo 14 (.load false 1 (tq 13) false),
   oo 15 (.move (tq 1) false),
   oo 16 (.bin .xor (tq 14) (tq 15)),
   oo 17 (.indexAddrA 4 1 (tq 2) (.const (.sc (.int .i64 0)))),
   oz (.store 1 (tq 17) (tq 16))])
 (.seq (.reg [oo 18 (.load true 4 (tq 2) false),
   oz (.store 4 (tq 4) (tq 18))])
 .ret)))))⟩
def zqf:Hint:=⟨[],[],[none],[],[],false,false⟩
def zmS:Nat→Sh:=xO [(6,(.int .u64)),(14,(.int .u64))]
def zmJ (yl:zaw) (L:Nat):CBC:=(xu 116 (zil yl L) noC)
def zou {β:Type} (yl:zaw) (L:Nat) (p0:List V) (p1:Int) (k_fin:List V→Option β):Option β :=
 cI .u64 p0 3 fun v0 =>
 lt (za0 .u64 v0 p1) fun x1 =>
 chk (1=1∧3+1≤(List.length p0)) (
 lt (xg p0 3 [(V.sc (.int .u64 x1))]) fun r2 =>
 chk (0+4≤(List.length r2)) (
 yl β L (List.take 4 r2) (fun v3 =>
 yl β L v3 (fun v4 =>
 chk ((List.length v4)=4∧0+4≤(List.length r2)) (
 lt (xg r2 0 v4) fun r5 =>
 cI .u64 r5 0 fun v6 =>
 lt (za0 .u64 v6 p1) fun x7 =>
 chk (1=1∧0+1≤(List.length r5)) (
 lt (xg r5 0 [(V.sc (.int .u64 x7))]) fun r8 =>
 chk (0+4≤(List.length r8)) (
 chk ((List.length (List.take 4 r8))=4∧0+4≤4) (
 lt (xg [(V.sc (.int .u64 (0:Int))),(V.sc (.int .u64 (0:Int))),(V.sc (.int .u64 (0:Int))),(V.sc (.int .u64 (0:Int)))] 0 (List.take 4 r8)) fun r9 =>
 chk (0=0∧(List.length r9)=4∧4≠0) (
 k_fin r9)))))))))
theorem zx5 {β:Type} (yl:zaw) (L:Nat) (p0:List V) (p1:Int) (k:KK β):xr zmS (zmJ yl L) L ziS [(V.agg p0),(V.sc (.int .u64 p1))] [] k=zou yl L p0 p1 (fun p0=>k (V.agg p0) []):=by kernel_rfl
abbrev za7:=∀ (β:Type),Nat→List V→Int→(List V→Option β)→Option β
def xq (β:Type) (L:Nat) (p0:List V) (p1:Int) (k_fin:List V→Option β):Option β:=zou yl L p0 p1 k_fin
def zkr (xq:za7) (L:Nat) (β:Type) (args:List V) (bor:Bor) (k:KK β):Option β:=match args,bor with
 | [a0,a1],[]=>aG a0 fun p0=>aI .u64 a1 fun p1=>xq β L p0 p1 (fun p0=>k (V.agg p0) [])
 | _,_=>none
theorem zxO (L:Nat) (β:Type) (args:List V) (bor:Bor) (k:KK β) (r:β) (h:zkr xq L β args bor k=some r):xr zmS (zmJ yl L) L ziS args bor k=some r:=by
 unfold zkr at h
 split at h
 ·have q:=yZ h; clear h; obtain ⟨p0,rfl,h⟩:=q
  have q:=zau h; clear h; obtain ⟨p1,rfl,h⟩:=q
  exact (zx5 yl L p0 p1 k).trans h
 ·cases h
def zeI:CC:=(.seq (.seq (.reg [oo 22 (.move (tq 1) false),
   oo 23 (.lenS (tq 22)),
   oo 24 (.bin .geq (tq 23) (.const (.sc (.int .i64 8))))])
 (.cond (tq 24)
 .skip
 (.seq (.mask (bl 98 61) (bl 2305843008399998971 61))
 (.exit 0))))
 (.block 1 (.dreg [] [(oo 25 (.load true 4 (tq 5) false),ql 5 [] []),
   (oo 26 (.move (tq 1) false),q0),
   (oo 27 (.sliceS 1 (tq 26) none (some (.const (.sc (.int .i64 8)))) none),q0),
   (oo 28 (.call 115 [((tq 27),0)] []),qc [5] []),
   (oo 29 (.call 114 [((tq 25),0),((tq 28),0)] []),q0),
   (oo 30 (.move (tq 1) false),q0),
   (oo 31 (.sliceS 1 (tq 30) (some (.const (.sc (.int .i64 8)))) none none),q0),
   (oz (.store 4 (tq 5) (tq 29)),q0),
   (oo 1 (.move (tq 31) true),q0)])))
def znh:CC:=(.seq (.dreg [] [(oo 32 (.load true 4 (tq 5) false),ql 5 [] []),
   (oo 33 (.move (tq 1) false),q0),
   (oo 34 (.call 115 [((tq 33),0)] []),qc [5] []),
   (oo 35 (.move (tq 6) false),q0),
   (oo 36 (.bin .rem (tq 35) (.const (.sc (.int .i64 256)))),q0),
   (oo 37 (.conv .u64 (tq 36)),q0),
   (oo 38 (.bin .shl (tq 37) (.const (.sc (.int .u64 56)))),q0),
   (oo 39 (.bin .or (tq 34) (tq 38)),q0),
   (oo 40 (.call 114 [((tq 32),0),((tq 39),0)] []),q0),
   (oz (.store 4 (tq 5) (tq 40)),q0)])
 (.seq (.reg [oo 41 (.indexAddrA 4 1 (tq 5) (.const (.sc (.int .i64 2)))),
   oo 42 (.load false 1 (tq 41) false),
   oo 43 (.bin .xor (tq 42) (.const (.sc (.int .u64 255)))),
   oo 44 (.indexAddrA 4 1 (tq 5) (.const (.sc (.int .i64 2)))),
   oz (.store 1 (tq 44) (tq 43))])
 (.seq (.reg [oo 45 (.load true 4 (tq 5) false),
   oo 46 (.call 116 [((tq 45),0)] []),
   oo 47 (.call 116 [((tq 46),0)] []),
   oo 48 (.call 116 [((tq 47),0)] []),
   oo 49 (.call 116 [((tq 48),0)] []),
   oz (.store 4 (tq 5) (tq 49))])
 (.seq (.reg [oo 50 (.indexAddrA 4 1 (tq 5) (.const (.sc (.int .i64 0)))),
   oo 51 (.load false 1 (tq 50) false),
   oo 52 (.indexAddrA 4 1 (tq 5) (.const (.sc (.int .i64 1)))),
   oo 53 (.load false 1 (tq 52) false),
   oo 54 (.bin .xor (tq 51) (tq 53)),
   oo 55 (.indexAddrA 4 1 (tq 5) (.const (.sc (.int .i64 2)))),
   oo 56 (.load false 1 (tq 55) false),
   oo 57 (.bin .xor (tq 54) (tq 56)),
   oo 58 (.indexAddrA 4 1 (tq 5) (.const (.sc (.int .i64 3)))),
   oo 59 (.load false 1 (tq 58) false),
   oo 60 (.bin .xor (tq 57) (tq 59)),
   oo 4 (.move (tq 60) false)])
 .ret))))
def zfg:CF:=⟨61,[.tmp 4],
 (.seq (.reg [oo 2 (.box true (tq 0)),
   oo 4 (.move (.const (.sc (.int .u64 0))) false)])
 (.seq (.reg [oo 7 (.indexAddrA 2 1 (tq 2) (.const (.sc (.int .i64 0)))),
   oo 8 (.load false 1 (tq 7) false),
   oo 9 (.bin .xor (tq 8) (.const (.sc (.int .u64 8317987319222330741)))),
   oo 10 (.indexAddrA 2 1 (tq 2) (.const (.sc (.int .i64 1)))),
   oo 11 (.load false 1 (tq 10) false),
   oo 12 (.bin .xor (tq 11) (.const (.sc (.int .u64 7237128888997146477)))),
   oo 13 (.indexAddrA 2 1 (tq 2) (.const (.sc (.int .i64 0)))),
   oo 14 (.load false 1 (tq 13) false),
   oo 15 (.bin .xor (tq 14) (.const (.sc (.int .u64 7816392313619706465)))),
   oo 16 (.indexAddrA 2 1 (tq 2) (.const (.sc (.int .i64 1)))),
   oo 17 (.load false 1 (tq 16) false),
   oo 18 (.bin .xor (tq 17) (.const (.sc (.int .u64 8387220255154660723)))),
   oo 19 (.build [(.sc (.int .u64 0)),(.sc (.int .u64 0)),(.sc (.int .u64 0)),(.sc (.int .u64 0))] [(0,1,(tq 9)),(1,1,(tq 12)),(2,1,(tq 15)),(3,1,(tq 18))]),
   oo 5 (.alloc true [(.sc (.int .u64 0)),(.sc (.int .u64 0)),(.sc (.int .u64 0)),(.sc (.int .u64 0))]),
   oz (.store 4 (tq 5) (tq 19))])
 (.seq (.reg [oo 20 (.move (tq 1) false),
   oo 21 (.lenS (tq 20)),
   oo 6 (.move (tq 21) false)])
 (.seq (.block 0 (.loop (bl 98 61) (bl 2305843008399998971 61)
 zeI))
 znh))))⟩
def ztU:Hint:=⟨[(4,8)],[],[none,some ((bl 98 61),(bl 2305843008399998971 61)),none,some ((bl 98 61),(bl 2305843008399998971 61)),none,none],[],[],false,false⟩
def zcN:Nat→Sh:=xO [(8,(.int .u64)),(11,(.int .u64)),(14,(.int .u64)),(17,(.int .u64)),(42,(.int .u64)),(51,(.int .u64)),(53,(.int .u64)),(56,(.int .u64)),(59,(.int .u64))]
def zcQ (xn:zaV) (xq:za7) (yl:zaw) (L:Nat):CBC:=(xu 116 (zil yl L) (xu 114 (zkr xq L) (xu 115 (zjl xn L) noC)))
def zh8:St→St:=zac 0 (bl 98 61) (bl 2305843008399998971 61)
def zfD (p1:List (List V)) (p6:Int) (b5:List V):St:=⟨(jn 1 ((V.sl 1 p1)::(jn 3 ((V.ptr 5 0)::((V.sc (.int .i64 p6))::(jn 54 [])))))),(gn 5 ((.live true b5)::(gn 55 [])))⟩
def zmT (p1:List (List V)) (p6:Int) (b5:List V):St:=⟨(jn 1 ((V.sl 1 p1)::(jn 3 ((V.ptr 5 0)::((V.sc (.int .i64 p6))::(jn 54 [])))))),(gn 5 ((.live true b5)::(gn 55 [])))⟩
def zs2 {β:Type} (xn:zaV) (xq:za7) (yl:zaw) (L:Nat) (p0:List V) (p1:List (List V)) (k_hbbbaa:List (List V)→Int→List V→Option β):Option β :=
 cI .u64 p0 0 fun v0 =>
 lt (za0 .u64 v0 (8317987319222330741:Int)) fun x1 =>
 cI .u64 p0 1 fun v2 =>
 lt (za0 .u64 v2 (7237128888997146477:Int)) fun x3 =>
 cI .u64 p0 0 fun v4 =>
 lt (za0 .u64 v4 (7816392313619706465:Int)) fun x5 =>
 cI .u64 p0 1 fun v6 =>
 lt (za0 .u64 v6 (8387220255154660723:Int)) fun x7 =>
 lt [(V.sc (.int .u64 x1)),(V.sc (.int .u64 x3)),(V.sc (.int .u64 x5)),(V.sc (.int .u64 x7))] fun r8 =>
 k_hbbbaa p1 ((List.length p1:Nat):Int) r8
theorem zBf {β:Type} (xn:zaV) (xq:za7) (yl:zaw) (L:Nat) (p0:List V) (p1:List (List V)) (k:KK β):xr zcN (zcQ xn xq yl L) L zfg [(V.agg p0),(V.sl 1 p1)] [] k=zs2 xn xq yl L p0 p1 (fun p1 p6 b5=>zH (yn zcN (zcQ xn xq yl L) 0 L zeI) zh8 L (zfD p1 p6 b5) (yH 0 (zV (yn zcN (zcQ xn xq yl L) 0 L znh) (y6 0 (CF.res zfg) k)))):=by kernel_rfl
def zl0 {β:Type} (xn:zaV) (xq:za7) (yl:zaw) (L:Nat) (p1:List (List V)) (p6:Int) (b5:List V) (k_hbbbaa:List (List V)→Int→List V→Option β) (k_x0:List (List V)→Int→List V→Option β):Option β :=
 ifb (decide (((List.length p1:Nat):Int) ≥ (8:Int))) (
 chk (0+4≤(List.length b5)) (
 chk (0≤(8:Int)∧(8:Int)≤(((List.length p1):Nat):Int)) (
 xn β L (List.take 8 (List.drop 0 p1)) (fun v9 =>
 xq β L (List.take 4 b5) v9 (fun v10 =>
 chk (0≤(8:Int)∧(8:Int)≤(((List.length p1):Nat):Int)) (
 chk ((List.length v10)=4∧0+4≤(List.length b5)) (
 lt (xg b5 0 v10) fun r11 =>
 k_hbbbaa (List.take ((List.length p1) - 8) (List.drop 8 p1)) p6 r11))))))) (
 k_x0 p1 p6 b5)
theorem zvB {β:Type} (xn:zaV) (xq:za7) (yl:zaw) (L:Nat) (p1:List (List V)) (p6:Int) (b5:List V) (X:St→Option β) (K:KT β):yn zcN (zcQ xn xq yl L) 0 L zeI (zfD p1 p6 b5) (zcC zh8 X K)=zl0 xn xq yl L p1 p6 b5 (fun p1 p6 b5=>X (zfD p1 p6 b5)) (fun p1 p6 b5=>K (.exit 0) (zmT p1 p6 b5)):=by kernel_rfl
def zf3 {β:Type} (xn:zaV) (xq:za7) (yl:zaw) (L:Nat) (p1:List (List V)) (p6:Int) (b5:List V) (k_fin:Int→Option β):Option β :=
 chk (0+4≤(List.length b5)) (
 xn β L p1 (fun v12 =>
 lt (Int.tmod p6 (256:Int)) fun x13 =>
 lt (IntKind.wrap .u64 x13) fun x14 =>
 lt (zrq .u64 x14 (56:Int)) fun x15 =>
 lt (ior .u64 v12 x15) fun x16 =>
 xq β L (List.take 4 b5) x16 (fun v17 =>
 chk ((List.length v17)=4∧0+4≤(List.length b5)) (
 lt (xg b5 0 v17) fun r18 =>
 cI .u64 r18 2 fun v19 =>
 lt (za0 .u64 v19 (255:Int)) fun x20 =>
 chk (1=1∧2+1≤(List.length r18)) (
 lt (xg r18 2 [(V.sc (.int .u64 x20))]) fun r21 =>
 chk (0+4≤(List.length r21)) (
 yl β L (List.take 4 r21) (fun v22 =>
 yl β L v22 (fun v23 =>
 yl β L v23 (fun v24 =>
 yl β L v24 (fun v25 =>
 chk ((List.length v25)=4∧0+4≤(List.length r21)) (
 lt (xg r21 0 v25) fun r26 =>
 cI .u64 r26 0 fun v27 =>
 cI .u64 r26 1 fun v28 =>
 lt (za0 .u64 v27 v28) fun x29 =>
 cI .u64 r26 2 fun v30 =>
 lt (za0 .u64 x29 v30) fun x31 =>
 cI .u64 r26 3 fun v32 =>
 lt (za0 .u64 x31 v32) fun x33 =>
 k_fin x33)))))))))))
theorem ztm {β:Type} (xn:zaV) (xq:za7) (yl:zaw) (L:Nat) (p1:List (List V)) (p6:Int) (b5:List V) (k:KK β):(yH 0 (zV (yn zcN (zcQ xn xq yl L) 0 L znh) (y6 0 (CF.res zfg) k))) (.exit 0) (zmT p1 p6 b5)=zf3 xn xq yl L p1 p6 b5 (fun p0=>k (V.sc (.int .u64 p0)) []):=by kernel_rfl
def zfl {β:Type} (xn:zaV) (xq:za7) (yl:zaw) (L:Nat) (k_x0:List (List V)→Int→List V→Option β):Nat→List (List V)→Int→List V→Option β
 | 0,_,_,_=>none
 | n+1,p1,p6,b5=>zl0 xn xq yl L p1 p6 b5 (fun p1 p6 b5=>zfl xn xq yl L k_x0 n p1 p6 b5) k_x0
theorem zn7 {β:Type} (xn:zaV) (xq:za7) (yl:zaw) (L:Nat) (K:KT β):∀ (n:Nat) (p1:List (List V)) (p6:Int) (b5:List V),zH (yn zcN (zcQ xn xq yl L) 0 L zeI) zh8 n (zfD p1 p6 b5) K=zfl xn xq yl L (fun p1 p6 b5=>K (.exit 0) (zmT p1 p6 b5)) n p1 p6 b5:=by
 intro n
 induction n with
 | zero=>intros; rfl
 | succ n ih =>
  intro p1 p6 b5
  refine (zvB xn xq yl L p1 p6 b5 (fun σ=>zH (yn zcN (zcQ xn xq yl L) 0 L zeI) zh8 n σ K) K).trans ?_
  simp only [ih]
  rfl
def zoL {β:Type} (xn:zaV) (xq:za7) (yl:zaw) (L:Nat) (p0:List V) (p1:List (List V)) (k_fin:Int→Option β):Option β :=
 zs2 xn xq yl L p0 p1 (fun p1 p6 b5=>zfl xn xq yl L (fun p1 p6 b5=>zf3 xn xq yl L p1 p6 b5 k_fin) L p1 p6 b5)
theorem zBc {β:Type} (xn:zaV) (xq:za7) (yl:zaw) (L:Nat) (p0:List V) (p1:List (List V)) (k:KK β):xr zcN (zcQ xn xq yl L) L zfg [(V.agg p0),(V.sl 1 p1)] [] k=zoL xn xq yl L p0 p1 (fun p0=>k (V.sc (.int .u64 p0)) []):=by
 refine (zBf xn xq yl L p0 p1 k).trans ?_
 unfold zoL
 first
  | (simp only [zn7,ztm]; done)
  | (simp only [zn7]; rfl)
abbrev zgw:=∀ (β:Type),Nat→List V→List (List V)→(Int→Option β)→Option β
def yL (β:Type) (L:Nat) (p0:List V) (p1:List (List V)) (k_fin:Int→Option β):Option β:=zoL xn xq yl L p0 p1 k_fin
def zlk (yL:zgw) (L:Nat) (β:Type) (args:List V) (bor:Bor) (k:KK β):Option β:=match args,bor with
 | [a0,a1],[]=>aG a0 fun p0=>aL 1 a1 fun p1=>yL β L p0 p1 (fun p0=>k (V.sc (.int .u64 p0)) [])
 | _,_=>none
theorem zA1 (L:Nat) (β:Type) (args:List V) (bor:Bor) (k:KK β) (r:β) (h:zlk yL L β args bor k=some r):xr zcN (zcQ xn xq yl L) L zfg args bor k=some r:=by
 unfold zlk at h
 split at h
 ·have q:=yZ h; clear h; obtain ⟨p0,rfl,h⟩:=q
  have q:=z9 h; clear h; obtain ⟨p1,rfl,h⟩:=q
  exact (zBc xn xq yl L p0 p1 k).trans h
 ·cases h
def zks:CF:=⟨6,[.tmp 2],
 (.seq (.reg [oo 1 (.box true (tq 0)),
   oo 2 (.move (.const (.sc (.int .u32 0))) false)])
 (.seq (.reg [oo 3 (.fieldAddr 0 (tq 1)),
   oo 4 (.load false 1 (tq 3) false),
   oo 5 (.bin .shr (tq 4) (.const (.sc (.int .u64 16)))),
   oo 2 (.move (tq 5) false)])
 .ret))⟩
def zqU:Hint:=⟨[],[],[none],[],[],false,false⟩
def zoi:Nat→Sh:=xO [(4,(.int .u32))]
def zon (L:Nat):CBC:=noC
def zpS {β:Type} (L:Nat) (p0:List V) (k_fin:Int→Option β):Option β :=
 cI .u32 p0 0 fun v0 =>
 lt (zoj .u32 v0 (16:Int)) fun x1 =>
 k_fin x1
theorem zyS {β:Type} (L:Nat) (p0:List V) (k:KK β):xr zoi (zon L) L zks [(V.agg p0)] [] k=zpS L p0 (fun p0=>k (V.sc (.int .u32 p0)) []):=by kernel_rfl
abbrev zai:=∀ (β:Type),Nat→List V→(Int→Option β)→Option β
def zj (β:Type) (L:Nat) (p0:List V) (k_fin:Int→Option β):Option β:=zpS L p0 k_fin
def zeu (zj:zai) (L:Nat) (β:Type) (args:List V) (bor:Bor) (k:KK β):Option β:=match args,bor with
 | [a0],[]=>aG a0 fun p0=>zj β L p0 (fun p0=>k (V.sc (.int .u32 p0)) [])
 | _,_=>none
theorem zzr (L:Nat) (β:Type) (args:List V) (bor:Bor) (k:KK β) (r:β) (h:zeu zj L β args bor k=some r):xr zoi (zon L) L zks args bor k=some r:=by
 unfold zeu at h
 split at h
 ·have q:=yZ h; clear h; obtain ⟨p0,rfl,h⟩:=q
  exact (zyS L p0 k).trans h
 ·cases h
def zeT:CF:=⟨30,[.tmp 4],
 (.seq (.reg [oo 2 (.box true (tq 0)),
   oo 3 (.box true (tq 1)),
   oo 4 (.move (.const (.sc (.int .i64 0))) false)])
 (.seq (.reg [oo 7 (.load true 32 (tq 2) false),
   oo 8 (.call 110 [((tq 7),0)] []),
   oo 5 (.alloc true [(.sc (.int .u64 0)),(.sc (.int .u64 0))]),
   oz (.store 2 (tq 5) (tq 8))])
 (.seq (.dreg [] [(oo 9 (.load true 2 (tq 5) false),ql 5 [3] [10]),
   (oo 10 (.buildSlice 1 1 [(.sc (.int .u8 0))] [(0,1,(.const (.sc (.int .u8 4))))]),qn [5,3] []),
   (oo 11 (.fieldAddr 0 (tq 3)),q0),
   (oo 12 (.load false 1 (tq 11) false),ql 3 [5] [10]),
   (oo 13 (.call 159 [((tq 10),0),((tq 12),0)] []),qc [5,3] []),
   (oo 14 (.fieldAddr 1 (tq 3)),q0),
   (oo 15 (.load false 1 (tq 14) false),ql 3 [5] [10]),
   (oo 16 (.call 304 [((tq 13),0),((tq 15),0)] []),qc [5] []),
   (oo 17 (.call 106 [((tq 9),0),((tq 16),0)] []),q0),
   (oo 18 (.bin .rem (tq 17) (.const (.sc (.int .u64 4)))),q0),
   (oo 6 (.move (tq 18) false),q0)])
 (.seq (.dreg [] [(oo 19 (.load true 2 (tq 5) false),ql 5 [3] [20]),
   (oo 20 (.buildSlice 1 1 [(.sc (.int .u8 0))] [(0,1,(.const (.sc (.int .u8 3))))]),qn [5,3] []),
   (oo 21 (.load true 3 (tq 3) false),ql 3 [5] [20]),
   (oo 22 (.call 294 [((tq 21),0)] []),qc [5] [20]),
   (oo 23 (.call 159 [((tq 20),0),((tq 22),0)] []),qc [5] []),
   (oo 24 (.move (tq 6) false),q0),
   (oo 25 (.conv .u32 (tq 24)),q0),
   (oo 26 (.call 159 [((tq 23),0),((tq 25),0)] []),qc [5] []),
   (oo 27 (.call 106 [((tq 19),0),((tq 26),0)] []),q0),
   (oo 28 (.bin .rem (tq 27) (.const (.sc (.int .u64 64)))),q0),
   (oo 29 (.conv .i64 (tq 28)),q0),
   (oo 4 (.move (tq 29) false),q0)])
 .ret))))⟩
def zlh:Hint:=⟨[],[],[none],[],[],false,false⟩
def zh3:Nat→Sh:=xO [(12,(.int .u32)),(15,(.int .u16))]
def zhX (zP:zgH) (yv:zcs) (xQ:zgQ) (yL:zgw) (zj:zai) (L:Nat):CBC:=(xu 294 (zeu zj L) (xu 106 (zlk yL L) (xu 304 (zgU xQ L) (xu 159 (zeL yv L) (xu 110 (zlA zP L) noC)))))
def ziC {β:Type} (zP:zgH) (yv:zcs) (xQ:zgQ) (yL:zgw) (zj:zai) (L:Nat) (p0 p1:List V) (k_fin:Int→Option β):Option β :=
 chk (0+32≤(List.length p0)) (
 zP β L (List.take 32 p0) (fun v0 =>
 chk ((List.length v0)=2∧0+2≤2) (
 lt (xg [(V.sc (.int .u64 (0:Int))),(V.sc (.int .u64 (0:Int)))] 0 v0) fun r1 =>
 chk (0+2≤(List.length r1)) (
 cI .u32 p1 0 fun v2 =>
 yv β L (yk 1 1 [(V.sc (.int .u8 (4:Int)))]) v2 (fun v3 =>
 cI .u16 p1 1 fun v4 =>
 xQ β L v3 v4 (fun v5 =>
 yL β L (List.take 2 r1) v5 (fun v6 =>
 lt (Int.tmod v6 (4:Int)) fun x7 =>
 chk (0+2≤(List.length r1)) (
 chk (0+3≤(List.length p1)) (
 zj β L (List.take 3 p1) (fun v8 =>
 yv β L (yk 1 1 [(V.sc (.int .u8 (3:Int)))]) v8 (fun v9 =>
 lt (IntKind.wrap .u32 x7) fun x10 =>
 yv β L v9 x10 (fun v11 =>
 yL β L (List.take 2 r1) v11 (fun v12 =>
 lt (Int.tmod v12 (64:Int)) fun x13 =>
 lt (IntKind.wrap .i64 x13) fun x14 =>
 k_fin x14)))))))))))))
theorem zs5 {β:Type} (zP:zgH) (yv:zcs) (xQ:zgQ) (yL:zgw) (zj:zai) (L:Nat) (p0 p1:List V) (k:KK β):xr zh3 (zhX zP yv xQ yL zj L) L zeT [(V.agg p0),(V.agg p1)] [] k=ziC zP yv xQ yL zj L p0 p1 (fun p0=>k (V.sc (.int .i64 p0)) []):=by kernel_rfl
abbrev xK:=∀ (β:Type),Nat→List V→List V→(Int→Option β)→Option β
def yf (β:Type) (L:Nat) (p0 p1:List V) (k_fin:Int→Option β):Option β:=ziC zP yv xQ yL zj L p0 p1 k_fin
def zdJ (yf:xK) (L:Nat) (β:Type) (args:List V) (bor:Bor) (k:KK β):Option β:=match args,bor with
 | [a0,a1],[]=>aG a0 fun p0=>aG a1 fun p1=>yf β L p0 p1 (fun p0=>k (V.sc (.int .i64 p0)) [])
 | _,_=>none
theorem zti (L:Nat) (β:Type) (args:List V) (bor:Bor) (k:KK β) (r:β) (h:zdJ yf L β args bor k=some r):xr zh3 (zhX zP yv xQ yL zj L) L zeT args bor k=some r:=by
 unfold zdJ at h
 split at h
 ·have q:=yZ h; clear h; obtain ⟨p0,rfl,h⟩:=q
  have q:=yZ h; clear h; obtain ⟨p1,rfl,h⟩:=q
  exact (zs5 zP yv xQ yL zj L p0 p1 k).trans h
 ·cases h
def zeW:CF:=⟨30,[.tmp 6],
 (.seq (.reg [oo 3 (.box true (tq 0)),
   oo 4 (.box true (tq 1)),
   oo 6 (.move (.const (.sc (.int .i64 0))) false)])
 (.seq (.reg [oo 9 (.load true 32 (tq 3) false),
   oo 10 (.call 110 [((tq 9),0)] []),
   oo 7 (.alloc true [(.sc (.int .u64 0)),(.sc (.int .u64 0))]),
   oz (.store 2 (tq 7) (tq 10))])
 (.seq (.dreg [] [(oo 11 (.load true 2 (tq 7) false),ql 7 [4] [12]),
   (oo 12 (.buildSlice 1 1 [(.sc (.int .u8 0))] [(0,1,(.const (.sc (.int .u8 2))))]),qn [7,4] []),
   (oo 13 (.load true 3 (tq 4) false),ql 4 [7] [12]),
   (oo 14 (.call 294 [((tq 13),0)] []),qc [7] [12]),
   (oo 15 (.call 159 [((tq 12),0),((tq 14),0)] []),qc [7] []),
   (oo 16 (.move (tq 2) false),q0),
   (oo 17 (.call 159 [((tq 15),0),((tq 16),0)] []),qc [7] []),
   (oo 18 (.call 106 [((tq 11),0),((tq 17),0)] []),q0),
   (oo 19 (.bin .rem (tq 18) (.const (.sc (.int .u64 4)))),q0),
   (oo 8 (.move (tq 19) false),q0)])
 (.seq (.dreg [] [(oo 20 (.load true 2 (tq 7) false),ql 7 [] [21]),
   (oo 21 (.buildSlice 1 1 [(.sc (.int .u8 0))] [(0,1,(.const (.sc (.int .u8 1))))]),qn [7] []),
   (oo 22 (.move (tq 2) false),q0),
   (oo 23 (.call 159 [((tq 21),0),((tq 22),0)] []),qc [7] []),
   (oo 24 (.move (tq 8) false),q0),
   (oo 25 (.conv .u32 (tq 24)),q0),
   (oo 26 (.call 159 [((tq 23),0),((tq 25),0)] []),qc [7] []),
   (oo 27 (.call 106 [((tq 20),0),((tq 26),0)] []),q0),
   (oo 28 (.bin .rem (tq 27) (.const (.sc (.int .u64 64)))),q0),
   (oo 29 (.conv .i64 (tq 28)),q0),
   (oo 6 (.move (tq 29) false),q0)])
 .ret))))⟩
def zlq:Hint:=⟨[],[],[none],[],[],false,false⟩
def zhM:Nat→Sh:=xO []
def zhK (zP:zgH) (zj:zai) (yv:zcs) (yL:zgw) (L:Nat):CBC:=(xu 106 (zlk yL L) (xu 159 (zeL yv L) (xu 294 (zeu zj L) (xu 110 (zlA zP L) noC))))
def zit {β:Type} (zP:zgH) (zj:zai) (yv:zcs) (yL:zgw) (L:Nat) (p0 p1:List V) (p2:Int) (k_fin:Int→Option β):Option β :=
 chk (0+32≤(List.length p0)) (
 zP β L (List.take 32 p0) (fun v0 =>
 chk ((List.length v0)=2∧0+2≤2) (
 lt (xg [(V.sc (.int .u64 (0:Int))),(V.sc (.int .u64 (0:Int)))] 0 v0) fun r1 =>
 chk (0+2≤(List.length r1)) (
 chk (0+3≤(List.length p1)) (
 zj β L (List.take 3 p1) (fun v2 =>
 yv β L (yk 1 1 [(V.sc (.int .u8 (2:Int)))]) v2 (fun v3 =>
 yv β L v3 p2 (fun v4 =>
 yL β L (List.take 2 r1) v4 (fun v5 =>
 lt (Int.tmod v5 (4:Int)) fun x6 =>
 chk (0+2≤(List.length r1)) (
 yv β L (yk 1 1 [(V.sc (.int .u8 (1:Int)))]) p2 (fun v7 =>
 lt (IntKind.wrap .u32 x6) fun x8 =>
 yv β L v7 x8 (fun v9 =>
 yL β L (List.take 2 r1) v9 (fun v10 =>
 lt (Int.tmod v10 (64:Int)) fun x11 =>
 lt (IntKind.wrap .i64 x11) fun x12 =>
 k_fin x12)))))))))))))
theorem zsK {β:Type} (zP:zgH) (zj:zai) (yv:zcs) (yL:zgw) (L:Nat) (p0 p1:List V) (p2:Int) (k:KK β):xr zhM (zhK zP zj yv yL L) L zeW [(V.agg p0),(V.agg p1),(V.sc (.int .u32 p2))] [] k=zit zP zj yv yL L p0 p1 p2 (fun p0=>k (V.sc (.int .i64 p0)) []):=by kernel_rfl
abbrev zt:=∀ (β:Type),Nat→List V→List V→Int→(Int→Option β)→Option β
def zb (β:Type) (L:Nat) (p0 p1:List V) (p2:Int) (k_fin:Int→Option β):Option β:=zit zP zj yv yL L p0 p1 p2 k_fin
def zdM (zb:zt) (L:Nat) (β:Type) (args:List V) (bor:Bor) (k:KK β):Option β:=match args,bor with
 | [a0,a1,a2],[]=>aG a0 fun p0=>aG a1 fun p1=>aI .u32 a2 fun p2=>zb β L p0 p1 p2 (fun p0=>k (V.sc (.int .i64 p0)) [])
 | _,_=>none
theorem zsD (L:Nat) (β:Type) (args:List V) (bor:Bor) (k:KK β) (r:β) (h:zdM zb L β args bor k=some r):xr zhM (zhK zP zj yv yL L) L zeW args bor k=some r:=by
 unfold zdM at h
 split at h
 ·have q:=yZ h; clear h; obtain ⟨p0,rfl,h⟩:=q
  have q:=yZ h; clear h; obtain ⟨p1,rfl,h⟩:=q
  have q:=zau h; clear h; obtain ⟨p2,rfl,h⟩:=q
  exact (zsK zP zj yv yL L p0 p1 p2 k).trans h
 ·cases h
def zlG:CF:=⟨17,[.tmp 4],
 (.seq (.reg [oo 2 (.box true (tq 0)),
   oo 3 (.box true (tq 1)),
   oo 4 (.move (.const (.sc (.bool false))) false)])
 (.seq (.reg [oo 5 (.fieldAddr 0 (tq 2)),
   oo 6 (.load false 1 (tq 5) false),
   oo 7 (.fieldAddr 0 (tq 3)),
   oo 8 (.load false 1 (tq 7) false),
   oo 9 (.bin .eql (tq 6) (tq 8)),
   oo 10 (.move (tq 9) false),
   ⟨(some 11),false,(some (10,true)),.fieldAddr 1 (tq 2)⟩,
   ⟨(some 12),false,(some (10,true)),.load false 1 (tq 11) false⟩,
   ⟨(some 13),false,(some (10,true)),.fieldAddr 1 (tq 3)⟩,
   ⟨(some 14),false,(some (10,true)),.load false 1 (tq 13) false⟩,
   ⟨(some 15),false,(some (10,true)),.bin .eql (tq 12) (tq 14)⟩,
   oo 16 (.pick (tq 10) (tq 15) (.const (.sc (.bool false)))),
   oo 4 (.move (tq 16) false)])
 .ret))⟩
def zsw:Hint:=⟨[],[],[none],[],[],false,false⟩
def zpQ:Nat→Sh:=xO [(6,(.int .u32)),(8,(.int .u32)),(12,(.int .u16)),(14,(.int .u16))]
def zpN (L:Nat):CBC:=noC
def zq0 {β:Type} (L:Nat) (p0 p1:List V) (k_fin:Bool→Option β):Option β :=
 cI .u32 p0 0 fun v0 =>
 cI .u32 p1 0 fun v1 =>
 ifb ((v0:Int) == v1) (
 cI .u16 p0 1 fun v2 =>
 cI .u16 p1 1 fun v3 =>
 k_fin ((v2:Int) == v3)) (
 k_fin false)
theorem zAa {β:Type} (L:Nat) (p0 p1:List V) (k:KK β):xr zpQ (zpN L) L zlG [(V.agg p0),(V.agg p1)] [] k=zq0 L p0 p1 (fun p0=>k (V.sc (.bool p0)) []):=by kernel_rfl
abbrev zM:=∀ (β:Type),Nat→List V→List V→(Bool→Option β)→Option β
def yg (β:Type) (L:Nat) (p0 p1:List V) (k_fin:Bool→Option β):Option β:=zq0 L p0 p1 k_fin
def zjG (yg:zM) (L:Nat) (β:Type) (args:List V) (bor:Bor) (k:KK β):Option β:=match args,bor with
 | [a0,a1],[]=>aG a0 fun p0=>aG a1 fun p1=>yg β L p0 p1 (fun p0=>k (V.sc (.bool p0)) [])
 | _,_=>none
theorem zAq (L:Nat) (β:Type) (args:List V) (bor:Bor) (k:KK β) (r:β) (h:zjG yg L β args bor k=some r):xr zpQ (zpN L) L zlG args bor k=some r:=by
 unfold zjG at h
 split at h
 ·have q:=yZ h; clear h; obtain ⟨p0,rfl,h⟩:=q
  have q:=yZ h; clear h; obtain ⟨p1,rfl,h⟩:=q
  exact (zAa L p0 p1 k).trans h
 ·cases h
def zeH:CC:=(.seq (.seq (.reg [oo 6 (.move (tq 5) false),
   oo 7 (.move (tq 0) false),
   oo 8 (.lenS (tq 7)),
   oo 9 (.bin .lss (tq 6) (tq 8))])
 (.cond (tq 9)
 .skip
 (.seq (.mask (bl 0 20) (bl 786119 20))
 (.exit 0))))
 (.seq (.block 1 (.seq (.dreg [] [(oo 12 (.move (tq 0) false),q0),
   (oo 13 (.move (tq 5) false),q0),
   (oo 14 (.indexAddrS 5 (tq 12) (tq 13)),q0),
   (oo 15 (.fieldAddr 1 (tq 14)),q0),
   (oo 16 (.load true 3 (tq 15) false),q1),
   (oo 17 (.load true 3 (tq 3) false),{ q1 with root:=some 3 }),
   (oo 18 (.call 303 [((tq 16),0),((tq 17),0)] []),q0)])
 (.cond (tq 18)
 (.seq (.reg [oo 19 (.move (tq 5) false),
   oo 4 (.move (tq 19) false)])
 (.seq (.mask (bl 16 20) (bl 786135 20))
 .ret))
 .skip)))
 (.reg [oo 10 (.move (tq 5) false),
   oo 11 (.bin .add (tq 10) (.const (.sc (.int .i64 1)))),
   oo 5 (.move (tq 11) false)])))
def zki:CC:=(.seq (.reg [oo 4 (.move (.const (.sc (.int .i64 (-1)))) false)])
 .ret)
def zcT:CF:=⟨20,[.tmp 4],
 (.seq (.reg [oo 3 (.box true (tq 1)),
   oo 4 (.move (.const (.sc (.int .i64 0))) false)])
 (.seq (.seq (.reg [oo 5 (.move (.const (.sc (.int .i64 0))) false)])
 (.block 0 (.loop (bl 41 20) (bl 786159 20)
 zeH)))
 zki))⟩
def zsh:Hint:=⟨[],[],[none,some ((bl 41 20),(bl 786159 20)),none,some ((bl 0 20),(bl 786119 20)),none,none,some ((bl 16 20),(bl 786135 20)),none],[],[],false,false⟩
def zbW:Nat→Sh:=xO []
def zbT (yg:zM) (L:Nat):CBC:=(xu 303 (zjG yg L) noC)
def zh4:St→St:=zac 0 (bl 41 20) (bl 786159 20)
def zfE (p0:List (List V)) (p5:Int) (b3:List V):St:=⟨((V.sl 5 p0)::(jn 2 ((V.ptr 3 0)::(jn 1 ((V.sc (.int .i64 p5))::(jn 14 [])))))),(gn 3 ((.live true b3)::(gn 16 [])))⟩
def zkT (p4:Int):St:=⟨(jn 4 ((V.sc (.int .i64 p4))::(jn 15 []))),(gn 20 [])⟩
def zl7:St:=⟨(jn 20 []),(gn 20 [])⟩
def zrs {β:Type} (yg:zM) (L:Nat) (p0:List (List V)) (p1:List V) (k_hbaba:List (List V)→Int→List V→Option β):Option β :=
 k_hbaba p0 (0:Int) p1
theorem zAL {β:Type} (yg:zM) (L:Nat) (p0:List (List V)) (p1:List V) (k:KK β):xr zbW (zbT yg L) L zcT [(V.sl 5 p0),(V.agg p1)] [] k=zrs yg L p0 p1 (fun p0 p5 b3=>zH (yn zbW (zbT yg L) 0 L zeH) zh4 L (zfE p0 p5 b3) (yH 0 (zV (yn zbW (zbT yg L) 0 L zki) (y6 0 (CF.res zcT) k)))):=by kernel_rfl
def zl6 {β:Type} (yg:zM) (L:Nat) (p0:List (List V)) (p5:Int) (b3:List V) (k_ret:Int→Option β) (k_hbaba:List (List V)→Int→List V→Option β) (k_x0:Option β):Option β :=
 ifb (decide (p5 < ((List.length p0:Nat):Int))) (
 idx p0 p5 fun c0 =>
 chk (0+3≤(List.length b3)) (
 yg β L (List.take 3 (List.drop 1 c0)) (List.take 3 b3) (fun v1 =>
 ifb v1 (
 k_ret p5) (
 lt (IntKind.wrap .i64 ((p5:Int)+(1:Int))) fun x2 =>
 k_hbaba p0 x2 b3)))) (
 k_x0)
theorem zvU {β:Type} (yg:zM) (L:Nat) (p0:List (List V)) (p5:Int) (b3:List V) (X:St→Option β) (K:KT β):yn zbW (zbT yg L) 0 L zeH (zfE p0 p5 b3) (zcC zh4 X K)=zl6 yg L p0 p5 b3 (fun p4=>K .ret (zkT p4)) (fun p0 p5 b3=>X (zfE p0 p5 b3)) (K (.exit 0) (zl7)):=by kernel_rfl
def znY {β:Type} (yg:zM) (L:Nat) (p4:Int) (k_fin:Int→Option β):Option β :=
 k_fin p4
theorem zte {β:Type} (yg:zM) (L:Nat) (p4:Int) (k:KK β):(yH 0 (zV (yn zbW (zbT yg L) 0 L zki) (y6 0 (CF.res zcT) k))) .ret (zkT p4)=znY yg L p4 (fun p0=>k (V.sc (.int .i64 p0)) []):=by kernel_rfl
def zpz {β:Type} (yg:zM) (L:Nat) (k_fin:Int→Option β):Option β :=
 k_fin (-1:Int)
theorem ztl {β:Type} (yg:zM) (L:Nat) (k:KK β):(yH 0 (zV (yn zbW (zbT yg L) 0 L zki) (y6 0 (CF.res zcT) k))) (.exit 0) (zl7)=zpz yg L (fun p0=>k (V.sc (.int .i64 p0)) []):=by kernel_rfl
def ze8 {β:Type} (yg:zM) (L:Nat) (k_ret:Int→Option β) (k_x0:Option β):Nat→List (List V)→Int→List V→Option β
 | 0,_,_,_=>none
 | n+1,p0,p5,b3=>zl6 yg L p0 p5 b3 k_ret (fun p0 p5 b3=>ze8 yg L k_ret k_x0 n p0 p5 b3) k_x0
theorem zn6 {β:Type} (yg:zM) (L:Nat) (K:KT β):∀ (n:Nat) (p0:List (List V)) (p5:Int) (b3:List V),zH (yn zbW (zbT yg L) 0 L zeH) zh4 n (zfE p0 p5 b3) K=ze8 yg L (fun p4=>K .ret (zkT p4)) (K (.exit 0) (zl7)) n p0 p5 b3:=by
 intro n
 induction n with
 | zero=>intros; rfl
 | succ n ih =>
  intro p0 p5 b3
  refine (zvU yg L p0 p5 b3 (fun σ=>zH (yn zbW (zbT yg L) 0 L zeH) zh4 n σ K) K).trans ?_
  simp only [ih]
  rfl
def zni {β:Type} (yg:zM) (L:Nat) (p0:List (List V)) (p1:List V) (k_fin:Int→Option β):Option β :=
 zrs yg L p0 p1 (fun p0 p5 b3=>ze8 yg L (fun p4=>znY yg L p4 k_fin) (zpz yg L k_fin) L p0 p5 b3)
theorem zz8 {β:Type} (yg:zM) (L:Nat) (p0:List (List V)) (p1:List V) (k:KK β):xr zbW (zbT yg L) L zcT [(V.sl 5 p0),(V.agg p1)] [] k=zni yg L p0 p1 (fun p0=>k (V.sc (.int .i64 p0)) []):=by
 refine (zAL yg L p0 p1 k).trans ?_
 unfold zni
 first
  | (simp only [zn6,zte,ztl]; done)
  | (simp only [zn6]; rfl)
abbrev yI:=∀ (β:Type),Nat→List (List V)→List V→(Int→Option β)→Option β
def zd (β:Type) (L:Nat) (p0:List (List V)) (p1:List V) (k_fin:Int→Option β):Option β:=zni yg L p0 p1 k_fin
def zhj (zd:yI) (L:Nat) (β:Type) (args:List V) (bor:Bor) (k:KK β):Option β:=match args,bor with
 | [a0,a1],[]=>aL 5 a0 fun p0=>aG a1 fun p1=>zd β L p0 p1 (fun p0=>k (V.sc (.int .i64 p0)) [])
 | _,_=>none
theorem zAo (L:Nat) (β:Type) (args:List V) (bor:Bor) (k:KK β) (r:β) (h:zhj zd L β args bor k=some r):xr zbW (zbT yg L) L zcT args bor k=some r:=by
 unfold zhj at h
 split at h
 ·have q:=z9 h; clear h; obtain ⟨p0,rfl,h⟩:=q
  have q:=yZ h; clear h; obtain ⟨p1,rfl,h⟩:=q
  exact (zz8 yg L p0 p1 k).trans h
 ·cases h
def zdG:CC:=(.seq (.seq (.reg [oo 12 (.move (tq 7) false),
   oo 13 (.move (tq 1) false),
   oo 14 (.lenS (tq 13)),
   oo 15 (.bin .lss (tq 12) (tq 14))])
 (.cond (tq 15)
 .skip
 (.seq (.mask (bl 0 84) (bl 18133887294219300164845111 84))
 (.exit 0))))
 (.seq (.block 1 (.seq (.dreg [] [(oo 18 (.load true 32 (tq 3) false),{ q1 with root:=some 3 }),
   (oo 19 (.move (tq 1) false),q0),
   (oo 20 (.move (tq 7) false),q0),
   (oo 21 (.indexAddrS 5 (tq 19) (tq 20)),q0),
   (oo 22 (.fieldAddr 1 (tq 21)),q0),
   (oo 23 (.load true 3 (tq 22) false),q1),
   (oo 24 (.call 290 [((tq 18),0),((tq 23),0)] []),q0),
   (oo 8 (.move (tq 24) false),q0)])
 (.seq (.seq (.reg [oo 25 (.move (tq 2) false)])
 (.cond (tq 25)
 (.dreg [] [(oo 26 (.load true 32 (tq 3) false),{ q1 with root:=some 3 }),
   (oo 27 (.move (tq 1) false),q0),
   (oo 28 (.move (tq 7) false),q0),
   (oo 29 (.indexAddrS 5 (tq 27) (tq 28)),q0),
   (oo 30 (.fieldAddr 1 (tq 29)),q0),
   (oo 31 (.load true 3 (tq 30) false),q1),
   (oo 32 (.move (tq 1) false),q0),
   (oo 33 (.move (tq 7) false),q0),
   (oo 34 (.indexAddrS 5 (tq 32) (tq 33)),q0),
   (oo 35 (.fieldAddr 4 (tq 34)),q0),
   (oo 36 (.load false 1 (tq 35) false),q1),
   (oo 37 (.call 305 [((tq 26),0),((tq 31),0),((tq 36),0)] []),q0),
   (oo 8 (.move (tq 37) false),q0)])
 .skip))
 (.seq (.reg [oo 38 (.move (tq 1) false),
   oo 39 (.move (tq 7) false),
   oo 40 (.indexAddrS 5 (tq 38) (tq 39)),
   oo 41 (.fieldAddr 0 (tq 40)),
   oo 42 (.load false 1 (tq 41) false),
   oo 43 (.move (tq 8) false),
   oo 44 (.bin .neq (tq 42) (tq 43)),
   oo 45 (.move (tq 44) false),
   ⟨(some 46),false,(some (45,false)),.move (tq 7) false⟩,
   ⟨(some 47),false,(some (45,false)),.bin .gtr (tq 46) (.const (.sc (.int .i64 0)))⟩,
   ⟨(some 48),false,(some (45,false)),.move (tq 47) false⟩,
   ⟨(some 49),false,(some (48,true)),.move (tq 1) false⟩,
   ⟨(some 50),false,(some (48,true)),.move (tq 7) false⟩,
   ⟨(some 51),false,(some (48,true)),.bin .sub (tq 50) (.const (.sc (.int .i64 1)))⟩,
   ⟨(some 52),false,(some (48,true)),.indexAddrS 5 (tq 49) (tq 51)⟩,
   ⟨(some 53),false,(some (48,true)),.fieldAddr 0 (tq 52)⟩,
   ⟨(some 54),false,(some (48,true)),.load false 1 (tq 53) false⟩,
   ⟨(some 55),false,(some (48,true)),.move (tq 8) false⟩,
   ⟨(some 56),false,(some (48,true)),.bin .gtr (tq 54) (tq 55)⟩,
   ⟨(some 57),false,(some (45,false)),.pick (tq 48) (tq 56) (.const (.sc (.bool false)))⟩,
   oo 58 (.pick (tq 45) (.const (.sc (.bool true))) (tq 57)),
   oo 59 (.move (tq 58) false),
   ⟨(some 60),false,(some (59,false)),.move (tq 7) false⟩,
   ⟨(some 61),false,(some (59,false)),.bin .geq (tq 60) (.const (.sc (.int .i64 8)))⟩,
   ⟨(some 62),false,(some (59,false)),.move (tq 61) false⟩,
   ⟨(some 63),false,(some (62,true)),.move (tq 1) false⟩,
   ⟨(some 64),false,(some (62,true)),.move (tq 7) false⟩,
   ⟨(some 65),false,(some (62,true)),.bin .sub (tq 64) (.const (.sc (.int .i64 8)))⟩,
   ⟨(some 66),false,(some (62,true)),.indexAddrS 5 (tq 63) (tq 65)⟩,
   ⟨(some 67),false,(some (62,true)),.fieldAddr 0 (tq 66)⟩,
   ⟨(some 68),false,(some (62,true)),.load false 1 (tq 67) false⟩,
   ⟨(some 69),false,(some (62,true)),.move (tq 8) false⟩,
   ⟨(some 70),false,(some (62,true)),.bin .eql (tq 68) (tq 69)⟩,
   ⟨(some 71),false,(some (59,false)),.pick (tq 62) (tq 70) (.const (.sc (.bool false)))⟩,
   oo 72 (.pick (tq 59) (.const (.sc (.bool true))) (tq 71)),
   oo 73 (.move (tq 72) false),
   ⟨(some 74),false,(some (73,false)),.move (tq 1) false⟩,
   ⟨(some 75),false,(some (73,false)),.move (tq 1) false⟩,
   ⟨(some 76),false,(some (73,false)),.move (tq 7) false⟩,
   ⟨(some 77),false,(some (73,false)),.indexAddrS 5 (tq 75) (tq 76)⟩,
   ⟨(some 78),false,(some (73,false)),.fieldAddr 1 (tq 77)⟩,
   ⟨(some 79),false,(some (73,false)),.load true 3 (tq 78) false⟩,
   ⟨(some 80),false,(some (73,false)),.call 287 [((tq 74),2),((tq 79),2)] []⟩,
   ⟨(some 81),false,(some (73,false)),.move (tq 7) false⟩,
   ⟨(some 82),false,(some (73,false)),.bin .neq (tq 80) (tq 81)⟩,
   oo 83 (.pick (tq 73) (.const (.sc (.bool true))) (tq 82))])
 (.cond (tq 83)
 (.seq (.reg [oo 6 (.move (.const (.sc (.bool false))) false)])
 (.seq (.mask (bl 64 84) (bl 18133887294219300164845175 84))
 .ret))
 .skip)))))
 (.reg [oo 16 (.move (tq 7) false),
   oo 17 (.bin .add (tq 16) (.const (.sc (.int .i64 1)))),
   oo 7 (.move (tq 17) false)])))
def zhR:CC:=(.seq (.reg [oo 6 (.move (.const (.sc (.bool true))) false)])
 .ret)
def zc8:CF:=⟨84,[.tmp 6],
 (.seq (.reg [oo 3 (.box true (tq 0)),
   oo 6 (.move (.const (.sc (.bool false))) false)])
 (.seq (.seq (.reg [oo 9 (.move (tq 1) false),
   oo 10 (.lenS (tq 9)),
   oo 11 (.bin .gtr (tq 10) (.const (.sc (.int .i64 512))))])
 (.cond (tq 11)
 (.seq (.reg [oo 6 (.move (.const (.sc (.bool false))) false)])
 .ret)
 .skip))
 (.seq (.seq (.reg [oo 7 (.move (.const (.sc (.int .i64 0))) false)])
 (.block 0 (.loop (bl 142 84) (bl 18133887294219300164845247 84)
 zdG)))
 zhR)))⟩
def zrb:Hint:=⟨[(9,42)],[],[none,none,none,some ((bl 142 84),(bl 18133887294219300164845247 84)),none,some ((bl 0 84),(bl 18133887294219300164845111 84)),none,none,none,some ((bl 64 84),(bl 18133887294219300164845175 84)),none],[],[],false,false⟩
def zbq:Nat→Sh:=xO [(36,(.int .u32)),(42,(.int .i64)),(54,(.int .i64)),(68,(.int .i64))]
def zbr (yf:xK) (zb:zt) (zd:yI) (L:Nat):CBC:=(xu 287 (zhj zd L) (xu 305 (zdM zb L) (xu 290 (zdJ yf L) noC)))
def zgt:St→St:=zac 0 (bl 142 84) (bl 18133887294219300164845247 84)
def zei (p1:List (List V)) (p2:Bool) (p7:Int) (b3:List V):St:=⟨(jn 1 ((V.sl 5 p1)::((V.sc (.bool p2))::((V.ptr 3 0)::(jn 3 ((V.sc (.int .i64 p7))::(jn 76 []))))))),(gn 3 ((.live true b3)::(gn 80 [])))⟩
def zj4 (p6:Bool):St:=⟨(jn 6 ((V.sc (.bool p6))::(jn 77 []))),(gn 84 [])⟩
def zkM:St:=⟨(jn 84 []),(gn 84 [])⟩
def zlN {β:Type} (yf:xK) (zb:zt) (zd:yI) (L:Nat) (p0:List V) (p1:List (List V)) (p2:Bool) (k_fin:Bool→Option β) (k_hbbaba:List (List V)→Bool→Int→List V→Option β):Option β :=
 ifb (decide (((List.length p1:Nat):Int) > (512:Int))) (
 k_fin false) (
 k_hbbaba p1 p2 (0:Int) p0)
theorem zzm {β:Type} (yf:xK) (zb:zt) (zd:yI) (L:Nat) (p0:List V) (p1:List (List V)) (p2:Bool) (k:KK β):xr zbq (zbr yf zb zd L) L zc8 [(V.agg p0),(V.sl 5 p1),(V.sc (.bool p2))] [] k=zlN yf zb zd L p0 p1 p2 (fun p0=>k (V.sc (.bool p0)) []) (fun p1 p2 p7 b3=>zH (yn zbq (zbr yf zb zd L) 0 L zdG) zgt L (zei p1 p2 p7 b3) (yH 0 (zV (yn zbq (zbr yf zb zd L) 0 L zhR) (y6 0 (CF.res zc8) k)))):=by kernel_rfl
def zgg {β:Type} (yf:xK) (zb:zt) (zd:yI) (L:Nat) (p1:List (List V)) (p2:Bool) (p7:Int) (b3:List V) (k_ret:Bool→Option β) (k_hbbaba:List (List V)→Bool→Int→List V→Option β) (k_x0:Option β):Option β :=
 ifb (decide (p7 < ((List.length p1:Nat):Int))) (
 chk (0+32≤(List.length b3)) (
 idx p1 p7 fun c0 =>
 yf β L (List.take 32 b3) (List.take 3 (List.drop 1 c0)) (fun v1 =>
 ifb p2 (
 chk (0+32≤(List.length b3)) (
 idx p1 p7 fun c2 =>
 idx p1 p7 fun c3 =>
 cI .u32 (List.drop 4 c3) 0 fun v4 =>
 zb β L (List.take 32 b3) (List.take 3 (List.drop 1 c2)) v4 (fun v5 =>
 idx p1 p7 fun c6 =>
 cI .i64 c6 0 fun v7 =>
 ifb ((v7:Int) != v5) (
 k_ret false) (
 ifb (decide (p7 > (0:Int))) (
 lt (IntKind.wrap .i64 ((p7:Int) - (1:Int))) fun x8 =>
 idx p1 x8 fun c9 =>
 cI .i64 c9 0 fun v10 =>
 ifb (decide (v10 > v5)) (
 k_ret false) (
 ifb (decide (p7 ≥ (8:Int))) (
 lt (IntKind.wrap .i64 ((p7:Int) - (8:Int))) fun x11 =>
 idx p1 x11 fun c12 =>
 cI .i64 c12 0 fun v13 =>
 ifb ((v13:Int) == v5) (
 k_ret false) (
 idx p1 p7 fun c14 =>
 zd β L p1 (List.take 3 (List.drop 1 c14)) (fun v15 =>
 ifb ((v15:Int) != p7) (
 k_ret false) (
 lt (IntKind.wrap .i64 ((p7:Int)+(1:Int))) fun x16 =>
 k_hbbaba p1 p2 x16 b3)))) (
 idx p1 p7 fun c17 =>
 zd β L p1 (List.take 3 (List.drop 1 c17)) (fun v18 =>
 ifb ((v18:Int) != p7) (
 k_ret false) (
 lt (IntKind.wrap .i64 ((p7:Int)+(1:Int))) fun x19 =>
 k_hbbaba p1 p2 x19 b3))))) (
 ifb (decide (p7 ≥ (8:Int))) (
 lt (IntKind.wrap .i64 ((p7:Int) - (8:Int))) fun x20 =>
 idx p1 x20 fun c21 =>
 cI .i64 c21 0 fun v22 =>
 ifb ((v22:Int) == v5) (
 k_ret false) (
 idx p1 p7 fun c23 =>
 zd β L p1 (List.take 3 (List.drop 1 c23)) (fun v24 =>
 ifb ((v24:Int) != p7) (
 k_ret false) (
 lt (IntKind.wrap .i64 ((p7:Int)+(1:Int))) fun x25 =>
 k_hbbaba p1 p2 x25 b3)))) (
 idx p1 p7 fun c26 =>
 zd β L p1 (List.take 3 (List.drop 1 c26)) (fun v27 =>
 ifb ((v27:Int) != p7) (
 k_ret false) (
 lt (IntKind.wrap .i64 ((p7:Int)+(1:Int))) fun x28 =>
 k_hbbaba p1 p2 x28 b3)))))))) (
 idx p1 p7 fun c29 =>
 cI .i64 c29 0 fun v30 =>
 ifb ((v30:Int) != v1) (
 k_ret false) (
 ifb (decide (p7 > (0:Int))) (
 lt (IntKind.wrap .i64 ((p7:Int) - (1:Int))) fun x31 =>
 idx p1 x31 fun c32 =>
 cI .i64 c32 0 fun v33 =>
 ifb (decide (v33 > v1)) (
 k_ret false) (
 ifb (decide (p7 ≥ (8:Int))) (
 lt (IntKind.wrap .i64 ((p7:Int) - (8:Int))) fun x34 =>
 idx p1 x34 fun c35 =>
 cI .i64 c35 0 fun v36 =>
 ifb ((v36:Int) == v1) (
 k_ret false) (
 idx p1 p7 fun c37 =>
 zd β L p1 (List.take 3 (List.drop 1 c37)) (fun v38 =>
 ifb ((v38:Int) != p7) (
 k_ret false) (
 lt (IntKind.wrap .i64 ((p7:Int)+(1:Int))) fun x39 =>
 k_hbbaba p1 p2 x39 b3)))) (
 idx p1 p7 fun c40 =>
 zd β L p1 (List.take 3 (List.drop 1 c40)) (fun v41 =>
 ifb ((v41:Int) != p7) (
 k_ret false) (
 lt (IntKind.wrap .i64 ((p7:Int)+(1:Int))) fun x42 =>
 k_hbbaba p1 p2 x42 b3))))) (
 ifb (decide (p7 ≥ (8:Int))) (
 lt (IntKind.wrap .i64 ((p7:Int) - (8:Int))) fun x43 =>
 idx p1 x43 fun c44 =>
 cI .i64 c44 0 fun v45 =>
 ifb ((v45:Int) == v1) (
 k_ret false) (
 idx p1 p7 fun c46 =>
 zd β L p1 (List.take 3 (List.drop 1 c46)) (fun v47 =>
 ifb ((v47:Int) != p7) (
 k_ret false) (
 lt (IntKind.wrap .i64 ((p7:Int)+(1:Int))) fun x48 =>
 k_hbbaba p1 p2 x48 b3)))) (
 idx p1 p7 fun c49 =>
 zd β L p1 (List.take 3 (List.drop 1 c49)) (fun v50 =>
 ifb ((v50:Int) != p7) (
 k_ret false) (
 lt (IntKind.wrap .i64 ((p7:Int)+(1:Int))) fun x51 =>
 k_hbbaba p1 p2 x51 b3))))))))) (
 k_x0)
theorem ztY {β:Type} (yf:xK) (zb:zt) (zd:yI) (L:Nat) (p1:List (List V)) (p2:Bool) (p7:Int) (b3:List V) (X:St→Option β) (K:KT β):yn zbq (zbr yf zb zd L) 0 L zdG (zei p1 p2 p7 b3) (zcC zgt X K)=zgg yf zb zd L p1 p2 p7 b3 (fun p6=>K .ret (zj4 p6)) (fun p1 p2 p7 b3=>X (zei p1 p2 p7 b3)) (K (.exit 0) (zkM)):=by kernel_rfl
def zmp {β:Type} (yf:xK) (zb:zt) (zd:yI) (L:Nat) (p6:Bool) (k_fin:Bool→Option β):Option β :=
 k_fin p6
theorem zri {β:Type} (yf:xK) (zb:zt) (zd:yI) (L:Nat) (p6:Bool) (k:KK β):(yH 0 (zV (yn zbq (zbr yf zb zd L) 0 L zhR) (y6 0 (CF.res zc8) k))) .ret (zj4 p6)=zmp yf zb zd L p6 (fun p0=>k (V.sc (.bool p0)) []):=by kernel_rfl
def znE {β:Type} (yf:xK) (zb:zt) (zd:yI) (L:Nat) (k_fin:Bool→Option β):Option β :=
 k_fin true
theorem zrY {β:Type} (yf:xK) (zb:zt) (zd:yI) (L:Nat) (k:KK β):(yH 0 (zV (yn zbq (zbr yf zb zd L) 0 L zhR) (y6 0 (CF.res zc8) k))) (.exit 0) (zkM)=znE yf zb zd L (fun p0=>k (V.sc (.bool p0)) []):=by kernel_rfl
def zbc {β:Type} (yf:xK) (zb:zt) (zd:yI) (L:Nat) (k_ret:Bool→Option β) (k_x0:Option β):Nat→List (List V)→Bool→Int→List V→Option β
 | 0,_,_,_,_=>none
 | n+1,p1,p2,p7,b3=>zgg yf zb zd L p1 p2 p7 b3 k_ret (fun p1 p2 p7 b3=>zbc yf zb zd L k_ret k_x0 n p1 p2 p7 b3) k_x0
theorem zmh {β:Type} (yf:xK) (zb:zt) (zd:yI) (L:Nat) (K:KT β):∀ (n:Nat) (p1:List (List V)) (p2:Bool) (p7:Int) (b3:List V),zH (yn zbq (zbr yf zb zd L) 0 L zdG) zgt n (zei p1 p2 p7 b3) K=zbc yf zb zd L (fun p6=>K .ret (zj4 p6)) (K (.exit 0) (zkM)) n p1 p2 p7 b3:=by
 intro n
 induction n with
 | zero=>intros; rfl
 | succ n ih =>
  intro p1 p2 p7 b3
  refine (ztY yf zb zd L p1 p2 p7 b3 (fun σ=>zH (yn zbq (zbr yf zb zd L) 0 L zdG) zgt n σ K) K).trans ?_
  simp only [ih]
  rfl
def zii {β:Type} (yf:xK) (zb:zt) (zd:yI) (L:Nat) (p0:List V) (p1:List (List V)) (p2:Bool) (k_fin:Bool→Option β):Option β :=
 zlN yf zb zd L p0 p1 p2 k_fin (fun p1 p2 p7 b3=>zbc yf zb zd L (fun p6=>zmp yf zb zd L p6 k_fin) (znE yf zb zd L k_fin) L p1 p2 p7 b3)
theorem zzs {β:Type} (yf:xK) (zb:zt) (zd:yI) (L:Nat) (p0:List V) (p1:List (List V)) (p2:Bool) (k:KK β):xr zbq (zbr yf zb zd L) L zc8 [(V.agg p0),(V.sl 5 p1),(V.sc (.bool p2))] [] k=zii yf zb zd L p0 p1 p2 (fun p0=>k (V.sc (.bool p0)) []):=by
 refine (zzm yf zb zd L p0 p1 p2 k).trans ?_
 unfold zii
 first
  | (simp only [zmh,zri,zrY]; done)
  | (simp only [zmh]; rfl)
abbrev zaS:=∀ (β:Type),Nat→List V→List (List V)→Bool→(Bool→Option β)→Option β
def yo (β:Type) (L:Nat) (p0:List V) (p1:List (List V)) (p2:Bool) (k_fin:Bool→Option β):Option β:=zii yf zb zd L p0 p1 p2 k_fin
def zlO (yo:zaS) (L:Nat) (β:Type) (args:List V) (bor:Bor) (k:KK β):Option β:=match args,bor with
 | [a0,a1,a2],[]=>aG a0 fun p0=>aL 5 a1 fun p1=>aB a2 fun p2=>yo β L p0 p1 p2 (fun p0=>k (V.sc (.bool p0)) [])
 | _,_=>none
theorem zzn (L:Nat) (β:Type) (args:List V) (bor:Bor) (k:KK β) (r:β) (h:zlO yo L β args bor k=some r):xr zbq (zbr yf zb zd L) L zc8 args bor k=some r:=by
 unfold zlO at h
 split at h
 ·have q:=yZ h; clear h; obtain ⟨p0,rfl,h⟩:=q
  have q:=z9 h; clear h; obtain ⟨p1,rfl,h⟩:=q
  have q:=zub h; clear h; obtain ⟨p2,rfl,h⟩:=q
  exact (zzs yf zb zd L p0 p1 p2 k).trans h
 ·cases h
def zdI:CC:=(.seq (.seq (.reg [oo 18 (.move (tq 3) false),
   oo 19 (.fieldAddr 32 (tq 1)),
   oo 20 (.load false 1 (tq 19) false),
   oo 21 (.lenS (tq 20)),
   oo 22 (.bin .lss (tq 18) (tq 21))])
 (.cond (tq 22)
 .skip
 (.seq (.mask (bl 0 35) (bl 25767706609 35))
 (.exit 0))))
 (.seq (.block 1 (.seq (.dreg [] [(oo 25 (.fieldAddr 33 (tq 1)),q0),
   (oo 26 (.load false 1 (tq 25) false),{ q1 with root:=some 1 }),
   (oo 27 (.fieldAddr 32 (tq 1)),q0),
   (oo 28 (.load false 1 (tq 27) false),{ q1 with root:=some 1 }),
   (oo 29 (.move (tq 3) false),q0),
   (oo 30 (.indexAddrS 5 (tq 28) (tq 29)),q0),
   (oo 31 (.fieldAddr 1 (tq 30)),q0),
   (oo 32 (.load true 3 (tq 31) false),q1),
   (oo 33 (.call 287 [((tq 26),2),((tq 32),2)] []),q0),
   (oo 34 (.bin .geq (tq 33) (.const (.sc (.int .i64 0)))),q0)])
 (.cond (tq 34)
 (.seq (.reg [oo 2 (.move (.const (.sc (.bool false))) false)])
 (.seq (.mask (bl 4 35) (bl 25767706613 35))
 .ret))
 .skip)))
 (.reg [oo 23 (.move (tq 3) false),
   oo 24 (.bin .add (tq 23) (.const (.sc (.int .i64 1)))),
   oo 3 (.move (tq 24) false)])))
def zh9:CC:=(.seq (.reg [oo 2 (.move (.const (.sc (.bool true))) false)])
 .ret)
def zc4:CF:=⟨35,[.tmp 2],
 (.seq (.reg [oo 1 (.box true (tq 0)),
   oo 2 (.move (.const (.sc (.bool false))) false)])
 (.seq (.seq (.reg [oo 4 (.fieldAddr 0 (tq 1)),
   oo 5 (.load true 32 (tq 4) false),
   oo 6 (.fieldAddr 32 (tq 1)),
   oo 7 (.load false 1 (tq 6) false),
   oo 8 (.call 302 [((tq 5),0),((tq 7),0),((.const (.sc (.bool true))),0)] []),
   oo 9 (.un .not (tq 8)),
   oo 10 (.move (tq 9) false),
   ⟨(some 11),false,(some (10,false)),.fieldAddr 0 (tq 1)⟩,
   ⟨(some 12),false,(some (10,false)),.load true 32 (tq 11) false⟩,
   ⟨(some 13),false,(some (10,false)),.fieldAddr 33 (tq 1)⟩,
   ⟨(some 14),false,(some (10,false)),.load false 1 (tq 13) false⟩,
   ⟨(some 15),false,(some (10,false)),.call 302 [((tq 12),0),((tq 14),0),((.const (.sc (.bool false))),0)] []⟩,
   ⟨(some 16),false,(some (10,false)),.un .not (tq 15)⟩,
   oo 17 (.pick (tq 10) (.const (.sc (.bool true))) (tq 16))])
 (.cond (tq 17)
 (.seq (.reg [oo 2 (.move (.const (.sc (.bool false))) false)])
 .ret)
 .skip))
 (.seq (.seq (.reg [oo 3 (.move (.const (.sc (.int .i64 0))) false)])
 (.block 0 (.loop (bl 10 35) (bl 25767706619 35)
 zdI)))
 zh9)))⟩
def zrP:Hint:=⟨[(0,0),(6,8)],[],[none,none,none,some ((bl 10 35),(bl 25767706619 35)),none,some ((bl 0 35),(bl 25767706609 35)),none,none,some ((bl 4 35),(bl 25767706613 35)),none],[],[],false,false⟩
def zbv:Nat→Sh:=xO [(7,(.sl 5)),(14,(.sl 5)),(20,(.sl 5)),(26,(.sl 5)),(28,(.sl 5))]
def zbz (yo:zaS) (zd:yI) (L:Nat):CBC:=(xu 287 (zhj zd L) (xu 302 (zlO yo L) noC))
def zgh:St→St:=zac 0 (bl 10 35) (bl 25767706619 35)
def zem (p3:Int) (b1:List V):St:=⟨(jn 1 ((V.ptr 1 0)::(jn 1 ((V.sc (.int .i64 p3))::(jn 31 []))))),(gn 1 ((.live true b1)::(gn 33 [])))⟩
def zjW (p2:Bool):St:=⟨(jn 2 ((V.sc (.bool p2))::(jn 32 []))),(gn 35 [])⟩
def zk9:St:=⟨(jn 35 []),(gn 35 [])⟩
def zpT {β:Type} (yo:zaS) (zd:yI) (L:Nat) (p0:List V) (k_fin:Bool→Option β) (k_hbbaba:Int→List V→Option β):Option β :=
 chk (0+32≤(List.length p0)) (
 cLd 5 p0 32 fun v0 =>
 yo β L (List.take 32 p0) v0 true (fun v1 =>
 ifb (!v1) (
 k_fin false) (
 chk (0+32≤(List.length p0)) (
 cLd 5 p0 33 fun v2 =>
 yo β L (List.take 32 p0) v2 false (fun v3 =>
 ifb (!v3) (
 k_fin false) (
 k_hbbaba (0:Int) p0))))))
theorem zzo {β:Type} (yo:zaS) (zd:yI) (L:Nat) (p0:List V) (k:KK β):xr zbv (zbz yo zd L) L zc4 [(V.agg p0)] [] k=zpT yo zd L p0 (fun p0=>k (V.sc (.bool p0)) []) (fun p3 b1=>zH (yn zbv (zbz yo zd L) 0 L zdI) zgh L (zem p3 b1) (yH 0 (zV (yn zbv (zbz yo zd L) 0 L zh9) (y6 0 (CF.res zc4) k)))):=by kernel_rfl
def zjD {β:Type} (yo:zaS) (zd:yI) (L:Nat) (p3:Int) (b1:List V) (k_ret:Bool→Option β) (k_hbbaba:Int→List V→Option β) (k_x0:Option β):Option β :=
 cLd 5 b1 32 fun v4 =>
 ifb (decide (p3 < ((List.length v4:Nat):Int))) (
 cLd 5 b1 33 fun v5 =>
 cLd 5 b1 32 fun v6 =>
 idx v6 p3 fun c7 =>
 zd β L v5 (List.take 3 (List.drop 1 c7)) (fun v8 =>
 ifb (decide (v8 ≥ (0:Int))) (
 k_ret false) (
 lt (IntKind.wrap .i64 ((p3:Int)+(1:Int))) fun x9 =>
 k_hbbaba x9 b1))) (
 k_x0)
theorem zt3 {β:Type} (yo:zaS) (zd:yI) (L:Nat) (p3:Int) (b1:List V) (X:St→Option β) (K:KT β):yn zbv (zbz yo zd L) 0 L zdI (zem p3 b1) (zcC zgh X K)=zjD yo zd L p3 b1 (fun p2=>K .ret (zjW p2)) (fun p3 b1=>X (zem p3 b1)) (K (.exit 0) (zk9)):=by kernel_rfl
def zmk {β:Type} (yo:zaS) (zd:yI) (L:Nat) (p2:Bool) (k_fin:Bool→Option β):Option β :=
 k_fin p2
theorem zrG {β:Type} (yo:zaS) (zd:yI) (L:Nat) (p2:Bool) (k:KK β):(yH 0 (zV (yn zbv (zbz yo zd L) 0 L zh9) (y6 0 (CF.res zc4) k))) .ret (zjW p2)=zmk yo zd L p2 (fun p0=>k (V.sc (.bool p0)) []):=by kernel_rfl
def zmI {β:Type} (yo:zaS) (zd:yI) (L:Nat) (k_fin:Bool→Option β):Option β :=
 k_fin true
theorem zr5 {β:Type} (yo:zaS) (zd:yI) (L:Nat) (k:KK β):(yH 0 (zV (yn zbv (zbz yo zd L) 0 L zh9) (y6 0 (CF.res zc4) k))) (.exit 0) (zk9)=zmI yo zd L (fun p0=>k (V.sc (.bool p0)) []):=by kernel_rfl
def zeh {β:Type} (yo:zaS) (zd:yI) (L:Nat) (k_ret:Bool→Option β) (k_x0:Option β):Nat→Int→List V→Option β
 | 0,_,_=>none
 | n+1,p3,b1=>zjD yo zd L p3 b1 k_ret (fun p3 b1=>zeh yo zd L k_ret k_x0 n p3 b1) k_x0
theorem zmw {β:Type} (yo:zaS) (zd:yI) (L:Nat) (K:KT β):∀ (n:Nat) (p3:Int) (b1:List V),zH (yn zbv (zbz yo zd L) 0 L zdI) zgh n (zem p3 b1) K=zeh yo zd L (fun p2=>K .ret (zjW p2)) (K (.exit 0) (zk9)) n p3 b1:=by
 intro n
 induction n with
 | zero=>intros; rfl
 | succ n ih =>
  intro p3 b1
  refine (zt3 yo zd L p3 b1 (fun σ=>zH (yn zbv (zbz yo zd L) 0 L zdI) zgh n σ K) K).trans ?_
  simp only [ih]
  rfl
def zlK {β:Type} (yo:zaS) (zd:yI) (L:Nat) (p0:List V) (k_fin:Bool→Option β):Option β :=
 zpT yo zd L p0 k_fin (fun p3 b1=>zeh yo zd L (fun p2=>zmk yo zd L p2 k_fin) (zmI yo zd L k_fin) L p3 b1)
theorem zyN {β:Type} (yo:zaS) (zd:yI) (L:Nat) (p0:List V) (k:KK β):xr zbv (zbz yo zd L) L zc4 [(V.agg p0)] [] k=zlK yo zd L p0 (fun p0=>k (V.sc (.bool p0)) []):=by
 refine (zzo yo zd L p0 k).trans ?_
 unfold zlK
 first
  | (simp only [zmw,zrG,zr5]; done)
  | (simp only [zmw]; rfl)
abbrev zaR:=∀ (β:Type),Nat→List V→(Bool→Option β)→Option β
def yu (β:Type) (L:Nat) (p0:List V) (k_fin:Bool→Option β):Option β:=zlK yo zd L p0 k_fin
def zfX (yu:zaR) (L:Nat) (β:Type) (args:List V) (bor:Bor) (k:KK β):Option β:=match args,bor with
 | [a0],[]=>aG a0 fun p0=>yu β L p0 (fun p0=>k (V.sc (.bool p0)) [])
 | _,_=>none
theorem zyO (L:Nat) (β:Type) (args:List V) (bor:Bor) (k:KK β) (r:β) (h:zfX yu L β args bor k=some r):xr zbv (zbz yo zd L) L zc4 args bor k=some r:=by
 unfold zfX at h
 split at h
 ·have q:=yZ h; clear h; obtain ⟨p0,rfl,h⟩:=q
  exact (zyN yo zd L p0 k).trans h
 ·cases h
def zi2:CF:=⟨14,[.cellS 2 34 false],
 (.seq (.reg [oo 1 (.box false (tq 0)),
   oo 2 (.alloc false (rp 32 (.sc (.int .u8 0)) (rp 2 (.gs 5 []) [])))])
 (.seq (.dreg [] [(oo 3 (.fieldAddr 0 (tq 1)),q0),
   (oo 4 (.load true 32 (tq 3) false),ql 1 [] [5,8,9,12]),
   (⟨(some 5),true,none,.buildSlice 5 0 [(.sc (.int .i64 0)),(.sc (.int .u32 0)),(.sc (.int .u16 0)),(.sc (.int .u32 0)),(.sc (.int .u32 0))] []⟩,qn [1] [9]),
   (oo 6 (.fieldAddr 32 (tq 1)),q0),
   (oo 7 (.load false 1 (tq 6) false),ql 1 [] [5,9]),
   (⟨(some 8),true,none,.append 5 24 (tq 5) (tq 7)⟩,qn [1] [9]),
   (⟨(some 9),true,none,.buildSlice 5 0 [(.sc (.int .i64 0)),(.sc (.int .u32 0)),(.sc (.int .u16 0)),(.sc (.int .u32 0)),(.sc (.int .u32 0))] []⟩,qn [1] [5,8]),
   (oo 10 (.fieldAddr 33 (tq 1)),q0),
   (oo 11 (.load false 1 (tq 10) false),ql 1 [] [5,8,9]),
   (⟨(some 12),true,none,.append 5 24 (tq 9) (tq 11)⟩,qn [1] []),
   (oo 13 (.buildSt (rp 32 (.sc (.int .u8 0)) (rp 2 (.sl 5 []) [])) [(0,32,(tq 4)),(32,1,(tq 8)),(33,1,(tq 12))]),q0),
   (oz (.store 34 (tq 2) (tq 13)),q0)])
 .ret))⟩
def zp0:Hint:=⟨[(1,10)],[(1,2),(1,5),(1,6),(1,9)],[none],[],[],false,true⟩
def znz:Nat→Sh:=xO [(1,(.row [(.int .u8),(.int .u8),(.int .u8),(.int .u8),(.int .u8),(.int .u8),(.int .u8),(.int .u8),(.int .u8),(.int .u8),(.int .u8),(.int .u8),(.int .u8),(.int .u8),(.int .u8),(.int .u8),(.int .u8),(.int .u8),(.int .u8),(.int .u8),(.int .u8),(.int .u8),(.int .u8),(.int .u8),(.int .u8),(.int .u8),(.int .u8),(.int .u8),(.int .u8),(.int .u8),(.int .u8),(.int .u8),(.sl 5),(.sl 5)]))]
def znB (L:Nat):CBC:=noC
abbrev zkQ (β:Type):Type:=Int→Int→Int→Int→Int→Int→Int→Int→Int→Int→Int→Int→Int→Int→Int→Int→Int→Int→Int→Int→Int→Int→Int→Int→Int→Int→Int→Int→Int→Int→Int→Int→Nat→Nat→List V→List V→Option β
def zom {β:Type} (L:Nat) (p0:List V) (k_fin:zkQ β):Option β :=
 chk (List.length p0=34) (
 cI .u8 p0 0 fun v0 =>
 cI .u8 p0 1 fun v1 =>
 cI .u8 p0 2 fun v2 =>
 cI .u8 p0 3 fun v3 =>
 cI .u8 p0 4 fun v4 =>
 cI .u8 p0 5 fun v5 =>
 cI .u8 p0 6 fun v6 =>
 cI .u8 p0 7 fun v7 =>
 cI .u8 p0 8 fun v8 =>
 cI .u8 p0 9 fun v9 =>
 cI .u8 p0 10 fun v10 =>
 cI .u8 p0 11 fun v11 =>
 cI .u8 p0 12 fun v12 =>
 cI .u8 p0 13 fun v13 =>
 cI .u8 p0 14 fun v14 =>
 cI .u8 p0 15 fun v15 =>
 cI .u8 p0 16 fun v16 =>
 cI .u8 p0 17 fun v17 =>
 cI .u8 p0 18 fun v18 =>
 cI .u8 p0 19 fun v19 =>
 cI .u8 p0 20 fun v20 =>
 cI .u8 p0 21 fun v21 =>
 cI .u8 p0 22 fun v22 =>
 cI .u8 p0 23 fun v23 =>
 cI .u8 p0 24 fun v24 =>
 cI .u8 p0 25 fun v25 =>
 cI .u8 p0 26 fun v26 =>
 cI .u8 p0 27 fun v27 =>
 cI .u8 p0 28 fun v28 =>
 cI .u8 p0 29 fun v29 =>
 cI .u8 p0 30 fun v30 =>
 cI .u8 p0 31 fun v31 =>
 cL 5 p0 32 fun v32 =>
 cL 5 p0 33 fun v33 =>
 chk ((0+List.length v32) * 24≤yr∧0+List.length v32≤yr) (
 chk ((0+List.length v33) * 24≤yr∧0+List.length v33≤yr) (
 k_fin v0 v1 v2 v3 v4 v5 v6 v7 v8 v9 v10 v11 v12 v13 v14 v15 v16 v17 v18 v19 v20 v21 v22 v23 v24 v25 v26 v27 v28 v29 v30 v31 (List.length v32) (List.length v33) (List.flatten v32) (List.flatten v33))))
theorem zxT {β:Type} (L:Nat) (p0:List V) (k:KK β):xr znz (znB L) L zi2 [(V.agg p0)] [] k=zom L p0 (fun zLN zLO zL9 zMD zME zMF zMG zMH zMI zMJ zMf zMg zMh zMi zMj zMk zMl zMm zMn zMo zMp zMq zMr zMs zMt zMu zMv zMw zMx zMy zMz zMA zMc zMd b0 b1=>k (V.st [(V.sc (.int .u8 zLN)),(V.sc (.int .u8 zLO)),(V.sc (.int .u8 zL9)),(V.sc (.int .u8 zMD)),(V.sc (.int .u8 zME)),(V.sc (.int .u8 zMF)),(V.sc (.int .u8 zMG)),(V.sc (.int .u8 zMH)),(V.sc (.int .u8 zMI)),(V.sc (.int .u8 zMJ)),(V.sc (.int .u8 zMf)),(V.sc (.int .u8 zMg)),(V.sc (.int .u8 zMh)),(V.sc (.int .u8 zMi)),(V.sc (.int .u8 zMj)),(V.sc (.int .u8 zMk)),(V.sc (.int .u8 zMl)),(V.sc (.int .u8 zMm)),(V.sc (.int .u8 zMn)),(V.sc (.int .u8 zMo)),(V.sc (.int .u8 zMp)),(V.sc (.int .u8 zMq)),(V.sc (.int .u8 zMr)),(V.sc (.int .u8 zMs)),(V.sc (.int .u8 zMt)),(V.sc (.int .u8 zMu)),(V.sc (.int .u8 zMv)),(V.sc (.int .u8 zMw)),(V.sc (.int .u8 zMx)),(V.sc (.int .u8 zMy)),(V.sc (.int .u8 zMz)),(V.sc (.int .u8 zMA)),(V.own 0 0 zMc 5),(V.own 1 0 zMd 5)]) [(.live true b0),(.live true b1)]):=by kernel_rfl
abbrev xP:=∀ (β:Type),Nat→List V→(Int→Int→Int→Int→Int→Int→Int→Int→Int→Int→Int→Int→Int→Int→Int→Int→Int→Int→Int→Int→Int→Int→Int→Int→Int→Int→Int→Int→Int→Int→Int→Int→Nat→Nat→List V→List V→Option β)→Option β
def zg (β:Type) (L:Nat) (p0:List V) (k_fin:zkQ β):Option β:=zom L p0 k_fin
def zhc (zg:xP) (L:Nat) (β:Type) (args:List V) (bor:Bor) (k:KK β):Option β:=match args,bor with
 | [a0],[]=>aG a0 fun p0=>zg β L p0 (fun zLN zLO zL9 zMD zME zMF zMG zMH zMI zMJ zMf zMg zMh zMi zMj zMk zMl zMm zMn zMo zMp zMq zMr zMs zMt zMu zMv zMw zMx zMy zMz zMA zMc zMd b0 b1=>k (V.st [(V.sc (.int .u8 zLN)),(V.sc (.int .u8 zLO)),(V.sc (.int .u8 zL9)),(V.sc (.int .u8 zMD)),(V.sc (.int .u8 zME)),(V.sc (.int .u8 zMF)),(V.sc (.int .u8 zMG)),(V.sc (.int .u8 zMH)),(V.sc (.int .u8 zMI)),(V.sc (.int .u8 zMJ)),(V.sc (.int .u8 zMf)),(V.sc (.int .u8 zMg)),(V.sc (.int .u8 zMh)),(V.sc (.int .u8 zMi)),(V.sc (.int .u8 zMj)),(V.sc (.int .u8 zMk)),(V.sc (.int .u8 zMl)),(V.sc (.int .u8 zMm)),(V.sc (.int .u8 zMn)),(V.sc (.int .u8 zMo)),(V.sc (.int .u8 zMp)),(V.sc (.int .u8 zMq)),(V.sc (.int .u8 zMr)),(V.sc (.int .u8 zMs)),(V.sc (.int .u8 zMt)),(V.sc (.int .u8 zMu)),(V.sc (.int .u8 zMv)),(V.sc (.int .u8 zMw)),(V.sc (.int .u8 zMx)),(V.sc (.int .u8 zMy)),(V.sc (.int .u8 zMz)),(V.sc (.int .u8 zMA)),(V.own 0 0 zMc 5),(V.own 1 0 zMd 5)]) [(.live true b0),(.live true b1)])
 | _,_=>none
theorem zxY (L:Nat) (β:Type) (args:List V) (bor:Bor) (k:KK β) (r:β) (h:zhc zg L β args bor k=some r):xr znz (znB L) L zi2 args bor k=some r:=by
 unfold zhc at h
 split at h
 ·have q:=yZ h; clear h; obtain ⟨p0,rfl,h⟩:=q
  exact (zxT L p0 k).trans h
 ·cases h
def ziO:CF:=⟨15,[.tmp 4],
 (.seq (.reg [oo 4 (.move (.const (.gs 5 [])) true)])
 (.seq (.dreg [] [(oo 5 (.buildSlice 5 0 [(.sc (.int .i64 0)),(.sc (.int .u32 0)),(.sc (.int .u16 0)),(.sc (.int .u32 0)),(.sc (.int .u32 0))] []),q0),
   (oo 6 (.move (tq 0) false),q0),
   (oo 7 (.move (tq 1) false),q0),
   (oo 8 (.sliceS 5 (tq 6) none (some (tq 7)) none),q0),
   (oo 9 (.append 5 24 (tq 5) (tq 8)),q0),
   (oo 10 (.move (tq 0) false),q0),
   (oo 11 (.move (tq 1) false),q0),
   (oo 12 (.bin .add (tq 11) (.const (.sc (.int .i64 1)))),q0),
   (oo 13 (.sliceS 5 (tq 10) (some (tq 12)) none none),q0),
   (oo 14 (.append 5 24 (tq 9) (tq 13)),q0),
   (oo 4 (.move (tq 14) true),q0)])
 .ret))⟩
def zp4:Hint:=⟨[(0,0),(1,10)],[],[none],[],[],false,false⟩
def zm4:Nat→Sh:=xO []
def zmQ (L:Nat):CBC:=noC
def zow {β:Type} (L:Nat) (p0:List (List V)) (p1:Int) (k_fin:List (List V)→Option β):Option β :=
 chk (0≤p1∧p1≤(((List.length p0):Nat):Int)) (
 chk ((List.length ([]:List (List V))+List.length (List.take ((Int.toNat p1) - 0) (List.drop 0 p0))) * 24≤yr∧List.length ([]:List (List V))+List.length (List.take ((Int.toNat p1) - 0) (List.drop 0 p0))≤yr) (
 lt (([]:List (List V))++(List.take ((Int.toNat p1) - 0) (List.drop 0 p0))) fun l0 =>
 lt (IntKind.wrap .i64 ((p1:Int)+(1:Int))) fun x1 =>
 chk (0≤x1∧x1≤(((List.length p0):Nat):Int)) (
 chk ((List.length l0+List.length (List.take ((List.length p0) - (Int.toNat x1)) (List.drop (Int.toNat x1) p0))) * 24≤yr∧List.length l0+List.length (List.take ((List.length p0) - (Int.toNat x1)) (List.drop (Int.toNat x1) p0))≤yr) (
 lt (l0++(List.take ((List.length p0) - (Int.toNat x1)) (List.drop (Int.toNat x1) p0))) fun l2 =>
 k_fin l2))))
theorem zyh {β:Type} (L:Nat) (p0:List (List V)) (p1:Int) (k:KK β):xr zm4 (zmQ L) L ziO [(V.sl 5 p0),(V.sc (.int .i64 p1))] [] k=zow L p0 p1 (fun p0=>k (V.gs 5 p0) []):=by kernel_rfl
abbrev zQ:=∀ (β:Type),Nat→List (List V)→Int→(List (List V)→Option β)→Option β
def zf (β:Type) (L:Nat) (p0:List (List V)) (p1:Int) (k_fin:List (List V)→Option β):Option β:=zow L p0 p1 k_fin
def zhn (zf:zQ) (L:Nat) (β:Type) (args:List V) (bor:Bor) (k:KK β):Option β:=match args,bor with
 | [a0,a1],[]=>aL 5 a0 fun p0=>aI .i64 a1 fun p1=>zf β L p0 p1 (fun p0=>k (V.gs 5 p0) [])
 | _,_=>none
theorem zxI (L:Nat) (β:Type) (args:List V) (bor:Bor) (k:KK β) (r:β) (h:zhn zf L β args bor k=some r):xr zm4 (zmQ L) L ziO args bor k=some r:=by
 unfold zhn at h
 split at h
 ·have q:=z9 h; clear h; obtain ⟨p0,rfl,h⟩:=q
  have q:=zau h; clear h; obtain ⟨p1,rfl,h⟩:=q
  exact (zyh L p0 p1 k).trans h
 ·cases h
def zc6:CC:=(.seq (.seq (.reg [oo 24 (.move (tq 7) false),
   oo 25 (.move (tq 0) false),
   oo 26 (.lenS (tq 25)),
   oo 27 (.bin .lss (tq 24) (tq 26)),
   oo 28 (.move (tq 27) false),
   ⟨(some 29),false,(some (28,true)),.move (tq 0) false⟩,
   ⟨(some 30),false,(some (28,true)),.move (tq 7) false⟩,
   ⟨(some 31),false,(some (28,true)),.indexAddrS 5 (tq 29) (tq 30)⟩,
   ⟨(some 32),false,(some (28,true)),.fieldAddr 0 (tq 31)⟩,
   ⟨(some 33),false,(some (28,true)),.load false 1 (tq 32) false⟩,
   ⟨(some 34),false,(some (28,true)),.move (tq 1) false⟩,
   ⟨(some 35),false,(some (28,true)),.bin .eql (tq 33) (tq 34)⟩,
   oo 36 (.pick (tq 28) (tq 35) (.const (.sc (.bool false))))])
 (.cond (tq 36)
 .skip
 (.seq (.mask (bl 192 41) (bl 2198956146687 41))
 (.exit 2))))
 (.block 3 (.reg [oo 37 (.move (tq 7) false),
   oo 38 (.bin .add (tq 37) (.const (.sc (.int .i64 1)))),
   oo 7 (.move (tq 38) false)])))
def ziG:CC:=(.seq (.reg [oo 39 (.move (tq 6) false),
   oo 40 (.move (tq 7) false),
   oo 4 (.move (tq 39) false),
   oo 5 (.move (tq 40) false)])
 .ret)
def zdL:CC:=(.seq (.seq (.reg [oo 8 (.move (tq 6) false),
   oo 9 (.move (tq 0) false),
   oo 10 (.lenS (tq 9)),
   oo 11 (.bin .lss (tq 8) (tq 10)),
   oo 12 (.move (tq 11) false),
   ⟨(some 13),false,(some (12,true)),.move (tq 0) false⟩,
   ⟨(some 14),false,(some (12,true)),.move (tq 6) false⟩,
   ⟨(some 15),false,(some (12,true)),.indexAddrS 5 (tq 13) (tq 14)⟩,
   ⟨(some 16),false,(some (12,true)),.fieldAddr 0 (tq 15)⟩,
   ⟨(some 17),false,(some (12,true)),.load false 1 (tq 16) false⟩,
   ⟨(some 18),false,(some (12,true)),.move (tq 1) false⟩,
   ⟨(some 19),false,(some (12,true)),.bin .lss (tq 17) (tq 18)⟩,
   oo 20 (.pick (tq 12) (tq 19) (.const (.sc (.bool false))))])
 (.cond (tq 20)
 .skip
 (.seq (.mask (bl 67 41) (bl 2199023254527 41))
 (.exit 0))))
 (.block 1 (.reg [oo 21 (.move (tq 6) false),
   oo 22 (.bin .add (tq 21) (.const (.sc (.int .i64 1)))),
   oo 6 (.move (tq 22) false)])))
def zgY:CC:=(.seq (.reg [oo 23 (.move (tq 6) false),
   oo 7 (.move (tq 23) false)])
 (.seq (.block 2 (.loop (bl 195 41) (bl 2198956146687 41)
 zc6))
 ziG))
def zbG:CF:=⟨41,[.tmp 4,.tmp 5],
 (.seq (.reg [oo 4 (.move (.const (.sc (.int .i64 0))) false),
   oo 5 (.move (.const (.sc (.int .i64 0))) false)])
 (.seq (.reg [oo 6 (.move (.const (.sc (.int .i64 0))) false)])
 (.seq (.block 0 (.loop (bl 67 41) (bl 2199023254527 41)
 zdL))
 zgY)))⟩
def zqd:Hint:=⟨[],[],[none,some ((bl 67 41),(bl 2199023254527 41)),none,some ((bl 67 41),(bl 2199023254527 41)),none,none,some ((bl 195 41),(bl 2198956146687 41)),none,some ((bl 192 41),(bl 2198956146687 41)),none,none],[],[],false,false⟩
def xV:Nat→Sh:=xO [(17,(.int .i64)),(33,(.int .i64))]
def zX (L:Nat):CBC:=noC
def zgu:St→St:=zac 0 (bl 67 41) (bl 2199023254527 41)
def zeZ:St→St:=zac 0 (bl 195 41) (bl 2198956146687 41)
def zel (p0:List (List V)) (p1 p6:Int):St:=⟨((V.sl 5 p0)::((V.sc (.int .i64 p1))::(jn 4 ((V.sc (.int .i64 p6))::(jn 34 []))))),(gn 41 [])⟩
def zgk (p0:List (List V)) (p1 p6:Int):St:=⟨((V.sl 5 p0)::((V.sc (.int .i64 p1))::(jn 4 ((V.sc (.int .i64 p6))::(jn 34 []))))),(gn 41 [])⟩
def zdB (p0:List (List V)) (p1 p6 p7:Int):St:=⟨((V.sl 5 p0)::((V.sc (.int .i64 p1))::(jn 4 ((V.sc (.int .i64 p6))::((V.sc (.int .i64 p7))::(jn 33 [])))))),(gn 41 [])⟩
def zj1 (p6 p7:Int):St:=⟨(jn 6 ((V.sc (.int .i64 p6))::((V.sc (.int .i64 p7))::(jn 33 [])))),(gn 41 [])⟩
def zot {β:Type} (L:Nat) (p0:List (List V)) (p1:Int) (k_hbbaa:List (List V)→Int→Int→Option β):Option β :=
 k_hbbaa p0 p1 (0:Int)
theorem zx7 {β:Type} (L:Nat) (p0:List (List V)) (p1:Int) (k:KK β):xr xV (zX L) L zbG [(V.sl 5 p0),(V.sc (.int .i64 p1))] [] k=zot L p0 p1 (fun p0 p1 p6=>zH (yn xV (zX L) 0 L zdL) zgu L (zel p0 p1 p6) (yH 0 (zV (yn xV (zX L) 0 L zgY) (y6 0 (CF.res zbG) k)))):=by kernel_rfl
def zjS {β:Type} (L:Nat) (p0:List (List V)) (p1 p6:Int) (k_hbbaa:List (List V)→Int→Int→Option β) (k_x0:List (List V)→Int→Int→Option β):Option β :=
 ifb (decide (p6 < ((List.length p0:Nat):Int))) (
 idx p0 p6 fun c0 =>
 cI .i64 c0 0 fun v1 =>
 ifb (decide (v1 < p1)) (
 lt (IntKind.wrap .i64 ((p6:Int)+(1:Int))) fun x2 =>
 k_hbbaa p0 p1 x2) (
 k_x0 p0 p1 p6)) (
 k_x0 p0 p1 p6)
theorem ztG {β:Type} (L:Nat) (p0:List (List V)) (p1 p6:Int) (X:St→Option β) (K:KT β):yn xV (zX L) 0 L zdL (zel p0 p1 p6) (zcC zgu X K)=zjS L p0 p1 p6 (fun p0 p1 p6=>X (zel p0 p1 p6)) (fun p0 p1 p6=>K (.exit 0) (zgk p0 p1 p6)):=by kernel_rfl
def znQ {β:Type} (L:Nat) (p0:List (List V)) (p1 p6:Int) (k_hbbbbaa:List (List V)→Int→Int→Int→Option β):Option β :=
 k_hbbbbaa p0 p1 p6 p6
theorem zr1 {β:Type} (L:Nat) (p0:List (List V)) (p1 p6:Int) (k:KK β):(yH 0 (zV (yn xV (zX L) 0 L zgY) (y6 0 (CF.res zbG) k))) (.exit 0) (zgk p0 p1 p6)=znQ L p0 p1 p6 (fun p0 p1 p6 p7=>zH (yn xV (zX L) 0 L zc6) zeZ L (zdB p0 p1 p6 p7) (yH 2 (zV (yn xV (zX L) 0 L ziG) (y6 0 (CF.res zbG) k)))):=by kernel_rfl
def zhG {β:Type} (L:Nat) (p0:List (List V)) (p1 p6 p7:Int) (k_hbbbbaa:List (List V)→Int→Int→Int→Option β) (k_x2:Int→Int→Option β):Option β :=
 ifb (decide (p7 < ((List.length p0:Nat):Int))) (
 idx p0 p7 fun c3 =>
 cI .i64 c3 0 fun v4 =>
 ifb ((v4:Int) == p1) (
 lt (IntKind.wrap .i64 ((p7:Int)+(1:Int))) fun x5 =>
 k_hbbbbaa p0 p1 p6 x5) (
 k_x2 p6 p7)) (
 k_x2 p6 p7)
theorem zrW {β:Type} (L:Nat) (p0:List (List V)) (p1 p6 p7:Int) (X:St→Option β) (K:KT β):yn xV (zX L) 0 L zc6 (zdB p0 p1 p6 p7) (zcC zeZ X K)=zhG L p0 p1 p6 p7 (fun p0 p1 p6 p7=>X (zdB p0 p1 p6 p7)) (fun p6 p7=>K (.exit 2) (zj1 p6 p7)):=by kernel_rfl
def zlf {β:Type} (L:Nat) (p6 p7:Int) (k_fin:Int→Int→Option β):Option β :=
 k_fin p6 p7
theorem zqm {β:Type} (L:Nat) (p6 p7:Int) (k:KK β):(yH 2 (zV (yn xV (zX L) 0 L ziG) (y6 0 (CF.res zbG) k))) (.exit 2) (zj1 p6 p7)=zlf L p6 p7 (fun zLN zLO=>k (V.tup [(V.sc (.int .i64 zLN)),(V.sc (.int .i64 zLO))]) []):=by kernel_rfl
def zeg {β:Type} (L:Nat) (k_x0:List (List V)→Int→Int→Option β):Nat→List (List V)→Int→Int→Option β
 | 0,_,_,_=>none
 | n+1,p0,p1,p6=>zjS L p0 p1 p6 (fun p0 p1 p6=>zeg L k_x0 n p0 p1 p6) k_x0
theorem zmr {β:Type} (L:Nat) (K:KT β):∀ (n:Nat) (p0:List (List V)) (p1 p6:Int),zH (yn xV (zX L) 0 L zdL) zgu n (zel p0 p1 p6) K=zeg L (fun p0 p1 p6=>K (.exit 0) (zgk p0 p1 p6)) n p0 p1 p6:=by
 intro n
 induction n with
 | zero=>intros; rfl
 | succ n ih =>
  intro p0 p1 p6
  refine (ztG L p0 p1 p6 (fun σ=>zH (yn xV (zX L) 0 L zdL) zgu n σ K) K).trans ?_
  simp only [ih]
  rfl
def zdr {β:Type} (L:Nat) (k_x2:Int→Int→Option β):Nat→List (List V)→Int→Int→Int→Option β
 | 0,_,_,_,_=>none
 | n+1,p0,p1,p6,p7=>zhG L p0 p1 p6 p7 (fun p0 p1 p6 p7=>zdr L k_x2 n p0 p1 p6 p7) k_x2
theorem zkB {β:Type} (L:Nat) (K:KT β):∀ (n:Nat) (p0:List (List V)) (p1 p6 p7:Int),zH (yn xV (zX L) 0 L zc6) zeZ n (zdB p0 p1 p6 p7) K=zdr L (fun p6 p7=>K (.exit 2) (zj1 p6 p7)) n p0 p1 p6 p7:=by
 intro n
 induction n with
 | zero=>intros; rfl
 | succ n ih =>
  intro p0 p1 p6 p7
  refine (zrW L p0 p1 p6 p7 (fun σ=>zH (yn xV (zX L) 0 L zc6) zeZ n σ K) K).trans ?_
  simp only [ih]
  rfl
def zg5 {β:Type} (L:Nat) (p0:List (List V)) (p1 p6:Int) (k_fin:Int→Int→Option β):Option β :=
 znQ L p0 p1 p6 (fun p0 p1 p6 p7=>zdr L (fun p6 p7=>zlf L p6 p7 k_fin) L p0 p1 p6 p7)
theorem zrc {β:Type} (L:Nat) (p0:List (List V)) (p1 p6:Int) (k:KK β):(yH 0 (zV (yn xV (zX L) 0 L zgY) (y6 0 (CF.res zbG) k))) (.exit 0) (zgk p0 p1 p6)=zg5 L p0 p1 p6 (fun zLN zLO=>k (V.tup [(V.sc (.int .i64 zLN)),(V.sc (.int .i64 zLO))]) []):=by
 refine (zr1 L p0 p1 p6 k).trans ?_
 unfold zg5
 first
  | (simp only [zkB,zqm]; done)
  | (simp only [zkB]; rfl)
def zkv {β:Type} (L:Nat) (p0:List (List V)) (p1:Int) (k_fin:Int→Int→Option β):Option β :=
 zot L p0 p1 (fun p0 p1 p6=>zeg L (fun p0 p1 p6=>zg5 L p0 p1 p6 k_fin) L p0 p1 p6)
theorem zx4 {β:Type} (L:Nat) (p0:List (List V)) (p1:Int) (k:KK β):xr xV (zX L) L zbG [(V.sl 5 p0),(V.sc (.int .i64 p1))] [] k=zkv L p0 p1 (fun zLN zLO=>k (V.tup [(V.sc (.int .i64 zLN)),(V.sc (.int .i64 zLO))]) []):=by
 refine (zx7 L p0 p1 k).trans ?_
 unfold zkv
 first
  | (simp only [zmr,zrc]; done)
  | (simp only [zmr]; rfl)
abbrev yK:=∀ (β:Type),Nat→List (List V)→Int→(Int→Int→Option β)→Option β
def xe (β:Type) (L:Nat) (p0:List (List V)) (p1:Int) (k_fin:Int→Int→Option β):Option β:=zkv L p0 p1 k_fin
def ze5 (xe:yK) (L:Nat) (β:Type) (args:List V) (bor:Bor) (k:KK β):Option β:=match args,bor with
 | [a0,a1],[]=>aL 5 a0 fun p0=>aI .i64 a1 fun p1=>xe β L p0 p1 (fun zLN zLO=>k (V.tup [(V.sc (.int .i64 zLN)),(V.sc (.int .i64 zLO))]) [])
 | _,_=>none
theorem zyb (L:Nat) (β:Type) (args:List V) (bor:Bor) (k:KK β) (r:β) (h:ze5 xe L β args bor k=some r):xr xV (zX L) L zbG args bor k=some r:=by
 unfold ze5 at h
 split at h
 ·have q:=z9 h; clear h; obtain ⟨p0,rfl,h⟩:=q
  have q:=zau h; clear h; obtain ⟨p1,rfl,h⟩:=q
  exact (zx4 L p0 p1 k).trans h
 ·cases h
def zi1:CF:=⟨26,[.tmp 4],
 (.seq (.reg [oo 3 (.box true (tq 1)),
   oo 4 (.move (.const (.gs 5 [])) true)])
 (.seq (.reg [oo 8 (.move (tq 0) false),
   oo 9 (.fieldAddr 0 (tq 3)),
   oo 10 (.load false 1 (tq 9) false),
   oo 11 (.call 291 [((tq 8),0),((tq 10),0)] []),
   oo 7 (.move (tq 11) true),
   oo 12 (.pull (tq 7) 0),
   oo 13 (.pull (tq 7) 1),
   oo 5 (.move (tq 12) false),
   oo 6 (.move (tq 13) false)])
 (.seq (.dreg [] [(oo 14 (.buildSlice 5 0 [(.sc (.int .i64 0)),(.sc (.int .u32 0)),(.sc (.int .u16 0)),(.sc (.int .u32 0)),(.sc (.int .u32 0))] []),qn [3] [20]),
   (oo 15 (.move (tq 0) false),q0),
   (oo 16 (.move (tq 6) false),q0),
   (oo 17 (.sliceS 5 (tq 15) none (some (tq 16)) none),q0),
   (oo 18 (.append 5 24 (tq 14) (tq 17)),qn [3] [20]),
   (oo 19 (.load true 5 (tq 3) false),ql 3 [] [14,18]),
   (oo 20 (.buildSlice 5 1 [(.sc (.int .i64 0)),(.sc (.int .u32 0)),(.sc (.int .u16 0)),(.sc (.int .u32 0)),(.sc (.int .u32 0))] [(0,5,(tq 19))]),qn [] [14,18]),
   (oo 21 (.append 5 24 (tq 18) (tq 20)),q0),
   (oo 22 (.move (tq 0) false),q0),
   (oo 23 (.move (tq 6) false),q0),
   (oo 24 (.sliceS 5 (tq 22) (some (tq 23)) none none),q0),
   (oo 25 (.append 5 24 (tq 21) (tq 24)),q0),
   (oo 4 (.move (tq 25) true),q0)])
 .ret)))⟩
def zqa:Hint:=⟨[(0,1),(1,4),(2,12)],[],[none],[],[],false,false⟩
def znp:Nat→Sh:=xO [(10,(.int .i64))]
def zmY (xe:yK) (L:Nat):CBC:=(xu 291 (ze5 xe L) noC)
def zoH {β:Type} (xe:yK) (L:Nat) (p0:List (List V)) (p1:List V) (k_fin:List (List V)→Option β):Option β :=
 cI .i64 p1 0 fun v0 =>
 xe β L p0 v0 (fun v1 v2 =>
 chk (0≤v2∧v2≤(((List.length p0):Nat):Int)) (
 chk ((List.length ([]:List (List V))+List.length (List.take ((Int.toNat v2) - 0) (List.drop 0 p0))) * 24≤yr∧List.length ([]:List (List V))+List.length (List.take ((Int.toNat v2) - 0) (List.drop 0 p0))≤yr) (
 lt (([]:List (List V))++(List.take ((Int.toNat v2) - 0) (List.drop 0 p0))) fun l3 =>
 chk (0+5≤(List.length p1)) (
 chk ((List.length (List.take 5 p1))=5∧0+5≤5) (
 chk ((List.length l3+List.length (yk 5 1 (xg [(V.sc (.int .i64 (0:Int))),(V.sc (.int .u32 (0:Int))),(V.sc (.int .u16 (0:Int))),(V.sc (.int .u32 (0:Int))),(V.sc (.int .u32 (0:Int)))] 0 (List.take 5 p1)))) * 24≤yr∧List.length l3+List.length (yk 5 1 (xg [(V.sc (.int .i64 (0:Int))),(V.sc (.int .u32 (0:Int))),(V.sc (.int .u16 (0:Int))),(V.sc (.int .u32 (0:Int))),(V.sc (.int .u32 (0:Int)))] 0 (List.take 5 p1)))≤yr) (
 lt (l3++(yk 5 1 (xg [(V.sc (.int .i64 (0:Int))),(V.sc (.int .u32 (0:Int))),(V.sc (.int .u16 (0:Int))),(V.sc (.int .u32 (0:Int))),(V.sc (.int .u32 (0:Int)))] 0 (List.take 5 p1)))) fun l4 =>
 chk (0≤v2∧v2≤(((List.length p0):Nat):Int)) (
 chk ((List.length l4+List.length (List.take ((List.length p0) - (Int.toNat v2)) (List.drop (Int.toNat v2) p0))) * 24≤yr∧List.length l4+List.length (List.take ((List.length p0) - (Int.toNat v2)) (List.drop (Int.toNat v2) p0))≤yr) (
 lt (l4++(List.take ((List.length p0) - (Int.toNat v2)) (List.drop (Int.toNat v2) p0))) fun l5 =>
 k_fin l5))))))))
theorem zyf {β:Type} (xe:yK) (L:Nat) (p0:List (List V)) (p1:List V) (k:KK β):xr znp (zmY xe L) L zi1 [(V.sl 5 p0),(V.agg p1)] [] k=zoH xe L p0 p1 (fun p0=>k (V.gs 5 p0) []):=by kernel_rfl
abbrev yQ:=∀ (β:Type),Nat→List (List V)→List V→(List (List V)→Option β)→Option β
def ze (β:Type) (L:Nat) (p0:List (List V)) (p1:List V) (k_fin:List (List V)→Option β):Option β:=zoH xe L p0 p1 k_fin
def zg8 (ze:yQ) (L:Nat) (β:Type) (args:List V) (bor:Bor) (k:KK β):Option β:=match args,bor with
 | [a0,a1],[]=>aL 5 a0 fun p0=>aG a1 fun p1=>ze β L p0 p1 (fun p0=>k (V.gs 5 p0) [])
 | _,_=>none
theorem zx0 (L:Nat) (β:Type) (args:List V) (bor:Bor) (k:KK β) (r:β) (h:zg8 ze L β args bor k=some r):xr znp (zmY xe L) L zi1 args bor k=some r:=by
 unfold zg8 at h
 split at h
 ·have q:=z9 h; clear h; obtain ⟨p0,rfl,h⟩:=q
  have q:=yZ h; clear h; obtain ⟨p1,rfl,h⟩:=q
  exact (zyf xe L p0 p1 k).trans h
 ·cases h
def zfA:CC:=(.seq (.seq (.reg [oo 6 (.move (tq 5) false),
   oo 7 (.move (tq 0) false),
   oo 8 (.lenS (tq 7)),
   oo 9 (.bin .lss (tq 6) (tq 8))])
 (.cond (tq 9)
 .skip
 (.seq (.mask (bl 0 20) (bl 786119 20))
 (.exit 0))))
 (.seq (.block 1 (.seq (.dreg [] [(oo 12 (.move (tq 0) false),q0),
   (oo 13 (.move (tq 5) false),q0),
   (oo 14 (.indexAddrS 5 (tq 12) (tq 13)),q0),
   (oo 15 (.fieldAddr 1 (tq 14)),q0),
   (oo 16 (.load true 3 (tq 15) false),q1),
   (oo 17 (.load true 3 (tq 3) false),{ q1 with root:=some 3 }),
   (oo 18 (.call 303 [((tq 16),0),((tq 17),0)] []),q0)])
 (.cond (tq 18)
 (.seq (.reg [oo 19 (.move (tq 5) false),
   oo 4 (.move (tq 19) false)])
 (.seq (.mask (bl 16 20) (bl 786135 20))
 .ret))
 .skip)))
 (.reg [oo 10 (.move (tq 5) false),
   oo 11 (.bin .add (tq 10) (.const (.sc (.int .i64 1)))),
   oo 5 (.move (tq 11) false)])))
def zl9:CC:=(.seq (.reg [oo 4 (.move (.const (.sc (.int .i64 (-1)))) false)])
 .ret)
def zek:CF:=zcT
def za9:Nat→Sh:=xO []
def zba (yg:zM) (L:Nat):CBC:=(xu 303 (zjG yg L) noC)
def zge:St→St:=zac 1 (bl 41 20) (bl 786159 20)
def zer (p0l:Nat) (p5:Int) (b0 b4:List V):St:=⟨((V.own 0 0 p0l 5)::(jn 2 ((V.ptr 4 0)::(jn 1 ((V.sc (.int .i64 p5))::(jn 14 [])))))),((.live true b0)::(gn 3 ((.live true b4)::(gn 16 []))))⟩
def ziH (p4:Int) (b0:List V):St:=⟨(jn 4 ((V.sc (.int .i64 p4))::(jn 15 []))),((.live true b0)::(gn 20 []))⟩
def zjz (b0:List V):St:=⟨(jn 20 []),((.live true b0)::(gn 20 []))⟩
def zoo {β:Type} (yg:zM) (L:Nat) (p0l:Nat) (p1 b0:List V) (k_hbaba:Nat→Int→List V→List V→Option β):Option β :=
 k_hbaba p0l (0:Int) b0 p1
theorem zx2 {β:Type} (yg:zM) (L:Nat) (p0l:Nat) (p1 b0:List V) (k:KK β):xr za9 (zba yg L) L zek [(V.own 0 0 p0l 5),(V.agg p1)] [(.live true b0)] k=zoo yg L p0l p1 b0 (fun p0l p5 b0 b4=>zH (yn za9 (zba yg L) 1 L zfA) zge L (zer p0l p5 b0 b4) (yH 0 (zV (yn za9 (zba yg L) 1 L zl9) (y6 1 (CF.res zek) k)))):=by kernel_rfl
def zjt {β:Type} (yg:zM) (L:Nat) (p0l:Nat) (p5:Int) (b0 b4:List V) (k_ret:Int→List V→Option β) (k_hbaba:Nat→Int→List V→List V→Option β) (k_x0:List V→Option β):Option β :=
 ifb (decide (p5 < ((p0l:Nat):Int))) (
 chk (0≤p5∧p5 < ((p0l:Nat):Int)) (
 chk (((0+((Int.toNat p5) * 5))+1)+3≤(List.length b0)) (
 chk (0+3≤(List.length b4)) (
 yg β L (List.take 3 (List.drop ((0+((Int.toNat p5) * 5))+1) b0)) (List.take 3 b4) (fun v0 =>
 ifb v0 (
 k_ret p5 b0) (
 lt (IntKind.wrap .i64 ((p5:Int)+(1:Int))) fun x1 =>
 k_hbaba p0l x1 b0 b4)))))) (
 k_x0 b0)
theorem ztF {β:Type} (yg:zM) (L:Nat) (p0l:Nat) (p5:Int) (b0 b4:List V) (X:St→Option β) (K:KT β):yn za9 (zba yg L) 1 L zfA (zer p0l p5 b0 b4) (zcC zge X K)=zjt yg L p0l p5 b0 b4 (fun p4 b0=>K .ret (ziH p4 b0)) (fun p0l p5 b0 b4=>X (zer p0l p5 b0 b4)) (fun b0=>K (.exit 0) (zjz b0)):=by kernel_rfl
def zmi {β:Type} (yg:zM) (L:Nat) (p4:Int) (b0:List V) (k_fin:Int→List V→Option β):Option β :=
 k_fin p4 b0
theorem zrm {β:Type} (yg:zM) (L:Nat) (p4:Int) (b0:List V) (k:KK β):(yH 0 (zV (yn za9 (zba yg L) 1 L zl9) (y6 1 (CF.res zek) k))) .ret (ziH p4 b0)=zmi yg L p4 b0 (fun p0 b0=>k (V.sc (.int .i64 p0)) [(.live true b0)]):=by kernel_rfl
def zmV {β:Type} (yg:zM) (L:Nat) (b0:List V) (k_fin:Int→List V→Option β):Option β :=
 k_fin (-1:Int) b0
theorem zrX {β:Type} (yg:zM) (L:Nat) (b0:List V) (k:KK β):(yH 0 (zV (yn za9 (zba yg L) 1 L zl9) (y6 1 (CF.res zek) k))) (.exit 0) (zjz b0)=zmV yg L b0 (fun p0 b0=>k (V.sc (.int .i64 p0)) [(.live true b0)]):=by kernel_rfl
def zed {β:Type} (yg:zM) (L:Nat) (k_ret:Int→List V→Option β) (k_x0:List V→Option β):Nat→Nat→Int→List V→List V→Option β
 | 0,_,_,_,_=>none
 | n+1,p0l,p5,b0,b4=>zjt yg L p0l p5 b0 b4 k_ret (fun p0l p5 b0 b4=>zed yg L k_ret k_x0 n p0l p5 b0 b4) k_x0
theorem zmg {β:Type} (yg:zM) (L:Nat) (K:KT β):∀ (n:Nat) (p0l:Nat) (p5:Int) (b0 b4:List V),zH (yn za9 (zba yg L) 1 L zfA) zge n (zer p0l p5 b0 b4) K=zed yg L (fun p4 b0=>K .ret (ziH p4 b0)) (fun b0=>K (.exit 0) (zjz b0)) n p0l p5 b0 b4:=by
 intro n
 induction n with
 | zero=>intros; rfl
 | succ n ih =>
  intro p0l p5 b0 b4
  refine (ztF yg L p0l p5 b0 b4 (fun σ=>zH (yn za9 (zba yg L) 1 L zfA) zge n σ K) K).trans ?_
  simp only [ih]
  rfl
def zku {β:Type} (yg:zM) (L:Nat) (p0l:Nat) (p1 b0:List V) (k_fin:Int→List V→Option β):Option β :=
 zoo yg L p0l p1 b0 (fun p0l p5 b0 b4=>zed yg L (fun p4 b0=>zmi yg L p4 b0 k_fin) (fun b0=>zmV yg L b0 k_fin) L p0l p5 b0 b4)
theorem zxJ {β:Type} (yg:zM) (L:Nat) (p0l:Nat) (p1 b0:List V) (k:KK β):xr za9 (zba yg L) L zek [(V.own 0 0 p0l 5),(V.agg p1)] [(.live true b0)] k=zku yg L p0l p1 b0 (fun p0 b0=>k (V.sc (.int .i64 p0)) [(.live true b0)]):=by
 refine (zx2 yg L p0l p1 b0 k).trans ?_
 unfold zku
 first
  | (simp only [zmg,zrm,zrX]; done)
  | (simp only [zmg]; rfl)
abbrev xX:=∀ (β:Type),Nat→Nat→List V→List V→(Int→List V→Option β)→Option β
def yh (β:Type) (L:Nat) (p0l:Nat) (p1 b0:List V) (k_fin:Int→List V→Option β):Option β:=zku yg L p0l p1 b0 k_fin
def zkt (yh:xX) (L:Nat) (β:Type) (args:List V) (bor:Bor) (k:KK β):Option β:=match args,bor with
 | [a0,a1],[(.live true b0)]=>aO0 0 5 a0 fun p0l=>aG a1 fun p1=>yh β L p0l p1 b0 (fun p0 b0=>k (V.sc (.int .i64 p0)) [(.live true b0)])
 | _,_=>none
theorem zx1 (L:Nat) (β:Type) (args:List V) (bor:Bor) (k:KK β) (r:β) (h:zkt yh L β args bor k=some r):xr za9 (zba yg L) L zek args bor k=some r:=by
 unfold zkt at h
 split at h
 ·have q:=zJu h; clear h; obtain ⟨p0l,rfl,h⟩:=q
  have q:=yZ h; clear h; obtain ⟨p1,rfl,h⟩:=q
  exact (zxJ yg L p0l p1 _ k).trans h
 ·cases h
end
end Go.Proofs.Ytpafdnidhnldhaa
