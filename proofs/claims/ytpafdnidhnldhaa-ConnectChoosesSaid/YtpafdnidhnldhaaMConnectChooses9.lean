/- Part 9 of the proof of ConnectChooses: an abstract machine over plain values, its soundness, and the functions of the program on plain values. -/
import Derived.Test.YtpafdnidhnldhaaMConnectChooses8
namespace Go.Proofs.Ytpafdnidhnldhaa
section
set_option maxRecDepth 100000
set_option linter.unusedVariables false
set_option linter.unusedSimpArgs false
def zdf:CC:=(.seq (.reg [oo 34 (.bin .lss (tq 33) (tq 32))])
 (.seq (.cond (tq 34)
 .skip
 (.seq (.mask (bl 284 72) (bl 4722366482319889397247 72))
 (.exit 0)))
 (.seq (.block 1 (.seq (.reg [oo 35 (.indexAddrS 3 (tq 31) (tq 33)),
   oo 36 (.load true 3 (tq 35) false),
   oo 11 (.alloc true [(.sc (.int .u32 0)),(.sc (.int .u16 0)),(.sc (.int .u32 0))]),
   oz (.store 3 (tq 11) (tq 36))])
 (.seq (.reg [oo 37 (.move (tq 2) false),
   oo 38 (.load true 3 (tq 11) false),
   oo 39 (.call 278 [((tq 37),0),((tq 38),0)] []),
   oo 40 (.un .not (tq 39))])
 (.cond (tq 40)
 (.seq (.reg [oo 41 (.load true 3 (tq 11) false),
   oo 42 (.build [(.sc (.int .i64 0)),(.sc (.int .u32 0)),(.sc (.int .u16 0)),(.sc (.int .u32 0))] [(0,1,(.const (.sc (.int .i64 1)))),(1,3,(tq 41))]),
   oz (.store 4 (tq 8) (tq 42)),
   oo 9 (.move (.const (.sc (.int .i64 0))) false)])
 (.seq (.mask (bl 768 72) (bl 4722366482319889397743 72))
 .ret))
 .skip))))
 (.reg [oo 43 (.bin .add (tq 33) (.const (.sc (.int .i64 1)))),
   oo 33 (.move (tq 43) false)]))))
def zhd:CC:=(.seq (.reg [oo 12 (.move (.const (.sc (.int .i64 2))) false)])
 (.seq (.reg [oo 44 (.move (tq 2) false),
   oo 45 (.call 276 [((tq 44),0),((.const (.fn 279 [])),0)] []),
   oo 13 (.move (tq 45) false)])
 (.seq (.seq (.reg [oo 46 (.move (tq 2) false),
   oo 47 (.lenS (tq 46)),
   oo 48 (.move (tq 13) false),
   oo 49 (.bin .sub (tq 47) (tq 48)),
   oo 50 (.bin .geq (tq 49) (.const (.sc (.int .i64 7))))])
 (.cond (tq 50)
 (.seq (.reg [oo 12 (.move (.const (.sc (.int .i64 3))) false)])
 (.seq (.reg [oo 51 (.move (tq 13) false),
   oo 52 (.bin .gtr (tq 51) (.const (.sc (.int .i64 0))))])
 (.cond (tq 52)
 (.seq (.reg [oo 53 (.build [(.sc (.int .i64 0)),(.sc (.int .u32 0)),(.sc (.int .u16 0)),(.sc (.int .u32 0))] []),
   oz (.store 4 (tq 8) (tq 53)),
   oo 9 (.move (.const (.sc (.int .i64 380))) false)])
 .ret)
 .skip)))
 .skip))
 (.seq (.reg [oo 54 (.load true 34 (tq 4) false),
   oo 55 (.move (tq 2) false),
   oo 56 (.move (tq 12) false),
   oo 57 (.call 266 [((tq 54),1),((tq 55),0),((tq 56),0)] []),
   oo 14 (.move (tq 57) false)])
 (.seq (.seq (.reg [oo 58 (.move (tq 14) false),
   oo 59 (.lenS (tq 58)),
   oo 60 (.bin .eql (tq 59) (.const (.sc (.int .i64 0))))])
 (.cond (tq 60)
 (.seq (.reg [oo 61 (.build [(.sc (.int .i64 0)),(.sc (.int .u32 0)),(.sc (.int .u16 0)),(.sc (.int .u32 0))] []),
   oz (.store 4 (tq 8) (tq 61)),
   oo 9 (.move (.const (.sc (.int .i64 390))) false)])
 .ret)
 .skip))
 (.seq (.reg [oo 62 (.move (tq 12) false),
   oo 63 (.move (tq 14) false),
   oo 64 (.move (tq 3) false),
   oo 65 (.move (tq 14) false),
   oo 66 (.lenS (tq 65)),
   oo 67 (.conv .u64 (tq 66)),
   oo 68 (.bin .rem (tq 64) (tq 67)),
   oo 69 (.indexAddrS 3 (tq 63) (tq 68)),
   oo 70 (.load true 3 (tq 69) false),
   oo 71 (.build [(.sc (.int .i64 0)),(.sc (.int .u32 0)),(.sc (.int .u16 0)),(.sc (.int .u32 0))] [(0,1,(tq 62)),(1,3,(tq 70))]),
   oz (.store 4 (tq 8) (tq 71)),
   oo 9 (.move (.const (.sc (.int .i64 0))) false)])
 .ret))))))
def zda:CF:=⟨72,[.cell 8 true 4,.tmp 9],
 (.seq (.reg [oo 4 (.box true (tq 0)),
   oo 8 (.alloc true [(.sc (.int .i64 0)),(.sc (.int .u32 0)),(.sc (.int .u16 0)),(.sc (.int .u32 0))]),
   oo 9 (.move (.const (.sc (.int .i64 0))) false)])
 (.seq (.seq (.reg [oo 15 (.move (tq 2) false),
   oo 16 (.call 270 [((tq 15),0)] []),
   oo 17 (.un .not (tq 16)),
   oo 18 (.move (tq 17) false),
   ⟨(some 19),false,(some (18,false)),.load true 34 (tq 4) false⟩,
   ⟨(some 20),false,(some (18,false)),.call 275 [((tq 19),1)] []⟩,
   ⟨(some 21),false,(some (18,false)),.un .not (tq 20)⟩,
   oo 22 (.pick (tq 18) (.const (.sc (.bool true))) (tq 21))])
 (.cond (tq 22)
 (.seq (.reg [oo 23 (.build [(.sc (.int .i64 0)),(.sc (.int .u32 0)),(.sc (.int .u16 0)),(.sc (.int .u32 0))] []),
   oz (.store 4 (tq 8) (tq 23)),
   oo 9 (.move (.const (.sc (.int .i64 6))) false)])
 .ret)
 .skip))
 (.seq (.seq (.reg [oo 24 (.move (tq 2) false),
   oo 25 (.lenS (tq 24)),
   oo 26 (.bin .geq (tq 25) (.const (.sc (.int .i64 8))))])
 (.cond (tq 26)
 (.seq (.reg [oo 27 (.build [(.sc (.int .i64 0)),(.sc (.int .u32 0)),(.sc (.int .u16 0)),(.sc (.int .u32 0))] []),
   oz (.store 4 (tq 8) (tq 27)),
   oo 9 (.move (.const (.sc (.int .i64 380))) false)])
 .ret)
 .skip))
 (.seq (.seq (.reg [oo 28 (.move (tq 2) false),
   oo 29 (.call 276 [((tq 28),0),((.const (.fn 277 [])),0)] []),
   oo 30 (.bin .lss (tq 29) (.const (.sc (.int .i64 2))))])
 (.cond (tq 30)
 (.seq (.reg [oo 31 (.move (tq 1) false),
   oo 32 (.lenS (tq 31)),
   oo 33 (.move (.const (.sc (.int .i64 0))) false)])
 (.block 0 (.loop (bl 15032385820 72) (bl 4722366482319889397247 72)
 zdf)))
 .skip))
 zhd))))⟩
def zrh:Hint:=⟨[(0,0)],[],[none,none,none,none,none,none,some ((bl 15032385820 72),(bl 4722366482319889397247 72)),none,some ((bl 284 72),(bl 4722366482319889397247 72)),none,none,some ((bl 768 72),(bl 4722366482319889397743 72)),none,none,none,none,none,none],[],[],false,false⟩
def zbh:Nat→Sh:=zV []
def zbg (xd:zz) (xp:zaD) (zs:zaW) (yo:zas) (ya:zj) (zd:xw) (L:Nat):CBC:=(xA 278 (zex zd L) (xA 266 (zdG ya L) (zEN 276 [6,379] (zjy yo L) (zEN 276 [6,377] (zlw zs L) (xA 275 (zkI xp L) (xA 270 (zgm xd L) noC))))))
def zeT:St→St:=zaE 0 (bl 15032385820 72) (bl 4722366482319889397247 72)
def zdZ (p2:List (List V)) (p3:Int) (p31:List (List V)) (p32 p33:Int) (b4:List V) (zNo zNp zNq zNr:Int):St:=⟨(jn 2 ((V.sl 4 p2)::((V.sc (.int .u64 p3))::((V.ptr 4 0)::(jn 3 ((V.ptr 8 0)::(jn 22 ((V.sl 3 p31)::((V.sc (.int .i64 p32))::((V.sc (.int .i64 p33))::(jn 38 []))))))))))),(gn 4 ((.live true b4)::(gn 3 ((.live true [(V.sc (.int .i64 zNo)),(V.sc (.int .u32 zNp)),(V.sc (.int .u16 zNq)),(V.sc (.int .u32 zNr))])::(gn 63 [])))))⟩
def zjZ (p9:Int) (b8:List V):St:=⟨(jn 8 ((V.ptr 8 0)::((V.sc (.int .i64 p9))::(jn 62 [])))),(gn 8 ((.live true b8)::(gn 63 [])))⟩
def zkK (p2:List (List V)) (p3:Int) (b4:List V) (zNo zNp zNq zNr:Int):St:=⟨(jn 2 ((V.sl 4 p2)::((V.sc (.int .u64 p3))::((V.ptr 4 0)::(jn 3 ((V.ptr 8 0)::(jn 63 []))))))),(gn 4 ((.live true b4)::(gn 3 ((.live true [(V.sc (.int .i64 zNo)),(V.sc (.int .u32 zNp)),(V.sc (.int .u16 zNq)),(V.sc (.int .u32 zNr))])::(gn 63 [])))))⟩
abbrev zlD (β:Type):Type:=List (List V)→Int→List (List V)→Int→Int→List V→Int→Int→Int→Int→Option β
abbrev zmI (β:Type):Type:=List (List V)→Int→List V→Int→Int→Int→Int→Option β
def zpd {β:Type} (xd:zz) (xp:zaD) (zs:zaW) (yo:zas) (ya:zj) (zd:xw) (L:Nat) (p0:List V) (p1 p2:List (List V)) (p3:Int) (k_fin:List V→Int→Option β) (k_hbbbababa:zlD β):Option β :=
 xd β L p2 (fun v0 =>
 ifb (!v0) (
 lt [(V.sc (.int .i64 (0:Int))),(V.sc (.int .u32 (0:Int))),(V.sc (.int .u16 (0:Int))),(V.sc (.int .u32 (0:Int)))] fun r1 =>
 chk (0=0∧(List.length r1)=4∧4≠0) (
 k_fin r1 (6:Int))) (
 chk (0+34≤(List.length p0)) (
 xp β L (List.map V.dem (List.take 34 p0)) (fun v2 =>
 ifb (!v2) (
 lt [(V.sc (.int .i64 (0:Int))),(V.sc (.int .u32 (0:Int))),(V.sc (.int .u16 (0:Int))),(V.sc (.int .u32 (0:Int)))] fun r3 =>
 chk (0=0∧(List.length r3)=4∧4≠0) (
 k_fin r3 (6:Int))) (
 ifb (decide (((List.length p2:Nat):Int) ≥ (8:Int))) (
 lt [(V.sc (.int .i64 (0:Int))),(V.sc (.int .u32 (0:Int))),(V.sc (.int .u16 (0:Int))),(V.sc (.int .u32 (0:Int)))] fun r4 =>
 chk (0=0∧(List.length r4)=4∧4≠0) (
 k_fin r4 (380:Int))) (
 zs β L p2 (fun v5 =>
 ifb (decide (v5 < (2:Int))) (
 k_hbbbababa p2 p3 p1 ((List.length p1:Nat):Int) (0:Int) p0 (0:Int) (0:Int) (0:Int) (0:Int)) (
 yo β L p2 (fun v6 =>
 lt (IntKind.wrap .i64 ((((List.length p2:Nat):Int):Int) - v6)) fun x7 =>
 ifb (decide (x7 ≥ (7:Int))) (
 ifb (decide (v6 > (0:Int))) (
 lt [(V.sc (.int .i64 (0:Int))),(V.sc (.int .u32 (0:Int))),(V.sc (.int .u16 (0:Int))),(V.sc (.int .u32 (0:Int)))] fun r8 =>
 chk (0=0∧(List.length r8)=4∧4≠0) (
 k_fin r8 (380:Int))) (
 chk (0+34≤(List.length p0)) (
 ya β L (List.map V.dem (List.take 34 p0)) p2 (3:Int) (fun v9 =>
 ifb ((((List.length v9:Nat):Int):Int) == (0:Int)) (
 lt [(V.sc (.int .i64 (0:Int))),(V.sc (.int .u32 (0:Int))),(V.sc (.int .u16 (0:Int))),(V.sc (.int .u32 (0:Int)))] fun r10 =>
 chk (0=0∧(List.length r10)=4∧4≠0) (
 k_fin r10 (390:Int))) (
 lt (IntKind.wrap .u64 ((List.length v9:Nat):Int)) fun x11 =>
 chk (x11≠0) (
 lt (Int.tmod p3 x11) fun x12 =>
 idx v9 x12 fun c13 =>
 chk ((List.length (List.take 3 c13))=3∧1+3≤4) (
 chk ((List.length (yk [(V.sc (.int .i64 (3:Int))),(V.sc (.int .u32 (0:Int))),(V.sc (.int .u16 (0:Int))),(V.sc (.int .u32 (0:Int)))] 1 (List.take 3 c13)))=4∧0+4≤4) (
 lt (yk [(V.sc (.int .i64 (0:Int))),(V.sc (.int .u32 (0:Int))),(V.sc (.int .u16 (0:Int))),(V.sc (.int .u32 (0:Int)))] 0 (yk [(V.sc (.int .i64 (3:Int))),(V.sc (.int .u32 (0:Int))),(V.sc (.int .u16 (0:Int))),(V.sc (.int .u32 (0:Int)))] 1 (List.take 3 c13))) fun r14 =>
 chk (0=0∧(List.length r14)=4∧4≠0) (
 k_fin r14 (0:Int)))))))))) (
 chk (0+34≤(List.length p0)) (
 ya β L (List.map V.dem (List.take 34 p0)) p2 (2:Int) (fun v15 =>
 ifb ((((List.length v15:Nat):Int):Int) == (0:Int)) (
 lt [(V.sc (.int .i64 (0:Int))),(V.sc (.int .u32 (0:Int))),(V.sc (.int .u16 (0:Int))),(V.sc (.int .u32 (0:Int)))] fun r16 =>
 chk (0=0∧(List.length r16)=4∧4≠0) (
 k_fin r16 (390:Int))) (
 lt (IntKind.wrap .u64 ((List.length v15:Nat):Int)) fun x17 =>
 chk (x17≠0) (
 lt (Int.tmod p3 x17) fun x18 =>
 idx v15 x18 fun c19 =>
 chk ((List.length (List.take 3 c19))=3∧1+3≤4) (
 chk ((List.length (yk [(V.sc (.int .i64 (2:Int))),(V.sc (.int .u32 (0:Int))),(V.sc (.int .u16 (0:Int))),(V.sc (.int .u32 (0:Int)))] 1 (List.take 3 c19)))=4∧0+4≤4) (
 lt (yk [(V.sc (.int .i64 (0:Int))),(V.sc (.int .u32 (0:Int))),(V.sc (.int .u16 (0:Int))),(V.sc (.int .u32 (0:Int)))] 0 (yk [(V.sc (.int .i64 (2:Int))),(V.sc (.int .u32 (0:Int))),(V.sc (.int .u16 (0:Int))),(V.sc (.int .u32 (0:Int)))] 1 (List.take 3 c19))) fun r20 =>
 chk (0=0∧(List.length r20)=4∧4≠0) (
 k_fin r20 (0:Int))))))))))))))))))
theorem zzp {β:Type} (xd:zz) (xp:zaD) (zs:zaW) (yo:zas) (ya:zj) (zd:xw) (L:Nat) (p0:List V) (p1 p2:List (List V)) (p3:Int) (k:KK β):xr zbh (zbg xd xp zs yo ya zd L) L zda [(V.agg p0),(V.sl 3 p1),(V.sl 4 p2),(V.sc (.int .u64 p3))] [] k=zpd xd xp zs yo ya zd L p0 p1 p2 p3 (fun zOw zOx=>k (V.tup [(V.agg zOw),(V.sc (.int .i64 zOx))]) []) (fun p2 p3 p31 p32 p33 b4 zNo zNp zNq zNr=>xy (yj zbh (zbg xd xp zs yo ya zd L) 0 L zdf) zeT L (zdZ p2 p3 p31 p32 p33 b4 zNo zNp zNq zNr) (zx 0 (yI (yj zbh (zbg xd xp zs yo ya zd L) 0 L zhd) (zN 0 (CF.res zda) k)))):=by kernel_rfl
def zhs {β:Type} (xd:zz) (xp:zaD) (zs:zaW) (yo:zas) (ya:zj) (zd:xw) (L:Nat) (p2:List (List V)) (p3:Int) (p31:List (List V)) (p32 p33:Int) (b4:List V) (zNo zNp zNq zNr:Int) (k_ret:Int→List V→Option β) (k_hbbbababa:zlD β) (k_x0:zmI β):Option β :=
 ifb (decide (p33 < p32)) (
 idx p31 p33 fun c21 =>
 chk ((List.length (List.take 3 c21))=3∧0+3≤3) (
 lt (yk [(V.sc (.int .u32 (0:Int))),(V.sc (.int .u16 (0:Int))),(V.sc (.int .u32 (0:Int)))] 0 (List.take 3 c21)) fun r22 =>
 chk (0+3≤(List.length r22)) (
 zd β L p2 (List.take 3 r22) (fun v23 =>
 ifb (!v23) (
 chk (0+3≤(List.length r22)) (
 chk ((List.length (List.take 3 r22))=3∧1+3≤4) (
 chk ((List.length (yk [(V.sc (.int .i64 (1:Int))),(V.sc (.int .u32 (0:Int))),(V.sc (.int .u16 (0:Int))),(V.sc (.int .u32 (0:Int)))] 1 (List.take 3 r22)))=4∧0+4≤4) (
 lt (yk [(V.sc (.int .i64 zNo)),(V.sc (.int .u32 zNp)),(V.sc (.int .u16 zNq)),(V.sc (.int .u32 zNr))] 0 (yk [(V.sc (.int .i64 (1:Int))),(V.sc (.int .u32 (0:Int))),(V.sc (.int .u16 (0:Int))),(V.sc (.int .u32 (0:Int)))] 1 (List.take 3 r22))) fun r24 =>
 k_ret (0:Int) r24)))) (
 lt (IntKind.wrap .i64 ((p33:Int)+(1:Int))) fun x25 =>
 k_hbbbababa p2 p3 p31 p32 x25 b4 zNo zNp zNq zNr))))) (
 k_x0 p2 p3 b4 zNo zNp zNq zNr)
theorem zsw {β:Type} (xd:zz) (xp:zaD) (zs:zaW) (yo:zas) (ya:zj) (zd:xw) (L:Nat) (p2:List (List V)) (p3:Int) (p31:List (List V)) (p32 p33:Int) (b4:List V) (zNo zNp zNq zNr:Int) (X:St→Option β) (K:KT β):yj zbh (zbg xd xp zs yo ya zd L) 0 L zdf (zdZ p2 p3 p31 p32 p33 b4 zNo zNp zNq zNr) (zaz zeT X K)=zhs xd xp zs yo ya zd L p2 p3 p31 p32 p33 b4 zNo zNp zNq zNr (fun p9 b8=>K .ret (zjZ p9 b8)) (fun p2 p3 p31 p32 p33 b4 zNo zNp zNq zNr=>X (zdZ p2 p3 p31 p32 p33 b4 zNo zNp zNq zNr)) (fun p2 p3 b4 zNo zNp zNq zNr=>K (.exit 0) (zkK p2 p3 b4 zNo zNp zNq zNr)):=by kernel_rfl
def zfV {β:Type} (xd:zz) (xp:zaD) (zs:zaW) (yo:zas) (ya:zj) (zd:xw) (L:Nat) (p9:Int) (b8:List V) (k_fin:List V→Int→Option β):Option β :=
 chk (0=0∧(List.length b8)=4∧4≠0) (
 k_fin b8 p9)
theorem zpX {β:Type} (xd:zz) (xp:zaD) (zs:zaW) (yo:zas) (ya:zj) (zd:xw) (L:Nat) (p9:Int) (b8:List V) (k:KK β):(zx 0 (yI (yj zbh (zbg xd xp zs yo ya zd L) 0 L zhd) (zN 0 (CF.res zda) k))) .ret (zjZ p9 b8)=zfV xd xp zs yo ya zd L p9 b8 (fun zOw zOx=>k (V.tup [(V.agg zOw),(V.sc (.int .i64 zOx))]) []):=by kernel_rfl
def zcW {β:Type} (xd:zz) (xp:zaD) (zs:zaW) (yo:zas) (ya:zj) (zd:xw) (L:Nat) (p2:List (List V)) (p3:Int) (b4:List V) (zNo zNp zNq zNr:Int) (k_fin:List V→Int→Option β):Option β :=
 yo β L p2 (fun v26 =>
 lt (IntKind.wrap .i64 ((((List.length p2:Nat):Int):Int) - v26)) fun x27 =>
 ifb (decide (x27 ≥ (7:Int))) (
 ifb (decide (v26 > (0:Int))) (
 lt [(V.sc (.int .i64 (0:Int))),(V.sc (.int .u32 (0:Int))),(V.sc (.int .u16 (0:Int))),(V.sc (.int .u32 (0:Int)))] fun r28 =>
 chk (0=0∧(List.length r28)=4∧4≠0) (
 k_fin r28 (380:Int))) (
 chk (0+34≤(List.length b4)) (
 ya β L (List.map V.dem (List.take 34 b4)) p2 (3:Int) (fun v29 =>
 ifb ((((List.length v29:Nat):Int):Int) == (0:Int)) (
 lt [(V.sc (.int .i64 (0:Int))),(V.sc (.int .u32 (0:Int))),(V.sc (.int .u16 (0:Int))),(V.sc (.int .u32 (0:Int)))] fun r30 =>
 chk (0=0∧(List.length r30)=4∧4≠0) (
 k_fin r30 (390:Int))) (
 lt (IntKind.wrap .u64 ((List.length v29:Nat):Int)) fun x31 =>
 chk (x31≠0) (
 lt (Int.tmod p3 x31) fun x32 =>
 idx v29 x32 fun c33 =>
 chk ((List.length (List.take 3 c33))=3∧1+3≤4) (
 chk ((List.length (yk [(V.sc (.int .i64 (3:Int))),(V.sc (.int .u32 (0:Int))),(V.sc (.int .u16 (0:Int))),(V.sc (.int .u32 (0:Int)))] 1 (List.take 3 c33)))=4∧0+4≤4) (
 lt (yk [(V.sc (.int .i64 zNo)),(V.sc (.int .u32 zNp)),(V.sc (.int .u16 zNq)),(V.sc (.int .u32 zNr))] 0 (yk [(V.sc (.int .i64 (3:Int))),(V.sc (.int .u32 (0:Int))),(V.sc (.int .u16 (0:Int))),(V.sc (.int .u32 (0:Int)))] 1 (List.take 3 c33))) fun r34 =>
 chk (0=0∧(List.length r34)=4∧4≠0) (
 k_fin r34 (0:Int)))))))))) (
 chk (0+34≤(List.length b4)) (
 ya β L (List.map V.dem (List.take 34 b4)) p2 (2:Int) (fun v35 =>
 ifb ((((List.length v35:Nat):Int):Int) == (0:Int)) (
 lt [(V.sc (.int .i64 (0:Int))),(V.sc (.int .u32 (0:Int))),(V.sc (.int .u16 (0:Int))),(V.sc (.int .u32 (0:Int)))] fun r36 =>
 chk (0=0∧(List.length r36)=4∧4≠0) (
 k_fin r36 (390:Int))) (
 lt (IntKind.wrap .u64 ((List.length v35:Nat):Int)) fun x37 =>
 chk (x37≠0) (
 lt (Int.tmod p3 x37) fun x38 =>
 idx v35 x38 fun c39 =>
 chk ((List.length (List.take 3 c39))=3∧1+3≤4) (
 chk ((List.length (yk [(V.sc (.int .i64 (2:Int))),(V.sc (.int .u32 (0:Int))),(V.sc (.int .u16 (0:Int))),(V.sc (.int .u32 (0:Int)))] 1 (List.take 3 c39)))=4∧0+4≤4) (
 lt (yk [(V.sc (.int .i64 zNo)),(V.sc (.int .u32 zNp)),(V.sc (.int .u16 zNq)),(V.sc (.int .u32 zNr))] 0 (yk [(V.sc (.int .i64 (2:Int))),(V.sc (.int .u32 (0:Int))),(V.sc (.int .u16 (0:Int))),(V.sc (.int .u32 (0:Int)))] 1 (List.take 3 c39))) fun r40 =>
 chk (0=0∧(List.length r40)=4∧4≠0) (
 k_fin r40 (0:Int))))))))))
theorem zrb {β:Type} (xd:zz) (xp:zaD) (zs:zaW) (yo:zas) (ya:zj) (zd:xw) (L:Nat) (p2:List (List V)) (p3:Int) (b4:List V) (zNo zNp zNq zNr:Int) (k:KK β):(zx 0 (yI (yj zbh (zbg xd xp zs yo ya zd L) 0 L zhd) (zN 0 (CF.res zda) k))) (.exit 0) (zkK p2 p3 b4 zNo zNp zNq zNr)=zcW xd xp zs yo ya zd L p2 p3 b4 zNo zNp zNq zNr (fun zOw zOx=>k (V.tup [(V.agg zOw),(V.sc (.int .i64 zOx))]) []):=by kernel_rfl
def zdt {β:Type} (xd:zz) (xp:zaD) (zs:zaW) (yo:zas) (ya:zj) (zd:xw) (L:Nat) (k_ret:Int→List V→Option β) (k_x0:zmI β):Nat→List (List V)→Int→List (List V)→Int→Int→List V→Int→Int→Int→Int→Option β
 | 0,_,_,_,_,_,_,_,_,_,_=>none
 | n+1,p2,p3,p31,p32,p33,b4,zNo,zNp,zNq,zNr=>zhs xd xp zs yo ya zd L p2 p3 p31 p32 p33 b4 zNo zNp zNq zNr k_ret (fun p2 p3 p31 p32 p33 b4 zNo zNp zNq zNr=>zdt xd xp zs yo ya zd L k_ret k_x0 n p2 p3 p31 p32 p33 b4 zNo zNp zNq zNr) k_x0
theorem zj9 {β:Type} (xd:zz) (xp:zaD) (zs:zaW) (yo:zas) (ya:zj) (zd:xw) (L:Nat) (K:KT β):∀ (n:Nat) (p2:List (List V)) (p3:Int) (p31:List (List V)) (p32 p33:Int) (b4:List V) (zNo zNp zNq zNr:Int),xy (yj zbh (zbg xd xp zs yo ya zd L) 0 L zdf) zeT n (zdZ p2 p3 p31 p32 p33 b4 zNo zNp zNq zNr) K=zdt xd xp zs yo ya zd L (fun p9 b8=>K .ret (zjZ p9 b8)) (fun p2 p3 b4 zNo zNp zNq zNr=>K (.exit 0) (zkK p2 p3 b4 zNo zNp zNq zNr)) n p2 p3 p31 p32 p33 b4 zNo zNp zNq zNr:=by
 intro n
 induction n with
 | zero=>intros; rfl
 | succ n ih =>
  intro p2 p3 p31 p32 p33 b4 zNo zNp zNq zNr
  refine (zsw xd xp zs yo ya zd L p2 p3 p31 p32 p33 b4 zNo zNp zNq zNr (fun σ=>xy (yj zbh (zbg xd xp zs yo ya zd L) 0 L zdf) zeT n σ K) K).trans ?_
  simp only [ih]
  rfl
def zke {β:Type} (xd:zz) (xp:zaD) (zs:zaW) (yo:zas) (ya:zj) (zd:xw) (L:Nat) (p0:List V) (p1 p2:List (List V)) (p3:Int) (k_fin:List V→Int→Option β):Option β :=
 zpd xd xp zs yo ya zd L p0 p1 p2 p3 k_fin (fun p2 p3 p31 p32 p33 b4 zNo zNp zNq zNr=>zdt xd xp zs yo ya zd L (fun p9 b8=>zfV xd xp zs yo ya zd L p9 b8 k_fin) (fun p2 p3 b4 zNo zNp zNq zNr=>zcW xd xp zs yo ya zd L p2 p3 b4 zNo zNp zNq zNr k_fin) L p2 p3 p31 p32 p33 b4 zNo zNp zNq zNr)
theorem zy2 {β:Type} (xd:zz) (xp:zaD) (zs:zaW) (yo:zas) (ya:zj) (zd:xw) (L:Nat) (p0:List V) (p1 p2:List (List V)) (p3:Int) (k:KK β):xr zbh (zbg xd xp zs yo ya zd L) L zda [(V.agg p0),(V.sl 3 p1),(V.sl 4 p2),(V.sc (.int .u64 p3))] [] k=zke xd xp zs yo ya zd L p0 p1 p2 p3 (fun zOw zOx=>k (V.tup [(V.agg zOw),(V.sc (.int .i64 zOx))]) []):=by
 refine (zzp xd xp zs yo ya zd L p0 p1 p2 p3 k).trans ?_
 unfold zke
 first
  | (simp only [zj9,zpX,zrb]; done)
  | (simp only [zj9]; rfl)
abbrev yl:=∀ (β:Type),Nat→List V→List (List V)→List (List V)→Int→(List V→Int→Option β)→Option β
def xa (β:Type) (L:Nat) (p0:List V) (p1 p2:List (List V)) (p3:Int) (k_fin:List V→Int→Option β):Option β:=zke xd xp zs yo ya zd L p0 p1 p2 p3 k_fin
def zev (xa:yl) (L:Nat) (β:Type) (args:List V) (bor:Bor) (k:KK β):Option β:=match args,bor with
 | [a0,a1,a2,a3],[]=>aG a0 fun p0=>aL 3 a1 fun p1=>aL 4 a2 fun p2=>aI .u64 a3 fun p3=>xa β L p0 p1 p2 p3 (fun zOw zOx=>k (V.tup [(V.agg zOw),(V.sc (.int .i64 zOx))]) [])
 | _,_=>none
theorem zy1 (L:Nat) (β:Type) (args:List V) (bor:Bor) (k:KK β) (r:β) (h:zev xa L β args bor k=some r):xr zbh (zbg xd xp zs yo ya zd L) L zda args bor k=some r:=by
 unfold zev at h
 split at h
 ·have q:=y5 h; clear h; obtain ⟨p0,rfl,h⟩:=q
  have q:=xP h; clear h; obtain ⟨p1,rfl,h⟩:=q
  have q:=xP h; clear h; obtain ⟨p2,rfl,h⟩:=q
  have q:=zad h; clear h; obtain ⟨p3,rfl,h⟩:=q
  exact (zy2 xd xp zs yo ya zd L p0 p1 p2 p3 k).trans h
 ·cases h
def zca:CF:=⟨8,[.tmp 2],
 (.seq (.reg [oo 2 (.move (.const (.gs 4 [])) true)])
 (.fork (.reg [oo 3 (.move (tq 0) false),
   oo 4 (.nilT false (tq 3))])
 (tq 4)
 (.seq (.reg [oo 2 (.nilS 4 7)])
 (.seq (.mask (bl 4 8) (bl 128 8))
 .ret))
 (.seq (.reg [⟨(some 5),true,none,.buildSlice 4 0 [(.sc (.int .i64 0)),(.sc (.int .u32 0)),(.sc (.int .u16 0)),(.sc (.int .u32 0))] []⟩,
   oo 6 (.move (tq 0) false),
   ⟨(some 7),true,none,.append 4 24 (tq 5) (tq 6)⟩,
   oo 2 (.move (tq 7) true)])
 (.seq (.mask (bl 4 8) (bl 128 8))
 .ret))))⟩
def zfZ:Hint:=⟨[(0,0),(2,0),(3,3)],[(3,0),(3,2)],[none,some ((bl 4 8),(bl 128 8)),some ((bl 4 8),(bl 128 8))],[],[(2,0,[7])],false,false⟩
def zdO:Nat→Sh:=zV []
def zdR (L:Nat):CBC:=noC
def zhh {β:Type} (L:Nat) (p0:List (List V)) (k_fin:List (List V)→Option β):Option β :=
 lc p0 (
 k_fin ([]:List (List V))) (fun h0 t0 =>
 chk ((0+List.length (h0::t0)) * 24≤yu∧0+List.length (h0::t0)≤yu) (
 chk ((List.length (h0::t0))≠0∨(List.length (List.flatten (h0::t0)))=0) (
 k_fin (zp 4 (List.length (h0::t0)) (List.flatten (h0::t0))))))
theorem zmk {β:Type} (L:Nat) (p0:List (List V)) (k:KK β):xr zdO (zdR L) L zca [(V.sl 4 p0)] [] k=zhh L p0 (fun p0=>k (V.fr 4 p0) []):=by kernel_rfl
abbrev zcw:=∀ (β:Type),Nat→List (List V)→(List (List V)→Option β)→Option β
def xE (β:Type) (L:Nat) (p0:List (List V)) (k_fin:List (List V)→Option β):Option β:=zhh L p0 k_fin
def zcB (xE:zcw) (L:Nat) (β:Type) (args:List V) (bor:Bor) (k:KK β):Option β:=match args,bor with
 | [a0],[]=>aL 4 a0 fun p0=>xE β L p0 (fun p0=>k (V.fr 4 p0) [])
 | _,_=>none
theorem zmR (L:Nat) (β:Type) (args:List V) (bor:Bor) (k:KK β) (r:β) (h:zcB xE L β args bor k=some r):xr zdO (zdR L) L zca args bor k=some r:=by
 unfold zcB at h
 split at h
 ·have q:=xP h; clear h; obtain ⟨p0,rfl,h⟩:=q
  exact (zmk L p0 k).trans h
 ·cases h
def zlQ:CF:=⟨30,[.tmp 4,.tmp 5],
 (.seq (.reg [oo 3 (.box true (tq 1)),
   oo 4 (.move (.const (.gs 4 [])) true),
   oo 5 (.move (.const (.sc (.int .i64 0))) false)])
 (.seq (.block 0 (.seq (.reg [oo 7 (.move (tq 0) false),
   oo 8 (.call 270 [((tq 7),0)] []),
   oo 9 (.un .not (tq 8)),
   oo 10 (.move (tq 9) false),
   ⟨(some 11),false,(some (10,false)),.fieldAddr 0 (tq 3)⟩,
   ⟨(some 12),false,(some (10,false)),.load false 1 (tq 11) false⟩,
   ⟨(some 13),false,(some (10,false)),.call 285 [((tq 12),0)] []⟩,
   ⟨(some 14),false,(some (10,false)),.un .not (tq 13)⟩,
   oo 15 (.pick (tq 10) (.const (.sc (.bool true))) (tq 14)),
   oo 6 (.move (tq 15) false)])
 (.cond (tq 6)
 (.seq (.reg [oo 4 (.move (.const (.gs 4 [])) true),
   oo 5 (.move (.const (.sc (.int .i64 6))) false)])
 .ret)
 (.seq (.reg [oo 17 (.move (tq 0) false),
   oo 18 (.fieldAddr 1 (tq 3)),
   oo 19 (.load true 3 (tq 18) false),
   oo 20 (.call 278 [((tq 17),0),((tq 19),0)] []),
   oo 16 (.move (tq 20) false)])
 (.cond (tq 16)
 (.seq (.reg [oo 4 (.move (.const (.gs 4 [])) true),
   oo 5 (.move (.const (.sc (.int .i64 350))) false)])
 .ret)
 (.seq (.reg [oo 22 (.move (tq 0) false),
   oo 23 (.lenS (tq 22)),
   oo 24 (.bin .geq (tq 23) (.const (.sc (.int .i64 8)))),
   oo 21 (.move (tq 24) false)])
 (.cond (tq 21)
 (.seq (.reg [oo 4 (.move (.const (.gs 4 [])) true),
   oo 5 (.move (.const (.sc (.int .i64 380))) false)])
 .ret)
 .skip)))))))
 (.seq (.dreg [] [(oo 25 (.move (tq 0) false),q0),
   (oo 26 (.call 286 [((tq 25),0)] []),qc [3] [28]),
   (oo 27 (.load true 4 (tq 3) false),ql 3 [] []),
   (oo 28 (.buildSlice 4 1 [(.sc (.int .i64 0)),(.sc (.int .u32 0)),(.sc (.int .u16 0)),(.sc (.int .u32 0))] [(0,4,(tq 27))]),qn [] []),
   (oo 29 (.append 4 24 (tq 26) (tq 28)),q0),
   (oo 4 (.move (tq 29) true),q0),
   (oo 5 (.move (.const (.sc (.int .i64 0))) false),q0)])
 .ret)))⟩
def ztl:Hint:=⟨[(0,1),(2,0),(4,0),(6,0),(7,5)],[],[none,none,none,none,none,none,none,none],[],[],false,false⟩
def zp2:Nat→Sh:=zV [(12,(.int .i64))]
def zqr (xd:zz) (xn:zab) (zd:xw) (xE:zcw) (L:Nat):CBC:=(xA 286 (zcB xE L) (xA 278 (zex zd L) (xA 285 (ziA xn L) (xA 270 (zgm xd L) noC))))
def zxi {β:Type} (xd:zz) (xn:zab) (zd:xw) (xE:zcw) (L:Nat) (p0:List (List V)) (p1:List V) (k_fin:List (List V)→Int→Option β):Option β :=
 xd β L p0 (fun v0 =>
 ifb (!v0) (
 k_fin ([]:List (List V)) (6:Int)) (
 cI .i64 p1 0 fun v1 =>
 xn β L v1 (fun v2 =>
 ifb (!v2) (
 k_fin ([]:List (List V)) (6:Int)) (
 chk (1+3≤(List.length p1)) (
 zd β L p0 (List.take 3 (List.drop 1 p1)) (fun v3 =>
 ifb v3 (
 k_fin ([]:List (List V)) (350:Int)) (
 ifb (decide (((List.length p0:Nat):Int) ≥ (8:Int))) (
 k_fin ([]:List (List V)) (380:Int)) (
 xE β L p0 (fun v4 =>
 chk (0+4≤(List.length p1)) (
 chk ((List.length (List.take 4 p1))=4∧0+4≤4) (
 chk ((List.length v4+List.length (zp 4 1 (yk [(V.sc (.int .i64 (0:Int))),(V.sc (.int .u32 (0:Int))),(V.sc (.int .u16 (0:Int))),(V.sc (.int .u32 (0:Int)))] 0 (List.take 4 p1)))) * 24≤yu∧List.length v4+List.length (zp 4 1 (yk [(V.sc (.int .i64 (0:Int))),(V.sc (.int .u32 (0:Int))),(V.sc (.int .u16 (0:Int))),(V.sc (.int .u32 (0:Int)))] 0 (List.take 4 p1)))≤yu) (
 lt (v4++(zp 4 1 (yk [(V.sc (.int .i64 (0:Int))),(V.sc (.int .u32 (0:Int))),(V.sc (.int .u16 (0:Int))),(V.sc (.int .u32 (0:Int)))] 0 (List.take 4 p1)))) fun l5 =>
 k_fin l5 (0:Int)))))))))))))
theorem zAW {β:Type} (xd:zz) (xn:zab) (zd:xw) (xE:zcw) (L:Nat) (p0:List (List V)) (p1:List V) (k:KK β):xr zp2 (zqr xd xn zd xE L) L zlQ [(V.sl 4 p0),(V.agg p1)] [] k=zxi xd xn zd xE L p0 p1 (fun zOw zOx=>k (V.tup [(V.gs 4 zOw),(V.sc (.int .i64 zOx))]) []):=by kernel_rfl
abbrev zax:=∀ (β:Type),Nat→List (List V)→List V→(List (List V)→Int→Option β)→Option β
def yq (β:Type) (L:Nat) (p0:List (List V)) (p1:List V) (k_fin:List (List V)→Int→Option β):Option β:=zxi xd xn zd xE L p0 p1 k_fin
def zjF (yq:zax) (L:Nat) (β:Type) (args:List V) (bor:Bor) (k:KK β):Option β:=match args,bor with
 | [a0,a1],[]=>aL 4 a0 fun p0=>aG a1 fun p1=>yq β L p0 p1 (fun zOw zOx=>k (V.tup [(V.gs 4 zOw),(V.sc (.int .i64 zOx))]) [])
 | _,_=>none
theorem zBh (L:Nat) (β:Type) (args:List V) (bor:Bor) (k:KK β) (r:β) (h:zjF yq L β args bor k=some r):xr zp2 (zqr xd xn zd xE L) L zlQ args bor k=some r:=by
 unfold zjF at h
 split at h
 ·have q:=xP h; clear h; obtain ⟨p0,rfl,h⟩:=q
  have q:=y5 h; clear h; obtain ⟨p1,rfl,h⟩:=q
  exact (zAW xd xn zd xE L p0 p1 k).trans h
 ·cases h
def zoD:CF:=⟨40,[.tmp 0],
 (.seq (.reg [oo 0 (.move (.const (.sc (.bool false))) false)])
 (.seq (.reg [oo 8 (.build (rp 32 (.sc (.int .u8 0)) (rp 2 (.sl 5 []) [])) []),
   oo 9 (.call 263 [((tq 8),1),((.const (.gs 3 [])),0),((.const (.gs 4 [])),0),((.const (.sc (.int .u64 0))),0)] []),
   oo 7 (.move (tq 9) true),
   oo 10 (.pull (tq 7) 0),
   oo 11 (.pull (tq 7) 1),
   oo 1 (.alloc true [(.sc (.int .i64 0)),(.sc (.int .u32 0)),(.sc (.int .u16 0)),(.sc (.int .u32 0))]),
   oz (.store 4 (tq 1) (tq 10)),
   oo 2 (.move (tq 11) false)])
 (.seq (.reg [oo 13 (.build [(.sc (.int .u32 0)),(.sc (.int .u16 0)),(.sc (.int .u32 0))] [(0,1,(.const (.sc (.int .u32 65536))))]),
   oo 14 (.build [(.sc (.int .i64 0)),(.sc (.int .u32 0)),(.sc (.int .u16 0)),(.sc (.int .u32 0))] [(0,1,(.const (.sc (.int .i64 2)))),(1,3,(tq 13))]),
   oo 15 (.call 271 [((.const (.gs 4 [])),0),((tq 14),0)] []),
   oo 12 (.move (tq 15) true),
   oo 16 (.extract (tq 12) 0),
   oo 17 (.pull (tq 12) 1),
   oo 3 (.move (tq 16) false),
   oo 4 (.move (tq 17) false)])
 (.seq (.reg [oo 19 (.move (tq 3) false),
   oo 20 (.build [(.sc (.int .u32 0)),(.sc (.int .u16 0)),(.sc (.int .u32 0))] [(0,1,(.const (.sc (.int .u32 65539))))]),
   oo 21 (.build [(.sc (.int .i64 0)),(.sc (.int .u32 0)),(.sc (.int .u16 0)),(.sc (.int .u32 0))] [(0,1,(.const (.sc (.int .i64 2)))),(1,3,(tq 20))]),
   oo 22 (.call 271 [((tq 19),0),((tq 21),0)] []),
   oo 18 (.move (tq 22) true),
   oo 23 (.extract (tq 18) 0),
   oo 24 (.pull (tq 18) 1),
   oo 5 (.move (tq 23) false),
   oo 6 (.move (tq 24) false)])
 (.seq (.reg [oo 25 (.move (tq 2) false),
   oo 26 (.bin .eql (tq 25) (.const (.sc (.int .i64 390)))),
   oo 27 (.move (tq 26) false),
   ⟨(some 28),false,(some (27,true)),.move (tq 4) false⟩,
   ⟨(some 29),false,(some (27,true)),.bin .eql (tq 28) (.const (.sc (.int .i64 0)))⟩,
   oo 30 (.pick (tq 27) (tq 29) (.const (.sc (.bool false)))),
   oo 31 (.move (tq 30) false),
   ⟨(some 32),false,(some (31,true)),.move (tq 3) false⟩,
   ⟨(some 33),false,(some (31,true)),.lenS (tq 32)⟩,
   ⟨(some 34),false,(some (31,true)),.bin .eql (tq 33) (.const (.sc (.int .i64 1)))⟩,
   oo 35 (.pick (tq 31) (tq 34) (.const (.sc (.bool false)))),
   oo 36 (.move (tq 35) false),
   ⟨(some 37),false,(some (36,true)),.move (tq 6) false⟩,
   ⟨(some 38),false,(some (36,true)),.bin .eql (tq 37) (.const (.sc (.int .i64 350)))⟩,
   oo 39 (.pick (tq 36) (tq 38) (.const (.sc (.bool false)))),
   oo 0 (.move (tq 39) false)])
 .ret)))))⟩
def zvJ:Hint:=⟨[(1,2),(2,3),(2,4),(3,4),(3,5)],[],[none],[],[],false,false⟩
def ztg:Nat→Sh:=zV []
def ztj (xa:yl) (yq:zax) (L:Nat):CBC:=(xA 271 (zjF yq L) (xA 263 (zev xa L) noC))
def zzQ {β:Type} (xa:yl) (yq:zax) (L:Nat) (k_fin:Bool→Option β):Option β :=
 xa β L (List.replicate 32 (V.sc (.int .u8 (0:Int)))++[(V.sl 5 ([]:List (List V))),(V.sl 5 ([]:List (List V)))]) ([]:List (List V)) ([]:List (List V)) (0:Int) (fun v0 v1 =>
 chk ((List.length v0)=4∧0+4≤4) (
 lt (yk [(V.sc (.int .i64 (0:Int))),(V.sc (.int .u32 (0:Int))),(V.sc (.int .u16 (0:Int))),(V.sc (.int .u32 (0:Int)))] 0 v0) fun r2 =>
 yq β L ([]:List (List V)) [(V.sc (.int .i64 (2:Int))),(V.sc (.int .u32 (65536:Int))),(V.sc (.int .u16 (0:Int))),(V.sc (.int .u32 (0:Int)))] (fun v3 v4 =>
 yq β L v3 [(V.sc (.int .i64 (2:Int))),(V.sc (.int .u32 (65539:Int))),(V.sc (.int .u16 (0:Int))),(V.sc (.int .u32 (0:Int)))] (fun v5 v6 =>
 ifb ((v1:Int) == (390:Int)) (
 ifb ((v4:Int) == (0:Int)) (
 ifb ((((List.length v3:Nat):Int):Int) == (1:Int)) (
 k_fin ((v6:Int) == (350:Int))) (
 k_fin false)) (
 k_fin false)) (
 k_fin false)))))
theorem zEc {β:Type} (xa:yl) (yq:zax) (L:Nat) (k:KK β):xr ztg (ztj xa yq L) L zoD [] [] k=zzQ xa yq L (fun p0=>k (V.sc (.bool p0)) []):=by kernel_rfl
abbrev zm:=∀ (β:Type),Nat→(Bool→Option β)→Option β
def yb (β:Type) (L:Nat) (k_fin:Bool→Option β):Option β:=zzQ xa yq L k_fin
def zhJ (yb:zm) (L:Nat) (β:Type) (args:List V) (bor:Bor) (k:KK β):Option β:=match args,bor with
 | [],[]=>yb β L (fun p0=>k (V.sc (.bool p0)) [])
 | _,_=>none
theorem zDw (L:Nat) (β:Type) (args:List V) (bor:Bor) (k:KK β) (r:β) (h:zhJ yb L β args bor k=some r):xr ztg (ztj xa yq L) L zoD args bor k=some r:=by
 unfold zhJ at h
 split at h
 ·exact (zEc xa yq L k).trans h
 ·cases h
def zsm:CF:=⟨6,[.tmp 2],
 (.seq (.reg [oo 2 (.move (.const (.sc (.pointer none))) false)])
 (.seq (.reg [oo 3 (.move (tq 0) false),
   oo 4 (.build [(.sl 1 []),(.sc (.int .i64 0))] [(0,1,(tq 3))]),
   oo 5 (.box false (tq 4)),
   oo 2 (.move (tq 5) false)])
 .ret))⟩
def zyS:Hint:=⟨[],[],[none],[],[],false,false⟩
def zwh:Nat→Sh:=zV []
def zwq (L:Nat):CBC:=noC
def zDv {β:Type} (L:Nat) (p0:List (List V)) (k_fin:List (List V)→Int→Option β):Option β :=
 k_fin p0 (0:Int)
theorem zFG {β:Type} (L:Nat) (p0:List (List V)) (k:KK β):xr zwh (zwq L) L zsm [(V.sl 1 p0)] [] k=zDv L p0 (fun zOw zOx=>k (V.bx false [(V.sl 1 zOw),(V.sc (.int .i64 zOx))]) []):=by kernel_rfl
abbrev zn:=∀ (β:Type),Nat→List (List V)→(List (List V)→Int→Option β)→Option β
def xb (β:Type) (L:Nat) (p0:List (List V)) (k_fin:List (List V)→Int→Option β):Option β:=zDv L p0 k_fin
def ziN (xb:zn) (L:Nat) (β:Type) (args:List V) (bor:Bor) (k:KK β):Option β:=match args,bor with
 | [a0],[]=>aL 1 a0 fun p0=>xb β L p0 (fun zOw zOx=>k (V.bx false [(V.sl 1 zOw),(V.sc (.int .i64 zOx))]) [])
 | _,_=>none
theorem zFL (L:Nat) (β:Type) (args:List V) (bor:Bor) (k:KK β) (r:β) (h:ziN xb L β args bor k=some r):xr zwh (zwq L) L zsm args bor k=some r:=by
 unfold ziN at h
 split at h
 ·have q:=xP h; clear h; obtain ⟨p0,rfl,h⟩:=q
  exact (zFG L p0 k).trans h
 ·cases h
def zjm:CF:=⟨13,[.tmp 2],
 (.seq (.reg [oo 2 (.move (.const (.sc (.bool false))) false)])
 (.seq (.dreg [] [(oo 3 (.move (tq 0) false),q0),
   (oo 4 (.nilCheck (tq 3)),q0),
   (oo 5 (.fieldAddr 1 (tq 4)),q0),
   (oo 6 (.load false 1 (tq 5) false),ql 0 [] []),
   (oo 7 (.move (tq 0) false),q0),
   (oo 8 (.nilCheck (tq 7)),q0),
   (oo 9 (.fieldAddr 0 (tq 8)),q0),
   (oo 10 (.load false 1 (tq 9) false),ql 0 [] []),
   (oo 11 (.lenS (tq 10)),q0),
   (oo 12 (.bin .lss (tq 6) (tq 11)),q0),
   (oo 2 (.move (tq 12) false),q0)])
 .ret))⟩
def zrg:Hint:=⟨[],[],[none],[],[],false,false⟩
def znG:Nat→Sh:=zV []
def znX (L:Nat):CBC:=noC
def zkH {β:Type} (L:Nat) (zNi:List (List V)) (zNl:Int) (k_fin:Bool→List (List V)→Int→Option β):Option β :=
 k_fin (decide (zNl < ((List.length zNi:Nat):Int))) zNi zNl
theorem zy9 {β:Type} (L:Nat) (zNi:List (List V)) (zNl:Int) (k:KK β):xr znG (znX L) L zjm [(V.ptr 0 0)] [(.live false [(V.sl 1 zNi),(V.sc (.int .i64 zNl))])] k=zkH L zNi zNl (fun p0 zNi zNl=>k (V.sc (.bool p0)) [(.live false [(V.sl 1 zNi),(V.sc (.int .i64 zNl))])]):=by kernel_rfl
abbrev zky:=∀ (β:Type),Nat→List (List V)→Int→(Bool→List (List V)→Int→Option β)→Option β
def xY (β:Type) (L:Nat) (zNi:List (List V)) (zNl:Int) (k_fin:Bool→List (List V)→Int→Option β):Option β:=zkH L zNi zNl k_fin
def zkM (xY:zky) (L:Nat) (β:Type) (args:List V) (bor:Bor) (k:KK β):Option β:=match args,bor with
 | [a0],[(.live false [w0_0,w0_1])]=>aP 0 0 a0 (aL 1 w0_0 fun zNi=>aI .i64 w0_1 fun zNl=>xY β L zNi zNl (fun p0 zNi zNl=>k (V.sc (.bool p0)) [(.live false [(V.sl 1 zNi),(V.sc (.int .i64 zNl))])]))
 | _,_=>none
theorem zzj (L:Nat) (β:Type) (args:List V) (bor:Bor) (k:KK β) (r:β) (h:zkM xY L β args bor k=some r):xr znG (znX L) L zjm args bor k=some r:=by
 unfold zkM at h
 split at h
 ·have q:=zkV h; clear h; obtain ⟨rfl,h⟩:=q
  have q:=xP h; clear h; obtain ⟨zNi,rfl,h⟩:=q
  have q:=zad h; clear h; obtain ⟨zNl,rfl,h⟩:=q
  exact (zy9 L zNi zNl k).trans h
 ·cases h
def zsg:CF:=⟨15,[.tmp 4],
 (.seq (.reg [oo 4 (.move (.const (.sc (.int .i64 0))) false)])
 (.seq (.reg [oo 6 (.move (tq 0) false),
   oo 7 (.move (tq 1) false),
   oo 8 (.bin .rem (tq 6) (tq 7)),
   oo 5 (.move (tq 8) false)])
 (.seq (.seq (.reg [oo 9 (.move (tq 5) false),
   oo 10 (.bin .lss (tq 9) (.const (.sc (.int .i64 0))))])
 (.cond (tq 10)
 (.reg [oo 11 (.move (tq 5) false),
   oo 12 (.move (tq 1) false),
   oo 13 (.bin .add (tq 11) (tq 12)),
   oo 5 (.move (tq 13) false)])
 .skip))
 (.seq (.reg [oo 14 (.move (tq 5) false),
   oo 4 (.move (tq 14) false)])
 .ret))))⟩
def zyK:Hint:=⟨[],[],[none,none],[],[],false,false⟩
def zww:Nat→Sh:=zV []
def zwD (L:Nat):CBC:=noC
def zt8 {β:Type} (L:Nat) (p0 p1:Int) (k_fin:Int→Option β):Option β :=
 chk (p1≠0) (
 lt (Int.tmod p0 p1) fun x0 =>
 ifb (decide (x0 < (0:Int))) (
 lt (IntKind.wrap .i64 ((x0:Int)+p1)) fun x1 =>
 k_fin x1) (
 k_fin x0))
theorem zFK {β:Type} (L:Nat) (p0 p1:Int) (k:KK β):xr zww (zwD L) L zsg [(V.sc (.int .i64 p0)),(V.sc (.int .i64 p1))] [] k=zt8 L p0 p1 (fun p0=>k (V.sc (.int .i64 p0)) []):=by kernel_rfl
abbrev zH:=∀ (β:Type),Nat→Int→Int→(Int→Option β)→Option β
def yf (β:Type) (L:Nat) (p0 p1:Int) (k_fin:Int→Option β):Option β:=zt8 L p0 p1 k_fin
def zns (yf:zH) (L:Nat) (β:Type) (args:List V) (bor:Bor) (k:KK β):Option β:=match args,bor with
 | [a0,a1],[]=>aI .i64 a0 fun p0=>aI .i64 a1 fun p1=>yf β L p0 p1 (fun p0=>k (V.sc (.int .i64 p0)) [])
 | _,_=>none
theorem zFB (L:Nat) (β:Type) (args:List V) (bor:Bor) (k:KK β) (r:β) (h:zns yf L β args bor k=some r):xr zww (zwD L) L zsg args bor k=some r:=by
 unfold zns at h
 split at h
 ·have q:=zad h; clear h; obtain ⟨p0,rfl,h⟩:=q
  have q:=zad h; clear h; obtain ⟨p1,rfl,h⟩:=q
  exact (zFK L p0 p1 k).trans h
 ·cases h
def zjw:CF:=⟨28,[.tmp 4],
 (.seq (.reg [oo 4 (.move (.const (.sc (.int .i64 0))) false)])
 (.seq (.seq (.reg [oo 5 (.move (tq 0) false),
   oo 6 (.call 247 [((tq 5),0)] []),
   oo 7 (.un .not (tq 6))])
 (.cond (tq 7)
 (.seq (.reg [oo 4 (.move (.const (.sc (.int .i64 0))) false)])
 .ret)
 .skip))
 (.seq (.reg [oo 8 (.move (tq 0) false),
   oo 9 (.nilCheck (tq 8)),
   oo 10 (.fieldAddr 1 (tq 9)),
   oo 11 (.load false 1 (tq 10) false),
   oo 12 (.bin .add (tq 11) (.const (.sc (.int .i64 1)))),
   oo 13 (.nilCheck (tq 8)),
   oo 14 (.fieldAddr 1 (tq 13)),
   oz (.store 1 (tq 14) (tq 12))])
 (.seq (.dreg [] [(oo 15 (.move (tq 0) false),q0),
   (oo 16 (.nilCheck (tq 15)),q0),
   (oo 17 (.fieldAddr 0 (tq 16)),q0),
   (oo 18 (.load false 1 (tq 17) false),ql 0 [] []),
   (oo 19 (.move (tq 0) false),q0),
   (oo 20 (.nilCheck (tq 19)),q0),
   (oo 21 (.fieldAddr 1 (tq 20)),q0),
   (oo 22 (.load false 1 (tq 21) false),ql 0 [] []),
   (oo 23 (.bin .sub (tq 22) (.const (.sc (.int .i64 1)))),q0),
   (oo 24 (.indexAddrS 1 (tq 18) (tq 23)),q0),
   (oo 25 (.load false 1 (tq 24) false),q0),
   (oo 26 (.move (tq 1) false),q0),
   (oo 27 (.call 217 [((tq 25),0),((tq 26),0)] []),q0),
   (oo 4 (.move (tq 27) false),q0)])
 .ret))))⟩
def zrj:Hint:=⟨[],[],[none,none,none],[],[],false,false⟩
def znK:Nat→Sh:=zV [(25,(.int .i64))]
def zn7 (xY:zky) (yf:zH) (L:Nat):CBC:=(xA 217 (zns yf L) (xA 247 (zkM xY L) noC))
def zkP {β:Type} (xY:zky) (yf:zH) (L:Nat) (p1:Int) (zNi:List (List V)) (zNl:Int) (k_fin:Int→List (List V)→Int→Option β):Option β :=
 xY β L zNi zNl (fun v0 v1 v2 =>
 ifb (!v0) (
 k_fin (0:Int) v1 v2) (
 lt (IntKind.wrap .i64 ((v2:Int)+(1:Int))) fun x3 =>
 lt (IntKind.wrap .i64 ((x3:Int) - (1:Int))) fun x4 =>
 idx v1 x4 fun c5 =>
 cI .i64 c5 0 fun v6 =>
 yf β L v6 p1 (fun v7 =>
 k_fin v7 v1 x3)))
theorem zy4 {β:Type} (xY:zky) (yf:zH) (L:Nat) (p1:Int) (zNi:List (List V)) (zNl:Int) (k:KK β):xr znK (zn7 xY yf L) L zjw [(V.ptr 0 0),(V.sc (.int .i64 p1))] [(.live false [(V.sl 1 zNi),(V.sc (.int .i64 zNl))])] k=zkP xY yf L p1 zNi zNl (fun p0 zNi zNl=>k (V.sc (.int .i64 p0)) [(.live false [(V.sl 1 zNi),(V.sc (.int .i64 zNl))])]):=by kernel_rfl
abbrev xi:=∀ (β:Type),Nat→Int→List (List V)→Int→(Int→List (List V)→Int→Option β)→Option β
def za (β:Type) (L:Nat) (p1:Int) (zNi:List (List V)) (zNl:Int) (k_fin:Int→List (List V)→Int→Option β):Option β:=zkP xY yf L p1 zNi zNl k_fin
def zb0 (za:xi) (L:Nat) (β:Type) (args:List V) (bor:Bor) (k:KK β):Option β:=match args,bor with
 | [a0,a1],[(.live false [w0_0,w0_1])]=>aP 0 0 a0 (aI .i64 a1 fun p1=>aL 1 w0_0 fun zNi=>aI .i64 w0_1 fun zNl=>za β L p1 zNi zNl (fun p0 zNi zNl=>k (V.sc (.int .i64 p0)) [(.live false [(V.sl 1 zNi),(V.sc (.int .i64 zNl))])]))
 | _,_=>none
theorem zzs (L:Nat) (β:Type) (args:List V) (bor:Bor) (k:KK β) (r:β) (h:zb0 za L β args bor k=some r):xr znK (zn7 xY yf L) L zjw args bor k=some r:=by
 unfold zb0 at h
 split at h
 ·have q:=zkV h; clear h; obtain ⟨rfl,h⟩:=q
  have q:=zad h; clear h; obtain ⟨p1,rfl,h⟩:=q
  have q:=xP h; clear h; obtain ⟨zNi,rfl,h⟩:=q
  have q:=zad h; clear h; obtain ⟨zNl,rfl,h⟩:=q
  exact (zy4 xY yf L p1 zNi zNl k).trans h
 ·cases h
def zqP:CF:=⟨10,[.cell 2 true 32],
 (.seq (.reg [oo 2 (.alloc true (rp 32 (.sc (.int .u8 0)) []))])
 (.seq (.reg [oo 3 (.move (tq 0) false),
   oo 4 (.call 231 [((tq 3),0),((.const (.sc (.int .i64 5))),0)] []),
   oo 5 (.conv .u8 (tq 4)),
   oo 6 (.move (tq 0) false),
   oo 7 (.call 231 [((tq 6),0),((.const (.sc (.int .i64 7))),0)] []),
   oo 8 (.conv .u8 (tq 7)),
   oo 9 (.build (rp 32 (.sc (.int .u8 0)) []) [(0,1,(tq 5)),(31,1,(tq 8))]),
   oz (.store 32 (tq 2) (tq 9))])
 .ret))⟩
def zwR:Hint:=⟨[],[],[none],[],[],false,false⟩
def zu3:Nat→Sh:=zV []
def zu6 (za:xi) (L:Nat):CBC:=(xA 231 (zb0 za L) noC)
def zv7 {β:Type} (za:xi) (L:Nat) (zNi:List (List V)) (zNl:Int) (k_fin:List V→List (List V)→Int→Option β):Option β :=
 za β L (5:Int) zNi zNl (fun v0 v1 v2 =>
 lt (IntKind.wrap .u8 v0) fun x3 =>
 za β L (7:Int) v1 v2 (fun v4 v5 v6 =>
 lt (IntKind.wrap .u8 v4) fun x7 =>
 lt ([(V.sc (.int .u8 x3))]++List.replicate 30 (V.sc (.int .u8 (0:Int)))++[(V.sc (.int .u8 x7))]) fun r8 =>
 chk (0=0∧(List.length r8)=32∧32≠0) (
 k_fin r8 v5 v6)))
theorem zEA {β:Type} (za:xi) (L:Nat) (zNi:List (List V)) (zNl:Int) (k:KK β):xr zu3 (zu6 za L) L zqP [(V.ptr 0 0)] [(.live false [(V.sl 1 zNi),(V.sc (.int .i64 zNl))])] k=zv7 za L zNi zNl (fun p0 zNi zNl=>k (V.agg p0) [(.live false [(V.sl 1 zNi),(V.sc (.int .i64 zNl))])]):=by kernel_rfl
abbrev zdy:=∀ (β:Type),Nat→List (List V)→Int→(List V→List (List V)→Int→Option β)→Option β
def yF (β:Type) (L:Nat) (zNi:List (List V)) (zNl:Int) (k_fin:List V→List (List V)→Int→Option β):Option β:=zv7 za L zNi zNl k_fin
def zsh (yF:zdy) (L:Nat) (β:Type) (args:List V) (bor:Bor) (k:KK β):Option β:=match args,bor with
 | [a0],[(.live false [w0_0,w0_1])]=>aP 0 0 a0 (aL 1 w0_0 fun zNi=>aI .i64 w0_1 fun zNl=>yF β L zNi zNl (fun p0 zNi zNl=>k (V.agg p0) [(.live false [(V.sl 1 zNi),(V.sc (.int .i64 zNl))])]))
 | _,_=>none
theorem zEQ (L:Nat) (β:Type) (args:List V) (bor:Bor) (k:KK β) (r:β) (h:zsh yF L β args bor k=some r):xr zu3 (zu6 za L) L zqP args bor k=some r:=by
 unfold zsh at h
 split at h
 ·have q:=zkV h; clear h; obtain ⟨rfl,h⟩:=q
  have q:=xP h; clear h; obtain ⟨zNi,rfl,h⟩:=q
  have q:=zad h; clear h; obtain ⟨zNl,rfl,h⟩:=q
  exact (zEA za L zNi zNl k).trans h
 ·cases h
def zf1:CC:=(.seq (.reg [oo 8 (.bin .lss (tq 7) (tq 6))])
 (.seq (.cond (tq 8)
 .skip
 (.seq (.mask (bl 8 22) (bl 4194287 22))
 (.exit 0)))
 (.seq (.block 1 (.seq (.reg [oo 9 (.move (tq 7) false),
   oo 4 (.move (tq 9) false)])
 (.reg [oo 10 (.move (tq 3) false),
   oo 11 (.move (tq 0) false),
   oo 12 (.move (tq 4) false),
   oo 13 (.indexAddrS 1 (tq 11) (tq 12)),
   oo 14 (.load false 1 (tq 13) false),
   oo 15 (.conv .u64 (tq 14)),
   oo 16 (.move (tq 4) false),
   oo 17 (.bin .mul (.const (.sc (.int .i64 8))) (tq 16)),
   oo 18 (.bin .shl (tq 15) (tq 17)),
   oo 19 (.bin .or (tq 10) (tq 18)),
   oo 3 (.move (tq 19) false)])))
 (.reg [oo 20 (.bin .add (tq 7) (.const (.sc (.int .i64 1)))),
   oo 7 (.move (tq 20) false)]))))
def zq0:CC:=(.seq (.reg [oo 21 (.move (tq 3) false),
   oo 2 (.move (tq 21) false)])
 .ret)
def zgE:CF:=⟨22,[.tmp 2],
 (.seq (.reg [oo 2 (.move (.const (.sc (.int .u64 0))) false)])
 (.seq (.reg [oo 3 (.move (.const (.sc (.int .u64 0))) false)])
 (.seq (.seq (.reg [oo 5 (.move (tq 0) false),
   oo 6 (.lenS (tq 5)),
   oo 7 (.move (.const (.sc (.int .i64 0))) false)])
 (.block 0 (.loop (bl 201 22) (bl 4194287 22)
 zf1)))
 zq0)))⟩
def zvE:Hint:=⟨[],[],[none,some ((bl 201 22),(bl 4194287 22)),none,some ((bl 8 22),(bl 4194287 22)),none,none],[],[],false,false⟩
def zdw:Nat→Sh:=zV [(14,(.int .u8))]
def zdx (L:Nat):CBC:=noC
def zjB:St→St:=zaE 0 (bl 201 22) (bl 4194287 22)
def zgZ (p0:List (List V)) (p3 p6 p7:Int):St:=⟨((V.sl 1 p0)::(jn 2 ((V.sc (.int .u64 p3))::(jn 2 ((V.sc (.int .i64 p6))::((V.sc (.int .i64 p7))::(jn 14 []))))))),(gn 22 [])⟩
def zo4 (p3:Int):St:=⟨(jn 3 ((V.sc (.int .u64 p3))::(jn 18 []))),(gn 22 [])⟩
def zuo {β:Type} (L:Nat) (p0:List (List V)) (k_hbbaba:List (List V)→Int→Int→Int→Option β):Option β :=
 k_hbbaba p0 (0:Int) ((List.length p0:Nat):Int) (0:Int)
theorem zDd {β:Type} (L:Nat) (p0:List (List V)) (k:KK β):xr zdw (zdx L) L zgE [(V.sl 1 p0)] [] k=zuo L p0 (fun p0 p3 p6 p7=>xy (yj zdw (zdx L) 0 L zf1) zjB L (zgZ p0 p3 p6 p7) (zx 0 (yI (yj zdw (zdx L) 0 L zq0) (zN 0 (CF.res zgE) k)))):=by kernel_rfl
def zod {β:Type} (L:Nat) (p0:List (List V)) (p3 p6 p7:Int) (k_hbbaba:List (List V)→Int→Int→Int→Option β) (k_x0:Int→Option β):Option β :=
 ifb (decide (p7 < p6)) (
 idx p0 p7 fun c0 =>
 cI .u8 c0 0 fun v1 =>
 lt (IntKind.wrap .u64 v1) fun x2 =>
 lt (IntKind.wrap .i64 (((8:Int):Int) * p7)) fun x3 =>
 chk (0≤x3) (
 lt (zsX .u64 x2 x3) fun x4 =>
 lt (ior .u64 p3 x4) fun x5 =>
 lt (IntKind.wrap .i64 ((p7:Int)+(1:Int))) fun x6 =>
 k_hbbaba p0 x5 p6 x6)) (
 k_x0 p3)
theorem zyb {β:Type} (L:Nat) (p0:List (List V)) (p3 p6 p7:Int) (X:St→Option β) (K:KT β):yj zdw (zdx L) 0 L zf1 (zgZ p0 p3 p6 p7) (zaz zjB X K)=zod L p0 p3 p6 p7 (fun p0 p3 p6 p7=>X (zgZ p0 p3 p6 p7)) (fun p3=>K (.exit 0) (zo4 p3)):=by kernel_rfl
def zrq {β:Type} (L:Nat) (p3:Int) (k_fin:Int→Option β):Option β :=
 k_fin p3
theorem zwr {β:Type} (L:Nat) (p3:Int) (k:KK β):(zx 0 (yI (yj zdw (zdx L) 0 L zq0) (zN 0 (CF.res zgE) k))) (.exit 0) (zo4 p3)=zrq L p3 (fun p0=>k (V.sc (.int .u64 p0)) []):=by kernel_rfl
def zgN {β:Type} (L:Nat) (k_x0:Int→Option β):Nat→List (List V)→Int→Int→Int→Option β
 | 0,_,_,_,_=>none
 | n+1,p0,p3,p6,p7=>zod L p0 p3 p6 p7 (fun p0 p3 p6 p7=>zgN L k_x0 n p0 p3 p6 p7) k_x0
theorem zp0 {β:Type} (L:Nat) (K:KT β):∀ (n:Nat) (p0:List (List V)) (p3 p6 p7:Int),xy (yj zdw (zdx L) 0 L zf1) zjB n (zgZ p0 p3 p6 p7) K=zgN L (fun p3=>K (.exit 0) (zo4 p3)) n p0 p3 p6 p7:=by
 intro n
 induction n with
 | zero=>intros; rfl
 | succ n ih =>
  intro p0 p3 p6 p7
  refine (zyb L p0 p3 p6 p7 (fun σ=>xy (yj zdw (zdx L) 0 L zf1) zjB n σ K) K).trans ?_
  simp only [ih]
  rfl
def zq6 {β:Type} (L:Nat) (p0:List (List V)) (k_fin:Int→Option β):Option β :=
 zuo L p0 (fun p0 p3 p6 p7=>zgN L (fun p3=>zrq L p3 k_fin) L p0 p3 p6 p7)
theorem zC2 {β:Type} (L:Nat) (p0:List (List V)) (k:KK β):xr zdw (zdx L) L zgE [(V.sl 1 p0)] [] k=zq6 L p0 (fun p0=>k (V.sc (.int .u64 p0)) []):=by
 refine (zDd L p0 k).trans ?_
 unfold zq6
 first
  | (simp only [zp0,zwr]; done)
  | (simp only [zp0]; rfl)
abbrev zbD:=∀ (β:Type),Nat→List (List V)→(Int→Option β)→Option β
def zu (β:Type) (L:Nat) (p0:List (List V)) (k_fin:Int→Option β):Option β:=zq6 L p0 k_fin
def zmE (zu:zbD) (L:Nat) (β:Type) (args:List V) (bor:Bor) (k:KK β):Option β:=match args,bor with
 | [a0],[]=>aL 1 a0 fun p0=>zu β L p0 (fun p0=>k (V.sc (.int .u64 p0)) [])
 | _,_=>none
theorem zCN (L:Nat) (β:Type) (args:List V) (bor:Bor) (k:KK β) (r:β) (h:zmE zu L β args bor k=some r):xr zdw (zdx L) L zgE args bor k=some r:=by
 unfold zmE at h
 split at h
 ·have q:=xP h; clear h; obtain ⟨p0,rfl,h⟩:=q
  exact (zC2 L p0 k).trans h
 ·cases h
def zpM:CF:=⟨8,[.cell 2 true 2],
 (.seq (.reg [oo 1 (.box true (tq 0)),
   oo 2 (.alloc true [(.sc (.int .u64 0)),(.sc (.int .u64 0))])])
 (.seq (.dreg [1] [(oo 3 (.sliceA 32 1 (tq 1) none (some (.const (.sc (.int .i64 8)))) none),q1),
   (oo 4 (.call 115 [((tq 3),0)] []),q1),
   (oo 5 (.sliceA 32 1 (tq 1) (some (.const (.sc (.int .i64 8)))) (some (.const (.sc (.int .i64 16)))) none),q1),
   (oo 6 (.call 115 [((tq 5),0)] []),q0),
   (oo 7 (.build [(.sc (.int .u64 0)),(.sc (.int .u64 0))] [(0,1,(tq 4)),(1,1,(tq 6))]),q0),
   (oz (.store 2 (tq 2) (tq 7)),q0)])
 .ret))⟩
def zxo:Hint:=⟨[],[],[none],[(1,[1])],[],false,false⟩
def zuq:Nat→Sh:=zV []
def zuh (zu:zbD) (L:Nat):CBC:=(xA 115 (zmE zu L) noC)
def zwf {β:Type} (zu:zbD) (L:Nat) (p0:List V) (k_fin:List V→Option β):Option β :=
 chk ((List.length p0)≠0) (
 chk (0+32 * 1≤(List.length p0)) (
 zu β L (zp 1 8 p0) (fun v0 =>
 chk (0+32 * 1≤(List.length p0)) (
 zu β L (zp 1 8 (List.drop 8 p0)) (fun v1 =>
 lt [(V.sc (.int .u64 v0)),(V.sc (.int .u64 v1))] fun r2 =>
 chk (0=0∧(List.length r2)=2∧2≠0) (
 k_fin r2))))))
theorem zEM {β:Type} (zu:zbD) (L:Nat) (p0:List V) (k:KK β):xr zuq (zuh zu L) L zpM [(V.agg p0)] [] k=zwf zu L p0 (fun p0=>k (V.agg p0) []):=by kernel_rfl
abbrev zi9:=∀ (β:Type),Nat→List V→(List V→Option β)→Option β
def yV (β:Type) (L:Nat) (p0:List V) (k_fin:List V→Option β):Option β:=zwf zu L p0 k_fin
def zoi (yV:zi9) (L:Nat) (β:Type) (args:List V) (bor:Bor) (k:KK β):Option β:=match args,bor with
 | [a0],[]=>aG a0 fun p0=>yV β L p0 (fun p0=>k (V.agg p0) [])
 | _,_=>none
theorem zEF (L:Nat) (β:Type) (args:List V) (bor:Bor) (k:KK β) (r:β) (h:zoi yV L β args bor k=some r):xr zuq (zuh zu L) L zpM args bor k=some r:=by
 unfold zoi at h
 split at h
 ·have q:=y5 h; clear h; obtain ⟨p0,rfl,h⟩:=q
  exact (zEM zu L p0 k).trans h
 ·cases h
def ze2:CC:=(.seq (.reg [oo 12 (.bin .lss (tq 11) (tq 10))])
 (.seq (.cond (tq 12)
 .skip
 (.seq (.mask (bl 32 24) (bl 16777151 24))
 (.exit 0)))
 (.seq (.block 1 (.seq (.reg [oo 13 (.move (tq 11) false),
   oo 6 (.move (tq 13) false)])
 (.reg [oo 14 (.move (tq 5) false),
   oo 15 (.move (tq 6) false),
   oo 16 (.move (tq 0) false),
   oo 17 (.move (tq 6) false),
   oo 18 (.bin .mul (.const (.sc (.int .i64 8))) (tq 17)),
   oo 19 (.bin .shr (tq 16) (tq 18)),
   oo 20 (.conv .u8 (tq 19)),
   oo 21 (.indexAddrS 1 (tq 14) (tq 15)),
   oz (.store 1 (tq 21) (tq 20))])))
 (.reg [oo 22 (.bin .add (tq 11) (.const (.sc (.int .i64 1)))),
   oo 11 (.move (tq 22) false)]))))
def zob:CC:=(.seq (.reg [oo 23 (.move (tq 5) true),
   oo 4 (.move (tq 23) true)])
 .ret)
def ze6:CF:=⟨24,[.tmp 4],
 (.seq (.reg [oo 4 (.move (.const (.gs 1 [])) true)])
 (.seq (.reg [oo 7 (.move (tq 1) false),
   ⟨(some 8),true,none,.makeSlice 1 1 [(.sc (.int .u8 0))] (tq 7) (tq 7)⟩,
   oo 5 (.move (tq 8) true)])
 (.seq (.seq (.reg [oo 9 (.move (tq 5) false),
   oo 10 (.lenS (tq 9)),
   oo 11 (.move (.const (.sc (.int .i64 0))) false)])
 (.block 0 (.loop (bl 3105 24) (bl 16777151 24)
 ze2)))
 zob)))⟩
def ztq:Hint:=⟨[(0,0),(1,2),(7,0),(7,1)],[(1,1)],[none,some ((bl 3105 24),(bl 16777151 24)),none,some ((bl 32 24),(bl 16777151 24)),none,none],[],[],false,false⟩
def zcA:Nat→Sh:=zV []
def zcz (L:Nat):CBC:=noC
def zhQ:St→St:=zaE 0 (bl 3105 24) (bl 16777151 24)
def zfS (p0:Int) (p5l:Nat) (p10 p11:Int) (b8:List V):St:=⟨((V.sc (.int .u64 p0))::(jn 4 ((V.own 8 0 p5l 1)::(jn 4 ((V.sc (.int .i64 p10))::((V.sc (.int .i64 p11))::(jn 12 []))))))),(gn 8 ((.live true b8)::(gn 15 [])))⟩
def zmd (p5l:Nat) (b8:List V):St:=⟨(jn 5 ((V.own 8 0 p5l 1)::(jn 18 []))),(gn 8 ((.live true b8)::(gn 15 [])))⟩
def zwQ {β:Type} (L:Nat) (p0 p1:Int) (k_hbbaba:Int→Nat→Int→Int→List V→Option β):Option β :=
 chk (0≤p1∧p1≤p1∧(Int.toNat p1) * 1≤yu∧p1≤yu∧p1=p1) (
 k_hbbaba p0 (List.length (List.replicate (Int.toNat p1) [(V.sc (.int .u8 (0:Int)))])) (((List.length (List.replicate (Int.toNat p1) [(V.sc (.int .u8 (0:Int)))])):Nat):Int) (0:Int) (List.flatten (List.replicate (Int.toNat p1) [(V.sc (.int .u8 (0:Int)))])))
theorem zBf {β:Type} (L:Nat) (p0 p1:Int) (k:KK β):xr zcA (zcz L) L ze6 [(V.sc (.int .u64 p0)),(V.sc (.int .i64 p1))] [] k=zwQ L p0 p1 (fun p0 p5l p10 p11 b8=>xy (yj zcA (zcz L) 0 L ze2) zhQ L (zfS p0 p5l p10 p11 b8) (zx 0 (yI (yj zcA (zcz L) 0 L zob) (zN 0 (CF.res ze6) k)))):=by kernel_rfl
def zrv {β:Type} (L:Nat) (p0:Int) (p5l:Nat) (p10 p11:Int) (b8:List V) (k_hbbaba:Int→Nat→Int→Int→List V→Option β) (k_x0:Nat→List V→Option β):Option β :=
 ifb (decide (p11 < p10)) (
 lt (IntKind.wrap .i64 (((8:Int):Int) * p11)) fun x0 =>
 chk (0≤x0) (
 lt (zr5 .u64 p0 x0) fun x1 =>
 lt (IntKind.wrap .u8 x1) fun x2 =>
 chk (0≤p11∧p11 < ((p5l:Nat):Int)) (
 chk (1=1∧(0+((Int.toNat p11) * 1))+1≤(List.length b8)) (
 lt (yk b8 (0+((Int.toNat p11) * 1)) [(V.sc (.int .u8 x2))]) fun r3 =>
 lt (IntKind.wrap .i64 ((p11:Int)+(1:Int))) fun x4 =>
 k_hbbaba p0 p5l p10 x4 r3)))) (
 k_x0 p5l b8)
theorem zwg {β:Type} (L:Nat) (p0:Int) (p5l:Nat) (p10 p11:Int) (b8:List V) (X:St→Option β) (K:KT β):yj zcA (zcz L) 0 L ze2 (zfS p0 p5l p10 p11 b8) (zaz zhQ X K)=zrv L p0 p5l p10 p11 b8 (fun p0 p5l p10 p11 b8=>X (zfS p0 p5l p10 p11 b8)) (fun p5l b8=>K (.exit 0) (zmd p5l b8)):=by kernel_rfl
def zpF {β:Type} (L:Nat) (p5l:Nat) (b8:List V) (k_fin:List (List V)→Option β):Option β :=
 chk (p5l≠0∨(List.length b8)=0) (
 k_fin (zp 1 p5l b8))
theorem zuJ {β:Type} (L:Nat) (p5l:Nat) (b8:List V) (k:KK β):(zx 0 (yI (yj zcA (zcz L) 0 L zob) (zN 0 (CF.res ze6) k))) (.exit 0) (zmd p5l b8)=zpF L p5l b8 (fun p0=>k (V.fr 1 p0) []):=by kernel_rfl
def zlk {β:Type} (L:Nat) (k_x0:Nat→List V→Option β):Nat→Int→Nat→Int→Int→List V→Option β
 | 0,_,_,_,_,_=>none
 | n+1,p0,p5l,p10,p11,b8=>zrv L p0 p5l p10 p11 b8 (fun p0 p5l p10 p11 b8=>zlk L k_x0 n p0 p5l p10 p11 b8) k_x0
theorem zox {β:Type} (L:Nat) (K:KT β):∀ (n:Nat) (p0:Int) (p5l:Nat) (p10 p11:Int) (b8:List V),xy (yj zcA (zcz L) 0 L ze2) zhQ n (zfS p0 p5l p10 p11 b8) K=zlk L (fun p5l b8=>K (.exit 0) (zmd p5l b8)) n p0 p5l p10 p11 b8:=by
 intro n
 induction n with
 | zero=>intros; rfl
 | succ n ih =>
  intro p0 p5l p10 p11 b8
  refine (zwg L p0 p5l p10 p11 b8 (fun σ=>xy (yj zcA (zcz L) 0 L ze2) zhQ n σ K) K).trans ?_
  simp only [ih]
  rfl
def zrK {β:Type} (L:Nat) (p0 p1:Int) (k_fin:List (List V)→Option β):Option β :=
 zwQ L p0 p1 (fun p0 p5l p10 p11 b8=>zlk L (fun p5l b8=>zpF L p5l b8 k_fin) L p0 p5l p10 p11 b8)
theorem zBa {β:Type} (L:Nat) (p0 p1:Int) (k:KK β):xr zcA (zcz L) L ze6 [(V.sc (.int .u64 p0)),(V.sc (.int .i64 p1))] [] k=zrK L p0 p1 (fun p0=>k (V.fr 1 p0) []):=by
 refine (zBf L p0 p1 k).trans ?_
 unfold zrK
 first
  | (simp only [zox,zuJ]; done)
  | (simp only [zox]; rfl)
abbrev zfv:=∀ (β:Type),Nat→Int→Int→(List (List V)→Option β)→Option β
def xK (β:Type) (L:Nat) (p0 p1:Int) (k_fin:List (List V)→Option β):Option β:=zrK L p0 p1 k_fin
def zjW (xK:zfv) (L:Nat) (β:Type) (args:List V) (bor:Bor) (k:KK β):Option β:=match args,bor with
 | [a0,a1],[]=>aI .u64 a0 fun p0=>aI .i64 a1 fun p1=>xK β L p0 p1 (fun p0=>k (V.fr 1 p0) [])
 | _,_=>none
theorem zA9 (L:Nat) (β:Type) (args:List V) (bor:Bor) (k:KK β) (r:β) (h:zjW xK L β args bor k=some r):xr zcA (zcz L) L ze6 args bor k=some r:=by
 unfold zjW at h
 split at h
 ·have q:=zad h; clear h; obtain ⟨p0,rfl,h⟩:=q
  have q:=zad h; clear h; obtain ⟨p1,rfl,h⟩:=q
  exact (zBa L p0 p1 k).trans h
 ·cases h
def zl3:CF:=⟨17,[.tmp 4],
 (.seq (.reg [oo 4 (.move (.const (.gs 1 [])) true)])
 (.seq (.reg [oo 6 (.move (tq 0) false),
   oo 7 (.lenS (tq 6)),
   oo 8 (.move (tq 1) false),
   oo 9 (.lenS (tq 8)),
   oo 10 (.bin .add (tq 7) (tq 9)),
   oo 11 (.makeSlice 1 1 [(.sc (.int .u8 0))] (.const (.sc (.int .i64 0))) (tq 10)),
   oo 5 (.move (tq 11) true)])
 (.seq (.reg [oo 12 (.move (tq 5) true),
   oo 13 (.move (tq 0) false),
   oo 14 (.append 1 1 (tq 12) (tq 13)),
   oo 15 (.move (tq 1) false),
   oo 16 (.append 1 1 (tq 14) (tq 15)),
   oo 4 (.move (tq 16) true)])
 .ret)))⟩
def ztx:Hint:=⟨[(0,0),(1,6),(2,0),(2,5)],[],[none],[],[],false,false⟩
def zp1:Nat→Sh:=zV []
def zqL (L:Nat):CBC:=noC
def zrQ {β:Type} (L:Nat) (p0 p1:List (List V)) (k_fin:List (List V)→Option β):Option β :=
 lt (IntKind.wrap .i64 ((((List.length p0:Nat):Int):Int)+((List.length p1:Nat):Int))) fun x0 =>
 chk (0≤(0:Int)∧(0:Int)≤x0∧(Int.toNat x0) * 1≤yu∧x0≤yu) (
 chk ((List.length (List.replicate 0 [(V.sc (.int .u8 (0:Int)))])+List.length p0) * 1≤yu∧List.length (List.replicate 0 [(V.sc (.int .u8 (0:Int)))])+List.length p0≤yu) (
 lt ((List.replicate 0 [(V.sc (.int .u8 (0:Int)))])++p0) fun l1 =>
 chk ((List.length l1+List.length p1) * 1≤yu∧List.length l1+List.length p1≤yu) (
 lt (l1++p1) fun l2 =>
 k_fin l2)))
theorem zBi {β:Type} (L:Nat) (p0 p1:List (List V)) (k:KK β):xr zp1 (zqL L) L zl3 [(V.sl 1 p0),(V.sl 1 p1)] [] k=zrQ L p0 p1 (fun p0=>k (V.gs 1 p0) []):=by kernel_rfl
abbrev zfx:=∀ (β:Type),Nat→List (List V)→List (List V)→(List (List V)→Option β)→Option β
def zL (β:Type) (L:Nat) (p0 p1:List (List V)) (k_fin:List (List V)→Option β):Option β:=zrQ L p0 p1 k_fin
def zjU (zL:zfx) (L:Nat) (β:Type) (args:List V) (bor:Bor) (k:KK β):Option β:=match args,bor with
 | [a0,a1],[]=>aL 1 a0 fun p0=>aL 1 a1 fun p1=>zL β L p0 p1 (fun p0=>k (V.gs 1 p0) [])
 | _,_=>none
theorem zA4 (L:Nat) (β:Type) (args:List V) (bor:Bor) (k:KK β) (r:β) (h:zjU zL L β args bor k=some r):xr zp1 (zqL L) L zl3 args bor k=some r:=by
 unfold zjU at h
 split at h
 ·have q:=xP h; clear h; obtain ⟨p0,rfl,h⟩:=q
  have q:=xP h; clear h; obtain ⟨p1,rfl,h⟩:=q
  exact (zBi L p0 p1 k).trans h
 ·cases h
def ziS:CF:=⟨10,[.tmp 4],
 (.seq (.reg [oo 4 (.move (.const (.gs 1 [])) true)])
 (.seq (.reg [oo 5 (.move (tq 0) false),
   oo 6 (.move (tq 1) false),
   oo 7 (.conv .u64 (tq 6)),
   oo 8 (.call 194 [((tq 7),0),((.const (.sc (.int .i64 4))),0)] []),
   oo 9 (.call 193 [((tq 5),0),((tq 8),0)] []),
   oo 4 (.move (tq 9) true)])
 .ret))⟩
def zpZ:Hint:=⟨[(0,0),(1,5)],[],[none],[],[],false,false⟩
def zma:Nat→Sh:=zV []
def zm1 (xK:zfv) (zL:zfx) (L:Nat):CBC:=(xA 193 (zjU zL L) (xA 194 (zjW xK L) noC))
def znU {β:Type} (xK:zfv) (zL:zfx) (L:Nat) (p0:List (List V)) (p1:Int) (k_fin:List (List V)→Option β):Option β :=
 lt (IntKind.wrap .u64 p1) fun x0 =>
 xK β L x0 (4:Int) (fun v1 =>
 zL β L p0 v1 (fun v2 =>
 k_fin v2))
theorem zxT {β:Type} (xK:zfv) (zL:zfx) (L:Nat) (p0:List (List V)) (p1:Int) (k:KK β):xr zma (zm1 xK zL L) L ziS [(V.sl 1 p0),(V.sc (.int .u32 p1))] [] k=znU xK zL L p0 p1 (fun p0=>k (V.gs 1 p0) []):=by kernel_rfl
abbrev zdS:=∀ (β:Type),Nat→List (List V)→Int→(List (List V)→Option β)→Option β
def zB (β:Type) (L:Nat) (p0:List (List V)) (p1:Int) (k_fin:List (List V)→Option β):Option β:=znU xK zL L p0 p1 k_fin
def zgI (zB:zdS) (L:Nat) (β:Type) (args:List V) (bor:Bor) (k:KK β):Option β:=match args,bor with
 | [a0,a1],[]=>aL 1 a0 fun p0=>aI .u32 a1 fun p1=>zB β L p0 p1 (fun p0=>k (V.gs 1 p0) [])
 | _,_=>none
theorem zyC (L:Nat) (β:Type) (args:List V) (bor:Bor) (k:KK β) (r:β) (h:zgI zB L β args bor k=some r):xr zma (zm1 xK zL L) L ziS args bor k=some r:=by
 unfold zgI at h
 split at h
 ·have q:=xP h; clear h; obtain ⟨p0,rfl,h⟩:=q
  have q:=zad h; clear h; obtain ⟨p1,rfl,h⟩:=q
  exact (zxT xK zL L p0 p1 k).trans h
 ·cases h
def zil:CF:=⟨10,[.tmp 4],
 (.seq (.reg [oo 4 (.move (.const (.gs 1 [])) true)])
 (.seq (.reg [oo 5 (.move (tq 0) false),
   oo 6 (.move (tq 1) false),
   oo 7 (.conv .u64 (tq 6)),
   oo 8 (.call 194 [((tq 7),0),((.const (.sc (.int .i64 2))),0)] []),
   oo 9 (.call 193 [((tq 5),0),((tq 8),0)] []),
   oo 4 (.move (tq 9) true)])
 .ret))⟩
def zqc:Hint:=⟨[(0,0),(1,5)],[],[none],[],[],false,false⟩
def zmX:Nat→Sh:=zV []
def zm2 (xK:zfv) (zL:zfx) (L:Nat):CBC:=(xA 193 (zjU zL L) (xA 194 (zjW xK L) noC))
def zoe {β:Type} (xK:zfv) (zL:zfx) (L:Nat) (p0:List (List V)) (p1:Int) (k_fin:List (List V)→Option β):Option β :=
 lt (IntKind.wrap .u64 p1) fun x0 =>
 xK β L x0 (2:Int) (fun v1 =>
 zL β L p0 v1 (fun v2 =>
 k_fin v2))
theorem zyr {β:Type} (xK:zfv) (zL:zfx) (L:Nat) (p0:List (List V)) (p1:Int) (k:KK β):xr zmX (zm2 xK zL L) L zil [(V.sl 1 p0),(V.sc (.int .u16 p1))] [] k=zoe xK zL L p0 p1 (fun p0=>k (V.gs 1 p0) []):=by kernel_rfl
abbrev zjn:=∀ (β:Type),Nat→List (List V)→Int→(List (List V)→Option β)→Option β
def xX (β:Type) (L:Nat) (p0:List (List V)) (p1:Int) (k_fin:List (List V)→Option β):Option β:=zoe xK zL L p0 p1 k_fin
def zjk (xX:zjn) (L:Nat) (β:Type) (args:List V) (bor:Bor) (k:KK β):Option β:=match args,bor with
 | [a0,a1],[]=>aL 1 a0 fun p0=>aI .u16 a1 fun p1=>xX β L p0 p1 (fun p0=>k (V.gs 1 p0) [])
 | _,_=>none
theorem zye (L:Nat) (β:Type) (args:List V) (bor:Bor) (k:KK β) (r:β) (h:zjk xX L β args bor k=some r):xr zmX (zm2 xK zL L) L zil args bor k=some r:=by
 unfold zjk at h
 split at h
 ·have q:=xP h; clear h; obtain ⟨p0,rfl,h⟩:=q
  have q:=zad h; clear h; obtain ⟨p1,rfl,h⟩:=q
  exact (zyr xK zL L p0 p1 k).trans h
 ·cases h
def znw:CF:=⟨64,[.cell 2 true 4],
 (.seq (.reg [oo 1 (.box true (tq 0)),
   oo 2 (.alloc true [(.sc (.int .u64 0)),(.sc (.int .u64 0)),(.sc (.int .u64 0)),(.sc (.int .u64 0))])])
 (.seq (.reg [oo 3 (.indexAddrA 4 1 (tq 1) (.const (.sc (.int .i64 0)))),
   oo 4 (.load false 1 (tq 3) false),
   oo 5 (.indexAddrA 4 1 (tq 1) (.const (.sc (.int .i64 1)))),
   oo 6 (.load false 1 (tq 5) false),
   oo 7 (.bin .add (tq 4) (tq 6)),
   oo 8 (.indexAddrA 4 1 (tq 1) (.const (.sc (.int .i64 0)))),
   oz (.store 1 (tq 8) (tq 7))])
 (.seq (.dreg [] [(oo 9 (.indexAddrA 4 1 (tq 1) (.const (.sc (.int .i64 1)))),q0),
   (oo 10 (.load false 1 (tq 9) false),q1),
   (oo 11 (.call 118 [((tq 10),0),((.const (.sc (.int .i64 13))),0)] []),q1),
   (oo 12 (.indexAddrA 4 1 (tq 1) (.const (.sc (.int .i64 0)))),q0),
   (oo 13 (.load false 1 (tq 12) false),q1),
   (oo 14 (.bin .xor (tq 11) (tq 13)),q0),
   (oo 15 (.indexAddrA 4 1 (tq 1) (.const (.sc (.int .i64 1)))),q0),
   (oz (.store 1 (tq 15) (tq 14)),q0)])
 (.seq (.reg [oo 16 (.indexAddrA 4 1 (tq 1) (.const (.sc (.int .i64 0)))),
   oo 17 (.load false 1 (tq 16) false),
   oo 18 (.call 118 [((tq 17),0),((.const (.sc (.int .i64 32))),0)] []),
   oo 19 (.indexAddrA 4 1 (tq 1) (.const (.sc (.int .i64 0)))),
   oz (.store 1 (tq 19) (tq 18))])
 (.seq (.reg [oo 20 (.indexAddrA 4 1 (tq 1) (.const (.sc (.int .i64 2)))),
   oo 21 (.load false 1 (tq 20) false),
   oo 22 (.indexAddrA 4 1 (tq 1) (.const (.sc (.int .i64 3)))),
   oo 23 (.load false 1 (tq 22) false),
   oo 24 (.bin .add (tq 21) (tq 23)),
   oo 25 (.indexAddrA 4 1 (tq 1) (.const (.sc (.int .i64 2)))),
   oz (.store 1 (tq 25) (tq 24))])
 (.seq (.dreg [] [(oo 26 (.indexAddrA 4 1 (tq 1) (.const (.sc (.int .i64 3)))),q0),
   (oo 27 (.load false 1 (tq 26) false),q1),
   (oo 28 (.call 118 [((tq 27),0),((.const (.sc (.int .i64 16))),0)] []),q1),
   (oo 29 (.indexAddrA 4 1 (tq 1) (.const (.sc (.int .i64 2)))),q0),
   (oo 30 (.load false 1 (tq 29) false),q1),
   (oo 31 (.bin .xor (tq 28) (tq 30)),q0),
   (oo 32 (.indexAddrA 4 1 (tq 1) (.const (.sc (.int .i64 3)))),q0),
   (oz (.store 1 (tq 32) (tq 31)),q0)])
 (.seq (.reg [oo 33 (.indexAddrA 4 1 (tq 1) (.const (.sc (.int .i64 0)))),
   oo 34 (.load false 1 (tq 33) false),
   oo 35 (.indexAddrA 4 1 (tq 1) (.const (.sc (.int .i64 3)))),
   oo 36 (.load false 1 (tq 35) false),
   oo 37 (.bin .add (tq 34) (tq 36)),
   oo 38 (.indexAddrA 4 1 (tq 1) (.const (.sc (.int .i64 0)))),
   oz (.store 1 (tq 38) (tq 37))])
 (.seq (.dreg [] [(oo 39 (.indexAddrA 4 1 (tq 1) (.const (.sc (.int .i64 3)))),q0),
   (oo 40 (.load false 1 (tq 39) false),q1),
   (oo 41 (.call 118 [((tq 40),0),((.const (.sc (.int .i64 21))),0)] []),q1),
   (oo 42 (.indexAddrA 4 1 (tq 1) (.const (.sc (.int .i64 0)))),q0),
   (oo 43 (.load false 1 (tq 42) false),q1),
   (oo 44 (.bin .xor (tq 41) (tq 43)),q0),
   (oo 45 (.indexAddrA 4 1 (tq 1) (.const (.sc (.int .i64 3)))),q0),
   (oz (.store 1 (tq 45) (tq 44)),q0)])
 (.seq (.reg [oo 46 (.indexAddrA 4 1 (tq 1) (.const (.sc (.int .i64 2)))),
   oo 47 (.load false 1 (tq 46) false),
   oo 48 (.indexAddrA 4 1 (tq 1) (.const (.sc (.int .i64 1)))),
   oo 49 (.load false 1 (tq 48) false),
   oo 50 (.bin .add (tq 47) (tq 49)),
   oo 51 (.indexAddrA 4 1 (tq 1) (.const (.sc (.int .i64 2)))),
   oz (.store 1 (tq 51) (tq 50))])
 (.seq (.dreg [] [(oo 52 (.indexAddrA 4 1 (tq 1) (.const (.sc (.int .i64 1)))),q0),
   (oo 53 (.load false 1 (tq 52) false),q1),
   (oo 54 (.call 118 [((tq 53),0),((.const (.sc (.int .i64 17))),0)] []),q1),
   (oo 55 (.indexAddrA 4 1 (tq 1) (.const (.sc (.int .i64 2)))),q0),
   (oo 56 (.load false 1 (tq 55) false),q1),
   (oo 57 (.bin .xor (tq 54) (tq 56)),q0),
   (oo 58 (.indexAddrA 4 1 (tq 1) (.const (.sc (.int .i64 1)))),q0),
   (oz (.store 1 (tq 58) (tq 57)),q0)])
 (.seq (.reg [oo 59 (.indexAddrA 4 1 (tq 1) (.const (.sc (.int .i64 2)))),
   oo 60 (.load false 1 (tq 59) false),
   oo 61 (.call 118 [((tq 60),0),((.const (.sc (.int .i64 32))),0)] []),
   oo 62 (.indexAddrA 4 1 (tq 1) (.const (.sc (.int .i64 2)))),
   oz (.store 1 (tq 62) (tq 61))])
 (.seq (.reg [oo 63 (.load true 4 (tq 1) false),
   oz (.store 4 (tq 2) (tq 63))])
 .ret))))))))))))⟩
def zuP:Hint:=⟨[],[],[none],[],[],false,false⟩
def zrG:Nat→Sh:=zV [(4,(.int .u64)),(6,(.int .u64)),(10,(.int .u64)),(13,(.int .u64)),(17,(.int .u64)),(21,(.int .u64)),(23,(.int .u64)),(27,(.int .u64)),(30,(.int .u64)),(34,(.int .u64)),(36,(.int .u64)),(40,(.int .u64)),(43,(.int .u64)),(47,(.int .u64)),(49,(.int .u64)),(53,(.int .u64)),(56,(.int .u64)),(60,(.int .u64))]
def zr2 (xe:yN) (L:Nat):CBC:=(xA 118 (zdv xe L) noC)
def zth {β:Type} (xe:yN) (L:Nat) (p0:List V) (k_fin:List V→Option β):Option β :=
 cI .u64 p0 0 fun v0 =>
 cI .u64 p0 1 fun v1 =>
 lt (IntKind.wrap .u64 ((v0:Int)+v1)) fun x2 =>
 chk (1=1∧0+1≤(List.length p0)) (
 lt (yk p0 0 [(V.sc (.int .u64 x2))]) fun r3 =>
 cI .u64 r3 1 fun v4 =>
 xe β L v4 (13:Int) (fun v5 =>
 cI .u64 r3 0 fun v6 =>
 lt (zbI .u64 v5 v6) fun x7 =>
 chk (1=1∧1+1≤(List.length r3)) (
 lt (yk r3 1 [(V.sc (.int .u64 x7))]) fun r8 =>
 cI .u64 r8 0 fun v9 =>
 xe β L v9 (32:Int) (fun v10 =>
 chk (1=1∧0+1≤(List.length r8)) (
 lt (yk r8 0 [(V.sc (.int .u64 v10))]) fun r11 =>
 cI .u64 r11 2 fun v12 =>
 cI .u64 r11 3 fun v13 =>
 lt (IntKind.wrap .u64 ((v12:Int)+v13)) fun x14 =>
 chk (1=1∧2+1≤(List.length r11)) (
 lt (yk r11 2 [(V.sc (.int .u64 x14))]) fun r15 =>
 cI .u64 r15 3 fun v16 =>
 xe β L v16 (16:Int) (fun v17 =>
 cI .u64 r15 2 fun v18 =>
 lt (zbI .u64 v17 v18) fun x19 =>
 chk (1=1∧3+1≤(List.length r15)) (
 lt (yk r15 3 [(V.sc (.int .u64 x19))]) fun r20 =>
 cI .u64 r20 0 fun v21 =>
 cI .u64 r20 3 fun v22 =>
 lt (IntKind.wrap .u64 ((v21:Int)+v22)) fun x23 =>
 chk (1=1∧0+1≤(List.length r20)) (
 lt (yk r20 0 [(V.sc (.int .u64 x23))]) fun r24 =>
 cI .u64 r24 3 fun v25 =>
 xe β L v25 (21:Int) (fun v26 =>
 cI .u64 r24 0 fun v27 =>
 lt (zbI .u64 v26 v27) fun x28 =>
 chk (1=1∧3+1≤(List.length r24)) (
 lt (yk r24 3 [(V.sc (.int .u64 x28))]) fun r29 =>
 cI .u64 r29 2 fun v30 =>
 cI .u64 r29 1 fun v31 =>
 lt (IntKind.wrap .u64 ((v30:Int)+v31)) fun x32 =>
 chk (1=1∧2+1≤(List.length r29)) (
 lt (yk r29 2 [(V.sc (.int .u64 x32))]) fun r33 =>
 cI .u64 r33 1 fun v34 =>
 xe β L v34 (17:Int) (fun v35 =>
 cI .u64 r33 2 fun v36 =>
 lt (zbI .u64 v35 v36) fun x37 =>
 chk (1=1∧1+1≤(List.length r33)) (
 lt (yk r33 1 [(V.sc (.int .u64 x37))]) fun r38 =>
 cI .u64 r38 2 fun v39 =>
 xe β L v39 (32:Int) (fun v40 =>
 chk (1=1∧2+1≤(List.length r38)) (
 lt (yk r38 2 [(V.sc (.int .u64 v40))]) fun r41 =>
 chk (0+4≤(List.length r41)) (
 chk ((List.length (List.take 4 r41))=4∧0+4≤4) (
 lt (yk [(V.sc (.int .u64 (0:Int))),(V.sc (.int .u64 (0:Int))),(V.sc (.int .u64 (0:Int))),(V.sc (.int .u64 (0:Int)))] 0 (List.take 4 r41)) fun r42 =>
 chk (0=0∧(List.length r42)=4∧4≠0) (
 k_fin r42)))))))))))))))))))
theorem zB0 {β:Type} (xe:yN) (L:Nat) (p0:List V) (k:KK β):xr zrG (zr2 xe L) L znw [(V.agg p0)] [] k=zth xe L p0 (fun p0=>k (V.agg p0) []):=by kernel_rfl
abbrev za8:=∀ (β:Type),Nat→List V→(List V→Option β)→Option β
def xq (β:Type) (L:Nat) (p0:List V) (k_fin:List V→Option β):Option β:=zth xe L p0 k_fin
def zkW (xq:za8) (L:Nat) (β:Type) (args:List V) (bor:Bor) (k:KK β):Option β:=match args,bor with
 | [a0],[]=>aG a0 fun p0=>xq β L p0 (fun p0=>k (V.agg p0) [])
 | _,_=>none
theorem zCE (L:Nat) (β:Type) (args:List V) (bor:Bor) (k:KK β) (r:β) (h:zkW xq L β args bor k=some r):xr zrG (zr2 xe L) L znw args bor k=some r:=by
 unfold zkW at h
 split at h
 ·have q:=y5 h; clear h; obtain ⟨p0,rfl,h⟩:=q
  exact (zB0 xe L p0 k).trans h
 ·cases h
def zl1:CF:=⟨19,[.cell 4 true 4],
 (.seq (.reg [oo 2 (.box true (tq 0)),
   oo 4 (.alloc true [(.sc (.int .u64 0)),(.sc (.int .u64 0)),(.sc (.int .u64 0)),(.sc (.int .u64 0))])])
 (.seq (.reg [oo 5 (.indexAddrA 4 1 (tq 2) (.const (.sc (.int .i64 3)))),
   oo 6 (.load false 1 (tq 5) false),
   oo 7 (.move (tq 1) false),
   oo 8 (.bin .xor (tq 6) (tq 7)),
   oo 9 (.indexAddrA 4 1 (tq 2) (.const (.sc (.int .i64 3)))),
   oz (.store 1 (tq 9) (tq 8))])
 (.seq (.reg [oo 10 (.load true 4 (tq 2) false),
   oo 11 (.call 116 [((tq 10),0)] []),
   oo 12 (.call 116 [((tq 11),0)] []),
   oz (.store 4 (tq 2) (tq 12))])
 (.seq (.reg [oo 13 (.indexAddrA 4 1 (tq 2) (.const (.sc (.int .i64 0)))),
   oo 14 (.load false 1 (tq 13) false),
   oo 15 (.move (tq 1) false),
   oo 16 (.bin .xor (tq 14) (tq 15)),
   oo 17 (.indexAddrA 4 1 (tq 2) (.const (.sc (.int .i64 0)))),
   oz (.store 1 (tq 17) (tq 16))])
 (.seq (.reg [oo 18 (.load true 4 (tq 2) false),
   oz (.store 4 (tq 4) (tq 18))])
 .ret)))))⟩
def ztt:Hint:=⟨[],[],[none],[],[],false,false⟩
def zqF:Nat→Sh:=zV [(6,(.int .u64)),(14,(.int .u64))]
def zqZ (xq:za8) (L:Nat):CBC:=(xA 116 (zkW xq L) noC)
def zry {β:Type} (xq:za8) (L:Nat) (p0:List V) (p1:Int) (k_fin:List V→Option β):Option β :=
 cI .u64 p0 3 fun v0 =>
 lt (zbI .u64 v0 p1) fun x1 =>
 chk (1=1∧3+1≤(List.length p0)) (
 lt (yk p0 3 [(V.sc (.int .u64 x1))]) fun r2 =>
 chk (0+4≤(List.length r2)) (
 xq β L (List.take 4 r2) (fun v3 =>
 xq β L v3 (fun v4 =>
 chk ((List.length v4)=4∧0+4≤(List.length r2)) (
 lt (yk r2 0 v4) fun r5 =>
 cI .u64 r5 0 fun v6 =>
 lt (zbI .u64 v6 p1) fun x7 =>
 chk (1=1∧0+1≤(List.length r5)) (
 lt (yk r5 0 [(V.sc (.int .u64 x7))]) fun r8 =>
 chk (0+4≤(List.length r8)) (
 chk ((List.length (List.take 4 r8))=4∧0+4≤4) (
 lt (yk [(V.sc (.int .u64 (0:Int))),(V.sc (.int .u64 (0:Int))),(V.sc (.int .u64 (0:Int))),(V.sc (.int .u64 (0:Int)))] 0 (List.take 4 r8)) fun r9 =>
 chk (0=0∧(List.length r9)=4∧4≠0) (
 k_fin r9)))))))))
theorem zA8 {β:Type} (xq:za8) (L:Nat) (p0:List V) (p1:Int) (k:KK β):xr zqF (zqZ xq L) L zl1 [(V.agg p0),(V.sc (.int .u64 p1))] [] k=zry xq L p0 p1 (fun p0=>k (V.agg p0) []):=by kernel_rfl
abbrev zbQ:=∀ (β:Type),Nat→List V→Int→(List V→Option β)→Option β
def yx (β:Type) (L:Nat) (p0:List V) (p1:Int) (k_fin:List V→Option β):Option β:=zry xq L p0 p1 k_fin
def znm (yx:zbQ) (L:Nat) (β:Type) (args:List V) (bor:Bor) (k:KK β):Option β:=match args,bor with
 | [a0,a1],[]=>aG a0 fun p0=>aI .u64 a1 fun p1=>yx β L p0 p1 (fun p0=>k (V.agg p0) [])
 | _,_=>none
theorem zA1 (L:Nat) (β:Type) (args:List V) (bor:Bor) (k:KK β) (r:β) (h:znm yx L β args bor k=some r):xr zqF (zqZ xq L) L zl1 args bor k=some r:=by
 unfold znm at h
 split at h
 ·have q:=y5 h; clear h; obtain ⟨p0,rfl,h⟩:=q
  have q:=zad h; clear h; obtain ⟨p1,rfl,h⟩:=q
  exact (zA8 xq L p0 p1 k).trans h
 ·cases h
def zgJ:CC:=(.seq (.seq (.reg [oo 22 (.move (tq 1) false),
   oo 23 (.lenS (tq 22)),
   oo 24 (.bin .geq (tq 23) (.const (.sc (.int .i64 8))))])
 (.cond (tq 24)
 .skip
 (.seq (.mask (bl 98 61) (bl 2305843008399998971 61))
 (.exit 0))))
 (.block 1 (.dreg [] [(oo 25 (.load true 4 (tq 5) false),ql 5 [] []),
   (oo 26 (.move (tq 1) false),q0),
   (oo 27 (.sliceS 1 (tq 26) none (some (.const (.sc (.int .i64 8)))) none),q0),
   (oo 28 (.call 115 [((tq 27),0)] []),qc [5] []),
   (oo 29 (.call 114 [((tq 25),0),((tq 28),0)] []),q0),
   (oo 30 (.move (tq 1) false),q0),
   (oo 31 (.sliceS 1 (tq 30) (some (.const (.sc (.int .i64 8)))) none none),q0),
   (oz (.store 4 (tq 5) (tq 29)),q0),
   (oo 1 (.move (tq 31) true),q0)])))
def zp8:CC:=(.seq (.dreg [] [(oo 32 (.load true 4 (tq 5) false),ql 5 [] []),
   (oo 33 (.move (tq 1) false),q0),
   (oo 34 (.call 115 [((tq 33),0)] []),qc [5] []),
   (oo 35 (.move (tq 6) false),q0),
   (oo 36 (.bin .rem (tq 35) (.const (.sc (.int .i64 256)))),q0),
   (oo 37 (.conv .u64 (tq 36)),q0),
   (oo 38 (.bin .shl (tq 37) (.const (.sc (.int .u64 56)))),q0),
   (oo 39 (.bin .or (tq 34) (tq 38)),q0),
   (oo 40 (.call 114 [((tq 32),0),((tq 39),0)] []),q0),
   (oz (.store 4 (tq 5) (tq 40)),q0)])
 (.seq (.reg [oo 41 (.indexAddrA 4 1 (tq 5) (.const (.sc (.int .i64 2)))),
   oo 42 (.load false 1 (tq 41) false),
   oo 43 (.bin .xor (tq 42) (.const (.sc (.int .u64 255)))),
   oo 44 (.indexAddrA 4 1 (tq 5) (.const (.sc (.int .i64 2)))),
   oz (.store 1 (tq 44) (tq 43))])
 (.seq (.reg [oo 45 (.load true 4 (tq 5) false),
   oo 46 (.call 116 [((tq 45),0)] []),
   oo 47 (.call 116 [((tq 46),0)] []),
   oo 48 (.call 116 [((tq 47),0)] []),
   oo 49 (.call 116 [((tq 48),0)] []),
   oz (.store 4 (tq 5) (tq 49))])
 (.seq (.reg [oo 50 (.indexAddrA 4 1 (tq 5) (.const (.sc (.int .i64 0)))),
   oo 51 (.load false 1 (tq 50) false),
   oo 52 (.indexAddrA 4 1 (tq 5) (.const (.sc (.int .i64 1)))),
   oo 53 (.load false 1 (tq 52) false),
   oo 54 (.bin .xor (tq 51) (tq 53)),
   oo 55 (.indexAddrA 4 1 (tq 5) (.const (.sc (.int .i64 2)))),
   oo 56 (.load false 1 (tq 55) false),
   oo 57 (.bin .xor (tq 54) (tq 56)),
   oo 58 (.indexAddrA 4 1 (tq 5) (.const (.sc (.int .i64 3)))),
   oo 59 (.load false 1 (tq 58) false),
   oo 60 (.bin .xor (tq 57) (tq 59)),
   oo 4 (.move (tq 60) false)])
 .ret))))
def zhr:CF:=⟨61,[.tmp 4],
 (.seq (.reg [oo 2 (.box true (tq 0)),
   oo 4 (.move (.const (.sc (.int .u64 0))) false)])
 (.seq (.reg [oo 7 (.indexAddrA 2 1 (tq 2) (.const (.sc (.int .i64 0)))),
   oo 8 (.load false 1 (tq 7) false),
   oo 9 (.bin .xor (tq 8) (.const (.sc (.int .u64 8317987319222330741)))),
   oo 10 (.indexAddrA 2 1 (tq 2) (.const (.sc (.int .i64 1)))),
   oo 11 (.load false 1 (tq 10) false),
   oo 12 (.bin .xor (tq 11) (.const (.sc (.int .u64 7237128888997146477)))),
   oo 13 (.indexAddrA 2 1 (tq 2) (.const (.sc (.int .i64 0)))),
   oo 14 (.load false 1 (tq 13) false),
   oo 15 (.bin .xor (tq 14) (.const (.sc (.int .u64 7816392313619706465)))),
   oo 16 (.indexAddrA 2 1 (tq 2) (.const (.sc (.int .i64 1)))),
   oo 17 (.load false 1 (tq 16) false),
   oo 18 (.bin .xor (tq 17) (.const (.sc (.int .u64 8387220255154660723)))),
   oo 19 (.build [(.sc (.int .u64 0)),(.sc (.int .u64 0)),(.sc (.int .u64 0)),(.sc (.int .u64 0))] [(0,1,(tq 9)),(1,1,(tq 12)),(2,1,(tq 15)),(3,1,(tq 18))]),
   oo 5 (.alloc true [(.sc (.int .u64 0)),(.sc (.int .u64 0)),(.sc (.int .u64 0)),(.sc (.int .u64 0))]),
   oz (.store 4 (tq 5) (tq 19))])
 (.seq (.reg [oo 20 (.move (tq 1) false),
   oo 21 (.lenS (tq 20)),
   oo 6 (.move (tq 21) false)])
 (.seq (.block 0 (.loop (bl 98 61) (bl 2305843008399998971 61)
 zgJ))
 zp8))))⟩
def zxE:Hint:=⟨[(4,8)],[],[none,some ((bl 98 61),(bl 2305843008399998971 61)),none,some ((bl 98 61),(bl 2305843008399998971 61)),none,none],[],[],false,false⟩
def zea:Nat→Sh:=zV [(8,(.int .u64)),(11,(.int .u64)),(14,(.int .u64)),(17,(.int .u64)),(42,(.int .u64)),(51,(.int .u64)),(53,(.int .u64)),(56,(.int .u64)),(59,(.int .u64))]
def zej (zu:zbD) (yx:zbQ) (xq:za8) (L:Nat):CBC:=(xA 116 (zkW xq L) (xA 114 (znm yx L) (xA 115 (zmE zu L) noC)))
def zkE:St→St:=zaE 0 (bl 98 61) (bl 2305843008399998971 61)
def zh0 (p1:List (List V)) (p6:Int) (b5:List V):St:=⟨(jn 1 ((V.sl 1 p1)::(jn 3 ((V.ptr 5 0)::((V.sc (.int .i64 p6))::(jn 54 [])))))),(gn 5 ((.live true b5)::(gn 55 [])))⟩
def zpU (p1:List (List V)) (p6:Int) (b5:List V):St:=⟨(jn 1 ((V.sl 1 p1)::(jn 3 ((V.ptr 5 0)::((V.sc (.int .i64 p6))::(jn 54 [])))))),(gn 5 ((.live true b5)::(gn 55 [])))⟩
def zwA {β:Type} (zu:zbD) (yx:zbQ) (xq:za8) (L:Nat) (p0:List V) (p1:List (List V)) (k_hbbbaa:List (List V)→Int→List V→Option β):Option β :=
 cI .u64 p0 0 fun v0 =>
 lt (zbI .u64 v0 (8317987319222330741:Int)) fun x1 =>
 cI .u64 p0 1 fun v2 =>
 lt (zbI .u64 v2 (7237128888997146477:Int)) fun x3 =>
 cI .u64 p0 0 fun v4 =>
 lt (zbI .u64 v4 (7816392313619706465:Int)) fun x5 =>
 cI .u64 p0 1 fun v6 =>
 lt (zbI .u64 v6 (8387220255154660723:Int)) fun x7 =>
 lt [(V.sc (.int .u64 x1)),(V.sc (.int .u64 x3)),(V.sc (.int .u64 x5)),(V.sc (.int .u64 x7))] fun r8 =>
 k_hbbbaa p1 ((List.length p1:Nat):Int) r8
theorem zEs {β:Type} (zu:zbD) (yx:zbQ) (xq:za8) (L:Nat) (p0:List V) (p1:List (List V)) (k:KK β):xr zea (zej zu yx xq L) L zhr [(V.agg p0),(V.sl 1 p1)] [] k=zwA zu yx xq L p0 p1 (fun p1 p6 b5=>xy (yj zea (zej zu yx xq L) 0 L zgJ) zkE L (zh0 p1 p6 b5) (zx 0 (yI (yj zea (zej zu yx xq L) 0 L zp8) (zN 0 (CF.res zhr) k)))):=by kernel_rfl
def zo7 {β:Type} (zu:zbD) (yx:zbQ) (xq:za8) (L:Nat) (p1:List (List V)) (p6:Int) (b5:List V) (k_hbbbaa:List (List V)→Int→List V→Option β) (k_x0:List (List V)→Int→List V→Option β):Option β :=
 ifb (decide (((List.length p1:Nat):Int) ≥ (8:Int))) (
 chk (0+4≤(List.length b5)) (
 chk (0≤(8:Int)∧(8:Int)≤(((List.length p1):Nat):Int)) (
 zu β L (List.take 8 (List.drop 0 p1)) (fun v9 =>
 yx β L (List.take 4 b5) v9 (fun v10 =>
 chk (0≤(8:Int)∧(8:Int)≤(((List.length p1):Nat):Int)) (
 chk ((List.length v10)=4∧0+4≤(List.length b5)) (
 lt (yk b5 0 v10) fun r11 =>
 k_hbbbaa (List.take ((List.length p1) - 8) (List.drop 8 p1)) p6 r11))))))) (
 k_x0 p1 p6 b5)
theorem zzc {β:Type} (zu:zbD) (yx:zbQ) (xq:za8) (L:Nat) (p1:List (List V)) (p6:Int) (b5:List V) (X:St→Option β) (K:KT β):yj zea (zej zu yx xq L) 0 L zgJ (zh0 p1 p6 b5) (zaz zkE X K)=zo7 zu yx xq L p1 p6 b5 (fun p1 p6 b5=>X (zh0 p1 p6 b5)) (fun p1 p6 b5=>K (.exit 0) (zpU p1 p6 b5)):=by kernel_rfl
def zix {β:Type} (zu:zbD) (yx:zbQ) (xq:za8) (L:Nat) (p1:List (List V)) (p6:Int) (b5:List V) (k_fin:Int→Option β):Option β :=
 chk (0+4≤(List.length b5)) (
 zu β L p1 (fun v12 =>
 lt (Int.tmod p6 (256:Int)) fun x13 =>
 lt (IntKind.wrap .u64 x13) fun x14 =>
 lt (zsX .u64 x14 (56:Int)) fun x15 =>
 lt (ior .u64 v12 x15) fun x16 =>
 yx β L (List.take 4 b5) x16 (fun v17 =>
 chk ((List.length v17)=4∧0+4≤(List.length b5)) (
 lt (yk b5 0 v17) fun r18 =>
 cI .u64 r18 2 fun v19 =>
 lt (zbI .u64 v19 (255:Int)) fun x20 =>
 chk (1=1∧2+1≤(List.length r18)) (
 lt (yk r18 2 [(V.sc (.int .u64 x20))]) fun r21 =>
 chk (0+4≤(List.length r21)) (
 xq β L (List.take 4 r21) (fun v22 =>
 xq β L v22 (fun v23 =>
 xq β L v23 (fun v24 =>
 xq β L v24 (fun v25 =>
 chk ((List.length v25)=4∧0+4≤(List.length r21)) (
 lt (yk r21 0 v25) fun r26 =>
 cI .u64 r26 0 fun v27 =>
 cI .u64 r26 1 fun v28 =>
 lt (zbI .u64 v27 v28) fun x29 =>
 cI .u64 r26 2 fun v30 =>
 lt (zbI .u64 x29 v30) fun x31 =>
 cI .u64 r26 3 fun v32 =>
 lt (zbI .u64 x31 v32) fun x33 =>
 k_fin x33)))))))))))
theorem zxw {β:Type} (zu:zbD) (yx:zbQ) (xq:za8) (L:Nat) (p1:List (List V)) (p6:Int) (b5:List V) (k:KK β):(zx 0 (yI (yj zea (zej zu yx xq L) 0 L zp8) (zN 0 (CF.res zhr) k))) (.exit 0) (zpU p1 p6 b5)=zix zu yx xq L p1 p6 b5 (fun p0=>k (V.sc (.int .u64 p0)) []):=by kernel_rfl
def zht {β:Type} (zu:zbD) (yx:zbQ) (xq:za8) (L:Nat) (k_x0:List (List V)→Int→List V→Option β):Nat→List (List V)→Int→List V→Option β
 | 0,_,_,_=>none
 | n+1,p1,p6,b5=>zo7 zu yx xq L p1 p6 b5 (fun p1 p6 b5=>zht zu yx xq L k_x0 n p1 p6 b5) k_x0
theorem zrk {β:Type} (zu:zbD) (yx:zbQ) (xq:za8) (L:Nat) (K:KT β):∀ (n:Nat) (p1:List (List V)) (p6:Int) (b5:List V),xy (yj zea (zej zu yx xq L) 0 L zgJ) zkE n (zh0 p1 p6 b5) K=zht zu yx xq L (fun p1 p6 b5=>K (.exit 0) (zpU p1 p6 b5)) n p1 p6 b5:=by
 intro n
 induction n with
 | zero=>intros; rfl
 | succ n ih =>
  intro p1 p6 b5
  refine (zzc zu yx xq L p1 p6 b5 (fun σ=>xy (yj zea (zej zu yx xq L) 0 L zgJ) zkE n σ K) K).trans ?_
  simp only [ih]
  rfl
def zsl {β:Type} (zu:zbD) (yx:zbQ) (xq:za8) (L:Nat) (p0:List V) (p1:List (List V)) (k_fin:Int→Option β):Option β :=
 zwA zu yx xq L p0 p1 (fun p1 p6 b5=>zht zu yx xq L (fun p1 p6 b5=>zix zu yx xq L p1 p6 b5 k_fin) L p1 p6 b5)
theorem zET {β:Type} (zu:zbD) (yx:zbQ) (xq:za8) (L:Nat) (p0:List V) (p1:List (List V)) (k:KK β):xr zea (zej zu yx xq L) L zhr [(V.agg p0),(V.sl 1 p1)] [] k=zsl zu yx xq L p0 p1 (fun p0=>k (V.sc (.int .u64 p0)) []):=by
 refine (zEs zu yx xq L p0 p1 k).trans ?_
 unfold zsl
 first
  | (simp only [zrk,zxw]; done)
  | (simp only [zrk]; rfl)
abbrev ziX:=∀ (β:Type),Nat→List V→List (List V)→(Int→Option β)→Option β
def zR (β:Type) (L:Nat) (p0:List V) (p1:List (List V)) (k_fin:Int→Option β):Option β:=zsl zu yx xq L p0 p1 k_fin
def zor (zR:ziX) (L:Nat) (β:Type) (args:List V) (bor:Bor) (k:KK β):Option β:=match args,bor with
 | [a0,a1],[]=>aG a0 fun p0=>aL 1 a1 fun p1=>zR β L p0 p1 (fun p0=>k (V.sc (.int .u64 p0)) [])
 | _,_=>none
theorem zEz (L:Nat) (β:Type) (args:List V) (bor:Bor) (k:KK β) (r:β) (h:zor zR L β args bor k=some r):xr zea (zej zu yx xq L) L zhr args bor k=some r:=by
 unfold zor at h
 split at h
 ·have q:=y5 h; clear h; obtain ⟨p0,rfl,h⟩:=q
  have q:=xP h; clear h; obtain ⟨p1,rfl,h⟩:=q
  exact (zET zu yx xq L p0 p1 k).trans h
 ·cases h
def znq:CF:=⟨6,[.tmp 2],
 (.seq (.reg [oo 1 (.box true (tq 0)),
   oo 2 (.move (.const (.sc (.int .u32 0))) false)])
 (.seq (.reg [oo 3 (.fieldAddr 0 (tq 1)),
   oo 4 (.load false 1 (tq 3) false),
   oo 5 (.bin .shr (tq 4) (.const (.sc (.int .u64 16)))),
   oo 2 (.move (tq 5) false)])
 .ret))⟩
def zuF:Hint:=⟨[],[],[none],[],[],false,false⟩
def zrE:Nat→Sh:=zV [(4,(.int .u32))]
def zrM (L:Nat):CBC:=noC
def ztb {β:Type} (L:Nat) (p0:List V) (k_fin:Int→Option β):Option β :=
 cI .u32 p0 0 fun v0 =>
 lt (zr5 .u32 v0 (16:Int)) fun x1 =>
 k_fin x1
theorem zB2 {β:Type} (L:Nat) (p0:List V) (k:KK β):xr zrE (zrM L) L znq [(V.agg p0)] [] k=ztb L p0 (fun p0=>k (V.sc (.int .u32 p0)) []):=by kernel_rfl
abbrev zW:=∀ (β:Type),Nat→List V→(Int→Option β)→Option β
def yi (β:Type) (L:Nat) (p0:List V) (k_fin:Int→Option β):Option β:=ztb L p0 k_fin
def zgB (yi:zW) (L:Nat) (β:Type) (args:List V) (bor:Bor) (k:KK β):Option β:=match args,bor with
 | [a0],[]=>aG a0 fun p0=>yi β L p0 (fun p0=>k (V.sc (.int .u32 p0)) [])
 | _,_=>none
theorem zBZ (L:Nat) (β:Type) (args:List V) (bor:Bor) (k:KK β) (r:β) (h:zgB yi L β args bor k=some r):xr zrE (zrM L) L znq args bor k=some r:=by
 unfold zgB at h
 split at h
 ·have q:=y5 h; clear h; obtain ⟨p0,rfl,h⟩:=q
  exact (zB2 L p0 k).trans h
 ·cases h
def zg8:CF:=⟨30,[.tmp 4],
 (.seq (.reg [oo 2 (.box true (tq 0)),
   oo 3 (.box true (tq 1)),
   oo 4 (.move (.const (.sc (.int .i64 0))) false)])
 (.seq (.reg [oo 7 (.load true 32 (tq 2) false),
   oo 8 (.call 110 [((tq 7),0)] []),
   oo 5 (.alloc true [(.sc (.int .u64 0)),(.sc (.int .u64 0))]),
   oz (.store 2 (tq 5) (tq 8))])
 (.seq (.dreg [] [(oo 9 (.load true 2 (tq 5) false),ql 5 [3] [10]),
   (oo 10 (.buildSlice 1 1 [(.sc (.int .u8 0))] [(0,1,(.const (.sc (.int .u8 4))))]),qn [5,3] []),
   (oo 11 (.fieldAddr 0 (tq 3)),q0),
   (oo 12 (.load false 1 (tq 11) false),ql 3 [5] [10]),
   (oo 13 (.call 159 [((tq 10),0),((tq 12),0)] []),qc [5,3] []),
   (oo 14 (.fieldAddr 1 (tq 3)),q0),
   (oo 15 (.load false 1 (tq 14) false),ql 3 [5] [10]),
   (oo 16 (.call 304 [((tq 13),0),((tq 15),0)] []),qc [5] []),
   (oo 17 (.call 106 [((tq 9),0),((tq 16),0)] []),q0),
   (oo 18 (.bin .rem (tq 17) (.const (.sc (.int .u64 4)))),q0),
   (oo 6 (.move (tq 18) false),q0)])
 (.seq (.dreg [] [(oo 19 (.load true 2 (tq 5) false),ql 5 [3] [20]),
   (oo 20 (.buildSlice 1 1 [(.sc (.int .u8 0))] [(0,1,(.const (.sc (.int .u8 3))))]),qn [5,3] []),
   (oo 21 (.load true 3 (tq 3) false),ql 3 [5] [20]),
   (oo 22 (.call 294 [((tq 21),0)] []),qc [5] [20]),
   (oo 23 (.call 159 [((tq 20),0),((tq 22),0)] []),qc [5] []),
   (oo 24 (.move (tq 6) false),q0),
   (oo 25 (.conv .u32 (tq 24)),q0),
   (oo 26 (.call 159 [((tq 23),0),((tq 25),0)] []),qc [5] []),
   (oo 27 (.call 106 [((tq 19),0),((tq 26),0)] []),q0),
   (oo 28 (.bin .rem (tq 27) (.const (.sc (.int .u64 64)))),q0),
   (oo 29 (.conv .i64 (tq 28)),q0),
   (oo 4 (.move (tq 29) false),q0)])
 .ret))))⟩
def zoh:Hint:=⟨[],[],[none],[],[],false,false⟩
def zkp:Nat→Sh:=zV [(12,(.int .u32)),(15,(.int .u16))]
def zkc (yV:zi9) (zB:zdS) (xX:zjn) (zR:ziX) (yi:zW) (L:Nat):CBC:=(xA 294 (zgB yi L) (xA 106 (zor zR L) (xA 304 (zjk xX L) (xA 159 (zgI zB L) (xA 110 (zoi yV L) noC)))))
def zlh {β:Type} (yV:zi9) (zB:zdS) (xX:zjn) (zR:ziX) (yi:zW) (L:Nat) (p0 p1:List V) (k_fin:Int→Option β):Option β :=
 chk (0+32≤(List.length p0)) (
 yV β L (List.take 32 p0) (fun v0 =>
 chk ((List.length v0)=2∧0+2≤2) (
 lt (yk [(V.sc (.int .u64 (0:Int))),(V.sc (.int .u64 (0:Int)))] 0 v0) fun r1 =>
 chk (0+2≤(List.length r1)) (
 cI .u32 p1 0 fun v2 =>
 zB β L (zp 1 1 [(V.sc (.int .u8 (4:Int)))]) v2 (fun v3 =>
 cI .u16 p1 1 fun v4 =>
 xX β L v3 v4 (fun v5 =>
 zR β L (List.take 2 r1) v5 (fun v6 =>
 lt (Int.tmod v6 (4:Int)) fun x7 =>
 chk (0+2≤(List.length r1)) (
 chk (0+3≤(List.length p1)) (
 yi β L (List.take 3 p1) (fun v8 =>
 zB β L (zp 1 1 [(V.sc (.int .u8 (3:Int)))]) v8 (fun v9 =>
 lt (IntKind.wrap .u32 x7) fun x10 =>
 zB β L v9 x10 (fun v11 =>
 zR β L (List.take 2 r1) v11 (fun v12 =>
 lt (Int.tmod v12 (64:Int)) fun x13 =>
 lt (IntKind.wrap .i64 x13) fun x14 =>
 k_fin x14)))))))))))))
theorem zwb {β:Type} (yV:zi9) (zB:zdS) (xX:zjn) (zR:ziX) (yi:zW) (L:Nat) (p0 p1:List V) (k:KK β):xr zkp (zkc yV zB xX zR yi L) L zg8 [(V.agg p0),(V.agg p1)] [] k=zlh yV zB xX zR yi L p0 p1 (fun p0=>k (V.sc (.int .i64 p0)) []):=by kernel_rfl
abbrev yQ:=∀ (β:Type),Nat→List V→List V→(Int→Option β)→Option β
def zi (β:Type) (L:Nat) (p0 p1:List V) (k_fin:Int→Option β):Option β:=zlh yV zB xX zR yi L p0 p1 k_fin
def zfq (zi:yQ) (L:Nat) (β:Type) (args:List V) (bor:Bor) (k:KK β):Option β:=match args,bor with
 | [a0,a1],[]=>aG a0 fun p0=>aG a1 fun p1=>zi β L p0 p1 (fun p0=>k (V.sc (.int .i64 p0)) [])
 | _,_=>none
theorem zwc (L:Nat) (β:Type) (args:List V) (bor:Bor) (k:KK β) (r:β) (h:zfq zi L β args bor k=some r):xr zkp (zkc yV zB xX zR yi L) L zg8 args bor k=some r:=by
 unfold zfq at h
 split at h
 ·have q:=y5 h; clear h; obtain ⟨p0,rfl,h⟩:=q
  have q:=y5 h; clear h; obtain ⟨p1,rfl,h⟩:=q
  exact (zwb yV zB xX zR yi L p0 p1 k).trans h
 ·cases h
def zhb:CF:=⟨30,[.tmp 6],
 (.seq (.reg [oo 3 (.box true (tq 0)),
   oo 4 (.box true (tq 1)),
   oo 6 (.move (.const (.sc (.int .i64 0))) false)])
 (.seq (.reg [oo 9 (.load true 32 (tq 3) false),
   oo 10 (.call 110 [((tq 9),0)] []),
   oo 7 (.alloc true [(.sc (.int .u64 0)),(.sc (.int .u64 0))]),
   oz (.store 2 (tq 7) (tq 10))])
 (.seq (.dreg [] [(oo 11 (.load true 2 (tq 7) false),ql 7 [4] [12]),
   (oo 12 (.buildSlice 1 1 [(.sc (.int .u8 0))] [(0,1,(.const (.sc (.int .u8 2))))]),qn [7,4] []),
   (oo 13 (.load true 3 (tq 4) false),ql 4 [7] [12]),
   (oo 14 (.call 294 [((tq 13),0)] []),qc [7] [12]),
   (oo 15 (.call 159 [((tq 12),0),((tq 14),0)] []),qc [7] []),
   (oo 16 (.move (tq 2) false),q0),
   (oo 17 (.call 159 [((tq 15),0),((tq 16),0)] []),qc [7] []),
   (oo 18 (.call 106 [((tq 11),0),((tq 17),0)] []),q0),
   (oo 19 (.bin .rem (tq 18) (.const (.sc (.int .u64 4)))),q0),
   (oo 8 (.move (tq 19) false),q0)])
 (.seq (.dreg [] [(oo 20 (.load true 2 (tq 7) false),ql 7 [] [21]),
   (oo 21 (.buildSlice 1 1 [(.sc (.int .u8 0))] [(0,1,(.const (.sc (.int .u8 1))))]),qn [7] []),
   (oo 22 (.move (tq 2) false),q0),
   (oo 23 (.call 159 [((tq 21),0),((tq 22),0)] []),qc [7] []),
   (oo 24 (.move (tq 8) false),q0),
   (oo 25 (.conv .u32 (tq 24)),q0),
   (oo 26 (.call 159 [((tq 23),0),((tq 25),0)] []),qc [7] []),
   (oo 27 (.call 106 [((tq 20),0),((tq 26),0)] []),q0),
   (oo 28 (.bin .rem (tq 27) (.const (.sc (.int .u64 64)))),q0),
   (oo 29 (.conv .i64 (tq 28)),q0),
   (oo 6 (.move (tq 29) false),q0)])
 .ret))))⟩
def zoz:Hint:=⟨[],[],[none],[],[],false,false⟩
def zkL:Nat→Sh:=zV []
def zkC (yV:zi9) (yi:zW) (zB:zdS) (zR:ziX) (L:Nat):CBC:=(xA 106 (zor zR L) (xA 159 (zgI zB L) (xA 294 (zgB yi L) (xA 110 (zoi yV L) noC))))
def zlc {β:Type} (yV:zi9) (yi:zW) (zB:zdS) (zR:ziX) (L:Nat) (p0 p1:List V) (p2:Int) (k_fin:Int→Option β):Option β :=
 chk (0+32≤(List.length p0)) (
 yV β L (List.take 32 p0) (fun v0 =>
 chk ((List.length v0)=2∧0+2≤2) (
 lt (yk [(V.sc (.int .u64 (0:Int))),(V.sc (.int .u64 (0:Int)))] 0 v0) fun r1 =>
 chk (0+2≤(List.length r1)) (
 chk (0+3≤(List.length p1)) (
 yi β L (List.take 3 p1) (fun v2 =>
 zB β L (zp 1 1 [(V.sc (.int .u8 (2:Int)))]) v2 (fun v3 =>
 zB β L v3 p2 (fun v4 =>
 zR β L (List.take 2 r1) v4 (fun v5 =>
 lt (Int.tmod v5 (4:Int)) fun x6 =>
 chk (0+2≤(List.length r1)) (
 zB β L (zp 1 1 [(V.sc (.int .u8 (1:Int)))]) p2 (fun v7 =>
 lt (IntKind.wrap .u32 x6) fun x8 =>
 zB β L v7 x8 (fun v9 =>
 zR β L (List.take 2 r1) v9 (fun v10 =>
 lt (Int.tmod v10 (64:Int)) fun x11 =>
 lt (IntKind.wrap .i64 x11) fun x12 =>
 k_fin x12)))))))))))))
theorem zwd {β:Type} (yV:zi9) (yi:zW) (zB:zdS) (zR:ziX) (L:Nat) (p0 p1:List V) (p2:Int) (k:KK β):xr zkL (zkC yV yi zB zR L) L zhb [(V.agg p0),(V.agg p1),(V.sc (.int .u32 p2))] [] k=zlc yV yi zB zR L p0 p1 p2 (fun p0=>k (V.sc (.int .i64 p0)) []):=by kernel_rfl
abbrev yz:=∀ (β:Type),Nat→List V→List V→Int→(Int→Option β)→Option β
def yd (β:Type) (L:Nat) (p0 p1:List V) (p2:Int) (k_fin:Int→Option β):Option β:=zlc yV yi zB zR L p0 p1 p2 k_fin
def zfm (yd:yz) (L:Nat) (β:Type) (args:List V) (bor:Bor) (k:KK β):Option β:=match args,bor with
 | [a0,a1,a2],[]=>aG a0 fun p0=>aG a1 fun p1=>aI .u32 a2 fun p2=>yd β L p0 p1 p2 (fun p0=>k (V.sc (.int .i64 p0)) [])
 | _,_=>none
theorem zwi (L:Nat) (β:Type) (args:List V) (bor:Bor) (k:KK β) (r:β) (h:zfm yd L β args bor k=some r):xr zkL (zkC yV yi zB zR L) L zhb args bor k=some r:=by
 unfold zfm at h
 split at h
 ·have q:=y5 h; clear h; obtain ⟨p0,rfl,h⟩:=q
  have q:=y5 h; clear h; obtain ⟨p1,rfl,h⟩:=q
  have q:=zad h; clear h; obtain ⟨p2,rfl,h⟩:=q
  exact (zwd yV yi zB zR L p0 p1 p2 k).trans h
 ·cases h
def zoC:CF:=⟨17,[.tmp 4],
 (.seq (.reg [oo 2 (.box true (tq 0)),
   oo 3 (.box true (tq 1)),
   oo 4 (.move (.const (.sc (.bool false))) false)])
 (.seq (.reg [oo 5 (.fieldAddr 0 (tq 2)),
   oo 6 (.load false 1 (tq 5) false),
   oo 7 (.fieldAddr 0 (tq 3)),
   oo 8 (.load false 1 (tq 7) false),
   oo 9 (.bin .eql (tq 6) (tq 8)),
   oo 10 (.move (tq 9) false),
   ⟨(some 11),false,(some (10,true)),.fieldAddr 1 (tq 2)⟩,
   ⟨(some 12),false,(some (10,true)),.load false 1 (tq 11) false⟩,
   ⟨(some 13),false,(some (10,true)),.fieldAddr 1 (tq 3)⟩,
   ⟨(some 14),false,(some (10,true)),.load false 1 (tq 13) false⟩,
   ⟨(some 15),false,(some (10,true)),.bin .eql (tq 12) (tq 14)⟩,
   oo 16 (.pick (tq 10) (tq 15) (.const (.sc (.bool false)))),
   oo 4 (.move (tq 16) false)])
 .ret))⟩
def zvZ:Hint:=⟨[],[],[none],[],[],false,false⟩
def zsV:Nat→Sh:=zV [(6,(.int .u32)),(8,(.int .u32)),(12,(.int .u16)),(14,(.int .u16))]
def zs7 (L:Nat):CBC:=noC
def zuj {β:Type} (L:Nat) (p0 p1:List V) (k_fin:Bool→Option β):Option β :=
 cI .u32 p0 0 fun v0 =>
 cI .u32 p1 0 fun v1 =>
 ifb ((v0:Int) == v1) (
 cI .u16 p0 1 fun v2 =>
 cI .u16 p1 1 fun v3 =>
 k_fin ((v2:Int) == v3)) (
 k_fin false)
theorem zDq {β:Type} (L:Nat) (p0 p1:List V) (k:KK β):xr zsV (zs7 L) L zoC [(V.agg p0),(V.agg p1)] [] k=zuj L p0 p1 (fun p0=>k (V.sc (.bool p0)) []):=by kernel_rfl
abbrev xR:=∀ (β:Type),Nat→List V→List V→(Bool→Option β)→Option β
def zk (β:Type) (L:Nat) (p0 p1:List V) (k_fin:Bool→Option β):Option β:=zuj L p0 p1 k_fin
def zna (zk:xR) (L:Nat) (β:Type) (args:List V) (bor:Bor) (k:KK β):Option β:=match args,bor with
 | [a0,a1],[]=>aG a0 fun p0=>aG a1 fun p1=>zk β L p0 p1 (fun p0=>k (V.sc (.bool p0)) [])
 | _,_=>none
theorem zDU (L:Nat) (β:Type) (args:List V) (bor:Bor) (k:KK β) (r:β) (h:zna zk L β args bor k=some r):xr zsV (zs7 L) L zoC args bor k=some r:=by
 unfold zna at h
 split at h
 ·have q:=y5 h; clear h; obtain ⟨p0,rfl,h⟩:=q
  have q:=y5 h; clear h; obtain ⟨p1,rfl,h⟩:=q
  exact (zDq L p0 p1 k).trans h
 ·cases h
def zgR:CC:=(.seq (.seq (.reg [oo 6 (.move (tq 5) false),
   oo 7 (.move (tq 0) false),
   oo 8 (.lenS (tq 7)),
   oo 9 (.bin .lss (tq 6) (tq 8))])
 (.cond (tq 9)
 .skip
 (.seq (.mask (bl 0 20) (bl 786119 20))
 (.exit 0))))
 (.seq (.block 1 (.seq (.dreg [] [(oo 12 (.move (tq 0) false),q0),
   (oo 13 (.move (tq 5) false),q0),
   (oo 14 (.indexAddrS 5 (tq 12) (tq 13)),q0),
   (oo 15 (.fieldAddr 1 (tq 14)),q0),
   (oo 16 (.load true 3 (tq 15) false),q1),
   (oo 17 (.load true 3 (tq 3) false),{ q1 with root:=some 3 }),
   (oo 18 (.call 303 [((tq 16),0),((tq 17),0)] []),q0)])
 (.cond (tq 18)
 (.seq (.reg [oo 19 (.move (tq 5) false),
   oo 4 (.move (tq 19) false)])
 (.seq (.mask (bl 16 20) (bl 786135 20))
 .ret))
 .skip)))
 (.reg [oo 10 (.move (tq 5) false),
   oo 11 (.bin .add (tq 10) (.const (.sc (.int .i64 1)))),
   oo 5 (.move (tq 11) false)])))
def znj:CC:=(.seq (.reg [oo 4 (.move (.const (.sc (.int .i64 (-1)))) false)])
 .ret)
def zeo:CF:=⟨20,[.tmp 4],
 (.seq (.reg [oo 3 (.box true (tq 1)),
   oo 4 (.move (.const (.sc (.int .i64 0))) false)])
 (.seq (.seq (.reg [oo 5 (.move (.const (.sc (.int .i64 0))) false)])
 (.block 0 (.loop (bl 41 20) (bl 786159 20)
 zgR)))
 znj))⟩
def zvH:Hint:=⟨[],[],[none,some ((bl 41 20),(bl 786159 20)),none,some ((bl 0 20),(bl 786119 20)),none,none,some ((bl 16 20),(bl 786135 20)),none],[],[],false,false⟩
def zcV:Nat→Sh:=zV []
def zcT (zk:xR) (L:Nat):CBC:=(xA 303 (zna zk L) noC)
def zkw:St→St:=zaE 0 (bl 41 20) (bl 786159 20)
def zhO (p0:List (List V)) (p5:Int) (b3:List V):St:=⟨((V.sl 5 p0)::(jn 2 ((V.ptr 3 0)::(jn 1 ((V.sc (.int .i64 p5))::(jn 14 [])))))),(gn 3 ((.live true b3)::(gn 16 [])))⟩
def znT (p4:Int):St:=⟨(jn 4 ((V.sc (.int .i64 p4))::(jn 15 []))),(gn 20 [])⟩
def zpa:St:=⟨(jn 20 []),(gn 20 [])⟩
def zu4 {β:Type} (zk:xR) (L:Nat) (p0:List (List V)) (p1:List V) (k_hbaba:List (List V)→Int→List V→Option β):Option β :=
 k_hbaba p0 (0:Int) p1
theorem zD0 {β:Type} (zk:xR) (L:Nat) (p0:List (List V)) (p1:List V) (k:KK β):xr zcV (zcT zk L) L zeo [(V.sl 5 p0),(V.agg p1)] [] k=zu4 zk L p0 p1 (fun p0 p5 b3=>xy (yj zcV (zcT zk L) 0 L zgR) zkw L (zhO p0 p5 b3) (zx 0 (yI (yj zcV (zcT zk L) 0 L znj) (zN 0 (CF.res zeo) k)))):=by kernel_rfl
def zoX {β:Type} (zk:xR) (L:Nat) (p0:List (List V)) (p5:Int) (b3:List V) (k_ret:Int→Option β) (k_hbaba:List (List V)→Int→List V→Option β) (k_x0:Option β):Option β :=
 ifb (decide (p5 < ((List.length p0:Nat):Int))) (
 idx p0 p5 fun c0 =>
 chk (0+3≤(List.length b3)) (
 zk β L (List.take 3 (List.drop 1 c0)) (List.take 3 b3) (fun v1 =>
 ifb v1 (
 k_ret p5) (
 lt (IntKind.wrap .i64 ((p5:Int)+(1:Int))) fun x2 =>
 k_hbaba p0 x2 b3)))) (
 k_x0)
theorem zzk {β:Type} (zk:xR) (L:Nat) (p0:List (List V)) (p5:Int) (b3:List V) (X:St→Option β) (K:KT β):yj zcV (zcT zk L) 0 L zgR (zhO p0 p5 b3) (zaz zkw X K)=zoX zk L p0 p5 b3 (fun p4=>K .ret (znT p4)) (fun p0 p5 b3=>X (zhO p0 p5 b3)) (K (.exit 0) (zpa)):=by kernel_rfl
def zru {β:Type} (zk:xR) (L:Nat) (p4:Int) (k_fin:Int→Option β):Option β :=
 k_fin p4
theorem zwx {β:Type} (zk:xR) (L:Nat) (p4:Int) (k:KK β):(zx 0 (yI (yj zcV (zcT zk L) 0 L znj) (zN 0 (CF.res zeo) k))) .ret (znT p4)=zru zk L p4 (fun p0=>k (V.sc (.int .i64 p0)) []):=by kernel_rfl
def zsF {β:Type} (zk:xR) (L:Nat) (k_fin:Int→Option β):Option β :=
 k_fin (-1:Int)
theorem zwY {β:Type} (zk:xR) (L:Nat) (k:KK β):(zx 0 (yI (yj zcV (zcT zk L) 0 L znj) (zN 0 (CF.res zeo) k))) (.exit 0) (zpa)=zsF zk L (fun p0=>k (V.sc (.int .i64 p0)) []):=by kernel_rfl
def zhL {β:Type} (zk:xR) (L:Nat) (k_ret:Int→Option β) (k_x0:Option β):Nat→List (List V)→Int→List V→Option β
 | 0,_,_,_=>none
 | n+1,p0,p5,b3=>zoX zk L p0 p5 b3 k_ret (fun p0 p5 b3=>zhL zk L k_ret k_x0 n p0 p5 b3) k_x0
theorem zrw {β:Type} (zk:xR) (L:Nat) (K:KT β):∀ (n:Nat) (p0:List (List V)) (p5:Int) (b3:List V),xy (yj zcV (zcT zk L) 0 L zgR) zkw n (zhO p0 p5 b3) K=zhL zk L (fun p4=>K .ret (znT p4)) (K (.exit 0) (zpa)) n p0 p5 b3:=by
 intro n
 induction n with
 | zero=>intros; rfl
 | succ n ih =>
  intro p0 p5 b3
  refine (zzk zk L p0 p5 b3 (fun σ=>xy (yj zcV (zcT zk L) 0 L zgR) zkw n σ K) K).trans ?_
  simp only [ih]
  rfl
def zq1 {β:Type} (zk:xR) (L:Nat) (p0:List (List V)) (p1:List V) (k_fin:Int→Option β):Option β :=
 zu4 zk L p0 p1 (fun p0 p5 b3=>zhL zk L (fun p4=>zru zk L p4 k_fin) (zsF zk L k_fin) L p0 p5 b3)
theorem zCW {β:Type} (zk:xR) (L:Nat) (p0:List (List V)) (p1:List V) (k:KK β):xr zcV (zcT zk L) L zeo [(V.sl 5 p0),(V.agg p1)] [] k=zq1 zk L p0 p1 (fun p0=>k (V.sc (.int .i64 p0)) []):=by
 refine (zD0 zk L p0 p1 k).trans ?_
 unfold zq1
 first
  | (simp only [zrw,zwx,zwY]; done)
  | (simp only [zrw]; rfl)
abbrev zO:=∀ (β:Type),Nat→List (List V)→List V→(Int→Option β)→Option β
def zg (β:Type) (L:Nat) (p0:List (List V)) (p1:List V) (k_fin:Int→Option β):Option β:=zq1 zk L p0 p1 k_fin
def zjG (zg:zO) (L:Nat) (β:Type) (args:List V) (bor:Bor) (k:KK β):Option β:=match args,bor with
 | [a0,a1],[]=>aL 5 a0 fun p0=>aG a1 fun p1=>zg β L p0 p1 (fun p0=>k (V.sc (.int .i64 p0)) [])
 | _,_=>none
theorem zC5 (L:Nat) (β:Type) (args:List V) (bor:Bor) (k:KK β) (r:β) (h:zjG zg L β args bor k=some r):xr zcV (zcT zk L) L zeo args bor k=some r:=by
 unfold zjG at h
 split at h
 ·have q:=xP h; clear h; obtain ⟨p0,rfl,h⟩:=q
  have q:=y5 h; clear h; obtain ⟨p1,rfl,h⟩:=q
  exact (zCW zk L p0 p1 k).trans h
 ·cases h
def zfn:CC:=(.seq (.seq (.reg [oo 12 (.move (tq 7) false),
   oo 13 (.move (tq 1) false),
   oo 14 (.lenS (tq 13)),
   oo 15 (.bin .lss (tq 12) (tq 14))])
 (.cond (tq 15)
 .skip
 (.seq (.mask (bl 0 84) (bl 18133887294219300164845111 84))
 (.exit 0))))
 (.seq (.block 1 (.seq (.dreg [] [(oo 18 (.load true 32 (tq 3) false),{ q1 with root:=some 3 }),
   (oo 19 (.move (tq 1) false),q0),
   (oo 20 (.move (tq 7) false),q0),
   (oo 21 (.indexAddrS 5 (tq 19) (tq 20)),q0),
   (oo 22 (.fieldAddr 1 (tq 21)),q0),
   (oo 23 (.load true 3 (tq 22) false),q1),
   (oo 24 (.call 290 [((tq 18),0),((tq 23),0)] []),q0),
   (oo 8 (.move (tq 24) false),q0)])
 (.seq (.seq (.reg [oo 25 (.move (tq 2) false)])
 (.cond (tq 25)
 (.dreg [] [(oo 26 (.load true 32 (tq 3) false),{ q1 with root:=some 3 }),
   (oo 27 (.move (tq 1) false),q0),
   (oo 28 (.move (tq 7) false),q0),
   (oo 29 (.indexAddrS 5 (tq 27) (tq 28)),q0),
   (oo 30 (.fieldAddr 1 (tq 29)),q0),
   (oo 31 (.load true 3 (tq 30) false),q1),
   (oo 32 (.move (tq 1) false),q0),
   (oo 33 (.move (tq 7) false),q0),
   (oo 34 (.indexAddrS 5 (tq 32) (tq 33)),q0),
   (oo 35 (.fieldAddr 4 (tq 34)),q0),
   (oo 36 (.load false 1 (tq 35) false),q1),
   (oo 37 (.call 305 [((tq 26),0),((tq 31),0),((tq 36),0)] []),q0),
   (oo 8 (.move (tq 37) false),q0)])
 .skip))
 (.seq (.reg [oo 38 (.move (tq 1) false),
   oo 39 (.move (tq 7) false),
   oo 40 (.indexAddrS 5 (tq 38) (tq 39)),
   oo 41 (.fieldAddr 0 (tq 40)),
   oo 42 (.load false 1 (tq 41) false),
   oo 43 (.move (tq 8) false),
   oo 44 (.bin .neq (tq 42) (tq 43)),
   oo 45 (.move (tq 44) false),
   ⟨(some 46),false,(some (45,false)),.move (tq 7) false⟩,
   ⟨(some 47),false,(some (45,false)),.bin .gtr (tq 46) (.const (.sc (.int .i64 0)))⟩,
   ⟨(some 48),false,(some (45,false)),.move (tq 47) false⟩,
   ⟨(some 49),false,(some (48,true)),.move (tq 1) false⟩,
   ⟨(some 50),false,(some (48,true)),.move (tq 7) false⟩,
   ⟨(some 51),false,(some (48,true)),.bin .sub (tq 50) (.const (.sc (.int .i64 1)))⟩,
   ⟨(some 52),false,(some (48,true)),.indexAddrS 5 (tq 49) (tq 51)⟩,
   ⟨(some 53),false,(some (48,true)),.fieldAddr 0 (tq 52)⟩,
   ⟨(some 54),false,(some (48,true)),.load false 1 (tq 53) false⟩,
   ⟨(some 55),false,(some (48,true)),.move (tq 8) false⟩,
   ⟨(some 56),false,(some (48,true)),.bin .gtr (tq 54) (tq 55)⟩,
   ⟨(some 57),false,(some (45,false)),.pick (tq 48) (tq 56) (.const (.sc (.bool false)))⟩,
   oo 58 (.pick (tq 45) (.const (.sc (.bool true))) (tq 57)),
   oo 59 (.move (tq 58) false),
   ⟨(some 60),false,(some (59,false)),.move (tq 7) false⟩,
   ⟨(some 61),false,(some (59,false)),.bin .geq (tq 60) (.const (.sc (.int .i64 8)))⟩,
   ⟨(some 62),false,(some (59,false)),.move (tq 61) false⟩,
   ⟨(some 63),false,(some (62,true)),.move (tq 1) false⟩,
   ⟨(some 64),false,(some (62,true)),.move (tq 7) false⟩,
   ⟨(some 65),false,(some (62,true)),.bin .sub (tq 64) (.const (.sc (.int .i64 8)))⟩,
   ⟨(some 66),false,(some (62,true)),.indexAddrS 5 (tq 63) (tq 65)⟩,
   ⟨(some 67),false,(some (62,true)),.fieldAddr 0 (tq 66)⟩,
   ⟨(some 68),false,(some (62,true)),.load false 1 (tq 67) false⟩,
   ⟨(some 69),false,(some (62,true)),.move (tq 8) false⟩,
   ⟨(some 70),false,(some (62,true)),.bin .eql (tq 68) (tq 69)⟩,
   ⟨(some 71),false,(some (59,false)),.pick (tq 62) (tq 70) (.const (.sc (.bool false)))⟩,
   oo 72 (.pick (tq 59) (.const (.sc (.bool true))) (tq 71)),
   oo 73 (.move (tq 72) false),
   ⟨(some 74),false,(some (73,false)),.move (tq 1) false⟩,
   ⟨(some 75),false,(some (73,false)),.move (tq 1) false⟩,
   ⟨(some 76),false,(some (73,false)),.move (tq 7) false⟩,
   ⟨(some 77),false,(some (73,false)),.indexAddrS 5 (tq 75) (tq 76)⟩,
   ⟨(some 78),false,(some (73,false)),.fieldAddr 1 (tq 77)⟩,
   ⟨(some 79),false,(some (73,false)),.load true 3 (tq 78) false⟩,
   ⟨(some 80),false,(some (73,false)),.call 287 [((tq 74),2),((tq 79),2)] []⟩,
   ⟨(some 81),false,(some (73,false)),.move (tq 7) false⟩,
   ⟨(some 82),false,(some (73,false)),.bin .neq (tq 80) (tq 81)⟩,
   oo 83 (.pick (tq 73) (.const (.sc (.bool true))) (tq 82))])
 (.cond (tq 83)
 (.seq (.reg [oo 6 (.move (.const (.sc (.bool false))) false)])
 (.seq (.mask (bl 64 84) (bl 18133887294219300164845175 84))
 .ret))
 .skip)))))
 (.reg [oo 16 (.move (tq 7) false),
   oo 17 (.bin .add (tq 16) (.const (.sc (.int .i64 1)))),
   oo 7 (.move (tq 17) false)])))
def zku:CC:=(.seq (.reg [oo 6 (.move (.const (.sc (.bool true))) false)])
 .ret)
def zeC:CF:=⟨84,[.tmp 6],
 (.seq (.reg [oo 3 (.box true (tq 0)),
   oo 6 (.move (.const (.sc (.bool false))) false)])
 (.seq (.seq (.reg [oo 9 (.move (tq 1) false),
   oo 10 (.lenS (tq 9)),
   oo 11 (.bin .gtr (tq 10) (.const (.sc (.int .i64 512))))])
 (.cond (tq 11)
 (.seq (.reg [oo 6 (.move (.const (.sc (.bool false))) false)])
 .ret)
 .skip))
 (.seq (.seq (.reg [oo 7 (.move (.const (.sc (.int .i64 0))) false)])
 (.block 0 (.loop (bl 142 84) (bl 18133887294219300164845247 84)
 zfn)))
 zku)))⟩
def zuI:Hint:=⟨[(9,42)],[],[none,none,none,some ((bl 142 84),(bl 18133887294219300164845247 84)),none,some ((bl 0 84),(bl 18133887294219300164845111 84)),none,none,none,some ((bl 64 84),(bl 18133887294219300164845175 84)),none],[],[],false,false⟩
def zcm:Nat→Sh:=zV [(36,(.int .u32)),(42,(.int .i64)),(54,(.int .i64)),(68,(.int .i64))]
def zcr (zi:yQ) (yd:yz) (zg:zO) (L:Nat):CBC:=(xA 287 (zjG zg L) (xA 305 (zfm yd L) (xA 290 (zfq zi L) noC)))
def ziy:St→St:=zaE 0 (bl 142 84) (bl 18133887294219300164845247 84)
def zgj (p1:List (List V)) (p2:Bool) (p7:Int) (b3:List V):St:=⟨(jn 1 ((V.sl 5 p1)::((V.sc (.bool p2))::((V.ptr 3 0)::(jn 3 ((V.sc (.int .i64 p7))::(jn 76 []))))))),(gn 3 ((.live true b3)::(gn 80 [])))⟩
def zmy (p6:Bool):St:=⟨(jn 6 ((V.sc (.bool p6))::(jn 77 []))),(gn 84 [])⟩
def zof:St:=⟨(jn 84 []),(gn 84 [])⟩
def zoJ {β:Type} (zi:yQ) (yd:yz) (zg:zO) (L:Nat) (p0:List V) (p1:List (List V)) (p2:Bool) (k_fin:Bool→Option β) (k_hbbaba:List (List V)→Bool→Int→List V→Option β):Option β :=
 ifb (decide (((List.length p1:Nat):Int) > (512:Int))) (
 k_fin false) (
 k_hbbaba p1 p2 (0:Int) p0)
theorem zBX {β:Type} (zi:yQ) (yd:yz) (zg:zO) (L:Nat) (p0:List V) (p1:List (List V)) (p2:Bool) (k:KK β):xr zcm (zcr zi yd zg L) L zeC [(V.agg p0),(V.sl 5 p1),(V.sc (.bool p2))] [] k=zoJ zi yd zg L p0 p1 p2 (fun p0=>k (V.sc (.bool p0)) []) (fun p1 p2 p7 b3=>xy (yj zcm (zcr zi yd zg L) 0 L zfn) ziy L (zgj p1 p2 p7 b3) (zx 0 (yI (yj zcm (zcr zi yd zg L) 0 L zku) (zN 0 (CF.res zeC) k)))):=by kernel_rfl
def ziJ {β:Type} (zi:yQ) (yd:yz) (zg:zO) (L:Nat) (p1:List (List V)) (p2:Bool) (p7:Int) (b3:List V) (k_ret:Bool→Option β) (k_hbbaba:List (List V)→Bool→Int→List V→Option β) (k_x0:Option β):Option β :=
 ifb (decide (p7 < ((List.length p1:Nat):Int))) (
 chk (0+32≤(List.length b3)) (
 idx p1 p7 fun c0 =>
 zi β L (List.take 32 b3) (List.take 3 (List.drop 1 c0)) (fun v1 =>
 ifb p2 (
 chk (0+32≤(List.length b3)) (
 idx p1 p7 fun c2 =>
 idx p1 p7 fun c3 =>
 cI .u32 (List.drop 4 c3) 0 fun v4 =>
 yd β L (List.take 32 b3) (List.take 3 (List.drop 1 c2)) v4 (fun v5 =>
 idx p1 p7 fun c6 =>
 cI .i64 c6 0 fun v7 =>
 ifb ((v7:Int) != v5) (
 k_ret false) (
 ifb (decide (p7 > (0:Int))) (
 lt (IntKind.wrap .i64 ((p7:Int) - (1:Int))) fun x8 =>
 idx p1 x8 fun c9 =>
 cI .i64 c9 0 fun v10 =>
 ifb (decide (v10 > v5)) (
 k_ret false) (
 ifb (decide (p7 ≥ (8:Int))) (
 lt (IntKind.wrap .i64 ((p7:Int) - (8:Int))) fun x11 =>
 idx p1 x11 fun c12 =>
 cI .i64 c12 0 fun v13 =>
 ifb ((v13:Int) == v5) (
 k_ret false) (
 idx p1 p7 fun c14 =>
 zg β L p1 (List.take 3 (List.drop 1 c14)) (fun v15 =>
 ifb ((v15:Int) != p7) (
 k_ret false) (
 lt (IntKind.wrap .i64 ((p7:Int)+(1:Int))) fun x16 =>
 k_hbbaba p1 p2 x16 b3)))) (
 idx p1 p7 fun c17 =>
 zg β L p1 (List.take 3 (List.drop 1 c17)) (fun v18 =>
 ifb ((v18:Int) != p7) (
 k_ret false) (
 lt (IntKind.wrap .i64 ((p7:Int)+(1:Int))) fun x19 =>
 k_hbbaba p1 p2 x19 b3))))) (
 ifb (decide (p7 ≥ (8:Int))) (
 lt (IntKind.wrap .i64 ((p7:Int) - (8:Int))) fun x20 =>
 idx p1 x20 fun c21 =>
 cI .i64 c21 0 fun v22 =>
 ifb ((v22:Int) == v5) (
 k_ret false) (
 idx p1 p7 fun c23 =>
 zg β L p1 (List.take 3 (List.drop 1 c23)) (fun v24 =>
 ifb ((v24:Int) != p7) (
 k_ret false) (
 lt (IntKind.wrap .i64 ((p7:Int)+(1:Int))) fun x25 =>
 k_hbbaba p1 p2 x25 b3)))) (
 idx p1 p7 fun c26 =>
 zg β L p1 (List.take 3 (List.drop 1 c26)) (fun v27 =>
 ifb ((v27:Int) != p7) (
 k_ret false) (
 lt (IntKind.wrap .i64 ((p7:Int)+(1:Int))) fun x28 =>
 k_hbbaba p1 p2 x28 b3)))))))) (
 idx p1 p7 fun c29 =>
 cI .i64 c29 0 fun v30 =>
 ifb ((v30:Int) != v1) (
 k_ret false) (
 ifb (decide (p7 > (0:Int))) (
 lt (IntKind.wrap .i64 ((p7:Int) - (1:Int))) fun x31 =>
 idx p1 x31 fun c32 =>
 cI .i64 c32 0 fun v33 =>
 ifb (decide (v33 > v1)) (
 k_ret false) (
 ifb (decide (p7 ≥ (8:Int))) (
 lt (IntKind.wrap .i64 ((p7:Int) - (8:Int))) fun x34 =>
 idx p1 x34 fun c35 =>
 cI .i64 c35 0 fun v36 =>
 ifb ((v36:Int) == v1) (
 k_ret false) (
 idx p1 p7 fun c37 =>
 zg β L p1 (List.take 3 (List.drop 1 c37)) (fun v38 =>
 ifb ((v38:Int) != p7) (
 k_ret false) (
 lt (IntKind.wrap .i64 ((p7:Int)+(1:Int))) fun x39 =>
 k_hbbaba p1 p2 x39 b3)))) (
 idx p1 p7 fun c40 =>
 zg β L p1 (List.take 3 (List.drop 1 c40)) (fun v41 =>
 ifb ((v41:Int) != p7) (
 k_ret false) (
 lt (IntKind.wrap .i64 ((p7:Int)+(1:Int))) fun x42 =>
 k_hbbaba p1 p2 x42 b3))))) (
 ifb (decide (p7 ≥ (8:Int))) (
 lt (IntKind.wrap .i64 ((p7:Int) - (8:Int))) fun x43 =>
 idx p1 x43 fun c44 =>
 cI .i64 c44 0 fun v45 =>
 ifb ((v45:Int) == v1) (
 k_ret false) (
 idx p1 p7 fun c46 =>
 zg β L p1 (List.take 3 (List.drop 1 c46)) (fun v47 =>
 ifb ((v47:Int) != p7) (
 k_ret false) (
 lt (IntKind.wrap .i64 ((p7:Int)+(1:Int))) fun x48 =>
 k_hbbaba p1 p2 x48 b3)))) (
 idx p1 p7 fun c49 =>
 zg β L p1 (List.take 3 (List.drop 1 c49)) (fun v50 =>
 ifb ((v50:Int) != p7) (
 k_ret false) (
 lt (IntKind.wrap .i64 ((p7:Int)+(1:Int))) fun x51 =>
 k_hbbaba p1 p2 x51 b3))))))))) (
 k_x0)
theorem zxv {β:Type} (zi:yQ) (yd:yz) (zg:zO) (L:Nat) (p1:List (List V)) (p2:Bool) (p7:Int) (b3:List V) (X:St→Option β) (K:KT β):yj zcm (zcr zi yd zg L) 0 L zfn (zgj p1 p2 p7 b3) (zaz ziy X K)=ziJ zi yd zg L p1 p2 p7 b3 (fun p6=>K .ret (zmy p6)) (fun p1 p2 p7 b3=>X (zgj p1 p2 p7 b3)) (K (.exit 0) (zof)):=by kernel_rfl
def zph {β:Type} (zi:yQ) (yd:yz) (zg:zO) (L:Nat) (p6:Bool) (k_fin:Bool→Option β):Option β :=
 k_fin p6
theorem zuz {β:Type} (zi:yQ) (yd:yz) (zg:zO) (L:Nat) (p6:Bool) (k:KK β):(zx 0 (yI (yj zcm (zcr zi yd zg L) 0 L zku) (zN 0 (CF.res zeC) k))) .ret (zmy p6)=zph zi yd zg L p6 (fun p0=>k (V.sc (.bool p0)) []):=by kernel_rfl
def zpW {β:Type} (zi:yQ) (yd:yz) (zg:zO) (L:Nat) (k_fin:Bool→Option β):Option β :=
 k_fin true
theorem zvD {β:Type} (zi:yQ) (yd:yz) (zg:zO) (L:Nat) (k:KK β):(zx 0 (yI (yj zcm (zcr zi yd zg L) 0 L zku) (zN 0 (CF.res zeC) k))) (.exit 0) (zof)=zpW zi yd zg L (fun p0=>k (V.sc (.bool p0)) []):=by kernel_rfl
def zbT {β:Type} (zi:yQ) (yd:yz) (zg:zO) (L:Nat) (k_ret:Bool→Option β) (k_x0:Option β):Nat→List (List V)→Bool→Int→List V→Option β
 | 0,_,_,_,_=>none
 | n+1,p1,p2,p7,b3=>ziJ zi yd zg L p1 p2 p7 b3 k_ret (fun p1 p2 p7 b3=>zbT zi yd zg L k_ret k_x0 n p1 p2 p7 b3) k_x0
theorem zpD {β:Type} (zi:yQ) (yd:yz) (zg:zO) (L:Nat) (K:KT β):∀ (n:Nat) (p1:List (List V)) (p2:Bool) (p7:Int) (b3:List V),xy (yj zcm (zcr zi yd zg L) 0 L zfn) ziy n (zgj p1 p2 p7 b3) K=zbT zi yd zg L (fun p6=>K .ret (zmy p6)) (K (.exit 0) (zof)) n p1 p2 p7 b3:=by
 intro n
 induction n with
 | zero=>intros; rfl
 | succ n ih =>
  intro p1 p2 p7 b3
  refine (zxv zi yd zg L p1 p2 p7 b3 (fun σ=>xy (yj zcm (zcr zi yd zg L) 0 L zfn) ziy n σ K) K).trans ?_
  simp only [ih]
  rfl
def zk1 {β:Type} (zi:yQ) (yd:yz) (zg:zO) (L:Nat) (p0:List V) (p1:List (List V)) (p2:Bool) (k_fin:Bool→Option β):Option β :=
 zoJ zi yd zg L p0 p1 p2 k_fin (fun p1 p2 p7 b3=>zbT zi yd zg L (fun p6=>zph zi yd zg L p6 k_fin) (zpW zi yd zg L k_fin) L p1 p2 p7 b3)
theorem zCp {β:Type} (zi:yQ) (yd:yz) (zg:zO) (L:Nat) (p0:List V) (p1:List (List V)) (p2:Bool) (k:KK β):xr zcm (zcr zi yd zg L) L zeC [(V.agg p0),(V.sl 5 p1),(V.sc (.bool p2))] [] k=zk1 zi yd zg L p0 p1 p2 (fun p0=>k (V.sc (.bool p0)) []):=by
 refine (zBX zi yd zg L p0 p1 p2 k).trans ?_
 unfold zk1
 first
  | (simp only [zpD,zuz,zvD]; done)
  | (simp only [zpD]; rfl)
abbrev zbw:=∀ (β:Type),Nat→List V→List (List V)→Bool→(Bool→Option β)→Option β
def yv (β:Type) (L:Nat) (p0:List V) (p1:List (List V)) (p2:Bool) (k_fin:Bool→Option β):Option β:=zk1 zi yd zg L p0 p1 p2 k_fin
def zoK (yv:zbw) (L:Nat) (β:Type) (args:List V) (bor:Bor) (k:KK β):Option β:=match args,bor with
 | [a0,a1,a2],[]=>aG a0 fun p0=>aL 5 a1 fun p1=>aB a2 fun p2=>yv β L p0 p1 p2 (fun p0=>k (V.sc (.bool p0)) [])
 | _,_=>none
theorem zCy (L:Nat) (β:Type) (args:List V) (bor:Bor) (k:KK β) (r:β) (h:zoK yv L β args bor k=some r):xr zcm (zcr zi yd zg L) L zeC args bor k=some r:=by
 unfold zoK at h
 split at h
 ·have q:=y5 h; clear h; obtain ⟨p0,rfl,h⟩:=q
  have q:=xP h; clear h; obtain ⟨p1,rfl,h⟩:=q
  have q:=zxd h; clear h; obtain ⟨p2,rfl,h⟩:=q
  exact (zCp zi yd zg L p0 p1 p2 k).trans h
 ·cases h
def zfp:CC:=(.seq (.seq (.reg [oo 18 (.move (tq 3) false),
   oo 19 (.fieldAddr 32 (tq 1)),
   oo 20 (.load false 1 (tq 19) false),
   oo 21 (.lenS (tq 20)),
   oo 22 (.bin .lss (tq 18) (tq 21))])
 (.cond (tq 22)
 .skip
 (.seq (.mask (bl 0 35) (bl 25767706609 35))
 (.exit 0))))
 (.seq (.block 1 (.seq (.dreg [] [(oo 25 (.fieldAddr 33 (tq 1)),q0),
   (oo 26 (.load false 1 (tq 25) false),{ q1 with root:=some 1 }),
   (oo 27 (.fieldAddr 32 (tq 1)),q0),
   (oo 28 (.load false 1 (tq 27) false),{ q1 with root:=some 1 }),
   (oo 29 (.move (tq 3) false),q0),
   (oo 30 (.indexAddrS 5 (tq 28) (tq 29)),q0),
   (oo 31 (.fieldAddr 1 (tq 30)),q0),
   (oo 32 (.load true 3 (tq 31) false),q1),
   (oo 33 (.call 287 [((tq 26),2),((tq 32),2)] []),q0),
   (oo 34 (.bin .geq (tq 33) (.const (.sc (.int .i64 0)))),q0)])
 (.cond (tq 34)
 (.seq (.reg [oo 2 (.move (.const (.sc (.bool false))) false)])
 (.seq (.mask (bl 4 35) (bl 25767706613 35))
 .ret))
 .skip)))
 (.reg [oo 23 (.move (tq 3) false),
   oo 24 (.bin .add (tq 23) (.const (.sc (.int .i64 1)))),
   oo 3 (.move (tq 24) false)])))
def zkl:CC:=(.seq (.reg [oo 2 (.move (.const (.sc (.bool true))) false)])
 .ret)
def zeA:CF:=⟨35,[.tmp 2],
 (.seq (.reg [oo 1 (.box true (tq 0)),
   oo 2 (.move (.const (.sc (.bool false))) false)])
 (.seq (.seq (.reg [oo 4 (.fieldAddr 0 (tq 1)),
   oo 5 (.load true 32 (tq 4) false),
   oo 6 (.fieldAddr 32 (tq 1)),
   oo 7 (.load false 1 (tq 6) false),
   oo 8 (.call 302 [((tq 5),0),((tq 7),0),((.const (.sc (.bool true))),0)] []),
   oo 9 (.un .not (tq 8)),
   oo 10 (.move (tq 9) false),
   ⟨(some 11),false,(some (10,false)),.fieldAddr 0 (tq 1)⟩,
   ⟨(some 12),false,(some (10,false)),.load true 32 (tq 11) false⟩,
   ⟨(some 13),false,(some (10,false)),.fieldAddr 33 (tq 1)⟩,
   ⟨(some 14),false,(some (10,false)),.load false 1 (tq 13) false⟩,
   ⟨(some 15),false,(some (10,false)),.call 302 [((tq 12),0),((tq 14),0),((.const (.sc (.bool false))),0)] []⟩,
   ⟨(some 16),false,(some (10,false)),.un .not (tq 15)⟩,
   oo 17 (.pick (tq 10) (.const (.sc (.bool true))) (tq 16))])
 (.cond (tq 17)
 (.seq (.reg [oo 2 (.move (.const (.sc (.bool false))) false)])
 .ret)
 .skip))
 (.seq (.seq (.reg [oo 3 (.move (.const (.sc (.int .i64 0))) false)])
 (.block 0 (.loop (bl 10 35) (bl 25767706619 35)
 zfp)))
 zkl)))⟩
def zuA:Hint:=⟨[(0,0),(6,8)],[],[none,none,none,some ((bl 10 35),(bl 25767706619 35)),none,some ((bl 0 35),(bl 25767706609 35)),none,none,some ((bl 4 35),(bl 25767706613 35)),none],[],[],false,false⟩
def zcg:Nat→Sh:=zV [(7,(.sl 5)),(14,(.sl 5)),(20,(.sl 5)),(26,(.sl 5)),(28,(.sl 5))]
def zcq (yv:zbw) (zg:zO) (L:Nat):CBC:=(xA 287 (zjG zg L) (xA 302 (zoK yv L) noC))
def ziC:St→St:=zaE 0 (bl 10 35) (bl 25767706619 35)
def zgo (p3:Int) (b1:List V):St:=⟨(jn 1 ((V.ptr 1 0)::(jn 1 ((V.sc (.int .i64 p3))::(jn 31 []))))),(gn 1 ((.live true b1)::(gn 33 [])))⟩
def zmH (p2:Bool):St:=⟨(jn 2 ((V.sc (.bool p2))::(jn 32 []))),(gn 35 [])⟩
def znS:St:=⟨(jn 35 []),(gn 35 [])⟩
def zs6 {β:Type} (yv:zbw) (zg:zO) (L:Nat) (p0:List V) (k_fin:Bool→Option β) (k_hbbaba:Int→List V→Option β):Option β :=
 chk (0+32≤(List.length p0)) (
 cLd 5 p0 32 fun v0 =>
 yv β L (List.take 32 p0) v0 true (fun v1 =>
 ifb (!v1) (
 k_fin false) (
 chk (0+32≤(List.length p0)) (
 cLd 5 p0 33 fun v2 =>
 yv β L (List.take 32 p0) v2 false (fun v3 =>
 ifb (!v3) (
 k_fin false) (
 k_hbbaba (0:Int) p0))))))
theorem zCt {β:Type} (yv:zbw) (zg:zO) (L:Nat) (p0:List V) (k:KK β):xr zcg (zcq yv zg L) L zeA [(V.agg p0)] [] k=zs6 yv zg L p0 (fun p0=>k (V.sc (.bool p0)) []) (fun p3 b1=>xy (yj zcg (zcq yv zg L) 0 L zfp) ziC L (zgo p3 b1) (zx 0 (yI (yj zcg (zcq yv zg L) 0 L zkl) (zN 0 (CF.res zeA) k)))):=by kernel_rfl
def zmV {β:Type} (yv:zbw) (zg:zO) (L:Nat) (p3:Int) (b1:List V) (k_ret:Bool→Option β) (k_hbbaba:Int→List V→Option β) (k_x0:Option β):Option β :=
 cLd 5 b1 32 fun v4 =>
 ifb (decide (p3 < ((List.length v4:Nat):Int))) (
 cLd 5 b1 33 fun v5 =>
 cLd 5 b1 32 fun v6 =>
 idx v6 p3 fun c7 =>
 zg β L v5 (List.take 3 (List.drop 1 c7)) (fun v8 =>
 ifb (decide (v8 ≥ (0:Int))) (
 k_ret false) (
 lt (IntKind.wrap .i64 ((p3:Int)+(1:Int))) fun x9 =>
 k_hbbaba x9 b1))) (
 k_x0)
theorem zxn {β:Type} (yv:zbw) (zg:zO) (L:Nat) (p3:Int) (b1:List V) (X:St→Option β) (K:KT β):yj zcg (zcq yv zg L) 0 L zfp (zgo p3 b1) (zaz ziC X K)=zmV yv zg L p3 b1 (fun p2=>K .ret (zmH p2)) (fun p3 b1=>X (zgo p3 b1)) (K (.exit 0) (znS)):=by kernel_rfl
def zpw {β:Type} (yv:zbw) (zg:zO) (L:Nat) (p2:Bool) (k_fin:Bool→Option β):Option β :=
 k_fin p2
theorem zul {β:Type} (yv:zbw) (zg:zO) (L:Nat) (p2:Bool) (k:KK β):(zx 0 (yI (yj zcg (zcq yv zg L) 0 L zkl) (zN 0 (CF.res zeA) k))) .ret (zmH p2)=zpw yv zg L p2 (fun p0=>k (V.sc (.bool p0)) []):=by kernel_rfl
def zqm {β:Type} (yv:zbw) (zg:zO) (L:Nat) (k_fin:Bool→Option β):Option β :=
 k_fin true
theorem zvw {β:Type} (yv:zbw) (zg:zO) (L:Nat) (k:KK β):(zx 0 (yI (yj zcg (zcq yv zg L) 0 L zkl) (zN 0 (CF.res zeA) k))) (.exit 0) (znS)=zqm yv zg L (fun p0=>k (V.sc (.bool p0)) []):=by kernel_rfl
def zfX {β:Type} (yv:zbw) (zg:zO) (L:Nat) (k_ret:Bool→Option β) (k_x0:Option β):Nat→Int→List V→Option β
 | 0,_,_=>none
 | n+1,p3,b1=>zmV yv zg L p3 b1 k_ret (fun p3 b1=>zfX yv zg L k_ret k_x0 n p3 b1) k_x0
theorem zpC {β:Type} (yv:zbw) (zg:zO) (L:Nat) (K:KT β):∀ (n:Nat) (p3:Int) (b1:List V),xy (yj zcg (zcq yv zg L) 0 L zfp) ziC n (zgo p3 b1) K=zfX yv zg L (fun p2=>K .ret (zmH p2)) (K (.exit 0) (znS)) n p3 b1:=by
 intro n
 induction n with
 | zero=>intros; rfl
 | succ n ih =>
  intro p3 b1
  refine (zxn yv zg L p3 b1 (fun σ=>xy (yj zcg (zcq yv zg L) 0 L zfp) ziC n σ K) K).trans ?_
  simp only [ih]
  rfl
def zoH {β:Type} (yv:zbw) (zg:zO) (L:Nat) (p0:List V) (k_fin:Bool→Option β):Option β :=
 zs6 yv zg L p0 k_fin (fun p3 b1=>zfX yv zg L (fun p2=>zpw yv zg L p2 k_fin) (zqm yv zg L k_fin) L p3 b1)
theorem zCs {β:Type} (yv:zbw) (zg:zO) (L:Nat) (p0:List V) (k:KK β):xr zcg (zcq yv zg L) L zeA [(V.agg p0)] [] k=zoH yv zg L p0 (fun p0=>k (V.sc (.bool p0)) []):=by
 refine (zCt yv zg L p0 k).trans ?_
 unfold zoH
 first
  | (simp only [zpC,zul,zvw]; done)
  | (simp only [zpC]; rfl)
abbrev y8:=∀ (β:Type),Nat→List V→(Bool→Option β)→Option β
def xk (β:Type) (L:Nat) (p0:List V) (k_fin:Bool→Option β):Option β:=zoH yv zg L p0 k_fin
def zif (xk:y8) (L:Nat) (β:Type) (args:List V) (bor:Bor) (k:KK β):Option β:=match args,bor with
 | [a0],[]=>aG a0 fun p0=>xk β L p0 (fun p0=>k (V.sc (.bool p0)) [])
 | _,_=>none
theorem zBW (L:Nat) (β:Type) (args:List V) (bor:Bor) (k:KK β) (r:β) (h:zif xk L β args bor k=some r):xr zcg (zcq yv zg L) L zeA args bor k=some r:=by
 unfold zif at h
 split at h
 ·have q:=y5 h; clear h; obtain ⟨p0,rfl,h⟩:=q
  exact (zCs yv zg L p0 k).trans h
 ·cases h
def zlP:CF:=⟨14,[.cellS 2 34 false],
 (.seq (.reg [oo 1 (.box false (tq 0)),
   oo 2 (.alloc false (rp 32 (.sc (.int .u8 0)) (rp 2 (.gs 5 []) [])))])
 (.seq (.dreg [] [(oo 3 (.fieldAddr 0 (tq 1)),q0),
   (oo 4 (.load true 32 (tq 3) false),ql 1 [] [5,8,9,12]),
   (⟨(some 5),true,none,.buildSlice 5 0 [(.sc (.int .i64 0)),(.sc (.int .u32 0)),(.sc (.int .u16 0)),(.sc (.int .u32 0)),(.sc (.int .u32 0))] []⟩,qn [1] [9]),
   (oo 6 (.fieldAddr 32 (tq 1)),q0),
   (oo 7 (.load false 1 (tq 6) false),ql 1 [] [5,9]),
   (⟨(some 8),true,none,.append 5 24 (tq 5) (tq 7)⟩,qn [1] [9]),
   (⟨(some 9),true,none,.buildSlice 5 0 [(.sc (.int .i64 0)),(.sc (.int .u32 0)),(.sc (.int .u16 0)),(.sc (.int .u32 0)),(.sc (.int .u32 0))] []⟩,qn [1] [5,8]),
   (oo 10 (.fieldAddr 33 (tq 1)),q0),
   (oo 11 (.load false 1 (tq 10) false),ql 1 [] [5,8,9]),
   (⟨(some 12),true,none,.append 5 24 (tq 9) (tq 11)⟩,qn [1] []),
   (oo 13 (.buildSt (rp 32 (.sc (.int .u8 0)) (rp 2 (.sl 5 []) [])) [(0,32,(tq 4)),(32,1,(tq 8)),(33,1,(tq 12))]),q0),
   (oz (.store 34 (tq 2) (tq 13)),q0)])
 .ret))⟩
def ztn:Hint:=⟨[(1,10)],[(1,2),(1,5),(1,6),(1,9)],[none],[],[],false,true⟩
def zqR:Nat→Sh:=zV [(1,(.row [(.int .u8),(.int .u8),(.int .u8),(.int .u8),(.int .u8),(.int .u8),(.int .u8),(.int .u8),(.int .u8),(.int .u8),(.int .u8),(.int .u8),(.int .u8),(.int .u8),(.int .u8),(.int .u8),(.int .u8),(.int .u8),(.int .u8),(.int .u8),(.int .u8),(.int .u8),(.int .u8),(.int .u8),(.int .u8),(.int .u8),(.int .u8),(.int .u8),(.int .u8),(.int .u8),(.int .u8),(.int .u8),(.sl 5),(.sl 5)]))]
def zp9 (L:Nat):CBC:=noC
abbrev znW (β:Type):Type:=Int→Int→Int→Int→Int→Int→Int→Int→Int→Int→Int→Int→Int→Int→Int→Int→Int→Int→Int→Int→Int→Int→Int→Int→Int→Int→Int→Int→Int→Int→Int→Int→Nat→Nat→List V→List V→Option β
def zr3 {β:Type} (L:Nat) (p0:List V) (k_fin:znW β):Option β :=
 chk (List.length p0=34) (
 cI .u8 p0 0 fun v0 =>
 cI .u8 p0 1 fun v1 =>
 cI .u8 p0 2 fun v2 =>
 cI .u8 p0 3 fun v3 =>
 cI .u8 p0 4 fun v4 =>
 cI .u8 p0 5 fun v5 =>
 cI .u8 p0 6 fun v6 =>
 cI .u8 p0 7 fun v7 =>
 cI .u8 p0 8 fun v8 =>
 cI .u8 p0 9 fun v9 =>
 cI .u8 p0 10 fun v10 =>
 cI .u8 p0 11 fun v11 =>
 cI .u8 p0 12 fun v12 =>
 cI .u8 p0 13 fun v13 =>
 cI .u8 p0 14 fun v14 =>
 cI .u8 p0 15 fun v15 =>
 cI .u8 p0 16 fun v16 =>
 cI .u8 p0 17 fun v17 =>
 cI .u8 p0 18 fun v18 =>
 cI .u8 p0 19 fun v19 =>
 cI .u8 p0 20 fun v20 =>
 cI .u8 p0 21 fun v21 =>
 cI .u8 p0 22 fun v22 =>
 cI .u8 p0 23 fun v23 =>
 cI .u8 p0 24 fun v24 =>
 cI .u8 p0 25 fun v25 =>
 cI .u8 p0 26 fun v26 =>
 cI .u8 p0 27 fun v27 =>
 cI .u8 p0 28 fun v28 =>
 cI .u8 p0 29 fun v29 =>
 cI .u8 p0 30 fun v30 =>
 cI .u8 p0 31 fun v31 =>
 cL 5 p0 32 fun v32 =>
 cL 5 p0 33 fun v33 =>
 chk ((0+List.length v32) * 24≤yu∧0+List.length v32≤yu) (
 chk ((0+List.length v33) * 24≤yu∧0+List.length v33≤yu) (
 k_fin v0 v1 v2 v3 v4 v5 v6 v7 v8 v9 v10 v11 v12 v13 v14 v15 v16 v17 v18 v19 v20 v21 v22 v23 v24 v25 v26 v27 v28 v29 v30 v31 (List.length v32) (List.length v33) (List.flatten v32) (List.flatten v33))))
theorem zBq {β:Type} (L:Nat) (p0:List V) (k:KK β):xr zqR (zp9 L) L zlP [(V.agg p0)] [] k=zr3 L p0 (fun zOw zOx zOR zPl zPm zPn zPo zPp zPq zPr zOX zOY zOZ zO0 zO1 zO2 zO3 zO4 zO5 zO6 zO7 zO8 zO9 zPa zPb zPc zPd zPe zPf zPg zPh zPi zOU zOV b0 b1=>k (V.st [(V.sc (.int .u8 zOw)),(V.sc (.int .u8 zOx)),(V.sc (.int .u8 zOR)),(V.sc (.int .u8 zPl)),(V.sc (.int .u8 zPm)),(V.sc (.int .u8 zPn)),(V.sc (.int .u8 zPo)),(V.sc (.int .u8 zPp)),(V.sc (.int .u8 zPq)),(V.sc (.int .u8 zPr)),(V.sc (.int .u8 zOX)),(V.sc (.int .u8 zOY)),(V.sc (.int .u8 zOZ)),(V.sc (.int .u8 zO0)),(V.sc (.int .u8 zO1)),(V.sc (.int .u8 zO2)),(V.sc (.int .u8 zO3)),(V.sc (.int .u8 zO4)),(V.sc (.int .u8 zO5)),(V.sc (.int .u8 zO6)),(V.sc (.int .u8 zO7)),(V.sc (.int .u8 zO8)),(V.sc (.int .u8 zO9)),(V.sc (.int .u8 zPa)),(V.sc (.int .u8 zPb)),(V.sc (.int .u8 zPc)),(V.sc (.int .u8 zPd)),(V.sc (.int .u8 zPe)),(V.sc (.int .u8 zPf)),(V.sc (.int .u8 zPg)),(V.sc (.int .u8 zPh)),(V.sc (.int .u8 zPi)),(V.own 0 0 zOU 5),(V.own 1 0 zOV 5)]) [(.live true b0),(.live true b1)]):=by kernel_rfl
abbrev xW:=∀ (β:Type),Nat→List V→(Int→Int→Int→Int→Int→Int→Int→Int→Int→Int→Int→Int→Int→Int→Int→Int→Int→Int→Int→Int→Int→Int→Int→Int→Int→Int→Int→Int→Int→Int→Int→Int→Nat→Nat→List V→List V→Option β)→Option β
def xj (β:Type) (L:Nat) (p0:List V) (k_fin:znW β):Option β:=zr3 L p0 k_fin
def zj0 (xj:xW) (L:Nat) (β:Type) (args:List V) (bor:Bor) (k:KK β):Option β:=match args,bor with
 | [a0],[]=>aG a0 fun p0=>xj β L p0 (fun zOw zOx zOR zPl zPm zPn zPo zPp zPq zPr zOX zOY zOZ zO0 zO1 zO2 zO3 zO4 zO5 zO6 zO7 zO8 zO9 zPa zPb zPc zPd zPe zPf zPg zPh zPi zOU zOV b0 b1=>k (V.st [(V.sc (.int .u8 zOw)),(V.sc (.int .u8 zOx)),(V.sc (.int .u8 zOR)),(V.sc (.int .u8 zPl)),(V.sc (.int .u8 zPm)),(V.sc (.int .u8 zPn)),(V.sc (.int .u8 zPo)),(V.sc (.int .u8 zPp)),(V.sc (.int .u8 zPq)),(V.sc (.int .u8 zPr)),(V.sc (.int .u8 zOX)),(V.sc (.int .u8 zOY)),(V.sc (.int .u8 zOZ)),(V.sc (.int .u8 zO0)),(V.sc (.int .u8 zO1)),(V.sc (.int .u8 zO2)),(V.sc (.int .u8 zO3)),(V.sc (.int .u8 zO4)),(V.sc (.int .u8 zO5)),(V.sc (.int .u8 zO6)),(V.sc (.int .u8 zO7)),(V.sc (.int .u8 zO8)),(V.sc (.int .u8 zO9)),(V.sc (.int .u8 zPa)),(V.sc (.int .u8 zPb)),(V.sc (.int .u8 zPc)),(V.sc (.int .u8 zPd)),(V.sc (.int .u8 zPe)),(V.sc (.int .u8 zPf)),(V.sc (.int .u8 zPg)),(V.sc (.int .u8 zPh)),(V.sc (.int .u8 zPi)),(V.own 0 0 zOU 5),(V.own 1 0 zOV 5)]) [(.live true b0),(.live true b1)])
 | _,_=>none
theorem zBp (L:Nat) (β:Type) (args:List V) (bor:Bor) (k:KK β) (r:β) (h:zj0 xj L β args bor k=some r):xr zqR (zp9 L) L zlP args bor k=some r:=by
 unfold zj0 at h
 split at h
 ·have q:=y5 h; clear h; obtain ⟨p0,rfl,h⟩:=q
  exact (zBq L p0 k).trans h
 ·cases h
def zlJ:CF:=⟨15,[.tmp 4],
 (.seq (.reg [oo 4 (.move (.const (.gs 5 [])) true)])
 (.seq (.dreg [] [(oo 5 (.buildSlice 5 0 [(.sc (.int .i64 0)),(.sc (.int .u32 0)),(.sc (.int .u16 0)),(.sc (.int .u32 0)),(.sc (.int .u32 0))] []),q0),
   (oo 6 (.move (tq 0) false),q0),
   (oo 7 (.move (tq 1) false),q0),
   (oo 8 (.sliceS 5 (tq 6) none (some (tq 7)) none),q0),
   (oo 9 (.append 5 24 (tq 5) (tq 8)),q0),
   (oo 10 (.move (tq 0) false),q0),
   (oo 11 (.move (tq 1) false),q0),
   (oo 12 (.bin .add (tq 11) (.const (.sc (.int .i64 1)))),q0),
   (oo 13 (.sliceS 5 (tq 10) (some (tq 12)) none none),q0),
   (oo 14 (.append 5 24 (tq 9) (tq 13)),q0),
   (oo 4 (.move (tq 14) true),q0)])
 .ret))⟩
def ztu:Hint:=⟨[(0,0),(1,10)],[],[none],[],[],false,false⟩
def zqk:Nat→Sh:=zV []
def zqS (L:Nat):CBC:=noC
def zrN {β:Type} (L:Nat) (p0:List (List V)) (p1:Int) (k_fin:List (List V)→Option β):Option β :=
 chk (0≤p1∧p1≤(((List.length p0):Nat):Int)) (
 chk ((List.length ([]:List (List V))+List.length (List.take ((Int.toNat p1) - 0) (List.drop 0 p0))) * 24≤yu∧List.length ([]:List (List V))+List.length (List.take ((Int.toNat p1) - 0) (List.drop 0 p0))≤yu) (
 lt (([]:List (List V))++(List.take ((Int.toNat p1) - 0) (List.drop 0 p0))) fun l0 =>
 lt (IntKind.wrap .i64 ((p1:Int)+(1:Int))) fun x1 =>
 chk (0≤x1∧x1≤(((List.length p0):Nat):Int)) (
 chk ((List.length l0+List.length (List.take ((List.length p0) - (Int.toNat x1)) (List.drop (Int.toNat x1) p0))) * 24≤yu∧List.length l0+List.length (List.take ((List.length p0) - (Int.toNat x1)) (List.drop (Int.toNat x1) p0))≤yu) (
 lt (l0++(List.take ((List.length p0) - (Int.toNat x1)) (List.drop (Int.toNat x1) p0))) fun l2 =>
 k_fin l2))))
theorem zBe {β:Type} (L:Nat) (p0:List (List V)) (p1:Int) (k:KK β):xr zqk (zqS L) L zlJ [(V.sl 5 p0),(V.sc (.int .i64 p1))] [] k=zrN L p0 p1 (fun p0=>k (V.gs 5 p0) []):=by kernel_rfl
abbrev zX:=∀ (β:Type),Nat→List (List V)→Int→(List (List V)→Option β)→Option β
def xh (β:Type) (L:Nat) (p0:List (List V)) (p1:Int) (k_fin:List (List V)→Option β):Option β:=zrN L p0 p1 k_fin
def zjJ (xh:zX) (L:Nat) (β:Type) (args:List V) (bor:Bor) (k:KK β):Option β:=match args,bor with
 | [a0,a1],[]=>aL 5 a0 fun p0=>aI .i64 a1 fun p1=>xh β L p0 p1 (fun p0=>k (V.gs 5 p0) [])
 | _,_=>none
theorem zA0 (L:Nat) (β:Type) (args:List V) (bor:Bor) (k:KK β) (r:β) (h:zjJ xh L β args bor k=some r):xr zqk (zqS L) L zlJ args bor k=some r:=by
 unfold zjJ at h
 split at h
 ·have q:=xP h; clear h; obtain ⟨p0,rfl,h⟩:=q
  have q:=zad h; clear h; obtain ⟨p1,rfl,h⟩:=q
  exact (zBe L p0 p1 k).trans h
 ·cases h
def zeB:CC:=(.seq (.seq (.reg [oo 24 (.move (tq 7) false),
   oo 25 (.move (tq 0) false),
   oo 26 (.lenS (tq 25)),
   oo 27 (.bin .lss (tq 24) (tq 26)),
   oo 28 (.move (tq 27) false),
   ⟨(some 29),false,(some (28,true)),.move (tq 0) false⟩,
   ⟨(some 30),false,(some (28,true)),.move (tq 7) false⟩,
   ⟨(some 31),false,(some (28,true)),.indexAddrS 5 (tq 29) (tq 30)⟩,
   ⟨(some 32),false,(some (28,true)),.fieldAddr 0 (tq 31)⟩,
   ⟨(some 33),false,(some (28,true)),.load false 1 (tq 32) false⟩,
   ⟨(some 34),false,(some (28,true)),.move (tq 1) false⟩,
   ⟨(some 35),false,(some (28,true)),.bin .eql (tq 33) (tq 34)⟩,
   oo 36 (.pick (tq 28) (tq 35) (.const (.sc (.bool false))))])
 (.cond (tq 36)
 .skip
 (.seq (.mask (bl 192 41) (bl 2198956146687 41))
 (.exit 2))))
 (.block 3 (.reg [oo 37 (.move (tq 7) false),
   oo 38 (.bin .add (tq 37) (.const (.sc (.int .i64 1)))),
   oo 7 (.move (tq 38) false)])))
def zlm:CC:=(.seq (.reg [oo 39 (.move (tq 6) false),
   oo 40 (.move (tq 7) false),
   oo 4 (.move (tq 39) false),
   oo 5 (.move (tq 40) false)])
 .ret)
def zfk:CC:=(.seq (.seq (.reg [oo 8 (.move (tq 6) false),
   oo 9 (.move (tq 0) false),
   oo 10 (.lenS (tq 9)),
   oo 11 (.bin .lss (tq 8) (tq 10)),
   oo 12 (.move (tq 11) false),
   ⟨(some 13),false,(some (12,true)),.move (tq 0) false⟩,
   ⟨(some 14),false,(some (12,true)),.move (tq 6) false⟩,
   ⟨(some 15),false,(some (12,true)),.indexAddrS 5 (tq 13) (tq 14)⟩,
   ⟨(some 16),false,(some (12,true)),.fieldAddr 0 (tq 15)⟩,
   ⟨(some 17),false,(some (12,true)),.load false 1 (tq 16) false⟩,
   ⟨(some 18),false,(some (12,true)),.move (tq 1) false⟩,
   ⟨(some 19),false,(some (12,true)),.bin .lss (tq 17) (tq 18)⟩,
   oo 20 (.pick (tq 12) (tq 19) (.const (.sc (.bool false))))])
 (.cond (tq 20)
 .skip
 (.seq (.mask (bl 67 41) (bl 2199023254527 41))
 (.exit 0))))
 (.block 1 (.reg [oo 21 (.move (tq 6) false),
   oo 22 (.bin .add (tq 21) (.const (.sc (.int .i64 1)))),
   oo 6 (.move (tq 22) false)])))
def zjs:CC:=(.seq (.reg [oo 23 (.move (tq 6) false),
   oo 7 (.move (tq 23) false)])
 (.seq (.block 2 (.loop (bl 195 41) (bl 2198956146687 41)
 zeB))
 zlm))
def zcx:CF:=⟨41,[.tmp 4,.tmp 5],
 (.seq (.reg [oo 4 (.move (.const (.sc (.int .i64 0))) false),
   oo 5 (.move (.const (.sc (.int .i64 0))) false)])
 (.seq (.reg [oo 6 (.move (.const (.sc (.int .i64 0))) false)])
 (.seq (.block 0 (.loop (bl 67 41) (bl 2199023254527 41)
 zfk))
 zjs)))⟩
def zto:Hint:=⟨[],[],[none,some ((bl 67 41),(bl 2199023254527 41)),none,some ((bl 67 41),(bl 2199023254527 41)),none,none,some ((bl 195 41),(bl 2198956146687 41)),none,some ((bl 192 41),(bl 2198956146687 41)),none,none],[],[],false,false⟩
def zag:Nat→Sh:=zV [(17,(.int .i64)),(33,(.int .i64))]
def zaf (L:Nat):CBC:=noC
def ziB:St→St:=zaE 0 (bl 67 41) (bl 2199023254527 41)
def zg4:St→St:=zaE 0 (bl 195 41) (bl 2198956146687 41)
def zgt (p0:List (List V)) (p1 p6:Int):St:=⟨((V.sl 5 p0)::((V.sc (.int .i64 p1))::(jn 4 ((V.sc (.int .i64 p6))::(jn 34 []))))),(gn 41 [])⟩
def ziQ (p0:List (List V)) (p1 p6:Int):St:=⟨((V.sl 5 p0)::((V.sc (.int .i64 p1))::(jn 4 ((V.sc (.int .i64 p6))::(jn 34 []))))),(gn 41 [])⟩
def zfi (p0:List (List V)) (p1 p6 p7:Int):St:=⟨((V.sl 5 p0)::((V.sc (.int .i64 p1))::(jn 4 ((V.sc (.int .i64 p6))::((V.sc (.int .i64 p7))::(jn 33 [])))))),(gn 41 [])⟩
def zl7 (p6 p7:Int):St:=⟨(jn 6 ((V.sc (.int .i64 p6))::((V.sc (.int .i64 p7))::(jn 33 [])))),(gn 41 [])⟩
def zr1 {β:Type} (L:Nat) (p0:List (List V)) (p1:Int) (k_hbbaa:List (List V)→Int→Int→Option β):Option β :=
 k_hbbaa p0 p1 (0:Int)
theorem zBl {β:Type} (L:Nat) (p0:List (List V)) (p1:Int) (k:KK β):xr zag (zaf L) L zcx [(V.sl 5 p0),(V.sc (.int .i64 p1))] [] k=zr1 L p0 p1 (fun p0 p1 p6=>xy (yj zag (zaf L) 0 L zfk) ziB L (zgt p0 p1 p6) (zx 0 (yI (yj zag (zaf L) 0 L zjs) (zN 0 (CF.res zcx) k)))):=by kernel_rfl
def zmZ {β:Type} (L:Nat) (p0:List (List V)) (p1 p6:Int) (k_hbbaa:List (List V)→Int→Int→Option β) (k_x0:List (List V)→Int→Int→Option β):Option β :=
 ifb (decide (p6 < ((List.length p0:Nat):Int))) (
 idx p0 p6 fun c0 =>
 cI .i64 c0 0 fun v1 =>
 ifb (decide (v1 < p1)) (
 lt (IntKind.wrap .i64 ((p6:Int)+(1:Int))) fun x2 =>
 k_hbbaa p0 p1 x2) (
 k_x0 p0 p1 p6)) (
 k_x0 p0 p1 p6)
theorem zxm {β:Type} (L:Nat) (p0:List (List V)) (p1 p6:Int) (X:St→Option β) (K:KT β):yj zag (zaf L) 0 L zfk (zgt p0 p1 p6) (zaz ziB X K)=zmZ L p0 p1 p6 (fun p0 p1 p6=>X (zgt p0 p1 p6)) (fun p0 p1 p6=>K (.exit 0) (ziQ p0 p1 p6)):=by kernel_rfl
def zpS {β:Type} (L:Nat) (p0:List (List V)) (p1 p6:Int) (k_hbbbbaa:List (List V)→Int→Int→Int→Option β):Option β :=
 k_hbbbbaa p0 p1 p6 p6
theorem zvn {β:Type} (L:Nat) (p0:List (List V)) (p1 p6:Int) (k:KK β):(zx 0 (yI (yj zag (zaf L) 0 L zjs) (zN 0 (CF.res zcx) k))) (.exit 0) (ziQ p0 p1 p6)=zpS L p0 p1 p6 (fun p0 p1 p6 p7=>xy (yj zag (zaf L) 0 L zeB) zg4 L (zfi p0 p1 p6 p7) (zx 2 (yI (yj zag (zaf L) 0 L zlm) (zN 0 (CF.res zcx) k)))):=by kernel_rfl
def zks {β:Type} (L:Nat) (p0:List (List V)) (p1 p6 p7:Int) (k_hbbbbaa:List (List V)→Int→Int→Int→Option β) (k_x2:Int→Int→Option β):Option β :=
 ifb (decide (p7 < ((List.length p0:Nat):Int))) (
 idx p0 p7 fun c3 =>
 cI .i64 c3 0 fun v4 =>
 ifb ((v4:Int) == p1) (
 lt (IntKind.wrap .i64 ((p7:Int)+(1:Int))) fun x5 =>
 k_hbbbbaa p0 p1 p6 x5) (
 k_x2 p6 p7)) (
 k_x2 p6 p7)
theorem zvl {β:Type} (L:Nat) (p0:List (List V)) (p1 p6 p7:Int) (X:St→Option β) (K:KT β):yj zag (zaf L) 0 L zeB (zfi p0 p1 p6 p7) (zaz zg4 X K)=zks L p0 p1 p6 p7 (fun p0 p1 p6 p7=>X (zfi p0 p1 p6 p7)) (fun p6 p7=>K (.exit 2) (zl7 p6 p7)):=by kernel_rfl
def zoy {β:Type} (L:Nat) (p6 p7:Int) (k_fin:Int→Int→Option β):Option β :=
 k_fin p6 p7
theorem ztH {β:Type} (L:Nat) (p6 p7:Int) (k:KK β):(zx 2 (yI (yj zag (zaf L) 0 L zlm) (zN 0 (CF.res zcx) k))) (.exit 2) (zl7 p6 p7)=zoy L p6 p7 (fun zOw zOx=>k (V.tup [(V.sc (.int .i64 zOw)),(V.sc (.int .i64 zOx))]) []):=by kernel_rfl
def zgc {β:Type} (L:Nat) (k_x0:List (List V)→Int→Int→Option β):Nat→List (List V)→Int→Int→Option β
 | 0,_,_,_=>none
 | n+1,p0,p1,p6=>zmZ L p0 p1 p6 (fun p0 p1 p6=>zgc L k_x0 n p0 p1 p6) k_x0
theorem zpm {β:Type} (L:Nat) (K:KT β):∀ (n:Nat) (p0:List (List V)) (p1 p6:Int),xy (yj zag (zaf L) 0 L zfk) ziB n (zgt p0 p1 p6) K=zgc L (fun p0 p1 p6=>K (.exit 0) (ziQ p0 p1 p6)) n p0 p1 p6:=by
 intro n
 induction n with
 | zero=>intros; rfl
 | succ n ih =>
  intro p0 p1 p6
  refine (zxm L p0 p1 p6 (fun σ=>xy (yj zag (zaf L) 0 L zfk) ziB n σ K) K).trans ?_
  simp only [ih]
  rfl
def ze4 {β:Type} (L:Nat) (k_x2:Int→Int→Option β):Nat→List (List V)→Int→Int→Int→Option β
 | 0,_,_,_,_=>none
 | n+1,p0,p1,p6,p7=>zks L p0 p1 p6 p7 (fun p0 p1 p6 p7=>ze4 L k_x2 n p0 p1 p6 p7) k_x2
theorem znB {β:Type} (L:Nat) (K:KT β):∀ (n:Nat) (p0:List (List V)) (p1 p6 p7:Int),xy (yj zag (zaf L) 0 L zeB) zg4 n (zfi p0 p1 p6 p7) K=ze4 L (fun p6 p7=>K (.exit 2) (zl7 p6 p7)) n p0 p1 p6 p7:=by
 intro n
 induction n with
 | zero=>intros; rfl
 | succ n ih =>
  intro p0 p1 p6 p7
  refine (zvl L p0 p1 p6 p7 (fun σ=>xy (yj zag (zaf L) 0 L zeB) zg4 n σ K) K).trans ?_
  simp only [ih]
  rfl
def zjY {β:Type} (L:Nat) (p0:List (List V)) (p1 p6:Int) (k_fin:Int→Int→Option β):Option β :=
 zpS L p0 p1 p6 (fun p0 p1 p6 p7=>ze4 L (fun p6 p7=>zoy L p6 p7 k_fin) L p0 p1 p6 p7)
theorem zu0 {β:Type} (L:Nat) (p0:List (List V)) (p1 p6:Int) (k:KK β):(zx 0 (yI (yj zag (zaf L) 0 L zjs) (zN 0 (CF.res zcx) k))) (.exit 0) (ziQ p0 p1 p6)=zjY L p0 p1 p6 (fun zOw zOx=>k (V.tup [(V.sc (.int .i64 zOw)),(V.sc (.int .i64 zOx))]) []):=by
 refine (zvn L p0 p1 p6 k).trans ?_
 unfold zjY
 first
  | (simp only [znB,ztH]; done)
  | (simp only [znB]; rfl)
def znd {β:Type} (L:Nat) (p0:List (List V)) (p1:Int) (k_fin:Int→Int→Option β):Option β :=
 zr1 L p0 p1 (fun p0 p1 p6=>zgc L (fun p0 p1 p6=>zjY L p0 p1 p6 k_fin) L p0 p1 p6)
theorem zBb {β:Type} (L:Nat) (p0:List (List V)) (p1:Int) (k:KK β):xr zag (zaf L) L zcx [(V.sl 5 p0),(V.sc (.int .i64 p1))] [] k=znd L p0 p1 (fun zOw zOx=>k (V.tup [(V.sc (.int .i64 zOw)),(V.sc (.int .i64 zOx))]) []):=by
 refine (zBl L p0 p1 k).trans ?_
 unfold znd
 first
  | (simp only [zpm,zu0]; done)
  | (simp only [zpm]; rfl)
abbrev yP:=∀ (β:Type),Nat→List (List V)→Int→(Int→Int→Option β)→Option β
def zh (β:Type) (L:Nat) (p0:List (List V)) (p1:Int) (k_fin:Int→Int→Option β):Option β:=znd L p0 p1 k_fin
def zhl (zh:yP) (L:Nat) (β:Type) (args:List V) (bor:Bor) (k:KK β):Option β:=match args,bor with
 | [a0,a1],[]=>aL 5 a0 fun p0=>aI .i64 a1 fun p1=>zh β L p0 p1 (fun zOw zOx=>k (V.tup [(V.sc (.int .i64 zOw)),(V.sc (.int .i64 zOx))]) [])
 | _,_=>none
theorem zBo (L:Nat) (β:Type) (args:List V) (bor:Bor) (k:KK β) (r:β) (h:zhl zh L β args bor k=some r):xr zag (zaf L) L zcx args bor k=some r:=by
 unfold zhl at h
 split at h
 ·have q:=xP h; clear h; obtain ⟨p0,rfl,h⟩:=q
  have q:=zad h; clear h; obtain ⟨p1,rfl,h⟩:=q
  exact (zBb L p0 p1 k).trans h
 ·cases h
def zlK:CF:=⟨26,[.tmp 4],
 (.seq (.reg [oo 3 (.box true (tq 1)),
   oo 4 (.move (.const (.gs 5 [])) true)])
 (.seq (.reg [oo 8 (.move (tq 0) false),
   oo 9 (.fieldAddr 0 (tq 3)),
   oo 10 (.load false 1 (tq 9) false),
   oo 11 (.call 291 [((tq 8),0),((tq 10),0)] []),
   oo 7 (.move (tq 11) true),
   oo 12 (.pull (tq 7) 0),
   oo 13 (.pull (tq 7) 1),
   oo 5 (.move (tq 12) false),
   oo 6 (.move (tq 13) false)])
 (.seq (.dreg [] [(oo 14 (.buildSlice 5 0 [(.sc (.int .i64 0)),(.sc (.int .u32 0)),(.sc (.int .u16 0)),(.sc (.int .u32 0)),(.sc (.int .u32 0))] []),qn [3] [20]),
   (oo 15 (.move (tq 0) false),q0),
   (oo 16 (.move (tq 6) false),q0),
   (oo 17 (.sliceS 5 (tq 15) none (some (tq 16)) none),q0),
   (oo 18 (.append 5 24 (tq 14) (tq 17)),qn [3] [20]),
   (oo 19 (.load true 5 (tq 3) false),ql 3 [] [14,18]),
   (oo 20 (.buildSlice 5 1 [(.sc (.int .i64 0)),(.sc (.int .u32 0)),(.sc (.int .u16 0)),(.sc (.int .u32 0)),(.sc (.int .u32 0))] [(0,5,(tq 19))]),qn [] [14,18]),
   (oo 21 (.append 5 24 (tq 18) (tq 20)),q0),
   (oo 22 (.move (tq 0) false),q0),
   (oo 23 (.move (tq 6) false),q0),
   (oo 24 (.sliceS 5 (tq 22) (some (tq 23)) none none),q0),
   (oo 25 (.append 5 24 (tq 21) (tq 24)),q0),
   (oo 4 (.move (tq 25) true),q0)])
 .ret)))⟩
def ztp:Hint:=⟨[(0,1),(1,4),(2,12)],[],[none],[],[],false,false⟩
def zqt:Nat→Sh:=zV [(10,(.int .i64))]
def zqH (zh:yP) (L:Nat):CBC:=(xA 291 (zhl zh L) noC)
def zrz {β:Type} (zh:yP) (L:Nat) (p0:List (List V)) (p1:List V) (k_fin:List (List V)→Option β):Option β :=
 cI .i64 p1 0 fun v0 =>
 zh β L p0 v0 (fun v1 v2 =>
 chk (0≤v2∧v2≤(((List.length p0):Nat):Int)) (
 chk ((List.length ([]:List (List V))+List.length (List.take ((Int.toNat v2) - 0) (List.drop 0 p0))) * 24≤yu∧List.length ([]:List (List V))+List.length (List.take ((Int.toNat v2) - 0) (List.drop 0 p0))≤yu) (
 lt (([]:List (List V))++(List.take ((Int.toNat v2) - 0) (List.drop 0 p0))) fun l3 =>
 chk (0+5≤(List.length p1)) (
 chk ((List.length (List.take 5 p1))=5∧0+5≤5) (
 chk ((List.length l3+List.length (zp 5 1 (yk [(V.sc (.int .i64 (0:Int))),(V.sc (.int .u32 (0:Int))),(V.sc (.int .u16 (0:Int))),(V.sc (.int .u32 (0:Int))),(V.sc (.int .u32 (0:Int)))] 0 (List.take 5 p1)))) * 24≤yu∧List.length l3+List.length (zp 5 1 (yk [(V.sc (.int .i64 (0:Int))),(V.sc (.int .u32 (0:Int))),(V.sc (.int .u16 (0:Int))),(V.sc (.int .u32 (0:Int))),(V.sc (.int .u32 (0:Int)))] 0 (List.take 5 p1)))≤yu) (
 lt (l3++(zp 5 1 (yk [(V.sc (.int .i64 (0:Int))),(V.sc (.int .u32 (0:Int))),(V.sc (.int .u16 (0:Int))),(V.sc (.int .u32 (0:Int))),(V.sc (.int .u32 (0:Int)))] 0 (List.take 5 p1)))) fun l4 =>
 chk (0≤v2∧v2≤(((List.length p0):Nat):Int)) (
 chk ((List.length l4+List.length (List.take ((List.length p0) - (Int.toNat v2)) (List.drop (Int.toNat v2) p0))) * 24≤yu∧List.length l4+List.length (List.take ((List.length p0) - (Int.toNat v2)) (List.drop (Int.toNat v2) p0))≤yu) (
 lt (l4++(List.take ((List.length p0) - (Int.toNat v2)) (List.drop (Int.toNat v2) p0))) fun l5 =>
 k_fin l5))))))))
theorem zA3 {β:Type} (zh:yP) (L:Nat) (p0:List (List V)) (p1:List V) (k:KK β):xr zqt (zqH zh L) L zlK [(V.sl 5 p0),(V.agg p1)] [] k=zrz zh L p0 p1 (fun p0=>k (V.gs 5 p0) []):=by kernel_rfl
abbrev yW:=∀ (β:Type),Nat→List (List V)→List V→(List (List V)→Option β)→Option β
def xg (β:Type) (L:Nat) (p0:List (List V)) (p1:List V) (k_fin:List (List V)→Option β):Option β:=zrz zh L p0 p1 k_fin
def zjX (xg:yW) (L:Nat) (β:Type) (args:List V) (bor:Bor) (k:KK β):Option β:=match args,bor with
 | [a0,a1],[]=>aL 5 a0 fun p0=>aG a1 fun p1=>xg β L p0 p1 (fun p0=>k (V.gs 5 p0) [])
 | _,_=>none
theorem zA5 (L:Nat) (β:Type) (args:List V) (bor:Bor) (k:KK β) (r:β) (h:zjX xg L β args bor k=some r):xr zqt (zqH zh L) L zlK args bor k=some r:=by
 unfold zjX at h
 split at h
 ·have q:=xP h; clear h; obtain ⟨p0,rfl,h⟩:=q
  have q:=y5 h; clear h; obtain ⟨p1,rfl,h⟩:=q
  exact (zA3 zh L p0 p1 k).trans h
 ·cases h
def zhR:CC:=(.seq (.seq (.reg [oo 6 (.move (tq 5) false),
   oo 7 (.move (tq 0) false),
   oo 8 (.lenS (tq 7)),
   oo 9 (.bin .lss (tq 6) (tq 8))])
 (.cond (tq 9)
 .skip
 (.seq (.mask (bl 0 20) (bl 786119 20))
 (.exit 0))))
 (.seq (.block 1 (.seq (.dreg [] [(oo 12 (.move (tq 0) false),q0),
   (oo 13 (.move (tq 5) false),q0),
   (oo 14 (.indexAddrS 5 (tq 12) (tq 13)),q0),
   (oo 15 (.fieldAddr 1 (tq 14)),q0),
   (oo 16 (.load true 3 (tq 15) false),q1),
   (oo 17 (.load true 3 (tq 3) false),{ q1 with root:=some 3 }),
   (oo 18 (.call 303 [((tq 16),0),((tq 17),0)] []),q0)])
 (.cond (tq 18)
 (.seq (.reg [oo 19 (.move (tq 5) false),
   oo 4 (.move (tq 19) false)])
 (.seq (.mask (bl 16 20) (bl 786135 20))
 .ret))
 .skip)))
 (.reg [oo 10 (.move (tq 5) false),
   oo 11 (.bin .add (tq 10) (.const (.sc (.int .i64 1)))),
   oo 5 (.move (tq 11) false)])))
def zo6:CC:=(.seq (.reg [oo 4 (.move (.const (.sc (.int .i64 (-1)))) false)])
 .ret)
def zgr:CF:=zeo
def zbS:Nat→Sh:=zV []
def zbR (zk:xR) (L:Nat):CBC:=(xA 303 (zna zk L) noC)
def zih:St→St:=zaE 1 (bl 41 20) (bl 786159 20)
def zgs (p0l:Nat) (p5:Int) (b0 b4:List V):St:=⟨((V.own 0 0 p0l 5)::(jn 2 ((V.ptr 4 0)::(jn 1 ((V.sc (.int .i64 p5))::(jn 14 [])))))),((.live true b0)::(gn 3 ((.live true b4)::(gn 16 []))))⟩
def zle (p4:Int) (b0:List V):St:=⟨(jn 4 ((V.sc (.int .i64 p4))::(jn 15 []))),((.live true b0)::(gn 20 []))⟩
def zmT (b0:List V):St:=⟨(jn 20 []),((.live true b0)::(gn 20 []))⟩
def zrU {β:Type} (zk:xR) (L:Nat) (p0l:Nat) (p1 b0:List V) (k_hbaba:Nat→Int→List V→List V→Option β):Option β :=
 k_hbaba p0l (0:Int) b0 p1
theorem zBn {β:Type} (zk:xR) (L:Nat) (p0l:Nat) (p1 b0:List V) (k:KK β):xr zbS (zbR zk L) L zgr [(V.own 0 0 p0l 5),(V.agg p1)] [(.live true b0)] k=zrU zk L p0l p1 b0 (fun p0l p5 b0 b4=>xy (yj zbS (zbR zk L) 1 L zhR) zih L (zgs p0l p5 b0 b4) (zx 0 (yI (yj zbS (zbR zk L) 1 L zo6) (zN 1 (CF.res zgr) k)))):=by kernel_rfl
def zmr {β:Type} (zk:xR) (L:Nat) (p0l:Nat) (p5:Int) (b0 b4:List V) (k_ret:Int→List V→Option β) (k_hbaba:Nat→Int→List V→List V→Option β) (k_x0:List V→Option β):Option β :=
 ifb (decide (p5 < ((p0l:Nat):Int))) (
 chk (0≤p5∧p5 < ((p0l:Nat):Int)) (
 chk (((0+((Int.toNat p5) * 5))+1)+3≤(List.length b0)) (
 chk (0+3≤(List.length b4)) (
 zk β L (List.take 3 (List.drop ((0+((Int.toNat p5) * 5))+1) b0)) (List.take 3 b4) (fun v0 =>
 ifb v0 (
 k_ret p5 b0) (
 lt (IntKind.wrap .i64 ((p5:Int)+(1:Int))) fun x1 =>
 k_hbaba p0l x1 b0 b4)))))) (
 k_x0 b0)
theorem zwI {β:Type} (zk:xR) (L:Nat) (p0l:Nat) (p5:Int) (b0 b4:List V) (X:St→Option β) (K:KT β):yj zbS (zbR zk L) 1 L zhR (zgs p0l p5 b0 b4) (zaz zih X K)=zmr zk L p0l p5 b0 b4 (fun p4 b0=>K .ret (zle p4 b0)) (fun p0l p5 b0 b4=>X (zgs p0l p5 b0 b4)) (fun b0=>K (.exit 0) (zmT b0)):=by kernel_rfl
def zpl {β:Type} (zk:xR) (L:Nat) (p4:Int) (b0:List V) (k_fin:Int→List V→Option β):Option β :=
 k_fin p4 b0
theorem zut {β:Type} (zk:xR) (L:Nat) (p4:Int) (b0:List V) (k:KK β):(zx 0 (yI (yj zbS (zbR zk L) 1 L zo6) (zN 1 (CF.res zgr) k))) .ret (zle p4 b0)=zpl zk L p4 b0 (fun p0 b0=>k (V.sc (.int .i64 p0)) [(.live true b0)]):=by kernel_rfl
def zpP {β:Type} (zk:xR) (L:Nat) (b0:List V) (k_fin:Int→List V→Option β):Option β :=
 k_fin (-1:Int) b0
theorem zvq {β:Type} (zk:xR) (L:Nat) (b0:List V) (k:KK β):(zx 0 (yI (yj zbS (zbR zk L) 1 L zo6) (zN 1 (CF.res zgr) k))) (.exit 0) (zmT b0)=zpP zk L b0 (fun p0 b0=>k (V.sc (.int .i64 p0)) [(.live true b0)]):=by kernel_rfl
def zf8 {β:Type} (zk:xR) (L:Nat) (k_ret:Int→List V→Option β) (k_x0:List V→Option β):Nat→Nat→Int→List V→List V→Option β
 | 0,_,_,_,_=>none
 | n+1,p0l,p5,b0,b4=>zmr zk L p0l p5 b0 b4 k_ret (fun p0l p5 b0 b4=>zf8 zk L k_ret k_x0 n p0l p5 b0 b4) k_x0
theorem zpx {β:Type} (zk:xR) (L:Nat) (K:KT β):∀ (n:Nat) (p0l:Nat) (p5:Int) (b0 b4:List V),xy (yj zbS (zbR zk L) 1 L zhR) zih n (zgs p0l p5 b0 b4) K=zf8 zk L (fun p4 b0=>K .ret (zle p4 b0)) (fun b0=>K (.exit 0) (zmT b0)) n p0l p5 b0 b4:=by
 intro n
 induction n with
 | zero=>intros; rfl
 | succ n ih =>
  intro p0l p5 b0 b4
  refine (zwI zk L p0l p5 b0 b4 (fun σ=>xy (yj zbS (zbR zk L) 1 L zhR) zih n σ K) K).trans ?_
  simp only [ih]
  rfl
def znu {β:Type} (zk:xR) (L:Nat) (p0l:Nat) (p1 b0:List V) (k_fin:Int→List V→Option β):Option β :=
 zrU zk L p0l p1 b0 (fun p0l p5 b0 b4=>zf8 zk L (fun p4 b0=>zpl zk L p4 b0 k_fin) (fun b0=>zpP zk L b0 k_fin) L p0l p5 b0 b4)
theorem zAU {β:Type} (zk:xR) (L:Nat) (p0l:Nat) (p1 b0:List V) (k:KK β):xr zbS (zbR zk L) L zgr [(V.own 0 0 p0l 5),(V.agg p1)] [(.live true b0)] k=znu zk L p0l p1 b0 (fun p0 b0=>k (V.sc (.int .i64 p0)) [(.live true b0)]):=by
 refine (zBn zk L p0l p1 b0 k).trans ?_
 unfold znu
 first
  | (simp only [zpx,zut,zvq]; done)
  | (simp only [zpx]; rfl)
abbrev zah:=∀ (β:Type),Nat→Nat→List V→List V→(Int→List V→Option β)→Option β
def xl (β:Type) (L:Nat) (p0l:Nat) (p1 b0:List V) (k_fin:Int→List V→Option β):Option β:=znu zk L p0l p1 b0 k_fin
def zny (xl:zah) (L:Nat) (β:Type) (args:List V) (bor:Bor) (k:KK β):Option β:=match args,bor with
 | [a0,a1],[(.live true b0)]=>aO0 0 5 a0 fun p0l=>aG a1 fun p1=>xl β L p0l p1 b0 (fun p0 b0=>k (V.sc (.int .i64 p0)) [(.live true b0)])
 | _,_=>none
theorem zAS (L:Nat) (β:Type) (args:List V) (bor:Bor) (k:KK β) (r:β) (h:zny xl L β args bor k=some r):xr zbS (zbR zk L) L zgr args bor k=some r:=by
 unfold zny at h
 split at h
 ·have q:=zLG h; clear h; obtain ⟨p0l,rfl,h⟩:=q
  have q:=y5 h; clear h; obtain ⟨p1,rfl,h⟩:=q
  exact (zAU zk L p0l p1 _ k).trans h
 ·cases h
end
end Go.Proofs.Ytpafdnidhnldhaa
