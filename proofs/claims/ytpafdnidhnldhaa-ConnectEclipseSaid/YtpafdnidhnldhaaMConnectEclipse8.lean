/- Part 8 of the proof of ConnectEclipse: an abstract machine over plain values, its soundness, and the functions of the program on plain values. -/
import Derived.Test.YtpafdnidhnldhaaRows
import Derived.Test.YtpafdnidhnldhaaMConnectEclipse7
namespace Go.Proofs.Ytpafdnidhnldhaa
section
set_option maxRecDepth 100000
set_option linter.unusedVariables false
set_option linter.unusedSimpArgs false
def zid:CF:=⟨13,[.tmp 2],
 (.seq (.reg [oo 2 (.move (.const (.sc (.bool false))) false)])
 (.seq (.reg [oo 3 (.move (tq 0) false),
   oo 4 (.bin .eql (tq 3) (.const (.sc (.int .i64 1)))),
   oo 5 (.move (tq 4) false),
   ⟨(some 6),false,(some (5,false)),.move (tq 0) false⟩,
   ⟨(some 7),false,(some (5,false)),.bin .eql (tq 6) (.const (.sc (.int .i64 2)))⟩,
   oo 8 (.pick (tq 5) (.const (.sc (.bool true))) (tq 7)),
   oo 9 (.move (tq 8) false),
   ⟨(some 10),false,(some (9,false)),.move (tq 0) false⟩,
   ⟨(some 11),false,(some (9,false)),.bin .eql (tq 10) (.const (.sc (.int .i64 3)))⟩,
   oo 12 (.pick (tq 9) (.const (.sc (.bool true))) (tq 11)),
   oo 2 (.move (tq 12) false)])
 .ret))⟩
def zpj:Hint:=⟨[],[],[none],[],[],false,false⟩
def zl7:Nat→Sh:=zP []
def zl8 (L:Nat):CBC:=noC
def zm5 {β:Type} (L:Nat) (p0:Int) (k_fin:Bool→Option β):Option β :=
 ifb ((p0:Int) == (1:Int)) (
 k_fin true) (
 ifb ((p0:Int) == (2:Int)) (
 k_fin true) (
 k_fin ((p0:Int) == (3:Int))))
theorem zxp {β:Type} (L:Nat) (p0:Int) (k:KK β):zt zl7 (zl8 L) L zid [(V.sc (.int .i64 p0))] [] k=zm5 L p0 (fun p0=>k (V.sc (.bool p0)) []):=by kernel_rfl
abbrev yW:=∀ (β:Type),Nat→Int→(Bool→Option β)→Option β
def xi (β:Type) (L:Nat) (p0:Int) (k_fin:Bool→Option β):Option β:=zm5 L p0 k_fin
def zgj (xi:yW) (L:Nat) (β:Type) (args:List V) (bor:Bor) (k:KK β):Option β:=match args,bor with
 | [a0],[]=>aI .i64 a0 fun p0=>xi β L p0 (fun p0=>k (V.sc (.bool p0)) [])
 | _,_=>none
theorem zxd (L:Nat) (β:Type) (args:List V) (bor:Bor) (k:KK β) (r:β) (h:zgj xi L β args bor k=some r):zt zl7 (zl8 L) L zid args bor k=some r:=by
 unfold zgj at h
 split at h
 ·have q:=zaC h; clear h; obtain ⟨p0,rfl,h⟩:=q
  exact (zxp L p0 k).trans h
 ·cases h
def zg9:CF:=⟨6,[.tmp 2],
 (.seq (.reg [oo 1 (.box true (tq 0)),
   oo 2 (.move (.const (.sc (.int .u32 0))) false)])
 (.seq (.reg [oo 3 (.fieldAddr 0 (tq 1)),
   oo 4 (.load false 1 (tq 3) false),
   oo 5 (.bin .shr (tq 4) (.const (.sc (.int .u64 16)))),
   oo 2 (.move (tq 5) false)])
 .ret))⟩
def zof:Hint:=⟨[],[],[none],[],[],false,false⟩
def zkZ:Nat→Sh:=zP [(4,(.int .u32))]
def zlk (L:Nat):CBC:=noC
def zl3 {β:Type} (L:Nat) (p0:List V) (k_fin:Int→Option β):Option β :=
 cI .u32 p0 0 fun v0 =>
 lt (znO .u32 v0 (16:Int)) fun x1 =>
 k_fin x1
theorem zwg {β:Type} (L:Nat) (p0:List V) (k:KK β):zt zkZ (zlk L) L zg9 [(V.agg p0)] [] k=zl3 L p0 (fun p0=>k (V.sc (.int .u32 p0)) []):=by kernel_rfl
abbrev yr:=∀ (β:Type),Nat→List V→(Int→Option β)→Option β
def yb (β:Type) (L:Nat) (p0:List V) (k_fin:Int→Option β):Option β:=zl3 L p0 k_fin
def zbV (yb:yr) (L:Nat) (β:Type) (args:List V) (bor:Bor) (k:KK β):Option β:=match args,bor with
 | [a0],[]=>aG a0 fun p0=>yb β L p0 (fun p0=>k (V.sc (.int .u32 p0)) [])
 | _,_=>none
theorem zvZ (L:Nat) (β:Type) (args:List V) (bor:Bor) (k:KK β) (r:β) (h:zbV yb L β args bor k=some r):zt zkZ (zlk L) L zg9 args bor k=some r:=by
 unfold zbV at h
 split at h
 ·have q:=xY h; clear h; obtain ⟨p0,rfl,h⟩:=q
  exact (zwg L p0 k).trans h
 ·cases h
def zfR:CF:=⟨10,[.tmp 3],
 (.seq (.reg [oo 2 (.box true (tq 0)),
   oo 3 (.move (.const (.sc (.bool false))) false)])
 (.seq (.dreg [] [(oo 4 (.fieldAddr 1 (tq 2)),q0),
   (oo 5 (.load true 3 (tq 4) false),ql 2 [1] []),
   (oo 6 (.call 269 [((tq 5),0)] []),qc [1] []),
   (oo 7 (.load true 3 (tq 1) false),ql 1 [2] []),
   (oo 8 (.call 269 [((tq 7),0)] []),q0),
   (oo 9 (.bin .eql (tq 6) (tq 8)),q0),
   (oo 3 (.move (tq 9) false),q0)])
 .ret))⟩
def zmw:Hint:=⟨[],[],[none],[],[],false,false⟩
def ziQ:Nat→Sh:=zP []
def ziL (yb:yr) (L:Nat):CBC:=(zw 269 (zbV yb L) noC)
def zke {β:Type} (yb:yr) (L:Nat) (p0 b0:List V) (k_fin:Bool→List V→Option β):Option β :=
 chk (1+3≤(List.length p0)) (
 yb β L (List.take 3 (List.drop 1 p0)) (fun v0 =>
 chk (0+3≤(List.length b0)) (
 yb β L (List.take 3 b0) (fun v1 =>
 k_fin ((v0:Int) == v1) b0))))
theorem zuq {β:Type} (yb:yr) (L:Nat) (p0 b0:List V) (k:KK β):zt ziQ (ziL yb L) L zfR [(V.agg p0),(V.ptr 0 0)] [(.live true b0)] k=zke yb L p0 b0 (fun p0 b0=>k (V.sc (.bool p0)) [(.live true b0)]):=by kernel_rfl
abbrev xX:=∀ (β:Type),Nat→List V→List V→(Bool→List V→Option β)→Option β
def yj (β:Type) (L:Nat) (p0 b0:List V) (k_fin:Bool→List V→Option β):Option β:=zke yb L p0 b0 k_fin
def zf3 (yj:xX) (L:Nat) (β:Type) (args:List V) (bor:Bor) (k:KK β):Option β:=match args,bor with
 | [a0,a1],[(.live true b0)]=>aG a0 fun p0=>aP 0 0 a1 (yj β L p0 b0 (fun p0 b0=>k (V.sc (.bool p0)) [(.live true b0)]))
 | _,_=>none
theorem zuh (L:Nat) (β:Type) (args:List V) (bor:Bor) (k:KK β) (r:β) (h:zf3 yj L β args bor k=some r):zt ziQ (ziL yb L) L zfR args bor k=some r:=by
 unfold zf3 at h
 split at h
 ·have q:=xY h; clear h; obtain ⟨p0,rfl,h⟩:=q
  have q:=zlF h; clear h; obtain ⟨rfl,h⟩:=q
  exact (zuq yb L p0 _ k).trans h
 ·cases h
def z9:CC:=(.seq (.reg [oo 9 (.bin .lss (tq 8) (tq 7))])
 (.seq (.cond (tq 9)
 .skip
 (.seq (.mask (bl 0 19) (bl 458703 19))
 (.exit 0)))
 (.seq (.block 1 (.seq (.reg [oo 10 (.move (tq 8) false),
   oo 5 (.move (tq 10) false)])
 (.seq (.reg [oo 11 (.move (tq 1) false),
   oo 12 (.move (tq 0) false),
   oo 13 (.move (tq 5) false),
   oo 14 (.indexAddrS 4 (tq 12) (tq 13)),
   oo 15 (.load true 4 (tq 14) false),
   oo 16 (.callv (tq 11) [((tq 15),0)] [])])
 (.cond (tq 16)
 (.seq (.reg [oo 17 (.move (tq 5) false),
   oo 4 (.move (tq 17) false)])
 (.seq (.mask (bl 16 19) (bl 458719 19))
 .ret))
 .skip))))
 (.reg [oo 18 (.bin .add (tq 8) (.const (.sc (.int .i64 1)))),
   oo 8 (.move (tq 18) false)]))))
def zaV:CC:=(.seq (.reg [oo 4 (.move (.const (.sc (.int .i64 (-1)))) false)])
 .ret)
def zL:CF:=⟨19,[.tmp 4],
 (.seq (.reg [oo 4 (.move (.const (.sc (.int .i64 0))) false)])
 (.seq (.seq (.reg [oo 6 (.move (tq 0) false),
   oo 7 (.lenS (tq 6)),
   oo 8 (.move (.const (.sc (.int .i64 0))) false)])
 (.block 0 (.loop (bl 387 19) (bl 458703 19)
 z9)))
 zaV))⟩
def zdu:Hint:=⟨[],[],[none,some ((bl 387 19),(bl 458703 19)),none,some ((bl 0 19),(bl 458703 19)),none,none,some ((bl 16 19),(bl 458719 19)),none],[],[],false,false⟩
def xB:Nat→Sh:=zP []
def zC (yj:xX) (L:Nat):CBC:=(zw 301 (zf3 yj L) noC)
def zaA:St→St:=zae 1 (bl 387 19) (bl 458703 19)
def zas (p0:List (List V)) (p7 p8:Int) (b0:List V):St:=⟨((V.sl 4 p0)::((V.fn 301 [(V.ptr 0 0)])::(jn 5 ((V.sc (.int .i64 p7))::((V.sc (.int .i64 p8))::(jn 10 [])))))),((.live true b0)::(gn 19 []))⟩
def zby (p4:Int) (b0:List V):St:=⟨(jn 4 ((V.sc (.int .i64 p4))::(jn 14 []))),((.live true b0)::(gn 19 []))⟩
def zbL (b0:List V):St:=⟨(jn 19 []),((.live true b0)::(gn 19 []))⟩
def zcd {β:Type} (yj:xX) (L:Nat) (p0:List (List V)) (b0:List V) (k_hbaba:List (List V)→Int→Int→List V→Option β):Option β :=
 k_hbaba p0 ((List.length p0:Nat):Int) (0:Int) b0
theorem zh7 {β:Type} (yj:xX) (L:Nat) (p0:List (List V)) (b0:List V) (k:KK β):zt xB (zC yj L) L zL [(V.sl 4 p0),(V.fn 301 [(V.ptr 0 0)])] [(.live true b0)] k=zcd yj L p0 b0 (fun p0 p7 p8 b0=>yE (yo xB (zC yj L) 1 L z9) zaA L (zas p0 p7 p8 b0) (xG 0 (yU (yo xB (zC yj L) 1 L zaV) (xZ 1 (CF.res zL) k)))):=by kernel_rfl
def zbM {β:Type} (yj:xX) (L:Nat) (p0:List (List V)) (p7 p8:Int) (b0:List V) (k_ret:Int→List V→Option β) (k_hbaba:List (List V)→Int→Int→List V→Option β) (k_x0:List V→Option β):Option β :=
 ifb (decide (p8 < p7)) (
 idx p0 p8 fun c0 =>
 yj β L (List.take 4 c0) b0 (fun v1 v2 =>
 chk ([(List.length v2)]=[(List.length b0)]) (
 ifb v1 (
 k_ret p8 v2) (
 lt (IntKind.wrap .i64 ((p8:Int)+(1:Int))) fun x3 =>
 k_hbaba p0 p7 x3 v2)))) (
 k_x0 b0)
theorem zgE {β:Type} (yj:xX) (L:Nat) (p0:List (List V)) (p7 p8:Int) (b0:List V) (X:St→Option β) (K:KT β):yo xB (zC yj L) 1 L z9 (zas p0 p7 p8 b0) (zcr zaA X K)=zbM yj L p0 p7 p8 b0 (fun p4 b0=>K .ret (zby p4 b0)) (fun p0 p7 p8 b0=>X (zas p0 p7 p8 b0)) (fun b0=>K (.exit 0) (zbL b0)):=by kernel_rfl
def zbk {β:Type} (yj:xX) (L:Nat) (p4:Int) (b0:List V) (k_fin:Int→List V→Option β):Option β :=
 k_fin p4 b0
theorem zfS {β:Type} (yj:xX) (L:Nat) (p4:Int) (b0:List V) (k:KK β):(xG 0 (yU (yo xB (zC yj L) 1 L zaV) (xZ 1 (CF.res zL) k))) .ret (zby p4 b0)=zbk yj L p4 b0 (fun p0 b0=>k (V.sc (.int .i64 p0)) [(.live true b0)]):=by kernel_rfl
def zbn {β:Type} (yj:xX) (L:Nat) (b0:List V) (k_fin:Int→List V→Option β):Option β :=
 k_fin (-1:Int) b0
theorem zfV {β:Type} (yj:xX) (L:Nat) (b0:List V) (k:KK β):(xG 0 (yU (yo xB (zC yj L) 1 L zaV) (xZ 1 (CF.res zL) k))) (.exit 0) (zbL b0)=zbn yj L b0 (fun p0 b0=>k (V.sc (.int .i64 p0)) [(.live true b0)]):=by kernel_rfl
def zaa {β:Type} (yj:xX) (L:Nat) (k_ret:Int→List V→Option β) (k_x0:List V→Option β):Nat→List (List V)→Int→Int→List V→Option β
 | 0,_,_,_,_=>none
 | n+1,p0,p7,p8,b0=>zbM yj L p0 p7 p8 b0 k_ret (fun p0 p7 p8 b0=>zaa yj L k_ret k_x0 n p0 p7 p8 b0) k_x0
theorem zcO {β:Type} (yj:xX) (L:Nat) (K:KT β):∀ (n:Nat) (p0:List (List V)) (p7 p8:Int) (b0:List V),yE (yo xB (zC yj L) 1 L z9) zaA n (zas p0 p7 p8 b0) K=zaa yj L (fun p4 b0=>K .ret (zby p4 b0)) (fun b0=>K (.exit 0) (zbL b0)) n p0 p7 p8 b0:=by
 intro n
 induction n with
 | zero=>intros; rfl
 | succ n ih =>
  intro p0 p7 p8 b0
  refine (zgE yj L p0 p7 p8 b0 (fun σ=>yE (yo xB (zC yj L) 1 L z9) zaA n σ K) K).trans ?_
  simp only [ih]
  rfl
def za9 {β:Type} (yj:xX) (L:Nat) (p0:List (List V)) (b0:List V) (k_fin:Int→List V→Option β):Option β :=
 zcd yj L p0 b0 (fun p0 p7 p8 b0=>zaa yj L (fun p4 b0=>zbk yj L p4 b0 k_fin) (fun b0=>zbn yj L b0 k_fin) L p0 p7 p8 b0)
theorem zij {β:Type} (yj:xX) (L:Nat) (p0:List (List V)) (b0:List V) (k:KK β):zt xB (zC yj L) L zL [(V.sl 4 p0),(V.fn 301 [(V.ptr 0 0)])] [(.live true b0)] k=za9 yj L p0 b0 (fun p0 b0=>k (V.sc (.int .i64 p0)) [(.live true b0)]):=by
 refine (zh7 yj L p0 b0 k).trans ?_
 unfold za9
 first
  | (simp only [zcO,zfS,zfV]; done)
  | (simp only [zcO]; rfl)
abbrev za7:=∀ (β:Type),Nat→List (List V)→List V→(Int→List V→Option β)→Option β
def yt (β:Type) (L:Nat) (p0:List (List V)) (b0:List V) (k_fin:Int→List V→Option β):Option β:=za9 yj L p0 b0 k_fin
def za8 (yt:za7) (L:Nat) (β:Type) (args:List V) (bor:Bor) (k:KK β):Option β:=match args,bor with
 | [a0,a1],[(.live true b0)]=>aL 4 a0 fun p0=>aF 301 [(0,0)] a1 (yt β L p0 b0 (fun p0 b0=>k (V.sc (.int .i64 p0)) [(.live true b0)]))
 | _,_=>none
theorem zin (L:Nat) (β:Type) (args:List V) (bor:Bor) (k:KK β) (r:β) (h:za8 yt L β args bor k=some r):zt xB (zC yj L) L zL args bor k=some r:=by
 unfold za8 at h
 split at h
 ·have q:=zZ h; clear h; obtain ⟨p0,rfl,h⟩:=q
  have q:=ztV h; clear h; obtain ⟨rfl,h⟩:=q
  exact (zij yj L p0 _ k).trans h
 ·cases h
def zaz:CF:=⟨9,[.tmp 4],
 (.seq (.reg [oo 4 (.move (.const (.sc (.bool false))) false)])
 (.seq (.reg [oo 5 (.move (tq 0) false),
   oo 6 (.move (tq 1) false),
   oo 7 (.call 306 [((tq 5),2),((tq 6),2)] []),
   oo 8 (.bin .geq (tq 7) (.const (.sc (.int .i64 0)))),
   oo 4 (.move (tq 8) false)])
 .ret))⟩
def zc1:Hint:=⟨[(1,2)],[],[none],[],[],false,false⟩
def zbP:Nat→Sh:=zP []
def zbO (yt:za7) (L:Nat):CBC:=(zw 306 (za8 yt L) noC)
def zbS {β:Type} (yt:za7) (L:Nat) (p0:List (List V)) (b0:List V) (k_fin:Bool→List V→Option β):Option β :=
 yt β L p0 b0 (fun v0 v1 =>
 chk ([(List.length v1)]=[(List.length b0)]) (
 k_fin (decide (v0 ≥ (0:Int))) v1))
theorem zgW {β:Type} (yt:za7) (L:Nat) (p0:List (List V)) (b0:List V) (k:KK β):zt zbP (zbO yt L) L zaz [(V.sl 4 p0),(V.fn 301 [(V.ptr 0 0)])] [(.live true b0)] k=zbS yt L p0 b0 (fun p0 b0=>k (V.sc (.bool p0)) [(.live true b0)]):=by kernel_rfl
abbrev zaL:=∀ (β:Type),Nat→List (List V)→List V→(Bool→List V→Option β)→Option β
def zq (β:Type) (L:Nat) (p0:List (List V)) (b0:List V) (k_fin:Bool→List V→Option β):Option β:=zbS yt L p0 b0 k_fin
def zaN (zq:zaL) (L:Nat) (β:Type) (args:List V) (bor:Bor) (k:KK β):Option β:=match args,bor with
 | [a0,a1],[(.live true b0)]=>aL 4 a0 fun p0=>aF 301 [(0,0)] a1 (zq β L p0 b0 (fun p0 b0=>k (V.sc (.bool p0)) [(.live true b0)]))
 | _,_=>none
theorem zgU (L:Nat) (β:Type) (args:List V) (bor:Bor) (k:KK β) (r:β) (h:zaN zq L β args bor k=some r):zt zbP (zbO yt L) L zaz args bor k=some r:=by
 unfold zaN at h
 split at h
 ·have q:=zZ h; clear h; obtain ⟨p0,rfl,h⟩:=q
  have q:=ztV h; clear h; obtain ⟨rfl,h⟩:=q
  exact (zgW yt L p0 _ k).trans h
 ·cases h
def zg5:CF:=⟨8,[.tmp 4],
 (.seq (.reg [oo 3 (.box true (tq 1)),
   oo 4 (.move (.const (.sc (.bool false))) false)])
 (.seq (.reg [oo 5 (.move (tq 0) false),
   oo 6 (.makeFunc 301 [(tq 3)]),
   oo 7 (.call 300 [((tq 5),2),((tq 6),2)] []),
   oo 4 (.move (tq 7) false)])
 .ret))⟩
def zoj:Hint:=⟨[(1,2)],[],[none],[],[],false,false⟩
def zkX:Nat→Sh:=zP []
def zk6 (zq:zaL) (L:Nat):CBC:=(zw 300 (zaN zq L) noC)
def zmh {β:Type} (zq:zaL) (L:Nat) (p0:List (List V)) (p1:List V) (k_fin:Bool→Option β):Option β :=
 zq β L p0 p1 (fun v0 v1 =>
 chk ([(List.length v1)]=[(List.length p1)]) (
 k_fin v0))
theorem zwe {β:Type} (zq:zaL) (L:Nat) (p0:List (List V)) (p1:List V) (k:KK β):zt zkX (zk6 zq L) L zg5 [(V.sl 4 p0),(V.agg p1)] [] k=zmh zq L p0 p1 (fun p0=>k (V.sc (.bool p0)) []):=by kernel_rfl
abbrev yq:=∀ (β:Type),Nat→List (List V)→List V→(Bool→Option β)→Option β
def ya (β:Type) (L:Nat) (p0:List (List V)) (p1:List V) (k_fin:Bool→Option β):Option β:=zmh zq L p0 p1 k_fin
def zc4 (ya:yq) (L:Nat) (β:Type) (args:List V) (bor:Bor) (k:KK β):Option β:=match args,bor with
 | [a0,a1],[]=>aL 4 a0 fun p0=>aG a1 fun p1=>ya β L p0 p1 (fun p0=>k (V.sc (.bool p0)) [])
 | _,_=>none
theorem zwk (L:Nat) (β:Type) (args:List V) (bor:Bor) (k:KK β) (r:β) (h:zc4 ya L β args bor k=some r):zt zkX (zk6 zq L) L zg5 args bor k=some r:=by
 unfold zc4 at h
 split at h
 ·have q:=zZ h; clear h; obtain ⟨p0,rfl,h⟩:=q
  have q:=xY h; clear h; obtain ⟨p1,rfl,h⟩:=q
  exact (zwe zq L p0 p1 k).trans h
 ·cases h
def zc9:CC:=(.seq (.reg [oo 11 (.bin .lss (tq 10) (tq 9))])
 (.seq (.cond (tq 11)
 .skip
 (.seq (.mask (bl 0 28) (bl 234749923 28))
 (.exit 0)))
 (.seq (.block 1 (.seq (.reg [oo 12 (.move (tq 10) false),
   oo 13 (.indexAddrS 4 (tq 8) (tq 10)),
   oo 14 (.load true 4 (tq 13) false),
   oo 4 (.alloc true [(.sc (.int .i64 0)),(.sc (.int .u32 0)),(.sc (.int .u16 0)),(.sc (.int .u32 0))]),
   oo 3 (.move (tq 12) false),
   oz (.store 4 (tq 4) (tq 14))])
 (.seq (.dreg [] [(oo 15 (.fieldAddr 0 (tq 4)),q0),
   (oo 16 (.load false 1 (tq 15) false),q0),
   (oo 17 (.call 285 [((tq 16),0)] []),q0),
   (oo 18 (.un .not (tq 17)),q0),
   (oo 19 (.move (tq 18) false),q0),
   (⟨(some 20),false,(some (19,false)),.move (tq 0) false⟩,q0),
   (⟨(some 21),false,(some (19,false)),.move (tq 3) false⟩,q0),
   (⟨(some 22),false,(some (19,false)),.sliceS 4 (tq 20) none (some (tq 21)) none⟩,q0),
   (⟨(some 23),false,(some (19,false)),.fieldAddr 1 (tq 4)⟩,q0),
   (⟨(some 24),false,(some (19,false)),.load true 3 (tq 23) false⟩,q0),
   (⟨(some 25),false,(some (19,false)),.call 278 [((tq 22),0),((tq 24),0)] []⟩,q0),
   (oo 26 (.pick (tq 19) (.const (.sc (.bool true))) (tq 25)),q0)])
 (.cond (tq 26)
 (.seq (.reg [oo 2 (.move (.const (.sc (.bool false))) false)])
 (.seq (.mask (bl 4 28) (bl 234749927 28))
 .ret))
 .skip))))
 (.reg [oo 27 (.bin .add (tq 10) (.const (.sc (.int .i64 1)))),
   oo 10 (.move (tq 27) false)]))))
def zgB:CC:=(.seq (.reg [oo 2 (.move (.const (.sc (.bool true))) false)])
 .ret)
def zck:CF:=⟨28,[.tmp 2],
 (.seq (.reg [oo 2 (.move (.const (.sc (.bool false))) false)])
 (.seq (.seq (.reg [oo 5 (.move (tq 0) false),
   oo 6 (.lenS (tq 5)),
   oo 7 (.bin .gtr (tq 6) (.const (.sc (.int .i64 8))))])
 (.cond (tq 7)
 (.seq (.reg [oo 2 (.move (.const (.sc (.bool false))) false)])
 .ret)
 .skip))
 (.seq (.seq (.reg [oo 8 (.move (tq 0) false),
   oo 9 (.lenS (tq 8)),
   oo 10 (.move (.const (.sc (.int .i64 0))) false)])
 (.block 0 (.loop (bl 1793 28) (bl 234749923 28)
 zc9)))
 zgB)))⟩
def zpF:Hint:=⟨[],[],[none,none,none,some ((bl 1793 28),(bl 234749923 28)),none,some ((bl 0 28),(bl 234749923 28)),none,none,some ((bl 4 28),(bl 234749927 28)),none],[],[],false,false⟩
def za0:Nat→Sh:=zP [(16,(.int .i64))]
def zaY (xi:yW) (ya:yq) (L:Nat):CBC:=(zw 278 (zc4 ya L) (zw 285 (zgj xi L) noC))
def ze3:St→St:=zae 0 (bl 1793 28) (bl 234749923 28)
def zdN (p0 p8:List (List V)) (p9 p10:Int):St:=⟨((V.sl 4 p0)::(jn 7 ((V.sl 4 p8)::((V.sc (.int .i64 p9))::((V.sc (.int .i64 p10))::(jn 17 [])))))),(gn 28 [])⟩
def zih (p2:Bool):St:=⟨(jn 2 ((V.sc (.bool p2))::(jn 25 []))),(gn 28 [])⟩
def ziO:St:=⟨(jn 28 []),(gn 28 [])⟩
def zmT {β:Type} (xi:yW) (ya:yq) (L:Nat) (p0:List (List V)) (k_fin:Bool→Option β) (k_hbbaba:List (List V)→List (List V)→Int→Int→Option β):Option β :=
 ifb (decide (((List.length p0:Nat):Int) > (8:Int))) (
 k_fin false) (
 k_hbbaba p0 p0 ((List.length p0:Nat):Int) (0:Int))
theorem zwJ {β:Type} (xi:yW) (ya:yq) (L:Nat) (p0:List (List V)) (k:KK β):zt za0 (zaY xi ya L) L zck [(V.sl 4 p0)] [] k=zmT xi ya L p0 (fun p0=>k (V.sc (.bool p0)) []) (fun p0 p8 p9 p10=>yE (yo za0 (zaY xi ya L) 0 L zc9) ze3 L (zdN p0 p8 p9 p10) (xG 0 (yU (yo za0 (zaY xi ya L) 0 L zgB) (xZ 0 (CF.res zck) k)))):=by kernel_rfl
def zip {β:Type} (xi:yW) (ya:yq) (L:Nat) (p0 p8:List (List V)) (p9 p10:Int) (k_ret:Bool→Option β) (k_hbbaba:List (List V)→List (List V)→Int→Int→Option β) (k_x0:Option β):Option β :=
 ifb (decide (p10 < p9)) (
 idx p8 p10 fun c0 =>
 chk ((List.length (List.take 4 c0))=4∧0+4≤4) (
 lt (xg [(V.sc (.int .i64 (0:Int))),(V.sc (.int .u32 (0:Int))),(V.sc (.int .u16 (0:Int))),(V.sc (.int .u32 (0:Int)))] 0 (List.take 4 c0)) fun r1 =>
 cI .i64 r1 0 fun v2 =>
 xi β L v2 (fun v3 =>
 ifb (!v3) (
 k_ret false) (
 chk (0≤p10∧p10≤(((List.length p0):Nat):Int)) (
 chk (1+3≤(List.length r1)) (
 ya β L (List.take ((Int.toNat p10) - 0) (List.drop 0 p0)) (List.take 3 (List.drop 1 r1)) (fun v4 =>
 ifb v4 (
 k_ret false) (
 lt (IntKind.wrap .i64 ((p10:Int)+(1:Int))) fun x5 =>
 k_hbbaba p0 p8 p9 x5)))))))) (
 k_x0)
theorem zsu {β:Type} (xi:yW) (ya:yq) (L:Nat) (p0 p8:List (List V)) (p9 p10:Int) (X:St→Option β) (K:KT β):yo za0 (zaY xi ya L) 0 L zc9 (zdN p0 p8 p9 p10) (zcr ze3 X K)=zip xi ya L p0 p8 p9 p10 (fun p2=>K .ret (zih p2)) (fun p0 p8 p9 p10=>X (zdN p0 p8 p9 p10)) (K (.exit 0) (ziO)):=by kernel_rfl
def zkO {β:Type} (xi:yW) (ya:yq) (L:Nat) (p2:Bool) (k_fin:Bool→Option β):Option β :=
 k_fin p2
theorem zp0 {β:Type} (xi:yW) (ya:yq) (L:Nat) (p2:Bool) (k:KK β):(xG 0 (yU (yo za0 (zaY xi ya L) 0 L zgB) (xZ 0 (CF.res zck) k))) .ret (zih p2)=zkO xi ya L p2 (fun p0=>k (V.sc (.bool p0)) []):=by kernel_rfl
def zlL {β:Type} (xi:yW) (ya:yq) (L:Nat) (k_fin:Bool→Option β):Option β :=
 k_fin true
theorem zqG {β:Type} (xi:yW) (ya:yq) (L:Nat) (k:KK β):(xG 0 (yU (yo za0 (zaY xi ya L) 0 L zgB) (xZ 0 (CF.res zck) k))) (.exit 0) (ziO)=zlL xi ya L (fun p0=>k (V.sc (.bool p0)) []):=by kernel_rfl
def zdt {β:Type} (xi:yW) (ya:yq) (L:Nat) (k_ret:Bool→Option β) (k_x0:Option β):Nat→List (List V)→List (List V)→Int→Int→Option β
 | 0,_,_,_,_=>none
 | n+1,p0,p8,p9,p10=>zip xi ya L p0 p8 p9 p10 k_ret (fun p0 p8 p9 p10=>zdt xi ya L k_ret k_x0 n p0 p8 p9 p10) k_x0
theorem zkJ {β:Type} (xi:yW) (ya:yq) (L:Nat) (K:KT β):∀ (n:Nat) (p0 p8:List (List V)) (p9 p10:Int),yE (yo za0 (zaY xi ya L) 0 L zc9) ze3 n (zdN p0 p8 p9 p10) K=zdt xi ya L (fun p2=>K .ret (zih p2)) (K (.exit 0) (ziO)) n p0 p8 p9 p10:=by
 intro n
 induction n with
 | zero=>intros; rfl
 | succ n ih =>
  intro p0 p8 p9 p10
  refine (zsu xi ya L p0 p8 p9 p10 (fun σ=>yE (yo za0 (zaY xi ya L) 0 L zc9) ze3 n σ K) K).trans ?_
  simp only [ih]
  rfl
def zjk {β:Type} (xi:yW) (ya:yq) (L:Nat) (p0:List (List V)) (k_fin:Bool→Option β):Option β :=
 zmT xi ya L p0 k_fin (fun p0 p8 p9 p10=>zdt xi ya L (fun p2=>zkO xi ya L p2 k_fin) (zlL xi ya L k_fin) L p0 p8 p9 p10)
theorem zxg {β:Type} (xi:yW) (ya:yq) (L:Nat) (p0:List (List V)) (k:KK β):zt za0 (zaY xi ya L) L zck [(V.sl 4 p0)] [] k=zjk xi ya L p0 (fun p0=>k (V.sc (.bool p0)) []):=by
 refine (zwJ xi ya L p0 k).trans ?_
 unfold zjk
 first
  | (simp only [zkJ,zp0,zqG]; done)
  | (simp only [zkJ]; rfl)
abbrev zD:=∀ (β:Type),Nat→List (List V)→(Bool→Option β)→Option β
def ye (β:Type) (L:Nat) (p0:List (List V)) (k_fin:Bool→Option β):Option β:=zjk xi ya L p0 k_fin
def zeB (ye:zD) (L:Nat) (β:Type) (args:List V) (bor:Bor) (k:KK β):Option β:=match args,bor with
 | [a0],[]=>aL 4 a0 fun p0=>ye β L p0 (fun p0=>k (V.sc (.bool p0)) [])
 | _,_=>none
theorem zwZ (L:Nat) (β:Type) (args:List V) (bor:Bor) (k:KK β) (r:β) (h:zeB ye L β args bor k=some r):zt za0 (zaY xi ya L) L zck args bor k=some r:=by
 unfold zeB at h
 split at h
 ·have q:=zZ h; clear h; obtain ⟨p0,rfl,h⟩:=q
  exact (zxg xi ya L p0 k).trans h
 ·cases h
def zfz:CC:=(.seq (.reg [oo 9 (.bin .lss (tq 8) (tq 7))])
 (.seq (.cond (tq 9)
 .skip
 (.seq (.mask (bl 8 22) (bl 4194255 22))
 (.exit 0)))
 (.seq (.block 1 (.seq (.reg [oo 10 (.move (tq 8) false),
   oo 11 (.indexAddrS 1 (tq 6) (tq 8)),
   oo 12 (.load false 1 (tq 11) false),
   oo 4 (.move (tq 10) false),
   oo 5 (.move (tq 12) false)])
 (.reg [oo 13 (.move (tq 3) false),
   oo 14 (.move (tq 5) false),
   oo 15 (.conv .u64 (tq 14)),
   oo 16 (.move (tq 4) false),
   oo 17 (.bin .mul (.const (.sc (.int .i64 8))) (tq 16)),
   oo 18 (.bin .shl (tq 15) (tq 17)),
   oo 19 (.bin .or (tq 13) (tq 18)),
   oo 3 (.move (tq 19) false)])))
 (.reg [oo 20 (.bin .add (tq 8) (.const (.sc (.int .i64 1)))),
   oo 8 (.move (tq 20) false)]))))
def zpY:CC:=(.seq (.reg [oo 21 (.move (tq 3) false),
   oo 2 (.move (tq 21) false)])
 .ret)
def zgM:CF:=⟨22,[.tmp 2],
 (.seq (.reg [oo 2 (.move (.const (.sc (.int .u64 0))) false)])
 (.seq (.reg [oo 3 (.move (.const (.sc (.int .u64 0))) false)])
 (.seq (.seq (.reg [oo 6 (.move (tq 0) false),
   oo 7 (.lenS (tq 6)),
   oo 8 (.move (.const (.sc (.int .i64 0))) false)])
 (.block 0 (.loop (bl 456 22) (bl 4194255 22)
 zfz)))
 zpY)))⟩
def zvM:Hint:=⟨[],[],[none,some ((bl 456 22),(bl 4194255 22)),none,some ((bl 8 22),(bl 4194255 22)),none,none],[],[],false,false⟩
def zdn:Nat→Sh:=zP [(12,(.int .u8))]
def zdm (L:Nat):CBC:=noC
def zjp:St→St:=zae 0 (bl 456 22) (bl 4194255 22)
def zgc (p3:Int) (p6:List (List V)) (p7 p8:Int):St:=⟨(jn 3 ((V.sc (.int .u64 p3))::(jn 2 ((V.sl 1 p6)::((V.sc (.int .i64 p7))::((V.sc (.int .i64 p8))::(jn 13 []))))))),(gn 22 [])⟩
def zoT (p3:Int):St:=⟨(jn 3 ((V.sc (.int .u64 p3))::(jn 18 []))),(gn 22 [])⟩
def zuX {β:Type} (L:Nat) (p0:List (List V)) (k_hbbaba:Int→List (List V)→Int→Int→Option β):Option β :=
 k_hbbaba (0:Int) p0 ((List.length p0:Nat):Int) (0:Int)
theorem zCO {β:Type} (L:Nat) (p0:List (List V)) (k:KK β):zt zdn (zdm L) L zgM [(V.sl 1 p0)] [] k=zuX L p0 (fun p3 p6 p7 p8=>yE (yo zdn (zdm L) 0 L zfz) zjp L (zgc p3 p6 p7 p8) (xG 0 (yU (yo zdn (zdm L) 0 L zpY) (xZ 0 (CF.res zgM) k)))):=by kernel_rfl
def znt {β:Type} (L:Nat) (p3:Int) (p6:List (List V)) (p7 p8:Int) (k_hbbaba:Int→List (List V)→Int→Int→Option β) (k_x0:Int→Option β):Option β :=
 ifb (decide (p8 < p7)) (
 idx p6 p8 fun c0 =>
 cI .u8 c0 0 fun v1 =>
 lt (IntKind.wrap .u64 v1) fun x2 =>
 lt (IntKind.wrap .i64 (((8:Int):Int) * p8)) fun x3 =>
 chk (0≤x3) (
 lt (zre .u64 x2 x3) fun x4 =>
 lt (ior .u64 p3 x4) fun x5 =>
 lt (IntKind.wrap .i64 ((p8:Int)+(1:Int))) fun x6 =>
 k_hbbaba x5 p6 p7 x6)) (
 k_x0 p3)
theorem zwV {β:Type} (L:Nat) (p3:Int) (p6:List (List V)) (p7 p8:Int) (X:St→Option β) (K:KT β):yo zdn (zdm L) 0 L zfz (zgc p3 p6 p7 p8) (zcr zjp X K)=znt L p3 p6 p7 p8 (fun p3 p6 p7 p8=>X (zgc p3 p6 p7 p8)) (fun p3=>K (.exit 0) (zoT p3)):=by kernel_rfl
def zqd {β:Type} (L:Nat) (p3:Int) (k_fin:Int→Option β):Option β :=
 k_fin p3
theorem zvo {β:Type} (L:Nat) (p3:Int) (k:KK β):(xG 0 (yU (yo zdn (zdm L) 0 L zpY) (xZ 0 (CF.res zgM) k))) (.exit 0) (zoT p3)=zqd L p3 (fun p0=>k (V.sc (.int .u64 p0)) []):=by kernel_rfl
def zgx {β:Type} (L:Nat) (k_x0:Int→Option β):Nat→Int→List (List V)→Int→Int→Option β
 | 0,_,_,_,_=>none
 | n+1,p3,p6,p7,p8=>znt L p3 p6 p7 p8 (fun p3 p6 p7 p8=>zgx L k_x0 n p3 p6 p7 p8) k_x0
theorem zpI {β:Type} (L:Nat) (K:KT β):∀ (n:Nat) (p3:Int) (p6:List (List V)) (p7 p8:Int),yE (yo zdn (zdm L) 0 L zfz) zjp n (zgc p3 p6 p7 p8) K=zgx L (fun p3=>K (.exit 0) (zoT p3)) n p3 p6 p7 p8:=by
 intro n
 induction n with
 | zero=>intros; rfl
 | succ n ih =>
  intro p3 p6 p7 p8
  refine (zwV L p3 p6 p7 p8 (fun σ=>yE (yo zdn (zdm L) 0 L zfz) zjp n σ K) K).trans ?_
  simp only [ih]
  rfl
def zqR {β:Type} (L:Nat) (p0:List (List V)) (k_fin:Int→Option β):Option β :=
 zuX L p0 (fun p3 p6 p7 p8=>zgx L (fun p3=>zqd L p3 k_fin) L p3 p6 p7 p8)
theorem zCY {β:Type} (L:Nat) (p0:List (List V)) (k:KK β):zt zdn (zdm L) L zgM [(V.sl 1 p0)] [] k=zqR L p0 (fun p0=>k (V.sc (.int .u64 p0)) []):=by
 refine (zCO L p0 k).trans ?_
 unfold zqR
 first
  | (simp only [zpI,zvo]; done)
  | (simp only [zpI]; rfl)
abbrev zbU:=∀ (β:Type),Nat→List (List V)→(Int→Option β)→Option β
def xu (β:Type) (L:Nat) (p0:List (List V)) (k_fin:Int→Option β):Option β:=zqR L p0 k_fin
def zm2 (xu:zbU) (L:Nat) (β:Type) (args:List V) (bor:Bor) (k:KK β):Option β:=match args,bor with
 | [a0],[]=>aL 1 a0 fun p0=>xu β L p0 (fun p0=>k (V.sc (.int .u64 p0)) [])
 | _,_=>none
theorem zCN (L:Nat) (β:Type) (args:List V) (bor:Bor) (k:KK β) (r:β) (h:zm2 xu L β args bor k=some r):zt zdn (zdm L) L zgM args bor k=some r:=by
 unfold zm2 at h
 split at h
 ·have q:=zZ h; clear h; obtain ⟨p0,rfl,h⟩:=q
  exact (zCY L p0 k).trans h
 ·cases h
def zqT:CF:=⟨8,[.cell 2 true 2],
 (.seq (.reg [oo 1 (.box true (tq 0)),
   oo 2 (.alloc true [(.sc (.int .u64 0)),(.sc (.int .u64 0))])])
 (.seq (.dreg [1] [(oo 3 (.sliceA 32 1 (tq 1) none (some (.const (.sc (.int .i64 8)))) none),q1),
   (oo 4 (.call 112 [((tq 3),0)] []),q1),
   (oo 5 (.sliceA 32 1 (tq 1) (some (.const (.sc (.int .i64 8)))) (some (.const (.sc (.int .i64 16)))) none),q1),
   (oo 6 (.call 112 [((tq 5),0)] []),q0),
   (oo 7 (.build [(.sc (.int .u64 0)),(.sc (.int .u64 0))] [(0,1,(tq 4)),(1,1,(tq 6))]),q0),
   (oz (.store 2 (tq 2) (tq 7)),q0)])
 .ret))⟩
def zwv:Hint:=⟨[],[],[none],[(1,[1])],[],false,false⟩
def zuZ:Nat→Sh:=zP []
def zu1 (xu:zbU) (L:Nat):CBC:=(zw 112 (zm2 xu L) noC)
def zwy {β:Type} (xu:zbU) (L:Nat) (p0:List V) (k_fin:List V→Option β):Option β :=
 chk ((List.length p0)≠0) (
 chk (0+32 * 1≤(List.length p0)) (
 xu β L (yl 1 8 p0) (fun v0 =>
 chk (0+32 * 1≤(List.length p0)) (
 xu β L (yl 1 8 (List.drop 8 p0)) (fun v1 =>
 lt [(V.sc (.int .u64 v0)),(V.sc (.int .u64 v1))] fun r2 =>
 chk (0=0∧(List.length r2)=2∧2≠0) (
 k_fin r2))))))
theorem zEy {β:Type} (xu:zbU) (L:Nat) (p0:List V) (k:KK β):zt zuZ (zu1 xu L) L zqT [(V.agg p0)] [] k=zwy xu L p0 (fun p0=>k (V.agg p0) []):=by kernel_rfl
abbrev zkd:=∀ (β:Type),Nat→List V→(List V→Option β)→Option β
def yZ (β:Type) (L:Nat) (p0:List V) (k_fin:List V→Option β):Option β:=zwy xu L p0 k_fin
def zpe (yZ:zkd) (L:Nat) (β:Type) (args:List V) (bor:Bor) (k:KK β):Option β:=match args,bor with
 | [a0],[]=>aG a0 fun p0=>yZ β L p0 (fun p0=>k (V.agg p0) [])
 | _,_=>none
theorem zDH (L:Nat) (β:Type) (args:List V) (bor:Bor) (k:KK β) (r:β) (h:zpe yZ L β args bor k=some r):zt zuZ (zu1 xu L) L zqT args bor k=some r:=by
 unfold zpe at h
 split at h
 ·have q:=xY h; clear h; obtain ⟨p0,rfl,h⟩:=q
  exact (zEy xu L p0 k).trans h
 ·cases h
def zdo:CC:=(.seq (.reg [oo 11 (.bin .lss (tq 10) (tq 9))])
 (.seq (.cond (tq 11)
 .skip
 (.seq (.mask (bl 32 23) (bl 8388543 23))
 (.exit 0)))
 (.seq (.block 1 (.seq (.reg [oo 12 (.move (tq 10) false),
   oo 6 (.move (tq 12) false)])
 (.reg [oo 13 (.move (tq 5) false),
   oo 14 (.move (tq 6) false),
   oo 15 (.move (tq 0) false),
   oo 16 (.move (tq 6) false),
   oo 17 (.bin .mul (.const (.sc (.int .i64 8))) (tq 16)),
   oo 18 (.bin .shr (tq 15) (tq 17)),
   oo 19 (.conv .u8 (tq 18)),
   oo 20 (.indexAddrS 1 (tq 13) (tq 14)),
   oz (.store 1 (tq 20) (tq 19))])))
 (.reg [oo 21 (.bin .add (tq 10) (.const (.sc (.int .i64 1)))),
   oo 10 (.move (tq 21) false)]))))
def zlg:CC:=(.seq (.reg [oo 22 (.move (tq 5) true),
   oo 4 (.move (tq 22) true)])
 .ret)
def zdw:CF:=⟨23,[.tmp 4],
 (.seq (.reg [oo 4 (.move (.const (.gs 1 [])) true)])
 (.seq (.reg [oo 7 (.move (tq 1) false),
   ⟨(some 8),true,none,.makeSlice 1 1 [(.sc (.int .u8 0))] (tq 7) (tq 7)⟩,
   oo 5 (.move (tq 8) true)])
 (.seq (.seq (.reg [oo 9 (.move (tq 1) false),
   oo 10 (.move (.const (.sc (.int .i64 0))) false)])
 (.block 0 (.loop (bl 1569 23) (bl 8388543 23)
 zdo)))
 zlg)))⟩
def zqn:Hint:=⟨[(0,0),(1,2),(7,0),(7,1)],[(1,1)],[none,some ((bl 1569 23),(bl 8388543 23)),none,some ((bl 32 23),(bl 8388543 23)),none,none],[],[],false,false⟩
def zbJ:Nat→Sh:=zP []
def zbH (L:Nat):CBC:=noC
def zfG:St→St:=zae 0 (bl 1569 23) (bl 8388543 23)
def zeg (p0:Int) (p5l:Nat) (p9 p10:Int) (b8:List V):St:=⟨((V.sc (.int .u64 p0))::(jn 4 ((V.own 8 0 p5l 1)::(jn 3 ((V.sc (.int .i64 p9))::((V.sc (.int .i64 p10))::(jn 12 []))))))),(gn 8 ((.live true b8)::(gn 14 [])))⟩
def zjt (p5l:Nat) (b8:List V):St:=⟨(jn 5 ((V.own 8 0 p5l 1)::(jn 17 []))),(gn 8 ((.live true b8)::(gn 14 [])))⟩
def ztT {β:Type} (L:Nat) (p0 p1:Int) (k_hbbaba:Int→Nat→Int→Int→List V→Option β):Option β :=
 chk (0≤p1∧p1≤p1∧(Int.toNat p1) * 1≤zs∧p1≤zs∧p1=p1) (
 k_hbbaba p0 (List.length (List.replicate (Int.toNat p1) [(V.sc (.int .u8 (0:Int)))])) p1 (0:Int) (List.flatten (List.replicate (Int.toNat p1) [(V.sc (.int .u8 (0:Int)))])))
theorem zyg {β:Type} (L:Nat) (p0 p1:Int) (k:KK β):zt zbJ (zbH L) L zdw [(V.sc (.int .u64 p0)),(V.sc (.int .i64 p1))] [] k=ztT L p0 p1 (fun p0 p5l p9 p10 b8=>yE (yo zbJ (zbH L) 0 L zdo) zfG L (zeg p0 p5l p9 p10 b8) (xG 0 (yU (yo zbJ (zbH L) 0 L zlg) (xZ 0 (CF.res zdw) k)))):=by kernel_rfl
def zoh {β:Type} (L:Nat) (p0:Int) (p5l:Nat) (p9 p10:Int) (b8:List V) (k_hbbaba:Int→Nat→Int→Int→List V→Option β) (k_x0:Nat→List V→Option β):Option β :=
 ifb (decide (p10 < p9)) (
 lt (IntKind.wrap .i64 (((8:Int):Int) * p10)) fun x0 =>
 chk (0≤x0) (
 lt (znO .u64 p0 x0) fun x1 =>
 lt (IntKind.wrap .u8 x1) fun x2 =>
 chk (0≤p10∧p10 < ((p5l:Nat):Int)) (
 chk (1=1∧(0+((Int.toNat p10) * 1))+1≤(List.length b8)) (
 lt (xg b8 (0+((Int.toNat p10) * 1)) [(V.sc (.int .u8 x2))]) fun r3 =>
 lt (IntKind.wrap .i64 ((p10:Int)+(1:Int))) fun x4 =>
 k_hbbaba p0 p5l p9 x4 r3)))) (
 k_x0 p5l b8)
theorem zs1 {β:Type} (L:Nat) (p0:Int) (p5l:Nat) (p9 p10:Int) (b8:List V) (X:St→Option β) (K:KT β):yo zbJ (zbH L) 0 L zdo (zeg p0 p5l p9 p10 b8) (zcr zfG X K)=zoh L p0 p5l p9 p10 b8 (fun p0 p5l p9 p10 b8=>X (zeg p0 p5l p9 p10 b8)) (fun p5l b8=>K (.exit 0) (zjt p5l b8)):=by kernel_rfl
def zmk {β:Type} (L:Nat) (p5l:Nat) (b8:List V) (k_fin:List (List V)→Option β):Option β :=
 chk (p5l≠0∨(List.length b8)=0) (
 k_fin (yl 1 p5l b8))
theorem zrk {β:Type} (L:Nat) (p5l:Nat) (b8:List V) (k:KK β):(xG 0 (yU (yo zbJ (zbH L) 0 L zlg) (xZ 0 (CF.res zdw) k))) (.exit 0) (zjt p5l b8)=zmk L p5l b8 (fun p0=>k (V.fr 1 p0) []):=by kernel_rfl
def ziE {β:Type} (L:Nat) (k_x0:Nat→List V→Option β):Nat→Int→Nat→Int→Int→List V→Option β
 | 0,_,_,_,_,_=>none
 | n+1,p0,p5l,p9,p10,b8=>zoh L p0 p5l p9 p10 b8 (fun p0 p5l p9 p10 b8=>ziE L k_x0 n p0 p5l p9 p10 b8) k_x0
theorem zlE {β:Type} (L:Nat) (K:KT β):∀ (n:Nat) (p0:Int) (p5l:Nat) (p9 p10:Int) (b8:List V),yE (yo zbJ (zbH L) 0 L zdo) zfG n (zeg p0 p5l p9 p10 b8) K=ziE L (fun p5l b8=>K (.exit 0) (zjt p5l b8)) n p0 p5l p9 p10 b8:=by
 intro n
 induction n with
 | zero=>intros; rfl
 | succ n ih =>
  intro p0 p5l p9 p10 b8
  refine (zs1 L p0 p5l p9 p10 b8 (fun σ=>yE (yo zbJ (zbH L) 0 L zdo) zfG n σ K) K).trans ?_
  simp only [ih]
  rfl
def zoN {β:Type} (L:Nat) (p0 p1:Int) (k_fin:List (List V)→Option β):Option β :=
 ztT L p0 p1 (fun p0 p5l p9 p10 b8=>ziE L (fun p5l b8=>zmk L p5l b8 k_fin) L p0 p5l p9 p10 b8)
theorem zys {β:Type} (L:Nat) (p0 p1:Int) (k:KK β):zt zbJ (zbH L) L zdw [(V.sc (.int .u64 p0)),(V.sc (.int .i64 p1))] [] k=zoN L p0 p1 (fun p0=>k (V.fr 1 p0) []):=by
 refine (zyg L p0 p1 k).trans ?_
 unfold zoN
 first
  | (simp only [zlE,zrk]; done)
  | (simp only [zlE]; rfl)
abbrev zdW:=∀ (β:Type),Nat→Int→Int→(List (List V)→Option β)→Option β
def yG (β:Type) (L:Nat) (p0 p1:Int) (k_fin:List (List V)→Option β):Option β:=zoN L p0 p1 k_fin
def zhA (yG:zdW) (L:Nat) (β:Type) (args:List V) (bor:Bor) (k:KK β):Option β:=match args,bor with
 | [a0,a1],[]=>aI .u64 a0 fun p0=>aI .i64 a1 fun p1=>yG β L p0 p1 (fun p0=>k (V.fr 1 p0) [])
 | _,_=>none
theorem zyz (L:Nat) (β:Type) (args:List V) (bor:Bor) (k:KK β) (r:β) (h:zhA yG L β args bor k=some r):zt zbJ (zbH L) L zdw args bor k=some r:=by
 unfold zhA at h
 split at h
 ·have q:=zaC h; clear h; obtain ⟨p0,rfl,h⟩:=q
  have q:=zaC h; clear h; obtain ⟨p1,rfl,h⟩:=q
  exact (zys L p0 p1 k).trans h
 ·cases h
def zi4:CF:=⟨18,[.tmp 4],
 (.seq (.reg [oo 4 (.move (.const (.gs 1 [])) true)])
 (.seq (.reg [oo 6 (.move (tq 0) false),
   oo 7 (.lenS (tq 6)),
   oo 8 (.move (tq 1) false),
   oo 9 (.lenS (tq 8)),
   oo 10 (.bin .add (tq 7) (tq 9)),
   oo 11 (.makeSlice 1 1 [(.sc (.int .u8 0))] (.const (.sc (.int .i64 0))) (tq 10)),
   oo 5 (.move (tq 11) true)])
 (.seq (.reg [oo 12 (.move (tq 5) true),
   oo 13 (.move (tq 0) false),
   oo 14 (.append 1 1 (tq 12) (tq 13)),
   oo 5 (.move (tq 14) true)])
 (.seq (.reg [oo 15 (.move (tq 5) true),
   oo 16 (.move (tq 1) false),
   oo 17 (.append 1 1 (tq 15) (tq 16)),
   oo 4 (.move (tq 17) true)])
 .ret))))⟩
def zqa:Hint:=⟨[(0,0),(1,6),(2,0),(2,3),(3,0),(3,3)],[],[none],[],[],false,false⟩
def znf:Nat→Sh:=zP []
def znD (L:Nat):CBC:=noC
def zoM {β:Type} (L:Nat) (p0 p1:List (List V)) (k_fin:List (List V)→Option β):Option β :=
 lt (IntKind.wrap .i64 ((((List.length p0:Nat):Int):Int)+((List.length p1:Nat):Int))) fun x0 =>
 chk (0≤(0:Int)∧(0:Int)≤x0∧(Int.toNat x0) * 1≤zs∧x0≤zs) (
 chk ((List.length (List.replicate 0 [(V.sc (.int .u8 (0:Int)))])+List.length p0) * 1≤zs∧List.length (List.replicate 0 [(V.sc (.int .u8 (0:Int)))])+List.length p0≤zs) (
 lt ((List.replicate 0 [(V.sc (.int .u8 (0:Int)))])++p0) fun l1 =>
 chk ((List.length l1+List.length p1) * 1≤zs∧List.length l1+List.length p1≤zs) (
 lt (l1++p1) fun l2 =>
 k_fin l2)))
theorem zx4 {β:Type} (L:Nat) (p0 p1:List (List V)) (k:KK β):zt znf (znD L) L zi4 [(V.sl 1 p0),(V.sl 1 p1)] [] k=zoM L p0 p1 (fun p0=>k (V.gs 1 p0) []):=by kernel_rfl
abbrev zd1:=∀ (β:Type),Nat→List (List V)→List (List V)→(List (List V)→Option β)→Option β
def xF (β:Type) (L:Nat) (p0 p1:List (List V)) (k_fin:List (List V)→Option β):Option β:=zoM L p0 p1 k_fin
def zhc (xF:zd1) (L:Nat) (β:Type) (args:List V) (bor:Bor) (k:KK β):Option β:=match args,bor with
 | [a0,a1],[]=>aL 1 a0 fun p0=>aL 1 a1 fun p1=>xF β L p0 p1 (fun p0=>k (V.gs 1 p0) [])
 | _,_=>none
theorem zyr (L:Nat) (β:Type) (args:List V) (bor:Bor) (k:KK β) (r:β) (h:zhc xF L β args bor k=some r):zt znf (znD L) L zi4 args bor k=some r:=by
 unfold zhc at h
 split at h
 ·have q:=zZ h; clear h; obtain ⟨p0,rfl,h⟩:=q
  have q:=zZ h; clear h; obtain ⟨p1,rfl,h⟩:=q
  exact (zx4 L p0 p1 k).trans h
 ·cases h
def zgt:CF:=⟨10,[.tmp 4],
 (.seq (.reg [oo 4 (.move (.const (.gs 1 [])) true)])
 (.seq (.reg [oo 5 (.move (tq 0) false),
   oo 6 (.move (tq 1) false),
   oo 7 (.conv .u64 (tq 6)),
   oo 8 (.call 192 [((tq 7),0),((.const (.sc (.int .i64 4))),0)] []),
   oo 9 (.call 191 [((tq 5),0),((tq 8),0)] []),
   oo 4 (.move (tq 9) true)])
 .ret))⟩
def zmY:Hint:=⟨[(0,0),(1,5)],[],[none],[],[],false,false⟩
def zjz:Nat→Sh:=zP []
def zkg (yG:zdW) (xF:zd1) (L:Nat):CBC:=(zw 191 (zhc xF L) (zw 192 (zhA yG L) noC))
def zll {β:Type} (yG:zdW) (xF:zd1) (L:Nat) (p0:List (List V)) (p1:Int) (k_fin:List (List V)→Option β):Option β :=
 lt (IntKind.wrap .u64 p1) fun x0 =>
 yG β L x0 (4:Int) (fun v1 =>
 xF β L p0 v1 (fun v2 =>
 k_fin v2))
theorem zuQ {β:Type} (yG:zdW) (xF:zd1) (L:Nat) (p0:List (List V)) (p1:Int) (k:KK β):zt zjz (zkg yG xF L) L zgt [(V.sl 1 p0),(V.sc (.int .u32 p1))] [] k=zll yG xF L p0 p1 (fun p0=>k (V.gs 1 p0) []):=by kernel_rfl
abbrev zcB:=∀ (β:Type),Nat→List (List V)→Int→(List (List V)→Option β)→Option β
def xw (β:Type) (L:Nat) (p0:List (List V)) (p1:Int) (k_fin:List (List V)→Option β):Option β:=zll yG xF L p0 p1 k_fin
def zeZ (xw:zcB) (L:Nat) (β:Type) (args:List V) (bor:Bor) (k:KK β):Option β:=match args,bor with
 | [a0,a1],[]=>aL 1 a0 fun p0=>aI .u32 a1 fun p1=>xw β L p0 p1 (fun p0=>k (V.gs 1 p0) [])
 | _,_=>none
theorem zuW (L:Nat) (β:Type) (args:List V) (bor:Bor) (k:KK β) (r:β) (h:zeZ xw L β args bor k=some r):zt zjz (zkg yG xF L) L zgt args bor k=some r:=by
 unfold zeZ at h
 split at h
 ·have q:=zZ h; clear h; obtain ⟨p0,rfl,h⟩:=q
  have q:=zaC h; clear h; obtain ⟨p1,rfl,h⟩:=q
  exact (zuQ yG xF L p0 p1 k).trans h
 ·cases h
def zdh:CF:=⟨17,[.tmp 4],
 (.seq (.reg [oo 4 (.move (.const (.sc (.int .u64 0))) false)])
 (.seq (.reg [oo 6 (.move (tq 1) false),
   oo 7 (.conv .u64 (tq 6)),
   oo 8 (.bin .and (tq 7) (.const (.sc (.int .u64 63)))),
   oo 5 (.move (tq 8) false)])
 (.seq (.reg [oo 9 (.move (tq 0) false),
   oo 10 (.move (tq 5) false),
   oo 11 (.bin .shl (tq 9) (tq 10)),
   oo 12 (.move (tq 0) false),
   oo 13 (.move (tq 5) false),
   oo 14 (.bin .sub (.const (.sc (.int .u64 64))) (tq 13)),
   oo 15 (.bin .shr (tq 12) (tq 14)),
   oo 16 (.bin .or (tq 11) (tq 15)),
   oo 4 (.move (tq 16) false)])
 .ret)))⟩
def zhK:Hint:=⟨[],[],[none],[],[],false,false⟩
def zfb:Nat→Sh:=zP []
def ze2 (L:Nat):CBC:=noC
def zjE {β:Type} (L:Nat) (p0 p1:Int) (k_fin:Int→Option β):Option β :=
 lt (IntKind.wrap .u64 p1) fun x0 =>
 lt (zIm .u64 x0 (63:Int)) fun x1 =>
 chk (0≤x1) (
 lt (zre .u64 p0 x1) fun x2 =>
 lt (IntKind.wrap .u64 (((64:Int):Int) - x1)) fun x3 =>
 chk (0≤x3) (
 lt (znO .u64 p0 x3) fun x4 =>
 lt (ior .u64 x2 x4) fun x5 =>
 k_fin x5))
theorem zpz {β:Type} (L:Nat) (p0 p1:Int) (k:KK β):zt zfb (ze2 L) L zdh [(V.sc (.int .u64 p0)),(V.sc (.int .i64 p1))] [] k=zjE L p0 p1 (fun p0=>k (V.sc (.int .u64 p0)) []):=by kernel_rfl
abbrev xH:=∀ (β:Type),Nat→Int→Int→(Int→Option β)→Option β
def yc (β:Type) (L:Nat) (p0 p1:Int) (k_fin:Int→Option β):Option β:=zjE L p0 p1 k_fin
def zch (yc:xH) (L:Nat) (β:Type) (args:List V) (bor:Bor) (k:KK β):Option β:=match args,bor with
 | [a0,a1],[]=>aI .u64 a0 fun p0=>aI .i64 a1 fun p1=>yc β L p0 p1 (fun p0=>k (V.sc (.int .u64 p0)) [])
 | _,_=>none
theorem zpD (L:Nat) (β:Type) (args:List V) (bor:Bor) (k:KK β) (r:β) (h:zch yc L β args bor k=some r):zt zfb (ze2 L) L zdh args bor k=some r:=by
 unfold zch at h
 split at h
 ·have q:=zaC h; clear h; obtain ⟨p0,rfl,h⟩:=q
  have q:=zaC h; clear h; obtain ⟨p1,rfl,h⟩:=q
  exact (zpz L p0 p1 k).trans h
 ·cases h
def zeU:CC:=(.seq (.reg [oo 7 (.bin .lss (tq 6) (tq 5))])
 (.seq (.cond (tq 7)
 .skip
 (.seq (.mask (bl 20 82) (bl 4533176671146011638300671 82))
 (.exit 0)))
 (.seq (.block 1 (.seq (.reg [oo 8 (.indexAddrA 4 1 (tq 2) (.const (.sc (.int .i64 0)))),
   oo 9 (.load false 1 (tq 8) false),
   oo 10 (.indexAddrA 4 1 (tq 2) (.const (.sc (.int .i64 1)))),
   oo 11 (.load false 1 (tq 10) false),
   oo 12 (.bin .add (tq 9) (tq 11)),
   oo 13 (.indexAddrA 4 1 (tq 2) (.const (.sc (.int .i64 0)))),
   oz (.store 1 (tq 13) (tq 12))])
 (.seq (.reg [oo 14 (.indexAddrA 4 1 (tq 2) (.const (.sc (.int .i64 1)))),
   oo 15 (.load false 1 (tq 14) false),
   oo 16 (.call 118 [((tq 15),0),((.const (.sc (.int .i64 13))),0)] []),
   oo 17 (.indexAddrA 4 1 (tq 2) (.const (.sc (.int .i64 1)))),
   oz (.store 1 (tq 17) (tq 16))])
 (.seq (.reg [oo 18 (.indexAddrA 4 1 (tq 2) (.const (.sc (.int .i64 1)))),
   oo 19 (.load false 1 (tq 18) false),
   oo 20 (.indexAddrA 4 1 (tq 2) (.const (.sc (.int .i64 0)))),
   oo 21 (.load false 1 (tq 20) false),
   oo 22 (.bin .xor (tq 19) (tq 21)),
   oo 23 (.indexAddrA 4 1 (tq 2) (.const (.sc (.int .i64 1)))),
   oz (.store 1 (tq 23) (tq 22))])
 (.seq (.reg [oo 24 (.indexAddrA 4 1 (tq 2) (.const (.sc (.int .i64 0)))),
   oo 25 (.load false 1 (tq 24) false),
   oo 26 (.call 118 [((tq 25),0),((.const (.sc (.int .i64 32))),0)] []),
   oo 27 (.indexAddrA 4 1 (tq 2) (.const (.sc (.int .i64 0)))),
   oz (.store 1 (tq 27) (tq 26))])
 (.seq (.reg [oo 28 (.indexAddrA 4 1 (tq 2) (.const (.sc (.int .i64 2)))),
   oo 29 (.load false 1 (tq 28) false),
   oo 30 (.indexAddrA 4 1 (tq 2) (.const (.sc (.int .i64 3)))),
   oo 31 (.load false 1 (tq 30) false),
   oo 32 (.bin .add (tq 29) (tq 31)),
   oo 33 (.indexAddrA 4 1 (tq 2) (.const (.sc (.int .i64 2)))),
   oz (.store 1 (tq 33) (tq 32))])
 (.seq (.reg [oo 34 (.indexAddrA 4 1 (tq 2) (.const (.sc (.int .i64 3)))),
   oo 35 (.load false 1 (tq 34) false),
   oo 36 (.call 118 [((tq 35),0),((.const (.sc (.int .i64 16))),0)] []),
   oo 37 (.indexAddrA 4 1 (tq 2) (.const (.sc (.int .i64 3)))),
   oz (.store 1 (tq 37) (tq 36))])
 (.seq (.reg [oo 38 (.indexAddrA 4 1 (tq 2) (.const (.sc (.int .i64 3)))),
   oo 39 (.load false 1 (tq 38) false),
   oo 40 (.indexAddrA 4 1 (tq 2) (.const (.sc (.int .i64 2)))),
   oo 41 (.load false 1 (tq 40) false),
   oo 42 (.bin .xor (tq 39) (tq 41)),
   oo 43 (.indexAddrA 4 1 (tq 2) (.const (.sc (.int .i64 3)))),
   oz (.store 1 (tq 43) (tq 42))])
 (.seq (.reg [oo 44 (.indexAddrA 4 1 (tq 2) (.const (.sc (.int .i64 0)))),
   oo 45 (.load false 1 (tq 44) false),
   oo 46 (.indexAddrA 4 1 (tq 2) (.const (.sc (.int .i64 3)))),
   oo 47 (.load false 1 (tq 46) false),
   oo 48 (.bin .add (tq 45) (tq 47)),
   oo 49 (.indexAddrA 4 1 (tq 2) (.const (.sc (.int .i64 0)))),
   oz (.store 1 (tq 49) (tq 48))])
 (.seq (.reg [oo 50 (.indexAddrA 4 1 (tq 2) (.const (.sc (.int .i64 3)))),
   oo 51 (.load false 1 (tq 50) false),
   oo 52 (.call 118 [((tq 51),0),((.const (.sc (.int .i64 21))),0)] []),
   oo 53 (.indexAddrA 4 1 (tq 2) (.const (.sc (.int .i64 3)))),
   oz (.store 1 (tq 53) (tq 52))])
 (.seq (.reg [oo 54 (.indexAddrA 4 1 (tq 2) (.const (.sc (.int .i64 3)))),
   oo 55 (.load false 1 (tq 54) false),
   oo 56 (.indexAddrA 4 1 (tq 2) (.const (.sc (.int .i64 0)))),
   oo 57 (.load false 1 (tq 56) false),
   oo 58 (.bin .xor (tq 55) (tq 57)),
   oo 59 (.indexAddrA 4 1 (tq 2) (.const (.sc (.int .i64 3)))),
   oz (.store 1 (tq 59) (tq 58))])
 (.seq (.reg [oo 60 (.indexAddrA 4 1 (tq 2) (.const (.sc (.int .i64 2)))),
   oo 61 (.load false 1 (tq 60) false),
   oo 62 (.indexAddrA 4 1 (tq 2) (.const (.sc (.int .i64 1)))),
   oo 63 (.load false 1 (tq 62) false),
   oo 64 (.bin .add (tq 61) (tq 63)),
   oo 65 (.indexAddrA 4 1 (tq 2) (.const (.sc (.int .i64 2)))),
   oz (.store 1 (tq 65) (tq 64))])
 (.seq (.reg [oo 66 (.indexAddrA 4 1 (tq 2) (.const (.sc (.int .i64 1)))),
   oo 67 (.load false 1 (tq 66) false),
   oo 68 (.call 118 [((tq 67),0),((.const (.sc (.int .i64 17))),0)] []),
   oo 69 (.indexAddrA 4 1 (tq 2) (.const (.sc (.int .i64 1)))),
   oz (.store 1 (tq 69) (tq 68))])
 (.seq (.reg [oo 70 (.indexAddrA 4 1 (tq 2) (.const (.sc (.int .i64 1)))),
   oo 71 (.load false 1 (tq 70) false),
   oo 72 (.indexAddrA 4 1 (tq 2) (.const (.sc (.int .i64 2)))),
   oo 73 (.load false 1 (tq 72) false),
   oo 74 (.bin .xor (tq 71) (tq 73)),
   oo 75 (.indexAddrA 4 1 (tq 2) (.const (.sc (.int .i64 1)))),
   oz (.store 1 (tq 75) (tq 74))])
 (.reg [oo 76 (.indexAddrA 4 1 (tq 2) (.const (.sc (.int .i64 2)))),
   oo 77 (.load false 1 (tq 76) false),
   oo 78 (.call 118 [((tq 77),0),((.const (.sc (.int .i64 32))),0)] []),
   oo 79 (.indexAddrA 4 1 (tq 2) (.const (.sc (.int .i64 2)))),
   oz (.store 1 (tq 79) (tq 78))])))))))))))))))
 (.reg [oo 80 (.bin .add (tq 6) (.const (.sc (.int .i64 1)))),
   oo 6 (.move (tq 80) false)]))))
def zou:CC:=(.seq (.reg [oo 81 (.load true 4 (tq 2) false),
   oz (.store 4 (tq 4) (tq 81))])
 .ret)
def zeO:CF:=⟨82,[.cell 4 true 4],
 (.seq (.reg [oo 2 (.box true (tq 0)),
   oo 4 (.alloc true [(.sc (.int .u64 0)),(.sc (.int .u64 0)),(.sc (.int .u64 0)),(.sc (.int .u64 0))])])
 (.seq (.seq (.reg [oo 5 (.move (tq 1) false),
   oo 6 (.move (.const (.sc (.int .i64 0))) false)])
 (.block 0 (.loop (bl 116 82) (bl 4533176671146011638300671 82)
 zeU)))
 zou))⟩
def zsU:Hint:=⟨[],[],[none,some ((bl 116 82),(bl 4533176671146011638300671 82)),none,some ((bl 20 82),(bl 4533176671146011638300671 82)),none,none],[],[],false,false⟩
def zcn:Nat→Sh:=zP [(9,(.int .u64)),(11,(.int .u64)),(15,(.int .u64)),(19,(.int .u64)),(21,(.int .u64)),(25,(.int .u64)),(29,(.int .u64)),(31,(.int .u64)),(35,(.int .u64)),(39,(.int .u64)),(41,(.int .u64)),(45,(.int .u64)),(47,(.int .u64)),(51,(.int .u64)),(55,(.int .u64)),(57,(.int .u64)),(61,(.int .u64)),(63,(.int .u64)),(67,(.int .u64)),(71,(.int .u64)),(73,(.int .u64)),(77,(.int .u64))]
def zcp (yc:xH) (L:Nat):CBC:=(zw 118 (zch yc L) noC)
def zhV:St→St:=zae 0 (bl 116 82) (bl 4533176671146011638300671 82)
def zfI (p5 p6:Int) (b2:List V) (zMa zMb zMc zMd:Int):St:=⟨(jn 2 ((V.ptr 2 0)::(jn 1 ((V.ptr 4 0)::((V.sc (.int .i64 p5))::((V.sc (.int .i64 p6))::(jn 75 []))))))),(gn 2 ((.live true b2)::(gn 1 ((.live true [(V.sc (.int .u64 zMa)),(V.sc (.int .u64 zMb)),(V.sc (.int .u64 zMc)),(V.sc (.int .u64 zMd))])::(gn 77 [])))))⟩
def zlX (b2:List V) (zMa zMb zMc zMd:Int):St:=⟨(jn 2 ((V.ptr 2 0)::(jn 1 ((V.ptr 4 0)::(jn 77 []))))),(gn 2 ((.live true b2)::(gn 1 ((.live true [(V.sc (.int .u64 zMa)),(V.sc (.int .u64 zMb)),(V.sc (.int .u64 zMc)),(V.sc (.int .u64 zMd))])::(gn 77 [])))))⟩
def zrJ {β:Type} (yc:xH) (L:Nat) (p0:List V) (p1:Int) (k_hbaba:Int→Int→List V→Int→Int→Int→Int→Option β):Option β :=
 k_hbaba p1 (0:Int) p0 (0:Int) (0:Int) (0:Int) (0:Int)
theorem zBb {β:Type} (yc:xH) (L:Nat) (p0:List V) (p1:Int) (k:KK β):zt zcn (zcp yc L) L zeO [(V.agg p0),(V.sc (.int .i64 p1))] [] k=zrJ yc L p0 p1 (fun p5 p6 b2 zMa zMb zMc zMd=>yE (yo zcn (zcp yc L) 0 L zeU) zhV L (zfI p5 p6 b2 zMa zMb zMc zMd) (xG 0 (yU (yo zcn (zcp yc L) 0 L zou) (xZ 0 (CF.res zeO) k)))):=by kernel_rfl
def zfD {β:Type} (yc:xH) (L:Nat) (p5 p6:Int) (b2:List V) (zMa zMb zMc zMd:Int) (k_hbaba:Int→Int→List V→Int→Int→Int→Int→Option β) (k_x0:List V→Int→Int→Int→Int→Option β):Option β :=
 ifb (decide (p6 < p5)) (
 cI .u64 b2 0 fun v0 =>
 cI .u64 b2 1 fun v1 =>
 lt (IntKind.wrap .u64 ((v0:Int)+v1)) fun x2 =>
 chk (1=1∧0+1≤(List.length b2)) (
 lt (xg b2 0 [(V.sc (.int .u64 x2))]) fun r3 =>
 cI .u64 r3 1 fun v4 =>
 yc β L v4 (13:Int) (fun v5 =>
 chk (1=1∧1+1≤(List.length r3)) (
 lt (xg r3 1 [(V.sc (.int .u64 v5))]) fun r6 =>
 cI .u64 r6 1 fun v7 =>
 cI .u64 r6 0 fun v8 =>
 lt (za4 .u64 v7 v8) fun x9 =>
 chk (1=1∧1+1≤(List.length r6)) (
 lt (xg r6 1 [(V.sc (.int .u64 x9))]) fun r10 =>
 cI .u64 r10 0 fun v11 =>
 yc β L v11 (32:Int) (fun v12 =>
 chk (1=1∧0+1≤(List.length r10)) (
 lt (xg r10 0 [(V.sc (.int .u64 v12))]) fun r13 =>
 cI .u64 r13 2 fun v14 =>
 cI .u64 r13 3 fun v15 =>
 lt (IntKind.wrap .u64 ((v14:Int)+v15)) fun x16 =>
 chk (1=1∧2+1≤(List.length r13)) (
 lt (xg r13 2 [(V.sc (.int .u64 x16))]) fun r17 =>
 cI .u64 r17 3 fun v18 =>
 yc β L v18 (16:Int) (fun v19 =>
 chk (1=1∧3+1≤(List.length r17)) (
 lt (xg r17 3 [(V.sc (.int .u64 v19))]) fun r20 =>
 cI .u64 r20 3 fun v21 =>
 cI .u64 r20 2 fun v22 =>
 lt (za4 .u64 v21 v22) fun x23 =>
 chk (1=1∧3+1≤(List.length r20)) (
 lt (xg r20 3 [(V.sc (.int .u64 x23))]) fun r24 =>
 cI .u64 r24 0 fun v25 =>
 cI .u64 r24 3 fun v26 =>
 lt (IntKind.wrap .u64 ((v25:Int)+v26)) fun x27 =>
 chk (1=1∧0+1≤(List.length r24)) (
 lt (xg r24 0 [(V.sc (.int .u64 x27))]) fun r28 =>
 cI .u64 r28 3 fun v29 =>
 yc β L v29 (21:Int) (fun v30 =>
 chk (1=1∧3+1≤(List.length r28)) (
 lt (xg r28 3 [(V.sc (.int .u64 v30))]) fun r31 =>
 cI .u64 r31 3 fun v32 =>
 cI .u64 r31 0 fun v33 =>
 lt (za4 .u64 v32 v33) fun x34 =>
 chk (1=1∧3+1≤(List.length r31)) (
 lt (xg r31 3 [(V.sc (.int .u64 x34))]) fun r35 =>
 cI .u64 r35 2 fun v36 =>
 cI .u64 r35 1 fun v37 =>
 lt (IntKind.wrap .u64 ((v36:Int)+v37)) fun x38 =>
 chk (1=1∧2+1≤(List.length r35)) (
 lt (xg r35 2 [(V.sc (.int .u64 x38))]) fun r39 =>
 cI .u64 r39 1 fun v40 =>
 yc β L v40 (17:Int) (fun v41 =>
 chk (1=1∧1+1≤(List.length r39)) (
 lt (xg r39 1 [(V.sc (.int .u64 v41))]) fun r42 =>
 cI .u64 r42 1 fun v43 =>
 cI .u64 r42 2 fun v44 =>
 lt (za4 .u64 v43 v44) fun x45 =>
 chk (1=1∧1+1≤(List.length r42)) (
 lt (xg r42 1 [(V.sc (.int .u64 x45))]) fun r46 =>
 cI .u64 r46 2 fun v47 =>
 yc β L v47 (32:Int) (fun v48 =>
 chk (1=1∧2+1≤(List.length r46)) (
 lt (xg r46 2 [(V.sc (.int .u64 v48))]) fun r49 =>
 lt (IntKind.wrap .i64 ((p6:Int)+(1:Int))) fun x50 =>
 k_hbaba p5 x50 r49 zMa zMb zMc zMd))))))))))))))))))))) (
 k_x0 b2 zMa zMb zMc zMd)
theorem zvR {β:Type} (yc:xH) (L:Nat) (p5 p6:Int) (b2:List V) (zMa zMb zMc zMd:Int) (X:St→Option β) (K:KT β):yo zcn (zcp yc L) 0 L zeU (zfI p5 p6 b2 zMa zMb zMc zMd) (zcr zhV X K)=zfD yc L p5 p6 b2 zMa zMb zMc zMd (fun p5 p6 b2 zMa zMb zMc zMd=>X (zfI p5 p6 b2 zMa zMb zMc zMd)) (fun b2 zMa zMb zMc zMd=>K (.exit 0) (zlX b2 zMa zMb zMc zMd)):=by kernel_rfl
def zjU {β:Type} (yc:xH) (L:Nat) (b2:List V) (zMa zMb zMc zMd:Int) (k_fin:List V→Option β):Option β :=
 chk (0+4≤(List.length b2)) (
 chk ((List.length (List.take 4 b2))=4∧0+4≤4) (
 lt (xg [(V.sc (.int .u64 zMa)),(V.sc (.int .u64 zMb)),(V.sc (.int .u64 zMc)),(V.sc (.int .u64 zMd))] 0 (List.take 4 b2)) fun r51 =>
 chk (0=0∧(List.length r51)=4∧4≠0) (
 k_fin r51)))
theorem ztP {β:Type} (yc:xH) (L:Nat) (b2:List V) (zMa zMb zMc zMd:Int) (k:KK β):(xG 0 (yU (yo zcn (zcp yc L) 0 L zou) (xZ 0 (CF.res zeO) k))) (.exit 0) (zlX b2 zMa zMb zMc zMd)=zjU yc L b2 zMa zMb zMc zMd (fun p0=>k (V.agg p0) []):=by kernel_rfl
def zfw {β:Type} (yc:xH) (L:Nat) (k_x0:List V→Int→Int→Int→Int→Option β):Nat→Int→Int→List V→Int→Int→Int→Int→Option β
 | 0,_,_,_,_,_,_,_=>none
 | n+1,p5,p6,b2,zMa,zMb,zMc,zMd=>zfD yc L p5 p6 b2 zMa zMb zMc zMd (fun p5 p6 b2 zMa zMb zMc zMd=>zfw yc L k_x0 n p5 p6 b2 zMa zMb zMc zMd) k_x0
theorem zog {β:Type} (yc:xH) (L:Nat) (K:KT β):∀ (n:Nat) (p5 p6:Int) (b2:List V) (zMa zMb zMc zMd:Int),yE (yo zcn (zcp yc L) 0 L zeU) zhV n (zfI p5 p6 b2 zMa zMb zMc zMd) K=zfw yc L (fun b2 zMa zMb zMc zMd=>K (.exit 0) (zlX b2 zMa zMb zMc zMd)) n p5 p6 b2 zMa zMb zMc zMd:=by
 intro n
 induction n with
 | zero=>intros; rfl
 | succ n ih =>
  intro p5 p6 b2 zMa zMb zMc zMd
  refine (zvR yc L p5 p6 b2 zMa zMb zMc zMd (fun σ=>yE (yo zcn (zcp yc L) 0 L zeU) zhV n σ K) K).trans ?_
  simp only [ih]
  rfl
def zmP {β:Type} (yc:xH) (L:Nat) (p0:List V) (p1:Int) (k_fin:List V→Option β):Option β :=
 zrJ yc L p0 p1 (fun p5 p6 b2 zMa zMb zMc zMd=>zfw yc L (fun b2 zMa zMb zMc zMd=>zjU yc L b2 zMa zMb zMc zMd k_fin) L p5 p6 b2 zMa zMb zMc zMd)
theorem zAt {β:Type} (yc:xH) (L:Nat) (p0:List V) (p1:Int) (k:KK β):zt zcn (zcp yc L) L zeO [(V.agg p0),(V.sc (.int .i64 p1))] [] k=zmP yc L p0 p1 (fun p0=>k (V.agg p0) []):=by
 refine (zBb yc L p0 p1 k).trans ?_
 unfold zmP
 first
  | (simp only [zog,ztP]; done)
  | (simp only [zog]; rfl)
abbrev zaW:=∀ (β:Type),Nat→List V→Int→(List V→Option β)→Option β
def xp (β:Type) (L:Nat) (p0:List V) (p1:Int) (k_fin:List V→Option β):Option β:=zmP yc L p0 p1 k_fin
def zjY (xp:zaW) (L:Nat) (β:Type) (args:List V) (bor:Bor) (k:KK β):Option β:=match args,bor with
 | [a0,a1],[]=>aG a0 fun p0=>aI .i64 a1 fun p1=>xp β L p0 p1 (fun p0=>k (V.agg p0) [])
 | _,_=>none
theorem zAw (L:Nat) (β:Type) (args:List V) (bor:Bor) (k:KK β) (r:β) (h:zjY xp L β args bor k=some r):zt zcn (zcp yc L) L zeO args bor k=some r:=by
 unfold zjY at h
 split at h
 ·have q:=xY h; clear h; obtain ⟨p0,rfl,h⟩:=q
  have q:=zaC h; clear h; obtain ⟨p1,rfl,h⟩:=q
  exact (zAt yc L p0 p1 k).trans h
 ·cases h
def zlQ:CF:=⟨18,[.cell 4 true 4],
 (.seq (.reg [oo 2 (.box true (tq 0)),
   oo 4 (.alloc true [(.sc (.int .u64 0)),(.sc (.int .u64 0)),(.sc (.int .u64 0)),(.sc (.int .u64 0))])])
 (.seq (.reg [oo 5 (.indexAddrA 4 1 (tq 2) (.const (.sc (.int .i64 3)))),
   oo 6 (.load false 1 (tq 5) false),
   oo 7 (.move (tq 1) false),
   oo 8 (.bin .xor (tq 6) (tq 7)),
   oo 9 (.indexAddrA 4 1 (tq 2) (.const (.sc (.int .i64 3)))),
   oz (.store 1 (tq 9) (tq 8))])
 (.seq (.reg [oo 10 (.load true 4 (tq 2) false),
   oo 11 (.call 113 [((tq 10),0),((.const (.sc (.int .i64 2))),0)] []),
   oz (.store 4 (tq 2) (tq 11))])
 (.seq (.reg [oo 12 (.indexAddrA 4 1 (tq 2) (.const (.sc (.int .i64 0)))),
   oo 13 (.load false 1 (tq 12) false),
   oo 14 (.move (tq 1) false),
   oo 15 (.bin .xor (tq 13) (tq 14)),
   oo 16 (.indexAddrA 4 1 (tq 2) (.const (.sc (.int .i64 0)))),
   oz (.store 1 (tq 16) (tq 15))])
 (.seq (.reg [oo 17 (.load true 4 (tq 2) false),
   oz (.store 4 (tq 4) (tq 17))])
 .ret)))))⟩
def zsC:Hint:=⟨[],[],[none],[],[],false,false⟩
def zp1:Nat→Sh:=zP [(6,(.int .u64)),(13,(.int .u64))]
def zpV (xp:zaW) (L:Nat):CBC:=(zw 113 (zjY xp L) noC)
def zrl {β:Type} (xp:zaW) (L:Nat) (p0:List V) (p1:Int) (k_fin:List V→Option β):Option β :=
 cI .u64 p0 3 fun v0 =>
 lt (za4 .u64 v0 p1) fun x1 =>
 chk (1=1∧3+1≤(List.length p0)) (
 lt (xg p0 3 [(V.sc (.int .u64 x1))]) fun r2 =>
 chk (0+4≤(List.length r2)) (
 xp β L (List.take 4 r2) (2:Int) (fun v3 =>
 chk ((List.length v3)=4∧0+4≤(List.length r2)) (
 lt (xg r2 0 v3) fun r4 =>
 cI .u64 r4 0 fun v5 =>
 lt (za4 .u64 v5 p1) fun x6 =>
 chk (1=1∧0+1≤(List.length r4)) (
 lt (xg r4 0 [(V.sc (.int .u64 x6))]) fun r7 =>
 chk (0+4≤(List.length r7)) (
 chk ((List.length (List.take 4 r7))=4∧0+4≤4) (
 lt (xg [(V.sc (.int .u64 (0:Int))),(V.sc (.int .u64 (0:Int))),(V.sc (.int .u64 (0:Int))),(V.sc (.int .u64 (0:Int)))] 0 (List.take 4 r7)) fun r8 =>
 chk (0=0∧(List.length r8)=4∧4≠0) (
 k_fin r8))))))))
theorem zAX {β:Type} (xp:zaW) (L:Nat) (p0:List V) (p1:Int) (k:KK β):zt zp1 (zpV xp L) L zlQ [(V.agg p0),(V.sc (.int .u64 p1))] [] k=zrl xp L p0 p1 (fun p0=>k (V.agg p0) []):=by kernel_rfl
abbrev zb2:=∀ (β:Type),Nat→List V→Int→(List V→Option β)→Option β
def yx (β:Type) (L:Nat) (p0:List V) (p1:Int) (k_fin:List V→Option β):Option β:=zrl xp L p0 p1 k_fin
def zmR (yx:zb2) (L:Nat) (β:Type) (args:List V) (bor:Bor) (k:KK β):Option β:=match args,bor with
 | [a0,a1],[]=>aG a0 fun p0=>aI .u64 a1 fun p1=>yx β L p0 p1 (fun p0=>k (V.agg p0) [])
 | _,_=>none
theorem zAT (L:Nat) (β:Type) (args:List V) (bor:Bor) (k:KK β) (r:β) (h:zmR yx L β args bor k=some r):zt zp1 (zpV xp L) L zlQ args bor k=some r:=by
 unfold zmR at h
 split at h
 ·have q:=xY h; clear h; obtain ⟨p0,rfl,h⟩:=q
  have q:=zaC h; clear h; obtain ⟨p1,rfl,h⟩:=q
  exact (zAX xp L p0 p1 k).trans h
 ·cases h
def zfs:CC:=(.seq (.reg [oo 26 (.bin .lss (tq 25) (tq 24))])
 (.seq (.cond (tq 26)
 .skip
 (.seq (.mask (bl 98 69) (bl 590295810152547221371 69))
 (.exit 0)))
 (.seq (.block 1 (.seq (.reg [oo 27 (.move (tq 25) false),
   oo 7 (.move (tq 27) false)])
 (.dreg [] [(oo 28 (.load true 4 (tq 5) false),ql 5 [] []),
   (oo 29 (.move (tq 1) false),q0),
   (oo 30 (.move (tq 7) false),q0),
   (oo 31 (.bin .mul (.const (.sc (.int .i64 8))) (tq 30)),q0),
   (oo 32 (.move (tq 7) false),q0),
   (oo 33 (.bin .mul (.const (.sc (.int .i64 8))) (tq 32)),q0),
   (oo 34 (.bin .add (tq 33) (.const (.sc (.int .i64 8)))),q0),
   (oo 35 (.sliceS 1 (tq 29) (some (tq 31)) (some (tq 34)) none),q0),
   (oo 36 (.call 112 [((tq 35),0)] []),qc [5] []),
   (oo 37 (.call 111 [((tq 28),0),((tq 36),0)] []),q0),
   (oz (.store 4 (tq 5) (tq 37)),q0)])))
 (.reg [oo 38 (.bin .add (tq 25) (.const (.sc (.int .i64 1)))),
   oo 25 (.move (tq 38) false)]))))
def zpR:CC:=(.seq (.dreg [] [(oo 39 (.load true 4 (tq 5) false),ql 5 [] []),
   (oo 40 (.move (tq 1) false),q0),
   (oo 41 (.move (tq 6) false),q0),
   (oo 42 (.bin .mul (.const (.sc (.int .i64 8))) (tq 41)),q0),
   (oo 43 (.sliceS 1 (tq 40) (some (tq 42)) none none),q0),
   (oo 44 (.call 112 [((tq 43),0)] []),qc [5] []),
   (oo 45 (.move (tq 1) false),q0),
   (oo 46 (.lenS (tq 45)),q0),
   (oo 47 (.bin .rem (tq 46) (.const (.sc (.int .i64 256)))),q0),
   (oo 48 (.conv .u64 (tq 47)),q0),
   (oo 49 (.bin .shl (tq 48) (.const (.sc (.int .u64 56)))),q0),
   (oo 50 (.bin .or (tq 44) (tq 49)),q0),
   (oo 51 (.call 111 [((tq 39),0),((tq 50),0)] []),q0),
   (oz (.store 4 (tq 5) (tq 51)),q0)])
 (.seq (.reg [oo 52 (.indexAddrA 4 1 (tq 5) (.const (.sc (.int .i64 2)))),
   oo 53 (.load false 1 (tq 52) false),
   oo 54 (.bin .xor (tq 53) (.const (.sc (.int .u64 255)))),
   oo 55 (.indexAddrA 4 1 (tq 5) (.const (.sc (.int .i64 2)))),
   oz (.store 1 (tq 55) (tq 54))])
 (.seq (.reg [oo 56 (.load true 4 (tq 5) false),
   oo 57 (.call 113 [((tq 56),0),((.const (.sc (.int .i64 4))),0)] []),
   oz (.store 4 (tq 5) (tq 57))])
 (.seq (.reg [oo 58 (.indexAddrA 4 1 (tq 5) (.const (.sc (.int .i64 0)))),
   oo 59 (.load false 1 (tq 58) false),
   oo 60 (.indexAddrA 4 1 (tq 5) (.const (.sc (.int .i64 1)))),
   oo 61 (.load false 1 (tq 60) false),
   oo 62 (.bin .xor (tq 59) (tq 61)),
   oo 63 (.indexAddrA 4 1 (tq 5) (.const (.sc (.int .i64 2)))),
   oo 64 (.load false 1 (tq 63) false),
   oo 65 (.bin .xor (tq 62) (tq 64)),
   oo 66 (.indexAddrA 4 1 (tq 5) (.const (.sc (.int .i64 3)))),
   oo 67 (.load false 1 (tq 66) false),
   oo 68 (.bin .xor (tq 65) (tq 67)),
   oo 4 (.move (tq 68) false)])
 .ret))))
def zh1:CF:=⟨69,[.tmp 4],
 (.seq (.reg [oo 2 (.box true (tq 0)),
   oo 4 (.move (.const (.sc (.int .u64 0))) false)])
 (.seq (.reg [oo 8 (.indexAddrA 2 1 (tq 2) (.const (.sc (.int .i64 0)))),
   oo 9 (.load false 1 (tq 8) false),
   oo 10 (.bin .xor (tq 9) (.const (.sc (.int .u64 8317987319222330741)))),
   oo 11 (.indexAddrA 2 1 (tq 2) (.const (.sc (.int .i64 1)))),
   oo 12 (.load false 1 (tq 11) false),
   oo 13 (.bin .xor (tq 12) (.const (.sc (.int .u64 7237128888997146477)))),
   oo 14 (.indexAddrA 2 1 (tq 2) (.const (.sc (.int .i64 0)))),
   oo 15 (.load false 1 (tq 14) false),
   oo 16 (.bin .xor (tq 15) (.const (.sc (.int .u64 7816392313619706465)))),
   oo 17 (.indexAddrA 2 1 (tq 2) (.const (.sc (.int .i64 1)))),
   oo 18 (.load false 1 (tq 17) false),
   oo 19 (.bin .xor (tq 18) (.const (.sc (.int .u64 8387220255154660723)))),
   oo 20 (.build [(.sc (.int .u64 0)),(.sc (.int .u64 0)),(.sc (.int .u64 0)),(.sc (.int .u64 0))] [(0,1,(tq 10)),(1,1,(tq 13)),(2,1,(tq 16)),(3,1,(tq 19))]),
   oo 5 (.alloc true [(.sc (.int .u64 0)),(.sc (.int .u64 0)),(.sc (.int .u64 0)),(.sc (.int .u64 0))]),
   oz (.store 4 (tq 5) (tq 20))])
 (.seq (.reg [oo 21 (.move (tq 1) false),
   oo 22 (.lenS (tq 21)),
   oo 23 (.bin .quo (tq 22) (.const (.sc (.int .i64 8)))),
   oo 6 (.move (tq 23) false)])
 (.seq (.seq (.reg [oo 24 (.move (tq 6) false),
   oo 25 (.move (.const (.sc (.int .i64 0))) false)])
 (.block 0 (.loop (bl 50331746 69) (bl 590295810152547221371 69)
 zfs)))
 zpR))))⟩
def zw9:Hint:=⟨[],[],[none,some ((bl 50331746 69),(bl 590295810152547221371 69)),none,some ((bl 98 69),(bl 590295810152547221371 69)),none,none],[],[],false,false⟩
def zeh:Nat→Sh:=zP [(9,(.int .u64)),(12,(.int .u64)),(15,(.int .u64)),(18,(.int .u64)),(53,(.int .u64)),(59,(.int .u64)),(61,(.int .u64)),(64,(.int .u64)),(67,(.int .u64))]
def zd2 (xu:zbU) (yx:zb2) (xp:zaW) (L:Nat):CBC:=(zw 113 (zjY xp L) (zw 111 (zmR yx L) (zw 112 (zm2 xu L) noC)))
def ziX:St→St:=zae 0 (bl 50331746 69) (bl 590295810152547221371 69)
def zgh (p1:List (List V)) (p6 p24 p25:Int) (b5:List V):St:=⟨(jn 1 ((V.sl 1 p1)::(jn 3 ((V.ptr 5 0)::((V.sc (.int .i64 p6))::(jn 17 ((V.sc (.int .i64 p24))::((V.sc (.int .i64 p25))::(jn 43 []))))))))),(gn 5 ((.live true b5)::(gn 63 [])))⟩
def zpM (p1:List (List V)) (p6:Int) (b5:List V):St:=⟨(jn 1 ((V.sl 1 p1)::(jn 3 ((V.ptr 5 0)::((V.sc (.int .i64 p6))::(jn 62 [])))))),(gn 5 ((.live true b5)::(gn 63 [])))⟩
def zwQ {β:Type} (xu:zbU) (yx:zb2) (xp:zaW) (L:Nat) (p0:List V) (p1:List (List V)) (k_hbbbaba:List (List V)→Int→Int→Int→List V→Option β):Option β :=
 cI .u64 p0 0 fun v0 =>
 lt (za4 .u64 v0 (8317987319222330741:Int)) fun x1 =>
 cI .u64 p0 1 fun v2 =>
 lt (za4 .u64 v2 (7237128888997146477:Int)) fun x3 =>
 cI .u64 p0 0 fun v4 =>
 lt (za4 .u64 v4 (7816392313619706465:Int)) fun x5 =>
 cI .u64 p0 1 fun v6 =>
 lt (za4 .u64 v6 (8387220255154660723:Int)) fun x7 =>
 lt [(V.sc (.int .u64 x1)),(V.sc (.int .u64 x3)),(V.sc (.int .u64 x5)),(V.sc (.int .u64 x7))] fun r8 =>
 lt (IntKind.wrap .i64 (Int.tdiv ((List.length p1:Nat):Int) (8:Int))) fun x9 =>
 k_hbbbaba p1 x9 x9 (0:Int) r8
theorem zDT {β:Type} (xu:zbU) (yx:zb2) (xp:zaW) (L:Nat) (p0:List V) (p1:List (List V)) (k:KK β):zt zeh (zd2 xu yx xp L) L zh1 [(V.agg p0),(V.sl 1 p1)] [] k=zwQ xu yx xp L p0 p1 (fun p1 p6 p24 p25 b5=>yE (yo zeh (zd2 xu yx xp L) 0 L zfs) ziX L (zgh p1 p6 p24 p25 b5) (xG 0 (yU (yo zeh (zd2 xu yx xp L) 0 L zpR) (xZ 0 (CF.res zh1) k)))):=by kernel_rfl
def zmX {β:Type} (xu:zbU) (yx:zb2) (xp:zaW) (L:Nat) (p1:List (List V)) (p6 p24 p25:Int) (b5:List V) (k_hbbbaba:List (List V)→Int→Int→Int→List V→Option β) (k_x0:List (List V)→Int→List V→Option β):Option β :=
 ifb (decide (p25 < p24)) (
 chk (0+4≤(List.length b5)) (
 lt (IntKind.wrap .i64 (((8:Int):Int) * p25)) fun x10 =>
 lt (IntKind.wrap .i64 (((8:Int):Int) * p25)) fun x11 =>
 lt (IntKind.wrap .i64 ((x11:Int)+(8:Int))) fun x12 =>
 chk (0≤x12∧x12≤(((List.length p1):Nat):Int)) (
 chk (0≤x10∧x10≤(((Int.toNat x12):Nat):Int)) (
 xu β L (List.take ((Int.toNat x12) - (Int.toNat x10)) (List.drop (Int.toNat x10) p1)) (fun v13 =>
 yx β L (List.take 4 b5) v13 (fun v14 =>
 chk ((List.length v14)=4∧0+4≤(List.length b5)) (
 lt (xg b5 0 v14) fun r15 =>
 lt (IntKind.wrap .i64 ((p25:Int)+(1:Int))) fun x16 =>
 k_hbbbaba p1 p6 p24 x16 r15))))))) (
 k_x0 p1 p6 b5)
theorem zxl {β:Type} (xu:zbU) (yx:zb2) (xp:zaW) (L:Nat) (p1:List (List V)) (p6 p24 p25:Int) (b5:List V) (X:St→Option β) (K:KT β):yo zeh (zd2 xu yx xp L) 0 L zfs (zgh p1 p6 p24 p25 b5) (zcr ziX X K)=zmX xu yx xp L p1 p6 p24 p25 b5 (fun p1 p6 p24 p25 b5=>X (zgh p1 p6 p24 p25 b5)) (fun p1 p6 b5=>K (.exit 0) (zpM p1 p6 b5)):=by kernel_rfl
def zgZ {β:Type} (xu:zbU) (yx:zb2) (xp:zaW) (L:Nat) (p1:List (List V)) (p6:Int) (b5:List V) (k_fin:Int→Option β):Option β :=
 chk (0+4≤(List.length b5)) (
 lt (IntKind.wrap .i64 (((8:Int):Int) * p6)) fun x17 =>
 chk (0≤x17∧x17≤(((List.length p1):Nat):Int)) (
 xu β L (List.take ((List.length p1) - (Int.toNat x17)) (List.drop (Int.toNat x17) p1)) (fun v18 =>
 lt (Int.tmod ((List.length p1:Nat):Int) (256:Int)) fun x19 =>
 lt (IntKind.wrap .u64 x19) fun x20 =>
 lt (zre .u64 x20 (56:Int)) fun x21 =>
 lt (ior .u64 v18 x21) fun x22 =>
 yx β L (List.take 4 b5) x22 (fun v23 =>
 chk ((List.length v23)=4∧0+4≤(List.length b5)) (
 lt (xg b5 0 v23) fun r24 =>
 cI .u64 r24 2 fun v25 =>
 lt (za4 .u64 v25 (255:Int)) fun x26 =>
 chk (1=1∧2+1≤(List.length r24)) (
 lt (xg r24 2 [(V.sc (.int .u64 x26))]) fun r27 =>
 chk (0+4≤(List.length r27)) (
 xp β L (List.take 4 r27) (4:Int) (fun v28 =>
 chk ((List.length v28)=4∧0+4≤(List.length r27)) (
 lt (xg r27 0 v28) fun r29 =>
 cI .u64 r29 0 fun v30 =>
 cI .u64 r29 1 fun v31 =>
 lt (za4 .u64 v30 v31) fun x32 =>
 cI .u64 r29 2 fun v33 =>
 lt (za4 .u64 x32 v33) fun x34 =>
 cI .u64 r29 3 fun v35 =>
 lt (za4 .u64 x34 v35) fun x36 =>
 k_fin x36)))))))))
theorem zvh {β:Type} (xu:zbU) (yx:zb2) (xp:zaW) (L:Nat) (p1:List (List V)) (p6:Int) (b5:List V) (k:KK β):(xG 0 (yU (yo zeh (zd2 xu yx xp L) 0 L zpR) (xZ 0 (CF.res zh1) k))) (.exit 0) (zpM p1 p6 b5)=zgZ xu yx xp L p1 p6 b5 (fun p0=>k (V.sc (.int .u64 p0)) []):=by kernel_rfl
def zgy {β:Type} (xu:zbU) (yx:zb2) (xp:zaW) (L:Nat) (k_x0:List (List V)→Int→List V→Option β):Nat→List (List V)→Int→Int→Int→List V→Option β
 | 0,_,_,_,_,_=>none
 | n+1,p1,p6,p24,p25,b5=>zmX xu yx xp L p1 p6 p24 p25 b5 (fun p1 p6 p24 p25 b5=>zgy xu yx xp L k_x0 n p1 p6 p24 p25 b5) k_x0
theorem zpL {β:Type} (xu:zbU) (yx:zb2) (xp:zaW) (L:Nat) (K:KT β):∀ (n:Nat) (p1:List (List V)) (p6 p24 p25:Int) (b5:List V),yE (yo zeh (zd2 xu yx xp L) 0 L zfs) ziX n (zgh p1 p6 p24 p25 b5) K=zgy xu yx xp L (fun p1 p6 b5=>K (.exit 0) (zpM p1 p6 b5)) n p1 p6 p24 p25 b5:=by
 intro n
 induction n with
 | zero=>intros; rfl
 | succ n ih =>
  intro p1 p6 p24 p25 b5
  refine (zxl xu yx xp L p1 p6 p24 p25 b5 (fun σ=>yE (yo zeh (zd2 xu yx xp L) 0 L zfs) ziX n σ K) K).trans ?_
  simp only [ih]
  rfl
def zsL {β:Type} (xu:zbU) (yx:zb2) (xp:zaW) (L:Nat) (p0:List V) (p1:List (List V)) (k_fin:Int→Option β):Option β :=
 zwQ xu yx xp L p0 p1 (fun p1 p6 p24 p25 b5=>zgy xu yx xp L (fun p1 p6 b5=>zgZ xu yx xp L p1 p6 b5 k_fin) L p1 p6 p24 p25 b5)
theorem zD0 {β:Type} (xu:zbU) (yx:zb2) (xp:zaW) (L:Nat) (p0:List V) (p1:List (List V)) (k:KK β):zt zeh (zd2 xu yx xp L) L zh1 [(V.agg p0),(V.sl 1 p1)] [] k=zsL xu yx xp L p0 p1 (fun p0=>k (V.sc (.int .u64 p0)) []):=by
 refine (zDT xu yx xp L p0 p1 k).trans ?_
 unfold zsL
 first
  | (simp only [zpL,zvh]; done)
  | (simp only [zpL]; rfl)
abbrev zjM:=∀ (β:Type),Nat→List V→List (List V)→(Int→Option β)→Option β
def xU (β:Type) (L:Nat) (p0:List V) (p1:List (List V)) (k_fin:Int→Option β):Option β:=zsL xu yx xp L p0 p1 k_fin
def zps (xU:zjM) (L:Nat) (β:Type) (args:List V) (bor:Bor) (k:KK β):Option β:=match args,bor with
 | [a0,a1],[]=>aG a0 fun p0=>aL 1 a1 fun p1=>xU β L p0 p1 (fun p0=>k (V.sc (.int .u64 p0)) [])
 | _,_=>none
theorem zDV (L:Nat) (β:Type) (args:List V) (bor:Bor) (k:KK β) (r:β) (h:zps xU L β args bor k=some r):zt zeh (zd2 xu yx xp L) L zh1 args bor k=some r:=by
 unfold zps at h
 split at h
 ·have q:=xY h; clear h; obtain ⟨p0,rfl,h⟩:=q
  have q:=zZ h; clear h; obtain ⟨p1,rfl,h⟩:=q
  exact (zD0 xu yx xp L p0 p1 k).trans h
 ·cases h
def zdM:CF:=⟨32,[.tmp 6],
 (.seq (.reg [oo 3 (.box true (tq 0)),
   oo 4 (.box true (tq 1)),
   oo 6 (.move (.const (.sc (.int .i64 0))) false)])
 (.seq (.reg [oo 10 (.load true 32 (tq 3) false),
   oo 11 (.call 109 [((tq 10),0)] []),
   oo 7 (.alloc true [(.sc (.int .u64 0)),(.sc (.int .u64 0))]),
   oz (.store 2 (tq 7) (tq 11))])
 (.seq (.dreg [] [(oo 12 (.load true 2 (tq 7) false),ql 7 [4] [13]),
   (oo 13 (.buildSlice 1 1 [(.sc (.int .u8 0))] [(0,1,(.const (.sc (.int .u8 2))))]),qn [7,4] []),
   (oo 14 (.load true 3 (tq 4) false),ql 4 [7] [13]),
   (oo 15 (.call 269 [((tq 14),0)] []),qc [7] [13]),
   (oo 16 (.call 157 [((tq 13),0),((tq 15),0)] []),qc [7] []),
   (oo 17 (.move (tq 2) false),q0),
   (oo 18 (.call 157 [((tq 16),0),((tq 17),0)] []),qc [7] []),
   (oo 19 (.call 105 [((tq 12),0),((tq 18),0)] []),q0),
   (oo 20 (.bin .rem (tq 19) (.const (.sc (.int .u64 4)))),q0),
   (oo 8 (.move (tq 20) false),q0)])
 (.seq (.reg [oo 21 (.buildSlice 1 1 [(.sc (.int .u8 0))] [(0,1,(.const (.sc (.int .u8 1))))]),
   oo 22 (.move (tq 2) false),
   oo 23 (.call 157 [((tq 21),0),((tq 22),0)] []),
   oo 24 (.move (tq 8) false),
   oo 25 (.conv .u32 (tq 24)),
   oo 26 (.call 157 [((tq 23),0),((tq 25),0)] []),
   oo 9 (.move (tq 26) false)])
 (.seq (.reg [oo 27 (.load true 2 (tq 7) false),
   oo 28 (.move (tq 9) false),
   oo 29 (.call 105 [((tq 27),0),((tq 28),0)] []),
   oo 30 (.bin .rem (tq 29) (.const (.sc (.int .u64 64)))),
   oo 31 (.conv .i64 (tq 30)),
   oo 6 (.move (tq 31) false)])
 .ret)))))⟩
def zjq:Hint:=⟨[],[],[none],[],[],false,false⟩
def zfX:Nat→Sh:=zP []
def zf0 (yZ:zkd) (yb:yr) (xw:zcB) (xU:zjM) (L:Nat):CBC:=(zw 105 (zps xU L) (zw 157 (zeZ xw L) (zw 269 (zbV yb L) (zw 109 (zpe yZ L) noC))))
def zgL {β:Type} (yZ:zkd) (yb:yr) (xw:zcB) (xU:zjM) (L:Nat) (p0 p1:List V) (p2:Int) (k_fin:Int→Option β):Option β :=
 chk (0+32≤(List.length p0)) (
 yZ β L (List.take 32 p0) (fun v0 =>
 chk ((List.length v0)=2∧0+2≤2) (
 lt (xg [(V.sc (.int .u64 (0:Int))),(V.sc (.int .u64 (0:Int)))] 0 v0) fun r1 =>
 chk (0+2≤(List.length r1)) (
 chk (0+3≤(List.length p1)) (
 yb β L (List.take 3 p1) (fun v2 =>
 xw β L (yl 1 1 [(V.sc (.int .u8 (2:Int)))]) v2 (fun v3 =>
 xw β L v3 p2 (fun v4 =>
 xU β L (List.take 2 r1) v4 (fun v5 =>
 lt (Int.tmod v5 (4:Int)) fun x6 =>
 xw β L (yl 1 1 [(V.sc (.int .u8 (1:Int)))]) p2 (fun v7 =>
 lt (IntKind.wrap .u32 x6) fun x8 =>
 xw β L v7 x8 (fun v9 =>
 chk (0+2≤(List.length r1)) (
 xU β L (List.take 2 r1) v9 (fun v10 =>
 lt (Int.tmod v10 (64:Int)) fun x11 =>
 lt (IntKind.wrap .i64 x11) fun x12 =>
 k_fin x12)))))))))))))
theorem zqB {β:Type} (yZ:zkd) (yb:yr) (xw:zcB) (xU:zjM) (L:Nat) (p0 p1:List V) (p2:Int) (k:KK β):zt zfX (zf0 yZ yb xw xU L) L zdM [(V.agg p0),(V.agg p1),(V.sc (.int .u32 p2))] [] k=zgL yZ yb xw xU L p0 p1 p2 (fun p0=>k (V.sc (.int .i64 p0)) []):=by kernel_rfl
abbrev zd3:=∀ (β:Type),Nat→List V→List V→Int→(Int→Option β)→Option β
def zH (β:Type) (L:Nat) (p0 p1:List V) (p2:Int) (k_fin:Int→Option β):Option β:=zgL yZ yb xw xU L p0 p1 p2 k_fin
def zd6 (zH:zd3) (L:Nat) (β:Type) (args:List V) (bor:Bor) (k:KK β):Option β:=match args,bor with
 | [a0,a1,a2],[]=>aG a0 fun p0=>aG a1 fun p1=>aI .u32 a2 fun p2=>zH β L p0 p1 p2 (fun p0=>k (V.sc (.int .i64 p0)) [])
 | _,_=>none
theorem zqs (L:Nat) (β:Type) (args:List V) (bor:Bor) (k:KK β) (r:β) (h:zd6 zH L β args bor k=some r):zt zfX (zf0 yZ yb xw xU L) L zdM args bor k=some r:=by
 unfold zd6 at h
 split at h
 ·have q:=xY h; clear h; obtain ⟨p0,rfl,h⟩:=q
  have q:=xY h; clear h; obtain ⟨p1,rfl,h⟩:=q
  have q:=zaC h; clear h; obtain ⟨p2,rfl,h⟩:=q
  exact (zqB yZ yb xw xU L p0 p1 p2 k).trans h
 ·cases h
def zfL:CF:=⟨11,[.tmp 3],
 (.seq (.reg [oo 2 (.box true (tq 0)),
   oo 3 (.move (.const (.sc (.int .i64 0))) false)])
 (.seq (.reg [oo 4 (.fieldAddr 0 (tq 1)),
   oo 5 (.load true 32 (tq 4) false),
   oo 6 (.fieldAddr 1 (tq 2)),
   oo 7 (.load true 3 (tq 6) false),
   oo 8 (.fieldAddr 4 (tq 2)),
   oo 9 (.load false 1 (tq 8) false),
   oo 10 (.call 297 [((tq 5),0),((tq 7),0),((tq 9),0)] []),
   oo 3 (.move (tq 10) false)])
 .ret))⟩
def zmo:Hint:=⟨[],[],[none],[],[],false,false⟩
def ziH:Nat→Sh:=zP [(9,(.int .u32))]
def ziG (zH:zd3) (L:Nat):CBC:=(zw 297 (zd6 zH L) noC)
def zjv {β:Type} (zH:zd3) (L:Nat) (p0 b0:List V) (k_fin:Int→List V→Option β):Option β :=
 chk (0+32≤(List.length b0)) (
 chk (1+3≤(List.length p0)) (
 cI .u32 p0 4 fun v0 =>
 zH β L (List.take 32 b0) (List.take 3 (List.drop 1 p0)) v0 (fun v1 =>
 k_fin v1 b0)))
theorem ztG {β:Type} (zH:zd3) (L:Nat) (p0 b0:List V) (k:KK β):zt ziH (ziG zH L) L zfL [(V.agg p0),(V.ptr 0 0)] [(.live true b0)] k=zjv zH L p0 b0 (fun p0 b0=>k (V.sc (.int .i64 p0)) [(.live true b0)]):=by kernel_rfl
abbrev zX:=∀ (β:Type),Nat→List V→List V→(Int→List V→Option β)→Option β
def xh (β:Type) (L:Nat) (p0 b0:List V) (k_fin:Int→List V→Option β):Option β:=zjv zH L p0 b0 k_fin
def zgA (xh:zX) (L:Nat) (β:Type) (args:List V) (bor:Bor) (k:KK β):Option β:=match args,bor with
 | [a0,a1],[(.live true b0)]=>aG a0 fun p0=>aP 0 0 a1 (xh β L p0 b0 (fun p0 b0=>k (V.sc (.int .i64 p0)) [(.live true b0)]))
 | _,_=>none
theorem zuf (L:Nat) (β:Type) (args:List V) (bor:Bor) (k:KK β) (r:β) (h:zgA xh L β args bor k=some r):zt ziH (ziG zH L) L zfL args bor k=some r:=by
 unfold zgA at h
 split at h
 ·have q:=xY h; clear h; obtain ⟨p0,rfl,h⟩:=q
  have q:=zlF h; clear h; obtain ⟨rfl,h⟩:=q
  exact (ztG zH L p0 _ k).trans h
 ·cases h
def zcv:CC:=(.seq (.reg [oo 18 (.bin .lss (tq 17) (tq 16))])
 (.seq (.cond (tq 18)
 .skip
 (.seq (.mask (bl 0 58) (bl 288230375077966399 58))
 (.exit 0)))
 (.seq (.block 1 (.seq (.reg [oo 19 (.indexAddrS 5 (tq 15) (tq 17)),
   oo 20 (.load true 5 (tq 19) false),
   oo 10 (.alloc true [(.sc (.int .i64 0)),(.sc (.int .u32 0)),(.sc (.int .u16 0)),(.sc (.int .u32 0)),(.sc (.int .u32 0))]),
   oz (.store 5 (tq 10) (tq 20))])
 (.seq (.seq (.dreg [] [(oo 21 (.fieldAddr 0 (tq 10)),q0),
   (oo 22 (.load false 1 (tq 21) false),q0),
   (oo 23 (.move (tq 7) false),q0),
   (oo 24 (.bin .lss (tq 22) (tq 23)),q0),
   (oo 25 (.move (tq 24) false),q0),
   (⟨(some 26),false,(some (25,false)),.fieldAddr 0 (tq 10)⟩,q0),
   (⟨(some 27),false,(some (25,false)),.load false 1 (tq 26) false⟩,ql 10 [] []),
   (⟨(some 28),false,(some (25,false)),.move (tq 2) false⟩,q0),
   (⟨(some 29),false,(some (25,false)),.load true 5 (tq 10) false⟩,ql 10 [] []),
   (⟨(some 30),false,(some (25,false)),.callv (tq 28) [((tq 29),0)] []⟩,qc [10] []),
   (⟨(some 31),false,(some (25,false)),.bin .neq (tq 27) (tq 30)⟩,q0),
   (oo 32 (.pick (tq 25) (.const (.sc (.bool true))) (tq 31)),q0)])
 (.cond (tq 32)
 (.seq (.reg [oo 6 (.move (.const (.sc (.bool false))) false)])
 (.seq (.mask (bl 64 58) (bl 288230375077966463 58))
 .ret))
 .skip))
 (.seq (.seq (.reg [oo 33 (.fieldAddr 0 (tq 10)),
   oo 34 (.load false 1 (tq 33) false),
   oo 35 (.move (tq 7) false),
   oo 36 (.bin .neq (tq 34) (tq 35))])
 (.cond (tq 36)
 (.reg [oo 37 (.fieldAddr 0 (tq 10)),
   oo 38 (.load false 1 (tq 37) false),
   oo 7 (.move (tq 38) false),
   oo 8 (.move (.const (.sc (.int .i64 0))) false)])
 .skip))
 (.seq (.reg [oo 39 (.move (tq 8) false),
   oo 40 (.bin .add (tq 39) (.const (.sc (.int .i64 1)))),
   oo 8 (.move (tq 40) false)])
 (.seq (.reg [oo 41 (.fieldAddr 1 (tq 10)),
   oo 42 (.fieldAddr 0 (tq 41)),
   oo 43 (.load false 1 (tq 42) false),
   oo 44 (.fieldAddr 1 (tq 10)),
   oo 45 (.fieldAddr 1 (tq 44)),
   oo 46 (.load false 1 (tq 45) false),
   oo 47 (.build [(.sc (.int .u32 0)),(.sc (.int .u16 0))] [(0,1,(tq 43)),(1,1,(tq 46))]),
   oo 11 (.alloc true [(.sc (.int .u32 0)),(.sc (.int .u16 0))]),
   oz (.store 2 (tq 11) (tq 47))])
 (.seq (.seq (.reg [oo 48 (.move (tq 8) false),
   oo 49 (.bin .gtr (tq 48) (.const (.sc (.int .i64 8)))),
   oo 50 (.move (tq 49) false),
   ⟨(some 51),false,(some (50,false)),.move (tq 1) false⟩,
   ⟨(some 52),false,(some (50,false)),.load true 2 (tq 11) false⟩,
   ⟨(some 53),false,(some (50,false)),.mlook 4 false (.sc (.bool false)) (tq 51) (tq 52)⟩,
   oo 54 (.pick (tq 50) (.const (.sc (.bool true))) (tq 53))])
 (.cond (tq 54)
 (.seq (.reg [oo 6 (.move (.const (.sc (.bool false))) false)])
 (.seq (.mask (bl 64 58) (bl 288230375077966463 58))
 .ret))
 .skip))
 (.reg [oo 55 (.move (tq 1) false),
   oo 56 (.load true 2 (tq 11) false),
   oz (.mput 4 (tq 55) (tq 56) (.const (.sc (.bool true))))]))))))))
 (.reg [oo 57 (.bin .add (tq 17) (.const (.sc (.int .i64 1)))),
   oo 17 (.move (tq 57) false)]))))
def ze1:CC:=(.seq (.reg [oo 6 (.move (.const (.sc (.bool true))) false)])
 .ret)
def zbp:CF:=⟨58,[.tmp 6],
 (.seq (.reg [oo 6 (.move (.const (.sc (.bool false))) false)])
 (.seq (.seq (.reg [oo 12 (.move (tq 0) false),
   oo 13 (.lenS (tq 12)),
   oo 14 (.bin .gtr (tq 13) (.const (.sc (.int .i64 512))))])
 (.cond (tq 14)
 (.seq (.reg [oo 6 (.move (.const (.sc (.bool false))) false)])
 .ret)
 .skip))
 (.seq (.reg [oo 7 (.move (.const (.sc (.int .i64 (-1)))) false),
   oo 8 (.move (.const (.sc (.int .i64 0))) false)])
 (.seq (.seq (.reg [oo 15 (.move (tq 0) false),
   oo 16 (.lenS (tq 15)),
   oo 17 (.move (.const (.sc (.int .i64 0))) false)])
 (.block 0 (.loop (bl 229766 58) (bl 288230375077966783 58)
 zcv)))
 ze1))))⟩
def zn8:Hint:=⟨[],[],[none,none,none,some ((bl 229766 58),(bl 288230375077966783 58)),none,some ((bl 0 58),(bl 288230375077966399 58)),none,none,some ((bl 64 58),(bl 288230375077966463 58)),none,none,some ((bl 64 58),(bl 288230375077966463 58)),none],[],[],false,false⟩
def zaD:Nat→Sh:=zP [(22,(.int .i64)),(27,(.int .i64)),(34,(.int .i64)),(38,(.int .i64)),(43,(.int .u32)),(46,(.int .u16)),(53,.bool)]
def zaE (xh:zX) (L:Nat):CBC:=(zw 296 (zgA xh L) noC)
def zd8:St→St:=zae 2 (bl 229766 58) (bl 288230375077966783 58)
def zdg (p7 p8:Int) (p15:List (List V)) (p16 p17:Int) (b0:List (V × V)) (b1:List V):St:=⟨(jn 1 ((V.mp 0)::((V.fn 296 [(V.ptr 1 0)])::(jn 4 ((V.sc (.int .i64 p7))::((V.sc (.int .i64 p8))::(jn 6 ((V.sl 5 p15)::((V.sc (.int .i64 p16))::((V.sc (.int .i64 p17))::(jn 40 []))))))))))),((.mp b0)::((.live true b1)::(gn 58 [])))⟩
def zho (p6:Bool) (b0:List (V × V)) (b1:List V):St:=⟨(jn 6 ((V.sc (.bool p6))::(jn 51 []))),((.mp b0)::((.live true b1)::(gn 58 [])))⟩
def zie (b0:List (V × V)) (b1:List V):St:=⟨(jn 58 []),((.mp b0)::((.live true b1)::(gn 58 [])))⟩
abbrev zkK (β:Type):Type:=Int→Int→List (List V)→Int→Int→List (V × V)→List V→Option β
def zlZ {β:Type} (xh:zX) (L:Nat) (p0:List (List V)) (b0:List (V × V)) (b1:List V) (k_fin:Bool→List (V × V)→List V→Option β) (k_hbbbaba:zkK β):Option β :=
 ifb (decide (((List.length p0:Nat):Int) > (512:Int))) (
 k_fin false b0 b1) (
 k_hbbbaba (-1:Int) (0:Int) p0 ((List.length p0:Nat):Int) (0:Int) b0 b1)
theorem zwi {β:Type} (xh:zX) (L:Nat) (p0:List (List V)) (b0:List (V × V)) (b1:List V) (k:KK β):zt zaD (zaE xh L) L zbp [(V.sl 5 p0),(V.mp 0),(V.fn 296 [(V.ptr 1 0)])] [(.mp b0),(.live true b1)] k=zlZ xh L p0 b0 b1 (fun p0 b0 b1=>k (V.sc (.bool p0)) [(.mp b0),(.live true b1)]) (fun p7 p8 p15 p16 p17 b0 b1=>yE (yo zaD (zaE xh L) 2 L zcv) zd8 L (zdg p7 p8 p15 p16 p17 b0 b1) (xG 0 (yU (yo zaD (zaE xh L) 2 L ze1) (xZ 2 (CF.res zbp) k)))):=by kernel_rfl
def zgK {β:Type} (xh:zX) (L:Nat) (p7 p8:Int) (p15:List (List V)) (p16 p17:Int) (b0:List (V × V)) (b1:List V) (k_ret:Bool→List (V × V)→List V→Option β) (k_hbbbaba:zkK β) (k_x0:List (V × V)→List V→Option β):Option β :=
 ifb (decide (p17 < p16)) (
 idx p15 p17 fun c0 =>
 chk ((List.length (List.take 5 c0))=5∧0+5≤5) (
 lt (xg [(V.sc (.int .i64 (0:Int))),(V.sc (.int .u32 (0:Int))),(V.sc (.int .u16 (0:Int))),(V.sc (.int .u32 (0:Int))),(V.sc (.int .u32 (0:Int)))] 0 (List.take 5 c0)) fun r1 =>
 cI .i64 r1 0 fun v2 =>
 ifb (decide (v2 < p7)) (
 k_ret false b0 b1) (
 cI .i64 r1 0 fun v3 =>
 chk (0+5≤(List.length r1)) (
 xh β L (List.take 5 r1) b1 (fun v4 v5 =>
 chk ([(List.length v5)]=[(List.length b1)]) (
 ifb ((v3:Int) != v4) (
 k_ret false b0 v5) (
 cI .i64 r1 0 fun v6 =>
 ifb ((v6:Int) != p7) (
 cI .i64 r1 0 fun v7 =>
 lt (IntKind.wrap .i64 (((0:Int):Int)+(1:Int))) fun x8 =>
 cI .u32 r1 1 fun v9 =>
 cI .u16 r1 2 fun v10 =>
 lt [(V.sc (.int .u32 v9)),(V.sc (.int .u16 v10))] fun r11 =>
 ifb (decide (x8 > (8:Int))) (
 k_ret false b0 v5) (
 chk (0+2≤(List.length r11)) (
 mAt 4 (V.agg (List.take 2 r11)) b0 fun q12 =>
 aB (Option.getD q12 (V.sc (.bool false))) fun v13 =>
 ifb v13 (
 k_ret false b0 v5) (
 chk (0+2≤(List.length r11)) (
 zs5 4 (V.agg (List.take 2 r11)) (V.sc (.bool true)) b0 fun m14 =>
 lt (IntKind.wrap .i64 ((p17:Int)+(1:Int))) fun x15 =>
 k_hbbbaba v7 x8 p15 p16 x15 m14 v5))))) (
 lt (IntKind.wrap .i64 ((p8:Int)+(1:Int))) fun x16 =>
 cI .u32 r1 1 fun v17 =>
 cI .u16 r1 2 fun v18 =>
 lt [(V.sc (.int .u32 v17)),(V.sc (.int .u16 v18))] fun r19 =>
 ifb (decide (x16 > (8:Int))) (
 k_ret false b0 v5) (
 chk (0+2≤(List.length r19)) (
 mAt 4 (V.agg (List.take 2 r19)) b0 fun q20 =>
 aB (Option.getD q20 (V.sc (.bool false))) fun v21 =>
 ifb v21 (
 k_ret false b0 v5) (
 chk (0+2≤(List.length r19)) (
 zs5 4 (V.agg (List.take 2 r19)) (V.sc (.bool true)) b0 fun m22 =>
 lt (IntKind.wrap .i64 ((p17:Int)+(1:Int))) fun x23 =>
 k_hbbbaba p7 x16 p15 p16 x23 m22 v5)))))))))))) (
 k_x0 b0 b1)
theorem zqL {β:Type} (xh:zX) (L:Nat) (p7 p8:Int) (p15:List (List V)) (p16 p17:Int) (b0:List (V × V)) (b1:List V) (X:St→Option β) (K:KT β):yo zaD (zaE xh L) 2 L zcv (zdg p7 p8 p15 p16 p17 b0 b1) (zcr zd8 X K)=zgK xh L p7 p8 p15 p16 p17 b0 b1 (fun p6 b0 b1=>K .ret (zho p6 b0 b1)) (fun p7 p8 p15 p16 p17 b0 b1=>X (zdg p7 p8 p15 p16 p17 b0 b1)) (fun b0 b1=>K (.exit 0) (zie b0 b1)):=by kernel_rfl
def zfa {β:Type} (xh:zX) (L:Nat) (p6:Bool) (b0:List (V × V)) (b1:List V) (k_fin:Bool→List (V × V)→List V→Option β):Option β :=
 k_fin p6 b0 b1
theorem zot {β:Type} (xh:zX) (L:Nat) (p6:Bool) (b0:List (V × V)) (b1:List V) (k:KK β):(xG 0 (yU (yo zaD (zaE xh L) 2 L ze1) (xZ 2 (CF.res zbp) k))) .ret (zho p6 b0 b1)=zfa xh L p6 b0 b1 (fun p0 b0 b1=>k (V.sc (.bool p0)) [(.mp b0),(.live true b1)]):=by kernel_rfl
def zfo {β:Type} (xh:zX) (L:Nat) (b0:List (V × V)) (b1:List V) (k_fin:Bool→List (V × V)→List V→Option β):Option β :=
 k_fin true b0 b1
theorem zpl {β:Type} (xh:zX) (L:Nat) (b0:List (V × V)) (b1:List V) (k:KK β):(xG 0 (yU (yo zaD (zaE xh L) 2 L ze1) (xZ 2 (CF.res zbp) k))) (.exit 0) (zie b0 b1)=zfo xh L b0 b1 (fun p0 b0 b1=>k (V.sc (.bool p0)) [(.mp b0),(.live true b1)]):=by kernel_rfl
def zb5 {β:Type} (xh:zX) (L:Nat) (k_ret:Bool→List (V × V)→List V→Option β) (k_x0:List (V × V)→List V→Option β):Nat→Int→Int→List (List V)→Int→Int→List (V × V)→List V→Option β
 | 0,_,_,_,_,_,_,_=>none
 | n+1,p7,p8,p15,p16,p17,b0,b1=>zgK xh L p7 p8 p15 p16 p17 b0 b1 k_ret (fun p7 p8 p15 p16 p17 b0 b1=>zb5 xh L k_ret k_x0 n p7 p8 p15 p16 p17 b0 b1) k_x0
theorem zi7 {β:Type} (xh:zX) (L:Nat) (K:KT β):∀ (n:Nat) (p7 p8:Int) (p15:List (List V)) (p16 p17:Int) (b0:List (V × V)) (b1:List V),yE (yo zaD (zaE xh L) 2 L zcv) zd8 n (zdg p7 p8 p15 p16 p17 b0 b1) K=zb5 xh L (fun p6 b0 b1=>K .ret (zho p6 b0 b1)) (fun b0 b1=>K (.exit 0) (zie b0 b1)) n p7 p8 p15 p16 p17 b0 b1:=by
 intro n
 induction n with
 | zero=>intros; rfl
 | succ n ih =>
  intro p7 p8 p15 p16 p17 b0 b1
  refine (zqL xh L p7 p8 p15 p16 p17 b0 b1 (fun σ=>yE (yo zaD (zaE xh L) 2 L zcv) zd8 n σ K) K).trans ?_
  simp only [ih]
  rfl
def zhN {β:Type} (xh:zX) (L:Nat) (p0:List (List V)) (b0:List (V × V)) (b1:List V) (k_fin:Bool→List (V × V)→List V→Option β):Option β :=
 zlZ xh L p0 b0 b1 k_fin (fun p7 p8 p15 p16 p17 b0 b1=>zb5 xh L (fun p6 b0 b1=>zfa xh L p6 b0 b1 k_fin) (fun b0 b1=>zfo xh L b0 b1 k_fin) L p7 p8 p15 p16 p17 b0 b1)
theorem zwh {β:Type} (xh:zX) (L:Nat) (p0:List (List V)) (b0:List (V × V)) (b1:List V) (k:KK β):zt zaD (zaE xh L) L zbp [(V.sl 5 p0),(V.mp 0),(V.fn 296 [(V.ptr 1 0)])] [(.mp b0),(.live true b1)] k=zhN xh L p0 b0 b1 (fun p0 b0 b1=>k (V.sc (.bool p0)) [(.mp b0),(.live true b1)]):=by
 refine (zwi xh L p0 b0 b1 k).trans ?_
 unfold zhN
 first
  | (simp only [zi7,zot,zpl]; done)
  | (simp only [zi7]; rfl)
abbrev zia:=∀ (β:Type),Nat→List (List V)→List (V × V)→List V→(Bool→List (V × V)→List V→Option β)→Option β
def yT (β:Type) (L:Nat) (p0:List (List V)) (b0:List (V × V)) (b1:List V) (k_fin:Bool→List (V × V)→List V→Option β):Option β:=zhN xh L p0 b0 b1 k_fin
def zib (yT:zia) (L:Nat) (β:Type) (args:List V) (bor:Bor) (k:KK β):Option β:=match args,bor with
 | [a0,a1,a2],[(.mp b0),(.live true b1)]=>aL 5 a0 fun p0=>aM 0 a1 (aF 296 [(1,0)] a2 (yT β L p0 b0 b1 (fun p0 b0 b1=>k (V.sc (.bool p0)) [(.mp b0),(.live true b1)])))
 | _,_=>none
theorem zvO (L:Nat) (β:Type) (args:List V) (bor:Bor) (k:KK β) (r:β) (h:zib yT L β args bor k=some r):zt zaD (zaE xh L) L zbp args bor k=some r:=by
 unfold zib at h
 split at h
 ·have q:=zZ h; clear h; obtain ⟨p0,rfl,h⟩:=q
  have q:=zHn h; clear h; obtain ⟨rfl,h⟩:=q
  have q:=ztV h; clear h; obtain ⟨rfl,h⟩:=q
  exact (zwh xh L p0 _ _ k).trans h
 ·cases h
def zge:CF:=⟨10,[.tmp 4],
 (.seq (.reg [oo 4 (.move (.const (.gs 1 [])) true)])
 (.seq (.reg [oo 5 (.move (tq 0) false),
   oo 6 (.move (tq 1) false),
   oo 7 (.conv .u64 (tq 6)),
   oo 8 (.call 192 [((tq 7),0),((.const (.sc (.int .i64 2))),0)] []),
   oo 9 (.call 191 [((tq 5),0),((tq 8),0)] []),
   oo 4 (.move (tq 9) true)])
 .ret))⟩
def zm0:Hint:=⟨[(0,0),(1,5)],[],[none],[],[],false,false⟩
def zka:Nat→Sh:=zP []
def zjB (yG:zdW) (xF:zd1) (L:Nat):CBC:=(zw 191 (zhc xF L) (zw 192 (zhA yG L) noC))
def zk4 {β:Type} (yG:zdW) (xF:zd1) (L:Nat) (p0:List (List V)) (p1:Int) (k_fin:List (List V)→Option β):Option β :=
 lt (IntKind.wrap .u64 p1) fun x0 =>
 yG β L x0 (2:Int) (fun v1 =>
 xF β L p0 v1 (fun v2 =>
 k_fin v2))
theorem zu7 {β:Type} (yG:zdW) (xF:zd1) (L:Nat) (p0:List (List V)) (p1:Int) (k:KK β):zt zka (zjB yG xF L) L zge [(V.sl 1 p0),(V.sc (.int .u16 p1))] [] k=zk4 yG xF L p0 p1 (fun p0=>k (V.gs 1 p0) []):=by kernel_rfl
abbrev zg6:=∀ (β:Type),Nat→List (List V)→Int→(List (List V)→Option β)→Option β
def yR (β:Type) (L:Nat) (p0:List (List V)) (p1:Int) (k_fin:List (List V)→Option β):Option β:=zk4 yG xF L p0 p1 k_fin
def zg7 (yR:zg6) (L:Nat) (β:Type) (args:List V) (bor:Bor) (k:KK β):Option β:=match args,bor with
 | [a0,a1],[]=>aL 1 a0 fun p0=>aI .u16 a1 fun p1=>yR β L p0 p1 (fun p0=>k (V.gs 1 p0) [])
 | _,_=>none
theorem zvr (L:Nat) (β:Type) (args:List V) (bor:Bor) (k:KK β) (r:β) (h:zg7 yR L β args bor k=some r):zt zka (zjB yG xF L) L zge args bor k=some r:=by
 unfold zg7 at h
 split at h
 ·have q:=zZ h; clear h; obtain ⟨p0,rfl,h⟩:=q
  have q:=zaC h; clear h; obtain ⟨p1,rfl,h⟩:=q
  exact (zu7 yG xF L p0 p1 k).trans h
 ·cases h
def zdI:CF:=⟨32,[.tmp 4],
 (.seq (.reg [oo 2 (.box true (tq 0)),
   oo 3 (.box true (tq 1)),
   oo 4 (.move (.const (.sc (.int .i64 0))) false)])
 (.seq (.reg [oo 8 (.load true 32 (tq 2) false),
   oo 9 (.call 109 [((tq 8),0)] []),
   oo 5 (.alloc true [(.sc (.int .u64 0)),(.sc (.int .u64 0))]),
   oz (.store 2 (tq 5) (tq 9))])
 (.seq (.dreg [] [(oo 10 (.load true 2 (tq 5) false),ql 5 [3] [11]),
   (oo 11 (.buildSlice 1 1 [(.sc (.int .u8 0))] [(0,1,(.const (.sc (.int .u8 4))))]),qn [5,3] []),
   (oo 12 (.fieldAddr 0 (tq 3)),q0),
   (oo 13 (.load false 1 (tq 12) false),ql 3 [5] [11]),
   (oo 14 (.call 157 [((tq 11),0),((tq 13),0)] []),qc [5,3] []),
   (oo 15 (.fieldAddr 1 (tq 3)),q0),
   (oo 16 (.load false 1 (tq 15) false),ql 3 [5] [11]),
   (oo 17 (.call 205 [((tq 14),0),((tq 16),0)] []),qc [5] []),
   (oo 18 (.call 105 [((tq 10),0),((tq 17),0)] []),q0),
   (oo 19 (.bin .rem (tq 18) (.const (.sc (.int .u64 4)))),q0),
   (oo 6 (.move (tq 19) false),q0)])
 (.seq (.reg [oo 20 (.buildSlice 1 1 [(.sc (.int .u8 0))] [(0,1,(.const (.sc (.int .u8 3))))]),
   oo 21 (.load true 3 (tq 3) false),
   oo 22 (.call 269 [((tq 21),0)] []),
   oo 23 (.call 157 [((tq 20),0),((tq 22),0)] []),
   oo 24 (.move (tq 6) false),
   oo 25 (.conv .u32 (tq 24)),
   oo 26 (.call 157 [((tq 23),0),((tq 25),0)] []),
   oo 7 (.move (tq 26) false)])
 (.seq (.reg [oo 27 (.load true 2 (tq 5) false),
   oo 28 (.move (tq 7) false),
   oo 29 (.call 105 [((tq 27),0),((tq 28),0)] []),
   oo 30 (.bin .rem (tq 29) (.const (.sc (.int .u64 64)))),
   oo 31 (.conv .i64 (tq 30)),
   oo 4 (.move (tq 31) false)])
 .ret)))))⟩
def zji:Hint:=⟨[],[],[none],[],[],false,false⟩
def zfW:Nat→Sh:=zP [(13,(.int .u32)),(16,(.int .u16))]
def zfZ (yZ:zkd) (xw:zcB) (yR:zg6) (xU:zjM) (yb:yr) (L:Nat):CBC:=(zw 269 (zbV yb L) (zw 105 (zps xU L) (zw 205 (zg7 yR L) (zw 157 (zeZ xw L) (zw 109 (zpe yZ L) noC)))))
def zgR {β:Type} (yZ:zkd) (xw:zcB) (yR:zg6) (xU:zjM) (yb:yr) (L:Nat) (p0 p1:List V) (k_fin:Int→Option β):Option β :=
 chk (0+32≤(List.length p0)) (
 yZ β L (List.take 32 p0) (fun v0 =>
 chk ((List.length v0)=2∧0+2≤2) (
 lt (xg [(V.sc (.int .u64 (0:Int))),(V.sc (.int .u64 (0:Int)))] 0 v0) fun r1 =>
 chk (0+2≤(List.length r1)) (
 cI .u32 p1 0 fun v2 =>
 xw β L (yl 1 1 [(V.sc (.int .u8 (4:Int)))]) v2 (fun v3 =>
 cI .u16 p1 1 fun v4 =>
 yR β L v3 v4 (fun v5 =>
 xU β L (List.take 2 r1) v5 (fun v6 =>
 lt (Int.tmod v6 (4:Int)) fun x7 =>
 chk (0+3≤(List.length p1)) (
 yb β L (List.take 3 p1) (fun v8 =>
 xw β L (yl 1 1 [(V.sc (.int .u8 (3:Int)))]) v8 (fun v9 =>
 lt (IntKind.wrap .u32 x7) fun x10 =>
 xw β L v9 x10 (fun v11 =>
 chk (0+2≤(List.length r1)) (
 xU β L (List.take 2 r1) v11 (fun v12 =>
 lt (Int.tmod v12 (64:Int)) fun x13 =>
 lt (IntKind.wrap .i64 x13) fun x14 =>
 k_fin x14)))))))))))))
theorem zqQ {β:Type} (yZ:zkd) (xw:zcB) (yR:zg6) (xU:zjM) (yb:yr) (L:Nat) (p0 p1:List V) (k:KK β):zt zfW (zfZ yZ xw yR xU yb L) L zdI [(V.agg p0),(V.agg p1)] [] k=zgR yZ xw yR xU yb L p0 p1 (fun p0=>k (V.sc (.int .i64 p0)) []):=by kernel_rfl
abbrev zd7:=∀ (β:Type),Nat→List V→List V→(Int→Option β)→Option β
def yH (β:Type) (L:Nat) (p0 p1:List V) (k_fin:Int→Option β):Option β:=zgR yZ xw yR xU yb L p0 p1 k_fin
def zee (yH:zd7) (L:Nat) (β:Type) (args:List V) (bor:Bor) (k:KK β):Option β:=match args,bor with
 | [a0,a1],[]=>aG a0 fun p0=>aG a1 fun p1=>yH β L p0 p1 (fun p0=>k (V.sc (.int .i64 p0)) [])
 | _,_=>none
theorem zqx (L:Nat) (β:Type) (args:List V) (bor:Bor) (k:KK β) (r:β) (h:zee yH L β args bor k=some r):zt zfW (zfZ yZ xw yR xU yb L) L zdI args bor k=some r:=by
 unfold zee at h
 split at h
 ·have q:=xY h; clear h; obtain ⟨p0,rfl,h⟩:=q
  have q:=xY h; clear h; obtain ⟨p1,rfl,h⟩:=q
  exact (zqQ yZ xw yR xU yb L p0 p1 k).trans h
 ·cases h
def zfP:CF:=⟨9,[.tmp 3],
 (.seq (.reg [oo 2 (.box true (tq 0)),
   oo 3 (.move (.const (.sc (.int .i64 0))) false)])
 (.seq (.reg [oo 4 (.fieldAddr 0 (tq 1)),
   oo 5 (.load true 32 (tq 4) false),
   oo 6 (.fieldAddr 1 (tq 2)),
   oo 7 (.load true 3 (tq 6) false),
   oo 8 (.call 299 [((tq 5),0),((tq 7),0)] []),
   oo 3 (.move (tq 8) false)])
 .ret))⟩
def zmu:Hint:=⟨[],[],[none],[],[],false,false⟩
def ziD:Nat→Sh:=zP []
def ziC (yH:zd7) (L:Nat):CBC:=(zw 299 (zee yH L) noC)
def zjJ {β:Type} (yH:zd7) (L:Nat) (p0 b0:List V) (k_fin:Int→List V→Option β):Option β :=
 chk (0+32≤(List.length b0)) (
 chk (1+3≤(List.length p0)) (
 yH β L (List.take 32 b0) (List.take 3 (List.drop 1 p0)) (fun v0 =>
 k_fin v0 b0)))
theorem ztF {β:Type} (yH:zd7) (L:Nat) (p0 b0:List V) (k:KK β):zt ziD (ziC yH L) L zfP [(V.agg p0),(V.ptr 0 0)] [(.live true b0)] k=zjJ yH L p0 b0 (fun p0 b0=>k (V.sc (.int .i64 p0)) [(.live true b0)]):=by kernel_rfl
abbrev yX:=∀ (β:Type),Nat→List V→List V→(Int→List V→Option β)→Option β
def zi (β:Type) (L:Nat) (p0 b0:List V) (k_fin:Int→List V→Option β):Option β:=zjJ yH L p0 b0 k_fin
def zgp (zi:yX) (L:Nat) (β:Type) (args:List V) (bor:Bor) (k:KK β):Option β:=match args,bor with
 | [a0,a1],[(.live true b0)]=>aG a0 fun p0=>aP 0 0 a1 (zi β L p0 b0 (fun p0 b0=>k (V.sc (.int .i64 p0)) [(.live true b0)]))
 | _,_=>none
theorem zt3 (L:Nat) (β:Type) (args:List V) (bor:Bor) (k:KK β) (r:β) (h:zgp zi L β args bor k=some r):zt ziD (ziC yH L) L zfP args bor k=some r:=by
 unfold zgp at h
 split at h
 ·have q:=xY h; clear h; obtain ⟨p0,rfl,h⟩:=q
  have q:=zlF h; clear h; obtain ⟨rfl,h⟩:=q
  exact (ztF yH L p0 _ k).trans h
 ·cases h
def zdi:CC:=(.seq (.reg [oo 18 (.bin .lss (tq 17) (tq 16))])
 (.seq (.cond (tq 18)
 .skip
 (.seq (.mask (bl 0 58) (bl 288230375077966399 58))
 (.exit 0)))
 (.seq (.block 1 (.seq (.reg [oo 19 (.indexAddrS 5 (tq 15) (tq 17)),
   oo 20 (.load true 5 (tq 19) false),
   oo 10 (.alloc true [(.sc (.int .i64 0)),(.sc (.int .u32 0)),(.sc (.int .u16 0)),(.sc (.int .u32 0)),(.sc (.int .u32 0))]),
   oz (.store 5 (tq 10) (tq 20))])
 (.seq (.seq (.dreg [] [(oo 21 (.fieldAddr 0 (tq 10)),q0),
   (oo 22 (.load false 1 (tq 21) false),q0),
   (oo 23 (.move (tq 7) false),q0),
   (oo 24 (.bin .lss (tq 22) (tq 23)),q0),
   (oo 25 (.move (tq 24) false),q0),
   (⟨(some 26),false,(some (25,false)),.fieldAddr 0 (tq 10)⟩,q0),
   (⟨(some 27),false,(some (25,false)),.load false 1 (tq 26) false⟩,ql 10 [] []),
   (⟨(some 28),false,(some (25,false)),.move (tq 2) false⟩,q0),
   (⟨(some 29),false,(some (25,false)),.load true 5 (tq 10) false⟩,ql 10 [] []),
   (⟨(some 30),false,(some (25,false)),.callv (tq 28) [((tq 29),0)] []⟩,qc [10] []),
   (⟨(some 31),false,(some (25,false)),.bin .neq (tq 27) (tq 30)⟩,q0),
   (oo 32 (.pick (tq 25) (.const (.sc (.bool true))) (tq 31)),q0)])
 (.cond (tq 32)
 (.seq (.reg [oo 6 (.move (.const (.sc (.bool false))) false)])
 (.seq (.mask (bl 64 58) (bl 288230375077966463 58))
 .ret))
 .skip))
 (.seq (.seq (.reg [oo 33 (.fieldAddr 0 (tq 10)),
   oo 34 (.load false 1 (tq 33) false),
   oo 35 (.move (tq 7) false),
   oo 36 (.bin .neq (tq 34) (tq 35))])
 (.cond (tq 36)
 (.reg [oo 37 (.fieldAddr 0 (tq 10)),
   oo 38 (.load false 1 (tq 37) false),
   oo 7 (.move (tq 38) false),
   oo 8 (.move (.const (.sc (.int .i64 0))) false)])
 .skip))
 (.seq (.reg [oo 39 (.move (tq 8) false),
   oo 40 (.bin .add (tq 39) (.const (.sc (.int .i64 1)))),
   oo 8 (.move (tq 40) false)])
 (.seq (.reg [oo 41 (.fieldAddr 1 (tq 10)),
   oo 42 (.fieldAddr 0 (tq 41)),
   oo 43 (.load false 1 (tq 42) false),
   oo 44 (.fieldAddr 1 (tq 10)),
   oo 45 (.fieldAddr 1 (tq 44)),
   oo 46 (.load false 1 (tq 45) false),
   oo 47 (.build [(.sc (.int .u32 0)),(.sc (.int .u16 0))] [(0,1,(tq 43)),(1,1,(tq 46))]),
   oo 11 (.alloc true [(.sc (.int .u32 0)),(.sc (.int .u16 0))]),
   oz (.store 2 (tq 11) (tq 47))])
 (.seq (.seq (.reg [oo 48 (.move (tq 8) false),
   oo 49 (.bin .gtr (tq 48) (.const (.sc (.int .i64 8)))),
   oo 50 (.move (tq 49) false),
   ⟨(some 51),false,(some (50,false)),.move (tq 1) false⟩,
   ⟨(some 52),false,(some (50,false)),.load true 2 (tq 11) false⟩,
   ⟨(some 53),false,(some (50,false)),.mlook 4 false (.sc (.bool false)) (tq 51) (tq 52)⟩,
   oo 54 (.pick (tq 50) (.const (.sc (.bool true))) (tq 53))])
 (.cond (tq 54)
 (.seq (.reg [oo 6 (.move (.const (.sc (.bool false))) false)])
 (.seq (.mask (bl 64 58) (bl 288230375077966463 58))
 .ret))
 .skip))
 (.reg [oo 55 (.move (tq 1) false),
   oo 56 (.load true 2 (tq 11) false),
   oz (.mput 4 (tq 55) (tq 56) (.const (.sc (.bool true))))]))))))))
 (.reg [oo 57 (.bin .add (tq 17) (.const (.sc (.int .i64 1)))),
   oo 17 (.move (tq 57) false)]))))
def zgG:CC:=(.seq (.reg [oo 6 (.move (.const (.sc (.bool true))) false)])
 .ret)
def zcM:CF:=zbp
def zan:Nat→Sh:=zP [(22,(.int .i64)),(27,(.int .i64)),(34,(.int .i64)),(38,(.int .i64)),(43,(.int .u32)),(46,(.int .u16)),(53,.bool)]
def zam (zi:yX) (L:Nat):CBC:=(zw 298 (zgp zi L) noC)
def zdq:St→St:=zae 2 (bl 229766 58) (bl 288230375077966783 58)
def zcH (p7 p8:Int) (p15:List (List V)) (p16 p17:Int) (b0:List (V × V)) (b1:List V):St:=⟨(jn 1 ((V.mp 0)::((V.fn 298 [(V.ptr 1 0)])::(jn 4 ((V.sc (.int .i64 p7))::((V.sc (.int .i64 p8))::(jn 6 ((V.sl 5 p15)::((V.sc (.int .i64 p16))::((V.sc (.int .i64 p17))::(jn 40 []))))))))))),((.mp b0)::((.live true b1)::(gn 58 [])))⟩
def zfY (p6:Bool) (b0:List (V × V)) (b1:List V):St:=⟨(jn 6 ((V.sc (.bool p6))::(jn 51 []))),((.mp b0)::((.live true b1)::(gn 58 [])))⟩
def zgO (b0:List (V × V)) (b1:List V):St:=⟨(jn 58 []),((.mp b0)::((.live true b1)::(gn 58 [])))⟩
abbrev zi8 (β:Type):Type:=Int→Int→List (List V)→Int→Int→List (V × V)→List V→Option β
def zkb {β:Type} (zi:yX) (L:Nat) (p0:List (List V)) (b0:List (V × V)) (b1:List V) (k_fin:Bool→List (V × V)→List V→Option β) (k_hbbbaba:zi8 β):Option β :=
 ifb (decide (((List.length p0:Nat):Int) > (512:Int))) (
 k_fin false b0 b1) (
 k_hbbbaba (-1:Int) (0:Int) p0 ((List.length p0:Nat):Int) (0:Int) b0 b1)
theorem ztM {β:Type} (zi:yX) (L:Nat) (p0:List (List V)) (b0:List (V × V)) (b1:List V) (k:KK β):zt zan (zam zi L) L zcM [(V.sl 5 p0),(V.mp 0),(V.fn 298 [(V.ptr 1 0)])] [(.mp b0),(.live true b1)] k=zkb zi L p0 b0 b1 (fun p0 b0 b1=>k (V.sc (.bool p0)) [(.mp b0),(.live true b1)]) (fun p7 p8 p15 p16 p17 b0 b1=>yE (yo zan (zam zi L) 2 L zdi) zdq L (zcH p7 p8 p15 p16 p17 b0 b1) (xG 0 (yU (yo zan (zam zi L) 2 L zgG) (xZ 2 (CF.res zcM) k)))):=by kernel_rfl
def zfp {β:Type} (zi:yX) (L:Nat) (p7 p8:Int) (p15:List (List V)) (p16 p17:Int) (b0:List (V × V)) (b1:List V) (k_ret:Bool→List (V × V)→List V→Option β) (k_hbbbaba:zi8 β) (k_x0:List (V × V)→List V→Option β):Option β :=
 ifb (decide (p17 < p16)) (
 idx p15 p17 fun c0 =>
 chk ((List.length (List.take 5 c0))=5∧0+5≤5) (
 lt (xg [(V.sc (.int .i64 (0:Int))),(V.sc (.int .u32 (0:Int))),(V.sc (.int .u16 (0:Int))),(V.sc (.int .u32 (0:Int))),(V.sc (.int .u32 (0:Int)))] 0 (List.take 5 c0)) fun r1 =>
 cI .i64 r1 0 fun v2 =>
 ifb (decide (v2 < p7)) (
 k_ret false b0 b1) (
 cI .i64 r1 0 fun v3 =>
 chk (0+5≤(List.length r1)) (
 zi β L (List.take 5 r1) b1 (fun v4 v5 =>
 chk ([(List.length v5)]=[(List.length b1)]) (
 ifb ((v3:Int) != v4) (
 k_ret false b0 v5) (
 cI .i64 r1 0 fun v6 =>
 ifb ((v6:Int) != p7) (
 cI .i64 r1 0 fun v7 =>
 lt (IntKind.wrap .i64 (((0:Int):Int)+(1:Int))) fun x8 =>
 cI .u32 r1 1 fun v9 =>
 cI .u16 r1 2 fun v10 =>
 lt [(V.sc (.int .u32 v9)),(V.sc (.int .u16 v10))] fun r11 =>
 ifb (decide (x8 > (8:Int))) (
 k_ret false b0 v5) (
 chk (0+2≤(List.length r11)) (
 mAt 4 (V.agg (List.take 2 r11)) b0 fun q12 =>
 aB (Option.getD q12 (V.sc (.bool false))) fun v13 =>
 ifb v13 (
 k_ret false b0 v5) (
 chk (0+2≤(List.length r11)) (
 zs5 4 (V.agg (List.take 2 r11)) (V.sc (.bool true)) b0 fun m14 =>
 lt (IntKind.wrap .i64 ((p17:Int)+(1:Int))) fun x15 =>
 k_hbbbaba v7 x8 p15 p16 x15 m14 v5))))) (
 lt (IntKind.wrap .i64 ((p8:Int)+(1:Int))) fun x16 =>
 cI .u32 r1 1 fun v17 =>
 cI .u16 r1 2 fun v18 =>
 lt [(V.sc (.int .u32 v17)),(V.sc (.int .u16 v18))] fun r19 =>
 ifb (decide (x16 > (8:Int))) (
 k_ret false b0 v5) (
 chk (0+2≤(List.length r19)) (
 mAt 4 (V.agg (List.take 2 r19)) b0 fun q20 =>
 aB (Option.getD q20 (V.sc (.bool false))) fun v21 =>
 ifb v21 (
 k_ret false b0 v5) (
 chk (0+2≤(List.length r19)) (
 zs5 4 (V.agg (List.take 2 r19)) (V.sc (.bool true)) b0 fun m22 =>
 lt (IntKind.wrap .i64 ((p17:Int)+(1:Int))) fun x23 =>
 k_hbbbaba p7 x16 p15 p16 x23 m22 v5)))))))))))) (
 k_x0 b0 b1)
theorem zpg {β:Type} (zi:yX) (L:Nat) (p7 p8:Int) (p15:List (List V)) (p16 p17:Int) (b0:List (V × V)) (b1:List V) (X:St→Option β) (K:KT β):yo zan (zam zi L) 2 L zdi (zcH p7 p8 p15 p16 p17 b0 b1) (zcr zdq X K)=zfp zi L p7 p8 p15 p16 p17 b0 b1 (fun p6 b0 b1=>K .ret (zfY p6 b0 b1)) (fun p7 p8 p15 p16 p17 b0 b1=>X (zcH p7 p8 p15 p16 p17 b0 b1)) (fun b0 b1=>K (.exit 0) (zgO b0 b1)):=by kernel_rfl
def zeq {β:Type} (zi:yX) (L:Nat) (p6:Bool) (b0:List (V × V)) (b1:List V) (k_fin:Bool→List (V × V)→List V→Option β):Option β :=
 k_fin p6 b0 b1
theorem znh {β:Type} (zi:yX) (L:Nat) (p6:Bool) (b0:List (V × V)) (b1:List V) (k:KK β):(xG 0 (yU (yo zan (zam zi L) 2 L zgG) (xZ 2 (CF.res zcM) k))) .ret (zfY p6 b0 b1)=zeq zi L p6 b0 b1 (fun p0 b0 b1=>k (V.sc (.bool p0)) [(.mp b0),(.live true b1)]):=by kernel_rfl
def zeF {β:Type} (zi:yX) (L:Nat) (b0:List (V × V)) (b1:List V) (k_fin:Bool→List (V × V)→List V→Option β):Option β :=
 k_fin true b0 b1
theorem zn1 {β:Type} (zi:yX) (L:Nat) (b0:List (V × V)) (b1:List V) (k:KK β):(xG 0 (yU (yo zan (zam zi L) 2 L zgG) (xZ 2 (CF.res zcM) k))) (.exit 0) (zgO b0 b1)=zeF zi L b0 b1 (fun p0 b0 b1=>k (V.sc (.bool p0)) [(.mp b0),(.live true b1)]):=by kernel_rfl
def zbz {β:Type} (zi:yX) (L:Nat) (k_ret:Bool→List (V × V)→List V→Option β) (k_x0:List (V × V)→List V→Option β):Nat→Int→Int→List (List V)→Int→Int→List (V × V)→List V→Option β
 | 0,_,_,_,_,_,_,_=>none
 | n+1,p7,p8,p15,p16,p17,b0,b1=>zfp zi L p7 p8 p15 p16 p17 b0 b1 k_ret (fun p7 p8 p15 p16 p17 b0 b1=>zbz zi L k_ret k_x0 n p7 p8 p15 p16 p17 b0 b1) k_x0
theorem zhG {β:Type} (zi:yX) (L:Nat) (K:KT β):∀ (n:Nat) (p7 p8:Int) (p15:List (List V)) (p16 p17:Int) (b0:List (V × V)) (b1:List V),yE (yo zan (zam zi L) 2 L zdi) zdq n (zcH p7 p8 p15 p16 p17 b0 b1) K=zbz zi L (fun p6 b0 b1=>K .ret (zfY p6 b0 b1)) (fun b0 b1=>K (.exit 0) (zgO b0 b1)) n p7 p8 p15 p16 p17 b0 b1:=by
 intro n
 induction n with
 | zero=>intros; rfl
 | succ n ih =>
  intro p7 p8 p15 p16 p17 b0 b1
  refine (zpg zi L p7 p8 p15 p16 p17 b0 b1 (fun σ=>yE (yo zan (zam zi L) 2 L zdi) zdq n σ K) K).trans ?_
  simp only [ih]
  rfl
def zgo {β:Type} (zi:yX) (L:Nat) (p0:List (List V)) (b0:List (V × V)) (b1:List V) (k_fin:Bool→List (V × V)→List V→Option β):Option β :=
 zkb zi L p0 b0 b1 k_fin (fun p7 p8 p15 p16 p17 b0 b1=>zbz zi L (fun p6 b0 b1=>zeq zi L p6 b0 b1 k_fin) (fun b0 b1=>zeF zi L b0 b1 k_fin) L p7 p8 p15 p16 p17 b0 b1)
theorem ztK {β:Type} (zi:yX) (L:Nat) (p0:List (List V)) (b0:List (V × V)) (b1:List V) (k:KK β):zt zan (zam zi L) L zcM [(V.sl 5 p0),(V.mp 0),(V.fn 298 [(V.ptr 1 0)])] [(.mp b0),(.live true b1)] k=zgo zi L p0 b0 b1 (fun p0 b0 b1=>k (V.sc (.bool p0)) [(.mp b0),(.live true b1)]):=by
 refine (ztM zi L p0 b0 b1 k).trans ?_
 unfold zgo
 first
  | (simp only [zhG,znh,zn1]; done)
  | (simp only [zhG]; rfl)
abbrev zf9:=∀ (β:Type),Nat→List (List V)→List (V × V)→List V→(Bool→List (V × V)→List V→Option β)→Option β
def zO (β:Type) (L:Nat) (p0:List (List V)) (b0:List (V × V)) (b1:List V) (k_fin:Bool→List (V × V)→List V→Option β):Option β:=zgo zi L p0 b0 b1 k_fin
def zgd (zO:zf9) (L:Nat) (β:Type) (args:List V) (bor:Bor) (k:KK β):Option β:=match args,bor with
 | [a0,a1,a2],[(.mp b0),(.live true b1)]=>aL 5 a0 fun p0=>aM 0 a1 (aF 298 [(1,0)] a2 (zO β L p0 b0 b1 (fun p0 b0 b1=>k (V.sc (.bool p0)) [(.mp b0),(.live true b1)])))
 | _,_=>none
theorem zuw (L:Nat) (β:Type) (args:List V) (bor:Bor) (k:KK β) (r:β) (h:zgd zO L β args bor k=some r):zt zan (zam zi L) L zcM args bor k=some r:=by
 unfold zgd at h
 split at h
 ·have q:=zZ h; clear h; obtain ⟨p0,rfl,h⟩:=q
  have q:=zHn h; clear h; obtain ⟨rfl,h⟩:=q
  have q:=ztV h; clear h; obtain ⟨rfl,h⟩:=q
  exact (ztK zi L p0 _ _ k).trans h
 ·cases h
def zg2:CF:=⟨17,[.tmp 2],
 (.seq (.reg [oo 1 (.box true (tq 0)),
   oo 2 (.move (.const (.sc (.bool false))) false)])
 (.seq (.reg [oo 4 (.makeMap),
   oo 3 (.move (tq 4) false)])
 (.seq (.reg [oo 5 (.fieldAddr 32 (tq 1)),
   oo 6 (.load false 1 (tq 5) false),
   oo 7 (.move (tq 3) false),
   oo 8 (.makeFunc 296 [(tq 1)]),
   oo 9 (.call 295 [((tq 6),0),((tq 7),0),((tq 8),0)] []),
   oo 10 (.move (tq 9) false),
   ⟨(some 11),false,(some (10,true)),.fieldAddr 33 (tq 1)⟩,
   ⟨(some 12),false,(some (10,true)),.load false 1 (tq 11) false⟩,
   ⟨(some 13),false,(some (10,true)),.move (tq 3) false⟩,
   ⟨(some 14),false,(some (10,true)),.makeFunc 298 [(tq 1)]⟩,
   ⟨(some 15),false,(some (10,true)),.call 295 [((tq 12),0),((tq 13),0),((tq 14),0)] []⟩,
   oo 16 (.pick (tq 10) (tq 15) (.const (.sc (.bool false)))),
   oo 2 (.move (tq 16) false)])
 .ret)))⟩
def zn9:Hint:=⟨[(0,0)],[],[none],[],[],false,false⟩
def zle:Nat→Sh:=zP [(6,(.sl 5)),(12,(.sl 5))]
def zkW (yT:zia) (zO:zf9) (L:Nat):CBC:=(zBf 295 [6,12,398,22,20] (zgd zO L) (zBf 295 [6,12,396,22,20] (zib yT L) noC))
def zlY {β:Type} (yT:zia) (zO:zf9) (L:Nat) (p0:List V) (k_fin:Bool→Option β):Option β :=
 cLd 5 p0 32 fun v0 =>
 yT β L v0 ([]:List (V × V)) p0 (fun v1 v2 v3 =>
 chk ([0,(List.length v3)]=[0,(List.length p0)]) (
 ifb v1 (
 cLd 5 v3 33 fun v4 =>
 zO β L v4 v2 v3 (fun v5 v6 v7 =>
 chk ([0,(List.length v7)]=[0,(List.length v3)]) (
 k_fin v5))) (
 k_fin false)))
theorem zvP {β:Type} (yT:zia) (zO:zf9) (L:Nat) (p0:List V) (k:KK β):zt zle (zkW yT zO L) L zg2 [(V.agg p0)] [] k=zlY yT zO L p0 (fun p0=>k (V.sc (.bool p0)) []):=by kernel_rfl
abbrev zad:=∀ (β:Type),Nat→List V→(Bool→Option β)→Option β
def xl (β:Type) (L:Nat) (p0:List V) (k_fin:Bool→Option β):Option β:=zlY yT zO L p0 k_fin
def zhT (xl:zad) (L:Nat) (β:Type) (args:List V) (bor:Bor) (k:KK β):Option β:=match args,bor with
 | [a0],[]=>aG a0 fun p0=>xl β L p0 (fun p0=>k (V.sc (.bool p0)) [])
 | _,_=>none
theorem zvY (L:Nat) (β:Type) (args:List V) (bor:Bor) (k:KK β) (r:β) (h:zhT xl L β args bor k=some r):zt zle (zkW yT zO L) L zg2 args bor k=some r:=by
 unfold zhT at h
 split at h
 ·have q:=xY h; clear h; obtain ⟨p0,rfl,h⟩:=q
  exact (zvP yT zO L p0 k).trans h
 ·cases h
def zfO:CF:=⟨6,[.tmp 2],
 (.seq (.reg [oo 1 (.box true (tq 0)),
   oo 2 (.move (.const (.sc (.bool false))) false)])
 (.seq (.reg [oo 3 (.fieldAddr 0 (tq 1)),
   oo 4 (.load false 1 (tq 3) false),
   oo 5 (.bin .eql (tq 4) (.const (.sc (.int .i64 1)))),
   oo 2 (.move (tq 5) false)])
 .ret))⟩
def zmt:Hint:=⟨[],[],[none],[],[],false,false⟩
def ziT:Nat→Sh:=zP [(4,(.int .i64))]
def ziU (L:Nat):CBC:=noC
def zjI {β:Type} (L:Nat) (p0:List V) (k_fin:Bool→Option β):Option β :=
 cI .i64 p0 0 fun v0 =>
 k_fin ((v0:Int) == (1:Int))
theorem zt7 {β:Type} (L:Nat) (p0:List V) (k:KK β):zt ziT (ziU L) L zfO [(V.agg p0)] [] k=zjI L p0 (fun p0=>k (V.sc (.bool p0)) []):=by kernel_rfl
abbrev zak:=∀ (β:Type),Nat→List V→(Bool→Option β)→Option β
def xm (β:Type) (L:Nat) (p0:List V) (k_fin:Bool→Option β):Option β:=zjI L p0 k_fin
def zgu (xm:zak) (L:Nat) (β:Type) (args:List V) (bor:Bor) (k:KK β):Option β:=match args,bor with
 | [a0],[]=>aG a0 fun p0=>xm β L p0 (fun p0=>k (V.sc (.bool p0)) [])
 | _,_=>none
theorem ztQ (L:Nat) (β:Type) (args:List V) (bor:Bor) (k:KK β) (r:β) (h:zgu xm L β args bor k=some r):zt ziT (ziU L) L zfO args bor k=some r:=by
 unfold zgu at h
 split at h
 ·have q:=xY h; clear h; obtain ⟨p0,rfl,h⟩:=q
  exact (zt7 L p0 k).trans h
 ·cases h
def zdb:CC:=(.seq (.reg [oo 11 (.bin .lss (tq 10) (tq 9))])
 (.seq (.cond (tq 11)
 .skip
 (.seq (.mask (bl 32 21) (bl 2031487 21))
 (.exit 0)))
 (.seq (.block 1 (.seq (.reg [oo 12 (.indexAddrS 4 (tq 8) (tq 10)),
   oo 13 (.load true 4 (tq 12) false),
   oo 7 (.alloc true [(.sc (.int .i64 0)),(.sc (.int .u32 0)),(.sc (.int .u16 0)),(.sc (.int .u32 0))]),
   oz (.store 4 (tq 7) (tq 13))])
 (.seq (.reg [oo 14 (.move (tq 1) false),
   oo 15 (.load true 4 (tq 7) false),
   oo 16 (.callv (tq 14) [((tq 15),0)] [])])
 (.cond (tq 16)
 (.reg [oo 17 (.move (tq 5) false),
   oo 18 (.bin .add (tq 17) (.const (.sc (.int .i64 1)))),
   oo 5 (.move (tq 18) false)])
 .skip))))
 (.reg [oo 19 (.bin .add (tq 10) (.const (.sc (.int .i64 1)))),
   oo 10 (.move (tq 19) false)]))))
def zjG:CC:=(.seq (.reg [oo 20 (.move (tq 5) false),
   oo 4 (.move (tq 20) false)])
 .ret)
def zcj:CF:=⟨21,[.tmp 4],
 (.seq (.reg [oo 4 (.move (.const (.sc (.int .i64 0))) false)])
 (.seq (.reg [oo 5 (.move (.const (.sc (.int .i64 0))) false)])
 (.seq (.seq (.reg [oo 8 (.move (tq 0) false),
   oo 9 (.lenS (tq 8)),
   oo 10 (.move (.const (.sc (.int .i64 0))) false)])
 (.block 0 (.loop (bl 1826 21) (bl 2031487 21)
 zdb)))
 zjG)))⟩
def zpf:Hint:=⟨[],[],[none,some ((bl 1826 21),(bl 2031487 21)),none,some ((bl 32 21),(bl 2031487 21)),none,none,none],[],[],false,false⟩
def zbj:Nat→Sh:=zP []
def zbi (xm:zak) (L:Nat):CBC:=(zw 277 (zgu xm L) noC)
def ze9:St→St:=zae 0 (bl 1826 21) (bl 2031487 21)
def zdJ (p5:Int) (p8:List (List V)) (p9 p10:Int):St:=⟨(jn 1 ((V.fn 277 [])::(jn 3 ((V.sc (.int .i64 p5))::(jn 2 ((V.sl 4 p8)::((V.sc (.int .i64 p9))::((V.sc (.int .i64 p10))::(jn 10 []))))))))),(gn 21 [])⟩
def ziI (p5:Int):St:=⟨(jn 5 ((V.sc (.int .i64 p5))::(jn 15 []))),(gn 21 [])⟩
def zmS {β:Type} (xm:zak) (L:Nat) (p0:List (List V)) (k_hbbaba:Int→List (List V)→Int→Int→Option β):Option β :=
 k_hbbaba (0:Int) p0 ((List.length p0:Nat):Int) (0:Int)
theorem zwA {β:Type} (xm:zak) (L:Nat) (p0:List (List V)) (k:KK β):zt zbj (zbi xm L) L zcj [(V.sl 4 p0),(V.fn 277 [])] [] k=zmS xm L p0 (fun p5 p8 p9 p10=>yE (yo zbj (zbi xm L) 0 L zdb) ze9 L (zdJ p5 p8 p9 p10) (xG 0 (yU (yo zbj (zbi xm L) 0 L zjG) (xZ 0 (CF.res zcj) k)))):=by kernel_rfl
def zhY {β:Type} (xm:zak) (L:Nat) (p5:Int) (p8:List (List V)) (p9 p10:Int) (k_hbbaba:Int→List (List V)→Int→Int→Option β) (k_x0:Int→Option β):Option β :=
 ifb (decide (p10 < p9)) (
 idx p8 p10 fun c0 =>
 chk ((List.length (List.take 4 c0))=4∧0+4≤4) (
 lt (xg [(V.sc (.int .i64 (0:Int))),(V.sc (.int .u32 (0:Int))),(V.sc (.int .u16 (0:Int))),(V.sc (.int .u32 (0:Int)))] 0 (List.take 4 c0)) fun r1 =>
 chk (0+4≤(List.length r1)) (
 xm β L (List.take 4 r1) (fun v2 =>
 ifb v2 (
 lt (IntKind.wrap .i64 ((p5:Int)+(1:Int))) fun x3 =>
 lt (IntKind.wrap .i64 ((p10:Int)+(1:Int))) fun x4 =>
 k_hbbaba x3 p8 p9 x4) (
 lt (IntKind.wrap .i64 ((p10:Int)+(1:Int))) fun x5 =>
 k_hbbaba p5 p8 p9 x5))))) (
 k_x0 p5)
theorem zsm {β:Type} (xm:zak) (L:Nat) (p5:Int) (p8:List (List V)) (p9 p10:Int) (X:St→Option β) (K:KT β):yo zbj (zbi xm L) 0 L zdb (zdJ p5 p8 p9 p10) (zcr ze9 X K)=zhY xm L p5 p8 p9 p10 (fun p5 p8 p9 p10=>X (zdJ p5 p8 p9 p10)) (fun p5=>K (.exit 0) (ziI p5)):=by kernel_rfl
def zlw {β:Type} (xm:zak) (L:Nat) (p5:Int) (k_fin:Int→Option β):Option β :=
 k_fin p5
theorem zqE {β:Type} (xm:zak) (L:Nat) (p5:Int) (k:KK β):(xG 0 (yU (yo zbj (zbi xm L) 0 L zjG) (xZ 0 (CF.res zcj) k))) (.exit 0) (ziI p5)=zlw xm L p5 (fun p0=>k (V.sc (.int .i64 p0)) []):=by kernel_rfl
def zdv {β:Type} (xm:zak) (L:Nat) (k_x0:Int→Option β):Nat→Int→List (List V)→Int→Int→Option β
 | 0,_,_,_,_=>none
 | n+1,p5,p8,p9,p10=>zhY xm L p5 p8 p9 p10 (fun p5 p8 p9 p10=>zdv xm L k_x0 n p5 p8 p9 p10) k_x0
theorem zkN {β:Type} (xm:zak) (L:Nat) (K:KT β):∀ (n:Nat) (p5:Int) (p8:List (List V)) (p9 p10:Int),yE (yo zbj (zbi xm L) 0 L zdb) ze9 n (zdJ p5 p8 p9 p10) K=zdv xm L (fun p5=>K (.exit 0) (ziI p5)) n p5 p8 p9 p10:=by
 intro n
 induction n with
 | zero=>intros; rfl
 | succ n ih =>
  intro p5 p8 p9 p10
  refine (zsm xm L p5 p8 p9 p10 (fun σ=>yE (yo zbj (zbi xm L) 0 L zdb) ze9 n σ K) K).trans ?_
  simp only [ih]
  rfl
def zi5 {β:Type} (xm:zak) (L:Nat) (p0:List (List V)) (k_fin:Int→Option β):Option β :=
 zmS xm L p0 (fun p5 p8 p9 p10=>zdv xm L (fun p5=>zlw xm L p5 k_fin) L p5 p8 p9 p10)
theorem zw3 {β:Type} (xm:zak) (L:Nat) (p0:List (List V)) (k:KK β):zt zbj (zbi xm L) L zcj [(V.sl 4 p0),(V.fn 277 [])] [] k=zi5 xm L p0 (fun p0=>k (V.sc (.int .i64 p0)) []):=by
 refine (zwA xm L p0 k).trans ?_
 unfold zi5
 first
  | (simp only [zkN,zqE]; done)
  | (simp only [zkN]; rfl)
abbrev zao:=∀ (β:Type),Nat→List (List V)→(Int→Option β)→Option β
def zn (β:Type) (L:Nat) (p0:List (List V)) (k_fin:Int→Option β):Option β:=zi5 xm L p0 k_fin
def zjg (zn:zao) (L:Nat) (β:Type) (args:List V) (bor:Bor) (k:KK β):Option β:=match args,bor with
 | [a0,a1],[]=>aL 4 a0 fun p0=>aF 277 [] a1 (zn β L p0 (fun p0=>k (V.sc (.int .i64 p0)) []))
 | _,_=>none
theorem zwO (L:Nat) (β:Type) (args:List V) (bor:Bor) (k:KK β) (r:β) (h:zjg zn L β args bor k=some r):zt zbj (zbi xm L) L zcj args bor k=some r:=by
 unfold zjg at h
 split at h
 ·have q:=zZ h; clear h; obtain ⟨p0,rfl,h⟩:=q
  have q:=ztV h; clear h; obtain ⟨rfl,h⟩:=q
  exact (zw3 xm L p0 k).trans h
 ·cases h
def zfK:CF:=⟨6,[.tmp 2],
 (.seq (.reg [oo 1 (.box true (tq 0)),
   oo 2 (.move (.const (.sc (.bool false))) false)])
 (.seq (.reg [oo 3 (.fieldAddr 0 (tq 1)),
   oo 4 (.load false 1 (tq 3) false),
   oo 5 (.bin .eql (tq 4) (.const (.sc (.int .i64 3)))),
   oo 2 (.move (tq 5) false)])
 .ret))⟩
def zms:Hint:=⟨[],[],[none],[],[],false,false⟩
def ziS:Nat→Sh:=zP [(4,(.int .i64))]
def ziK (L:Nat):CBC:=noC
def zjP {β:Type} (L:Nat) (p0:List V) (k_fin:Bool→Option β):Option β :=
 cI .i64 p0 0 fun v0 =>
 k_fin ((v0:Int) == (3:Int))
theorem ztH {β:Type} (L:Nat) (p0:List V) (k:KK β):zt ziS (ziK L) L zfK [(V.agg p0)] [] k=zjP L p0 (fun p0=>k (V.sc (.bool p0)) []):=by kernel_rfl
abbrev zai:=∀ (β:Type),Nat→List V→(Bool→Option β)→Option β
def ym (β:Type) (L:Nat) (p0:List V) (k_fin:Bool→Option β):Option β:=zjP L p0 k_fin
def zf8 (ym:zai) (L:Nat) (β:Type) (args:List V) (bor:Bor) (k:KK β):Option β:=match args,bor with
 | [a0],[]=>aG a0 fun p0=>ym β L p0 (fun p0=>k (V.sc (.bool p0)) [])
 | _,_=>none
theorem ztL (L:Nat) (β:Type) (args:List V) (bor:Bor) (k:KK β) (r:β) (h:zf8 ym L β args bor k=some r):zt ziS (ziK L) L zfK args bor k=some r:=by
 unfold zf8 at h
 split at h
 ·have q:=xY h; clear h; obtain ⟨p0,rfl,h⟩:=q
  exact (ztH L p0 k).trans h
 ·cases h
def zdL:CC:=(.seq (.reg [oo 11 (.bin .lss (tq 10) (tq 9))])
 (.seq (.cond (tq 11)
 .skip
 (.seq (.mask (bl 32 21) (bl 2031487 21))
 (.exit 0)))
 (.seq (.block 1 (.seq (.reg [oo 12 (.indexAddrS 4 (tq 8) (tq 10)),
   oo 13 (.load true 4 (tq 12) false),
   oo 7 (.alloc true [(.sc (.int .i64 0)),(.sc (.int .u32 0)),(.sc (.int .u16 0)),(.sc (.int .u32 0))]),
   oz (.store 4 (tq 7) (tq 13))])
 (.seq (.reg [oo 14 (.move (tq 1) false),
   oo 15 (.load true 4 (tq 7) false),
   oo 16 (.callv (tq 14) [((tq 15),0)] [])])
 (.cond (tq 16)
 (.reg [oo 17 (.move (tq 5) false),
   oo 18 (.bin .add (tq 17) (.const (.sc (.int .i64 1)))),
   oo 5 (.move (tq 18) false)])
 .skip))))
 (.reg [oo 19 (.bin .add (tq 10) (.const (.sc (.int .i64 1)))),
   oo 10 (.move (tq 19) false)]))))
def znu:CC:=(.seq (.reg [oo 20 (.move (tq 5) false),
   oo 4 (.move (tq 20) false)])
 .ret)
def zen:CF:=zcj
def zaS:Nat→Sh:=zP []
def zaR (ym:zai) (L:Nat):CBC:=(zw 279 (zf8 ym L) noC)
def zea:St→St:=zae 0 (bl 1826 21) (bl 2031487 21)
def zdj (p5:Int) (p8:List (List V)) (p9 p10:Int):St:=⟨(jn 1 ((V.fn 279 [])::(jn 3 ((V.sc (.int .i64 p5))::(jn 2 ((V.sl 4 p8)::((V.sc (.int .i64 p9))::((V.sc (.int .i64 p10))::(jn 10 []))))))))),(gn 21 [])⟩
def zhj (p5:Int):St:=⟨(jn 5 ((V.sc (.int .i64 p5))::(jn 15 []))),(gn 21 [])⟩
def zk1 {β:Type} (ym:zai) (L:Nat) (p0:List (List V)) (k_hbbaba:Int→List (List V)→Int→Int→Option β):Option β :=
 k_hbbaba (0:Int) p0 ((List.length p0:Nat):Int) (0:Int)
theorem zu0 {β:Type} (ym:zai) (L:Nat) (p0:List (List V)) (k:KK β):zt zaS (zaR ym L) L zen [(V.sl 4 p0),(V.fn 279 [])] [] k=zk1 ym L p0 (fun p5 p8 p9 p10=>yE (yo zaS (zaR ym L) 0 L zdL) zea L (zdj p5 p8 p9 p10) (xG 0 (yU (yo zaS (zaR ym L) 0 L znu) (xZ 0 (CF.res zen) k)))):=by kernel_rfl
def zgQ {β:Type} (ym:zai) (L:Nat) (p5:Int) (p8:List (List V)) (p9 p10:Int) (k_hbbaba:Int→List (List V)→Int→Int→Option β) (k_x0:Int→Option β):Option β :=
 ifb (decide (p10 < p9)) (
 idx p8 p10 fun c0 =>
 chk ((List.length (List.take 4 c0))=4∧0+4≤4) (
 lt (xg [(V.sc (.int .i64 (0:Int))),(V.sc (.int .u32 (0:Int))),(V.sc (.int .u16 (0:Int))),(V.sc (.int .u32 (0:Int)))] 0 (List.take 4 c0)) fun r1 =>
 chk (0+4≤(List.length r1)) (
 ym β L (List.take 4 r1) (fun v2 =>
 ifb v2 (
 lt (IntKind.wrap .i64 ((p5:Int)+(1:Int))) fun x3 =>
 lt (IntKind.wrap .i64 ((p10:Int)+(1:Int))) fun x4 =>
 k_hbbaba x3 p8 p9 x4) (
 lt (IntKind.wrap .i64 ((p10:Int)+(1:Int))) fun x5 =>
 k_hbbaba p5 p8 p9 x5))))) (
 k_x0 p5)
theorem zqN {β:Type} (ym:zai) (L:Nat) (p5:Int) (p8:List (List V)) (p9 p10:Int) (X:St→Option β) (K:KT β):yo zaS (zaR ym L) 0 L zdL (zdj p5 p8 p9 p10) (zcr zea X K)=zgQ ym L p5 p8 p9 p10 (fun p5 p8 p9 p10=>X (zdj p5 p8 p9 p10)) (fun p5=>K (.exit 0) (zhj p5)):=by kernel_rfl
def zjS {β:Type} (ym:zai) (L:Nat) (p5:Int) (k_fin:Int→Option β):Option β :=
 k_fin p5
theorem zpm {β:Type} (ym:zai) (L:Nat) (p5:Int) (k:KK β):(xG 0 (yU (yo zaS (zaR ym L) 0 L znu) (xZ 0 (CF.res zen) k))) (.exit 0) (zhj p5)=zjS ym L p5 (fun p0=>k (V.sc (.int .i64 p0)) []):=by kernel_rfl
def zcU {β:Type} (ym:zai) (L:Nat) (k_x0:Int→Option β):Nat→Int→List (List V)→Int→Int→Option β
 | 0,_,_,_,_=>none
 | n+1,p5,p8,p9,p10=>zgQ ym L p5 p8 p9 p10 (fun p5 p8 p9 p10=>zcU ym L k_x0 n p5 p8 p9 p10) k_x0
theorem zjh {β:Type} (ym:zai) (L:Nat) (K:KT β):∀ (n:Nat) (p5:Int) (p8:List (List V)) (p9 p10:Int),yE (yo zaS (zaR ym L) 0 L zdL) zea n (zdj p5 p8 p9 p10) K=zcU ym L (fun p5=>K (.exit 0) (zhj p5)) n p5 p8 p9 p10:=by
 intro n
 induction n with
 | zero=>intros; rfl
 | succ n ih =>
  intro p5 p8 p9 p10
  refine (zqN ym L p5 p8 p9 p10 (fun σ=>yE (yo zaS (zaR ym L) 0 L zdL) zea n σ K) K).trans ?_
  simp only [ih]
  rfl
def zg8 {β:Type} (ym:zai) (L:Nat) (p0:List (List V)) (k_fin:Int→Option β):Option β :=
 zk1 ym L p0 (fun p5 p8 p9 p10=>zcU ym L (fun p5=>zjS ym L p5 k_fin) L p5 p8 p9 p10)
theorem zuG {β:Type} (ym:zai) (L:Nat) (p0:List (List V)) (k:KK β):zt zaS (zaR ym L) L zen [(V.sl 4 p0),(V.fn 279 [])] [] k=zg8 ym L p0 (fun p0=>k (V.sc (.int .i64 p0)) []):=by
 refine (zu0 ym L p0 k).trans ?_
 unfold zg8
 first
  | (simp only [zjh,zpm]; done)
  | (simp only [zjh]; rfl)
abbrev z6:=∀ (β:Type),Nat→List (List V)→(Int→Option β)→Option β
def yk (β:Type) (L:Nat) (p0:List (List V)) (k_fin:Int→Option β):Option β:=zg8 ym L p0 k_fin
def zgX (yk:z6) (L:Nat) (β:Type) (args:List V) (bor:Bor) (k:KK β):Option β:=match args,bor with
 | [a0,a1],[]=>aL 4 a0 fun p0=>aF 279 [] a1 (yk β L p0 (fun p0=>k (V.sc (.int .i64 p0)) []))
 | _,_=>none
theorem zvk (L:Nat) (β:Type) (args:List V) (bor:Bor) (k:KK β) (r:β) (h:zgX yk L β args bor k=some r):zt zaS (zaR ym L) L zen args bor k=some r:=by
 unfold zgX at h
 split at h
 ·have q:=zZ h; clear h; obtain ⟨p0,rfl,h⟩:=q
  have q:=ztV h; clear h; obtain ⟨rfl,h⟩:=q
  exact (zuG ym L p0 k).trans h
 ·cases h
def zb9:CC:=(.seq (.reg [oo 9 (.bin .lss (tq 8) (tq 7))])
 (.seq (.cond (tq 9)
 .skip
 (.seq (.mask (bl 0 23) (bl 5210079 23))
 (.exit 0)))
 (.seq (.block 1 (.seq (.reg [oo 10 (.indexAddrS 5 (tq 6) (tq 8)),
   oo 11 (.load true 5 (tq 10) false),
   oo 5 (.alloc true [(.sc (.int .i64 0)),(.sc (.int .u32 0)),(.sc (.int .u16 0)),(.sc (.int .u32 0)),(.sc (.int .u32 0))]),
   oz (.store 5 (tq 5) (tq 11))])
 (.seq (.reg [oo 12 (.load false 1 (tq 1) false),
   oo 13 (.fieldAddr 1 (tq 5)),
   oo 14 (.load true 3 (tq 13) false),
   oo 15 (.call 278 [((tq 12),0),((tq 14),0)] []),
   oo 16 (.un .not (tq 15))])
 (.cond (tq 16)
 (.reg [oo 17 (.load false 1 (tq 2) true),
   oo 18 (.fieldAddr 1 (tq 5)),
   oo 19 (.load true 3 (tq 18) false),
   oo 20 (.buildSlice 3 1 [(.sc (.int .u32 0)),(.sc (.int .u16 0)),(.sc (.int .u32 0))] [(0,3,(tq 19))]),
   oo 21 (.append 3 12 (tq 17) (tq 20)),
   oz (.store 1 (tq 2) (tq 21))])
 .skip))))
 (.reg [oo 22 (.bin .add (tq 8) (.const (.sc (.int .i64 1)))),
   oo 8 (.move (tq 22) false)]))))
def zbb:CF:=⟨23,[],
 (.seq (.reg [oo 6 (.move (tq 0) false),
   oo 7 (.lenS (tq 6)),
   oo 8 (.move (.const (.sc (.int .i64 0))) false)])
 (.block 0 (.loop (bl 454 23) (bl 5210079 23)
 zb9)))⟩
def zjj:Hint:=⟨[(4,0)],[],[none,some ((bl 454 23),(bl 5210079 23)),none,some ((bl 0 23),(bl 5210079 23)),none,none],[],[],false,false⟩
def zay:Nat→Sh:=zP []
def zax (ya:yq) (L:Nat):CBC:=(zw 278 (zc4 ya L) noC)
def zdy:St→St:=zae 2 (bl 454 23) (bl 5210079 23)
def zcL (p6:List (List V)) (p7 p8:Int) (zKT zL7:List (List V)):St:=⟨(jn 1 ((V.ptr 0 0)::((V.ptr 1 0)::(jn 3 ((V.sl 5 p6)::((V.sc (.int .i64 p7))::((V.sc (.int .i64 p8))::(jn 14 [])))))))),((.live true [(V.sl 4 zKT)])::((.live false [(V.gs 3 zL7)])::(gn 23 [])))⟩
def zeK (zKT zL7:List (List V)):St:=⟨(jn 23 []),((.live true [(V.sl 4 zKT)])::((.live false [(V.gs 3 zL7)])::(gn 23 [])))⟩
abbrev ziY (β:Type):Type:=List (List V)→Int→Int→List (List V)→List (List V)→Option β
def zgI {β:Type} (ya:yq) (L:Nat) (p0 zKT zL7:List (List V)) (k_hba:ziY β):Option β :=
 k_hba p0 ((List.length p0:Nat):Int) (0:Int) zKT zL7
theorem zqJ {β:Type} (ya:yq) (L:Nat) (p0 zKT zL7:List (List V)) (k:KK β):zt zay (zax ya L) L zbb [(V.sl 5 p0),(V.ptr 0 0),(V.ptr 1 0)] [(.live true [(V.sl 4 zKT)]),(.live false [(V.gs 3 zL7)])] k=zgI ya L p0 zKT zL7 (fun p6 p7 p8 zKT zL7=>yE (yo zay (zax ya L) 2 L zb9) zdy L (zcL p6 p7 p8 zKT zL7) (xG 0 (xZ 2 (CF.res zbb) k))):=by kernel_rfl
def zfv {β:Type} (ya:yq) (L:Nat) (p6:List (List V)) (p7 p8:Int) (zKT zL7:List (List V)) (k_hba:ziY β) (k_x0:List (List V)→List (List V)→Option β):Option β :=
 ifb (decide (p8 < p7)) (
 idx p6 p8 fun c0 =>
 chk ((List.length (List.take 5 c0))=5∧0+5≤5) (
 lt (xg [(V.sc (.int .i64 (0:Int))),(V.sc (.int .u32 (0:Int))),(V.sc (.int .u16 (0:Int))),(V.sc (.int .u32 (0:Int))),(V.sc (.int .u32 (0:Int)))] 0 (List.take 5 c0)) fun r1 =>
 chk (1+3≤(List.length r1)) (
 ya β L zKT (List.take 3 (List.drop 1 r1)) (fun v2 =>
 ifb (!v2) (
 chk (1+3≤(List.length r1)) (
 chk ((List.length (List.take 3 (List.drop 1 r1)))=3∧0+3≤3) (
 chk ((List.length zL7+List.length (yl 3 1 (xg [(V.sc (.int .u32 (0:Int))),(V.sc (.int .u16 (0:Int))),(V.sc (.int .u32 (0:Int)))] 0 (List.take 3 (List.drop 1 r1))))) * 12≤zs∧List.length zL7+List.length (yl 3 1 (xg [(V.sc (.int .u32 (0:Int))),(V.sc (.int .u16 (0:Int))),(V.sc (.int .u32 (0:Int)))] 0 (List.take 3 (List.drop 1 r1))))≤zs) (
 lt (zL7++(yl 3 1 (xg [(V.sc (.int .u32 (0:Int))),(V.sc (.int .u16 (0:Int))),(V.sc (.int .u32 (0:Int)))] 0 (List.take 3 (List.drop 1 r1))))) fun l3 =>
 lt (IntKind.wrap .i64 ((p8:Int)+(1:Int))) fun x4 =>
 k_hba p6 p7 x4 zKT l3)))) (
 lt (IntKind.wrap .i64 ((p8:Int)+(1:Int))) fun x5 =>
 k_hba p6 p7 x5 zKT zL7))))) (
 k_x0 zKT zL7)
theorem zpr {β:Type} (ya:yq) (L:Nat) (p6:List (List V)) (p7 p8:Int) (zKT zL7:List (List V)) (X:St→Option β) (K:KT β):yo zay (zax ya L) 2 L zb9 (zcL p6 p7 p8 zKT zL7) (zcr zdy X K)=zfv ya L p6 p7 p8 zKT zL7 (fun p6 p7 p8 zKT zL7=>X (zcL p6 p7 p8 zKT zL7)) (fun zKT zL7=>K (.exit 0) (zeK zKT zL7)):=by kernel_rfl
def zis {β:Type} (ya:yq) (L:Nat) (zKT zL7:List (List V)) (k_fin:List (List V)→List (List V)→Option β):Option β :=
 k_fin zKT zL7
theorem zn2 {β:Type} (ya:yq) (L:Nat) (zKT zL7:List (List V)) (k:KK β):(xG 0 (xZ 2 (CF.res zbb) k)) (.exit 0) (zeK zKT zL7)=zis ya L zKT zL7 (fun zKT zL7=>k (V.tup []) [(.live true [(V.sl 4 zKT)]),(.live false [(V.gs 3 zL7)])]):=by kernel_rfl
def zcf {β:Type} (ya:yq) (L:Nat) (k_x0:List (List V)→List (List V)→Option β):Nat→List (List V)→Int→Int→List (List V)→List (List V)→Option β
 | 0,_,_,_,_,_=>none
 | n+1,p6,p7,p8,zKT,zL7=>zfv ya L p6 p7 p8 zKT zL7 (fun p6 p7 p8 zKT zL7=>zcf ya L k_x0 n p6 p7 p8 zKT zL7) k_x0
theorem zhF {β:Type} (ya:yq) (L:Nat) (K:KT β):∀ (n:Nat) (p6:List (List V)) (p7 p8:Int) (zKT zL7:List (List V)),yE (yo zay (zax ya L) 2 L zb9) zdy n (zcL p6 p7 p8 zKT zL7) K=zcf ya L (fun zKT zL7=>K (.exit 0) (zeK zKT zL7)) n p6 p7 p8 zKT zL7:=by
 intro n
 induction n with
 | zero=>intros; rfl
 | succ n ih =>
  intro p6 p7 p8 zKT zL7
  refine (zpr ya L p6 p7 p8 zKT zL7 (fun σ=>yE (yo zay (zax ya L) 2 L zb9) zdy n σ K) K).trans ?_
  simp only [ih]
  rfl
def zec {β:Type} (ya:yq) (L:Nat) (p0 zKT zL7:List (List V)) (k_fin:List (List V)→List (List V)→Option β):Option β :=
 zgI ya L p0 zKT zL7 (fun p6 p7 p8 zKT zL7=>zcf ya L (fun zKT zL7=>zis ya L zKT zL7 k_fin) L p6 p7 p8 zKT zL7)
theorem zqr {β:Type} (ya:yq) (L:Nat) (p0 zKT zL7:List (List V)) (k:KK β):zt zay (zax ya L) L zbb [(V.sl 5 p0),(V.ptr 0 0),(V.ptr 1 0)] [(.live true [(V.sl 4 zKT)]),(.live false [(V.gs 3 zL7)])] k=zec ya L p0 zKT zL7 (fun zKT zL7=>k (V.tup []) [(.live true [(V.sl 4 zKT)]),(.live false [(V.gs 3 zL7)])]):=by
 refine (zqJ ya L p0 zKT zL7 k).trans ?_
 unfold zec
 first
  | (simp only [zhF,zn2]; done)
  | (simp only [zhF]; rfl)
abbrev zd5:=∀ (β:Type),Nat→List (List V)→List (List V)→List (List V)→(List (List V)→List (List V)→Option β)→Option β
def yD (β:Type) (L:Nat) (p0 zKT zL7:List (List V)) (k_fin:List (List V)→List (List V)→Option β):Option β:=zec ya L p0 zKT zL7 k_fin
def zef (yD:zd5) (L:Nat) (β:Type) (args:List V) (bor:Bor) (k:KK β):Option β:=match args,bor with
 | [a0,a1,a2],[(.live true [w0_0]),(.live false [w1_0])]=>aL 5 a0 fun p0=>aP 0 0 a1 (aP 1 0 a2 (aL 4 w0_0 fun zKT=>aGs 3 w1_0 fun zL7=>yD β L p0 zKT zL7 (fun zKT zL7=>k (V.tup []) [(.live true [(V.sl 4 zKT)]),(.live false [(V.gs 3 zL7)])])))
 | _,_=>none
theorem zqW (L:Nat) (β:Type) (args:List V) (bor:Bor) (k:KK β) (r:β) (h:zef yD L β args bor k=some r):zt zay (zax ya L) L zbb args bor k=some r:=by
 unfold zef at h
 split at h
 ·have q:=zZ h; clear h; obtain ⟨p0,rfl,h⟩:=q
  have q:=zlF h; clear h; obtain ⟨rfl,h⟩:=q
  have q:=zlF h; clear h; obtain ⟨rfl,h⟩:=q
  have q:=zZ h; clear h; obtain ⟨zKT,rfl,h⟩:=q
  have q:=zJR h; clear h; obtain ⟨zL7,rfl,h⟩:=q
  exact (zqr ya L p0 zKT zL7 k).trans h
 ·cases h
def zet:CF:=⟨28,[.tmp 6],
 (.seq (.reg [oo 3 (.box true (tq 0)),
   oo 4 (.box true (tq 1)),
   oo 6 (.move (.const (.gs 3 [])) true)])
 (.seq (.reg [oo 7 (.alloc false [(.gs 3 [])])])
 (.seq (.reg [oo 9 (.makeFunc 284 [(tq 4),(tq 7)]),
   oo 8 (.move (tq 9) false)])
 (.seq (.seq (.reg [oo 10 (.move (tq 2) false)])
 (.block 0 (.seq (.reg [oo 12 (.bin .eql (tq 10) (.const (.sc (.int .i64 2)))),
   oo 11 (.move (tq 12) false)])
 (.cond (tq 11)
 (.seq (.reg [oo 13 (.move (tq 8) false),
   oo 14 (.fieldAddr 33 (tq 3)),
   oo 15 (.load false 1 (tq 14) false),
   oo 16 (.callv (tq 13) [((tq 15),0)] [])])
 (.reg [oo 17 (.move (tq 8) false),
   oo 18 (.fieldAddr 32 (tq 3)),
   oo 19 (.load false 1 (tq 18) false),
   oo 20 (.callv (tq 17) [((tq 19),0)] [])]))
 (.seq (.reg [oo 22 (.bin .eql (tq 10) (.const (.sc (.int .i64 3)))),
   oo 21 (.move (tq 22) false)])
 (.cond (tq 21)
 (.reg [oo 23 (.move (tq 8) false),
   oo 24 (.fieldAddr 32 (tq 3)),
   oo 25 (.load false 1 (tq 24) false),
   oo 26 (.callv (tq 23) [((tq 25),0)] [])])
 .skip))))))
 (.seq (.reg [oo 27 (.load false 1 (tq 7) false),
   oo 6 (.move (tq 27) true)])
 .ret)))))⟩
def zkP:Hint:=⟨[(0,0),(0,1),(0,2),(9,1)],[],[none,none,none,none],[],[],false,false⟩
def zhl:Nat→Sh:=zP [(15,(.sl 5)),(19,(.sl 5)),(25,(.sl 5))]
def zhi (yD:zd5) (L:Nat):CBC:=(zw 284 (zef yD L) noC)
def zhL {β:Type} (yD:zd5) (L:Nat) (p0:List V) (p1:List (List V)) (p2:Int) (k_fin:List (List V)→Option β):Option β :=
 ifb ((p2:Int) == (2:Int)) (
 cLd 5 p0 33 fun v0 =>
 yD β L v0 p1 ([]:List (List V)) (fun v1 v2 =>
 cLd 5 p0 32 fun v3 =>
 yD β L v3 v1 v2 (fun v4 v5 =>
 k_fin v5))) (
 ifb ((p2:Int) == (3:Int)) (
 cLd 5 p0 32 fun v6 =>
 yD β L v6 p1 ([]:List (List V)) (fun v7 v8 =>
 k_fin v8)) (
 k_fin ([]:List (List V))))
theorem zsh {β:Type} (yD:zd5) (L:Nat) (p0:List V) (p1:List (List V)) (p2:Int) (k:KK β):zt zhl (zhi yD L) L zet [(V.agg p0),(V.sl 4 p1),(V.sc (.int .i64 p2))] [] k=zhL yD L p0 p1 p2 (fun p0=>k (V.sl 3 p0) []):=by kernel_rfl
abbrev yn:=∀ (β:Type),Nat→List V→List (List V)→Int→(List (List V)→Option β)→Option β
def zb (β:Type) (L:Nat) (p0:List V) (p1:List (List V)) (p2:Int) (k_fin:List (List V)→Option β):Option β:=zhL yD L p0 p1 p2 k_fin
def zct (zb:yn) (L:Nat) (β:Type) (args:List V) (bor:Bor) (k:KK β):Option β:=match args,bor with
 | [a0,a1,a2],[]=>aG a0 fun p0=>aL 4 a1 fun p1=>aI .i64 a2 fun p2=>zb β L p0 p1 p2 (fun p0=>k (V.sl 3 p0) [])
 | _,_=>none
theorem zsk (L:Nat) (β:Type) (args:List V) (bor:Bor) (k:KK β) (r:β) (h:zct zb L β args bor k=some r):zt zhl (zhi yD L) L zet args bor k=some r:=by
 unfold zct at h
 split at h
 ·have q:=xY h; clear h; obtain ⟨p0,rfl,h⟩:=q
  have q:=zZ h; clear h; obtain ⟨p1,rfl,h⟩:=q
  have q:=zaC h; clear h; obtain ⟨p2,rfl,h⟩:=q
  exact (zsh yD L p0 p1 p2 k).trans h
 ·cases h
end
end Go.Proofs.Ytpafdnidhnldhaa
