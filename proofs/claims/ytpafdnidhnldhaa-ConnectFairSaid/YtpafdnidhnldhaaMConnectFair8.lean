/- Part 8 of the proof of ConnectFair: an abstract machine over plain values, its soundness, and the functions of the program on plain values. -/
import Derived.Test.YtpafdnidhnldhaaRows
import Derived.Test.YtpafdnidhnldhaaMConnectFair7
namespace Go.Proofs.Ytpafdnidhnldhaa
section
set_option maxRecDepth 100000
set_option linter.unusedVariables false
set_option linter.unusedSimpArgs false
def zhZ:CF:=⟨13,[.tmp 2],
 (.seq (.reg [oo 2 (.move (.const (.sc (.bool false))) false)])
 (.seq (.reg [oo 3 (.move (tq 0) false),
   oo 4 (.bin .eql (tq 3) (.const (.sc (.int .i64 1)))),
   oo 5 (.move (tq 4) false),
   ⟨(some 6),false,(some (5,false)),.move (tq 0) false⟩,
   ⟨(some 7),false,(some (5,false)),.bin .eql (tq 6) (.const (.sc (.int .i64 2)))⟩,
   oo 8 (.pick (tq 5) (.const (.sc (.bool true))) (tq 7)),
   oo 9 (.move (tq 8) false),
   ⟨(some 10),false,(some (9,false)),.move (tq 0) false⟩,
   ⟨(some 11),false,(some (9,false)),.bin .eql (tq 10) (.const (.sc (.int .i64 3)))⟩,
   oo 12 (.pick (tq 9) (.const (.sc (.bool true))) (tq 11)),
   oo 2 (.move (tq 12) false)])
 .ret))⟩
def zpc:Hint:=⟨[],[],[none],[],[],false,false⟩
def zl4:Nat→Sh:=xO []
def zl5 (L:Nat):CBC:=noC
def znt {β:Type} (L:Nat) (p0:Int) (k_fin:Bool→Option β):Option β :=
 ifb ((p0:Int) == (1:Int)) (
 k_fin true) (
 ifb ((p0:Int) == (2:Int)) (
 k_fin true) (
 k_fin ((p0:Int) == (3:Int))))
theorem zwz {β:Type} (L:Nat) (p0:Int) (k:KK β):xr zl4 (zl5 L) L zhZ [(V.sc (.int .i64 p0))] [] k=znt L p0 (fun p0=>k (V.sc (.bool p0)) []):=by kernel_rfl
abbrev xW:=∀ (β:Type),Nat→Int→(Bool→Option β)→Option β
def yi (β:Type) (L:Nat) (p0:Int) (k_fin:Bool→Option β):Option β:=znt L p0 k_fin
def zf7 (yi:xW) (L:Nat) (β:Type) (args:List V) (bor:Bor) (k:KK β):Option β:=match args,bor with
 | [a0],[]=>aI .i64 a0 fun p0=>yi β L p0 (fun p0=>k (V.sc (.bool p0)) [])
 | _,_=>none
theorem zxb (L:Nat) (β:Type) (args:List V) (bor:Bor) (k:KK β) (r:β) (h:zf7 yi L β args bor k=some r):xr zl4 (zl5 L) L zhZ args bor k=some r:=by
 unfold zf7 at h
 split at h
 ·have q:=zau h; clear h; obtain ⟨p0,rfl,h⟩:=q
  exact (zwz L p0 k).trans h
 ·cases h
def zgZ:CF:=⟨6,[.tmp 2],
 (.seq (.reg [oo 1 (.box true (tq 0)),
   oo 2 (.move (.const (.sc (.int .u32 0))) false)])
 (.seq (.reg [oo 3 (.fieldAddr 0 (tq 1)),
   oo 4 (.load false 1 (tq 3) false),
   oo 5 (.bin .shr (tq 4) (.const (.sc (.int .u64 16)))),
   oo 2 (.move (tq 5) false)])
 .ret))⟩
def zod:Hint:=⟨[],[],[none],[],[],false,false⟩
def zkZ:Nat→Sh:=xO [(4,(.int .u32))]
def zk4 (L:Nat):CBC:=noC
def zmb {β:Type} (L:Nat) (p0:List V) (k_fin:Int→Option β):Option β :=
 cI .u32 p0 0 fun v0 =>
 lt (zoj .u32 v0 (16:Int)) fun x1 =>
 k_fin x1
theorem zvW {β:Type} (L:Nat) (p0:List V) (k:KK β):xr zkZ (zk4 L) L zgZ [(V.agg p0)] [] k=zmb L p0 (fun p0=>k (V.sc (.int .u32 p0)) []):=by kernel_rfl
abbrev zq:=∀ (β:Type),Nat→List V→(Int→Option β)→Option β
def yb (β:Type) (L:Nat) (p0:List V) (k_fin:Int→Option β):Option β:=zmb L p0 k_fin
def zbQ (yb:zq) (L:Nat) (β:Type) (args:List V) (bor:Bor) (k:KK β):Option β:=match args,bor with
 | [a0],[]=>aG a0 fun p0=>yb β L p0 (fun p0=>k (V.sc (.int .u32 p0)) [])
 | _,_=>none
theorem zvx (L:Nat) (β:Type) (args:List V) (bor:Bor) (k:KK β) (r:β) (h:zbQ yb L β args bor k=some r):xr zkZ (zk4 L) L zgZ args bor k=some r:=by
 unfold zbQ at h
 split at h
 ·have q:=yZ h; clear h; obtain ⟨p0,rfl,h⟩:=q
  exact (zvW L p0 k).trans h
 ·cases h
def zfF:CF:=⟨10,[.tmp 3],
 (.seq (.reg [oo 2 (.box true (tq 0)),
   oo 3 (.move (.const (.sc (.bool false))) false)])
 (.seq (.dreg [] [(oo 4 (.fieldAddr 1 (tq 2)),q0),
   (oo 5 (.load true 3 (tq 4) false),ql 2 [1] []),
   (oo 6 (.call 269 [((tq 5),0)] []),qc [1] []),
   (oo 7 (.load true 3 (tq 1) false),ql 1 [2] []),
   (oo 8 (.call 269 [((tq 7),0)] []),q0),
   (oo 9 (.bin .eql (tq 6) (tq 8)),q0),
   (oo 3 (.move (tq 9) false),q0)])
 .ret))⟩
def zmt:Hint:=⟨[],[],[none],[],[],false,false⟩
def ziN:Nat→Sh:=xO []
def zis (yb:zq) (L:Nat):CBC:=(xu 269 (zbQ yb L) noC)
def zjT {β:Type} (yb:zq) (L:Nat) (p0 b0:List V) (k_fin:Bool→List V→Option β):Option β :=
 chk (1+3≤(List.length p0)) (
 yb β L (List.take 3 (List.drop 1 p0)) (fun v0 =>
 chk (0+3≤(List.length b0)) (
 yb β L (List.take 3 b0) (fun v1 =>
 k_fin ((v0:Int) == v1) b0))))
theorem zt5 {β:Type} (yb:zq) (L:Nat) (p0 b0:List V) (k:KK β):xr ziN (zis yb L) L zfF [(V.agg p0),(V.ptr 0 0)] [(.live true b0)] k=zjT yb L p0 b0 (fun p0 b0=>k (V.sc (.bool p0)) [(.live true b0)]):=by kernel_rfl
abbrev yV:=∀ (β:Type),Nat→List V→List V→(Bool→List V→Option β)→Option β
def xi (β:Type) (L:Nat) (p0 b0:List V) (k_fin:Bool→List V→Option β):Option β:=zjT yb L p0 b0 k_fin
def zfY (xi:yV) (L:Nat) (β:Type) (args:List V) (bor:Bor) (k:KK β):Option β:=match args,bor with
 | [a0,a1],[(.live true b0)]=>aG a0 fun p0=>aP 0 0 a1 (xi β L p0 b0 (fun p0 b0=>k (V.sc (.bool p0)) [(.live true b0)]))
 | _,_=>none
theorem ztN (L:Nat) (β:Type) (args:List V) (bor:Bor) (k:KK β) (r:β) (h:zfY xi L β args bor k=some r):xr ziN (zis yb L) L zfF args bor k=some r:=by
 unfold zfY at h
 split at h
 ·have q:=yZ h; clear h; obtain ⟨p0,rfl,h⟩:=q
  have q:=zlx h; clear h; obtain ⟨rfl,h⟩:=q
  exact (zt5 yb L p0 _ k).trans h
 ·cases h
def z7:CC:=(.seq (.reg [oo 9 (.bin .lss (tq 8) (tq 7))])
 (.seq (.cond (tq 9)
 .skip
 (.seq (.mask (bl 0 19) (bl 458703 19))
 (.exit 0)))
 (.seq (.block 1 (.seq (.reg [oo 10 (.move (tq 8) false),
   oo 5 (.move (tq 10) false)])
 (.seq (.reg [oo 11 (.move (tq 1) false),
   oo 12 (.move (tq 0) false),
   oo 13 (.move (tq 5) false),
   oo 14 (.indexAddrS 4 (tq 12) (tq 13)),
   oo 15 (.load true 4 (tq 14) false),
   oo 16 (.callv (tq 11) [((tq 15),0)] [])])
 (.cond (tq 16)
 (.seq (.reg [oo 17 (.move (tq 5) false),
   oo 4 (.move (tq 17) false)])
 (.seq (.mask (bl 16 19) (bl 458719 19))
 .ret))
 .skip))))
 (.reg [oo 18 (.bin .add (tq 8) (.const (.sc (.int .i64 1)))),
   oo 8 (.move (tq 18) false)]))))
def zaT:CC:=(.seq (.reg [oo 4 (.move (.const (.sc (.int .i64 (-1)))) false)])
 .ret)
def zL:CF:=⟨19,[.tmp 4],
 (.seq (.reg [oo 4 (.move (.const (.sc (.int .i64 0))) false)])
 (.seq (.seq (.reg [oo 6 (.move (tq 0) false),
   oo 7 (.lenS (tq 6)),
   oo 8 (.move (.const (.sc (.int .i64 0))) false)])
 (.block 0 (.loop (bl 387 19) (bl 458703 19)
 z7)))
 zaT))⟩
def zdl:Hint:=⟨[],[],[none,some ((bl 387 19),(bl 458703 19)),none,some ((bl 0 19),(bl 458703 19)),none,none,some ((bl 16 19),(bl 458719 19)),none],[],[],false,false⟩
def xB:Nat→Sh:=xO []
def zC (xi:yV) (L:Nat):CBC:=(xu 301 (zfY xi L) noC)
def zaA:St→St:=zac 1 (bl 387 19) (bl 458703 19)
def zaq (p0:List (List V)) (p7 p8:Int) (b0:List V):St:=⟨((V.sl 4 p0)::((V.fn 301 [(V.ptr 0 0)])::(jn 5 ((V.sc (.int .i64 p7))::((V.sc (.int .i64 p8))::(jn 10 [])))))),((.live true b0)::(gn 19 []))⟩
def zbu (p4:Int) (b0:List V):St:=⟨(jn 4 ((V.sc (.int .i64 p4))::(jn 14 []))),((.live true b0)::(gn 19 []))⟩
def zbM (b0:List V):St:=⟨(jn 19 []),((.live true b0)::(gn 19 []))⟩
def zb7 {β:Type} (xi:yV) (L:Nat) (p0:List (List V)) (b0:List V) (k_hbaba:List (List V)→Int→Int→List V→Option β):Option β :=
 k_hbaba p0 ((List.length p0:Nat):Int) (0:Int) b0
theorem zhW {β:Type} (xi:yV) (L:Nat) (p0:List (List V)) (b0:List V) (k:KK β):xr xB (zC xi L) L zL [(V.sl 4 p0),(V.fn 301 [(V.ptr 0 0)])] [(.live true b0)] k=zb7 xi L p0 b0 (fun p0 p7 p8 b0=>zH (yn xB (zC xi L) 1 L z7) zaA L (zaq p0 p7 p8 b0) (yH 0 (zV (yn xB (zC xi L) 1 L zaT) (y6 1 (CF.res zL) k)))):=by kernel_rfl
def zbJ {β:Type} (xi:yV) (L:Nat) (p0:List (List V)) (p7 p8:Int) (b0:List V) (k_ret:Int→List V→Option β) (k_hbaba:List (List V)→Int→Int→List V→Option β) (k_x0:List V→Option β):Option β :=
 ifb (decide (p8 < p7)) (
 idx p0 p8 fun c0 =>
 xi β L (List.take 4 c0) b0 (fun v1 v2 =>
 chk ([(List.length v2)]=[(List.length b0)]) (
 ifb v1 (
 k_ret p8 v2) (
 lt (IntKind.wrap .i64 ((p8:Int)+(1:Int))) fun x3 =>
 k_hbaba p0 p7 x3 v2)))) (
 k_x0 b0)
theorem zgD {β:Type} (xi:yV) (L:Nat) (p0:List (List V)) (p7 p8:Int) (b0:List V) (X:St→Option β) (K:KT β):yn xB (zC xi L) 1 L z7 (zaq p0 p7 p8 b0) (zcC zaA X K)=zbJ xi L p0 p7 p8 b0 (fun p4 b0=>K .ret (zbu p4 b0)) (fun p0 p7 p8 b0=>X (zaq p0 p7 p8 b0)) (fun b0=>K (.exit 0) (zbM b0)):=by kernel_rfl
def zbf {β:Type} (xi:yV) (L:Nat) (p4:Int) (b0:List V) (k_fin:Int→List V→Option β):Option β :=
 k_fin p4 b0
theorem zfJ {β:Type} (xi:yV) (L:Nat) (p4:Int) (b0:List V) (k:KK β):(yH 0 (zV (yn xB (zC xi L) 1 L zaT) (y6 1 (CF.res zL) k))) .ret (zbu p4 b0)=zbf xi L p4 b0 (fun p0 b0=>k (V.sc (.int .i64 p0)) [(.live true b0)]):=by kernel_rfl
def zbk {β:Type} (xi:yV) (L:Nat) (b0:List V) (k_fin:Int→List V→Option β):Option β :=
 k_fin (-1:Int) b0
theorem zfV {β:Type} (xi:yV) (L:Nat) (b0:List V) (k:KK β):(yH 0 (zV (yn xB (zC xi L) 1 L zaT) (y6 1 (CF.res zL) k))) (.exit 0) (zbM b0)=zbk xi L b0 (fun p0 b0=>k (V.sc (.int .i64 p0)) [(.live true b0)]):=by kernel_rfl
def y8 {β:Type} (xi:yV) (L:Nat) (k_ret:Int→List V→Option β) (k_x0:List V→Option β):Nat→List (List V)→Int→Int→List V→Option β
 | 0,_,_,_,_=>none
 | n+1,p0,p7,p8,b0=>zbJ xi L p0 p7 p8 b0 k_ret (fun p0 p7 p8 b0=>y8 xi L k_ret k_x0 n p0 p7 p8 b0) k_x0
theorem zcO {β:Type} (xi:yV) (L:Nat) (K:KT β):∀ (n:Nat) (p0:List (List V)) (p7 p8:Int) (b0:List V),zH (yn xB (zC xi L) 1 L z7) zaA n (zaq p0 p7 p8 b0) K=y8 xi L (fun p4 b0=>K .ret (zbu p4 b0)) (fun b0=>K (.exit 0) (zbM b0)) n p0 p7 p8 b0:=by
 intro n
 induction n with
 | zero=>intros; rfl
 | succ n ih =>
  intro p0 p7 p8 b0
  refine (zgD xi L p0 p7 p8 b0 (fun σ=>zH (yn xB (zC xi L) 1 L z7) zaA n σ K) K).trans ?_
  simp only [ih]
  rfl
def za4 {β:Type} (xi:yV) (L:Nat) (p0:List (List V)) (b0:List V) (k_fin:Int→List V→Option β):Option β :=
 zb7 xi L p0 b0 (fun p0 p7 p8 b0=>y8 xi L (fun p4 b0=>zbf xi L p4 b0 k_fin) (fun b0=>zbk xi L b0 k_fin) L p0 p7 p8 b0)
theorem zh2 {β:Type} (xi:yV) (L:Nat) (p0:List (List V)) (b0:List V) (k:KK β):xr xB (zC xi L) L zL [(V.sl 4 p0),(V.fn 301 [(V.ptr 0 0)])] [(.live true b0)] k=za4 xi L p0 b0 (fun p0 b0=>k (V.sc (.int .i64 p0)) [(.live true b0)]):=by
 refine (zhW xi L p0 b0 k).trans ?_
 unfold za4
 first
  | (simp only [zcO,zfJ,zfV]; done)
  | (simp only [zcO]; rfl)
abbrev za2:=∀ (β:Type),Nat→List (List V)→List V→(Int→List V→Option β)→Option β
def zs (β:Type) (L:Nat) (p0:List (List V)) (b0:List V) (k_fin:Int→List V→Option β):Option β:=za4 xi L p0 b0 k_fin
def za3 (zs:za2) (L:Nat) (β:Type) (args:List V) (bor:Bor) (k:KK β):Option β:=match args,bor with
 | [a0,a1],[(.live true b0)]=>aL 4 a0 fun p0=>aF 301 [(0,0)] a1 (zs β L p0 b0 (fun p0 b0=>k (V.sc (.int .i64 p0)) [(.live true b0)]))
 | _,_=>none
theorem zhF (L:Nat) (β:Type) (args:List V) (bor:Bor) (k:KK β) (r:β) (h:za3 zs L β args bor k=some r):xr xB (zC xi L) L zL args bor k=some r:=by
 unfold za3 at h
 split at h
 ·have q:=z9 h; clear h; obtain ⟨p0,rfl,h⟩:=q
  have q:=ztT h; clear h; obtain ⟨rfl,h⟩:=q
  exact (zh2 xi L p0 _ k).trans h
 ·cases h
def zaz:CF:=⟨9,[.tmp 4],
 (.seq (.reg [oo 4 (.move (.const (.sc (.bool false))) false)])
 (.seq (.reg [oo 5 (.move (tq 0) false),
   oo 6 (.move (tq 1) false),
   oo 7 (.call 306 [((tq 5),2),((tq 6),2)] []),
   oo 8 (.bin .geq (tq 7) (.const (.sc (.int .i64 0)))),
   oo 4 (.move (tq 8) false)])
 .ret))⟩
def zcY:Hint:=⟨[(1,2)],[],[none],[],[],false,false⟩
def zbI:Nat→Sh:=xO []
def zbL (zs:za2) (L:Nat):CBC:=(xu 306 (za3 zs L) noC)
def zbS {β:Type} (zs:za2) (L:Nat) (p0:List (List V)) (b0:List V) (k_fin:Bool→List V→Option β):Option β :=
 zs β L p0 b0 (fun v0 v1 =>
 chk ([(List.length v1)]=[(List.length b0)]) (
 k_fin (decide (v0 ≥ (0:Int))) v1))
theorem zgO {β:Type} (zs:za2) (L:Nat) (p0:List (List V)) (b0:List V) (k:KK β):xr zbI (zbL zs L) L zaz [(V.sl 4 p0),(V.fn 301 [(V.ptr 0 0)])] [(.live true b0)] k=zbS zs L p0 b0 (fun p0 b0=>k (V.sc (.bool p0)) [(.live true b0)]):=by kernel_rfl
abbrev zaK:=∀ (β:Type),Nat→List (List V)→List V→(Bool→List V→Option β)→Option β
def yp (β:Type) (L:Nat) (p0:List (List V)) (b0:List V) (k_fin:Bool→List V→Option β):Option β:=zbS zs L p0 b0 k_fin
def zaH (yp:zaK) (L:Nat) (β:Type) (args:List V) (bor:Bor) (k:KK β):Option β:=match args,bor with
 | [a0,a1],[(.live true b0)]=>aL 4 a0 fun p0=>aF 301 [(0,0)] a1 (yp β L p0 b0 (fun p0 b0=>k (V.sc (.bool p0)) [(.live true b0)]))
 | _,_=>none
theorem zgN (L:Nat) (β:Type) (args:List V) (bor:Bor) (k:KK β) (r:β) (h:zaH yp L β args bor k=some r):xr zbI (zbL zs L) L zaz args bor k=some r:=by
 unfold zaH at h
 split at h
 ·have q:=z9 h; clear h; obtain ⟨p0,rfl,h⟩:=q
  have q:=ztT h; clear h; obtain ⟨rfl,h⟩:=q
  exact (zgO zs L p0 _ k).trans h
 ·cases h
def zg2:CF:=⟨8,[.tmp 4],
 (.seq (.reg [oo 3 (.box true (tq 1)),
   oo 4 (.move (.const (.sc (.bool false))) false)])
 (.seq (.reg [oo 5 (.move (tq 0) false),
   oo 6 (.makeFunc 301 [(tq 3)]),
   oo 7 (.call 300 [((tq 5),2),((tq 6),2)] []),
   oo 4 (.move (tq 7) false)])
 .ret))⟩
def zn9:Hint:=⟨[(1,2)],[],[none],[],[],false,false⟩
def zkV:Nat→Sh:=xO []
def zlb (yp:zaK) (L:Nat):CBC:=(xu 300 (zaH yp L) noC)
def zma {β:Type} (yp:zaK) (L:Nat) (p0:List (List V)) (p1:List V) (k_fin:Bool→Option β):Option β :=
 yp β L p0 p1 (fun v0 v1 =>
 chk ([(List.length v1)]=[(List.length p1)]) (
 k_fin v0))
theorem zvZ {β:Type} (yp:zaK) (L:Nat) (p0:List (List V)) (p1:List V) (k:KK β):xr zkV (zlb yp L) L zg2 [(V.sl 4 p0),(V.agg p1)] [] k=zma yp L p0 p1 (fun p0=>k (V.sc (.bool p0)) []):=by kernel_rfl
abbrev xp:=∀ (β:Type),Nat→List (List V)→List V→(Bool→Option β)→Option β
def xa (β:Type) (L:Nat) (p0:List (List V)) (p1:List V) (k_fin:Bool→Option β):Option β:=zma yp L p0 p1 k_fin
def zc2 (xa:xp) (L:Nat) (β:Type) (args:List V) (bor:Bor) (k:KK β):Option β:=match args,bor with
 | [a0,a1],[]=>aL 4 a0 fun p0=>aG a1 fun p1=>xa β L p0 p1 (fun p0=>k (V.sc (.bool p0)) [])
 | _,_=>none
theorem zvK (L:Nat) (β:Type) (args:List V) (bor:Bor) (k:KK β) (r:β) (h:zc2 xa L β args bor k=some r):xr zkV (zlb yp L) L zg2 args bor k=some r:=by
 unfold zc2 at h
 split at h
 ·have q:=z9 h; clear h; obtain ⟨p0,rfl,h⟩:=q
  have q:=yZ h; clear h; obtain ⟨p1,rfl,h⟩:=q
  exact (zvZ yp L p0 p1 k).trans h
 ·cases h
def zc5:CC:=(.seq (.reg [oo 11 (.bin .lss (tq 10) (tq 9))])
 (.seq (.cond (tq 11)
 .skip
 (.seq (.mask (bl 0 28) (bl 234749923 28))
 (.exit 0)))
 (.seq (.block 1 (.seq (.reg [oo 12 (.move (tq 10) false),
   oo 13 (.indexAddrS 4 (tq 8) (tq 10)),
   oo 14 (.load true 4 (tq 13) false),
   oo 4 (.alloc true [(.sc (.int .i64 0)),(.sc (.int .u32 0)),(.sc (.int .u16 0)),(.sc (.int .u32 0))]),
   oo 3 (.move (tq 12) false),
   oz (.store 4 (tq 4) (tq 14))])
 (.seq (.dreg [] [(oo 15 (.fieldAddr 0 (tq 4)),q0),
   (oo 16 (.load false 1 (tq 15) false),q0),
   (oo 17 (.call 285 [((tq 16),0)] []),q0),
   (oo 18 (.un .not (tq 17)),q0),
   (oo 19 (.move (tq 18) false),q0),
   (⟨(some 20),false,(some (19,false)),.move (tq 0) false⟩,q0),
   (⟨(some 21),false,(some (19,false)),.move (tq 3) false⟩,q0),
   (⟨(some 22),false,(some (19,false)),.sliceS 4 (tq 20) none (some (tq 21)) none⟩,q0),
   (⟨(some 23),false,(some (19,false)),.fieldAddr 1 (tq 4)⟩,q0),
   (⟨(some 24),false,(some (19,false)),.load true 3 (tq 23) false⟩,q0),
   (⟨(some 25),false,(some (19,false)),.call 278 [((tq 22),0),((tq 24),0)] []⟩,q0),
   (oo 26 (.pick (tq 19) (.const (.sc (.bool true))) (tq 25)),q0)])
 (.cond (tq 26)
 (.seq (.reg [oo 2 (.move (.const (.sc (.bool false))) false)])
 (.seq (.mask (bl 4 28) (bl 234749927 28))
 .ret))
 .skip))))
 (.reg [oo 27 (.bin .add (tq 10) (.const (.sc (.int .i64 1)))),
   oo 10 (.move (tq 27) false)]))))
def zgp:CC:=(.seq (.reg [oo 2 (.move (.const (.sc (.bool true))) false)])
 .ret)
def zb8:CF:=⟨28,[.tmp 2],
 (.seq (.reg [oo 2 (.move (.const (.sc (.bool false))) false)])
 (.seq (.seq (.reg [oo 5 (.move (tq 0) false),
   oo 6 (.lenS (tq 5)),
   oo 7 (.bin .gtr (tq 6) (.const (.sc (.int .i64 8))))])
 (.cond (tq 7)
 (.seq (.reg [oo 2 (.move (.const (.sc (.bool false))) false)])
 .ret)
 .skip))
 (.seq (.seq (.reg [oo 8 (.move (tq 0) false),
   oo 9 (.lenS (tq 8)),
   oo 10 (.move (.const (.sc (.int .i64 0))) false)])
 (.block 0 (.loop (bl 1793 28) (bl 234749923 28)
 zc5)))
 zgp)))⟩
def zpi:Hint:=⟨[],[],[none,none,none,some ((bl 1793 28),(bl 234749923 28)),none,some ((bl 0 28),(bl 234749923 28)),none,none,some ((bl 4 28),(bl 234749927 28)),none],[],[],false,false⟩
def zaY:Nat→Sh:=xO [(16,(.int .i64))]
def zaX (yi:xW) (xa:xp) (L:Nat):CBC:=(xu 278 (zc2 xa L) (xu 285 (zf7 yi L) noC))
def zeY:St→St:=zac 0 (bl 1793 28) (bl 234749923 28)
def zdC (p0 p8:List (List V)) (p9 p10:Int):St:=⟨((V.sl 4 p0)::(jn 7 ((V.sl 4 p8)::((V.sc (.int .i64 p9))::((V.sc (.int .i64 p10))::(jn 17 [])))))),(gn 28 [])⟩
def zif (p2:Bool):St:=⟨(jn 2 ((V.sc (.bool p2))::(jn 25 []))),(gn 28 [])⟩
def ziL:St:=⟨(jn 28 []),(gn 28 [])⟩
def zmH {β:Type} (yi:xW) (xa:xp) (L:Nat) (p0:List (List V)) (k_fin:Bool→Option β) (k_hbbaba:List (List V)→List (List V)→Int→Int→Option β):Option β :=
 ifb (decide (((List.length p0:Nat):Int) > (8:Int))) (
 k_fin false) (
 k_hbbaba p0 p0 ((List.length p0:Nat):Int) (0:Int))
theorem zwu {β:Type} (yi:xW) (xa:xp) (L:Nat) (p0:List (List V)) (k:KK β):xr zaY (zaX yi xa L) L zb8 [(V.sl 4 p0)] [] k=zmH yi xa L p0 (fun p0=>k (V.sc (.bool p0)) []) (fun p0 p8 p9 p10=>zH (yn zaY (zaX yi xa L) 0 L zc5) zeY L (zdC p0 p8 p9 p10) (yH 0 (zV (yn zaY (zaX yi xa L) 0 L zgp) (y6 0 (CF.res zb8) k)))):=by kernel_rfl
def zhC {β:Type} (yi:xW) (xa:xp) (L:Nat) (p0 p8:List (List V)) (p9 p10:Int) (k_ret:Bool→Option β) (k_hbbaba:List (List V)→List (List V)→Int→Int→Option β) (k_x0:Option β):Option β :=
 ifb (decide (p10 < p9)) (
 idx p8 p10 fun c0 =>
 chk ((List.length (List.take 4 c0))=4∧0+4≤4) (
 lt (xg [(V.sc (.int .i64 (0:Int))),(V.sc (.int .u32 (0:Int))),(V.sc (.int .u16 (0:Int))),(V.sc (.int .u32 (0:Int)))] 0 (List.take 4 c0)) fun r1 =>
 cI .i64 r1 0 fun v2 =>
 yi β L v2 (fun v3 =>
 ifb (!v3) (
 k_ret false) (
 chk (0≤p10∧p10≤(((List.length p0):Nat):Int)) (
 chk (1+3≤(List.length r1)) (
 xa β L (List.take ((Int.toNat p10) - 0) (List.drop 0 p0)) (List.take 3 (List.drop 1 r1)) (fun v4 =>
 ifb v4 (
 k_ret false) (
 lt (IntKind.wrap .i64 ((p10:Int)+(1:Int))) fun x5 =>
 k_hbbaba p0 p8 p9 x5)))))))) (
 k_x0)
theorem zr6 {β:Type} (yi:xW) (xa:xp) (L:Nat) (p0 p8:List (List V)) (p9 p10:Int) (X:St→Option β) (K:KT β):yn zaY (zaX yi xa L) 0 L zc5 (zdC p0 p8 p9 p10) (zcC zeY X K)=zhC yi xa L p0 p8 p9 p10 (fun p2=>K .ret (zif p2)) (fun p0 p8 p9 p10=>X (zdC p0 p8 p9 p10)) (K (.exit 0) (ziL)):=by kernel_rfl
def zky {β:Type} (yi:xW) (xa:xp) (L:Nat) (p2:Bool) (k_fin:Bool→Option β):Option β :=
 k_fin p2
theorem zpU {β:Type} (yi:xW) (xa:xp) (L:Nat) (p2:Bool) (k:KK β):(yH 0 (zV (yn zaY (zaX yi xa L) 0 L zgp) (y6 0 (CF.res zb8) k))) .ret (zif p2)=zky yi xa L p2 (fun p0=>k (V.sc (.bool p0)) []):=by kernel_rfl
def zll {β:Type} (yi:xW) (xa:xp) (L:Nat) (k_fin:Bool→Option β):Option β :=
 k_fin true
theorem zqh {β:Type} (yi:xW) (xa:xp) (L:Nat) (k:KK β):(yH 0 (zV (yn zaY (zaX yi xa L) 0 L zgp) (y6 0 (CF.res zb8) k))) (.exit 0) (ziL)=zll yi xa L (fun p0=>k (V.sc (.bool p0)) []):=by kernel_rfl
def zdj {β:Type} (yi:xW) (xa:xp) (L:Nat) (k_ret:Bool→Option β) (k_x0:Option β):Nat→List (List V)→List (List V)→Int→Int→Option β
 | 0,_,_,_,_=>none
 | n+1,p0,p8,p9,p10=>zhC yi xa L p0 p8 p9 p10 k_ret (fun p0 p8 p9 p10=>zdj yi xa L k_ret k_x0 n p0 p8 p9 p10) k_x0
theorem zkD {β:Type} (yi:xW) (xa:xp) (L:Nat) (K:KT β):∀ (n:Nat) (p0 p8:List (List V)) (p9 p10:Int),zH (yn zaY (zaX yi xa L) 0 L zc5) zeY n (zdC p0 p8 p9 p10) K=zdj yi xa L (fun p2=>K .ret (zif p2)) (K (.exit 0) (ziL)) n p0 p8 p9 p10:=by
 intro n
 induction n with
 | zero=>intros; rfl
 | succ n ih =>
  intro p0 p8 p9 p10
  refine (zr6 yi xa L p0 p8 p9 p10 (fun σ=>zH (yn zaY (zaX yi xa L) 0 L zc5) zeY n σ K) K).trans ?_
  simp only [ih]
  rfl
def zji {β:Type} (yi:xW) (xa:xp) (L:Nat) (p0:List (List V)) (k_fin:Bool→Option β):Option β :=
 zmH yi xa L p0 k_fin (fun p0 p8 p9 p10=>zdj yi xa L (fun p2=>zky yi xa L p2 k_fin) (zll yi xa L k_fin) L p0 p8 p9 p10)
theorem zwB {β:Type} (yi:xW) (xa:xp) (L:Nat) (p0:List (List V)) (k:KK β):xr zaY (zaX yi xa L) L zb8 [(V.sl 4 p0)] [] k=zji yi xa L p0 (fun p0=>k (V.sc (.bool p0)) []):=by
 refine (zwu yi xa L p0 k).trans ?_
 unfold zji
 first
  | (simp only [zkD,zpU,zqh]; done)
  | (simp only [zkD]; rfl)
abbrev zD:=∀ (β:Type),Nat→List (List V)→(Bool→Option β)→Option β
def ye (β:Type) (L:Nat) (p0:List (List V)) (k_fin:Bool→Option β):Option β:=zji yi xa L p0 k_fin
def zep (ye:zD) (L:Nat) (β:Type) (args:List V) (bor:Bor) (k:KK β):Option β:=match args,bor with
 | [a0],[]=>aL 4 a0 fun p0=>ye β L p0 (fun p0=>k (V.sc (.bool p0)) [])
 | _,_=>none
theorem zwo (L:Nat) (β:Type) (args:List V) (bor:Bor) (k:KK β) (r:β) (h:zep ye L β args bor k=some r):xr zaY (zaX yi xa L) L zb8 args bor k=some r:=by
 unfold zep at h
 split at h
 ·have q:=z9 h; clear h; obtain ⟨p0,rfl,h⟩:=q
  exact (zwB yi xa L p0 k).trans h
 ·cases h
def zfr:CC:=(.seq (.reg [oo 9 (.bin .lss (tq 8) (tq 7))])
 (.seq (.cond (tq 9)
 .skip
 (.seq (.mask (bl 8 22) (bl 4194255 22))
 (.exit 0)))
 (.seq (.block 1 (.seq (.reg [oo 10 (.move (tq 8) false),
   oo 11 (.indexAddrS 1 (tq 6) (tq 8)),
   oo 12 (.load false 1 (tq 11) false),
   oo 4 (.move (tq 10) false),
   oo 5 (.move (tq 12) false)])
 (.reg [oo 13 (.move (tq 3) false),
   oo 14 (.move (tq 5) false),
   oo 15 (.conv .u64 (tq 14)),
   oo 16 (.move (tq 4) false),
   oo 17 (.bin .mul (.const (.sc (.int .i64 8))) (tq 16)),
   oo 18 (.bin .shl (tq 15) (tq 17)),
   oo 19 (.bin .or (tq 13) (tq 18)),
   oo 3 (.move (tq 19) false)])))
 (.reg [oo 20 (.bin .add (tq 8) (.const (.sc (.int .i64 1)))),
   oo 8 (.move (tq 20) false)]))))
def zpH:CC:=(.seq (.reg [oo 21 (.move (tq 3) false),
   oo 2 (.move (tq 21) false)])
 .ret)
def zgI:CF:=⟨22,[.tmp 2],
 (.seq (.reg [oo 2 (.move (.const (.sc (.int .u64 0))) false)])
 (.seq (.reg [oo 3 (.move (.const (.sc (.int .u64 0))) false)])
 (.seq (.seq (.reg [oo 6 (.move (tq 0) false),
   oo 7 (.lenS (tq 6)),
   oo 8 (.move (.const (.sc (.int .i64 0))) false)])
 (.block 0 (.loop (bl 456 22) (bl 4194255 22)
 zfr)))
 zpH)))⟩
def zvq:Hint:=⟨[],[],[none,some ((bl 456 22),(bl 4194255 22)),none,some ((bl 8 22),(bl 4194255 22)),none,none],[],[],false,false⟩
def zdf:Nat→Sh:=xO [(12,(.int .u8))]
def zdg (L:Nat):CBC:=noC
def zi0:St→St:=zac 0 (bl 456 22) (bl 4194255 22)
def zgf (p3:Int) (p6:List (List V)) (p7 p8:Int):St:=⟨(jn 3 ((V.sc (.int .u64 p3))::(jn 2 ((V.sl 1 p6)::((V.sc (.int .i64 p7))::((V.sc (.int .i64 p8))::(jn 13 []))))))),(gn 22 [])⟩
def zoB (p3:Int):St:=⟨(jn 3 ((V.sc (.int .u64 p3))::(jn 18 []))),(gn 22 [])⟩
def zuW {β:Type} (L:Nat) (p0:List (List V)) (k_hbbaba:Int→List (List V)→Int→Int→Option β):Option β :=
 k_hbbaba (0:Int) p0 ((List.length p0:Nat):Int) (0:Int)
theorem zCL {β:Type} (L:Nat) (p0:List (List V)) (k:KK β):xr zdf (zdg L) L zgI [(V.sl 1 p0)] [] k=zuW L p0 (fun p3 p6 p7 p8=>zH (yn zdf (zdg L) 0 L zfr) zi0 L (zgf p3 p6 p7 p8) (yH 0 (zV (yn zdf (zdg L) 0 L zpH) (y6 0 (CF.res zgI) k)))):=by kernel_rfl
def znx {β:Type} (L:Nat) (p3:Int) (p6:List (List V)) (p7 p8:Int) (k_hbbaba:Int→List (List V)→Int→Int→Option β) (k_x0:Int→Option β):Option β :=
 ifb (decide (p8 < p7)) (
 idx p6 p8 fun c0 =>
 cI .u8 c0 0 fun v1 =>
 lt (IntKind.wrap .u64 v1) fun x2 =>
 lt (IntKind.wrap .i64 (((8:Int):Int) * p8)) fun x3 =>
 chk (0≤x3) (
 lt (zrq .u64 x2 x3) fun x4 =>
 lt (ior .u64 p3 x4) fun x5 =>
 lt (IntKind.wrap .i64 ((p8:Int)+(1:Int))) fun x6 =>
 k_hbbaba x5 p6 p7 x6)) (
 k_x0 p3)
theorem zv9 {β:Type} (L:Nat) (p3:Int) (p6:List (List V)) (p7 p8:Int) (X:St→Option β) (K:KT β):yn zdf (zdg L) 0 L zfr (zgf p3 p6 p7 p8) (zcC zi0 X K)=znx L p3 p6 p7 p8 (fun p3 p6 p7 p8=>X (zgf p3 p6 p7 p8)) (fun p3=>K (.exit 0) (zoB p3)):=by kernel_rfl
def zpZ {β:Type} (L:Nat) (p3:Int) (k_fin:Int→Option β):Option β :=
 k_fin p3
theorem zun {β:Type} (L:Nat) (p3:Int) (k:KK β):(yH 0 (zV (yn zdf (zdg L) 0 L zpH) (y6 0 (CF.res zgI) k))) (.exit 0) (zoB p3)=zpZ L p3 (fun p0=>k (V.sc (.int .u64 p0)) []):=by kernel_rfl
def zf2 {β:Type} (L:Nat) (k_x0:Int→Option β):Nat→Int→List (List V)→Int→Int→Option β
 | 0,_,_,_,_=>none
 | n+1,p3,p6,p7,p8=>znx L p3 p6 p7 p8 (fun p3 p6 p7 p8=>zf2 L k_x0 n p3 p6 p7 p8) k_x0
theorem zo4 {β:Type} (L:Nat) (K:KT β):∀ (n:Nat) (p3:Int) (p6:List (List V)) (p7 p8:Int),zH (yn zdf (zdg L) 0 L zfr) zi0 n (zgf p3 p6 p7 p8) K=zf2 L (fun p3=>K (.exit 0) (zoB p3)) n p3 p6 p7 p8:=by
 intro n
 induction n with
 | zero=>intros; rfl
 | succ n ih =>
  intro p3 p6 p7 p8
  refine (zv9 L p3 p6 p7 p8 (fun σ=>zH (yn zdf (zdg L) 0 L zfr) zi0 n σ K) K).trans ?_
  simp only [ih]
  rfl
def zqx {β:Type} (L:Nat) (p0:List (List V)) (k_fin:Int→Option β):Option β :=
 zuW L p0 (fun p3 p6 p7 p8=>zf2 L (fun p3=>zpZ L p3 k_fin) L p3 p6 p7 p8)
theorem zC4 {β:Type} (L:Nat) (p0:List (List V)) (k:KK β):xr zdf (zdg L) L zgI [(V.sl 1 p0)] [] k=zqx L p0 (fun p0=>k (V.sc (.int .u64 p0)) []):=by
 refine (zCL L p0 k).trans ?_
 unfold zqx
 first
  | (simp only [zo4,zun]; done)
  | (simp only [zo4]; rfl)
abbrev zbO:=∀ (β:Type),Nat→List (List V)→(Int→Option β)→Option β
def yt (β:Type) (L:Nat) (p0:List (List V)) (k_fin:Int→Option β):Option β:=zqx L p0 k_fin
def zno (yt:zbO) (L:Nat) (β:Type) (args:List V) (bor:Bor) (k:KK β):Option β:=match args,bor with
 | [a0],[]=>aL 1 a0 fun p0=>yt β L p0 (fun p0=>k (V.sc (.int .u64 p0)) [])
 | _,_=>none
theorem zCJ (L:Nat) (β:Type) (args:List V) (bor:Bor) (k:KK β) (r:β) (h:zno yt L β args bor k=some r):xr zdf (zdg L) L zgI args bor k=some r:=by
 unfold zno at h
 split at h
 ·have q:=z9 h; clear h; obtain ⟨p0,rfl,h⟩:=q
  exact (zC4 L p0 k).trans h
 ·cases h
def zqi:CF:=⟨8,[.cell 2 true 2],
 (.seq (.reg [oo 1 (.box true (tq 0)),
   oo 2 (.alloc true [(.sc (.int .u64 0)),(.sc (.int .u64 0))])])
 (.seq (.dreg [1] [(oo 3 (.sliceA 32 1 (tq 1) none (some (.const (.sc (.int .i64 8)))) none),q1),
   (oo 4 (.call 112 [((tq 3),0)] []),q1),
   (oo 5 (.sliceA 32 1 (tq 1) (some (.const (.sc (.int .i64 8)))) (some (.const (.sc (.int .i64 16)))) none),q1),
   (oo 6 (.call 112 [((tq 5),0)] []),q0),
   (oo 7 (.build [(.sc (.int .u64 0)),(.sc (.int .u64 0))] [(0,1,(tq 4)),(1,1,(tq 6))]),q0),
   (oz (.store 2 (tq 2) (tq 7)),q0)])
 .ret))⟩
def zwn:Hint:=⟨[],[],[none],[(1,[1])],[],false,false⟩
def zuT:Nat→Sh:=xO []
def zut (yt:zbO) (L:Nat):CBC:=(xu 112 (zno yt L) noC)
def zwD {β:Type} (yt:zbO) (L:Nat) (p0:List V) (k_fin:List V→Option β):Option β :=
 chk ((List.length p0)≠0) (
 chk (0+32 * 1≤(List.length p0)) (
 yt β L (yk 1 8 p0) (fun v0 =>
 chk (0+32 * 1≤(List.length p0)) (
 yt β L (yk 1 8 (List.drop 8 p0)) (fun v1 =>
 lt [(V.sc (.int .u64 v0)),(V.sc (.int .u64 v1))] fun r2 =>
 chk (0=0∧(List.length r2)=2∧2≠0) (
 k_fin r2))))))
theorem zDJ {β:Type} (yt:zbO) (L:Nat) (p0:List V) (k:KK β):xr zuT (zut yt L) L zqi [(V.agg p0)] [] k=zwD yt L p0 (fun p0=>k (V.agg p0) []):=by kernel_rfl
abbrev zjr:=∀ (β:Type),Nat→List V→(List V→Option β)→Option β
def yY (β:Type) (L:Nat) (p0:List V) (k_fin:List V→Option β):Option β:=zwD yt L p0 k_fin
def zpy (yY:zjr) (L:Nat) (β:Type) (args:List V) (bor:Bor) (k:KK β):Option β:=match args,bor with
 | [a0],[]=>aG a0 fun p0=>yY β L p0 (fun p0=>k (V.agg p0) [])
 | _,_=>none
theorem zDB (L:Nat) (β:Type) (args:List V) (bor:Bor) (k:KK β) (r:β) (h:zpy yY L β args bor k=some r):xr zuT (zut yt L) L zqi args bor k=some r:=by
 unfold zpy at h
 split at h
 ·have q:=yZ h; clear h; obtain ⟨p0,rfl,h⟩:=q
  exact (zDJ yt L p0 k).trans h
 ·cases h
def zdn:CC:=(.seq (.reg [oo 11 (.bin .lss (tq 10) (tq 9))])
 (.seq (.cond (tq 11)
 .skip
 (.seq (.mask (bl 32 23) (bl 8388543 23))
 (.exit 0)))
 (.seq (.block 1 (.seq (.reg [oo 12 (.move (tq 10) false),
   oo 6 (.move (tq 12) false)])
 (.reg [oo 13 (.move (tq 5) false),
   oo 14 (.move (tq 6) false),
   oo 15 (.move (tq 0) false),
   oo 16 (.move (tq 6) false),
   oo 17 (.bin .mul (.const (.sc (.int .i64 8))) (tq 16)),
   oo 18 (.bin .shr (tq 15) (tq 17)),
   oo 19 (.conv .u8 (tq 18)),
   oo 20 (.indexAddrS 1 (tq 13) (tq 14)),
   oz (.store 1 (tq 20) (tq 19))])))
 (.reg [oo 21 (.bin .add (tq 10) (.const (.sc (.int .i64 1)))),
   oo 10 (.move (tq 21) false)]))))
def zkX:CC:=(.seq (.reg [oo 22 (.move (tq 5) true),
   oo 4 (.move (tq 22) true)])
 .ret)
def zdu:CF:=⟨23,[.tmp 4],
 (.seq (.reg [oo 4 (.move (.const (.gs 1 [])) true)])
 (.seq (.reg [oo 7 (.move (tq 1) false),
   ⟨(some 8),true,none,.makeSlice 1 1 [(.sc (.int .u8 0))] (tq 7) (tq 7)⟩,
   oo 5 (.move (tq 8) true)])
 (.seq (.seq (.reg [oo 9 (.move (tq 1) false),
   oo 10 (.move (.const (.sc (.int .i64 0))) false)])
 (.block 0 (.loop (bl 1569 23) (bl 8388543 23)
 zdn)))
 zkX)))⟩
def zp6:Hint:=⟨[(0,0),(1,2),(7,0),(7,1)],[(1,1)],[none,some ((bl 1569 23),(bl 8388543 23)),none,some ((bl 32 23),(bl 8388543 23)),none,none],[],[],false,false⟩
def zbA:Nat→Sh:=xO []
def zbC (L:Nat):CBC:=noC
def zfC:St→St:=zac 0 (bl 1569 23) (bl 8388543 23)
def zdU (p0:Int) (p5l:Nat) (p9 p10:Int) (b8:List V):St:=⟨((V.sc (.int .u64 p0))::(jn 4 ((V.own 8 0 p5l 1)::(jn 3 ((V.sc (.int .i64 p9))::((V.sc (.int .i64 p10))::(jn 12 []))))))),(gn 8 ((.live true b8)::(gn 14 [])))⟩
def zjO (p5l:Nat) (b8:List V):St:=⟨(jn 5 ((V.own 8 0 p5l 1)::(jn 17 []))),(gn 8 ((.live true b8)::(gn 14 [])))⟩
def zud {β:Type} (L:Nat) (p0 p1:Int) (k_hbbaba:Int→Nat→Int→Int→List V→Option β):Option β :=
 chk (0≤p1∧p1≤p1∧(Int.toNat p1) * 1≤yr∧p1≤yr∧p1=p1) (
 k_hbbaba p0 (List.length (List.replicate (Int.toNat p1) [(V.sc (.int .u8 (0:Int)))])) p1 (0:Int) (List.flatten (List.replicate (Int.toNat p1) [(V.sc (.int .u8 (0:Int)))])))
theorem zxD {β:Type} (L:Nat) (p0 p1:Int) (k:KK β):xr zbA (zbC L) L zdu [(V.sc (.int .u64 p0)),(V.sc (.int .i64 p1))] [] k=zud L p0 p1 (fun p0 p5l p9 p10 b8=>zH (yn zbA (zbC L) 0 L zdn) zfC L (zdU p0 p5l p9 p10 b8) (yH 0 (zV (yn zbA (zbC L) 0 L zkX) (y6 0 (CF.res zdu) k)))):=by kernel_rfl
def zn4 {β:Type} (L:Nat) (p0:Int) (p5l:Nat) (p9 p10:Int) (b8:List V) (k_hbbaba:Int→Nat→Int→Int→List V→Option β) (k_x0:Nat→List V→Option β):Option β :=
 ifb (decide (p10 < p9)) (
 lt (IntKind.wrap .i64 (((8:Int):Int) * p10)) fun x0 =>
 chk (0≤x0) (
 lt (zoj .u64 p0 x0) fun x1 =>
 lt (IntKind.wrap .u8 x1) fun x2 =>
 chk (0≤p10∧p10 < ((p5l:Nat):Int)) (
 chk (1=1∧(0+((Int.toNat p10) * 1))+1≤(List.length b8)) (
 lt (xg b8 (0+((Int.toNat p10) * 1)) [(V.sc (.int .u8 x2))]) fun r3 =>
 lt (IntKind.wrap .i64 ((p10:Int)+(1:Int))) fun x4 =>
 k_hbbaba p0 p5l p9 x4 r3)))) (
 k_x0 p5l b8)
theorem zsL {β:Type} (L:Nat) (p0:Int) (p5l:Nat) (p9 p10:Int) (b8:List V) (X:St→Option β) (K:KT β):yn zbA (zbC L) 0 L zdn (zdU p0 p5l p9 p10 b8) (zcC zfC X K)=zn4 L p0 p5l p9 p10 b8 (fun p0 p5l p9 p10 b8=>X (zdU p0 p5l p9 p10 b8)) (fun p5l b8=>K (.exit 0) (zjO p5l b8)):=by kernel_rfl
def zmo {β:Type} (L:Nat) (p5l:Nat) (b8:List V) (k_fin:List (List V)→Option β):Option β :=
 chk (p5l≠0∨(List.length b8)=0) (
 k_fin (yk 1 p5l b8))
theorem zra {β:Type} (L:Nat) (p5l:Nat) (b8:List V) (k:KK β):(yH 0 (zV (yn zbA (zbC L) 0 L zkX) (y6 0 (CF.res zdu) k))) (.exit 0) (zjO p5l b8)=zmo L p5l b8 (fun p0=>k (V.fr 1 p0) []):=by kernel_rfl
def ziI {β:Type} (L:Nat) (k_x0:Nat→List V→Option β):Nat→Int→Nat→Int→Int→List V→Option β
 | 0,_,_,_,_,_=>none
 | n+1,p0,p5l,p9,p10,b8=>zn4 L p0 p5l p9 p10 b8 (fun p0 p5l p9 p10 b8=>ziI L k_x0 n p0 p5l p9 p10 b8) k_x0
theorem zld {β:Type} (L:Nat) (K:KT β):∀ (n:Nat) (p0:Int) (p5l:Nat) (p9 p10:Int) (b8:List V),zH (yn zbA (zbC L) 0 L zdn) zfC n (zdU p0 p5l p9 p10 b8) K=ziI L (fun p5l b8=>K (.exit 0) (zjO p5l b8)) n p0 p5l p9 p10 b8:=by
 intro n
 induction n with
 | zero=>intros; rfl
 | succ n ih =>
  intro p0 p5l p9 p10 b8
  refine (zsL L p0 p5l p9 p10 b8 (fun σ=>zH (yn zbA (zbC L) 0 L zdn) zfC n σ K) K).trans ?_
  simp only [ih]
  rfl
def zoE {β:Type} (L:Nat) (p0 p1:Int) (k_fin:List (List V)→Option β):Option β :=
 zud L p0 p1 (fun p0 p5l p9 p10 b8=>ziI L (fun p5l b8=>zmo L p5l b8 k_fin) L p0 p5l p9 p10 b8)
theorem zym {β:Type} (L:Nat) (p0 p1:Int) (k:KK β):xr zbA (zbC L) L zdu [(V.sc (.int .u64 p0)),(V.sc (.int .i64 p1))] [] k=zoE L p0 p1 (fun p0=>k (V.fr 1 p0) []):=by
 refine (zxD L p0 p1 k).trans ?_
 unfold zoE
 first
  | (simp only [zld,zra]; done)
  | (simp only [zld]; rfl)
abbrev zdR:=∀ (β:Type),Nat→Int→Int→(List (List V)→Option β)→Option β
def yF (β:Type) (L:Nat) (p0 p1:Int) (k_fin:List (List V)→Option β):Option β:=zoE L p0 p1 k_fin
def zhd (yF:zdR) (L:Nat) (β:Type) (args:List V) (bor:Bor) (k:KK β):Option β:=match args,bor with
 | [a0,a1],[]=>aI .u64 a0 fun p0=>aI .i64 a1 fun p1=>yF β L p0 p1 (fun p0=>k (V.fr 1 p0) [])
 | _,_=>none
theorem zxN (L:Nat) (β:Type) (args:List V) (bor:Bor) (k:KK β) (r:β) (h:zhd yF L β args bor k=some r):xr zbA (zbC L) L zdu args bor k=some r:=by
 unfold zhd at h
 split at h
 ·have q:=zau h; clear h; obtain ⟨p0,rfl,h⟩:=q
  have q:=zau h; clear h; obtain ⟨p1,rfl,h⟩:=q
  exact (zym L p0 p1 k).trans h
 ·cases h
def zjg:CF:=⟨18,[.tmp 4],
 (.seq (.reg [oo 4 (.move (.const (.gs 1 [])) true)])
 (.seq (.reg [oo 6 (.move (tq 0) false),
   oo 7 (.lenS (tq 6)),
   oo 8 (.move (tq 1) false),
   oo 9 (.lenS (tq 8)),
   oo 10 (.bin .add (tq 7) (tq 9)),
   oo 11 (.makeSlice 1 1 [(.sc (.int .u8 0))] (.const (.sc (.int .i64 0))) (tq 10)),
   oo 5 (.move (tq 11) true)])
 (.seq (.reg [oo 12 (.move (tq 5) true),
   oo 13 (.move (tq 0) false),
   oo 14 (.append 1 1 (tq 12) (tq 13)),
   oo 5 (.move (tq 14) true)])
 (.seq (.reg [oo 15 (.move (tq 5) true),
   oo 16 (.move (tq 1) false),
   oo 17 (.append 1 1 (tq 15) (tq 16)),
   oo 4 (.move (tq 17) true)])
 .ret))))⟩
def zp2:Hint:=⟨[(0,0),(1,6),(2,0),(2,3),(3,0),(3,3)],[],[none],[],[],false,false⟩
def znv:Nat→Sh:=xO []
def znk (L:Nat):CBC:=noC
def zoJ {β:Type} (L:Nat) (p0 p1:List (List V)) (k_fin:List (List V)→Option β):Option β :=
 lt (IntKind.wrap .i64 ((((List.length p0:Nat):Int):Int)+((List.length p1:Nat):Int))) fun x0 =>
 chk (0≤(0:Int)∧(0:Int)≤x0∧(Int.toNat x0) * 1≤yr∧x0≤yr) (
 chk ((List.length (List.replicate 0 [(V.sc (.int .u8 (0:Int)))])+List.length p0) * 1≤yr∧List.length (List.replicate 0 [(V.sc (.int .u8 (0:Int)))])+List.length p0≤yr) (
 lt ((List.replicate 0 [(V.sc (.int .u8 (0:Int)))])++p0) fun l1 =>
 chk ((List.length l1+List.length p1) * 1≤yr∧List.length l1+List.length p1≤yr) (
 lt (l1++p1) fun l2 =>
 k_fin l2)))
theorem zyj {β:Type} (L:Nat) (p0 p1:List (List V)) (k:KK β):xr znv (znk L) L zjg [(V.sl 1 p0),(V.sl 1 p1)] [] k=zoJ L p0 p1 (fun p0=>k (V.gs 1 p0) []):=by kernel_rfl
abbrev zdQ:=∀ (β:Type),Nat→List (List V)→List (List V)→(List (List V)→Option β)→Option β
def yE (β:Type) (L:Nat) (p0 p1:List (List V)) (k_fin:List (List V)→Option β):Option β:=zoJ L p0 p1 k_fin
def zhp (yE:zdQ) (L:Nat) (β:Type) (args:List V) (bor:Bor) (k:KK β):Option β:=match args,bor with
 | [a0,a1],[]=>aL 1 a0 fun p0=>aL 1 a1 fun p1=>yE β L p0 p1 (fun p0=>k (V.gs 1 p0) [])
 | _,_=>none
theorem zxW (L:Nat) (β:Type) (args:List V) (bor:Bor) (k:KK β) (r:β) (h:zhp yE L β args bor k=some r):xr znv (znk L) L zjg args bor k=some r:=by
 unfold zhp at h
 split at h
 ·have q:=z9 h; clear h; obtain ⟨p0,rfl,h⟩:=q
  have q:=z9 h; clear h; obtain ⟨p1,rfl,h⟩:=q
  exact (zyj L p0 p1 k).trans h
 ·cases h
def zf0:CF:=⟨10,[.tmp 4],
 (.seq (.reg [oo 4 (.move (.const (.gs 1 [])) true)])
 (.seq (.reg [oo 5 (.move (tq 0) false),
   oo 6 (.move (tq 1) false),
   oo 7 (.conv .u64 (tq 6)),
   oo 8 (.call 192 [((tq 7),0),((.const (.sc (.int .i64 4))),0)] []),
   oo 9 (.call 191 [((tq 5),0),((tq 8),0)] []),
   oo 4 (.move (tq 9) true)])
 .ret))⟩
def znA:Hint:=⟨[(0,0),(1,5)],[],[none],[],[],false,false⟩
def zj8:Nat→Sh:=xO []
def zjN (yF:zdR) (yE:zdQ) (L:Nat):CBC:=(xu 191 (zhp yE L) (xu 192 (zhd yF L) noC))
def zk3 {β:Type} (yF:zdR) (yE:zdQ) (L:Nat) (p0:List (List V)) (p1:Int) (k_fin:List (List V)→Option β):Option β :=
 lt (IntKind.wrap .u64 p1) fun x0 =>
 yF β L x0 (4:Int) (fun v1 =>
 yE β L p0 v1 (fun v2 =>
 k_fin v2))
theorem zuv {β:Type} (yF:zdR) (yE:zdQ) (L:Nat) (p0:List (List V)) (p1:Int) (k:KK β):xr zj8 (zjN yF yE L) L zf0 [(V.sl 1 p0),(V.sc (.int .u32 p1))] [] k=zk3 yF yE L p0 p1 (fun p0=>k (V.gs 1 p0) []):=by kernel_rfl
abbrev zcz:=∀ (β:Type),Nat→List (List V)→Int→(List (List V)→Option β)→Option β
def xv (β:Type) (L:Nat) (p0:List (List V)) (p1:Int) (k_fin:List (List V)→Option β):Option β:=zk3 yF yE L p0 p1 k_fin
def zeF (xv:zcz) (L:Nat) (β:Type) (args:List V) (bor:Bor) (k:KK β):Option β:=match args,bor with
 | [a0,a1],[]=>aL 1 a0 fun p0=>aI .u32 a1 fun p1=>xv β L p0 p1 (fun p0=>k (V.gs 1 p0) [])
 | _,_=>none
theorem zuq (L:Nat) (β:Type) (args:List V) (bor:Bor) (k:KK β) (r:β) (h:zeF xv L β args bor k=some r):xr zj8 (zjN yF yE L) L zf0 args bor k=some r:=by
 unfold zeF at h
 split at h
 ·have q:=z9 h; clear h; obtain ⟨p0,rfl,h⟩:=q
  have q:=zau h; clear h; obtain ⟨p1,rfl,h⟩:=q
  exact (zuv yF yE L p0 p1 k).trans h
 ·cases h
def zda:CF:=⟨17,[.tmp 4],
 (.seq (.reg [oo 4 (.move (.const (.sc (.int .u64 0))) false)])
 (.seq (.reg [oo 6 (.move (tq 1) false),
   oo 7 (.conv .u64 (tq 6)),
   oo 8 (.bin .and (tq 7) (.const (.sc (.int .u64 63)))),
   oo 5 (.move (tq 8) false)])
 (.seq (.reg [oo 9 (.move (tq 0) false),
   oo 10 (.move (tq 5) false),
   oo 11 (.bin .shl (tq 9) (tq 10)),
   oo 12 (.move (tq 0) false),
   oo 13 (.move (tq 5) false),
   oo 14 (.bin .sub (.const (.sc (.int .u64 64))) (tq 13)),
   oo 15 (.bin .shr (tq 12) (tq 14)),
   oo 16 (.bin .or (tq 11) (tq 15)),
   oo 4 (.move (tq 16) false)])
 .ret)))⟩
def zhA:Hint:=⟨[],[],[none],[],[],false,false⟩
def zeV:Nat→Sh:=xO []
def zeS (L:Nat):CBC:=noC
def zjZ {β:Type} (L:Nat) (p0 p1:Int) (k_fin:Int→Option β):Option β :=
 lt (IntKind.wrap .u64 p1) fun x0 =>
 lt (zHK .u64 x0 (63:Int)) fun x1 =>
 chk (0≤x1) (
 lt (zrq .u64 p0 x1) fun x2 =>
 lt (IntKind.wrap .u64 (((64:Int):Int) - x1)) fun x3 =>
 chk (0≤x3) (
 lt (zoj .u64 p0 x3) fun x4 =>
 lt (ior .u64 x2 x4) fun x5 =>
 k_fin x5))
theorem zph {β:Type} (L:Nat) (p0 p1:Int) (k:KK β):xr zeV (zeS L) L zda [(V.sc (.int .u64 p0)),(V.sc (.int .i64 p1))] [] k=zjZ L p0 p1 (fun p0=>k (V.sc (.int .u64 p0)) []):=by kernel_rfl
abbrev xH:=∀ (β:Type),Nat→Int→Int→(Int→Option β)→Option β
def zc (β:Type) (L:Nat) (p0 p1:Int) (k_fin:Int→Option β):Option β:=zjZ L p0 p1 k_fin
def zcd (zc:xH) (L:Nat) (β:Type) (args:List V) (bor:Bor) (k:KK β):Option β:=match args,bor with
 | [a0,a1],[]=>aI .u64 a0 fun p0=>aI .i64 a1 fun p1=>zc β L p0 p1 (fun p0=>k (V.sc (.int .u64 p0)) [])
 | _,_=>none
theorem zpj (L:Nat) (β:Type) (args:List V) (bor:Bor) (k:KK β) (r:β) (h:zcd zc L β args bor k=some r):xr zeV (zeS L) L zda args bor k=some r:=by
 unfold zcd at h
 split at h
 ·have q:=zau h; clear h; obtain ⟨p0,rfl,h⟩:=q
  have q:=zau h; clear h; obtain ⟨p1,rfl,h⟩:=q
  exact (zph L p0 p1 k).trans h
 ·cases h
def zeG:CC:=(.seq (.reg [oo 7 (.bin .lss (tq 6) (tq 5))])
 (.seq (.cond (tq 7)
 .skip
 (.seq (.mask (bl 20 82) (bl 4533176671146011638300671 82))
 (.exit 0)))
 (.seq (.block 1 (.seq (.reg [oo 8 (.indexAddrA 4 1 (tq 2) (.const (.sc (.int .i64 0)))),
   oo 9 (.load false 1 (tq 8) false),
   oo 10 (.indexAddrA 4 1 (tq 2) (.const (.sc (.int .i64 1)))),
   oo 11 (.load false 1 (tq 10) false),
   oo 12 (.bin .add (tq 9) (tq 11)),
   oo 13 (.indexAddrA 4 1 (tq 2) (.const (.sc (.int .i64 0)))),
   oz (.store 1 (tq 13) (tq 12))])
 (.seq (.reg [oo 14 (.indexAddrA 4 1 (tq 2) (.const (.sc (.int .i64 1)))),
   oo 15 (.load false 1 (tq 14) false),
   oo 16 (.call 118 [((tq 15),0),((.const (.sc (.int .i64 13))),0)] []),
   oo 17 (.indexAddrA 4 1 (tq 2) (.const (.sc (.int .i64 1)))),
   oz (.store 1 (tq 17) (tq 16))])
 (.seq (.reg [oo 18 (.indexAddrA 4 1 (tq 2) (.const (.sc (.int .i64 1)))),
   oo 19 (.load false 1 (tq 18) false),
   oo 20 (.indexAddrA 4 1 (tq 2) (.const (.sc (.int .i64 0)))),
   oo 21 (.load false 1 (tq 20) false),
   oo 22 (.bin .xor (tq 19) (tq 21)),
   oo 23 (.indexAddrA 4 1 (tq 2) (.const (.sc (.int .i64 1)))),
   oz (.store 1 (tq 23) (tq 22))])
 (.seq (.reg [oo 24 (.indexAddrA 4 1 (tq 2) (.const (.sc (.int .i64 0)))),
   oo 25 (.load false 1 (tq 24) false),
   oo 26 (.call 118 [((tq 25),0),((.const (.sc (.int .i64 32))),0)] []),
   oo 27 (.indexAddrA 4 1 (tq 2) (.const (.sc (.int .i64 0)))),
   oz (.store 1 (tq 27) (tq 26))])
 (.seq (.reg [oo 28 (.indexAddrA 4 1 (tq 2) (.const (.sc (.int .i64 2)))),
   oo 29 (.load false 1 (tq 28) false),
   oo 30 (.indexAddrA 4 1 (tq 2) (.const (.sc (.int .i64 3)))),
   oo 31 (.load false 1 (tq 30) false),
   oo 32 (.bin .add (tq 29) (tq 31)),
   oo 33 (.indexAddrA 4 1 (tq 2) (.const (.sc (.int .i64 2)))),
   oz (.store 1 (tq 33) (tq 32))])
 (.seq (.reg [oo 34 (.indexAddrA 4 1 (tq 2) (.const (.sc (.int .i64 3)))),
   oo 35 (.load false 1 (tq 34) false),
   oo 36 (.call 118 [((tq 35),0),((.const (.sc (.int .i64 16))),0)] []),
   oo 37 (.indexAddrA 4 1 (tq 2) (.const (.sc (.int .i64 3)))),
   oz (.store 1 (tq 37) (tq 36))])
 (.seq (.reg [oo 38 (.indexAddrA 4 1 (tq 2) (.const (.sc (.int .i64 3)))),
   oo 39 (.load false 1 (tq 38) false),
   oo 40 (.indexAddrA 4 1 (tq 2) (.const (.sc (.int .i64 2)))),
   oo 41 (.load false 1 (tq 40) false),
   oo 42 (.bin .xor (tq 39) (tq 41)),
   oo 43 (.indexAddrA 4 1 (tq 2) (.const (.sc (.int .i64 3)))),
   oz (.store 1 (tq 43) (tq 42))])
 (.seq (.reg [oo 44 (.indexAddrA 4 1 (tq 2) (.const (.sc (.int .i64 0)))),
   oo 45 (.load false 1 (tq 44) false),
   oo 46 (.indexAddrA 4 1 (tq 2) (.const (.sc (.int .i64 3)))),
   oo 47 (.load false 1 (tq 46) false),
   oo 48 (.bin .add (tq 45) (tq 47)),
   oo 49 (.indexAddrA 4 1 (tq 2) (.const (.sc (.int .i64 0)))),
   oz (.store 1 (tq 49) (tq 48))])
 (.seq (.reg [oo 50 (.indexAddrA 4 1 (tq 2) (.const (.sc (.int .i64 3)))),
   oo 51 (.load false 1 (tq 50) false),
   oo 52 (.call 118 [((tq 51),0),((.const (.sc (.int .i64 21))),0)] []),
   oo 53 (.indexAddrA 4 1 (tq 2) (.const (.sc (.int .i64 3)))),
   oz (.store 1 (tq 53) (tq 52))])
 (.seq (.reg [oo 54 (.indexAddrA 4 1 (tq 2) (.const (.sc (.int .i64 3)))),
   oo 55 (.load false 1 (tq 54) false),
   oo 56 (.indexAddrA 4 1 (tq 2) (.const (.sc (.int .i64 0)))),
   oo 57 (.load false 1 (tq 56) false),
   oo 58 (.bin .xor (tq 55) (tq 57)),
   oo 59 (.indexAddrA 4 1 (tq 2) (.const (.sc (.int .i64 3)))),
   oz (.store 1 (tq 59) (tq 58))])
 (.seq (.reg [oo 60 (.indexAddrA 4 1 (tq 2) (.const (.sc (.int .i64 2)))),
   oo 61 (.load false 1 (tq 60) false),
   oo 62 (.indexAddrA 4 1 (tq 2) (.const (.sc (.int .i64 1)))),
   oo 63 (.load false 1 (tq 62) false),
   oo 64 (.bin .add (tq 61) (tq 63)),
   oo 65 (.indexAddrA 4 1 (tq 2) (.const (.sc (.int .i64 2)))),
   oz (.store 1 (tq 65) (tq 64))])
 (.seq (.reg [oo 66 (.indexAddrA 4 1 (tq 2) (.const (.sc (.int .i64 1)))),
   oo 67 (.load false 1 (tq 66) false),
   oo 68 (.call 118 [((tq 67),0),((.const (.sc (.int .i64 17))),0)] []),
   oo 69 (.indexAddrA 4 1 (tq 2) (.const (.sc (.int .i64 1)))),
   oz (.store 1 (tq 69) (tq 68))])
 (.seq (.reg [oo 70 (.indexAddrA 4 1 (tq 2) (.const (.sc (.int .i64 1)))),
   oo 71 (.load false 1 (tq 70) false),
   oo 72 (.indexAddrA 4 1 (tq 2) (.const (.sc (.int .i64 2)))),
   oo 73 (.load false 1 (tq 72) false),
   oo 74 (.bin .xor (tq 71) (tq 73)),
   oo 75 (.indexAddrA 4 1 (tq 2) (.const (.sc (.int .i64 1)))),
   oz (.store 1 (tq 75) (tq 74))])
 (.reg [oo 76 (.indexAddrA 4 1 (tq 2) (.const (.sc (.int .i64 2)))),
   oo 77 (.load false 1 (tq 76) false),
   oo 78 (.call 118 [((tq 77),0),((.const (.sc (.int .i64 32))),0)] []),
   oo 79 (.indexAddrA 4 1 (tq 2) (.const (.sc (.int .i64 2)))),
   oz (.store 1 (tq 79) (tq 78))])))))))))))))))
 (.reg [oo 80 (.bin .add (tq 6) (.const (.sc (.int .i64 1)))),
   oo 6 (.move (tq 80) false)]))))
def zox:CC:=(.seq (.reg [oo 81 (.load true 4 (tq 2) false),
   oz (.store 4 (tq 4) (tq 81))])
 .ret)
def zeD:CF:=⟨82,[.cell 4 true 4],
 (.seq (.reg [oo 2 (.box true (tq 0)),
   oo 4 (.alloc true [(.sc (.int .u64 0)),(.sc (.int .u64 0)),(.sc (.int .u64 0)),(.sc (.int .u64 0))])])
 (.seq (.seq (.reg [oo 5 (.move (tq 1) false),
   oo 6 (.move (.const (.sc (.int .i64 0))) false)])
 (.block 0 (.loop (bl 116 82) (bl 4533176671146011638300671 82)
 zeG)))
 zox))⟩
def zsz:Hint:=⟨[],[],[none,some ((bl 116 82),(bl 4533176671146011638300671 82)),none,some ((bl 20 82),(bl 4533176671146011638300671 82)),none,none],[],[],false,false⟩
def zcf:Nat→Sh:=xO [(9,(.int .u64)),(11,(.int .u64)),(15,(.int .u64)),(19,(.int .u64)),(21,(.int .u64)),(25,(.int .u64)),(29,(.int .u64)),(31,(.int .u64)),(35,(.int .u64)),(39,(.int .u64)),(41,(.int .u64)),(45,(.int .u64)),(47,(.int .u64)),(51,(.int .u64)),(55,(.int .u64)),(57,(.int .u64)),(61,(.int .u64)),(63,(.int .u64)),(67,(.int .u64)),(71,(.int .u64)),(73,(.int .u64)),(77,(.int .u64))]
def zch (zc:xH) (L:Nat):CBC:=(xu 118 (zcd zc L) noC)
def zhE:St→St:=zac 0 (bl 116 82) (bl 4533176671146011638300671 82)
def zfI (p5 p6:Int) (b2:List V) (zLR zLS zLT zLU:Int):St:=⟨(jn 2 ((V.ptr 2 0)::(jn 1 ((V.ptr 4 0)::((V.sc (.int .i64 p5))::((V.sc (.int .i64 p6))::(jn 75 []))))))),(gn 2 ((.live true b2)::(gn 1 ((.live true [(V.sc (.int .u64 zLR)),(V.sc (.int .u64 zLS)),(V.sc (.int .u64 zLT)),(V.sc (.int .u64 zLU))])::(gn 77 [])))))⟩
def zl3 (b2:List V) (zLR zLS zLT zLU:Int):St:=⟨(jn 2 ((V.ptr 2 0)::(jn 1 ((V.ptr 4 0)::(jn 77 []))))),(gn 2 ((.live true b2)::(gn 1 ((.live true [(V.sc (.int .u64 zLR)),(V.sc (.int .u64 zLS)),(V.sc (.int .u64 zLT)),(V.sc (.int .u64 zLU))])::(gn 77 [])))))⟩
def zqW {β:Type} (zc:xH) (L:Nat) (p0:List V) (p1:Int) (k_hbaba:Int→Int→List V→Int→Int→Int→Int→Option β):Option β :=
 k_hbaba p1 (0:Int) p0 (0:Int) (0:Int) (0:Int) (0:Int)
theorem zzE {β:Type} (zc:xH) (L:Nat) (p0:List V) (p1:Int) (k:KK β):xr zcf (zch zc L) L zeD [(V.agg p0),(V.sc (.int .i64 p1))] [] k=zqW zc L p0 p1 (fun p5 p6 b2 zLR zLS zLT zLU=>zH (yn zcf (zch zc L) 0 L zeG) zhE L (zfI p5 p6 b2 zLR zLS zLT zLU) (yH 0 (zV (yn zcf (zch zc L) 0 L zox) (y6 0 (CF.res zeD) k)))):=by kernel_rfl
def zfk {β:Type} (zc:xH) (L:Nat) (p5 p6:Int) (b2:List V) (zLR zLS zLT zLU:Int) (k_hbaba:Int→Int→List V→Int→Int→Int→Int→Option β) (k_x0:List V→Int→Int→Int→Int→Option β):Option β :=
 ifb (decide (p6 < p5)) (
 cI .u64 b2 0 fun v0 =>
 cI .u64 b2 1 fun v1 =>
 lt (IntKind.wrap .u64 ((v0:Int)+v1)) fun x2 =>
 chk (1=1∧0+1≤(List.length b2)) (
 lt (xg b2 0 [(V.sc (.int .u64 x2))]) fun r3 =>
 cI .u64 r3 1 fun v4 =>
 zc β L v4 (13:Int) (fun v5 =>
 chk (1=1∧1+1≤(List.length r3)) (
 lt (xg r3 1 [(V.sc (.int .u64 v5))]) fun r6 =>
 cI .u64 r6 1 fun v7 =>
 cI .u64 r6 0 fun v8 =>
 lt (za0 .u64 v7 v8) fun x9 =>
 chk (1=1∧1+1≤(List.length r6)) (
 lt (xg r6 1 [(V.sc (.int .u64 x9))]) fun r10 =>
 cI .u64 r10 0 fun v11 =>
 zc β L v11 (32:Int) (fun v12 =>
 chk (1=1∧0+1≤(List.length r10)) (
 lt (xg r10 0 [(V.sc (.int .u64 v12))]) fun r13 =>
 cI .u64 r13 2 fun v14 =>
 cI .u64 r13 3 fun v15 =>
 lt (IntKind.wrap .u64 ((v14:Int)+v15)) fun x16 =>
 chk (1=1∧2+1≤(List.length r13)) (
 lt (xg r13 2 [(V.sc (.int .u64 x16))]) fun r17 =>
 cI .u64 r17 3 fun v18 =>
 zc β L v18 (16:Int) (fun v19 =>
 chk (1=1∧3+1≤(List.length r17)) (
 lt (xg r17 3 [(V.sc (.int .u64 v19))]) fun r20 =>
 cI .u64 r20 3 fun v21 =>
 cI .u64 r20 2 fun v22 =>
 lt (za0 .u64 v21 v22) fun x23 =>
 chk (1=1∧3+1≤(List.length r20)) (
 lt (xg r20 3 [(V.sc (.int .u64 x23))]) fun r24 =>
 cI .u64 r24 0 fun v25 =>
 cI .u64 r24 3 fun v26 =>
 lt (IntKind.wrap .u64 ((v25:Int)+v26)) fun x27 =>
 chk (1=1∧0+1≤(List.length r24)) (
 lt (xg r24 0 [(V.sc (.int .u64 x27))]) fun r28 =>
 cI .u64 r28 3 fun v29 =>
 zc β L v29 (21:Int) (fun v30 =>
 chk (1=1∧3+1≤(List.length r28)) (
 lt (xg r28 3 [(V.sc (.int .u64 v30))]) fun r31 =>
 cI .u64 r31 3 fun v32 =>
 cI .u64 r31 0 fun v33 =>
 lt (za0 .u64 v32 v33) fun x34 =>
 chk (1=1∧3+1≤(List.length r31)) (
 lt (xg r31 3 [(V.sc (.int .u64 x34))]) fun r35 =>
 cI .u64 r35 2 fun v36 =>
 cI .u64 r35 1 fun v37 =>
 lt (IntKind.wrap .u64 ((v36:Int)+v37)) fun x38 =>
 chk (1=1∧2+1≤(List.length r35)) (
 lt (xg r35 2 [(V.sc (.int .u64 x38))]) fun r39 =>
 cI .u64 r39 1 fun v40 =>
 zc β L v40 (17:Int) (fun v41 =>
 chk (1=1∧1+1≤(List.length r39)) (
 lt (xg r39 1 [(V.sc (.int .u64 v41))]) fun r42 =>
 cI .u64 r42 1 fun v43 =>
 cI .u64 r42 2 fun v44 =>
 lt (za0 .u64 v43 v44) fun x45 =>
 chk (1=1∧1+1≤(List.length r42)) (
 lt (xg r42 1 [(V.sc (.int .u64 x45))]) fun r46 =>
 cI .u64 r46 2 fun v47 =>
 zc β L v47 (32:Int) (fun v48 =>
 chk (1=1∧2+1≤(List.length r46)) (
 lt (xg r46 2 [(V.sc (.int .u64 v48))]) fun r49 =>
 lt (IntKind.wrap .i64 ((p6:Int)+(1:Int))) fun x50 =>
 k_hbaba p5 x50 r49 zLR zLS zLT zLU))))))))))))))))))))) (
 k_x0 b2 zLR zLS zLT zLU)
theorem zvv {β:Type} (zc:xH) (L:Nat) (p5 p6:Int) (b2:List V) (zLR zLS zLT zLU:Int) (X:St→Option β) (K:KT β):yn zcf (zch zc L) 0 L zeG (zfI p5 p6 b2 zLR zLS zLT zLU) (zcC zhE X K)=zfk zc L p5 p6 b2 zLR zLS zLT zLU (fun p5 p6 b2 zLR zLS zLT zLU=>X (zfI p5 p6 b2 zLR zLS zLT zLU)) (fun b2 zLR zLS zLT zLU=>K (.exit 0) (zl3 b2 zLR zLS zLT zLU)):=by kernel_rfl
def zka {β:Type} (zc:xH) (L:Nat) (b2:List V) (zLR zLS zLT zLU:Int) (k_fin:List V→Option β):Option β :=
 chk (0+4≤(List.length b2)) (
 chk ((List.length (List.take 4 b2))=4∧0+4≤4) (
 lt (xg [(V.sc (.int .u64 zLR)),(V.sc (.int .u64 zLS)),(V.sc (.int .u64 zLT)),(V.sc (.int .u64 zLU))] 0 (List.take 4 b2)) fun r51 =>
 chk (0=0∧(List.length r51)=4∧4≠0) (
 k_fin r51)))
theorem zty {β:Type} (zc:xH) (L:Nat) (b2:List V) (zLR zLS zLT zLU:Int) (k:KK β):(yH 0 (zV (yn zcf (zch zc L) 0 L zox) (y6 0 (CF.res zeD) k))) (.exit 0) (zl3 b2 zLR zLS zLT zLU)=zka zc L b2 zLR zLS zLT zLU (fun p0=>k (V.agg p0) []):=by kernel_rfl
def zfu {β:Type} (zc:xH) (L:Nat) (k_x0:List V→Int→Int→Int→Int→Option β):Nat→Int→Int→List V→Int→Int→Int→Int→Option β
 | 0,_,_,_,_,_,_,_=>none
 | n+1,p5,p6,b2,zLR,zLS,zLT,zLU=>zfk zc L p5 p6 b2 zLR zLS zLT zLU (fun p5 p6 b2 zLR zLS zLT zLU=>zfu zc L k_x0 n p5 p6 b2 zLR zLS zLT zLU) k_x0
theorem zn3 {β:Type} (zc:xH) (L:Nat) (K:KT β):∀ (n:Nat) (p5 p6:Int) (b2:List V) (zLR zLS zLT zLU:Int),zH (yn zcf (zch zc L) 0 L zeG) zhE n (zfI p5 p6 b2 zLR zLS zLT zLU) K=zfu zc L (fun b2 zLR zLS zLT zLU=>K (.exit 0) (zl3 b2 zLR zLS zLT zLU)) n p5 p6 b2 zLR zLS zLT zLU:=by
 intro n
 induction n with
 | zero=>intros; rfl
 | succ n ih =>
  intro p5 p6 b2 zLR zLS zLT zLU
  refine (zvv zc L p5 p6 b2 zLR zLS zLT zLU (fun σ=>zH (yn zcf (zch zc L) 0 L zeG) zhE n σ K) K).trans ?_
  simp only [ih]
  rfl
def znM {β:Type} (zc:xH) (L:Nat) (p0:List V) (p1:Int) (k_fin:List V→Option β):Option β :=
 zqW zc L p0 p1 (fun p5 p6 b2 zLR zLS zLT zLU=>zfu zc L (fun b2 zLR zLS zLT zLU=>zka zc L b2 zLR zLS zLT zLU k_fin) L p5 p6 b2 zLR zLS zLT zLU)
theorem zAQ {β:Type} (zc:xH) (L:Nat) (p0:List V) (p1:Int) (k:KK β):xr zcf (zch zc L) L zeD [(V.agg p0),(V.sc (.int .i64 p1))] [] k=znM zc L p0 p1 (fun p0=>k (V.agg p0) []):=by
 refine (zzE zc L p0 p1 k).trans ?_
 unfold znM
 first
  | (simp only [zn3,zty]; done)
  | (simp only [zn3]; rfl)
abbrev zaU:=∀ (β:Type),Nat→List V→Int→(List V→Option β)→Option β
def zp (β:Type) (L:Nat) (p0:List V) (p1:Int) (k_fin:List V→Option β):Option β:=znM zc L p0 p1 k_fin
def zjU (zp:zaU) (L:Nat) (β:Type) (args:List V) (bor:Bor) (k:KK β):Option β:=match args,bor with
 | [a0,a1],[]=>aG a0 fun p0=>aI .i64 a1 fun p1=>zp β L p0 p1 (fun p0=>k (V.agg p0) [])
 | _,_=>none
theorem zzQ (L:Nat) (β:Type) (args:List V) (bor:Bor) (k:KK β) (r:β) (h:zjU zp L β args bor k=some r):xr zcf (zch zc L) L zeD args bor k=some r:=by
 unfold zjU at h
 split at h
 ·have q:=yZ h; clear h; obtain ⟨p0,rfl,h⟩:=q
  have q:=zau h; clear h; obtain ⟨p1,rfl,h⟩:=q
  exact (zAQ zc L p0 p1 k).trans h
 ·cases h
def zlI:CF:=⟨18,[.cell 4 true 4],
 (.seq (.reg [oo 2 (.box true (tq 0)),
   oo 4 (.alloc true [(.sc (.int .u64 0)),(.sc (.int .u64 0)),(.sc (.int .u64 0)),(.sc (.int .u64 0))])])
 (.seq (.reg [oo 5 (.indexAddrA 4 1 (tq 2) (.const (.sc (.int .i64 3)))),
   oo 6 (.load false 1 (tq 5) false),
   oo 7 (.move (tq 1) false),
   oo 8 (.bin .xor (tq 6) (tq 7)),
   oo 9 (.indexAddrA 4 1 (tq 2) (.const (.sc (.int .i64 3)))),
   oz (.store 1 (tq 9) (tq 8))])
 (.seq (.reg [oo 10 (.load true 4 (tq 2) false),
   oo 11 (.call 113 [((tq 10),0),((.const (.sc (.int .i64 2))),0)] []),
   oz (.store 4 (tq 2) (tq 11))])
 (.seq (.reg [oo 12 (.indexAddrA 4 1 (tq 2) (.const (.sc (.int .i64 0)))),
   oo 13 (.load false 1 (tq 12) false),
   oo 14 (.move (tq 1) false),
   oo 15 (.bin .xor (tq 13) (tq 14)),
   oo 16 (.indexAddrA 4 1 (tq 2) (.const (.sc (.int .i64 0)))),
   oz (.store 1 (tq 16) (tq 15))])
 (.seq (.reg [oo 17 (.load true 4 (tq 2) false),
   oz (.store 4 (tq 4) (tq 17))])
 .ret)))))⟩
def zsd:Hint:=⟨[],[],[none],[],[],false,false⟩
def zpY:Nat→Sh:=xO [(6,(.int .u64)),(13,(.int .u64))]
def zpP (zp:zaU) (L:Nat):CBC:=(xu 113 (zjU zp L) noC)
def zrI {β:Type} (zp:zaU) (L:Nat) (p0:List V) (p1:Int) (k_fin:List V→Option β):Option β :=
 cI .u64 p0 3 fun v0 =>
 lt (za0 .u64 v0 p1) fun x1 =>
 chk (1=1∧3+1≤(List.length p0)) (
 lt (xg p0 3 [(V.sc (.int .u64 x1))]) fun r2 =>
 chk (0+4≤(List.length r2)) (
 zp β L (List.take 4 r2) (2:Int) (fun v3 =>
 chk ((List.length v3)=4∧0+4≤(List.length r2)) (
 lt (xg r2 0 v3) fun r4 =>
 cI .u64 r4 0 fun v5 =>
 lt (za0 .u64 v5 p1) fun x6 =>
 chk (1=1∧0+1≤(List.length r4)) (
 lt (xg r4 0 [(V.sc (.int .u64 x6))]) fun r7 =>
 chk (0+4≤(List.length r7)) (
 chk ((List.length (List.take 4 r7))=4∧0+4≤4) (
 lt (xg [(V.sc (.int .u64 (0:Int))),(V.sc (.int .u64 (0:Int))),(V.sc (.int .u64 (0:Int))),(V.sc (.int .u64 (0:Int)))] 0 (List.take 4 r7)) fun r8 =>
 chk (0=0∧(List.length r8)=4∧4≠0) (
 k_fin r8))))))))
theorem zzv {β:Type} (zp:zaU) (L:Nat) (p0:List V) (p1:Int) (k:KK β):xr zpY (zpP zp L) L zlI [(V.agg p0),(V.sc (.int .u64 p1))] [] k=zrI zp L p0 p1 (fun p0=>k (V.agg p0) []):=by kernel_rfl
abbrev zbX:=∀ (β:Type),Nat→List V→Int→(List V→Option β)→Option β
def zw (β:Type) (L:Nat) (p0:List V) (p1:Int) (k_fin:List V→Option β):Option β:=zrI zp L p0 p1 k_fin
def zm6 (zw:zbX) (L:Nat) (β:Type) (args:List V) (bor:Bor) (k:KK β):Option β:=match args,bor with
 | [a0,a1],[]=>aG a0 fun p0=>aI .u64 a1 fun p1=>zw β L p0 p1 (fun p0=>k (V.agg p0) [])
 | _,_=>none
theorem zAP (L:Nat) (β:Type) (args:List V) (bor:Bor) (k:KK β) (r:β) (h:zm6 zw L β args bor k=some r):xr zpY (zpP zp L) L zlI args bor k=some r:=by
 unfold zm6 at h
 split at h
 ·have q:=yZ h; clear h; obtain ⟨p0,rfl,h⟩:=q
  have q:=zau h; clear h; obtain ⟨p1,rfl,h⟩:=q
  exact (zzv zp L p0 p1 k).trans h
 ·cases h
def zff:CC:=(.seq (.reg [oo 26 (.bin .lss (tq 25) (tq 24))])
 (.seq (.cond (tq 26)
 .skip
 (.seq (.mask (bl 98 69) (bl 590295810152547221371 69))
 (.exit 0)))
 (.seq (.block 1 (.seq (.reg [oo 27 (.move (tq 25) false),
   oo 7 (.move (tq 27) false)])
 (.dreg [] [(oo 28 (.load true 4 (tq 5) false),ql 5 [] []),
   (oo 29 (.move (tq 1) false),q0),
   (oo 30 (.move (tq 7) false),q0),
   (oo 31 (.bin .mul (.const (.sc (.int .i64 8))) (tq 30)),q0),
   (oo 32 (.move (tq 7) false),q0),
   (oo 33 (.bin .mul (.const (.sc (.int .i64 8))) (tq 32)),q0),
   (oo 34 (.bin .add (tq 33) (.const (.sc (.int .i64 8)))),q0),
   (oo 35 (.sliceS 1 (tq 29) (some (tq 31)) (some (tq 34)) none),q0),
   (oo 36 (.call 112 [((tq 35),0)] []),qc [5] []),
   (oo 37 (.call 111 [((tq 28),0),((tq 36),0)] []),q0),
   (oz (.store 4 (tq 5) (tq 37)),q0)])))
 (.reg [oo 38 (.bin .add (tq 25) (.const (.sc (.int .i64 1)))),
   oo 25 (.move (tq 38) false)]))))
def zpD:CC:=(.seq (.dreg [] [(oo 39 (.load true 4 (tq 5) false),ql 5 [] []),
   (oo 40 (.move (tq 1) false),q0),
   (oo 41 (.move (tq 6) false),q0),
   (oo 42 (.bin .mul (.const (.sc (.int .i64 8))) (tq 41)),q0),
   (oo 43 (.sliceS 1 (tq 40) (some (tq 42)) none none),q0),
   (oo 44 (.call 112 [((tq 43),0)] []),qc [5] []),
   (oo 45 (.move (tq 1) false),q0),
   (oo 46 (.lenS (tq 45)),q0),
   (oo 47 (.bin .rem (tq 46) (.const (.sc (.int .i64 256)))),q0),
   (oo 48 (.conv .u64 (tq 47)),q0),
   (oo 49 (.bin .shl (tq 48) (.const (.sc (.int .u64 56)))),q0),
   (oo 50 (.bin .or (tq 44) (tq 49)),q0),
   (oo 51 (.call 111 [((tq 39),0),((tq 50),0)] []),q0),
   (oz (.store 4 (tq 5) (tq 51)),q0)])
 (.seq (.reg [oo 52 (.indexAddrA 4 1 (tq 5) (.const (.sc (.int .i64 2)))),
   oo 53 (.load false 1 (tq 52) false),
   oo 54 (.bin .xor (tq 53) (.const (.sc (.int .u64 255)))),
   oo 55 (.indexAddrA 4 1 (tq 5) (.const (.sc (.int .i64 2)))),
   oz (.store 1 (tq 55) (tq 54))])
 (.seq (.reg [oo 56 (.load true 4 (tq 5) false),
   oo 57 (.call 113 [((tq 56),0),((.const (.sc (.int .i64 4))),0)] []),
   oz (.store 4 (tq 5) (tq 57))])
 (.seq (.reg [oo 58 (.indexAddrA 4 1 (tq 5) (.const (.sc (.int .i64 0)))),
   oo 59 (.load false 1 (tq 58) false),
   oo 60 (.indexAddrA 4 1 (tq 5) (.const (.sc (.int .i64 1)))),
   oo 61 (.load false 1 (tq 60) false),
   oo 62 (.bin .xor (tq 59) (tq 61)),
   oo 63 (.indexAddrA 4 1 (tq 5) (.const (.sc (.int .i64 2)))),
   oo 64 (.load false 1 (tq 63) false),
   oo 65 (.bin .xor (tq 62) (tq 64)),
   oo 66 (.indexAddrA 4 1 (tq 5) (.const (.sc (.int .i64 3)))),
   oo 67 (.load false 1 (tq 66) false),
   oo 68 (.bin .xor (tq 65) (tq 67)),
   oo 4 (.move (tq 68) false)])
 .ret))))
def zic:CF:=⟨69,[.tmp 4],
 (.seq (.reg [oo 2 (.box true (tq 0)),
   oo 4 (.move (.const (.sc (.int .u64 0))) false)])
 (.seq (.reg [oo 8 (.indexAddrA 2 1 (tq 2) (.const (.sc (.int .i64 0)))),
   oo 9 (.load false 1 (tq 8) false),
   oo 10 (.bin .xor (tq 9) (.const (.sc (.int .u64 8317987319222330741)))),
   oo 11 (.indexAddrA 2 1 (tq 2) (.const (.sc (.int .i64 1)))),
   oo 12 (.load false 1 (tq 11) false),
   oo 13 (.bin .xor (tq 12) (.const (.sc (.int .u64 7237128888997146477)))),
   oo 14 (.indexAddrA 2 1 (tq 2) (.const (.sc (.int .i64 0)))),
   oo 15 (.load false 1 (tq 14) false),
   oo 16 (.bin .xor (tq 15) (.const (.sc (.int .u64 7816392313619706465)))),
   oo 17 (.indexAddrA 2 1 (tq 2) (.const (.sc (.int .i64 1)))),
   oo 18 (.load false 1 (tq 17) false),
   oo 19 (.bin .xor (tq 18) (.const (.sc (.int .u64 8387220255154660723)))),
   oo 20 (.build [(.sc (.int .u64 0)),(.sc (.int .u64 0)),(.sc (.int .u64 0)),(.sc (.int .u64 0))] [(0,1,(tq 10)),(1,1,(tq 13)),(2,1,(tq 16)),(3,1,(tq 19))]),
   oo 5 (.alloc true [(.sc (.int .u64 0)),(.sc (.int .u64 0)),(.sc (.int .u64 0)),(.sc (.int .u64 0))]),
   oz (.store 4 (tq 5) (tq 20))])
 (.seq (.reg [oo 21 (.move (tq 1) false),
   oo 22 (.lenS (tq 21)),
   oo 23 (.bin .quo (tq 22) (.const (.sc (.int .i64 8)))),
   oo 6 (.move (tq 23) false)])
 (.seq (.seq (.reg [oo 24 (.move (tq 6) false),
   oo 25 (.move (.const (.sc (.int .i64 0))) false)])
 (.block 0 (.loop (bl 50331746 69) (bl 590295810152547221371 69)
 zff)))
 zpD))))⟩
def zwR:Hint:=⟨[],[],[none,some ((bl 50331746 69),(bl 590295810152547221371 69)),none,some ((bl 98 69),(bl 590295810152547221371 69)),none,none],[],[],false,false⟩
def zd8:Nat→Sh:=xO [(9,(.int .u64)),(12,(.int .u64)),(15,(.int .u64)),(18,(.int .u64)),(53,(.int .u64)),(59,(.int .u64)),(61,(.int .u64)),(64,(.int .u64)),(67,(.int .u64))]
def zd0 (yt:zbO) (zw:zbX) (zp:zaU) (L:Nat):CBC:=(xu 113 (zjU zp L) (xu 111 (zm6 zw L) (xu 112 (zno yt L) noC)))
def zjc:St→St:=zac 0 (bl 50331746 69) (bl 590295810152547221371 69)
def zf5 (p1:List (List V)) (p6 p24 p25:Int) (b5:List V):St:=⟨(jn 1 ((V.sl 1 p1)::(jn 3 ((V.ptr 5 0)::((V.sc (.int .i64 p6))::(jn 17 ((V.sc (.int .i64 p24))::((V.sc (.int .i64 p25))::(jn 43 []))))))))),(gn 5 ((.live true b5)::(gn 63 [])))⟩
def zpK (p1:List (List V)) (p6:Int) (b5:List V):St:=⟨(jn 1 ((V.sl 1 p1)::(jn 3 ((V.ptr 5 0)::((V.sc (.int .i64 p6))::(jn 62 [])))))),(gn 5 ((.live true b5)::(gn 63 [])))⟩
def zxj {β:Type} (yt:zbO) (zw:zbX) (zp:zaU) (L:Nat) (p0:List V) (p1:List (List V)) (k_hbbbaba:List (List V)→Int→Int→Int→List V→Option β):Option β :=
 cI .u64 p0 0 fun v0 =>
 lt (za0 .u64 v0 (8317987319222330741:Int)) fun x1 =>
 cI .u64 p0 1 fun v2 =>
 lt (za0 .u64 v2 (7237128888997146477:Int)) fun x3 =>
 cI .u64 p0 0 fun v4 =>
 lt (za0 .u64 v4 (7816392313619706465:Int)) fun x5 =>
 cI .u64 p0 1 fun v6 =>
 lt (za0 .u64 v6 (8387220255154660723:Int)) fun x7 =>
 lt [(V.sc (.int .u64 x1)),(V.sc (.int .u64 x3)),(V.sc (.int .u64 x5)),(V.sc (.int .u64 x7))] fun r8 =>
 lt (IntKind.wrap .i64 (Int.tdiv ((List.length p1:Nat):Int) (8:Int))) fun x9 =>
 k_hbbbaba p1 x9 x9 (0:Int) r8
theorem zEh {β:Type} (yt:zbO) (zw:zbX) (zp:zaU) (L:Nat) (p0:List V) (p1:List (List V)) (k:KK β):xr zd8 (zd0 yt zw zp L) L zic [(V.agg p0),(V.sl 1 p1)] [] k=zxj yt zw zp L p0 p1 (fun p1 p6 p24 p25 b5=>zH (yn zd8 (zd0 yt zw zp L) 0 L zff) zjc L (zf5 p1 p6 p24 p25 b5) (yH 0 (zV (yn zd8 (zd0 yt zw zp L) 0 L zpD) (y6 0 (CF.res zic) k)))):=by kernel_rfl
def znq {β:Type} (yt:zbO) (zw:zbX) (zp:zaU) (L:Nat) (p1:List (List V)) (p6 p24 p25:Int) (b5:List V) (k_hbbbaba:List (List V)→Int→Int→Int→List V→Option β) (k_x0:List (List V)→Int→List V→Option β):Option β :=
 ifb (decide (p25 < p24)) (
 chk (0+4≤(List.length b5)) (
 lt (IntKind.wrap .i64 (((8:Int):Int) * p25)) fun x10 =>
 lt (IntKind.wrap .i64 (((8:Int):Int) * p25)) fun x11 =>
 lt (IntKind.wrap .i64 ((x11:Int)+(8:Int))) fun x12 =>
 chk (0≤x12∧x12≤(((List.length p1):Nat):Int)) (
 chk (0≤x10∧x10≤(((Int.toNat x12):Nat):Int)) (
 yt β L (List.take ((Int.toNat x12) - (Int.toNat x10)) (List.drop (Int.toNat x10) p1)) (fun v13 =>
 zw β L (List.take 4 b5) v13 (fun v14 =>
 chk ((List.length v14)=4∧0+4≤(List.length b5)) (
 lt (xg b5 0 v14) fun r15 =>
 lt (IntKind.wrap .i64 ((p25:Int)+(1:Int))) fun x16 =>
 k_hbbbaba p1 p6 p24 x16 r15))))))) (
 k_x0 p1 p6 b5)
theorem zwr {β:Type} (yt:zbO) (zw:zbX) (zp:zaU) (L:Nat) (p1:List (List V)) (p6 p24 p25:Int) (b5:List V) (X:St→Option β) (K:KT β):yn zd8 (zd0 yt zw zp L) 0 L zff (zf5 p1 p6 p24 p25 b5) (zcC zjc X K)=znq yt zw zp L p1 p6 p24 p25 b5 (fun p1 p6 p24 p25 b5=>X (zf5 p1 p6 p24 p25 b5)) (fun p1 p6 b5=>K (.exit 0) (zpK p1 p6 b5)):=by kernel_rfl
def zgT {β:Type} (yt:zbO) (zw:zbX) (zp:zaU) (L:Nat) (p1:List (List V)) (p6:Int) (b5:List V) (k_fin:Int→Option β):Option β :=
 chk (0+4≤(List.length b5)) (
 lt (IntKind.wrap .i64 (((8:Int):Int) * p6)) fun x17 =>
 chk (0≤x17∧x17≤(((List.length p1):Nat):Int)) (
 yt β L (List.take ((List.length p1) - (Int.toNat x17)) (List.drop (Int.toNat x17) p1)) (fun v18 =>
 lt (Int.tmod ((List.length p1:Nat):Int) (256:Int)) fun x19 =>
 lt (IntKind.wrap .u64 x19) fun x20 =>
 lt (zrq .u64 x20 (56:Int)) fun x21 =>
 lt (ior .u64 v18 x21) fun x22 =>
 zw β L (List.take 4 b5) x22 (fun v23 =>
 chk ((List.length v23)=4∧0+4≤(List.length b5)) (
 lt (xg b5 0 v23) fun r24 =>
 cI .u64 r24 2 fun v25 =>
 lt (za0 .u64 v25 (255:Int)) fun x26 =>
 chk (1=1∧2+1≤(List.length r24)) (
 lt (xg r24 2 [(V.sc (.int .u64 x26))]) fun r27 =>
 chk (0+4≤(List.length r27)) (
 zp β L (List.take 4 r27) (4:Int) (fun v28 =>
 chk ((List.length v28)=4∧0+4≤(List.length r27)) (
 lt (xg r27 0 v28) fun r29 =>
 cI .u64 r29 0 fun v30 =>
 cI .u64 r29 1 fun v31 =>
 lt (za0 .u64 v30 v31) fun x32 =>
 cI .u64 r29 2 fun v33 =>
 lt (za0 .u64 x32 v33) fun x34 =>
 cI .u64 r29 3 fun v35 =>
 lt (za0 .u64 x34 v35) fun x36 =>
 k_fin x36)))))))))
theorem zuG {β:Type} (yt:zbO) (zw:zbX) (zp:zaU) (L:Nat) (p1:List (List V)) (p6:Int) (b5:List V) (k:KK β):(yH 0 (zV (yn zd8 (zd0 yt zw zp L) 0 L zpD) (y6 0 (CF.res zic) k))) (.exit 0) (zpK p1 p6 b5)=zgT yt zw zp L p1 p6 b5 (fun p0=>k (V.sc (.int .u64 p0)) []):=by kernel_rfl
def zf4 {β:Type} (yt:zbO) (zw:zbX) (zp:zaU) (L:Nat) (k_x0:List (List V)→Int→List V→Option β):Nat→List (List V)→Int→Int→Int→List V→Option β
 | 0,_,_,_,_,_=>none
 | n+1,p1,p6,p24,p25,b5=>znq yt zw zp L p1 p6 p24 p25 b5 (fun p1 p6 p24 p25 b5=>zf4 yt zw zp L k_x0 n p1 p6 p24 p25 b5) k_x0
theorem zo6 {β:Type} (yt:zbO) (zw:zbX) (zp:zaU) (L:Nat) (K:KT β):∀ (n:Nat) (p1:List (List V)) (p6 p24 p25:Int) (b5:List V),zH (yn zd8 (zd0 yt zw zp L) 0 L zff) zjc n (zf5 p1 p6 p24 p25 b5) K=zf4 yt zw zp L (fun p1 p6 b5=>K (.exit 0) (zpK p1 p6 b5)) n p1 p6 p24 p25 b5:=by
 intro n
 induction n with
 | zero=>intros; rfl
 | succ n ih =>
  intro p1 p6 p24 p25 b5
  refine (zwr yt zw zp L p1 p6 p24 p25 b5 (fun σ=>zH (yn zd8 (zd0 yt zw zp L) 0 L zff) zjc n σ K) K).trans ?_
  simp only [ih]
  rfl
def zsi {β:Type} (yt:zbO) (zw:zbX) (zp:zaU) (L:Nat) (p0:List V) (p1:List (List V)) (k_fin:Int→Option β):Option β :=
 zxj yt zw zp L p0 p1 (fun p1 p6 p24 p25 b5=>zf4 yt zw zp L (fun p1 p6 b5=>zgT yt zw zp L p1 p6 b5 k_fin) L p1 p6 p24 p25 b5)
theorem zDj {β:Type} (yt:zbO) (zw:zbX) (zp:zaU) (L:Nat) (p0:List V) (p1:List (List V)) (k:KK β):xr zd8 (zd0 yt zw zp L) L zic [(V.agg p0),(V.sl 1 p1)] [] k=zsi yt zw zp L p0 p1 (fun p0=>k (V.sc (.int .u64 p0)) []):=by
 refine (zEh yt zw zp L p0 p1 k).trans ?_
 unfold zsi
 first
  | (simp only [zo6,zuG]; done)
  | (simp only [zo6]; rfl)
abbrev zj9:=∀ (β:Type),Nat→List V→List (List V)→(Int→Option β)→Option β
def xT (β:Type) (L:Nat) (p0:List V) (p1:List (List V)) (k_fin:Int→Option β):Option β:=zsi yt zw zp L p0 p1 k_fin
def zpu (xT:zj9) (L:Nat) (β:Type) (args:List V) (bor:Bor) (k:KK β):Option β:=match args,bor with
 | [a0,a1],[]=>aG a0 fun p0=>aL 1 a1 fun p1=>xT β L p0 p1 (fun p0=>k (V.sc (.int .u64 p0)) [])
 | _,_=>none
theorem zDl (L:Nat) (β:Type) (args:List V) (bor:Bor) (k:KK β) (r:β) (h:zpu xT L β args bor k=some r):xr zd8 (zd0 yt zw zp L) L zic args bor k=some r:=by
 unfold zpu at h
 split at h
 ·have q:=yZ h; clear h; obtain ⟨p0,rfl,h⟩:=q
  have q:=z9 h; clear h; obtain ⟨p1,rfl,h⟩:=q
  exact (zDj yt zw zp L p0 p1 k).trans h
 ·cases h
def zdA:CF:=⟨32,[.tmp 6],
 (.seq (.reg [oo 3 (.box true (tq 0)),
   oo 4 (.box true (tq 1)),
   oo 6 (.move (.const (.sc (.int .i64 0))) false)])
 (.seq (.reg [oo 10 (.load true 32 (tq 3) false),
   oo 11 (.call 109 [((tq 10),0)] []),
   oo 7 (.alloc true [(.sc (.int .u64 0)),(.sc (.int .u64 0))]),
   oz (.store 2 (tq 7) (tq 11))])
 (.seq (.dreg [] [(oo 12 (.load true 2 (tq 7) false),ql 7 [4] [13]),
   (oo 13 (.buildSlice 1 1 [(.sc (.int .u8 0))] [(0,1,(.const (.sc (.int .u8 2))))]),qn [7,4] []),
   (oo 14 (.load true 3 (tq 4) false),ql 4 [7] [13]),
   (oo 15 (.call 269 [((tq 14),0)] []),qc [7] [13]),
   (oo 16 (.call 157 [((tq 13),0),((tq 15),0)] []),qc [7] []),
   (oo 17 (.move (tq 2) false),q0),
   (oo 18 (.call 157 [((tq 16),0),((tq 17),0)] []),qc [7] []),
   (oo 19 (.call 105 [((tq 12),0),((tq 18),0)] []),q0),
   (oo 20 (.bin .rem (tq 19) (.const (.sc (.int .u64 4)))),q0),
   (oo 8 (.move (tq 20) false),q0)])
 (.seq (.reg [oo 21 (.buildSlice 1 1 [(.sc (.int .u8 0))] [(0,1,(.const (.sc (.int .u8 1))))]),
   oo 22 (.move (tq 2) false),
   oo 23 (.call 157 [((tq 21),0),((tq 22),0)] []),
   oo 24 (.move (tq 8) false),
   oo 25 (.conv .u32 (tq 24)),
   oo 26 (.call 157 [((tq 23),0),((tq 25),0)] []),
   oo 9 (.move (tq 26) false)])
 (.seq (.reg [oo 27 (.load true 2 (tq 7) false),
   oo 28 (.move (tq 9) false),
   oo 29 (.call 105 [((tq 27),0),((tq 28),0)] []),
   oo 30 (.bin .rem (tq 29) (.const (.sc (.int .u64 64)))),
   oo 31 (.conv .i64 (tq 30)),
   oo 6 (.move (tq 31) false)])
 .ret)))))⟩
def zi7:Hint:=⟨[],[],[none],[],[],false,false⟩
def zfO:Nat→Sh:=xO []
def zfR (yY:zjr) (yb:zq) (xv:zcz) (xT:zj9) (L:Nat):CBC:=(xu 105 (zpu xT L) (xu 157 (zeF xv L) (xu 269 (zbQ yb L) (xu 109 (zpy yY L) noC))))
def zgC {β:Type} (yY:zjr) (yb:zq) (xv:zcz) (xT:zj9) (L:Nat) (p0 p1:List V) (p2:Int) (k_fin:Int→Option β):Option β :=
 chk (0+32≤(List.length p0)) (
 yY β L (List.take 32 p0) (fun v0 =>
 chk ((List.length v0)=2∧0+2≤2) (
 lt (xg [(V.sc (.int .u64 (0:Int))),(V.sc (.int .u64 (0:Int)))] 0 v0) fun r1 =>
 chk (0+2≤(List.length r1)) (
 chk (0+3≤(List.length p1)) (
 yb β L (List.take 3 p1) (fun v2 =>
 xv β L (yk 1 1 [(V.sc (.int .u8 (2:Int)))]) v2 (fun v3 =>
 xv β L v3 p2 (fun v4 =>
 xT β L (List.take 2 r1) v4 (fun v5 =>
 lt (Int.tmod v5 (4:Int)) fun x6 =>
 xv β L (yk 1 1 [(V.sc (.int .u8 (1:Int)))]) p2 (fun v7 =>
 lt (IntKind.wrap .u32 x6) fun x8 =>
 xv β L v7 x8 (fun v9 =>
 chk (0+2≤(List.length r1)) (
 xT β L (List.take 2 r1) v9 (fun v10 =>
 lt (Int.tmod v10 (64:Int)) fun x11 =>
 lt (IntKind.wrap .i64 x11) fun x12 =>
 k_fin x12)))))))))))))
theorem zqC {β:Type} (yY:zjr) (yb:zq) (xv:zcz) (xT:zj9) (L:Nat) (p0 p1:List V) (p2:Int) (k:KK β):xr zfO (zfR yY yb xv xT L) L zdA [(V.agg p0),(V.agg p1),(V.sc (.int .u32 p2))] [] k=zgC yY yb xv xT L p0 p1 p2 (fun p0=>k (V.sc (.int .i64 p0)) []):=by kernel_rfl
abbrev zd6:=∀ (β:Type),Nat→List V→List V→Int→(Int→Option β)→Option β
def xG (β:Type) (L:Nat) (p0 p1:List V) (p2:Int) (k_fin:Int→Option β):Option β:=zgC yY yb xv xT L p0 p1 p2 k_fin
def zdZ (xG:zd6) (L:Nat) (β:Type) (args:List V) (bor:Bor) (k:KK β):Option β:=match args,bor with
 | [a0,a1,a2],[]=>aG a0 fun p0=>aG a1 fun p1=>aI .u32 a2 fun p2=>xG β L p0 p1 p2 (fun p0=>k (V.sc (.int .i64 p0)) [])
 | _,_=>none
theorem zqG (L:Nat) (β:Type) (args:List V) (bor:Bor) (k:KK β) (r:β) (h:zdZ xG L β args bor k=some r):xr zfO (zfR yY yb xv xT L) L zdA args bor k=some r:=by
 unfold zdZ at h
 split at h
 ·have q:=yZ h; clear h; obtain ⟨p0,rfl,h⟩:=q
  have q:=yZ h; clear h; obtain ⟨p1,rfl,h⟩:=q
  have q:=zau h; clear h; obtain ⟨p2,rfl,h⟩:=q
  exact (zqC yY yb xv xT L p0 p1 p2 k).trans h
 ·cases h
def zfG:CF:=⟨11,[.tmp 3],
 (.seq (.reg [oo 2 (.box true (tq 0)),
   oo 3 (.move (.const (.sc (.int .i64 0))) false)])
 (.seq (.reg [oo 4 (.fieldAddr 0 (tq 1)),
   oo 5 (.load true 32 (tq 4) false),
   oo 6 (.fieldAddr 1 (tq 2)),
   oo 7 (.load true 3 (tq 6) false),
   oo 8 (.fieldAddr 4 (tq 2)),
   oo 9 (.load false 1 (tq 8) false),
   oo 10 (.call 297 [((tq 5),0),((tq 7),0),((tq 9),0)] []),
   oo 3 (.move (tq 10) false)])
 .ret))⟩
def zmj:Hint:=⟨[],[],[none],[],[],false,false⟩
def ziA:Nat→Sh:=xO [(9,(.int .u32))]
def ziw (xG:zd6) (L:Nat):CBC:=(xu 297 (zdZ xG L) noC)
def zjv {β:Type} (xG:zd6) (L:Nat) (p0 b0:List V) (k_fin:Int→List V→Option β):Option β :=
 chk (0+32≤(List.length b0)) (
 chk (1+3≤(List.length p0)) (
 cI .u32 p0 4 fun v0 =>
 xG β L (List.take 32 b0) (List.take 3 (List.drop 1 p0)) v0 (fun v1 =>
 k_fin v1 b0)))
theorem ztZ {β:Type} (xG:zd6) (L:Nat) (p0 b0:List V) (k:KK β):xr ziA (ziw xG L) L zfG [(V.agg p0),(V.ptr 0 0)] [(.live true b0)] k=zjv xG L p0 b0 (fun p0 b0=>k (V.sc (.int .i64 p0)) [(.live true b0)]):=by kernel_rfl
abbrev zW:=∀ (β:Type),Nat→List V→List V→(Int→List V→Option β)→Option β
def zi (β:Type) (L:Nat) (p0 b0:List V) (k_fin:Int→List V→Option β):Option β:=zjv xG L p0 b0 k_fin
def zgm (zi:zW) (L:Nat) (β:Type) (args:List V) (bor:Bor) (k:KK β):Option β:=match args,bor with
 | [a0,a1],[(.live true b0)]=>aG a0 fun p0=>aP 0 0 a1 (zi β L p0 b0 (fun p0 b0=>k (V.sc (.int .i64 p0)) [(.live true b0)]))
 | _,_=>none
theorem ztS (L:Nat) (β:Type) (args:List V) (bor:Bor) (k:KK β) (r:β) (h:zgm zi L β args bor k=some r):xr ziA (ziw xG L) L zfG args bor k=some r:=by
 unfold zgm at h
 split at h
 ·have q:=yZ h; clear h; obtain ⟨p0,rfl,h⟩:=q
  have q:=zlx h; clear h; obtain ⟨rfl,h⟩:=q
  exact (ztZ xG L p0 _ k).trans h
 ·cases h
def zcq:CC:=(.seq (.reg [oo 18 (.bin .lss (tq 17) (tq 16))])
 (.seq (.cond (tq 18)
 .skip
 (.seq (.mask (bl 0 58) (bl 288230375077966399 58))
 (.exit 0)))
 (.seq (.block 1 (.seq (.reg [oo 19 (.indexAddrS 5 (tq 15) (tq 17)),
   oo 20 (.load true 5 (tq 19) false),
   oo 10 (.alloc true [(.sc (.int .i64 0)),(.sc (.int .u32 0)),(.sc (.int .u16 0)),(.sc (.int .u32 0)),(.sc (.int .u32 0))]),
   oz (.store 5 (tq 10) (tq 20))])
 (.seq (.seq (.dreg [] [(oo 21 (.fieldAddr 0 (tq 10)),q0),
   (oo 22 (.load false 1 (tq 21) false),q0),
   (oo 23 (.move (tq 7) false),q0),
   (oo 24 (.bin .lss (tq 22) (tq 23)),q0),
   (oo 25 (.move (tq 24) false),q0),
   (⟨(some 26),false,(some (25,false)),.fieldAddr 0 (tq 10)⟩,q0),
   (⟨(some 27),false,(some (25,false)),.load false 1 (tq 26) false⟩,ql 10 [] []),
   (⟨(some 28),false,(some (25,false)),.move (tq 2) false⟩,q0),
   (⟨(some 29),false,(some (25,false)),.load true 5 (tq 10) false⟩,ql 10 [] []),
   (⟨(some 30),false,(some (25,false)),.callv (tq 28) [((tq 29),0)] []⟩,qc [10] []),
   (⟨(some 31),false,(some (25,false)),.bin .neq (tq 27) (tq 30)⟩,q0),
   (oo 32 (.pick (tq 25) (.const (.sc (.bool true))) (tq 31)),q0)])
 (.cond (tq 32)
 (.seq (.reg [oo 6 (.move (.const (.sc (.bool false))) false)])
 (.seq (.mask (bl 64 58) (bl 288230375077966463 58))
 .ret))
 .skip))
 (.seq (.seq (.reg [oo 33 (.fieldAddr 0 (tq 10)),
   oo 34 (.load false 1 (tq 33) false),
   oo 35 (.move (tq 7) false),
   oo 36 (.bin .neq (tq 34) (tq 35))])
 (.cond (tq 36)
 (.reg [oo 37 (.fieldAddr 0 (tq 10)),
   oo 38 (.load false 1 (tq 37) false),
   oo 7 (.move (tq 38) false),
   oo 8 (.move (.const (.sc (.int .i64 0))) false)])
 .skip))
 (.seq (.reg [oo 39 (.move (tq 8) false),
   oo 40 (.bin .add (tq 39) (.const (.sc (.int .i64 1)))),
   oo 8 (.move (tq 40) false)])
 (.seq (.reg [oo 41 (.fieldAddr 1 (tq 10)),
   oo 42 (.fieldAddr 0 (tq 41)),
   oo 43 (.load false 1 (tq 42) false),
   oo 44 (.fieldAddr 1 (tq 10)),
   oo 45 (.fieldAddr 1 (tq 44)),
   oo 46 (.load false 1 (tq 45) false),
   oo 47 (.build [(.sc (.int .u32 0)),(.sc (.int .u16 0))] [(0,1,(tq 43)),(1,1,(tq 46))]),
   oo 11 (.alloc true [(.sc (.int .u32 0)),(.sc (.int .u16 0))]),
   oz (.store 2 (tq 11) (tq 47))])
 (.seq (.seq (.reg [oo 48 (.move (tq 8) false),
   oo 49 (.bin .gtr (tq 48) (.const (.sc (.int .i64 8)))),
   oo 50 (.move (tq 49) false),
   ⟨(some 51),false,(some (50,false)),.move (tq 1) false⟩,
   ⟨(some 52),false,(some (50,false)),.load true 2 (tq 11) false⟩,
   ⟨(some 53),false,(some (50,false)),.mlook 4 false (.sc (.bool false)) (tq 51) (tq 52)⟩,
   oo 54 (.pick (tq 50) (.const (.sc (.bool true))) (tq 53))])
 (.cond (tq 54)
 (.seq (.reg [oo 6 (.move (.const (.sc (.bool false))) false)])
 (.seq (.mask (bl 64 58) (bl 288230375077966463 58))
 .ret))
 .skip))
 (.reg [oo 55 (.move (tq 1) false),
   oo 56 (.load true 2 (tq 11) false),
   oz (.mput 4 (tq 55) (tq 56) (.const (.sc (.bool true))))]))))))))
 (.reg [oo 57 (.bin .add (tq 17) (.const (.sc (.int .i64 1)))),
   oo 17 (.move (tq 57) false)]))))
def zeQ:CC:=(.seq (.reg [oo 6 (.move (.const (.sc (.bool true))) false)])
 .ret)
def zbl:CF:=⟨58,[.tmp 6],
 (.seq (.reg [oo 6 (.move (.const (.sc (.bool false))) false)])
 (.seq (.seq (.reg [oo 12 (.move (tq 0) false),
   oo 13 (.lenS (tq 12)),
   oo 14 (.bin .gtr (tq 13) (.const (.sc (.int .i64 512))))])
 (.cond (tq 14)
 (.seq (.reg [oo 6 (.move (.const (.sc (.bool false))) false)])
 .ret)
 .skip))
 (.seq (.reg [oo 7 (.move (.const (.sc (.int .i64 (-1)))) false),
   oo 8 (.move (.const (.sc (.int .i64 0))) false)])
 (.seq (.seq (.reg [oo 15 (.move (tq 0) false),
   oo 16 (.lenS (tq 15)),
   oo 17 (.move (.const (.sc (.int .i64 0))) false)])
 (.block 0 (.loop (bl 229766 58) (bl 288230375077966783 58)
 zcq)))
 zeQ))))⟩
def zoa:Hint:=⟨[],[],[none,none,none,some ((bl 229766 58),(bl 288230375077966783 58)),none,some ((bl 0 58),(bl 288230375077966399 58)),none,none,some ((bl 64 58),(bl 288230375077966463 58)),none,none,some ((bl 64 58),(bl 288230375077966463 58)),none],[],[],false,false⟩
def zaD:Nat→Sh:=xO [(22,(.int .i64)),(27,(.int .i64)),(34,(.int .i64)),(38,(.int .i64)),(43,(.int .u32)),(46,(.int .u16)),(53,.bool)]
def zaB (zi:zW) (L:Nat):CBC:=(xu 296 (zgm zi L) noC)
def zdY:St→St:=zac 2 (bl 229766 58) (bl 288230375077966783 58)
def zdd (p7 p8:Int) (p15:List (List V)) (p16 p17:Int) (b0:List (V × V)) (b1:List V):St:=⟨(jn 1 ((V.mp 0)::((V.fn 296 [(V.ptr 1 0)])::(jn 4 ((V.sc (.int .i64 p7))::((V.sc (.int .i64 p8))::(jn 6 ((V.sl 5 p15)::((V.sc (.int .i64 p16))::((V.sc (.int .i64 p17))::(jn 40 []))))))))))),((.mp b0)::((.live true b1)::(gn 58 [])))⟩
def zhg (p6:Bool) (b0:List (V × V)) (b1:List V):St:=⟨(jn 6 ((V.sc (.bool p6))::(jn 51 []))),((.mp b0)::((.live true b1)::(gn 58 [])))⟩
def zh7 (b0:List (V × V)) (b1:List V):St:=⟨(jn 58 []),((.mp b0)::((.live true b1)::(gn 58 [])))⟩
abbrev zkF (β:Type):Type:=Int→Int→List (List V)→Int→Int→List (V × V)→List V→Option β
def zlR {β:Type} (zi:zW) (L:Nat) (p0:List (List V)) (b0:List (V × V)) (b1:List V) (k_fin:Bool→List (V × V)→List V→Option β) (k_hbbbaba:zkF β):Option β :=
 ifb (decide (((List.length p0:Nat):Int) > (512:Int))) (
 k_fin false b0 b1) (
 k_hbbbaba (-1:Int) (0:Int) p0 ((List.length p0:Nat):Int) (0:Int) b0 b1)
theorem zv4 {β:Type} (zi:zW) (L:Nat) (p0:List (List V)) (b0:List (V × V)) (b1:List V) (k:KK β):xr zaD (zaB zi L) L zbl [(V.sl 5 p0),(V.mp 0),(V.fn 296 [(V.ptr 1 0)])] [(.mp b0),(.live true b1)] k=zlR zi L p0 b0 b1 (fun p0 b0 b1=>k (V.sc (.bool p0)) [(.mp b0),(.live true b1)]) (fun p7 p8 p15 p16 p17 b0 b1=>zH (yn zaD (zaB zi L) 2 L zcq) zdY L (zdd p7 p8 p15 p16 p17 b0 b1) (yH 0 (zV (yn zaD (zaB zi L) 2 L zeQ) (y6 2 (CF.res zbl) k)))):=by kernel_rfl
def zgA {β:Type} (zi:zW) (L:Nat) (p7 p8:Int) (p15:List (List V)) (p16 p17:Int) (b0:List (V × V)) (b1:List V) (k_ret:Bool→List (V × V)→List V→Option β) (k_hbbbaba:zkF β) (k_x0:List (V × V)→List V→Option β):Option β :=
 ifb (decide (p17 < p16)) (
 idx p15 p17 fun c0 =>
 chk ((List.length (List.take 5 c0))=5∧0+5≤5) (
 lt (xg [(V.sc (.int .i64 (0:Int))),(V.sc (.int .u32 (0:Int))),(V.sc (.int .u16 (0:Int))),(V.sc (.int .u32 (0:Int))),(V.sc (.int .u32 (0:Int)))] 0 (List.take 5 c0)) fun r1 =>
 cI .i64 r1 0 fun v2 =>
 ifb (decide (v2 < p7)) (
 k_ret false b0 b1) (
 cI .i64 r1 0 fun v3 =>
 chk (0+5≤(List.length r1)) (
 zi β L (List.take 5 r1) b1 (fun v4 v5 =>
 chk ([(List.length v5)]=[(List.length b1)]) (
 ifb ((v3:Int) != v4) (
 k_ret false b0 v5) (
 cI .i64 r1 0 fun v6 =>
 ifb ((v6:Int) != p7) (
 cI .i64 r1 0 fun v7 =>
 lt (IntKind.wrap .i64 (((0:Int):Int)+(1:Int))) fun x8 =>
 cI .u32 r1 1 fun v9 =>
 cI .u16 r1 2 fun v10 =>
 lt [(V.sc (.int .u32 v9)),(V.sc (.int .u16 v10))] fun r11 =>
 ifb (decide (x8 > (8:Int))) (
 k_ret false b0 v5) (
 chk (0+2≤(List.length r11)) (
 mAt 4 (V.agg (List.take 2 r11)) b0 fun q12 =>
 aB (Option.getD q12 (V.sc (.bool false))) fun v13 =>
 ifb v13 (
 k_ret false b0 v5) (
 chk (0+2≤(List.length r11)) (
 ztj 4 (V.agg (List.take 2 r11)) (V.sc (.bool true)) b0 fun m14 =>
 lt (IntKind.wrap .i64 ((p17:Int)+(1:Int))) fun x15 =>
 k_hbbbaba v7 x8 p15 p16 x15 m14 v5))))) (
 lt (IntKind.wrap .i64 ((p8:Int)+(1:Int))) fun x16 =>
 cI .u32 r1 1 fun v17 =>
 cI .u16 r1 2 fun v18 =>
 lt [(V.sc (.int .u32 v17)),(V.sc (.int .u16 v18))] fun r19 =>
 ifb (decide (x16 > (8:Int))) (
 k_ret false b0 v5) (
 chk (0+2≤(List.length r19)) (
 mAt 4 (V.agg (List.take 2 r19)) b0 fun q20 =>
 aB (Option.getD q20 (V.sc (.bool false))) fun v21 =>
 ifb v21 (
 k_ret false b0 v5) (
 chk (0+2≤(List.length r19)) (
 ztj 4 (V.agg (List.take 2 r19)) (V.sc (.bool true)) b0 fun m22 =>
 lt (IntKind.wrap .i64 ((p17:Int)+(1:Int))) fun x23 =>
 k_hbbbaba p7 x16 p15 p16 x23 m22 v5)))))))))))) (
 k_x0 b0 b1)
theorem zqH {β:Type} (zi:zW) (L:Nat) (p7 p8:Int) (p15:List (List V)) (p16 p17:Int) (b0:List (V × V)) (b1:List V) (X:St→Option β) (K:KT β):yn zaD (zaB zi L) 2 L zcq (zdd p7 p8 p15 p16 p17 b0 b1) (zcC zdY X K)=zgA zi L p7 p8 p15 p16 p17 b0 b1 (fun p6 b0 b1=>K .ret (zhg p6 b0 b1)) (fun p7 p8 p15 p16 p17 b0 b1=>X (zdd p7 p8 p15 p16 p17 b0 b1)) (fun b0 b1=>K (.exit 0) (zh7 b0 b1)):=by kernel_rfl
def zeX {β:Type} (zi:zW) (L:Nat) (p6:Bool) (b0:List (V × V)) (b1:List V) (k_fin:Bool→List (V × V)→List V→Option β):Option β :=
 k_fin p6 b0 b1
theorem zoG {β:Type} (zi:zW) (L:Nat) (p6:Bool) (b0:List (V × V)) (b1:List V) (k:KK β):(yH 0 (zV (yn zaD (zaB zi L) 2 L zeQ) (y6 2 (CF.res zbl) k))) .ret (zhg p6 b0 b1)=zeX zi L p6 b0 b1 (fun p0 b0 b1=>k (V.sc (.bool p0)) [(.mp b0),(.live true b1)]):=by kernel_rfl
def zfd {β:Type} (zi:zW) (L:Nat) (b0:List (V × V)) (b1:List V) (k_fin:Bool→List (V × V)→List V→Option β):Option β :=
 k_fin true b0 b1
theorem zpg {β:Type} (zi:zW) (L:Nat) (b0:List (V × V)) (b1:List V) (k:KK β):(yH 0 (zV (yn zaD (zaB zi L) 2 L zeQ) (y6 2 (CF.res zbl) k))) (.exit 0) (zh7 b0 b1)=zfd zi L b0 b1 (fun p0 b0 b1=>k (V.sc (.bool p0)) [(.mp b0),(.live true b1)]):=by kernel_rfl
def zb0 {β:Type} (zi:zW) (L:Nat) (k_ret:Bool→List (V × V)→List V→Option β) (k_x0:List (V × V)→List V→Option β):Nat→Int→Int→List (List V)→Int→Int→List (V × V)→List V→Option β
 | 0,_,_,_,_,_,_,_=>none
 | n+1,p7,p8,p15,p16,p17,b0,b1=>zgA zi L p7 p8 p15 p16 p17 b0 b1 k_ret (fun p7 p8 p15 p16 p17 b0 b1=>zb0 zi L k_ret k_x0 n p7 p8 p15 p16 p17 b0 b1) k_x0
theorem ziY {β:Type} (zi:zW) (L:Nat) (K:KT β):∀ (n:Nat) (p7 p8:Int) (p15:List (List V)) (p16 p17:Int) (b0:List (V × V)) (b1:List V),zH (yn zaD (zaB zi L) 2 L zcq) zdY n (zdd p7 p8 p15 p16 p17 b0 b1) K=zb0 zi L (fun p6 b0 b1=>K .ret (zhg p6 b0 b1)) (fun b0 b1=>K (.exit 0) (zh7 b0 b1)) n p7 p8 p15 p16 p17 b0 b1:=by
 intro n
 induction n with
 | zero=>intros; rfl
 | succ n ih =>
  intro p7 p8 p15 p16 p17 b0 b1
  refine (zqH zi L p7 p8 p15 p16 p17 b0 b1 (fun σ=>zH (yn zaD (zaB zi L) 2 L zcq) zdY n σ K) K).trans ?_
  simp only [ih]
  rfl
def zie {β:Type} (zi:zW) (L:Nat) (p0:List (List V)) (b0:List (V × V)) (b1:List V) (k_fin:Bool→List (V × V)→List V→Option β):Option β :=
 zlR zi L p0 b0 b1 k_fin (fun p7 p8 p15 p16 p17 b0 b1=>zb0 zi L (fun p6 b0 b1=>zeX zi L p6 b0 b1 k_fin) (fun b0 b1=>zfd zi L b0 b1 k_fin) L p7 p8 p15 p16 p17 b0 b1)
theorem zvP {β:Type} (zi:zW) (L:Nat) (p0:List (List V)) (b0:List (V × V)) (b1:List V) (k:KK β):xr zaD (zaB zi L) L zbl [(V.sl 5 p0),(V.mp 0),(V.fn 296 [(V.ptr 1 0)])] [(.mp b0),(.live true b1)] k=zie zi L p0 b0 b1 (fun p0 b0 b1=>k (V.sc (.bool p0)) [(.mp b0),(.live true b1)]):=by
 refine (zv4 zi L p0 b0 b1 k).trans ?_
 unfold zie
 first
  | (simp only [ziY,zoG,zpg]; done)
  | (simp only [ziY]; rfl)
abbrev zhB:=∀ (β:Type),Nat→List (List V)→List (V × V)→List V→(Bool→List (V × V)→List V→Option β)→Option β
def zT (β:Type) (L:Nat) (p0:List (List V)) (b0:List (V × V)) (b1:List V) (k_fin:Bool→List (V × V)→List V→Option β):Option β:=zie zi L p0 b0 b1 k_fin
def zhN (zT:zhB) (L:Nat) (β:Type) (args:List V) (bor:Bor) (k:KK β):Option β:=match args,bor with
 | [a0,a1,a2],[(.mp b0),(.live true b1)]=>aL 5 a0 fun p0=>aM 0 a1 (aF 296 [(1,0)] a2 (zT β L p0 b0 b1 (fun p0 b0 b1=>k (V.sc (.bool p0)) [(.mp b0),(.live true b1)])))
 | _,_=>none
theorem zvH (L:Nat) (β:Type) (args:List V) (bor:Bor) (k:KK β) (r:β) (h:zhN zT L β args bor k=some r):xr zaD (zaB zi L) L zbl args bor k=some r:=by
 unfold zhN at h
 split at h
 ·have q:=z9 h; clear h; obtain ⟨p0,rfl,h⟩:=q
  have q:=zGo h; clear h; obtain ⟨rfl,h⟩:=q
  have q:=ztT h; clear h; obtain ⟨rfl,h⟩:=q
  exact (zvP zi L p0 _ _ k).trans h
 ·cases h
def zgc:CF:=⟨10,[.tmp 4],
 (.seq (.reg [oo 4 (.move (.const (.gs 1 [])) true)])
 (.seq (.reg [oo 5 (.move (tq 0) false),
   oo 6 (.move (tq 1) false),
   oo 7 (.conv .u64 (tq 6)),
   oo 8 (.call 192 [((tq 7),0),((.const (.sc (.int .i64 2))),0)] []),
   oo 9 (.call 191 [((tq 5),0),((tq 8),0)] []),
   oo 4 (.move (tq 9) true)])
 .ret))⟩
def zmM:Hint:=⟨[(0,0),(1,5)],[],[none],[],[],false,false⟩
def zjm:Nat→Sh:=xO []
def zjx (yF:zdR) (yE:zdQ) (L:Nat):CBC:=(xu 191 (zhp yE L) (xu 192 (zhd yF L) noC))
def zk1 {β:Type} (yF:zdR) (yE:zdQ) (L:Nat) (p0:List (List V)) (p1:Int) (k_fin:List (List V)→Option β):Option β :=
 lt (IntKind.wrap .u64 p1) fun x0 =>
 yF β L x0 (2:Int) (fun v1 =>
 yE β L p0 v1 (fun v2 =>
 k_fin v2))
theorem zuz {β:Type} (yF:zdR) (yE:zdQ) (L:Nat) (p0:List (List V)) (p1:Int) (k:KK β):xr zjm (zjx yF yE L) L zgc [(V.sl 1 p0),(V.sc (.int .u16 p1))] [] k=zk1 yF yE L p0 p1 (fun p0=>k (V.gs 1 p0) []):=by kernel_rfl
abbrev zgS:=∀ (β:Type),Nat→List (List V)→Int→(List (List V)→Option β)→Option β
def yR (β:Type) (L:Nat) (p0:List (List V)) (p1:Int) (k_fin:List (List V)→Option β):Option β:=zk1 yF yE L p0 p1 k_fin
def zgR (yR:zgS) (L:Nat) (β:Type) (args:List V) (bor:Bor) (k:KK β):Option β:=match args,bor with
 | [a0,a1],[]=>aL 1 a0 fun p0=>aI .u16 a1 fun p1=>yR β L p0 p1 (fun p0=>k (V.gs 1 p0) [])
 | _,_=>none
theorem zu1 (L:Nat) (β:Type) (args:List V) (bor:Bor) (k:KK β) (r:β) (h:zgR yR L β args bor k=some r):xr zjm (zjx yF yE L) L zgc args bor k=some r:=by
 unfold zgR at h
 split at h
 ·have q:=z9 h; clear h; obtain ⟨p0,rfl,h⟩:=q
  have q:=zau h; clear h; obtain ⟨p1,rfl,h⟩:=q
  exact (zuz yF yE L p0 p1 k).trans h
 ·cases h
def zdF:CF:=⟨32,[.tmp 4],
 (.seq (.reg [oo 2 (.box true (tq 0)),
   oo 3 (.box true (tq 1)),
   oo 4 (.move (.const (.sc (.int .i64 0))) false)])
 (.seq (.reg [oo 8 (.load true 32 (tq 2) false),
   oo 9 (.call 109 [((tq 8),0)] []),
   oo 5 (.alloc true [(.sc (.int .u64 0)),(.sc (.int .u64 0))]),
   oz (.store 2 (tq 5) (tq 9))])
 (.seq (.dreg [] [(oo 10 (.load true 2 (tq 5) false),ql 5 [3] [11]),
   (oo 11 (.buildSlice 1 1 [(.sc (.int .u8 0))] [(0,1,(.const (.sc (.int .u8 4))))]),qn [5,3] []),
   (oo 12 (.fieldAddr 0 (tq 3)),q0),
   (oo 13 (.load false 1 (tq 12) false),ql 3 [5] [11]),
   (oo 14 (.call 157 [((tq 11),0),((tq 13),0)] []),qc [5,3] []),
   (oo 15 (.fieldAddr 1 (tq 3)),q0),
   (oo 16 (.load false 1 (tq 15) false),ql 3 [5] [11]),
   (oo 17 (.call 205 [((tq 14),0),((tq 16),0)] []),qc [5] []),
   (oo 18 (.call 105 [((tq 10),0),((tq 17),0)] []),q0),
   (oo 19 (.bin .rem (tq 18) (.const (.sc (.int .u64 4)))),q0),
   (oo 6 (.move (tq 19) false),q0)])
 (.seq (.reg [oo 20 (.buildSlice 1 1 [(.sc (.int .u8 0))] [(0,1,(.const (.sc (.int .u8 3))))]),
   oo 21 (.load true 3 (tq 3) false),
   oo 22 (.call 269 [((tq 21),0)] []),
   oo 23 (.call 157 [((tq 20),0),((tq 22),0)] []),
   oo 24 (.move (tq 6) false),
   oo 25 (.conv .u32 (tq 24)),
   oo 26 (.call 157 [((tq 23),0),((tq 25),0)] []),
   oo 7 (.move (tq 26) false)])
 (.seq (.reg [oo 27 (.load true 2 (tq 5) false),
   oo 28 (.move (tq 7) false),
   oo 29 (.call 105 [((tq 27),0),((tq 28),0)] []),
   oo 30 (.bin .rem (tq 29) (.const (.sc (.int .u64 64)))),
   oo 31 (.conv .i64 (tq 30)),
   oo 4 (.move (tq 31) false)])
 .ret)))))⟩
def ziW:Hint:=⟨[],[],[none],[],[],false,false⟩
def zfW:Nat→Sh:=xO [(13,(.int .u32)),(16,(.int .u16))]
def zfS (yY:zjr) (xv:zcz) (yR:zgS) (xT:zj9) (yb:zq) (L:Nat):CBC:=(xu 269 (zbQ yb L) (xu 105 (zpu xT L) (xu 205 (zgR yR L) (xu 157 (zeF xv L) (xu 109 (zpy yY L) noC)))))
def zgE {β:Type} (yY:zjr) (xv:zcz) (yR:zgS) (xT:zj9) (yb:zq) (L:Nat) (p0 p1:List V) (k_fin:Int→Option β):Option β :=
 chk (0+32≤(List.length p0)) (
 yY β L (List.take 32 p0) (fun v0 =>
 chk ((List.length v0)=2∧0+2≤2) (
 lt (xg [(V.sc (.int .u64 (0:Int))),(V.sc (.int .u64 (0:Int)))] 0 v0) fun r1 =>
 chk (0+2≤(List.length r1)) (
 cI .u32 p1 0 fun v2 =>
 xv β L (yk 1 1 [(V.sc (.int .u8 (4:Int)))]) v2 (fun v3 =>
 cI .u16 p1 1 fun v4 =>
 yR β L v3 v4 (fun v5 =>
 xT β L (List.take 2 r1) v5 (fun v6 =>
 lt (Int.tmod v6 (4:Int)) fun x7 =>
 chk (0+3≤(List.length p1)) (
 yb β L (List.take 3 p1) (fun v8 =>
 xv β L (yk 1 1 [(V.sc (.int .u8 (3:Int)))]) v8 (fun v9 =>
 lt (IntKind.wrap .u32 x7) fun x10 =>
 xv β L v9 x10 (fun v11 =>
 chk (0+2≤(List.length r1)) (
 xT β L (List.take 2 r1) v11 (fun v12 =>
 lt (Int.tmod v12 (64:Int)) fun x13 =>
 lt (IntKind.wrap .i64 x13) fun x14 =>
 k_fin x14)))))))))))))
theorem zqB {β:Type} (yY:zjr) (xv:zcz) (yR:zgS) (xT:zj9) (yb:zq) (L:Nat) (p0 p1:List V) (k:KK β):xr zfW (zfS yY xv yR xT yb L) L zdF [(V.agg p0),(V.agg p1)] [] k=zgE yY xv yR xT yb L p0 p1 (fun p0=>k (V.sc (.int .i64 p0)) []):=by kernel_rfl
abbrev zdV:=∀ (β:Type),Nat→List V→List V→(Int→Option β)→Option β
def yG (β:Type) (L:Nat) (p0 p1:List V) (k_fin:Int→Option β):Option β:=zgE yY xv yR xT yb L p0 p1 k_fin
def zd1 (yG:zdV) (L:Nat) (β:Type) (args:List V) (bor:Bor) (k:KK β):Option β:=match args,bor with
 | [a0,a1],[]=>aG a0 fun p0=>aG a1 fun p1=>yG β L p0 p1 (fun p0=>k (V.sc (.int .i64 p0)) [])
 | _,_=>none
theorem zqg (L:Nat) (β:Type) (args:List V) (bor:Bor) (k:KK β) (r:β) (h:zd1 yG L β args bor k=some r):xr zfW (zfS yY xv yR xT yb L) L zdF args bor k=some r:=by
 unfold zd1 at h
 split at h
 ·have q:=yZ h; clear h; obtain ⟨p0,rfl,h⟩:=q
  have q:=yZ h; clear h; obtain ⟨p1,rfl,h⟩:=q
  exact (zqB yY xv yR xT yb L p0 p1 k).trans h
 ·cases h
def zfy:CF:=⟨9,[.tmp 3],
 (.seq (.reg [oo 2 (.box true (tq 0)),
   oo 3 (.move (.const (.sc (.int .i64 0))) false)])
 (.seq (.reg [oo 4 (.fieldAddr 0 (tq 1)),
   oo 5 (.load true 32 (tq 4) false),
   oo 6 (.fieldAddr 1 (tq 2)),
   oo 7 (.load true 3 (tq 6) false),
   oo 8 (.call 299 [((tq 5),0),((tq 7),0)] []),
   oo 3 (.move (tq 8) false)])
 .ret))⟩
def zmm:Hint:=⟨[],[],[none],[],[],false,false⟩
def zix:Nat→Sh:=xO []
def ziF (yG:zdV) (L:Nat):CBC:=(xu 299 (zd1 yG L) noC)
def zjC {β:Type} (yG:zdV) (L:Nat) (p0 b0:List V) (k_fin:Int→List V→Option β):Option β :=
 chk (0+32≤(List.length b0)) (
 chk (1+3≤(List.length p0)) (
 yG β L (List.take 32 b0) (List.take 3 (List.drop 1 p0)) (fun v0 =>
 k_fin v0 b0)))
theorem ztA {β:Type} (yG:zdV) (L:Nat) (p0 b0:List V) (k:KK β):xr zix (ziF yG L) L zfy [(V.agg p0),(V.ptr 0 0)] [(.live true b0)] k=zjC yG L p0 b0 (fun p0 b0=>k (V.sc (.int .i64 p0)) [(.live true b0)]):=by kernel_rfl
abbrev yX:=∀ (β:Type),Nat→List V→List V→(Int→List V→Option β)→Option β
def xh (β:Type) (L:Nat) (p0 b0:List V) (k_fin:Int→List V→Option β):Option β:=zjC yG L p0 b0 k_fin
def zgl (xh:yX) (L:Nat) (β:Type) (args:List V) (bor:Bor) (k:KK β):Option β:=match args,bor with
 | [a0,a1],[(.live true b0)]=>aG a0 fun p0=>aP 0 0 a1 (xh β L p0 b0 (fun p0 b0=>k (V.sc (.int .i64 p0)) [(.live true b0)]))
 | _,_=>none
theorem ztX (L:Nat) (β:Type) (args:List V) (bor:Bor) (k:KK β) (r:β) (h:zgl xh L β args bor k=some r):xr zix (ziF yG L) L zfy args bor k=some r:=by
 unfold zgl at h
 split at h
 ·have q:=yZ h; clear h; obtain ⟨p0,rfl,h⟩:=q
  have q:=zlx h; clear h; obtain ⟨rfl,h⟩:=q
  exact (ztA yG L p0 _ k).trans h
 ·cases h
def zdb:CC:=(.seq (.reg [oo 18 (.bin .lss (tq 17) (tq 16))])
 (.seq (.cond (tq 18)
 .skip
 (.seq (.mask (bl 0 58) (bl 288230375077966399 58))
 (.exit 0)))
 (.seq (.block 1 (.seq (.reg [oo 19 (.indexAddrS 5 (tq 15) (tq 17)),
   oo 20 (.load true 5 (tq 19) false),
   oo 10 (.alloc true [(.sc (.int .i64 0)),(.sc (.int .u32 0)),(.sc (.int .u16 0)),(.sc (.int .u32 0)),(.sc (.int .u32 0))]),
   oz (.store 5 (tq 10) (tq 20))])
 (.seq (.seq (.dreg [] [(oo 21 (.fieldAddr 0 (tq 10)),q0),
   (oo 22 (.load false 1 (tq 21) false),q0),
   (oo 23 (.move (tq 7) false),q0),
   (oo 24 (.bin .lss (tq 22) (tq 23)),q0),
   (oo 25 (.move (tq 24) false),q0),
   (⟨(some 26),false,(some (25,false)),.fieldAddr 0 (tq 10)⟩,q0),
   (⟨(some 27),false,(some (25,false)),.load false 1 (tq 26) false⟩,ql 10 [] []),
   (⟨(some 28),false,(some (25,false)),.move (tq 2) false⟩,q0),
   (⟨(some 29),false,(some (25,false)),.load true 5 (tq 10) false⟩,ql 10 [] []),
   (⟨(some 30),false,(some (25,false)),.callv (tq 28) [((tq 29),0)] []⟩,qc [10] []),
   (⟨(some 31),false,(some (25,false)),.bin .neq (tq 27) (tq 30)⟩,q0),
   (oo 32 (.pick (tq 25) (.const (.sc (.bool true))) (tq 31)),q0)])
 (.cond (tq 32)
 (.seq (.reg [oo 6 (.move (.const (.sc (.bool false))) false)])
 (.seq (.mask (bl 64 58) (bl 288230375077966463 58))
 .ret))
 .skip))
 (.seq (.seq (.reg [oo 33 (.fieldAddr 0 (tq 10)),
   oo 34 (.load false 1 (tq 33) false),
   oo 35 (.move (tq 7) false),
   oo 36 (.bin .neq (tq 34) (tq 35))])
 (.cond (tq 36)
 (.reg [oo 37 (.fieldAddr 0 (tq 10)),
   oo 38 (.load false 1 (tq 37) false),
   oo 7 (.move (tq 38) false),
   oo 8 (.move (.const (.sc (.int .i64 0))) false)])
 .skip))
 (.seq (.reg [oo 39 (.move (tq 8) false),
   oo 40 (.bin .add (tq 39) (.const (.sc (.int .i64 1)))),
   oo 8 (.move (tq 40) false)])
 (.seq (.reg [oo 41 (.fieldAddr 1 (tq 10)),
   oo 42 (.fieldAddr 0 (tq 41)),
   oo 43 (.load false 1 (tq 42) false),
   oo 44 (.fieldAddr 1 (tq 10)),
   oo 45 (.fieldAddr 1 (tq 44)),
   oo 46 (.load false 1 (tq 45) false),
   oo 47 (.build [(.sc (.int .u32 0)),(.sc (.int .u16 0))] [(0,1,(tq 43)),(1,1,(tq 46))]),
   oo 11 (.alloc true [(.sc (.int .u32 0)),(.sc (.int .u16 0))]),
   oz (.store 2 (tq 11) (tq 47))])
 (.seq (.seq (.reg [oo 48 (.move (tq 8) false),
   oo 49 (.bin .gtr (tq 48) (.const (.sc (.int .i64 8)))),
   oo 50 (.move (tq 49) false),
   ⟨(some 51),false,(some (50,false)),.move (tq 1) false⟩,
   ⟨(some 52),false,(some (50,false)),.load true 2 (tq 11) false⟩,
   ⟨(some 53),false,(some (50,false)),.mlook 4 false (.sc (.bool false)) (tq 51) (tq 52)⟩,
   oo 54 (.pick (tq 50) (.const (.sc (.bool true))) (tq 53))])
 (.cond (tq 54)
 (.seq (.reg [oo 6 (.move (.const (.sc (.bool false))) false)])
 (.seq (.mask (bl 64 58) (bl 288230375077966463 58))
 .ret))
 .skip))
 (.reg [oo 55 (.move (tq 1) false),
   oo 56 (.load true 2 (tq 11) false),
   oz (.mput 4 (tq 55) (tq 56) (.const (.sc (.bool true))))]))))))))
 (.reg [oo 57 (.bin .add (tq 17) (.const (.sc (.int .i64 1)))),
   oo 17 (.move (tq 57) false)]))))
def zgB:CC:=(.seq (.reg [oo 6 (.move (.const (.sc (.bool true))) false)])
 .ret)
def zcI:CF:=zbl
def zam:Nat→Sh:=xO [(22,(.int .i64)),(27,(.int .i64)),(34,(.int .i64)),(38,(.int .i64)),(43,(.int .u32)),(46,(.int .u16)),(53,.bool)]
def zal (xh:yX) (L:Nat):CBC:=(xu 298 (zgl xh L) noC)
def zdt:St→St:=zac 2 (bl 229766 58) (bl 288230375077966783 58)
def zcF (p7 p8:Int) (p15:List (List V)) (p16 p17:Int) (b0:List (V × V)) (b1:List V):St:=⟨(jn 1 ((V.mp 0)::((V.fn 298 [(V.ptr 1 0)])::(jn 4 ((V.sc (.int .i64 p7))::((V.sc (.int .i64 p8))::(jn 6 ((V.sl 5 p15)::((V.sc (.int .i64 p16))::((V.sc (.int .i64 p17))::(jn 40 []))))))))))),((.mp b0)::((.live true b1)::(gn 58 [])))⟩
def zfQ (p6:Bool) (b0:List (V × V)) (b1:List V):St:=⟨(jn 6 ((V.sc (.bool p6))::(jn 51 []))),((.mp b0)::((.live true b1)::(gn 58 [])))⟩
def zgF (b0:List (V × V)) (b1:List V):St:=⟨(jn 58 []),((.mp b0)::((.live true b1)::(gn 58 [])))⟩
abbrev zi3 (β:Type):Type:=Int→Int→List (List V)→Int→Int→List (V × V)→List V→Option β
def zkb {β:Type} (xh:yX) (L:Nat) (p0:List (List V)) (b0:List (V × V)) (b1:List V) (k_fin:Bool→List (V × V)→List V→Option β) (k_hbbbaba:zi3 β):Option β :=
 ifb (decide (((List.length p0:Nat):Int) > (512:Int))) (
 k_fin false b0 b1) (
 k_hbbbaba (-1:Int) (0:Int) p0 ((List.length p0:Nat):Int) (0:Int) b0 b1)
theorem zt1 {β:Type} (xh:yX) (L:Nat) (p0:List (List V)) (b0:List (V × V)) (b1:List V) (k:KK β):xr zam (zal xh L) L zcI [(V.sl 5 p0),(V.mp 0),(V.fn 298 [(V.ptr 1 0)])] [(.mp b0),(.live true b1)] k=zkb xh L p0 b0 b1 (fun p0 b0 b1=>k (V.sc (.bool p0)) [(.mp b0),(.live true b1)]) (fun p7 p8 p15 p16 p17 b0 b1=>zH (yn zam (zal xh L) 2 L zdb) zdt L (zcF p7 p8 p15 p16 p17 b0 b1) (yH 0 (zV (yn zam (zal xh L) 2 L zgB) (y6 2 (CF.res zcI) k)))):=by kernel_rfl
def ze9 {β:Type} (xh:yX) (L:Nat) (p7 p8:Int) (p15:List (List V)) (p16 p17:Int) (b0:List (V × V)) (b1:List V) (k_ret:Bool→List (V × V)→List V→Option β) (k_hbbbaba:zi3 β) (k_x0:List (V × V)→List V→Option β):Option β :=
 ifb (decide (p17 < p16)) (
 idx p15 p17 fun c0 =>
 chk ((List.length (List.take 5 c0))=5∧0+5≤5) (
 lt (xg [(V.sc (.int .i64 (0:Int))),(V.sc (.int .u32 (0:Int))),(V.sc (.int .u16 (0:Int))),(V.sc (.int .u32 (0:Int))),(V.sc (.int .u32 (0:Int)))] 0 (List.take 5 c0)) fun r1 =>
 cI .i64 r1 0 fun v2 =>
 ifb (decide (v2 < p7)) (
 k_ret false b0 b1) (
 cI .i64 r1 0 fun v3 =>
 chk (0+5≤(List.length r1)) (
 xh β L (List.take 5 r1) b1 (fun v4 v5 =>
 chk ([(List.length v5)]=[(List.length b1)]) (
 ifb ((v3:Int) != v4) (
 k_ret false b0 v5) (
 cI .i64 r1 0 fun v6 =>
 ifb ((v6:Int) != p7) (
 cI .i64 r1 0 fun v7 =>
 lt (IntKind.wrap .i64 (((0:Int):Int)+(1:Int))) fun x8 =>
 cI .u32 r1 1 fun v9 =>
 cI .u16 r1 2 fun v10 =>
 lt [(V.sc (.int .u32 v9)),(V.sc (.int .u16 v10))] fun r11 =>
 ifb (decide (x8 > (8:Int))) (
 k_ret false b0 v5) (
 chk (0+2≤(List.length r11)) (
 mAt 4 (V.agg (List.take 2 r11)) b0 fun q12 =>
 aB (Option.getD q12 (V.sc (.bool false))) fun v13 =>
 ifb v13 (
 k_ret false b0 v5) (
 chk (0+2≤(List.length r11)) (
 ztj 4 (V.agg (List.take 2 r11)) (V.sc (.bool true)) b0 fun m14 =>
 lt (IntKind.wrap .i64 ((p17:Int)+(1:Int))) fun x15 =>
 k_hbbbaba v7 x8 p15 p16 x15 m14 v5))))) (
 lt (IntKind.wrap .i64 ((p8:Int)+(1:Int))) fun x16 =>
 cI .u32 r1 1 fun v17 =>
 cI .u16 r1 2 fun v18 =>
 lt [(V.sc (.int .u32 v17)),(V.sc (.int .u16 v18))] fun r19 =>
 ifb (decide (x16 > (8:Int))) (
 k_ret false b0 v5) (
 chk (0+2≤(List.length r19)) (
 mAt 4 (V.agg (List.take 2 r19)) b0 fun q20 =>
 aB (Option.getD q20 (V.sc (.bool false))) fun v21 =>
 ifb v21 (
 k_ret false b0 v5) (
 chk (0+2≤(List.length r19)) (
 ztj 4 (V.agg (List.take 2 r19)) (V.sc (.bool true)) b0 fun m22 =>
 lt (IntKind.wrap .i64 ((p17:Int)+(1:Int))) fun x23 =>
 k_hbbbaba p7 x16 p15 p16 x23 m22 v5)))))))))))) (
 k_x0 b0 b1)
theorem zpe {β:Type} (xh:yX) (L:Nat) (p7 p8:Int) (p15:List (List V)) (p16 p17:Int) (b0:List (V × V)) (b1:List V) (X:St→Option β) (K:KT β):yn zam (zal xh L) 2 L zdb (zcF p7 p8 p15 p16 p17 b0 b1) (zcC zdt X K)=ze9 xh L p7 p8 p15 p16 p17 b0 b1 (fun p6 b0 b1=>K .ret (zfQ p6 b0 b1)) (fun p7 p8 p15 p16 p17 b0 b1=>X (zcF p7 p8 p15 p16 p17 b0 b1)) (fun b0 b1=>K (.exit 0) (zgF b0 b1)):=by kernel_rfl
def zef {β:Type} (xh:yX) (L:Nat) (p6:Bool) (b0:List (V × V)) (b1:List V) (k_fin:Bool→List (V × V)→List V→Option β):Option β :=
 k_fin p6 b0 b1
theorem zng {β:Type} (xh:yX) (L:Nat) (p6:Bool) (b0:List (V × V)) (b1:List V) (k:KK β):(yH 0 (zV (yn zam (zal xh L) 2 L zgB) (y6 2 (CF.res zcI) k))) .ret (zfQ p6 b0 b1)=zef xh L p6 b0 b1 (fun p0 b0 b1=>k (V.sc (.bool p0)) [(.mp b0),(.live true b1)]):=by kernel_rfl
def zeC {β:Type} (xh:yX) (L:Nat) (b0:List (V × V)) (b1:List V) (k_fin:Bool→List (V × V)→List V→Option β):Option β :=
 k_fin true b0 b1
theorem znS {β:Type} (xh:yX) (L:Nat) (b0:List (V × V)) (b1:List V) (k:KK β):(yH 0 (zV (yn zam (zal xh L) 2 L zgB) (y6 2 (CF.res zcI) k))) (.exit 0) (zgF b0 b1)=zeC xh L b0 b1 (fun p0 b0 b1=>k (V.sc (.bool p0)) [(.mp b0),(.live true b1)]):=by kernel_rfl
def zbs {β:Type} (xh:yX) (L:Nat) (k_ret:Bool→List (V × V)→List V→Option β) (k_x0:List (V × V)→List V→Option β):Nat→Int→Int→List (List V)→Int→Int→List (V × V)→List V→Option β
 | 0,_,_,_,_,_,_,_=>none
 | n+1,p7,p8,p15,p16,p17,b0,b1=>ze9 xh L p7 p8 p15 p16 p17 b0 b1 k_ret (fun p7 p8 p15 p16 p17 b0 b1=>zbs xh L k_ret k_x0 n p7 p8 p15 p16 p17 b0 b1) k_x0
theorem zht {β:Type} (xh:yX) (L:Nat) (K:KT β):∀ (n:Nat) (p7 p8:Int) (p15:List (List V)) (p16 p17:Int) (b0:List (V × V)) (b1:List V),zH (yn zam (zal xh L) 2 L zdb) zdt n (zcF p7 p8 p15 p16 p17 b0 b1) K=zbs xh L (fun p6 b0 b1=>K .ret (zfQ p6 b0 b1)) (fun b0 b1=>K (.exit 0) (zgF b0 b1)) n p7 p8 p15 p16 p17 b0 b1:=by
 intro n
 induction n with
 | zero=>intros; rfl
 | succ n ih =>
  intro p7 p8 p15 p16 p17 b0 b1
  refine (zpe xh L p7 p8 p15 p16 p17 b0 b1 (fun σ=>zH (yn zam (zal xh L) 2 L zdb) zdt n σ K) K).trans ?_
  simp only [ih]
  rfl
def zgi {β:Type} (xh:yX) (L:Nat) (p0:List (List V)) (b0:List (V × V)) (b1:List V) (k_fin:Bool→List (V × V)→List V→Option β):Option β :=
 zkb xh L p0 b0 b1 k_fin (fun p7 p8 p15 p16 p17 b0 b1=>zbs xh L (fun p6 b0 b1=>zef xh L p6 b0 b1 k_fin) (fun b0 b1=>zeC xh L b0 b1 k_fin) L p7 p8 p15 p16 p17 b0 b1)
theorem ztC {β:Type} (xh:yX) (L:Nat) (p0:List (List V)) (b0:List (V × V)) (b1:List V) (k:KK β):xr zam (zal xh L) L zcI [(V.sl 5 p0),(V.mp 0),(V.fn 298 [(V.ptr 1 0)])] [(.mp b0),(.live true b1)] k=zgi xh L p0 b0 b1 (fun p0 b0 b1=>k (V.sc (.bool p0)) [(.mp b0),(.live true b1)]):=by
 refine (zt1 xh L p0 b0 b1 k).trans ?_
 unfold zgi
 first
  | (simp only [zht,zng,znS]; done)
  | (simp only [zht]; rfl)
abbrev zf6:=∀ (β:Type),Nat→List (List V)→List (V × V)→List V→(Bool→List (V × V)→List V→Option β)→Option β
def zO (β:Type) (L:Nat) (p0:List (List V)) (b0:List (V × V)) (b1:List V) (k_fin:Bool→List (V × V)→List V→Option β):Option β:=zgi xh L p0 b0 b1 k_fin
def zf1 (zO:zf6) (L:Nat) (β:Type) (args:List V) (bor:Bor) (k:KK β):Option β:=match args,bor with
 | [a0,a1,a2],[(.mp b0),(.live true b1)]=>aL 5 a0 fun p0=>aM 0 a1 (aF 298 [(1,0)] a2 (zO β L p0 b0 b1 (fun p0 b0 b1=>k (V.sc (.bool p0)) [(.mp b0),(.live true b1)])))
 | _,_=>none
theorem zt8 (L:Nat) (β:Type) (args:List V) (bor:Bor) (k:KK β) (r:β) (h:zf1 zO L β args bor k=some r):xr zam (zal xh L) L zcI args bor k=some r:=by
 unfold zf1 at h
 split at h
 ·have q:=z9 h; clear h; obtain ⟨p0,rfl,h⟩:=q
  have q:=zGo h; clear h; obtain ⟨rfl,h⟩:=q
  have q:=ztT h; clear h; obtain ⟨rfl,h⟩:=q
  exact (ztC xh L p0 _ _ k).trans h
 ·cases h
def zgX:CF:=⟨17,[.tmp 2],
 (.seq (.reg [oo 1 (.box true (tq 0)),
   oo 2 (.move (.const (.sc (.bool false))) false)])
 (.seq (.reg [oo 4 (.makeMap),
   oo 3 (.move (tq 4) false)])
 (.seq (.reg [oo 5 (.fieldAddr 32 (tq 1)),
   oo 6 (.load false 1 (tq 5) false),
   oo 7 (.move (tq 3) false),
   oo 8 (.makeFunc 296 [(tq 1)]),
   oo 9 (.call 295 [((tq 6),0),((tq 7),0),((tq 8),0)] []),
   oo 10 (.move (tq 9) false),
   ⟨(some 11),false,(some (10,true)),.fieldAddr 33 (tq 1)⟩,
   ⟨(some 12),false,(some (10,true)),.load false 1 (tq 11) false⟩,
   ⟨(some 13),false,(some (10,true)),.move (tq 3) false⟩,
   ⟨(some 14),false,(some (10,true)),.makeFunc 298 [(tq 1)]⟩,
   ⟨(some 15),false,(some (10,true)),.call 295 [((tq 12),0),((tq 13),0),((tq 14),0)] []⟩,
   oo 16 (.pick (tq 10) (tq 15) (.const (.sc (.bool false)))),
   oo 2 (.move (tq 16) false)])
 .ret)))⟩
def zn0:Hint:=⟨[(0,0)],[],[none],[],[],false,false⟩
def zkK:Nat→Sh:=xO [(6,(.sl 5)),(12,(.sl 5))]
def zk6 (zT:zhB) (zO:zf6) (L:Nat):CBC:=(zBv 295 [6,12,398,22,20] (zf1 zO L) (zBv 295 [6,12,396,22,20] (zhN zT L) noC))
def zlZ {β:Type} (zT:zhB) (zO:zf6) (L:Nat) (p0:List V) (k_fin:Bool→Option β):Option β :=
 cLd 5 p0 32 fun v0 =>
 zT β L v0 ([]:List (V × V)) p0 (fun v1 v2 v3 =>
 chk ([0,(List.length v3)]=[0,(List.length p0)]) (
 ifb v1 (
 cLd 5 v3 33 fun v4 =>
 zO β L v4 v2 v3 (fun v5 v6 v7 =>
 chk ([0,(List.length v7)]=[0,(List.length v3)]) (
 k_fin v5))) (
 k_fin false)))
theorem zvV {β:Type} (zT:zhB) (zO:zf6) (L:Nat) (p0:List V) (k:KK β):xr zkK (zk6 zT zO L) L zgX [(V.agg p0)] [] k=zlZ zT zO L p0 (fun p0=>k (V.sc (.bool p0)) []):=by kernel_rfl
abbrev y9:=∀ (β:Type),Nat→List V→(Bool→Option β)→Option β
def xk (β:Type) (L:Nat) (p0:List V) (k_fin:Bool→Option β):Option β:=zlZ zT zO L p0 k_fin
def zh1 (xk:y9) (L:Nat) (β:Type) (args:List V) (bor:Bor) (k:KK β):Option β:=match args,bor with
 | [a0],[]=>aG a0 fun p0=>xk β L p0 (fun p0=>k (V.sc (.bool p0)) [])
 | _,_=>none
theorem zvN (L:Nat) (β:Type) (args:List V) (bor:Bor) (k:KK β) (r:β) (h:zh1 xk L β args bor k=some r):xr zkK (zk6 zT zO L) L zgX args bor k=some r:=by
 unfold zh1 at h
 split at h
 ·have q:=yZ h; clear h; obtain ⟨p0,rfl,h⟩:=q
  exact (zvV zT zO L p0 k).trans h
 ·cases h
def zfv:CF:=⟨6,[.tmp 2],
 (.seq (.reg [oo 1 (.box true (tq 0)),
   oo 2 (.move (.const (.sc (.bool false))) false)])
 (.seq (.reg [oo 3 (.fieldAddr 0 (tq 1)),
   oo 4 (.load false 1 (tq 3) false),
   oo 5 (.bin .eql (tq 4) (.const (.sc (.int .i64 1)))),
   oo 2 (.move (tq 5) false)])
 .ret))⟩
def zmy:Hint:=⟨[],[],[none],[],[],false,false⟩
def ziB:Nat→Sh:=xO [(4,(.int .i64))]
def ziM (L:Nat):CBC:=noC
def zj6 {β:Type} (L:Nat) (p0:List V) (k_fin:Bool→Option β):Option β :=
 cI .i64 p0 0 fun v0 =>
 k_fin ((v0:Int) == (1:Int))
theorem ztK {β:Type} (L:Nat) (p0:List V) (k:KK β):xr ziB (ziM L) L zfv [(V.agg p0)] [] k=zj6 L p0 (fun p0=>k (V.sc (.bool p0)) []):=by kernel_rfl
abbrev zah:=∀ (β:Type),Nat→List V→(Bool→Option β)→Option β
def zm (β:Type) (L:Nat) (p0:List V) (k_fin:Bool→Option β):Option β:=zj6 L p0 k_fin
def zgn (zm:zah) (L:Nat) (β:Type) (args:List V) (bor:Bor) (k:KK β):Option β:=match args,bor with
 | [a0],[]=>aG a0 fun p0=>zm β L p0 (fun p0=>k (V.sc (.bool p0)) [])
 | _,_=>none
theorem zuf (L:Nat) (β:Type) (args:List V) (bor:Bor) (k:KK β) (r:β) (h:zgn zm L β args bor k=some r):xr ziB (ziM L) L zfv args bor k=some r:=by
 unfold zgn at h
 split at h
 ·have q:=yZ h; clear h; obtain ⟨p0,rfl,h⟩:=q
  exact (ztK L p0 k).trans h
 ·cases h
def zc7:CC:=(.seq (.reg [oo 11 (.bin .lss (tq 10) (tq 9))])
 (.seq (.cond (tq 11)
 .skip
 (.seq (.mask (bl 32 21) (bl 2031487 21))
 (.exit 0)))
 (.seq (.block 1 (.seq (.reg [oo 12 (.indexAddrS 4 (tq 8) (tq 10)),
   oo 13 (.load true 4 (tq 12) false),
   oo 7 (.alloc true [(.sc (.int .i64 0)),(.sc (.int .u32 0)),(.sc (.int .u16 0)),(.sc (.int .u32 0))]),
   oz (.store 4 (tq 7) (tq 13))])
 (.seq (.reg [oo 14 (.move (tq 1) false),
   oo 15 (.load true 4 (tq 7) false),
   oo 16 (.callv (tq 14) [((tq 15),0)] [])])
 (.cond (tq 16)
 (.reg [oo 17 (.move (tq 5) false),
   oo 18 (.bin .add (tq 17) (.const (.sc (.int .i64 1)))),
   oo 5 (.move (tq 18) false)])
 .skip))))
 (.reg [oo 19 (.bin .add (tq 10) (.const (.sc (.int .i64 1)))),
   oo 10 (.move (tq 19) false)]))))
def zju:CC:=(.seq (.reg [oo 20 (.move (tq 5) false),
   oo 4 (.move (tq 20) false)])
 .ret)
def zcb:CF:=⟨21,[.tmp 4],
 (.seq (.reg [oo 4 (.move (.const (.sc (.int .i64 0))) false)])
 (.seq (.reg [oo 5 (.move (.const (.sc (.int .i64 0))) false)])
 (.seq (.seq (.reg [oo 8 (.move (tq 0) false),
   oo 9 (.lenS (tq 8)),
   oo 10 (.move (.const (.sc (.int .i64 0))) false)])
 (.block 0 (.loop (bl 1826 21) (bl 2031487 21)
 zc7)))
 zju)))⟩
def zo3:Hint:=⟨[],[],[none,some ((bl 1826 21),(bl 2031487 21)),none,some ((bl 32 21),(bl 2031487 21)),none,none,none],[],[],false,false⟩
def zbh:Nat→Sh:=xO []
def zbe (zm:zah) (L:Nat):CBC:=(xu 277 (zgn zm L) noC)
def zeR:St→St:=zac 0 (bl 1826 21) (bl 2031487 21)
def zdD (p5:Int) (p8:List (List V)) (p9 p10:Int):St:=⟨(jn 1 ((V.fn 277 [])::(jn 3 ((V.sc (.int .i64 p5))::(jn 2 ((V.sl 4 p8)::((V.sc (.int .i64 p9))::((V.sc (.int .i64 p10))::(jn 10 []))))))))),(gn 21 [])⟩
def ziD (p5:Int):St:=⟨(jn 5 ((V.sc (.int .i64 p5))::(jn 15 []))),(gn 21 [])⟩
def zny {β:Type} (zm:zah) (L:Nat) (p0:List (List V)) (k_hbbaba:Int→List (List V)→Int→Int→Option β):Option β :=
 k_hbbaba (0:Int) p0 ((List.length p0:Nat):Int) (0:Int)
theorem zwJ {β:Type} (zm:zah) (L:Nat) (p0:List (List V)) (k:KK β):xr zbh (zbe zm L) L zcb [(V.sl 4 p0),(V.fn 277 [])] [] k=zny zm L p0 (fun p5 p8 p9 p10=>zH (yn zbh (zbe zm L) 0 L zc7) zeR L (zdD p5 p8 p9 p10) (yH 0 (zV (yn zbh (zbe zm L) 0 L zju) (y6 0 (CF.res zcb) k)))):=by kernel_rfl
def zh0 {β:Type} (zm:zah) (L:Nat) (p5:Int) (p8:List (List V)) (p9 p10:Int) (k_hbbaba:Int→List (List V)→Int→Int→Option β) (k_x0:Int→Option β):Option β :=
 ifb (decide (p10 < p9)) (
 idx p8 p10 fun c0 =>
 chk ((List.length (List.take 4 c0))=4∧0+4≤4) (
 lt (xg [(V.sc (.int .i64 (0:Int))),(V.sc (.int .u32 (0:Int))),(V.sc (.int .u16 (0:Int))),(V.sc (.int .u32 (0:Int)))] 0 (List.take 4 c0)) fun r1 =>
 chk (0+4≤(List.length r1)) (
 zm β L (List.take 4 r1) (fun v2 =>
 ifb v2 (
 lt (IntKind.wrap .i64 ((p5:Int)+(1:Int))) fun x3 =>
 lt (IntKind.wrap .i64 ((p10:Int)+(1:Int))) fun x4 =>
 k_hbbaba x3 p8 p9 x4) (
 lt (IntKind.wrap .i64 ((p10:Int)+(1:Int))) fun x5 =>
 k_hbbaba p5 p8 p9 x5))))) (
 k_x0 p5)
theorem zrS {β:Type} (zm:zah) (L:Nat) (p5:Int) (p8:List (List V)) (p9 p10:Int) (X:St→Option β) (K:KT β):yn zbh (zbe zm L) 0 L zc7 (zdD p5 p8 p9 p10) (zcC zeR X K)=zh0 zm L p5 p8 p9 p10 (fun p5 p8 p9 p10=>X (zdD p5 p8 p9 p10)) (fun p5=>K (.exit 0) (ziD p5)):=by kernel_rfl
def zlD {β:Type} (zm:zah) (L:Nat) (p5:Int) (k_fin:Int→Option β):Option β :=
 k_fin p5
theorem zqn {β:Type} (zm:zah) (L:Nat) (p5:Int) (k:KK β):(yH 0 (zV (yn zbh (zbe zm L) 0 L zju) (y6 0 (CF.res zcb) k))) (.exit 0) (ziD p5)=zlD zm L p5 (fun p0=>k (V.sc (.int .i64 p0)) []):=by kernel_rfl
def zds {β:Type} (zm:zah) (L:Nat) (k_x0:Int→Option β):Nat→Int→List (List V)→Int→Int→Option β
 | 0,_,_,_,_=>none
 | n+1,p5,p8,p9,p10=>zh0 zm L p5 p8 p9 p10 (fun p5 p8 p9 p10=>zds zm L k_x0 n p5 p8 p9 p10) k_x0
theorem zkA {β:Type} (zm:zah) (L:Nat) (K:KT β):∀ (n:Nat) (p5:Int) (p8:List (List V)) (p9 p10:Int),zH (yn zbh (zbe zm L) 0 L zc7) zeR n (zdD p5 p8 p9 p10) K=zds zm L (fun p5=>K (.exit 0) (ziD p5)) n p5 p8 p9 p10:=by
 intro n
 induction n with
 | zero=>intros; rfl
 | succ n ih =>
  intro p5 p8 p9 p10
  refine (zrS zm L p5 p8 p9 p10 (fun σ=>zH (yn zbh (zbe zm L) 0 L zc7) zeR n σ K) K).trans ?_
  simp only [ih]
  rfl
def ziR {β:Type} (zm:zah) (L:Nat) (p0:List (List V)) (k_fin:Int→Option β):Option β :=
 zny zm L p0 (fun p5 p8 p9 p10=>zds zm L (fun p5=>zlD zm L p5 k_fin) L p5 p8 p9 p10)
theorem zw2 {β:Type} (zm:zah) (L:Nat) (p0:List (List V)) (k:KK β):xr zbh (zbe zm L) L zcb [(V.sl 4 p0),(V.fn 277 [])] [] k=ziR zm L p0 (fun p0=>k (V.sc (.int .i64 p0)) []):=by
 refine (zwJ zm L p0 k).trans ?_
 unfold ziR
 first
  | (simp only [zkA,zqn]; done)
  | (simp only [zkA]; rfl)
abbrev zao:=∀ (β:Type),Nat→List (List V)→(Int→Option β)→Option β
def ym (β:Type) (L:Nat) (p0:List (List V)) (k_fin:Int→Option β):Option β:=ziR zm L p0 k_fin
def zjd (ym:zao) (L:Nat) (β:Type) (args:List V) (bor:Bor) (k:KK β):Option β:=match args,bor with
 | [a0,a1],[]=>aL 4 a0 fun p0=>aF 277 [] a1 (ym β L p0 (fun p0=>k (V.sc (.int .i64 p0)) []))
 | _,_=>none
theorem zxk (L:Nat) (β:Type) (args:List V) (bor:Bor) (k:KK β) (r:β) (h:zjd ym L β args bor k=some r):xr zbh (zbe zm L) L zcb args bor k=some r:=by
 unfold zjd at h
 split at h
 ·have q:=z9 h; clear h; obtain ⟨p0,rfl,h⟩:=q
  have q:=ztT h; clear h; obtain ⟨rfl,h⟩:=q
  exact (zw2 zm L p0 k).trans h
 ·cases h
def zfB:CF:=⟨6,[.tmp 2],
 (.seq (.reg [oo 1 (.box true (tq 0)),
   oo 2 (.move (.const (.sc (.bool false))) false)])
 (.seq (.reg [oo 3 (.fieldAddr 0 (tq 1)),
   oo 4 (.load false 1 (tq 3) false),
   oo 5 (.bin .eql (tq 4) (.const (.sc (.int .i64 3)))),
   oo 2 (.move (tq 5) false)])
 .ret))⟩
def zmu:Hint:=⟨[],[],[none],[],[],false,false⟩
def ziu:Nat→Sh:=xO [(4,(.int .i64))]
def ziy (L:Nat):CBC:=noC
def zke {β:Type} (L:Nat) (p0:List V) (k_fin:Bool→Option β):Option β :=
 cI .i64 p0 0 fun v0 =>
 k_fin ((v0:Int) == (3:Int))
theorem ztv {β:Type} (L:Nat) (p0:List V) (k:KK β):xr ziu (ziy L) L zfB [(V.agg p0)] [] k=zke L p0 (fun p0=>k (V.sc (.bool p0)) []):=by kernel_rfl
abbrev zak:=∀ (β:Type),Nat→List V→(Bool→Option β)→Option β
def xl (β:Type) (L:Nat) (p0:List V) (k_fin:Bool→Option β):Option β:=zke L p0 k_fin
def zgj (xl:zak) (L:Nat) (β:Type) (args:List V) (bor:Bor) (k:KK β):Option β:=match args,bor with
 | [a0],[]=>aG a0 fun p0=>xl β L p0 (fun p0=>k (V.sc (.bool p0)) [])
 | _,_=>none
theorem ztR (L:Nat) (β:Type) (args:List V) (bor:Bor) (k:KK β) (r:β) (h:zgj xl L β args bor k=some r):xr ziu (ziy L) L zfB args bor k=some r:=by
 unfold zgj at h
 split at h
 ·have q:=yZ h; clear h; obtain ⟨p0,rfl,h⟩:=q
  exact (ztv L p0 k).trans h
 ·cases h
def zdE:CC:=(.seq (.reg [oo 11 (.bin .lss (tq 10) (tq 9))])
 (.seq (.cond (tq 11)
 .skip
 (.seq (.mask (bl 32 21) (bl 2031487 21))
 (.exit 0)))
 (.seq (.block 1 (.seq (.reg [oo 12 (.indexAddrS 4 (tq 8) (tq 10)),
   oo 13 (.load true 4 (tq 12) false),
   oo 7 (.alloc true [(.sc (.int .i64 0)),(.sc (.int .u32 0)),(.sc (.int .u16 0)),(.sc (.int .u32 0))]),
   oz (.store 4 (tq 7) (tq 13))])
 (.seq (.reg [oo 14 (.move (tq 1) false),
   oo 15 (.load true 4 (tq 7) false),
   oo 16 (.callv (tq 14) [((tq 15),0)] [])])
 (.cond (tq 16)
 (.reg [oo 17 (.move (tq 5) false),
   oo 18 (.bin .add (tq 17) (.const (.sc (.int .i64 1)))),
   oo 5 (.move (tq 18) false)])
 .skip))))
 (.reg [oo 19 (.bin .add (tq 10) (.const (.sc (.int .i64 1)))),
   oo 10 (.move (tq 19) false)]))))
def znj:CC:=(.seq (.reg [oo 20 (.move (tq 5) false),
   oo 4 (.move (tq 20) false)])
 .ret)
def zee:CF:=zcb
def zaM:Nat→Sh:=xO []
def zaN (xl:zak) (L:Nat):CBC:=(xu 279 (zgj xl L) noC)
def zd2:St→St:=zac 0 (bl 1826 21) (bl 2031487 21)
def zdc (p5:Int) (p8:List (List V)) (p9 p10:Int):St:=⟨(jn 1 ((V.fn 279 [])::(jn 3 ((V.sc (.int .i64 p5))::(jn 2 ((V.sl 4 p8)::((V.sc (.int .i64 p9))::((V.sc (.int .i64 p10))::(jn 10 []))))))))),(gn 21 [])⟩
def zhb (p5:Int):St:=⟨(jn 5 ((V.sc (.int .i64 p5))::(jn 15 []))),(gn 21 [])⟩
def zk0 {β:Type} (xl:zak) (L:Nat) (p0:List (List V)) (k_hbbaba:Int→List (List V)→Int→Int→Option β):Option β :=
 k_hbbaba (0:Int) p0 ((List.length p0:Nat):Int) (0:Int)
theorem zuC {β:Type} (xl:zak) (L:Nat) (p0:List (List V)) (k:KK β):xr zaM (zaN xl L) L zee [(V.sl 4 p0),(V.fn 279 [])] [] k=zk0 xl L p0 (fun p5 p8 p9 p10=>zH (yn zaM (zaN xl L) 0 L zdE) zd2 L (zdc p5 p8 p9 p10) (yH 0 (zV (yn zaM (zaN xl L) 0 L znj) (y6 0 (CF.res zee) k)))):=by kernel_rfl
def zgy {β:Type} (xl:zak) (L:Nat) (p5:Int) (p8:List (List V)) (p9 p10:Int) (k_hbbaba:Int→List (List V)→Int→Int→Option β) (k_x0:Int→Option β):Option β :=
 ifb (decide (p10 < p9)) (
 idx p8 p10 fun c0 =>
 chk ((List.length (List.take 4 c0))=4∧0+4≤4) (
 lt (xg [(V.sc (.int .i64 (0:Int))),(V.sc (.int .u32 (0:Int))),(V.sc (.int .u16 (0:Int))),(V.sc (.int .u32 (0:Int)))] 0 (List.take 4 c0)) fun r1 =>
 chk (0+4≤(List.length r1)) (
 xl β L (List.take 4 r1) (fun v2 =>
 ifb v2 (
 lt (IntKind.wrap .i64 ((p5:Int)+(1:Int))) fun x3 =>
 lt (IntKind.wrap .i64 ((p10:Int)+(1:Int))) fun x4 =>
 k_hbbaba x3 p8 p9 x4) (
 lt (IntKind.wrap .i64 ((p10:Int)+(1:Int))) fun x5 =>
 k_hbbaba p5 p8 p9 x5))))) (
 k_x0 p5)
theorem zql {β:Type} (xl:zak) (L:Nat) (p5:Int) (p8:List (List V)) (p9 p10:Int) (X:St→Option β) (K:KT β):yn zaM (zaN xl L) 0 L zdE (zdc p5 p8 p9 p10) (zcC zd2 X K)=zgy xl L p5 p8 p9 p10 (fun p5 p8 p9 p10=>X (zdc p5 p8 p9 p10)) (fun p5=>K (.exit 0) (zhb p5)):=by kernel_rfl
def zjw {β:Type} (xl:zak) (L:Nat) (p5:Int) (k_fin:Int→Option β):Option β :=
 k_fin p5
theorem zpd {β:Type} (xl:zak) (L:Nat) (p5:Int) (k:KK β):(yH 0 (zV (yn zaM (zaN xl L) 0 L znj) (y6 0 (CF.res zee) k))) (.exit 0) (zhb p5)=zjw xl L p5 (fun p0=>k (V.sc (.int .i64 p0)) []):=by kernel_rfl
def zcR {β:Type} (xl:zak) (L:Nat) (k_x0:Int→Option β):Nat→Int→List (List V)→Int→Int→Option β
 | 0,_,_,_,_=>none
 | n+1,p5,p8,p9,p10=>zgy xl L p5 p8 p9 p10 (fun p5 p8 p9 p10=>zcR xl L k_x0 n p5 p8 p9 p10) k_x0
theorem zjf {β:Type} (xl:zak) (L:Nat) (K:KT β):∀ (n:Nat) (p5:Int) (p8:List (List V)) (p9 p10:Int),zH (yn zaM (zaN xl L) 0 L zdE) zd2 n (zdc p5 p8 p9 p10) K=zcR xl L (fun p5=>K (.exit 0) (zhb p5)) n p5 p8 p9 p10:=by
 intro n
 induction n with
 | zero=>intros; rfl
 | succ n ih =>
  intro p5 p8 p9 p10
  refine (zql xl L p5 p8 p9 p10 (fun σ=>zH (yn zaM (zaN xl L) 0 L zdE) zd2 n σ K) K).trans ?_
  simp only [ih]
  rfl
def zg1 {β:Type} (xl:zak) (L:Nat) (p0:List (List V)) (k_fin:Int→Option β):Option β :=
 zk0 xl L p0 (fun p5 p8 p9 p10=>zcR xl L (fun p5=>zjw xl L p5 k_fin) L p5 p8 p9 p10)
theorem zu6 {β:Type} (xl:zak) (L:Nat) (p0:List (List V)) (k:KK β):xr zaM (zaN xl L) L zee [(V.sl 4 p0),(V.fn 279 [])] [] k=zg1 xl L p0 (fun p0=>k (V.sc (.int .i64 p0)) []):=by
 refine (zuC xl L p0 k).trans ?_
 unfold zg1
 first
  | (simp only [zjf,zpd]; done)
  | (simp only [zjf]; rfl)
abbrev y4:=∀ (β:Type),Nat→List (List V)→(Int→Option β)→Option β
def yj (β:Type) (L:Nat) (p0:List (List V)) (k_fin:Int→Option β):Option β:=zg1 xl L p0 k_fin
def zgP (yj:y4) (L:Nat) (β:Type) (args:List V) (bor:Bor) (k:KK β):Option β:=match args,bor with
 | [a0,a1],[]=>aL 4 a0 fun p0=>aF 279 [] a1 (yj β L p0 (fun p0=>k (V.sc (.int .i64 p0)) []))
 | _,_=>none
theorem zuR (L:Nat) (β:Type) (args:List V) (bor:Bor) (k:KK β) (r:β) (h:zgP yj L β args bor k=some r):xr zaM (zaN xl L) L zee args bor k=some r:=by
 unfold zgP at h
 split at h
 ·have q:=z9 h; clear h; obtain ⟨p0,rfl,h⟩:=q
  have q:=ztT h; clear h; obtain ⟨rfl,h⟩:=q
  exact (zu6 xl L p0 k).trans h
 ·cases h
def zb3:CC:=(.seq (.reg [oo 9 (.bin .lss (tq 8) (tq 7))])
 (.seq (.cond (tq 9)
 .skip
 (.seq (.mask (bl 0 23) (bl 5210079 23))
 (.exit 0)))
 (.seq (.block 1 (.seq (.reg [oo 10 (.indexAddrS 5 (tq 6) (tq 8)),
   oo 11 (.load true 5 (tq 10) false),
   oo 5 (.alloc true [(.sc (.int .i64 0)),(.sc (.int .u32 0)),(.sc (.int .u16 0)),(.sc (.int .u32 0)),(.sc (.int .u32 0))]),
   oz (.store 5 (tq 5) (tq 11))])
 (.seq (.reg [oo 12 (.load false 1 (tq 1) false),
   oo 13 (.fieldAddr 1 (tq 5)),
   oo 14 (.load true 3 (tq 13) false),
   oo 15 (.call 278 [((tq 12),0),((tq 14),0)] []),
   oo 16 (.un .not (tq 15))])
 (.cond (tq 16)
 (.reg [oo 17 (.load false 1 (tq 2) true),
   oo 18 (.fieldAddr 1 (tq 5)),
   oo 19 (.load true 3 (tq 18) false),
   oo 20 (.buildSlice 3 1 [(.sc (.int .u32 0)),(.sc (.int .u16 0)),(.sc (.int .u32 0))] [(0,3,(tq 19))]),
   oo 21 (.append 3 12 (tq 17) (tq 20)),
   oz (.store 1 (tq 2) (tq 21))])
 .skip))))
 (.reg [oo 22 (.bin .add (tq 8) (.const (.sc (.int .i64 1)))),
   oo 8 (.move (tq 22) false)]))))
def za5:CF:=⟨23,[],
 (.seq (.reg [oo 6 (.move (tq 0) false),
   oo 7 (.lenS (tq 6)),
   oo 8 (.move (.const (.sc (.int .i64 0))) false)])
 (.block 0 (.loop (bl 454 23) (bl 5210079 23)
 zb3)))⟩
def zi9:Hint:=⟨[(4,0)],[],[none,some ((bl 454 23),(bl 5210079 23)),none,some ((bl 0 23),(bl 5210079 23)),none,none],[],[],false,false⟩
def zay:Nat→Sh:=xO []
def zax (xa:xp) (L:Nat):CBC:=(xu 278 (zc2 xa L) noC)
def zdq:St→St:=zac 2 (bl 454 23) (bl 5210079 23)
def zcH (p6:List (List V)) (p7 p8:Int) (zKA zLM:List (List V)):St:=⟨(jn 1 ((V.ptr 0 0)::((V.ptr 1 0)::(jn 3 ((V.sl 5 p6)::((V.sc (.int .i64 p7))::((V.sc (.int .i64 p8))::(jn 14 [])))))))),((.live true [(V.sl 4 zKA)])::((.live false [(V.gs 3 zLM)])::(gn 23 [])))⟩
def zeB (zKA zLM:List (List V)):St:=⟨(jn 23 []),((.live true [(V.sl 4 zKA)])::((.live false [(V.gs 3 zLM)])::(gn 23 [])))⟩
abbrev zja (β:Type):Type:=List (List V)→Int→Int→List (List V)→List (List V)→Option β
def zgz {β:Type} (xa:xp) (L:Nat) (p0 zKA zLM:List (List V)) (k_hba:zja β):Option β :=
 k_hba p0 ((List.length p0:Nat):Int) (0:Int) zKA zLM
theorem zqw {β:Type} (xa:xp) (L:Nat) (p0 zKA zLM:List (List V)) (k:KK β):xr zay (zax xa L) L za5 [(V.sl 5 p0),(V.ptr 0 0),(V.ptr 1 0)] [(.live true [(V.sl 4 zKA)]),(.live false [(V.gs 3 zLM)])] k=zgz xa L p0 zKA zLM (fun p6 p7 p8 zKA zLM=>zH (yn zay (zax xa L) 2 L zb3) zdq L (zcH p6 p7 p8 zKA zLM) (yH 0 (y6 2 (CF.res za5) k))):=by kernel_rfl
def ze7 {β:Type} (xa:xp) (L:Nat) (p6:List (List V)) (p7 p8:Int) (zKA zLM:List (List V)) (k_hba:zja β) (k_x0:List (List V)→List (List V)→Option β):Option β :=
 ifb (decide (p8 < p7)) (
 idx p6 p8 fun c0 =>
 chk ((List.length (List.take 5 c0))=5∧0+5≤5) (
 lt (xg [(V.sc (.int .i64 (0:Int))),(V.sc (.int .u32 (0:Int))),(V.sc (.int .u16 (0:Int))),(V.sc (.int .u32 (0:Int))),(V.sc (.int .u32 (0:Int)))] 0 (List.take 5 c0)) fun r1 =>
 chk (1+3≤(List.length r1)) (
 xa β L zKA (List.take 3 (List.drop 1 r1)) (fun v2 =>
 ifb (!v2) (
 chk (1+3≤(List.length r1)) (
 chk ((List.length (List.take 3 (List.drop 1 r1)))=3∧0+3≤3) (
 chk ((List.length zLM+List.length (yk 3 1 (xg [(V.sc (.int .u32 (0:Int))),(V.sc (.int .u16 (0:Int))),(V.sc (.int .u32 (0:Int)))] 0 (List.take 3 (List.drop 1 r1))))) * 12≤yr∧List.length zLM+List.length (yk 3 1 (xg [(V.sc (.int .u32 (0:Int))),(V.sc (.int .u16 (0:Int))),(V.sc (.int .u32 (0:Int)))] 0 (List.take 3 (List.drop 1 r1))))≤yr) (
 lt (zLM++(yk 3 1 (xg [(V.sc (.int .u32 (0:Int))),(V.sc (.int .u16 (0:Int))),(V.sc (.int .u32 (0:Int)))] 0 (List.take 3 (List.drop 1 r1))))) fun l3 =>
 lt (IntKind.wrap .i64 ((p8:Int)+(1:Int))) fun x4 =>
 k_hba p6 p7 x4 zKA l3)))) (
 lt (IntKind.wrap .i64 ((p8:Int)+(1:Int))) fun x5 =>
 k_hba p6 p7 x5 zKA zLM))))) (
 k_x0 zKA zLM)
theorem zo7 {β:Type} (xa:xp) (L:Nat) (p6:List (List V)) (p7 p8:Int) (zKA zLM:List (List V)) (X:St→Option β) (K:KT β):yn zay (zax xa L) 2 L zb3 (zcH p6 p7 p8 zKA zLM) (zcC zdq X K)=ze7 xa L p6 p7 p8 zKA zLM (fun p6 p7 p8 zKA zLM=>X (zcH p6 p7 p8 zKA zLM)) (fun zKA zLM=>K (.exit 0) (zeB zKA zLM)):=by kernel_rfl
def zij {β:Type} (xa:xp) (L:Nat) (zKA zLM:List (List V)) (k_fin:List (List V)→List (List V)→Option β):Option β :=
 k_fin zKA zLM
theorem znT {β:Type} (xa:xp) (L:Nat) (zKA zLM:List (List V)) (k:KK β):(yH 0 (y6 2 (CF.res za5) k)) (.exit 0) (zeB zKA zLM)=zij xa L zKA zLM (fun zKA zLM=>k (V.tup []) [(.live true [(V.sl 4 zKA)]),(.live false [(V.gs 3 zLM)])]):=by kernel_rfl
def zce {β:Type} (xa:xp) (L:Nat) (k_x0:List (List V)→List (List V)→Option β):Nat→List (List V)→Int→Int→List (List V)→List (List V)→Option β
 | 0,_,_,_,_,_=>none
 | n+1,p6,p7,p8,zKA,zLM=>ze7 xa L p6 p7 p8 zKA zLM (fun p6 p7 p8 zKA zLM=>zce xa L k_x0 n p6 p7 p8 zKA zLM) k_x0
theorem zhs {β:Type} (xa:xp) (L:Nat) (K:KT β):∀ (n:Nat) (p6:List (List V)) (p7 p8:Int) (zKA zLM:List (List V)),zH (yn zay (zax xa L) 2 L zb3) zdq n (zcH p6 p7 p8 zKA zLM) K=zce xa L (fun zKA zLM=>K (.exit 0) (zeB zKA zLM)) n p6 p7 p8 zKA zLM:=by
 intro n
 induction n with
 | zero=>intros; rfl
 | succ n ih =>
  intro p6 p7 p8 zKA zLM
  refine (zo7 xa L p6 p7 p8 zKA zLM (fun σ=>zH (yn zay (zax xa L) 2 L zb3) zdq n σ K) K).trans ?_
  simp only [ih]
  rfl
def zd3 {β:Type} (xa:xp) (L:Nat) (p0 zKA zLM:List (List V)) (k_fin:List (List V)→List (List V)→Option β):Option β :=
 zgz xa L p0 zKA zLM (fun p6 p7 p8 zKA zLM=>zce xa L (fun zKA zLM=>zij xa L zKA zLM k_fin) L p6 p7 p8 zKA zLM)
theorem zqj {β:Type} (xa:xp) (L:Nat) (p0 zKA zLM:List (List V)) (k:KK β):xr zay (zax xa L) L za5 [(V.sl 5 p0),(V.ptr 0 0),(V.ptr 1 0)] [(.live true [(V.sl 4 zKA)]),(.live false [(V.gs 3 zLM)])] k=zd3 xa L p0 zKA zLM (fun zKA zLM=>k (V.tup []) [(.live true [(V.sl 4 zKA)]),(.live false [(V.gs 3 zLM)])]):=by
 refine (zqw xa L p0 zKA zLM k).trans ?_
 unfold zd3
 first
  | (simp only [zhs,znT]; done)
  | (simp only [zhs]; rfl)
abbrev zd4:=∀ (β:Type),Nat→List (List V)→List (List V)→List (List V)→(List (List V)→List (List V)→Option β)→Option β
def xD (β:Type) (L:Nat) (p0 zKA zLM:List (List V)) (k_fin:List (List V)→List (List V)→Option β):Option β:=zd3 xa L p0 zKA zLM k_fin
def zd7 (xD:zd4) (L:Nat) (β:Type) (args:List V) (bor:Bor) (k:KK β):Option β:=match args,bor with
 | [a0,a1,a2],[(.live true [w0_0]),(.live false [w1_0])]=>aL 5 a0 fun p0=>aP 0 0 a1 (aP 1 0 a2 (aL 4 w0_0 fun zKA=>aGs 3 w1_0 fun zLM=>xD β L p0 zKA zLM (fun zKA zLM=>k (V.tup []) [(.live true [(V.sl 4 zKA)]),(.live false [(V.gs 3 zLM)])])))
 | _,_=>none
theorem zqA (L:Nat) (β:Type) (args:List V) (bor:Bor) (k:KK β) (r:β) (h:zd7 xD L β args bor k=some r):xr zay (zax xa L) L za5 args bor k=some r:=by
 unfold zd7 at h
 split at h
 ·have q:=z9 h; clear h; obtain ⟨p0,rfl,h⟩:=q
  have q:=zlx h; clear h; obtain ⟨rfl,h⟩:=q
  have q:=zlx h; clear h; obtain ⟨rfl,h⟩:=q
  have q:=z9 h; clear h; obtain ⟨zKA,rfl,h⟩:=q
  have q:=zIW h; clear h; obtain ⟨zLM,rfl,h⟩:=q
  exact (zqj xa L p0 zKA zLM k).trans h
 ·cases h
def zes:CF:=⟨28,[.tmp 6],
 (.seq (.reg [oo 3 (.box true (tq 0)),
   oo 4 (.box true (tq 1)),
   oo 6 (.move (.const (.gs 3 [])) true)])
 (.seq (.reg [oo 7 (.alloc false [(.gs 3 [])])])
 (.seq (.reg [oo 9 (.makeFunc 284 [(tq 4),(tq 7)]),
   oo 8 (.move (tq 9) false)])
 (.seq (.seq (.reg [oo 10 (.move (tq 2) false)])
 (.block 0 (.seq (.reg [oo 12 (.bin .eql (tq 10) (.const (.sc (.int .i64 2)))),
   oo 11 (.move (tq 12) false)])
 (.cond (tq 11)
 (.seq (.reg [oo 13 (.move (tq 8) false),
   oo 14 (.fieldAddr 33 (tq 3)),
   oo 15 (.load false 1 (tq 14) false),
   oo 16 (.callv (tq 13) [((tq 15),0)] [])])
 (.reg [oo 17 (.move (tq 8) false),
   oo 18 (.fieldAddr 32 (tq 3)),
   oo 19 (.load false 1 (tq 18) false),
   oo 20 (.callv (tq 17) [((tq 19),0)] [])]))
 (.seq (.reg [oo 22 (.bin .eql (tq 10) (.const (.sc (.int .i64 3)))),
   oo 21 (.move (tq 22) false)])
 (.cond (tq 21)
 (.reg [oo 23 (.move (tq 8) false),
   oo 24 (.fieldAddr 32 (tq 3)),
   oo 25 (.load false 1 (tq 24) false),
   oo 26 (.callv (tq 23) [((tq 25),0)] [])])
 .skip))))))
 (.seq (.reg [oo 27 (.load false 1 (tq 7) false),
   oo 6 (.move (tq 27) true)])
 .ret)))))⟩
def zkG:Hint:=⟨[(0,0),(0,1),(0,2),(9,1)],[],[none,none,none,none],[],[],false,false⟩
def zhf:Nat→Sh:=xO [(15,(.sl 5)),(19,(.sl 5)),(25,(.sl 5))]
def zhl (xD:zd4) (L:Nat):CBC:=(xu 284 (zd7 xD L) noC)
def zhY {β:Type} (xD:zd4) (L:Nat) (p0:List V) (p1:List (List V)) (p2:Int) (k_fin:List (List V)→Option β):Option β :=
 ifb ((p2:Int) == (2:Int)) (
 cLd 5 p0 33 fun v0 =>
 xD β L v0 p1 ([]:List (List V)) (fun v1 v2 =>
 cLd 5 p0 32 fun v3 =>
 xD β L v3 v1 v2 (fun v4 v5 =>
 k_fin v5))) (
 ifb ((p2:Int) == (3:Int)) (
 cLd 5 p0 32 fun v6 =>
 xD β L v6 p1 ([]:List (List V)) (fun v7 v8 =>
 k_fin v8)) (
 k_fin ([]:List (List V))))
theorem zrQ {β:Type} (xD:zd4) (L:Nat) (p0:List V) (p1:List (List V)) (p2:Int) (k:KK β):xr zhf (zhl xD L) L zes [(V.agg p0),(V.sl 4 p1),(V.sc (.int .i64 p2))] [] k=zhY xD L p0 p1 p2 (fun p0=>k (V.sl 3 p0) []):=by kernel_rfl
abbrev xj:=∀ (β:Type),Nat→List V→List (List V)→Int→(List (List V)→Option β)→Option β
def za (β:Type) (L:Nat) (p0:List V) (p1:List (List V)) (p2:Int) (k_fin:List (List V)→Option β):Option β:=zhY xD L p0 p1 p2 k_fin
def zcm (za:xj) (L:Nat) (β:Type) (args:List V) (bor:Bor) (k:KK β):Option β:=match args,bor with
 | [a0,a1,a2],[]=>aG a0 fun p0=>aL 4 a1 fun p1=>aI .i64 a2 fun p2=>za β L p0 p1 p2 (fun p0=>k (V.sl 3 p0) [])
 | _,_=>none
theorem zr2 (L:Nat) (β:Type) (args:List V) (bor:Bor) (k:KK β) (r:β) (h:zcm za L β args bor k=some r):xr zhf (zhl xD L) L zes args bor k=some r:=by
 unfold zcm at h
 split at h
 ·have q:=yZ h; clear h; obtain ⟨p0,rfl,h⟩:=q
  have q:=z9 h; clear h; obtain ⟨p1,rfl,h⟩:=q
  have q:=zau h; clear h; obtain ⟨p2,rfl,h⟩:=q
  exact (zrQ xD L p0 p1 p2 k).trans h
 ·cases h
end
end Go.Proofs.Ytpafdnidhnldhaa
