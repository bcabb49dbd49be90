/- Part 8 of the proof of ConnectChooses: an abstract machine over plain values, its soundness, and the functions of the program on plain values. -/
import Derived.Test.YtpafdnidhnldhaaRows
import Derived.Test.YtpafdnidhnldhaaMConnectChooses7
namespace Go.Proofs.Ytpafdnidhnldhaa
section
set_option maxRecDepth 100000
set_option linter.unusedVariables false
set_option linter.unusedSimpArgs false
def zko:CF:=⟨13,[.tmp 2],
 (.seq (.reg [oo 2 (.move (.const (.sc (.bool false))) false)])
 (.seq (.reg [oo 3 (.move (tq 0) false),
   oo 4 (.bin .eql (tq 3) (.const (.sc (.int .i64 1)))),
   oo 5 (.move (tq 4) false),
   ⟨(some 6),false,(some (5,false)),.move (tq 0) false⟩,
   ⟨(some 7),false,(some (5,false)),.bin .eql (tq 6) (.const (.sc (.int .i64 2)))⟩,
   oo 8 (.pick (tq 5) (.const (.sc (.bool true))) (tq 7)),
   oo 9 (.move (tq 8) false),
   ⟨(some 10),false,(some (9,false)),.move (tq 0) false⟩,
   ⟨(some 11),false,(some (9,false)),.bin .eql (tq 10) (.const (.sc (.int .i64 3)))⟩,
   oo 12 (.pick (tq 9) (.const (.sc (.bool true))) (tq 11)),
   oo 2 (.move (tq 12) false)])
 .ret))⟩
def zsr:Hint:=⟨[],[],[none],[],[],false,false⟩
def zoU:Nat→Sh:=zV []
def zoZ (L:Nat):CBC:=noC
def zqy {β:Type} (L:Nat) (p0:Int) (k_fin:Bool→Option β):Option β :=
 ifb ((p0:Int) == (1:Int)) (
 k_fin true) (
 ifb ((p0:Int) == (2:Int)) (
 k_fin true) (
 k_fin ((p0:Int) == (3:Int))))
theorem zAa {β:Type} (L:Nat) (p0:Int) (k:KK β):xr zoU (zoZ L) L zko [(V.sc (.int .i64 p0))] [] k=zqy L p0 (fun p0=>k (V.sc (.bool p0)) []):=by kernel_rfl
abbrev zab:=∀ (β:Type),Nat→Int→(Bool→Option β)→Option β
def xn (β:Type) (L:Nat) (p0:Int) (k_fin:Bool→Option β):Option β:=zqy L p0 k_fin
def ziA (xn:zab) (L:Nat) (β:Type) (args:List V) (bor:Bor) (k:KK β):Option β:=match args,bor with
 | [a0],[]=>aI .i64 a0 fun p0=>xn β L p0 (fun p0=>k (V.sc (.bool p0)) [])
 | _,_=>none
theorem zzX (L:Nat) (β:Type) (args:List V) (bor:Bor) (k:KK β) (r:β) (h:ziA xn L β args bor k=some r):xr zoU (zoZ L) L zko args bor k=some r:=by
 unfold ziA at h
 split at h
 ·have q:=zad h; clear h; obtain ⟨p0,rfl,h⟩:=q
  exact (zAa L p0 k).trans h
 ·cases h
def zji:CF:=⟨6,[.tmp 2],
 (.seq (.reg [oo 1 (.box true (tq 0)),
   oo 2 (.move (.const (.sc (.int .u32 0))) false)])
 (.seq (.reg [oo 3 (.fieldAddr 0 (tq 1)),
   oo 4 (.load false 1 (tq 3) false),
   oo 5 (.bin .shr (tq 4) (.const (.sc (.int .u64 16)))),
   oo 2 (.move (tq 5) false)])
 .ret))⟩
def zrf:Hint:=⟨[],[],[none],[],[],false,false⟩
def zoa:Nat→Sh:=zV [(4,(.int .u32))]
def zn4 (L:Nat):CBC:=noC
def zoV {β:Type} (L:Nat) (p0:List V) (k_fin:Int→Option β):Option β :=
 cI .u32 p0 0 fun v0 =>
 lt (zr5 .u32 v0 (16:Int)) fun x1 =>
 k_fin x1
theorem zzd {β:Type} (L:Nat) (p0:List V) (k:KK β):xr zoa (zn4 L) L zji [(V.agg p0)] [] k=zoV L p0 (fun p0=>k (V.sc (.int .u32 p0)) []):=by kernel_rfl
abbrev yn:=∀ (β:Type),Nat→List V→(Int→Option β)→Option β
def zb (β:Type) (L:Nat) (p0:List V) (k_fin:Int→Option β):Option β:=zoV L p0 k_fin
def zcR (zb:yn) (L:Nat) (β:Type) (args:List V) (bor:Bor) (k:KK β):Option β:=match args,bor with
 | [a0],[]=>aG a0 fun p0=>zb β L p0 (fun p0=>k (V.sc (.int .u32 p0)) [])
 | _,_=>none
theorem zyX (L:Nat) (β:Type) (args:List V) (bor:Bor) (k:KK β) (r:β) (h:zcR zb L β args bor k=some r):xr zoa (zn4 L) L zji args bor k=some r:=by
 unfold zcR at h
 split at h
 ·have q:=y5 h; clear h; obtain ⟨p0,rfl,h⟩:=q
  exact (zzd L p0 k).trans h
 ·cases h
def zhM:CF:=⟨10,[.tmp 3],
 (.seq (.reg [oo 2 (.box true (tq 0)),
   oo 3 (.move (.const (.sc (.bool false))) false)])
 (.seq (.dreg [] [(oo 4 (.fieldAddr 1 (tq 2)),q0),
   (oo 5 (.load true 3 (tq 4) false),ql 2 [1] []),
   (oo 6 (.call 269 [((tq 5),0)] []),qc [1] []),
   (oo 7 (.load true 3 (tq 1) false),ql 1 [2] []),
   (oo 8 (.call 269 [((tq 7),0)] []),q0),
   (oo 9 (.bin .eql (tq 6) (tq 8)),q0),
   (oo 3 (.move (tq 9) false),q0)])
 .ret))⟩
def zpB:Hint:=⟨[],[],[none],[],[],false,false⟩
def zli:Nat→Sh:=zV []
def zk9 (zb:yn) (L:Nat):CBC:=(xA 269 (zcR zb L) noC)
def zmj {β:Type} (zb:yn) (L:Nat) (p0 b0:List V) (k_fin:Bool→List V→Option β):Option β :=
 chk (1+3≤(List.length p0)) (
 zb β L (List.take 3 (List.drop 1 p0)) (fun v0 =>
 chk (0+3≤(List.length b0)) (
 zb β L (List.take 3 b0) (fun v1 =>
 k_fin ((v0:Int) == v1) b0))))
theorem zxq {β:Type} (zb:yn) (L:Nat) (p0 b0:List V) (k:KK β):xr zli (zk9 zb L) L zhM [(V.agg p0),(V.ptr 0 0)] [(.live true b0)] k=zmj zb L p0 b0 (fun p0 b0=>k (V.sc (.bool p0)) [(.live true b0)]):=by kernel_rfl
abbrev zac:=∀ (β:Type),Nat→List V→List V→(Bool→List V→Option β)→Option β
def zo (β:Type) (L:Nat) (p0 b0:List V) (k_fin:Bool→List V→Option β):Option β:=zmj zb L p0 b0 k_fin
def ziF (zo:zac) (L:Nat) (β:Type) (args:List V) (bor:Bor) (k:KK β):Option β:=match args,bor with
 | [a0,a1],[(.live true b0)]=>aG a0 fun p0=>aP 0 0 a1 (zo β L p0 b0 (fun p0 b0=>k (V.sc (.bool p0)) [(.live true b0)]))
 | _,_=>none
theorem zw3 (L:Nat) (β:Type) (args:List V) (bor:Bor) (k:KK β) (r:β) (h:ziF zo L β args bor k=some r):xr zli (zk9 zb L) L zhM args bor k=some r:=by
 unfold ziF at h
 split at h
 ·have q:=y5 h; clear h; obtain ⟨p0,rfl,h⟩:=q
  have q:=zkV h; clear h; obtain ⟨rfl,h⟩:=q
  exact (zxq zb L p0 _ k).trans h
 ·cases h
def zay:CC:=(.seq (.reg [oo 9 (.bin .lss (tq 8) (tq 7))])
 (.seq (.cond (tq 9)
 .skip
 (.seq (.mask (bl 0 19) (bl 458703 19))
 (.exit 0)))
 (.seq (.block 1 (.seq (.reg [oo 10 (.move (tq 8) false),
   oo 5 (.move (tq 10) false)])
 (.seq (.reg [oo 11 (.move (tq 1) false),
   oo 12 (.move (tq 0) false),
   oo 13 (.move (tq 5) false),
   oo 14 (.indexAddrS 4 (tq 12) (tq 13)),
   oo 15 (.load true 4 (tq 14) false),
   oo 16 (.callv (tq 11) [((tq 15),0)] [])])
 (.cond (tq 16)
 (.seq (.reg [oo 17 (.move (tq 5) false),
   oo 4 (.move (tq 17) false)])
 (.seq (.mask (bl 16 19) (bl 458719 19))
 .ret))
 .skip))))
 (.reg [oo 18 (.bin .add (tq 8) (.const (.sc (.int .i64 1)))),
   oo 8 (.move (tq 18) false)]))))
def zbx:CC:=(.seq (.reg [oo 4 (.move (.const (.sc (.int .i64 (-1)))) false)])
 .ret)
def zQ:CF:=⟨19,[.tmp 4],
 (.seq (.reg [oo 4 (.move (.const (.sc (.int .i64 0))) false)])
 (.seq (.seq (.reg [oo 6 (.move (tq 0) false),
   oo 7 (.lenS (tq 6)),
   oo 8 (.move (.const (.sc (.int .i64 0))) false)])
 (.block 0 (.loop (bl 387 19) (bl 458703 19)
 zay)))
 zbx))⟩
def zeS:Hint:=⟨[],[],[none,some ((bl 387 19),(bl 458703 19)),none,some ((bl 0 19),(bl 458703 19)),none,none,some ((bl 16 19),(bl 458719 19)),none],[],[],false,false⟩
def zI:Nat→Sh:=zV []
def xH (zo:zac) (L:Nat):CBC:=(xA 301 (ziF zo L) noC)
def zbc:St→St:=zaE 1 (bl 387 19) (bl 458703 19)
def zaY (p0:List (List V)) (p7 p8:Int) (b0:List V):St:=⟨((V.sl 4 p0)::((V.fn 301 [(V.ptr 0 0)])::(jn 5 ((V.sc (.int .i64 p7))::((V.sc (.int .i64 p8))::(jn 10 [])))))),((.live true b0)::(gn 19 []))⟩
def zck (p4:Int) (b0:List V):St:=⟨(jn 4 ((V.sc (.int .i64 p4))::(jn 14 []))),((.live true b0)::(gn 19 []))⟩
def zcF (b0:List V):St:=⟨(jn 19 []),((.live true b0)::(gn 19 []))⟩
def zdk {β:Type} (zo:zac) (L:Nat) (p0:List (List V)) (b0:List V) (k_hbaba:List (List V)→Int→Int→List V→Option β):Option β :=
 k_hbaba p0 ((List.length p0:Nat):Int) (0:Int) b0
theorem zkx {β:Type} (zo:zac) (L:Nat) (p0:List (List V)) (b0:List V) (k:KK β):xr zI (xH zo L) L zQ [(V.sl 4 p0),(V.fn 301 [(V.ptr 0 0)])] [(.live true b0)] k=zdk zo L p0 b0 (fun p0 p7 p8 b0=>xy (yj zI (xH zo L) 1 L zay) zbc L (zaY p0 p7 p8 b0) (zx 0 (yI (yj zI (xH zo L) 1 L zbx) (zN 1 (CF.res zQ) k)))):=by kernel_rfl
def zcE {β:Type} (zo:zac) (L:Nat) (p0:List (List V)) (p7 p8:Int) (b0:List V) (k_ret:Int→List V→Option β) (k_hbaba:List (List V)→Int→Int→List V→Option β) (k_x0:List V→Option β):Option β :=
 ifb (decide (p8 < p7)) (
 idx p0 p8 fun c0 =>
 zo β L (List.take 4 c0) b0 (fun v1 v2 =>
 chk ([(List.length v2)]=[(List.length b0)]) (
 ifb v1 (
 k_ret p8 v2) (
 lt (IntKind.wrap .i64 ((p8:Int)+(1:Int))) fun x3 =>
 k_hbaba p0 p7 x3 v2)))) (
 k_x0 b0)
theorem zjd {β:Type} (zo:zac) (L:Nat) (p0:List (List V)) (p7 p8:Int) (b0:List V) (X:St→Option β) (K:KT β):yj zI (xH zo L) 1 L zay (zaY p0 p7 p8 b0) (zaz zbc X K)=zcE zo L p0 p7 p8 b0 (fun p4 b0=>K .ret (zck p4 b0)) (fun p0 p7 p8 b0=>X (zaY p0 p7 p8 b0)) (fun b0=>K (.exit 0) (zcF b0)):=by kernel_rfl
def zb1 {β:Type} (zo:zac) (L:Nat) (p4:Int) (b0:List V) (k_fin:Int→List V→Option β):Option β :=
 k_fin p4 b0
theorem zh2 {β:Type} (zo:zac) (L:Nat) (p4:Int) (b0:List V) (k:KK β):(zx 0 (yI (yj zI (xH zo L) 1 L zbx) (zN 1 (CF.res zQ) k))) .ret (zck p4 b0)=zb1 zo L p4 b0 (fun p0 b0=>k (V.sc (.int .i64 p0)) [(.live true b0)]):=by kernel_rfl
def zb7 {β:Type} (zo:zac) (L:Nat) (b0:List V) (k_fin:Int→List V→Option β):Option β :=
 k_fin (-1:Int) b0
theorem zic {β:Type} (zo:zac) (L:Nat) (b0:List V) (k:KK β):(zx 0 (yI (yj zI (xH zo L) 1 L zbx) (zN 1 (CF.res zQ) k))) (.exit 0) (zcF b0)=zb7 zo L b0 (fun p0 b0=>k (V.sc (.int .i64 p0)) [(.live true b0)]):=by kernel_rfl
def zaA {β:Type} (zo:zac) (L:Nat) (k_ret:Int→List V→Option β) (k_x0:List V→Option β):Nat→List (List V)→Int→Int→List V→Option β
 | 0,_,_,_,_=>none
 | n+1,p0,p7,p8,b0=>zcE zo L p0 p7 p8 b0 k_ret (fun p0 p7 p8 b0=>zaA zo L k_ret k_x0 n p0 p7 p8 b0) k_x0
theorem zd9 {β:Type} (zo:zac) (L:Nat) (K:KT β):∀ (n:Nat) (p0:List (List V)) (p7 p8:Int) (b0:List V),xy (yj zI (xH zo L) 1 L zay) zbc n (zaY p0 p7 p8 b0) K=zaA zo L (fun p4 b0=>K .ret (zck p4 b0)) (fun b0=>K (.exit 0) (zcF b0)) n p0 p7 p8 b0:=by
 intro n
 induction n with
 | zero=>intros; rfl
 | succ n ih =>
  intro p0 p7 p8 b0
  refine (zjd zo L p0 p7 p8 b0 (fun σ=>xy (yj zI (xH zo L) 1 L zay) zbc n σ K) K).trans ?_
  simp only [ih]
  rfl
def zbL {β:Type} (zo:zac) (L:Nat) (p0:List (List V)) (b0:List V) (k_fin:Int→List V→Option β):Option β :=
 zdk zo L p0 b0 (fun p0 p7 p8 b0=>zaA zo L (fun p4 b0=>zb1 zo L p4 b0 k_fin) (fun b0=>zb7 zo L b0 k_fin) L p0 p7 p8 b0)
theorem zkJ {β:Type} (zo:zac) (L:Nat) (p0:List (List V)) (b0:List V) (k:KK β):xr zI (xH zo L) L zQ [(V.sl 4 p0),(V.fn 301 [(V.ptr 0 0)])] [(.live true b0)] k=zbL zo L p0 b0 (fun p0 b0=>k (V.sc (.int .i64 p0)) [(.live true b0)]):=by
 refine (zkx zo L p0 b0 k).trans ?_
 unfold zbL
 first
  | (simp only [zd9,zh2,zic]; done)
  | (simp only [zd9]; rfl)
abbrev zbJ:=∀ (β:Type),Nat→List (List V)→List V→(Int→List V→Option β)→Option β
def xx (β:Type) (L:Nat) (p0:List (List V)) (b0:List V) (k_fin:Int→List V→Option β):Option β:=zbL zo L p0 b0 k_fin
def zbK (xx:zbJ) (L:Nat) (β:Type) (args:List V) (bor:Bor) (k:KK β):Option β:=match args,bor with
 | [a0,a1],[(.live true b0)]=>aL 4 a0 fun p0=>aF 301 [(0,0)] a1 (xx β L p0 b0 (fun p0 b0=>k (V.sc (.int .i64 p0)) [(.live true b0)]))
 | _,_=>none
theorem zkD (L:Nat) (β:Type) (args:List V) (bor:Bor) (k:KK β) (r:β) (h:zbK xx L β args bor k=some r):xr zI (xH zo L) L zQ args bor k=some r:=by
 unfold zbK at h
 split at h
 ·have q:=xP h; clear h; obtain ⟨p0,rfl,h⟩:=q
  have q:=zwW h; clear h; obtain ⟨rfl,h⟩:=q
  exact (zkJ zo L p0 _ k).trans h
 ·cases h
def zbd:CF:=⟨9,[.tmp 4],
 (.seq (.reg [oo 4 (.move (.const (.sc (.bool false))) false)])
 (.seq (.reg [oo 5 (.move (tq 0) false),
   oo 6 (.move (tq 1) false),
   oo 7 (.call 306 [((tq 5),2),((tq 6),2)] []),
   oo 8 (.bin .geq (tq 7) (.const (.sc (.int .i64 0)))),
   oo 4 (.move (tq 8) false)])
 .ret))⟩
def zet:Hint:=⟨[(1,2)],[],[none],[],[],false,false⟩
def zcI:Nat→Sh:=zV []
def zcG (xx:zbJ) (L:Nat):CBC:=(xA 306 (zbK xx L) noC)
def zcN {β:Type} (xx:zbJ) (L:Nat) (p0:List (List V)) (b0:List V) (k_fin:Bool→List V→Option β):Option β :=
 xx β L p0 b0 (fun v0 v1 =>
 chk ([(List.length v1)]=[(List.length b0)]) (
 k_fin (decide (v0 ≥ (0:Int))) v1))
theorem zjh {β:Type} (xx:zbJ) (L:Nat) (p0:List (List V)) (b0:List V) (k:KK β):xr zcI (zcG xx L) L zbd [(V.sl 4 p0),(V.fn 301 [(V.ptr 0 0)])] [(.live true b0)] k=zcN xx L p0 b0 (fun p0 b0=>k (V.sc (.bool p0)) [(.live true b0)]):=by kernel_rfl
abbrev zbj:=∀ (β:Type),Nat→List (List V)→List V→(Bool→List V→Option β)→Option β
def yw (β:Type) (L:Nat) (p0:List (List V)) (b0:List V) (k_fin:Bool→List V→Option β):Option β:=zcN xx L p0 b0 k_fin
def zbq (yw:zbj) (L:Nat) (β:Type) (args:List V) (bor:Bor) (k:KK β):Option β:=match args,bor with
 | [a0,a1],[(.live true b0)]=>aL 4 a0 fun p0=>aF 301 [(0,0)] a1 (yw β L p0 b0 (fun p0 b0=>k (V.sc (.bool p0)) [(.live true b0)]))
 | _,_=>none
theorem zjg (L:Nat) (β:Type) (args:List V) (bor:Bor) (k:KK β) (r:β) (h:zbq yw L β args bor k=some r):xr zcI (zcG xx L) L zbd args bor k=some r:=by
 unfold zbq at h
 split at h
 ·have q:=xP h; clear h; obtain ⟨p0,rfl,h⟩:=q
  have q:=zwW h; clear h; obtain ⟨rfl,h⟩:=q
  exact (zjh xx L p0 _ k).trans h
 ·cases h
def zjt:CF:=⟨8,[.tmp 4],
 (.seq (.reg [oo 3 (.box true (tq 1)),
   oo 4 (.move (.const (.sc (.bool false))) false)])
 (.seq (.reg [oo 5 (.move (tq 0) false),
   oo 6 (.makeFunc 301 [(tq 3)]),
   oo 7 (.call 300 [((tq 5),2),((tq 6),2)] []),
   oo 4 (.move (tq 7) false)])
 .ret))⟩
def zrp:Hint:=⟨[(1,2)],[],[none],[],[],false,false⟩
def zn6:Nat→Sh:=zV []
def zn2 (yw:zbj) (L:Nat):CBC:=(xA 300 (zbq yw L) noC)
def zpb {β:Type} (yw:zbj) (L:Nat) (p0:List (List V)) (p1:List V) (k_fin:Bool→Option β):Option β :=
 yw β L p0 p1 (fun v0 v1 =>
 chk ([(List.length v1)]=[(List.length p1)]) (
 k_fin v0))
theorem zy3 {β:Type} (yw:zbj) (L:Nat) (p0:List (List V)) (p1:List V) (k:KK β):xr zn6 (zn2 yw L) L zjt [(V.sl 4 p0),(V.agg p1)] [] k=zpb yw L p0 p1 (fun p0=>k (V.sc (.bool p0)) []):=by kernel_rfl
abbrev xw:=∀ (β:Type),Nat→List (List V)→List V→(Bool→Option β)→Option β
def zd (β:Type) (L:Nat) (p0:List (List V)) (p1:List V) (k_fin:Bool→Option β):Option β:=zpb yw L p0 p1 k_fin
def zex (zd:xw) (L:Nat) (β:Type) (args:List V) (bor:Bor) (k:KK β):Option β:=match args,bor with
 | [a0,a1],[]=>aL 4 a0 fun p0=>aG a1 fun p1=>zd β L p0 p1 (fun p0=>k (V.sc (.bool p0)) [])
 | _,_=>none
theorem zzb (L:Nat) (β:Type) (args:List V) (bor:Bor) (k:KK β) (r:β) (h:zex zd L β args bor k=some r):xr zn6 (zn2 yw L) L zjt args bor k=some r:=by
 unfold zex at h
 split at h
 ·have q:=xP h; clear h; obtain ⟨p0,rfl,h⟩:=q
  have q:=y5 h; clear h; obtain ⟨p1,rfl,h⟩:=q
  exact (zy3 yw L p0 p1 k).trans h
 ·cases h
def zeI:CC:=(.seq (.reg [oo 11 (.bin .lss (tq 10) (tq 9))])
 (.seq (.cond (tq 11)
 .skip
 (.seq (.mask (bl 0 28) (bl 234749923 28))
 (.exit 0)))
 (.seq (.block 1 (.seq (.reg [oo 12 (.move (tq 10) false),
   oo 13 (.indexAddrS 4 (tq 8) (tq 10)),
   oo 14 (.load true 4 (tq 13) false),
   oo 4 (.alloc true [(.sc (.int .i64 0)),(.sc (.int .u32 0)),(.sc (.int .u16 0)),(.sc (.int .u32 0))]),
   oo 3 (.move (tq 12) false),
   oz (.store 4 (tq 4) (tq 14))])
 (.seq (.dreg [] [(oo 15 (.fieldAddr 0 (tq 4)),q0),
   (oo 16 (.load false 1 (tq 15) false),q0),
   (oo 17 (.call 285 [((tq 16),0)] []),q0),
   (oo 18 (.un .not (tq 17)),q0),
   (oo 19 (.move (tq 18) false),q0),
   (⟨(some 20),false,(some (19,false)),.move (tq 0) false⟩,q0),
   (⟨(some 21),false,(some (19,false)),.move (tq 3) false⟩,q0),
   (⟨(some 22),false,(some (19,false)),.sliceS 4 (tq 20) none (some (tq 21)) none⟩,q0),
   (⟨(some 23),false,(some (19,false)),.fieldAddr 1 (tq 4)⟩,q0),
   (⟨(some 24),false,(some (19,false)),.load true 3 (tq 23) false⟩,q0),
   (⟨(some 25),false,(some (19,false)),.call 278 [((tq 22),0),((tq 24),0)] []⟩,q0),
   (oo 26 (.pick (tq 19) (.const (.sc (.bool true))) (tq 25)),q0)])
 (.cond (tq 26)
 (.seq (.reg [oo 2 (.move (.const (.sc (.bool false))) false)])
 (.seq (.mask (bl 4 28) (bl 234749927 28))
 .ret))
 .skip))))
 (.reg [oo 27 (.bin .add (tq 10) (.const (.sc (.int .i64 1)))),
   oo 10 (.move (tq 27) false)]))))
def zin:CC:=(.seq (.reg [oo 2 (.move (.const (.sc (.bool true))) false)])
 .ret)
def zdr:CF:=⟨28,[.tmp 2],
 (.seq (.reg [oo 2 (.move (.const (.sc (.bool false))) false)])
 (.seq (.seq (.reg [oo 5 (.move (tq 0) false),
   oo 6 (.lenS (tq 5)),
   oo 7 (.bin .gtr (tq 6) (.const (.sc (.int .i64 8))))])
 (.cond (tq 7)
 (.seq (.reg [oo 2 (.move (.const (.sc (.bool false))) false)])
 .ret)
 .skip))
 (.seq (.seq (.reg [oo 8 (.move (tq 0) false),
   oo 9 (.lenS (tq 8)),
   oo 10 (.move (.const (.sc (.int .i64 0))) false)])
 (.block 0 (.loop (bl 1793 28) (bl 234749923 28)
 zeI)))
 zin)))⟩
def zsL:Hint:=⟨[],[],[none,none,none,some ((bl 1793 28),(bl 234749923 28)),none,some ((bl 0 28),(bl 234749923 28)),none,none,some ((bl 4 28),(bl 234749927 28)),none],[],[],false,false⟩
def zby:Nat→Sh:=zV [(16,(.int .i64))]
def zbC (xn:zab) (zd:xw) (L:Nat):CBC:=(xA 278 (zex zd L) (xA 285 (ziA xn L) noC))
def zha:St→St:=zaE 0 (bl 1793 28) (bl 234749923 28)
def zfj (p0 p8:List (List V)) (p9 p10:Int):St:=⟨((V.sl 4 p0)::(jn 7 ((V.sl 4 p8)::((V.sc (.int .i64 p9))::((V.sc (.int .i64 p10))::(jn 17 [])))))),(gn 28 [])⟩
def zkj (p2:Bool):St:=⟨(jn 2 ((V.sc (.bool p2))::(jn 25 []))),(gn 28 [])⟩
def zll:St:=⟨(jn 28 []),(gn 28 [])⟩
def zqo {β:Type} (xn:zab) (zd:xw) (L:Nat) (p0:List (List V)) (k_fin:Bool→Option β) (k_hbbaba:List (List V)→List (List V)→Int→Int→Option β):Option β :=
 ifb (decide (((List.length p0:Nat):Int) > (8:Int))) (
 k_fin false) (
 k_hbbaba p0 p0 ((List.length p0:Nat):Int) (0:Int))
theorem zzU {β:Type} (xn:zab) (zd:xw) (L:Nat) (p0:List (List V)) (k:KK β):xr zby (zbC xn zd L) L zdr [(V.sl 4 p0)] [] k=zqo xn zd L p0 (fun p0=>k (V.sc (.bool p0)) []) (fun p0 p8 p9 p10=>xy (yj zby (zbC xn zd L) 0 L zeI) zha L (zfj p0 p8 p9 p10) (zx 0 (yI (yj zby (zbC xn zd L) 0 L zin) (zN 0 (CF.res zdr) k)))):=by kernel_rfl
def zkO {β:Type} (xn:zab) (zd:xw) (L:Nat) (p0 p8:List (List V)) (p9 p10:Int) (k_ret:Bool→Option β) (k_hbbaba:List (List V)→List (List V)→Int→Int→Option β) (k_x0:Option β):Option β :=
 ifb (decide (p10 < p9)) (
 idx p8 p10 fun c0 =>
 chk ((List.length (List.take 4 c0))=4∧0+4≤4) (
 lt (yk [(V.sc (.int .i64 (0:Int))),(V.sc (.int .u32 (0:Int))),(V.sc (.int .u16 (0:Int))),(V.sc (.int .u32 (0:Int)))] 0 (List.take 4 c0)) fun r1 =>
 cI .i64 r1 0 fun v2 =>
 xn β L v2 (fun v3 =>
 ifb (!v3) (
 k_ret false) (
 chk (0≤p10∧p10≤(((List.length p0):Nat):Int)) (
 chk (1+3≤(List.length r1)) (
 zd β L (List.take ((Int.toNat p10) - 0) (List.drop 0 p0)) (List.take 3 (List.drop 1 r1)) (fun v4 =>
 ifb v4 (
 k_ret false) (
 lt (IntKind.wrap .i64 ((p10:Int)+(1:Int))) fun x5 =>
 k_hbbaba p0 p8 p9 x5)))))))) (
 k_x0)
theorem zvo {β:Type} (xn:zab) (zd:xw) (L:Nat) (p0 p8:List (List V)) (p9 p10:Int) (X:St→Option β) (K:KT β):yj zby (zbC xn zd L) 0 L zeI (zfj p0 p8 p9 p10) (zaz zha X K)=zkO xn zd L p0 p8 p9 p10 (fun p2=>K .ret (zkj p2)) (fun p0 p8 p9 p10=>X (zfj p0 p8 p9 p10)) (K (.exit 0) (zll)):=by kernel_rfl
def znC {β:Type} (xn:zab) (zd:xw) (L:Nat) (p2:Bool) (k_fin:Bool→Option β):Option β :=
 k_fin p2
theorem zs2 {β:Type} (xn:zab) (zd:xw) (L:Nat) (p2:Bool) (k:KK β):(zx 0 (yI (yj zby (zbC xn zd L) 0 L zin) (zN 0 (CF.res zdr) k))) .ret (zkj p2)=znC xn zd L p2 (fun p0=>k (V.sc (.bool p0)) []):=by kernel_rfl
def zoj {β:Type} (xn:zab) (zd:xw) (L:Nat) (k_fin:Bool→Option β):Option β :=
 k_fin true
theorem ztJ {β:Type} (xn:zab) (zd:xw) (L:Nat) (k:KK β):(zx 0 (yI (yj zby (zbC xn zd L) 0 L zin) (zN 0 (CF.res zdr) k))) (.exit 0) (zll)=zoj xn zd L (fun p0=>k (V.sc (.bool p0)) []):=by kernel_rfl
def zeW {β:Type} (xn:zab) (zd:xw) (L:Nat) (k_ret:Bool→Option β) (k_x0:Option β):Nat→List (List V)→List (List V)→Int→Int→Option β
 | 0,_,_,_,_=>none
 | n+1,p0,p8,p9,p10=>zkO xn zd L p0 p8 p9 p10 k_ret (fun p0 p8 p9 p10=>zeW xn zd L k_ret k_x0 n p0 p8 p9 p10) k_x0
theorem znA {β:Type} (xn:zab) (zd:xw) (L:Nat) (K:KT β):∀ (n:Nat) (p0 p8:List (List V)) (p9 p10:Int),xy (yj zby (zbC xn zd L) 0 L zeI) zha n (zfj p0 p8 p9 p10) K=zeW xn zd L (fun p2=>K .ret (zkj p2)) (K (.exit 0) (zll)) n p0 p8 p9 p10:=by
 intro n
 induction n with
 | zero=>intros; rfl
 | succ n ih =>
  intro p0 p8 p9 p10
  refine (zvo xn zd L p0 p8 p9 p10 (fun σ=>xy (yj zby (zbC xn zd L) 0 L zeI) zha n σ K) K).trans ?_
  simp only [ih]
  rfl
def zlF {β:Type} (xn:zab) (zd:xw) (L:Nat) (p0:List (List V)) (k_fin:Bool→Option β):Option β :=
 zqo xn zd L p0 k_fin (fun p0 p8 p9 p10=>zeW xn zd L (fun p2=>znC xn zd L p2 k_fin) (zoj xn zd L k_fin) L p0 p8 p9 p10)
theorem zzI {β:Type} (xn:zab) (zd:xw) (L:Nat) (p0:List (List V)) (k:KK β):xr zby (zbC xn zd L) L zdr [(V.sl 4 p0)] [] k=zlF xn zd L p0 (fun p0=>k (V.sc (.bool p0)) []):=by
 refine (zzU xn zd L p0 k).trans ?_
 unfold zlF
 first
  | (simp only [znA,zs2,ztJ]; done)
  | (simp only [znA]; rfl)
abbrev zz:=∀ (β:Type),Nat→List (List V)→(Bool→Option β)→Option β
def xd (β:Type) (L:Nat) (p0:List (List V)) (k_fin:Bool→Option β):Option β:=zlF xn zd L p0 k_fin
def zgm (xd:zz) (L:Nat) (β:Type) (args:List V) (bor:Bor) (k:KK β):Option β:=match args,bor with
 | [a0],[]=>aL 4 a0 fun p0=>xd β L p0 (fun p0=>k (V.sc (.bool p0)) [])
 | _,_=>none
theorem zAC (L:Nat) (β:Type) (args:List V) (bor:Bor) (k:KK β) (r:β) (h:zgm xd L β args bor k=some r):xr zby (zbC xn zd L) L zdr args bor k=some r:=by
 unfold zgm at h
 split at h
 ·have q:=xP h; clear h; obtain ⟨p0,rfl,h⟩:=q
  exact (zzI xn zd L p0 k).trans h
 ·cases h
def zhw:CC:=(.seq (.reg [oo 9 (.bin .lss (tq 8) (tq 7))])
 (.seq (.cond (tq 9)
 .skip
 (.seq (.mask (bl 8 22) (bl 4194255 22))
 (.exit 0)))
 (.seq (.block 1 (.seq (.reg [oo 10 (.move (tq 8) false),
   oo 11 (.indexAddrS 1 (tq 6) (tq 8)),
   oo 12 (.load false 1 (tq 11) false),
   oo 4 (.move (tq 10) false),
   oo 5 (.move (tq 12) false)])
 (.reg [oo 13 (.move (tq 3) false),
   oo 14 (.move (tq 5) false),
   oo 15 (.conv .u64 (tq 14)),
   oo 16 (.move (tq 4) false),
   oo 17 (.bin .mul (.const (.sc (.int .i64 8))) (tq 16)),
   oo 18 (.bin .shl (tq 15) (tq 17)),
   oo 19 (.bin .or (tq 13) (tq 18)),
   oo 3 (.move (tq 19) false)])))
 (.reg [oo 20 (.bin .add (tq 8) (.const (.sc (.int .i64 1)))),
   oo 8 (.move (tq 20) false)]))))
def zte:CC:=(.seq (.reg [oo 21 (.move (tq 3) false),
   oo 2 (.move (tq 21) false)])
 .ret)
def zi8:CF:=⟨22,[.tmp 2],
 (.seq (.reg [oo 2 (.move (.const (.sc (.int .u64 0))) false)])
 (.seq (.reg [oo 3 (.move (.const (.sc (.int .u64 0))) false)])
 (.seq (.seq (.reg [oo 6 (.move (tq 0) false),
   oo 7 (.lenS (tq 6)),
   oo 8 (.move (.const (.sc (.int .i64 0))) false)])
 (.block 0 (.loop (bl 456 22) (bl 4194255 22)
 zhw)))
 zte)))⟩
def zyW:Hint:=⟨[],[],[none,some ((bl 456 22),(bl 4194255 22)),none,some ((bl 8 22),(bl 4194255 22)),none,none],[],[],false,false⟩
def zeR:Nat→Sh:=zV [(12,(.int .u8))]
def zeQ (L:Nat):CBC:=noC
def zlv:St→St:=zaE 0 (bl 456 22) (bl 4194255 22)
def ziO (p3:Int) (p6:List (List V)) (p7 p8:Int):St:=⟨(jn 3 ((V.sc (.int .u64 p3))::(jn 2 ((V.sl 1 p6)::((V.sc (.int .i64 p7))::((V.sc (.int .i64 p8))::(jn 13 []))))))),(gn 22 [])⟩
def zrZ (p3:Int):St:=⟨(jn 3 ((V.sc (.int .u64 p3))::(jn 18 []))),(gn 22 [])⟩
def zyp {β:Type} (L:Nat) (p0:List (List V)) (k_hbbaba:Int→List (List V)→Int→Int→Option β):Option β :=
 k_hbbaba (0:Int) p0 ((List.length p0:Nat):Int) (0:Int)
theorem zFO {β:Type} (L:Nat) (p0:List (List V)) (k:KK β):xr zeR (zeQ L) L zi8 [(V.sl 1 p0)] [] k=zyp L p0 (fun p3 p6 p7 p8=>xy (yj zeR (zeQ L) 0 L zhw) zlv L (ziO p3 p6 p7 p8) (zx 0 (yI (yj zeR (zeQ L) 0 L zte) (zN 0 (CF.res zi8) k)))):=by kernel_rfl
def zpQ {β:Type} (L:Nat) (p3:Int) (p6:List (List V)) (p7 p8:Int) (k_hbbaba:Int→List (List V)→Int→Int→Option β) (k_x0:Int→Option β):Option β :=
 ifb (decide (p8 < p7)) (
 idx p6 p8 fun c0 =>
 cI .u8 c0 0 fun v1 =>
 lt (IntKind.wrap .u64 v1) fun x2 =>
 lt (IntKind.wrap .i64 (((8:Int):Int) * p8)) fun x3 =>
 chk (0≤x3) (
 lt (zsX .u64 x2 x3) fun x4 =>
 lt (ior .u64 p3 x4) fun x5 =>
 lt (IntKind.wrap .i64 ((p8:Int)+(1:Int))) fun x6 =>
 k_hbbaba x5 p6 p7 x6)) (
 k_x0 p3)
theorem zzJ {β:Type} (L:Nat) (p3:Int) (p6:List (List V)) (p7 p8:Int) (X:St→Option β) (K:KT β):yj zeR (zeQ L) 0 L zhw (ziO p3 p6 p7 p8) (zaz zlv X K)=zpQ L p3 p6 p7 p8 (fun p3 p6 p7 p8=>X (ziO p3 p6 p7 p8)) (fun p3=>K (.exit 0) (zrZ p3)):=by kernel_rfl
def zts {β:Type} (L:Nat) (p3:Int) (k_fin:Int→Option β):Option β :=
 k_fin p3
theorem zyj {β:Type} (L:Nat) (p3:Int) (k:KK β):(zx 0 (yI (yj zeR (zeQ L) 0 L zte) (zN 0 (CF.res zi8) k))) (.exit 0) (zrZ p3)=zts L p3 (fun p0=>k (V.sc (.int .u64 p0)) []):=by kernel_rfl
def ziw {β:Type} (L:Nat) (k_x0:Int→Option β):Nat→Int→List (List V)→Int→Int→Option β
 | 0,_,_,_,_=>none
 | n+1,p3,p6,p7,p8=>zpQ L p3 p6 p7 p8 (fun p3 p6 p7 p8=>ziw L k_x0 n p3 p6 p7 p8) k_x0
theorem zsQ {β:Type} (L:Nat) (K:KT β):∀ (n:Nat) (p3:Int) (p6:List (List V)) (p7 p8:Int),xy (yj zeR (zeQ L) 0 L zhw) zlv n (ziO p3 p6 p7 p8) K=ziw L (fun p3=>K (.exit 0) (zrZ p3)) n p3 p6 p7 p8:=by
 intro n
 induction n with
 | zero=>intros; rfl
 | succ n ih =>
  intro p3 p6 p7 p8
  refine (zzJ L p3 p6 p7 p8 (fun σ=>xy (yj zeR (zeQ L) 0 L zhw) zlv n σ K) K).trans ?_
  simp only [ih]
  rfl
def zt4 {β:Type} (L:Nat) (p0:List (List V)) (k_fin:Int→Option β):Option β :=
 zyp L p0 (fun p3 p6 p7 p8=>ziw L (fun p3=>zts L p3 k_fin) L p3 p6 p7 p8)
theorem zFz {β:Type} (L:Nat) (p0:List (List V)) (k:KK β):xr zeR (zeQ L) L zi8 [(V.sl 1 p0)] [] k=zt4 L p0 (fun p0=>k (V.sc (.int .u64 p0)) []):=by
 refine (zFO L p0 k).trans ?_
 unfold zt4
 first
  | (simp only [zsQ,zyj]; done)
  | (simp only [zsQ]; rfl)
abbrev zcQ:=∀ (β:Type),Nat→List (List V)→(Int→Option β)→Option β
def xz (β:Type) (L:Nat) (p0:List (List V)) (k_fin:Int→Option β):Option β:=zt4 L p0 k_fin
def zp3 (xz:zcQ) (L:Nat) (β:Type) (args:List V) (bor:Bor) (k:KK β):Option β:=match args,bor with
 | [a0],[]=>aL 1 a0 fun p0=>xz β L p0 (fun p0=>k (V.sc (.int .u64 p0)) [])
 | _,_=>none
theorem zFX (L:Nat) (β:Type) (args:List V) (bor:Bor) (k:KK β) (r:β) (h:zp3 xz L β args bor k=some r):xr zeR (zeQ L) L zi8 args bor k=some r:=by
 unfold zp3 at h
 split at h
 ·have q:=xP h; clear h; obtain ⟨p0,rfl,h⟩:=q
  exact (zFz L p0 k).trans h
 ·cases h
def ztD:CF:=⟨8,[.cell 2 true 2],
 (.seq (.reg [oo 1 (.box true (tq 0)),
   oo 2 (.alloc true [(.sc (.int .u64 0)),(.sc (.int .u64 0))])])
 (.seq (.dreg [1] [(oo 3 (.sliceA 32 1 (tq 1) none (some (.const (.sc (.int .i64 8)))) none),q1),
   (oo 4 (.call 112 [((tq 3),0)] []),q1),
   (oo 5 (.sliceA 32 1 (tq 1) (some (.const (.sc (.int .i64 8)))) (some (.const (.sc (.int .i64 16)))) none),q1),
   (oo 6 (.call 112 [((tq 5),0)] []),q0),
   (oo 7 (.build [(.sc (.int .u64 0)),(.sc (.int .u64 0))] [(0,1,(tq 4)),(1,1,(tq 6))]),q0),
   (oz (.store 2 (tq 2) (tq 7)),q0)])
 .ret))⟩
def zAh:Hint:=⟨[],[],[none],[(1,[1])],[],false,false⟩
def zyl:Nat→Sh:=zV []
def zx8 (xz:zcQ) (L:Nat):CBC:=(xA 112 (zp3 xz L) noC)
def zzY {β:Type} (xz:zcQ) (L:Nat) (p0:List V) (k_fin:List V→Option β):Option β :=
 chk ((List.length p0)≠0) (
 chk (0+32 * 1≤(List.length p0)) (
 xz β L (zp 1 8 p0) (fun v0 =>
 chk (0+32 * 1≤(List.length p0)) (
 xz β L (zp 1 8 (List.drop 8 p0)) (fun v1 =>
 lt [(V.sc (.int .u64 v0)),(V.sc (.int .u64 v1))] fun r2 =>
 chk (0=0∧(List.length r2)=2∧2≠0) (
 k_fin r2))))))
theorem zGR {β:Type} (xz:zcQ) (L:Nat) (p0:List V) (k:KK β):xr zyl (zx8 xz L) L ztD [(V.agg p0)] [] k=zzY xz L p0 (fun p0=>k (V.agg p0) []):=by kernel_rfl
abbrev zmm:=∀ (β:Type),Nat→List V→(List V→Option β)→Option β
def zak (β:Type) (L:Nat) (p0:List V) (k_fin:List V→Option β):Option β:=zzY xz L p0 k_fin
def zsR (zak:zmm) (L:Nat) (β:Type) (args:List V) (bor:Bor) (k:KK β):Option β:=match args,bor with
 | [a0],[]=>aG a0 fun p0=>zak β L p0 (fun p0=>k (V.agg p0) [])
 | _,_=>none
theorem zGp (L:Nat) (β:Type) (args:List V) (bor:Bor) (k:KK β) (r:β) (h:zsR zak L β args bor k=some r):xr zyl (zx8 xz L) L ztD args bor k=some r:=by
 unfold zsR at h
 split at h
 ·have q:=y5 h; clear h; obtain ⟨p0,rfl,h⟩:=q
  exact (zGR xz L p0 k).trans h
 ·cases h
def zeZ:CC:=(.seq (.reg [oo 11 (.bin .lss (tq 10) (tq 9))])
 (.seq (.cond (tq 11)
 .skip
 (.seq (.mask (bl 32 23) (bl 8388543 23))
 (.exit 0)))
 (.seq (.block 1 (.seq (.reg [oo 12 (.move (tq 10) false),
   oo 6 (.move (tq 12) false)])
 (.reg [oo 13 (.move (tq 5) false),
   oo 14 (.move (tq 6) false),
   oo 15 (.move (tq 0) false),
   oo 16 (.move (tq 6) false),
   oo 17 (.bin .mul (.const (.sc (.int .i64 8))) (tq 16)),
   oo 18 (.bin .shr (tq 15) (tq 17)),
   oo 19 (.conv .u8 (tq 18)),
   oo 20 (.indexAddrS 1 (tq 13) (tq 14)),
   oz (.store 1 (tq 20) (tq 19))])))
 (.reg [oo 21 (.bin .add (tq 10) (.const (.sc (.int .i64 1)))),
   oo 10 (.move (tq 21) false)]))))
def znF:CC:=(.seq (.reg [oo 22 (.move (tq 5) true),
   oo 4 (.move (tq 22) true)])
 .ret)
def zeX:CF:=⟨23,[.tmp 4],
 (.seq (.reg [oo 4 (.move (.const (.gs 1 [])) true)])
 (.seq (.reg [oo 7 (.move (tq 1) false),
   ⟨(some 8),true,none,.makeSlice 1 1 [(.sc (.int .u8 0))] (tq 7) (tq 7)⟩,
   oo 5 (.move (tq 8) true)])
 (.seq (.seq (.reg [oo 9 (.move (tq 1) false),
   oo 10 (.move (.const (.sc (.int .i64 0))) false)])
 (.block 0 (.loop (bl 1569 23) (bl 8388543 23)
 zeZ)))
 znF)))⟩
def ztr:Hint:=⟨[(0,0),(1,2),(7,0),(7,1)],[(1,1)],[none,some ((bl 1569 23),(bl 8388543 23)),none,some ((bl 32 23),(bl 8388543 23)),none,none],[],[],false,false⟩
def zcC:Nat→Sh:=zV []
def zcy (L:Nat):CBC:=noC
def zhW:St→St:=zaE 0 (bl 1569 23) (bl 8388543 23)
def zfF (p0:Int) (p5l:Nat) (p9 p10:Int) (b8:List V):St:=⟨((V.sc (.int .u64 p0))::(jn 4 ((V.own 8 0 p5l 1)::(jn 3 ((V.sc (.int .i64 p9))::((V.sc (.int .i64 p10))::(jn 12 []))))))),(gn 8 ((.live true b8)::(gn 14 [])))⟩
def zmF (p5l:Nat) (b8:List V):St:=⟨(jn 5 ((V.own 8 0 p5l 1)::(jn 17 []))),(gn 8 ((.live true b8)::(gn 14 [])))⟩
def zwJ {β:Type} (L:Nat) (p0 p1:Int) (k_hbbaba:Int→Nat→Int→Int→List V→Option β):Option β :=
 chk (0≤p1∧p1≤p1∧(Int.toNat p1) * 1≤yu∧p1≤yu∧p1=p1) (
 k_hbbaba p0 (List.length (List.replicate (Int.toNat p1) [(V.sc (.int .u8 (0:Int)))])) p1 (0:Int) (List.flatten (List.replicate (Int.toNat p1) [(V.sc (.int .u8 (0:Int)))])))
theorem zBj {β:Type} (L:Nat) (p0 p1:Int) (k:KK β):xr zcC (zcy L) L zeX [(V.sc (.int .u64 p0)),(V.sc (.int .i64 p1))] [] k=zwJ L p0 p1 (fun p0 p5l p9 p10 b8=>xy (yj zcC (zcy L) 0 L zeZ) zhW L (zfF p0 p5l p9 p10 b8) (zx 0 (yI (yj zcC (zcy L) 0 L znF) (zN 0 (CF.res zeX) k)))):=by kernel_rfl
def zro {β:Type} (L:Nat) (p0:Int) (p5l:Nat) (p9 p10:Int) (b8:List V) (k_hbbaba:Int→Nat→Int→Int→List V→Option β) (k_x0:Nat→List V→Option β):Option β :=
 ifb (decide (p10 < p9)) (
 lt (IntKind.wrap .i64 (((8:Int):Int) * p10)) fun x0 =>
 chk (0≤x0) (
 lt (zr5 .u64 p0 x0) fun x1 =>
 lt (IntKind.wrap .u8 x1) fun x2 =>
 chk (0≤p10∧p10 < ((p5l:Nat):Int)) (
 chk (1=1∧(0+((Int.toNat p10) * 1))+1≤(List.length b8)) (
 lt (yk b8 (0+((Int.toNat p10) * 1)) [(V.sc (.int .u8 x2))]) fun r3 =>
 lt (IntKind.wrap .i64 ((p10:Int)+(1:Int))) fun x4 =>
 k_hbbaba p0 p5l p9 x4 r3)))) (
 k_x0 p5l b8)
theorem zwp {β:Type} (L:Nat) (p0:Int) (p5l:Nat) (p9 p10:Int) (b8:List V) (X:St→Option β) (K:KT β):yj zcC (zcy L) 0 L zeZ (zfF p0 p5l p9 p10 b8) (zaz zhW X K)=zro L p0 p5l p9 p10 b8 (fun p0 p5l p9 p10 b8=>X (zfF p0 p5l p9 p10 b8)) (fun p5l b8=>K (.exit 0) (zmF p5l b8)):=by kernel_rfl
def zpE {β:Type} (L:Nat) (p5l:Nat) (b8:List V) (k_fin:List (List V)→Option β):Option β :=
 chk (p5l≠0∨(List.length b8)=0) (
 k_fin (zp 1 p5l b8))
theorem zvb {β:Type} (L:Nat) (p5l:Nat) (b8:List V) (k:KK β):(zx 0 (yI (yj zcC (zcy L) 0 L znF) (zN 0 (CF.res zeX) k))) (.exit 0) (zmF p5l b8)=zpE L p5l b8 (fun p0=>k (V.fr 1 p0) []):=by kernel_rfl
def zla {β:Type} (L:Nat) (k_x0:Nat→List V→Option β):Nat→Int→Nat→Int→Int→List V→Option β
 | 0,_,_,_,_,_=>none
 | n+1,p0,p5l,p9,p10,b8=>zro L p0 p5l p9 p10 b8 (fun p0 p5l p9 p10 b8=>zla L k_x0 n p0 p5l p9 p10 b8) k_x0
theorem zos {β:Type} (L:Nat) (K:KT β):∀ (n:Nat) (p0:Int) (p5l:Nat) (p9 p10:Int) (b8:List V),xy (yj zcC (zcy L) 0 L zeZ) zhW n (zfF p0 p5l p9 p10 b8) K=zla L (fun p5l b8=>K (.exit 0) (zmF p5l b8)) n p0 p5l p9 p10 b8:=by
 intro n
 induction n with
 | zero=>intros; rfl
 | succ n ih =>
  intro p0 p5l p9 p10 b8
  refine (zwp L p0 p5l p9 p10 b8 (fun σ=>xy (yj zcC (zcy L) 0 L zeZ) zhW n σ K) K).trans ?_
  simp only [ih]
  rfl
def zrI {β:Type} (L:Nat) (p0 p1:Int) (k_fin:List (List V)→Option β):Option β :=
 zwJ L p0 p1 (fun p0 p5l p9 p10 b8=>zla L (fun p5l b8=>zpE L p5l b8 k_fin) L p0 p5l p9 p10 b8)
theorem zAV {β:Type} (L:Nat) (p0 p1:Int) (k:KK β):xr zcC (zcy L) L zeX [(V.sc (.int .u64 p0)),(V.sc (.int .i64 p1))] [] k=zrI L p0 p1 (fun p0=>k (V.fr 1 p0) []):=by
 refine (zBj L p0 p1 k).trans ?_
 unfold zrI
 first
  | (simp only [zos,zvb]; done)
  | (simp only [zos]; rfl)
abbrev zfu:=∀ (β:Type),Nat→Int→Int→(List (List V)→Option β)→Option β
def yL (β:Type) (L:Nat) (p0 p1:Int) (k_fin:List (List V)→Option β):Option β:=zrI L p0 p1 k_fin
def zjI (yL:zfu) (L:Nat) (β:Type) (args:List V) (bor:Bor) (k:KK β):Option β:=match args,bor with
 | [a0,a1],[]=>aI .u64 a0 fun p0=>aI .i64 a1 fun p1=>yL β L p0 p1 (fun p0=>k (V.fr 1 p0) [])
 | _,_=>none
theorem zBd (L:Nat) (β:Type) (args:List V) (bor:Bor) (k:KK β) (r:β) (h:zjI yL L β args bor k=some r):xr zcC (zcy L) L zeX args bor k=some r:=by
 unfold zjI at h
 split at h
 ·have q:=zad h; clear h; obtain ⟨p0,rfl,h⟩:=q
  have q:=zad h; clear h; obtain ⟨p1,rfl,h⟩:=q
  exact (zAV L p0 p1 k).trans h
 ·cases h
def zlB:CF:=⟨18,[.tmp 4],
 (.seq (.reg [oo 4 (.move (.const (.gs 1 [])) true)])
 (.seq (.reg [oo 6 (.move (tq 0) false),
   oo 7 (.lenS (tq 6)),
   oo 8 (.move (tq 1) false),
   oo 9 (.lenS (tq 8)),
   oo 10 (.bin .add (tq 7) (tq 9)),
   oo 11 (.makeSlice 1 1 [(.sc (.int .u8 0))] (.const (.sc (.int .i64 0))) (tq 10)),
   oo 5 (.move (tq 11) true)])
 (.seq (.reg [oo 12 (.move (tq 5) true),
   oo 13 (.move (tq 0) false),
   oo 14 (.append 1 1 (tq 12) (tq 13)),
   oo 5 (.move (tq 14) true)])
 (.seq (.reg [oo 15 (.move (tq 5) true),
   oo 16 (.move (tq 1) false),
   oo 17 (.append 1 1 (tq 15) (tq 16)),
   oo 4 (.move (tq 17) true)])
 .ret))))⟩
def ztw:Hint:=⟨[(0,0),(1,6),(2,0),(2,3),(3,0),(3,3)],[],[none],[],[],false,false⟩
def zpL:Nat→Sh:=zV []
def zq2 (L:Nat):CBC:=noC
def zrO {β:Type} (L:Nat) (p0 p1:List (List V)) (k_fin:List (List V)→Option β):Option β :=
 lt (IntKind.wrap .i64 ((((List.length p0:Nat):Int):Int)+((List.length p1:Nat):Int))) fun x0 =>
 chk (0≤(0:Int)∧(0:Int)≤x0∧(Int.toNat x0) * 1≤yu∧x0≤yu) (
 chk ((List.length (List.replicate 0 [(V.sc (.int .u8 (0:Int)))])+List.length p0) * 1≤yu∧List.length (List.replicate 0 [(V.sc (.int .u8 (0:Int)))])+List.length p0≤yu) (
 lt ((List.replicate 0 [(V.sc (.int .u8 (0:Int)))])++p0) fun l1 =>
 chk ((List.length l1+List.length p1) * 1≤yu∧List.length l1+List.length p1≤yu) (
 lt (l1++p1) fun l2 =>
 k_fin l2)))
theorem zA7 {β:Type} (L:Nat) (p0 p1:List (List V)) (k:KK β):xr zpL (zq2 L) L zlB [(V.sl 1 p0),(V.sl 1 p1)] [] k=zrO L p0 p1 (fun p0=>k (V.gs 1 p0) []):=by kernel_rfl
abbrev zfw:=∀ (β:Type),Nat→List (List V)→List (List V)→(List (List V)→Option β)→Option β
def yK (β:Type) (L:Nat) (p0 p1:List (List V)) (k_fin:List (List V)→Option β):Option β:=zrO L p0 p1 k_fin
def zjN (yK:zfw) (L:Nat) (β:Type) (args:List V) (bor:Bor) (k:KK β):Option β:=match args,bor with
 | [a0,a1],[]=>aL 1 a0 fun p0=>aL 1 a1 fun p1=>yK β L p0 p1 (fun p0=>k (V.gs 1 p0) [])
 | _,_=>none
theorem zBt (L:Nat) (β:Type) (args:List V) (bor:Bor) (k:KK β) (r:β) (h:zjN yK L β args bor k=some r):xr zpL (zq2 L) L zlB args bor k=some r:=by
 unfold zjN at h
 split at h
 ·have q:=xP h; clear h; obtain ⟨p0,rfl,h⟩:=q
  have q:=xP h; clear h; obtain ⟨p1,rfl,h⟩:=q
  exact (zA7 L p0 p1 k).trans h
 ·cases h
def zit:CF:=⟨10,[.tmp 4],
 (.seq (.reg [oo 4 (.move (.const (.gs 1 [])) true)])
 (.seq (.reg [oo 5 (.move (tq 0) false),
   oo 6 (.move (tq 1) false),
   oo 7 (.conv .u64 (tq 6)),
   oo 8 (.call 192 [((tq 7),0),((.const (.sc (.int .i64 4))),0)] []),
   oo 9 (.call 191 [((tq 5),0),((tq 8),0)] []),
   oo 4 (.move (tq 9) true)])
 .ret))⟩
def zqu:Hint:=⟨[(0,0),(1,5)],[],[none],[],[],false,false⟩
def zmW:Nat→Sh:=zV []
def zm5 (yL:zfu) (yK:zfw) (L:Nat):CBC:=(xA 191 (zjN yK L) (xA 192 (zjI yL L) noC))
def znY {β:Type} (yL:zfu) (yK:zfw) (L:Nat) (p0:List (List V)) (p1:Int) (k_fin:List (List V)→Option β):Option β :=
 lt (IntKind.wrap .u64 p1) fun x0 =>
 yL β L x0 (4:Int) (fun v1 =>
 yK β L p0 v1 (fun v2 =>
 k_fin v2))
theorem zyf {β:Type} (yL:zfu) (yK:zfw) (L:Nat) (p0:List (List V)) (p1:Int) (k:KK β):xr zmW (zm5 yL yK L) L zit [(V.sl 1 p0),(V.sc (.int .u32 p1))] [] k=znY yL yK L p0 p1 (fun p0=>k (V.gs 1 p0) []):=by kernel_rfl
abbrev zdW:=∀ (β:Type),Nat→List (List V)→Int→(List (List V)→Option β)→Option β
def yB (β:Type) (L:Nat) (p0:List (List V)) (p1:Int) (k_fin:List (List V)→Option β):Option β:=znY yL yK L p0 p1 k_fin
def zgK (yB:zdW) (L:Nat) (β:Type) (args:List V) (bor:Bor) (k:KK β):Option β:=match args,bor with
 | [a0,a1],[]=>aL 1 a0 fun p0=>aI .u32 a1 fun p1=>yB β L p0 p1 (fun p0=>k (V.gs 1 p0) [])
 | _,_=>none
theorem zyy (L:Nat) (β:Type) (args:List V) (bor:Bor) (k:KK β) (r:β) (h:zgK yB L β args bor k=some r):xr zmW (zm5 yL yK L) L zit args bor k=some r:=by
 unfold zgK at h
 split at h
 ·have q:=xP h; clear h; obtain ⟨p0,rfl,h⟩:=q
  have q:=zad h; clear h; obtain ⟨p1,rfl,h⟩:=q
  exact (zyf yL yK L p0 p1 k).trans h
 ·cases h
def zeK:CF:=⟨17,[.tmp 4],
 (.seq (.reg [oo 4 (.move (.const (.sc (.int .u64 0))) false)])
 (.seq (.reg [oo 6 (.move (tq 1) false),
   oo 7 (.conv .u64 (tq 6)),
   oo 8 (.bin .and (tq 7) (.const (.sc (.int .u64 63)))),
   oo 5 (.move (tq 8) false)])
 (.seq (.reg [oo 9 (.move (tq 0) false),
   oo 10 (.move (tq 5) false),
   oo 11 (.bin .shl (tq 9) (tq 10)),
   oo 12 (.move (tq 0) false),
   oo 13 (.move (tq 5) false),
   oo 14 (.bin .sub (.const (.sc (.int .u64 64))) (tq 13)),
   oo 15 (.bin .shr (tq 12) (tq 14)),
   oo 16 (.bin .or (tq 11) (tq 15)),
   oo 4 (.move (tq 16) false)])
 .ret)))⟩
def zj5:Hint:=⟨[],[],[none],[],[],false,false⟩
def zhf:Nat→Sh:=zV []
def zg7 (L:Nat):CBC:=noC
def zm6 {β:Type} (L:Nat) (p0 p1:Int) (k_fin:Int→Option β):Option β :=
 lt (IntKind.wrap .u64 p1) fun x0 =>
 lt (zKk .u64 x0 (63:Int)) fun x1 =>
 chk (0≤x1) (
 lt (zsX .u64 p0 x1) fun x2 =>
 lt (IntKind.wrap .u64 (((64:Int):Int) - x1)) fun x3 =>
 chk (0≤x3) (
 lt (zr5 .u64 p0 x3) fun x4 =>
 lt (ior .u64 x2 x4) fun x5 =>
 k_fin x5))
theorem zsK {β:Type} (L:Nat) (p0 p1:Int) (k:KK β):xr zhf (zg7 L) L zeK [(V.sc (.int .u64 p0)),(V.sc (.int .i64 p1))] [] k=zm6 L p0 p1 (fun p0=>k (V.sc (.int .u64 p0)) []):=by kernel_rfl
abbrev yN:=∀ (β:Type),Nat→Int→Int→(Int→Option β)→Option β
def xe (β:Type) (L:Nat) (p0 p1:Int) (k_fin:Int→Option β):Option β:=zm6 L p0 p1 k_fin
def zdv (xe:yN) (L:Nat) (β:Type) (args:List V) (bor:Bor) (k:KK β):Option β:=match args,bor with
 | [a0,a1],[]=>aI .u64 a0 fun p0=>aI .i64 a1 fun p1=>xe β L p0 p1 (fun p0=>k (V.sc (.int .u64 p0)) [])
 | _,_=>none
theorem zsJ (L:Nat) (β:Type) (args:List V) (bor:Bor) (k:KK β) (r:β) (h:zdv xe L β args bor k=some r):xr zhf (zg7 L) L zeK args bor k=some r:=by
 unfold zdv at h
 split at h
 ·have q:=zad h; clear h; obtain ⟨p0,rfl,h⟩:=q
  have q:=zad h; clear h; obtain ⟨p1,rfl,h⟩:=q
  exact (zsK L p0 p1 k).trans h
 ·cases h
def zgW:CC:=(.seq (.reg [oo 7 (.bin .lss (tq 6) (tq 5))])
 (.seq (.cond (tq 7)
 .skip
 (.seq (.mask (bl 20 82) (bl 4533176671146011638300671 82))
 (.exit 0)))
 (.seq (.block 1 (.seq (.reg [oo 8 (.indexAddrA 4 1 (tq 2) (.const (.sc (.int .i64 0)))),
   oo 9 (.load false 1 (tq 8) false),
   oo 10 (.indexAddrA 4 1 (tq 2) (.const (.sc (.int .i64 1)))),
   oo 11 (.load false 1 (tq 10) false),
   oo 12 (.bin .add (tq 9) (tq 11)),
   oo 13 (.indexAddrA 4 1 (tq 2) (.const (.sc (.int .i64 0)))),
   oz (.store 1 (tq 13) (tq 12))])
 (.seq (.reg [oo 14 (.indexAddrA 4 1 (tq 2) (.const (.sc (.int .i64 1)))),
   oo 15 (.load false 1 (tq 14) false),
   oo 16 (.call 118 [((tq 15),0),((.const (.sc (.int .i64 13))),0)] []),
   oo 17 (.indexAddrA 4 1 (tq 2) (.const (.sc (.int .i64 1)))),
   oz (.store 1 (tq 17) (tq 16))])
 (.seq (.reg [oo 18 (.indexAddrA 4 1 (tq 2) (.const (.sc (.int .i64 1)))),
   oo 19 (.load false 1 (tq 18) false),
   oo 20 (.indexAddrA 4 1 (tq 2) (.const (.sc (.int .i64 0)))),
   oo 21 (.load false 1 (tq 20) false),
   oo 22 (.bin .xor (tq 19) (tq 21)),
   oo 23 (.indexAddrA 4 1 (tq 2) (.const (.sc (.int .i64 1)))),
   oz (.store 1 (tq 23) (tq 22))])
 (.seq (.reg [oo 24 (.indexAddrA 4 1 (tq 2) (.const (.sc (.int .i64 0)))),
   oo 25 (.load false 1 (tq 24) false),
   oo 26 (.call 118 [((tq 25),0),((.const (.sc (.int .i64 32))),0)] []),
   oo 27 (.indexAddrA 4 1 (tq 2) (.const (.sc (.int .i64 0)))),
   oz (.store 1 (tq 27) (tq 26))])
 (.seq (.reg [oo 28 (.indexAddrA 4 1 (tq 2) (.const (.sc (.int .i64 2)))),
   oo 29 (.load false 1 (tq 28) false),
   oo 30 (.indexAddrA 4 1 (tq 2) (.const (.sc (.int .i64 3)))),
   oo 31 (.load false 1 (tq 30) false),
   oo 32 (.bin .add (tq 29) (tq 31)),
   oo 33 (.indexAddrA 4 1 (tq 2) (.const (.sc (.int .i64 2)))),
   oz (.store 1 (tq 33) (tq 32))])
 (.seq (.reg [oo 34 (.indexAddrA 4 1 (tq 2) (.const (.sc (.int .i64 3)))),
   oo 35 (.load false 1 (tq 34) false),
   oo 36 (.call 118 [((tq 35),0),((.const (.sc (.int .i64 16))),0)] []),
   oo 37 (.indexAddrA 4 1 (tq 2) (.const (.sc (.int .i64 3)))),
   oz (.store 1 (tq 37) (tq 36))])
 (.seq (.reg [oo 38 (.indexAddrA 4 1 (tq 2) (.const (.sc (.int .i64 3)))),
   oo 39 (.load false 1 (tq 38) false),
   oo 40 (.indexAddrA 4 1 (tq 2) (.const (.sc (.int .i64 2)))),
   oo 41 (.load false 1 (tq 40) false),
   oo 42 (.bin .xor (tq 39) (tq 41)),
   oo 43 (.indexAddrA 4 1 (tq 2) (.const (.sc (.int .i64 3)))),
   oz (.store 1 (tq 43) (tq 42))])
 (.seq (.reg [oo 44 (.indexAddrA 4 1 (tq 2) (.const (.sc (.int .i64 0)))),
   oo 45 (.load false 1 (tq 44) false),
   oo 46 (.indexAddrA 4 1 (tq 2) (.const (.sc (.int .i64 3)))),
   oo 47 (.load false 1 (tq 46) false),
   oo 48 (.bin .add (tq 45) (tq 47)),
   oo 49 (.indexAddrA 4 1 (tq 2) (.const (.sc (.int .i64 0)))),
   oz (.store 1 (tq 49) (tq 48))])
 (.seq (.reg [oo 50 (.indexAddrA 4 1 (tq 2) (.const (.sc (.int .i64 3)))),
   oo 51 (.load false 1 (tq 50) false),
   oo 52 (.call 118 [((tq 51),0),((.const (.sc (.int .i64 21))),0)] []),
   oo 53 (.indexAddrA 4 1 (tq 2) (.const (.sc (.int .i64 3)))),
   oz (.store 1 (tq 53) (tq 52))])
 (.seq (.reg [oo 54 (.indexAddrA 4 1 (tq 2) (.const (.sc (.int .i64 3)))),
   oo 55 (.load false 1 (tq 54) false),
   oo 56 (.indexAddrA 4 1 (tq 2) (.const (.sc (.int .i64 0)))),
   oo 57 (.load false 1 (tq 56) false),
   oo 58 (.bin .xor (tq 55) (tq 57)),
   oo 59 (.indexAddrA 4 1 (tq 2) (.const (.sc (.int .i64 3)))),
   oz (.store 1 (tq 59) (tq 58))])
 (.seq (.reg [oo 60 (.indexAddrA 4 1 (tq 2) (.const (.sc (.int .i64 2)))),
   oo 61 (.load false 1 (tq 60) false),
   oo 62 (.indexAddrA 4 1 (tq 2) (.const (.sc (.int .i64 1)))),
   oo 63 (.load false 1 (tq 62) false),
   oo 64 (.bin .add (tq 61) (tq 63)),
   oo 65 (.indexAddrA 4 1 (tq 2) (.const (.sc (.int .i64 2)))),
   oz (.store 1 (tq 65) (tq 64))])
 (.seq (.reg [oo 66 (.indexAddrA 4 1 (tq 2) (.const (.sc (.int .i64 1)))),
   oo 67 (.load false 1 (tq 66) false),
   oo 68 (.call 118 [((tq 67),0),((.const (.sc (.int .i64 17))),0)] []),
   oo 69 (.indexAddrA 4 1 (tq 2) (.const (.sc (.int .i64 1)))),
   oz (.store 1 (tq 69) (tq 68))])
 (.seq (.reg [oo 70 (.indexAddrA 4 1 (tq 2) (.const (.sc (.int .i64 1)))),
   oo 71 (.load false 1 (tq 70) false),
   oo 72 (.indexAddrA 4 1 (tq 2) (.const (.sc (.int .i64 2)))),
   oo 73 (.load false 1 (tq 72) false),
   oo 74 (.bin .xor (tq 71) (tq 73)),
   oo 75 (.indexAddrA 4 1 (tq 2) (.const (.sc (.int .i64 1)))),
   oz (.store 1 (tq 75) (tq 74))])
 (.reg [oo 76 (.indexAddrA 4 1 (tq 2) (.const (.sc (.int .i64 2)))),
   oo 77 (.load false 1 (tq 76) false),
   oo 78 (.call 118 [((tq 77),0),((.const (.sc (.int .i64 32))),0)] []),
   oo 79 (.indexAddrA 4 1 (tq 2) (.const (.sc (.int .i64 2)))),
   oz (.store 1 (tq 79) (tq 78))])))))))))))))))
 (.reg [oo 80 (.bin .add (tq 6) (.const (.sc (.int .i64 1)))),
   oo 6 (.move (tq 80) false)]))))
def zrD:CC:=(.seq (.reg [oo 81 (.load true 4 (tq 2) false),
   oz (.store 4 (tq 4) (tq 81))])
 .ret)
def zgx:CF:=⟨82,[.cell 4 true 4],
 (.seq (.reg [oo 2 (.box true (tq 0)),
   oo 4 (.alloc true [(.sc (.int .u64 0)),(.sc (.int .u64 0)),(.sc (.int .u64 0)),(.sc (.int .u64 0))])])
 (.seq (.seq (.reg [oo 5 (.move (tq 1) false),
   oo 6 (.move (.const (.sc (.int .i64 0))) false)])
 (.block 0 (.loop (bl 116 82) (bl 4533176671146011638300671 82)
 zgW)))
 zrD))⟩
def zvX:Hint:=⟨[],[],[none,some ((bl 116 82),(bl 4533176671146011638300671 82)),none,some ((bl 20 82),(bl 4533176671146011638300671 82)),none,none],[],[],false,false⟩
def zdz:Nat→Sh:=zV [(9,(.int .u64)),(11,(.int .u64)),(15,(.int .u64)),(19,(.int .u64)),(21,(.int .u64)),(25,(.int .u64)),(29,(.int .u64)),(31,(.int .u64)),(35,(.int .u64)),(39,(.int .u64)),(41,(.int .u64)),(45,(.int .u64)),(47,(.int .u64)),(51,(.int .u64)),(55,(.int .u64)),(57,(.int .u64)),(61,(.int .u64)),(63,(.int .u64)),(67,(.int .u64)),(71,(.int .u64)),(73,(.int .u64)),(77,(.int .u64))]
def zdC (xe:yN) (L:Nat):CBC:=(xA 118 (zdv xe L) noC)
def zkR:St→St:=zaE 0 (bl 116 82) (bl 4533176671146011638300671 82)
def zhP (p5 p6:Int) (b2:List V) (zOz zOA zOB zOC:Int):St:=⟨(jn 2 ((V.ptr 2 0)::(jn 1 ((V.ptr 4 0)::((V.sc (.int .i64 p5))::((V.sc (.int .i64 p6))::(jn 75 []))))))),(gn 2 ((.live true b2)::(gn 1 ((.live true [(V.sc (.int .u64 zOz)),(V.sc (.int .u64 zOA)),(V.sc (.int .u64 zOB)),(V.sc (.int .u64 zOC))])::(gn 77 [])))))⟩
def zo8 (b2:List V) (zOz zOA zOB zOC:Int):St:=⟨(jn 2 ((V.ptr 2 0)::(jn 1 ((V.ptr 4 0)::(jn 77 []))))),(gn 2 ((.live true b2)::(gn 1 ((.live true [(V.sc (.int .u64 zOz)),(V.sc (.int .u64 zOA)),(V.sc (.int .u64 zOB)),(V.sc (.int .u64 zOC))])::(gn 77 [])))))⟩
def zuR {β:Type} (xe:yN) (L:Nat) (p0:List V) (p1:Int) (k_hbaba:Int→Int→List V→Int→Int→Int→Int→Option β):Option β :=
 k_hbaba p1 (0:Int) p0 (0:Int) (0:Int) (0:Int) (0:Int)
theorem zDh {β:Type} (xe:yN) (L:Nat) (p0:List V) (p1:Int) (k:KK β):xr zdz (zdC xe L) L zgx [(V.agg p0),(V.sc (.int .i64 p1))] [] k=zuR xe L p0 p1 (fun p5 p6 b2 zOz zOA zOB zOC=>xy (yj zdz (zdC xe L) 0 L zgW) zkR L (zhP p5 p6 b2 zOz zOA zOB zOC) (zx 0 (yI (yj zdz (zdC xe L) 0 L zrD) (zN 0 (CF.res zgx) k)))):=by kernel_rfl
def zhI {β:Type} (xe:yN) (L:Nat) (p5 p6:Int) (b2:List V) (zOz zOA zOB zOC:Int) (k_hbaba:Int→Int→List V→Int→Int→Int→Int→Option β) (k_x0:List V→Int→Int→Int→Int→Option β):Option β :=
 ifb (decide (p6 < p5)) (
 cI .u64 b2 0 fun v0 =>
 cI .u64 b2 1 fun v1 =>
 lt (IntKind.wrap .u64 ((v0:Int)+v1)) fun x2 =>
 chk (1=1∧0+1≤(List.length b2)) (
 lt (yk b2 0 [(V.sc (.int .u64 x2))]) fun r3 =>
 cI .u64 r3 1 fun v4 =>
 xe β L v4 (13:Int) (fun v5 =>
 chk (1=1∧1+1≤(List.length r3)) (
 lt (yk r3 1 [(V.sc (.int .u64 v5))]) fun r6 =>
 cI .u64 r6 1 fun v7 =>
 cI .u64 r6 0 fun v8 =>
 lt (zbI .u64 v7 v8) fun x9 =>
 chk (1=1∧1+1≤(List.length r6)) (
 lt (yk r6 1 [(V.sc (.int .u64 x9))]) fun r10 =>
 cI .u64 r10 0 fun v11 =>
 xe β L v11 (32:Int) (fun v12 =>
 chk (1=1∧0+1≤(List.length r10)) (
 lt (yk r10 0 [(V.sc (.int .u64 v12))]) fun r13 =>
 cI .u64 r13 2 fun v14 =>
 cI .u64 r13 3 fun v15 =>
 lt (IntKind.wrap .u64 ((v14:Int)+v15)) fun x16 =>
 chk (1=1∧2+1≤(List.length r13)) (
 lt (yk r13 2 [(V.sc (.int .u64 x16))]) fun r17 =>
 cI .u64 r17 3 fun v18 =>
 xe β L v18 (16:Int) (fun v19 =>
 chk (1=1∧3+1≤(List.length r17)) (
 lt (yk r17 3 [(V.sc (.int .u64 v19))]) fun r20 =>
 cI .u64 r20 3 fun v21 =>
 cI .u64 r20 2 fun v22 =>
 lt (zbI .u64 v21 v22) fun x23 =>
 chk (1=1∧3+1≤(List.length r20)) (
 lt (yk r20 3 [(V.sc (.int .u64 x23))]) fun r24 =>
 cI .u64 r24 0 fun v25 =>
 cI .u64 r24 3 fun v26 =>
 lt (IntKind.wrap .u64 ((v25:Int)+v26)) fun x27 =>
 chk (1=1∧0+1≤(List.length r24)) (
 lt (yk r24 0 [(V.sc (.int .u64 x27))]) fun r28 =>
 cI .u64 r28 3 fun v29 =>
 xe β L v29 (21:Int) (fun v30 =>
 chk (1=1∧3+1≤(List.length r28)) (
 lt (yk r28 3 [(V.sc (.int .u64 v30))]) fun r31 =>
 cI .u64 r31 3 fun v32 =>
 cI .u64 r31 0 fun v33 =>
 lt (zbI .u64 v32 v33) fun x34 =>
 chk (1=1∧3+1≤(List.length r31)) (
 lt (yk r31 3 [(V.sc (.int .u64 x34))]) fun r35 =>
 cI .u64 r35 2 fun v36 =>
 cI .u64 r35 1 fun v37 =>
 lt (IntKind.wrap .u64 ((v36:Int)+v37)) fun x38 =>
 chk (1=1∧2+1≤(List.length r35)) (
 lt (yk r35 2 [(V.sc (.int .u64 x38))]) fun r39 =>
 cI .u64 r39 1 fun v40 =>
 xe β L v40 (17:Int) (fun v41 =>
 chk (1=1∧1+1≤(List.length r39)) (
 lt (yk r39 1 [(V.sc (.int .u64 v41))]) fun r42 =>
 cI .u64 r42 1 fun v43 =>
 cI .u64 r42 2 fun v44 =>
 lt (zbI .u64 v43 v44) fun x45 =>
 chk (1=1∧1+1≤(List.length r42)) (
 lt (yk r42 1 [(V.sc (.int .u64 x45))]) fun r46 =>
 cI .u64 r46 2 fun v47 =>
 xe β L v47 (32:Int) (fun v48 =>
 chk (1=1∧2+1≤(List.length r46)) (
 lt (yk r46 2 [(V.sc (.int .u64 v48))]) fun r49 =>
 lt (IntKind.wrap .i64 ((p6:Int)+(1:Int))) fun x50 =>
 k_hbaba p5 x50 r49 zOz zOA zOB zOC))))))))))))))))))))) (
 k_x0 b2 zOz zOA zOB zOC)
theorem zy5 {β:Type} (xe:yN) (L:Nat) (p5 p6:Int) (b2:List V) (zOz zOA zOB zOC:Int) (X:St→Option β) (K:KT β):yj zdz (zdC xe L) 0 L zgW (zhP p5 p6 b2 zOz zOA zOB zOC) (zaz zkR X K)=zhI xe L p5 p6 b2 zOz zOA zOB zOC (fun p5 p6 b2 zOz zOA zOB zOC=>X (zhP p5 p6 b2 zOz zOA zOB zOC)) (fun b2 zOz zOA zOB zOC=>K (.exit 0) (zo8 b2 zOz zOA zOB zOC)):=by kernel_rfl
def zmh {β:Type} (xe:yN) (L:Nat) (b2:List V) (zOz zOA zOB zOC:Int) (k_fin:List V→Option β):Option β :=
 chk (0+4≤(List.length b2)) (
 chk ((List.length (List.take 4 b2))=4∧0+4≤4) (
 lt (yk [(V.sc (.int .u64 zOz)),(V.sc (.int .u64 zOA)),(V.sc (.int .u64 zOB)),(V.sc (.int .u64 zOC))] 0 (List.take 4 b2)) fun r51 =>
 chk (0=0∧(List.length r51)=4∧4≠0) (
 k_fin r51)))
theorem zw8 {β:Type} (xe:yN) (L:Nat) (b2:List V) (zOz zOA zOB zOC:Int) (k:KK β):(zx 0 (yI (yj zdz (zdC xe L) 0 L zrD) (zN 0 (CF.res zgx) k))) (.exit 0) (zo8 b2 zOz zOA zOB zOC)=zmh xe L b2 zOz zOA zOB zOC (fun p0=>k (V.agg p0) []):=by kernel_rfl
def zhE {β:Type} (xe:yN) (L:Nat) (k_x0:List V→Int→Int→Int→Int→Option β):Nat→Int→Int→List V→Int→Int→Int→Int→Option β
 | 0,_,_,_,_,_,_,_=>none
 | n+1,p5,p6,b2,zOz,zOA,zOB,zOC=>zhI xe L p5 p6 b2 zOz zOA zOB zOC (fun p5 p6 b2 zOz zOA zOB zOC=>zhE xe L k_x0 n p5 p6 b2 zOz zOA zOB zOC) k_x0
theorem zrd {β:Type} (xe:yN) (L:Nat) (K:KT β):∀ (n:Nat) (p5 p6:Int) (b2:List V) (zOz zOA zOB zOC:Int),xy (yj zdz (zdC xe L) 0 L zgW) zkR n (zhP p5 p6 b2 zOz zOA zOB zOC) K=zhE xe L (fun b2 zOz zOA zOB zOC=>K (.exit 0) (zo8 b2 zOz zOA zOB zOC)) n p5 p6 b2 zOz zOA zOB zOC:=by
 intro n
 induction n with
 | zero=>intros; rfl
 | succ n ih =>
  intro p5 p6 b2 zOz zOA zOB zOC
  refine (zy5 xe L p5 p6 b2 zOz zOA zOB zOC (fun σ=>xy (yj zdz (zdC xe L) 0 L zgW) zkR n σ K) K).trans ?_
  simp only [ih]
  rfl
def zpT {β:Type} (xe:yN) (L:Nat) (p0:List V) (p1:Int) (k_fin:List V→Option β):Option β :=
 zuR xe L p0 p1 (fun p5 p6 b2 zOz zOA zOB zOC=>zhE xe L (fun b2 zOz zOA zOB zOC=>zmh xe L b2 zOz zOA zOB zOC k_fin) L p5 p6 b2 zOz zOA zOB zOC)
theorem zCX {β:Type} (xe:yN) (L:Nat) (p0:List V) (p1:Int) (k:KK β):xr zdz (zdC xe L) L zgx [(V.agg p0),(V.sc (.int .i64 p1))] [] k=zpT xe L p0 p1 (fun p0=>k (V.agg p0) []):=by
 refine (zDh xe L p0 p1 k).trans ?_
 unfold zpT
 first
  | (simp only [zrd,zw8]; done)
  | (simp only [zrd]; rfl)
abbrev zbB:=∀ (β:Type),Nat→List V→Int→(List V→Option β)→Option β
def xv (β:Type) (L:Nat) (p0:List V) (p1:Int) (k_fin:List V→Option β):Option β:=zpT xe L p0 p1 k_fin
def zmb (xv:zbB) (L:Nat) (β:Type) (args:List V) (bor:Bor) (k:KK β):Option β:=match args,bor with
 | [a0,a1],[]=>aG a0 fun p0=>aI .i64 a1 fun p1=>xv β L p0 p1 (fun p0=>k (V.agg p0) [])
 | _,_=>none
theorem zD2 (L:Nat) (β:Type) (args:List V) (bor:Bor) (k:KK β) (r:β) (h:zmb xv L β args bor k=some r):xr zdz (zdC xe L) L zgx args bor k=some r:=by
 unfold zmb at h
 split at h
 ·have q:=y5 h; clear h; obtain ⟨p0,rfl,h⟩:=q
  have q:=zad h; clear h; obtain ⟨p1,rfl,h⟩:=q
  exact (zCX xe L p0 p1 k).trans h
 ·cases h
def zoB:CF:=⟨18,[.cell 4 true 4],
 (.seq (.reg [oo 2 (.box true (tq 0)),
   oo 4 (.alloc true [(.sc (.int .u64 0)),(.sc (.int .u64 0)),(.sc (.int .u64 0)),(.sc (.int .u64 0))])])
 (.seq (.reg [oo 5 (.indexAddrA 4 1 (tq 2) (.const (.sc (.int .i64 3)))),
   oo 6 (.load false 1 (tq 5) false),
   oo 7 (.move (tq 1) false),
   oo 8 (.bin .xor (tq 6) (tq 7)),
   oo 9 (.indexAddrA 4 1 (tq 2) (.const (.sc (.int .i64 3)))),
   oz (.store 1 (tq 9) (tq 8))])
 (.seq (.reg [oo 10 (.load true 4 (tq 2) false),
   oo 11 (.call 113 [((tq 10),0),((.const (.sc (.int .i64 2))),0)] []),
   oz (.store 4 (tq 2) (tq 11))])
 (.seq (.reg [oo 12 (.indexAddrA 4 1 (tq 2) (.const (.sc (.int .i64 0)))),
   oo 13 (.load false 1 (tq 12) false),
   oo 14 (.move (tq 1) false),
   oo 15 (.bin .xor (tq 13) (tq 14)),
   oo 16 (.indexAddrA 4 1 (tq 2) (.const (.sc (.int .i64 0)))),
   oz (.store 1 (tq 16) (tq 15))])
 (.seq (.reg [oo 17 (.load true 4 (tq 2) false),
   oz (.store 4 (tq 4) (tq 17))])
 .ret)))))⟩
def zvT:Hint:=⟨[],[],[none],[],[],false,false⟩
def zsW:Nat→Sh:=zV [(6,(.int .u64)),(13,(.int .u64))]
def ztc (xv:zbB) (L:Nat):CBC:=(xA 113 (zmb xv L) noC)
def zuQ {β:Type} (xv:zbB) (L:Nat) (p0:List V) (p1:Int) (k_fin:List V→Option β):Option β :=
 cI .u64 p0 3 fun v0 =>
 lt (zbI .u64 v0 p1) fun x1 =>
 chk (1=1∧3+1≤(List.length p0)) (
 lt (yk p0 3 [(V.sc (.int .u64 x1))]) fun r2 =>
 chk (0+4≤(List.length r2)) (
 xv β L (List.take 4 r2) (2:Int) (fun v3 =>
 chk ((List.length v3)=4∧0+4≤(List.length r2)) (
 lt (yk r2 0 v3) fun r4 =>
 cI .u64 r4 0 fun v5 =>
 lt (zbI .u64 v5 p1) fun x6 =>
 chk (1=1∧0+1≤(List.length r4)) (
 lt (yk r4 0 [(V.sc (.int .u64 x6))]) fun r7 =>
 chk (0+4≤(List.length r7)) (
 chk ((List.length (List.take 4 r7))=4∧0+4≤4) (
 lt (yk [(V.sc (.int .u64 (0:Int))),(V.sc (.int .u64 (0:Int))),(V.sc (.int .u64 (0:Int))),(V.sc (.int .u64 (0:Int)))] 0 (List.take 4 r7)) fun r8 =>
 chk (0=0∧(List.length r8)=4∧4≠0) (
 k_fin r8))))))))
theorem zDu {β:Type} (xv:zbB) (L:Nat) (p0:List V) (p1:Int) (k:KK β):xr zsW (ztc xv L) L zoB [(V.agg p0),(V.sc (.int .u64 p1))] [] k=zuQ xv L p0 p1 (fun p0=>k (V.agg p0) []):=by kernel_rfl
abbrev zcS:=∀ (β:Type),Nat→List V→Int→(List V→Option β)→Option β
def xB (β:Type) (L:Nat) (p0:List V) (p1:Int) (k_fin:List V→Option β):Option β:=zuQ xv L p0 p1 k_fin
def zqX (xB:zcS) (L:Nat) (β:Type) (args:List V) (bor:Bor) (k:KK β):Option β:=match args,bor with
 | [a0,a1],[]=>aG a0 fun p0=>aI .u64 a1 fun p1=>xB β L p0 p1 (fun p0=>k (V.agg p0) [])
 | _,_=>none
theorem zDG (L:Nat) (β:Type) (args:List V) (bor:Bor) (k:KK β) (r:β) (h:zqX xB L β args bor k=some r):xr zsW (ztc xv L) L zoB args bor k=some r:=by
 unfold zqX at h
 split at h
 ·have q:=y5 h; clear h; obtain ⟨p0,rfl,h⟩:=q
  have q:=zad h; clear h; obtain ⟨p1,rfl,h⟩:=q
  exact (zDu xv L p0 p1 k).trans h
 ·cases h
def zhu:CC:=(.seq (.reg [oo 26 (.bin .lss (tq 25) (tq 24))])
 (.seq (.cond (tq 26)
 .skip
 (.seq (.mask (bl 98 69) (bl 590295810152547221371 69))
 (.exit 0)))
 (.seq (.block 1 (.seq (.reg [oo 27 (.move (tq 25) false),
   oo 7 (.move (tq 27) false)])
 (.dreg [] [(oo 28 (.load true 4 (tq 5) false),ql 5 [] []),
   (oo 29 (.move (tq 1) false),q0),
   (oo 30 (.move (tq 7) false),q0),
   (oo 31 (.bin .mul (.const (.sc (.int .i64 8))) (tq 30)),q0),
   (oo 32 (.move (tq 7) false),q0),
   (oo 33 (.bin .mul (.const (.sc (.int .i64 8))) (tq 32)),q0),
   (oo 34 (.bin .add (tq 33) (.const (.sc (.int .i64 8)))),q0),
   (oo 35 (.sliceS 1 (tq 29) (some (tq 31)) (some (tq 34)) none),q0),
   (oo 36 (.call 112 [((tq 35),0)] []),qc [5] []),
   (oo 37 (.call 111 [((tq 28),0),((tq 36),0)] []),q0),
   (oz (.store 4 (tq 5) (tq 37)),q0)])))
 (.reg [oo 38 (.bin .add (tq 25) (.const (.sc (.int .i64 1)))),
   oo 25 (.move (tq 38) false)]))))
def zs3:CC:=(.seq (.dreg [] [(oo 39 (.load true 4 (tq 5) false),ql 5 [] []),
   (oo 40 (.move (tq 1) false),q0),
   (oo 41 (.move (tq 6) false),q0),
   (oo 42 (.bin .mul (.const (.sc (.int .i64 8))) (tq 41)),q0),
   (oo 43 (.sliceS 1 (tq 40) (some (tq 42)) none none),q0),
   (oo 44 (.call 112 [((tq 43),0)] []),qc [5] []),
   (oo 45 (.move (tq 1) false),q0),
   (oo 46 (.lenS (tq 45)),q0),
   (oo 47 (.bin .rem (tq 46) (.const (.sc (.int .i64 256)))),q0),
   (oo 48 (.conv .u64 (tq 47)),q0),
   (oo 49 (.bin .shl (tq 48) (.const (.sc (.int .u64 56)))),q0),
   (oo 50 (.bin .or (tq 44) (tq 49)),q0),
   (oo 51 (.call 111 [((tq 39),0),((tq 50),0)] []),q0),
   (oz (.store 4 (tq 5) (tq 51)),q0)])
 (.seq (.reg [oo 52 (.indexAddrA 4 1 (tq 5) (.const (.sc (.int .i64 2)))),
   oo 53 (.load false 1 (tq 52) false),
   oo 54 (.bin .xor (tq 53) (.const (.sc (.int .u64 255)))),
   oo 55 (.indexAddrA 4 1 (tq 5) (.const (.sc (.int .i64 2)))),
   oz (.store 1 (tq 55) (tq 54))])
 (.seq (.reg [oo 56 (.load true 4 (tq 5) false),
   oo 57 (.call 113 [((tq 56),0),((.const (.sc (.int .i64 4))),0)] []),
   oz (.store 4 (tq 5) (tq 57))])
 (.seq (.reg [oo 58 (.indexAddrA 4 1 (tq 5) (.const (.sc (.int .i64 0)))),
   oo 59 (.load false 1 (tq 58) false),
   oo 60 (.indexAddrA 4 1 (tq 5) (.const (.sc (.int .i64 1)))),
   oo 61 (.load false 1 (tq 60) false),
   oo 62 (.bin .xor (tq 59) (tq 61)),
   oo 63 (.indexAddrA 4 1 (tq 5) (.const (.sc (.int .i64 2)))),
   oo 64 (.load false 1 (tq 63) false),
   oo 65 (.bin .xor (tq 62) (tq 64)),
   oo 66 (.indexAddrA 4 1 (tq 5) (.const (.sc (.int .i64 3)))),
   oo 67 (.load false 1 (tq 66) false),
   oo 68 (.bin .xor (tq 65) (tq 67)),
   oo 4 (.move (tq 68) false)])
 .ret))))
def zkr:CF:=⟨69,[.tmp 4],
 (.seq (.reg [oo 2 (.box true (tq 0)),
   oo 4 (.move (.const (.sc (.int .u64 0))) false)])
 (.seq (.reg [oo 8 (.indexAddrA 2 1 (tq 2) (.const (.sc (.int .i64 0)))),
   oo 9 (.load false 1 (tq 8) false),
   oo 10 (.bin .xor (tq 9) (.const (.sc (.int .u64 8317987319222330741)))),
   oo 11 (.indexAddrA 2 1 (tq 2) (.const (.sc (.int .i64 1)))),
   oo 12 (.load false 1 (tq 11) false),
   oo 13 (.bin .xor (tq 12) (.const (.sc (.int .u64 7237128888997146477)))),
   oo 14 (.indexAddrA 2 1 (tq 2) (.const (.sc (.int .i64 0)))),
   oo 15 (.load false 1 (tq 14) false),
   oo 16 (.bin .xor (tq 15) (.const (.sc (.int .u64 7816392313619706465)))),
   oo 17 (.indexAddrA 2 1 (tq 2) (.const (.sc (.int .i64 1)))),
   oo 18 (.load false 1 (tq 17) false),
   oo 19 (.bin .xor (tq 18) (.const (.sc (.int .u64 8387220255154660723)))),
   oo 20 (.build [(.sc (.int .u64 0)),(.sc (.int .u64 0)),(.sc (.int .u64 0)),(.sc (.int .u64 0))] [(0,1,(tq 10)),(1,1,(tq 13)),(2,1,(tq 16)),(3,1,(tq 19))]),
   oo 5 (.alloc true [(.sc (.int .u64 0)),(.sc (.int .u64 0)),(.sc (.int .u64 0)),(.sc (.int .u64 0))]),
   oz (.store 4 (tq 5) (tq 20))])
 (.seq (.reg [oo 21 (.move (tq 1) false),
   oo 22 (.lenS (tq 21)),
   oo 23 (.bin .quo (tq 22) (.const (.sc (.int .i64 8)))),
   oo 6 (.move (tq 23) false)])
 (.seq (.seq (.reg [oo 24 (.move (tq 6) false),
   oo 25 (.move (.const (.sc (.int .i64 0))) false)])
 (.block 0 (.loop (bl 50331746 69) (bl 590295810152547221371 69)
 zhu)))
 zs3))))⟩
def zAl:Hint:=⟨[],[],[none,some ((bl 50331746 69),(bl 590295810152547221371 69)),none,some ((bl 98 69),(bl 590295810152547221371 69)),none,none],[],[],false,false⟩
def zfI:Nat→Sh:=zV [(9,(.int .u64)),(12,(.int .u64)),(15,(.int .u64)),(18,(.int .u64)),(53,(.int .u64)),(59,(.int .u64)),(61,(.int .u64)),(64,(.int .u64)),(67,(.int .u64))]
def zfT (xz:zcQ) (xB:zcS) (xv:zbB) (L:Nat):CBC:=(xA 113 (zmb xv L) (xA 111 (zqX xB L) (xA 112 (zp3 xz L) noC)))
def zlS:St→St:=zaE 0 (bl 50331746 69) (bl 590295810152547221371 69)
def ziR (p1:List (List V)) (p6 p24 p25:Int) (b5:List V):St:=⟨(jn 1 ((V.sl 1 p1)::(jn 3 ((V.ptr 5 0)::((V.sc (.int .i64 p6))::(jn 17 ((V.sc (.int .i64 p24))::((V.sc (.int .i64 p25))::(jn 43 []))))))))),(gn 5 ((.live true b5)::(gn 63 [])))⟩
def zsZ (p1:List (List V)) (p6:Int) (b5:List V):St:=⟨(jn 1 ((V.sl 1 p1)::(jn 3 ((V.ptr 5 0)::((V.sc (.int .i64 p6))::(jn 62 [])))))),(gn 5 ((.live true b5)::(gn 63 [])))⟩
def zzV {β:Type} (xz:zcQ) (xB:zcS) (xv:zbB) (L:Nat) (p0:List V) (p1:List (List V)) (k_hbbbaba:List (List V)→Int→Int→Int→List V→Option β):Option β :=
 cI .u64 p0 0 fun v0 =>
 lt (zbI .u64 v0 (8317987319222330741:Int)) fun x1 =>
 cI .u64 p0 1 fun v2 =>
 lt (zbI .u64 v2 (7237128888997146477:Int)) fun x3 =>
 cI .u64 p0 0 fun v4 =>
 lt (zbI .u64 v4 (7816392313619706465:Int)) fun x5 =>
 cI .u64 p0 1 fun v6 =>
 lt (zbI .u64 v6 (8387220255154660723:Int)) fun x7 =>
 lt [(V.sc (.int .u64 x1)),(V.sc (.int .u64 x3)),(V.sc (.int .u64 x5)),(V.sc (.int .u64 x7))] fun r8 =>
 lt (IntKind.wrap .i64 (Int.tdiv ((List.length p1:Nat):Int) (8:Int))) fun x9 =>
 k_hbbbaba p1 x9 x9 (0:Int) r8
theorem zGo {β:Type} (xz:zcQ) (xB:zcS) (xv:zbB) (L:Nat) (p0:List V) (p1:List (List V)) (k:KK β):xr zfI (zfT xz xB xv L) L zkr [(V.agg p0),(V.sl 1 p1)] [] k=zzV xz xB xv L p0 p1 (fun p1 p6 p24 p25 b5=>xy (yj zfI (zfT xz xB xv L) 0 L zhu) zlS L (ziR p1 p6 p24 p25 b5) (zx 0 (yI (yj zfI (zfT xz xB xv L) 0 L zs3) (zN 0 (CF.res zkr) k)))):=by kernel_rfl
def zqY {β:Type} (xz:zcQ) (xB:zcS) (xv:zbB) (L:Nat) (p1:List (List V)) (p6 p24 p25:Int) (b5:List V) (k_hbbbaba:List (List V)→Int→Int→Int→List V→Option β) (k_x0:List (List V)→Int→List V→Option β):Option β :=
 ifb (decide (p25 < p24)) (
 chk (0+4≤(List.length b5)) (
 lt (IntKind.wrap .i64 (((8:Int):Int) * p25)) fun x10 =>
 lt (IntKind.wrap .i64 (((8:Int):Int) * p25)) fun x11 =>
 lt (IntKind.wrap .i64 ((x11:Int)+(8:Int))) fun x12 =>
 chk (0≤x12∧x12≤(((List.length p1):Nat):Int)) (
 chk (0≤x10∧x10≤(((Int.toNat x12):Nat):Int)) (
 xz β L (List.take ((Int.toNat x12) - (Int.toNat x10)) (List.drop (Int.toNat x10) p1)) (fun v13 =>
 xB β L (List.take 4 b5) v13 (fun v14 =>
 chk ((List.length v14)=4∧0+4≤(List.length b5)) (
 lt (yk b5 0 v14) fun r15 =>
 lt (IntKind.wrap .i64 ((p25:Int)+(1:Int))) fun x16 =>
 k_hbbbaba p1 p6 p24 x16 r15))))))) (
 k_x0 p1 p6 b5)
theorem zzH {β:Type} (xz:zcQ) (xB:zcS) (xv:zbB) (L:Nat) (p1:List (List V)) (p6 p24 p25:Int) (b5:List V) (X:St→Option β) (K:KT β):yj zfI (zfT xz xB xv L) 0 L zhu (ziR p1 p6 p24 p25 b5) (zaz zlS X K)=zqY xz xB xv L p1 p6 p24 p25 b5 (fun p1 p6 p24 p25 b5=>X (ziR p1 p6 p24 p25 b5)) (fun p1 p6 b5=>K (.exit 0) (zsZ p1 p6 b5)):=by kernel_rfl
def zjx {β:Type} (xz:zcQ) (xB:zcS) (xv:zbB) (L:Nat) (p1:List (List V)) (p6:Int) (b5:List V) (k_fin:Int→Option β):Option β :=
 chk (0+4≤(List.length b5)) (
 lt (IntKind.wrap .i64 (((8:Int):Int) * p6)) fun x17 =>
 chk (0≤x17∧x17≤(((List.length p1):Nat):Int)) (
 xz β L (List.take ((List.length p1) - (Int.toNat x17)) (List.drop (Int.toNat x17) p1)) (fun v18 =>
 lt (Int.tmod ((List.length p1:Nat):Int) (256:Int)) fun x19 =>
 lt (IntKind.wrap .u64 x19) fun x20 =>
 lt (zsX .u64 x20 (56:Int)) fun x21 =>
 lt (ior .u64 v18 x21) fun x22 =>
 xB β L (List.take 4 b5) x22 (fun v23 =>
 chk ((List.length v23)=4∧0+4≤(List.length b5)) (
 lt (yk b5 0 v23) fun r24 =>
 cI .u64 r24 2 fun v25 =>
 lt (zbI .u64 v25 (255:Int)) fun x26 =>
 chk (1=1∧2+1≤(List.length r24)) (
 lt (yk r24 2 [(V.sc (.int .u64 x26))]) fun r27 =>
 chk (0+4≤(List.length r27)) (
 xv β L (List.take 4 r27) (4:Int) (fun v28 =>
 chk ((List.length v28)=4∧0+4≤(List.length r27)) (
 lt (yk r27 0 v28) fun r29 =>
 cI .u64 r29 0 fun v30 =>
 cI .u64 r29 1 fun v31 =>
 lt (zbI .u64 v30 v31) fun x32 =>
 cI .u64 r29 2 fun v33 =>
 lt (zbI .u64 x32 v33) fun x34 =>
 cI .u64 r29 3 fun v35 =>
 lt (zbI .u64 x34 v35) fun x36 =>
 k_fin x36)))))))))
theorem zx2 {β:Type} (xz:zcQ) (xB:zcS) (xv:zbB) (L:Nat) (p1:List (List V)) (p6:Int) (b5:List V) (k:KK β):(zx 0 (yI (yj zfI (zfT xz xB xv L) 0 L zs3) (zN 0 (CF.res zkr) k))) (.exit 0) (zsZ p1 p6 b5)=zjx xz xB xv L p1 p6 b5 (fun p0=>k (V.sc (.int .u64 p0)) []):=by kernel_rfl
def ziD {β:Type} (xz:zcQ) (xB:zcS) (xv:zbB) (L:Nat) (k_x0:List (List V)→Int→List V→Option β):Nat→List (List V)→Int→Int→Int→List V→Option β
 | 0,_,_,_,_,_=>none
 | n+1,p1,p6,p24,p25,b5=>zqY xz xB xv L p1 p6 p24 p25 b5 (fun p1 p6 p24 p25 b5=>ziD xz xB xv L k_x0 n p1 p6 p24 p25 b5) k_x0
theorem zsn {β:Type} (xz:zcQ) (xB:zcS) (xv:zbB) (L:Nat) (K:KT β):∀ (n:Nat) (p1:List (List V)) (p6 p24 p25:Int) (b5:List V),xy (yj zfI (zfT xz xB xv L) 0 L zhu) zlS n (ziR p1 p6 p24 p25 b5) K=ziD xz xB xv L (fun p1 p6 b5=>K (.exit 0) (zsZ p1 p6 b5)) n p1 p6 p24 p25 b5:=by
 intro n
 induction n with
 | zero=>intros; rfl
 | succ n ih =>
  intro p1 p6 p24 p25 b5
  refine (zzH xz xB xv L p1 p6 p24 p25 b5 (fun σ=>xy (yj zfI (zfT xz xB xv L) 0 L zhu) zlS n σ K) K).trans ?_
  simp only [ih]
  rfl
def zvV {β:Type} (xz:zcQ) (xB:zcS) (xv:zbB) (L:Nat) (p0:List V) (p1:List (List V)) (k_fin:Int→Option β):Option β :=
 zzV xz xB xv L p0 p1 (fun p1 p6 p24 p25 b5=>ziD xz xB xv L (fun p1 p6 b5=>zjx xz xB xv L p1 p6 b5 k_fin) L p1 p6 p24 p25 b5)
theorem zG8 {β:Type} (xz:zcQ) (xB:zcS) (xv:zbB) (L:Nat) (p0:List V) (p1:List (List V)) (k:KK β):xr zfI (zfT xz xB xv L) L zkr [(V.agg p0),(V.sl 1 p1)] [] k=zvV xz xB xv L p0 p1 (fun p0=>k (V.sc (.int .u64 p0)) []):=by
 refine (zGo xz xB xv L p0 p1 k).trans ?_
 unfold zvV
 first
  | (simp only [zsn,zx2]; done)
  | (simp only [zsn]; rfl)
abbrev zm0:=∀ (β:Type),Nat→List V→List (List V)→(Int→Option β)→Option β
def z7 (β:Type) (L:Nat) (p0:List V) (p1:List (List V)) (k_fin:Int→Option β):Option β:=zvV xz xB xv L p0 p1 k_fin
def zsG (z7:zm0) (L:Nat) (β:Type) (args:List V) (bor:Bor) (k:KK β):Option β:=match args,bor with
 | [a0,a1],[]=>aG a0 fun p0=>aL 1 a1 fun p1=>z7 β L p0 p1 (fun p0=>k (V.sc (.int .u64 p0)) [])
 | _,_=>none
theorem zG5 (L:Nat) (β:Type) (args:List V) (bor:Bor) (k:KK β) (r:β) (h:zsG z7 L β args bor k=some r):xr zfI (zfT xz xB xv L) L zkr args bor k=some r:=by
 unfold zsG at h
 split at h
 ·have q:=y5 h; clear h; obtain ⟨p0,rfl,h⟩:=q
  have q:=xP h; clear h; obtain ⟨p1,rfl,h⟩:=q
  exact (zG8 xz xB xv L p0 p1 k).trans h
 ·cases h
def zff:CF:=⟨32,[.tmp 6],
 (.seq (.reg [oo 3 (.box true (tq 0)),
   oo 4 (.box true (tq 1)),
   oo 6 (.move (.const (.sc (.int .i64 0))) false)])
 (.seq (.reg [oo 10 (.load true 32 (tq 3) false),
   oo 11 (.call 109 [((tq 10),0)] []),
   oo 7 (.alloc true [(.sc (.int .u64 0)),(.sc (.int .u64 0))]),
   oz (.store 2 (tq 7) (tq 11))])
 (.seq (.dreg [] [(oo 12 (.load true 2 (tq 7) false),ql 7 [4] [13]),
   (oo 13 (.buildSlice 1 1 [(.sc (.int .u8 0))] [(0,1,(.const (.sc (.int .u8 2))))]),qn [7,4] []),
   (oo 14 (.load true 3 (tq 4) false),ql 4 [7] [13]),
   (oo 15 (.call 269 [((tq 14),0)] []),qc [7] [13]),
   (oo 16 (.call 157 [((tq 13),0),((tq 15),0)] []),qc [7] []),
   (oo 17 (.move (tq 2) false),q0),
   (oo 18 (.call 157 [((tq 16),0),((tq 17),0)] []),qc [7] []),
   (oo 19 (.call 105 [((tq 12),0),((tq 18),0)] []),q0),
   (oo 20 (.bin .rem (tq 19) (.const (.sc (.int .u64 4)))),q0),
   (oo 8 (.move (tq 20) false),q0)])
 (.seq (.reg [oo 21 (.buildSlice 1 1 [(.sc (.int .u8 0))] [(0,1,(.const (.sc (.int .u8 1))))]),
   oo 22 (.move (tq 2) false),
   oo 23 (.call 157 [((tq 21),0),((tq 22),0)] []),
   oo 24 (.move (tq 8) false),
   oo 25 (.conv .u32 (tq 24)),
   oo 26 (.call 157 [((tq 23),0),((tq 25),0)] []),
   oo 9 (.move (tq 26) false)])
 (.seq (.reg [oo 27 (.load true 2 (tq 7) false),
   oo 28 (.move (tq 9) false),
   oo 29 (.call 105 [((tq 27),0),((tq 28),0)] []),
   oo 30 (.bin .rem (tq 29) (.const (.sc (.int .u64 64)))),
   oo 31 (.conv .i64 (tq 30)),
   oo 6 (.move (tq 31) false)])
 .ret)))))⟩
def zlx:Hint:=⟨[],[],[none],[],[],false,false⟩
def zh6:Nat→Sh:=zV []
def zia (zak:zmm) (zb:yn) (yB:zdW) (z7:zm0) (L:Nat):CBC:=(xA 105 (zsG z7 L) (xA 157 (zgK yB L) (xA 269 (zcR zb L) (xA 109 (zsR zak L) noC))))
def ziU {β:Type} (zak:zmm) (zb:yn) (yB:zdW) (z7:zm0) (L:Nat) (p0 p1:List V) (p2:Int) (k_fin:Int→Option β):Option β :=
 chk (0+32≤(List.length p0)) (
 zak β L (List.take 32 p0) (fun v0 =>
 chk ((List.length v0)=2∧0+2≤2) (
 lt (yk [(V.sc (.int .u64 (0:Int))),(V.sc (.int .u64 (0:Int)))] 0 v0) fun r1 =>
 chk (0+2≤(List.length r1)) (
 chk (0+3≤(List.length p1)) (
 zb β L (List.take 3 p1) (fun v2 =>
 yB β L (zp 1 1 [(V.sc (.int .u8 (2:Int)))]) v2 (fun v3 =>
 yB β L v3 p2 (fun v4 =>
 z7 β L (List.take 2 r1) v4 (fun v5 =>
 lt (Int.tmod v5 (4:Int)) fun x6 =>
 yB β L (zp 1 1 [(V.sc (.int .u8 (1:Int)))]) p2 (fun v7 =>
 lt (IntKind.wrap .u32 x6) fun x8 =>
 yB β L v7 x8 (fun v9 =>
 chk (0+2≤(List.length r1)) (
 z7 β L (List.take 2 r1) v9 (fun v10 =>
 lt (Int.tmod v10 (64:Int)) fun x11 =>
 lt (IntKind.wrap .i64 x11) fun x12 =>
 k_fin x12)))))))))))))
theorem ztQ {β:Type} (zak:zmm) (zb:yn) (yB:zdW) (z7:zm0) (L:Nat) (p0 p1:List V) (p2:Int) (k:KK β):xr zh6 (zia zak zb yB z7 L) L zff [(V.agg p0),(V.agg p1),(V.sc (.int .u32 p2))] [] k=ziU zak zb yB z7 L p0 p1 p2 (fun p0=>k (V.sc (.int .i64 p0)) []):=by kernel_rfl
abbrev zfM:=∀ (β:Type),Nat→List V→List V→Int→(Int→Option β)→Option β
def yM (β:Type) (L:Nat) (p0 p1:List V) (p2:Int) (k_fin:Int→Option β):Option β:=ziU zak zb yB z7 L p0 p1 p2 k_fin
def zfE (yM:zfM) (L:Nat) (β:Type) (args:List V) (bor:Bor) (k:KK β):Option β:=match args,bor with
 | [a0,a1,a2],[]=>aG a0 fun p0=>aG a1 fun p1=>aI .u32 a2 fun p2=>yM β L p0 p1 p2 (fun p0=>k (V.sc (.int .i64 p0)) [])
 | _,_=>none
theorem ztY (L:Nat) (β:Type) (args:List V) (bor:Bor) (k:KK β) (r:β) (h:zfE yM L β args bor k=some r):xr zh6 (zia zak zb yB z7 L) L zff args bor k=some r:=by
 unfold zfE at h
 split at h
 ·have q:=y5 h; clear h; obtain ⟨p0,rfl,h⟩:=q
  have q:=y5 h; clear h; obtain ⟨p1,rfl,h⟩:=q
  have q:=zad h; clear h; obtain ⟨p2,rfl,h⟩:=q
  exact (ztQ zak zb yB z7 L p0 p1 p2 k).trans h
 ·cases h
def zhY:CF:=⟨11,[.tmp 3],
 (.seq (.reg [oo 2 (.box true (tq 0)),
   oo 3 (.move (.const (.sc (.int .i64 0))) false)])
 (.seq (.reg [oo 4 (.fieldAddr 0 (tq 1)),
   oo 5 (.load true 32 (tq 4) false),
   oo 6 (.fieldAddr 1 (tq 2)),
   oo 7 (.load true 3 (tq 6) false),
   oo 8 (.fieldAddr 4 (tq 2)),
   oo 9 (.load false 1 (tq 8) false),
   oo 10 (.call 297 [((tq 5),0),((tq 7),0),((tq 9),0)] []),
   oo 3 (.move (tq 10) false)])
 .ret))⟩
def zpH:Hint:=⟨[],[],[none],[],[],false,false⟩
def zk5:Nat→Sh:=zV [(9,(.int .u32))]
def zls (yM:zfM) (L:Nat):CBC:=(xA 297 (zfE yM L) noC)
def zmg {β:Type} (yM:zfM) (L:Nat) (p0 b0:List V) (k_fin:Int→List V→Option β):Option β :=
 chk (0+32≤(List.length b0)) (
 chk (1+3≤(List.length p0)) (
 cI .u32 p0 4 fun v0 =>
 yM β L (List.take 32 b0) (List.take 3 (List.drop 1 p0)) v0 (fun v1 =>
 k_fin v1 b0)))
theorem zxe {β:Type} (yM:zfM) (L:Nat) (p0 b0:List V) (k:KK β):xr zk5 (zls yM L) L zhY [(V.agg p0),(V.ptr 0 0)] [(.live true b0)] k=zmg yM L p0 b0 (fun p0 b0=>k (V.sc (.int .i64 p0)) [(.live true b0)]):=by kernel_rfl
abbrev zae:=∀ (β:Type),Nat→List V→List V→(Int→List V→Option β)→Option β
def ym (β:Type) (L:Nat) (p0 b0:List V) (k_fin:Int→List V→Option β):Option β:=zmg yM L p0 b0 k_fin
def ziP (ym:zae) (L:Nat) (β:Type) (args:List V) (bor:Bor) (k:KK β):Option β:=match args,bor with
 | [a0,a1],[(.live true b0)]=>aG a0 fun p0=>aP 0 0 a1 (ym β L p0 b0 (fun p0 b0=>k (V.sc (.int .i64 p0)) [(.live true b0)]))
 | _,_=>none
theorem zwN (L:Nat) (β:Type) (args:List V) (bor:Bor) (k:KK β) (r:β) (h:ziP ym L β args bor k=some r):xr zk5 (zls yM L) L zhY args bor k=some r:=by
 unfold ziP at h
 split at h
 ·have q:=y5 h; clear h; obtain ⟨p0,rfl,h⟩:=q
  have q:=zkV h; clear h; obtain ⟨rfl,h⟩:=q
  exact (zxe yM L p0 _ k).trans h
 ·cases h
def zdK:CC:=(.seq (.reg [oo 18 (.bin .lss (tq 17) (tq 16))])
 (.seq (.cond (tq 18)
 .skip
 (.seq (.mask (bl 0 58) (bl 288230375077966399 58))
 (.exit 0)))
 (.seq (.block 1 (.seq (.reg [oo 19 (.indexAddrS 5 (tq 15) (tq 17)),
   oo 20 (.load true 5 (tq 19) false),
   oo 10 (.alloc true [(.sc (.int .i64 0)),(.sc (.int .u32 0)),(.sc (.int .u16 0)),(.sc (.int .u32 0)),(.sc (.int .u32 0))]),
   oz (.store 5 (tq 10) (tq 20))])
 (.seq (.seq (.dreg [] [(oo 21 (.fieldAddr 0 (tq 10)),q0),
   (oo 22 (.load false 1 (tq 21) false),q0),
   (oo 23 (.move (tq 7) false),q0),
   (oo 24 (.bin .lss (tq 22) (tq 23)),q0),
   (oo 25 (.move (tq 24) false),q0),
   (⟨(some 26),false,(some (25,false)),.fieldAddr 0 (tq 10)⟩,q0),
   (⟨(some 27),false,(some (25,false)),.load false 1 (tq 26) false⟩,ql 10 [] []),
   (⟨(some 28),false,(some (25,false)),.move (tq 2) false⟩,q0),
   (⟨(some 29),false,(some (25,false)),.load true 5 (tq 10) false⟩,ql 10 [] []),
   (⟨(some 30),false,(some (25,false)),.callv (tq 28) [((tq 29),0)] []⟩,qc [10] []),
   (⟨(some 31),false,(some (25,false)),.bin .neq (tq 27) (tq 30)⟩,q0),
   (oo 32 (.pick (tq 25) (.const (.sc (.bool true))) (tq 31)),q0)])
 (.cond (tq 32)
 (.seq (.reg [oo 6 (.move (.const (.sc (.bool false))) false)])
 (.seq (.mask (bl 64 58) (bl 288230375077966463 58))
 .ret))
 .skip))
 (.seq (.seq (.reg [oo 33 (.fieldAddr 0 (tq 10)),
   oo 34 (.load false 1 (tq 33) false),
   oo 35 (.move (tq 7) false),
   oo 36 (.bin .neq (tq 34) (tq 35))])
 (.cond (tq 36)
 (.reg [oo 37 (.fieldAddr 0 (tq 10)),
   oo 38 (.load false 1 (tq 37) false),
   oo 7 (.move (tq 38) false),
   oo 8 (.move (.const (.sc (.int .i64 0))) false)])
 .skip))
 (.seq (.reg [oo 39 (.move (tq 8) false),
   oo 40 (.bin .add (tq 39) (.const (.sc (.int .i64 1)))),
   oo 8 (.move (tq 40) false)])
 (.seq (.reg [oo 41 (.fieldAddr 1 (tq 10)),
   oo 42 (.fieldAddr 0 (tq 41)),
   oo 43 (.load false 1 (tq 42) false),
   oo 44 (.fieldAddr 1 (tq 10)),
   oo 45 (.fieldAddr 1 (tq 44)),
   oo 46 (.load false 1 (tq 45) false),
   oo 47 (.build [(.sc (.int .u32 0)),(.sc (.int .u16 0))] [(0,1,(tq 43)),(1,1,(tq 46))]),
   oo 11 (.alloc true [(.sc (.int .u32 0)),(.sc (.int .u16 0))]),
   oz (.store 2 (tq 11) (tq 47))])
 (.seq (.seq (.reg [oo 48 (.move (tq 8) false),
   oo 49 (.bin .gtr (tq 48) (.const (.sc (.int .i64 8)))),
   oo 50 (.move (tq 49) false),
   ⟨(some 51),false,(some (50,false)),.move (tq 1) false⟩,
   ⟨(some 52),false,(some (50,false)),.load true 2 (tq 11) false⟩,
   ⟨(some 53),false,(some (50,false)),.mlook 4 false (.sc (.bool false)) (tq 51) (tq 52)⟩,
   oo 54 (.pick (tq 50) (.const (.sc (.bool true))) (tq 53))])
 (.cond (tq 54)
 (.seq (.reg [oo 6 (.move (.const (.sc (.bool false))) false)])
 (.seq (.mask (bl 64 58) (bl 288230375077966463 58))
 .ret))
 .skip))
 (.reg [oo 55 (.move (tq 1) false),
   oo 56 (.load true 2 (tq 11) false),
   oz (.mput 4 (tq 55) (tq 56) (.const (.sc (.bool true))))]))))))))
 (.reg [oo 57 (.bin .add (tq 17) (.const (.sc (.int .i64 1)))),
   oo 17 (.move (tq 57) false)]))))
def zg3:CC:=(.seq (.reg [oo 6 (.move (.const (.sc (.bool true))) false)])
 .ret)
def zcc:CF:=⟨58,[.tmp 6],
 (.seq (.reg [oo 6 (.move (.const (.sc (.bool false))) false)])
 (.seq (.seq (.reg [oo 12 (.move (tq 0) false),
   oo 13 (.lenS (tq 12)),
   oo 14 (.bin .gtr (tq 13) (.const (.sc (.int .i64 512))))])
 (.cond (tq 14)
 (.seq (.reg [oo 6 (.move (.const (.sc (.bool false))) false)])
 .ret)
 .skip))
 (.seq (.reg [oo 7 (.move (.const (.sc (.int .i64 (-1)))) false),
   oo 8 (.move (.const (.sc (.int .i64 0))) false)])
 (.seq (.seq (.reg [oo 15 (.move (tq 0) false),
   oo 16 (.lenS (tq 15)),
   oo 17 (.move (.const (.sc (.int .i64 0))) false)])
 (.block 0 (.loop (bl 229766 58) (bl 288230375077966783 58)
 zdK)))
 zg3))))⟩
def zrt:Hint:=⟨[],[],[none,none,none,some ((bl 229766 58),(bl 288230375077966783 58)),none,some ((bl 0 58),(bl 288230375077966399 58)),none,none,some ((bl 64 58),(bl 288230375077966463 58)),none,none,some ((bl 64 58),(bl 288230375077966463 58)),none],[],[],false,false⟩
def zbe:Nat→Sh:=zV [(22,(.int .i64)),(27,(.int .i64)),(34,(.int .i64)),(38,(.int .i64)),(43,(.int .u32)),(46,(.int .u16)),(53,.bool)]
def zbf (ym:zae) (L:Nat):CBC:=(xA 296 (ziP ym L) noC)
def zfD:St→St:=zaE 2 (bl 229766 58) (bl 288230375077966783 58)
def zeM (p7 p8:Int) (p15:List (List V)) (p16 p17:Int) (b0:List (V × V)) (b1:List V):St:=⟨(jn 1 ((V.mp 0)::((V.fn 296 [(V.ptr 1 0)])::(jn 4 ((V.sc (.int .i64 p7))::((V.sc (.int .i64 p8))::(jn 6 ((V.sl 5 p15)::((V.sc (.int .i64 p16))::((V.sc (.int .i64 p17))::(jn 40 []))))))))))),((.mp b0)::((.live true b1)::(gn 58 [])))⟩
def zjC (p6:Bool) (b0:List (V × V)) (b1:List V):St:=⟨(jn 6 ((V.sc (.bool p6))::(jn 51 []))),((.mp b0)::((.live true b1)::(gn 58 [])))⟩
def zki (b0:List (V × V)) (b1:List V):St:=⟨(jn 58 []),((.mp b0)::((.live true b1)::(gn 58 [])))⟩
abbrev znD (β:Type):Type:=Int→Int→List (List V)→Int→Int→List (V × V)→List V→Option β
def zpc {β:Type} (ym:zae) (L:Nat) (p0:List (List V)) (b0:List (V × V)) (b1:List V) (k_fin:Bool→List (V × V)→List V→Option β) (k_hbbbaba:znD β):Option β :=
 ifb (decide (((List.length p0:Nat):Int) > (512:Int))) (
 k_fin false b0 b1) (
 k_hbbbaba (-1:Int) (0:Int) p0 ((List.length p0:Nat):Int) (0:Int) b0 b1)
theorem zzr {β:Type} (ym:zae) (L:Nat) (p0:List (List V)) (b0:List (V × V)) (b1:List V) (k:KK β):xr zbe (zbf ym L) L zcc [(V.sl 5 p0),(V.mp 0),(V.fn 296 [(V.ptr 1 0)])] [(.mp b0),(.live true b1)] k=zpc ym L p0 b0 b1 (fun p0 b0 b1=>k (V.sc (.bool p0)) [(.mp b0),(.live true b1)]) (fun p7 p8 p15 p16 p17 b0 b1=>xy (yj zbe (zbf ym L) 2 L zdK) zfD L (zeM p7 p8 p15 p16 p17 b0 b1) (zx 0 (yI (yj zbe (zbf ym L) 2 L zg3) (zN 2 (CF.res zcc) k)))):=by kernel_rfl
def ziW {β:Type} (ym:zae) (L:Nat) (p7 p8:Int) (p15:List (List V)) (p16 p17:Int) (b0:List (V × V)) (b1:List V) (k_ret:Bool→List (V × V)→List V→Option β) (k_hbbbaba:znD β) (k_x0:List (V × V)→List V→Option β):Option β :=
 ifb (decide (p17 < p16)) (
 idx p15 p17 fun c0 =>
 chk ((List.length (List.take 5 c0))=5∧0+5≤5) (
 lt (yk [(V.sc (.int .i64 (0:Int))),(V.sc (.int .u32 (0:Int))),(V.sc (.int .u16 (0:Int))),(V.sc (.int .u32 (0:Int))),(V.sc (.int .u32 (0:Int)))] 0 (List.take 5 c0)) fun r1 =>
 cI .i64 r1 0 fun v2 =>
 ifb (decide (v2 < p7)) (
 k_ret false b0 b1) (
 cI .i64 r1 0 fun v3 =>
 chk (0+5≤(List.length r1)) (
 ym β L (List.take 5 r1) b1 (fun v4 v5 =>
 chk ([(List.length v5)]=[(List.length b1)]) (
 ifb ((v3:Int) != v4) (
 k_ret false b0 v5) (
 cI .i64 r1 0 fun v6 =>
 ifb ((v6:Int) != p7) (
 cI .i64 r1 0 fun v7 =>
 lt (IntKind.wrap .i64 (((0:Int):Int)+(1:Int))) fun x8 =>
 cI .u32 r1 1 fun v9 =>
 cI .u16 r1 2 fun v10 =>
 lt [(V.sc (.int .u32 v9)),(V.sc (.int .u16 v10))] fun r11 =>
 ifb (decide (x8 > (8:Int))) (
 k_ret false b0 v5) (
 chk (0+2≤(List.length r11)) (
 mAt 4 (V.agg (List.take 2 r11)) b0 fun q12 =>
 aB (Option.getD q12 (V.sc (.bool false))) fun v13 =>
 ifb v13 (
 k_ret false b0 v5) (
 chk (0+2≤(List.length r11)) (
 zwC 4 (V.agg (List.take 2 r11)) (V.sc (.bool true)) b0 fun m14 =>
 lt (IntKind.wrap .i64 ((p17:Int)+(1:Int))) fun x15 =>
 k_hbbbaba v7 x8 p15 p16 x15 m14 v5))))) (
 lt (IntKind.wrap .i64 ((p8:Int)+(1:Int))) fun x16 =>
 cI .u32 r1 1 fun v17 =>
 cI .u16 r1 2 fun v18 =>
 lt [(V.sc (.int .u32 v17)),(V.sc (.int .u16 v18))] fun r19 =>
 ifb (decide (x16 > (8:Int))) (
 k_ret false b0 v5) (
 chk (0+2≤(List.length r19)) (
 mAt 4 (V.agg (List.take 2 r19)) b0 fun q20 =>
 aB (Option.getD q20 (V.sc (.bool false))) fun v21 =>
 ifb v21 (
 k_ret false b0 v5) (
 chk (0+2≤(List.length r19)) (
 zwC 4 (V.agg (List.take 2 r19)) (V.sc (.bool true)) b0 fun m22 =>
 lt (IntKind.wrap .i64 ((p17:Int)+(1:Int))) fun x23 =>
 k_hbbbaba p7 x16 p15 p16 x23 m22 v5)))))))))))) (
 k_x0 b0 b1)
theorem zt0 {β:Type} (ym:zae) (L:Nat) (p7 p8:Int) (p15:List (List V)) (p16 p17:Int) (b0:List (V × V)) (b1:List V) (X:St→Option β) (K:KT β):yj zbe (zbf ym L) 2 L zdK (zeM p7 p8 p15 p16 p17 b0 b1) (zaz zfD X K)=ziW ym L p7 p8 p15 p16 p17 b0 b1 (fun p6 b0 b1=>K .ret (zjC p6 b0 b1)) (fun p7 p8 p15 p16 p17 b0 b1=>X (zeM p7 p8 p15 p16 p17 b0 b1)) (fun b0 b1=>K (.exit 0) (zki b0 b1)):=by kernel_rfl
def zg0 {β:Type} (ym:zae) (L:Nat) (p6:Bool) (b0:List (V × V)) (b1:List V) (k_fin:Bool→List (V × V)→List V→Option β):Option β :=
 k_fin p6 b0 b1
theorem zrC {β:Type} (ym:zae) (L:Nat) (p6:Bool) (b0:List (V × V)) (b1:List V) (k:KK β):(zx 0 (yI (yj zbe (zbf ym L) 2 L zg3) (zN 2 (CF.res zcc) k))) .ret (zjC p6 b0 b1)=zg0 ym L p6 b0 b1 (fun p0 b0 b1=>k (V.sc (.bool p0)) [(.mp b0),(.live true b1)]):=by kernel_rfl
def zhC {β:Type} (ym:zae) (L:Nat) (b0:List (V × V)) (b1:List V) (k_fin:Bool→List (V × V)→List V→Option β):Option β :=
 k_fin true b0 b1
theorem zsy {β:Type} (ym:zae) (L:Nat) (b0:List (V × V)) (b1:List V) (k:KK β):(zx 0 (yI (yj zbe (zbf ym L) 2 L zg3) (zN 2 (CF.res zcc) k))) (.exit 0) (zki b0 b1)=zhC ym L b0 b1 (fun p0 b0 b1=>k (V.sc (.bool p0)) [(.mp b0),(.live true b1)]):=by kernel_rfl
def zc9 {β:Type} (ym:zae) (L:Nat) (k_ret:Bool→List (V × V)→List V→Option β) (k_x0:List (V × V)→List V→Option β):Nat→Int→Int→List (List V)→Int→Int→List (V × V)→List V→Option β
 | 0,_,_,_,_,_,_,_=>none
 | n+1,p7,p8,p15,p16,p17,b0,b1=>ziW ym L p7 p8 p15 p16 p17 b0 b1 k_ret (fun p7 p8 p15 p16 p17 b0 b1=>zc9 ym L k_ret k_x0 n p7 p8 p15 p16 p17 b0 b1) k_x0
theorem zlW {β:Type} (ym:zae) (L:Nat) (K:KT β):∀ (n:Nat) (p7 p8:Int) (p15:List (List V)) (p16 p17:Int) (b0:List (V × V)) (b1:List V),xy (yj zbe (zbf ym L) 2 L zdK) zfD n (zeM p7 p8 p15 p16 p17 b0 b1) K=zc9 ym L (fun p6 b0 b1=>K .ret (zjC p6 b0 b1)) (fun b0 b1=>K (.exit 0) (zki b0 b1)) n p7 p8 p15 p16 p17 b0 b1:=by
 intro n
 induction n with
 | zero=>intros; rfl
 | succ n ih =>
  intro p7 p8 p15 p16 p17 b0 b1
  refine (zt0 ym L p7 p8 p15 p16 p17 b0 b1 (fun σ=>xy (yj zbe (zbf ym L) 2 L zdK) zfD n σ K) K).trans ?_
  simp only [ih]
  rfl
def zkd {β:Type} (ym:zae) (L:Nat) (p0:List (List V)) (b0:List (V × V)) (b1:List V) (k_fin:Bool→List (V × V)→List V→Option β):Option β :=
 zpc ym L p0 b0 b1 k_fin (fun p7 p8 p15 p16 p17 b0 b1=>zc9 ym L (fun p6 b0 b1=>zg0 ym L p6 b0 b1 k_fin) (fun b0 b1=>zhC ym L b0 b1 k_fin) L p7 p8 p15 p16 p17 b0 b1)
theorem zzq {β:Type} (ym:zae) (L:Nat) (p0:List (List V)) (b0:List (V × V)) (b1:List V) (k:KK β):xr zbe (zbf ym L) L zcc [(V.sl 5 p0),(V.mp 0),(V.fn 296 [(V.ptr 1 0)])] [(.mp b0),(.live true b1)] k=zkd ym L p0 b0 b1 (fun p0 b0 b1=>k (V.sc (.bool p0)) [(.mp b0),(.live true b1)]):=by
 refine (zzr ym L p0 b0 b1 k).trans ?_
 unfold zkd
 first
  | (simp only [zlW,zrC,zsy]; done)
  | (simp only [zlW]; rfl)
abbrev zkn:=∀ (β:Type),Nat→List (List V)→List (V × V)→List V→(Bool→List (V × V)→List V→Option β)→Option β
def xZ (β:Type) (L:Nat) (p0:List (List V)) (b0:List (V × V)) (b1:List V) (k_fin:Bool→List (V × V)→List V→Option β):Option β:=zkd ym L p0 b0 b1 k_fin
def zkN (xZ:zkn) (L:Nat) (β:Type) (args:List V) (bor:Bor) (k:KK β):Option β:=match args,bor with
 | [a0,a1,a2],[(.mp b0),(.live true b1)]=>aL 5 a0 fun p0=>aM 0 a1 (aF 296 [(1,0)] a2 (xZ β L p0 b0 b1 (fun p0 b0 b1=>k (V.sc (.bool p0)) [(.mp b0),(.live true b1)])))
 | _,_=>none
theorem zy7 (L:Nat) (β:Type) (args:List V) (bor:Bor) (k:KK β) (r:β) (h:zkN xZ L β args bor k=some r):xr zbe (zbf ym L) L zcc args bor k=some r:=by
 unfold zkN at h
 split at h
 ·have q:=xP h; clear h; obtain ⟨p0,rfl,h⟩:=q
  have q:=zJD h; clear h; obtain ⟨rfl,h⟩:=q
  have q:=zwW h; clear h; obtain ⟨rfl,h⟩:=q
  exact (zzq ym L p0 _ _ k).trans h
 ·cases h
def zij:CF:=⟨10,[.tmp 4],
 (.seq (.reg [oo 4 (.move (.const (.gs 1 [])) true)])
 (.seq (.reg [oo 5 (.move (tq 0) false),
   oo 6 (.move (tq 1) false),
   oo 7 (.conv .u64 (tq 6)),
   oo 8 (.call 192 [((tq 7),0),((.const (.sc (.int .i64 2))),0)] []),
   oo 9 (.call 191 [((tq 5),0),((tq 8),0)] []),
   oo 4 (.move (tq 9) true)])
 .ret))⟩
def zq3:Hint:=⟨[(0,0),(1,5)],[],[none],[],[],false,false⟩
def zmS:Nat→Sh:=zV []
def zmG (yL:zfu) (yK:zfw) (L:Nat):CBC:=(xA 191 (zjN yK L) (xA 192 (zjI yL L) noC))
def zoc {β:Type} (yL:zfu) (yK:zfw) (L:Nat) (p0:List (List V)) (p1:Int) (k_fin:List (List V)→Option β):Option β :=
 lt (IntKind.wrap .u64 p1) fun x0 =>
 yL β L x0 (2:Int) (fun v1 =>
 yK β L p0 v1 (fun v2 =>
 k_fin v2))
theorem zx6 {β:Type} (yL:zfu) (yK:zfw) (L:Nat) (p0:List (List V)) (p1:Int) (k:KK β):xr zmS (zmG yL yK L) L zij [(V.sl 1 p0),(V.sc (.int .u16 p1))] [] k=zoc yL yK L p0 p1 (fun p0=>k (V.gs 1 p0) []):=by kernel_rfl
abbrev zjr:=∀ (β:Type),Nat→List (List V)→Int→(List (List V)→Option β)→Option β
def yX (β:Type) (L:Nat) (p0:List (List V)) (p1:Int) (k_fin:List (List V)→Option β):Option β:=zoc yL yK L p0 p1 k_fin
def zjq (yX:zjr) (L:Nat) (β:Type) (args:List V) (bor:Bor) (k:KK β):Option β:=match args,bor with
 | [a0,a1],[]=>aL 1 a0 fun p0=>aI .u16 a1 fun p1=>yX β L p0 p1 (fun p0=>k (V.gs 1 p0) [])
 | _,_=>none
theorem zyg (L:Nat) (β:Type) (args:List V) (bor:Bor) (k:KK β) (r:β) (h:zjq yX L β args bor k=some r):xr zmS (zmG yL yK L) L zij args bor k=some r:=by
 unfold zjq at h
 split at h
 ·have q:=xP h; clear h; obtain ⟨p0,rfl,h⟩:=q
  have q:=zad h; clear h; obtain ⟨p1,rfl,h⟩:=q
  exact (zx6 yL yK L p0 p1 k).trans h
 ·cases h
def zfg:CF:=⟨32,[.tmp 4],
 (.seq (.reg [oo 2 (.box true (tq 0)),
   oo 3 (.box true (tq 1)),
   oo 4 (.move (.const (.sc (.int .i64 0))) false)])
 (.seq (.reg [oo 8 (.load true 32 (tq 2) false),
   oo 9 (.call 109 [((tq 8),0)] []),
   oo 5 (.alloc true [(.sc (.int .u64 0)),(.sc (.int .u64 0))]),
   oz (.store 2 (tq 5) (tq 9))])
 (.seq (.dreg [] [(oo 10 (.load true 2 (tq 5) false),ql 5 [3] [11]),
   (oo 11 (.buildSlice 1 1 [(.sc (.int .u8 0))] [(0,1,(.const (.sc (.int .u8 4))))]),qn [5,3] []),
   (oo 12 (.fieldAddr 0 (tq 3)),q0),
   (oo 13 (.load false 1 (tq 12) false),ql 3 [5] [11]),
   (oo 14 (.call 157 [((tq 11),0),((tq 13),0)] []),qc [5,3] []),
   (oo 15 (.fieldAddr 1 (tq 3)),q0),
   (oo 16 (.load false 1 (tq 15) false),ql 3 [5] [11]),
   (oo 17 (.call 205 [((tq 14),0),((tq 16),0)] []),qc [5] []),
   (oo 18 (.call 105 [((tq 10),0),((tq 17),0)] []),q0),
   (oo 19 (.bin .rem (tq 18) (.const (.sc (.int .u64 4)))),q0),
   (oo 6 (.move (tq 19) false),q0)])
 (.seq (.reg [oo 20 (.buildSlice 1 1 [(.sc (.int .u8 0))] [(0,1,(.const (.sc (.int .u8 3))))]),
   oo 21 (.load true 3 (tq 3) false),
   oo 22 (.call 269 [((tq 21),0)] []),
   oo 23 (.call 157 [((tq 20),0),((tq 22),0)] []),
   oo 24 (.move (tq 6) false),
   oo 25 (.conv .u32 (tq 24)),
   oo 26 (.call 157 [((tq 23),0),((tq 25),0)] []),
   oo 7 (.move (tq 26) false)])
 (.seq (.reg [oo 27 (.load true 2 (tq 5) false),
   oo 28 (.move (tq 7) false),
   oo 29 (.call 105 [((tq 27),0),((tq 28),0)] []),
   oo 30 (.bin .rem (tq 29) (.const (.sc (.int .u64 64)))),
   oo 31 (.conv .i64 (tq 30)),
   oo 4 (.move (tq 31) false)])
 .ret)))))⟩
def zlH:Hint:=⟨[],[],[none],[],[],false,false⟩
def zib:Nat→Sh:=zV [(13,(.int .u32)),(16,(.int .u16))]
def zie (zak:zmm) (yB:zdW) (yX:zjr) (z7:zm0) (zb:yn) (L:Nat):CBC:=(xA 269 (zcR zb L) (xA 105 (zsG z7 L) (xA 205 (zjq yX L) (xA 157 (zgK yB L) (xA 109 (zsR zak L) noC)))))
def zjc {β:Type} (zak:zmm) (yB:zdW) (yX:zjr) (z7:zm0) (zb:yn) (L:Nat) (p0 p1:List V) (k_fin:Int→Option β):Option β :=
 chk (0+32≤(List.length p0)) (
 zak β L (List.take 32 p0) (fun v0 =>
 chk ((List.length v0)=2∧0+2≤2) (
 lt (yk [(V.sc (.int .u64 (0:Int))),(V.sc (.int .u64 (0:Int)))] 0 v0) fun r1 =>
 chk (0+2≤(List.length r1)) (
 cI .u32 p1 0 fun v2 =>
 yB β L (zp 1 1 [(V.sc (.int .u8 (4:Int)))]) v2 (fun v3 =>
 cI .u16 p1 1 fun v4 =>
 yX β L v3 v4 (fun v5 =>
 z7 β L (List.take 2 r1) v5 (fun v6 =>
 lt (Int.tmod v6 (4:Int)) fun x7 =>
 chk (0+3≤(List.length p1)) (
 zb β L (List.take 3 p1) (fun v8 =>
 yB β L (zp 1 1 [(V.sc (.int .u8 (3:Int)))]) v8 (fun v9 =>
 lt (IntKind.wrap .u32 x7) fun x10 =>
 yB β L v9 x10 (fun v11 =>
 chk (0+2≤(List.length r1)) (
 z7 β L (List.take 2 r1) v11 (fun v12 =>
 lt (Int.tmod v12 (64:Int)) fun x13 =>
 lt (IntKind.wrap .i64 x13) fun x14 =>
 k_fin x14)))))))))))))
theorem ztC {β:Type} (zak:zmm) (yB:zdW) (yX:zjr) (z7:zm0) (zb:yn) (L:Nat) (p0 p1:List V) (k:KK β):xr zib (zie zak yB yX z7 zb L) L zfg [(V.agg p0),(V.agg p1)] [] k=zjc zak yB yX z7 zb L p0 p1 (fun p0=>k (V.sc (.int .i64 p0)) []):=by kernel_rfl
abbrev zfH:=∀ (β:Type),Nat→List V→List V→(Int→Option β)→Option β
def zM (β:Type) (L:Nat) (p0 p1:List V) (k_fin:Int→Option β):Option β:=zjc zak yB yX z7 zb L p0 p1 k_fin
def zfP (zM:zfH) (L:Nat) (β:Type) (args:List V) (bor:Bor) (k:KK β):Option β:=match args,bor with
 | [a0,a1],[]=>aG a0 fun p0=>aG a1 fun p1=>zM β L p0 p1 (fun p0=>k (V.sc (.int .i64 p0)) [])
 | _,_=>none
theorem ztK (L:Nat) (β:Type) (args:List V) (bor:Bor) (k:KK β) (r:β) (h:zfP zM L β args bor k=some r):xr zib (zie zak yB yX z7 zb L) L zfg args bor k=some r:=by
 unfold zfP at h
 split at h
 ·have q:=y5 h; clear h; obtain ⟨p0,rfl,h⟩:=q
  have q:=y5 h; clear h; obtain ⟨p1,rfl,h⟩:=q
  exact (ztC zak yB yX z7 zb L p0 p1 k).trans h
 ·cases h
def zhS:CF:=⟨9,[.tmp 3],
 (.seq (.reg [oo 2 (.box true (tq 0)),
   oo 3 (.move (.const (.sc (.int .i64 0))) false)])
 (.seq (.reg [oo 4 (.fieldAddr 0 (tq 1)),
   oo 5 (.load true 32 (tq 4) false),
   oo 6 (.fieldAddr 1 (tq 2)),
   oo 7 (.load true 3 (tq 6) false),
   oo 8 (.call 299 [((tq 5),0),((tq 7),0)] []),
   oo 3 (.move (tq 8) false)])
 .ret))⟩
def zpG:Hint:=⟨[],[],[none],[],[],false,false⟩
def zlj:Nat→Sh:=zV []
def zlp (zM:zfH) (L:Nat):CBC:=(xA 299 (zfP zM L) noC)
def zmo {β:Type} (zM:zfH) (L:Nat) (p0 b0:List V) (k_fin:Int→List V→Option β):Option β :=
 chk (0+32≤(List.length b0)) (
 chk (1+3≤(List.length p0)) (
 zM β L (List.take 32 b0) (List.take 3 (List.drop 1 p0)) (fun v0 =>
 k_fin v0 b0)))
theorem zwU {β:Type} (zM:zfH) (L:Nat) (p0 b0:List V) (k:KK β):xr zlj (zlp zM L) L zhS [(V.agg p0),(V.ptr 0 0)] [(.live true b0)] k=zmo zM L p0 b0 (fun p0 b0=>k (V.sc (.int .i64 p0)) [(.live true b0)]):=by kernel_rfl
abbrev zaa:=∀ (β:Type),Nat→List V→List V→(Int→List V→Option β)→Option β
def xm (β:Type) (L:Nat) (p0 b0:List V) (k_fin:Int→List V→Option β):Option β:=zmo zM L p0 b0 k_fin
def zik (xm:zaa) (L:Nat) (β:Type) (args:List V) (bor:Bor) (k:KK β):Option β:=match args,bor with
 | [a0,a1],[(.live true b0)]=>aG a0 fun p0=>aP 0 0 a1 (xm β L p0 b0 (fun p0 b0=>k (V.sc (.int .i64 p0)) [(.live true b0)]))
 | _,_=>none
theorem zw2 (L:Nat) (β:Type) (args:List V) (bor:Bor) (k:KK β) (r:β) (h:zik xm L β args bor k=some r):xr zlj (zlp zM L) L zhS args bor k=some r:=by
 unfold zik at h
 split at h
 ·have q:=y5 h; clear h; obtain ⟨p0,rfl,h⟩:=q
  have q:=zkV h; clear h; obtain ⟨rfl,h⟩:=q
  exact (zwU zM L p0 _ k).trans h
 ·cases h
def zeL:CC:=(.seq (.reg [oo 18 (.bin .lss (tq 17) (tq 16))])
 (.seq (.cond (tq 18)
 .skip
 (.seq (.mask (bl 0 58) (bl 288230375077966399 58))
 (.exit 0)))
 (.seq (.block 1 (.seq (.reg [oo 19 (.indexAddrS 5 (tq 15) (tq 17)),
   oo 20 (.load true 5 (tq 19) false),
   oo 10 (.alloc true [(.sc (.int .i64 0)),(.sc (.int .u32 0)),(.sc (.int .u16 0)),(.sc (.int .u32 0)),(.sc (.int .u32 0))]),
   oz (.store 5 (tq 10) (tq 20))])
 (.seq (.seq (.dreg [] [(oo 21 (.fieldAddr 0 (tq 10)),q0),
   (oo 22 (.load false 1 (tq 21) false),q0),
   (oo 23 (.move (tq 7) false),q0),
   (oo 24 (.bin .lss (tq 22) (tq 23)),q0),
   (oo 25 (.move (tq 24) false),q0),
   (⟨(some 26),false,(some (25,false)),.fieldAddr 0 (tq 10)⟩,q0),
   (⟨(some 27),false,(some (25,false)),.load false 1 (tq 26) false⟩,ql 10 [] []),
   (⟨(some 28),false,(some (25,false)),.move (tq 2) false⟩,q0),
   (⟨(some 29),false,(some (25,false)),.load true 5 (tq 10) false⟩,ql 10 [] []),
   (⟨(some 30),false,(some (25,false)),.callv (tq 28) [((tq 29),0)] []⟩,qc [10] []),
   (⟨(some 31),false,(some (25,false)),.bin .neq (tq 27) (tq 30)⟩,q0),
   (oo 32 (.pick (tq 25) (.const (.sc (.bool true))) (tq 31)),q0)])
 (.cond (tq 32)
 (.seq (.reg [oo 6 (.move (.const (.sc (.bool false))) false)])
 (.seq (.mask (bl 64 58) (bl 288230375077966463 58))
 .ret))
 .skip))
 (.seq (.seq (.reg [oo 33 (.fieldAddr 0 (tq 10)),
   oo 34 (.load false 1 (tq 33) false),
   oo 35 (.move (tq 7) false),
   oo 36 (.bin .neq (tq 34) (tq 35))])
 (.cond (tq 36)
 (.reg [oo 37 (.fieldAddr 0 (tq 10)),
   oo 38 (.load false 1 (tq 37) false),
   oo 7 (.move (tq 38) false),
   oo 8 (.move (.const (.sc (.int .i64 0))) false)])
 .skip))
 (.seq (.reg [oo 39 (.move (tq 8) false),
   oo 40 (.bin .add (tq 39) (.const (.sc (.int .i64 1)))),
   oo 8 (.move (tq 40) false)])
 (.seq (.reg [oo 41 (.fieldAddr 1 (tq 10)),
   oo 42 (.fieldAddr 0 (tq 41)),
   oo 43 (.load false 1 (tq 42) false),
   oo 44 (.fieldAddr 1 (tq 10)),
   oo 45 (.fieldAddr 1 (tq 44)),
   oo 46 (.load false 1 (tq 45) false),
   oo 47 (.build [(.sc (.int .u32 0)),(.sc (.int .u16 0))] [(0,1,(tq 43)),(1,1,(tq 46))]),
   oo 11 (.alloc true [(.sc (.int .u32 0)),(.sc (.int .u16 0))]),
   oz (.store 2 (tq 11) (tq 47))])
 (.seq (.seq (.reg [oo 48 (.move (tq 8) false),
   oo 49 (.bin .gtr (tq 48) (.const (.sc (.int .i64 8)))),
   oo 50 (.move (tq 49) false),
   ⟨(some 51),false,(some (50,false)),.move (tq 1) false⟩,
   ⟨(some 52),false,(some (50,false)),.load true 2 (tq 11) false⟩,
   ⟨(some 53),false,(some (50,false)),.mlook 4 false (.sc (.bool false)) (tq 51) (tq 52)⟩,
   oo 54 (.pick (tq 50) (.const (.sc (.bool true))) (tq 53))])
 (.cond (tq 54)
 (.seq (.reg [oo 6 (.move (.const (.sc (.bool false))) false)])
 (.seq (.mask (bl 64 58) (bl 288230375077966463 58))
 .ret))
 .skip))
 (.reg [oo 55 (.move (tq 1) false),
   oo 56 (.load true 2 (tq 11) false),
   oz (.mput 4 (tq 55) (tq 56) (.const (.sc (.bool true))))]))))))))
 (.reg [oo 57 (.bin .add (tq 17) (.const (.sc (.int .i64 1)))),
   oo 17 (.move (tq 57) false)]))))
def zja:CC:=(.seq (.reg [oo 6 (.move (.const (.sc (.bool true))) false)])
 .ret)
def zd6:CF:=zcc
def zaR:Nat→Sh:=zV [(22,(.int .i64)),(27,(.int .i64)),(34,(.int .i64)),(38,(.int .i64)),(43,(.int .u32)),(46,(.int .u16)),(53,.bool)]
def zaS (xm:zaa) (L:Nat):CBC:=(xA 298 (zik xm L) noC)
def ze1:St→St:=zaE 2 (bl 229766 58) (bl 288230375077966783 58)
def zdX (p7 p8:Int) (p15:List (List V)) (p16 p17:Int) (b0:List (V × V)) (b1:List V):St:=⟨(jn 1 ((V.mp 0)::((V.fn 298 [(V.ptr 1 0)])::(jn 4 ((V.sc (.int .i64 p7))::((V.sc (.int .i64 p8))::(jn 6 ((V.sl 5 p15)::((V.sc (.int .i64 p16))::((V.sc (.int .i64 p17))::(jn 40 []))))))))))),((.mp b0)::((.live true b1)::(gn 58 [])))⟩
def zh9 (p6:Bool) (b0:List (V × V)) (b1:List V):St:=⟨(jn 6 ((V.sc (.bool p6))::(jn 51 []))),((.mp b0)::((.live true b1)::(gn 58 [])))⟩
def zi1 (b0:List (V × V)) (b1:List V):St:=⟨(jn 58 []),((.mp b0)::((.live true b1)::(gn 58 [])))⟩
abbrev zl2 (β:Type):Type:=Int→Int→List (List V)→Int→Int→List (V × V)→List V→Option β
def zmn {β:Type} (xm:zaa) (L:Nat) (p0:List (List V)) (b0:List (V × V)) (b1:List V) (k_fin:Bool→List (V × V)→List V→Option β) (k_hbbbaba:zl2 β):Option β :=
 ifb (decide (((List.length p0:Nat):Int) > (512:Int))) (
 k_fin false b0 b1) (
 k_hbbbaba (-1:Int) (0:Int) p0 ((List.length p0:Nat):Int) (0:Int) b0 b1)
theorem zxh {β:Type} (xm:zaa) (L:Nat) (p0:List (List V)) (b0:List (V × V)) (b1:List V) (k:KK β):xr zaR (zaS xm L) L zd6 [(V.sl 5 p0),(V.mp 0),(V.fn 298 [(V.ptr 1 0)])] [(.mp b0),(.live true b1)] k=zmn xm L p0 b0 b1 (fun p0 b0 b1=>k (V.sc (.bool p0)) [(.mp b0),(.live true b1)]) (fun p7 p8 p15 p16 p17 b0 b1=>xy (yj zaR (zaS xm L) 2 L zeL) ze1 L (zdX p7 p8 p15 p16 p17 b0 b1) (zx 0 (yI (yj zaR (zaS xm L) 2 L zja) (zN 2 (CF.res zd6) k)))):=by kernel_rfl
def zhK {β:Type} (xm:zaa) (L:Nat) (p7 p8:Int) (p15:List (List V)) (p16 p17:Int) (b0:List (V × V)) (b1:List V) (k_ret:Bool→List (V × V)→List V→Option β) (k_hbbbaba:zl2 β) (k_x0:List (V × V)→List V→Option β):Option β :=
 ifb (decide (p17 < p16)) (
 idx p15 p17 fun c0 =>
 chk ((List.length (List.take 5 c0))=5∧0+5≤5) (
 lt (yk [(V.sc (.int .i64 (0:Int))),(V.sc (.int .u32 (0:Int))),(V.sc (.int .u16 (0:Int))),(V.sc (.int .u32 (0:Int))),(V.sc (.int .u32 (0:Int)))] 0 (List.take 5 c0)) fun r1 =>
 cI .i64 r1 0 fun v2 =>
 ifb (decide (v2 < p7)) (
 k_ret false b0 b1) (
 cI .i64 r1 0 fun v3 =>
 chk (0+5≤(List.length r1)) (
 xm β L (List.take 5 r1) b1 (fun v4 v5 =>
 chk ([(List.length v5)]=[(List.length b1)]) (
 ifb ((v3:Int) != v4) (
 k_ret false b0 v5) (
 cI .i64 r1 0 fun v6 =>
 ifb ((v6:Int) != p7) (
 cI .i64 r1 0 fun v7 =>
 lt (IntKind.wrap .i64 (((0:Int):Int)+(1:Int))) fun x8 =>
 cI .u32 r1 1 fun v9 =>
 cI .u16 r1 2 fun v10 =>
 lt [(V.sc (.int .u32 v9)),(V.sc (.int .u16 v10))] fun r11 =>
 ifb (decide (x8 > (8:Int))) (
 k_ret false b0 v5) (
 chk (0+2≤(List.length r11)) (
 mAt 4 (V.agg (List.take 2 r11)) b0 fun q12 =>
 aB (Option.getD q12 (V.sc (.bool false))) fun v13 =>
 ifb v13 (
 k_ret false b0 v5) (
 chk (0+2≤(List.length r11)) (
 zwC 4 (V.agg (List.take 2 r11)) (V.sc (.bool true)) b0 fun m14 =>
 lt (IntKind.wrap .i64 ((p17:Int)+(1:Int))) fun x15 =>
 k_hbbbaba v7 x8 p15 p16 x15 m14 v5))))) (
 lt (IntKind.wrap .i64 ((p8:Int)+(1:Int))) fun x16 =>
 cI .u32 r1 1 fun v17 =>
 cI .u16 r1 2 fun v18 =>
 lt [(V.sc (.int .u32 v17)),(V.sc (.int .u16 v18))] fun r19 =>
 ifb (decide (x16 > (8:Int))) (
 k_ret false b0 v5) (
 chk (0+2≤(List.length r19)) (
 mAt 4 (V.agg (List.take 2 r19)) b0 fun q20 =>
 aB (Option.getD q20 (V.sc (.bool false))) fun v21 =>
 ifb v21 (
 k_ret false b0 v5) (
 chk (0+2≤(List.length r19)) (
 zwC 4 (V.agg (List.take 2 r19)) (V.sc (.bool true)) b0 fun m22 =>
 lt (IntKind.wrap .i64 ((p17:Int)+(1:Int))) fun x23 =>
 k_hbbbaba p7 x16 p15 p16 x23 m22 v5)))))))))))) (
 k_x0 b0 b1)
theorem zsq {β:Type} (xm:zaa) (L:Nat) (p7 p8:Int) (p15:List (List V)) (p16 p17:Int) (b0:List (V × V)) (b1:List V) (X:St→Option β) (K:KT β):yj zaR (zaS xm L) 2 L zeL (zdX p7 p8 p15 p16 p17 b0 b1) (zaz ze1 X K)=zhK xm L p7 p8 p15 p16 p17 b0 b1 (fun p6 b0 b1=>K .ret (zh9 p6 b0 b1)) (fun p7 p8 p15 p16 p17 b0 b1=>X (zdX p7 p8 p15 p16 p17 b0 b1)) (fun b0 b1=>K (.exit 0) (zi1 b0 b1)):=by kernel_rfl
def zga {β:Type} (xm:zaa) (L:Nat) (p6:Bool) (b0:List (V × V)) (b1:List V) (k_fin:Bool→List (V × V)→List V→Option β):Option β :=
 k_fin p6 b0 b1
theorem zqq {β:Type} (xm:zaa) (L:Nat) (p6:Bool) (b0:List (V × V)) (b1:List V) (k:KK β):(zx 0 (yI (yj zaR (zaS xm L) 2 L zja) (zN 2 (CF.res zd6) k))) .ret (zh9 p6 b0 b1)=zga xm L p6 b0 b1 (fun p0 b0 b1=>k (V.sc (.bool p0)) [(.mp b0),(.live true b1)]):=by kernel_rfl
def zgD {β:Type} (xm:zaa) (L:Nat) (b0:List (V × V)) (b1:List V) (k_fin:Bool→List (V × V)→List V→Option β):Option β :=
 k_fin true b0 b1
theorem zra {β:Type} (xm:zaa) (L:Nat) (b0:List (V × V)) (b1:List V) (k:KK β):(zx 0 (yI (yj zaR (zaS xm L) 2 L zja) (zN 2 (CF.res zd6) k))) (.exit 0) (zi1 b0 b1)=zgD xm L b0 b1 (fun p0 b0 b1=>k (V.sc (.bool p0)) [(.mp b0),(.live true b1)]):=by kernel_rfl
def zco {β:Type} (xm:zaa) (L:Nat) (k_ret:Bool→List (V × V)→List V→Option β) (k_x0:List (V × V)→List V→Option β):Nat→Int→Int→List (List V)→Int→Int→List (V × V)→List V→Option β
 | 0,_,_,_,_,_,_,_=>none
 | n+1,p7,p8,p15,p16,p17,b0,b1=>zhK xm L p7 p8 p15 p16 p17 b0 b1 k_ret (fun p7 p8 p15 p16 p17 b0 b1=>zco xm L k_ret k_x0 n p7 p8 p15 p16 p17 b0 b1) k_x0
theorem zj8 {β:Type} (xm:zaa) (L:Nat) (K:KT β):∀ (n:Nat) (p7 p8:Int) (p15:List (List V)) (p16 p17:Int) (b0:List (V × V)) (b1:List V),xy (yj zaR (zaS xm L) 2 L zeL) ze1 n (zdX p7 p8 p15 p16 p17 b0 b1) K=zco xm L (fun p6 b0 b1=>K .ret (zh9 p6 b0 b1)) (fun b0 b1=>K (.exit 0) (zi1 b0 b1)) n p7 p8 p15 p16 p17 b0 b1:=by
 intro n
 induction n with
 | zero=>intros; rfl
 | succ n ih =>
  intro p7 p8 p15 p16 p17 b0 b1
  refine (zsq xm L p7 p8 p15 p16 p17 b0 b1 (fun σ=>xy (yj zaR (zaS xm L) 2 L zeL) ze1 n σ K) K).trans ?_
  simp only [ih]
  rfl
def zis {β:Type} (xm:zaa) (L:Nat) (p0:List (List V)) (b0:List (V × V)) (b1:List V) (k_fin:Bool→List (V × V)→List V→Option β):Option β :=
 zmn xm L p0 b0 b1 k_fin (fun p7 p8 p15 p16 p17 b0 b1=>zco xm L (fun p6 b0 b1=>zga xm L p6 b0 b1 k_fin) (fun b0 b1=>zgD xm L b0 b1 k_fin) L p7 p8 p15 p16 p17 b0 b1)
theorem zxl {β:Type} (xm:zaa) (L:Nat) (p0:List (List V)) (b0:List (V × V)) (b1:List V) (k:KK β):xr zaR (zaS xm L) L zd6 [(V.sl 5 p0),(V.mp 0),(V.fn 298 [(V.ptr 1 0)])] [(.mp b0),(.live true b1)] k=zis xm L p0 b0 b1 (fun p0 b0 b1=>k (V.sc (.bool p0)) [(.mp b0),(.live true b1)]):=by
 refine (zxh xm L p0 b0 b1 k).trans ?_
 unfold zis
 first
  | (simp only [zj8,zqq,zra]; done)
  | (simp only [zj8]; rfl)
abbrev zim:=∀ (β:Type),Nat→List (List V)→List (V × V)→List V→(Bool→List (V × V)→List V→Option β)→Option β
def yT (β:Type) (L:Nat) (p0:List (List V)) (b0:List (V × V)) (b1:List V) (k_fin:Bool→List (V × V)→List V→Option β):Option β:=zis xm L p0 b0 b1 k_fin
def ziI (yT:zim) (L:Nat) (β:Type) (args:List V) (bor:Bor) (k:KK β):Option β:=match args,bor with
 | [a0,a1,a2],[(.mp b0),(.live true b1)]=>aL 5 a0 fun p0=>aM 0 a1 (aF 298 [(1,0)] a2 (yT β L p0 b0 b1 (fun p0 b0 b1=>k (V.sc (.bool p0)) [(.mp b0),(.live true b1)])))
 | _,_=>none
theorem zwL (L:Nat) (β:Type) (args:List V) (bor:Bor) (k:KK β) (r:β) (h:ziI yT L β args bor k=some r):xr zaR (zaS xm L) L zd6 args bor k=some r:=by
 unfold ziI at h
 split at h
 ·have q:=xP h; clear h; obtain ⟨p0,rfl,h⟩:=q
  have q:=zJD h; clear h; obtain ⟨rfl,h⟩:=q
  have q:=zwW h; clear h; obtain ⟨rfl,h⟩:=q
  exact (zxl xm L p0 _ _ k).trans h
 ·cases h
def zjl:CF:=⟨17,[.tmp 2],
 (.seq (.reg [oo 1 (.box true (tq 0)),
   oo 2 (.move (.const (.sc (.bool false))) false)])
 (.seq (.reg [oo 4 (.makeMap),
   oo 3 (.move (tq 4) false)])
 (.seq (.reg [oo 5 (.fieldAddr 32 (tq 1)),
   oo 6 (.load false 1 (tq 5) false),
   oo 7 (.move (tq 3) false),
   oo 8 (.makeFunc 296 [(tq 1)]),
   oo 9 (.call 295 [((tq 6),0),((tq 7),0),((tq 8),0)] []),
   oo 10 (.move (tq 9) false),
   ⟨(some 11),false,(some (10,true)),.fieldAddr 33 (tq 1)⟩,
   ⟨(some 12),false,(some (10,true)),.load false 1 (tq 11) false⟩,
   ⟨(some 13),false,(some (10,true)),.move (tq 3) false⟩,
   ⟨(some 14),false,(some (10,true)),.makeFunc 298 [(tq 1)]⟩,
   ⟨(some 15),false,(some (10,true)),.call 295 [((tq 12),0),((tq 13),0),((tq 14),0)] []⟩,
   oo 16 (.pick (tq 10) (tq 15) (.const (.sc (.bool false)))),
   oo 2 (.move (tq 16) false)])
 .ret)))⟩
def zri:Hint:=⟨[(0,0)],[],[none],[],[],false,false⟩
def znN:Nat→Sh:=zV [(6,(.sl 5)),(12,(.sl 5))]
def znO (xZ:zkn) (yT:zim) (L:Nat):CBC:=(zEN 295 [6,12,398,22,20] (ziI yT L) (zEN 295 [6,12,396,22,20] (zkN xZ L) noC))
def zo1 {β:Type} (xZ:zkn) (yT:zim) (L:Nat) (p0:List V) (k_fin:Bool→Option β):Option β :=
 cLd 5 p0 32 fun v0 =>
 xZ β L v0 ([]:List (V × V)) p0 (fun v1 v2 v3 =>
 chk ([0,(List.length v3)]=[0,(List.length p0)]) (
 ifb v1 (
 cLd 5 v3 33 fun v4 =>
 yT β L v4 v2 v3 (fun v5 v6 v7 =>
 chk ([0,(List.length v7)]=[0,(List.length v3)]) (
 k_fin v5))) (
 k_fin false)))
theorem zzl {β:Type} (xZ:zkn) (yT:zim) (L:Nat) (p0:List V) (k:KK β):xr znN (znO xZ yT L) L zjl [(V.agg p0)] [] k=zo1 xZ yT L p0 (fun p0=>k (V.sc (.bool p0)) []):=by kernel_rfl
abbrev zaD:=∀ (β:Type),Nat→List V→(Bool→Option β)→Option β
def xp (β:Type) (L:Nat) (p0:List V) (k_fin:Bool→Option β):Option β:=zo1 xZ yT L p0 k_fin
def zkI (xp:zaD) (L:Nat) (β:Type) (args:List V) (bor:Bor) (k:KK β):Option β:=match args,bor with
 | [a0],[]=>aG a0 fun p0=>xp β L p0 (fun p0=>k (V.sc (.bool p0)) [])
 | _,_=>none
theorem zzo (L:Nat) (β:Type) (args:List V) (bor:Bor) (k:KK β) (r:β) (h:zkI xp L β args bor k=some r):xr znN (znO xZ yT L) L zjl args bor k=some r:=by
 unfold zkI at h
 split at h
 ·have q:=y5 h; clear h; obtain ⟨p0,rfl,h⟩:=q
  exact (zzl xZ yT L p0 k).trans h
 ·cases h
def zhV:CF:=⟨6,[.tmp 2],
 (.seq (.reg [oo 1 (.box true (tq 0)),
   oo 2 (.move (.const (.sc (.bool false))) false)])
 (.seq (.reg [oo 3 (.fieldAddr 0 (tq 1)),
   oo 4 (.load false 1 (tq 3) false),
   oo 5 (.bin .eql (tq 4) (.const (.sc (.int .i64 1)))),
   oo 2 (.move (tq 5) false)])
 .ret))⟩
def zpk:Hint:=⟨[],[],[none],[],[],false,false⟩
def zld:Nat→Sh:=zV [(4,(.int .i64))]
def zlo (L:Nat):CBC:=noC
def zl8 {β:Type} (L:Nat) (p0:List V) (k_fin:Bool→Option β):Option β :=
 cI .i64 p0 0 fun v0 =>
 k_fin ((v0:Int) == (1:Int))
theorem zxz {β:Type} (L:Nat) (p0:List V) (k:KK β):xr zld (zlo L) L zhV [(V.agg p0)] [] k=zl8 L p0 (fun p0=>k (V.sc (.bool p0)) []):=by kernel_rfl
abbrev zaN:=∀ (β:Type),Nat→List V→(Bool→Option β)→Option β
def zr (β:Type) (L:Nat) (p0:List V) (k_fin:Bool→Option β):Option β:=zl8 L p0 k_fin
def zir (zr:zaN) (L:Nat) (β:Type) (args:List V) (bor:Bor) (k:KK β):Option β:=match args,bor with
 | [a0],[]=>aG a0 fun p0=>zr β L p0 (fun p0=>k (V.sc (.bool p0)) [])
 | _,_=>none
theorem zwS (L:Nat) (β:Type) (args:List V) (bor:Bor) (k:KK β) (r:β) (h:zir zr L β args bor k=some r):xr zld (zlo L) L zhV args bor k=some r:=by
 unfold zir at h
 split at h
 ·have q:=y5 h; clear h; obtain ⟨p0,rfl,h⟩:=q
  exact (zxz L p0 k).trans h
 ·cases h
def zeH:CC:=(.seq (.reg [oo 11 (.bin .lss (tq 10) (tq 9))])
 (.seq (.cond (tq 11)
 .skip
 (.seq (.mask (bl 32 21) (bl 2031487 21))
 (.exit 0)))
 (.seq (.block 1 (.seq (.reg [oo 12 (.indexAddrS 4 (tq 8) (tq 10)),
   oo 13 (.load true 4 (tq 12) false),
   oo 7 (.alloc true [(.sc (.int .i64 0)),(.sc (.int .u32 0)),(.sc (.int .u16 0)),(.sc (.int .u32 0))]),
   oz (.store 4 (tq 7) (tq 13))])
 (.seq (.reg [oo 14 (.move (tq 1) false),
   oo 15 (.load true 4 (tq 7) false),
   oo 16 (.callv (tq 14) [((tq 15),0)] [])])
 (.cond (tq 16)
 (.reg [oo 17 (.move (tq 5) false),
   oo 18 (.bin .add (tq 17) (.const (.sc (.int .i64 1)))),
   oo 5 (.move (tq 18) false)])
 .skip))))
 (.reg [oo 19 (.bin .add (tq 10) (.const (.sc (.int .i64 1)))),
   oo 10 (.move (tq 19) false)]))))
def zml:CC:=(.seq (.reg [oo 20 (.move (tq 5) false),
   oo 4 (.move (tq 20) false)])
 .ret)
def zdq:CF:=⟨21,[.tmp 4],
 (.seq (.reg [oo 4 (.move (.const (.sc (.int .i64 0))) false)])
 (.seq (.reg [oo 5 (.move (.const (.sc (.int .i64 0))) false)])
 (.seq (.seq (.reg [oo 8 (.move (tq 0) false),
   oo 9 (.lenS (tq 8)),
   oo 10 (.move (.const (.sc (.int .i64 0))) false)])
 (.block 0 (.loop (bl 1826 21) (bl 2031487 21)
 zeH)))
 zml)))⟩
def zsH:Hint:=⟨[],[],[none,some ((bl 1826 21),(bl 2031487 21)),none,some ((bl 32 21),(bl 2031487 21)),none,none,none],[],[],false,false⟩
def zbZ:Nat→Sh:=zV []
def zb2 (zr:zaN) (L:Nat):CBC:=(xA 277 (zir zr L) noC)
def zhe:St→St:=zaE 0 (bl 1826 21) (bl 2031487 21)
def zfe (p5:Int) (p8:List (List V)) (p9 p10:Int):St:=⟨(jn 1 ((V.fn 277 [])::(jn 3 ((V.sc (.int .i64 p5))::(jn 2 ((V.sl 4 p8)::((V.sc (.int .i64 p9))::((V.sc (.int .i64 p10))::(jn 10 []))))))))),(gn 21 [])⟩
def zlg (p5:Int):St:=⟨(jn 5 ((V.sc (.int .i64 p5))::(jn 15 []))),(gn 21 [])⟩
def zp4 {β:Type} (zr:zaN) (L:Nat) (p0:List (List V)) (k_hbbaba:Int→List (List V)→Int→Int→Option β):Option β :=
 k_hbbaba (0:Int) p0 ((List.length p0:Nat):Int) (0:Int)
theorem zz0 {β:Type} (zr:zaN) (L:Nat) (p0:List (List V)) (k:KK β):xr zbZ (zb2 zr L) L zdq [(V.sl 4 p0),(V.fn 277 [])] [] k=zp4 zr L p0 (fun p5 p8 p9 p10=>xy (yj zbZ (zb2 zr L) 0 L zeH) zhe L (zfe p5 p8 p9 p10) (zx 0 (yI (yj zbZ (zb2 zr L) 0 L zml) (zN 0 (CF.res zdq) k)))):=by kernel_rfl
def zkG {β:Type} (zr:zaN) (L:Nat) (p5:Int) (p8:List (List V)) (p9 p10:Int) (k_hbbaba:Int→List (List V)→Int→Int→Option β) (k_x0:Int→Option β):Option β :=
 ifb (decide (p10 < p9)) (
 idx p8 p10 fun c0 =>
 chk ((List.length (List.take 4 c0))=4∧0+4≤4) (
 lt (yk [(V.sc (.int .i64 (0:Int))),(V.sc (.int .u32 (0:Int))),(V.sc (.int .u16 (0:Int))),(V.sc (.int .u32 (0:Int)))] 0 (List.take 4 c0)) fun r1 =>
 chk (0+4≤(List.length r1)) (
 zr β L (List.take 4 r1) (fun v2 =>
 ifb v2 (
 lt (IntKind.wrap .i64 ((p5:Int)+(1:Int))) fun x3 =>
 lt (IntKind.wrap .i64 ((p10:Int)+(1:Int))) fun x4 =>
 k_hbbaba x3 p8 p9 x4) (
 lt (IntKind.wrap .i64 ((p10:Int)+(1:Int))) fun x5 =>
 k_hbbaba p5 p8 p9 x5))))) (
 k_x0 p5)
theorem zvz {β:Type} (zr:zaN) (L:Nat) (p5:Int) (p8:List (List V)) (p9 p10:Int) (X:St→Option β) (K:KT β):yj zbZ (zb2 zr L) 0 L zeH (zfe p5 p8 p9 p10) (zaz zhe X K)=zkG zr L p5 p8 p9 p10 (fun p5 p8 p9 p10=>X (zfe p5 p8 p9 p10)) (fun p5=>K (.exit 0) (zlg p5)):=by kernel_rfl
def zok {β:Type} (zr:zaN) (L:Nat) (p5:Int) (k_fin:Int→Option β):Option β :=
 k_fin p5
theorem ztV {β:Type} (zr:zaN) (L:Nat) (p5:Int) (k:KK β):(zx 0 (yI (yj zbZ (zb2 zr L) 0 L zml) (zN 0 (CF.res zdq) k))) (.exit 0) (zlg p5)=zok zr L p5 (fun p0=>k (V.sc (.int .i64 p0)) []):=by kernel_rfl
def zeY {β:Type} (zr:zaN) (L:Nat) (k_x0:Int→Option β):Nat→Int→List (List V)→Int→Int→Option β
 | 0,_,_,_,_=>none
 | n+1,p5,p8,p9,p10=>zkG zr L p5 p8 p9 p10 (fun p5 p8 p9 p10=>zeY zr L k_x0 n p5 p8 p9 p10) k_x0
theorem znz {β:Type} (zr:zaN) (L:Nat) (K:KT β):∀ (n:Nat) (p5:Int) (p8:List (List V)) (p9 p10:Int),xy (yj zbZ (zb2 zr L) 0 L zeH) zhe n (zfe p5 p8 p9 p10) K=zeY zr L (fun p5=>K (.exit 0) (zlg p5)) n p5 p8 p9 p10:=by
 intro n
 induction n with
 | zero=>intros; rfl
 | succ n ih =>
  intro p5 p8 p9 p10
  refine (zvz zr L p5 p8 p9 p10 (fun σ=>xy (yj zbZ (zb2 zr L) 0 L zeH) zhe n σ K) K).trans ?_
  simp only [ih]
  rfl
def zly {β:Type} (zr:zaN) (L:Nat) (p0:List (List V)) (k_fin:Int→Option β):Option β :=
 zp4 zr L p0 (fun p5 p8 p9 p10=>zeY zr L (fun p5=>zok zr L p5 k_fin) L p5 p8 p9 p10)
theorem zz5 {β:Type} (zr:zaN) (L:Nat) (p0:List (List V)) (k:KK β):xr zbZ (zb2 zr L) L zdq [(V.sl 4 p0),(V.fn 277 [])] [] k=zly zr L p0 (fun p0=>k (V.sc (.int .i64 p0)) []):=by
 refine (zz0 zr L p0 k).trans ?_
 unfold zly
 first
  | (simp only [znz,ztV]; done)
  | (simp only [znz]; rfl)
abbrev zaW:=∀ (β:Type),Nat→List (List V)→(Int→Option β)→Option β
def zs (β:Type) (L:Nat) (p0:List (List V)) (k_fin:Int→Option β):Option β:=zly zr L p0 k_fin
def zlw (zs:zaW) (L:Nat) (β:Type) (args:List V) (bor:Bor) (k:KK β):Option β:=match args,bor with
 | [a0,a1],[]=>aL 4 a0 fun p0=>aF 277 [] a1 (zs β L p0 (fun p0=>k (V.sc (.int .i64 p0)) []))
 | _,_=>none
theorem zzP (L:Nat) (β:Type) (args:List V) (bor:Bor) (k:KK β) (r:β) (h:zlw zs L β args bor k=some r):xr zbZ (zb2 zr L) L zdq args bor k=some r:=by
 unfold zlw at h
 split at h
 ·have q:=xP h; clear h; obtain ⟨p0,rfl,h⟩:=q
  have q:=zwW h; clear h; obtain ⟨rfl,h⟩:=q
  exact (zz5 zr L p0 k).trans h
 ·cases h
def zhX:CF:=⟨6,[.tmp 2],
 (.seq (.reg [oo 1 (.box true (tq 0)),
   oo 2 (.move (.const (.sc (.bool false))) false)])
 (.seq (.reg [oo 3 (.fieldAddr 0 (tq 1)),
   oo 4 (.load false 1 (tq 3) false),
   oo 5 (.bin .eql (tq 4) (.const (.sc (.int .i64 3)))),
   oo 2 (.move (tq 5) false)])
 .ret))⟩
def zpq:Hint:=⟨[],[],[none],[],[],false,false⟩
def zlq:Nat→Sh:=zV [(4,(.int .i64))]
def zlt (L:Nat):CBC:=noC
def zmx {β:Type} (L:Nat) (p0:List V) (k_fin:Bool→Option β):Option β :=
 cI .i64 p0 0 fun v0 =>
 k_fin ((v0:Int) == (3:Int))
theorem zxt {β:Type} (L:Nat) (p0:List V) (k:KK β):xr zlq (zlt L) L zhX [(V.agg p0)] [] k=zmx L p0 (fun p0=>k (V.sc (.bool p0)) []):=by kernel_rfl
abbrev zaL:=∀ (β:Type),Nat→List V→(Bool→Option β)→Option β
def yr (β:Type) (L:Nat) (p0:List V) (k_fin:Bool→Option β):Option β:=zmx L p0 k_fin
def zip (yr:zaL) (L:Nat) (β:Type) (args:List V) (bor:Bor) (k:KK β):Option β:=match args,bor with
 | [a0],[]=>aG a0 fun p0=>yr β L p0 (fun p0=>k (V.sc (.bool p0)) [])
 | _,_=>none
theorem zxy (L:Nat) (β:Type) (args:List V) (bor:Bor) (k:KK β) (r:β) (h:zip yr L β args bor k=some r):xr zlq (zlt L) L zhX args bor k=some r:=by
 unfold zip at h
 split at h
 ·have q:=y5 h; clear h; obtain ⟨p0,rfl,h⟩:=q
  exact (zxt L p0 k).trans h
 ·cases h
def zfh:CC:=(.seq (.reg [oo 11 (.bin .lss (tq 10) (tq 9))])
 (.seq (.cond (tq 11)
 .skip
 (.seq (.mask (bl 32 21) (bl 2031487 21))
 (.exit 0)))
 (.seq (.block 1 (.seq (.reg [oo 12 (.indexAddrS 4 (tq 8) (tq 10)),
   oo 13 (.load true 4 (tq 12) false),
   oo 7 (.alloc true [(.sc (.int .i64 0)),(.sc (.int .u32 0)),(.sc (.int .u16 0)),(.sc (.int .u32 0))]),
   oz (.store 4 (tq 7) (tq 13))])
 (.seq (.reg [oo 14 (.move (tq 1) false),
   oo 15 (.load true 4 (tq 7) false),
   oo 16 (.callv (tq 14) [((tq 15),0)] [])])
 (.cond (tq 16)
 (.reg [oo 17 (.move (tq 5) false),
   oo 18 (.bin .add (tq 17) (.const (.sc (.int .i64 1)))),
   oo 5 (.move (tq 18) false)])
 .skip))))
 (.reg [oo 19 (.bin .add (tq 10) (.const (.sc (.int .i64 1)))),
   oo 10 (.move (tq 19) false)]))))
def zq4:CC:=(.seq (.reg [oo 20 (.move (tq 5) false),
   oo 4 (.move (tq 20) false)])
 .ret)
def zf5:CF:=zdq
def zbr:Nat→Sh:=zV []
def zbs (yr:zaL) (L:Nat):CBC:=(xA 279 (zip yr L) noC)
def zfL:St→St:=zaE 0 (bl 1826 21) (bl 2031487 21)
def zeN (p5:Int) (p8:List (List V)) (p9 p10:Int):St:=⟨(jn 1 ((V.fn 279 [])::(jn 3 ((V.sc (.int .i64 p5))::(jn 2 ((V.sl 4 p8)::((V.sc (.int .i64 p9))::((V.sc (.int .i64 p10))::(jn 10 []))))))))),(gn 21 [])⟩
def zjP (p5:Int):St:=⟨(jn 5 ((V.sc (.int .i64 p5))::(jn 15 []))),(gn 21 [])⟩
def znH {β:Type} (yr:zaL) (L:Nat) (p0:List (List V)) (k_hbbaba:Int→List (List V)→Int→Int→Option β):Option β :=
 k_hbbaba (0:Int) p0 ((List.length p0:Nat):Int) (0:Int)
theorem zxV {β:Type} (yr:zaL) (L:Nat) (p0:List (List V)) (k:KK β):xr zbr (zbs yr L) L zf5 [(V.sl 4 p0),(V.fn 279 [])] [] k=znH yr L p0 (fun p5 p8 p9 p10=>xy (yj zbr (zbs yr L) 0 L zfh) zfL L (zeN p5 p8 p9 p10) (zx 0 (yI (yj zbr (zbs yr L) 0 L zq4) (zN 0 (CF.res zf5) k)))):=by kernel_rfl
def zi0 {β:Type} (yr:zaL) (L:Nat) (p5:Int) (p8:List (List V)) (p9 p10:Int) (k_hbbaba:Int→List (List V)→Int→Int→Option β) (k_x0:Int→Option β):Option β :=
 ifb (decide (p10 < p9)) (
 idx p8 p10 fun c0 =>
 chk ((List.length (List.take 4 c0))=4∧0+4≤4) (
 lt (yk [(V.sc (.int .i64 (0:Int))),(V.sc (.int .u32 (0:Int))),(V.sc (.int .u16 (0:Int))),(V.sc (.int .u32 (0:Int)))] 0 (List.take 4 c0)) fun r1 =>
 chk (0+4≤(List.length r1)) (
 yr β L (List.take 4 r1) (fun v2 =>
 ifb v2 (
 lt (IntKind.wrap .i64 ((p5:Int)+(1:Int))) fun x3 =>
 lt (IntKind.wrap .i64 ((p10:Int)+(1:Int))) fun x4 =>
 k_hbbaba x3 p8 p9 x4) (
 lt (IntKind.wrap .i64 ((p10:Int)+(1:Int))) fun x5 =>
 k_hbbaba p5 p8 p9 x5))))) (
 k_x0 p5)
theorem zt1 {β:Type} (yr:zaL) (L:Nat) (p5:Int) (p8:List (List V)) (p9 p10:Int) (X:St→Option β) (K:KT β):yj zbr (zbs yr L) 0 L zfh (zeN p5 p8 p9 p10) (zaz zfL X K)=zi0 yr L p5 p8 p9 p10 (fun p5 p8 p9 p10=>X (zeN p5 p8 p9 p10)) (fun p5=>K (.exit 0) (zjP p5)):=by kernel_rfl
def zmU {β:Type} (yr:zaL) (L:Nat) (p5:Int) (k_fin:Int→Option β):Option β :=
 k_fin p5
theorem zsI {β:Type} (yr:zaL) (L:Nat) (p5:Int) (k:KK β):(zx 0 (yI (yj zbr (zbs yr L) 0 L zq4) (zN 0 (CF.res zf5) k))) (.exit 0) (zjP p5)=zmU yr L p5 (fun p0=>k (V.sc (.int .i64 p0)) []):=by kernel_rfl
def zeb {β:Type} (yr:zaL) (L:Nat) (k_x0:Int→Option β):Nat→Int→List (List V)→Int→Int→Option β
 | 0,_,_,_,_=>none
 | n+1,p5,p8,p9,p10=>zi0 yr L p5 p8 p9 p10 (fun p5 p8 p9 p10=>zeb yr L k_x0 n p5 p8 p9 p10) k_x0
theorem zlM {β:Type} (yr:zaL) (L:Nat) (K:KT β):∀ (n:Nat) (p5:Int) (p8:List (List V)) (p9 p10:Int),xy (yj zbr (zbs yr L) 0 L zfh) zfL n (zeN p5 p8 p9 p10) K=zeb yr L (fun p5=>K (.exit 0) (zjP p5)) n p5 p8 p9 p10:=by
 intro n
 induction n with
 | zero=>intros; rfl
 | succ n ih =>
  intro p5 p8 p9 p10
  refine (zt1 yr L p5 p8 p9 p10 (fun σ=>xy (yj zbr (zbs yr L) 0 L zfh) zfL n σ K) K).trans ?_
  simp only [ih]
  rfl
def zjv {β:Type} (yr:zaL) (L:Nat) (p0:List (List V)) (k_fin:Int→Option β):Option β :=
 znH yr L p0 (fun p5 p8 p9 p10=>zeb yr L (fun p5=>zmU yr L p5 k_fin) L p5 p8 p9 p10)
theorem zxI {β:Type} (yr:zaL) (L:Nat) (p0:List (List V)) (k:KK β):xr zbr (zbs yr L) L zf5 [(V.sl 4 p0),(V.fn 279 [])] [] k=zjv yr L p0 (fun p0=>k (V.sc (.int .i64 p0)) []):=by
 refine (zxV yr L p0 k).trans ?_
 unfold zjv
 first
  | (simp only [zlM,zsI]; done)
  | (simp only [zlM]; rfl)
abbrev zas:=∀ (β:Type),Nat→List (List V)→(Int→Option β)→Option β
def yo (β:Type) (L:Nat) (p0:List (List V)) (k_fin:Int→Option β):Option β:=zjv yr L p0 k_fin
def zjy (yo:zas) (L:Nat) (β:Type) (args:List V) (bor:Bor) (k:KK β):Option β:=match args,bor with
 | [a0,a1],[]=>aL 4 a0 fun p0=>aF 279 [] a1 (yo β L p0 (fun p0=>k (V.sc (.int .i64 p0)) []))
 | _,_=>none
theorem zxY (L:Nat) (β:Type) (args:List V) (bor:Bor) (k:KK β) (r:β) (h:zjy yo L β args bor k=some r):xr zbr (zbs yr L) L zf5 args bor k=some r:=by
 unfold zjy at h
 split at h
 ·have q:=xP h; clear h; obtain ⟨p0,rfl,h⟩:=q
  have q:=zwW h; clear h; obtain ⟨rfl,h⟩:=q
  exact (zxI yr L p0 k).trans h
 ·cases h
def zde:CC:=(.seq (.reg [oo 9 (.bin .lss (tq 8) (tq 7))])
 (.seq (.cond (tq 9)
 .skip
 (.seq (.mask (bl 0 23) (bl 5210079 23))
 (.exit 0)))
 (.seq (.block 1 (.seq (.reg [oo 10 (.indexAddrS 5 (tq 6) (tq 8)),
   oo 11 (.load true 5 (tq 10) false),
   oo 5 (.alloc true [(.sc (.int .i64 0)),(.sc (.int .u32 0)),(.sc (.int .u16 0)),(.sc (.int .u32 0)),(.sc (.int .u32 0))]),
   oz (.store 5 (tq 5) (tq 11))])
 (.seq (.reg [oo 12 (.load false 1 (tq 1) false),
   oo 13 (.fieldAddr 1 (tq 5)),
   oo 14 (.load true 3 (tq 13) false),
   oo 15 (.call 278 [((tq 12),0),((tq 14),0)] []),
   oo 16 (.un .not (tq 15))])
 (.cond (tq 16)
 (.reg [oo 17 (.load false 1 (tq 2) true),
   oo 18 (.fieldAddr 1 (tq 5)),
   oo 19 (.load true 3 (tq 18) false),
   oo 20 (.buildSlice 3 1 [(.sc (.int .u32 0)),(.sc (.int .u16 0)),(.sc (.int .u32 0))] [(0,3,(tq 19))]),
   oo 21 (.append 3 12 (tq 17) (tq 20)),
   oz (.store 1 (tq 2) (tq 21))])
 .skip))))
 (.reg [oo 22 (.bin .add (tq 8) (.const (.sc (.int .i64 1)))),
   oo 8 (.move (tq 22) false)]))))
def zbO:CF:=⟨23,[],
 (.seq (.reg [oo 6 (.move (tq 0) false),
   oo 7 (.lenS (tq 6)),
   oo 8 (.move (.const (.sc (.int .i64 0))) false)])
 (.block 0 (.loop (bl 454 23) (bl 5210079 23)
 zde)))⟩
def zlZ:Hint:=⟨[(4,0)],[],[none,some ((bl 454 23),(bl 5210079 23)),none,some ((bl 0 23),(bl 5210079 23)),none,none],[],[],false,false⟩
def zba:Nat→Sh:=zV []
def zbb (zd:xw) (L:Nat):CBC:=(xA 278 (zex zd L) noC)
def ze5:St→St:=zaE 2 (bl 454 23) (bl 5210079 23)
def zd5 (p6:List (List V)) (p7 p8:Int) (zNi zOy:List (List V)):St:=⟨(jn 1 ((V.ptr 0 0)::((V.ptr 1 0)::(jn 3 ((V.sl 5 p6)::((V.sc (.int .i64 p7))::((V.sc (.int .i64 p8))::(jn 14 [])))))))),((.live true [(V.sl 4 zNi)])::((.live false [(V.gs 3 zOy)])::(gn 23 [])))⟩
def zgH (zNi zOy:List (List V)):St:=⟨(jn 23 []),((.live true [(V.sl 4 zNi)])::((.live false [(V.gs 3 zOy)])::(gn 23 [])))⟩
abbrev zl0 (β:Type):Type:=List (List V)→Int→Int→List (List V)→List (List V)→Option β
def zi2 {β:Type} (zd:xw) (L:Nat) (p0 zNi zOy:List (List V)) (k_hba:zl0 β):Option β :=
 k_hba p0 ((List.length p0:Nat):Int) (0:Int) zNi zOy
theorem ztM {β:Type} (zd:xw) (L:Nat) (p0 zNi zOy:List (List V)) (k:KK β):xr zba (zbb zd L) L zbO [(V.sl 5 p0),(V.ptr 0 0),(V.ptr 1 0)] [(.live true [(V.sl 4 zNi)]),(.live false [(V.gs 3 zOy)])] k=zi2 zd L p0 zNi zOy (fun p6 p7 p8 zNi zOy=>xy (yj zba (zbb zd L) 2 L zde) ze5 L (zd5 p6 p7 p8 zNi zOy) (zx 0 (zN 2 (CF.res zbO) k))):=by kernel_rfl
def zhy {β:Type} (zd:xw) (L:Nat) (p6:List (List V)) (p7 p8:Int) (zNi zOy:List (List V)) (k_hba:zl0 β) (k_x0:List (List V)→List (List V)→Option β):Option β :=
 ifb (decide (p8 < p7)) (
 idx p6 p8 fun c0 =>
 chk ((List.length (List.take 5 c0))=5∧0+5≤5) (
 lt (yk [(V.sc (.int .i64 (0:Int))),(V.sc (.int .u32 (0:Int))),(V.sc (.int .u16 (0:Int))),(V.sc (.int .u32 (0:Int))),(V.sc (.int .u32 (0:Int)))] 0 (List.take 5 c0)) fun r1 =>
 chk (1+3≤(List.length r1)) (
 zd β L zNi (List.take 3 (List.drop 1 r1)) (fun v2 =>
 ifb (!v2) (
 chk (1+3≤(List.length r1)) (
 chk ((List.length (List.take 3 (List.drop 1 r1)))=3∧0+3≤3) (
 chk ((List.length zOy+List.length (zp 3 1 (yk [(V.sc (.int .u32 (0:Int))),(V.sc (.int .u16 (0:Int))),(V.sc (.int .u32 (0:Int)))] 0 (List.take 3 (List.drop 1 r1))))) * 12≤yu∧List.length zOy+List.length (zp 3 1 (yk [(V.sc (.int .u32 (0:Int))),(V.sc (.int .u16 (0:Int))),(V.sc (.int .u32 (0:Int)))] 0 (List.take 3 (List.drop 1 r1))))≤yu) (
 lt (zOy++(zp 3 1 (yk [(V.sc (.int .u32 (0:Int))),(V.sc (.int .u16 (0:Int))),(V.sc (.int .u32 (0:Int)))] 0 (List.take 3 (List.drop 1 r1))))) fun l3 =>
 lt (IntKind.wrap .i64 ((p8:Int)+(1:Int))) fun x4 =>
 k_hba p6 p7 x4 zNi l3)))) (
 lt (IntKind.wrap .i64 ((p8:Int)+(1:Int))) fun x5 =>
 k_hba p6 p7 x5 zNi zOy))))) (
 k_x0 zNi zOy)
theorem zso {β:Type} (zd:xw) (L:Nat) (p6:List (List V)) (p7 p8:Int) (zNi zOy:List (List V)) (X:St→Option β) (K:KT β):yj zba (zbb zd L) 2 L zde (zd5 p6 p7 p8 zNi zOy) (zaz ze5 X K)=zhy zd L p6 p7 p8 zNi zOy (fun p6 p7 p8 zNi zOy=>X (zd5 p6 p7 p8 zNi zOy)) (fun zNi zOy=>K (.exit 0) (zgH zNi zOy)):=by kernel_rfl
def zkZ {β:Type} (zd:xw) (L:Nat) (zNi zOy:List (List V)) (k_fin:List (List V)→List (List V)→Option β):Option β :=
 k_fin zNi zOy
theorem zrc {β:Type} (zd:xw) (L:Nat) (zNi zOy:List (List V)) (k:KK β):(zx 0 (zN 2 (CF.res zbO) k)) (.exit 0) (zgH zNi zOy)=zkZ zd L zNi zOy (fun zNi zOy=>k (V.tup []) [(.live true [(V.sl 4 zNi)]),(.live false [(V.gs 3 zOy)])]):=by kernel_rfl
def zds {β:Type} (zd:xw) (L:Nat) (k_x0:List (List V)→List (List V)→Option β):Nat→List (List V)→Int→Int→List (List V)→List (List V)→Option β
 | 0,_,_,_,_,_=>none
 | n+1,p6,p7,p8,zNi,zOy=>zhy zd L p6 p7 p8 zNi zOy (fun p6 p7 p8 zNi zOy=>zds zd L k_x0 n p6 p7 p8 zNi zOy) k_x0
theorem zj7 {β:Type} (zd:xw) (L:Nat) (K:KT β):∀ (n:Nat) (p6:List (List V)) (p7 p8:Int) (zNi zOy:List (List V)),xy (yj zba (zbb zd L) 2 L zde) ze5 n (zd5 p6 p7 p8 zNi zOy) K=zds zd L (fun zNi zOy=>K (.exit 0) (zgH zNi zOy)) n p6 p7 p8 zNi zOy:=by
 intro n
 induction n with
 | zero=>intros; rfl
 | succ n ih =>
  intro p6 p7 p8 zNi zOy
  refine (zso zd L p6 p7 p8 zNi zOy (fun σ=>xy (yj zba (zbb zd L) 2 L zde) ze5 n σ K) K).trans ?_
  simp only [ih]
  rfl
def zfO {β:Type} (zd:xw) (L:Nat) (p0 zNi zOy:List (List V)) (k_fin:List (List V)→List (List V)→Option β):Option β :=
 zi2 zd L p0 zNi zOy (fun p6 p7 p8 zNi zOy=>zds zd L (fun zNi zOy=>zkZ zd L zNi zOy k_fin) L p6 p7 p8 zNi zOy)
theorem ztT {β:Type} (zd:xw) (L:Nat) (p0 zNi zOy:List (List V)) (k:KK β):xr zba (zbb zd L) L zbO [(V.sl 5 p0),(V.ptr 0 0),(V.ptr 1 0)] [(.live true [(V.sl 4 zNi)]),(.live false [(V.gs 3 zOy)])] k=zfO zd L p0 zNi zOy (fun zNi zOy=>k (V.tup []) [(.live true [(V.sl 4 zNi)]),(.live false [(V.gs 3 zOy)])]):=by
 refine (ztM zd L p0 zNi zOy k).trans ?_
 unfold zfO
 first
  | (simp only [zj7,zrc]; done)
  | (simp only [zj7]; rfl)
abbrev zfJ:=∀ (β:Type),Nat→List (List V)→List (List V)→List (List V)→(List (List V)→List (List V)→Option β)→Option β
def zJ (β:Type) (L:Nat) (p0 zNi zOy:List (List V)) (k_fin:List (List V)→List (List V)→Option β):Option β:=zfO zd L p0 zNi zOy k_fin
def zfR (zJ:zfJ) (L:Nat) (β:Type) (args:List V) (bor:Bor) (k:KK β):Option β:=match args,bor with
 | [a0,a1,a2],[(.live true [w0_0]),(.live false [w1_0])]=>aL 5 a0 fun p0=>aP 0 0 a1 (aP 1 0 a2 (aL 4 w0_0 fun zNi=>aGs 3 w1_0 fun zOy=>zJ β L p0 zNi zOy (fun zNi zOy=>k (V.tup []) [(.live true [(V.sl 4 zNi)]),(.live false [(V.gs 3 zOy)])])))
 | _,_=>none
theorem ztG (L:Nat) (β:Type) (args:List V) (bor:Bor) (k:KK β) (r:β) (h:zfR zJ L β args bor k=some r):xr zba (zbb zd L) L zbO args bor k=some r:=by
 unfold zfR at h
 split at h
 ·have q:=xP h; clear h; obtain ⟨p0,rfl,h⟩:=q
  have q:=zkV h; clear h; obtain ⟨rfl,h⟩:=q
  have q:=zkV h; clear h; obtain ⟨rfl,h⟩:=q
  have q:=xP h; clear h; obtain ⟨zNi,rfl,h⟩:=q
  have q:=zLE h; clear h; obtain ⟨zOy,rfl,h⟩:=q
  exact (ztT zd L p0 zNi zOy k).trans h
 ·cases h
def zgq:CF:=⟨28,[.tmp 6],
 (.seq (.reg [oo 3 (.box true (tq 0)),
   oo 4 (.box true (tq 1)),
   oo 6 (.move (.const (.gs 3 [])) true)])
 (.seq (.reg [oo 7 (.alloc false [(.gs 3 [])])])
 (.seq (.reg [oo 9 (.makeFunc 284 [(tq 4),(tq 7)]),
   oo 8 (.move (tq 9) false)])
 (.seq (.seq (.reg [oo 10 (.move (tq 2) false)])
 (.block 0 (.seq (.reg [oo 12 (.bin .eql (tq 10) (.const (.sc (.int .i64 2)))),
   oo 11 (.move (tq 12) false)])
 (.cond (tq 11)
 (.seq (.reg [oo 13 (.move (tq 8) false),
   oo 14 (.fieldAddr 33 (tq 3)),
   oo 15 (.load false 1 (tq 14) false),
   oo 16 (.callv (tq 13) [((tq 15),0)] [])])
 (.reg [oo 17 (.move (tq 8) false),
   oo 18 (.fieldAddr 32 (tq 3)),
   oo 19 (.load false 1 (tq 18) false),
   oo 20 (.callv (tq 17) [((tq 19),0)] [])]))
 (.seq (.reg [oo 22 (.bin .eql (tq 10) (.const (.sc (.int .i64 3)))),
   oo 21 (.move (tq 22) false)])
 (.cond (tq 21)
 (.reg [oo 23 (.move (tq 8) false),
   oo 24 (.fieldAddr 32 (tq 3)),
   oo 25 (.load false 1 (tq 24) false),
   oo 26 (.callv (tq 23) [((tq 25),0)] [])])
 .skip))))))
 (.seq (.reg [oo 27 (.load false 1 (tq 7) false),
   oo 6 (.move (tq 27) true)])
 .ret)))))⟩
def znE:Hint:=⟨[(0,0),(0,1),(0,2),(9,1)],[],[none,none,none,none],[],[],false,false⟩
def zjK:Nat→Sh:=zV [(15,(.sl 5)),(19,(.sl 5)),(25,(.sl 5))]
def zjD (zJ:zfJ) (L:Nat):CBC:=(xA 284 (zfR zJ L) noC)
def zkg {β:Type} (zJ:zfJ) (L:Nat) (p0:List V) (p1:List (List V)) (p2:Int) (k_fin:List (List V)→Option β):Option β :=
 ifb ((p2:Int) == (2:Int)) (
 cLd 5 p0 33 fun v0 =>
 zJ β L v0 p1 ([]:List (List V)) (fun v1 v2 =>
 cLd 5 p0 32 fun v3 =>
 zJ β L v3 v1 v2 (fun v4 v5 =>
 k_fin v5))) (
 ifb ((p2:Int) == (3:Int)) (
 cLd 5 p0 32 fun v6 =>
 zJ β L v6 p1 ([]:List (List V)) (fun v7 v8 =>
 k_fin v8)) (
 k_fin ([]:List (List V))))
theorem zvr {β:Type} (zJ:zfJ) (L:Nat) (p0:List V) (p1:List (List V)) (p2:Int) (k:KK β):xr zjK (zjD zJ L) L zgq [(V.agg p0),(V.sl 4 p1),(V.sc (.int .i64 p2))] [] k=zkg zJ L p0 p1 p2 (fun p0=>k (V.sl 3 p0) []):=by kernel_rfl
abbrev zj:=∀ (β:Type),Nat→List V→List (List V)→Int→(List (List V)→Option β)→Option β
def ya (β:Type) (L:Nat) (p0:List V) (p1:List (List V)) (p2:Int) (k_fin:List (List V)→Option β):Option β:=zkg zJ L p0 p1 p2 k_fin
def zdG (ya:zj) (L:Nat) (β:Type) (args:List V) (bor:Bor) (k:KK β):Option β:=match args,bor with
 | [a0,a1,a2],[]=>aG a0 fun p0=>aL 4 a1 fun p1=>aI .i64 a2 fun p2=>ya β L p0 p1 p2 (fun p0=>k (V.sl 3 p0) [])
 | _,_=>none
theorem zvA (L:Nat) (β:Type) (args:List V) (bor:Bor) (k:KK β) (r:β) (h:zdG ya L β args bor k=some r):xr zjK (zjD zJ L) L zgq args bor k=some r:=by
 unfold zdG at h
 split at h
 ·have q:=y5 h; clear h; obtain ⟨p0,rfl,h⟩:=q
  have q:=xP h; clear h; obtain ⟨p1,rfl,h⟩:=q
  have q:=zad h; clear h; obtain ⟨p2,rfl,h⟩:=q
  exact (zvr zJ L p0 p1 p2 k).trans h
 ·cases h
end
end Go.Proofs.Ytpafdnidhnldhaa
