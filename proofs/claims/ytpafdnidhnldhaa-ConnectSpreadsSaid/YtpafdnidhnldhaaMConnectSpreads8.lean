/- Part 8 of the proof of ConnectSpreads: an abstract machine over plain values, its soundness, and the functions of the program on plain values. -/
import Derived.Test.YtpafdnidhnldhaaRows
import Derived.Test.YtpafdnidhnldhaaMConnectSpreads7
namespace Go.Proofs.Ytpafdnidhnldhaa
section
set_option maxRecDepth 100000
set_option linter.unusedVariables false
set_option linter.unusedSimpArgs false
def ziw:CF:=⟨13,[.tmp 2],
 (.seq (.reg [oo 2 (.move (.const (.sc (.bool false))) false)])
 (.seq (.reg [oo 3 (.move (tq 0) false),
   oo 4 (.bin .eql (tq 3) (.const (.sc (.int .i64 1)))),
   oo 5 (.move (tq 4) false),
   ⟨(some 6),false,(some (5,false)),.move (tq 0) false⟩,
   ⟨(some 7),false,(some (5,false)),.bin .eql (tq 6) (.const (.sc (.int .i64 2)))⟩,
   oo 8 (.pick (tq 5) (.const (.sc (.bool true))) (tq 7)),
   oo 9 (.move (tq 8) false),
   ⟨(some 10),false,(some (9,false)),.move (tq 0) false⟩,
   ⟨(some 11),false,(some (9,false)),.bin .eql (tq 10) (.const (.sc (.int .i64 3)))⟩,
   oo 12 (.pick (tq 9) (.const (.sc (.bool true))) (tq 11)),
   oo 2 (.move (tq 12) false)])
 .ret))⟩
def zpG:Hint:=⟨[],[],[none],[],[],false,false⟩
def zmb:Nat→Sh:=xP []
def zl8 (L:Nat):CBC:=noC
def znJ {β:Type} (L:Nat) (p0:Int) (k_fin:Bool→Option β):Option β :=
 ifb ((p0:Int) == (1:Int)) (
 k_fin true) (
 ifb ((p0:Int) == (2:Int)) (
 k_fin true) (
 k_fin ((p0:Int) == (3:Int))))
theorem zwS {β:Type} (L:Nat) (p0:Int) (k:KK β):xt zmb (zl8 L) L ziw [(V.sc (.int .i64 p0))] [] k=znJ L p0 (fun p0=>k (V.sc (.bool p0)) []):=by kernel_rfl
abbrev yX:=∀ (β:Type),Nat→Int→(Bool→Option β)→Option β
def xi (β:Type) (L:Nat) (p0:Int) (k_fin:Bool→Option β):Option β:=znJ L p0 k_fin
def zgG (xi:yX) (L:Nat) (β:Type) (args:List V) (bor:Bor) (k:KK β):Option β:=match args,bor with
 | [a0],[]=>aI .i64 a0 fun p0=>xi β L p0 (fun p0=>k (V.sc (.bool p0)) [])
 | _,_=>none
theorem zxB (L:Nat) (β:Type) (args:List V) (bor:Bor) (k:KK β) (r:β) (h:zgG xi L β args bor k=some r):xt zmb (zl8 L) L ziw args bor k=some r:=by
 unfold zgG at h
 split at h
 ·have q:=za5 h; clear h; obtain ⟨p0,rfl,h⟩:=q
  exact (zwS L p0 k).trans h
 ·cases h
def zhm:CF:=⟨6,[.tmp 2],
 (.seq (.reg [oo 1 (.box true (tq 0)),
   oo 2 (.move (.const (.sc (.int .u32 0))) false)])
 (.seq (.reg [oo 3 (.fieldAddr 0 (tq 1)),
   oo 4 (.load false 1 (tq 3) false),
   oo 5 (.bin .shr (tq 4) (.const (.sc (.int .u64 16)))),
   oo 2 (.move (tq 5) false)])
 .ret))⟩
def zom:Hint:=⟨[],[],[none],[],[],false,false⟩
def zlp:Nat→Sh:=xP [(4,(.int .u32))]
def zle (L:Nat):CBC:=noC
def zma {β:Type} (L:Nat) (p0:List V) (k_fin:Int→Option β):Option β :=
 cI .u32 p0 0 fun v0 =>
 lt (zo0 .u32 v0 (16:Int)) fun x1 =>
 k_fin x1
theorem zvZ {β:Type} (L:Nat) (p0:List V) (k:KK β):xt zlp (zle L) L zhm [(V.agg p0)] [] k=zma L p0 (fun p0=>k (V.sc (.int .u32 p0)) []):=by kernel_rfl
abbrev zo:=∀ (β:Type),Nat→List V→(Int→Option β)→Option β
def ya (β:Type) (L:Nat) (p0:List V) (k_fin:Int→Option β):Option β:=zma L p0 k_fin
def zb4 (ya:zo) (L:Nat) (β:Type) (args:List V) (bor:Bor) (k:KK β):Option β:=match args,bor with
 | [a0],[]=>aG a0 fun p0=>ya β L p0 (fun p0=>k (V.sc (.int .u32 p0)) [])
 | _,_=>none
theorem zv9 (L:Nat) (β:Type) (args:List V) (bor:Bor) (k:KK β) (r:β) (h:zb4 ya L β args bor k=some r):xt zlp (zle L) L zhm args bor k=some r:=by
 unfold zb4 at h
 split at h
 ·have q:=xZ h; clear h; obtain ⟨p0,rfl,h⟩:=q
  exact (zvZ L p0 k).trans h
 ·cases h
def zfX:CF:=⟨10,[.tmp 3],
 (.seq (.reg [oo 2 (.box true (tq 0)),
   oo 3 (.move (.const (.sc (.bool false))) false)])
 (.seq (.dreg [] [(oo 4 (.fieldAddr 1 (tq 2)),q0),
   (oo 5 (.load true 3 (tq 4) false),ql 2 [1] []),
   (oo 6 (.call 269 [((tq 5),0)] []),qc [1] []),
   (oo 7 (.load true 3 (tq 1) false),ql 1 [2] []),
   (oo 8 (.call 269 [((tq 7),0)] []),q0),
   (oo 9 (.bin .eql (tq 6) (tq 8)),q0),
   (oo 3 (.move (tq 9) false),q0)])
 .ret))⟩
def zmI:Hint:=⟨[],[],[none],[],[],false,false⟩
def zi6:Nat→Sh:=xP []
def zi2 (ya:zo) (L:Nat):CBC:=(zx 269 (zb4 ya L) noC)
def zkd {β:Type} (ya:zo) (L:Nat) (p0 b0:List V) (k_fin:Bool→List V→Option β):Option β :=
 chk (1+3≤(List.length p0)) (
 ya β L (List.take 3 (List.drop 1 p0)) (fun v0 =>
 chk (0+3≤(List.length b0)) (
 ya β L (List.take 3 b0) (fun v1 =>
 k_fin ((v0:Int) == v1) b0))))
theorem zuj {β:Type} (ya:zo) (L:Nat) (p0 b0:List V) (k:KK β):xt zi6 (zi2 ya L) L zfX [(V.agg p0),(V.ptr 0 0)] [(.live true b0)] k=zkd ya L p0 b0 (fun p0 b0=>k (V.sc (.bool p0)) [(.live true b0)]):=by kernel_rfl
abbrev yY:=∀ (β:Type),Nat→List V→List V→(Bool→List V→Option β)→Option β
def yj (β:Type) (L:Nat) (p0 b0:List V) (k_fin:Bool→List V→Option β):Option β:=zkd ya L p0 b0 k_fin
def zgx (yj:yY) (L:Nat) (β:Type) (args:List V) (bor:Bor) (k:KK β):Option β:=match args,bor with
 | [a0,a1],[(.live true b0)]=>aG a0 fun p0=>aP 0 0 a1 (yj β L p0 b0 (fun p0 b0=>k (V.sc (.bool p0)) [(.live true b0)]))
 | _,_=>none
theorem zuz (L:Nat) (β:Type) (args:List V) (bor:Bor) (k:KK β) (r:β) (h:zgx yj L β args bor k=some r):xt zi6 (zi2 ya L) L zfX args bor k=some r:=by
 unfold zgx at h
 split at h
 ·have q:=xZ h; clear h; obtain ⟨p0,rfl,h⟩:=q
  have q:=zlz h; clear h; obtain ⟨rfl,h⟩:=q
  exact (zuj ya L p0 _ k).trans h
 ·cases h
def zad:CC:=(.seq (.reg [oo 9 (.bin .lss (tq 8) (tq 7))])
 (.seq (.cond (tq 9)
 .skip
 (.seq (.mask (bl 0 19) (bl 458703 19))
 (.exit 0)))
 (.seq (.block 1 (.seq (.reg [oo 10 (.move (tq 8) false),
   oo 5 (.move (tq 10) false)])
 (.seq (.reg [oo 11 (.move (tq 1) false),
   oo 12 (.move (tq 0) false),
   oo 13 (.move (tq 5) false),
   oo 14 (.indexAddrS 4 (tq 12) (tq 13)),
   oo 15 (.load true 4 (tq 14) false),
   oo 16 (.callv (tq 11) [((tq 15),0)] [])])
 (.cond (tq 16)
 (.seq (.reg [oo 17 (.move (tq 5) false),
   oo 4 (.move (tq 17) false)])
 (.seq (.mask (bl 16 19) (bl 458719 19))
 .ret))
 .skip))))
 (.reg [oo 18 (.bin .add (tq 8) (.const (.sc (.int .i64 1)))),
   oo 8 (.move (tq 18) false)]))))
def za6:CC:=(.seq (.reg [oo 4 (.move (.const (.sc (.int .i64 (-1)))) false)])
 .ret)
def zM:CF:=⟨19,[.tmp 4],
 (.seq (.reg [oo 4 (.move (.const (.sc (.int .i64 0))) false)])
 (.seq (.seq (.reg [oo 6 (.move (tq 0) false),
   oo 7 (.lenS (tq 6)),
   oo 8 (.move (.const (.sc (.int .i64 0))) false)])
 (.block 0 (.loop (bl 387 19) (bl 458703 19)
 zad)))
 za6))⟩
def zdJ:Hint:=⟨[],[],[none,some ((bl 387 19),(bl 458703 19)),none,some ((bl 0 19),(bl 458703 19)),none,none,some ((bl 16 19),(bl 458719 19)),none],[],[],false,false⟩
def zD:Nat→Sh:=xP []
def yD (yj:yY) (L:Nat):CBC:=(zx 301 (zgx yj L) noC)
def zaN:St→St:=zaj 1 (bl 387 19) (bl 458703 19)
def zay (p0:List (List V)) (p7 p8:Int) (b0:List V):St:=⟨((V.sl 4 p0)::((V.fn 301 [(V.ptr 0 0)])::(jn 5 ((V.sc (.int .i64 p7))::((V.sc (.int .i64 p8))::(jn 10 [])))))),((.live true b0)::(gn 19 []))⟩
def zbF (p4:Int) (b0:List V):St:=⟨(jn 4 ((V.sc (.int .i64 p4))::(jn 14 []))),((.live true b0)::(gn 19 []))⟩
def zbZ (b0:List V):St:=⟨(jn 19 []),((.live true b0)::(gn 19 []))⟩
def zcp {β:Type} (yj:yY) (L:Nat) (p0:List (List V)) (b0:List V) (k_hbaba:List (List V)→Int→Int→List V→Option β):Option β :=
 k_hbaba p0 ((List.length p0:Nat):Int) (0:Int) b0
theorem zhZ {β:Type} (yj:yY) (L:Nat) (p0:List (List V)) (b0:List V) (k:KK β):xt zD (yD yj L) L zM [(V.sl 4 p0),(V.fn 301 [(V.ptr 0 0)])] [(.live true b0)] k=zcp yj L p0 b0 (fun p0 p7 p8 b0=>yF (xm zD (yD yj L) 1 L zad) zaN L (zay p0 p7 p8 b0) (xE 0 (xR (xm zD (yD yj L) 1 L za6) (y5 1 (CF.res zM) k)))):=by kernel_rfl
def zbY {β:Type} (yj:yY) (L:Nat) (p0:List (List V)) (p7 p8:Int) (b0:List V) (k_ret:Int→List V→Option β) (k_hbaba:List (List V)→Int→Int→List V→Option β) (k_x0:List V→Option β):Option β :=
 ifb (decide (p8 < p7)) (
 idx p0 p8 fun c0 =>
 yj β L (List.take 4 c0) b0 (fun v1 v2 =>
 chk ([(List.length v2)]=[(List.length b0)]) (
 ifb v1 (
 k_ret p8 v2) (
 lt (IntKind.wrap .i64 ((p8:Int)+(1:Int))) fun x3 =>
 k_hbaba p0 p7 x3 v2)))) (
 k_x0 b0)
theorem zg4 {β:Type} (yj:yY) (L:Nat) (p0:List (List V)) (p7 p8:Int) (b0:List V) (X:St→Option β) (K:KT β):xm zD (yD yj L) 1 L zad (zay p0 p7 p8 b0) (zbR zaN X K)=zbY yj L p0 p7 p8 b0 (fun p4 b0=>K .ret (zbF p4 b0)) (fun p0 p7 p8 b0=>X (zay p0 p7 p8 b0)) (fun b0=>K (.exit 0) (zbZ b0)):=by kernel_rfl
def zbv {β:Type} (yj:yY) (L:Nat) (p4:Int) (b0:List V) (k_fin:Int→List V→Option β):Option β :=
 k_fin p4 b0
theorem zf8 {β:Type} (yj:yY) (L:Nat) (p4:Int) (b0:List V) (k:KK β):(xE 0 (xR (xm zD (yD yj L) 1 L za6) (y5 1 (CF.res zM) k))) .ret (zbF p4 b0)=zbv yj L p4 b0 (fun p0 b0=>k (V.sc (.int .i64 p0)) [(.live true b0)]):=by kernel_rfl
def zbx {β:Type} (yj:yY) (L:Nat) (b0:List V) (k_fin:Int→List V→Option β):Option β :=
 k_fin (-1:Int) b0
theorem zgb {β:Type} (yj:yY) (L:Nat) (b0:List V) (k:KK β):(xE 0 (xR (xm zD (yD yj L) 1 L za6) (y5 1 (CF.res zM) k))) (.exit 0) (zbZ b0)=zbx yj L b0 (fun p0 b0=>k (V.sc (.int .i64 p0)) [(.live true b0)]):=by kernel_rfl
def zaf {β:Type} (yj:yY) (L:Nat) (k_ret:Int→List V→Option β) (k_x0:List V→Option β):Nat→List (List V)→Int→Int→List V→Option β
 | 0,_,_,_,_=>none
 | n+1,p0,p7,p8,b0=>zbY yj L p0 p7 p8 b0 k_ret (fun p0 p7 p8 b0=>zaf yj L k_ret k_x0 n p0 p7 p8 b0) k_x0
theorem zc7 {β:Type} (yj:yY) (L:Nat) (K:KT β):∀ (n:Nat) (p0:List (List V)) (p7 p8:Int) (b0:List V),yF (xm zD (yD yj L) 1 L zad) zaN n (zay p0 p7 p8 b0) K=zaf yj L (fun p4 b0=>K .ret (zbF p4 b0)) (fun b0=>K (.exit 0) (zbZ b0)) n p0 p7 p8 b0:=by
 intro n
 induction n with
 | zero=>intros; rfl
 | succ n ih =>
  intro p0 p7 p8 b0
  refine (zg4 yj L p0 p7 p8 b0 (fun σ=>yF (xm zD (yD yj L) 1 L zad) zaN n σ K) K).trans ?_
  simp only [ih]
  rfl
def zbh {β:Type} (yj:yY) (L:Nat) (p0:List (List V)) (b0:List V) (k_fin:Int→List V→Option β):Option β :=
 zcp yj L p0 b0 (fun p0 p7 p8 b0=>zaf yj L (fun p4 b0=>zbv yj L p4 b0 k_fin) (fun b0=>zbx yj L b0 k_fin) L p0 p7 p8 b0)
theorem zid {β:Type} (yj:yY) (L:Nat) (p0:List (List V)) (b0:List V) (k:KK β):xt zD (yD yj L) L zM [(V.sl 4 p0),(V.fn 301 [(V.ptr 0 0)])] [(.live true b0)] k=zbh yj L p0 b0 (fun p0 b0=>k (V.sc (.int .i64 p0)) [(.live true b0)]):=by
 refine (zhZ yj L p0 b0 k).trans ?_
 unfold zbh
 first
  | (simp only [zc7,zf8,zgb]; done)
  | (simp only [zc7]; rfl)
abbrev zbi:=∀ (β:Type),Nat→List (List V)→List V→(Int→List V→Option β)→Option β
def zu (β:Type) (L:Nat) (p0:List (List V)) (b0:List V) (k_fin:Int→List V→Option β):Option β:=zbh yj L p0 b0 k_fin
def zbj (zu:zbi) (L:Nat) (β:Type) (args:List V) (bor:Bor) (k:KK β):Option β:=match args,bor with
 | [a0,a1],[(.live true b0)]=>aL 4 a0 fun p0=>aF 301 [(0,0)] a1 (zu β L p0 b0 (fun p0 b0=>k (V.sc (.int .i64 p0)) [(.live true b0)]))
 | _,_=>none
theorem zie (L:Nat) (β:Type) (args:List V) (bor:Bor) (k:KK β) (r:β) (h:zbj zu L β args bor k=some r):xt zD (yD yj L) L zM args bor k=some r:=by
 unfold zbj at h
 split at h
 ·have q:=y4 h; clear h; obtain ⟨p0,rfl,h⟩:=q
  have q:=zt9 h; clear h; obtain ⟨rfl,h⟩:=q
  exact (zid yj L p0 _ k).trans h
 ·cases h
def zaM:CF:=⟨9,[.tmp 4],
 (.seq (.reg [oo 4 (.move (.const (.sc (.bool false))) false)])
 (.seq (.reg [oo 5 (.move (tq 0) false),
   oo 6 (.move (tq 1) false),
   oo 7 (.call 306 [((tq 5),2),((tq 6),2)] []),
   oo 8 (.bin .geq (tq 7) (.const (.sc (.int .i64 0)))),
   oo 4 (.move (tq 8) false)])
 .ret))⟩
def zdh:Hint:=⟨[(1,2)],[],[none],[],[],false,false⟩
def zbX:Nat→Sh:=xP []
def zb0 (zu:zbi) (L:Nat):CBC:=(zx 306 (zbj zu L) noC)
def zb5 {β:Type} (zu:zbi) (L:Nat) (p0:List (List V)) (b0:List V) (k_fin:Bool→List V→Option β):Option β :=
 zu β L p0 b0 (fun v0 v1 =>
 chk ([(List.length v1)]=[(List.length b0)]) (
 k_fin (decide (v0 ≥ (0:Int))) v1))
theorem zha {β:Type} (zu:zbi) (L:Nat) (p0:List (List V)) (b0:List V) (k:KK β):xt zbX (zb0 zu L) L zaM [(V.sl 4 p0),(V.fn 301 [(V.ptr 0 0)])] [(.live true b0)] k=zb5 zu L p0 b0 (fun p0 b0=>k (V.sc (.bool p0)) [(.live true b0)]):=by kernel_rfl
abbrev zaY:=∀ (β:Type),Nat→List (List V)→List V→(Bool→List V→Option β)→Option β
def yq (β:Type) (L:Nat) (p0:List (List V)) (b0:List V) (k_fin:Bool→List V→Option β):Option β:=zb5 zu L p0 b0 k_fin
def zaW (yq:zaY) (L:Nat) (β:Type) (args:List V) (bor:Bor) (k:KK β):Option β:=match args,bor with
 | [a0,a1],[(.live true b0)]=>aL 4 a0 fun p0=>aF 301 [(0,0)] a1 (yq β L p0 b0 (fun p0 b0=>k (V.sc (.bool p0)) [(.live true b0)]))
 | _,_=>none
theorem zhc (L:Nat) (β:Type) (args:List V) (bor:Bor) (k:KK β) (r:β) (h:zaW yq L β args bor k=some r):xt zbX (zb0 zu L) L zaM args bor k=some r:=by
 unfold zaW at h
 split at h
 ·have q:=y4 h; clear h; obtain ⟨p0,rfl,h⟩:=q
  have q:=zt9 h; clear h; obtain ⟨rfl,h⟩:=q
  exact (zha zu L p0 _ k).trans h
 ·cases h
def zhk:CF:=⟨8,[.tmp 4],
 (.seq (.reg [oo 3 (.box true (tq 1)),
   oo 4 (.move (.const (.sc (.bool false))) false)])
 (.seq (.reg [oo 5 (.move (tq 0) false),
   oo 6 (.makeFunc 301 [(tq 3)]),
   oo 7 (.call 300 [((tq 5),2),((tq 6),2)] []),
   oo 4 (.move (tq 7) false)])
 .ret))⟩
def zou:Hint:=⟨[(1,2)],[],[none],[],[],false,false⟩
def zln:Nat→Sh:=xP []
def zll (yq:zaY) (L:Nat):CBC:=(zx 300 (zaW yq L) noC)
def zl5 {β:Type} (yq:zaY) (L:Nat) (p0:List (List V)) (p1:List V) (k_fin:Bool→Option β):Option β :=
 yq β L p0 p1 (fun v0 v1 =>
 chk ([(List.length v1)]=[(List.length p1)]) (
 k_fin v0))
theorem zvY {β:Type} (yq:zaY) (L:Nat) (p0:List (List V)) (p1:List V) (k:KK β):xt zln (zll yq L) L zhk [(V.sl 4 p0),(V.agg p1)] [] k=zl5 yq L p0 p1 (fun p0=>k (V.sc (.bool p0)) []):=by kernel_rfl
abbrev xq:=∀ (β:Type),Nat→List (List V)→List V→(Bool→Option β)→Option β
def xa (β:Type) (L:Nat) (p0:List (List V)) (p1:List V) (k_fin:Bool→Option β):Option β:=zl5 yq L p0 p1 k_fin
def zdj (xa:xq) (L:Nat) (β:Type) (args:List V) (bor:Bor) (k:KK β):Option β:=match args,bor with
 | [a0,a1],[]=>aL 4 a0 fun p0=>aG a1 fun p1=>xa β L p0 p1 (fun p0=>k (V.sc (.bool p0)) [])
 | _,_=>none
theorem zv0 (L:Nat) (β:Type) (args:List V) (bor:Bor) (k:KK β) (r:β) (h:zdj xa L β args bor k=some r):xt zln (zll yq L) L zhk args bor k=some r:=by
 unfold zdj at h
 split at h
 ·have q:=y4 h; clear h; obtain ⟨p0,rfl,h⟩:=q
  have q:=xZ h; clear h; obtain ⟨p1,rfl,h⟩:=q
  exact (zvY yq L p0 p1 k).trans h
 ·cases h
def zdr:CC:=(.seq (.reg [oo 11 (.bin .lss (tq 10) (tq 9))])
 (.seq (.cond (tq 11)
 .skip
 (.seq (.mask (bl 0 28) (bl 234749923 28))
 (.exit 0)))
 (.seq (.block 1 (.seq (.reg [oo 12 (.move (tq 10) false),
   oo 13 (.indexAddrS 4 (tq 8) (tq 10)),
   oo 14 (.load true 4 (tq 13) false),
   oo 4 (.alloc true [(.sc (.int .i64 0)),(.sc (.int .u32 0)),(.sc (.int .u16 0)),(.sc (.int .u32 0))]),
   oo 3 (.move (tq 12) false),
   oz (.store 4 (tq 4) (tq 14))])
 (.seq (.dreg [] [(oo 15 (.fieldAddr 0 (tq 4)),q0),
   (oo 16 (.load false 1 (tq 15) false),q0),
   (oo 17 (.call 285 [((tq 16),0)] []),q0),
   (oo 18 (.un .not (tq 17)),q0),
   (oo 19 (.move (tq 18) false),q0),
   (⟨(some 20),false,(some (19,false)),.move (tq 0) false⟩,q0),
   (⟨(some 21),false,(some (19,false)),.move (tq 3) false⟩,q0),
   (⟨(some 22),false,(some (19,false)),.sliceS 4 (tq 20) none (some (tq 21)) none⟩,q0),
   (⟨(some 23),false,(some (19,false)),.fieldAddr 1 (tq 4)⟩,q0),
   (⟨(some 24),false,(some (19,false)),.load true 3 (tq 23) false⟩,q0),
   (⟨(some 25),false,(some (19,false)),.call 278 [((tq 22),0),((tq 24),0)] []⟩,q0),
   (oo 26 (.pick (tq 19) (.const (.sc (.bool true))) (tq 25)),q0)])
 (.cond (tq 26)
 (.seq (.reg [oo 2 (.move (.const (.sc (.bool false))) false)])
 (.seq (.mask (bl 4 28) (bl 234749927 28))
 .ret))
 .skip))))
 (.reg [oo 27 (.bin .add (tq 10) (.const (.sc (.int .i64 1)))),
   oo 10 (.move (tq 27) false)]))))
def zgL:CC:=(.seq (.reg [oo 2 (.move (.const (.sc (.bool true))) false)])
 .ret)
def zcs:CF:=⟨28,[.tmp 2],
 (.seq (.reg [oo 2 (.move (.const (.sc (.bool false))) false)])
 (.seq (.seq (.reg [oo 5 (.move (tq 0) false),
   oo 6 (.lenS (tq 5)),
   oo 7 (.bin .gtr (tq 6) (.const (.sc (.int .i64 8))))])
 (.cond (tq 7)
 (.seq (.reg [oo 2 (.move (.const (.sc (.bool false))) false)])
 .ret)
 .skip))
 (.seq (.seq (.reg [oo 8 (.move (tq 0) false),
   oo 9 (.lenS (tq 8)),
   oo 10 (.move (.const (.sc (.int .i64 0))) false)])
 (.block 0 (.loop (bl 1793 28) (bl 234749923 28)
 zdr)))
 zgL)))⟩
def zpw:Hint:=⟨[],[],[none,none,none,some ((bl 1793 28),(bl 234749923 28)),none,some ((bl 0 28),(bl 234749923 28)),none,none,some ((bl 4 28),(bl 234749927 28)),none],[],[],false,false⟩
def zbd:Nat→Sh:=xP [(16,(.int .i64))]
def zbc (xi:yX) (xa:xq) (L:Nat):CBC:=(zx 278 (zdj xa L) (zx 285 (zgG xi L) noC))
def zfj:St→St:=zaj 0 (bl 1793 28) (bl 234749923 28)
def zdZ (p0 p8:List (List V)) (p9 p10:Int):St:=⟨((V.sl 4 p0)::(jn 7 ((V.sl 4 p8)::((V.sc (.int .i64 p9))::((V.sc (.int .i64 p10))::(jn 17 [])))))),(gn 28 [])⟩
def ziq (p2:Bool):St:=⟨(jn 2 ((V.sc (.bool p2))::(jn 25 []))),(gn 28 [])⟩
def zi8:St:=⟨(jn 28 []),(gn 28 [])⟩
def zm1 {β:Type} (xi:yX) (xa:xq) (L:Nat) (p0:List (List V)) (k_fin:Bool→Option β) (k_hbbaba:List (List V)→List (List V)→Int→Int→Option β):Option β :=
 ifb (decide (((List.length p0:Nat):Int) > (8:Int))) (
 k_fin false) (
 k_hbbaba p0 p0 ((List.length p0:Nat):Int) (0:Int))
theorem zwY {β:Type} (xi:yX) (xa:xq) (L:Nat) (p0:List (List V)) (k:KK β):xt zbd (zbc xi xa L) L zcs [(V.sl 4 p0)] [] k=zm1 xi xa L p0 (fun p0=>k (V.sc (.bool p0)) []) (fun p0 p8 p9 p10=>yF (xm zbd (zbc xi xa L) 0 L zdr) zfj L (zdZ p0 p8 p9 p10) (xE 0 (xR (xm zbd (zbc xi xa L) 0 L zgL) (y5 0 (CF.res zcs) k)))):=by kernel_rfl
def zh6 {β:Type} (xi:yX) (xa:xq) (L:Nat) (p0 p8:List (List V)) (p9 p10:Int) (k_ret:Bool→Option β) (k_hbbaba:List (List V)→List (List V)→Int→Int→Option β) (k_x0:Option β):Option β :=
 ifb (decide (p10 < p9)) (
 idx p8 p10 fun c0 =>
 chk ((List.length (List.take 4 c0))=4∧0+4≤4) (
 lt (zh [(V.sc (.int .i64 (0:Int))),(V.sc (.int .u32 (0:Int))),(V.sc (.int .u16 (0:Int))),(V.sc (.int .u32 (0:Int)))] 0 (List.take 4 c0)) fun r1 =>
 cI .i64 r1 0 fun v2 =>
 xi β L v2 (fun v3 =>
 ifb (!v3) (
 k_ret false) (
 chk (0≤p10∧p10≤(((List.length p0):Nat):Int)) (
 chk (1+3≤(List.length r1)) (
 xa β L (List.take ((Int.toNat p10) - 0) (List.drop 0 p0)) (List.take 3 (List.drop 1 r1)) (fun v4 =>
 ifb v4 (
 k_ret false) (
 lt (IntKind.wrap .i64 ((p10:Int)+(1:Int))) fun x5 =>
 k_hbbaba p0 p8 p9 x5)))))))) (
 k_x0)
theorem zst {β:Type} (xi:yX) (xa:xq) (L:Nat) (p0 p8:List (List V)) (p9 p10:Int) (X:St→Option β) (K:KT β):xm zbd (zbc xi xa L) 0 L zdr (zdZ p0 p8 p9 p10) (zbR zfj X K)=zh6 xi xa L p0 p8 p9 p10 (fun p2=>K .ret (ziq p2)) (fun p0 p8 p9 p10=>X (zdZ p0 p8 p9 p10)) (K (.exit 0) (zi8)):=by kernel_rfl
def zk1 {β:Type} (xi:yX) (xa:xq) (L:Nat) (p2:Bool) (k_fin:Bool→Option β):Option β :=
 k_fin p2
theorem zqe {β:Type} (xi:yX) (xa:xq) (L:Nat) (p2:Bool) (k:KK β):(xE 0 (xR (xm zbd (zbc xi xa L) 0 L zgL) (y5 0 (CF.res zcs) k))) .ret (ziq p2)=zk1 xi xa L p2 (fun p0=>k (V.sc (.bool p0)) []):=by kernel_rfl
def zlO {β:Type} (xi:yX) (xa:xq) (L:Nat) (k_fin:Bool→Option β):Option β :=
 k_fin true
theorem zqN {β:Type} (xi:yX) (xa:xq) (L:Nat) (k:KK β):(xE 0 (xR (xm zbd (zbc xi xa L) 0 L zgL) (y5 0 (CF.res zcs) k))) (.exit 0) (zi8)=zlO xi xa L (fun p0=>k (V.sc (.bool p0)) []):=by kernel_rfl
def zdF {β:Type} (xi:yX) (xa:xq) (L:Nat) (k_ret:Bool→Option β) (k_x0:Option β):Nat→List (List V)→List (List V)→Int→Int→Option β
 | 0,_,_,_,_=>none
 | n+1,p0,p8,p9,p10=>zh6 xi xa L p0 p8 p9 p10 k_ret (fun p0 p8 p9 p10=>zdF xi xa L k_ret k_x0 n p0 p8 p9 p10) k_x0
theorem zkU {β:Type} (xi:yX) (xa:xq) (L:Nat) (K:KT β):∀ (n:Nat) (p0 p8:List (List V)) (p9 p10:Int),yF (xm zbd (zbc xi xa L) 0 L zdr) zfj n (zdZ p0 p8 p9 p10) K=zdF xi xa L (fun p2=>K .ret (ziq p2)) (K (.exit 0) (zi8)) n p0 p8 p9 p10:=by
 intro n
 induction n with
 | zero=>intros; rfl
 | succ n ih =>
  intro p0 p8 p9 p10
  refine (zst xi xa L p0 p8 p9 p10 (fun σ=>yF (xm zbd (zbc xi xa L) 0 L zdr) zfj n σ K) K).trans ?_
  simp only [ih]
  rfl
def zjy {β:Type} (xi:yX) (xa:xq) (L:Nat) (p0:List (List V)) (k_fin:Bool→Option β):Option β :=
 zm1 xi xa L p0 k_fin (fun p0 p8 p9 p10=>zdF xi xa L (fun p2=>zk1 xi xa L p2 k_fin) (zlO xi xa L k_fin) L p0 p8 p9 p10)
theorem zxv {β:Type} (xi:yX) (xa:xq) (L:Nat) (p0:List (List V)) (k:KK β):xt zbd (zbc xi xa L) L zcs [(V.sl 4 p0)] [] k=zjy xi xa L p0 (fun p0=>k (V.sc (.bool p0)) []):=by
 refine (zwY xi xa L p0 k).trans ?_
 unfold zjy
 first
  | (simp only [zkU,zqe,zqN]; done)
  | (simp only [zkU]; rfl)
abbrev yu:=∀ (β:Type),Nat→List (List V)→(Bool→Option β)→Option β
def xb (β:Type) (L:Nat) (p0:List (List V)) (k_fin:Bool→Option β):Option β:=zjy xi xa L p0 k_fin
def zeM (xb:yu) (L:Nat) (β:Type) (args:List V) (bor:Bor) (k:KK β):Option β:=match args,bor with
 | [a0],[]=>aL 4 a0 fun p0=>xb β L p0 (fun p0=>k (V.sc (.bool p0)) [])
 | _,_=>none
theorem zxu (L:Nat) (β:Type) (args:List V) (bor:Bor) (k:KK β) (r:β) (h:zeM xb L β args bor k=some r):xt zbd (zbc xi xa L) L zcs args bor k=some r:=by
 unfold zeM at h
 split at h
 ·have q:=y4 h; clear h; obtain ⟨p0,rfl,h⟩:=q
  exact (zxv xi xa L p0 k).trans h
 ·cases h
def zfD:CC:=(.seq (.reg [oo 9 (.bin .lss (tq 8) (tq 7))])
 (.seq (.cond (tq 9)
 .skip
 (.seq (.mask (bl 8 22) (bl 4194255 22))
 (.exit 0)))
 (.seq (.block 1 (.seq (.reg [oo 10 (.move (tq 8) false),
   oo 11 (.indexAddrS 1 (tq 6) (tq 8)),
   oo 12 (.load false 1 (tq 11) false),
   oo 4 (.move (tq 10) false),
   oo 5 (.move (tq 12) false)])
 (.reg [oo 13 (.move (tq 3) false),
   oo 14 (.move (tq 5) false),
   oo 15 (.conv .u64 (tq 14)),
   oo 16 (.move (tq 4) false),
   oo 17 (.bin .mul (.const (.sc (.int .i64 8))) (tq 16)),
   oo 18 (.bin .shl (tq 15) (tq 17)),
   oo 19 (.bin .or (tq 13) (tq 18)),
   oo 3 (.move (tq 19) false)])))
 (.reg [oo 20 (.bin .add (tq 8) (.const (.sc (.int .i64 1)))),
   oo 8 (.move (tq 20) false)]))))
def zp7:CC:=(.seq (.reg [oo 21 (.move (tq 3) false),
   oo 2 (.move (tq 21) false)])
 .ret)
def zgW:CF:=⟨22,[.tmp 2],
 (.seq (.reg [oo 2 (.move (.const (.sc (.int .u64 0))) false)])
 (.seq (.reg [oo 3 (.move (.const (.sc (.int .u64 0))) false)])
 (.seq (.seq (.reg [oo 6 (.move (tq 0) false),
   oo 7 (.lenS (tq 6)),
   oo 8 (.move (.const (.sc (.int .i64 0))) false)])
 (.block 0 (.loop (bl 456 22) (bl 4194255 22)
 zfD)))
 zp7)))⟩
def zvN:Hint:=⟨[],[],[none,some ((bl 456 22),(bl 4194255 22)),none,some ((bl 8 22),(bl 4194255 22)),none,none],[],[],false,false⟩
def zdB:Nat→Sh:=xP [(12,(.int .u8))]
def zdA (L:Nat):CBC:=noC
def zjA:St→St:=zaj 0 (bl 456 22) (bl 4194255 22)
def zgv (p3:Int) (p6:List (List V)) (p7 p8:Int):St:=⟨(jn 3 ((V.sc (.int .u64 p3))::(jn 2 ((V.sl 1 p6)::((V.sc (.int .i64 p7))::((V.sc (.int .i64 p8))::(jn 13 []))))))),(gn 22 [])⟩
def zoV (p3:Int):St:=⟨(jn 3 ((V.sc (.int .u64 p3))::(jn 18 []))),(gn 22 [])⟩
def zvd {β:Type} (L:Nat) (p0:List (List V)) (k_hbbaba:Int→List (List V)→Int→Int→Option β):Option β :=
 k_hbbaba (0:Int) p0 ((List.length p0:Nat):Int) (0:Int)
theorem zC5 {β:Type} (L:Nat) (p0:List (List V)) (k:KK β):xt zdB (zdA L) L zgW [(V.sl 1 p0)] [] k=zvd L p0 (fun p3 p6 p7 p8=>yF (xm zdB (zdA L) 0 L zfD) zjA L (zgv p3 p6 p7 p8) (xE 0 (xR (xm zdB (zdA L) 0 L zp7) (y5 0 (CF.res zgW) k)))):=by kernel_rfl
def znw {β:Type} (L:Nat) (p3:Int) (p6:List (List V)) (p7 p8:Int) (k_hbbaba:Int→List (List V)→Int→Int→Option β) (k_x0:Int→Option β):Option β :=
 ifb (decide (p8 < p7)) (
 idx p6 p8 fun c0 =>
 cI .u8 c0 0 fun v1 =>
 lt (IntKind.wrap .u64 v1) fun x2 =>
 lt (IntKind.wrap .i64 (((8:Int):Int) * p8)) fun x3 =>
 chk (0≤x3) (
 lt (zr8 .u64 x2 x3) fun x4 =>
 lt (ior .u64 p3 x4) fun x5 =>
 lt (IntKind.wrap .i64 ((p8:Int)+(1:Int))) fun x6 =>
 k_hbbaba x5 p6 p7 x6)) (
 k_x0 p3)
theorem zwM {β:Type} (L:Nat) (p3:Int) (p6:List (List V)) (p7 p8:Int) (X:St→Option β) (K:KT β):xm zdB (zdA L) 0 L zfD (zgv p3 p6 p7 p8) (zbR zjA X K)=znw L p3 p6 p7 p8 (fun p3 p6 p7 p8=>X (zgv p3 p6 p7 p8)) (fun p3=>K (.exit 0) (zoV p3)):=by kernel_rfl
def zqr {β:Type} (L:Nat) (p3:Int) (k_fin:Int→Option β):Option β :=
 k_fin p3
theorem zvh {β:Type} (L:Nat) (p3:Int) (k:KK β):(xE 0 (xR (xm zdB (zdA L) 0 L zp7) (y5 0 (CF.res zgW) k))) (.exit 0) (zoV p3)=zqr L p3 (fun p0=>k (V.sc (.int .u64 p0)) []):=by kernel_rfl
def zgE {β:Type} (L:Nat) (k_x0:Int→Option β):Nat→Int→List (List V)→Int→Int→Option β
 | 0,_,_,_,_=>none
 | n+1,p3,p6,p7,p8=>znw L p3 p6 p7 p8 (fun p3 p6 p7 p8=>zgE L k_x0 n p3 p6 p7 p8) k_x0
theorem zpy {β:Type} (L:Nat) (K:KT β):∀ (n:Nat) (p3:Int) (p6:List (List V)) (p7 p8:Int),yF (xm zdB (zdA L) 0 L zfD) zjA n (zgv p3 p6 p7 p8) K=zgE L (fun p3=>K (.exit 0) (zoV p3)) n p3 p6 p7 p8:=by
 intro n
 induction n with
 | zero=>intros; rfl
 | succ n ih =>
  intro p3 p6 p7 p8
  refine (zwM L p3 p6 p7 p8 (fun σ=>yF (xm zdB (zdA L) 0 L zfD) zjA n σ K) K).trans ?_
  simp only [ih]
  rfl
def zqK {β:Type} (L:Nat) (p0:List (List V)) (k_fin:Int→Option β):Option β :=
 zvd L p0 (fun p3 p6 p7 p8=>zgE L (fun p3=>zqr L p3 k_fin) L p3 p6 p7 p8)
theorem zDk {β:Type} (L:Nat) (p0:List (List V)) (k:KK β):xt zdB (zdA L) L zgW [(V.sl 1 p0)] [] k=zqK L p0 (fun p0=>k (V.sc (.int .u64 p0)) []):=by
 refine (zC5 L p0 k).trans ?_
 unfold zqK
 first
  | (simp only [zpy,zvh]; done)
  | (simp only [zpy]; rfl)
abbrev zb8:=∀ (β:Type),Nat→List (List V)→(Int→Option β)→Option β
def zw (β:Type) (L:Nat) (p0:List (List V)) (k_fin:Int→Option β):Option β:=zqK L p0 k_fin
def zm8 (zw:zb8) (L:Nat) (β:Type) (args:List V) (bor:Bor) (k:KK β):Option β:=match args,bor with
 | [a0],[]=>aL 1 a0 fun p0=>zw β L p0 (fun p0=>k (V.sc (.int .u64 p0)) [])
 | _,_=>none
theorem zCZ (L:Nat) (β:Type) (args:List V) (bor:Bor) (k:KK β) (r:β) (h:zm8 zw L β args bor k=some r):xt zdB (zdA L) L zgW args bor k=some r:=by
 unfold zm8 at h
 split at h
 ·have q:=y4 h; clear h; obtain ⟨p0,rfl,h⟩:=q
  exact (zDk L p0 k).trans h
 ·cases h
def zqM:CF:=⟨8,[.cell 2 true 2],
 (.seq (.reg [oo 1 (.box true (tq 0)),
   oo 2 (.alloc true [(.sc (.int .u64 0)),(.sc (.int .u64 0))])])
 (.seq (.dreg [1] [(oo 3 (.sliceA 32 1 (tq 1) none (some (.const (.sc (.int .i64 8)))) none),q1),
   (oo 4 (.call 112 [((tq 3),0)] []),q1),
   (oo 5 (.sliceA 32 1 (tq 1) (some (.const (.sc (.int .i64 8)))) (some (.const (.sc (.int .i64 16)))) none),q1),
   (oo 6 (.call 112 [((tq 5),0)] []),q0),
   (oo 7 (.build [(.sc (.int .u64 0)),(.sc (.int .u64 0))] [(0,1,(tq 4)),(1,1,(tq 6))]),q0),
   (oz (.store 2 (tq 2) (tq 7)),q0)])
 .ret))⟩
def zwX:Hint:=⟨[],[],[none],[(1,[1])],[],false,false⟩
def zuO:Nat→Sh:=xP []
def zvB (zw:zb8) (L:Nat):CBC:=(zx 112 (zm8 zw L) noC)
def zwG {β:Type} (zw:zb8) (L:Nat) (p0:List V) (k_fin:List V→Option β):Option β :=
 chk ((List.length p0)≠0) (
 chk (0+32 * 1≤(List.length p0)) (
 zw β L (zl 1 8 p0) (fun v0 =>
 chk (0+32 * 1≤(List.length p0)) (
 zw β L (zl 1 8 (List.drop 8 p0)) (fun v1 =>
 lt [(V.sc (.int .u64 v0)),(V.sc (.int .u64 v1))] fun r2 =>
 chk (0=0∧(List.length r2)=2∧2≠0) (
 k_fin r2))))))
theorem zER {β:Type} (zw:zb8) (L:Nat) (p0:List V) (k:KK β):xt zuO (zvB zw L) L zqM [(V.agg p0)] [] k=zwG zw L p0 (fun p0=>k (V.agg p0) []):=by kernel_rfl
abbrev zkn:=∀ (β:Type),Nat→List V→(List V→Option β)→Option β
def z6 (β:Type) (L:Nat) (p0:List V) (k_fin:List V→Option β):Option β:=zwG zw L p0 k_fin
def zpV (z6:zkn) (L:Nat) (β:Type) (args:List V) (bor:Bor) (k:KK β):Option β:=match args,bor with
 | [a0],[]=>aG a0 fun p0=>z6 β L p0 (fun p0=>k (V.agg p0) [])
 | _,_=>none
theorem zD9 (L:Nat) (β:Type) (args:List V) (bor:Bor) (k:KK β) (r:β) (h:zpV z6 L β args bor k=some r):xt zuO (zvB zw L) L zqM args bor k=some r:=by
 unfold zpV at h
 split at h
 ·have q:=xZ h; clear h; obtain ⟨p0,rfl,h⟩:=q
  exact (zER zw L p0 k).trans h
 ·cases h
def zdC:CC:=(.seq (.reg [oo 11 (.bin .lss (tq 10) (tq 9))])
 (.seq (.cond (tq 11)
 .skip
 (.seq (.mask (bl 32 23) (bl 8388543 23))
 (.exit 0)))
 (.seq (.block 1 (.seq (.reg [oo 12 (.move (tq 10) false),
   oo 6 (.move (tq 12) false)])
 (.reg [oo 13 (.move (tq 5) false),
   oo 14 (.move (tq 6) false),
   oo 15 (.move (tq 0) false),
   oo 16 (.move (tq 6) false),
   oo 17 (.bin .mul (.const (.sc (.int .i64 8))) (tq 16)),
   oo 18 (.bin .shr (tq 15) (tq 17)),
   oo 19 (.conv .u8 (tq 18)),
   oo 20 (.indexAddrS 1 (tq 13) (tq 14)),
   oz (.store 1 (tq 20) (tq 19))])))
 (.reg [oo 21 (.bin .add (tq 10) (.const (.sc (.int .i64 1)))),
   oo 10 (.move (tq 21) false)]))))
def zlj:CC:=(.seq (.reg [oo 22 (.move (tq 5) true),
   oo 4 (.move (tq 22) true)])
 .ret)
def zdG:CF:=⟨23,[.tmp 4],
 (.seq (.reg [oo 4 (.move (.const (.gs 1 [])) true)])
 (.seq (.reg [oo 7 (.move (tq 1) false),
   ⟨(some 8),true,none,.makeSlice 1 1 [(.sc (.int .u8 0))] (tq 7) (tq 7)⟩,
   oo 5 (.move (tq 8) true)])
 (.seq (.seq (.reg [oo 9 (.move (tq 1) false),
   oo 10 (.move (.const (.sc (.int .i64 0))) false)])
 (.block 0 (.loop (bl 1569 23) (bl 8388543 23)
 zdC)))
 zlj)))⟩
def zqs:Hint:=⟨[(0,0),(1,2),(7,0),(7,1)],[(1,1)],[none,some ((bl 1569 23),(bl 8388543 23)),none,some ((bl 32 23),(bl 8388543 23)),none,none],[],[],false,false⟩
def zbQ:Nat→Sh:=xP []
def zbW (L:Nat):CBC:=noC
def zf3:St→St:=zaj 0 (bl 1569 23) (bl 8388543 23)
def zeh (p0:Int) (p5l:Nat) (p9 p10:Int) (b8:List V):St:=⟨((V.sc (.int .u64 p0))::(jn 4 ((V.own 8 0 p5l 1)::(jn 3 ((V.sc (.int .i64 p9))::((V.sc (.int .i64 p10))::(jn 12 []))))))),(gn 8 ((.live true b8)::(gn 14 [])))⟩
def zjI (p5l:Nat) (b8:List V):St:=⟨(jn 5 ((V.own 8 0 p5l 1)::(jn 17 []))),(gn 8 ((.live true b8)::(gn 14 [])))⟩
def zum {β:Type} (L:Nat) (p0 p1:Int) (k_hbbaba:Int→Nat→Int→Int→List V→Option β):Option β :=
 chk (0≤p1∧p1≤p1∧(Int.toNat p1) * 1≤zt∧p1≤zt∧p1=p1) (
 k_hbbaba p0 (List.length (List.replicate (Int.toNat p1) [(V.sc (.int .u8 (0:Int)))])) p1 (0:Int) (List.flatten (List.replicate (Int.toNat p1) [(V.sc (.int .u8 (0:Int)))])))
theorem zx4 {β:Type} (L:Nat) (p0 p1:Int) (k:KK β):xt zbQ (zbW L) L zdG [(V.sc (.int .u64 p0)),(V.sc (.int .i64 p1))] [] k=zum L p0 p1 (fun p0 p5l p9 p10 b8=>yF (xm zbQ (zbW L) 0 L zdC) zf3 L (zeh p0 p5l p9 p10 b8) (xE 0 (xR (xm zbQ (zbW L) 0 L zlj) (y5 0 (CF.res zdG) k)))):=by kernel_rfl
def zoz {β:Type} (L:Nat) (p0:Int) (p5l:Nat) (p9 p10:Int) (b8:List V) (k_hbbaba:Int→Nat→Int→Int→List V→Option β) (k_x0:Nat→List V→Option β):Option β :=
 ifb (decide (p10 < p9)) (
 lt (IntKind.wrap .i64 (((8:Int):Int) * p10)) fun x0 =>
 chk (0≤x0) (
 lt (zo0 .u64 p0 x0) fun x1 =>
 lt (IntKind.wrap .u8 x1) fun x2 =>
 chk (0≤p10∧p10 < ((p5l:Nat):Int)) (
 chk (1=1∧(0+((Int.toNat p10) * 1))+1≤(List.length b8)) (
 lt (zh b8 (0+((Int.toNat p10) * 1)) [(V.sc (.int .u8 x2))]) fun r3 =>
 lt (IntKind.wrap .i64 ((p10:Int)+(1:Int))) fun x4 =>
 k_hbbaba p0 p5l p9 x4 r3)))) (
 k_x0 p5l b8)
theorem zs9 {β:Type} (L:Nat) (p0:Int) (p5l:Nat) (p9 p10:Int) (b8:List V) (X:St→Option β) (K:KT β):xm zbQ (zbW L) 0 L zdC (zeh p0 p5l p9 p10 b8) (zbR zf3 X K)=zoz L p0 p5l p9 p10 b8 (fun p0 p5l p9 p10 b8=>X (zeh p0 p5l p9 p10 b8)) (fun p5l b8=>K (.exit 0) (zjI p5l b8)):=by kernel_rfl
def zmD {β:Type} (L:Nat) (p5l:Nat) (b8:List V) (k_fin:List (List V)→Option β):Option β :=
 chk (p5l≠0∨(List.length b8)=0) (
 k_fin (zl 1 p5l b8))
theorem zr1 {β:Type} (L:Nat) (p5l:Nat) (b8:List V) (k:KK β):(xE 0 (xR (xm zbQ (zbW L) 0 L zlj) (y5 0 (CF.res zdG) k))) (.exit 0) (zjI p5l b8)=zmD L p5l b8 (fun p0=>k (V.fr 1 p0) []):=by kernel_rfl
def zi0 {β:Type} (L:Nat) (k_x0:Nat→List V→Option β):Nat→Int→Nat→Int→Int→List V→Option β
 | 0,_,_,_,_,_=>none
 | n+1,p0,p5l,p9,p10,b8=>zoz L p0 p5l p9 p10 b8 (fun p0 p5l p9 p10 b8=>zi0 L k_x0 n p0 p5l p9 p10 b8) k_x0
theorem zlx {β:Type} (L:Nat) (K:KT β):∀ (n:Nat) (p0:Int) (p5l:Nat) (p9 p10:Int) (b8:List V),yF (xm zbQ (zbW L) 0 L zdC) zf3 n (zeh p0 p5l p9 p10 b8) K=zi0 L (fun p5l b8=>K (.exit 0) (zjI p5l b8)) n p0 p5l p9 p10 b8:=by
 intro n
 induction n with
 | zero=>intros; rfl
 | succ n ih =>
  intro p0 p5l p9 p10 b8
  refine (zs9 L p0 p5l p9 p10 b8 (fun σ=>yF (xm zbQ (zbW L) 0 L zdC) zf3 n σ K) K).trans ?_
  simp only [ih]
  rfl
def zoG {β:Type} (L:Nat) (p0 p1:Int) (k_fin:List (List V)→Option β):Option β :=
 zum L p0 p1 (fun p0 p5l p9 p10 b8=>zi0 L (fun p5l b8=>zmD L p5l b8 k_fin) L p0 p5l p9 p10 b8)
theorem zx7 {β:Type} (L:Nat) (p0 p1:Int) (k:KK β):xt zbQ (zbW L) L zdG [(V.sc (.int .u64 p0)),(V.sc (.int .i64 p1))] [] k=zoG L p0 p1 (fun p0=>k (V.fr 1 p0) []):=by
 refine (zx4 L p0 p1 k).trans ?_
 unfold zoG
 first
  | (simp only [zlx,zr1]; done)
  | (simp only [zlx]; rfl)
abbrev zea:=∀ (β:Type),Nat→Int→Int→(List (List V)→Option β)→Option β
def xG (β:Type) (L:Nat) (p0 p1:Int) (k_fin:List (List V)→Option β):Option β:=zoG L p0 p1 k_fin
def zhN (xG:zea) (L:Nat) (β:Type) (args:List V) (bor:Bor) (k:KK β):Option β:=match args,bor with
 | [a0,a1],[]=>aI .u64 a0 fun p0=>aI .i64 a1 fun p1=>xG β L p0 p1 (fun p0=>k (V.fr 1 p0) [])
 | _,_=>none
theorem zyK (L:Nat) (β:Type) (args:List V) (bor:Bor) (k:KK β) (r:β) (h:zhN xG L β args bor k=some r):xt zbQ (zbW L) L zdG args bor k=some r:=by
 unfold zhN at h
 split at h
 ·have q:=za5 h; clear h; obtain ⟨p0,rfl,h⟩:=q
  have q:=za5 h; clear h; obtain ⟨p1,rfl,h⟩:=q
  exact (zx7 L p0 p1 k).trans h
 ·cases h
def zjw:CF:=⟨18,[.tmp 4],
 (.seq (.reg [oo 4 (.move (.const (.gs 1 [])) true)])
 (.seq (.reg [oo 6 (.move (tq 0) false),
   oo 7 (.lenS (tq 6)),
   oo 8 (.move (tq 1) false),
   oo 9 (.lenS (tq 8)),
   oo 10 (.bin .add (tq 7) (tq 9)),
   oo 11 (.makeSlice 1 1 [(.sc (.int .u8 0))] (.const (.sc (.int .i64 0))) (tq 10)),
   oo 5 (.move (tq 11) true)])
 (.seq (.reg [oo 12 (.move (tq 5) true),
   oo 13 (.move (tq 0) false),
   oo 14 (.append 1 1 (tq 12) (tq 13)),
   oo 5 (.move (tq 14) true)])
 (.seq (.reg [oo 15 (.move (tq 5) true),
   oo 16 (.move (tq 1) false),
   oo 17 (.append 1 1 (tq 15) (tq 16)),
   oo 4 (.move (tq 17) true)])
 .ret))))⟩
def zqC:Hint:=⟨[(0,0),(1,6),(2,0),(2,3),(3,0),(3,3)],[],[none],[],[],false,false⟩
def znt:Nat→Sh:=xP []
def znC (L:Nat):CBC:=noC
def zoB {β:Type} (L:Nat) (p0 p1:List (List V)) (k_fin:List (List V)→Option β):Option β :=
 lt (IntKind.wrap .i64 ((((List.length p0:Nat):Int):Int)+((List.length p1:Nat):Int))) fun x0 =>
 chk (0≤(0:Int)∧(0:Int)≤x0∧(Int.toNat x0) * 1≤zt∧x0≤zt) (
 chk ((List.length (List.replicate 0 [(V.sc (.int .u8 (0:Int)))])+List.length p0) * 1≤zt∧List.length (List.replicate 0 [(V.sc (.int .u8 (0:Int)))])+List.length p0≤zt) (
 lt ((List.replicate 0 [(V.sc (.int .u8 (0:Int)))])++p0) fun l1 =>
 chk ((List.length l1+List.length p1) * 1≤zt∧List.length l1+List.length p1≤zt) (
 lt (l1++p1) fun l2 =>
 k_fin l2)))
theorem zyt {β:Type} (L:Nat) (p0 p1:List (List V)) (k:KK β):xt znt (znC L) L zjw [(V.sl 1 p0),(V.sl 1 p1)] [] k=zoB L p0 p1 (fun p0=>k (V.gs 1 p0) []):=by kernel_rfl
abbrev zec:=∀ (β:Type),Nat→List (List V)→List (List V)→(List (List V)→Option β)→Option β
def yH (β:Type) (L:Nat) (p0 p1:List (List V)) (k_fin:List (List V)→Option β):Option β:=zoB L p0 p1 k_fin
def zhx (yH:zec) (L:Nat) (β:Type) (args:List V) (bor:Bor) (k:KK β):Option β:=match args,bor with
 | [a0,a1],[]=>aL 1 a0 fun p0=>aL 1 a1 fun p1=>yH β L p0 p1 (fun p0=>k (V.gs 1 p0) [])
 | _,_=>none
theorem zx6 (L:Nat) (β:Type) (args:List V) (bor:Bor) (k:KK β) (r:β) (h:zhx yH L β args bor k=some r):xt znt (znC L) L zjw args bor k=some r:=by
 unfold zhx at h
 split at h
 ·have q:=y4 h; clear h; obtain ⟨p0,rfl,h⟩:=q
  have q:=y4 h; clear h; obtain ⟨p1,rfl,h⟩:=q
  exact (zyt L p0 p1 k).trans h
 ·cases h
def zgK:CF:=⟨10,[.tmp 4],
 (.seq (.reg [oo 4 (.move (.const (.gs 1 [])) true)])
 (.seq (.reg [oo 5 (.move (tq 0) false),
   oo 6 (.move (tq 1) false),
   oo 7 (.conv .u64 (tq 6)),
   oo 8 (.call 192 [((tq 7),0),((.const (.sc (.int .i64 4))),0)] []),
   oo 9 (.call 191 [((tq 5),0),((tq 8),0)] []),
   oo 4 (.move (tq 9) true)])
 .ret))⟩
def znV:Hint:=⟨[(0,0),(1,5)],[],[none],[],[],false,false⟩
def zjW:Nat→Sh:=xP []
def zkB (xG:zea) (yH:zec) (L:Nat):CBC:=(zx 191 (zhx yH L) (zx 192 (zhN xG L) noC))
def zk3 {β:Type} (xG:zea) (yH:zec) (L:Nat) (p0:List (List V)) (p1:Int) (k_fin:List (List V)→Option β):Option β :=
 lt (IntKind.wrap .u64 p1) fun x0 =>
 xG β L x0 (4:Int) (fun v1 =>
 yH β L p0 v1 (fun v2 =>
 k_fin v2))
theorem zva {β:Type} (xG:zea) (yH:zec) (L:Nat) (p0:List (List V)) (p1:Int) (k:KK β):xt zjW (zkB xG yH L) L zgK [(V.sl 1 p0),(V.sc (.int .u32 p1))] [] k=zk3 xG yH L p0 p1 (fun p0=>k (V.gs 1 p0) []):=by kernel_rfl
abbrev zcK:=∀ (β:Type),Nat→List (List V)→Int→(List (List V)→Option β)→Option β
def yx (β:Type) (L:Nat) (p0:List (List V)) (p1:Int) (k_fin:List (List V)→Option β):Option β:=zk3 xG yH L p0 p1 k_fin
def zfa (yx:zcK) (L:Nat) (β:Type) (args:List V) (bor:Bor) (k:KK β):Option β:=match args,bor with
 | [a0,a1],[]=>aL 1 a0 fun p0=>aI .u32 a1 fun p1=>yx β L p0 p1 (fun p0=>k (V.gs 1 p0) [])
 | _,_=>none
theorem zvo (L:Nat) (β:Type) (args:List V) (bor:Bor) (k:KK β) (r:β) (h:zfa yx L β args bor k=some r):xt zjW (zkB xG yH L) L zgK args bor k=some r:=by
 unfold zfa at h
 split at h
 ·have q:=y4 h; clear h; obtain ⟨p0,rfl,h⟩:=q
  have q:=za5 h; clear h; obtain ⟨p1,rfl,h⟩:=q
  exact (zva xG yH L p0 p1 k).trans h
 ·cases h
def zdw:CF:=⟨17,[.tmp 4],
 (.seq (.reg [oo 4 (.move (.const (.sc (.int .u64 0))) false)])
 (.seq (.reg [oo 6 (.move (tq 1) false),
   oo 7 (.conv .u64 (tq 6)),
   oo 8 (.bin .and (tq 7) (.const (.sc (.int .u64 63)))),
   oo 5 (.move (tq 8) false)])
 (.seq (.reg [oo 9 (.move (tq 0) false),
   oo 10 (.move (tq 5) false),
   oo 11 (.bin .shl (tq 9) (tq 10)),
   oo 12 (.move (tq 0) false),
   oo 13 (.move (tq 5) false),
   oo 14 (.bin .sub (.const (.sc (.int .u64 64))) (tq 13)),
   oo 15 (.bin .shr (tq 12) (tq 14)),
   oo 16 (.bin .or (tq 11) (tq 15)),
   oo 4 (.move (tq 16) false)])
 .ret)))⟩
def zhV:Hint:=⟨[],[],[none],[],[],false,false⟩
def zfl:Nat→Sh:=xP []
def zfs (L:Nat):CBC:=noC
def zkx {β:Type} (L:Nat) (p0 p1:Int) (k_fin:Int→Option β):Option β :=
 lt (IntKind.wrap .u64 p1) fun x0 =>
 lt (zIt .u64 x0 (63:Int)) fun x1 =>
 chk (0≤x1) (
 lt (zr8 .u64 p0 x1) fun x2 =>
 lt (IntKind.wrap .u64 (((64:Int):Int) - x1)) fun x3 =>
 chk (0≤x3) (
 lt (zo0 .u64 p0 x3) fun x4 =>
 lt (ior .u64 x2 x4) fun x5 =>
 k_fin x5))
theorem zpY {β:Type} (L:Nat) (p0 p1:Int) (k:KK β):xt zfl (zfs L) L zdw [(V.sc (.int .u64 p0)),(V.sc (.int .i64 p1))] [] k=zkx L p0 p1 (fun p0=>k (V.sc (.int .u64 p0)) []):=by kernel_rfl
abbrev xI:=∀ (β:Type),Nat→Int→Int→(Int→Option β)→Option β
def yd (β:Type) (L:Nat) (p0 p1:Int) (k_fin:Int→Option β):Option β:=zkx L p0 p1 k_fin
def zcw (yd:xI) (L:Nat) (β:Type) (args:List V) (bor:Bor) (k:KK β):Option β:=match args,bor with
 | [a0,a1],[]=>aI .u64 a0 fun p0=>aI .i64 a1 fun p1=>yd β L p0 p1 (fun p0=>k (V.sc (.int .u64 p0)) [])
 | _,_=>none
theorem zpD (L:Nat) (β:Type) (args:List V) (bor:Bor) (k:KK β) (r:β) (h:zcw yd L β args bor k=some r):xt zfl (zfs L) L zdw args bor k=some r:=by
 unfold zcw at h
 split at h
 ·have q:=za5 h; clear h; obtain ⟨p0,rfl,h⟩:=q
  have q:=za5 h; clear h; obtain ⟨p1,rfl,h⟩:=q
  exact (zpY L p0 p1 k).trans h
 ·cases h
def zfd:CC:=(.seq (.reg [oo 7 (.bin .lss (tq 6) (tq 5))])
 (.seq (.cond (tq 7)
 .skip
 (.seq (.mask (bl 20 82) (bl 4533176671146011638300671 82))
 (.exit 0)))
 (.seq (.block 1 (.seq (.reg [oo 8 (.indexAddrA 4 1 (tq 2) (.const (.sc (.int .i64 0)))),
   oo 9 (.load false 1 (tq 8) false),
   oo 10 (.indexAddrA 4 1 (tq 2) (.const (.sc (.int .i64 1)))),
   oo 11 (.load false 1 (tq 10) false),
   oo 12 (.bin .add (tq 9) (tq 11)),
   oo 13 (.indexAddrA 4 1 (tq 2) (.const (.sc (.int .i64 0)))),
   oz (.store 1 (tq 13) (tq 12))])
 (.seq (.reg [oo 14 (.indexAddrA 4 1 (tq 2) (.const (.sc (.int .i64 1)))),
   oo 15 (.load false 1 (tq 14) false),
   oo 16 (.call 118 [((tq 15),0),((.const (.sc (.int .i64 13))),0)] []),
   oo 17 (.indexAddrA 4 1 (tq 2) (.const (.sc (.int .i64 1)))),
   oz (.store 1 (tq 17) (tq 16))])
 (.seq (.reg [oo 18 (.indexAddrA 4 1 (tq 2) (.const (.sc (.int .i64 1)))),
   oo 19 (.load false 1 (tq 18) false),
   oo 20 (.indexAddrA 4 1 (tq 2) (.const (.sc (.int .i64 0)))),
   oo 21 (.load false 1 (tq 20) false),
   oo 22 (.bin .xor (tq 19) (tq 21)),
   oo 23 (.indexAddrA 4 1 (tq 2) (.const (.sc (.int .i64 1)))),
   oz (.store 1 (tq 23) (tq 22))])
 (.seq (.reg [oo 24 (.indexAddrA 4 1 (tq 2) (.const (.sc (.int .i64 0)))),
   oo 25 (.load false 1 (tq 24) false),
   oo 26 (.call 118 [((tq 25),0),((.const (.sc (.int .i64 32))),0)] []),
   oo 27 (.indexAddrA 4 1 (tq 2) (.const (.sc (.int .i64 0)))),
   oz (.store 1 (tq 27) (tq 26))])
 (.seq (.reg [oo 28 (.indexAddrA 4 1 (tq 2) (.const (.sc (.int .i64 2)))),
   oo 29 (.load false 1 (tq 28) false),
   oo 30 (.indexAddrA 4 1 (tq 2) (.const (.sc (.int .i64 3)))),
   oo 31 (.load false 1 (tq 30) false),
   oo 32 (.bin .add (tq 29) (tq 31)),
   oo 33 (.indexAddrA 4 1 (tq 2) (.const (.sc (.int .i64 2)))),
   oz (.store 1 (tq 33) (tq 32))])
 (.seq (.reg [oo 34 (.indexAddrA 4 1 (tq 2) (.const (.sc (.int .i64 3)))),
   oo 35 (.load false 1 (tq 34) false),
   oo 36 (.call 118 [((tq 35),0),((.const (.sc (.int .i64 16))),0)] []),
   oo 37 (.indexAddrA 4 1 (tq 2) (.const (.sc (.int .i64 3)))),
   oz (.store 1 (tq 37) (tq 36))])
 (.seq (.reg [oo 38 (.indexAddrA 4 1 (tq 2) (.const (.sc (.int .i64 3)))),
   oo 39 (.load false 1 (tq 38) false),
   oo 40 (.indexAddrA 4 1 (tq 2) (.const (.sc (.int .i64 2)))),
   oo 41 (.load false 1 (tq 40) false),
   oo 42 (.bin .xor (tq 39) (tq 41)),
   oo 43 (.indexAddrA 4 1 (tq 2) (.const (.sc (.int .i64 3)))),
   oz (.store 1 (tq 43) (tq 42))])
 (.seq (.reg [oo 44 (.indexAddrA 4 1 (tq 2) (.const (.sc (.int .i64 0)))),
   oo 45 (.load false 1 (tq 44) false),
   oo 46 (.indexAddrA 4 1 (tq 2) (.const (.sc (.int .i64 3)))),
   oo 47 (.load false 1 (tq 46) false),
   oo 48 (.bin .add (tq 45) (tq 47)),
   oo 49 (.indexAddrA 4 1 (tq 2) (.const (.sc (.int .i64 0)))),
   oz (.store 1 (tq 49) (tq 48))])
 (.seq (.reg [oo 50 (.indexAddrA 4 1 (tq 2) (.const (.sc (.int .i64 3)))),
   oo 51 (.load false 1 (tq 50) false),
   oo 52 (.call 118 [((tq 51),0),((.const (.sc (.int .i64 21))),0)] []),
   oo 53 (.indexAddrA 4 1 (tq 2) (.const (.sc (.int .i64 3)))),
   oz (.store 1 (tq 53) (tq 52))])
 (.seq (.reg [oo 54 (.indexAddrA 4 1 (tq 2) (.const (.sc (.int .i64 3)))),
   oo 55 (.load false 1 (tq 54) false),
   oo 56 (.indexAddrA 4 1 (tq 2) (.const (.sc (.int .i64 0)))),
   oo 57 (.load false 1 (tq 56) false),
   oo 58 (.bin .xor (tq 55) (tq 57)),
   oo 59 (.indexAddrA 4 1 (tq 2) (.const (.sc (.int .i64 3)))),
   oz (.store 1 (tq 59) (tq 58))])
 (.seq (.reg [oo 60 (.indexAddrA 4 1 (tq 2) (.const (.sc (.int .i64 2)))),
   oo 61 (.load false 1 (tq 60) false),
   oo 62 (.indexAddrA 4 1 (tq 2) (.const (.sc (.int .i64 1)))),
   oo 63 (.load false 1 (tq 62) false),
   oo 64 (.bin .add (tq 61) (tq 63)),
   oo 65 (.indexAddrA 4 1 (tq 2) (.const (.sc (.int .i64 2)))),
   oz (.store 1 (tq 65) (tq 64))])
 (.seq (.reg [oo 66 (.indexAddrA 4 1 (tq 2) (.const (.sc (.int .i64 1)))),
   oo 67 (.load false 1 (tq 66) false),
   oo 68 (.call 118 [((tq 67),0),((.const (.sc (.int .i64 17))),0)] []),
   oo 69 (.indexAddrA 4 1 (tq 2) (.const (.sc (.int .i64 1)))),
   oz (.store 1 (tq 69) (tq 68))])
 (.seq (.reg [oo 70 (.indexAddrA 4 1 (tq 2) (.const (.sc (.int .i64 1)))),
   oo 71 (.load false 1 (tq 70) false),
   oo 72 (.indexAddrA 4 1 (tq 2) (.const (.sc (.int .i64 2)))),
   oo 73 (.load false 1 (tq 72) false),
   oo 74 (.bin .xor (tq 71) (tq 73)),
   oo 75 (.indexAddrA 4 1 (tq 2) (.const (.sc (.int .i64 1)))),
   oz (.store 1 (tq 75) (tq 74))])
 (.reg [oo 76 (.indexAddrA 4 1 (tq 2) (.const (.sc (.int .i64 2)))),
   oo 77 (.load false 1 (tq 76) false),
   oo 78 (.call 118 [((tq 77),0),((.const (.sc (.int .i64 32))),0)] []),
   oo 79 (.indexAddrA 4 1 (tq 2) (.const (.sc (.int .i64 2)))),
   oz (.store 1 (tq 79) (tq 78))])))))))))))))))
 (.reg [oo 80 (.bin .add (tq 6) (.const (.sc (.int .i64 1)))),
   oo 6 (.move (tq 80) false)]))))
def zo5:CC:=(.seq (.reg [oo 81 (.load true 4 (tq 2) false),
   oz (.store 4 (tq 4) (tq 81))])
 .ret)
def ze3:CF:=⟨82,[.cell 4 true 4],
 (.seq (.reg [oo 2 (.box true (tq 0)),
   oo 4 (.alloc true [(.sc (.int .u64 0)),(.sc (.int .u64 0)),(.sc (.int .u64 0)),(.sc (.int .u64 0))])])
 (.seq (.seq (.reg [oo 5 (.move (tq 1) false),
   oo 6 (.move (.const (.sc (.int .i64 0))) false)])
 (.block 0 (.loop (bl 116 82) (bl 4533176671146011638300671 82)
 zfd)))
 zo5))⟩
def zsF:Hint:=⟨[],[],[none,some ((bl 116 82),(bl 4533176671146011638300671 82)),none,some ((bl 20 82),(bl 4533176671146011638300671 82)),none,none],[],[],false,false⟩
def zcz:Nat→Sh:=xP [(9,(.int .u64)),(11,(.int .u64)),(15,(.int .u64)),(19,(.int .u64)),(21,(.int .u64)),(25,(.int .u64)),(29,(.int .u64)),(31,(.int .u64)),(35,(.int .u64)),(39,(.int .u64)),(41,(.int .u64)),(45,(.int .u64)),(47,(.int .u64)),(51,(.int .u64)),(55,(.int .u64)),(57,(.int .u64)),(61,(.int .u64)),(63,(.int .u64)),(67,(.int .u64)),(71,(.int .u64)),(73,(.int .u64)),(77,(.int .u64))]
def zcA (yd:xI) (L:Nat):CBC:=(zx 118 (zcw yd L) noC)
def ziB:St→St:=zaj 0 (bl 116 82) (bl 4533176671146011638300671 82)
def zf1 (p5 p6:Int) (b2:List V) (zMe zMf zMg zMh:Int):St:=⟨(jn 2 ((V.ptr 2 0)::(jn 1 ((V.ptr 4 0)::((V.sc (.int .i64 p5))::((V.sc (.int .i64 p6))::(jn 75 []))))))),(gn 2 ((.live true b2)::(gn 1 ((.live true [(V.sc (.int .u64 zMe)),(V.sc (.int .u64 zMf)),(V.sc (.int .u64 zMg)),(V.sc (.int .u64 zMh))])::(gn 77 [])))))⟩
def zmk (b2:List V) (zMe zMf zMg zMh:Int):St:=⟨(jn 2 ((V.ptr 2 0)::(jn 1 ((V.ptr 4 0)::(jn 77 []))))),(gn 2 ((.live true b2)::(gn 1 ((.live true [(V.sc (.int .u64 zMe)),(V.sc (.int .u64 zMf)),(V.sc (.int .u64 zMg)),(V.sc (.int .u64 zMh))])::(gn 77 [])))))⟩
def zsb {β:Type} (yd:xI) (L:Nat) (p0:List V) (p1:Int) (k_hbaba:Int→Int→List V→Int→Int→Int→Int→Option β):Option β :=
 k_hbaba p1 (0:Int) p0 (0:Int) (0:Int) (0:Int) (0:Int)
theorem zAj {β:Type} (yd:xI) (L:Nat) (p0:List V) (p1:Int) (k:KK β):xt zcz (zcA yd L) L ze3 [(V.agg p0),(V.sc (.int .i64 p1))] [] k=zsb yd L p0 p1 (fun p5 p6 b2 zMe zMf zMg zMh=>yF (xm zcz (zcA yd L) 0 L zfd) ziB L (zf1 p5 p6 b2 zMe zMf zMg zMh) (xE 0 (xR (xm zcz (zcA yd L) 0 L zo5) (y5 0 (CF.res ze3) k)))):=by kernel_rfl
def zfJ {β:Type} (yd:xI) (L:Nat) (p5 p6:Int) (b2:List V) (zMe zMf zMg zMh:Int) (k_hbaba:Int→Int→List V→Int→Int→Int→Int→Option β) (k_x0:List V→Int→Int→Int→Int→Option β):Option β :=
 ifb (decide (p6 < p5)) (
 cI .u64 b2 0 fun v0 =>
 cI .u64 b2 1 fun v1 =>
 lt (IntKind.wrap .u64 ((v0:Int)+v1)) fun x2 =>
 chk (1=1∧0+1≤(List.length b2)) (
 lt (zh b2 0 [(V.sc (.int .u64 x2))]) fun r3 =>
 cI .u64 r3 1 fun v4 =>
 yd β L v4 (13:Int) (fun v5 =>
 chk (1=1∧1+1≤(List.length r3)) (
 lt (zh r3 1 [(V.sc (.int .u64 v5))]) fun r6 =>
 cI .u64 r6 1 fun v7 =>
 cI .u64 r6 0 fun v8 =>
 lt (zbe .u64 v7 v8) fun x9 =>
 chk (1=1∧1+1≤(List.length r6)) (
 lt (zh r6 1 [(V.sc (.int .u64 x9))]) fun r10 =>
 cI .u64 r10 0 fun v11 =>
 yd β L v11 (32:Int) (fun v12 =>
 chk (1=1∧0+1≤(List.length r10)) (
 lt (zh r10 0 [(V.sc (.int .u64 v12))]) fun r13 =>
 cI .u64 r13 2 fun v14 =>
 cI .u64 r13 3 fun v15 =>
 lt (IntKind.wrap .u64 ((v14:Int)+v15)) fun x16 =>
 chk (1=1∧2+1≤(List.length r13)) (
 lt (zh r13 2 [(V.sc (.int .u64 x16))]) fun r17 =>
 cI .u64 r17 3 fun v18 =>
 yd β L v18 (16:Int) (fun v19 =>
 chk (1=1∧3+1≤(List.length r17)) (
 lt (zh r17 3 [(V.sc (.int .u64 v19))]) fun r20 =>
 cI .u64 r20 3 fun v21 =>
 cI .u64 r20 2 fun v22 =>
 lt (zbe .u64 v21 v22) fun x23 =>
 chk (1=1∧3+1≤(List.length r20)) (
 lt (zh r20 3 [(V.sc (.int .u64 x23))]) fun r24 =>
 cI .u64 r24 0 fun v25 =>
 cI .u64 r24 3 fun v26 =>
 lt (IntKind.wrap .u64 ((v25:Int)+v26)) fun x27 =>
 chk (1=1∧0+1≤(List.length r24)) (
 lt (zh r24 0 [(V.sc (.int .u64 x27))]) fun r28 =>
 cI .u64 r28 3 fun v29 =>
 yd β L v29 (21:Int) (fun v30 =>
 chk (1=1∧3+1≤(List.length r28)) (
 lt (zh r28 3 [(V.sc (.int .u64 v30))]) fun r31 =>
 cI .u64 r31 3 fun v32 =>
 cI .u64 r31 0 fun v33 =>
 lt (zbe .u64 v32 v33) fun x34 =>
 chk (1=1∧3+1≤(List.length r31)) (
 lt (zh r31 3 [(V.sc (.int .u64 x34))]) fun r35 =>
 cI .u64 r35 2 fun v36 =>
 cI .u64 r35 1 fun v37 =>
 lt (IntKind.wrap .u64 ((v36:Int)+v37)) fun x38 =>
 chk (1=1∧2+1≤(List.length r35)) (
 lt (zh r35 2 [(V.sc (.int .u64 x38))]) fun r39 =>
 cI .u64 r39 1 fun v40 =>
 yd β L v40 (17:Int) (fun v41 =>
 chk (1=1∧1+1≤(List.length r39)) (
 lt (zh r39 1 [(V.sc (.int .u64 v41))]) fun r42 =>
 cI .u64 r42 1 fun v43 =>
 cI .u64 r42 2 fun v44 =>
 lt (zbe .u64 v43 v44) fun x45 =>
 chk (1=1∧1+1≤(List.length r42)) (
 lt (zh r42 1 [(V.sc (.int .u64 x45))]) fun r46 =>
 cI .u64 r46 2 fun v47 =>
 yd β L v47 (32:Int) (fun v48 =>
 chk (1=1∧2+1≤(List.length r46)) (
 lt (zh r46 2 [(V.sc (.int .u64 v48))]) fun r49 =>
 lt (IntKind.wrap .i64 ((p6:Int)+(1:Int))) fun x50 =>
 k_hbaba p5 x50 r49 zMe zMf zMg zMh))))))))))))))))))))) (
 k_x0 b2 zMe zMf zMg zMh)
theorem zwd {β:Type} (yd:xI) (L:Nat) (p5 p6:Int) (b2:List V) (zMe zMf zMg zMh:Int) (X:St→Option β) (K:KT β):xm zcz (zcA yd L) 0 L zfd (zf1 p5 p6 b2 zMe zMf zMg zMh) (zbR ziB X K)=zfJ yd L p5 p6 b2 zMe zMf zMg zMh (fun p5 p6 b2 zMe zMf zMg zMh=>X (zf1 p5 p6 b2 zMe zMf zMg zMh)) (fun b2 zMe zMf zMg zMh=>K (.exit 0) (zmk b2 zMe zMf zMg zMh)):=by kernel_rfl
def zkA {β:Type} (yd:xI) (L:Nat) (b2:List V) (zMe zMf zMg zMh:Int) (k_fin:List V→Option β):Option β :=
 chk (0+4≤(List.length b2)) (
 chk ((List.length (List.take 4 b2))=4∧0+4≤4) (
 lt (zh [(V.sc (.int .u64 zMe)),(V.sc (.int .u64 zMf)),(V.sc (.int .u64 zMg)),(V.sc (.int .u64 zMh))] 0 (List.take 4 b2)) fun r51 =>
 chk (0=0∧(List.length r51)=4∧4≠0) (
 k_fin r51)))
theorem zux {β:Type} (yd:xI) (L:Nat) (b2:List V) (zMe zMf zMg zMh:Int) (k:KK β):(xE 0 (xR (xm zcz (zcA yd L) 0 L zo5) (y5 0 (CF.res ze3) k))) (.exit 0) (zmk b2 zMe zMf zMg zMh)=zkA yd L b2 zMe zMf zMg zMh (fun p0=>k (V.agg p0) []):=by kernel_rfl
def zfz {β:Type} (yd:xI) (L:Nat) (k_x0:List V→Int→Int→Int→Int→Option β):Nat→Int→Int→List V→Int→Int→Int→Int→Option β
 | 0,_,_,_,_,_,_,_=>none
 | n+1,p5,p6,b2,zMe,zMf,zMg,zMh=>zfJ yd L p5 p6 b2 zMe zMf zMg zMh (fun p5 p6 b2 zMe zMf zMg zMh=>zfz yd L k_x0 n p5 p6 b2 zMe zMf zMg zMh) k_x0
theorem zoo {β:Type} (yd:xI) (L:Nat) (K:KT β):∀ (n:Nat) (p5 p6:Int) (b2:List V) (zMe zMf zMg zMh:Int),yF (xm zcz (zcA yd L) 0 L zfd) ziB n (zf1 p5 p6 b2 zMe zMf zMg zMh) K=zfz yd L (fun b2 zMe zMf zMg zMh=>K (.exit 0) (zmk b2 zMe zMf zMg zMh)) n p5 p6 b2 zMe zMf zMg zMh:=by
 intro n
 induction n with
 | zero=>intros; rfl
 | succ n ih =>
  intro p5 p6 b2 zMe zMf zMg zMh
  refine (zwd yd L p5 p6 b2 zMe zMf zMg zMh (fun σ=>yF (xm zcz (zcA yd L) 0 L zfd) ziB n σ K) K).trans ?_
  simp only [ih]
  rfl
def zno {β:Type} (yd:xI) (L:Nat) (p0:List V) (p1:Int) (k_fin:List V→Option β):Option β :=
 zsb yd L p0 p1 (fun p5 p6 b2 zMe zMf zMg zMh=>zfz yd L (fun b2 zMe zMf zMg zMh=>zkA yd L b2 zMe zMf zMg zMh k_fin) L p5 p6 b2 zMe zMf zMg zMh)
theorem zAg {β:Type} (yd:xI) (L:Nat) (p0:List V) (p1:Int) (k:KK β):xt zcz (zcA yd L) L ze3 [(V.agg p0),(V.sc (.int .i64 p1))] [] k=zno yd L p0 p1 (fun p0=>k (V.agg p0) []):=by
 refine (zAj yd L p0 p1 k).trans ?_
 unfold zno
 first
  | (simp only [zoo,zux]; done)
  | (simp only [zoo]; rfl)
abbrev za9:=∀ (β:Type),Nat→List V→Int→(List V→Option β)→Option β
def xp (β:Type) (L:Nat) (p0:List V) (p1:Int) (k_fin:List V→Option β):Option β:=zno yd L p0 p1 k_fin
def zjL (xp:za9) (L:Nat) (β:Type) (args:List V) (bor:Bor) (k:KK β):Option β:=match args,bor with
 | [a0,a1],[]=>aG a0 fun p0=>aI .i64 a1 fun p1=>xp β L p0 p1 (fun p0=>k (V.agg p0) [])
 | _,_=>none
theorem zz7 (L:Nat) (β:Type) (args:List V) (bor:Bor) (k:KK β) (r:β) (h:zjL xp L β args bor k=some r):xt zcz (zcA yd L) L ze3 args bor k=some r:=by
 unfold zjL at h
 split at h
 ·have q:=xZ h; clear h; obtain ⟨p0,rfl,h⟩:=q
  have q:=za5 h; clear h; obtain ⟨p1,rfl,h⟩:=q
  exact (zAg yd L p0 p1 k).trans h
 ·cases h
def zl4:CF:=⟨18,[.cell 4 true 4],
 (.seq (.reg [oo 2 (.box true (tq 0)),
   oo 4 (.alloc true [(.sc (.int .u64 0)),(.sc (.int .u64 0)),(.sc (.int .u64 0)),(.sc (.int .u64 0))])])
 (.seq (.reg [oo 5 (.indexAddrA 4 1 (tq 2) (.const (.sc (.int .i64 3)))),
   oo 6 (.load false 1 (tq 5) false),
   oo 7 (.move (tq 1) false),
   oo 8 (.bin .xor (tq 6) (tq 7)),
   oo 9 (.indexAddrA 4 1 (tq 2) (.const (.sc (.int .i64 3)))),
   oz (.store 1 (tq 9) (tq 8))])
 (.seq (.reg [oo 10 (.load true 4 (tq 2) false),
   oo 11 (.call 113 [((tq 10),0),((.const (.sc (.int .i64 2))),0)] []),
   oz (.store 4 (tq 2) (tq 11))])
 (.seq (.reg [oo 12 (.indexAddrA 4 1 (tq 2) (.const (.sc (.int .i64 0)))),
   oo 13 (.load false 1 (tq 12) false),
   oo 14 (.move (tq 1) false),
   oo 15 (.bin .xor (tq 13) (tq 14)),
   oo 16 (.indexAddrA 4 1 (tq 2) (.const (.sc (.int .i64 0)))),
   oz (.store 1 (tq 16) (tq 15))])
 (.seq (.reg [oo 17 (.load true 4 (tq 2) false),
   oz (.store 4 (tq 4) (tq 17))])
 .ret)))))⟩
def zs8:Hint:=⟨[],[],[none],[],[],false,false⟩
def zqi:Nat→Sh:=xP [(6,(.int .u64)),(13,(.int .u64))]
def zqb (xp:za9) (L:Nat):CBC:=(zx 113 (zjL xp L) noC)
def zru {β:Type} (xp:za9) (L:Nat) (p0:List V) (p1:Int) (k_fin:List V→Option β):Option β :=
 cI .u64 p0 3 fun v0 =>
 lt (zbe .u64 v0 p1) fun x1 =>
 chk (1=1∧3+1≤(List.length p0)) (
 lt (zh p0 3 [(V.sc (.int .u64 x1))]) fun r2 =>
 chk (0+4≤(List.length r2)) (
 xp β L (List.take 4 r2) (2:Int) (fun v3 =>
 chk ((List.length v3)=4∧0+4≤(List.length r2)) (
 lt (zh r2 0 v3) fun r4 =>
 cI .u64 r4 0 fun v5 =>
 lt (zbe .u64 v5 p1) fun x6 =>
 chk (1=1∧0+1≤(List.length r4)) (
 lt (zh r4 0 [(V.sc (.int .u64 x6))]) fun r7 =>
 chk (0+4≤(List.length r7)) (
 chk ((List.length (List.take 4 r7))=4∧0+4≤4) (
 lt (zh [(V.sc (.int .u64 (0:Int))),(V.sc (.int .u64 (0:Int))),(V.sc (.int .u64 (0:Int))),(V.sc (.int .u64 (0:Int)))] 0 (List.take 4 r7)) fun r8 =>
 chk (0=0∧(List.length r8)=4∧4≠0) (
 k_fin r8))))))))
theorem zAW {β:Type} (xp:za9) (L:Nat) (p0:List V) (p1:Int) (k:KK β):xt zqi (zqb xp L) L zl4 [(V.agg p0),(V.sc (.int .u64 p1))] [] k=zru xp L p0 p1 (fun p0=>k (V.agg p0) []):=by kernel_rfl
abbrev zcc:=∀ (β:Type),Nat→List V→Int→(List V→Option β)→Option β
def yy (β:Type) (L:Nat) (p0:List V) (p1:Int) (k_fin:List V→Option β):Option β:=zru xp L p0 p1 k_fin
def znL (yy:zcc) (L:Nat) (β:Type) (args:List V) (bor:Bor) (k:KK β):Option β:=match args,bor with
 | [a0,a1],[]=>aG a0 fun p0=>aI .u64 a1 fun p1=>yy β L p0 p1 (fun p0=>k (V.agg p0) [])
 | _,_=>none
theorem zAZ (L:Nat) (β:Type) (args:List V) (bor:Bor) (k:KK β) (r:β) (h:znL yy L β args bor k=some r):xt zqi (zqb xp L) L zl4 args bor k=some r:=by
 unfold znL at h
 split at h
 ·have q:=xZ h; clear h; obtain ⟨p0,rfl,h⟩:=q
  have q:=za5 h; clear h; obtain ⟨p1,rfl,h⟩:=q
  exact (zAW xp L p0 p1 k).trans h
 ·cases h
def zfS:CC:=(.seq (.reg [oo 26 (.bin .lss (tq 25) (tq 24))])
 (.seq (.cond (tq 26)
 .skip
 (.seq (.mask (bl 98 69) (bl 590295810152547221371 69))
 (.exit 0)))
 (.seq (.block 1 (.seq (.reg [oo 27 (.move (tq 25) false),
   oo 7 (.move (tq 27) false)])
 (.dreg [] [(oo 28 (.load true 4 (tq 5) false),ql 5 [] []),
   (oo 29 (.move (tq 1) false),q0),
   (oo 30 (.move (tq 7) false),q0),
   (oo 31 (.bin .mul (.const (.sc (.int .i64 8))) (tq 30)),q0),
   (oo 32 (.move (tq 7) false),q0),
   (oo 33 (.bin .mul (.const (.sc (.int .i64 8))) (tq 32)),q0),
   (oo 34 (.bin .add (tq 33) (.const (.sc (.int .i64 8)))),q0),
   (oo 35 (.sliceS 1 (tq 29) (some (tq 31)) (some (tq 34)) none),q0),
   (oo 36 (.call 112 [((tq 35),0)] []),qc [5] []),
   (oo 37 (.call 111 [((tq 28),0),((tq 36),0)] []),q0),
   (oz (.store 4 (tq 5) (tq 37)),q0)])))
 (.reg [oo 38 (.bin .add (tq 25) (.const (.sc (.int .i64 1)))),
   oo 25 (.move (tq 38) false)]))))
def zqm:CC:=(.seq (.dreg [] [(oo 39 (.load true 4 (tq 5) false),ql 5 [] []),
   (oo 40 (.move (tq 1) false),q0),
   (oo 41 (.move (tq 6) false),q0),
   (oo 42 (.bin .mul (.const (.sc (.int .i64 8))) (tq 41)),q0),
   (oo 43 (.sliceS 1 (tq 40) (some (tq 42)) none none),q0),
   (oo 44 (.call 112 [((tq 43),0)] []),qc [5] []),
   (oo 45 (.move (tq 1) false),q0),
   (oo 46 (.lenS (tq 45)),q0),
   (oo 47 (.bin .rem (tq 46) (.const (.sc (.int .i64 256)))),q0),
   (oo 48 (.conv .u64 (tq 47)),q0),
   (oo 49 (.bin .shl (tq 48) (.const (.sc (.int .u64 56)))),q0),
   (oo 50 (.bin .or (tq 44) (tq 49)),q0),
   (oo 51 (.call 111 [((tq 39),0),((tq 50),0)] []),q0),
   (oz (.store 4 (tq 5) (tq 51)),q0)])
 (.seq (.reg [oo 52 (.indexAddrA 4 1 (tq 5) (.const (.sc (.int .i64 2)))),
   oo 53 (.load false 1 (tq 52) false),
   oo 54 (.bin .xor (tq 53) (.const (.sc (.int .u64 255)))),
   oo 55 (.indexAddrA 4 1 (tq 5) (.const (.sc (.int .i64 2)))),
   oz (.store 1 (tq 55) (tq 54))])
 (.seq (.reg [oo 56 (.load true 4 (tq 5) false),
   oo 57 (.call 113 [((tq 56),0),((.const (.sc (.int .i64 4))),0)] []),
   oz (.store 4 (tq 5) (tq 57))])
 (.seq (.reg [oo 58 (.indexAddrA 4 1 (tq 5) (.const (.sc (.int .i64 0)))),
   oo 59 (.load false 1 (tq 58) false),
   oo 60 (.indexAddrA 4 1 (tq 5) (.const (.sc (.int .i64 1)))),
   oo 61 (.load false 1 (tq 60) false),
   oo 62 (.bin .xor (tq 59) (tq 61)),
   oo 63 (.indexAddrA 4 1 (tq 5) (.const (.sc (.int .i64 2)))),
   oo 64 (.load false 1 (tq 63) false),
   oo 65 (.bin .xor (tq 62) (tq 64)),
   oo 66 (.indexAddrA 4 1 (tq 5) (.const (.sc (.int .i64 3)))),
   oo 67 (.load false 1 (tq 66) false),
   oo 68 (.bin .xor (tq 65) (tq 67)),
   oo 4 (.move (tq 68) false)])
 .ret))))
def zik:CF:=⟨69,[.tmp 4],
 (.seq (.reg [oo 2 (.box true (tq 0)),
   oo 4 (.move (.const (.sc (.int .u64 0))) false)])
 (.seq (.reg [oo 8 (.indexAddrA 2 1 (tq 2) (.const (.sc (.int .i64 0)))),
   oo 9 (.load false 1 (tq 8) false),
   oo 10 (.bin .xor (tq 9) (.const (.sc (.int .u64 8317987319222330741)))),
   oo 11 (.indexAddrA 2 1 (tq 2) (.const (.sc (.int .i64 1)))),
   oo 12 (.load false 1 (tq 11) false),
   oo 13 (.bin .xor (tq 12) (.const (.sc (.int .u64 7237128888997146477)))),
   oo 14 (.indexAddrA 2 1 (tq 2) (.const (.sc (.int .i64 0)))),
   oo 15 (.load false 1 (tq 14) false),
   oo 16 (.bin .xor (tq 15) (.const (.sc (.int .u64 7816392313619706465)))),
   oo 17 (.indexAddrA 2 1 (tq 2) (.const (.sc (.int .i64 1)))),
   oo 18 (.load false 1 (tq 17) false),
   oo 19 (.bin .xor (tq 18) (.const (.sc (.int .u64 8387220255154660723)))),
   oo 20 (.build [(.sc (.int .u64 0)),(.sc (.int .u64 0)),(.sc (.int .u64 0)),(.sc (.int .u64 0))] [(0,1,(tq 10)),(1,1,(tq 13)),(2,1,(tq 16)),(3,1,(tq 19))]),
   oo 5 (.alloc true [(.sc (.int .u64 0)),(.sc (.int .u64 0)),(.sc (.int .u64 0)),(.sc (.int .u64 0))]),
   oz (.store 4 (tq 5) (tq 20))])
 (.seq (.reg [oo 21 (.move (tq 1) false),
   oo 22 (.lenS (tq 21)),
   oo 23 (.bin .quo (tq 22) (.const (.sc (.int .i64 8)))),
   oo 6 (.move (tq 23) false)])
 (.seq (.seq (.reg [oo 24 (.move (tq 6) false),
   oo 25 (.move (.const (.sc (.int .i64 0))) false)])
 (.block 0 (.loop (bl 50331746 69) (bl 590295810152547221371 69)
 zfS)))
 zqm))))⟩
def zwV:Hint:=⟨[],[],[none,some ((bl 50331746 69),(bl 590295810152547221371 69)),none,some ((bl 98 69),(bl 590295810152547221371 69)),none,none],[],[],false,false⟩
def zem:Nat→Sh:=xP [(9,(.int .u64)),(12,(.int .u64)),(15,(.int .u64)),(18,(.int .u64)),(53,(.int .u64)),(59,(.int .u64)),(61,(.int .u64)),(64,(.int .u64)),(67,(.int .u64))]
def zep (zw:zb8) (yy:zcc) (xp:za9) (L:Nat):CBC:=(zx 113 (zjL xp L) (zx 111 (znL yy L) (zx 112 (zm8 zw L) noC)))
def zjD:St→St:=zaj 0 (bl 50331746 69) (bl 590295810152547221371 69)
def zgT (p1:List (List V)) (p6 p24 p25:Int) (b5:List V):St:=⟨(jn 1 ((V.sl 1 p1)::(jn 3 ((V.ptr 5 0)::((V.sc (.int .i64 p6))::(jn 17 ((V.sc (.int .i64 p24))::((V.sc (.int .i64 p25))::(jn 43 []))))))))),(gn 5 ((.live true b5)::(gn 63 [])))⟩
def zqd (p1:List (List V)) (p6:Int) (b5:List V):St:=⟨(jn 1 ((V.sl 1 p1)::(jn 3 ((V.ptr 5 0)::((V.sc (.int .i64 p6))::(jn 62 [])))))),(gn 5 ((.live true b5)::(gn 63 [])))⟩
def zwT {β:Type} (zw:zb8) (yy:zcc) (xp:za9) (L:Nat) (p0:List V) (p1:List (List V)) (k_hbbbaba:List (List V)→Int→Int→Int→List V→Option β):Option β :=
 cI .u64 p0 0 fun v0 =>
 lt (zbe .u64 v0 (8317987319222330741:Int)) fun x1 =>
 cI .u64 p0 1 fun v2 =>
 lt (zbe .u64 v2 (7237128888997146477:Int)) fun x3 =>
 cI .u64 p0 0 fun v4 =>
 lt (zbe .u64 v4 (7816392313619706465:Int)) fun x5 =>
 cI .u64 p0 1 fun v6 =>
 lt (zbe .u64 v6 (8387220255154660723:Int)) fun x7 =>
 lt [(V.sc (.int .u64 x1)),(V.sc (.int .u64 x3)),(V.sc (.int .u64 x5)),(V.sc (.int .u64 x7))] fun r8 =>
 lt (IntKind.wrap .i64 (Int.tdiv ((List.length p1:Nat):Int) (8:Int))) fun x9 =>
 k_hbbbaba p1 x9 x9 (0:Int) r8
theorem zDP {β:Type} (zw:zb8) (yy:zcc) (xp:za9) (L:Nat) (p0:List V) (p1:List (List V)) (k:KK β):xt zem (zep zw yy xp L) L zik [(V.agg p0),(V.sl 1 p1)] [] k=zwT zw yy xp L p0 p1 (fun p1 p6 p24 p25 b5=>yF (xm zem (zep zw yy xp L) 0 L zfS) zjD L (zgT p1 p6 p24 p25 b5) (xE 0 (xR (xm zem (zep zw yy xp L) 0 L zqm) (y5 0 (CF.res zik) k)))):=by kernel_rfl
def zm4 {β:Type} (zw:zb8) (yy:zcc) (xp:za9) (L:Nat) (p1:List (List V)) (p6 p24 p25:Int) (b5:List V) (k_hbbbaba:List (List V)→Int→Int→Int→List V→Option β) (k_x0:List (List V)→Int→List V→Option β):Option β :=
 ifb (decide (p25 < p24)) (
 chk (0+4≤(List.length b5)) (
 lt (IntKind.wrap .i64 (((8:Int):Int) * p25)) fun x10 =>
 lt (IntKind.wrap .i64 (((8:Int):Int) * p25)) fun x11 =>
 lt (IntKind.wrap .i64 ((x11:Int)+(8:Int))) fun x12 =>
 chk (0≤x12∧x12≤(((List.length p1):Nat):Int)) (
 chk (0≤x10∧x10≤(((Int.toNat x12):Nat):Int)) (
 zw β L (List.take ((Int.toNat x12) - (Int.toNat x10)) (List.drop (Int.toNat x10) p1)) (fun v13 =>
 yy β L (List.take 4 b5) v13 (fun v14 =>
 chk ((List.length v14)=4∧0+4≤(List.length b5)) (
 lt (zh b5 0 v14) fun r15 =>
 lt (IntKind.wrap .i64 ((p25:Int)+(1:Int))) fun x16 =>
 k_hbbbaba p1 p6 p24 x16 r15))))))) (
 k_x0 p1 p6 b5)
theorem zwx {β:Type} (zw:zb8) (yy:zcc) (xp:za9) (L:Nat) (p1:List (List V)) (p6 p24 p25:Int) (b5:List V) (X:St→Option β) (K:KT β):xm zem (zep zw yy xp L) 0 L zfS (zgT p1 p6 p24 p25 b5) (zbR zjD X K)=zm4 zw yy xp L p1 p6 p24 p25 b5 (fun p1 p6 p24 p25 b5=>X (zgT p1 p6 p24 p25 b5)) (fun p1 p6 b5=>K (.exit 0) (zqd p1 p6 b5)):=by kernel_rfl
def zhp {β:Type} (zw:zb8) (yy:zcc) (xp:za9) (L:Nat) (p1:List (List V)) (p6:Int) (b5:List V) (k_fin:Int→Option β):Option β :=
 chk (0+4≤(List.length b5)) (
 lt (IntKind.wrap .i64 (((8:Int):Int) * p6)) fun x17 =>
 chk (0≤x17∧x17≤(((List.length p1):Nat):Int)) (
 zw β L (List.take ((List.length p1) - (Int.toNat x17)) (List.drop (Int.toNat x17) p1)) (fun v18 =>
 lt (Int.tmod ((List.length p1:Nat):Int) (256:Int)) fun x19 =>
 lt (IntKind.wrap .u64 x19) fun x20 =>
 lt (zr8 .u64 x20 (56:Int)) fun x21 =>
 lt (ior .u64 v18 x21) fun x22 =>
 yy β L (List.take 4 b5) x22 (fun v23 =>
 chk ((List.length v23)=4∧0+4≤(List.length b5)) (
 lt (zh b5 0 v23) fun r24 =>
 cI .u64 r24 2 fun v25 =>
 lt (zbe .u64 v25 (255:Int)) fun x26 =>
 chk (1=1∧2+1≤(List.length r24)) (
 lt (zh r24 2 [(V.sc (.int .u64 x26))]) fun r27 =>
 chk (0+4≤(List.length r27)) (
 xp β L (List.take 4 r27) (4:Int) (fun v28 =>
 chk ((List.length v28)=4∧0+4≤(List.length r27)) (
 lt (zh r27 0 v28) fun r29 =>
 cI .u64 r29 0 fun v30 =>
 cI .u64 r29 1 fun v31 =>
 lt (zbe .u64 v30 v31) fun x32 =>
 cI .u64 r29 2 fun v33 =>
 lt (zbe .u64 x32 v33) fun x34 =>
 cI .u64 r29 3 fun v35 =>
 lt (zbe .u64 x34 v35) fun x36 =>
 k_fin x36)))))))))
theorem zuL {β:Type} (zw:zb8) (yy:zcc) (xp:za9) (L:Nat) (p1:List (List V)) (p6:Int) (b5:List V) (k:KK β):(xE 0 (xR (xm zem (zep zw yy xp L) 0 L zqm) (y5 0 (CF.res zik) k))) (.exit 0) (zqd p1 p6 b5)=zhp zw yy xp L p1 p6 b5 (fun p0=>k (V.sc (.int .u64 p0)) []):=by kernel_rfl
def zgB {β:Type} (zw:zb8) (yy:zcc) (xp:za9) (L:Nat) (k_x0:List (List V)→Int→List V→Option β):Nat→List (List V)→Int→Int→Int→List V→Option β
 | 0,_,_,_,_,_=>none
 | n+1,p1,p6,p24,p25,b5=>zm4 zw yy xp L p1 p6 p24 p25 b5 (fun p1 p6 p24 p25 b5=>zgB zw yy xp L k_x0 n p1 p6 p24 p25 b5) k_x0
theorem zpF {β:Type} (zw:zb8) (yy:zcc) (xp:za9) (L:Nat) (K:KT β):∀ (n:Nat) (p1:List (List V)) (p6 p24 p25:Int) (b5:List V),yF (xm zem (zep zw yy xp L) 0 L zfS) zjD n (zgT p1 p6 p24 p25 b5) K=zgB zw yy xp L (fun p1 p6 b5=>K (.exit 0) (zqd p1 p6 b5)) n p1 p6 p24 p25 b5:=by
 intro n
 induction n with
 | zero=>intros; rfl
 | succ n ih =>
  intro p1 p6 p24 p25 b5
  refine (zwx zw yy xp L p1 p6 p24 p25 b5 (fun σ=>yF (xm zem (zep zw yy xp L) 0 L zfS) zjD n σ K) K).trans ?_
  simp only [ih]
  rfl
def zsN {β:Type} (zw:zb8) (yy:zcc) (xp:za9) (L:Nat) (p0:List V) (p1:List (List V)) (k_fin:Int→Option β):Option β :=
 zwT zw yy xp L p0 p1 (fun p1 p6 p24 p25 b5=>zgB zw yy xp L (fun p1 p6 b5=>zhp zw yy xp L p1 p6 b5 k_fin) L p1 p6 p24 p25 b5)
theorem zEr {β:Type} (zw:zb8) (yy:zcc) (xp:za9) (L:Nat) (p0:List V) (p1:List (List V)) (k:KK β):xt zem (zep zw yy xp L) L zik [(V.agg p0),(V.sl 1 p1)] [] k=zsN zw yy xp L p0 p1 (fun p0=>k (V.sc (.int .u64 p0)) []):=by
 refine (zDP zw yy xp L p0 p1 k).trans ?_
 unfold zsN
 first
  | (simp only [zpF,zuL]; done)
  | (simp only [zpF]; rfl)
abbrev zkw:=∀ (β:Type),Nat→List V→List (List V)→(Int→Option β)→Option β
def yV (β:Type) (L:Nat) (p0:List V) (p1:List (List V)) (k_fin:Int→Option β):Option β:=zsN zw yy xp L p0 p1 k_fin
def zpN (yV:zkw) (L:Nat) (β:Type) (args:List V) (bor:Bor) (k:KK β):Option β:=match args,bor with
 | [a0,a1],[]=>aG a0 fun p0=>aL 1 a1 fun p1=>yV β L p0 p1 (fun p0=>k (V.sc (.int .u64 p0)) [])
 | _,_=>none
theorem zEc (L:Nat) (β:Type) (args:List V) (bor:Bor) (k:KK β) (r:β) (h:zpN yV L β args bor k=some r):xt zem (zep zw yy xp L) L zik args bor k=some r:=by
 unfold zpN at h
 split at h
 ·have q:=xZ h; clear h; obtain ⟨p0,rfl,h⟩:=q
  have q:=y4 h; clear h; obtain ⟨p1,rfl,h⟩:=q
  exact (zEr zw yy xp L p0 p1 k).trans h
 ·cases h
def zdX:CF:=⟨32,[.tmp 6],
 (.seq (.reg [oo 3 (.box true (tq 0)),
   oo 4 (.box true (tq 1)),
   oo 6 (.move (.const (.sc (.int .i64 0))) false)])
 (.seq (.reg [oo 10 (.load true 32 (tq 3) false),
   oo 11 (.call 109 [((tq 10),0)] []),
   oo 7 (.alloc true [(.sc (.int .u64 0)),(.sc (.int .u64 0))]),
   oz (.store 2 (tq 7) (tq 11))])
 (.seq (.dreg [] [(oo 12 (.load true 2 (tq 7) false),ql 7 [4] [13]),
   (oo 13 (.buildSlice 1 1 [(.sc (.int .u8 0))] [(0,1,(.const (.sc (.int .u8 2))))]),qn [7,4] []),
   (oo 14 (.load true 3 (tq 4) false),ql 4 [7] [13]),
   (oo 15 (.call 269 [((tq 14),0)] []),qc [7] [13]),
   (oo 16 (.call 157 [((tq 13),0),((tq 15),0)] []),qc [7] []),
   (oo 17 (.move (tq 2) false),q0),
   (oo 18 (.call 157 [((tq 16),0),((tq 17),0)] []),qc [7] []),
   (oo 19 (.call 105 [((tq 12),0),((tq 18),0)] []),q0),
   (oo 20 (.bin .rem (tq 19) (.const (.sc (.int .u64 4)))),q0),
   (oo 8 (.move (tq 20) false),q0)])
 (.seq (.reg [oo 21 (.buildSlice 1 1 [(.sc (.int .u8 0))] [(0,1,(.const (.sc (.int .u8 1))))]),
   oo 22 (.move (tq 2) false),
   oo 23 (.call 157 [((tq 21),0),((tq 22),0)] []),
   oo 24 (.move (tq 8) false),
   oo 25 (.conv .u32 (tq 24)),
   oo 26 (.call 157 [((tq 23),0),((tq 25),0)] []),
   oo 9 (.move (tq 26) false)])
 (.seq (.reg [oo 27 (.load true 2 (tq 7) false),
   oo 28 (.move (tq 9) false),
   oo 29 (.call 105 [((tq 27),0),((tq 28),0)] []),
   oo 30 (.bin .rem (tq 29) (.const (.sc (.int .u64 64)))),
   oo 31 (.conv .i64 (tq 30)),
   oo 6 (.move (tq 31) false)])
 .ret)))))⟩
def zjC:Hint:=⟨[],[],[none],[],[],false,false⟩
def zgf:Nat→Sh:=xP []
def zgc (z6:zkn) (ya:zo) (yx:zcK) (yV:zkw) (L:Nat):CBC:=(zx 105 (zpN yV L) (zx 157 (zfa yx L) (zx 269 (zb4 ya L) (zx 109 (zpV z6 L) noC))))
def zg8 {β:Type} (z6:zkn) (ya:zo) (yx:zcK) (yV:zkw) (L:Nat) (p0 p1:List V) (p2:Int) (k_fin:Int→Option β):Option β :=
 chk (0+32≤(List.length p0)) (
 z6 β L (List.take 32 p0) (fun v0 =>
 chk ((List.length v0)=2∧0+2≤2) (
 lt (zh [(V.sc (.int .u64 (0:Int))),(V.sc (.int .u64 (0:Int)))] 0 v0) fun r1 =>
 chk (0+2≤(List.length r1)) (
 chk (0+3≤(List.length p1)) (
 ya β L (List.take 3 p1) (fun v2 =>
 yx β L (zl 1 1 [(V.sc (.int .u8 (2:Int)))]) v2 (fun v3 =>
 yx β L v3 p2 (fun v4 =>
 yV β L (List.take 2 r1) v4 (fun v5 =>
 lt (Int.tmod v5 (4:Int)) fun x6 =>
 yx β L (zl 1 1 [(V.sc (.int .u8 (1:Int)))]) p2 (fun v7 =>
 lt (IntKind.wrap .u32 x6) fun x8 =>
 yx β L v7 x8 (fun v9 =>
 chk (0+2≤(List.length r1)) (
 yV β L (List.take 2 r1) v9 (fun v10 =>
 lt (Int.tmod v10 (64:Int)) fun x11 =>
 lt (IntKind.wrap .i64 x11) fun x12 =>
 k_fin x12)))))))))))))
theorem zqF {β:Type} (z6:zkn) (ya:zo) (yx:zcK) (yV:zkw) (L:Nat) (p0 p1:List V) (p2:Int) (k:KK β):xt zgf (zgc z6 ya yx yV L) L zdX [(V.agg p0),(V.agg p1),(V.sc (.int .u32 p2))] [] k=zg8 z6 ya yx yV L p0 p1 p2 (fun p0=>k (V.sc (.int .i64 p0)) []):=by kernel_rfl
abbrev zet:=∀ (β:Type),Nat→List V→List V→Int→(Int→Option β)→Option β
def zI (β:Type) (L:Nat) (p0 p1:List V) (p2:Int) (k_fin:Int→Option β):Option β:=zg8 z6 ya yx yV L p0 p1 p2 k_fin
def zew (zI:zet) (L:Nat) (β:Type) (args:List V) (bor:Bor) (k:KK β):Option β:=match args,bor with
 | [a0,a1,a2],[]=>aG a0 fun p0=>aG a1 fun p1=>aI .u32 a2 fun p2=>zI β L p0 p1 p2 (fun p0=>k (V.sc (.int .i64 p0)) [])
 | _,_=>none
theorem zqX (L:Nat) (β:Type) (args:List V) (bor:Bor) (k:KK β) (r:β) (h:zew zI L β args bor k=some r):xt zgf (zgc z6 ya yx yV L) L zdX args bor k=some r:=by
 unfold zew at h
 split at h
 ·have q:=xZ h; clear h; obtain ⟨p0,rfl,h⟩:=q
  have q:=xZ h; clear h; obtain ⟨p1,rfl,h⟩:=q
  have q:=za5 h; clear h; obtain ⟨p2,rfl,h⟩:=q
  exact (zqF z6 ya yx yV L p0 p1 p2 k).trans h
 ·cases h
def zf6:CF:=⟨11,[.tmp 3],
 (.seq (.reg [oo 2 (.box true (tq 0)),
   oo 3 (.move (.const (.sc (.int .i64 0))) false)])
 (.seq (.reg [oo 4 (.fieldAddr 0 (tq 1)),
   oo 5 (.load true 32 (tq 4) false),
   oo 6 (.fieldAddr 1 (tq 2)),
   oo 7 (.load true 3 (tq 6) false),
   oo 8 (.fieldAddr 4 (tq 2)),
   oo 9 (.load false 1 (tq 8) false),
   oo 10 (.call 297 [((tq 5),0),((tq 7),0),((tq 9),0)] []),
   oo 3 (.move (tq 10) false)])
 .ret))⟩
def zmK:Hint:=⟨[],[],[none],[],[],false,false⟩
def ziW:Nat→Sh:=xP [(9,(.int .u32))]
def ziR (zI:zet) (L:Nat):CBC:=(zx 297 (zew zI L) noC)
def zjR {β:Type} (zI:zet) (L:Nat) (p0 b0:List V) (k_fin:Int→List V→Option β):Option β :=
 chk (0+32≤(List.length b0)) (
 chk (1+3≤(List.length p0)) (
 cI .u32 p0 4 fun v0 =>
 zI β L (List.take 32 b0) (List.take 3 (List.drop 1 p0)) v0 (fun v1 =>
 k_fin v1 b0)))
theorem zud {β:Type} (zI:zet) (L:Nat) (p0 b0:List V) (k:KK β):xt ziW (ziR zI L) L zf6 [(V.agg p0),(V.ptr 0 0)] [(.live true b0)] k=zjR zI L p0 b0 (fun p0 b0=>k (V.sc (.int .i64 p0)) [(.live true b0)]):=by kernel_rfl
abbrev zX:=∀ (β:Type),Nat→List V→List V→(Int→List V→Option β)→Option β
def zi (β:Type) (L:Nat) (p0 b0:List V) (k_fin:Int→List V→Option β):Option β:=zjR zI L p0 b0 k_fin
def zgF (zi:zX) (L:Nat) (β:Type) (args:List V) (bor:Bor) (k:KK β):Option β:=match args,bor with
 | [a0,a1],[(.live true b0)]=>aG a0 fun p0=>aP 0 0 a1 (zi β L p0 b0 (fun p0 b0=>k (V.sc (.int .i64 p0)) [(.live true b0)]))
 | _,_=>none
theorem ztZ (L:Nat) (β:Type) (args:List V) (bor:Bor) (k:KK β) (r:β) (h:zgF zi L β args bor k=some r):xt ziW (ziR zI L) L zf6 args bor k=some r:=by
 unfold zgF at h
 split at h
 ·have q:=xZ h; clear h; obtain ⟨p0,rfl,h⟩:=q
  have q:=zlz h; clear h; obtain ⟨rfl,h⟩:=q
  exact (zud zI L p0 _ k).trans h
 ·cases h
def zcI:CC:=(.seq (.reg [oo 18 (.bin .lss (tq 17) (tq 16))])
 (.seq (.cond (tq 18)
 .skip
 (.seq (.mask (bl 0 58) (bl 288230375077966399 58))
 (.exit 0)))
 (.seq (.block 1 (.seq (.reg [oo 19 (.indexAddrS 5 (tq 15) (tq 17)),
   oo 20 (.load true 5 (tq 19) false),
   oo 10 (.alloc true [(.sc (.int .i64 0)),(.sc (.int .u32 0)),(.sc (.int .u16 0)),(.sc (.int .u32 0)),(.sc (.int .u32 0))]),
   oz (.store 5 (tq 10) (tq 20))])
 (.seq (.seq (.dreg [] [(oo 21 (.fieldAddr 0 (tq 10)),q0),
   (oo 22 (.load false 1 (tq 21) false),q0),
   (oo 23 (.move (tq 7) false),q0),
   (oo 24 (.bin .lss (tq 22) (tq 23)),q0),
   (oo 25 (.move (tq 24) false),q0),
   (⟨(some 26),false,(some (25,false)),.fieldAddr 0 (tq 10)⟩,q0),
   (⟨(some 27),false,(some (25,false)),.load false 1 (tq 26) false⟩,ql 10 [] []),
   (⟨(some 28),false,(some (25,false)),.move (tq 2) false⟩,q0),
   (⟨(some 29),false,(some (25,false)),.load true 5 (tq 10) false⟩,ql 10 [] []),
   (⟨(some 30),false,(some (25,false)),.callv (tq 28) [((tq 29),0)] []⟩,qc [10] []),
   (⟨(some 31),false,(some (25,false)),.bin .neq (tq 27) (tq 30)⟩,q0),
   (oo 32 (.pick (tq 25) (.const (.sc (.bool true))) (tq 31)),q0)])
 (.cond (tq 32)
 (.seq (.reg [oo 6 (.move (.const (.sc (.bool false))) false)])
 (.seq (.mask (bl 64 58) (bl 288230375077966463 58))
 .ret))
 .skip))
 (.seq (.seq (.reg [oo 33 (.fieldAddr 0 (tq 10)),
   oo 34 (.load false 1 (tq 33) false),
   oo 35 (.move (tq 7) false),
   oo 36 (.bin .neq (tq 34) (tq 35))])
 (.cond (tq 36)
 (.reg [oo 37 (.fieldAddr 0 (tq 10)),
   oo 38 (.load false 1 (tq 37) false),
   oo 7 (.move (tq 38) false),
   oo 8 (.move (.const (.sc (.int .i64 0))) false)])
 .skip))
 (.seq (.reg [oo 39 (.move (tq 8) false),
   oo 40 (.bin .add (tq 39) (.const (.sc (.int .i64 1)))),
   oo 8 (.move (tq 40) false)])
 (.seq (.reg [oo 41 (.fieldAddr 1 (tq 10)),
   oo 42 (.fieldAddr 0 (tq 41)),
   oo 43 (.load false 1 (tq 42) false),
   oo 44 (.fieldAddr 1 (tq 10)),
   oo 45 (.fieldAddr 1 (tq 44)),
   oo 46 (.load false 1 (tq 45) false),
   oo 47 (.build [(.sc (.int .u32 0)),(.sc (.int .u16 0))] [(0,1,(tq 43)),(1,1,(tq 46))]),
   oo 11 (.alloc true [(.sc (.int .u32 0)),(.sc (.int .u16 0))]),
   oz (.store 2 (tq 11) (tq 47))])
 (.seq (.seq (.reg [oo 48 (.move (tq 8) false),
   oo 49 (.bin .gtr (tq 48) (.const (.sc (.int .i64 8)))),
   oo 50 (.move (tq 49) false),
   ⟨(some 51),false,(some (50,false)),.move (tq 1) false⟩,
   ⟨(some 52),false,(some (50,false)),.load true 2 (tq 11) false⟩,
   ⟨(some 53),false,(some (50,false)),.mlook 4 false (.sc (.bool false)) (tq 51) (tq 52)⟩,
   oo 54 (.pick (tq 50) (.const (.sc (.bool true))) (tq 53))])
 (.cond (tq 54)
 (.seq (.reg [oo 6 (.move (.const (.sc (.bool false))) false)])
 (.seq (.mask (bl 64 58) (bl 288230375077966463 58))
 .ret))
 .skip))
 (.reg [oo 55 (.move (tq 1) false),
   oo 56 (.load true 2 (tq 11) false),
   oz (.mput 4 (tq 55) (tq 56) (.const (.sc (.bool true))))]))))))))
 (.reg [oo 57 (.bin .add (tq 17) (.const (.sc (.int .i64 1)))),
   oo 17 (.move (tq 57) false)]))))
def zfk:CC:=(.seq (.reg [oo 6 (.move (.const (.sc (.bool true))) false)])
 .ret)
def zbz:CF:=⟨58,[.tmp 6],
 (.seq (.reg [oo 6 (.move (.const (.sc (.bool false))) false)])
 (.seq (.seq (.reg [oo 12 (.move (tq 0) false),
   oo 13 (.lenS (tq 12)),
   oo 14 (.bin .gtr (tq 13) (.const (.sc (.int .i64 512))))])
 (.cond (tq 14)
 (.seq (.reg [oo 6 (.move (.const (.sc (.bool false))) false)])
 .ret)
 .skip))
 (.seq (.reg [oo 7 (.move (.const (.sc (.int .i64 (-1)))) false),
   oo 8 (.move (.const (.sc (.int .i64 0))) false)])
 (.seq (.seq (.reg [oo 15 (.move (tq 0) false),
   oo 16 (.lenS (tq 15)),
   oo 17 (.move (.const (.sc (.int .i64 0))) false)])
 (.block 0 (.loop (bl 229766 58) (bl 288230375077966783 58)
 zcI)))
 zfk))))⟩
def zol:Hint:=⟨[],[],[none,none,none,some ((bl 229766 58),(bl 288230375077966783 58)),none,some ((bl 0 58),(bl 288230375077966399 58)),none,none,some ((bl 64 58),(bl 288230375077966463 58)),none,none,some ((bl 64 58),(bl 288230375077966463 58)),none],[],[],false,false⟩
def zaO:Nat→Sh:=xP [(22,(.int .i64)),(27,(.int .i64)),(34,(.int .i64)),(38,(.int .i64)),(43,(.int .u32)),(46,(.int .u16)),(53,.bool)]
def zaR (zi:zX) (L:Nat):CBC:=(zx 296 (zgF zi L) noC)
def zel:St→St:=zaj 2 (bl 229766 58) (bl 288230375077966783 58)
def zdy (p7 p8:Int) (p15:List (List V)) (p16 p17:Int) (b0:List (V × V)) (b1:List V):St:=⟨(jn 1 ((V.mp 0)::((V.fn 296 [(V.ptr 1 0)])::(jn 4 ((V.sc (.int .i64 p7))::((V.sc (.int .i64 p8))::(jn 6 ((V.sl 5 p15)::((V.sc (.int .i64 p16))::((V.sc (.int .i64 p17))::(jn 40 []))))))))))),((.mp b0)::((.live true b1)::(gn 58 [])))⟩
def zhJ (p6:Bool) (b0:List (V × V)) (b1:List V):St:=⟨(jn 6 ((V.sc (.bool p6))::(jn 51 []))),((.mp b0)::((.live true b1)::(gn 58 [])))⟩
def zic (b0:List (V × V)) (b1:List V):St:=⟨(jn 58 []),((.mp b0)::((.live true b1)::(gn 58 [])))⟩
abbrev zkZ (β:Type):Type:=Int→Int→List (List V)→Int→Int→List (V × V)→List V→Option β
def zmn {β:Type} (zi:zX) (L:Nat) (p0:List (List V)) (b0:List (V × V)) (b1:List V) (k_fin:Bool→List (V × V)→List V→Option β) (k_hbbbaba:zkZ β):Option β :=
 ifb (decide (((List.length p0:Nat):Int) > (512:Int))) (
 k_fin false b0 b1) (
 k_hbbbaba (-1:Int) (0:Int) p0 ((List.length p0:Nat):Int) (0:Int) b0 b1)
theorem zv4 {β:Type} (zi:zX) (L:Nat) (p0:List (List V)) (b0:List (V × V)) (b1:List V) (k:KK β):xt zaO (zaR zi L) L zbz [(V.sl 5 p0),(V.mp 0),(V.fn 296 [(V.ptr 1 0)])] [(.mp b0),(.live true b1)] k=zmn zi L p0 b0 b1 (fun p0 b0 b1=>k (V.sc (.bool p0)) [(.mp b0),(.live true b1)]) (fun p7 p8 p15 p16 p17 b0 b1=>yF (xm zaO (zaR zi L) 2 L zcI) zel L (zdy p7 p8 p15 p16 p17 b0 b1) (xE 0 (xR (xm zaO (zaR zi L) 2 L zfk) (y5 2 (CF.res zbz) k)))):=by kernel_rfl
def zg6 {β:Type} (zi:zX) (L:Nat) (p7 p8:Int) (p15:List (List V)) (p16 p17:Int) (b0:List (V × V)) (b1:List V) (k_ret:Bool→List (V × V)→List V→Option β) (k_hbbbaba:zkZ β) (k_x0:List (V × V)→List V→Option β):Option β :=
 ifb (decide (p17 < p16)) (
 idx p15 p17 fun c0 =>
 chk ((List.length (List.take 5 c0))=5∧0+5≤5) (
 lt (zh [(V.sc (.int .i64 (0:Int))),(V.sc (.int .u32 (0:Int))),(V.sc (.int .u16 (0:Int))),(V.sc (.int .u32 (0:Int))),(V.sc (.int .u32 (0:Int)))] 0 (List.take 5 c0)) fun r1 =>
 cI .i64 r1 0 fun v2 =>
 ifb (decide (v2 < p7)) (
 k_ret false b0 b1) (
 cI .i64 r1 0 fun v3 =>
 chk (0+5≤(List.length r1)) (
 zi β L (List.take 5 r1) b1 (fun v4 v5 =>
 chk ([(List.length v5)]=[(List.length b1)]) (
 ifb ((v3:Int) != v4) (
 k_ret false b0 v5) (
 cI .i64 r1 0 fun v6 =>
 ifb ((v6:Int) != p7) (
 cI .i64 r1 0 fun v7 =>
 lt (IntKind.wrap .i64 (((0:Int):Int)+(1:Int))) fun x8 =>
 cI .u32 r1 1 fun v9 =>
 cI .u16 r1 2 fun v10 =>
 lt [(V.sc (.int .u32 v9)),(V.sc (.int .u16 v10))] fun r11 =>
 ifb (decide (x8 > (8:Int))) (
 k_ret false b0 v5) (
 chk (0+2≤(List.length r11)) (
 mAt 4 (V.agg (List.take 2 r11)) b0 fun q12 =>
 aB (Option.getD q12 (V.sc (.bool false))) fun v13 =>
 ifb v13 (
 k_ret false b0 v5) (
 chk (0+2≤(List.length r11)) (
 ztg 4 (V.agg (List.take 2 r11)) (V.sc (.bool true)) b0 fun m14 =>
 lt (IntKind.wrap .i64 ((p17:Int)+(1:Int))) fun x15 =>
 k_hbbbaba v7 x8 p15 p16 x15 m14 v5))))) (
 lt (IntKind.wrap .i64 ((p8:Int)+(1:Int))) fun x16 =>
 cI .u32 r1 1 fun v17 =>
 cI .u16 r1 2 fun v18 =>
 lt [(V.sc (.int .u32 v17)),(V.sc (.int .u16 v18))] fun r19 =>
 ifb (decide (x16 > (8:Int))) (
 k_ret false b0 v5) (
 chk (0+2≤(List.length r19)) (
 mAt 4 (V.agg (List.take 2 r19)) b0 fun q20 =>
 aB (Option.getD q20 (V.sc (.bool false))) fun v21 =>
 ifb v21 (
 k_ret false b0 v5) (
 chk (0+2≤(List.length r19)) (
 ztg 4 (V.agg (List.take 2 r19)) (V.sc (.bool true)) b0 fun m22 =>
 lt (IntKind.wrap .i64 ((p17:Int)+(1:Int))) fun x23 =>
 k_hbbbaba p7 x16 p15 p16 x23 m22 v5)))))))))))) (
 k_x0 b0 b1)
theorem zqZ {β:Type} (zi:zX) (L:Nat) (p7 p8:Int) (p15:List (List V)) (p16 p17:Int) (b0:List (V × V)) (b1:List V) (X:St→Option β) (K:KT β):xm zaO (zaR zi L) 2 L zcI (zdy p7 p8 p15 p16 p17 b0 b1) (zbR zel X K)=zg6 zi L p7 p8 p15 p16 p17 b0 b1 (fun p6 b0 b1=>K .ret (zhJ p6 b0 b1)) (fun p7 p8 p15 p16 p17 b0 b1=>X (zdy p7 p8 p15 p16 p17 b0 b1)) (fun b0 b1=>K (.exit 0) (zic b0 b1)):=by kernel_rfl
def zfh {β:Type} (zi:zX) (L:Nat) (p6:Bool) (b0:List (V × V)) (b1:List V) (k_fin:Bool→List (V × V)→List V→Option β):Option β :=
 k_fin p6 b0 b1
theorem zoS {β:Type} (zi:zX) (L:Nat) (p6:Bool) (b0:List (V × V)) (b1:List V) (k:KK β):(xE 0 (xR (xm zaO (zaR zi L) 2 L zfk) (y5 2 (CF.res zbz) k))) .ret (zhJ p6 b0 b1)=zfh zi L p6 b0 b1 (fun p0 b0 b1=>k (V.sc (.bool p0)) [(.mp b0),(.live true b1)]):=by kernel_rfl
def zfN {β:Type} (zi:zX) (L:Nat) (b0:List (V × V)) (b1:List V) (k_fin:Bool→List (V × V)→List V→Option β):Option β :=
 k_fin true b0 b1
theorem zpC {β:Type} (zi:zX) (L:Nat) (b0:List (V × V)) (b1:List V) (k:KK β):(xE 0 (xR (xm zaO (zaR zi L) 2 L zfk) (y5 2 (CF.res zbz) k))) (.exit 0) (zic b0 b1)=zfN zi L b0 b1 (fun p0 b0 b1=>k (V.sc (.bool p0)) [(.mp b0),(.live true b1)]):=by kernel_rfl
def zci {β:Type} (zi:zX) (L:Nat) (k_ret:Bool→List (V × V)→List V→Option β) (k_x0:List (V × V)→List V→Option β):Nat→Int→Int→List (List V)→Int→Int→List (V × V)→List V→Option β
 | 0,_,_,_,_,_,_,_=>none
 | n+1,p7,p8,p15,p16,p17,b0,b1=>zg6 zi L p7 p8 p15 p16 p17 b0 b1 k_ret (fun p7 p8 p15 p16 p17 b0 b1=>zci zi L k_ret k_x0 n p7 p8 p15 p16 p17 b0 b1) k_x0
theorem zjm {β:Type} (zi:zX) (L:Nat) (K:KT β):∀ (n:Nat) (p7 p8:Int) (p15:List (List V)) (p16 p17:Int) (b0:List (V × V)) (b1:List V),yF (xm zaO (zaR zi L) 2 L zcI) zel n (zdy p7 p8 p15 p16 p17 b0 b1) K=zci zi L (fun p6 b0 b1=>K .ret (zhJ p6 b0 b1)) (fun b0 b1=>K (.exit 0) (zic b0 b1)) n p7 p8 p15 p16 p17 b0 b1:=by
 intro n
 induction n with
 | zero=>intros; rfl
 | succ n ih =>
  intro p7 p8 p15 p16 p17 b0 b1
  refine (zqZ zi L p7 p8 p15 p16 p17 b0 b1 (fun σ=>yF (xm zaO (zaR zi L) 2 L zcI) zel n σ K) K).trans ?_
  simp only [ih]
  rfl
def zil {β:Type} (zi:zX) (L:Nat) (p0:List (List V)) (b0:List (V × V)) (b1:List V) (k_fin:Bool→List (V × V)→List V→Option β):Option β :=
 zmn zi L p0 b0 b1 k_fin (fun p7 p8 p15 p16 p17 b0 b1=>zci zi L (fun p6 b0 b1=>zfh zi L p6 b0 b1 k_fin) (fun b0 b1=>zfN zi L b0 b1 k_fin) L p7 p8 p15 p16 p17 b0 b1)
theorem zv3 {β:Type} (zi:zX) (L:Nat) (p0:List (List V)) (b0:List (V × V)) (b1:List V) (k:KK β):xt zaO (zaR zi L) L zbz [(V.sl 5 p0),(V.mp 0),(V.fn 296 [(V.ptr 1 0)])] [(.mp b0),(.live true b1)] k=zil zi L p0 b0 b1 (fun p0 b0 b1=>k (V.sc (.bool p0)) [(.mp b0),(.live true b1)]):=by
 refine (zv4 zi L p0 b0 b1 k).trans ?_
 unfold zil
 first
  | (simp only [zjm,zoS,zpC]; done)
  | (simp only [zjm]; rfl)
abbrev ziA:=∀ (β:Type),Nat→List (List V)→List (V × V)→List V→(Bool→List (V × V)→List V→Option β)→Option β
def xU (β:Type) (L:Nat) (p0:List (List V)) (b0:List (V × V)) (b1:List V) (k_fin:Bool→List (V × V)→List V→Option β):Option β:=zil zi L p0 b0 b1 k_fin
def ziz (xU:ziA) (L:Nat) (β:Type) (args:List V) (bor:Bor) (k:KK β):Option β:=match args,bor with
 | [a0,a1,a2],[(.mp b0),(.live true b1)]=>aL 5 a0 fun p0=>aM 0 a1 (aF 296 [(1,0)] a2 (xU β L p0 b0 b1 (fun p0 b0 b1=>k (V.sc (.bool p0)) [(.mp b0),(.live true b1)])))
 | _,_=>none
theorem zwv (L:Nat) (β:Type) (args:List V) (bor:Bor) (k:KK β) (r:β) (h:ziz xU L β args bor k=some r):xt zaO (zaR zi L) L zbz args bor k=some r:=by
 unfold ziz at h
 split at h
 ·have q:=y4 h; clear h; obtain ⟨p0,rfl,h⟩:=q
  have q:=zHj h; clear h; obtain ⟨rfl,h⟩:=q
  have q:=zt9 h; clear h; obtain ⟨rfl,h⟩:=q
  exact (zv3 zi L p0 _ _ k).trans h
 ·cases h
def zgS:CF:=⟨10,[.tmp 4],
 (.seq (.reg [oo 4 (.move (.const (.gs 1 [])) true)])
 (.seq (.reg [oo 5 (.move (tq 0) false),
   oo 6 (.move (tq 1) false),
   oo 7 (.conv .u64 (tq 6)),
   oo 8 (.call 192 [((tq 7),0),((.const (.sc (.int .i64 2))),0)] []),
   oo 9 (.call 191 [((tq 5),0),((tq 8),0)] []),
   oo 4 (.move (tq 9) true)])
 .ret))⟩
def znQ:Hint:=⟨[(0,0),(1,5)],[],[none],[],[],false,false⟩
def zkm:Nat→Sh:=xP []
def zkl (xG:zea) (yH:zec) (L:Nat):CBC:=(zx 191 (zhx yH L) (zx 192 (zhN xG L) noC))
def zli {β:Type} (xG:zea) (yH:zec) (L:Nat) (p0:List (List V)) (p1:Int) (k_fin:List (List V)→Option β):Option β :=
 lt (IntKind.wrap .u64 p1) fun x0 =>
 xG β L x0 (2:Int) (fun v1 =>
 yH β L p0 v1 (fun v2 =>
 k_fin v2))
theorem zvt {β:Type} (xG:zea) (yH:zec) (L:Nat) (p0:List (List V)) (p1:Int) (k:KK β):xt zkm (zkl xG yH L) L zgS [(V.sl 1 p0),(V.sc (.int .u16 p1))] [] k=zli xG yH L p0 p1 (fun p0=>k (V.gs 1 p0) []):=by kernel_rfl
abbrev zhi:=∀ (β:Type),Nat→List (List V)→Int→(List (List V)→Option β)→Option β
def zS (β:Type) (L:Nat) (p0:List (List V)) (p1:Int) (k_fin:List (List V)→Option β):Option β:=zli xG yH L p0 p1 k_fin
def zhj (zS:zhi) (L:Nat) (β:Type) (args:List V) (bor:Bor) (k:KK β):Option β:=match args,bor with
 | [a0,a1],[]=>aL 1 a0 fun p0=>aI .u16 a1 fun p1=>zS β L p0 p1 (fun p0=>k (V.gs 1 p0) [])
 | _,_=>none
theorem zvC (L:Nat) (β:Type) (args:List V) (bor:Bor) (k:KK β) (r:β) (h:zhj zS L β args bor k=some r):xt zkm (zkl xG yH L) L zgS args bor k=some r:=by
 unfold zhj at h
 split at h
 ·have q:=y4 h; clear h; obtain ⟨p0,rfl,h⟩:=q
  have q:=za5 h; clear h; obtain ⟨p1,rfl,h⟩:=q
  exact (zvt xG yH L p0 p1 k).trans h
 ·cases h
def zd0:CF:=⟨32,[.tmp 4],
 (.seq (.reg [oo 2 (.box true (tq 0)),
   oo 3 (.box true (tq 1)),
   oo 4 (.move (.const (.sc (.int .i64 0))) false)])
 (.seq (.reg [oo 8 (.load true 32 (tq 2) false),
   oo 9 (.call 109 [((tq 8),0)] []),
   oo 5 (.alloc true [(.sc (.int .u64 0)),(.sc (.int .u64 0))]),
   oz (.store 2 (tq 5) (tq 9))])
 (.seq (.dreg [] [(oo 10 (.load true 2 (tq 5) false),ql 5 [3] [11]),
   (oo 11 (.buildSlice 1 1 [(.sc (.int .u8 0))] [(0,1,(.const (.sc (.int .u8 4))))]),qn [5,3] []),
   (oo 12 (.fieldAddr 0 (tq 3)),q0),
   (oo 13 (.load false 1 (tq 12) false),ql 3 [5] [11]),
   (oo 14 (.call 157 [((tq 11),0),((tq 13),0)] []),qc [5,3] []),
   (oo 15 (.fieldAddr 1 (tq 3)),q0),
   (oo 16 (.load false 1 (tq 15) false),ql 3 [5] [11]),
   (oo 17 (.call 205 [((tq 14),0),((tq 16),0)] []),qc [5] []),
   (oo 18 (.call 105 [((tq 10),0),((tq 17),0)] []),q0),
   (oo 19 (.bin .rem (tq 18) (.const (.sc (.int .u64 4)))),q0),
   (oo 6 (.move (tq 19) false),q0)])
 (.seq (.reg [oo 20 (.buildSlice 1 1 [(.sc (.int .u8 0))] [(0,1,(.const (.sc (.int .u8 3))))]),
   oo 21 (.load true 3 (tq 3) false),
   oo 22 (.call 269 [((tq 21),0)] []),
   oo 23 (.call 157 [((tq 20),0),((tq 22),0)] []),
   oo 24 (.move (tq 6) false),
   oo 25 (.conv .u32 (tq 24)),
   oo 26 (.call 157 [((tq 23),0),((tq 25),0)] []),
   oo 7 (.move (tq 26) false)])
 (.seq (.reg [oo 27 (.load true 2 (tq 5) false),
   oo 28 (.move (tq 7) false),
   oo 29 (.call 105 [((tq 27),0),((tq 28),0)] []),
   oo 30 (.bin .rem (tq 29) (.const (.sc (.int .u64 64)))),
   oo 31 (.conv .i64 (tq 30)),
   oo 4 (.move (tq 31) false)])
 .ret)))))⟩
def zjq:Hint:=⟨[],[],[none],[],[],false,false⟩
def zgd:Nat→Sh:=xP [(13,(.int .u32)),(16,(.int .u16))]
def zgh (z6:zkn) (yx:zcK) (zS:zhi) (yV:zkw) (ya:zo) (L:Nat):CBC:=(zx 269 (zb4 ya L) (zx 105 (zpN yV L) (zx 205 (zhj zS L) (zx 157 (zfa yx L) (zx 109 (zpV z6 L) noC)))))
def zg2 {β:Type} (z6:zkn) (yx:zcK) (zS:zhi) (yV:zkw) (ya:zo) (L:Nat) (p0 p1:List V) (k_fin:Int→Option β):Option β :=
 chk (0+32≤(List.length p0)) (
 z6 β L (List.take 32 p0) (fun v0 =>
 chk ((List.length v0)=2∧0+2≤2) (
 lt (zh [(V.sc (.int .u64 (0:Int))),(V.sc (.int .u64 (0:Int)))] 0 v0) fun r1 =>
 chk (0+2≤(List.length r1)) (
 cI .u32 p1 0 fun v2 =>
 yx β L (zl 1 1 [(V.sc (.int .u8 (4:Int)))]) v2 (fun v3 =>
 cI .u16 p1 1 fun v4 =>
 zS β L v3 v4 (fun v5 =>
 yV β L (List.take 2 r1) v5 (fun v6 =>
 lt (Int.tmod v6 (4:Int)) fun x7 =>
 chk (0+3≤(List.length p1)) (
 ya β L (List.take 3 p1) (fun v8 =>
 yx β L (zl 1 1 [(V.sc (.int .u8 (3:Int)))]) v8 (fun v9 =>
 lt (IntKind.wrap .u32 x7) fun x10 =>
 yx β L v9 x10 (fun v11 =>
 chk (0+2≤(List.length r1)) (
 yV β L (List.take 2 r1) v11 (fun v12 =>
 lt (Int.tmod v12 (64:Int)) fun x13 =>
 lt (IntKind.wrap .i64 x13) fun x14 =>
 k_fin x14)))))))))))))
theorem zqT {β:Type} (z6:zkn) (yx:zcK) (zS:zhi) (yV:zkw) (ya:zo) (L:Nat) (p0 p1:List V) (k:KK β):xt zgd (zgh z6 yx zS yV ya L) L zd0 [(V.agg p0),(V.agg p1)] [] k=zg2 z6 yx zS yV ya L p0 p1 (fun p0=>k (V.sc (.int .i64 p0)) []):=by kernel_rfl
abbrev zeq:=∀ (β:Type),Nat→List V→List V→(Int→Option β)→Option β
def xH (β:Type) (L:Nat) (p0 p1:List V) (k_fin:Int→Option β):Option β:=zg2 z6 yx zS yV ya L p0 p1 k_fin
def zen (xH:zeq) (L:Nat) (β:Type) (args:List V) (bor:Bor) (k:KK β):Option β:=match args,bor with
 | [a0,a1],[]=>aG a0 fun p0=>aG a1 fun p1=>xH β L p0 p1 (fun p0=>k (V.sc (.int .i64 p0)) [])
 | _,_=>none
theorem zq4 (L:Nat) (β:Type) (args:List V) (bor:Bor) (k:KK β) (r:β) (h:zen xH L β args bor k=some r):xt zgd (zgh z6 yx zS yV ya L) L zd0 args bor k=some r:=by
 unfold zen at h
 split at h
 ·have q:=xZ h; clear h; obtain ⟨p0,rfl,h⟩:=q
  have q:=xZ h; clear h; obtain ⟨p1,rfl,h⟩:=q
  exact (zqT z6 yx zS yV ya L p0 p1 k).trans h
 ·cases h
def zfV:CF:=⟨9,[.tmp 3],
 (.seq (.reg [oo 2 (.box true (tq 0)),
   oo 3 (.move (.const (.sc (.int .i64 0))) false)])
 (.seq (.reg [oo 4 (.fieldAddr 0 (tq 1)),
   oo 5 (.load true 32 (tq 4) false),
   oo 6 (.fieldAddr 1 (tq 2)),
   oo 7 (.load true 3 (tq 6) false),
   oo 8 (.call 299 [((tq 5),0),((tq 7),0)] []),
   oo 3 (.move (tq 8) false)])
 .ret))⟩
def zmL:Hint:=⟨[],[],[none],[],[],false,false⟩
def zi9:Nat→Sh:=xP []
def zi5 (xH:zeq) (L:Nat):CBC:=(zx 299 (zen xH L) noC)
def zjY {β:Type} (xH:zeq) (L:Nat) (p0 b0:List V) (k_fin:Int→List V→Option β):Option β :=
 chk (0+32≤(List.length b0)) (
 chk (1+3≤(List.length p0)) (
 xH β L (List.take 32 b0) (List.take 3 (List.drop 1 p0)) (fun v0 =>
 k_fin v0 b0)))
theorem zul {β:Type} (xH:zeq) (L:Nat) (p0 b0:List V) (k:KK β):xt zi9 (zi5 xH L) L zfV [(V.agg p0),(V.ptr 0 0)] [(.live true b0)] k=zjY xH L p0 b0 (fun p0 b0=>k (V.sc (.int .i64 p0)) [(.live true b0)]):=by kernel_rfl
abbrev xW:=∀ (β:Type),Nat→List V→List V→(Int→List V→Option β)→Option β
def yi (β:Type) (L:Nat) (p0 b0:List V) (k_fin:Int→List V→Option β):Option β:=zjY xH L p0 b0 k_fin
def zgR (yi:xW) (L:Nat) (β:Type) (args:List V) (bor:Bor) (k:KK β):Option β:=match args,bor with
 | [a0,a1],[(.live true b0)]=>aG a0 fun p0=>aP 0 0 a1 (yi β L p0 b0 (fun p0 b0=>k (V.sc (.int .i64 p0)) [(.live true b0)]))
 | _,_=>none
theorem zt5 (L:Nat) (β:Type) (args:List V) (bor:Bor) (k:KK β) (r:β) (h:zgR yi L β args bor k=some r):xt zi9 (zi5 xH L) L zfV args bor k=some r:=by
 unfold zgR at h
 split at h
 ·have q:=xZ h; clear h; obtain ⟨p0,rfl,h⟩:=q
  have q:=zlz h; clear h; obtain ⟨rfl,h⟩:=q
  exact (zul xH L p0 _ k).trans h
 ·cases h
def zdv:CC:=(.seq (.reg [oo 18 (.bin .lss (tq 17) (tq 16))])
 (.seq (.cond (tq 18)
 .skip
 (.seq (.mask (bl 0 58) (bl 288230375077966399 58))
 (.exit 0)))
 (.seq (.block 1 (.seq (.reg [oo 19 (.indexAddrS 5 (tq 15) (tq 17)),
   oo 20 (.load true 5 (tq 19) false),
   oo 10 (.alloc true [(.sc (.int .i64 0)),(.sc (.int .u32 0)),(.sc (.int .u16 0)),(.sc (.int .u32 0)),(.sc (.int .u32 0))]),
   oz (.store 5 (tq 10) (tq 20))])
 (.seq (.seq (.dreg [] [(oo 21 (.fieldAddr 0 (tq 10)),q0),
   (oo 22 (.load false 1 (tq 21) false),q0),
   (oo 23 (.move (tq 7) false),q0),
   (oo 24 (.bin .lss (tq 22) (tq 23)),q0),
   (oo 25 (.move (tq 24) false),q0),
   (⟨(some 26),false,(some (25,false)),.fieldAddr 0 (tq 10)⟩,q0),
   (⟨(some 27),false,(some (25,false)),.load false 1 (tq 26) false⟩,ql 10 [] []),
   (⟨(some 28),false,(some (25,false)),.move (tq 2) false⟩,q0),
   (⟨(some 29),false,(some (25,false)),.load true 5 (tq 10) false⟩,ql 10 [] []),
   (⟨(some 30),false,(some (25,false)),.callv (tq 28) [((tq 29),0)] []⟩,qc [10] []),
   (⟨(some 31),false,(some (25,false)),.bin .neq (tq 27) (tq 30)⟩,q0),
   (oo 32 (.pick (tq 25) (.const (.sc (.bool true))) (tq 31)),q0)])
 (.cond (tq 32)
 (.seq (.reg [oo 6 (.move (.const (.sc (.bool false))) false)])
 (.seq (.mask (bl 64 58) (bl 288230375077966463 58))
 .ret))
 .skip))
 (.seq (.seq (.reg [oo 33 (.fieldAddr 0 (tq 10)),
   oo 34 (.load false 1 (tq 33) false),
   oo 35 (.move (tq 7) false),
   oo 36 (.bin .neq (tq 34) (tq 35))])
 (.cond (tq 36)
 (.reg [oo 37 (.fieldAddr 0 (tq 10)),
   oo 38 (.load false 1 (tq 37) false),
   oo 7 (.move (tq 38) false),
   oo 8 (.move (.const (.sc (.int .i64 0))) false)])
 .skip))
 (.seq (.reg [oo 39 (.move (tq 8) false),
   oo 40 (.bin .add (tq 39) (.const (.sc (.int .i64 1)))),
   oo 8 (.move (tq 40) false)])
 (.seq (.reg [oo 41 (.fieldAddr 1 (tq 10)),
   oo 42 (.fieldAddr 0 (tq 41)),
   oo 43 (.load false 1 (tq 42) false),
   oo 44 (.fieldAddr 1 (tq 10)),
   oo 45 (.fieldAddr 1 (tq 44)),
   oo 46 (.load false 1 (tq 45) false),
   oo 47 (.build [(.sc (.int .u32 0)),(.sc (.int .u16 0))] [(0,1,(tq 43)),(1,1,(tq 46))]),
   oo 11 (.alloc true [(.sc (.int .u32 0)),(.sc (.int .u16 0))]),
   oz (.store 2 (tq 11) (tq 47))])
 (.seq (.seq (.reg [oo 48 (.move (tq 8) false),
   oo 49 (.bin .gtr (tq 48) (.const (.sc (.int .i64 8)))),
   oo 50 (.move (tq 49) false),
   ⟨(some 51),false,(some (50,false)),.move (tq 1) false⟩,
   ⟨(some 52),false,(some (50,false)),.load true 2 (tq 11) false⟩,
   ⟨(some 53),false,(some (50,false)),.mlook 4 false (.sc (.bool false)) (tq 51) (tq 52)⟩,
   oo 54 (.pick (tq 50) (.const (.sc (.bool true))) (tq 53))])
 (.cond (tq 54)
 (.seq (.reg [oo 6 (.move (.const (.sc (.bool false))) false)])
 (.seq (.mask (bl 64 58) (bl 288230375077966463 58))
 .ret))
 .skip))
 (.reg [oo 55 (.move (tq 1) false),
   oo 56 (.load true 2 (tq 11) false),
   oz (.mput 4 (tq 55) (tq 56) (.const (.sc (.bool true))))]))))))))
 (.reg [oo 57 (.bin .add (tq 17) (.const (.sc (.int .i64 1)))),
   oo 17 (.move (tq 57) false)]))))
def zgY:CC:=(.seq (.reg [oo 6 (.move (.const (.sc (.bool true))) false)])
 .ret)
def zc0:CF:=zbz
def zas:Nat→Sh:=xP [(22,(.int .i64)),(27,(.int .i64)),(34,(.int .i64)),(38,(.int .i64)),(43,(.int .u32)),(46,(.int .u16)),(53,.bool)]
def zat (yi:xW) (L:Nat):CBC:=(zx 298 (zgR yi L) noC)
def zdK:St→St:=zaj 2 (bl 229766 58) (bl 288230375077966783 58)
def zcS (p7 p8:Int) (p15:List (List V)) (p16 p17:Int) (b0:List (V × V)) (b1:List V):St:=⟨(jn 1 ((V.mp 0)::((V.fn 298 [(V.ptr 1 0)])::(jn 4 ((V.sc (.int .i64 p7))::((V.sc (.int .i64 p8))::(jn 6 ((V.sl 5 p15)::((V.sc (.int .i64 p16))::((V.sc (.int .i64 p17))::(jn 40 []))))))))))),((.mp b0)::((.live true b1)::(gn 58 [])))⟩
def zgg (p6:Bool) (b0:List (V × V)) (b1:List V):St:=⟨(jn 6 ((V.sc (.bool p6))::(jn 51 []))),((.mp b0)::((.live true b1)::(gn 58 [])))⟩
def zgU (b0:List (V × V)) (b1:List V):St:=⟨(jn 58 []),((.mp b0)::((.live true b1)::(gn 58 [])))⟩
abbrev zjk (β:Type):Type:=Int→Int→List (List V)→Int→Int→List (V × V)→List V→Option β
def zj6 {β:Type} (yi:xW) (L:Nat) (p0:List (List V)) (b0:List (V × V)) (b1:List V) (k_fin:Bool→List (V × V)→List V→Option β) (k_hbbbaba:zjk β):Option β :=
 ifb (decide (((List.length p0:Nat):Int) > (512:Int))) (
 k_fin false b0 b1) (
 k_hbbbaba (-1:Int) (0:Int) p0 ((List.length p0:Nat):Int) (0:Int) b0 b1)
theorem zuf {β:Type} (yi:xW) (L:Nat) (p0:List (List V)) (b0:List (V × V)) (b1:List V) (k:KK β):xt zas (zat yi L) L zc0 [(V.sl 5 p0),(V.mp 0),(V.fn 298 [(V.ptr 1 0)])] [(.mp b0),(.live true b1)] k=zj6 yi L p0 b0 b1 (fun p0 b0 b1=>k (V.sc (.bool p0)) [(.mp b0),(.live true b1)]) (fun p7 p8 p15 p16 p17 b0 b1=>yF (xm zas (zat yi L) 2 L zdv) zdK L (zcS p7 p8 p15 p16 p17 b0 b1) (xE 0 (xR (xm zas (zat yi L) 2 L zgY) (y5 2 (CF.res zc0) k)))):=by kernel_rfl
def zfA {β:Type} (yi:xW) (L:Nat) (p7 p8:Int) (p15:List (List V)) (p16 p17:Int) (b0:List (V × V)) (b1:List V) (k_ret:Bool→List (V × V)→List V→Option β) (k_hbbbaba:zjk β) (k_x0:List (V × V)→List V→Option β):Option β :=
 ifb (decide (p17 < p16)) (
 idx p15 p17 fun c0 =>
 chk ((List.length (List.take 5 c0))=5∧0+5≤5) (
 lt (zh [(V.sc (.int .i64 (0:Int))),(V.sc (.int .u32 (0:Int))),(V.sc (.int .u16 (0:Int))),(V.sc (.int .u32 (0:Int))),(V.sc (.int .u32 (0:Int)))] 0 (List.take 5 c0)) fun r1 =>
 cI .i64 r1 0 fun v2 =>
 ifb (decide (v2 < p7)) (
 k_ret false b0 b1) (
 cI .i64 r1 0 fun v3 =>
 chk (0+5≤(List.length r1)) (
 yi β L (List.take 5 r1) b1 (fun v4 v5 =>
 chk ([(List.length v5)]=[(List.length b1)]) (
 ifb ((v3:Int) != v4) (
 k_ret false b0 v5) (
 cI .i64 r1 0 fun v6 =>
 ifb ((v6:Int) != p7) (
 cI .i64 r1 0 fun v7 =>
 lt (IntKind.wrap .i64 (((0:Int):Int)+(1:Int))) fun x8 =>
 cI .u32 r1 1 fun v9 =>
 cI .u16 r1 2 fun v10 =>
 lt [(V.sc (.int .u32 v9)),(V.sc (.int .u16 v10))] fun r11 =>
 ifb (decide (x8 > (8:Int))) (
 k_ret false b0 v5) (
 chk (0+2≤(List.length r11)) (
 mAt 4 (V.agg (List.take 2 r11)) b0 fun q12 =>
 aB (Option.getD q12 (V.sc (.bool false))) fun v13 =>
 ifb v13 (
 k_ret false b0 v5) (
 chk (0+2≤(List.length r11)) (
 ztg 4 (V.agg (List.take 2 r11)) (V.sc (.bool true)) b0 fun m14 =>
 lt (IntKind.wrap .i64 ((p17:Int)+(1:Int))) fun x15 =>
 k_hbbbaba v7 x8 p15 p16 x15 m14 v5))))) (
 lt (IntKind.wrap .i64 ((p8:Int)+(1:Int))) fun x16 =>
 cI .u32 r1 1 fun v17 =>
 cI .u16 r1 2 fun v18 =>
 lt [(V.sc (.int .u32 v17)),(V.sc (.int .u16 v18))] fun r19 =>
 ifb (decide (x16 > (8:Int))) (
 k_ret false b0 v5) (
 chk (0+2≤(List.length r19)) (
 mAt 4 (V.agg (List.take 2 r19)) b0 fun q20 =>
 aB (Option.getD q20 (V.sc (.bool false))) fun v21 =>
 ifb v21 (
 k_ret false b0 v5) (
 chk (0+2≤(List.length r19)) (
 ztg 4 (V.agg (List.take 2 r19)) (V.sc (.bool true)) b0 fun m22 =>
 lt (IntKind.wrap .i64 ((p17:Int)+(1:Int))) fun x23 =>
 k_hbbbaba p7 x16 p15 p16 x23 m22 v5)))))))))))) (
 k_x0 b0 b1)
theorem zpJ {β:Type} (yi:xW) (L:Nat) (p7 p8:Int) (p15:List (List V)) (p16 p17:Int) (b0:List (V × V)) (b1:List V) (X:St→Option β) (K:KT β):xm zas (zat yi L) 2 L zdv (zcS p7 p8 p15 p16 p17 b0 b1) (zbR zdK X K)=zfA yi L p7 p8 p15 p16 p17 b0 b1 (fun p6 b0 b1=>K .ret (zgg p6 b0 b1)) (fun p7 p8 p15 p16 p17 b0 b1=>X (zcS p7 p8 p15 p16 p17 b0 b1)) (fun b0 b1=>K (.exit 0) (zgU b0 b1)):=by kernel_rfl
def zey {β:Type} (yi:xW) (L:Nat) (p6:Bool) (b0:List (V × V)) (b1:List V) (k_fin:Bool→List (V × V)→List V→Option β):Option β :=
 k_fin p6 b0 b1
theorem zny {β:Type} (yi:xW) (L:Nat) (p6:Bool) (b0:List (V × V)) (b1:List V) (k:KK β):(xE 0 (xR (xm zas (zat yi L) 2 L zgY) (y5 2 (CF.res zc0) k))) .ret (zgg p6 b0 b1)=zey yi L p6 b0 b1 (fun p0 b0 b1=>k (V.sc (.bool p0)) [(.mp b0),(.live true b1)]):=by kernel_rfl
def zeU {β:Type} (yi:xW) (L:Nat) (b0:List (V × V)) (b1:List V) (k_fin:Bool→List (V × V)→List V→Option β):Option β :=
 k_fin true b0 b1
theorem zog {β:Type} (yi:xW) (L:Nat) (b0:List (V × V)) (b1:List V) (k:KK β):(xE 0 (xR (xm zas (zat yi L) 2 L zgY) (y5 2 (CF.res zc0) k))) (.exit 0) (zgU b0 b1)=zeU yi L b0 b1 (fun p0 b0 b1=>k (V.sc (.bool p0)) [(.mp b0),(.live true b1)]):=by kernel_rfl
def zbL {β:Type} (yi:xW) (L:Nat) (k_ret:Bool→List (V × V)→List V→Option β) (k_x0:List (V × V)→List V→Option β):Nat→Int→Int→List (List V)→Int→Int→List (V × V)→List V→Option β
 | 0,_,_,_,_,_,_,_=>none
 | n+1,p7,p8,p15,p16,p17,b0,b1=>zfA yi L p7 p8 p15 p16 p17 b0 b1 k_ret (fun p7 p8 p15 p16 p17 b0 b1=>zbL yi L k_ret k_x0 n p7 p8 p15 p16 p17 b0 b1) k_x0
theorem zhR {β:Type} (yi:xW) (L:Nat) (K:KT β):∀ (n:Nat) (p7 p8:Int) (p15:List (List V)) (p16 p17:Int) (b0:List (V × V)) (b1:List V),yF (xm zas (zat yi L) 2 L zdv) zdK n (zcS p7 p8 p15 p16 p17 b0 b1) K=zbL yi L (fun p6 b0 b1=>K .ret (zgg p6 b0 b1)) (fun b0 b1=>K (.exit 0) (zgU b0 b1)) n p7 p8 p15 p16 p17 b0 b1:=by
 intro n
 induction n with
 | zero=>intros; rfl
 | succ n ih =>
  intro p7 p8 p15 p16 p17 b0 b1
  refine (zpJ yi L p7 p8 p15 p16 p17 b0 b1 (fun σ=>yF (xm zas (zat yi L) 2 L zdv) zdK n σ K) K).trans ?_
  simp only [ih]
  rfl
def zgn {β:Type} (yi:xW) (L:Nat) (p0:List (List V)) (b0:List (V × V)) (b1:List V) (k_fin:Bool→List (V × V)→List V→Option β):Option β :=
 zj6 yi L p0 b0 b1 k_fin (fun p7 p8 p15 p16 p17 b0 b1=>zbL yi L (fun p6 b0 b1=>zey yi L p6 b0 b1 k_fin) (fun b0 b1=>zeU yi L b0 b1 k_fin) L p7 p8 p15 p16 p17 b0 b1)
theorem zua {β:Type} (yi:xW) (L:Nat) (p0:List (List V)) (b0:List (V × V)) (b1:List V) (k:KK β):xt zas (zat yi L) L zc0 [(V.sl 5 p0),(V.mp 0),(V.fn 298 [(V.ptr 1 0)])] [(.mp b0),(.live true b1)] k=zgn yi L p0 b0 b1 (fun p0 b0 b1=>k (V.sc (.bool p0)) [(.mp b0),(.live true b1)]):=by
 refine (zuf yi L p0 b0 b1 k).trans ?_
 unfold zgn
 first
  | (simp only [zhR,zny,zog]; done)
  | (simp only [zhR]; rfl)
abbrev zgD:=∀ (β:Type),Nat→List (List V)→List (V × V)→List V→(Bool→List (V × V)→List V→Option β)→Option β
def zP (β:Type) (L:Nat) (p0:List (List V)) (b0:List (V × V)) (b1:List V) (k_fin:Bool→List (V × V)→List V→Option β):Option β:=zgn yi L p0 b0 b1 k_fin
def zgQ (zP:zgD) (L:Nat) (β:Type) (args:List V) (bor:Bor) (k:KK β):Option β:=match args,bor with
 | [a0,a1,a2],[(.mp b0),(.live true b1)]=>aL 5 a0 fun p0=>aM 0 a1 (aF 298 [(1,0)] a2 (zP β L p0 b0 b1 (fun p0 b0 b1=>k (V.sc (.bool p0)) [(.mp b0),(.live true b1)])))
 | _,_=>none
theorem zuA (L:Nat) (β:Type) (args:List V) (bor:Bor) (k:KK β) (r:β) (h:zgQ zP L β args bor k=some r):xt zas (zat yi L) L zc0 args bor k=some r:=by
 unfold zgQ at h
 split at h
 ·have q:=y4 h; clear h; obtain ⟨p0,rfl,h⟩:=q
  have q:=zHj h; clear h; obtain ⟨rfl,h⟩:=q
  have q:=zt9 h; clear h; obtain ⟨rfl,h⟩:=q
  exact (zua yi L p0 _ _ k).trans h
 ·cases h
def zhl:CF:=⟨17,[.tmp 2],
 (.seq (.reg [oo 1 (.box true (tq 0)),
   oo 2 (.move (.const (.sc (.bool false))) false)])
 (.seq (.reg [oo 4 (.makeMap),
   oo 3 (.move (tq 4) false)])
 (.seq (.reg [oo 5 (.fieldAddr 32 (tq 1)),
   oo 6 (.load false 1 (tq 5) false),
   oo 7 (.move (tq 3) false),
   oo 8 (.makeFunc 296 [(tq 1)]),
   oo 9 (.call 295 [((tq 6),0),((tq 7),0),((tq 8),0)] []),
   oo 10 (.move (tq 9) false),
   ⟨(some 11),false,(some (10,true)),.fieldAddr 33 (tq 1)⟩,
   ⟨(some 12),false,(some (10,true)),.load false 1 (tq 11) false⟩,
   ⟨(some 13),false,(some (10,true)),.move (tq 3) false⟩,
   ⟨(some 14),false,(some (10,true)),.makeFunc 298 [(tq 1)]⟩,
   ⟨(some 15),false,(some (10,true)),.call 295 [((tq 12),0),((tq 13),0),((tq 14),0)] []⟩,
   oo 16 (.pick (tq 10) (tq 15) (.const (.sc (.bool false)))),
   oo 2 (.move (tq 16) false)])
 .ret)))⟩
def zoh:Hint:=⟨[(0,0)],[],[none],[],[],false,false⟩
def zk2:Nat→Sh:=xP [(6,(.sl 5)),(12,(.sl 5))]
def zk6 (xU:ziA) (zP:zgD) (L:Nat):CBC:=(zB4 295 [6,12,398,22,20] (zgQ zP L) (zB4 295 [6,12,396,22,20] (ziz xU L) noC))
def zmh {β:Type} (xU:ziA) (zP:zgD) (L:Nat) (p0:List V) (k_fin:Bool→Option β):Option β :=
 cLd 5 p0 32 fun v0 =>
 xU β L v0 ([]:List (V × V)) p0 (fun v1 v2 v3 =>
 chk ([0,(List.length v3)]=[0,(List.length p0)]) (
 ifb v1 (
 cLd 5 v3 33 fun v4 =>
 zP β L v4 v2 v3 (fun v5 v6 v7 =>
 chk ([0,(List.length v7)]=[0,(List.length v3)]) (
 k_fin v5))) (
 k_fin false)))
theorem zvX {β:Type} (xU:ziA) (zP:zgD) (L:Nat) (p0:List V) (k:KK β):xt zk2 (zk6 xU zP L) L zhl [(V.agg p0)] [] k=zmh xU zP L p0 (fun p0=>k (V.sc (.bool p0)) []):=by kernel_rfl
abbrev zah:=∀ (β:Type),Nat→List V→(Bool→Option β)→Option β
def yl (β:Type) (L:Nat) (p0:List V) (k_fin:Bool→Option β):Option β:=zmh xU zP L p0 k_fin
def zih (yl:zah) (L:Nat) (β:Type) (args:List V) (bor:Bor) (k:KK β):Option β:=match args,bor with
 | [a0],[]=>aG a0 fun p0=>yl β L p0 (fun p0=>k (V.sc (.bool p0)) [])
 | _,_=>none
theorem zwr (L:Nat) (β:Type) (args:List V) (bor:Bor) (k:KK β) (r:β) (h:zih yl L β args bor k=some r):xt zk2 (zk6 xU zP L) L zhl args bor k=some r:=by
 unfold zih at h
 split at h
 ·have q:=xZ h; clear h; obtain ⟨p0,rfl,h⟩:=q
  exact (zvX xU zP L p0 k).trans h
 ·cases h
def zfY:CF:=⟨6,[.tmp 2],
 (.seq (.reg [oo 1 (.box true (tq 0)),
   oo 2 (.move (.const (.sc (.bool false))) false)])
 (.seq (.reg [oo 3 (.fieldAddr 0 (tq 1)),
   oo 4 (.load false 1 (tq 3) false),
   oo 5 (.bin .eql (tq 4) (.const (.sc (.int .i64 1)))),
   oo 2 (.move (tq 5) false)])
 .ret))⟩
def zmG:Hint:=⟨[],[],[none],[],[],false,false⟩
def ziV:Nat→Sh:=xP [(4,(.int .i64))]
def zja (L:Nat):CBC:=noC
def zkp {β:Type} (L:Nat) (p0:List V) (k_fin:Bool→Option β):Option β :=
 cI .i64 p0 0 fun v0 =>
 k_fin ((v0:Int) == (1:Int))
theorem zuD {β:Type} (L:Nat) (p0:List V) (k:KK β):xt ziV (zja L) L zfY [(V.agg p0)] [] k=zkp L p0 (fun p0=>k (V.sc (.bool p0)) []):=by kernel_rfl
abbrev zar:=∀ (β:Type),Nat→List V→(Bool→Option β)→Option β
def ym (β:Type) (L:Nat) (p0:List V) (k_fin:Bool→Option β):Option β:=zkp L p0 k_fin
def zgA (ym:zar) (L:Nat) (β:Type) (args:List V) (bor:Bor) (k:KK β):Option β:=match args,bor with
 | [a0],[]=>aG a0 fun p0=>ym β L p0 (fun p0=>k (V.sc (.bool p0)) [])
 | _,_=>none
theorem ztV (L:Nat) (β:Type) (args:List V) (bor:Bor) (k:KK β) (r:β) (h:zgA ym L β args bor k=some r):xt ziV (zja L) L zfY args bor k=some r:=by
 unfold zgA at h
 split at h
 ·have q:=xZ h; clear h; obtain ⟨p0,rfl,h⟩:=q
  exact (zuD L p0 k).trans h
 ·cases h
def zdp:CC:=(.seq (.reg [oo 11 (.bin .lss (tq 10) (tq 9))])
 (.seq (.cond (tq 11)
 .skip
 (.seq (.mask (bl 32 21) (bl 2031487 21))
 (.exit 0)))
 (.seq (.block 1 (.seq (.reg [oo 12 (.indexAddrS 4 (tq 8) (tq 10)),
   oo 13 (.load true 4 (tq 12) false),
   oo 7 (.alloc true [(.sc (.int .i64 0)),(.sc (.int .u32 0)),(.sc (.int .u16 0)),(.sc (.int .u32 0))]),
   oz (.store 4 (tq 7) (tq 13))])
 (.seq (.reg [oo 14 (.move (tq 1) false),
   oo 15 (.load true 4 (tq 7) false),
   oo 16 (.callv (tq 14) [((tq 15),0)] [])])
 (.cond (tq 16)
 (.reg [oo 17 (.move (tq 5) false),
   oo 18 (.bin .add (tq 17) (.const (.sc (.int .i64 1)))),
   oo 5 (.move (tq 18) false)])
 .skip))))
 (.reg [oo 19 (.bin .add (tq 10) (.const (.sc (.int .i64 1)))),
   oo 10 (.move (tq 19) false)]))))
def zjS:CC:=(.seq (.reg [oo 20 (.move (tq 5) false),
   oo 4 (.move (tq 20) false)])
 .ret)
def zcv:CF:=⟨21,[.tmp 4],
 (.seq (.reg [oo 4 (.move (.const (.sc (.int .i64 0))) false)])
 (.seq (.reg [oo 5 (.move (.const (.sc (.int .i64 0))) false)])
 (.seq (.seq (.reg [oo 8 (.move (tq 0) false),
   oo 9 (.lenS (tq 8)),
   oo 10 (.move (.const (.sc (.int .i64 0))) false)])
 (.block 0 (.loop (bl 1826 21) (bl 2031487 21)
 zdp)))
 zjS)))⟩
def zpT:Hint:=⟨[],[],[none,some ((bl 1826 21),(bl 2031487 21)),none,some ((bl 32 21),(bl 2031487 21)),none,none,none],[],[],false,false⟩
def zbu:Nat→Sh:=xP []
def zbt (ym:zar) (L:Nat):CBC:=(zx 277 (zgA ym L) noC)
def zfq:St→St:=zaj 0 (bl 1826 21) (bl 2031487 21)
def zdY (p5:Int) (p8:List (List V)) (p9 p10:Int):St:=⟨(jn 1 ((V.fn 277 [])::(jn 3 ((V.sc (.int .i64 p5))::(jn 2 ((V.sl 4 p8)::((V.sc (.int .i64 p9))::((V.sc (.int .i64 p10))::(jn 10 []))))))))),(gn 21 [])⟩
def zi7 (p5:Int):St:=⟨(jn 5 ((V.sc (.int .i64 p5))::(jn 15 []))),(gn 21 [])⟩
def znZ {β:Type} (ym:zar) (L:Nat) (p0:List (List V)) (k_hbbaba:Int→List (List V)→Int→Int→Option β):Option β :=
 k_hbbaba (0:Int) p0 ((List.length p0:Nat):Int) (0:Int)
theorem zxd {β:Type} (ym:zar) (L:Nat) (p0:List (List V)) (k:KK β):xt zbu (zbt ym L) L zcv [(V.sl 4 p0),(V.fn 277 [])] [] k=znZ ym L p0 (fun p5 p8 p9 p10=>yF (xm zbu (zbt ym L) 0 L zdp) zfq L (zdY p5 p8 p9 p10) (xE 0 (xR (xm zbu (zbt ym L) 0 L zjS) (y5 0 (CF.res zcv) k)))):=by kernel_rfl
def zh1 {β:Type} (ym:zar) (L:Nat) (p5:Int) (p8:List (List V)) (p9 p10:Int) (k_hbbaba:Int→List (List V)→Int→Int→Option β) (k_x0:Int→Option β):Option β :=
 ifb (decide (p10 < p9)) (
 idx p8 p10 fun c0 =>
 chk ((List.length (List.take 4 c0))=4∧0+4≤4) (
 lt (zh [(V.sc (.int .i64 (0:Int))),(V.sc (.int .u32 (0:Int))),(V.sc (.int .u16 (0:Int))),(V.sc (.int .u32 (0:Int)))] 0 (List.take 4 c0)) fun r1 =>
 chk (0+4≤(List.length r1)) (
 ym β L (List.take 4 r1) (fun v2 =>
 ifb v2 (
 lt (IntKind.wrap .i64 ((p5:Int)+(1:Int))) fun x3 =>
 lt (IntKind.wrap .i64 ((p10:Int)+(1:Int))) fun x4 =>
 k_hbbaba x3 p8 p9 x4) (
 lt (IntKind.wrap .i64 ((p10:Int)+(1:Int))) fun x5 =>
 k_hbbaba p5 p8 p9 x5))))) (
 k_x0 p5)
theorem zsq {β:Type} (ym:zar) (L:Nat) (p5:Int) (p8:List (List V)) (p9 p10:Int) (X:St→Option β) (K:KT β):xm zbu (zbt ym L) 0 L zdp (zdY p5 p8 p9 p10) (zbR zfq X K)=zh1 ym L p5 p8 p9 p10 (fun p5 p8 p9 p10=>X (zdY p5 p8 p9 p10)) (fun p5=>K (.exit 0) (zi7 p5)):=by kernel_rfl
def zlJ {β:Type} (ym:zar) (L:Nat) (p5:Int) (k_fin:Int→Option β):Option β :=
 k_fin p5
theorem zqI {β:Type} (ym:zar) (L:Nat) (p5:Int) (k:KK β):(xE 0 (xR (xm zbu (zbt ym L) 0 L zjS) (y5 0 (CF.res zcv) k))) (.exit 0) (zi7 p5)=zlJ ym L p5 (fun p0=>k (V.sc (.int .i64 p0)) []):=by kernel_rfl
def zdE {β:Type} (ym:zar) (L:Nat) (k_x0:Int→Option β):Nat→Int→List (List V)→Int→Int→Option β
 | 0,_,_,_,_=>none
 | n+1,p5,p8,p9,p10=>zh1 ym L p5 p8 p9 p10 (fun p5 p8 p9 p10=>zdE ym L k_x0 n p5 p8 p9 p10) k_x0
theorem zkV {β:Type} (ym:zar) (L:Nat) (K:KT β):∀ (n:Nat) (p5:Int) (p8:List (List V)) (p9 p10:Int),yF (xm zbu (zbt ym L) 0 L zdp) zfq n (zdY p5 p8 p9 p10) K=zdE ym L (fun p5=>K (.exit 0) (zi7 p5)) n p5 p8 p9 p10:=by
 intro n
 induction n with
 | zero=>intros; rfl
 | succ n ih =>
  intro p5 p8 p9 p10
  refine (zsq ym L p5 p8 p9 p10 (fun σ=>yF (xm zbu (zbt ym L) 0 L zdp) zfq n σ K) K).trans ?_
  simp only [ih]
  rfl
def zjf {β:Type} (ym:zar) (L:Nat) (p0:List (List V)) (k_fin:Int→Option β):Option β :=
 znZ ym L p0 (fun p5 p8 p9 p10=>zdE ym L (fun p5=>zlJ ym L p5 k_fin) L p5 p8 p9 p10)
theorem zxw {β:Type} (ym:zar) (L:Nat) (p0:List (List V)) (k:KK β):xt zbu (zbt ym L) L zcv [(V.sl 4 p0),(V.fn 277 [])] [] k=zjf ym L p0 (fun p0=>k (V.sc (.int .i64 p0)) []):=by
 refine (zxd ym L p0 k).trans ?_
 unfold zjf
 first
  | (simp only [zkV,zqI]; done)
  | (simp only [zkV]; rfl)
abbrev zaw:=∀ (β:Type),Nat→List (List V)→(Int→Option β)→Option β
def zn (β:Type) (L:Nat) (p0:List (List V)) (k_fin:Int→Option β):Option β:=zjf ym L p0 k_fin
def zjt (zn:zaw) (L:Nat) (β:Type) (args:List V) (bor:Bor) (k:KK β):Option β:=match args,bor with
 | [a0,a1],[]=>aL 4 a0 fun p0=>aF 277 [] a1 (zn β L p0 (fun p0=>k (V.sc (.int .i64 p0)) []))
 | _,_=>none
theorem zxl (L:Nat) (β:Type) (args:List V) (bor:Bor) (k:KK β) (r:β) (h:zjt zn L β args bor k=some r):xt zbu (zbt ym L) L zcv args bor k=some r:=by
 unfold zjt at h
 split at h
 ·have q:=y4 h; clear h; obtain ⟨p0,rfl,h⟩:=q
  have q:=zt9 h; clear h; obtain ⟨rfl,h⟩:=q
  exact (zxw ym L p0 k).trans h
 ·cases h
def zf2:CF:=⟨6,[.tmp 2],
 (.seq (.reg [oo 1 (.box true (tq 0)),
   oo 2 (.move (.const (.sc (.bool false))) false)])
 (.seq (.reg [oo 3 (.fieldAddr 0 (tq 1)),
   oo 4 (.load false 1 (tq 3) false),
   oo 5 (.bin .eql (tq 4) (.const (.sc (.int .i64 3)))),
   oo 2 (.move (tq 5) false)])
 .ret))⟩
def zmA:Hint:=⟨[],[],[none],[],[],false,false⟩
def ziS:Nat→Sh:=xP [(4,(.int .i64))]
def ziY (L:Nat):CBC:=noC
def zjH {β:Type} (L:Nat) (p0:List V) (k_fin:Bool→Option β):Option β :=
 cI .i64 p0 0 fun v0 =>
 k_fin ((v0:Int) == (3:Int))
theorem zuB {β:Type} (L:Nat) (p0:List V) (k:KK β):xt ziS (ziY L) L zf2 [(V.agg p0)] [] k=zjH L p0 (fun p0=>k (V.sc (.bool p0)) []):=by kernel_rfl
abbrev zaq:=∀ (β:Type),Nat→List V→(Bool→Option β)→Option β
def zm (β:Type) (L:Nat) (p0:List V) (k_fin:Bool→Option β):Option β:=zjH L p0 k_fin
def zgH (zm:zaq) (L:Nat) (β:Type) (args:List V) (bor:Bor) (k:KK β):Option β:=match args,bor with
 | [a0],[]=>aG a0 fun p0=>zm β L p0 (fun p0=>k (V.sc (.bool p0)) [])
 | _,_=>none
theorem zuF (L:Nat) (β:Type) (args:List V) (bor:Bor) (k:KK β) (r:β) (h:zgH zm L β args bor k=some r):xt ziS (ziY L) L zf2 args bor k=some r:=by
 unfold zgH at h
 split at h
 ·have q:=xZ h; clear h; obtain ⟨p0,rfl,h⟩:=q
  exact (zuB L p0 k).trans h
 ·cases h
def zd1:CC:=(.seq (.reg [oo 11 (.bin .lss (tq 10) (tq 9))])
 (.seq (.cond (tq 11)
 .skip
 (.seq (.mask (bl 32 21) (bl 2031487 21))
 (.exit 0)))
 (.seq (.block 1 (.seq (.reg [oo 12 (.indexAddrS 4 (tq 8) (tq 10)),
   oo 13 (.load true 4 (tq 12) false),
   oo 7 (.alloc true [(.sc (.int .i64 0)),(.sc (.int .u32 0)),(.sc (.int .u16 0)),(.sc (.int .u32 0))]),
   oz (.store 4 (tq 7) (tq 13))])
 (.seq (.reg [oo 14 (.move (tq 1) false),
   oo 15 (.load true 4 (tq 7) false),
   oo 16 (.callv (tq 14) [((tq 15),0)] [])])
 (.cond (tq 16)
 (.reg [oo 17 (.move (tq 5) false),
   oo 18 (.bin .add (tq 17) (.const (.sc (.int .i64 1)))),
   oo 5 (.move (tq 18) false)])
 .skip))))
 (.reg [oo 19 (.bin .add (tq 10) (.const (.sc (.int .i64 1)))),
   oo 10 (.move (tq 19) false)]))))
def zmX:CC:=(.seq (.reg [oo 20 (.move (tq 5) false),
   oo 4 (.move (tq 20) false)])
 .ret)
def zeB:CF:=zcv
def za3:Nat→Sh:=xP []
def za2 (zm:zaq) (L:Nat):CBC:=(zx 279 (zgH zm L) noC)
def zeu:St→St:=zaj 0 (bl 1826 21) (bl 2031487 21)
def zdx (p5:Int) (p8:List (List V)) (p9 p10:Int):St:=⟨(jn 1 ((V.fn 279 [])::(jn 3 ((V.sc (.int .i64 p5))::(jn 2 ((V.sl 4 p8)::((V.sc (.int .i64 p9))::((V.sc (.int .i64 p10))::(jn 10 []))))))))),(gn 21 [])⟩
def zht (p5:Int):St:=⟨(jn 5 ((V.sc (.int .i64 p5))::(jn 15 []))),(gn 21 [])⟩
def zlb {β:Type} (zm:zaq) (L:Nat) (p0:List (List V)) (k_hbbaba:Int→List (List V)→Int→Int→Option β):Option β :=
 k_hbbaba (0:Int) p0 ((List.length p0:Nat):Int) (0:Int)
theorem zvw {β:Type} (zm:zaq) (L:Nat) (p0:List (List V)) (k:KK β):xt za3 (za2 zm L) L zeB [(V.sl 4 p0),(V.fn 279 [])] [] k=zlb zm L p0 (fun p5 p8 p9 p10=>yF (xm za3 (za2 zm L) 0 L zd1) zeu L (zdx p5 p8 p9 p10) (xE 0 (xR (xm za3 (za2 zm L) 0 L zmX) (y5 0 (CF.res zeB) k)))):=by kernel_rfl
def zgZ {β:Type} (zm:zaq) (L:Nat) (p5:Int) (p8:List (List V)) (p9 p10:Int) (k_hbbaba:Int→List (List V)→Int→Int→Option β) (k_x0:Int→Option β):Option β :=
 ifb (decide (p10 < p9)) (
 idx p8 p10 fun c0 =>
 chk ((List.length (List.take 4 c0))=4∧0+4≤4) (
 lt (zh [(V.sc (.int .i64 (0:Int))),(V.sc (.int .u32 (0:Int))),(V.sc (.int .u16 (0:Int))),(V.sc (.int .u32 (0:Int)))] 0 (List.take 4 c0)) fun r1 =>
 chk (0+4≤(List.length r1)) (
 zm β L (List.take 4 r1) (fun v2 =>
 ifb v2 (
 lt (IntKind.wrap .i64 ((p5:Int)+(1:Int))) fun x3 =>
 lt (IntKind.wrap .i64 ((p10:Int)+(1:Int))) fun x4 =>
 k_hbbaba x3 p8 p9 x4) (
 lt (IntKind.wrap .i64 ((p10:Int)+(1:Int))) fun x5 =>
 k_hbbaba p5 p8 p9 x5))))) (
 k_x0 p5)
theorem zq6 {β:Type} (zm:zaq) (L:Nat) (p5:Int) (p8:List (List V)) (p9 p10:Int) (X:St→Option β) (K:KT β):xm za3 (za2 zm L) 0 L zd1 (zdx p5 p8 p9 p10) (zbR zeu X K)=zgZ zm L p5 p8 p9 p10 (fun p5 p8 p9 p10=>X (zdx p5 p8 p9 p10)) (fun p5=>K (.exit 0) (zht p5)):=by kernel_rfl
def zj7 {β:Type} (zm:zaq) (L:Nat) (p5:Int) (k_fin:Int→Option β):Option β :=
 k_fin p5
theorem zpv {β:Type} (zm:zaq) (L:Nat) (p5:Int) (k:KK β):(xE 0 (xR (xm za3 (za2 zm L) 0 L zmX) (y5 0 (CF.res zeB) k))) (.exit 0) (zht p5)=zj7 zm L p5 (fun p0=>k (V.sc (.int .i64 p0)) []):=by kernel_rfl
def zc1 {β:Type} (zm:zaq) (L:Nat) (k_x0:Int→Option β):Nat→Int→List (List V)→Int→Int→Option β
 | 0,_,_,_,_=>none
 | n+1,p5,p8,p9,p10=>zgZ zm L p5 p8 p9 p10 (fun p5 p8 p9 p10=>zc1 zm L k_x0 n p5 p8 p9 p10) k_x0
theorem zjn {β:Type} (zm:zaq) (L:Nat) (K:KT β):∀ (n:Nat) (p5:Int) (p8:List (List V)) (p9 p10:Int),yF (xm za3 (za2 zm L) 0 L zd1) zeu n (zdx p5 p8 p9 p10) K=zc1 zm L (fun p5=>K (.exit 0) (zht p5)) n p5 p8 p9 p10:=by
 intro n
 induction n with
 | zero=>intros; rfl
 | succ n ih =>
  intro p5 p8 p9 p10
  refine (zq6 zm L p5 p8 p9 p10 (fun σ=>yF (xm za3 (za2 zm L) 0 L zd1) zeu n σ K) K).trans ?_
  simp only [ih]
  rfl
def zhe {β:Type} (zm:zaq) (L:Nat) (p0:List (List V)) (k_fin:Int→Option β):Option β :=
 zlb zm L p0 (fun p5 p8 p9 p10=>zc1 zm L (fun p5=>zj7 zm L p5 k_fin) L p5 p8 p9 p10)
theorem zu6 {β:Type} (zm:zaq) (L:Nat) (p0:List (List V)) (k:KK β):xt za3 (za2 zm L) L zeB [(V.sl 4 p0),(V.fn 279 [])] [] k=zhe zm L p0 (fun p0=>k (V.sc (.int .i64 p0)) []):=by
 refine (zvw zm L p0 k).trans ?_
 unfold zhe
 first
  | (simp only [zjn,zpv]; done)
  | (simp only [zjn]; rfl)
abbrev z8:=∀ (β:Type),Nat→List (List V)→(Int→Option β)→Option β
def zk (β:Type) (L:Nat) (p0:List (List V)) (k_fin:Int→Option β):Option β:=zhe zm L p0 k_fin
def zhq (zk:z8) (L:Nat) (β:Type) (args:List V) (bor:Bor) (k:KK β):Option β:=match args,bor with
 | [a0,a1],[]=>aL 4 a0 fun p0=>aF 279 [] a1 (zk β L p0 (fun p0=>k (V.sc (.int .i64 p0)) []))
 | _,_=>none
theorem zvn (L:Nat) (β:Type) (args:List V) (bor:Bor) (k:KK β) (r:β) (h:zhq zk L β args bor k=some r):xt za3 (za2 zm L) L zeB args bor k=some r:=by
 unfold zhq at h
 split at h
 ·have q:=y4 h; clear h; obtain ⟨p0,rfl,h⟩:=q
  have q:=zt9 h; clear h; obtain ⟨rfl,h⟩:=q
  exact (zu6 zm L p0 k).trans h
 ·cases h
def zcn:CC:=(.seq (.reg [oo 9 (.bin .lss (tq 8) (tq 7))])
 (.seq (.cond (tq 9)
 .skip
 (.seq (.mask (bl 0 23) (bl 5210079 23))
 (.exit 0)))
 (.seq (.block 1 (.seq (.reg [oo 10 (.indexAddrS 5 (tq 6) (tq 8)),
   oo 11 (.load true 5 (tq 10) false),
   oo 5 (.alloc true [(.sc (.int .i64 0)),(.sc (.int .u32 0)),(.sc (.int .u16 0)),(.sc (.int .u32 0)),(.sc (.int .u32 0))]),
   oz (.store 5 (tq 5) (tq 11))])
 (.seq (.reg [oo 12 (.load false 1 (tq 1) false),
   oo 13 (.fieldAddr 1 (tq 5)),
   oo 14 (.load true 3 (tq 13) false),
   oo 15 (.call 278 [((tq 12),0),((tq 14),0)] []),
   oo 16 (.un .not (tq 15))])
 (.cond (tq 16)
 (.reg [oo 17 (.load false 1 (tq 2) true),
   oo 18 (.fieldAddr 1 (tq 5)),
   oo 19 (.load true 3 (tq 18) false),
   oo 20 (.buildSlice 3 1 [(.sc (.int .u32 0)),(.sc (.int .u16 0)),(.sc (.int .u32 0))] [(0,3,(tq 19))]),
   oo 21 (.append 3 12 (tq 17) (tq 20)),
   oz (.store 1 (tq 2) (tq 21))])
 .skip))))
 (.reg [oo 22 (.bin .add (tq 8) (.const (.sc (.int .i64 1)))),
   oo 8 (.move (tq 22) false)]))))
def zbk:CF:=⟨23,[],
 (.seq (.reg [oo 6 (.move (tq 0) false),
   oo 7 (.lenS (tq 6)),
   oo 8 (.move (.const (.sc (.int .i64 0))) false)])
 (.block 0 (.loop (bl 454 23) (bl 5210079 23)
 zcn)))⟩
def zjb:Hint:=⟨[(4,0)],[],[none,some ((bl 454 23),(bl 5210079 23)),none,some ((bl 0 23),(bl 5210079 23)),none,none],[],[],false,false⟩
def zaI:Nat→Sh:=xP []
def zaJ (xa:xq) (L:Nat):CBC:=(zx 278 (zdj xa L) noC)
def zdD:St→St:=zaj 2 (bl 454 23) (bl 5210079 23)
def zcU (p6:List (List V)) (p7 p8:Int) (zKX zMb:List (List V)):St:=⟨(jn 1 ((V.ptr 0 0)::((V.ptr 1 0)::(jn 3 ((V.sl 5 p6)::((V.sc (.int .i64 p7))::((V.sc (.int .i64 p8))::(jn 14 [])))))))),((.live true [(V.sl 4 zKX)])::((.live false [(V.gs 3 zMb)])::(gn 23 [])))⟩
def zeZ (zKX zMb:List (List V)):St:=⟨(jn 23 []),((.live true [(V.sl 4 zKX)])::((.live false [(V.gs 3 zMb)])::(gn 23 [])))⟩
abbrev zjr (β:Type):Type:=List (List V)→Int→Int→List (List V)→List (List V)→Option β
def zgX {β:Type} (xa:xq) (L:Nat) (p0 zKX zMb:List (List V)) (k_hba:zjr β):Option β :=
 k_hba p0 ((List.length p0:Nat):Int) (0:Int) zKX zMb
theorem zqV {β:Type} (xa:xq) (L:Nat) (p0 zKX zMb:List (List V)) (k:KK β):xt zaI (zaJ xa L) L zbk [(V.sl 5 p0),(V.ptr 0 0),(V.ptr 1 0)] [(.live true [(V.sl 4 zKX)]),(.live false [(V.gs 3 zMb)])] k=zgX xa L p0 zKX zMb (fun p6 p7 p8 zKX zMb=>yF (xm zaI (zaJ xa L) 2 L zcn) zdD L (zcU p6 p7 p8 zKX zMb) (xE 0 (y5 2 (CF.res zbk) k))):=by kernel_rfl
def zfy {β:Type} (xa:xq) (L:Nat) (p6:List (List V)) (p7 p8:Int) (zKX zMb:List (List V)) (k_hba:zjr β) (k_x0:List (List V)→List (List V)→Option β):Option β :=
 ifb (decide (p8 < p7)) (
 idx p6 p8 fun c0 =>
 chk ((List.length (List.take 5 c0))=5∧0+5≤5) (
 lt (zh [(V.sc (.int .i64 (0:Int))),(V.sc (.int .u32 (0:Int))),(V.sc (.int .u16 (0:Int))),(V.sc (.int .u32 (0:Int))),(V.sc (.int .u32 (0:Int)))] 0 (List.take 5 c0)) fun r1 =>
 chk (1+3≤(List.length r1)) (
 xa β L zKX (List.take 3 (List.drop 1 r1)) (fun v2 =>
 ifb (!v2) (
 chk (1+3≤(List.length r1)) (
 chk ((List.length (List.take 3 (List.drop 1 r1)))=3∧0+3≤3) (
 chk ((List.length zMb+List.length (zl 3 1 (zh [(V.sc (.int .u32 (0:Int))),(V.sc (.int .u16 (0:Int))),(V.sc (.int .u32 (0:Int)))] 0 (List.take 3 (List.drop 1 r1))))) * 12≤zt∧List.length zMb+List.length (zl 3 1 (zh [(V.sc (.int .u32 (0:Int))),(V.sc (.int .u16 (0:Int))),(V.sc (.int .u32 (0:Int)))] 0 (List.take 3 (List.drop 1 r1))))≤zt) (
 lt (zMb++(zl 3 1 (zh [(V.sc (.int .u32 (0:Int))),(V.sc (.int .u16 (0:Int))),(V.sc (.int .u32 (0:Int)))] 0 (List.take 3 (List.drop 1 r1))))) fun l3 =>
 lt (IntKind.wrap .i64 ((p8:Int)+(1:Int))) fun x4 =>
 k_hba p6 p7 x4 zKX l3)))) (
 lt (IntKind.wrap .i64 ((p8:Int)+(1:Int))) fun x5 =>
 k_hba p6 p7 x5 zKX zMb))))) (
 k_x0 zKX zMb)
theorem zpP {β:Type} (xa:xq) (L:Nat) (p6:List (List V)) (p7 p8:Int) (zKX zMb:List (List V)) (X:St→Option β) (K:KT β):xm zaI (zaJ xa L) 2 L zcn (zcU p6 p7 p8 zKX zMb) (zbR zdD X K)=zfy xa L p6 p7 p8 zKX zMb (fun p6 p7 p8 zKX zMb=>X (zcU p6 p7 p8 zKX zMb)) (fun zKX zMb=>K (.exit 0) (zeZ zKX zMb)):=by kernel_rfl
def ziE {β:Type} (xa:xq) (L:Nat) (zKX zMb:List (List V)) (k_fin:List (List V)→List (List V)→Option β):Option β :=
 k_fin zKX zMb
theorem zoc {β:Type} (xa:xq) (L:Nat) (zKX zMb:List (List V)) (k:KK β):(xE 0 (y5 2 (CF.res zbk) k)) (.exit 0) (zeZ zKX zMb)=ziE xa L zKX zMb (fun zKX zMb=>k (V.tup []) [(.live true [(V.sl 4 zKX)]),(.live false [(V.gs 3 zMb)])]):=by kernel_rfl
def zcq {β:Type} (xa:xq) (L:Nat) (k_x0:List (List V)→List (List V)→Option β):Nat→List (List V)→Int→Int→List (List V)→List (List V)→Option β
 | 0,_,_,_,_,_=>none
 | n+1,p6,p7,p8,zKX,zMb=>zfy xa L p6 p7 p8 zKX zMb (fun p6 p7 p8 zKX zMb=>zcq xa L k_x0 n p6 p7 p8 zKX zMb) k_x0
theorem zhT {β:Type} (xa:xq) (L:Nat) (K:KT β):∀ (n:Nat) (p6:List (List V)) (p7 p8:Int) (zKX zMb:List (List V)),yF (xm zaI (zaJ xa L) 2 L zcn) zdD n (zcU p6 p7 p8 zKX zMb) K=zcq xa L (fun zKX zMb=>K (.exit 0) (zeZ zKX zMb)) n p6 p7 p8 zKX zMb:=by
 intro n
 induction n with
 | zero=>intros; rfl
 | succ n ih =>
  intro p6 p7 p8 zKX zMb
  refine (zpP xa L p6 p7 p8 zKX zMb (fun σ=>yF (xm zaI (zaJ xa L) 2 L zcn) zdD n σ K) K).trans ?_
  simp only [ih]
  rfl
def zer {β:Type} (xa:xq) (L:Nat) (p0 zKX zMb:List (List V)) (k_fin:List (List V)→List (List V)→Option β):Option β :=
 zgX xa L p0 zKX zMb (fun p6 p7 p8 zKX zMb=>zcq xa L (fun zKX zMb=>ziE xa L zKX zMb k_fin) L p6 p7 p8 zKX zMb)
theorem zqY {β:Type} (xa:xq) (L:Nat) (p0 zKX zMb:List (List V)) (k:KK β):xt zaI (zaJ xa L) L zbk [(V.sl 5 p0),(V.ptr 0 0),(V.ptr 1 0)] [(.live true [(V.sl 4 zKX)]),(.live false [(V.gs 3 zMb)])] k=zer xa L p0 zKX zMb (fun zKX zMb=>k (V.tup []) [(.live true [(V.sl 4 zKX)]),(.live false [(V.gs 3 zMb)])]):=by
 refine (zqV xa L p0 zKX zMb k).trans ?_
 unfold zer
 first
  | (simp only [zhT,zoc]; done)
  | (simp only [zhT]; rfl)
abbrev zeo:=∀ (β:Type),Nat→List (List V)→List (List V)→List (List V)→(List (List V)→List (List V)→Option β)→Option β
def zE (β:Type) (L:Nat) (p0 zKX zMb:List (List V)) (k_fin:List (List V)→List (List V)→Option β):Option β:=zer xa L p0 zKX zMb k_fin
def zev (zE:zeo) (L:Nat) (β:Type) (args:List V) (bor:Bor) (k:KK β):Option β:=match args,bor with
 | [a0,a1,a2],[(.live true [w0_0]),(.live false [w1_0])]=>aL 5 a0 fun p0=>aP 0 0 a1 (aP 1 0 a2 (aL 4 w0_0 fun zKX=>aGs 3 w1_0 fun zMb=>zE β L p0 zKX zMb (fun zKX zMb=>k (V.tup []) [(.live true [(V.sl 4 zKX)]),(.live false [(V.gs 3 zMb)])])))
 | _,_=>none
theorem zqH (L:Nat) (β:Type) (args:List V) (bor:Bor) (k:KK β) (r:β) (h:zev zE L β args bor k=some r):xt zaI (zaJ xa L) L zbk args bor k=some r:=by
 unfold zev at h
 split at h
 ·have q:=y4 h; clear h; obtain ⟨p0,rfl,h⟩:=q
  have q:=zlz h; clear h; obtain ⟨rfl,h⟩:=q
  have q:=zlz h; clear h; obtain ⟨rfl,h⟩:=q
  have q:=y4 h; clear h; obtain ⟨zKX,rfl,h⟩:=q
  have q:=zJx h; clear h; obtain ⟨zMb,rfl,h⟩:=q
  exact (zqY xa L p0 zKX zMb k).trans h
 ·cases h
def zeP:CF:=⟨28,[.tmp 6],
 (.seq (.reg [oo 3 (.box true (tq 0)),
   oo 4 (.box true (tq 1)),
   oo 6 (.move (.const (.gs 3 [])) true)])
 (.seq (.reg [oo 7 (.alloc false [(.gs 3 [])])])
 (.seq (.reg [oo 9 (.makeFunc 284 [(tq 4),(tq 7)]),
   oo 8 (.move (tq 9) false)])
 (.seq (.seq (.reg [oo 10 (.move (tq 2) false)])
 (.block 0 (.seq (.reg [oo 12 (.bin .eql (tq 10) (.const (.sc (.int .i64 2)))),
   oo 11 (.move (tq 12) false)])
 (.cond (tq 11)
 (.seq (.reg [oo 13 (.move (tq 8) false),
   oo 14 (.fieldAddr 33 (tq 3)),
   oo 15 (.load false 1 (tq 14) false),
   oo 16 (.callv (tq 13) [((tq 15),0)] [])])
 (.reg [oo 17 (.move (tq 8) false),
   oo 18 (.fieldAddr 32 (tq 3)),
   oo 19 (.load false 1 (tq 18) false),
   oo 20 (.callv (tq 17) [((tq 19),0)] [])]))
 (.seq (.reg [oo 22 (.bin .eql (tq 10) (.const (.sc (.int .i64 3)))),
   oo 21 (.move (tq 22) false)])
 (.cond (tq 21)
 (.reg [oo 23 (.move (tq 8) false),
   oo 24 (.fieldAddr 32 (tq 3)),
   oo 25 (.load false 1 (tq 24) false),
   oo 26 (.callv (tq 23) [((tq 25),0)] [])])
 .skip))))))
 (.seq (.reg [oo 27 (.load false 1 (tq 7) false),
   oo 6 (.move (tq 27) true)])
 .ret)))))⟩
def zkX:Hint:=⟨[(0,0),(0,1),(0,2),(9,1)],[],[none,none,none,none],[],[],false,false⟩
def zhu:Nat→Sh:=xP [(15,(.sl 5)),(19,(.sl 5)),(25,(.sl 5))]
def zhA (zE:zeo) (L:Nat):CBC:=(zx 284 (zev zE L) noC)
def zin {β:Type} (zE:zeo) (L:Nat) (p0:List V) (p1:List (List V)) (p2:Int) (k_fin:List (List V)→Option β):Option β :=
 ifb ((p2:Int) == (2:Int)) (
 cLd 5 p0 33 fun v0 =>
 zE β L v0 p1 ([]:List (List V)) (fun v1 v2 =>
 cLd 5 p0 32 fun v3 =>
 zE β L v3 v1 v2 (fun v4 v5 =>
 k_fin v5))) (
 ifb ((p2:Int) == (3:Int)) (
 cLd 5 p0 32 fun v6 =>
 zE β L v6 p1 ([]:List (List V)) (fun v7 v8 =>
 k_fin v8)) (
 k_fin ([]:List (List V))))
theorem zsm {β:Type} (zE:zeo) (L:Nat) (p0:List V) (p1:List (List V)) (p2:Int) (k:KK β):xt zhu (zhA zE L) L zeP [(V.agg p0),(V.sl 4 p1),(V.sc (.int .i64 p2))] [] k=zin zE L p0 p1 p2 (fun p0=>k (V.sl 3 p0) []):=by kernel_rfl
abbrev yn:=∀ (β:Type),Nat→List V→List (List V)→Int→(List (List V)→Option β)→Option β
def yb (β:Type) (L:Nat) (p0:List V) (p1:List (List V)) (p2:Int) (k_fin:List (List V)→Option β):Option β:=zin zE L p0 p1 p2 k_fin
def zcG (yb:yn) (L:Nat) (β:Type) (args:List V) (bor:Bor) (k:KK β):Option β:=match args,bor with
 | [a0,a1,a2],[]=>aG a0 fun p0=>aL 4 a1 fun p1=>aI .i64 a2 fun p2=>yb β L p0 p1 p2 (fun p0=>k (V.sl 3 p0) [])
 | _,_=>none
theorem zsB (L:Nat) (β:Type) (args:List V) (bor:Bor) (k:KK β) (r:β) (h:zcG yb L β args bor k=some r):xt zhu (zhA zE L) L zeP args bor k=some r:=by
 unfold zcG at h
 split at h
 ·have q:=xZ h; clear h; obtain ⟨p0,rfl,h⟩:=q
  have q:=y4 h; clear h; obtain ⟨p1,rfl,h⟩:=q
  have q:=za5 h; clear h; obtain ⟨p2,rfl,h⟩:=q
  exact (zsm zE L p0 p1 p2 k).trans h
 ·cases h
end
end Go.Proofs.Ytpafdnidhnldhaa
