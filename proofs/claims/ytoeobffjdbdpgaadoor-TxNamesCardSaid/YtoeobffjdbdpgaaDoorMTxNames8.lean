/- Part 8 of the proof of TxNames: an abstract machine over plain values, its soundness, and the functions of the program on plain values. -/
import Derived.Test.YtoeobffjdbdpgaaDoorRows
import Derived.Test.YtoeobffjdbdpgaaDoorMTxNames7
namespace Go.Proofs.YtoeobffjdbdpgaaDoor
section
set_option maxRecDepth 100000
set_option linter.unusedVariables false
set_option linter.unusedSimpArgs false
def gk_sha_initial:List V:=[.sc (.int .u32 1779033703),.sc (.int .u32 3144134277),.sc (.int .u32 1013904242),.sc (.int .u32 2773480762),.sc (.int .u32 1359893119),.sc (.int .u32 2600822924),.sc (.int .u32 528734635),.sc (.int .u32 1541459225)]
def gk_sha_k:List V:=[.sc (.int .u32 1116352408),.sc (.int .u32 1899447441),.sc (.int .u32 3049323471),.sc (.int .u32 3921009573),.sc (.int .u32 961987163),.sc (.int .u32 1508970993),.sc (.int .u32 2453635748),.sc (.int .u32 2870763221),.sc (.int .u32 3624381080),.sc (.int .u32 310598401),.sc (.int .u32 607225278),.sc (.int .u32 1426881987),.sc (.int .u32 1925078388),.sc (.int .u32 2162078206),.sc (.int .u32 2614888103),.sc (.int .u32 3248222580),.sc (.int .u32 3835390401),.sc (.int .u32 4022224774),.sc (.int .u32 264347078),.sc (.int .u32 604807628),.sc (.int .u32 770255983),.sc (.int .u32 1249150122),.sc (.int .u32 1555081692),.sc (.int .u32 1996064986),.sc (.int .u32 2554220882),.sc (.int .u32 2821834349),.sc (.int .u32 2952996808),.sc (.int .u32 3210313671),.sc (.int .u32 3336571891),.sc (.int .u32 3584528711),.sc (.int .u32 113926993),.sc (.int .u32 338241895),.sc (.int .u32 666307205),.sc (.int .u32 773529912),.sc (.int .u32 1294757372),.sc (.int .u32 1396182291),.sc (.int .u32 1695183700),.sc (.int .u32 1986661051),.sc (.int .u32 2177026350),.sc (.int .u32 2456956037),.sc (.int .u32 2730485921),.sc (.int .u32 2820302411),.sc (.int .u32 3259730800),.sc (.int .u32 3345764771),.sc (.int .u32 3516065817),.sc (.int .u32 3600352804),.sc (.int .u32 4094571909),.sc (.int .u32 275423344),.sc (.int .u32 430227734),.sc (.int .u32 506948616),.sc (.int .u32 659060556),.sc (.int .u32 883997877),.sc (.int .u32 958139571),.sc (.int .u32 1322822218),.sc (.int .u32 1537002063),.sc (.int .u32 1747873779),.sc (.int .u32 1955562222),.sc (.int .u32 2024104815),.sc (.int .u32 2227730452),.sc (.int .u32 2361852424),.sc (.int .u32 2428436474),.sc (.int .u32 2756734187),.sc (.int .u32 3204031479),.sc (.int .u32 3329325298)]
def zcz:CC:=(.seq (.reg [oo 11 (.bin .lss (tq 10) (tq 9))])
 (.seq (.cond (tq 11)
 .skip
 (.seq (.mask (bl 32 23) (bl 8388543 23))
 (.exit 0)))
 (.seq (.block 1 (.seq (.reg [oo 12 (.move (tq 10) false),
   oo 6 (.move (tq 12) false)])
 (.reg [oo 13 (.move (tq 5) false),
   oo 14 (.move (tq 6) false),
   oo 15 (.move (tq 0) false),
   oo 16 (.move (tq 6) false),
   oo 17 (.bin .mul (.const (.sc (.int .i64 8))) (tq 16)),
   oo 18 (.bin .shr (tq 15) (tq 17)),
   oo 19 (.conv .u8 (tq 18)),
   oo 20 (.indexAddrS 1 (tq 13) (tq 14)),
   oz (.store 1 (tq 20) (tq 19))])))
 (.reg [oo 21 (.bin .add (tq 10) (.const (.sc (.int .i64 1)))),
   oo 10 (.move (tq 21) false)]))))
def zjI:CC:=(.seq (.reg [oo 22 (.move (tq 5) true),
   oo 4 (.move (tq 22) true)])
 .ret)
def zcx:CF:=⟨23,[.tmp 4],
 (.seq (.reg [oo 4 (.move (.const (.gs 1 [])) true)])
 (.seq (.reg [oo 7 (.move (tq 1) false),
   ⟨(some 8),true,none,.makeSlice 1 1 [(.sc (.int .u8 0))] (tq 7) (tq 7)⟩,
   oo 5 (.move (tq 8) true)])
 (.seq (.seq (.reg [oo 9 (.move (tq 1) false),
   oo 10 (.move (.const (.sc (.int .i64 0))) false)])
 (.block 0 (.loop (bl 1569 23) (bl 8388543 23)
 zcz)))
 zjI)))⟩
def zoy:Hint:=⟨[(0,0),(1,2),(7,0),(7,1)],[(1,1)],[none,some ((bl 1569 23),(bl 8388543 23)),none,some ((bl 32 23),(bl 8388543 23)),none,none],[],[],false,false⟩
def zaQ:Nat→Sh:=xQ []
def zaM (L:Nat):CBC:=noC
def ze9:St→St:=zS 0 (bl 1569 23) (bl 8388543 23)
def zdr (p0:Int) (p5l:Nat) (p9 p10:Int) (b8:List V):St:=⟨((V.sc (.int .u64 p0))::(jn 4 ((V.own 8 0 p5l 1)::(jn 3 ((V.sc (.int .i64 p9))::((V.sc (.int .i64 p10))::(jn 12 []))))))),(gn 8 ((.live true b8)::(gn 14 [])))⟩
def ziU (p5l:Nat) (b8:List V):St:=⟨(jn 5 ((V.own 8 0 p5l 1)::(jn 17 []))),(gn 8 ((.live true b8)::(gn 14 [])))⟩
def zrK {β:Type} (L:Nat) (p0 p1:Int) (k_hbbaba:Int→Nat→Int→Int→List V→Option β):Option β :=
 chk (0≤p1∧p1≤p1∧(Int.toNat p1) * 1≤yl∧p1≤yl) (
 k_hbbaba p0 (Int.toNat p1) p1 (0:Int) (List.flatten (List.replicate (Int.toNat p1) [(V.sc (.int .u8 (0:Int)))])))
theorem zvM {β:Type} (L:Nat) (p0 p1:Int) (k:KK β):zt zaQ (zaM L) L zcx [(V.sc (.int .u64 p0)),(V.sc (.int .i64 p1))] [] k=zrK L p0 p1 (fun p0 p5l p9 p10 b8=>xq (xf zaQ (zaM L) 0 L zcz) ze9 L (zdr p0 p5l p9 p10 b8) (yn 0 (zy (xf zaQ (zaM L) 0 L zjI) (yE 0 (CF.res zcx) k)))):=by kernel_rfl
def zmx {β:Type} (L:Nat) (p0:Int) (p5l:Nat) (p9 p10:Int) (b8:List V) (k_hbbaba:Int→Nat→Int→Int→List V→Option β) (k_x0:Nat→List V→Option β):Option β :=
 ifb (decide (p10 < p9)) (
 lt (IntKind.wrap .i64 (((8:Int):Int) * p10)) fun x0 =>
 chk (0≤x0) (
 lt (zcZ .u64 p0 x0) fun x1 =>
 lt (IntKind.wrap .u8 x1) fun x2 =>
 chk (0≤p10∧p10 < ((p5l:Nat):Int)) (
 chk (1=1∧(0+((Int.toNat p10) * 1))+1≤(List.length b8)) (
 lt (zr b8 (0+((Int.toNat p10) * 1)) [(V.sc (.int .u8 x2))]) fun r3 =>
 lt (IntKind.wrap .i64 ((p10:Int)+(1:Int))) fun x4 =>
 k_hbbaba p0 p5l p9 x4 r3)))) (
 k_x0 p5l b8)
theorem zrm {β:Type} (L:Nat) (p0:Int) (p5l:Nat) (p9 p10:Int) (b8:List V) (X:St→Option β) (K:KT β):xf zaQ (zaM L) 0 L zcz (zdr p0 p5l p9 p10 b8) (yN ze9 X K)=zmx L p0 p5l p9 p10 b8 (fun p0 p5l p9 p10 b8=>X (zdr p0 p5l p9 p10 b8)) (fun p5l b8=>K (.exit 0) (ziU p5l b8)):=by kernel_rfl
def zkX {β:Type} (L:Nat) (p5l:Nat) (b8:List V) (k_fin:List (List V)→Option β):Option β :=
 chk (p5l≠0∨(List.length b8)=0) (
 k_fin (yp 1 p5l b8))
theorem zpO {β:Type} (L:Nat) (p5l:Nat) (b8:List V) (k:KK β):(yn 0 (zy (xf zaQ (zaM L) 0 L zjI) (yE 0 (CF.res zcx) k))) (.exit 0) (ziU p5l b8)=zkX L p5l b8 (fun p0=>k (V.fr 1 p0) []):=by kernel_rfl
def zhx {β:Type} (L:Nat) (k_x0:Nat→List V→Option β):Nat→Int→Nat→Int→Int→List V→Option β
 | 0,_,_,_,_,_=>none
 | n+1,p0,p5l,p9,p10,b8=>zmx L p0 p5l p9 p10 b8 (fun p0 p5l p9 p10 b8=>zhx L k_x0 n p0 p5l p9 p10 b8) k_x0
theorem zj9 {β:Type} (L:Nat) (K:KT β):∀ (n:Nat) (p0:Int) (p5l:Nat) (p9 p10:Int) (b8:List V),xq (xf zaQ (zaM L) 0 L zcz) ze9 n (zdr p0 p5l p9 p10 b8) K=zhx L (fun p5l b8=>K (.exit 0) (ziU p5l b8)) n p0 p5l p9 p10 b8:=by
 intro n
 induction n with
 | zero=>intros; rfl
 | succ n ih =>
  intro p0 p5l p9 p10 b8
  refine (zrm L p0 p5l p9 p10 b8 (fun σ=>xq (xf zaQ (zaM L) 0 L zcz) ze9 n σ K) K).trans ?_
  simp only [ih]
  rfl
def zmP {β:Type} (L:Nat) (p0 p1:Int) (k_fin:List (List V)→Option β):Option β :=
 zrK L p0 p1 (fun p0 p5l p9 p10 b8=>zhx L (fun p5l b8=>zkX L p5l b8 k_fin) L p0 p5l p9 p10 b8)
theorem zvo {β:Type} (L:Nat) (p0 p1:Int) (k:KK β):zt zaQ (zaM L) L zcx [(V.sc (.int .u64 p0)),(V.sc (.int .i64 p1))] [] k=zmP L p0 p1 (fun p0=>k (V.fr 1 p0) []):=by
 refine (zvM L p0 p1 k).trans ?_
 unfold zmP
 first
  | (simp only [zj9,zpO]; done)
  | (simp only [zj9]; rfl)
abbrev za8:=∀ (β:Type),Nat→Int→Int→(List (List V)→Option β)→Option β
def zp (β:Type) (L:Nat) (p0 p1:Int) (k_fin:List (List V)→Option β):Option β:=zmP L p0 p1 k_fin
def zeE (zp:za8) (L:Nat) (β:Type) (args:List V) (bor:Bor) (k:KK β):Option β:=match args,bor with
 | [a0,a1],[]=>aI .u64 a0 fun p0=>aI .i64 a1 fun p1=>zp β L p0 p1 (fun p0=>k (V.fr 1 p0) [])
 | _,_=>none
theorem zvi (L:Nat) (β:Type) (args:List V) (bor:Bor) (k:KK β) (r:β) (h:zeE zp L β args bor k=some r):zt zaQ (zaM L) L zcx args bor k=some r:=by
 unfold zeE at h
 split at h
 ·have q:=zbt h; clear h; obtain ⟨p0,rfl,h⟩:=q
  have q:=zbt h; clear h; obtain ⟨p1,rfl,h⟩:=q
  exact (zvo L p0 p1 k).trans h
 ·cases h
def zhX:CF:=⟨18,[.tmp 4],
 (.seq (.reg [oo 4 (.move (.const (.gs 1 [])) true)])
 (.seq (.reg [oo 6 (.move (tq 0) false),
   oo 7 (.lenS (tq 6)),
   oo 8 (.move (tq 1) false),
   oo 9 (.lenS (tq 8)),
   oo 10 (.bin .add (tq 7) (tq 9)),
   oo 11 (.makeSlice 1 1 [(.sc (.int .u8 0))] (.const (.sc (.int .i64 0))) (tq 10)),
   oo 5 (.move (tq 11) true)])
 (.seq (.reg [oo 12 (.move (tq 5) true),
   oo 13 (.move (tq 0) false),
   oo 14 (.append 1 1 (tq 12) (tq 13)),
   oo 5 (.move (tq 14) true)])
 (.seq (.reg [oo 15 (.move (tq 5) true),
   oo 16 (.move (tq 1) false),
   oo 17 (.append 1 1 (tq 15) (tq 16)),
   oo 4 (.move (tq 17) true)])
 .ret))))⟩
def zos:Hint:=⟨[(0,0),(1,6),(2,0),(2,3),(3,0),(3,3)],[],[none],[],[],false,false⟩
def zlS:Nat→Sh:=xQ []
def zmj (L:Nat):CBC:=noC
def zmX {β:Type} (L:Nat) (p0 p1:List (List V)) (k_fin:List (List V)→Option β):Option β :=
 lt (IntKind.wrap .i64 ((((List.length p0:Nat):Int):Int)+((List.length p1:Nat):Int))) fun x0 =>
 chk (0≤(0:Int)∧(0:Int)≤x0∧(Int.toNat x0) * 1≤yl∧x0≤yl) (
 chk ((List.length (List.replicate 0 [(V.sc (.int .u8 (0:Int)))])+List.length p0) * 1≤yl∧List.length (List.replicate 0 [(V.sc (.int .u8 (0:Int)))])+List.length p0≤yl) (
 lt ((List.replicate 0 [(V.sc (.int .u8 (0:Int)))])++p0) fun l1 =>
 chk ((List.length l1+List.length p1) * 1≤yl∧List.length l1+List.length p1≤yl) (
 lt (l1++p1) fun l2 =>
 k_fin l2)))
theorem zvI {β:Type} (L:Nat) (p0 p1:List (List V)) (k:KK β):zt zlS (zmj L) L zhX [(V.sl 1 p0),(V.sl 1 p1)] [] k=zmX L p0 p1 (fun p0=>k (V.gs 1 p0) []):=by kernel_rfl
abbrev yM:=∀ (β:Type),Nat→List (List V)→List (List V)→(List (List V)→Option β)→Option β
def yf (β:Type) (L:Nat) (p0 p1:List (List V)) (k_fin:List (List V)→Option β):Option β:=zmX L p0 p1 k_fin
def zbC (yf:yM) (L:Nat) (β:Type) (args:List V) (bor:Bor) (k:KK β):Option β:=match args,bor with
 | [a0,a1],[]=>aL 1 a0 fun p0=>aL 1 a1 fun p1=>yf β L p0 p1 (fun p0=>k (V.gs 1 p0) [])
 | _,_=>none
theorem zvE (L:Nat) (β:Type) (args:List V) (bor:Bor) (k:KK β) (r:β) (h:zbC yf L β args bor k=some r):zt zlS (zmj L) L zhX args bor k=some r:=by
 unfold zbC at h
 split at h
 ·have q:=za2 h; clear h; obtain ⟨p0,rfl,h⟩:=q
  have q:=za2 h; clear h; obtain ⟨p1,rfl,h⟩:=q
  exact (zvI L p0 p1 k).trans h
 ·cases h
def zfi:CF:=⟨10,[.tmp 4],
 (.seq (.reg [oo 4 (.move (.const (.gs 1 [])) true)])
 (.seq (.reg [oo 5 (.move (tq 0) false),
   oo 6 (.move (tq 1) false),
   oo 7 (.conv .u64 (tq 6)),
   oo 8 (.call 192 [((tq 7),0),((.const (.sc (.int .i64 4))),0)] []),
   oo 9 (.call 191 [((tq 5),0),((tq 8),0)] []),
   oo 4 (.move (tq 9) true)])
 .ret))⟩
def zmp:Hint:=⟨[(0,0),(1,5)],[],[none],[],[],false,false⟩
def ziD:Nat→Sh:=xQ []
def ziN (zp:za8) (yf:yM) (L:Nat):CBC:=(xy 191 (zbC yf L) (xy 192 (zeE zp L) noC))
def zjY {β:Type} (zp:za8) (yf:yM) (L:Nat) (p0:List (List V)) (p1:Int) (k_fin:List (List V)→Option β):Option β :=
 lt (IntKind.wrap .u64 p1) fun x0 =>
 zp β L x0 (4:Int) (fun v1 =>
 yf β L p0 v1 (fun v2 =>
 k_fin v2))
theorem zsE {β:Type} (zp:za8) (yf:yM) (L:Nat) (p0:List (List V)) (p1:Int) (k:KK β):zt ziD (ziN zp yf L) L zfi [(V.sl 1 p0),(V.sc (.int .u32 p1))] [] k=zjY zp yf L p0 p1 (fun p0=>k (V.gs 1 p0) []):=by kernel_rfl
abbrev yj:=∀ (β:Type),Nat→List (List V)→Int→(List (List V)→Option β)→Option β
def ya (β:Type) (L:Nat) (p0:List (List V)) (p1:Int) (k_fin:List (List V)→Option β):Option β:=zjY zp yf L p0 p1 k_fin
def zcR (ya:yj) (L:Nat) (β:Type) (args:List V) (bor:Bor) (k:KK β):Option β:=match args,bor with
 | [a0,a1],[]=>aL 1 a0 fun p0=>aI .u32 a1 fun p1=>ya β L p0 p1 (fun p0=>k (V.gs 1 p0) [])
 | _,_=>none
theorem zs6 (L:Nat) (β:Type) (args:List V) (bor:Bor) (k:KK β) (r:β) (h:zcR ya L β args bor k=some r):zt ziD (ziN zp yf L) L zfi args bor k=some r:=by
 unfold zcR at h
 split at h
 ·have q:=za2 h; clear h; obtain ⟨p0,rfl,h⟩:=q
  have q:=zbt h; clear h; obtain ⟨p1,rfl,h⟩:=q
  exact (zsE zp yf L p0 p1 k).trans h
 ·cases h
def zfC:CF:=⟨10,[.tmp 4],
 (.seq (.reg [oo 4 (.move (.const (.gs 1 [])) true)])
 (.seq (.reg [oo 5 (.move (tq 0) false),
   oo 6 (.move (tq 1) false),
   oo 7 (.conv .u64 (tq 6)),
   oo 8 (.call 192 [((tq 7),0),((.const (.sc (.int .i64 2))),0)] []),
   oo 9 (.call 191 [((tq 5),0),((tq 8),0)] []),
   oo 4 (.move (tq 9) true)])
 .ret))⟩
def zlO:Hint:=⟨[(0,0),(1,5)],[],[none],[],[],false,false⟩
def ziw:Nat→Sh:=xQ []
def ziM (zp:za8) (yf:yM) (L:Nat):CBC:=(xy 191 (zbC yf L) (xy 192 (zeE zp L) noC))
def zjO {β:Type} (zp:za8) (yf:yM) (L:Nat) (p0:List (List V)) (p1:Int) (k_fin:List (List V)→Option β):Option β :=
 lt (IntKind.wrap .u64 p1) fun x0 =>
 zp β L x0 (2:Int) (fun v1 =>
 yf β L p0 v1 (fun v2 =>
 k_fin v2))
theorem zso {β:Type} (zp:za8) (yf:yM) (L:Nat) (p0:List (List V)) (p1:Int) (k:KK β):zt ziw (ziM zp yf L) L zfC [(V.sl 1 p0),(V.sc (.int .u16 p1))] [] k=zjO zp yf L p0 p1 (fun p0=>k (V.gs 1 p0) []):=by kernel_rfl
abbrev zf7:=∀ (β:Type),Nat→List (List V)→Int→(List (List V)→Option β)→Option β
def xJ (β:Type) (L:Nat) (p0:List (List V)) (p1:Int) (k_fin:List (List V)→Option β):Option β:=zjO zp yf L p0 p1 k_fin
def zf4 (xJ:zf7) (L:Nat) (β:Type) (args:List V) (bor:Bor) (k:KK β):Option β:=match args,bor with
 | [a0,a1],[]=>aL 1 a0 fun p0=>aI .u16 a1 fun p1=>xJ β L p0 p1 (fun p0=>k (V.gs 1 p0) [])
 | _,_=>none
theorem zsn (L:Nat) (β:Type) (args:List V) (bor:Bor) (k:KK β) (r:β) (h:zf4 xJ L β args bor k=some r):zt ziw (ziM zp yf L) L zfC args bor k=some r:=by
 unfold zf4 at h
 split at h
 ·have q:=za2 h; clear h; obtain ⟨p0,rfl,h⟩:=q
  have q:=zbt h; clear h; obtain ⟨p1,rfl,h⟩:=q
  exact (zso zp yf L p0 p1 k).trans h
 ·cases h
def zfQ:CF:=⟨9,[.tmp 4],
 (.seq (.reg [oo 4 (.move (.const (.gs 1 [])) true)])
 (.seq (.reg [oo 5 (.move (tq 0) false),
   oo 6 (.move (tq 1) false),
   oo 7 (.call 192 [((tq 6),0),((.const (.sc (.int .i64 8))),0)] []),
   oo 8 (.call 191 [((tq 5),0),((tq 7),0)] []),
   oo 4 (.move (tq 8) true)])
 .ret))⟩
def zlF:Hint:=⟨[(0,0),(1,4)],[],[none],[],[],false,false⟩
def ziW:Nat→Sh:=xQ []
def ziL (zp:za8) (yf:yM) (L:Nat):CBC:=(xy 191 (zbC yf L) (xy 192 (zeE zp L) noC))
def zjV {β:Type} (zp:za8) (yf:yM) (L:Nat) (p0:List (List V)) (p1:Int) (k_fin:List (List V)→Option β):Option β :=
 zp β L p1 (8:Int) (fun v0 =>
 yf β L p0 v0 (fun v1 =>
 k_fin v1))
theorem zsw {β:Type} (zp:za8) (yf:yM) (L:Nat) (p0:List (List V)) (p1:Int) (k:KK β):zt ziW (ziL zp yf L) L zfQ [(V.sl 1 p0),(V.sc (.int .u64 p1))] [] k=zjV zp yf L p0 p1 (fun p0=>k (V.gs 1 p0) []):=by kernel_rfl
abbrev zm:=∀ (β:Type),Nat→List (List V)→Int→(List (List V)→Option β)→Option β
def zc (β:Type) (L:Nat) (p0:List (List V)) (p1:Int) (k_fin:List (List V)→Option β):Option β:=zjV zp yf L p0 p1 k_fin
def zd4 (zc:zm) (L:Nat) (β:Type) (args:List V) (bor:Bor) (k:KK β):Option β:=match args,bor with
 | [a0,a1],[]=>aL 1 a0 fun p0=>aI .u64 a1 fun p1=>zc β L p0 p1 (fun p0=>k (V.gs 1 p0) [])
 | _,_=>none
theorem zsZ (L:Nat) (β:Type) (args:List V) (bor:Bor) (k:KK β) (r:β) (h:zd4 zc L β args bor k=some r):zt ziW (ziL zp yf L) L zfQ args bor k=some r:=by
 unfold zd4 at h
 split at h
 ·have q:=za2 h; clear h; obtain ⟨p0,rfl,h⟩:=q
  have q:=zbt h; clear h; obtain ⟨p1,rfl,h⟩:=q
  exact (zsw zp yf L p0 p1 k).trans h
 ·cases h
def ze3:CF:=⟨36,[.tmp 4],
 (.seq (.reg [oo 4 (.move (.const (.gs 1 [])) true)])
 (.seq (.block 0 (.seq (.reg [oo 6 (.move (tq 1) false),
   oo 7 (.bin .lss (tq 6) (.const (.sc (.int .u64 253)))),
   oo 5 (.move (tq 7) false)])
 (.cond (tq 5)
 (.seq (.reg [oo 8 (.move (tq 0) false),
   oo 9 (.move (tq 1) false),
   oo 10 (.conv .u8 (tq 9)),
   oo 11 (.buildSlice 1 1 [(.sc (.int .u8 0))] [(0,1,(tq 10))]),
   oo 12 (.call 191 [((tq 8),0),((tq 11),0)] []),
   oo 4 (.move (tq 12) true)])
 .ret)
 (.seq (.reg [oo 14 (.move (tq 1) false),
   oo 15 (.bin .lss (tq 14) (.const (.sc (.int .u64 65536)))),
   oo 13 (.move (tq 15) false)])
 (.cond (tq 13)
 (.seq (.reg [oo 16 (.move (tq 0) false),
   oo 17 (.buildSlice 1 1 [(.sc (.int .u8 0))] [(0,1,(.const (.sc (.int .u8 253))))]),
   oo 18 (.call 191 [((tq 16),0),((tq 17),0)] []),
   oo 19 (.move (tq 1) false),
   oo 20 (.conv .u16 (tq 19)),
   oo 21 (.call 205 [((tq 18),0),((tq 20),0)] []),
   oo 4 (.move (tq 21) true)])
 .ret)
 (.seq (.reg [oo 23 (.move (tq 1) false),
   oo 24 (.bin .lss (tq 23) (.const (.sc (.int .u64 4294967296)))),
   oo 22 (.move (tq 24) false)])
 (.cond (tq 22)
 (.seq (.reg [oo 25 (.move (tq 0) false),
   oo 26 (.buildSlice 1 1 [(.sc (.int .u8 0))] [(0,1,(.const (.sc (.int .u8 254))))]),
   oo 27 (.call 191 [((tq 25),0),((tq 26),0)] []),
   oo 28 (.move (tq 1) false),
   oo 29 (.conv .u32 (tq 28)),
   oo 30 (.call 157 [((tq 27),0),((tq 29),0)] []),
   oo 4 (.move (tq 30) true)])
 .ret)
 .skip)))))))
 (.seq (.reg [oo 31 (.move (tq 0) false),
   oo 32 (.buildSlice 1 1 [(.sc (.int .u8 0))] [(0,1,(.const (.sc (.int .u8 255))))]),
   oo 33 (.call 191 [((tq 31),0),((tq 32),0)] []),
   oo 34 (.move (tq 1) false),
   oo 35 (.call 183 [((tq 33),0),((tq 34),0)] []),
   oo 4 (.move (tq 35) true)])
 .ret)))⟩
def zk7:Hint:=⟨[(0,0),(2,5),(4,6),(6,6),(7,5)],[],[none,none,none,none,none,none,none,none],[],[],false,false⟩
def zhS:Nat→Sh:=xQ []
def zhA (yf:yM) (xJ:zf7) (ya:yj) (zc:zm) (L:Nat):CBC:=(xy 183 (zd4 zc L) (xy 157 (zcR ya L) (xy 205 (zf4 xJ L) (xy 191 (zbC yf L) noC))))
def ziZ {β:Type} (yf:yM) (xJ:zf7) (ya:yj) (zc:zm) (L:Nat) (p0:List (List V)) (p1:Int) (k_fin:List (List V)→Option β):Option β :=
 ifb (decide (p1 < (253:Int))) (
 lt (IntKind.wrap .u8 p1) fun x0 =>
 yf β L p0 (yp 1 1 [(V.sc (.int .u8 x0))]) (fun v1 =>
 k_fin v1)) (
 ifb (decide (p1 < (65536:Int))) (
 yf β L p0 (yp 1 1 [(V.sc (.int .u8 (253:Int)))]) (fun v2 =>
 lt (IntKind.wrap .u16 p1) fun x3 =>
 xJ β L v2 x3 (fun v4 =>
 k_fin v4))) (
 ifb (decide (p1 < (4294967296:Int))) (
 yf β L p0 (yp 1 1 [(V.sc (.int .u8 (254:Int)))]) (fun v5 =>
 lt (IntKind.wrap .u32 p1) fun x6 =>
 ya β L v5 x6 (fun v7 =>
 k_fin v7))) (
 yf β L p0 (yp 1 1 [(V.sc (.int .u8 (255:Int)))]) (fun v8 =>
 zc β L v8 p1 (fun v9 =>
 k_fin v9)))))
theorem zrY {β:Type} (yf:yM) (xJ:zf7) (ya:yj) (zc:zm) (L:Nat) (p0:List (List V)) (p1:Int) (k:KK β):zt zhS (zhA yf xJ ya zc L) L ze3 [(V.sl 1 p0),(V.sc (.int .u64 p1))] [] k=ziZ yf xJ ya zc L p0 p1 (fun p0=>k (V.gs 1 p0) []):=by kernel_rfl
abbrev xj:=∀ (β:Type),Nat→List (List V)→Int→(List (List V)→Option β)→Option β
def zb (β:Type) (L:Nat) (p0:List (List V)) (p1:Int) (k_fin:List (List V)→Option β):Option β:=ziZ yf xJ ya zc L p0 p1 k_fin
def zdH (zb:xj) (L:Nat) (β:Type) (args:List V) (bor:Bor) (k:KK β):Option β:=match args,bor with
 | [a0,a1],[]=>aL 1 a0 fun p0=>aI .u64 a1 fun p1=>zb β L p0 p1 (fun p0=>k (V.gs 1 p0) [])
 | _,_=>none
theorem zr1 (L:Nat) (β:Type) (args:List V) (bor:Bor) (k:KK β) (r:β) (h:zdH zb L β args bor k=some r):zt zhS (zhA yf xJ ya zc L) L ze3 args bor k=some r:=by
 unfold zdH at h
 split at h
 ·have q:=za2 h; clear h; obtain ⟨p0,rfl,h⟩:=q
  have q:=zbt h; clear h; obtain ⟨p1,rfl,h⟩:=q
  exact (zrY yf xJ ya zc L p0 p1 k).trans h
 ·cases h
def zeX:CF:=⟨8,[.tmp 4],
 (.seq (.reg [oo 3 (.box true (tq 1)),
   oo 4 (.move (.const (.gs 1 [])) true)])
 (.seq (.reg [oo 5 (.move (tq 0) false),
   oo 6 (.sliceA 32 1 (tq 3) none none none),
   oo 7 (.call 191 [((tq 5),0),((tq 6),0)] []),
   oo 4 (.move (tq 7) true)])
 .ret))⟩
def zk8:Hint:=⟨[(0,1),(1,3)],[],[none],[],[],false,false⟩
def zhI:Nat→Sh:=xQ []
def zhJ (yf:yM) (L:Nat):CBC:=(xy 191 (zbC yf L) noC)
def zi8 {β:Type} (yf:yM) (L:Nat) (p0:List (List V)) (p1:List V) (k_fin:List (List V)→Option β):Option β :=
 chk (0+32 * 1≤(List.length p1)) (
 ifb (List.isEmpty p1) (
 yf β L p0 (yp 1 32 p1) (fun v0 =>
 k_fin v0)) (
 yf β L p0 (yp 1 32 p1) (fun v1 =>
 k_fin v1)))
theorem zr4 {β:Type} (yf:yM) (L:Nat) (p0:List (List V)) (p1:List V) (k:KK β):zt zhI (zhJ yf L) L zeX [(V.sl 1 p0),(V.agg p1)] [] k=zi8 yf L p0 p1 (fun p0=>k (V.gs 1 p0) []):=by kernel_rfl
abbrev zfG:=∀ (β:Type),Nat→List (List V)→List V→(List (List V)→Option β)→Option β
def yI (β:Type) (L:Nat) (p0:List (List V)) (p1:List V) (k_fin:List (List V)→Option β):Option β:=zi8 yf L p0 p1 k_fin
def zfh (yI:zfG) (L:Nat) (β:Type) (args:List V) (bor:Bor) (k:KK β):Option β:=match args,bor with
 | [a0,a1],[]=>aL 1 a0 fun p0=>aG a1 fun p1=>yI β L p0 p1 (fun p0=>k (V.gs 1 p0) [])
 | _,_=>none
theorem zrB (L:Nat) (β:Type) (args:List V) (bor:Bor) (k:KK β) (r:β) (h:zfh yI L β args bor k=some r):zt zhI (zhJ yf L) L zeX args bor k=some r:=by
 unfold zfh at h
 split at h
 ·have q:=za2 h; clear h; obtain ⟨p0,rfl,h⟩:=q
  have q:=zaj h; clear h; obtain ⟨p1,rfl,h⟩:=q
  exact (zr4 yf L p0 p1 k).trans h
 ·cases h
def zna:CF:=⟨9,[.tmp 2],
 (.seq (.reg [oo 1 (.box true (tq 0)),
   oo 2 (.move (.const (.gs 1 [])) true)])
 (.seq (.dreg [] [(oo 3 (.fieldAddr 0 (tq 1)),q0),
   (oo 4 (.load true 32 (tq 3) false),ql 1 [] []),
   (oo 5 (.call 158 [((.const (.gs 1 [])),0),((tq 4),0)] []),qc [1] []),
   (oo 6 (.fieldAddr 32 (tq 1)),q0),
   (oo 7 (.load false 1 (tq 6) false),ql 1 [] []),
   (oo 8 (.call 157 [((tq 5),0),((tq 7),0)] []),q0),
   (oo 2 (.move (tq 8) true),q0)])
 .ret))⟩
def ztq:Hint:=⟨[(0,1),(1,6)],[],[none],[],[],false,false⟩
def zre:Nat→Sh:=xQ [(7,(.int .u32))]
def zqL (yI:zfG) (ya:yj) (L:Nat):CBC:=(xy 157 (zcR ya L) (xy 158 (zfh yI L) noC))
def zsN {β:Type} (yI:zfG) (ya:yj) (L:Nat) (p0:List V) (k_fin:List (List V)→Option β):Option β :=
 chk (0+32≤(List.length p0)) (
 yI β L ([]:List (List V)) (List.take 32 p0) (fun v0 =>
 cI .u32 p0 32 fun v1 =>
 ya β L v0 v1 (fun v2 =>
 k_fin v2)))
theorem zzC {β:Type} (yI:zfG) (ya:yj) (L:Nat) (p0:List V) (k:KK β):zt zre (zqL yI ya L) L zna [(V.agg p0)] [] k=zsN yI ya L p0 (fun p0=>k (V.gs 1 p0) []):=by kernel_rfl
abbrev zC:=∀ (β:Type),Nat→List V→(List (List V)→Option β)→Option β
def ye (β:Type) (L:Nat) (p0:List V) (k_fin:List (List V)→Option β):Option β:=zsN yI ya L p0 k_fin
def zoS (ye:zC) (L:Nat) (β:Type) (args:List V) (bor:Bor) (k:KK β):Option β:=match args,bor with
 | [a0],[]=>aG a0 fun p0=>ye β L p0 (fun p0=>k (V.gs 1 p0) [])
 | _,_=>none
theorem zzQ (L:Nat) (β:Type) (args:List V) (bor:Bor) (k:KK β) (r:β) (h:zoS ye L β args bor k=some r):zt zre (zqL yI ya L) L zna args bor k=some r:=by
 unfold zoS at h
 split at h
 ·have q:=zaj h; clear h; obtain ⟨p0,rfl,h⟩:=q
  exact (zzC yI ya L p0 k).trans h
 ·cases h
def zeg:CF:=⟨12,[.tmp 4],
 (.seq (.reg [oo 4 (.move (.const (.gs 1 [])) true)])
 (.seq (.reg [oo 5 (.move (tq 0) false),
   oo 6 (.move (tq 1) false),
   oo 7 (.lenS (tq 6)),
   oo 8 (.conv .u64 (tq 7)),
   oo 9 (.call 182 [((tq 5),0),((tq 8),0)] []),
   oo 10 (.move (tq 1) false),
   oo 11 (.call 191 [((tq 9),0),((tq 10),0)] []),
   oo 4 (.move (tq 11) true)])
 .ret))⟩
def zkh:Hint:=⟨[(0,0),(1,7)],[],[none],[],[],false,false⟩
def zgW:Nat→Sh:=xQ []
def zhg (zb:xj) (yf:yM) (L:Nat):CBC:=(xy 191 (zbC yf L) (xy 182 (zdH zb L) noC))
def zhO {β:Type} (zb:xj) (yf:yM) (L:Nat) (p0 p1:List (List V)) (k_fin:List (List V)→Option β):Option β :=
 lt (IntKind.wrap .u64 ((List.length p1:Nat):Int)) fun x0 =>
 zb β L p0 x0 (fun v1 =>
 yf β L v1 p1 (fun v2 =>
 k_fin v2))
theorem zrk {β:Type} (zb:xj) (yf:yM) (L:Nat) (p0 p1:List (List V)) (k:KK β):zt zgW (zhg zb yf L) L zeg [(V.sl 1 p0),(V.sl 1 p1)] [] k=zhO zb yf L p0 p1 (fun p0=>k (V.gs 1 p0) []):=by kernel_rfl
abbrev yk:=∀ (β:Type),Nat→List (List V)→List (List V)→(List (List V)→Option β)→Option β
def yb (β:Type) (L:Nat) (p0 p1:List (List V)) (k_fin:List (List V)→Option β):Option β:=zhO zb yf L p0 p1 k_fin
def ze5 (yb:yk) (L:Nat) (β:Type) (args:List V) (bor:Bor) (k:KK β):Option β:=match args,bor with
 | [a0,a1],[]=>aL 1 a0 fun p0=>aL 1 a1 fun p1=>yb β L p0 p1 (fun p0=>k (V.gs 1 p0) [])
 | _,_=>none
theorem zq0 (L:Nat) (β:Type) (args:List V) (bor:Bor) (k:KK β) (r:β) (h:ze5 yb L β args bor k=some r):zt zgW (zhg zb yf L) L zeg args bor k=some r:=by
 unfold ze5 at h
 split at h
 ·have q:=za2 h; clear h; obtain ⟨p0,rfl,h⟩:=q
  have q:=za2 h; clear h; obtain ⟨p1,rfl,h⟩:=q
  exact (zrk zb yf L p0 p1 k).trans h
 ·cases h
def y7:CC:=(.seq (.reg [oo 94 (.bin .lss (tq 93) (tq 92))])
 (.seq (.cond (tq 94)
 .skip
 (.seq (.mask (bl 1057810092162800527867936 104) (bl 18380933703309326321702196467067 104))
 (.exit 6)))
 (.seq (.block 7 (.seq (.reg [oo 95 (.indexAddrS 1 (tq 91) (tq 93)),
   oo 96 (.load false 1 (tq 95) false),
   oo 13 (.move (tq 96) false)])
 (.reg [oo 97 (.move (tq 5) true),
   oo 98 (.move (tq 13) false),
   oo 99 (.call 184 [((.const (.gs 1 [])),0),((tq 98),0)] []),
   oo 100 (.append 1 1 (tq 97) (tq 99)),
   oo 5 (.move (tq 100) true)])))
 (.reg [oo 101 (.bin .add (tq 93) (.const (.sc (.int .i64 1)))),
   oo 93 (.move (tq 101) false)]))))
def zdX:CC:=(.reg [oo 102 (.bin .add (tq 79) (.const (.sc (.int .i64 1)))),
   oo 79 (.move (tq 102) false)])
def zaW:CC:=(.seq (.reg [oo 80 (.bin .lss (tq 79) (tq 78))])
 (.seq (.cond (tq 80)
 .skip
 (.seq (.mask (bl 32 104) (bl 18374976116870265429129244431739 104))
 (.exit 4)))
 (.seq (.block 5 (.seq (.reg [oo 81 (.indexAddrS 35 (tq 77) (tq 79)),
   oo 82 (.load true 35 (tq 81) false),
   oo 11 (.alloc true (rp 32 (.sc (.int .u8 0)) (rp 2 (.sc (.int .u32 0)) (rp 1 (.gs 1 []) [])))),
   oz (.store 35 (tq 11) (tq 82))])
 (.seq (.reg [oo 83 (.move (tq 5) true),
   oo 84 (.fieldAddr 34 (tq 11)),
   oo 85 (.load false 1 (tq 84) false),
   oo 86 (.lenS (tq 85)),
   oo 87 (.conv .u64 (tq 86)),
   oo 88 (.call 182 [((.const (.gs 1 [])),0),((tq 87),0)] []),
   oo 89 (.append 1 1 (tq 83) (tq 88)),
   oo 5 (.move (tq 89) true)])
 (.seq (.reg [oo 90 (.fieldAddr 34 (tq 11)),
   oo 91 (.load false 1 (tq 90) false),
   oo 92 (.lenS (tq 91)),
   oo 93 (.move (.const (.sc (.int .i64 0))) false)])
 (.block 6 (.loop (bl 17332218360087486649115607072 104) (bl 18380933703309326321702196467067 104)
 y7))))))
 zdX)))
def zcI:CC:=(.seq (.reg [oo 53 (.bin .lss (tq 52) (tq 51))])
 (.seq (.cond (tq 53)
 .skip
 (.seq (.mask (bl 38 104) (bl 20282409603537531194991173432703 104))
 (.exit 2)))
 (.seq (.block 3 (.seq (.reg [oo 54 (.indexAddrS 2 (tq 50) (tq 52)),
   oo 55 (.load true 2 (tq 54) false),
   oo 9 (.alloc true [(.sc (.int .i64 0)),(.gs 1 [])]),
   oz (.store 2 (tq 9) (tq 55))])
 (.seq (.reg [oo 56 (.move (tq 5) true),
   oo 57 (.fieldAddr 0 (tq 9)),
   oo 58 (.load false 1 (tq 57) false),
   oo 59 (.conv .u64 (tq 58)),
   oo 60 (.call 183 [((.const (.gs 1 [])),0),((tq 59),0)] []),
   oo 61 (.append 1 1 (tq 56) (tq 60)),
   oo 5 (.move (tq 61) true)])
 (.reg [oo 62 (.move (tq 5) true),
   oo 63 (.fieldAddr 1 (tq 9)),
   oo 64 (.load false 1 (tq 63) false),
   oo 65 (.call 184 [((.const (.gs 1 [])),0),((tq 64),0)] []),
   oo 66 (.append 1 1 (tq 62) (tq 65)),
   oo 5 (.move (tq 66) true)]))))
 (.reg [oo 67 (.bin .add (tq 52) (.const (.sc (.int .i64 1)))),
   oo 52 (.move (tq 67) false)]))))
def zhf:CC:=(.seq (.reg [oo 103 (.move (tq 5) true),
   oo 4 (.move (tq 103) true)])
 .ret)
def zdE:CC:=(.seq (.reg [oo 28 (.bin .lss (tq 27) (tq 26))])
 (.seq (.cond (tq 28)
 .skip
 (.seq (.mask (bl 38 104) (bl 20282409603651670422246444234111 104))
 (.exit 0)))
 (.seq (.block 1 (.seq (.reg [oo 29 (.indexAddrS 35 (tq 25) (tq 27)),
   oo 30 (.load true 35 (tq 29) false),
   oo 7 (.alloc true (rp 32 (.sc (.int .u8 0)) (rp 2 (.sc (.int .u32 0)) (rp 1 (.gs 1 []) [])))),
   oz (.store 35 (tq 7) (tq 30))])
 (.seq (.reg [oo 31 (.move (tq 5) true),
   oo 32 (.fieldAddr 0 (tq 7)),
   oo 33 (.load true 33 (tq 32) false),
   oo 34 (.call 137 [((tq 33),0)] []),
   oo 35 (.append 1 1 (tq 31) (tq 34)),
   oo 5 (.move (tq 35) true)])
 (.reg [oo 36 (.move (tq 5) true),
   oo 37 (.fieldAddr 33 (tq 7)),
   oo 38 (.load false 1 (tq 37) false),
   oo 39 (.call 157 [((.const (.gs 1 [])),0),((tq 38),0)] []),
   oo 40 (.append 1 1 (tq 36) (tq 39)),
   oo 5 (.move (tq 40) true)]))))
 (.reg [oo 41 (.bin .add (tq 27) (.const (.sc (.int .i64 1)))),
   oo 27 (.move (tq 41) false)]))))
def zgg:CC:=(.seq (.reg [oo 68 (.move (tq 5) true),
   oo 69 (.fieldAddr 3 (tq 2)),
   oo 70 (.load false 1 (tq 69) false),
   oo 71 (.call 157 [((.const (.gs 1 [])),0),((tq 70),0)] []),
   oo 72 (.append 1 1 (tq 68) (tq 71)),
   oo 5 (.move (tq 72) true)])
 (.seq (.seq (.reg [oo 73 (.move (tq 1) false),
   oo 74 (.un .not (tq 73))])
 (.cond (tq 74)
 (.seq (.reg [oo 75 (.move (tq 5) true),
   oo 4 (.move (tq 75) true)])
 .ret)
 .skip))
 (.seq (.seq (.reg [oo 76 (.fieldAddr 1 (tq 2)),
   oo 77 (.load false 1 (tq 76) false),
   oo 78 (.lenS (tq 77)),
   oo 79 (.move (.const (.sc (.int .i64 0))) false)])
 (.block 4 (.loop (bl 1057810092162800527867936 104) (bl 18374976116870265429129244431739 104)
 zaW)))
 zhf)))
def zh6:CC:=(.seq (.reg [oo 42 (.move (tq 5) true),
   oo 43 (.fieldAddr 2 (tq 2)),
   oo 44 (.load false 1 (tq 43) false),
   oo 45 (.lenS (tq 44)),
   oo 46 (.conv .u64 (tq 45)),
   oo 47 (.call 182 [((.const (.gs 1 [])),0),((tq 46),0)] []),
   oo 48 (.append 1 1 (tq 42) (tq 47)),
   oo 5 (.move (tq 48) true)])
 (.seq (.seq (.reg [oo 49 (.fieldAddr 2 (tq 2)),
   oo 50 (.load false 1 (tq 49) false),
   oo 51 (.lenS (tq 50)),
   oo 52 (.move (.const (.sc (.int .i64 0))) false)])
 (.block 2 (.loop (bl 7881299347898406 104) (bl 20282409603537531194991173432703 104)
 zcI)))
 zgg))
def zaG:CF:=⟨104,[.tmp 4],
 (.seq (.reg [oo 2 (.box true (tq 0)),
   oo 4 (.move (.const (.gs 1 [])) true)])
 (.seq (.reg [oo 14 (.fieldAddr 0 (tq 2)),
   oo 15 (.load false 1 (tq 14) false),
   oo 16 (.call 157 [((.const (.gs 1 [])),0),((tq 15),0)] []),
   oo 5 (.move (tq 16) true)])
 (.seq (.reg [oo 17 (.move (tq 5) true),
   oo 18 (.fieldAddr 1 (tq 2)),
   oo 19 (.load false 1 (tq 18) false),
   oo 20 (.lenS (tq 19)),
   oo 21 (.conv .u64 (tq 20)),
   oo 22 (.call 182 [((.const (.gs 1 [])),0),((tq 21),0)] []),
   oo 23 (.append 1 1 (tq 17) (tq 22)),
   oo 5 (.move (tq 23) true)])
 (.seq (.seq (.reg [oo 24 (.fieldAddr 1 (tq 2)),
   oo 25 (.load false 1 (tq 24) false),
   oo 26 (.lenS (tq 25)),
   oo 27 (.move (.const (.sc (.int .i64 0))) false)])
 (.block 0 (.loop (bl 234881062 104) (bl 20282409603651670422246444234111 104)
 zdE)))
 zh6))))⟩
def zrA:Hint:=⟨[(0,0),(0,1),(1,3),(2,0),(2,7),(5,2),(6,0),(6,5),(7,0),(7,5),(9,0),(9,7),(12,2),(13,0),(13,6),(14,0),(14,5),(16,0),(16,5),(18,0),(18,1),(21,2),(22,0),(22,7),(26,0),(26,4),(29,0),(29,1)],[],[none,some ((bl 234881062 104),(bl 20282409603651670422246444234111 104)),none,some ((bl 38 104),(bl 20282409603651670422246444234111 104)),none,none,some ((bl 7881299347898406 104),(bl 20282409603537531194991173432703 104)),none,some ((bl 38 104),(bl 20282409603537531194991173432703 104)),none,none,none,none,some ((bl 1057810092162800527867936 104),(bl 18374976116870265429129244431739 104)),none,some ((bl 32 104),(bl 18374976116870265429129244431739 104)),none,none,some ((bl 17332218360087486649115607072 104),(bl 18380933703309326321702196467067 104)),none,some ((bl 1057810092162800527867936 104),(bl 18380933703309326321702196467067 104)),none,none],[],[],false,false⟩
def zA:Nat→Sh:=xQ [(15,(.int .u32)),(19,(.sl 35)),(25,(.sl 35)),(38,(.int .u32)),(44,(.sl 2)),(50,(.sl 2)),(58,(.int .i64)),(64,(.sl 1)),(70,(.int .u32)),(77,(.sl 35)),(85,(.sl 1)),(91,(.sl 1)),(96,(.sl 1))]
def xz (ya:yj) (zb:xj) (ye:zC) (zc:zm) (yb:yk) (L:Nat):CBC:=(xy 184 (ze5 yb L) (xy 183 (zd4 zc L) (xy 137 (zoS ye L) (xy 182 (zdH zb L) (xy 157 (zcR ya L) noC)))))
def zgh:St→St:=zS 0 (bl 234881062 104) (bl 20282409603651670422246444234111 104)
def ze7:St→St:=zS 0 (bl 7881299347898406 104) (bl 20282409603537531194991173432703 104)
def zav:St→St:=zS 0 (bl 1057810092162800527867936 104) (bl 18374976116870265429129244431739 104)
def za5:St→St:=zS 0 (bl 17332218360087486649115607072 104) (bl 18380933703309326321702196467067 104)
def zeq (p1:Bool) (p5 p25:List (List V)) (p26 p27:Int) (b2:List V):St:=⟨(jn 1 ((V.sc (.bool p1))::((V.ptr 2 0)::(jn 2 ((V.gs 1 p5)::(jn 19 ((V.sl 35 p25)::((V.sc (.int .i64 p26))::((V.sc (.int .i64 p27))::(jn 76 [])))))))))),(gn 2 ((.live true b2)::(gn 101 [])))⟩
def zic (p1:Bool) (p5:List (List V)) (b2:List V):St:=⟨(jn 1 ((V.sc (.bool p1))::((V.ptr 2 0)::(jn 2 ((V.gs 1 p5)::(jn 98 [])))))),(gn 2 ((.live true b2)::(gn 101 [])))⟩
def zds (p1:Bool) (p5 p50:List (List V)) (p51 p52:Int) (b2:List V):St:=⟨(jn 1 ((V.sc (.bool p1))::((V.ptr 2 0)::(jn 2 ((V.gs 1 p5)::(jn 44 ((V.sl 2 p50)::((V.sc (.int .i64 p51))::((V.sc (.int .i64 p52))::(jn 51 [])))))))))),(gn 2 ((.live true b2)::(gn 101 [])))⟩
def zib (p1:Bool) (p5:List (List V)) (b2:List V):St:=⟨(jn 1 ((V.sc (.bool p1))::((V.ptr 2 0)::(jn 2 ((V.gs 1 p5)::(jn 98 [])))))),(gn 2 ((.live true b2)::(gn 101 [])))⟩
def zax (p5 p77:List (List V)) (p78 p79:Int):St:=⟨(jn 5 ((V.gs 1 p5)::(jn 71 ((V.sl 35 p77)::((V.sc (.int .i64 p78))::((V.sc (.int .i64 p79))::(jn 24 []))))))),(gn 104 [])⟩
def zaz (p5 p77:List (List V)) (p78 p79:Int) (p91:List (List V)) (p92 p93:Int):St:=⟨(jn 5 ((V.gs 1 p5)::(jn 71 ((V.sl 35 p77)::((V.sc (.int .i64 p78))::((V.sc (.int .i64 p79))::(jn 11 ((V.sl 1 p91)::((V.sc (.int .i64 p92))::((V.sc (.int .i64 p93))::(jn 10 []))))))))))),(gn 104 [])⟩
def zh3 (p5:List (List V)):St:=⟨(jn 5 ((V.gs 1 p5)::(jn 98 []))),(gn 104 [])⟩
def zl4 (p5 p77:List (List V)) (p78 p79:Int):St:=⟨(jn 5 ((V.gs 1 p5)::(jn 71 ((V.sl 35 p77)::((V.sc (.int .i64 p78))::((V.sc (.int .i64 p79))::(jn 24 []))))))),(gn 104 [])⟩
abbrev znA (β:Type):Type:=Bool→List (List V)→List (List V)→Int→Int→List V→Option β
abbrev zly (β:Type):Type:=Bool→List (List V)→List (List V)→Int→Int→List V→Option β
abbrev zeK (β:Type):Type:=List (List V)→List (List V)→Int→Int→List (List V)→Int→Int→Option β
def zqQ {β:Type} (ya:yj) (zb:xj) (ye:zC) (zc:zm) (yb:yk) (L:Nat) (p0:List V) (p1:Bool) (k_hbbbaba:znA β):Option β :=
 cI .u32 p0 0 fun v0 =>
 ya β L ([]:List (List V)) v0 (fun v1 =>
 cLd 35 p0 1 fun v2 =>
 lt (IntKind.wrap .u64 ((List.length v2:Nat):Int)) fun x3 =>
 zb β L ([]:List (List V)) x3 (fun v4 =>
 chk ((List.length v1+List.length v4) * 1≤yl∧List.length v1+List.length v4≤yl) (
 lt (v1++v4) fun l5 =>
 cLd 35 p0 1 fun v6 =>
 k_hbbbaba p1 l5 v6 ((List.length v6:Nat):Int) (0:Int) p0)))
theorem zyg {β:Type} (ya:yj) (zb:xj) (ye:zC) (zc:zm) (yb:yk) (L:Nat) (p0:List V) (p1:Bool) (k:KK β):zt zA (xz ya zb ye zc yb L) L zaG [(V.agg p0),(V.sc (.bool p1))] [] k=zqQ ya zb ye zc yb L p0 p1 (fun p1 p5 p25 p26 p27 b2=>xq (xf zA (xz ya zb ye zc yb L) 0 L zdE) zgh L (zeq p1 p5 p25 p26 p27 b2) (yn 0 (zy (xf zA (xz ya zb ye zc yb L) 0 L zh6) (yE 0 (CF.res zaG) k)))):=by kernel_rfl
def zjM {β:Type} (ya:yj) (zb:xj) (ye:zC) (zc:zm) (yb:yk) (L:Nat) (p1:Bool) (p5 p25:List (List V)) (p26 p27:Int) (b2:List V) (k_hbbbaba:znA β) (k_x0:Bool→List (List V)→List V→Option β):Option β :=
 ifb (decide (p27 < p26)) (
 idx p25 p27 fun c7 =>
 chk ((List.length (List.take 35 c7))=35∧0+35≤35) (
 lt (zr (List.replicate 32 (V.sc (.int .u8 (0:Int)))++[(V.sc (.int .u32 (0:Int))),(V.sc (.int .u32 (0:Int))),(V.gs 1 ([]:List (List V)))]) 0 (List.take 35 c7)) fun r8 =>
 chk (0+33≤(List.length r8)) (
 ye β L (List.take 33 r8) (fun v9 =>
 chk ((List.length p5+List.length v9) * 1≤yl∧List.length p5+List.length v9≤yl) (
 lt (p5++v9) fun l10 =>
 cI .u32 r8 33 fun v11 =>
 ya β L ([]:List (List V)) v11 (fun v12 =>
 chk ((List.length l10+List.length v12) * 1≤yl∧List.length l10+List.length v12≤yl) (
 lt (l10++v12) fun l13 =>
 lt (IntKind.wrap .i64 ((p27:Int)+(1:Int))) fun x14 =>
 k_hbbbaba p1 l13 p25 p26 x14 b2))))))) (
 k_x0 p1 p5 b2)
theorem zsy {β:Type} (ya:yj) (zb:xj) (ye:zC) (zc:zm) (yb:yk) (L:Nat) (p1:Bool) (p5 p25:List (List V)) (p26 p27:Int) (b2:List V) (X:St→Option β) (K:KT β):xf zA (xz ya zb ye zc yb L) 0 L zdE (zeq p1 p5 p25 p26 p27 b2) (yN zgh X K)=zjM ya zb ye zc yb L p1 p5 p25 p26 p27 b2 (fun p1 p5 p25 p26 p27 b2=>X (zeq p1 p5 p25 p26 p27 b2)) (fun p1 p5 b2=>K (.exit 0) (zic p1 p5 b2)):=by kernel_rfl
def zhK {β:Type} (ya:yj) (zb:xj) (ye:zC) (zc:zm) (yb:yk) (L:Nat) (p1:Bool) (p5:List (List V)) (b2:List V) (k_hbbbbbaba:zly β):Option β :=
 cLd 2 b2 2 fun v15 =>
 lt (IntKind.wrap .u64 ((List.length v15:Nat):Int)) fun x16 =>
 zb β L ([]:List (List V)) x16 (fun v17 =>
 chk ((List.length p5+List.length v17) * 1≤yl∧List.length p5+List.length v17≤yl) (
 lt (p5++v17) fun l18 =>
 cLd 2 b2 2 fun v19 =>
 k_hbbbbbaba p1 l18 v19 ((List.length v19:Nat):Int) (0:Int) b2))
theorem zrc {β:Type} (ya:yj) (zb:xj) (ye:zC) (zc:zm) (yb:yk) (L:Nat) (p1:Bool) (p5:List (List V)) (b2:List V) (k:KK β):(yn 0 (zy (xf zA (xz ya zb ye zc yb L) 0 L zh6) (yE 0 (CF.res zaG) k))) (.exit 0) (zic p1 p5 b2)=zhK ya zb ye zc yb L p1 p5 b2 (fun p1 p5 p50 p51 p52 b2=>xq (xf zA (xz ya zb ye zc yb L) 0 L zcI) ze7 L (zds p1 p5 p50 p51 p52 b2) (yn 2 (zy (xf zA (xz ya zb ye zc yb L) 0 L zgg) (yE 0 (CF.res zaG) k)))):=by kernel_rfl
def zhN {β:Type} (ya:yj) (zb:xj) (ye:zC) (zc:zm) (yb:yk) (L:Nat) (p1:Bool) (p5 p50:List (List V)) (p51 p52:Int) (b2:List V) (k_hbbbbbaba:zly β) (k_x2:Bool→List (List V)→List V→Option β):Option β :=
 ifb (decide (p52 < p51)) (
 idx p50 p52 fun c20 =>
 chk ((List.length (List.take 2 c20))=2∧0+2≤2) (
 lt (zr [(V.sc (.int .i64 (0:Int))),(V.gs 1 ([]:List (List V)))] 0 (List.take 2 c20)) fun r21 =>
 cI .i64 r21 0 fun v22 =>
 lt (IntKind.wrap .u64 v22) fun x23 =>
 zc β L ([]:List (List V)) x23 (fun v24 =>
 chk ((List.length p5+List.length v24) * 1≤yl∧List.length p5+List.length v24≤yl) (
 lt (p5++v24) fun l25 =>
 cLd 1 r21 1 fun v26 =>
 yb β L ([]:List (List V)) v26 (fun v27 =>
 chk ((List.length l25+List.length v27) * 1≤yl∧List.length l25+List.length v27≤yl) (
 lt (l25++v27) fun l28 =>
 lt (IntKind.wrap .i64 ((p52:Int)+(1:Int))) fun x29 =>
 k_hbbbbbaba p1 l28 p50 p51 x29 b2)))))) (
 k_x2 p1 p5 b2)
theorem zra {β:Type} (ya:yj) (zb:xj) (ye:zC) (zc:zm) (yb:yk) (L:Nat) (p1:Bool) (p5 p50:List (List V)) (p51 p52:Int) (b2:List V) (X:St→Option β) (K:KT β):xf zA (xz ya zb ye zc yb L) 0 L zcI (zds p1 p5 p50 p51 p52 b2) (yN ze7 X K)=zhN ya zb ye zc yb L p1 p5 p50 p51 p52 b2 (fun p1 p5 p50 p51 p52 b2=>X (zds p1 p5 p50 p51 p52 b2)) (fun p1 p5 b2=>K (.exit 2) (zib p1 p5 b2)):=by kernel_rfl
def zgo {β:Type} (ya:yj) (zb:xj) (ye:zC) (zc:zm) (yb:yk) (L:Nat) (p1:Bool) (p5:List (List V)) (b2:List V) (k_fin:List (List V)→Option β) (k_hbbbbbbbbaba:List (List V)→List (List V)→Int→Int→Option β):Option β :=
 cI .u32 b2 3 fun v30 =>
 ya β L ([]:List (List V)) v30 (fun v31 =>
 chk ((List.length p5+List.length v31) * 1≤yl∧List.length p5+List.length v31≤yl) (
 lt (p5++v31) fun l32 =>
 ifb (!p1) (
 k_fin l32) (
 cLd 35 b2 1 fun v33 =>
 k_hbbbbbbbbaba l32 v33 ((List.length v33:Nat):Int) (0:Int))))
theorem zpo {β:Type} (ya:yj) (zb:xj) (ye:zC) (zc:zm) (yb:yk) (L:Nat) (p1:Bool) (p5:List (List V)) (b2:List V) (k:KK β):(yn 2 (zy (xf zA (xz ya zb ye zc yb L) 0 L zgg) (yE 0 (CF.res zaG) k))) (.exit 2) (zib p1 p5 b2)=zgo ya zb ye zc yb L p1 p5 b2 (fun p0=>k (V.gs 1 p0) []) (fun p5 p77 p78 p79=>xq (xf zA (xz ya zb ye zc yb L) 0 L zaW) zav L (zax p5 p77 p78 p79) (yn 4 (zy (xf zA (xz ya zb ye zc yb L) 0 L zhf) (yE 0 (CF.res zaG) k)))):=by kernel_rfl
def zfU {β:Type} (ya:yj) (zb:xj) (ye:zC) (zc:zm) (yb:yk) (L:Nat) (p5 p77:List (List V)) (p78 p79:Int) (k_hbbbbbbbbabaabbaabbba:zeK β) (k_x4:List (List V)→Option β):Option β :=
 ifb (decide (p79 < p78)) (
 idx p77 p79 fun c34 =>
 chk ((List.length (List.take 35 c34))=35∧0+35≤35) (
 lt (zr (List.replicate 32 (V.sc (.int .u8 (0:Int)))++[(V.sc (.int .u32 (0:Int))),(V.sc (.int .u32 (0:Int))),(V.gs 1 ([]:List (List V)))]) 0 (List.take 35 c34)) fun r35 =>
 cLd 1 r35 34 fun v36 =>
 lt (IntKind.wrap .u64 ((List.length v36:Nat):Int)) fun x37 =>
 zb β L ([]:List (List V)) x37 (fun v38 =>
 chk ((List.length p5+List.length v38) * 1≤yl∧List.length p5+List.length v38≤yl) (
 lt (p5++v38) fun l39 =>
 cLd 1 r35 34 fun v40 =>
 k_hbbbbbbbbabaabbaabbba l39 p77 p78 p79 v40 ((List.length v40:Nat):Int) (0:Int))))) (
 k_x4 p5)
theorem zoU {β:Type} (ya:yj) (zb:xj) (ye:zC) (zc:zm) (yb:yk) (L:Nat) (p5 p77:List (List V)) (p78 p79:Int) (X:St→Option β) (K:KT β):xf zA (xz ya zb ye zc yb L) 0 L zaW (zax p5 p77 p78 p79) (yN zav X K)=zfU ya zb ye zc yb L p5 p77 p78 p79 (fun p5 p77 p78 p79 p91 p92 p93=>xq (xf zA (xz ya zb ye zc yb L) 0 L y7) za5 L (zaz p5 p77 p78 p79 p91 p92 p93) (yn 6 (yn 5 (zy (xf zA (xz ya zb ye zc yb L) 0 L zdX) (yN zav X K))))) (fun p5=>K (.exit 4) (zh3 p5)):=by kernel_rfl
def zeJ {β:Type} (ya:yj) (zb:xj) (ye:zC) (zc:zm) (yb:yk) (L:Nat) (p5:List (List V)) (k_fin:List (List V)→Option β):Option β :=
 k_fin p5
theorem znV {β:Type} (ya:yj) (zb:xj) (ye:zC) (zc:zm) (yb:yk) (L:Nat) (p5:List (List V)) (k:KK β):(yn 4 (zy (xf zA (xz ya zb ye zc yb L) 0 L zhf) (yE 0 (CF.res zaG) k))) (.exit 4) (zh3 p5)=zeJ ya zb ye zc yb L p5 (fun p0=>k (V.gs 1 p0) []):=by kernel_rfl
def zcw {β:Type} (ya:yj) (zb:xj) (ye:zC) (zc:zm) (yb:yk) (L:Nat) (p5 p77:List (List V)) (p78 p79:Int) (p91:List (List V)) (p92 p93:Int) (k_hbbbbbbbbabaabbaabbba:zeK β) (k_x6:List (List V)→List (List V)→Int→Int→Option β):Option β :=
 ifb (decide (p93 < p92)) (
 idx p91 p93 fun c41 =>
 cL 1 c41 0 fun v42 =>
 yb β L ([]:List (List V)) v42 (fun v43 =>
 chk ((List.length p5+List.length v43) * 1≤yl∧List.length p5+List.length v43≤yl) (
 lt (p5++v43) fun l44 =>
 lt (IntKind.wrap .i64 ((p93:Int)+(1:Int))) fun x45 =>
 k_hbbbbbbbbabaabbaabbba l44 p77 p78 p79 p91 p92 x45))) (
 k_x6 p5 p77 p78 p79)
theorem zjW {β:Type} (ya:yj) (zb:xj) (ye:zC) (zc:zm) (yb:yk) (L:Nat) (p5 p77:List (List V)) (p78 p79:Int) (p91:List (List V)) (p92 p93:Int) (X:St→Option β) (K:KT β):xf zA (xz ya zb ye zc yb L) 0 L y7 (zaz p5 p77 p78 p79 p91 p92 p93) (yN za5 X K)=zcw ya zb ye zc yb L p5 p77 p78 p79 p91 p92 p93 (fun p5 p77 p78 p79 p91 p92 p93=>X (zaz p5 p77 p78 p79 p91 p92 p93)) (fun p5 p77 p78 p79=>K (.exit 6) (zl4 p5 p77 p78 p79)):=by kernel_rfl
def zb6 {β:Type} (ya:yj) (zb:xj) (ye:zC) (zc:zm) (yb:yk) (L:Nat) (p5 p77:List (List V)) (p78 p79:Int) (k_hbbbbbbbbaba:List (List V)→List (List V)→Int→Int→Option β):Option β :=
 lt (IntKind.wrap .i64 ((p79:Int)+(1:Int))) fun x46 =>
 k_hbbbbbbbbaba p5 p77 p78 x46
theorem zjb {β:Type} (ya:yj) (zb:xj) (ye:zC) (zc:zm) (yb:yk) (L:Nat) (p5 p77:List (List V)) (p78 p79:Int) (X:St→Option β) (K:KT β):(yn 6 (yn 5 (zy (xf zA (xz ya zb ye zc yb L) 0 L zdX) (yN zav X K)))) (.exit 6) (zl4 p5 p77 p78 p79)=zb6 ya zb ye zc yb L p5 p77 p78 p79 (fun p5 p77 p78 p79=>X (zax p5 p77 p78 p79)):=by kernel_rfl
def zed {β:Type} (ya:yj) (zb:xj) (ye:zC) (zc:zm) (yb:yk) (L:Nat) (k_x0:Bool→List (List V)→List V→Option β):Nat→Bool→List (List V)→List (List V)→Int→Int→List V→Option β
 | 0,_,_,_,_,_,_=>none
 | n+1,p1,p5,p25,p26,p27,b2=>zjM ya zb ye zc yb L p1 p5 p25 p26 p27 b2 (fun p1 p5 p25 p26 p27 b2=>zed ya zb ye zc yb L k_x0 n p1 p5 p25 p26 p27 b2) k_x0
theorem zl1 {β:Type} (ya:yj) (zb:xj) (ye:zC) (zc:zm) (yb:yk) (L:Nat) (K:KT β):∀ (n:Nat) (p1:Bool) (p5 p25:List (List V)) (p26 p27:Int) (b2:List V),xq (xf zA (xz ya zb ye zc yb L) 0 L zdE) zgh n (zeq p1 p5 p25 p26 p27 b2) K=zed ya zb ye zc yb L (fun p1 p5 b2=>K (.exit 0) (zic p1 p5 b2)) n p1 p5 p25 p26 p27 b2:=by
 intro n
 induction n with
 | zero=>intros; rfl
 | succ n ih =>
  intro p1 p5 p25 p26 p27 b2
  refine (zsy ya zb ye zc yb L p1 p5 p25 p26 p27 b2 (fun σ=>xq (xf zA (xz ya zb ye zc yb L) 0 L zdE) zgh n σ K) K).trans ?_
  simp only [ih]
  rfl
def zc8 {β:Type} (ya:yj) (zb:xj) (ye:zC) (zc:zm) (yb:yk) (L:Nat) (k_x2:Bool→List (List V)→List V→Option β):Nat→Bool→List (List V)→List (List V)→Int→Int→List V→Option β
 | 0,_,_,_,_,_,_=>none
 | n+1,p1,p5,p50,p51,p52,b2=>zhN ya zb ye zc yb L p1 p5 p50 p51 p52 b2 (fun p1 p5 p50 p51 p52 b2=>zc8 ya zb ye zc yb L k_x2 n p1 p5 p50 p51 p52 b2) k_x2
theorem zj1 {β:Type} (ya:yj) (zb:xj) (ye:zC) (zc:zm) (yb:yk) (L:Nat) (K:KT β):∀ (n:Nat) (p1:Bool) (p5 p50:List (List V)) (p51 p52:Int) (b2:List V),xq (xf zA (xz ya zb ye zc yb L) 0 L zcI) ze7 n (zds p1 p5 p50 p51 p52 b2) K=zc8 ya zb ye zc yb L (fun p1 p5 b2=>K (.exit 2) (zib p1 p5 b2)) n p1 p5 p50 p51 p52 b2:=by
 intro n
 induction n with
 | zero=>intros; rfl
 | succ n ih =>
  intro p1 p5 p50 p51 p52 b2
  refine (zra ya zb ye zc yb L p1 p5 p50 p51 p52 b2 (fun σ=>xq (xf zA (xz ya zb ye zc yb L) 0 L zcI) ze7 n σ K) K).trans ?_
  simp only [ih]
  rfl
def zal {β:Type} (ya:yj) (zb:xj) (ye:zC) (zc:zm) (yb:yk) (L:Nat) (k_x6:List (List V)→List (List V)→Int→Int→Option β):Nat→List (List V)→List (List V)→Int→Int→List (List V)→Int→Int→Option β
 | 0,_,_,_,_,_,_,_=>none
 | n+1,p5,p77,p78,p79,p91,p92,p93=>zcw ya zb ye zc yb L p5 p77 p78 p79 p91 p92 p93 (fun p5 p77 p78 p79 p91 p92 p93=>zal ya zb ye zc yb L k_x6 n p5 p77 p78 p79 p91 p92 p93) k_x6
theorem zee {β:Type} (ya:yj) (zb:xj) (ye:zC) (zc:zm) (yb:yk) (L:Nat) (K:KT β):∀ (n:Nat) (p5 p77:List (List V)) (p78 p79:Int) (p91:List (List V)) (p92 p93:Int),xq (xf zA (xz ya zb ye zc yb L) 0 L y7) za5 n (zaz p5 p77 p78 p79 p91 p92 p93) K=zal ya zb ye zc yb L (fun p5 p77 p78 p79=>K (.exit 6) (zl4 p5 p77 p78 p79)) n p5 p77 p78 p79 p91 p92 p93:=by
 intro n
 induction n with
 | zero=>intros; rfl
 | succ n ih =>
  intro p5 p77 p78 p79 p91 p92 p93
  refine (zjW ya zb ye zc yb L p5 p77 p78 p79 p91 p92 p93 (fun σ=>xq (xf zA (xz ya zb ye zc yb L) 0 L y7) za5 n σ K) K).trans ?_
  simp only [ih]
  rfl
def zc2 {β:Type} (ya:yj) (zb:xj) (ye:zC) (zc:zm) (yb:yk) (L:Nat) (p5 p77:List (List V)) (p78 p79:Int) (k_x4:List (List V)→Option β) (k_hbbbbbbbbaba:List (List V)→List (List V)→Int→Int→Option β):Option β :=
 zfU ya zb ye zc yb L p5 p77 p78 p79 (fun p5 p77 p78 p79 p91 p92 p93=>zal ya zb ye zc yb L (fun p5 p77 p78 p79=>zb6 ya zb ye zc yb L p5 p77 p78 p79 k_hbbbbbbbbaba) L p5 p77 p78 p79 p91 p92 p93) k_x4
theorem zn7 {β:Type} (ya:yj) (zb:xj) (ye:zC) (zc:zm) (yb:yk) (L:Nat) (p5 p77:List (List V)) (p78 p79:Int) (X:St→Option β) (K:KT β):xf zA (xz ya zb ye zc yb L) 0 L zaW (zax p5 p77 p78 p79) (yN zav X K)=zc2 ya zb ye zc yb L p5 p77 p78 p79 (fun p5=>K (.exit 4) (zh3 p5)) (fun p5 p77 p78 p79=>X (zax p5 p77 p78 p79)):=by
 refine (zoU ya zb ye zc yb L p5 p77 p78 p79 X K).trans ?_
 unfold zc2
 first
  | (simp only [zee,zjb]; done)
  | (simp only [zee]; rfl)
def zb5 {β:Type} (ya:yj) (zb:xj) (ye:zC) (zc:zm) (yb:yk) (L:Nat) (k_x4:List (List V)→Option β):Nat→List (List V)→List (List V)→Int→Int→Option β
 | 0,_,_,_,_=>none
 | n+1,p5,p77,p78,p79=>zc2 ya zb ye zc yb L p5 p77 p78 p79 k_x4 (fun p5 p77 p78 p79=>zb5 ya zb ye zc yb L k_x4 n p5 p77 p78 p79)
theorem zhY {β:Type} (ya:yj) (zb:xj) (ye:zC) (zc:zm) (yb:yk) (L:Nat) (K:KT β):∀ (n:Nat) (p5 p77:List (List V)) (p78 p79:Int),xq (xf zA (xz ya zb ye zc yb L) 0 L zaW) zav n (zax p5 p77 p78 p79) K=zb5 ya zb ye zc yb L (fun p5=>K (.exit 4) (zh3 p5)) n p5 p77 p78 p79:=by
 intro n
 induction n with
 | zero=>intros; rfl
 | succ n ih =>
  intro p5 p77 p78 p79
  refine (zn7 ya zb ye zc yb L p5 p77 p78 p79 (fun σ=>xq (xf zA (xz ya zb ye zc yb L) 0 L zaW) zav n σ K) K).trans ?_
  simp only [ih]
  rfl
def zdo {β:Type} (ya:yj) (zb:xj) (ye:zC) (zc:zm) (yb:yk) (L:Nat) (p1:Bool) (p5:List (List V)) (b2:List V) (k_fin:List (List V)→Option β):Option β :=
 zgo ya zb ye zc yb L p1 p5 b2 k_fin (fun p5 p77 p78 p79=>zb5 ya zb ye zc yb L (fun p5=>zeJ ya zb ye zc yb L p5 k_fin) L p5 p77 p78 p79)
theorem zoX {β:Type} (ya:yj) (zb:xj) (ye:zC) (zc:zm) (yb:yk) (L:Nat) (p1:Bool) (p5:List (List V)) (b2:List V) (k:KK β):(yn 2 (zy (xf zA (xz ya zb ye zc yb L) 0 L zgg) (yE 0 (CF.res zaG) k))) (.exit 2) (zib p1 p5 b2)=zdo ya zb ye zc yb L p1 p5 b2 (fun p0=>k (V.gs 1 p0) []):=by
 refine (zpo ya zb ye zc yb L p1 p5 b2 k).trans ?_
 unfold zdo
 first
  | (simp only [zhY,znV]; done)
  | (simp only [zhY]; rfl)
def zel {β:Type} (ya:yj) (zb:xj) (ye:zC) (zc:zm) (yb:yk) (L:Nat) (p1:Bool) (p5:List (List V)) (b2:List V) (k_fin:List (List V)→Option β):Option β :=
 zhK ya zb ye zc yb L p1 p5 b2 (fun p1 p5 p50 p51 p52 b2=>zc8 ya zb ye zc yb L (fun p1 p5 b2=>zdo ya zb ye zc yb L p1 p5 b2 k_fin) L p1 p5 p50 p51 p52 b2)
theorem zp0 {β:Type} (ya:yj) (zb:xj) (ye:zC) (zc:zm) (yb:yk) (L:Nat) (p1:Bool) (p5:List (List V)) (b2:List V) (k:KK β):(yn 0 (zy (xf zA (xz ya zb ye zc yb L) 0 L zh6) (yE 0 (CF.res zaG) k))) (.exit 0) (zic p1 p5 b2)=zel ya zb ye zc yb L p1 p5 b2 (fun p0=>k (V.gs 1 p0) []):=by
 refine (zrc ya zb ye zc yb L p1 p5 b2 k).trans ?_
 unfold zel
 first
  | (simp only [zj1,zoX]; done)
  | (simp only [zj1]; rfl)
def zno {β:Type} (ya:yj) (zb:xj) (ye:zC) (zc:zm) (yb:yk) (L:Nat) (p0:List V) (p1:Bool) (k_fin:List (List V)→Option β):Option β :=
 zqQ ya zb ye zc yb L p0 p1 (fun p1 p5 p25 p26 p27 b2=>zed ya zb ye zc yb L (fun p1 p5 b2=>zel ya zb ye zc yb L p1 p5 b2 k_fin) L p1 p5 p25 p26 p27 b2)
theorem zyE {β:Type} (ya:yj) (zb:xj) (ye:zC) (zc:zm) (yb:yk) (L:Nat) (p0:List V) (p1:Bool) (k:KK β):zt zA (xz ya zb ye zc yb L) L zaG [(V.agg p0),(V.sc (.bool p1))] [] k=zno ya zb ye zc yb L p0 p1 (fun p0=>k (V.gs 1 p0) []):=by
 refine (zyg ya zb ye zc yb L p0 p1 k).trans ?_
 unfold zno
 first
  | (simp only [zl1,zp0]; done)
  | (simp only [zl1]; rfl)
abbrev zx:=∀ (β:Type),Nat→List V→Bool→(List (List V)→Option β)→Option β
def yd (β:Type) (L:Nat) (p0:List V) (p1:Bool) (k_fin:List (List V)→Option β):Option β:=zno ya zb ye zc yb L p0 p1 k_fin
def zhu (yd:zx) (L:Nat) (β:Type) (args:List V) (bor:Bor) (k:KK β):Option β:=match args,bor with
 | [a0,a1],[]=>aG a0 fun p0=>aB a1 fun p1=>yd β L p0 p1 (fun p0=>k (V.gs 1 p0) [])
 | _,_=>none
theorem zyc (L:Nat) (β:Type) (args:List V) (bor:Bor) (k:KK β) (r:β) (h:zhu yd L β args bor k=some r):zt zA (xz ya zb ye zc yb L) L zaG args bor k=some r:=by
 unfold zhu at h
 split at h
 ·have q:=zaj h; clear h; obtain ⟨p0,rfl,h⟩:=q
  have q:=zlA h; clear h; obtain ⟨p1,rfl,h⟩:=q
  exact (zyE ya zb ye zc yb L p0 p1 k).trans h
 ·cases h
def zbh:CC:=(.seq (.reg [oo 51 (.bin .lss (tq 50) (tq 49))])
 (.seq (.cond (tq 51)
 .skip
 (.seq (.mask (bl 962072674306 63) (bl 9187343239835811499 63))
 (.exit 4)))
 (.seq (.block 5 (.seq (.reg [oo 52 (.indexAddrS 1 (tq 48) (tq 50)),
   oo 53 (.load false 1 (tq 52) false),
   oo 8 (.move (tq 53) false)])
 (.seq (.reg [oo 54 (.move (tq 8) false),
   oo 55 (.lenS (tq 54)),
   oo 56 (.bin .gtr (tq 55) (.const (.sc (.int .i64 520))))])
 (.cond (tq 56)
 (.seq (.reg [oo 2 (.move (.const (.sc (.bool false))) false)])
 (.seq (.mask (bl 4 63) (bl 9186745105510301357 63))
 .ret))
 .skip))))
 (.reg [oo 57 (.bin .add (tq 50) (.const (.sc (.int .i64 1)))),
   oo 50 (.move (tq 57) false)]))))
def ze0:CC:=(.reg [oo 58 (.bin .add (tq 39) (.const (.sc (.int .i64 1)))),
   oo 39 (.move (tq 58) false)])
def zda:CC:=(.seq (.reg [oo 40 (.bin .lss (tq 39) (tq 38))])
 (.seq (.cond (tq 40)
 .skip
 (.seq (.mask (bl 2 63) (bl 9186745105510301355 63))
 (.exit 2)))
 (.seq (.block 3 (.seq (.reg [oo 41 (.indexAddrS 35 (tq 37) (tq 39)),
   oo 42 (.load true 35 (tq 41) false),
   oo 6 (.alloc true (rp 32 (.sc (.int .u8 0)) (rp 2 (.sc (.int .u32 0)) (rp 1 (.gs 1 []) [])))),
   oz (.store 35 (tq 6) (tq 42))])
 (.seq (.seq (.reg [oo 43 (.fieldAddr 34 (tq 6)),
   oo 44 (.load false 1 (tq 43) false),
   oo 45 (.lenS (tq 44)),
   oo 46 (.bin .gtr (tq 45) (.const (.sc (.int .i64 32))))])
 (.cond (tq 46)
 (.seq (.reg [oo 2 (.move (.const (.sc (.bool false))) false)])
 (.seq (.mask (bl 4 63) (bl 9186745105510301357 63))
 .ret))
 .skip))
 (.seq (.reg [oo 47 (.fieldAddr 34 (tq 6)),
   oo 48 (.load false 1 (tq 47) false),
   oo 49 (.lenS (tq 48)),
   oo 50 (.move (.const (.sc (.int .i64 0))) false)])
 (.block 4 (.loop (bl 1971286909648898 63) (bl 9187343239835811499 63)
 zbh))))))
 ze0)))
def zfu:CC:=(.seq (.reg [oo 23 (.bin .lss (tq 22) (tq 21))])
 (.seq (.cond (tq 23)
 .skip
 (.seq (.mask (bl 2 63) (bl 9223372032559808427 63))
 (.exit 0)))
 (.seq (.block 1 (.seq (.reg [oo 24 (.indexAddrS 2 (tq 20) (tq 22)),
   oo 25 (.load true 2 (tq 24) false),
   oo 4 (.alloc true [(.sc (.int .i64 0)),(.gs 1 [])]),
   oz (.store 2 (tq 4) (tq 25))])
 (.seq (.reg [oo 26 (.fieldAddr 0 (tq 4)),
   oo 27 (.load false 1 (tq 26) false),
   oo 28 (.bin .lss (tq 27) (.const (.sc (.int .i64 0)))),
   oo 29 (.move (tq 28) false),
   ⟨(some 30),false,(some (29,false)),.fieldAddr 1 (tq 4)⟩,
   ⟨(some 31),false,(some (29,false)),.load false 1 (tq 30) false⟩,
   ⟨(some 32),false,(some (29,false)),.lenS (tq 31)⟩,
   ⟨(some 33),false,(some (29,false)),.bin .gtr (tq 32) (.const (.sc (.int .i64 520)))⟩,
   oo 34 (.pick (tq 29) (.const (.sc (.bool true))) (tq 33))])
 (.cond (tq 34)
 (.seq (.reg [oo 2 (.move (.const (.sc (.bool false))) false)])
 (.seq (.mask (bl 4 63) (bl 9223372032559808429 63))
 .ret))
 .skip))))
 (.reg [oo 35 (.bin .add (tq 22) (.const (.sc (.int .i64 1)))),
   oo 22 (.move (tq 35) false)]))))
def zkq:CC:=(.seq (.reg [oo 59 (.load true 4 (tq 1) false),
   oo 60 (.call 147 [((tq 59),1),((.const (.sc (.bool true))),0)] []),
   oo 61 (.lenS (tq 60)),
   oo 62 (.bin .leq (tq 61) (.const (.sc (.int .i64 20000)))),
   oo 2 (.move (tq 62) false)])
 .ret)
def zir:CC:=(.seq (.seq (.reg [oo 36 (.fieldAddr 1 (tq 1)),
   oo 37 (.load false 1 (tq 36) false),
   oo 38 (.lenS (tq 37)),
   oo 39 (.move (.const (.sc (.int .i64 0))) false)])
 (.block 2 (.loop (bl 962072674306 63) (bl 9186745105510301355 63)
 zda)))
 zkq)
def zcc:CF:=⟨63,[.tmp 2],
 (.seq (.reg [oo 1 (.box true (tq 0)),
   oo 2 (.move (.const (.sc (.bool false))) false)])
 (.seq (.seq (.reg [oo 9 (.fieldAddr 1 (tq 1)),
   oo 10 (.load false 1 (tq 9) false),
   oo 11 (.lenS (tq 10)),
   oo 12 (.bin .gtr (tq 11) (.const (.sc (.int .i64 64)))),
   oo 13 (.move (tq 12) false),
   ⟨(some 14),false,(some (13,false)),.fieldAddr 2 (tq 1)⟩,
   ⟨(some 15),false,(some (13,false)),.load false 1 (tq 14) false⟩,
   ⟨(some 16),false,(some (13,false)),.lenS (tq 15)⟩,
   ⟨(some 17),false,(some (13,false)),.bin .gtr (tq 16) (.const (.sc (.int .i64 64)))⟩,
   oo 18 (.pick (tq 13) (.const (.sc (.bool true))) (tq 17))])
 (.cond (tq 18)
 (.seq (.reg [oo 2 (.move (.const (.sc (.bool false))) false)])
 .ret)
 .skip))
 (.seq (.seq (.reg [oo 19 (.fieldAddr 2 (tq 1)),
   oo 20 (.load false 1 (tq 19) false),
   oo 21 (.lenS (tq 20)),
   oo 22 (.move (.const (.sc (.int .i64 0))) false)])
 (.block 0 (.loop (bl 7340034 63) (bl 9223372032559808427 63)
 zfu)))
 zir)))⟩
def zt3:Hint:=⟨[(0,0),(5,2),(11,2)],[],[none,none,none,some ((bl 7340034 63),(bl 9223372032559808427 63)),none,some ((bl 2 63),(bl 9223372032559808427 63)),none,none,some ((bl 4 63),(bl 9223372032559808429 63)),none,some ((bl 962072674306 63),(bl 9186745105510301355 63)),none,some ((bl 2 63),(bl 9186745105510301355 63)),none,none,some ((bl 4 63),(bl 9186745105510301357 63)),none,some ((bl 1971286909648898 63),(bl 9187343239835811499 63)),none,some ((bl 962072674306 63),(bl 9187343239835811499 63)),none,none,some ((bl 4 63),(bl 9186745105510301357 63)),none],[],[],false,false⟩
def xM:Nat→Sh:=xQ [(10,(.sl 35)),(15,(.sl 2)),(20,(.sl 2)),(27,(.int .i64)),(31,(.sl 1)),(37,(.sl 35)),(44,(.sl 1)),(48,(.sl 1)),(53,(.sl 1))]
def zM (yd:zx) (L:Nat):CBC:=(xy 147 (zhu yd L) noC)
def zjr:St→St:=zS 0 (bl 7340034 63) (bl 9223372032559808427 63)
def zbP:St→St:=zS 0 (bl 962072674306 63) (bl 9186745105510301355 63)
def zcK:St→St:=zS 0 (bl 1971286909648898 63) (bl 9187343239835811499 63)
def zgc (p20:List (List V)) (p21 p22:Int) (b1:List V):St:=⟨(jn 1 ((V.ptr 1 0)::(jn 18 ((V.sl 2 p20)::((V.sc (.int .i64 p21))::((V.sc (.int .i64 p22))::(jn 40 []))))))),(gn 1 ((.live true b1)::(gn 61 [])))⟩
def zaF (p2:Bool):St:=⟨(jn 2 ((V.sc (.bool p2))::(jn 60 []))),(gn 63 [])⟩
def zkt (b1:List V):St:=⟨(jn 1 ((V.ptr 1 0)::(jn 61 []))),(gn 1 ((.live true b1)::(gn 61 [])))⟩
def zcl (p37:List (List V)) (p38 p39:Int) (b1:List V):St:=⟨(jn 1 ((V.ptr 1 0)::(jn 35 ((V.sl 35 p37)::((V.sc (.int .i64 p38))::((V.sc (.int .i64 p39))::(jn 23 []))))))),(gn 1 ((.live true b1)::(gn 61 [])))⟩
def zbR (p37:List (List V)) (p38 p39:Int) (p48:List (List V)) (p49 p50:Int) (b1:List V):St:=⟨(jn 1 ((V.ptr 1 0)::(jn 35 ((V.sl 35 p37)::((V.sc (.int .i64 p38))::((V.sc (.int .i64 p39))::(jn 8 ((V.sl 1 p48)::((V.sc (.int .i64 p49))::((V.sc (.int .i64 p50))::(jn 12 []))))))))))),(gn 1 ((.live true b1)::(gn 61 [])))⟩
def zkl (b1:List V):St:=⟨(jn 1 ((V.ptr 1 0)::(jn 61 []))),(gn 1 ((.live true b1)::(gn 61 [])))⟩
def znY (p37:List (List V)) (p38 p39:Int) (b1:List V):St:=⟨(jn 1 ((V.ptr 1 0)::(jn 35 ((V.sl 35 p37)::((V.sc (.int .i64 p38))::((V.sc (.int .i64 p39))::(jn 23 []))))))),(gn 1 ((.live true b1)::(gn 61 [])))⟩
abbrev zhW (β:Type):Type:=List (List V)→Int→Int→List (List V)→Int→Int→List V→Option β
def zt1 {β:Type} (yd:zx) (L:Nat) (p0:List V) (k_fin:Bool→Option β) (k_hbbaba:List (List V)→Int→Int→List V→Option β):Option β :=
 cLd 35 p0 1 fun v0 =>
 ifb (decide (((List.length v0:Nat):Int) > (64:Int))) (
 k_fin false) (
 cLd 2 p0 2 fun v1 =>
 ifb (decide (((List.length v1:Nat):Int) > (64:Int))) (
 k_fin false) (
 cLd 2 p0 2 fun v2 =>
 k_hbbaba v2 ((List.length v2:Nat):Int) (0:Int) p0))
theorem zz2 {β:Type} (yd:zx) (L:Nat) (p0:List V) (k:KK β):zt xM (zM yd L) L zcc [(V.agg p0)] [] k=zt1 yd L p0 (fun p0=>k (V.sc (.bool p0)) []) (fun p20 p21 p22 b1=>xq (xf xM (zM yd L) 0 L zfu) zjr L (zgc p20 p21 p22 b1) (yn 0 (zy (xf xM (zM yd L) 0 L zir) (yE 0 (CF.res zcc) k)))):=by kernel_rfl
def zmR {β:Type} (yd:zx) (L:Nat) (p20:List (List V)) (p21 p22:Int) (b1:List V) (k_ret:Bool→Option β) (k_hbbaba:List (List V)→Int→Int→List V→Option β) (k_x0:List V→Option β):Option β :=
 ifb (decide (p22 < p21)) (
 idx p20 p22 fun c3 =>
 chk ((List.length (List.take 2 c3))=2∧0+2≤2) (
 lt (zr [(V.sc (.int .i64 (0:Int))),(V.gs 1 ([]:List (List V)))] 0 (List.take 2 c3)) fun r4 =>
 cI .i64 r4 0 fun v5 =>
 ifb (decide (v5 < (0:Int))) (
 k_ret false) (
 cLd 1 r4 1 fun v6 =>
 ifb (decide (((List.length v6:Nat):Int) > (520:Int))) (
 k_ret false) (
 lt (IntKind.wrap .i64 ((p22:Int)+(1:Int))) fun x7 =>
 k_hbbaba p20 p21 x7 b1)))) (
 k_x0 b1)
theorem zvr {β:Type} (yd:zx) (L:Nat) (p20:List (List V)) (p21 p22:Int) (b1:List V) (X:St→Option β) (K:KT β):xf xM (zM yd L) 0 L zfu (zgc p20 p21 p22 b1) (yN zjr X K)=zmR yd L p20 p21 p22 b1 (fun p2=>K .ret (zaF p2)) (fun p20 p21 p22 b1=>X (zgc p20 p21 p22 b1)) (fun b1=>K (.exit 0) (zkt b1)):=by kernel_rfl
def zjH {β:Type} (yd:zx) (L:Nat) (p2:Bool) (k_fin:Bool→Option β):Option β :=
 k_fin p2
theorem zsI {β:Type} (yd:zx) (L:Nat) (p2:Bool) (k:KK β):(yn 0 (zy (xf xM (zM yd L) 0 L zir) (yE 0 (CF.res zcc) k))) .ret (zaF p2)=zjH yd L p2 (fun p0=>k (V.sc (.bool p0)) []):=by kernel_rfl
def zkM {β:Type} (yd:zx) (L:Nat) (b1:List V) (k_hbbbaba:List (List V)→Int→Int→List V→Option β):Option β :=
 cLd 35 b1 1 fun v8 =>
 k_hbbbaba v8 ((List.length v8:Nat):Int) (0:Int) b1
theorem ztw {β:Type} (yd:zx) (L:Nat) (b1:List V) (k:KK β):(yn 0 (zy (xf xM (zM yd L) 0 L zir) (yE 0 (CF.res zcc) k))) (.exit 0) (zkt b1)=zkM yd L b1 (fun p37 p38 p39 b1=>xq (xf xM (zM yd L) 0 L zda) zbP L (zcl p37 p38 p39 b1) (yn 2 (zy (xf xM (zM yd L) 0 L zkq) (yE 0 (CF.res zcc) k)))):=by kernel_rfl
def zll {β:Type} (yd:zx) (L:Nat) (p37:List (List V)) (p38 p39:Int) (b1:List V) (k_ret:Bool→Option β) (k_hbbbabaabbaabbba:zhW β) (k_x2:List V→Option β):Option β :=
 ifb (decide (p39 < p38)) (
 idx p37 p39 fun c9 =>
 chk ((List.length (List.take 35 c9))=35∧0+35≤35) (
 lt (zr (List.replicate 32 (V.sc (.int .u8 (0:Int)))++[(V.sc (.int .u32 (0:Int))),(V.sc (.int .u32 (0:Int))),(V.gs 1 ([]:List (List V)))]) 0 (List.take 35 c9)) fun r10 =>
 cLd 1 r10 34 fun v11 =>
 ifb (decide (((List.length v11:Nat):Int) > (32:Int))) (
 k_ret false) (
 cLd 1 r10 34 fun v12 =>
 k_hbbbabaabbaabbba p37 p38 p39 v12 ((List.length v12:Nat):Int) (0:Int) b1))) (
 k_x2 b1)
theorem ztP {β:Type} (yd:zx) (L:Nat) (p37:List (List V)) (p38 p39:Int) (b1:List V) (X:St→Option β) (K:KT β):xf xM (zM yd L) 0 L zda (zcl p37 p38 p39 b1) (yN zbP X K)=zll yd L p37 p38 p39 b1 (fun p2=>K .ret (zaF p2)) (fun p37 p38 p39 p48 p49 p50 b1=>xq (xf xM (zM yd L) 0 L zbh) zcK L (zbR p37 p38 p39 p48 p49 p50 b1) (yn 4 (yn 3 (zy (xf xM (zM yd L) 0 L ze0) (yN zbP X K))))) (fun b1=>K (.exit 2) (zkl b1)):=by kernel_rfl
def zi2 {β:Type} (yd:zx) (L:Nat) (p2:Bool) (k_fin:Bool→Option β):Option β :=
 k_fin p2
theorem zrE {β:Type} (yd:zx) (L:Nat) (p2:Bool) (k:KK β):(yn 2 (zy (xf xM (zM yd L) 0 L zkq) (yE 0 (CF.res zcc) k))) .ret (zaF p2)=zi2 yd L p2 (fun p0=>k (V.sc (.bool p0)) []):=by kernel_rfl
def zjN {β:Type} (yd:zx) (L:Nat) (b1:List V) (k_fin:Bool→Option β):Option β :=
 chk (0+4≤(List.length b1)) (
 yd β L (List.map V.dem (List.take 4 b1)) true (fun v13 =>
 k_fin (decide (((List.length v13:Nat):Int)≤(20000:Int)))))
theorem zsJ {β:Type} (yd:zx) (L:Nat) (b1:List V) (k:KK β):(yn 2 (zy (xf xM (zM yd L) 0 L zkq) (yE 0 (CF.res zcc) k))) (.exit 2) (zkl b1)=zjN yd L b1 (fun p0=>k (V.sc (.bool p0)) []):=by kernel_rfl
def zeM {β:Type} (yd:zx) (L:Nat) (p37:List (List V)) (p38 p39:Int) (p48:List (List V)) (p49 p50:Int) (b1:List V) (k_ret:Bool→Option β) (k_hbbbabaabbaabbba:zhW β) (k_x4:List (List V)→Int→Int→List V→Option β):Option β :=
 ifb (decide (p50 < p49)) (
 idx p48 p50 fun c14 =>
 cL 1 c14 0 fun v15 =>
 ifb (decide (((List.length v15:Nat):Int) > (520:Int))) (
 k_ret false) (
 lt (IntKind.wrap .i64 ((p50:Int)+(1:Int))) fun x16 =>
 k_hbbbabaabbaabbba p37 p38 p39 p48 p49 x16 b1)) (
 k_x4 p37 p38 p39 b1)
theorem znx {β:Type} (yd:zx) (L:Nat) (p37:List (List V)) (p38 p39:Int) (p48:List (List V)) (p49 p50:Int) (b1:List V) (X:St→Option β) (K:KT β):xf xM (zM yd L) 0 L zbh (zbR p37 p38 p39 p48 p49 p50 b1) (yN zcK X K)=zeM yd L p37 p38 p39 p48 p49 p50 b1 (fun p2=>K .ret (zaF p2)) (fun p37 p38 p39 p48 p49 p50 b1=>X (zbR p37 p38 p39 p48 p49 p50 b1)) (fun p37 p38 p39 b1=>K (.exit 4) (znY p37 p38 p39 b1)):=by kernel_rfl
def zdG {β:Type} (yd:zx) (L:Nat) (p2:Bool) (k_ret:Bool→Option β):Option β :=
 k_ret p2
theorem zls {β:Type} (yd:zx) (L:Nat) (p2:Bool) (X:St→Option β) (K:KT β):(yn 4 (yn 3 (zy (xf xM (zM yd L) 0 L ze0) (yN zbP X K)))) .ret (zaF p2)=zdG yd L p2 (fun p2=>K .ret (zaF p2)):=by kernel_rfl
def zdY {β:Type} (yd:zx) (L:Nat) (p37:List (List V)) (p38 p39:Int) (b1:List V) (k_hbbbaba:List (List V)→Int→Int→List V→Option β):Option β :=
 lt (IntKind.wrap .i64 ((p39:Int)+(1:Int))) fun x17 =>
 k_hbbbaba p37 p38 x17 b1
theorem zmt {β:Type} (yd:zx) (L:Nat) (p37:List (List V)) (p38 p39:Int) (b1:List V) (X:St→Option β) (K:KT β):(yn 4 (yn 3 (zy (xf xM (zM yd L) 0 L ze0) (yN zbP X K)))) (.exit 4) (znY p37 p38 p39 b1)=zdY yd L p37 p38 p39 b1 (fun p37 p38 p39 b1=>X (zcl p37 p38 p39 b1)):=by kernel_rfl
def zgs {β:Type} (yd:zx) (L:Nat) (k_ret:Bool→Option β) (k_x0:List V→Option β):Nat→List (List V)→Int→Int→List V→Option β
 | 0,_,_,_,_=>none
 | n+1,p20,p21,p22,b1=>zmR yd L p20 p21 p22 b1 k_ret (fun p20 p21 p22 b1=>zgs yd L k_ret k_x0 n p20 p21 p22 b1) k_x0
theorem zoq {β:Type} (yd:zx) (L:Nat) (K:KT β):∀ (n:Nat) (p20:List (List V)) (p21 p22:Int) (b1:List V),xq (xf xM (zM yd L) 0 L zfu) zjr n (zgc p20 p21 p22 b1) K=zgs yd L (fun p2=>K .ret (zaF p2)) (fun b1=>K (.exit 0) (zkt b1)) n p20 p21 p22 b1:=by
 intro n
 induction n with
 | zero=>intros; rfl
 | succ n ih =>
  intro p20 p21 p22 b1
  refine (zvr yd L p20 p21 p22 b1 (fun σ=>xq (xf xM (zM yd L) 0 L zfu) zjr n σ K) K).trans ?_
  simp only [ih]
  rfl
def zbq {β:Type} (yd:zx) (L:Nat) (k_ret:Bool→Option β) (k_x4:List (List V)→Int→Int→List V→Option β):Nat→List (List V)→Int→Int→List (List V)→Int→Int→List V→Option β
 | 0,_,_,_,_,_,_,_=>none
 | n+1,p37,p38,p39,p48,p49,p50,b1=>zeM yd L p37 p38 p39 p48 p49 p50 b1 k_ret (fun p37 p38 p39 p48 p49 p50 b1=>zbq yd L k_ret k_x4 n p37 p38 p39 p48 p49 p50 b1) k_x4
theorem zgH {β:Type} (yd:zx) (L:Nat) (K:KT β):∀ (n:Nat) (p37:List (List V)) (p38 p39:Int) (p48:List (List V)) (p49 p50:Int) (b1:List V),xq (xf xM (zM yd L) 0 L zbh) zcK n (zbR p37 p38 p39 p48 p49 p50 b1) K=zbq yd L (fun p2=>K .ret (zaF p2)) (fun p37 p38 p39 b1=>K (.exit 4) (znY p37 p38 p39 b1)) n p37 p38 p39 p48 p49 p50 b1:=by
 intro n
 induction n with
 | zero=>intros; rfl
 | succ n ih =>
  intro p37 p38 p39 p48 p49 p50 b1
  refine (znx yd L p37 p38 p39 p48 p49 p50 b1 (fun σ=>xq (xf xM (zM yd L) 0 L zbh) zcK n σ K) K).trans ?_
  simp only [ih]
  rfl
def zg6 {β:Type} (yd:zx) (L:Nat) (p37:List (List V)) (p38 p39:Int) (b1:List V) (k_ret:Bool→Option β) (k_x2:List V→Option β) (k_hbbbaba:List (List V)→Int→Int→List V→Option β):Option β :=
 zll yd L p37 p38 p39 b1 k_ret (fun p37 p38 p39 p48 p49 p50 b1=>zbq yd L (fun p2=>zdG yd L p2 k_ret) (fun p37 p38 p39 b1=>zdY yd L p37 p38 p39 b1 k_hbbbaba) L p37 p38 p39 p48 p49 p50 b1) k_x2
theorem ztz {β:Type} (yd:zx) (L:Nat) (p37:List (List V)) (p38 p39:Int) (b1:List V) (X:St→Option β) (K:KT β):xf xM (zM yd L) 0 L zda (zcl p37 p38 p39 b1) (yN zbP X K)=zg6 yd L p37 p38 p39 b1 (fun p2=>K .ret (zaF p2)) (fun b1=>K (.exit 2) (zkl b1)) (fun p37 p38 p39 b1=>X (zcl p37 p38 p39 b1)):=by
 refine (ztP yd L p37 p38 p39 b1 X K).trans ?_
 unfold zg6
 first
  | (simp only [zgH,zls,zmt]; done)
  | (simp only [zgH]; rfl)
def zfw {β:Type} (yd:zx) (L:Nat) (k_ret:Bool→Option β) (k_x2:List V→Option β):Nat→List (List V)→Int→Int→List V→Option β
 | 0,_,_,_,_=>none
 | n+1,p37,p38,p39,b1=>zg6 yd L p37 p38 p39 b1 k_ret k_x2 (fun p37 p38 p39 b1=>zfw yd L k_ret k_x2 n p37 p38 p39 b1)
theorem znP {β:Type} (yd:zx) (L:Nat) (K:KT β):∀ (n:Nat) (p37:List (List V)) (p38 p39:Int) (b1:List V),xq (xf xM (zM yd L) 0 L zda) zbP n (zcl p37 p38 p39 b1) K=zfw yd L (fun p2=>K .ret (zaF p2)) (fun b1=>K (.exit 2) (zkl b1)) n p37 p38 p39 b1:=by
 intro n
 induction n with
 | zero=>intros; rfl
 | succ n ih =>
  intro p37 p38 p39 b1
  refine (ztz yd L p37 p38 p39 b1 (fun σ=>xq (xf xM (zM yd L) 0 L zda) zbP n σ K) K).trans ?_
  simp only [ih]
  rfl
def zf3 {β:Type} (yd:zx) (L:Nat) (b1:List V) (k_fin:Bool→Option β):Option β :=
 zkM yd L b1 (fun p37 p38 p39 b1=>zfw yd L (fun p2=>zi2 yd L p2 k_fin) (fun b1=>zjN yd L b1 k_fin) L p37 p38 p39 b1)
theorem zsz {β:Type} (yd:zx) (L:Nat) (b1:List V) (k:KK β):(yn 0 (zy (xf xM (zM yd L) 0 L zir) (yE 0 (CF.res zcc) k))) (.exit 0) (zkt b1)=zf3 yd L b1 (fun p0=>k (V.sc (.bool p0)) []):=by
 refine (ztw yd L b1 k).trans ?_
 unfold zf3
 first
  | (simp only [znP,zrE,zsJ]; done)
  | (simp only [znP]; rfl)
def zqt {β:Type} (yd:zx) (L:Nat) (p0:List V) (k_fin:Bool→Option β):Option β :=
 zt1 yd L p0 k_fin (fun p20 p21 p22 b1=>zgs yd L (fun p2=>zjH yd L p2 k_fin) (fun b1=>zf3 yd L b1 k_fin) L p20 p21 p22 b1)
theorem zA9 {β:Type} (yd:zx) (L:Nat) (p0:List V) (k:KK β):zt xM (zM yd L) L zcc [(V.agg p0)] [] k=zqt yd L p0 (fun p0=>k (V.sc (.bool p0)) []):=by
 refine (zz2 yd L p0 k).trans ?_
 unfold zqt
 first
  | (simp only [zoq,zsI,zsz]; done)
  | (simp only [zoq]; rfl)
abbrev zac:=∀ (β:Type),Nat→List V→(Bool→Option β)→Option β
def yo (β:Type) (L:Nat) (p0:List V) (k_fin:Bool→Option β):Option β:=zqt yd L p0 k_fin
def zkV (yo:zac) (L:Nat) (β:Type) (args:List V) (bor:Bor) (k:KK β):Option β:=match args,bor with
 | [a0],[]=>aG a0 fun p0=>yo β L p0 (fun p0=>k (V.sc (.bool p0)) [])
 | _,_=>none
theorem zz6 (L:Nat) (β:Type) (args:List V) (bor:Bor) (k:KK β) (r:β) (h:zkV yo L β args bor k=some r):zt xM (zM yd L) L zcc args bor k=some r:=by
 unfold zkV at h
 split at h
 ·have q:=zaj h; clear h; obtain ⟨p0,rfl,h⟩:=q
  exact (zA9 yd L p0 k).trans h
 ·cases h
def zmm:CF:=⟨12,[.tmp 4,.tmp 5],
 (.seq (.reg [oo 2 (.box true (tq 0)),
   oo 4 (.move (.const (.gs 1 [])) true),
   oo 5 (.move (.const (.sc (.int .i64 0))) false)])
 (.seq (.seq (.reg [oo 6 (.load true 4 (tq 2) false),
   oo 7 (.call 146 [((tq 6),1)] []),
   oo 8 (.un .not (tq 7))])
 (.cond (tq 8)
 (.seq (.reg [oo 4 (.move (.const (.gs 1 [])) true),
   oo 5 (.move (.const (.sc (.int .i64 4))) false)])
 .ret)
 .skip))
 (.seq (.reg [oo 9 (.load true 4 (tq 2) false),
   oo 10 (.move (tq 1) false),
   oo 11 (.call 147 [((tq 9),1),((tq 10),0)] []),
   oo 4 (.move (tq 11) true),
   oo 5 (.move (.const (.sc (.int .i64 0))) false)])
 .ret)))⟩
def zr0:Hint:=⟨[(0,0),(0,1),(2,0),(3,3)],[],[none,none,none],[],[],false,false⟩
def zpV:Nat→Sh:=xQ []
def zpE (yo:zac) (yd:zx) (L:Nat):CBC:=(xy 147 (zhu yd L) (xy 146 (zkV yo L) noC))
def zri {β:Type} (yo:zac) (yd:zx) (L:Nat) (p0:List V) (p1:Bool) (k_fin:List (List V)→Int→Option β):Option β :=
 chk (0+4≤(List.length p0)) (
 yo β L (List.map V.dem (List.take 4 p0)) (fun v0 =>
 ifb (!v0) (
 k_fin ([]:List (List V)) (4:Int)) (
 chk (0+4≤(List.length p0)) (
 yd β L (List.map V.dem (List.take 4 p0)) p1 (fun v1 =>
 k_fin v1 (0:Int))))))
theorem zyz {β:Type} (yo:zac) (yd:zx) (L:Nat) (p0:List V) (p1:Bool) (k:KK β):zt zpV (zpE yo yd L) L zmm [(V.agg p0),(V.sc (.bool p1))] [] k=zri yo yd L p0 p1 (fun zHk zHl=>k (V.tup [(V.gs 1 zHk),(V.sc (.int .i64 zHl))]) []):=by kernel_rfl
abbrev zf2:=∀ (β:Type),Nat→List V→Bool→(List (List V)→Int→Option β)→Option β
def zH (β:Type) (L:Nat) (p0:List V) (p1:Bool) (k_fin:List (List V)→Int→Option β):Option β:=zri yo yd L p0 p1 k_fin
def zj7 (zH:zf2) (L:Nat) (β:Type) (args:List V) (bor:Bor) (k:KK β):Option β:=match args,bor with
 | [a0,a1],[]=>aG a0 fun p0=>aB a1 fun p1=>zH β L p0 p1 (fun zHk zHl=>k (V.tup [(V.gs 1 zHk),(V.sc (.int .i64 zHl))]) [])
 | _,_=>none
theorem zyf (L:Nat) (β:Type) (args:List V) (bor:Bor) (k:KK β) (r:β) (h:zj7 zH L β args bor k=some r):zt zpV (zpE yo yd L) L zmm args bor k=some r:=by
 unfold zj7 at h
 split at h
 ·have q:=zaj h; clear h; obtain ⟨p0,rfl,h⟩:=q
  have q:=zlA h; clear h; obtain ⟨p1,rfl,h⟩:=q
  exact (zyz yo yd L p0 p1 k).trans h
 ·cases h
def zlo:CF:=⟨14,[.tmp 2],
 (.seq (.reg [oo 1 (.box true (tq 0)),
   oo 2 (.move (.const (.sc (.int .i64 0))) false)])
 (.seq (.seq (.reg [oo 3 (.load true 4 (tq 1) false),
   oo 4 (.call 146 [((tq 3),1)] []),
   oo 5 (.un .not (tq 4))])
 (.cond (tq 5)
 (.seq (.reg [oo 2 (.move (.const (.sc (.int .i64 0))) false)])
 .ret)
 .skip))
 (.seq (.dreg [] [(oo 6 (.load true 4 (tq 1) false),ql 1 [] []),
   (oo 7 (.call 147 [((tq 6),1),((.const (.sc (.bool false))),0)] []),qc [1] []),
   (oo 8 (.lenS (tq 7)),q0),
   (oo 9 (.bin .mul (.const (.sc (.int .i64 3))) (tq 8)),q0),
   (oo 10 (.load true 4 (tq 1) false),ql 1 [] []),
   (oo 11 (.call 147 [((tq 10),1),((.const (.sc (.bool true))),0)] []),q0),
   (oo 12 (.lenS (tq 11)),q0),
   (oo 13 (.bin .add (tq 9) (tq 12)),q0),
   (oo 2 (.move (tq 13) false),q0)])
 .ret)))⟩
def zr3:Hint:=⟨[(0,0)],[],[none,none,none],[],[],false,false⟩
def zpt:Nat→Sh:=xQ []
def zpr (yo:zac) (yd:zx) (L:Nat):CBC:=(xy 147 (zhu yd L) (xy 146 (zkV yo L) noC))
def zq2 {β:Type} (yo:zac) (yd:zx) (L:Nat) (p0:List V) (k_fin:Int→Option β):Option β :=
 chk (0+4≤(List.length p0)) (
 yo β L (List.map V.dem (List.take 4 p0)) (fun v0 =>
 ifb (!v0) (
 k_fin (0:Int)) (
 chk (0+4≤(List.length p0)) (
 yd β L (List.map V.dem (List.take 4 p0)) false (fun v1 =>
 lt (IntKind.wrap .i64 (((3:Int):Int) * ((List.length v1:Nat):Int))) fun x2 =>
 chk (0+4≤(List.length p0)) (
 yd β L (List.map V.dem (List.take 4 p0)) true (fun v3 =>
 lt (IntKind.wrap .i64 ((x2:Int)+((List.length v3:Nat):Int))) fun x4 =>
 k_fin x4)))))))
theorem zx6 {β:Type} (yo:zac) (yd:zx) (L:Nat) (p0:List V) (k:KK β):zt zpt (zpr yo yd L) L zlo [(V.agg p0)] [] k=zq2 yo yd L p0 (fun p0=>k (V.sc (.int .i64 p0)) []):=by kernel_rfl
abbrev zfT:=∀ (β:Type),Nat→List V→(Int→Option β)→Option β
def xH (β:Type) (L:Nat) (p0:List V) (k_fin:Int→Option β):Option β:=zq2 yo yd L p0 k_fin
def zj4 (xH:zfT) (L:Nat) (β:Type) (args:List V) (bor:Bor) (k:KK β):Option β:=match args,bor with
 | [a0],[]=>aG a0 fun p0=>xH β L p0 (fun p0=>k (V.sc (.int .i64 p0)) [])
 | _,_=>none
theorem zyb (L:Nat) (β:Type) (args:List V) (bor:Bor) (k:KK β) (r:β) (h:zj4 xH L β args bor k=some r):zt zpt (zpr yo yd L) L zlo args bor k=some r:=by
 unfold zj4 at h
 split at h
 ·have q:=zaj h; clear h; obtain ⟨p0,rfl,h⟩:=q
  exact (zx6 yo yd L p0 k).trans h
 ·cases h
def zeL:CC:=(.seq (.reg [oo 9 (.bin .lss (tq 8) (tq 7))])
 (.seq (.cond (tq 9)
 .skip
 (.seq (.mask (bl 0 22) (bl 4194259 22))
 (.exit 0)))
 (.seq (.block 1 (.seq (.reg [oo 10 (.indexAddrS 2 (tq 6) (tq 8)),
   oo 11 (.load true 2 (tq 10) false),
   oo 5 (.alloc true [(.sc (.int .i64 0)),(.gs 1 [])]),
   oz (.store 2 (tq 5) (tq 11))])
 (.seq (.seq (.reg [oo 12 (.fieldAddr 0 (tq 5)),
   oo 13 (.load false 1 (tq 12) false),
   oo 14 (.move (tq 3) false),
   oo 15 (.bin .sub (.const (.sc (.int .i64 2100000000000000))) (tq 14)),
   oo 16 (.bin .gtr (tq 13) (tq 15))])
 (.cond (tq 16)
 (.seq (.reg [oo 2 (.move (.const (.sc (.bool false))) false)])
 (.seq (.mask (bl 4 22) (bl 4194263 22))
 .ret))
 .skip))
 (.reg [oo 17 (.move (tq 3) false),
   oo 18 (.fieldAddr 0 (tq 5)),
   oo 19 (.load false 1 (tq 18) false),
   oo 20 (.bin .add (tq 17) (tq 19)),
   oo 3 (.move (tq 20) false)]))))
 (.reg [oo 21 (.bin .add (tq 8) (.const (.sc (.int .i64 1)))),
   oo 8 (.move (tq 21) false)]))))
def zko:CC:=(.seq (.reg [oo 2 (.move (.const (.sc (.bool true))) false)])
 .ret)
def zeB:CF:=⟨22,[.tmp 2],
 (.seq (.reg [oo 2 (.move (.const (.sc (.bool false))) false)])
 (.seq (.reg [oo 3 (.move (.const (.sc (.int .i64 0))) false)])
 (.seq (.seq (.reg [oo 6 (.move (tq 0) false),
   oo 7 (.lenS (tq 6)),
   oo 8 (.move (.const (.sc (.int .i64 0))) false)])
 (.block 0 (.loop (bl 456 22) (bl 4194267 22)
 zeL)))
 zko)))⟩
def ztf:Hint:=⟨[(4,2)],[],[none,some ((bl 456 22),(bl 4194267 22)),none,some ((bl 0 22),(bl 4194259 22)),none,none,some ((bl 4 22),(bl 4194263 22)),none],[],[],false,false⟩
def zb9:Nat→Sh:=xQ [(13,(.int .i64)),(19,(.int .i64))]
def zb1 (L:Nat):CBC:=noC
def zig:St→St:=zS 0 (bl 456 22) (bl 4194267 22)
def zfx (p3:Int) (p6:List (List V)) (p7 p8:Int):St:=⟨(jn 3 ((V.sc (.int .i64 p3))::(jn 2 ((V.sl 2 p6)::((V.sc (.int .i64 p7))::((V.sc (.int .i64 p8))::(jn 13 []))))))),(gn 22 [])⟩
def zlG (p2:Bool):St:=⟨(jn 2 ((V.sc (.bool p2))::(jn 19 []))),(gn 22 [])⟩
def zmE:St:=⟨(jn 22 []),(gn 22 [])⟩
def zwX {β:Type} (L:Nat) (p0:List (List V)) (k_hbbaba:Int→List (List V)→Int→Int→Option β):Option β :=
 k_hbbaba (0:Int) p0 ((List.length p0:Nat):Int) (0:Int)
theorem zzH {β:Type} (L:Nat) (p0:List (List V)) (k:KK β):zt zb9 (zb1 L) L zeB [(V.sl 2 p0)] [] k=zwX L p0 (fun p3 p6 p7 p8=>xq (xf zb9 (zb1 L) 0 L zeL) zig L (zfx p3 p6 p7 p8) (yn 0 (zy (xf zb9 (zb1 L) 0 L zko) (yE 0 (CF.res zeB) k)))):=by kernel_rfl
def zqe {β:Type} (L:Nat) (p3:Int) (p6:List (List V)) (p7 p8:Int) (k_ret:Bool→Option β) (k_hbbaba:Int→List (List V)→Int→Int→Option β) (k_x0:Option β):Option β :=
 ifb (decide (p8 < p7)) (
 idx p6 p8 fun c0 =>
 chk ((List.length (List.take 2 c0))=2∧0+2≤2) (
 lt (zr [(V.sc (.int .i64 (0:Int))),(V.gs 1 ([]:List (List V)))] 0 (List.take 2 c0)) fun r1 =>
 cI .i64 r1 0 fun v2 =>
 lt (IntKind.wrap .i64 (((2100000000000000:Int):Int) - p3)) fun x3 =>
 ifb (decide (v2 > x3)) (
 k_ret false) (
 cI .i64 r1 0 fun v4 =>
 lt (IntKind.wrap .i64 ((p3:Int)+v4)) fun x5 =>
 lt (IntKind.wrap .i64 ((p8:Int)+(1:Int))) fun x6 =>
 k_hbbaba x5 p6 p7 x6))) (
 k_x0)
theorem ztV {β:Type} (L:Nat) (p3:Int) (p6:List (List V)) (p7 p8:Int) (X:St→Option β) (K:KT β):xf zb9 (zb1 L) 0 L zeL (zfx p3 p6 p7 p8) (yN zig X K)=zqe L p3 p6 p7 p8 (fun p2=>K .ret (zlG p2)) (fun p3 p6 p7 p8=>X (zfx p3 p6 p7 p8)) (K (.exit 0) (zmE)):=by kernel_rfl
def znO {β:Type} (L:Nat) (p2:Bool) (k_fin:Bool→Option β):Option β :=
 k_fin p2
theorem zrX {β:Type} (L:Nat) (p2:Bool) (k:KK β):(yn 0 (zy (xf zb9 (zb1 L) 0 L zko) (yE 0 (CF.res zeB) k))) .ret (zlG p2)=znO L p2 (fun p0=>k (V.sc (.bool p0)) []):=by kernel_rfl
def zop {β:Type} (L:Nat) (k_fin:Bool→Option β):Option β :=
 k_fin true
theorem zsQ {β:Type} (L:Nat) (k:KK β):(yn 0 (zy (xf zb9 (zb1 L) 0 L zko) (yE 0 (CF.res zeB) k))) (.exit 0) (zmE)=zop L (fun p0=>k (V.sc (.bool p0)) []):=by kernel_rfl
def zlT {β:Type} (L:Nat) (k_ret:Bool→Option β) (k_x0:Option β):Nat→Int→List (List V)→Int→Int→Option β
 | 0,_,_,_,_=>none
 | n+1,p3,p6,p7,p8=>zqe L p3 p6 p7 p8 k_ret (fun p3 p6 p7 p8=>zlT L k_ret k_x0 n p3 p6 p7 p8) k_x0
theorem znK {β:Type} (L:Nat) (K:KT β):∀ (n:Nat) (p3:Int) (p6:List (List V)) (p7 p8:Int),xq (xf zb9 (zb1 L) 0 L zeL) zig n (zfx p3 p6 p7 p8) K=zlT L (fun p2=>K .ret (zlG p2)) (K (.exit 0) (zmE)) n p3 p6 p7 p8:=by
 intro n
 induction n with
 | zero=>intros; rfl
 | succ n ih =>
  intro p3 p6 p7 p8
  refine (ztV L p3 p6 p7 p8 (fun σ=>xq (xf zb9 (zb1 L) 0 L zeL) zig n σ K) K).trans ?_
  simp only [ih]
  rfl
def zsC {β:Type} (L:Nat) (p0:List (List V)) (k_fin:Bool→Option β):Option β :=
 zwX L p0 (fun p3 p6 p7 p8=>zlT L (fun p2=>znO L p2 k_fin) (zop L k_fin) L p3 p6 p7 p8)
theorem zzy {β:Type} (L:Nat) (p0:List (List V)) (k:KK β):zt zb9 (zb1 L) L zeB [(V.sl 2 p0)] [] k=zsC L p0 (fun p0=>k (V.sc (.bool p0)) []):=by
 refine (zzH L p0 k).trans ?_
 unfold zsC
 first
  | (simp only [znK,zrX,zsQ]; done)
  | (simp only [znK]; rfl)
abbrev zbg:=∀ (β:Type),Nat→List (List V)→(Bool→Option β)→Option β
def xv (β:Type) (L:Nat) (p0:List (List V)) (k_fin:Bool→Option β):Option β:=zsC L p0 k_fin
def zoD (xv:zbg) (L:Nat) (β:Type) (args:List V) (bor:Bor) (k:KK β):Option β:=match args,bor with
 | [a0],[]=>aL 2 a0 fun p0=>xv β L p0 (fun p0=>k (V.sc (.bool p0)) [])
 | _,_=>none
theorem zzo (L:Nat) (β:Type) (args:List V) (bor:Bor) (k:KK β) (r:β) (h:zoD xv L β args bor k=some r):zt zb9 (zb1 L) L zeB args bor k=some r:=by
 unfold zoD at h
 split at h
 ·have q:=za2 h; clear h; obtain ⟨p0,rfl,h⟩:=q
  exact (zzy L p0 k).trans h
 ·cases h
def zoC:CF:=⟨6,[.tmp 2],
 (.seq (.reg [oo 1 (.box true (tq 0)),
   oo 2 (.move (.const (.sc (.bool false))) false)])
 (.seq (.reg [oo 3 (.load true 33 (tq 1) false),
   oo 4 (.build (rp 32 (.sc (.int .u8 0)) (rp 1 (.sc (.int .u32 0)) [])) [(32,1,(.const (.sc (.int .u32 4294967295))))]),
   oo 5 (.eqAgg false 33 (tq 3) (tq 4)),
   oo 2 (.move (tq 5) false)])
 .ret))⟩
def zt7:Hint:=⟨[],[],[none],[],[],false,false⟩
def zsv:Nat→Sh:=xQ []
def zsx (L:Nat):CBC:=noC
def zua {β:Type} (L:Nat) (p0:List V) (k_fin:Bool→Option β):Option β :=
 chk (0+33≤(List.length p0)) (
 eqC 33 (List.take 33 p0) (List.replicate 32 (V.sc (.int .u8 (0:Int)))++[(V.sc (.int .u32 (4294967295:Int)))]) fun v0 =>
 k_fin v0)
theorem zBe {β:Type} (L:Nat) (p0:List V) (k:KK β):zt zsv (zsx L) L zoC [(V.agg p0)] [] k=zua L p0 (fun p0=>k (V.sc (.bool p0)) []):=by kernel_rfl
abbrev zqq:=∀ (β:Type),Nat→List V→(Bool→Option β)→Option β
def zaT (β:Type) (L:Nat) (p0:List V) (k_fin:Bool→Option β):Option β:=zua L p0 k_fin
def zqE (zaT:zqq) (L:Nat) (β:Type) (args:List V) (bor:Bor) (k:KK β):Option β:=match args,bor with
 | [a0],[]=>aG a0 fun p0=>zaT β L p0 (fun p0=>k (V.sc (.bool p0)) [])
 | _,_=>none
theorem zAh (L:Nat) (β:Type) (args:List V) (bor:Bor) (k:KK β) (r:β) (h:zqE zaT L β args bor k=some r):zt zsv (zsx L) L zoC args bor k=some r:=by
 unfold zqE at h
 split at h
 ·have q:=zaj h; clear h; obtain ⟨p0,rfl,h⟩:=q
  exact (zBe L p0 k).trans h
 ·cases h
def zjz:CF:=⟨15,[.tmp 2],
 (.seq (.reg [oo 1 (.box true (tq 0)),
   oo 2 (.move (.const (.sc (.bool false))) false)])
 (.seq (.reg [oo 3 (.fieldAddr 1 (tq 1)),
   oo 4 (.load false 1 (tq 3) false),
   oo 5 (.lenS (tq 4)),
   oo 6 (.bin .eql (tq 5) (.const (.sc (.int .i64 1)))),
   oo 7 (.move (tq 6) false),
   ⟨(some 8),false,(some (7,true)),.fieldAddr 1 (tq 1)⟩,
   ⟨(some 9),false,(some (7,true)),.load false 1 (tq 8) false⟩,
   ⟨(some 10),false,(some (7,true)),.indexAddrS 35 (tq 9) (.const (.sc (.int .i64 0)))⟩,
   ⟨(some 11),false,(some (7,true)),.fieldAddr 0 (tq 10)⟩,
   ⟨(some 12),false,(some (7,true)),.load true 33 (tq 11) false⟩,
   ⟨(some 13),false,(some (7,true)),.call 188 [((tq 12),0)] []⟩,
   oo 14 (.pick (tq 7) (tq 13) (.const (.sc (.bool false)))),
   oo 2 (.move (tq 14) false)])
 .ret))⟩
def zpn:Hint:=⟨[(0,0)],[],[none],[],[],false,false⟩
def zm3:Nat→Sh:=xQ [(4,(.sl 35)),(9,(.sl 35))]
def zmM (zaT:zqq) (L:Nat):CBC:=(xy 188 (zqE zaT L) noC)
def znZ {β:Type} (zaT:zqq) (L:Nat) (p0:List V) (k_fin:Bool→Option β):Option β :=
 cLd 35 p0 1 fun v0 =>
 ifb ((((List.length v0:Nat):Int):Int) == (1:Int)) (
 cLd 35 p0 1 fun v1 =>
 idx v1 (0:Int) fun c2 =>
 zaT β L (List.take 33 c2) (fun v3 =>
 k_fin v3)) (
 k_fin false)
theorem zwn {β:Type} (zaT:zqq) (L:Nat) (p0:List V) (k:KK β):zt zm3 (zmM zaT L) L zjz [(V.agg p0)] [] k=znZ zaT L p0 (fun p0=>k (V.sc (.bool p0)) []):=by kernel_rfl
abbrev zR:=∀ (β:Type),Nat→List V→(Bool→Option β)→Option β
def yi (β:Type) (L:Nat) (p0:List V) (k_fin:Bool→Option β):Option β:=znZ zaT L p0 k_fin
def zhs (yi:zR) (L:Nat) (β:Type) (args:List V) (bor:Bor) (k:KK β):Option β:=match args,bor with
 | [a0],[]=>aG a0 fun p0=>yi β L p0 (fun p0=>k (V.sc (.bool p0)) [])
 | _,_=>none
theorem zwo (L:Nat) (β:Type) (args:List V) (bor:Bor) (k:KK β) (r:β) (h:zhs yi L β args bor k=some r):zt zm3 (zmM zaT L) L zjz args bor k=some r:=by
 unfold zhs at h
 split at h
 ·have q:=zaj h; clear h; obtain ⟨p0,rfl,h⟩:=q
  exact (zwn zaT L p0 k).trans h
 ·cases h
def zc6:CC:=(.seq (.reg [oo 28 (.bin .lss (tq 27) (tq 26))])
 (.seq (.cond (tq 28)
 .skip
 (.seq (.mask (bl 10 47) (bl 140737488355291 47))
 (.exit 0)))
 (.seq (.block 1 (.seq (.reg [oo 29 (.indexAddrS 35 (tq 25) (tq 27)),
   oo 30 (.load true 35 (tq 29) false),
   oo 5 (.alloc true (rp 32 (.sc (.int .u8 0)) (rp 2 (.sc (.int .u32 0)) (rp 1 (.gs 1 []) [])))),
   oz (.store 35 (tq 5) (tq 30))])
 (.seq (.seq (.reg [oo 31 (.move (tq 3) false),
   oo 32 (.fieldAddr 0 (tq 5)),
   oo 33 (.load true 33 (tq 32) false),
   oo 34 (.mlook 35 false (.sc (.bool false)) (tq 31) (tq 33))])
 (.cond (tq 34)
 (.seq (.reg [oo 2 (.move (.const (.sc (.int .i64 91))) false)])
 (.seq (.mask (bl 4 47) (bl 140737488355293 47))
 .ret))
 .skip))
 (.reg [oo 35 (.move (tq 3) false),
   oo 36 (.fieldAddr 0 (tq 5)),
   oo 37 (.load true 33 (tq 36) false),
   oz (.mput 35 (tq 35) (tq 37) (.const (.sc (.bool true))))]))))
 (.reg [oo 38 (.bin .add (tq 27) (.const (.sc (.int .i64 1)))),
   oo 27 (.move (tq 38) false)]))))
def zgK:CC:=(.seq (.seq (.reg [oo 39 (.move (tq 3) false),
   oo 40 (.build (rp 32 (.sc (.int .u8 0)) (rp 1 (.sc (.int .u32 0)) [])) [(32,1,(.const (.sc (.int .u32 4294967295))))]),
   oo 41 (.mlook 35 false (.sc (.bool false)) (tq 39) (tq 40)),
   oo 42 (.move (tq 41) false),
   ⟨(some 43),false,(some (42,true)),.load true 4 (tq 1) false⟩,
   ⟨(some 44),false,(some (42,true)),.call 151 [((tq 43),1)] []⟩,
   ⟨(some 45),false,(some (42,true)),.un .not (tq 44)⟩,
   oo 46 (.pick (tq 42) (tq 45) (.const (.sc (.bool false))))])
 (.cond (tq 46)
 (.seq (.reg [oo 2 (.move (.const (.sc (.int .i64 92))) false)])
 .ret)
 .skip))
 (.seq (.reg [oo 2 (.move (.const (.sc (.int .i64 0))) false)])
 .ret))
def zeA:CF:=⟨47,[.tmp 2],
 (.seq (.reg [oo 1 (.box true (tq 0)),
   oo 2 (.move (.const (.sc (.int .i64 0))) false)])
 (.seq (.seq (.reg [oo 6 (.load true 4 (tq 1) false),
   oo 7 (.call 146 [((tq 6),1)] []),
   oo 8 (.un .not (tq 7))])
 (.cond (tq 8)
 (.seq (.reg [oo 2 (.move (.const (.sc (.int .i64 4))) false)])
 .ret)
 .skip))
 (.seq (.seq (.reg [oo 9 (.fieldAddr 1 (tq 1)),
   oo 10 (.load false 1 (tq 9) false),
   oo 11 (.lenS (tq 10)),
   oo 12 (.bin .eql (tq 11) (.const (.sc (.int .i64 0)))),
   oo 13 (.move (tq 12) false),
   ⟨(some 14),false,(some (13,false)),.fieldAddr 2 (tq 1)⟩,
   ⟨(some 15),false,(some (13,false)),.load false 1 (tq 14) false⟩,
   ⟨(some 16),false,(some (13,false)),.lenS (tq 15)⟩,
   ⟨(some 17),false,(some (13,false)),.bin .eql (tq 16) (.const (.sc (.int .i64 0)))⟩,
   oo 18 (.pick (tq 13) (.const (.sc (.bool true))) (tq 17))])
 (.cond (tq 18)
 (.seq (.reg [oo 2 (.move (.const (.sc (.int .i64 93))) false)])
 .ret)
 .skip))
 (.seq (.seq (.reg [oo 19 (.fieldAddr 2 (tq 1)),
   oo 20 (.load false 1 (tq 19) false),
   oo 21 (.call 150 [((tq 20),0)] []),
   oo 22 (.un .not (tq 21))])
 (.cond (tq 22)
 (.seq (.reg [oo 2 (.move (.const (.sc (.int .i64 90))) false)])
 .ret)
 .skip))
 (.seq (.reg [oo 23 (.makeMap),
   oo 3 (.move (tq 23) false)])
 (.seq (.seq (.reg [oo 24 (.fieldAddr 1 (tq 1)),
   oo 25 (.load false 1 (tq 24) false),
   oo 26 (.lenS (tq 25)),
   oo 27 (.move (.const (.sc (.int .i64 0))) false)])
 (.block 0 (.loop (bl 234881034 47) (bl 140737488355291 47)
 zc6)))
 zgK))))))⟩
def zti:Hint:=⟨[(0,0),(10,2)],[],[none,none,none,none,none,none,none,some ((bl 234881034 47),(bl 140737488355291 47)),none,some ((bl 10 47),(bl 140737488355291 47)),none,none,some ((bl 4 47),(bl 140737488355293 47)),none,none,none],[],[],false,false⟩
def zb3:Nat→Sh:=xQ [(10,(.sl 35)),(15,(.sl 2)),(20,(.sl 2)),(25,(.sl 35)),(34,.bool),(41,.bool)]
def zb7 (yo:zac) (xv:zbg) (yi:zR) (L:Nat):CBC:=(xy 151 (zhs yi L) (xy 150 (zoD xv L) (xy 146 (zkV yo L) noC)))
def zfm:St→St:=zS 0 (bl 234881034 47) (bl 140737488355291 47)
def zdQ (p25:List (List V)) (p26 p27:Int) (b1:List V) (b23:List (V × V)):St:=⟨(jn 1 ((V.ptr 1 0)::(jn 1 ((V.mp 23)::(jn 21 ((V.sl 35 p25)::((V.sc (.int .i64 p26))::((V.sc (.int .i64 p27))::(jn 19 []))))))))),(gn 1 ((.live true b1)::(gn 21 ((.mp b23)::(gn 23 [])))))⟩
def zma (p2:Int) (b23:List (V × V)):St:=⟨(jn 2 ((V.sc (.int .i64 p2))::(jn 44 []))),(gn 23 ((.mp b23)::(gn 23 [])))⟩
def zm4 (b1:List V) (b23:List (V × V)):St:=⟨(jn 1 ((V.ptr 1 0)::(jn 1 ((V.mp 23)::(jn 43 []))))),(gn 1 ((.live true b1)::(gn 21 ((.mp b23)::(gn 23 [])))))⟩
def zxg {β:Type} (yo:zac) (xv:zbg) (yi:zR) (L:Nat) (p0:List V) (k_fin:Int→Option β) (k_hbbbbbaba:List (List V)→Int→Int→List V→List (V × V)→Option β):Option β :=
 chk (0+4≤(List.length p0)) (
 yo β L (List.map V.dem (List.take 4 p0)) (fun v0 =>
 ifb (!v0) (
 k_fin (4:Int)) (
 cLd 35 p0 1 fun v1 =>
 ifb ((((List.length v1:Nat):Int):Int) == (0:Int)) (
 k_fin (93:Int)) (
 cLd 2 p0 2 fun v2 =>
 ifb ((((List.length v2:Nat):Int):Int) == (0:Int)) (
 k_fin (93:Int)) (
 cLd 2 p0 2 fun v3 =>
 xv β L v3 (fun v4 =>
 ifb (!v4) (
 k_fin (90:Int)) (
 cLd 35 p0 1 fun v5 =>
 k_hbbbbbaba v5 ((List.length v5:Nat):Int) (0:Int) p0 ([]:List (V × V)))))))))
theorem zzG {β:Type} (yo:zac) (xv:zbg) (yi:zR) (L:Nat) (p0:List V) (k:KK β):zt zb3 (zb7 yo xv yi L) L zeA [(V.agg p0)] [] k=zxg yo xv yi L p0 (fun p0=>k (V.sc (.int .i64 p0)) []) (fun p25 p26 p27 b1 b23=>xq (xf zb3 (zb7 yo xv yi L) 0 L zc6) zfm L (zdQ p25 p26 p27 b1 b23) (yn 0 (zy (xf zb3 (zb7 yo xv yi L) 0 L zgK) (yE 0 (CF.res zeA) k)))):=by kernel_rfl
def znU {β:Type} (yo:zac) (xv:zbg) (yi:zR) (L:Nat) (p25:List (List V)) (p26 p27:Int) (b1:List V) (b23:List (V × V)) (k_ret:Int→List (V × V)→Option β) (k_hbbbbbaba:List (List V)→Int→Int→List V→List (V × V)→Option β) (k_x0:List V→List (V × V)→Option β):Option β :=
 ifb (decide (p27 < p26)) (
 idx p25 p27 fun c6 =>
 chk ((List.length (List.take 35 c6))=35∧0+35≤35) (
 lt (zr (List.replicate 32 (V.sc (.int .u8 (0:Int)))++[(V.sc (.int .u32 (0:Int))),(V.sc (.int .u32 (0:Int))),(V.gs 1 ([]:List (List V)))]) 0 (List.take 35 c6)) fun r7 =>
 chk (0+33≤(List.length r7)) (
 mAt 35 (V.agg (List.take 33 r7)) b23 fun q8 =>
 aB (Option.getD q8 (V.sc (.bool false))) fun v9 =>
 ifb v9 (
 k_ret (91:Int) b23) (
 chk (0+33≤(List.length r7)) (
 zEL 35 (V.agg (List.take 33 r7)) (V.sc (.bool true)) b23 fun m10 =>
 lt (IntKind.wrap .i64 ((p27:Int)+(1:Int))) fun x11 =>
 k_hbbbbbaba p25 p26 x11 b1 m10))))) (
 k_x0 b1 b23)
theorem zrs {β:Type} (yo:zac) (xv:zbg) (yi:zR) (L:Nat) (p25:List (List V)) (p26 p27:Int) (b1:List V) (b23:List (V × V)) (X:St→Option β) (K:KT β):xf zb3 (zb7 yo xv yi L) 0 L zc6 (zdQ p25 p26 p27 b1 b23) (yN zfm X K)=znU yo xv yi L p25 p26 p27 b1 b23 (fun p2 b23=>K .ret (zma p2 b23)) (fun p25 p26 p27 b1 b23=>X (zdQ p25 p26 p27 b1 b23)) (fun b1 b23=>K (.exit 0) (zm4 b1 b23)):=by kernel_rfl
def zld {β:Type} (yo:zac) (xv:zbg) (yi:zR) (L:Nat) (p2:Int) (b23:List (V × V)) (k_fin:Int→Option β):Option β :=
 k_fin p2
theorem zpp {β:Type} (yo:zac) (xv:zbg) (yi:zR) (L:Nat) (p2:Int) (b23:List (V × V)) (k:KK β):(yn 0 (zy (xf zb3 (zb7 yo xv yi L) 0 L zgK) (yE 0 (CF.res zeA) k))) .ret (zma p2 b23)=zld yo xv yi L p2 b23 (fun p0=>k (V.sc (.int .i64 p0)) []):=by kernel_rfl
def zmc {β:Type} (yo:zac) (xv:zbg) (yi:zR) (L:Nat) (b1:List V) (b23:List (V × V)) (k_fin:Int→Option β):Option β :=
 mAt 35 (V.agg (List.replicate 32 (V.sc (.int .u8 (0:Int)))++[(V.sc (.int .u32 (4294967295:Int)))])) b23 fun q12 =>
 aB (Option.getD q12 (V.sc (.bool false))) fun v13 =>
 ifb v13 (
 chk (0+4≤(List.length b1)) (
 yi β L (List.map V.dem (List.take 4 b1)) (fun v14 =>
 ifb (!v14) (
 k_fin (92:Int)) (
 k_fin (0:Int))))) (
 k_fin (0:Int))
theorem zp3 {β:Type} (yo:zac) (xv:zbg) (yi:zR) (L:Nat) (b1:List V) (b23:List (V × V)) (k:KK β):(yn 0 (zy (xf zb3 (zb7 yo xv yi L) 0 L zgK) (yE 0 (CF.res zeA) k))) (.exit 0) (zm4 b1 b23)=zmc yo xv yi L b1 b23 (fun p0=>k (V.sc (.int .i64 p0)) []):=by kernel_rfl
def zjf {β:Type} (yo:zac) (xv:zbg) (yi:zR) (L:Nat) (k_ret:Int→List (V × V)→Option β) (k_x0:List V→List (V × V)→Option β):Nat→List (List V)→Int→Int→List V→List (V × V)→Option β
 | 0,_,_,_,_,_=>none
 | n+1,p25,p26,p27,b1,b23=>znU yo xv yi L p25 p26 p27 b1 b23 k_ret (fun p25 p26 p27 b1 b23=>zjf yo xv yi L k_ret k_x0 n p25 p26 p27 b1 b23) k_x0
theorem zk0 {β:Type} (yo:zac) (xv:zbg) (yi:zR) (L:Nat) (K:KT β):∀ (n:Nat) (p25:List (List V)) (p26 p27:Int) (b1:List V) (b23:List (V × V)),xq (xf zb3 (zb7 yo xv yi L) 0 L zc6) zfm n (zdQ p25 p26 p27 b1 b23) K=zjf yo xv yi L (fun p2 b23=>K .ret (zma p2 b23)) (fun b1 b23=>K (.exit 0) (zm4 b1 b23)) n p25 p26 p27 b1 b23:=by
 intro n
 induction n with
 | zero=>intros; rfl
 | succ n ih =>
  intro p25 p26 p27 b1 b23
  refine (zrs yo xv yi L p25 p26 p27 b1 b23 (fun σ=>xq (xf zb3 (zb7 yo xv yi L) 0 L zc6) zfm n σ K) K).trans ?_
  simp only [ih]
  rfl
def zsb {β:Type} (yo:zac) (xv:zbg) (yi:zR) (L:Nat) (p0:List V) (k_fin:Int→Option β):Option β :=
 zxg yo xv yi L p0 k_fin (fun p25 p26 p27 b1 b23=>zjf yo xv yi L (fun p2 b23=>zld yo xv yi L p2 b23 k_fin) (fun b1 b23=>zmc yo xv yi L b1 b23 k_fin) L p25 p26 p27 b1 b23)
theorem zzI {β:Type} (yo:zac) (xv:zbg) (yi:zR) (L:Nat) (p0:List V) (k:KK β):zt zb3 (zb7 yo xv yi L) L zeA [(V.agg p0)] [] k=zsb yo xv yi L p0 (fun p0=>k (V.sc (.int .i64 p0)) []):=by
 refine (zzG yo xv yi L p0 k).trans ?_
 unfold zsb
 first
  | (simp only [zk0,zpp,zp3]; done)
  | (simp only [zk0]; rfl)
abbrev zoN:=∀ (β:Type),Nat→List V→(Int→Option β)→Option β
def za1 (β:Type) (L:Nat) (p0:List V) (k_fin:Int→Option β):Option β:=zsb yo xv yi L p0 k_fin
def zoR (za1:zoN) (L:Nat) (β:Type) (args:List V) (bor:Bor) (k:KK β):Option β:=match args,bor with
 | [a0],[]=>aG a0 fun p0=>za1 β L p0 (fun p0=>k (V.sc (.int .i64 p0)) [])
 | _,_=>none
theorem zzP (L:Nat) (β:Type) (args:List V) (bor:Bor) (k:KK β) (r:β) (h:zoR za1 L β args bor k=some r):zt zb3 (zb7 yo xv yi L) L zeA args bor k=some r:=by
 unfold zoR at h
 split at h
 ·have q:=zaj h; clear h; obtain ⟨p0,rfl,h⟩:=q
  exact (zzI yo xv yi L p0 k).trans h
 ·cases h
def zkx:CF:=⟨36,[.tmp 0],
 (.seq (.reg [oo 0 (.move (.const (.sc (.bool false))) false)])
 (.seq (.reg [oo 6 (.build [(.sc (.int .u32 0)),(.sl 35 []),(.sl 2 []),(.sc (.int .u32 0))] []),
   oo 7 (.call 128 [((tq 6),1),((.const (.sc (.bool false))),0)] []),
   oo 5 (.move (tq 7) true),
   oo 8 (.extract (tq 5) 0),
   oo 9 (.pull (tq 5) 1),
   oo 1 (.move (tq 8) false),
   oo 2 (.move (tq 9) false)])
 (.seq (.reg [oo 10 (.build (rp 32 (.sc (.int .u8 0)) (rp 1 (.sc (.int .u32 0)) [])) [(32,1,(.const (.sc (.int .u32 3))))]),
   oo 3 (.alloc true (rp 32 (.sc (.int .u8 0)) (rp 1 (.sc (.int .u32 0)) []))),
   oz (.store 33 (tq 3) (tq 10))])
 (.seq (.reg [oo 11 (.load true 33 (tq 3) false),
   oo 12 (.build (rp 32 (.sc (.int .u8 0)) (rp 2 (.sc (.int .u32 0)) (rp 1 (.sl 1 []) []))) [(0,33,(tq 11))]),
   oo 13 (.load true 33 (tq 3) false),
   oo 14 (.build (rp 32 (.sc (.int .u8 0)) (rp 2 (.sc (.int .u32 0)) (rp 1 (.sl 1 []) []))) [(0,33,(tq 13))]),
   oo 15 (.buildSlice 35 2 (rp 32 (.sc (.int .u8 0)) (rp 2 (.sc (.int .u32 0)) (rp 1 (.sl 1 []) []))) [(0,35,(tq 12)),(35,35,(tq 14))]),
   oo 16 (.build [(.sc (.int .i64 0)),(.sl 1 [])] []),
   oo 17 (.buildSlice 2 1 [(.sc (.int .i64 0)),(.sl 1 [])] [(0,2,(tq 16))]),
   oo 18 (.build [(.sc (.int .u32 0)),(.sl 35 []),(.sl 2 []),(.sc (.int .u32 0))] [(1,1,(tq 15)),(2,1,(tq 17))]),
   oo 4 (.alloc true [(.sc (.int .u32 0)),(.gs 35 []),(.gs 2 []),(.sc (.int .u32 0))]),
   oz (.store 4 (tq 4) (tq 18))])
 (.seq (.reg [oo 19 (.move (tq 2) false),
   oo 20 (.bin .eql (tq 19) (.const (.sc (.int .i64 0)))),
   oo 21 (.move (tq 20) false),
   ⟨(some 22),false,(some (21,true)),.move (tq 1) false⟩,
   ⟨(some 23),false,(some (21,true)),.lenS (tq 22)⟩,
   ⟨(some 24),false,(some (21,true)),.bin .eql (tq 23) (.const (.sc (.int .i64 10)))⟩,
   oo 25 (.pick (tq 21) (tq 24) (.const (.sc (.bool false)))),
   oo 26 (.move (tq 25) false),
   ⟨(some 27),false,(some (26,true)),.build [(.sc (.int .u32 0)),(.sl 35 []),(.sl 2 []),(.sc (.int .u32 0))] []⟩,
   ⟨(some 28),false,(some (26,true)),.call 144 [((tq 27),1)] []⟩,
   ⟨(some 29),false,(some (26,true)),.bin .eql (tq 28) (.const (.sc (.int .i64 40)))⟩,
   oo 30 (.pick (tq 26) (tq 29) (.const (.sc (.bool false)))),
   oo 31 (.move (tq 30) false),
   ⟨(some 32),false,(some (31,true)),.load true 4 (tq 4) false⟩,
   ⟨(some 33),false,(some (31,true)),.call 131 [((tq 32),1)] []⟩,
   ⟨(some 34),false,(some (31,true)),.bin .eql (tq 33) (.const (.sc (.int .i64 91)))⟩,
   oo 35 (.pick (tq 31) (tq 34) (.const (.sc (.bool false)))),
   oo 0 (.move (tq 35) false)])
 .ret)))))⟩
def zqb:Hint:=⟨[(1,2),(1,3),(3,8)],[],[none],[],[],false,false⟩
def zoa:Nat→Sh:=xQ []
def zn6 (zH:zf2) (xH:zfT) (za1:zoN) (L:Nat):CBC:=(xy 131 (zoR za1 L) (xy 144 (zj4 xH L) (xy 128 (zj7 zH L) noC)))
def zuf {β:Type} (zH:zf2) (xH:zfT) (za1:zoN) (L:Nat) (k_fin:Bool→Option β):Option β :=
 zH β L [(V.sc (.int .u32 (0:Int))),(V.sl 35 ([]:List (List V))),(V.sl 2 ([]:List (List V))),(V.sc (.int .u32 (0:Int)))] false (fun v0 v1 =>
 lt (List.replicate 32 (V.sc (.int .u8 (0:Int)))++[(V.sc (.int .u32 (3:Int)))]) fun r2 =>
 chk (0+33≤(List.length r2)) (
 chk ((List.length (List.take 33 r2))=33∧0+33≤35) (
 chk (0+33≤(List.length r2)) (
 chk ((List.length (List.take 33 r2))=33∧0+33≤35) (
 chk ((List.length (zr (List.replicate 32 (V.sc (.int .u8 (0:Int)))++[(V.sc (.int .u32 (0:Int))),(V.sc (.int .u32 (0:Int))),(V.sl 1 ([]:List (List V)))]) 0 (List.take 33 r2)))=35∧0+35≤70) (
 chk ((List.length (zr (List.replicate 32 (V.sc (.int .u8 (0:Int)))++[(V.sc (.int .u32 (0:Int))),(V.sc (.int .u32 (0:Int))),(V.sl 1 ([]:List (List V)))]) 0 (List.take 33 r2)))=35∧35+35≤(List.length (zr (List.replicate 32 (V.sc (.int .u8 (0:Int)))++[(V.sc (.int .u32 (0:Int))),(V.sc (.int .u32 (0:Int))),(V.sl 1 ([]:List (List V)))]++List.replicate 32 (V.sc (.int .u8 (0:Int)))++[(V.sc (.int .u32 (0:Int))),(V.sc (.int .u32 (0:Int))),(V.sl 1 ([]:List (List V)))]) 0 (zr (List.replicate 32 (V.sc (.int .u8 (0:Int)))++[(V.sc (.int .u32 (0:Int))),(V.sc (.int .u32 (0:Int))),(V.sl 1 ([]:List (List V)))]) 0 (List.take 33 r2))))) (
 lt [(V.sc (.int .u32 (0:Int))),(V.sl 35 (yp 35 2 (zr (zr (List.replicate 32 (V.sc (.int .u8 (0:Int)))++[(V.sc (.int .u32 (0:Int))),(V.sc (.int .u32 (0:Int))),(V.sl 1 ([]:List (List V)))]++List.replicate 32 (V.sc (.int .u8 (0:Int)))++[(V.sc (.int .u32 (0:Int))),(V.sc (.int .u32 (0:Int))),(V.sl 1 ([]:List (List V)))]) 0 (zr (List.replicate 32 (V.sc (.int .u8 (0:Int)))++[(V.sc (.int .u32 (0:Int))),(V.sc (.int .u32 (0:Int))),(V.sl 1 ([]:List (List V)))]) 0 (List.take 33 r2))) 35 (zr (List.replicate 32 (V.sc (.int .u8 (0:Int)))++[(V.sc (.int .u32 (0:Int))),(V.sc (.int .u32 (0:Int))),(V.sl 1 ([]:List (List V)))]) 0 (List.take 33 r2))))),(V.sl 2 (yp 2 1 [(V.sc (.int .i64 (0:Int))),(V.sl 1 ([]:List (List V)))])),(V.sc (.int .u32 (0:Int)))] fun r3 =>
 ifb ((v1:Int) == (0:Int)) (
 ifb ((((List.length v0:Nat):Int):Int) == (10:Int)) (
 xH β L [(V.sc (.int .u32 (0:Int))),(V.sl 35 ([]:List (List V))),(V.sl 2 ([]:List (List V))),(V.sc (.int .u32 (0:Int)))] (fun v4 =>
 ifb ((v4:Int) == (40:Int)) (
 chk (0+4≤(List.length r3)) (
 za1 β L (List.map V.dem (List.take 4 r3)) (fun v5 =>
 k_fin ((v5:Int) == (91:Int))))) (
 k_fin false))) (
 k_fin false)) (
 k_fin false))))))))
theorem zwR {β:Type} (zH:zf2) (xH:zfT) (za1:zoN) (L:Nat) (k:KK β):zt zoa (zn6 zH xH za1 L) L zkx [] [] k=zuf zH xH za1 L (fun p0=>k (V.sc (.bool p0)) []):=by kernel_rfl
abbrev zgq:=∀ (β:Type),Nat→(Bool→Option β)→Option β
def xN (β:Type) (L:Nat) (k_fin:Bool→Option β):Option β:=zuf zH xH za1 L k_fin
def ziF (xN:zgq) (L:Nat) (β:Type) (args:List V) (bor:Bor) (k:KK β):Option β:=match args,bor with
 | [],[]=>xN β L (fun p0=>k (V.sc (.bool p0)) [])
 | _,_=>none
theorem zxS (L:Nat) (β:Type) (args:List V) (bor:Bor) (k:KK β) (r:β) (h:ziF xN L β args bor k=some r):zt zoa (zn6 zH xH za1 L) L zkx args bor k=some r:=by
 unfold ziF at h
 split at h
 ·exact (zwR zH xH za1 L k).trans h
 ·cases h
def zdK:CC:=(.seq (.reg [oo 16 (.bin .lss (tq 15) (tq 14))])
 (.seq (.cond (tq 16)
 .skip
 (.seq (.mask (bl 0 24) (bl 15728319 24))
 (.exit 0)))
 (.seq (.block 1 (.seq (.reg [oo 17 (.indexAddrS 1 (tq 13) (tq 15)),
   oo 18 (.load false 1 (tq 17) false),
   oo 8 (.move (tq 18) false)])
 (.seq (.reg [oo 19 (.move (tq 8) false),
   oo 20 (.lenS (tq 19)),
   oo 21 (.move (tq 2) false),
   oo 22 (.bin .gtr (tq 20) (tq 21))])
 (.cond (tq 22)
 (.seq (.reg [oo 6 (.move (.const (.sc (.bool false))) false)])
 (.seq (.mask (bl 64 24) (bl 15728383 24))
 .ret))
 .skip))))
 (.reg [oo 23 (.bin .add (tq 15) (.const (.sc (.int .i64 1)))),
   oo 15 (.move (tq 23) false)]))))
def zil:CC:=(.seq (.reg [oo 6 (.move (.const (.sc (.bool true))) false)])
 .ret)
def zcT:CF:=⟨24,[.tmp 6],
 (.seq (.reg [oo 6 (.move (.const (.sc (.bool false))) false)])
 (.seq (.seq (.reg [oo 9 (.move (tq 0) false),
   oo 10 (.lenS (tq 9)),
   oo 11 (.move (tq 1) false),
   oo 12 (.bin .gtr (tq 10) (tq 11))])
 (.cond (tq 12)
 (.seq (.reg [oo 6 (.move (.const (.sc (.bool false))) false)])
 .ret)
 .skip))
 (.seq (.seq (.reg [oo 13 (.move (tq 0) false),
   oo 14 (.lenS (tq 13)),
   oo 15 (.move (.const (.sc (.int .i64 0))) false)])
 (.block 0 (.loop (bl 57348 24) (bl 15728319 24)
 zdK)))
 zil)))⟩
def zqz:Hint:=⟨[],[],[none,none,none,some ((bl 57348 24),(bl 15728319 24)),none,some ((bl 0 24),(bl 15728319 24)),none,none,some ((bl 64 24),(bl 15728383 24)),none],[],[],false,false⟩
def za4:Nat→Sh:=xQ [(18,(.sl 1))]
def za3 (L:Nat):CBC:=noC
def zf8:St→St:=zS 0 (bl 57348 24) (bl 15728319 24)
def zej (p2:Int) (p13:List (List V)) (p14 p15:Int):St:=⟨(jn 2 ((V.sc (.int .i64 p2))::(jn 10 ((V.sl 1 p13)::((V.sc (.int .i64 p14))::((V.sc (.int .i64 p15))::(jn 8 []))))))),(gn 24 [])⟩
def zjJ (p6:Bool):St:=⟨(jn 6 ((V.sc (.bool p6))::(jn 17 []))),(gn 24 [])⟩
def zkG:St:=⟨(jn 24 []),(gn 24 [])⟩
def zps {β:Type} (L:Nat) (p0:List (List V)) (p1 p2:Int) (k_fin:Bool→Option β) (k_hbbaba:Int→List (List V)→Int→Int→Option β):Option β :=
 ifb (decide (((List.length p0:Nat):Int) > p1)) (
 k_fin false) (
 k_hbbaba p2 p0 ((List.length p0:Nat):Int) (0:Int))
theorem zxY {β:Type} (L:Nat) (p0:List (List V)) (p1 p2:Int) (k:KK β):zt za4 (za3 L) L zcT [(V.sl 1 p0),(V.sc (.int .i64 p1)),(V.sc (.int .i64 p2))] [] k=zps L p0 p1 p2 (fun p0=>k (V.sc (.bool p0)) []) (fun p2 p13 p14 p15=>xq (xf za4 (za3 L) 0 L zdK) zf8 L (zej p2 p13 p14 p15) (yn 0 (zy (xf za4 (za3 L) 0 L zil) (yE 0 (CF.res zcT) k)))):=by kernel_rfl
def zjT {β:Type} (L:Nat) (p2:Int) (p13:List (List V)) (p14 p15:Int) (k_ret:Bool→Option β) (k_hbbaba:Int→List (List V)→Int→Int→Option β) (k_x0:Option β):Option β :=
 ifb (decide (p15 < p14)) (
 idx p13 p15 fun c0 =>
 cL 1 c0 0 fun v1 =>
 ifb (decide (((List.length v1:Nat):Int) > p2)) (
 k_ret false) (
 lt (IntKind.wrap .i64 ((p15:Int)+(1:Int))) fun x2 =>
 k_hbbaba p2 p13 p14 x2)) (
 k_x0)
theorem zsU {β:Type} (L:Nat) (p2:Int) (p13:List (List V)) (p14 p15:Int) (X:St→Option β) (K:KT β):xf za4 (za3 L) 0 L zdK (zej p2 p13 p14 p15) (yN zf8 X K)=zjT L p2 p13 p14 p15 (fun p6=>K .ret (zjJ p6)) (fun p2 p13 p14 p15=>X (zej p2 p13 p14 p15)) (K (.exit 0) (zkG)):=by kernel_rfl
def zha {β:Type} (L:Nat) (p6:Bool) (k_fin:Bool→Option β):Option β :=
 k_fin p6
theorem zpX {β:Type} (L:Nat) (p6:Bool) (k:KK β):(yn 0 (zy (xf za4 (za3 L) 0 L zil) (yE 0 (CF.res zcT) k))) .ret (zjJ p6)=zha L p6 (fun p0=>k (V.sc (.bool p0)) []):=by kernel_rfl
def zhH {β:Type} (L:Nat) (k_fin:Bool→Option β):Option β :=
 k_fin true
theorem zrd {β:Type} (L:Nat) (k:KK β):(yn 0 (zy (xf za4 (za3 L) 0 L zil) (yE 0 (CF.res zcT) k))) (.exit 0) (zkG)=zhH L (fun p0=>k (V.sc (.bool p0)) []):=by kernel_rfl
def zec {β:Type} (L:Nat) (k_ret:Bool→Option β) (k_x0:Option β):Nat→Int→List (List V)→Int→Int→Option β
 | 0,_,_,_,_=>none
 | n+1,p2,p13,p14,p15=>zjT L p2 p13 p14 p15 k_ret (fun p2 p13 p14 p15=>zec L k_ret k_x0 n p2 p13 p14 p15) k_x0
theorem zl5 {β:Type} (L:Nat) (K:KT β):∀ (n:Nat) (p2:Int) (p13:List (List V)) (p14 p15:Int),xq (xf za4 (za3 L) 0 L zdK) zf8 n (zej p2 p13 p14 p15) K=zec L (fun p6=>K .ret (zjJ p6)) (K (.exit 0) (zkG)) n p2 p13 p14 p15:=by
 intro n
 induction n with
 | zero=>intros; rfl
 | succ n ih =>
  intro p2 p13 p14 p15
  refine (zsU L p2 p13 p14 p15 (fun σ=>xq (xf za4 (za3 L) 0 L zdK) zf8 n σ K) K).trans ?_
  simp only [ih]
  rfl
def zlr {β:Type} (L:Nat) (p0:List (List V)) (p1 p2:Int) (k_fin:Bool→Option β):Option β :=
 zps L p0 p1 p2 k_fin (fun p2 p13 p14 p15=>zec L (fun p6=>zha L p6 k_fin) (zhH L k_fin) L p2 p13 p14 p15)
theorem zwO {β:Type} (L:Nat) (p0:List (List V)) (p1 p2:Int) (k:KK β):zt za4 (za3 L) L zcT [(V.sl 1 p0),(V.sc (.int .i64 p1)),(V.sc (.int .i64 p2))] [] k=zlr L p0 p1 p2 (fun p0=>k (V.sc (.bool p0)) []):=by
 refine (zxY L p0 p1 p2 k).trans ?_
 unfold zlr
 first
  | (simp only [zl5,zpX,zrd]; done)
  | (simp only [zl5]; rfl)
abbrev xG:=∀ (β:Type),Nat→List (List V)→Int→Int→(Bool→Option β)→Option β
def zg (β:Type) (L:Nat) (p0:List (List V)) (p1 p2:Int) (k_fin:Bool→Option β):Option β:=zlr L p0 p1 p2 k_fin
def zin (zg:xG) (L:Nat) (β:Type) (args:List V) (bor:Bor) (k:KK β):Option β:=match args,bor with
 | [a0,a1,a2],[]=>aL 1 a0 fun p0=>aI .i64 a1 fun p1=>aI .i64 a2 fun p2=>zg β L p0 p1 p2 (fun p0=>k (V.sc (.bool p0)) [])
 | _,_=>none
theorem zwD (L:Nat) (β:Type) (args:List V) (bor:Bor) (k:KK β) (r:β) (h:zin zg L β args bor k=some r):zt za4 (za3 L) L zcT args bor k=some r:=by
 unfold zin at h
 split at h
 ·have q:=za2 h; clear h; obtain ⟨p0,rfl,h⟩:=q
  have q:=zbt h; clear h; obtain ⟨p1,rfl,h⟩:=q
  have q:=zbt h; clear h; obtain ⟨p2,rfl,h⟩:=q
  exact (zwO L p0 p1 p2 k).trans h
 ·cases h
def zeV:CC:=(.seq (.reg [oo 33 (.bin .lss (tq 32) (tq 31))])
 (.seq (.cond (tq 33)
 .skip
 (.seq (.mask (bl 0 41) (bl 1924145348521 41))
 (.exit 2)))
 (.seq (.block 3 (.seq (.reg [oo 34 (.indexAddrS 2 (tq 30) (tq 32)),
   oo 35 (.load true 2 (tq 34) false),
   oo 6 (.alloc true [(.sc (.int .i64 0)),(.gs 1 [])]),
   oz (.store 2 (tq 6) (tq 35))])
 (.seq (.reg [oo 36 (.fieldAddr 1 (tq 6)),
   oo 37 (.load false 1 (tq 36) false),
   oo 38 (.lenS (tq 37)),
   oo 39 (.bin .gtr (tq 38) (.const (.sc (.int .i64 600))))])
 (.cond (tq 39)
 (.seq (.reg [oo 2 (.move (.const (.sc (.bool false))) false)])
 (.seq (.mask (bl 4 41) (bl 1924145348525 41))
 .ret))
 .skip))))
 (.reg [oo 40 (.bin .add (tq 32) (.const (.sc (.int .i64 1)))),
   oo 32 (.move (tq 40) false)]))))
def zfk:CC:=(.seq (.reg [oo 21 (.bin .lss (tq 20) (tq 19))])
 (.seq (.cond (tq 21)
 .skip
 (.seq (.mask (bl 2 41) (bl 2198956146603 41))
 (.exit 0)))
 (.seq (.block 1 (.seq (.reg [oo 22 (.indexAddrS 35 (tq 18) (tq 20)),
   oo 23 (.load true 35 (tq 22) false),
   oo 4 (.alloc true (rp 32 (.sc (.int .u8 0)) (rp 2 (.sc (.int .u32 0)) (rp 1 (.gs 1 []) [])))),
   oz (.store 35 (tq 4) (tq 23))])
 (.seq (.reg [oo 24 (.fieldAddr 34 (tq 4)),
   oo 25 (.load false 1 (tq 24) false),
   oo 26 (.call 145 [((tq 25),0),((.const (.sc (.int .i64 40))),0),((.const (.sc (.int .i64 600))),0)] []),
   oo 27 (.un .not (tq 26))])
 (.cond (tq 27)
 (.seq (.reg [oo 2 (.move (.const (.sc (.bool false))) false)])
 (.seq (.mask (bl 4 41) (bl 2198956146605 41))
 .ret))
 .skip))))
 (.reg [oo 28 (.bin .add (tq 20) (.const (.sc (.int .i64 1)))),
   oo 20 (.move (tq 28) false)]))))
def zks:CC:=(.seq (.reg [oo 2 (.move (.const (.sc (.bool true))) false)])
 .ret)
def ziB:CC:=(.seq (.seq (.reg [oo 29 (.fieldAddr 2 (tq 1)),
   oo 30 (.load false 1 (tq 29) false),
   oo 31 (.lenS (tq 30)),
   oo 32 (.move (.const (.sc (.int .i64 0))) false)])
 (.block 2 (.loop (bl 7516192768 41) (bl 1924145348521 41)
 zeV)))
 zks)
def zca:CF:=⟨41,[.tmp 2],
 (.seq (.reg [oo 1 (.box true (tq 0)),
   oo 2 (.move (.const (.sc (.bool false))) false)])
 (.seq (.seq (.reg [oo 7 (.fieldAddr 1 (tq 1)),
   oo 8 (.load false 1 (tq 7) false),
   oo 9 (.lenS (tq 8)),
   oo 10 (.bin .gtr (tq 9) (.const (.sc (.int .i64 70)))),
   oo 11 (.move (tq 10) false),
   ⟨(some 12),false,(some (11,false)),.fieldAddr 2 (tq 1)⟩,
   ⟨(some 13),false,(some (11,false)),.load false 1 (tq 12) false⟩,
   ⟨(some 14),false,(some (11,false)),.lenS (tq 13)⟩,
   ⟨(some 15),false,(some (11,false)),.bin .gtr (tq 14) (.const (.sc (.int .i64 70)))⟩,
   oo 16 (.pick (tq 11) (.const (.sc (.bool true))) (tq 15))])
 (.cond (tq 16)
 (.seq (.reg [oo 2 (.move (.const (.sc (.bool false))) false)])
 .ret)
 .skip))
 (.seq (.seq (.reg [oo 17 (.fieldAddr 1 (tq 1)),
   oo 18 (.load false 1 (tq 17) false),
   oo 19 (.lenS (tq 18)),
   oo 20 (.move (.const (.sc (.int .i64 0))) false)])
 (.block 0 (.loop (bl 1835010 41) (bl 2198956146603 41)
 zfk)))
 ziB)))⟩
def zuH:Hint:=⟨[(0,0),(5,2),(11,2)],[],[none,none,none,some ((bl 1835010 41),(bl 2198956146603 41)),none,some ((bl 2 41),(bl 2198956146603 41)),none,none,some ((bl 4 41),(bl 2198956146605 41)),none,some ((bl 7516192768 41),(bl 1924145348521 41)),none,some ((bl 0 41),(bl 1924145348521 41)),none,none,some ((bl 4 41),(bl 1924145348525 41)),none],[],[],false,false⟩
def y5:Nat→Sh:=xQ [(8,(.sl 35)),(13,(.sl 2)),(18,(.sl 35)),(25,(.sl 1)),(30,(.sl 2)),(37,(.sl 1))]
def y6 (zg:xG) (L:Nat):CBC:=(xy 145 (zin zg L) noC)
def zjm:St→St:=zS 0 (bl 1835010 41) (bl 2198956146603 41)
def zh2:St→St:=zS 0 (bl 7516192768 41) (bl 1924145348521 41)
def zgi (p18:List (List V)) (p19 p20:Int) (b1:List V):St:=⟨(jn 1 ((V.ptr 1 0)::(jn 16 ((V.sl 35 p18)::((V.sc (.int .i64 p19))::((V.sc (.int .i64 p20))::(jn 20 []))))))),(gn 1 ((.live true b1)::(gn 39 [])))⟩
def zeC (p2:Bool):St:=⟨(jn 2 ((V.sc (.bool p2))::(jn 38 []))),(gn 41 [])⟩
def zku (b1:List V):St:=⟨(jn 1 ((V.ptr 1 0)::(jn 39 []))),(gn 1 ((.live true b1)::(gn 39 [])))⟩
def zfB (p30:List (List V)) (p31 p32:Int):St:=⟨(jn 30 ((V.sl 2 p30)::((V.sc (.int .i64 p31))::((V.sc (.int .i64 p32))::(jn 8 []))))),(gn 41 [])⟩
def zoo:St:=⟨(jn 41 []),(gn 41 [])⟩
def zt9 {β:Type} (zg:xG) (L:Nat) (p0:List V) (k_fin:Bool→Option β) (k_hbbaba:List (List V)→Int→Int→List V→Option β):Option β :=
 cLd 35 p0 1 fun v0 =>
 ifb (decide (((List.length v0:Nat):Int) > (70:Int))) (
 k_fin false) (
 cLd 2 p0 2 fun v1 =>
 ifb (decide (((List.length v1:Nat):Int) > (70:Int))) (
 k_fin false) (
 cLd 35 p0 1 fun v2 =>
 k_hbbaba v2 ((List.length v2:Nat):Int) (0:Int) p0))
theorem zAk {β:Type} (zg:xG) (L:Nat) (p0:List V) (k:KK β):zt y5 (y6 zg L) L zca [(V.agg p0)] [] k=zt9 zg L p0 (fun p0=>k (V.sc (.bool p0)) []) (fun p18 p19 p20 b1=>xq (xf y5 (y6 zg L) 0 L zfk) zjm L (zgi p18 p19 p20 b1) (yn 0 (zy (xf y5 (y6 zg L) 0 L ziB) (yE 0 (CF.res zca) k)))):=by kernel_rfl
def zmY {β:Type} (zg:xG) (L:Nat) (p18:List (List V)) (p19 p20:Int) (b1:List V) (k_ret:Bool→Option β) (k_hbbaba:List (List V)→Int→Int→List V→Option β) (k_x0:List V→Option β):Option β :=
 ifb (decide (p20 < p19)) (
 idx p18 p20 fun c3 =>
 chk ((List.length (List.take 35 c3))=35∧0+35≤35) (
 lt (zr (List.replicate 32 (V.sc (.int .u8 (0:Int)))++[(V.sc (.int .u32 (0:Int))),(V.sc (.int .u32 (0:Int))),(V.gs 1 ([]:List (List V)))]) 0 (List.take 35 c3)) fun r4 =>
 cLd 1 r4 34 fun v5 =>
 zg β L v5 (40:Int) (600:Int) (fun v6 =>
 ifb (!v6) (
 k_ret false) (
 lt (IntKind.wrap .i64 ((p20:Int)+(1:Int))) fun x7 =>
 k_hbbaba p18 p19 x7 b1)))) (
 k_x0 b1)
theorem zvC {β:Type} (zg:xG) (L:Nat) (p18:List (List V)) (p19 p20:Int) (b1:List V) (X:St→Option β) (K:KT β):xf y5 (y6 zg L) 0 L zfk (zgi p18 p19 p20 b1) (yN zjm X K)=zmY zg L p18 p19 p20 b1 (fun p2=>K .ret (zeC p2)) (fun p18 p19 p20 b1=>X (zgi p18 p19 p20 b1)) (fun b1=>K (.exit 0) (zku b1)):=by kernel_rfl
def zjX {β:Type} (zg:xG) (L:Nat) (p2:Bool) (k_fin:Bool→Option β):Option β :=
 k_fin p2
theorem zsH {β:Type} (zg:xG) (L:Nat) (p2:Bool) (k:KK β):(yn 0 (zy (xf y5 (y6 zg L) 0 L ziB) (yE 0 (CF.res zca) k))) .ret (zeC p2)=zjX zg L p2 (fun p0=>k (V.sc (.bool p0)) []):=by kernel_rfl
def zkD {β:Type} (zg:xG) (L:Nat) (b1:List V) (k_hbbbaba:List (List V)→Int→Int→Option β):Option β :=
 cLd 2 b1 2 fun v8 =>
 k_hbbbaba v8 ((List.length v8:Nat):Int) (0:Int)
theorem ztE {β:Type} (zg:xG) (L:Nat) (b1:List V) (k:KK β):(yn 0 (zy (xf y5 (y6 zg L) 0 L ziB) (yE 0 (CF.res zca) k))) (.exit 0) (zku b1)=zkD zg L b1 (fun p30 p31 p32=>xq (xf y5 (y6 zg L) 0 L zeV) zh2 L (zfB p30 p31 p32) (yn 2 (zy (xf y5 (y6 zg L) 0 L zks) (yE 0 (CF.res zca) k)))):=by kernel_rfl
def zle {β:Type} (zg:xG) (L:Nat) (p30:List (List V)) (p31 p32:Int) (k_ret:Bool→Option β) (k_hbbbaba:List (List V)→Int→Int→Option β) (k_x2:Option β):Option β :=
 ifb (decide (p32 < p31)) (
 idx p30 p32 fun c9 =>
 chk ((List.length (List.take 2 c9))=2∧0+2≤2) (
 lt (zr [(V.sc (.int .i64 (0:Int))),(V.gs 1 ([]:List (List V)))] 0 (List.take 2 c9)) fun r10 =>
 cLd 1 r10 1 fun v11 =>
 ifb (decide (((List.length v11:Nat):Int) > (600:Int))) (
 k_ret false) (
 lt (IntKind.wrap .i64 ((p32:Int)+(1:Int))) fun x12 =>
 k_hbbbaba p30 p31 x12))) (
 k_x2)
theorem ztR {β:Type} (zg:xG) (L:Nat) (p30:List (List V)) (p31 p32:Int) (X:St→Option β) (K:KT β):xf y5 (y6 zg L) 0 L zeV (zfB p30 p31 p32) (yN zh2 X K)=zle zg L p30 p31 p32 (fun p2=>K .ret (zeC p2)) (fun p30 p31 p32=>X (zfB p30 p31 p32)) (K (.exit 2) (zoo)):=by kernel_rfl
def ziv {β:Type} (zg:xG) (L:Nat) (p2:Bool) (k_fin:Bool→Option β):Option β :=
 k_fin p2
theorem zrr {β:Type} (zg:xG) (L:Nat) (p2:Bool) (k:KK β):(yn 2 (zy (xf y5 (y6 zg L) 0 L zks) (yE 0 (CF.res zca) k))) .ret (zeC p2)=ziv zg L p2 (fun p0=>k (V.sc (.bool p0)) []):=by kernel_rfl
def zjZ {β:Type} (zg:xG) (L:Nat) (k_fin:Bool→Option β):Option β :=
 k_fin true
theorem zsq {β:Type} (zg:xG) (L:Nat) (k:KK β):(yn 2 (zy (xf y5 (y6 zg L) 0 L zks) (yE 0 (CF.res zca) k))) (.exit 2) (zoo)=zjZ zg L (fun p0=>k (V.sc (.bool p0)) []):=by kernel_rfl
def zgr {β:Type} (zg:xG) (L:Nat) (k_ret:Bool→Option β) (k_x0:List V→Option β):Nat→List (List V)→Int→Int→List V→Option β
 | 0,_,_,_,_=>none
 | n+1,p18,p19,p20,b1=>zmY zg L p18 p19 p20 b1 k_ret (fun p18 p19 p20 b1=>zgr zg L k_ret k_x0 n p18 p19 p20 b1) k_x0
theorem zoA {β:Type} (zg:xG) (L:Nat) (K:KT β):∀ (n:Nat) (p18:List (List V)) (p19 p20:Int) (b1:List V),xq (xf y5 (y6 zg L) 0 L zfk) zjm n (zgi p18 p19 p20 b1) K=zgr zg L (fun p2=>K .ret (zeC p2)) (fun b1=>K (.exit 0) (zku b1)) n p18 p19 p20 b1:=by
 intro n
 induction n with
 | zero=>intros; rfl
 | succ n ih =>
  intro p18 p19 p20 b1
  refine (zvC zg L p18 p19 p20 b1 (fun σ=>xq (xf y5 (y6 zg L) 0 L zfk) zjm n σ K) K).trans ?_
  simp only [ih]
  rfl
def zfv {β:Type} (zg:xG) (L:Nat) (k_ret:Bool→Option β) (k_x2:Option β):Nat→List (List V)→Int→Int→Option β
 | 0,_,_,_=>none
 | n+1,p30,p31,p32=>zle zg L p30 p31 p32 k_ret (fun p30 p31 p32=>zfv zg L k_ret k_x2 n p30 p31 p32) k_x2
theorem znF {β:Type} (zg:xG) (L:Nat) (K:KT β):∀ (n:Nat) (p30:List (List V)) (p31 p32:Int),xq (xf y5 (y6 zg L) 0 L zeV) zh2 n (zfB p30 p31 p32) K=zfv zg L (fun p2=>K .ret (zeC p2)) (K (.exit 2) (zoo)) n p30 p31 p32:=by
 intro n
 induction n with
 | zero=>intros; rfl
 | succ n ih =>
  intro p30 p31 p32
  refine (ztR zg L p30 p31 p32 (fun σ=>xq (xf y5 (y6 zg L) 0 L zeV) zh2 n σ K) K).trans ?_
  simp only [ih]
  rfl
def zgl {β:Type} (zg:xG) (L:Nat) (b1:List V) (k_fin:Bool→Option β):Option β :=
 zkD zg L b1 (fun p30 p31 p32=>zfv zg L (fun p2=>ziv zg L p2 k_fin) (zjZ zg L k_fin) L p30 p31 p32)
theorem zsS {β:Type} (zg:xG) (L:Nat) (b1:List V) (k:KK β):(yn 0 (zy (xf y5 (y6 zg L) 0 L ziB) (yE 0 (CF.res zca) k))) (.exit 0) (zku b1)=zgl zg L b1 (fun p0=>k (V.sc (.bool p0)) []):=by
 refine (ztE zg L b1 k).trans ?_
 unfold zgl
 first
  | (simp only [znF,zrr,zsq]; done)
  | (simp only [znF]; rfl)
def zqj {β:Type} (zg:xG) (L:Nat) (p0:List V) (k_fin:Bool→Option β):Option β :=
 zt9 zg L p0 k_fin (fun p18 p19 p20 b1=>zgr zg L (fun p2=>zjX zg L p2 k_fin) (fun b1=>zgl zg L b1 k_fin) L p18 p19 p20 b1)
theorem zAK {β:Type} (zg:xG) (L:Nat) (p0:List V) (k:KK β):zt y5 (y6 zg L) L zca [(V.agg p0)] [] k=zqj zg L p0 (fun p0=>k (V.sc (.bool p0)) []):=by
 refine (zAk zg L p0 k).trans ?_
 unfold zqj
 first
  | (simp only [zoA,zsH,zsS]; done)
  | (simp only [zoA]; rfl)
abbrev zkZ:=∀ (β:Type),Nat→List V→(Bool→Option β)→Option β
def zY (β:Type) (L:Nat) (p0:List V) (k_fin:Bool→Option β):Option β:=zqj zg L p0 k_fin
def znE (zY:zkZ) (L:Nat) (β:Type) (args:List V) (bor:Bor) (k:KK β):Option β:=match args,bor with
 | [a0],[]=>aG a0 fun p0=>zY β L p0 (fun p0=>k (V.sc (.bool p0)) [])
 | _,_=>none
theorem zAJ (L:Nat) (β:Type) (args:List V) (bor:Bor) (k:KK β) (r:β) (h:znE zY L β args bor k=some r):zt y5 (y6 zg L) L zca args bor k=some r:=by
 unfold znE at h
 split at h
 ·have q:=zaj h; clear h; obtain ⟨p0,rfl,h⟩:=q
  exact (zAK zg L p0 k).trans h
 ·cases h
def zbc:CC:=(.seq (.reg [oo 19 (.bin .lss (tq 18) (.const (.sc (.int .i64 8))))])
 (.seq (.cond (tq 19)
 .skip
 (.seq (.mask (bl 16 33) (bl 6979321823 33))
 (.exit 0)))
 (.seq (.block 1 (.seq (.reg [oo 20 (.move (tq 18) false),
   oo 5 (.move (tq 20) false)])
 (.reg [oo 21 (.unpin (tq 4)),
   oo 22 (.move (tq 0) false),
   oo 23 (.bin .mul (.const (.sc (.int .u64 8))) (tq 22)),
   oo 24 (.move (tq 5) false),
   oo 25 (.bin .mul (.const (.sc (.int .i64 8))) (tq 24)),
   oo 26 (.bin .sub (.const (.sc (.int .i64 56))) (tq 25)),
   oo 27 (.bin .shr (tq 23) (tq 26)),
   oo 28 (.conv .u8 (tq 27)),
   oo 29 (.buildSlice 1 1 [(.sc (.int .u8 0))] [(0,1,(tq 28))]),
   oo 30 (.append 1 1 (tq 21) (tq 29)),
   oo 4 (.move (tq 30) true)])))
 (.reg [oo 31 (.bin .add (tq 18) (.const (.sc (.int .i64 1)))),
   oo 18 (.move (tq 31) false)]))))
def zjs:CC:=(.seq (.reg [oo 32 (.move (tq 4) true),
   oo 2 (.move (tq 32) true)])
 .ret)
def zfz:CF:=⟨33,[.tmp 2],
 (.seq (.reg [oo 2 (.move (.const (.gs 1 [])) true)])
 (.seq (.reg [oo 6 (.move (tq 0) false),
   oo 7 (.bin .add (tq 6) (.const (.sc (.int .u64 9)))),
   oo 8 (.bin .rem (tq 7) (.const (.sc (.int .u64 64)))),
   oo 9 (.bin .sub (.const (.sc (.int .u64 64))) (tq 8)),
   oo 10 (.bin .rem (tq 9) (.const (.sc (.int .u64 64)))),
   oo 3 (.move (tq 10) false)])
 (.seq (.reg [oo 11 (.move (tq 3) false),
   oo 12 (.bin .add (.const (.sc (.int .u64 1))) (tq 11)),
   oo 13 (.move (tq 3) false),
   oo 14 (.bin .add (.const (.sc (.int .u64 9))) (tq 13)),
   ⟨(some 15),true,none,.makeSlice 1 1 [(.sc (.int .u8 0))] (tq 12) (tq 14)⟩,
   oo 4 (.move (tq 15) true)])
 (.seq (.reg [oo 16 (.move (tq 4) false),
   oo 17 (.indexAddrS 1 (tq 16) (.const (.sc (.int .i64 0)))),
   oz (.store 1 (tq 17) (.const (.sc (.int .u8 128))))])
 (.seq (.seq (.reg [oo 18 (.move (.const (.sc (.int .i64 0))) false)])
 (.block 0 (.loop (bl 262161 33) (bl 6979321823 33)
 zbc)))
 zjs)))))⟩
def zum:Hint:=⟨[(0,0),(2,5),(7,10),(9,0),(9,1)],[(2,4)],[none,some ((bl 262161 33),(bl 6979321823 33)),none,some ((bl 16 33),(bl 6979321823 33)),none,none],[],[(7,0,[0])],false,false⟩
def zbj:Nat→Sh:=xQ []
def zbi (L:Nat):CBC:=noC
def zce:St→St:=zS 0 (bl 262161 33) (bl 6979321823 33)
def zhB (p0:Int) (p4l:Nat) (p18:Int) (b15:List V):St:=⟨((V.sc (.int .u64 p0))::(jn 3 ((V.own 15 0 p4l 1)::(jn 13 ((V.sc (.int .i64 p18))::(jn 14 [])))))),(gn 15 ((.live true b15)::(gn 17 [])))⟩
def zdV (p0:Int) (p4:List (List V)) (p18:Int) (b15:Nat):St:=⟨((V.sc (.int .u64 p0))::(jn 3 ((V.gs 1 p4)::(jn 13 ((V.sc (.int .i64 p18))::(jn 14 [])))))),(gn 15 ((.dead b15)::(gn 17 [])))⟩
def zom (p4l:Nat) (b15:List V):St:=⟨(jn 4 ((V.own 15 0 p4l 1)::(jn 28 []))),(gn 15 ((.live true b15)::(gn 17 [])))⟩
def zif (p4:List (List V)) (b15:Nat):St:=⟨(jn 4 ((V.gs 1 p4)::(jn 28 []))),(gn 15 ((.dead b15)::(gn 17 [])))⟩
def zuW {β:Type} (L:Nat) (p0:Int) (k_hbbbbaba:Int→Nat→Int→List V→Option β):Option β :=
 lt (IntKind.wrap .u64 ((p0:Int)+(9:Int))) fun x0 =>
 lt (Int.tmod x0 (64:Int)) fun x1 =>
 lt (IntKind.wrap .u64 (((64:Int):Int) - x1)) fun x2 =>
 lt (Int.tmod x2 (64:Int)) fun x3 =>
 lt (IntKind.wrap .u64 (((1:Int):Int)+x3)) fun x4 =>
 lt (IntKind.wrap .u64 (((9:Int):Int)+x3)) fun x5 =>
 chk (0≤x4∧x4≤x5∧(Int.toNat x5) * 1≤yl∧x5≤yl) (
 chk (0≤(0:Int)∧(0:Int) < (((Int.toNat x4):Nat):Int)) (
 chk (1=1∧0+1≤(List.length (List.flatten (List.replicate (Int.toNat x5) [(V.sc (.int .u8 (0:Int)))])))) (
 lt (zr (List.flatten (List.replicate (Int.toNat x5) [(V.sc (.int .u8 (0:Int)))])) 0 [(V.sc (.int .u8 (128:Int)))]) fun r6 =>
 k_hbbbbaba p0 (Int.toNat x4) (0:Int) r6)))
theorem zA8 {β:Type} (L:Nat) (p0:Int) (k:KK β):zt zbj (zbi L) L zfz [(V.sc (.int .u64 p0))] [] k=zuW L p0 (fun p0 p4l p18 b15=>xq (xf zbj (zbi L) 0 L zbc) zce L (zhB p0 p4l p18 b15) (yn 0 (zy (xf zbj (zbi L) 0 L zjs) (yE 0 (CF.res zfz) k)))):=by kernel_rfl
def zho {β:Type} (L:Nat) (p0:Int) (p4l:Nat) (p18:Int) (b15:List V) (k_hbbbbabav1:Int→List (List V)→Int→Nat→Option β) (k_x0:Nat→List V→Option β):Option β :=
 ifb (decide (p18 < (8:Int))) (
 chk (0=0∧p4l * 1≤(List.length b15)∧(List.length b15)≠0) (
 lt (IntKind.wrap .u64 (((8:Int):Int) * p0)) fun x7 =>
 lt (IntKind.wrap .i64 (((8:Int):Int) * p18)) fun x8 =>
 lt (IntKind.wrap .i64 (((56:Int):Int) - x8)) fun x9 =>
 chk (0≤x9) (
 lt (zcZ .u64 x7 x9) fun x10 =>
 lt (IntKind.wrap .u8 x10) fun x11 =>
 chk ((List.length (yp 1 p4l b15)+List.length (yp 1 1 [(V.sc (.int .u8 x11))])) * 1≤yl∧List.length (yp 1 p4l b15)+List.length (yp 1 1 [(V.sc (.int .u8 x11))])≤yl) (
 lt ((yp 1 p4l b15)++(yp 1 1 [(V.sc (.int .u8 x11))])) fun l12 =>
 lt (IntKind.wrap .i64 ((p18:Int)+(1:Int))) fun x13 =>
 k_hbbbbabav1 p0 l12 x13 (List.length b15))))) (
 k_x0 p4l b15)
theorem ztJ {β:Type} (L:Nat) (p0:Int) (p4l:Nat) (p18:Int) (b15:List V) (X:St→Option β) (K:KT β):xf zbj (zbi L) 0 L zbc (zhB p0 p4l p18 b15) (yN zce X K)=zho L p0 p4l p18 b15 (fun p0 p4 p18 b15=>X (zdV p0 p4 p18 b15)) (fun p4l b15=>K (.exit 0) (zom p4l b15)):=by kernel_rfl
def ziE {β:Type} (L:Nat) (p4l:Nat) (b15:List V) (k_fin:List (List V)→Option β):Option β :=
 chk (p4l≠0∨(List.length b15)=0) (
 k_fin (yp 1 p4l b15))
theorem zrt {β:Type} (L:Nat) (p4l:Nat) (b15:List V) (k:KK β):(yn 0 (zy (xf zbj (zbi L) 0 L zjs) (yE 0 (CF.res zfz) k))) (.exit 0) (zom p4l b15)=ziE L p4l b15 (fun p0=>k (V.fr 1 p0) []):=by kernel_rfl
def zdJ {β:Type} (L:Nat) (p0:Int) (p4:List (List V)) (p18:Int) (b15:Nat) (k_hbbbbabav1:Int→List (List V)→Int→Nat→Option β) (k_x0v1:List (List V)→Nat→Option β):Option β :=
 ifb (decide (p18 < (8:Int))) (
 lt (IntKind.wrap .u64 (((8:Int):Int) * p0)) fun x14 =>
 lt (IntKind.wrap .i64 (((8:Int):Int) * p18)) fun x15 =>
 lt (IntKind.wrap .i64 (((56:Int):Int) - x15)) fun x16 =>
 chk (0≤x16) (
 lt (zcZ .u64 x14 x16) fun x17 =>
 lt (IntKind.wrap .u8 x17) fun x18 =>
 chk ((List.length p4+List.length (yp 1 1 [(V.sc (.int .u8 x18))])) * 1≤yl∧List.length p4+List.length (yp 1 1 [(V.sc (.int .u8 x18))])≤yl) (
 lt (p4++(yp 1 1 [(V.sc (.int .u8 x18))])) fun l19 =>
 lt (IntKind.wrap .i64 ((p18:Int)+(1:Int))) fun x20 =>
 k_hbbbbabav1 p0 l19 x20 b15))) (
 k_x0v1 p4 b15)
theorem zrT {β:Type} (L:Nat) (p0:Int) (p4:List (List V)) (p18:Int) (b15:Nat) (X:St→Option β) (K:KT β):xf zbj (zbi L) 0 L zbc (zdV p0 p4 p18 b15) (yN zce X K)=zdJ L p0 p4 p18 b15 (fun p0 p4 p18 b15=>X (zdV p0 p4 p18 b15)) (fun p4 b15=>K (.exit 0) (zif p4 b15)):=by kernel_rfl
def zdx {β:Type} (L:Nat) (p4:List (List V)) (b15:Nat) (k_finv1:List (List V)→Option β):Option β :=
 k_finv1 p4
theorem zoT {β:Type} (L:Nat) (p4:List (List V)) (b15:Nat) (k:KK β):(yn 0 (zy (xf zbj (zbi L) 0 L zjs) (yE 0 (CF.res zfz) k))) (.exit 0) (zif p4 b15)=zdx L p4 b15 (fun p0=>k (V.gs 1 p0) []):=by kernel_rfl
def zbr {β:Type} (L:Nat) (k_x0v1:List (List V)→Nat→Option β):Nat→Int→List (List V)→Int→Nat→Option β
 | 0,_,_,_,_=>none
 | n+1,p0,p4,p18,b15=>zdJ L p0 p4 p18 b15 (fun p0 p4 p18 b15=>zbr L k_x0v1 n p0 p4 p18 b15) k_x0v1
theorem zrF {β:Type} (L:Nat) (K:KT β):∀ (n:Nat) (p0:Int) (p4:List (List V)) (p18:Int) (b15:Nat),xq (xf zbj (zbi L) 0 L zbc) zce n (zdV p0 p4 p18 b15) K=zbr L (fun p4 b15=>K (.exit 0) (zif p4 b15)) n p0 p4 p18 b15:=by
 intro n
 induction n with
 | zero=>intros; rfl
 | succ n ih =>
  intro p0 p4 p18 b15
  refine (zrT L p0 p4 p18 b15 (fun σ=>xq (xf zbj (zbi L) 0 L zbc) zce n σ K) K).trans ?_
  simp only [ih]
  rfl
def zpT {β:Type} (L:Nat) (k_x0:Nat→List V→Option β) (k_x0v1:List (List V)→Nat→Option β):Nat→Int→Nat→Int→List V→Option β
 | 0,_,_,_,_=>none
 | n+1,p0,p4l,p18,b15=>zho L p0 p4l p18 b15 (fun p0 p4 p18 b15=>zbr L k_x0v1 n p0 p4 p18 b15) k_x0
theorem zmz {β:Type} (L:Nat) (K:KT β):∀ (n:Nat) (p0:Int) (p4l:Nat) (p18:Int) (b15:List V),xq (xf zbj (zbi L) 0 L zbc) zce n (zhB p0 p4l p18 b15) K=zpT L (fun p4l b15=>K (.exit 0) (zom p4l b15)) (fun p4 b15=>K (.exit 0) (zif p4 b15)) n p0 p4l p18 b15:=by
 intro n
 induction n with
 | zero=>intros; rfl
 | succ n ih =>
  intro p0 p4l p18 b15
  refine (ztJ L p0 p4l p18 b15 (fun σ=>xq (xf zbj (zbi L) 0 L zbc) zce n σ K) K).trans ?_
  simp only [zrF]
  rfl
def zqn {β:Type} (L:Nat) (p0:Int) (k_fin:List (List V)→Option β) (k_finv1:List (List V)→Option β):Option β :=
 zuW L p0 (fun p0 p4l p18 b15=>zpT L (fun p4l b15=>ziE L p4l b15 k_fin) (fun p4 b15=>zdx L p4 b15 k_finv1) L p0 p4l p18 b15)
theorem zBf {β:Type} (L:Nat) (p0:Int) (k:KK β):zt zbj (zbi L) L zfz [(V.sc (.int .u64 p0))] [] k=zqn L p0 (fun p0=>k (V.fr 1 p0) []) (fun p0=>k (V.gs 1 p0) []):=by
 refine (zA8 L p0 k).trans ?_
 unfold zqn
 first
  | (simp only [zmz,zrt,zoT]; done)
  | (simp only [zmz]; rfl)
abbrev zaa:=∀ (β:Type),Nat→Int→(List (List V)→Option β)→(List (List V)→Option β)→Option β
def zn (β:Type) (L:Nat) (p0:Int) (k_fin:List (List V)→Option β) (k_finv1:List (List V)→Option β):Option β:=zqn L p0 k_fin k_finv1
def zqC (zn:zaa) (L:Nat) (β:Type) (args:List V) (bor:Bor) (k:KK β):Option β:=match args,bor with
 | [a0],[]=>aI .u64 a0 fun p0=>zn β L p0 (fun p0=>k (V.fr 1 p0) []) (fun p0=>k (V.gs 1 p0) [])
 | _,_=>none
theorem zBi (L:Nat) (β:Type) (args:List V) (bor:Bor) (k:KK β) (r:β) (h:zqC zn L β args bor k=some r):zt zbj (zbi L) L zfz args bor k=some r:=by
 unfold zqC at h
 split at h
 ·have q:=zbt h; clear h; obtain ⟨p0,rfl,h⟩:=q
  exact (zBf L p0 k).trans h
 ·cases h
def zfl:CC:=(.seq (.reg [oo 9 (.bin .lss (tq 8) (tq 7))])
 (.seq (.cond (tq 9)
 .skip
 (.seq (.mask (bl 8 17) (bl 114655 17))
 (.exit 0)))
 (.seq (.block 1 (.seq (.reg [oo 10 (.indexAddrS 1 (tq 6) (tq 8)),
   oo 11 (.load false 1 (tq 10) false),
   oo 5 (.move (tq 11) false)])
 (.reg [oo 12 (.move (tq 3) true),
   oo 13 (.move (tq 5) false),
   oo 14 (.append 1 1 (tq 12) (tq 13)),
   oo 3 (.move (tq 14) true)])))
 (.reg [oo 15 (.bin .add (tq 8) (.const (.sc (.int .i64 1)))),
   oo 8 (.move (tq 15) false)]))))
def zpx:CC:=(.seq (.reg [oo 16 (.move (tq 3) true),
   oo 2 (.move (tq 16) true)])
 .ret)
def zgS:CF:=⟨17,[.tmp 2],
 (.seq (.reg [oo 2 (.move (.const (.gs 1 [])) true)])
 (.seq (.reg [oo 3 (.move (.const (.gs 1 [])) true)])
 (.seq (.seq (.reg [oo 6 (.move (tq 0) false),
   oo 7 (.lenS (tq 6)),
   oo 8 (.move (.const (.sc (.int .i64 0))) false)])
 (.block 0 (.loop (bl 456 17) (bl 114655 17)
 zfl)))
 zpx)))⟩
def zt5:Hint:=⟨[(0,0),(1,0),(5,0),(5,3),(7,0),(7,1)],[],[none,some ((bl 456 17),(bl 114655 17)),none,some ((bl 8 17),(bl 114655 17)),none,none],[],[],false,false⟩
def zdu:Nat→Sh:=xQ [(11,(.sl 1))]
def zdw (L:Nat):CBC:=noC
def zju:St→St:=zS 0 (bl 456 17) (bl 114655 17)
def zf5 (p3 p6:List (List V)) (p7 p8:Int):St:=⟨(jn 3 ((V.gs 1 p3)::(jn 2 ((V.sl 1 p6)::((V.sc (.int .i64 p7))::((V.sc (.int .i64 p8))::(jn 8 []))))))),(gn 17 [])⟩
def zoc (p3:List (List V)):St:=⟨(jn 3 ((V.gs 1 p3)::(jn 13 []))),(gn 17 [])⟩
def zu0 {β:Type} (L:Nat) (p0:List (List V)) (k_hbbaba:List (List V)→List (List V)→Int→Int→Option β):Option β :=
 k_hbbaba ([]:List (List V)) p0 ((List.length p0:Nat):Int) (0:Int)
theorem zAC {β:Type} (L:Nat) (p0:List (List V)) (k:KK β):zt zdu (zdw L) L zgS [(V.sl 1 p0)] [] k=zu0 L p0 (fun p3 p6 p7 p8=>xq (xf zdu (zdw L) 0 L zfl) zju L (zf5 p3 p6 p7 p8) (yn 0 (zy (xf zdu (zdw L) 0 L zpx) (yE 0 (CF.res zgS) k)))):=by kernel_rfl
def zcq {β:Type} (L:Nat) (p3 p6:List (List V)) (p7 p8:Int) (k_hbbaba:List (List V)→List (List V)→Int→Int→Option β) (k_x0:List (List V)→Option β):Option β :=
 ifb (decide (p8 < p7)) (
 idx p6 p8 fun c0 =>
 cL 1 c0 0 fun v1 =>
 chk ((List.length p3+List.length v1) * 1≤yl∧List.length p3+List.length v1≤yl) (
 lt (p3++v1) fun l2 =>
 lt (IntKind.wrap .i64 ((p8:Int)+(1:Int))) fun x3 =>
 k_hbbaba l2 p6 p7 x3)) (
 k_x0 p3)
theorem zvF {β:Type} (L:Nat) (p3 p6:List (List V)) (p7 p8:Int) (X:St→Option β) (K:KT β):xf zdu (zdw L) 0 L zfl (zf5 p3 p6 p7 p8) (yN zju X K)=zcq L p3 p6 p7 p8 (fun p3 p6 p7 p8=>X (zf5 p3 p6 p7 p8)) (fun p3=>K (.exit 0) (zoc p3)):=by kernel_rfl
def zdi {β:Type} (L:Nat) (p3:List (List V)) (k_fin:List (List V)→Option β):Option β :=
 k_fin p3
theorem ztD {β:Type} (L:Nat) (p3:List (List V)) (k:KK β):(yn 0 (zy (xf zdu (zdw L) 0 L zpx) (yE 0 (CF.res zgS) k))) (.exit 0) (zoc p3)=zdi L p3 (fun p0=>k (V.gs 1 p0) []):=by kernel_rfl
def zeG {β:Type} (L:Nat) (k_x0:List (List V)→Option β):Nat→List (List V)→List (List V)→Int→Int→Option β
 | 0,_,_,_,_=>none
 | n+1,p3,p6,p7,p8=>zcq L p3 p6 p7 p8 (fun p3 p6 p7 p8=>zeG L k_x0 n p3 p6 p7 p8) k_x0
theorem zor {β:Type} (L:Nat) (K:KT β):∀ (n:Nat) (p3 p6:List (List V)) (p7 p8:Int),xq (xf zdu (zdw L) 0 L zfl) zju n (zf5 p3 p6 p7 p8) K=zeG L (fun p3=>K (.exit 0) (zoc p3)) n p3 p6 p7 p8:=by
 intro n
 induction n with
 | zero=>intros; rfl
 | succ n ih =>
  intro p3 p6 p7 p8
  refine (zvF L p3 p6 p7 p8 (fun σ=>xq (xf zdu (zdw L) 0 L zfl) zju n σ K) K).trans ?_
  simp only [ih]
  rfl
def zqD {β:Type} (L:Nat) (p0:List (List V)) (k_fin:List (List V)→Option β):Option β :=
 zu0 L p0 (fun p3 p6 p7 p8=>zeG L (fun p3=>zdi L p3 k_fin) L p3 p6 p7 p8)
theorem zAi {β:Type} (L:Nat) (p0:List (List V)) (k:KK β):zt zdu (zdw L) L zgS [(V.sl 1 p0)] [] k=zqD L p0 (fun p0=>k (V.gs 1 p0) []):=by
 refine (zAC L p0 k).trans ?_
 unfold zqD
 first
  | (simp only [zor,ztD]; done)
  | (simp only [zor]; rfl)
abbrev zab:=∀ (β:Type),Nat→List (List V)→(List (List V)→Option β)→Option β
def xm (β:Type) (L:Nat) (p0:List (List V)) (k_fin:List (List V)→Option β):Option β:=zqD L p0 k_fin
def zqv (xm:zab) (L:Nat) (β:Type) (args:List V) (bor:Bor) (k:KK β):Option β:=match args,bor with
 | [a0],[]=>aL 1 a0 fun p0=>xm β L p0 (fun p0=>k (V.gs 1 p0) [])
 | _,_=>none
theorem zBh (L:Nat) (β:Type) (args:List V) (bor:Bor) (k:KK β) (r:β) (h:zqv xm L β args bor k=some r):zt zdu (zdw L) L zgS args bor k=some r:=by
 unfold zqv at h
 split at h
 ·have q:=za2 h; clear h; obtain ⟨p0,rfl,h⟩:=q
  exact (zAi L p0 k).trans h
 ·cases h
def zcs:CF:=⟨17,[.tmp 4],
 (.seq (.reg [oo 4 (.move (.const (.sc (.int .u32 0))) false)])
 (.seq (.reg [oo 6 (.move (tq 1) false),
   oo 7 (.conv .u64 (tq 6)),
   oo 8 (.bin .and (tq 7) (.const (.sc (.int .u64 31)))),
   oo 5 (.move (tq 8) false)])
 (.seq (.reg [oo 9 (.move (tq 0) false),
   oo 10 (.move (tq 5) false),
   oo 11 (.bin .shl (tq 9) (tq 10)),
   oo 12 (.move (tq 0) false),
   oo 13 (.move (tq 5) false),
   oo 14 (.bin .sub (.const (.sc (.int .u64 32))) (tq 13)),
   oo 15 (.bin .shr (tq 12) (tq 14)),
   oo 16 (.bin .or (tq 11) (tq 15)),
   oo 4 (.move (tq 16) false)])
 .ret)))⟩
def zgE:Hint:=⟨[],[],[none],[],[],false,false⟩
def zen:Nat→Sh:=xQ []
def zev (L:Nat):CBC:=noC
def zeI {β:Type} (L:Nat) (p0 p1:Int) (k_fin:Int→Option β):Option β :=
 lt (IntKind.wrap .u64 p1) fun x0 =>
 lt (zf0 .u64 x0 (31:Int)) fun x1 =>
 chk (0≤x1) (
 lt (zhC .u32 p0 x1) fun x2 =>
 lt (IntKind.wrap .u64 (((32:Int):Int) - x1)) fun x3 =>
 chk (0≤x3) (
 lt (zcZ .u32 p0 x3) fun x4 =>
 lt (ior .u32 x2 x4) fun x5 =>
 k_fin x5))
theorem znH {β:Type} (L:Nat) (p0 p1:Int) (k:KK β):zt zen (zev L) L zcs [(V.sc (.int .u32 p0)),(V.sc (.int .i64 p1))] [] k=zeI L p0 p1 (fun p0=>k (V.sc (.int .u32 p0)) []):=by kernel_rfl
abbrev y9:=∀ (β:Type),Nat→Int→Int→(Int→Option β)→Option β
def zl (β:Type) (L:Nat) (p0 p1:Int) (k_fin:Int→Option β):Option β:=zeI L p0 p1 k_fin
def zbv (zl:y9) (L:Nat) (β:Type) (args:List V) (bor:Bor) (k:KK β):Option β:=match args,bor with
 | [a0,a1],[]=>aI .u32 a0 fun p0=>aI .i64 a1 fun p1=>zl β L p0 p1 (fun p0=>k (V.sc (.int .u32 p0)) [])
 | _,_=>none
theorem zny (L:Nat) (β:Type) (args:List V) (bor:Bor) (k:KK β) (r:β) (h:zbv zl L β args bor k=some r):zt zen (zev L) L zcs args bor k=some r:=by
 unfold zbv at h
 split at h
 ·have q:=zbt h; clear h; obtain ⟨p0,rfl,h⟩:=q
  have q:=zbt h; clear h; obtain ⟨p1,rfl,h⟩:=q
  exact (znH L p0 p1 k).trans h
 ·cases h
def znq:CF:=⟨9,[.tmp 4],
 (.seq (.reg [oo 4 (.move (.const (.sc (.int .u32 0))) false)])
 (.seq (.reg [oo 5 (.move (tq 0) false),
   oo 6 (.move (tq 1) false),
   oo 7 (.un .neg (tq 6)),
   oo 8 (.call 572 [((tq 5),0),((tq 7),0)] []),
   oo 4 (.move (tq 8) false)])
 .ret))⟩
def ztk:Hint:=⟨[],[],[none],[],[],false,false⟩
def zqZ:Nat→Sh:=xQ []
def zq4 (zl:y9) (L:Nat):CBC:=(xy 572 (zbv zl L) noC)
def zst {β:Type} (zl:y9) (L:Nat) (p0 p1:Int) (k_fin:Int→Option β):Option β :=
 lt (IntKind.wrap .i64 (0 - p1)) fun x0 =>
 zl β L p0 x0 (fun v1 =>
 k_fin v1)
theorem zzn {β:Type} (zl:y9) (L:Nat) (p0 p1:Int) (k:KK β):zt zqZ (zq4 zl L) L znq [(V.sc (.int .u32 p0)),(V.sc (.int .i64 p1))] [] k=zst zl L p0 p1 (fun p0=>k (V.sc (.int .u32 p0)) []):=by kernel_rfl
abbrev yy:=∀ (β:Type),Nat→Int→Int→(Int→Option β)→Option β
def zd (β:Type) (L:Nat) (p0 p1:Int) (k_fin:Int→Option β):Option β:=zst zl L p0 p1 k_fin
def zmo (zd:yy) (L:Nat) (β:Type) (args:List V) (bor:Bor) (k:KK β):Option β:=match args,bor with
 | [a0,a1],[]=>aI .u32 a0 fun p0=>aI .i64 a1 fun p1=>zd β L p0 p1 (fun p0=>k (V.sc (.int .u32 p0)) [])
 | _,_=>none
theorem zzs (L:Nat) (β:Type) (args:List V) (bor:Bor) (k:KK β) (r:β) (h:zmo zd L β args bor k=some r):zt zqZ (zq4 zl L) L znq args bor k=some r:=by
 unfold zmo at h
 split at h
 ·have q:=zbt h; clear h; obtain ⟨p0,rfl,h⟩:=q
  have q:=zbt h; clear h; obtain ⟨p1,rfl,h⟩:=q
  exact (zzn zl L p0 p1 k).trans h
 ·cases h
end
end Go.Proofs.YtoeobffjdbdpgaaDoor
