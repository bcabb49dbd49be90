/- Part 9 of the proof of TxWitnessFree: an abstract machine over plain values, its soundness, and the functions of the program on plain values. -/
import Derived.Test.YtoeobffjdbdpgaaDoorRows
import Derived.Test.YtoeobffjdbdpgaaDoorMTxWitnessFree8
namespace Go.Proofs.YtoeobffjdbdpgaaDoor
section
set_option maxRecDepth 100000
set_option linter.unusedVariables false
set_option linter.unusedSimpArgs false
def gk_sha_initial:List V:=[.sc (.int .u32 1779033703),.sc (.int .u32 3144134277),.sc (.int .u32 1013904242),.sc (.int .u32 2773480762),.sc (.int .u32 1359893119),.sc (.int .u32 2600822924),.sc (.int .u32 528734635),.sc (.int .u32 1541459225)]
def gk_sha_k:List V:=[.sc (.int .u32 1116352408),.sc (.int .u32 1899447441),.sc (.int .u32 3049323471),.sc (.int .u32 3921009573),.sc (.int .u32 961987163),.sc (.int .u32 1508970993),.sc (.int .u32 2453635748),.sc (.int .u32 2870763221),.sc (.int .u32 3624381080),.sc (.int .u32 310598401),.sc (.int .u32 607225278),.sc (.int .u32 1426881987),.sc (.int .u32 1925078388),.sc (.int .u32 2162078206),.sc (.int .u32 2614888103),.sc (.int .u32 3248222580),.sc (.int .u32 3835390401),.sc (.int .u32 4022224774),.sc (.int .u32 264347078),.sc (.int .u32 604807628),.sc (.int .u32 770255983),.sc (.int .u32 1249150122),.sc (.int .u32 1555081692),.sc (.int .u32 1996064986),.sc (.int .u32 2554220882),.sc (.int .u32 2821834349),.sc (.int .u32 2952996808),.sc (.int .u32 3210313671),.sc (.int .u32 3336571891),.sc (.int .u32 3584528711),.sc (.int .u32 113926993),.sc (.int .u32 338241895),.sc (.int .u32 666307205),.sc (.int .u32 773529912),.sc (.int .u32 1294757372),.sc (.int .u32 1396182291),.sc (.int .u32 1695183700),.sc (.int .u32 1986661051),.sc (.int .u32 2177026350),.sc (.int .u32 2456956037),.sc (.int .u32 2730485921),.sc (.int .u32 2820302411),.sc (.int .u32 3259730800),.sc (.int .u32 3345764771),.sc (.int .u32 3516065817),.sc (.int .u32 3600352804),.sc (.int .u32 4094571909),.sc (.int .u32 275423344),.sc (.int .u32 430227734),.sc (.int .u32 506948616),.sc (.int .u32 659060556),.sc (.int .u32 883997877),.sc (.int .u32 958139571),.sc (.int .u32 1322822218),.sc (.int .u32 1537002063),.sc (.int .u32 1747873779),.sc (.int .u32 1955562222),.sc (.int .u32 2024104815),.sc (.int .u32 2227730452),.sc (.int .u32 2361852424),.sc (.int .u32 2428436474),.sc (.int .u32 2756734187),.sc (.int .u32 3204031479),.sc (.int .u32 3329325298)]
def zbo:CC:=(.seq (.reg [oo 11 (.bin .lss (tq 10) (tq 9))])
 (.seq (.cond (tq 11)
 .skip
 (.seq (.mask (bl 32 23) (bl 8388543 23))
 (.exit 0)))
 (.seq (.block 1 (.seq (.reg [oo 12 (.move (tq 10) false),
   oo 6 (.move (tq 12) false)])
 (.reg [oo 13 (.move (tq 5) false),
   oo 14 (.move (tq 6) false),
   oo 15 (.move (tq 0) false),
   oo 16 (.move (tq 6) false),
   oo 17 (.bin .mul (.const (.sc (.int .i64 8))) (tq 16)),
   oo 18 (.bin .shr (tq 15) (tq 17)),
   oo 19 (.conv .u8 (tq 18)),
   oo 20 (.indexAddrS 1 (tq 13) (tq 14)),
   oz (.store 1 (tq 20) (tq 19))])))
 (.reg [oo 21 (.bin .add (tq 10) (.const (.sc (.int .i64 1)))),
   oo 10 (.move (tq 21) false)]))))
def zgm:CC:=(.seq (.reg [oo 22 (.move (tq 5) true),
   oo 4 (.move (tq 22) true)])
 .ret)
def zbp:CF:=⟨23,[.tmp 4],
 (.seq (.reg [oo 4 (.move (.const (.gs 1 [])) true)])
 (.seq (.reg [oo 7 (.move (tq 1) false),
   ⟨(some 8),true,none,.makeSlice 1 1 [(.sc (.int .u8 0))] (tq 7) (tq 7)⟩,
   oo 5 (.move (tq 8) true)])
 (.seq (.seq (.reg [oo 9 (.move (tq 1) false),
   oo 10 (.move (.const (.sc (.int .i64 0))) false)])
 (.block 0 (.loop (bl 1569 23) (bl 8388543 23)
 zbo)))
 zgm)))⟩
def zkh:Hint:=⟨[(0,0),(1,2),(7,0),(7,1)],[(1,1)],[none,some ((bl 1569 23),(bl 8388543 23)),none,some ((bl 32 23),(bl 8388543 23)),none,none],[],[],false,false,[]⟩
def zad:Nat→Sh:=xI []
def zag (L:Nat):CBC:=noC
def zdf:St→St:=yJ 0 (bl 1569 23) (bl 8388543 23)
def zb3 (p0:Int) (p5l:Nat) (p9 p10:Int) (b8:List V):St:=⟨((V.sc (.int .u64 p0))::(jn 4 ((V.own 8 0 p5l 1)::(jn 3 ((V.sc (.int .i64 p9))::((V.sc (.int .i64 p10))::(jn 12 []))))))),(gn 8 ((.live true b8)::(gn 14 [])))⟩
def zfF (p5l:Nat) (b8:List V):St:=⟨(jn 5 ((V.own 8 0 p5l 1)::(jn 17 []))),(gn 8 ((.live true b8)::(gn 14 [])))⟩
def znw {β:Type} (L:Nat) (p0 p1:Int) (k_hbbaba:Int→Nat→Int→Int→List V→Option β):Option β :=
 chk (0≤p1∧p1≤p1∧(Int.toNat p1) * 1≤xg∧p1≤xg) (
 k_hbbaba p0 (Int.toNat p1) p1 (0:Int) (List.flatten (List.replicate (Int.toNat p1) [(V.sc (.int .u8 (0:Int)))])))
theorem zrf {β:Type} (L:Nat) (p0 p1:Int) (k:KK β):yz zad (zag L) L zbp [(V.sc (.int .u64 p0)),(V.sc (.int .i64 p1))] [] k=znw L p0 p1 (fun p0 p5l p9 p10 b8=>xy (zj zad (zag L) 0 L zbo) zdf L (zb3 p0 p5l p9 p10 b8) (zr 0 (xH (zj zad (zag L) 0 L zgm) (zP 0 (CF.res zbp) k)))):=by kernel_rfl
def ziG {β:Type} (L:Nat) (p0:Int) (p5l:Nat) (p9 p10:Int) (b8:List V) (k_hbbaba:Int→Nat→Int→Int→List V→Option β) (k_x0:Nat→List V→Option β):Option β :=
 ifb (decide (p10 < p9)) (
 lt (IntKind.wrap .i64 (((8:Int):Int) * p10)) fun x0 =>
 chk (0≤x0) (
 lt (zdJ .u64 p0 x0) fun x1 =>
 lt (IntKind.wrap .u8 x1) fun x2 =>
 chk (0≤p10∧p10 < ((p5l:Nat):Int)) (
 chk (1=1∧(0+((Int.toNat p10) * 1))+1≤(List.length b8)) (
 lt (xk b8 (0+((Int.toNat p10) * 1)) [(V.sc (.int .u8 x2))]) fun r3 =>
 lt (IntKind.wrap .i64 ((p10:Int)+(1:Int))) fun x4 =>
 k_hbbaba p0 p5l p9 x4 r3)))) (
 k_x0 p5l b8)
theorem zmL {β:Type} (L:Nat) (p0:Int) (p5l:Nat) (p9 p10:Int) (b8:List V) (X:St→Option β) (K:KT β):zj zad (zag L) 0 L zbo (zb3 p0 p5l p9 p10 b8) (y5 zdf X K)=ziG L p0 p5l p9 p10 b8 (fun p0 p5l p9 p10 b8=>X (zb3 p0 p5l p9 p10 b8)) (fun p5l b8=>K (.exit 0) (zfF p5l b8)):=by kernel_rfl
def zhx {β:Type} (L:Nat) (p5l:Nat) (b8:List V) (k_fin:List (List V)→Option β):Option β :=
 chk (p5l≠0∨(List.length b8)=0) (
 k_fin (yf 1 p5l b8))
theorem zkT {β:Type} (L:Nat) (p5l:Nat) (b8:List V) (k:KK β):(zr 0 (xH (zj zad (zag L) 0 L zgm) (zP 0 (CF.res zbp) k))) (.exit 0) (zfF p5l b8)=zhx L p5l b8 (fun p0=>k (V.fr 1 p0) []):=by kernel_rfl
def ze2 {β:Type} (L:Nat) (k_x0:Nat→List V→Option β):Nat→Int→Nat→Int→Int→List V→Option β
 | 0,_,_,_,_,_=>none
 | n+1,p0,p5l,p9,p10,b8=>ziG L p0 p5l p9 p10 b8 (fun p0 p5l p9 p10 b8=>ze2 L k_x0 n p0 p5l p9 p10 b8) k_x0
theorem zgJ {β:Type} (L:Nat) (K:KT β):∀ (n:Nat) (p0:Int) (p5l:Nat) (p9 p10:Int) (b8:List V),xy (zj zad (zag L) 0 L zbo) zdf n (zb3 p0 p5l p9 p10 b8) K=ze2 L (fun p5l b8=>K (.exit 0) (zfF p5l b8)) n p0 p5l p9 p10 b8:=by
 intro n
 induction n with
 | zero=>intros; rfl
 | succ n ih =>
  intro p0 p5l p9 p10 b8
  refine (zmL L p0 p5l p9 p10 b8 (fun σ=>xy (zj zad (zag L) 0 L zbo) zdf n σ K) K).trans ?_
  simp only [ih]
  rfl
def ziQ {β:Type} (L:Nat) (p0 p1:Int) (k_fin:List (List V)→Option β):Option β :=
 znw L p0 p1 (fun p0 p5l p9 p10 b8=>ze2 L (fun p5l b8=>zhx L p5l b8 k_fin) L p0 p5l p9 p10 b8)
theorem zrk {β:Type} (L:Nat) (p0 p1:Int) (k:KK β):yz zad (zag L) L zbp [(V.sc (.int .u64 p0)),(V.sc (.int .i64 p1))] [] k=ziQ L p0 p1 (fun p0=>k (V.fr 1 p0) []):=by
 refine (zrf L p0 p1 k).trans ?_
 unfold ziQ
 first
  | (simp only [zgJ,zkT]; done)
  | (simp only [zgJ]; rfl)
abbrev zaq:=∀ (β:Type),Nat→Int→Int→(List (List V)→Option β)→Option β
def yk (β:Type) (L:Nat) (p0 p1:Int) (k_fin:List (List V)→Option β):Option β:=ziQ L p0 p1 k_fin
def zcO (yk:zaq) (L:Nat) (β:Type) (args:List V) (bor:Bor) (k:KK β):Option β:=match args,bor with
 | [a0,a1],[]=>aI .u64 a0 fun p0=>aI .i64 a1 fun p1=>yk β L p0 p1 (fun p0=>k (V.fr 1 p0) [])
 | _,_=>none
theorem zrv (L:Nat) (β:Type) (args:List V) (bor:Bor) (k:KK β) (r:β) (h:zcO yk L β args bor k=some r):yz zad (zag L) L zbp args bor k=some r:=by
 unfold zcO at h
 split at h
 ·have q:=zc7 h; clear h; obtain ⟨p0,rfl,h⟩:=q
  have q:=zc7 h; clear h; obtain ⟨p1,rfl,h⟩:=q
  exact (zrk L p0 p1 k).trans h
 ·cases h
def zfg:CF:=⟨18,[.tmp 4],
 (.seq (.reg [oo 4 (.move (.const (.gs 1 [])) true)])
 (.seq (.reg [oo 6 (.move (tq 0) false),
   oo 7 (.lenS (tq 6)),
   oo 8 (.move (tq 1) false),
   oo 9 (.lenS (tq 8)),
   oo 10 (.bin .add (tq 7) (tq 9)),
   oo 11 (.makeSlice 1 1 [(.sc (.int .u8 0))] (.const (.sc (.int .i64 0))) (tq 10)),
   oo 5 (.move (tq 11) true)])
 (.seq (.reg [oo 12 (.move (tq 5) true),
   oo 13 (.move (tq 0) false),
   oo 14 (.append 1 1 (tq 12) (tq 13)),
   oo 5 (.move (tq 14) true)])
 (.seq (.reg [oo 15 (.move (tq 5) true),
   oo 16 (.move (tq 1) false),
   oo 17 (.append 1 1 (tq 15) (tq 16)),
   oo 4 (.move (tq 17) true)])
 .ret))))⟩
def zkc:Hint:=⟨[(0,0),(1,6),(2,0),(2,3),(3,0),(3,3)],[],[none],[],[],false,false,[]⟩
def zh7:Nat→Sh:=xI []
def ziq (L:Nat):CBC:=noC
def ziW {β:Type} (L:Nat) (p0 p1:List (List V)) (k_fin:List (List V)→Option β):Option β :=
 lt (IntKind.wrap .i64 ((((List.length p0:Nat):Int):Int)+((List.length p1:Nat):Int))) fun x0 =>
 chk (0≤(0:Int)∧(0:Int)≤x0∧(Int.toNat x0) * 1≤xg∧x0≤xg) (
 chk ((List.length (List.replicate 0 [(V.sc (.int .u8 (0:Int)))])+List.length p0) * 1≤xg∧List.length (List.replicate 0 [(V.sc (.int .u8 (0:Int)))])+List.length p0≤xg) (
 lt ((List.replicate 0 [(V.sc (.int .u8 (0:Int)))])++p0) fun l1 =>
 chk ((List.length l1+List.length p1) * 1≤xg∧List.length l1+List.length p1≤xg) (
 lt (l1++p1) fun l2 =>
 k_fin l2)))
theorem zre {β:Type} (L:Nat) (p0 p1:List (List V)) (k:KK β):yz zh7 (ziq L) L zfg [(V.sl 1 p0),(V.sl 1 p1)] [] k=ziW L p0 p1 (fun p0=>k (V.gs 1 p0) []):=by kernel_rfl
abbrev yD:=∀ (β:Type),Nat→List (List V)→List (List V)→(List (List V)→Option β)→Option β
def zd (β:Type) (L:Nat) (p0 p1:List (List V)) (k_fin:List (List V)→Option β):Option β:=ziW L p0 p1 k_fin
def zaO (zd:yD) (L:Nat) (β:Type) (args:List V) (bor:Bor) (k:KK β):Option β:=match args,bor with
 | [a0,a1],[]=>aL 1 a0 fun p0=>aL 1 a1 fun p1=>zd β L p0 p1 (fun p0=>k (V.gs 1 p0) [])
 | _,_=>none
theorem zrd (L:Nat) (β:Type) (args:List V) (bor:Bor) (k:KK β) (r:β) (h:zaO zd L β args bor k=some r):yz zh7 (ziq L) L zfg args bor k=some r:=by
 unfold zaO at h
 split at h
 ·have q:=zcy h; clear h; obtain ⟨p0,rfl,h⟩:=q
  have q:=zcy h; clear h; obtain ⟨p1,rfl,h⟩:=q
  exact (zre L p0 p1 k).trans h
 ·cases h
def zdA:CF:=⟨10,[.tmp 4],
 (.seq (.reg [oo 4 (.move (.const (.gs 1 [])) true)])
 (.seq (.reg [oo 5 (.move (tq 0) false),
   oo 6 (.move (tq 1) false),
   oo 7 (.conv .u64 (tq 6)),
   oo 8 (.call 192 [((tq 7),0),((.const (.sc (.int .i64 4))),0)] []),
   oo 9 (.call 191 [((tq 5),0),((tq 8),0)] []),
   oo 4 (.move (tq 9) true)])
 .ret))⟩
def zhM:Hint:=⟨[(0,0),(1,5)],[],[none],[],[],false,false,[]⟩
def zfl:Nat→Sh:=xI []
def zfU (yk:zaq) (zd:yD) (L:Nat):CBC:=(xr 191 (zaO zd L) (xr 192 (zcO yk L) noC))
def zgA {β:Type} (yk:zaq) (zd:yD) (L:Nat) (p0:List (List V)) (p1:Int) (k_fin:List (List V)→Option β):Option β :=
 lt (IntKind.wrap .u64 p1) fun x0 =>
 yk β L x0 (4:Int) (fun v1 =>
 zd β L p0 v1 (fun v2 =>
 k_fin v2))
theorem zoA {β:Type} (yk:zaq) (zd:yD) (L:Nat) (p0:List (List V)) (p1:Int) (k:KK β):yz zfl (zfU yk zd L) L zdA [(V.sl 1 p0),(V.sc (.int .u32 p1))] [] k=zgA yk zd L p0 p1 (fun p0=>k (V.gs 1 p0) []):=by kernel_rfl
abbrev xf:=∀ (β:Type),Nat→List (List V)→Int→(List (List V)→Option β)→Option β
def za (β:Type) (L:Nat) (p0:List (List V)) (p1:Int) (k_fin:List (List V)→Option β):Option β:=zgA yk zd L p0 p1 k_fin
def zbw (za:xf) (L:Nat) (β:Type) (args:List V) (bor:Bor) (k:KK β):Option β:=match args,bor with
 | [a0,a1],[]=>aL 1 a0 fun p0=>aI .u32 a1 fun p1=>za β L p0 p1 (fun p0=>k (V.gs 1 p0) [])
 | _,_=>none
theorem zox (L:Nat) (β:Type) (args:List V) (bor:Bor) (k:KK β) (r:β) (h:zbw za L β args bor k=some r):yz zfl (zfU yk zd L) L zdA args bor k=some r:=by
 unfold zbw at h
 split at h
 ·have q:=zcy h; clear h; obtain ⟨p0,rfl,h⟩:=q
  have q:=zc7 h; clear h; obtain ⟨p1,rfl,h⟩:=q
  exact (zoA yk zd L p0 p1 k).trans h
 ·cases h
def zdo:CF:=⟨10,[.tmp 4],
 (.seq (.reg [oo 4 (.move (.const (.gs 1 [])) true)])
 (.seq (.reg [oo 5 (.move (tq 0) false),
   oo 6 (.move (tq 1) false),
   oo 7 (.conv .u64 (tq 6)),
   oo 8 (.call 192 [((tq 7),0),((.const (.sc (.int .i64 2))),0)] []),
   oo 9 (.call 191 [((tq 5),0),((tq 8),0)] []),
   oo 4 (.move (tq 9) true)])
 .ret))⟩
def zik:Hint:=⟨[(0,0),(1,5)],[],[none],[],[],false,false,[]⟩
def zfk:Nat→Sh:=xI []
def zfE (yk:zaq) (zd:yD) (L:Nat):CBC:=(xr 191 (zaO zd L) (xr 192 (zcO yk L) noC))
def zgv {β:Type} (yk:zaq) (zd:yD) (L:Nat) (p0:List (List V)) (p1:Int) (k_fin:List (List V)→Option β):Option β :=
 lt (IntKind.wrap .u64 p1) fun x0 =>
 yk β L x0 (2:Int) (fun v1 =>
 zd β L p0 v1 (fun v2 =>
 k_fin v2))
theorem zn4 {β:Type} (yk:zaq) (zd:yD) (L:Nat) (p0:List (List V)) (p1:Int) (k:KK β):yz zfk (zfE yk zd L) L zdo [(V.sl 1 p0),(V.sc (.int .u16 p1))] [] k=zgv yk zd L p0 p1 (fun p0=>k (V.gs 1 p0) []):=by kernel_rfl
abbrev zdV:=∀ (β:Type),Nat→List (List V)→Int→(List (List V)→Option β)→Option β
def xz (β:Type) (L:Nat) (p0:List (List V)) (p1:Int) (k_fin:List (List V)→Option β):Option β:=zgv yk zd L p0 p1 k_fin
def zdT (xz:zdV) (L:Nat) (β:Type) (args:List V) (bor:Bor) (k:KK β):Option β:=match args,bor with
 | [a0,a1],[]=>aL 1 a0 fun p0=>aI .u16 a1 fun p1=>xz β L p0 p1 (fun p0=>k (V.gs 1 p0) [])
 | _,_=>none
theorem znV (L:Nat) (β:Type) (args:List V) (bor:Bor) (k:KK β) (r:β) (h:zdT xz L β args bor k=some r):yz zfk (zfE yk zd L) L zdo args bor k=some r:=by
 unfold zdT at h
 split at h
 ·have q:=zcy h; clear h; obtain ⟨p0,rfl,h⟩:=q
  have q:=zc7 h; clear h; obtain ⟨p1,rfl,h⟩:=q
  exact (zn4 yk zd L p0 p1 k).trans h
 ·cases h
def zdr:CF:=⟨9,[.tmp 4],
 (.seq (.reg [oo 4 (.move (.const (.gs 1 [])) true)])
 (.seq (.reg [oo 5 (.move (tq 0) false),
   oo 6 (.move (tq 1) false),
   oo 7 (.call 192 [((tq 6),0),((.const (.sc (.int .i64 8))),0)] []),
   oo 8 (.call 191 [((tq 5),0),((tq 7),0)] []),
   oo 4 (.move (tq 8) true)])
 .ret))⟩
def zit:Hint:=⟨[(0,0),(1,4)],[],[none],[],[],false,false,[]⟩
def zfq:Nat→Sh:=xI []
def zfV (yk:zaq) (zd:yD) (L:Nat):CBC:=(xr 191 (zaO zd L) (xr 192 (zcO yk L) noC))
def zgu {β:Type} (yk:zaq) (zd:yD) (L:Nat) (p0:List (List V)) (p1:Int) (k_fin:List (List V)→Option β):Option β :=
 yk β L p1 (8:Int) (fun v0 =>
 zd β L p0 v0 (fun v1 =>
 k_fin v1))
theorem zoQ {β:Type} (yk:zaq) (zd:yD) (L:Nat) (p0:List (List V)) (p1:Int) (k:KK β):yz zfq (zfV yk zd L) L zdr [(V.sl 1 p0),(V.sc (.int .u64 p1))] [] k=zgu yk zd L p0 p1 (fun p0=>k (V.gs 1 p0) []):=by kernel_rfl
abbrev zh:=∀ (β:Type),Nat→List (List V)→Int→(List (List V)→Option β)→Option β
def zb (β:Type) (L:Nat) (p0:List (List V)) (p1:Int) (k_fin:List (List V)→Option β):Option β:=zgu yk zd L p0 p1 k_fin
def zcq (zb:zh) (L:Nat) (β:Type) (args:List V) (bor:Bor) (k:KK β):Option β:=match args,bor with
 | [a0,a1],[]=>aL 1 a0 fun p0=>aI .u64 a1 fun p1=>zb β L p0 p1 (fun p0=>k (V.gs 1 p0) [])
 | _,_=>none
theorem zom (L:Nat) (β:Type) (args:List V) (bor:Bor) (k:KK β) (r:β) (h:zcq zb L β args bor k=some r):yz zfq (zfV yk zd L) L zdr args bor k=some r:=by
 unfold zcq at h
 split at h
 ·have q:=zcy h; clear h; obtain ⟨p0,rfl,h⟩:=q
  have q:=zc7 h; clear h; obtain ⟨p1,rfl,h⟩:=q
  exact (zoQ yk zd L p0 p1 k).trans h
 ·cases h
def zc9:CF:=⟨36,[.tmp 4],
 (.seq (.reg [oo 4 (.move (.const (.gs 1 [])) true)])
 (.seq (.block 0 (.seq (.reg [oo 6 (.move (tq 1) false),
   oo 7 (.bin .lss (tq 6) (.const (.sc (.int .u64 253)))),
   oo 5 (.move (tq 7) false)])
 (.cond (tq 5)
 (.seq (.reg [oo 8 (.move (tq 0) false),
   oo 9 (.move (tq 1) false),
   oo 10 (.conv .u8 (tq 9)),
   oo 11 (.buildSlice 1 1 [(.sc (.int .u8 0))] [(0,1,(tq 10))]),
   oo 12 (.call 191 [((tq 8),0),((tq 11),0)] []),
   oo 4 (.move (tq 12) true)])
 .ret)
 (.seq (.reg [oo 14 (.move (tq 1) false),
   oo 15 (.bin .lss (tq 14) (.const (.sc (.int .u64 65536)))),
   oo 13 (.move (tq 15) false)])
 (.cond (tq 13)
 (.seq (.reg [oo 16 (.move (tq 0) false),
   oo 17 (.buildSlice 1 1 [(.sc (.int .u8 0))] [(0,1,(.const (.sc (.int .u8 253))))]),
   oo 18 (.call 191 [((tq 16),0),((tq 17),0)] []),
   oo 19 (.move (tq 1) false),
   oo 20 (.conv .u16 (tq 19)),
   oo 21 (.call 205 [((tq 18),0),((tq 20),0)] []),
   oo 4 (.move (tq 21) true)])
 .ret)
 (.seq (.reg [oo 23 (.move (tq 1) false),
   oo 24 (.bin .lss (tq 23) (.const (.sc (.int .u64 4294967296)))),
   oo 22 (.move (tq 24) false)])
 (.cond (tq 22)
 (.seq (.reg [oo 25 (.move (tq 0) false),
   oo 26 (.buildSlice 1 1 [(.sc (.int .u8 0))] [(0,1,(.const (.sc (.int .u8 254))))]),
   oo 27 (.call 191 [((tq 25),0),((tq 26),0)] []),
   oo 28 (.move (tq 1) false),
   oo 29 (.conv .u32 (tq 28)),
   oo 30 (.call 157 [((tq 27),0),((tq 29),0)] []),
   oo 4 (.move (tq 30) true)])
 .ret)
 .skip)))))))
 (.seq (.reg [oo 31 (.move (tq 0) false),
   oo 32 (.buildSlice 1 1 [(.sc (.int .u8 0))] [(0,1,(.const (.sc (.int .u8 255))))]),
   oo 33 (.call 191 [((tq 31),0),((tq 32),0)] []),
   oo 34 (.move (tq 1) false),
   oo 35 (.call 183 [((tq 33),0),((tq 34),0)] []),
   oo 4 (.move (tq 35) true)])
 .ret)))⟩
def zhj:Hint:=⟨[(0,0),(2,5),(4,6),(6,6),(7,5)],[],[none,none,none,none,none,none,none,none],[],[],false,false,[]⟩
def ze0:Nat→Sh:=xI []
def zeO (zd:yD) (xz:zdV) (za:xf) (zb:zh) (L:Nat):CBC:=(xr 183 (zcq zb L) (xr 157 (zbw za L) (xr 205 (zdT xz L) (xr 191 (zaO zd L) noC))))
def zfS {β:Type} (zd:yD) (xz:zdV) (za:xf) (zb:zh) (L:Nat) (p0:List (List V)) (p1:Int) (k_fin:List (List V)→Option β):Option β :=
 ifb (decide (p1 < (253:Int))) (
 lt (IntKind.wrap .u8 p1) fun x0 =>
 zd β L p0 (yf 1 1 [(V.sc (.int .u8 x0))]) (fun v1 =>
 k_fin v1)) (
 ifb (decide (p1 < (65536:Int))) (
 zd β L p0 (yf 1 1 [(V.sc (.int .u8 (253:Int)))]) (fun v2 =>
 lt (IntKind.wrap .u16 p1) fun x3 =>
 xz β L v2 x3 (fun v4 =>
 k_fin v4))) (
 ifb (decide (p1 < (4294967296:Int))) (
 zd β L p0 (yf 1 1 [(V.sc (.int .u8 (254:Int)))]) (fun v5 =>
 lt (IntKind.wrap .u32 p1) fun x6 =>
 za β L v5 x6 (fun v7 =>
 k_fin v7))) (
 zd β L p0 (yf 1 1 [(V.sc (.int .u8 (255:Int)))]) (fun v8 =>
 zb β L v8 p1 (fun v9 =>
 k_fin v9)))))
theorem znd {β:Type} (zd:yD) (xz:zdV) (za:xf) (zb:zh) (L:Nat) (p0:List (List V)) (p1:Int) (k:KK β):yz ze0 (zeO zd xz za zb L) L zc9 [(V.sl 1 p0),(V.sc (.int .u64 p1))] [] k=zfS zd xz za zb L p0 p1 (fun p0=>k (V.gs 1 p0) []):=by kernel_rfl
abbrev zg:=∀ (β:Type),Nat→List (List V)→Int→(List (List V)→Option β)→Option β
def ya (β:Type) (L:Nat) (p0:List (List V)) (p1:Int) (k_fin:List (List V)→Option β):Option β:=zfS zd xz za zb L p0 p1 k_fin
def zb5 (ya:zg) (L:Nat) (β:Type) (args:List V) (bor:Bor) (k:KK β):Option β:=match args,bor with
 | [a0,a1],[]=>aL 1 a0 fun p0=>aI .u64 a1 fun p1=>ya β L p0 p1 (fun p0=>k (V.gs 1 p0) [])
 | _,_=>none
theorem znO (L:Nat) (β:Type) (args:List V) (bor:Bor) (k:KK β) (r:β) (h:zb5 ya L β args bor k=some r):yz ze0 (zeO zd xz za zb L) L zc9 args bor k=some r:=by
 unfold zb5 at h
 split at h
 ·have q:=zcy h; clear h; obtain ⟨p0,rfl,h⟩:=q
  have q:=zc7 h; clear h; obtain ⟨p1,rfl,h⟩:=q
  exact (znd zd xz za zb L p0 p1 k).trans h
 ·cases h
def zda:CF:=⟨8,[.tmp 4],
 (.seq (.reg [oo 3 (.box true (tq 1)),
   oo 4 (.move (.const (.gs 1 [])) true)])
 (.seq (.reg [oo 5 (.move (tq 0) false),
   oo 6 (.sliceA 32 1 (tq 3) none none none),
   oo 7 (.call 191 [((tq 5),0),((tq 6),0)] []),
   oo 4 (.move (tq 7) true)])
 .ret))⟩
def zhl:Hint:=⟨[(0,1),(1,3)],[],[none],[],[],false,false,[]⟩
def zeP:Nat→Sh:=xI []
def zeX (zd:yD) (L:Nat):CBC:=(xr 191 (zaO zd L) noC)
def zfn {β:Type} (zd:yD) (L:Nat) (p0:List (List V)) (p1:List V) (k_fin:List (List V)→Option β):Option β :=
 chk (0+32 * 1≤(List.length p1)) (
 ifb (List.isEmpty p1) (
 zd β L p0 (yf 1 32 p1) (fun v0 =>
 k_fin v0)) (
 zd β L p0 (yf 1 32 p1) (fun v1 =>
 k_fin v1)))
theorem zno {β:Type} (zd:yD) (L:Nat) (p0:List (List V)) (p1:List V) (k:KK β):yz zeP (zeX zd L) L zda [(V.sl 1 p0),(V.agg p1)] [] k=zfn zd L p0 p1 (fun p0=>k (V.gs 1 p0) []):=by kernel_rfl
abbrev zdw:=∀ (β:Type),Nat→List (List V)→List V→(List (List V)→Option β)→Option β
def zA (β:Type) (L:Nat) (p0:List (List V)) (p1:List V) (k_fin:List (List V)→Option β):Option β:=zfn zd L p0 p1 k_fin
def zdk (zA:zdw) (L:Nat) (β:Type) (args:List V) (bor:Bor) (k:KK β):Option β:=match args,bor with
 | [a0,a1],[]=>aL 1 a0 fun p0=>aG a1 fun p1=>zA β L p0 p1 (fun p0=>k (V.gs 1 p0) [])
 | _,_=>none
theorem znN (L:Nat) (β:Type) (args:List V) (bor:Bor) (k:KK β) (r:β) (h:zdk zA L β args bor k=some r):yz zeP (zeX zd L) L zda args bor k=some r:=by
 unfold zdk at h
 split at h
 ·have q:=zcy h; clear h; obtain ⟨p0,rfl,h⟩:=q
  have q:=zcx h; clear h; obtain ⟨p1,rfl,h⟩:=q
  exact (zno zd L p0 p1 k).trans h
 ·cases h
def zjf:CF:=⟨9,[.tmp 2],
 (.seq (.reg [oo 1 (.box true (tq 0)),
   oo 2 (.move (.const (.gs 1 [])) true)])
 (.seq (.dreg [] [(oo 3 (.fieldAddr 0 (tq 1)),q0),
   (oo 4 (.load true 32 (tq 3) false),ql 1 [] []),
   (oo 5 (.call 158 [((.const (.gs 1 [])),0),((tq 4),0)] []),qc [1] []),
   (oo 6 (.fieldAddr 32 (tq 1)),q0),
   (oo 7 (.load false 1 (tq 6) false),ql 1 [] []),
   (oo 8 (.call 157 [((tq 5),0),((tq 7),0)] []),q0),
   (oo 2 (.move (tq 8) true),q0)])
 .ret))⟩
def zoX:Hint:=⟨[(0,1),(1,6)],[],[none],[],[],false,false,[]⟩
def zmP:Nat→Sh:=xI [(7,(.int .u32))]
def zmQ (zA:zdw) (za:xf) (L:Nat):CBC:=(xr 157 (zbw za L) (xr 158 (zdk zA L) noC))
def zoO {β:Type} (zA:zdw) (za:xf) (L:Nat) (p0:List V) (k_fin:List (List V)→Option β):Option β :=
 chk (0+32≤(List.length p0)) (
 zA β L ([]:List (List V)) (List.take 32 p0) (fun v0 =>
 cI .u32 p0 32 fun v1 =>
 za β L v0 v1 (fun v2 =>
 k_fin v2)))
theorem zvg {β:Type} (zA:zdw) (za:xf) (L:Nat) (p0:List V) (k:KK β):yz zmP (zmQ zA za L) L zjf [(V.agg p0)] [] k=zoO zA za L p0 (fun p0=>k (V.gs 1 p0) []):=by kernel_rfl
abbrev yx:=∀ (β:Type),Nat→List V→(List (List V)→Option β)→Option β
def zc (β:Type) (L:Nat) (p0:List V) (k_fin:List (List V)→Option β):Option β:=zoO zA za L p0 k_fin
def zks (zc:yx) (L:Nat) (β:Type) (args:List V) (bor:Bor) (k:KK β):Option β:=match args,bor with
 | [a0],[]=>aG a0 fun p0=>zc β L p0 (fun p0=>k (V.gs 1 p0) [])
 | _,_=>none
theorem zvA (L:Nat) (β:Type) (args:List V) (bor:Bor) (k:KK β) (r:β) (h:zks zc L β args bor k=some r):yz zmP (zmQ zA za L) L zjf args bor k=some r:=by
 unfold zks at h
 split at h
 ·have q:=zcx h; clear h; obtain ⟨p0,rfl,h⟩:=q
  exact (zvg zA za L p0 k).trans h
 ·cases h
def zcC:CF:=⟨12,[.tmp 4],
 (.seq (.reg [oo 4 (.move (.const (.gs 1 [])) true)])
 (.seq (.reg [oo 5 (.move (tq 0) false),
   oo 6 (.move (tq 1) false),
   oo 7 (.lenS (tq 6)),
   oo 8 (.conv .u64 (tq 7)),
   oo 9 (.call 182 [((tq 5),0),((tq 8),0)] []),
   oo 10 (.move (tq 1) false),
   oo 11 (.call 191 [((tq 9),0),((tq 10),0)] []),
   oo 4 (.move (tq 11) true)])
 .ret))⟩
def zgO:Hint:=⟨[(0,0),(1,7)],[],[none],[],[],false,false,[]⟩
def zen:Nat→Sh:=xI []
def zet (ya:zg) (zd:yD) (L:Nat):CBC:=(xr 191 (zaO zd L) (xr 182 (zb5 ya L) noC))
def zeW {β:Type} (ya:zg) (zd:yD) (L:Nat) (p0 p1:List (List V)) (k_fin:List (List V)→Option β):Option β :=
 lt (IntKind.wrap .u64 ((List.length p1:Nat):Int)) fun x0 =>
 ya β L p0 x0 (fun v1 =>
 zd β L v1 p1 (fun v2 =>
 k_fin v2))
theorem zmO {β:Type} (ya:zg) (zd:yD) (L:Nat) (p0 p1:List (List V)) (k:KK β):yz zen (zet ya zd L) L zcC [(V.sl 1 p0),(V.sl 1 p1)] [] k=zeW ya zd L p0 p1 (fun p0=>k (V.gs 1 p0) []):=by kernel_rfl
abbrev yg:=∀ (β:Type),Nat→List (List V)→List (List V)→(List (List V)→Option β)→Option β
def xa (β:Type) (L:Nat) (p0 p1:List (List V)) (k_fin:List (List V)→Option β):Option β:=zeW ya zd L p0 p1 k_fin
def zde (xa:yg) (L:Nat) (β:Type) (args:List V) (bor:Bor) (k:KK β):Option β:=match args,bor with
 | [a0,a1],[]=>aL 1 a0 fun p0=>aL 1 a1 fun p1=>xa β L p0 p1 (fun p0=>k (V.gs 1 p0) [])
 | _,_=>none
theorem zmy (L:Nat) (β:Type) (args:List V) (bor:Bor) (k:KK β) (r:β) (h:zde xa L β args bor k=some r):yz zen (zet ya zd L) L zcC args bor k=some r:=by
 unfold zde at h
 split at h
 ·have q:=zcy h; clear h; obtain ⟨p0,rfl,h⟩:=q
  have q:=zcy h; clear h; obtain ⟨p1,rfl,h⟩:=q
  exact (zmO ya zd L p0 p1 k).trans h
 ·cases h
def yR:CC:=(.seq (.reg [oo 94 (.bin .lss (tq 93) (tq 92))])
 (.seq (.cond (tq 94)
 .skip
 (.seq (.mask (bl 1057810092162800527867936 104) (bl 18380933703309326321702196467067 104))
 (.exit 6)))
 (.seq (.block 7 (.seq (.reg [oo 95 (.indexAddrS 1 (tq 91) (tq 93)),
   oo 96 (.load false 1 (tq 95) false),
   oo 13 (.move (tq 96) false)])
 (.reg [oo 97 (.move (tq 5) true),
   oo 98 (.move (tq 13) false),
   oo 99 (.call 184 [((.const (.gs 1 [])),0),((tq 98),0)] []),
   oo 100 (.append 1 1 (tq 97) (tq 99)),
   oo 5 (.move (tq 100) true)])))
 (.reg [oo 101 (.bin .add (tq 93) (.const (.sc (.int .i64 1)))),
   oo 93 (.move (tq 101) false)]))))
def zck:CC:=(.reg [oo 102 (.bin .add (tq 79) (.const (.sc (.int .i64 1)))),
   oo 79 (.move (tq 102) false)])
def zai:CC:=(.seq (.reg [oo 80 (.bin .lss (tq 79) (tq 78))])
 (.seq (.cond (tq 80)
 .skip
 (.seq (.mask (bl 32 104) (bl 18374976116870265429129244431739 104))
 (.exit 4)))
 (.seq (.block 5 (.seq (.reg [oo 81 (.indexAddrS 35 (tq 77) (tq 79)),
   oo 82 (.load true 35 (tq 81) false),
   oo 11 (.alloc true (rp 32 (.sc (.int .u8 0)) (rp 2 (.sc (.int .u32 0)) (rp 1 (.gs 1 []) [])))),
   oz (.store 35 (tq 11) (tq 82))])
 (.seq (.reg [oo 83 (.move (tq 5) true),
   oo 84 (.fieldAddr 34 (tq 11)),
   oo 85 (.load false 1 (tq 84) false),
   oo 86 (.lenS (tq 85)),
   oo 87 (.conv .u64 (tq 86)),
   oo 88 (.call 182 [((.const (.gs 1 [])),0),((tq 87),0)] []),
   oo 89 (.append 1 1 (tq 83) (tq 88)),
   oo 5 (.move (tq 89) true)])
 (.seq (.reg [oo 90 (.fieldAddr 34 (tq 11)),
   oo 91 (.load false 1 (tq 90) false),
   oo 92 (.lenS (tq 91)),
   oo 93 (.move (.const (.sc (.int .i64 0))) false)])
 (.block 6 (.loop (bl 17332218360087486649115607072 104) (bl 18380933703309326321702196467067 104)
 yR))))))
 zck)))
def zbu:CC:=(.seq (.reg [oo 53 (.bin .lss (tq 52) (tq 51))])
 (.seq (.cond (tq 53)
 .skip
 (.seq (.mask (bl 38 104) (bl 20282409603537531194991173432703 104))
 (.exit 2)))
 (.seq (.block 3 (.seq (.reg [oo 54 (.indexAddrS 2 (tq 50) (tq 52)),
   oo 55 (.load true 2 (tq 54) false),
   oo 9 (.alloc true [(.sc (.int .i64 0)),(.gs 1 [])]),
   oz (.store 2 (tq 9) (tq 55))])
 (.seq (.reg [oo 56 (.move (tq 5) true),
   oo 57 (.fieldAddr 0 (tq 9)),
   oo 58 (.load false 1 (tq 57) false),
   oo 59 (.conv .u64 (tq 58)),
   oo 60 (.call 183 [((.const (.gs 1 [])),0),((tq 59),0)] []),
   oo 61 (.append 1 1 (tq 56) (tq 60)),
   oo 5 (.move (tq 61) true)])
 (.reg [oo 62 (.move (tq 5) true),
   oo 63 (.fieldAddr 1 (tq 9)),
   oo 64 (.load false 1 (tq 63) false),
   oo 65 (.call 184 [((.const (.gs 1 [])),0),((tq 64),0)] []),
   oo 66 (.append 1 1 (tq 62) (tq 65)),
   oo 5 (.move (tq 66) true)]))))
 (.reg [oo 67 (.bin .add (tq 52) (.const (.sc (.int .i64 1)))),
   oo 52 (.move (tq 67) false)]))))
def zem:CC:=(.seq (.reg [oo 103 (.move (tq 5) true),
   oo 4 (.move (tq 103) true)])
 .ret)
def zcb:CC:=(.seq (.reg [oo 28 (.bin .lss (tq 27) (tq 26))])
 (.seq (.cond (tq 28)
 .skip
 (.seq (.mask (bl 38 104) (bl 20282409603651670422246444234111 104))
 (.exit 0)))
 (.seq (.block 1 (.seq (.reg [oo 29 (.indexAddrS 35 (tq 25) (tq 27)),
   oo 30 (.load true 35 (tq 29) false),
   oo 7 (.alloc true (rp 32 (.sc (.int .u8 0)) (rp 2 (.sc (.int .u32 0)) (rp 1 (.gs 1 []) [])))),
   oz (.store 35 (tq 7) (tq 30))])
 (.seq (.reg [oo 31 (.move (tq 5) true),
   oo 32 (.fieldAddr 0 (tq 7)),
   oo 33 (.load true 33 (tq 32) false),
   oo 34 (.call 137 [((tq 33),0)] []),
   oo 35 (.append 1 1 (tq 31) (tq 34)),
   oo 5 (.move (tq 35) true)])
 (.reg [oo 36 (.move (tq 5) true),
   oo 37 (.fieldAddr 33 (tq 7)),
   oo 38 (.load false 1 (tq 37) false),
   oo 39 (.call 157 [((.const (.gs 1 [])),0),((tq 38),0)] []),
   oo 40 (.append 1 1 (tq 36) (tq 39)),
   oo 5 (.move (tq 40) true)]))))
 (.reg [oo 41 (.bin .add (tq 27) (.const (.sc (.int .i64 1)))),
   oo 27 (.move (tq 41) false)]))))
def zdS:CC:=(.seq (.reg [oo 68 (.move (tq 5) true),
   oo 69 (.fieldAddr 3 (tq 2)),
   oo 70 (.load false 1 (tq 69) false),
   oo 71 (.call 157 [((.const (.gs 1 [])),0),((tq 70),0)] []),
   oo 72 (.append 1 1 (tq 68) (tq 71)),
   oo 5 (.move (tq 72) true)])
 (.seq (.seq (.reg [oo 73 (.move (tq 1) false),
   oo 74 (.un .not (tq 73))])
 (.cond (tq 74)
 (.seq (.reg [oo 75 (.move (tq 5) true),
   oo 4 (.move (tq 75) true)])
 .ret)
 .skip))
 (.seq (.seq (.reg [oo 76 (.fieldAddr 1 (tq 2)),
   oo 77 (.load false 1 (tq 76) false),
   oo 78 (.lenS (tq 77)),
   oo 79 (.move (.const (.sc (.int .i64 0))) false)])
 (.block 4 (.loop (bl 1057810092162800527867936 104) (bl 18374976116870265429129244431739 104)
 zai)))
 zem)))
def ze6:CC:=(.seq (.reg [oo 42 (.move (tq 5) true),
   oo 43 (.fieldAddr 2 (tq 2)),
   oo 44 (.load false 1 (tq 43) false),
   oo 45 (.lenS (tq 44)),
   oo 46 (.conv .u64 (tq 45)),
   oo 47 (.call 182 [((.const (.gs 1 [])),0),((tq 46),0)] []),
   oo 48 (.append 1 1 (tq 42) (tq 47)),
   oo 5 (.move (tq 48) true)])
 (.seq (.seq (.reg [oo 49 (.fieldAddr 2 (tq 2)),
   oo 50 (.load false 1 (tq 49) false),
   oo 51 (.lenS (tq 50)),
   oo 52 (.move (.const (.sc (.int .i64 0))) false)])
 (.block 2 (.loop (bl 7881299347898406 104) (bl 20282409603537531194991173432703 104)
 zbu)))
 zdS))
def y8:CF:=⟨104,[.tmp 4],
 (.seq (.reg [oo 2 (.box true (tq 0)),
   oo 4 (.move (.const (.gs 1 [])) true)])
 (.seq (.reg [oo 14 (.fieldAddr 0 (tq 2)),
   oo 15 (.load false 1 (tq 14) false),
   oo 16 (.call 157 [((.const (.gs 1 [])),0),((tq 15),0)] []),
   oo 5 (.move (tq 16) true)])
 (.seq (.reg [oo 17 (.move (tq 5) true),
   oo 18 (.fieldAddr 1 (tq 2)),
   oo 19 (.load false 1 (tq 18) false),
   oo 20 (.lenS (tq 19)),
   oo 21 (.conv .u64 (tq 20)),
   oo 22 (.call 182 [((.const (.gs 1 [])),0),((tq 21),0)] []),
   oo 23 (.append 1 1 (tq 17) (tq 22)),
   oo 5 (.move (tq 23) true)])
 (.seq (.seq (.reg [oo 24 (.fieldAddr 1 (tq 2)),
   oo 25 (.load false 1 (tq 24) false),
   oo 26 (.lenS (tq 25)),
   oo 27 (.move (.const (.sc (.int .i64 0))) false)])
 (.block 0 (.loop (bl 234881062 104) (bl 20282409603651670422246444234111 104)
 zcb)))
 ze6))))⟩
def znf:Hint:=⟨[(0,0),(0,1),(1,3),(2,0),(2,7),(5,2),(6,0),(6,5),(7,0),(7,5),(9,0),(9,7),(12,2),(13,0),(13,6),(14,0),(14,5),(16,0),(16,5),(18,0),(18,1),(21,2),(22,0),(22,7),(26,0),(26,4),(29,0),(29,1)],[],[none,some ((bl 234881062 104),(bl 20282409603651670422246444234111 104)),none,some ((bl 38 104),(bl 20282409603651670422246444234111 104)),none,none,some ((bl 7881299347898406 104),(bl 20282409603537531194991173432703 104)),none,some ((bl 38 104),(bl 20282409603537531194991173432703 104)),none,none,none,none,some ((bl 1057810092162800527867936 104),(bl 18374976116870265429129244431739 104)),none,some ((bl 32 104),(bl 18374976116870265429129244431739 104)),none,none,some ((bl 17332218360087486649115607072 104),(bl 18380933703309326321702196467067 104)),none,some ((bl 1057810092162800527867936 104),(bl 18380933703309326321702196467067 104)),none,none],[],[],false,false,[]⟩
def zw:Nat→Sh:=xI [(15,(.int .u32)),(19,(.sl 35)),(25,(.sl 35)),(38,(.int .u32)),(44,(.sl 2)),(50,(.sl 2)),(58,(.int .i64)),(64,(.sl 1)),(70,(.int .u32)),(77,(.sl 35)),(85,(.sl 1)),(91,(.sl 1)),(96,(.sl 1))]
def xv (za:xf) (ya:zg) (zc:yx) (zb:zh) (xa:yg) (L:Nat):CBC:=(xr 184 (zde xa L) (xr 183 (zcq zb L) (xr 137 (zks zc L) (xr 182 (zb5 ya L) (xr 157 (zbw za L) noC)))))
def zdX:St→St:=yJ 0 (bl 234881062 104) (bl 20282409603651670422246444234111 104)
def zdd:St→St:=yJ 0 (bl 7881299347898406 104) (bl 20282409603537531194991173432703 104)
def xX:St→St:=yJ 0 (bl 1057810092162800527867936 104) (bl 18374976116870265429129244431739 104)
def zao:St→St:=yJ 0 (bl 17332218360087486649115607072 104) (bl 18380933703309326321702196467067 104)
def zcD (p1:Bool) (p5 p25:List (List V)) (p26 p27:Int) (b2:List V):St:=⟨(jn 1 ((V.sc (.bool p1))::((V.ptr 2 0)::(jn 2 ((V.gs 1 p5)::(jn 19 ((V.sl 35 p25)::((V.sc (.int .i64 p26))::((V.sc (.int .i64 p27))::(jn 76 [])))))))))),(gn 2 ((.live true b2)::(gn 101 [])))⟩
def ze3 (p1:Bool) (p5:List (List V)) (b2:List V):St:=⟨(jn 1 ((V.sc (.bool p1))::((V.ptr 2 0)::(jn 2 ((V.gs 1 p5)::(jn 98 [])))))),(gn 2 ((.live true b2)::(gn 101 [])))⟩
def zbY (p1:Bool) (p5 p50:List (List V)) (p51 p52:Int) (b2:List V):St:=⟨(jn 1 ((V.sc (.bool p1))::((V.ptr 2 0)::(jn 2 ((V.gs 1 p5)::(jn 44 ((V.sl 2 p50)::((V.sc (.int .i64 p51))::((V.sc (.int .i64 p52))::(jn 51 [])))))))))),(gn 2 ((.live true b2)::(gn 101 [])))⟩
def ze9 (p1:Bool) (p5:List (List V)) (b2:List V):St:=⟨(jn 1 ((V.sc (.bool p1))::((V.ptr 2 0)::(jn 2 ((V.gs 1 p5)::(jn 98 [])))))),(gn 2 ((.live true b2)::(gn 101 [])))⟩
def yY (p5 p77:List (List V)) (p78 p79:Int):St:=⟨(jn 5 ((V.gs 1 p5)::(jn 71 ((V.sl 35 p77)::((V.sc (.int .i64 p78))::((V.sc (.int .i64 p79))::(jn 24 []))))))),(gn 104 [])⟩
def xZ (p5 p77:List (List V)) (p78 p79:Int) (p91:List (List V)) (p92 p93:Int):St:=⟨(jn 5 ((V.gs 1 p5)::(jn 71 ((V.sl 35 p77)::((V.sc (.int .i64 p78))::((V.sc (.int .i64 p79))::(jn 11 ((V.sl 1 p91)::((V.sc (.int .i64 p92))::((V.sc (.int .i64 p93))::(jn 10 []))))))))))),(gn 104 [])⟩
def zfd (p5:List (List V)):St:=⟨(jn 5 ((V.gs 1 p5)::(jn 98 []))),(gn 104 [])⟩
def zhD (p5 p77:List (List V)) (p78 p79:Int):St:=⟨(jn 5 ((V.gs 1 p5)::(jn 71 ((V.sl 35 p77)::((V.sc (.int .i64 p78))::((V.sc (.int .i64 p79))::(jn 24 []))))))),(gn 104 [])⟩
abbrev zjC (β:Type):Type:=Bool→List (List V)→List (List V)→Int→Int→List V→Option β
abbrev zhC (β:Type):Type:=Bool→List (List V)→List (List V)→Int→Int→List V→Option β
abbrev zc4 (β:Type):Type:=List (List V)→List (List V)→Int→Int→List (List V)→Int→Int→Option β
def zm0 {β:Type} (za:xf) (ya:zg) (zc:yx) (zb:zh) (xa:yg) (L:Nat) (p0:List V) (p1:Bool) (k_hbbbaba:zjC β):Option β :=
 cI .u32 p0 0 fun v0 =>
 za β L ([]:List (List V)) v0 (fun v1 =>
 cLd 35 p0 1 fun v2 =>
 lt (IntKind.wrap .u64 ((List.length v2:Nat):Int)) fun x3 =>
 ya β L ([]:List (List V)) x3 (fun v4 =>
 chk ((List.length v1+List.length v4) * 1≤xg∧List.length v1+List.length v4≤xg) (
 lt (v1++v4) fun l5 =>
 cLd 35 p0 1 fun v6 =>
 k_hbbbaba p1 l5 v6 ((List.length v6:Nat):Int) (0:Int) p0)))
theorem zuf {β:Type} (za:xf) (ya:zg) (zc:yx) (zb:zh) (xa:yg) (L:Nat) (p0:List V) (p1:Bool) (k:KK β):yz zw (xv za ya zc zb xa L) L y8 [(V.agg p0),(V.sc (.bool p1))] [] k=zm0 za ya zc zb xa L p0 p1 (fun p1 p5 p25 p26 p27 b2=>xy (zj zw (xv za ya zc zb xa L) 0 L zcb) zdX L (zcD p1 p5 p25 p26 p27 b2) (zr 0 (xH (zj zw (xv za ya zc zb xa L) 0 L ze6) (zP 0 (CF.res y8) k)))):=by kernel_rfl
def zgp {β:Type} (za:xf) (ya:zg) (zc:yx) (zb:zh) (xa:yg) (L:Nat) (p1:Bool) (p5 p25:List (List V)) (p26 p27:Int) (b2:List V) (k_hbbbaba:zjC β) (k_x0:Bool→List (List V)→List V→Option β):Option β :=
 ifb (decide (p27 < p26)) (
 idx p25 p27 fun c7 =>
 chk ((List.length (List.take 35 c7))=35∧0+35≤35) (
 lt (xk (List.replicate 32 (V.sc (.int .u8 (0:Int)))++[(V.sc (.int .u32 (0:Int))),(V.sc (.int .u32 (0:Int))),(V.gs 1 ([]:List (List V)))]) 0 (List.take 35 c7)) fun r8 =>
 chk (0+33≤(List.length r8)) (
 zc β L (List.take 33 r8) (fun v9 =>
 chk ((List.length p5+List.length v9) * 1≤xg∧List.length p5+List.length v9≤xg) (
 lt (p5++v9) fun l10 =>
 cI .u32 r8 33 fun v11 =>
 za β L ([]:List (List V)) v11 (fun v12 =>
 chk ((List.length l10+List.length v12) * 1≤xg∧List.length l10+List.length v12≤xg) (
 lt (l10++v12) fun l13 =>
 lt (IntKind.wrap .i64 ((p27:Int)+(1:Int))) fun x14 =>
 k_hbbbaba p1 l13 p25 p26 x14 b2))))))) (
 k_x0 p1 p5 b2)
theorem zow {β:Type} (za:xf) (ya:zg) (zc:yx) (zb:zh) (xa:yg) (L:Nat) (p1:Bool) (p5 p25:List (List V)) (p26 p27:Int) (b2:List V) (X:St→Option β) (K:KT β):zj zw (xv za ya zc zb xa L) 0 L zcb (zcD p1 p5 p25 p26 p27 b2) (y5 zdX X K)=zgp za ya zc zb xa L p1 p5 p25 p26 p27 b2 (fun p1 p5 p25 p26 p27 b2=>X (zcD p1 p5 p25 p26 p27 b2)) (fun p1 p5 b2=>K (.exit 0) (ze3 p1 p5 b2)):=by kernel_rfl
def ze1 {β:Type} (za:xf) (ya:zg) (zc:yx) (zb:zh) (xa:yg) (L:Nat) (p1:Bool) (p5:List (List V)) (b2:List V) (k_hbbbbbaba:zhC β):Option β :=
 cLd 2 b2 2 fun v15 =>
 lt (IntKind.wrap .u64 ((List.length v15:Nat):Int)) fun x16 =>
 ya β L ([]:List (List V)) x16 (fun v17 =>
 chk ((List.length p5+List.length v17) * 1≤xg∧List.length p5+List.length v17≤xg) (
 lt (p5++v17) fun l18 =>
 cLd 2 b2 2 fun v19 =>
 k_hbbbbbaba p1 l18 v19 ((List.length v19:Nat):Int) (0:Int) b2))
theorem zmF {β:Type} (za:xf) (ya:zg) (zc:yx) (zb:zh) (xa:yg) (L:Nat) (p1:Bool) (p5:List (List V)) (b2:List V) (k:KK β):(zr 0 (xH (zj zw (xv za ya zc zb xa L) 0 L ze6) (zP 0 (CF.res y8) k))) (.exit 0) (ze3 p1 p5 b2)=ze1 za ya zc zb xa L p1 p5 b2 (fun p1 p5 p50 p51 p52 b2=>xy (zj zw (xv za ya zc zb xa L) 0 L zbu) zdd L (zbY p1 p5 p50 p51 p52 b2) (zr 2 (xH (zj zw (xv za ya zc zb xa L) 0 L zdS) (zP 0 (CF.res y8) k)))):=by kernel_rfl
def zeV {β:Type} (za:xf) (ya:zg) (zc:yx) (zb:zh) (xa:yg) (L:Nat) (p1:Bool) (p5 p50:List (List V)) (p51 p52:Int) (b2:List V) (k_hbbbbbaba:zhC β) (k_x2:Bool→List (List V)→List V→Option β):Option β :=
 ifb (decide (p52 < p51)) (
 idx p50 p52 fun c20 =>
 chk ((List.length (List.take 2 c20))=2∧0+2≤2) (
 lt (xk [(V.sc (.int .i64 (0:Int))),(V.gs 1 ([]:List (List V)))] 0 (List.take 2 c20)) fun r21 =>
 cI .i64 r21 0 fun v22 =>
 lt (IntKind.wrap .u64 v22) fun x23 =>
 zb β L ([]:List (List V)) x23 (fun v24 =>
 chk ((List.length p5+List.length v24) * 1≤xg∧List.length p5+List.length v24≤xg) (
 lt (p5++v24) fun l25 =>
 cLd 1 r21 1 fun v26 =>
 xa β L ([]:List (List V)) v26 (fun v27 =>
 chk ((List.length l25+List.length v27) * 1≤xg∧List.length l25+List.length v27≤xg) (
 lt (l25++v27) fun l28 =>
 lt (IntKind.wrap .i64 ((p52:Int)+(1:Int))) fun x29 =>
 k_hbbbbbaba p1 l28 p50 p51 x29 b2)))))) (
 k_x2 p1 p5 b2)
theorem zmT {β:Type} (za:xf) (ya:zg) (zc:yx) (zb:zh) (xa:yg) (L:Nat) (p1:Bool) (p5 p50:List (List V)) (p51 p52:Int) (b2:List V) (X:St→Option β) (K:KT β):zj zw (xv za ya zc zb xa L) 0 L zbu (zbY p1 p5 p50 p51 p52 b2) (y5 zdd X K)=zeV za ya zc zb xa L p1 p5 p50 p51 p52 b2 (fun p1 p5 p50 p51 p52 b2=>X (zbY p1 p5 p50 p51 p52 b2)) (fun p1 p5 b2=>K (.exit 2) (ze9 p1 p5 b2)):=by kernel_rfl
def zea {β:Type} (za:xf) (ya:zg) (zc:yx) (zb:zh) (xa:yg) (L:Nat) (p1:Bool) (p5:List (List V)) (b2:List V) (k_fin:List (List V)→Option β) (k_hbbbbbbbbaba:List (List V)→List (List V)→Int→Int→Option β):Option β :=
 cI .u32 b2 3 fun v30 =>
 za β L ([]:List (List V)) v30 (fun v31 =>
 chk ((List.length p5+List.length v31) * 1≤xg∧List.length p5+List.length v31≤xg) (
 lt (p5++v31) fun l32 =>
 ifb (!p1) (
 k_fin l32) (
 cLd 35 b2 1 fun v33 =>
 k_hbbbbbbbbaba l32 v33 ((List.length v33:Nat):Int) (0:Int))))
theorem zln {β:Type} (za:xf) (ya:zg) (zc:yx) (zb:zh) (xa:yg) (L:Nat) (p1:Bool) (p5:List (List V)) (b2:List V) (k:KK β):(zr 2 (xH (zj zw (xv za ya zc zb xa L) 0 L zdS) (zP 0 (CF.res y8) k))) (.exit 2) (ze9 p1 p5 b2)=zea za ya zc zb xa L p1 p5 b2 (fun p0=>k (V.gs 1 p0) []) (fun p5 p77 p78 p79=>xy (zj zw (xv za ya zc zb xa L) 0 L zai) xX L (yY p5 p77 p78 p79) (zr 4 (xH (zj zw (xv za ya zc zb xa L) 0 L zem) (zP 0 (CF.res y8) k)))):=by kernel_rfl
def zdM {β:Type} (za:xf) (ya:zg) (zc:yx) (zb:zh) (xa:yg) (L:Nat) (p5 p77:List (List V)) (p78 p79:Int) (k_hbbbbbbbbabaabbaabbba:zc4 β) (k_x4:List (List V)→Option β):Option β :=
 ifb (decide (p79 < p78)) (
 idx p77 p79 fun c34 =>
 chk ((List.length (List.take 35 c34))=35∧0+35≤35) (
 lt (xk (List.replicate 32 (V.sc (.int .u8 (0:Int)))++[(V.sc (.int .u32 (0:Int))),(V.sc (.int .u32 (0:Int))),(V.gs 1 ([]:List (List V)))]) 0 (List.take 35 c34)) fun r35 =>
 cLd 1 r35 34 fun v36 =>
 lt (IntKind.wrap .u64 ((List.length v36:Nat):Int)) fun x37 =>
 ya β L ([]:List (List V)) x37 (fun v38 =>
 chk ((List.length p5+List.length v38) * 1≤xg∧List.length p5+List.length v38≤xg) (
 lt (p5++v38) fun l39 =>
 cLd 1 r35 34 fun v40 =>
 k_hbbbbbbbbabaabbaabbba l39 p77 p78 p79 v40 ((List.length v40:Nat):Int) (0:Int))))) (
 k_x4 p5)
theorem zkF {β:Type} (za:xf) (ya:zg) (zc:yx) (zb:zh) (xa:yg) (L:Nat) (p5 p77:List (List V)) (p78 p79:Int) (X:St→Option β) (K:KT β):zj zw (xv za ya zc zb xa L) 0 L zai (yY p5 p77 p78 p79) (y5 xX X K)=zdM za ya zc zb xa L p5 p77 p78 p79 (fun p5 p77 p78 p79 p91 p92 p93=>xy (zj zw (xv za ya zc zb xa L) 0 L yR) zao L (xZ p5 p77 p78 p79 p91 p92 p93) (zr 6 (zr 5 (xH (zj zw (xv za ya zc zb xa L) 0 L zck) (y5 xX X K))))) (fun p5=>K (.exit 4) (zfd p5)):=by kernel_rfl
def zcY {β:Type} (za:xf) (ya:zg) (zc:yx) (zb:zh) (xa:yg) (L:Nat) (p5:List (List V)) (k_fin:List (List V)→Option β):Option β :=
 k_fin p5
theorem zjK {β:Type} (za:xf) (ya:zg) (zc:yx) (zb:zh) (xa:yg) (L:Nat) (p5:List (List V)) (k:KK β):(zr 4 (xH (zj zw (xv za ya zc zb xa L) 0 L zem) (zP 0 (CF.res y8) k))) (.exit 4) (zfd p5)=zcY za ya zc zb xa L p5 (fun p0=>k (V.gs 1 p0) []):=by kernel_rfl
def zbj {β:Type} (za:xf) (ya:zg) (zc:yx) (zb:zh) (xa:yg) (L:Nat) (p5 p77:List (List V)) (p78 p79:Int) (p91:List (List V)) (p92 p93:Int) (k_hbbbbbbbbabaabbaabbba:zc4 β) (k_x6:List (List V)→List (List V)→Int→Int→Option β):Option β :=
 ifb (decide (p93 < p92)) (
 idx p91 p93 fun c41 =>
 cL 1 c41 0 fun v42 =>
 xa β L ([]:List (List V)) v42 (fun v43 =>
 chk ((List.length p5+List.length v43) * 1≤xg∧List.length p5+List.length v43≤xg) (
 lt (p5++v43) fun l44 =>
 lt (IntKind.wrap .i64 ((p93:Int)+(1:Int))) fun x45 =>
 k_hbbbbbbbbabaabbaabbba l44 p77 p78 p79 p91 p92 x45))) (
 k_x6 p5 p77 p78 p79)
theorem zgo {β:Type} (za:xf) (ya:zg) (zc:yx) (zb:zh) (xa:yg) (L:Nat) (p5 p77:List (List V)) (p78 p79:Int) (p91:List (List V)) (p92 p93:Int) (X:St→Option β) (K:KT β):zj zw (xv za ya zc zb xa L) 0 L yR (xZ p5 p77 p78 p79 p91 p92 p93) (y5 zao X K)=zbj za ya zc zb xa L p5 p77 p78 p79 p91 p92 p93 (fun p5 p77 p78 p79 p91 p92 p93=>X (xZ p5 p77 p78 p79 p91 p92 p93)) (fun p5 p77 p78 p79=>K (.exit 6) (zhD p5 p77 p78 p79)):=by kernel_rfl
def za3 {β:Type} (za:xf) (ya:zg) (zc:yx) (zb:zh) (xa:yg) (L:Nat) (p5 p77:List (List V)) (p78 p79:Int) (k_hbbbbbbbbaba:List (List V)→List (List V)→Int→Int→Option β):Option β :=
 lt (IntKind.wrap .i64 ((p79:Int)+(1:Int))) fun x46 =>
 k_hbbbbbbbbaba p5 p77 p78 x46
theorem zfy {β:Type} (za:xf) (ya:zg) (zc:yx) (zb:zh) (xa:yg) (L:Nat) (p5 p77:List (List V)) (p78 p79:Int) (X:St→Option β) (K:KT β):(zr 6 (zr 5 (xH (zj zw (xv za ya zc zb xa L) 0 L zck) (y5 xX X K)))) (.exit 6) (zhD p5 p77 p78 p79)=za3 za ya zc zb xa L p5 p77 p78 p79 (fun p5 p77 p78 p79=>X (yY p5 p77 p78 p79)):=by kernel_rfl
def zcw {β:Type} (za:xf) (ya:zg) (zc:yx) (zb:zh) (xa:yg) (L:Nat) (k_x0:Bool→List (List V)→List V→Option β):Nat→Bool→List (List V)→List (List V)→Int→Int→List V→Option β
 | 0,_,_,_,_,_,_=>none
 | n+1,p1,p5,p25,p26,p27,b2=>zgp za ya zc zb xa L p1 p5 p25 p26 p27 b2 (fun p1 p5 p25 p26 p27 b2=>zcw za ya zc zb xa L k_x0 n p1 p5 p25 p26 p27 b2) k_x0
theorem ziu {β:Type} (za:xf) (ya:zg) (zc:yx) (zb:zh) (xa:yg) (L:Nat) (K:KT β):∀ (n:Nat) (p1:Bool) (p5 p25:List (List V)) (p26 p27:Int) (b2:List V),xy (zj zw (xv za ya zc zb xa L) 0 L zcb) zdX n (zcD p1 p5 p25 p26 p27 b2) K=zcw za ya zc zb xa L (fun p1 p5 b2=>K (.exit 0) (ze3 p1 p5 b2)) n p1 p5 p25 p26 p27 b2:=by
 intro n
 induction n with
 | zero=>intros; rfl
 | succ n ih =>
  intro p1 p5 p25 p26 p27 b2
  refine (zow za ya zc zb xa L p1 p5 p25 p26 p27 b2 (fun σ=>xy (zj zw (xv za ya zc zb xa L) 0 L zcb) zdX n σ K) K).trans ?_
  simp only [ih]
  rfl
def zbJ {β:Type} (za:xf) (ya:zg) (zc:yx) (zb:zh) (xa:yg) (L:Nat) (k_x2:Bool→List (List V)→List V→Option β):Nat→Bool→List (List V)→List (List V)→Int→Int→List V→Option β
 | 0,_,_,_,_,_,_=>none
 | n+1,p1,p5,p50,p51,p52,b2=>zeV za ya zc zb xa L p1 p5 p50 p51 p52 b2 (fun p1 p5 p50 p51 p52 b2=>zbJ za ya zc zb xa L k_x2 n p1 p5 p50 p51 p52 b2) k_x2
theorem zgR {β:Type} (za:xf) (ya:zg) (zc:yx) (zb:zh) (xa:yg) (L:Nat) (K:KT β):∀ (n:Nat) (p1:Bool) (p5 p50:List (List V)) (p51 p52:Int) (b2:List V),xy (zj zw (xv za ya zc zb xa L) 0 L zbu) zdd n (zbY p1 p5 p50 p51 p52 b2) K=zbJ za ya zc zb xa L (fun p1 p5 b2=>K (.exit 2) (ze9 p1 p5 b2)) n p1 p5 p50 p51 p52 b2:=by
 intro n
 induction n with
 | zero=>intros; rfl
 | succ n ih =>
  intro p1 p5 p50 p51 p52 b2
  refine (zmT za ya zc zb xa L p1 p5 p50 p51 p52 b2 (fun σ=>xy (zj zw (xv za ya zc zb xa L) 0 L zbu) zdd n σ K) K).trans ?_
  simp only [ih]
  rfl
def yU {β:Type} (za:xf) (ya:zg) (zc:yx) (zb:zh) (xa:yg) (L:Nat) (k_x6:List (List V)→List (List V)→Int→Int→Option β):Nat→List (List V)→List (List V)→Int→Int→List (List V)→Int→Int→Option β
 | 0,_,_,_,_,_,_,_=>none
 | n+1,p5,p77,p78,p79,p91,p92,p93=>zbj za ya zc zb xa L p5 p77 p78 p79 p91 p92 p93 (fun p5 p77 p78 p79 p91 p92 p93=>yU za ya zc zb xa L k_x6 n p5 p77 p78 p79 p91 p92 p93) k_x6
theorem zcv {β:Type} (za:xf) (ya:zg) (zc:yx) (zb:zh) (xa:yg) (L:Nat) (K:KT β):∀ (n:Nat) (p5 p77:List (List V)) (p78 p79:Int) (p91:List (List V)) (p92 p93:Int),xy (zj zw (xv za ya zc zb xa L) 0 L yR) zao n (xZ p5 p77 p78 p79 p91 p92 p93) K=yU za ya zc zb xa L (fun p5 p77 p78 p79=>K (.exit 6) (zhD p5 p77 p78 p79)) n p5 p77 p78 p79 p91 p92 p93:=by
 intro n
 induction n with
 | zero=>intros; rfl
 | succ n ih =>
  intro p5 p77 p78 p79 p91 p92 p93
  refine (zgo za ya zc zb xa L p5 p77 p78 p79 p91 p92 p93 (fun σ=>xy (zj zw (xv za ya zc zb xa L) 0 L yR) zao n σ K) K).trans ?_
  simp only [ih]
  rfl
def zbF {β:Type} (za:xf) (ya:zg) (zc:yx) (zb:zh) (xa:yg) (L:Nat) (p5 p77:List (List V)) (p78 p79:Int) (k_x4:List (List V)→Option β) (k_hbbbbbbbbaba:List (List V)→List (List V)→Int→Int→Option β):Option β :=
 zdM za ya zc zb xa L p5 p77 p78 p79 (fun p5 p77 p78 p79 p91 p92 p93=>yU za ya zc zb xa L (fun p5 p77 p78 p79=>za3 za ya zc zb xa L p5 p77 p78 p79 k_hbbbbbbbbaba) L p5 p77 p78 p79 p91 p92 p93) k_x4
theorem zjU {β:Type} (za:xf) (ya:zg) (zc:yx) (zb:zh) (xa:yg) (L:Nat) (p5 p77:List (List V)) (p78 p79:Int) (X:St→Option β) (K:KT β):zj zw (xv za ya zc zb xa L) 0 L zai (yY p5 p77 p78 p79) (y5 xX X K)=zbF za ya zc zb xa L p5 p77 p78 p79 (fun p5=>K (.exit 4) (zfd p5)) (fun p5 p77 p78 p79=>X (yY p5 p77 p78 p79)):=by
 refine (zkF za ya zc zb xa L p5 p77 p78 p79 X K).trans ?_
 unfold zbF
 first
  | (simp only [zcv,zfy]; done)
  | (simp only [zcv]; rfl)
def zaZ {β:Type} (za:xf) (ya:zg) (zc:yx) (zb:zh) (xa:yg) (L:Nat) (k_x4:List (List V)→Option β):Nat→List (List V)→List (List V)→Int→Int→Option β
 | 0,_,_,_,_=>none
 | n+1,p5,p77,p78,p79=>zbF za ya zc zb xa L p5 p77 p78 p79 k_x4 (fun p5 p77 p78 p79=>zaZ za ya zc zb xa L k_x4 n p5 p77 p78 p79)
theorem zfi {β:Type} (za:xf) (ya:zg) (zc:yx) (zb:zh) (xa:yg) (L:Nat) (K:KT β):∀ (n:Nat) (p5 p77:List (List V)) (p78 p79:Int),xy (zj zw (xv za ya zc zb xa L) 0 L zai) xX n (yY p5 p77 p78 p79) K=zaZ za ya zc zb xa L (fun p5=>K (.exit 4) (zfd p5)) n p5 p77 p78 p79:=by
 intro n
 induction n with
 | zero=>intros; rfl
 | succ n ih =>
  intro p5 p77 p78 p79
  refine (zjU za ya zc zb xa L p5 p77 p78 p79 (fun σ=>xy (zj zw (xv za ya zc zb xa L) 0 L zai) xX n σ K) K).trans ?_
  simp only [ih]
  rfl
def zbT {β:Type} (za:xf) (ya:zg) (zc:yx) (zb:zh) (xa:yg) (L:Nat) (p1:Bool) (p5:List (List V)) (b2:List V) (k_fin:List (List V)→Option β):Option β :=
 zea za ya zc zb xa L p1 p5 b2 k_fin (fun p5 p77 p78 p79=>zaZ za ya zc zb xa L (fun p5=>zcY za ya zc zb xa L p5 k_fin) L p5 p77 p78 p79)
theorem zkE {β:Type} (za:xf) (ya:zg) (zc:yx) (zb:zh) (xa:yg) (L:Nat) (p1:Bool) (p5:List (List V)) (b2:List V) (k:KK β):(zr 2 (xH (zj zw (xv za ya zc zb xa L) 0 L zdS) (zP 0 (CF.res y8) k))) (.exit 2) (ze9 p1 p5 b2)=zbT za ya zc zb xa L p1 p5 b2 (fun p0=>k (V.gs 1 p0) []):=by
 refine (zln za ya zc zb xa L p1 p5 b2 k).trans ?_
 unfold zbT
 first
  | (simp only [zfi,zjK]; done)
  | (simp only [zfi]; rfl)
def zcB {β:Type} (za:xf) (ya:zg) (zc:yx) (zb:zh) (xa:yg) (L:Nat) (p1:Bool) (p5:List (List V)) (b2:List V) (k_fin:List (List V)→Option β):Option β :=
 ze1 za ya zc zb xa L p1 p5 b2 (fun p1 p5 p50 p51 p52 b2=>zbJ za ya zc zb xa L (fun p1 p5 b2=>zbT za ya zc zb xa L p1 p5 b2 k_fin) L p1 p5 p50 p51 p52 b2)
theorem zlN {β:Type} (za:xf) (ya:zg) (zc:yx) (zb:zh) (xa:yg) (L:Nat) (p1:Bool) (p5:List (List V)) (b2:List V) (k:KK β):(zr 0 (xH (zj zw (xv za ya zc zb xa L) 0 L ze6) (zP 0 (CF.res y8) k))) (.exit 0) (ze3 p1 p5 b2)=zcB za ya zc zb xa L p1 p5 b2 (fun p0=>k (V.gs 1 p0) []):=by
 refine (zmF za ya zc zb xa L p1 p5 b2 k).trans ?_
 unfold zcB
 first
  | (simp only [zgR,zkE]; done)
  | (simp only [zgR]; rfl)
def zjb {β:Type} (za:xf) (ya:zg) (zc:yx) (zb:zh) (xa:yg) (L:Nat) (p0:List V) (p1:Bool) (k_fin:List (List V)→Option β):Option β :=
 zm0 za ya zc zb xa L p0 p1 (fun p1 p5 p25 p26 p27 b2=>zcw za ya zc zb xa L (fun p1 p5 b2=>zcB za ya zc zb xa L p1 p5 b2 k_fin) L p1 p5 p25 p26 p27 b2)
theorem zt6 {β:Type} (za:xf) (ya:zg) (zc:yx) (zb:zh) (xa:yg) (L:Nat) (p0:List V) (p1:Bool) (k:KK β):yz zw (xv za ya zc zb xa L) L y8 [(V.agg p0),(V.sc (.bool p1))] [] k=zjb za ya zc zb xa L p0 p1 (fun p0=>k (V.gs 1 p0) []):=by
 refine (zuf za ya zc zb xa L p0 p1 k).trans ?_
 unfold zjb
 first
  | (simp only [ziu,zlN]; done)
  | (simp only [ziu]; rfl)
abbrev zp:=∀ (β:Type),Nat→List V→Bool→(List (List V)→Option β)→Option β
def xb (β:Type) (L:Nat) (p0:List V) (p1:Bool) (k_fin:List (List V)→Option β):Option β:=zjb za ya zc zb xa L p0 p1 k_fin
def zeJ (xb:zp) (L:Nat) (β:Type) (args:List V) (bor:Bor) (k:KK β):Option β:=match args,bor with
 | [a0,a1],[]=>aG a0 fun p0=>aB a1 fun p1=>xb β L p0 p1 (fun p0=>k (V.gs 1 p0) [])
 | _,_=>none
theorem zt5 (L:Nat) (β:Type) (args:List V) (bor:Bor) (k:KK β) (r:β) (h:zeJ xb L β args bor k=some r):yz zw (xv za ya zc zb xa L) L y8 args bor k=some r:=by
 unfold zeJ at h
 split at h
 ·have q:=zcx h; clear h; obtain ⟨p0,rfl,h⟩:=q
  have q:=zjA h; clear h; obtain ⟨p1,rfl,h⟩:=q
  exact (zt6 za ya zc zb xa L p0 p1 k).trans h
 ·cases h
def zax:CC:=(.seq (.reg [oo 51 (.bin .lss (tq 50) (tq 49))])
 (.seq (.cond (tq 51)
 .skip
 (.seq (.mask (bl 962072674306 63) (bl 9187343239835811499 63))
 (.exit 4)))
 (.seq (.block 5 (.seq (.reg [oo 52 (.indexAddrS 1 (tq 48) (tq 50)),
   oo 53 (.load false 1 (tq 52) false),
   oo 8 (.move (tq 53) false)])
 (.seq (.reg [oo 54 (.move (tq 8) false),
   oo 55 (.lenS (tq 54)),
   oo 56 (.bin .gtr (tq 55) (.const (.sc (.int .i64 520))))])
 (.cond (tq 56)
 (.seq (.reg [oo 2 (.move (.const (.sc (.bool false))) false)])
 (.seq (.mask (bl 4 63) (bl 9186745105510301357 63))
 .ret))
 .skip))))
 (.reg [oo 57 (.bin .add (tq 50) (.const (.sc (.int .i64 1)))),
   oo 50 (.move (tq 57) false)]))))
def zdb:CC:=(.reg [oo 58 (.bin .add (tq 39) (.const (.sc (.int .i64 1)))),
   oo 39 (.move (tq 58) false)])
def zbP:CC:=(.seq (.reg [oo 40 (.bin .lss (tq 39) (tq 38))])
 (.seq (.cond (tq 40)
 .skip
 (.seq (.mask (bl 2 63) (bl 9186745105510301355 63))
 (.exit 2)))
 (.seq (.block 3 (.seq (.reg [oo 41 (.indexAddrS 35 (tq 37) (tq 39)),
   oo 42 (.load true 35 (tq 41) false),
   oo 6 (.alloc true (rp 32 (.sc (.int .u8 0)) (rp 2 (.sc (.int .u32 0)) (rp 1 (.gs 1 []) [])))),
   oz (.store 35 (tq 6) (tq 42))])
 (.seq (.seq (.reg [oo 43 (.fieldAddr 34 (tq 6)),
   oo 44 (.load false 1 (tq 43) false),
   oo 45 (.lenS (tq 44)),
   oo 46 (.bin .gtr (tq 45) (.const (.sc (.int .i64 32))))])
 (.cond (tq 46)
 (.seq (.reg [oo 2 (.move (.const (.sc (.bool false))) false)])
 (.seq (.mask (bl 4 63) (bl 9186745105510301357 63))
 .ret))
 .skip))
 (.seq (.reg [oo 47 (.fieldAddr 34 (tq 6)),
   oo 48 (.load false 1 (tq 47) false),
   oo 49 (.lenS (tq 48)),
   oo 50 (.move (.const (.sc (.int .i64 0))) false)])
 (.block 4 (.loop (bl 1971286909648898 63) (bl 9187343239835811499 63)
 zax))))))
 zdb)))
def zdu:CC:=(.seq (.reg [oo 23 (.bin .lss (tq 22) (tq 21))])
 (.seq (.cond (tq 23)
 .skip
 (.seq (.mask (bl 2 63) (bl 9223372032559808427 63))
 (.exit 0)))
 (.seq (.block 1 (.seq (.reg [oo 24 (.indexAddrS 2 (tq 20) (tq 22)),
   oo 25 (.load true 2 (tq 24) false),
   oo 4 (.alloc true [(.sc (.int .i64 0)),(.gs 1 [])]),
   oz (.store 2 (tq 4) (tq 25))])
 (.seq (.reg [oo 26 (.fieldAddr 0 (tq 4)),
   oo 27 (.load false 1 (tq 26) false),
   oo 28 (.bin .lss (tq 27) (.const (.sc (.int .i64 0)))),
   oo 29 (.move (tq 28) false),
   ⟨(some 30),false,(some (29,false)),.fieldAddr 1 (tq 4)⟩,
   ⟨(some 31),false,(some (29,false)),.load false 1 (tq 30) false⟩,
   ⟨(some 32),false,(some (29,false)),.lenS (tq 31)⟩,
   ⟨(some 33),false,(some (29,false)),.bin .gtr (tq 32) (.const (.sc (.int .i64 520)))⟩,
   oo 34 (.pick (tq 29) (.const (.sc (.bool true))) (tq 33))])
 (.cond (tq 34)
 (.seq (.reg [oo 2 (.move (.const (.sc (.bool false))) false)])
 (.seq (.mask (bl 4 63) (bl 9223372032559808429 63))
 .ret))
 .skip))))
 (.reg [oo 35 (.bin .add (tq 22) (.const (.sc (.int .i64 1)))),
   oo 22 (.move (tq 35) false)]))))
def zgZ:CC:=(.seq (.reg [oo 59 (.load true 4 (tq 1) false),
   oo 60 (.call 147 [((tq 59),1),((.const (.sc (.bool true))),0)] []),
   oo 61 (.lenS (tq 60)),
   oo 62 (.bin .leq (tq 61) (.const (.sc (.int .i64 20000)))),
   oo 2 (.move (tq 62) false)])
 .ret)
def zfx:CC:=(.seq (.seq (.reg [oo 36 (.fieldAddr 1 (tq 1)),
   oo 37 (.load false 1 (tq 36) false),
   oo 38 (.lenS (tq 37)),
   oo 39 (.move (.const (.sc (.int .i64 0))) false)])
 (.block 2 (.loop (bl 962072674306 63) (bl 9186745105510301355 63)
 zbP)))
 zgZ)
def za7:CF:=⟨63,[.tmp 2],
 (.seq (.reg [oo 1 (.box true (tq 0)),
   oo 2 (.move (.const (.sc (.bool false))) false)])
 (.seq (.seq (.reg [oo 9 (.fieldAddr 1 (tq 1)),
   oo 10 (.load false 1 (tq 9) false),
   oo 11 (.lenS (tq 10)),
   oo 12 (.bin .gtr (tq 11) (.const (.sc (.int .i64 64)))),
   oo 13 (.move (tq 12) false),
   ⟨(some 14),false,(some (13,false)),.fieldAddr 2 (tq 1)⟩,
   ⟨(some 15),false,(some (13,false)),.load false 1 (tq 14) false⟩,
   ⟨(some 16),false,(some (13,false)),.lenS (tq 15)⟩,
   ⟨(some 17),false,(some (13,false)),.bin .gtr (tq 16) (.const (.sc (.int .i64 64)))⟩,
   oo 18 (.pick (tq 13) (.const (.sc (.bool true))) (tq 17))])
 (.cond (tq 18)
 (.seq (.reg [oo 2 (.move (.const (.sc (.bool false))) false)])
 .ret)
 .skip))
 (.seq (.seq (.reg [oo 19 (.fieldAddr 2 (tq 1)),
   oo 20 (.load false 1 (tq 19) false),
   oo 21 (.lenS (tq 20)),
   oo 22 (.move (.const (.sc (.int .i64 0))) false)])
 (.block 0 (.loop (bl 7340034 63) (bl 9223372032559808427 63)
 zdu)))
 zfx)))⟩
def zqc:Hint:=⟨[(0,0),(5,2),(11,2)],[],[none,none,none,some ((bl 7340034 63),(bl 9223372032559808427 63)),none,some ((bl 2 63),(bl 9223372032559808427 63)),none,none,some ((bl 4 63),(bl 9223372032559808429 63)),none,some ((bl 962072674306 63),(bl 9186745105510301355 63)),none,some ((bl 2 63),(bl 9186745105510301355 63)),none,none,some ((bl 4 63),(bl 9186745105510301357 63)),none,some ((bl 1971286909648898 63),(bl 9187343239835811499 63)),none,some ((bl 962072674306 63),(bl 9187343239835811499 63)),none,none,some ((bl 4 63),(bl 9186745105510301357 63)),none],[],[],false,false,[]⟩
def yE:Nat→Sh:=xI [(10,(.sl 35)),(15,(.sl 2)),(20,(.sl 2)),(27,(.int .i64)),(31,(.sl 1)),(37,(.sl 35)),(44,(.sl 1)),(48,(.sl 1)),(53,(.sl 1))]
def xD (xb:zp) (L:Nat):CBC:=(xr 147 (zeJ xb L) noC)
def zf8:St→St:=yJ 0 (bl 7340034 63) (bl 9223372032559808427 63)
def zaW:St→St:=yJ 0 (bl 962072674306 63) (bl 9186745105510301355 63)
def zbt:St→St:=yJ 0 (bl 1971286909648898 63) (bl 9187343239835811499 63)
def zdP (p20:List (List V)) (p21 p22:Int) (b1:List V):St:=⟨(jn 1 ((V.ptr 1 0)::(jn 18 ((V.sl 2 p20)::((V.sc (.int .i64 p21))::((V.sc (.int .i64 p22))::(jn 40 []))))))),(gn 1 ((.live true b1)::(gn 61 [])))⟩
def z8 (p2:Bool):St:=⟨(jn 2 ((V.sc (.bool p2))::(jn 60 []))),(gn 63 [])⟩
def zg6 (b1:List V):St:=⟨(jn 1 ((V.ptr 1 0)::(jn 61 []))),(gn 1 ((.live true b1)::(gn 61 [])))⟩
def zbf (p37:List (List V)) (p38 p39:Int) (b1:List V):St:=⟨(jn 1 ((V.ptr 1 0)::(jn 35 ((V.sl 35 p37)::((V.sc (.int .i64 p38))::((V.sc (.int .i64 p39))::(jn 23 []))))))),(gn 1 ((.live true b1)::(gn 61 [])))⟩
def zaU (p37:List (List V)) (p38 p39:Int) (p48:List (List V)) (p49 p50:Int) (b1:List V):St:=⟨(jn 1 ((V.ptr 1 0)::(jn 35 ((V.sl 35 p37)::((V.sc (.int .i64 p38))::((V.sc (.int .i64 p39))::(jn 8 ((V.sl 1 p48)::((V.sc (.int .i64 p49))::((V.sc (.int .i64 p50))::(jn 12 []))))))))))),(gn 1 ((.live true b1)::(gn 61 [])))⟩
def zgT (b1:List V):St:=⟨(jn 1 ((V.ptr 1 0)::(jn 61 []))),(gn 1 ((.live true b1)::(gn 61 [])))⟩
def zj2 (p37:List (List V)) (p38 p39:Int) (b1:List V):St:=⟨(jn 1 ((V.ptr 1 0)::(jn 35 ((V.sl 35 p37)::((V.sc (.int .i64 p38))::((V.sc (.int .i64 p39))::(jn 23 []))))))),(gn 1 ((.live true b1)::(gn 61 [])))⟩
abbrev zfb (β:Type):Type:=List (List V)→Int→Int→List (List V)→Int→Int→List V→Option β
def zpS {β:Type} (xb:zp) (L:Nat) (p0:List V) (k_fin:Bool→Option β) (k_hbbaba:List (List V)→Int→Int→List V→Option β):Option β :=
 cLd 35 p0 1 fun v0 =>
 ifb (decide (((List.length v0:Nat):Int) > (64:Int))) (
 k_fin false) (
 cLd 2 p0 2 fun v1 =>
 ifb (decide (((List.length v1:Nat):Int) > (64:Int))) (
 k_fin false) (
 cLd 2 p0 2 fun v2 =>
 k_hbbaba v2 ((List.length v2:Nat):Int) (0:Int) p0))
theorem zvV {β:Type} (xb:zp) (L:Nat) (p0:List V) (k:KK β):yz yE (xD xb L) L za7 [(V.agg p0)] [] k=zpS xb L p0 (fun p0=>k (V.sc (.bool p0)) []) (fun p20 p21 p22 b1=>xy (zj yE (xD xb L) 0 L zdu) zf8 L (zdP p20 p21 p22 b1) (zr 0 (xH (zj yE (xD xb L) 0 L zfx) (zP 0 (CF.res za7) k)))):=by kernel_rfl
def ziX {β:Type} (xb:zp) (L:Nat) (p20:List (List V)) (p21 p22:Int) (b1:List V) (k_ret:Bool→Option β) (k_hbbaba:List (List V)→Int→Int→List V→Option β) (k_x0:List V→Option β):Option β :=
 ifb (decide (p22 < p21)) (
 idx p20 p22 fun c3 =>
 chk ((List.length (List.take 2 c3))=2∧0+2≤2) (
 lt (xk [(V.sc (.int .i64 (0:Int))),(V.gs 1 ([]:List (List V)))] 0 (List.take 2 c3)) fun r4 =>
 cI .i64 r4 0 fun v5 =>
 ifb (decide (v5 < (0:Int))) (
 k_ret false) (
 cLd 1 r4 1 fun v6 =>
 ifb (decide (((List.length v6:Nat):Int) > (520:Int))) (
 k_ret false) (
 lt (IntKind.wrap .i64 ((p22:Int)+(1:Int))) fun x7 =>
 k_hbbaba p20 p21 x7 b1)))) (
 k_x0 b1)
theorem zrs {β:Type} (xb:zp) (L:Nat) (p20:List (List V)) (p21 p22:Int) (b1:List V) (X:St→Option β) (K:KT β):zj yE (xD xb L) 0 L zdu (zdP p20 p21 p22 b1) (y5 zf8 X K)=ziX xb L p20 p21 p22 b1 (fun p2=>K .ret (z8 p2)) (fun p20 p21 p22 b1=>X (zdP p20 p21 p22 b1)) (fun b1=>K (.exit 0) (zg6 b1)):=by kernel_rfl
def zgs {β:Type} (xb:zp) (L:Nat) (p2:Bool) (k_fin:Bool→Option β):Option β :=
 k_fin p2
theorem zoE {β:Type} (xb:zp) (L:Nat) (p2:Bool) (k:KK β):(zr 0 (xH (zj yE (xD xb L) 0 L zfx) (zP 0 (CF.res za7) k))) .ret (z8 p2)=zgs xb L p2 (fun p0=>k (V.sc (.bool p0)) []):=by kernel_rfl
def zhb {β:Type} (xb:zp) (L:Nat) (b1:List V) (k_hbbbaba:List (List V)→Int→Int→List V→Option β):Option β :=
 cLd 35 b1 1 fun v8 =>
 k_hbbbaba v8 ((List.length v8:Nat):Int) (0:Int) b1
theorem zpc {β:Type} (xb:zp) (L:Nat) (b1:List V) (k:KK β):(zr 0 (xH (zj yE (xD xb L) 0 L zfx) (zP 0 (CF.res za7) k))) (.exit 0) (zg6 b1)=zhb xb L b1 (fun p37 p38 p39 b1=>xy (zj yE (xD xb L) 0 L zbP) zaW L (zbf p37 p38 p39 b1) (zr 2 (xH (zj yE (xD xb L) 0 L zgZ) (zP 0 (CF.res za7) k)))):=by kernel_rfl
def zh5 {β:Type} (xb:zp) (L:Nat) (p37:List (List V)) (p38 p39:Int) (b1:List V) (k_ret:Bool→Option β) (k_hbbbabaabbaabbba:zfb β) (k_x2:List V→Option β):Option β :=
 ifb (decide (p39 < p38)) (
 idx p37 p39 fun c9 =>
 chk ((List.length (List.take 35 c9))=35∧0+35≤35) (
 lt (xk (List.replicate 32 (V.sc (.int .u8 (0:Int)))++[(V.sc (.int .u32 (0:Int))),(V.sc (.int .u32 (0:Int))),(V.gs 1 ([]:List (List V)))]) 0 (List.take 35 c9)) fun r10 =>
 cLd 1 r10 34 fun v11 =>
 ifb (decide (((List.length v11:Nat):Int) > (32:Int))) (
 k_ret false) (
 cLd 1 r10 34 fun v12 =>
 k_hbbbabaabbaabbba p37 p38 p39 v12 ((List.length v12:Nat):Int) (0:Int) b1))) (
 k_x2 b1)
theorem zpC {β:Type} (xb:zp) (L:Nat) (p37:List (List V)) (p38 p39:Int) (b1:List V) (X:St→Option β) (K:KT β):zj yE (xD xb L) 0 L zbP (zbf p37 p38 p39 b1) (y5 zaW X K)=zh5 xb L p37 p38 p39 b1 (fun p2=>K .ret (z8 p2)) (fun p37 p38 p39 p48 p49 p50 b1=>xy (zj yE (xD xb L) 0 L zax) zbt L (zaU p37 p38 p39 p48 p49 p50 b1) (zr 4 (zr 3 (xH (zj yE (xD xb L) 0 L zdb) (y5 zaW X K))))) (fun b1=>K (.exit 2) (zgT b1)):=by kernel_rfl
def zfu {β:Type} (xb:zp) (L:Nat) (p2:Bool) (k_fin:Bool→Option β):Option β :=
 k_fin p2
theorem zng {β:Type} (xb:zp) (L:Nat) (p2:Bool) (k:KK β):(zr 2 (xH (zj yE (xD xb L) 0 L zgZ) (zP 0 (CF.res za7) k))) .ret (z8 p2)=zfu xb L p2 (fun p0=>k (V.sc (.bool p0)) []):=by kernel_rfl
def zgt {β:Type} (xb:zp) (L:Nat) (b1:List V) (k_fin:Bool→Option β):Option β :=
 chk (0+4≤(List.length b1)) (
 xb β L (List.map V.dem (List.take 4 b1)) true (fun v13 =>
 k_fin (decide (((List.length v13:Nat):Int)≤(20000:Int)))))
theorem znQ {β:Type} (xb:zp) (L:Nat) (b1:List V) (k:KK β):(zr 2 (xH (zj yE (xD xb L) 0 L zgZ) (zP 0 (CF.res za7) k))) (.exit 2) (zgT b1)=zgt xb L b1 (fun p0=>k (V.sc (.bool p0)) []):=by kernel_rfl
def zc1 {β:Type} (xb:zp) (L:Nat) (p37:List (List V)) (p38 p39:Int) (p48:List (List V)) (p49 p50:Int) (b1:List V) (k_ret:Bool→Option β) (k_hbbbabaabbaabbba:zfb β) (k_x4:List (List V)→Int→Int→List V→Option β):Option β :=
 ifb (decide (p50 < p49)) (
 idx p48 p50 fun c14 =>
 cL 1 c14 0 fun v15 =>
 ifb (decide (((List.length v15:Nat):Int) > (520:Int))) (
 k_ret false) (
 lt (IntKind.wrap .i64 ((p50:Int)+(1:Int))) fun x16 =>
 k_hbbbabaabbaabbba p37 p38 p39 p48 p49 x16 b1)) (
 k_x4 p37 p38 p39 b1)
theorem zjk {β:Type} (xb:zp) (L:Nat) (p37:List (List V)) (p38 p39:Int) (p48:List (List V)) (p49 p50:Int) (b1:List V) (X:St→Option β) (K:KT β):zj yE (xD xb L) 0 L zax (zaU p37 p38 p39 p48 p49 p50 b1) (y5 zbt X K)=zc1 xb L p37 p38 p39 p48 p49 p50 b1 (fun p2=>K .ret (z8 p2)) (fun p37 p38 p39 p48 p49 p50 b1=>X (zaU p37 p38 p39 p48 p49 p50 b1)) (fun p37 p38 p39 b1=>K (.exit 4) (zj2 p37 p38 p39 b1)):=by kernel_rfl
def zb6 {β:Type} (xb:zp) (L:Nat) (p2:Bool) (k_ret:Bool→Option β):Option β :=
 k_ret p2
theorem zif {β:Type} (xb:zp) (L:Nat) (p2:Bool) (X:St→Option β) (K:KT β):(zr 4 (zr 3 (xH (zj yE (xD xb L) 0 L zdb) (y5 zaW X K)))) .ret (z8 p2)=zb6 xb L p2 (fun p2=>K .ret (z8 p2)):=by kernel_rfl
def zcl {β:Type} (xb:zp) (L:Nat) (p37:List (List V)) (p38 p39:Int) (b1:List V) (k_hbbbaba:List (List V)→Int→Int→List V→Option β):Option β :=
 lt (IntKind.wrap .i64 ((p39:Int)+(1:Int))) fun x17 =>
 k_hbbbaba p37 p38 x17 b1
theorem zix {β:Type} (xb:zp) (L:Nat) (p37:List (List V)) (p38 p39:Int) (b1:List V) (X:St→Option β) (K:KT β):(zr 4 (zr 3 (xH (zj yE (xD xb L) 0 L zdb) (y5 zaW X K)))) (.exit 4) (zj2 p37 p38 p39 b1)=zcl xb L p37 p38 p39 b1 (fun p37 p38 p39 b1=>X (zbf p37 p38 p39 b1)):=by kernel_rfl
def zd3 {β:Type} (xb:zp) (L:Nat) (k_ret:Bool→Option β) (k_x0:List V→Option β):Nat→List (List V)→Int→Int→List V→Option β
 | 0,_,_,_,_=>none
 | n+1,p20,p21,p22,b1=>ziX xb L p20 p21 p22 b1 k_ret (fun p20 p21 p22 b1=>zd3 xb L k_ret k_x0 n p20 p21 p22 b1) k_x0
theorem zka {β:Type} (xb:zp) (L:Nat) (K:KT β):∀ (n:Nat) (p20:List (List V)) (p21 p22:Int) (b1:List V),xy (zj yE (xD xb L) 0 L zdu) zf8 n (zdP p20 p21 p22 b1) K=zd3 xb L (fun p2=>K .ret (z8 p2)) (fun b1=>K (.exit 0) (zg6 b1)) n p20 p21 p22 b1:=by
 intro n
 induction n with
 | zero=>intros; rfl
 | succ n ih =>
  intro p20 p21 p22 b1
  refine (zrs xb L p20 p21 p22 b1 (fun σ=>xy (zj yE (xD xb L) 0 L zdu) zf8 n σ K) K).trans ?_
  simp only [ih]
  rfl
def zaG {β:Type} (xb:zp) (L:Nat) (k_ret:Bool→Option β) (k_x4:List (List V)→Int→Int→List V→Option β):Nat→List (List V)→Int→Int→List (List V)→Int→Int→List V→Option β
 | 0,_,_,_,_,_,_,_=>none
 | n+1,p37,p38,p39,p48,p49,p50,b1=>zc1 xb L p37 p38 p39 p48 p49 p50 b1 k_ret (fun p37 p38 p39 p48 p49 p50 b1=>zaG xb L k_ret k_x4 n p37 p38 p39 p48 p49 p50 b1) k_x4
theorem zej {β:Type} (xb:zp) (L:Nat) (K:KT β):∀ (n:Nat) (p37:List (List V)) (p38 p39:Int) (p48:List (List V)) (p49 p50:Int) (b1:List V),xy (zj yE (xD xb L) 0 L zax) zbt n (zaU p37 p38 p39 p48 p49 p50 b1) K=zaG xb L (fun p2=>K .ret (z8 p2)) (fun p37 p38 p39 b1=>K (.exit 4) (zj2 p37 p38 p39 b1)) n p37 p38 p39 p48 p49 p50 b1:=by
 intro n
 induction n with
 | zero=>intros; rfl
 | succ n ih =>
  intro p37 p38 p39 p48 p49 p50 b1
  refine (zjk xb L p37 p38 p39 p48 p49 p50 b1 (fun σ=>xy (zj yE (xD xb L) 0 L zax) zbt n σ K) K).trans ?_
  simp only [ih]
  rfl
def zeo {β:Type} (xb:zp) (L:Nat) (p37:List (List V)) (p38 p39:Int) (b1:List V) (k_ret:Bool→Option β) (k_x2:List V→Option β) (k_hbbbaba:List (List V)→Int→Int→List V→Option β):Option β :=
 zh5 xb L p37 p38 p39 b1 k_ret (fun p37 p38 p39 p48 p49 p50 b1=>zaG xb L (fun p2=>zb6 xb L p2 k_ret) (fun p37 p38 p39 b1=>zcl xb L p37 p38 p39 b1 k_hbbbaba) L p37 p38 p39 p48 p49 p50 b1) k_x2
theorem zph {β:Type} (xb:zp) (L:Nat) (p37:List (List V)) (p38 p39:Int) (b1:List V) (X:St→Option β) (K:KT β):zj yE (xD xb L) 0 L zbP (zbf p37 p38 p39 b1) (y5 zaW X K)=zeo xb L p37 p38 p39 b1 (fun p2=>K .ret (z8 p2)) (fun b1=>K (.exit 2) (zgT b1)) (fun p37 p38 p39 b1=>X (zbf p37 p38 p39 b1)):=by
 refine (zpC xb L p37 p38 p39 b1 X K).trans ?_
 unfold zeo
 first
  | (simp only [zej,zif,zix]; done)
  | (simp only [zej]; rfl)
def zdE {β:Type} (xb:zp) (L:Nat) (k_ret:Bool→Option β) (k_x2:List V→Option β):Nat→List (List V)→Int→Int→List V→Option β
 | 0,_,_,_,_=>none
 | n+1,p37,p38,p39,b1=>zeo xb L p37 p38 p39 b1 k_ret k_x2 (fun p37 p38 p39 b1=>zdE xb L k_ret k_x2 n p37 p38 p39 b1)
theorem zjE {β:Type} (xb:zp) (L:Nat) (K:KT β):∀ (n:Nat) (p37:List (List V)) (p38 p39:Int) (b1:List V),xy (zj yE (xD xb L) 0 L zbP) zaW n (zbf p37 p38 p39 b1) K=zdE xb L (fun p2=>K .ret (z8 p2)) (fun b1=>K (.exit 2) (zgT b1)) n p37 p38 p39 b1:=by
 intro n
 induction n with
 | zero=>intros; rfl
 | succ n ih =>
  intro p37 p38 p39 b1
  refine (zph xb L p37 p38 p39 b1 (fun σ=>xy (zj yE (xD xb L) 0 L zbP) zaW n σ K) K).trans ?_
  simp only [ih]
  rfl
def zdW {β:Type} (xb:zp) (L:Nat) (b1:List V) (k_fin:Bool→Option β):Option β :=
 zhb xb L b1 (fun p37 p38 p39 b1=>zdE xb L (fun p2=>zfu xb L p2 k_fin) (fun b1=>zgt xb L b1 k_fin) L p37 p38 p39 b1)
theorem zoD {β:Type} (xb:zp) (L:Nat) (b1:List V) (k:KK β):(zr 0 (xH (zj yE (xD xb L) 0 L zfx) (zP 0 (CF.res za7) k))) (.exit 0) (zg6 b1)=zdW xb L b1 (fun p0=>k (V.sc (.bool p0)) []):=by
 refine (zpc xb L b1 k).trans ?_
 unfold zdW
 first
  | (simp only [zjE,zng,znQ]; done)
  | (simp only [zjE]; rfl)
def zmk {β:Type} (xb:zp) (L:Nat) (p0:List V) (k_fin:Bool→Option β):Option β :=
 zpS xb L p0 k_fin (fun p20 p21 p22 b1=>zd3 xb L (fun p2=>zgs xb L p2 k_fin) (fun b1=>zdW xb L b1 k_fin) L p20 p21 p22 b1)
theorem zvU {β:Type} (xb:zp) (L:Nat) (p0:List V) (k:KK β):yz yE (xD xb L) L za7 [(V.agg p0)] [] k=zmk xb L p0 (fun p0=>k (V.sc (.bool p0)) []):=by
 refine (zvV xb L p0 k).trans ?_
 unfold zmk
 first
  | (simp only [zka,zoE,zoD]; done)
  | (simp only [zka]; rfl)
abbrev zT:=∀ (β:Type),Nat→List V→(Bool→Option β)→Option β
def xj (β:Type) (L:Nat) (p0:List V) (k_fin:Bool→Option β):Option β:=zmk xb L p0 k_fin
def zhm (xj:zT) (L:Nat) (β:Type) (args:List V) (bor:Bor) (k:KK β):Option β:=match args,bor with
 | [a0],[]=>aG a0 fun p0=>xj β L p0 (fun p0=>k (V.sc (.bool p0)) [])
 | _,_=>none
theorem zwY (L:Nat) (β:Type) (args:List V) (bor:Bor) (k:KK β) (r:β) (h:zhm xj L β args bor k=some r):yz yE (xD xb L) L za7 args bor k=some r:=by
 unfold zhm at h
 split at h
 ·have q:=zcx h; clear h; obtain ⟨p0,rfl,h⟩:=q
  exact (zvU xb L p0 k).trans h
 ·cases h
def zhG:CF:=⟨12,[.tmp 4,.tmp 5],
 (.seq (.reg [oo 2 (.box true (tq 0)),
   oo 4 (.move (.const (.gs 1 [])) true),
   oo 5 (.move (.const (.sc (.int .i64 0))) false)])
 (.seq (.seq (.reg [oo 6 (.load true 4 (tq 2) false),
   oo 7 (.call 146 [((tq 6),1)] []),
   oo 8 (.un .not (tq 7))])
 (.cond (tq 8)
 (.seq (.reg [oo 4 (.move (.const (.gs 1 [])) true),
   oo 5 (.move (.const (.sc (.int .i64 4))) false)])
 .ret)
 .skip))
 (.seq (.reg [oo 9 (.load true 4 (tq 2) false),
   oo 10 (.move (tq 1) false),
   oo 11 (.call 147 [((tq 9),1),((tq 10),0)] []),
   oo 4 (.move (tq 11) true),
   oo 5 (.move (.const (.sc (.int .i64 0))) false)])
 .ret)))⟩
def znu:Hint:=⟨[(0,0),(0,1),(2,0),(3,3)],[],[none,none,none],[],[],false,false,[]⟩
def zlb:Nat→Sh:=xI []
def zly (xj:zT) (xb:zp) (L:Nat):CBC:=(xr 147 (zeJ xb L) (xr 146 (zhm xj L) noC))
def zmV {β:Type} (xj:zT) (xb:zp) (L:Nat) (p0:List V) (p1:Bool) (k_fin:List (List V)→Int→Option β):Option β :=
 chk (0+4≤(List.length p0)) (
 xj β L (List.map V.dem (List.take 4 p0)) (fun v0 =>
 ifb (!v0) (
 k_fin ([]:List (List V)) (4:Int)) (
 chk (0+4≤(List.length p0)) (
 xb β L (List.map V.dem (List.take 4 p0)) p1 (fun v1 =>
 k_fin v1 (0:Int))))))
theorem zub {β:Type} (xj:zT) (xb:zp) (L:Nat) (p0:List V) (p1:Bool) (k:KK β):yz zlb (zly xj xb L) L zhG [(V.agg p0),(V.sc (.bool p1))] [] k=zmV xj xb L p0 p1 (fun zFe zFf=>k (V.tup [(V.gs 1 zFe),(V.sc (.int .i64 zFf))]) []):=by kernel_rfl
abbrev zbk:=∀ (β:Type),Nat→List V→Bool→(List (List V)→Int→Option β)→Option β
def xo (β:Type) (L:Nat) (p0:List V) (p1:Bool) (k_fin:List (List V)→Int→Option β):Option β:=zmV xj xb L p0 p1 k_fin
def zeK (xo:zbk) (L:Nat) (β:Type) (args:List V) (bor:Bor) (k:KK β):Option β:=match args,bor with
 | [a0,a1],[]=>aG a0 fun p0=>aB a1 fun p1=>xo β L p0 p1 (fun zFe zFf=>k (V.tup [(V.gs 1 zFe),(V.sc (.int .i64 zFf))]) [])
 | _,_=>none
theorem zup (L:Nat) (β:Type) (args:List V) (bor:Bor) (k:KK β) (r:β) (h:zeK xo L β args bor k=some r):yz zlb (zly xj xb L) L zhG args bor k=some r:=by
 unfold zeK at h
 split at h
 ·have q:=zcx h; clear h; obtain ⟨p0,rfl,h⟩:=q
  have q:=zjA h; clear h; obtain ⟨p1,rfl,h⟩:=q
  exact (zub xj xb L p0 p1 k).trans h
 ·cases h
def zh9:CF:=⟨14,[.tmp 2],
 (.seq (.reg [oo 1 (.box true (tq 0)),
   oo 2 (.move (.const (.sc (.int .i64 0))) false)])
 (.seq (.seq (.reg [oo 3 (.load true 4 (tq 1) false),
   oo 4 (.call 146 [((tq 3),1)] []),
   oo 5 (.un .not (tq 4))])
 (.cond (tq 5)
 (.seq (.reg [oo 2 (.move (.const (.sc (.int .i64 0))) false)])
 .ret)
 .skip))
 (.seq (.dreg [] [(oo 6 (.load true 4 (tq 1) false),ql 1 [] []),
   (oo 7 (.call 147 [((tq 6),1),((.const (.sc (.bool false))),0)] []),qc [1] []),
   (oo 8 (.lenS (tq 7)),q0),
   (oo 9 (.bin .mul (.const (.sc (.int .i64 3))) (tq 8)),q0),
   (oo 10 (.load true 4 (tq 1) false),ql 1 [] []),
   (oo 11 (.call 147 [((tq 10),1),((.const (.sc (.bool true))),0)] []),q0),
   (oo 12 (.lenS (tq 11)),q0),
   (oo 13 (.bin .add (tq 9) (tq 12)),q0),
   (oo 2 (.move (tq 13) false),q0)])
 .ret)))⟩
def zm5:Hint:=⟨[(0,0)],[],[none,none,none],[],[],false,false,[]⟩
def zlc:Nat→Sh:=xI []
def zlg (xj:zT) (xb:zp) (L:Nat):CBC:=(xr 147 (zeJ xb L) (xr 146 (zhm xj L) noC))
def zrJ {β:Type} (xj:zT) (xb:zp) (L:Nat) (p0:List V) (k_fin:Int→Option β):Option β :=
 chk (0+4≤(List.length p0)) (
 xj β L (List.map V.dem (List.take 4 p0)) (fun v0 =>
 ifb (!v0) (
 k_fin (0:Int)) (
 chk (0+4≤(List.length p0)) (
 xb β L (List.map V.dem (List.take 4 p0)) false (fun v1 =>
 lt (IntKind.wrap .i64 (((3:Int):Int) * ((List.length v1:Nat):Int))) fun x2 =>
 chk (0+4≤(List.length p0)) (
 xb β L (List.map V.dem (List.take 4 p0)) true (fun v3 =>
 lt (IntKind.wrap .i64 ((x2:Int)+((List.length v3:Nat):Int))) fun x4 =>
 k_fin x4)))))))
theorem ztY {β:Type} (xj:zT) (xb:zp) (L:Nat) (p0:List V) (k:KK β):yz zlc (zlg xj xb L) L zh9 [(V.agg p0)] [] k=zrJ xj xb L p0 (fun p0=>k (V.sc (.int .i64 p0)) []):=by kernel_rfl
abbrev zeM:=∀ (β:Type),Nat→List V→(Int→Option β)→Option β
def zJ (β:Type) (L:Nat) (p0:List V) (k_fin:Int→Option β):Option β:=zrJ xj xb L p0 k_fin
def zgP (zJ:zeM) (L:Nat) (β:Type) (args:List V) (bor:Bor) (k:KK β):Option β:=match args,bor with
 | [a0],[]=>aG a0 fun p0=>zJ β L p0 (fun p0=>k (V.sc (.int .i64 p0)) [])
 | _,_=>none
theorem ztS (L:Nat) (β:Type) (args:List V) (bor:Bor) (k:KK β) (r:β) (h:zgP zJ L β args bor k=some r):yz zlc (zlg xj xb L) L zh9 args bor k=some r:=by
 unfold zgP at h
 split at h
 ·have q:=zcx h; clear h; obtain ⟨p0,rfl,h⟩:=q
  exact (ztY xj xb L p0 k).trans h
 ·cases h
def zc3:CC:=(.seq (.reg [oo 9 (.bin .lss (tq 8) (tq 7))])
 (.seq (.cond (tq 9)
 .skip
 (.seq (.mask (bl 0 22) (bl 4194259 22))
 (.exit 0)))
 (.seq (.block 1 (.seq (.reg [oo 10 (.indexAddrS 2 (tq 6) (tq 8)),
   oo 11 (.load true 2 (tq 10) false),
   oo 5 (.alloc true [(.sc (.int .i64 0)),(.gs 1 [])]),
   oz (.store 2 (tq 5) (tq 11))])
 (.seq (.seq (.reg [oo 12 (.fieldAddr 0 (tq 5)),
   oo 13 (.load false 1 (tq 12) false),
   oo 14 (.move (tq 3) false),
   oo 15 (.bin .sub (.const (.sc (.int .i64 2100000000000000))) (tq 14)),
   oo 16 (.bin .gtr (tq 13) (tq 15))])
 (.cond (tq 16)
 (.seq (.reg [oo 2 (.move (.const (.sc (.bool false))) false)])
 (.seq (.mask (bl 4 22) (bl 4194263 22))
 .ret))
 .skip))
 (.reg [oo 17 (.move (tq 3) false),
   oo 18 (.fieldAddr 0 (tq 5)),
   oo 19 (.load false 1 (tq 18) false),
   oo 20 (.bin .add (tq 17) (tq 19)),
   oo 3 (.move (tq 20) false)]))))
 (.reg [oo 21 (.bin .add (tq 8) (.const (.sc (.int .i64 1)))),
   oo 8 (.move (tq 21) false)]))))
def zg5:CC:=(.seq (.reg [oo 2 (.move (.const (.sc (.bool true))) false)])
 .ret)
def zcH:CF:=⟨22,[.tmp 2],
 (.seq (.reg [oo 2 (.move (.const (.sc (.bool false))) false)])
 (.seq (.reg [oo 3 (.move (.const (.sc (.int .i64 0))) false)])
 (.seq (.seq (.reg [oo 6 (.move (tq 0) false),
   oo 7 (.lenS (tq 6)),
   oo 8 (.move (.const (.sc (.int .i64 0))) false)])
 (.block 0 (.loop (bl 456 22) (bl 4194267 22)
 zc3)))
 zg5)))⟩
def zo0:Hint:=⟨[(4,2)],[],[none,some ((bl 456 22),(bl 4194267 22)),none,some ((bl 0 22),(bl 4194259 22)),none,none,some ((bl 4 22),(bl 4194263 22)),none],[],[],false,false,[]⟩
def za6:Nat→Sh:=xI [(13,(.int .i64)),(19,(.int .i64))]
def za2 (L:Nat):CBC:=noC
def zff:St→St:=yJ 0 (bl 456 22) (bl 4194267 22)
def zdn (p3:Int) (p6:List (List V)) (p7 p8:Int):St:=⟨(jn 3 ((V.sc (.int .i64 p3))::(jn 2 ((V.sl 2 p6)::((V.sc (.int .i64 p7))::((V.sc (.int .i64 p8))::(jn 13 []))))))),(gn 22 [])⟩
def zhW (p2:Bool):St:=⟨(jn 2 ((V.sc (.bool p2))::(jn 19 []))),(gn 22 [])⟩
def zi4:St:=⟨(jn 22 []),(gn 22 [])⟩
def zsO {β:Type} (L:Nat) (p0:List (List V)) (k_hbbaba:Int→List (List V)→Int→Int→Option β):Option β :=
 k_hbbaba (0:Int) p0 ((List.length p0:Nat):Int) (0:Int)
theorem zvo {β:Type} (L:Nat) (p0:List (List V)) (k:KK β):yz za6 (za2 L) L zcH [(V.sl 2 p0)] [] k=zsO L p0 (fun p3 p6 p7 p8=>xy (zj za6 (za2 L) 0 L zc3) zff L (zdn p3 p6 p7 p8) (zr 0 (xH (zj za6 (za2 L) 0 L zg5) (zP 0 (CF.res zcH) k)))):=by kernel_rfl
def zl9 {β:Type} (L:Nat) (p3:Int) (p6:List (List V)) (p7 p8:Int) (k_ret:Bool→Option β) (k_hbbaba:Int→List (List V)→Int→Int→Option β) (k_x0:Option β):Option β :=
 ifb (decide (p8 < p7)) (
 idx p6 p8 fun c0 =>
 chk ((List.length (List.take 2 c0))=2∧0+2≤2) (
 lt (xk [(V.sc (.int .i64 (0:Int))),(V.gs 1 ([]:List (List V)))] 0 (List.take 2 c0)) fun r1 =>
 cI .i64 r1 0 fun v2 =>
 lt (IntKind.wrap .i64 (((2100000000000000:Int):Int) - p3)) fun x3 =>
 ifb (decide (v2 > x3)) (
 k_ret false) (
 cI .i64 r1 0 fun v4 =>
 lt (IntKind.wrap .i64 ((p3:Int)+v4)) fun x5 =>
 lt (IntKind.wrap .i64 ((p8:Int)+(1:Int))) fun x6 =>
 k_hbbaba x5 p6 p7 x6))) (
 k_x0)
theorem zpw {β:Type} (L:Nat) (p3:Int) (p6:List (List V)) (p7 p8:Int) (X:St→Option β) (K:KT β):zj za6 (za2 L) 0 L zc3 (zdn p3 p6 p7 p8) (y5 zff X K)=zl9 L p3 p6 p7 p8 (fun p2=>K .ret (zhW p2)) (fun p3 p6 p7 p8=>X (zdn p3 p6 p7 p8)) (K (.exit 0) (zi4)):=by kernel_rfl
def zjr {β:Type} (L:Nat) (p2:Bool) (k_fin:Bool→Option β):Option β :=
 k_fin p2
theorem zne {β:Type} (L:Nat) (p2:Bool) (k:KK β):(zr 0 (xH (zj za6 (za2 L) 0 L zg5) (zP 0 (CF.res zcH) k))) .ret (zhW p2)=zjr L p2 (fun p0=>k (V.sc (.bool p0)) []):=by kernel_rfl
def zkn {β:Type} (L:Nat) (k_fin:Bool→Option β):Option β :=
 k_fin true
theorem zoe {β:Type} (L:Nat) (k:KK β):(zr 0 (xH (zj za6 (za2 L) 0 L zg5) (zP 0 (CF.res zcH) k))) (.exit 0) (zi4)=zkn L (fun p0=>k (V.sc (.bool p0)) []):=by kernel_rfl
def zib {β:Type} (L:Nat) (k_ret:Bool→Option β) (k_x0:Option β):Nat→Int→List (List V)→Int→Int→Option β
 | 0,_,_,_,_=>none
 | n+1,p3,p6,p7,p8=>zl9 L p3 p6 p7 p8 k_ret (fun p3 p6 p7 p8=>zib L k_ret k_x0 n p3 p6 p7 p8) k_x0
theorem zju {β:Type} (L:Nat) (K:KT β):∀ (n:Nat) (p3:Int) (p6:List (List V)) (p7 p8:Int),xy (zj za6 (za2 L) 0 L zc3) zff n (zdn p3 p6 p7 p8) K=zib L (fun p2=>K .ret (zhW p2)) (K (.exit 0) (zi4)) n p3 p6 p7 p8:=by
 intro n
 induction n with
 | zero=>intros; rfl
 | succ n ih =>
  intro p3 p6 p7 p8
  refine (zpw L p3 p6 p7 p8 (fun σ=>xy (zj za6 (za2 L) 0 L zc3) zff n σ K) K).trans ?_
  simp only [ih]
  rfl
def zoq {β:Type} (L:Nat) (p0:List (List V)) (k_fin:Bool→Option β):Option β :=
 zsO L p0 (fun p3 p6 p7 p8=>zib L (fun p2=>zjr L p2 k_fin) (zkn L k_fin) L p3 p6 p7 p8)
theorem zve {β:Type} (L:Nat) (p0:List (List V)) (k:KK β):yz za6 (za2 L) L zcH [(V.sl 2 p0)] [] k=zoq L p0 (fun p0=>k (V.sc (.bool p0)) []):=by
 refine (zvo L p0 k).trans ?_
 unfold zoq
 first
  | (simp only [zju,zne,zoe]; done)
  | (simp only [zju]; rfl)
abbrev zay:=∀ (β:Type),Nat→List (List V)→(Bool→Option β)→Option β
def yo (β:Type) (L:Nat) (p0:List (List V)) (k_fin:Bool→Option β):Option β:=zoq L p0 k_fin
def zkz (yo:zay) (L:Nat) (β:Type) (args:List V) (bor:Bor) (k:KK β):Option β:=match args,bor with
 | [a0],[]=>aL 2 a0 fun p0=>yo β L p0 (fun p0=>k (V.sc (.bool p0)) [])
 | _,_=>none
theorem zvl (L:Nat) (β:Type) (args:List V) (bor:Bor) (k:KK β) (r:β) (h:zkz yo L β args bor k=some r):yz za6 (za2 L) L zcH args bor k=some r:=by
 unfold zkz at h
 split at h
 ·have q:=zcy h; clear h; obtain ⟨p0,rfl,h⟩:=q
  exact (zve L p0 k).trans h
 ·cases h
def zkD:CF:=⟨6,[.tmp 2],
 (.seq (.reg [oo 1 (.box true (tq 0)),
   oo 2 (.move (.const (.sc (.bool false))) false)])
 (.seq (.reg [oo 3 (.load true 33 (tq 1) false),
   oo 4 (.build (rp 32 (.sc (.int .u8 0)) (rp 1 (.sc (.int .u32 0)) [])) [(32,1,(.const (.sc (.int .u32 4294967295))))]),
   oo 5 (.eqAgg false 33 (tq 3) (tq 4)),
   oo 2 (.move (tq 5) false)])
 .ret))⟩
def zqw:Hint:=⟨[],[],[none],[],[],false,false,[]⟩
def zn7:Nat→Sh:=xI []
def zoz (L:Nat):CBC:=noC
def zuR {β:Type} (L:Nat) (p0:List V) (k_fin:Bool→Option β):Option β :=
 chk (0+33≤(List.length p0)) (
 eqC 33 (List.take 33 p0) (List.replicate 32 (V.sc (.int .u8 (0:Int)))++[(V.sc (.int .u32 (4294967295:Int)))]) fun v0 =>
 k_fin v0)
theorem zwl {β:Type} (L:Nat) (p0:List V) (k:KK β):yz zn7 (zoz L) L zkD [(V.agg p0)] [] k=zuR L p0 (fun p0=>k (V.sc (.bool p0)) []):=by kernel_rfl
abbrev zl2:=∀ (β:Type),Nat→List V→(Bool→Option β)→Option β
def zaD (β:Type) (L:Nat) (p0:List V) (k_fin:Bool→Option β):Option β:=zuR L p0 k_fin
def zlX (zaD:zl2) (L:Nat) (β:Type) (args:List V) (bor:Bor) (k:KK β):Option β:=match args,bor with
 | [a0],[]=>aG a0 fun p0=>zaD β L p0 (fun p0=>k (V.sc (.bool p0)) [])
 | _,_=>none
theorem zxg (L:Nat) (β:Type) (args:List V) (bor:Bor) (k:KK β) (r:β) (h:zlX zaD L β args bor k=some r):yz zn7 (zoz L) L zkD args bor k=some r:=by
 unfold zlX at h
 split at h
 ·have q:=zcx h; clear h; obtain ⟨p0,rfl,h⟩:=q
  exact (zwl L p0 k).trans h
 ·cases h
def zgc:CF:=⟨15,[.tmp 2],
 (.seq (.reg [oo 1 (.box true (tq 0)),
   oo 2 (.move (.const (.sc (.bool false))) false)])
 (.seq (.reg [oo 3 (.fieldAddr 1 (tq 1)),
   oo 4 (.load false 1 (tq 3) false),
   oo 5 (.lenS (tq 4)),
   oo 6 (.bin .eql (tq 5) (.const (.sc (.int .i64 1)))),
   oo 7 (.move (tq 6) false),
   ⟨(some 8),false,(some (7,true)),.fieldAddr 1 (tq 1)⟩,
   ⟨(some 9),false,(some (7,true)),.load false 1 (tq 8) false⟩,
   ⟨(some 10),false,(some (7,true)),.indexAddrS 35 (tq 9) (.const (.sc (.int .i64 0)))⟩,
   ⟨(some 11),false,(some (7,true)),.fieldAddr 0 (tq 10)⟩,
   ⟨(some 12),false,(some (7,true)),.load true 33 (tq 11) false⟩,
   ⟨(some 13),false,(some (7,true)),.call 188 [((tq 12),0)] []⟩,
   oo 14 (.pick (tq 7) (tq 13) (.const (.sc (.bool false)))),
   oo 2 (.move (tq 14) false)])
 .ret))⟩
def zk0:Hint:=⟨[(0,0)],[],[none],[],[],false,false,[]⟩
def ziS:Nat→Sh:=xI [(4,(.sl 35)),(9,(.sl 35))]
def ziU (zaD:zl2) (L:Nat):CBC:=(xr 188 (zlX zaD L) noC)
def zo4 {β:Type} (zaD:zl2) (L:Nat) (p0:List V) (k_fin:Bool→Option β):Option β :=
 cLd 35 p0 1 fun v0 =>
 ifb ((((List.length v0:Nat):Int):Int) == (1:Int)) (
 cLd 35 p0 1 fun v1 =>
 idx v1 (0:Int) fun c2 =>
 zaD β L (List.take 33 c2) (fun v3 =>
 k_fin v3)) (
 k_fin false)
theorem zr1 {β:Type} (zaD:zl2) (L:Nat) (p0:List V) (k:KK β):yz ziS (ziU zaD L) L zgc [(V.agg p0)] [] k=zo4 zaD L p0 (fun p0=>k (V.sc (.bool p0)) []):=by kernel_rfl
abbrev yK:=∀ (β:Type),Nat→List V→(Bool→Option β)→Option β
def yh (β:Type) (L:Nat) (p0:List V) (k_fin:Bool→Option β):Option β:=zo4 zaD L p0 k_fin
def zeF (yh:yK) (L:Nat) (β:Type) (args:List V) (bor:Bor) (k:KK β):Option β:=match args,bor with
 | [a0],[]=>aG a0 fun p0=>yh β L p0 (fun p0=>k (V.sc (.bool p0)) [])
 | _,_=>none
theorem zsm (L:Nat) (β:Type) (args:List V) (bor:Bor) (k:KK β) (r:β) (h:zeF yh L β args bor k=some r):yz ziS (ziU zaD L) L zgc args bor k=some r:=by
 unfold zeF at h
 split at h
 ·have q:=zcx h; clear h; obtain ⟨p0,rfl,h⟩:=q
  exact (zr1 zaD L p0 k).trans h
 ·cases h
def zbI:CC:=(.seq (.reg [oo 28 (.bin .lss (tq 27) (tq 26))])
 (.seq (.cond (tq 28)
 .skip
 (.seq (.mask (bl 10 47) (bl 140737488355291 47))
 (.exit 0)))
 (.seq (.block 1 (.seq (.reg [oo 29 (.indexAddrS 35 (tq 25) (tq 27)),
   oo 30 (.load true 35 (tq 29) false),
   oo 5 (.alloc true (rp 32 (.sc (.int .u8 0)) (rp 2 (.sc (.int .u32 0)) (rp 1 (.gs 1 []) [])))),
   oz (.store 35 (tq 5) (tq 30))])
 (.seq (.seq (.reg [oo 31 (.move (tq 3) false),
   oo 32 (.fieldAddr 0 (tq 5)),
   oo 33 (.load true 33 (tq 32) false),
   oo 34 (.mlook 35 false (.sc (.bool false)) (tq 31) (tq 33))])
 (.cond (tq 34)
 (.seq (.reg [oo 2 (.move (.const (.sc (.int .i64 91))) false)])
 (.seq (.mask (bl 4 47) (bl 140737488355293 47))
 .ret))
 .skip))
 (.reg [oo 35 (.move (tq 3) false),
   oo 36 (.fieldAddr 0 (tq 5)),
   oo 37 (.load true 33 (tq 36) false),
   oz (.mput 35 (tq 35) (tq 37) (.const (.sc (.bool true))))]))))
 (.reg [oo 38 (.bin .add (tq 27) (.const (.sc (.int .i64 1)))),
   oo 27 (.move (tq 38) false)]))))
def zer:CC:=(.seq (.seq (.reg [oo 39 (.move (tq 3) false),
   oo 40 (.build (rp 32 (.sc (.int .u8 0)) (rp 1 (.sc (.int .u32 0)) [])) [(32,1,(.const (.sc (.int .u32 4294967295))))]),
   oo 41 (.mlook 35 false (.sc (.bool false)) (tq 39) (tq 40)),
   oo 42 (.move (tq 41) false),
   ⟨(some 43),false,(some (42,true)),.load true 4 (tq 1) false⟩,
   ⟨(some 44),false,(some (42,true)),.call 151 [((tq 43),1)] []⟩,
   ⟨(some 45),false,(some (42,true)),.un .not (tq 44)⟩,
   oo 46 (.pick (tq 42) (tq 45) (.const (.sc (.bool false))))])
 (.cond (tq 46)
 (.seq (.reg [oo 2 (.move (.const (.sc (.int .i64 92))) false)])
 .ret)
 .skip))
 (.seq (.reg [oo 2 (.move (.const (.sc (.int .i64 0))) false)])
 .ret))
def zcI:CF:=⟨47,[.tmp 2],
 (.seq (.reg [oo 1 (.box true (tq 0)),
   oo 2 (.move (.const (.sc (.int .i64 0))) false)])
 (.seq (.seq (.reg [oo 6 (.load true 4 (tq 1) false),
   oo 7 (.call 146 [((tq 6),1)] []),
   oo 8 (.un .not (tq 7))])
 (.cond (tq 8)
 (.seq (.reg [oo 2 (.move (.const (.sc (.int .i64 4))) false)])
 .ret)
 .skip))
 (.seq (.seq (.reg [oo 9 (.fieldAddr 1 (tq 1)),
   oo 10 (.load false 1 (tq 9) false),
   oo 11 (.lenS (tq 10)),
   oo 12 (.bin .eql (tq 11) (.const (.sc (.int .i64 0)))),
   oo 13 (.move (tq 12) false),
   ⟨(some 14),false,(some (13,false)),.fieldAddr 2 (tq 1)⟩,
   ⟨(some 15),false,(some (13,false)),.load false 1 (tq 14) false⟩,
   ⟨(some 16),false,(some (13,false)),.lenS (tq 15)⟩,
   ⟨(some 17),false,(some (13,false)),.bin .eql (tq 16) (.const (.sc (.int .i64 0)))⟩,
   oo 18 (.pick (tq 13) (.const (.sc (.bool true))) (tq 17))])
 (.cond (tq 18)
 (.seq (.reg [oo 2 (.move (.const (.sc (.int .i64 93))) false)])
 .ret)
 .skip))
 (.seq (.seq (.reg [oo 19 (.fieldAddr 2 (tq 1)),
   oo 20 (.load false 1 (tq 19) false),
   oo 21 (.call 150 [((tq 20),0)] []),
   oo 22 (.un .not (tq 21))])
 (.cond (tq 22)
 (.seq (.reg [oo 2 (.move (.const (.sc (.int .i64 90))) false)])
 .ret)
 .skip))
 (.seq (.reg [oo 23 (.makeMap),
   oo 3 (.move (tq 23) false)])
 (.seq (.seq (.reg [oo 24 (.fieldAddr 1 (tq 1)),
   oo 25 (.load false 1 (tq 24) false),
   oo 26 (.lenS (tq 25)),
   oo 27 (.move (.const (.sc (.int .i64 0))) false)])
 (.block 0 (.loop (bl 234881034 47) (bl 140737488355291 47)
 zbI)))
 zer))))))⟩
def zo3:Hint:=⟨[(0,0),(10,2)],[],[none,none,none,none,none,none,none,some ((bl 234881034 47),(bl 140737488355291 47)),none,some ((bl 10 47),(bl 140737488355291 47)),none,none,some ((bl 4 47),(bl 140737488355293 47)),none,none,none],[],[],false,false,[]⟩
def za5:Nat→Sh:=xI [(10,(.sl 35)),(15,(.sl 2)),(20,(.sl 2)),(25,(.sl 35)),(34,.bool),(41,.bool)]
def za0 (xj:zT) (yo:zay) (yh:yK) (L:Nat):CBC:=(xr 151 (zeF yh L) (xr 150 (zkz yo L) (xr 146 (zhm xj L) noC)))
def zdm:St→St:=yJ 0 (bl 234881034 47) (bl 140737488355291 47)
def zch (p25:List (List V)) (p26 p27:Int) (b1:List V) (b23:List (V × V)):St:=⟨(jn 1 ((V.ptr 1 0)::(jn 1 ((V.mp 23)::(jn 21 ((V.sl 35 p25)::((V.sc (.int .i64 p26))::((V.sc (.int .i64 p27))::(jn 19 []))))))))),(gn 1 ((.live true b1)::(gn 21 ((.mp b23)::(gn 23 [])))))⟩
def zh8 (p2:Int) (b23:List (V × V)):St:=⟨(jn 2 ((V.sc (.int .i64 p2))::(jn 44 []))),(gn 23 ((.mp b23)::(gn 23 [])))⟩
def ziT (b1:List V) (b23:List (V × V)):St:=⟨(jn 1 ((V.ptr 1 0)::(jn 1 ((V.mp 23)::(jn 43 []))))),(gn 1 ((.live true b1)::(gn 21 ((.mp b23)::(gn 23 [])))))⟩
def zs7 {β:Type} (xj:zT) (yo:zay) (yh:yK) (L:Nat) (p0:List V) (k_fin:Int→Option β) (k_hbbbbbaba:List (List V)→Int→Int→List V→List (V × V)→Option β):Option β :=
 chk (0+4≤(List.length p0)) (
 xj β L (List.map V.dem (List.take 4 p0)) (fun v0 =>
 ifb (!v0) (
 k_fin (4:Int)) (
 cLd 35 p0 1 fun v1 =>
 ifb ((((List.length v1:Nat):Int):Int) == (0:Int)) (
 k_fin (93:Int)) (
 cLd 2 p0 2 fun v2 =>
 ifb ((((List.length v2:Nat):Int):Int) == (0:Int)) (
 k_fin (93:Int)) (
 cLd 2 p0 2 fun v3 =>
 yo β L v3 (fun v4 =>
 ifb (!v4) (
 k_fin (90:Int)) (
 cLd 35 p0 1 fun v5 =>
 k_hbbbbbaba v5 ((List.length v5:Nat):Int) (0:Int) p0 ([]:List (V × V)))))))))
theorem zvr {β:Type} (xj:zT) (yo:zay) (yh:yK) (L:Nat) (p0:List V) (k:KK β):yz za5 (za0 xj yo yh L) L zcI [(V.agg p0)] [] k=zs7 xj yo yh L p0 (fun p0=>k (V.sc (.int .i64 p0)) []) (fun p25 p26 p27 b1 b23=>xy (zj za5 (za0 xj yo yh L) 0 L zbI) zdm L (zch p25 p26 p27 b1 b23) (zr 0 (xH (zj za5 (za0 xj yo yh L) 0 L zer) (zP 0 (CF.res zcI) k)))):=by kernel_rfl
def zjH {β:Type} (xj:zT) (yo:zay) (yh:yK) (L:Nat) (p25:List (List V)) (p26 p27:Int) (b1:List V) (b23:List (V × V)) (k_ret:Int→List (V × V)→Option β) (k_hbbbbbaba:List (List V)→Int→Int→List V→List (V × V)→Option β) (k_x0:List V→List (V × V)→Option β):Option β :=
 ifb (decide (p27 < p26)) (
 idx p25 p27 fun c6 =>
 chk ((List.length (List.take 35 c6))=35∧0+35≤35) (
 lt (xk (List.replicate 32 (V.sc (.int .u8 (0:Int)))++[(V.sc (.int .u32 (0:Int))),(V.sc (.int .u32 (0:Int))),(V.gs 1 ([]:List (List V)))]) 0 (List.take 35 c6)) fun r7 =>
 chk (0+33≤(List.length r7)) (
 mAt 35 (V.agg (List.take 33 r7)) b23 fun q8 =>
 aB (Option.getD q8 (V.sc (.bool false))) fun v9 =>
 ifb v9 (
 k_ret (91:Int) b23) (
 chk (0+33≤(List.length r7)) (
 zBK 35 (V.agg (List.take 33 r7)) (V.sc (.bool true)) b23 fun m10 =>
 lt (IntKind.wrap .i64 ((p27:Int)+(1:Int))) fun x11 =>
 k_hbbbbbaba p25 p26 x11 b1 m10))))) (
 k_x0 b1 b23)
theorem znb {β:Type} (xj:zT) (yo:zay) (yh:yK) (L:Nat) (p25:List (List V)) (p26 p27:Int) (b1:List V) (b23:List (V × V)) (X:St→Option β) (K:KT β):zj za5 (za0 xj yo yh L) 0 L zbI (zch p25 p26 p27 b1 b23) (y5 zdm X K)=zjH xj yo yh L p25 p26 p27 b1 b23 (fun p2 b23=>K .ret (zh8 p2 b23)) (fun p25 p26 p27 b1 b23=>X (zch p25 p26 p27 b1 b23)) (fun b1 b23=>K (.exit 0) (ziT b1 b23)):=by kernel_rfl
def zhw {β:Type} (xj:zT) (yo:zay) (yh:yK) (L:Nat) (p2:Int) (b23:List (V × V)) (k_fin:Int→Option β):Option β :=
 k_fin p2
theorem zlA {β:Type} (xj:zT) (yo:zay) (yh:yK) (L:Nat) (p2:Int) (b23:List (V × V)) (k:KK β):(zr 0 (xH (zj za5 (za0 xj yo yh L) 0 L zer) (zP 0 (CF.res zcI) k))) .ret (zh8 p2 b23)=zhw xj yo yh L p2 b23 (fun p0=>k (V.sc (.int .i64 p0)) []):=by kernel_rfl
def zia {β:Type} (xj:zT) (yo:zay) (yh:yK) (L:Nat) (b1:List V) (b23:List (V × V)) (k_fin:Int→Option β):Option β :=
 mAt 35 (V.agg (List.replicate 32 (V.sc (.int .u8 (0:Int)))++[(V.sc (.int .u32 (4294967295:Int)))])) b23 fun q12 =>
 aB (Option.getD q12 (V.sc (.bool false))) fun v13 =>
 ifb v13 (
 chk (0+4≤(List.length b1)) (
 yh β L (List.map V.dem (List.take 4 b1)) (fun v14 =>
 ifb (!v14) (
 k_fin (92:Int)) (
 k_fin (0:Int))))) (
 k_fin (0:Int))
theorem zlG {β:Type} (xj:zT) (yo:zay) (yh:yK) (L:Nat) (b1:List V) (b23:List (V × V)) (k:KK β):(zr 0 (xH (zj za5 (za0 xj yo yh L) 0 L zer) (zP 0 (CF.res zcI) k))) (.exit 0) (ziT b1 b23)=zia xj yo yh L b1 b23 (fun p0=>k (V.sc (.int .i64 p0)) []):=by kernel_rfl
def zfv {β:Type} (xj:zT) (yo:zay) (yh:yK) (L:Nat) (k_ret:Int→List (V × V)→Option β) (k_x0:List V→List (V × V)→Option β):Nat→List (List V)→Int→Int→List V→List (V × V)→Option β
 | 0,_,_,_,_,_=>none
 | n+1,p25,p26,p27,b1,b23=>zjH xj yo yh L p25 p26 p27 b1 b23 k_ret (fun p25 p26 p27 b1 b23=>zfv xj yo yh L k_ret k_x0 n p25 p26 p27 b1 b23) k_x0
theorem zhy {β:Type} (xj:zT) (yo:zay) (yh:yK) (L:Nat) (K:KT β):∀ (n:Nat) (p25:List (List V)) (p26 p27:Int) (b1:List V) (b23:List (V × V)),xy (zj za5 (za0 xj yo yh L) 0 L zbI) zdm n (zch p25 p26 p27 b1 b23) K=zfv xj yo yh L (fun p2 b23=>K .ret (zh8 p2 b23)) (fun b1 b23=>K (.exit 0) (ziT b1 b23)) n p25 p26 p27 b1 b23:=by
 intro n
 induction n with
 | zero=>intros; rfl
 | succ n ih =>
  intro p25 p26 p27 b1 b23
  refine (znb xj yo yh L p25 p26 p27 b1 b23 (fun σ=>xy (zj za5 (za0 xj yo yh L) 0 L zbI) zdm n σ K) K).trans ?_
  simp only [ih]
  rfl
def znU {β:Type} (xj:zT) (yo:zay) (yh:yK) (L:Nat) (p0:List V) (k_fin:Int→Option β):Option β :=
 zs7 xj yo yh L p0 k_fin (fun p25 p26 p27 b1 b23=>zfv xj yo yh L (fun p2 b23=>zhw xj yo yh L p2 b23 k_fin) (fun b1 b23=>zia xj yo yh L b1 b23 k_fin) L p25 p26 p27 b1 b23)
theorem zvB {β:Type} (xj:zT) (yo:zay) (yh:yK) (L:Nat) (p0:List V) (k:KK β):yz za5 (za0 xj yo yh L) L zcI [(V.agg p0)] [] k=znU xj yo yh L p0 (fun p0=>k (V.sc (.int .i64 p0)) []):=by
 refine (zvr xj yo yh L p0 k).trans ?_
 unfold znU
 first
  | (simp only [zhy,zlA,zlG]; done)
  | (simp only [zhy]; rfl)
abbrev zku:=∀ (β:Type),Nat→List V→(Int→Option β)→Option β
def zak (β:Type) (L:Nat) (p0:List V) (k_fin:Int→Option β):Option β:=znU xj yo yh L p0 k_fin
def zkB (zak:zku) (L:Nat) (β:Type) (args:List V) (bor:Bor) (k:KK β):Option β:=match args,bor with
 | [a0],[]=>aG a0 fun p0=>zak β L p0 (fun p0=>k (V.sc (.int .i64 p0)) [])
 | _,_=>none
theorem zvh (L:Nat) (β:Type) (args:List V) (bor:Bor) (k:KK β) (r:β) (h:zkB zak L β args bor k=some r):yz za5 (za0 xj yo yh L) L zcI args bor k=some r:=by
 unfold zkB at h
 split at h
 ·have q:=zcx h; clear h; obtain ⟨p0,rfl,h⟩:=q
  exact (zvB xj yo yh L p0 k).trans h
 ·cases h
def zgW:CF:=⟨36,[.tmp 0],
 (.seq (.reg [oo 0 (.move (.const (.sc (.bool false))) false)])
 (.seq (.reg [oo 6 (.build [(.sc (.int .u32 0)),(.sl 35 []),(.sl 2 []),(.sc (.int .u32 0))] []),
   oo 7 (.call 128 [((tq 6),1),((.const (.sc (.bool false))),0)] []),
   oo 5 (.move (tq 7) true),
   oo 8 (.extract (tq 5) 0),
   oo 9 (.pull (tq 5) 1),
   oo 1 (.move (tq 8) false),
   oo 2 (.move (tq 9) false)])
 (.seq (.reg [oo 10 (.build (rp 32 (.sc (.int .u8 0)) (rp 1 (.sc (.int .u32 0)) [])) [(32,1,(.const (.sc (.int .u32 3))))]),
   oo 3 (.alloc true (rp 32 (.sc (.int .u8 0)) (rp 1 (.sc (.int .u32 0)) []))),
   oz (.store 33 (tq 3) (tq 10))])
 (.seq (.reg [oo 11 (.load true 33 (tq 3) false),
   oo 12 (.build (rp 32 (.sc (.int .u8 0)) (rp 2 (.sc (.int .u32 0)) (rp 1 (.sl 1 []) []))) [(0,33,(tq 11))]),
   oo 13 (.load true 33 (tq 3) false),
   oo 14 (.build (rp 32 (.sc (.int .u8 0)) (rp 2 (.sc (.int .u32 0)) (rp 1 (.sl 1 []) []))) [(0,33,(tq 13))]),
   oo 15 (.buildSlice 35 2 (rp 32 (.sc (.int .u8 0)) (rp 2 (.sc (.int .u32 0)) (rp 1 (.sl 1 []) []))) [(0,35,(tq 12)),(35,35,(tq 14))]),
   oo 16 (.build [(.sc (.int .i64 0)),(.sl 1 [])] []),
   oo 17 (.buildSlice 2 1 [(.sc (.int .i64 0)),(.sl 1 [])] [(0,2,(tq 16))]),
   oo 18 (.build [(.sc (.int .u32 0)),(.sl 35 []),(.sl 2 []),(.sc (.int .u32 0))] [(1,1,(tq 15)),(2,1,(tq 17))]),
   oo 4 (.alloc true [(.sc (.int .u32 0)),(.gs 35 []),(.gs 2 []),(.sc (.int .u32 0))]),
   oz (.store 4 (tq 4) (tq 18))])
 (.seq (.reg [oo 19 (.move (tq 2) false),
   oo 20 (.bin .eql (tq 19) (.const (.sc (.int .i64 0)))),
   oo 21 (.move (tq 20) false),
   ⟨(some 22),false,(some (21,true)),.move (tq 1) false⟩,
   ⟨(some 23),false,(some (21,true)),.lenS (tq 22)⟩,
   ⟨(some 24),false,(some (21,true)),.bin .eql (tq 23) (.const (.sc (.int .i64 10)))⟩,
   oo 25 (.pick (tq 21) (tq 24) (.const (.sc (.bool false)))),
   oo 26 (.move (tq 25) false),
   ⟨(some 27),false,(some (26,true)),.build [(.sc (.int .u32 0)),(.sl 35 []),(.sl 2 []),(.sc (.int .u32 0))] []⟩,
   ⟨(some 28),false,(some (26,true)),.call 144 [((tq 27),1)] []⟩,
   ⟨(some 29),false,(some (26,true)),.bin .eql (tq 28) (.const (.sc (.int .i64 40)))⟩,
   oo 30 (.pick (tq 26) (tq 29) (.const (.sc (.bool false)))),
   oo 31 (.move (tq 30) false),
   ⟨(some 32),false,(some (31,true)),.load true 4 (tq 4) false⟩,
   ⟨(some 33),false,(some (31,true)),.call 131 [((tq 32),1)] []⟩,
   ⟨(some 34),false,(some (31,true)),.bin .eql (tq 33) (.const (.sc (.int .i64 91)))⟩,
   oo 35 (.pick (tq 31) (tq 34) (.const (.sc (.bool false)))),
   oo 0 (.move (tq 35) false)])
 .ret)))))⟩
def zlU:Hint:=⟨[(1,2),(1,3),(3,8)],[],[none],[],[],false,false,[]⟩
def zj7:Nat→Sh:=xI []
def zjZ (xo:zbk) (zJ:zeM) (zak:zku) (L:Nat):CBC:=(xr 131 (zkB zak L) (xr 144 (zgP zJ L) (xr 128 (zeK xo L) noC)))
def zqI {β:Type} (xo:zbk) (zJ:zeM) (zak:zku) (L:Nat) (k_fin:Bool→Option β):Option β :=
 xo β L [(V.sc (.int .u32 (0:Int))),(V.sl 35 ([]:List (List V))),(V.sl 2 ([]:List (List V))),(V.sc (.int .u32 (0:Int)))] false (fun v0 v1 =>
 lt (List.replicate 32 (V.sc (.int .u8 (0:Int)))++[(V.sc (.int .u32 (3:Int)))]) fun r2 =>
 chk (0+33≤(List.length r2)) (
 chk ((List.length (List.take 33 r2))=33∧0+33≤35) (
 chk (0+33≤(List.length r2)) (
 chk ((List.length (List.take 33 r2))=33∧0+33≤35) (
 chk ((List.length (xk (List.replicate 32 (V.sc (.int .u8 (0:Int)))++[(V.sc (.int .u32 (0:Int))),(V.sc (.int .u32 (0:Int))),(V.sl 1 ([]:List (List V)))]) 0 (List.take 33 r2)))=35∧0+35≤70) (
 chk ((List.length (xk (List.replicate 32 (V.sc (.int .u8 (0:Int)))++[(V.sc (.int .u32 (0:Int))),(V.sc (.int .u32 (0:Int))),(V.sl 1 ([]:List (List V)))]) 0 (List.take 33 r2)))=35∧35+35≤(List.length (xk (List.replicate 32 (V.sc (.int .u8 (0:Int)))++[(V.sc (.int .u32 (0:Int))),(V.sc (.int .u32 (0:Int))),(V.sl 1 ([]:List (List V)))]++List.replicate 32 (V.sc (.int .u8 (0:Int)))++[(V.sc (.int .u32 (0:Int))),(V.sc (.int .u32 (0:Int))),(V.sl 1 ([]:List (List V)))]) 0 (xk (List.replicate 32 (V.sc (.int .u8 (0:Int)))++[(V.sc (.int .u32 (0:Int))),(V.sc (.int .u32 (0:Int))),(V.sl 1 ([]:List (List V)))]) 0 (List.take 33 r2))))) (
 lt [(V.sc (.int .u32 (0:Int))),(V.sl 35 (yf 35 2 (xk (xk (List.replicate 32 (V.sc (.int .u8 (0:Int)))++[(V.sc (.int .u32 (0:Int))),(V.sc (.int .u32 (0:Int))),(V.sl 1 ([]:List (List V)))]++List.replicate 32 (V.sc (.int .u8 (0:Int)))++[(V.sc (.int .u32 (0:Int))),(V.sc (.int .u32 (0:Int))),(V.sl 1 ([]:List (List V)))]) 0 (xk (List.replicate 32 (V.sc (.int .u8 (0:Int)))++[(V.sc (.int .u32 (0:Int))),(V.sc (.int .u32 (0:Int))),(V.sl 1 ([]:List (List V)))]) 0 (List.take 33 r2))) 35 (xk (List.replicate 32 (V.sc (.int .u8 (0:Int)))++[(V.sc (.int .u32 (0:Int))),(V.sc (.int .u32 (0:Int))),(V.sl 1 ([]:List (List V)))]) 0 (List.take 33 r2))))),(V.sl 2 (yf 2 1 [(V.sc (.int .i64 (0:Int))),(V.sl 1 ([]:List (List V)))])),(V.sc (.int .u32 (0:Int)))] fun r3 =>
 ifb ((v1:Int) == (0:Int)) (
 ifb ((((List.length v0:Nat):Int):Int) == (10:Int)) (
 zJ β L [(V.sc (.int .u32 (0:Int))),(V.sl 35 ([]:List (List V))),(V.sl 2 ([]:List (List V))),(V.sc (.int .u32 (0:Int)))] (fun v4 =>
 ifb ((v4:Int) == (40:Int)) (
 chk (0+4≤(List.length r3)) (
 zak β L (List.map V.dem (List.take 4 r3)) (fun v5 =>
 k_fin ((v5:Int) == (91:Int))))) (
 k_fin false))) (
 k_fin false)) (
 k_fin false))))))))
theorem zsF {β:Type} (xo:zbk) (zJ:zeM) (zak:zku) (L:Nat) (k:KK β):yz zj7 (zjZ xo zJ zak L) L zgW [] [] k=zqI xo zJ zak L (fun p0=>k (V.sc (.bool p0)) []):=by kernel_rfl
abbrev zef:=∀ (β:Type),Nat→(Bool→Option β)→Option β
def xE (β:Type) (L:Nat) (k_fin:Bool→Option β):Option β:=zqI xo zJ zak L k_fin
def zfz (xE:zef) (L:Nat) (β:Type) (args:List V) (bor:Bor) (k:KK β):Option β:=match args,bor with
 | [],[]=>xE β L (fun p0=>k (V.sc (.bool p0)) [])
 | _,_=>none
theorem zs9 (L:Nat) (β:Type) (args:List V) (bor:Bor) (k:KK β) (r:β) (h:zfz xE L β args bor k=some r):yz zj7 (zjZ xo zJ zak L) L zgW args bor k=some r:=by
 unfold zfz at h
 split at h
 ·exact (zsF xo zJ zak L k).trans h
 ·cases h
def zb9:CC:=(.seq (.reg [oo 16 (.bin .lss (tq 15) (tq 14))])
 (.seq (.cond (tq 16)
 .skip
 (.seq (.mask (bl 0 24) (bl 15728319 24))
 (.exit 0)))
 (.seq (.block 1 (.seq (.reg [oo 17 (.indexAddrS 1 (tq 13) (tq 15)),
   oo 18 (.load false 1 (tq 17) false),
   oo 8 (.move (tq 18) false)])
 (.seq (.reg [oo 19 (.move (tq 8) false),
   oo 20 (.lenS (tq 19)),
   oo 21 (.move (tq 2) false),
   oo 22 (.bin .gtr (tq 20) (tq 21))])
 (.cond (tq 22)
 (.seq (.reg [oo 6 (.move (.const (.sc (.bool false))) false)])
 (.seq (.mask (bl 64 24) (bl 15728383 24))
 .ret))
 .skip))))
 (.reg [oo 23 (.bin .add (tq 15) (.const (.sc (.int .i64 1)))),
   oo 15 (.move (tq 23) false)]))))
def zfa:CC:=(.seq (.reg [oo 6 (.move (.const (.sc (.bool true))) false)])
 .ret)
def zbA:CF:=⟨24,[.tmp 6],
 (.seq (.reg [oo 6 (.move (.const (.sc (.bool false))) false)])
 (.seq (.seq (.reg [oo 9 (.move (tq 0) false),
   oo 10 (.lenS (tq 9)),
   oo 11 (.move (tq 1) false),
   oo 12 (.bin .gtr (tq 10) (tq 11))])
 (.cond (tq 12)
 (.seq (.reg [oo 6 (.move (.const (.sc (.bool false))) false)])
 .ret)
 .skip))
 (.seq (.seq (.reg [oo 13 (.move (tq 0) false),
   oo 14 (.lenS (tq 13)),
   oo 15 (.move (.const (.sc (.int .i64 0))) false)])
 (.block 0 (.loop (bl 57348 24) (bl 15728319 24)
 zb9)))
 zfa)))⟩
def zlP:Hint:=⟨[],[],[none,none,none,some ((bl 57348 24),(bl 15728319 24)),none,some ((bl 0 24),(bl 15728319 24)),none,none,some ((bl 64 24),(bl 15728383 24)),none],[],[],false,false,[]⟩
def zal:Nat→Sh:=xI [(18,(.sl 1))]
def zan (L:Nat):CBC:=noC
def zdY:St→St:=yJ 0 (bl 57348 24) (bl 15728319 24)
def zcE (p2:Int) (p13:List (List V)) (p14 p15:Int):St:=⟨(jn 2 ((V.sc (.int .i64 p2))::(jn 10 ((V.sl 1 p13)::((V.sc (.int .i64 p14))::((V.sc (.int .i64 p15))::(jn 8 []))))))),(gn 24 [])⟩
def zgx (p6:Bool):St:=⟨(jn 6 ((V.sc (.bool p6))::(jn 17 []))),(gn 24 [])⟩
def zha:St:=⟨(jn 24 []),(gn 24 [])⟩
def zlo {β:Type} (L:Nat) (p0:List (List V)) (p1 p2:Int) (k_fin:Bool→Option β) (k_hbbaba:Int→List (List V)→Int→Int→Option β):Option β :=
 ifb (decide (((List.length p0:Nat):Int) > p1)) (
 k_fin false) (
 k_hbbaba p2 p0 ((List.length p0:Nat):Int) (0:Int))
theorem zsZ {β:Type} (L:Nat) (p0:List (List V)) (p1 p2:Int) (k:KK β):yz zal (zan L) L zbA [(V.sl 1 p0),(V.sc (.int .i64 p1)),(V.sc (.int .i64 p2))] [] k=zlo L p0 p1 p2 (fun p0=>k (V.sc (.bool p0)) []) (fun p2 p13 p14 p15=>xy (zj zal (zan L) 0 L zb9) zdY L (zcE p2 p13 p14 p15) (zr 0 (xH (zj zal (zan L) 0 L zfa) (zP 0 (CF.res zbA) k)))):=by kernel_rfl
def zgz {β:Type} (L:Nat) (p2:Int) (p13:List (List V)) (p14 p15:Int) (k_ret:Bool→Option β) (k_hbbaba:Int→List (List V)→Int→Int→Option β) (k_x0:Option β):Option β :=
 ifb (decide (p15 < p14)) (
 idx p13 p15 fun c0 =>
 cL 1 c0 0 fun v1 =>
 ifb (decide (((List.length v1:Nat):Int) > p2)) (
 k_ret false) (
 lt (IntKind.wrap .i64 ((p15:Int)+(1:Int))) fun x2 =>
 k_hbbaba p2 p13 p14 x2)) (
 k_x0)
theorem zn3 {β:Type} (L:Nat) (p2:Int) (p13:List (List V)) (p14 p15:Int) (X:St→Option β) (K:KT β):zj zal (zan L) 0 L zb9 (zcE p2 p13 p14 p15) (y5 zdY X K)=zgz L p2 p13 p14 p15 (fun p6=>K .ret (zgx p6)) (fun p2 p13 p14 p15=>X (zcE p2 p13 p14 p15)) (K (.exit 0) (zha)):=by kernel_rfl
def zes {β:Type} (L:Nat) (p6:Bool) (k_fin:Bool→Option β):Option β :=
 k_fin p6
theorem zlI {β:Type} (L:Nat) (p6:Bool) (k:KK β):(zr 0 (xH (zj zal (zan L) 0 L zfa) (zP 0 (CF.res zbA) k))) .ret (zgx p6)=zes L p6 (fun p0=>k (V.sc (.bool p0)) []):=by kernel_rfl
def zeS {β:Type} (L:Nat) (k_fin:Bool→Option β):Option β :=
 k_fin true
theorem zm1 {β:Type} (L:Nat) (k:KK β):(zr 0 (xH (zj zal (zan L) 0 L zfa) (zP 0 (CF.res zbA) k))) (.exit 0) (zha)=zeS L (fun p0=>k (V.sc (.bool p0)) []):=by kernel_rfl
def zct {β:Type} (L:Nat) (k_ret:Bool→Option β) (k_x0:Option β):Nat→Int→List (List V)→Int→Int→Option β
 | 0,_,_,_,_=>none
 | n+1,p2,p13,p14,p15=>zgz L p2 p13 p14 p15 k_ret (fun p2 p13 p14 p15=>zct L k_ret k_x0 n p2 p13 p14 p15) k_x0
theorem zhR {β:Type} (L:Nat) (K:KT β):∀ (n:Nat) (p2:Int) (p13:List (List V)) (p14 p15:Int),xy (zj zal (zan L) 0 L zb9) zdY n (zcE p2 p13 p14 p15) K=zct L (fun p6=>K .ret (zgx p6)) (K (.exit 0) (zha)) n p2 p13 p14 p15:=by
 intro n
 induction n with
 | zero=>intros; rfl
 | succ n ih =>
  intro p2 p13 p14 p15
  refine (zn3 L p2 p13 p14 p15 (fun σ=>xy (zj zal (zan L) 0 L zb9) zdY n σ K) K).trans ?_
  simp only [ih]
  rfl
def zip {β:Type} (L:Nat) (p0:List (List V)) (p1 p2:Int) (k_fin:Bool→Option β):Option β :=
 zlo L p0 p1 p2 k_fin (fun p2 p13 p14 p15=>zct L (fun p6=>zes L p6 k_fin) (zeS L k_fin) L p2 p13 p14 p15)
theorem zsN {β:Type} (L:Nat) (p0:List (List V)) (p1 p2:Int) (k:KK β):yz zal (zan L) L zbA [(V.sl 1 p0),(V.sc (.int .i64 p1)),(V.sc (.int .i64 p2))] [] k=zip L p0 p1 p2 (fun p0=>k (V.sc (.bool p0)) []):=by
 refine (zsZ L p0 p1 p2 k).trans ?_
 unfold zip
 first
  | (simp only [zhR,zlI,zm1]; done)
  | (simp only [zhR]; rfl)
abbrev zz:=∀ (β:Type),Nat→List (List V)→Int→Int→(Bool→Option β)→Option β
def yc (β:Type) (L:Nat) (p0:List (List V)) (p1 p2:Int) (k_fin:Bool→Option β):Option β:=zip L p0 p1 p2 k_fin
def zfj (yc:zz) (L:Nat) (β:Type) (args:List V) (bor:Bor) (k:KK β):Option β:=match args,bor with
 | [a0,a1,a2],[]=>aL 1 a0 fun p0=>aI .i64 a1 fun p1=>aI .i64 a2 fun p2=>yc β L p0 p1 p2 (fun p0=>k (V.sc (.bool p0)) [])
 | _,_=>none
theorem zsG (L:Nat) (β:Type) (args:List V) (bor:Bor) (k:KK β) (r:β) (h:zfj yc L β args bor k=some r):yz zal (zan L) L zbA args bor k=some r:=by
 unfold zfj at h
 split at h
 ·have q:=zcy h; clear h; obtain ⟨p0,rfl,h⟩:=q
  have q:=zc7 h; clear h; obtain ⟨p1,rfl,h⟩:=q
  have q:=zc7 h; clear h; obtain ⟨p2,rfl,h⟩:=q
  exact (zsN L p0 p1 p2 k).trans h
 ·cases h
def zcU:CC:=(.seq (.reg [oo 33 (.bin .lss (tq 32) (tq 31))])
 (.seq (.cond (tq 33)
 .skip
 (.seq (.mask (bl 0 41) (bl 1924145348521 41))
 (.exit 2)))
 (.seq (.block 3 (.seq (.reg [oo 34 (.indexAddrS 2 (tq 30) (tq 32)),
   oo 35 (.load true 2 (tq 34) false),
   oo 6 (.alloc true [(.sc (.int .i64 0)),(.gs 1 [])]),
   oz (.store 2 (tq 6) (tq 35))])
 (.seq (.reg [oo 36 (.fieldAddr 1 (tq 6)),
   oo 37 (.load false 1 (tq 36) false),
   oo 38 (.lenS (tq 37)),
   oo 39 (.bin .gtr (tq 38) (.const (.sc (.int .i64 600))))])
 (.cond (tq 39)
 (.seq (.reg [oo 2 (.move (.const (.sc (.bool false))) false)])
 (.seq (.mask (bl 4 41) (bl 1924145348525 41))
 .ret))
 .skip))))
 (.reg [oo 40 (.bin .add (tq 32) (.const (.sc (.int .i64 1)))),
   oo 32 (.move (tq 40) false)]))))
def zdv:CC:=(.seq (.reg [oo 21 (.bin .lss (tq 20) (tq 19))])
 (.seq (.cond (tq 21)
 .skip
 (.seq (.mask (bl 2 41) (bl 2198956146603 41))
 (.exit 0)))
 (.seq (.block 1 (.seq (.reg [oo 22 (.indexAddrS 35 (tq 18) (tq 20)),
   oo 23 (.load true 35 (tq 22) false),
   oo 4 (.alloc true (rp 32 (.sc (.int .u8 0)) (rp 2 (.sc (.int .u32 0)) (rp 1 (.gs 1 []) [])))),
   oz (.store 35 (tq 4) (tq 23))])
 (.seq (.reg [oo 24 (.fieldAddr 34 (tq 4)),
   oo 25 (.load false 1 (tq 24) false),
   oo 26 (.call 145 [((tq 25),0),((.const (.sc (.int .i64 40))),0),((.const (.sc (.int .i64 600))),0)] []),
   oo 27 (.un .not (tq 26))])
 (.cond (tq 27)
 (.seq (.reg [oo 2 (.move (.const (.sc (.bool false))) false)])
 (.seq (.mask (bl 4 41) (bl 2198956146605 41))
 .ret))
 .skip))))
 (.reg [oo 28 (.bin .add (tq 20) (.const (.sc (.int .i64 1)))),
   oo 20 (.move (tq 28) false)]))))
def zgV:CC:=(.seq (.reg [oo 2 (.move (.const (.sc (.bool true))) false)])
 .ret)
def zfN:CC:=(.seq (.seq (.reg [oo 29 (.fieldAddr 2 (tq 1)),
   oo 30 (.load false 1 (tq 29) false),
   oo 31 (.lenS (tq 30)),
   oo 32 (.move (.const (.sc (.int .i64 0))) false)])
 (.block 2 (.loop (bl 7516192768 41) (bl 1924145348521 41)
 zcU)))
 zgV)
def za8:CF:=⟨41,[.tmp 2],
 (.seq (.reg [oo 1 (.box true (tq 0)),
   oo 2 (.move (.const (.sc (.bool false))) false)])
 (.seq (.seq (.reg [oo 7 (.fieldAddr 1 (tq 1)),
   oo 8 (.load false 1 (tq 7) false),
   oo 9 (.lenS (tq 8)),
   oo 10 (.bin .gtr (tq 9) (.const (.sc (.int .i64 70)))),
   oo 11 (.move (tq 10) false),
   ⟨(some 12),false,(some (11,false)),.fieldAddr 2 (tq 1)⟩,
   ⟨(some 13),false,(some (11,false)),.load false 1 (tq 12) false⟩,
   ⟨(some 14),false,(some (11,false)),.lenS (tq 13)⟩,
   ⟨(some 15),false,(some (11,false)),.bin .gtr (tq 14) (.const (.sc (.int .i64 70)))⟩,
   oo 16 (.pick (tq 11) (.const (.sc (.bool true))) (tq 15))])
 (.cond (tq 16)
 (.seq (.reg [oo 2 (.move (.const (.sc (.bool false))) false)])
 .ret)
 .skip))
 (.seq (.seq (.reg [oo 17 (.fieldAddr 1 (tq 1)),
   oo 18 (.load false 1 (tq 17) false),
   oo 19 (.lenS (tq 18)),
   oo 20 (.move (.const (.sc (.int .i64 0))) false)])
 (.block 0 (.loop (bl 1835010 41) (bl 2198956146603 41)
 zdv)))
 zfN)))⟩
def zqv:Hint:=⟨[(0,0),(5,2),(11,2)],[],[none,none,none,some ((bl 1835010 41),(bl 2198956146603 41)),none,some ((bl 2 41),(bl 2198956146603 41)),none,none,some ((bl 4 41),(bl 2198956146605 41)),none,some ((bl 7516192768 41),(bl 1924145348521 41)),none,some ((bl 0 41),(bl 1924145348521 41)),none,none,some ((bl 4 41),(bl 1924145348525 41)),none],[],[],false,false,[]⟩
def zR:Nat→Sh:=xI [(8,(.sl 35)),(13,(.sl 2)),(18,(.sl 35)),(25,(.sl 1)),(30,(.sl 2)),(37,(.sl 1))]
def xQ (yc:zz) (L:Nat):CBC:=(xr 145 (zfj yc L) noC)
def zf6:St→St:=yJ 0 (bl 1835010 41) (bl 2198956146603 41)
def ze7:St→St:=yJ 0 (bl 7516192768 41) (bl 1924145348521 41)
def zdZ (p18:List (List V)) (p19 p20:Int) (b1:List V):St:=⟨(jn 1 ((V.ptr 1 0)::(jn 16 ((V.sl 35 p18)::((V.sc (.int .i64 p19))::((V.sc (.int .i64 p20))::(jn 20 []))))))),(gn 1 ((.live true b1)::(gn 39 [])))⟩
def zcQ (p2:Bool):St:=⟨(jn 2 ((V.sc (.bool p2))::(jn 38 []))),(gn 41 [])⟩
def zgY (b1:List V):St:=⟨(jn 1 ((V.ptr 1 0)::(jn 39 []))),(gn 1 ((.live true b1)::(gn 39 [])))⟩
def zdl (p30:List (List V)) (p31 p32:Int):St:=⟨(jn 30 ((V.sl 2 p30)::((V.sc (.int .i64 p31))::((V.sc (.int .i64 p32))::(jn 8 []))))),(gn 41 [])⟩
def zj5:St:=⟨(jn 41 []),(gn 41 [])⟩
def zqb {β:Type} (yc:zz) (L:Nat) (p0:List V) (k_fin:Bool→Option β) (k_hbbaba:List (List V)→Int→Int→List V→Option β):Option β :=
 cLd 35 p0 1 fun v0 =>
 ifb (decide (((List.length v0:Nat):Int) > (70:Int))) (
 k_fin false) (
 cLd 2 p0 2 fun v1 =>
 ifb (decide (((List.length v1:Nat):Int) > (70:Int))) (
 k_fin false) (
 cLd 35 p0 1 fun v2 =>
 k_hbbaba v2 ((List.length v2:Nat):Int) (0:Int) p0))
theorem zvN {β:Type} (yc:zz) (L:Nat) (p0:List V) (k:KK β):yz zR (xQ yc L) L za8 [(V.agg p0)] [] k=zqb yc L p0 (fun p0=>k (V.sc (.bool p0)) []) (fun p18 p19 p20 b1=>xy (zj zR (xQ yc L) 0 L zdv) zf6 L (zdZ p18 p19 p20 b1) (zr 0 (xH (zj zR (xQ yc L) 0 L zfN) (zP 0 (CF.res za8) k)))):=by kernel_rfl
def ziL {β:Type} (yc:zz) (L:Nat) (p18:List (List V)) (p19 p20:Int) (b1:List V) (k_ret:Bool→Option β) (k_hbbaba:List (List V)→Int→Int→List V→Option β) (k_x0:List V→Option β):Option β :=
 ifb (decide (p20 < p19)) (
 idx p18 p20 fun c3 =>
 chk ((List.length (List.take 35 c3))=35∧0+35≤35) (
 lt (xk (List.replicate 32 (V.sc (.int .u8 (0:Int)))++[(V.sc (.int .u32 (0:Int))),(V.sc (.int .u32 (0:Int))),(V.gs 1 ([]:List (List V)))]) 0 (List.take 35 c3)) fun r4 =>
 cLd 1 r4 34 fun v5 =>
 yc β L v5 (40:Int) (600:Int) (fun v6 =>
 ifb (!v6) (
 k_ret false) (
 lt (IntKind.wrap .i64 ((p20:Int)+(1:Int))) fun x7 =>
 k_hbbaba p18 p19 x7 b1)))) (
 k_x0 b1)
theorem zrj {β:Type} (yc:zz) (L:Nat) (p18:List (List V)) (p19 p20:Int) (b1:List V) (X:St→Option β) (K:KT β):zj zR (xQ yc L) 0 L zdv (zdZ p18 p19 p20 b1) (y5 zf6 X K)=ziL yc L p18 p19 p20 b1 (fun p2=>K .ret (zcQ p2)) (fun p18 p19 p20 b1=>X (zdZ p18 p19 p20 b1)) (fun b1=>K (.exit 0) (zgY b1)):=by kernel_rfl
def zgl {β:Type} (yc:zz) (L:Nat) (p2:Bool) (k_fin:Bool→Option β):Option β :=
 k_fin p2
theorem zoh {β:Type} (yc:zz) (L:Nat) (p2:Bool) (k:KK β):(zr 0 (xH (zj zR (xQ yc L) 0 L zfN) (zP 0 (CF.res za8) k))) .ret (zcQ p2)=zgl yc L p2 (fun p0=>k (V.sc (.bool p0)) []):=by kernel_rfl
def zg9 {β:Type} (yc:zz) (L:Nat) (b1:List V) (k_hbbbaba:List (List V)→Int→Int→Option β):Option β :=
 cLd 2 b1 2 fun v8 =>
 k_hbbbaba v8 ((List.length v8:Nat):Int) (0:Int)
theorem zpo {β:Type} (yc:zz) (L:Nat) (b1:List V) (k:KK β):(zr 0 (xH (zj zR (xQ yc L) 0 L zfN) (zP 0 (CF.res za8) k))) (.exit 0) (zgY b1)=zg9 yc L b1 (fun p30 p31 p32=>xy (zj zR (xQ yc L) 0 L zcU) ze7 L (zdl p30 p31 p32) (zr 2 (xH (zj zR (xQ yc L) 0 L zgV) (zP 0 (CF.res za8) k)))):=by kernel_rfl
def zhE {β:Type} (yc:zz) (L:Nat) (p30:List (List V)) (p31 p32:Int) (k_ret:Bool→Option β) (k_hbbbaba:List (List V)→Int→Int→Option β) (k_x2:Option β):Option β :=
 ifb (decide (p32 < p31)) (
 idx p30 p32 fun c9 =>
 chk ((List.length (List.take 2 c9))=2∧0+2≤2) (
 lt (xk [(V.sc (.int .i64 (0:Int))),(V.gs 1 ([]:List (List V)))] 0 (List.take 2 c9)) fun r10 =>
 cLd 1 r10 1 fun v11 =>
 ifb (decide (((List.length v11:Nat):Int) > (600:Int))) (
 k_ret false) (
 lt (IntKind.wrap .i64 ((p32:Int)+(1:Int))) fun x12 =>
 k_hbbbaba p30 p31 x12))) (
 k_x2)
theorem zp4 {β:Type} (yc:zz) (L:Nat) (p30:List (List V)) (p31 p32:Int) (X:St→Option β) (K:KT β):zj zR (xQ yc L) 0 L zcU (zdl p30 p31 p32) (y5 ze7 X K)=zhE yc L p30 p31 p32 (fun p2=>K .ret (zcQ p2)) (fun p30 p31 p32=>X (zdl p30 p31 p32)) (K (.exit 2) (zj5)):=by kernel_rfl
def zfT {β:Type} (yc:zz) (L:Nat) (p2:Bool) (k_fin:Bool→Option β):Option β :=
 k_fin p2
theorem znv {β:Type} (yc:zz) (L:Nat) (p2:Bool) (k:KK β):(zr 2 (xH (zj zR (xQ yc L) 0 L zgV) (zP 0 (CF.res za8) k))) .ret (zcQ p2)=zfT yc L p2 (fun p0=>k (V.sc (.bool p0)) []):=by kernel_rfl
def zgr {β:Type} (yc:zz) (L:Nat) (k_fin:Bool→Option β):Option β :=
 k_fin true
theorem znR {β:Type} (yc:zz) (L:Nat) (k:KK β):(zr 2 (xH (zj zR (xQ yc L) 0 L zgV) (zP 0 (CF.res za8) k))) (.exit 2) (zj5)=zgr yc L (fun p0=>k (V.sc (.bool p0)) []):=by kernel_rfl
def zd5 {β:Type} (yc:zz) (L:Nat) (k_ret:Bool→Option β) (k_x0:List V→Option β):Nat→List (List V)→Int→Int→List V→Option β
 | 0,_,_,_,_=>none
 | n+1,p18,p19,p20,b1=>ziL yc L p18 p19 p20 b1 k_ret (fun p18 p19 p20 b1=>zd5 yc L k_ret k_x0 n p18 p19 p20 b1) k_x0
theorem zkj {β:Type} (yc:zz) (L:Nat) (K:KT β):∀ (n:Nat) (p18:List (List V)) (p19 p20:Int) (b1:List V),xy (zj zR (xQ yc L) 0 L zdv) zf6 n (zdZ p18 p19 p20 b1) K=zd5 yc L (fun p2=>K .ret (zcQ p2)) (fun b1=>K (.exit 0) (zgY b1)) n p18 p19 p20 b1:=by
 intro n
 induction n with
 | zero=>intros; rfl
 | succ n ih =>
  intro p18 p19 p20 b1
  refine (zrj yc L p18 p19 p20 b1 (fun σ=>xy (zj zR (xQ yc L) 0 L zdv) zf6 n σ K) K).trans ?_
  simp only [ih]
  rfl
def zdt {β:Type} (yc:zz) (L:Nat) (k_ret:Bool→Option β) (k_x2:Option β):Nat→List (List V)→Int→Int→Option β
 | 0,_,_,_=>none
 | n+1,p30,p31,p32=>zhE yc L p30 p31 p32 k_ret (fun p30 p31 p32=>zdt yc L k_ret k_x2 n p30 p31 p32) k_x2
theorem zjo {β:Type} (yc:zz) (L:Nat) (K:KT β):∀ (n:Nat) (p30:List (List V)) (p31 p32:Int),xy (zj zR (xQ yc L) 0 L zcU) ze7 n (zdl p30 p31 p32) K=zdt yc L (fun p2=>K .ret (zcQ p2)) (K (.exit 2) (zj5)) n p30 p31 p32:=by
 intro n
 induction n with
 | zero=>intros; rfl
 | succ n ih =>
  intro p30 p31 p32
  refine (zp4 yc L p30 p31 p32 (fun σ=>xy (zj zR (xQ yc L) 0 L zcU) ze7 n σ K) K).trans ?_
  simp only [ih]
  rfl
def zd0 {β:Type} (yc:zz) (L:Nat) (b1:List V) (k_fin:Bool→Option β):Option β :=
 zg9 yc L b1 (fun p30 p31 p32=>zdt yc L (fun p2=>zfT yc L p2 k_fin) (zgr yc L k_fin) L p30 p31 p32)
theorem zoc {β:Type} (yc:zz) (L:Nat) (b1:List V) (k:KK β):(zr 0 (xH (zj zR (xQ yc L) 0 L zfN) (zP 0 (CF.res za8) k))) (.exit 0) (zgY b1)=zd0 yc L b1 (fun p0=>k (V.sc (.bool p0)) []):=by
 refine (zpo yc L b1 k).trans ?_
 unfold zd0
 first
  | (simp only [zjo,znv,znR]; done)
  | (simp only [zjo]; rfl)
def zmh {β:Type} (yc:zz) (L:Nat) (p0:List V) (k_fin:Bool→Option β):Option β :=
 zqb yc L p0 k_fin (fun p18 p19 p20 b1=>zd5 yc L (fun p2=>zgl yc L p2 k_fin) (fun b1=>zd0 yc L b1 k_fin) L p18 p19 p20 b1)
theorem zwJ {β:Type} (yc:zz) (L:Nat) (p0:List V) (k:KK β):yz zR (xQ yc L) L za8 [(V.agg p0)] [] k=zmh yc L p0 (fun p0=>k (V.sc (.bool p0)) []):=by
 refine (zvN yc L p0 k).trans ?_
 unfold zmh
 first
  | (simp only [zkj,zoh,zoc]; done)
  | (simp only [zkj]; rfl)
abbrev zho:=∀ (β:Type),Nat→List V→(Bool→Option β)→Option β
def yP (β:Type) (L:Nat) (p0:List V) (k_fin:Bool→Option β):Option β:=zmh yc L p0 k_fin
def zjv (yP:zho) (L:Nat) (β:Type) (args:List V) (bor:Bor) (k:KK β):Option β:=match args,bor with
 | [a0],[]=>aG a0 fun p0=>yP β L p0 (fun p0=>k (V.sc (.bool p0)) [])
 | _,_=>none
theorem zvY (L:Nat) (β:Type) (args:List V) (bor:Bor) (k:KK β) (r:β) (h:zjv yP L β args bor k=some r):yz zR (xQ yc L) L za8 args bor k=some r:=by
 unfold zjv at h
 split at h
 ·have q:=zcx h; clear h; obtain ⟨p0,rfl,h⟩:=q
  exact (zwJ yc L p0 k).trans h
 ·cases h
def zar:CC:=(.seq (.reg [oo 19 (.bin .lss (tq 18) (.const (.sc (.int .i64 8))))])
 (.seq (.cond (tq 19)
 .skip
 (.seq (.mask (bl 16 33) (bl 6979321823 33))
 (.exit 0)))
 (.seq (.block 1 (.seq (.reg [oo 20 (.move (tq 18) false),
   oo 5 (.move (tq 20) false)])
 (.reg [oo 21 (.unpin (tq 4)),
   oo 22 (.move (tq 0) false),
   oo 23 (.bin .mul (.const (.sc (.int .u64 8))) (tq 22)),
   oo 24 (.move (tq 5) false),
   oo 25 (.bin .mul (.const (.sc (.int .i64 8))) (tq 24)),
   oo 26 (.bin .sub (.const (.sc (.int .i64 56))) (tq 25)),
   oo 27 (.bin .shr (tq 23) (tq 26)),
   oo 28 (.conv .u8 (tq 27)),
   oo 29 (.buildSlice 1 1 [(.sc (.int .u8 0))] [(0,1,(tq 28))]),
   oo 30 (.append 1 1 (tq 21) (tq 29)),
   oo 4 (.move (tq 30) true)])))
 (.reg [oo 31 (.bin .add (tq 18) (.const (.sc (.int .i64 1)))),
   oo 18 (.move (tq 31) false)]))))
def zfZ:CC:=(.seq (.reg [oo 32 (.move (tq 4) true),
   oo 2 (.move (tq 32) true)])
 .ret)
def zdy:CF:=⟨33,[.tmp 2],
 (.seq (.reg [oo 2 (.move (.const (.gs 1 [])) true)])
 (.seq (.reg [oo 6 (.move (tq 0) false),
   oo 7 (.bin .add (tq 6) (.const (.sc (.int .u64 9)))),
   oo 8 (.bin .rem (tq 7) (.const (.sc (.int .u64 64)))),
   oo 9 (.bin .sub (.const (.sc (.int .u64 64))) (tq 8)),
   oo 10 (.bin .rem (tq 9) (.const (.sc (.int .u64 64)))),
   oo 3 (.move (tq 10) false)])
 (.seq (.reg [oo 11 (.move (tq 3) false),
   oo 12 (.bin .add (.const (.sc (.int .u64 1))) (tq 11)),
   oo 13 (.move (tq 3) false),
   oo 14 (.bin .add (.const (.sc (.int .u64 9))) (tq 13)),
   ⟨(some 15),true,none,.makeSlice 1 1 [(.sc (.int .u8 0))] (tq 12) (tq 14)⟩,
   oo 4 (.move (tq 15) true)])
 (.seq (.reg [oo 16 (.move (tq 4) false),
   oo 17 (.indexAddrS 1 (tq 16) (.const (.sc (.int .i64 0)))),
   oz (.store 1 (tq 17) (.const (.sc (.int .u8 128))))])
 (.seq (.seq (.reg [oo 18 (.move (.const (.sc (.int .i64 0))) false)])
 (.block 0 (.loop (bl 262161 33) (bl 6979321823 33)
 zar)))
 zfZ)))))⟩
def zqF:Hint:=⟨[(0,0),(2,5),(7,10),(9,0),(9,1)],[(2,4)],[none,some ((bl 262161 33),(bl 6979321823 33)),none,some ((bl 16 33),(bl 6979321823 33)),none,none],[],[(7,0,[0])],false,false,[]⟩
def zaw:Nat→Sh:=xI []
def zaz (L:Nat):CBC:=noC
def zbc:St→St:=yJ 0 (bl 262161 33) (bl 6979321823 33)
def zeY (p0:Int) (p4l:Nat) (p18:Int) (b15:List V):St:=⟨((V.sc (.int .u64 p0))::(jn 3 ((V.own 15 0 p4l 1)::(jn 13 ((V.sc (.int .i64 p18))::(jn 14 [])))))),(gn 15 ((.live true b15)::(gn 17 [])))⟩
def zce (p0:Int) (p4:List (List V)) (p18:Int) (b15:Nat):St:=⟨((V.sc (.int .u64 p0))::(jn 3 ((V.gs 1 p4)::(jn 13 ((V.sc (.int .i64 p18))::(jn 14 [])))))),(gn 15 ((.dead b15)::(gn 17 [])))⟩
def zjR (p4l:Nat) (b15:List V):St:=⟨(jn 4 ((V.own 15 0 p4l 1)::(jn 28 []))),(gn 15 ((.live true b15)::(gn 17 [])))⟩
def ze5 (p4:List (List V)) (b15:Nat):St:=⟨(jn 4 ((V.gs 1 p4)::(jn 28 []))),(gn 15 ((.dead b15)::(gn 17 [])))⟩
def zp3 {β:Type} (L:Nat) (p0:Int) (k_hbbbbaba:Int→Nat→Int→List V→Option β):Option β :=
 lt (IntKind.wrap .u64 ((p0:Int)+(9:Int))) fun x0 =>
 lt (Int.tmod x0 (64:Int)) fun x1 =>
 lt (IntKind.wrap .u64 (((64:Int):Int) - x1)) fun x2 =>
 lt (Int.tmod x2 (64:Int)) fun x3 =>
 lt (IntKind.wrap .u64 (((1:Int):Int)+x3)) fun x4 =>
 lt (IntKind.wrap .u64 (((9:Int):Int)+x3)) fun x5 =>
 chk (0≤x4∧x4≤x5∧(Int.toNat x5) * 1≤xg∧x5≤xg) (
 chk (0≤(0:Int)∧(0:Int) < (((Int.toNat x4):Nat):Int)) (
 chk (1=1∧0+1≤(List.length (List.flatten (List.replicate (Int.toNat x5) [(V.sc (.int .u8 (0:Int)))])))) (
 lt (xk (List.flatten (List.replicate (Int.toNat x5) [(V.sc (.int .u8 (0:Int)))])) 0 [(V.sc (.int .u8 (128:Int)))]) fun r6 =>
 k_hbbbbaba p0 (Int.toNat x4) (0:Int) r6)))
theorem zwS {β:Type} (L:Nat) (p0:Int) (k:KK β):yz zaw (zaz L) L zdy [(V.sc (.int .u64 p0))] [] k=zp3 L p0 (fun p0 p4l p18 b15=>xy (zj zaw (zaz L) 0 L zar) zbc L (zeY p0 p4l p18 b15) (zr 0 (xH (zj zaw (zaz L) 0 L zfZ) (zP 0 (CF.res zdy) k)))):=by kernel_rfl
def zex {β:Type} (L:Nat) (p0:Int) (p4l:Nat) (p18:Int) (b15:List V) (k_hbbbbabav1:Int→List (List V)→Int→Nat→Option β) (k_x0:Nat→List V→Option β):Option β :=
 ifb (decide (p18 < (8:Int))) (
 chk (0=0∧p4l * 1≤(List.length b15)∧(List.length b15)≠0) (
 lt (IntKind.wrap .u64 (((8:Int):Int) * p0)) fun x7 =>
 lt (IntKind.wrap .i64 (((8:Int):Int) * p18)) fun x8 =>
 lt (IntKind.wrap .i64 (((56:Int):Int) - x8)) fun x9 =>
 chk (0≤x9) (
 lt (zdJ .u64 x7 x9) fun x10 =>
 lt (IntKind.wrap .u8 x10) fun x11 =>
 chk ((List.length (yf 1 p4l b15)+List.length (yf 1 1 [(V.sc (.int .u8 x11))])) * 1≤xg∧List.length (yf 1 p4l b15)+List.length (yf 1 1 [(V.sc (.int .u8 x11))])≤xg) (
 lt ((yf 1 p4l b15)++(yf 1 1 [(V.sc (.int .u8 x11))])) fun l12 =>
 lt (IntKind.wrap .i64 ((p18:Int)+(1:Int))) fun x13 =>
 k_hbbbbabav1 p0 l12 x13 (List.length b15))))) (
 k_x0 p4l b15)
theorem zpl {β:Type} (L:Nat) (p0:Int) (p4l:Nat) (p18:Int) (b15:List V) (X:St→Option β) (K:KT β):zj zaw (zaz L) 0 L zar (zeY p0 p4l p18 b15) (y5 zbc X K)=zex L p0 p4l p18 b15 (fun p0 p4 p18 b15=>X (zce p0 p4 p18 b15)) (fun p4l b15=>K (.exit 0) (zjR p4l b15)):=by kernel_rfl
def zfG {β:Type} (L:Nat) (p4l:Nat) (b15:List V) (k_fin:List (List V)→Option β):Option β :=
 chk (p4l≠0∨(List.length b15)=0) (
 k_fin (yf 1 p4l b15))
theorem znP {β:Type} (L:Nat) (p4l:Nat) (b15:List V) (k:KK β):(zr 0 (xH (zj zaw (zaz L) 0 L zfZ) (zP 0 (CF.res zdy) k))) (.exit 0) (zjR p4l b15)=zfG L p4l b15 (fun p0=>k (V.fr 1 p0) []):=by kernel_rfl
def zb7 {β:Type} (L:Nat) (p0:Int) (p4:List (List V)) (p18:Int) (b15:Nat) (k_hbbbbabav1:Int→List (List V)→Int→Nat→Option β) (k_x0v1:List (List V)→Nat→Option β):Option β :=
 ifb (decide (p18 < (8:Int))) (
 lt (IntKind.wrap .u64 (((8:Int):Int) * p0)) fun x14 =>
 lt (IntKind.wrap .i64 (((8:Int):Int) * p18)) fun x15 =>
 lt (IntKind.wrap .i64 (((56:Int):Int) - x15)) fun x16 =>
 chk (0≤x16) (
 lt (zdJ .u64 x14 x16) fun x17 =>
 lt (IntKind.wrap .u8 x17) fun x18 =>
 chk ((List.length p4+List.length (yf 1 1 [(V.sc (.int .u8 x18))])) * 1≤xg∧List.length p4+List.length (yf 1 1 [(V.sc (.int .u8 x18))])≤xg) (
 lt (p4++(yf 1 1 [(V.sc (.int .u8 x18))])) fun l19 =>
 lt (IntKind.wrap .i64 ((p18:Int)+(1:Int))) fun x20 =>
 k_hbbbbabav1 p0 l19 x20 b15))) (
 k_x0v1 p4 b15)
theorem znm {β:Type} (L:Nat) (p0:Int) (p4:List (List V)) (p18:Int) (b15:Nat) (X:St→Option β) (K:KT β):zj zaw (zaz L) 0 L zar (zce p0 p4 p18 b15) (y5 zbc X K)=zb7 L p0 p4 p18 b15 (fun p0 p4 p18 b15=>X (zce p0 p4 p18 b15)) (fun p4 b15=>K (.exit 0) (ze5 p4 b15)):=by kernel_rfl
def zb1 {β:Type} (L:Nat) (p4:List (List V)) (b15:Nat) (k_finv1:List (List V)→Option β):Option β :=
 k_finv1 p4
theorem zkw {β:Type} (L:Nat) (p4:List (List V)) (b15:Nat) (k:KK β):(zr 0 (xH (zj zaw (zaz L) 0 L zfZ) (zP 0 (CF.res zdy) k))) (.exit 0) (ze5 p4 b15)=zb1 L p4 b15 (fun p0=>k (V.gs 1 p0) []):=by kernel_rfl
def zaF {β:Type} (L:Nat) (k_x0v1:List (List V)→Nat→Option β):Nat→Int→List (List V)→Int→Nat→Option β
 | 0,_,_,_,_=>none
 | n+1,p0,p4,p18,b15=>zb7 L p0 p4 p18 b15 (fun p0 p4 p18 b15=>zaF L k_x0v1 n p0 p4 p18 b15) k_x0v1
theorem zny {β:Type} (L:Nat) (K:KT β):∀ (n:Nat) (p0:Int) (p4:List (List V)) (p18:Int) (b15:Nat),xy (zj zaw (zaz L) 0 L zar) zbc n (zce p0 p4 p18 b15) K=zaF L (fun p4 b15=>K (.exit 0) (ze5 p4 b15)) n p0 p4 p18 b15:=by
 intro n
 induction n with
 | zero=>intros; rfl
 | succ n ih =>
  intro p0 p4 p18 b15
  refine (znm L p0 p4 p18 b15 (fun σ=>xy (zj zaw (zaz L) 0 L zar) zbc n σ K) K).trans ?_
  simp only [ih]
  rfl
def zlB {β:Type} (L:Nat) (k_x0:Nat→List V→Option β) (k_x0v1:List (List V)→Nat→Option β):Nat→Int→Nat→Int→List V→Option β
 | 0,_,_,_,_=>none
 | n+1,p0,p4l,p18,b15=>zex L p0 p4l p18 b15 (fun p0 p4 p18 b15=>zaF L k_x0v1 n p0 p4 p18 b15) k_x0
theorem ziH {β:Type} (L:Nat) (K:KT β):∀ (n:Nat) (p0:Int) (p4l:Nat) (p18:Int) (b15:List V),xy (zj zaw (zaz L) 0 L zar) zbc n (zeY p0 p4l p18 b15) K=zlB L (fun p4l b15=>K (.exit 0) (zjR p4l b15)) (fun p4 b15=>K (.exit 0) (ze5 p4 b15)) n p0 p4l p18 b15:=by
 intro n
 induction n with
 | zero=>intros; rfl
 | succ n ih =>
  intro p0 p4l p18 b15
  refine (zpl L p0 p4l p18 b15 (fun σ=>xy (zj zaw (zaz L) 0 L zar) zbc n σ K) K).trans ?_
  simp only [zny]
  rfl
def zmj {β:Type} (L:Nat) (p0:Int) (k_fin:List (List V)→Option β) (k_finv1:List (List V)→Option β):Option β :=
 zp3 L p0 (fun p0 p4l p18 b15=>zlB L (fun p4l b15=>zfG L p4l b15 k_fin) (fun p4 b15=>zb1 L p4 b15 k_finv1) L p0 p4l p18 b15)
theorem zwv {β:Type} (L:Nat) (p0:Int) (k:KK β):yz zaw (zaz L) L zdy [(V.sc (.int .u64 p0))] [] k=zmj L p0 (fun p0=>k (V.fr 1 p0) []) (fun p0=>k (V.gs 1 p0) []):=by
 refine (zwS L p0 k).trans ?_
 unfold zmj
 first
  | (simp only [ziH,znP,zkw]; done)
  | (simp only [ziH]; rfl)
abbrev xT:=∀ (β:Type),Nat→Int→(List (List V)→Option β)→(List (List V)→Option β)→Option β
def zi (β:Type) (L:Nat) (p0:Int) (k_fin:List (List V)→Option β) (k_finv1:List (List V)→Option β):Option β:=zmj L p0 k_fin k_finv1
def zlT (zi:xT) (L:Nat) (β:Type) (args:List V) (bor:Bor) (k:KK β):Option β:=match args,bor with
 | [a0],[]=>aI .u64 a0 fun p0=>zi β L p0 (fun p0=>k (V.fr 1 p0) []) (fun p0=>k (V.gs 1 p0) [])
 | _,_=>none
theorem zws (L:Nat) (β:Type) (args:List V) (bor:Bor) (k:KK β) (r:β) (h:zlT zi L β args bor k=some r):yz zaw (zaz L) L zdy args bor k=some r:=by
 unfold zlT at h
 split at h
 ·have q:=zc7 h; clear h; obtain ⟨p0,rfl,h⟩:=q
  exact (zwv L p0 k).trans h
 ·cases h
def zdz:CC:=(.seq (.reg [oo 9 (.bin .lss (tq 8) (tq 7))])
 (.seq (.cond (tq 9)
 .skip
 (.seq (.mask (bl 8 17) (bl 114655 17))
 (.exit 0)))
 (.seq (.block 1 (.seq (.reg [oo 10 (.indexAddrS 1 (tq 6) (tq 8)),
   oo 11 (.load false 1 (tq 10) false),
   oo 5 (.move (tq 11) false)])
 (.reg [oo 12 (.move (tq 3) true),
   oo 13 (.move (tq 5) false),
   oo 14 (.append 1 1 (tq 12) (tq 13)),
   oo 3 (.move (tq 14) true)])))
 (.reg [oo 15 (.bin .add (tq 8) (.const (.sc (.int .i64 1)))),
   oo 8 (.move (tq 15) false)]))))
def zlu:CC:=(.seq (.reg [oo 16 (.move (tq 3) true),
   oo 2 (.move (tq 16) true)])
 .ret)
def zew:CF:=⟨17,[.tmp 2],
 (.seq (.reg [oo 2 (.move (.const (.gs 1 [])) true)])
 (.seq (.reg [oo 3 (.move (.const (.gs 1 [])) true)])
 (.seq (.seq (.reg [oo 6 (.move (tq 0) false),
   oo 7 (.lenS (tq 6)),
   oo 8 (.move (.const (.sc (.int .i64 0))) false)])
 (.block 0 (.loop (bl 456 17) (bl 114655 17)
 zdz)))
 zlu)))⟩
def zqy:Hint:=⟨[(0,0),(1,0),(5,0),(5,3),(7,0),(7,1)],[],[none,some ((bl 456 17),(bl 114655 17)),none,some ((bl 8 17),(bl 114655 17)),none,none],[],[],false,false,[]⟩
def zbV:Nat→Sh:=xI [(11,(.sl 1))]
def zbZ (L:Nat):CBC:=noC
def zf2:St→St:=yJ 0 (bl 456 17) (bl 114655 17)
def zdQ (p3 p6:List (List V)) (p7 p8:Int):St:=⟨(jn 3 ((V.gs 1 p3)::(jn 2 ((V.sl 1 p6)::((V.sc (.int .i64 p7))::((V.sc (.int .i64 p8))::(jn 8 []))))))),(gn 17 [])⟩
def zjW (p3:List (List V)):St:=⟨(jn 3 ((V.gs 1 p3)::(jn 13 []))),(gn 17 [])⟩
def zp0 {β:Type} (L:Nat) (p0:List (List V)) (k_hbbaba:List (List V)→List (List V)→Int→Int→Option β):Option β :=
 k_hbbaba ([]:List (List V)) p0 ((List.length p0:Nat):Int) (0:Int)
theorem zv5 {β:Type} (L:Nat) (p0:List (List V)) (k:KK β):yz zbV (zbZ L) L zew [(V.sl 1 p0)] [] k=zp0 L p0 (fun p3 p6 p7 p8=>xy (zj zbV (zbZ L) 0 L zdz) zf2 L (zdQ p3 p6 p7 p8) (zr 0 (xH (zj zbV (zbZ L) 0 L zlu) (zP 0 (CF.res zew) k)))):=by kernel_rfl
def zbd {β:Type} (L:Nat) (p3 p6:List (List V)) (p7 p8:Int) (k_hbbaba:List (List V)→List (List V)→Int→Int→Option β) (k_x0:List (List V)→Option β):Option β :=
 ifb (decide (p8 < p7)) (
 idx p6 p8 fun c0 =>
 cL 1 c0 0 fun v1 =>
 chk ((List.length p3+List.length v1) * 1≤xg∧List.length p3+List.length v1≤xg) (
 lt (p3++v1) fun l2 =>
 lt (IntKind.wrap .i64 ((p8:Int)+(1:Int))) fun x3 =>
 k_hbbaba l2 p6 p7 x3)) (
 k_x0 p3)
theorem zrq {β:Type} (L:Nat) (p3 p6:List (List V)) (p7 p8:Int) (X:St→Option β) (K:KT β):zj zbV (zbZ L) 0 L zdz (zdQ p3 p6 p7 p8) (y5 zf2 X K)=zbd L p3 p6 p7 p8 (fun p3 p6 p7 p8=>X (zdQ p3 p6 p7 p8)) (fun p3=>K (.exit 0) (zjW p3)):=by kernel_rfl
def zbM {β:Type} (L:Nat) (p3:List (List V)) (k_fin:List (List V)→Option β):Option β :=
 k_fin p3
theorem zpj {β:Type} (L:Nat) (p3:List (List V)) (k:KK β):(zr 0 (xH (zj zbV (zbZ L) 0 L zlu) (zP 0 (CF.res zew) k))) (.exit 0) (zjW p3)=zbM L p3 (fun p0=>k (V.gs 1 p0) []):=by kernel_rfl
def zcM {β:Type} (L:Nat) (k_x0:List (List V)→Option β):Nat→List (List V)→List (List V)→Int→Int→Option β
 | 0,_,_,_,_=>none
 | n+1,p3,p6,p7,p8=>zbd L p3 p6 p7 p8 (fun p3 p6 p7 p8=>zcM L k_x0 n p3 p6 p7 p8) k_x0
theorem zko {β:Type} (L:Nat) (K:KT β):∀ (n:Nat) (p3 p6:List (List V)) (p7 p8:Int),xy (zj zbV (zbZ L) 0 L zdz) zf2 n (zdQ p3 p6 p7 p8) K=zcM L (fun p3=>K (.exit 0) (zjW p3)) n p3 p6 p7 p8:=by
 intro n
 induction n with
 | zero=>intros; rfl
 | succ n ih =>
  intro p3 p6 p7 p8
  refine (zrq L p3 p6 p7 p8 (fun σ=>xy (zj zbV (zbZ L) 0 L zdz) zf2 n σ K) K).trans ?_
  simp only [ih]
  rfl
def zlQ {β:Type} (L:Nat) (p0:List (List V)) (k_fin:List (List V)→Option β):Option β :=
 zp0 L p0 (fun p3 p6 p7 p8=>zcM L (fun p3=>zbM L p3 k_fin) L p3 p6 p7 p8)
theorem zwP {β:Type} (L:Nat) (p0:List (List V)) (k:KK β):yz zbV (zbZ L) L zew [(V.sl 1 p0)] [] k=zlQ L p0 (fun p0=>k (V.gs 1 p0) []):=by
 refine (zv5 L p0 k).trans ?_
 unfold zlQ
 first
  | (simp only [zko,zpj]; done)
  | (simp only [zko]; rfl)
abbrev yT:=∀ (β:Type),Nat→List (List V)→(List (List V)→Option β)→Option β
def xh (β:Type) (L:Nat) (p0:List (List V)) (k_fin:List (List V)→Option β):Option β:=zlQ L p0 k_fin
def zlV (xh:yT) (L:Nat) (β:Type) (args:List V) (bor:Bor) (k:KK β):Option β:=match args,bor with
 | [a0],[]=>aL 1 a0 fun p0=>xh β L p0 (fun p0=>k (V.gs 1 p0) [])
 | _,_=>none
theorem zwy (L:Nat) (β:Type) (args:List V) (bor:Bor) (k:KK β) (r:β) (h:zlV xh L β args bor k=some r):yz zbV (zbZ L) L zew args bor k=some r:=by
 unfold zlV at h
 split at h
 ·have q:=zcy h; clear h; obtain ⟨p0,rfl,h⟩:=q
  exact (zwP L p0 k).trans h
 ·cases h
def zbi:CF:=⟨17,[.tmp 4],
 (.seq (.reg [oo 4 (.move (.const (.sc (.int .u32 0))) false)])
 (.seq (.reg [oo 6 (.move (tq 1) false),
   oo 7 (.conv .u64 (tq 6)),
   oo 8 (.bin .and (tq 7) (.const (.sc (.int .u64 31)))),
   oo 5 (.move (tq 8) false)])
 (.seq (.reg [oo 9 (.move (tq 0) false),
   oo 10 (.move (tq 5) false),
   oo 11 (.bin .shl (tq 9) (tq 10)),
   oo 12 (.move (tq 0) false),
   oo 13 (.move (tq 5) false),
   oo 14 (.bin .sub (.const (.sc (.int .u64 32))) (tq 13)),
   oo 15 (.bin .shr (tq 12) (tq 14)),
   oo 16 (.bin .or (tq 11) (tq 15)),
   oo 4 (.move (tq 16) false)])
 .ret)))⟩
def zek:Hint:=⟨[],[],[none],[],[],false,false,[]⟩
def zcz:Nat→Sh:=xI []
def zcG (L:Nat):CBC:=noC
def zcW {β:Type} (L:Nat) (p0 p1:Int) (k_fin:Int→Option β):Option β :=
 lt (IntKind.wrap .u64 p1) fun x0 =>
 lt (zdN .u64 x0 (31:Int)) fun x1 =>
 chk (0≤x1) (
 lt (zjX .u32 p0 x1) fun x2 =>
 lt (IntKind.wrap .u64 (((32:Int):Int) - x1)) fun x3 =>
 chk (0≤x3) (
 lt (zdJ .u32 p0 x3) fun x4 =>
 lt (ior .u32 x2 x4) fun x5 =>
 k_fin x5))
theorem zjn {β:Type} (L:Nat) (p0 p1:Int) (k:KK β):yz zcz (zcG L) L zbi [(V.sc (.int .u32 p0)),(V.sc (.int .i64 p1))] [] k=zcW L p0 p1 (fun p0=>k (V.sc (.int .u32 p0)) []):=by kernel_rfl
abbrev zab:=∀ (β:Type),Nat→Int→Int→(Int→Option β)→Option β
def ym (β:Type) (L:Nat) (p0 p1:Int) (k_fin:Int→Option β):Option β:=zcW L p0 p1 k_fin
def zaC (ym:zab) (L:Nat) (β:Type) (args:List V) (bor:Bor) (k:KK β):Option β:=match args,bor with
 | [a0,a1],[]=>aI .u32 a0 fun p0=>aI .i64 a1 fun p1=>ym β L p0 p1 (fun p0=>k (V.sc (.int .u32 p0)) [])
 | _,_=>none
theorem zjy (L:Nat) (β:Type) (args:List V) (bor:Bor) (k:KK β) (r:β) (h:zaC ym L β args bor k=some r):yz zcz (zcG L) L zbi args bor k=some r:=by
 unfold zaC at h
 split at h
 ·have q:=zc7 h; clear h; obtain ⟨p0,rfl,h⟩:=q
  have q:=zc7 h; clear h; obtain ⟨p1,rfl,h⟩:=q
  exact (zjn L p0 p1 k).trans h
 ·cases h
def zi8:CF:=⟨9,[.tmp 4],
 (.seq (.reg [oo 4 (.move (.const (.sc (.int .u32 0))) false)])
 (.seq (.reg [oo 5 (.move (tq 0) false),
   oo 6 (.move (tq 1) false),
   oo 7 (.un .neg (tq 6)),
   oo 8 (.call 572 [((tq 5),0),((tq 7),0)] []),
   oo 4 (.move (tq 8) false)])
 .ret))⟩
def zoU:Hint:=⟨[],[],[none],[],[],false,false,[]⟩
def zmG:Nat→Sh:=xI []
def zmD (ym:zab) (L:Nat):CBC:=(xr 572 (zaC ym L) noC)
def zoH {β:Type} (ym:zab) (L:Nat) (p0 p1:Int) (k_fin:Int→Option β):Option β :=
 lt (IntKind.wrap .i64 (0 - p1)) fun x0 =>
 ym β L p0 x0 (fun v1 =>
 k_fin v1)
theorem zvc {β:Type} (ym:zab) (L:Nat) (p0 p1:Int) (k:KK β):yz zmG (zmD ym L) L zi8 [(V.sc (.int .u32 p0)),(V.sc (.int .i64 p1))] [] k=zoH ym L p0 p1 (fun p0=>k (V.sc (.int .u32 p0)) []):=by kernel_rfl
abbrev yr:=∀ (β:Type),Nat→Int→Int→(Int→Option β)→Option β
def yb (β:Type) (L:Nat) (p0 p1:Int) (k_fin:Int→Option β):Option β:=zoH ym L p0 p1 k_fin
def ziv (yb:yr) (L:Nat) (β:Type) (args:List V) (bor:Bor) (k:KK β):Option β:=match args,bor with
 | [a0,a1],[]=>aI .u32 a0 fun p0=>aI .i64 a1 fun p1=>yb β L p0 p1 (fun p0=>k (V.sc (.int .u32 p0)) [])
 | _,_=>none
theorem zvD (L:Nat) (β:Type) (args:List V) (bor:Bor) (k:KK β) (r:β) (h:ziv yb L β args bor k=some r):yz zmG (zmD ym L) L zi8 args bor k=some r:=by
 unfold ziv at h
 split at h
 ·have q:=zc7 h; clear h; obtain ⟨p0,rfl,h⟩:=q
  have q:=zc7 h; clear h; obtain ⟨p1,rfl,h⟩:=q
  exact (zvc ym L p0 p1 k).trans h
 ·cases h
end
end Go.Proofs.YtoeobffjdbdpgaaDoor
