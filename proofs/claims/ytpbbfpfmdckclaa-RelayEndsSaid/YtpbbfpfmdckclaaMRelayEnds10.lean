/- Part 10 of the proof of RelayEnds: an abstract machine over plain values, its soundness, and the functions of the program on plain values. -/
import Derived.Test.YtpbbfpfmdckclaaMRelayEnds9
namespace Go.Proofs.Ytpbbfpfmdckclaa
section
set_option maxRecDepth 100000
set_option linter.unusedVariables false
set_option linter.unusedSimpArgs false
def xY:CC:=(.seq (.reg [oo 9 (.bin .lss (tq 8) (tq 7))])
 (.seq (.cond (tq 9)
 .skip
 (.seq (.mask (bl 0 19) (bl 458703 19))
 (.exit 0)))
 (.seq (.block 1 (.seq (.reg [oo 10 (.move (tq 8) false),
   oo 5 (.move (tq 10) false)])
 (.seq (.reg [oo 11 (.move (tq 1) false),
   oo 12 (.move (tq 0) false),
   oo 13 (.move (tq 5) false),
   oo 14 (.indexAddrS 35 (tq 12) (tq 13)),
   oo 15 (.load true 35 (tq 14) false),
   oo 16 (.callv (tq 11) [((tq 15),0)] [])])
 (.cond (tq 16)
 (.seq (.reg [oo 17 (.move (tq 5) false),
   oo 4 (.move (tq 17) false)])
 (.seq (.mask (bl 16 19) (bl 458719 19))
 .ret))
 .skip))))
 (.reg [oo 18 (.bin .add (tq 8) (.const (.sc (.int .i64 1)))),
   oo 8 (.move (tq 18) false)]))))
def zbl:CC:=(.seq (.reg [oo 4 (.move (.const (.sc (.int .i64 (-1)))) false)])
 .ret)
def yK:CF:=zz
def yt:Nat→Sh:=zay []
def xt (xe:yG) (L:Nat):CBC:=(zI 368 (zga xe L) noC)
def x5:St→St:=zab 3 (bl 387 19) (bl 458703 19)
def zU (p0l:Nat) (p7 p8:Int) (b0:List V) (zBG:Int) (zBH:List (List V)):St:=⟨((V.own 0 0 p0l 35)::((V.fn 368 [(V.ptr 1 0),(V.ptr 2 0)])::(jn 5 ((V.sc (.int .i64 p7))::((V.sc (.int .i64 p8))::(jn 10 [])))))),((.live true b0)::((.live true [(V.sc (.int .u32 zBG))])::((.live false [(V.gs 32 zBH)])::(gn 19 []))))⟩
def za0 (p4:Int) (b0:List V) (zBG:Int) (zBH:List (List V)):St:=⟨(jn 4 ((V.sc (.int .i64 p4))::(jn 14 []))),((.live true b0)::((.live true [(V.sc (.int .u32 zBG))])::((.live false [(V.gs 32 zBH)])::(gn 19 []))))⟩
def za3 (b0:List V) (zBG:Int) (zBH:List (List V)):St:=⟨(jn 19 []),((.live true b0)::((.live true [(V.sc (.int .u32 zBG))])::((.live false [(V.gs 32 zBH)])::(gn 19 []))))⟩
def zbC {β:Type} (xe:yG) (L:Nat) (p0l:Nat) (b0:List V) (zBG:Int) (zBH:List (List V)) (k_hbaba:Nat→Int→Int→List V→Int→List (List V)→Option β):Option β :=
 k_hbaba p0l ((p0l:Nat):Int) (0:Int) b0 zBG zBH
theorem ze2 {β:Type} (xe:yG) (L:Nat) (p0l:Nat) (b0:List V) (zBG:Int) (zBH:List (List V)) (k:KK β):xH yt (xt xe L) L yK [(V.own 0 0 p0l 35),(V.fn 368 [(V.ptr 1 0),(V.ptr 2 0)])] [(.live true b0),(.live true [(V.sc (.int .u32 zBG))]),(.live false [(V.gs 32 zBH)])] k=zbC xe L p0l b0 zBG zBH (fun p0l p7 p8 b0 zBG zBH=>yR (yu yt (xt xe L) 3 L xY) x5 L (zU p0l p7 p8 b0 zBG zBH) (yH 0 (zaC (yu yt (xt xe L) 3 L zbl) (za1 3 (CF.res yK) k)))):=by kernel_rfl
def za6 {β:Type} (xe:yG) (L:Nat) (p0l:Nat) (p7 p8:Int) (b0:List V) (zBG:Int) (zBH:List (List V)) (k_ret:Int→List V→Int→List (List V)→Option β) (k_hbaba:Nat→Int→Int→List V→Int→List (List V)→Option β) (k_x0:List V→Int→List (List V)→Option β):Option β :=
 ifb (decide (p8 < p7)) (
 chk (0≤p8∧p8 < ((p0l:Nat):Int)) (
 chk ((0+((Int.toNat p8) * 35))+35≤(List.length b0)) (
 xe β L (List.take 35 (List.drop (0+((Int.toNat p8) * 35)) b0)) zBG zBH (fun v0 v1 v2 =>
 ifb v0 (
 k_ret p8 b0 v1 v2) (
 lt (IntKind.wrap .i64 ((p8:Int)+(1:Int))) fun x3 =>
 k_hbaba p0l p7 x3 b0 v1 v2))))) (
 k_x0 b0 zBG zBH)
theorem zeF {β:Type} (xe:yG) (L:Nat) (p0l:Nat) (p7 p8:Int) (b0:List V) (zBG:Int) (zBH:List (List V)) (X:St→Option β) (K:KT β):yu yt (xt xe L) 3 L xY (zU p0l p7 p8 b0 zBG zBH) (zdL x5 X K)=za6 xe L p0l p7 p8 b0 zBG zBH (fun p4 b0 zBG zBH=>K .ret (za0 p4 b0 zBG zBH)) (fun p0l p7 p8 b0 zBG zBH=>X (zU p0l p7 p8 b0 zBG zBH)) (fun b0 zBG zBH=>K (.exit 0) (za3 b0 zBG zBH)):=by kernel_rfl
def zcc {β:Type} (xe:yG) (L:Nat) (p4:Int) (b0:List V) (zBG:Int) (zBH:List (List V)) (k_fin:Int→List V→Int→List (List V)→Option β):Option β :=
 k_fin p4 b0 zBG zBH
theorem zd8 {β:Type} (xe:yG) (L:Nat) (p4:Int) (b0:List V) (zBG:Int) (zBH:List (List V)) (k:KK β):(yH 0 (zaC (yu yt (xt xe L) 3 L zbl) (za1 3 (CF.res yK) k))) .ret (za0 p4 b0 zBG zBH)=zcc xe L p4 b0 zBG zBH (fun p0 b0 zBG zBH=>k (V.sc (.int .i64 p0)) [(.live true b0),(.live true [(V.sc (.int .u32 zBG))]),(.live false [(V.gs 32 zBH)])]):=by kernel_rfl
def zcn {β:Type} (xe:yG) (L:Nat) (b0:List V) (zBG:Int) (zBH:List (List V)) (k_fin:Int→List V→Int→List (List V)→Option β):Option β :=
 k_fin (-1:Int) b0 zBG zBH
theorem zei {β:Type} (xe:yG) (L:Nat) (b0:List V) (zBG:Int) (zBH:List (List V)) (k:KK β):(yH 0 (zaC (yu yt (xt xe L) 3 L zbl) (za1 3 (CF.res yK) k))) (.exit 0) (za3 b0 zBG zBH)=zcn xe L b0 zBG zBH (fun p0 b0 zBG zBH=>k (V.sc (.int .i64 p0)) [(.live true b0),(.live true [(V.sc (.int .u32 zBG))]),(.live false [(V.gs 32 zBH)])]):=by kernel_rfl
def yO {β:Type} (xe:yG) (L:Nat) (k_ret:Int→List V→Int→List (List V)→Option β) (k_x0:List V→Int→List (List V)→Option β):Nat→Nat→Int→Int→List V→Int→List (List V)→Option β
 | 0,_,_,_,_,_,_=>none
 | n+1,p0l,p7,p8,b0,zBG,zBH=>za6 xe L p0l p7 p8 b0 zBG zBH k_ret (fun p0l p7 p8 b0 zBG zBH=>yO xe L k_ret k_x0 n p0l p7 p8 b0 zBG zBH) k_x0
theorem zb9 {β:Type} (xe:yG) (L:Nat) (K:KT β):∀ (n:Nat) (p0l:Nat) (p7 p8:Int) (b0:List V) (zBG:Int) (zBH:List (List V)),yR (yu yt (xt xe L) 3 L xY) x5 n (zU p0l p7 p8 b0 zBG zBH) K=yO xe L (fun p4 b0 zBG zBH=>K .ret (za0 p4 b0 zBG zBH)) (fun b0 zBG zBH=>K (.exit 0) (za3 b0 zBG zBH)) n p0l p7 p8 b0 zBG zBH:=by
 intro n
 induction n with
 | zero=>intros; rfl
 | succ n ih =>
  intro p0l p7 p8 b0 zBG zBH
  refine (zeF xe L p0l p7 p8 b0 zBG zBH (fun σ=>yR (yu yt (xt xe L) 3 L xY) x5 n σ K) K).trans ?_
  simp only [ih]
  rfl
def zax {β:Type} (xe:yG) (L:Nat) (p0l:Nat) (b0:List V) (zBG:Int) (zBH:List (List V)) (k_fin:Int→List V→Int→List (List V)→Option β):Option β :=
 zbC xe L p0l b0 zBG zBH (fun p0l p7 p8 b0 zBG zBH=>yO xe L (fun p4 b0 zBG zBH=>zcc xe L p4 b0 zBG zBH k_fin) (fun b0 zBG zBH=>zcn xe L b0 zBG zBH k_fin) L p0l p7 p8 b0 zBG zBH)
theorem ze7 {β:Type} (xe:yG) (L:Nat) (p0l:Nat) (b0:List V) (zBG:Int) (zBH:List (List V)) (k:KK β):xH yt (xt xe L) L yK [(V.own 0 0 p0l 35),(V.fn 368 [(V.ptr 1 0),(V.ptr 2 0)])] [(.live true b0),(.live true [(V.sc (.int .u32 zBG))]),(.live false [(V.gs 32 zBH)])] k=zax xe L p0l b0 zBG zBH (fun p0 b0 zBG zBH=>k (V.sc (.int .i64 p0)) [(.live true b0),(.live true [(V.sc (.int .u32 zBG))]),(.live false [(V.gs 32 zBH)])]):=by
 refine (ze2 xe L p0l b0 zBG zBH k).trans ?_
 unfold zax
 first
  | (simp only [zb9,zd8,zei]; done)
  | (simp only [zb9]; rfl)
abbrev xq:=∀ (β:Type),Nat→Nat→List V→Int→List (List V)→(Int→List V→Int→List (List V)→Option β)→Option β
def xc (β:Type) (L:Nat) (p0l:Nat) (b0:List V) (zBG:Int) (zBH:List (List V)) (k_fin:Int→List V→Int→List (List V)→Option β):Option β:=zax xe L p0l b0 zBG zBH k_fin
def zan (xc:xq) (L:Nat) (β:Type) (args:List V) (bor:Bor) (k:KK β):Option β:=match args,bor with
 | [a0,a1],[(.live true b0),(.live true [w1_0]),(.live false [w2_0])]=>aO0 0 35 a0 fun p0l=>aF 368 [(1,0),(2,0)] a1 (aI .u32 w1_0 fun zBG=>aGs 32 w2_0 fun zBH=>xc β L p0l b0 zBG zBH (fun p0 b0 zBG zBH=>k (V.sc (.int .i64 p0)) [(.live true b0),(.live true [(V.sc (.int .u32 zBG))]),(.live false [(V.gs 32 zBH)])]))
 | _,_=>none
theorem ze9 (L:Nat) (β:Type) (args:List V) (bor:Bor) (k:KK β) (r:β) (h:zan xc L β args bor k=some r):xH yt (xt xe L) L yK args bor k=some r:=by
 unfold zan at h
 split at h
 ·have q:=zjK h; clear h; obtain ⟨p0l,rfl,h⟩:=q
  have q:=zrX h; clear h; obtain ⟨rfl,h⟩:=q
  have q:=zcp h; clear h; obtain ⟨zBG,rfl,h⟩:=q
  have q:=zsZ h; clear h; obtain ⟨zBH,rfl,h⟩:=q
  exact (ze7 xe L p0l _ zBG zBH k).trans h
 ·cases h
def yN:CC:=(.seq (.seq (.reg [oo 16 (.move (tq 6) false),
   oo 17 (.move (tq 0) false),
   oo 18 (.lenS (tq 17)),
   oo 19 (.bin .lss (tq 16) (tq 18))])
 (.cond (tq 19)
 .skip
 (.seq (.mask (bl 33 42) (bl 4397777813311 42))
 (.exit 0))))
 (.seq (.block 1 (.seq (.reg [oo 22 (.move (tq 0) false),
   oo 23 (.move (tq 6) false),
   oo 24 (.indexAddrS 35 (tq 22) (tq 23)),
   oo 25 (.load true 35 (tq 24) false),
   oo 7 (.alloc true (rp 32 (.sc (.int .u8 0)) (rp 2 (.sc (.int .i64 0)) (rp 1 (.sc (.int .u32 0)) [])))),
   oz (.store 35 (tq 7) (tq 25))])
 (.seq (.reg [oo 26 (.move (tq 1) false),
   oo 27 (.load true 35 (tq 7) false),
   oo 28 (.callv (tq 26) [((tq 27),0)] []),
   oo 29 (.un .not (tq 28))])
 (.cond (tq 29)
 (.seq (.reg [oo 30 (.move (tq 0) false),
   oo 31 (.move (tq 5) false),
   oo 32 (.load true 35 (tq 7) false),
   oo 33 (.indexAddrS 35 (tq 30) (tq 31)),
   oz (.store 35 (tq 33) (tq 32))])
 (.reg [oo 34 (.move (tq 5) false),
   oo 35 (.bin .add (tq 34) (.const (.sc (.int .i64 1)))),
   oo 5 (.move (tq 35) false)]))
 .skip))))
 (.reg [oo 20 (.move (tq 6) false),
   oo 21 (.bin .add (tq 20) (.const (.sc (.int .i64 1)))),
   oo 6 (.move (tq 21) false)])))
def zbn:CC:=(.seq (.reg [oo 36 (.move (tq 0) false),
   oo 37 (.move (tq 5) false),
   oo 38 (.sliceS 35 (tq 36) (some (tq 37)) none none),
   oz (.clear 35 (rp 32 (.sc (.int .u8 0)) (rp 2 (.sc (.int .i64 0)) (rp 1 (.sc (.int .u32 0)) []))) (tq 38))])
 (.seq (.reg [oo 39 (.move (tq 0) true),
   oo 40 (.move (tq 5) false),
   oo 41 (.sliceS 35 (tq 39) none (some (tq 40)) none),
   oo 4 (.move (tq 41) true)])
 .ret))
def xI:CF:=⟨42,[.tmp 4],
 (.seq (.reg [oo 4 (.move (.const (.gs 35 [])) true)])
 (.seq (.reg [oo 8 (.move (tq 0) false),
   oo 9 (.move (tq 1) false),
   oo 10 (.call 372 [((tq 8),2),((tq 9),2)] []),
   oo 5 (.move (tq 10) false)])
 (.seq (.seq (.reg [oo 11 (.move (tq 5) false),
   oo 12 (.bin .eql (tq 11) (.const (.sc (.int .i64 (-1)))))])
 (.cond (tq 12)
 (.seq (.reg [oo 13 (.move (tq 0) true),
   oo 4 (.move (tq 13) true)])
 .ret)
 .skip))
 (.seq (.seq (.reg [oo 14 (.move (tq 5) false),
   oo 15 (.bin .add (tq 14) (.const (.sc (.int .i64 1)))),
   oo 6 (.move (tq 15) false)])
 (.block 0 (.loop (bl 99 42) (bl 4397777813375 42)
 yN)))
 zbn))))⟩
def zcW:Hint:=⟨[(0,0),(1,2),(3,0),(3,1),(12,0),(12,3)],[],[none,none,none,some ((bl 99 42),(bl 4397777813375 42)),none,some ((bl 33 42),(bl 4397777813311 42)),none,none,none],[],[],false,false⟩
def yy:Nat→Sh:=zay []
def xy (xc:xq) (xe:yG) (L:Nat):CBC:=(zI 368 (zga xe L) (zI 372 (zan xc L) noC))
def z6:St→St:=zab 3 (bl 99 42) (bl 4397777813375 42)
def xT (p0l:Nat) (p5 p6:Int) (b0:List V) (zBG:Int) (zBH:List (List V)):St:=⟨((V.own 0 0 p0l 35)::((V.fn 368 [(V.ptr 1 0),(V.ptr 2 0)])::(jn 3 ((V.sc (.int .i64 p5))::((V.sc (.int .i64 p6))::(jn 35 [])))))),((.live true b0)::((.live true [(V.sc (.int .u32 zBG))])::((.live false [(V.gs 32 zBH)])::(gn 42 []))))⟩
def zbi (p0l:Nat) (p5:Int) (b0:List V) (zBG:Int) (zBH:List (List V)):St:=⟨((V.own 0 0 p0l 35)::(jn 4 ((V.sc (.int .i64 p5))::(jn 36 [])))),((.live true b0)::((.live true [(V.sc (.int .u32 zBG))])::((.live false [(V.gs 32 zBH)])::(gn 42 []))))⟩
def zaJ {β:Type} (xc:xq) (xe:yG) (L:Nat) (p0l:Nat) (b0:List V) (zBG:Int) (zBH:List (List V)) (k_fin:Nat→List V→Int→List (List V)→Option β) (k_hbbbaba:Nat→Int→Int→List V→Int→List (List V)→Option β):Option β :=
 xc β L p0l b0 zBG zBH (fun v0 v1 v2 v3 =>
 chk ([(List.length v1),1,1]=[(List.length b0),1,1]) (
 ifb ((v0:Int) == (-1:Int)) (
 k_fin p0l v1 v2 v3) (
 lt (IntKind.wrap .i64 ((v0:Int)+(1:Int))) fun x4 =>
 k_hbbbaba p0l v0 x4 v1 v2 v3)))
theorem zfB {β:Type} (xc:xq) (xe:yG) (L:Nat) (p0l:Nat) (b0:List V) (zBG:Int) (zBH:List (List V)) (k:KK β):xH yy (xy xc xe L) L xI [(V.own 0 0 p0l 35),(V.fn 368 [(V.ptr 1 0),(V.ptr 2 0)])] [(.live true b0),(.live true [(V.sc (.int .u32 zBG))]),(.live false [(V.gs 32 zBH)])] k=zaJ xc xe L p0l b0 zBG zBH (fun p0l b0 zBG zBH=>k (V.own 0 0 p0l 35) [(.live true b0),(.live true [(V.sc (.int .u32 zBG))]),(.live false [(V.gs 32 zBH)])]) (fun p0l p5 p6 b0 zBG zBH=>yR (yu yy (xy xc xe L) 3 L yN) z6 L (xT p0l p5 p6 b0 zBG zBH) (yH 0 (zaC (yu yy (xy xc xe L) 3 L zbn) (za1 3 (CF.res xI) k)))):=by kernel_rfl
def zO {β:Type} (xc:xq) (xe:yG) (L:Nat) (p0l:Nat) (p5 p6:Int) (b0:List V) (zBG:Int) (zBH:List (List V)) (k_hbbbaba:Nat→Int→Int→List V→Int→List (List V)→Option β) (k_x0:Nat→Int→List V→Int→List (List V)→Option β):Option β :=
 ifb (decide (p6 < ((p0l:Nat):Int))) (
 chk (0≤p6∧p6 < ((p0l:Nat):Int)) (
 chk ((0+((Int.toNat p6) * 35))+35≤(List.length b0)) (
 chk ((List.length (List.take 35 (List.drop (0+((Int.toNat p6) * 35)) b0)))=35∧0+35≤35) (
 lt (ya (List.replicate 32 (V.sc (.int .u8 (0:Int)))++[(V.sc (.int .i64 (0:Int))),(V.sc (.int .i64 (0:Int))),(V.sc (.int .u32 (0:Int)))]) 0 (List.take 35 (List.drop (0+((Int.toNat p6) * 35)) b0))) fun r5 =>
 chk (0+35≤(List.length r5)) (
 xe β L (List.take 35 r5) zBG zBH (fun v6 v7 v8 =>
 ifb (!v6) (
 chk (0+35≤(List.length r5)) (
 chk (0≤p5∧p5 < ((p0l:Nat):Int)) (
 chk ((List.length (List.take 35 r5))=35∧(0+((Int.toNat p5) * 35))+35≤(List.length b0)) (
 lt (ya b0 (0+((Int.toNat p5) * 35)) (List.take 35 r5)) fun r9 =>
 lt (IntKind.wrap .i64 ((p5:Int)+(1:Int))) fun x10 =>
 lt (IntKind.wrap .i64 ((p6:Int)+(1:Int))) fun x11 =>
 k_hbbbaba p0l x10 x11 r9 v7 v8)))) (
 lt (IntKind.wrap .i64 ((p6:Int)+(1:Int))) fun x12 =>
 k_hbbbaba p0l p5 x12 b0 v7 v8))))))) (
 k_x0 p0l p5 b0 zBG zBH)
theorem zeI {β:Type} (xc:xq) (xe:yG) (L:Nat) (p0l:Nat) (p5 p6:Int) (b0:List V) (zBG:Int) (zBH:List (List V)) (X:St→Option β) (K:KT β):yu yy (xy xc xe L) 3 L yN (xT p0l p5 p6 b0 zBG zBH) (zdL z6 X K)=zO xc xe L p0l p5 p6 b0 zBG zBH (fun p0l p5 p6 b0 zBG zBH=>X (xT p0l p5 p6 b0 zBG zBH)) (fun p0l p5 b0 zBG zBH=>K (.exit 0) (zbi p0l p5 b0 zBG zBH)):=by kernel_rfl
def yW {β:Type} (xc:xq) (xe:yG) (L:Nat) (p0l:Nat) (p5:Int) (b0:List V) (zBG:Int) (zBH:List (List V)) (k_fin:Nat→List V→Int→List (List V)→Option β):Option β :=
 chk (0≤p5∧p5≤((p0l:Nat):Int)) (
 lt (ya b0 (0+((Int.toNat p5) * 35)) (List.flatten (List.replicate (p0l - (Int.toNat p5)) (List.replicate 32 (V.sc (.int .u8 (0:Int)))++[(V.sc (.int .i64 (0:Int))),(V.sc (.int .i64 (0:Int))),(V.sc (.int .u32 (0:Int)))])))) fun r13 =>
 chk (0≤p5∧p5≤((p0l:Nat):Int)) (
 k_fin ((Int.toNat p5) - 0) r13 zBG zBH))
theorem zeh {β:Type} (xc:xq) (xe:yG) (L:Nat) (p0l:Nat) (p5:Int) (b0:List V) (zBG:Int) (zBH:List (List V)) (k:KK β):(yH 0 (zaC (yu yy (xy xc xe L) 3 L zbn) (za1 3 (CF.res xI) k))) (.exit 0) (zbi p0l p5 b0 zBG zBH)=yW xc xe L p0l p5 b0 zBG zBH (fun p0l b0 zBG zBH=>k (V.own 0 0 p0l 35) [(.live true b0),(.live true [(V.sc (.int .u32 zBG))]),(.live false [(V.gs 32 zBH)])]):=by kernel_rfl
def xE {β:Type} (xc:xq) (xe:yG) (L:Nat) (k_x0:Nat→Int→List V→Int→List (List V)→Option β):Nat→Nat→Int→Int→List V→Int→List (List V)→Option β
 | 0,_,_,_,_,_,_=>none
 | n+1,p0l,p5,p6,b0,zBG,zBH=>zO xc xe L p0l p5 p6 b0 zBG zBH (fun p0l p5 p6 b0 zBG zBH=>xE xc xe L k_x0 n p0l p5 p6 b0 zBG zBH) k_x0
theorem zcd {β:Type} (xc:xq) (xe:yG) (L:Nat) (K:KT β):∀ (n:Nat) (p0l:Nat) (p5 p6:Int) (b0:List V) (zBG:Int) (zBH:List (List V)),yR (yu yy (xy xc xe L) 3 L yN) z6 n (xT p0l p5 p6 b0 zBG zBH) K=xE xc xe L (fun p0l p5 b0 zBG zBH=>K (.exit 0) (zbi p0l p5 b0 zBG zBH)) n p0l p5 p6 b0 zBG zBH:=by
 intro n
 induction n with
 | zero=>intros; rfl
 | succ n ih =>
  intro p0l p5 p6 b0 zBG zBH
  refine (zeI xc xe L p0l p5 p6 b0 zBG zBH (fun σ=>yR (yu yy (xy xc xe L) 3 L yN) z6 n σ K) K).trans ?_
  simp only [ih]
  rfl
def yX {β:Type} (xc:xq) (xe:yG) (L:Nat) (p0l:Nat) (b0:List V) (zBG:Int) (zBH:List (List V)) (k_fin:Nat→List V→Int→List (List V)→Option β):Option β :=
 zaJ xc xe L p0l b0 zBG zBH k_fin (fun p0l p5 p6 b0 zBG zBH=>xE xc xe L (fun p0l p5 b0 zBG zBH=>yW xc xe L p0l p5 b0 zBG zBH k_fin) L p0l p5 p6 b0 zBG zBH)
theorem zfy {β:Type} (xc:xq) (xe:yG) (L:Nat) (p0l:Nat) (b0:List V) (zBG:Int) (zBH:List (List V)) (k:KK β):xH yy (xy xc xe L) L xI [(V.own 0 0 p0l 35),(V.fn 368 [(V.ptr 1 0),(V.ptr 2 0)])] [(.live true b0),(.live true [(V.sc (.int .u32 zBG))]),(.live false [(V.gs 32 zBH)])] k=yX xc xe L p0l b0 zBG zBH (fun p0l b0 zBG zBH=>k (V.own 0 0 p0l 35) [(.live true b0),(.live true [(V.sc (.int .u32 zBG))]),(.live false [(V.gs 32 zBH)])]):=by
 refine (zfB xc xe L p0l b0 zBG zBH k).trans ?_
 unfold yX
 first
  | (simp only [zcd,zeh]; done)
  | (simp only [zcd]; rfl)
abbrev zaH:=∀ (β:Type),Nat→Nat→List V→Int→List (List V)→(Nat→List V→Int→List (List V)→Option β)→Option β
def xi (β:Type) (L:Nat) (p0l:Nat) (b0:List V) (zBG:Int) (zBH:List (List V)) (k_fin:Nat→List V→Int→List (List V)→Option β):Option β:=yX xc xe L p0l b0 zBG zBH k_fin
def zaI (xi:zaH) (L:Nat) (β:Type) (args:List V) (bor:Bor) (k:KK β):Option β:=match args,bor with
 | [a0,a1],[(.live true b0),(.live true [w1_0]),(.live false [w2_0])]=>aO0 0 35 a0 fun p0l=>aF 368 [(1,0),(2,0)] a1 (aI .u32 w1_0 fun zBG=>aGs 32 w2_0 fun zBH=>xi β L p0l b0 zBG zBH (fun p0l b0 zBG zBH=>k (V.own 0 0 p0l 35) [(.live true b0),(.live true [(V.sc (.int .u32 zBG))]),(.live false [(V.gs 32 zBH)])]))
 | _,_=>none
theorem zfz (L:Nat) (β:Type) (args:List V) (bor:Bor) (k:KK β) (r:β) (h:zaI xi L β args bor k=some r):xH yy (xy xc xe L) L xI args bor k=some r:=by
 unfold zaI at h
 split at h
 ·have q:=zjK h; clear h; obtain ⟨p0l,rfl,h⟩:=q
  have q:=zrX h; clear h; obtain ⟨rfl,h⟩:=q
  have q:=zcp h; clear h; obtain ⟨zBG,rfl,h⟩:=q
  have q:=zsZ h; clear h; obtain ⟨zBH,rfl,h⟩:=q
  exact (zfy xc xe L p0l _ zBG zBH k).trans h
 ·cases h
def zjo:CF:=⟨22,[.cellS 4 5 true,.tmpP 5],
 (.seq (.reg [oo 2 (.box false (tq 0)),
   oo 3 (.box true (tq 1)),
   oo 4 (.alloc false [(.sc (.int .u32 0)),(.sc (.bool false)),(.gs 1 []),(.gs 35 []),(.gs 32 [])]),
   oo 5 (.move (.const (.gs 32 [])) true)])
 (.seq (.reg [oo 8 (.load true 5 (tq 2) false),
   oo 9 (.call 356 [((tq 8),1)] []),
   oo 6 (.move (tq 9) false)])
 (.seq (.reg [oo 10 (.load true 5 (tq 2) false),
   oo 11 (.call 358 [((tq 10),1)] [13,15,19]),
   oz (.store 5 (tq 2) (tq 11))])
 (.seq (.seq (.reg [oo 12 (.move (tq 6) false),
   oo 13 (.un .not (tq 12))])
 (.cond (tq 13)
 (.seq (.reg [oo 14 (.load true 5 (tq 2) true),
   oz (.store 5 (tq 4) (tq 14)),
   oo 5 (.move (.const (.gs 32 [])) true)])
 .ret)
 .skip))
 (.seq (.reg [oo 7 (.alloc false [(.gs 32 [])])])
 (.seq (.reg [oo 15 (.fieldAddr 3 (tq 2)),
   oo 16 (.load false 1 (tq 15) false),
   oo 17 (.makeFunc 368 [(tq 3),(tq 7)]),
   oo 18 (.call 367 [((tq 16),2),((tq 17),2)] []),
   oo 19 (.fieldAddr 3 (tq 2)),
   oz (.store 1 (tq 19) (tq 18))])
 (.seq (.dreg [] [(oo 20 (.load true 5 (tq 2) true),ql 2 [7] []),
   (oo 21 (.load false 1 (tq 7) false),ql 7 [2,4] []),
   (oz (.store 5 (tq 4) (tq 20)),ql 4 [7] []),
   (oo 5 (.move (tq 21) true),q0)])
 .ret)))))))⟩
def znr:Hint:=⟨[(0,3),(4,0),(4,2),(6,3),(7,0),(7,3)],[],[none,none,none],[],[(2,1,[13,15,19])],true,true⟩
def zl6:Nat→Sh:=zay [(2,(.row [(.int .u32),.bool,(.sl 1),(.sl 35),(.sl 32)]))]
def zl1 (zr:zb8) (yl:zbL) (xi:zaH) (L:Nat):CBC:=(zI 367 (zaI xi L) (zI 358 (zek yl L) (zI 356 (zeP zr L) noC)))
def zmV {β:Type} (zr:zb8) (yl:zbL) (xi:zaH) (L:Nat) (p0:List V) (p1:Int) (k_fin:List V→List (List V)→Option β) (k_finv1:List V→List (List V)→Option β):Option β :=
 chk (List.length p0=5) (
 cI .u32 p0 0 fun v0 =>
 cB p0 1 fun v1 =>
 cL 1 p0 2 fun v2 =>
 cL 35 p0 3 fun v3 =>
 cL 32 p0 4 fun v4 =>
 zr β L [(V.sc (.int .u32 v0)),(V.sc (.bool v1)),(V.sl 1 v2),(V.sl 35 v3),(V.sl 32 v4)] (fun v5 =>
 yl β L [(V.sc (.int .u32 v0)),(V.sc (.bool v1)),(V.sl 1 v2),(V.sl 35 v3),(V.sl 32 v4)] (fun v6 v7 v8 v9 v10 v11 v12 v13 =>
 ifb (!v5) (
 k_fin [(V.sc (.int .u32 v6)),(V.sc (.bool v7)),(V.sl 1 (xb 1 v8 v11)),(V.sl 35 (xb 35 v9 v12)),(V.sl 32 (xb 32 v10 v13))] ([]:List (List V))) (
 xi β L v9 v12 p1 ([]:List (List V)) (fun v14 v15 v16 v17 =>
 chk ([(List.length v15),1,1]=[(List.length v12),1,1]) (
 k_finv1 [(V.sc (.int .u32 v6)),(V.sc (.bool v7)),(V.sl 1 (xb 1 v8 v11)),(V.sl 35 (xb 35 v14 v15)),(V.sl 32 (xb 32 v10 v13))] v17))))))
theorem zsN {β:Type} (zr:zb8) (yl:zbL) (xi:zaH) (L:Nat) (p0:List V) (p1:Int) (k:KK β):xH zl6 (zl1 zr yl xi L) L zjo [(V.agg p0),(V.sc (.int .u32 p1))] [] k=zmV zr yl xi L p0 p1 (fun zBO zBP=>k (V.tup [(V.agg zBO),(V.gs 32 zBP)]) []) (fun zBO zBP=>k (V.tup [(V.agg zBO),(V.sl 32 zBP)]) []):=by kernel_rfl
abbrev xn:=∀ (β:Type),Nat→List V→Int→(List V→List (List V)→Option β)→(List V→List (List V)→Option β)→Option β
def yd (β:Type) (L:Nat) (p0:List V) (p1:Int) (k_fin:List V→List (List V)→Option β) (k_finv1:List V→List (List V)→Option β):Option β:=zmV zr yl xi L p0 p1 k_fin k_finv1
def zhK (yd:xn) (L:Nat) (β:Type) (args:List V) (bor:Bor) (k:KK β):Option β:=match args,bor with
 | [a0,a1],[]=>aG a0 fun p0=>aI .u32 a1 fun p1=>yd β L p0 p1 (fun zBO zBP=>k (V.tup [(V.agg zBO),(V.gs 32 zBP)]) []) (fun zBO zBP=>k (V.tup [(V.agg zBO),(V.sl 32 zBP)]) [])
 | _,_=>none
theorem zsX (L:Nat) (β:Type) (args:List V) (bor:Bor) (k:KK β) (r:β) (h:zhK yd L β args bor k=some r):xH zl6 (zl1 zr yl xi L) L zjo args bor k=some r:=by
 unfold zhK at h
 split at h
 ·have q:=zdX h; clear h; obtain ⟨p0,rfl,h⟩:=q
  have q:=zcp h; clear h; obtain ⟨p1,rfl,h⟩:=q
  exact (zsN zr yl xi L p0 p1 k).trans h
 ·cases h
def znO:CC:=(.seq (.seq (.reg [oo 16 (.move (tq 8) false),
   oo 17 (.fieldAddr 3 (tq 2)),
   oo 18 (.load false 1 (tq 17) false),
   oo 19 (.lenS (tq 18)),
   oo 20 (.bin .lss (tq 16) (tq 19))])
 (.cond (tq 20)
 .skip
 (.seq (.mask (bl 208 52) (bl 4080562528059131 52))
 (.exit 0))))
 (.seq (.block 1 (.seq (.reg [oo 23 (.fieldAddr 3 (tq 2)),
   oo 24 (.load false 1 (tq 23) false),
   oo 25 (.move (tq 8) false),
   oo 26 (.indexAddrS 35 (tq 24) (tq 25)),
   oo 27 (.fieldAddr 34 (tq 26)),
   oo 28 (.load false 1 (tq 27) false),
   oo 29 (.move (tq 1) false),
   oo 30 (.bin .leq (tq 28) (tq 29))])
 (.cond (tq 30)
 (.reg [oo 31 (.move (tq 7) true),
   oo 32 (.fieldAddr 3 (tq 2)),
   oo 33 (.load false 1 (tq 32) false),
   oo 34 (.move (tq 8) false),
   oo 35 (.indexAddrS 35 (tq 33) (tq 34)),
   oo 36 (.fieldAddr 0 (tq 35)),
   oo 37 (.load true 32 (tq 36) false),
   oo 38 (.buildSlice 32 1 (rp 32 (.sc (.int .u8 0)) []) [(0,32,(tq 37))]),
   oo 39 (.append 32 32 (tq 31) (tq 38)),
   oo 7 (.move (tq 39) true)])
 (.dreg [] [(oo 40 (.fieldAddr 3 (tq 6)),q0),
   (oo 41 (.load false 1 (tq 40) true),ql 6 [2] [47]),
   (oo 42 (.fieldAddr 3 (tq 2)),q0),
   (oo 43 (.load false 1 (tq 42) false),ql 2 [6] []),
   (oo 44 (.move (tq 8) false),q0),
   (oo 45 (.indexAddrS 35 (tq 43) (tq 44)),q0),
   (oo 46 (.load true 35 (tq 45) false),qc [6] []),
   (oo 47 (.buildSlice 35 1 (rp 32 (.sc (.int .u8 0)) (rp 2 (.sc (.int .i64 0)) (rp 1 (.sc (.int .u32 0)) []))) [(0,35,(tq 46))]),qn [6] []),
   (oo 48 (.append 35 56 (tq 41) (tq 47)),q0),
   (oo 49 (.fieldAddr 3 (tq 6)),q0),
   (oz (.store 1 (tq 49) (tq 48)),q0)]))))
 (.reg [oo 21 (.move (tq 8) false),
   oo 22 (.bin .add (tq 21) (.const (.sc (.int .i64 1)))),
   oo 8 (.move (tq 22) false)])))
def zqz:CC:=(.seq (.reg [oo 50 (.load true 5 (tq 6) true),
   oo 51 (.move (tq 7) true),
   oz (.store 5 (tq 4) (tq 50)),
   oo 5 (.move (tq 51) true)])
 .ret)
def zo2:CF:=⟨52,[.cellS 4 5 true,.tmpP 5],
 (.seq (.reg [oo 2 (.box true (tq 0)),
   oo 4 (.alloc false [(.sc (.int .u32 0)),(.sc (.bool false)),(.gs 1 []),(.gs 35 []),(.gs 32 [])]),
   oo 5 (.move (.const (.gs 32 [])) true)])
 (.seq (.reg [oo 9 (.load true 5 (tq 2) false),
   oo 10 (.call 355 [((tq 9),1)] [13,15,17]),
   oo 6 (.alloc false [(.sc (.int .u32 0)),(.sc (.bool false)),(.gs 1 []),(.gs 35 []),(.gs 32 [])]),
   oz (.store 5 (tq 6) (tq 10))])
 (.seq (.seq (.reg [oo 11 (.load true 5 (tq 2) false),
   oo 12 (.call 362 [((tq 11),1)] []),
   oo 13 (.un .not (tq 12))])
 (.cond (tq 13)
 (.seq (.reg [oo 14 (.load true 5 (tq 6) true),
   oz (.store 5 (tq 4) (tq 14)),
   oo 5 (.move (.const (.gs 32 [])) true)])
 .ret)
 .skip))
 (.seq (.reg [oo 7 (.move (.const (.gs 32 [])) true)])
 (.seq (.reg [oo 15 (.fieldAddr 3 (tq 6)),
   oz (.store 1 (tq 15) (.const (.gs 35 [])))])
 (.seq (.seq (.reg [oo 8 (.move (.const (.sc (.int .i64 0))) false)])
 (.block 0 (.loop (bl 470 52) (bl 4080562528059391 52)
 znO)))
 zqz))))))⟩
def znD:Hint:=⟨[(0,0),(0,2),(3,0),(3,2),(4,0),(10,0),(10,9),(11,1),(12,0),(12,1),(12,3)],[],[none,none,none,some ((bl 470 52),(bl 4080562528059391 52)),none,some ((bl 208 52),(bl 4080562528059131 52)),none,none,none],[],[(1,1,[13,15,17])],true,true⟩
def zAz:Nat→Sh:=zay [(18,(.sl 35)),(24,(.sl 35)),(28,(.int .u32)),(33,(.sl 35)),(43,(.sl 35))]
def zAu (zu:zaz) (yD:zbH) (L:Nat):CBC:=(zI 362 (zkQ yD L) (zI 355 (zhb zu L) noC))
def zxm:St→St:=zab 0 (bl 470 52) (bl 4080562528059391 52)
def zvH (p1:Int) (p7:List (List V)) (p8:Int) (b2:List V) (zBT:Int) (zBU:Bool) (zBQ zBR zBS:List (List V)) (zB9:Int) (zCa:Bool) (zB3:Nat) (zB8:List (List V)) (zB4:Nat) (b13 b15 b17:List V):St:=⟨(jn 1 ((V.sc (.int .u32 p1))::((V.ptr 2 0)::(jn 1 ((V.ptr 4 0)::(jn 1 ((V.ptr 6 0)::((V.gs 32 p7)::((V.sc (.int .i64 p8))::(jn 43 [])))))))))),(gn 2 ((.live true b2)::(gn 1 ((.live false [(V.sc (.int .u32 zBT)),(V.sc (.bool zBU)),(V.gs 1 zBQ),(V.gs 35 zBR),(V.gs 32 zBS)])::(gn 1 ((.live false [(V.sc (.int .u32 zB9)),(V.sc (.bool zCa)),(V.own 13 0 zB3 1),(V.gs 35 zB8),(V.own 17 0 zB4 32)])::(gn 6 ((.live true b13)::(gn 1 ((.live true b15)::(gn 1 ((.live true b17)::(gn 34 [])))))))))))))⟩
def zzm (p7:List (List V)) (zBT:Int) (zBU:Bool) (zBQ zBR zBS:List (List V)) (zB9:Int) (zCa:Bool) (zB3:Nat) (zB8:List (List V)) (zB4:Nat) (b13 b15 b17:List V):St:=⟨(jn 4 ((V.ptr 4 0)::(jn 1 ((V.ptr 6 0)::((V.gs 32 p7)::(jn 44 [])))))),(gn 4 ((.live false [(V.sc (.int .u32 zBT)),(V.sc (.bool zBU)),(V.gs 1 zBQ),(V.gs 35 zBR),(V.gs 32 zBS)])::(gn 1 ((.live false [(V.sc (.int .u32 zB9)),(V.sc (.bool zCa)),(V.own 13 0 zB3 1),(V.gs 35 zB8),(V.own 17 0 zB4 32)])::(gn 6 ((.live true b13)::(gn 1 ((.live true b15)::(gn 1 ((.live true b17)::(gn 34 [])))))))))))⟩
abbrev zi0 (β:Type):Type:=Int→List (List V)→Int→List V→Int→Bool→List (List V)→List (List V)→List (List V)→Int→Bool→Nat→List (List V)→Nat→List V→List V→List V→Option β
abbrev zow (β:Type):Type:=List (List V)→Int→Bool→List (List V)→List (List V)→List (List V)→Int→Bool→Nat→List (List V)→Nat→List V→List V→List V→Option β
def zvX {β:Type} (zu:zaz) (yD:zbH) (L:Nat) (p0:List V) (p1:Int) (k_fin:List V→List (List V)→Option β) (k_hbbbbbaba:zi0 β):Option β :=
 chk (0+5≤(List.length p0)) (
 zu β L (List.map V.dem (List.take 5 p0)) (fun v0 v1 v2 v3 v4 v5 v6 v7 =>
 chk (0+5≤(List.length p0)) (
 yD β L (List.map V.dem (List.take 5 p0)) (fun v8 =>
 ifb (!v8) (
 k_fin [(V.sc (.int .u32 v0)),(V.sc (.bool v1)),(V.sl 1 (xb 1 v2 v5)),(V.sl 35 (xb 35 v3 v6)),(V.sl 32 (xb 32 v4 v7))] ([]:List (List V))) (
 k_hbbbbbaba p1 ([]:List (List V)) (0:Int) p0 (0:Int) false ([]:List (List V)) ([]:List (List V)) ([]:List (List V)) v0 v1 v2 ([]:List (List V)) v4 v5 v6 v7)))))
def zoL {β:Type} (zu:zaz) (yD:zbH) (L:Nat) (p1:Int) (p7:List (List V)) (p8:Int) (b2:List V) (zBT:Int) (zBU:Bool) (zBQ zBR zBS:List (List V)) (zB9:Int) (zCa:Bool) (zB3:Nat) (zB8:List (List V)) (zB4:Nat) (b13 b15 b17:List V) (k_hbbbbbaba:zi0 β) (k_x0:zow β):Option β :=
 cLd 35 b2 3 fun v9 =>
 ifb (decide (p8 < ((List.length v9:Nat):Int))) (
 cLd 35 b2 3 fun v10 =>
 idx v10 p8 fun c11 =>
 cI .u32 (List.drop 34 c11) 0 fun v12 =>
 ifb (decide (v12≤p1)) (
 cLd 35 b2 3 fun v13 =>
 idx v13 p8 fun c14 =>
 chk ((List.length (List.take 32 c14))=32∧0+32≤32) (
 chk ((List.length p7+List.length (xb 32 1 (ya (List.replicate 32 (V.sc (.int .u8 (0:Int)))) 0 (List.take 32 c14)))) * 32≤yi∧List.length p7+List.length (xb 32 1 (ya (List.replicate 32 (V.sc (.int .u8 (0:Int)))) 0 (List.take 32 c14)))≤yi) (
 lt (p7++(xb 32 1 (ya (List.replicate 32 (V.sc (.int .u8 (0:Int)))) 0 (List.take 32 c14)))) fun l15 =>
 lt (IntKind.wrap .i64 ((p8:Int)+(1:Int))) fun x16 =>
 k_hbbbbbaba p1 l15 x16 b2 zBT zBU zBQ zBR zBS zB9 zCa zB3 zB8 zB4 b13 b15 b17))) (
 cLd 35 b2 3 fun v17 =>
 idx v17 p8 fun c18 =>
 chk ((List.length (List.take 35 c18))=35∧0+35≤35) (
 chk ((List.length zB8+List.length (xb 35 1 (ya (List.replicate 32 (V.sc (.int .u8 (0:Int)))++[(V.sc (.int .i64 (0:Int))),(V.sc (.int .i64 (0:Int))),(V.sc (.int .u32 (0:Int)))]) 0 (List.take 35 c18)))) * 56≤yi∧List.length zB8+List.length (xb 35 1 (ya (List.replicate 32 (V.sc (.int .u8 (0:Int)))++[(V.sc (.int .i64 (0:Int))),(V.sc (.int .i64 (0:Int))),(V.sc (.int .u32 (0:Int)))]) 0 (List.take 35 c18)))≤yi) (
 lt (zB8++(xb 35 1 (ya (List.replicate 32 (V.sc (.int .u8 (0:Int)))++[(V.sc (.int .i64 (0:Int))),(V.sc (.int .i64 (0:Int))),(V.sc (.int .u32 (0:Int)))]) 0 (List.take 35 c18)))) fun l19 =>
 lt (IntKind.wrap .i64 ((p8:Int)+(1:Int))) fun x20 =>
 k_hbbbbbaba p1 p7 x20 b2 zBT zBU zBQ zBR zBS zB9 zCa zB3 l19 zB4 b13 b15 b17)))) (
 k_x0 p7 zBT zBU zBQ zBR zBS zB9 zCa zB3 zB8 zB4 b13 b15 b17)
def znq {β:Type} (zu:zaz) (yD:zbH) (L:Nat) (p7:List (List V)) (zBT:Int) (zBU:Bool) (zBQ zBR zBS:List (List V)) (zB9:Int) (zCa:Bool) (zB3:Nat) (zB8:List (List V)) (zB4:Nat) (b13 b15 b17:List V) (k_fin:List V→List (List V)→Option β):Option β :=
 k_fin [(V.sc (.int .u32 zB9)),(V.sc (.bool zCa)),(V.sl 1 (xb 1 zB3 b13)),(V.sl 35 zB8),(V.sl 32 (xb 32 zB4 b17))] p7
def zjw {β:Type} (zu:zaz) (yD:zbH) (L:Nat) (k_x0:zow β):Nat→Int→List (List V)→Int→List V→Int→Bool→List (List V)→List (List V)→List (List V)→Int→Bool→Nat→List (List V)→Nat→List V→List V→List V→Option β
 | 0,_,_,_,_,_,_,_,_,_,_,_,_,_,_,_,_,_=>none
 | n+1,p1,p7,p8,b2,zBT,zBU,zBQ,zBR,zBS,zB9,zCa,zB3,zB8,zB4,b13,b15,b17=>zoL zu yD L p1 p7 p8 b2 zBT zBU zBQ zBR zBS zB9 zCa zB3 zB8 zB4 b13 b15 b17 (fun p1 p7 p8 b2 zBT zBU zBQ zBR zBS zB9 zCa zB3 zB8 zB4 b13 b15 b17=>zjw zu yD L k_x0 n p1 p7 p8 b2 zBT zBU zBQ zBR zBS zB9 zCa zB3 zB8 zB4 b13 b15 b17) k_x0
def zvI {β:Type} (zu:zaz) (yD:zbH) (L:Nat) (p0:List V) (p1:Int) (k_fin:List V→List (List V)→Option β):Option β :=
 zvX zu yD L p0 p1 k_fin (fun p1 p7 p8 b2 zBT zBU zBQ zBR zBS zB9 zCa zB3 zB8 zB4 b13 b15 b17=>zjw zu yD L (fun p7 zBT zBU zBQ zBR zBS zB9 zCa zB3 zB8 zB4 b13 b15 b17=>znq zu yD L p7 zBT zBU zBQ zBR zBS zB9 zCa zB3 zB8 zB4 b13 b15 b17 k_fin) L p1 p7 p8 b2 zBT zBU zBQ zBR zBS zB9 zCa zB3 zB8 zB4 b13 b15 b17)
abbrev z9:=∀ (β:Type),Nat→List V→Int→(List V→List (List V)→Option β)→Option β
def zw (β:Type) (L:Nat) (p0:List V) (p1:Int) (k_fin:List V→List (List V)→Option β):Option β:=zvI zu yD L p0 p1 k_fin
def zvJ (zw:z9) (L:Nat) (β:Type) (args:List V) (bor:Bor) (k:KK β):Option β:=match args,bor with
 | [a0,a1],[]=>aG a0 fun p0=>aI .u32 a1 fun p1=>zw β L p0 p1 (fun zBO zBP=>k (V.tup [(V.agg zBO),(V.gs 32 zBP)]) [])
 | _,_=>none
def zhl:CC:=(.seq (.reg [oo 50 (.bin .lss (tq 49) (tq 48))])
 (.seq (.cond (tq 50)
 .skip
 (.seq (.mask (bl 481036345428 108) (bl 324518553656032757336433918768127 108))
 (.exit 2)))
 (.seq (.block 3 (.seq (.reg [oo 51 (.indexAddrS 32 (tq 47) (tq 49)),
   oo 52 (.load true 32 (tq 51) false),
   oo 15 (.alloc true (rp 32 (.sc (.int .u8 0)) [])),
   oz (.store 32 (tq 15) (tq 52))])
 (.seq (.reg [oo 54 (.load true 5 (tq 13) false),
   oo 55 (.load true 32 (tq 15) false),
   oo 56 (.call 348 [((tq 54),1),((tq 55),0)] []),
   oo 53 (.move (tq 56) true),
   oo 57 (.pull (tq 53) 0),
   oo 58 (.pull (tq 53) 1),
   oo 16 (.alloc true [(.sc (.int .u32 0)),(.sc (.bool false)),(.gs 1 []),(.gs 35 []),(.gs 32 [])]),
   oz (.store 5 (tq 16) (tq 57)),
   oo 17 (.move (tq 58) false)])
 (.seq (.reg [oo 60 (.load true 5 (tq 13) false),
   oo 61 (.load true 32 (tq 15) false),
   oo 62 (.call 349 [((tq 60),1),((tq 61),0)] []),
   oo 59 (.move (tq 62) true),
   oo 63 (.pull (tq 59) 0),
   oo 64 (.pull (tq 59) 1),
   oo 18 (.alloc true [(.sc (.int .u32 0)),(.sc (.bool false)),(.gs 1 []),(.gs 35 []),(.gs 32 [])]),
   oz (.store 5 (tq 18) (tq 63)),
   oo 19 (.move (tq 64) false)])
 (.seq (.reg [oo 65 (.move (tq 17) false),
   oo 66 (.move (tq 19) false),
   oo 67 (.bin .neq (tq 65) (tq 66)),
   oo 68 (.move (tq 67) false),
   ⟨(some 69),false,(some (68,false)),.load true 5 (tq 16) false⟩,
   ⟨(some 70),false,(some (68,false)),.load true 5 (tq 18) false⟩,
   ⟨(some 71),false,(some (68,false)),.call 343 [((tq 69),1),((tq 70),1)] []⟩,
   ⟨(some 72),false,(some (68,false)),.un .not (tq 71)⟩,
   oo 73 (.pick (tq 68) (.const (.sc (.bool true))) (tq 72))])
 (.cond (tq 73)
 (.seq (.reg [oo 10 (.move (.const (.sc (.bool false))) false)])
 (.seq (.mask (bl 1024 108) (bl 313990027457721143620174653446079 108))
 .ret))
 .skip))))))
 (.reg [oo 74 (.bin .add (tq 49) (.const (.sc (.int .i64 1)))),
   oo 49 (.move (tq 74) false)]))))
def zhf:CC:=(.seq (.reg [oo 81 (.bin .lss (tq 80) (tq 79))])
 (.seq (.cond (tq 81)
 .skip
 (.seq (.mask (bl 481036337236 108) (bl 313990028366809478217673266058239 108))
 (.exit 4)))
 (.seq (.block 5 (.seq (.reg [oo 82 (.indexAddrS 1 (tq 78) (tq 80)),
   oo 83 (.load false 1 (tq 82) false),
   oo 21 (.move (tq 83) false)])
 (.seq (.reg [oo 85 (.load true 5 (tq 13) false),
   oo 86 (.move (tq 21) false),
   oo 87 (.call 350 [((tq 85),1),((tq 86),0)] []),
   oo 84 (.move (tq 87) true),
   oo 88 (.pull (tq 84) 0),
   oo 89 (.extract (tq 84) 1),
   oo 22 (.alloc true [(.sc (.int .u32 0)),(.sc (.bool false)),(.gs 1 []),(.gs 35 []),(.gs 32 [])]),
   oz (.store 5 (tq 22) (tq 88)),
   oo 23 (.move (tq 89) false)])
 (.seq (.reg [oo 91 (.load true 5 (tq 13) false),
   oo 92 (.move (tq 21) false),
   oo 93 (.call 351 [((tq 91),1),((tq 92),0)] []),
   oo 90 (.move (tq 93) true),
   oo 94 (.pull (tq 90) 0),
   oo 95 (.extract (tq 90) 1),
   oo 24 (.alloc true [(.sc (.int .u32 0)),(.sc (.bool false)),(.gs 1 []),(.gs 35 []),(.gs 32 [])]),
   oz (.store 5 (tq 24) (tq 94)),
   oo 25 (.move (tq 95) false)])
 (.seq (.reg [oo 96 (.load true 5 (tq 22) false),
   oo 97 (.load true 5 (tq 24) false),
   oo 98 (.call 343 [((tq 96),1),((tq 97),1)] []),
   oo 99 (.un .not (tq 98)),
   oo 100 (.move (tq 99) false),
   ⟨(some 101),false,(some (100,false)),.move (tq 23) false⟩,
   ⟨(some 102),false,(some (100,false)),.move (tq 25) false⟩,
   ⟨(some 103),false,(some (100,false)),.call 352 [((tq 101),0),((tq 102),0)] []⟩,
   ⟨(some 104),false,(some (100,false)),.un .not (tq 103)⟩,
   oo 105 (.pick (tq 100) (.const (.sc (.bool true))) (tq 104))])
 (.cond (tq 105)
 (.seq (.reg [oo 10 (.move (.const (.sc (.bool false))) false)])
 (.seq (.mask (bl 1024 108) (bl 313990027457721143620174653446079 108))
 .ret))
 .skip))))))
 (.reg [oo 106 (.bin .add (tq 80) (.const (.sc (.int .i64 1)))),
   oo 80 (.move (tq 106) false)]))))
def zid:CC:=(.seq (.reg [oo 75 (.move (tq 2) false),
   oo 76 (.move (tq 2) false),
   oo 77 (.bin .rem (tq 76) (.const (.sc (.int .u32 60)))),
   oo 78 (.buildSlice 1 2 [(.sc (.int .u32 0))] [(0,1,(tq 75)),(1,1,(tq 77))]),
   oo 79 (.lenS (tq 78)),
   oo 80 (.move (.const (.sc (.int .i64 0))) false)])
 (.block 4 (.loop (bl 2115620184326082092081236 108) (bl 313990028366809478217673266066431 108)
 zhf)))
def zjt:CC:=(.reg [oo 107 (.bin .add (tq 38) (.const (.sc (.int .i64 1)))),
   oo 38 (.move (tq 107) false)])
def zk1:CC:=(.seq (.reg [oo 39 (.bin .lss (tq 38) (tq 37))])
 (.seq (.cond (tq 39)
 .skip
 (.seq (.mask (bl 0 108) (bl 313990027457721143620174653445055 108))
 (.exit 0)))
 (.seq (.block 1 (.seq (.reg [oo 40 (.indexAddrS 5 (tq 36) (tq 38)),
   oo 41 (.load true 5 (tq 40) false),
   oo 13 (.alloc true [(.sc (.int .u32 0)),(.sc (.bool false)),(.gs 1 []),(.gs 35 []),(.gs 32 [])]),
   oz (.store 5 (tq 13) (tq 41))])
 (.seq (.seq (.dreg [] [(oo 42 (.load true 32 (tq 6) false),ql 6 [] []),
   (oo 43 (.move (tq 4) false),q0),
   (oo 44 (.call 217 [((tq 43),0),((.const (.sc (.int .i64 10))),0)] []),qc [6] []),
   (oo 45 (.conv .u8 (tq 44)),q0),
   (oo 46 (.build (rp 32 (.sc (.int .u8 0)) []) [(0,1,(tq 45))]),q0),
   (oo 47 (.buildSlice 32 2 (rp 32 (.sc (.int .u8 0)) []) [(0,32,(tq 42)),(32,32,(tq 46))]),q0),
   (oo 48 (.lenS (tq 47)),q0),
   (oo 49 (.move (.const (.sc (.int .i64 0))) false),q0)])
 (.block 2 (.loop (bl 985643454832724 108) (bl 324518553656032757336433918768127 108)
 zhl)))
 zid)))
 zjt)))
def zml:CC:=(.seq (.reg [oo 10 (.move (.const (.sc (.bool true))) false)])
 .ret)
def ziS:CF:=⟨108,[.tmp 10],
 (.seq (.reg [oo 6 (.box true (tq 1)),
   oo 10 (.move (.const (.sc (.bool false))) false)])
 (.seq (.seq (.reg [oo 26 (.call 332 [] []),
   oo 27 (.un .not (tq 26))])
 (.cond (tq 27)
 (.seq (.reg [oo 10 (.move (.const (.sc (.bool false))) false)])
 .ret)
 .skip))
 (.seq (.reg [oo 28 (.move (tq 0) false),
   oo 29 (.call 225 [((tq 28),0)] []),
   oo 30 (.call 339 [((tq 29),0)] []),
   oo 11 (.alloc true [(.sc (.int .u32 0)),(.sc (.bool false)),(.gs 1 []),(.gs 35 []),(.gs 32 [])]),
   oz (.store 5 (tq 11) (tq 30))])
 (.seq (.seq (.dreg [] [(oo 31 (.load true 5 (tq 11) false),ql 11 [] []),
   (oo 32 (.load true 5 (tq 11) false),ql 11 [] []),
   (oo 33 (.move (tq 3) false),q0),
   (oo 34 (.move (tq 4) false),q0),
   (oo 35 (.call 340 [((tq 32),1),((tq 33),0),((tq 34),0)] []),qc [11] []),
   (oo 36 (.buildSlice 5 2 [(.sc (.int .u32 0)),(.sc (.bool false)),(.sl 1 []),(.sl 35 []),(.sl 32 [])] [(0,5,(tq 31)),(5,5,(tq 35))]),q0),
   (oo 37 (.lenS (tq 36)),q0),
   (oo 38 (.move (.const (.sc (.int .i64 0))) false),q0)])
 (.block 0 (.loop (bl 481036337236 108) (bl 313990027457721143620174653445119 108)
 zk1)))
 zml))))⟩
def zhR:Hint:=⟨[(3,3),(6,2),(10,3),(10,6),(11,3),(11,6),(18,3),(18,5),(18,6),(19,3),(19,5),(19,6)],[],[none,none,none,some ((bl 481036337236 108),(bl 313990027457721143620174653445119 108)),none,some ((bl 0 108),(bl 313990027457721143620174653445055 108)),none,none,some ((bl 985643454832724 108),(bl 324518553656032757336433918768127 108)),none,some ((bl 481036345428 108),(bl 324518553656032757336433918768127 108)),none,none,some ((bl 1024 108),(bl 313990027457721143620174653446079 108)),none,some ((bl 2115620184326082092081236 108),(bl 313990028366809478217673266066431 108)),none,some ((bl 481036337236 108),(bl 313990028366809478217673266058239 108)),none,none,some ((bl 1024 108),(bl 313990027457721143620174653446079 108)),none],[],[],false,false⟩
def zwZ:Nat→Sh:=zay [(83,(.int .u32))]
def zwu (xa:zi) (zc:xj) (yh:xx) (zg:xu) (xf:zA) (yb:yk) (zq:xQ) (xg:zy) (yd:xn) (zw:z9) (yf:yv) (L:Nat):CBC:=(zI 352 (zkD yf L) (zI 351 (zvJ zw L) (zI 350 (zhK yd L) (zI 343 (zph xg L) (zI 349 (ztS zq L) (zI 348 (zf8 yb L) (zI 217 (zfN xf L) (zI 340 (zoz zg L) (zI 339 (zpi yh L) (zI 225 (zhm zc L) (zI 332 (zfg xa L) noC)))))))))))
def zuq:St→St:=zab 0 (bl 481036337236 108) (bl 313990027457721143620174653445119 108)
def zqk:St→St:=zab 0 (bl 985643454832724 108) (bl 324518553656032757336433918768127 108)
def zqt:St→St:=zab 0 (bl 2115620184326082092081236 108) (bl 313990028366809478217673266066431 108)
def zs5 (p2 p4:Int) (p36:List (List V)) (p37 p38:Int) (b6:List V) (zBJ:List (List V)) (zBK:Int):St:=⟨(jn 2 ((V.sc (.int .u32 p2))::(jn 1 ((V.sc (.int .i64 p4))::(jn 1 ((V.ptr 6 0)::(jn 29 ((V.gs 5 p36)::((V.sc (.int .i64 p37))::((V.sc (.int .i64 p38))::(jn 69 []))))))))))),(gn 6 ((.live true b6)::(gn 22 ((.live false [(V.sl 1 zBJ),(V.sc (.int .i64 zBK))])::(gn 78 [])))))⟩
def zoY (p2 p4:Int) (p36:List (List V)) (p37 p38:Int) (p47:List (List V)) (p48 p49:Int) (b6 b13:List V) (zBJ:List (List V)) (zBK:Int):St:=⟨(jn 2 ((V.sc (.int .u32 p2))::(jn 1 ((V.sc (.int .i64 p4))::(jn 1 ((V.ptr 6 0)::(jn 6 ((V.ptr 13 0)::(jn 22 ((V.gs 5 p36)::((V.sc (.int .i64 p37))::((V.sc (.int .i64 p38))::(jn 8 ((V.gs 32 p47)::((V.sc (.int .i64 p48))::((V.sc (.int .i64 p49))::(jn 58 []))))))))))))))))),(gn 6 ((.live true b6)::(gn 6 ((.live true b13)::(gn 15 ((.live false [(V.sl 1 zBJ),(V.sc (.int .i64 zBK))])::(gn 78 [])))))))⟩
def zvx (zBJ:List (List V)) (zBK:Int):St:=⟨(jn 108 []),(gn 29 ((.live false [(V.sl 1 zBJ),(V.sc (.int .i64 zBK))])::(gn 78 [])))⟩
def zvf (p10:Bool) (zBJ:List (List V)) (zBK:Int):St:=⟨(jn 10 ((V.sc (.bool p10))::(jn 97 []))),(gn 29 ((.live false [(V.sl 1 zBJ),(V.sc (.int .i64 zBK))])::(gn 78 [])))⟩
def zvC (p2 p4:Int) (p36:List (List V)) (p37 p38:Int) (b6 b13:List V) (zBJ:List (List V)) (zBK:Int):St:=⟨(jn 2 ((V.sc (.int .u32 p2))::(jn 1 ((V.sc (.int .i64 p4))::(jn 1 ((V.ptr 6 0)::(jn 6 ((V.ptr 13 0)::(jn 22 ((V.gs 5 p36)::((V.sc (.int .i64 p37))::((V.sc (.int .i64 p38))::(jn 69 []))))))))))))),(gn 6 ((.live true b6)::(gn 6 ((.live true b13)::(gn 15 ((.live false [(V.sl 1 zBJ),(V.sc (.int .i64 zBK))])::(gn 78 [])))))))⟩
def zoZ (p2 p4:Int) (p36:List (List V)) (p37 p38:Int) (p78:List (List V)) (p79 p80:Int) (b6 b13:List V) (zBJ:List (List V)) (zBK:Int):St:=⟨(jn 2 ((V.sc (.int .u32 p2))::(jn 1 ((V.sc (.int .i64 p4))::(jn 1 ((V.ptr 6 0)::(jn 6 ((V.ptr 13 0)::(jn 22 ((V.gs 5 p36)::((V.sc (.int .i64 p37))::((V.sc (.int .i64 p38))::(jn 39 ((V.gs 1 p78)::((V.sc (.int .i64 p79))::((V.sc (.int .i64 p80))::(jn 27 []))))))))))))))))),(gn 6 ((.live true b6)::(gn 6 ((.live true b13)::(gn 15 ((.live false [(V.sl 1 zBJ),(V.sc (.int .i64 zBK))])::(gn 78 [])))))))⟩
def zvz (p2 p4:Int) (p36:List (List V)) (p37 p38:Int) (b6:List V) (zBJ:List (List V)) (zBK:Int):St:=⟨(jn 2 ((V.sc (.int .u32 p2))::(jn 1 ((V.sc (.int .i64 p4))::(jn 1 ((V.ptr 6 0)::(jn 29 ((V.gs 5 p36)::((V.sc (.int .i64 p37))::((V.sc (.int .i64 p38))::(jn 69 []))))))))))),(gn 6 ((.live true b6)::(gn 22 ((.live false [(V.sl 1 zBJ),(V.sc (.int .i64 zBK))])::(gn 78 [])))))⟩
abbrev zcM (β:Type):Type:=Int→Int→List (List V)→Int→Int→List V→List (List V)→Int→Option β
abbrev zdN (β:Type):Type:=Int→Int→List (List V)→Int→Int→List (List V)→Int→Int→List V→List V→List (List V)→Int→Option β
abbrev ziA (β:Type):Type:=Int→Int→List (List V)→Int→Int→List V→List V→List (List V)→Int→Option β
abbrev zdQ (β:Type):Type:=Int→Int→List (List V)→Int→Int→List (List V)→Int→Int→List V→List V→List (List V)→Int→Option β
abbrev zin (β:Type):Type:=Int→Int→List (List V)→Int→Int→List V→List (List V)→Int→Option β
def zoE {β:Type} (xa:zi) (zc:xj) (yh:xx) (zg:xu) (xf:zA) (yb:yk) (zq:xQ) (xg:zy) (yd:xn) (zw:z9) (yf:yv) (L:Nat) (p0:List (List V)) (p1:List V) (p2 p3 p4:Int) (k_fin:Bool→Option β) (k_hbbbaba:zcM β):Option β :=
 xa β L  (fun v0 =>
 ifb (!v0) (
 k_fin false) (
 zc β L p0 (fun v1 v2 =>
 yh β L v1 v2 (fun v3 v4 v5 =>
 chk ((List.length v3)=5∧0+5≤5) (
 lt (ya [(V.sc (.int .u32 (0:Int))),(V.sc (.bool false)),(V.gs 1 ([]:List (List V))),(V.gs 35 ([]:List (List V))),(V.gs 32 ([]:List (List V)))] 0 v3) fun r6 =>
 chk (0+5≤(List.length r6)) (
 chk (0+5≤(List.length r6)) (
 zg β L (List.map V.dem (List.take 5 r6)) p3 p4 (fun v7 =>
 chk ((List.length (List.take 5 r6))=5∧0+5≤10) (
 chk ((List.length v7)=5∧5+5≤(List.length (ya [(V.sc (.int .u32 (0:Int))),(V.sc (.bool false)),(V.sl 1 ([]:List (List V))),(V.sl 35 ([]:List (List V))),(V.sl 32 ([]:List (List V))),(V.sc (.int .u32 (0:Int))),(V.sc (.bool false)),(V.sl 1 ([]:List (List V))),(V.sl 35 ([]:List (List V))),(V.sl 32 ([]:List (List V)))] 0 (List.take 5 r6)))) (
 k_hbbbaba p2 p4 (xb 5 2 (ya (ya [(V.sc (.int .u32 (0:Int))),(V.sc (.bool false)),(V.sl 1 ([]:List (List V))),(V.sl 35 ([]:List (List V))),(V.sl 32 ([]:List (List V))),(V.sc (.int .u32 (0:Int))),(V.sc (.bool false)),(V.sl 1 ([]:List (List V))),(V.sl 35 ([]:List (List V))),(V.sl 32 ([]:List (List V)))] 0 (List.take 5 r6)) 5 v7)) ((List.length (xb 5 2 (ya (ya [(V.sc (.int .u32 (0:Int))),(V.sc (.bool false)),(V.sl 1 ([]:List (List V))),(V.sl 35 ([]:List (List V))),(V.sl 32 ([]:List (List V))),(V.sc (.int .u32 (0:Int))),(V.sc (.bool false)),(V.sl 1 ([]:List (List V))),(V.sl 35 ([]:List (List V))),(V.sl 32 ([]:List (List V)))] 0 (List.take 5 r6)) 5 v7)):Nat):Int) (0:Int) p1 v4 v5))))))))))
def zlq {β:Type} (xa:zi) (zc:xj) (yh:xx) (zg:xu) (xf:zA) (yb:yk) (zq:xQ) (xg:zy) (yd:xn) (zw:z9) (yf:yv) (L:Nat) (p2 p4:Int) (p36:List (List V)) (p37 p38:Int) (b6:List V) (zBJ:List (List V)) (zBK:Int) (k_hbbbabaabbaababa:zdN β) (k_x0:List (List V)→Int→Option β):Option β :=
 ifb (decide (p38 < p37)) (
 idx p36 p38 fun c8 =>
 chk ((List.length (List.take 5 c8))=5∧0+5≤5) (
 lt (ya [(V.sc (.int .u32 (0:Int))),(V.sc (.bool false)),(V.gs 1 ([]:List (List V))),(V.gs 35 ([]:List (List V))),(V.gs 32 ([]:List (List V)))] 0 (List.take 5 c8)) fun r9 =>
 chk (0+32≤(List.length b6)) (
 xf β L p4 (10:Int) (fun v10 =>
 lt (IntKind.wrap .u8 v10) fun x11 =>
 chk ((List.length (List.take 32 b6))=32∧0+32≤64) (
 chk (32=32∧32+32≤(List.length (ya (List.replicate 64 (V.sc (.int .u8 (0:Int)))) 0 (List.take 32 b6)))) (
 k_hbbbabaabbaababa p2 p4 p36 p37 p38 (xb 32 2 (ya (ya (List.replicate 64 (V.sc (.int .u8 (0:Int)))) 0 (List.take 32 b6)) 32 ([(V.sc (.int .u8 x11))]++List.replicate 31 (V.sc (.int .u8 (0:Int)))))) ((List.length (xb 32 2 (ya (ya (List.replicate 64 (V.sc (.int .u8 (0:Int)))) 0 (List.take 32 b6)) 32 ([(V.sc (.int .u8 x11))]++List.replicate 31 (V.sc (.int .u8 (0:Int)))))):Nat):Int) (0:Int) b6 r9 zBJ zBK)))))) (
 k_x0 zBJ zBK)
def zkj {β:Type} (xa:zi) (zc:xj) (yh:xx) (zg:xu) (xf:zA) (yb:yk) (zq:xQ) (xg:zy) (yd:xn) (zw:z9) (yf:yv) (L:Nat) (zBJ:List (List V)) (zBK:Int) (k_fin:Bool→Option β):Option β :=
 k_fin true
def zhC {β:Type} (xa:zi) (zc:xj) (yh:xx) (zg:xu) (xf:zA) (yb:yk) (zq:xQ) (xg:zy) (yd:xn) (zw:z9) (yf:yv) (L:Nat) (p2 p4:Int) (p36:List (List V)) (p37 p38:Int) (p47:List (List V)) (p48 p49:Int) (b6 b13:List V) (zBJ:List (List V)) (zBK:Int) (k_ret:Bool→List (List V)→Int→Option β) (k_hbbbabaabbaababa:zdN β) (k_x2:ziA β):Option β :=
 ifb (decide (p49 < p48)) (
 idx p47 p49 fun c12 =>
 chk ((List.length (List.take 32 c12))=32∧0+32≤32) (
 lt (ya (List.replicate 32 (V.sc (.int .u8 (0:Int)))) 0 (List.take 32 c12)) fun r13 =>
 chk (0+5≤(List.length b13)) (
 chk (0+32≤(List.length r13)) (
 yb β L (List.map V.dem (List.take 5 b13)) (List.take 32 r13) (fun v14 v15 =>
 chk ((List.length v14)=5∧0+5≤5) (
 lt (ya [(V.sc (.int .u32 (0:Int))),(V.sc (.bool false)),(V.gs 1 ([]:List (List V))),(V.gs 35 ([]:List (List V))),(V.gs 32 ([]:List (List V)))] 0 v14) fun r16 =>
 chk (0+5≤(List.length b13)) (
 chk (0+32≤(List.length r13)) (
 zq β L (List.map V.dem (List.take 5 b13)) (List.take 32 r13) (fun v17 v18 =>
 chk ((List.length v17)=5∧0+5≤5) (
 lt (ya [(V.sc (.int .u32 (0:Int))),(V.sc (.bool false)),(V.gs 1 ([]:List (List V))),(V.gs 35 ([]:List (List V))),(V.gs 32 ([]:List (List V)))] 0 v17) fun r19 =>
 ifb ((v15:Int) != v18) (
 k_ret false zBJ zBK) (
 chk (0+5≤(List.length r16)) (
 chk (0+5≤(List.length r19)) (
 xg β L (List.map V.dem (List.take 5 r16)) (List.map V.dem (List.take 5 r19)) (fun v20 =>
 ifb (!v20) (
 k_ret false zBJ zBK) (
 lt (IntKind.wrap .i64 ((p49:Int)+(1:Int))) fun x21 =>
 k_hbbbabaabbaababa p2 p4 p36 p37 p38 p47 p48 x21 b6 b13 zBJ zBK))))))))))))))) (
 k_x2 p2 p4 p36 p37 p38 b6 b13 zBJ zBK)
def zgx {β:Type} (xa:zi) (zc:xj) (yh:xx) (zg:xu) (xf:zA) (yb:yk) (zq:xQ) (xg:zy) (yd:xn) (zw:z9) (yf:yv) (L:Nat) (p10:Bool) (zBJ:List (List V)) (zBK:Int) (k_ret:Bool→List (List V)→Int→Option β):Option β :=
 k_ret p10 zBJ zBK
def zgS {β:Type} (xa:zi) (zc:xj) (yh:xx) (zg:xu) (xf:zA) (yb:yk) (zq:xQ) (xg:zy) (yd:xn) (zw:z9) (yf:yv) (L:Nat) (p2 p4:Int) (p36:List (List V)) (p37 p38:Int) (b6 b13:List V) (zBJ:List (List V)) (zBK:Int) (k_hbbbabaabbaabbba:zdQ β):Option β :=
 lt (Int.tmod p2 (60:Int)) fun x22 =>
 k_hbbbabaabbaabbba p2 p4 p36 p37 p38 (xb 1 2 [(V.sc (.int .u32 p2)),(V.sc (.int .u32 x22))]) ((List.length (xb 1 2 [(V.sc (.int .u32 p2)),(V.sc (.int .u32 x22))]):Nat):Int) (0:Int) b6 b13 zBJ zBK
def zhG {β:Type} (xa:zi) (zc:xj) (yh:xx) (zg:xu) (xf:zA) (yb:yk) (zq:xQ) (xg:zy) (yd:xn) (zw:z9) (yf:yv) (L:Nat) (p2 p4:Int) (p36:List (List V)) (p37 p38:Int) (p78:List (List V)) (p79 p80:Int) (b6 b13:List V) (zBJ:List (List V)) (zBK:Int) (k_ret:Bool→List (List V)→Int→Option β) (k_hbbbabaabbaabbba:zdQ β) (k_x4:zin β):Option β :=
 ifb (decide (p80 < p79)) (
 idx p78 p80 fun c23 =>
 cI .u32 c23 0 fun v24 =>
 chk (0+5≤(List.length b13)) (
 yd β L (List.map V.dem (List.take 5 b13)) v24 (fun v25 v26 =>
 chk ((List.length v25)=5∧0+5≤5) (
 lt (ya [(V.sc (.int .u32 (0:Int))),(V.sc (.bool false)),(V.gs 1 ([]:List (List V))),(V.gs 35 ([]:List (List V))),(V.gs 32 ([]:List (List V)))] 0 v25) fun r27 =>
 chk (0+5≤(List.length b13)) (
 zw β L (List.map V.dem (List.take 5 b13)) v24 (fun v28 v29 =>
 chk ((List.length v28)=5∧0+5≤5) (
 lt (ya [(V.sc (.int .u32 (0:Int))),(V.sc (.bool false)),(V.gs 1 ([]:List (List V))),(V.gs 35 ([]:List (List V))),(V.gs 32 ([]:List (List V)))] 0 v28) fun r30 =>
 chk (0+5≤(List.length r27)) (
 chk (0+5≤(List.length r30)) (
 xg β L (List.map V.dem (List.take 5 r27)) (List.map V.dem (List.take 5 r30)) (fun v31 =>
 ifb (!v31) (
 k_ret false zBJ zBK) (
 yf β L v26 v29 (fun v32 =>
 ifb (!v32) (
 k_ret false zBJ zBK) (
 lt (IntKind.wrap .i64 ((p80:Int)+(1:Int))) fun x33 =>
 k_hbbbabaabbaabbba p2 p4 p36 p37 p38 p78 p79 x33 b6 b13 zBJ zBK))))))))))) (fun v34 v35 =>
 chk ((List.length v34)=5∧0+5≤5) (
 lt (ya [(V.sc (.int .u32 (0:Int))),(V.sc (.bool false)),(V.gs 1 ([]:List (List V))),(V.gs 35 ([]:List (List V))),(V.gs 32 ([]:List (List V)))] 0 v34) fun r36 =>
 chk (0+5≤(List.length b13)) (
 zw β L (List.map V.dem (List.take 5 b13)) v24 (fun v37 v38 =>
 chk ((List.length v37)=5∧0+5≤5) (
 lt (ya [(V.sc (.int .u32 (0:Int))),(V.sc (.bool false)),(V.gs 1 ([]:List (List V))),(V.gs 35 ([]:List (List V))),(V.gs 32 ([]:List (List V)))] 0 v37) fun r39 =>
 chk (0+5≤(List.length r36)) (
 chk (0+5≤(List.length r39)) (
 xg β L (List.map V.dem (List.take 5 r36)) (List.map V.dem (List.take 5 r39)) (fun v40 =>
 ifb (!v40) (
 k_ret false zBJ zBK) (
 yf β L v35 v38 (fun v41 =>
 ifb (!v41) (
 k_ret false zBJ zBK) (
 lt (IntKind.wrap .i64 ((p80:Int)+(1:Int))) fun x42 =>
 k_hbbbabaabbaabbba p2 p4 p36 p37 p38 p78 p79 x42 b6 b13 zBJ zBK))))))))))))) (
 k_x4 p2 p4 p36 p37 p38 b6 zBJ zBK)
def zjT {β:Type} (xa:zi) (zc:xj) (yh:xx) (zg:xu) (xf:zA) (yb:yk) (zq:xQ) (xg:zy) (yd:xn) (zw:z9) (yf:yv) (L:Nat) (p10:Bool) (zBJ:List (List V)) (zBK:Int) (k_fin:Bool→Option β):Option β :=
 k_fin p10
def zgy {β:Type} (xa:zi) (zc:xj) (yh:xx) (zg:xu) (xf:zA) (yb:yk) (zq:xQ) (xg:zy) (yd:xn) (zw:z9) (yf:yv) (L:Nat) (p10:Bool) (zBJ:List (List V)) (zBK:Int) (k_ret:Bool→List (List V)→Int→Option β):Option β :=
 k_ret p10 zBJ zBK
def zgY {β:Type} (xa:zi) (zc:xj) (yh:xx) (zg:xu) (xf:zA) (yb:yk) (zq:xQ) (xg:zy) (yd:xn) (zw:z9) (yf:yv) (L:Nat) (p2 p4:Int) (p36:List (List V)) (p37 p38:Int) (b6:List V) (zBJ:List (List V)) (zBK:Int) (k_hbbbaba:zcM β):Option β :=
 lt (IntKind.wrap .i64 ((p38:Int)+(1:Int))) fun x43 =>
 k_hbbbaba p2 p4 p36 p37 x43 b6 zBJ zBK
def zdY {β:Type} (xa:zi) (zc:xj) (yh:xx) (zg:xu) (xf:zA) (yb:yk) (zq:xQ) (xg:zy) (yd:xn) (zw:z9) (yf:yv) (L:Nat) (k_ret:Bool→List (List V)→Int→Option β) (k_x2:ziA β):Nat→Int→Int→List (List V)→Int→Int→List (List V)→Int→Int→List V→List V→List (List V)→Int→Option β
 | 0,_,_,_,_,_,_,_,_,_,_,_,_=>none
 | n+1,p2,p4,p36,p37,p38,p47,p48,p49,b6,b13,zBJ,zBK=>zhC xa zc yh zg xf yb zq xg yd zw yf L p2 p4 p36 p37 p38 p47 p48 p49 b6 b13 zBJ zBK k_ret (fun p2 p4 p36 p37 p38 p47 p48 p49 b6 b13 zBJ zBK=>zdY xa zc yh zg xf yb zq xg yd zw yf L k_ret k_x2 n p2 p4 p36 p37 p38 p47 p48 p49 b6 b13 zBJ zBK) k_x2
def zd1 {β:Type} (xa:zi) (zc:xj) (yh:xx) (zg:xu) (xf:zA) (yb:yk) (zq:xQ) (xg:zy) (yd:xn) (zw:z9) (yf:yv) (L:Nat) (k_ret:Bool→List (List V)→Int→Option β) (k_x4:zin β):Nat→Int→Int→List (List V)→Int→Int→List (List V)→Int→Int→List V→List V→List (List V)→Int→Option β
 | 0,_,_,_,_,_,_,_,_,_,_,_,_=>none
 | n+1,p2,p4,p36,p37,p38,p78,p79,p80,b6,b13,zBJ,zBK=>zhG xa zc yh zg xf yb zq xg yd zw yf L p2 p4 p36 p37 p38 p78 p79 p80 b6 b13 zBJ zBK k_ret (fun p2 p4 p36 p37 p38 p78 p79 p80 b6 b13 zBJ zBK=>zd1 xa zc yh zg xf yb zq xg yd zw yf L k_ret k_x4 n p2 p4 p36 p37 p38 p78 p79 p80 b6 b13 zBJ zBK) k_x4
def zgw {β:Type} (xa:zi) (zc:xj) (yh:xx) (zg:xu) (xf:zA) (yb:yk) (zq:xQ) (xg:zy) (yd:xn) (zw:z9) (yf:yv) (L:Nat) (p2 p4:Int) (p36:List (List V)) (p37 p38:Int) (b6 b13:List V) (zBJ:List (List V)) (zBK:Int) (k_ret:Bool→List (List V)→Int→Option β) (k_hbbbaba:zcM β):Option β :=
 zgS xa zc yh zg xf yb zq xg yd zw yf L p2 p4 p36 p37 p38 b6 b13 zBJ zBK (fun p2 p4 p36 p37 p38 p78 p79 p80 b6 b13 zBJ zBK=>zd1 xa zc yh zg xf yb zq xg yd zw yf L (fun p10 zBJ zBK=>zgy xa zc yh zg xf yb zq xg yd zw yf L p10 zBJ zBK k_ret) (fun p2 p4 p36 p37 p38 b6 zBJ zBK=>zgY xa zc yh zg xf yb zq xg yd zw yf L p2 p4 p36 p37 p38 b6 zBJ zBK k_hbbbaba) L p2 p4 p36 p37 p38 p78 p79 p80 b6 b13 zBJ zBK)
def zk4 {β:Type} (xa:zi) (zc:xj) (yh:xx) (zg:xu) (xf:zA) (yb:yk) (zq:xQ) (xg:zy) (yd:xn) (zw:z9) (yf:yv) (L:Nat) (p2 p4:Int) (p36:List (List V)) (p37 p38:Int) (b6:List V) (zBJ:List (List V)) (zBK:Int) (k_x0:List (List V)→Int→Option β) (k_ret:Bool→List (List V)→Int→Option β) (k_hbbbaba:zcM β):Option β :=
 zlq xa zc yh zg xf yb zq xg yd zw yf L p2 p4 p36 p37 p38 b6 zBJ zBK (fun p2 p4 p36 p37 p38 p47 p48 p49 b6 b13 zBJ zBK=>zdY xa zc yh zg xf yb zq xg yd zw yf L (fun p10 zBJ zBK=>zgx xa zc yh zg xf yb zq xg yd zw yf L p10 zBJ zBK k_ret) (fun p2 p4 p36 p37 p38 b6 b13 zBJ zBK=>zgw xa zc yh zg xf yb zq xg yd zw yf L p2 p4 p36 p37 p38 b6 b13 zBJ zBK k_ret k_hbbbaba) L p2 p4 p36 p37 p38 p47 p48 p49 b6 b13 zBJ zBK) k_x0
def zgr {β:Type} (xa:zi) (zc:xj) (yh:xx) (zg:xu) (xf:zA) (yb:yk) (zq:xQ) (xg:zy) (yd:xn) (zw:z9) (yf:yv) (L:Nat) (k_x0:List (List V)→Int→Option β) (k_ret:Bool→List (List V)→Int→Option β):Nat→Int→Int→List (List V)→Int→Int→List V→List (List V)→Int→Option β
 | 0,_,_,_,_,_,_,_,_=>none
 | n+1,p2,p4,p36,p37,p38,b6,zBJ,zBK=>zk4 xa zc yh zg xf yb zq xg yd zw yf L p2 p4 p36 p37 p38 b6 zBJ zBK k_x0 k_ret (fun p2 p4 p36 p37 p38 b6 zBJ zBK=>zgr xa zc yh zg xf yb zq xg yd zw yf L k_x0 k_ret n p2 p4 p36 p37 p38 b6 zBJ zBK)
def zoJ {β:Type} (xa:zi) (zc:xj) (yh:xx) (zg:xu) (xf:zA) (yb:yk) (zq:xQ) (xg:zy) (yd:xn) (zw:z9) (yf:yv) (L:Nat) (p0:List (List V)) (p1:List V) (p2 p3 p4:Int) (k_fin:Bool→Option β):Option β :=
 zoE xa zc yh zg xf yb zq xg yd zw yf L p0 p1 p2 p3 p4 k_fin (fun p2 p4 p36 p37 p38 b6 zBJ zBK=>zgr xa zc yh zg xf yb zq xg yd zw yf L (fun zBJ zBK=>zkj xa zc yh zg xf yb zq xg yd zw yf L zBJ zBK k_fin) (fun p10 zBJ zBK=>zjT xa zc yh zg xf yb zq xg yd zw yf L p10 zBJ zBK k_fin) L p2 p4 p36 p37 p38 b6 zBJ zBK)
abbrev zoF:=∀ (β:Type),Nat→List (List V)→List V→Int→Int→Int→(Bool→Option β)→Option β
def zjA (β:Type) (L:Nat) (p0:List (List V)) (p1:List V) (p2 p3 p4:Int) (k_fin:Bool→Option β):Option β:=zoJ xa zc yh zg xf yb zq xg yd zw yf L p0 p1 p2 p3 p4 k_fin
def zxk (zjA:zoF) (L:Nat) (β:Type) (args:List V) (bor:Bor) (k:KK β):Option β:=match args,bor with
 | [a0,a1,a2,a3,a4],[]=>aL 1 a0 fun p0=>aG a1 fun p1=>aI .u32 a2 fun p2=>aI .i64 a3 fun p3=>aI .i64 a4 fun p4=>zjA β L p0 p1 p2 p3 p4 (fun p0=>k (V.sc (.bool p0)) [])
 | _,_=>none
def zkc:CF:=⟨6,[.tmp 2],
 (.seq (.reg [oo 2 (.move (.const (.sc (.bool false))) false)])
 (.seq (.reg [oo 3 (.move (tq 0) false),
   oo 4 (.lenS (tq 3)),
   oo 5 (.bin .leq (tq 4) (.const (.sc (.int .i64 200)))),
   oo 2 (.move (tq 5) false)])
 .ret))⟩
def zoq:Hint:=⟨[],[],[none],[],[],false,false⟩
def zmR:Nat→Sh:=zay []
def zm8 (L:Nat):CBC:=noC
def znL {β:Type} (L:Nat) (p0:List (List V)) (k_fin:Bool→Option β):Option β :=
 k_fin (decide (((List.length p0:Nat):Int)≤(200:Int)))
theorem zt3 {β:Type} (L:Nat) (p0:List (List V)) (k:KK β):xH zmR (zm8 L) L zkc [(V.sl 1 p0)] [] k=znL L p0 (fun p0=>k (V.sc (.bool p0)) []):=by kernel_rfl
abbrev yF:=∀ (β:Type),Nat→List (List V)→(Bool→Option β)→Option β
def ye (β:Type) (L:Nat) (p0:List (List V)) (k_fin:Bool→Option β):Option β:=znL L p0 k_fin
def zlm (ye:yF) (L:Nat) (β:Type) (args:List V) (bor:Bor) (k:KK β):Option β:=match args,bor with
 | [a0],[]=>aL 1 a0 fun p0=>ye β L p0 (fun p0=>k (V.sc (.bool p0)) [])
 | _,_=>none
theorem zt8 (L:Nat) (β:Type) (args:List V) (bor:Bor) (k:KK β) (r:β) (h:zlm ye L β args bor k=some r):xH zmR (zm8 L) L zkc args bor k=some r:=by
 unfold zlm at h
 split at h
 ·have q:=zb0 h; clear h; obtain ⟨p0,rfl,h⟩:=q
  exact (zt3 L p0 k).trans h
 ·cases h
def zex:CC:=(.seq (.reg [oo 10 (.bin .lss (tq 9) (tq 8))])
 (.seq (.cond (tq 10)
 .skip
 (.seq (.mask (bl 0 17) (bl 130983 17))
 (.exit 0)))
 (.seq (.block 1 (.seq (.reg [oo 11 (.indexAddrS 32 (tq 7) (tq 9)),
   oo 12 (.load true 32 (tq 11) false),
   oo 6 (.alloc true (rp 32 (.sc (.int .u8 0)) [])),
   oz (.store 32 (tq 6) (tq 12))])
 (.seq (.reg [oo 13 (.load true 32 (tq 6) false),
   oo 14 (.load true 32 (tq 3) false),
   oo 15 (.eqAgg false 32 (tq 13) (tq 14))])
 (.cond (tq 15)
 (.seq (.reg [oo 4 (.move (.const (.sc (.bool true))) false)])
 (.seq (.mask (bl 16 17) (bl 130999 17))
 .ret))
 .skip))))
 (.reg [oo 16 (.bin .add (tq 9) (.const (.sc (.int .i64 1)))),
   oo 9 (.move (tq 16) false)]))))
def zhY:CC:=(.seq (.reg [oo 4 (.move (.const (.sc (.bool false))) false)])
 .ret)
def zdD:CF:=⟨17,[.tmp 4],
 (.seq (.reg [oo 3 (.box true (tq 1)),
   oo 4 (.move (.const (.sc (.bool false))) false)])
 (.seq (.seq (.reg [oo 7 (.move (tq 0) false),
   oo 8 (.lenS (tq 7)),
   oo 9 (.move (.const (.sc (.int .i64 0))) false)])
 (.block 0 (.loop (bl 904 17) (bl 130991 17)
 zex)))
 zhY))⟩
def znm:Hint:=⟨[],[],[none,some ((bl 904 17),(bl 130991 17)),none,some ((bl 0 17),(bl 130983 17)),none,none,some ((bl 16 17),(bl 130999 17)),none],[],[],false,false⟩
def zbZ:Nat→Sh:=zay []
def zbX (L:Nat):CBC:=noC
def zgp:St→St:=zab 0 (bl 904 17) (bl 130991 17)
def zeT (p7:List (List V)) (p8 p9:Int) (b3:List V):St:=⟨(jn 3 ((V.ptr 3 0)::(jn 3 ((V.sl 32 p7)::((V.sc (.int .i64 p8))::((V.sc (.int .i64 p9))::(jn 7 []))))))),(gn 3 ((.live true b3)::(gn 13 [])))⟩
def zil (p4:Bool):St:=⟨(jn 4 ((V.sc (.bool p4))::(jn 12 []))),(gn 17 [])⟩
def zjq:St:=⟨(jn 17 []),(gn 17 [])⟩
def zmT {β:Type} (L:Nat) (p0:List (List V)) (p1:List V) (k_hbaba:List (List V)→Int→Int→List V→Option β):Option β :=
 k_hbaba p0 ((List.length p0:Nat):Int) (0:Int) p1
theorem ztj {β:Type} (L:Nat) (p0:List (List V)) (p1:List V) (k:KK β):xH zbZ (zbX L) L zdD [(V.sl 32 p0),(V.agg p1)] [] k=zmT L p0 p1 (fun p7 p8 p9 b3=>yR (yu zbZ (zbX L) 0 L zex) zgp L (zeT p7 p8 p9 b3) (yH 0 (zaC (yu zbZ (zbX L) 0 L zhY) (za1 0 (CF.res zdD) k)))):=by kernel_rfl
def zi6 {β:Type} (L:Nat) (p7:List (List V)) (p8 p9:Int) (b3:List V) (k_ret:Bool→Option β) (k_hbaba:List (List V)→Int→Int→List V→Option β) (k_x0:Option β):Option β :=
 ifb (decide (p9 < p8)) (
 idx p7 p9 fun c0 =>
 chk ((List.length (List.take 32 c0))=32∧0+32≤32) (
 lt (ya (List.replicate 32 (V.sc (.int .u8 (0:Int)))) 0 (List.take 32 c0)) fun r1 =>
 chk (0+32≤(List.length r1)) (
 chk (0+32≤(List.length b3)) (
 eqC 32 (List.take 32 r1) (List.take 32 b3) fun v2 =>
 ifb v2 (
 k_ret true) (
 lt (IntKind.wrap .i64 ((p9:Int)+(1:Int))) fun x3 =>
 k_hbaba p7 p8 x3 b3))))) (
 k_x0)
theorem zo3 {β:Type} (L:Nat) (p7:List (List V)) (p8 p9:Int) (b3:List V) (X:St→Option β) (K:KT β):yu zbZ (zbX L) 0 L zex (zeT p7 p8 p9 b3) (zdL zgp X K)=zi6 L p7 p8 p9 b3 (fun p4=>K .ret (zil p4)) (fun p7 p8 p9 b3=>X (zeT p7 p8 p9 b3)) (K (.exit 0) (zjq)):=by kernel_rfl
def zg3 {β:Type} (L:Nat) (p4:Bool) (k_fin:Bool→Option β):Option β :=
 k_fin p4
theorem znf {β:Type} (L:Nat) (p4:Bool) (k:KK β):(yH 0 (zaC (yu zbZ (zbX L) 0 L zhY) (za1 0 (CF.res zdD) k))) .ret (zil p4)=zg3 L p4 (fun p0=>k (V.sc (.bool p0)) []):=by kernel_rfl
def zhF {β:Type} (L:Nat) (k_fin:Bool→Option β):Option β :=
 k_fin false
theorem znM {β:Type} (L:Nat) (k:KK β):(yH 0 (zaC (yu zbZ (zbX L) 0 L zhY) (za1 0 (CF.res zdD) k))) (.exit 0) (zjq)=zhF L (fun p0=>k (V.sc (.bool p0)) []):=by kernel_rfl
def zeR {β:Type} (L:Nat) (k_ret:Bool→Option β) (k_x0:Option β):Nat→List (List V)→Int→Int→List V→Option β
 | 0,_,_,_,_=>none
 | n+1,p7,p8,p9,b3=>zi6 L p7 p8 p9 b3 k_ret (fun p7 p8 p9 b3=>zeR L k_ret k_x0 n p7 p8 p9 b3) k_x0
theorem zkz {β:Type} (L:Nat) (K:KT β):∀ (n:Nat) (p7:List (List V)) (p8 p9:Int) (b3:List V),yR (yu zbZ (zbX L) 0 L zex) zgp n (zeT p7 p8 p9 b3) K=zeR L (fun p4=>K .ret (zil p4)) (K (.exit 0) (zjq)) n p7 p8 p9 b3:=by
 intro n
 induction n with
 | zero=>intros; rfl
 | succ n ih =>
  intro p7 p8 p9 b3
  refine (zo3 L p7 p8 p9 b3 (fun σ=>yR (yu zbZ (zbX L) 0 L zex) zgp n σ K) K).trans ?_
  simp only [ih]
  rfl
def zkg {β:Type} (L:Nat) (p0:List (List V)) (p1:List V) (k_fin:Bool→Option β):Option β :=
 zmT L p0 p1 (fun p7 p8 p9 b3=>zeR L (fun p4=>zg3 L p4 k_fin) (zhF L k_fin) L p7 p8 p9 b3)
theorem ztf {β:Type} (L:Nat) (p0:List (List V)) (p1:List V) (k:KK β):xH zbZ (zbX L) L zdD [(V.sl 32 p0),(V.agg p1)] [] k=zkg L p0 p1 (fun p0=>k (V.sc (.bool p0)) []):=by
 refine (ztj L p0 p1 k).trans ?_
 unfold zkg
 first
  | (simp only [zkz,znf,znM]; done)
  | (simp only [zkz]; rfl)
abbrev xC:=∀ (β:Type),Nat→List (List V)→List V→(Bool→Option β)→Option β
def ze (β:Type) (L:Nat) (p0:List (List V)) (p1:List V) (k_fin:Bool→Option β):Option β:=zkg L p0 p1 k_fin
def zkd (ze:xC) (L:Nat) (β:Type) (args:List V) (bor:Bor) (k:KK β):Option β:=match args,bor with
 | [a0,a1],[]=>aL 32 a0 fun p0=>aG a1 fun p1=>ze β L p0 p1 (fun p0=>k (V.sc (.bool p0)) [])
 | _,_=>none
theorem zsJ (L:Nat) (β:Type) (args:List V) (bor:Bor) (k:KK β) (r:β) (h:zkd ze L β args bor k=some r):xH zbZ (zbX L) L zdD args bor k=some r:=by
 unfold zkd at h
 split at h
 ·have q:=zb0 h; clear h; obtain ⟨p0,rfl,h⟩:=q
  have q:=zdX h; clear h; obtain ⟨p1,rfl,h⟩:=q
  exact (ztf L p0 p1 k).trans h
 ·cases h
def zQ:CC:=(.seq (.reg [oo 97 (.bin .lss (tq 96) (tq 95))])
 (.seq (.cond (tq 97)
 .skip
 (.seq (.mask (bl 992 148) (bl 356811919152373704659264560651937353093403631 148))
 (.exit 3)))
 (.seq (.block 4 (.seq (.reg [oo 98 (.indexAddrS 32 (tq 94) (tq 96)),
   oo 99 (.load true 32 (tq 98) false),
   oo 16 (.alloc true (rp 32 (.sc (.int .u8 0)) [])),
   oz (.store 32 (tq 16) (tq 99))])
 (.seq (.seq (.reg [oo 100 (.move (tq 8) false),
   oo 101 (.load true 32 (tq 16) false),
   oo 102 (.call 354 [((tq 100),0),((tq 101),0)] []),
   oo 103 (.move (tq 102) false),
   ⟨(some 104),false,(some (103,false)),.move (tq 7) false⟩,
   ⟨(some 105),false,(some (103,false)),.load true 32 (tq 16) false⟩,
   ⟨(some 106),false,(some (103,false)),.call 354 [((tq 104),0),((tq 105),0)] []⟩,
   ⟨(some 107),false,(some (103,false)),.un .not (tq 106)⟩,
   oo 108 (.pick (tq 103) (.const (.sc (.bool true))) (tq 107))])
 (.cond (tq 108)
 (.seq (.reg [oo 4 (.move (.const (.sc (.bool false))) false)])
 (.seq (.mask (bl 16 148) (bl 356811919152373656311636663522476535484285023 148))
 .ret))
 .skip))
 (.seq (.reg [oo 110 (.load true 5 (tq 5) false),
   oo 111 (.load true 32 (tq 16) false),
   oo 112 (.call 348 [((tq 110),1),((tq 111),0)] []),
   oo 109 (.move (tq 112) true),
   oo 113 (.pull (tq 109) 0),
   oo 114 (.pull (tq 109) 1),
   oo 17 (.alloc true [(.sc (.int .u32 0)),(.sc (.bool false)),(.gs 1 []),(.gs 35 []),(.gs 32 [])]),
   oz (.store 5 (tq 17) (tq 113)),
   oo 18 (.move (tq 114) false)])
 (.seq (.seq (.reg [oo 115 (.move (tq 18) false),
   oo 116 (.bin .neq (tq 115) (.const (.sc (.int .i64 0))))])
 (.cond (tq 116)
 (.seq (.reg [oo 4 (.move (.const (.sc (.bool false))) false)])
 (.seq (.mask (bl 16 148) (bl 356811919152373656311636663522476535484285023 148))
 .ret))
 .skip))
 (.dreg [] [(oo 117 (.load true 5 (tq 17) false),ql 17 [16] [120,121]),
   (oo 118 (.move (tq 8) true),qc [17,16] [120]),
   (oo 119 (.load true 32 (tq 16) false),ql 16 [17] []),
   (oo 120 (.buildSlice 32 1 (rp 32 (.sc (.int .u8 0)) []) [(0,32,(tq 119))]),qn [17] []),
   (oo 121 (.append 32 32 (tq 118) (tq 120)),qn [17] []),
   (oz (.store 5 (tq 5) (tq 117)),q0),
   (oo 8 (.move (tq 121) true),q0)]))))))
 (.reg [oo 122 (.bin .add (tq 96) (.const (.sc (.int .i64 1)))),
   oo 96 (.move (tq 122) false)]))))
def zaO:CC:=(.seq (.reg [oo 136 (.bin .lss (tq 135) (tq 134))])
 (.seq (.cond (tq 136)
 .skip
 (.seq (.mask (bl 4194304 148) (bl 354024330026673642371879527578292738873152463 148))
 (.exit 5)))
 (.seq (.block 6 (.seq (.reg [oo 137 (.indexAddrS 32 (tq 133) (tq 135)),
   oo 138 (.load true 32 (tq 137) false),
   oo 25 (.alloc true (rp 32 (.sc (.int .u8 0)) [])),
   oz (.store 32 (tq 25) (tq 138))])
 (.seq (.reg [oo 139 (.move (tq 8) false),
   oo 140 (.load true 32 (tq 25) false),
   oo 141 (.call 354 [((tq 139),0),((tq 140),0)] []),
   oo 142 (.un .not (tq 141))])
 (.cond (tq 142)
 (.seq (.reg [oo 4 (.move (.const (.sc (.bool false))) false)])
 (.seq (.mask (bl 16 148) (bl 354024330026673642371879527578292738868958175 148))
 .ret))
 .skip))))
 (.reg [oo 143 (.bin .add (tq 135) (.const (.sc (.int .i64 1)))),
   oo 135 (.move (tq 143) false)]))))
def zcf:CC:=(.seq (.reg [oo 144 (.fieldAddr 3 (tq 22)),
   oo 145 (.load false 1 (tq 144) false),
   oo 146 (.lenS (tq 145)),
   oo 147 (.bin .eql (tq 146) (.const (.sc (.int .i64 0)))),
   oo 4 (.move (tq 147) false)])
 .ret)
def zaL:CC:=(.seq (.seq (.reg [oo 35 (.move (tq 6) false),
   oo 36 (.call 247 [((tq 35),0)] [])])
 (.cond (tq 36)
 .skip
 (.seq (.mask (bl 928 148) (bl 356811919152373656311636663522476535484285935 148))
 (.exit 0))))
 (.block 1 (.seq (.reg [oo 37 (.move (tq 9) false),
   oo 38 (.move (tq 6) false),
   oo 39 (.call 231 [((tq 38),0),((.const (.sc (.int .i64 5))),0)] []),
   oo 40 (.conv .u32 (tq 39)),
   oo 41 (.bin .add (tq 37) (tq 40)),
   oo 9 (.move (tq 41) false)])
 (.seq (.reg [oo 42 (.move (tq 6) false),
   oo 43 (.call 231 [((tq 42),0),((.const (.sc (.int .i64 30))),0)] []),
   oo 44 (.conv .u8 (tq 43)),
   oo 45 (.build (rp 32 (.sc (.int .u8 0)) []) [(0,1,(tq 44))]),
   oo 10 (.alloc true (rp 32 (.sc (.int .u8 0)) [])),
   oz (.store 32 (tq 10) (tq 45))])
 (.seq (.reg [oo 46 (.move (tq 6) false),
   oo 47 (.call 231 [((tq 46),0),((.const (.sc (.int .i64 4))),0)] [])])
 (.block 2 (.seq (.reg [oo 71 (.bin .eql (tq 47) (.const (.sc (.int .i64 0)))),
   oo 70 (.move (tq 71) false)])
 (.cond (tq 70)
 (.seq (.reg [oo 73 (.load true 5 (tq 5) false),
   oo 74 (.load true 32 (tq 10) false),
   oo 75 (.call 348 [((tq 73),1),((tq 74),0)] []),
   oo 72 (.move (tq 75) true),
   oo 76 (.pull (tq 72) 0),
   oo 77 (.pull (tq 72) 1),
   oo 11 (.alloc true [(.sc (.int .u32 0)),(.sc (.bool false)),(.gs 1 []),(.gs 35 []),(.gs 32 [])]),
   oz (.store 5 (tq 11) (tq 76)),
   oo 12 (.move (tq 77) false)])
 (.seq (.reg [oo 78 (.move (tq 12) false),
   oo 79 (.bin .eql (tq 78) (.const (.sc (.int .i64 0))))])
 (.cond (tq 79)
 (.dreg [] [(oo 80 (.load true 5 (tq 11) false),ql 11 [10] [83,84]),
   (oo 81 (.move (tq 8) true),qc [11,10] [83]),
   (oo 82 (.load true 32 (tq 10) false),ql 10 [11] []),
   (oo 83 (.buildSlice 32 1 (rp 32 (.sc (.int .u8 0)) []) [(0,32,(tq 82))]),qn [11] []),
   (oo 84 (.append 32 32 (tq 81) (tq 83)),qn [11] []),
   (oz (.store 5 (tq 5) (tq 80)),q0),
   (oo 8 (.move (tq 84) true),q0)])
 .skip)))
 (.seq (.reg [oo 86 (.bin .eql (tq 47) (.const (.sc (.int .i64 1)))),
   oo 85 (.move (tq 86) false)])
 (.cond (tq 85)
 (.seq (.reg [oo 88 (.load true 5 (tq 5) false),
   oo 89 (.move (tq 9) false),
   oo 90 (.call 350 [((tq 88),1),((tq 89),0)] []),
   oo 87 (.move (tq 90) true),
   oo 91 (.pull (tq 87) 0),
   oo 92 (.extract (tq 87) 1),
   oo 13 (.alloc true [(.sc (.int .u32 0)),(.sc (.bool false)),(.gs 1 []),(.gs 35 []),(.gs 32 [])]),
   oz (.store 5 (tq 13) (tq 91)),
   oo 14 (.move (tq 92) false)])
 (.seq (.reg [oo 93 (.load true 5 (tq 13) false),
   oz (.store 5 (tq 5) (tq 93))])
 (.seq (.reg [oo 94 (.move (tq 14) false),
   oo 95 (.lenS (tq 94)),
   oo 96 (.move (.const (.sc (.int .i64 0))) false)])
 (.block 3 (.loop (bl 138649284399962590788701914080 148) (bl 356811919152373704659264560651937353093403631 148)
 zQ)))))
 (.seq (.dreg [] [(oo 49 (.load true 5 (tq 5) false),ql 5 [10] [19]),
   (oo 50 (.move (tq 6) false),q0),
   (oo 51 (.call 231 [((tq 50),0),((.const (.sc (.int .i64 9))),0)] []),qc [5,10] [19]),
   (oo 52 (.bin .sub (tq 51) (.const (.sc (.int .i64 1)))),q0),
   (oo 53 (.load true 32 (tq 10) false),ql 10 [5] [19]),
   (oo 54 (.move (tq 9) false),q0),
   (oo 55 (.call 346 [((tq 49),1),((tq 52),0),((tq 53),0),((tq 54),0),((.const (.sc (.int .u32 10))),0)] []),qc [] [19]),
   (oo 48 (.move (tq 55) true),qc [] [19]),
   (oo 56 (.pull (tq 48) 0),q0),
   (oo 57 (.pull (tq 48) 1),q0),
   (oo 58 (.pull (tq 48) 2),q0),
   (oo 19 (.alloc true [(.sc (.int .u32 0)),(.sc (.bool false)),(.gs 1 []),(.gs 35 []),(.gs 32 [])]),qn [5,10] []),
   (oz (.store 5 (tq 19) (tq 56)),q0),
   (oo 20 (.move (tq 57) false),q0),
   (oo 21 (.move (tq 58) false),q0)])
 (.seq (.reg [oo 59 (.move (tq 21) false),
   oo 60 (.bin .eql (tq 59) (.const (.sc (.int .i64 0)))),
   oo 61 (.move (tq 60) false),
   ⟨(some 62),false,(some (61,true)),.move (tq 20) false⟩,
   ⟨(some 63),false,(some (61,true)),.bin .geq (tq 62) (.const (.sc (.int .i64 0)))⟩,
   oo 64 (.pick (tq 61) (tq 63) (.const (.sc (.bool false))))])
 (.cond (tq 64)
 (.dreg [] [(oo 65 (.load true 5 (tq 19) false),ql 19 [10] [68,69]),
   (oo 66 (.move (tq 7) true),qc [19,10] [68]),
   (oo 67 (.load true 32 (tq 10) false),ql 10 [19] []),
   (oo 68 (.buildSlice 32 1 (rp 32 (.sc (.int .u8 0)) []) [(0,32,(tq 67))]),qn [19] []),
   (oo 69 (.append 32 32 (tq 66) (tq 68)),qn [19] []),
   (oz (.store 5 (tq 5) (tq 65)),q0),
   (oo 7 (.move (tq 69) true),q0)])
 .skip)))))))))))))
def zbP:CC:=(.seq (.reg [oo 124 (.load true 5 (tq 5) false),
   oo 125 (.move (tq 9) false),
   oo 126 (.bin .add (tq 125) (.const (.sc (.int .u32 10)))),
   oo 127 (.call 350 [((tq 124),1),((tq 126),0)] []),
   oo 123 (.move (tq 127) true),
   oo 128 (.pull (tq 123) 0),
   oo 129 (.extract (tq 123) 1),
   oo 22 (.alloc true [(.sc (.int .u32 0)),(.sc (.bool false)),(.gs 1 []),(.gs 35 []),(.gs 32 [])]),
   oz (.store 5 (tq 22) (tq 128)),
   oo 23 (.move (tq 129) false)])
 (.seq (.reg [oo 130 (.move (tq 8) true),
   oo 131 (.move (tq 23) false),
   oo 132 (.append 32 32 (tq 130) (tq 131)),
   oo 8 (.move (tq 132) true)])
 (.seq (.seq (.reg [oo 133 (.move (tq 7) false),
   oo 134 (.lenS (tq 133)),
   oo 135 (.move (.const (.sc (.int .i64 0))) false)])
 (.block 5 (.loop (bl 76223250190290215815795912064716083560704 148) (bl 354024330026673642371879527578292738873152463 148)
 zaO)))
 zcf)))
def zV:CF:=⟨148,[.tmp 4],
 (.seq (.reg [oo 4 (.move (.const (.sc (.bool false))) false)])
 (.seq (.seq (.reg [oo 26 (.call 332 [] []),
   oo 27 (.un .not (tq 26))])
 (.cond (tq 27)
 (.seq (.reg [oo 4 (.move (.const (.sc (.bool false))) false)])
 .ret)
 .skip))
 (.seq (.seq (.reg [oo 28 (.move (tq 1) false),
   oo 29 (.call 353 [((tq 28),0)] []),
   oo 30 (.un .not (tq 29))])
 (.cond (tq 30)
 (.seq (.reg [oo 4 (.move (.const (.sc (.bool true))) false)])
 .ret)
 .skip))
 (.seq (.reg [oo 31 (.buildSlice 1 2 [(.sc (.int .i64 0))] [(0,1,(.const (.sc (.int .i64 4)))),(1,1,(.const (.sc (.int .i64 7))))]),
   oo 32 (.build [(.sc (.int .u32 0)),(.sc (.bool false)),(.sl 1 []),(.sl 35 []),(.sl 32 [])] [(2,1,(tq 31))]),
   oo 5 (.alloc true [(.sc (.int .u32 0)),(.sc (.bool false)),(.gs 1 []),(.gs 35 []),(.gs 32 [])]),
   oz (.store 5 (tq 5) (tq 32))])
 (.seq (.reg [oo 33 (.move (tq 1) false),
   oo 34 (.call 225 [((tq 33),0)] []),
   oo 6 (.move (tq 34) false)])
 (.seq (.reg [oo 7 (.move (.const (.gs 32 [])) true),
   oo 8 (.move (.const (.gs 32 [])) true)])
 (.seq (.reg [oo 9 (.move (.const (.sc (.int .u32 0))) false)])
 (.seq (.block 0 (.loop (bl 992 148) (bl 356811919152373656311636663522476535484285935 148)
 zaL))
 zbP))))))))⟩
def zji:Hint:=⟨[(5,2),(7,0),(7,1),(17,3),(17,6),(19,1),(19,6),(21,3),(21,5),(21,6),(28,3),(28,6),(31,1),(31,6),(13,7),(13,11),(15,1),(15,6),(33,4),(33,6),(33,7),(34,0),(34,3)],[],[none,none,none,none,none,some ((bl 992 148),(bl 356811919152373656311636663522476535484285935 148)),none,some ((bl 928 148),(bl 356811919152373656311636663522476535484285935 148)),none,none,none,none,none,none,some ((bl 138649284399962590788701914080 148),(bl 356811919152373704659264560651937353093403631 148)),none,some ((bl 992 148),(bl 356811919152373704659264560651937353093403631 148)),none,none,some ((bl 16 148),(bl 356811919152373656311636663522476535484285023 148)),none,some ((bl 16 148),(bl 356811919152373656311636663522476535484285023 148)),none,none,some ((bl 76223250190290215815795912064716083560704 148),(bl 354024330026673642371879527578292738873152463 148)),none,some ((bl 4194304 148),(bl 354024330026673642371879527578292738873152463 148)),none,none,some ((bl 16 148),(bl 354024330026673642371879527578292738868958175 148)),none],[],[],false,false⟩
def zx:Nat→Sh:=zay [(145,(.sl 35))]
def yx (xa:zi) (ye:yF) (zc:xj) (zb:ym) (za:zj) (yb:yk) (yd:xn) (yc:zl) (ze:xC) (L:Nat):CBC:=(zI 354 (zkd ze L) (zI 346 (zgC yc L) (zI 350 (zhK yd L) (zI 348 (zf8 yb L) (zI 231 (zeo za L) (zI 247 (zem zb L) (zI 225 (zhm zc L) (zI 353 (zlm ye L) (zI 332 (zfg xa L) noC)))))))))
def yU:St→St:=zab 0 (bl 992 148) (bl 356811919152373656311636663522476535484285935 148)
def zae:St→St:=zab 0 (bl 138649284399962590788701914080 148) (bl 356811919152373704659264560651937353093403631 148)
def zbR:St→St:=zab 0 (bl 76223250190290215815795912064716083560704 148) (bl 354024330026673642371879527578292738873152463 148)
def zW (p7 p8:List (List V)) (p9:Int) (b5:List V) (zBE:List (List V)) (zBF:Int):St:=⟨(jn 5 ((V.ptr 5 0)::((V.ptr 34 0)::((V.gs 32 p7)::((V.gs 32 p8)::((V.sc (.int .u32 p9))::(jn 138 []))))))),(gn 5 ((.live true b5)::(gn 28 ((.live false [(V.sl 1 zBE),(V.sc (.int .i64 zBF))])::(gn 113 [])))))⟩
def y5 (p7 p8:List (List V)) (p9:Int) (p94:List (List V)) (p95 p96:Int) (b5:List V) (zBE:List (List V)) (zBF:Int):St:=⟨(jn 5 ((V.ptr 5 0)::((V.ptr 34 0)::((V.gs 32 p7)::((V.gs 32 p8)::((V.sc (.int .u32 p9))::(jn 84 ((V.sl 32 p94)::((V.sc (.int .i64 p95))::((V.sc (.int .i64 p96))::(jn 51 []))))))))))),(gn 5 ((.live true b5)::(gn 28 ((.live false [(V.sl 1 zBE),(V.sc (.int .i64 zBF))])::(gn 113 [])))))⟩
def zcT (p7 p8:List (List V)) (p9:Int) (b5:List V) (zBE:List (List V)) (zBF:Int):St:=⟨(jn 5 ((V.ptr 5 0)::(jn 1 ((V.gs 32 p7)::((V.gs 32 p8)::((V.sc (.int .u32 p9))::(jn 138 []))))))),(gn 5 ((.live true b5)::(gn 28 ((.live false [(V.sl 1 zBE),(V.sc (.int .i64 zBF))])::(gn 113 [])))))⟩
def zbu (p8 zB1:List (List V)) (zB2 zB0:Int) (b22:List V) (zBE:List (List V)) (zBF:Int):St:=⟨(jn 8 ((V.gs 32 p8)::(jn 13 ((V.ptr 22 0)::(jn 110 ((V.sl 32 zB1)::((V.sc (.int .i64 zB2))::((V.sc (.int .i64 zB0))::(jn 12 []))))))))),(gn 22 ((.live true b22)::(gn 11 ((.live false [(V.sl 1 zBE),(V.sc (.int .i64 zBF))])::(gn 113 [])))))⟩
def yS (p4:Bool) (zBE:List (List V)) (zBF:Int):St:=⟨(jn 4 ((V.sc (.bool p4))::(jn 143 []))),(gn 34 ((.live false [(V.sl 1 zBE),(V.sc (.int .i64 zBF))])::(gn 113 [])))⟩
def zfn (p7 p8:List (List V)) (p9:Int) (b5:List V) (zBE:List (List V)) (zBF:Int):St:=⟨(jn 5 ((V.ptr 5 0)::((V.ptr 34 0)::((V.gs 32 p7)::((V.gs 32 p8)::((V.sc (.int .u32 p9))::(jn 138 []))))))),(gn 5 ((.live true b5)::(gn 28 ((.live false [(V.sl 1 zBE),(V.sc (.int .i64 zBF))])::(gn 113 [])))))⟩
def zfw (b22:List V) (zBE:List (List V)) (zBF:Int):St:=⟨(jn 22 ((V.ptr 22 0)::(jn 125 []))),(gn 22 ((.live true b22)::(gn 11 ((.live false [(V.sl 1 zBE),(V.sc (.int .i64 zBF))])::(gn 113 [])))))⟩
abbrev zcy (β:Type):Type:=List (List V)→List (List V)→Int→List V→List (List V)→Int→Option β
abbrev zcU (β:Type):Type:=List (List V)→List (List V)→Int→List (List V)→Int→Int→List V→List (List V)→Int→Option β
abbrev zeA (β:Type):Type:=List (List V)→List (List V)→Int→List V→List (List V)→Int→Option β
abbrev zeJ (β:Type):Type:=List (List V)→List (List V)→Int→Int→List V→List (List V)→Int→Option β
abbrev zgg (β:Type):Type:=List (List V)→List (List V)→Int→List V→List (List V)→Int→Option β
def zhw {β:Type} (xa:zi) (ye:yF) (zc:xj) (zb:ym) (za:zj) (yb:yk) (yd:xn) (yc:zl) (ze:xC) (L:Nat) (p0 p1:List (List V)) (k_fin:Bool→Option β) (k_hbbbbbbbaa:zcy β):Option β :=
 xa β L  (fun v0 =>
 ifb (!v0) (
 k_fin false) (
 ye β L p1 (fun v1 =>
 ifb (!v1) (
 k_fin true) (
 lt [(V.sc (.int .u32 (0:Int))),(V.sc (.bool false)),(V.sl 1 (xb 1 2 [(V.sc (.int .i64 (4:Int))),(V.sc (.int .i64 (7:Int)))])),(V.sl 35 ([]:List (List V))),(V.sl 32 ([]:List (List V)))] fun r2 =>
 zc β L p1 (fun v3 v4 =>
 k_hbbbbbbbaa ([]:List (List V)) ([]:List (List V)) (0:Int) r2 v3 v4)))))
theorem zn4 {β:Type} (xa:zi) (ye:yF) (zc:xj) (zb:ym) (za:zj) (yb:yk) (yd:xn) (yc:zl) (ze:xC) (L:Nat) (p0 p1:List (List V)) (k:KK β):xH zx (yx xa ye zc zb za yb yd yc ze L) L zV [(V.sl 1 p0),(V.sl 1 p1)] [] k=zhw xa ye zc zb za yb yd yc ze L p0 p1 (fun p0=>k (V.sc (.bool p0)) []) (fun p7 p8 p9 b5 zBE zBF=>yR (yu zx (yx xa ye zc zb za yb yd yc ze L) 0 L zaL) yU L (zW p7 p8 p9 b5 zBE zBF) (yH 0 (zaC (yu zx (yx xa ye zc zb za yb yd yc ze L) 0 L zbP) (za1 0 (CF.res zV) k)))):=by kernel_rfl
def zdW {β:Type} (xa:zi) (ye:yF) (zc:xj) (zb:ym) (za:zj) (yb:yk) (yd:xn) (yc:zl) (ze:xC) (L:Nat) (p7 p8:List (List V)) (p9:Int) (b5:List V) (zBE:List (List V)) (zBF:Int) (k_hbbbbbbbaa:zcy β) (k_hbbbbbbbaaababbbabbbabbba:zcU β) (k_x0:zeA β):Option β :=
 zb β L zBE zBF (fun v5 v6 v7 =>
 ifb v5 (
 za β L (5:Int) v6 v7 (fun v8 v9 v10 =>
 lt (IntKind.wrap .u32 v8) fun x11 =>
 lt (IntKind.wrap .u32 ((p9:Int)+x11)) fun x12 =>
 za β L (30:Int) v9 v10 (fun v13 v14 v15 =>
 lt (IntKind.wrap .u8 v13) fun x16 =>
 lt ([(V.sc (.int .u8 x16))]++List.replicate 31 (V.sc (.int .u8 (0:Int)))) fun r17 =>
 za β L (4:Int) v14 v15 (fun v18 v19 v20 =>
 ifb ((v18:Int) == (0:Int)) (
 chk (0+5≤(List.length b5)) (
 chk (0+32≤(List.length r17)) (
 yb β L (List.map V.dem (List.take 5 b5)) (List.take 32 r17) (fun v21 v22 =>
 chk ((List.length v21)=5∧0+5≤5) (
 lt (ya [(V.sc (.int .u32 (0:Int))),(V.sc (.bool false)),(V.gs 1 ([]:List (List V))),(V.gs 35 ([]:List (List V))),(V.gs 32 ([]:List (List V)))] 0 v21) fun r23 =>
 ifb ((v22:Int) == (0:Int)) (
 chk (0+5≤(List.length r23)) (
 chk (0+32≤(List.length r17)) (
 chk ((List.length (List.take 32 r17))=32∧0+32≤32) (
 chk ((List.length p8+List.length (xb 32 1 (ya (List.replicate 32 (V.sc (.int .u8 (0:Int)))) 0 (List.take 32 r17)))) * 32≤yi∧List.length p8+List.length (xb 32 1 (ya (List.replicate 32 (V.sc (.int .u8 (0:Int)))) 0 (List.take 32 r17)))≤yi) (
 lt (p8++(xb 32 1 (ya (List.replicate 32 (V.sc (.int .u8 (0:Int)))) 0 (List.take 32 r17)))) fun l24 =>
 chk ((List.length (List.take 5 r23))=5∧0+5≤(List.length b5)) (
 lt (ya b5 0 (List.take 5 r23)) fun r25 =>
 k_hbbbbbbbaa p7 l24 x12 r25 v19 v20)))))) (
 k_hbbbbbbbaa p7 p8 x12 b5 v19 v20)))))) (
 ifb ((v18:Int) == (1:Int)) (
 chk (0+5≤(List.length b5)) (
 yd β L (List.map V.dem (List.take 5 b5)) x12 (fun v26 v27 =>
 chk ((List.length v26)=5∧0+5≤5) (
 lt (ya [(V.sc (.int .u32 (0:Int))),(V.sc (.bool false)),(V.gs 1 ([]:List (List V))),(V.gs 35 ([]:List (List V))),(V.gs 32 ([]:List (List V)))] 0 v26) fun r28 =>
 chk (0+5≤(List.length r28)) (
 chk ((List.length (List.take 5 r28))=5∧0+5≤(List.length b5)) (
 lt (ya b5 0 (List.take 5 r28)) fun r29 =>
 k_hbbbbbbbaaababbbabbbabbba p7 p8 x12 v27 ((List.length v27:Nat):Int) (0:Int) r29 v19 v20)))) (fun v30 v31 =>
 chk ((List.length v30)=5∧0+5≤5) (
 lt (ya [(V.sc (.int .u32 (0:Int))),(V.sc (.bool false)),(V.gs 1 ([]:List (List V))),(V.gs 35 ([]:List (List V))),(V.gs 32 ([]:List (List V)))] 0 v30) fun r32 =>
 chk (0+5≤(List.length r32)) (
 chk ((List.length (List.take 5 r32))=5∧0+5≤(List.length b5)) (
 lt (ya b5 0 (List.take 5 r32)) fun r33 =>
 k_hbbbbbbbaaababbbabbbabbba p7 p8 x12 v31 ((List.length v31:Nat):Int) (0:Int) r33 v19 v20)))))) (
 chk (0+5≤(List.length b5)) (
 za β L (9:Int) v19 v20 (fun v34 v35 v36 =>
 lt (IntKind.wrap .i64 ((v34:Int) - (1:Int))) fun x37 =>
 chk (0+32≤(List.length r17)) (
 yc β L (List.map V.dem (List.take 5 b5)) x37 (List.take 32 r17) x12 (10:Int) (fun v38 v39 v40 =>
 chk ((List.length v38)=5∧0+5≤5) (
 lt (ya [(V.sc (.int .u32 (0:Int))),(V.sc (.bool false)),(V.gs 1 ([]:List (List V))),(V.gs 35 ([]:List (List V))),(V.gs 32 ([]:List (List V)))] 0 v38) fun r41 =>
 ifb ((v40:Int) == (0:Int)) (
 ifb (decide (v39 ≥ (0:Int))) (
 chk (0+5≤(List.length r41)) (
 chk (0+32≤(List.length r17)) (
 chk ((List.length (List.take 32 r17))=32∧0+32≤32) (
 chk ((List.length p7+List.length (xb 32 1 (ya (List.replicate 32 (V.sc (.int .u8 (0:Int)))) 0 (List.take 32 r17)))) * 32≤yi∧List.length p7+List.length (xb 32 1 (ya (List.replicate 32 (V.sc (.int .u8 (0:Int)))) 0 (List.take 32 r17)))≤yi) (
 lt (p7++(xb 32 1 (ya (List.replicate 32 (V.sc (.int .u8 (0:Int)))) 0 (List.take 32 r17)))) fun l42 =>
 chk ((List.length (List.take 5 r41))=5∧0+5≤(List.length b5)) (
 lt (ya b5 0 (List.take 5 r41)) fun r43 =>
 k_hbbbbbbbaa l42 p8 x12 r43 v35 v36)))))) (
 k_hbbbbbbbaa p7 p8 x12 b5 v35 v36)) (
 k_hbbbbbbbaa p7 p8 x12 b5 v35 v36)))))))))))) (
 k_x0 p7 p8 p9 b5 v6 v7))
theorem zju {β:Type} (xa:zi) (ye:yF) (zc:xj) (zb:ym) (za:zj) (yb:yk) (yd:xn) (yc:zl) (ze:xC) (L:Nat) (p7 p8:List (List V)) (p9:Int) (b5:List V) (zBE:List (List V)) (zBF:Int) (X:St→Option β) (K:KT β):yu zx (yx xa ye zc zb za yb yd yc ze L) 0 L zaL (zW p7 p8 p9 b5 zBE zBF) (zdL yU X K)=zdW xa ye zc zb za yb yd yc ze L p7 p8 p9 b5 zBE zBF (fun p7 p8 p9 b5 zBE zBF=>X (zW p7 p8 p9 b5 zBE zBF)) (fun p7 p8 p9 p94 p95 p96 b5 zBE zBF=>yR (yu zx (yx xa ye zc zb za yb yd yc ze L) 0 L zQ) zae L (y5 p7 p8 p9 p94 p95 p96 b5 zBE zBF) (yH 3 (yH 2 (yH 1 (zdL yU X K))))) (fun p7 p8 p9 b5 zBE zBF=>K (.exit 0) (zcT p7 p8 p9 b5 zBE zBF)):=by kernel_rfl
def zdx {β:Type} (xa:zi) (ye:yF) (zc:xj) (zb:ym) (za:zj) (yb:yk) (yd:xn) (yc:zl) (ze:xC) (L:Nat) (p7 p8:List (List V)) (p9:Int) (b5:List V) (zBE:List (List V)) (zBF:Int) (k_hbbbbbbbbbbaba:zeJ β):Option β :=
 chk (0+5≤(List.length b5)) (
 lt (IntKind.wrap .u32 ((p9:Int)+(10:Int))) fun x44 =>
 yd β L (List.map V.dem (List.take 5 b5)) x44 (fun v45 v46 =>
 chk ((List.length v45)=5∧0+5≤5) (
 lt (ya [(V.sc (.int .u32 (0:Int))),(V.sc (.bool false)),(V.gs 1 ([]:List (List V))),(V.gs 35 ([]:List (List V))),(V.gs 32 ([]:List (List V)))] 0 v45) fun r47 =>
 chk ((List.length p8+List.length v46) * 32≤yi∧List.length p8+List.length v46≤yi) (
 lt (p8++v46) fun l48 =>
 k_hbbbbbbbbbbaba l48 p7 ((List.length p7:Nat):Int) (0:Int) r47 zBE zBF))) (fun v49 v50 =>
 chk ((List.length v49)=5∧0+5≤5) (
 lt (ya [(V.sc (.int .u32 (0:Int))),(V.sc (.bool false)),(V.gs 1 ([]:List (List V))),(V.gs 35 ([]:List (List V))),(V.gs 32 ([]:List (List V)))] 0 v49) fun r51 =>
 chk ((List.length p8+List.length v50) * 32≤yi∧List.length p8+List.length v50≤yi) (
 lt (p8++v50) fun l52 =>
 k_hbbbbbbbbbbaba l52 p7 ((List.length p7:Nat):Int) (0:Int) r51 zBE zBF))))
theorem ziG {β:Type} (xa:zi) (ye:yF) (zc:xj) (zb:ym) (za:zj) (yb:yk) (yd:xn) (yc:zl) (ze:xC) (L:Nat) (p7 p8:List (List V)) (p9:Int) (b5:List V) (zBE:List (List V)) (zBF:Int) (k:KK β):(yH 0 (zaC (yu zx (yx xa ye zc zb za yb yd yc ze L) 0 L zbP) (za1 0 (CF.res zV) k))) (.exit 0) (zcT p7 p8 p9 b5 zBE zBF)=zdx xa ye zc zb za yb yd yc ze L p7 p8 p9 b5 zBE zBF (fun p8 zB1 zB2 zB0 b22 zBE zBF=>yR (yu zx (yx xa ye zc zb za yb yd yc ze L) 0 L zaO) zbR L (zbu p8 zB1 zB2 zB0 b22 zBE zBF) (yH 5 (zaC (yu zx (yx xa ye zc zb za yb yd yc ze L) 0 L zcf) (za1 0 (CF.res zV) k)))):=by kernel_rfl
def zad {β:Type} (xa:zi) (ye:yF) (zc:xj) (zb:ym) (za:zj) (yb:yk) (yd:xn) (yc:zl) (ze:xC) (L:Nat) (p7 p8:List (List V)) (p9:Int) (p94:List (List V)) (p95 p96:Int) (b5:List V) (zBE:List (List V)) (zBF:Int) (k_ret:Bool→List (List V)→Int→Option β) (k_hbbbbbbbaaababbbabbbabbba:zcU β) (k_x3:zgg β):Option β :=
 ifb (decide (p96 < p95)) (
 idx p94 p96 fun c53 =>
 chk ((List.length (List.take 32 c53))=32∧0+32≤32) (
 lt (ya (List.replicate 32 (V.sc (.int .u8 (0:Int)))) 0 (List.take 32 c53)) fun r54 =>
 chk (0+32≤(List.length r54)) (
 ze β L p8 (List.take 32 r54) (fun v55 =>
 ifb v55 (
 k_ret false zBE zBF) (
 chk (0+32≤(List.length r54)) (
 ze β L p7 (List.take 32 r54) (fun v56 =>
 ifb (!v56) (
 k_ret false zBE zBF) (
 chk (0+5≤(List.length b5)) (
 chk (0+32≤(List.length r54)) (
 yb β L (List.map V.dem (List.take 5 b5)) (List.take 32 r54) (fun v57 v58 =>
 chk ((List.length v57)=5∧0+5≤5) (
 lt (ya [(V.sc (.int .u32 (0:Int))),(V.sc (.bool false)),(V.gs 1 ([]:List (List V))),(V.gs 35 ([]:List (List V))),(V.gs 32 ([]:List (List V)))] 0 v57) fun r59 =>
 ifb ((v58:Int) != (0:Int)) (
 k_ret false zBE zBF) (
 chk (0+5≤(List.length r59)) (
 chk (0+32≤(List.length r54)) (
 chk ((List.length (List.take 32 r54))=32∧0+32≤32) (
 chk ((List.length p8+List.length (xb 32 1 (ya (List.replicate 32 (V.sc (.int .u8 (0:Int)))) 0 (List.take 32 r54)))) * 32≤yi∧List.length p8+List.length (xb 32 1 (ya (List.replicate 32 (V.sc (.int .u8 (0:Int)))) 0 (List.take 32 r54)))≤yi) (
 lt (p8++(xb 32 1 (ya (List.replicate 32 (V.sc (.int .u8 (0:Int)))) 0 (List.take 32 r54)))) fun l60 =>
 chk ((List.length (List.take 5 r59))=5∧0+5≤(List.length b5)) (
 lt (ya b5 0 (List.take 5 r59)) fun r61 =>
 lt (IntKind.wrap .i64 ((p96:Int)+(1:Int))) fun x62 =>
 k_hbbbbbbbaaababbbabbbabbba p7 l60 p9 p94 p95 x62 r61 zBE zBF)))))))))))))))))) (
 k_x3 p7 p8 p9 b5 zBE zBF)
theorem zeY {β:Type} (xa:zi) (ye:yF) (zc:xj) (zb:ym) (za:zj) (yb:yk) (yd:xn) (yc:zl) (ze:xC) (L:Nat) (p7 p8:List (List V)) (p9:Int) (p94:List (List V)) (p95 p96:Int) (b5:List V) (zBE:List (List V)) (zBF:Int) (X:St→Option β) (K:KT β):yu zx (yx xa ye zc zb za yb yd yc ze L) 0 L zQ (y5 p7 p8 p9 p94 p95 p96 b5 zBE zBF) (zdL zae X K)=zad xa ye zc zb za yb yd yc ze L p7 p8 p9 p94 p95 p96 b5 zBE zBF (fun p4 zBE zBF=>K .ret (yS p4 zBE zBF)) (fun p7 p8 p9 p94 p95 p96 b5 zBE zBF=>X (y5 p7 p8 p9 p94 p95 p96 b5 zBE zBF)) (fun p7 p8 p9 b5 zBE zBF=>K (.exit 3) (zfn p7 p8 p9 b5 zBE zBF)):=by kernel_rfl
def zc5 {β:Type} (xa:zi) (ye:yF) (zc:xj) (zb:ym) (za:zj) (yb:yk) (yd:xn) (yc:zl) (ze:xC) (L:Nat) (p8 zB1:List (List V)) (zB2 zB0:Int) (b22:List V) (zBE:List (List V)) (zBF:Int) (k_ret:Bool→List (List V)→Int→Option β) (k_hbbbbbbbbbbaba:zeJ β) (k_x5:List V→List (List V)→Int→Option β):Option β :=
 ifb (decide (zB0 < zB2)) (
 idx zB1 zB0 fun c63 =>
 chk ((List.length (List.take 32 c63))=32∧0+32≤32) (
 lt (ya (List.replicate 32 (V.sc (.int .u8 (0:Int)))) 0 (List.take 32 c63)) fun r64 =>
 chk (0+32≤(List.length r64)) (
 ze β L p8 (List.take 32 r64) (fun v65 =>
 ifb (!v65) (
 k_ret false zBE zBF) (
 lt (IntKind.wrap .i64 ((zB0:Int)+(1:Int))) fun x66 =>
 k_hbbbbbbbbbbaba p8 zB1 zB2 x66 b22 zBE zBF))))) (
 k_x5 b22 zBE zBF)
theorem zhP {β:Type} (xa:zi) (ye:yF) (zc:xj) (zb:ym) (za:zj) (yb:yk) (yd:xn) (yc:zl) (ze:xC) (L:Nat) (p8 zB1:List (List V)) (zB2 zB0:Int) (b22:List V) (zBE:List (List V)) (zBF:Int) (X:St→Option β) (K:KT β):yu zx (yx xa ye zc zb za yb yd yc ze L) 0 L zaO (zbu p8 zB1 zB2 zB0 b22 zBE zBF) (zdL zbR X K)=zc5 xa ye zc zb za yb yd yc ze L p8 zB1 zB2 zB0 b22 zBE zBF (fun p4 zBE zBF=>K .ret (yS p4 zBE zBF)) (fun p8 zB1 zB2 zB0 b22 zBE zBF=>X (zbu p8 zB1 zB2 zB0 b22 zBE zBF)) (fun b22 zBE zBF=>K (.exit 5) (zfw b22 zBE zBF)):=by kernel_rfl
def za5 {β:Type} (xa:zi) (ye:yF) (zc:xj) (zb:ym) (za:zj) (yb:yk) (yd:xn) (yc:zl) (ze:xC) (L:Nat) (p4:Bool) (zBE:List (List V)) (zBF:Int) (k_ret:Bool→List (List V)→Int→Option β):Option β :=
 k_ret p4 zBE zBF
theorem zeG {β:Type} (xa:zi) (ye:yF) (zc:xj) (zb:ym) (za:zj) (yb:yk) (yd:xn) (yc:zl) (ze:xC) (L:Nat) (p4:Bool) (zBE:List (List V)) (zBF:Int) (X:St→Option β) (K:KT β):(yH 3 (yH 2 (yH 1 (zdL yU X K)))) .ret (yS p4 zBE zBF)=za5 xa ye zc zb za yb yd yc ze L p4 zBE zBF (fun p4 zBE zBF=>K .ret (yS p4 zBE zBF)):=by kernel_rfl
def y8 {β:Type} (xa:zi) (ye:yF) (zc:xj) (zb:ym) (za:zj) (yb:yk) (yd:xn) (yc:zl) (ze:xC) (L:Nat) (p7 p8:List (List V)) (p9:Int) (b5:List V) (zBE:List (List V)) (zBF:Int) (k_hbbbbbbbaa:zcy β):Option β :=
 k_hbbbbbbbaa p7 p8 p9 b5 zBE zBF
theorem zeN {β:Type} (xa:zi) (ye:yF) (zc:xj) (zb:ym) (za:zj) (yb:yk) (yd:xn) (yc:zl) (ze:xC) (L:Nat) (p7 p8:List (List V)) (p9:Int) (b5:List V) (zBE:List (List V)) (zBF:Int) (X:St→Option β) (K:KT β):(yH 3 (yH 2 (yH 1 (zdL yU X K)))) (.exit 3) (zfn p7 p8 p9 b5 zBE zBF)=y8 xa ye zc zb za yb yd yc ze L p7 p8 p9 b5 zBE zBF (fun p7 p8 p9 b5 zBE zBF=>X (zW p7 p8 p9 b5 zBE zBF)):=by kernel_rfl
def zef {β:Type} (xa:zi) (ye:yF) (zc:xj) (zb:ym) (za:zj) (yb:yk) (yd:xn) (yc:zl) (ze:xC) (L:Nat) (p4:Bool) (zBE:List (List V)) (zBF:Int) (k_fin:Bool→Option β):Option β :=
 k_fin p4
theorem zgZ {β:Type} (xa:zi) (ye:yF) (zc:xj) (zb:ym) (za:zj) (yb:yk) (yd:xn) (yc:zl) (ze:xC) (L:Nat) (p4:Bool) (zBE:List (List V)) (zBF:Int) (k:KK β):(yH 5 (zaC (yu zx (yx xa ye zc zb za yb yd yc ze L) 0 L zcf) (za1 0 (CF.res zV) k))) .ret (yS p4 zBE zBF)=zef xa ye zc zb za yb yd yc ze L p4 zBE zBF (fun p0=>k (V.sc (.bool p0)) []):=by kernel_rfl
def zcQ {β:Type} (xa:zi) (ye:yF) (zc:xj) (zb:ym) (za:zj) (yb:yk) (yd:xn) (yc:zl) (ze:xC) (L:Nat) (b22:List V) (zBE:List (List V)) (zBF:Int) (k_fin:Bool→Option β):Option β :=
 cLd 35 b22 3 fun v67 =>
 k_fin ((((List.length v67:Nat):Int):Int) == (0:Int))
theorem zhc {β:Type} (xa:zi) (ye:yF) (zc:xj) (zb:ym) (za:zj) (yb:yk) (yd:xn) (yc:zl) (ze:xC) (L:Nat) (b22:List V) (zBE:List (List V)) (zBF:Int) (k:KK β):(yH 5 (zaC (yu zx (yx xa ye zc zb za yb yd yc ze L) 0 L zcf) (za1 0 (CF.res zV) k))) (.exit 5) (zfw b22 zBE zBF)=zcQ xa ye zc zb za yb yd yc ze L b22 zBE zBF (fun p0=>k (V.sc (.bool p0)) []):=by kernel_rfl
def zdj {β:Type} (xa:zi) (ye:yF) (zc:xj) (zb:ym) (za:zj) (yb:yk) (yd:xn) (yc:zl) (ze:xC) (L:Nat) (p4:Bool) (zBE:List (List V)) (zBF:Int) (k_fin:Bool→Option β):Option β :=
 k_fin p4
theorem zib {β:Type} (xa:zi) (ye:yF) (zc:xj) (zb:ym) (za:zj) (yb:yk) (yd:xn) (yc:zl) (ze:xC) (L:Nat) (p4:Bool) (zBE:List (List V)) (zBF:Int) (k:KK β):(yH 0 (zaC (yu zx (yx xa ye zc zb za yb yd yc ze L) 0 L zbP) (za1 0 (CF.res zV) k))) .ret (yS p4 zBE zBF)=zdj xa ye zc zb za yb yd yc ze L p4 zBE zBF (fun p0=>k (V.sc (.bool p0)) []):=by kernel_rfl
def zL {β:Type} (xa:zi) (ye:yF) (zc:xj) (zb:ym) (za:zj) (yb:yk) (yd:xn) (yc:zl) (ze:xC) (L:Nat) (k_ret:Bool→List (List V)→Int→Option β) (k_x3:zgg β):Nat→List (List V)→List (List V)→Int→List (List V)→Int→Int→List V→List (List V)→Int→Option β
 | 0,_,_,_,_,_,_,_,_,_=>none
 | n+1,p7,p8,p9,p94,p95,p96,b5,zBE,zBF=>zad xa ye zc zb za yb yd yc ze L p7 p8 p9 p94 p95 p96 b5 zBE zBF k_ret (fun p7 p8 p9 p94 p95 p96 b5 zBE zBF=>zL xa ye zc zb za yb yd yc ze L k_ret k_x3 n p7 p8 p9 p94 p95 p96 b5 zBE zBF) k_x3
theorem zcK {β:Type} (xa:zi) (ye:yF) (zc:xj) (zb:ym) (za:zj) (yb:yk) (yd:xn) (yc:zl) (ze:xC) (L:Nat) (K:KT β):∀ (n:Nat) (p7 p8:List (List V)) (p9:Int) (p94:List (List V)) (p95 p96:Int) (b5:List V) (zBE:List (List V)) (zBF:Int),yR (yu zx (yx xa ye zc zb za yb yd yc ze L) 0 L zQ) zae n (y5 p7 p8 p9 p94 p95 p96 b5 zBE zBF) K=zL xa ye zc zb za yb yd yc ze L (fun p4 zBE zBF=>K .ret (yS p4 zBE zBF)) (fun p7 p8 p9 b5 zBE zBF=>K (.exit 3) (zfn p7 p8 p9 b5 zBE zBF)) n p7 p8 p9 p94 p95 p96 b5 zBE zBF:=by
 intro n
 induction n with
 | zero=>intros; rfl
 | succ n ih =>
  intro p7 p8 p9 p94 p95 p96 b5 zBE zBF
  refine (zeY xa ye zc zb za yb yd yc ze L p7 p8 p9 p94 p95 p96 b5 zBE zBF (fun σ=>yR (yu zx (yx xa ye zc zb za yb yd yc ze L) 0 L zQ) zae n σ K) K).trans ?_
  simp only [ih]
  rfl
def zcA {β:Type} (xa:zi) (ye:yF) (zc:xj) (zb:ym) (za:zj) (yb:yk) (yd:xn) (yc:zl) (ze:xC) (L:Nat) (p7 p8:List (List V)) (p9:Int) (b5:List V) (zBE:List (List V)) (zBF:Int) (k_hbbbbbbbaa:zcy β) (k_x0:zeA β) (k_ret:Bool→List (List V)→Int→Option β):Option β :=
 zdW xa ye zc zb za yb yd yc ze L p7 p8 p9 b5 zBE zBF k_hbbbbbbbaa (fun p7 p8 p9 p94 p95 p96 b5 zBE zBF=>zL xa ye zc zb za yb yd yc ze L (fun p4 zBE zBF=>za5 xa ye zc zb za yb yd yc ze L p4 zBE zBF k_ret) (fun p7 p8 p9 b5 zBE zBF=>y8 xa ye zc zb za yb yd yc ze L p7 p8 p9 b5 zBE zBF k_hbbbbbbbaa) L p7 p8 p9 p94 p95 p96 b5 zBE zBF) k_x0
theorem ziX {β:Type} (xa:zi) (ye:yF) (zc:xj) (zb:ym) (za:zj) (yb:yk) (yd:xn) (yc:zl) (ze:xC) (L:Nat) (p7 p8:List (List V)) (p9:Int) (b5:List V) (zBE:List (List V)) (zBF:Int) (X:St→Option β) (K:KT β):yu zx (yx xa ye zc zb za yb yd yc ze L) 0 L zaL (zW p7 p8 p9 b5 zBE zBF) (zdL yU X K)=zcA xa ye zc zb za yb yd yc ze L p7 p8 p9 b5 zBE zBF (fun p7 p8 p9 b5 zBE zBF=>X (zW p7 p8 p9 b5 zBE zBF)) (fun p7 p8 p9 b5 zBE zBF=>K (.exit 0) (zcT p7 p8 p9 b5 zBE zBF)) (fun p4 zBE zBF=>K .ret (yS p4 zBE zBF)):=by
 refine (zju xa ye zc zb za yb yd yc ze L p7 p8 p9 b5 zBE zBF X K).trans ?_
 unfold zcA
 first
  | (simp only [zcK,zeG,zeN]; done)
  | (simp only [zcK]; rfl)
def zaV {β:Type} (xa:zi) (ye:yF) (zc:xj) (zb:ym) (za:zj) (yb:yk) (yd:xn) (yc:zl) (ze:xC) (L:Nat) (k_x0:zeA β) (k_ret:Bool→List (List V)→Int→Option β):Nat→List (List V)→List (List V)→Int→List V→List (List V)→Int→Option β
 | 0,_,_,_,_,_,_=>none
 | n+1,p7,p8,p9,b5,zBE,zBF=>zcA xa ye zc zb za yb yd yc ze L p7 p8 p9 b5 zBE zBF (fun p7 p8 p9 b5 zBE zBF=>zaV xa ye zc zb za yb yd yc ze L k_x0 k_ret n p7 p8 p9 b5 zBE zBF) k_x0 k_ret
theorem ze1 {β:Type} (xa:zi) (ye:yF) (zc:xj) (zb:ym) (za:zj) (yb:yk) (yd:xn) (yc:zl) (ze:xC) (L:Nat) (K:KT β):∀ (n:Nat) (p7 p8:List (List V)) (p9:Int) (b5:List V) (zBE:List (List V)) (zBF:Int),yR (yu zx (yx xa ye zc zb za yb yd yc ze L) 0 L zaL) yU n (zW p7 p8 p9 b5 zBE zBF) K=zaV xa ye zc zb za yb yd yc ze L (fun p7 p8 p9 b5 zBE zBF=>K (.exit 0) (zcT p7 p8 p9 b5 zBE zBF)) (fun p4 zBE zBF=>K .ret (yS p4 zBE zBF)) n p7 p8 p9 b5 zBE zBF:=by
 intro n
 induction n with
 | zero=>intros; rfl
 | succ n ih =>
  intro p7 p8 p9 b5 zBE zBF
  refine (ziX xa ye zc zb za yb yd yc ze L p7 p8 p9 b5 zBE zBF (fun σ=>yR (yu zx (yx xa ye zc zb za yb yd yc ze L) 0 L zaL) yU n σ K) K).trans ?_
  simp only [ih]
  rfl
def za2 {β:Type} (xa:zi) (ye:yF) (zc:xj) (zb:ym) (za:zj) (yb:yk) (yd:xn) (yc:zl) (ze:xC) (L:Nat) (k_ret:Bool→List (List V)→Int→Option β) (k_x5:List V→List (List V)→Int→Option β):Nat→List (List V)→List (List V)→Int→Int→List V→List (List V)→Int→Option β
 | 0,_,_,_,_,_,_,_=>none
 | n+1,p8,zB1,zB2,zB0,b22,zBE,zBF=>zc5 xa ye zc zb za yb yd yc ze L p8 zB1 zB2 zB0 b22 zBE zBF k_ret (fun p8 zB1 zB2 zB0 b22 zBE zBF=>za2 xa ye zc zb za yb yd yc ze L k_ret k_x5 n p8 zB1 zB2 zB0 b22 zBE zBF) k_x5
theorem zec {β:Type} (xa:zi) (ye:yF) (zc:xj) (zb:ym) (za:zj) (yb:yk) (yd:xn) (yc:zl) (ze:xC) (L:Nat) (K:KT β):∀ (n:Nat) (p8 zB1:List (List V)) (zB2 zB0:Int) (b22:List V) (zBE:List (List V)) (zBF:Int),yR (yu zx (yx xa ye zc zb za yb yd yc ze L) 0 L zaO) zbR n (zbu p8 zB1 zB2 zB0 b22 zBE zBF) K=za2 xa ye zc zb za yb yd yc ze L (fun p4 zBE zBF=>K .ret (yS p4 zBE zBF)) (fun b22 zBE zBF=>K (.exit 5) (zfw b22 zBE zBF)) n p8 zB1 zB2 zB0 b22 zBE zBF:=by
 intro n
 induction n with
 | zero=>intros; rfl
 | succ n ih =>
  intro p8 zB1 zB2 zB0 b22 zBE zBF
  refine (zhP xa ye zc zb za yb yd yc ze L p8 zB1 zB2 zB0 b22 zBE zBF (fun σ=>yR (yu zx (yx xa ye zc zb za yb yd yc ze L) 0 L zaO) zbR n σ K) K).trans ?_
  simp only [ih]
  rfl
def zbb {β:Type} (xa:zi) (ye:yF) (zc:xj) (zb:ym) (za:zj) (yb:yk) (yd:xn) (yc:zl) (ze:xC) (L:Nat) (p7 p8:List (List V)) (p9:Int) (b5:List V) (zBE:List (List V)) (zBF:Int) (k_fin:Bool→Option β):Option β :=
 zdx xa ye zc zb za yb yd yc ze L p7 p8 p9 b5 zBE zBF (fun p8 zB1 zB2 zB0 b22 zBE zBF=>za2 xa ye zc zb za yb yd yc ze L (fun p4 zBE zBF=>zef xa ye zc zb za yb yd yc ze L p4 zBE zBF k_fin) (fun b22 zBE zBF=>zcQ xa ye zc zb za yb yd yc ze L b22 zBE zBF k_fin) L p8 zB1 zB2 zB0 b22 zBE zBF)
theorem zif {β:Type} (xa:zi) (ye:yF) (zc:xj) (zb:ym) (za:zj) (yb:yk) (yd:xn) (yc:zl) (ze:xC) (L:Nat) (p7 p8:List (List V)) (p9:Int) (b5:List V) (zBE:List (List V)) (zBF:Int) (k:KK β):(yH 0 (zaC (yu zx (yx xa ye zc zb za yb yd yc ze L) 0 L zbP) (za1 0 (CF.res zV) k))) (.exit 0) (zcT p7 p8 p9 b5 zBE zBF)=zbb xa ye zc zb za yb yd yc ze L p7 p8 p9 b5 zBE zBF (fun p0=>k (V.sc (.bool p0)) []):=by
 refine (ziG xa ye zc zb za yb yd yc ze L p7 p8 p9 b5 zBE zBF k).trans ?_
 unfold zbb
 first
  | (simp only [zec,zgZ,zhc]; done)
  | (simp only [zec]; rfl)
def zfa {β:Type} (xa:zi) (ye:yF) (zc:xj) (zb:ym) (za:zj) (yb:yk) (yd:xn) (yc:zl) (ze:xC) (L:Nat) (p0 p1:List (List V)) (k_fin:Bool→Option β):Option β :=
 zhw xa ye zc zb za yb yd yc ze L p0 p1 k_fin (fun p7 p8 p9 b5 zBE zBF=>zaV xa ye zc zb za yb yd yc ze L (fun p7 p8 p9 b5 zBE zBF=>zbb xa ye zc zb za yb yd yc ze L p7 p8 p9 b5 zBE zBF k_fin) (fun p4 zBE zBF=>zdj xa ye zc zb za yb yd yc ze L p4 zBE zBF k_fin) L p7 p8 p9 b5 zBE zBF)
theorem zof {β:Type} (xa:zi) (ye:yF) (zc:xj) (zb:ym) (za:zj) (yb:yk) (yd:xn) (yc:zl) (ze:xC) (L:Nat) (p0 p1:List (List V)) (k:KK β):xH zx (yx xa ye zc zb za yb yd yc ze L) L zV [(V.sl 1 p0),(V.sl 1 p1)] [] k=zfa xa ye zc zb za yb yd yc ze L p0 p1 (fun p0=>k (V.sc (.bool p0)) []):=by
 refine (zn4 xa ye zc zb za yb yd yc ze L p0 p1 k).trans ?_
 unfold zfa
 first
  | (simp only [ze1,zif,zib]; done)
  | (simp only [ze1]; rfl)
abbrev zqy:=∀ (β:Type),Nat→List (List V)→List (List V)→(Bool→Option β)→Option β
def zdd (β:Type) (L:Nat) (p0 p1:List (List V)) (k_fin:Bool→Option β):Option β:=zfa xa ye zc zb za yb yd yc ze L p0 p1 k_fin
def zhH (zdd:zqy) (L:Nat) (β:Type) (args:List V) (bor:Bor) (k:KK β):Option β:=match args,bor with
 | [a0,a1],[]=>aL 1 a0 fun p0=>aL 1 a1 fun p1=>zdd β L p0 p1 (fun p0=>k (V.sc (.bool p0)) [])
 | _,_=>none
theorem znP (L:Nat) (β:Type) (args:List V) (bor:Bor) (k:KK β) (r:β) (h:zhH zdd L β args bor k=some r):xH zx (yx xa ye zc zb za yb yd yc ze L) L zV args bor k=some r:=by
 unfold zhH at h
 split at h
 ·have q:=zb0 h; clear h; obtain ⟨p0,rfl,h⟩:=q
  have q:=zb0 h; clear h; obtain ⟨p1,rfl,h⟩:=q
  exact (zof xa ye zc zb za yb yd yc ze L p0 p1 k).trans h
 ·cases h
def gls:List (Nat × List V):=[]
def fg:List (Nat × Nat):=[(3,325),(4,326),(5,327),(6,328),(7,329),(8,330),(9,331),(10,332),(11,333),(12,217),(13,334),(14,335),(15,336),(16,337),(17,338),(18,225),(19,339),(20,231),(21,340),(22,341),(23,342),(24,343),(25,344),(26,345),(27,346),(28,347),(29,348),(30,349),(31,350),(32,351),(33,352),(34,353),(35,247),(36,354),(37,274),(38,355),(39,356),(40,357),(41,358),(42,359),(43,360),(44,361),(45,362),(46,319),(47,363),(48,248),(49,364),(50,365),(51,366),(52,367),(53,368),(54,369),(55,370),(56,371),(57,372),(58,373),(59,254)]
def rows:List Row:=[⟨13,334,zmu,zdS⟩,⟨15,336,zmx,zdg⟩,⟨17,338,zjF,zbN⟩,⟨10,332,zmM,zh3⟩,⟨18,225,zos,zj3⟩,⟨35,247,zjy,zfd⟩,⟨12,217,zoA,zj5⟩,⟨20,231,zjE,zfe⟩,⟨19,339,zmD,zoo⟩,⟨38,355,zk9,zmL⟩,⟨21,340,zmg,znC⟩,⟨54,369,zkt,zfG⟩,⟨39,356,zlX,xS⟩,⟨58,373,zle,zgj⟩,⟨57,372,zda,zz⟩,⟨47,363,zmG,zf2⟩,⟨59,254,zdE,zJ⟩,⟨48,248,zdf,zaR⟩,⟨25,344,zlC,zhk⟩,⟨43,360,zf7,zcZ⟩,⟨55,370,zdG,zbe⟩,⟨56,371,zdB,zbc⟩,⟨41,358,zlf,zgl⟩,⟨42,359,zlV,zhr⟩,⟨27,346,zmq,zh2⟩,⟨50,365,znh,zpM⟩,⟨49,364,zmN,zoB⟩,⟨45,362,zme,znx⟩,⟨26,345,zlI,znB⟩,⟨46,319,zl9,zng⟩,⟨28,347,zmt,zop⟩,⟨33,352,zim,zjx⟩,⟨24,343,zmp,zou⟩,⟨7,329,ziv,zjC⟩,⟨51,366,zdy,za9⟩,⟨29,348,zmc,zhp⟩,⟨30,349,zlE,znn⟩,⟨53,368,zlT,zhh⟩,⟨52,367,zcW,xI⟩,⟨31,350,znr,zjo⟩,⟨32,351,znD,zo2⟩,⟨8,330,zhR,ziS⟩,⟨34,353,zoq,zkc⟩,⟨36,354,znm,zdD⟩,⟨9,331,zji,zV⟩]
theorem zt4:zaa Try.prog (zX fg gls) zmu 13=some zdS:=by kernel_rfl
theorem zui:zaa Try.prog (zX fg gls) zmx 15=some zdg:=by kernel_rfl
theorem zqs:zaa Try.prog (zX fg gls) zjF 17=some zbN:=by kernel_rfl
theorem ztR:zaa Try.prog (zX fg gls) zmM 10=some zh3:=by kernel_rfl
theorem zvM:zaa Try.prog (zX fg gls) zos 18=some zj3:=by kernel_rfl
theorem zqq:zaa Try.prog (zX fg gls) zjy 35=some zfd:=by kernel_rfl
theorem zvF:zaa Try.prog (zX fg gls) zoA 12=some zj5:=by kernel_rfl
theorem zqp:zaa Try.prog (zX fg gls) zjE 20=some zfe:=by kernel_rfl
theorem zt9:zaa Try.prog (zX fg gls) zmD 19=some zoo:=by kernel_rfl
theorem zrL:zaa Try.prog (zX fg gls) zk9 38=some zmL:=by kernel_rfl
theorem ztd:zaa Try.prog (zX fg gls) zmg 21=some znC:=by kernel_rfl
theorem zrb:zaa Try.prog (zX fg gls) zkt 54=some zfG:=by kernel_rfl
theorem ztg:zaa Try.prog (zX fg gls) zlX 39=some xS:=by kernel_rfl
theorem zrJ:zaa Try.prog (zX fg gls) zle 58=some zgj:=by kernel_rfl
theorem zgf:zaa Try.prog (zX fg gls) zda 57=some zz:=by kernel_rfl
theorem zuh:zaa Try.prog (zX fg gls) zmG 47=some zf2:=by kernel_rfl
theorem zhx:zaa Try.prog (zX fg gls) zdE 59=some zJ:=by kernel_rfl
theorem zgA:zaa Try.prog (zX fg gls) zdf 48=some zaR:=by kernel_rfl
theorem zsV:zaa Try.prog (zX fg gls) zlC 25=some zhk:=by kernel_rfl
theorem zl5:zaa Try.prog (zX fg gls) zf7 43=some zcZ:=by kernel_rfl
theorem zhD:zaa Try.prog (zX fg gls) zdG 55=some zbe:=by kernel_rfl
theorem zhB:zaa Try.prog (zX fg gls) zdB 56=some zbc:=by kernel_rfl
theorem zrZ:zaa Try.prog (zX fg gls) zlf 41=some zgl:=by kernel_rfl
theorem ztm:zaa Try.prog (zX fg gls) zlV 42=some zhr:=by kernel_rfl
theorem zt0:zaa Try.prog (zX fg gls) zmq 27=some zh2:=by kernel_rfl
theorem zvr:zaa Try.prog (zX fg gls) znh 50=some zpM:=by kernel_rfl
theorem ztU:zaa Try.prog (zX fg gls) zmN 49=some zoB:=by kernel_rfl
theorem zsL:zaa Try.prog (zX fg gls) zme 45=some znx:=by kernel_rfl
theorem zsS:zaa Try.prog (zX fg gls) zlI 26=some znB:=by kernel_rfl
theorem ztb:zaa Try.prog (zX fg gls) zl9 46=some zng:=by kernel_rfl
theorem zua:zaa Try.prog (zX fg gls) zmt 28=some zop:=by kernel_rfl
theorem zoS:zaa Try.prog (zX fg gls) zim 33=some zjx:=by kernel_rfl
theorem zt2:zaa Try.prog (zX fg gls) zmp 24=some zou:=by kernel_rfl
theorem zoH:zaa Try.prog (zX fg gls) ziv 7=some zjC:=by kernel_rfl
theorem zg6:zaa Try.prog (zX fg gls) zdy 51=some za9:=by kernel_rfl
theorem zs9:zaa Try.prog (zX fg gls) zmc 29=some zhp:=by kernel_rfl
theorem zsT:zaa Try.prog (zX fg gls) zlE 30=some znn:=by kernel_rfl
theorem zte:zaa Try.prog (zX fg gls) zlT 53=some zhh:=by kernel_rfl
theorem zf5:zaa Try.prog (zX fg gls) zcW 52=some xI:=by kernel_rfl
theorem zuU:zaa Try.prog (zX fg gls) znr 31=some zjo:=by kernel_rfl
theorem zu3:zaa Try.prog (zX fg gls) znD 32=some zo2:=by kernel_rfl
theorem zn7:zaa Try.prog (zX fg gls) zhR 8=some ziS:=by kernel_rfl
theorem zvE:zaa Try.prog (zX fg gls) zoq 34=some zkc:=by kernel_rfl
theorem zvp:zaa Try.prog (zX fg gls) znm 36=some zdD:=by kernel_rfl
theorem zpx:zaa Try.prog (zX fg gls) zji 9=some zV:=by kernel_rfl
theorem zzJ:∀ r ∈ rows,(r.f,r.g) ∈ fg∧zfX Try.prog r.f=true∧zaa Try.prog (zX fg gls) r.h r.f=some r.c:=by
 intro r hr
 simp only [rows,List.mem_cons,List.not_mem_nil,or_false] at hr
 rcases hr with rfl | rfl | rfl | rfl | rfl | rfl | rfl | rfl | rfl | rfl | rfl | rfl | rfl | rfl | rfl | rfl | rfl | rfl | rfl | rfl | rfl | rfl | rfl | rfl | rfl | rfl | rfl | rfl | rfl | rfl | rfl | rfl | rfl | rfl | rfl | rfl | rfl | rfl | rfl | rfl | rfl | rfl | rfl | rfl | rfl
 ·exact ⟨of_decide_eq_true (by kernel_rfl),by kernel_rfl,zt4⟩
 ·exact ⟨of_decide_eq_true (by kernel_rfl),by kernel_rfl,zui⟩
 ·exact ⟨of_decide_eq_true (by kernel_rfl),by kernel_rfl,zqs⟩
 ·exact ⟨of_decide_eq_true (by kernel_rfl),by kernel_rfl,ztR⟩
 ·exact ⟨of_decide_eq_true (by kernel_rfl),by kernel_rfl,zvM⟩
 ·exact ⟨of_decide_eq_true (by kernel_rfl),by kernel_rfl,zqq⟩
 ·exact ⟨of_decide_eq_true (by kernel_rfl),by kernel_rfl,zvF⟩
 ·exact ⟨of_decide_eq_true (by kernel_rfl),by kernel_rfl,zqp⟩
 ·exact ⟨of_decide_eq_true (by kernel_rfl),by kernel_rfl,zt9⟩
 ·exact ⟨of_decide_eq_true (by kernel_rfl),by kernel_rfl,zrL⟩
 ·exact ⟨of_decide_eq_true (by kernel_rfl),by kernel_rfl,ztd⟩
 ·exact ⟨of_decide_eq_true (by kernel_rfl),by kernel_rfl,zrb⟩
 ·exact ⟨of_decide_eq_true (by kernel_rfl),by kernel_rfl,ztg⟩
 ·exact ⟨of_decide_eq_true (by kernel_rfl),by kernel_rfl,zrJ⟩
 ·exact ⟨of_decide_eq_true (by kernel_rfl),by kernel_rfl,zgf⟩
 ·exact ⟨of_decide_eq_true (by kernel_rfl),by kernel_rfl,zuh⟩
 ·exact ⟨of_decide_eq_true (by kernel_rfl),by kernel_rfl,zhx⟩
 ·exact ⟨of_decide_eq_true (by kernel_rfl),by kernel_rfl,zgA⟩
 ·exact ⟨of_decide_eq_true (by kernel_rfl),by kernel_rfl,zsV⟩
 ·exact ⟨of_decide_eq_true (by kernel_rfl),by kernel_rfl,zl5⟩
 ·exact ⟨of_decide_eq_true (by kernel_rfl),by kernel_rfl,zhD⟩
 ·exact ⟨of_decide_eq_true (by kernel_rfl),by kernel_rfl,zhB⟩
 ·exact ⟨of_decide_eq_true (by kernel_rfl),by kernel_rfl,zrZ⟩
 ·exact ⟨of_decide_eq_true (by kernel_rfl),by kernel_rfl,ztm⟩
 ·exact ⟨of_decide_eq_true (by kernel_rfl),by kernel_rfl,zt0⟩
 ·exact ⟨of_decide_eq_true (by kernel_rfl),by kernel_rfl,zvr⟩
 ·exact ⟨of_decide_eq_true (by kernel_rfl),by kernel_rfl,ztU⟩
 ·exact ⟨of_decide_eq_true (by kernel_rfl),by kernel_rfl,zsL⟩
 ·exact ⟨of_decide_eq_true (by kernel_rfl),by kernel_rfl,zsS⟩
 ·exact ⟨of_decide_eq_true (by kernel_rfl),by kernel_rfl,ztb⟩
 ·exact ⟨of_decide_eq_true (by kernel_rfl),by kernel_rfl,zua⟩
 ·exact ⟨of_decide_eq_true (by kernel_rfl),by kernel_rfl,zoS⟩
 ·exact ⟨of_decide_eq_true (by kernel_rfl),by kernel_rfl,zt2⟩
 ·exact ⟨of_decide_eq_true (by kernel_rfl),by kernel_rfl,zoH⟩
 ·exact ⟨of_decide_eq_true (by kernel_rfl),by kernel_rfl,zg6⟩
 ·exact ⟨of_decide_eq_true (by kernel_rfl),by kernel_rfl,zs9⟩
 ·exact ⟨of_decide_eq_true (by kernel_rfl),by kernel_rfl,zsT⟩
 ·exact ⟨of_decide_eq_true (by kernel_rfl),by kernel_rfl,zte⟩
 ·exact ⟨of_decide_eq_true (by kernel_rfl),by kernel_rfl,zf5⟩
 ·exact ⟨of_decide_eq_true (by kernel_rfl),by kernel_rfl,zuU⟩
 ·exact ⟨of_decide_eq_true (by kernel_rfl),by kernel_rfl,zu3⟩
 ·exact ⟨of_decide_eq_true (by kernel_rfl),by kernel_rfl,zn7⟩
 ·exact ⟨of_decide_eq_true (by kernel_rfl),by kernel_rfl,zvE⟩
 ·exact ⟨of_decide_eq_true (by kernel_rfl),by kernel_rfl,zvp⟩
 ·exact ⟨of_decide_eq_true (by kernel_rfl),by kernel_rfl,zpx⟩
theorem zA4:Try.prog.follows .mixedOrders=true:=by kernel_rfl
theorem zA5:zzb fg=true:=by kernel_rfl
theorem zA8 (L d:Nat):zgG Try.prog (zX fg gls) (evF (zaG rows) zy8 L d):=zzM zA4 zA5 zzJ L d
theorem ztk (L:Nat):FOk (zaG rows) L 334 (ziR zaD L) 1:=zak (D:=0) (by kernel_rfl) fun m hm=>⟨zb4,zb7 L,zai,zsd L⟩
theorem zsU (L:Nat):FOk (zaG rows) L 336 (ziO zaB L) 1:=zak (D:=0) (by kernel_rfl) fun m hm=>⟨zbK,zbJ L,zai,zrI L⟩
theorem zpv (L:Nat):FOk (zaG rows) L 338 (zeu zp L) 1:=zak (D:=0) (by kernel_rfl) fun m hm=>⟨zaj,zah L,zai,zoO L⟩
theorem zs7 (L:Nat):FOk (zaG rows) L 332 (zfg xa L) 2:=zak (D:=1) (by kernel_rfl) fun m hm=>⟨zk5,zkZ zaD zaB zp L,(yL (yL (yL zai (ztk L m (by omega))) (zsU L m (by omega))) (zpv L m (by omega))),zr7 L⟩
theorem zuR (L:Nat):FOk (zaG rows) L 225 (zhm zc L) 1:=zak (D:=0) (by kernel_rfl) fun m hm=>⟨zmO,zm1 L,zai,zt5 L⟩
theorem zkv (L:Nat):FOk (zaG rows) L 247 (zem zb L) 1:=zak (D:=0) (by kernel_rfl) fun m hm=>⟨zhE,zhv L,zai,zoI L⟩
theorem zuZ (L:Nat):FOk (zaG rows) L 217 (zfN xf L) 1:=zak (D:=0) (by kernel_rfl) fun m hm=>⟨zm4,zm0 L,zai,ztP L⟩
theorem zpS (L:Nat):FOk (zaG rows) L 231 (zeo za L) 2:=zak (D:=1) (by kernel_rfl) fun m hm=>⟨zhI,zhA zb xf L,(yL (yL zai (zkv L m (by omega))) (zuZ L m (by omega))),zoP L⟩
theorem zqm (L:Nat):FOk (zaG rows) L 369 (zgv zd L) 1:=zak (D:=0) (by kernel_rfl) fun m hm=>⟨zig,zh6 L,zai,zpJ L⟩
theorem ziL (L:Nat):FOk (zaG rows) L 356 (zeP zr L) 2:=zak (D:=1) (by kernel_rfl) fun m hm=>⟨xB,zC zd L,(yL zai (zqm L m (by omega))),zrd L⟩
theorem zlZ (L:Nat):FOk (zaG rows) L 373 (zfv xd L) 1:=zak (D:=0) (by kernel_rfl) fun m hm=>⟨zjk,ziK L,zai,zqn L⟩
theorem zf3 (L:Nat):FOk (zaG rows) L 372 (zaP xk L) 2:=zak (D:=1) (by kernel_rfl) fun m hm=>⟨yw,xw xd L,(yL zai (zlZ L m (by omega))),zfL L⟩
theorem ztl (L:Nat):FOk (zaG rows) L 363 (zjd z7 L) 3:=zak (D:=2) (by kernel_rfl) fun m hm=>⟨zkI,zkJ xk L,(yL zai (zf3 L m (by omega))),zrx L⟩
theorem zhg (L:Nat):FOk (zaG rows) L 254 (zbs yo L) 1:=zak (D:=0) (by kernel_rfl) fun m hm=>⟨xA,yA L,zai,zgK L⟩
theorem zds (L:Nat):FOk (zaG rows) L 248 (y7 yg L) 2:=zak (D:=1) (by kernel_rfl) fun m hm=>⟨zbV,zbU yo L,(yL zai (zhg L m (by omega))),zf1 L⟩
theorem zr1 (L:Nat):FOk (zaG rows) L 344 (zh4 yV L) 1:=zak (D:=0) (by kernel_rfl) fun m hm=>⟨zjH,zj0 L,zai,zrl L⟩
theorem zli (L:Nat):FOk (zaG rows) L 360 (zdl yz L) 1:=zak (D:=0) (by kernel_rfl) fun m hm=>⟨zer,zes L,zai,zk7 L⟩
theorem zg8 (L:Nat):FOk (zaG rows) L 370 (zbr xm L) 1:=zak (D:=0) (by kernel_rfl) fun m hm=>⟨zcs,zcw L,zai,zgW L⟩
theorem zhd (L:Nat):FOk (zaG rows) L 371 (zbv zn L) 1:=zak (D:=0) (by kernel_rfl) fun m hm=>⟨zcv,zcr L,zai,zgO L⟩
theorem zh7 (L:Nat):FOk (zaG rows) L 358 (zek yl L) 2:=zak (D:=1) (by kernel_rfl) fun m hm=>⟨zja,ziT yz xm zn L,(yL (yL (yL zai (zli L m (by omega))) (zg8 L m (by omega))) (zhd L m (by omega))),zqA L⟩
theorem zsf (L:Nat):FOk (zaG rows) L 359 (zh0 yM L) 1:=zak (D:=0) (by kernel_rfl) fun m hm=>⟨zjY,zjR L,zai,zrn L⟩
theorem zsP (L:Nat):FOk (zaG rows) L 346 (zgC yc L) 4:=zak (D:=3) (by kernel_rfl) fun m hm=>⟨zkL,zkV zr z7 yg yV yl yM L,(yL (yL (yL (yL (yL (yL zai (ziL L m (by omega))) (ztl L m (by omega))) (zds L m (by omega))) (zr1 L m (by omega))) (zh7 L m (by omega))) (zsf L m (by omega))),zrD L⟩
theorem zfl (L:Nat):FOk (zaG rows) L 372 (zau zk L) 2:=zak (D:=1) (by kernel_rfl) fun m hm=>⟨xr,zs xd L,(yL zai (zlZ L m (by omega))),ze6 L⟩
theorem zqx (L:Nat):FOk (zaG rows) L 363 (zgq zN L) 3:=zak (D:=2) (by kernel_rfl) fun m hm=>⟨zic,zie zk L,(yL zai (zfl L m (by omega))),zpl L⟩
theorem zgR (L:Nat):FOk (zaG rows) L 366 (zbd xl L) 1:=zak (D:=0) (by kernel_rfl) fun m hm=>⟨zch,zci L,zai,zgB L⟩
theorem zst (L:Nat):FOk (zaG rows) L 348 (zf8 yb L) 4:=zak (D:=3) (by kernel_rfl) fun m hm=>⟨zjZ,zjQ zr yg yl zN xl L,(yL (yL (yL (yL (yL zai (ziL L m (by omega))) (zds L m (by omega))) (zh7 L m (by omega))) (zqx L m (by omega))) (zgR L m (by omega))),zro L⟩
theorem zmI (L:Nat):FOk (zaG rows) L 368 (zga xe L) 1:=zak (D:=0) (by kernel_rfl) fun m hm=>⟨zjU,zjJ L,zai,zri L⟩
theorem zfo (L:Nat):FOk (zaG rows) L 372 (zan xc L) 2:=zak (D:=1) (by kernel_rfl) fun m hm=>⟨yt,xt xe L,(yL zai (zmI L m (by omega))),ze9 L⟩
theorem zfI (L:Nat):FOk (zaG rows) L 367 (zaI xi L) 3:=zak (D:=2) (by kernel_rfl) fun m hm=>⟨yy,xy xc xe L,(yL (yL zai (zfo L m (by omega))) (zmI L m (by omega))),zfz L⟩
theorem zuj (L:Nat):FOk (zaG rows) L 350 (zhK yd L) 4:=zak (D:=3) (by kernel_rfl) fun m hm=>⟨zl6,zl1 zr yl xi L,(yL (yL (yL zai (ziL L m (by omega))) (zh7 L m (by omega))) (zfI L m (by omega))),zsX L⟩
theorem zuK (L:Nat):FOk (zaG rows) L 353 (zlm ye L) 1:=zak (D:=0) (by kernel_rfl) fun m hm=>⟨zmR,zm8 L,zai,zt8 L⟩
theorem ztQ (L:Nat):FOk (zaG rows) L 354 (zkd ze L) 1:=zak (D:=0) (by kernel_rfl) fun m hm=>⟨zbZ,zbX L,zai,zsJ L⟩
theorem zoN (L:Nat):FOk (zaG rows) L 331 (zhH zdd L) 5:=zak (D:=4) (by kernel_rfl) fun m hm=>⟨zx,yx xa ye zc zb za yb yd yc ze L,(yL (yL (yL (yL (yL (yL (yL (yL (yL zai (zs7 L m (by omega))) (zuK L m (by omega))) (zuR L m (by omega))) (zkv L m (by omega))) (zpS L m (by omega))) (zst L m (by omega))) (zuj L m (by omega))) (zsP L m (by omega))) (ztQ L m (by omega))),znP L⟩
end
end Go.Proofs.Ytpbbfpfmdckclaa
