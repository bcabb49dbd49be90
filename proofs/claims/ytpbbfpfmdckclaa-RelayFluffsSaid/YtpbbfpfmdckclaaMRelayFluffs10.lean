/- Part 10 of the proof of RelayFluffs: an abstract machine over plain values, its soundness, and the functions of the program on plain values. -/
import Derived.Test.YtpbbfpfmdckclaaMRelayFluffs9
namespace Go.Proofs.Ytpbbfpfmdckclaa
section
set_option maxRecDepth 100000
set_option linter.unusedVariables false
set_option linter.unusedSimpArgs false
def xZ:CC:=(.seq (.reg [oo 9 (.bin .lss (tq 8) (tq 7))])
 (.seq (.cond (tq 9)
 .skip
 (.seq (.mask (bl 0 19) (bl 458703 19))
 (.exit 0)))
 (.seq (.block 1 (.seq (.reg [oo 10 (.move (tq 8) false),
   oo 5 (.move (tq 10) false)])
 (.seq (.reg [oo 11 (.move (tq 1) false),
   oo 12 (.move (tq 0) false),
   oo 13 (.move (tq 5) false),
   oo 14 (.indexAddrS 35 (tq 12) (tq 13)),
   oo 15 (.load true 35 (tq 14) false),
   oo 16 (.callv (tq 11) [((tq 15),0)] [])])
 (.cond (tq 16)
 (.seq (.reg [oo 17 (.move (tq 5) false),
   oo 4 (.move (tq 17) false)])
 (.seq (.mask (bl 16 19) (bl 458719 19))
 .ret))
 .skip))))
 (.reg [oo 18 (.bin .add (tq 8) (.const (.sc (.int .i64 1)))),
   oo 8 (.move (tq 18) false)]))))
def zbk:CC:=(.seq (.reg [oo 4 (.move (.const (.sc (.int .i64 (-1)))) false)])
 .ret)
def yN:CF:=zaF
def xt:Nat→Sh:=zap []
def yu (zg:zI) (L:Nat):CBC:=(xJ 368 (zhj zg L) noC)
def y6:St→St:=zag 3 (bl 387 19) (bl 458703 19)
def xU (p0l:Nat) (p7 p8:Int) (b0:List V) (zCB:Int) (zCD:List (List V)):St:=⟨((V.own 0 0 p0l 35)::((V.fn 368 [(V.ptr 1 0),(V.ptr 2 0)])::(jn 5 ((V.sc (.int .i64 p7))::((V.sc (.int .i64 p8))::(jn 10 [])))))),((.live true b0)::((.live true [(V.sc (.int .u32 zCB))])::((.live false [(V.gs 32 zCD)])::(gn 19 []))))⟩
def zaZ (p4:Int) (b0:List V) (zCB:Int) (zCD:List (List V)):St:=⟨(jn 4 ((V.sc (.int .i64 p4))::(jn 14 []))),((.live true b0)::((.live true [(V.sc (.int .u32 zCB))])::((.live false [(V.gs 32 zCD)])::(gn 19 []))))⟩
def za4 (b0:List V) (zCB:Int) (zCD:List (List V)):St:=⟨(jn 19 []),((.live true b0)::((.live true [(V.sc (.int .u32 zCB))])::((.live false [(V.gs 32 zCD)])::(gn 19 []))))⟩
def zbD {β:Type} (zg:zI) (L:Nat) (p0l:Nat) (b0:List V) (zCB:Int) (zCD:List (List V)) (k_hbaba:Nat→Int→Int→List V→Int→List (List V)→Option β):Option β :=
 k_hbaba p0l ((p0l:Nat):Int) (0:Int) b0 zCB zCD
theorem zfR {β:Type} (zg:zI) (L:Nat) (p0l:Nat) (b0:List V) (zCB:Int) (zCD:List (List V)) (k:KK β):zF xt (yu zg L) L yN [(V.own 0 0 p0l 35),(V.fn 368 [(V.ptr 1 0),(V.ptr 2 0)])] [(.live true b0),(.live true [(V.sc (.int .u32 zCB))]),(.live false [(V.gs 32 zCD)])] k=zbD zg L p0l b0 zCB zCD (fun p0l p7 p8 b0 zCB zCD=>yF (yk xt (yu zg L) 3 L xZ) y6 L (xU p0l p7 p8 b0 zCB zCD) (xv 0 (zK (yk xt (yu zg L) 3 L zbk) (yR 3 (CF.res yN) k)))):=by kernel_rfl
def za3 {β:Type} (zg:zI) (L:Nat) (p0l:Nat) (p7 p8:Int) (b0:List V) (zCB:Int) (zCD:List (List V)) (k_ret:Int→List V→Int→List (List V)→Option β) (k_hbaba:Nat→Int→Int→List V→Int→List (List V)→Option β) (k_x0:List V→Int→List (List V)→Option β):Option β :=
 ifb (decide (p8 < p7)) (
 chk (0≤p8∧p8 < ((p0l:Nat):Int)) (
 chk ((0+((Int.toNat p8) * 35))+35≤(List.length b0)) (
 zg β L (List.take 35 (List.drop (0+((Int.toNat p8) * 35)) b0)) zCB zCD (fun v0 v1 v2 =>
 ifb v0 (
 k_ret p8 b0 v1 v2) (
 lt (IntKind.wrap .i64 ((p8:Int)+(1:Int))) fun x3 =>
 k_hbaba p0l p7 x3 b0 v1 v2))))) (
 k_x0 b0 zCB zCD)
theorem zfl {β:Type} (zg:zI) (L:Nat) (p0l:Nat) (p7 p8:Int) (b0:List V) (zCB:Int) (zCD:List (List V)) (X:St→Option β) (K:KT β):yk xt (yu zg L) 3 L xZ (xU p0l p7 p8 b0 zCB zCD) (zbr y6 X K)=za3 zg L p0l p7 p8 b0 zCB zCD (fun p4 b0 zCB zCD=>K .ret (zaZ p4 b0 zCB zCD)) (fun p0l p7 p8 b0 zCB zCD=>X (xU p0l p7 p8 b0 zCB zCD)) (fun b0 zCB zCD=>K (.exit 0) (za4 b0 zCB zCD)):=by kernel_rfl
def zcd {β:Type} (zg:zI) (L:Nat) (p4:Int) (b0:List V) (zCB:Int) (zCD:List (List V)) (k_fin:Int→List V→Int→List (List V)→Option β):Option β :=
 k_fin p4 b0 zCB zCD
theorem zeN {β:Type} (zg:zI) (L:Nat) (p4:Int) (b0:List V) (zCB:Int) (zCD:List (List V)) (k:KK β):(xv 0 (zK (yk xt (yu zg L) 3 L zbk) (yR 3 (CF.res yN) k))) .ret (zaZ p4 b0 zCB zCD)=zcd zg L p4 b0 zCB zCD (fun p0 b0 zCB zCD=>k (V.sc (.int .i64 p0)) [(.live true b0),(.live true [(V.sc (.int .u32 zCB))]),(.live false [(V.gs 32 zCD)])]):=by kernel_rfl
def zcp {β:Type} (zg:zI) (L:Nat) (b0:List V) (zCB:Int) (zCD:List (List V)) (k_fin:Int→List V→Int→List (List V)→Option β):Option β :=
 k_fin (-1:Int) b0 zCB zCD
theorem zeT {β:Type} (zg:zI) (L:Nat) (b0:List V) (zCB:Int) (zCD:List (List V)) (k:KK β):(xv 0 (zK (yk xt (yu zg L) 3 L zbk) (yR 3 (CF.res yN) k))) (.exit 0) (za4 b0 zCB zCD)=zcp zg L b0 zCB zCD (fun p0 b0 zCB zCD=>k (V.sc (.int .i64 p0)) [(.live true b0),(.live true [(V.sc (.int .u32 zCB))]),(.live false [(V.gs 32 zCD)])]):=by kernel_rfl
def zQ {β:Type} (zg:zI) (L:Nat) (k_ret:Int→List V→Int→List (List V)→Option β) (k_x0:List V→Int→List (List V)→Option β):Nat→Nat→Int→Int→List V→Int→List (List V)→Option β
 | 0,_,_,_,_,_,_=>none
 | n+1,p0l,p7,p8,b0,zCB,zCD=>za3 zg L p0l p7 p8 b0 zCB zCD k_ret (fun p0l p7 p8 b0 zCB zCD=>zQ zg L k_ret k_x0 n p0l p7 p8 b0 zCB zCD) k_x0
theorem zce {β:Type} (zg:zI) (L:Nat) (K:KT β):∀ (n:Nat) (p0l:Nat) (p7 p8:Int) (b0:List V) (zCB:Int) (zCD:List (List V)),yF (yk xt (yu zg L) 3 L xZ) y6 n (xU p0l p7 p8 b0 zCB zCD) K=zQ zg L (fun p4 b0 zCB zCD=>K .ret (zaZ p4 b0 zCB zCD)) (fun b0 zCB zCD=>K (.exit 0) (za4 b0 zCB zCD)) n p0l p7 p8 b0 zCB zCD:=by
 intro n
 induction n with
 | zero=>intros; rfl
 | succ n ih =>
  intro p0l p7 p8 b0 zCB zCD
  refine (zfl zg L p0l p7 p8 b0 zCB zCD (fun σ=>yF (yk xt (yu zg L) 3 L xZ) y6 n σ K) K).trans ?_
  simp only [ih]
  rfl
def zau {β:Type} (zg:zI) (L:Nat) (p0l:Nat) (b0:List V) (zCB:Int) (zCD:List (List V)) (k_fin:Int→List V→Int→List (List V)→Option β):Option β :=
 zbD zg L p0l b0 zCB zCD (fun p0l p7 p8 b0 zCB zCD=>zQ zg L (fun p4 b0 zCB zCD=>zcd zg L p4 b0 zCB zCD k_fin) (fun b0 zCB zCD=>zcp zg L b0 zCB zCD k_fin) L p0l p7 p8 b0 zCB zCD)
theorem zfW {β:Type} (zg:zI) (L:Nat) (p0l:Nat) (b0:List V) (zCB:Int) (zCD:List (List V)) (k:KK β):zF xt (yu zg L) L yN [(V.own 0 0 p0l 35),(V.fn 368 [(V.ptr 1 0),(V.ptr 2 0)])] [(.live true b0),(.live true [(V.sc (.int .u32 zCB))]),(.live false [(V.gs 32 zCD)])] k=zau zg L p0l b0 zCB zCD (fun p0 b0 zCB zCD=>k (V.sc (.int .i64 p0)) [(.live true b0),(.live true [(V.sc (.int .u32 zCB))]),(.live false [(V.gs 32 zCD)])]):=by
 refine (zfR zg L p0l b0 zCB zCD k).trans ?_
 unfold zau
 first
  | (simp only [zce,zeN,zeT]; done)
  | (simp only [zce]; rfl)
abbrev yt:=∀ (β:Type),Nat→Nat→List V→Int→List (List V)→(Int→List V→Int→List (List V)→Option β)→Option β
def ze (β:Type) (L:Nat) (p0l:Nat) (b0:List V) (zCB:Int) (zCD:List (List V)) (k_fin:Int→List V→Int→List (List V)→Option β):Option β:=zau zg L p0l b0 zCB zCD k_fin
def zat (ze:yt) (L:Nat) (β:Type) (args:List V) (bor:Bor) (k:KK β):Option β:=match args,bor with
 | [a0,a1],[(.live true b0),(.live true [w1_0]),(.live false [w2_0])]=>aO0 0 35 a0 fun p0l=>aF 368 [(1,0),(2,0)] a1 (aI .u32 w1_0 fun zCB=>aGs 32 w2_0 fun zCD=>ze β L p0l b0 zCB zCD (fun p0 b0 zCB zCD=>k (V.sc (.int .i64 p0)) [(.live true b0),(.live true [(V.sc (.int .u32 zCB))]),(.live false [(V.gs 32 zCD)])]))
 | _,_=>none
theorem zfY (L:Nat) (β:Type) (args:List V) (bor:Bor) (k:KK β) (r:β) (h:zat ze L β args bor k=some r):zF xt (yu zg L) L yN args bor k=some r:=by
 unfold zat at h
 split at h
 ·have q:=zll h; clear h; obtain ⟨p0l,rfl,h⟩:=q
  have q:=zwB h; clear h; obtain ⟨rfl,h⟩:=q
  have q:=zcr h; clear h; obtain ⟨zCB,rfl,h⟩:=q
  have q:=zuo h; clear h; obtain ⟨zCD,rfl,h⟩:=q
  exact (zfW zg L p0l _ zCB zCD k).trans h
 ·cases h
def yO:CC:=(.seq (.seq (.reg [oo 16 (.move (tq 6) false),
   oo 17 (.move (tq 0) false),
   oo 18 (.lenS (tq 17)),
   oo 19 (.bin .lss (tq 16) (tq 18))])
 (.cond (tq 19)
 .skip
 (.seq (.mask (bl 33 42) (bl 4397777813311 42))
 (.exit 0))))
 (.seq (.block 1 (.seq (.reg [oo 22 (.move (tq 0) false),
   oo 23 (.move (tq 6) false),
   oo 24 (.indexAddrS 35 (tq 22) (tq 23)),
   oo 25 (.load true 35 (tq 24) false),
   oo 7 (.alloc true (rp 32 (.sc (.int .u8 0)) (rp 2 (.sc (.int .i64 0)) (rp 1 (.sc (.int .u32 0)) [])))),
   oz (.store 35 (tq 7) (tq 25))])
 (.seq (.reg [oo 26 (.move (tq 1) false),
   oo 27 (.load true 35 (tq 7) false),
   oo 28 (.callv (tq 26) [((tq 27),0)] []),
   oo 29 (.un .not (tq 28))])
 (.cond (tq 29)
 (.seq (.reg [oo 30 (.move (tq 0) false),
   oo 31 (.move (tq 5) false),
   oo 32 (.load true 35 (tq 7) false),
   oo 33 (.indexAddrS 35 (tq 30) (tq 31)),
   oz (.store 35 (tq 33) (tq 32))])
 (.reg [oo 34 (.move (tq 5) false),
   oo 35 (.bin .add (tq 34) (.const (.sc (.int .i64 1)))),
   oo 5 (.move (tq 35) false)]))
 .skip))))
 (.reg [oo 20 (.move (tq 6) false),
   oo 21 (.bin .add (tq 20) (.const (.sc (.int .i64 1)))),
   oo 6 (.move (tq 21) false)])))
def zbo:CC:=(.seq (.reg [oo 36 (.move (tq 0) false),
   oo 37 (.move (tq 5) false),
   oo 38 (.sliceS 35 (tq 36) (some (tq 37)) none none),
   oz (.clear 35 (rp 32 (.sc (.int .u8 0)) (rp 2 (.sc (.int .i64 0)) (rp 1 (.sc (.int .u32 0)) []))) (tq 38))])
 (.seq (.reg [oo 39 (.move (tq 0) true),
   oo 40 (.move (tq 5) false),
   oo 41 (.sliceS 35 (tq 39) none (some (tq 40)) none),
   oo 4 (.move (tq 41) true)])
 .ret))
def xK:CF:=⟨42,[.tmp 4],
 (.seq (.reg [oo 4 (.move (.const (.gs 35 [])) true)])
 (.seq (.reg [oo 8 (.move (tq 0) false),
   oo 9 (.move (tq 1) false),
   oo 10 (.call 372 [((tq 8),2),((tq 9),2)] []),
   oo 5 (.move (tq 10) false)])
 (.seq (.seq (.reg [oo 11 (.move (tq 5) false),
   oo 12 (.bin .eql (tq 11) (.const (.sc (.int .i64 (-1)))))])
 (.cond (tq 12)
 (.seq (.reg [oo 13 (.move (tq 0) true),
   oo 4 (.move (tq 13) true)])
 .ret)
 .skip))
 (.seq (.seq (.reg [oo 14 (.move (tq 5) false),
   oo 15 (.bin .add (tq 14) (.const (.sc (.int .i64 1)))),
   oo 6 (.move (tq 15) false)])
 (.block 0 (.loop (bl 99 42) (bl 4397777813375 42)
 yO)))
 zbo))))⟩
def zc8:Hint:=⟨[(0,0),(1,2),(3,0),(3,1),(12,0),(12,3)],[],[none,none,none,some ((bl 99 42),(bl 4397777813375 42)),none,some ((bl 33 42),(bl 4397777813311 42)),none,none,none],[],[],false,false⟩
def zz:Nat→Sh:=zap []
def yz (ze:yt) (zg:zI) (L:Nat):CBC:=(xJ 368 (zhj zg L) (xJ 372 (zat ze L) noC))
def z6:St→St:=zag 3 (bl 99 42) (bl 4397777813375 42)
def zU (p0l:Nat) (p5 p6:Int) (b0:List V) (zCB:Int) (zCD:List (List V)):St:=⟨((V.own 0 0 p0l 35)::((V.fn 368 [(V.ptr 1 0),(V.ptr 2 0)])::(jn 3 ((V.sc (.int .i64 p5))::((V.sc (.int .i64 p6))::(jn 35 [])))))),((.live true b0)::((.live true [(V.sc (.int .u32 zCB))])::((.live false [(V.gs 32 zCD)])::(gn 42 []))))⟩
def zbl (p0l:Nat) (p5:Int) (b0:List V) (zCB:Int) (zCD:List (List V)):St:=⟨((V.own 0 0 p0l 35)::(jn 4 ((V.sc (.int .i64 p5))::(jn 36 [])))),((.live true b0)::((.live true [(V.sc (.int .u32 zCB))])::((.live false [(V.gs 32 zCD)])::(gn 42 []))))⟩
def zaG {β:Type} (ze:yt) (zg:zI) (L:Nat) (p0l:Nat) (b0:List V) (zCB:Int) (zCD:List (List V)) (k_fin:Nat→List V→Int→List (List V)→Option β) (k_hbbbaba:Nat→Int→Int→List V→Int→List (List V)→Option β):Option β :=
 ze β L p0l b0 zCB zCD (fun v0 v1 v2 v3 =>
 chk ([(List.length v1),1,1]=[(List.length b0),1,1]) (
 ifb ((v0:Int) == (-1:Int)) (
 k_fin p0l v1 v2 v3) (
 lt (IntKind.wrap .i64 ((v0:Int)+(1:Int))) fun x4 =>
 k_hbbbaba p0l v0 x4 v1 v2 v3)))
theorem zgC {β:Type} (ze:yt) (zg:zI) (L:Nat) (p0l:Nat) (b0:List V) (zCB:Int) (zCD:List (List V)) (k:KK β):zF zz (yz ze zg L) L xK [(V.own 0 0 p0l 35),(V.fn 368 [(V.ptr 1 0),(V.ptr 2 0)])] [(.live true b0),(.live true [(V.sc (.int .u32 zCB))]),(.live false [(V.gs 32 zCD)])] k=zaG ze zg L p0l b0 zCB zCD (fun p0l b0 zCB zCD=>k (V.own 0 0 p0l 35) [(.live true b0),(.live true [(V.sc (.int .u32 zCB))]),(.live false [(V.gs 32 zCD)])]) (fun p0l p5 p6 b0 zCB zCD=>yF (yk zz (yz ze zg L) 3 L yO) z6 L (zU p0l p5 p6 b0 zCB zCD) (xv 0 (zK (yk zz (yz ze zg L) 3 L zbo) (yR 3 (CF.res xK) k)))):=by kernel_rfl
def yQ {β:Type} (ze:yt) (zg:zI) (L:Nat) (p0l:Nat) (p5 p6:Int) (b0:List V) (zCB:Int) (zCD:List (List V)) (k_hbbbaba:Nat→Int→Int→List V→Int→List (List V)→Option β) (k_x0:Nat→Int→List V→Int→List (List V)→Option β):Option β :=
 ifb (decide (p6 < ((p0l:Nat):Int))) (
 chk (0≤p6∧p6 < ((p0l:Nat):Int)) (
 chk ((0+((Int.toNat p6) * 35))+35≤(List.length b0)) (
 chk ((List.length (List.take 35 (List.drop (0+((Int.toNat p6) * 35)) b0)))=35∧0+35≤35) (
 lt (ya (List.replicate 32 (V.sc (.int .u8 (0:Int)))++[(V.sc (.int .i64 (0:Int))),(V.sc (.int .i64 (0:Int))),(V.sc (.int .u32 (0:Int)))]) 0 (List.take 35 (List.drop (0+((Int.toNat p6) * 35)) b0))) fun r5 =>
 chk (0+35≤(List.length r5)) (
 zg β L (List.take 35 r5) zCB zCD (fun v6 v7 v8 =>
 ifb (!v6) (
 chk (0+35≤(List.length r5)) (
 chk (0≤p5∧p5 < ((p0l:Nat):Int)) (
 chk ((List.length (List.take 35 r5))=35∧(0+((Int.toNat p5) * 35))+35≤(List.length b0)) (
 lt (ya b0 (0+((Int.toNat p5) * 35)) (List.take 35 r5)) fun r9 =>
 lt (IntKind.wrap .i64 ((p5:Int)+(1:Int))) fun x10 =>
 lt (IntKind.wrap .i64 ((p6:Int)+(1:Int))) fun x11 =>
 k_hbbbaba p0l x10 x11 r9 v7 v8)))) (
 lt (IntKind.wrap .i64 ((p6:Int)+(1:Int))) fun x12 =>
 k_hbbbaba p0l p5 x12 b0 v7 v8))))))) (
 k_x0 p0l p5 b0 zCB zCD)
theorem zfm {β:Type} (ze:yt) (zg:zI) (L:Nat) (p0l:Nat) (p5 p6:Int) (b0:List V) (zCB:Int) (zCD:List (List V)) (X:St→Option β) (K:KT β):yk zz (yz ze zg L) 3 L yO (zU p0l p5 p6 b0 zCB zCD) (zbr z6 X K)=yQ ze zg L p0l p5 p6 b0 zCB zCD (fun p0l p5 p6 b0 zCB zCD=>X (zU p0l p5 p6 b0 zCB zCD)) (fun p0l p5 b0 zCB zCD=>K (.exit 0) (zbl p0l p5 b0 zCB zCD)):=by kernel_rfl
def yW {β:Type} (ze:yt) (zg:zI) (L:Nat) (p0l:Nat) (p5:Int) (b0:List V) (zCB:Int) (zCD:List (List V)) (k_fin:Nat→List V→Int→List (List V)→Option β):Option β :=
 chk (0≤p5∧p5≤((p0l:Nat):Int)) (
 lt (ya b0 (0+((Int.toNat p5) * 35)) (List.flatten (List.replicate (p0l - (Int.toNat p5)) (List.replicate 32 (V.sc (.int .u8 (0:Int)))++[(V.sc (.int .i64 (0:Int))),(V.sc (.int .i64 (0:Int))),(V.sc (.int .u32 (0:Int)))])))) fun r13 =>
 chk (0≤p5∧p5≤((p0l:Nat):Int)) (
 k_fin ((Int.toNat p5) - 0) r13 zCB zCD))
theorem zeR {β:Type} (ze:yt) (zg:zI) (L:Nat) (p0l:Nat) (p5:Int) (b0:List V) (zCB:Int) (zCD:List (List V)) (k:KK β):(xv 0 (zK (yk zz (yz ze zg L) 3 L zbo) (yR 3 (CF.res xK) k))) (.exit 0) (zbl p0l p5 b0 zCB zCD)=yW ze zg L p0l p5 b0 zCB zCD (fun p0l b0 zCB zCD=>k (V.own 0 0 p0l 35) [(.live true b0),(.live true [(V.sc (.int .u32 zCB))]),(.live false [(V.gs 32 zCD)])]):=by kernel_rfl
def zG {β:Type} (ze:yt) (zg:zI) (L:Nat) (k_x0:Nat→Int→List V→Int→List (List V)→Option β):Nat→Nat→Int→Int→List V→Int→List (List V)→Option β
 | 0,_,_,_,_,_,_=>none
 | n+1,p0l,p5,p6,b0,zCB,zCD=>yQ ze zg L p0l p5 p6 b0 zCB zCD (fun p0l p5 p6 b0 zCB zCD=>zG ze zg L k_x0 n p0l p5 p6 b0 zCB zCD) k_x0
theorem zcb {β:Type} (ze:yt) (zg:zI) (L:Nat) (K:KT β):∀ (n:Nat) (p0l:Nat) (p5 p6:Int) (b0:List V) (zCB:Int) (zCD:List (List V)),yF (yk zz (yz ze zg L) 3 L yO) z6 n (zU p0l p5 p6 b0 zCB zCD) K=zG ze zg L (fun p0l p5 b0 zCB zCD=>K (.exit 0) (zbl p0l p5 b0 zCB zCD)) n p0l p5 p6 b0 zCB zCD:=by
 intro n
 induction n with
 | zero=>intros; rfl
 | succ n ih =>
  intro p0l p5 p6 b0 zCB zCD
  refine (zfm ze zg L p0l p5 p6 b0 zCB zCD (fun σ=>yF (yk zz (yz ze zg L) 3 L yO) z6 n σ K) K).trans ?_
  simp only [ih]
  rfl
def xW {β:Type} (ze:yt) (zg:zI) (L:Nat) (p0l:Nat) (b0:List V) (zCB:Int) (zCD:List (List V)) (k_fin:Nat→List V→Int→List (List V)→Option β):Option β :=
 zaG ze zg L p0l b0 zCB zCD k_fin (fun p0l p5 p6 b0 zCB zCD=>zG ze zg L (fun p0l p5 b0 zCB zCD=>yW ze zg L p0l p5 b0 zCB zCD k_fin) L p0l p5 p6 b0 zCB zCD)
theorem zgz {β:Type} (ze:yt) (zg:zI) (L:Nat) (p0l:Nat) (b0:List V) (zCB:Int) (zCD:List (List V)) (k:KK β):zF zz (yz ze zg L) L xK [(V.own 0 0 p0l 35),(V.fn 368 [(V.ptr 1 0),(V.ptr 2 0)])] [(.live true b0),(.live true [(V.sc (.int .u32 zCB))]),(.live false [(V.gs 32 zCD)])] k=xW ze zg L p0l b0 zCB zCD (fun p0l b0 zCB zCD=>k (V.own 0 0 p0l 35) [(.live true b0),(.live true [(V.sc (.int .u32 zCB))]),(.live false [(V.gs 32 zCD)])]):=by
 refine (zgC ze zg L p0l b0 zCB zCD k).trans ?_
 unfold xW
 first
  | (simp only [zcb,zeR]; done)
  | (simp only [zcb]; rfl)
abbrev zaD:=∀ (β:Type),Nat→Nat→List V→Int→List (List V)→(Nat→List V→Int→List (List V)→Option β)→Option β
def xk (β:Type) (L:Nat) (p0l:Nat) (b0:List V) (zCB:Int) (zCD:List (List V)) (k_fin:Nat→List V→Int→List (List V)→Option β):Option β:=xW ze zg L p0l b0 zCB zCD k_fin
def zaC (xk:zaD) (L:Nat) (β:Type) (args:List V) (bor:Bor) (k:KK β):Option β:=match args,bor with
 | [a0,a1],[(.live true b0),(.live true [w1_0]),(.live false [w2_0])]=>aO0 0 35 a0 fun p0l=>aF 368 [(1,0),(2,0)] a1 (aI .u32 w1_0 fun zCB=>aGs 32 w2_0 fun zCD=>xk β L p0l b0 zCB zCD (fun p0l b0 zCB zCD=>k (V.own 0 0 p0l 35) [(.live true b0),(.live true [(V.sc (.int .u32 zCB))]),(.live false [(V.gs 32 zCD)])]))
 | _,_=>none
theorem zgA (L:Nat) (β:Type) (args:List V) (bor:Bor) (k:KK β) (r:β) (h:zaC xk L β args bor k=some r):zF zz (yz ze zg L) L xK args bor k=some r:=by
 unfold zaC at h
 split at h
 ·have q:=zll h; clear h; obtain ⟨p0l,rfl,h⟩:=q
  have q:=zwB h; clear h; obtain ⟨rfl,h⟩:=q
  have q:=zcr h; clear h; obtain ⟨zCB,rfl,h⟩:=q
  have q:=zuo h; clear h; obtain ⟨zCD,rfl,h⟩:=q
  exact (zgz ze zg L p0l _ zCB zCD k).trans h
 ·cases h
def zkY:CF:=⟨22,[.cellS 4 5 true,.tmpP 5],
 (.seq (.reg [oo 2 (.box false (tq 0)),
   oo 3 (.box true (tq 1)),
   oo 4 (.alloc false [(.sc (.int .u32 0)),(.sc (.bool false)),(.gs 1 []),(.gs 35 []),(.gs 32 [])]),
   oo 5 (.move (.const (.gs 32 [])) true)])
 (.seq (.reg [oo 8 (.load true 5 (tq 2) false),
   oo 9 (.call 356 [((tq 8),1)] []),
   oo 6 (.move (tq 9) false)])
 (.seq (.reg [oo 10 (.load true 5 (tq 2) false),
   oo 11 (.call 358 [((tq 10),1)] [13,15,19]),
   oz (.store 5 (tq 2) (tq 11))])
 (.seq (.seq (.reg [oo 12 (.move (tq 6) false),
   oo 13 (.un .not (tq 12))])
 (.cond (tq 13)
 (.seq (.reg [oo 14 (.load true 5 (tq 2) true),
   oz (.store 5 (tq 4) (tq 14)),
   oo 5 (.move (.const (.gs 32 [])) true)])
 .ret)
 .skip))
 (.seq (.reg [oo 7 (.alloc false [(.gs 32 [])])])
 (.seq (.reg [oo 15 (.fieldAddr 3 (tq 2)),
   oo 16 (.load false 1 (tq 15) false),
   oo 17 (.makeFunc 368 [(tq 3),(tq 7)]),
   oo 18 (.call 367 [((tq 16),2),((tq 17),2)] []),
   oo 19 (.fieldAddr 3 (tq 2)),
   oz (.store 1 (tq 19) (tq 18))])
 (.seq (.dreg [] [(oo 20 (.load true 5 (tq 2) true),ql 2 [7] []),
   (oo 21 (.load false 1 (tq 7) false),ql 7 [2,4] []),
   (oz (.store 5 (tq 4) (tq 20)),ql 4 [7] []),
   (oo 5 (.move (tq 21) true),q0)])
 .ret)))))))⟩
def zps:Hint:=⟨[(0,3),(4,0),(4,2),(6,3),(7,0),(7,3)],[],[none,none,none],[],[(2,1,[13,15,19])],true,true⟩
def zny:Nat→Sh:=zap [(2,(.row [(.int .u32),.bool,(.sl 1),(.sl 35),(.sl 32)]))]
def znY (xx:zcW) (zs:zcg) (xk:zaD) (L:Nat):CBC:=(xJ 367 (zaC xk L) (xJ 358 (zeU zs L) (xJ 356 (zfv xx L) noC)))
def zoG {β:Type} (xx:zcW) (zs:zcg) (xk:zaD) (L:Nat) (p0:List V) (p1:Int) (k_fin:List V→List (List V)→Option β) (k_finv1:List V→List (List V)→Option β):Option β :=
 chk (List.length p0=5) (
 cI .u32 p0 0 fun v0 =>
 cB p0 1 fun v1 =>
 cL 1 p0 2 fun v2 =>
 cL 35 p0 3 fun v3 =>
 cL 32 p0 4 fun v4 =>
 xx β L [(V.sc (.int .u32 v0)),(V.sc (.bool v1)),(V.sl 1 v2),(V.sl 35 v3),(V.sl 32 v4)] (fun v5 =>
 zs β L [(V.sc (.int .u32 v0)),(V.sc (.bool v1)),(V.sl 1 v2),(V.sl 35 v3),(V.sl 32 v4)] (fun v6 v7 v8 v9 v10 v11 v12 v13 =>
 ifb (!v5) (
 k_fin [(V.sc (.int .u32 v6)),(V.sc (.bool v7)),(V.sl 1 (xb 1 v8 v11)),(V.sl 35 (xb 35 v9 v12)),(V.sl 32 (xb 32 v10 v13))] ([]:List (List V))) (
 xk β L v9 v12 p1 ([]:List (List V)) (fun v14 v15 v16 v17 =>
 chk ([(List.length v15),1,1]=[(List.length v12),1,1]) (
 k_finv1 [(V.sc (.int .u32 v6)),(V.sc (.bool v7)),(V.sl 1 (xb 1 v8 v11)),(V.sl 35 (xb 35 v14 v15)),(V.sl 32 (xb 32 v10 v13))] v17))))))
theorem zuj {β:Type} (xx:zcW) (zs:zcg) (xk:zaD) (L:Nat) (p0:List V) (p1:Int) (k:KK β):zF zny (znY xx zs xk L) L zkY [(V.agg p0),(V.sc (.int .u32 p1))] [] k=zoG xx zs xk L p0 p1 (fun zCT zCU=>k (V.tup [(V.agg zCT),(V.gs 32 zCU)]) []) (fun zCT zCU=>k (V.tup [(V.agg zCT),(V.sl 32 zCU)]) []):=by kernel_rfl
abbrev yq:=∀ (β:Type),Nat→List V→Int→(List V→List (List V)→Option β)→(List V→List (List V)→Option β)→Option β
def zf (β:Type) (L:Nat) (p0:List V) (p1:Int) (k_fin:List V→List (List V)→Option β) (k_finv1:List V→List (List V)→Option β):Option β:=zoG xx zs xk L p0 p1 k_fin k_finv1
def zjg (zf:yq) (L:Nat) (β:Type) (args:List V) (bor:Bor) (k:KK β):Option β:=match args,bor with
 | [a0,a1],[]=>aG a0 fun p0=>aI .u32 a1 fun p1=>zf β L p0 p1 (fun zCT zCU=>k (V.tup [(V.agg zCT),(V.gs 32 zCU)]) []) (fun zCT zCU=>k (V.tup [(V.agg zCT),(V.sl 32 zCU)]) [])
 | _,_=>none
theorem zuE (L:Nat) (β:Type) (args:List V) (bor:Bor) (k:KK β) (r:β) (h:zjg zf L β args bor k=some r):zF zny (znY xx zs xk L) L zkY args bor k=some r:=by
 unfold zjg at h
 split at h
 ·have q:=zcn h; clear h; obtain ⟨p0,rfl,h⟩:=q
  have q:=zcr h; clear h; obtain ⟨p1,rfl,h⟩:=q
  exact (zuj xx zs xk L p0 p1 k).trans h
 ·cases h
def zdf:CC:=(.seq (.seq (.reg [oo 16 (.move (tq 8) false),
   oo 17 (.fieldAddr 3 (tq 2)),
   oo 18 (.load false 1 (tq 17) false),
   oo 19 (.lenS (tq 18)),
   oo 20 (.bin .lss (tq 16) (tq 19))])
 (.cond (tq 20)
 .skip
 (.seq (.mask (bl 208 52) (bl 4080562528059131 52))
 (.exit 0))))
 (.seq (.block 1 (.seq (.reg [oo 23 (.fieldAddr 3 (tq 2)),
   oo 24 (.load false 1 (tq 23) false),
   oo 25 (.move (tq 8) false),
   oo 26 (.indexAddrS 35 (tq 24) (tq 25)),
   oo 27 (.fieldAddr 34 (tq 26)),
   oo 28 (.load false 1 (tq 27) false),
   oo 29 (.move (tq 1) false),
   oo 30 (.bin .leq (tq 28) (tq 29))])
 (.cond (tq 30)
 (.reg [oo 31 (.move (tq 7) true),
   oo 32 (.fieldAddr 3 (tq 2)),
   oo 33 (.load false 1 (tq 32) false),
   oo 34 (.move (tq 8) false),
   oo 35 (.indexAddrS 35 (tq 33) (tq 34)),
   oo 36 (.fieldAddr 0 (tq 35)),
   oo 37 (.load true 32 (tq 36) false),
   oo 38 (.buildSlice 32 1 (rp 32 (.sc (.int .u8 0)) []) [(0,32,(tq 37))]),
   oo 39 (.append 32 32 (tq 31) (tq 38)),
   oo 7 (.move (tq 39) true)])
 (.dreg [] [(oo 40 (.fieldAddr 3 (tq 6)),q0),
   (oo 41 (.load false 1 (tq 40) true),ql 6 [2] [47]),
   (oo 42 (.fieldAddr 3 (tq 2)),q0),
   (oo 43 (.load false 1 (tq 42) false),ql 2 [6] []),
   (oo 44 (.move (tq 8) false),q0),
   (oo 45 (.indexAddrS 35 (tq 43) (tq 44)),q0),
   (oo 46 (.load true 35 (tq 45) false),qc [6] []),
   (oo 47 (.buildSlice 35 1 (rp 32 (.sc (.int .u8 0)) (rp 2 (.sc (.int .i64 0)) (rp 1 (.sc (.int .u32 0)) []))) [(0,35,(tq 46))]),qn [6] []),
   (oo 48 (.append 35 56 (tq 41) (tq 47)),q0),
   (oo 49 (.fieldAddr 3 (tq 6)),q0),
   (oz (.store 1 (tq 49) (tq 48)),q0)]))))
 (.reg [oo 21 (.move (tq 8) false),
   oo 22 (.bin .add (tq 21) (.const (.sc (.int .i64 1)))),
   oo 8 (.move (tq 22) false)])))
def ziV:CC:=(.seq (.reg [oo 50 (.load true 5 (tq 6) true),
   oo 51 (.move (tq 7) true),
   oz (.store 5 (tq 4) (tq 50)),
   oo 5 (.move (tq 51) true)])
 .ret)
def ze8:CF:=⟨52,[.cellS 4 5 true,.tmpP 5],
 (.seq (.reg [oo 2 (.box true (tq 0)),
   oo 4 (.alloc false [(.sc (.int .u32 0)),(.sc (.bool false)),(.gs 1 []),(.gs 35 []),(.gs 32 [])]),
   oo 5 (.move (.const (.gs 32 [])) true)])
 (.seq (.reg [oo 9 (.load true 5 (tq 2) false),
   oo 10 (.call 355 [((tq 9),1)] [13,15,17]),
   oo 6 (.alloc false [(.sc (.int .u32 0)),(.sc (.bool false)),(.gs 1 []),(.gs 35 []),(.gs 32 [])]),
   oz (.store 5 (tq 6) (tq 10))])
 (.seq (.seq (.reg [oo 11 (.load true 5 (tq 2) false),
   oo 12 (.call 362 [((tq 11),1)] []),
   oo 13 (.un .not (tq 12))])
 (.cond (tq 13)
 (.seq (.reg [oo 14 (.load true 5 (tq 6) true),
   oz (.store 5 (tq 4) (tq 14)),
   oo 5 (.move (.const (.gs 32 [])) true)])
 .ret)
 .skip))
 (.seq (.reg [oo 7 (.move (.const (.gs 32 [])) true)])
 (.seq (.reg [oo 15 (.fieldAddr 3 (tq 6)),
   oz (.store 1 (tq 15) (.const (.gs 35 [])))])
 (.seq (.seq (.reg [oo 8 (.move (.const (.sc (.int .i64 0))) false)])
 (.block 0 (.loop (bl 470 52) (bl 4080562528059391 52)
 zdf)))
 ziV))))))⟩
def zph:Hint:=⟨[(0,0),(0,2),(3,0),(3,2),(4,0),(10,0),(10,9),(11,1),(12,0),(12,1),(12,3)],[],[none,none,none,some ((bl 470 52),(bl 4080562528059391 52)),none,some ((bl 208 52),(bl 4080562528059131 52)),none,none,none],[],[(1,1,[13,15,17])],true,true⟩
def zcI:Nat→Sh:=zap [(18,(.sl 35)),(24,(.sl 35)),(28,(.int .u32)),(33,(.sl 35)),(43,(.sl 35))]
def zcL (xg:yM) (xj:yV) (L:Nat):CBC:=(xJ 362 (zfu xj L) (xJ 355 (zdQ xg L) noC))
def zfk:St→St:=zag 0 (bl 470 52) (bl 4080562528059391 52)
def zd3 (p1:Int) (p7:List (List V)) (p8:Int) (b2:List V) (zCI:Int) (zCJ:Bool) (zCF zCG zCH:List (List V)) (zCX:Int) (zCY:Bool) (zCV:Nat) (zCZ:List (List V)) (zCW:Nat) (b13 b15 b17:List V):St:=⟨(jn 1 ((V.sc (.int .u32 p1))::((V.ptr 2 0)::(jn 1 ((V.ptr 4 0)::(jn 1 ((V.ptr 6 0)::((V.gs 32 p7)::((V.sc (.int .i64 p8))::(jn 43 [])))))))))),(gn 2 ((.live true b2)::(gn 1 ((.live false [(V.sc (.int .u32 zCI)),(V.sc (.bool zCJ)),(V.gs 1 zCF),(V.gs 35 zCG),(V.gs 32 zCH)])::(gn 1 ((.live false [(V.sc (.int .u32 zCX)),(V.sc (.bool zCY)),(V.own 13 0 zCV 1),(V.gs 35 zCZ),(V.own 17 0 zCW 32)])::(gn 6 ((.live true b13)::(gn 1 ((.live true b15)::(gn 1 ((.live true b17)::(gn 34 [])))))))))))))⟩
def zkT (p7:List (List V)) (zCI:Int) (zCJ:Bool) (zCF zCG zCH:List (List V)) (zCX:Int) (zCY:Bool) (zCV:Nat) (zCZ:List (List V)) (zCW:Nat) (b13 b15 b17:List V):St:=⟨(jn 4 ((V.ptr 4 0)::(jn 1 ((V.ptr 6 0)::((V.gs 32 p7)::(jn 44 [])))))),(gn 4 ((.live false [(V.sc (.int .u32 zCI)),(V.sc (.bool zCJ)),(V.gs 1 zCF),(V.gs 35 zCG),(V.gs 32 zCH)])::(gn 1 ((.live false [(V.sc (.int .u32 zCX)),(V.sc (.bool zCY)),(V.own 13 0 zCV 1),(V.gs 35 zCZ),(V.own 17 0 zCW 32)])::(gn 6 ((.live true b13)::(gn 1 ((.live true b15)::(gn 1 ((.live true b17)::(gn 34 [])))))))))))⟩
abbrev zkt (β:Type):Type:=Int→List (List V)→Int→List V→Int→Bool→List (List V)→List (List V)→List (List V)→Int→Bool→Nat→List (List V)→Nat→List V→List V→List V→Option β
abbrev zmL (β:Type):Type:=List (List V)→Int→Bool→List (List V)→List (List V)→List (List V)→Int→Bool→Nat→List (List V)→Nat→List V→List V→List V→Option β
def zoz {β:Type} (xg:yM) (xj:yV) (L:Nat) (p0:List V) (p1:Int) (k_fin:List V→List (List V)→Option β) (k_hbbbbbaba:zkt β):Option β :=
 chk (0+5≤(List.length p0)) (
 xg β L (List.map V.dem (List.take 5 p0)) (fun v0 v1 v2 v3 v4 v5 v6 v7 =>
 chk (0+5≤(List.length p0)) (
 xj β L (List.map V.dem (List.take 5 p0)) (fun v8 =>
 ifb (!v8) (
 k_fin [(V.sc (.int .u32 v0)),(V.sc (.bool v1)),(V.sl 1 (xb 1 v2 v5)),(V.sl 35 (xb 35 v3 v6)),(V.sl 32 (xb 32 v4 v7))] ([]:List (List V))) (
 k_hbbbbbaba p1 ([]:List (List V)) (0:Int) p0 (0:Int) false ([]:List (List V)) ([]:List (List V)) ([]:List (List V)) v0 v1 v2 ([]:List (List V)) v4 v5 v6 v7)))))
theorem zuU {β:Type} (xg:yM) (xj:yV) (L:Nat) (p0:List V) (p1:Int) (k:KK β):zF zcI (zcL xg xj L) L ze8 [(V.agg p0),(V.sc (.int .u32 p1))] [] k=zoz xg xj L p0 p1 (fun zCT zCU=>k (V.tup [(V.agg zCT),(V.gs 32 zCU)]) []) (fun p1 p7 p8 b2 zCI zCJ zCF zCG zCH zCX zCY zCV zCZ zCW b13 b15 b17=>yF (yk zcI (zcL xg xj L) 0 L zdf) zfk L (zd3 p1 p7 p8 b2 zCI zCJ zCF zCG zCH zCX zCY zCV zCZ zCW b13 b15 b17) (xv 0 (zK (yk zcI (zcL xg xj L) 0 L ziV) (yR 0 (CF.res ze8) k)))):=by kernel_rfl
def zhy {β:Type} (xg:yM) (xj:yV) (L:Nat) (p1:Int) (p7:List (List V)) (p8:Int) (b2:List V) (zCI:Int) (zCJ:Bool) (zCF zCG zCH:List (List V)) (zCX:Int) (zCY:Bool) (zCV:Nat) (zCZ:List (List V)) (zCW:Nat) (b13 b15 b17:List V) (k_hbbbbbaba:zkt β) (k_x0:zmL β):Option β :=
 cLd 35 b2 3 fun v9 =>
 ifb (decide (p8 < ((List.length v9:Nat):Int))) (
 cLd 35 b2 3 fun v10 =>
 idx v10 p8 fun c11 =>
 cI .u32 (List.drop 34 c11) 0 fun v12 =>
 ifb (decide (v12≤p1)) (
 cLd 35 b2 3 fun v13 =>
 idx v13 p8 fun c14 =>
 chk ((List.length (List.take 32 c14))=32∧0+32≤32) (
 chk ((List.length p7+List.length (xb 32 1 (ya (List.replicate 32 (V.sc (.int .u8 (0:Int)))) 0 (List.take 32 c14)))) * 32≤yi∧List.length p7+List.length (xb 32 1 (ya (List.replicate 32 (V.sc (.int .u8 (0:Int)))) 0 (List.take 32 c14)))≤yi) (
 lt (p7++(xb 32 1 (ya (List.replicate 32 (V.sc (.int .u8 (0:Int)))) 0 (List.take 32 c14)))) fun l15 =>
 lt (IntKind.wrap .i64 ((p8:Int)+(1:Int))) fun x16 =>
 k_hbbbbbaba p1 l15 x16 b2 zCI zCJ zCF zCG zCH zCX zCY zCV zCZ zCW b13 b15 b17))) (
 cLd 35 b2 3 fun v17 =>
 idx v17 p8 fun c18 =>
 chk ((List.length (List.take 35 c18))=35∧0+35≤35) (
 chk ((List.length zCZ+List.length (xb 35 1 (ya (List.replicate 32 (V.sc (.int .u8 (0:Int)))++[(V.sc (.int .i64 (0:Int))),(V.sc (.int .i64 (0:Int))),(V.sc (.int .u32 (0:Int)))]) 0 (List.take 35 c18)))) * 56≤yi∧List.length zCZ+List.length (xb 35 1 (ya (List.replicate 32 (V.sc (.int .u8 (0:Int)))++[(V.sc (.int .i64 (0:Int))),(V.sc (.int .i64 (0:Int))),(V.sc (.int .u32 (0:Int)))]) 0 (List.take 35 c18)))≤yi) (
 lt (zCZ++(xb 35 1 (ya (List.replicate 32 (V.sc (.int .u8 (0:Int)))++[(V.sc (.int .i64 (0:Int))),(V.sc (.int .i64 (0:Int))),(V.sc (.int .u32 (0:Int)))]) 0 (List.take 35 c18)))) fun l19 =>
 lt (IntKind.wrap .i64 ((p8:Int)+(1:Int))) fun x20 =>
 k_hbbbbbaba p1 p7 x20 b2 zCI zCJ zCF zCG zCH zCX zCY zCV l19 zCW b13 b15 b17)))) (
 k_x0 p7 zCI zCJ zCF zCG zCH zCX zCY zCV zCZ zCW b13 b15 b17)
theorem zoW {β:Type} (xg:yM) (xj:yV) (L:Nat) (p1:Int) (p7:List (List V)) (p8:Int) (b2:List V) (zCI:Int) (zCJ:Bool) (zCF zCG zCH:List (List V)) (zCX:Int) (zCY:Bool) (zCV:Nat) (zCZ:List (List V)) (zCW:Nat) (b13 b15 b17:List V) (X:St→Option β) (K:KT β):yk zcI (zcL xg xj L) 0 L zdf (zd3 p1 p7 p8 b2 zCI zCJ zCF zCG zCH zCX zCY zCV zCZ zCW b13 b15 b17) (zbr zfk X K)=zhy xg xj L p1 p7 p8 b2 zCI zCJ zCF zCG zCH zCX zCY zCV zCZ zCW b13 b15 b17 (fun p1 p7 p8 b2 zCI zCJ zCF zCG zCH zCX zCY zCV zCZ zCW b13 b15 b17=>X (zd3 p1 p7 p8 b2 zCI zCJ zCF zCG zCH zCX zCY zCV zCZ zCW b13 b15 b17)) (fun p7 zCI zCJ zCF zCG zCH zCX zCY zCV zCZ zCW b13 b15 b17=>K (.exit 0) (zkT p7 zCI zCJ zCF zCG zCH zCX zCY zCV zCZ zCW b13 b15 b17)):=by kernel_rfl
def zgb {β:Type} (xg:yM) (xj:yV) (L:Nat) (p7:List (List V)) (zCI:Int) (zCJ:Bool) (zCF zCG zCH:List (List V)) (zCX:Int) (zCY:Bool) (zCV:Nat) (zCZ:List (List V)) (zCW:Nat) (b13 b15 b17:List V) (k_fin:List V→List (List V)→Option β):Option β :=
 k_fin [(V.sc (.int .u32 zCX)),(V.sc (.bool zCY)),(V.sl 1 (xb 1 zCV b13)),(V.sl 35 zCZ),(V.sl 32 (xb 32 zCW b17))] p7
theorem znQ {β:Type} (xg:yM) (xj:yV) (L:Nat) (p7:List (List V)) (zCI:Int) (zCJ:Bool) (zCF zCG zCH:List (List V)) (zCX:Int) (zCY:Bool) (zCV:Nat) (zCZ:List (List V)) (zCW:Nat) (b13 b15 b17:List V) (k:KK β):(xv 0 (zK (yk zcI (zcL xg xj L) 0 L ziV) (yR 0 (CF.res ze8) k))) (.exit 0) (zkT p7 zCI zCJ zCF zCG zCH zCX zCY zCV zCZ zCW b13 b15 b17)=zgb xg xj L p7 zCI zCJ zCF zCG zCH zCX zCY zCV zCZ zCW b13 b15 b17 (fun zCT zCU=>k (V.tup [(V.agg zCT),(V.gs 32 zCU)]) []):=by kernel_rfl
def zdK {β:Type} (xg:yM) (xj:yV) (L:Nat) (k_x0:zmL β):Nat→Int→List (List V)→Int→List V→Int→Bool→List (List V)→List (List V)→List (List V)→Int→Bool→Nat→List (List V)→Nat→List V→List V→List V→Option β
 | 0,_,_,_,_,_,_,_,_,_,_,_,_,_,_,_,_,_=>none
 | n+1,p1,p7,p8,b2,zCI,zCJ,zCF,zCG,zCH,zCX,zCY,zCV,zCZ,zCW,b13,b15,b17=>zhy xg xj L p1 p7 p8 b2 zCI zCJ zCF zCG zCH zCX zCY zCV zCZ zCW b13 b15 b17 (fun p1 p7 p8 b2 zCI zCJ zCF zCG zCH zCX zCY zCV zCZ zCW b13 b15 b17=>zdK xg xj L k_x0 n p1 p7 p8 b2 zCI zCJ zCF zCG zCH zCX zCY zCV zCZ zCW b13 b15 b17) k_x0
theorem zja {β:Type} (xg:yM) (xj:yV) (L:Nat) (K:KT β):∀ (n:Nat) (p1:Int) (p7:List (List V)) (p8:Int) (b2:List V) (zCI:Int) (zCJ:Bool) (zCF zCG zCH:List (List V)) (zCX:Int) (zCY:Bool) (zCV:Nat) (zCZ:List (List V)) (zCW:Nat) (b13 b15 b17:List V),yF (yk zcI (zcL xg xj L) 0 L zdf) zfk n (zd3 p1 p7 p8 b2 zCI zCJ zCF zCG zCH zCX zCY zCV zCZ zCW b13 b15 b17) K=zdK xg xj L (fun p7 zCI zCJ zCF zCG zCH zCX zCY zCV zCZ zCW b13 b15 b17=>K (.exit 0) (zkT p7 zCI zCJ zCF zCG zCH zCX zCY zCV zCZ zCW b13 b15 b17)) n p1 p7 p8 b2 zCI zCJ zCF zCG zCH zCX zCY zCV zCZ zCW b13 b15 b17:=by
 intro n
 induction n with
 | zero=>intros; rfl
 | succ n ih =>
  intro p1 p7 p8 b2 zCI zCJ zCF zCG zCH zCX zCY zCV zCZ zCW b13 b15 b17
  refine (zoW xg xj L p1 p7 p8 b2 zCI zCJ zCF zCG zCH zCX zCY zCV zCZ zCW b13 b15 b17 (fun σ=>yF (yk zcI (zcL xg xj L) 0 L zdf) zfk n σ K) K).trans ?_
  simp only [ih]
  rfl
def zlS {β:Type} (xg:yM) (xj:yV) (L:Nat) (p0:List V) (p1:Int) (k_fin:List V→List (List V)→Option β):Option β :=
 zoz xg xj L p0 p1 k_fin (fun p1 p7 p8 b2 zCI zCJ zCF zCG zCH zCX zCY zCV zCZ zCW b13 b15 b17=>zdK xg xj L (fun p7 zCI zCJ zCF zCG zCH zCX zCY zCV zCZ zCW b13 b15 b17=>zgb xg xj L p7 zCI zCJ zCF zCG zCH zCX zCY zCV zCZ zCW b13 b15 b17 k_fin) L p1 p7 p8 b2 zCI zCJ zCF zCG zCH zCX zCY zCV zCZ zCW b13 b15 b17)
theorem zuR {β:Type} (xg:yM) (xj:yV) (L:Nat) (p0:List V) (p1:Int) (k:KK β):zF zcI (zcL xg xj L) L ze8 [(V.agg p0),(V.sc (.int .u32 p1))] [] k=zlS xg xj L p0 p1 (fun zCT zCU=>k (V.tup [(V.agg zCT),(V.gs 32 zCU)]) []):=by
 refine (zuU xg xj L p0 p1 k).trans ?_
 unfold zlS
 first
  | (simp only [zja,znQ]; done)
  | (simp only [zja]; rfl)
abbrev yD:=∀ (β:Type),Nat→List V→Int→(List V→List (List V)→Option β)→Option β
def xf (β:Type) (L:Nat) (p0:List V) (p1:Int) (k_fin:List V→List (List V)→Option β):Option β:=zlS xg xj L p0 p1 k_fin
def zlP (xf:yD) (L:Nat) (β:Type) (args:List V) (bor:Bor) (k:KK β):Option β:=match args,bor with
 | [a0,a1],[]=>aG a0 fun p0=>aI .u32 a1 fun p1=>xf β L p0 p1 (fun zCT zCU=>k (V.tup [(V.agg zCT),(V.gs 32 zCU)]) [])
 | _,_=>none
theorem zuJ (L:Nat) (β:Type) (args:List V) (bor:Bor) (k:KK β) (r:β) (h:zlP xf L β args bor k=some r):zF zcI (zcL xg xj L) L ze8 args bor k=some r:=by
 unfold zlP at h
 split at h
 ·have q:=zcn h; clear h; obtain ⟨p0,rfl,h⟩:=q
  have q:=zcr h; clear h; obtain ⟨p1,rfl,h⟩:=q
  exact (zuR xg xj L p0 p1 k).trans h
 ·cases h
def y9:CC:=(.seq (.reg [oo 50 (.bin .lss (tq 49) (tq 48))])
 (.seq (.cond (tq 50)
 .skip
 (.seq (.mask (bl 481036345428 108) (bl 324518553656032757336433918768127 108))
 (.exit 2)))
 (.seq (.block 3 (.seq (.reg [oo 51 (.indexAddrS 32 (tq 47) (tq 49)),
   oo 52 (.load true 32 (tq 51) false),
   oo 15 (.alloc true (rp 32 (.sc (.int .u8 0)) [])),
   oz (.store 32 (tq 15) (tq 52))])
 (.seq (.reg [oo 54 (.load true 5 (tq 13) false),
   oo 55 (.load true 32 (tq 15) false),
   oo 56 (.call 348 [((tq 54),1),((tq 55),0)] []),
   oo 53 (.move (tq 56) true),
   oo 57 (.pull (tq 53) 0),
   oo 58 (.pull (tq 53) 1),
   oo 16 (.alloc true [(.sc (.int .u32 0)),(.sc (.bool false)),(.gs 1 []),(.gs 35 []),(.gs 32 [])]),
   oz (.store 5 (tq 16) (tq 57)),
   oo 17 (.move (tq 58) false)])
 (.seq (.reg [oo 60 (.load true 5 (tq 13) false),
   oo 61 (.load true 32 (tq 15) false),
   oo 62 (.call 349 [((tq 60),1),((tq 61),0)] []),
   oo 59 (.move (tq 62) true),
   oo 63 (.pull (tq 59) 0),
   oo 64 (.pull (tq 59) 1),
   oo 18 (.alloc true [(.sc (.int .u32 0)),(.sc (.bool false)),(.gs 1 []),(.gs 35 []),(.gs 32 [])]),
   oz (.store 5 (tq 18) (tq 63)),
   oo 19 (.move (tq 64) false)])
 (.seq (.reg [oo 65 (.move (tq 17) false),
   oo 66 (.move (tq 19) false),
   oo 67 (.bin .neq (tq 65) (tq 66)),
   oo 68 (.move (tq 67) false),
   ⟨(some 69),false,(some (68,false)),.load true 5 (tq 16) false⟩,
   ⟨(some 70),false,(some (68,false)),.load true 5 (tq 18) false⟩,
   ⟨(some 71),false,(some (68,false)),.call 343 [((tq 69),1),((tq 70),1)] []⟩,
   ⟨(some 72),false,(some (68,false)),.un .not (tq 71)⟩,
   oo 73 (.pick (tq 68) (.const (.sc (.bool true))) (tq 72))])
 (.cond (tq 73)
 (.seq (.reg [oo 10 (.move (.const (.sc (.bool false))) false)])
 (.seq (.mask (bl 1024 108) (bl 313990027457721143620174653446079 108))
 .ret))
 .skip))))))
 (.reg [oo 74 (.bin .add (tq 49) (.const (.sc (.int .i64 1)))),
   oo 49 (.move (tq 74) false)]))))
def zaa:CC:=(.seq (.reg [oo 81 (.bin .lss (tq 80) (tq 79))])
 (.seq (.cond (tq 81)
 .skip
 (.seq (.mask (bl 481036337236 108) (bl 313990028366809478217673266058239 108))
 (.exit 4)))
 (.seq (.block 5 (.seq (.reg [oo 82 (.indexAddrS 1 (tq 78) (tq 80)),
   oo 83 (.load false 1 (tq 82) false),
   oo 21 (.move (tq 83) false)])
 (.seq (.reg [oo 85 (.load true 5 (tq 13) false),
   oo 86 (.move (tq 21) false),
   oo 87 (.call 350 [((tq 85),1),((tq 86),0)] []),
   oo 84 (.move (tq 87) true),
   oo 88 (.pull (tq 84) 0),
   oo 89 (.extract (tq 84) 1),
   oo 22 (.alloc true [(.sc (.int .u32 0)),(.sc (.bool false)),(.gs 1 []),(.gs 35 []),(.gs 32 [])]),
   oz (.store 5 (tq 22) (tq 88)),
   oo 23 (.move (tq 89) false)])
 (.seq (.reg [oo 91 (.load true 5 (tq 13) false),
   oo 92 (.move (tq 21) false),
   oo 93 (.call 351 [((tq 91),1),((tq 92),0)] []),
   oo 90 (.move (tq 93) true),
   oo 94 (.pull (tq 90) 0),
   oo 95 (.extract (tq 90) 1),
   oo 24 (.alloc true [(.sc (.int .u32 0)),(.sc (.bool false)),(.gs 1 []),(.gs 35 []),(.gs 32 [])]),
   oz (.store 5 (tq 24) (tq 94)),
   oo 25 (.move (tq 95) false)])
 (.seq (.reg [oo 96 (.load true 5 (tq 22) false),
   oo 97 (.load true 5 (tq 24) false),
   oo 98 (.call 343 [((tq 96),1),((tq 97),1)] []),
   oo 99 (.un .not (tq 98)),
   oo 100 (.move (tq 99) false),
   ⟨(some 101),false,(some (100,false)),.move (tq 23) false⟩,
   ⟨(some 102),false,(some (100,false)),.move (tq 25) false⟩,
   ⟨(some 103),false,(some (100,false)),.call 352 [((tq 101),0),((tq 102),0)] []⟩,
   ⟨(some 104),false,(some (100,false)),.un .not (tq 103)⟩,
   oo 105 (.pick (tq 100) (.const (.sc (.bool true))) (tq 104))])
 (.cond (tq 105)
 (.seq (.reg [oo 10 (.move (.const (.sc (.bool false))) false)])
 (.seq (.mask (bl 1024 108) (bl 313990027457721143620174653446079 108))
 .ret))
 .skip))))))
 (.reg [oo 106 (.bin .add (tq 80) (.const (.sc (.int .i64 1)))),
   oo 80 (.move (tq 106) false)]))))
def zaA:CC:=(.seq (.reg [oo 75 (.move (tq 2) false),
   oo 76 (.move (tq 2) false),
   oo 77 (.bin .rem (tq 76) (.const (.sc (.int .u32 60)))),
   oo 78 (.buildSlice 1 2 [(.sc (.int .u32 0))] [(0,1,(tq 75)),(1,1,(tq 77))]),
   oo 79 (.lenS (tq 78)),
   oo 80 (.move (.const (.sc (.int .i64 0))) false)])
 (.block 4 (.loop (bl 2115620184326082092081236 108) (bl 313990028366809478217673266066431 108)
 zaa)))
def zR:CC:=(.reg [oo 107 (.bin .add (tq 38) (.const (.sc (.int .i64 1)))),
   oo 38 (.move (tq 107) false)])
def zaT:CC:=(.seq (.reg [oo 39 (.bin .lss (tq 38) (tq 37))])
 (.seq (.cond (tq 39)
 .skip
 (.seq (.mask (bl 0 108) (bl 313990027457721143620174653445055 108))
 (.exit 0)))
 (.seq (.block 1 (.seq (.reg [oo 40 (.indexAddrS 5 (tq 36) (tq 38)),
   oo 41 (.load true 5 (tq 40) false),
   oo 13 (.alloc true [(.sc (.int .u32 0)),(.sc (.bool false)),(.gs 1 []),(.gs 35 []),(.gs 32 [])]),
   oz (.store 5 (tq 13) (tq 41))])
 (.seq (.seq (.dreg [] [(oo 42 (.load true 32 (tq 6) false),ql 6 [] []),
   (oo 43 (.move (tq 4) false),q0),
   (oo 44 (.call 217 [((tq 43),0),((.const (.sc (.int .i64 10))),0)] []),qc [6] []),
   (oo 45 (.conv .u8 (tq 44)),q0),
   (oo 46 (.build (rp 32 (.sc (.int .u8 0)) []) [(0,1,(tq 45))]),q0),
   (oo 47 (.buildSlice 32 2 (rp 32 (.sc (.int .u8 0)) []) [(0,32,(tq 42)),(32,32,(tq 46))]),q0),
   (oo 48 (.lenS (tq 47)),q0),
   (oo 49 (.move (.const (.sc (.int .i64 0))) false),q0)])
 (.block 2 (.loop (bl 985643454832724 108) (bl 324518553656032757336433918768127 108)
 y9)))
 zaA)))
 zR)))
def zdH:CC:=(.seq (.reg [oo 10 (.move (.const (.sc (.bool true))) false)])
 .ret)
def za0:CF:=⟨108,[.tmp 10],
 (.seq (.reg [oo 6 (.box true (tq 1)),
   oo 10 (.move (.const (.sc (.bool false))) false)])
 (.seq (.seq (.reg [oo 26 (.call 332 [] []),
   oo 27 (.un .not (tq 26))])
 (.cond (tq 27)
 (.seq (.reg [oo 10 (.move (.const (.sc (.bool false))) false)])
 .ret)
 .skip))
 (.seq (.reg [oo 28 (.move (tq 0) false),
   oo 29 (.call 225 [((tq 28),0)] []),
   oo 30 (.call 339 [((tq 29),0)] []),
   oo 11 (.alloc true [(.sc (.int .u32 0)),(.sc (.bool false)),(.gs 1 []),(.gs 35 []),(.gs 32 [])]),
   oz (.store 5 (tq 11) (tq 30))])
 (.seq (.seq (.dreg [] [(oo 31 (.load true 5 (tq 11) false),ql 11 [] []),
   (oo 32 (.load true 5 (tq 11) false),ql 11 [] []),
   (oo 33 (.move (tq 3) false),q0),
   (oo 34 (.move (tq 4) false),q0),
   (oo 35 (.call 340 [((tq 32),1),((tq 33),0),((tq 34),0)] []),qc [11] []),
   (oo 36 (.buildSlice 5 2 [(.sc (.int .u32 0)),(.sc (.bool false)),(.sl 1 []),(.sl 35 []),(.sl 32 [])] [(0,5,(tq 31)),(5,5,(tq 35))]),q0),
   (oo 37 (.lenS (tq 36)),q0),
   (oo 38 (.move (.const (.sc (.int .i64 0))) false),q0)])
 (.block 0 (.loop (bl 481036337236 108) (bl 313990027457721143620174653445119 108)
 zaT)))
 zdH))))⟩
def zjh:Hint:=⟨[(3,3),(6,2),(10,3),(10,6),(11,3),(11,6),(18,3),(18,5),(18,6),(19,3),(19,5),(19,6)],[],[none,none,none,some ((bl 481036337236 108),(bl 313990027457721143620174653445119 108)),none,some ((bl 0 108),(bl 313990027457721143620174653445055 108)),none,none,some ((bl 985643454832724 108),(bl 324518553656032757336433918768127 108)),none,some ((bl 481036345428 108),(bl 324518553656032757336433918768127 108)),none,none,some ((bl 1024 108),(bl 313990027457721143620174653446079 108)),none,some ((bl 2115620184326082092081236 108),(bl 313990028366809478217673266066431 108)),none,some ((bl 481036337236 108),(bl 313990028366809478217673266058239 108)),none,none,some ((bl 1024 108),(bl 313990027457721143620174653446079 108)),none],[],[],false,false⟩
def zn:Nat→Sh:=zap [(83,(.int .u32))]
def xm (xa:yj) (yc:yl) (yd:yn) (zb:ym) (xd:zq) (yb:zm) (yf:yx) (zd:xn) (zf:yq) (xf:yD) (za:xi) (L:Nat):CBC:=(xJ 352 (zd8 za L) (xJ 351 (zlP xf L) (xJ 350 (zjg zf L) (xJ 343 (zik zd L) (xJ 349 (zjv yf L) (xJ 348 (zg9 yb L) (xJ 217 (zgL xd L) (xJ 340 (zhl zb L) (xJ 339 (zil yd L) (xJ 225 (ziK yc L) (xJ 332 (zgk xa L) noC)))))))))))
def yJ:St→St:=zag 0 (bl 481036337236 108) (bl 313990027457721143620174653445119 108)
def zbe:St→St:=zag 0 (bl 985643454832724 108) (bl 324518553656032757336433918768127 108)
def zbd:St→St:=zag 0 (bl 2115620184326082092081236 108) (bl 313990028366809478217673266066431 108)
def z4 (p2 p4:Int) (p36:List (List V)) (p37 p38:Int) (b6:List V) (zCz:List (List V)) (zCA:Int):St:=⟨(jn 2 ((V.sc (.int .u32 p2))::(jn 1 ((V.sc (.int .i64 p4))::(jn 1 ((V.ptr 6 0)::(jn 29 ((V.gs 5 p36)::((V.sc (.int .i64 p37))::((V.sc (.int .i64 p38))::(jn 69 []))))))))))),(gn 6 ((.live true b6)::(gn 22 ((.live false [(V.sl 1 zCz),(V.sc (.int .i64 zCA))])::(gn 78 [])))))⟩
def zaQ (p2 p4:Int) (p36:List (List V)) (p37 p38:Int) (p47:List (List V)) (p48 p49:Int) (b6 b13:List V) (zCz:List (List V)) (zCA:Int):St:=⟨(jn 2 ((V.sc (.int .u32 p2))::(jn 1 ((V.sc (.int .i64 p4))::(jn 1 ((V.ptr 6 0)::(jn 6 ((V.ptr 13 0)::(jn 22 ((V.gs 5 p36)::((V.sc (.int .i64 p37))::((V.sc (.int .i64 p38))::(jn 8 ((V.gs 32 p47)::((V.sc (.int .i64 p48))::((V.sc (.int .i64 p49))::(jn 58 []))))))))))))))))),(gn 6 ((.live true b6)::(gn 6 ((.live true b13)::(gn 15 ((.live false [(V.sl 1 zCz),(V.sc (.int .i64 zCA))])::(gn 78 [])))))))⟩
def zdD (zCz:List (List V)) (zCA:Int):St:=⟨(jn 108 []),(gn 29 ((.live false [(V.sl 1 zCz),(V.sc (.int .i64 zCA))])::(gn 78 [])))⟩
def zL (p10:Bool) (zCz:List (List V)) (zCA:Int):St:=⟨(jn 10 ((V.sc (.bool p10))::(jn 97 []))),(gn 29 ((.live false [(V.sl 1 zCz),(V.sc (.int .i64 zCA))])::(gn 78 [])))⟩
def zdF (p2 p4:Int) (p36:List (List V)) (p37 p38:Int) (b6 b13:List V) (zCz:List (List V)) (zCA:Int):St:=⟨(jn 2 ((V.sc (.int .u32 p2))::(jn 1 ((V.sc (.int .i64 p4))::(jn 1 ((V.ptr 6 0)::(jn 6 ((V.ptr 13 0)::(jn 22 ((V.gs 5 p36)::((V.sc (.int .i64 p37))::((V.sc (.int .i64 p38))::(jn 69 []))))))))))))),(gn 6 ((.live true b6)::(gn 6 ((.live true b13)::(gn 15 ((.live false [(V.sl 1 zCz),(V.sc (.int .i64 zCA))])::(gn 78 [])))))))⟩
def zaO (p2 p4:Int) (p36:List (List V)) (p37 p38:Int) (p78:List (List V)) (p79 p80:Int) (b6 b13:List V) (zCz:List (List V)) (zCA:Int):St:=⟨(jn 2 ((V.sc (.int .u32 p2))::(jn 1 ((V.sc (.int .i64 p4))::(jn 1 ((V.ptr 6 0)::(jn 6 ((V.ptr 13 0)::(jn 22 ((V.gs 5 p36)::((V.sc (.int .i64 p37))::((V.sc (.int .i64 p38))::(jn 39 ((V.gs 1 p78)::((V.sc (.int .i64 p79))::((V.sc (.int .i64 p80))::(jn 27 []))))))))))))))))),(gn 6 ((.live true b6)::(gn 6 ((.live true b13)::(gn 15 ((.live false [(V.sl 1 zCz),(V.sc (.int .i64 zCA))])::(gn 78 [])))))))⟩
def zfr (p2 p4:Int) (p36:List (List V)) (p37 p38:Int) (b6:List V) (zCz:List (List V)) (zCA:Int):St:=⟨(jn 2 ((V.sc (.int .u32 p2))::(jn 1 ((V.sc (.int .i64 p4))::(jn 1 ((V.ptr 6 0)::(jn 29 ((V.gs 5 p36)::((V.sc (.int .i64 p37))::((V.sc (.int .i64 p38))::(jn 69 []))))))))))),(gn 6 ((.live true b6)::(gn 22 ((.live false [(V.sl 1 zCz),(V.sc (.int .i64 zCA))])::(gn 78 [])))))⟩
abbrev zcV (β:Type):Type:=Int→Int→List (List V)→Int→Int→List V→List (List V)→Int→Option β
abbrev zel (β:Type):Type:=Int→Int→List (List V)→Int→Int→List (List V)→Int→Int→List V→List V→List (List V)→Int→Option β
abbrev zgv (β:Type):Type:=Int→Int→List (List V)→Int→Int→List V→List V→List (List V)→Int→Option β
abbrev zee (β:Type):Type:=Int→Int→List (List V)→Int→Int→List (List V)→Int→Int→List V→List V→List (List V)→Int→Option β
abbrev zgp (β:Type):Type:=Int→Int→List (List V)→Int→Int→List V→List (List V)→Int→Option β
def zhw {β:Type} (xa:yj) (yc:yl) (yd:yn) (zb:ym) (xd:zq) (yb:zm) (yf:yx) (zd:xn) (zf:yq) (xf:yD) (za:xi) (L:Nat) (p0:List (List V)) (p1:List V) (p2 p3 p4:Int) (k_fin:Bool→Option β) (k_hbbbaba:zcV β):Option β :=
 xa β L  (fun v0 =>
 ifb (!v0) (
 k_fin false) (
 yc β L p0 (fun v1 v2 =>
 yd β L v1 v2 (fun v3 v4 v5 =>
 chk ((List.length v3)=5∧0+5≤5) (
 lt (ya [(V.sc (.int .u32 (0:Int))),(V.sc (.bool false)),(V.gs 1 ([]:List (List V))),(V.gs 35 ([]:List (List V))),(V.gs 32 ([]:List (List V)))] 0 v3) fun r6 =>
 chk (0+5≤(List.length r6)) (
 chk (0+5≤(List.length r6)) (
 zb β L (List.map V.dem (List.take 5 r6)) p3 p4 (fun v7 =>
 chk ((List.length (List.take 5 r6))=5∧0+5≤10) (
 chk ((List.length v7)=5∧5+5≤(List.length (ya [(V.sc (.int .u32 (0:Int))),(V.sc (.bool false)),(V.sl 1 ([]:List (List V))),(V.sl 35 ([]:List (List V))),(V.sl 32 ([]:List (List V))),(V.sc (.int .u32 (0:Int))),(V.sc (.bool false)),(V.sl 1 ([]:List (List V))),(V.sl 35 ([]:List (List V))),(V.sl 32 ([]:List (List V)))] 0 (List.take 5 r6)))) (
 k_hbbbaba p2 p4 (xb 5 2 (ya (ya [(V.sc (.int .u32 (0:Int))),(V.sc (.bool false)),(V.sl 1 ([]:List (List V))),(V.sl 35 ([]:List (List V))),(V.sl 32 ([]:List (List V))),(V.sc (.int .u32 (0:Int))),(V.sc (.bool false)),(V.sl 1 ([]:List (List V))),(V.sl 35 ([]:List (List V))),(V.sl 32 ([]:List (List V)))] 0 (List.take 5 r6)) 5 v7)) ((List.length (xb 5 2 (ya (ya [(V.sc (.int .u32 (0:Int))),(V.sc (.bool false)),(V.sl 1 ([]:List (List V))),(V.sl 35 ([]:List (List V))),(V.sl 32 ([]:List (List V))),(V.sc (.int .u32 (0:Int))),(V.sc (.bool false)),(V.sl 1 ([]:List (List V))),(V.sl 35 ([]:List (List V))),(V.sl 32 ([]:List (List V)))] 0 (List.take 5 r6)) 5 v7)):Nat):Int) (0:Int) p1 v4 v5))))))))))
theorem zoR {β:Type} (xa:yj) (yc:yl) (yd:yn) (zb:ym) (xd:zq) (yb:zm) (yf:yx) (zd:xn) (zf:yq) (xf:yD) (za:xi) (L:Nat) (p0:List (List V)) (p1:List V) (p2 p3 p4:Int) (k:KK β):zF zn (xm xa yc yd zb xd yb yf zd zf xf za L) L za0 [(V.sl 1 p0),(V.agg p1),(V.sc (.int .u32 p2)),(V.sc (.int .i64 p3)),(V.sc (.int .i64 p4))] [] k=zhw xa yc yd zb xd yb yf zd zf xf za L p0 p1 p2 p3 p4 (fun p0=>k (V.sc (.bool p0)) []) (fun p2 p4 p36 p37 p38 b6 zCz zCA=>yF (yk zn (xm xa yc yd zb xd yb yf zd zf xf za L) 0 L zaT) yJ L (z4 p2 p4 p36 p37 p38 b6 zCz zCA) (xv 0 (zK (yk zn (xm xa yc yd zb xd yb yf zd zf xf za L) 0 L zdH) (yR 0 (CF.res za0) k)))):=by kernel_rfl
def zeH {β:Type} (xa:yj) (yc:yl) (yd:yn) (zb:ym) (xd:zq) (yb:zm) (yf:yx) (zd:xn) (zf:yq) (xf:yD) (za:xi) (L:Nat) (p2 p4:Int) (p36:List (List V)) (p37 p38:Int) (b6:List V) (zCz:List (List V)) (zCA:Int) (k_hbbbabaabbaababa:zel β) (k_x0:List (List V)→Int→Option β):Option β :=
 ifb (decide (p38 < p37)) (
 idx p36 p38 fun c8 =>
 chk ((List.length (List.take 5 c8))=5∧0+5≤5) (
 lt (ya [(V.sc (.int .u32 (0:Int))),(V.sc (.bool false)),(V.gs 1 ([]:List (List V))),(V.gs 35 ([]:List (List V))),(V.gs 32 ([]:List (List V)))] 0 (List.take 5 c8)) fun r9 =>
 chk (0+32≤(List.length b6)) (
 xd β L p4 (10:Int) (fun v10 =>
 lt (IntKind.wrap .u8 v10) fun x11 =>
 chk ((List.length (List.take 32 b6))=32∧0+32≤64) (
 chk (32=32∧32+32≤(List.length (ya (List.replicate 64 (V.sc (.int .u8 (0:Int)))) 0 (List.take 32 b6)))) (
 k_hbbbabaabbaababa p2 p4 p36 p37 p38 (xb 32 2 (ya (ya (List.replicate 64 (V.sc (.int .u8 (0:Int)))) 0 (List.take 32 b6)) 32 ([(V.sc (.int .u8 x11))]++List.replicate 31 (V.sc (.int .u8 (0:Int)))))) ((List.length (xb 32 2 (ya (ya (List.replicate 64 (V.sc (.int .u8 (0:Int)))) 0 (List.take 32 b6)) 32 ([(V.sc (.int .u8 x11))]++List.replicate 31 (V.sc (.int .u8 (0:Int)))))):Nat):Int) (0:Int) b6 r9 zCz zCA)))))) (
 k_x0 zCz zCA)
theorem zlw {β:Type} (xa:yj) (yc:yl) (yd:yn) (zb:ym) (xd:zq) (yb:zm) (yf:yx) (zd:xn) (zf:yq) (xf:yD) (za:xi) (L:Nat) (p2 p4:Int) (p36:List (List V)) (p37 p38:Int) (b6:List V) (zCz:List (List V)) (zCA:Int) (X:St→Option β) (K:KT β):yk zn (xm xa yc yd zb xd yb yf zd zf xf za L) 0 L zaT (z4 p2 p4 p36 p37 p38 b6 zCz zCA) (zbr yJ X K)=zeH xa yc yd zb xd yb yf zd zf xf za L p2 p4 p36 p37 p38 b6 zCz zCA (fun p2 p4 p36 p37 p38 p47 p48 p49 b6 b13 zCz zCA=>yF (yk zn (xm xa yc yd zb xd yb yf zd zf xf za L) 0 L y9) zbe L (zaQ p2 p4 p36 p37 p38 p47 p48 p49 b6 b13 zCz zCA) (xv 2 (zK (yk zn (xm xa yc yd zb xd yb yf zd zf xf za L) 0 L zaA) (xv 1 (zK (yk zn (xm xa yc yd zb xd yb yf zd zf xf za L) 0 L zR) (zbr yJ X K)))))) (fun zCz zCA=>K (.exit 0) (zdD zCz zCA)):=by kernel_rfl
def zgE {β:Type} (xa:yj) (yc:yl) (yd:yn) (zb:ym) (xd:zq) (yb:zm) (yf:yx) (zd:xn) (zf:yq) (xf:yD) (za:xi) (L:Nat) (zCz:List (List V)) (zCA:Int) (k_fin:Bool→Option β):Option β :=
 k_fin true
theorem zkB {β:Type} (xa:yj) (yc:yl) (yd:yn) (zb:ym) (xd:zq) (yb:zm) (yf:yx) (zd:xn) (zf:yq) (xf:yD) (za:xi) (L:Nat) (zCz:List (List V)) (zCA:Int) (k:KK β):(xv 0 (zK (yk zn (xm xa yc yd zb xd yb yf zd zf xf za L) 0 L zdH) (yR 0 (CF.res za0) k))) (.exit 0) (zdD zCz zCA)=zgE xa yc yd zb xd yb yf zd zf xf za L zCz zCA (fun p0=>k (V.sc (.bool p0)) []):=by kernel_rfl
def zcB {β:Type} (xa:yj) (yc:yl) (yd:yn) (zb:ym) (xd:zq) (yb:zm) (yf:yx) (zd:xn) (zf:yq) (xf:yD) (za:xi) (L:Nat) (p2 p4:Int) (p36:List (List V)) (p37 p38:Int) (p47:List (List V)) (p48 p49:Int) (b6 b13:List V) (zCz:List (List V)) (zCA:Int) (k_ret:Bool→List (List V)→Int→Option β) (k_hbbbabaabbaababa:zel β) (k_x2:zgv β):Option β :=
 ifb (decide (p49 < p48)) (
 idx p47 p49 fun c12 =>
 chk ((List.length (List.take 32 c12))=32∧0+32≤32) (
 lt (ya (List.replicate 32 (V.sc (.int .u8 (0:Int)))) 0 (List.take 32 c12)) fun r13 =>
 chk (0+5≤(List.length b13)) (
 chk (0+32≤(List.length r13)) (
 yb β L (List.map V.dem (List.take 5 b13)) (List.take 32 r13) (fun v14 v15 =>
 chk ((List.length v14)=5∧0+5≤5) (
 lt (ya [(V.sc (.int .u32 (0:Int))),(V.sc (.bool false)),(V.gs 1 ([]:List (List V))),(V.gs 35 ([]:List (List V))),(V.gs 32 ([]:List (List V)))] 0 v14) fun r16 =>
 chk (0+5≤(List.length b13)) (
 chk (0+32≤(List.length r13)) (
 yf β L (List.map V.dem (List.take 5 b13)) (List.take 32 r13) (fun v17 v18 =>
 chk ((List.length v17)=5∧0+5≤5) (
 lt (ya [(V.sc (.int .u32 (0:Int))),(V.sc (.bool false)),(V.gs 1 ([]:List (List V))),(V.gs 35 ([]:List (List V))),(V.gs 32 ([]:List (List V)))] 0 v17) fun r19 =>
 ifb ((v15:Int) != v18) (
 k_ret false zCz zCA) (
 chk (0+5≤(List.length r16)) (
 chk (0+5≤(List.length r19)) (
 zd β L (List.map V.dem (List.take 5 r16)) (List.map V.dem (List.take 5 r19)) (fun v20 =>
 ifb (!v20) (
 k_ret false zCz zCA) (
 lt (IntKind.wrap .i64 ((p49:Int)+(1:Int))) fun x21 =>
 k_hbbbabaabbaababa p2 p4 p36 p37 p38 p47 p48 x21 b6 b13 zCz zCA))))))))))))))) (
 k_x2 p2 p4 p36 p37 p38 b6 b13 zCz zCA)
theorem zhV {β:Type} (xa:yj) (yc:yl) (yd:yn) (zb:ym) (xd:zq) (yb:zm) (yf:yx) (zd:xn) (zf:yq) (xf:yD) (za:xi) (L:Nat) (p2 p4:Int) (p36:List (List V)) (p37 p38:Int) (p47:List (List V)) (p48 p49:Int) (b6 b13:List V) (zCz:List (List V)) (zCA:Int) (X:St→Option β) (K:KT β):yk zn (xm xa yc yd zb xd yb yf zd zf xf za L) 0 L y9 (zaQ p2 p4 p36 p37 p38 p47 p48 p49 b6 b13 zCz zCA) (zbr zbe X K)=zcB xa yc yd zb xd yb yf zd zf xf za L p2 p4 p36 p37 p38 p47 p48 p49 b6 b13 zCz zCA (fun p10 zCz zCA=>K .ret (zL p10 zCz zCA)) (fun p2 p4 p36 p37 p38 p47 p48 p49 b6 b13 zCz zCA=>X (zaQ p2 p4 p36 p37 p38 p47 p48 p49 b6 b13 zCz zCA)) (fun p2 p4 p36 p37 p38 b6 b13 zCz zCA=>K (.exit 2) (zdF p2 p4 p36 p37 p38 b6 b13 zCz zCA)):=by kernel_rfl
def zdX {β:Type} (xa:yj) (yc:yl) (yd:yn) (zb:ym) (xd:zq) (yb:zm) (yf:yx) (zd:xn) (zf:yq) (xf:yD) (za:xi) (L:Nat) (p10:Bool) (zCz:List (List V)) (zCA:Int) (k_ret:Bool→List (List V)→Int→Option β):Option β :=
 k_ret p10 zCz zCA
theorem zgN {β:Type} (xa:yj) (yc:yl) (yd:yn) (zb:ym) (xd:zq) (yb:zm) (yf:yx) (zd:xn) (zf:yq) (xf:yD) (za:xi) (L:Nat) (p10:Bool) (zCz:List (List V)) (zCA:Int) (X:St→Option β) (K:KT β):(xv 2 (zK (yk zn (xm xa yc yd zb xd yb yf zd zf xf za L) 0 L zaA) (xv 1 (zK (yk zn (xm xa yc yd zb xd yb yf zd zf xf za L) 0 L zR) (zbr yJ X K))))) .ret (zL p10 zCz zCA)=zdX xa yc yd zb xd yb yf zd zf xf za L p10 zCz zCA (fun p10 zCz zCA=>K .ret (zL p10 zCz zCA)):=by kernel_rfl
def zb3 {β:Type} (xa:yj) (yc:yl) (yd:yn) (zb:ym) (xd:zq) (yb:zm) (yf:yx) (zd:xn) (zf:yq) (xf:yD) (za:xi) (L:Nat) (p2 p4:Int) (p36:List (List V)) (p37 p38:Int) (b6 b13:List V) (zCz:List (List V)) (zCA:Int) (k_hbbbabaabbaabbba:zee β):Option β :=
 lt (Int.tmod p2 (60:Int)) fun x22 =>
 k_hbbbabaabbaabbba p2 p4 p36 p37 p38 (xb 1 2 [(V.sc (.int .u32 p2)),(V.sc (.int .u32 x22))]) ((List.length (xb 1 2 [(V.sc (.int .u32 p2)),(V.sc (.int .u32 x22))]):Nat):Int) (0:Int) b6 b13 zCz zCA
theorem zhd {β:Type} (xa:yj) (yc:yl) (yd:yn) (zb:ym) (xd:zq) (yb:zm) (yf:yx) (zd:xn) (zf:yq) (xf:yD) (za:xi) (L:Nat) (p2 p4:Int) (p36:List (List V)) (p37 p38:Int) (b6 b13:List V) (zCz:List (List V)) (zCA:Int) (X:St→Option β) (K:KT β):(xv 2 (zK (yk zn (xm xa yc yd zb xd yb yf zd zf xf za L) 0 L zaA) (xv 1 (zK (yk zn (xm xa yc yd zb xd yb yf zd zf xf za L) 0 L zR) (zbr yJ X K))))) (.exit 2) (zdF p2 p4 p36 p37 p38 b6 b13 zCz zCA)=zb3 xa yc yd zb xd yb yf zd zf xf za L p2 p4 p36 p37 p38 b6 b13 zCz zCA (fun p2 p4 p36 p37 p38 p78 p79 p80 b6 b13 zCz zCA=>yF (yk zn (xm xa yc yd zb xd yb yf zd zf xf za L) 0 L zaa) zbd L (zaO p2 p4 p36 p37 p38 p78 p79 p80 b6 b13 zCz zCA) (xv 4 (xv 1 (zK (yk zn (xm xa yc yd zb xd yb yf zd zf xf za L) 0 L zR) (zbr yJ X K))))):=by kernel_rfl
def zcx {β:Type} (xa:yj) (yc:yl) (yd:yn) (zb:ym) (xd:zq) (yb:zm) (yf:yx) (zd:xn) (zf:yq) (xf:yD) (za:xi) (L:Nat) (p2 p4:Int) (p36:List (List V)) (p37 p38:Int) (p78:List (List V)) (p79 p80:Int) (b6 b13:List V) (zCz:List (List V)) (zCA:Int) (k_ret:Bool→List (List V)→Int→Option β) (k_hbbbabaabbaabbba:zee β) (k_x4:zgp β):Option β :=
 ifb (decide (p80 < p79)) (
 idx p78 p80 fun c23 =>
 cI .u32 c23 0 fun v24 =>
 chk (0+5≤(List.length b13)) (
 zf β L (List.map V.dem (List.take 5 b13)) v24 (fun v25 v26 =>
 chk ((List.length v25)=5∧0+5≤5) (
 lt (ya [(V.sc (.int .u32 (0:Int))),(V.sc (.bool false)),(V.gs 1 ([]:List (List V))),(V.gs 35 ([]:List (List V))),(V.gs 32 ([]:List (List V)))] 0 v25) fun r27 =>
 chk (0+5≤(List.length b13)) (
 xf β L (List.map V.dem (List.take 5 b13)) v24 (fun v28 v29 =>
 chk ((List.length v28)=5∧0+5≤5) (
 lt (ya [(V.sc (.int .u32 (0:Int))),(V.sc (.bool false)),(V.gs 1 ([]:List (List V))),(V.gs 35 ([]:List (List V))),(V.gs 32 ([]:List (List V)))] 0 v28) fun r30 =>
 chk (0+5≤(List.length r27)) (
 chk (0+5≤(List.length r30)) (
 zd β L (List.map V.dem (List.take 5 r27)) (List.map V.dem (List.take 5 r30)) (fun v31 =>
 ifb (!v31) (
 k_ret false zCz zCA) (
 za β L v26 v29 (fun v32 =>
 ifb (!v32) (
 k_ret false zCz zCA) (
 lt (IntKind.wrap .i64 ((p80:Int)+(1:Int))) fun x33 =>
 k_hbbbabaabbaabbba p2 p4 p36 p37 p38 p78 p79 x33 b6 b13 zCz zCA))))))))))) (fun v34 v35 =>
 chk ((List.length v34)=5∧0+5≤5) (
 lt (ya [(V.sc (.int .u32 (0:Int))),(V.sc (.bool false)),(V.gs 1 ([]:List (List V))),(V.gs 35 ([]:List (List V))),(V.gs 32 ([]:List (List V)))] 0 v34) fun r36 =>
 chk (0+5≤(List.length b13)) (
 xf β L (List.map V.dem (List.take 5 b13)) v24 (fun v37 v38 =>
 chk ((List.length v37)=5∧0+5≤5) (
 lt (ya [(V.sc (.int .u32 (0:Int))),(V.sc (.bool false)),(V.gs 1 ([]:List (List V))),(V.gs 35 ([]:List (List V))),(V.gs 32 ([]:List (List V)))] 0 v37) fun r39 =>
 chk (0+5≤(List.length r36)) (
 chk (0+5≤(List.length r39)) (
 zd β L (List.map V.dem (List.take 5 r36)) (List.map V.dem (List.take 5 r39)) (fun v40 =>
 ifb (!v40) (
 k_ret false zCz zCA) (
 za β L v35 v38 (fun v41 =>
 ifb (!v41) (
 k_ret false zCz zCA) (
 lt (IntKind.wrap .i64 ((p80:Int)+(1:Int))) fun x42 =>
 k_hbbbabaabbaabbba p2 p4 p36 p37 p38 p78 p79 x42 b6 b13 zCz zCA))))))))))))) (
 k_x4 p2 p4 p36 p37 p38 b6 zCz zCA)
theorem zhU {β:Type} (xa:yj) (yc:yl) (yd:yn) (zb:ym) (xd:zq) (yb:zm) (yf:yx) (zd:xn) (zf:yq) (xf:yD) (za:xi) (L:Nat) (p2 p4:Int) (p36:List (List V)) (p37 p38:Int) (p78:List (List V)) (p79 p80:Int) (b6 b13:List V) (zCz:List (List V)) (zCA:Int) (X:St→Option β) (K:KT β):yk zn (xm xa yc yd zb xd yb yf zd zf xf za L) 0 L zaa (zaO p2 p4 p36 p37 p38 p78 p79 p80 b6 b13 zCz zCA) (zbr zbd X K)=zcx xa yc yd zb xd yb yf zd zf xf za L p2 p4 p36 p37 p38 p78 p79 p80 b6 b13 zCz zCA (fun p10 zCz zCA=>K .ret (zL p10 zCz zCA)) (fun p2 p4 p36 p37 p38 p78 p79 p80 b6 b13 zCz zCA=>X (zaO p2 p4 p36 p37 p38 p78 p79 p80 b6 b13 zCz zCA)) (fun p2 p4 p36 p37 p38 b6 zCz zCA=>K (.exit 4) (zfr p2 p4 p36 p37 p38 b6 zCz zCA)):=by kernel_rfl
def zgr {β:Type} (xa:yj) (yc:yl) (yd:yn) (zb:ym) (xd:zq) (yb:zm) (yf:yx) (zd:xn) (zf:yq) (xf:yD) (za:xi) (L:Nat) (p10:Bool) (zCz:List (List V)) (zCA:Int) (k_fin:Bool→Option β):Option β :=
 k_fin p10
theorem zj5 {β:Type} (xa:yj) (yc:yl) (yd:yn) (zb:ym) (xd:zq) (yb:zm) (yf:yx) (zd:xn) (zf:yq) (xf:yD) (za:xi) (L:Nat) (p10:Bool) (zCz:List (List V)) (zCA:Int) (k:KK β):(xv 0 (zK (yk zn (xm xa yc yd zb xd yb yf zd zf xf za L) 0 L zdH) (yR 0 (CF.res za0) k))) .ret (zL p10 zCz zCA)=zgr xa yc yd zb xd yb yf zd zf xf za L p10 zCz zCA (fun p0=>k (V.sc (.bool p0)) []):=by kernel_rfl
def zdW {β:Type} (xa:yj) (yc:yl) (yd:yn) (zb:ym) (xd:zq) (yb:zm) (yf:yx) (zd:xn) (zf:yq) (xf:yD) (za:xi) (L:Nat) (p10:Bool) (zCz:List (List V)) (zCA:Int) (k_ret:Bool→List (List V)→Int→Option β):Option β :=
 k_ret p10 zCz zCA
theorem zg5 {β:Type} (xa:yj) (yc:yl) (yd:yn) (zb:ym) (xd:zq) (yb:zm) (yf:yx) (zd:xn) (zf:yq) (xf:yD) (za:xi) (L:Nat) (p10:Bool) (zCz:List (List V)) (zCA:Int) (X:St→Option β) (K:KT β):(xv 4 (xv 1 (zK (yk zn (xm xa yc yd zb xd yb yf zd zf xf za L) 0 L zR) (zbr yJ X K)))) .ret (zL p10 zCz zCA)=zdW xa yc yd zb xd yb yf zd zf xf za L p10 zCz zCA (fun p10 zCz zCA=>K .ret (zL p10 zCz zCA)):=by kernel_rfl
def zbY {β:Type} (xa:yj) (yc:yl) (yd:yn) (zb:ym) (xd:zq) (yb:zm) (yf:yx) (zd:xn) (zf:yq) (xf:yD) (za:xi) (L:Nat) (p2 p4:Int) (p36:List (List V)) (p37 p38:Int) (b6:List V) (zCz:List (List V)) (zCA:Int) (k_hbbbaba:zcV β):Option β :=
 lt (IntKind.wrap .i64 ((p38:Int)+(1:Int))) fun x43 =>
 k_hbbbaba p2 p4 p36 p37 x43 b6 zCz zCA
theorem zhc {β:Type} (xa:yj) (yc:yl) (yd:yn) (zb:ym) (xd:zq) (yb:zm) (yf:yx) (zd:xn) (zf:yq) (xf:yD) (za:xi) (L:Nat) (p2 p4:Int) (p36:List (List V)) (p37 p38:Int) (b6:List V) (zCz:List (List V)) (zCA:Int) (X:St→Option β) (K:KT β):(xv 4 (xv 1 (zK (yk zn (xm xa yc yd zb xd yb yf zd zf xf za L) 0 L zR) (zbr yJ X K)))) (.exit 4) (zfr p2 p4 p36 p37 p38 b6 zCz zCA)=zbY xa yc yd zb xd yb yf zd zf xf za L p2 p4 p36 p37 p38 b6 zCz zCA (fun p2 p4 p36 p37 p38 b6 zCz zCA=>X (z4 p2 p4 p36 p37 p38 b6 zCz zCA)):=by kernel_rfl
def zaj {β:Type} (xa:yj) (yc:yl) (yd:yn) (zb:ym) (xd:zq) (yb:zm) (yf:yx) (zd:xn) (zf:yq) (xf:yD) (za:xi) (L:Nat) (k_ret:Bool→List (List V)→Int→Option β) (k_x2:zgv β):Nat→Int→Int→List (List V)→Int→Int→List (List V)→Int→Int→List V→List V→List (List V)→Int→Option β
 | 0,_,_,_,_,_,_,_,_,_,_,_,_=>none
 | n+1,p2,p4,p36,p37,p38,p47,p48,p49,b6,b13,zCz,zCA=>zcB xa yc yd zb xd yb yf zd zf xf za L p2 p4 p36 p37 p38 p47 p48 p49 b6 b13 zCz zCA k_ret (fun p2 p4 p36 p37 p38 p47 p48 p49 b6 b13 zCz zCA=>zaj xa yc yd zb xd yb yf zd zf xf za L k_ret k_x2 n p2 p4 p36 p37 p38 p47 p48 p49 b6 b13 zCz zCA) k_x2
theorem zdT {β:Type} (xa:yj) (yc:yl) (yd:yn) (zb:ym) (xd:zq) (yb:zm) (yf:yx) (zd:xn) (zf:yq) (xf:yD) (za:xi) (L:Nat) (K:KT β):∀ (n:Nat) (p2 p4:Int) (p36:List (List V)) (p37 p38:Int) (p47:List (List V)) (p48 p49:Int) (b6 b13:List V) (zCz:List (List V)) (zCA:Int),yF (yk zn (xm xa yc yd zb xd yb yf zd zf xf za L) 0 L y9) zbe n (zaQ p2 p4 p36 p37 p38 p47 p48 p49 b6 b13 zCz zCA) K=zaj xa yc yd zb xd yb yf zd zf xf za L (fun p10 zCz zCA=>K .ret (zL p10 zCz zCA)) (fun p2 p4 p36 p37 p38 b6 b13 zCz zCA=>K (.exit 2) (zdF p2 p4 p36 p37 p38 b6 b13 zCz zCA)) n p2 p4 p36 p37 p38 p47 p48 p49 b6 b13 zCz zCA:=by
 intro n
 induction n with
 | zero=>intros; rfl
 | succ n ih =>
  intro p2 p4 p36 p37 p38 p47 p48 p49 b6 b13 zCz zCA
  refine (zhV xa yc yd zb xd yb yf zd zf xf za L p2 p4 p36 p37 p38 p47 p48 p49 b6 b13 zCz zCA (fun σ=>yF (yk zn (xm xa yc yd zb xd yb yf zd zf xf za L) 0 L y9) zbe n σ K) K).trans ?_
  simp only [ih]
  rfl
def zah {β:Type} (xa:yj) (yc:yl) (yd:yn) (zb:ym) (xd:zq) (yb:zm) (yf:yx) (zd:xn) (zf:yq) (xf:yD) (za:xi) (L:Nat) (k_ret:Bool→List (List V)→Int→Option β) (k_x4:zgp β):Nat→Int→Int→List (List V)→Int→Int→List (List V)→Int→Int→List V→List V→List (List V)→Int→Option β
 | 0,_,_,_,_,_,_,_,_,_,_,_,_=>none
 | n+1,p2,p4,p36,p37,p38,p78,p79,p80,b6,b13,zCz,zCA=>zcx xa yc yd zb xd yb yf zd zf xf za L p2 p4 p36 p37 p38 p78 p79 p80 b6 b13 zCz zCA k_ret (fun p2 p4 p36 p37 p38 p78 p79 p80 b6 b13 zCz zCA=>zah xa yc yd zb xd yb yf zd zf xf za L k_ret k_x4 n p2 p4 p36 p37 p38 p78 p79 p80 b6 b13 zCz zCA) k_x4
theorem zdU {β:Type} (xa:yj) (yc:yl) (yd:yn) (zb:ym) (xd:zq) (yb:zm) (yf:yx) (zd:xn) (zf:yq) (xf:yD) (za:xi) (L:Nat) (K:KT β):∀ (n:Nat) (p2 p4:Int) (p36:List (List V)) (p37 p38:Int) (p78:List (List V)) (p79 p80:Int) (b6 b13:List V) (zCz:List (List V)) (zCA:Int),yF (yk zn (xm xa yc yd zb xd yb yf zd zf xf za L) 0 L zaa) zbd n (zaO p2 p4 p36 p37 p38 p78 p79 p80 b6 b13 zCz zCA) K=zah xa yc yd zb xd yb yf zd zf xf za L (fun p10 zCz zCA=>K .ret (zL p10 zCz zCA)) (fun p2 p4 p36 p37 p38 b6 zCz zCA=>K (.exit 4) (zfr p2 p4 p36 p37 p38 b6 zCz zCA)) n p2 p4 p36 p37 p38 p78 p79 p80 b6 b13 zCz zCA:=by
 intro n
 induction n with
 | zero=>intros; rfl
 | succ n ih =>
  intro p2 p4 p36 p37 p38 p78 p79 p80 b6 b13 zCz zCA
  refine (zhU xa yc yd zb xd yb yf zd zf xf za L p2 p4 p36 p37 p38 p78 p79 p80 b6 b13 zCz zCA (fun σ=>yF (yk zn (xm xa yc yd zb xd yb yf zd zf xf za L) 0 L zaa) zbd n σ K) K).trans ?_
  simp only [ih]
  rfl
def zaN {β:Type} (xa:yj) (yc:yl) (yd:yn) (zb:ym) (xd:zq) (yb:zm) (yf:yx) (zd:xn) (zf:yq) (xf:yD) (za:xi) (L:Nat) (p2 p4:Int) (p36:List (List V)) (p37 p38:Int) (b6 b13:List V) (zCz:List (List V)) (zCA:Int) (k_ret:Bool→List (List V)→Int→Option β) (k_hbbbaba:zcV β):Option β :=
 zb3 xa yc yd zb xd yb yf zd zf xf za L p2 p4 p36 p37 p38 b6 b13 zCz zCA (fun p2 p4 p36 p37 p38 p78 p79 p80 b6 b13 zCz zCA=>zah xa yc yd zb xd yb yf zd zf xf za L (fun p10 zCz zCA=>zdW xa yc yd zb xd yb yf zd zf xf za L p10 zCz zCA k_ret) (fun p2 p4 p36 p37 p38 b6 zCz zCA=>zbY xa yc yd zb xd yb yf zd zf xf za L p2 p4 p36 p37 p38 b6 zCz zCA k_hbbbaba) L p2 p4 p36 p37 p38 p78 p79 p80 b6 b13 zCz zCA)
theorem zgI {β:Type} (xa:yj) (yc:yl) (yd:yn) (zb:ym) (xd:zq) (yb:zm) (yf:yx) (zd:xn) (zf:yq) (xf:yD) (za:xi) (L:Nat) (p2 p4:Int) (p36:List (List V)) (p37 p38:Int) (b6 b13:List V) (zCz:List (List V)) (zCA:Int) (X:St→Option β) (K:KT β):(xv 2 (zK (yk zn (xm xa yc yd zb xd yb yf zd zf xf za L) 0 L zaA) (xv 1 (zK (yk zn (xm xa yc yd zb xd yb yf zd zf xf za L) 0 L zR) (zbr yJ X K))))) (.exit 2) (zdF p2 p4 p36 p37 p38 b6 b13 zCz zCA)=zaN xa yc yd zb xd yb yf zd zf xf za L p2 p4 p36 p37 p38 b6 b13 zCz zCA (fun p10 zCz zCA=>K .ret (zL p10 zCz zCA)) (fun p2 p4 p36 p37 p38 b6 zCz zCA=>X (z4 p2 p4 p36 p37 p38 b6 zCz zCA)):=by
 refine (zhd xa yc yd zb xd yb yf zd zf xf za L p2 p4 p36 p37 p38 b6 b13 zCz zCA X K).trans ?_
 unfold zaN
 first
  | (simp only [zdU,zg5,zhc]; done)
  | (simp only [zdU]; rfl)
def zcP {β:Type} (xa:yj) (yc:yl) (yd:yn) (zb:ym) (xd:zq) (yb:zm) (yf:yx) (zd:xn) (zf:yq) (xf:yD) (za:xi) (L:Nat) (p2 p4:Int) (p36:List (List V)) (p37 p38:Int) (b6:List V) (zCz:List (List V)) (zCA:Int) (k_x0:List (List V)→Int→Option β) (k_ret:Bool→List (List V)→Int→Option β) (k_hbbbaba:zcV β):Option β :=
 zeH xa yc yd zb xd yb yf zd zf xf za L p2 p4 p36 p37 p38 b6 zCz zCA (fun p2 p4 p36 p37 p38 p47 p48 p49 b6 b13 zCz zCA=>zaj xa yc yd zb xd yb yf zd zf xf za L (fun p10 zCz zCA=>zdX xa yc yd zb xd yb yf zd zf xf za L p10 zCz zCA k_ret) (fun p2 p4 p36 p37 p38 b6 b13 zCz zCA=>zaN xa yc yd zb xd yb yf zd zf xf za L p2 p4 p36 p37 p38 b6 b13 zCz zCA k_ret k_hbbbaba) L p2 p4 p36 p37 p38 p47 p48 p49 b6 b13 zCz zCA) k_x0
theorem zk1 {β:Type} (xa:yj) (yc:yl) (yd:yn) (zb:ym) (xd:zq) (yb:zm) (yf:yx) (zd:xn) (zf:yq) (xf:yD) (za:xi) (L:Nat) (p2 p4:Int) (p36:List (List V)) (p37 p38:Int) (b6:List V) (zCz:List (List V)) (zCA:Int) (X:St→Option β) (K:KT β):yk zn (xm xa yc yd zb xd yb yf zd zf xf za L) 0 L zaT (z4 p2 p4 p36 p37 p38 b6 zCz zCA) (zbr yJ X K)=zcP xa yc yd zb xd yb yf zd zf xf za L p2 p4 p36 p37 p38 b6 zCz zCA (fun zCz zCA=>K (.exit 0) (zdD zCz zCA)) (fun p10 zCz zCA=>K .ret (zL p10 zCz zCA)) (fun p2 p4 p36 p37 p38 b6 zCz zCA=>X (z4 p2 p4 p36 p37 p38 b6 zCz zCA)):=by
 refine (zlw xa yc yd zb xd yb yf zd zf xf za L p2 p4 p36 p37 p38 b6 zCz zCA X K).trans ?_
 unfold zcP
 first
  | (simp only [zdT,zgN,zgI]; done)
  | (simp only [zdT]; rfl)
def zbO {β:Type} (xa:yj) (yc:yl) (yd:yn) (zb:ym) (xd:zq) (yb:zm) (yf:yx) (zd:xn) (zf:yq) (xf:yD) (za:xi) (L:Nat) (k_x0:List (List V)→Int→Option β) (k_ret:Bool→List (List V)→Int→Option β):Nat→Int→Int→List (List V)→Int→Int→List V→List (List V)→Int→Option β
 | 0,_,_,_,_,_,_,_,_=>none
 | n+1,p2,p4,p36,p37,p38,b6,zCz,zCA=>zcP xa yc yd zb xd yb yf zd zf xf za L p2 p4 p36 p37 p38 b6 zCz zCA k_x0 k_ret (fun p2 p4 p36 p37 p38 b6 zCz zCA=>zbO xa yc yd zb xd yb yf zd zf xf za L k_x0 k_ret n p2 p4 p36 p37 p38 b6 zCz zCA)
theorem zge {β:Type} (xa:yj) (yc:yl) (yd:yn) (zb:ym) (xd:zq) (yb:zm) (yf:yx) (zd:xn) (zf:yq) (xf:yD) (za:xi) (L:Nat) (K:KT β):∀ (n:Nat) (p2 p4:Int) (p36:List (List V)) (p37 p38:Int) (b6:List V) (zCz:List (List V)) (zCA:Int),yF (yk zn (xm xa yc yd zb xd yb yf zd zf xf za L) 0 L zaT) yJ n (z4 p2 p4 p36 p37 p38 b6 zCz zCA) K=zbO xa yc yd zb xd yb yf zd zf xf za L (fun zCz zCA=>K (.exit 0) (zdD zCz zCA)) (fun p10 zCz zCA=>K .ret (zL p10 zCz zCA)) n p2 p4 p36 p37 p38 b6 zCz zCA:=by
 intro n
 induction n with
 | zero=>intros; rfl
 | succ n ih =>
  intro p2 p4 p36 p37 p38 b6 zCz zCA
  refine (zk1 xa yc yd zb xd yb yf zd zf xf za L p2 p4 p36 p37 p38 b6 zCz zCA (fun σ=>yF (yk zn (xm xa yc yd zb xd yb yf zd zf xf za L) 0 L zaT) yJ n σ K) K).trans ?_
  simp only [ih]
  rfl
def zfj {β:Type} (xa:yj) (yc:yl) (yd:yn) (zb:ym) (xd:zq) (yb:zm) (yf:yx) (zd:xn) (zf:yq) (xf:yD) (za:xi) (L:Nat) (p0:List (List V)) (p1:List V) (p2 p3 p4:Int) (k_fin:Bool→Option β):Option β :=
 zhw xa yc yd zb xd yb yf zd zf xf za L p0 p1 p2 p3 p4 k_fin (fun p2 p4 p36 p37 p38 b6 zCz zCA=>zbO xa yc yd zb xd yb yf zd zf xf za L (fun zCz zCA=>zgE xa yc yd zb xd yb yf zd zf xf za L zCz zCA k_fin) (fun p10 zCz zCA=>zgr xa yc yd zb xd yb yf zd zf xf za L p10 zCz zCA k_fin) L p2 p4 p36 p37 p38 b6 zCz zCA)
theorem zoC {β:Type} (xa:yj) (yc:yl) (yd:yn) (zb:ym) (xd:zq) (yb:zm) (yf:yx) (zd:xn) (zf:yq) (xf:yD) (za:xi) (L:Nat) (p0:List (List V)) (p1:List V) (p2 p3 p4:Int) (k:KK β):zF zn (xm xa yc yd zb xd yb yf zd zf xf za L) L za0 [(V.sl 1 p0),(V.agg p1),(V.sc (.int .u32 p2)),(V.sc (.int .i64 p3)),(V.sc (.int .i64 p4))] [] k=zfj xa yc yd zb xd yb yf zd zf xf za L p0 p1 p2 p3 p4 (fun p0=>k (V.sc (.bool p0)) []):=by
 refine (zoR xa yc yd zb xd yb yf zd zf xf za L p0 p1 p2 p3 p4 k).trans ?_
 unfold zfj
 first
  | (simp only [zge,zkB,zj5]; done)
  | (simp only [zge]; rfl)
abbrev zql:=∀ (β:Type),Nat→List (List V)→List V→Int→Int→Int→(Bool→Option β)→Option β
def zcF (β:Type) (L:Nat) (p0:List (List V)) (p1:List V) (p2 p3 p4:Int) (k_fin:Bool→Option β):Option β:=zfj xa yc yd zb xd yb yf zd zf xf za L p0 p1 p2 p3 p4 k_fin
def zht (zcF:zql) (L:Nat) (β:Type) (args:List V) (bor:Bor) (k:KK β):Option β:=match args,bor with
 | [a0,a1,a2,a3,a4],[]=>aL 1 a0 fun p0=>aG a1 fun p1=>aI .u32 a2 fun p2=>aI .i64 a3 fun p3=>aI .i64 a4 fun p4=>zcF β L p0 p1 p2 p3 p4 (fun p0=>k (V.sc (.bool p0)) [])
 | _,_=>none
theorem zoE (L:Nat) (β:Type) (args:List V) (bor:Bor) (k:KK β) (r:β) (h:zht zcF L β args bor k=some r):zF zn (xm xa yc yd zb xd yb yf zd zf xf za L) L za0 args bor k=some r:=by
 unfold zht at h
 split at h
 ·have q:=zcN h; clear h; obtain ⟨p0,rfl,h⟩:=q
  have q:=zcn h; clear h; obtain ⟨p1,rfl,h⟩:=q
  have q:=zcr h; clear h; obtain ⟨p2,rfl,h⟩:=q
  have q:=zcr h; clear h; obtain ⟨p3,rfl,h⟩:=q
  have q:=zcr h; clear h; obtain ⟨p4,rfl,h⟩:=q
  exact (zoC xa yc yd zb xd yb yf zd zf xf za L p0 p1 p2 p3 p4 k).trans h
 ·cases h
def zsc:CF:=⟨6,[.tmp 2],
 (.seq (.reg [oo 2 (.move (.const (.sc (.bool false))) false)])
 (.seq (.reg [oo 3 (.move (tq 0) false),
   oo 4 (.lenS (tq 3)),
   oo 5 (.bin .leq (tq 4) (.const (.sc (.int .i64 200)))),
   oo 2 (.move (tq 5) false)])
 .ret))⟩
def zp6:Hint:=⟨[],[],[none],[],[],false,false⟩
def zBO:Nat→Sh:=zap []
def zBP (L:Nat):CBC:=noC
def zyi {β:Type} (L:Nat) (p0:List (List V)) (k_fin:Bool→Option β):Option β :=
 k_fin (decide (((List.length p0:Nat):Int)≤(200:Int)))
abbrev zaE:=∀ (β:Type),Nat→List (List V)→(Bool→Option β)→Option β
def xA (β:Type) (L:Nat) (p0:List (List V)) (k_fin:Bool→Option β):Option β:=zyi L p0 k_fin
def zx0 (xA:zaE) (L:Nat) (β:Type) (args:List V) (bor:Bor) (k:KK β):Option β:=match args,bor with
 | [a0],[]=>aL 1 a0 fun p0=>xA β L p0 (fun p0=>k (V.sc (.bool p0)) [])
 | _,_=>none
def zsn:CC:=(.seq (.reg [oo 10 (.bin .lss (tq 9) (tq 8))])
 (.seq (.cond (tq 10)
 .skip
 (.seq (.mask (bl 0 17) (bl 130983 17))
 (.exit 0)))
 (.seq (.block 1 (.seq (.reg [oo 11 (.indexAddrS 32 (tq 7) (tq 9)),
   oo 12 (.load true 32 (tq 11) false),
   oo 6 (.alloc true (rp 32 (.sc (.int .u8 0)) [])),
   oz (.store 32 (tq 6) (tq 12))])
 (.seq (.reg [oo 13 (.load true 32 (tq 6) false),
   oo 14 (.load true 32 (tq 3) false),
   oo 15 (.eqAgg false 32 (tq 13) (tq 14))])
 (.cond (tq 15)
 (.seq (.reg [oo 4 (.move (.const (.sc (.bool true))) false)])
 (.seq (.mask (bl 16 17) (bl 130999 17))
 .ret))
 .skip))))
 (.reg [oo 16 (.bin .add (tq 9) (.const (.sc (.int .i64 1)))),
   oo 9 (.move (tq 16) false)]))))
def zvI:CC:=(.seq (.reg [oo 4 (.move (.const (.sc (.bool false))) false)])
 .ret)
def zrk:CF:=⟨17,[.tmp 4],
 (.seq (.reg [oo 3 (.box true (tq 1)),
   oo 4 (.move (.const (.sc (.bool false))) false)])
 (.seq (.seq (.reg [oo 7 (.move (tq 0) false),
   oo 8 (.lenS (tq 7)),
   oo 9 (.move (.const (.sc (.int .i64 0))) false)])
 (.block 0 (.loop (bl 904 17) (bl 130991 17)
 zsn)))
 zvI))⟩
def zpi:Hint:=⟨[],[],[none,some ((bl 904 17),(bl 130991 17)),none,some ((bl 0 17),(bl 130983 17)),none,none,some ((bl 16 17),(bl 130999 17)),none],[],[],false,false⟩
def zBy:Nat→Sh:=zap []
def zBl (L:Nat):CBC:=noC
def zAg:St→St:=zag 0 (bl 904 17) (bl 130991 17)
def zzh (p7:List (List V)) (p8 p9:Int) (b3:List V):St:=⟨(jn 3 ((V.ptr 3 0)::(jn 3 ((V.sl 32 p7)::((V.sc (.int .i64 p8))::((V.sc (.int .i64 p9))::(jn 7 []))))))),(gn 3 ((.live true b3)::(gn 13 [])))⟩
def zAc (p4:Bool):St:=⟨(jn 4 ((V.sc (.bool p4))::(jn 12 []))),(gn 17 [])⟩
def zAj:St:=⟨(jn 17 []),(gn 17 [])⟩
def zw5 {β:Type} (L:Nat) (p0:List (List V)) (p1:List V) (k_hbaba:List (List V)→Int→Int→List V→Option β):Option β :=
 k_hbaba p0 ((List.length p0:Nat):Int) (0:Int) p1
def zts {β:Type} (L:Nat) (p7:List (List V)) (p8 p9:Int) (b3:List V) (k_ret:Bool→Option β) (k_hbaba:List (List V)→Int→Int→List V→Option β) (k_x0:Option β):Option β :=
 ifb (decide (p9 < p8)) (
 idx p7 p9 fun c0 =>
 chk ((List.length (List.take 32 c0))=32∧0+32≤32) (
 lt (ya (List.replicate 32 (V.sc (.int .u8 (0:Int)))) 0 (List.take 32 c0)) fun r1 =>
 chk (0+32≤(List.length r1)) (
 chk (0+32≤(List.length b3)) (
 eqC 32 (List.take 32 r1) (List.take 32 b3) fun v2 =>
 ifb v2 (
 k_ret true) (
 lt (IntKind.wrap .i64 ((p9:Int)+(1:Int))) fun x3 =>
 k_hbaba p7 p8 x3 b3))))) (
 k_x0)
def zqI {β:Type} (L:Nat) (p4:Bool) (k_fin:Bool→Option β):Option β :=
 k_fin p4
def zrI {β:Type} (L:Nat) (k_fin:Bool→Option β):Option β :=
 k_fin false
def zoq {β:Type} (L:Nat) (k_ret:Bool→Option β) (k_x0:Option β):Nat→List (List V)→Int→Int→List V→Option β
 | 0,_,_,_,_=>none
 | n+1,p7,p8,p9,b3=>zts L p7 p8 p9 b3 k_ret (fun p7 p8 p9 b3=>zoq L k_ret k_x0 n p7 p8 p9 b3) k_x0
def zw8 {β:Type} (L:Nat) (p0:List (List V)) (p1:List V) (k_fin:Bool→Option β):Option β :=
 zw5 L p0 p1 (fun p7 p8 p9 b3=>zoq L (fun p4=>zqI L p4 k_fin) (zrI L k_fin) L p7 p8 p9 b3)
abbrev zab:=∀ (β:Type),Nat→List (List V)→List V→(Bool→Option β)→Option β
def yw (β:Type) (L:Nat) (p0:List (List V)) (p1:List V) (k_fin:Bool→Option β):Option β:=zw8 L p0 p1 k_fin
def zxg (yw:zab) (L:Nat) (β:Type) (args:List V) (bor:Bor) (k:KK β):Option β:=match args,bor with
 | [a0,a1],[]=>aL 32 a0 fun p0=>aG a1 fun p1=>yw β L p0 p1 (fun p0=>k (V.sc (.bool p0)) [])
 | _,_=>none
def zgh:CC:=(.seq (.reg [oo 97 (.bin .lss (tq 96) (tq 95))])
 (.seq (.cond (tq 97)
 .skip
 (.seq (.mask (bl 992 148) (bl 356811919152373704659264560651937353093403631 148))
 (.exit 3)))
 (.seq (.block 4 (.seq (.reg [oo 98 (.indexAddrS 32 (tq 94) (tq 96)),
   oo 99 (.load true 32 (tq 98) false),
   oo 16 (.alloc true (rp 32 (.sc (.int .u8 0)) [])),
   oz (.store 32 (tq 16) (tq 99))])
 (.seq (.seq (.reg [oo 100 (.move (tq 8) false),
   oo 101 (.load true 32 (tq 16) false),
   oo 102 (.call 354 [((tq 100),0),((tq 101),0)] []),
   oo 103 (.move (tq 102) false),
   ⟨(some 104),false,(some (103,false)),.move (tq 7) false⟩,
   ⟨(some 105),false,(some (103,false)),.load true 32 (tq 16) false⟩,
   ⟨(some 106),false,(some (103,false)),.call 354 [((tq 104),0),((tq 105),0)] []⟩,
   ⟨(some 107),false,(some (103,false)),.un .not (tq 106)⟩,
   oo 108 (.pick (tq 103) (.const (.sc (.bool true))) (tq 107))])
 (.cond (tq 108)
 (.seq (.reg [oo 4 (.move (.const (.sc (.bool false))) false)])
 (.seq (.mask (bl 16 148) (bl 356811919152373656311636663522476535484285023 148))
 .ret))
 .skip))
 (.seq (.reg [oo 110 (.load true 5 (tq 5) false),
   oo 111 (.load true 32 (tq 16) false),
   oo 112 (.call 348 [((tq 110),1),((tq 111),0)] []),
   oo 109 (.move (tq 112) true),
   oo 113 (.pull (tq 109) 0),
   oo 114 (.pull (tq 109) 1),
   oo 17 (.alloc true [(.sc (.int .u32 0)),(.sc (.bool false)),(.gs 1 []),(.gs 35 []),(.gs 32 [])]),
   oz (.store 5 (tq 17) (tq 113)),
   oo 18 (.move (tq 114) false)])
 (.seq (.seq (.reg [oo 115 (.move (tq 18) false),
   oo 116 (.bin .neq (tq 115) (.const (.sc (.int .i64 0))))])
 (.cond (tq 116)
 (.seq (.reg [oo 4 (.move (.const (.sc (.bool false))) false)])
 (.seq (.mask (bl 16 148) (bl 356811919152373656311636663522476535484285023 148))
 .ret))
 .skip))
 (.dreg [] [(oo 117 (.load true 5 (tq 17) false),ql 17 [16] [120,121]),
   (oo 118 (.move (tq 8) true),qc [17,16] [120]),
   (oo 119 (.load true 32 (tq 16) false),ql 16 [17] []),
   (oo 120 (.buildSlice 32 1 (rp 32 (.sc (.int .u8 0)) []) [(0,32,(tq 119))]),qn [17] []),
   (oo 121 (.append 32 32 (tq 118) (tq 120)),qn [17] []),
   (oz (.store 5 (tq 5) (tq 117)),q0),
   (oo 8 (.move (tq 121) true),q0)]))))))
 (.reg [oo 122 (.bin .add (tq 96) (.const (.sc (.int .i64 1)))),
   oo 96 (.move (tq 122) false)]))))
def zj7:CC:=(.seq (.reg [oo 136 (.bin .lss (tq 135) (tq 134))])
 (.seq (.cond (tq 136)
 .skip
 (.seq (.mask (bl 4194304 148) (bl 354024330026673642371879527578292738873152463 148))
 (.exit 5)))
 (.seq (.block 6 (.seq (.reg [oo 137 (.indexAddrS 32 (tq 133) (tq 135)),
   oo 138 (.load true 32 (tq 137) false),
   oo 25 (.alloc true (rp 32 (.sc (.int .u8 0)) [])),
   oz (.store 32 (tq 25) (tq 138))])
 (.seq (.reg [oo 139 (.move (tq 8) false),
   oo 140 (.load true 32 (tq 25) false),
   oo 141 (.call 354 [((tq 139),0),((tq 140),0)] []),
   oo 142 (.un .not (tq 141))])
 (.cond (tq 142)
 (.seq (.reg [oo 4 (.move (.const (.sc (.bool false))) false)])
 (.seq (.mask (bl 16 148) (bl 354024330026673642371879527578292738868958175 148))
 .ret))
 .skip))))
 (.reg [oo 143 (.bin .add (tq 135) (.const (.sc (.int .i64 1)))),
   oo 135 (.move (tq 143) false)]))))
def zlp:CC:=(.seq (.reg [oo 144 (.fieldAddr 3 (tq 22)),
   oo 145 (.load false 1 (tq 144) false),
   oo 146 (.lenS (tq 145)),
   oo 147 (.bin .eql (tq 146) (.const (.sc (.int .i64 0)))),
   oo 4 (.move (tq 147) false)])
 .ret)
def zmm:CC:=(.seq (.seq (.reg [oo 35 (.move (tq 6) false),
   oo 36 (.call 247 [((tq 35),0)] [])])
 (.cond (tq 36)
 .skip
 (.seq (.mask (bl 928 148) (bl 356811919152373656311636663522476535484285935 148))
 (.exit 0))))
 (.block 1 (.seq (.reg [oo 37 (.move (tq 9) false),
   oo 38 (.move (tq 6) false),
   oo 39 (.call 231 [((tq 38),0),((.const (.sc (.int .i64 5))),0)] []),
   oo 40 (.conv .u32 (tq 39)),
   oo 41 (.bin .add (tq 37) (tq 40)),
   oo 9 (.move (tq 41) false)])
 (.seq (.reg [oo 42 (.move (tq 6) false),
   oo 43 (.call 231 [((tq 42),0),((.const (.sc (.int .i64 30))),0)] []),
   oo 44 (.conv .u8 (tq 43)),
   oo 45 (.build (rp 32 (.sc (.int .u8 0)) []) [(0,1,(tq 44))]),
   oo 10 (.alloc true (rp 32 (.sc (.int .u8 0)) [])),
   oz (.store 32 (tq 10) (tq 45))])
 (.seq (.reg [oo 46 (.move (tq 6) false),
   oo 47 (.call 231 [((tq 46),0),((.const (.sc (.int .i64 4))),0)] [])])
 (.block 2 (.seq (.reg [oo 71 (.bin .eql (tq 47) (.const (.sc (.int .i64 0)))),
   oo 70 (.move (tq 71) false)])
 (.cond (tq 70)
 (.seq (.reg [oo 73 (.load true 5 (tq 5) false),
   oo 74 (.load true 32 (tq 10) false),
   oo 75 (.call 348 [((tq 73),1),((tq 74),0)] []),
   oo 72 (.move (tq 75) true),
   oo 76 (.pull (tq 72) 0),
   oo 77 (.pull (tq 72) 1),
   oo 11 (.alloc true [(.sc (.int .u32 0)),(.sc (.bool false)),(.gs 1 []),(.gs 35 []),(.gs 32 [])]),
   oz (.store 5 (tq 11) (tq 76)),
   oo 12 (.move (tq 77) false)])
 (.seq (.reg [oo 78 (.move (tq 12) false),
   oo 79 (.bin .eql (tq 78) (.const (.sc (.int .i64 0))))])
 (.cond (tq 79)
 (.dreg [] [(oo 80 (.load true 5 (tq 11) false),ql 11 [10] [83,84]),
   (oo 81 (.move (tq 8) true),qc [11,10] [83]),
   (oo 82 (.load true 32 (tq 10) false),ql 10 [11] []),
   (oo 83 (.buildSlice 32 1 (rp 32 (.sc (.int .u8 0)) []) [(0,32,(tq 82))]),qn [11] []),
   (oo 84 (.append 32 32 (tq 81) (tq 83)),qn [11] []),
   (oz (.store 5 (tq 5) (tq 80)),q0),
   (oo 8 (.move (tq 84) true),q0)])
 .skip)))
 (.seq (.reg [oo 86 (.bin .eql (tq 47) (.const (.sc (.int .i64 1)))),
   oo 85 (.move (tq 86) false)])
 (.cond (tq 85)
 (.seq (.reg [oo 88 (.load true 5 (tq 5) false),
   oo 89 (.move (tq 9) false),
   oo 90 (.call 350 [((tq 88),1),((tq 89),0)] []),
   oo 87 (.move (tq 90) true),
   oo 91 (.pull (tq 87) 0),
   oo 92 (.extract (tq 87) 1),
   oo 13 (.alloc true [(.sc (.int .u32 0)),(.sc (.bool false)),(.gs 1 []),(.gs 35 []),(.gs 32 [])]),
   oz (.store 5 (tq 13) (tq 91)),
   oo 14 (.move (tq 92) false)])
 (.seq (.reg [oo 93 (.load true 5 (tq 13) false),
   oz (.store 5 (tq 5) (tq 93))])
 (.seq (.reg [oo 94 (.move (tq 14) false),
   oo 95 (.lenS (tq 94)),
   oo 96 (.move (.const (.sc (.int .i64 0))) false)])
 (.block 3 (.loop (bl 138649284399962590788701914080 148) (bl 356811919152373704659264560651937353093403631 148)
 zgh)))))
 (.seq (.dreg [] [(oo 49 (.load true 5 (tq 5) false),ql 5 [10] [19]),
   (oo 50 (.move (tq 6) false),q0),
   (oo 51 (.call 231 [((tq 50),0),((.const (.sc (.int .i64 9))),0)] []),qc [5,10] [19]),
   (oo 52 (.bin .sub (tq 51) (.const (.sc (.int .i64 1)))),q0),
   (oo 53 (.load true 32 (tq 10) false),ql 10 [5] [19]),
   (oo 54 (.move (tq 9) false),q0),
   (oo 55 (.call 346 [((tq 49),1),((tq 52),0),((tq 53),0),((tq 54),0),((.const (.sc (.int .u32 10))),0)] []),qc [] [19]),
   (oo 48 (.move (tq 55) true),qc [] [19]),
   (oo 56 (.pull (tq 48) 0),q0),
   (oo 57 (.pull (tq 48) 1),q0),
   (oo 58 (.pull (tq 48) 2),q0),
   (oo 19 (.alloc true [(.sc (.int .u32 0)),(.sc (.bool false)),(.gs 1 []),(.gs 35 []),(.gs 32 [])]),qn [5,10] []),
   (oz (.store 5 (tq 19) (tq 56)),q0),
   (oo 20 (.move (tq 57) false),q0),
   (oo 21 (.move (tq 58) false),q0)])
 (.seq (.reg [oo 59 (.move (tq 21) false),
   oo 60 (.bin .eql (tq 59) (.const (.sc (.int .i64 0)))),
   oo 61 (.move (tq 60) false),
   ⟨(some 62),false,(some (61,true)),.move (tq 20) false⟩,
   ⟨(some 63),false,(some (61,true)),.bin .geq (tq 62) (.const (.sc (.int .i64 0)))⟩,
   oo 64 (.pick (tq 61) (tq 63) (.const (.sc (.bool false))))])
 (.cond (tq 64)
 (.dreg [] [(oo 65 (.load true 5 (tq 19) false),ql 19 [10] [68,69]),
   (oo 66 (.move (tq 7) true),qc [19,10] [68]),
   (oo 67 (.load true 32 (tq 10) false),ql 10 [19] []),
   (oo 68 (.buildSlice 32 1 (rp 32 (.sc (.int .u8 0)) []) [(0,32,(tq 67))]),qn [19] []),
   (oo 69 (.append 32 32 (tq 66) (tq 68)),qn [19] []),
   (oz (.store 5 (tq 5) (tq 65)),q0),
   (oo 7 (.move (tq 69) true),q0)])
 .skip)))))))))))))
def zmX:CC:=(.seq (.reg [oo 124 (.load true 5 (tq 5) false),
   oo 125 (.move (tq 9) false),
   oo 126 (.bin .add (tq 125) (.const (.sc (.int .u32 10)))),
   oo 127 (.call 350 [((tq 124),1),((tq 126),0)] []),
   oo 123 (.move (tq 127) true),
   oo 128 (.pull (tq 123) 0),
   oo 129 (.extract (tq 123) 1),
   oo 22 (.alloc true [(.sc (.int .u32 0)),(.sc (.bool false)),(.gs 1 []),(.gs 35 []),(.gs 32 [])]),
   oz (.store 5 (tq 22) (tq 128)),
   oo 23 (.move (tq 129) false)])
 (.seq (.reg [oo 130 (.move (tq 8) true),
   oo 131 (.move (tq 23) false),
   oo 132 (.append 32 32 (tq 130) (tq 131)),
   oo 8 (.move (tq 132) true)])
 (.seq (.seq (.reg [oo 133 (.move (tq 7) false),
   oo 134 (.lenS (tq 133)),
   oo 135 (.move (.const (.sc (.int .i64 0))) false)])
 (.block 5 (.loop (bl 76223250190290215815795912064716083560704 148) (bl 354024330026673642371879527578292738873152463 148)
 zj7)))
 zlp)))
def zl6:CF:=⟨148,[.tmp 4],
 (.seq (.reg [oo 4 (.move (.const (.sc (.bool false))) false)])
 (.seq (.seq (.reg [oo 26 (.call 332 [] []),
   oo 27 (.un .not (tq 26))])
 (.cond (tq 27)
 (.seq (.reg [oo 4 (.move (.const (.sc (.bool false))) false)])
 .ret)
 .skip))
 (.seq (.seq (.reg [oo 28 (.move (tq 1) false),
   oo 29 (.call 353 [((tq 28),0)] []),
   oo 30 (.un .not (tq 29))])
 (.cond (tq 30)
 (.seq (.reg [oo 4 (.move (.const (.sc (.bool true))) false)])
 .ret)
 .skip))
 (.seq (.reg [oo 31 (.buildSlice 1 2 [(.sc (.int .i64 0))] [(0,1,(.const (.sc (.int .i64 4)))),(1,1,(.const (.sc (.int .i64 7))))]),
   oo 32 (.build [(.sc (.int .u32 0)),(.sc (.bool false)),(.sl 1 []),(.sl 35 []),(.sl 32 [])] [(2,1,(tq 31))]),
   oo 5 (.alloc true [(.sc (.int .u32 0)),(.sc (.bool false)),(.gs 1 []),(.gs 35 []),(.gs 32 [])]),
   oz (.store 5 (tq 5) (tq 32))])
 (.seq (.reg [oo 33 (.move (tq 1) false),
   oo 34 (.call 225 [((tq 33),0)] []),
   oo 6 (.move (tq 34) false)])
 (.seq (.reg [oo 7 (.move (.const (.gs 32 [])) true),
   oo 8 (.move (.const (.gs 32 [])) true)])
 (.seq (.reg [oo 9 (.move (.const (.sc (.int .u32 0))) false)])
 (.seq (.block 0 (.loop (bl 992 148) (bl 356811919152373656311636663522476535484285935 148)
 zmm))
 zmX))))))))⟩
def zkU:Hint:=⟨[(5,2),(7,0),(7,1),(17,3),(17,6),(19,1),(19,6),(21,3),(21,5),(21,6),(28,3),(28,6),(31,1),(31,6),(13,7),(13,11),(15,1),(15,6),(33,4),(33,6),(33,7),(34,0),(34,3)],[],[none,none,none,none,none,some ((bl 992 148),(bl 356811919152373656311636663522476535484285935 148)),none,some ((bl 928 148),(bl 356811919152373656311636663522476535484285935 148)),none,none,none,none,none,none,some ((bl 138649284399962590788701914080 148),(bl 356811919152373704659264560651937353093403631 148)),none,some ((bl 992 148),(bl 356811919152373704659264560651937353093403631 148)),none,none,some ((bl 16 148),(bl 356811919152373656311636663522476535484285023 148)),none,some ((bl 16 148),(bl 356811919152373656311636663522476535484285023 148)),none,none,some ((bl 76223250190290215815795912064716083560704 148),(bl 354024330026673642371879527578292738873152463 148)),none,some ((bl 4194304 148),(bl 354024330026673642371879527578292738873152463 148)),none,none,some ((bl 16 148),(bl 354024330026673642371879527578292738868958175 148)),none],[],[],false,false⟩
def zzl:Nat→Sh:=zap [(145,(.sl 35))]
def zyB (xa:yj) (xA:zaE) (yc:yl) (zi:yG) (xc:xo) (yb:zm) (zf:yq) (yg:yy) (yw:zab) (L:Nat):CBC:=(xJ 354 (zxg yw L) (xJ 346 (zq6 yg L) (xJ 350 (zjg zf L) (xJ 348 (zg9 yb L) (xJ 231 (zfa xc L) (xJ 247 (ze1 zi L) (xJ 225 (ziK yc L) (xJ 353 (zx0 xA L) (xJ 332 (zgk xa L) noC)))))))))
def zvz:St→St:=zag 0 (bl 992 148) (bl 356811919152373656311636663522476535484285935 148)
def zpw:St→St:=zag 0 (bl 138649284399962590788701914080 148) (bl 356811919152373704659264560651937353093403631 148)
def zsY:St→St:=zag 0 (bl 76223250190290215815795912064716083560704 148) (bl 354024330026673642371879527578292738873152463 148)
def zuf (p7 p8:List (List V)) (p9:Int) (b5:List V) (zCM:List (List V)) (zCN:Int):St:=⟨(jn 5 ((V.ptr 5 0)::((V.ptr 34 0)::((V.gs 32 p7)::((V.gs 32 p8)::((V.sc (.int .u32 p9))::(jn 138 []))))))),(gn 5 ((.live true b5)::(gn 28 ((.live false [(V.sl 1 zCM),(V.sc (.int .i64 zCN))])::(gn 113 [])))))⟩
def zou (p7 p8:List (List V)) (p9:Int) (p94:List (List V)) (p95 p96:Int) (b5:List V) (zCM:List (List V)) (zCN:Int):St:=⟨(jn 5 ((V.ptr 5 0)::((V.ptr 34 0)::((V.gs 32 p7)::((V.gs 32 p8)::((V.sc (.int .u32 p9))::(jn 84 ((V.sl 32 p94)::((V.sc (.int .i64 p95))::((V.sc (.int .i64 p96))::(jn 51 []))))))))))),(gn 5 ((.live true b5)::(gn 28 ((.live false [(V.sl 1 zCM),(V.sc (.int .i64 zCN))])::(gn 113 [])))))⟩
def zxH (p7 p8:List (List V)) (p9:Int) (b5:List V) (zCM:List (List V)) (zCN:Int):St:=⟨(jn 5 ((V.ptr 5 0)::(jn 1 ((V.gs 32 p7)::((V.gs 32 p8)::((V.sc (.int .u32 p9))::(jn 138 []))))))),(gn 5 ((.live true b5)::(gn 28 ((.live false [(V.sl 1 zCM),(V.sc (.int .i64 zCN))])::(gn 113 [])))))⟩
def zsg (p8 zC4:List (List V)) (zC5 zC3:Int) (b22:List V) (zCM:List (List V)) (zCN:Int):St:=⟨(jn 8 ((V.gs 32 p8)::(jn 13 ((V.ptr 22 0)::(jn 110 ((V.sl 32 zC4)::((V.sc (.int .i64 zC5))::((V.sc (.int .i64 zC3))::(jn 12 []))))))))),(gn 22 ((.live true b22)::(gn 11 ((.live false [(V.sl 1 zCM),(V.sc (.int .i64 zCN))])::(gn 113 [])))))⟩
def zxc (p4:Bool) (zCM:List (List V)) (zCN:Int):St:=⟨(jn 4 ((V.sc (.bool p4))::(jn 143 []))),(gn 34 ((.live false [(V.sl 1 zCM),(V.sc (.int .i64 zCN))])::(gn 113 [])))⟩
def zxK (p7 p8:List (List V)) (p9:Int) (b5:List V) (zCM:List (List V)) (zCN:Int):St:=⟨(jn 5 ((V.ptr 5 0)::((V.ptr 34 0)::((V.gs 32 p7)::((V.gs 32 p8)::((V.sc (.int .u32 p9))::(jn 138 []))))))),(gn 5 ((.live true b5)::(gn 28 ((.live false [(V.sl 1 zCM),(V.sc (.int .i64 zCN))])::(gn 113 [])))))⟩
def zxA (b22:List V) (zCM:List (List V)) (zCN:Int):St:=⟨(jn 22 ((V.ptr 22 0)::(jn 125 []))),(gn 22 ((.live true b22)::(gn 11 ((.live false [(V.sl 1 zCM),(V.sc (.int .i64 zCN))])::(gn 113 [])))))⟩
abbrev zcE (β:Type):Type:=List (List V)→List (List V)→Int→List V→List (List V)→Int→Option β
abbrev zc0 (β:Type):Type:=List (List V)→List (List V)→Int→List (List V)→Int→Int→List V→List (List V)→Int→Option β
abbrev zhs (β:Type):Type:=List (List V)→List (List V)→Int→List V→List (List V)→Int→Option β
abbrev zfo (β:Type):Type:=List (List V)→List (List V)→Int→Int→List V→List (List V)→Int→Option β
abbrev zle (β:Type):Type:=List (List V)→List (List V)→Int→List V→List (List V)→Int→Option β
def zrO {β:Type} (xa:yj) (xA:zaE) (yc:yl) (zi:yG) (xc:xo) (yb:zm) (zf:yq) (yg:yy) (yw:zab) (L:Nat) (p0 p1:List (List V)) (k_fin:Bool→Option β) (k_hbbbbbbbaa:zcE β):Option β :=
 xa β L  (fun v0 =>
 ifb (!v0) (
 k_fin false) (
 xA β L p1 (fun v1 =>
 ifb (!v1) (
 k_fin true) (
 lt [(V.sc (.int .u32 (0:Int))),(V.sc (.bool false)),(V.sl 1 (xb 1 2 [(V.sc (.int .i64 (4:Int))),(V.sc (.int .i64 (7:Int)))])),(V.sl 35 ([]:List (List V))),(V.sl 32 ([]:List (List V)))] fun r2 =>
 yc β L p1 (fun v3 v4 =>
 k_hbbbbbbbaa ([]:List (List V)) ([]:List (List V)) (0:Int) r2 v3 v4)))))
def zmD {β:Type} (xa:yj) (xA:zaE) (yc:yl) (zi:yG) (xc:xo) (yb:zm) (zf:yq) (yg:yy) (yw:zab) (L:Nat) (p7 p8:List (List V)) (p9:Int) (b5:List V) (zCM:List (List V)) (zCN:Int) (k_hbbbbbbbaa:zcE β) (k_hbbbbbbbaaababbbabbbabbba:zc0 β) (k_x0:zhs β):Option β :=
 zi β L zCM zCN (fun v5 v6 v7 =>
 ifb v5 (
 xc β L (5:Int) v6 v7 (fun v8 v9 v10 =>
 lt (IntKind.wrap .u32 v8) fun x11 =>
 lt (IntKind.wrap .u32 ((p9:Int)+x11)) fun x12 =>
 xc β L (30:Int) v9 v10 (fun v13 v14 v15 =>
 lt (IntKind.wrap .u8 v13) fun x16 =>
 lt ([(V.sc (.int .u8 x16))]++List.replicate 31 (V.sc (.int .u8 (0:Int)))) fun r17 =>
 xc β L (4:Int) v14 v15 (fun v18 v19 v20 =>
 ifb ((v18:Int) == (0:Int)) (
 chk (0+5≤(List.length b5)) (
 chk (0+32≤(List.length r17)) (
 yb β L (List.map V.dem (List.take 5 b5)) (List.take 32 r17) (fun v21 v22 =>
 chk ((List.length v21)=5∧0+5≤5) (
 lt (ya [(V.sc (.int .u32 (0:Int))),(V.sc (.bool false)),(V.gs 1 ([]:List (List V))),(V.gs 35 ([]:List (List V))),(V.gs 32 ([]:List (List V)))] 0 v21) fun r23 =>
 ifb ((v22:Int) == (0:Int)) (
 chk (0+5≤(List.length r23)) (
 chk (0+32≤(List.length r17)) (
 chk ((List.length (List.take 32 r17))=32∧0+32≤32) (
 chk ((List.length p8+List.length (xb 32 1 (ya (List.replicate 32 (V.sc (.int .u8 (0:Int)))) 0 (List.take 32 r17)))) * 32≤yi∧List.length p8+List.length (xb 32 1 (ya (List.replicate 32 (V.sc (.int .u8 (0:Int)))) 0 (List.take 32 r17)))≤yi) (
 lt (p8++(xb 32 1 (ya (List.replicate 32 (V.sc (.int .u8 (0:Int)))) 0 (List.take 32 r17)))) fun l24 =>
 chk ((List.length (List.take 5 r23))=5∧0+5≤(List.length b5)) (
 lt (ya b5 0 (List.take 5 r23)) fun r25 =>
 k_hbbbbbbbaa p7 l24 x12 r25 v19 v20)))))) (
 k_hbbbbbbbaa p7 p8 x12 b5 v19 v20)))))) (
 ifb ((v18:Int) == (1:Int)) (
 chk (0+5≤(List.length b5)) (
 zf β L (List.map V.dem (List.take 5 b5)) x12 (fun v26 v27 =>
 chk ((List.length v26)=5∧0+5≤5) (
 lt (ya [(V.sc (.int .u32 (0:Int))),(V.sc (.bool false)),(V.gs 1 ([]:List (List V))),(V.gs 35 ([]:List (List V))),(V.gs 32 ([]:List (List V)))] 0 v26) fun r28 =>
 chk (0+5≤(List.length r28)) (
 chk ((List.length (List.take 5 r28))=5∧0+5≤(List.length b5)) (
 lt (ya b5 0 (List.take 5 r28)) fun r29 =>
 k_hbbbbbbbaaababbbabbbabbba p7 p8 x12 v27 ((List.length v27:Nat):Int) (0:Int) r29 v19 v20)))) (fun v30 v31 =>
 chk ((List.length v30)=5∧0+5≤5) (
 lt (ya [(V.sc (.int .u32 (0:Int))),(V.sc (.bool false)),(V.gs 1 ([]:List (List V))),(V.gs 35 ([]:List (List V))),(V.gs 32 ([]:List (List V)))] 0 v30) fun r32 =>
 chk (0+5≤(List.length r32)) (
 chk ((List.length (List.take 5 r32))=5∧0+5≤(List.length b5)) (
 lt (ya b5 0 (List.take 5 r32)) fun r33 =>
 k_hbbbbbbbaaababbbabbbabbba p7 p8 x12 v31 ((List.length v31:Nat):Int) (0:Int) r33 v19 v20)))))) (
 chk (0+5≤(List.length b5)) (
 xc β L (9:Int) v19 v20 (fun v34 v35 v36 =>
 lt (IntKind.wrap .i64 ((v34:Int) - (1:Int))) fun x37 =>
 chk (0+32≤(List.length r17)) (
 yg β L (List.map V.dem (List.take 5 b5)) x37 (List.take 32 r17) x12 (10:Int) (fun v38 v39 v40 =>
 chk ((List.length v38)=5∧0+5≤5) (
 lt (ya [(V.sc (.int .u32 (0:Int))),(V.sc (.bool false)),(V.gs 1 ([]:List (List V))),(V.gs 35 ([]:List (List V))),(V.gs 32 ([]:List (List V)))] 0 v38) fun r41 =>
 ifb ((v40:Int) == (0:Int)) (
 ifb (decide (v39 ≥ (0:Int))) (
 chk (0+5≤(List.length r41)) (
 chk (0+32≤(List.length r17)) (
 chk ((List.length (List.take 32 r17))=32∧0+32≤32) (
 chk ((List.length p7+List.length (xb 32 1 (ya (List.replicate 32 (V.sc (.int .u8 (0:Int)))) 0 (List.take 32 r17)))) * 32≤yi∧List.length p7+List.length (xb 32 1 (ya (List.replicate 32 (V.sc (.int .u8 (0:Int)))) 0 (List.take 32 r17)))≤yi) (
 lt (p7++(xb 32 1 (ya (List.replicate 32 (V.sc (.int .u8 (0:Int)))) 0 (List.take 32 r17)))) fun l42 =>
 chk ((List.length (List.take 5 r41))=5∧0+5≤(List.length b5)) (
 lt (ya b5 0 (List.take 5 r41)) fun r43 =>
 k_hbbbbbbbaa l42 p8 x12 r43 v35 v36)))))) (
 k_hbbbbbbbaa p7 p8 x12 b5 v35 v36)) (
 k_hbbbbbbbaa p7 p8 x12 b5 v35 v36)))))))))))) (
 k_x0 p7 p8 p9 b5 v6 v7))
def zlG {β:Type} (xa:yj) (xA:zaE) (yc:yl) (zi:yG) (xc:xo) (yb:zm) (zf:yq) (yg:yy) (yw:zab) (L:Nat) (p7 p8:List (List V)) (p9:Int) (b5:List V) (zCM:List (List V)) (zCN:Int) (k_hbbbbbbbbbbaba:zfo β):Option β :=
 chk (0+5≤(List.length b5)) (
 lt (IntKind.wrap .u32 ((p9:Int)+(10:Int))) fun x44 =>
 zf β L (List.map V.dem (List.take 5 b5)) x44 (fun v45 v46 =>
 chk ((List.length v45)=5∧0+5≤5) (
 lt (ya [(V.sc (.int .u32 (0:Int))),(V.sc (.bool false)),(V.gs 1 ([]:List (List V))),(V.gs 35 ([]:List (List V))),(V.gs 32 ([]:List (List V)))] 0 v45) fun r47 =>
 chk ((List.length p8+List.length v46) * 32≤yi∧List.length p8+List.length v46≤yi) (
 lt (p8++v46) fun l48 =>
 k_hbbbbbbbbbbaba l48 p7 ((List.length p7:Nat):Int) (0:Int) r47 zCM zCN))) (fun v49 v50 =>
 chk ((List.length v49)=5∧0+5≤5) (
 lt (ya [(V.sc (.int .u32 (0:Int))),(V.sc (.bool false)),(V.gs 1 ([]:List (List V))),(V.gs 35 ([]:List (List V))),(V.gs 32 ([]:List (List V)))] 0 v49) fun r51 =>
 chk ((List.length p8+List.length v50) * 32≤yi∧List.length p8+List.length v50≤yi) (
 lt (p8++v50) fun l52 =>
 k_hbbbbbbbbbbaba l52 p7 ((List.length p7:Nat):Int) (0:Int) r51 zCM zCN))))
def zgy {β:Type} (xa:yj) (xA:zaE) (yc:yl) (zi:yG) (xc:xo) (yb:zm) (zf:yq) (yg:yy) (yw:zab) (L:Nat) (p7 p8:List (List V)) (p9:Int) (p94:List (List V)) (p95 p96:Int) (b5:List V) (zCM:List (List V)) (zCN:Int) (k_ret:Bool→List (List V)→Int→Option β) (k_hbbbbbbbaaababbbabbbabbba:zc0 β) (k_x3:zle β):Option β :=
 ifb (decide (p96 < p95)) (
 idx p94 p96 fun c53 =>
 chk ((List.length (List.take 32 c53))=32∧0+32≤32) (
 lt (ya (List.replicate 32 (V.sc (.int .u8 (0:Int)))) 0 (List.take 32 c53)) fun r54 =>
 chk (0+32≤(List.length r54)) (
 yw β L p8 (List.take 32 r54) (fun v55 =>
 ifb v55 (
 k_ret false zCM zCN) (
 chk (0+32≤(List.length r54)) (
 yw β L p7 (List.take 32 r54) (fun v56 =>
 ifb (!v56) (
 k_ret false zCM zCN) (
 chk (0+5≤(List.length b5)) (
 chk (0+32≤(List.length r54)) (
 yb β L (List.map V.dem (List.take 5 b5)) (List.take 32 r54) (fun v57 v58 =>
 chk ((List.length v57)=5∧0+5≤5) (
 lt (ya [(V.sc (.int .u32 (0:Int))),(V.sc (.bool false)),(V.gs 1 ([]:List (List V))),(V.gs 35 ([]:List (List V))),(V.gs 32 ([]:List (List V)))] 0 v57) fun r59 =>
 ifb ((v58:Int) != (0:Int)) (
 k_ret false zCM zCN) (
 chk (0+5≤(List.length r59)) (
 chk (0+32≤(List.length r54)) (
 chk ((List.length (List.take 32 r54))=32∧0+32≤32) (
 chk ((List.length p8+List.length (xb 32 1 (ya (List.replicate 32 (V.sc (.int .u8 (0:Int)))) 0 (List.take 32 r54)))) * 32≤yi∧List.length p8+List.length (xb 32 1 (ya (List.replicate 32 (V.sc (.int .u8 (0:Int)))) 0 (List.take 32 r54)))≤yi) (
 lt (p8++(xb 32 1 (ya (List.replicate 32 (V.sc (.int .u8 (0:Int)))) 0 (List.take 32 r54)))) fun l60 =>
 chk ((List.length (List.take 5 r59))=5∧0+5≤(List.length b5)) (
 lt (ya b5 0 (List.take 5 r59)) fun r61 =>
 lt (IntKind.wrap .i64 ((p96:Int)+(1:Int))) fun x62 =>
 k_hbbbbbbbaaababbbabbbabbba p7 l60 p9 p94 p95 x62 r61 zCM zCN)))))))))))))))))) (
 k_x3 p7 p8 p9 b5 zCM zCN)
def zks {β:Type} (xa:yj) (xA:zaE) (yc:yl) (zi:yG) (xc:xo) (yb:zm) (zf:yq) (yg:yy) (yw:zab) (L:Nat) (p8 zC4:List (List V)) (zC5 zC3:Int) (b22:List V) (zCM:List (List V)) (zCN:Int) (k_ret:Bool→List (List V)→Int→Option β) (k_hbbbbbbbbbbaba:zfo β) (k_x5:List V→List (List V)→Int→Option β):Option β :=
 ifb (decide (zC3 < zC5)) (
 idx zC4 zC3 fun c63 =>
 chk ((List.length (List.take 32 c63))=32∧0+32≤32) (
 lt (ya (List.replicate 32 (V.sc (.int .u8 (0:Int)))) 0 (List.take 32 c63)) fun r64 =>
 chk (0+32≤(List.length r64)) (
 yw β L p8 (List.take 32 r64) (fun v65 =>
 ifb (!v65) (
 k_ret false zCM zCN) (
 lt (IntKind.wrap .i64 ((zC3:Int)+(1:Int))) fun x66 =>
 k_hbbbbbbbbbbaba p8 zC4 zC5 x66 b22 zCM zCN))))) (
 k_x5 b22 zCM zCN)
def zfJ {β:Type} (xa:yj) (xA:zaE) (yc:yl) (zi:yG) (xc:xo) (yb:zm) (zf:yq) (yg:yy) (yw:zab) (L:Nat) (p4:Bool) (zCM:List (List V)) (zCN:Int) (k_ret:Bool→List (List V)→Int→Option β):Option β :=
 k_ret p4 zCM zCN
def zfQ {β:Type} (xa:yj) (xA:zaE) (yc:yl) (zi:yG) (xc:xo) (yb:zm) (zf:yq) (yg:yy) (yw:zab) (L:Nat) (p7 p8:List (List V)) (p9:Int) (b5:List V) (zCM:List (List V)) (zCN:Int) (k_hbbbbbbbaa:zcE β):Option β :=
 k_hbbbbbbbaa p7 p8 p9 b5 zCM zCN
def zjj {β:Type} (xa:yj) (xA:zaE) (yc:yl) (zi:yG) (xc:xo) (yb:zm) (zf:yq) (yg:yy) (yw:zab) (L:Nat) (p4:Bool) (zCM:List (List V)) (zCN:Int) (k_fin:Bool→Option β):Option β :=
 k_fin p4
def zjG {β:Type} (xa:yj) (xA:zaE) (yc:yl) (zi:yG) (xc:xo) (yb:zm) (zf:yq) (yg:yy) (yw:zab) (L:Nat) (b22:List V) (zCM:List (List V)) (zCN:Int) (k_fin:Bool→Option β):Option β :=
 cLd 35 b22 3 fun v67 =>
 k_fin ((((List.length v67:Nat):Int):Int) == (0:Int))
def zk3 {β:Type} (xa:yj) (xA:zaE) (yc:yl) (zi:yG) (xc:xo) (yb:zm) (zf:yq) (yg:yy) (yw:zab) (L:Nat) (p4:Bool) (zCM:List (List V)) (zCN:Int) (k_fin:Bool→Option β):Option β :=
 k_fin p4
def zc6 {β:Type} (xa:yj) (xA:zaE) (yc:yl) (zi:yG) (xc:xo) (yb:zm) (zf:yq) (yg:yy) (yw:zab) (L:Nat) (k_ret:Bool→List (List V)→Int→Option β) (k_x3:zle β):Nat→List (List V)→List (List V)→Int→List (List V)→Int→Int→List V→List (List V)→Int→Option β
 | 0,_,_,_,_,_,_,_,_,_=>none
 | n+1,p7,p8,p9,p94,p95,p96,b5,zCM,zCN=>zgy xa xA yc zi xc yb zf yg yw L p7 p8 p9 p94 p95 p96 b5 zCM zCN k_ret (fun p7 p8 p9 p94 p95 p96 b5 zCM zCN=>zc6 xa xA yc zi xc yb zf yg yw L k_ret k_x3 n p7 p8 p9 p94 p95 p96 b5 zCM zCN) k_x3
def zme {β:Type} (xa:yj) (xA:zaE) (yc:yl) (zi:yG) (xc:xo) (yb:zm) (zf:yq) (yg:yy) (yw:zab) (L:Nat) (p7 p8:List (List V)) (p9:Int) (b5:List V) (zCM:List (List V)) (zCN:Int) (k_hbbbbbbbaa:zcE β) (k_x0:zhs β) (k_ret:Bool→List (List V)→Int→Option β):Option β :=
 zmD xa xA yc zi xc yb zf yg yw L p7 p8 p9 b5 zCM zCN k_hbbbbbbbaa (fun p7 p8 p9 p94 p95 p96 b5 zCM zCN=>zc6 xa xA yc zi xc yb zf yg yw L (fun p4 zCM zCN=>zfJ xa xA yc zi xc yb zf yg yw L p4 zCM zCN k_ret) (fun p7 p8 p9 b5 zCM zCN=>zfQ xa xA yc zi xc yb zf yg yw L p7 p8 p9 b5 zCM zCN k_hbbbbbbbaa) L p7 p8 p9 p94 p95 p96 b5 zCM zCN) k_x0
def zhn {β:Type} (xa:yj) (xA:zaE) (yc:yl) (zi:yG) (xc:xo) (yb:zm) (zf:yq) (yg:yy) (yw:zab) (L:Nat) (k_x0:zhs β) (k_ret:Bool→List (List V)→Int→Option β):Nat→List (List V)→List (List V)→Int→List V→List (List V)→Int→Option β
 | 0,_,_,_,_,_,_=>none
 | n+1,p7,p8,p9,b5,zCM,zCN=>zme xa xA yc zi xc yb zf yg yw L p7 p8 p9 b5 zCM zCN (fun p7 p8 p9 b5 zCM zCN=>zhn xa xA yc zi xc yb zf yg yw L k_x0 k_ret n p7 p8 p9 b5 zCM zCN) k_x0 k_ret
def zfI {β:Type} (xa:yj) (xA:zaE) (yc:yl) (zi:yG) (xc:xo) (yb:zm) (zf:yq) (yg:yy) (yw:zab) (L:Nat) (k_ret:Bool→List (List V)→Int→Option β) (k_x5:List V→List (List V)→Int→Option β):Nat→List (List V)→List (List V)→Int→Int→List V→List (List V)→Int→Option β
 | 0,_,_,_,_,_,_,_=>none
 | n+1,p8,zC4,zC5,zC3,b22,zCM,zCN=>zks xa xA yc zi xc yb zf yg yw L p8 zC4 zC5 zC3 b22 zCM zCN k_ret (fun p8 zC4 zC5 zC3 b22 zCM zCN=>zfI xa xA yc zi xc yb zf yg yw L k_ret k_x5 n p8 zC4 zC5 zC3 b22 zCM zCN) k_x5
def zk2 {β:Type} (xa:yj) (xA:zaE) (yc:yl) (zi:yG) (xc:xo) (yb:zm) (zf:yq) (yg:yy) (yw:zab) (L:Nat) (p7 p8:List (List V)) (p9:Int) (b5:List V) (zCM:List (List V)) (zCN:Int) (k_fin:Bool→Option β):Option β :=
 zlG xa xA yc zi xc yb zf yg yw L p7 p8 p9 b5 zCM zCN (fun p8 zC4 zC5 zC3 b22 zCM zCN=>zfI xa xA yc zi xc yb zf yg yw L (fun p4 zCM zCN=>zjj xa xA yc zi xc yb zf yg yw L p4 zCM zCN k_fin) (fun b22 zCM zCN=>zjG xa xA yc zi xc yb zf yg yw L b22 zCM zCN k_fin) L p8 zC4 zC5 zC3 b22 zCM zCN)
def zrQ {β:Type} (xa:yj) (xA:zaE) (yc:yl) (zi:yG) (xc:xo) (yb:zm) (zf:yq) (yg:yy) (yw:zab) (L:Nat) (p0 p1:List (List V)) (k_fin:Bool→Option β):Option β :=
 zrO xa xA yc zi xc yb zf yg yw L p0 p1 k_fin (fun p7 p8 p9 b5 zCM zCN=>zhn xa xA yc zi xc yb zf yg yw L (fun p7 p8 p9 b5 zCM zCN=>zk2 xa xA yc zi xc yb zf yg yw L p7 p8 p9 b5 zCM zCN k_fin) (fun p4 zCM zCN=>zk3 xa xA yc zi xc yb zf yg yw L p4 zCM zCN k_fin) L p7 p8 p9 b5 zCM zCN)
abbrev zrM:=∀ (β:Type),Nat→List (List V)→List (List V)→(Bool→Option β)→Option β
def zmO (β:Type) (L:Nat) (p0 p1:List (List V)) (k_fin:Bool→Option β):Option β:=zrQ xa xA yc zi xc yb zf yg yw L p0 p1 k_fin
def zzu (zmO:zrM) (L:Nat) (β:Type) (args:List V) (bor:Bor) (k:KK β):Option β:=match args,bor with
 | [a0,a1],[]=>aL 1 a0 fun p0=>aL 1 a1 fun p1=>zmO β L p0 p1 (fun p0=>k (V.sc (.bool p0)) [])
 | _,_=>none
def gls:List (Nat × List V):=[]
def fg:List (Nat × Nat):=[(3,325),(4,326),(5,327),(6,328),(7,329),(8,330),(9,331),(10,332),(11,333),(12,217),(13,334),(14,335),(15,336),(16,337),(17,338),(18,225),(19,339),(20,231),(21,340),(22,341),(23,342),(24,343),(25,344),(26,345),(27,346),(28,347),(29,348),(30,349),(31,350),(32,351),(33,352),(34,353),(35,247),(36,354),(37,274),(38,355),(39,356),(40,357),(41,358),(42,359),(43,360),(44,361),(45,362),(46,319),(47,363),(48,248),(49,364),(50,365),(51,366),(52,367),(53,368),(54,369),(55,370),(56,371),(57,372),(58,373),(59,254)]
def rows:List Row:=[⟨13,334,zn9,zes⟩,⟨15,336,zob,zdu⟩,⟨17,338,zla,zbM⟩,⟨10,332,zn8,zjs⟩,⟨18,225,zp0,zlZ⟩,⟨35,247,zk5,zf7⟩,⟨12,217,zpY,zlY⟩,⟨20,231,zk9,zf8⟩,⟨19,339,zn7,zb4⟩,⟨38,355,zmP,zhI⟩,⟨21,340,znz,ziN⟩,⟨54,369,zmd,zg6⟩,⟨39,356,znW,xT⟩,⟨58,373,zmT,zhE⟩,⟨57,372,zdj,zaF⟩,⟨47,363,zn6,zmK⟩,⟨59,254,zea,xL⟩,⟨48,248,zdw,zaM⟩,⟨25,344,znm,zo2⟩,⟨43,360,zha,zdi⟩,⟨55,370,zd7,zbf⟩,⟨56,371,zd5,zbc⟩,⟨41,358,zmR,zhK⟩,⟨42,359,znu,zpc⟩,⟨27,346,zof,zqf⟩,⟨50,365,zpq,zd4⟩,⟨49,364,zoi,zds⟩,⟨45,362,znM,yT⟩,⟨26,345,znx,zpk⟩,⟨46,319,znw,zo7⟩,⟨28,347,zop,zp2⟩,⟨33,352,zjU,za9⟩,⟨24,343,zoe,zdv⟩,⟨7,329,zjX,zk6⟩,⟨51,366,zdY,za7⟩,⟨29,348,zno,ziy⟩,⟨30,349,znK,ziA⟩,⟨53,368,znV,zix⟩,⟨52,367,zc8,xK⟩,⟨31,350,zps,zkY⟩,⟨32,351,zph,ze8⟩,⟨8,330,zjh,za0⟩,⟨34,353,zp6,zsc⟩,⟨36,354,zpi,zrk⟩,⟨9,331,zkU,zl6⟩]
theorem zvG:zad Try.prog (xX fg gls) zn9 13=some zes:=by kernel_rfl
theorem zvr:zad Try.prog (xX fg gls) zob 15=some zdu:=by kernel_rfl
theorem zrU:zad Try.prog (xX fg gls) zla 17=some zbM:=by kernel_rfl
theorem zvT:zad Try.prog (xX fg gls) zn8 10=some zjs:=by kernel_rfl
theorem zxf:zad Try.prog (xX fg gls) zp0 18=some zlZ:=by kernel_rfl
theorem zrY:zad Try.prog (xX fg gls) zk5 35=some zf7:=by kernel_rfl
theorem zw3:zad Try.prog (xX fg gls) zpY 12=some zlY:=by kernel_rfl
theorem zrN:zad Try.prog (xX fg gls) zk9 20=some zf8:=by kernel_rfl
theorem zvA:zad Try.prog (xX fg gls) zn7 19=some zb4:=by kernel_rfl
theorem zt0:zad Try.prog (xX fg gls) zmP 38=some zhI:=by kernel_rfl
theorem zuh:zad Try.prog (xX fg gls) znz 21=some ziN:=by kernel_rfl
theorem zsy:zad Try.prog (xX fg gls) zmd 54=some zg6:=by kernel_rfl
theorem zuk:zad Try.prog (xX fg gls) znW 39=some xT:=by kernel_rfl
theorem ztF:zad Try.prog (xX fg gls) zmT 58=some zhE:=by kernel_rfl
theorem zhA:zad Try.prog (xX fg gls) zdj 57=some zaF:=by kernel_rfl
theorem zvD:zad Try.prog (xX fg gls) zn6 47=some zmK:=by kernel_rfl
theorem zi3:zad Try.prog (xX fg gls) zea 59=some xL:=by kernel_rfl
theorem zhW:zad Try.prog (xX fg gls) zdw 48=some zaM:=by kernel_rfl
theorem zuT:zad Try.prog (xX fg gls) znm 25=some zo2:=by kernel_rfl
theorem znS:zad Try.prog (xX fg gls) zha 43=some zdi:=by kernel_rfl
theorem zi7:zad Try.prog (xX fg gls) zd7 55=some zbf:=by kernel_rfl
theorem zi4:zad Try.prog (xX fg gls) zd5 56=some zbc:=by kernel_rfl
theorem ztn:zad Try.prog (xX fg gls) zmR 41=some zhK:=by kernel_rfl
theorem zuL:zad Try.prog (xX fg gls) znu 42=some zpc:=by kernel_rfl
theorem zvK:zad Try.prog (xX fg gls) zof 27=some zqf:=by kernel_rfl
theorem zwS:zad Try.prog (xX fg gls) zpq 50=some zd4:=by kernel_rfl
theorem zvJ:zad Try.prog (xX fg gls) zoi 49=some zds:=by kernel_rfl
theorem zuX:zad Try.prog (xX fg gls) znM 45=some yT:=by kernel_rfl
theorem zuK:zad Try.prog (xX fg gls) znx 26=some zpk:=by kernel_rfl
theorem zuY:zad Try.prog (xX fg gls) znw 46=some zo7:=by kernel_rfl
theorem zvB:zad Try.prog (xX fg gls) zop 28=some zp2:=by kernel_rfl
theorem zqn:zad Try.prog (xX fg gls) zjU 33=some za9:=by kernel_rfl
theorem zvN:zad Try.prog (xX fg gls) zoe 24=some zdv:=by kernel_rfl
theorem zqi:zad Try.prog (xX fg gls) zjX 7=some zk6:=by kernel_rfl
theorem ziw:zad Try.prog (xX fg gls) zdY 51=some za7:=by kernel_rfl
theorem zuQ:zad Try.prog (xX fg gls) zno 29=some ziy:=by kernel_rfl
theorem zui:zad Try.prog (xX fg gls) znK 30=some ziA:=by kernel_rfl
theorem zuz:zad Try.prog (xX fg gls) znV 53=some zix:=by kernel_rfl
theorem zg8:zad Try.prog (xX fg gls) zc8 52=some xK:=by kernel_rfl
theorem zv9:zad Try.prog (xX fg gls) zps 31=some zkY:=by kernel_rfl
theorem zv8:zad Try.prog (xX fg gls) zph 32=some ze8:=by kernel_rfl
theorem zpR:zad Try.prog (xX fg gls) zjh 8=some za0:=by kernel_rfl
theorem zxa:zad Try.prog (xX fg gls) zp6 34=some zsc:=by kernel_rfl
theorem zwN:zad Try.prog (xX fg gls) zpi 36=some zrk:=by kernel_rfl
theorem zqQ:zad Try.prog (xX fg gls) zkU 9=some zl6:=by kernel_rfl
theorem zAr:∀ r ∈ rows,(r.f,r.g) ∈ fg∧zgJ Try.prog r.f=true∧zad Try.prog (xX fg gls) r.h r.f=some r.c:=by
 intro r hr
 simp only [rows,List.mem_cons,List.not_mem_nil,or_false] at hr
 rcases hr with rfl | rfl | rfl | rfl | rfl | rfl | rfl | rfl | rfl | rfl | rfl | rfl | rfl | rfl | rfl | rfl | rfl | rfl | rfl | rfl | rfl | rfl | rfl | rfl | rfl | rfl | rfl | rfl | rfl | rfl | rfl | rfl | rfl | rfl | rfl | rfl | rfl | rfl | rfl | rfl | rfl | rfl | rfl | rfl | rfl
 ·exact ⟨of_decide_eq_true (by kernel_rfl),by kernel_rfl,zvG⟩
 ·exact ⟨of_decide_eq_true (by kernel_rfl),by kernel_rfl,zvr⟩
 ·exact ⟨of_decide_eq_true (by kernel_rfl),by kernel_rfl,zrU⟩
 ·exact ⟨of_decide_eq_true (by kernel_rfl),by kernel_rfl,zvT⟩
 ·exact ⟨of_decide_eq_true (by kernel_rfl),by kernel_rfl,zxf⟩
 ·exact ⟨of_decide_eq_true (by kernel_rfl),by kernel_rfl,zrY⟩
 ·exact ⟨of_decide_eq_true (by kernel_rfl),by kernel_rfl,zw3⟩
 ·exact ⟨of_decide_eq_true (by kernel_rfl),by kernel_rfl,zrN⟩
 ·exact ⟨of_decide_eq_true (by kernel_rfl),by kernel_rfl,zvA⟩
 ·exact ⟨of_decide_eq_true (by kernel_rfl),by kernel_rfl,zt0⟩
 ·exact ⟨of_decide_eq_true (by kernel_rfl),by kernel_rfl,zuh⟩
 ·exact ⟨of_decide_eq_true (by kernel_rfl),by kernel_rfl,zsy⟩
 ·exact ⟨of_decide_eq_true (by kernel_rfl),by kernel_rfl,zuk⟩
 ·exact ⟨of_decide_eq_true (by kernel_rfl),by kernel_rfl,ztF⟩
 ·exact ⟨of_decide_eq_true (by kernel_rfl),by kernel_rfl,zhA⟩
 ·exact ⟨of_decide_eq_true (by kernel_rfl),by kernel_rfl,zvD⟩
 ·exact ⟨of_decide_eq_true (by kernel_rfl),by kernel_rfl,zi3⟩
 ·exact ⟨of_decide_eq_true (by kernel_rfl),by kernel_rfl,zhW⟩
 ·exact ⟨of_decide_eq_true (by kernel_rfl),by kernel_rfl,zuT⟩
 ·exact ⟨of_decide_eq_true (by kernel_rfl),by kernel_rfl,znS⟩
 ·exact ⟨of_decide_eq_true (by kernel_rfl),by kernel_rfl,zi7⟩
 ·exact ⟨of_decide_eq_true (by kernel_rfl),by kernel_rfl,zi4⟩
 ·exact ⟨of_decide_eq_true (by kernel_rfl),by kernel_rfl,ztn⟩
 ·exact ⟨of_decide_eq_true (by kernel_rfl),by kernel_rfl,zuL⟩
 ·exact ⟨of_decide_eq_true (by kernel_rfl),by kernel_rfl,zvK⟩
 ·exact ⟨of_decide_eq_true (by kernel_rfl),by kernel_rfl,zwS⟩
 ·exact ⟨of_decide_eq_true (by kernel_rfl),by kernel_rfl,zvJ⟩
 ·exact ⟨of_decide_eq_true (by kernel_rfl),by kernel_rfl,zuX⟩
 ·exact ⟨of_decide_eq_true (by kernel_rfl),by kernel_rfl,zuK⟩
 ·exact ⟨of_decide_eq_true (by kernel_rfl),by kernel_rfl,zuY⟩
 ·exact ⟨of_decide_eq_true (by kernel_rfl),by kernel_rfl,zvB⟩
 ·exact ⟨of_decide_eq_true (by kernel_rfl),by kernel_rfl,zqn⟩
 ·exact ⟨of_decide_eq_true (by kernel_rfl),by kernel_rfl,zvN⟩
 ·exact ⟨of_decide_eq_true (by kernel_rfl),by kernel_rfl,zqi⟩
 ·exact ⟨of_decide_eq_true (by kernel_rfl),by kernel_rfl,ziw⟩
 ·exact ⟨of_decide_eq_true (by kernel_rfl),by kernel_rfl,zuQ⟩
 ·exact ⟨of_decide_eq_true (by kernel_rfl),by kernel_rfl,zui⟩
 ·exact ⟨of_decide_eq_true (by kernel_rfl),by kernel_rfl,zuz⟩
 ·exact ⟨of_decide_eq_true (by kernel_rfl),by kernel_rfl,zg8⟩
 ·exact ⟨of_decide_eq_true (by kernel_rfl),by kernel_rfl,zv9⟩
 ·exact ⟨of_decide_eq_true (by kernel_rfl),by kernel_rfl,zv8⟩
 ·exact ⟨of_decide_eq_true (by kernel_rfl),by kernel_rfl,zpR⟩
 ·exact ⟨of_decide_eq_true (by kernel_rfl),by kernel_rfl,zxa⟩
 ·exact ⟨of_decide_eq_true (by kernel_rfl),by kernel_rfl,zwN⟩
 ·exact ⟨of_decide_eq_true (by kernel_rfl),by kernel_rfl,zqQ⟩
theorem zBU:Try.prog.follows .mixedOrders=true:=by kernel_rfl
theorem zBT:zz2 fg=true:=by kernel_rfl
theorem zB2 (L d:Nat):zh9 Try.prog (xX fg gls) (evF (zae rows) zzX L d):=zA1 zBU zBT zAr L d
theorem zuO (L:Nat):FOk (zae rows) L 334 (zkV zaB L) 1:=y5 (D:=0) (by kernel_rfl) fun m hm=>⟨zb9,zb5 L,y4,ztt L⟩
theorem zus (L:Nat):FOk (zae rows) L 336 (zkg zaz L) 1:=y5 (D:=0) (by kernel_rfl) fun m hm=>⟨zbJ,zbI L,y4,zs5 L⟩
theorem zml (L:Nat):FOk (zae rows) L 338 (zfd zh L) 1:=y5 (D:=0) (by kernel_rfl) fun m hm=>⟨zak,zai L,y4,zqp L⟩
theorem zut (L:Nat):FOk (zae rows) L 332 (zgk xa L) 2:=y5 (D:=1) (by kernel_rfl) fun m hm=>⟨zmw,zmp zaB zaz zh L,(yI (yI (yI y4 (zuO L m (by omega))) (zus L m (by omega))) (zml L m (by omega))),ztL L⟩
theorem zws (L:Nat):FOk (zae rows) L 225 (ziK yc L) 1:=y5 (D:=0) (by kernel_rfl) fun m hm=>⟨zoF,zoS L,y4,zvP L⟩
theorem zq0 (L:Nat):FOk (zae rows) L 247 (ze1 zi L) 1:=y5 (D:=0) (by kernel_rfl) fun m hm=>⟨ziX,zi9 L,y4,zqr L⟩
theorem znR (L:Nat):FOk (zae rows) L 217 (zgL xd L) 1:=y5 (D:=0) (by kernel_rfl) fun m hm=>⟨zoL,zoT L,y4,zvq L⟩
theorem zqY (L:Nat):FOk (zae rows) L 231 (zfa xc L) 2:=y5 (D:=1) (by kernel_rfl) fun m hm=>⟨zi6,zi8 zi xd L,(yI (yI y4 (zq0 L m (by omega))) (znR L m (by omega))),zqt L⟩
theorem zuG (L:Nat):FOk (zae rows) L 339 (zil yd L) 3:=y5 (D:=2) (by kernel_rfl) fun m hm=>⟨zW,zV xc L,(yI y4 (zqY L m (by omega))),zt5 L⟩
theorem zjJ (L:Nat):FOk (zae rows) L 355 (zdQ xg L) 1:=y5 (D:=0) (by kernel_rfl) fun m hm=>⟨zkD,zke L,y4,zrP L⟩
theorem zth (L:Nat):FOk (zae rows) L 340 (zhl zb L) 2:=y5 (D:=1) (by kernel_rfl) fun m hm=>⟨zlq,zlt xg xd L,(yI (yI y4 (zjJ L m (by omega))) (znR L m (by omega))),zsB L⟩
theorem zrT (L:Nat):FOk (zae rows) L 369 (zhC xe L) 1:=y5 (D:=0) (by kernel_rfl) fun m hm=>⟨zjy,zjM L,y4,zqH L⟩
theorem zok (L:Nat):FOk (zae rows) L 356 (zfv xx L) 2:=y5 (D:=1) (by kernel_rfl) fun m hm=>⟨zC,yC xe L,(yI y4 (zrT L m (by omega))),zsR L⟩
theorem zst (L:Nat):FOk (zae rows) L 373 (zgl yh L) 1:=y5 (D:=0) (by kernel_rfl) fun m hm=>⟨zkp,zkG L,y4,zrV L⟩
theorem ziG (L:Nat):FOk (zae rows) L 254 (zbq zr L) 1:=y5 (D:=0) (by kernel_rfl) fun m hm=>⟨zB,yB L,y4,zij L⟩
theorem zhx (L:Nat):FOk (zae rows) L 248 (y7 zj L) 2:=y5 (D:=1) (by kernel_rfl) fun m hm=>⟨zbU,zbV zr L,(yI y4 (ziG L m (by omega))),zhg L⟩
theorem zm5 (L:Nat):FOk (zae rows) L 360 (zdG zA L) 1:=y5 (D:=0) (by kernel_rfl) fun m hm=>⟨zfc,zfb L,y4,zmH L⟩
theorem ziE (L:Nat):FOk (zae rows) L 370 (zbx zp L) 1:=y5 (D:=0) (by kernel_rfl) fun m hm=>⟨zcz,zcy L,y4,zih L⟩
theorem ziB (L:Nat):FOk (zae rows) L 371 (zbt yp L) 1:=y5 (D:=0) (by kernel_rfl) fun m hm=>⟨zcv,zcu L,y4,zio L⟩
theorem znN (L:Nat):FOk (zae rows) L 358 (zeU zs L) 2:=y5 (D:=1) (by kernel_rfl) fun m hm=>⟨zkQ,zkL zA zp yp L,(yI (yI (yI y4 (zm5 L m (by omega))) (ziE L m (by omega))) (ziB L m (by omega))),zrX L⟩
theorem zp1 (L:Nat):FOk (zae rows) L 365 (zhp ye L) 1:=y5 (D:=0) (by kernel_rfl) fun m hm=>⟨zbX,zb1 L,y4,zup L⟩
theorem zpu (L:Nat):FOk (zae rows) L 364 (zgf zc L) 1:=y5 (D:=0) (by kernel_rfl) fun m hm=>⟨zbF,zbG L,y4,ztf L⟩
theorem zoc (L:Nat):FOk (zae rows) L 362 (zfu xj L) 2:=y5 (D:=1) (by kernel_rfl) fun m hm=>⟨xB,xC ye zc L,(yI (yI y4 (zp1 L m (by omega))) (zpu L m (by omega))),zsT L⟩
theorem zkI (L:Nat):FOk (zae rows) L 352 (zd8 za L) 1:=y5 (D:=0) (by kernel_rfl) fun m hm=>⟨zZ,zY L,y4,zo0 L⟩
theorem zuD (L:Nat):FOk (zae rows) L 343 (zik zd L) 2:=y5 (D:=1) (by kernel_rfl) fun m hm=>⟨zbH,zbE zh za L,(yI (yI y4 (zml L m (by omega))) (zkI L m (by omega))),zto L⟩
theorem zgc (L:Nat):FOk (zae rows) L 372 (zaw xl L) 2:=y5 (D:=1) (by kernel_rfl) fun m hm=>⟨zu,yv yh L,(yI y4 (zst L m (by omega))),zfU L⟩
theorem zrS (L:Nat):FOk (zae rows) L 363 (zhJ xO L) 3:=y5 (D:=2) (by kernel_rfl) fun m hm=>⟨zjD,zjH xl L,(yI y4 (zgc L m (by omega))),zq8 L⟩
theorem zis (L:Nat):FOk (zae rows) L 366 (zbb zo L) 1:=y5 (D:=0) (by kernel_rfl) fun m hm=>⟨zcj,zcl L,y4,zhR L⟩
theorem ztG (L:Nat):FOk (zae rows) L 348 (zg9 yb L) 4:=y5 (D:=3) (by kernel_rfl) fun m hm=>⟨zlE,zli xx zj zs xO zo L,(yI (yI (yI (yI (yI y4 (zok L m (by omega))) (zhx L m (by omega))) (znN L m (by omega))) (zrS L m (by omega))) (zis L m (by omega))),zsu L⟩
theorem ztp (L:Nat):FOk (zae rows) L 349 (zjv yf L) 3:=y5 (D:=2) (by kernel_rfl) fun m hm=>⟨zlx,zlf xj ye xg zc L,(yI (yI (yI (yI y4 (zoc L m (by omega))) (zp1 L m (by omega))) (zjJ L m (by omega))) (zpu L m (by omega))),zsq L⟩
theorem zol (L:Nat):FOk (zae rows) L 368 (zhj zg L) 1:=y5 (D:=0) (by kernel_rfl) fun m hm=>⟨zlC,zlk L,y4,zsH L⟩
theorem zgs (L:Nat):FOk (zae rows) L 372 (zat ze L) 2:=y5 (D:=1) (by kernel_rfl) fun m hm=>⟨xt,yu zg L,(yI y4 (zol L m (by omega))),zfY L⟩
theorem zgR (L:Nat):FOk (zae rows) L 367 (zaC xk L) 3:=y5 (D:=2) (by kernel_rfl) fun m hm=>⟨zz,yz ze zg L,(yI (yI y4 (zgs L m (by omega))) (zol L m (by omega))),zgA L⟩
theorem zvQ (L:Nat):FOk (zae rows) L 350 (zjg zf L) 4:=y5 (D:=3) (by kernel_rfl) fun m hm=>⟨zny,znY xx zs xk L,(yI (yI (yI y4 (zok L m (by omega))) (znN L m (by omega))) (zgR L m (by omega))),zuE L⟩
theorem zvy (L:Nat):FOk (zae rows) L 351 (zlP xf L) 3:=y5 (D:=2) (by kernel_rfl) fun m hm=>⟨zcI,zcL xg xj L,(yI (yI y4 (zjJ L m (by omega))) (zoc L m (by omega))),zuJ L⟩
theorem zo5 (L:Nat):FOk (zae rows) L 330 (zht zcF L) 5:=y5 (D:=4) (by kernel_rfl) fun m hm=>⟨zn,xm xa yc yd zb xd yb yf zd zf xf za L,(yI (yI (yI (yI (yI (yI (yI (yI (yI (yI (yI y4 (zut L m (by omega))) (zws L m (by omega))) (zuG L m (by omega))) (zth L m (by omega))) (znR L m (by omega))) (ztG L m (by omega))) (ztp L m (by omega))) (zuD L m (by omega))) (zvQ L m (by omega))) (zvy L m (by omega))) (zkI L m (by omega))),zoE L⟩
end
end Go.Proofs.Ytpbbfpfmdckclaa
