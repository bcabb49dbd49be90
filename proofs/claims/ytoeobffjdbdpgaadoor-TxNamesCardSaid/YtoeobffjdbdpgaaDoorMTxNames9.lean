/- Part 9 of the proof of TxNames: an abstract machine over plain values, its soundness, and the functions of the program on plain values. -/
import Derived.Test.YtoeobffjdbdpgaaDoorMTxNames8
namespace Go.Proofs.YtoeobffjdbdpgaaDoor
section
set_option maxRecDepth 100000
set_option linter.unusedVariables false
set_option linter.unusedSimpArgs false
def zaH:CC:=(.seq (.reg [oo 13 (.bin .lss (tq 12) (.const (.sc (.int .i64 4))))])
 (.seq (.cond (tq 13)
 .skip
 (.seq (.mask (bl 526 85) (bl 38685626227668133590597599 85))
 (.exit 2)))
 (.seq (.block 3 (.seq (.reg [oo 14 (.move (tq 12) false),
   oo 5 (.move (tq 14) false)])
 (.dreg [] [(oo 15 (.move (tq 4) false),q0),
   (oo 16 (.move (tq 4) false),q0),
   (oo 17 (.indexAddrA 64 1 (tq 3) (tq 16)),q0),
   (oo 18 (.load false 1 (tq 17) false),q1),
   (oo 19 (.bin .shl (tq 18) (.const (.sc (.int .u64 8)))),q0),
   (oo 20 (.move (tq 4) false),q0),
   (oo 21 (.bin .mul (.const (.sc (.int .i64 4))) (tq 20)),q0),
   (oo 22 (.move (tq 5) false),q0),
   (oo 23 (.bin .add (tq 21) (tq 22)),q0),
   (oo 24 (.indexAddrA 64 1 (tq 1) (tq 23)),q0),
   (oo 25 (.load false 1 (tq 24) false),q1),
   (oo 26 (.conv .u32 (tq 25)),q0),
   (oo 27 (.bin .or (tq 19) (tq 26)),q0),
   (oo 28 (.indexAddrA 64 1 (tq 3) (tq 15)),q0),
   (oz (.store 1 (tq 28) (tq 27)),q0)])))
 (.reg [oo 29 (.bin .add (tq 12) (.const (.sc (.int .i64 1)))),
   oo 12 (.move (tq 29) false)]))))
def zfc:CC:=(.reg [oo 30 (.bin .add (tq 9) (.const (.sc (.int .i64 1)))),
   oo 9 (.move (tq 30) false)])
def zco:CC:=(.seq (.seq (.reg [oo 31 (.move (tq 6) false),
   oo 32 (.bin .lss (tq 31) (.const (.sc (.int .i64 64))))])
 (.cond (tq 32)
 .skip
 (.seq (.mask (bl 12 85) (bl 38685623849749388397116989 85))
 (.exit 4))))
 (.seq (.block 5 (.seq (.dreg [] [(oo 35 (.move (tq 6) false),q0),
   (oo 36 (.bin .sub (tq 35) (.const (.sc (.int .i64 15)))),q0),
   (oo 37 (.indexAddrA 64 1 (tq 3) (tq 36)),q0),
   (oo 38 (.load false 1 (tq 37) false),q1),
   (oo 39 (.call 535 [((tq 38),0),((.const (.sc (.int .i64 7))),0)] []),q1),
   (oo 40 (.move (tq 6) false),q0),
   (oo 41 (.bin .sub (tq 40) (.const (.sc (.int .i64 15)))),q0),
   (oo 42 (.indexAddrA 64 1 (tq 3) (tq 41)),q0),
   (oo 43 (.load false 1 (tq 42) false),q1),
   (oo 44 (.call 535 [((tq 43),0),((.const (.sc (.int .i64 18))),0)] []),q1),
   (oo 45 (.bin .xor (tq 39) (tq 44)),q0),
   (oo 46 (.move (tq 6) false),q0),
   (oo 47 (.bin .sub (tq 46) (.const (.sc (.int .i64 15)))),q0),
   (oo 48 (.indexAddrA 64 1 (tq 3) (tq 47)),q0),
   (oo 49 (.load false 1 (tq 48) false),q1),
   (oo 50 (.bin .shr (tq 49) (.const (.sc (.int .u64 3)))),q0),
   (oo 51 (.bin .xor (tq 45) (tq 50)),q0),
   (oo 7 (.move (tq 51) false),q0)])
 (.seq (.dreg [] [(oo 52 (.move (tq 6) false),q0),
   (oo 53 (.bin .sub (tq 52) (.const (.sc (.int .i64 2)))),q0),
   (oo 54 (.indexAddrA 64 1 (tq 3) (tq 53)),q0),
   (oo 55 (.load false 1 (tq 54) false),q1),
   (oo 56 (.call 535 [((tq 55),0),((.const (.sc (.int .i64 17))),0)] []),q1),
   (oo 57 (.move (tq 6) false),q0),
   (oo 58 (.bin .sub (tq 57) (.const (.sc (.int .i64 2)))),q0),
   (oo 59 (.indexAddrA 64 1 (tq 3) (tq 58)),q0),
   (oo 60 (.load false 1 (tq 59) false),q1),
   (oo 61 (.call 535 [((tq 60),0),((.const (.sc (.int .i64 19))),0)] []),q1),
   (oo 62 (.bin .xor (tq 56) (tq 61)),q0),
   (oo 63 (.move (tq 6) false),q0),
   (oo 64 (.bin .sub (tq 63) (.const (.sc (.int .i64 2)))),q0),
   (oo 65 (.indexAddrA 64 1 (tq 3) (tq 64)),q0),
   (oo 66 (.load false 1 (tq 65) false),q1),
   (oo 67 (.bin .shr (tq 66) (.const (.sc (.int .u64 10)))),q0),
   (oo 68 (.bin .xor (tq 62) (tq 67)),q0),
   (oo 8 (.move (tq 68) false),q0)])
 (.dreg [] [(oo 69 (.move (tq 6) false),q0),
   (oo 70 (.move (tq 6) false),q0),
   (oo 71 (.bin .sub (tq 70) (.const (.sc (.int .i64 16)))),q0),
   (oo 72 (.indexAddrA 64 1 (tq 3) (tq 71)),q0),
   (oo 73 (.load false 1 (tq 72) false),q1),
   (oo 74 (.move (tq 7) false),q0),
   (oo 75 (.bin .add (tq 73) (tq 74)),q0),
   (oo 76 (.move (tq 6) false),q0),
   (oo 77 (.bin .sub (tq 76) (.const (.sc (.int .i64 7)))),q0),
   (oo 78 (.indexAddrA 64 1 (tq 3) (tq 77)),q0),
   (oo 79 (.load false 1 (tq 78) false),q1),
   (oo 80 (.bin .add (tq 75) (tq 79)),q0),
   (oo 81 (.move (tq 8) false),q0),
   (oo 82 (.bin .add (tq 80) (tq 81)),q0),
   (oo 83 (.indexAddrA 64 1 (tq 3) (tq 69)),q0),
   (oz (.store 1 (tq 83) (tq 82)),q0)]))))
 (.reg [oo 33 (.move (tq 6) false),
   oo 34 (.bin .add (tq 33) (.const (.sc (.int .i64 1)))),
   oo 6 (.move (tq 34) false)])))
def zbz:CC:=(.seq (.reg [oo 10 (.bin .lss (tq 9) (.const (.sc (.int .i64 16))))])
 (.seq (.cond (tq 10)
 .skip
 (.seq (.mask (bl 12 85) (bl 38685626227668133590597581 85))
 (.exit 0)))
 (.seq (.block 1 (.seq (.reg [oo 11 (.move (tq 9) false),
   oo 4 (.move (tq 11) false)])
 (.seq (.reg [oo 12 (.move (.const (.sc (.int .i64 0))) false)])
 (.block 2 (.loop (bl 4638 85) (bl 38685626227668133590597599 85)
 zaH)))))
 zfc)))
def ziu:CC:=(.seq (.reg [oo 84 (.load true 64 (tq 3) false),
   oz (.store 64 (tq 2) (tq 84))])
 .ret)
def zga:CC:=(.seq (.seq (.reg [oo 6 (.move (.const (.sc (.int .i64 16))) false)])
 (.block 4 (.loop (bl 76 85) (bl 38685623849749388397117053 85)
 zco)))
 ziu)
def zaN:CF:=⟨85,[.cell 2 true 64],
 (.seq (.reg [oo 1 (.box true (tq 0)),
   oo 2 (.alloc true (rp 64 (.sc (.int .u32 0)) []))])
 (.seq (.reg [oo 3 (.alloc true (rp 64 (.sc (.int .u32 0)) []))])
 (.seq (.seq (.reg [oo 9 (.move (.const (.sc (.int .i64 0))) false)])
 (.block 0 (.loop (bl 526 85) (bl 38685626227668133590597583 85)
 zbz)))
 zga)))⟩
def zoz:Hint:=⟨[],[],[none,some ((bl 526 85),(bl 38685626227668133590597583 85)),none,some ((bl 12 85),(bl 38685626227668133590597581 85)),none,none,some ((bl 4638 85),(bl 38685626227668133590597599 85)),none,some ((bl 526 85),(bl 38685626227668133590597599 85)),none,none,some ((bl 76 85),(bl 38685623849749388397117053 85)),none,some ((bl 12 85),(bl 38685623849749388397116989 85)),none,none],[],[],false,false⟩
def zB:Nat→Sh:=xQ [(18,(.int .u32)),(25,(.int .u8)),(38,(.int .u32)),(43,(.int .u32)),(49,(.int .u32)),(55,(.int .u32)),(60,(.int .u32)),(66,(.int .u32)),(73,(.int .u32)),(79,(.int .u32))]
def yB (zd:yy) (L:Nat):CBC:=(xy 535 (zmo zd L) noC)
def zbd:St→St:=zS 0 (bl 526 85) (bl 38685626227668133590597583 85)
def zbQ:St→St:=zS 0 (bl 4638 85) (bl 38685626227668133590597599 85)
def zet:St→St:=zS 0 (bl 76 85) (bl 38685623849749388397117053 85)
def zbb (p9:Int) (b1 b2 b3:List V):St:=⟨(jn 1 ((V.ptr 1 0)::((V.ptr 2 0)::((V.ptr 3 0)::(jn 5 ((V.sc (.int .i64 p9))::(jn 75 []))))))),(gn 1 ((.live true b1)::((.live true b2)::((.live true b3)::(gn 81 [])))))⟩
def zbk (p4 p9 p12:Int) (b1 b2 b3:List V):St:=⟨(jn 1 ((V.ptr 1 0)::((V.ptr 2 0)::((V.ptr 3 0)::((V.sc (.int .i64 p4))::(jn 4 ((V.sc (.int .i64 p9))::(jn 2 ((V.sc (.int .i64 p12))::(jn 72 [])))))))))),(gn 1 ((.live true b1)::((.live true b2)::((.live true b3)::(gn 81 [])))))⟩
def zdF (b2 b3:List V):St:=⟨(jn 2 ((V.ptr 2 0)::((V.ptr 3 0)::(jn 81 [])))),(gn 2 ((.live true b2)::((.live true b3)::(gn 81 []))))⟩
def zc3 (p6:Int) (b2 b3:List V):St:=⟨(jn 2 ((V.ptr 2 0)::((V.ptr 3 0)::(jn 2 ((V.sc (.int .i64 p6))::(jn 78 [])))))),(gn 2 ((.live true b2)::((.live true b3)::(gn 81 []))))⟩
def ziH (p9:Int) (b1 b2 b3:List V):St:=⟨(jn 1 ((V.ptr 1 0)::((V.ptr 2 0)::((V.ptr 3 0)::(jn 5 ((V.sc (.int .i64 p9))::(jn 75 []))))))),(gn 1 ((.live true b1)::((.live true b2)::((.live true b3)::(gn 81 [])))))⟩
def zjc (b2 b3:List V):St:=⟨(jn 2 ((V.ptr 2 0)::((V.ptr 3 0)::(jn 81 [])))),(gn 2 ((.live true b2)::((.live true b3)::(gn 81 []))))⟩
def zmI {β:Type} (zd:yy) (L:Nat) (p0:List V) (k_hbbaba:Int→List V→List V→List V→Option β):Option β :=
 k_hbbaba (0:Int) p0 (List.replicate 64 (V.sc (.int .u32 (0:Int)))) (List.replicate 64 (V.sc (.int .u32 (0:Int))))
theorem zvu {β:Type} (zd:yy) (L:Nat) (p0:List V) (k:KK β):zt zB (yB zd L) L zaN [(V.agg p0)] [] k=zmI zd L p0 (fun p9 b1 b2 b3=>xq (xf zB (yB zd L) 0 L zbz) zbd L (zbb p9 b1 b2 b3) (yn 0 (zy (xf zB (yB zd L) 0 L zga) (yE 0 (CF.res zaN) k)))):=by kernel_rfl
def ze2 {β:Type} (zd:yy) (L:Nat) (p9:Int) (b1 b2 b3:List V) (k_hbbabaabbaabba:Int→Int→Int→List V→List V→List V→Option β) (k_x0:List V→List V→Option β):Option β :=
 ifb (decide (p9 < (16:Int))) (
 k_hbbabaabbaabba p9 p9 (0:Int) b1 b2 b3) (
 k_x0 b2 b3)
theorem zrf {β:Type} (zd:yy) (L:Nat) (p9:Int) (b1 b2 b3:List V) (X:St→Option β) (K:KT β):xf zB (yB zd L) 0 L zbz (zbb p9 b1 b2 b3) (yN zbd X K)=ze2 zd L p9 b1 b2 b3 (fun p4 p9 p12 b1 b2 b3=>xq (xf zB (yB zd L) 0 L zaH) zbQ L (zbk p4 p9 p12 b1 b2 b3) (yn 2 (yn 1 (zy (xf zB (yB zd L) 0 L zfc) (yN zbd X K))))) (fun b2 b3=>K (.exit 0) (zdF b2 b3)):=by kernel_rfl
def zgp {β:Type} (zd:yy) (L:Nat) (b2 b3:List V) (k_hbbbaba:Int→List V→List V→Option β):Option β :=
 k_hbbbaba (16:Int) b2 b3
theorem zpz {β:Type} (zd:yy) (L:Nat) (b2 b3:List V) (k:KK β):(yn 0 (zy (xf zB (yB zd L) 0 L zga) (yE 0 (CF.res zaN) k))) (.exit 0) (zdF b2 b3)=zgp zd L b2 b3 (fun p6 b2 b3=>xq (xf zB (yB zd L) 0 L zco) zet L (zc3 p6 b2 b3) (yn 4 (zy (xf zB (yB zd L) 0 L ziu) (yE 0 (CF.res zaN) k)))):=by kernel_rfl
def zU {β:Type} (zd:yy) (L:Nat) (p4 p9 p12:Int) (b1 b2 b3:List V) (k_hbbabaabbaabba:Int→Int→Int→List V→List V→List V→Option β) (k_x2:Int→List V→List V→List V→Option β):Option β :=
 ifb (decide (p12 < (4:Int))) (
 chk (0≤p4∧p4 < ((64:Nat):Int)) (
 cI .u32 b3 (0+((Int.toNat p4) * 1)) fun v0 =>
 lt (zhC .u32 v0 (8:Int)) fun x1 =>
 lt (IntKind.wrap .i64 (((4:Int):Int) * p4)) fun x2 =>
 lt (IntKind.wrap .i64 ((x2:Int)+p12)) fun x3 =>
 chk (0≤x3∧x3 < ((64:Nat):Int)) (
 cI .u8 b1 (0+((Int.toNat x3) * 1)) fun v4 =>
 lt (IntKind.wrap .u32 v4) fun x5 =>
 lt (ior .u32 x1 x5) fun x6 =>
 chk (0≤p4∧p4 < ((64:Nat):Int)) (
 chk (1=1∧(0+((Int.toNat p4) * 1))+1≤(List.length b3)) (
 lt (zr b3 (0+((Int.toNat p4) * 1)) [(V.sc (.int .u32 x6))]) fun r7 =>
 lt (IntKind.wrap .i64 ((p12:Int)+(1:Int))) fun x8 =>
 k_hbbabaabbaabba p4 p9 x8 b1 b2 r7))))) (
 k_x2 p9 b1 b2 b3)
theorem zln {β:Type} (zd:yy) (L:Nat) (p4 p9 p12:Int) (b1 b2 b3:List V) (X:St→Option β) (K:KT β):xf zB (yB zd L) 0 L zaH (zbk p4 p9 p12 b1 b2 b3) (yN zbQ X K)=zU zd L p4 p9 p12 b1 b2 b3 (fun p4 p9 p12 b1 b2 b3=>X (zbk p4 p9 p12 b1 b2 b3)) (fun p9 b1 b2 b3=>K (.exit 2) (ziH p9 b1 b2 b3)):=by kernel_rfl
def zbx {β:Type} (zd:yy) (L:Nat) (p6:Int) (b2 b3:List V) (k_hbbbaba:Int→List V→List V→Option β) (k_x4:List V→List V→Option β):Option β :=
 ifb (decide (p6 < (64:Int))) (
 lt (IntKind.wrap .i64 ((p6:Int) - (15:Int))) fun x9 =>
 chk (0≤x9∧x9 < ((64:Nat):Int)) (
 cI .u32 b3 (0+((Int.toNat x9) * 1)) fun v10 =>
 zd β L v10 (7:Int) (fun v11 =>
 lt (IntKind.wrap .i64 ((p6:Int) - (15:Int))) fun x12 =>
 chk (0≤x12∧x12 < ((64:Nat):Int)) (
 cI .u32 b3 (0+((Int.toNat x12) * 1)) fun v13 =>
 zd β L v13 (18:Int) (fun v14 =>
 lt (zbH .u32 v11 v14) fun x15 =>
 lt (IntKind.wrap .i64 ((p6:Int) - (15:Int))) fun x16 =>
 chk (0≤x16∧x16 < ((64:Nat):Int)) (
 cI .u32 b3 (0+((Int.toNat x16) * 1)) fun v17 =>
 lt (zcZ .u32 v17 (3:Int)) fun x18 =>
 lt (zbH .u32 x15 x18) fun x19 =>
 lt (IntKind.wrap .i64 ((p6:Int) - (2:Int))) fun x20 =>
 chk (0≤x20∧x20 < ((64:Nat):Int)) (
 cI .u32 b3 (0+((Int.toNat x20) * 1)) fun v21 =>
 zd β L v21 (17:Int) (fun v22 =>
 lt (IntKind.wrap .i64 ((p6:Int) - (2:Int))) fun x23 =>
 chk (0≤x23∧x23 < ((64:Nat):Int)) (
 cI .u32 b3 (0+((Int.toNat x23) * 1)) fun v24 =>
 zd β L v24 (19:Int) (fun v25 =>
 lt (zbH .u32 v22 v25) fun x26 =>
 lt (IntKind.wrap .i64 ((p6:Int) - (2:Int))) fun x27 =>
 chk (0≤x27∧x27 < ((64:Nat):Int)) (
 cI .u32 b3 (0+((Int.toNat x27) * 1)) fun v28 =>
 lt (zcZ .u32 v28 (10:Int)) fun x29 =>
 lt (zbH .u32 x26 x29) fun x30 =>
 lt (IntKind.wrap .i64 ((p6:Int) - (16:Int))) fun x31 =>
 chk (0≤x31∧x31 < ((64:Nat):Int)) (
 cI .u32 b3 (0+((Int.toNat x31) * 1)) fun v32 =>
 lt (IntKind.wrap .u32 ((v32:Int)+x19)) fun x33 =>
 lt (IntKind.wrap .i64 ((p6:Int) - (7:Int))) fun x34 =>
 chk (0≤x34∧x34 < ((64:Nat):Int)) (
 cI .u32 b3 (0+((Int.toNat x34) * 1)) fun v35 =>
 lt (IntKind.wrap .u32 ((x33:Int)+v35)) fun x36 =>
 lt (IntKind.wrap .u32 ((x36:Int)+x30)) fun x37 =>
 chk (0≤p6∧p6 < ((64:Nat):Int)) (
 chk (1=1∧(0+((Int.toNat p6) * 1))+1≤(List.length b3)) (
 lt (zr b3 (0+((Int.toNat p6) * 1)) [(V.sc (.int .u32 x37))]) fun r38 =>
 lt (IntKind.wrap .i64 ((p6:Int)+(1:Int))) fun x39 =>
 k_hbbbaba x39 b2 r38))))))))))))))) (
 k_x4 b2 b3)
theorem zp1 {β:Type} (zd:yy) (L:Nat) (p6:Int) (b2 b3:List V) (X:St→Option β) (K:KT β):xf zB (yB zd L) 0 L zco (zc3 p6 b2 b3) (yN zet X K)=zbx zd L p6 b2 b3 (fun p6 b2 b3=>X (zc3 p6 b2 b3)) (fun b2 b3=>K (.exit 4) (zjc b2 b3)):=by kernel_rfl
def zcX {β:Type} (zd:yy) (L:Nat) (p9:Int) (b1 b2 b3:List V) (k_hbbaba:Int→List V→List V→List V→Option β):Option β :=
 lt (IntKind.wrap .i64 ((p9:Int)+(1:Int))) fun x40 =>
 k_hbbaba x40 b1 b2 b3
theorem zkO {β:Type} (zd:yy) (L:Nat) (p9:Int) (b1 b2 b3:List V) (X:St→Option β) (K:KT β):(yn 2 (yn 1 (zy (xf zB (yB zd L) 0 L zfc) (yN zbd X K)))) (.exit 2) (ziH p9 b1 b2 b3)=zcX zd L p9 b1 b2 b3 (fun p9 b1 b2 b3=>X (zbb p9 b1 b2 b3)):=by kernel_rfl
def zfX {β:Type} (zd:yy) (L:Nat) (b2 b3:List V) (k_fin:List V→Option β):Option β :=
 chk (0+64≤(List.length b3)) (
 chk ((List.length (List.take 64 b3))=64∧0+64≤(List.length b2)) (
 lt (zr b2 0 (List.take 64 b3)) fun r41 =>
 chk (0=0∧(List.length r41)=64∧64≠0) (
 k_fin r41)))
theorem zoJ {β:Type} (zd:yy) (L:Nat) (b2 b3:List V) (k:KK β):(yn 4 (zy (xf zB (yB zd L) 0 L ziu) (yE 0 (CF.res zaN) k))) (.exit 4) (zjc b2 b3)=zfX zd L b2 b3 (fun p0=>k (V.agg p0) []):=by kernel_rfl
def yO {β:Type} (zd:yy) (L:Nat) (k_x2:Int→List V→List V→List V→Option β):Nat→Int→Int→Int→List V→List V→List V→Option β
 | 0,_,_,_,_,_,_=>none
 | n+1,p4,p9,p12,b1,b2,b3=>zU zd L p4 p9 p12 b1 b2 b3 (fun p4 p9 p12 b1 b2 b3=>yO zd L k_x2 n p4 p9 p12 b1 b2 b3) k_x2
theorem zfK {β:Type} (zd:yy) (L:Nat) (K:KT β):∀ (n:Nat) (p4 p9 p12:Int) (b1 b2 b3:List V),xq (xf zB (yB zd L) 0 L zaH) zbQ n (zbk p4 p9 p12 b1 b2 b3) K=yO zd L (fun p9 b1 b2 b3=>K (.exit 2) (ziH p9 b1 b2 b3)) n p4 p9 p12 b1 b2 b3:=by
 intro n
 induction n with
 | zero=>intros; rfl
 | succ n ih =>
  intro p4 p9 p12 b1 b2 b3
  refine (zln zd L p4 p9 p12 b1 b2 b3 (fun σ=>xq (xf zB (yB zd L) 0 L zaH) zbQ n σ K) K).trans ?_
  simp only [ih]
  rfl
def zby {β:Type} (zd:yy) (L:Nat) (p9:Int) (b1 b2 b3:List V) (k_x0:List V→List V→Option β) (k_hbbaba:Int→List V→List V→List V→Option β):Option β :=
 ze2 zd L p9 b1 b2 b3 (fun p4 p9 p12 b1 b2 b3=>yO zd L (fun p9 b1 b2 b3=>zcX zd L p9 b1 b2 b3 k_hbbaba) L p4 p9 p12 b1 b2 b3) k_x0
theorem zp4 {β:Type} (zd:yy) (L:Nat) (p9:Int) (b1 b2 b3:List V) (X:St→Option β) (K:KT β):xf zB (yB zd L) 0 L zbz (zbb p9 b1 b2 b3) (yN zbd X K)=zby zd L p9 b1 b2 b3 (fun b2 b3=>K (.exit 0) (zdF b2 b3)) (fun p9 b1 b2 b3=>X (zbb p9 b1 b2 b3)):=by
 refine (zrf zd L p9 b1 b2 b3 X K).trans ?_
 unfold zby
 first
  | (simp only [zfK,zkO]; done)
  | (simp only [zfK]; rfl)
def zbU {β:Type} (zd:yy) (L:Nat) (k_x0:List V→List V→Option β):Nat→Int→List V→List V→List V→Option β
 | 0,_,_,_,_=>none
 | n+1,p9,b1,b2,b3=>zby zd L p9 b1 b2 b3 k_x0 (fun p9 b1 b2 b3=>zbU zd L k_x0 n p9 b1 b2 b3)
theorem zj0 {β:Type} (zd:yy) (L:Nat) (K:KT β):∀ (n:Nat) (p9:Int) (b1 b2 b3:List V),xq (xf zB (yB zd L) 0 L zbz) zbd n (zbb p9 b1 b2 b3) K=zbU zd L (fun b2 b3=>K (.exit 0) (zdF b2 b3)) n p9 b1 b2 b3:=by
 intro n
 induction n with
 | zero=>intros; rfl
 | succ n ih =>
  intro p9 b1 b2 b3
  refine (zp4 zd L p9 b1 b2 b3 (fun σ=>xq (xf zB (yB zd L) 0 L zbz) zbd n σ K) K).trans ?_
  simp only [ih]
  rfl
def zbB {β:Type} (zd:yy) (L:Nat) (k_x4:List V→List V→Option β):Nat→Int→List V→List V→Option β
 | 0,_,_,_=>none
 | n+1,p6,b2,b3=>zbx zd L p6 b2 b3 (fun p6 b2 b3=>zbB zd L k_x4 n p6 b2 b3) k_x4
theorem zjD {β:Type} (zd:yy) (L:Nat) (K:KT β):∀ (n:Nat) (p6:Int) (b2 b3:List V),xq (xf zB (yB zd L) 0 L zco) zet n (zc3 p6 b2 b3) K=zbB zd L (fun b2 b3=>K (.exit 4) (zjc b2 b3)) n p6 b2 b3:=by
 intro n
 induction n with
 | zero=>intros; rfl
 | succ n ih =>
  intro p6 b2 b3
  refine (zp1 zd L p6 b2 b3 (fun σ=>xq (xf zB (yB zd L) 0 L zco) zet n σ K) K).trans ?_
  simp only [ih]
  rfl
def zdq {β:Type} (zd:yy) (L:Nat) (b2 b3:List V) (k_fin:List V→Option β):Option β :=
 zgp zd L b2 b3 (fun p6 b2 b3=>zbB zd L (fun b2 b3=>zfX zd L b2 b3 k_fin) L p6 b2 b3)
theorem zoQ {β:Type} (zd:yy) (L:Nat) (b2 b3:List V) (k:KK β):(yn 0 (zy (xf zB (yB zd L) 0 L zga) (yE 0 (CF.res zaN) k))) (.exit 0) (zdF b2 b3)=zdq zd L b2 b3 (fun p0=>k (V.agg p0) []):=by
 refine (zpz zd L b2 b3 k).trans ?_
 unfold zdq
 first
  | (simp only [zjD,zoJ]; done)
  | (simp only [zjD]; rfl)
def zjl {β:Type} (zd:yy) (L:Nat) (p0:List V) (k_fin:List V→Option β):Option β :=
 zmI zd L p0 (fun p9 b1 b2 b3=>zbU zd L (fun b2 b3=>zdq zd L b2 b3 k_fin) L p9 b1 b2 b3)
theorem zvq {β:Type} (zd:yy) (L:Nat) (p0:List V) (k:KK β):zt zB (yB zd L) L zaN [(V.agg p0)] [] k=zjl zd L p0 (fun p0=>k (V.agg p0) []):=by
 refine (zvu zd L p0 k).trans ?_
 unfold zjl
 first
  | (simp only [zj0,zoQ]; done)
  | (simp only [zj0]; rfl)
abbrev zap:=∀ (β:Type),Nat→List V→(List V→Option β)→Option β
def xn (β:Type) (L:Nat) (p0:List V) (k_fin:List V→Option β):Option β:=zjl zd L p0 k_fin
def zjh (xn:zap) (L:Nat) (β:Type) (args:List V) (bor:Bor) (k:KK β):Option β:=match args,bor with
 | [a0],[]=>aG a0 fun p0=>xn β L p0 (fun p0=>k (V.agg p0) [])
 | _,_=>none
theorem zvJ (L:Nat) (β:Type) (args:List V) (bor:Bor) (k:KK β) (r:β) (h:zjh xn L β args bor k=some r):zt zB (yB zd L) L zaN args bor k=some r:=by
 unfold zjh at h
 split at h
 ·have q:=zaj h; clear h; obtain ⟨p0,rfl,h⟩:=q
  exact (zvq zd L p0 k).trans h
 ·cases h
def zbX:CC:=(.seq (.reg [oo 36 (.bin .lss (tq 35) (.const (.sc (.int .i64 64))))])
 (.seq (.cond (tq 36)
 .skip
 (.seq (.mask (bl 16340 131) (bl 2722258935367507704976878695863201710039 131))
 (.exit 0)))
 (.seq (.block 1 (.seq (.reg [oo 37 (.move (tq 35) false),
   oo 14 (.move (tq 37) false)])
 (.seq (.dreg [] [(oo 38 (.move (tq 13) false),q0),
   (oo 39 (.move (tq 10) false),q0),
   (oo 40 (.call 535 [((tq 39),0),((.const (.sc (.int .i64 6))),0)] []),q1),
   (oo 41 (.move (tq 10) false),q0),
   (oo 42 (.call 535 [((tq 41),0),((.const (.sc (.int .i64 11))),0)] []),q1),
   (oo 43 (.bin .xor (tq 40) (tq 42)),q0),
   (oo 44 (.move (tq 10) false),q0),
   (oo 45 (.call 535 [((tq 44),0),((.const (.sc (.int .i64 25))),0)] []),q1),
   (oo 46 (.bin .xor (tq 43) (tq 45)),q0),
   (oo 47 (.bin .add (tq 38) (tq 46)),q0),
   (oo 48 (.move (tq 10) false),q0),
   (oo 49 (.move (tq 11) false),q0),
   (oo 50 (.bin .and (tq 48) (tq 49)),q0),
   (oo 51 (.move (tq 10) false),q0),
   (oo 52 (.un .xor (tq 51)),q0),
   (oo 53 (.move (tq 12) false),q0),
   (oo 54 (.bin .and (tq 52) (tq 53)),q0),
   (oo 55 (.bin .xor (tq 50) (tq 54)),q0),
   (oo 56 (.bin .add (tq 47) (tq 55)),q0),
   (oo 57 (.move (tq 14) false),q0),
   (oo 58 (.indexAddrA 64 1 (.const (.fp 64 gk_sha_k)) (tq 57)),q0),
   (oo 59 (.load false 1 (tq 58) false),q1),
   (oo 60 (.bin .add (tq 56) (tq 59)),q0),
   (oo 61 (.move (tq 14) false),q0),
   (oo 62 (.indexAddrA 64 1 (tq 5) (tq 61)),q0),
   (oo 63 (.load false 1 (tq 62) false),q1),
   (oo 64 (.bin .add (tq 60) (tq 63)),q0),
   (oo 15 (.move (tq 64) false),q0)])
 (.seq (.reg [oo 65 (.move (tq 6) false),
   oo 66 (.call 535 [((tq 65),0),((.const (.sc (.int .i64 2))),0)] []),
   oo 67 (.move (tq 6) false),
   oo 68 (.call 535 [((tq 67),0),((.const (.sc (.int .i64 13))),0)] []),
   oo 69 (.bin .xor (tq 66) (tq 68)),
   oo 70 (.move (tq 6) false),
   oo 71 (.call 535 [((tq 70),0),((.const (.sc (.int .i64 22))),0)] []),
   oo 72 (.bin .xor (tq 69) (tq 71)),
   oo 73 (.move (tq 6) false),
   oo 74 (.move (tq 7) false),
   oo 75 (.bin .and (tq 73) (tq 74)),
   oo 76 (.move (tq 6) false),
   oo 77 (.move (tq 8) false),
   oo 78 (.bin .and (tq 76) (tq 77)),
   oo 79 (.bin .xor (tq 75) (tq 78)),
   oo 80 (.move (tq 7) false),
   oo 81 (.move (tq 8) false),
   oo 82 (.bin .and (tq 80) (tq 81)),
   oo 83 (.bin .xor (tq 79) (tq 82)),
   oo 84 (.bin .add (tq 72) (tq 83)),
   oo 16 (.move (tq 84) false)])
 (.reg [oo 85 (.move (tq 15) false),
   oo 86 (.move (tq 16) false),
   oo 87 (.bin .add (tq 85) (tq 86)),
   oo 88 (.move (tq 6) false),
   oo 89 (.move (tq 7) false),
   oo 90 (.move (tq 8) false),
   oo 91 (.move (tq 9) false),
   oo 92 (.move (tq 15) false),
   oo 93 (.bin .add (tq 91) (tq 92)),
   oo 94 (.move (tq 10) false),
   oo 95 (.move (tq 11) false),
   oo 96 (.move (tq 12) false),
   oo 6 (.move (tq 87) false),
   oo 7 (.move (tq 88) false),
   oo 8 (.move (tq 89) false),
   oo 9 (.move (tq 90) false),
   oo 10 (.move (tq 93) false),
   oo 11 (.move (tq 94) false),
   oo 12 (.move (tq 95) false),
   oo 13 (.move (tq 96) false)])))))
 (.reg [oo 97 (.bin .add (tq 35) (.const (.sc (.int .i64 1)))),
   oo 35 (.move (tq 97) false)]))))
def zhD:CC:=(.seq (.reg [oo 98 (.indexAddrA 8 1 (tq 2) (.const (.sc (.int .i64 0)))),
   oo 99 (.load false 1 (tq 98) false),
   oo 100 (.move (tq 6) false),
   oo 101 (.bin .add (tq 99) (tq 100)),
   oo 102 (.indexAddrA 8 1 (tq 2) (.const (.sc (.int .i64 1)))),
   oo 103 (.load false 1 (tq 102) false),
   oo 104 (.move (tq 7) false),
   oo 105 (.bin .add (tq 103) (tq 104)),
   oo 106 (.indexAddrA 8 1 (tq 2) (.const (.sc (.int .i64 2)))),
   oo 107 (.load false 1 (tq 106) false),
   oo 108 (.move (tq 8) false),
   oo 109 (.bin .add (tq 107) (tq 108)),
   oo 110 (.indexAddrA 8 1 (tq 2) (.const (.sc (.int .i64 3)))),
   oo 111 (.load false 1 (tq 110) false),
   oo 112 (.move (tq 9) false),
   oo 113 (.bin .add (tq 111) (tq 112)),
   oo 114 (.indexAddrA 8 1 (tq 2) (.const (.sc (.int .i64 4)))),
   oo 115 (.load false 1 (tq 114) false),
   oo 116 (.move (tq 10) false),
   oo 117 (.bin .add (tq 115) (tq 116)),
   oo 118 (.indexAddrA 8 1 (tq 2) (.const (.sc (.int .i64 5)))),
   oo 119 (.load false 1 (tq 118) false),
   oo 120 (.move (tq 11) false),
   oo 121 (.bin .add (tq 119) (tq 120)),
   oo 122 (.indexAddrA 8 1 (tq 2) (.const (.sc (.int .i64 6)))),
   oo 123 (.load false 1 (tq 122) false),
   oo 124 (.move (tq 12) false),
   oo 125 (.bin .add (tq 123) (tq 124)),
   oo 126 (.indexAddrA 8 1 (tq 2) (.const (.sc (.int .i64 7)))),
   oo 127 (.load false 1 (tq 126) false),
   oo 128 (.move (tq 13) false),
   oo 129 (.bin .add (tq 127) (tq 128)),
   oo 130 (.build [(.sc (.int .u32 0)),(.sc (.int .u32 0)),(.sc (.int .u32 0)),(.sc (.int .u32 0)),(.sc (.int .u32 0)),(.sc (.int .u32 0)),(.sc (.int .u32 0)),(.sc (.int .u32 0))] [(0,1,(tq 101)),(1,1,(tq 105)),(2,1,(tq 109)),(3,1,(tq 113)),(4,1,(tq 117)),(5,1,(tq 121)),(6,1,(tq 125)),(7,1,(tq 129))]),
   oz (.store 8 (tq 4) (tq 130))])
 .ret)
def zcE:CF:=⟨131,[.cell 4 true 8],
 (.seq (.reg [oo 2 (.box true (tq 0)),
   oo 3 (.box true (tq 1)),
   oo 4 (.alloc true [(.sc (.int .u32 0)),(.sc (.int .u32 0)),(.sc (.int .u32 0)),(.sc (.int .u32 0)),(.sc (.int .u32 0)),(.sc (.int .u32 0)),(.sc (.int .u32 0)),(.sc (.int .u32 0))])])
 (.seq (.reg [oo 17 (.load true 64 (tq 3) false),
   oo 18 (.call 534 [((tq 17),0)] []),
   oo 5 (.alloc true (rp 64 (.sc (.int .u32 0)) [])),
   oz (.store 64 (tq 5) (tq 18))])
 (.seq (.dreg [] [(oo 19 (.indexAddrA 8 1 (tq 2) (.const (.sc (.int .i64 0)))),q0),
   (oo 20 (.load false 1 (tq 19) false),q1),
   (oo 21 (.indexAddrA 8 1 (tq 2) (.const (.sc (.int .i64 1)))),q0),
   (oo 22 (.load false 1 (tq 21) false),q1),
   (oo 23 (.indexAddrA 8 1 (tq 2) (.const (.sc (.int .i64 2)))),q0),
   (oo 24 (.load false 1 (tq 23) false),q1),
   (oo 25 (.indexAddrA 8 1 (tq 2) (.const (.sc (.int .i64 3)))),q0),
   (oo 26 (.load false 1 (tq 25) false),q1),
   (oo 6 (.move (tq 20) false),q0),
   (oo 7 (.move (tq 22) false),q0),
   (oo 8 (.move (tq 24) false),q0),
   (oo 9 (.move (tq 26) false),q0)])
 (.seq (.dreg [] [(oo 27 (.indexAddrA 8 1 (tq 2) (.const (.sc (.int .i64 4)))),q0),
   (oo 28 (.load false 1 (tq 27) false),q1),
   (oo 29 (.indexAddrA 8 1 (tq 2) (.const (.sc (.int .i64 5)))),q0),
   (oo 30 (.load false 1 (tq 29) false),q1),
   (oo 31 (.indexAddrA 8 1 (tq 2) (.const (.sc (.int .i64 6)))),q0),
   (oo 32 (.load false 1 (tq 31) false),q1),
   (oo 33 (.indexAddrA 8 1 (tq 2) (.const (.sc (.int .i64 7)))),q0),
   (oo 34 (.load false 1 (tq 33) false),q1),
   (oo 10 (.move (tq 28) false),q0),
   (oo 11 (.move (tq 30) false),q0),
   (oo 12 (.move (tq 32) false),q0),
   (oo 13 (.move (tq 34) false),q0)])
 (.seq (.seq (.reg [oo 35 (.move (.const (.sc (.int .i64 0))) false)])
 (.block 0 (.loop (bl 34359754740 131) (bl 2722258935367507704976878695863201710071 131)
 zbX)))
 zhD)))))⟩
def zoB:Hint:=⟨[],[],[none,some ((bl 34359754740 131),(bl 2722258935367507704976878695863201710071 131)),none,some ((bl 16340 131),(bl 2722258935367507704976878695863201710039 131)),none,none],[],[],false,false⟩
def zaP:Nat→Sh:=xQ [(20,(.int .u32)),(22,(.int .u32)),(24,(.int .u32)),(26,(.int .u32)),(28,(.int .u32)),(30,(.int .u32)),(32,(.int .u32)),(34,(.int .u32)),(59,(.int .u32)),(63,(.int .u32)),(99,(.int .u32)),(103,(.int .u32)),(107,(.int .u32)),(111,(.int .u32)),(115,(.int .u32)),(119,(.int .u32)),(123,(.int .u32)),(127,(.int .u32))]
def zaK (xn:zap) (zd:yy) (L:Nat):CBC:=(xy 535 (zmo zd L) (xy 534 (zjh xn L) noC))
def zdS:St→St:=zS 0 (bl 34359754740 131) (bl 2722258935367507704976878695863201710071 131)
def zcH (p6 p7 p8 p9 p10 p11 p12 p13 p35:Int) (b2:List V) (zHc zHd zHe zHf zHg zHh zHi zHj:Int) (b5:List V):St:=⟨(jn 2 ((V.ptr 2 0)::(jn 1 ((V.ptr 4 0)::((V.ptr 5 0)::((V.sc (.int .u32 p6))::((V.sc (.int .u32 p7))::((V.sc (.int .u32 p8))::((V.sc (.int .u32 p9))::((V.sc (.int .u32 p10))::((V.sc (.int .u32 p11))::((V.sc (.int .u32 p12))::((V.sc (.int .u32 p13))::(jn 21 ((V.sc (.int .i64 p35))::(jn 95 [])))))))))))))))),(gn 2 ((.live true b2)::(gn 1 ((.live true [(V.sc (.int .u32 zHc)),(V.sc (.int .u32 zHd)),(V.sc (.int .u32 zHe)),(V.sc (.int .u32 zHf)),(V.sc (.int .u32 zHg)),(V.sc (.int .u32 zHh)),(V.sc (.int .u32 zHi)),(V.sc (.int .u32 zHj))])::((.live true b5)::(gn 125 []))))))⟩
def zjg (p6 p7 p8 p9 p10 p11 p12 p13:Int) (b2:List V) (zHc zHd zHe zHf zHg zHh zHi zHj:Int):St:=⟨(jn 2 ((V.ptr 2 0)::(jn 1 ((V.ptr 4 0)::(jn 1 ((V.sc (.int .u32 p6))::((V.sc (.int .u32 p7))::((V.sc (.int .u32 p8))::((V.sc (.int .u32 p9))::((V.sc (.int .u32 p10))::((V.sc (.int .u32 p11))::((V.sc (.int .u32 p12))::((V.sc (.int .u32 p13))::(jn 117 [])))))))))))))),(gn 2 ((.live true b2)::(gn 1 ((.live true [(V.sc (.int .u32 zHc)),(V.sc (.int .u32 zHd)),(V.sc (.int .u32 zHe)),(V.sc (.int .u32 zHf)),(V.sc (.int .u32 zHg)),(V.sc (.int .u32 zHh)),(V.sc (.int .u32 zHi)),(V.sc (.int .u32 zHj))])::(gn 126 [])))))⟩
abbrev zfY (β:Type):Type:=Int→Int→Int→Int→Int→Int→Int→Int→Int→List V→Int→Int→Int→Int→Int→Int→Int→Int→List V→Option β
abbrev zgR (β:Type):Type:=Int→Int→Int→Int→Int→Int→Int→Int→List V→Int→Int→Int→Int→Int→Int→Int→Int→Option β
def zmU {β:Type} (xn:zap) (zd:yy) (L:Nat) (p0 p1:List V) (k_hbbbbaba:zfY β):Option β :=
 chk (0+64≤(List.length p1)) (
 xn β L (List.take 64 p1) (fun v0 =>
 chk ((List.length v0)=64∧0+64≤64) (
 lt (zr (List.replicate 64 (V.sc (.int .u32 (0:Int)))) 0 v0) fun r1 =>
 cI .u32 p0 0 fun v2 =>
 cI .u32 p0 1 fun v3 =>
 cI .u32 p0 2 fun v4 =>
 cI .u32 p0 3 fun v5 =>
 cI .u32 p0 4 fun v6 =>
 cI .u32 p0 5 fun v7 =>
 cI .u32 p0 6 fun v8 =>
 cI .u32 p0 7 fun v9 =>
 k_hbbbbaba v2 v3 v4 v5 v6 v7 v8 v9 (0:Int) p0 (0:Int) (0:Int) (0:Int) (0:Int) (0:Int) (0:Int) (0:Int) (0:Int) r1)))
theorem zvm {β:Type} (xn:zap) (zd:yy) (L:Nat) (p0 p1:List V) (k:KK β):zt zaP (zaK xn zd L) L zcE [(V.agg p0),(V.agg p1)] [] k=zmU xn zd L p0 p1 (fun p6 p7 p8 p9 p10 p11 p12 p13 p35 b2 zHc zHd zHe zHf zHg zHh zHi zHj b5=>xq (xf zaP (zaK xn zd L) 0 L zbX) zdS L (zcH p6 p7 p8 p9 p10 p11 p12 p13 p35 b2 zHc zHd zHe zHf zHg zHh zHi zHj b5) (yn 0 (zy (xf zaP (zaK xn zd L) 0 L zhD) (yE 0 (CF.res zcE) k)))):=by kernel_rfl
def zcg {β:Type} (xn:zap) (zd:yy) (L:Nat) (p6 p7 p8 p9 p10 p11 p12 p13 p35:Int) (b2:List V) (zHc zHd zHe zHf zHg zHh zHi zHj:Int) (b5:List V) (k_hbbbbaba:zfY β) (k_x0:zgR β):Option β :=
 ifb (decide (p35 < (64:Int))) (
 zd β L p10 (6:Int) (fun v10 =>
 zd β L p10 (11:Int) (fun v11 =>
 lt (zbH .u32 v10 v11) fun x12 =>
 zd β L p10 (25:Int) (fun v13 =>
 lt (zbH .u32 x12 v13) fun x14 =>
 lt (IntKind.wrap .u32 ((p13:Int)+x14)) fun x15 =>
 lt (zf0 .u32 p10 p11) fun x16 =>
 lt (zE2 .u32 p10) fun x17 =>
 lt (zf0 .u32 x17 p12) fun x18 =>
 lt (zbH .u32 x16 x18) fun x19 =>
 lt (IntKind.wrap .u32 ((x15:Int)+x19)) fun x20 =>
 chk (0≤p35∧p35 < ((64:Nat):Int)) (
 cI .u32 (List.drop ((Int.toNat p35) * 1) gk_sha_k) 0 fun v21 =>
 lt (IntKind.wrap .u32 ((x20:Int)+v21)) fun x22 =>
 chk (0≤p35∧p35 < ((64:Nat):Int)) (
 cI .u32 b5 (0+((Int.toNat p35) * 1)) fun v23 =>
 lt (IntKind.wrap .u32 ((x22:Int)+v23)) fun x24 =>
 zd β L p6 (2:Int) (fun v25 =>
 zd β L p6 (13:Int) (fun v26 =>
 lt (zbH .u32 v25 v26) fun x27 =>
 zd β L p6 (22:Int) (fun v28 =>
 lt (zbH .u32 x27 v28) fun x29 =>
 lt (zf0 .u32 p6 p7) fun x30 =>
 lt (zf0 .u32 p6 p8) fun x31 =>
 lt (zbH .u32 x30 x31) fun x32 =>
 lt (zf0 .u32 p7 p8) fun x33 =>
 lt (zbH .u32 x32 x33) fun x34 =>
 lt (IntKind.wrap .u32 ((x29:Int)+x34)) fun x35 =>
 lt (IntKind.wrap .u32 ((x24:Int)+x35)) fun x36 =>
 lt (IntKind.wrap .u32 ((p9:Int)+x24)) fun x37 =>
 lt (IntKind.wrap .i64 ((p35:Int)+(1:Int))) fun x38 =>
 k_hbbbbaba x36 p6 p7 p8 x37 p10 p11 p12 x38 b2 zHc zHd zHe zHf zHg zHh zHi zHj b5))))))))) (
 k_x0 p6 p7 p8 p9 p10 p11 p12 p13 b2 zHc zHd zHe zHf zHg zHh zHi zHj)
theorem zpm {β:Type} (xn:zap) (zd:yy) (L:Nat) (p6 p7 p8 p9 p10 p11 p12 p13 p35:Int) (b2:List V) (zHc zHd zHe zHf zHg zHh zHi zHj:Int) (b5:List V) (X:St→Option β) (K:KT β):xf zaP (zaK xn zd L) 0 L zbX (zcH p6 p7 p8 p9 p10 p11 p12 p13 p35 b2 zHc zHd zHe zHf zHg zHh zHi zHj b5) (yN zdS X K)=zcg xn zd L p6 p7 p8 p9 p10 p11 p12 p13 p35 b2 zHc zHd zHe zHf zHg zHh zHi zHj b5 (fun p6 p7 p8 p9 p10 p11 p12 p13 p35 b2 zHc zHd zHe zHf zHg zHh zHi zHj b5=>X (zcH p6 p7 p8 p9 p10 p11 p12 p13 p35 b2 zHc zHd zHe zHf zHg zHh zHi zHj b5)) (fun p6 p7 p8 p9 p10 p11 p12 p13 b2 zHc zHd zHe zHf zHg zHh zHi zHj=>K (.exit 0) (zjg p6 p7 p8 p9 p10 p11 p12 p13 b2 zHc zHd zHe zHf zHg zHh zHi zHj)):=by kernel_rfl
def zc0 {β:Type} (xn:zap) (zd:yy) (L:Nat) (p6 p7 p8 p9 p10 p11 p12 p13:Int) (b2:List V) (zHc zHd zHe zHf zHg zHh zHi zHj:Int) (k_fin:List V→Option β):Option β :=
 cI .u32 b2 0 fun v39 =>
 lt (IntKind.wrap .u32 ((v39:Int)+p6)) fun x40 =>
 cI .u32 b2 1 fun v41 =>
 lt (IntKind.wrap .u32 ((v41:Int)+p7)) fun x42 =>
 cI .u32 b2 2 fun v43 =>
 lt (IntKind.wrap .u32 ((v43:Int)+p8)) fun x44 =>
 cI .u32 b2 3 fun v45 =>
 lt (IntKind.wrap .u32 ((v45:Int)+p9)) fun x46 =>
 cI .u32 b2 4 fun v47 =>
 lt (IntKind.wrap .u32 ((v47:Int)+p10)) fun x48 =>
 cI .u32 b2 5 fun v49 =>
 lt (IntKind.wrap .u32 ((v49:Int)+p11)) fun x50 =>
 cI .u32 b2 6 fun v51 =>
 lt (IntKind.wrap .u32 ((v51:Int)+p12)) fun x52 =>
 cI .u32 b2 7 fun v53 =>
 lt (IntKind.wrap .u32 ((v53:Int)+p13)) fun x54 =>
 lt [(V.sc (.int .u32 x40)),(V.sc (.int .u32 x42)),(V.sc (.int .u32 x44)),(V.sc (.int .u32 x46)),(V.sc (.int .u32 x48)),(V.sc (.int .u32 x50)),(V.sc (.int .u32 x52)),(V.sc (.int .u32 x54))] fun r55 =>
 chk (0=0∧(List.length r55)=8∧8≠0) (
 k_fin r55)
theorem zn3 {β:Type} (xn:zap) (zd:yy) (L:Nat) (p6 p7 p8 p9 p10 p11 p12 p13:Int) (b2:List V) (zHc zHd zHe zHf zHg zHh zHi zHj:Int) (k:KK β):(yn 0 (zy (xf zaP (zaK xn zd L) 0 L zhD) (yE 0 (CF.res zcE) k))) (.exit 0) (zjg p6 p7 p8 p9 p10 p11 p12 p13 b2 zHc zHd zHe zHf zHg zHh zHi zHj)=zc0 xn zd L p6 p7 p8 p9 p10 p11 p12 p13 b2 zHc zHd zHe zHf zHg zHh zHi zHj (fun p0=>k (V.agg p0) []):=by kernel_rfl
def zbn {β:Type} (xn:zap) (zd:yy) (L:Nat) (k_x0:zgR β):Nat→Int→Int→Int→Int→Int→Int→Int→Int→Int→List V→Int→Int→Int→Int→Int→Int→Int→Int→List V→Option β
 | 0,_,_,_,_,_,_,_,_,_,_,_,_,_,_,_,_,_,_,_=>none
 | n+1,p6,p7,p8,p9,p10,p11,p12,p13,p35,b2,zHc,zHd,zHe,zHf,zHg,zHh,zHi,zHj,b5=>zcg xn zd L p6 p7 p8 p9 p10 p11 p12 p13 p35 b2 zHc zHd zHe zHf zHg zHh zHi zHj b5 (fun p6 p7 p8 p9 p10 p11 p12 p13 p35 b2 zHc zHd zHe zHf zHg zHh zHi zHj b5=>zbn xn zd L k_x0 n p6 p7 p8 p9 p10 p11 p12 p13 p35 b2 zHc zHd zHe zHf zHg zHh zHi zHj b5) k_x0
theorem ziy {β:Type} (xn:zap) (zd:yy) (L:Nat) (K:KT β):∀ (n:Nat) (p6 p7 p8 p9 p10 p11 p12 p13 p35:Int) (b2:List V) (zHc zHd zHe zHf zHg zHh zHi zHj:Int) (b5:List V),xq (xf zaP (zaK xn zd L) 0 L zbX) zdS n (zcH p6 p7 p8 p9 p10 p11 p12 p13 p35 b2 zHc zHd zHe zHf zHg zHh zHi zHj b5) K=zbn xn zd L (fun p6 p7 p8 p9 p10 p11 p12 p13 b2 zHc zHd zHe zHf zHg zHh zHi zHj=>K (.exit 0) (zjg p6 p7 p8 p9 p10 p11 p12 p13 b2 zHc zHd zHe zHf zHg zHh zHi zHj)) n p6 p7 p8 p9 p10 p11 p12 p13 p35 b2 zHc zHd zHe zHf zHg zHh zHi zHj b5:=by
 intro n
 induction n with
 | zero=>intros; rfl
 | succ n ih =>
  intro p6 p7 p8 p9 p10 p11 p12 p13 p35 b2 zHc zHd zHe zHf zHg zHh zHi zHj b5
  refine (zpm xn zd L p6 p7 p8 p9 p10 p11 p12 p13 p35 b2 zHc zHd zHe zHf zHg zHh zHi zHj b5 (fun σ=>xq (xf zaP (zaK xn zd L) 0 L zbX) zdS n σ K) K).trans ?_
  simp only [ih]
  rfl
def zjp {β:Type} (xn:zap) (zd:yy) (L:Nat) (p0 p1:List V) (k_fin:List V→Option β):Option β :=
 zmU xn zd L p0 p1 (fun p6 p7 p8 p9 p10 p11 p12 p13 p35 b2 zHc zHd zHe zHf zHg zHh zHi zHj b5=>zbn xn zd L (fun p6 p7 p8 p9 p10 p11 p12 p13 b2 zHc zHd zHe zHf zHg zHh zHi zHj=>zc0 xn zd L p6 p7 p8 p9 p10 p11 p12 p13 b2 zHc zHd zHe zHf zHg zHh zHi zHj k_fin) L p6 p7 p8 p9 p10 p11 p12 p13 p35 b2 zHc zHd zHe zHf zHg zHh zHi zHj b5)
theorem zvs {β:Type} (xn:zap) (zd:yy) (L:Nat) (p0 p1:List V) (k:KK β):zt zaP (zaK xn zd L) L zcE [(V.agg p0),(V.agg p1)] [] k=zjp xn zd L p0 p1 (fun p0=>k (V.agg p0) []):=by
 refine (zvm xn zd L p0 p1 k).trans ?_
 unfold zjp
 first
  | (simp only [ziy,zn3]; done)
  | (simp only [ziy]; rfl)
abbrev yL:=∀ (β:Type),Nat→List V→List V→(List V→Option β)→Option β
def yg (β:Type) (L:Nat) (p0 p1:List V) (k_fin:List V→Option β):Option β:=zjp xn zd L p0 p1 k_fin
def zji (yg:yL) (L:Nat) (β:Type) (args:List V) (bor:Bor) (k:KK β):Option β:=match args,bor with
 | [a0,a1],[]=>aG a0 fun p0=>aG a1 fun p1=>yg β L p0 p1 (fun p0=>k (V.agg p0) [])
 | _,_=>none
theorem zvp (L:Nat) (β:Type) (args:List V) (bor:Bor) (k:KK β) (r:β) (h:zji yg L β args bor k=some r):zt zaP (zaK xn zd L) L zcE args bor k=some r:=by
 unfold zji at h
 split at h
 ·have q:=zaj h; clear h; obtain ⟨p0,rfl,h⟩:=q
  have q:=zaj h; clear h; obtain ⟨p1,rfl,h⟩:=q
  exact (zvs xn zd L p0 p1 k).trans h
 ·cases h
def zdD:CC:=(.seq (.reg [oo 32 (.bin .lss (tq 31) (.const (.sc (.int .i64 32))))])
 (.seq (.cond (tq 32)
 .skip
 (.seq (.mask (bl 68 48) (bl 281474976710511 48))
 (.exit 2)))
 (.seq (.block 3 (.seq (.reg [oo 33 (.move (tq 31) false),
   oo 7 (.move (tq 33) false)])
 (.reg [oo 34 (.move (tq 7) false),
   oo 35 (.move (tq 7) false),
   oo 36 (.bin .quo (tq 35) (.const (.sc (.int .i64 4)))),
   oo 37 (.indexAddrA 8 1 (tq 4) (tq 36)),
   oo 38 (.load false 1 (tq 37) false),
   oo 39 (.move (tq 7) false),
   oo 40 (.bin .rem (tq 39) (.const (.sc (.int .i64 4)))),
   oo 41 (.bin .mul (tq 40) (.const (.sc (.int .i64 8)))),
   oo 42 (.bin .sub (.const (.sc (.int .i64 24))) (tq 41)),
   oo 43 (.bin .shr (tq 38) (tq 42)),
   oo 44 (.conv .u8 (tq 43)),
   oo 45 (.indexAddrA 32 1 (tq 6) (tq 34)),
   oz (.store 1 (tq 45) (tq 44))])))
 (.reg [oo 46 (.bin .add (tq 31) (.const (.sc (.int .i64 1)))),
   oo 31 (.move (tq 46) false)]))))
def zeR:CC:=(.seq (.reg [oo 20 (.bin .lss (tq 19) (tq 18))])
 (.seq (.cond (tq 20)
 .skip
 (.seq (.mask (bl 20 48) (bl 281474439839647 48))
 (.exit 0)))
 (.seq (.block 1 (.seq (.reg [oo 21 (.move (tq 19) false),
   oo 5 (.move (tq 21) false)])
 (.dreg [] [(oo 22 (.load true 8 (tq 4) false),{ q1 with root:=some 4 }),
   (oo 23 (.move (tq 3) false),q0),
   (oo 24 (.move (tq 5) false),q0),
   (oo 25 (.bin .mul (.const (.sc (.int .i64 64))) (tq 24)),q0),
   (oo 26 (.sliceS 1 (tq 23) (some (tq 25)) none none),q0),
   (oo 27 (.arrP 64 1 (tq 26)),q0),
   (oo 28 (.load true 64 (tq 27) false),q1),
   (oo 29 (.call 498 [((tq 22),0),((tq 28),0)] []),q0),
   (oz (.store 8 (tq 4) (tq 29)),q0)])))
 (.reg [oo 30 (.bin .add (tq 19) (.const (.sc (.int .i64 1)))),
   oo 19 (.move (tq 30) false)]))))
def zmn:CC:=(.seq (.reg [oo 47 (.load true 32 (tq 6) false),
   oz (.store 32 (tq 2) (tq 47))])
 .ret)
def zky:CC:=(.seq (.reg [oo 6 (.alloc true (rp 32 (.sc (.int .u8 0)) []))])
 (.seq (.seq (.reg [oo 31 (.move (.const (.sc (.int .i64 0))) false)])
 (.block 2 (.loop (bl 2147483732 48) (bl 281474976710527 48)
 zdD)))
 zmn))
def zdn:CF:=⟨48,[.cell 2 true 32],
 (.seq (.reg [oo 2 (.alloc true (rp 32 (.sc (.int .u8 0)) []))])
 (.seq (.reg [oo 8 (.move (tq 0) false),
   oo 9 (.move (tq 0) false),
   oo 10 (.lenS (tq 9)),
   oo 11 (.conv .u64 (tq 10)),
   oo 12 (.call 497 [((tq 11),0)] []),
   oo 13 (.buildSlice 1 2 [(.sl 1 [])] [(0,1,(tq 8)),(1,1,(tq 12))]),
   oo 14 (.call 496 [((tq 13),0)] []),
   oo 3 (.move (tq 14) true)])
 (.seq (.reg [oo 15 (.load true 8 (.const (.fp 8 gk_sha_initial)) false),
   oo 4 (.alloc true [(.sc (.int .u32 0)),(.sc (.int .u32 0)),(.sc (.int .u32 0)),(.sc (.int .u32 0)),(.sc (.int .u32 0)),(.sc (.int .u32 0)),(.sc (.int .u32 0)),(.sc (.int .u32 0))]),
   oz (.store 8 (tq 4) (tq 15))])
 (.seq (.seq (.reg [oo 16 (.move (tq 3) false),
   oo 17 (.lenS (tq 16)),
   oo 18 (.bin .quo (tq 17) (.const (.sc (.int .i64 64)))),
   oo 19 (.move (.const (.sc (.int .i64 0))) false)])
 (.block 0 (.loop (bl 786460 48) (bl 281474439839647 48)
 zeR)))
 zky))))⟩
def zuc:Hint:=⟨[(1,7)],[],[none,some ((bl 786460 48),(bl 281474439839647 48)),none,some ((bl 20 48),(bl 281474439839647 48)),none,none,some ((bl 2147483732 48),(bl 281474976710527 48)),none,some ((bl 68 48),(bl 281474976710511 48)),none,none],[],[],false,false⟩
def zaq:Nat→Sh:=xQ [(38,(.int .u32))]
def zat (zn:zaa) (xm:zab) (yg:yL) (L:Nat):CBC:=(xy 498 (zji yg L) (xy 496 (zqv xm L) (xy 497 (zqC zn L) noC)))
def zia:St→St:=zS 0 (bl 786460 48) (bl 281474439839647 48)
def zgj:St→St:=zS 0 (bl 2147483732 48) (bl 281474976710527 48)
def zfF (p3:List (List V)) (p18 p19:Int) (b2 b4:List V):St:=⟨(jn 2 ((V.ptr 2 0)::((V.gs 1 p3)::((V.ptr 4 0)::(jn 13 ((V.sc (.int .i64 p18))::((V.sc (.int .i64 p19))::(jn 28 [])))))))),(gn 2 ((.live true b2)::(gn 1 ((.live true b4)::(gn 43 [])))))⟩
def zkr (b2 b4:List V):St:=⟨(jn 2 ((V.ptr 2 0)::(jn 1 ((V.ptr 4 0)::(jn 43 []))))),(gn 2 ((.live true b2)::(gn 1 ((.live true b4)::(gn 43 [])))))⟩
def zef (p31:Int) (b2 b4 b6:List V):St:=⟨(jn 2 ((V.ptr 2 0)::(jn 1 ((V.ptr 4 0)::(jn 1 ((V.ptr 6 0)::(jn 24 ((V.sc (.int .i64 p31))::(jn 16 []))))))))),(gn 2 ((.live true b2)::(gn 1 ((.live true b4)::(gn 1 ((.live true b6)::(gn 41 [])))))))⟩
def zog (b2 b6:List V):St:=⟨(jn 2 ((V.ptr 2 0)::(jn 3 ((V.ptr 6 0)::(jn 41 []))))),(gn 2 ((.live true b2)::(gn 3 ((.live true b6)::(gn 41 [])))))⟩
def zuG {β:Type} (zn:zaa) (xm:zab) (yg:yL) (L:Nat) (p0:List (List V)) (k_hbbbaba:List (List V)→Int→Int→List V→List V→Option β):Option β :=
 lt (IntKind.wrap .u64 ((List.length p0:Nat):Int)) fun x0 =>
 zn β L x0 (fun v1 =>
 xm β L (yp 1 2 [(V.sl 1 p0),(V.sl 1 v1)]) (fun v2 =>
 chk ((List.length (List.take 8 gk_sha_initial))=8∧0+8≤8) (
 lt (zr [(V.sc (.int .u32 (0:Int))),(V.sc (.int .u32 (0:Int))),(V.sc (.int .u32 (0:Int))),(V.sc (.int .u32 (0:Int))),(V.sc (.int .u32 (0:Int))),(V.sc (.int .u32 (0:Int))),(V.sc (.int .u32 (0:Int))),(V.sc (.int .u32 (0:Int)))] 0 (List.take 8 gk_sha_initial)) fun r3 =>
 lt (IntKind.wrap .i64 (Int.tdiv ((List.length v2:Nat):Int) (64:Int))) fun x4 =>
 k_hbbbaba v2 x4 (0:Int) (List.replicate 32 (V.sc (.int .u8 (0:Int)))) r3))) (fun v5 =>
 xm β L (yp 1 2 [(V.sl 1 p0),(V.sl 1 v5)]) (fun v6 =>
 chk ((List.length (List.take 8 gk_sha_initial))=8∧0+8≤8) (
 lt (zr [(V.sc (.int .u32 (0:Int))),(V.sc (.int .u32 (0:Int))),(V.sc (.int .u32 (0:Int))),(V.sc (.int .u32 (0:Int))),(V.sc (.int .u32 (0:Int))),(V.sc (.int .u32 (0:Int))),(V.sc (.int .u32 (0:Int))),(V.sc (.int .u32 (0:Int)))] 0 (List.take 8 gk_sha_initial)) fun r7 =>
 lt (IntKind.wrap .i64 (Int.tdiv ((List.length v6:Nat):Int) (64:Int))) fun x8 =>
 k_hbbbaba v6 x8 (0:Int) (List.replicate 32 (V.sc (.int .u8 (0:Int)))) r7)))
theorem zBc {β:Type} (zn:zaa) (xm:zab) (yg:yL) (L:Nat) (p0:List (List V)) (k:KK β):zt zaq (zat zn xm yg L) L zdn [(V.sl 1 p0)] [] k=zuG zn xm yg L p0 (fun p3 p18 p19 b2 b4=>xq (xf zaq (zat zn xm yg L) 0 L zeR) zia L (zfF p3 p18 p19 b2 b4) (yn 0 (zy (xf zaq (zat zn xm yg L) 0 L zky) (yE 0 (CF.res zdn) k)))):=by kernel_rfl
def zfN {β:Type} (zn:zaa) (xm:zab) (yg:yL) (L:Nat) (p3:List (List V)) (p18 p19:Int) (b2 b4:List V) (k_hbbbaba:List (List V)→Int→Int→List V→List V→Option β) (k_x0:List V→List V→Option β):Option β :=
 ifb (decide (p19 < p18)) (
 chk (0+8≤(List.length b4)) (
 lt (IntKind.wrap .i64 (((64:Int):Int) * p19)) fun x9 =>
 chk (0≤x9∧x9≤(((List.length p3):Nat):Int)) (
 chk (64≤(List.length (List.take ((List.length p3) - (Int.toNat x9)) (List.drop (Int.toNat x9) p3)))) (
 yg β L (List.take 8 b4) (List.take 64 (List.flatten (List.take 64 (List.take ((List.length p3) - (Int.toNat x9)) (List.drop (Int.toNat x9) p3))))) (fun v10 =>
 chk ((List.length v10)=8∧0+8≤(List.length b4)) (
 lt (zr b4 0 v10) fun r11 =>
 lt (IntKind.wrap .i64 ((p19:Int)+(1:Int))) fun x12 =>
 k_hbbbaba p3 p18 x12 b2 r11)))))) (
 k_x0 b2 b4)
theorem zuE {β:Type} (zn:zaa) (xm:zab) (yg:yL) (L:Nat) (p3:List (List V)) (p18 p19:Int) (b2 b4:List V) (X:St→Option β) (K:KT β):xf zaq (zat zn xm yg L) 0 L zeR (zfF p3 p18 p19 b2 b4) (yN zia X K)=zfN zn xm yg L p3 p18 p19 b2 b4 (fun p3 p18 p19 b2 b4=>X (zfF p3 p18 p19 b2 b4)) (fun b2 b4=>K (.exit 0) (zkr b2 b4)):=by kernel_rfl
def zjR {β:Type} (zn:zaa) (xm:zab) (yg:yL) (L:Nat) (b2 b4:List V) (k_hbbbbbaba:Int→List V→List V→List V→Option β):Option β :=
 k_hbbbbbaba (0:Int) b2 b4 (List.replicate 32 (V.sc (.int .u8 (0:Int))))
theorem zsT {β:Type} (zn:zaa) (xm:zab) (yg:yL) (L:Nat) (b2 b4:List V) (k:KK β):(yn 0 (zy (xf zaq (zat zn xm yg L) 0 L zky) (yE 0 (CF.res zdn) k))) (.exit 0) (zkr b2 b4)=zjR zn xm yg L b2 b4 (fun p31 b2 b4 b6=>xq (xf zaq (zat zn xm yg L) 0 L zdD) zgj L (zef p31 b2 b4 b6) (yn 2 (zy (xf zaq (zat zn xm yg L) 0 L zmn) (yE 0 (CF.res zdn) k)))):=by kernel_rfl
def zd5 {β:Type} (zn:zaa) (xm:zab) (yg:yL) (L:Nat) (p31:Int) (b2 b4 b6:List V) (k_hbbbbbaba:Int→List V→List V→List V→Option β) (k_x2:List V→List V→Option β):Option β :=
 ifb (decide (p31 < (32:Int))) (
 lt (IntKind.wrap .i64 (Int.tdiv p31 (4:Int))) fun x13 =>
 chk (0≤x13∧x13 < ((8:Nat):Int)) (
 cI .u32 b4 (0+((Int.toNat x13) * 1)) fun v14 =>
 lt (Int.tmod p31 (4:Int)) fun x15 =>
 lt (IntKind.wrap .i64 ((x15:Int) * (8:Int))) fun x16 =>
 lt (IntKind.wrap .i64 (((24:Int):Int) - x16)) fun x17 =>
 chk (0≤x17) (
 lt (zcZ .u32 v14 x17) fun x18 =>
 lt (IntKind.wrap .u8 x18) fun x19 =>
 chk (0≤p31∧p31 < ((32:Nat):Int)) (
 chk (1=1∧(0+((Int.toNat p31) * 1))+1≤(List.length b6)) (
 lt (zr b6 (0+((Int.toNat p31) * 1)) [(V.sc (.int .u8 x19))]) fun r20 =>
 lt (IntKind.wrap .i64 ((p31:Int)+(1:Int))) fun x21 =>
 k_hbbbbbaba x21 b2 b4 r20))))) (
 k_x2 b2 b6)
theorem zs8 {β:Type} (zn:zaa) (xm:zab) (yg:yL) (L:Nat) (p31:Int) (b2 b4 b6:List V) (X:St→Option β) (K:KT β):xf zaq (zat zn xm yg L) 0 L zdD (zef p31 b2 b4 b6) (yN zgj X K)=zd5 zn xm yg L p31 b2 b4 b6 (fun p31 b2 b4 b6=>X (zef p31 b2 b4 b6)) (fun b2 b6=>K (.exit 2) (zog b2 b6)):=by kernel_rfl
def zhE {β:Type} (zn:zaa) (xm:zab) (yg:yL) (L:Nat) (b2 b6:List V) (k_fin:List V→Option β):Option β :=
 chk (0+32≤(List.length b6)) (
 chk ((List.length (List.take 32 b6))=32∧0+32≤(List.length b2)) (
 lt (zr b2 0 (List.take 32 b6)) fun r22 =>
 chk (0=0∧(List.length r22)=32∧32≠0) (
 k_fin r22)))
theorem zq6 {β:Type} (zn:zaa) (xm:zab) (yg:yL) (L:Nat) (b2 b6:List V) (k:KK β):(yn 2 (zy (xf zaq (zat zn xm yg L) 0 L zmn) (yE 0 (CF.res zdn) k))) (.exit 2) (zog b2 b6)=zhE zn xm yg L b2 b6 (fun p0=>k (V.agg p0) []):=by kernel_rfl
def zdT {β:Type} (zn:zaa) (xm:zab) (yg:yL) (L:Nat) (k_x0:List V→List V→Option β):Nat→List (List V)→Int→Int→List V→List V→Option β
 | 0,_,_,_,_,_=>none
 | n+1,p3,p18,p19,b2,b4=>zfN zn xm yg L p3 p18 p19 b2 b4 (fun p3 p18 p19 b2 b4=>zdT zn xm yg L k_x0 n p3 p18 p19 b2 b4) k_x0
theorem znS {β:Type} (zn:zaa) (xm:zab) (yg:yL) (L:Nat) (K:KT β):∀ (n:Nat) (p3:List (List V)) (p18 p19:Int) (b2 b4:List V),xq (xf zaq (zat zn xm yg L) 0 L zeR) zia n (zfF p3 p18 p19 b2 b4) K=zdT zn xm yg L (fun b2 b4=>K (.exit 0) (zkr b2 b4)) n p3 p18 p19 b2 b4:=by
 intro n
 induction n with
 | zero=>intros; rfl
 | succ n ih =>
  intro p3 p18 p19 b2 b4
  refine (zuE zn xm yg L p3 p18 p19 b2 b4 (fun σ=>xq (xf zaq (zat zn xm yg L) 0 L zeR) zia n σ K) K).trans ?_
  simp only [ih]
  rfl
def zcO {β:Type} (zn:zaa) (xm:zab) (yg:yL) (L:Nat) (k_x2:List V→List V→Option β):Nat→Int→List V→List V→List V→Option β
 | 0,_,_,_,_=>none
 | n+1,p31,b2,b4,b6=>zd5 zn xm yg L p31 b2 b4 b6 (fun p31 b2 b4 b6=>zcO zn xm yg L k_x2 n p31 b2 b4 b6) k_x2
theorem zms {β:Type} (zn:zaa) (xm:zab) (yg:yL) (L:Nat) (K:KT β):∀ (n:Nat) (p31:Int) (b2 b4 b6:List V),xq (xf zaq (zat zn xm yg L) 0 L zdD) zgj n (zef p31 b2 b4 b6) K=zcO zn xm yg L (fun b2 b6=>K (.exit 2) (zog b2 b6)) n p31 b2 b4 b6:=by
 intro n
 induction n with
 | zero=>intros; rfl
 | succ n ih =>
  intro p31 b2 b4 b6
  refine (zs8 zn xm yg L p31 b2 b4 b6 (fun σ=>xq (xf zaq (zat zn xm yg L) 0 L zdD) zgj n σ K) K).trans ?_
  simp only [ih]
  rfl
def zfy {β:Type} (zn:zaa) (xm:zab) (yg:yL) (L:Nat) (b2 b4:List V) (k_fin:List V→Option β):Option β :=
 zjR zn xm yg L b2 b4 (fun p31 b2 b4 b6=>zcO zn xm yg L (fun b2 b6=>zhE zn xm yg L b2 b6 k_fin) L p31 b2 b4 b6)
theorem zrq {β:Type} (zn:zaa) (xm:zab) (yg:yL) (L:Nat) (b2 b4:List V) (k:KK β):(yn 0 (zy (xf zaq (zat zn xm yg L) 0 L zky) (yE 0 (CF.res zdn) k))) (.exit 0) (zkr b2 b4)=zfy zn xm yg L b2 b4 (fun p0=>k (V.agg p0) []):=by
 refine (zsT zn xm yg L b2 b4 k).trans ?_
 unfold zfy
 first
  | (simp only [zms,zq6]; done)
  | (simp only [zms]; rfl)
def zqG {β:Type} (zn:zaa) (xm:zab) (yg:yL) (L:Nat) (p0:List (List V)) (k_fin:List V→Option β):Option β :=
 zuG zn xm yg L p0 (fun p3 p18 p19 b2 b4=>zdT zn xm yg L (fun b2 b4=>zfy zn xm yg L b2 b4 k_fin) L p3 p18 p19 b2 b4)
theorem zAP {β:Type} (zn:zaa) (xm:zab) (yg:yL) (L:Nat) (p0:List (List V)) (k:KK β):zt zaq (zat zn xm yg L) L zdn [(V.sl 1 p0)] [] k=zqG zn xm yg L p0 (fun p0=>k (V.agg p0) []):=by
 refine (zBc zn xm yg L p0 k).trans ?_
 unfold zqG
 first
  | (simp only [znS,zrq]; done)
  | (simp only [znS]; rfl)
abbrev zqf:=∀ (β:Type),Nat→List (List V)→(List V→Option β)→Option β
def zas (β:Type) (L:Nat) (p0:List (List V)) (k_fin:List V→Option β):Option β:=zqG zn xm yg L p0 k_fin
def zqd (zas:zqf) (L:Nat) (β:Type) (args:List V) (bor:Bor) (k:KK β):Option β:=match args,bor with
 | [a0],[]=>aL 1 a0 fun p0=>zas β L p0 (fun p0=>k (V.agg p0) [])
 | _,_=>none
theorem zAq (L:Nat) (β:Type) (args:List V) (bor:Bor) (k:KK β) (r:β) (h:zqd zas L β args bor k=some r):zt zaq (zat zn xm yg L) L zdn args bor k=some r:=by
 unfold zqd at h
 split at h
 ·have q:=za2 h; clear h; obtain ⟨p0,rfl,h⟩:=q
  exact (zAP zn xm yg L p0 k).trans h
 ·cases h
def zkk:CF:=⟨8,[.cell 2 true 32],
 (.seq (.reg [oo 2 (.alloc true (rp 32 (.sc (.int .u8 0)) []))])
 (.seq (.reg [oo 4 (.move (tq 0) false),
   oo 5 (.call 458 [((tq 4),0)] []),
   oo 3 (.alloc true (rp 32 (.sc (.int .u8 0)) [])),
   oz (.store 32 (tq 3) (tq 5))])
 (.seq (.reg [oo 6 (.sliceA 32 1 (tq 3) none none none),
   oo 7 (.call 458 [((tq 6),0)] []),
   oz (.store 32 (tq 2) (tq 7))])
 .ret)))⟩
def zqg:Hint:=⟨[],[],[none],[],[],false,false⟩
def zn0:Nat→Sh:=xQ []
def znX (zas:zqf) (L:Nat):CBC:=(xy 458 (zqd zas L) noC)
def zpH {β:Type} (zas:zqf) (L:Nat) (p0:List (List V)) (k_fin:List V→Option β):Option β :=
 zas β L p0 (fun v0 =>
 chk ((List.length v0)=32∧0+32≤32) (
 lt (zr (List.replicate 32 (V.sc (.int .u8 (0:Int)))) 0 v0) fun r1 =>
 chk (0+32 * 1≤(List.length r1)) (
 ifb (List.isEmpty r1) (
 zas β L (yp 1 32 r1) (fun v2 =>
 chk ((List.length v2)=32∧0+32≤32) (
 lt (zr (List.replicate 32 (V.sc (.int .u8 (0:Int)))) 0 v2) fun r3 =>
 chk (0=0∧(List.length r3)=32∧32≠0) (
 k_fin r3)))) (
 zas β L (yp 1 32 r1) (fun v4 =>
 chk ((List.length v4)=32∧0+32≤32) (
 lt (zr (List.replicate 32 (V.sc (.int .u8 (0:Int)))) 0 v4) fun r5 =>
 chk (0=0∧(List.length r5)=32∧32≠0) (
 k_fin r5)))))))
theorem zxc {β:Type} (zas:zqf) (L:Nat) (p0:List (List V)) (k:KK β):zt zn0 (znX zas L) L zkk [(V.sl 1 p0)] [] k=zpH zas L p0 (fun p0=>k (V.agg p0) []):=by kernel_rfl
abbrev zmk:=∀ (β:Type),Nat→List (List V)→(List V→Option β)→Option β
def yV (β:Type) (L:Nat) (p0:List (List V)) (k_fin:List V→Option β):Option β:=zpH zas L p0 k_fin
def zlt (yV:zmk) (L:Nat) (β:Type) (args:List V) (bor:Bor) (k:KK β):Option β:=match args,bor with
 | [a0],[]=>aL 1 a0 fun p0=>yV β L p0 (fun p0=>k (V.agg p0) [])
 | _,_=>none
theorem zwI (L:Nat) (β:Type) (args:List V) (bor:Bor) (k:KK β) (r:β) (h:zlt yV L β args bor k=some r):zt zn0 (znX zas L) L zkk args bor k=some r:=by
 unfold zlt at h
 split at h
 ·have q:=za2 h; clear h; obtain ⟨p0,rfl,h⟩:=q
  exact (zxc zas L p0 k).trans h
 ·cases h
def zml:CF:=⟨18,[.cell 4 true 32],
 (.seq (.reg [oo 2 (.box true (tq 0)),
   oo 4 (.alloc true (rp 32 (.sc (.int .u8 0)) []))])
 (.seq (.reg [oo 8 (.load true 4 (tq 2) false),
   oo 9 (.move (tq 1) false),
   oo 10 (.call 128 [((tq 8),1),((tq 9),0)] []),
   oo 7 (.move (tq 10) true),
   oo 11 (.extract (tq 7) 0),
   oo 12 (.pull (tq 7) 1),
   oo 5 (.move (tq 11) false),
   oo 6 (.move (tq 12) false)])
 (.seq (.seq (.reg [oo 13 (.move (tq 6) false),
   oo 14 (.bin .neq (tq 13) (.const (.sc (.int .i64 0))))])
 (.cond (tq 14)
 (.seq (.reg [oo 15 (.build (rp 32 (.sc (.int .u8 0)) []) []),
   oz (.store 32 (tq 4) (tq 15))])
 .ret)
 .skip))
 (.seq (.reg [oo 16 (.move (tq 5) false),
   oo 17 (.call 501 [((tq 16),0)] []),
   oz (.store 32 (tq 4) (tq 17))])
 .ret))))⟩
def zry:Hint:=⟨[(0,0),(1,3),(1,4)],[],[none,none,none],[],[],false,false⟩
def zpy:Nat→Sh:=xQ []
def zpU (zH:zf2) (yV:zmk) (L:Nat):CBC:=(xy 501 (zlt yV L) (xy 128 (zj7 zH L) noC))
def zqV {β:Type} (zH:zf2) (yV:zmk) (L:Nat) (p0:List V) (p1:Bool) (k_fin:List V→Option β):Option β :=
 chk (0+4≤(List.length p0)) (
 zH β L (List.map V.dem (List.take 4 p0)) p1 (fun v0 v1 =>
 ifb ((v1:Int) != (0:Int)) (
 lt (List.replicate 32 (V.sc (.int .u8 (0:Int)))) fun r2 =>
 chk (0=0∧(List.length r2)=32∧32≠0) (
 k_fin r2)) (
 yV β L v0 (fun v3 =>
 chk ((List.length v3)=32∧0+32≤32) (
 lt (zr (List.replicate 32 (V.sc (.int .u8 (0:Int)))) 0 v3) fun r4 =>
 chk (0=0∧(List.length r4)=32∧32≠0) (
 k_fin r4))))))
theorem zx7 {β:Type} (zH:zf2) (yV:zmk) (L:Nat) (p0:List V) (p1:Bool) (k:KK β):zt zpy (zpU zH yV L) L zml [(V.agg p0),(V.sc (.bool p1))] [] k=zqV zH yV L p0 p1 (fun p0=>k (V.agg p0) []):=by kernel_rfl
abbrev zfW:=∀ (β:Type),Nat→List V→Bool→(List V→Option β)→Option β
def yH (β:Type) (L:Nat) (p0:List V) (p1:Bool) (k_fin:List V→Option β):Option β:=zqV zH yV L p0 p1 k_fin
def zj6 (yH:zfW) (L:Nat) (β:Type) (args:List V) (bor:Bor) (k:KK β):Option β:=match args,bor with
 | [a0,a1],[]=>aG a0 fun p0=>aB a1 fun p1=>yH β L p0 p1 (fun p0=>k (V.agg p0) [])
 | _,_=>none
theorem zyi (L:Nat) (β:Type) (args:List V) (bor:Bor) (k:KK β) (r:β) (h:zj6 yH L β args bor k=some r):zt zpy (zpU zH yV L) L zml args bor k=some r:=by
 unfold zj6 at h
 split at h
 ·have q:=zaj h; clear h; obtain ⟨p0,rfl,h⟩:=q
  have q:=zlA h; clear h; obtain ⟨p1,rfl,h⟩:=q
  exact (zx7 zH yV L p0 p1 k).trans h
 ·cases h
def zsB:CF:=⟨5,[.cell 2 true 32],
 (.seq (.reg [oo 1 (.box true (tq 0)),
   oo 2 (.alloc true (rp 32 (.sc (.int .u8 0)) []))])
 (.seq (.reg [oo 3 (.load true 4 (tq 1) false),
   oo 4 (.call 583 [((tq 3),1),((.const (.sc (.bool false))),0)] []),
   oz (.store 32 (tq 2) (tq 4))])
 .ret))⟩
def zxJ:Hint:=⟨[(0,0)],[],[none],[],[],false,false⟩
def zwt:Nat→Sh:=xQ []
def zww (yH:zfW) (L:Nat):CBC:=(xy 583 (zj6 yH L) noC)
def zyu {β:Type} (yH:zfW) (L:Nat) (p0:List V) (k_fin:List V→Option β):Option β :=
 chk (0+4≤(List.length p0)) (
 yH β L (List.map V.dem (List.take 4 p0)) false (fun v0 =>
 chk ((List.length v0)=32∧0+32≤32) (
 lt (zr (List.replicate 32 (V.sc (.int .u8 (0:Int)))) 0 v0) fun r1 =>
 chk (0=0∧(List.length r1)=32∧32≠0) (
 k_fin r1))))
theorem zCR {β:Type} (yH:zfW) (L:Nat) (p0:List V) (k:KK β):zt zwt (zww yH L) L zsB [(V.agg p0)] [] k=zyu yH L p0 (fun p0=>k (V.agg p0) []):=by kernel_rfl
abbrev zu8:=∀ (β:Type),Nat→List V→(List V→Option β)→Option β
def zcj (β:Type) (L:Nat) (p0:List V) (k_fin:List V→Option β):Option β:=zyu yH L p0 k_fin
def zvf (zcj:zu8) (L:Nat) (β:Type) (args:List V) (bor:Bor) (k:KK β):Option β:=match args,bor with
 | [a0],[]=>aG a0 fun p0=>zcj β L p0 (fun p0=>k (V.agg p0) [])
 | _,_=>none
theorem zC3 (L:Nat) (β:Type) (args:List V) (bor:Bor) (k:KK β) (r:β) (h:zvf zcj L β args bor k=some r):zt zwt (zww yH L) L zsB args bor k=some r:=by
 unfold zvf at h
 split at h
 ·have q:=zaj h; clear h; obtain ⟨p0,rfl,h⟩:=q
  exact (zCR yH L p0 k).trans h
 ·cases h
def zcD:CC:=(.seq (.reg [oo 12 (.bin .lss (tq 11) (tq 10))])
 (.seq (.cond (tq 12)
 .skip
 (.seq (.mask (bl 32 24) (bl 16777151 24))
 (.exit 0)))
 (.seq (.block 1 (.seq (.reg [oo 13 (.move (tq 11) false),
   oo 6 (.move (tq 13) false)])
 (.reg [oo 14 (.move (tq 5) false),
   oo 15 (.move (tq 6) false),
   oo 16 (.move (tq 0) false),
   oo 17 (.move (tq 6) false),
   oo 18 (.bin .mul (.const (.sc (.int .i64 8))) (tq 17)),
   oo 19 (.bin .shr (tq 16) (tq 18)),
   oo 20 (.conv .u8 (tq 19)),
   oo 21 (.indexAddrS 1 (tq 14) (tq 15)),
   oz (.store 1 (tq 21) (tq 20))])))
 (.reg [oo 22 (.bin .add (tq 11) (.const (.sc (.int .i64 1)))),
   oo 11 (.move (tq 22) false)]))))
def zjE:CC:=(.seq (.reg [oo 23 (.move (tq 5) true),
   oo 4 (.move (tq 23) true)])
 .ret)
def zcM:CF:=⟨24,[.tmp 4],
 (.seq (.reg [oo 4 (.move (.const (.gs 1 [])) true)])
 (.seq (.reg [oo 7 (.move (tq 1) false),
   ⟨(some 8),true,none,.makeSlice 1 1 [(.sc (.int .u8 0))] (tq 7) (tq 7)⟩,
   oo 5 (.move (tq 8) true)])
 (.seq (.seq (.reg [oo 9 (.move (tq 5) false),
   oo 10 (.lenS (tq 9)),
   oo 11 (.move (.const (.sc (.int .i64 0))) false)])
 (.block 0 (.loop (bl 3105 24) (bl 16777151 24)
 zcD)))
 zjE)))⟩
def zot:Hint:=⟨[(0,0),(1,2),(7,0),(7,1)],[(1,1)],[none,some ((bl 3105 24),(bl 16777151 24)),none,some ((bl 32 24),(bl 16777151 24)),none,none],[],[],false,false⟩
def zaO:Nat→Sh:=xQ []
def zaL (L:Nat):CBC:=noC
def ze4:St→St:=zS 0 (bl 3105 24) (bl 16777151 24)
def zdt (p0:Int) (p5l:Nat) (p10 p11:Int) (b8:List V):St:=⟨((V.sc (.int .u64 p0))::(jn 4 ((V.own 8 0 p5l 1)::(jn 4 ((V.sc (.int .i64 p10))::((V.sc (.int .i64 p11))::(jn 12 []))))))),(gn 8 ((.live true b8)::(gn 15 [])))⟩
def zi7 (p5l:Nat) (b8:List V):St:=⟨(jn 5 ((V.own 8 0 p5l 1)::(jn 18 []))),(gn 8 ((.live true b8)::(gn 15 [])))⟩
def zrM {β:Type} (L:Nat) (p0 p1:Int) (k_hbbaba:Int→Nat→Int→Int→List V→Option β):Option β :=
 chk (0≤p1∧p1≤p1∧(Int.toNat p1) * 1≤yl∧p1≤yl) (
 k_hbbaba p0 (Int.toNat p1) (((Int.toNat p1):Nat):Int) (0:Int) (List.flatten (List.replicate (Int.toNat p1) [(V.sc (.int .u8 (0:Int)))])))
theorem zvG {β:Type} (L:Nat) (p0 p1:Int) (k:KK β):zt zaO (zaL L) L zcM [(V.sc (.int .u64 p0)),(V.sc (.int .i64 p1))] [] k=zrM L p0 p1 (fun p0 p5l p10 p11 b8=>xq (xf zaO (zaL L) 0 L zcD) ze4 L (zdt p0 p5l p10 p11 b8) (yn 0 (zy (xf zaO (zaL L) 0 L zjE) (yE 0 (CF.res zcM) k)))):=by kernel_rfl
def zmv {β:Type} (L:Nat) (p0:Int) (p5l:Nat) (p10 p11:Int) (b8:List V) (k_hbbaba:Int→Nat→Int→Int→List V→Option β) (k_x0:Nat→List V→Option β):Option β :=
 ifb (decide (p11 < p10)) (
 lt (IntKind.wrap .i64 (((8:Int):Int) * p11)) fun x0 =>
 chk (0≤x0) (
 lt (zcZ .u64 p0 x0) fun x1 =>
 lt (IntKind.wrap .u8 x1) fun x2 =>
 chk (0≤p11∧p11 < ((p5l:Nat):Int)) (
 chk (1=1∧(0+((Int.toNat p11) * 1))+1≤(List.length b8)) (
 lt (zr b8 (0+((Int.toNat p11) * 1)) [(V.sc (.int .u8 x2))]) fun r3 =>
 lt (IntKind.wrap .i64 ((p11:Int)+(1:Int))) fun x4 =>
 k_hbbaba p0 p5l p10 x4 r3)))) (
 k_x0 p5l b8)
theorem zro {β:Type} (L:Nat) (p0:Int) (p5l:Nat) (p10 p11:Int) (b8:List V) (X:St→Option β) (K:KT β):xf zaO (zaL L) 0 L zcD (zdt p0 p5l p10 p11 b8) (yN ze4 X K)=zmv L p0 p5l p10 p11 b8 (fun p0 p5l p10 p11 b8=>X (zdt p0 p5l p10 p11 b8)) (fun p5l b8=>K (.exit 0) (zi7 p5l b8)):=by kernel_rfl
def zkU {β:Type} (L:Nat) (p5l:Nat) (b8:List V) (k_fin:List (List V)→Option β):Option β :=
 chk (p5l≠0∨(List.length b8)=0) (
 k_fin (yp 1 p5l b8))
theorem zpv {β:Type} (L:Nat) (p5l:Nat) (b8:List V) (k:KK β):(yn 0 (zy (xf zaO (zaL L) 0 L zjE) (yE 0 (CF.res zcM) k))) (.exit 0) (zi7 p5l b8)=zkU L p5l b8 (fun p0=>k (V.fr 1 p0) []):=by kernel_rfl
def zhG {β:Type} (L:Nat) (k_x0:Nat→List V→Option β):Nat→Int→Nat→Int→Int→List V→Option β
 | 0,_,_,_,_,_=>none
 | n+1,p0,p5l,p10,p11,b8=>zmv L p0 p5l p10 p11 b8 (fun p0 p5l p10 p11 b8=>zhG L k_x0 n p0 p5l p10 p11 b8) k_x0
theorem zkd {β:Type} (L:Nat) (K:KT β):∀ (n:Nat) (p0:Int) (p5l:Nat) (p10 p11:Int) (b8:List V),xq (xf zaO (zaL L) 0 L zcD) ze4 n (zdt p0 p5l p10 p11 b8) K=zhG L (fun p5l b8=>K (.exit 0) (zi7 p5l b8)) n p0 p5l p10 p11 b8:=by
 intro n
 induction n with
 | zero=>intros; rfl
 | succ n ih =>
  intro p0 p5l p10 p11 b8
  refine (zro L p0 p5l p10 p11 b8 (fun σ=>xq (xf zaO (zaL L) 0 L zcD) ze4 n σ K) K).trans ?_
  simp only [ih]
  rfl
def zm2 {β:Type} (L:Nat) (p0 p1:Int) (k_fin:List (List V)→Option β):Option β :=
 zrM L p0 p1 (fun p0 p5l p10 p11 b8=>zhG L (fun p5l b8=>zkU L p5l b8 k_fin) L p0 p5l p10 p11 b8)
theorem zvt {β:Type} (L:Nat) (p0 p1:Int) (k:KK β):zt zaO (zaL L) L zcM [(V.sc (.int .u64 p0)),(V.sc (.int .i64 p1))] [] k=zm2 L p0 p1 (fun p0=>k (V.fr 1 p0) []):=by
 refine (zvG L p0 p1 k).trans ?_
 unfold zm2
 first
  | (simp only [zkd,zpv]; done)
  | (simp only [zkd]; rfl)
abbrev za9:=∀ (β:Type),Nat→Int→Int→(List (List V)→Option β)→Option β
def xl (β:Type) (L:Nat) (p0 p1:Int) (k_fin:List (List V)→Option β):Option β:=zm2 L p0 p1 k_fin
def zeF (xl:za9) (L:Nat) (β:Type) (args:List V) (bor:Bor) (k:KK β):Option β:=match args,bor with
 | [a0,a1],[]=>aI .u64 a0 fun p0=>aI .i64 a1 fun p1=>xl β L p0 p1 (fun p0=>k (V.fr 1 p0) [])
 | _,_=>none
theorem zvz (L:Nat) (β:Type) (args:List V) (bor:Bor) (k:KK β) (r:β) (h:zeF xl L β args bor k=some r):zt zaO (zaL L) L zcM args bor k=some r:=by
 unfold zeF at h
 split at h
 ·have q:=zbt h; clear h; obtain ⟨p0,rfl,h⟩:=q
  have q:=zbt h; clear h; obtain ⟨p1,rfl,h⟩:=q
  exact (zvt L p0 p1 k).trans h
 ·cases h
def zh7:CF:=⟨17,[.tmp 4],
 (.seq (.reg [oo 4 (.move (.const (.gs 1 [])) true)])
 (.seq (.reg [oo 6 (.move (tq 0) false),
   oo 7 (.lenS (tq 6)),
   oo 8 (.move (tq 1) false),
   oo 9 (.lenS (tq 8)),
   oo 10 (.bin .add (tq 7) (tq 9)),
   oo 11 (.makeSlice 1 1 [(.sc (.int .u8 0))] (.const (.sc (.int .i64 0))) (tq 10)),
   oo 5 (.move (tq 11) true)])
 (.seq (.reg [oo 12 (.move (tq 5) true),
   oo 13 (.move (tq 0) false),
   oo 14 (.append 1 1 (tq 12) (tq 13)),
   oo 15 (.move (tq 1) false),
   oo 16 (.append 1 1 (tq 14) (tq 15)),
   oo 4 (.move (tq 16) true)])
 .ret)))⟩
def zow:Hint:=⟨[(0,0),(1,6),(2,0),(2,5)],[],[none],[],[],false,false⟩
def zlK:Nat→Sh:=xQ []
def zlM (L:Nat):CBC:=noC
def zmZ {β:Type} (L:Nat) (p0 p1:List (List V)) (k_fin:List (List V)→Option β):Option β :=
 lt (IntKind.wrap .i64 ((((List.length p0:Nat):Int):Int)+((List.length p1:Nat):Int))) fun x0 =>
 chk (0≤(0:Int)∧(0:Int)≤x0∧(Int.toNat x0) * 1≤yl∧x0≤yl) (
 chk ((List.length (List.replicate 0 [(V.sc (.int .u8 (0:Int)))])+List.length p0) * 1≤yl∧List.length (List.replicate 0 [(V.sc (.int .u8 (0:Int)))])+List.length p0≤yl) (
 lt ((List.replicate 0 [(V.sc (.int .u8 (0:Int)))])++p0) fun l1 =>
 chk ((List.length l1+List.length p1) * 1≤yl∧List.length l1+List.length p1≤yl) (
 lt (l1++p1) fun l2 =>
 k_fin l2)))
theorem zvk {β:Type} (L:Nat) (p0 p1:List (List V)) (k:KK β):zt zlK (zlM L) L zh7 [(V.sl 1 p0),(V.sl 1 p1)] [] k=zmZ L p0 p1 (fun p0=>k (V.gs 1 p0) []):=by kernel_rfl
abbrev yQ:=∀ (β:Type),Nat→List (List V)→List (List V)→(List (List V)→Option β)→Option β
def xg (β:Type) (L:Nat) (p0 p1:List (List V)) (k_fin:List (List V)→Option β):Option β:=zmZ L p0 p1 k_fin
def zch (xg:yQ) (L:Nat) (β:Type) (args:List V) (bor:Bor) (k:KK β):Option β:=match args,bor with
 | [a0,a1],[]=>aL 1 a0 fun p0=>aL 1 a1 fun p1=>xg β L p0 p1 (fun p0=>k (V.gs 1 p0) [])
 | _,_=>none
theorem zvN (L:Nat) (β:Type) (args:List V) (bor:Bor) (k:KK β) (r:β) (h:zch xg L β args bor k=some r):zt zlK (zlM L) L zh7 args bor k=some r:=by
 unfold zch at h
 split at h
 ·have q:=za2 h; clear h; obtain ⟨p0,rfl,h⟩:=q
  have q:=za2 h; clear h; obtain ⟨p1,rfl,h⟩:=q
  exact (zvk L p0 p1 k).trans h
 ·cases h
def zfg:CF:=⟨10,[.tmp 4],
 (.seq (.reg [oo 4 (.move (.const (.gs 1 [])) true)])
 (.seq (.reg [oo 5 (.move (tq 0) false),
   oo 6 (.move (tq 1) false),
   oo 7 (.conv .u64 (tq 6)),
   oo 8 (.call 194 [((tq 7),0),((.const (.sc (.int .i64 4))),0)] []),
   oo 9 (.call 193 [((tq 5),0),((tq 8),0)] []),
   oo 4 (.move (tq 9) true)])
 .ret))⟩
def zlx:Hint:=⟨[(0,0),(1,5)],[],[none],[],[],false,false⟩
def zi5:Nat→Sh:=xQ []
def ziI (xl:za9) (xg:yQ) (L:Nat):CBC:=(xy 193 (zch xg L) (xy 194 (zeF xl L) noC))
def zjL {β:Type} (xl:za9) (xg:yQ) (L:Nat) (p0:List (List V)) (p1:Int) (k_fin:List (List V)→Option β):Option β :=
 lt (IntKind.wrap .u64 p1) fun x0 =>
 xl β L x0 (4:Int) (fun v1 =>
 xg β L p0 v1 (fun v2 =>
 k_fin v2))
theorem zsO {β:Type} (xl:za9) (xg:yQ) (L:Nat) (p0:List (List V)) (p1:Int) (k:KK β):zt zi5 (ziI xl xg L) L zfg [(V.sl 1 p0),(V.sc (.int .u32 p1))] [] k=zjL xl xg L p0 p1 (fun p0=>k (V.gs 1 p0) []):=by kernel_rfl
abbrev ym:=∀ (β:Type),Nat→List (List V)→Int→(List (List V)→Option β)→Option β
def xb (β:Type) (L:Nat) (p0:List (List V)) (p1:Int) (k_fin:List (List V)→Option β):Option β:=zjL xl xg L p0 p1 k_fin
def zea (xb:ym) (L:Nat) (β:Type) (args:List V) (bor:Bor) (k:KK β):Option β:=match args,bor with
 | [a0,a1],[]=>aL 1 a0 fun p0=>aI .u32 a1 fun p1=>xb β L p0 p1 (fun p0=>k (V.gs 1 p0) [])
 | _,_=>none
theorem zsK (L:Nat) (β:Type) (args:List V) (bor:Bor) (k:KK β) (r:β) (h:zea xb L β args bor k=some r):zt zi5 (ziI xl xg L) L zfg args bor k=some r:=by
 unfold zea at h
 split at h
 ·have q:=za2 h; clear h; obtain ⟨p0,rfl,h⟩:=q
  have q:=zbt h; clear h; obtain ⟨p1,rfl,h⟩:=q
  exact (zsO xl xg L p0 p1 k).trans h
 ·cases h
def ze8:CF:=⟨36,[.tmp 4],
 (.seq (.reg [oo 4 (.move (.const (.gs 1 [])) true)])
 (.seq (.block 0 (.seq (.reg [oo 6 (.move (tq 1) false),
   oo 7 (.bin .lss (tq 6) (.const (.sc (.int .u64 253)))),
   oo 5 (.move (tq 7) false)])
 (.cond (tq 5)
 (.seq (.reg [oo 8 (.move (tq 0) false),
   oo 9 (.move (tq 1) false),
   oo 10 (.call 194 [((tq 9),0),((.const (.sc (.int .i64 1))),0)] []),
   oo 11 (.call 193 [((tq 8),0),((tq 10),0)] []),
   oo 4 (.move (tq 11) true)])
 .ret)
 (.seq (.reg [oo 13 (.move (tq 1) false),
   oo 14 (.bin .lss (tq 13) (.const (.sc (.int .u64 65536)))),
   oo 12 (.move (tq 14) false)])
 (.cond (tq 12)
 (.seq (.reg [oo 15 (.move (tq 0) false),
   oo 16 (.buildSlice 1 1 [(.sc (.int .u8 0))] [(0,1,(.const (.sc (.int .u8 253))))]),
   oo 17 (.move (tq 1) false),
   oo 18 (.call 194 [((tq 17),0),((.const (.sc (.int .i64 2))),0)] []),
   oo 19 (.call 193 [((tq 16),0),((tq 18),0)] []),
   oo 20 (.call 193 [((tq 15),0),((tq 19),0)] []),
   oo 4 (.move (tq 20) true)])
 .ret)
 (.seq (.reg [oo 22 (.move (tq 1) false),
   oo 23 (.bin .lss (tq 22) (.const (.sc (.int .u64 4294967296)))),
   oo 21 (.move (tq 23) false)])
 (.cond (tq 21)
 (.seq (.reg [oo 24 (.move (tq 0) false),
   oo 25 (.buildSlice 1 1 [(.sc (.int .u8 0))] [(0,1,(.const (.sc (.int .u8 254))))]),
   oo 26 (.move (tq 1) false),
   oo 27 (.call 194 [((tq 26),0),((.const (.sc (.int .i64 4))),0)] []),
   oo 28 (.call 193 [((tq 25),0),((tq 27),0)] []),
   oo 29 (.call 193 [((tq 24),0),((tq 28),0)] []),
   oo 4 (.move (tq 29) true)])
 .ret)
 .skip)))))))
 (.seq (.reg [oo 30 (.move (tq 0) false),
   oo 31 (.buildSlice 1 1 [(.sc (.int .u8 0))] [(0,1,(.const (.sc (.int .u8 255))))]),
   oo 32 (.move (tq 1) false),
   oo 33 (.call 194 [((tq 32),0),((.const (.sc (.int .i64 8))),0)] []),
   oo 34 (.call 193 [((tq 31),0),((tq 33),0)] []),
   oo 35 (.call 193 [((tq 30),0),((tq 34),0)] []),
   oo 4 (.move (tq 35) true)])
 .ret)))⟩
def zk3:Hint:=⟨[(0,0),(2,4),(4,6),(6,6),(7,6)],[],[none,none,none,none,none,none,none,none],[],[],false,false⟩
def zhT:Nat→Sh:=xQ []
def zhP (xl:za9) (xg:yQ) (L:Nat):CBC:=(xy 193 (zch xg L) (xy 194 (zeF xl L) noC))
def zjd {β:Type} (xl:za9) (xg:yQ) (L:Nat) (p0:List (List V)) (p1:Int) (k_fin:List (List V)→Option β):Option β :=
 ifb (decide (p1 < (253:Int))) (
 xl β L p1 (1:Int) (fun v0 =>
 xg β L p0 v0 (fun v1 =>
 k_fin v1))) (
 ifb (decide (p1 < (65536:Int))) (
 xl β L p1 (2:Int) (fun v2 =>
 xg β L (yp 1 1 [(V.sc (.int .u8 (253:Int)))]) v2 (fun v3 =>
 xg β L p0 v3 (fun v4 =>
 k_fin v4)))) (
 ifb (decide (p1 < (4294967296:Int))) (
 xl β L p1 (4:Int) (fun v5 =>
 xg β L (yp 1 1 [(V.sc (.int .u8 (254:Int)))]) v5 (fun v6 =>
 xg β L p0 v6 (fun v7 =>
 k_fin v7)))) (
 xl β L p1 (8:Int) (fun v8 =>
 xg β L (yp 1 1 [(V.sc (.int .u8 (255:Int)))]) v8 (fun v9 =>
 xg β L p0 v9 (fun v10 =>
 k_fin v10))))))
theorem zr8 {β:Type} (xl:za9) (xg:yQ) (L:Nat) (p0:List (List V)) (p1:Int) (k:KK β):zt zhT (zhP xl xg L) L ze8 [(V.sl 1 p0),(V.sc (.int .u64 p1))] [] k=zjd xl xg L p0 p1 (fun p0=>k (V.gs 1 p0) []):=by kernel_rfl
abbrev zk:=∀ (β:Type),Nat→List (List V)→Int→(List (List V)→Option β)→Option β
def xa (β:Type) (L:Nat) (p0:List (List V)) (p1:Int) (k_fin:List (List V)→Option β):Option β:=zjd xl xg L p0 p1 k_fin
def zdL (xa:zk) (L:Nat) (β:Type) (args:List V) (bor:Bor) (k:KK β):Option β:=match args,bor with
 | [a0,a1],[]=>aL 1 a0 fun p0=>aI .u64 a1 fun p1=>xa β L p0 p1 (fun p0=>k (V.gs 1 p0) [])
 | _,_=>none
theorem zr7 (L:Nat) (β:Type) (args:List V) (bor:Bor) (k:KK β) (r:β) (h:zdL xa L β args bor k=some r):zt zhT (zhP xl xg L) L ze8 args bor k=some r:=by
 unfold zdL at h
 split at h
 ·have q:=za2 h; clear h; obtain ⟨p0,rfl,h⟩:=q
  have q:=zbt h; clear h; obtain ⟨p1,rfl,h⟩:=q
  exact (zr8 xl xg L p0 p1 k).trans h
 ·cases h
def zfa:CF:=⟨8,[.tmp 4],
 (.seq (.reg [oo 3 (.box true (tq 1)),
   oo 4 (.move (.const (.gs 1 [])) true)])
 (.seq (.reg [oo 5 (.move (tq 0) false),
   oo 6 (.sliceA 32 1 (tq 3) none none none),
   oo 7 (.call 193 [((tq 5),0),((tq 6),0)] []),
   oo 4 (.move (tq 7) true)])
 .ret))⟩
def zkW:Hint:=⟨[(0,1),(1,3)],[],[none],[],[],false,false⟩
def zhM:Nat→Sh:=xQ []
def zhR (xg:yQ) (L:Nat):CBC:=(xy 193 (zch xg L) noC)
def zi0 {β:Type} (xg:yQ) (L:Nat) (p0:List (List V)) (p1:List V) (k_fin:List (List V)→Option β):Option β :=
 chk (0+32 * 1≤(List.length p1)) (
 ifb (List.isEmpty p1) (
 xg β L p0 (yp 1 32 p1) (fun v0 =>
 k_fin v0)) (
 xg β L p0 (yp 1 32 p1) (fun v1 =>
 k_fin v1)))
theorem zrQ {β:Type} (xg:yQ) (L:Nat) (p0:List (List V)) (p1:List V) (k:KK β):zt zhM (zhR xg L) L zfa [(V.sl 1 p0),(V.agg p1)] [] k=zi0 xg L p0 p1 (fun p0=>k (V.gs 1 p0) []):=by kernel_rfl
abbrev zfs:=∀ (β:Type),Nat→List (List V)→List V→(List (List V)→Option β)→Option β
def yJ (β:Type) (L:Nat) (p0:List (List V)) (p1:List V) (k_fin:List (List V)→Option β):Option β:=zi0 xg L p0 p1 k_fin
def zfD (yJ:zfs) (L:Nat) (β:Type) (args:List V) (bor:Bor) (k:KK β):Option β:=match args,bor with
 | [a0,a1],[]=>aL 1 a0 fun p0=>aG a1 fun p1=>yJ β L p0 p1 (fun p0=>k (V.gs 1 p0) [])
 | _,_=>none
theorem zrz (L:Nat) (β:Type) (args:List V) (bor:Bor) (k:KK β) (r:β) (h:zfD yJ L β args bor k=some r):zt zhM (zhR xg L) L zfa args bor k=some r:=by
 unfold zfD at h
 split at h
 ·have q:=za2 h; clear h; obtain ⟨p0,rfl,h⟩:=q
  have q:=zaj h; clear h; obtain ⟨p1,rfl,h⟩:=q
  exact (zrQ xg L p0 p1 k).trans h
 ·cases h
def zjA:CF:=⟨9,[.tmp 2],
 (.seq (.reg [oo 1 (.box true (tq 0)),
   oo 2 (.move (.const (.gs 1 [])) true)])
 (.seq (.dreg [] [(oo 3 (.fieldAddr 0 (tq 1)),q0),
   (oo 4 (.load true 32 (tq 3) false),ql 1 [] []),
   (oo 5 (.call 160 [((.const (.gs 1 [])),0),((tq 4),0)] []),qc [1] []),
   (oo 6 (.fieldAddr 32 (tq 1)),q0),
   (oo 7 (.load false 1 (tq 6) false),ql 1 [] []),
   (oo 8 (.call 159 [((tq 5),0),((tq 7),0)] []),q0),
   (oo 2 (.move (tq 8) true),q0)])
 .ret))⟩
def zpQ:Hint:=⟨[(0,1),(1,6)],[],[none],[],[],false,false⟩
def zm1:Nat→Sh:=xQ [(7,(.int .u32))]
def zmV (yJ:zfs) (xb:ym) (L:Nat):CBC:=(xy 159 (zea xb L) (xy 160 (zfD yJ L) noC))
def zoi {β:Type} (yJ:zfs) (xb:ym) (L:Nat) (p0:List V) (k_fin:List (List V)→Option β):Option β :=
 chk (0+32≤(List.length p0)) (
 yJ β L ([]:List (List V)) (List.take 32 p0) (fun v0 =>
 cI .u32 p0 32 fun v1 =>
 xb β L v0 v1 (fun v2 =>
 k_fin v2)))
theorem zwk {β:Type} (yJ:zfs) (xb:ym) (L:Nat) (p0:List V) (k:KK β):zt zm1 (zmV yJ xb L) L zjA [(V.agg p0)] [] k=zoi yJ xb L p0 (fun p0=>k (V.gs 1 p0) []):=by kernel_rfl
abbrev xt:=∀ (β:Type),Nat→List V→(List (List V)→Option β)→Option β
def xc (β:Type) (L:Nat) (p0:List V) (k_fin:List (List V)→Option β):Option β:=zoi yJ xb L p0 k_fin
def zkm (xc:xt) (L:Nat) (β:Type) (args:List V) (bor:Bor) (k:KK β):Option β:=match args,bor with
 | [a0],[]=>aG a0 fun p0=>xc β L p0 (fun p0=>k (V.gs 1 p0) [])
 | _,_=>none
theorem zws (L:Nat) (β:Type) (args:List V) (bor:Bor) (k:KK β) (r:β) (h:zkm xc L β args bor k=some r):zt zm1 (zmV yJ xb L) L zjA args bor k=some r:=by
 unfold zkm at h
 split at h
 ·have q:=zaj h; clear h; obtain ⟨p0,rfl,h⟩:=q
  exact (zwk yJ xb L p0 k).trans h
 ·cases h
def zfH:CF:=⟨9,[.tmp 4],
 (.seq (.reg [oo 4 (.move (.const (.gs 1 [])) true)])
 (.seq (.reg [oo 5 (.move (tq 0) false),
   oo 6 (.move (tq 1) false),
   oo 7 (.call 194 [((tq 6),0),((.const (.sc (.int .i64 8))),0)] []),
   oo 8 (.call 193 [((tq 5),0),((tq 7),0)] []),
   oo 4 (.move (tq 8) true)])
 .ret))⟩
def zlz:Hint:=⟨[(0,0),(1,4)],[],[none],[],[],false,false⟩
def ziT:Nat→Sh:=xQ []
def ziq (xl:za9) (xg:yQ) (L:Nat):CBC:=(xy 193 (zch xg L) (xy 194 (zeF xl L) noC))
def zjS {β:Type} (xl:za9) (xg:yQ) (L:Nat) (p0:List (List V)) (p1:Int) (k_fin:List (List V)→Option β):Option β :=
 xl β L p1 (8:Int) (fun v0 =>
 xg β L p0 v0 (fun v1 =>
 k_fin v1))
theorem zsF {β:Type} (xl:za9) (xg:yQ) (L:Nat) (p0:List (List V)) (p1:Int) (k:KK β):zt ziT (ziq xl xg L) L zfH [(V.sl 1 p0),(V.sc (.int .u64 p1))] [] k=zjS xl xg L p0 p1 (fun p0=>k (V.gs 1 p0) []):=by kernel_rfl
abbrev zgk:=∀ (β:Type),Nat→List (List V)→Int→(List (List V)→Option β)→Option β
def xI (β:Type) (L:Nat) (p0:List (List V)) (p1:Int) (k_fin:List (List V)→Option β):Option β:=zjS xl xg L p0 p1 k_fin
def zf9 (xI:zgk) (L:Nat) (β:Type) (args:List V) (bor:Bor) (k:KK β):Option β:=match args,bor with
 | [a0,a1],[]=>aL 1 a0 fun p0=>aI .u64 a1 fun p1=>xI β L p0 p1 (fun p0=>k (V.gs 1 p0) [])
 | _,_=>none
theorem zsg (L:Nat) (β:Type) (args:List V) (bor:Bor) (k:KK β) (r:β) (h:zf9 xI L β args bor k=some r):zt ziT (ziq xl xg L) L zfH args bor k=some r:=by
 unfold zf9 at h
 split at h
 ·have q:=za2 h; clear h; obtain ⟨p0,rfl,h⟩:=q
  have q:=zbt h; clear h; obtain ⟨p1,rfl,h⟩:=q
  exact (zsF xl xg L p0 p1 k).trans h
 ·cases h
def zem:CF:=⟨12,[.tmp 4],
 (.seq (.reg [oo 4 (.move (.const (.gs 1 [])) true)])
 (.seq (.reg [oo 5 (.move (tq 0) false),
   oo 6 (.move (tq 1) false),
   oo 7 (.lenS (tq 6)),
   oo 8 (.conv .u64 (tq 7)),
   oo 9 (.call 185 [((tq 5),0),((tq 8),0)] []),
   oo 10 (.move (tq 1) false),
   oo 11 (.call 193 [((tq 9),0),((tq 10),0)] []),
   oo 4 (.move (tq 11) true)])
 .ret))⟩
def zj5:Hint:=⟨[(0,0),(1,7)],[],[none],[],[],false,false⟩
def zhb:Nat→Sh:=xQ []
def zhd (xa:zk) (xg:yQ) (L:Nat):CBC:=(xy 193 (zch xg L) (xy 185 (zdL xa L) noC))
def zhz {β:Type} (xa:zk) (xg:yQ) (L:Nat) (p0 p1:List (List V)) (k_fin:List (List V)→Option β):Option β :=
 lt (IntKind.wrap .u64 ((List.length p1:Nat):Int)) fun x0 =>
 xa β L p0 x0 (fun v1 =>
 xg β L v1 p1 (fun v2 =>
 k_fin v2))
theorem zqW {β:Type} (xa:zk) (xg:yQ) (L:Nat) (p0 p1:List (List V)) (k:KK β):zt zhb (zhd xa xg L) L zem [(V.sl 1 p0),(V.sl 1 p1)] [] k=zhz xa xg L p0 p1 (fun p0=>k (V.gs 1 p0) []):=by kernel_rfl
abbrev xi:=∀ (β:Type),Nat→List (List V)→List (List V)→(List (List V)→Option β)→Option β
def za (β:Type) (L:Nat) (p0 p1:List (List V)) (k_fin:List (List V)→Option β):Option β:=zhz xa xg L p0 p1 k_fin
def zc7 (za:xi) (L:Nat) (β:Type) (args:List V) (bor:Bor) (k:KK β):Option β:=match args,bor with
 | [a0,a1],[]=>aL 1 a0 fun p0=>aL 1 a1 fun p1=>za β L p0 p1 (fun p0=>k (V.gs 1 p0) [])
 | _,_=>none
theorem zqX (L:Nat) (β:Type) (args:List V) (bor:Bor) (k:KK β) (r:β) (h:zc7 za L β args bor k=some r):zt zhb (zhd xa xg L) L zem args bor k=some r:=by
 unfold zc7 at h
 split at h
 ·have q:=za2 h; clear h; obtain ⟨p0,rfl,h⟩:=q
  have q:=za2 h; clear h; obtain ⟨p1,rfl,h⟩:=q
  exact (zqW xa xg L p0 p1 k).trans h
 ·cases h
def zlR:CF:=⟨10,[.tmp 2],
 (.seq (.reg [oo 1 (.box true (tq 0)),
   oo 2 (.move (.const (.gs 1 [])) true)])
 (.seq (.dreg [] [(oo 3 (.fieldAddr 0 (tq 1)),q0),
   (oo 4 (.load false 1 (tq 3) false),ql 1 [] []),
   (oo 5 (.conv .u64 (tq 4)),q0),
   (oo 6 (.call 206 [((.const (.gs 1 [])),0),((tq 5),0)] []),qc [1] []),
   (oo 7 (.fieldAddr 1 (tq 1)),q0),
   (oo 8 (.load false 1 (tq 7) false),ql 1 [] []),
   (oo 9 (.call 187 [((tq 6),0),((tq 8),0)] []),q0),
   (oo 2 (.move (tq 9) true),q0)])
 .ret))⟩
def zrO:Hint:=⟨[(0,0),(0,1),(1,7)],[],[none],[],[],false,false⟩
def zpR:Nat→Sh:=xQ [(4,(.int .i64)),(8,(.sl 1))]
def zpC (xI:zgk) (za:xi) (L:Nat):CBC:=(xy 187 (zc7 za L) (xy 206 (zf9 xI L) noC))
def zqP {β:Type} (xI:zgk) (za:xi) (L:Nat) (p0:List V) (k_fin:List (List V)→Option β):Option β :=
 cI .i64 p0 0 fun v0 =>
 lt (IntKind.wrap .u64 v0) fun x1 =>
 xI β L ([]:List (List V)) x1 (fun v2 =>
 cLd 1 p0 1 fun v3 =>
 za β L v2 v3 (fun v4 =>
 k_fin v4))
theorem zyH {β:Type} (xI:zgk) (za:xi) (L:Nat) (p0:List V) (k:KK β):zt zpR (zpC xI za L) L zlR [(V.agg p0)] [] k=zqP xI za L p0 (fun p0=>k (V.gs 1 p0) []):=by kernel_rfl
abbrev yx:=∀ (β:Type),Nat→List V→(List (List V)→Option β)→Option β
def ze (β:Type) (L:Nat) (p0:List V) (k_fin:List (List V)→Option β):Option β:=zqP xI za L p0 k_fin
def znn (ze:yx) (L:Nat) (β:Type) (args:List V) (bor:Bor) (k:KK β):Option β:=match args,bor with
 | [a0],[]=>aG a0 fun p0=>ze β L p0 (fun p0=>k (V.gs 1 p0) [])
 | _,_=>none
theorem zx3 (L:Nat) (β:Type) (args:List V) (bor:Bor) (k:KK β) (r:β) (h:znn ze L β args bor k=some r):zt zpR (zpC xI za L) L zlR args bor k=some r:=by
 unfold znn at h
 split at h
 ·have q:=zaj h; clear h; obtain ⟨p0,rfl,h⟩:=q
  exact (zyH xI za L p0 k).trans h
 ·cases h
def zX:CC:=(.seq (.reg [oo 80 (.bin .lss (tq 79) (tq 78))])
 (.seq (.cond (tq 80)
 .skip
 (.seq (.mask (bl 32281802128991715362 89) (bl 580284393415022003858953595 89))
 (.exit 6)))
 (.seq (.block 7 (.seq (.reg [oo 81 (.indexAddrS 1 (tq 77) (tq 79)),
   oo 82 (.load false 1 (tq 81) false),
   oo 13 (.move (tq 82) false)])
 (.reg [oo 83 (.move (tq 5) false),
   oo 84 (.move (tq 13) false),
   oo 85 (.call 187 [((tq 83),0),((tq 84),0)] []),
   oo 5 (.move (tq 85) true)])))
 (.reg [oo 86 (.bin .add (tq 79) (.const (.sc (.int .i64 1)))),
   oo 79 (.move (tq 86) false)]))))
def zdj:CC:=(.reg [oo 87 (.bin .add (tq 64) (.const (.sc (.int .i64 1)))),
   oo 64 (.move (tq 87) false)])
def zay:CC:=(.seq (.reg [oo 65 (.bin .lss (tq 64) (tq 63))])
 (.seq (.cond (tq 65)
 .skip
 (.seq (.mask (bl 32 89) (bl 579934938295289650113140091 89))
 (.exit 4)))
 (.seq (.block 5 (.seq (.reg [oo 66 (.indexAddrS 35 (tq 62) (tq 64)),
   oo 67 (.load true 35 (tq 66) false),
   oo 11 (.alloc true (rp 32 (.sc (.int .u8 0)) (rp 2 (.sc (.int .u32 0)) (rp 1 (.gs 1 []) [])))),
   oz (.store 35 (tq 11) (tq 67))])
 (.seq (.seq (.reg [oo 68 (.move (tq 1) false),
   oo 69 (.un .not (tq 68))])
 (.cond (tq 69)
 (.seq (.mask (bl 32 89) (bl 579934938295289650113140091 89))
 (.exit 4))
 .skip))
 (.seq (.reg [oo 70 (.move (tq 5) false),
   oo 71 (.fieldAddr 34 (tq 11)),
   oo 72 (.load false 1 (tq 71) false),
   oo 73 (.lenS (tq 72)),
   oo 74 (.conv .u64 (tq 73)),
   oo 75 (.call 185 [((tq 70),0),((tq 74),0)] []),
   oo 5 (.move (tq 75) true)])
 (.seq (.reg [oo 76 (.fieldAddr 34 (tq 11)),
   oo 77 (.load false 1 (tq 76) false),
   oo 78 (.lenS (tq 77)),
   oo 79 (.move (.const (.sc (.int .i64 0))) false)])
 (.block 6 (.loop (bl 1057842373964929519583266 89) (bl 580284393415022003858953595 89)
 zX)))))))
 zdj)))
def zbE:CC:=(.seq (.reg [oo 49 (.bin .lss (tq 48) (tq 47))])
 (.seq (.cond (tq 49)
 .skip
 (.seq (.mask (bl 38 89) (bl 618970019588646941921113471 89))
 (.exit 2)))
 (.seq (.block 3 (.seq (.reg [oo 50 (.indexAddrS 2 (tq 46) (tq 48)),
   oo 51 (.load true 2 (tq 50) false),
   oo 9 (.alloc true [(.sc (.int .i64 0)),(.gs 1 [])]),
   oz (.store 2 (tq 9) (tq 51))])
 (.reg [oo 52 (.move (tq 5) true),
   oo 53 (.load true 2 (tq 9) false),
   oo 54 (.call 186 [((tq 53),1)] []),
   oo 55 (.append 1 1 (tq 52) (tq 54)),
   oo 5 (.move (tq 55) true)])))
 (.reg [oo 56 (.bin .add (tq 48) (.const (.sc (.int .i64 1)))),
   oo 48 (.move (tq 56) false)]))))
def zfV:CC:=(.seq (.reg [oo 88 (.move (tq 5) true),
   oo 4 (.move (tq 88) true)])
 .ret)
def zck:CC:=(.seq (.reg [oo 27 (.bin .lss (tq 26) (tq 25))])
 (.seq (.cond (tq 27)
 .skip
 (.seq (.mask (bl 38 89) (bl 618970019642689974240802175 89))
 (.exit 0)))
 (.seq (.block 1 (.seq (.reg [oo 28 (.indexAddrS 35 (tq 24) (tq 26)),
   oo 29 (.load true 35 (tq 28) false),
   oo 7 (.alloc true (rp 32 (.sc (.int .u8 0)) (rp 2 (.sc (.int .u32 0)) (rp 1 (.gs 1 []) [])))),
   oz (.store 35 (tq 7) (tq 29))])
 (.dreg [] [(oo 30 (.move (tq 5) true),qc [7] []),
   (oo 31 (.fieldAddr 0 (tq 7)),q0),
   (oo 32 (.load true 33 (tq 31) false),ql 7 [] []),
   (oo 33 (.call 138 [((tq 32),0)] []),qc [7] []),
   (oo 34 (.append 1 1 (tq 30) (tq 33)),qn [7] []),
   (oo 35 (.fieldAddr 33 (tq 7)),q0),
   (oo 36 (.load false 1 (tq 35) false),ql 7 [] [34]),
   (oo 37 (.call 159 [((tq 34),0),((tq 36),0)] []),q0),
   (oo 5 (.move (tq 37) true),q0)])))
 (.reg [oo 38 (.bin .add (tq 26) (.const (.sc (.int .i64 1)))),
   oo 26 (.move (tq 38) false)]))))
def zeh:CC:=(.seq (.reg [oo 57 (.move (tq 5) false),
   oo 58 (.fieldAddr 3 (tq 2)),
   oo 59 (.load false 1 (tq 58) false),
   oo 60 (.call 159 [((tq 57),0),((tq 59),0)] []),
   oo 5 (.move (tq 60) true)])
 (.seq (.seq (.reg [oo 61 (.fieldAddr 1 (tq 2)),
   oo 62 (.load false 1 (tq 61) false),
   oo 63 (.lenS (tq 62)),
   oo 64 (.move (.const (.sc (.int .i64 0))) false)])
 (.block 4 (.loop (bl 32281802128991715362 89) (bl 579934938295289650113140091 89)
 zay)))
 zfV))
def zfq:CC:=(.seq (.reg [oo 39 (.move (tq 5) false),
   oo 40 (.fieldAddr 2 (tq 2)),
   oo 41 (.load false 1 (tq 40) false),
   oo 42 (.lenS (tq 41)),
   oo 43 (.conv .u64 (tq 42)),
   oo 44 (.call 185 [((tq 39),0),((tq 43),0)] []),
   oo 5 (.move (tq 44) true)])
 (.seq (.seq (.reg [oo 45 (.fieldAddr 2 (tq 2)),
   oo 46 (.load false 1 (tq 45) false),
   oo 47 (.lenS (tq 46)),
   oo 48 (.move (.const (.sc (.int .i64 0))) false)])
 (.block 2 (.loop (bl 492581209243686 89) (bl 618970019588646941921113471 89)
 zbE)))
 zeh))
def xW:CF:=⟨89,[.tmp 4],
 (.seq (.reg [oo 2 (.box true (tq 0)),
   oo 4 (.move (.const (.gs 1 [])) true)])
 (.seq (.reg [oo 14 (.fieldAddr 0 (tq 2)),
   oo 15 (.load false 1 (tq 14) false),
   oo 16 (.call 159 [((.const (.gs 1 [])),0),((tq 15),0)] []),
   oo 5 (.move (tq 16) true)])
 (.seq (.reg [oo 17 (.move (tq 5) false),
   oo 18 (.fieldAddr 1 (tq 2)),
   oo 19 (.load false 1 (tq 18) false),
   oo 20 (.lenS (tq 19)),
   oo 21 (.conv .u64 (tq 20)),
   oo 22 (.call 185 [((tq 17),0),((tq 21),0)] []),
   oo 5 (.move (tq 22) true)])
 (.seq (.seq (.reg [oo 23 (.fieldAddr 1 (tq 2)),
   oo 24 (.load false 1 (tq 23) false),
   oo 25 (.lenS (tq 24)),
   oo 26 (.move (.const (.sc (.int .i64 0))) false)])
 (.block 0 (.loop (bl 117440550 89) (bl 618970019642689974240802175 89)
 zck)))
 zfq))))⟩
def zov:Hint:=⟨[(0,0),(0,1),(1,3),(2,6),(5,2),(6,0),(6,8),(8,6),(11,2),(12,0),(12,4),(14,4),(17,2),(19,6),(23,3),(26,0),(26,1)],[],[none,some ((bl 117440550 89),(bl 618970019642689974240802175 89)),none,some ((bl 38 89),(bl 618970019642689974240802175 89)),none,none,some ((bl 492581209243686 89),(bl 618970019588646941921113471 89)),none,some ((bl 38 89),(bl 618970019588646941921113471 89)),none,none,some ((bl 32281802128991715362 89),(bl 579934938295289650113140091 89)),none,some ((bl 32 89),(bl 579934938295289650113140091 89)),none,none,some ((bl 32 89),(bl 579934938295289650113140091 89)),none,some ((bl 1057842373964929519583266 89),(bl 580284393415022003858953595 89)),none,some ((bl 32281802128991715362 89),(bl 580284393415022003858953595 89)),none,none],[],[],false,false⟩
def xu:Nat→Sh:=xQ [(15,(.int .u32)),(19,(.sl 35)),(24,(.sl 35)),(36,(.int .u32)),(41,(.sl 2)),(46,(.sl 2)),(59,(.int .u32)),(62,(.sl 35)),(72,(.sl 1)),(77,(.sl 1)),(82,(.sl 1))]
def zu (xb:ym) (xa:zk) (xc:xt) (ze:yx) (za:xi) (L:Nat):CBC:=(xy 187 (zc7 za L) (xy 186 (znn ze L) (xy 138 (zkm xc L) (xy 185 (zdL xa L) (xy 159 (zea xb L) noC)))))
def zew:St→St:=zS 0 (bl 117440550 89) (bl 618970019642689974240802175 89)
def zdl:St→St:=zS 0 (bl 492581209243686 89) (bl 618970019588646941921113471 89)
def y8:St→St:=zS 0 (bl 32281802128991715362 89) (bl 579934938295289650113140091 89)
def zaA:St→St:=zS 0 (bl 1057842373964929519583266 89) (bl 580284393415022003858953595 89)
def zc1 (p1:Bool) (p5 p24:List (List V)) (p25 p26:Int) (b2:List V):St:=⟨(jn 1 ((V.sc (.bool p1))::((V.ptr 2 0)::(jn 2 ((V.gs 1 p5)::(jn 18 ((V.sl 35 p24)::((V.sc (.int .i64 p25))::((V.sc (.int .i64 p26))::(jn 62 [])))))))))),(gn 2 ((.live true b2)::(gn 86 [])))⟩
def zfr (p1:Bool) (p5:List (List V)) (b2:List V):St:=⟨(jn 1 ((V.sc (.bool p1))::((V.ptr 2 0)::(jn 2 ((V.gs 1 p5)::(jn 83 [])))))),(gn 2 ((.live true b2)::(gn 86 [])))⟩
def zct (p1:Bool) (p5 p46:List (List V)) (p47 p48:Int) (b2:List V):St:=⟨(jn 1 ((V.sc (.bool p1))::((V.ptr 2 0)::(jn 2 ((V.gs 1 p5)::(jn 40 ((V.sl 2 p46)::((V.sc (.int .i64 p47))::((V.sc (.int .i64 p48))::(jn 40 [])))))))))),(gn 2 ((.live true b2)::(gn 86 [])))⟩
def zft (p1:Bool) (p5:List (List V)) (b2:List V):St:=⟨(jn 1 ((V.sc (.bool p1))::((V.ptr 2 0)::(jn 2 ((V.gs 1 p5)::(jn 83 [])))))),(gn 2 ((.live true b2)::(gn 86 [])))⟩
def zad (p1:Bool) (p5 p62:List (List V)) (p63 p64:Int):St:=⟨(jn 1 ((V.sc (.bool p1))::(jn 3 ((V.gs 1 p5)::(jn 56 ((V.sl 35 p62)::((V.sc (.int .i64 p63))::((V.sc (.int .i64 p64))::(jn 24 []))))))))),(gn 89 [])⟩
def zfE (p5:List (List V)):St:=⟨(jn 5 ((V.gs 1 p5)::(jn 83 []))),(gn 89 [])⟩
def zam (p1:Bool) (p5 p62:List (List V)) (p63 p64:Int) (p77:List (List V)) (p78 p79:Int):St:=⟨(jn 1 ((V.sc (.bool p1))::(jn 3 ((V.gs 1 p5)::(jn 56 ((V.sl 35 p62)::((V.sc (.int .i64 p63))::((V.sc (.int .i64 p64))::(jn 12 ((V.sl 1 p77)::((V.sc (.int .i64 p78))::((V.sc (.int .i64 p79))::(jn 9 []))))))))))))),(gn 89 [])⟩
def zip (p1:Bool) (p5 p62:List (List V)) (p63 p64:Int):St:=⟨(jn 1 ((V.sc (.bool p1))::(jn 3 ((V.gs 1 p5)::(jn 56 ((V.sl 35 p62)::((V.sc (.int .i64 p63))::((V.sc (.int .i64 p64))::(jn 24 []))))))))),(gn 89 [])⟩
abbrev zlc (β:Type):Type:=Bool→List (List V)→List (List V)→Int→Int→List V→Option β
abbrev zjB (β:Type):Type:=Bool→List (List V)→List (List V)→Int→Int→List V→Option β
abbrev zdW (β:Type):Type:=Bool→List (List V)→List (List V)→Int→Int→List (List V)→Int→Int→Option β
def zmL {β:Type} (xb:ym) (xa:zk) (xc:xt) (ze:yx) (za:xi) (L:Nat) (p0:List V) (p1:Bool) (k_hbbbaba:zlc β):Option β :=
 cI .u32 p0 0 fun v0 =>
 xb β L ([]:List (List V)) v0 (fun v1 =>
 cLd 35 p0 1 fun v2 =>
 lt (IntKind.wrap .u64 ((List.length v2:Nat):Int)) fun x3 =>
 xa β L v1 x3 (fun v4 =>
 cLd 35 p0 1 fun v5 =>
 k_hbbbaba p1 v4 v5 ((List.length v5:Nat):Int) (0:Int) p0))
theorem zvn {β:Type} (xb:ym) (xa:zk) (xc:xt) (ze:yx) (za:xi) (L:Nat) (p0:List V) (p1:Bool) (k:KK β):zt xu (zu xb xa xc ze za L) L xW [(V.agg p0),(V.sc (.bool p1))] [] k=zmL xb xa xc ze za L p0 p1 (fun p1 p5 p24 p25 p26 b2=>xq (xf xu (zu xb xa xc ze za L) 0 L zck) zew L (zc1 p1 p5 p24 p25 p26 b2) (yn 0 (zy (xf xu (zu xb xa xc ze za L) 0 L zfq) (yE 0 (CF.res xW) k)))):=by kernel_rfl
def zgV {β:Type} (xb:ym) (xa:zk) (xc:xt) (ze:yx) (za:xi) (L:Nat) (p1:Bool) (p5 p24:List (List V)) (p25 p26:Int) (b2:List V) (k_hbbbaba:zlc β) (k_x0:Bool→List (List V)→List V→Option β):Option β :=
 ifb (decide (p26 < p25)) (
 idx p24 p26 fun c6 =>
 chk ((List.length (List.take 35 c6))=35∧0+35≤35) (
 lt (zr (List.replicate 32 (V.sc (.int .u8 (0:Int)))++[(V.sc (.int .u32 (0:Int))),(V.sc (.int .u32 (0:Int))),(V.gs 1 ([]:List (List V)))]) 0 (List.take 35 c6)) fun r7 =>
 chk (0+33≤(List.length r7)) (
 xc β L (List.take 33 r7) (fun v8 =>
 chk ((List.length p5+List.length v8) * 1≤yl∧List.length p5+List.length v8≤yl) (
 lt (p5++v8) fun l9 =>
 cI .u32 r7 33 fun v10 =>
 xb β L l9 v10 (fun v11 =>
 lt (IntKind.wrap .i64 ((p26:Int)+(1:Int))) fun x12 =>
 k_hbbbaba p1 v11 p24 p25 x12 b2)))))) (
 k_x0 p1 p5 b2)
theorem zpZ {β:Type} (xb:ym) (xa:zk) (xc:xt) (ze:yx) (za:xi) (L:Nat) (p1:Bool) (p5 p24:List (List V)) (p25 p26:Int) (b2:List V) (X:St→Option β) (K:KT β):xf xu (zu xb xa xc ze za L) 0 L zck (zc1 p1 p5 p24 p25 p26 b2) (yN zew X K)=zgV xb xa xc ze za L p1 p5 p24 p25 p26 b2 (fun p1 p5 p24 p25 p26 b2=>X (zc1 p1 p5 p24 p25 p26 b2)) (fun p1 p5 b2=>K (.exit 0) (zfr p1 p5 b2)):=by kernel_rfl
def zfS {β:Type} (xb:ym) (xa:zk) (xc:xt) (ze:yx) (za:xi) (L:Nat) (p1:Bool) (p5:List (List V)) (b2:List V) (k_hbbbbbaba:zjB β):Option β :=
 cLd 2 b2 2 fun v13 =>
 lt (IntKind.wrap .u64 ((List.length v13:Nat):Int)) fun x14 =>
 xa β L p5 x14 (fun v15 =>
 cLd 2 b2 2 fun v16 =>
 k_hbbbbbaba p1 v15 v16 ((List.length v16:Nat):Int) (0:Int) b2)
theorem zoZ {β:Type} (xb:ym) (xa:zk) (xc:xt) (ze:yx) (za:xi) (L:Nat) (p1:Bool) (p5:List (List V)) (b2:List V) (k:KK β):(yn 0 (zy (xf xu (zu xb xa xc ze za L) 0 L zfq) (yE 0 (CF.res xW) k))) (.exit 0) (zfr p1 p5 b2)=zfS xb xa xc ze za L p1 p5 b2 (fun p1 p5 p46 p47 p48 b2=>xq (xf xu (zu xb xa xc ze za L) 0 L zbE) zdl L (zct p1 p5 p46 p47 p48 b2) (yn 2 (zy (xf xu (zu xb xa xc ze za L) 0 L zeh) (yE 0 (CF.res xW) k)))):=by kernel_rfl
def zf1 {β:Type} (xb:ym) (xa:zk) (xc:xt) (ze:yx) (za:xi) (L:Nat) (p1:Bool) (p5 p46:List (List V)) (p47 p48:Int) (b2:List V) (k_hbbbbbaba:zjB β) (k_x2:Bool→List (List V)→List V→Option β):Option β :=
 ifb (decide (p48 < p47)) (
 idx p46 p48 fun c17 =>
 chk ((List.length (List.take 2 c17))=2∧0+2≤2) (
 lt (zr [(V.sc (.int .i64 (0:Int))),(V.gs 1 ([]:List (List V)))] 0 (List.take 2 c17)) fun r18 =>
 chk (0+2≤(List.length r18)) (
 ze β L (List.map V.dem (List.take 2 r18)) (fun v19 =>
 chk ((List.length p5+List.length v19) * 1≤yl∧List.length p5+List.length v19≤yl) (
 lt (p5++v19) fun l20 =>
 lt (IntKind.wrap .i64 ((p48:Int)+(1:Int))) fun x21 =>
 k_hbbbbbaba p1 l20 p46 p47 x21 b2))))) (
 k_x2 p1 p5 b2)
theorem zoI {β:Type} (xb:ym) (xa:zk) (xc:xt) (ze:yx) (za:xi) (L:Nat) (p1:Bool) (p5 p46:List (List V)) (p47 p48:Int) (b2:List V) (X:St→Option β) (K:KT β):xf xu (zu xb xa xc ze za L) 0 L zbE (zct p1 p5 p46 p47 p48 b2) (yN zdl X K)=zf1 xb xa xc ze za L p1 p5 p46 p47 p48 b2 (fun p1 p5 p46 p47 p48 b2=>X (zct p1 p5 p46 p47 p48 b2)) (fun p1 p5 b2=>K (.exit 2) (zft p1 p5 b2)):=by kernel_rfl
def zeO {β:Type} (xb:ym) (xa:zk) (xc:xt) (ze:yx) (za:xi) (L:Nat) (p1:Bool) (p5:List (List V)) (b2:List V) (k_hbbbbbbbaba:Bool→List (List V)→List (List V)→Int→Int→Option β):Option β :=
 cI .u32 b2 3 fun v22 =>
 xb β L p5 v22 (fun v23 =>
 cLd 35 b2 1 fun v24 =>
 k_hbbbbbbbaba p1 v23 v24 ((List.length v24:Nat):Int) (0:Int))
theorem zns {β:Type} (xb:ym) (xa:zk) (xc:xt) (ze:yx) (za:xi) (L:Nat) (p1:Bool) (p5:List (List V)) (b2:List V) (k:KK β):(yn 2 (zy (xf xu (zu xb xa xc ze za L) 0 L zeh) (yE 0 (CF.res xW) k))) (.exit 2) (zft p1 p5 b2)=zeO xb xa xc ze za L p1 p5 b2 (fun p1 p5 p62 p63 p64=>xq (xf xu (zu xb xa xc ze za L) 0 L zay) y8 L (zad p1 p5 p62 p63 p64) (yn 4 (zy (xf xu (zu xb xa xc ze za L) 0 L zfV) (yE 0 (CF.res xW) k)))):=by kernel_rfl
def zcC {β:Type} (xb:ym) (xa:zk) (xc:xt) (ze:yx) (za:xi) (L:Nat) (p1:Bool) (p5 p62:List (List V)) (p63 p64:Int) (k_x4:List (List V)→Option β) (k_hbbbbbbbabaabbaabbbba:zdW β):Option β :=
 ifb (decide (p64 < p63)) (
 idx p62 p64 fun c25 =>
 chk ((List.length (List.take 35 c25))=35∧0+35≤35) (
 lt (zr (List.replicate 32 (V.sc (.int .u8 (0:Int)))++[(V.sc (.int .u32 (0:Int))),(V.sc (.int .u32 (0:Int))),(V.gs 1 ([]:List (List V)))]) 0 (List.take 35 c25)) fun r26 =>
 ifb (!p1) (
 k_x4 p5) (
 cLd 1 r26 34 fun v27 =>
 lt (IntKind.wrap .u64 ((List.length v27:Nat):Int)) fun x28 =>
 xa β L p5 x28 (fun v29 =>
 cLd 1 r26 34 fun v30 =>
 k_hbbbbbbbabaabbaabbbba p1 v29 p62 p63 p64 v30 ((List.length v30:Nat):Int) (0:Int))))) (
 k_x4 p5)
theorem znW {β:Type} (xb:ym) (xa:zk) (xc:xt) (ze:yx) (za:xi) (L:Nat) (p1:Bool) (p5 p62:List (List V)) (p63 p64:Int) (X:St→Option β) (K:KT β):xf xu (zu xb xa xc ze za L) 0 L zay (zad p1 p5 p62 p63 p64) (yN y8 X K)=zcC xb xa xc ze za L p1 p5 p62 p63 p64 (fun p5=>K (.exit 4) (zfE p5)) (fun p1 p5 p62 p63 p64 p77 p78 p79=>xq (xf xu (zu xb xa xc ze za L) 0 L zX) zaA L (zam p1 p5 p62 p63 p64 p77 p78 p79) (yn 6 (yn 5 (zy (xf xu (zu xb xa xc ze za L) 0 L zdj) (yN y8 X K))))):=by kernel_rfl
def zcd {β:Type} (xb:ym) (xa:zk) (xc:xt) (ze:yx) (za:xi) (L:Nat) (p5:List (List V)) (k_fin:List (List V)→Option β):Option β :=
 k_fin p5
theorem zmu {β:Type} (xb:ym) (xa:zk) (xc:xt) (ze:yx) (za:xi) (L:Nat) (p5:List (List V)) (k:KK β):(yn 4 (zy (xf xu (zu xb xa xc ze za L) 0 L zfV) (yE 0 (CF.res xW) k))) (.exit 4) (zfE p5)=zcd xb xa xc ze za L p5 (fun p0=>k (V.gs 1 p0) []):=by kernel_rfl
def zbK {β:Type} (xb:ym) (xa:zk) (xc:xt) (ze:yx) (za:xi) (L:Nat) (p1:Bool) (p5 p62:List (List V)) (p63 p64:Int) (p77:List (List V)) (p78 p79:Int) (k_hbbbbbbbabaabbaabbbba:zdW β) (k_x6:Bool→List (List V)→List (List V)→Int→Int→Option β):Option β :=
 ifb (decide (p79 < p78)) (
 idx p77 p79 fun c31 =>
 cL 1 c31 0 fun v32 =>
 za β L p5 v32 (fun v33 =>
 lt (IntKind.wrap .i64 ((p79:Int)+(1:Int))) fun x34 =>
 k_hbbbbbbbabaabbaabbbba p1 v33 p62 p63 p64 p77 p78 x34)) (
 k_x6 p1 p5 p62 p63 p64)
theorem zim {β:Type} (xb:ym) (xa:zk) (xc:xt) (ze:yx) (za:xi) (L:Nat) (p1:Bool) (p5 p62:List (List V)) (p63 p64:Int) (p77:List (List V)) (p78 p79:Int) (X:St→Option β) (K:KT β):xf xu (zu xb xa xc ze za L) 0 L zX (zam p1 p5 p62 p63 p64 p77 p78 p79) (yN zaA X K)=zbK xb xa xc ze za L p1 p5 p62 p63 p64 p77 p78 p79 (fun p1 p5 p62 p63 p64 p77 p78 p79=>X (zam p1 p5 p62 p63 p64 p77 p78 p79)) (fun p1 p5 p62 p63 p64=>K (.exit 6) (zip p1 p5 p62 p63 p64)):=by kernel_rfl
def zbs {β:Type} (xb:ym) (xa:zk) (xc:xt) (ze:yx) (za:xi) (L:Nat) (p1:Bool) (p5 p62:List (List V)) (p63 p64:Int) (k_hbbbbbbbaba:Bool→List (List V)→List (List V)→Int→Int→Option β):Option β :=
 lt (IntKind.wrap .i64 ((p64:Int)+(1:Int))) fun x35 =>
 k_hbbbbbbbaba p1 p5 p62 p63 x35
theorem zhp {β:Type} (xb:ym) (xa:zk) (xc:xt) (ze:yx) (za:xi) (L:Nat) (p1:Bool) (p5 p62:List (List V)) (p63 p64:Int) (X:St→Option β) (K:KT β):(yn 6 (yn 5 (zy (xf xu (zu xb xa xc ze za L) 0 L zdj) (yN y8 X K)))) (.exit 6) (zip p1 p5 p62 p63 p64)=zbs xb xa xc ze za L p1 p5 p62 p63 p64 (fun p1 p5 p62 p63 p64=>X (zad p1 p5 p62 p63 p64)):=by kernel_rfl
def zcJ {β:Type} (xb:ym) (xa:zk) (xc:xt) (ze:yx) (za:xi) (L:Nat) (k_x0:Bool→List (List V)→List V→Option β):Nat→Bool→List (List V)→List (List V)→Int→Int→List V→Option β
 | 0,_,_,_,_,_,_=>none
 | n+1,p1,p5,p24,p25,p26,b2=>zgV xb xa xc ze za L p1 p5 p24 p25 p26 b2 (fun p1 p5 p24 p25 p26 b2=>zcJ xb xa xc ze za L k_x0 n p1 p5 p24 p25 p26 b2) k_x0
theorem zjC {β:Type} (xb:ym) (xa:zk) (xc:xt) (ze:yx) (za:xi) (L:Nat) (K:KT β):∀ (n:Nat) (p1:Bool) (p5 p24:List (List V)) (p25 p26:Int) (b2:List V),xq (xf xu (zu xb xa xc ze za L) 0 L zck) zew n (zc1 p1 p5 p24 p25 p26 b2) K=zcJ xb xa xc ze za L (fun p1 p5 b2=>K (.exit 0) (zfr p1 p5 b2)) n p1 p5 p24 p25 p26 b2:=by
 intro n
 induction n with
 | zero=>intros; rfl
 | succ n ih =>
  intro p1 p5 p24 p25 p26 b2
  refine (zpZ xb xa xc ze za L p1 p5 p24 p25 p26 b2 (fun σ=>xq (xf xu (zu xb xa xc ze za L) 0 L zck) zew n σ K) K).trans ?_
  simp only [ih]
  rfl
def zb8 {β:Type} (xb:ym) (xa:zk) (xc:xt) (ze:yx) (za:xi) (L:Nat) (k_x2:Bool→List (List V)→List V→Option β):Nat→Bool→List (List V)→List (List V)→Int→Int→List V→Option β
 | 0,_,_,_,_,_,_=>none
 | n+1,p1,p5,p46,p47,p48,b2=>zf1 xb xa xc ze za L p1 p5 p46 p47 p48 b2 (fun p1 p5 p46 p47 p48 b2=>zb8 xb xa xc ze za L k_x2 n p1 p5 p46 p47 p48 b2) k_x2
theorem zh9 {β:Type} (xb:ym) (xa:zk) (xc:xt) (ze:yx) (za:xi) (L:Nat) (K:KT β):∀ (n:Nat) (p1:Bool) (p5 p46:List (List V)) (p47 p48:Int) (b2:List V),xq (xf xu (zu xb xa xc ze za L) 0 L zbE) zdl n (zct p1 p5 p46 p47 p48 b2) K=zb8 xb xa xc ze za L (fun p1 p5 b2=>K (.exit 2) (zft p1 p5 b2)) n p1 p5 p46 p47 p48 b2:=by
 intro n
 induction n with
 | zero=>intros; rfl
 | succ n ih =>
  intro p1 p5 p46 p47 p48 b2
  refine (zoI xb xa xc ze za L p1 p5 p46 p47 p48 b2 (fun σ=>xq (xf xu (zu xb xa xc ze za L) 0 L zbE) zdl n σ K) K).trans ?_
  simp only [ih]
  rfl
def xY {β:Type} (xb:ym) (xa:zk) (xc:xt) (ze:yx) (za:xi) (L:Nat) (k_x6:Bool→List (List V)→List (List V)→Int→Int→Option β):Nat→Bool→List (List V)→List (List V)→Int→Int→List (List V)→Int→Int→Option β
 | 0,_,_,_,_,_,_,_,_=>none
 | n+1,p1,p5,p62,p63,p64,p77,p78,p79=>zbK xb xa xc ze za L p1 p5 p62 p63 p64 p77 p78 p79 (fun p1 p5 p62 p63 p64 p77 p78 p79=>xY xb xa xc ze za L k_x6 n p1 p5 p62 p63 p64 p77 p78 p79) k_x6
theorem zdk {β:Type} (xb:ym) (xa:zk) (xc:xt) (ze:yx) (za:xi) (L:Nat) (K:KT β):∀ (n:Nat) (p1:Bool) (p5 p62:List (List V)) (p63 p64:Int) (p77:List (List V)) (p78 p79:Int),xq (xf xu (zu xb xa xc ze za L) 0 L zX) zaA n (zam p1 p5 p62 p63 p64 p77 p78 p79) K=xY xb xa xc ze za L (fun p1 p5 p62 p63 p64=>K (.exit 6) (zip p1 p5 p62 p63 p64)) n p1 p5 p62 p63 p64 p77 p78 p79:=by
 intro n
 induction n with
 | zero=>intros; rfl
 | succ n ih =>
  intro p1 p5 p62 p63 p64 p77 p78 p79
  refine (zim xb xa xc ze za L p1 p5 p62 p63 p64 p77 p78 p79 (fun σ=>xq (xf xu (zu xb xa xc ze za L) 0 L zX) zaA n σ K) K).trans ?_
  simp only [ih]
  rfl
def zbf {β:Type} (xb:ym) (xa:zk) (xc:xt) (ze:yx) (za:xi) (L:Nat) (p1:Bool) (p5 p62:List (List V)) (p63 p64:Int) (k_x4:List (List V)→Option β) (k_hbbbbbbbaba:Bool→List (List V)→List (List V)→Int→Int→Option β):Option β :=
 zcC xb xa xc ze za L p1 p5 p62 p63 p64 k_x4 (fun p1 p5 p62 p63 p64 p77 p78 p79=>xY xb xa xc ze za L (fun p1 p5 p62 p63 p64=>zbs xb xa xc ze za L p1 p5 p62 p63 p64 k_hbbbbbbbaba) L p1 p5 p62 p63 p64 p77 p78 p79)
theorem zmD {β:Type} (xb:ym) (xa:zk) (xc:xt) (ze:yx) (za:xi) (L:Nat) (p1:Bool) (p5 p62:List (List V)) (p63 p64:Int) (X:St→Option β) (K:KT β):xf xu (zu xb xa xc ze za L) 0 L zay (zad p1 p5 p62 p63 p64) (yN y8 X K)=zbf xb xa xc ze za L p1 p5 p62 p63 p64 (fun p5=>K (.exit 4) (zfE p5)) (fun p1 p5 p62 p63 p64=>X (zad p1 p5 p62 p63 p64)):=by
 refine (znW xb xa xc ze za L p1 p5 p62 p63 p64 X K).trans ?_
 unfold zbf
 first
  | (simp only [zdk,zhp]; done)
  | (simp only [zdk]; rfl)
def yT {β:Type} (xb:ym) (xa:zk) (xc:xt) (ze:yx) (za:xi) (L:Nat) (k_x4:List (List V)→Option β):Nat→Bool→List (List V)→List (List V)→Int→Int→Option β
 | 0,_,_,_,_,_=>none
 | n+1,p1,p5,p62,p63,p64=>zbf xb xa xc ze za L p1 p5 p62 p63 p64 k_x4 (fun p1 p5 p62 p63 p64=>yT xb xa xc ze za L k_x4 n p1 p5 p62 p63 p64)
theorem zgD {β:Type} (xb:ym) (xa:zk) (xc:xt) (ze:yx) (za:xi) (L:Nat) (K:KT β):∀ (n:Nat) (p1:Bool) (p5 p62:List (List V)) (p63 p64:Int),xq (xf xu (zu xb xa xc ze za L) 0 L zay) y8 n (zad p1 p5 p62 p63 p64) K=yT xb xa xc ze za L (fun p5=>K (.exit 4) (zfE p5)) n p1 p5 p62 p63 p64:=by
 intro n
 induction n with
 | zero=>intros; rfl
 | succ n ih =>
  intro p1 p5 p62 p63 p64
  refine (zmD xb xa xc ze za L p1 p5 p62 p63 p64 (fun σ=>xq (xf xu (zu xb xa xc ze za L) 0 L zay) y8 n σ K) K).trans ?_
  simp only [ih]
  rfl
def zcu {β:Type} (xb:ym) (xa:zk) (xc:xt) (ze:yx) (za:xi) (L:Nat) (p1:Bool) (p5:List (List V)) (b2:List V) (k_fin:List (List V)→Option β):Option β :=
 zeO xb xa xc ze za L p1 p5 b2 (fun p1 p5 p62 p63 p64=>yT xb xa xc ze za L (fun p5=>zcd xb xa xc ze za L p5 k_fin) L p1 p5 p62 p63 p64)
theorem zmQ {β:Type} (xb:ym) (xa:zk) (xc:xt) (ze:yx) (za:xi) (L:Nat) (p1:Bool) (p5:List (List V)) (b2:List V) (k:KK β):(yn 2 (zy (xf xu (zu xb xa xc ze za L) 0 L zeh) (yE 0 (CF.res xW) k))) (.exit 2) (zft p1 p5 b2)=zcu xb xa xc ze za L p1 p5 b2 (fun p0=>k (V.gs 1 p0) []):=by
 refine (zns xb xa xc ze za L p1 p5 b2 k).trans ?_
 unfold zcu
 first
  | (simp only [zgD,zmu]; done)
  | (simp only [zgD]; rfl)
def zc4 {β:Type} (xb:ym) (xa:zk) (xc:xt) (ze:yx) (za:xi) (L:Nat) (p1:Bool) (p5:List (List V)) (b2:List V) (k_fin:List (List V)→Option β):Option β :=
 zfS xb xa xc ze za L p1 p5 b2 (fun p1 p5 p46 p47 p48 b2=>zb8 xb xa xc ze za L (fun p1 p5 b2=>zcu xb xa xc ze za L p1 p5 b2 k_fin) L p1 p5 p46 p47 p48 b2)
theorem zoj {β:Type} (xb:ym) (xa:zk) (xc:xt) (ze:yx) (za:xi) (L:Nat) (p1:Bool) (p5:List (List V)) (b2:List V) (k:KK β):(yn 0 (zy (xf xu (zu xb xa xc ze za L) 0 L zfq) (yE 0 (CF.res xW) k))) (.exit 0) (zfr p1 p5 b2)=zc4 xb xa xc ze za L p1 p5 b2 (fun p0=>k (V.gs 1 p0) []):=by
 refine (zoZ xb xa xc ze za L p1 p5 b2 k).trans ?_
 unfold zc4
 first
  | (simp only [zh9,zmQ]; done)
  | (simp only [zh9]; rfl)
def zjt {β:Type} (xb:ym) (xa:zk) (xc:xt) (ze:yx) (za:xi) (L:Nat) (p0:List V) (p1:Bool) (k_fin:List (List V)→Option β):Option β :=
 zmL xb xa xc ze za L p0 p1 (fun p1 p5 p24 p25 p26 b2=>zcJ xb xa xc ze za L (fun p1 p5 b2=>zc4 xb xa xc ze za L p1 p5 b2 k_fin) L p1 p5 p24 p25 p26 b2)
theorem zvj {β:Type} (xb:ym) (xa:zk) (xc:xt) (ze:yx) (za:xi) (L:Nat) (p0:List V) (p1:Bool) (k:KK β):zt xu (zu xb xa xc ze za L) L xW [(V.agg p0),(V.sc (.bool p1))] [] k=zjt xb xa xc ze za L p0 p1 (fun p0=>k (V.gs 1 p0) []):=by
 refine (zvn xb xa xc ze za L p0 p1 k).trans ?_
 unfold zjt
 first
  | (simp only [zjC,zoj]; done)
  | (simp only [zjC]; rfl)
abbrev xo:=∀ (β:Type),Nat→List V→Bool→(List (List V)→Option β)→Option β
def yc (β:Type) (L:Nat) (p0:List V) (p1:Bool) (k_fin:List (List V)→Option β):Option β:=zjt xb xa xc ze za L p0 p1 k_fin
def zdg (yc:xo) (L:Nat) (β:Type) (args:List V) (bor:Bor) (k:KK β):Option β:=match args,bor with
 | [a0,a1],[]=>aG a0 fun p0=>aB a1 fun p1=>yc β L p0 p1 (fun p0=>k (V.gs 1 p0) [])
 | _,_=>none
theorem zvx (L:Nat) (β:Type) (args:List V) (bor:Bor) (k:KK β) (r:β) (h:zdg yc L β args bor k=some r):zt xu (zu xb xa xc ze za L) L xW args bor k=some r:=by
 unfold zdg at h
 split at h
 ·have q:=zaj h; clear h; obtain ⟨p0,rfl,h⟩:=q
  have q:=zlA h; clear h; obtain ⟨p1,rfl,h⟩:=q
  exact (zvj xb xa xc ze za L p0 p1 k).trans h
 ·cases h
def zaE:CC:=(.seq (.reg [oo 51 (.bin .lss (tq 50) (tq 49))])
 (.seq (.cond (tq 51)
 .skip
 (.seq (.mask (bl 962072674306 63) (bl 9187343239835811499 63))
 (.exit 4)))
 (.seq (.block 5 (.seq (.reg [oo 52 (.indexAddrS 1 (tq 48) (tq 50)),
   oo 53 (.load false 1 (tq 52) false),
   oo 8 (.move (tq 53) false)])
 (.seq (.reg [oo 54 (.move (tq 8) false),
   oo 55 (.lenS (tq 54)),
   oo 56 (.bin .gtr (tq 55) (.const (.sc (.int .i64 520))))])
 (.cond (tq 56)
 (.seq (.reg [oo 2 (.move (.const (.sc (.bool false))) false)])
 (.seq (.mask (bl 4 63) (bl 9186745105510301357 63))
 .ret))
 .skip))))
 (.reg [oo 57 (.bin .add (tq 50) (.const (.sc (.int .i64 1)))),
   oo 50 (.move (tq 57) false)]))))
def zdp:CC:=(.reg [oo 58 (.bin .add (tq 39) (.const (.sc (.int .i64 1)))),
   oo 39 (.move (tq 58) false)])
def zbT:CC:=(.seq (.reg [oo 40 (.bin .lss (tq 39) (tq 38))])
 (.seq (.cond (tq 40)
 .skip
 (.seq (.mask (bl 2 63) (bl 9186745105510301355 63))
 (.exit 2)))
 (.seq (.block 3 (.seq (.reg [oo 41 (.indexAddrS 35 (tq 37) (tq 39)),
   oo 42 (.load true 35 (tq 41) false),
   oo 6 (.alloc true (rp 32 (.sc (.int .u8 0)) (rp 2 (.sc (.int .u32 0)) (rp 1 (.gs 1 []) [])))),
   oz (.store 35 (tq 6) (tq 42))])
 (.seq (.seq (.reg [oo 43 (.fieldAddr 34 (tq 6)),
   oo 44 (.load false 1 (tq 43) false),
   oo 45 (.lenS (tq 44)),
   oo 46 (.bin .gtr (tq 45) (.const (.sc (.int .i64 32))))])
 (.cond (tq 46)
 (.seq (.reg [oo 2 (.move (.const (.sc (.bool false))) false)])
 (.seq (.mask (bl 4 63) (bl 9186745105510301357 63))
 .ret))
 .skip))
 (.seq (.reg [oo 47 (.fieldAddr 34 (tq 6)),
   oo 48 (.load false 1 (tq 47) false),
   oo 49 (.lenS (tq 48)),
   oo 50 (.move (.const (.sc (.int .i64 0))) false)])
 (.block 4 (.loop (bl 1971286909648898 63) (bl 9187343239835811499 63)
 zaE))))))
 zdp)))
def zdB:CC:=(.seq (.reg [oo 23 (.bin .lss (tq 22) (tq 21))])
 (.seq (.cond (tq 23)
 .skip
 (.seq (.mask (bl 2 63) (bl 9223372032559808427 63))
 (.exit 0)))
 (.seq (.block 1 (.seq (.reg [oo 24 (.indexAddrS 2 (tq 20) (tq 22)),
   oo 25 (.load true 2 (tq 24) false),
   oo 4 (.alloc true [(.sc (.int .i64 0)),(.gs 1 [])]),
   oz (.store 2 (tq 4) (tq 25))])
 (.seq (.reg [oo 26 (.fieldAddr 0 (tq 4)),
   oo 27 (.load false 1 (tq 26) false),
   oo 28 (.bin .lss (tq 27) (.const (.sc (.int .i64 0)))),
   oo 29 (.move (tq 28) false),
   ⟨(some 30),false,(some (29,false)),.fieldAddr 1 (tq 4)⟩,
   ⟨(some 31),false,(some (29,false)),.load false 1 (tq 30) false⟩,
   ⟨(some 32),false,(some (29,false)),.lenS (tq 31)⟩,
   ⟨(some 33),false,(some (29,false)),.bin .gtr (tq 32) (.const (.sc (.int .i64 520)))⟩,
   oo 34 (.pick (tq 29) (.const (.sc (.bool true))) (tq 33))])
 (.cond (tq 34)
 (.seq (.reg [oo 2 (.move (.const (.sc (.bool false))) false)])
 (.seq (.mask (bl 4 63) (bl 9223372032559808429 63))
 .ret))
 .skip))))
 (.reg [oo 35 (.bin .add (tq 22) (.const (.sc (.int .i64 1)))),
   oo 22 (.move (tq 35) false)]))))
def zgL:CC:=(.seq (.reg [oo 59 (.load true 4 (tq 1) false),
   oo 60 (.call 149 [((tq 59),1),((.const (.sc (.bool true))),0)] []),
   oo 61 (.lenS (tq 60)),
   oo 62 (.bin .leq (tq 61) (.const (.sc (.int .i64 20000)))),
   oo 2 (.move (tq 62) false)])
 .ret)
def zfo:CC:=(.seq (.seq (.reg [oo 36 (.fieldAddr 1 (tq 1)),
   oo 37 (.load false 1 (tq 36) false),
   oo 38 (.lenS (tq 37)),
   oo 39 (.move (.const (.sc (.int .i64 0))) false)])
 (.block 2 (.loop (bl 962072674306 63) (bl 9186745105510301355 63)
 zbT)))
 zgL)
def zaB:CF:=⟨63,[.tmp 2],
 (.seq (.reg [oo 1 (.box true (tq 0)),
   oo 2 (.move (.const (.sc (.bool false))) false)])
 (.seq (.seq (.reg [oo 9 (.fieldAddr 1 (tq 1)),
   oo 10 (.load false 1 (tq 9) false),
   oo 11 (.lenS (tq 10)),
   oo 12 (.bin .gtr (tq 11) (.const (.sc (.int .i64 64)))),
   oo 13 (.move (tq 12) false),
   ⟨(some 14),false,(some (13,false)),.fieldAddr 2 (tq 1)⟩,
   ⟨(some 15),false,(some (13,false)),.load false 1 (tq 14) false⟩,
   ⟨(some 16),false,(some (13,false)),.lenS (tq 15)⟩,
   ⟨(some 17),false,(some (13,false)),.bin .gtr (tq 16) (.const (.sc (.int .i64 64)))⟩,
   oo 18 (.pick (tq 13) (.const (.sc (.bool true))) (tq 17))])
 (.cond (tq 18)
 (.seq (.reg [oo 2 (.move (.const (.sc (.bool false))) false)])
 .ret)
 .skip))
 (.seq (.seq (.reg [oo 19 (.fieldAddr 2 (tq 1)),
   oo 20 (.load false 1 (tq 19) false),
   oo 21 (.lenS (tq 20)),
   oo 22 (.move (.const (.sc (.int .i64 0))) false)])
 (.block 0 (.loop (bl 7340034 63) (bl 9223372032559808427 63)
 zdB)))
 zfo)))⟩
def zp9:Hint:=⟨[(0,0),(5,2),(11,2)],[],[none,none,none,some ((bl 7340034 63),(bl 9223372032559808427 63)),none,some ((bl 2 63),(bl 9223372032559808427 63)),none,none,some ((bl 4 63),(bl 9223372032559808429 63)),none,some ((bl 962072674306 63),(bl 9186745105510301355 63)),none,some ((bl 2 63),(bl 9186745105510301355 63)),none,none,some ((bl 4 63),(bl 9186745105510301357 63)),none,some ((bl 1971286909648898 63),(bl 9187343239835811499 63)),none,some ((bl 962072674306 63),(bl 9187343239835811499 63)),none,none,some ((bl 4 63),(bl 9186745105510301357 63)),none],[],[],false,false⟩
def yC:Nat→Sh:=xQ [(10,(.sl 35)),(15,(.sl 2)),(20,(.sl 2)),(27,(.int .i64)),(31,(.sl 1)),(37,(.sl 35)),(44,(.sl 1)),(48,(.sl 1)),(53,(.sl 1))]
def xC (yc:xo) (L:Nat):CBC:=(xy 149 (zdg yc L) noC)
def zgd:St→St:=zS 0 (bl 7340034 63) (bl 9223372032559808427 63)
def zaS:St→St:=zS 0 (bl 962072674306 63) (bl 9186745105510301355 63)
def zbS:St→St:=zS 0 (bl 1971286909648898 63) (bl 9187343239835811499 63)
def zeo (p20:List (List V)) (p21 p22:Int) (b1:List V):St:=⟨(jn 1 ((V.ptr 1 0)::(jn 18 ((V.sl 2 p20)::((V.sc (.int .i64 p21))::((V.sc (.int .i64 p22))::(jn 40 []))))))),(gn 1 ((.live true b1)::(gn 61 [])))⟩
def yY (p2:Bool):St:=⟨(jn 2 ((V.sc (.bool p2))::(jn 60 []))),(gn 63 [])⟩
def zg2 (b1:List V):St:=⟨(jn 1 ((V.ptr 1 0)::(jn 61 []))),(gn 1 ((.live true b1)::(gn 61 [])))⟩
def zbm (p37:List (List V)) (p38 p39:Int) (b1:List V):St:=⟨(jn 1 ((V.ptr 1 0)::(jn 35 ((V.sl 35 p37)::((V.sc (.int .i64 p38))::((V.sc (.int .i64 p39))::(jn 23 []))))))),(gn 1 ((.live true b1)::(gn 61 [])))⟩
def zbl (p37:List (List V)) (p38 p39:Int) (p48:List (List V)) (p49 p50:Int) (b1:List V):St:=⟨(jn 1 ((V.ptr 1 0)::(jn 35 ((V.sl 35 p37)::((V.sc (.int .i64 p38))::((V.sc (.int .i64 p39))::(jn 8 ((V.sl 1 p48)::((V.sc (.int .i64 p49))::((V.sc (.int .i64 p50))::(jn 12 []))))))))))),(gn 1 ((.live true b1)::(gn 61 [])))⟩
def zg5 (b1:List V):St:=⟨(jn 1 ((V.ptr 1 0)::(jn 61 []))),(gn 1 ((.live true b1)::(gn 61 [])))⟩
def zkK (p37:List (List V)) (p38 p39:Int) (b1:List V):St:=⟨(jn 1 ((V.ptr 1 0)::(jn 35 ((V.sl 35 p37)::((V.sc (.int .i64 p38))::((V.sc (.int .i64 p39))::(jn 23 []))))))),(gn 1 ((.live true b1)::(gn 61 [])))⟩
abbrev zgB (β:Type):Type:=List (List V)→Int→Int→List (List V)→Int→Int→List V→Option β
def zpf {β:Type} (yc:xo) (L:Nat) (p0:List V) (k_fin:Bool→Option β) (k_hbbaba:List (List V)→Int→Int→List V→Option β):Option β :=
 cLd 35 p0 1 fun v0 =>
 ifb (decide (((List.length v0:Nat):Int) > (64:Int))) (
 k_fin false) (
 cLd 2 p0 2 fun v1 =>
 ifb (decide (((List.length v1:Nat):Int) > (64:Int))) (
 k_fin false) (
 cLd 2 p0 2 fun v2 =>
 k_hbbaba v2 ((List.length v2:Nat):Int) (0:Int) p0))
theorem zwM {β:Type} (yc:xo) (L:Nat) (p0:List V) (k:KK β):zt yC (xC yc L) L zaB [(V.agg p0)] [] k=zpf yc L p0 (fun p0=>k (V.sc (.bool p0)) []) (fun p20 p21 p22 b1=>xq (xf yC (xC yc L) 0 L zdB) zgd L (zeo p20 p21 p22 b1) (yn 0 (zy (xf yC (xC yc L) 0 L zfo) (yE 0 (CF.res zaB) k)))):=by kernel_rfl
def zjG {β:Type} (yc:xo) (L:Nat) (p20:List (List V)) (p21 p22:Int) (b1:List V) (k_ret:Bool→Option β) (k_hbbaba:List (List V)→Int→Int→List V→Option β) (k_x0:List V→Option β):Option β :=
 ifb (decide (p22 < p21)) (
 idx p20 p22 fun c3 =>
 chk ((List.length (List.take 2 c3))=2∧0+2≤2) (
 lt (zr [(V.sc (.int .i64 (0:Int))),(V.gs 1 ([]:List (List V)))] 0 (List.take 2 c3)) fun r4 =>
 cI .i64 r4 0 fun v5 =>
 ifb (decide (v5 < (0:Int))) (
 k_ret false) (
 cLd 1 r4 1 fun v6 =>
 ifb (decide (((List.length v6:Nat):Int) > (520:Int))) (
 k_ret false) (
 lt (IntKind.wrap .i64 ((p22:Int)+(1:Int))) fun x7 =>
 k_hbbaba p20 p21 x7 b1)))) (
 k_x0 b1)
theorem zsX {β:Type} (yc:xo) (L:Nat) (p20:List (List V)) (p21 p22:Int) (b1:List V) (X:St→Option β) (K:KT β):xf yC (xC yc L) 0 L zdB (zeo p20 p21 p22 b1) (yN zgd X K)=zjG yc L p20 p21 p22 b1 (fun p2=>K .ret (yY p2)) (fun p20 p21 p22 b1=>X (zeo p20 p21 p22 b1)) (fun b1=>K (.exit 0) (zg2 b1)):=by kernel_rfl
def zgY {β:Type} (yc:xo) (L:Nat) (p2:Bool) (k_fin:Bool→Option β):Option β :=
 k_fin p2
theorem zpY {β:Type} (yc:xo) (L:Nat) (p2:Bool) (k:KK β):(yn 0 (zy (xf yC (xC yc L) 0 L zfo) (yE 0 (CF.res zaB) k))) .ret (yY p2)=zgY yc L p2 (fun p0=>k (V.sc (.bool p0)) []):=by kernel_rfl
def zhQ {β:Type} (yc:xo) (L:Nat) (b1:List V) (k_hbbbaba:List (List V)→Int→Int→List V→Option β):Option β :=
 cLd 35 b1 1 fun v8 =>
 k_hbbbaba v8 ((List.length v8:Nat):Int) (0:Int) b1
theorem zqI {β:Type} (yc:xo) (L:Nat) (b1:List V) (k:KK β):(yn 0 (zy (xf yC (xC yc L) 0 L zfo) (yE 0 (CF.res zaB) k))) (.exit 0) (zg2 b1)=zhQ yc L b1 (fun p37 p38 p39 b1=>xq (xf yC (xC yc L) 0 L zbT) zaS L (zbm p37 p38 p39 b1) (yn 2 (zy (xf yC (xC yc L) 0 L zgL) (yE 0 (CF.res zaB) k)))):=by kernel_rfl
def zis {β:Type} (yc:xo) (L:Nat) (p37:List (List V)) (p38 p39:Int) (b1:List V) (k_ret:Bool→Option β) (k_hbbbabaabbaabbba:zgB β) (k_x2:List V→Option β):Option β :=
 ifb (decide (p39 < p38)) (
 idx p37 p39 fun c9 =>
 chk ((List.length (List.take 35 c9))=35∧0+35≤35) (
 lt (zr (List.replicate 32 (V.sc (.int .u8 (0:Int)))++[(V.sc (.int .u32 (0:Int))),(V.sc (.int .u32 (0:Int))),(V.gs 1 ([]:List (List V)))]) 0 (List.take 35 c9)) fun r10 =>
 cLd 1 r10 34 fun v11 =>
 ifb (decide (((List.length v11:Nat):Int) > (32:Int))) (
 k_ret false) (
 cLd 1 r10 34 fun v12 =>
 k_hbbbabaabbaabbba p37 p38 p39 v12 ((List.length v12:Nat):Int) (0:Int) b1))) (
 k_x2 b1)
theorem zrx {β:Type} (yc:xo) (L:Nat) (p37:List (List V)) (p38 p39:Int) (b1:List V) (X:St→Option β) (K:KT β):xf yC (xC yc L) 0 L zbT (zbm p37 p38 p39 b1) (yN zaS X K)=zis yc L p37 p38 p39 b1 (fun p2=>K .ret (yY p2)) (fun p37 p38 p39 p48 p49 p50 b1=>xq (xf yC (xC yc L) 0 L zaE) zbS L (zbl p37 p38 p39 p48 p49 p50 b1) (yn 4 (yn 3 (zy (xf yC (xC yc L) 0 L zdp) (yN zaS X K))))) (fun b1=>K (.exit 2) (zg5 b1)):=by kernel_rfl
def zgm {β:Type} (yc:xo) (L:Nat) (p2:Bool) (k_fin:Bool→Option β):Option β :=
 k_fin p2
theorem zpP {β:Type} (yc:xo) (L:Nat) (p2:Bool) (k:KK β):(yn 2 (zy (xf yC (xC yc L) 0 L zgL) (yE 0 (CF.res zaB) k))) .ret (yY p2)=zgm yc L p2 (fun p0=>k (V.sc (.bool p0)) []):=by kernel_rfl
def zhj {β:Type} (yc:xo) (L:Nat) (b1:List V) (k_fin:Bool→Option β):Option β :=
 chk (0+4≤(List.length b1)) (
 yc β L (List.map V.dem (List.take 4 b1)) true (fun v13 =>
 k_fin (decide (((List.length v13:Nat):Int)≤(20000:Int)))))
theorem zp2 {β:Type} (yc:xo) (L:Nat) (b1:List V) (k:KK β):(yn 2 (zy (xf yC (xC yc L) 0 L zgL) (yE 0 (CF.res zaB) k))) (.exit 2) (zg5 b1)=zhj yc L b1 (fun p0=>k (V.sc (.bool p0)) []):=by kernel_rfl
def zdI {β:Type} (yc:xo) (L:Nat) (p37:List (List V)) (p38 p39:Int) (p48:List (List V)) (p49 p50:Int) (b1:List V) (k_ret:Bool→Option β) (k_hbbbabaabbaabbba:zgB β) (k_x4:List (List V)→Int→Int→List V→Option β):Option β :=
 ifb (decide (p50 < p49)) (
 idx p48 p50 fun c14 =>
 cL 1 c14 0 fun v15 =>
 ifb (decide (((List.length v15:Nat):Int) > (520:Int))) (
 k_ret false) (
 lt (IntKind.wrap .i64 ((p50:Int)+(1:Int))) fun x16 =>
 k_hbbbabaabbaabbba p37 p38 p39 p48 p49 x16 b1)) (
 k_x4 p37 p38 p39 b1)
theorem zlE {β:Type} (yc:xo) (L:Nat) (p37:List (List V)) (p38 p39:Int) (p48:List (List V)) (p49 p50:Int) (b1:List V) (X:St→Option β) (K:KT β):xf yC (xC yc L) 0 L zaE (zbl p37 p38 p39 p48 p49 p50 b1) (yN zbS X K)=zdI yc L p37 p38 p39 p48 p49 p50 b1 (fun p2=>K .ret (yY p2)) (fun p37 p38 p39 p48 p49 p50 b1=>X (zbl p37 p38 p39 p48 p49 p50 b1)) (fun p37 p38 p39 b1=>K (.exit 4) (zkK p37 p38 p39 b1)):=by kernel_rfl
def zcA {β:Type} (yc:xo) (L:Nat) (p2:Bool) (k_ret:Bool→Option β):Option β :=
 k_ret p2
theorem zkf {β:Type} (yc:xo) (L:Nat) (p2:Bool) (X:St→Option β) (K:KT β):(yn 4 (yn 3 (zy (xf yC (xC yc L) 0 L zdp) (yN zaS X K)))) .ret (yY p2)=zcA yc L p2 (fun p2=>K .ret (yY p2)):=by kernel_rfl
def zcY {β:Type} (yc:xo) (L:Nat) (p37:List (List V)) (p38 p39:Int) (b1:List V) (k_hbbbaba:List (List V)→Int→Int→List V→Option β):Option β :=
 lt (IntKind.wrap .i64 ((p39:Int)+(1:Int))) fun x17 =>
 k_hbbbaba p37 p38 x17 b1
theorem zkL {β:Type} (yc:xo) (L:Nat) (p37:List (List V)) (p38 p39:Int) (b1:List V) (X:St→Option β) (K:KT β):(yn 4 (yn 3 (zy (xf yC (xC yc L) 0 L zdp) (yN zaS X K)))) (.exit 4) (zkK p37 p38 p39 b1)=zcY yc L p37 p38 p39 b1 (fun p37 p38 p39 b1=>X (zbm p37 p38 p39 b1)):=by kernel_rfl
def zd7 {β:Type} (yc:xo) (L:Nat) (k_ret:Bool→Option β) (k_x0:List V→Option β):Nat→List (List V)→Int→Int→List V→Option β
 | 0,_,_,_,_=>none
 | n+1,p20,p21,p22,b1=>zjG yc L p20 p21 p22 b1 k_ret (fun p20 p21 p22 b1=>zd7 yc L k_ret k_x0 n p20 p21 p22 b1) k_x0
theorem zlN {β:Type} (yc:xo) (L:Nat) (K:KT β):∀ (n:Nat) (p20:List (List V)) (p21 p22:Int) (b1:List V),xq (xf yC (xC yc L) 0 L zdB) zgd n (zeo p20 p21 p22 b1) K=zd7 yc L (fun p2=>K .ret (yY p2)) (fun b1=>K (.exit 0) (zg2 b1)) n p20 p21 p22 b1:=by
 intro n
 induction n with
 | zero=>intros; rfl
 | succ n ih =>
  intro p20 p21 p22 b1
  refine (zsX yc L p20 p21 p22 b1 (fun σ=>xq (xf yC (xC yc L) 0 L zdB) zgd n σ K) K).trans ?_
  simp only [ih]
  rfl
def zaV {β:Type} (yc:xo) (L:Nat) (k_ret:Bool→Option β) (k_x4:List (List V)→Int→Int→List V→Option β):Nat→List (List V)→Int→Int→List (List V)→Int→Int→List V→Option β
 | 0,_,_,_,_,_,_,_=>none
 | n+1,p37,p38,p39,p48,p49,p50,b1=>zdI yc L p37 p38 p39 p48 p49 p50 b1 k_ret (fun p37 p38 p39 p48 p49 p50 b1=>zaV yc L k_ret k_x4 n p37 p38 p39 p48 p49 p50 b1) k_x4
theorem zff {β:Type} (yc:xo) (L:Nat) (K:KT β):∀ (n:Nat) (p37:List (List V)) (p38 p39:Int) (p48:List (List V)) (p49 p50:Int) (b1:List V),xq (xf yC (xC yc L) 0 L zaE) zbS n (zbl p37 p38 p39 p48 p49 p50 b1) K=zaV yc L (fun p2=>K .ret (yY p2)) (fun p37 p38 p39 b1=>K (.exit 4) (zkK p37 p38 p39 b1)) n p37 p38 p39 p48 p49 p50 b1:=by
 intro n
 induction n with
 | zero=>intros; rfl
 | succ n ih =>
  intro p37 p38 p39 p48 p49 p50 b1
  refine (zlE yc L p37 p38 p39 p48 p49 p50 b1 (fun σ=>xq (xf yC (xC yc L) 0 L zaE) zbS n σ K) K).trans ?_
  simp only [ih]
  rfl
def ze6 {β:Type} (yc:xo) (L:Nat) (p37:List (List V)) (p38 p39:Int) (b1:List V) (k_ret:Bool→Option β) (k_x2:List V→Option β) (k_hbbbaba:List (List V)→Int→Int→List V→Option β):Option β :=
 zis yc L p37 p38 p39 b1 k_ret (fun p37 p38 p39 p48 p49 p50 b1=>zaV yc L (fun p2=>zcA yc L p2 k_ret) (fun p37 p38 p39 b1=>zcY yc L p37 p38 p39 b1 k_hbbbaba) L p37 p38 p39 p48 p49 p50 b1) k_x2
theorem zqY {β:Type} (yc:xo) (L:Nat) (p37:List (List V)) (p38 p39:Int) (b1:List V) (X:St→Option β) (K:KT β):xf yC (xC yc L) 0 L zbT (zbm p37 p38 p39 b1) (yN zaS X K)=ze6 yc L p37 p38 p39 b1 (fun p2=>K .ret (yY p2)) (fun b1=>K (.exit 2) (zg5 b1)) (fun p37 p38 p39 b1=>X (zbm p37 p38 p39 b1)):=by
 refine (zrx yc L p37 p38 p39 b1 X K).trans ?_
 unfold ze6
 first
  | (simp only [zff,zkf,zkL]; done)
  | (simp only [zff]; rfl)
def zdN {β:Type} (yc:xo) (L:Nat) (k_ret:Bool→Option β) (k_x2:List V→Option β):Nat→List (List V)→Int→Int→List V→Option β
 | 0,_,_,_,_=>none
 | n+1,p37,p38,p39,b1=>ze6 yc L p37 p38 p39 b1 k_ret k_x2 (fun p37 p38 p39 b1=>zdN yc L k_ret k_x2 n p37 p38 p39 b1)
theorem zlb {β:Type} (yc:xo) (L:Nat) (K:KT β):∀ (n:Nat) (p37:List (List V)) (p38 p39:Int) (b1:List V),xq (xf yC (xC yc L) 0 L zbT) zaS n (zbm p37 p38 p39 b1) K=zdN yc L (fun p2=>K .ret (yY p2)) (fun b1=>K (.exit 2) (zg5 b1)) n p37 p38 p39 b1:=by
 intro n
 induction n with
 | zero=>intros; rfl
 | succ n ih =>
  intro p37 p38 p39 b1
  refine (zqY yc L p37 p38 p39 b1 (fun σ=>xq (xf yC (xC yc L) 0 L zbT) zaS n σ K) K).trans ?_
  simp only [ih]
  rfl
def zer {β:Type} (yc:xo) (L:Nat) (b1:List V) (k_fin:Bool→Option β):Option β :=
 zhQ yc L b1 (fun p37 p38 p39 b1=>zdN yc L (fun p2=>zgm yc L p2 k_fin) (fun b1=>zhj yc L b1 k_fin) L p37 p38 p39 b1)
theorem zp5 {β:Type} (yc:xo) (L:Nat) (b1:List V) (k:KK β):(yn 0 (zy (xf yC (xC yc L) 0 L zfo) (yE 0 (CF.res zaB) k))) (.exit 0) (zg2 b1)=zer yc L b1 (fun p0=>k (V.sc (.bool p0)) []):=by
 refine (zqI yc L b1 k).trans ?_
 unfold zer
 first
  | (simp only [zlb,zpP,zp2]; done)
  | (simp only [zlb]; rfl)
def zlp {β:Type} (yc:xo) (L:Nat) (p0:List V) (k_fin:Bool→Option β):Option β :=
 zpf yc L p0 k_fin (fun p20 p21 p22 b1=>zd7 yc L (fun p2=>zgY yc L p2 k_fin) (fun b1=>zer yc L b1 k_fin) L p20 p21 p22 b1)
theorem zw7 {β:Type} (yc:xo) (L:Nat) (p0:List V) (k:KK β):zt yC (xC yc L) L zaB [(V.agg p0)] [] k=zlp yc L p0 (fun p0=>k (V.sc (.bool p0)) []):=by
 refine (zwM yc L p0 k).trans ?_
 unfold zlp
 first
  | (simp only [zlN,zpY,zp5]; done)
  | (simp only [zlN]; rfl)
abbrev zb2:=∀ (β:Type),Nat→List V→(Bool→Option β)→Option β
def yu (β:Type) (L:Nat) (p0:List V) (k_fin:Bool→Option β):Option β:=zlp yc L p0 k_fin
def zgv (yu:zb2) (L:Nat) (β:Type) (args:List V) (bor:Bor) (k:KK β):Option β:=match args,bor with
 | [a0],[]=>aG a0 fun p0=>yu β L p0 (fun p0=>k (V.sc (.bool p0)) [])
 | _,_=>none
theorem zxr (L:Nat) (β:Type) (args:List V) (bor:Bor) (k:KK β) (r:β) (h:zgv yu L β args bor k=some r):zt yC (xC yc L) L zaB args bor k=some r:=by
 unfold zgv at h
 split at h
 ·have q:=zaj h; clear h; obtain ⟨p0,rfl,h⟩:=q
  exact (zw7 yc L p0 k).trans h
 ·cases h
def zdA:CC:=(.seq (.seq (.reg [oo 17 (.move (tq 4) false),
   oo 18 (.bin .geq (tq 17) (.const (.sc (.int .i64 0))))])
 (.cond (tq 18)
 .skip
 (.seq (.mask (bl 8 31) (bl 1342177263 31))
 (.exit 2))))
 (.seq (.block 3 (.reg [oo 21 (.move (tq 3) true),
   oo 22 (.move (tq 0) false),
   oo 23 (.bin .mul (.const (.sc (.int .u64 8))) (tq 22)),
   oo 24 (.move (tq 4) false),
   oo 25 (.bin .mul (.const (.sc (.int .i64 8))) (tq 24)),
   oo 26 (.bin .shr (tq 23) (tq 25)),
   oo 27 (.conv .u8 (tq 26)),
   oo 28 (.buildSlice 1 1 [(.sc (.int .u8 0))] [(0,1,(tq 27))]),
   oo 29 (.append 1 1 (tq 21) (tq 28)),
   oo 3 (.move (tq 29) true)]))
 (.reg [oo 19 (.move (tq 4) false),
   oo 20 (.bin .sub (tq 19) (.const (.sc (.int .i64 1)))),
   oo 4 (.move (tq 20) false)])))
def zeT:CC:=(.seq (.seq (.reg [oo 6 (.move (tq 0) false),
   oo 7 (.move (tq 3) false),
   oo 8 (.lenS (tq 7)),
   oo 9 (.conv .u64 (tq 8)),
   oo 10 (.bin .add (tq 6) (tq 9)),
   oo 11 (.bin .add (tq 10) (.const (.sc (.int .u64 8)))),
   oo 12 (.bin .rem (tq 11) (.const (.sc (.int .u64 64)))),
   oo 13 (.bin .neq (tq 12) (.const (.sc (.int .u64 0))))])
 (.cond (tq 13)
 .skip
 (.seq (.mask (bl 9 31) (bl 2147385087 31))
 (.exit 0))))
 (.block 1 (.reg [oo 14 (.move (tq 3) true),
   oo 15 (.buildSlice 1 1 [(.sc (.int .u8 0))] [(0,1,(.const (.sc (.int .u8 0))))]),
   oo 16 (.append 1 1 (tq 14) (tq 15)),
   oo 3 (.move (tq 16) true)])))
def zmd:CC:=(.seq (.reg [oo 30 (.move (tq 3) true),
   oo 2 (.move (tq 30) true)])
 .ret)
def zjq:CC:=(.seq (.seq (.reg [oo 4 (.move (.const (.sc (.int .i64 7))) false)])
 (.block 2 (.loop (bl 25 31) (bl 1342177279 31)
 zdA)))
 zmd)
def zb4:CF:=⟨31,[.tmp 2],
 (.seq (.reg [oo 2 (.move (.const (.gs 1 [])) true)])
 (.seq (.reg [oo 5 (.buildSlice 1 1 [(.sc (.int .u8 0))] [(0,1,(.const (.sc (.int .u8 128))))]),
   oo 3 (.move (tq 5) true)])
 (.seq (.block 0 (.loop (bl 9 31) (bl 2147385087 31)
 zeT))
 zjq)))⟩
def zru:Hint:=⟨[(0,0),(1,1),(3,0),(3,3),(7,0),(7,9),(8,0),(8,1)],[],[none,some ((bl 9 31),(bl 2147385087 31)),none,some ((bl 9 31),(bl 2147385087 31)),none,none,some ((bl 25 31),(bl 1342177279 31)),none,some ((bl 8 31),(bl 1342177263 31)),none,none],[],[],false,false⟩
def zW:Nat→Sh:=xQ []
def xU (L:Nat):CBC:=noC
def zii:St→St:=zS 0 (bl 9 31) (bl 2147385087 31)
def zgb:St→St:=zS 0 (bl 25 31) (bl 1342177279 31)
def zfO (p0:Int) (p3:List (List V)):St:=⟨((V.sc (.int .u64 p0))::(jn 2 ((V.gs 1 p3)::(jn 27 [])))),(gn 31 [])⟩
def zhV (p0:Int) (p3:List (List V)):St:=⟨((V.sc (.int .u64 p0))::(jn 2 ((V.gs 1 p3)::(jn 27 [])))),(gn 31 [])⟩
def zek (p0:Int) (p3:List (List V)) (p4:Int):St:=⟨((V.sc (.int .u64 p0))::(jn 2 ((V.gs 1 p3)::((V.sc (.int .i64 p4))::(jn 26 []))))),(gn 31 [])⟩
def zlW (p3:List (List V)):St:=⟨(jn 3 ((V.gs 1 p3)::(jn 27 []))),(gn 31 [])⟩
def zrl {β:Type} (L:Nat) (p0:Int) (k_hbbaa:Int→List (List V)→Option β):Option β :=
 k_hbbaa p0 (yp 1 1 [(V.sc (.int .u8 (128:Int)))])
theorem zyv {β:Type} (L:Nat) (p0:Int) (k:KK β):zt zW (xU L) L zb4 [(V.sc (.int .u64 p0))] [] k=zrl L p0 (fun p0 p3=>xq (xf zW (xU L) 0 L zeT) zii L (zfO p0 p3) (yn 0 (zy (xf zW (xU L) 0 L zjq) (yE 0 (CF.res zb4) k)))):=by kernel_rfl
def zmi {β:Type} (L:Nat) (p0:Int) (p3:List (List V)) (k_hbbaa:Int→List (List V)→Option β) (k_x0:Int→List (List V)→Option β):Option β :=
 lt (IntKind.wrap .u64 ((List.length p3:Nat):Int)) fun x0 =>
 lt (IntKind.wrap .u64 ((p0:Int)+x0)) fun x1 =>
 lt (IntKind.wrap .u64 ((x1:Int)+(8:Int))) fun x2 =>
 lt (Int.tmod x2 (64:Int)) fun x3 =>
 ifb ((x3:Int) != (0:Int)) (
 chk ((List.length p3+List.length (yp 1 1 [(V.sc (.int .u8 (0:Int)))])) * 1≤yl∧List.length p3+List.length (yp 1 1 [(V.sc (.int .u8 (0:Int)))])≤yl) (
 lt (p3++(yp 1 1 [(V.sc (.int .u8 (0:Int)))])) fun l4 =>
 k_hbbaa p0 l4)) (
 k_x0 p0 p3)
theorem ztU {β:Type} (L:Nat) (p0:Int) (p3:List (List V)) (X:St→Option β) (K:KT β):xf zW (xU L) 0 L zeT (zfO p0 p3) (yN zii X K)=zmi L p0 p3 (fun p0 p3=>X (zfO p0 p3)) (fun p0 p3=>K (.exit 0) (zhV p0 p3)):=by kernel_rfl
def zjU {β:Type} (L:Nat) (p0:Int) (p3:List (List V)) (k_hbbbaba:Int→List (List V)→Int→Option β):Option β :=
 k_hbbbaba p0 p3 (7:Int)
theorem ztd {β:Type} (L:Nat) (p0:Int) (p3:List (List V)) (k:KK β):(yn 0 (zy (xf zW (xU L) 0 L zjq) (yE 0 (CF.res zb4) k))) (.exit 0) (zhV p0 p3)=zjU L p0 p3 (fun p0 p3 p4=>xq (xf zW (xU L) 0 L zdA) zgb L (zek p0 p3 p4) (yn 2 (zy (xf zW (xU L) 0 L zmd) (yE 0 (CF.res zb4) k)))):=by kernel_rfl
def zd9 {β:Type} (L:Nat) (p0:Int) (p3:List (List V)) (p4:Int) (k_hbbbaba:Int→List (List V)→Int→Option β) (k_x2:List (List V)→Option β):Option β :=
 ifb (decide (p4 ≥ (0:Int))) (
 lt (IntKind.wrap .u64 (((8:Int):Int) * p0)) fun x5 =>
 lt (IntKind.wrap .i64 (((8:Int):Int) * p4)) fun x6 =>
 chk (0≤x6) (
 lt (zcZ .u64 x5 x6) fun x7 =>
 lt (IntKind.wrap .u8 x7) fun x8 =>
 chk ((List.length p3+List.length (yp 1 1 [(V.sc (.int .u8 x8))])) * 1≤yl∧List.length p3+List.length (yp 1 1 [(V.sc (.int .u8 x8))])≤yl) (
 lt (p3++(yp 1 1 [(V.sc (.int .u8 x8))])) fun l9 =>
 lt (IntKind.wrap .i64 ((p4:Int) - (1:Int))) fun x10 =>
 k_hbbbaba p0 l9 x10))) (
 k_x2 p3)
theorem zsl {β:Type} (L:Nat) (p0:Int) (p3:List (List V)) (p4:Int) (X:St→Option β) (K:KT β):xf zW (xU L) 0 L zdA (zek p0 p3 p4) (yN zgb X K)=zd9 L p0 p3 p4 (fun p0 p3 p4=>X (zek p0 p3 p4)) (fun p3=>K (.exit 2) (zlW p3)):=by kernel_rfl
def zhw {β:Type} (L:Nat) (p3:List (List V)) (k_fin:List (List V)→Option β):Option β :=
 k_fin p3
theorem zqJ {β:Type} (L:Nat) (p3:List (List V)) (k:KK β):(yn 2 (zy (xf zW (xU L) 0 L zmd) (yE 0 (CF.res zb4) k))) (.exit 2) (zlW p3)=zhw L p3 (fun p0=>k (V.gs 1 p0) []):=by kernel_rfl
def zfM {β:Type} (L:Nat) (k_x0:Int→List (List V)→Option β):Nat→Int→List (List V)→Option β
 | 0,_,_=>none
 | n+1,p0,p3=>zmi L p0 p3 (fun p0 p3=>zfM L k_x0 n p0 p3) k_x0
theorem znD {β:Type} (L:Nat) (K:KT β):∀ (n:Nat) (p0:Int) (p3:List (List V)),xq (xf zW (xU L) 0 L zeT) zii n (zfO p0 p3) K=zfM L (fun p0 p3=>K (.exit 0) (zhV p0 p3)) n p0 p3:=by
 intro n
 induction n with
 | zero=>intros; rfl
 | succ n ih =>
  intro p0 p3
  refine (ztU L p0 p3 (fun σ=>xq (xf zW (xU L) 0 L zeT) zii n σ K) K).trans ?_
  simp only [ih]
  rfl
def zcP {β:Type} (L:Nat) (k_x2:List (List V)→Option β):Nat→Int→List (List V)→Int→Option β
 | 0,_,_,_=>none
 | n+1,p0,p3,p4=>zd9 L p0 p3 p4 (fun p0 p3 p4=>zcP L k_x2 n p0 p3 p4) k_x2
theorem zlk {β:Type} (L:Nat) (K:KT β):∀ (n:Nat) (p0:Int) (p3:List (List V)) (p4:Int),xq (xf zW (xU L) 0 L zdA) zgb n (zek p0 p3 p4) K=zcP L (fun p3=>K (.exit 2) (zlW p3)) n p0 p3 p4:=by
 intro n
 induction n with
 | zero=>intros; rfl
 | succ n ih =>
  intro p0 p3 p4
  refine (zsl L p0 p3 p4 (fun σ=>xq (xf zW (xU L) 0 L zdA) zgb n σ K) K).trans ?_
  simp only [ih]
  rfl
def zfA {β:Type} (L:Nat) (p0:Int) (p3:List (List V)) (k_fin:List (List V)→Option β):Option β :=
 zjU L p0 p3 (fun p0 p3 p4=>zcP L (fun p3=>zhw L p3 k_fin) L p0 p3 p4)
theorem zr5 {β:Type} (L:Nat) (p0:Int) (p3:List (List V)) (k:KK β):(yn 0 (zy (xf zW (xU L) 0 L zjq) (yE 0 (CF.res zb4) k))) (.exit 0) (zhV p0 p3)=zfA L p0 p3 (fun p0=>k (V.gs 1 p0) []):=by
 refine (ztd L p0 p3 k).trans ?_
 unfold zfA
 first
  | (simp only [zlk,zqJ]; done)
  | (simp only [zlk]; rfl)
def zni {β:Type} (L:Nat) (p0:Int) (k_fin:List (List V)→Option β):Option β :=
 zrl L p0 (fun p0 p3=>zfM L (fun p0 p3=>zfA L p0 p3 k_fin) L p0 p3)
theorem zyh {β:Type} (L:Nat) (p0:Int) (k:KK β):zt zW (xU L) L zb4 [(V.sc (.int .u64 p0))] [] k=zni L p0 (fun p0=>k (V.gs 1 p0) []):=by
 refine (zyv L p0 k).trans ?_
 unfold zni
 first
  | (simp only [znD,zr5]; done)
  | (simp only [znD]; rfl)
abbrev xR:=∀ (β:Type),Nat→Int→(List (List V)→Option β)→Option β
def xh (β:Type) (L:Nat) (p0:Int) (k_fin:List (List V)→Option β):Option β:=zni L p0 k_fin
def znc (xh:xR) (L:Nat) (β:Type) (args:List V) (bor:Bor) (k:KK β):Option β:=match args,bor with
 | [a0],[]=>aI .u64 a0 fun p0=>xh β L p0 (fun p0=>k (V.gs 1 p0) [])
 | _,_=>none
theorem zx1 (L:Nat) (β:Type) (args:List V) (bor:Bor) (k:KK β) (r:β) (h:znc xh L β args bor k=some r):zt zW (xU L) L zb4 args bor k=some r:=by
 unfold znc at h
 split at h
 ·have q:=zbt h; clear h; obtain ⟨p0,rfl,h⟩:=q
  exact (zyh L p0 k).trans h
 ·cases h
def zgT:CF:=⟨2,[.cell 0 true 8],
 (.seq (.reg [oo 0 (.alloc true [(.sc (.int .u32 0)),(.sc (.int .u32 0)),(.sc (.int .u32 0)),(.sc (.int .u32 0)),(.sc (.int .u32 0)),(.sc (.int .u32 0)),(.sc (.int .u32 0)),(.sc (.int .u32 0))])])
 (.seq (.reg [oo 1 (.build [(.sc (.int .u32 0)),(.sc (.int .u32 0)),(.sc (.int .u32 0)),(.sc (.int .u32 0)),(.sc (.int .u32 0)),(.sc (.int .u32 0)),(.sc (.int .u32 0)),(.sc (.int .u32 0))] [(0,1,(.const (.sc (.int .u32 1779033703)))),(1,1,(.const (.sc (.int .u32 3144134277)))),(2,1,(.const (.sc (.int .u32 1013904242)))),(3,1,(.const (.sc (.int .u32 2773480762)))),(4,1,(.const (.sc (.int .u32 1359893119)))),(5,1,(.const (.sc (.int .u32 2600822924)))),(6,1,(.const (.sc (.int .u32 528734635)))),(7,1,(.const (.sc (.int .u32 1541459225))))]),
   oz (.store 8 (tq 0) (tq 1))])
 .ret))⟩
def znI:Hint:=⟨[],[],[none],[],[],false,false⟩
def zkR:Nat→Sh:=xQ []
def zkB (L:Nat):CBC:=noC
def zlH {β:Type} (L:Nat) (k_fin:List V→Option β):Option β :=
 lt [(V.sc (.int .u32 (1779033703:Int))),(V.sc (.int .u32 (3144134277:Int))),(V.sc (.int .u32 (1013904242:Int))),(V.sc (.int .u32 (2773480762:Int))),(V.sc (.int .u32 (1359893119:Int))),(V.sc (.int .u32 (2600822924:Int))),(V.sc (.int .u32 (528734635:Int))),(V.sc (.int .u32 (1541459225:Int)))] fun r0 =>
 chk (0=0∧(List.length r0)=8∧8≠0) (
 k_fin r0)
theorem zt0 {β:Type} (L:Nat) (k:KK β):zt zkR (zkB L) L zgT [] [] k=zlH L (fun p0=>k (V.agg p0) []):=by kernel_rfl
abbrev zI:=∀ (β:Type),Nat→(List V→Option β)→Option β
def zf (β:Type) (L:Nat) (k_fin:List V→Option β):Option β:=zlH L k_fin
def zhZ (zf:zI) (L:Nat) (β:Type) (args:List V) (bor:Bor) (k:KK β):Option β:=match args,bor with
 | [],[]=>zf β L (fun p0=>k (V.agg p0) [])
 | _,_=>none
theorem ztX (L:Nat) (β:Type) (args:List V) (bor:Bor) (k:KK β) (r:β) (h:zhZ zf L β args bor k=some r):zt zkR (zkB L) L zgT args bor k=some r:=by
 unfold zhZ at h
 split at h
 ·exact (zt0 L k).trans h
 ·cases h
def zkw:CF:=⟨9,[.tmp 4],
 (.seq (.reg [oo 4 (.move (.const (.sc (.int .u32 0))) false)])
 (.seq (.reg [oo 5 (.move (tq 0) false),
   oo 6 (.move (tq 1) false),
   oo 7 (.un .neg (tq 6)),
   oo 8 (.call 572 [((tq 5),0),((tq 7),0)] []),
   oo 4 (.move (tq 8) false)])
 .ret))⟩
def zqB:Hint:=⟨[],[],[none],[],[],false,false⟩
def zon:Nat→Sh:=xQ []
def zn8 (zl:y9) (L:Nat):CBC:=(xy 572 (zbv zl L) noC)
def zpG {β:Type} (zl:y9) (L:Nat) (p0 p1:Int) (k_fin:Int→Option β):Option β :=
 lt (IntKind.wrap .i64 (0 - p1)) fun x0 =>
 zl β L p0 x0 (fun v1 =>
 k_fin v1)
theorem zxV {β:Type} (zl:y9) (L:Nat) (p0 p1:Int) (k:KK β):zt zon (zn8 zl L) L zkw [(V.sc (.int .u32 p0)),(V.sc (.int .i64 p1))] [] k=zpG zl L p0 p1 (fun p0=>k (V.sc (.int .u32 p0)) []):=by kernel_rfl
abbrev yz:=∀ (β:Type),Nat→Int→Int→(Int→Option β)→Option β
def xd (β:Type) (L:Nat) (p0 p1:Int) (k_fin:Int→Option β):Option β:=zpG zl L p0 p1 k_fin
def zi6 (xd:yz) (L:Nat) (β:Type) (args:List V) (bor:Bor) (k:KK β):Option β:=match args,bor with
 | [a0,a1],[]=>aI .u32 a0 fun p0=>aI .i64 a1 fun p1=>xd β L p0 p1 (fun p0=>k (V.sc (.int .u32 p0)) [])
 | _,_=>none
theorem zx0 (L:Nat) (β:Type) (args:List V) (bor:Bor) (k:KK β) (r:β) (h:zi6 xd L β args bor k=some r):zt zon (zn8 zl L) L zkw args bor k=some r:=by
 unfold zi6 at h
 split at h
 ·have q:=zbt h; clear h; obtain ⟨p0,rfl,h⟩:=q
  have q:=zbt h; clear h; obtain ⟨p1,rfl,h⟩:=q
  exact (zxV zl L p0 p1 k).trans h
 ·cases h
end
end Go.Proofs.YtoeobffjdbdpgaaDoor
