/- Part 10 of the proof of TxWitnessFree: an abstract machine over plain values, its soundness, and the functions of the program on plain values. -/
import Derived.Test.YtoeobffjdbdpgaaDoorMTxWitnessFree9
namespace Go.Proofs.YtoeobffjdbdpgaaDoor
section
set_option maxRecDepth 100000
set_option linter.unusedVariables false
set_option linter.unusedSimpArgs false
def z9:CC:=(.seq (.reg [oo 13 (.bin .lss (tq 12) (.const (.sc (.int .i64 4))))])
 (.seq (.cond (tq 13)
 .skip
 (.seq (.mask (bl 526 85) (bl 38685626227668133590597599 85))
 (.exit 2)))
 (.seq (.block 3 (.seq (.reg [oo 14 (.move (tq 12) false),
   oo 5 (.move (tq 14) false)])
 (.dreg [] [(oo 15 (.move (tq 4) false),q0),
   (oo 16 (.move (tq 4) false),q0),
   (oo 17 (.indexAddrA 64 1 (tq 3) (tq 16)),q0),
   (oo 18 (.load false 1 (tq 17) false),qc [] []),
   (oo 19 (.bin .shl (tq 18) (.const (.sc (.int .u64 8)))),q0),
   (oo 20 (.move (tq 4) false),q0),
   (oo 21 (.bin .mul (.const (.sc (.int .i64 4))) (tq 20)),q0),
   (oo 22 (.move (tq 5) false),q0),
   (oo 23 (.bin .add (tq 21) (tq 22)),q0),
   (oo 24 (.indexAddrA 64 1 (tq 1) (tq 23)),q0),
   (oo 25 (.load false 1 (tq 24) false),qc [] []),
   (oo 26 (.conv .u32 (tq 25)),q0),
   (oo 27 (.bin .or (tq 19) (tq 26)),q0),
   (oo 28 (.indexAddrA 64 1 (tq 3) (tq 15)),q0),
   (oz (.store 1 (tq 28) (tq 27)),q0)])))
 (.reg [oo 29 (.bin .add (tq 12) (.const (.sc (.int .i64 1)))),
   oo 12 (.move (tq 29) false)]))))
def zdg:CC:=(.reg [oo 30 (.bin .add (tq 9) (.const (.sc (.int .i64 1)))),
   oo 9 (.move (tq 30) false)])
def zbg:CC:=(.seq (.seq (.reg [oo 31 (.move (tq 6) false),
   oo 32 (.bin .lss (tq 31) (.const (.sc (.int .i64 64))))])
 (.cond (tq 32)
 .skip
 (.seq (.mask (bl 12 85) (bl 38685623849749388397116989 85))
 (.exit 4))))
 (.seq (.block 5 (.seq (.dreg [] [(oo 35 (.move (tq 6) false),q0),
   (oo 36 (.bin .sub (tq 35) (.const (.sc (.int .i64 15)))),q0),
   (oo 37 (.indexAddrA 64 1 (tq 3) (tq 36)),q0),
   (oo 38 (.load false 1 (tq 37) false),q1),
   (oo 39 (.call 535 [((tq 38),0),((.const (.sc (.int .i64 7))),0)] []),q1),
   (oo 40 (.move (tq 6) false),q0),
   (oo 41 (.bin .sub (tq 40) (.const (.sc (.int .i64 15)))),q0),
   (oo 42 (.indexAddrA 64 1 (tq 3) (tq 41)),q0),
   (oo 43 (.load false 1 (tq 42) false),q1),
   (oo 44 (.call 535 [((tq 43),0),((.const (.sc (.int .i64 18))),0)] []),q1),
   (oo 45 (.bin .xor (tq 39) (tq 44)),q0),
   (oo 46 (.move (tq 6) false),q0),
   (oo 47 (.bin .sub (tq 46) (.const (.sc (.int .i64 15)))),q0),
   (oo 48 (.indexAddrA 64 1 (tq 3) (tq 47)),q0),
   (oo 49 (.load false 1 (tq 48) false),q1),
   (oo 50 (.bin .shr (tq 49) (.const (.sc (.int .u64 3)))),q0),
   (oo 51 (.bin .xor (tq 45) (tq 50)),q0),
   (oo 7 (.move (tq 51) false),q0)])
 (.seq (.dreg [] [(oo 52 (.move (tq 6) false),q0),
   (oo 53 (.bin .sub (tq 52) (.const (.sc (.int .i64 2)))),q0),
   (oo 54 (.indexAddrA 64 1 (tq 3) (tq 53)),q0),
   (oo 55 (.load false 1 (tq 54) false),q1),
   (oo 56 (.call 535 [((tq 55),0),((.const (.sc (.int .i64 17))),0)] []),q1),
   (oo 57 (.move (tq 6) false),q0),
   (oo 58 (.bin .sub (tq 57) (.const (.sc (.int .i64 2)))),q0),
   (oo 59 (.indexAddrA 64 1 (tq 3) (tq 58)),q0),
   (oo 60 (.load false 1 (tq 59) false),q1),
   (oo 61 (.call 535 [((tq 60),0),((.const (.sc (.int .i64 19))),0)] []),q1),
   (oo 62 (.bin .xor (tq 56) (tq 61)),q0),
   (oo 63 (.move (tq 6) false),q0),
   (oo 64 (.bin .sub (tq 63) (.const (.sc (.int .i64 2)))),q0),
   (oo 65 (.indexAddrA 64 1 (tq 3) (tq 64)),q0),
   (oo 66 (.load false 1 (tq 65) false),q1),
   (oo 67 (.bin .shr (tq 66) (.const (.sc (.int .u64 10)))),q0),
   (oo 68 (.bin .xor (tq 62) (tq 67)),q0),
   (oo 8 (.move (tq 68) false),q0)])
 (.dreg [] [(oo 69 (.move (tq 6) false),q0),
   (oo 70 (.move (tq 6) false),q0),
   (oo 71 (.bin .sub (tq 70) (.const (.sc (.int .i64 16)))),q0),
   (oo 72 (.indexAddrA 64 1 (tq 3) (tq 71)),q0),
   (oo 73 (.load false 1 (tq 72) false),qc [] []),
   (oo 74 (.move (tq 7) false),q0),
   (oo 75 (.bin .add (tq 73) (tq 74)),q0),
   (oo 76 (.move (tq 6) false),q0),
   (oo 77 (.bin .sub (tq 76) (.const (.sc (.int .i64 7)))),q0),
   (oo 78 (.indexAddrA 64 1 (tq 3) (tq 77)),q0),
   (oo 79 (.load false 1 (tq 78) false),qc [] []),
   (oo 80 (.bin .add (tq 75) (tq 79)),q0),
   (oo 81 (.move (tq 8) false),q0),
   (oo 82 (.bin .add (tq 80) (tq 81)),q0),
   (oo 83 (.indexAddrA 64 1 (tq 3) (tq 69)),q0),
   (oz (.store 1 (tq 83) (tq 82)),q0)]))))
 (.reg [oo 33 (.move (tq 6) false),
   oo 34 (.bin .add (tq 33) (.const (.sc (.int .i64 1)))),
   oo 6 (.move (tq 34) false)])))
def zaL:CC:=(.seq (.reg [oo 10 (.bin .lss (tq 9) (.const (.sc (.int .i64 16))))])
 (.seq (.cond (tq 10)
 .skip
 (.seq (.mask (bl 12 85) (bl 38685626227668133590597581 85))
 (.exit 0)))
 (.seq (.block 1 (.seq (.reg [oo 11 (.move (tq 9) false),
   oo 4 (.move (tq 11) false)])
 (.seq (.reg [oo 12 (.move (.const (.sc (.int .i64 0))) false)])
 (.block 2 (.loop (bl 4638 85) (bl 38685626227668133590597599 85)
 z9)))))
 zdg)))
def zfP:CC:=(.seq (.reg [oo 84 (.load true 64 (tq 3) false),
   oz (.store 64 (tq 2) (tq 84))])
 .ret)
def zdR:CC:=(.seq (.seq (.reg [oo 6 (.move (.const (.sc (.int .i64 16))) false)])
 (.block 4 (.loop (bl 76 85) (bl 38685623849749388397117053 85)
 zbg)))
 zfP)
def zaf:CF:=⟨85,[.cell 2 true 64],
 (.seq (.reg [oo 1 (.box true (tq 0)),
   oo 2 (.alloc true (rp 64 (.sc (.int .u32 0)) []))])
 (.seq (.reg [oo 3 (.alloc true (rp 64 (.sc (.int .u32 0)) []))])
 (.seq (.seq (.reg [oo 9 (.move (.const (.sc (.int .i64 0))) false)])
 (.block 0 (.loop (bl 526 85) (bl 38685626227668133590597583 85)
 zaL)))
 zdR)))⟩
def zj9:Hint:=⟨[],[],[none,some ((bl 526 85),(bl 38685626227668133590597583 85)),none,some ((bl 12 85),(bl 38685626227668133590597581 85)),none,none,some ((bl 4638 85),(bl 38685626227668133590597599 85)),none,some ((bl 526 85),(bl 38685626227668133590597599 85)),none,none,some ((bl 76 85),(bl 38685623849749388397117053 85)),none,some ((bl 12 85),(bl 38685623849749388397116989 85)),none,none],[],[],false,false,[]⟩
def xw:Nat→Sh:=xI [(18,(.int .u32)),(25,(.int .u8)),(38,(.int .u32)),(43,(.int .u32)),(49,(.int .u32)),(55,(.int .u32)),(60,(.int .u32)),(66,(.int .u32)),(73,(.int .u32)),(79,(.int .u32))]
def yw (yb:yr) (L:Nat):CBC:=(xr 535 (ziv yb L) noC)
def zau:St→St:=yJ 0 (bl 526 85) (bl 38685626227668133590597583 85)
def zaX:St→St:=yJ 0 (bl 4638 85) (bl 38685626227668133590597599 85)
def zcA:St→St:=yJ 0 (bl 76 85) (bl 38685623849749388397117053 85)
def zap (p9:Int) (b1 b2 b3:List V):St:=⟨(jn 1 ((V.ptr 1 0)::((V.ptr 2 0)::((V.ptr 3 0)::(jn 5 ((V.sc (.int .i64 p9))::(jn 75 []))))))),(gn 1 ((.live true b1)::((.live true b2)::((.live true b3)::(gn 81 [])))))⟩
def zaA (p4 p9 p12:Int) (b1 b2 b3:List V):St:=⟨(jn 1 ((V.ptr 1 0)::((V.ptr 2 0)::((V.ptr 3 0)::((V.sc (.int .i64 p4))::(jn 4 ((V.sc (.int .i64 p9))::(jn 2 ((V.sc (.int .i64 p12))::(jn 72 [])))))))))),(gn 1 ((.live true b1)::((.live true b2)::((.live true b3)::(gn 81 [])))))⟩
def zb4 (b2 b3:List V):St:=⟨(jn 2 ((V.ptr 2 0)::((V.ptr 3 0)::(jn 81 [])))),(gn 2 ((.live true b2)::((.live true b3)::(gn 81 []))))⟩
def zbG (p6:Int) (b2 b3:List V):St:=⟨(jn 2 ((V.ptr 2 0)::((V.ptr 3 0)::(jn 2 ((V.sc (.int .i64 p6))::(jn 78 [])))))),(gn 2 ((.live true b2)::((.live true b3)::(gn 81 []))))⟩
def zfX (p9:Int) (b1 b2 b3:List V):St:=⟨(jn 1 ((V.ptr 1 0)::((V.ptr 2 0)::((V.ptr 3 0)::(jn 5 ((V.sc (.int .i64 p9))::(jn 75 []))))))),(gn 1 ((.live true b1)::((.live true b2)::((.live true b3)::(gn 81 [])))))⟩
def zft (b2 b3:List V):St:=⟨(jn 2 ((V.ptr 2 0)::((V.ptr 3 0)::(jn 81 [])))),(gn 2 ((.live true b2)::((.live true b3)::(gn 81 []))))⟩
def zi7 {β:Type} (yb:yr) (L:Nat) (p0:List V) (k_hbbaba:Int→List V→List V→List V→Option β):Option β :=
 k_hbbaba (0:Int) p0 (List.replicate 64 (V.sc (.int .u32 (0:Int)))) (List.replicate 64 (V.sc (.int .u32 (0:Int))))
theorem zry {β:Type} (yb:yr) (L:Nat) (p0:List V) (k:KK β):yz xw (yw yb L) L zaf [(V.agg p0)] [] k=zi7 yb L p0 (fun p9 b1 b2 b3=>xy (zj xw (yw yb L) 0 L zaL) zau L (zap p9 b1 b2 b3) (zr 0 (xH (zj xw (yw yb L) 0 L zdR) (zP 0 (CF.res zaf) k)))):=by kernel_rfl
def zc8 {β:Type} (yb:yr) (L:Nat) (p9:Int) (b1 b2 b3:List V) (k_hbbabaabbaabba:Int→Int→Int→List V→List V→List V→Option β) (k_x0:List V→List V→Option β):Option β :=
 ifb (decide (p9 < (16:Int))) (
 k_hbbabaabbaabba p9 p9 (0:Int) b1 b2 b3) (
 k_x0 b2 b3)
theorem zmH {β:Type} (yb:yr) (L:Nat) (p9:Int) (b1 b2 b3:List V) (X:St→Option β) (K:KT β):zj xw (yw yb L) 0 L zaL (zap p9 b1 b2 b3) (y5 zau X K)=zc8 yb L p9 b1 b2 b3 (fun p4 p9 p12 b1 b2 b3=>xy (zj xw (yw yb L) 0 L z9) zaX L (zaA p4 p9 p12 b1 b2 b3) (zr 2 (zr 1 (xH (zj xw (yw yb L) 0 L zdg) (y5 zau X K))))) (fun b2 b3=>K (.exit 0) (zb4 b2 b3)):=by kernel_rfl
def zd1 {β:Type} (yb:yr) (L:Nat) (b2 b3:List V) (k_hbbbaba:Int→List V→List V→Option β):Option β :=
 k_hbbbaba (16:Int) b2 b3
theorem zk4 {β:Type} (yb:yr) (L:Nat) (b2 b3:List V) (k:KK β):(zr 0 (xH (zj xw (yw yb L) 0 L zdR) (zP 0 (CF.res zaf) k))) (.exit 0) (zb4 b2 b3)=zd1 yb L b2 b3 (fun p6 b2 b3=>xy (zj xw (yw yb L) 0 L zbg) zcA L (zbG p6 b2 b3) (zr 4 (xH (zj xw (yw yb L) 0 L zfP) (zP 0 (CF.res zaf) k)))):=by kernel_rfl
def yL {β:Type} (yb:yr) (L:Nat) (p4 p9 p12:Int) (b1 b2 b3:List V) (k_hbbabaabbaabba:Int→Int→Int→List V→List V→List V→Option β) (k_x2:Int→List V→List V→List V→Option β):Option β :=
 ifb (decide (p12 < (4:Int))) (
 chk (0≤p4∧p4 < ((64:Nat):Int)) (
 cI .u32 b3 (0+((Int.toNat p4) * 1)) fun v0 =>
 lt (zjX .u32 v0 (8:Int)) fun x1 =>
 lt (IntKind.wrap .i64 (((4:Int):Int) * p4)) fun x2 =>
 lt (IntKind.wrap .i64 ((x2:Int)+p12)) fun x3 =>
 chk (0≤x3∧x3 < ((64:Nat):Int)) (
 cI .u8 b1 (0+((Int.toNat x3) * 1)) fun v4 =>
 lt (IntKind.wrap .u32 v4) fun x5 =>
 lt (ior .u32 x1 x5) fun x6 =>
 chk (0≤p4∧p4 < ((64:Nat):Int)) (
 chk (1=1∧(0+((Int.toNat p4) * 1))+1≤(List.length b3)) (
 lt (xk b3 (0+((Int.toNat p4) * 1)) [(V.sc (.int .u32 x6))]) fun r7 =>
 lt (IntKind.wrap .i64 ((p12:Int)+(1:Int))) fun x8 =>
 k_hbbabaabbaabba p4 p9 x8 b1 b2 r7))))) (
 k_x2 p9 b1 b2 b3)
theorem zis {β:Type} (yb:yr) (L:Nat) (p4 p9 p12:Int) (b1 b2 b3:List V) (X:St→Option β) (K:KT β):zj xw (yw yb L) 0 L z9 (zaA p4 p9 p12 b1 b2 b3) (y5 zaX X K)=yL yb L p4 p9 p12 b1 b2 b3 (fun p4 p9 p12 b1 b2 b3=>X (zaA p4 p9 p12 b1 b2 b3)) (fun p9 b1 b2 b3=>K (.exit 2) (zfX p9 b1 b2 b3)):=by kernel_rfl
def zbn {β:Type} (yb:yr) (L:Nat) (p6:Int) (b2 b3:List V) (k_hbbbaba:Int→List V→List V→Option β) (k_x4:List V→List V→Option β):Option β :=
 ifb (decide (p6 < (64:Int))) (
 lt (IntKind.wrap .i64 ((p6:Int) - (15:Int))) fun x9 =>
 chk (0≤x9∧x9 < ((64:Nat):Int)) (
 cI .u32 b3 (0+((Int.toNat x9) * 1)) fun v10 =>
 yb β L v10 (7:Int) (fun v11 =>
 lt (IntKind.wrap .i64 ((p6:Int) - (15:Int))) fun x12 =>
 chk (0≤x12∧x12 < ((64:Nat):Int)) (
 cI .u32 b3 (0+((Int.toNat x12) * 1)) fun v13 =>
 yb β L v13 (18:Int) (fun v14 =>
 lt (zaR .u32 v11 v14) fun x15 =>
 lt (IntKind.wrap .i64 ((p6:Int) - (15:Int))) fun x16 =>
 chk (0≤x16∧x16 < ((64:Nat):Int)) (
 cI .u32 b3 (0+((Int.toNat x16) * 1)) fun v17 =>
 lt (zdJ .u32 v17 (3:Int)) fun x18 =>
 lt (zaR .u32 x15 x18) fun x19 =>
 lt (IntKind.wrap .i64 ((p6:Int) - (2:Int))) fun x20 =>
 chk (0≤x20∧x20 < ((64:Nat):Int)) (
 cI .u32 b3 (0+((Int.toNat x20) * 1)) fun v21 =>
 yb β L v21 (17:Int) (fun v22 =>
 lt (IntKind.wrap .i64 ((p6:Int) - (2:Int))) fun x23 =>
 chk (0≤x23∧x23 < ((64:Nat):Int)) (
 cI .u32 b3 (0+((Int.toNat x23) * 1)) fun v24 =>
 yb β L v24 (19:Int) (fun v25 =>
 lt (zaR .u32 v22 v25) fun x26 =>
 lt (IntKind.wrap .i64 ((p6:Int) - (2:Int))) fun x27 =>
 chk (0≤x27∧x27 < ((64:Nat):Int)) (
 cI .u32 b3 (0+((Int.toNat x27) * 1)) fun v28 =>
 lt (zdJ .u32 v28 (10:Int)) fun x29 =>
 lt (zaR .u32 x26 x29) fun x30 =>
 lt (IntKind.wrap .i64 ((p6:Int) - (16:Int))) fun x31 =>
 chk (0≤x31∧x31 < ((64:Nat):Int)) (
 cI .u32 b3 (0+((Int.toNat x31) * 1)) fun v32 =>
 lt (IntKind.wrap .u32 ((v32:Int)+x19)) fun x33 =>
 lt (IntKind.wrap .i64 ((p6:Int) - (7:Int))) fun x34 =>
 chk (0≤x34∧x34 < ((64:Nat):Int)) (
 cI .u32 b3 (0+((Int.toNat x34) * 1)) fun v35 =>
 lt (IntKind.wrap .u32 ((x33:Int)+v35)) fun x36 =>
 lt (IntKind.wrap .u32 ((x36:Int)+x30)) fun x37 =>
 chk (0≤p6∧p6 < ((64:Nat):Int)) (
 chk (1=1∧(0+((Int.toNat p6) * 1))+1≤(List.length b3)) (
 lt (xk b3 (0+((Int.toNat p6) * 1)) [(V.sc (.int .u32 x37))]) fun r38 =>
 lt (IntKind.wrap .i64 ((p6:Int)+(1:Int))) fun x39 =>
 k_hbbbaba x39 b2 r38))))))))))))))) (
 k_x4 b2 b3)
theorem zlE {β:Type} (yb:yr) (L:Nat) (p6:Int) (b2 b3:List V) (X:St→Option β) (K:KT β):zj xw (yw yb L) 0 L zbg (zbG p6 b2 b3) (y5 zcA X K)=zbn yb L p6 b2 b3 (fun p6 b2 b3=>X (zbG p6 b2 b3)) (fun b2 b3=>K (.exit 4) (zft b2 b3)):=by kernel_rfl
def zbC {β:Type} (yb:yr) (L:Nat) (p9:Int) (b1 b2 b3:List V) (k_hbbaba:Int→List V→List V→List V→Option β):Option β :=
 lt (IntKind.wrap .i64 ((p9:Int)+(1:Int))) fun x40 =>
 k_hbbaba x40 b1 b2 b3
theorem zhe {β:Type} (yb:yr) (L:Nat) (p9:Int) (b1 b2 b3:List V) (X:St→Option β) (K:KT β):(zr 2 (zr 1 (xH (zj xw (yw yb L) 0 L zdg) (y5 zau X K)))) (.exit 2) (zfX p9 b1 b2 b3)=zbC yb L p9 b1 b2 b3 (fun p9 b1 b2 b3=>X (zap p9 b1 b2 b3)):=by kernel_rfl
def zdG {β:Type} (yb:yr) (L:Nat) (b2 b3:List V) (k_fin:List V→Option β):Option β :=
 chk (0+64≤(List.length b3)) (
 chk ((List.length (List.take 64 b3))=64∧0+64≤(List.length b2)) (
 lt (xk b2 0 (List.take 64 b3)) fun r41 =>
 chk (0=0∧(List.length r41)=64∧64≠0) (
 k_fin r41)))
theorem zkH {β:Type} (yb:yr) (L:Nat) (b2 b3:List V) (k:KK β):(zr 4 (xH (zj xw (yw yb L) 0 L zfP) (zP 0 (CF.res zaf) k))) (.exit 4) (zft b2 b3)=zdG yb L b2 b3 (fun p0=>k (V.agg p0) []):=by kernel_rfl
def yF {β:Type} (yb:yr) (L:Nat) (k_x2:Int→List V→List V→List V→Option β):Nat→Int→Int→Int→List V→List V→List V→Option β
 | 0,_,_,_,_,_,_=>none
 | n+1,p4,p9,p12,b1,b2,b3=>yL yb L p4 p9 p12 b1 b2 b3 (fun p4 p9 p12 b1 b2 b3=>yF yb L k_x2 n p4 p9 p12 b1 b2 b3) k_x2
theorem zdD {β:Type} (yb:yr) (L:Nat) (K:KT β):∀ (n:Nat) (p4 p9 p12:Int) (b1 b2 b3:List V),xy (zj xw (yw yb L) 0 L z9) zaX n (zaA p4 p9 p12 b1 b2 b3) K=yF yb L (fun p9 b1 b2 b3=>K (.exit 2) (zfX p9 b1 b2 b3)) n p4 p9 p12 b1 b2 b3:=by
 intro n
 induction n with
 | zero=>intros; rfl
 | succ n ih =>
  intro p4 p9 p12 b1 b2 b3
  refine (zis yb L p4 p9 p12 b1 b2 b3 (fun σ=>xy (zj xw (yw yb L) 0 L z9) zaX n σ K) K).trans ?_
  simp only [ih]
  rfl
def zaN {β:Type} (yb:yr) (L:Nat) (p9:Int) (b1 b2 b3:List V) (k_x0:List V→List V→Option β) (k_hbbaba:Int→List V→List V→List V→Option β):Option β :=
 zc8 yb L p9 b1 b2 b3 (fun p4 p9 p12 b1 b2 b3=>yF yb L (fun p9 b1 b2 b3=>zbC yb L p9 b1 b2 b3 k_hbbaba) L p4 p9 p12 b1 b2 b3) k_x0
theorem zlD {β:Type} (yb:yr) (L:Nat) (p9:Int) (b1 b2 b3:List V) (X:St→Option β) (K:KT β):zj xw (yw yb L) 0 L zaL (zap p9 b1 b2 b3) (y5 zau X K)=zaN yb L p9 b1 b2 b3 (fun b2 b3=>K (.exit 0) (zb4 b2 b3)) (fun p9 b1 b2 b3=>X (zap p9 b1 b2 b3)):=by
 refine (zmH yb L p9 b1 b2 b3 X K).trans ?_
 unfold zaN
 first
  | (simp only [zdD,zhe]; done)
  | (simp only [zdD]; rfl)
def zaY {β:Type} (yb:yr) (L:Nat) (k_x0:List V→List V→Option β):Nat→Int→List V→List V→List V→Option β
 | 0,_,_,_,_=>none
 | n+1,p9,b1,b2,b3=>zaN yb L p9 b1 b2 b3 k_x0 (fun p9 b1 b2 b3=>zaY yb L k_x0 n p9 b1 b2 b3)
theorem zgK {β:Type} (yb:yr) (L:Nat) (K:KT β):∀ (n:Nat) (p9:Int) (b1 b2 b3:List V),xy (zj xw (yw yb L) 0 L zaL) zau n (zap p9 b1 b2 b3) K=zaY yb L (fun b2 b3=>K (.exit 0) (zb4 b2 b3)) n p9 b1 b2 b3:=by
 intro n
 induction n with
 | zero=>intros; rfl
 | succ n ih =>
  intro p9 b1 b2 b3
  refine (zlD yb L p9 b1 b2 b3 (fun σ=>xy (zj xw (yw yb L) 0 L zaL) zau n σ K) K).trans ?_
  simp only [ih]
  rfl
def zaK {β:Type} (yb:yr) (L:Nat) (k_x4:List V→List V→Option β):Nat→Int→List V→List V→Option β
 | 0,_,_,_=>none
 | n+1,p6,b2,b3=>zbn yb L p6 b2 b3 (fun p6 b2 b3=>zaK yb L k_x4 n p6 b2 b3) k_x4
theorem zgk {β:Type} (yb:yr) (L:Nat) (K:KT β):∀ (n:Nat) (p6:Int) (b2 b3:List V),xy (zj xw (yw yb L) 0 L zbg) zcA n (zbG p6 b2 b3) K=zaK yb L (fun b2 b3=>K (.exit 4) (zft b2 b3)) n p6 b2 b3:=by
 intro n
 induction n with
 | zero=>intros; rfl
 | succ n ih =>
  intro p6 b2 b3
  refine (zlE yb L p6 b2 b3 (fun σ=>xy (zj xw (yw yb L) 0 L zbg) zcA n σ K) K).trans ?_
  simp only [ih]
  rfl
def zb2 {β:Type} (yb:yr) (L:Nat) (b2 b3:List V) (k_fin:List V→Option β):Option β :=
 zd1 yb L b2 b3 (fun p6 b2 b3=>zaK yb L (fun b2 b3=>zdG yb L b2 b3 k_fin) L p6 b2 b3)
theorem zky {β:Type} (yb:yr) (L:Nat) (b2 b3:List V) (k:KK β):(zr 0 (xH (zj xw (yw yb L) 0 L zdR) (zP 0 (CF.res zaf) k))) (.exit 0) (zb4 b2 b3)=zb2 yb L b2 b3 (fun p0=>k (V.agg p0) []):=by
 refine (zk4 yb L b2 b3 k).trans ?_
 unfold zb2
 first
  | (simp only [zgk,zkH]; done)
  | (simp only [zgk]; rfl)
def zgh {β:Type} (yb:yr) (L:Nat) (p0:List V) (k_fin:List V→Option β):Option β :=
 zi7 yb L p0 (fun p9 b1 b2 b3=>zaY yb L (fun b2 b3=>zb2 yb L b2 b3 k_fin) L p9 b1 b2 b3)
theorem zra {β:Type} (yb:yr) (L:Nat) (p0:List V) (k:KK β):yz xw (yw yb L) L zaf [(V.agg p0)] [] k=zgh yb L p0 (fun p0=>k (V.agg p0) []):=by
 refine (zry yb L p0 k).trans ?_
 unfold zgh
 first
  | (simp only [zgK,zky]; done)
  | (simp only [zgK]; rfl)
abbrev xV:=∀ (β:Type),Nat→List V→(List V→Option β)→Option β
def xi (β:Type) (L:Nat) (p0:List V) (k_fin:List V→Option β):Option β:=zgh yb L p0 k_fin
def zgd (xi:xV) (L:Nat) (β:Type) (args:List V) (bor:Bor) (k:KK β):Option β:=match args,bor with
 | [a0],[]=>aG a0 fun p0=>xi β L p0 (fun p0=>k (V.agg p0) [])
 | _,_=>none
theorem zru (L:Nat) (β:Type) (args:List V) (bor:Bor) (k:KK β) (r:β) (h:zgd xi L β args bor k=some r):yz xw (yw yb L) L zaf args bor k=some r:=by
 unfold zgd at h
 split at h
 ·have q:=zcx h; clear h; obtain ⟨p0,rfl,h⟩:=q
  exact (zra yb L p0 k).trans h
 ·cases h
def za1:CC:=(.seq (.reg [oo 36 (.bin .lss (tq 35) (.const (.sc (.int .i64 64))))])
 (.seq (.cond (tq 36)
 .skip
 (.seq (.mask (bl 16340 131) (bl 2722258935367507704976878695863201710039 131))
 (.exit 0)))
 (.seq (.block 1 (.seq (.reg [oo 37 (.move (tq 35) false),
   oo 14 (.move (tq 37) false)])
 (.seq (.dreg [] [(oo 38 (.move (tq 13) false),q0),
   (oo 39 (.move (tq 10) false),q0),
   (oo 40 (.call 535 [((tq 39),0),((.const (.sc (.int .i64 6))),0)] []),q1),
   (oo 41 (.move (tq 10) false),q0),
   (oo 42 (.call 535 [((tq 41),0),((.const (.sc (.int .i64 11))),0)] []),q1),
   (oo 43 (.bin .xor (tq 40) (tq 42)),q0),
   (oo 44 (.move (tq 10) false),q0),
   (oo 45 (.call 535 [((tq 44),0),((.const (.sc (.int .i64 25))),0)] []),q1),
   (oo 46 (.bin .xor (tq 43) (tq 45)),q0),
   (oo 47 (.bin .add (tq 38) (tq 46)),q0),
   (oo 48 (.move (tq 10) false),q0),
   (oo 49 (.move (tq 11) false),q0),
   (oo 50 (.bin .and (tq 48) (tq 49)),q0),
   (oo 51 (.move (tq 10) false),q0),
   (oo 52 (.un .xor (tq 51)),q0),
   (oo 53 (.move (tq 12) false),q0),
   (oo 54 (.bin .and (tq 52) (tq 53)),q0),
   (oo 55 (.bin .xor (tq 50) (tq 54)),q0),
   (oo 56 (.bin .add (tq 47) (tq 55)),q0),
   (oo 57 (.move (tq 14) false),q0),
   (oo 58 (.indexAddrA 64 1 (.const (.fp 64 gk_sha_k)) (tq 57)),q0),
   (oo 59 (.load false 1 (tq 58) false),q1),
   (oo 60 (.bin .add (tq 56) (tq 59)),q0),
   (oo 61 (.move (tq 14) false),q0),
   (oo 62 (.indexAddrA 64 1 (tq 5) (tq 61)),q0),
   (oo 63 (.load false 1 (tq 62) false),q1),
   (oo 64 (.bin .add (tq 60) (tq 63)),q0),
   (oo 15 (.move (tq 64) false),q0)])
 (.seq (.reg [oo 65 (.move (tq 6) false),
   oo 66 (.call 535 [((tq 65),0),((.const (.sc (.int .i64 2))),0)] []),
   oo 67 (.move (tq 6) false),
   oo 68 (.call 535 [((tq 67),0),((.const (.sc (.int .i64 13))),0)] []),
   oo 69 (.bin .xor (tq 66) (tq 68)),
   oo 70 (.move (tq 6) false),
   oo 71 (.call 535 [((tq 70),0),((.const (.sc (.int .i64 22))),0)] []),
   oo 72 (.bin .xor (tq 69) (tq 71)),
   oo 73 (.move (tq 6) false),
   oo 74 (.move (tq 7) false),
   oo 75 (.bin .and (tq 73) (tq 74)),
   oo 76 (.move (tq 6) false),
   oo 77 (.move (tq 8) false),
   oo 78 (.bin .and (tq 76) (tq 77)),
   oo 79 (.bin .xor (tq 75) (tq 78)),
   oo 80 (.move (tq 7) false),
   oo 81 (.move (tq 8) false),
   oo 82 (.bin .and (tq 80) (tq 81)),
   oo 83 (.bin .xor (tq 79) (tq 82)),
   oo 84 (.bin .add (tq 72) (tq 83)),
   oo 16 (.move (tq 84) false)])
 (.reg [oo 85 (.move (tq 15) false),
   oo 86 (.move (tq 16) false),
   oo 87 (.bin .add (tq 85) (tq 86)),
   oo 88 (.move (tq 6) false),
   oo 89 (.move (tq 7) false),
   oo 90 (.move (tq 8) false),
   oo 91 (.move (tq 9) false),
   oo 92 (.move (tq 15) false),
   oo 93 (.bin .add (tq 91) (tq 92)),
   oo 94 (.move (tq 10) false),
   oo 95 (.move (tq 11) false),
   oo 96 (.move (tq 12) false),
   oo 6 (.move (tq 87) false),
   oo 7 (.move (tq 88) false),
   oo 8 (.move (tq 89) false),
   oo 9 (.move (tq 90) false),
   oo 10 (.move (tq 93) false),
   oo 11 (.move (tq 94) false),
   oo 12 (.move (tq 95) false),
   oo 13 (.move (tq 96) false)])))))
 (.reg [oo 97 (.bin .add (tq 35) (.const (.sc (.int .i64 1)))),
   oo 35 (.move (tq 97) false)]))))
def zeU:CC:=(.seq (.reg [oo 98 (.indexAddrA 8 1 (tq 2) (.const (.sc (.int .i64 0)))),
   oo 99 (.load false 1 (tq 98) false),
   oo 100 (.move (tq 6) false),
   oo 101 (.bin .add (tq 99) (tq 100)),
   oo 102 (.indexAddrA 8 1 (tq 2) (.const (.sc (.int .i64 1)))),
   oo 103 (.load false 1 (tq 102) false),
   oo 104 (.move (tq 7) false),
   oo 105 (.bin .add (tq 103) (tq 104)),
   oo 106 (.indexAddrA 8 1 (tq 2) (.const (.sc (.int .i64 2)))),
   oo 107 (.load false 1 (tq 106) false),
   oo 108 (.move (tq 8) false),
   oo 109 (.bin .add (tq 107) (tq 108)),
   oo 110 (.indexAddrA 8 1 (tq 2) (.const (.sc (.int .i64 3)))),
   oo 111 (.load false 1 (tq 110) false),
   oo 112 (.move (tq 9) false),
   oo 113 (.bin .add (tq 111) (tq 112)),
   oo 114 (.indexAddrA 8 1 (tq 2) (.const (.sc (.int .i64 4)))),
   oo 115 (.load false 1 (tq 114) false),
   oo 116 (.move (tq 10) false),
   oo 117 (.bin .add (tq 115) (tq 116)),
   oo 118 (.indexAddrA 8 1 (tq 2) (.const (.sc (.int .i64 5)))),
   oo 119 (.load false 1 (tq 118) false),
   oo 120 (.move (tq 11) false),
   oo 121 (.bin .add (tq 119) (tq 120)),
   oo 122 (.indexAddrA 8 1 (tq 2) (.const (.sc (.int .i64 6)))),
   oo 123 (.load false 1 (tq 122) false),
   oo 124 (.move (tq 12) false),
   oo 125 (.bin .add (tq 123) (tq 124)),
   oo 126 (.indexAddrA 8 1 (tq 2) (.const (.sc (.int .i64 7)))),
   oo 127 (.load false 1 (tq 126) false),
   oo 128 (.move (tq 13) false),
   oo 129 (.bin .add (tq 127) (tq 128)),
   oo 130 (.build [(.sc (.int .u32 0)),(.sc (.int .u32 0)),(.sc (.int .u32 0)),(.sc (.int .u32 0)),(.sc (.int .u32 0)),(.sc (.int .u32 0)),(.sc (.int .u32 0)),(.sc (.int .u32 0))] [(0,1,(tq 101)),(1,1,(tq 105)),(2,1,(tq 109)),(3,1,(tq 113)),(4,1,(tq 117)),(5,1,(tq 121)),(6,1,(tq 125)),(7,1,(tq 129))]),
   oz (.store 8 (tq 4) (tq 130))])
 .ret)
def zbm:CF:=⟨131,[.cell 4 true 8],
 (.seq (.reg [oo 2 (.box true (tq 0)),
   oo 3 (.box true (tq 1)),
   oo 4 (.alloc true [(.sc (.int .u32 0)),(.sc (.int .u32 0)),(.sc (.int .u32 0)),(.sc (.int .u32 0)),(.sc (.int .u32 0)),(.sc (.int .u32 0)),(.sc (.int .u32 0)),(.sc (.int .u32 0))])])
 (.seq (.reg [oo 17 (.load true 64 (tq 3) false),
   oo 18 (.call 534 [((tq 17),0)] []),
   oo 5 (.alloc true (rp 64 (.sc (.int .u32 0)) [])),
   oz (.store 64 (tq 5) (tq 18))])
 (.seq (.dreg [] [(oo 19 (.indexAddrA 8 1 (tq 2) (.const (.sc (.int .i64 0)))),q0),
   (oo 20 (.load false 1 (tq 19) false),qc [] []),
   (oo 21 (.indexAddrA 8 1 (tq 2) (.const (.sc (.int .i64 1)))),q0),
   (oo 22 (.load false 1 (tq 21) false),qc [] []),
   (oo 23 (.indexAddrA 8 1 (tq 2) (.const (.sc (.int .i64 2)))),q0),
   (oo 24 (.load false 1 (tq 23) false),qc [] []),
   (oo 25 (.indexAddrA 8 1 (tq 2) (.const (.sc (.int .i64 3)))),q0),
   (oo 26 (.load false 1 (tq 25) false),qc [] []),
   (oo 6 (.move (tq 20) false),q0),
   (oo 7 (.move (tq 22) false),q0),
   (oo 8 (.move (tq 24) false),q0),
   (oo 9 (.move (tq 26) false),q0)])
 (.seq (.dreg [] [(oo 27 (.indexAddrA 8 1 (tq 2) (.const (.sc (.int .i64 4)))),q0),
   (oo 28 (.load false 1 (tq 27) false),qc [] []),
   (oo 29 (.indexAddrA 8 1 (tq 2) (.const (.sc (.int .i64 5)))),q0),
   (oo 30 (.load false 1 (tq 29) false),qc [] []),
   (oo 31 (.indexAddrA 8 1 (tq 2) (.const (.sc (.int .i64 6)))),q0),
   (oo 32 (.load false 1 (tq 31) false),qc [] []),
   (oo 33 (.indexAddrA 8 1 (tq 2) (.const (.sc (.int .i64 7)))),q0),
   (oo 34 (.load false 1 (tq 33) false),qc [] []),
   (oo 10 (.move (tq 28) false),q0),
   (oo 11 (.move (tq 30) false),q0),
   (oo 12 (.move (tq 32) false),q0),
   (oo 13 (.move (tq 34) false),q0)])
 (.seq (.seq (.reg [oo 35 (.move (.const (.sc (.int .i64 0))) false)])
 (.block 0 (.loop (bl 34359754740 131) (bl 2722258935367507704976878695863201710071 131)
 za1)))
 zeU)))))⟩
def zkk:Hint:=⟨[],[],[none,some ((bl 34359754740 131),(bl 2722258935367507704976878695863201710071 131)),none,some ((bl 16340 131),(bl 2722258935367507704976878695863201710039 131)),none,none],[],[],false,false,[]⟩
def zah:Nat→Sh:=xI [(20,(.int .u32)),(22,(.int .u32)),(24,(.int .u32)),(26,(.int .u32)),(28,(.int .u32)),(30,(.int .u32)),(32,(.int .u32)),(34,(.int .u32)),(59,(.int .u32)),(63,(.int .u32)),(99,(.int .u32)),(103,(.int .u32)),(107,(.int .u32)),(111,(.int .u32)),(115,(.int .u32)),(119,(.int .u32)),(123,(.int .u32)),(127,(.int .u32))]
def zae (xi:xV) (yb:yr) (L:Nat):CBC:=(xr 535 (ziv yb L) (xr 534 (zgd xi L) noC))
def zcg:St→St:=yJ 0 (bl 34359754740 131) (bl 2722258935367507704976878695863201710071 131)
def zbl (p6 p7 p8 p9 p10 p11 p12 p13 p35:Int) (b2:List V) (zE6 zE7 zE8 zE9 zFa zFb zFc zFd:Int) (b5:List V):St:=⟨(jn 2 ((V.ptr 2 0)::(jn 1 ((V.ptr 4 0)::((V.ptr 5 0)::((V.sc (.int .u32 p6))::((V.sc (.int .u32 p7))::((V.sc (.int .u32 p8))::((V.sc (.int .u32 p9))::((V.sc (.int .u32 p10))::((V.sc (.int .u32 p11))::((V.sc (.int .u32 p12))::((V.sc (.int .u32 p13))::(jn 21 ((V.sc (.int .i64 p35))::(jn 95 [])))))))))))))))),(gn 2 ((.live true b2)::(gn 1 ((.live true [(V.sc (.int .u32 zE6)),(V.sc (.int .u32 zE7)),(V.sc (.int .u32 zE8)),(V.sc (.int .u32 zE9)),(V.sc (.int .u32 zFa)),(V.sc (.int .u32 zFb)),(V.sc (.int .u32 zFc)),(V.sc (.int .u32 zFd))])::((.live true b5)::(gn 125 []))))))⟩
def zfw (p6 p7 p8 p9 p10 p11 p12 p13:Int) (b2:List V) (zE6 zE7 zE8 zE9 zFa zFb zFc zFd:Int):St:=⟨(jn 2 ((V.ptr 2 0)::(jn 1 ((V.ptr 4 0)::(jn 1 ((V.sc (.int .u32 p6))::((V.sc (.int .u32 p7))::((V.sc (.int .u32 p8))::((V.sc (.int .u32 p9))::((V.sc (.int .u32 p10))::((V.sc (.int .u32 p11))::((V.sc (.int .u32 p12))::((V.sc (.int .u32 p13))::(jn 117 [])))))))))))))),(gn 2 ((.live true b2)::(gn 1 ((.live true [(V.sc (.int .u32 zE6)),(V.sc (.int .u32 zE7)),(V.sc (.int .u32 zE8)),(V.sc (.int .u32 zE9)),(V.sc (.int .u32 zFa)),(V.sc (.int .u32 zFb)),(V.sc (.int .u32 zFc)),(V.sc (.int .u32 zFd))])::(gn 126 [])))))⟩
abbrev zdH (β:Type):Type:=Int→Int→Int→Int→Int→Int→Int→Int→Int→List V→Int→Int→Int→Int→Int→Int→Int→Int→List V→Option β
abbrev zeC (β:Type):Type:=Int→Int→Int→Int→Int→Int→Int→Int→List V→Int→Int→Int→Int→Int→Int→Int→Int→Option β
def zi3 {β:Type} (xi:xV) (yb:yr) (L:Nat) (p0 p1:List V) (k_hbbbbaba:zdH β):Option β :=
 chk (0+64≤(List.length p1)) (
 xi β L (List.take 64 p1) (fun v0 =>
 chk ((List.length v0)=64∧0+64≤64) (
 lt (xk (List.replicate 64 (V.sc (.int .u32 (0:Int)))) 0 v0) fun r1 =>
 cI .u32 p0 0 fun v2 =>
 cI .u32 p0 1 fun v3 =>
 cI .u32 p0 2 fun v4 =>
 cI .u32 p0 3 fun v5 =>
 cI .u32 p0 4 fun v6 =>
 cI .u32 p0 5 fun v7 =>
 cI .u32 p0 6 fun v8 =>
 cI .u32 p0 7 fun v9 =>
 k_hbbbbaba v2 v3 v4 v5 v6 v7 v8 v9 (0:Int) p0 (0:Int) (0:Int) (0:Int) (0:Int) (0:Int) (0:Int) (0:Int) (0:Int) r1)))
theorem zrn {β:Type} (xi:xV) (yb:yr) (L:Nat) (p0 p1:List V) (k:KK β):yz zah (zae xi yb L) L zbm [(V.agg p0),(V.agg p1)] [] k=zi3 xi yb L p0 p1 (fun p6 p7 p8 p9 p10 p11 p12 p13 p35 b2 zE6 zE7 zE8 zE9 zFa zFb zFc zFd b5=>xy (zj zah (zae xi yb L) 0 L za1) zcg L (zbl p6 p7 p8 p9 p10 p11 p12 p13 p35 b2 zE6 zE7 zE8 zE9 zFa zFb zFc zFd b5) (zr 0 (xH (zj zah (zae xi yb L) 0 L zeU) (zP 0 (CF.res zbm) k)))):=by kernel_rfl
def zbh {β:Type} (xi:xV) (yb:yr) (L:Nat) (p6 p7 p8 p9 p10 p11 p12 p13 p35:Int) (b2:List V) (zE6 zE7 zE8 zE9 zFa zFb zFc zFd:Int) (b5:List V) (k_hbbbbaba:zdH β) (k_x0:zeC β):Option β :=
 ifb (decide (p35 < (64:Int))) (
 yb β L p10 (6:Int) (fun v10 =>
 yb β L p10 (11:Int) (fun v11 =>
 lt (zaR .u32 v10 v11) fun x12 =>
 yb β L p10 (25:Int) (fun v13 =>
 lt (zaR .u32 x12 v13) fun x14 =>
 lt (IntKind.wrap .u32 ((p13:Int)+x14)) fun x15 =>
 lt (zdN .u32 p10 p11) fun x16 =>
 lt (zBm .u32 p10) fun x17 =>
 lt (zdN .u32 x17 p12) fun x18 =>
 lt (zaR .u32 x16 x18) fun x19 =>
 lt (IntKind.wrap .u32 ((x15:Int)+x19)) fun x20 =>
 chk (0≤p35∧p35 < ((64:Nat):Int)) (
 cI .u32 (List.drop ((Int.toNat p35) * 1) gk_sha_k) 0 fun v21 =>
 lt (IntKind.wrap .u32 ((x20:Int)+v21)) fun x22 =>
 chk (0≤p35∧p35 < ((64:Nat):Int)) (
 cI .u32 b5 (0+((Int.toNat p35) * 1)) fun v23 =>
 lt (IntKind.wrap .u32 ((x22:Int)+v23)) fun x24 =>
 yb β L p6 (2:Int) (fun v25 =>
 yb β L p6 (13:Int) (fun v26 =>
 lt (zaR .u32 v25 v26) fun x27 =>
 yb β L p6 (22:Int) (fun v28 =>
 lt (zaR .u32 x27 v28) fun x29 =>
 lt (zdN .u32 p6 p7) fun x30 =>
 lt (zdN .u32 p6 p8) fun x31 =>
 lt (zaR .u32 x30 x31) fun x32 =>
 lt (zdN .u32 p7 p8) fun x33 =>
 lt (zaR .u32 x32 x33) fun x34 =>
 lt (IntKind.wrap .u32 ((x29:Int)+x34)) fun x35 =>
 lt (IntKind.wrap .u32 ((x24:Int)+x35)) fun x36 =>
 lt (IntKind.wrap .u32 ((p9:Int)+x24)) fun x37 =>
 lt (IntKind.wrap .i64 ((p35:Int)+(1:Int))) fun x38 =>
 k_hbbbbaba x36 p6 p7 p8 x37 p10 p11 p12 x38 b2 zE6 zE7 zE8 zE9 zFa zFb zFc zFd b5))))))))) (
 k_x0 p6 p7 p8 p9 p10 p11 p12 p13 b2 zE6 zE7 zE8 zE9 zFa zFb zFc zFd)
theorem zlq {β:Type} (xi:xV) (yb:yr) (L:Nat) (p6 p7 p8 p9 p10 p11 p12 p13 p35:Int) (b2:List V) (zE6 zE7 zE8 zE9 zFa zFb zFc zFd:Int) (b5:List V) (X:St→Option β) (K:KT β):zj zah (zae xi yb L) 0 L za1 (zbl p6 p7 p8 p9 p10 p11 p12 p13 p35 b2 zE6 zE7 zE8 zE9 zFa zFb zFc zFd b5) (y5 zcg X K)=zbh xi yb L p6 p7 p8 p9 p10 p11 p12 p13 p35 b2 zE6 zE7 zE8 zE9 zFa zFb zFc zFd b5 (fun p6 p7 p8 p9 p10 p11 p12 p13 p35 b2 zE6 zE7 zE8 zE9 zFa zFb zFc zFd b5=>X (zbl p6 p7 p8 p9 p10 p11 p12 p13 p35 b2 zE6 zE7 zE8 zE9 zFa zFb zFc zFd b5)) (fun p6 p7 p8 p9 p10 p11 p12 p13 b2 zE6 zE7 zE8 zE9 zFa zFb zFc zFd=>K (.exit 0) (zfw p6 p7 p8 p9 p10 p11 p12 p13 b2 zE6 zE7 zE8 zE9 zFa zFb zFc zFd)):=by kernel_rfl
def zbE {β:Type} (xi:xV) (yb:yr) (L:Nat) (p6 p7 p8 p9 p10 p11 p12 p13:Int) (b2:List V) (zE6 zE7 zE8 zE9 zFa zFb zFc zFd:Int) (k_fin:List V→Option β):Option β :=
 cI .u32 b2 0 fun v39 =>
 lt (IntKind.wrap .u32 ((v39:Int)+p6)) fun x40 =>
 cI .u32 b2 1 fun v41 =>
 lt (IntKind.wrap .u32 ((v41:Int)+p7)) fun x42 =>
 cI .u32 b2 2 fun v43 =>
 lt (IntKind.wrap .u32 ((v43:Int)+p8)) fun x44 =>
 cI .u32 b2 3 fun v45 =>
 lt (IntKind.wrap .u32 ((v45:Int)+p9)) fun x46 =>
 cI .u32 b2 4 fun v47 =>
 lt (IntKind.wrap .u32 ((v47:Int)+p10)) fun x48 =>
 cI .u32 b2 5 fun v49 =>
 lt (IntKind.wrap .u32 ((v49:Int)+p11)) fun x50 =>
 cI .u32 b2 6 fun v51 =>
 lt (IntKind.wrap .u32 ((v51:Int)+p12)) fun x52 =>
 cI .u32 b2 7 fun v53 =>
 lt (IntKind.wrap .u32 ((v53:Int)+p13)) fun x54 =>
 lt [(V.sc (.int .u32 x40)),(V.sc (.int .u32 x42)),(V.sc (.int .u32 x44)),(V.sc (.int .u32 x46)),(V.sc (.int .u32 x48)),(V.sc (.int .u32 x50)),(V.sc (.int .u32 x52)),(V.sc (.int .u32 x54))] fun r55 =>
 chk (0=0∧(List.length r55)=8∧8≠0) (
 k_fin r55)
theorem zj4 {β:Type} (xi:xV) (yb:yr) (L:Nat) (p6 p7 p8 p9 p10 p11 p12 p13:Int) (b2:List V) (zE6 zE7 zE8 zE9 zFa zFb zFc zFd:Int) (k:KK β):(zr 0 (xH (zj zah (zae xi yb L) 0 L zeU) (zP 0 (CF.res zbm) k))) (.exit 0) (zfw p6 p7 p8 p9 p10 p11 p12 p13 b2 zE6 zE7 zE8 zE9 zFa zFb zFc zFd)=zbE xi yb L p6 p7 p8 p9 p10 p11 p12 p13 b2 zE6 zE7 zE8 zE9 zFa zFb zFc zFd (fun p0=>k (V.agg p0) []):=by kernel_rfl
def zaB {β:Type} (xi:xV) (yb:yr) (L:Nat) (k_x0:zeC β):Nat→Int→Int→Int→Int→Int→Int→Int→Int→Int→List V→Int→Int→Int→Int→Int→Int→Int→Int→List V→Option β
 | 0,_,_,_,_,_,_,_,_,_,_,_,_,_,_,_,_,_,_,_=>none
 | n+1,p6,p7,p8,p9,p10,p11,p12,p13,p35,b2,zE6,zE7,zE8,zE9,zFa,zFb,zFc,zFd,b5=>zbh xi yb L p6 p7 p8 p9 p10 p11 p12 p13 p35 b2 zE6 zE7 zE8 zE9 zFa zFb zFc zFd b5 (fun p6 p7 p8 p9 p10 p11 p12 p13 p35 b2 zE6 zE7 zE8 zE9 zFa zFb zFc zFd b5=>zaB xi yb L k_x0 n p6 p7 p8 p9 p10 p11 p12 p13 p35 b2 zE6 zE7 zE8 zE9 zFa zFb zFc zFd b5) k_x0
theorem zfM {β:Type} (xi:xV) (yb:yr) (L:Nat) (K:KT β):∀ (n:Nat) (p6 p7 p8 p9 p10 p11 p12 p13 p35:Int) (b2:List V) (zE6 zE7 zE8 zE9 zFa zFb zFc zFd:Int) (b5:List V),xy (zj zah (zae xi yb L) 0 L za1) zcg n (zbl p6 p7 p8 p9 p10 p11 p12 p13 p35 b2 zE6 zE7 zE8 zE9 zFa zFb zFc zFd b5) K=zaB xi yb L (fun p6 p7 p8 p9 p10 p11 p12 p13 b2 zE6 zE7 zE8 zE9 zFa zFb zFc zFd=>K (.exit 0) (zfw p6 p7 p8 p9 p10 p11 p12 p13 b2 zE6 zE7 zE8 zE9 zFa zFb zFc zFd)) n p6 p7 p8 p9 p10 p11 p12 p13 p35 b2 zE6 zE7 zE8 zE9 zFa zFb zFc zFd b5:=by
 intro n
 induction n with
 | zero=>intros; rfl
 | succ n ih =>
  intro p6 p7 p8 p9 p10 p11 p12 p13 p35 b2 zE6 zE7 zE8 zE9 zFa zFb zFc zFd b5
  refine (zlq xi yb L p6 p7 p8 p9 p10 p11 p12 p13 p35 b2 zE6 zE7 zE8 zE9 zFa zFb zFc zFd b5 (fun σ=>xy (zj zah (zae xi yb L) 0 L za1) zcg n σ K) K).trans ?_
  simp only [ih]
  rfl
def zf5 {β:Type} (xi:xV) (yb:yr) (L:Nat) (p0 p1:List V) (k_fin:List V→Option β):Option β :=
 zi3 xi yb L p0 p1 (fun p6 p7 p8 p9 p10 p11 p12 p13 p35 b2 zE6 zE7 zE8 zE9 zFa zFb zFc zFd b5=>zaB xi yb L (fun p6 p7 p8 p9 p10 p11 p12 p13 b2 zE6 zE7 zE8 zE9 zFa zFb zFc zFd=>zbE xi yb L p6 p7 p8 p9 p10 p11 p12 p13 b2 zE6 zE7 zE8 zE9 zFa zFb zFc zFd k_fin) L p6 p7 p8 p9 p10 p11 p12 p13 p35 b2 zE6 zE7 zE8 zE9 zFa zFb zFc zFd b5)
theorem zq6 {β:Type} (xi:xV) (yb:yr) (L:Nat) (p0 p1:List V) (k:KK β):yz zah (zae xi yb L) L zbm [(V.agg p0),(V.agg p1)] [] k=zf5 xi yb L p0 p1 (fun p0=>k (V.agg p0) []):=by
 refine (zrn xi yb L p0 p1 k).trans ?_
 unfold zf5
 first
  | (simp only [zfM,zj4]; done)
  | (simp only [zfM]; rfl)
abbrev yB:=∀ (β:Type),Nat→List V→List V→(List V→Option β)→Option β
def yd (β:Type) (L:Nat) (p0 p1:List V) (k_fin:List V→Option β):Option β:=zf5 xi yb L p0 p1 k_fin
def zf1 (yd:yB) (L:Nat) (β:Type) (args:List V) (bor:Bor) (k:KK β):Option β:=match args,bor with
 | [a0,a1],[]=>aG a0 fun p0=>aG a1 fun p1=>yd β L p0 p1 (fun p0=>k (V.agg p0) [])
 | _,_=>none
theorem zrr (L:Nat) (β:Type) (args:List V) (bor:Bor) (k:KK β) (r:β) (h:zf1 yd L β args bor k=some r):yz zah (zae xi yb L) L zbm args bor k=some r:=by
 unfold zf1 at h
 split at h
 ·have q:=zcx h; clear h; obtain ⟨p0,rfl,h⟩:=q
  have q:=zcx h; clear h; obtain ⟨p1,rfl,h⟩:=q
  exact (zq6 xi yb L p0 p1 k).trans h
 ·cases h
def zb8:CC:=(.seq (.reg [oo 32 (.bin .lss (tq 31) (.const (.sc (.int .i64 32))))])
 (.seq (.cond (tq 32)
 .skip
 (.seq (.mask (bl 68 48) (bl 281474976710511 48))
 (.exit 2)))
 (.seq (.block 3 (.seq (.reg [oo 33 (.move (tq 31) false),
   oo 7 (.move (tq 33) false)])
 (.reg [oo 34 (.move (tq 7) false),
   oo 35 (.move (tq 7) false),
   oo 36 (.bin .quo (tq 35) (.const (.sc (.int .i64 4)))),
   oo 37 (.indexAddrA 8 1 (tq 4) (tq 36)),
   oo 38 (.load false 1 (tq 37) false),
   oo 39 (.move (tq 7) false),
   oo 40 (.bin .rem (tq 39) (.const (.sc (.int .i64 4)))),
   oo 41 (.bin .mul (tq 40) (.const (.sc (.int .i64 8)))),
   oo 42 (.bin .sub (.const (.sc (.int .i64 24))) (tq 41)),
   oo 43 (.bin .shr (tq 38) (tq 42)),
   oo 44 (.conv .u8 (tq 43)),
   oo 45 (.indexAddrA 32 1 (tq 6) (tq 34)),
   oz (.store 1 (tq 45) (tq 44))])))
 (.reg [oo 46 (.bin .add (tq 31) (.const (.sc (.int .i64 1)))),
   oo 31 (.move (tq 46) false)]))))
def zcX:CC:=(.seq (.reg [oo 20 (.bin .lss (tq 19) (tq 18))])
 (.seq (.cond (tq 20)
 .skip
 (.seq (.mask (bl 20 48) (bl 281474439839647 48))
 (.exit 0)))
 (.seq (.block 1 (.seq (.reg [oo 21 (.move (tq 19) false),
   oo 5 (.move (tq 21) false)])
 (.dreg [] [(oo 22 (.load true 8 (tq 4) false),ql 4 [] []),
   (oo 23 (.move (tq 3) false),q0),
   (oo 24 (.move (tq 5) false),q0),
   (oo 25 (.bin .mul (.const (.sc (.int .i64 64))) (tq 24)),q0),
   (oo 26 (.sliceS 1 (tq 23) (some (tq 25)) none none),q0),
   (oo 27 (.arrP 64 1 (tq 26)),q0),
   (oo 28 (.load true 64 (tq 27) false),qc [4] []),
   (oo 29 (.call 498 [((tq 22),0),((tq 28),0)] []),q0),
   (oz (.store 8 (tq 4) (tq 29)),q0)])))
 (.reg [oo 30 (.bin .add (tq 19) (.const (.sc (.int .i64 1)))),
   oo 19 (.move (tq 30) false)]))))
def zhY:CC:=(.seq (.reg [oo 47 (.load true 32 (tq 6) false),
   oz (.store 32 (tq 2) (tq 47))])
 .ret)
def zg4:CC:=(.seq (.reg [oo 6 (.alloc true (rp 32 (.sc (.int .u8 0)) []))])
 (.seq (.seq (.reg [oo 31 (.move (.const (.sc (.int .i64 0))) false)])
 (.block 2 (.loop (bl 2147483732 48) (bl 281474976710527 48)
 zb8)))
 zhY))
def zbS:CF:=⟨48,[.cell 2 true 32],
 (.seq (.reg [oo 2 (.alloc true (rp 32 (.sc (.int .u8 0)) []))])
 (.seq (.reg [oo 8 (.move (tq 0) false),
   oo 9 (.move (tq 0) false),
   oo 10 (.lenS (tq 9)),
   oo 11 (.conv .u64 (tq 10)),
   oo 12 (.call 497 [((tq 11),0)] []),
   oo 13 (.buildSlice 1 2 [(.sl 1 [])] [(0,1,(tq 8)),(1,1,(tq 12))]),
   oo 14 (.call 496 [((tq 13),0)] []),
   oo 3 (.move (tq 14) true)])
 (.seq (.reg [oo 15 (.load true 8 (.const (.fp 8 gk_sha_initial)) false),
   oo 4 (.alloc true [(.sc (.int .u32 0)),(.sc (.int .u32 0)),(.sc (.int .u32 0)),(.sc (.int .u32 0)),(.sc (.int .u32 0)),(.sc (.int .u32 0)),(.sc (.int .u32 0)),(.sc (.int .u32 0))]),
   oz (.store 8 (tq 4) (tq 15))])
 (.seq (.seq (.reg [oo 16 (.move (tq 3) false),
   oo 17 (.lenS (tq 16)),
   oo 18 (.bin .quo (tq 17) (.const (.sc (.int .i64 64)))),
   oo 19 (.move (.const (.sc (.int .i64 0))) false)])
 (.block 0 (.loop (bl 786460 48) (bl 281474439839647 48)
 zcX)))
 zg4))))⟩
def zqG:Hint:=⟨[(1,7)],[],[none,some ((bl 786460 48),(bl 281474439839647 48)),none,some ((bl 20 48),(bl 281474439839647 48)),none,none,some ((bl 2147483732 48),(bl 281474976710527 48)),none,some ((bl 68 48),(bl 281474976710511 48)),none,none],[],[],false,false,[]⟩
def zW:Nat→Sh:=xI [(38,(.int .u32))]
def xW (zi:xT) (xh:yT) (yd:yB) (L:Nat):CBC:=(xr 498 (zf1 yd L) (xr 496 (zlV xh L) (xr 497 (zlT zi L) noC)))
def ze8:St→St:=yJ 0 (bl 786460 48) (bl 281474439839647 48)
def zdU:St→St:=yJ 0 (bl 2147483732 48) (bl 281474976710527 48)
def zdB (p3:List (List V)) (p18 p19:Int) (b2 b4:List V):St:=⟨(jn 2 ((V.ptr 2 0)::((V.gs 1 p3)::((V.ptr 4 0)::(jn 13 ((V.sc (.int .i64 p18))::((V.sc (.int .i64 p19))::(jn 28 [])))))))),(gn 2 ((.live true b2)::(gn 1 ((.live true b4)::(gn 43 [])))))⟩
def zg8 (b2 b4:List V):St:=⟨(jn 2 ((V.ptr 2 0)::(jn 1 ((V.ptr 4 0)::(jn 43 []))))),(gn 2 ((.live true b2)::(gn 1 ((.live true b4)::(gn 43 [])))))⟩
def zcF (p31:Int) (b2 b4 b6:List V):St:=⟨(jn 2 ((V.ptr 2 0)::(jn 1 ((V.ptr 4 0)::(jn 1 ((V.ptr 6 0)::(jn 24 ((V.sc (.int .i64 p31))::(jn 16 []))))))))),(gn 2 ((.live true b2)::(gn 1 ((.live true b4)::(gn 1 ((.live true b6)::(gn 41 [])))))))⟩
def zj1 (b2 b6:List V):St:=⟨(jn 2 ((V.ptr 2 0)::(jn 3 ((V.ptr 6 0)::(jn 41 []))))),(gn 2 ((.live true b2)::(gn 3 ((.live true b6)::(gn 41 [])))))⟩
def zqm {β:Type} (zi:xT) (xh:yT) (yd:yB) (L:Nat) (p0:List (List V)) (k_hbbbaba:List (List V)→Int→Int→List V→List V→Option β):Option β :=
 lt (IntKind.wrap .u64 ((List.length p0:Nat):Int)) fun x0 =>
 zi β L x0 (fun v1 =>
 xh β L (yf 1 2 [(V.sl 1 p0),(V.sl 1 v1)]) (fun v2 =>
 chk ((List.length (List.take 8 gk_sha_initial))=8∧0+8≤8) (
 lt (xk [(V.sc (.int .u32 (0:Int))),(V.sc (.int .u32 (0:Int))),(V.sc (.int .u32 (0:Int))),(V.sc (.int .u32 (0:Int))),(V.sc (.int .u32 (0:Int))),(V.sc (.int .u32 (0:Int))),(V.sc (.int .u32 (0:Int))),(V.sc (.int .u32 (0:Int)))] 0 (List.take 8 gk_sha_initial)) fun r3 =>
 lt (IntKind.wrap .i64 (Int.tdiv ((List.length v2:Nat):Int) (64:Int))) fun x4 =>
 k_hbbbaba v2 x4 (0:Int) (List.replicate 32 (V.sc (.int .u8 (0:Int)))) r3))) (fun v5 =>
 xh β L (yf 1 2 [(V.sl 1 p0),(V.sl 1 v5)]) (fun v6 =>
 chk ((List.length (List.take 8 gk_sha_initial))=8∧0+8≤8) (
 lt (xk [(V.sc (.int .u32 (0:Int))),(V.sc (.int .u32 (0:Int))),(V.sc (.int .u32 (0:Int))),(V.sc (.int .u32 (0:Int))),(V.sc (.int .u32 (0:Int))),(V.sc (.int .u32 (0:Int))),(V.sc (.int .u32 (0:Int))),(V.sc (.int .u32 (0:Int)))] 0 (List.take 8 gk_sha_initial)) fun r7 =>
 lt (IntKind.wrap .i64 (Int.tdiv ((List.length v6:Nat):Int) (64:Int))) fun x8 =>
 k_hbbbaba v6 x8 (0:Int) (List.replicate 32 (V.sc (.int .u8 (0:Int)))) r7)))
theorem zvR {β:Type} (zi:xT) (xh:yT) (yd:yB) (L:Nat) (p0:List (List V)) (k:KK β):yz zW (xW zi xh yd L) L zbS [(V.sl 1 p0)] [] k=zqm zi xh yd L p0 (fun p3 p18 p19 b2 b4=>xy (zj zW (xW zi xh yd L) 0 L zcX) ze8 L (zdB p3 p18 p19 b2 b4) (zr 0 (xH (zj zW (xW zi xh yd L) 0 L zg4) (zP 0 (CF.res zbS) k)))):=by kernel_rfl
def zdC {β:Type} (zi:xT) (xh:yT) (yd:yB) (L:Nat) (p3:List (List V)) (p18 p19:Int) (b2 b4:List V) (k_hbbbaba:List (List V)→Int→Int→List V→List V→Option β) (k_x0:List V→List V→Option β):Option β :=
 ifb (decide (p19 < p18)) (
 chk (0+8≤(List.length b4)) (
 lt (IntKind.wrap .i64 (((64:Int):Int) * p19)) fun x9 =>
 chk (0≤x9∧x9≤(((List.length p3):Nat):Int)) (
 chk (64≤(List.length (List.take ((List.length p3) - (Int.toNat x9)) (List.drop (Int.toNat x9) p3)))) (
 yd β L (List.take 8 b4) (List.take 64 (List.flatten (List.take 64 (List.take ((List.length p3) - (Int.toNat x9)) (List.drop (Int.toNat x9) p3))))) (fun v10 =>
 chk ((List.length v10)=8∧0+8≤(List.length b4)) (
 lt (xk b4 0 v10) fun r11 =>
 lt (IntKind.wrap .i64 ((p19:Int)+(1:Int))) fun x12 =>
 k_hbbbaba p3 p18 x12 b2 r11)))))) (
 k_x0 b2 b4)
theorem zpH {β:Type} (zi:xT) (xh:yT) (yd:yB) (L:Nat) (p3:List (List V)) (p18 p19:Int) (b2 b4:List V) (X:St→Option β) (K:KT β):zj zW (xW zi xh yd L) 0 L zcX (zdB p3 p18 p19 b2 b4) (y5 ze8 X K)=zdC zi xh yd L p3 p18 p19 b2 b4 (fun p3 p18 p19 b2 b4=>X (zdB p3 p18 p19 b2 b4)) (fun b2 b4=>K (.exit 0) (zg8 b2 b4)):=by kernel_rfl
def zgn {β:Type} (zi:xT) (xh:yT) (yd:yB) (L:Nat) (b2 b4:List V) (k_hbbbbbaba:Int→List V→List V→List V→Option β):Option β :=
 k_hbbbbbaba (0:Int) b2 b4 (List.replicate 32 (V.sc (.int .u8 (0:Int))))
theorem zov {β:Type} (zi:xT) (xh:yT) (yd:yB) (L:Nat) (b2 b4:List V) (k:KK β):(zr 0 (xH (zj zW (xW zi xh yd L) 0 L zg4) (zP 0 (CF.res zbS) k))) (.exit 0) (zg8 b2 b4)=zgn zi xh yd L b2 b4 (fun p31 b2 b4 b6=>xy (zj zW (xW zi xh yd L) 0 L zb8) zdU L (zcF p31 b2 b4 b6) (zr 2 (xH (zj zW (xW zi xh yd L) 0 L zhY) (zP 0 (CF.res zbS) k)))):=by kernel_rfl
def zcs {β:Type} (zi:xT) (xh:yT) (yd:yB) (L:Nat) (p31:Int) (b2 b4 b6:List V) (k_hbbbbbaba:Int→List V→List V→List V→Option β) (k_x2:List V→List V→Option β):Option β :=
 ifb (decide (p31 < (32:Int))) (
 lt (IntKind.wrap .i64 (Int.tdiv p31 (4:Int))) fun x13 =>
 chk (0≤x13∧x13 < ((8:Nat):Int)) (
 cI .u32 b4 (0+((Int.toNat x13) * 1)) fun v14 =>
 lt (Int.tmod p31 (4:Int)) fun x15 =>
 lt (IntKind.wrap .i64 ((x15:Int) * (8:Int))) fun x16 =>
 lt (IntKind.wrap .i64 (((24:Int):Int) - x16)) fun x17 =>
 chk (0≤x17) (
 lt (zdJ .u32 v14 x17) fun x18 =>
 lt (IntKind.wrap .u8 x18) fun x19 =>
 chk (0≤p31∧p31 < ((32:Nat):Int)) (
 chk (1=1∧(0+((Int.toNat p31) * 1))+1≤(List.length b6)) (
 lt (xk b6 (0+((Int.toNat p31) * 1)) [(V.sc (.int .u8 x19))]) fun r20 =>
 lt (IntKind.wrap .i64 ((p31:Int)+(1:Int))) fun x21 =>
 k_hbbbbbaba x21 b2 b4 r20))))) (
 k_x2 b2 b6)
theorem zoG {β:Type} (zi:xT) (xh:yT) (yd:yB) (L:Nat) (p31:Int) (b2 b4 b6:List V) (X:St→Option β) (K:KT β):zj zW (xW zi xh yd L) 0 L zb8 (zcF p31 b2 b4 b6) (y5 zdU X K)=zcs zi xh yd L p31 b2 b4 b6 (fun p31 b2 b4 b6=>X (zcF p31 b2 b4 b6)) (fun b2 b6=>K (.exit 2) (zj1 b2 b6)):=by kernel_rfl
def zeR {β:Type} (zi:xT) (xh:yT) (yd:yB) (L:Nat) (b2 b6:List V) (k_fin:List V→Option β):Option β :=
 chk (0+32≤(List.length b6)) (
 chk ((List.length (List.take 32 b6))=32∧0+32≤(List.length b2)) (
 lt (xk b2 0 (List.take 32 b6)) fun r22 =>
 chk (0=0∧(List.length r22)=32∧32≠0) (
 k_fin r22)))
theorem zmB {β:Type} (zi:xT) (xh:yT) (yd:yB) (L:Nat) (b2 b6:List V) (k:KK β):(zr 2 (xH (zj zW (xW zi xh yd L) 0 L zhY) (zP 0 (CF.res zbS) k))) (.exit 2) (zj1 b2 b6)=zeR zi xh yd L b2 b6 (fun p0=>k (V.agg p0) []):=by kernel_rfl
def zci {β:Type} (zi:xT) (xh:yT) (yd:yB) (L:Nat) (k_x0:List V→List V→Option β):Nat→List (List V)→Int→Int→List V→List V→Option β
 | 0,_,_,_,_,_=>none
 | n+1,p3,p18,p19,b2,b4=>zdC zi xh yd L p3 p18 p19 b2 b4 (fun p3 p18 p19 b2 b4=>zci zi xh yd L k_x0 n p3 p18 p19 b2 b4) k_x0
theorem zjw {β:Type} (zi:xT) (xh:yT) (yd:yB) (L:Nat) (K:KT β):∀ (n:Nat) (p3:List (List V)) (p18 p19:Int) (b2 b4:List V),xy (zj zW (xW zi xh yd L) 0 L zcX) ze8 n (zdB p3 p18 p19 b2 b4) K=zci zi xh yd L (fun b2 b4=>K (.exit 0) (zg8 b2 b4)) n p3 p18 p19 b2 b4:=by
 intro n
 induction n with
 | zero=>intros; rfl
 | succ n ih =>
  intro p3 p18 p19 b2 b4
  refine (zpH zi xh yd L p3 p18 p19 b2 b4 (fun σ=>xy (zj zW (xW zi xh yd L) 0 L zcX) ze8 n σ K) K).trans ?_
  simp only [ih]
  rfl
def zbx {β:Type} (zi:xT) (xh:yT) (yd:yB) (L:Nat) (k_x2:List V→List V→Option β):Nat→Int→List V→List V→List V→Option β
 | 0,_,_,_,_=>none
 | n+1,p31,b2,b4,b6=>zcs zi xh yd L p31 b2 b4 b6 (fun p31 b2 b4 b6=>zbx zi xh yd L k_x2 n p31 b2 b4 b6) k_x2
theorem zin {β:Type} (zi:xT) (xh:yT) (yd:yB) (L:Nat) (K:KT β):∀ (n:Nat) (p31:Int) (b2 b4 b6:List V),xy (zj zW (xW zi xh yd L) 0 L zb8) zdU n (zcF p31 b2 b4 b6) K=zbx zi xh yd L (fun b2 b6=>K (.exit 2) (zj1 b2 b6)) n p31 b2 b4 b6:=by
 intro n
 induction n with
 | zero=>intros; rfl
 | succ n ih =>
  intro p31 b2 b4 b6
  refine (zoG zi xh yd L p31 b2 b4 b6 (fun σ=>xy (zj zW (xW zi xh yd L) 0 L zb8) zdU n σ K) K).trans ?_
  simp only [ih]
  rfl
def zdq {β:Type} (zi:xT) (xh:yT) (yd:yB) (L:Nat) (b2 b4:List V) (k_fin:List V→Option β):Option β :=
 zgn zi xh yd L b2 b4 (fun p31 b2 b4 b6=>zbx zi xh yd L (fun b2 b6=>zeR zi xh yd L b2 b6 k_fin) L p31 b2 b4 b6)
theorem znC {β:Type} (zi:xT) (xh:yT) (yd:yB) (L:Nat) (b2 b4:List V) (k:KK β):(zr 0 (xH (zj zW (xW zi xh yd L) 0 L zg4) (zP 0 (CF.res zbS) k))) (.exit 0) (zg8 b2 b4)=zdq zi xh yd L b2 b4 (fun p0=>k (V.agg p0) []):=by
 refine (zov zi xh yd L b2 b4 k).trans ?_
 unfold zdq
 first
  | (simp only [zin,zmB]; done)
  | (simp only [zin]; rfl)
def zme {β:Type} (zi:xT) (xh:yT) (yd:yB) (L:Nat) (p0:List (List V)) (k_fin:List V→Option β):Option β :=
 zqm zi xh yd L p0 (fun p3 p18 p19 b2 b4=>zci zi xh yd L (fun b2 b4=>zdq zi xh yd L b2 b4 k_fin) L p3 p18 p19 b2 b4)
theorem zxe {β:Type} (zi:xT) (xh:yT) (yd:yB) (L:Nat) (p0:List (List V)) (k:KK β):yz zW (xW zi xh yd L) L zbS [(V.sl 1 p0)] [] k=zme zi xh yd L p0 (fun p0=>k (V.agg p0) []):=by
 refine (zvR zi xh yd L p0 k).trans ?_
 unfold zme
 first
  | (simp only [zjw,znC]; done)
  | (simp only [zjw]; rfl)
abbrev zms:=∀ (β:Type),Nat→List (List V)→(List V→Option β)→Option β
def yW (β:Type) (L:Nat) (p0:List (List V)) (k_fin:List V→Option β):Option β:=zme zi xh yd L p0 k_fin
def zlR (yW:zms) (L:Nat) (β:Type) (args:List V) (bor:Bor) (k:KK β):Option β:=match args,bor with
 | [a0],[]=>aL 1 a0 fun p0=>yW β L p0 (fun p0=>k (V.agg p0) [])
 | _,_=>none
theorem zxf (L:Nat) (β:Type) (args:List V) (bor:Bor) (k:KK β) (r:β) (h:zlR yW L β args bor k=some r):yz zW (xW zi xh yd L) L zbS args bor k=some r:=by
 unfold zlR at h
 split at h
 ·have q:=zcy h; clear h; obtain ⟨p0,rfl,h⟩:=q
  exact (zxe zi xh yd L p0 k).trans h
 ·cases h
def zg0:CF:=⟨8,[.cell 2 true 32],
 (.seq (.reg [oo 2 (.alloc true (rp 32 (.sc (.int .u8 0)) []))])
 (.seq (.reg [oo 4 (.move (tq 0) false),
   oo 5 (.call 458 [((tq 4),0)] []),
   oo 3 (.alloc true (rp 32 (.sc (.int .u8 0)) [])),
   oz (.store 32 (tq 3) (tq 5))])
 (.seq (.reg [oo 6 (.sliceA 32 1 (tq 3) none none none),
   oo 7 (.call 458 [((tq 6),0)] []),
   oz (.store 32 (tq 2) (tq 7))])
 .ret)))⟩
def zmp:Hint:=⟨[],[],[none],[],[],false,false,[]⟩
def zjY:Nat→Sh:=xI []
def zjQ (yW:zms) (L:Nat):CBC:=(xr 458 (zlR yW L) noC)
def zk9 {β:Type} (yW:zms) (L:Nat) (p0:List (List V)) (k_fin:List V→Option β):Option β :=
 yW β L p0 (fun v0 =>
 chk ((List.length v0)=32∧0+32≤32) (
 lt (xk (List.replicate 32 (V.sc (.int .u8 (0:Int)))) 0 v0) fun r1 =>
 chk (0+32 * 1≤(List.length r1)) (
 ifb (List.isEmpty r1) (
 yW β L (yf 1 32 r1) (fun v2 =>
 chk ((List.length v2)=32∧0+32≤32) (
 lt (xk (List.replicate 32 (V.sc (.int .u8 (0:Int)))) 0 v2) fun r3 =>
 chk (0=0∧(List.length r3)=32∧32≠0) (
 k_fin r3)))) (
 yW β L (yf 1 32 r1) (fun v4 =>
 chk ((List.length v4)=32∧0+32≤32) (
 lt (xk (List.replicate 32 (V.sc (.int .u8 (0:Int)))) 0 v4) fun r5 =>
 chk (0=0∧(List.length r5)=32∧32≠0) (
 k_fin r5)))))))
theorem zs8 {β:Type} (yW:zms) (L:Nat) (p0:List (List V)) (k:KK β):yz zjY (zjQ yW L) L zg0 [(V.sl 1 p0)] [] k=zk9 yW L p0 (fun p0=>k (V.agg p0) []):=by kernel_rfl
abbrev zic:=∀ (β:Type),Nat→List (List V)→(List V→Option β)→Option β
def xM (β:Type) (L:Nat) (p0:List (List V)) (k_fin:List V→Option β):Option β:=zk9 yW L p0 k_fin
def zhZ (xM:zic) (L:Nat) (β:Type) (args:List V) (bor:Bor) (k:KK β):Option β:=match args,bor with
 | [a0],[]=>aL 1 a0 fun p0=>xM β L p0 (fun p0=>k (V.agg p0) [])
 | _,_=>none
theorem ztO (L:Nat) (β:Type) (args:List V) (bor:Bor) (k:KK β) (r:β) (h:zhZ xM L β args bor k=some r):yz zjY (zjQ yW L) L zg0 args bor k=some r:=by
 unfold zhZ at h
 split at h
 ·have q:=zcy h; clear h; obtain ⟨p0,rfl,h⟩:=q
  exact (zs8 yW L p0 k).trans h
 ·cases h
def zhP:CF:=⟨18,[.cell 4 true 32],
 (.seq (.reg [oo 2 (.box true (tq 0)),
   oo 4 (.alloc true (rp 32 (.sc (.int .u8 0)) []))])
 (.seq (.reg [oo 8 (.load true 4 (tq 2) false),
   oo 9 (.move (tq 1) false),
   oo 10 (.call 128 [((tq 8),1),((tq 9),0)] []),
   oo 7 (.move (tq 10) true),
   oo 11 (.extract (tq 7) 0),
   oo 12 (.pull (tq 7) 1),
   oo 5 (.move (tq 11) false),
   oo 6 (.move (tq 12) false)])
 (.seq (.seq (.reg [oo 13 (.move (tq 6) false),
   oo 14 (.bin .neq (tq 13) (.const (.sc (.int .i64 0))))])
 (.cond (tq 14)
 (.seq (.reg [oo 15 (.build (rp 32 (.sc (.int .u8 0)) []) []),
   oz (.store 32 (tq 4) (tq 15))])
 .ret)
 .skip))
 (.seq (.reg [oo 16 (.move (tq 5) false),
   oo 17 (.call 501 [((tq 16),0)] []),
   oz (.store 32 (tq 4) (tq 17))])
 .ret))))⟩
def znF:Hint:=⟨[(0,0),(1,3),(1,4)],[],[none,none,none],[],[],false,false,[]⟩
def zlw:Nat→Sh:=xI []
def zk8 (xo:zbk) (xM:zic) (L:Nat):CBC:=(xr 501 (zhZ xM L) (xr 128 (zeK xo L) noC))
def zmJ {β:Type} (xo:zbk) (xM:zic) (L:Nat) (p0:List V) (p1:Bool) (k_fin:List V→Option β):Option β :=
 chk (0+4≤(List.length p0)) (
 xo β L (List.map V.dem (List.take 4 p0)) p1 (fun v0 v1 =>
 ifb ((v1:Int) != (0:Int)) (
 lt (List.replicate 32 (V.sc (.int .u8 (0:Int)))) fun r2 =>
 chk (0=0∧(List.length r2)=32∧32≠0) (
 k_fin r2)) (
 xM β L v0 (fun v3 =>
 chk ((List.length v3)=32∧0+32≤32) (
 lt (xk (List.replicate 32 (V.sc (.int .u8 (0:Int)))) 0 v3) fun r4 =>
 chk (0=0∧(List.length r4)=32∧32≠0) (
 k_fin r4))))))
theorem ztX {β:Type} (xo:zbk) (xM:zic) (L:Nat) (p0:List V) (p1:Bool) (k:KK β):yz zlw (zk8 xo xM L) L zhP [(V.agg p0),(V.sc (.bool p1))] [] k=zmJ xo xM L p0 p1 (fun p0=>k (V.agg p0) []):=by kernel_rfl
abbrev zeL:=∀ (β:Type),Nat→List V→Bool→(List V→Option β)→Option β
def zH (β:Type) (L:Nat) (p0:List V) (p1:Bool) (k_fin:List V→Option β):Option β:=zmJ xo xM L p0 p1 k_fin
def zgF (zH:zeL) (L:Nat) (β:Type) (args:List V) (bor:Bor) (k:KK β):Option β:=match args,bor with
 | [a0,a1],[]=>aG a0 fun p0=>aB a1 fun p1=>zH β L p0 p1 (fun p0=>k (V.agg p0) [])
 | _,_=>none
theorem zuh (L:Nat) (β:Type) (args:List V) (bor:Bor) (k:KK β) (r:β) (h:zgF zH L β args bor k=some r):yz zlw (zk8 xo xM L) L zhP args bor k=some r:=by
 unfold zgF at h
 split at h
 ·have q:=zcx h; clear h; obtain ⟨p0,rfl,h⟩:=q
  have q:=zjA h; clear h; obtain ⟨p1,rfl,h⟩:=q
  exact (ztX xo xM L p0 p1 k).trans h
 ·cases h
def znT:CF:=⟨5,[.cell 2 true 32],
 (.seq (.reg [oo 1 (.box true (tq 0)),
   oo 2 (.alloc true (rp 32 (.sc (.int .u8 0)) []))])
 (.seq (.reg [oo 3 (.load true 4 (tq 1) false),
   oo 4 (.call 583 [((tq 3),1),((.const (.sc (.bool false))),0)] []),
   oz (.store 32 (tq 2) (tq 4))])
 .ret))⟩
def zsQ:Hint:=⟨[(0,0)],[],[none],[],[],false,false,[]⟩
def zsz:Nat→Sh:=xI []
def zsy (zH:zeL) (L:Nat):CBC:=(xr 583 (zgF zH L) noC)
def zuo {β:Type} (zH:zeL) (L:Nat) (p0:List V) (k_fin:List V→Option β):Option β :=
 chk (0+4≤(List.length p0)) (
 zH β L (List.map V.dem (List.take 4 p0)) false (fun v0 =>
 chk ((List.length v0)=32∧0+32≤32) (
 lt (xk (List.replicate 32 (V.sc (.int .u8 (0:Int)))) 0 v0) fun r1 =>
 chk (0=0∧(List.length r1)=32∧32≠0) (
 k_fin r1))))
theorem zyF {β:Type} (zH:zeL) (L:Nat) (p0:List V) (k:KK β):yz zsz (zsy zH L) L znT [(V.agg p0)] [] k=zuo zH L p0 (fun p0=>k (V.agg p0) []):=by kernel_rfl
abbrev zkK:=∀ (β:Type),Nat→List V→(List V→Option β)→Option β
def zV (β:Type) (L:Nat) (p0:List V) (k_fin:List V→Option β):Option β:=zuo zH L p0 k_fin
def znB (zV:zkK) (L:Nat) (β:Type) (args:List V) (bor:Bor) (k:KK β):Option β:=match args,bor with
 | [a0],[]=>aG a0 fun p0=>zV β L p0 (fun p0=>k (V.agg p0) [])
 | _,_=>none
theorem zzr (L:Nat) (β:Type) (args:List V) (bor:Bor) (k:KK β) (r:β) (h:znB zV L β args bor k=some r):yz zsz (zsy zH L) L znT args bor k=some r:=by
 unfold znB at h
 split at h
 ·have q:=zcx h; clear h; obtain ⟨p0,rfl,h⟩:=q
  exact (zyF zH L p0 k).trans h
 ·cases h
def zon:CC:=(.seq (.reg [oo 12 (.bin .lss (tq 11) (tq 10))])
 (.seq (.cond (tq 12)
 .skip
 (.seq (.mask (bl 32 24) (bl 16777151 24))
 (.exit 0)))
 (.seq (.block 1 (.seq (.reg [oo 13 (.move (tq 11) false),
   oo 6 (.move (tq 13) false)])
 (.reg [oo 14 (.move (tq 5) false),
   oo 15 (.move (tq 6) false),
   oo 16 (.move (tq 0) false),
   oo 17 (.move (tq 6) false),
   oo 18 (.bin .mul (.const (.sc (.int .i64 8))) (tq 17)),
   oo 19 (.bin .shr (tq 16) (tq 18)),
   oo 20 (.conv .u8 (tq 19)),
   oo 21 (.indexAddrS 1 (tq 14) (tq 15)),
   oz (.store 1 (tq 21) (tq 20))])))
 (.reg [oo 22 (.bin .add (tq 11) (.const (.sc (.int .i64 1)))),
   oo 11 (.move (tq 22) false)]))))
def zq5:CC:=(.seq (.reg [oo 23 (.move (tq 5) true),
   oo 4 (.move (tq 23) true)])
 .ret)
def zmt:CF:=⟨24,[.tmp 4],
 (.seq (.reg [oo 4 (.move (.const (.gs 1 [])) true)])
 (.seq (.reg [oo 7 (.move (tq 1) false),
   ⟨(some 8),true,none,.makeSlice 1 1 [(.sc (.int .u8 0))] (tq 7) (tq 7)⟩,
   oo 5 (.move (tq 8) true)])
 (.seq (.seq (.reg [oo 9 (.move (tq 5) false),
   oo 10 (.lenS (tq 9)),
   oo 11 (.move (.const (.sc (.int .i64 0))) false)])
 (.block 0 (.loop (bl 3105 24) (bl 16777151 24)
 zon)))
 zq5)))⟩
def zj8:Hint:=⟨[(0,0),(1,2),(7,0),(7,1)],[(1,1)],[none,some ((bl 3105 24),(bl 16777151 24)),none,some ((bl 32 24),(bl 16777151 24)),none,none],[],[],false,false,[]⟩
def zCp:Nat→Sh:=xI []
def zCC (L:Nat):CBC:=noC
def zzB:St→St:=yJ 0 (bl 3105 24) (bl 16777151 24)
def zxo (p0:Int) (p5l:Nat) (p10 p11:Int) (b8:List V):St:=⟨((V.sc (.int .u64 p0))::(jn 4 ((V.own 8 0 p5l 1)::(jn 4 ((V.sc (.int .i64 p10))::((V.sc (.int .i64 p11))::(jn 12 []))))))),(gn 8 ((.live true b8)::(gn 15 [])))⟩
def zAv (p5l:Nat) (b8:List V):St:=⟨(jn 5 ((V.own 8 0 p5l 1)::(jn 18 []))),(gn 8 ((.live true b8)::(gn 15 [])))⟩
def ztZ {β:Type} (L:Nat) (p0 p1:Int) (k_hbbaba:Int→Nat→Int→Int→List V→Option β):Option β :=
 chk (0≤p1∧p1≤p1∧(Int.toNat p1) * 1≤xg∧p1≤xg) (
 k_hbbaba p0 (Int.toNat p1) (((Int.toNat p1):Nat):Int) (0:Int) (List.flatten (List.replicate (Int.toNat p1) [(V.sc (.int .u8 (0:Int)))])))
def zpk {β:Type} (L:Nat) (p0:Int) (p5l:Nat) (p10 p11:Int) (b8:List V) (k_hbbaba:Int→Nat→Int→Int→List V→Option β) (k_x0:Nat→List V→Option β):Option β :=
 ifb (decide (p11 < p10)) (
 lt (IntKind.wrap .i64 (((8:Int):Int) * p11)) fun x0 =>
 chk (0≤x0) (
 lt (zdJ .u64 p0 x0) fun x1 =>
 lt (IntKind.wrap .u8 x1) fun x2 =>
 chk (0≤p11∧p11 < ((p5l:Nat):Int)) (
 chk (1=1∧(0+((Int.toNat p11) * 1))+1≤(List.length b8)) (
 lt (xk b8 (0+((Int.toNat p11) * 1)) [(V.sc (.int .u8 x2))]) fun r3 =>
 lt (IntKind.wrap .i64 ((p11:Int)+(1:Int))) fun x4 =>
 k_hbbaba p0 p5l p10 x4 r3)))) (
 k_x0 p5l b8)
def zm9 {β:Type} (L:Nat) (p5l:Nat) (b8:List V) (k_fin:List (List V)→Option β):Option β :=
 chk (p5l≠0∨(List.length b8)=0) (
 k_fin (yf 1 p5l b8))
def ziC {β:Type} (L:Nat) (k_x0:Nat→List V→Option β):Nat→Int→Nat→Int→Int→List V→Option β
 | 0,_,_,_,_,_=>none
 | n+1,p0,p5l,p10,p11,b8=>zpk L p0 p5l p10 p11 b8 (fun p0 p5l p10 p11 b8=>ziC L k_x0 n p0 p5l p10 p11 b8) k_x0
def zuc {β:Type} (L:Nat) (p0 p1:Int) (k_fin:List (List V)→Option β):Option β :=
 ztZ L p0 p1 (fun p0 p5l p10 p11 b8=>ziC L (fun p5l b8=>zm9 L p5l b8 k_fin) L p0 p5l p10 p11 b8)
abbrev zbK:=∀ (β:Type),Nat→Int→Int→(List (List V)→Option β)→Option β
def xB (β:Type) (L:Nat) (p0 p1:Int) (k_fin:List (List V)→Option β):Option β:=zuc L p0 p1 k_fin
def ziO (xB:zbK) (L:Nat) (β:Type) (args:List V) (bor:Bor) (k:KK β):Option β:=match args,bor with
 | [a0,a1],[]=>aI .u64 a0 fun p0=>aI .i64 a1 fun p1=>xB β L p0 p1 (fun p0=>k (V.fr 1 p0) [])
 | _,_=>none
def zmi:CF:=⟨17,[.tmp 4],
 (.seq (.reg [oo 4 (.move (.const (.gs 1 [])) true)])
 (.seq (.reg [oo 6 (.move (tq 0) false),
   oo 7 (.lenS (tq 6)),
   oo 8 (.move (tq 1) false),
   oo 9 (.lenS (tq 8)),
   oo 10 (.bin .add (tq 7) (tq 9)),
   oo 11 (.makeSlice 1 1 [(.sc (.int .u8 0))] (.const (.sc (.int .i64 0))) (tq 10)),
   oo 5 (.move (tq 11) true)])
 (.seq (.reg [oo 12 (.move (tq 5) true),
   oo 13 (.move (tq 0) false),
   oo 14 (.append 1 1 (tq 12) (tq 13)),
   oo 15 (.move (tq 1) false),
   oo 16 (.append 1 1 (tq 14) (tq 15)),
   oo 4 (.move (tq 16) true)])
 .ret)))⟩
def zkd:Hint:=⟨[(0,0),(1,6),(2,0),(2,5)],[],[none],[],[],false,false,[]⟩
def zCz:Nat→Sh:=xI []
def zCB (L:Nat):CBC:=noC
def zt4 {β:Type} (L:Nat) (p0 p1:List (List V)) (k_fin:List (List V)→Option β):Option β :=
 lt (IntKind.wrap .i64 ((((List.length p0:Nat):Int):Int)+((List.length p1:Nat):Int))) fun x0 =>
 chk (0≤(0:Int)∧(0:Int)≤x0∧(Int.toNat x0) * 1≤xg∧x0≤xg) (
 chk ((List.length (List.replicate 0 [(V.sc (.int .u8 (0:Int)))])+List.length p0) * 1≤xg∧List.length (List.replicate 0 [(V.sc (.int .u8 (0:Int)))])+List.length p0≤xg) (
 lt ((List.replicate 0 [(V.sc (.int .u8 (0:Int)))])++p0) fun l1 =>
 chk ((List.length l1+List.length p1) * 1≤xg∧List.length l1+List.length p1≤xg) (
 lt (l1++p1) fun l2 =>
 k_fin l2)))
abbrev zac:=∀ (β:Type),Nat→List (List V)→List (List V)→(List (List V)→Option β)→Option β
def yn (β:Type) (L:Nat) (p0 p1:List (List V)) (k_fin:List (List V)→Option β):Option β:=zt4 L p0 p1 k_fin
def zed (yn:zac) (L:Nat) (β:Type) (args:List V) (bor:Bor) (k:KK β):Option β:=match args,bor with
 | [a0,a1],[]=>aL 1 a0 fun p0=>aL 1 a1 fun p1=>yn β L p0 p1 (fun p0=>k (V.gs 1 p0) [])
 | _,_=>none
def zjj:CF:=⟨10,[.tmp 4],
 (.seq (.reg [oo 4 (.move (.const (.gs 1 [])) true)])
 (.seq (.reg [oo 5 (.move (tq 0) false),
   oo 6 (.move (tq 1) false),
   oo 7 (.conv .u64 (tq 6)),
   oo 8 (.call 194 [((tq 7),0),((.const (.sc (.int .i64 4))),0)] []),
   oo 9 (.call 193 [((tq 5),0),((tq 8),0)] []),
   oo 4 (.move (tq 9) true)])
 .ret))⟩
def zhK:Hint:=⟨[(0,0),(1,5)],[],[none],[],[],false,false,[]⟩
def zAo:Nat→Sh:=xI []
def zAA (xB:zbK) (yn:zac) (L:Nat):CBC:=(xr 193 (zed yn L) (xr 194 (ziO xB L) noC))
def zq8 {β:Type} (xB:zbK) (yn:zac) (L:Nat) (p0:List (List V)) (p1:Int) (k_fin:List (List V)→Option β):Option β :=
 lt (IntKind.wrap .u64 p1) fun x0 =>
 xB β L x0 (4:Int) (fun v1 =>
 yn β L p0 v1 (fun v2 =>
 k_fin v2))
abbrev zx:=∀ (β:Type),Nat→List (List V)→Int→(List (List V)→Option β)→Option β
def ye (β:Type) (L:Nat) (p0:List (List V)) (p1:Int) (k_fin:List (List V)→Option β):Option β:=zq8 xB yn L p0 p1 k_fin
def zkr (ye:zx) (L:Nat) (β:Type) (args:List V) (bor:Bor) (k:KK β):Option β:=match args,bor with
 | [a0,a1],[]=>aL 1 a0 fun p0=>aI .u32 a1 fun p1=>ye β L p0 p1 (fun p0=>k (V.gs 1 p0) [])
 | _,_=>none
def ziA:CF:=⟨36,[.tmp 4],
 (.seq (.reg [oo 4 (.move (.const (.gs 1 [])) true)])
 (.seq (.block 0 (.seq (.reg [oo 6 (.move (tq 1) false),
   oo 7 (.bin .lss (tq 6) (.const (.sc (.int .u64 253)))),
   oo 5 (.move (tq 7) false)])
 (.cond (tq 5)
 (.seq (.reg [oo 8 (.move (tq 0) false),
   oo 9 (.move (tq 1) false),
   oo 10 (.call 194 [((tq 9),0),((.const (.sc (.int .i64 1))),0)] []),
   oo 11 (.call 193 [((tq 8),0),((tq 10),0)] []),
   oo 4 (.move (tq 11) true)])
 .ret)
 (.seq (.reg [oo 13 (.move (tq 1) false),
   oo 14 (.bin .lss (tq 13) (.const (.sc (.int .u64 65536)))),
   oo 12 (.move (tq 14) false)])
 (.cond (tq 12)
 (.seq (.reg [oo 15 (.move (tq 0) false),
   oo 16 (.buildSlice 1 1 [(.sc (.int .u8 0))] [(0,1,(.const (.sc (.int .u8 253))))]),
   oo 17 (.move (tq 1) false),
   oo 18 (.call 194 [((tq 17),0),((.const (.sc (.int .i64 2))),0)] []),
   oo 19 (.call 193 [((tq 16),0),((tq 18),0)] []),
   oo 20 (.call 193 [((tq 15),0),((tq 19),0)] []),
   oo 4 (.move (tq 20) true)])
 .ret)
 (.seq (.reg [oo 22 (.move (tq 1) false),
   oo 23 (.bin .lss (tq 22) (.const (.sc (.int .u64 4294967296)))),
   oo 21 (.move (tq 23) false)])
 (.cond (tq 21)
 (.seq (.reg [oo 24 (.move (tq 0) false),
   oo 25 (.buildSlice 1 1 [(.sc (.int .u8 0))] [(0,1,(.const (.sc (.int .u8 254))))]),
   oo 26 (.move (tq 1) false),
   oo 27 (.call 194 [((tq 26),0),((.const (.sc (.int .i64 4))),0)] []),
   oo 28 (.call 193 [((tq 25),0),((tq 27),0)] []),
   oo 29 (.call 193 [((tq 24),0),((tq 28),0)] []),
   oo 4 (.move (tq 29) true)])
 .ret)
 .skip)))))))
 (.seq (.reg [oo 30 (.move (tq 0) false),
   oo 31 (.buildSlice 1 1 [(.sc (.int .u8 0))] [(0,1,(.const (.sc (.int .u8 255))))]),
   oo 32 (.move (tq 1) false),
   oo 33 (.call 194 [((tq 32),0),((.const (.sc (.int .i64 8))),0)] []),
   oo 34 (.call 193 [((tq 31),0),((tq 33),0)] []),
   oo 35 (.call 193 [((tq 30),0),((tq 34),0)] []),
   oo 4 (.move (tq 35) true)])
 .ret)))⟩
def zhp:Hint:=⟨[(0,0),(2,4),(4,6),(6,6),(7,6)],[],[none,none,none,none,none,none,none,none],[],[],false,false,[]⟩
def zzE:Nat→Sh:=xI []
def zzA (xB:zbK) (yn:zac) (L:Nat):CBC:=(xr 193 (zed yn L) (xr 194 (ziO xB L) noC))
def zpW {β:Type} (xB:zbK) (yn:zac) (L:Nat) (p0:List (List V)) (p1:Int) (k_fin:List (List V)→Option β):Option β :=
 ifb (decide (p1 < (253:Int))) (
 xB β L p1 (1:Int) (fun v0 =>
 yn β L p0 v0 (fun v1 =>
 k_fin v1))) (
 ifb (decide (p1 < (65536:Int))) (
 xB β L p1 (2:Int) (fun v2 =>
 yn β L (yf 1 1 [(V.sc (.int .u8 (253:Int)))]) v2 (fun v3 =>
 yn β L p0 v3 (fun v4 =>
 k_fin v4)))) (
 ifb (decide (p1 < (4294967296:Int))) (
 xB β L p1 (4:Int) (fun v5 =>
 yn β L (yf 1 1 [(V.sc (.int .u8 (254:Int)))]) v5 (fun v6 =>
 yn β L p0 v6 (fun v7 =>
 k_fin v7)))) (
 xB β L p1 (8:Int) (fun v8 =>
 yn β L (yf 1 1 [(V.sc (.int .u8 (255:Int)))]) v8 (fun v9 =>
 yn β L p0 v9 (fun v10 =>
 k_fin v10))))))
abbrev yt:=∀ (β:Type),Nat→List (List V)→Int→(List (List V)→Option β)→Option β
def ze (β:Type) (L:Nat) (p0:List (List V)) (p1:Int) (k_fin:List (List V)→Option β):Option β:=zpW xB yn L p0 p1 k_fin
def zjL (ze:yt) (L:Nat) (β:Type) (args:List V) (bor:Bor) (k:KK β):Option β:=match args,bor with
 | [a0,a1],[]=>aL 1 a0 fun p0=>aI .u64 a1 fun p1=>ze β L p0 p1 (fun p0=>k (V.gs 1 p0) [])
 | _,_=>none
def ziE:CF:=⟨8,[.tmp 4],
 (.seq (.reg [oo 3 (.box true (tq 1)),
   oo 4 (.move (.const (.gs 1 [])) true)])
 (.seq (.reg [oo 5 (.move (tq 0) false),
   oo 6 (.sliceA 32 1 (tq 3) none none none),
   oo 7 (.call 193 [((tq 5),0),((tq 6),0)] []),
   oo 4 (.move (tq 7) true)])
 .ret))⟩
def zhz:Hint:=⟨[(0,1),(1,3)],[],[none],[],[],false,false,[]⟩
def zzF:Nat→Sh:=xI []
def zzD (yn:zac) (L:Nat):CBC:=(xr 193 (zed yn L) noC)
def zpJ {β:Type} (yn:zac) (L:Nat) (p0:List (List V)) (p1:List V) (k_fin:List (List V)→Option β):Option β :=
 chk (0+32 * 1≤(List.length p1)) (
 ifb (List.isEmpty p1) (
 yn β L p0 (yf 1 32 p1) (fun v0 =>
 k_fin v0)) (
 yn β L p0 (yf 1 32 p1) (fun v1 =>
 k_fin v1)))
abbrev zfr:=∀ (β:Type),Nat→List (List V)→List V→(List (List V)→Option β)→Option β
def zaH (β:Type) (L:Nat) (p0:List (List V)) (p1:List V) (k_fin:List (List V)→Option β):Option β:=zpJ yn L p0 p1 k_fin
def zqh (zaH:zfr) (L:Nat) (β:Type) (args:List V) (bor:Bor) (k:KK β):Option β:=match args,bor with
 | [a0,a1],[]=>aL 1 a0 fun p0=>aG a1 fun p1=>zaH β L p0 p1 (fun p0=>k (V.gs 1 p0) [])
 | _,_=>none
def znl:CF:=⟨9,[.tmp 2],
 (.seq (.reg [oo 1 (.box true (tq 0)),
   oo 2 (.move (.const (.gs 1 [])) true)])
 (.seq (.dreg [] [(oo 3 (.fieldAddr 0 (tq 1)),q0),
   (oo 4 (.load true 32 (tq 3) false),ql 1 [] []),
   (oo 5 (.call 160 [((.const (.gs 1 [])),0),((tq 4),0)] []),qc [1] []),
   (oo 6 (.fieldAddr 32 (tq 1)),q0),
   (oo 7 (.load false 1 (tq 6) false),ql 1 [] []),
   (oo 8 (.call 159 [((tq 5),0),((tq 7),0)] []),q0),
   (oo 2 (.move (tq 8) true),q0)])
 .ret))⟩
def zkX:Hint:=⟨[(0,1),(1,6)],[],[none],[],[],false,false,[]⟩
def zCE:Nat→Sh:=xI [(7,(.int .u32))]
def zCZ (zaH:zfr) (ye:zx) (L:Nat):CBC:=(xr 159 (zkr ye L) (xr 160 (zqh zaH L) noC))
def zvi {β:Type} (zaH:zfr) (ye:zx) (L:Nat) (p0:List V) (k_fin:List (List V)→Option β):Option β :=
 chk (0+32≤(List.length p0)) (
 zaH β L ([]:List (List V)) (List.take 32 p0) (fun v0 =>
 cI .u32 p0 32 fun v1 =>
 ye β L v0 v1 (fun v2 =>
 k_fin v2)))
abbrev zG:=∀ (β:Type),Nat→List V→(List (List V)→Option β)→Option β
def yl (β:Type) (L:Nat) (p0:List V) (k_fin:List (List V)→Option β):Option β:=zvi zaH ye L p0 k_fin
def zvp (yl:zG) (L:Nat) (β:Type) (args:List V) (bor:Bor) (k:KK β):Option β:=match args,bor with
 | [a0],[]=>aG a0 fun p0=>yl β L p0 (fun p0=>k (V.gs 1 p0) [])
 | _,_=>none
def zjl:CF:=⟨9,[.tmp 4],
 (.seq (.reg [oo 4 (.move (.const (.gs 1 [])) true)])
 (.seq (.reg [oo 5 (.move (tq 0) false),
   oo 6 (.move (tq 1) false),
   oo 7 (.call 194 [((tq 6),0),((.const (.sc (.int .i64 8))),0)] []),
   oo 8 (.call 193 [((tq 5),0),((tq 7),0)] []),
   oo 4 (.move (tq 8) true)])
 .ret))⟩
def zig:Hint:=⟨[(0,0),(1,4)],[],[none],[],[],false,false,[]⟩
def zAc:Nat→Sh:=xI []
def zAz (xB:zbK) (yn:zac) (L:Nat):CBC:=(xr 193 (zed yn L) (xr 194 (ziO xB L) noC))
def zro {β:Type} (xB:zbK) (yn:zac) (L:Nat) (p0:List (List V)) (p1:Int) (k_fin:List (List V)→Option β):Option β :=
 xB β L p1 (8:Int) (fun v0 =>
 yn β L p0 v0 (fun v1 =>
 k_fin v1))
abbrev zgq:=∀ (β:Type),Nat→List (List V)→Int→(List (List V)→Option β)→Option β
def zaQ (β:Type) (L:Nat) (p0:List (List V)) (p1:Int) (k_fin:List (List V)→Option β):Option β:=zro xB yn L p0 p1 k_fin
def zq9 (zaQ:zgq) (L:Nat) (β:Type) (args:List V) (bor:Bor) (k:KK β):Option β:=match args,bor with
 | [a0,a1],[]=>aL 1 a0 fun p0=>aI .u64 a1 fun p1=>zaQ β L p0 p1 (fun p0=>k (V.gs 1 p0) [])
 | _,_=>none
def zil:CF:=⟨12,[.tmp 4],
 (.seq (.reg [oo 4 (.move (.const (.gs 1 [])) true)])
 (.seq (.reg [oo 5 (.move (tq 0) false),
   oo 6 (.move (tq 1) false),
   oo 7 (.lenS (tq 6)),
   oo 8 (.conv .u64 (tq 7)),
   oo 9 (.call 185 [((tq 5),0),((tq 8),0)] []),
   oo 10 (.move (tq 1) false),
   oo 11 (.call 193 [((tq 9),0),((tq 10),0)] []),
   oo 4 (.move (tq 11) true)])
 .ret))⟩
def zgN:Hint:=⟨[(0,0),(1,7)],[],[none],[],[],false,false,[]⟩
def zyy:Nat→Sh:=xI []
def zzg (ze:yt) (yn:zac) (L:Nat):CBC:=(xr 193 (zed yn L) (xr 185 (zjL ze L) noC))
def zpr {β:Type} (ze:yt) (yn:zac) (L:Nat) (p0 p1:List (List V)) (k_fin:List (List V)→Option β):Option β :=
 lt (IntKind.wrap .u64 ((List.length p1:Nat):Int)) fun x0 =>
 ze β L p0 x0 (fun v1 =>
 yn β L v1 p1 (fun v2 =>
 k_fin v2))
abbrev zq:=∀ (β:Type),Nat→List (List V)→List (List V)→(List (List V)→Option β)→Option β
def xd (β:Type) (L:Nat) (p0 p1:List (List V)) (k_fin:List (List V)→Option β):Option β:=zpr ze yn L p0 p1 k_fin
def ziF (xd:zq) (L:Nat) (β:Type) (args:List V) (bor:Bor) (k:KK β):Option β:=match args,bor with
 | [a0,a1],[]=>aL 1 a0 fun p0=>aL 1 a1 fun p1=>xd β L p0 p1 (fun p0=>k (V.gs 1 p0) [])
 | _,_=>none
def zqo:CF:=⟨10,[.tmp 2],
 (.seq (.reg [oo 1 (.box true (tq 0)),
   oo 2 (.move (.const (.gs 1 [])) true)])
 (.seq (.dreg [] [(oo 3 (.fieldAddr 0 (tq 1)),q0),
   (oo 4 (.load false 1 (tq 3) false),ql 1 [] []),
   (oo 5 (.conv .u64 (tq 4)),q0),
   (oo 6 (.call 206 [((.const (.gs 1 [])),0),((tq 5),0)] []),qc [1] []),
   (oo 7 (.fieldAddr 1 (tq 1)),q0),
   (oo 8 (.load false 1 (tq 7) false),ql 1 [] []),
   (oo 9 (.call 187 [((tq 6),0),((tq 8),0)] []),q0),
   (oo 2 (.move (tq 9) true),q0)])
 .ret))⟩
def znr:Hint:=⟨[(0,0),(0,1),(1,7)],[],[none],[],[],false,false,[]⟩
def zEb:Nat→Sh:=xI [(4,(.int .i64)),(8,(.sl 1))]
def zEc (zaQ:zgq) (xd:zq) (L:Nat):CBC:=(xr 187 (ziF xd L) (xr 206 (zq9 zaQ L) noC))
def zxL {β:Type} (zaQ:zgq) (xd:zq) (L:Nat) (p0:List V) (k_fin:List (List V)→Option β):Option β :=
 cI .i64 p0 0 fun v0 =>
 lt (IntKind.wrap .u64 v0) fun x1 =>
 zaQ β L ([]:List (List V)) x1 (fun v2 =>
 cLd 1 p0 1 fun v3 =>
 xd β L v2 v3 (fun v4 =>
 k_fin v4))
abbrev xK:=∀ (β:Type),Nat→List V→(List (List V)→Option β)→Option β
def xn (β:Type) (L:Nat) (p0:List V) (k_fin:List (List V)→Option β):Option β:=zxL zaQ xd L p0 k_fin
def zxw (xn:xK) (L:Nat) (β:Type) (args:List V) (bor:Bor) (k:KK β):Option β:=match args,bor with
 | [a0],[]=>aG a0 fun p0=>xn β L p0 (fun p0=>k (V.gs 1 p0) [])
 | _,_=>none
def zge:CC:=(.seq (.reg [oo 80 (.bin .lss (tq 79) (tq 78))])
 (.seq (.cond (tq 80)
 .skip
 (.seq (.mask (bl 32281802128991715362 89) (bl 580284393415022003858953595 89))
 (.exit 6)))
 (.seq (.block 7 (.seq (.reg [oo 81 (.indexAddrS 1 (tq 77) (tq 79)),
   oo 82 (.load false 1 (tq 81) false),
   oo 13 (.move (tq 82) false)])
 (.reg [oo 83 (.move (tq 5) false),
   oo 84 (.move (tq 13) false),
   oo 85 (.call 187 [((tq 83),0),((tq 84),0)] []),
   oo 5 (.move (tq 85) true)])))
 (.reg [oo 86 (.bin .add (tq 79) (.const (.sc (.int .i64 1)))),
   oo 79 (.move (tq 86) false)]))))
def ziM:CC:=(.reg [oo 87 (.bin .add (tq 64) (.const (.sc (.int .i64 1)))),
   oo 64 (.move (tq 87) false)])
def zkv:CC:=(.seq (.reg [oo 65 (.bin .lss (tq 64) (tq 63))])
 (.seq (.cond (tq 65)
 .skip
 (.seq (.mask (bl 32 89) (bl 579934938295289650113140091 89))
 (.exit 4)))
 (.seq (.block 5 (.seq (.reg [oo 66 (.indexAddrS 35 (tq 62) (tq 64)),
   oo 67 (.load true 35 (tq 66) false),
   oo 11 (.alloc true (rp 32 (.sc (.int .u8 0)) (rp 2 (.sc (.int .u32 0)) (rp 1 (.gs 1 []) [])))),
   oz (.store 35 (tq 11) (tq 67))])
 (.seq (.seq (.reg [oo 68 (.move (tq 1) false),
   oo 69 (.un .not (tq 68))])
 (.cond (tq 69)
 (.seq (.mask (bl 32 89) (bl 579934938295289650113140091 89))
 (.exit 4))
 .skip))
 (.seq (.reg [oo 70 (.move (tq 5) false),
   oo 71 (.fieldAddr 34 (tq 11)),
   oo 72 (.load false 1 (tq 71) false),
   oo 73 (.lenS (tq 72)),
   oo 74 (.conv .u64 (tq 73)),
   oo 75 (.call 185 [((tq 70),0),((tq 74),0)] []),
   oo 5 (.move (tq 75) true)])
 (.seq (.reg [oo 76 (.fieldAddr 34 (tq 11)),
   oo 77 (.load false 1 (tq 76) false),
   oo 78 (.lenS (tq 77)),
   oo 79 (.move (.const (.sc (.int .i64 0))) false)])
 (.block 6 (.loop (bl 1057842373964929519583266 89) (bl 580284393415022003858953595 89)
 zge)))))))
 ziM)))
def zlM:CC:=(.seq (.reg [oo 49 (.bin .lss (tq 48) (tq 47))])
 (.seq (.cond (tq 49)
 .skip
 (.seq (.mask (bl 38 89) (bl 618970019588646941921113471 89))
 (.exit 2)))
 (.seq (.block 3 (.seq (.reg [oo 50 (.indexAddrS 2 (tq 46) (tq 48)),
   oo 51 (.load true 2 (tq 50) false),
   oo 9 (.alloc true [(.sc (.int .i64 0)),(.gs 1 [])]),
   oz (.store 2 (tq 9) (tq 51))])
 (.reg [oo 52 (.move (tq 5) true),
   oo 53 (.load true 2 (tq 9) false),
   oo 54 (.call 186 [((tq 53),1)] []),
   oo 55 (.append 1 1 (tq 52) (tq 54)),
   oo 5 (.move (tq 55) true)])))
 (.reg [oo 56 (.bin .add (tq 48) (.const (.sc (.int .i64 1)))),
   oo 48 (.move (tq 56) false)]))))
def zmN:CC:=(.seq (.reg [oo 88 (.move (tq 5) true),
   oo 4 (.move (tq 88) true)])
 .ret)
def zm8:CC:=(.seq (.reg [oo 27 (.bin .lss (tq 26) (tq 25))])
 (.seq (.cond (tq 27)
 .skip
 (.seq (.mask (bl 38 89) (bl 618970019642689974240802175 89))
 (.exit 0)))
 (.seq (.block 1 (.seq (.reg [oo 28 (.indexAddrS 35 (tq 24) (tq 26)),
   oo 29 (.load true 35 (tq 28) false),
   oo 7 (.alloc true (rp 32 (.sc (.int .u8 0)) (rp 2 (.sc (.int .u32 0)) (rp 1 (.gs 1 []) [])))),
   oz (.store 35 (tq 7) (tq 29))])
 (.dreg [] [(oo 30 (.move (tq 5) true),qc [7] []),
   (oo 31 (.fieldAddr 0 (tq 7)),q0),
   (oo 32 (.load true 33 (tq 31) false),ql 7 [] []),
   (oo 33 (.call 138 [((tq 32),0)] []),qc [7] []),
   (oo 34 (.append 1 1 (tq 30) (tq 33)),qn [7] []),
   (oo 35 (.fieldAddr 33 (tq 7)),q0),
   (oo 36 (.load false 1 (tq 35) false),ql 7 [] [34]),
   (oo 37 (.call 159 [((tq 34),0),((tq 36),0)] []),q0),
   (oo 5 (.move (tq 37) true),q0)])))
 (.reg [oo 38 (.bin .add (tq 26) (.const (.sc (.int .i64 1)))),
   oo 26 (.move (tq 38) false)]))))
def zob:CC:=(.seq (.reg [oo 57 (.move (tq 5) false),
   oo 58 (.fieldAddr 3 (tq 2)),
   oo 59 (.load false 1 (tq 58) false),
   oo 60 (.call 159 [((tq 57),0),((tq 59),0)] []),
   oo 5 (.move (tq 60) true)])
 (.seq (.seq (.reg [oo 61 (.fieldAddr 1 (tq 2)),
   oo 62 (.load false 1 (tq 61) false),
   oo 63 (.lenS (tq 62)),
   oo 64 (.move (.const (.sc (.int .i64 0))) false)])
 (.block 4 (.loop (bl 32281802128991715362 89) (bl 579934938295289650113140091 89)
 zkv)))
 zmN))
def zp6:CC:=(.seq (.reg [oo 39 (.move (tq 5) false),
   oo 40 (.fieldAddr 2 (tq 2)),
   oo 41 (.load false 1 (tq 40) false),
   oo 42 (.lenS (tq 41)),
   oo 43 (.conv .u64 (tq 42)),
   oo 44 (.call 185 [((tq 39),0),((tq 43),0)] []),
   oo 5 (.move (tq 44) true)])
 (.seq (.seq (.reg [oo 45 (.fieldAddr 2 (tq 2)),
   oo 46 (.load false 1 (tq 45) false),
   oo 47 (.lenS (tq 46)),
   oo 48 (.move (.const (.sc (.int .i64 0))) false)])
 (.block 2 (.loop (bl 492581209243686 89) (bl 618970019588646941921113471 89)
 zlM)))
 zob))
def zl6:CF:=⟨89,[.tmp 4],
 (.seq (.reg [oo 2 (.box true (tq 0)),
   oo 4 (.move (.const (.gs 1 [])) true)])
 (.seq (.reg [oo 14 (.fieldAddr 0 (tq 2)),
   oo 15 (.load false 1 (tq 14) false),
   oo 16 (.call 159 [((.const (.gs 1 [])),0),((tq 15),0)] []),
   oo 5 (.move (tq 16) true)])
 (.seq (.reg [oo 17 (.move (tq 5) false),
   oo 18 (.fieldAddr 1 (tq 2)),
   oo 19 (.load false 1 (tq 18) false),
   oo 20 (.lenS (tq 19)),
   oo 21 (.conv .u64 (tq 20)),
   oo 22 (.call 185 [((tq 17),0),((tq 21),0)] []),
   oo 5 (.move (tq 22) true)])
 (.seq (.seq (.reg [oo 23 (.fieldAddr 1 (tq 2)),
   oo 24 (.load false 1 (tq 23) false),
   oo 25 (.lenS (tq 24)),
   oo 26 (.move (.const (.sc (.int .i64 0))) false)])
 (.block 0 (.loop (bl 117440550 89) (bl 618970019642689974240802175 89)
 zm8)))
 zp6))))⟩
def zkq:Hint:=⟨[(0,0),(0,1),(1,3),(2,6),(5,2),(6,0),(6,8),(8,6),(11,2),(12,0),(12,4),(14,4),(17,2),(19,6),(23,3),(26,0),(26,1)],[],[none,some ((bl 117440550 89),(bl 618970019642689974240802175 89)),none,some ((bl 38 89),(bl 618970019642689974240802175 89)),none,none,some ((bl 492581209243686 89),(bl 618970019588646941921113471 89)),none,some ((bl 38 89),(bl 618970019588646941921113471 89)),none,none,some ((bl 32281802128991715362 89),(bl 579934938295289650113140091 89)),none,some ((bl 32 89),(bl 579934938295289650113140091 89)),none,none,some ((bl 32 89),(bl 579934938295289650113140091 89)),none,some ((bl 1057842373964929519583266 89),(bl 580284393415022003858953595 89)),none,some ((bl 32281802128991715362 89),(bl 580284393415022003858953595 89)),none,none],[],[],false,false,[]⟩
def zCq:Nat→Sh:=xI [(15,(.int .u32)),(19,(.sl 35)),(24,(.sl 35)),(36,(.int .u32)),(41,(.sl 2)),(46,(.sl 2)),(59,(.int .u32)),(62,(.sl 35)),(72,(.sl 1)),(77,(.sl 1)),(82,(.sl 1))]
def zCw (ye:zx) (ze:yt) (yl:zG) (xn:xK) (xd:zq) (L:Nat):CBC:=(xr 187 (ziF xd L) (xr 186 (zxw xn L) (xr 138 (zvp yl L) (xr 185 (zjL ze L) (xr 159 (zkr ye L) noC)))))
def zyZ:St→St:=yJ 0 (bl 117440550 89) (bl 618970019642689974240802175 89)
def zxZ:St→St:=yJ 0 (bl 492581209243686 89) (bl 618970019588646941921113471 89)
def zv0:St→St:=yJ 0 (bl 32281802128991715362 89) (bl 579934938295289650113140091 89)
def zrb:St→St:=yJ 0 (bl 1057842373964929519583266 89) (bl 580284393415022003858953595 89)
def zxl (p1:Bool) (p5 p24:List (List V)) (p25 p26:Int) (b2:List V):St:=⟨(jn 1 ((V.sc (.bool p1))::((V.ptr 2 0)::(jn 2 ((V.gs 1 p5)::(jn 18 ((V.sl 35 p24)::((V.sc (.int .i64 p25))::((V.sc (.int .i64 p26))::(jn 62 [])))))))))),(gn 2 ((.live true b2)::(gn 86 [])))⟩
def zz8 (p1:Bool) (p5:List (List V)) (b2:List V):St:=⟨(jn 1 ((V.sc (.bool p1))::((V.ptr 2 0)::(jn 2 ((V.gs 1 p5)::(jn 83 [])))))),(gn 2 ((.live true b2)::(gn 86 [])))⟩
def zvF (p1:Bool) (p5 p46:List (List V)) (p47 p48:Int) (b2:List V):St:=⟨(jn 1 ((V.sc (.bool p1))::((V.ptr 2 0)::(jn 2 ((V.gs 1 p5)::(jn 40 ((V.sl 2 p46)::((V.sc (.int .i64 p47))::((V.sc (.int .i64 p48))::(jn 40 [])))))))))),(gn 2 ((.live true b2)::(gn 86 [])))⟩
def zAj (p1:Bool) (p5:List (List V)) (b2:List V):St:=⟨(jn 1 ((V.sc (.bool p1))::((V.ptr 2 0)::(jn 2 ((V.gs 1 p5)::(jn 83 [])))))),(gn 2 ((.live true b2)::(gn 86 [])))⟩
def zuy (p1:Bool) (p5 p62:List (List V)) (p63 p64:Int):St:=⟨(jn 1 ((V.sc (.bool p1))::(jn 3 ((V.gs 1 p5)::(jn 56 ((V.sl 35 p62)::((V.sc (.int .i64 p63))::((V.sc (.int .i64 p64))::(jn 24 []))))))))),(gn 89 [])⟩
def zzP (p5:List (List V)):St:=⟨(jn 5 ((V.gs 1 p5)::(jn 83 []))),(gn 89 [])⟩
def zpt (p1:Bool) (p5 p62:List (List V)) (p63 p64:Int) (p77:List (List V)) (p78 p79:Int):St:=⟨(jn 1 ((V.sc (.bool p1))::(jn 3 ((V.gs 1 p5)::(jn 56 ((V.sl 35 p62)::((V.sc (.int .i64 p63))::((V.sc (.int .i64 p64))::(jn 12 ((V.sl 1 p77)::((V.sc (.int .i64 p78))::((V.sc (.int .i64 p79))::(jn 9 []))))))))))))),(gn 89 [])⟩
def zAb (p1:Bool) (p5 p62:List (List V)) (p63 p64:Int):St:=⟨(jn 1 ((V.sc (.bool p1))::(jn 3 ((V.gs 1 p5)::(jn 56 ((V.sl 35 p62)::((V.sc (.int .i64 p63))::((V.sc (.int .i64 p64))::(jn 24 []))))))))),(gn 89 [])⟩
abbrev zhr (β:Type):Type:=Bool→List (List V)→List (List V)→Int→Int→List V→Option β
abbrev zgi (β:Type):Type:=Bool→List (List V)→List (List V)→Int→Int→List V→Option β
abbrev zcd (β:Type):Type:=Bool→List (List V)→List (List V)→Int→Int→List (List V)→Int→Int→Option β
def zux {β:Type} (ye:zx) (ze:yt) (yl:zG) (xn:xK) (xd:zq) (L:Nat) (p0:List V) (p1:Bool) (k_hbbbaba:zhr β):Option β :=
 cI .u32 p0 0 fun v0 =>
 ye β L ([]:List (List V)) v0 (fun v1 =>
 cLd 35 p0 1 fun v2 =>
 lt (IntKind.wrap .u64 ((List.length v2:Nat):Int)) fun x3 =>
 ze β L v1 x3 (fun v4 =>
 cLd 35 p0 1 fun v5 =>
 k_hbbbaba p1 v4 v5 ((List.length v5:Nat):Int) (0:Int) p0))
def zoL {β:Type} (ye:zx) (ze:yt) (yl:zG) (xn:xK) (xd:zq) (L:Nat) (p1:Bool) (p5 p24:List (List V)) (p25 p26:Int) (b2:List V) (k_hbbbaba:zhr β) (k_x0:Bool→List (List V)→List V→Option β):Option β :=
 ifb (decide (p26 < p25)) (
 idx p24 p26 fun c6 =>
 chk ((List.length (List.take 35 c6))=35∧0+35≤35) (
 lt (xk (List.replicate 32 (V.sc (.int .u8 (0:Int)))++[(V.sc (.int .u32 (0:Int))),(V.sc (.int .u32 (0:Int))),(V.gs 1 ([]:List (List V)))]) 0 (List.take 35 c6)) fun r7 =>
 chk (0+33≤(List.length r7)) (
 yl β L (List.take 33 r7) (fun v8 =>
 chk ((List.length p5+List.length v8) * 1≤xg∧List.length p5+List.length v8≤xg) (
 lt (p5++v8) fun l9 =>
 cI .u32 r7 33 fun v10 =>
 ye β L l9 v10 (fun v11 =>
 lt (IntKind.wrap .i64 ((p26:Int)+(1:Int))) fun x12 =>
 k_hbbbaba p1 v11 p24 p25 x12 b2)))))) (
 k_x0 p1 p5 b2)
def zmw {β:Type} (ye:zx) (ze:yt) (yl:zG) (xn:xK) (xd:zq) (L:Nat) (p1:Bool) (p5:List (List V)) (b2:List V) (k_hbbbbbaba:zgi β):Option β :=
 cLd 2 b2 2 fun v13 =>
 lt (IntKind.wrap .u64 ((List.length v13:Nat):Int)) fun x14 =>
 ze β L p5 x14 (fun v15 =>
 cLd 2 b2 2 fun v16 =>
 k_hbbbbbaba p1 v15 v16 ((List.length v16:Nat):Int) (0:Int) b2)
def zmz {β:Type} (ye:zx) (ze:yt) (yl:zG) (xn:xK) (xd:zq) (L:Nat) (p1:Bool) (p5 p46:List (List V)) (p47 p48:Int) (b2:List V) (k_hbbbbbaba:zgi β) (k_x2:Bool→List (List V)→List V→Option β):Option β :=
 ifb (decide (p48 < p47)) (
 idx p46 p48 fun c17 =>
 chk ((List.length (List.take 2 c17))=2∧0+2≤2) (
 lt (xk [(V.sc (.int .i64 (0:Int))),(V.gs 1 ([]:List (List V)))] 0 (List.take 2 c17)) fun r18 =>
 chk (0+2≤(List.length r18)) (
 xn β L (List.map V.dem (List.take 2 r18)) (fun v19 =>
 chk ((List.length p5+List.length v19) * 1≤xg∧List.length p5+List.length v19≤xg) (
 lt (p5++v19) fun l20 =>
 lt (IntKind.wrap .i64 ((p48:Int)+(1:Int))) fun x21 =>
 k_hbbbbbaba p1 l20 p46 p47 x21 b2))))) (
 k_x2 p1 p5 b2)
def zlp {β:Type} (ye:zx) (ze:yt) (yl:zG) (xn:xK) (xd:zq) (L:Nat) (p1:Bool) (p5:List (List V)) (b2:List V) (k_hbbbbbbbaba:Bool→List (List V)→List (List V)→Int→Int→Option β):Option β :=
 cI .u32 b2 3 fun v22 =>
 ye β L p5 v22 (fun v23 =>
 cLd 35 b2 1 fun v24 =>
 k_hbbbbbbbaba p1 v23 v24 ((List.length v24:Nat):Int) (0:Int))
def zkV {β:Type} (ye:zx) (ze:yt) (yl:zG) (xn:xK) (xd:zq) (L:Nat) (p1:Bool) (p5 p62:List (List V)) (p63 p64:Int) (k_x4:List (List V)→Option β) (k_hbbbbbbbabaabbaabbbba:zcd β):Option β :=
 ifb (decide (p64 < p63)) (
 idx p62 p64 fun c25 =>
 chk ((List.length (List.take 35 c25))=35∧0+35≤35) (
 lt (xk (List.replicate 32 (V.sc (.int .u8 (0:Int)))++[(V.sc (.int .u32 (0:Int))),(V.sc (.int .u32 (0:Int))),(V.gs 1 ([]:List (List V)))]) 0 (List.take 35 c25)) fun r26 =>
 ifb (!p1) (
 k_x4 p5) (
 cLd 1 r26 34 fun v27 =>
 lt (IntKind.wrap .u64 ((List.length v27:Nat):Int)) fun x28 =>
 ze β L p5 x28 (fun v29 =>
 cLd 1 r26 34 fun v30 =>
 k_hbbbbbbbabaabbaabbbba p1 v29 p62 p63 p64 v30 ((List.length v30:Nat):Int) (0:Int))))) (
 k_x4 p5)
def zjT {β:Type} (ye:zx) (ze:yt) (yl:zG) (xn:xK) (xd:zq) (L:Nat) (p5:List (List V)) (k_fin:List (List V)→Option β):Option β :=
 k_fin p5
def zgw {β:Type} (ye:zx) (ze:yt) (yl:zG) (xn:xK) (xd:zq) (L:Nat) (p1:Bool) (p5 p62:List (List V)) (p63 p64:Int) (p77:List (List V)) (p78 p79:Int) (k_hbbbbbbbabaabbaabbbba:zcd β) (k_x6:Bool→List (List V)→List (List V)→Int→Int→Option β):Option β :=
 ifb (decide (p79 < p78)) (
 idx p77 p79 fun c31 =>
 cL 1 c31 0 fun v32 =>
 xd β L p5 v32 (fun v33 =>
 lt (IntKind.wrap .i64 ((p79:Int)+(1:Int))) fun x34 =>
 k_hbbbbbbbabaabbaabbbba p1 v33 p62 p63 p64 p77 p78 x34)) (
 k_x6 p1 p5 p62 p63 p64)
def zfC {β:Type} (ye:zx) (ze:yt) (yl:zG) (xn:xK) (xd:zq) (L:Nat) (p1:Bool) (p5 p62:List (List V)) (p63 p64:Int) (k_hbbbbbbbaba:Bool→List (List V)→List (List V)→Int→Int→Option β):Option β :=
 lt (IntKind.wrap .i64 ((p64:Int)+(1:Int))) fun x35 =>
 k_hbbbbbbbaba p1 p5 p62 p63 x35
def zhH {β:Type} (ye:zx) (ze:yt) (yl:zG) (xn:xK) (xd:zq) (L:Nat) (k_x0:Bool→List (List V)→List V→Option β):Nat→Bool→List (List V)→List (List V)→Int→Int→List V→Option β
 | 0,_,_,_,_,_,_=>none
 | n+1,p1,p5,p24,p25,p26,b2=>zoL ye ze yl xn xd L p1 p5 p24 p25 p26 b2 (fun p1 p5 p24 p25 p26 b2=>zhH ye ze yl xn xd L k_x0 n p1 p5 p24 p25 p26 b2) k_x0
def zgD {β:Type} (ye:zx) (ze:yt) (yl:zG) (xn:xK) (xd:zq) (L:Nat) (k_x2:Bool→List (List V)→List V→Option β):Nat→Bool→List (List V)→List (List V)→Int→Int→List V→Option β
 | 0,_,_,_,_,_,_=>none
 | n+1,p1,p5,p46,p47,p48,b2=>zmz ye ze yl xn xd L p1 p5 p46 p47 p48 b2 (fun p1 p5 p46 p47 p48 b2=>zgD ye ze yl xn xd L k_x2 n p1 p5 p46 p47 p48 b2) k_x2
def zcr {β:Type} (ye:zx) (ze:yt) (yl:zG) (xn:xK) (xd:zq) (L:Nat) (k_x6:Bool→List (List V)→List (List V)→Int→Int→Option β):Nat→Bool→List (List V)→List (List V)→Int→Int→List (List V)→Int→Int→Option β
 | 0,_,_,_,_,_,_,_,_=>none
 | n+1,p1,p5,p62,p63,p64,p77,p78,p79=>zgw ye ze yl xn xd L p1 p5 p62 p63 p64 p77 p78 p79 (fun p1 p5 p62 p63 p64 p77 p78 p79=>zcr ye ze yl xn xd L k_x6 n p1 p5 p62 p63 p64 p77 p78 p79) k_x6
def zkI {β:Type} (ye:zx) (ze:yt) (yl:zG) (xn:xK) (xd:zq) (L:Nat) (p1:Bool) (p5 p62:List (List V)) (p63 p64:Int) (k_x4:List (List V)→Option β) (k_hbbbbbbbaba:Bool→List (List V)→List (List V)→Int→Int→Option β):Option β :=
 zkV ye ze yl xn xd L p1 p5 p62 p63 p64 k_x4 (fun p1 p5 p62 p63 p64 p77 p78 p79=>zcr ye ze yl xn xd L (fun p1 p5 p62 p63 p64=>zfC ye ze yl xn xd L p1 p5 p62 p63 p64 k_hbbbbbbbaba) L p1 p5 p62 p63 p64 p77 p78 p79)
def zfo {β:Type} (ye:zx) (ze:yt) (yl:zG) (xn:xK) (xd:zq) (L:Nat) (k_x4:List (List V)→Option β):Nat→Bool→List (List V)→List (List V)→Int→Int→Option β
 | 0,_,_,_,_,_=>none
 | n+1,p1,p5,p62,p63,p64=>zkI ye ze yl xn xd L p1 p5 p62 p63 p64 k_x4 (fun p1 p5 p62 p63 p64=>zfo ye ze yl xn xd L k_x4 n p1 p5 p62 p63 p64)
def zkC {β:Type} (ye:zx) (ze:yt) (yl:zG) (xn:xK) (xd:zq) (L:Nat) (p1:Bool) (p5:List (List V)) (b2:List V) (k_fin:List (List V)→Option β):Option β :=
 zlp ye ze yl xn xd L p1 p5 b2 (fun p1 p5 p62 p63 p64=>zfo ye ze yl xn xd L (fun p5=>zjT ye ze yl xn xd L p5 k_fin) L p1 p5 p62 p63 p64)
def zlH {β:Type} (ye:zx) (ze:yt) (yl:zG) (xn:xK) (xd:zq) (L:Nat) (p1:Bool) (p5:List (List V)) (b2:List V) (k_fin:List (List V)→Option β):Option β :=
 zmw ye ze yl xn xd L p1 p5 b2 (fun p1 p5 p46 p47 p48 b2=>zgD ye ze yl xn xd L (fun p1 p5 b2=>zkC ye ze yl xn xd L p1 p5 b2 k_fin) L p1 p5 p46 p47 p48 b2)
def zue {β:Type} (ye:zx) (ze:yt) (yl:zG) (xn:xK) (xd:zq) (L:Nat) (p0:List V) (p1:Bool) (k_fin:List (List V)→Option β):Option β :=
 zux ye ze yl xn xd L p0 p1 (fun p1 p5 p24 p25 p26 b2=>zhH ye ze yl xn xd L (fun p1 p5 b2=>zlH ye ze yl xn xd L p1 p5 b2 k_fin) L p1 p5 p24 p25 p26 b2)
abbrev xx:=∀ (β:Type),Nat→List V→Bool→(List (List V)→Option β)→Option β
def xe (β:Type) (L:Nat) (p0:List V) (p1:Bool) (k_fin:List (List V)→Option β):Option β:=zue ye ze yl xn xd L p0 p1 k_fin
def zf0 (xe:xx) (L:Nat) (β:Type) (args:List V) (bor:Bor) (k:KK β):Option β:=match args,bor with
 | [a0,a1],[]=>aG a0 fun p0=>aB a1 fun p1=>xe β L p0 p1 (fun p0=>k (V.gs 1 p0) [])
 | _,_=>none
def ziV:CC:=(.seq (.reg [oo 51 (.bin .lss (tq 50) (tq 49))])
 (.seq (.cond (tq 51)
 .skip
 (.seq (.mask (bl 962072674306 63) (bl 9187343239835811499 63))
 (.exit 4)))
 (.seq (.block 5 (.seq (.reg [oo 52 (.indexAddrS 1 (tq 48) (tq 50)),
   oo 53 (.load false 1 (tq 52) false),
   oo 8 (.move (tq 53) false)])
 (.seq (.reg [oo 54 (.move (tq 8) false),
   oo 55 (.lenS (tq 54)),
   oo 56 (.bin .gtr (tq 55) (.const (.sc (.int .i64 520))))])
 (.cond (tq 56)
 (.seq (.reg [oo 2 (.move (.const (.sc (.bool false))) false)])
 (.seq (.mask (bl 4 63) (bl 9186745105510301357 63))
 .ret))
 .skip))))
 (.reg [oo 57 (.bin .add (tq 50) (.const (.sc (.int .i64 1)))),
   oo 50 (.move (tq 57) false)]))))
def zmA:CC:=(.reg [oo 58 (.bin .add (tq 39) (.const (.sc (.int .i64 1)))),
   oo 39 (.move (tq 58) false)])
def zpq:CC:=(.seq (.reg [oo 40 (.bin .lss (tq 39) (tq 38))])
 (.seq (.cond (tq 40)
 .skip
 (.seq (.mask (bl 2 63) (bl 9186745105510301355 63))
 (.exit 2)))
 (.seq (.block 3 (.seq (.reg [oo 41 (.indexAddrS 35 (tq 37) (tq 39)),
   oo 42 (.load true 35 (tq 41) false),
   oo 6 (.alloc true (rp 32 (.sc (.int .u8 0)) (rp 2 (.sc (.int .u32 0)) (rp 1 (.gs 1 []) [])))),
   oz (.store 35 (tq 6) (tq 42))])
 (.seq (.seq (.reg [oo 43 (.fieldAddr 34 (tq 6)),
   oo 44 (.load false 1 (tq 43) false),
   oo 45 (.lenS (tq 44)),
   oo 46 (.bin .gtr (tq 45) (.const (.sc (.int .i64 32))))])
 (.cond (tq 46)
 (.seq (.reg [oo 2 (.move (.const (.sc (.bool false))) false)])
 (.seq (.mask (bl 4 63) (bl 9186745105510301357 63))
 .ret))
 .skip))
 (.seq (.reg [oo 47 (.fieldAddr 34 (tq 6)),
   oo 48 (.load false 1 (tq 47) false),
   oo 49 (.lenS (tq 48)),
   oo 50 (.move (.const (.sc (.int .i64 0))) false)])
 (.block 4 (.loop (bl 1971286909648898 63) (bl 9187343239835811499 63)
 ziV))))))
 zmA)))
def zqg:CC:=(.seq (.reg [oo 23 (.bin .lss (tq 22) (tq 21))])
 (.seq (.cond (tq 23)
 .skip
 (.seq (.mask (bl 2 63) (bl 9223372032559808427 63))
 (.exit 0)))
 (.seq (.block 1 (.seq (.reg [oo 24 (.indexAddrS 2 (tq 20) (tq 22)),
   oo 25 (.load true 2 (tq 24) false),
   oo 4 (.alloc true [(.sc (.int .i64 0)),(.gs 1 [])]),
   oz (.store 2 (tq 4) (tq 25))])
 (.seq (.reg [oo 26 (.fieldAddr 0 (tq 4)),
   oo 27 (.load false 1 (tq 26) false),
   oo 28 (.bin .lss (tq 27) (.const (.sc (.int .i64 0)))),
   oo 29 (.move (tq 28) false),
   ⟨(some 30),false,(some (29,false)),.fieldAddr 1 (tq 4)⟩,
   ⟨(some 31),false,(some (29,false)),.load false 1 (tq 30) false⟩,
   ⟨(some 32),false,(some (29,false)),.lenS (tq 31)⟩,
   ⟨(some 33),false,(some (29,false)),.bin .gtr (tq 32) (.const (.sc (.int .i64 520)))⟩,
   oo 34 (.pick (tq 29) (.const (.sc (.bool true))) (tq 33))])
 (.cond (tq 34)
 (.seq (.reg [oo 2 (.move (.const (.sc (.bool false))) false)])
 (.seq (.mask (bl 4 63) (bl 9223372032559808429 63))
 .ret))
 .skip))))
 (.reg [oo 35 (.bin .add (tq 22) (.const (.sc (.int .i64 1)))),
   oo 22 (.move (tq 35) false)]))))
def zsi:CC:=(.seq (.reg [oo 59 (.load true 4 (tq 1) false),
   oo 60 (.call 149 [((tq 59),1),((.const (.sc (.bool true))),0)] []),
   oo 61 (.lenS (tq 60)),
   oo 62 (.bin .leq (tq 61) (.const (.sc (.int .i64 20000)))),
   oo 2 (.move (tq 62) false)])
 .ret)
def ztr:CC:=(.seq (.seq (.reg [oo 36 (.fieldAddr 1 (tq 1)),
   oo 37 (.load false 1 (tq 36) false),
   oo 38 (.lenS (tq 37)),
   oo 39 (.move (.const (.sc (.int .i64 0))) false)])
 (.block 2 (.loop (bl 962072674306 63) (bl 9186745105510301355 63)
 zpq)))
 zsi)
def zoY:CF:=⟨63,[.tmp 2],
 (.seq (.reg [oo 1 (.box true (tq 0)),
   oo 2 (.move (.const (.sc (.bool false))) false)])
 (.seq (.seq (.reg [oo 9 (.fieldAddr 1 (tq 1)),
   oo 10 (.load false 1 (tq 9) false),
   oo 11 (.lenS (tq 10)),
   oo 12 (.bin .gtr (tq 11) (.const (.sc (.int .i64 64)))),
   oo 13 (.move (tq 12) false),
   ⟨(some 14),false,(some (13,false)),.fieldAddr 2 (tq 1)⟩,
   ⟨(some 15),false,(some (13,false)),.load false 1 (tq 14) false⟩,
   ⟨(some 16),false,(some (13,false)),.lenS (tq 15)⟩,
   ⟨(some 17),false,(some (13,false)),.bin .gtr (tq 16) (.const (.sc (.int .i64 64)))⟩,
   oo 18 (.pick (tq 13) (.const (.sc (.bool true))) (tq 17))])
 (.cond (tq 18)
 (.seq (.reg [oo 2 (.move (.const (.sc (.bool false))) false)])
 .ret)
 .skip))
 (.seq (.seq (.reg [oo 19 (.fieldAddr 2 (tq 1)),
   oo 20 (.load false 1 (tq 19) false),
   oo 21 (.lenS (tq 20)),
   oo 22 (.move (.const (.sc (.int .i64 0))) false)])
 (.block 0 (.loop (bl 7340034 63) (bl 9223372032559808427 63)
 zqg)))
 ztr)))⟩
def zmo:Hint:=⟨[(0,0),(5,2),(11,2)],[],[none,none,none,some ((bl 7340034 63),(bl 9223372032559808427 63)),none,some ((bl 2 63),(bl 9223372032559808427 63)),none,none,some ((bl 4 63),(bl 9223372032559808429 63)),none,some ((bl 962072674306 63),(bl 9186745105510301355 63)),none,some ((bl 2 63),(bl 9186745105510301355 63)),none,none,some ((bl 4 63),(bl 9186745105510301357 63)),none,some ((bl 1971286909648898 63),(bl 9187343239835811499 63)),none,some ((bl 962072674306 63),(bl 9187343239835811499 63)),none,none,some ((bl 4 63),(bl 9186745105510301357 63)),none],[],[],false,false,[]⟩
def zDE:Nat→Sh:=xI [(10,(.sl 35)),(15,(.sl 2)),(20,(.sl 2)),(27,(.int .i64)),(31,(.sl 1)),(37,(.sl 35)),(44,(.sl 1)),(48,(.sl 1)),(53,(.sl 1))]
def zDC (xe:xx) (L:Nat):CBC:=(xr 149 (zf0 xe L) noC)
def zAW:St→St:=yJ 0 (bl 7340034 63) (bl 9223372032559808427 63)
def zAa:St→St:=yJ 0 (bl 962072674306 63) (bl 9186745105510301355 63)
def zuN:St→St:=yJ 0 (bl 1971286909648898 63) (bl 9187343239835811499 63)
def zyW (p20:List (List V)) (p21 p22:Int) (b1:List V):St:=⟨(jn 1 ((V.ptr 1 0)::(jn 18 ((V.sl 2 p20)::((V.sc (.int .i64 p21))::((V.sc (.int .i64 p22))::(jn 40 []))))))),(gn 1 ((.live true b1)::(gn 61 [])))⟩
def zA3 (p2:Bool):St:=⟨(jn 2 ((V.sc (.bool p2))::(jn 60 []))),(gn 63 [])⟩
def zBo (b1:List V):St:=⟨(jn 1 ((V.ptr 1 0)::(jn 61 []))),(gn 1 ((.live true b1)::(gn 61 [])))⟩
def zyf (p37:List (List V)) (p38 p39:Int) (b1:List V):St:=⟨(jn 1 ((V.ptr 1 0)::(jn 35 ((V.sl 35 p37)::((V.sc (.int .i64 p38))::((V.sc (.int .i64 p39))::(jn 23 []))))))),(gn 1 ((.live true b1)::(gn 61 [])))⟩
def zsW (p37:List (List V)) (p38 p39:Int) (p48:List (List V)) (p49 p50:Int) (b1:List V):St:=⟨(jn 1 ((V.ptr 1 0)::(jn 35 ((V.sl 35 p37)::((V.sc (.int .i64 p38))::((V.sc (.int .i64 p39))::(jn 8 ((V.sl 1 p48)::((V.sc (.int .i64 p49))::((V.sc (.int .i64 p50))::(jn 12 []))))))))))),(gn 1 ((.live true b1)::(gn 61 [])))⟩
def zB0 (b1:List V):St:=⟨(jn 1 ((V.ptr 1 0)::(jn 61 []))),(gn 1 ((.live true b1)::(gn 61 [])))⟩
def zBj (p37:List (List V)) (p38 p39:Int) (b1:List V):St:=⟨(jn 1 ((V.ptr 1 0)::(jn 35 ((V.sl 35 p37)::((V.sc (.int .i64 p38))::((V.sc (.int .i64 p39))::(jn 23 []))))))),(gn 1 ((.live true b1)::(gn 61 [])))⟩
abbrev zd8 (β:Type):Type:=List (List V)→Int→Int→List (List V)→Int→Int→List V→Option β
def zv7 {β:Type} (xe:xx) (L:Nat) (p0:List V) (k_fin:Bool→Option β) (k_hbbaba:List (List V)→Int→Int→List V→Option β):Option β :=
 cLd 35 p0 1 fun v0 =>
 ifb (decide (((List.length v0:Nat):Int) > (64:Int))) (
 k_fin false) (
 cLd 2 p0 2 fun v1 =>
 ifb (decide (((List.length v1:Nat):Int) > (64:Int))) (
 k_fin false) (
 cLd 2 p0 2 fun v2 =>
 k_hbbaba v2 ((List.length v2:Nat):Int) (0:Int) p0))
def zri {β:Type} (xe:xx) (L:Nat) (p20:List (List V)) (p21 p22:Int) (b1:List V) (k_ret:Bool→Option β) (k_hbbaba:List (List V)→Int→Int→List V→Option β) (k_x0:List V→Option β):Option β :=
 ifb (decide (p22 < p21)) (
 idx p20 p22 fun c3 =>
 chk ((List.length (List.take 2 c3))=2∧0+2≤2) (
 lt (xk [(V.sc (.int .i64 (0:Int))),(V.gs 1 ([]:List (List V)))] 0 (List.take 2 c3)) fun r4 =>
 cI .i64 r4 0 fun v5 =>
 ifb (decide (v5 < (0:Int))) (
 k_ret false) (
 cLd 1 r4 1 fun v6 =>
 ifb (decide (((List.length v6:Nat):Int) > (520:Int))) (
 k_ret false) (
 lt (IntKind.wrap .i64 ((p22:Int)+(1:Int))) fun x7 =>
 k_hbbaba p20 p21 x7 b1)))) (
 k_x0 b1)
def zou {β:Type} (xe:xx) (L:Nat) (p2:Bool) (k_fin:Bool→Option β):Option β :=
 k_fin p2
def zpb {β:Type} (xe:xx) (L:Nat) (b1:List V) (k_hbbbaba:List (List V)→Int→Int→List V→Option β):Option β :=
 cLd 35 b1 1 fun v8 =>
 k_hbbbaba v8 ((List.length v8:Nat):Int) (0:Int) b1
def zqd {β:Type} (xe:xx) (L:Nat) (p37:List (List V)) (p38 p39:Int) (b1:List V) (k_ret:Bool→Option β) (k_hbbbabaabbaabbba:zd8 β) (k_x2:List V→Option β):Option β :=
 ifb (decide (p39 < p38)) (
 idx p37 p39 fun c9 =>
 chk ((List.length (List.take 35 c9))=35∧0+35≤35) (
 lt (xk (List.replicate 32 (V.sc (.int .u8 (0:Int)))++[(V.sc (.int .u32 (0:Int))),(V.sc (.int .u32 (0:Int))),(V.gs 1 ([]:List (List V)))]) 0 (List.take 35 c9)) fun r10 =>
 cLd 1 r10 34 fun v11 =>
 ifb (decide (((List.length v11:Nat):Int) > (32:Int))) (
 k_ret false) (
 cLd 1 r10 34 fun v12 =>
 k_hbbbabaabbaabbba p37 p38 p39 v12 ((List.length v12:Nat):Int) (0:Int) b1))) (
 k_x2 b1)
def zm6 {β:Type} (xe:xx) (L:Nat) (p2:Bool) (k_fin:Bool→Option β):Option β :=
 k_fin p2
def zn0 {β:Type} (xe:xx) (L:Nat) (b1:List V) (k_fin:Bool→Option β):Option β :=
 chk (0+4≤(List.length b1)) (
 xe β L (List.map V.dem (List.take 4 b1)) true (fun v13 =>
 k_fin (decide (((List.length v13:Nat):Int)≤(20000:Int)))))
def zjp {β:Type} (xe:xx) (L:Nat) (p37:List (List V)) (p38 p39:Int) (p48:List (List V)) (p49 p50:Int) (b1:List V) (k_ret:Bool→Option β) (k_hbbbabaabbaabbba:zd8 β) (k_x4:List (List V)→Int→Int→List V→Option β):Option β :=
 ifb (decide (p50 < p49)) (
 idx p48 p50 fun c14 =>
 cL 1 c14 0 fun v15 =>
 ifb (decide (((List.length v15:Nat):Int) > (520:Int))) (
 k_ret false) (
 lt (IntKind.wrap .i64 ((p50:Int)+(1:Int))) fun x16 =>
 k_hbbbabaabbaabbba p37 p38 p39 p48 p49 x16 b1)) (
 k_x4 p37 p38 p39 b1)
def ziw {β:Type} (xe:xx) (L:Nat) (p2:Bool) (k_ret:Bool→Option β):Option β :=
 k_ret p2
def ziy {β:Type} (xe:xx) (L:Nat) (p37:List (List V)) (p38 p39:Int) (b1:List V) (k_hbbbaba:List (List V)→Int→Int→List V→Option β):Option β :=
 lt (IntKind.wrap .i64 ((p39:Int)+(1:Int))) fun x17 =>
 k_hbbbaba p37 p38 x17 b1
def zkf {β:Type} (xe:xx) (L:Nat) (k_ret:Bool→Option β) (k_x0:List V→Option β):Nat→List (List V)→Int→Int→List V→Option β
 | 0,_,_,_,_=>none
 | n+1,p20,p21,p22,b1=>zri xe L p20 p21 p22 b1 k_ret (fun p20 p21 p22 b1=>zkf xe L k_ret k_x0 n p20 p21 p22 b1) k_x0
def zel {β:Type} (xe:xx) (L:Nat) (k_ret:Bool→Option β) (k_x4:List (List V)→Int→Int→List V→Option β):Nat→List (List V)→Int→Int→List (List V)→Int→Int→List V→Option β
 | 0,_,_,_,_,_,_,_=>none
 | n+1,p37,p38,p39,p48,p49,p50,b1=>zjp xe L p37 p38 p39 p48 p49 p50 b1 k_ret (fun p37 p38 p39 p48 p49 p50 b1=>zel xe L k_ret k_x4 n p37 p38 p39 p48 p49 p50 b1) k_x4
def zo9 {β:Type} (xe:xx) (L:Nat) (p37:List (List V)) (p38 p39:Int) (b1:List V) (k_ret:Bool→Option β) (k_x2:List V→Option β) (k_hbbbaba:List (List V)→Int→Int→List V→Option β):Option β :=
 zqd xe L p37 p38 p39 b1 k_ret (fun p37 p38 p39 p48 p49 p50 b1=>zel xe L (fun p2=>ziw xe L p2 k_ret) (fun p37 p38 p39 b1=>ziy xe L p37 p38 p39 b1 k_hbbbaba) L p37 p38 p39 p48 p49 p50 b1) k_x2
def zjN {β:Type} (xe:xx) (L:Nat) (k_ret:Bool→Option β) (k_x2:List V→Option β):Nat→List (List V)→Int→Int→List V→Option β
 | 0,_,_,_,_=>none
 | n+1,p37,p38,p39,b1=>zo9 xe L p37 p38 p39 b1 k_ret k_x2 (fun p37 p38 p39 b1=>zjN xe L k_ret k_x2 n p37 p38 p39 b1)
def zoy {β:Type} (xe:xx) (L:Nat) (b1:List V) (k_fin:Bool→Option β):Option β :=
 zpb xe L b1 (fun p37 p38 p39 b1=>zjN xe L (fun p2=>zm6 xe L p2 k_fin) (fun b1=>zn0 xe L b1 k_fin) L p37 p38 p39 b1)
def zwE {β:Type} (xe:xx) (L:Nat) (p0:List V) (k_fin:Bool→Option β):Option β :=
 zv7 xe L p0 k_fin (fun p20 p21 p22 b1=>zkf xe L (fun p2=>zou xe L p2 k_fin) (fun b1=>zoy xe L b1 k_fin) L p20 p21 p22 b1)
abbrev zcV:=∀ (β:Type),Nat→List V→(Bool→Option β)→Option β
def zN (β:Type) (L:Nat) (p0:List V) (k_fin:Bool→Option β):Option β:=zwE xe L p0 k_fin
def zlC (zN:zcV) (L:Nat) (β:Type) (args:List V) (bor:Bor) (k:KK β):Option β:=match args,bor with
 | [a0],[]=>aG a0 fun p0=>zN β L p0 (fun p0=>k (V.sc (.bool p0)) [])
 | _,_=>none
def zqf:CC:=(.seq (.seq (.reg [oo 17 (.move (tq 4) false),
   oo 18 (.bin .geq (tq 17) (.const (.sc (.int .i64 0))))])
 (.cond (tq 18)
 .skip
 (.seq (.mask (bl 8 31) (bl 1342177263 31))
 (.exit 2))))
 (.seq (.block 3 (.reg [oo 21 (.move (tq 3) true),
   oo 22 (.move (tq 0) false),
   oo 23 (.bin .mul (.const (.sc (.int .u64 8))) (tq 22)),
   oo 24 (.move (tq 4) false),
   oo 25 (.bin .mul (.const (.sc (.int .i64 8))) (tq 24)),
   oo 26 (.bin .shr (tq 23) (tq 25)),
   oo 27 (.conv .u8 (tq 26)),
   oo 28 (.buildSlice 1 1 [(.sc (.int .u8 0))] [(0,1,(tq 27))]),
   oo 29 (.append 1 1 (tq 21) (tq 28)),
   oo 3 (.move (tq 29) true)]))
 (.reg [oo 19 (.move (tq 4) false),
   oo 20 (.bin .sub (tq 19) (.const (.sc (.int .i64 1)))),
   oo 4 (.move (tq 20) false)])))
def zsh:CC:=(.seq (.seq (.reg [oo 6 (.move (tq 0) false),
   oo 7 (.move (tq 3) false),
   oo 8 (.lenS (tq 7)),
   oo 9 (.conv .u64 (tq 8)),
   oo 10 (.bin .add (tq 6) (tq 9)),
   oo 11 (.bin .add (tq 10) (.const (.sc (.int .u64 8)))),
   oo 12 (.bin .rem (tq 11) (.const (.sc (.int .u64 64)))),
   oo 13 (.bin .neq (tq 12) (.const (.sc (.int .u64 0))))])
 (.cond (tq 13)
 .skip
 (.seq (.mask (bl 9 31) (bl 2147385087 31))
 (.exit 0))))
 (.block 1 (.reg [oo 14 (.move (tq 3) true),
   oo 15 (.buildSlice 1 1 [(.sc (.int .u8 0))] [(0,1,(.const (.sc (.int .u8 0))))]),
   oo 16 (.append 1 1 (tq 14) (tq 15)),
   oo 3 (.move (tq 16) true)])))
def zta:CC:=(.seq (.reg [oo 30 (.move (tq 3) true),
   oo 2 (.move (tq 30) true)])
 .ret)
def zt8:CC:=(.seq (.seq (.reg [oo 4 (.move (.const (.sc (.int .i64 7))) false)])
 (.block 2 (.loop (bl 25 31) (bl 1342177279 31)
 zqf)))
 zta)
def zqE:CF:=⟨31,[.tmp 2],
 (.seq (.reg [oo 2 (.move (.const (.gs 1 [])) true)])
 (.seq (.reg [oo 5 (.buildSlice 1 1 [(.sc (.int .u8 0))] [(0,1,(.const (.sc (.int .u8 128))))]),
   oo 3 (.move (tq 5) true)])
 (.seq (.block 0 (.loop (bl 9 31) (bl 2147385087 31)
 zsh))
 zt8)))⟩
def znk:Hint:=⟨[(0,0),(1,1),(3,0),(3,3),(7,0),(7,9),(8,0),(8,1)],[],[none,some ((bl 9 31),(bl 2147385087 31)),none,some ((bl 9 31),(bl 2147385087 31)),none,none,some ((bl 25 31),(bl 1342177279 31)),none,some ((bl 8 31),(bl 1342177263 31)),none,none],[],[],false,false,[]⟩
def zD8:Nat→Sh:=xI []
def zDJ (L:Nat):CBC:=noC
def zCy:St→St:=yJ 0 (bl 9 31) (bl 2147385087 31)
def zA2:St→St:=yJ 0 (bl 25 31) (bl 1342177279 31)
def zAt (p0:Int) (p3:List (List V)):St:=⟨((V.sc (.int .u64 p0))::(jn 2 ((V.gs 1 p3)::(jn 27 [])))),(gn 31 [])⟩
def zCg (p0:Int) (p3:List (List V)):St:=⟨((V.sc (.int .u64 p0))::(jn 2 ((V.gs 1 p3)::(jn 27 [])))),(gn 31 [])⟩
def zy0 (p0:Int) (p3:List (List V)) (p4:Int):St:=⟨((V.sc (.int .u64 p0))::(jn 2 ((V.gs 1 p3)::((V.sc (.int .i64 p4))::(jn 26 []))))),(gn 31 [])⟩
def zCo (p3:List (List V)):St:=⟨(jn 3 ((V.gs 1 p3)::(jn 27 []))),(gn 31 [])⟩
def zxG {β:Type} (L:Nat) (p0:Int) (k_hbbaa:Int→List (List V)→Option β):Option β :=
 k_hbbaa p0 (yf 1 1 [(V.sc (.int .u8 (128:Int)))])
def zsK {β:Type} (L:Nat) (p0:Int) (p3:List (List V)) (k_hbbaa:Int→List (List V)→Option β) (k_x0:Int→List (List V)→Option β):Option β :=
 lt (IntKind.wrap .u64 ((List.length p3:Nat):Int)) fun x0 =>
 lt (IntKind.wrap .u64 ((p0:Int)+x0)) fun x1 =>
 lt (IntKind.wrap .u64 ((x1:Int)+(8:Int))) fun x2 =>
 lt (Int.tmod x2 (64:Int)) fun x3 =>
 ifb ((x3:Int) != (0:Int)) (
 chk ((List.length p3+List.length (yf 1 1 [(V.sc (.int .u8 (0:Int)))])) * 1≤xg∧List.length p3+List.length (yf 1 1 [(V.sc (.int .u8 (0:Int)))])≤xg) (
 lt (p3++(yf 1 1 [(V.sc (.int .u8 (0:Int)))])) fun l4 =>
 k_hbbaa p0 l4)) (
 k_x0 p0 p3)
def zrw {β:Type} (L:Nat) (p0:Int) (p3:List (List V)) (k_hbbbaba:Int→List (List V)→Int→Option β):Option β :=
 k_hbbbaba p0 p3 (7:Int)
def zrg {β:Type} (L:Nat) (p0:Int) (p3:List (List V)) (p4:Int) (k_hbbbaba:Int→List (List V)→Int→Option β) (k_x2:List (List V)→Option β):Option β :=
 ifb (decide (p4 ≥ (0:Int))) (
 lt (IntKind.wrap .u64 (((8:Int):Int) * p0)) fun x5 =>
 lt (IntKind.wrap .i64 (((8:Int):Int) * p4)) fun x6 =>
 chk (0≤x6) (
 lt (zdJ .u64 x5 x6) fun x7 =>
 lt (IntKind.wrap .u8 x7) fun x8 =>
 chk ((List.length p3+List.length (yf 1 1 [(V.sc (.int .u8 x8))])) * 1≤xg∧List.length p3+List.length (yf 1 1 [(V.sc (.int .u8 x8))])≤xg) (
 lt (p3++(yf 1 1 [(V.sc (.int .u8 x8))])) fun l9 =>
 lt (IntKind.wrap .i64 ((p4:Int) - (1:Int))) fun x10 =>
 k_hbbbaba p0 l9 x10))) (
 k_x2 p3)
def zpg {β:Type} (L:Nat) (p3:List (List V)) (k_fin:List (List V)→Option β):Option β :=
 k_fin p3
def zmd {β:Type} (L:Nat) (k_x0:Int→List (List V)→Option β):Nat→Int→List (List V)→Option β
 | 0,_,_=>none
 | n+1,p0,p3=>zsK L p0 p3 (fun p0 p3=>zmd L k_x0 n p0 p3) k_x0
def zkm {β:Type} (L:Nat) (k_x2:List (List V)→Option β):Nat→Int→List (List V)→Int→Option β
 | 0,_,_,_=>none
 | n+1,p0,p3,p4=>zrg L p0 p3 p4 (fun p0 p3 p4=>zkm L k_x2 n p0 p3 p4) k_x2
def zpZ {β:Type} (L:Nat) (p0:Int) (p3:List (List V)) (k_fin:List (List V)→Option β):Option β :=
 zrw L p0 p3 (fun p0 p3 p4=>zkm L (fun p3=>zpg L p3 k_fin) L p0 p3 p4)
def zxH {β:Type} (L:Nat) (p0:Int) (k_fin:List (List V)→Option β):Option β :=
 zxG L p0 (fun p0 p3=>zmd L (fun p0 p3=>zpZ L p0 p3 k_fin) L p0 p3)
abbrev za4:=∀ (β:Type),Nat→Int→(List (List V)→Option β)→Option β
def xC (β:Type) (L:Nat) (p0:Int) (k_fin:List (List V)→Option β):Option β:=zxH L p0 k_fin
def zxM (xC:za4) (L:Nat) (β:Type) (args:List V) (bor:Bor) (k:KK β):Option β:=match args,bor with
 | [a0],[]=>aI .u64 a0 fun p0=>xC β L p0 (fun p0=>k (V.gs 1 p0) [])
 | _,_=>none
def zlr:CF:=⟨2,[.cell 0 true 8],
 (.seq (.reg [oo 0 (.alloc true [(.sc (.int .u32 0)),(.sc (.int .u32 0)),(.sc (.int .u32 0)),(.sc (.int .u32 0)),(.sc (.int .u32 0)),(.sc (.int .u32 0)),(.sc (.int .u32 0)),(.sc (.int .u32 0))])])
 (.seq (.reg [oo 1 (.build [(.sc (.int .u32 0)),(.sc (.int .u32 0)),(.sc (.int .u32 0)),(.sc (.int .u32 0)),(.sc (.int .u32 0)),(.sc (.int .u32 0)),(.sc (.int .u32 0)),(.sc (.int .u32 0))] [(0,1,(.const (.sc (.int .u32 1779033703)))),(1,1,(.const (.sc (.int .u32 3144134277)))),(2,1,(.const (.sc (.int .u32 1013904242)))),(3,1,(.const (.sc (.int .u32 2773480762)))),(4,1,(.const (.sc (.int .u32 1359893119)))),(5,1,(.const (.sc (.int .u32 2600822924)))),(6,1,(.const (.sc (.int .u32 528734635)))),(7,1,(.const (.sc (.int .u32 1541459225))))]),
   oz (.store 8 (tq 0) (tq 1))])
 .ret))⟩
def zjm:Hint:=⟨[],[],[none],[],[],false,false,[]⟩
def zB6:Nat→Sh:=xI []
def zBH (L:Nat):CBC:=noC
def ztM {β:Type} (L:Nat) (k_fin:List V→Option β):Option β :=
 lt [(V.sc (.int .u32 (1779033703:Int))),(V.sc (.int .u32 (3144134277:Int))),(V.sc (.int .u32 (1013904242:Int))),(V.sc (.int .u32 (2773480762:Int))),(V.sc (.int .u32 (1359893119:Int))),(V.sc (.int .u32 (2600822924:Int))),(V.sc (.int .u32 (528734635:Int))),(V.sc (.int .u32 (1541459225:Int)))] fun r0 =>
 chk (0=0∧(List.length r0)=8∧8≠0) (
 k_fin r0)
abbrev yX:=∀ (β:Type),Nat→(List V→Option β)→Option β
def yu (β:Type) (L:Nat) (k_fin:List V→Option β):Option β:=ztM L k_fin
def zsC (yu:yX) (L:Nat) (β:Type) (args:List V) (bor:Bor) (k:KK β):Option β:=match args,bor with
 | [],[]=>yu β L (fun p0=>k (V.agg p0) [])
 | _,_=>none
def zo7:CF:=⟨9,[.tmp 4],
 (.seq (.reg [oo 4 (.move (.const (.sc (.int .u32 0))) false)])
 (.seq (.reg [oo 5 (.move (tq 0) false),
   oo 6 (.move (tq 1) false),
   oo 7 (.un .neg (tq 6)),
   oo 8 (.call 572 [((tq 5),0),((tq 7),0)] []),
   oo 4 (.move (tq 8) false)])
 .ret))⟩
def zmr:Hint:=⟨[],[],[none],[],[],false,false,[]⟩
def zDG:Nat→Sh:=xI []
def zDz (ym:zab) (L:Nat):CBC:=(xr 572 (zaC ym L) noC)
def zv9 {β:Type} (ym:zab) (L:Nat) (p0 p1:Int) (k_fin:Int→Option β):Option β :=
 lt (IntKind.wrap .i64 (0 - p1)) fun x0 =>
 ym β L p0 x0 (fun v1 =>
 k_fin v1)
abbrev yN:=∀ (β:Type),Nat→Int→Int→(Int→Option β)→Option β
def zl (β:Type) (L:Nat) (p0 p1:Int) (k_fin:Int→Option β):Option β:=zv9 ym L p0 p1 k_fin
def zpV (zl:yN) (L:Nat) (β:Type) (args:List V) (bor:Bor) (k:KK β):Option β:=match args,bor with
 | [a0,a1],[]=>aI .u32 a0 fun p0=>aI .i64 a1 fun p1=>zl β L p0 p1 (fun p0=>k (V.sc (.int .u32 p0)) [])
 | _,_=>none
end
end Go.Proofs.YtoeobffjdbdpgaaDoor
