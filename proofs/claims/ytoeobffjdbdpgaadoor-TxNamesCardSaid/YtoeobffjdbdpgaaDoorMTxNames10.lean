/- Part 10 of the proof of TxNames: an abstract machine over plain values, its soundness, and the functions of the program on plain values. -/
import Derived.Test.YtoeobffjdbdpgaaDoorMTxNames9
namespace Go.Proofs.YtoeobffjdbdpgaaDoor
section
set_option maxRecDepth 100000
set_option linter.unusedVariables false
set_option linter.unusedSimpArgs false
def zbF:CC:=(.seq (.seq (.reg [oo 43 (.move (tq 5) false),
   oo 44 (.bin .lss (tq 43) (.const (.sc (.int .i64 64))))])
 (.cond (tq 44)
 .skip
 (.seq (.mask (bl 12 97) (bl 158456315288573494874593034013 97))
 (.exit 2))))
 (.seq (.block 3 (.seq (.dreg [] [(oo 47 (.move (tq 5) false),q0),
   (oo 48 (.bin .sub (tq 47) (.const (.sc (.int .i64 15)))),q0),
   (oo 49 (.indexAddrA 64 1 (tq 3) (tq 48)),q0),
   (oo 50 (.load false 1 (tq 49) false),q1),
   (oo 51 (.call 571 [((tq 50),0),((.const (.sc (.int .i64 7))),0)] []),q1),
   (oo 52 (.move (tq 5) false),q0),
   (oo 53 (.bin .sub (tq 52) (.const (.sc (.int .i64 15)))),q0),
   (oo 54 (.indexAddrA 64 1 (tq 3) (tq 53)),q0),
   (oo 55 (.load false 1 (tq 54) false),q1),
   (oo 56 (.call 571 [((tq 55),0),((.const (.sc (.int .i64 18))),0)] []),q1),
   (oo 57 (.bin .xor (tq 51) (tq 56)),q0),
   (oo 58 (.move (tq 5) false),q0),
   (oo 59 (.bin .sub (tq 58) (.const (.sc (.int .i64 15)))),q0),
   (oo 60 (.indexAddrA 64 1 (tq 3) (tq 59)),q0),
   (oo 61 (.load false 1 (tq 60) false),q1),
   (oo 62 (.bin .shr (tq 61) (.const (.sc (.int .u64 3)))),q0),
   (oo 63 (.bin .xor (tq 57) (tq 62)),q0),
   (oo 6 (.move (tq 63) false),q0)])
 (.seq (.dreg [] [(oo 64 (.move (tq 5) false),q0),
   (oo 65 (.bin .sub (tq 64) (.const (.sc (.int .i64 2)))),q0),
   (oo 66 (.indexAddrA 64 1 (tq 3) (tq 65)),q0),
   (oo 67 (.load false 1 (tq 66) false),q1),
   (oo 68 (.call 571 [((tq 67),0),((.const (.sc (.int .i64 17))),0)] []),q1),
   (oo 69 (.move (tq 5) false),q0),
   (oo 70 (.bin .sub (tq 69) (.const (.sc (.int .i64 2)))),q0),
   (oo 71 (.indexAddrA 64 1 (tq 3) (tq 70)),q0),
   (oo 72 (.load false 1 (tq 71) false),q1),
   (oo 73 (.call 571 [((tq 72),0),((.const (.sc (.int .i64 19))),0)] []),q1),
   (oo 74 (.bin .xor (tq 68) (tq 73)),q0),
   (oo 75 (.move (tq 5) false),q0),
   (oo 76 (.bin .sub (tq 75) (.const (.sc (.int .i64 2)))),q0),
   (oo 77 (.indexAddrA 64 1 (tq 3) (tq 76)),q0),
   (oo 78 (.load false 1 (tq 77) false),q1),
   (oo 79 (.bin .shr (tq 78) (.const (.sc (.int .u64 10)))),q0),
   (oo 80 (.bin .xor (tq 74) (tq 79)),q0),
   (oo 7 (.move (tq 80) false),q0)])
 (.dreg [] [(oo 81 (.move (tq 5) false),q0),
   (oo 82 (.move (tq 5) false),q0),
   (oo 83 (.bin .sub (tq 82) (.const (.sc (.int .i64 16)))),q0),
   (oo 84 (.indexAddrA 64 1 (tq 3) (tq 83)),q0),
   (oo 85 (.load false 1 (tq 84) false),q1),
   (oo 86 (.move (tq 6) false),q0),
   (oo 87 (.bin .add (tq 85) (tq 86)),q0),
   (oo 88 (.move (tq 5) false),q0),
   (oo 89 (.bin .sub (tq 88) (.const (.sc (.int .i64 7)))),q0),
   (oo 90 (.indexAddrA 64 1 (tq 3) (tq 89)),q0),
   (oo 91 (.load false 1 (tq 90) false),q1),
   (oo 92 (.bin .add (tq 87) (tq 91)),q0),
   (oo 93 (.move (tq 7) false),q0),
   (oo 94 (.bin .add (tq 92) (tq 93)),q0),
   (oo 95 (.indexAddrA 64 1 (tq 3) (tq 81)),q0),
   (oz (.store 1 (tq 95) (tq 94)),q0)]))))
 (.reg [oo 45 (.move (tq 5) false),
   oo 46 (.bin .add (tq 45) (.const (.sc (.int .i64 1)))),
   oo 5 (.move (tq 46) false)])))
def zbY:CC:=(.seq (.seq (.reg [oo 8 (.move (tq 4) false),
   oo 9 (.bin .lss (tq 8) (.const (.sc (.int .i64 16))))])
 (.cond (tq 9)
 .skip
 (.seq (.mask (bl 12 97) (bl 158456325028528675187087900653 97))
 (.exit 0))))
 (.seq (.block 1 (.dreg [] [(oo 12 (.move (tq 4) false),q0),
   (oo 13 (.move (tq 4) false),q0),
   (oo 14 (.bin .mul (.const (.sc (.int .i64 4))) (tq 13)),q0),
   (oo 15 (.indexAddrA 64 1 (tq 1) (tq 14)),q0),
   (oo 16 (.load false 1 (tq 15) false),q1),
   (oo 17 (.conv .u32 (tq 16)),q0),
   (oo 18 (.bin .shl (tq 17) (.const (.sc (.int .u64 24)))),q0),
   (oo 19 (.move (tq 4) false),q0),
   (oo 20 (.bin .mul (.const (.sc (.int .i64 4))) (tq 19)),q0),
   (oo 21 (.bin .add (tq 20) (.const (.sc (.int .i64 1)))),q0),
   (oo 22 (.indexAddrA 64 1 (tq 1) (tq 21)),q0),
   (oo 23 (.load false 1 (tq 22) false),q1),
   (oo 24 (.conv .u32 (tq 23)),q0),
   (oo 25 (.bin .shl (tq 24) (.const (.sc (.int .u64 16)))),q0),
   (oo 26 (.bin .or (tq 18) (tq 25)),q0),
   (oo 27 (.move (tq 4) false),q0),
   (oo 28 (.bin .mul (.const (.sc (.int .i64 4))) (tq 27)),q0),
   (oo 29 (.bin .add (tq 28) (.const (.sc (.int .i64 2)))),q0),
   (oo 30 (.indexAddrA 64 1 (tq 1) (tq 29)),q0),
   (oo 31 (.load false 1 (tq 30) false),q1),
   (oo 32 (.conv .u32 (tq 31)),q0),
   (oo 33 (.bin .shl (tq 32) (.const (.sc (.int .u64 8)))),q0),
   (oo 34 (.bin .or (tq 26) (tq 33)),q0),
   (oo 35 (.move (tq 4) false),q0),
   (oo 36 (.bin .mul (.const (.sc (.int .i64 4))) (tq 35)),q0),
   (oo 37 (.bin .add (tq 36) (.const (.sc (.int .i64 3)))),q0),
   (oo 38 (.indexAddrA 64 1 (tq 1) (tq 37)),q0),
   (oo 39 (.load false 1 (tq 38) false),q1),
   (oo 40 (.conv .u32 (tq 39)),q0),
   (oo 41 (.bin .or (tq 34) (tq 40)),q0),
   (oo 42 (.indexAddrA 64 1 (tq 3) (tq 12)),q0),
   (oz (.store 1 (tq 42) (tq 41)),q0)]))
 (.reg [oo 10 (.move (tq 4) false),
   oo 11 (.bin .add (tq 10) (.const (.sc (.int .i64 1)))),
   oo 4 (.move (tq 11) false)])))
def zhh:CC:=(.seq (.reg [oo 96 (.load true 64 (tq 3) false),
   oz (.store 64 (tq 2) (tq 96))])
 .ret)
def zeZ:CC:=(.seq (.seq (.reg [oo 5 (.move (.const (.sc (.int .i64 16))) false)])
 (.block 2 (.loop (bl 44 97) (bl 158456315288573494874593034045 97)
 zbF)))
 zhh)
def zai:CF:=⟨97,[.cell 2 true 64],
 (.seq (.reg [oo 1 (.box true (tq 0)),
   oo 2 (.alloc true (rp 64 (.sc (.int .u32 0)) []))])
 (.seq (.reg [oo 3 (.alloc true (rp 64 (.sc (.int .u32 0)) []))])
 (.seq (.seq (.reg [oo 4 (.move (.const (.sc (.int .i64 0))) false)])
 (.block 0 (.loop (bl 30 97) (bl 158456325028528675187087900671 97)
 zbY)))
 zeZ)))⟩
def zmA:Hint:=⟨[],[],[none,some ((bl 30 97),(bl 158456325028528675187087900671 97)),none,some ((bl 12 97),(bl 158456325028528675187087900653 97)),none,none,some ((bl 44 97),(bl 158456315288573494874593034045 97)),none,some ((bl 12 97),(bl 158456315288573494874593034013 97)),none,none],[],[],false,false⟩
def zJ:Nat→Sh:=xQ [(16,(.int .u8)),(23,(.int .u8)),(31,(.int .u8)),(39,(.int .u8)),(50,(.int .u32)),(55,(.int .u32)),(61,(.int .u32)),(67,(.int .u32)),(72,(.int .u32)),(78,(.int .u32)),(85,(.int .u32)),(91,(.int .u32))]
def zK (xd:yz) (L:Nat):CBC:=(xy 571 (zi6 xd L) noC)
def zdP:St→St:=zS 0 (bl 30 97) (bl 158456325028528675187087900671 97)
def zdm:St→St:=zS 0 (bl 44 97) (bl 158456315288573494874593034045 97)
def zcG (p4:Int) (b1 b2 b3:List V):St:=⟨(jn 1 ((V.ptr 1 0)::((V.ptr 2 0)::((V.ptr 3 0)::((V.sc (.int .i64 p4))::(jn 92 [])))))),(gn 1 ((.live true b1)::((.live true b2)::((.live true b3)::(gn 93 [])))))⟩
def zei (b2 b3:List V):St:=⟨(jn 2 ((V.ptr 2 0)::((V.ptr 3 0)::(jn 93 [])))),(gn 2 ((.live true b2)::((.live true b3)::(gn 93 []))))⟩
def zcr (p5:Int) (b2 b3:List V):St:=⟨(jn 2 ((V.ptr 2 0)::((V.ptr 3 0)::(jn 1 ((V.sc (.int .i64 p5))::(jn 91 [])))))),(gn 2 ((.live true b2)::((.live true b3)::(gn 93 []))))⟩
def zg0 (b2 b3:List V):St:=⟨(jn 2 ((V.ptr 2 0)::((V.ptr 3 0)::(jn 93 [])))),(gn 2 ((.live true b2)::((.live true b3)::(gn 93 []))))⟩
def zkP {β:Type} (xd:yz) (L:Nat) (p0:List V) (k_hbbaba:Int→List V→List V→List V→Option β):Option β :=
 k_hbbaba (0:Int) p0 (List.replicate 64 (V.sc (.int .u32 (0:Int)))) (List.replicate 64 (V.sc (.int .u32 (0:Int))))
theorem ztC {β:Type} (xd:yz) (L:Nat) (p0:List V) (k:KK β):zt zJ (zK xd L) L zai [(V.agg p0)] [] k=zkP xd L p0 (fun p4 b1 b2 b3=>xq (xf zJ (zK xd L) 0 L zbY) zdP L (zcG p4 b1 b2 b3) (yn 0 (zy (xf zJ (zK xd L) 0 L zeZ) (yE 0 (CF.res zai) k)))):=by kernel_rfl
def zcn {β:Type} (xd:yz) (L:Nat) (p4:Int) (b1 b2 b3:List V) (k_hbbaba:Int→List V→List V→List V→Option β) (k_x0:List V→List V→Option β):Option β :=
 ifb (decide (p4 < (16:Int))) (
 lt (IntKind.wrap .i64 (((4:Int):Int) * p4)) fun x0 =>
 chk (0≤x0∧x0 < ((64:Nat):Int)) (
 cI .u8 b1 (0+((Int.toNat x0) * 1)) fun v1 =>
 lt (IntKind.wrap .u32 v1) fun x2 =>
 lt (zhC .u32 x2 (24:Int)) fun x3 =>
 lt (IntKind.wrap .i64 (((4:Int):Int) * p4)) fun x4 =>
 lt (IntKind.wrap .i64 ((x4:Int)+(1:Int))) fun x5 =>
 chk (0≤x5∧x5 < ((64:Nat):Int)) (
 cI .u8 b1 (0+((Int.toNat x5) * 1)) fun v6 =>
 lt (IntKind.wrap .u32 v6) fun x7 =>
 lt (zhC .u32 x7 (16:Int)) fun x8 =>
 lt (ior .u32 x3 x8) fun x9 =>
 lt (IntKind.wrap .i64 (((4:Int):Int) * p4)) fun x10 =>
 lt (IntKind.wrap .i64 ((x10:Int)+(2:Int))) fun x11 =>
 chk (0≤x11∧x11 < ((64:Nat):Int)) (
 cI .u8 b1 (0+((Int.toNat x11) * 1)) fun v12 =>
 lt (IntKind.wrap .u32 v12) fun x13 =>
 lt (zhC .u32 x13 (8:Int)) fun x14 =>
 lt (ior .u32 x9 x14) fun x15 =>
 lt (IntKind.wrap .i64 (((4:Int):Int) * p4)) fun x16 =>
 lt (IntKind.wrap .i64 ((x16:Int)+(3:Int))) fun x17 =>
 chk (0≤x17∧x17 < ((64:Nat):Int)) (
 cI .u8 b1 (0+((Int.toNat x17) * 1)) fun v18 =>
 lt (IntKind.wrap .u32 v18) fun x19 =>
 lt (ior .u32 x15 x19) fun x20 =>
 chk (0≤p4∧p4 < ((64:Nat):Int)) (
 chk (1=1∧(0+((Int.toNat p4) * 1))+1≤(List.length b3)) (
 lt (zr b3 (0+((Int.toNat p4) * 1)) [(V.sc (.int .u32 x20))]) fun r21 =>
 lt (IntKind.wrap .i64 ((p4:Int)+(1:Int))) fun x22 =>
 k_hbbaba x22 b1 b2 r21))))))) (
 k_x0 b2 b3)
theorem zpL {β:Type} (xd:yz) (L:Nat) (p4:Int) (b1 b2 b3:List V) (X:St→Option β) (K:KT β):xf zJ (zK xd L) 0 L zbY (zcG p4 b1 b2 b3) (yN zdP X K)=zcn xd L p4 b1 b2 b3 (fun p4 b1 b2 b3=>X (zcG p4 b1 b2 b3)) (fun b2 b3=>K (.exit 0) (zei b2 b3)):=by kernel_rfl
def zfd {β:Type} (xd:yz) (L:Nat) (b2 b3:List V) (k_hbbbaba:Int→List V→List V→Option β):Option β :=
 k_hbbbaba (16:Int) b2 b3
theorem zob {β:Type} (xd:yz) (L:Nat) (b2 b3:List V) (k:KK β):(yn 0 (zy (xf zJ (zK xd L) 0 L zeZ) (yE 0 (CF.res zai) k))) (.exit 0) (zei b2 b3)=zfd xd L b2 b3 (fun p5 b2 b3=>xq (xf zJ (zK xd L) 0 L zbF) zdm L (zcr p5 b2 b3) (yn 2 (zy (xf zJ (zK xd L) 0 L zhh) (yE 0 (CF.res zai) k)))):=by kernel_rfl
def zbZ {β:Type} (xd:yz) (L:Nat) (p5:Int) (b2 b3:List V) (k_hbbbaba:Int→List V→List V→Option β) (k_x2:List V→List V→Option β):Option β :=
 ifb (decide (p5 < (64:Int))) (
 lt (IntKind.wrap .i64 ((p5:Int) - (15:Int))) fun x23 =>
 chk (0≤x23∧x23 < ((64:Nat):Int)) (
 cI .u32 b3 (0+((Int.toNat x23) * 1)) fun v24 =>
 xd β L v24 (7:Int) (fun v25 =>
 lt (IntKind.wrap .i64 ((p5:Int) - (15:Int))) fun x26 =>
 chk (0≤x26∧x26 < ((64:Nat):Int)) (
 cI .u32 b3 (0+((Int.toNat x26) * 1)) fun v27 =>
 xd β L v27 (18:Int) (fun v28 =>
 lt (zbH .u32 v25 v28) fun x29 =>
 lt (IntKind.wrap .i64 ((p5:Int) - (15:Int))) fun x30 =>
 chk (0≤x30∧x30 < ((64:Nat):Int)) (
 cI .u32 b3 (0+((Int.toNat x30) * 1)) fun v31 =>
 lt (zcZ .u32 v31 (3:Int)) fun x32 =>
 lt (zbH .u32 x29 x32) fun x33 =>
 lt (IntKind.wrap .i64 ((p5:Int) - (2:Int))) fun x34 =>
 chk (0≤x34∧x34 < ((64:Nat):Int)) (
 cI .u32 b3 (0+((Int.toNat x34) * 1)) fun v35 =>
 xd β L v35 (17:Int) (fun v36 =>
 lt (IntKind.wrap .i64 ((p5:Int) - (2:Int))) fun x37 =>
 chk (0≤x37∧x37 < ((64:Nat):Int)) (
 cI .u32 b3 (0+((Int.toNat x37) * 1)) fun v38 =>
 xd β L v38 (19:Int) (fun v39 =>
 lt (zbH .u32 v36 v39) fun x40 =>
 lt (IntKind.wrap .i64 ((p5:Int) - (2:Int))) fun x41 =>
 chk (0≤x41∧x41 < ((64:Nat):Int)) (
 cI .u32 b3 (0+((Int.toNat x41) * 1)) fun v42 =>
 lt (zcZ .u32 v42 (10:Int)) fun x43 =>
 lt (zbH .u32 x40 x43) fun x44 =>
 lt (IntKind.wrap .i64 ((p5:Int) - (16:Int))) fun x45 =>
 chk (0≤x45∧x45 < ((64:Nat):Int)) (
 cI .u32 b3 (0+((Int.toNat x45) * 1)) fun v46 =>
 lt (IntKind.wrap .u32 ((v46:Int)+x33)) fun x47 =>
 lt (IntKind.wrap .i64 ((p5:Int) - (7:Int))) fun x48 =>
 chk (0≤x48∧x48 < ((64:Nat):Int)) (
 cI .u32 b3 (0+((Int.toNat x48) * 1)) fun v49 =>
 lt (IntKind.wrap .u32 ((x47:Int)+v49)) fun x50 =>
 lt (IntKind.wrap .u32 ((x50:Int)+x44)) fun x51 =>
 chk (0≤p5∧p5 < ((64:Nat):Int)) (
 chk (1=1∧(0+((Int.toNat p5) * 1))+1≤(List.length b3)) (
 lt (zr b3 (0+((Int.toNat p5) * 1)) [(V.sc (.int .u32 x51))]) fun r52 =>
 lt (IntKind.wrap .i64 ((p5:Int)+(1:Int))) fun x53 =>
 k_hbbbaba x53 b2 r52))))))))))))))) (
 k_x2 b2 b3)
theorem zoE {β:Type} (xd:yz) (L:Nat) (p5:Int) (b2 b3:List V) (X:St→Option β) (K:KT β):xf zJ (zK xd L) 0 L zbF (zcr p5 b2 b3) (yN zdm X K)=zbZ xd L p5 b2 b3 (fun p5 b2 b3=>X (zcr p5 b2 b3)) (fun b2 b3=>K (.exit 2) (zg0 b2 b3)):=by kernel_rfl
def zeS {β:Type} (xd:yz) (L:Nat) (b2 b3:List V) (k_fin:List V→Option β):Option β :=
 chk (0+64≤(List.length b3)) (
 chk ((List.length (List.take 64 b3))=64∧0+64≤(List.length b2)) (
 lt (zr b2 0 (List.take 64 b3)) fun r54 =>
 chk (0=0∧(List.length r54)=64∧64≠0) (
 k_fin r54)))
theorem znz {β:Type} (xd:yz) (L:Nat) (b2 b3:List V) (k:KK β):(yn 2 (zy (xf zJ (zK xd L) 0 L zhh) (yE 0 (CF.res zai) k))) (.exit 2) (zg0 b2 b3)=zeS xd L b2 b3 (fun p0=>k (V.agg p0) []):=by kernel_rfl
def zbo {β:Type} (xd:yz) (L:Nat) (k_x0:List V→List V→Option β):Nat→Int→List V→List V→List V→Option β
 | 0,_,_,_,_=>none
 | n+1,p4,b1,b2,b3=>zcn xd L p4 b1 b2 b3 (fun p4 b1 b2 b3=>zbo xd L k_x0 n p4 b1 b2 b3) k_x0
theorem ziO {β:Type} (xd:yz) (L:Nat) (K:KT β):∀ (n:Nat) (p4:Int) (b1 b2 b3:List V),xq (xf zJ (zK xd L) 0 L zbY) zdP n (zcG p4 b1 b2 b3) K=zbo xd L (fun b2 b3=>K (.exit 0) (zei b2 b3)) n p4 b1 b2 b3:=by
 intro n
 induction n with
 | zero=>intros; rfl
 | succ n ih =>
  intro p4 b1 b2 b3
  refine (zpL xd L p4 b1 b2 b3 (fun σ=>xq (xf zJ (zK xd L) 0 L zbY) zdP n σ K) K).trans ?_
  simp only [ih]
  rfl
def za7 {β:Type} (xd:yz) (L:Nat) (k_x2:List V→List V→Option β):Nat→Int→List V→List V→Option β
 | 0,_,_,_=>none
 | n+1,p5,b2,b3=>zbZ xd L p5 b2 b3 (fun p5 b2 b3=>za7 xd L k_x2 n p5 b2 b3) k_x2
theorem zid {β:Type} (xd:yz) (L:Nat) (K:KT β):∀ (n:Nat) (p5:Int) (b2 b3:List V),xq (xf zJ (zK xd L) 0 L zbF) zdm n (zcr p5 b2 b3) K=za7 xd L (fun b2 b3=>K (.exit 2) (zg0 b2 b3)) n p5 b2 b3:=by
 intro n
 induction n with
 | zero=>intros; rfl
 | succ n ih =>
  intro p5 b2 b3
  refine (zoE xd L p5 b2 b3 (fun σ=>xq (xf zJ (zK xd L) 0 L zbF) zdm n σ K) K).trans ?_
  simp only [ih]
  rfl
def zcL {β:Type} (xd:yz) (L:Nat) (b2 b3:List V) (k_fin:List V→Option β):Option β :=
 zfd xd L b2 b3 (fun p5 b2 b3=>za7 xd L (fun b2 b3=>zeS xd L b2 b3 k_fin) L p5 b2 b3)
theorem znJ {β:Type} (xd:yz) (L:Nat) (b2 b3:List V) (k:KK β):(yn 0 (zy (xf zJ (zK xd L) 0 L zeZ) (yE 0 (CF.res zai) k))) (.exit 0) (zei b2 b3)=zcL xd L b2 b3 (fun p0=>k (V.agg p0) []):=by
 refine (zob xd L b2 b3 k).trans ?_
 unfold zcL
 first
  | (simp only [zid,znz]; done)
  | (simp only [zid]; rfl)
def zg8 {β:Type} (xd:yz) (L:Nat) (p0:List V) (k_fin:List V→Option β):Option β :=
 zkP xd L p0 (fun p4 b1 b2 b3=>zbo xd L (fun b2 b3=>zcL xd L b2 b3 k_fin) L p4 b1 b2 b3)
theorem ztB {β:Type} (xd:yz) (L:Nat) (p0:List V) (k:KK β):zt zJ (zK xd L) L zai [(V.agg p0)] [] k=zg8 xd L p0 (fun p0=>k (V.agg p0) []):=by
 refine (ztC xd L p0 k).trans ?_
 unfold zg8
 first
  | (simp only [ziO,znJ]; done)
  | (simp only [ziO]; rfl)
abbrev xX:=∀ (β:Type),Nat→List V→(List V→Option β)→Option β
def zj (β:Type) (L:Nat) (p0:List V) (k_fin:List V→Option β):Option β:=zg8 xd L p0 k_fin
def zgN (zj:xX) (L:Nat) (β:Type) (args:List V) (bor:Bor) (k:KK β):Option β:=match args,bor with
 | [a0],[]=>aG a0 fun p0=>zj β L p0 (fun p0=>k (V.agg p0) [])
 | _,_=>none
theorem ztx (L:Nat) (β:Type) (args:List V) (bor:Bor) (k:KK β) (r:β) (h:zgN zj L β args bor k=some r):zt zJ (zK xd L) L zai args bor k=some r:=by
 unfold zgN at h
 split at h
 ·have q:=zaj h; clear h; obtain ⟨p0,rfl,h⟩:=q
  exact (ztB xd L p0 k).trans h
 ·cases h
def zfI:CF:=⟨2,[.cell 0 true 64],
 (.seq (.reg [oo 0 (.alloc true (rp 64 (.sc (.int .u32 0)) []))])
 (.seq (.reg [oo 1 (.build (rp 64 (.sc (.int .u32 0)) []) [(0,1,(.const (.sc (.int .u32 1116352408)))),(1,1,(.const (.sc (.int .u32 1899447441)))),(2,1,(.const (.sc (.int .u32 3049323471)))),(3,1,(.const (.sc (.int .u32 3921009573)))),(4,1,(.const (.sc (.int .u32 961987163)))),(5,1,(.const (.sc (.int .u32 1508970993)))),(6,1,(.const (.sc (.int .u32 2453635748)))),(7,1,(.const (.sc (.int .u32 2870763221)))),(8,1,(.const (.sc (.int .u32 3624381080)))),(9,1,(.const (.sc (.int .u32 310598401)))),(10,1,(.const (.sc (.int .u32 607225278)))),(11,1,(.const (.sc (.int .u32 1426881987)))),(12,1,(.const (.sc (.int .u32 1925078388)))),(13,1,(.const (.sc (.int .u32 2162078206)))),(14,1,(.const (.sc (.int .u32 2614888103)))),(15,1,(.const (.sc (.int .u32 3248222580)))),(16,1,(.const (.sc (.int .u32 3835390401)))),(17,1,(.const (.sc (.int .u32 4022224774)))),(18,1,(.const (.sc (.int .u32 264347078)))),(19,1,(.const (.sc (.int .u32 604807628)))),(20,1,(.const (.sc (.int .u32 770255983)))),(21,1,(.const (.sc (.int .u32 1249150122)))),(22,1,(.const (.sc (.int .u32 1555081692)))),(23,1,(.const (.sc (.int .u32 1996064986)))),(24,1,(.const (.sc (.int .u32 2554220882)))),(25,1,(.const (.sc (.int .u32 2821834349)))),(26,1,(.const (.sc (.int .u32 2952996808)))),(27,1,(.const (.sc (.int .u32 3210313671)))),(28,1,(.const (.sc (.int .u32 3336571891)))),(29,1,(.const (.sc (.int .u32 3584528711)))),(30,1,(.const (.sc (.int .u32 113926993)))),(31,1,(.const (.sc (.int .u32 338241895)))),(32,1,(.const (.sc (.int .u32 666307205)))),(33,1,(.const (.sc (.int .u32 773529912)))),(34,1,(.const (.sc (.int .u32 1294757372)))),(35,1,(.const (.sc (.int .u32 1396182291)))),(36,1,(.const (.sc (.int .u32 1695183700)))),(37,1,(.const (.sc (.int .u32 1986661051)))),(38,1,(.const (.sc (.int .u32 2177026350)))),(39,1,(.const (.sc (.int .u32 2456956037)))),(40,1,(.const (.sc (.int .u32 2730485921)))),(41,1,(.const (.sc (.int .u32 2820302411)))),(42,1,(.const (.sc (.int .u32 3259730800)))),(43,1,(.const (.sc (.int .u32 3345764771)))),(44,1,(.const (.sc (.int .u32 3516065817)))),(45,1,(.const (.sc (.int .u32 3600352804)))),(46,1,(.const (.sc (.int .u32 4094571909)))),(47,1,(.const (.sc (.int .u32 275423344)))),(48,1,(.const (.sc (.int .u32 430227734)))),(49,1,(.const (.sc (.int .u32 506948616)))),(50,1,(.const (.sc (.int .u32 659060556)))),(51,1,(.const (.sc (.int .u32 883997877)))),(52,1,(.const (.sc (.int .u32 958139571)))),(53,1,(.const (.sc (.int .u32 1322822218)))),(54,1,(.const (.sc (.int .u32 1537002063)))),(55,1,(.const (.sc (.int .u32 1747873779)))),(56,1,(.const (.sc (.int .u32 1955562222)))),(57,1,(.const (.sc (.int .u32 2024104815)))),(58,1,(.const (.sc (.int .u32 2227730452)))),(59,1,(.const (.sc (.int .u32 2361852424)))),(60,1,(.const (.sc (.int .u32 2428436474)))),(61,1,(.const (.sc (.int .u32 2756734187)))),(62,1,(.const (.sc (.int .u32 3204031479)))),(63,1,(.const (.sc (.int .u32 3329325298))))]),
   oz (.store 64 (tq 0) (tq 1))])
 .ret))⟩
def zlu:Hint:=⟨[],[],[none],[],[],false,false⟩
def ziV:Nat→Sh:=xQ []
def ziJ (L:Nat):CBC:=noC
def zjQ {β:Type} (L:Nat) (k_fin:List V→Option β):Option β :=
 lt [(V.sc (.int .u32 (1116352408:Int))),(V.sc (.int .u32 (1899447441:Int))),(V.sc (.int .u32 (3049323471:Int))),(V.sc (.int .u32 (3921009573:Int))),(V.sc (.int .u32 (961987163:Int))),(V.sc (.int .u32 (1508970993:Int))),(V.sc (.int .u32 (2453635748:Int))),(V.sc (.int .u32 (2870763221:Int))),(V.sc (.int .u32 (3624381080:Int))),(V.sc (.int .u32 (310598401:Int))),(V.sc (.int .u32 (607225278:Int))),(V.sc (.int .u32 (1426881987:Int))),(V.sc (.int .u32 (1925078388:Int))),(V.sc (.int .u32 (2162078206:Int))),(V.sc (.int .u32 (2614888103:Int))),(V.sc (.int .u32 (3248222580:Int))),(V.sc (.int .u32 (3835390401:Int))),(V.sc (.int .u32 (4022224774:Int))),(V.sc (.int .u32 (264347078:Int))),(V.sc (.int .u32 (604807628:Int))),(V.sc (.int .u32 (770255983:Int))),(V.sc (.int .u32 (1249150122:Int))),(V.sc (.int .u32 (1555081692:Int))),(V.sc (.int .u32 (1996064986:Int))),(V.sc (.int .u32 (2554220882:Int))),(V.sc (.int .u32 (2821834349:Int))),(V.sc (.int .u32 (2952996808:Int))),(V.sc (.int .u32 (3210313671:Int))),(V.sc (.int .u32 (3336571891:Int))),(V.sc (.int .u32 (3584528711:Int))),(V.sc (.int .u32 (113926993:Int))),(V.sc (.int .u32 (338241895:Int))),(V.sc (.int .u32 (666307205:Int))),(V.sc (.int .u32 (773529912:Int))),(V.sc (.int .u32 (1294757372:Int))),(V.sc (.int .u32 (1396182291:Int))),(V.sc (.int .u32 (1695183700:Int))),(V.sc (.int .u32 (1986661051:Int))),(V.sc (.int .u32 (2177026350:Int))),(V.sc (.int .u32 (2456956037:Int))),(V.sc (.int .u32 (2730485921:Int))),(V.sc (.int .u32 (2820302411:Int))),(V.sc (.int .u32 (3259730800:Int))),(V.sc (.int .u32 (3345764771:Int))),(V.sc (.int .u32 (3516065817:Int))),(V.sc (.int .u32 (3600352804:Int))),(V.sc (.int .u32 (4094571909:Int))),(V.sc (.int .u32 (275423344:Int))),(V.sc (.int .u32 (430227734:Int))),(V.sc (.int .u32 (506948616:Int))),(V.sc (.int .u32 (659060556:Int))),(V.sc (.int .u32 (883997877:Int))),(V.sc (.int .u32 (958139571:Int))),(V.sc (.int .u32 (1322822218:Int))),(V.sc (.int .u32 (1537002063:Int))),(V.sc (.int .u32 (1747873779:Int))),(V.sc (.int .u32 (1955562222:Int))),(V.sc (.int .u32 (2024104815:Int))),(V.sc (.int .u32 (2227730452:Int))),(V.sc (.int .u32 (2361852424:Int))),(V.sc (.int .u32 (2428436474:Int))),(V.sc (.int .u32 (2756734187:Int))),(V.sc (.int .u32 (3204031479:Int))),(V.sc (.int .u32 (3329325298:Int)))] fun r0 =>
 chk (0=0∧(List.length r0)=64∧64≠0) (
 k_fin r0)
theorem ztc {β:Type} (L:Nat) (k:KK β):zt ziV (ziJ L) L zfI [] [] k=zjQ L (fun p0=>k (V.agg p0) []):=by kernel_rfl
abbrev xS:=∀ (β:Type),Nat→(List V→Option β)→Option β
def zi (β:Type) (L:Nat) (k_fin:List V→Option β):Option β:=zjQ L k_fin
def zf6 (zi:xS) (L:Nat) (β:Type) (args:List V) (bor:Bor) (k:KK β):Option β:=match args,bor with
 | [],[]=>zi β L (fun p0=>k (V.agg p0) [])
 | _,_=>none
theorem zss (L:Nat) (β:Type) (args:List V) (bor:Bor) (k:KK β) (r:β) (h:zf6 zi L β args bor k=some r):zt ziV (ziJ L) L zfI args bor k=some r:=by
 unfold zf6 at h
 split at h
 ·exact (ztc L k).trans h
 ·cases h
def zbD:CC:=(.seq (.seq (.reg [oo 37 (.move (tq 15) false),
   oo 38 (.bin .lss (tq 37) (.const (.sc (.int .i64 64))))])
 (.cond (tq 38)
 .skip
 (.seq (.mask (bl 32660 133) (bl 10889035741470030808987042129089031602071 133))
 (.exit 0))))
 (.seq (.block 1 (.seq (.dreg [] [(oo 41 (.move (tq 14) false),q0),
   (oo 42 (.move (tq 11) false),q0),
   (oo 43 (.call 571 [((tq 42),0),((.const (.sc (.int .i64 6))),0)] []),q1),
   (oo 44 (.move (tq 11) false),q0),
   (oo 45 (.call 571 [((tq 44),0),((.const (.sc (.int .i64 11))),0)] []),q1),
   (oo 46 (.bin .xor (tq 43) (tq 45)),q0),
   (oo 47 (.move (tq 11) false),q0),
   (oo 48 (.call 571 [((tq 47),0),((.const (.sc (.int .i64 25))),0)] []),q1),
   (oo 49 (.bin .xor (tq 46) (tq 48)),q0),
   (oo 50 (.bin .add (tq 41) (tq 49)),q0),
   (oo 51 (.move (tq 11) false),q0),
   (oo 52 (.move (tq 12) false),q0),
   (oo 53 (.bin .and (tq 51) (tq 52)),q0),
   (oo 54 (.move (tq 11) false),q0),
   (oo 55 (.un .xor (tq 54)),q0),
   (oo 56 (.move (tq 13) false),q0),
   (oo 57 (.bin .and (tq 55) (tq 56)),q0),
   (oo 58 (.bin .xor (tq 53) (tq 57)),q0),
   (oo 59 (.bin .add (tq 50) (tq 58)),q0),
   (oo 60 (.move (tq 15) false),q0),
   (oo 61 (.indexAddrA 64 1 (tq 6) (tq 60)),q0),
   (oo 62 (.load false 1 (tq 61) false),q1),
   (oo 63 (.bin .add (tq 59) (tq 62)),q0),
   (oo 64 (.move (tq 15) false),q0),
   (oo 65 (.indexAddrA 64 1 (tq 5) (tq 64)),q0),
   (oo 66 (.load false 1 (tq 65) false),q1),
   (oo 67 (.bin .add (tq 63) (tq 66)),q0),
   (oo 16 (.move (tq 67) false),q0)])
 (.seq (.reg [oo 68 (.move (tq 7) false),
   oo 69 (.call 571 [((tq 68),0),((.const (.sc (.int .i64 2))),0)] []),
   oo 70 (.move (tq 7) false),
   oo 71 (.call 571 [((tq 70),0),((.const (.sc (.int .i64 13))),0)] []),
   oo 72 (.bin .xor (tq 69) (tq 71)),
   oo 73 (.move (tq 7) false),
   oo 74 (.call 571 [((tq 73),0),((.const (.sc (.int .i64 22))),0)] []),
   oo 75 (.bin .xor (tq 72) (tq 74)),
   oo 76 (.move (tq 7) false),
   oo 77 (.move (tq 8) false),
   oo 78 (.bin .and (tq 76) (tq 77)),
   oo 79 (.move (tq 7) false),
   oo 80 (.move (tq 9) false),
   oo 81 (.bin .and (tq 79) (tq 80)),
   oo 82 (.bin .xor (tq 78) (tq 81)),
   oo 83 (.move (tq 8) false),
   oo 84 (.move (tq 9) false),
   oo 85 (.bin .and (tq 83) (tq 84)),
   oo 86 (.bin .xor (tq 82) (tq 85)),
   oo 87 (.bin .add (tq 75) (tq 86)),
   oo 17 (.move (tq 87) false)])
 (.reg [oo 88 (.move (tq 13) false),
   oo 89 (.move (tq 12) false),
   oo 90 (.move (tq 11) false),
   oo 91 (.move (tq 10) false),
   oo 92 (.move (tq 16) false),
   oo 93 (.bin .add (tq 91) (tq 92)),
   oo 94 (.move (tq 9) false),
   oo 95 (.move (tq 8) false),
   oo 96 (.move (tq 7) false),
   oo 97 (.move (tq 16) false),
   oo 98 (.move (tq 17) false),
   oo 99 (.bin .add (tq 97) (tq 98)),
   oo 14 (.move (tq 88) false),
   oo 13 (.move (tq 89) false),
   oo 12 (.move (tq 90) false),
   oo 11 (.move (tq 93) false),
   oo 10 (.move (tq 94) false),
   oo 9 (.move (tq 95) false),
   oo 8 (.move (tq 96) false),
   oo 7 (.move (tq 99) false)]))))
 (.reg [oo 39 (.move (tq 15) false),
   oo 40 (.bin .add (tq 39) (.const (.sc (.int .i64 1)))),
   oo 15 (.move (tq 40) false)])))
def zg3:CC:=(.seq (.reg [oo 100 (.indexAddrA 8 1 (tq 2) (.const (.sc (.int .i64 0)))),
   oo 101 (.load false 1 (tq 100) false),
   oo 102 (.move (tq 7) false),
   oo 103 (.bin .add (tq 101) (tq 102)),
   oo 104 (.indexAddrA 8 1 (tq 2) (.const (.sc (.int .i64 1)))),
   oo 105 (.load false 1 (tq 104) false),
   oo 106 (.move (tq 8) false),
   oo 107 (.bin .add (tq 105) (tq 106)),
   oo 108 (.indexAddrA 8 1 (tq 2) (.const (.sc (.int .i64 2)))),
   oo 109 (.load false 1 (tq 108) false),
   oo 110 (.move (tq 9) false),
   oo 111 (.bin .add (tq 109) (tq 110)),
   oo 112 (.indexAddrA 8 1 (tq 2) (.const (.sc (.int .i64 3)))),
   oo 113 (.load false 1 (tq 112) false),
   oo 114 (.move (tq 10) false),
   oo 115 (.bin .add (tq 113) (tq 114)),
   oo 116 (.indexAddrA 8 1 (tq 2) (.const (.sc (.int .i64 4)))),
   oo 117 (.load false 1 (tq 116) false),
   oo 118 (.move (tq 11) false),
   oo 119 (.bin .add (tq 117) (tq 118)),
   oo 120 (.indexAddrA 8 1 (tq 2) (.const (.sc (.int .i64 5)))),
   oo 121 (.load false 1 (tq 120) false),
   oo 122 (.move (tq 12) false),
   oo 123 (.bin .add (tq 121) (tq 122)),
   oo 124 (.indexAddrA 8 1 (tq 2) (.const (.sc (.int .i64 6)))),
   oo 125 (.load false 1 (tq 124) false),
   oo 126 (.move (tq 13) false),
   oo 127 (.bin .add (tq 125) (tq 126)),
   oo 128 (.indexAddrA 8 1 (tq 2) (.const (.sc (.int .i64 7)))),
   oo 129 (.load false 1 (tq 128) false),
   oo 130 (.move (tq 14) false),
   oo 131 (.bin .add (tq 129) (tq 130)),
   oo 132 (.build [(.sc (.int .u32 0)),(.sc (.int .u32 0)),(.sc (.int .u32 0)),(.sc (.int .u32 0)),(.sc (.int .u32 0)),(.sc (.int .u32 0)),(.sc (.int .u32 0)),(.sc (.int .u32 0))] [(0,1,(tq 103)),(1,1,(tq 107)),(2,1,(tq 111)),(3,1,(tq 115)),(4,1,(tq 119)),(5,1,(tq 123)),(6,1,(tq 127)),(7,1,(tq 131))]),
   oz (.store 8 (tq 4) (tq 132))])
 .ret)
def zbI:CF:=⟨133,[.cell 4 true 8],
 (.seq (.reg [oo 2 (.box true (tq 0)),
   oo 3 (.box true (tq 1)),
   oo 4 (.alloc true [(.sc (.int .u32 0)),(.sc (.int .u32 0)),(.sc (.int .u32 0)),(.sc (.int .u32 0)),(.sc (.int .u32 0)),(.sc (.int .u32 0)),(.sc (.int .u32 0)),(.sc (.int .u32 0))])])
 (.seq (.reg [oo 18 (.load true 64 (tq 3) false),
   oo 19 (.call 569 [((tq 18),0)] []),
   oo 20 (.call 570 [] []),
   oo 5 (.alloc true (rp 64 (.sc (.int .u32 0)) [])),
   oo 6 (.alloc true (rp 64 (.sc (.int .u32 0)) [])),
   oz (.store 64 (tq 5) (tq 19)),
   oz (.store 64 (tq 6) (tq 20))])
 (.seq (.dreg [] [(oo 21 (.indexAddrA 8 1 (tq 2) (.const (.sc (.int .i64 0)))),q0),
   (oo 22 (.load false 1 (tq 21) false),q1),
   (oo 23 (.indexAddrA 8 1 (tq 2) (.const (.sc (.int .i64 1)))),q0),
   (oo 24 (.load false 1 (tq 23) false),q1),
   (oo 25 (.indexAddrA 8 1 (tq 2) (.const (.sc (.int .i64 2)))),q0),
   (oo 26 (.load false 1 (tq 25) false),q1),
   (oo 27 (.indexAddrA 8 1 (tq 2) (.const (.sc (.int .i64 3)))),q0),
   (oo 28 (.load false 1 (tq 27) false),q1),
   (oo 29 (.indexAddrA 8 1 (tq 2) (.const (.sc (.int .i64 4)))),q0),
   (oo 30 (.load false 1 (tq 29) false),q1),
   (oo 31 (.indexAddrA 8 1 (tq 2) (.const (.sc (.int .i64 5)))),q0),
   (oo 32 (.load false 1 (tq 31) false),q1),
   (oo 33 (.indexAddrA 8 1 (tq 2) (.const (.sc (.int .i64 6)))),q0),
   (oo 34 (.load false 1 (tq 33) false),q1),
   (oo 35 (.indexAddrA 8 1 (tq 2) (.const (.sc (.int .i64 7)))),q0),
   (oo 36 (.load false 1 (tq 35) false),q1),
   (oo 7 (.move (tq 22) false),q0),
   (oo 8 (.move (tq 24) false),q0),
   (oo 9 (.move (tq 26) false),q0),
   (oo 10 (.move (tq 28) false),q0),
   (oo 11 (.move (tq 30) false),q0),
   (oo 12 (.move (tq 32) false),q0),
   (oo 13 (.move (tq 34) false),q0),
   (oo 14 (.move (tq 36) false),q0)])
 (.seq (.seq (.reg [oo 15 (.move (.const (.sc (.int .i64 0))) false)])
 (.block 0 (.loop (bl 65524 133) (bl 10889035741470030808987042129089031634935 133)
 zbD)))
 zg3))))⟩
def zmw:Hint:=⟨[],[],[none,some ((bl 65524 133),(bl 10889035741470030808987042129089031634935 133)),none,some ((bl 32660 133),(bl 10889035741470030808987042129089031602071 133)),none,none],[],[],false,false⟩
def zag:Nat→Sh:=xQ [(22,(.int .u32)),(24,(.int .u32)),(26,(.int .u32)),(28,(.int .u32)),(30,(.int .u32)),(32,(.int .u32)),(34,(.int .u32)),(36,(.int .u32)),(62,(.int .u32)),(66,(.int .u32)),(101,(.int .u32)),(105,(.int .u32)),(109,(.int .u32)),(113,(.int .u32)),(117,(.int .u32)),(121,(.int .u32)),(125,(.int .u32)),(129,(.int .u32))]
def zaf (zj:xX) (zi:xS) (xd:yz) (L:Nat):CBC:=(xy 571 (zi6 xd L) (xy 570 (zf6 zi L) (xy 569 (zgN zj L) noC)))
def zdy:St→St:=zS 0 (bl 65524 133) (bl 10889035741470030808987042129089031634935 133)
def zcv (p7 p8 p9 p10 p11 p12 p13 p14 p15:Int) (b2:List V) (zHc zHd zHe zHf zHg zHh zHi zHj:Int) (b5 b6:List V):St:=⟨(jn 2 ((V.ptr 2 0)::(jn 1 ((V.ptr 4 0)::((V.ptr 5 0)::((V.ptr 6 0)::((V.sc (.int .u32 p7))::((V.sc (.int .u32 p8))::((V.sc (.int .u32 p9))::((V.sc (.int .u32 p10))::((V.sc (.int .u32 p11))::((V.sc (.int .u32 p12))::((V.sc (.int .u32 p13))::((V.sc (.int .u32 p14))::((V.sc (.int .i64 p15))::(jn 117 [])))))))))))))))),(gn 2 ((.live true b2)::(gn 1 ((.live true [(V.sc (.int .u32 zHc)),(V.sc (.int .u32 zHd)),(V.sc (.int .u32 zHe)),(V.sc (.int .u32 zHf)),(V.sc (.int .u32 zHg)),(V.sc (.int .u32 zHh)),(V.sc (.int .u32 zHi)),(V.sc (.int .u32 zHj))])::((.live true b5)::((.live true b6)::(gn 126 [])))))))⟩
def zhc (p7 p8 p9 p10 p11 p12 p13 p14:Int) (b2:List V) (zHc zHd zHe zHf zHg zHh zHi zHj:Int):St:=⟨(jn 2 ((V.ptr 2 0)::(jn 1 ((V.ptr 4 0)::(jn 2 ((V.sc (.int .u32 p7))::((V.sc (.int .u32 p8))::((V.sc (.int .u32 p9))::((V.sc (.int .u32 p10))::((V.sc (.int .u32 p11))::((V.sc (.int .u32 p12))::((V.sc (.int .u32 p13))::((V.sc (.int .u32 p14))::(jn 118 [])))))))))))))),(gn 2 ((.live true b2)::(gn 1 ((.live true [(V.sc (.int .u32 zHc)),(V.sc (.int .u32 zHd)),(V.sc (.int .u32 zHe)),(V.sc (.int .u32 zHf)),(V.sc (.int .u32 zHg)),(V.sc (.int .u32 zHh)),(V.sc (.int .u32 zHi)),(V.sc (.int .u32 zHj))])::(gn 128 [])))))⟩
abbrev zfb (β:Type):Type:=Int→Int→Int→Int→Int→Int→Int→Int→Int→List V→Int→Int→Int→Int→Int→Int→Int→Int→List V→List V→Option β
abbrev zfP (β:Type):Type:=Int→Int→Int→Int→Int→Int→Int→Int→List V→Int→Int→Int→Int→Int→Int→Int→Int→Option β
def zkN {β:Type} (zj:xX) (zi:xS) (xd:yz) (L:Nat) (p0 p1:List V) (k_hbbbaba:zfb β):Option β :=
 chk (0+64≤(List.length p1)) (
 zj β L (List.take 64 p1) (fun v0 =>
 zi β L  (fun v1 =>
 chk ((List.length v0)=64∧0+64≤64) (
 lt (zr (List.replicate 64 (V.sc (.int .u32 (0:Int)))) 0 v0) fun r2 =>
 chk ((List.length v1)=64∧0+64≤64) (
 lt (zr (List.replicate 64 (V.sc (.int .u32 (0:Int)))) 0 v1) fun r3 =>
 cI .u32 p0 0 fun v4 =>
 cI .u32 p0 1 fun v5 =>
 cI .u32 p0 2 fun v6 =>
 cI .u32 p0 3 fun v7 =>
 cI .u32 p0 4 fun v8 =>
 cI .u32 p0 5 fun v9 =>
 cI .u32 p0 6 fun v10 =>
 cI .u32 p0 7 fun v11 =>
 k_hbbbaba v4 v5 v6 v7 v8 v9 v10 v11 (0:Int) p0 (0:Int) (0:Int) (0:Int) (0:Int) (0:Int) (0:Int) (0:Int) (0:Int) r2 r3)))))
theorem ztu {β:Type} (zj:xX) (zi:xS) (xd:yz) (L:Nat) (p0 p1:List V) (k:KK β):zt zag (zaf zj zi xd L) L zbI [(V.agg p0),(V.agg p1)] [] k=zkN zj zi xd L p0 p1 (fun p7 p8 p9 p10 p11 p12 p13 p14 p15 b2 zHc zHd zHe zHf zHg zHh zHi zHj b5 b6=>xq (xf zag (zaf zj zi xd L) 0 L zbD) zdy L (zcv p7 p8 p9 p10 p11 p12 p13 p14 p15 b2 zHc zHd zHe zHf zHg zHh zHi zHj b5 b6) (yn 0 (zy (xf zag (zaf zj zi xd L) 0 L zg3) (yE 0 (CF.res zbI) k)))):=by kernel_rfl
def zbW {β:Type} (zj:xX) (zi:xS) (xd:yz) (L:Nat) (p7 p8 p9 p10 p11 p12 p13 p14 p15:Int) (b2:List V) (zHc zHd zHe zHf zHg zHh zHi zHj:Int) (b5 b6:List V) (k_hbbbaba:zfb β) (k_x0:zfP β):Option β :=
 ifb (decide (p15 < (64:Int))) (
 xd β L p11 (6:Int) (fun v12 =>
 xd β L p11 (11:Int) (fun v13 =>
 lt (zbH .u32 v12 v13) fun x14 =>
 xd β L p11 (25:Int) (fun v15 =>
 lt (zbH .u32 x14 v15) fun x16 =>
 lt (IntKind.wrap .u32 ((p14:Int)+x16)) fun x17 =>
 lt (zf0 .u32 p11 p12) fun x18 =>
 lt (zE2 .u32 p11) fun x19 =>
 lt (zf0 .u32 x19 p13) fun x20 =>
 lt (zbH .u32 x18 x20) fun x21 =>
 lt (IntKind.wrap .u32 ((x17:Int)+x21)) fun x22 =>
 chk (0≤p15∧p15 < ((64:Nat):Int)) (
 cI .u32 b6 (0+((Int.toNat p15) * 1)) fun v23 =>
 lt (IntKind.wrap .u32 ((x22:Int)+v23)) fun x24 =>
 chk (0≤p15∧p15 < ((64:Nat):Int)) (
 cI .u32 b5 (0+((Int.toNat p15) * 1)) fun v25 =>
 lt (IntKind.wrap .u32 ((x24:Int)+v25)) fun x26 =>
 xd β L p7 (2:Int) (fun v27 =>
 xd β L p7 (13:Int) (fun v28 =>
 lt (zbH .u32 v27 v28) fun x29 =>
 xd β L p7 (22:Int) (fun v30 =>
 lt (zbH .u32 x29 v30) fun x31 =>
 lt (zf0 .u32 p7 p8) fun x32 =>
 lt (zf0 .u32 p7 p9) fun x33 =>
 lt (zbH .u32 x32 x33) fun x34 =>
 lt (zf0 .u32 p8 p9) fun x35 =>
 lt (zbH .u32 x34 x35) fun x36 =>
 lt (IntKind.wrap .u32 ((x31:Int)+x36)) fun x37 =>
 lt (IntKind.wrap .u32 ((p10:Int)+x26)) fun x38 =>
 lt (IntKind.wrap .u32 ((x26:Int)+x37)) fun x39 =>
 lt (IntKind.wrap .i64 ((p15:Int)+(1:Int))) fun x40 =>
 k_hbbbaba x39 p7 p8 p9 x38 p11 p12 p13 x40 b2 zHc zHd zHe zHf zHg zHh zHi zHj b5 b6))))))))) (
 k_x0 p7 p8 p9 p10 p11 p12 p13 p14 b2 zHc zHd zHe zHf zHg zHh zHi zHj)
theorem zoY {β:Type} (zj:xX) (zi:xS) (xd:yz) (L:Nat) (p7 p8 p9 p10 p11 p12 p13 p14 p15:Int) (b2:List V) (zHc zHd zHe zHf zHg zHh zHi zHj:Int) (b5 b6:List V) (X:St→Option β) (K:KT β):xf zag (zaf zj zi xd L) 0 L zbD (zcv p7 p8 p9 p10 p11 p12 p13 p14 p15 b2 zHc zHd zHe zHf zHg zHh zHi zHj b5 b6) (yN zdy X K)=zbW zj zi xd L p7 p8 p9 p10 p11 p12 p13 p14 p15 b2 zHc zHd zHe zHf zHg zHh zHi zHj b5 b6 (fun p7 p8 p9 p10 p11 p12 p13 p14 p15 b2 zHc zHd zHe zHf zHg zHh zHi zHj b5 b6=>X (zcv p7 p8 p9 p10 p11 p12 p13 p14 p15 b2 zHc zHd zHe zHf zHg zHh zHi zHj b5 b6)) (fun p7 p8 p9 p10 p11 p12 p13 p14 b2 zHc zHd zHe zHf zHg zHh zHi zHj=>K (.exit 0) (zhc p7 p8 p9 p10 p11 p12 p13 p14 b2 zHc zHd zHe zHf zHg zHh zHi zHj)):=by kernel_rfl
def zcF {β:Type} (zj:xX) (zi:xS) (xd:yz) (L:Nat) (p7 p8 p9 p10 p11 p12 p13 p14:Int) (b2:List V) (zHc zHd zHe zHf zHg zHh zHi zHj:Int) (k_fin:List V→Option β):Option β :=
 cI .u32 b2 0 fun v41 =>
 lt (IntKind.wrap .u32 ((v41:Int)+p7)) fun x42 =>
 cI .u32 b2 1 fun v43 =>
 lt (IntKind.wrap .u32 ((v43:Int)+p8)) fun x44 =>
 cI .u32 b2 2 fun v45 =>
 lt (IntKind.wrap .u32 ((v45:Int)+p9)) fun x46 =>
 cI .u32 b2 3 fun v47 =>
 lt (IntKind.wrap .u32 ((v47:Int)+p10)) fun x48 =>
 cI .u32 b2 4 fun v49 =>
 lt (IntKind.wrap .u32 ((v49:Int)+p11)) fun x50 =>
 cI .u32 b2 5 fun v51 =>
 lt (IntKind.wrap .u32 ((v51:Int)+p12)) fun x52 =>
 cI .u32 b2 6 fun v53 =>
 lt (IntKind.wrap .u32 ((v53:Int)+p13)) fun x54 =>
 cI .u32 b2 7 fun v55 =>
 lt (IntKind.wrap .u32 ((v55:Int)+p14)) fun x56 =>
 lt [(V.sc (.int .u32 x42)),(V.sc (.int .u32 x44)),(V.sc (.int .u32 x46)),(V.sc (.int .u32 x48)),(V.sc (.int .u32 x50)),(V.sc (.int .u32 x52)),(V.sc (.int .u32 x54)),(V.sc (.int .u32 x56))] fun r57 =>
 chk (0=0∧(List.length r57)=8∧8≠0) (
 k_fin r57)
theorem znM {β:Type} (zj:xX) (zi:xS) (xd:yz) (L:Nat) (p7 p8 p9 p10 p11 p12 p13 p14:Int) (b2:List V) (zHc zHd zHe zHf zHg zHh zHi zHj:Int) (k:KK β):(yn 0 (zy (xf zag (zaf zj zi xd L) 0 L zg3) (yE 0 (CF.res zbI) k))) (.exit 0) (zhc p7 p8 p9 p10 p11 p12 p13 p14 b2 zHc zHd zHe zHf zHg zHh zHi zHj)=zcF zj zi xd L p7 p8 p9 p10 p11 p12 p13 p14 b2 zHc zHd zHe zHf zHg zHh zHi zHj (fun p0=>k (V.agg p0) []):=by kernel_rfl
def zba {β:Type} (zj:xX) (zi:xS) (xd:yz) (L:Nat) (k_x0:zfP β):Nat→Int→Int→Int→Int→Int→Int→Int→Int→Int→List V→Int→Int→Int→Int→Int→Int→Int→Int→List V→List V→Option β
 | 0,_,_,_,_,_,_,_,_,_,_,_,_,_,_,_,_,_,_,_,_=>none
 | n+1,p7,p8,p9,p10,p11,p12,p13,p14,p15,b2,zHc,zHd,zHe,zHf,zHg,zHh,zHi,zHj,b5,b6=>zbW zj zi xd L p7 p8 p9 p10 p11 p12 p13 p14 p15 b2 zHc zHd zHe zHf zHg zHh zHi zHj b5 b6 (fun p7 p8 p9 p10 p11 p12 p13 p14 p15 b2 zHc zHd zHe zHf zHg zHh zHi zHj b5 b6=>zba zj zi xd L k_x0 n p7 p8 p9 p10 p11 p12 p13 p14 p15 b2 zHc zHd zHe zHf zHg zHh zHi zHj b5 b6) k_x0
theorem zh5 {β:Type} (zj:xX) (zi:xS) (xd:yz) (L:Nat) (K:KT β):∀ (n:Nat) (p7 p8 p9 p10 p11 p12 p13 p14 p15:Int) (b2:List V) (zHc zHd zHe zHf zHg zHh zHi zHj:Int) (b5 b6:List V),xq (xf zag (zaf zj zi xd L) 0 L zbD) zdy n (zcv p7 p8 p9 p10 p11 p12 p13 p14 p15 b2 zHc zHd zHe zHf zHg zHh zHi zHj b5 b6) K=zba zj zi xd L (fun p7 p8 p9 p10 p11 p12 p13 p14 b2 zHc zHd zHe zHf zHg zHh zHi zHj=>K (.exit 0) (zhc p7 p8 p9 p10 p11 p12 p13 p14 b2 zHc zHd zHe zHf zHg zHh zHi zHj)) n p7 p8 p9 p10 p11 p12 p13 p14 p15 b2 zHc zHd zHe zHf zHg zHh zHi zHj b5 b6:=by
 intro n
 induction n with
 | zero=>intros; rfl
 | succ n ih =>
  intro p7 p8 p9 p10 p11 p12 p13 p14 p15 b2 zHc zHd zHe zHf zHg zHh zHi zHj b5 b6
  refine (zoY zj zi xd L p7 p8 p9 p10 p11 p12 p13 p14 p15 b2 zHc zHd zHe zHf zHg zHh zHi zHj b5 b6 (fun σ=>xq (xf zag (zaf zj zi xd L) 0 L zbD) zdy n σ K) K).trans ?_
  simp only [ih]
  rfl
def zgU {β:Type} (zj:xX) (zi:xS) (xd:yz) (L:Nat) (p0 p1:List V) (k_fin:List V→Option β):Option β :=
 zkN zj zi xd L p0 p1 (fun p7 p8 p9 p10 p11 p12 p13 p14 p15 b2 zHc zHd zHe zHf zHg zHh zHi zHj b5 b6=>zba zj zi xd L (fun p7 p8 p9 p10 p11 p12 p13 p14 b2 zHc zHd zHe zHf zHg zHh zHi zHj=>zcF zj zi xd L p7 p8 p9 p10 p11 p12 p13 p14 b2 zHc zHd zHe zHf zHg zHh zHi zHj k_fin) L p7 p8 p9 p10 p11 p12 p13 p14 p15 b2 zHc zHd zHe zHf zHg zHh zHi zHj b5 b6)
theorem ztM {β:Type} (zj:xX) (zi:xS) (xd:yz) (L:Nat) (p0 p1:List V) (k:KK β):zt zag (zaf zj zi xd L) L zbI [(V.agg p0),(V.agg p1)] [] k=zgU zj zi xd L p0 p1 (fun p0=>k (V.agg p0) []):=by
 refine (ztu zj zi xd L p0 p1 k).trans ?_
 unfold zgU
 first
  | (simp only [zh5,znM]; done)
  | (simp only [zh5]; rfl)
abbrev yF:=∀ (β:Type),Nat→List V→List V→(List V→Option β)→Option β
def xe (β:Type) (L:Nat) (p0 p1:List V) (k_fin:List V→Option β):Option β:=zgU zj zi xd L p0 p1 k_fin
def zgO (xe:yF) (L:Nat) (β:Type) (args:List V) (bor:Bor) (k:KK β):Option β:=match args,bor with
 | [a0,a1],[]=>aG a0 fun p0=>aG a1 fun p1=>xe β L p0 p1 (fun p0=>k (V.agg p0) [])
 | _,_=>none
theorem ztG (L:Nat) (β:Type) (args:List V) (bor:Bor) (k:KK β) (r:β) (h:zgO xe L β args bor k=some r):zt zag (zaf zj zi xd L) L zbI args bor k=some r:=by
 unfold zgO at h
 split at h
 ·have q:=zaj h; clear h; obtain ⟨p0,rfl,h⟩:=q
  have q:=zaj h; clear h; obtain ⟨p1,rfl,h⟩:=q
  exact (ztM zj zi xd L p0 p1 k).trans h
 ·cases h
def zcy:CC:=(.seq (.reg [oo 35 (.bin .lss (tq 34) (.const (.sc (.int .i64 8))))])
 (.seq (.cond (tq 35)
 .skip
 (.seq (.mask (bl 132 66) (bl 73786976294838205615 66))
 (.exit 2)))
 (.seq (.block 3 (.seq (.reg [oo 36 (.move (tq 34) false),
   oo 37 (.indexA false 8 1 (tq 33) (tq 34)),
   oo 8 (.move (tq 36) false),
   oo 9 (.move (tq 37) false)])
 (.reg [oo 38 (.move (tq 8) false),
   oo 39 (.bin .mul (.const (.sc (.int .i64 4))) (tq 38)),
   oo 40 (.move (tq 8) false),
   oo 41 (.bin .mul (.const (.sc (.int .i64 4))) (tq 40)),
   oo 42 (.bin .add (tq 41) (.const (.sc (.int .i64 1)))),
   oo 43 (.move (tq 8) false),
   oo 44 (.bin .mul (.const (.sc (.int .i64 4))) (tq 43)),
   oo 45 (.bin .add (tq 44) (.const (.sc (.int .i64 2)))),
   oo 46 (.move (tq 8) false),
   oo 47 (.bin .mul (.const (.sc (.int .i64 4))) (tq 46)),
   oo 48 (.bin .add (tq 47) (.const (.sc (.int .i64 3)))),
   oo 49 (.move (tq 9) false),
   oo 50 (.bin .shr (tq 49) (.const (.sc (.int .u64 24)))),
   oo 51 (.conv .u8 (tq 50)),
   oo 52 (.move (tq 9) false),
   oo 53 (.bin .shr (tq 52) (.const (.sc (.int .u64 16)))),
   oo 54 (.conv .u8 (tq 53)),
   oo 55 (.move (tq 9) false),
   oo 56 (.bin .shr (tq 55) (.const (.sc (.int .u64 8)))),
   oo 57 (.conv .u8 (tq 56)),
   oo 58 (.move (tq 9) false),
   oo 59 (.conv .u8 (tq 58)),
   oo 60 (.indexAddrA 32 1 (tq 7) (tq 39)),
   oz (.store 1 (tq 60) (tq 51)),
   oo 61 (.indexAddrA 32 1 (tq 7) (tq 42)),
   oz (.store 1 (tq 61) (tq 54)),
   oo 62 (.indexAddrA 32 1 (tq 7) (tq 45)),
   oz (.store 1 (tq 62) (tq 57)),
   oo 63 (.indexAddrA 32 1 (tq 7) (tq 48)),
   oz (.store 1 (tq 63) (tq 59))])))
 (.reg [oo 64 (.bin .add (tq 34) (.const (.sc (.int .i64 1)))),
   oo 34 (.move (tq 64) false)]))))
def zdC:CC:=(.seq (.seq (.reg [oo 18 (.move (tq 5) false),
   oo 19 (.bin .add (tq 18) (.const (.sc (.int .i64 64)))),
   oo 20 (.move (tq 3) false),
   oo 21 (.lenS (tq 20)),
   oo 22 (.bin .leq (tq 19) (tq 21))])
 (.cond (tq 22)
 .skip
 (.seq (.mask (bl 20 66) (bl 73786976290004270879 66))
 (.exit 0))))
 (.seq (.block 1 (.seq (.reg [oo 6 (.alloc true (rp 64 (.sc (.int .u8 0)) []))])
 (.seq (.dreg [] [(oo 25 (.sliceA 64 1 (tq 6) none none none),q0),
   (oo 26 (.move (tq 3) false),q0),
   (oo 27 (.move (tq 5) false),q0),
   (oo 28 (.sliceS 1 (tq 26) (some (tq 27)) none none),q0),
   (oo 29 (.copy 1 (tq 25) (tq 28)),q0)])
 (.reg [oo 30 (.load true 8 (tq 4) false),
   oo 31 (.load true 64 (tq 6) false),
   oo 32 (.call 533 [((tq 30),0),((tq 31),0)] []),
   oz (.store 8 (tq 4) (tq 32))]))))
 (.reg [oo 23 (.move (tq 5) false),
   oo 24 (.bin .add (tq 23) (.const (.sc (.int .i64 64)))),
   oo 5 (.move (tq 24) false)])))
def zjF:CC:=(.seq (.reg [oo 65 (.load true 32 (tq 7) false),
   oz (.store 32 (tq 2) (tq 65))])
 .ret)
def zh0:CC:=(.seq (.reg [oo 7 (.alloc true (rp 32 (.sc (.int .u8 0)) []))])
 (.seq (.seq (.reg [oo 33 (.load true 8 (tq 4) false),
   oo 34 (.move (.const (.sc (.int .i64 0))) false)])
 (.block 2 (.loop (bl 25769803908 66) (bl 73786976294838205615 66)
 zcy)))
 zjF))
def zb0:CF:=⟨66,[.cell 2 true 32],
 (.seq (.reg [oo 2 (.alloc true (rp 32 (.sc (.int .u8 0)) []))])
 (.seq (.reg [oo 10 (.move (tq 0) false),
   oo 11 (.append 1 1 (.const (.gs 1 [])) (tq 10)),
   oo 12 (.move (tq 0) false),
   oo 13 (.lenS (tq 12)),
   oo 14 (.conv .u64 (tq 13)),
   oo 15 (.call 531 [((tq 14),0)] []),
   oo 16 (.append 1 1 (tq 11) (tq 15)),
   oo 3 (.move (tq 16) true)])
 (.seq (.reg [oo 17 (.call 532 [] []),
   oo 4 (.alloc true [(.sc (.int .u32 0)),(.sc (.int .u32 0)),(.sc (.int .u32 0)),(.sc (.int .u32 0)),(.sc (.int .u32 0)),(.sc (.int .u32 0)),(.sc (.int .u32 0)),(.sc (.int .u32 0))]),
   oz (.store 8 (tq 4) (tq 17))])
 (.seq (.seq (.reg [oo 5 (.move (.const (.sc (.int .i64 0))) false)])
 (.block 0 (.loop (bl 60 66) (bl 73786976290004270911 66)
 zdC)))
 zh0))))⟩
def zrH:Hint:=⟨[(1,7)],[],[none,some ((bl 60 66),(bl 73786976290004270911 66)),none,some ((bl 20 66),(bl 73786976290004270879 66)),none,none,some ((bl 25769803908 66),(bl 73786976294838205615 66)),none,some ((bl 132 66),(bl 73786976294838205615 66)),none,none],[],[],false,false⟩
def yW:Nat→Sh:=xQ [(37,(.int .u32))]
def xT (xh:xR) (zf:zI) (xe:yF) (L:Nat):CBC:=(xy 533 (zgO xe L) (xy 532 (zhZ zf L) (xy 531 (znc xh L) noC)))
def zge:St→St:=zS 0 (bl 60 66) (bl 73786976290004270911 66)
def zeY:St→St:=zS 0 (bl 25769803908 66) (bl 73786976294838205615 66)
def zes (p3:List (List V)) (p5:Int) (b2 b4:List V):St:=⟨(jn 2 ((V.ptr 2 0)::((V.gs 1 p3)::((V.ptr 4 0)::((V.sc (.int .i64 p5))::(jn 60 [])))))),(gn 2 ((.live true b2)::(gn 1 ((.live true b4)::(gn 61 [])))))⟩
def zie (b2 b4:List V):St:=⟨(jn 2 ((V.ptr 2 0)::(jn 1 ((V.ptr 4 0)::(jn 61 []))))),(gn 2 ((.live true b2)::(gn 1 ((.live true b4)::(gn 61 [])))))⟩
def zdz (p33:List V) (p34:Int) (b2 b7:List V):St:=⟨(jn 2 ((V.ptr 2 0)::(jn 4 ((V.ptr 7 0)::(jn 25 ((V.agg p33)::((V.sc (.int .i64 p34))::(jn 31 [])))))))),(gn 2 ((.live true b2)::(gn 4 ((.live true b7)::(gn 58 [])))))⟩
def zmq (b2 b7:List V):St:=⟨(jn 2 ((V.ptr 2 0)::(jn 4 ((V.ptr 7 0)::(jn 58 []))))),(gn 2 ((.live true b2)::(gn 4 ((.live true b7)::(gn 58 [])))))⟩
def zqT {β:Type} (xh:xR) (zf:zI) (xe:yF) (L:Nat) (p0:List (List V)) (k_hbbbaba:List (List V)→Int→List V→List V→Option β):Option β :=
 chk ((List.length ([]:List (List V))+List.length p0) * 1≤yl∧List.length ([]:List (List V))+List.length p0≤yl) (
 lt (([]:List (List V))++p0) fun l0 =>
 lt (IntKind.wrap .u64 ((List.length p0:Nat):Int)) fun x1 =>
 xh β L x1 (fun v2 =>
 chk ((List.length l0+List.length v2) * 1≤yl∧List.length l0+List.length v2≤yl) (
 lt (l0++v2) fun l3 =>
 zf β L  (fun v4 =>
 chk ((List.length v4)=8∧0+8≤8) (
 lt (zr [(V.sc (.int .u32 (0:Int))),(V.sc (.int .u32 (0:Int))),(V.sc (.int .u32 (0:Int))),(V.sc (.int .u32 (0:Int))),(V.sc (.int .u32 (0:Int))),(V.sc (.int .u32 (0:Int))),(V.sc (.int .u32 (0:Int))),(V.sc (.int .u32 (0:Int)))] 0 v4) fun r5 =>
 k_hbbbaba l3 (0:Int) (List.replicate 32 (V.sc (.int .u8 (0:Int)))) r5)))))
theorem zyj {β:Type} (xh:xR) (zf:zI) (xe:yF) (L:Nat) (p0:List (List V)) (k:KK β):zt yW (xT xh zf xe L) L zb0 [(V.sl 1 p0)] [] k=zqT xh zf xe L p0 (fun p3 p5 b2 b4=>xq (xf yW (xT xh zf xe L) 0 L zdC) zge L (zes p3 p5 b2 b4) (yn 0 (zy (xf yW (xT xh zf xe L) 0 L zh0) (yE 0 (CF.res zb0) k)))):=by kernel_rfl
def zeb {β:Type} (xh:xR) (zf:zI) (xe:yF) (L:Nat) (p3:List (List V)) (p5:Int) (b2 b4:List V) (k_hbbbaba:List (List V)→Int→List V→List V→Option β) (k_x0:List V→List V→Option β):Option β :=
 lt (IntKind.wrap .i64 ((p5:Int)+(64:Int))) fun x6 =>
 ifb (decide (x6≤((List.length p3:Nat):Int))) (
 chk (0≤p5∧p5≤(((List.length p3):Nat):Int)) (
 lt (zr (List.replicate 64 (V.sc (.int .u8 (0:Int)))) 0 (List.flatten (List.take (min (List.length (List.take ((List.length p3) - (Int.toNat p5)) (List.drop (Int.toNat p5) p3))) 64) (List.take ((List.length p3) - (Int.toNat p5)) (List.drop (Int.toNat p5) p3))))) fun r7 =>
 chk (0+8≤(List.length b4)) (
 chk (0+64≤(List.length r7)) (
 xe β L (List.take 8 b4) (List.take 64 r7) (fun v8 =>
 chk ((List.length v8)=8∧0+8≤(List.length b4)) (
 lt (zr b4 0 v8) fun r9 =>
 lt (IntKind.wrap .i64 ((p5:Int)+(64:Int))) fun x10 =>
 k_hbbbaba p3 x10 b2 r9)))))) (
 k_x0 b2 b4)
theorem zsV {β:Type} (xh:xR) (zf:zI) (xe:yF) (L:Nat) (p3:List (List V)) (p5:Int) (b2 b4:List V) (X:St→Option β) (K:KT β):xf yW (xT xh zf xe L) 0 L zdC (zes p3 p5 b2 b4) (yN zge X K)=zeb xh zf xe L p3 p5 b2 b4 (fun p3 p5 b2 b4=>X (zes p3 p5 b2 b4)) (fun b2 b4=>K (.exit 0) (zie b2 b4)):=by kernel_rfl
def zhF {β:Type} (xh:xR) (zf:zI) (xe:yF) (L:Nat) (b2 b4:List V) (k_hbbbbbaba:List V→Int→List V→List V→Option β):Option β :=
 chk (0+8≤(List.length b4)) (
 k_hbbbbbaba (List.take 8 b4) (0:Int) b2 (List.replicate 32 (V.sc (.int .u8 (0:Int)))))
theorem zq9 {β:Type} (xh:xR) (zf:zI) (xe:yF) (L:Nat) (b2 b4:List V) (k:KK β):(yn 0 (zy (xf yW (xT xh zf xe L) 0 L zh0) (yE 0 (CF.res zb0) k))) (.exit 0) (zie b2 b4)=zhF xh zf xe L b2 b4 (fun p33 p34 b2 b7=>xq (xf yW (xT xh zf xe L) 0 L zcy) zeY L (zdz p33 p34 b2 b7) (yn 2 (zy (xf yW (xT xh zf xe L) 0 L zjF) (yE 0 (CF.res zb0) k)))):=by kernel_rfl
def zc5 {β:Type} (xh:xR) (zf:zI) (xe:yF) (L:Nat) (p33:List V) (p34:Int) (b2 b7:List V) (k_hbbbbbaba:List V→Int→List V→List V→Option β) (k_x2:List V→List V→Option β):Option β :=
 ifb (decide (p34 < (8:Int))) (
 chk (0≤p34∧p34 < ((8:Nat):Int)) (
 cI .u32 p33 ((Int.toNat p34) * 1) fun v11 =>
 lt (IntKind.wrap .i64 (((4:Int):Int) * p34)) fun x12 =>
 lt (IntKind.wrap .i64 (((4:Int):Int) * p34)) fun x13 =>
 lt (IntKind.wrap .i64 ((x13:Int)+(1:Int))) fun x14 =>
 lt (IntKind.wrap .i64 (((4:Int):Int) * p34)) fun x15 =>
 lt (IntKind.wrap .i64 ((x15:Int)+(2:Int))) fun x16 =>
 lt (IntKind.wrap .i64 (((4:Int):Int) * p34)) fun x17 =>
 lt (IntKind.wrap .i64 ((x17:Int)+(3:Int))) fun x18 =>
 lt (zcZ .u32 v11 (24:Int)) fun x19 =>
 lt (IntKind.wrap .u8 x19) fun x20 =>
 lt (zcZ .u32 v11 (16:Int)) fun x21 =>
 lt (IntKind.wrap .u8 x21) fun x22 =>
 lt (zcZ .u32 v11 (8:Int)) fun x23 =>
 lt (IntKind.wrap .u8 x23) fun x24 =>
 lt (IntKind.wrap .u8 v11) fun x25 =>
 chk (0≤x12∧x12 < ((32:Nat):Int)) (
 chk (1=1∧(0+((Int.toNat x12) * 1))+1≤(List.length b7)) (
 lt (zr b7 (0+((Int.toNat x12) * 1)) [(V.sc (.int .u8 x20))]) fun r26 =>
 chk (0≤x14∧x14 < ((32:Nat):Int)) (
 chk (1=1∧(0+((Int.toNat x14) * 1))+1≤(List.length r26)) (
 lt (zr r26 (0+((Int.toNat x14) * 1)) [(V.sc (.int .u8 x22))]) fun r27 =>
 chk (0≤x16∧x16 < ((32:Nat):Int)) (
 chk (1=1∧(0+((Int.toNat x16) * 1))+1≤(List.length r27)) (
 lt (zr r27 (0+((Int.toNat x16) * 1)) [(V.sc (.int .u8 x24))]) fun r28 =>
 chk (0≤x18∧x18 < ((32:Nat):Int)) (
 chk (1=1∧(0+((Int.toNat x18) * 1))+1≤(List.length r28)) (
 lt (zr r28 (0+((Int.toNat x18) * 1)) [(V.sc (.int .u8 x25))]) fun r29 =>
 lt (IntKind.wrap .i64 ((p34:Int)+(1:Int))) fun x30 =>
 k_hbbbbbaba p33 x30 b2 r29)))))))))) (
 k_x2 b2 b7)
theorem zrj {β:Type} (xh:xR) (zf:zI) (xe:yF) (L:Nat) (p33:List V) (p34:Int) (b2 b7:List V) (X:St→Option β) (K:KT β):xf yW (xT xh zf xe L) 0 L zcy (zdz p33 p34 b2 b7) (yN zeY X K)=zc5 xh zf xe L p33 p34 b2 b7 (fun p33 p34 b2 b7=>X (zdz p33 p34 b2 b7)) (fun b2 b7=>K (.exit 2) (zmq b2 b7)):=by kernel_rfl
def zgw {β:Type} (xh:xR) (zf:zI) (xe:yF) (L:Nat) (b2 b7:List V) (k_fin:List V→Option β):Option β :=
 chk (0+32≤(List.length b7)) (
 chk ((List.length (List.take 32 b7))=32∧0+32≤(List.length b2)) (
 lt (zr b2 0 (List.take 32 b7)) fun r31 =>
 chk (0=0∧(List.length r31)=32∧32≠0) (
 k_fin r31)))
theorem zpu {β:Type} (xh:xR) (zf:zI) (xe:yF) (L:Nat) (b2 b7:List V) (k:KK β):(yn 2 (zy (xf yW (xT xh zf xe L) 0 L zjF) (yE 0 (CF.res zb0) k))) (.exit 2) (zmq b2 b7)=zgw xh zf xe L b2 b7 (fun p0=>k (V.agg p0) []):=by kernel_rfl
def zcN {β:Type} (xh:xR) (zf:zI) (xe:yF) (L:Nat) (k_x0:List V→List V→Option β):Nat→List (List V)→Int→List V→List V→Option β
 | 0,_,_,_,_=>none
 | n+1,p3,p5,b2,b4=>zeb xh zf xe L p3 p5 b2 b4 (fun p3 p5 b2 b4=>zcN xh zf xe L k_x0 n p3 p5 b2 b4) k_x0
theorem zlm {β:Type} (xh:xR) (zf:zI) (xe:yF) (L:Nat) (K:KT β):∀ (n:Nat) (p3:List (List V)) (p5:Int) (b2 b4:List V),xq (xf yW (xT xh zf xe L) 0 L zdC) zge n (zes p3 p5 b2 b4) K=zcN xh zf xe L (fun b2 b4=>K (.exit 0) (zie b2 b4)) n p3 p5 b2 b4:=by
 intro n
 induction n with
 | zero=>intros; rfl
 | succ n ih =>
  intro p3 p5 b2 b4
  refine (zsV xh zf xe L p3 p5 b2 b4 (fun σ=>xq (xf yW (xT xh zf xe L) 0 L zdC) zge n σ K) K).trans ?_
  simp only [ih]
  rfl
def zbV {β:Type} (xh:xR) (zf:zI) (xe:yF) (L:Nat) (k_x2:List V→List V→Option β):Nat→List V→Int→List V→List V→Option β
 | 0,_,_,_,_=>none
 | n+1,p33,p34,b2,b7=>zc5 xh zf xe L p33 p34 b2 b7 (fun p33 p34 b2 b7=>zbV xh zf xe L k_x2 n p33 p34 b2 b7) k_x2
theorem zj3 {β:Type} (xh:xR) (zf:zI) (xe:yF) (L:Nat) (K:KT β):∀ (n:Nat) (p33:List V) (p34:Int) (b2 b7:List V),xq (xf yW (xT xh zf xe L) 0 L zcy) zeY n (zdz p33 p34 b2 b7) K=zbV xh zf xe L (fun b2 b7=>K (.exit 2) (zmq b2 b7)) n p33 p34 b2 b7:=by
 intro n
 induction n with
 | zero=>intros; rfl
 | succ n ih =>
  intro p33 p34 b2 b7
  refine (zrj xh zf xe L p33 p34 b2 b7 (fun σ=>xq (xf yW (xT xh zf xe L) 0 L zcy) zeY n σ K) K).trans ?_
  simp only [ih]
  rfl
def zeu {β:Type} (xh:xR) (zf:zI) (xe:yF) (L:Nat) (b2 b4:List V) (k_fin:List V→Option β):Option β :=
 zhF xh zf xe L b2 b4 (fun p33 p34 b2 b7=>zbV xh zf xe L (fun b2 b7=>zgw xh zf xe L b2 b7 k_fin) L p33 p34 b2 b7)
theorem zpW {β:Type} (xh:xR) (zf:zI) (xe:yF) (L:Nat) (b2 b4:List V) (k:KK β):(yn 0 (zy (xf yW (xT xh zf xe L) 0 L zh0) (yE 0 (CF.res zb0) k))) (.exit 0) (zie b2 b4)=zeu xh zf xe L b2 b4 (fun p0=>k (V.agg p0) []):=by
 refine (zq9 xh zf xe L b2 b4 k).trans ?_
 unfold zeu
 first
  | (simp only [zj3,zpu]; done)
  | (simp only [zj3]; rfl)
def znl {β:Type} (xh:xR) (zf:zI) (xe:yF) (L:Nat) (p0:List (List V)) (k_fin:List V→Option β):Option β :=
 zqT xh zf xe L p0 (fun p3 p5 b2 b4=>zcN xh zf xe L (fun b2 b4=>zeu xh zf xe L b2 b4 k_fin) L p3 p5 b2 b4)
theorem zyr {β:Type} (xh:xR) (zf:zI) (xe:yF) (L:Nat) (p0:List (List V)) (k:KK β):zt yW (xT xh zf xe L) L zb0 [(V.sl 1 p0)] [] k=znl xh zf xe L p0 (fun p0=>k (V.agg p0) []):=by
 refine (zyj xh zf xe L p0 k).trans ?_
 unfold znl
 first
  | (simp only [zlm,zpW]; done)
  | (simp only [zlm]; rfl)
abbrev znh:=∀ (β:Type),Nat→List (List V)→(List V→Option β)→Option β
def zT (β:Type) (L:Nat) (p0:List (List V)) (k_fin:List V→Option β):Option β:=znl xh zf xe L p0 k_fin
def znk (zT:znh) (L:Nat) (β:Type) (args:List V) (bor:Bor) (k:KK β):Option β:=match args,bor with
 | [a0],[]=>aL 1 a0 fun p0=>zT β L p0 (fun p0=>k (V.agg p0) [])
 | _,_=>none
theorem zx4 (L:Nat) (β:Type) (args:List V) (bor:Bor) (k:KK β) (r:β) (h:znk zT L β args bor k=some r):zt yW (xT xh zf xe L) L zb0 args bor k=some r:=by
 unfold znk at h
 split at h
 ·have q:=za2 h; clear h; obtain ⟨p0,rfl,h⟩:=q
  exact (zyr xh zf xe L p0 k).trans h
 ·cases h
def zik:CF:=⟨8,[.cell 2 true 32],
 (.seq (.reg [oo 2 (.alloc true (rp 32 (.sc (.int .u8 0)) []))])
 (.seq (.reg [oo 4 (.move (tq 0) false),
   oo 5 (.call 494 [((tq 4),0)] []),
   oo 3 (.alloc true (rp 32 (.sc (.int .u8 0)) [])),
   oz (.store 32 (tq 3) (tq 5))])
 (.seq (.reg [oo 6 (.sliceA 32 1 (tq 3) none none none),
   oo 7 (.call 494 [((tq 6),0)] []),
   oz (.store 32 (tq 2) (tq 7))])
 .ret)))⟩
def zou:Hint:=⟨[],[],[none],[],[],false,false⟩
def zmf:Nat→Sh:=xQ []
def zlJ (zT:znh) (L:Nat):CBC:=(xy 494 (znk zT L) noC)
def zmW {β:Type} (zT:znh) (L:Nat) (p0:List (List V)) (k_fin:List V→Option β):Option β :=
 zT β L p0 (fun v0 =>
 chk ((List.length v0)=32∧0+32≤32) (
 lt (zr (List.replicate 32 (V.sc (.int .u8 (0:Int)))) 0 v0) fun r1 =>
 chk (0+32 * 1≤(List.length r1)) (
 ifb (List.isEmpty r1) (
 zT β L (yp 1 32 r1) (fun v2 =>
 chk ((List.length v2)=32∧0+32≤32) (
 lt (zr (List.replicate 32 (V.sc (.int .u8 (0:Int)))) 0 v2) fun r3 =>
 chk (0=0∧(List.length r3)=32∧32≠0) (
 k_fin r3)))) (
 zT β L (yp 1 32 r1) (fun v4 =>
 chk ((List.length v4)=32∧0+32≤32) (
 lt (zr (List.replicate 32 (V.sc (.int .u8 (0:Int)))) 0 v4) fun r5 =>
 chk (0=0∧(List.length r5)=32∧32≠0) (
 k_fin r5)))))))
theorem zvl {β:Type} (zT:znh) (L:Nat) (p0:List (List V)) (k:KK β):zt zmf (zlJ zT L) L zik [(V.sl 1 p0)] [] k=zmW zT L p0 (fun p0=>k (V.agg p0) []):=by kernel_rfl
abbrev zdc:=∀ (β:Type),Nat→List (List V)→(List V→Option β)→Option β
def xx (β:Type) (L:Nat) (p0:List (List V)) (k_fin:List V→Option β):Option β:=zmW zT L p0 k_fin
def zgy (xx:zdc) (L:Nat) (β:Type) (args:List V) (bor:Bor) (k:KK β):Option β:=match args,bor with
 | [a0],[]=>aL 1 a0 fun p0=>xx β L p0 (fun p0=>k (V.agg p0) [])
 | _,_=>none
theorem zvD (L:Nat) (β:Type) (args:List V) (bor:Bor) (k:KK β) (r:β) (h:zgy xx L β args bor k=some r):zt zmf (zlJ zT L) L zik args bor k=some r:=by
 unfold zgy at h
 split at h
 ·have q:=za2 h; clear h; obtain ⟨p0,rfl,h⟩:=q
  exact (zvl zT L p0 k).trans h
 ·cases h
def zne:CF:=⟨10,[.cell 2 true 32],
 (.seq (.reg [oo 1 (.box true (tq 0)),
   oo 2 (.alloc true (rp 32 (.sc (.int .u8 0)) []))])
 (.seq (.seq (.reg [oo 3 (.load true 4 (tq 1) false),
   oo 4 (.call 148 [((tq 3),1)] []),
   oo 5 (.un .not (tq 4))])
 (.cond (tq 5)
 (.seq (.reg [oo 6 (.build (rp 32 (.sc (.int .u8 0)) []) []),
   oz (.store 32 (tq 2) (tq 6))])
 .ret)
 .skip))
 (.seq (.reg [oo 7 (.load true 4 (tq 1) false),
   oo 8 (.call 149 [((tq 7),1),((.const (.sc (.bool false))),0)] []),
   oo 9 (.call 454 [((tq 8),0)] []),
   oz (.store 32 (tq 2) (tq 9))])
 .ret)))⟩
def ztr:Hint:=⟨[(0,0)],[],[none,none,none],[],[],false,false⟩
def zq1:Nat→Sh:=xQ []
def zrn (yu:zb2) (yc:xo) (xx:zdc) (L:Nat):CBC:=(xy 454 (zgy xx L) (xy 149 (zdg yc L) (xy 148 (zgv yu L) noC)))
def zs0 {β:Type} (yu:zb2) (yc:xo) (xx:zdc) (L:Nat) (p0:List V) (k_fin:List V→Option β):Option β :=
 chk (0+4≤(List.length p0)) (
 yu β L (List.map V.dem (List.take 4 p0)) (fun v0 =>
 ifb (!v0) (
 lt (List.replicate 32 (V.sc (.int .u8 (0:Int)))) fun r1 =>
 chk (0=0∧(List.length r1)=32∧32≠0) (
 k_fin r1)) (
 chk (0+4≤(List.length p0)) (
 yc β L (List.map V.dem (List.take 4 p0)) false (fun v2 =>
 xx β L v2 (fun v3 =>
 chk ((List.length v3)=32∧0+32≤32) (
 lt (zr (List.replicate 32 (V.sc (.int .u8 (0:Int)))) 0 v3) fun r4 =>
 chk (0=0∧(List.length r4)=32∧32≠0) (
 k_fin r4))))))))
theorem zzN {β:Type} (yu:zb2) (yc:xo) (xx:zdc) (L:Nat) (p0:List V) (k:KK β):zt zq1 (zrn yu yc xx L) L zne [(V.agg p0)] [] k=zs0 yu yc xx L p0 (fun p0=>k (V.agg p0) []):=by kernel_rfl
abbrev zoH:=∀ (β:Type),Nat→List V→(List V→Option β)→Option β
def zar (β:Type) (L:Nat) (p0:List V) (k_fin:List V→Option β):Option β:=zs0 yu yc xx L p0 k_fin
def zoO (zar:zoH) (L:Nat) (β:Type) (args:List V) (bor:Bor) (k:KK β):Option β:=match args,bor with
 | [a0],[]=>aG a0 fun p0=>zar β L p0 (fun p0=>k (V.agg p0) [])
 | _,_=>none
theorem zzD (L:Nat) (β:Type) (args:List V) (bor:Bor) (k:KK β) (r:β) (h:zoO zar L β args bor k=some r):zt zq1 (zrn yu yc xx L) L zne args bor k=some r:=by
 unfold zoO at h
 split at h
 ·have q:=zaj h; clear h; obtain ⟨p0,rfl,h⟩:=q
  exact (zzN yu yc xx L p0 k).trans h
 ·cases h
def zoP:CF:=⟨5,[.cell 2 true 32],
 (.seq (.reg [oo 1 (.box true (tq 0)),
   oo 2 (.alloc true (rp 32 (.sc (.int .u8 0)) []))])
 (.seq (.reg [oo 3 (.load true 4 (tq 1) false),
   oo 4 (.call 583 [((tq 3),1),((.const (.sc (.bool true))),0)] []),
   oz (.store 32 (tq 2) (tq 4))])
 .ret))⟩
def zuY:Hint:=⟨[(0,0)],[],[none],[],[],false,false⟩
def zsi:Nat→Sh:=xQ []
def zsD (yH:zfW) (L:Nat):CBC:=(xy 583 (zj6 yH L) noC)
def zub {β:Type} (yH:zfW) (L:Nat) (p0:List V) (k_fin:List V→Option β):Option β :=
 chk (0+4≤(List.length p0)) (
 yH β L (List.map V.dem (List.take 4 p0)) true (fun v0 =>
 chk ((List.length v0)=32∧0+32≤32) (
 lt (zr (List.replicate 32 (V.sc (.int .u8 (0:Int)))) 0 v0) fun r1 =>
 chk (0=0∧(List.length r1)=32∧32≠0) (
 k_fin r1))))
theorem zAD {β:Type} (yH:zfW) (L:Nat) (p0:List V) (k:KK β):zt zsi (zsD yH L) L zoP [(V.agg p0)] [] k=zub yH L p0 (fun p0=>k (V.agg p0) []):=by kernel_rfl
abbrev zqw:=∀ (β:Type),Nat→List V→(List V→Option β)→Option β
def zaU (β:Type) (L:Nat) (p0:List V) (k_fin:List V→Option β):Option β:=zub yH L p0 k_fin
def zqy (zaU:zqw) (L:Nat) (β:Type) (args:List V) (bor:Bor) (k:KK β):Option β:=match args,bor with
 | [a0],[]=>aG a0 fun p0=>zaU β L p0 (fun p0=>k (V.agg p0) [])
 | _,_=>none
theorem zz3 (L:Nat) (β:Type) (args:List V) (bor:Bor) (k:KK β) (r:β) (h:zqy zaU L β args bor k=some r):zt zsi (zsD yH L) L zoP args bor k=some r:=by
 unfold zqy at h
 split at h
 ·have q:=zaj h; clear h; obtain ⟨p0,rfl,h⟩:=q
  exact (zAD yH L p0 k).trans h
 ·cases h
def zkj:CF:=⟨10,[.cell 2 true 32],
 (.seq (.reg [oo 1 (.box true (tq 0)),
   oo 2 (.alloc true (rp 32 (.sc (.int .u8 0)) []))])
 (.seq (.seq (.reg [oo 3 (.load true 4 (tq 1) false),
   oo 4 (.call 148 [((tq 3),1)] []),
   oo 5 (.un .not (tq 4))])
 (.cond (tq 5)
 (.seq (.reg [oo 6 (.build (rp 32 (.sc (.int .u8 0)) []) []),
   oz (.store 32 (tq 2) (tq 6))])
 .ret)
 .skip))
 (.seq (.reg [oo 7 (.load true 4 (tq 1) false),
   oo 8 (.call 149 [((tq 7),1),((.const (.sc (.bool true))),0)] []),
   oo 9 (.call 454 [((tq 8),0)] []),
   oz (.store 32 (tq 2) (tq 9))])
 .ret)))⟩
def zqm:Hint:=⟨[(0,0)],[],[none,none,none],[],[],false,false⟩
def zod:Nat→Sh:=xQ []
def zoe (yu:zb2) (yc:xo) (xx:zdc) (L:Nat):CBC:=(xy 454 (zgy xx L) (xy 149 (zdg yc L) (xy 148 (zgv yu L) noC)))
def zpc {β:Type} (yu:zb2) (yc:xo) (xx:zdc) (L:Nat) (p0:List V) (k_fin:List V→Option β):Option β :=
 chk (0+4≤(List.length p0)) (
 yu β L (List.map V.dem (List.take 4 p0)) (fun v0 =>
 ifb (!v0) (
 lt (List.replicate 32 (V.sc (.int .u8 (0:Int)))) fun r1 =>
 chk (0=0∧(List.length r1)=32∧32≠0) (
 k_fin r1)) (
 chk (0+4≤(List.length p0)) (
 yc β L (List.map V.dem (List.take 4 p0)) true (fun v2 =>
 xx β L v2 (fun v3 =>
 chk ((List.length v3)=32∧0+32≤32) (
 lt (zr (List.replicate 32 (V.sc (.int .u8 (0:Int)))) 0 v3) fun r4 =>
 chk (0=0∧(List.length r4)=32∧32≠0) (
 k_fin r4))))))))
theorem zxi {β:Type} (yu:zb2) (yc:xo) (xx:zdc) (L:Nat) (p0:List V) (k:KK β):zt zod (zoe yu yc xx L) L zkj [(V.agg p0)] [] k=zpc yu yc xx L p0 (fun p0=>k (V.agg p0) []):=by kernel_rfl
abbrev zmb:=∀ (β:Type),Nat→List V→(List V→Option β)→Option β
def xV (β:Type) (L:Nat) (p0:List V) (k_fin:List V→Option β):Option β:=zpc yu yc xx L p0 k_fin
def zlh (xV:zmb) (L:Nat) (β:Type) (args:List V) (bor:Bor) (k:KK β):Option β:=match args,bor with
 | [a0],[]=>aG a0 fun p0=>xV β L p0 (fun p0=>k (V.agg p0) [])
 | _,_=>none
theorem zwT (L:Nat) (β:Type) (args:List V) (bor:Bor) (k:KK β) (r:β) (h:zlh xV L β args bor k=some r):zt zod (zoe yu yc xx L) L zkj args bor k=some r:=by
 unfold zlh at h
 split at h
 ·have q:=zaj h; clear h; obtain ⟨p0,rfl,h⟩:=q
  exact (zxi yu yc xx L p0 k).trans h
 ·cases h
def zh4:CF:=⟨14,[.tmp 2],
 (.seq (.reg [oo 1 (.box true (tq 0)),
   oo 2 (.move (.const (.sc (.int .i64 0))) false)])
 (.seq (.seq (.reg [oo 3 (.load true 4 (tq 1) false),
   oo 4 (.call 148 [((tq 3),1)] []),
   oo 5 (.un .not (tq 4))])
 (.cond (tq 5)
 (.seq (.reg [oo 2 (.move (.const (.sc (.int .i64 0))) false)])
 .ret)
 .skip))
 (.seq (.dreg [] [(oo 6 (.load true 4 (tq 1) false),ql 1 [] []),
   (oo 7 (.call 149 [((tq 6),1),((.const (.sc (.bool false))),0)] []),qc [1] []),
   (oo 8 (.lenS (tq 7)),q0),
   (oo 9 (.bin .mul (.const (.sc (.int .i64 3))) (tq 8)),q0),
   (oo 10 (.load true 4 (tq 1) false),ql 1 [] []),
   (oo 11 (.call 149 [((tq 10),1),((.const (.sc (.bool true))),0)] []),q0),
   (oo 12 (.lenS (tq 11)),q0),
   (oo 13 (.bin .add (tq 9) (tq 12)),q0),
   (oo 2 (.move (tq 13) false),q0)])
 .ret)))⟩
def zox:Hint:=⟨[(0,0)],[],[none,none,none],[],[],false,false⟩
def zmr:Nat→Sh:=xQ []
def zlY (yu:zb2) (yc:xo) (L:Nat):CBC:=(xy 149 (zdg yc L) (xy 148 (zgv yu L) noC))
def zmG {β:Type} (yu:zb2) (yc:xo) (L:Nat) (p0:List V) (k_fin:Int→Option β):Option β :=
 chk (0+4≤(List.length p0)) (
 yu β L (List.map V.dem (List.take 4 p0)) (fun v0 =>
 ifb (!v0) (
 k_fin (0:Int)) (
 chk (0+4≤(List.length p0)) (
 yc β L (List.map V.dem (List.take 4 p0)) false (fun v1 =>
 lt (IntKind.wrap .i64 (((3:Int):Int) * ((List.length v1:Nat):Int))) fun x2 =>
 chk (0+4≤(List.length p0)) (
 yc β L (List.map V.dem (List.take 4 p0)) true (fun v3 =>
 lt (IntKind.wrap .i64 ((x2:Int)+((List.length v3:Nat):Int))) fun x4 =>
 k_fin x4)))))))
theorem zvw {β:Type} (yu:zb2) (yc:xo) (L:Nat) (p0:List V) (k:KK β):zt zmr (zlY yu yc L) L zh4 [(V.agg p0)] [] k=zmG yu yc L p0 (fun p0=>k (V.sc (.int .i64 p0)) []):=by kernel_rfl
abbrev zjw:=∀ (β:Type),Nat→List V→(Int→Option β)→Option β
def xP (β:Type) (L:Nat) (p0:List V) (k_fin:Int→Option β):Option β:=zmG yu yc L p0 k_fin
def zjy (xP:zjw) (L:Nat) (β:Type) (args:List V) (bor:Bor) (k:KK β):Option β:=match args,bor with
 | [a0],[]=>aG a0 fun p0=>xP β L p0 (fun p0=>k (V.sc (.int .i64 p0)) [])
 | _,_=>none
theorem zvL (L:Nat) (β:Type) (args:List V) (bor:Bor) (k:KK β) (r:β) (h:zjy xP L β args bor k=some r):zt zmr (zlY yu yc L) L zh4 args bor k=some r:=by
 unfold zjy at h
 split at h
 ·have q:=zaj h; clear h; obtain ⟨p0,rfl,h⟩:=q
  exact (zvw yu yc L p0 k).trans h
 ·cases h
def zkp:CF:=⟨6,[.tmp 2],
 (.seq (.reg [oo 1 (.box true (tq 0)),
   oo 2 (.move (.const (.sc (.bool false))) false)])
 (.seq (.reg [oo 3 (.load true 33 (tq 1) false),
   oo 4 (.build (rp 32 (.sc (.int .u8 0)) (rp 1 (.sc (.int .u32 0)) [])) [(32,1,(.const (.sc (.int .u32 4294967295))))]),
   oo 5 (.eqAgg false 33 (tq 3) (tq 4)),
   oo 2 (.move (tq 5) false)])
 .ret))⟩
def zqr:Hint:=⟨[],[],[none],[],[],false,false⟩
def zn2:Nat→Sh:=xQ []
def zn9 (L:Nat):CBC:=noC
def zpl {β:Type} (L:Nat) (p0:List V) (k_fin:Bool→Option β):Option β :=
 chk (0+33≤(List.length p0)) (
 eqC 33 (List.take 33 p0) (List.replicate 32 (V.sc (.int .u8 (0:Int)))++[(V.sc (.int .u32 (4294967295:Int)))]) fun v0 =>
 k_fin v0)
theorem zwS {β:Type} (L:Nat) (p0:List V) (k:KK β):zt zn2 (zn9 L) L zkp [(V.agg p0)] [] k=zpl L p0 (fun p0=>k (V.sc (.bool p0)) []):=by kernel_rfl
abbrev zme:=∀ (β:Type),Nat→List V→(Bool→Option β)→Option β
def yU (β:Type) (L:Nat) (p0:List V) (k_fin:Bool→Option β):Option β:=zpl L p0 k_fin
def zlV (yU:zme) (L:Nat) (β:Type) (args:List V) (bor:Bor) (k:KK β):Option β:=match args,bor with
 | [a0],[]=>aG a0 fun p0=>yU β L p0 (fun p0=>k (V.sc (.bool p0)) [])
 | _,_=>none
theorem zwV (L:Nat) (β:Type) (args:List V) (bor:Bor) (k:KK β) (r:β) (h:zlV yU L β args bor k=some r):zt zn2 (zn9 L) L zkp args bor k=some r:=by
 unfold zlV at h
 split at h
 ·have q:=zaj h; clear h; obtain ⟨p0,rfl,h⟩:=q
  exact (zwS L p0 k).trans h
 ·cases h
def zgf:CF:=⟨15,[.tmp 2],
 (.seq (.reg [oo 1 (.box true (tq 0)),
   oo 2 (.move (.const (.sc (.bool false))) false)])
 (.seq (.reg [oo 3 (.fieldAddr 1 (tq 1)),
   oo 4 (.load false 1 (tq 3) false),
   oo 5 (.lenS (tq 4)),
   oo 6 (.bin .eql (tq 5) (.const (.sc (.int .i64 1)))),
   oo 7 (.move (tq 6) false),
   ⟨(some 8),false,(some (7,true)),.fieldAddr 1 (tq 1)⟩,
   ⟨(some 9),false,(some (7,true)),.load false 1 (tq 8) false⟩,
   ⟨(some 10),false,(some (7,true)),.indexAddrS 35 (tq 9) (.const (.sc (.int .i64 0)))⟩,
   ⟨(some 11),false,(some (7,true)),.fieldAddr 0 (tq 10)⟩,
   ⟨(some 12),false,(some (7,true)),.load true 33 (tq 11) false⟩,
   ⟨(some 13),false,(some (7,true)),.call 152 [((tq 12),0)] []⟩,
   oo 14 (.pick (tq 7) (tq 13) (.const (.sc (.bool false)))),
   oo 2 (.move (tq 14) false)])
 .ret))⟩
def zmy:Hint:=⟨[(0,0)],[],[none],[],[],false,false⟩
def zjP:Nat→Sh:=xQ [(4,(.sl 35)),(9,(.sl 35))]
def zjK (yU:zme) (L:Nat):CBC:=(xy 152 (zlV yU L) noC)
def zkQ {β:Type} (yU:zme) (L:Nat) (p0:List V) (k_fin:Bool→Option β):Option β :=
 cLd 35 p0 1 fun v0 =>
 ifb ((((List.length v0:Nat):Int):Int) == (1:Int)) (
 cLd 35 p0 1 fun v1 =>
 idx v1 (0:Int) fun c2 =>
 yU β L (List.take 33 c2) (fun v3 =>
 k_fin v3)) (
 k_fin false)
theorem ztv {β:Type} (yU:zme) (L:Nat) (p0:List V) (k:KK β):zt zjP (zjK yU L) L zgf [(V.agg p0)] [] k=zkQ yU L p0 (fun p0=>k (V.sc (.bool p0)) []):=by kernel_rfl
abbrev zg1:=∀ (β:Type),Nat→List V→(Bool→Option β)→Option β
def xL (β:Type) (L:Nat) (p0:List V) (k_fin:Bool→Option β):Option β:=zkQ yU L p0 k_fin
def zg9 (xL:zg1) (L:Nat) (β:Type) (args:List V) (bor:Bor) (k:KK β):Option β:=match args,bor with
 | [a0],[]=>aG a0 fun p0=>xL β L p0 (fun p0=>k (V.sc (.bool p0)) [])
 | _,_=>none
theorem zty (L:Nat) (β:Type) (args:List V) (bor:Bor) (k:KK β) (r:β) (h:zg9 xL L β args bor k=some r):zt zjP (zjK yU L) L zgf args bor k=some r:=by
 unfold zg9 at h
 split at h
 ·have q:=zaj h; clear h; obtain ⟨p0,rfl,h⟩:=q
  exact (ztv yU L p0 k).trans h
 ·cases h
def zhn:CF:=⟨36,[.tmp 2],
 (.seq (.reg [oo 1 (.box true (tq 0)),
   oo 2 (.move (.const (.sc (.bool false))) false)])
 (.seq (.seq (.reg [oo 3 (.call 126 [] []),
   oo 4 (.un .not (tq 3))])
 (.cond (tq 4)
 (.seq (.reg [oo 2 (.move (.const (.sc (.bool false))) false)])
 .ret)
 .skip))
 (.seq (.dreg [] [(oo 5 (.load true 4 (tq 1) false),q0),
   (oo 6 (.call 127 [((tq 5),1)] []),q0),
   (oo 7 (.un .not (tq 6)),q0),
   (oo 8 (.move (tq 7) false),q0),
   (⟨(some 9),false,(some (8,false)),.load true 4 (tq 1) false⟩,ql 1 [] []),
   (⟨(some 10),false,(some (8,false)),.call 548 [((tq 9),1)] []⟩,qc [1] []),
   (⟨(some 11),false,(some (8,false)),.load true 4 (tq 1) false⟩,ql 1 [] []),
   (⟨(some 12),false,(some (8,false)),.call 517 [((tq 11),1)] []⟩,q0),
   (⟨(some 13),false,(some (8,false)),.eqAgg false 32 (tq 10) (tq 12)⟩,q0),
   (⟨(some 14),false,(some (8,false)),.move (tq 13) false⟩,q0),
   (⟨(some 15),false,(some (14,true)),.load true 4 (tq 1) false⟩,ql 1 [] []),
   (⟨(some 16),false,(some (14,true)),.call 596 [((tq 15),1)] []⟩,qc [1] []),
   (⟨(some 17),false,(some (14,true)),.load true 4 (tq 1) false⟩,ql 1 [] []),
   (⟨(some 18),false,(some (14,true)),.call 519 [((tq 17),1)] []⟩,q0),
   (⟨(some 19),false,(some (14,true)),.eqAgg false 32 (tq 16) (tq 18)⟩,q0),
   (⟨(some 20),false,(some (8,false)),.pick (tq 14) (tq 19) (.const (.sc (.bool false)))⟩,q0),
   (⟨(some 21),false,(some (8,false)),.move (tq 20) false⟩,q0),
   (⟨(some 22),false,(some (21,true)),.load true 4 (tq 1) false⟩,ql 1 [] []),
   (⟨(some 23),false,(some (21,true)),.call 144 [((tq 22),1)] []⟩,qc [1] []),
   (⟨(some 24),false,(some (21,true)),.load true 4 (tq 1) false⟩,ql 1 [] []),
   (⟨(some 25),false,(some (21,true)),.call 646 [((tq 24),1)] []⟩,q0),
   (⟨(some 26),false,(some (21,true)),.bin .eql (tq 23) (tq 25)⟩,q0),
   (⟨(some 27),false,(some (8,false)),.pick (tq 21) (tq 26) (.const (.sc (.bool false)))⟩,q0),
   (⟨(some 28),false,(some (8,false)),.move (tq 27) false⟩,q0),
   (⟨(some 29),false,(some (28,true)),.load true 4 (tq 1) false⟩,ql 1 [] []),
   (⟨(some 30),false,(some (28,true)),.call 151 [((tq 29),1)] []⟩,qc [1] []),
   (⟨(some 31),false,(some (28,true)),.load true 4 (tq 1) false⟩,ql 1 [] []),
   (⟨(some 32),false,(some (28,true)),.call 153 [((tq 31),1)] []⟩,q0),
   (⟨(some 33),false,(some (28,true)),.eqB false (tq 30) (tq 32)⟩,q0),
   (⟨(some 34),false,(some (8,false)),.pick (tq 28) (tq 33) (.const (.sc (.bool false)))⟩,q0),
   (oo 35 (.pick (tq 8) (.const (.sc (.bool true))) (tq 34)),q0),
   (oo 2 (.move (tq 35) false),q0)])
 .ret)))⟩
def znQ:Hint:=⟨[(0,0)],[],[none,none,none],[],[],false,false⟩
def zkA:Nat→Sh:=xQ []
def zkF (xN:zgq) (zY:zkZ) (zcj:zu8) (zar:zoH) (zaU:zqw) (xV:zmb) (xH:zfT) (xP:zjw) (yi:zR) (xL:zg1) (L:Nat):CBC:=(xy 153 (zg9 xL L) (xy 151 (zhs yi L) (xy 646 (zjy xP L) (xy 144 (zj4 xH L) (xy 519 (zlh xV L) (xy 596 (zqy zaU L) (xy 517 (zoO zar L) (xy 548 (zvf zcj L) (xy 127 (znE zY L) (xy 126 (ziF xN L) noC))))))))))
def zli {β:Type} (xN:zgq) (zY:zkZ) (zcj:zu8) (zar:zoH) (zaU:zqw) (xV:zmb) (xH:zfT) (xP:zjw) (yi:zR) (xL:zg1) (L:Nat) (p0:List V) (k_fin:Bool→Option β):Option β :=
 xN β L  (fun v0 =>
 ifb (!v0) (
 k_fin false) (
 chk (0+4≤(List.length p0)) (
 zY β L (List.map V.dem (List.take 4 p0)) (fun v1 =>
 ifb (!v1) (
 k_fin true) (
 chk (0+4≤(List.length p0)) (
 zcj β L (List.map V.dem (List.take 4 p0)) (fun v2 =>
 chk (0+4≤(List.length p0)) (
 zar β L (List.map V.dem (List.take 4 p0)) (fun v3 =>
 eqC 32 v2 v3 fun v4 =>
 ifb v4 (
 chk (0+4≤(List.length p0)) (
 zaU β L (List.map V.dem (List.take 4 p0)) (fun v5 =>
 chk (0+4≤(List.length p0)) (
 xV β L (List.map V.dem (List.take 4 p0)) (fun v6 =>
 eqC 32 v5 v6 fun v7 =>
 ifb v7 (
 chk (0+4≤(List.length p0)) (
 xH β L (List.map V.dem (List.take 4 p0)) (fun v8 =>
 chk (0+4≤(List.length p0)) (
 xP β L (List.map V.dem (List.take 4 p0)) (fun v9 =>
 ifb ((v8:Int) == v9) (
 chk (0+4≤(List.length p0)) (
 yi β L (List.map V.dem (List.take 4 p0)) (fun v10 =>
 chk (0+4≤(List.length p0)) (
 xL β L (List.map V.dem (List.take 4 p0)) (fun v11 =>
 k_fin (v10 == v11)))))) (
 k_fin false)))))) (
 k_fin false)))))) (
 k_fin false))))))))))
theorem zuM {β:Type} (xN:zgq) (zY:zkZ) (zcj:zu8) (zar:zoH) (zaU:zqw) (xV:zmb) (xH:zfT) (xP:zjw) (yi:zR) (xL:zg1) (L:Nat) (p0:List V) (k:KK β):zt zkA (zkF xN zY zcj zar zaU xV xH xP yi xL L) L zhn [(V.agg p0)] [] k=zli xN zY zcj zar zaU xV xH xP yi xL L p0 (fun p0=>k (V.sc (.bool p0)) []):=by kernel_rfl
abbrev zxv:=∀ (β:Type),Nat→List V→(Bool→Option β)→Option β
def zdO (β:Type) (L:Nat) (p0:List V) (k_fin:Bool→Option β):Option β:=zli xN zY zcj zar zaU xV xH xP yi xL L p0 k_fin
def zlQ (zdO:zxv) (L:Nat) (β:Type) (args:List V) (bor:Bor) (k:KK β):Option β:=match args,bor with
 | [a0],[]=>aG a0 fun p0=>zdO β L p0 (fun p0=>k (V.sc (.bool p0)) [])
 | _,_=>none
theorem ztQ (L:Nat) (β:Type) (args:List V) (bor:Bor) (k:KK β) (r:β) (h:zlQ zdO L β args bor k=some r):zt zkA (zkF xN zY zcj zar zaU xV xH xP yi xL L) L zhn args bor k=some r:=by
 unfold zlQ at h
 split at h
 ·have q:=zaj h; clear h; obtain ⟨p0,rfl,h⟩:=q
  exact (zuM xN zY zcj zar zaU xV xH xP yi xL L p0 k).trans h
 ·cases h
def zkb:CF:=⟨59,[.tmp 4],
 (.seq (.reg [oo 2 (.box true (tq 0)),
   oo 4 (.move (.const (.sc (.bool false))) false)])
 (.seq (.seq (.reg [oo 10 (.call 126 [] []),
   oo 11 (.un .not (tq 10))])
 (.cond (tq 11)
 (.seq (.reg [oo 4 (.move (.const (.sc (.bool false))) false)])
 .ret)
 .skip))
 (.seq (.seq (.reg [oo 12 (.load true 4 (tq 2) false),
   oo 13 (.call 127 [((tq 12),1)] []),
   oo 14 (.un .not (tq 13)),
   oo 15 (.move (tq 14) false),
   ⟨(some 16),false,(some (15,false)),.move (tq 1) false⟩,
   ⟨(some 17),false,(some (15,false)),.call 145 [((tq 16),0),((.const (.sc (.int .i64 10))),0),((.const (.sc (.int .i64 200))),0)] []⟩,
   ⟨(some 18),false,(some (15,false)),.un .not (tq 17)⟩,
   oo 19 (.pick (tq 15) (.const (.sc (.bool true))) (tq 18)),
   oo 20 (.move (tq 19) false),
   ⟨(some 21),false,(some (20,false)),.fieldAddr 1 (tq 2)⟩,
   ⟨(some 22),false,(some (20,false)),.load false 1 (tq 21) false⟩,
   ⟨(some 23),false,(some (20,false)),.lenS (tq 22)⟩,
   ⟨(some 24),false,(some (20,false)),.bin .eql (tq 23) (.const (.sc (.int .i64 0)))⟩,
   oo 25 (.pick (tq 20) (.const (.sc (.bool true))) (tq 24))])
 (.cond (tq 25)
 (.seq (.reg [oo 4 (.move (.const (.sc (.bool true))) false)])
 .ret)
 .skip))
 (.seq (.reg [oo 26 (.load true 4 (tq 2) false),
   oo 5 (.alloc false [(.sc (.int .u32 0)),(.gs 35 []),(.gs 2 []),(.sc (.int .u32 0))]),
   oz (.store 4 (tq 5) (tq 26))])
 (.seq (.reg [oo 27 (.fieldAddr 1 (tq 2)),
   oo 28 (.load false 1 (tq 27) false),
   oo 29 (.append 35 64 (.const (.gs 35 [])) (tq 28)),
   oo 30 (.fieldAddr 1 (tq 5)),
   oz (.store 1 (tq 30) (tq 29))])
 (.seq (.reg [oo 31 (.fieldAddr 1 (tq 5)),
   oo 32 (.load false 1 (tq 31) false),
   oo 33 (.move (tq 1) false),
   oo 34 (.indexAddrS 35 (tq 32) (.const (.sc (.int .i64 0)))),
   oo 35 (.fieldAddr 34 (tq 34)),
   oz (.store 1 (tq 35) (tq 33))])
 (.seq (.reg [oo 37 (.load true 4 (tq 2) false),
   oo 38 (.call 128 [((tq 37),1),((.const (.sc (.bool true))),0)] []),
   oo 36 (.move (tq 38) true),
   oo 39 (.extract (tq 36) 0),
   oo 40 (.pull (tq 36) 1),
   oo 6 (.move (tq 39) false),
   oo 7 (.move (tq 40) false)])
 (.seq (.reg [oo 42 (.load true 4 (tq 5) false),
   oo 43 (.call 128 [((tq 42),1),((.const (.sc (.bool true))),0)] []),
   oo 41 (.move (tq 43) true),
   oo 44 (.extract (tq 41) 0),
   oo 45 (.pull (tq 41) 1),
   oo 8 (.move (tq 44) false),
   oo 9 (.move (tq 45) false)])
 (.seq (.dreg [] [(oo 46 (.move (tq 7) false),q0),
   (oo 47 (.bin .neq (tq 46) (.const (.sc (.int .i64 0)))),q0),
   (oo 48 (.move (tq 47) false),q0),
   (⟨(some 49),false,(some (48,false)),.move (tq 9) false⟩,q0),
   (⟨(some 50),false,(some (48,false)),.bin .neq (tq 49) (.const (.sc (.int .i64 0)))⟩,q0),
   (oo 51 (.pick (tq 48) (.const (.sc (.bool true))) (tq 50)),q0),
   (oo 52 (.move (tq 51) false),q0),
   (⟨(some 53),false,(some (52,false)),.load true 4 (tq 2) false⟩,ql 2 [5] []),
   (⟨(some 54),false,(some (52,false)),.call 548 [((tq 53),1)] []⟩,qc [5] []),
   (⟨(some 55),false,(some (52,false)),.load true 4 (tq 5) false⟩,ql 5 [2] []),
   (⟨(some 56),false,(some (52,false)),.call 548 [((tq 55),1)] []⟩,q0),
   (⟨(some 57),false,(some (52,false)),.eqAgg false 32 (tq 54) (tq 56)⟩,q0),
   (oo 58 (.pick (tq 52) (.const (.sc (.bool true))) (tq 57)),q0),
   (oo 4 (.move (tq 58) false),q0)])
 .ret)))))))))⟩
def ziA:Hint:=⟨[(0,0),(8,2),(8,3),(9,2),(9,3)],[],[none,none,none,none,none],[],[],false,false⟩
def zBC:Nat→Sh:=xQ [(22,(.sl 35)),(26,(.row [(.int .u32),(.sl 35),(.sl 2),(.int .u32)])),(28,(.sl 35))]
def zBI (xN:zgq) (zY:zkZ) (zg:xG) (L:Nat):CBC:=(xy 145 (zin zg L) (xy 127 (znE zY L) (xy 126 (ziF xN L) noC)))
def zrL {β:Type} (xN:zgq) (zY:zkZ) (zg:xG) (L:Nat) (p0:List V) (p1:List (List V)) (k_fin:Bool→Option β):Option β :=
 xN β L  (fun v0 =>
 ifb (!v0) (
 k_fin false) (
 chk (0+4≤(List.length p0)) (
 zY β L (List.map V.dem (List.take 4 p0)) (fun v1 =>
 ifb (!v1) (
 k_fin true) (
 zg β L p1 (10:Int) (200:Int) (fun v2 =>
 ifb (!v2) (
 k_fin true) (
 cLd 35 p0 1 fun v3 =>
 ifb ((((List.length v3:Nat):Int):Int) == (0:Int)) (
 k_fin true) (
 chk (0+4≤(List.length p0)) (
 chk (List.length (List.take 4 p0)=4) (
 cI .u32 (List.take 4 p0) 0 fun v4 =>
 cL 35 (List.take 4 p0) 1 fun v5 =>
 cL 2 (List.take 4 p0) 2 fun v6 =>
 cI .u32 (List.take 4 p0) 3 fun v7 =>
 cLd 35 p0 1 fun v8 =>
 chk ((List.length ([]:List (List V))+List.length v8) * 64≤yl∧List.length ([]:List (List V))+List.length v8≤yl) (
 lt (([]:List (List V))++v8) fun l9 =>
 idx l9 (0:Int) fun c10 =>
 none)))))))))))
abbrev zrP:=∀ (β:Type),Nat→List V→List (List V)→(Bool→Option β)→Option β
def zk9 (β:Type) (L:Nat) (p0:List V) (p1:List (List V)) (k_fin:Bool→Option β):Option β:=zrL xN zY zg L p0 p1 k_fin
def zBZ (zk9:zrP) (L:Nat) (β:Type) (args:List V) (bor:Bor) (k:KK β):Option β:=match args,bor with
 | [a0,a1],[]=>aG a0 fun p0=>aL 1 a1 fun p1=>zk9 β L p0 p1 (fun p0=>k (V.sc (.bool p0)) [])
 | _,_=>none
def gls:List (Nat × List V):=[(0,gk_sha_initial),(1,gk_sha_k)]
def fg:List (Nat × Nat):=[(3,644),(4,645),(5,126),(6,127),(7,145),(8,128),(9,548),(10,517),(11,596),(12,519),(13,144),(14,646),(15,151),(16,153),(17,131),(18,146),(19,147),(20,583),(21,148),(22,454),(23,149),(24,188),(25,152),(26,150),(27,157),(28,182),(29,137),(30,183),(31,184),(32,501),(33,494),(34,159),(35,185),(36,138),(37,186),(38,187),(39,191),(40,192),(41,205),(42,158),(43,458),(44,531),(45,532),(46,533),(47,193),(48,194),(49,160),(50,206),(51,496),(52,497),(53,498),(54,569),(55,570),(56,571),(57,534),(58,535),(59,572),(76,640),(77,641),(78,642),(79,643)]
def rows:List Row:=[⟨40,192,zoy,zcx⟩,⟨39,191,zos,zhX⟩,⟨27,157,zmp,zfi⟩,⟨41,205,zlO,zfC⟩,⟨30,183,zlF,zfQ⟩,⟨28,182,zk7,ze3⟩,⟨42,158,zk8,zeX⟩,⟨29,137,ztq,zna⟩,⟨31,184,zkh,zeg⟩,⟨19,147,zrA,zaG⟩,⟨18,146,zt3,zcc⟩,⟨8,128,zr0,zmm⟩,⟨13,144,zr3,zlo⟩,⟨26,150,ztf,zeB⟩,⟨24,188,zt7,zoC⟩,⟨15,151,zpn,zjz⟩,⟨17,131,zti,zeA⟩,⟨5,126,zqb,zkx⟩,⟨7,145,zqz,zcT⟩,⟨6,127,zuH,zca⟩,⟨52,497,zum,zfz⟩,⟨51,496,zt5,zgS⟩,⟨59,572,zgE,zcs⟩,⟨58,535,ztk,znq⟩,⟨57,534,zoz,zaN⟩,⟨53,498,zoB,zcE⟩,⟨43,458,zuc,zdn⟩,⟨32,501,zqg,zkk⟩,⟨20,583,zry,zml⟩,⟨9,548,zxJ,zsB⟩,⟨48,194,zot,zcM⟩,⟨47,193,zow,zh7⟩,⟨34,159,zlx,zfg⟩,⟨35,185,zk3,ze8⟩,⟨49,160,zkW,zfa⟩,⟨36,138,zpQ,zjA⟩,⟨50,206,zlz,zfH⟩,⟨38,187,zj5,zem⟩,⟨37,186,zrO,zlR⟩,⟨23,149,zov,xW⟩,⟨21,148,zp9,zaB⟩,⟨44,531,zru,zb4⟩,⟨45,532,znI,zgT⟩,⟨56,571,zqB,zkw⟩,⟨54,569,zmA,zai⟩,⟨55,570,zlu,zfI⟩,⟨46,533,zmw,zbI⟩,⟨33,494,zrH,zb0⟩,⟨22,454,zou,zik⟩,⟨10,517,ztr,zne⟩,⟨11,596,zuY,zoP⟩,⟨12,519,zqm,zkj⟩,⟨14,646,zox,zh4⟩,⟨25,152,zqr,zkp⟩,⟨16,153,zmy,zgf⟩,⟨4,645,znQ,zhn⟩,⟨3,644,ziA,zkb⟩]
theorem zxe:zP Tryd.prog (zO fg gls) zoy 40=some zcx:=by kernel_rfl
theorem zxm:zP Tryd.prog (zO fg gls) zos 39=some zhX:=by kernel_rfl
theorem zuA:zP Tryd.prog (zO fg gls) zmp 27=some zfi:=by kernel_rfl
theorem zuU:zP Tryd.prog (zO fg gls) zlO 41=some zfC:=by kernel_rfl
theorem zt4:zP Tryd.prog (zO fg gls) zlF 30=some zfQ:=by kernel_rfl
theorem ztA:zP Tryd.prog (zO fg gls) zk7 28=some ze3:=by kernel_rfl
theorem ztN:zP Tryd.prog (zO fg gls) zk8 42=some zeX:=by kernel_rfl
theorem zBF:zP Tryd.prog (zO fg gls) ztq 29=some zna:=by kernel_rfl
theorem zsd:zP Tryd.prog (zO fg gls) zkh 31=some zeg:=by kernel_rfl
theorem zAy:zP Tryd.prog (zO fg gls) zrA 19=some zaG:=by kernel_rfl
theorem zCV:zP Tryd.prog (zO fg gls) zt3 18=some zcc:=by kernel_rfl
theorem zAv:zP Tryd.prog (zO fg gls) zr0 8=some zmm:=by kernel_rfl
theorem zAG:zP Tryd.prog (zO fg gls) zr3 13=some zlo:=by kernel_rfl
theorem zBz:zP Tryd.prog (zO fg gls) ztf 26=some zeB:=by kernel_rfl
theorem zCD:zP Tryd.prog (zO fg gls) zt7 24=some zoC:=by kernel_rfl
theorem zyn:zP Tryd.prog (zO fg gls) zpn 15=some zjz:=by kernel_rfl
theorem zBJ:zP Tryd.prog (zO fg gls) zti 17=some zeA:=by kernel_rfl
theorem zzB:zP Tryd.prog (zO fg gls) zqb 5=some zkx:=by kernel_rfl
theorem zzL:zP Tryd.prog (zO fg gls) zqz 7=some zcT:=by kernel_rfl
theorem zCX:zP Tryd.prog (zO fg gls) zuH 6=some zca:=by kernel_rfl
theorem zDa:zP Tryd.prog (zO fg gls) zum 52=some zfz:=by kernel_rfl
theorem zCY:zP Tryd.prog (zO fg gls) zt5 51=some zgS:=by kernel_rfl
theorem zoF:zP Tryd.prog (zO fg gls) zgE 59=some zcs:=by kernel_rfl
theorem zBA:zP Tryd.prog (zO fg gls) ztk 58=some znq:=by kernel_rfl
theorem zwP:zP Tryd.prog (zO fg gls) zoz 57=some zaN:=by kernel_rfl
theorem zw5:zP Tryd.prog (zO fg gls) zoB 53=some zcE:=by kernel_rfl
theorem zCW:zP Tryd.prog (zO fg gls) zuc 43=some zdn:=by kernel_rfl
theorem zzz:zP Tryd.prog (zO fg gls) zqg 32=some zkk:=by kernel_rfl
theorem zAR:zP Tryd.prog (zO fg gls) zry 20=some zml:=by kernel_rfl
theorem zET:zP Tryd.prog (zO fg gls) zxJ 9=some zsB:=by kernel_rfl
theorem zxC:zP Tryd.prog (zO fg gls) zot 48=some zcM:=by kernel_rfl
theorem zwE:zP Tryd.prog (zO fg gls) zow 47=some zh7:=by kernel_rfl
theorem zuX:zP Tryd.prog (zO fg gls) zlx 34=some zfg:=by kernel_rfl
theorem ztK:zP Tryd.prog (zO fg gls) zk3 35=some ze8:=by kernel_rfl
theorem ztH:zP Tryd.prog (zO fg gls) zkW 49=some zfa:=by kernel_rfl
theorem zyw:zP Tryd.prog (zO fg gls) zpQ 36=some zjA:=by kernel_rfl
theorem ztO:zP Tryd.prog (zO fg gls) zlz 50=some zfH:=by kernel_rfl
theorem zsP:zP Tryd.prog (zO fg gls) zj5 38=some zem:=by kernel_rfl
theorem zAf:zP Tryd.prog (zO fg gls) zrO 37=some zlR:=by kernel_rfl
theorem zxh:zP Tryd.prog (zO fg gls) zov 23=some xW:=by kernel_rfl
theorem zzM:zP Tryd.prog (zO fg gls) zp9 21=some zaB:=by kernel_rfl
theorem zA2:zP Tryd.prog (zO fg gls) zru 44=some zb4:=by kernel_rfl
theorem zwh:zP Tryd.prog (zO fg gls) znI 45=some zgT:=by kernel_rfl
theorem zzt:zP Tryd.prog (zO fg gls) zqB 56=some zkw:=by kernel_rfl
theorem zvB:zP Tryd.prog (zO fg gls) zmA 54=some zai:=by kernel_rfl
theorem zuK:zP Tryd.prog (zO fg gls) zlu 55=some zfI:=by kernel_rfl
theorem zvA:zP Tryd.prog (zO fg gls) zmw 46=some zbI:=by kernel_rfl
theorem zAc:zP Tryd.prog (zO fg gls) zrH 33=some zb0:=by kernel_rfl
theorem zxq:zP Tryd.prog (zO fg gls) zou 22=some zik:=by kernel_rfl
theorem zBD:zP Tryd.prog (zO fg gls) ztr 10=some zne:=by kernel_rfl
theorem zCJ:zP Tryd.prog (zO fg gls) zuY 11=some zoP:=by kernel_rfl
theorem zzR:zP Tryd.prog (zO fg gls) zqm 12=some zkj:=by kernel_rfl
theorem zxN:zP Tryd.prog (zO fg gls) zox 14=some zh4:=by kernel_rfl
theorem zzw:zP Tryd.prog (zO fg gls) zqr 25=some zkp:=by kernel_rfl
theorem zvy:zP Tryd.prog (zO fg gls) zmy 16=some zgf:=by kernel_rfl
theorem zwA:zP Tryd.prog (zO fg gls) znQ 4=some zhn:=by kernel_rfl
theorem zq8:zP Tryd.prog (zO fg gls) ziA 3=some zkb:=by kernel_rfl
theorem zFJ:∀ r ∈ rows,(r.f,r.g) ∈ fg∧zg4 Tryd.prog r.f=true∧zP Tryd.prog (zO fg gls) r.h r.f=some r.c:=by
 intro r hr
 simp only [rows,List.mem_cons,List.not_mem_nil,or_false] at hr
 rcases hr with rfl | rfl | rfl | rfl | rfl | rfl | rfl | rfl | rfl | rfl | rfl | rfl | rfl | rfl | rfl | rfl | rfl | rfl | rfl | rfl | rfl | rfl | rfl | rfl | rfl | rfl | rfl | rfl | rfl | rfl | rfl | rfl | rfl | rfl | rfl | rfl | rfl | rfl | rfl | rfl | rfl | rfl | rfl | rfl | rfl | rfl | rfl | rfl | rfl | rfl | rfl | rfl | rfl | rfl | rfl | rfl | rfl
 ·exact ⟨of_decide_eq_true (by kernel_rfl),by kernel_rfl,zxe⟩
 ·exact ⟨of_decide_eq_true (by kernel_rfl),by kernel_rfl,zxm⟩
 ·exact ⟨of_decide_eq_true (by kernel_rfl),by kernel_rfl,zuA⟩
 ·exact ⟨of_decide_eq_true (by kernel_rfl),by kernel_rfl,zuU⟩
 ·exact ⟨of_decide_eq_true (by kernel_rfl),by kernel_rfl,zt4⟩
 ·exact ⟨of_decide_eq_true (by kernel_rfl),by kernel_rfl,ztA⟩
 ·exact ⟨of_decide_eq_true (by kernel_rfl),by kernel_rfl,ztN⟩
 ·exact ⟨of_decide_eq_true (by kernel_rfl),by kernel_rfl,zBF⟩
 ·exact ⟨of_decide_eq_true (by kernel_rfl),by kernel_rfl,zsd⟩
 ·exact ⟨of_decide_eq_true (by kernel_rfl),by kernel_rfl,zAy⟩
 ·exact ⟨of_decide_eq_true (by kernel_rfl),by kernel_rfl,zCV⟩
 ·exact ⟨of_decide_eq_true (by kernel_rfl),by kernel_rfl,zAv⟩
 ·exact ⟨of_decide_eq_true (by kernel_rfl),by kernel_rfl,zAG⟩
 ·exact ⟨of_decide_eq_true (by kernel_rfl),by kernel_rfl,zBz⟩
 ·exact ⟨of_decide_eq_true (by kernel_rfl),by kernel_rfl,zCD⟩
 ·exact ⟨of_decide_eq_true (by kernel_rfl),by kernel_rfl,zyn⟩
 ·exact ⟨of_decide_eq_true (by kernel_rfl),by kernel_rfl,zBJ⟩
 ·exact ⟨of_decide_eq_true (by kernel_rfl),by kernel_rfl,zzB⟩
 ·exact ⟨of_decide_eq_true (by kernel_rfl),by kernel_rfl,zzL⟩
 ·exact ⟨of_decide_eq_true (by kernel_rfl),by kernel_rfl,zCX⟩
 ·exact ⟨of_decide_eq_true (by kernel_rfl),by kernel_rfl,zDa⟩
 ·exact ⟨of_decide_eq_true (by kernel_rfl),by kernel_rfl,zCY⟩
 ·exact ⟨of_decide_eq_true (by kernel_rfl),by kernel_rfl,zoF⟩
 ·exact ⟨of_decide_eq_true (by kernel_rfl),by kernel_rfl,zBA⟩
 ·exact ⟨of_decide_eq_true (by kernel_rfl),by kernel_rfl,zwP⟩
 ·exact ⟨of_decide_eq_true (by kernel_rfl),by kernel_rfl,zw5⟩
 ·exact ⟨of_decide_eq_true (by kernel_rfl),by kernel_rfl,zCW⟩
 ·exact ⟨of_decide_eq_true (by kernel_rfl),by kernel_rfl,zzz⟩
 ·exact ⟨of_decide_eq_true (by kernel_rfl),by kernel_rfl,zAR⟩
 ·exact ⟨of_decide_eq_true (by kernel_rfl),by kernel_rfl,zET⟩
 ·exact ⟨of_decide_eq_true (by kernel_rfl),by kernel_rfl,zxC⟩
 ·exact ⟨of_decide_eq_true (by kernel_rfl),by kernel_rfl,zwE⟩
 ·exact ⟨of_decide_eq_true (by kernel_rfl),by kernel_rfl,zuX⟩
 ·exact ⟨of_decide_eq_true (by kernel_rfl),by kernel_rfl,ztK⟩
 ·exact ⟨of_decide_eq_true (by kernel_rfl),by kernel_rfl,ztH⟩
 ·exact ⟨of_decide_eq_true (by kernel_rfl),by kernel_rfl,zyw⟩
 ·exact ⟨of_decide_eq_true (by kernel_rfl),by kernel_rfl,ztO⟩
 ·exact ⟨of_decide_eq_true (by kernel_rfl),by kernel_rfl,zsP⟩
 ·exact ⟨of_decide_eq_true (by kernel_rfl),by kernel_rfl,zAf⟩
 ·exact ⟨of_decide_eq_true (by kernel_rfl),by kernel_rfl,zxh⟩
 ·exact ⟨of_decide_eq_true (by kernel_rfl),by kernel_rfl,zzM⟩
 ·exact ⟨of_decide_eq_true (by kernel_rfl),by kernel_rfl,zA2⟩
 ·exact ⟨of_decide_eq_true (by kernel_rfl),by kernel_rfl,zwh⟩
 ·exact ⟨of_decide_eq_true (by kernel_rfl),by kernel_rfl,zzt⟩
 ·exact ⟨of_decide_eq_true (by kernel_rfl),by kernel_rfl,zvB⟩
 ·exact ⟨of_decide_eq_true (by kernel_rfl),by kernel_rfl,zuK⟩
 ·exact ⟨of_decide_eq_true (by kernel_rfl),by kernel_rfl,zvA⟩
 ·exact ⟨of_decide_eq_true (by kernel_rfl),by kernel_rfl,zAc⟩
 ·exact ⟨of_decide_eq_true (by kernel_rfl),by kernel_rfl,zxq⟩
 ·exact ⟨of_decide_eq_true (by kernel_rfl),by kernel_rfl,zBD⟩
 ·exact ⟨of_decide_eq_true (by kernel_rfl),by kernel_rfl,zCJ⟩
 ·exact ⟨of_decide_eq_true (by kernel_rfl),by kernel_rfl,zzR⟩
 ·exact ⟨of_decide_eq_true (by kernel_rfl),by kernel_rfl,zxN⟩
 ·exact ⟨of_decide_eq_true (by kernel_rfl),by kernel_rfl,zzw⟩
 ·exact ⟨of_decide_eq_true (by kernel_rfl),by kernel_rfl,zvy⟩
 ·exact ⟨of_decide_eq_true (by kernel_rfl),by kernel_rfl,zwA⟩
 ·exact ⟨of_decide_eq_true (by kernel_rfl),by kernel_rfl,zq8⟩
theorem zGJ:Tryd.prog.follows .mixedOrders=true:=by kernel_rfl
theorem zGt:zEv fg=true:=by kernel_rfl
theorem zGs (L d:Nat):zja Tryd.prog (zO fg gls) (evF (yK rows) zFc L d):=zFT zGJ zGt zFJ L d
theorem zkI (L:Nat):FOk (yK rows) L 192 (zeE zp L) 1:=xE (D:=0) (by kernel_rfl) fun m hm=>⟨zaQ,zaM L,zF,zvi L⟩
theorem zdf (L:Nat):FOk (yK rows) L 191 (zbC yf L) 1:=xE (D:=0) (by kernel_rfl) fun m hm=>⟨zlS,zmj L,zF,zvE L⟩
theorem zhL (L:Nat):FOk (yK rows) L 157 (zcR ya L) 2:=xE (D:=1) (by kernel_rfl) fun m hm=>⟨ziD,ziN zp yf L,(zo (zo zF (zkI L m (by omega))) (zdf L m (by omega))),zs6 L⟩
theorem ztF (L:Nat):FOk (yK rows) L 205 (zf4 xJ L) 2:=xE (D:=1) (by kernel_rfl) fun m hm=>⟨ziw,ziM zp yf L,(zo (zo zF (zkI L m (by omega))) (zdf L m (by omega))),zsn L⟩
theorem zmB (L:Nat):FOk (yK rows) L 183 (zd4 zc L) 2:=xE (D:=1) (by kernel_rfl) fun m hm=>⟨ziW,ziL zp yf L,(zo (zo zF (zkI L m (by omega))) (zdf L m (by omega))),zsZ L⟩
theorem zl6 (L:Nat):FOk (yK rows) L 182 (zdH zb L) 3:=xE (D:=2) (by kernel_rfl) fun m hm=>⟨zhS,zhA yf xJ ya zc L,(zo (zo (zo (zo zF (zdf L m (by omega))) (ztF L m (by omega))) (zhL L m (by omega))) (zmB L m (by omega))),zr1 L⟩
theorem zs9 (L:Nat):FOk (yK rows) L 158 (zfh yI L) 2:=xE (D:=1) (by kernel_rfl) fun m hm=>⟨zhI,zhJ yf L,(zo zF (zdf L m (by omega))),zrB L⟩
theorem zBg (L:Nat):FOk (yK rows) L 137 (zoS ye L) 3:=xE (D:=2) (by kernel_rfl) fun m hm=>⟨zre,zqL yI ya L,(zo (zo zF (zs9 L m (by omega))) (zhL L m (by omega))),zzQ L⟩
theorem zr2 (L:Nat):FOk (yK rows) L 184 (ze5 yb L) 4:=xE (D:=3) (by kernel_rfl) fun m hm=>⟨zgW,zhg zb yf L,(zo (zo zF (zl6 L m (by omega))) (zdf L m (by omega))),zq0 L⟩
theorem zok (L:Nat):FOk (yK rows) L 147 (zhu yd L) 5:=xE (D:=4) (by kernel_rfl) fun m hm=>⟨zA,xz ya zb ye zc yb L,(zo (zo (zo (zo (zo zF (zhL L m (by omega))) (zl6 L m (by omega))) (zBg L m (by omega))) (zmB L m (by omega))) (zr2 L m (by omega))),zyc L⟩
theorem zqO (L:Nat):FOk (yK rows) L 146 (zkV yo L) 6:=xE (D:=5) (by kernel_rfl) fun m hm=>⟨xM,zM yd L,(zo zF (zok L m (by omega))),zz6 L⟩
theorem zth (L:Nat):FOk (yK rows) L 128 (zj7 zH L) 7:=xE (D:=6) (by kernel_rfl) fun m hm=>⟨zpV,zpE yo yd L,(zo (zo zF (zqO L m (by omega))) (zok L m (by omega))),zyf L⟩
theorem ztm (L:Nat):FOk (yK rows) L 144 (zj4 xH L) 7:=xE (D:=6) (by kernel_rfl) fun m hm=>⟨zpt,zpr yo yd L,(zo (zo zF (zqO L m (by omega))) (zok L m (by omega))),zyb L⟩
theorem zAM (L:Nat):FOk (yK rows) L 150 (zoD xv L) 1:=xE (D:=0) (by kernel_rfl) fun m hm=>⟨zb9,zb1 L,zF,zzo L⟩
theorem zBq (L:Nat):FOk (yK rows) L 188 (zqE zaT L) 1:=xE (D:=0) (by kernel_rfl) fun m hm=>⟨zsv,zsx L,zF,zAh L⟩
theorem zqp (L:Nat):FOk (yK rows) L 151 (zhs yi L) 2:=xE (D:=1) (by kernel_rfl) fun m hm=>⟨zm3,zmM zaT L,(zo zF (zBq L m (by omega))),zwo L⟩
theorem zAI (L:Nat):FOk (yK rows) L 131 (zoR za1 L) 7:=xE (D:=6) (by kernel_rfl) fun m hm=>⟨zb3,zb7 yo xv yi L,(zo (zo (zo zF (zqO L m (by omega))) (zAM L m (by omega))) (zqp L m (by omega))),zzP L⟩
theorem zyC (L:Nat):FOk (yK rows) L 126 (ziF xN L) 8:=xE (D:=7) (by kernel_rfl) fun m hm=>⟨zoa,zn6 zH xH za1 L,(zo (zo (zo zF (zth L m (by omega))) (ztm L m (by omega))) (zAI L m (by omega))),zxS L⟩
theorem zyx (L:Nat):FOk (yK rows) L 145 (zin zg L) 1:=xE (D:=0) (by kernel_rfl) fun m hm=>⟨za4,za3 L,zF,zwD L⟩
theorem zBw (L:Nat):FOk (yK rows) L 127 (znE zY L) 2:=xE (D:=1) (by kernel_rfl) fun m hm=>⟨y5,y6 zg L,(zo zF (zyx L m (by omega))),zAJ L⟩
theorem zBH (L:Nat):FOk (yK rows) L 497 (zqC zn L) 1:=xE (D:=0) (by kernel_rfl) fun m hm=>⟨zbj,zbi L,zF,zBi L⟩
theorem zBy (L:Nat):FOk (yK rows) L 496 (zqv xm L) 1:=xE (D:=0) (by kernel_rfl) fun m hm=>⟨zdu,zdw L,zF,zBh L⟩
theorem zhr (L:Nat):FOk (yK rows) L 572 (zbv zl L) 1:=xE (D:=0) (by kernel_rfl) fun m hm=>⟨zen,zev L,zF,zny L⟩
theorem zud (L:Nat):FOk (yK rows) L 535 (zmo zd L) 2:=xE (D:=1) (by kernel_rfl) fun m hm=>⟨zqZ,zq4 zl L,(zo zF (zhr L m (by omega))),zzs L⟩
theorem zwp (L:Nat):FOk (yK rows) L 534 (zjh xn L) 3:=xE (D:=2) (by kernel_rfl) fun m hm=>⟨zB,yB zd L,(zo zF (zud L m (by omega))),zvJ L⟩
theorem zwi (L:Nat):FOk (yK rows) L 498 (zji yg L) 4:=xE (D:=3) (by kernel_rfl) fun m hm=>⟨zaP,zaK xn zd L,(zo (zo zF (zwp L m (by omega))) (zud L m (by omega))),zvp L⟩
theorem zBv (L:Nat):FOk (yK rows) L 458 (zqd zas L) 5:=xE (D:=4) (by kernel_rfl) fun m hm=>⟨zaq,zat zn xm yg L,(zo (zo (zo zF (zBH L m (by omega))) (zBy L m (by omega))) (zwi L m (by omega))),zAq L⟩
theorem zyJ (L:Nat):FOk (yK rows) L 501 (zlt yV L) 6:=xE (D:=5) (by kernel_rfl) fun m hm=>⟨zn0,znX zas L,(zo zF (zBv L m (by omega))),zwI L⟩
theorem ztt (L:Nat):FOk (yK rows) L 583 (zj6 yH L) 8:=xE (D:=7) (by kernel_rfl) fun m hm=>⟨zpy,zpU zH yV L,(zo (zo zF (zth L m (by omega))) (zyJ L m (by omega))),zyi L⟩
theorem zDH (L:Nat):FOk (yK rows) L 548 (zvf zcj L) 9:=xE (D:=8) (by kernel_rfl) fun m hm=>⟨zwt,zww yH L,(zo zF (ztt L m (by omega))),zC3 L⟩
theorem zkC (L:Nat):FOk (yK rows) L 194 (zeF xl L) 1:=xE (D:=0) (by kernel_rfl) fun m hm=>⟨zaO,zaL L,zF,zvz L⟩
theorem zeU (L:Nat):FOk (yK rows) L 193 (zch xg L) 1:=xE (D:=0) (by kernel_rfl) fun m hm=>⟨zlK,zlM L,zF,zvN L⟩
theorem zmC (L:Nat):FOk (yK rows) L 159 (zea xb L) 2:=xE (D:=1) (by kernel_rfl) fun m hm=>⟨zi5,ziI xl xg L,(zo (zo zF (zkC L m (by omega))) (zeU L m (by omega))),zsK L⟩
theorem zlZ (L:Nat):FOk (yK rows) L 185 (zdL xa L) 2:=xE (D:=1) (by kernel_rfl) fun m hm=>⟨zhT,zhP xl xg L,(zo (zo zF (zkC L m (by omega))) (zeU L m (by omega))),zr7 L⟩
theorem zsA (L:Nat):FOk (yK rows) L 160 (zfD yJ L) 2:=xE (D:=1) (by kernel_rfl) fun m hm=>⟨zhM,zhR xg L,(zo zF (zeU L m (by omega))),zrz L⟩
theorem zxX (L:Nat):FOk (yK rows) L 138 (zkm xc L) 3:=xE (D:=2) (by kernel_rfl) fun m hm=>⟨zm1,zmV yJ xb L,(zo (zo zF (zsA L m (by omega))) (zmC L m (by omega))),zws L⟩
theorem ztL (L:Nat):FOk (yK rows) L 206 (zf9 xI L) 2:=xE (D:=1) (by kernel_rfl) fun m hm=>⟨ziT,ziq xl xg L,(zo (zo zF (zkC L m (by omega))) (zeU L m (by omega))),zsg L⟩
theorem zk1 (L:Nat):FOk (yK rows) L 187 (zc7 za L) 3:=xE (D:=2) (by kernel_rfl) fun m hm=>⟨zhb,zhd xa xg L,(zo (zo zF (zlZ L m (by omega))) (zeU L m (by omega))),zqX L⟩
theorem zzx (L:Nat):FOk (yK rows) L 186 (znn ze L) 4:=xE (D:=3) (by kernel_rfl) fun m hm=>⟨zpR,zpC xI za L,(zo (zo zF (ztL L m (by omega))) (zk1 L m (by omega))),zx3 L⟩
theorem zhl (L:Nat):FOk (yK rows) L 149 (zdg yc L) 5:=xE (D:=4) (by kernel_rfl) fun m hm=>⟨xu,zu xb xa xc ze za L,(zo (zo (zo (zo (zo zF (zmC L m (by omega))) (zlZ L m (by omega))) (zxX L m (by omega))) (zzx L m (by omega))) (zk1 L m (by omega))),zvx L⟩
theorem zm5 (L:Nat):FOk (yK rows) L 148 (zgv yu L) 6:=xE (D:=5) (by kernel_rfl) fun m hm=>⟨yC,xC yc L,(zo zF (zhl L m (by omega))),zxr L⟩
theorem zzE (L:Nat):FOk (yK rows) L 531 (znc xh L) 1:=xE (D:=0) (by kernel_rfl) fun m hm=>⟨zW,xU L,zF,zx1 L⟩
theorem zvK (L:Nat):FOk (yK rows) L 532 (zhZ zf L) 1:=xE (D:=0) (by kernel_rfl) fun m hm=>⟨zkR,zkB L,zF,ztX L⟩
theorem zrJ (L:Nat):FOk (yK rows) L 571 (zi6 xd L) 2:=xE (D:=1) (by kernel_rfl) fun m hm=>⟨zon,zn8 zl L,(zo zF (zhr L m (by omega))),zx0 L⟩
theorem zut (L:Nat):FOk (yK rows) L 569 (zgN zj L) 3:=xE (D:=2) (by kernel_rfl) fun m hm=>⟨zJ,zK xd L,(zo zF (zrJ L m (by omega))),ztx L⟩
theorem ztI (L:Nat):FOk (yK rows) L 570 (zf6 zi L) 1:=xE (D:=0) (by kernel_rfl) fun m hm=>⟨ziV,ziJ L,zF,zss L⟩
theorem zus (L:Nat):FOk (yK rows) L 533 (zgO xe L) 4:=xE (D:=3) (by kernel_rfl) fun m hm=>⟨zag,zaf zj zi xd L,(zo (zo (zo zF (zut L m (by omega))) (ztI L m (by omega))) (zrJ L m (by omega))),ztG L⟩
theorem zzq (L:Nat):FOk (yK rows) L 494 (znk zT L) 5:=xE (D:=4) (by kernel_rfl) fun m hm=>⟨yW,xT xh zf xe L,(zo (zo (zo zF (zzE L m (by omega))) (zvK L m (by omega))) (zus L m (by omega))),zx4 L⟩
theorem zpB (L:Nat):FOk (yK rows) L 454 (zgy xx L) 6:=xE (D:=5) (by kernel_rfl) fun m hm=>⟨zmf,zlJ zT L,(zo zF (zzq L m (by omega))),zvD L⟩
theorem zBa (L:Nat):FOk (yK rows) L 517 (zoO zar L) 7:=xE (D:=6) (by kernel_rfl) fun m hm=>⟨zq1,zrn yu yc xx L,(zo (zo (zo zF (zm5 L m (by omega))) (zhl L m (by omega))) (zpB L m (by omega))),zzD L⟩
theorem zBt (L:Nat):FOk (yK rows) L 596 (zqy zaU L) 9:=xE (D:=8) (by kernel_rfl) fun m hm=>⟨zsi,zsD yH L,(zo zF (ztt L m (by omega))),zz3 L⟩
theorem zyk (L:Nat):FOk (yK rows) L 519 (zlh xV L) 7:=xE (D:=6) (by kernel_rfl) fun m hm=>⟨zod,zoe yu yc xx L,(zo (zo (zo zF (zm5 L m (by omega))) (zhl L m (by omega))) (zpB L m (by omega))),zwT L⟩
theorem zv8 (L:Nat):FOk (yK rows) L 646 (zjy xP L) 7:=xE (D:=6) (by kernel_rfl) fun m hm=>⟨zmr,zlY yu yc L,(zo (zo zF (zm5 L m (by omega))) (zhl L m (by omega))),zvL L⟩
theorem zyq (L:Nat):FOk (yK rows) L 152 (zlV yU L) 1:=xE (D:=0) (by kernel_rfl) fun m hm=>⟨zn2,zn9 L,zF,zwV L⟩
theorem zuw (L:Nat):FOk (yK rows) L 153 (zg9 xL L) 2:=xE (D:=1) (by kernel_rfl) fun m hm=>⟨zjP,zjK yU L,(zo zF (zyq L m (by omega))),zty L⟩
theorem zvv (L:Nat):FOk (yK rows) L 645 (zlQ zdO L) 10:=xE (D:=9) (by kernel_rfl) fun m hm=>⟨zkA,zkF xN zY zcj zar zaU xV xH xP yi xL L,(zo (zo (zo (zo (zo (zo (zo (zo (zo (zo zF (zyC L m (by omega))) (zBw L m (by omega))) (zDH L m (by omega))) (zBa L m (by omega))) (zBt L m (by omega))) (zyk L m (by omega))) (ztm L m (by omega))) (zv8 L m (by omega))) (zqp L m (by omega))) (zuw L m (by omega))),ztQ L⟩
end
section
set_option linter.unusedVariables false
set_option linter.unusedSimpArgs false
def zGS {α:Type} (p:α→Bool):List α→Nat→Int
 | [],_=>-1
 | x::l,i=>if p x=true then (i:Int) else zGS p l (i+1)
theorem zcm {i:Nat} (h:i≤1000000000):IntKind.wrap .i64 ((i:Int)+1)=((i+1:Nat):Int):=by
 rw [zaJ (by omega) (by omega)]; omega
end
section
set_option linter.unusedVariables false
set_option linter.unusedSimpArgs false
set_option maxRecDepth 100000
variable {β:Type}
theorem zDc (L:Nat) (k:Bool→Option β):xN β (L+200) k=k true:=by kernel_rfl
theorem zFs {L:Nat} (h:200≤L) (k:Bool→Option β):xN β L k=k true:=by
 obtain ⟨m,rfl⟩:∃ m,L=m+200:=⟨L - 200,by omega⟩
 exact zDc m k
theorem ziS (x:Inp):zr (List.replicate 32 (V.sc (.int .u8 (0:Int)))++[(V.sc (.int .u32 (0:Int))),(V.sc (.int .u32 (0:Int))),(V.gs 1 ([]:List (List V)))]) 0 (zdb x)=zdb x:=zcp (by rw [zwq]; rfl)
theorem zpq (x:Outp):zr [(V.sc (.int .i64 (0:Int))),(V.gs 1 ([]:List (List V)))] 0 (zd3 x)=zd3 x:=zcp (by rw [zsu]; rfl)
theorem zgF (x:Inp) (k:Option β):chk ((List.length (List.take 35 (zdb x)))=35∧0+35≤35) k=k:=yh ⟨by rw [zfJ,zwq],by decide⟩ k
theorem zpD (x:Outp) (k:Option β):chk ((List.length (List.take 2 (zd3 x)))=2∧0+2≤2) k=k:=yh ⟨by rw [zla,zsu],by decide⟩ k
theorem zix (x:Inp) (k:List (List V)→Option β):cLd 1 (zdb x) 34 k=k (zgM x.wit):=zta rfl k
theorem zrC (x:Outp) (k:List (List V)→Option β):cLd 1 (zd3 x) 1 k=k (zq .u8 x.scr):=zta rfl k
theorem zde (x:TxT) (k:List (List V)→Option β):cLd 35 (zd1 x) 1 k=k (x.ins.map zdb):=zta rfl k
theorem zcQ (x:TxT) (k:List (List V)→Option β):cLd 2 (zd1 x) 2 k=k (x.outs.map zd3):=zta rfl k
theorem zeQ (x:TxT):List.map V.dem (List.take 4 (zd1 x))=zd1 x:=Eq.trans rfl rfl
theorem zEF (x:Outp):List.map V.dem (List.take 2 (zd3 x))=zd3 x:=Eq.trans rfl rfl
theorem up {i:Nat} (h:i≤1000000000):IntKind.wrap .i64 ((i:Int)+1)=((i+1:Nat):Int):=by
 rw [zaJ (by omega) (by omega)]; omega
theorem znR (w:List (List Int)):(zgM w).length=w.length:=by simp [zgM]
theorem znt {w:List (List Int)} {i:Nat} (h:i < w.length):(zgM w)[i]?=some [V.sl 1 (zq .u8 w[i])]:=by simp [zgM,h]
theorem zhk {α:Type} {l:List α} {p:α→Bool} {i:Nat} (h:i < l.length):(l.drop i).all p=(p l[i] && (l.drop (i+1)).all p):=by
 rw [List.drop_eq_getElem_cons h]; rfl
theorem zrI (L:Nat) (b:Int) (kr:Bool→Option β) (kx:Option β) (w:List (List Int)) (hw:w.length≤1000000):∀ (n i:Nat),i≤w.length→w.length - i < n →
  zec L kr kx n b (zgM w) (w.length:Int) (i:Int)=ifb ((w.drop i).all fun x=>decide ((x.length:Int)≤b)) kx (kr false)
 | 0,i,h1,h2=>by omega
 | n+1,i,h1,h2=>by
  simp only [zec,zjT,zw]
  by_cases h:i < w.length
  ·rw [zD (by omega),zbp (znt h),zmF rfl,up (by omega),zrI L b kr kx w hw n (i+1) (by omega) (by omega),zhk h]
   simp only [yv]
   by_cases hb:((w[i].length:Nat):Int)≤b
   ·rw [zE (by omega)]; simp [hb]
   ·rw [zD (by omega)]; simp [hb,ifb]
  ·rw [zE (by omega),List.drop_of_length_le (by omega)]; rfl
theorem zDN {L:Nat} (hL:2000≤L) {a b:Int} (ha:a≤1000) (w:List (List Int)) (k:Bool→Option β):zg β L (zgM w) a b k=k (decide ((w.length:Int)≤a) && w.all fun x=>decide ((x.length:Int)≤b)):=by
 simp only [zg,zlr,zps,znR,zha,zhH]
 by_cases h:(w.length:Int)≤a
 ·rw [zE (by omega),show ((0:Int))=((0:Nat):Int) from rfl,zrI L b _ _ w (by omega) L 0 (by omega) (by omega)]
  simp only [List.drop_zero,h,decide_true,Bool.true_and]
  cases w.all fun x=>decide ((x.length:Int)≤b) <;> rfl
 ·rw [zD (by omega)]; simp [h]
theorem zk2 {l:List Inp} {i:Nat} (h:i < l.length):(l.map zdb)[i]?=some (zdb l[i]):=by simp [h]
theorem zpe {l:List Outp} {i:Nat} (h:i < l.length):(l.map zd3)[i]?=some (zd3 l[i]):=by simp [h]
def zve (x:Inp):Bool:=decide ((x.wit.length:Int)≤40) && x.wit.all fun y=>decide ((y.length:Int)≤600)
theorem zyZ {L:Nat} (hL:2000≤L) (kr:Bool→Option β) (kx:List V→Option β) (l:List Inp) (hl:l.length≤1000000) (b1:List V):∀ (n i:Nat),i≤l.length→l.length - i < n →
  zgr zg L kr kx n (l.map zdb) (l.length:Int) (i:Int) b1=ifb ((l.drop i).all zve) (kx b1) (kr false)
 | 0,i,h1,h2=>by omega
 | n+1,i,h1,h2=>by
  simp only [zgr,zmY,zw]
  by_cases h:i < l.length
  ·rw [zD (by omega),zbp (zk2 h)]
   rw [zgF,zfJ,ziS]
   simp only [zix,zi1]
   rw [zDN hL (by omega),up (by omega),zyZ hL kr kx l hl b1 n (i+1) (by omega) (by omega),zhk h]
   show ifb (!(zve l[i])) _ _=_
   cases zve l[i] <;> rfl
  ·rw [zE (by omega),List.drop_of_length_le (by omega)]; rfl
def zu7 (x:Outp):Bool:=decide ((x.scr.length:Int)≤600)
theorem zwH {L:Nat} (kr:Bool→Option β) (kx:Option β) (l:List Outp) (hl:l.length≤1000000):∀ (n i:Nat),i≤l.length→l.length - i < n →
  zfv zg L kr kx n (l.map zd3) (l.length:Int) (i:Int)=ifb ((l.drop i).all zu7) kx (kr false)
 | 0,i,h1,h2=>by omega
 | n+1,i,h1,h2=>by
  simp only [zfv,zle,zw]
  by_cases h:i < l.length
  ·rw [zD (by omega),zbp (zpe h)]
   rw [zpD,zla,zpq]
   simp only [zrC,zrZ,yv]
   rw [up (by omega),zwH kr kx l hl n (i+1) (by omega) (by omega),zhk h]
   by_cases hb:((l[i].scr.length:Nat):Int)≤600
   ·rw [zE (by omega)]; simp [zu7,hb]
   ·rw [zD (by omega)]; simp [zu7,hb,ifb]
  ·rw [zE (by omega),List.drop_of_length_le (by omega)]; rfl
def zwC (t:TxT):Bool:=decide (t.ins.length≤70) && decide (t.outs.length≤70) && t.ins.all zve && t.outs.all zu7
theorem zF2 {L:Nat} (hL:2000≤L) (t:TxT) (k:Bool→Option β):zY β L (zd1 t) k=k (zwC t):=by
 simp only [zY,zqj,zt9,ziQ,zh1]
 simp only [zde,zcQ,zmS,zgu,List.length_map,zjX,zgl,zkD,ziv,zjZ]
 by_cases h1:t.ins.length≤70
 ·rw [zE (by omega)]
  by_cases h2:t.outs.length≤70
  ·rw [zE (by omega),show ((0:Int))=((0:Nat):Int) from rfl,zyZ hL _ _ _ (by omega) _ L 0 (by omega) (by omega)]
   simp only [zcQ,List.length_map]
   rw [zwH _ _ _ (by omega) L 0 (by omega) (by omega)]
   simp only [List.drop_zero,zwC,h1,h2,decide_true,Bool.true_and]
   cases t.ins.all zve <;> cases t.outs.all zu7 <;> rfl
  ·rw [zD (by omega)]; simp [zwC,h2]
 ·rw [zD (by omega)]; simp [zwC,h1]
structure KeptP (t:TxT):Prop where
 ni:t.ins.length≤70
 no:t.outs.length≤70
 wl:∀ x ∈ t.ins,x.wit.length≤40
 wi:∀ x ∈ t.ins,∀ y ∈ x.wit,y.length≤600
 sl:∀ x ∈ t.outs,x.scr.length≤600
theorem zF6 {t:TxT} (h:zwC t=true):KeptP t:=by
 simp only [zwC,zve,zu7,Bool.and_eq_true,decide_eq_true_eq,List.all_eq_true] at h
 exact ⟨h.1.1.1,h.1.1.2,fun x hx=>by have:=(h.1.2 x hx).1; omega,fun x hx y hy=>by have:=(h.1.2 x hx).2 y hy; omega,fun x hx=>by have:=h.2 x hx; omega⟩
end
section
set_option linter.unusedVariables false
set_option linter.unusedSimpArgs false
set_option maxRecDepth 100000
variable {β:Type}
theorem zgA {a b:Nat} (h:a+b≤1000000000000):(a+b) * 1≤yl∧a+b≤yl:=by
 unfold yl; omega
def zdM (n:Int) (w:Nat):List Int:=(List.range w).map fun (i:Nat)=>IntKind.wrap .u8 (zcZ .u64 n (8 * (i:Int)))
theorem zcf (n:Int) (w:Nat):(zdM n w).length=w:=by simp [zdM]
def zue (n:Int):List Int:=zdM (IntKind.wrap .u64 n) 4
def zAo (n:Int):List Int:=zdM n 8
theorem zbe (n:Int):(zue n).length=4:=zcf _ _
theorem zhe (n:Int):(zAo n).length=8:=zcf _ _
def szB (n:Int):List Int:=if n < 253 then [IntKind.wrap .u8 n] else if n < 65536 then 253::zdM n 2 else if n < 4294967296 then 254::zdM n 4 else 255::zdM n 8
theorem zfe (n:Int):(szB n).length≤9:=by
 unfold szB; repeat' split
 all_goals simp [zcf]
def bsB (s:List Int):List Int:=szB (s.length:Int)++s
def zgP (x:Inp):List V:=[V.sc (.int .u8 (x.pv.getD 0 0)),V.sc (.int .u8 (x.pv.getD 1 0)),V.sc (.int .u8 (x.pv.getD 2 0)),V.sc (.int .u8 (x.pv.getD 3 0)),V.sc (.int .u8 (x.pv.getD 4 0)),V.sc (.int .u8 (x.pv.getD 5 0)),V.sc (.int .u8 (x.pv.getD 6 0)),V.sc (.int .u8 (x.pv.getD 7 0)),V.sc (.int .u8 (x.pv.getD 8 0)),V.sc (.int .u8 (x.pv.getD 9 0)),V.sc (.int .u8 (x.pv.getD 10 0)),V.sc (.int .u8 (x.pv.getD 11 0)),V.sc (.int .u8 (x.pv.getD 12 0)),V.sc (.int .u8 (x.pv.getD 13 0)),V.sc (.int .u8 (x.pv.getD 14 0)),V.sc (.int .u8 (x.pv.getD 15 0)),V.sc (.int .u8 (x.pv.getD 16 0)),V.sc (.int .u8 (x.pv.getD 17 0)),V.sc (.int .u8 (x.pv.getD 18 0)),V.sc (.int .u8 (x.pv.getD 19 0)),V.sc (.int .u8 (x.pv.getD 20 0)),V.sc (.int .u8 (x.pv.getD 21 0)),V.sc (.int .u8 (x.pv.getD 22 0)),V.sc (.int .u8 (x.pv.getD 23 0)),V.sc (.int .u8 (x.pv.getD 24 0)),V.sc (.int .u8 (x.pv.getD 25 0)),V.sc (.int .u8 (x.pv.getD 26 0)),V.sc (.int .u8 (x.pv.getD 27 0)),V.sc (.int .u8 (x.pv.getD 28 0)),V.sc (.int .u8 (x.pv.getD 29 0)),V.sc (.int .u8 (x.pv.getD 30 0)),V.sc (.int .u8 (x.pv.getD 31 0)),V.sc (.int .u32 (x.pv.getD 32 0))]
def zvb (x:Inp):List Int:=[x.pv.getD 0 0,x.pv.getD 1 0,x.pv.getD 2 0,x.pv.getD 3 0,x.pv.getD 4 0,x.pv.getD 5 0,x.pv.getD 6 0,x.pv.getD 7 0,x.pv.getD 8 0,x.pv.getD 9 0,x.pv.getD 10 0,x.pv.getD 11 0,x.pv.getD 12 0,x.pv.getD 13 0,x.pv.getD 14 0,x.pv.getD 15 0,x.pv.getD 16 0,x.pv.getD 17 0,x.pv.getD 18 0,x.pv.getD 19 0,x.pv.getD 20 0,x.pv.getD 21 0,x.pv.getD 22 0,x.pv.getD 23 0,x.pv.getD 24 0,x.pv.getD 25 0,x.pv.getD 26 0,x.pv.getD 27 0,x.pv.getD 28 0,x.pv.getD 29 0,x.pv.getD 30 0,x.pv.getD 31 0]
def ptB (x:Inp):List Int:=zvb x++zue (x.pv.getD 32 0)
theorem zpA (x:Inp):(zgP x).length=33:=by simp [zgP]
theorem zzj (x:Inp):(List.take 32 (zgP x)).length=32:=by simp [zgP]
theorem zv2 (x:Inp):yp 1 32 (List.take 32 (zgP x))=zq .u8 (zvb x):=by rfl
theorem zDy (x:Inp) (k:Int→Option β):cI .u32 (zgP x) 32 k=k (x.pv.getD 32 0):=zo5 rfl k
theorem znv (x:Inp):(zvb x).length=32:=by simp [zvb]
theorem zmT (x:Inp):(ptB x).length=36:=by simp [ptB,znv,zbe]
theorem zeW (k:IntKind):([]:List (List V))=zq k []:=rfl
theorem zDZ (k:IntKind) (n:Int):zcZ k n 0=n:=by
 simp [zcZ,Int.fdiv_one]
theorem zEC (n:Int):zdM n 1=[IntKind.wrap .u8 n]:=by
 simp [zdM,List.range_succ,zDZ]
theorem zwJ (x:Inp):List.take 33 (zdb x)=zgP x:=by rfl
theorem zCe (x:Inp):List.take 33 (zgP x)=zgP x:=by rfl
theorem zB5 (x:Inp) (k:Option β):chk (0+33≤(List.length (zdb x))) k=k:=yh (by rw [zwq]; omega) k
theorem zEo (x:Outp) (k:Option β):chk (0+2≤(List.length (zd3 x))) k=k:=yh (by rw [zsu]; omega) k
theorem zdd (x:TxT) (k:Option β):chk (0+4≤(List.length (zd1 x))) k=k:=yh (by rw [ziQ]; omega) k
theorem zlw {L:Nat} {b s:List Int} (h:b.length+s.length≤1000000000000) (k:List (List V)→Option β):yf β L (zq .u8 b) (zq .u8 s) k=k (zq .u8 (b++s)):=by
 simp only [yf,zmX,zw,yv,List.replicate_zero,List.length_nil,List.nil_append]
 rw [zaJ (by omega) (by omega),yh (by unfold yl; omega),yh (by unfold yl; omega),yh (zgA h),zaX]
theorem zGV (L:Nat) (n:Int) (k:List (List V)→Option β):zp β (L+20) n 2 k=k (zq .u8 (zdM n 2)):=by kernel_rfl
theorem zGX (L:Nat) (n:Int) (k:List (List V)→Option β):zp β (L+20) n 4 k=k (zq .u8 (zdM n 4)):=by kernel_rfl
theorem zGM (L:Nat) (n:Int) (k:List (List V)→Option β):zp β (L+20) n 8 k=k (zq .u8 (zdM n 8)):=by kernel_rfl
theorem zAe {L:Nat} (hL:20≤L) (n:Int) (k:List (List V)→Option β):zp β L n 2 k=k (zq .u8 (zdM n 2))∧zp β L n 4 k=k (zq .u8 (zdM n 4))∧zp β L n 8 k=k (zq .u8 (zdM n 8)):=by
 obtain ⟨m,rfl⟩:∃ m,L=m+20:=⟨L - 20,by omega⟩
 exact ⟨zGV m n k,zGX m n k,zGM m n k⟩
theorem zGD {L:Nat} (hL:20≤L) {b:List Int} (h:b.length≤900000000000) (n:Int) (k:List (List V)→Option β):xJ β L (zq .u8 b) n k=k (zq .u8 (b++zdM (IntKind.wrap .u64 n) 2)):=by
 simp only [xJ,zjO,zw]
 rw [(zAe hL _ _).1,zlw (by rw [zcf]; omega)]
theorem zxj {L:Nat} (hL:20≤L) {b:List Int} (h:b.length≤900000000000) (n:Int) (k:List (List V)→Option β):ya β L (zq .u8 b) n k=k (zq .u8 (b++zue n)):=by
 simp only [ya,zjY,zw]
 rw [(zAe hL _ _).2.1,zlw (by rw [zcf]; omega)]; rfl
theorem zFh {L:Nat} (hL:20≤L) {b:List Int} (h:b.length≤900000000000) (n:Int) (k:List (List V)→Option β):zc β L (zq .u8 b) n k=k (zq .u8 (b++zAo n)):=by
 simp only [zc,zjV,zw]
 rw [(zAe hL _ _).2.2,zlw (by rw [zcf]; omega)]; rfl
theorem zCh (n:Int):yp 1 1 [V.sc (.int .u8 n)]=zq .u8 [n]:=rfl
theorem zu4 {L:Nat} (hL:20≤L) {b:List Int} (h:b.length≤800000000000) {n:Int} (h0:0≤n) (k:List (List V)→Option β):zb β L (zq .u8 b) n k=k (zq .u8 (b++szB n)):=by
 simp only [zb,ziZ,zw,zCh,zu9]
 unfold szB
 split
 ·rw [zlw (by simp; omega)]
 ·split
  ·rw [zlw (by simp; omega),zGD hL (by simp; omega),zEJ (by omega) (by omega),zaZ (by omega) (by omega)]
   simp
  ·split
   ·rw [zlw (by simp; omega),zxj hL (by simp; omega),zue,zkS (by omega) (by omega),zaZ (by omega) (by omega)]
    simp
   ·rw [zlw (by simp; omega),zFh hL (by simp; omega),zAo]
    simp
theorem zAg {L:Nat} (hL:20≤L) {b s:List Int} (h:b.length≤700000000000) (hs:s.length≤10000000) (k:List (List V)→Option β):yb β L (zq .u8 b) (zq .u8 s) k=k (zq .u8 (b++bsB s)):=by
 simp only [yb,zhO,zw,yv]
 have:=zfe (s.length:Int)
 rw [zaZ (by omega) (by omega),zu4 hL (by omega) (by omega),zlw (by simp; omega)]
 simp [bsB]
theorem zFp {L:Nat} (hL:20≤L) (x:Inp) (k:List (List V)→Option β):ye β L (zgP x) k=k (zq .u8 (ptB x)):=by
 simp only [ye,zsN,yI,zi8]
 rw [yh (by rw [zpA]; omega),yh (by rw [zzj]; omega),zv2,zeW .u8,zlw (by simp [znv]),zDy,zxj hL (by simp [znv])]
 rfl
theorem zgx {L:Nat} {b s:List Int} (h:b.length+s.length≤1000000000000) (k:List (List V)→Option β):xg β L (zq .u8 b) (zq .u8 s) k=k (zq .u8 (b++s)):=by
 simp only [xg,zmZ,zw,yv,List.replicate_zero,List.length_nil,List.nil_append]
 rw [zaJ (by omega) (by omega),yh (by unfold yl; omega),yh (by unfold yl; omega),yh (zgA h),zaX]
theorem zGF (L:Nat) (n:Int) (k:List (List V)→Option β):xl β (L+20) n 1 k=k (zq .u8 (zdM n 1)):=by kernel_rfl
theorem zGI (L:Nat) (n:Int) (k:List (List V)→Option β):xl β (L+20) n 2 k=k (zq .u8 (zdM n 2)):=by kernel_rfl
theorem zGK (L:Nat) (n:Int) (k:List (List V)→Option β):xl β (L+20) n 4 k=k (zq .u8 (zdM n 4)):=by kernel_rfl
theorem zGy (L:Nat) (n:Int) (k:List (List V)→Option β):xl β (L+20) n 8 k=k (zq .u8 (zdM n 8)):=by kernel_rfl
theorem zpa {L:Nat} (hL:20≤L) (n:Int) (k:List (List V)→Option β):xl β L n 1 k=k (zq .u8 (zdM n 1))∧xl β L n 2 k=k (zq .u8 (zdM n 2))∧xl β L n 4 k=k (zq .u8 (zdM n 4))∧xl β L n 8 k=k (zq .u8 (zdM n 8)):=by
 obtain ⟨m,rfl⟩:∃ m,L=m+20:=⟨L - 20,by omega⟩
 exact ⟨zGF m n k,zGI m n k,zGK m n k,zGy m n k⟩
theorem zxM {L:Nat} (hL:20≤L) {b:List Int} (h:b.length≤900000000000) (n:Int) (k:List (List V)→Option β):xb β L (zq .u8 b) n k=k (zq .u8 (b++zue n)):=by
 simp only [xb,zjL,zw]
 rw [(zpa hL _ _).2.2.1,zgx (by rw [zcf]; omega)]; rfl
theorem zGo {L:Nat} (hL:20≤L) {b:List Int} (h:b.length≤900000000000) (n:Int) (k:List (List V)→Option β):xI β L (zq .u8 b) n k=k (zq .u8 (b++zAo n)):=by
 simp only [xI,zjS,zw]
 rw [(zpa hL _ _).2.2.2,zgx (by rw [zcf]; omega)]; rfl
theorem zs4 {L:Nat} (hL:20≤L) {b:List Int} (h:b.length≤800000000000) {n:Int} (h0:0≤n) (k:List (List V)→Option β):xa β L (zq .u8 b) n k=k (zq .u8 (b++szB n)):=by
 simp only [xa,zjd,zw,zCh,zu9]
 unfold szB
 split
 ·rw [(zpa hL _ _).1,zgx (by rw [zcf]; omega),zEC]
 ·split
  ·rw [(zpa hL _ _).2.1,zgx (by simp [zcf]),zgx (by simp [zcf]; omega)]
   simp
  ·split
   ·rw [(zpa hL _ _).2.2.1,zgx (by simp [zcf]),zgx (by simp [zcf]; omega)]
    simp
   ·rw [(zpa hL _ _).2.2.2,zgx (by simp [zcf]),zgx (by simp [zcf]; omega)]
    simp
theorem zy5 {L:Nat} (hL:20≤L) {b s:List Int} (h:b.length≤700000000000) (hs:s.length≤10000000) (k:List (List V)→Option β):za β L (zq .u8 b) (zq .u8 s) k=k (zq .u8 (b++bsB s)):=by
 simp only [za,zhz,zw,yv]
 have:=zfe (s.length:Int)
 rw [zaZ (by omega) (by omega),zs4 hL (by omega) (by omega),zgx (by simp; omega)]
 simp [bsB]
theorem zEA {L:Nat} (hL:20≤L) (x:Inp) (k:List (List V)→Option β):xc β L (zgP x) k=k (zq .u8 (ptB x)):=by
 simp only [xc,zoi,yJ,zi0]
 rw [yh (by rw [zpA]; omega),yh (by rw [zzj]; omega),zv2,zeW .u8,zgx (by simp [znv]),zDy,zxM hL (by simp [znv])]
 rfl
end
end Go.Proofs.YtoeobffjdbdpgaaDoor
