/- Part 11 of the proof of TxWitnessFree: an abstract machine over plain values, its soundness, and the functions of the program on plain values. -/
import Derived.Test.YtoeobffjdbdpgaaDoorMTxWitnessFree10
namespace Go.Proofs.YtoeobffjdbdpgaaDoor
section
set_option maxRecDepth 100000
set_option linter.unusedVariables false
set_option linter.unusedSimpArgs false
def zlK:CC:=(.seq (.seq (.reg [oo 43 (.move (tq 5) false),
   oo 44 (.bin .lss (tq 43) (.const (.sc (.int .i64 64))))])
 (.cond (tq 44)
 .skip
 (.seq (.mask (bl 12 97) (bl 158456315288573494874593034013 97))
 (.exit 2))))
 (.seq (.block 3 (.seq (.dreg [] [(oo 47 (.move (tq 5) false),q0),
   (oo 48 (.bin .sub (tq 47) (.const (.sc (.int .i64 15)))),q0),
   (oo 49 (.indexAddrA 64 1 (tq 3) (tq 48)),q0),
   (oo 50 (.load false 1 (tq 49) false),q1),
   (oo 51 (.call 571 [((tq 50),0),((.const (.sc (.int .i64 7))),0)] []),q1),
   (oo 52 (.move (tq 5) false),q0),
   (oo 53 (.bin .sub (tq 52) (.const (.sc (.int .i64 15)))),q0),
   (oo 54 (.indexAddrA 64 1 (tq 3) (tq 53)),q0),
   (oo 55 (.load false 1 (tq 54) false),q1),
   (oo 56 (.call 571 [((tq 55),0),((.const (.sc (.int .i64 18))),0)] []),q1),
   (oo 57 (.bin .xor (tq 51) (tq 56)),q0),
   (oo 58 (.move (tq 5) false),q0),
   (oo 59 (.bin .sub (tq 58) (.const (.sc (.int .i64 15)))),q0),
   (oo 60 (.indexAddrA 64 1 (tq 3) (tq 59)),q0),
   (oo 61 (.load false 1 (tq 60) false),q1),
   (oo 62 (.bin .shr (tq 61) (.const (.sc (.int .u64 3)))),q0),
   (oo 63 (.bin .xor (tq 57) (tq 62)),q0),
   (oo 6 (.move (tq 63) false),q0)])
 (.seq (.dreg [] [(oo 64 (.move (tq 5) false),q0),
   (oo 65 (.bin .sub (tq 64) (.const (.sc (.int .i64 2)))),q0),
   (oo 66 (.indexAddrA 64 1 (tq 3) (tq 65)),q0),
   (oo 67 (.load false 1 (tq 66) false),q1),
   (oo 68 (.call 571 [((tq 67),0),((.const (.sc (.int .i64 17))),0)] []),q1),
   (oo 69 (.move (tq 5) false),q0),
   (oo 70 (.bin .sub (tq 69) (.const (.sc (.int .i64 2)))),q0),
   (oo 71 (.indexAddrA 64 1 (tq 3) (tq 70)),q0),
   (oo 72 (.load false 1 (tq 71) false),q1),
   (oo 73 (.call 571 [((tq 72),0),((.const (.sc (.int .i64 19))),0)] []),q1),
   (oo 74 (.bin .xor (tq 68) (tq 73)),q0),
   (oo 75 (.move (tq 5) false),q0),
   (oo 76 (.bin .sub (tq 75) (.const (.sc (.int .i64 2)))),q0),
   (oo 77 (.indexAddrA 64 1 (tq 3) (tq 76)),q0),
   (oo 78 (.load false 1 (tq 77) false),q1),
   (oo 79 (.bin .shr (tq 78) (.const (.sc (.int .u64 10)))),q0),
   (oo 80 (.bin .xor (tq 74) (tq 79)),q0),
   (oo 7 (.move (tq 80) false),q0)])
 (.dreg [] [(oo 81 (.move (tq 5) false),q0),
   (oo 82 (.move (tq 5) false),q0),
   (oo 83 (.bin .sub (tq 82) (.const (.sc (.int .i64 16)))),q0),
   (oo 84 (.indexAddrA 64 1 (tq 3) (tq 83)),q0),
   (oo 85 (.load false 1 (tq 84) false),qc [] []),
   (oo 86 (.move (tq 6) false),q0),
   (oo 87 (.bin .add (tq 85) (tq 86)),q0),
   (oo 88 (.move (tq 5) false),q0),
   (oo 89 (.bin .sub (tq 88) (.const (.sc (.int .i64 7)))),q0),
   (oo 90 (.indexAddrA 64 1 (tq 3) (tq 89)),q0),
   (oo 91 (.load false 1 (tq 90) false),qc [] []),
   (oo 92 (.bin .add (tq 87) (tq 91)),q0),
   (oo 93 (.move (tq 7) false),q0),
   (oo 94 (.bin .add (tq 92) (tq 93)),q0),
   (oo 95 (.indexAddrA 64 1 (tq 3) (tq 81)),q0),
   (oz (.store 1 (tq 95) (tq 94)),q0)]))))
 (.reg [oo 45 (.move (tq 5) false),
   oo 46 (.bin .add (tq 45) (.const (.sc (.int .i64 1)))),
   oo 5 (.move (tq 46) false)])))
def zmC:CC:=(.seq (.seq (.reg [oo 8 (.move (tq 4) false),
   oo 9 (.bin .lss (tq 8) (.const (.sc (.int .i64 16))))])
 (.cond (tq 9)
 .skip
 (.seq (.mask (bl 12 97) (bl 158456325028528675187087900653 97))
 (.exit 0))))
 (.seq (.block 1 (.dreg [] [(oo 12 (.move (tq 4) false),q0),
   (oo 13 (.move (tq 4) false),q0),
   (oo 14 (.bin .mul (.const (.sc (.int .i64 4))) (tq 13)),q0),
   (oo 15 (.indexAddrA 64 1 (tq 1) (tq 14)),q0),
   (oo 16 (.load false 1 (tq 15) false),qc [] []),
   (oo 17 (.conv .u32 (tq 16)),q0),
   (oo 18 (.bin .shl (tq 17) (.const (.sc (.int .u64 24)))),q0),
   (oo 19 (.move (tq 4) false),q0),
   (oo 20 (.bin .mul (.const (.sc (.int .i64 4))) (tq 19)),q0),
   (oo 21 (.bin .add (tq 20) (.const (.sc (.int .i64 1)))),q0),
   (oo 22 (.indexAddrA 64 1 (tq 1) (tq 21)),q0),
   (oo 23 (.load false 1 (tq 22) false),qc [] []),
   (oo 24 (.conv .u32 (tq 23)),q0),
   (oo 25 (.bin .shl (tq 24) (.const (.sc (.int .u64 16)))),q0),
   (oo 26 (.bin .or (tq 18) (tq 25)),q0),
   (oo 27 (.move (tq 4) false),q0),
   (oo 28 (.bin .mul (.const (.sc (.int .i64 4))) (tq 27)),q0),
   (oo 29 (.bin .add (tq 28) (.const (.sc (.int .i64 2)))),q0),
   (oo 30 (.indexAddrA 64 1 (tq 1) (tq 29)),q0),
   (oo 31 (.load false 1 (tq 30) false),qc [] []),
   (oo 32 (.conv .u32 (tq 31)),q0),
   (oo 33 (.bin .shl (tq 32) (.const (.sc (.int .u64 8)))),q0),
   (oo 34 (.bin .or (tq 26) (tq 33)),q0),
   (oo 35 (.move (tq 4) false),q0),
   (oo 36 (.bin .mul (.const (.sc (.int .i64 4))) (tq 35)),q0),
   (oo 37 (.bin .add (tq 36) (.const (.sc (.int .i64 3)))),q0),
   (oo 38 (.indexAddrA 64 1 (tq 1) (tq 37)),q0),
   (oo 39 (.load false 1 (tq 38) false),qc [] []),
   (oo 40 (.conv .u32 (tq 39)),q0),
   (oo 41 (.bin .or (tq 34) (tq 40)),q0),
   (oo 42 (.indexAddrA 64 1 (tq 3) (tq 12)),q0),
   (oz (.store 1 (tq 42) (tq 41)),q0)]))
 (.reg [oo 10 (.move (tq 4) false),
   oo 11 (.bin .add (tq 10) (.const (.sc (.int .i64 1)))),
   oo 4 (.move (tq 11) false)])))
def znY:CC:=(.seq (.reg [oo 96 (.load true 64 (tq 3) false),
   oz (.store 64 (tq 2) (tq 96))])
 .ret)
def zpe:CC:=(.seq (.seq (.reg [oo 5 (.move (.const (.sc (.int .i64 16))) false)])
 (.block 2 (.loop (bl 44 97) (bl 158456315288573494874593034045 97)
 zlK)))
 znY)
def zkg:CF:=⟨97,[.cell 2 true 64],
 (.seq (.reg [oo 1 (.box true (tq 0)),
   oo 2 (.alloc true (rp 64 (.sc (.int .u32 0)) []))])
 (.seq (.reg [oo 3 (.alloc true (rp 64 (.sc (.int .u32 0)) []))])
 (.seq (.seq (.reg [oo 4 (.move (.const (.sc (.int .i64 0))) false)])
 (.block 0 (.loop (bl 30 97) (bl 158456325028528675187087900671 97)
 zmC)))
 zpe)))⟩
def ziD:Hint:=⟨[],[],[none,some ((bl 30 97),(bl 158456325028528675187087900671 97)),none,some ((bl 12 97),(bl 158456325028528675187087900653 97)),none,none,some ((bl 44 97),(bl 158456315288573494874593034045 97)),none,some ((bl 12 97),(bl 158456315288573494874593034013 97)),none,none],[],[],false,false,[]⟩
def zA4:Nat→Sh:=xI [(16,(.int .u8)),(23,(.int .u8)),(31,(.int .u8)),(39,(.int .u8)),(50,(.int .u32)),(55,(.int .u32)),(61,(.int .u32)),(67,(.int .u32)),(72,(.int .u32)),(78,(.int .u32)),(85,(.int .u32)),(91,(.int .u32))]
def zAZ (zl:yN) (L:Nat):CBC:=(xr 571 (zpV zl L) noC)
def zyq:St→St:=yJ 0 (bl 30 97) (bl 158456325028528675187087900671 97)
def zxO:St→St:=yJ 0 (bl 44 97) (bl 158456315288573494874593034045 97)
def zwu (p4:Int) (b1 b2 b3:List V):St:=⟨(jn 1 ((V.ptr 1 0)::((V.ptr 2 0)::((V.ptr 3 0)::((V.sc (.int .i64 p4))::(jn 92 [])))))),(gn 1 ((.live true b1)::((.live true b2)::((.live true b3)::(gn 93 [])))))⟩
def zzz (b2 b3:List V):St:=⟨(jn 2 ((V.ptr 2 0)::((V.ptr 3 0)::(jn 93 [])))),(gn 2 ((.live true b2)::((.live true b3)::(gn 93 []))))⟩
def zvJ (p5:Int) (b2 b3:List V):St:=⟨(jn 2 ((V.ptr 2 0)::((V.ptr 3 0)::(jn 1 ((V.sc (.int .i64 p5))::(jn 91 [])))))),(gn 2 ((.live true b2)::((.live true b3)::(gn 93 []))))⟩
def zy5 (b2 b3:List V):St:=⟨(jn 2 ((V.ptr 2 0)::((V.ptr 3 0)::(jn 93 [])))),(gn 2 ((.live true b2)::((.live true b3)::(gn 93 []))))⟩
def zse {β:Type} (zl:yN) (L:Nat) (p0:List V) (k_hbbaba:Int→List V→List V→List V→Option β):Option β :=
 k_hbbaba (0:Int) p0 (List.replicate 64 (V.sc (.int .u32 (0:Int)))) (List.replicate 64 (V.sc (.int .u32 (0:Int))))
def znD {β:Type} (zl:yN) (L:Nat) (p4:Int) (b1 b2 b3:List V) (k_hbbaba:Int→List V→List V→List V→Option β) (k_x0:List V→List V→Option β):Option β :=
 ifb (decide (p4 < (16:Int))) (
 lt (IntKind.wrap .i64 (((4:Int):Int) * p4)) fun x0 =>
 chk (0≤x0∧x0 < ((64:Nat):Int)) (
 cI .u8 b1 (0+((Int.toNat x0) * 1)) fun v1 =>
 lt (IntKind.wrap .u32 v1) fun x2 =>
 lt (zjX .u32 x2 (24:Int)) fun x3 =>
 lt (IntKind.wrap .i64 (((4:Int):Int) * p4)) fun x4 =>
 lt (IntKind.wrap .i64 ((x4:Int)+(1:Int))) fun x5 =>
 chk (0≤x5∧x5 < ((64:Nat):Int)) (
 cI .u8 b1 (0+((Int.toNat x5) * 1)) fun v6 =>
 lt (IntKind.wrap .u32 v6) fun x7 =>
 lt (zjX .u32 x7 (16:Int)) fun x8 =>
 lt (ior .u32 x3 x8) fun x9 =>
 lt (IntKind.wrap .i64 (((4:Int):Int) * p4)) fun x10 =>
 lt (IntKind.wrap .i64 ((x10:Int)+(2:Int))) fun x11 =>
 chk (0≤x11∧x11 < ((64:Nat):Int)) (
 cI .u8 b1 (0+((Int.toNat x11) * 1)) fun v12 =>
 lt (IntKind.wrap .u32 v12) fun x13 =>
 lt (zjX .u32 x13 (8:Int)) fun x14 =>
 lt (ior .u32 x9 x14) fun x15 =>
 lt (IntKind.wrap .i64 (((4:Int):Int) * p4)) fun x16 =>
 lt (IntKind.wrap .i64 ((x16:Int)+(3:Int))) fun x17 =>
 chk (0≤x17∧x17 < ((64:Nat):Int)) (
 cI .u8 b1 (0+((Int.toNat x17) * 1)) fun v18 =>
 lt (IntKind.wrap .u32 v18) fun x19 =>
 lt (ior .u32 x15 x19) fun x20 =>
 chk (0≤p4∧p4 < ((64:Nat):Int)) (
 chk (1=1∧(0+((Int.toNat p4) * 1))+1≤(List.length b3)) (
 lt (xk b3 (0+((Int.toNat p4) * 1)) [(V.sc (.int .u32 x20))]) fun r21 =>
 lt (IntKind.wrap .i64 ((p4:Int)+(1:Int))) fun x22 =>
 k_hbbaba x22 b1 b2 r21))))))) (
 k_x0 b2 b3)
def zlJ {β:Type} (zl:yN) (L:Nat) (b2 b3:List V) (k_hbbbaba:Int→List V→List V→Option β):Option β :=
 k_hbbbaba (16:Int) b2 b3
def zmR {β:Type} (zl:yN) (L:Nat) (p5:Int) (b2 b3:List V) (k_hbbbaba:Int→List V→List V→Option β) (k_x2:List V→List V→Option β):Option β :=
 ifb (decide (p5 < (64:Int))) (
 lt (IntKind.wrap .i64 ((p5:Int) - (15:Int))) fun x23 =>
 chk (0≤x23∧x23 < ((64:Nat):Int)) (
 cI .u32 b3 (0+((Int.toNat x23) * 1)) fun v24 =>
 zl β L v24 (7:Int) (fun v25 =>
 lt (IntKind.wrap .i64 ((p5:Int) - (15:Int))) fun x26 =>
 chk (0≤x26∧x26 < ((64:Nat):Int)) (
 cI .u32 b3 (0+((Int.toNat x26) * 1)) fun v27 =>
 zl β L v27 (18:Int) (fun v28 =>
 lt (zaR .u32 v25 v28) fun x29 =>
 lt (IntKind.wrap .i64 ((p5:Int) - (15:Int))) fun x30 =>
 chk (0≤x30∧x30 < ((64:Nat):Int)) (
 cI .u32 b3 (0+((Int.toNat x30) * 1)) fun v31 =>
 lt (zdJ .u32 v31 (3:Int)) fun x32 =>
 lt (zaR .u32 x29 x32) fun x33 =>
 lt (IntKind.wrap .i64 ((p5:Int) - (2:Int))) fun x34 =>
 chk (0≤x34∧x34 < ((64:Nat):Int)) (
 cI .u32 b3 (0+((Int.toNat x34) * 1)) fun v35 =>
 zl β L v35 (17:Int) (fun v36 =>
 lt (IntKind.wrap .i64 ((p5:Int) - (2:Int))) fun x37 =>
 chk (0≤x37∧x37 < ((64:Nat):Int)) (
 cI .u32 b3 (0+((Int.toNat x37) * 1)) fun v38 =>
 zl β L v38 (19:Int) (fun v39 =>
 lt (zaR .u32 v36 v39) fun x40 =>
 lt (IntKind.wrap .i64 ((p5:Int) - (2:Int))) fun x41 =>
 chk (0≤x41∧x41 < ((64:Nat):Int)) (
 cI .u32 b3 (0+((Int.toNat x41) * 1)) fun v42 =>
 lt (zdJ .u32 v42 (10:Int)) fun x43 =>
 lt (zaR .u32 x40 x43) fun x44 =>
 lt (IntKind.wrap .i64 ((p5:Int) - (16:Int))) fun x45 =>
 chk (0≤x45∧x45 < ((64:Nat):Int)) (
 cI .u32 b3 (0+((Int.toNat x45) * 1)) fun v46 =>
 lt (IntKind.wrap .u32 ((v46:Int)+x33)) fun x47 =>
 lt (IntKind.wrap .i64 ((p5:Int) - (7:Int))) fun x48 =>
 chk (0≤x48∧x48 < ((64:Nat):Int)) (
 cI .u32 b3 (0+((Int.toNat x48) * 1)) fun v49 =>
 lt (IntKind.wrap .u32 ((x47:Int)+v49)) fun x50 =>
 lt (IntKind.wrap .u32 ((x50:Int)+x44)) fun x51 =>
 chk (0≤p5∧p5 < ((64:Nat):Int)) (
 chk (1=1∧(0+((Int.toNat p5) * 1))+1≤(List.length b3)) (
 lt (xk b3 (0+((Int.toNat p5) * 1)) [(V.sc (.int .u32 x51))]) fun r52 =>
 lt (IntKind.wrap .i64 ((p5:Int)+(1:Int))) fun x53 =>
 k_hbbbaba x53 b2 r52))))))))))))))) (
 k_x2 b2 b3)
def zle {β:Type} (zl:yN) (L:Nat) (b2 b3:List V) (k_fin:List V→Option β):Option β :=
 chk (0+64≤(List.length b3)) (
 chk ((List.length (List.take 64 b3))=64∧0+64≤(List.length b2)) (
 lt (xk b2 0 (List.take 64 b3)) fun r54 =>
 chk (0=0∧(List.length r54)=64∧64≠0) (
 k_fin r54)))
def zhv {β:Type} (zl:yN) (L:Nat) (k_x0:List V→List V→Option β):Nat→Int→List V→List V→List V→Option β
 | 0,_,_,_,_=>none
 | n+1,p4,b1,b2,b3=>znD zl L p4 b1 b2 b3 (fun p4 b1 b2 b3=>zhv zl L k_x0 n p4 b1 b2 b3) k_x0
def zgG {β:Type} (zl:yN) (L:Nat) (k_x2:List V→List V→Option β):Nat→Int→List V→List V→Option β
 | 0,_,_,_=>none
 | n+1,p5,b2,b3=>zmR zl L p5 b2 b3 (fun p5 b2 b3=>zgG zl L k_x2 n p5 b2 b3) k_x2
def zlv {β:Type} (zl:yN) (L:Nat) (b2 b3:List V) (k_fin:List V→Option β):Option β :=
 zlJ zl L b2 b3 (fun p5 b2 b3=>zgG zl L (fun b2 b3=>zle zl L b2 b3 k_fin) L p5 b2 b3)
def zsd {β:Type} (zl:yN) (L:Nat) (p0:List V) (k_fin:List V→Option β):Option β :=
 zse zl L p0 (fun p4 b1 b2 b3=>zhv zl L (fun b2 b3=>zlv zl L b2 b3 k_fin) L p4 b1 b2 b3)
abbrev za9:=∀ (β:Type),Nat→List V→(List V→Option β)→Option β
def zF (β:Type) (L:Nat) (p0:List V) (k_fin:List V→Option β):Option β:=zsd zl L p0 k_fin
def zso (zF:za9) (L:Nat) (β:Type) (args:List V) (bor:Bor) (k:KK β):Option β:=match args,bor with
 | [a0],[]=>aG a0 fun p0=>zF β L p0 (fun p0=>k (V.agg p0) [])
 | _,_=>none
def zjt:CF:=⟨2,[.cell 0 true 64],
 (.seq (.reg [oo 0 (.alloc true (rp 64 (.sc (.int .u32 0)) []))])
 (.seq (.reg [oo 1 (.build (rp 64 (.sc (.int .u32 0)) []) [(0,1,(.const (.sc (.int .u32 1116352408)))),(1,1,(.const (.sc (.int .u32 1899447441)))),(2,1,(.const (.sc (.int .u32 3049323471)))),(3,1,(.const (.sc (.int .u32 3921009573)))),(4,1,(.const (.sc (.int .u32 961987163)))),(5,1,(.const (.sc (.int .u32 1508970993)))),(6,1,(.const (.sc (.int .u32 2453635748)))),(7,1,(.const (.sc (.int .u32 2870763221)))),(8,1,(.const (.sc (.int .u32 3624381080)))),(9,1,(.const (.sc (.int .u32 310598401)))),(10,1,(.const (.sc (.int .u32 607225278)))),(11,1,(.const (.sc (.int .u32 1426881987)))),(12,1,(.const (.sc (.int .u32 1925078388)))),(13,1,(.const (.sc (.int .u32 2162078206)))),(14,1,(.const (.sc (.int .u32 2614888103)))),(15,1,(.const (.sc (.int .u32 3248222580)))),(16,1,(.const (.sc (.int .u32 3835390401)))),(17,1,(.const (.sc (.int .u32 4022224774)))),(18,1,(.const (.sc (.int .u32 264347078)))),(19,1,(.const (.sc (.int .u32 604807628)))),(20,1,(.const (.sc (.int .u32 770255983)))),(21,1,(.const (.sc (.int .u32 1249150122)))),(22,1,(.const (.sc (.int .u32 1555081692)))),(23,1,(.const (.sc (.int .u32 1996064986)))),(24,1,(.const (.sc (.int .u32 2554220882)))),(25,1,(.const (.sc (.int .u32 2821834349)))),(26,1,(.const (.sc (.int .u32 2952996808)))),(27,1,(.const (.sc (.int .u32 3210313671)))),(28,1,(.const (.sc (.int .u32 3336571891)))),(29,1,(.const (.sc (.int .u32 3584528711)))),(30,1,(.const (.sc (.int .u32 113926993)))),(31,1,(.const (.sc (.int .u32 338241895)))),(32,1,(.const (.sc (.int .u32 666307205)))),(33,1,(.const (.sc (.int .u32 773529912)))),(34,1,(.const (.sc (.int .u32 1294757372)))),(35,1,(.const (.sc (.int .u32 1396182291)))),(36,1,(.const (.sc (.int .u32 1695183700)))),(37,1,(.const (.sc (.int .u32 1986661051)))),(38,1,(.const (.sc (.int .u32 2177026350)))),(39,1,(.const (.sc (.int .u32 2456956037)))),(40,1,(.const (.sc (.int .u32 2730485921)))),(41,1,(.const (.sc (.int .u32 2820302411)))),(42,1,(.const (.sc (.int .u32 3259730800)))),(43,1,(.const (.sc (.int .u32 3345764771)))),(44,1,(.const (.sc (.int .u32 3516065817)))),(45,1,(.const (.sc (.int .u32 3600352804)))),(46,1,(.const (.sc (.int .u32 4094571909)))),(47,1,(.const (.sc (.int .u32 275423344)))),(48,1,(.const (.sc (.int .u32 430227734)))),(49,1,(.const (.sc (.int .u32 506948616)))),(50,1,(.const (.sc (.int .u32 659060556)))),(51,1,(.const (.sc (.int .u32 883997877)))),(52,1,(.const (.sc (.int .u32 958139571)))),(53,1,(.const (.sc (.int .u32 1322822218)))),(54,1,(.const (.sc (.int .u32 1537002063)))),(55,1,(.const (.sc (.int .u32 1747873779)))),(56,1,(.const (.sc (.int .u32 1955562222)))),(57,1,(.const (.sc (.int .u32 2024104815)))),(58,1,(.const (.sc (.int .u32 2227730452)))),(59,1,(.const (.sc (.int .u32 2361852424)))),(60,1,(.const (.sc (.int .u32 2428436474)))),(61,1,(.const (.sc (.int .u32 2756734187)))),(62,1,(.const (.sc (.int .u32 3204031479)))),(63,1,(.const (.sc (.int .u32 3329325298))))]),
   oz (.store 64 (tq 0) (tq 1))])
 .ret))⟩
def zhJ:Hint:=⟨[],[],[none],[],[],false,false,[]⟩
def zAm:Nat→Sh:=xI []
def zz4 (L:Nat):CBC:=noC
def zrh {β:Type} (L:Nat) (k_fin:List V→Option β):Option β :=
 lt [(V.sc (.int .u32 (1116352408:Int))),(V.sc (.int .u32 (1899447441:Int))),(V.sc (.int .u32 (3049323471:Int))),(V.sc (.int .u32 (3921009573:Int))),(V.sc (.int .u32 (961987163:Int))),(V.sc (.int .u32 (1508970993:Int))),(V.sc (.int .u32 (2453635748:Int))),(V.sc (.int .u32 (2870763221:Int))),(V.sc (.int .u32 (3624381080:Int))),(V.sc (.int .u32 (310598401:Int))),(V.sc (.int .u32 (607225278:Int))),(V.sc (.int .u32 (1426881987:Int))),(V.sc (.int .u32 (1925078388:Int))),(V.sc (.int .u32 (2162078206:Int))),(V.sc (.int .u32 (2614888103:Int))),(V.sc (.int .u32 (3248222580:Int))),(V.sc (.int .u32 (3835390401:Int))),(V.sc (.int .u32 (4022224774:Int))),(V.sc (.int .u32 (264347078:Int))),(V.sc (.int .u32 (604807628:Int))),(V.sc (.int .u32 (770255983:Int))),(V.sc (.int .u32 (1249150122:Int))),(V.sc (.int .u32 (1555081692:Int))),(V.sc (.int .u32 (1996064986:Int))),(V.sc (.int .u32 (2554220882:Int))),(V.sc (.int .u32 (2821834349:Int))),(V.sc (.int .u32 (2952996808:Int))),(V.sc (.int .u32 (3210313671:Int))),(V.sc (.int .u32 (3336571891:Int))),(V.sc (.int .u32 (3584528711:Int))),(V.sc (.int .u32 (113926993:Int))),(V.sc (.int .u32 (338241895:Int))),(V.sc (.int .u32 (666307205:Int))),(V.sc (.int .u32 (773529912:Int))),(V.sc (.int .u32 (1294757372:Int))),(V.sc (.int .u32 (1396182291:Int))),(V.sc (.int .u32 (1695183700:Int))),(V.sc (.int .u32 (1986661051:Int))),(V.sc (.int .u32 (2177026350:Int))),(V.sc (.int .u32 (2456956037:Int))),(V.sc (.int .u32 (2730485921:Int))),(V.sc (.int .u32 (2820302411:Int))),(V.sc (.int .u32 (3259730800:Int))),(V.sc (.int .u32 (3345764771:Int))),(V.sc (.int .u32 (3516065817:Int))),(V.sc (.int .u32 (3600352804:Int))),(V.sc (.int .u32 (4094571909:Int))),(V.sc (.int .u32 (275423344:Int))),(V.sc (.int .u32 (430227734:Int))),(V.sc (.int .u32 (506948616:Int))),(V.sc (.int .u32 (659060556:Int))),(V.sc (.int .u32 (883997877:Int))),(V.sc (.int .u32 (958139571:Int))),(V.sc (.int .u32 (1322822218:Int))),(V.sc (.int .u32 (1537002063:Int))),(V.sc (.int .u32 (1747873779:Int))),(V.sc (.int .u32 (1955562222:Int))),(V.sc (.int .u32 (2024104815:Int))),(V.sc (.int .u32 (2227730452:Int))),(V.sc (.int .u32 (2361852424:Int))),(V.sc (.int .u32 (2428436474:Int))),(V.sc (.int .u32 (2756734187:Int))),(V.sc (.int .u32 (3204031479:Int))),(V.sc (.int .u32 (3329325298:Int)))] fun r0 =>
 chk (0=0∧(List.length r0)=64∧64≠0) (
 k_fin r0)
abbrev zaT:=∀ (β:Type),Nat→(List V→Option β)→Option β
def zC (β:Type) (L:Nat) (k_fin:List V→Option β):Option β:=zrh L k_fin
def zrc (zC:zaT) (L:Nat) (β:Type) (args:List V) (bor:Bor) (k:KK β):Option β:=match args,bor with
 | [],[]=>zC β L (fun p0=>k (V.agg p0) [])
 | _,_=>none
def zlL:CC:=(.seq (.seq (.reg [oo 37 (.move (tq 15) false),
   oo 38 (.bin .lss (tq 37) (.const (.sc (.int .i64 64))))])
 (.cond (tq 38)
 .skip
 (.seq (.mask (bl 32660 133) (bl 10889035741470030808987042129089031602071 133))
 (.exit 0))))
 (.seq (.block 1 (.seq (.dreg [] [(oo 41 (.move (tq 14) false),q0),
   (oo 42 (.move (tq 11) false),q0),
   (oo 43 (.call 571 [((tq 42),0),((.const (.sc (.int .i64 6))),0)] []),q1),
   (oo 44 (.move (tq 11) false),q0),
   (oo 45 (.call 571 [((tq 44),0),((.const (.sc (.int .i64 11))),0)] []),q1),
   (oo 46 (.bin .xor (tq 43) (tq 45)),q0),
   (oo 47 (.move (tq 11) false),q0),
   (oo 48 (.call 571 [((tq 47),0),((.const (.sc (.int .i64 25))),0)] []),q1),
   (oo 49 (.bin .xor (tq 46) (tq 48)),q0),
   (oo 50 (.bin .add (tq 41) (tq 49)),q0),
   (oo 51 (.move (tq 11) false),q0),
   (oo 52 (.move (tq 12) false),q0),
   (oo 53 (.bin .and (tq 51) (tq 52)),q0),
   (oo 54 (.move (tq 11) false),q0),
   (oo 55 (.un .xor (tq 54)),q0),
   (oo 56 (.move (tq 13) false),q0),
   (oo 57 (.bin .and (tq 55) (tq 56)),q0),
   (oo 58 (.bin .xor (tq 53) (tq 57)),q0),
   (oo 59 (.bin .add (tq 50) (tq 58)),q0),
   (oo 60 (.move (tq 15) false),q0),
   (oo 61 (.indexAddrA 64 1 (tq 6) (tq 60)),q0),
   (oo 62 (.load false 1 (tq 61) false),q1),
   (oo 63 (.bin .add (tq 59) (tq 62)),q0),
   (oo 64 (.move (tq 15) false),q0),
   (oo 65 (.indexAddrA 64 1 (tq 5) (tq 64)),q0),
   (oo 66 (.load false 1 (tq 65) false),q1),
   (oo 67 (.bin .add (tq 63) (tq 66)),q0),
   (oo 16 (.move (tq 67) false),q0)])
 (.seq (.reg [oo 68 (.move (tq 7) false),
   oo 69 (.call 571 [((tq 68),0),((.const (.sc (.int .i64 2))),0)] []),
   oo 70 (.move (tq 7) false),
   oo 71 (.call 571 [((tq 70),0),((.const (.sc (.int .i64 13))),0)] []),
   oo 72 (.bin .xor (tq 69) (tq 71)),
   oo 73 (.move (tq 7) false),
   oo 74 (.call 571 [((tq 73),0),((.const (.sc (.int .i64 22))),0)] []),
   oo 75 (.bin .xor (tq 72) (tq 74)),
   oo 76 (.move (tq 7) false),
   oo 77 (.move (tq 8) false),
   oo 78 (.bin .and (tq 76) (tq 77)),
   oo 79 (.move (tq 7) false),
   oo 80 (.move (tq 9) false),
   oo 81 (.bin .and (tq 79) (tq 80)),
   oo 82 (.bin .xor (tq 78) (tq 81)),
   oo 83 (.move (tq 8) false),
   oo 84 (.move (tq 9) false),
   oo 85 (.bin .and (tq 83) (tq 84)),
   oo 86 (.bin .xor (tq 82) (tq 85)),
   oo 87 (.bin .add (tq 75) (tq 86)),
   oo 17 (.move (tq 87) false)])
 (.reg [oo 88 (.move (tq 13) false),
   oo 89 (.move (tq 12) false),
   oo 90 (.move (tq 11) false),
   oo 91 (.move (tq 10) false),
   oo 92 (.move (tq 16) false),
   oo 93 (.bin .add (tq 91) (tq 92)),
   oo 94 (.move (tq 9) false),
   oo 95 (.move (tq 8) false),
   oo 96 (.move (tq 7) false),
   oo 97 (.move (tq 16) false),
   oo 98 (.move (tq 17) false),
   oo 99 (.bin .add (tq 97) (tq 98)),
   oo 14 (.move (tq 88) false),
   oo 13 (.move (tq 89) false),
   oo 12 (.move (tq 90) false),
   oo 11 (.move (tq 93) false),
   oo 10 (.move (tq 94) false),
   oo 9 (.move (tq 95) false),
   oo 8 (.move (tq 96) false),
   oo 7 (.move (tq 99) false)]))))
 (.reg [oo 39 (.move (tq 15) false),
   oo 40 (.bin .add (tq 39) (.const (.sc (.int .i64 1)))),
   oo 15 (.move (tq 40) false)])))
def zos:CC:=(.seq (.reg [oo 100 (.indexAddrA 8 1 (tq 2) (.const (.sc (.int .i64 0)))),
   oo 101 (.load false 1 (tq 100) false),
   oo 102 (.move (tq 7) false),
   oo 103 (.bin .add (tq 101) (tq 102)),
   oo 104 (.indexAddrA 8 1 (tq 2) (.const (.sc (.int .i64 1)))),
   oo 105 (.load false 1 (tq 104) false),
   oo 106 (.move (tq 8) false),
   oo 107 (.bin .add (tq 105) (tq 106)),
   oo 108 (.indexAddrA 8 1 (tq 2) (.const (.sc (.int .i64 2)))),
   oo 109 (.load false 1 (tq 108) false),
   oo 110 (.move (tq 9) false),
   oo 111 (.bin .add (tq 109) (tq 110)),
   oo 112 (.indexAddrA 8 1 (tq 2) (.const (.sc (.int .i64 3)))),
   oo 113 (.load false 1 (tq 112) false),
   oo 114 (.move (tq 10) false),
   oo 115 (.bin .add (tq 113) (tq 114)),
   oo 116 (.indexAddrA 8 1 (tq 2) (.const (.sc (.int .i64 4)))),
   oo 117 (.load false 1 (tq 116) false),
   oo 118 (.move (tq 11) false),
   oo 119 (.bin .add (tq 117) (tq 118)),
   oo 120 (.indexAddrA 8 1 (tq 2) (.const (.sc (.int .i64 5)))),
   oo 121 (.load false 1 (tq 120) false),
   oo 122 (.move (tq 12) false),
   oo 123 (.bin .add (tq 121) (tq 122)),
   oo 124 (.indexAddrA 8 1 (tq 2) (.const (.sc (.int .i64 6)))),
   oo 125 (.load false 1 (tq 124) false),
   oo 126 (.move (tq 13) false),
   oo 127 (.bin .add (tq 125) (tq 126)),
   oo 128 (.indexAddrA 8 1 (tq 2) (.const (.sc (.int .i64 7)))),
   oo 129 (.load false 1 (tq 128) false),
   oo 130 (.move (tq 14) false),
   oo 131 (.bin .add (tq 129) (tq 130)),
   oo 132 (.build [(.sc (.int .u32 0)),(.sc (.int .u32 0)),(.sc (.int .u32 0)),(.sc (.int .u32 0)),(.sc (.int .u32 0)),(.sc (.int .u32 0)),(.sc (.int .u32 0)),(.sc (.int .u32 0))] [(0,1,(tq 103)),(1,1,(tq 107)),(2,1,(tq 111)),(3,1,(tq 115)),(4,1,(tq 119)),(5,1,(tq 123)),(6,1,(tq 127)),(7,1,(tq 131))]),
   oz (.store 8 (tq 4) (tq 132))])
 .ret)
def zkp:CF:=⟨133,[.cell 4 true 8],
 (.seq (.reg [oo 2 (.box true (tq 0)),
   oo 3 (.box true (tq 1)),
   oo 4 (.alloc true [(.sc (.int .u32 0)),(.sc (.int .u32 0)),(.sc (.int .u32 0)),(.sc (.int .u32 0)),(.sc (.int .u32 0)),(.sc (.int .u32 0)),(.sc (.int .u32 0)),(.sc (.int .u32 0))])])
 (.seq (.reg [oo 18 (.load true 64 (tq 3) false),
   oo 19 (.call 569 [((tq 18),0)] []),
   oo 20 (.call 570 [] []),
   oo 5 (.alloc true (rp 64 (.sc (.int .u32 0)) [])),
   oo 6 (.alloc true (rp 64 (.sc (.int .u32 0)) [])),
   oz (.store 64 (tq 5) (tq 19)),
   oz (.store 64 (tq 6) (tq 20))])
 (.seq (.dreg [] [(oo 21 (.indexAddrA 8 1 (tq 2) (.const (.sc (.int .i64 0)))),q0),
   (oo 22 (.load false 1 (tq 21) false),qc [] []),
   (oo 23 (.indexAddrA 8 1 (tq 2) (.const (.sc (.int .i64 1)))),q0),
   (oo 24 (.load false 1 (tq 23) false),qc [] []),
   (oo 25 (.indexAddrA 8 1 (tq 2) (.const (.sc (.int .i64 2)))),q0),
   (oo 26 (.load false 1 (tq 25) false),qc [] []),
   (oo 27 (.indexAddrA 8 1 (tq 2) (.const (.sc (.int .i64 3)))),q0),
   (oo 28 (.load false 1 (tq 27) false),qc [] []),
   (oo 29 (.indexAddrA 8 1 (tq 2) (.const (.sc (.int .i64 4)))),q0),
   (oo 30 (.load false 1 (tq 29) false),qc [] []),
   (oo 31 (.indexAddrA 8 1 (tq 2) (.const (.sc (.int .i64 5)))),q0),
   (oo 32 (.load false 1 (tq 31) false),qc [] []),
   (oo 33 (.indexAddrA 8 1 (tq 2) (.const (.sc (.int .i64 6)))),q0),
   (oo 34 (.load false 1 (tq 33) false),qc [] []),
   (oo 35 (.indexAddrA 8 1 (tq 2) (.const (.sc (.int .i64 7)))),q0),
   (oo 36 (.load false 1 (tq 35) false),qc [] []),
   (oo 7 (.move (tq 22) false),q0),
   (oo 8 (.move (tq 24) false),q0),
   (oo 9 (.move (tq 26) false),q0),
   (oo 10 (.move (tq 28) false),q0),
   (oo 11 (.move (tq 30) false),q0),
   (oo 12 (.move (tq 32) false),q0),
   (oo 13 (.move (tq 34) false),q0),
   (oo 14 (.move (tq 36) false),q0)])
 (.seq (.seq (.reg [oo 15 (.move (.const (.sc (.int .i64 0))) false)])
 (.block 0 (.loop (bl 65524 133) (bl 10889035741470030808987042129089031634935 133)
 zlL)))
 zos))))⟩
def ziJ:Hint:=⟨[],[],[none,some ((bl 65524 133),(bl 10889035741470030808987042129089031634935 133)),none,some ((bl 32660 133),(bl 10889035741470030808987042129089031602071 133)),none,none],[],[],false,false,[]⟩
def zAX:Nat→Sh:=xI [(22,(.int .u32)),(24,(.int .u32)),(26,(.int .u32)),(28,(.int .u32)),(30,(.int .u32)),(32,(.int .u32)),(34,(.int .u32)),(36,(.int .u32)),(62,(.int .u32)),(66,(.int .u32)),(101,(.int .u32)),(105,(.int .u32)),(109,(.int .u32)),(113,(.int .u32)),(117,(.int .u32)),(121,(.int .u32)),(125,(.int .u32)),(129,(.int .u32))]
def zAY (zF:za9) (zC:zaT) (zl:yN) (L:Nat):CBC:=(xr 571 (zpV zl L) (xr 570 (zrc zC L) (xr 569 (zso zF L) noC)))
def zxq:St→St:=yJ 0 (bl 65524 133) (bl 10889035741470030808987042129089031634935 133)
def zvH (p7 p8 p9 p10 p11 p12 p13 p14 p15:Int) (b2:List V) (zE6 zE7 zE8 zE9 zFa zFb zFc zFd:Int) (b5 b6:List V):St:=⟨(jn 2 ((V.ptr 2 0)::(jn 1 ((V.ptr 4 0)::((V.ptr 5 0)::((V.ptr 6 0)::((V.sc (.int .u32 p7))::((V.sc (.int .u32 p8))::((V.sc (.int .u32 p9))::((V.sc (.int .u32 p10))::((V.sc (.int .u32 p11))::((V.sc (.int .u32 p12))::((V.sc (.int .u32 p13))::((V.sc (.int .u32 p14))::((V.sc (.int .i64 p15))::(jn 117 [])))))))))))))))),(gn 2 ((.live true b2)::(gn 1 ((.live true [(V.sc (.int .u32 zE6)),(V.sc (.int .u32 zE7)),(V.sc (.int .u32 zE8)),(V.sc (.int .u32 zE9)),(V.sc (.int .u32 zFa)),(V.sc (.int .u32 zFb)),(V.sc (.int .u32 zFc)),(V.sc (.int .u32 zFd))])::((.live true b5)::((.live true b6)::(gn 126 [])))))))⟩
def zyK (p7 p8 p9 p10 p11 p12 p13 p14:Int) (b2:List V) (zE6 zE7 zE8 zE9 zFa zFb zFc zFd:Int):St:=⟨(jn 2 ((V.ptr 2 0)::(jn 1 ((V.ptr 4 0)::(jn 2 ((V.sc (.int .u32 p7))::((V.sc (.int .u32 p8))::((V.sc (.int .u32 p9))::((V.sc (.int .u32 p10))::((V.sc (.int .u32 p11))::((V.sc (.int .u32 p12))::((V.sc (.int .u32 p13))::((V.sc (.int .u32 p14))::(jn 118 [])))))))))))))),(gn 2 ((.live true b2)::(gn 1 ((.live true [(V.sc (.int .u32 zE6)),(V.sc (.int .u32 zE7)),(V.sc (.int .u32 zE8)),(V.sc (.int .u32 zE9)),(V.sc (.int .u32 zFa)),(V.sc (.int .u32 zFb)),(V.sc (.int .u32 zFc)),(V.sc (.int .u32 zFd))])::(gn 128 [])))))⟩
abbrev zgj (β:Type):Type:=Int→Int→Int→Int→Int→Int→Int→Int→Int→List V→Int→Int→Int→Int→Int→Int→Int→Int→List V→List V→Option β
abbrev zjD (β:Type):Type:=Int→Int→Int→Int→Int→Int→Int→Int→List V→Int→Int→Int→Int→Int→Int→Int→Int→Option β
def zsb {β:Type} (zF:za9) (zC:zaT) (zl:yN) (L:Nat) (p0 p1:List V) (k_hbbbaba:zgj β):Option β :=
 chk (0+64≤(List.length p1)) (
 zF β L (List.take 64 p1) (fun v0 =>
 zC β L  (fun v1 =>
 chk ((List.length v0)=64∧0+64≤64) (
 lt (xk (List.replicate 64 (V.sc (.int .u32 (0:Int)))) 0 v0) fun r2 =>
 chk ((List.length v1)=64∧0+64≤64) (
 lt (xk (List.replicate 64 (V.sc (.int .u32 (0:Int)))) 0 v1) fun r3 =>
 cI .u32 p0 0 fun v4 =>
 cI .u32 p0 1 fun v5 =>
 cI .u32 p0 2 fun v6 =>
 cI .u32 p0 3 fun v7 =>
 cI .u32 p0 4 fun v8 =>
 cI .u32 p0 5 fun v9 =>
 cI .u32 p0 6 fun v10 =>
 cI .u32 p0 7 fun v11 =>
 k_hbbbaba v4 v5 v6 v7 v8 v9 v10 v11 (0:Int) p0 (0:Int) (0:Int) (0:Int) (0:Int) (0:Int) (0:Int) (0:Int) (0:Int) r2 r3)))))
def zmE {β:Type} (zF:za9) (zC:zaT) (zl:yN) (L:Nat) (p7 p8 p9 p10 p11 p12 p13 p14 p15:Int) (b2:List V) (zE6 zE7 zE8 zE9 zFa zFb zFc zFd:Int) (b5 b6:List V) (k_hbbbaba:zgj β) (k_x0:zjD β):Option β :=
 ifb (decide (p15 < (64:Int))) (
 zl β L p11 (6:Int) (fun v12 =>
 zl β L p11 (11:Int) (fun v13 =>
 lt (zaR .u32 v12 v13) fun x14 =>
 zl β L p11 (25:Int) (fun v15 =>
 lt (zaR .u32 x14 v15) fun x16 =>
 lt (IntKind.wrap .u32 ((p14:Int)+x16)) fun x17 =>
 lt (zdN .u32 p11 p12) fun x18 =>
 lt (zBm .u32 p11) fun x19 =>
 lt (zdN .u32 x19 p13) fun x20 =>
 lt (zaR .u32 x18 x20) fun x21 =>
 lt (IntKind.wrap .u32 ((x17:Int)+x21)) fun x22 =>
 chk (0≤p15∧p15 < ((64:Nat):Int)) (
 cI .u32 b6 (0+((Int.toNat p15) * 1)) fun v23 =>
 lt (IntKind.wrap .u32 ((x22:Int)+v23)) fun x24 =>
 chk (0≤p15∧p15 < ((64:Nat):Int)) (
 cI .u32 b5 (0+((Int.toNat p15) * 1)) fun v25 =>
 lt (IntKind.wrap .u32 ((x24:Int)+v25)) fun x26 =>
 zl β L p7 (2:Int) (fun v27 =>
 zl β L p7 (13:Int) (fun v28 =>
 lt (zaR .u32 v27 v28) fun x29 =>
 zl β L p7 (22:Int) (fun v30 =>
 lt (zaR .u32 x29 v30) fun x31 =>
 lt (zdN .u32 p7 p8) fun x32 =>
 lt (zdN .u32 p7 p9) fun x33 =>
 lt (zaR .u32 x32 x33) fun x34 =>
 lt (zdN .u32 p8 p9) fun x35 =>
 lt (zaR .u32 x34 x35) fun x36 =>
 lt (IntKind.wrap .u32 ((x31:Int)+x36)) fun x37 =>
 lt (IntKind.wrap .u32 ((p10:Int)+x26)) fun x38 =>
 lt (IntKind.wrap .u32 ((x26:Int)+x37)) fun x39 =>
 lt (IntKind.wrap .i64 ((p15:Int)+(1:Int))) fun x40 =>
 k_hbbbaba x39 p7 p8 p9 x38 p11 p12 p13 x40 b2 zE6 zE7 zE8 zE9 zFa zFb zFc zFd b5 b6))))))))) (
 k_x0 p7 p8 p9 p10 p11 p12 p13 p14 b2 zE6 zE7 zE8 zE9 zFa zFb zFc zFd)
def zli {β:Type} (zF:za9) (zC:zaT) (zl:yN) (L:Nat) (p7 p8 p9 p10 p11 p12 p13 p14:Int) (b2:List V) (zE6 zE7 zE8 zE9 zFa zFb zFc zFd:Int) (k_fin:List V→Option β):Option β :=
 cI .u32 b2 0 fun v41 =>
 lt (IntKind.wrap .u32 ((v41:Int)+p7)) fun x42 =>
 cI .u32 b2 1 fun v43 =>
 lt (IntKind.wrap .u32 ((v43:Int)+p8)) fun x44 =>
 cI .u32 b2 2 fun v45 =>
 lt (IntKind.wrap .u32 ((v45:Int)+p9)) fun x46 =>
 cI .u32 b2 3 fun v47 =>
 lt (IntKind.wrap .u32 ((v47:Int)+p10)) fun x48 =>
 cI .u32 b2 4 fun v49 =>
 lt (IntKind.wrap .u32 ((v49:Int)+p11)) fun x50 =>
 cI .u32 b2 5 fun v51 =>
 lt (IntKind.wrap .u32 ((v51:Int)+p12)) fun x52 =>
 cI .u32 b2 6 fun v53 =>
 lt (IntKind.wrap .u32 ((v53:Int)+p13)) fun x54 =>
 cI .u32 b2 7 fun v55 =>
 lt (IntKind.wrap .u32 ((v55:Int)+p14)) fun x56 =>
 lt [(V.sc (.int .u32 x42)),(V.sc (.int .u32 x44)),(V.sc (.int .u32 x46)),(V.sc (.int .u32 x48)),(V.sc (.int .u32 x50)),(V.sc (.int .u32 x52)),(V.sc (.int .u32 x54)),(V.sc (.int .u32 x56))] fun r57 =>
 chk (0=0∧(List.length r57)=8∧8≠0) (
 k_fin r57)
def zgH {β:Type} (zF:za9) (zC:zaT) (zl:yN) (L:Nat) (k_x0:zjD β):Nat→Int→Int→Int→Int→Int→Int→Int→Int→Int→List V→Int→Int→Int→Int→Int→Int→Int→Int→List V→List V→Option β
 | 0,_,_,_,_,_,_,_,_,_,_,_,_,_,_,_,_,_,_,_,_=>none
 | n+1,p7,p8,p9,p10,p11,p12,p13,p14,p15,b2,zE6,zE7,zE8,zE9,zFa,zFb,zFc,zFd,b5,b6=>zmE zF zC zl L p7 p8 p9 p10 p11 p12 p13 p14 p15 b2 zE6 zE7 zE8 zE9 zFa zFb zFc zFd b5 b6 (fun p7 p8 p9 p10 p11 p12 p13 p14 p15 b2 zE6 zE7 zE8 zE9 zFa zFb zFc zFd b5 b6=>zgH zF zC zl L k_x0 n p7 p8 p9 p10 p11 p12 p13 p14 p15 b2 zE6 zE7 zE8 zE9 zFa zFb zFc zFd b5 b6) k_x0
def zr6 {β:Type} (zF:za9) (zC:zaT) (zl:yN) (L:Nat) (p0 p1:List V) (k_fin:List V→Option β):Option β :=
 zsb zF zC zl L p0 p1 (fun p7 p8 p9 p10 p11 p12 p13 p14 p15 b2 zE6 zE7 zE8 zE9 zFa zFb zFc zFd b5 b6=>zgH zF zC zl L (fun p7 p8 p9 p10 p11 p12 p13 p14 b2 zE6 zE7 zE8 zE9 zFa zFb zFc zFd=>zli zF zC zl L p7 p8 p9 p10 p11 p12 p13 p14 b2 zE6 zE7 zE8 zE9 zFa zFb zFc zFd k_fin) L p7 p8 p9 p10 p11 p12 p13 p14 p15 b2 zE6 zE7 zE8 zE9 zFa zFb zFc zFd b5 b6)
abbrev xS:=∀ (β:Type),Nat→List V→List V→(List V→Option β)→Option β
def yq (β:Type) (L:Nat) (p0 p1:List V) (k_fin:List V→Option β):Option β:=zr6 zF zC zl L p0 p1 k_fin
def zrX (yq:xS) (L:Nat) (β:Type) (args:List V) (bor:Bor) (k:KK β):Option β:=match args,bor with
 | [a0,a1],[]=>aG a0 fun p0=>aG a1 fun p1=>yq β L p0 p1 (fun p0=>k (V.agg p0) [])
 | _,_=>none
def znS:CC:=(.seq (.reg [oo 35 (.bin .lss (tq 34) (.const (.sc (.int .i64 8))))])
 (.seq (.cond (tq 35)
 .skip
 (.seq (.mask (bl 132 66) (bl 73786976294838205615 66))
 (.exit 2)))
 (.seq (.block 3 (.seq (.reg [oo 36 (.move (tq 34) false),
   oo 37 (.indexA false 8 1 (tq 33) (tq 34)),
   oo 8 (.move (tq 36) false),
   oo 9 (.move (tq 37) false)])
 (.reg [oo 38 (.move (tq 8) false),
   oo 39 (.bin .mul (.const (.sc (.int .i64 4))) (tq 38)),
   oo 40 (.move (tq 8) false),
   oo 41 (.bin .mul (.const (.sc (.int .i64 4))) (tq 40)),
   oo 42 (.bin .add (tq 41) (.const (.sc (.int .i64 1)))),
   oo 43 (.move (tq 8) false),
   oo 44 (.bin .mul (.const (.sc (.int .i64 4))) (tq 43)),
   oo 45 (.bin .add (tq 44) (.const (.sc (.int .i64 2)))),
   oo 46 (.move (tq 8) false),
   oo 47 (.bin .mul (.const (.sc (.int .i64 4))) (tq 46)),
   oo 48 (.bin .add (tq 47) (.const (.sc (.int .i64 3)))),
   oo 49 (.move (tq 9) false),
   oo 50 (.bin .shr (tq 49) (.const (.sc (.int .u64 24)))),
   oo 51 (.conv .u8 (tq 50)),
   oo 52 (.move (tq 9) false),
   oo 53 (.bin .shr (tq 52) (.const (.sc (.int .u64 16)))),
   oo 54 (.conv .u8 (tq 53)),
   oo 55 (.move (tq 9) false),
   oo 56 (.bin .shr (tq 55) (.const (.sc (.int .u64 8)))),
   oo 57 (.conv .u8 (tq 56)),
   oo 58 (.move (tq 9) false),
   oo 59 (.conv .u8 (tq 58)),
   oo 60 (.indexAddrA 32 1 (tq 7) (tq 39)),
   oz (.store 1 (tq 60) (tq 51)),
   oo 61 (.indexAddrA 32 1 (tq 7) (tq 42)),
   oz (.store 1 (tq 61) (tq 54)),
   oo 62 (.indexAddrA 32 1 (tq 7) (tq 45)),
   oz (.store 1 (tq 62) (tq 57)),
   oo 63 (.indexAddrA 32 1 (tq 7) (tq 48)),
   oz (.store 1 (tq 63) (tq 59))])))
 (.reg [oo 64 (.bin .add (tq 34) (.const (.sc (.int .i64 1)))),
   oo 34 (.move (tq 64) false)]))))
def zqJ:CC:=(.seq (.seq (.reg [oo 18 (.move (tq 5) false),
   oo 19 (.bin .add (tq 18) (.const (.sc (.int .i64 64)))),
   oo 20 (.move (tq 3) false),
   oo 21 (.lenS (tq 20)),
   oo 22 (.bin .leq (tq 19) (tq 21))])
 (.cond (tq 22)
 .skip
 (.seq (.mask (bl 20 66) (bl 73786976290004270879 66))
 (.exit 0))))
 (.seq (.block 1 (.seq (.reg [oo 6 (.alloc true (rp 64 (.sc (.int .u8 0)) []))])
 (.seq (.dreg [] [(oo 25 (.sliceA 64 1 (tq 6) none none none),q0),
   (oo 26 (.move (tq 3) false),q0),
   (oo 27 (.move (tq 5) false),q0),
   (oo 28 (.sliceS 1 (tq 26) (some (tq 27)) none none),q0),
   (oo 29 (.copy 1 (tq 25) (tq 28)),q0)])
 (.reg [oo 30 (.load true 8 (tq 4) false),
   oo 31 (.load true 64 (tq 6) false),
   oo 32 (.call 533 [((tq 30),0),((tq 31),0)] []),
   oz (.store 8 (tq 4) (tq 32))]))))
 (.reg [oo 23 (.move (tq 5) false),
   oo 24 (.bin .add (tq 23) (.const (.sc (.int .i64 64)))),
   oo 5 (.move (tq 24) false)])))
def zrx:CC:=(.seq (.reg [oo 65 (.load true 32 (tq 7) false),
   oz (.store 32 (tq 2) (tq 65))])
 .ret)
def ztx:CC:=(.seq (.reg [oo 7 (.alloc true (rp 32 (.sc (.int .u8 0)) []))])
 (.seq (.seq (.reg [oo 33 (.load true 8 (tq 4) false),
   oo 34 (.move (.const (.sc (.int .i64 0))) false)])
 (.block 2 (.loop (bl 25769803908 66) (bl 73786976294838205615 66)
 znS)))
 zrx))
def zqs:CF:=⟨66,[.cell 2 true 32],
 (.seq (.reg [oo 2 (.alloc true (rp 32 (.sc (.int .u8 0)) []))])
 (.seq (.reg [oo 10 (.move (tq 0) false),
   oo 11 (.append 1 1 (.const (.gs 1 [])) (tq 10)),
   oo 12 (.move (tq 0) false),
   oo 13 (.lenS (tq 12)),
   oo 14 (.conv .u64 (tq 13)),
   oo 15 (.call 531 [((tq 14),0)] []),
   oo 16 (.append 1 1 (tq 11) (tq 15)),
   oo 3 (.move (tq 16) true)])
 (.seq (.reg [oo 17 (.call 532 [] []),
   oo 4 (.alloc true [(.sc (.int .u32 0)),(.sc (.int .u32 0)),(.sc (.int .u32 0)),(.sc (.int .u32 0)),(.sc (.int .u32 0)),(.sc (.int .u32 0)),(.sc (.int .u32 0)),(.sc (.int .u32 0))]),
   oz (.store 8 (tq 4) (tq 17))])
 (.seq (.seq (.reg [oo 5 (.move (.const (.sc (.int .i64 0))) false)])
 (.block 0 (.loop (bl 60 66) (bl 73786976290004270911 66)
 zqJ)))
 ztx))))⟩
def znp:Hint:=⟨[(1,7)],[],[none,some ((bl 60 66),(bl 73786976290004270911 66)),none,some ((bl 20 66),(bl 73786976290004270879 66)),none,none,some ((bl 25769803908 66),(bl 73786976294838205615 66)),none,some ((bl 132 66),(bl 73786976294838205615 66)),none,none],[],[],false,false,[]⟩
def zD6:Nat→Sh:=xI [(37,(.int .u32))]
def zD1 (xC:za4) (yu:yX) (yq:xS) (L:Nat):CBC:=(xr 533 (zrX yq L) (xr 532 (zsC yu L) (xr 531 (zxM xC L) noC)))
def zAV:St→St:=yJ 0 (bl 60 66) (bl 73786976290004270911 66)
def zzC:St→St:=yJ 0 (bl 25769803908 66) (bl 73786976294838205615 66)
def zy2 (p3:List (List V)) (p5:Int) (b2 b4:List V):St:=⟨(jn 2 ((V.ptr 2 0)::((V.gs 1 p3)::((V.ptr 4 0)::((V.sc (.int .i64 p5))::(jn 60 [])))))),(gn 2 ((.live true b2)::(gn 1 ((.live true b4)::(gn 61 [])))))⟩
def zCi (b2 b4:List V):St:=⟨(jn 2 ((V.ptr 2 0)::(jn 1 ((V.ptr 4 0)::(jn 61 []))))),(gn 2 ((.live true b2)::(gn 1 ((.live true b4)::(gn 61 [])))))⟩
def zxm (p33:List V) (p34:Int) (b2 b7:List V):St:=⟨(jn 2 ((V.ptr 2 0)::(jn 4 ((V.ptr 7 0)::(jn 25 ((V.agg p33)::((V.sc (.int .i64 p34))::(jn 31 [])))))))),(gn 2 ((.live true b2)::(gn 4 ((.live true b7)::(gn 58 [])))))⟩
def zCs (b2 b7:List V):St:=⟨(jn 2 ((V.ptr 2 0)::(jn 4 ((V.ptr 7 0)::(jn 58 []))))),(gn 2 ((.live true b2)::(gn 4 ((.live true b7)::(gn 58 [])))))⟩
def zxC {β:Type} (xC:za4) (yu:yX) (yq:xS) (L:Nat) (p0:List (List V)) (k_hbbbaba:List (List V)→Int→List V→List V→Option β):Option β :=
 chk ((List.length ([]:List (List V))+List.length p0) * 1≤xg∧List.length ([]:List (List V))+List.length p0≤xg) (
 lt (([]:List (List V))++p0) fun l0 =>
 lt (IntKind.wrap .u64 ((List.length p0:Nat):Int)) fun x1 =>
 xC β L x1 (fun v2 =>
 chk ((List.length l0+List.length v2) * 1≤xg∧List.length l0+List.length v2≤xg) (
 lt (l0++v2) fun l3 =>
 yu β L  (fun v4 =>
 chk ((List.length v4)=8∧0+8≤8) (
 lt (xk [(V.sc (.int .u32 (0:Int))),(V.sc (.int .u32 (0:Int))),(V.sc (.int .u32 (0:Int))),(V.sc (.int .u32 (0:Int))),(V.sc (.int .u32 (0:Int))),(V.sc (.int .u32 (0:Int))),(V.sc (.int .u32 (0:Int))),(V.sc (.int .u32 (0:Int)))] 0 v4) fun r5 =>
 k_hbbbaba l3 (0:Int) (List.replicate 32 (V.sc (.int .u8 (0:Int)))) r5)))))
def zrm {β:Type} (xC:za4) (yu:yX) (yq:xS) (L:Nat) (p3:List (List V)) (p5:Int) (b2 b4:List V) (k_hbbbaba:List (List V)→Int→List V→List V→Option β) (k_x0:List V→List V→Option β):Option β :=
 lt (IntKind.wrap .i64 ((p5:Int)+(64:Int))) fun x6 =>
 ifb (decide (x6≤((List.length p3:Nat):Int))) (
 chk (0≤p5∧p5≤(((List.length p3):Nat):Int)) (
 lt (xk (List.replicate 64 (V.sc (.int .u8 (0:Int)))) 0 (List.flatten (List.take (min (List.length (List.take ((List.length p3) - (Int.toNat p5)) (List.drop (Int.toNat p5) p3))) 64) (List.take ((List.length p3) - (Int.toNat p5)) (List.drop (Int.toNat p5) p3))))) fun r7 =>
 chk (0+8≤(List.length b4)) (
 chk (0+64≤(List.length r7)) (
 yq β L (List.take 8 b4) (List.take 64 r7) (fun v8 =>
 chk ((List.length v8)=8∧0+8≤(List.length b4)) (
 lt (xk b4 0 v8) fun r9 =>
 lt (IntKind.wrap .i64 ((p5:Int)+(64:Int))) fun x10 =>
 k_hbbbaba p3 x10 b2 r9)))))) (
 k_x0 b2 b4)
def zpi {β:Type} (xC:za4) (yu:yX) (yq:xS) (L:Nat) (b2 b4:List V) (k_hbbbbbaba:List V→Int→List V→List V→Option β):Option β :=
 chk (0+8≤(List.length b4)) (
 k_hbbbbbaba (List.take 8 b4) (0:Int) b2 (List.replicate 32 (V.sc (.int .u8 (0:Int)))))
def zpp {β:Type} (xC:za4) (yu:yX) (yq:xS) (L:Nat) (p33:List V) (p34:Int) (b2 b7:List V) (k_hbbbbbaba:List V→Int→List V→List V→Option β) (k_x2:List V→List V→Option β):Option β :=
 ifb (decide (p34 < (8:Int))) (
 chk (0≤p34∧p34 < ((8:Nat):Int)) (
 cI .u32 p33 ((Int.toNat p34) * 1) fun v11 =>
 lt (IntKind.wrap .i64 (((4:Int):Int) * p34)) fun x12 =>
 lt (IntKind.wrap .i64 (((4:Int):Int) * p34)) fun x13 =>
 lt (IntKind.wrap .i64 ((x13:Int)+(1:Int))) fun x14 =>
 lt (IntKind.wrap .i64 (((4:Int):Int) * p34)) fun x15 =>
 lt (IntKind.wrap .i64 ((x15:Int)+(2:Int))) fun x16 =>
 lt (IntKind.wrap .i64 (((4:Int):Int) * p34)) fun x17 =>
 lt (IntKind.wrap .i64 ((x17:Int)+(3:Int))) fun x18 =>
 lt (zdJ .u32 v11 (24:Int)) fun x19 =>
 lt (IntKind.wrap .u8 x19) fun x20 =>
 lt (zdJ .u32 v11 (16:Int)) fun x21 =>
 lt (IntKind.wrap .u8 x21) fun x22 =>
 lt (zdJ .u32 v11 (8:Int)) fun x23 =>
 lt (IntKind.wrap .u8 x23) fun x24 =>
 lt (IntKind.wrap .u8 v11) fun x25 =>
 chk (0≤x12∧x12 < ((32:Nat):Int)) (
 chk (1=1∧(0+((Int.toNat x12) * 1))+1≤(List.length b7)) (
 lt (xk b7 (0+((Int.toNat x12) * 1)) [(V.sc (.int .u8 x20))]) fun r26 =>
 chk (0≤x14∧x14 < ((32:Nat):Int)) (
 chk (1=1∧(0+((Int.toNat x14) * 1))+1≤(List.length r26)) (
 lt (xk r26 (0+((Int.toNat x14) * 1)) [(V.sc (.int .u8 x22))]) fun r27 =>
 chk (0≤x16∧x16 < ((32:Nat):Int)) (
 chk (1=1∧(0+((Int.toNat x16) * 1))+1≤(List.length r27)) (
 lt (xk r27 (0+((Int.toNat x16) * 1)) [(V.sc (.int .u8 x24))]) fun r28 =>
 chk (0≤x18∧x18 < ((32:Nat):Int)) (
 chk (1=1∧(0+((Int.toNat x18) * 1))+1≤(List.length r28)) (
 lt (xk r28 (0+((Int.toNat x18) * 1)) [(V.sc (.int .u8 x25))]) fun r29 =>
 lt (IntKind.wrap .i64 ((p34:Int)+(1:Int))) fun x30 =>
 k_hbbbbbaba p33 x30 b2 r29)))))))))) (
 k_x2 b2 b7)
def znM {β:Type} (xC:za4) (yu:yX) (yq:xS) (L:Nat) (b2 b7:List V) (k_fin:List V→Option β):Option β :=
 chk (0+32≤(List.length b7)) (
 chk ((List.length (List.take 32 b7))=32∧0+32≤(List.length b2)) (
 lt (xk b2 0 (List.take 32 b7)) fun r31 =>
 chk (0=0∧(List.length r31)=32∧32≠0) (
 k_fin r31)))
def zkb {β:Type} (xC:za4) (yu:yX) (yq:xS) (L:Nat) (k_x0:List V→List V→Option β):Nat→List (List V)→Int→List V→List V→Option β
 | 0,_,_,_,_=>none
 | n+1,p3,p5,b2,b4=>zrm xC yu yq L p3 p5 b2 b4 (fun p3 p5 b2 b4=>zkb xC yu yq L k_x0 n p3 p5 b2 b4) k_x0
def ziI {β:Type} (xC:za4) (yu:yX) (yq:xS) (L:Nat) (k_x2:List V→List V→Option β):Nat→List V→Int→List V→List V→Option β
 | 0,_,_,_,_=>none
 | n+1,p33,p34,b2,b7=>zpp xC yu yq L p33 p34 b2 b7 (fun p33 p34 b2 b7=>ziI xC yu yq L k_x2 n p33 p34 b2 b7) k_x2
def zn1 {β:Type} (xC:za4) (yu:yX) (yq:xS) (L:Nat) (b2 b4:List V) (k_fin:List V→Option β):Option β :=
 zpi xC yu yq L b2 b4 (fun p33 p34 b2 b7=>ziI xC yu yq L (fun b2 b7=>znM xC yu yq L b2 b7 k_fin) L p33 p34 b2 b7)
def zxy {β:Type} (xC:za4) (yu:yX) (yq:xS) (L:Nat) (p0:List (List V)) (k_fin:List V→Option β):Option β :=
 zxC xC yu yq L p0 (fun p3 p5 b2 b4=>zkb xC yu yq L (fun b2 b4=>zn1 xC yu yq L b2 b4 k_fin) L p3 p5 b2 b4)
abbrev zmZ:=∀ (β:Type),Nat→List (List V)→(List V→Option β)→Option β
def zbX (β:Type) (L:Nat) (p0:List (List V)) (k_fin:List V→Option β):Option β:=zxy xC yu yq L p0 k_fin
def zxJ (zbX:zmZ) (L:Nat) (β:Type) (args:List V) (bor:Bor) (k:KK β):Option β:=match args,bor with
 | [a0],[]=>aL 1 a0 fun p0=>zbX β L p0 (fun p0=>k (V.agg p0) [])
 | _,_=>none
def zma:CF:=⟨8,[.cell 2 true 32],
 (.seq (.reg [oo 2 (.alloc true (rp 32 (.sc (.int .u8 0)) []))])
 (.seq (.reg [oo 4 (.move (tq 0) false),
   oo 5 (.call 494 [((tq 4),0)] []),
   oo 3 (.alloc true (rp 32 (.sc (.int .u8 0)) [])),
   oz (.store 32 (tq 3) (tq 5))])
 (.seq (.reg [oo 6 (.sliceA 32 1 (tq 3) none none none),
   oo 7 (.call 494 [((tq 6),0)] []),
   oz (.store 32 (tq 2) (tq 7))])
 .ret)))⟩
def zkl:Hint:=⟨[],[],[none],[],[],false,false,[]⟩
def zCu:Nat→Sh:=xI []
def zCA (zbX:zmZ) (L:Nat):CBC:=(xr 494 (zxJ zbX L) noC)
def zt2 {β:Type} (zbX:zmZ) (L:Nat) (p0:List (List V)) (k_fin:List V→Option β):Option β :=
 zbX β L p0 (fun v0 =>
 chk ((List.length v0)=32∧0+32≤32) (
 lt (xk (List.replicate 32 (V.sc (.int .u8 (0:Int)))) 0 v0) fun r1 =>
 chk (0+32 * 1≤(List.length r1)) (
 ifb (List.isEmpty r1) (
 zbX β L (yf 1 32 r1) (fun v2 =>
 chk ((List.length v2)=32∧0+32≤32) (
 lt (xk (List.replicate 32 (V.sc (.int .u8 (0:Int)))) 0 v2) fun r3 =>
 chk (0=0∧(List.length r3)=32∧32≠0) (
 k_fin r3)))) (
 zbX β L (yf 1 32 r1) (fun v4 =>
 chk ((List.length v4)=32∧0+32≤32) (
 lt (xk (List.replicate 32 (V.sc (.int .u8 (0:Int)))) 0 v4) fun r5 =>
 chk (0=0∧(List.length r5)=32∧32≠0) (
 k_fin r5)))))))
abbrev zd4:=∀ (β:Type),Nat→List (List V)→(List V→Option β)→Option β
def yV (β:Type) (L:Nat) (p0:List (List V)) (k_fin:List V→Option β):Option β:=zt2 zbX L p0 k_fin
def zni (yV:zd4) (L:Nat) (β:Type) (args:List V) (bor:Bor) (k:KK β):Option β:=match args,bor with
 | [a0],[]=>aL 1 a0 fun p0=>yV β L p0 (fun p0=>k (V.agg p0) [])
 | _,_=>none
def zrL:CF:=⟨10,[.cell 2 true 32],
 (.seq (.reg [oo 1 (.box true (tq 0)),
   oo 2 (.alloc true (rp 32 (.sc (.int .u8 0)) []))])
 (.seq (.seq (.reg [oo 3 (.load true 4 (tq 1) false),
   oo 4 (.call 148 [((tq 3),1)] []),
   oo 5 (.un .not (tq 4))])
 (.cond (tq 5)
 (.seq (.reg [oo 6 (.build (rp 32 (.sc (.int .u8 0)) []) []),
   oz (.store 32 (tq 2) (tq 6))])
 .ret)
 .skip))
 (.seq (.reg [oo 7 (.load true 4 (tq 1) false),
   oo 8 (.call 149 [((tq 7),1),((.const (.sc (.bool false))),0)] []),
   oo 9 (.call 454 [((tq 8),0)] []),
   oz (.store 32 (tq 2) (tq 9))])
 .ret)))⟩
def zo2:Hint:=⟨[(0,0)],[],[none,none,none],[],[],false,false,[]⟩
def zEh:Nat→Sh:=xI []
def zEi (zN:zcV) (xe:xx) (yV:zd4) (L:Nat):CBC:=(xr 454 (zni yV L) (xr 149 (zf0 xe L) (xr 148 (zlC zN L) noC)))
def zzn {β:Type} (zN:zcV) (xe:xx) (yV:zd4) (L:Nat) (p0:List V) (k_fin:List V→Option β):Option β :=
 chk (0+4≤(List.length p0)) (
 zN β L (List.map V.dem (List.take 4 p0)) (fun v0 =>
 ifb (!v0) (
 lt (List.replicate 32 (V.sc (.int .u8 (0:Int)))) fun r1 =>
 chk (0=0∧(List.length r1)=32∧32≠0) (
 k_fin r1)) (
 chk (0+4≤(List.length p0)) (
 xe β L (List.map V.dem (List.take 4 p0)) false (fun v2 =>
 yV β L v2 (fun v3 =>
 chk ((List.length v3)=32∧0+32≤32) (
 lt (xk (List.replicate 32 (V.sc (.int .u8 (0:Int)))) 0 v3) fun r4 =>
 chk (0=0∧(List.length r4)=32∧32≠0) (
 k_fin r4))))))))
abbrev zoF:=∀ (β:Type),Nat→List V→(List V→Option β)→Option β
def zev (β:Type) (L:Nat) (p0:List V) (k_fin:List V→Option β):Option β:=zzn zN xe yV L p0 k_fin
def zzm (zev:zoF) (L:Nat) (β:Type) (args:List V) (bor:Bor) (k:KK β):Option β:=match args,bor with
 | [a0],[]=>aG a0 fun p0=>zev β L p0 (fun p0=>k (V.agg p0) [])
 | _,_=>none
def zsT:CF:=⟨5,[.cell 2 true 32],
 (.seq (.reg [oo 1 (.box true (tq 0)),
   oo 2 (.alloc true (rp 32 (.sc (.int .u8 0)) []))])
 (.seq (.reg [oo 3 (.load true 4 (tq 1) false),
   oo 4 (.call 583 [((tq 3),1),((.const (.sc (.bool true))),0)] []),
   oz (.store 32 (tq 2) (tq 4))])
 .ret))⟩
def zpE:Hint:=⟨[(0,0)],[],[none],[],[],false,false,[]⟩
def zEw:Nat→Sh:=xI []
def zEl (zH:zeL) (L:Nat):CBC:=(xr 583 (zgF zH L) noC)
def zAH {β:Type} (zH:zeL) (L:Nat) (p0:List V) (k_fin:List V→Option β):Option β :=
 chk (0+4≤(List.length p0)) (
 zH β L (List.map V.dem (List.take 4 p0)) true (fun v0 =>
 chk ((List.length v0)=32∧0+32≤32) (
 lt (xk (List.replicate 32 (V.sc (.int .u8 (0:Int)))) 0 v0) fun r1 =>
 chk (0=0∧(List.length r1)=32∧32≠0) (
 k_fin r1))))
abbrev zqB:=∀ (β:Type),Nat→List V→(List V→Option β)→Option β
def zfB (β:Type) (L:Nat) (p0:List V) (k_fin:List V→Option β):Option β:=zAH zH L p0 k_fin
def zz1 (zfB:zqB) (L:Nat) (β:Type) (args:List V) (bor:Bor) (k:KK β):Option β:=match args,bor with
 | [a0],[]=>aG a0 fun p0=>zfB β L p0 (fun p0=>k (V.agg p0) [])
 | _,_=>none
def zoW:CF:=⟨10,[.cell 2 true 32],
 (.seq (.reg [oo 1 (.box true (tq 0)),
   oo 2 (.alloc true (rp 32 (.sc (.int .u8 0)) []))])
 (.seq (.seq (.reg [oo 3 (.load true 4 (tq 1) false),
   oo 4 (.call 148 [((tq 3),1)] []),
   oo 5 (.un .not (tq 4))])
 (.cond (tq 5)
 (.seq (.reg [oo 6 (.build (rp 32 (.sc (.int .u8 0)) []) []),
   oz (.store 32 (tq 2) (tq 6))])
 .ret)
 .skip))
 (.seq (.reg [oo 7 (.load true 4 (tq 1) false),
   oo 8 (.call 149 [((tq 7),1),((.const (.sc (.bool true))),0)] []),
   oo 9 (.call 454 [((tq 8),0)] []),
   oz (.store 32 (tq 2) (tq 9))])
 .ret)))⟩
def zmm:Hint:=⟨[(0,0)],[],[none,none,none],[],[],false,false,[]⟩
def zDA:Nat→Sh:=xI []
def zDF (zN:zcV) (xe:xx) (yV:zd4) (L:Nat):CBC:=(xr 454 (zni yV L) (xr 149 (zf0 xe L) (xr 148 (zlC zN L) noC)))
def zwh {β:Type} (zN:zcV) (xe:xx) (yV:zd4) (L:Nat) (p0:List V) (k_fin:List V→Option β):Option β :=
 chk (0+4≤(List.length p0)) (
 zN β L (List.map V.dem (List.take 4 p0)) (fun v0 =>
 ifb (!v0) (
 lt (List.replicate 32 (V.sc (.int .u8 (0:Int)))) fun r1 =>
 chk (0=0∧(List.length r1)=32∧32≠0) (
 k_fin r1)) (
 chk (0+4≤(List.length p0)) (
 xe β L (List.map V.dem (List.take 4 p0)) true (fun v2 =>
 yV β L v2 (fun v3 =>
 chk ((List.length v3)=32∧0+32≤32) (
 lt (xk (List.replicate 32 (V.sc (.int .u8 (0:Int)))) 0 v3) fun r4 =>
 chk (0=0∧(List.length r4)=32∧32≠0) (
 k_fin r4))))))))
abbrev zkY:=∀ (β:Type),Nat→List V→(List V→Option β)→Option β
def zc0 (β:Type) (L:Nat) (p0:List V) (k_fin:List V→Option β):Option β:=zwh zN xe yV L p0 k_fin
def zv4 (zc0:zkY) (L:Nat) (β:Type) (args:List V) (bor:Bor) (k:KK β):Option β:=match args,bor with
 | [a0],[]=>aG a0 fun p0=>zc0 β L p0 (fun p0=>k (V.agg p0) [])
 | _,_=>none
def zml:CF:=⟨14,[.tmp 2],
 (.seq (.reg [oo 1 (.box true (tq 0)),
   oo 2 (.move (.const (.sc (.int .i64 0))) false)])
 (.seq (.seq (.reg [oo 3 (.load true 4 (tq 1) false),
   oo 4 (.call 148 [((tq 3),1)] []),
   oo 5 (.un .not (tq 4))])
 (.cond (tq 5)
 (.seq (.reg [oo 2 (.move (.const (.sc (.int .i64 0))) false)])
 .ret)
 .skip))
 (.seq (.dreg [] [(oo 6 (.load true 4 (tq 1) false),ql 1 [] []),
   (oo 7 (.call 149 [((tq 6),1),((.const (.sc (.bool false))),0)] []),qc [1] []),
   (oo 8 (.lenS (tq 7)),q0),
   (oo 9 (.bin .mul (.const (.sc (.int .i64 3))) (tq 8)),q0),
   (oo 10 (.load true 4 (tq 1) false),ql 1 [] []),
   (oo 11 (.call 149 [((tq 10),1),((.const (.sc (.bool true))),0)] []),q0),
   (oo 12 (.lenS (tq 11)),q0),
   (oo 13 (.bin .add (tq 9) (tq 12)),q0),
   (oo 2 (.move (tq 13) false),q0)])
 .ret)))⟩
def zki:Hint:=⟨[(0,0)],[],[none,none,none],[],[],false,false,[]⟩
def zCx:Nat→Sh:=xI []
def zCm (zN:zcV) (xe:xx) (L:Nat):CBC:=(xr 149 (zf0 xe L) (xr 148 (zlC zN L) noC))
def zuu {β:Type} (zN:zcV) (xe:xx) (L:Nat) (p0:List V) (k_fin:Int→Option β):Option β :=
 chk (0+4≤(List.length p0)) (
 zN β L (List.map V.dem (List.take 4 p0)) (fun v0 =>
 ifb (!v0) (
 k_fin (0:Int)) (
 chk (0+4≤(List.length p0)) (
 xe β L (List.map V.dem (List.take 4 p0)) false (fun v1 =>
 lt (IntKind.wrap .i64 (((3:Int):Int) * ((List.length v1:Nat):Int))) fun x2 =>
 chk (0+4≤(List.length p0)) (
 xe β L (List.map V.dem (List.take 4 p0)) true (fun v3 =>
 lt (IntKind.wrap .i64 ((x2:Int)+((List.length v3:Nat):Int))) fun x4 =>
 k_fin x4)))))))
abbrev ziK:=∀ (β:Type),Nat→List V→(Int→Option β)→Option β
def zbL (β:Type) (L:Nat) (p0:List V) (k_fin:Int→Option β):Option β:=zuu zN xe L p0 k_fin
def zua (zbL:ziK) (L:Nat) (β:Type) (args:List V) (bor:Bor) (k:KK β):Option β:=match args,bor with
 | [a0],[]=>aG a0 fun p0=>zbL β L p0 (fun p0=>k (V.sc (.int .i64 p0)) [])
 | _,_=>none
def zoZ:CF:=⟨6,[.tmp 2],
 (.seq (.reg [oo 1 (.box true (tq 0)),
   oo 2 (.move (.const (.sc (.bool false))) false)])
 (.seq (.reg [oo 3 (.load true 33 (tq 1) false),
   oo 4 (.build (rp 32 (.sc (.int .u8 0)) (rp 1 (.sc (.int .u32 0)) [])) [(32,1,(.const (.sc (.int .u32 4294967295))))]),
   oo 5 (.eqAgg false 33 (tq 3) (tq 4)),
   oo 2 (.move (tq 5) false)])
 .ret))⟩
def zmq:Hint:=⟨[],[],[none],[],[],false,false,[]⟩
def zDB:Nat→Sh:=xI []
def zDD (L:Nat):CBC:=noC
def zv8 {β:Type} (L:Nat) (p0:List V) (k_fin:Bool→Option β):Option β :=
 chk (0+33≤(List.length p0)) (
 eqC 33 (List.take 33 p0) (List.replicate 32 (V.sc (.int .u8 (0:Int)))++[(V.sc (.int .u32 (4294967295:Int)))]) fun v0 =>
 k_fin v0)
abbrev zk7:=∀ (β:Type),Nat→List V→(Bool→Option β)→Option β
def zcZ (β:Type) (L:Nat) (p0:List V) (k_fin:Bool→Option β):Option β:=zv8 L p0 k_fin
def zwe (zcZ:zk7) (L:Nat) (β:Type) (args:List V) (bor:Bor) (k:KK β):Option β:=match args,bor with
 | [a0],[]=>aG a0 fun p0=>zcZ β L p0 (fun p0=>k (V.sc (.bool p0)) [])
 | _,_=>none
def zke:CF:=⟨15,[.tmp 2],
 (.seq (.reg [oo 1 (.box true (tq 0)),
   oo 2 (.move (.const (.sc (.bool false))) false)])
 (.seq (.reg [oo 3 (.fieldAddr 1 (tq 1)),
   oo 4 (.load false 1 (tq 3) false),
   oo 5 (.lenS (tq 4)),
   oo 6 (.bin .eql (tq 5) (.const (.sc (.int .i64 1)))),
   oo 7 (.move (tq 6) false),
   ⟨(some 8),false,(some (7,true)),.fieldAddr 1 (tq 1)⟩,
   ⟨(some 9),false,(some (7,true)),.load false 1 (tq 8) false⟩,
   ⟨(some 10),false,(some (7,true)),.indexAddrS 35 (tq 9) (.const (.sc (.int .i64 0)))⟩,
   ⟨(some 11),false,(some (7,true)),.fieldAddr 0 (tq 10)⟩,
   ⟨(some 12),false,(some (7,true)),.load true 33 (tq 11) false⟩,
   ⟨(some 13),false,(some (7,true)),.call 152 [((tq 12),0)] []⟩,
   oo 14 (.pick (tq 7) (tq 13) (.const (.sc (.bool false)))),
   oo 2 (.move (tq 14) false)])
 .ret))⟩
def ziB:Hint:=⟨[(0,0)],[],[none],[],[],false,false,[]⟩
def zA1:Nat→Sh:=xI [(4,(.sl 35)),(9,(.sl 35))]
def zA0 (zcZ:zk7) (L:Nat):CBC:=(xr 152 (zwe zcZ L) noC)
def zst {β:Type} (zcZ:zk7) (L:Nat) (p0:List V) (k_fin:Bool→Option β):Option β :=
 cLd 35 p0 1 fun v0 =>
 ifb ((((List.length v0:Nat):Int):Int) == (1:Int)) (
 cLd 35 p0 1 fun v1 =>
 idx v1 (0:Int) fun c2 =>
 zcZ β L (List.take 33 c2) (fun v3 =>
 k_fin v3)) (
 k_fin false)
abbrev zhc:=∀ (β:Type),Nat→List V→(Bool→Option β)→Option β
def zba (β:Type) (L:Nat) (p0:List V) (k_fin:Bool→Option β):Option β:=zst zcZ L p0 k_fin
def zsw (zba:zhc) (L:Nat) (β:Type) (args:List V) (bor:Bor) (k:KK β):Option β:=match args,bor with
 | [a0],[]=>aG a0 fun p0=>zba β L p0 (fun p0=>k (V.sc (.bool p0)) [])
 | _,_=>none
def zk6:CF:=⟨36,[.tmp 2],
 (.seq (.reg [oo 1 (.box true (tq 0)),
   oo 2 (.move (.const (.sc (.bool false))) false)])
 (.seq (.seq (.reg [oo 3 (.call 126 [] []),
   oo 4 (.un .not (tq 3))])
 (.cond (tq 4)
 (.seq (.reg [oo 2 (.move (.const (.sc (.bool false))) false)])
 .ret)
 .skip))
 (.seq (.dreg [] [(oo 5 (.load true 4 (tq 1) false),q0),
   (oo 6 (.call 127 [((tq 5),1)] []),q0),
   (oo 7 (.un .not (tq 6)),q0),
   (oo 8 (.move (tq 7) false),q0),
   (⟨(some 9),false,(some (8,false)),.load true 4 (tq 1) false⟩,ql 1 [] []),
   (⟨(some 10),false,(some (8,false)),.call 548 [((tq 9),1)] []⟩,qc [1] []),
   (⟨(some 11),false,(some (8,false)),.load true 4 (tq 1) false⟩,ql 1 [] []),
   (⟨(some 12),false,(some (8,false)),.call 517 [((tq 11),1)] []⟩,q0),
   (⟨(some 13),false,(some (8,false)),.eqAgg false 32 (tq 10) (tq 12)⟩,q0),
   (⟨(some 14),false,(some (8,false)),.move (tq 13) false⟩,q0),
   (⟨(some 15),false,(some (14,true)),.load true 4 (tq 1) false⟩,ql 1 [] []),
   (⟨(some 16),false,(some (14,true)),.call 596 [((tq 15),1)] []⟩,qc [1] []),
   (⟨(some 17),false,(some (14,true)),.load true 4 (tq 1) false⟩,ql 1 [] []),
   (⟨(some 18),false,(some (14,true)),.call 519 [((tq 17),1)] []⟩,q0),
   (⟨(some 19),false,(some (14,true)),.eqAgg false 32 (tq 16) (tq 18)⟩,q0),
   (⟨(some 20),false,(some (8,false)),.pick (tq 14) (tq 19) (.const (.sc (.bool false)))⟩,q0),
   (⟨(some 21),false,(some (8,false)),.move (tq 20) false⟩,q0),
   (⟨(some 22),false,(some (21,true)),.load true 4 (tq 1) false⟩,ql 1 [] []),
   (⟨(some 23),false,(some (21,true)),.call 144 [((tq 22),1)] []⟩,qc [1] []),
   (⟨(some 24),false,(some (21,true)),.load true 4 (tq 1) false⟩,ql 1 [] []),
   (⟨(some 25),false,(some (21,true)),.call 646 [((tq 24),1)] []⟩,q0),
   (⟨(some 26),false,(some (21,true)),.bin .eql (tq 23) (tq 25)⟩,q0),
   (⟨(some 27),false,(some (8,false)),.pick (tq 21) (tq 26) (.const (.sc (.bool false)))⟩,q0),
   (⟨(some 28),false,(some (8,false)),.move (tq 27) false⟩,q0),
   (⟨(some 29),false,(some (28,true)),.load true 4 (tq 1) false⟩,ql 1 [] []),
   (⟨(some 30),false,(some (28,true)),.call 151 [((tq 29),1)] []⟩,qc [1] []),
   (⟨(some 31),false,(some (28,true)),.load true 4 (tq 1) false⟩,ql 1 [] []),
   (⟨(some 32),false,(some (28,true)),.call 153 [((tq 31),1)] []⟩,q0),
   (⟨(some 33),false,(some (28,true)),.eqB false (tq 30) (tq 32)⟩,q0),
   (⟨(some 34),false,(some (8,false)),.pick (tq 28) (tq 33) (.const (.sc (.bool false)))⟩,q0),
   (oo 35 (.pick (tq 8) (.const (.sc (.bool true))) (tq 34)),q0),
   (oo 2 (.move (tq 35) false),q0)])
 .ret)))⟩
def zjF:Hint:=⟨[(0,0)],[],[none,none,none],[],[],false,false,[]⟩
def zBy:Nat→Sh:=xI []
def zBI (xE:zef) (yP:zho) (zV:zkK) (zev:zoF) (zfB:zqB) (zc0:zkY) (zJ:zeM) (zbL:ziK) (yh:yK) (zba:zhc) (L:Nat):CBC:=(xr 153 (zsw zba L) (xr 151 (zeF yh L) (xr 646 (zua zbL L) (xr 144 (zgP zJ L) (xr 519 (zv4 zc0 L) (xr 596 (zz1 zfB L) (xr 517 (zzm zev L) (xr 548 (znB zV L) (xr 127 (zjv yP L) (xr 126 (zfz xE L) noC))))))))))
def zte {β:Type} (xE:zef) (yP:zho) (zV:zkK) (zev:zoF) (zfB:zqB) (zc0:zkY) (zJ:zeM) (zbL:ziK) (yh:yK) (zba:zhc) (L:Nat) (p0:List V) (k_fin:Bool→Option β):Option β :=
 xE β L  (fun v0 =>
 ifb (!v0) (
 k_fin false) (
 chk (0+4≤(List.length p0)) (
 yP β L (List.map V.dem (List.take 4 p0)) (fun v1 =>
 ifb (!v1) (
 k_fin true) (
 chk (0+4≤(List.length p0)) (
 zV β L (List.map V.dem (List.take 4 p0)) (fun v2 =>
 chk (0+4≤(List.length p0)) (
 zev β L (List.map V.dem (List.take 4 p0)) (fun v3 =>
 eqC 32 v2 v3 fun v4 =>
 ifb v4 (
 chk (0+4≤(List.length p0)) (
 zfB β L (List.map V.dem (List.take 4 p0)) (fun v5 =>
 chk (0+4≤(List.length p0)) (
 zc0 β L (List.map V.dem (List.take 4 p0)) (fun v6 =>
 eqC 32 v5 v6 fun v7 =>
 ifb v7 (
 chk (0+4≤(List.length p0)) (
 zJ β L (List.map V.dem (List.take 4 p0)) (fun v8 =>
 chk (0+4≤(List.length p0)) (
 zbL β L (List.map V.dem (List.take 4 p0)) (fun v9 =>
 ifb ((v8:Int) == v9) (
 chk (0+4≤(List.length p0)) (
 yh β L (List.map V.dem (List.take 4 p0)) (fun v10 =>
 chk (0+4≤(List.length p0)) (
 zba β L (List.map V.dem (List.take 4 p0)) (fun v11 =>
 k_fin (v10 == v11)))))) (
 k_fin false)))))) (
 k_fin false)))))) (
 k_fin false))))))))))
abbrev ztq:=∀ (β:Type),Nat→List V→(Bool→Option β)→Option β
def zl8 (β:Type) (L:Nat) (p0:List V) (k_fin:Bool→Option β):Option β:=zte xE yP zV zev zfB zc0 zJ zbL yh zba L p0 k_fin
def zCn (zl8:ztq) (L:Nat) (β:Type) (args:List V) (bor:Bor) (k:KK β):Option β:=match args,bor with
 | [a0],[]=>aG a0 fun p0=>zl8 β L p0 (fun p0=>k (V.sc (.bool p0)) [])
 | _,_=>none
def zbW:CF:=⟨59,[.tmp 4],
 (.seq (.reg [oo 2 (.box true (tq 0)),
   oo 4 (.move (.const (.sc (.bool false))) false)])
 (.seq (.seq (.reg [oo 10 (.call 126 [] []),
   oo 11 (.un .not (tq 10))])
 (.cond (tq 11)
 (.seq (.reg [oo 4 (.move (.const (.sc (.bool false))) false)])
 .ret)
 .skip))
 (.seq (.seq (.reg [oo 12 (.load true 4 (tq 2) false),
   oo 13 (.call 127 [((tq 12),1)] []),
   oo 14 (.un .not (tq 13)),
   oo 15 (.move (tq 14) false),
   ⟨(some 16),false,(some (15,false)),.move (tq 1) false⟩,
   ⟨(some 17),false,(some (15,false)),.call 145 [((tq 16),0),((.const (.sc (.int .i64 10))),0),((.const (.sc (.int .i64 200))),0)] []⟩,
   ⟨(some 18),false,(some (15,false)),.un .not (tq 17)⟩,
   oo 19 (.pick (tq 15) (.const (.sc (.bool true))) (tq 18)),
   oo 20 (.move (tq 19) false),
   ⟨(some 21),false,(some (20,false)),.fieldAddr 1 (tq 2)⟩,
   ⟨(some 22),false,(some (20,false)),.load false 1 (tq 21) false⟩,
   ⟨(some 23),false,(some (20,false)),.lenS (tq 22)⟩,
   ⟨(some 24),false,(some (20,false)),.bin .eql (tq 23) (.const (.sc (.int .i64 0)))⟩,
   oo 25 (.pick (tq 20) (.const (.sc (.bool true))) (tq 24))])
 (.cond (tq 25)
 (.seq (.reg [oo 4 (.move (.const (.sc (.bool true))) false)])
 .ret)
 .skip))
 (.seq (.reg [oo 26 (.load true 4 (tq 2) false),
   oo 5 (.alloc false [(.sc (.int .u32 0)),(.fr 35 []),(.gs 2 []),(.sc (.int .u32 0))]),
   oz (.store 4 (tq 5) (tq 26))])
 (.seq (.reg [oo 27 (.fieldAddr 1 (tq 2)),
   oo 28 (.load false 1 (tq 27) false),
   oo 29 (.appendF 35 64 (.const (.gs 35 [])) (tq 28)),
   oo 30 (.fieldAddr 1 (tq 5)),
   oz (.store 1 (tq 30) (tq 29))])
 (.seq (.reg [oo 31 (.fieldAddr 1 (tq 5)),
   oo 32 (.pinC false 35 (tq 31)),
   oo 33 (.move (tq 1) false),
   oo 34 (.indexAddrS 35 (tq 32) (.const (.sc (.int .i64 0)))),
   oo 35 (.fieldAddr 34 (tq 34)),
   oz (.store 1 (tq 35) (tq 33))])
 (.seq (.reg [oo 37 (.load true 4 (tq 2) false),
   oo 38 (.call 128 [((tq 37),1),((.const (.sc (.bool true))),0)] []),
   oo 36 (.move (tq 38) true),
   oo 39 (.extract (tq 36) 0),
   oo 40 (.pull (tq 36) 1),
   oo 6 (.move (tq 39) false),
   oo 7 (.move (tq 40) false)])
 (.seq (.dreg [100032] [(oo 42 (.loadS 4 (tq 5)),q0),
   (oo 43 (.call 128 [((tq 42),1),((.const (.sc (.bool true))),0)] []),q0),
   (oo 41 (.move (tq 43) true),q0),
   (oo 44 (.extract (tq 41) 0),q0),
   (oo 45 (.pull (tq 41) 1),q0),
   (oo 8 (.move (tq 44) false),q0),
   (oo 9 (.move (tq 45) false),q0)])
 (.seq (.dreg [100032] [(oo 46 (.move (tq 7) false),q0),
   (oo 47 (.bin .neq (tq 46) (.const (.sc (.int .i64 0)))),q0),
   (oo 48 (.move (tq 47) false),q0),
   (⟨(some 49),false,(some (48,false)),.move (tq 9) false⟩,q0),
   (⟨(some 50),false,(some (48,false)),.bin .neq (tq 49) (.const (.sc (.int .i64 0)))⟩,q0),
   (oo 51 (.pick (tq 48) (.const (.sc (.bool true))) (tq 50)),q0),
   (oo 52 (.move (tq 51) false),q0),
   (⟨(some 53),false,(some (52,false)),.load true 4 (tq 2) false⟩,{ q1 with root:=some 2 }),
   (⟨(some 54),false,(some (52,false)),.call 548 [((tq 53),1)] []⟩,q1),
   (⟨(some 55),false,(some (52,false)),.loadS 4 (tq 5)⟩,q1),
   (⟨(some 56),false,(some (52,false)),.call 548 [((tq 55),1)] []⟩,q0),
   (⟨(some 57),false,(some (52,false)),.eqAgg false 32 (tq 54) (tq 56)⟩,q0),
   (oo 58 (.pick (tq 52) (.const (.sc (.bool true))) (tq 57)),q0),
   (oo 4 (.move (tq 58) false),q0)])
 .ret)))))))))⟩
def zfA:Hint:=⟨[(0,0),(8,2),(8,3),(9,2),(9,3)],[],[none,none,none,none,none],[(9,[100032]),(10,[100032])],[(5,1,[1]),(6,2,[0]),(7,1,[1]),(9,0,[1,1]),(10,9,[1,1])],false,false,[(7,32)]⟩
def zdL:Nat→Sh:=xI [(22,(.sl 35)),(26,(.row [(.int .u32),(.sl 35),(.sl 2),(.int .u32)])),(28,(.sl 35))]
def zdK (xE:zef) (yP:zho) (yc:zz) (xo:zbk) (zV:zkK) (L:Nat):CBC:=(xr 548 (znB zV L) (xr 128 (zeK xo L) (xr 145 (zfj yc L) (xr 127 (zjv yP L) (xr 126 (zfz xE L) noC)))))
def zd6 {β:Type} (xE:zef) (yP:zho) (yc:zz) (xo:zbk) (zV:zkK) (L:Nat) (p0:List V) (p1:List (List V)) (k_fin:Bool→Option β):Option β :=
 xE β L  (fun v0 =>
 ifb (!v0) (
 k_fin false) (
 chk (0+4≤(List.length p0)) (
 yP β L (List.map V.dem (List.take 4 p0)) (fun v1 =>
 ifb (!v1) (
 k_fin true) (
 yc β L p1 (10:Int) (200:Int) (fun v2 =>
 ifb (!v2) (
 k_fin true) (
 cLd 35 p0 1 fun v3 =>
 ifb ((((List.length v3:Nat):Int):Int) == (0:Int)) (
 k_fin true) (
 chk (0+4≤(List.length p0)) (
 chk (List.length (List.take 4 p0)=4) (
 cI .u32 (List.take 4 p0) 0 fun v4 =>
 cL 35 (List.take 4 p0) 1 fun v5 =>
 cL 2 (List.take 4 p0) 2 fun v6 =>
 cI .u32 (List.take 4 p0) 3 fun v7 =>
 cLd 35 p0 1 fun v8 =>
 chk ((0+List.length v8) * 64≤xg∧0+List.length v8≤xg∧0+List.length v8≠0) (
 lt (List.flatten v8) fun r9 =>
 chk (0≤(0:Int)∧(0:Int) < (((List.length v8):Nat):Int)) (
 chk (1=1∧34 < (List.length r9)) (
 chk (0+4≤(List.length p0)) (
 xo β L (List.map V.dem (List.take 4 p0)) true (fun v10 v11 =>
 lc (List.set r9 34 (V.sl 1 p1)) (
 chk ((List.length v8)=0) (
 xo β L [(V.sc (.int .u32 v4)),(V.sl 35 ([]:List (List V))),(V.sl 2 v6),(V.sc (.int .u32 v7))] true (fun v15 v16 =>
 ifb ((v11:Int) != (0:Int)) (
 k_fin true) (
 ifb ((v16:Int) != (0:Int)) (
 k_fin true) (
 chk (0+4≤(List.length p0)) (
 zV β L (List.map V.dem (List.take 4 p0)) (fun v17 =>
 chk ((List.length v8)=0) (
 zV β L [(V.sc (.int .u32 v4)),(V.sl 35 ([]:List (List V))),(V.sl 2 v6),(V.sc (.int .u32 v7))] (fun v18 =>
 eqC 32 v17 v18 fun v19 =>
 k_fin v19))))))))) (fun h12 t13 =>
 zcR (h12::t13) fun f14 =>
 xo β L [(V.sc (.int .u32 v4)),(V.sl 35 (yf 35 (List.length v8) f14)),(V.sl 2 v6),(V.sc (.int .u32 v7))] true (fun v20 v21 =>
 ifb ((v11:Int) != (0:Int)) (
 k_fin true) (
 ifb ((v21:Int) != (0:Int)) (
 k_fin true) (
 chk (0+4≤(List.length p0)) (
 zV β L (List.map V.dem (List.take 4 p0)) (fun v22 =>
 zV β L [(V.sc (.int .u32 v4)),(V.sl 35 (yf 35 (List.length v8) f14)),(V.sl 2 v6),(V.sc (.int .u32 v7))] (fun v23 =>
 eqC 32 v22 v23 fun v24 =>
 k_fin v24))))))))))))))))))))))
theorem zld {β:Type} (xE:zef) (yP:zho) (yc:zz) (xo:zbk) (zV:zkK) (L:Nat) (p0:List V) (p1:List (List V)) (k:KK β):yz zdL (zdK xE yP yc xo zV L) L zbW [(V.agg p0),(V.sl 1 p1)] [] k=zd6 xE yP yc xo zV L p0 p1 (fun p0=>k (V.sc (.bool p0)) []):=by kernel_rfl
abbrev zna:=∀ (β:Type),Nat→List V→List (List V)→(Bool→Option β)→Option β
def zU (β:Type) (L:Nat) (p0:List V) (p1:List (List V)) (k_fin:Bool→Option β):Option β:=zd6 xE yP yc xo zV L p0 p1 k_fin
def zcj (zU:zna) (L:Nat) (β:Type) (args:List V) (bor:Bor) (k:KK β):Option β:=match args,bor with
 | [a0,a1],[]=>aG a0 fun p0=>aL 1 a1 fun p1=>zU β L p0 p1 (fun p0=>k (V.sc (.bool p0)) [])
 | _,_=>none
theorem zlk (L:Nat) (β:Type) (args:List V) (bor:Bor) (k:KK β) (r:β) (h:zcj zU L β args bor k=some r):yz zdL (zdK xE yP yc xo zV L) L zbW args bor k=some r:=by
 unfold zcj at h
 split at h
 ·have q:=zcx h; clear h; obtain ⟨p0,rfl,h⟩:=q
  have q:=zcy h; clear h; obtain ⟨p1,rfl,h⟩:=q
  exact (zld xE yP yc xo zV L p0 p1 k).trans h
 ·cases h
def gls:List (Nat × List V):=[(0,gk_sha_initial),(1,gk_sha_k)]
def fg:List (Nat × Nat):=[(3,644),(4,645),(5,126),(6,127),(7,145),(8,128),(9,548),(10,517),(11,596),(12,519),(13,144),(14,646),(15,151),(16,153),(17,131),(18,146),(19,147),(20,583),(21,148),(22,454),(23,149),(24,188),(25,152),(26,150),(27,157),(28,182),(29,137),(30,183),(31,184),(32,501),(33,494),(34,159),(35,185),(36,138),(37,186),(38,187),(39,191),(40,192),(41,205),(42,158),(43,458),(44,531),(45,532),(46,533),(47,193),(48,194),(49,160),(50,206),(51,496),(52,497),(53,498),(54,569),(55,570),(56,571),(57,534),(58,535),(59,572),(76,640),(77,641),(78,642),(79,643)]
def rows:List Row:=[⟨40,192,zkh,zbp⟩,⟨39,191,zkc,zfg⟩,⟨27,157,zhM,zdA⟩,⟨41,205,zik,zdo⟩,⟨30,183,zit,zdr⟩,⟨28,182,zhj,zc9⟩,⟨42,158,zhl,zda⟩,⟨29,137,zoX,zjf⟩,⟨31,184,zgO,zcC⟩,⟨19,147,znf,y8⟩,⟨18,146,zqc,za7⟩,⟨8,128,znu,zhG⟩,⟨13,144,zm5,zh9⟩,⟨26,150,zo0,zcH⟩,⟨24,188,zqw,zkD⟩,⟨15,151,zk0,zgc⟩,⟨17,131,zo3,zcI⟩,⟨5,126,zlU,zgW⟩,⟨7,145,zlP,zbA⟩,⟨6,127,zqv,za8⟩,⟨52,497,zqF,zdy⟩,⟨51,496,zqy,zew⟩,⟨59,572,zek,zbi⟩,⟨58,535,zoU,zi8⟩,⟨57,534,zj9,zaf⟩,⟨53,498,zkk,zbm⟩,⟨43,458,zqG,zbS⟩,⟨32,501,zmp,zg0⟩,⟨20,583,znF,zhP⟩,⟨9,548,zsQ,znT⟩,⟨48,194,zj8,zmt⟩,⟨47,193,zkd,zmi⟩,⟨34,159,zhK,zjj⟩,⟨35,185,zhp,ziA⟩,⟨49,160,zhz,ziE⟩,⟨36,138,zkX,znl⟩,⟨50,206,zig,zjl⟩,⟨38,187,zgN,zil⟩,⟨37,186,znr,zqo⟩,⟨23,149,zkq,zl6⟩,⟨21,148,zmo,zoY⟩,⟨44,531,znk,zqE⟩,⟨45,532,zjm,zlr⟩,⟨56,571,zmr,zo7⟩,⟨54,569,ziD,zkg⟩,⟨55,570,zhJ,zjt⟩,⟨46,533,ziJ,zkp⟩,⟨33,494,znp,zqs⟩,⟨22,454,zkl,zma⟩,⟨10,517,zo2,zrL⟩,⟨11,596,zpE,zsT⟩,⟨12,519,zmm,zoW⟩,⟨14,646,zki,zml⟩,⟨25,152,zmq,zoZ⟩,⟨16,153,ziB,zke⟩,⟨4,645,zjF,zk6⟩,⟨3,644,zfA,zbW⟩]
theorem zs3:yG Tryd.prog (zB fg gls) zkh 40=some zbp:=by kernel_rfl
theorem zsX:yG Tryd.prog (zB fg gls) zkc 39=some zfg:=by kernel_rfl
theorem zpI:yG Tryd.prog (zB fg gls) zhM 27=some zdA:=by kernel_rfl
theorem zpu:yG Tryd.prog (zB fg gls) zik 41=some zdo:=by kernel_rfl
theorem zqM:yG Tryd.prog (zB fg gls) zit 30=some zdr:=by kernel_rfl
theorem zpn:yG Tryd.prog (zB fg gls) zhj 28=some zc9:=by kernel_rfl
theorem zps:yG Tryd.prog (zB fg gls) zhl 42=some zda:=by kernel_rfl
theorem zxn:yG Tryd.prog (zB fg gls) zoX 29=some zjf:=by kernel_rfl
theorem zof:yG Tryd.prog (zB fg gls) zgO 31=some zcC:=by kernel_rfl
theorem zwr:yG Tryd.prog (zB fg gls) znf 19=some y8:=by kernel_rfl
theorem zyQ:yG Tryd.prog (zB fg gls) zqc 18=some za7:=by kernel_rfl
theorem zwQ:yG Tryd.prog (zB fg gls) znu 8=some zhG:=by kernel_rfl
theorem zw2:yG Tryd.prog (zB fg gls) zm5 13=some zh9:=by kernel_rfl
theorem zxI:yG Tryd.prog (zB fg gls) zo0 26=some zcH:=by kernel_rfl
theorem zyS:yG Tryd.prog (zB fg gls) zqw 24=some zkD:=by kernel_rfl
theorem zt0:yG Tryd.prog (zB fg gls) zk0 15=some zgc:=by kernel_rfl
theorem zxB:yG Tryd.prog (zB fg gls) zo3 17=some zcI:=by kernel_rfl
theorem zvq:yG Tryd.prog (zB fg gls) zlU 5=some zgW:=by kernel_rfl
theorem zvj:yG Tryd.prog (zB fg gls) zlP 7=some zbA:=by kernel_rfl
theorem zyY:yG Tryd.prog (zB fg gls) zqv 6=some za8:=by kernel_rfl
theorem zyR:yG Tryd.prog (zB fg gls) zqF 52=some zdy:=by kernel_rfl
theorem zyA:yG Tryd.prog (zB fg gls) zqy 51=some zew:=by kernel_rfl
theorem zkJ:yG Tryd.prog (zB fg gls) zek 59=some zbi:=by kernel_rfl
theorem zxP:yG Tryd.prog (zB fg gls) zoU 58=some zi8:=by kernel_rfl
theorem ztk:yG Tryd.prog (zB fg gls) zj9 57=some zaf:=by kernel_rfl
theorem zts:yG Tryd.prog (zB fg gls) zkk 53=some zbm:=by kernel_rfl
theorem zyC:yG Tryd.prog (zB fg gls) zqG 43=some zbS:=by kernel_rfl
theorem zvw:yG Tryd.prog (zB fg gls) zmp 32=some zg0:=by kernel_rfl
theorem zv3:yG Tryd.prog (zB fg gls) znF 20=some zhP:=by kernel_rfl
theorem zBV:yG Tryd.prog (zB fg gls) zsQ 9=some znT:=by kernel_rfl
theorem ztv:yG Tryd.prog (zB fg gls) zj8 48=some zmt:=by kernel_rfl
theorem zsM:yG Tryd.prog (zB fg gls) zkd 47=some zmi:=by kernel_rfl
theorem zpF:yG Tryd.prog (zB fg gls) zhK 34=some zjj:=by kernel_rfl
theorem zpd:yG Tryd.prog (zB fg gls) zhp 35=some ziA:=by kernel_rfl
theorem zpm:yG Tryd.prog (zB fg gls) zhz 49=some ziE:=by kernel_rfl
theorem ztU:yG Tryd.prog (zB fg gls) zkX 36=some znl:=by kernel_rfl
theorem zqa:yG Tryd.prog (zB fg gls) zig 50=some zjl:=by kernel_rfl
theorem zot:yG Tryd.prog (zB fg gls) zgN 38=some zil:=by kernel_rfl
theorem zwF:yG Tryd.prog (zB fg gls) znr 37=some zqo:=by kernel_rfl
theorem zsJ:yG Tryd.prog (zB fg gls) zkq 23=some zl6:=by kernel_rfl
theorem zvb:yG Tryd.prog (zB fg gls) zmo 21=some zoY:=by kernel_rfl
theorem zxh:yG Tryd.prog (zB fg gls) znk 44=some zqE:=by kernel_rfl
theorem zsg:yG Tryd.prog (zB fg gls) zjm 45=some zlr:=by kernel_rfl
theorem zvm:yG Tryd.prog (zB fg gls) zmr 56=some zo7:=by kernel_rfl
theorem zrp:yG Tryd.prog (zB fg gls) ziD 54=some zkg:=by kernel_rfl
theorem zql:yG Tryd.prog (zB fg gls) zhJ 55=some zjt:=by kernel_rfl
theorem zrt:yG Tryd.prog (zB fg gls) ziJ 46=some zkp:=by kernel_rfl
theorem zw9:yG Tryd.prog (zB fg gls) znp 33=some zqs:=by kernel_rfl
theorem ztb:yG Tryd.prog (zB fg gls) zkl 22=some zma:=by kernel_rfl
theorem zxN:yG Tryd.prog (zB fg gls) zo2 10=some zrL:=by kernel_rfl
theorem zyJ:yG Tryd.prog (zB fg gls) zpE 11=some zsT:=by kernel_rfl
theorem zvt:yG Tryd.prog (zB fg gls) zmm 12=some zoW:=by kernel_rfl
theorem ztL:yG Tryd.prog (zB fg gls) zki 14=some zml:=by kernel_rfl
theorem zvx:yG Tryd.prog (zB fg gls) zmq 25=some zoZ:=by kernel_rfl
theorem zrl:yG Tryd.prog (zB fg gls) ziB 16=some zke:=by kernel_rfl
theorem zr5:yG Tryd.prog (zB fg gls) zjF 4=some zk6:=by kernel_rfl
theorem zmS:yG Tryd.prog (zB fg gls) zfA 3=some zbW:=by kernel_rfl
theorem zC5:∀ r ∈ rows,(r.f,r.g) ∈ fg∧zep Tryd.prog r.f=true∧yG Tryd.prog (zB fg gls) r.h r.f=some r.c:=by
 intro r hr
 simp only [rows,List.mem_cons,List.not_mem_nil,or_false] at hr
 rcases hr with rfl | rfl | rfl | rfl | rfl | rfl | rfl | rfl | rfl | rfl | rfl | rfl | rfl | rfl | rfl | rfl | rfl | rfl | rfl | rfl | rfl | rfl | rfl | rfl | rfl | rfl | rfl | rfl | rfl | rfl | rfl | rfl | rfl | rfl | rfl | rfl | rfl | rfl | rfl | rfl | rfl | rfl | rfl | rfl | rfl | rfl | rfl | rfl | rfl | rfl | rfl | rfl | rfl | rfl | rfl | rfl | rfl
 ·exact ⟨of_decide_eq_true (by kernel_rfl),by kernel_rfl,zs3⟩
 ·exact ⟨of_decide_eq_true (by kernel_rfl),by kernel_rfl,zsX⟩
 ·exact ⟨of_decide_eq_true (by kernel_rfl),by kernel_rfl,zpI⟩
 ·exact ⟨of_decide_eq_true (by kernel_rfl),by kernel_rfl,zpu⟩
 ·exact ⟨of_decide_eq_true (by kernel_rfl),by kernel_rfl,zqM⟩
 ·exact ⟨of_decide_eq_true (by kernel_rfl),by kernel_rfl,zpn⟩
 ·exact ⟨of_decide_eq_true (by kernel_rfl),by kernel_rfl,zps⟩
 ·exact ⟨of_decide_eq_true (by kernel_rfl),by kernel_rfl,zxn⟩
 ·exact ⟨of_decide_eq_true (by kernel_rfl),by kernel_rfl,zof⟩
 ·exact ⟨of_decide_eq_true (by kernel_rfl),by kernel_rfl,zwr⟩
 ·exact ⟨of_decide_eq_true (by kernel_rfl),by kernel_rfl,zyQ⟩
 ·exact ⟨of_decide_eq_true (by kernel_rfl),by kernel_rfl,zwQ⟩
 ·exact ⟨of_decide_eq_true (by kernel_rfl),by kernel_rfl,zw2⟩
 ·exact ⟨of_decide_eq_true (by kernel_rfl),by kernel_rfl,zxI⟩
 ·exact ⟨of_decide_eq_true (by kernel_rfl),by kernel_rfl,zyS⟩
 ·exact ⟨of_decide_eq_true (by kernel_rfl),by kernel_rfl,zt0⟩
 ·exact ⟨of_decide_eq_true (by kernel_rfl),by kernel_rfl,zxB⟩
 ·exact ⟨of_decide_eq_true (by kernel_rfl),by kernel_rfl,zvq⟩
 ·exact ⟨of_decide_eq_true (by kernel_rfl),by kernel_rfl,zvj⟩
 ·exact ⟨of_decide_eq_true (by kernel_rfl),by kernel_rfl,zyY⟩
 ·exact ⟨of_decide_eq_true (by kernel_rfl),by kernel_rfl,zyR⟩
 ·exact ⟨of_decide_eq_true (by kernel_rfl),by kernel_rfl,zyA⟩
 ·exact ⟨of_decide_eq_true (by kernel_rfl),by kernel_rfl,zkJ⟩
 ·exact ⟨of_decide_eq_true (by kernel_rfl),by kernel_rfl,zxP⟩
 ·exact ⟨of_decide_eq_true (by kernel_rfl),by kernel_rfl,ztk⟩
 ·exact ⟨of_decide_eq_true (by kernel_rfl),by kernel_rfl,zts⟩
 ·exact ⟨of_decide_eq_true (by kernel_rfl),by kernel_rfl,zyC⟩
 ·exact ⟨of_decide_eq_true (by kernel_rfl),by kernel_rfl,zvw⟩
 ·exact ⟨of_decide_eq_true (by kernel_rfl),by kernel_rfl,zv3⟩
 ·exact ⟨of_decide_eq_true (by kernel_rfl),by kernel_rfl,zBV⟩
 ·exact ⟨of_decide_eq_true (by kernel_rfl),by kernel_rfl,ztv⟩
 ·exact ⟨of_decide_eq_true (by kernel_rfl),by kernel_rfl,zsM⟩
 ·exact ⟨of_decide_eq_true (by kernel_rfl),by kernel_rfl,zpF⟩
 ·exact ⟨of_decide_eq_true (by kernel_rfl),by kernel_rfl,zpd⟩
 ·exact ⟨of_decide_eq_true (by kernel_rfl),by kernel_rfl,zpm⟩
 ·exact ⟨of_decide_eq_true (by kernel_rfl),by kernel_rfl,ztU⟩
 ·exact ⟨of_decide_eq_true (by kernel_rfl),by kernel_rfl,zqa⟩
 ·exact ⟨of_decide_eq_true (by kernel_rfl),by kernel_rfl,zot⟩
 ·exact ⟨of_decide_eq_true (by kernel_rfl),by kernel_rfl,zwF⟩
 ·exact ⟨of_decide_eq_true (by kernel_rfl),by kernel_rfl,zsJ⟩
 ·exact ⟨of_decide_eq_true (by kernel_rfl),by kernel_rfl,zvb⟩
 ·exact ⟨of_decide_eq_true (by kernel_rfl),by kernel_rfl,zxh⟩
 ·exact ⟨of_decide_eq_true (by kernel_rfl),by kernel_rfl,zsg⟩
 ·exact ⟨of_decide_eq_true (by kernel_rfl),by kernel_rfl,zvm⟩
 ·exact ⟨of_decide_eq_true (by kernel_rfl),by kernel_rfl,zrp⟩
 ·exact ⟨of_decide_eq_true (by kernel_rfl),by kernel_rfl,zql⟩
 ·exact ⟨of_decide_eq_true (by kernel_rfl),by kernel_rfl,zrt⟩
 ·exact ⟨of_decide_eq_true (by kernel_rfl),by kernel_rfl,zw9⟩
 ·exact ⟨of_decide_eq_true (by kernel_rfl),by kernel_rfl,ztb⟩
 ·exact ⟨of_decide_eq_true (by kernel_rfl),by kernel_rfl,zxN⟩
 ·exact ⟨of_decide_eq_true (by kernel_rfl),by kernel_rfl,zyJ⟩
 ·exact ⟨of_decide_eq_true (by kernel_rfl),by kernel_rfl,zvt⟩
 ·exact ⟨of_decide_eq_true (by kernel_rfl),by kernel_rfl,ztL⟩
 ·exact ⟨of_decide_eq_true (by kernel_rfl),by kernel_rfl,zvx⟩
 ·exact ⟨of_decide_eq_true (by kernel_rfl),by kernel_rfl,zrl⟩
 ·exact ⟨of_decide_eq_true (by kernel_rfl),by kernel_rfl,zr5⟩
 ·exact ⟨of_decide_eq_true (by kernel_rfl),by kernel_rfl,zmS⟩
theorem zEy:Tryd.prog.follows .mixedOrders=true:=by kernel_rfl
theorem zEn:zBa fg=true:=by kernel_rfl
theorem zEp:zeE Tryd.prog (zB fg gls) zoa:=zDt (by kernel_rfl)
theorem zEz (L d:Nat):zeE Tryd.prog (zB fg gls) (evF (zX rows) zoa L d):=zCO zEy zEn zEp zC5 L d
theorem zhf (L:Nat):FOk (zX rows) L 192 (zcO yk L) 1:=xR (D:=0) (by kernel_rfl) fun m hm=>⟨zad,zag L,zS,zrv L⟩
theorem zbN (L:Nat):FOk (zX rows) L 191 (zaO zd L) 1:=xR (D:=0) (by kernel_rfl) fun m hm=>⟨zh7,ziq L,zS,zrd L⟩
theorem zeQ (L:Nat):FOk (zX rows) L 157 (zbw za L) 2:=xR (D:=1) (by kernel_rfl) fun m hm=>⟨zfl,zfU yk zd L,(zy (zy zS (zhf L m (by omega))) (zbN L m (by omega))),zox L⟩
theorem zpf (L:Nat):FOk (zX rows) L 205 (zdT xz L) 2:=xR (D:=1) (by kernel_rfl) fun m hm=>⟨zfk,zfE yk zd L,(zy (zy zS (zhf L m (by omega))) (zbN L m (by omega))),znV L⟩
theorem ziz (L:Nat):FOk (zX rows) L 183 (zcq zb L) 2:=xR (D:=1) (by kernel_rfl) fun m hm=>⟨zfq,zfV yk zd L,(zy (zy zS (zhf L m (by omega))) (zbN L m (by omega))),zom L⟩
theorem zh0 (L:Nat):FOk (zX rows) L 182 (zb5 ya L) 3:=xR (D:=2) (by kernel_rfl) fun m hm=>⟨ze0,zeO zd xz za zb L,(zy (zy (zy (zy zS (zbN L m (by omega))) (zpf L m (by omega))) (zeQ L m (by omega))) (ziz L m (by omega))),znO L⟩
theorem zoM (L:Nat):FOk (zX rows) L 158 (zdk zA L) 2:=xR (D:=1) (by kernel_rfl) fun m hm=>⟨zeP,zeX zd L,(zy zS (zbN L m (by omega))),znN L⟩
theorem zv6 (L:Nat):FOk (zX rows) L 137 (zks zc L) 3:=xR (D:=2) (by kernel_rfl) fun m hm=>⟨zmP,zmQ zA za L,(zy (zy zS (zoM L m (by omega))) (zeQ L m (by omega))),zvA L⟩
theorem znt (L:Nat):FOk (zX rows) L 184 (zde xa L) 4:=xR (D:=3) (by kernel_rfl) fun m hm=>⟨zen,zet ya zd L,(zy (zy zS (zh0 L m (by omega))) (zbN L m (by omega))),zmy L⟩
theorem zjS (L:Nat):FOk (zX rows) L 147 (zeJ xb L) 5:=xR (D:=4) (by kernel_rfl) fun m hm=>⟨zw,xv za ya zc zb xa L,(zy (zy (zy (zy (zy zS (zeQ L m (by omega))) (zh0 L m (by omega))) (zv6 L m (by omega))) (ziz L m (by omega))) (znt L m (by omega))),zt5 L⟩
theorem zmK (L:Nat):FOk (zX rows) L 146 (zhm xj L) 6:=xR (D:=5) (by kernel_rfl) fun m hm=>⟨yE,xD xb L,(zy zS (zjS L m (by omega))),zwY L⟩
theorem zj3 (L:Nat):FOk (zX rows) L 128 (zeK xo L) 7:=xR (D:=6) (by kernel_rfl) fun m hm=>⟨zlb,zly xj xb L,(zy (zy zS (zmK L m (by omega))) (zjS L m (by omega))),zup L⟩
theorem zva (L:Nat):FOk (zX rows) L 144 (zgP zJ L) 7:=xR (D:=6) (by kernel_rfl) fun m hm=>⟨zlc,zlg xj xb L,(zy (zy zS (zmK L m (by omega))) (zjS L m (by omega))),ztS L⟩
theorem zxb (L:Nat):FOk (zX rows) L 150 (zkz yo L) 1:=xR (D:=0) (by kernel_rfl) fun m hm=>⟨za6,za2 L,zS,zvl L⟩
theorem zxS (L:Nat):FOk (zX rows) L 188 (zlX zaD L) 1:=xR (D:=0) (by kernel_rfl) fun m hm=>⟨zn7,zoz L,zS,zxg L⟩
theorem zs4 (L:Nat):FOk (zX rows) L 151 (zeF yh L) 2:=xR (D:=1) (by kernel_rfl) fun m hm=>⟨ziS,ziU zaD L,(zy zS (zxS L m (by omega))),zsm L⟩
theorem zvS (L:Nat):FOk (zX rows) L 131 (zkB zak L) 7:=xR (D:=6) (by kernel_rfl) fun m hm=>⟨za5,za0 xj yo yh L,(zy (zy (zy zS (zmK L m (by omega))) (zxb L m (by omega))) (zs4 L m (by omega))),zvh L⟩
theorem zuj (L:Nat):FOk (zX rows) L 126 (zfz xE L) 8:=xR (D:=7) (by kernel_rfl) fun m hm=>⟨zj7,zjZ xo zJ zak L,(zy (zy (zy zS (zj3 L m (by omega))) (zva L m (by omega))) (zvS L m (by omega))),zs9 L⟩
theorem znL (L:Nat):FOk (zX rows) L 145 (zfj yc L) 1:=xR (D:=0) (by kernel_rfl) fun m hm=>⟨zal,zan L,zS,zsG L⟩
theorem zxu (L:Nat):FOk (zX rows) L 127 (zjv yP L) 2:=xR (D:=1) (by kernel_rfl) fun m hm=>⟨zR,xQ yc L,(zy zS (znL L m (by omega))),zvY L⟩
theorem zxr (L:Nat):FOk (zX rows) L 497 (zlT zi L) 1:=xR (D:=0) (by kernel_rfl) fun m hm=>⟨zaw,zaz L,zS,zws L⟩
theorem zxv (L:Nat):FOk (zX rows) L 496 (zlV xh L) 1:=xR (D:=0) (by kernel_rfl) fun m hm=>⟨zbV,zbZ L,zS,zwy L⟩
theorem zjO (L:Nat):FOk (zX rows) L 572 (zaC ym L) 1:=xR (D:=0) (by kernel_rfl) fun m hm=>⟨zcz,zcG L,zS,zjy L⟩
theorem zpv (L:Nat):FOk (zX rows) L 535 (ziv yb L) 2:=xR (D:=1) (by kernel_rfl) fun m hm=>⟨zmG,zmD ym L,(zy zS (zjO L m (by omega))),zvD L⟩
theorem zss (L:Nat):FOk (zX rows) L 534 (zgd xi L) 3:=xR (D:=2) (by kernel_rfl) fun m hm=>⟨xw,yw yb L,(zy zS (zpv L m (by omega))),zru L⟩
theorem zr3 (L:Nat):FOk (zX rows) L 498 (zf1 yd L) 4:=xR (D:=3) (by kernel_rfl) fun m hm=>⟨zah,zae xi yb L,(zy (zy zS (zss L m (by omega))) (zpv L m (by omega))),zrr L⟩
theorem zxU (L:Nat):FOk (zX rows) L 458 (zlR yW L) 5:=xR (D:=4) (by kernel_rfl) fun m hm=>⟨zW,xW zi xh yd L,(zy (zy (zy zS (zxr L m (by omega))) (zxv L m (by omega))) (zr3 L m (by omega))),zxf L⟩
theorem zur (L:Nat):FOk (zX rows) L 501 (zhZ xM L) 6:=xR (D:=5) (by kernel_rfl) fun m hm=>⟨zjY,zjQ yW L,(zy zS (zxU L m (by omega))),ztO L⟩
theorem zvn (L:Nat):FOk (zX rows) L 583 (zgF zH L) 8:=xR (D:=7) (by kernel_rfl) fun m hm=>⟨zlw,zk8 xo xM L,(zy (zy zS (zj3 L m (by omega))) (zur L m (by omega))),zuh L⟩
theorem zzN (L:Nat):FOk (zX rows) L 548 (znB zV L) 9:=xR (D:=8) (by kernel_rfl) fun m hm=>⟨zsz,zsy zH L,(zy zS (zvn L m (by omega))),zzr L⟩
theorem zlF (L:Nat):FOk (zX rows) L 644 (zcj zU L) 10:=xR (D:=9) (by kernel_rfl) fun m hm=>⟨zdL,zdK xE yP yc xo zV L,(zy (zy (zy (zy (zy zS (zuj L m (by omega))) (zxu L m (by omega))) (znL L m (by omega))) (zj3 L m (by omega))) (zzN L m (by omega))),zlk L⟩
end
section
set_option linter.unusedVariables false
set_option linter.unusedSimpArgs false
def zEE {α:Type} (p:α→Bool):List α→Nat→Int
 | [],_=>-1
 | x::l,i=>if p x=true then (i:Int) else zEE p l (i+1)
theorem zcJ {i:Nat} (h:i≤1000000000):IntKind.wrap .i64 ((i:Int)+1)=((i+1:Nat):Int):=by
 rw [zbb (by omega) (by omega)]; omega
end
section
set_option linter.unusedVariables false
set_option linter.unusedSimpArgs false
set_option maxRecDepth 100000
variable {β:Type}
theorem zyX (L:Nat) (k:Bool→Option β):xE β (L+200) k=k true:=by kernel_rfl
theorem zCK {L:Nat} (h:200≤L) (k:Bool→Option β):xE β L k=k true:=by
 obtain ⟨m,rfl⟩:∃ m,L=m+200:=⟨L - 200,by omega⟩
 exact zyX m k
theorem zoi (x:Inp):xk (List.replicate 32 (V.sc (.int .u8 (0:Int)))++[(V.sc (.int .u32 (0:Int))),(V.sc (.int .u32 (0:Int))),(V.gs 1 ([]:List (List V)))]) 0 (zas x)=zas x:=zei (by rw [zhd]; rfl)
theorem zrZ (x:Outp):xk [(V.sc (.int .i64 (0:Int))),(V.gs 1 ([]:List (List V)))] 0 (zdh x)=zdh x:=zei (by rw [zvO]; rfl)
theorem zmf (x:Inp) (k:Option β):chk ((List.length (List.take 35 (zas x)))=35∧0+35≤35) k=k:=xl ⟨by rw [zjM,zhd],by decide⟩ k
theorem zr7 (x:Outp) (k:Option β):chk ((List.length (List.take 2 (zdh x)))=2∧0+2≤2) k=k:=xl ⟨by rw [zmn,zvO],by decide⟩ k
theorem zoC (x:Inp) (k:List (List V)→Option β):cLd 1 (zas x) 34 k=k (zeu x.wit):=zog rfl k
theorem zuw (x:Outp) (k:List (List V)→Option β):cLd 1 (zdh x) 1 k=k (xt .u8 x.scr):=zog rfl k
theorem zf7 (x:TxT) (k:List (List V)→Option β):cLd 35 (zc2 x) 1 k=k (x.ins.map zas):=zog rfl k
theorem zhg (x:TxT) (k:List (List V)→Option β):cLd 2 (zc2 x) 2 k=k (x.outs.map zdh):=zog rfl k
theorem zlh (x:TxT):List.map V.dem (List.take 4 (zc2 x))=zc2 x:=Eq.trans rfl rfl
theorem up {i:Nat} (h:i≤1000000000):IntKind.wrap .i64 ((i:Int)+1)=((i+1:Nat):Int):=by
 rw [zbb (by omega) (by omega)]; omega
theorem zqN (w:List (List Int)):(zeu w).length=w.length:=by simp [zeu]
theorem zqt {w:List (List Int)} {i:Nat} (h:i < w.length):(zeu w)[i]?=some [V.sl 1 (xt .u8 w[i])]:=by simp [zeu,h]
theorem zi5 {α:Type} {l:List α} {p:α→Bool} {i:Nat} (h:i < l.length):(l.drop i).all p=(p l[i] && (l.drop (i+1)).all p):=by
 rw [List.drop_eq_getElem_cons h]; rfl
theorem znK (L:Nat) (b:Int) (kr:Bool→Option β) (kx:Option β) (w:List (List Int)) (hw:w.length≤1000000):∀ (n i:Nat),i≤w.length→w.length - i < n →
  zct L kr kx n b (zeu w) (w.length:Int) (i:Int)=ifb ((w.drop i).all fun x=>decide ((x.length:Int)≤b)) kx (kr false)
 | 0,i,h1,h2=>by omega
 | n+1,i,h1,h2=>by
  simp only [zct,zgz,xG]
  by_cases h:i < w.length
  ·rw [xJ (by omega),zdi (zqt h),ziR rfl,up (by omega),znK L b kr kx w hw n (i+1) (by omega) (by omega),zi5 h]
   simp only [yC]
   by_cases hb:((w[i].length:Nat):Int)≤b
   ·rw [yO (by omega)]; simp [hb]
   ·rw [xJ (by omega)]; simp [hb,ifb]
  ·rw [yO (by omega),List.drop_of_length_le (by omega)]; rfl
theorem zuQ {L:Nat} (hL:2000≤L) {a b:Int} (ha:a≤1000) (w:List (List Int)) (k:Bool→Option β):yc β L (zeu w) a b k=k (decide ((w.length:Int)≤a) && w.all fun x=>decide ((x.length:Int)≤b)):=by
 simp only [yc,zip,zlo,zqN,zes,zeS]
 by_cases h:(w.length:Int)≤a
 ·rw [yO (by omega),show ((0:Int))=((0:Nat):Int) from rfl,znK L b _ _ w (by omega) L 0 (by omega) (by omega)]
  simp only [List.drop_zero,h,decide_true,Bool.true_and]
  cases w.all fun x=>decide ((x.length:Int)≤b) <;> rfl
 ·rw [xJ (by omega)]; simp [h]
theorem zqX {l:List Inp} {i:Nat} (h:i < l.length):(l.map zas)[i]?=some (zas l[i]):=by simp [h]
theorem zr9 {l:List Outp} {i:Nat} (h:i < l.length):(l.map zdh)[i]?=some (zdh l[i]):=by simp [h]
def zqZ (x:Inp):Bool:=decide ((x.wit.length:Int)≤40) && x.wit.all fun y=>decide ((y.length:Int)≤600)
theorem zuH {L:Nat} (hL:2000≤L) (kr:Bool→Option β) (kx:List V→Option β) (l:List Inp) (hl:l.length≤1000000) (b1:List V):∀ (n i:Nat),i≤l.length→l.length - i < n →
  zd5 yc L kr kx n (l.map zas) (l.length:Int) (i:Int) b1=ifb ((l.drop i).all zqZ) (kx b1) (kr false)
 | 0,i,h1,h2=>by omega
 | n+1,i,h1,h2=>by
  simp only [zd5,ziL,xG]
  by_cases h:i < l.length
  ·rw [xJ (by omega),zdi (zqX h)]
   rw [zmf,zjM,zoi]
   simp only [zoC,zod]
   rw [zuQ hL (by omega),up (by omega),zuH hL kr kx l hl b1 n (i+1) (by omega) (by omega),zi5 h]
   show ifb (!(zqZ l[i])) _ _=_
   cases zqZ l[i] <;> rfl
  ·rw [yO (by omega),List.drop_of_length_le (by omega)]; rfl
def zqT (x:Outp):Bool:=decide ((x.scr.length:Int)≤600)
theorem ztI {L:Nat} (kr:Bool→Option β) (kx:Option β) (l:List Outp) (hl:l.length≤1000000):∀ (n i:Nat),i≤l.length→l.length - i < n →
  zdt yc L kr kx n (l.map zdh) (l.length:Int) (i:Int)=ifb ((l.drop i).all zqT) kx (kr false)
 | 0,i,h1,h2=>by omega
 | n+1,i,h1,h2=>by
  simp only [zdt,zhE,xG]
  by_cases h:i < l.length
  ·rw [xJ (by omega),zdi (zr9 h)]
   rw [zr7,zmn,zrZ]
   simp only [zuw,zus,yC]
   rw [up (by omega),ztI kr kx l hl n (i+1) (by omega) (by omega),zi5 h]
   by_cases hb:((l[i].scr.length:Nat):Int)≤600
   ·rw [yO (by omega)]; simp [zqT,hb]
   ·rw [xJ (by omega)]; simp [zqT,hb,ifb]
  ·rw [yO (by omega),List.drop_of_length_le (by omega)]; rfl
def zsf (t:TxT):Bool:=decide (t.ins.length≤70) && decide (t.outs.length≤70) && t.ins.all zqZ && t.outs.all zqT
theorem zDY {L:Nat} (hL:2000≤L) (t:TxT) (k:Bool→Option β):yP β L (zc2 t) k=k (zsf t):=by
 simp only [yP,zmh,zqb,zi0,zlO]
 simp only [zf7,zhg,zqU,zkS,List.length_map,zgl,zd0,zg9,zfT,zgr]
 by_cases h1:t.ins.length≤70
 ·rw [yO (by omega)]
  by_cases h2:t.outs.length≤70
  ·rw [yO (by omega),show ((0:Int))=((0:Nat):Int) from rfl,zuH hL _ _ _ (by omega) _ L 0 (by omega) (by omega)]
   simp only [zhg,List.length_map]
   rw [ztI _ _ _ (by omega) L 0 (by omega) (by omega)]
   simp only [List.drop_zero,zsf,h1,h2,decide_true,Bool.true_and]
   cases t.ins.all zqZ <;> cases t.outs.all zqT <;> rfl
  ·rw [xJ (by omega)]; simp [zsf,h2]
 ·rw [xJ (by omega)]; simp [zsf,h1]
structure KeptP (t:TxT):Prop where
 ni:t.ins.length≤70
 no:t.outs.length≤70
 wl:∀ x ∈ t.ins,x.wit.length≤40
 wi:∀ x ∈ t.ins,∀ y ∈ x.wit,y.length≤600
 sl:∀ x ∈ t.outs,x.scr.length≤600
theorem zDN {t:TxT} (h:zsf t=true):KeptP t:=by
 simp only [zsf,zqZ,zqT,Bool.and_eq_true,decide_eq_true_eq,List.all_eq_true] at h
 exact ⟨h.1.1.1,h.1.1.2,fun x hx=>by have:=(h.1.2 x hx).1; omega,fun x hx y hy=>by have:=(h.1.2 x hx).2 y hy; omega,fun x hx=>by have:=h.2 x hx; omega⟩
end
section
set_option linter.unusedVariables false
set_option linter.unusedSimpArgs false
set_option maxRecDepth 100000
variable {β:Type}
theorem zgE {a b:Nat} (h:a+b≤1000000000000):(a+b) * 1≤xg∧a+b≤xg:=by
 unfold xg; omega
def zgy (n:Int) (w:Nat):List Int:=(List.range w).map fun (i:Nat)=>IntKind.wrap .u8 (zdJ .u64 n (8 * (i:Int)))
theorem ziP (n:Int) (w:Nat):(zgy n w).length=w:=by simp [zgy]
def zrV (n:Int):List Int:=zgy (IntKind.wrap .u64 n) 4
def zy6 (n:Int):List Int:=zgy n 8
theorem zc5 (n:Int):(zrV n).length=4:=ziP _ _
theorem zlz (n:Int):(zy6 n).length=8:=ziP _ _
def szB (n:Int):List Int:=if n < 253 then [IntKind.wrap .u8 n] else if n < 65536 then 253::zgy n 2 else if n < 4294967296 then 254::zgy n 4 else 255::zgy n 8
theorem zhB (n:Int):(szB n).length≤9:=by
 unfold szB; repeat' split
 all_goals simp [ziP]
def bsB (s:List Int):List Int:=szB (s.length:Int)++s
def zla (x:Inp):List V:=[V.sc (.int .u8 (x.pv.getD 0 0)),V.sc (.int .u8 (x.pv.getD 1 0)),V.sc (.int .u8 (x.pv.getD 2 0)),V.sc (.int .u8 (x.pv.getD 3 0)),V.sc (.int .u8 (x.pv.getD 4 0)),V.sc (.int .u8 (x.pv.getD 5 0)),V.sc (.int .u8 (x.pv.getD 6 0)),V.sc (.int .u8 (x.pv.getD 7 0)),V.sc (.int .u8 (x.pv.getD 8 0)),V.sc (.int .u8 (x.pv.getD 9 0)),V.sc (.int .u8 (x.pv.getD 10 0)),V.sc (.int .u8 (x.pv.getD 11 0)),V.sc (.int .u8 (x.pv.getD 12 0)),V.sc (.int .u8 (x.pv.getD 13 0)),V.sc (.int .u8 (x.pv.getD 14 0)),V.sc (.int .u8 (x.pv.getD 15 0)),V.sc (.int .u8 (x.pv.getD 16 0)),V.sc (.int .u8 (x.pv.getD 17 0)),V.sc (.int .u8 (x.pv.getD 18 0)),V.sc (.int .u8 (x.pv.getD 19 0)),V.sc (.int .u8 (x.pv.getD 20 0)),V.sc (.int .u8 (x.pv.getD 21 0)),V.sc (.int .u8 (x.pv.getD 22 0)),V.sc (.int .u8 (x.pv.getD 23 0)),V.sc (.int .u8 (x.pv.getD 24 0)),V.sc (.int .u8 (x.pv.getD 25 0)),V.sc (.int .u8 (x.pv.getD 26 0)),V.sc (.int .u8 (x.pv.getD 27 0)),V.sc (.int .u8 (x.pv.getD 28 0)),V.sc (.int .u8 (x.pv.getD 29 0)),V.sc (.int .u8 (x.pv.getD 30 0)),V.sc (.int .u8 (x.pv.getD 31 0)),V.sc (.int .u32 (x.pv.getD 32 0))]
def zqS (x:Inp):List Int:=[x.pv.getD 0 0,x.pv.getD 1 0,x.pv.getD 2 0,x.pv.getD 3 0,x.pv.getD 4 0,x.pv.getD 5 0,x.pv.getD 6 0,x.pv.getD 7 0,x.pv.getD 8 0,x.pv.getD 9 0,x.pv.getD 10 0,x.pv.getD 11 0,x.pv.getD 12 0,x.pv.getD 13 0,x.pv.getD 14 0,x.pv.getD 15 0,x.pv.getD 16 0,x.pv.getD 17 0,x.pv.getD 18 0,x.pv.getD 19 0,x.pv.getD 20 0,x.pv.getD 21 0,x.pv.getD 22 0,x.pv.getD 23 0,x.pv.getD 24 0,x.pv.getD 25 0,x.pv.getD 26 0,x.pv.getD 27 0,x.pv.getD 28 0,x.pv.getD 29 0,x.pv.getD 30 0,x.pv.getD 31 0]
def ptB (x:Inp):List Int:=zqS x++zrV (x.pv.getD 32 0)
theorem zBl (x:Inp):(zla x).length=33:=by simp [zla]
theorem zzO (x:Inp):(List.take 32 (zla x)).length=32:=by simp [zla]
theorem zxX (x:Inp):yf 1 32 (List.take 32 (zla x))=xt .u8 (zqS x):=by rfl
theorem zDV (x:Inp) (k:Int→Option β):cI .u32 (zla x) 32 k=k (x.pv.getD 32 0):=zkN rfl k
theorem zpQ (x:Inp):(zqS x).length=32:=by simp [zqS]
theorem zqR (x:Inp):(ptB x).length=36:=by simp [ptB,zpQ,zc5]
theorem zfH (k:IntKind):([]:List (List V))=xt k []:=rfl
theorem zDR (x:Inp):List.take 33 (zas x)=zla x:=by rfl
theorem zDi (x:Inp) (k:Option β):chk (0+33≤(List.length (zas x))) k=k:=xl (by rw [zhd]; omega) k
theorem zi1 (x:TxT) (k:Option β):chk (0+4≤(List.length (zc2 x))) k=k:=xl (by rw [zi0]; omega) k
theorem zhT {L:Nat} {b s:List Int} (h:b.length+s.length≤1000000000000) (k:List (List V)→Option β):zd β L (xt .u8 b) (xt .u8 s) k=k (xt .u8 (b++s)):=by
 simp only [zd,ziW,xG,yC,List.replicate_zero,List.length_nil,List.nil_append]
 rw [zbb (by omega) (by omega),xl (by unfold xg; omega),xl (by unfold xg; omega),xl (zgE h),zbO]
theorem zEG (L:Nat) (n:Int) (k:List (List V)→Option β):yk β (L+20) n 2 k=k (xt .u8 (zgy n 2)):=by kernel_rfl
theorem zEH (L:Nat) (n:Int) (k:List (List V)→Option β):yk β (L+20) n 4 k=k (xt .u8 (zgy n 4)):=by kernel_rfl
theorem zEW (L:Nat) (n:Int) (k:List (List V)→Option β):yk β (L+20) n 8 k=k (xt .u8 (zgy n 8)):=by kernel_rfl
theorem zwK {L:Nat} (hL:20≤L) (n:Int) (k:List (List V)→Option β):yk β L n 2 k=k (xt .u8 (zgy n 2))∧yk β L n 4 k=k (xt .u8 (zgy n 4))∧yk β L n 8 k=k (xt .u8 (zgy n 8)):=by
 obtain ⟨m,rfl⟩:∃ m,L=m+20:=⟨L - 20,by omega⟩
 exact ⟨zEG m n k,zEH m n k,zEW m n k⟩
theorem zEx {L:Nat} (hL:20≤L) {b:List Int} (h:b.length≤900000000000) (n:Int) (k:List (List V)→Option β):xz β L (xt .u8 b) n k=k (xt .u8 (b++zgy (IntKind.wrap .u64 n) 2)):=by
 simp only [xz,zgv,xG]
 rw [(zwK hL _ _).1,zhT (by rw [ziP]; omega)]
theorem ztl {L:Nat} (hL:20≤L) {b:List Int} (h:b.length≤900000000000) (n:Int) (k:List (List V)→Option β):za β L (xt .u8 b) n k=k (xt .u8 (b++zrV n)):=by
 simp only [za,zgA,xG]
 rw [(zwK hL _ _).2.1,zhT (by rw [ziP]; omega)]; rfl
theorem zCl {L:Nat} (hL:20≤L) {b:List Int} (h:b.length≤900000000000) (n:Int) (k:List (List V)→Option β):zb β L (xt .u8 b) n k=k (xt .u8 (b++zy6 n)):=by
 simp only [zb,zgu,xG]
 rw [(zwK hL _ _).2.2,zhT (by rw [ziP]; omega)]; rfl
theorem zDu (n:Int):yf 1 1 [V.sc (.int .u8 n)]=xt .u8 [n]:=rfl
theorem zqQ {L:Nat} (hL:20≤L) {b:List Int} (h:b.length≤800000000000) {n:Int} (h0:0≤n) (k:List (List V)→Option β):ya β L (xt .u8 b) n k=k (xt .u8 (b++szB n)):=by
 simp only [ya,zfS,xG,zDu,zug]
 unfold szB
 split
 ·rw [zhT (by simp; omega)]
 ·split
  ·rw [zhT (by simp; omega),zEx hL (by simp; omega),zBQ (by omega) (by omega),zc6 (by omega) (by omega)]
   simp
  ·split
   ·rw [zhT (by simp; omega),ztl hL (by simp; omega),zrV,zr8 (by omega) (by omega),zc6 (by omega) (by omega)]
    simp
   ·rw [zhT (by simp; omega),zCl hL (by simp; omega),zy6]
    simp
theorem zw8 {L:Nat} (hL:20≤L) {b s:List Int} (h:b.length≤700000000000) (hs:s.length≤10000000) (k:List (List V)→Option β):xa β L (xt .u8 b) (xt .u8 s) k=k (xt .u8 (b++bsB s)):=by
 simp only [xa,zeW,xG,yC]
 have:=zhB (s.length:Int)
 rw [zc6 (by omega) (by omega),zqQ hL (by omega) (by omega),zhT (by simp; omega)]
 simp [bsB]
theorem zCW {L:Nat} (hL:20≤L) (x:Inp) (k:List (List V)→Option β):zc β L (zla x) k=k (xt .u8 (ptB x)):=by
 simp only [zc,zoO,zA,zfn]
 rw [xl (by rw [zBl]; omega),xl (by rw [zzO]; omega),zxX,zfH .u8,zhT (by simp [zpQ]),zDV,ztl hL (by simp [zpQ])]
 rfl
end
section
set_option linter.unusedVariables false
set_option linter.unusedSimpArgs false
set_option maxRecDepth 100000
variable {β:Type}
def inB (x:Inp):List Int:=ptB x++zrV x.seq
def zm3 (o:Outp):List Int:=zy6 (IntKind.wrap .u64 o.val)++bsB o.scr
def zmI (x:Inp):List Int:=szB (x.wit.length:Int)++x.wit.flatMap bsB
def zeZ (t:TxT) (w:Bool):List Int:=zrV t.ver++szB (t.ins.length:Int)++t.ins.flatMap inB++szB (t.outs.length:Int)++t.outs.flatMap zm3++zrV t.lock++(if w then t.ins.flatMap zmI else [])
theorem zhn {α:Type} {l:List α} {f:α→List Int} {i:Nat} (h:i < l.length):(l.drop i).flatMap f=f l[i]++(l.drop (i+1)).flatMap f:=by
 rw [List.drop_eq_getElem_cons h,List.flatMap_cons]
theorem zqK {α:Type} {f:α→List Int} {c:Nat}:∀ {l:List α},(∀ x ∈ l,(f x).length≤c)→(l.flatMap f).length≤l.length * c
 | [],_=>by simp
 | x::l,h=>by
  have h1:=h x (by simp)
  have h2:=zqK (l:=l) (fun y hy=>h y (by simp [hy]))
  rw [List.flatMap_cons,List.length_append,List.length_cons,Nat.add_mul]; omega
theorem zyr (x:Inp):(inB x).length=40:=by simp [inB,zqR,zc5]
theorem zyp (s:List Int):(bsB s).length≤9+s.length:=by have:=zhB (s.length:Int); simp [bsB]; omega
theorem zB4 (o:Outp):(zm3 o).length≤17+o.scr.length:=by have:=zyp o.scr; simp [zm3,zlz]; omega
theorem zBN {x:Inp} (h1:x.wit.length≤40) (h2:∀ y ∈ x.wit,y.length≤600):(zmI x).length≤30000:=by
 have h3:=zqK (f:=bsB) (c:=609) (l:=x.wit) (fun y hy=>by have:=zyp y; have:=h2 y hy; omega)
 have h4:=zhB (x.wit.length:Int)
 have h5:x.wit.length * 609≤40 * 609:=Nat.mul_le_mul_right _ h1
 simp only [zmI,List.length_append]; omega
theorem zB3 (x:Outp):[V.sc (.int .i64 x.val),V.sl 1 (xt .u8 x.scr)]=zdh x:=Eq.trans rfl rfl
theorem zyd {L:Nat} (hL:20≤L) (kx:Bool→List (List V)→List V→Option β) (l:List Inp) (hl:l.length≤1000000) (w:Bool) (b1:List V):∀ (n i:Nat) (acc:List Int),i≤l.length→l.length - i < n→acc.length+((l.drop i).flatMap inB).length≤500000000000 →
  zcw za ya zc zb xa L kx n w (xt .u8 acc) (l.map zas) (l.length:Int) (i:Int) b1=kx w (xt .u8 (acc++(l.drop i).flatMap inB)) b1
 | 0,i,acc,h1,h2,h3=>by omega
 | n+1,i,acc,h1,h2,h3=>by
  simp only [zcw,zgp,xG]
  by_cases h:i < l.length
  ·rw [zhn h] at h3
   simp only [List.length_append,zyr] at h3
   rw [xJ (by omega),zdi (zqX h)]
   rw [zmf,zjM,zoi]
   simp only [zoC,zod,zDi,zDR]
   rw [zCW hL,yC,yC,xl (zgE (by rw [zqR]; omega)),zbO]
   rw [zfH .u8,ztl hL (by simp),yC,yC,xl (zgE (by simp [zqR,zc5]; omega)),zbO,List.nil_append]
   rw [up (by omega),zyd hL kx l hl w b1 n (i+1) _ (by omega) (by omega) (by simp only [List.length_append,zqR,zc5]; omega),zhn h]
   simp [inB]
  ·rw [yO (by omega),List.drop_of_length_le (by omega)]
   simp
theorem zww {L:Nat} (hL:20≤L) (kx:Bool→List (List V)→List V→Option β) (l:List Outp) (hl:l.length≤1000000) (hs:∀ x ∈ l,x.scr.length≤600) (w:Bool) (b1:List V):∀ (n i:Nat) (acc:List Int),i≤l.length→l.length - i < n→acc.length+((l.drop i).flatMap zm3).length≤500000000000 →
  zbJ za ya zc zb xa L kx n w (xt .u8 acc) (l.map zdh) (l.length:Int) (i:Int) b1=kx w (xt .u8 (acc++(l.drop i).flatMap zm3)) b1
 | 0,i,acc,h1,h2,h3=>by omega
 | n+1,i,acc,h1,h2,h3=>by
  simp only [zbJ,zeV,xG]
  by_cases h:i < l.length
  ·have h4:=hs l[i] (List.getElem_mem h)
   rw [zhn h] at h3
   simp only [List.length_append,zm3,zlz] at h3
   rw [xJ (by omega),zdi (zr9 h)]
   rw [zr7,zmn,zrZ]
   simp only [zuw,zus,zB3]
   rw [zfH .u8,zCl hL (by simp),yC,yC,xl (zgE (by simp [zlz]; omega)),zbO,List.nil_append,zw8 hL (by simp) (by omega),yC,yC,xl (zgE (by simp [zlz]; omega)),zbO,List.nil_append]
   rw [up (by omega),zww hL kx l hl hs w b1 n (i+1) _ (by omega) (by omega) (by simp only [List.length_append,zlz,zm3]; omega),zhn h]
   simp [zm3]
  ·rw [yO (by omega),List.drop_of_length_le (by omega)]
   simp
theorem zuZ {L:Nat} (hL:20≤L) (kx:List (List V)→List (List V)→Int→Int→Option β) (wt:List (List Int)) (hw:wt.length≤1000000) (hs:∀ y ∈ wt,y.length≤600) (p77:List (List V)) (p78 p79:Int):∀ (n i:Nat) (acc:List Int),i≤wt.length→wt.length - i < n→acc.length+((wt.drop i).flatMap bsB).length≤500000000000 →
  yU za ya zc zb xa L kx n (xt .u8 acc) p77 p78 p79 (zeu wt) (wt.length:Int) (i:Int)=kx (xt .u8 (acc++(wt.drop i).flatMap bsB)) p77 p78 p79
 | 0,i,acc,h1,h2,h3=>by omega
 | n+1,i,acc,h1,h2,h3=>by
  simp only [yU,zbj,xG]
  by_cases h:i < wt.length
  ·have h4:=hs wt[i] (List.getElem_mem h)
   rw [zhn h] at h3
   simp only [List.length_append] at h3
   rw [xJ (by omega),zdi (zqt h),ziR rfl]
   rw [zfH .u8,zw8 hL (by simp) (by omega),List.nil_append,yC,yC,xl (zgE (by omega)),zbO]
   rw [up (by omega),zuZ hL kx wt hw hs p77 p78 p79 n (i+1) _ (by omega) (by omega) (by simp only [List.length_append]; omega),zhn h]
   simp
  ·rw [yO (by omega),List.drop_of_length_le (by omega)]
   simp
end
section
set_option linter.unusedVariables false
set_option linter.unusedSimpArgs false
set_option maxRecDepth 100000
variable {β:Type}
theorem zvP {L:Nat} (hL:2000≤L) (kx:List (List V)→Option β) (l:List Inp) (hl:l.length≤1000000) (hw:∀ x ∈ l,x.wit.length≤40) (hs:∀ x ∈ l,∀ y ∈ x.wit,y.length≤600):∀ (n i:Nat) (acc:List Int),i≤l.length→l.length - i < n→acc.length+((l.drop i).flatMap zmI).length≤400000000000 →
  zaZ za ya zc zb xa L kx n (xt .u8 acc) (l.map zas) (l.length:Int) (i:Int)=kx (xt .u8 (acc++(l.drop i).flatMap zmI))
 | 0,i,acc,h1,h2,h3=>by omega
 | n+1,i,acc,h1,h2,h3=>by
  simp only [zaZ,zbF,zdM,xG]
  by_cases h:i < l.length
  ·have h4:=hw l[i] (List.getElem_mem h)
   have h5:=hs l[i] (List.getElem_mem h)
   have h6:=zhB (l[i].wit.length:Int)
   rw [zhn h] at h3
   simp only [List.length_append,zmI] at h3
   rw [xJ (by omega),zdi (zqX h)]
   rw [zmf,zjM,zoi]
   simp only [zoC,zod,zqN]
   rw [zc6 (by omega) (by omega),zfH .u8,zqQ (by omega) (by simp) (by omega),List.nil_append,yC,yC,xl (zgE (by omega)),zbO]
   rw [show ((0:Int))=((0:Nat):Int) from rfl,zuZ (by omega) _ _ (by omega) h5 _ _ _ L 0 _ (by omega) (by omega) (by simp only [List.drop_zero,List.length_append]; omega)]
   simp only [za3,xG,List.drop_zero]
   rw [up (by omega),zvP hL kx l hl hw hs n (i+1) _ (by omega) (by omega) (by simp only [List.length_append,zmI]; omega),zhn h]
   simp [zmI]
  ·rw [yO (by omega),List.drop_of_length_le (by omega)]
   simp
structure Lens (t:TxT):Prop where
 a:(t.ins.flatMap inB).length≤70 * 40
 b:(t.outs.flatMap zm3).length≤70 * 617
 c:(t.ins.flatMap zmI).length≤70 * 30000
theorem KeptP.lens {t:TxT} (h:KeptP t):Lens t:=by
 have hi:=h.ni
 have ho:=h.no
 have h1:=zqK (f:=inB) (c:=40) (l:=t.ins) (fun x _=>by rw [zyr]; omega)
 have h2:=zqK (f:=zm3) (c:=617) (l:=t.outs) (fun x hx=>by have:=zB4 x; have:=h.sl x hx; omega)
 have h3:=zqK (f:=zmI) (c:=30000) (l:=t.ins) (fun x hx=>zBN (h.wl x hx) (h.wi x hx))
 have e1:t.ins.length * 40≤70 * 40:=Nat.mul_le_mul_right _ hi
 have e2:t.outs.length * 617≤70 * 617:=Nat.mul_le_mul_right _ ho
 have e3:t.ins.length * 30000≤70 * 30000:=Nat.mul_le_mul_right _ hi
 exact ⟨by omega,by omega,by omega⟩
theorem zuz {L:Nat} (hL:2000≤L) {t:TxT} (h:KeptP t) (w:Bool) (k:List (List V)→Option β):xb β L (zc2 t) w k=k (xt .u8 (zeZ t w)):=by
 obtain ⟨q1,q2,q3⟩:=h.lens
 have hi:=h.ni
 have ho:=h.no
 have s1:=zhB (t.ins.length:Int)
 have s2:=zhB (t.outs.length:Int)
 simp only [xb,zjb,zm0,zi0,zlO,xG]
 simp only [zf7,zhg,zqU,zkS,List.length_map]
 rw [zfH .u8,ztl (by omega) (by simp),zc6 (by omega) (by omega),zqQ (by omega) (by simp) (by omega),yC,yC,List.nil_append,List.nil_append,xl (zgE (by rw [zc5]; omega)),zbO]
 rw [show ((0:Int))=((0:Nat):Int) from rfl,zyd (by omega) _ _ (by omega) _ _ L 0 _ (by omega) (by omega) (by simp only [List.drop_zero,List.length_append,zc5]; omega)]
 simp only [zcB,ze1,xG,zf7,zhg,zkS,List.length_map,List.drop_zero]
 rw [zfH .u8,zc6 (by omega) (by omega),zqQ (by omega) (by simp) (by omega),yC,yC,List.nil_append,xl (zgE (by simp only [List.length_append,zc5]; omega)),zbO]
 rw [show ((0:Int))=((0:Nat):Int) from rfl,zww (by omega) _ _ (by omega) h.sl _ _ L 0 _ (by omega) (by omega) (by simp only [List.drop_zero,List.length_append,zc5]; omega)]
 simp only [zbT,zea,xG,zf7,zhg,zkS,List.length_map,List.drop_zero]
 rw [zfH .u8,ztl (by omega) (by simp),yC,yC,List.nil_append,xl (zgE (by simp only [List.length_append,zc5]; omega)),zbO]
 cases w with
 | false =>
  simp only [Bool.not_false,zsu,zeZ,Bool.false_eq_true,if_false,List.append_nil]
 | true =>
  simp only [Bool.not_true,zjs]
  rw [show ((0:Int))=((0:Nat):Int) from rfl,zvP hL _ _ (by omega) h.wl h.wi L 0 _ (by omega) (by omega) (by simp only [List.drop_zero,List.length_append,zc5]; omega)]
  simp only [zcY,List.drop_zero,zeZ,if_true]
end
section
set_option linter.unusedVariables false
set_option linter.unusedSimpArgs false
set_option maxRecDepth 100000
variable {β:Type}
def okO (o:Outp):Bool:=decide (0≤o.val) && decide (o.scr.length≤520)
def okI (x:Inp):Bool:=decide (x.wit.length≤32) && x.wit.all fun y=>decide (y.length≤520)
def zbD (t:TxT):Bool:=decide (t.ins.length≤64) && decide (t.outs.length≤64) && t.outs.all okO && t.ins.all okI && decide ((zeZ t true).length≤20000)
theorem zyn {L:Nat} (kr:Bool→Option β) (kx:List V→Option β) (l:List Outp) (hl:l.length≤1000000) (b1:List V):∀ (n i:Nat),i≤l.length→l.length - i < n →
  zd3 xb L kr kx n (l.map zdh) (l.length:Int) (i:Int) b1=ifb ((l.drop i).all okO) (kx b1) (kr false)
 | 0,i,h1,h2=>by omega
 | n+1,i,h1,h2=>by
  simp only [zd3,ziX,xG]
  by_cases h:i < l.length
  ·rw [xJ (by omega),zdi (zr9 h)]
   rw [zr7,zmn,zrZ]
   simp only [zuw,zus,yC]
   rw [up (by omega),zyn kr kx l hl b1 n (i+1) (by omega) (by omega),zi5 h]
   by_cases hv:0≤l[i].val
   ·rw [yO (by omega)]
    by_cases hb:l[i].scr.length≤520
    ·rw [yO (by omega)]; simp [okO,hb,hv]
    ·rw [xJ (by omega)]
     have:okO l[i]=false:=by simp [okO,hb]
     rw [this]; rfl
   ·rw [xJ (by omega)]
    have:okO l[i]=false:=by simp [okO,hv]
    rw [this]; rfl
  ·rw [yO (by omega),List.drop_of_length_le (by omega)]; rfl
theorem zwT {L:Nat} (kr:Bool→Option β) (kx:List (List V)→Int→Int→List V→Option β) (wt:List (List Int)) (hw:wt.length≤1000000) (p37:List (List V)) (p38 p39:Int) (b1:List V):∀ (n i:Nat),i≤wt.length→wt.length - i < n →
  zaG xb L kr kx n p37 p38 p39 (zeu wt) (wt.length:Int) (i:Int) b1=ifb ((wt.drop i).all fun y=>decide (y.length≤520)) (kx p37 p38 p39 b1) (kr false)
 | 0,i,h1,h2=>by omega
 | n+1,i,h1,h2=>by
  simp only [zaG,zc1,xG]
  by_cases h:i < wt.length
  ·rw [xJ (by omega),zdi (zqt h),ziR rfl]
   rw [up (by omega),zwT kr kx wt hw p37 p38 p39 b1 n (i+1) (by omega) (by omega),zi5 h,yC]
   by_cases hb:wt[i].length≤520
   ·rw [yO (by omega)]; simp [hb]
   ·rw [xJ (by omega)]; simp [hb,ifb]
  ·rw [yO (by omega),List.drop_of_length_le (by omega)]; rfl
theorem zDM {L:Nat} (hL:2000≤L) (kr:Bool→Option β) (kx:List V→Option β) (l:List Inp) (hl:l.length≤1000000) (b1:List V):∀ (n i:Nat),i≤l.length→l.length - i < n →
  zdE xb L kr kx n (l.map zas) (l.length:Int) (i:Int) b1=ifb ((l.drop i).all okI) (kx b1) (kr false):=by
 intro n
 induction n with
 | zero=>intro i h1 h2; omega
 | succ n ih =>
  intro i h1 h2
  simp only [zdE,zeo,zh5,xG]
  by_cases h:i < l.length
  ·rw [xJ (by omega),zdi (zqX h)]
   rw [zmf,zjM,zoi]
   simp only [zoC,zod,zqN]
   rw [zi5 h]
   by_cases hw:l[i].wit.length≤32
   ·rw [yO (by omega),show ((0:Int))=((0:Nat):Int) from rfl,zwT _ _ _ (by omega) _ _ _ _ L 0 (by omega) (by omega)]
    simp only [zcl,zb6,xG,List.drop_zero]
    rw [up (by omega),ih (i+1) (by omega) (by omega)]
    have:okI l[i]=l[i].wit.all fun y=>decide (y.length≤520):=by simp [okI,hw]
    rw [this]
    cases l[i].wit.all fun y=>decide (y.length≤520) <;> rfl
   ·rw [xJ (by omega)]
    have:okI l[i]=false:=by simp [okI,hw]
    rw [this]; rfl
  ·rw [yO (by omega),List.drop_of_length_le (by omega)]; rfl
theorem zBn {L:Nat} (hL:2000≤L) {t:TxT} (h:KeptP t) (k:Bool→Option β):xj β L (zc2 t) k=k (zbD t):=by
 have hi:=h.ni
 have ho:=h.no
 simp only [xj,zmk,zpS,zi0,zlO]
 simp only [zf7,zhg,zqU,zkS,List.length_map]
 by_cases h1:t.ins.length≤64
 ·rw [yO (by omega)]
  by_cases h2:t.outs.length≤64
  ·rw [yO (by omega),show ((0:Int))=((0:Nat):Int) from rfl,zyn _ _ _ (by omega) _ L 0 (by omega) (by omega)]
   simp only [zdW,zhb,zgs,zf7,zhg,List.length_map,List.drop_zero]
   cases e1:t.outs.all okO
   ·have e:zbD t=false:=by simp [zbD,e1]
    rw [e]; rfl
   ·rw [zsu,show ((0:Int))=((0:Nat):Int) from rfl,zDM hL _ _ _ (by omega) _ L 0 (by omega) (by omega)]
    simp only [zgt,zfu,zf7,zhg,List.drop_zero,zi1,zlh]
    cases e2:t.ins.all okI
    ·have e:zbD t=false:=by simp [zbD,e2]
     rw [e]; rfl
    ·rw [zsu,zuz hL h,yC]
     have e:decide (((zeZ t true).length:Int)≤20000)=zbD t:=by
      simp only [zbD,h1,h2,e1,e2,decide_true,Bool.true_and]
      exact decide_eq_decide.2 (by omega)
     rw [e]
  ·have e:zbD t=false:=by simp [zbD,h2]
   rw [xJ (by omega),e]
 ·have e:zbD t=false:=by simp [zbD,h1]
  rw [xJ (by omega),e]
def zCI:List V:=List.replicate 32 (V.sc (.int .u8 (0:Int)))++[(V.sc (.int .u32 (4294967295:Int)))]
def eqP (x y:Inp):Bool:=(zcP (zla x) (zla y)).getD false
def eqN (x:Inp):Bool:=(zcP (zla x) zCI).getD false
def cbB (t:TxT):Bool:=match t.ins with
 | [x]=>eqN x
 | _=>false
end
end Go.Proofs.YtoeobffjdbdpgaaDoor
