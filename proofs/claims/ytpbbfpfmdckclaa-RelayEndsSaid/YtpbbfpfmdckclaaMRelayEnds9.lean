/- Part 9 of the proof of RelayEnds: an abstract machine over plain values, its soundness, and the functions of the program on plain values. -/
import Derived.Test.YtpbbfpfmdckclaaMRelayEnds8
namespace Go.Proofs.Ytpbbfpfmdckclaa
section
set_option maxRecDepth 100000
set_option linter.unusedVariables false
set_option linter.unusedSimpArgs false
def zq2:CC:=(.seq (.seq (.reg [oo 6 (.move (tq 5) false),
   oo 7 (.move (tq 0) false),
   oo 8 (.lenS (tq 7)),
   oo 9 (.bin .lss (tq 6) (tq 8))])
 (.cond (tq 9)
 .skip
 (.seq (.mask (bl 0 18) (bl 261831 18))
 (.exit 0))))
 (.seq (.block 1 (.seq (.dreg [] [(oo 12 (.move (tq 0) false),q0),
   (oo 13 (.move (tq 5) false),q0),
   (oo 14 (.indexAddrS 32 (tq 12) (tq 13)),q0),
   (oo 15 (.load true 32 (tq 14) false),qc [3] []),
   (oo 16 (.load true 32 (tq 3) false),ql 3 [] []),
   (oo 17 (.eqAgg false 32 (tq 15) (tq 16)),q0)])
 (.cond (tq 17)
 (.seq (.reg [oo 4 (.move (.const (.sc (.bool true))) false)])
 (.seq (.mask (bl 16 18) (bl 261847 18))
 .ret))
 .skip)))
 (.reg [oo 10 (.move (tq 5) false),
   oo 11 (.bin .add (tq 10) (.const (.sc (.int .i64 1)))),
   oo 5 (.move (tq 11) false)])))
def zt6:CC:=(.seq (.reg [oo 4 (.move (.const (.sc (.bool false))) false)])
 .ret)
def zpM:CF:=⟨18,[.tmp 4],
 (.seq (.reg [oo 3 (.box true (tq 1)),
   oo 4 (.move (.const (.sc (.bool false))) false)])
 (.seq (.seq (.reg [oo 5 (.move (.const (.sc (.int .i64 0))) false)])
 (.block 0 (.loop (bl 41 18) (bl 261871 18)
 zq2)))
 zt6))⟩
def znh:Hint:=⟨[],[],[none,some ((bl 41 18),(bl 261871 18)),none,some ((bl 0 18),(bl 261831 18)),none,none,some ((bl 16 18),(bl 261847 18)),none],[],[],false,false⟩
def zAr:Nat→Sh:=zay []
def zAJ (L:Nat):CBC:=noC
def zzf:St→St:=zab 0 (bl 41 18) (bl 261871 18)
def zxE (p0:List (List V)) (p5:Int) (b3:List V):St:=⟨((V.sl 32 p0)::(jn 2 ((V.ptr 3 0)::(jn 1 ((V.sc (.int .i64 p5))::(jn 12 [])))))),(gn 3 ((.live true b3)::(gn 14 [])))⟩
def zyP (p4:Bool):St:=⟨(jn 4 ((V.sc (.bool p4))::(jn 13 []))),(gn 18 [])⟩
def zzj:St:=⟨(jn 18 []),(gn 18 [])⟩
def zqH {β:Type} (L:Nat) (p0:List (List V)) (p1:List V) (k_hbaba:List (List V)→Int→List V→Option β):Option β :=
 k_hbaba p0 (0:Int) p1
def zmK {β:Type} (L:Nat) (p0:List (List V)) (p5:Int) (b3:List V) (k_ret:Bool→Option β) (k_hbaba:List (List V)→Int→List V→Option β) (k_x0:Option β):Option β :=
 ifb (decide (p5 < ((List.length p0:Nat):Int))) (
 idx p0 p5 fun c0 =>
 chk (0+32≤(List.length b3)) (
 eqC 32 (List.take 32 c0) (List.take 32 b3) fun v1 =>
 ifb v1 (
 k_ret true) (
 lt (IntKind.wrap .i64 ((p5:Int)+(1:Int))) fun x2 =>
 k_hbaba p0 x2 b3))) (
 k_x0)
def zks {β:Type} (L:Nat) (p4:Bool) (k_fin:Bool→Option β):Option β :=
 k_fin p4
def zla {β:Type} (L:Nat) (k_fin:Bool→Option β):Option β :=
 k_fin false
def zgk {β:Type} (L:Nat) (k_ret:Bool→Option β) (k_x0:Option β):Nat→List (List V)→Int→List V→Option β
 | 0,_,_,_=>none
 | n+1,p0,p5,b3=>zmK L p0 p5 b3 k_ret (fun p0 p5 b3=>zgk L k_ret k_x0 n p0 p5 b3) k_x0
def zqT {β:Type} (L:Nat) (p0:List (List V)) (p1:List V) (k_fin:Bool→Option β):Option β :=
 zqH L p0 p1 (fun p0 p5 b3=>zgk L (fun p4=>zks L p4 k_fin) (zla L k_fin) L p0 p5 b3)
abbrev zP:=∀ (β:Type),Nat→List (List V)→List V→(Bool→Option β)→Option β
def zh (β:Type) (L:Nat) (p0:List (List V)) (p1:List V) (k_fin:Bool→Option β):Option β:=zqT L p0 p1 k_fin
def zmX (zh:zP) (L:Nat) (β:Type) (args:List V) (bor:Bor) (k:KK β):Option β:=match args,bor with
 | [a0,a1],[]=>aL 32 a0 fun p0=>aG a1 fun p1=>zh β L p0 p1 (fun p0=>k (V.sc (.bool p0)) [])
 | _,_=>none
def zql:CC:=(.seq (.seq (.reg [oo 6 (.move (tq 5) false),
   oo 7 (.move (tq 0) false),
   oo 8 (.lenS (tq 7)),
   oo 9 (.bin .lss (tq 6) (tq 8))])
 (.cond (tq 9)
 .skip
 (.seq (.mask (bl 0 20) (bl 1048263 20))
 (.exit 0))))
 (.seq (.block 1 (.seq (.dreg [] [(oo 12 (.move (tq 0) false),q0),
   (oo 13 (.move (tq 5) false),q0),
   (oo 14 (.indexAddrS 35 (tq 12) (tq 13)),q0),
   (oo 15 (.fieldAddr 0 (tq 14)),q0),
   (oo 16 (.load true 32 (tq 15) false),qc [3] []),
   (oo 17 (.load true 32 (tq 3) false),ql 3 [] []),
   (oo 18 (.eqAgg false 32 (tq 16) (tq 17)),q0)])
 (.cond (tq 18)
 (.seq (.reg [oo 19 (.move (tq 5) false),
   oo 4 (.move (tq 19) false)])
 (.seq (.mask (bl 16 20) (bl 1048279 20))
 .ret))
 .skip)))
 (.reg [oo 10 (.move (tq 5) false),
   oo 11 (.bin .add (tq 10) (.const (.sc (.int .i64 1)))),
   oo 5 (.move (tq 11) false)])))
def ztn:CC:=(.seq (.reg [oo 4 (.move (.const (.sc (.int .i64 (-1)))) false)])
 .ret)
def zoB:CF:=⟨20,[.tmp 4],
 (.seq (.reg [oo 3 (.box true (tq 1)),
   oo 4 (.move (.const (.sc (.int .i64 0))) false)])
 (.seq (.seq (.reg [oo 5 (.move (.const (.sc (.int .i64 0))) false)])
 (.block 0 (.loop (bl 41 20) (bl 1048303 20)
 zql)))
 ztn))⟩
def zmN:Hint:=⟨[],[],[none,some ((bl 41 20),(bl 1048303 20)),none,some ((bl 0 20),(bl 1048263 20)),none,none,some ((bl 16 20),(bl 1048279 20)),none],[],[],false,false⟩
def zAh:Nat→Sh:=zay []
def zAc (L:Nat):CBC:=noC
def zyq:St→St:=zab 0 (bl 41 20) (bl 1048303 20)
def zxn (p0:List (List V)) (p5:Int) (b3:List V):St:=⟨((V.sl 35 p0)::(jn 2 ((V.ptr 3 0)::(jn 1 ((V.sc (.int .i64 p5))::(jn 14 [])))))),(gn 3 ((.live true b3)::(gn 16 [])))⟩
def zyo (p4:Int):St:=⟨(jn 4 ((V.sc (.int .i64 p4))::(jn 15 []))),(gn 20 [])⟩
def zyY:St:=⟨(jn 20 []),(gn 20 [])⟩
def zpL {β:Type} (L:Nat) (p0:List (List V)) (p1:List V) (k_hbaba:List (List V)→Int→List V→Option β):Option β :=
 k_hbaba p0 (0:Int) p1
def zl8 {β:Type} (L:Nat) (p0:List (List V)) (p5:Int) (b3:List V) (k_ret:Int→Option β) (k_hbaba:List (List V)→Int→List V→Option β) (k_x0:Option β):Option β :=
 ifb (decide (p5 < ((List.length p0:Nat):Int))) (
 idx p0 p5 fun c0 =>
 chk (0+32≤(List.length b3)) (
 eqC 32 (List.take 32 c0) (List.take 32 b3) fun v1 =>
 ifb v1 (
 k_ret p5) (
 lt (IntKind.wrap .i64 ((p5:Int)+(1:Int))) fun x2 =>
 k_hbaba p0 x2 b3))) (
 k_x0)
def zoX {β:Type} (L:Nat) (p4:Int) (k_fin:Int→Option β):Option β :=
 k_fin p4
def zpV {β:Type} (L:Nat) (k_fin:Int→Option β):Option β :=
 k_fin (-1:Int)
def zfR {β:Type} (L:Nat) (k_ret:Int→Option β) (k_x0:Option β):Nat→List (List V)→Int→List V→Option β
 | 0,_,_,_=>none
 | n+1,p0,p5,b3=>zl8 L p0 p5 b3 k_ret (fun p0 p5 b3=>zfR L k_ret k_x0 n p0 p5 b3) k_x0
def zpt {β:Type} (L:Nat) (p0:List (List V)) (p1:List V) (k_fin:Int→Option β):Option β :=
 zpL L p0 p1 (fun p0 p5 b3=>zfR L (fun p4=>zoX L p4 k_fin) (zpV L k_fin) L p0 p5 b3)
abbrev zM:=∀ (β:Type),Nat→List (List V)→List V→(Int→Option β)→Option β
def zf (β:Type) (L:Nat) (p0:List (List V)) (p1:List V) (k_fin:Int→Option β):Option β:=zpt L p0 p1 k_fin
def zlQ (zf:zM) (L:Nat) (β:Type) (args:List V) (bor:Bor) (k:KK β):Option β:=match args,bor with
 | [a0,a1],[]=>aL 35 a0 fun p0=>aG a1 fun p1=>zf β L p0 p1 (fun p0=>k (V.sc (.int .i64 p0)) [])
 | _,_=>none
def zno:CC:=(.seq (.seq (.reg [oo 67 (.move (tq 5) false),
   oo 68 (.fieldAddr 3 (tq 1)),
   oo 69 (.load false 1 (tq 68) false),
   oo 70 (.lenS (tq 69)),
   oo 71 (.bin .lss (tq 67) (tq 70))])
 (.cond (tq 71)
 .skip
 (.seq (.mask (bl 0 96) (bl 59416285001828173961047834585 96))
 (.exit 4))))
 (.seq (.block 5 (.seq (.dreg [] [(oo 74 (.fieldAddr 3 (tq 1)),q0),
   (oo 75 (.load false 1 (tq 74) false),ql 1 [] []),
   (oo 76 (.fieldAddr 3 (tq 1)),q0),
   (oo 77 (.load false 1 (tq 76) false),ql 1 [] []),
   (oo 78 (.move (tq 5) false),q0),
   (oo 79 (.indexAddrS 35 (tq 77) (tq 78)),q0),
   (oo 80 (.fieldAddr 0 (tq 79)),q0),
   (oo 81 (.load true 32 (tq 80) false),qc [1] []),
   (oo 82 (.call 364 [((tq 75),0),((tq 81),0)] []),q0),
   (oo 83 (.move (tq 5) false),q0),
   (oo 84 (.bin .neq (tq 82) (tq 83)),q0),
   (oo 85 (.move (tq 84) false),q0),
   (⟨(some 86),false,(some (85,false)),.fieldAddr 4 (tq 1)⟩,q0),
   (⟨(some 87),false,(some (85,false)),.load false 1 (tq 86) false⟩,ql 1 [] []),
   (⟨(some 88),false,(some (85,false)),.fieldAddr 3 (tq 1)⟩,q0),
   (⟨(some 89),false,(some (85,false)),.load false 1 (tq 88) false⟩,ql 1 [] []),
   (⟨(some 90),false,(some (85,false)),.move (tq 5) false⟩,q0),
   (⟨(some 91),false,(some (85,false)),.indexAddrS 35 (tq 89) (tq 90)⟩,q0),
   (⟨(some 92),false,(some (85,false)),.fieldAddr 0 (tq 91)⟩,q0),
   (⟨(some 93),false,(some (85,false)),.load true 32 (tq 92) false⟩,qc [1] []),
   (⟨(some 94),false,(some (85,false)),.call 365 [((tq 87),0),((tq 93),0)] []⟩,q0),
   (oo 95 (.pick (tq 85) (.const (.sc (.bool true))) (tq 94)),q0)])
 (.cond (tq 95)
 (.seq (.reg [oo 2 (.move (.const (.sc (.bool false))) false)])
 (.seq (.mask (bl 4 96) (bl 59416285001828173961047834589 96))
 .ret))
 .skip)))
 (.reg [oo 72 (.move (tq 5) false),
   oo 73 (.bin .add (tq 72) (.const (.sc (.int .i64 1)))),
   oo 5 (.move (tq 73) false)])))
def znW:CC:=(.seq (.seq (.reg [oo 50 (.move (tq 4) false),
   oo 51 (.fieldAddr 4 (tq 1)),
   oo 52 (.load false 1 (tq 51) false),
   oo 53 (.lenS (tq 52)),
   oo 54 (.bin .lss (tq 50) (tq 53))])
 (.cond (tq 54)
 .skip
 (.seq (.mask (bl 2 96) (bl 79228162440468354099451002859 96))
 (.exit 2))))
 (.seq (.block 3 (.seq (.dreg [] [(oo 57 (.fieldAddr 4 (tq 1)),q0),
   (oo 58 (.load false 1 (tq 57) false),ql 1 [] []),
   (oo 59 (.move (tq 4) false),q0),
   (oo 60 (.sliceS 32 (tq 58) none (some (tq 59)) none),q0),
   (oo 61 (.fieldAddr 4 (tq 1)),q0),
   (oo 62 (.load false 1 (tq 61) false),ql 1 [] []),
   (oo 63 (.move (tq 4) false),q0),
   (oo 64 (.indexAddrS 32 (tq 62) (tq 63)),q0),
   (oo 65 (.load true 32 (tq 64) false),qc [1] []),
   (oo 66 (.call 365 [((tq 60),0),((tq 65),0)] []),q0)])
 (.cond (tq 66)
 (.seq (.reg [oo 2 (.move (.const (.sc (.bool false))) false)])
 (.seq (.mask (bl 4 96) (bl 79228162440468354099451002861 96))
 .ret))
 .skip)))
 (.reg [oo 55 (.move (tq 4) false),
   oo 56 (.bin .add (tq 55) (.const (.sc (.int .i64 1)))),
   oo 4 (.move (tq 56) false)])))
def zoU:CC:=(.seq (.seq (.reg [oo 22 (.move (tq 3) false),
   oo 23 (.fieldAddr 2 (tq 1)),
   oo 24 (.load false 1 (tq 23) false),
   oo 25 (.lenS (tq 24)),
   oo 26 (.bin .lss (tq 22) (tq 25))])
 (.cond (tq 26)
 .skip
 (.seq (.mask (bl 2 96) (bl 79228162514264337593510395891 96))
 (.exit 0))))
 (.seq (.block 1 (.seq (.dreg [] [(oo 29 (.fieldAddr 2 (tq 1)),q0),
   (oo 30 (.load false 1 (tq 29) false),q0),
   (oo 31 (.move (tq 3) false),q0),
   (oo 32 (.indexAddrS 1 (tq 30) (tq 31)),q0),
   (oo 33 (.load false 1 (tq 32) false),q0),
   (oo 34 (.bin .lss (tq 33) (.const (.sc (.int .i64 0)))),q0),
   (oo 35 (.move (tq 34) false),q0),
   (⟨(some 36),false,(some (35,false)),.move (tq 3) false⟩,q0),
   (⟨(some 37),false,(some (35,false)),.bin .gtr (tq 36) (.const (.sc (.int .i64 0)))⟩,q0),
   (⟨(some 38),false,(some (35,false)),.move (tq 37) false⟩,q0),
   (⟨(some 39),false,(some (38,true)),.fieldAddr 2 (tq 1)⟩,q0),
   (⟨(some 40),false,(some (38,true)),.load false 1 (tq 39) false⟩,ql 1 [] []),
   (⟨(some 41),false,(some (38,true)),.indexAddrS 1 (tq 40) (.const (.sc (.int .i64 0)))⟩,q0),
   (⟨(some 42),false,(some (38,true)),.load false 1 (tq 41) false⟩,qc [1] []),
   (⟨(some 43),false,(some (38,true)),.fieldAddr 2 (tq 1)⟩,q0),
   (⟨(some 44),false,(some (38,true)),.load false 1 (tq 43) false⟩,ql 1 [] []),
   (⟨(some 45),false,(some (38,true)),.indexAddrS 1 (tq 44) (.const (.sc (.int .i64 1)))⟩,q0),
   (⟨(some 46),false,(some (38,true)),.load false 1 (tq 45) false⟩,qc [1] []),
   (⟨(some 47),false,(some (38,true)),.bin .eql (tq 42) (tq 46)⟩,q0),
   (⟨(some 48),false,(some (35,false)),.pick (tq 38) (tq 47) (.const (.sc (.bool false)))⟩,q0),
   (oo 49 (.pick (tq 35) (.const (.sc (.bool true))) (tq 48)),q0)])
 (.cond (tq 49)
 (.seq (.reg [oo 2 (.move (.const (.sc (.bool false))) false)])
 (.seq (.mask (bl 4 96) (bl 79228162514264337593510395893 96))
 .ret))
 .skip)))
 (.reg [oo 27 (.move (tq 3) false),
   oo 28 (.bin .add (tq 27) (.const (.sc (.int .i64 1)))),
   oo 3 (.move (tq 28) false)])))
def zp2:CC:=(.seq (.reg [oo 2 (.move (.const (.sc (.bool true))) false)])
 .ret)
def zqv:CC:=(.seq (.seq (.reg [oo 5 (.move (.const (.sc (.int .i64 0))) false)])
 (.block 4 (.loop (bl 34 96) (bl 59416285001828173961047834619 96)
 zno)))
 zp2)
def zq0:CC:=(.seq (.seq (.reg [oo 4 (.move (.const (.sc (.int .i64 0))) false)])
 (.block 2 (.loop (bl 18 96) (bl 79228162440468354099451002875 96)
 znW)))
 zqv)
def znx:CF:=⟨96,[.tmp 2],
 (.seq (.reg [oo 1 (.box true (tq 0)),
   oo 2 (.move (.const (.sc (.bool false))) false)])
 (.seq (.seq (.reg [oo 6 (.fieldAddr 2 (tq 1)),
   oo 7 (.load false 1 (tq 6) false),
   oo 8 (.lenS (tq 7)),
   oo 9 (.bin .gtr (tq 8) (.const (.sc (.int .i64 2)))),
   oo 10 (.move (tq 9) false),
   ⟨(some 11),false,(some (10,false)),.fieldAddr 3 (tq 1)⟩,
   ⟨(some 12),false,(some (10,false)),.load false 1 (tq 11) false⟩,
   ⟨(some 13),false,(some (10,false)),.lenS (tq 12)⟩,
   ⟨(some 14),false,(some (10,false)),.bin .gtr (tq 13) (.const (.sc (.int .i64 64)))⟩,
   oo 15 (.pick (tq 10) (.const (.sc (.bool true))) (tq 14)),
   oo 16 (.move (tq 15) false),
   ⟨(some 17),false,(some (16,false)),.fieldAddr 4 (tq 1)⟩,
   ⟨(some 18),false,(some (16,false)),.load false 1 (tq 17) false⟩,
   ⟨(some 19),false,(some (16,false)),.lenS (tq 18)⟩,
   ⟨(some 20),false,(some (16,false)),.bin .gtr (tq 19) (.const (.sc (.int .i64 2048)))⟩,
   oo 21 (.pick (tq 16) (.const (.sc (.bool true))) (tq 20))])
 (.cond (tq 21)
 (.seq (.reg [oo 2 (.move (.const (.sc (.bool false))) false)])
 .ret)
 .skip))
 (.seq (.seq (.reg [oo 3 (.move (.const (.sc (.int .i64 0))) false)])
 (.block 0 (.loop (bl 10 96) (bl 79228162514264337593510395899 96)
 zoU)))
 zq0)))⟩
def zme:Hint:=⟨[(0,0)],[],[none,none,none,some ((bl 10 96),(bl 79228162514264337593510395899 96)),none,some ((bl 2 96),(bl 79228162514264337593510395891 96)),none,none,some ((bl 4 96),(bl 79228162514264337593510395893 96)),none,some ((bl 18 96),(bl 79228162440468354099451002875 96)),none,some ((bl 2 96),(bl 79228162440468354099451002859 96)),none,none,some ((bl 4 96),(bl 79228162440468354099451002861 96)),none,some ((bl 34 96),(bl 59416285001828173961047834619 96)),none,some ((bl 0 96),(bl 59416285001828173961047834585 96)),none,none,some ((bl 4 96),(bl 59416285001828173961047834589 96)),none],[],[],false,false⟩
def zzU:Nat→Sh:=zay [(7,(.sl 1)),(12,(.sl 35)),(18,(.sl 32)),(24,(.sl 1)),(30,(.sl 1)),(33,(.int .i64)),(40,(.sl 1)),(42,(.int .i64)),(44,(.sl 1)),(46,(.int .i64)),(52,(.sl 32)),(58,(.sl 32)),(62,(.sl 32)),(69,(.sl 35)),(75,(.sl 35)),(77,(.sl 35)),(87,(.sl 32)),(89,(.sl 35))]
def zzT (zh:zP) (zf:zM) (L:Nat):CBC:=(zI 364 (zlQ zf L) (zI 365 (zmX zh L) noC))
def zxq:St→St:=zab 0 (bl 10 96) (bl 79228162514264337593510395899 96)
def zxo:St→St:=zab 0 (bl 18 96) (bl 79228162440468354099451002875 96)
def zxa:St→St:=zab 0 (bl 34 96) (bl 59416285001828173961047834619 96)
def zwb (p3:Int) (b1:List V):St:=⟨(jn 1 ((V.ptr 1 0)::(jn 1 ((V.sc (.int .i64 p3))::(jn 92 []))))),(gn 1 ((.live true b1)::(gn 94 [])))⟩
def zxL (p2:Bool):St:=⟨(jn 2 ((V.sc (.bool p2))::(jn 93 []))),(gn 96 [])⟩
def zyp (b1:List V):St:=⟨(jn 1 ((V.ptr 1 0)::(jn 94 []))),(gn 1 ((.live true b1)::(gn 94 [])))⟩
def zvP (p4:Int) (b1:List V):St:=⟨(jn 1 ((V.ptr 1 0)::(jn 2 ((V.sc (.int .i64 p4))::(jn 91 []))))),(gn 1 ((.live true b1)::(gn 94 [])))⟩
def zym (b1:List V):St:=⟨(jn 1 ((V.ptr 1 0)::(jn 94 []))),(gn 1 ((.live true b1)::(gn 94 [])))⟩
def zvA (p5:Int) (b1:List V):St:=⟨(jn 1 ((V.ptr 1 0)::(jn 3 ((V.sc (.int .i64 p5))::(jn 90 []))))),(gn 1 ((.live true b1)::(gn 94 [])))⟩
def zyl:St:=⟨(jn 96 []),(gn 96 [])⟩
def zom {β:Type} (zh:zP) (zf:zM) (L:Nat) (p0:List V) (k_fin:Bool→Option β) (k_hbbaba:Int→List V→Option β):Option β :=
 cLd 1 p0 2 fun v0 =>
 ifb (decide (((List.length v0:Nat):Int) > (2:Int))) (
 k_fin false) (
 cLd 35 p0 3 fun v1 =>
 ifb (decide (((List.length v1:Nat):Int) > (64:Int))) (
 k_fin false) (
 cLd 32 p0 4 fun v2 =>
 ifb (decide (((List.length v2:Nat):Int) > (2048:Int))) (
 k_fin false) (
 k_hbbaba (0:Int) p0)))
def yQ {β:Type} (zh:zP) (zf:zM) (L:Nat) (p3:Int) (b1:List V) (k_ret:Bool→Option β) (k_hbbaba:Int→List V→Option β) (k_x0:List V→Option β):Option β :=
 cLd 1 b1 2 fun v3 =>
 ifb (decide (p3 < ((List.length v3:Nat):Int))) (
 cLd 1 b1 2 fun v4 =>
 idx v4 p3 fun c5 =>
 cI .i64 c5 0 fun v6 =>
 ifb (decide (v6 < (0:Int))) (
 k_ret false) (
 ifb (decide (p3 > (0:Int))) (
 cLd 1 b1 2 fun v7 =>
 idx v7 (0:Int) fun c8 =>
 cI .i64 c8 0 fun v9 =>
 cLd 1 b1 2 fun v10 =>
 idx v10 (1:Int) fun c11 =>
 cI .i64 c11 0 fun v12 =>
 ifb ((v9:Int) == v12) (
 k_ret false) (
 lt (IntKind.wrap .i64 ((p3:Int)+(1:Int))) fun x13 =>
 k_hbbaba x13 b1)) (
 lt (IntKind.wrap .i64 ((p3:Int)+(1:Int))) fun x14 =>
 k_hbbaba x14 b1))) (
 k_x0 b1)
def xJ {β:Type} (zh:zP) (zf:zM) (L:Nat) (p2:Bool) (k_fin:Bool→Option β):Option β :=
 k_fin p2
def zjn {β:Type} (zh:zP) (zf:zM) (L:Nat) (b1:List V) (k_hbbbaba:Int→List V→Option β):Option β :=
 k_hbbbaba (0:Int) b1
def zjz {β:Type} (zh:zP) (zf:zM) (L:Nat) (p4:Int) (b1:List V) (k_ret:Bool→Option β) (k_hbbbaba:Int→List V→Option β) (k_x2:List V→Option β):Option β :=
 cLd 32 b1 4 fun v15 =>
 ifb (decide (p4 < ((List.length v15:Nat):Int))) (
 cLd 32 b1 4 fun v16 =>
 chk (0≤p4∧p4≤(((List.length v16):Nat):Int)) (
 cLd 32 b1 4 fun v17 =>
 idx v17 p4 fun c18 =>
 zh β L (List.take ((Int.toNat p4) - 0) (List.drop 0 v16)) (List.take 32 c18) (fun v19 =>
 ifb v19 (
 k_ret false) (
 lt (IntKind.wrap .i64 ((p4:Int)+(1:Int))) fun x20 =>
 k_hbbbaba x20 b1)))) (
 k_x2 b1)
def zm2 {β:Type} (zh:zP) (zf:zM) (L:Nat) (p2:Bool) (k_fin:Bool→Option β):Option β :=
 k_fin p2
def zis {β:Type} (zh:zP) (zf:zM) (L:Nat) (b1:List V) (k_hbbbbaba:Int→List V→Option β):Option β :=
 k_hbbbbaba (0:Int) b1
def ziY {β:Type} (zh:zP) (zf:zM) (L:Nat) (p5:Int) (b1:List V) (k_ret:Bool→Option β) (k_hbbbbaba:Int→List V→Option β) (k_x4:Option β):Option β :=
 cLd 35 b1 3 fun v21 =>
 ifb (decide (p5 < ((List.length v21:Nat):Int))) (
 cLd 35 b1 3 fun v22 =>
 cLd 35 b1 3 fun v23 =>
 idx v23 p5 fun c24 =>
 zf β L v22 (List.take 32 c24) (fun v25 =>
 ifb ((v25:Int) != p5) (
 k_ret false) (
 cLd 32 b1 4 fun v26 =>
 cLd 35 b1 3 fun v27 =>
 idx v27 p5 fun c28 =>
 zh β L v26 (List.take 32 c28) (fun v29 =>
 ifb v29 (
 k_ret false) (
 lt (IntKind.wrap .i64 ((p5:Int)+(1:Int))) fun x30 =>
 k_hbbbbaba x30 b1))))) (
 k_x4)
def zmk {β:Type} (zh:zP) (zf:zM) (L:Nat) (p2:Bool) (k_fin:Bool→Option β):Option β :=
 k_fin p2
def zna {β:Type} (zh:zP) (zf:zM) (L:Nat) (k_fin:Bool→Option β):Option β :=
 k_fin true
def zbA {β:Type} (zh:zP) (zf:zM) (L:Nat) (k_ret:Bool→Option β) (k_x0:List V→Option β):Nat→Int→List V→Option β
 | 0,_,_=>none
 | n+1,p3,b1=>yQ zh zf L p3 b1 k_ret (fun p3 b1=>zbA zh zf L k_ret k_x0 n p3 b1) k_x0
def zeB {β:Type} (zh:zP) (zf:zM) (L:Nat) (k_ret:Bool→Option β) (k_x2:List V→Option β):Nat→Int→List V→Option β
 | 0,_,_=>none
 | n+1,p4,b1=>zjz zh zf L p4 b1 k_ret (fun p4 b1=>zeB zh zf L k_ret k_x2 n p4 b1) k_x2
def zd6 {β:Type} (zh:zP) (zf:zM) (L:Nat) (k_ret:Bool→Option β) (k_x4:Option β):Nat→Int→List V→Option β
 | 0,_,_=>none
 | n+1,p5,b1=>ziY zh zf L p5 b1 k_ret (fun p5 b1=>zd6 zh zf L k_ret k_x4 n p5 b1) k_x4
def zhT {β:Type} (zh:zP) (zf:zM) (L:Nat) (b1:List V) (k_fin:Bool→Option β):Option β :=
 zis zh zf L b1 (fun p5 b1=>zd6 zh zf L (fun p2=>zmk zh zf L p2 k_fin) (zna zh zf L k_fin) L p5 b1)
def xG {β:Type} (zh:zP) (zf:zM) (L:Nat) (b1:List V) (k_fin:Bool→Option β):Option β :=
 zjn zh zf L b1 (fun p4 b1=>zeB zh zf L (fun p2=>zm2 zh zf L p2 k_fin) (fun b1=>zhT zh zf L b1 k_fin) L p4 b1)
def zor {β:Type} (zh:zP) (zf:zM) (L:Nat) (p0:List V) (k_fin:Bool→Option β):Option β :=
 zom zh zf L p0 k_fin (fun p3 b1=>zbA zh zf L (fun p2=>xJ zh zf L p2 k_fin) (fun b1=>xG zh zf L b1 k_fin) L p3 b1)
abbrev zbH:=∀ (β:Type),Nat→List V→(Bool→Option β)→Option β
def yD (β:Type) (L:Nat) (p0:List V) (k_fin:Bool→Option β):Option β:=zor zh zf L p0 k_fin
def zkQ (yD:zbH) (L:Nat) (β:Type) (args:List V) (bor:Bor) (k:KK β):Option β:=match args,bor with
 | [a0],[]=>aG a0 fun p0=>yD β L p0 (fun p0=>k (V.sc (.bool p0)) [])
 | _,_=>none
def znB:CF:=⟨43,[.tmp 4],
 (.seq (.reg [oo 2 (.box true (tq 0)),
   oo 4 (.move (.const (.sc (.int .i64 0))) false)])
 (.seq (.reg [oo 7 (.fieldAddr 2 (tq 2)),
   oo 8 (.load false 1 (tq 7) false),
   oo 9 (.lenS (tq 8)),
   oo 5 (.move (tq 9) false)])
 (.seq (.seq (.reg [oo 10 (.move (tq 5) false),
   oo 11 (.bin .eql (tq 10) (.const (.sc (.int .i64 0))))])
 (.cond (tq 11)
 (.seq (.reg [oo 4 (.move (.const (.sc (.int .i64 (-1)))) false)])
 .ret)
 .skip))
 (.seq (.reg [oo 6 (.move (.const (.sc (.int .i64 0))) false)])
 (.seq (.seq (.reg [oo 12 (.move (tq 5) false),
   oo 13 (.bin .gtr (tq 12) (.const (.sc (.int .i64 1)))),
   oo 14 (.move (tq 13) false),
   ⟨(some 15),false,(some (14,true)),.move (tq 1) false⟩,
   ⟨(some 16),false,(some (14,true)),.bin .neq (tq 15) (.const (.sc (.int .i64 (-1))))⟩,
   oo 17 (.pick (tq 14) (tq 16) (.const (.sc (.bool false)))),
   oo 18 (.move (tq 17) false),
   ⟨(some 19),false,(some (18,true)),.move (tq 1) false⟩,
   ⟨(some 20),false,(some (18,true)),.bin .rem (tq 19) (.const (.sc (.int .i64 2)))⟩,
   ⟨(some 21),false,(some (18,true)),.bin .neq (tq 20) (.const (.sc (.int .i64 0)))⟩,
   oo 22 (.pick (tq 18) (tq 21) (.const (.sc (.bool false))))])
 (.cond (tq 22)
 (.reg [oo 6 (.move (.const (.sc (.int .i64 1))) false)])
 .skip))
 (.seq (.seq (.reg [oo 23 (.fieldAddr 2 (tq 2)),
   oo 24 (.load false 1 (tq 23) false),
   oo 25 (.move (tq 6) false),
   oo 26 (.indexAddrS 1 (tq 24) (tq 25)),
   oo 27 (.load false 1 (tq 26) false),
   oo 28 (.move (tq 1) false),
   oo 29 (.bin .neq (tq 27) (tq 28))])
 (.cond (tq 29)
 (.seq (.reg [oo 30 (.fieldAddr 2 (tq 2)),
   oo 31 (.load false 1 (tq 30) false),
   oo 32 (.move (tq 6) false),
   oo 33 (.indexAddrS 1 (tq 31) (tq 32)),
   oo 34 (.load false 1 (tq 33) false),
   oo 4 (.move (tq 34) false)])
 .ret)
 .skip))
 (.seq (.seq (.reg [oo 35 (.move (tq 5) false),
   oo 36 (.bin .eql (tq 35) (.const (.sc (.int .i64 1))))])
 (.cond (tq 36)
 (.seq (.reg [oo 4 (.move (.const (.sc (.int .i64 (-1)))) false)])
 .ret)
 .skip))
 (.seq (.reg [oo 37 (.fieldAddr 2 (tq 2)),
   oo 38 (.load false 1 (tq 37) false),
   oo 39 (.move (tq 6) false),
   oo 40 (.bin .sub (.const (.sc (.int .i64 1))) (tq 39)),
   oo 41 (.indexAddrS 1 (tq 38) (tq 40)),
   oo 42 (.load false 1 (tq 41) false),
   oo 4 (.move (tq 42) false)])
 .ret))))))))⟩
def zlI:Hint:=⟨[(0,0)],[],[none,none,none,none,none,none,none,none],[],[],false,false⟩
def zz1:Nat→Sh:=zay [(8,(.sl 1)),(24,(.sl 1)),(27,(.int .i64)),(31,(.sl 1)),(34,(.int .i64)),(38,(.sl 1)),(42,(.int .i64))]
def zzW (L:Nat):CBC:=noC
def zok {β:Type} (L:Nat) (p0:List V) (p1:Int) (k_fin:Int→Option β):Option β :=
 cLd 1 p0 2 fun v0 =>
 ifb ((((List.length v0:Nat):Int):Int) == (0:Int)) (
 k_fin (-1:Int)) (
 ifb (decide (((List.length v0:Nat):Int) > (1:Int))) (
 ifb ((p1:Int) != (-1:Int)) (
 lt (Int.tmod p1 (2:Int)) fun x1 =>
 ifb ((x1:Int) != (0:Int)) (
 cLd 1 p0 2 fun v2 =>
 idx v2 (1:Int) fun c3 =>
 cI .i64 c3 0 fun v4 =>
 ifb ((v4:Int) != p1) (
 cLd 1 p0 2 fun v5 =>
 idx v5 (1:Int) fun c6 =>
 cI .i64 c6 0 fun v7 =>
 k_fin v7) (
 ifb ((((List.length v0:Nat):Int):Int) == (1:Int)) (
 k_fin (-1:Int)) (
 cLd 1 p0 2 fun v8 =>
 lt (IntKind.wrap .i64 (((1:Int):Int) - (1:Int))) fun x9 =>
 idx v8 x9 fun c10 =>
 cI .i64 c10 0 fun v11 =>
 k_fin v11))) (
 cLd 1 p0 2 fun v12 =>
 idx v12 (0:Int) fun c13 =>
 cI .i64 c13 0 fun v14 =>
 ifb ((v14:Int) != p1) (
 cLd 1 p0 2 fun v15 =>
 idx v15 (0:Int) fun c16 =>
 cI .i64 c16 0 fun v17 =>
 k_fin v17) (
 ifb ((((List.length v0:Nat):Int):Int) == (1:Int)) (
 k_fin (-1:Int)) (
 cLd 1 p0 2 fun v18 =>
 lt (IntKind.wrap .i64 (((1:Int):Int) - (0:Int))) fun x19 =>
 idx v18 x19 fun c20 =>
 cI .i64 c20 0 fun v21 =>
 k_fin v21)))) (
 cLd 1 p0 2 fun v22 =>
 idx v22 (0:Int) fun c23 =>
 cI .i64 c23 0 fun v24 =>
 ifb ((v24:Int) != p1) (
 cLd 1 p0 2 fun v25 =>
 idx v25 (0:Int) fun c26 =>
 cI .i64 c26 0 fun v27 =>
 k_fin v27) (
 ifb ((((List.length v0:Nat):Int):Int) == (1:Int)) (
 k_fin (-1:Int)) (
 cLd 1 p0 2 fun v28 =>
 lt (IntKind.wrap .i64 (((1:Int):Int) - (0:Int))) fun x29 =>
 idx v28 x29 fun c30 =>
 cI .i64 c30 0 fun v31 =>
 k_fin v31)))) (
 cLd 1 p0 2 fun v32 =>
 idx v32 (0:Int) fun c33 =>
 cI .i64 c33 0 fun v34 =>
 ifb ((v34:Int) != p1) (
 cLd 1 p0 2 fun v35 =>
 idx v35 (0:Int) fun c36 =>
 cI .i64 c36 0 fun v37 =>
 k_fin v37) (
 ifb ((((List.length v0:Nat):Int):Int) == (1:Int)) (
 k_fin (-1:Int)) (
 cLd 1 p0 2 fun v38 =>
 lt (IntKind.wrap .i64 (((1:Int):Int) - (0:Int))) fun x39 =>
 idx v38 x39 fun c40 =>
 cI .i64 c40 0 fun v41 =>
 k_fin v41))))
abbrev zkR:=∀ (β:Type),Nat→List V→Int→(Int→Option β)→Option β
def zcN (β:Type) (L:Nat) (p0:List V) (p1:Int) (k_fin:Int→Option β):Option β:=zok L p0 p1 k_fin
def ztX (zcN:zkR) (L:Nat) (β:Type) (args:List V) (bor:Bor) (k:KK β):Option β:=match args,bor with
 | [a0,a1],[]=>aG a0 fun p0=>aI .i64 a1 fun p1=>zcN β L p0 p1 (fun p0=>k (V.sc (.int .i64 p0)) [])
 | _,_=>none
def zng:CF:=⟨12,[.tmp 4],
 (.seq (.reg [oo 4 (.move (.const (.sc (.int .u32 0))) false)])
 (.seq (.reg [oo 5 (.move (tq 0) false),
   oo 6 (.conv .u64 (tq 5)),
   oo 7 (.move (tq 1) false),
   oo 8 (.conv .u64 (tq 7)),
   oo 9 (.bin .add (tq 6) (tq 8)),
   oo 10 (.mm false (tq 9) (.const (.sc (.int .u64 4294967295)))),
   oo 11 (.conv .u32 (tq 10)),
   oo 4 (.move (tq 11) false)])
 .ret))⟩
def zl9:Hint:=⟨[],[],[none],[],[],false,false⟩
def zzp:Nat→Sh:=zay []
def zzI (L:Nat):CBC:=noC
def zoj {β:Type} (L:Nat) (p0 p1:Int) (k_fin:Int→Option β):Option β :=
 lt (IntKind.wrap .u64 p0) fun x0 =>
 lt (IntKind.wrap .u64 p1) fun x1 =>
 lt (IntKind.wrap .u64 ((x0:Int)+x1)) fun x2 =>
 lt (zAF x2 (4294967295:Int)) fun x3 =>
 lt (IntKind.wrap .u32 x3) fun x4 =>
 k_fin x4
abbrev zk0:=∀ (β:Type),Nat→Int→Int→(Int→Option β)→Option β
def zb6 (β:Type) (L:Nat) (p0 p1:Int) (k_fin:Int→Option β):Option β:=zoj L p0 p1 k_fin
def zt1 (zb6:zk0) (L:Nat) (β:Type) (args:List V) (bor:Bor) (k:KK β):Option β:=match args,bor with
 | [a0,a1],[]=>aI .u32 a0 fun p0=>aI .u32 a1 fun p1=>zb6 β L p0 p1 (fun p0=>k (V.sc (.int .u32 p0)) [])
 | _,_=>none
def zop:CF:=⟨70,[.cellS 10 5 true,.tmpP 11,.tmpP 12],
 (.seq (.reg [oo 5 (.box true (tq 0)),
   oo 7 (.box true (tq 2)),
   oo 10 (.alloc false [(.sc (.int .u32 0)),(.sc (.bool false)),(.gs 1 []),(.gs 35 []),(.gs 32 [])]),
   oo 11 (.move (.const (.sc (.int .i64 0))) false),
   oo 12 (.move (.const (.sc (.int .i64 0))) false)])
 (.seq (.seq (.reg [oo 15 (.load true 5 (tq 5) false),
   oo 16 (.call 362 [((tq 15),1)] []),
   oo 17 (.un .not (tq 16)),
   oo 18 (.move (tq 17) false),
   ⟨(some 19),false,(some (18,false)),.move (tq 1) false⟩,
   ⟨(some 20),false,(some (18,false)),.bin .lss (tq 19) (.const (.sc (.int .i64 (-1))))⟩,
   oo 21 (.pick (tq 18) (.const (.sc (.bool true))) (tq 20))])
 (.cond (tq 21)
 (.seq (.reg [oo 22 (.build [(.sc (.int .u32 0)),(.sc (.bool false)),(.sl 1 []),(.sl 35 []),(.sl 32 [])] []),
   oz (.store 5 (tq 10) (tq 22)),
   oo 11 (.move (.const (.sc (.int .i64 0))) false),
   oo 12 (.move (.const (.sc (.int .i64 6))) false)])
 .ret)
 .skip))
 (.seq (.seq (.reg [oo 23 (.fieldAddr 3 (tq 5)),
   oo 24 (.load false 1 (tq 23) false),
   oo 25 (.load true 32 (tq 7) false),
   oo 26 (.call 364 [((tq 24),0),((tq 25),0)] []),
   oo 27 (.bin .geq (tq 26) (.const (.sc (.int .i64 0)))),
   oo 28 (.move (tq 27) false),
   ⟨(some 29),false,(some (28,false)),.fieldAddr 4 (tq 5)⟩,
   ⟨(some 30),false,(some (28,false)),.load false 1 (tq 29) false⟩,
   ⟨(some 31),false,(some (28,false)),.load true 32 (tq 7) false⟩,
   ⟨(some 32),false,(some (28,false)),.call 365 [((tq 30),0),((tq 31),0)] []⟩,
   oo 33 (.pick (tq 28) (.const (.sc (.bool true))) (tq 32))])
 (.cond (tq 33)
 (.seq (.reg [oo 34 (.build [(.sc (.int .u32 0)),(.sc (.bool false)),(.sl 1 []),(.sl 35 []),(.sl 32 [])] []),
   oz (.store 5 (tq 10) (tq 34)),
   oo 11 (.move (.const (.sc (.int .i64 0))) false),
   oo 12 (.move (.const (.sc (.int .i64 150))) false)])
 .ret)
 .skip))
 (.seq (.reg [oo 35 (.load true 5 (tq 5) false),
   oo 36 (.call 355 [((tq 35),1)] [17,20,23]),
   oo 13 (.alloc false [(.sc (.int .u32 0)),(.sc (.bool false)),(.gs 1 []),(.gs 35 []),(.gs 32 [])]),
   oz (.store 5 (tq 13) (tq 36))])
 (.seq (.reg [oo 37 (.load true 5 (tq 5) false),
   oo 38 (.move (tq 1) false),
   oo 39 (.call 345 [((tq 37),1),((tq 38),0)] []),
   oo 14 (.move (tq 39) false)])
 (.seq (.seq (.reg [oo 40 (.fieldAddr 1 (tq 5)),
   oo 41 (.load false 1 (tq 40) false),
   oo 42 (.move (tq 41) false),
   ⟨(some 43),false,(some (42,true)),.move (tq 1) false⟩,
   ⟨(some 44),false,(some (42,true)),.bin .neq (tq 43) (.const (.sc (.int .i64 (-1))))⟩,
   oo 45 (.pick (tq 42) (tq 44) (.const (.sc (.bool false)))),
   oo 46 (.move (tq 45) false),
   ⟨(some 47),false,(some (46,false)),.move (tq 14) false⟩,
   ⟨(some 48),false,(some (46,false)),.bin .lss (tq 47) (.const (.sc (.int .i64 0)))⟩,
   oo 49 (.pick (tq 46) (.const (.sc (.bool true))) (tq 48))])
 (.cond (tq 49)
 (.seq (.reg [oo 50 (.load true 5 (tq 13) true),
   oz (.store 5 (tq 10) (tq 50)),
   oo 11 (.move (.const (.sc (.int .i64 (-1)))) false),
   oo 12 (.move (.const (.sc (.int .i64 0))) false)])
 .ret)
 .skip))
 (.seq (.seq (.reg [oo 51 (.fieldAddr 3 (tq 5)),
   oo 52 (.load false 1 (tq 51) false),
   oo 53 (.lenS (tq 52)),
   oo 54 (.bin .geq (tq 53) (.const (.sc (.int .i64 64))))])
 (.cond (tq 54)
 (.seq (.reg [oo 55 (.build [(.sc (.int .u32 0)),(.sc (.bool false)),(.sl 1 []),(.sl 35 []),(.sl 32 [])] []),
   oz (.store 5 (tq 10) (tq 55)),
   oo 11 (.move (.const (.sc (.int .i64 0))) false),
   oo 12 (.move (.const (.sc (.int .i64 380))) false)])
 .ret)
 .skip))
 (.seq (.dreg [] [(oo 56 (.fieldAddr 3 (tq 13)),q0),
   (oo 57 (.load false 1 (tq 56) true),ql 13 [7] [65]),
   (oo 58 (.load true 32 (tq 7) false),ql 7 [13] []),
   (oo 59 (.move (tq 1) false),q0),
   (oo 60 (.move (tq 14) false),q0),
   (oo 61 (.move (tq 3) false),q0),
   (oo 62 (.move (tq 4) false),q0),
   (oo 63 (.call 319 [((tq 61),0),((tq 62),0)] []),qc [13,7] []),
   (oo 64 (.build (rp 32 (.sc (.int .u8 0)) (rp 2 (.sc (.int .i64 0)) (rp 1 (.sc (.int .u32 0)) []))) [(0,32,(tq 58)),(32,1,(tq 59)),(33,1,(tq 60)),(34,1,(tq 63))]),q0),
   (oo 65 (.buildSlice 35 1 (rp 32 (.sc (.int .u8 0)) (rp 2 (.sc (.int .i64 0)) (rp 1 (.sc (.int .u32 0)) []))) [(0,35,(tq 64))]),qn [13] []),
   (oo 66 (.append 35 56 (tq 57) (tq 65)),q0),
   (oo 67 (.fieldAddr 3 (tq 13)),q0),
   (oz (.store 1 (tq 67) (tq 66)),q0)])
 (.seq (.reg [oo 68 (.load true 5 (tq 13) true),
   oo 69 (.move (tq 14) false),
   oz (.store 5 (tq 10) (tq 68)),
   oo 11 (.move (tq 69) false),
   oo 12 (.move (.const (.sc (.int .i64 0))) false)])
 .ret)))))))))⟩
def zmt:Hint:=⟨[(0,0),(8,0),(11,1),(12,0)],[],[none,none,none,none,none,none,none,none,none],[],[(5,1,[17,20,23])],true,true⟩
def zAe:Nat→Sh:=zay [(24,(.sl 35)),(30,(.sl 32)),(41,.bool),(52,(.sl 35))]
def zAb (yD:zbH) (zf:zM) (zh:zP) (zu:zaz) (zcN:zkR) (zb6:zk0) (L:Nat):CBC:=(zI 319 (zt1 zb6 L) (zI 345 (ztX zcN L) (zI 355 (zhb zu L) (zI 365 (zmX zh L) (zI 364 (zlQ zf L) (zI 362 (zkQ yD L) noC))))))
def zps {β:Type} (yD:zbH) (zf:zM) (zh:zP) (zu:zaz) (zcN:zkR) (zb6:zk0) (L:Nat) (p0:List V) (p1:Int) (p2:List V) (p3 p4:Int) (k_fin:List V→Int→Int→Option β):Option β :=
 chk (0+5≤(List.length p0)) (
 yD β L (List.map V.dem (List.take 5 p0)) (fun v0 =>
 ifb (!v0) (
 k_fin [(V.sc (.int .u32 (0:Int))),(V.sc (.bool false)),(V.sl 1 ([]:List (List V))),(V.sl 35 ([]:List (List V))),(V.sl 32 ([]:List (List V)))] (0:Int) (6:Int)) (
 ifb (decide (p1 < (-1:Int))) (
 k_fin [(V.sc (.int .u32 (0:Int))),(V.sc (.bool false)),(V.sl 1 ([]:List (List V))),(V.sl 35 ([]:List (List V))),(V.sl 32 ([]:List (List V)))] (0:Int) (6:Int)) (
 cLd 35 p0 3 fun v1 =>
 chk (0+32≤(List.length p2)) (
 zf β L v1 (List.take 32 p2) (fun v2 =>
 ifb (decide (v2 ≥ (0:Int))) (
 k_fin [(V.sc (.int .u32 (0:Int))),(V.sc (.bool false)),(V.sl 1 ([]:List (List V))),(V.sl 35 ([]:List (List V))),(V.sl 32 ([]:List (List V)))] (0:Int) (150:Int)) (
 cLd 32 p0 4 fun v3 =>
 chk (0+32≤(List.length p2)) (
 zh β L v3 (List.take 32 p2) (fun v4 =>
 ifb v4 (
 k_fin [(V.sc (.int .u32 (0:Int))),(V.sc (.bool false)),(V.sl 1 ([]:List (List V))),(V.sl 35 ([]:List (List V))),(V.sl 32 ([]:List (List V)))] (0:Int) (150:Int)) (
 chk (0+5≤(List.length p0)) (
 zu β L (List.map V.dem (List.take 5 p0)) (fun v5 v6 v7 v8 v9 v10 v11 v12 =>
 chk (0+5≤(List.length p0)) (
 zcN β L (List.map V.dem (List.take 5 p0)) p1 (fun v13 =>
 cB p0 1 fun v14 =>
 ifb v14 (
 ifb ((p1:Int) != (-1:Int)) (
 k_fin [(V.sc (.int .u32 v5)),(V.sc (.bool v6)),(V.sl 1 (xb 1 v7 v10)),(V.sl 35 (xb 35 v8 v11)),(V.sl 32 (xb 32 v9 v12))] (-1:Int) (0:Int)) (
 ifb (decide (v13 < (0:Int))) (
 k_fin [(V.sc (.int .u32 v5)),(V.sc (.bool v6)),(V.sl 1 (xb 1 v7 v10)),(V.sl 35 (xb 35 v8 v11)),(V.sl 32 (xb 32 v9 v12))] (-1:Int) (0:Int)) (
 cLd 35 p0 3 fun v15 =>
 ifb (decide (((List.length v15:Nat):Int) ≥ (64:Int))) (
 k_fin [(V.sc (.int .u32 (0:Int))),(V.sc (.bool false)),(V.sl 1 ([]:List (List V))),(V.sl 35 ([]:List (List V))),(V.sl 32 ([]:List (List V)))] (0:Int) (380:Int)) (
 chk (0+32≤(List.length p2)) (
 zb6 β L p3 p4 (fun v16 =>
 chk ((List.length (List.take 32 p2))=32∧0+32≤35) (
 chk (1=1∧32+1≤(List.length (ya (List.replicate 32 (V.sc (.int .u8 (0:Int)))++[(V.sc (.int .i64 (0:Int))),(V.sc (.int .i64 (0:Int))),(V.sc (.int .u32 (0:Int)))]) 0 (List.take 32 p2)))) (
 chk (1=1∧33+1≤(List.length (ya (ya (List.replicate 32 (V.sc (.int .u8 (0:Int)))++[(V.sc (.int .i64 (0:Int))),(V.sc (.int .i64 (0:Int))),(V.sc (.int .u32 (0:Int)))]) 0 (List.take 32 p2)) 32 [(V.sc (.int .i64 p1))]))) (
 chk (1=1∧34+1≤(List.length (ya (ya (ya (List.replicate 32 (V.sc (.int .u8 (0:Int)))++[(V.sc (.int .i64 (0:Int))),(V.sc (.int .i64 (0:Int))),(V.sc (.int .u32 (0:Int)))]) 0 (List.take 32 p2)) 32 [(V.sc (.int .i64 p1))]) 33 [(V.sc (.int .i64 v13))]))) (
 chk ((List.length (ya (ya (ya (ya (List.replicate 32 (V.sc (.int .u8 (0:Int)))++[(V.sc (.int .i64 (0:Int))),(V.sc (.int .i64 (0:Int))),(V.sc (.int .u32 (0:Int)))]) 0 (List.take 32 p2)) 32 [(V.sc (.int .i64 p1))]) 33 [(V.sc (.int .i64 v13))]) 34 [(V.sc (.int .u32 v16))]))=35∧0+35≤35) (
 chk ((v8+List.length (xb 35 1 (ya (List.replicate 32 (V.sc (.int .u8 (0:Int)))++[(V.sc (.int .i64 (0:Int))),(V.sc (.int .i64 (0:Int))),(V.sc (.int .u32 (0:Int)))]) 0 (ya (ya (ya (ya (List.replicate 32 (V.sc (.int .u8 (0:Int)))++[(V.sc (.int .i64 (0:Int))),(V.sc (.int .i64 (0:Int))),(V.sc (.int .u32 (0:Int)))]) 0 (List.take 32 p2)) 32 [(V.sc (.int .i64 p1))]) 33 [(V.sc (.int .i64 v13))]) 34 [(V.sc (.int .u32 v16))])))) * 56≤yi∧(v8+List.length (xb 35 1 (ya (List.replicate 32 (V.sc (.int .u8 (0:Int)))++[(V.sc (.int .i64 (0:Int))),(V.sc (.int .i64 (0:Int))),(V.sc (.int .u32 (0:Int)))]) 0 (ya (ya (ya (ya (List.replicate 32 (V.sc (.int .u8 (0:Int)))++[(V.sc (.int .i64 (0:Int))),(V.sc (.int .i64 (0:Int))),(V.sc (.int .u32 (0:Int)))]) 0 (List.take 32 p2)) 32 [(V.sc (.int .i64 p1))]) 33 [(V.sc (.int .i64 v13))]) 34 [(V.sc (.int .u32 v16))]))))≤yi∧((v8+List.length (xb 35 1 (ya (List.replicate 32 (V.sc (.int .u8 (0:Int)))++[(V.sc (.int .i64 (0:Int))),(V.sc (.int .i64 (0:Int))),(V.sc (.int .u32 (0:Int)))]) 0 (ya (ya (ya (ya (List.replicate 32 (V.sc (.int .u8 (0:Int)))++[(V.sc (.int .i64 (0:Int))),(V.sc (.int .i64 (0:Int))),(V.sc (.int .u32 (0:Int)))]) 0 (List.take 32 p2)) 32 [(V.sc (.int .i64 p1))]) 33 [(V.sc (.int .i64 v13))]) 34 [(V.sc (.int .u32 v16))]))))≠0∨(List.length v11)=0)) (
 lt (List.take (v8 * 35) v11++List.flatten (xb 35 1 (ya (List.replicate 32 (V.sc (.int .u8 (0:Int)))++[(V.sc (.int .i64 (0:Int))),(V.sc (.int .i64 (0:Int))),(V.sc (.int .u32 (0:Int)))]) 0 (ya (ya (ya (ya (List.replicate 32 (V.sc (.int .u8 (0:Int)))++[(V.sc (.int .i64 (0:Int))),(V.sc (.int .i64 (0:Int))),(V.sc (.int .u32 (0:Int)))]) 0 (List.take 32 p2)) 32 [(V.sc (.int .i64 p1))]) 33 [(V.sc (.int .i64 v13))]) 34 [(V.sc (.int .u32 v16))])))) fun r17 =>
 k_fin [(V.sc (.int .u32 v5)),(V.sc (.bool v6)),(V.sl 1 (xb 1 v7 v10)),(V.sl 35 (xb 35 (v8+List.length (xb 35 1 (ya (List.replicate 32 (V.sc (.int .u8 (0:Int)))++[(V.sc (.int .i64 (0:Int))),(V.sc (.int .i64 (0:Int))),(V.sc (.int .u32 (0:Int)))]) 0 (ya (ya (ya (ya (List.replicate 32 (V.sc (.int .u8 (0:Int)))++[(V.sc (.int .i64 (0:Int))),(V.sc (.int .i64 (0:Int))),(V.sc (.int .u32 (0:Int)))]) 0 (List.take 32 p2)) 32 [(V.sc (.int .i64 p1))]) 33 [(V.sc (.int .i64 v13))]) 34 [(V.sc (.int .u32 v16))])))) r17)),(V.sl 32 (xb 32 v9 v12))] v13 (0:Int))))))))))))) (
 ifb (decide (v13 < (0:Int))) (
 k_fin [(V.sc (.int .u32 v5)),(V.sc (.bool v6)),(V.sl 1 (xb 1 v7 v10)),(V.sl 35 (xb 35 v8 v11)),(V.sl 32 (xb 32 v9 v12))] (-1:Int) (0:Int)) (
 cLd 35 p0 3 fun v18 =>
 ifb (decide (((List.length v18:Nat):Int) ≥ (64:Int))) (
 k_fin [(V.sc (.int .u32 (0:Int))),(V.sc (.bool false)),(V.sl 1 ([]:List (List V))),(V.sl 35 ([]:List (List V))),(V.sl 32 ([]:List (List V)))] (0:Int) (380:Int)) (
 chk (0+32≤(List.length p2)) (
 zb6 β L p3 p4 (fun v19 =>
 chk ((List.length (List.take 32 p2))=32∧0+32≤35) (
 chk (1=1∧32+1≤(List.length (ya (List.replicate 32 (V.sc (.int .u8 (0:Int)))++[(V.sc (.int .i64 (0:Int))),(V.sc (.int .i64 (0:Int))),(V.sc (.int .u32 (0:Int)))]) 0 (List.take 32 p2)))) (
 chk (1=1∧33+1≤(List.length (ya (ya (List.replicate 32 (V.sc (.int .u8 (0:Int)))++[(V.sc (.int .i64 (0:Int))),(V.sc (.int .i64 (0:Int))),(V.sc (.int .u32 (0:Int)))]) 0 (List.take 32 p2)) 32 [(V.sc (.int .i64 p1))]))) (
 chk (1=1∧34+1≤(List.length (ya (ya (ya (List.replicate 32 (V.sc (.int .u8 (0:Int)))++[(V.sc (.int .i64 (0:Int))),(V.sc (.int .i64 (0:Int))),(V.sc (.int .u32 (0:Int)))]) 0 (List.take 32 p2)) 32 [(V.sc (.int .i64 p1))]) 33 [(V.sc (.int .i64 v13))]))) (
 chk ((List.length (ya (ya (ya (ya (List.replicate 32 (V.sc (.int .u8 (0:Int)))++[(V.sc (.int .i64 (0:Int))),(V.sc (.int .i64 (0:Int))),(V.sc (.int .u32 (0:Int)))]) 0 (List.take 32 p2)) 32 [(V.sc (.int .i64 p1))]) 33 [(V.sc (.int .i64 v13))]) 34 [(V.sc (.int .u32 v19))]))=35∧0+35≤35) (
 chk ((v8+List.length (xb 35 1 (ya (List.replicate 32 (V.sc (.int .u8 (0:Int)))++[(V.sc (.int .i64 (0:Int))),(V.sc (.int .i64 (0:Int))),(V.sc (.int .u32 (0:Int)))]) 0 (ya (ya (ya (ya (List.replicate 32 (V.sc (.int .u8 (0:Int)))++[(V.sc (.int .i64 (0:Int))),(V.sc (.int .i64 (0:Int))),(V.sc (.int .u32 (0:Int)))]) 0 (List.take 32 p2)) 32 [(V.sc (.int .i64 p1))]) 33 [(V.sc (.int .i64 v13))]) 34 [(V.sc (.int .u32 v19))])))) * 56≤yi∧(v8+List.length (xb 35 1 (ya (List.replicate 32 (V.sc (.int .u8 (0:Int)))++[(V.sc (.int .i64 (0:Int))),(V.sc (.int .i64 (0:Int))),(V.sc (.int .u32 (0:Int)))]) 0 (ya (ya (ya (ya (List.replicate 32 (V.sc (.int .u8 (0:Int)))++[(V.sc (.int .i64 (0:Int))),(V.sc (.int .i64 (0:Int))),(V.sc (.int .u32 (0:Int)))]) 0 (List.take 32 p2)) 32 [(V.sc (.int .i64 p1))]) 33 [(V.sc (.int .i64 v13))]) 34 [(V.sc (.int .u32 v19))]))))≤yi∧((v8+List.length (xb 35 1 (ya (List.replicate 32 (V.sc (.int .u8 (0:Int)))++[(V.sc (.int .i64 (0:Int))),(V.sc (.int .i64 (0:Int))),(V.sc (.int .u32 (0:Int)))]) 0 (ya (ya (ya (ya (List.replicate 32 (V.sc (.int .u8 (0:Int)))++[(V.sc (.int .i64 (0:Int))),(V.sc (.int .i64 (0:Int))),(V.sc (.int .u32 (0:Int)))]) 0 (List.take 32 p2)) 32 [(V.sc (.int .i64 p1))]) 33 [(V.sc (.int .i64 v13))]) 34 [(V.sc (.int .u32 v19))]))))≠0∨(List.length v11)=0)) (
 lt (List.take (v8 * 35) v11++List.flatten (xb 35 1 (ya (List.replicate 32 (V.sc (.int .u8 (0:Int)))++[(V.sc (.int .i64 (0:Int))),(V.sc (.int .i64 (0:Int))),(V.sc (.int .u32 (0:Int)))]) 0 (ya (ya (ya (ya (List.replicate 32 (V.sc (.int .u8 (0:Int)))++[(V.sc (.int .i64 (0:Int))),(V.sc (.int .i64 (0:Int))),(V.sc (.int .u32 (0:Int)))]) 0 (List.take 32 p2)) 32 [(V.sc (.int .i64 p1))]) 33 [(V.sc (.int .i64 v13))]) 34 [(V.sc (.int .u32 v19))])))) fun r20 =>
 k_fin [(V.sc (.int .u32 v5)),(V.sc (.bool v6)),(V.sl 1 (xb 1 v7 v10)),(V.sl 35 (xb 35 (v8+List.length (xb 35 1 (ya (List.replicate 32 (V.sc (.int .u8 (0:Int)))++[(V.sc (.int .i64 (0:Int))),(V.sc (.int .i64 (0:Int))),(V.sc (.int .u32 (0:Int)))]) 0 (ya (ya (ya (ya (List.replicate 32 (V.sc (.int .u8 (0:Int)))++[(V.sc (.int .i64 (0:Int))),(V.sc (.int .i64 (0:Int))),(V.sc (.int .u32 (0:Int)))]) 0 (List.take 32 p2)) 32 [(V.sc (.int .i64 p1))]) 33 [(V.sc (.int .i64 v13))]) 34 [(V.sc (.int .u32 v19))])))) r20)),(V.sl 32 (xb 32 v9 v12))] v13 (0:Int))))))))))))))))))))))))))
abbrev zY:=∀ (β:Type),Nat→List V→Int→List V→Int→Int→(List V→Int→Int→Option β)→Option β
def zo (β:Type) (L:Nat) (p0:List V) (p1:Int) (p2:List V) (p3 p4:Int) (k_fin:List V→Int→Int→Option β):Option β:=zps yD zf zh zu zcN zb6 L p0 p1 p2 p3 p4 k_fin
def zvv (zo:zY) (L:Nat) (β:Type) (args:List V) (bor:Bor) (k:KK β):Option β:=match args,bor with
 | [a0,a1,a2,a3,a4],[]=>aG a0 fun p0=>aI .i64 a1 fun p1=>aG a2 fun p2=>aI .u32 a3 fun p3=>aI .u32 a4 fun p4=>zo β L p0 p1 p2 p3 p4 (fun zBO zBP zCb=>k (V.tup [(V.agg zBO),(V.sc (.int .i64 zBP)),(V.sc (.int .i64 zCb))]) [])
 | _,_=>none
def zlG:CC:=(.seq (.seq (.reg [oo 11 (.move (tq 5) false),
   oo 12 (.move (tq 0) false),
   oo 13 (.lenS (tq 12)),
   oo 14 (.bin .lss (tq 11) (tq 13))])
 (.cond (tq 14)
 .skip
 (.seq (.mask (bl 0 26) (bl 67100623 26))
 (.exit 0))))
 (.seq (.block 1 (.seq (.dreg [] [(oo 17 (.move (tq 0) false),q0),
   (oo 18 (.move (tq 5) false),q0),
   (oo 19 (.indexAddrS 32 (tq 17) (tq 18)),q0),
   (oo 20 (.load true 32 (tq 19) false),qc [] []),
   (oo 21 (.move (tq 1) false),q0),
   (oo 22 (.move (tq 5) false),q0),
   (oo 23 (.indexAddrS 32 (tq 21) (tq 22)),q0),
   (oo 24 (.load true 32 (tq 23) false),qc [] []),
   (oo 25 (.eqAgg true 32 (tq 20) (tq 24)),q0)])
 (.cond (tq 25)
 (.seq (.reg [oo 4 (.move (.const (.sc (.bool false))) false)])
 (.seq (.mask (bl 16 26) (bl 67100639 26))
 .ret))
 .skip)))
 (.reg [oo 15 (.move (tq 5) false),
   oo 16 (.bin .add (tq 15) (.const (.sc (.int .i64 1)))),
   oo 5 (.move (tq 16) false)])))
def zne:CC:=(.seq (.reg [oo 4 (.move (.const (.sc (.bool true))) false)])
 .ret)
def zjx:CF:=⟨26,[.tmp 4],
 (.seq (.reg [oo 4 (.move (.const (.sc (.bool false))) false)])
 (.seq (.seq (.reg [oo 6 (.move (tq 0) false),
   oo 7 (.lenS (tq 6)),
   oo 8 (.move (tq 1) false),
   oo 9 (.lenS (tq 8)),
   oo 10 (.bin .neq (tq 7) (tq 9))])
 (.cond (tq 10)
 (.seq (.reg [oo 4 (.move (.const (.sc (.bool false))) false)])
 .ret)
 .skip))
 (.seq (.seq (.reg [oo 5 (.move (.const (.sc (.int .i64 0))) false)])
 (.block 0 (.loop (bl 35 26) (bl 67100655 26)
 zlG)))
 zne)))⟩
def zim:Hint:=⟨[],[],[none,none,none,some ((bl 35 26),(bl 67100655 26)),none,some ((bl 0 26),(bl 67100623 26)),none,none,some ((bl 16 26),(bl 67100639 26)),none],[],[],false,false⟩
def zxj:Nat→Sh:=zay []
def zxi (L:Nat):CBC:=noC
def zvB:St→St:=zab 0 (bl 35 26) (bl 67100655 26)
def zuk (p0 p1:List (List V)) (p5:Int):St:=⟨((V.sl 32 p0)::((V.sl 32 p1)::(jn 3 ((V.sc (.int .i64 p5))::(jn 20 []))))),(gn 26 [])⟩
def zvD (p4:Bool):St:=⟨(jn 4 ((V.sc (.bool p4))::(jn 21 []))),(gn 26 [])⟩
def zvL:St:=⟨(jn 26 []),(gn 26 [])⟩
def zkr {β:Type} (L:Nat) (p0 p1:List (List V)) (k_fin:Bool→Option β) (k_hbbaba:List (List V)→List (List V)→Int→Option β):Option β :=
 ifb ((((List.length p0:Nat):Int):Int) != ((List.length p1:Nat):Int)) (
 k_fin false) (
 k_hbbaba p0 p1 (0:Int))
def zht {β:Type} (L:Nat) (p0 p1:List (List V)) (p5:Int) (k_ret:Bool→Option β) (k_hbbaba:List (List V)→List (List V)→Int→Option β) (k_x0:Option β):Option β :=
 ifb (decide (p5 < ((List.length p0:Nat):Int))) (
 idx p0 p5 fun c0 =>
 idx p1 p5 fun c1 =>
 eqC 32 (List.take 32 c0) (List.take 32 c1) fun v2 =>
 ifb (!v2) (
 k_ret false) (
 lt (IntKind.wrap .i64 ((p5:Int)+(1:Int))) fun x3 =>
 k_hbbaba p0 p1 x3)) (
 k_x0)
def zkG {β:Type} (L:Nat) (p4:Bool) (k_fin:Bool→Option β):Option β :=
 k_fin p4
def zlr {β:Type} (L:Nat) (k_fin:Bool→Option β):Option β :=
 k_fin true
def zdo {β:Type} (L:Nat) (k_ret:Bool→Option β) (k_x0:Option β):Nat→List (List V)→List (List V)→Int→Option β
 | 0,_,_,_=>none
 | n+1,p0,p1,p5=>zht L p0 p1 p5 k_ret (fun p0 p1 p5=>zdo L k_ret k_x0 n p0 p1 p5) k_x0
def zkB {β:Type} (L:Nat) (p0 p1:List (List V)) (k_fin:Bool→Option β):Option β :=
 zkr L p0 p1 k_fin (fun p0 p1 p5=>zdo L (fun p4=>zkG L p4 k_fin) (zlr L k_fin) L p0 p1 p5)
abbrev yv:=∀ (β:Type),Nat→List (List V)→List (List V)→(Bool→Option β)→Option β
def yf (β:Type) (L:Nat) (p0 p1:List (List V)) (k_fin:Bool→Option β):Option β:=zkB L p0 p1 k_fin
def zkD (yf:yv) (L:Nat) (β:Type) (args:List V) (bor:Bor) (k:KK β):Option β:=match args,bor with
 | [a0,a1],[]=>aL 32 a0 fun p0=>aL 32 a1 fun p1=>yf β L p0 p1 (fun p0=>k (V.sc (.bool p0)) [])
 | _,_=>none
def zpW:CC:=(.seq (.seq (.reg [oo 43 (.move (tq 5) false),
   oo 44 (.fieldAddr 3 (tq 2)),
   oo 45 (.load false 1 (tq 44) false),
   oo 46 (.lenS (tq 45)),
   oo 47 (.bin .lss (tq 43) (tq 46))])
 (.cond (tq 47)
 .skip
 (.seq (.mask (bl 0 61) (bl 2305772640469516227 61))
 (.exit 0))))
 (.seq (.block 1 (.seq (.dreg [] [(oo 50 (.fieldAddr 3 (tq 2)),q0),
   (oo 51 (.load false 1 (tq 50) false),ql 2 [3] []),
   (oo 52 (.move (tq 5) false),q0),
   (oo 53 (.indexAddrS 35 (tq 51) (tq 52)),q0),
   (oo 54 (.load true 35 (tq 53) false),qc [3] []),
   (oo 55 (.fieldAddr 3 (tq 3)),q0),
   (oo 56 (.load false 1 (tq 55) false),ql 3 [2] []),
   (oo 57 (.move (tq 5) false),q0),
   (oo 58 (.indexAddrS 35 (tq 56) (tq 57)),q0),
   (oo 59 (.load true 35 (tq 58) false),qc [2] []),
   (oo 60 (.eqAgg true 35 (tq 54) (tq 59)),q0)])
 (.cond (tq 60)
 (.seq (.reg [oo 4 (.move (.const (.sc (.bool false))) false)])
 (.seq (.mask (bl 16 61) (bl 2305772640469516243 61))
 .ret))
 .skip)))
 (.reg [oo 48 (.move (tq 5) false),
   oo 49 (.bin .add (tq 48) (.const (.sc (.int .i64 1)))),
   oo 5 (.move (tq 49) false)])))
def zsr:CC:=(.seq (.reg [oo 4 (.move (.const (.sc (.bool true))) false)])
 .ret)
def zou:CF:=⟨61,[.tmp 4],
 (.seq (.reg [oo 2 (.box true (tq 0)),
   oo 3 (.box true (tq 1)),
   oo 4 (.move (.const (.sc (.bool false))) false)])
 (.seq (.seq (.reg [oo 6 (.fieldAddr 0 (tq 2)),
   oo 7 (.load false 1 (tq 6) false),
   oo 8 (.fieldAddr 0 (tq 3)),
   oo 9 (.load false 1 (tq 8) false),
   oo 10 (.bin .neq (tq 7) (tq 9)),
   oo 11 (.move (tq 10) false),
   ⟨(some 12),false,(some (11,false)),.fieldAddr 1 (tq 2)⟩,
   ⟨(some 13),false,(some (11,false)),.load false 1 (tq 12) false⟩,
   ⟨(some 14),false,(some (11,false)),.fieldAddr 1 (tq 3)⟩,
   ⟨(some 15),false,(some (11,false)),.load false 1 (tq 14) false⟩,
   ⟨(some 16),false,(some (11,false)),.eqB true (tq 13) (tq 15)⟩,
   oo 17 (.pick (tq 11) (.const (.sc (.bool true))) (tq 16)),
   oo 18 (.move (tq 17) false),
   ⟨(some 19),false,(some (18,false)),.fieldAddr 2 (tq 2)⟩,
   ⟨(some 20),false,(some (18,false)),.load false 1 (tq 19) false⟩,
   ⟨(some 21),false,(some (18,false)),.fieldAddr 2 (tq 3)⟩,
   ⟨(some 22),false,(some (18,false)),.load false 1 (tq 21) false⟩,
   ⟨(some 23),false,(some (18,false)),.call 338 [((tq 20),0),((tq 22),0)] []⟩,
   ⟨(some 24),false,(some (18,false)),.un .not (tq 23)⟩,
   oo 25 (.pick (tq 18) (.const (.sc (.bool true))) (tq 24)),
   oo 26 (.move (tq 25) false),
   ⟨(some 27),false,(some (26,false)),.fieldAddr 4 (tq 2)⟩,
   ⟨(some 28),false,(some (26,false)),.load false 1 (tq 27) false⟩,
   ⟨(some 29),false,(some (26,false)),.fieldAddr 4 (tq 3)⟩,
   ⟨(some 30),false,(some (26,false)),.load false 1 (tq 29) false⟩,
   ⟨(some 31),false,(some (26,false)),.call 352 [((tq 28),0),((tq 30),0)] []⟩,
   ⟨(some 32),false,(some (26,false)),.un .not (tq 31)⟩,
   oo 33 (.pick (tq 26) (.const (.sc (.bool true))) (tq 32)),
   oo 34 (.move (tq 33) false),
   ⟨(some 35),false,(some (34,false)),.fieldAddr 3 (tq 2)⟩,
   ⟨(some 36),false,(some (34,false)),.load false 1 (tq 35) false⟩,
   ⟨(some 37),false,(some (34,false)),.lenS (tq 36)⟩,
   ⟨(some 38),false,(some (34,false)),.fieldAddr 3 (tq 3)⟩,
   ⟨(some 39),false,(some (34,false)),.load false 1 (tq 38) false⟩,
   ⟨(some 40),false,(some (34,false)),.lenS (tq 39)⟩,
   ⟨(some 41),false,(some (34,false)),.bin .neq (tq 37) (tq 40)⟩,
   oo 42 (.pick (tq 34) (.const (.sc (.bool true))) (tq 41))])
 (.cond (tq 42)
 (.seq (.reg [oo 4 (.move (.const (.sc (.bool false))) false)])
 .ret)
 .skip))
 (.seq (.seq (.reg [oo 5 (.move (.const (.sc (.int .i64 0))) false)])
 (.block 0 (.loop (bl 44 61) (bl 2305772640469516271 61)
 zpW)))
 zsr)))⟩
def zmp:Hint:=⟨[(0,0),(0,1)],[],[none,none,none,some ((bl 44 61),(bl 2305772640469516271 61)),none,some ((bl 0 61),(bl 2305772640469516227 61)),none,none,some ((bl 16 61),(bl 2305772640469516243 61)),none],[],[],false,false⟩
def zAg:Nat→Sh:=zay [(7,(.int .u32)),(9,(.int .u32)),(13,.bool),(15,.bool),(20,(.sl 1)),(22,(.sl 1)),(28,(.sl 32)),(30,(.sl 32)),(36,(.sl 35)),(39,(.sl 35)),(45,(.sl 35)),(51,(.sl 35)),(56,(.sl 35))]
def zAi (zp:zaE) (yf:yv) (L:Nat):CBC:=(zI 352 (zkD yf L) (zI 338 (zeu zp L) noC))
def zyj:St→St:=zab 0 (bl 44 61) (bl 2305772640469516271 61)
def zxh (p5:Int) (b2 b3:List V):St:=⟨(jn 2 ((V.ptr 2 0)::((V.ptr 3 0)::(jn 1 ((V.sc (.int .i64 p5))::(jn 55 [])))))),(gn 2 ((.live true b2)::((.live true b3)::(gn 57 []))))⟩
def zyk (p4:Bool):St:=⟨(jn 4 ((V.sc (.bool p4))::(jn 56 []))),(gn 61 [])⟩
def zy6:St:=⟨(jn 61 []),(gn 61 [])⟩
def zpa {β:Type} (zp:zaE) (yf:yv) (L:Nat) (p0 p1:List V) (k_fin:Bool→Option β) (k_hbbaba:Int→List V→List V→Option β):Option β :=
 cI .u32 p0 0 fun v0 =>
 cI .u32 p1 0 fun v1 =>
 ifb ((v0:Int) != v1) (
 k_fin false) (
 cB p0 1 fun v2 =>
 cB p1 1 fun v3 =>
 ifb (!(v2 == v3)) (
 k_fin false) (
 cLd 1 p0 2 fun v4 =>
 cLd 1 p1 2 fun v5 =>
 zp β L v4 v5 (fun v6 =>
 ifb (!v6) (
 k_fin false) (
 cLd 32 p0 4 fun v7 =>
 cLd 32 p1 4 fun v8 =>
 yf β L v7 v8 (fun v9 =>
 ifb (!v9) (
 k_fin false) (
 cLd 35 p0 3 fun v10 =>
 cLd 35 p1 3 fun v11 =>
 ifb ((((List.length v10:Nat):Int):Int) != ((List.length v11:Nat):Int)) (
 k_fin false) (
 k_hbbaba (0:Int) p0 p1)))))))
def zk8 {β:Type} (zp:zaE) (yf:yv) (L:Nat) (p5:Int) (b2 b3:List V) (k_ret:Bool→Option β) (k_hbbaba:Int→List V→List V→Option β) (k_x0:Option β):Option β :=
 cLd 35 b2 3 fun v12 =>
 ifb (decide (p5 < ((List.length v12:Nat):Int))) (
 cLd 35 b2 3 fun v13 =>
 idx v13 p5 fun c14 =>
 cLd 35 b3 3 fun v15 =>
 idx v15 p5 fun c16 =>
 eqC 35 (List.take 35 c14) (List.take 35 c16) fun v17 =>
 ifb (!v17) (
 k_ret false) (
 lt (IntKind.wrap .i64 ((p5:Int)+(1:Int))) fun x18 =>
 k_hbbaba x18 b2 b3)) (
 k_x0)
def znQ {β:Type} (zp:zaE) (yf:yv) (L:Nat) (p4:Bool) (k_fin:Bool→Option β):Option β :=
 k_fin p4
def zoK {β:Type} (zp:zaE) (yf:yv) (L:Nat) (k_fin:Bool→Option β):Option β :=
 k_fin true
def zfb {β:Type} (zp:zaE) (yf:yv) (L:Nat) (k_ret:Bool→Option β) (k_x0:Option β):Nat→Int→List V→List V→Option β
 | 0,_,_,_=>none
 | n+1,p5,b2,b3=>zk8 zp yf L p5 b2 b3 k_ret (fun p5 b2 b3=>zfb zp yf L k_ret k_x0 n p5 b2 b3) k_x0
def zpF {β:Type} (zp:zaE) (yf:yv) (L:Nat) (p0 p1:List V) (k_fin:Bool→Option β):Option β :=
 zpa zp yf L p0 p1 k_fin (fun p5 b2 b3=>zfb zp yf L (fun p4=>znQ zp yf L p4 k_fin) (zoK zp yf L k_fin) L p5 b2 b3)
abbrev zy:=∀ (β:Type),Nat→List V→List V→(Bool→Option β)→Option β
def xg (β:Type) (L:Nat) (p0 p1:List V) (k_fin:Bool→Option β):Option β:=zpF zp yf L p0 p1 k_fin
def zph (xg:zy) (L:Nat) (β:Type) (args:List V) (bor:Bor) (k:KK β):Option β:=match args,bor with
 | [a0,a1],[]=>aG a0 fun p0=>aG a1 fun p1=>xg β L p0 p1 (fun p0=>k (V.sc (.bool p0)) [])
 | _,_=>none
def zfA:CC:=(.seq (.reg [oo 62 (.bin .lss (tq 61) (tq 60))])
 (.seq (.cond (tq 62)
 .skip
 (.seq (.mask (bl 1972248982454874 102) (bl 4991337935206316207995422195711 102))
 (.exit 4)))
 (.seq (.block 5 (.seq (.reg [oo 63 (.indexAddrS 32 (tq 59) (tq 61)),
   oo 64 (.load true 32 (tq 63) false),
   oo 21 (.alloc true (rp 32 (.sc (.int .u8 0)) [])),
   oz (.store 32 (tq 21) (tq 64))])
 (.seq (.reg [oo 66 (.load true 5 (tq 17) false),
   oo 67 (.move (tq 19) false),
   oo 68 (.load true 32 (tq 21) false),
   oo 69 (.move (tq 3) false),
   oo 70 (.move (tq 4) false),
   oo 71 (.call 346 [((tq 66),1),((tq 67),0),((tq 68),0),((tq 69),0),((tq 70),0)] []),
   oo 65 (.move (tq 71) true),
   oo 72 (.pull (tq 65) 0),
   oo 73 (.pull (tq 65) 1),
   oo 74 (.pull (tq 65) 2),
   oo 22 (.alloc true [(.sc (.int .u32 0)),(.sc (.bool false)),(.gs 1 []),(.gs 35 []),(.gs 32 [])]),
   oz (.store 5 (tq 22) (tq 72)),
   oo 23 (.move (tq 73) false),
   oo 24 (.move (tq 74) false)])
 (.seq (.reg [oo 76 (.load true 5 (tq 17) false),
   oo 77 (.move (tq 19) false),
   oo 78 (.load true 32 (tq 21) false),
   oo 79 (.move (tq 3) false),
   oo 80 (.move (tq 4) false),
   oo 81 (.call 347 [((tq 76),1),((tq 77),0),((tq 78),0),((tq 79),0),((tq 80),0)] []),
   oo 75 (.move (tq 81) true),
   oo 82 (.pull (tq 75) 0),
   oo 83 (.pull (tq 75) 1),
   oo 84 (.pull (tq 75) 2),
   oo 25 (.alloc true [(.sc (.int .u32 0)),(.sc (.bool false)),(.gs 1 []),(.gs 35 []),(.gs 32 [])]),
   oz (.store 5 (tq 25) (tq 82)),
   oo 26 (.move (tq 83) false),
   oo 27 (.move (tq 84) false)])
 (.seq (.reg [oo 85 (.move (tq 24) false),
   oo 86 (.move (tq 27) false),
   oo 87 (.bin .neq (tq 85) (tq 86)),
   oo 88 (.move (tq 87) false),
   ⟨(some 89),false,(some (88,false)),.move (tq 23) false⟩,
   ⟨(some 90),false,(some (88,false)),.move (tq 26) false⟩,
   ⟨(some 91),false,(some (88,false)),.bin .neq (tq 89) (tq 90)⟩,
   oo 92 (.pick (tq 88) (.const (.sc (.bool true))) (tq 91)),
   oo 93 (.move (tq 92) false),
   ⟨(some 94),false,(some (93,false)),.load true 5 (tq 22) false⟩,
   ⟨(some 95),false,(some (93,false)),.load true 5 (tq 25) false⟩,
   ⟨(some 96),false,(some (93,false)),.call 343 [((tq 94),1),((tq 95),1)] []⟩,
   ⟨(some 97),false,(some (93,false)),.un .not (tq 96)⟩,
   oo 98 (.pick (tq 93) (.const (.sc (.bool true))) (tq 97))])
 (.cond (tq 98)
 (.seq (.reg [oo 14 (.move (.const (.sc (.bool false))) false)])
 (.seq (.mask (bl 16384 102) (bl 4991337935204513853350799048191 102))
 .ret))
 .skip))))))
 (.reg [oo 99 (.bin .add (tq 61) (.const (.sc (.int .i64 1)))),
   oo 61 (.move (tq 99) false)]))))
def zgD:CC:=(.reg [oo 100 (.bin .add (tq 50) (.const (.sc (.int .i64 1)))),
   oo 50 (.move (tq 100) false)])
def zhO:CC:=(.seq (.reg [oo 51 (.bin .lss (tq 50) (tq 49))])
 (.seq (.cond (tq 51)
 .skip
 (.seq (.mask (bl 1924145349210 102) (bl 4991337935204514768144473341951 102))
 (.exit 2)))
 (.seq (.block 3 (.seq (.reg [oo 52 (.indexAddrS 1 (tq 48) (tq 50)),
   oo 53 (.load false 1 (tq 52) false),
   oo 19 (.move (tq 53) false)])
 (.seq (.dreg [] [(oo 54 (.load true 32 (tq 9) false),ql 9 [] []),
   (oo 55 (.move (tq 6) false),q0),
   (oo 56 (.call 217 [((tq 55),0),((.const (.sc (.int .i64 10))),0)] []),qc [9] []),
   (oo 57 (.conv .u8 (tq 56)),q0),
   (oo 58 (.build (rp 32 (.sc (.int .u8 0)) []) [(0,1,(tq 57))]),q0),
   (oo 59 (.buildSlice 32 2 (rp 32 (.sc (.int .u8 0)) []) [(0,32,(tq 54)),(32,32,(tq 58))]),q0),
   (oo 60 (.lenS (tq 59)),q0),
   (oo 61 (.move (.const (.sc (.int .i64 0))) false),q0)])
 (.block 4 (.loop (bl 4037197515106943578 102) (bl 4991337935206316207995422195711 102)
 zfA)))))
 zgD)))
def zjM:CC:=(.reg [oo 101 (.bin .add (tq 40) (.const (.sc (.int .i64 1)))),
   oo 40 (.move (tq 101) false)])
def zls:CC:=(.seq (.reg [oo 41 (.bin .lss (tq 40) (tq 39))])
 (.seq (.cond (tq 41)
 .skip
 (.seq (.mask (bl 0 102) (bl 4991337935204513853350799031807 102))
 (.exit 0)))
 (.seq (.block 1 (.seq (.reg [oo 42 (.indexAddrS 5 (tq 38) (tq 40)),
   oo 43 (.load true 5 (tq 42) false),
   oo 17 (.alloc true [(.sc (.int .u32 0)),(.sc (.bool false)),(.gs 1 []),(.gs 35 []),(.gs 32 [])]),
   oz (.store 5 (tq 17) (tq 43))])
 (.seq (.reg [oo 44 (.move (tq 1) false),
   oo 45 (.move (tq 1) false),
   oo 46 (.call 217 [((tq 45),0),((.const (.sc (.int .i64 8))),0)] []),
   oo 47 (.bin .sub (tq 46) (.const (.sc (.int .i64 2)))),
   oo 48 (.buildSlice 1 2 [(.sc (.int .i64 0))] [(0,1,(tq 44)),(1,1,(tq 47))]),
   oo 49 (.lenS (tq 48)),
   oo 50 (.move (.const (.sc (.int .i64 0))) false)])
 (.block 2 (.loop (bl 1972248982454874 102) (bl 4991337935204514768144473473023 102)
 zhO)))))
 zjM)))
def zmQ:CC:=(.seq (.reg [oo 14 (.move (.const (.sc (.bool true))) false)])
 .ret)
def zjC:CF:=⟨102,[.tmp 14],
 (.seq (.reg [oo 9 (.box true (tq 2)),
   oo 14 (.move (.const (.sc (.bool false))) false)])
 (.seq (.seq (.reg [oo 28 (.call 332 [] []),
   oo 29 (.un .not (tq 28))])
 (.cond (tq 29)
 (.seq (.reg [oo 14 (.move (.const (.sc (.bool false))) false)])
 .ret)
 .skip))
 (.seq (.reg [oo 30 (.move (tq 0) false),
   oo 31 (.call 225 [((tq 30),0)] []),
   oo 32 (.call 339 [((tq 31),0)] []),
   oo 15 (.alloc true [(.sc (.int .u32 0)),(.sc (.bool false)),(.gs 1 []),(.gs 35 []),(.gs 32 [])]),
   oz (.store 5 (tq 15) (tq 32))])
 (.seq (.seq (.dreg [] [(oo 33 (.load true 5 (tq 15) false),ql 15 [] []),
   (oo 34 (.load true 5 (tq 15) false),ql 15 [] []),
   (oo 35 (.move (tq 5) false),q0),
   (oo 36 (.move (tq 6) false),q0),
   (oo 37 (.call 340 [((tq 34),1),((tq 35),0),((tq 36),0)] []),qc [15] []),
   (oo 38 (.buildSlice 5 2 [(.sc (.int .u32 0)),(.sc (.bool false)),(.sl 1 []),(.sl 35 []),(.sl 32 [])] [(0,5,(tq 33)),(5,5,(tq 37))]),q0),
   (oo 39 (.lenS (tq 38)),q0),
   (oo 40 (.move (.const (.sc (.int .i64 0))) false),q0)])
 (.block 0 (.loop (bl 1924145349210 102) (bl 4991337935204513853350799032319 102)
 zls)))
 zmQ))))⟩
def ziv:Hint:=⟨[(3,3),(6,2),(13,6),(13,10),(14,6),(14,10)],[],[none,none,none,some ((bl 1924145349210 102),(bl 4991337935204513853350799032319 102)),none,some ((bl 0 102),(bl 4991337935204513853350799031807 102)),none,none,some ((bl 1972248982454874 102),(bl 4991337935204514768144473473023 102)),none,some ((bl 1924145349210 102),(bl 4991337935204514768144473341951 102)),none,none,some ((bl 4037197515106943578 102),(bl 4991337935206316207995422195711 102)),none,some ((bl 1972248982454874 102),(bl 4991337935206316207995422195711 102)),none,none,some ((bl 16384 102),(bl 4991337935204513853350799048191 102)),none],[],[],false,false⟩
def zxp:Nat→Sh:=zay [(53,(.int .i64))]
def zxl (xa:zi) (zc:xj) (yh:xx) (zg:xu) (xf:zA) (yc:zl) (zo:zY) (xg:zy) (L:Nat):CBC:=(zI 343 (zph xg L) (zI 347 (zvv zo L) (zI 346 (zgC yc L) (zI 217 (zfN xf L) (zI 340 (zoz zg L) (zI 339 (zpi yh L) (zI 225 (zhm zc L) (zI 332 (zfg xa L) noC))))))))
def zuN:St→St:=zab 0 (bl 1924145349210 102) (bl 4991337935204513853350799032319 102)
def zrg:St→St:=zab 0 (bl 1972248982454874 102) (bl 4991337935204514768144473473023 102)
def znR:St→St:=zab 0 (bl 4037197515106943578 102) (bl 4991337935206316207995422195711 102)
def ztE (p1 p3 p4 p6:Int) (p38:List (List V)) (p39 p40:Int) (b9:List V) (zBL:List (List V)) (zBM:Int):St:=⟨(jn 1 ((V.sc (.int .i64 p1))::(jn 1 ((V.sc (.int .u32 p3))::((V.sc (.int .u32 p4))::(jn 1 ((V.sc (.int .i64 p6))::(jn 2 ((V.ptr 9 0)::(jn 28 ((V.gs 5 p38)::((V.sc (.int .i64 p39))::((V.sc (.int .i64 p40))::(jn 61 [])))))))))))))),(gn 9 ((.live true b9)::(gn 21 ((.live false [(V.sl 1 zBL),(V.sc (.int .i64 zBM))])::(gn 70 [])))))⟩
def zqg (p1 p3 p4 p6:Int) (p38:List (List V)) (p39 p40:Int) (p48:List (List V)) (p49 p50:Int) (b9 b17:List V) (zBL:List (List V)) (zBM:Int):St:=⟨(jn 1 ((V.sc (.int .i64 p1))::(jn 1 ((V.sc (.int .u32 p3))::((V.sc (.int .u32 p4))::(jn 1 ((V.sc (.int .i64 p6))::(jn 2 ((V.ptr 9 0)::(jn 7 ((V.ptr 17 0)::(jn 20 ((V.gs 5 p38)::((V.sc (.int .i64 p39))::((V.sc (.int .i64 p40))::(jn 7 ((V.gs 1 p48)::((V.sc (.int .i64 p49))::((V.sc (.int .i64 p50))::(jn 51 [])))))))))))))))))))),(gn 9 ((.live true b9)::(gn 7 ((.live true b17)::(gn 13 ((.live false [(V.sl 1 zBL),(V.sc (.int .i64 zBM))])::(gn 70 [])))))))⟩
def zvT (zBL:List (List V)) (zBM:Int):St:=⟨(jn 102 []),(gn 31 ((.live false [(V.sl 1 zBL),(V.sc (.int .i64 zBM))])::(gn 70 [])))⟩
def znb (p1 p3 p4 p6 p19:Int) (p38:List (List V)) (p39 p40:Int) (p48:List (List V)) (p49 p50:Int) (p59:List (List V)) (p60 p61:Int) (b9 b17:List V) (zBL:List (List V)) (zBM:Int):St:=⟨(jn 1 ((V.sc (.int .i64 p1))::(jn 1 ((V.sc (.int .u32 p3))::((V.sc (.int .u32 p4))::(jn 1 ((V.sc (.int .i64 p6))::(jn 2 ((V.ptr 9 0)::(jn 7 ((V.ptr 17 0)::(jn 1 ((V.sc (.int .i64 p19))::(jn 18 ((V.gs 5 p38)::((V.sc (.int .i64 p39))::((V.sc (.int .i64 p40))::(jn 7 ((V.gs 1 p48)::((V.sc (.int .i64 p49))::((V.sc (.int .i64 p50))::(jn 8 ((V.gs 32 p59)::((V.sc (.int .i64 p60))::((V.sc (.int .i64 p61))::(jn 40 [])))))))))))))))))))))))))),(gn 9 ((.live true b9)::(gn 7 ((.live true b17)::(gn 13 ((.live false [(V.sl 1 zBL),(V.sc (.int .i64 zBM))])::(gn 70 [])))))))⟩
def zvW (p1 p3 p4 p6:Int) (p38:List (List V)) (p39 p40:Int) (b9:List V) (zBL:List (List V)) (zBM:Int):St:=⟨(jn 1 ((V.sc (.int .i64 p1))::(jn 1 ((V.sc (.int .u32 p3))::((V.sc (.int .u32 p4))::(jn 1 ((V.sc (.int .i64 p6))::(jn 2 ((V.ptr 9 0)::(jn 28 ((V.gs 5 p38)::((V.sc (.int .i64 p39))::((V.sc (.int .i64 p40))::(jn 61 [])))))))))))))),(gn 9 ((.live true b9)::(gn 21 ((.live false [(V.sl 1 zBL),(V.sc (.int .i64 zBM))])::(gn 70 [])))))⟩
def zvy (p14:Bool) (zBL:List (List V)) (zBM:Int):St:=⟨(jn 14 ((V.sc (.bool p14))::(jn 87 []))),(gn 31 ((.live false [(V.sl 1 zBL),(V.sc (.int .i64 zBM))])::(gn 70 [])))⟩
def zvG (p1 p3 p4 p6:Int) (p38:List (List V)) (p39 p40:Int) (p48:List (List V)) (p49 p50:Int) (b9 b17:List V) (zBL:List (List V)) (zBM:Int):St:=⟨(jn 1 ((V.sc (.int .i64 p1))::(jn 1 ((V.sc (.int .u32 p3))::((V.sc (.int .u32 p4))::(jn 1 ((V.sc (.int .i64 p6))::(jn 2 ((V.ptr 9 0)::(jn 7 ((V.ptr 17 0)::(jn 20 ((V.gs 5 p38)::((V.sc (.int .i64 p39))::((V.sc (.int .i64 p40))::(jn 7 ((V.gs 1 p48)::((V.sc (.int .i64 p49))::((V.sc (.int .i64 p50))::(jn 51 [])))))))))))))))))))),(gn 9 ((.live true b9)::(gn 7 ((.live true b17)::(gn 13 ((.live false [(V.sl 1 zBL),(V.sc (.int .i64 zBM))])::(gn 70 [])))))))⟩
abbrev zea (β:Type):Type:=Int→Int→Int→Int→List (List V)→Int→Int→List V→List (List V)→Int→Option β
abbrev zcB (β:Type):Type:=Int→Int→Int→Int→List (List V)→Int→Int→List (List V)→Int→Int→List V→List V→List (List V)→Int→Option β
abbrev zcX (β:Type):Type:=Int→Int→Int→Int→Int→List (List V)→Int→Int→List (List V)→Int→Int→List (List V)→Int→Int→List V→List V→List (List V)→Int→Option β
abbrev zd9 (β:Type):Type:=Int→Int→Int→Int→List (List V)→Int→Int→List V→List (List V)→Int→Option β
abbrev zfF (β:Type):Type:=Int→Int→Int→Int→List (List V)→Int→Int→List (List V)→Int→Int→List V→List V→List (List V)→Int→Option β
def zpG {β:Type} (xa:zi) (zc:xj) (yh:xx) (zg:xu) (xf:zA) (yc:zl) (zo:zY) (xg:zy) (L:Nat) (p0:List (List V)) (p1:Int) (p2:List V) (p3 p4 p5 p6:Int) (k_fin:Bool→Option β) (k_hbbbaba:zea β):Option β :=
 xa β L  (fun v0 =>
 ifb (!v0) (
 k_fin false) (
 zc β L p0 (fun v1 v2 =>
 yh β L v1 v2 (fun v3 v4 v5 =>
 chk ((List.length v3)=5∧0+5≤5) (
 lt (ya [(V.sc (.int .u32 (0:Int))),(V.sc (.bool false)),(V.gs 1 ([]:List (List V))),(V.gs 35 ([]:List (List V))),(V.gs 32 ([]:List (List V)))] 0 v3) fun r6 =>
 chk (0+5≤(List.length r6)) (
 chk (0+5≤(List.length r6)) (
 zg β L (List.map V.dem (List.take 5 r6)) p5 p6 (fun v7 =>
 chk ((List.length (List.take 5 r6))=5∧0+5≤10) (
 chk ((List.length v7)=5∧5+5≤(List.length (ya [(V.sc (.int .u32 (0:Int))),(V.sc (.bool false)),(V.sl 1 ([]:List (List V))),(V.sl 35 ([]:List (List V))),(V.sl 32 ([]:List (List V))),(V.sc (.int .u32 (0:Int))),(V.sc (.bool false)),(V.sl 1 ([]:List (List V))),(V.sl 35 ([]:List (List V))),(V.sl 32 ([]:List (List V)))] 0 (List.take 5 r6)))) (
 k_hbbbaba p1 p3 p4 p6 (xb 5 2 (ya (ya [(V.sc (.int .u32 (0:Int))),(V.sc (.bool false)),(V.sl 1 ([]:List (List V))),(V.sl 35 ([]:List (List V))),(V.sl 32 ([]:List (List V))),(V.sc (.int .u32 (0:Int))),(V.sc (.bool false)),(V.sl 1 ([]:List (List V))),(V.sl 35 ([]:List (List V))),(V.sl 32 ([]:List (List V)))] 0 (List.take 5 r6)) 5 v7)) ((List.length (xb 5 2 (ya (ya [(V.sc (.int .u32 (0:Int))),(V.sc (.bool false)),(V.sl 1 ([]:List (List V))),(V.sl 35 ([]:List (List V))),(V.sl 32 ([]:List (List V))),(V.sc (.int .u32 (0:Int))),(V.sc (.bool false)),(V.sl 1 ([]:List (List V))),(V.sl 35 ([]:List (List V))),(V.sl 32 ([]:List (List V)))] 0 (List.take 5 r6)) 5 v7)):Nat):Int) (0:Int) p2 v4 v5))))))))))
def zgL {β:Type} (xa:zi) (zc:xj) (yh:xx) (zg:xu) (xf:zA) (yc:zl) (zo:zY) (xg:zy) (L:Nat) (p1 p3 p4 p6:Int) (p38:List (List V)) (p39 p40:Int) (b9:List V) (zBL:List (List V)) (zBM:Int) (k_hbbbabaabbaabba:zcB β) (k_x0:List (List V)→Int→Option β):Option β :=
 ifb (decide (p40 < p39)) (
 idx p38 p40 fun c8 =>
 chk ((List.length (List.take 5 c8))=5∧0+5≤5) (
 lt (ya [(V.sc (.int .u32 (0:Int))),(V.sc (.bool false)),(V.gs 1 ([]:List (List V))),(V.gs 35 ([]:List (List V))),(V.gs 32 ([]:List (List V)))] 0 (List.take 5 c8)) fun r9 =>
 xf β L p1 (8:Int) (fun v10 =>
 lt (IntKind.wrap .i64 ((v10:Int) - (2:Int))) fun x11 =>
 k_hbbbabaabbaabba p1 p3 p4 p6 p38 p39 p40 (xb 1 2 [(V.sc (.int .i64 p1)),(V.sc (.int .i64 x11))]) ((List.length (xb 1 2 [(V.sc (.int .i64 p1)),(V.sc (.int .i64 x11))]):Nat):Int) (0:Int) b9 r9 zBL zBM))) (
 k_x0 zBL zBM)
def zkW {β:Type} (xa:zi) (zc:xj) (yh:xx) (zg:xu) (xf:zA) (yc:zl) (zo:zY) (xg:zy) (L:Nat) (zBL:List (List V)) (zBM:Int) (k_fin:Bool→Option β):Option β :=
 k_fin true
def zew {β:Type} (xa:zi) (zc:xj) (yh:xx) (zg:xu) (xf:zA) (yc:zl) (zo:zY) (xg:zy) (L:Nat) (p1 p3 p4 p6:Int) (p38:List (List V)) (p39 p40:Int) (p48:List (List V)) (p49 p50:Int) (b9 b17:List V) (zBL:List (List V)) (zBM:Int) (k_hbbbabaabbaabbaabbaabba:zcX β) (k_x2:zd9 β):Option β :=
 ifb (decide (p50 < p49)) (
 idx p48 p50 fun c12 =>
 cI .i64 c12 0 fun v13 =>
 chk (0+32≤(List.length b9)) (
 xf β L p6 (10:Int) (fun v14 =>
 lt (IntKind.wrap .u8 v14) fun x15 =>
 chk ((List.length (List.take 32 b9))=32∧0+32≤64) (
 chk (32=32∧32+32≤(List.length (ya (List.replicate 64 (V.sc (.int .u8 (0:Int)))) 0 (List.take 32 b9)))) (
 k_hbbbabaabbaabbaabbaabba p1 p3 p4 p6 v13 p38 p39 p40 p48 p49 p50 (xb 32 2 (ya (ya (List.replicate 64 (V.sc (.int .u8 (0:Int)))) 0 (List.take 32 b9)) 32 ([(V.sc (.int .u8 x15))]++List.replicate 31 (V.sc (.int .u8 (0:Int)))))) ((List.length (xb 32 2 (ya (ya (List.replicate 64 (V.sc (.int .u8 (0:Int)))) 0 (List.take 32 b9)) 32 ([(V.sc (.int .u8 x15))]++List.replicate 31 (V.sc (.int .u8 (0:Int)))))):Nat):Int) (0:Int) b9 b17 zBL zBM))))) (
 k_x2 p1 p3 p4 p6 p38 p39 p40 b9 zBL zBM)
def zd4 {β:Type} (xa:zi) (zc:xj) (yh:xx) (zg:xu) (xf:zA) (yc:zl) (zo:zY) (xg:zy) (L:Nat) (p1 p3 p4 p6:Int) (p38:List (List V)) (p39 p40:Int) (b9:List V) (zBL:List (List V)) (zBM:Int) (k_hbbbaba:zea β):Option β :=
 lt (IntKind.wrap .i64 ((p40:Int)+(1:Int))) fun x16 =>
 k_hbbbaba p1 p3 p4 p6 p38 p39 x16 b9 zBL zBM
def zc9 {β:Type} (xa:zi) (zc:xj) (yh:xx) (zg:xu) (xf:zA) (yc:zl) (zo:zY) (xg:zy) (L:Nat) (p1 p3 p4 p6 p19:Int) (p38:List (List V)) (p39 p40:Int) (p48:List (List V)) (p49 p50:Int) (p59:List (List V)) (p60 p61:Int) (b9 b17:List V) (zBL:List (List V)) (zBM:Int) (k_ret:Bool→List (List V)→Int→Option β) (k_hbbbabaabbaabbaabbaabba:zcX β) (k_x4:zfF β):Option β :=
 ifb (decide (p61 < p60)) (
 idx p59 p61 fun c17 =>
 chk ((List.length (List.take 32 c17))=32∧0+32≤32) (
 lt (ya (List.replicate 32 (V.sc (.int .u8 (0:Int)))) 0 (List.take 32 c17)) fun r18 =>
 chk (0+5≤(List.length b17)) (
 chk (0+32≤(List.length r18)) (
 yc β L (List.map V.dem (List.take 5 b17)) p19 (List.take 32 r18) p3 p4 (fun v19 v20 v21 =>
 chk ((List.length v19)=5∧0+5≤5) (
 lt (ya [(V.sc (.int .u32 (0:Int))),(V.sc (.bool false)),(V.gs 1 ([]:List (List V))),(V.gs 35 ([]:List (List V))),(V.gs 32 ([]:List (List V)))] 0 v19) fun r22 =>
 chk (0+5≤(List.length b17)) (
 chk (0+32≤(List.length r18)) (
 zo β L (List.map V.dem (List.take 5 b17)) p19 (List.take 32 r18) p3 p4 (fun v23 v24 v25 =>
 chk ((List.length v23)=5∧0+5≤5) (
 lt (ya [(V.sc (.int .u32 (0:Int))),(V.sc (.bool false)),(V.gs 1 ([]:List (List V))),(V.gs 35 ([]:List (List V))),(V.gs 32 ([]:List (List V)))] 0 v23) fun r26 =>
 ifb ((v21:Int) != v25) (
 k_ret false zBL zBM) (
 ifb ((v20:Int) != v24) (
 k_ret false zBL zBM) (
 chk (0+5≤(List.length r22)) (
 chk (0+5≤(List.length r26)) (
 xg β L (List.map V.dem (List.take 5 r22)) (List.map V.dem (List.take 5 r26)) (fun v27 =>
 ifb (!v27) (
 k_ret false zBL zBM) (
 lt (IntKind.wrap .i64 ((p61:Int)+(1:Int))) fun x28 =>
 k_hbbbabaabbaabbaabbaabba p1 p3 p4 p6 p19 p38 p39 p40 p48 p49 p50 p59 p60 x28 b9 b17 zBL zBM)))))))))))))))) (
 k_x4 p1 p3 p4 p6 p38 p39 p40 p48 p49 p50 b9 b17 zBL zBM)
def ze5 {β:Type} (xa:zi) (zc:xj) (yh:xx) (zg:xu) (xf:zA) (yc:zl) (zo:zY) (xg:zy) (L:Nat) (p14:Bool) (zBL:List (List V)) (zBM:Int) (k_ret:Bool→List (List V)→Int→Option β):Option β :=
 k_ret p14 zBL zBM
def zcS {β:Type} (xa:zi) (zc:xj) (yh:xx) (zg:xu) (xf:zA) (yc:zl) (zo:zY) (xg:zy) (L:Nat) (p1 p3 p4 p6:Int) (p38:List (List V)) (p39 p40:Int) (p48:List (List V)) (p49 p50:Int) (b9 b17:List V) (zBL:List (List V)) (zBM:Int) (k_hbbbabaabbaabba:zcB β):Option β :=
 lt (IntKind.wrap .i64 ((p50:Int)+(1:Int))) fun x29 =>
 k_hbbbabaabbaabba p1 p3 p4 p6 p38 p39 p40 p48 p49 x29 b9 b17 zBL zBM
def zhj {β:Type} (xa:zi) (zc:xj) (yh:xx) (zg:xu) (xf:zA) (yc:zl) (zo:zY) (xg:zy) (L:Nat) (p14:Bool) (zBL:List (List V)) (zBM:Int) (k_ret:Bool→List (List V)→Int→Option β):Option β :=
 k_ret p14 zBL zBM
def zku {β:Type} (xa:zi) (zc:xj) (yh:xx) (zg:xu) (xf:zA) (yc:zl) (zo:zY) (xg:zy) (L:Nat) (p14:Bool) (zBL:List (List V)) (zBM:Int) (k_fin:Bool→Option β):Option β :=
 k_fin p14
def zaq {β:Type} (xa:zi) (zc:xj) (yh:xx) (zg:xu) (xf:zA) (yc:zl) (zo:zY) (xg:zy) (L:Nat) (k_ret:Bool→List (List V)→Int→Option β) (k_x4:zfF β):Nat→Int→Int→Int→Int→Int→List (List V)→Int→Int→List (List V)→Int→Int→List (List V)→Int→Int→List V→List V→List (List V)→Int→Option β
 | 0,_,_,_,_,_,_,_,_,_,_,_,_,_,_,_,_,_,_=>none
 | n+1,p1,p3,p4,p6,p19,p38,p39,p40,p48,p49,p50,p59,p60,p61,b9,b17,zBL,zBM=>zc9 xa zc yh zg xf yc zo xg L p1 p3 p4 p6 p19 p38 p39 p40 p48 p49 p50 p59 p60 p61 b9 b17 zBL zBM k_ret (fun p1 p3 p4 p6 p19 p38 p39 p40 p48 p49 p50 p59 p60 p61 b9 b17 zBL zBM=>zaq xa zc yh zg xf yc zo xg L k_ret k_x4 n p1 p3 p4 p6 p19 p38 p39 p40 p48 p49 p50 p59 p60 p61 b9 b17 zBL zBM) k_x4
def zed {β:Type} (xa:zi) (zc:xj) (yh:xx) (zg:xu) (xf:zA) (yc:zl) (zo:zY) (xg:zy) (L:Nat) (p1 p3 p4 p6:Int) (p38:List (List V)) (p39 p40:Int) (p48:List (List V)) (p49 p50:Int) (b9 b17:List V) (zBL:List (List V)) (zBM:Int) (k_x2:zd9 β) (k_ret:Bool→List (List V)→Int→Option β) (k_hbbbabaabbaabba:zcB β):Option β :=
 zew xa zc yh zg xf yc zo xg L p1 p3 p4 p6 p38 p39 p40 p48 p49 p50 b9 b17 zBL zBM (fun p1 p3 p4 p6 p19 p38 p39 p40 p48 p49 p50 p59 p60 p61 b9 b17 zBL zBM=>zaq xa zc yh zg xf yc zo xg L (fun p14 zBL zBM=>ze5 xa zc yh zg xf yc zo xg L p14 zBL zBM k_ret) (fun p1 p3 p4 p6 p38 p39 p40 p48 p49 p50 b9 b17 zBL zBM=>zcS xa zc yh zg xf yc zo xg L p1 p3 p4 p6 p38 p39 p40 p48 p49 p50 b9 b17 zBL zBM k_hbbbabaabbaabba) L p1 p3 p4 p6 p19 p38 p39 p40 p48 p49 p50 p59 p60 p61 b9 b17 zBL zBM) k_x2
def zbB {β:Type} (xa:zi) (zc:xj) (yh:xx) (zg:xu) (xf:zA) (yc:zl) (zo:zY) (xg:zy) (L:Nat) (k_x2:zd9 β) (k_ret:Bool→List (List V)→Int→Option β):Nat→Int→Int→Int→Int→List (List V)→Int→Int→List (List V)→Int→Int→List V→List V→List (List V)→Int→Option β
 | 0,_,_,_,_,_,_,_,_,_,_,_,_,_,_=>none
 | n+1,p1,p3,p4,p6,p38,p39,p40,p48,p49,p50,b9,b17,zBL,zBM=>zed xa zc yh zg xf yc zo xg L p1 p3 p4 p6 p38 p39 p40 p48 p49 p50 b9 b17 zBL zBM k_x2 k_ret (fun p1 p3 p4 p6 p38 p39 p40 p48 p49 p50 b9 b17 zBL zBM=>zbB xa zc yh zg xf yc zo xg L k_x2 k_ret n p1 p3 p4 p6 p38 p39 p40 p48 p49 p50 b9 b17 zBL zBM)
def zgt {β:Type} (xa:zi) (zc:xj) (yh:xx) (zg:xu) (xf:zA) (yc:zl) (zo:zY) (xg:zy) (L:Nat) (p1 p3 p4 p6:Int) (p38:List (List V)) (p39 p40:Int) (b9:List V) (zBL:List (List V)) (zBM:Int) (k_x0:List (List V)→Int→Option β) (k_hbbbaba:zea β) (k_ret:Bool→List (List V)→Int→Option β):Option β :=
 zgL xa zc yh zg xf yc zo xg L p1 p3 p4 p6 p38 p39 p40 b9 zBL zBM (fun p1 p3 p4 p6 p38 p39 p40 p48 p49 p50 b9 b17 zBL zBM=>zbB xa zc yh zg xf yc zo xg L (fun p1 p3 p4 p6 p38 p39 p40 b9 zBL zBM=>zd4 xa zc yh zg xf yc zo xg L p1 p3 p4 p6 p38 p39 p40 b9 zBL zBM k_hbbbaba) (fun p14 zBL zBM=>zhj xa zc yh zg xf yc zo xg L p14 zBL zBM k_ret) L p1 p3 p4 p6 p38 p39 p40 p48 p49 p50 b9 b17 zBL zBM) k_x0
def zc1 {β:Type} (xa:zi) (zc:xj) (yh:xx) (zg:xu) (xf:zA) (yc:zl) (zo:zY) (xg:zy) (L:Nat) (k_x0:List (List V)→Int→Option β) (k_ret:Bool→List (List V)→Int→Option β):Nat→Int→Int→Int→Int→List (List V)→Int→Int→List V→List (List V)→Int→Option β
 | 0,_,_,_,_,_,_,_,_,_,_=>none
 | n+1,p1,p3,p4,p6,p38,p39,p40,b9,zBL,zBM=>zgt xa zc yh zg xf yc zo xg L p1 p3 p4 p6 p38 p39 p40 b9 zBL zBM k_x0 (fun p1 p3 p4 p6 p38 p39 p40 b9 zBL zBM=>zc1 xa zc yh zg xf yc zo xg L k_x0 k_ret n p1 p3 p4 p6 p38 p39 p40 b9 zBL zBM) k_ret
def zpN {β:Type} (xa:zi) (zc:xj) (yh:xx) (zg:xu) (xf:zA) (yc:zl) (zo:zY) (xg:zy) (L:Nat) (p0:List (List V)) (p1:Int) (p2:List V) (p3 p4 p5 p6:Int) (k_fin:Bool→Option β):Option β :=
 zpG xa zc yh zg xf yc zo xg L p0 p1 p2 p3 p4 p5 p6 k_fin (fun p1 p3 p4 p6 p38 p39 p40 b9 zBL zBM=>zc1 xa zc yh zg xf yc zo xg L (fun zBL zBM=>zkW xa zc yh zg xf yc zo xg L zBL zBM k_fin) (fun p14 zBL zBM=>zku xa zc yh zg xf yc zo xg L p14 zBL zBM k_fin) L p1 p3 p4 p6 p38 p39 p40 b9 zBL zBM)
abbrev zo0:=∀ (β:Type),Nat→List (List V)→Int→List V→Int→Int→Int→Int→(Bool→Option β)→Option β
def zkE (β:Type) (L:Nat) (p0:List (List V)) (p1:Int) (p2:List V) (p3 p4 p5 p6:Int) (k_fin:Bool→Option β):Option β:=zpN xa zc yh zg xf yc zo xg L p0 p1 p2 p3 p4 p5 p6 k_fin
def zxP (zkE:zo0) (L:Nat) (β:Type) (args:List V) (bor:Bor) (k:KK β):Option β:=match args,bor with
 | [a0,a1,a2,a3,a4,a5,a6],[]=>aL 1 a0 fun p0=>aI .i64 a1 fun p1=>aG a2 fun p2=>aI .u32 a3 fun p3=>aI .u32 a4 fun p4=>aI .i64 a5 fun p5=>aI .i64 a6 fun p6=>zkE β L p0 p1 p2 p3 p4 p5 p6 (fun p0=>k (V.sc (.bool p0)) [])
 | _,_=>none
def yY:CC:=(.seq (.reg [oo 9 (.bin .lss (tq 8) (tq 7))])
 (.seq (.cond (tq 9)
 .skip
 (.seq (.mask (bl 0 19) (bl 458703 19))
 (.exit 0)))
 (.seq (.block 1 (.seq (.reg [oo 10 (.move (tq 8) false),
   oo 5 (.move (tq 10) false)])
 (.seq (.reg [oo 11 (.move (tq 1) false),
   oo 12 (.move (tq 0) false),
   oo 13 (.move (tq 5) false),
   oo 14 (.indexAddrS 35 (tq 12) (tq 13)),
   oo 15 (.load true 35 (tq 14) false),
   oo 16 (.callv (tq 11) [((tq 15),0)] [])])
 (.cond (tq 16)
 (.seq (.reg [oo 17 (.move (tq 5) false),
   oo 4 (.move (tq 17) false)])
 (.seq (.mask (bl 16 19) (bl 458719 19))
 .ret))
 .skip))))
 (.reg [oo 18 (.bin .add (tq 8) (.const (.sc (.int .i64 1)))),
   oo 8 (.move (tq 18) false)]))))
def zbo:CC:=(.seq (.reg [oo 4 (.move (.const (.sc (.int .i64 (-1)))) false)])
 .ret)
def xK:CF:=zz
def xr:Nat→Sh:=zay []
def zs (xd:yB) (L:Nat):CBC:=(zI 373 (zfv xd L) noC)
def xZ:St→St:=zab 2 (bl 387 19) (bl 458703 19)
def yT (p0l:Nat) (p7 p8:Int) (b0 b1:List V):St:=⟨((V.own 0 0 p0l 35)::((V.fn 373 [(V.ptr 1 0)])::(jn 5 ((V.sc (.int .i64 p7))::((V.sc (.int .i64 p8))::(jn 10 [])))))),((.live true b0)::((.live true b1)::(gn 19 [])))⟩
def zaX (p4:Int) (b0 b1:List V):St:=⟨(jn 4 ((V.sc (.int .i64 p4))::(jn 14 []))),((.live true b0)::((.live true b1)::(gn 19 [])))⟩
def za4 (b0 b1:List V):St:=⟨(jn 19 []),((.live true b0)::((.live true b1)::(gn 19 [])))⟩
def zbE {β:Type} (xd:yB) (L:Nat) (p0l:Nat) (b0 b1:List V) (k_hbaba:Nat→Int→Int→List V→List V→Option β):Option β :=
 k_hbaba p0l ((p0l:Nat):Int) (0:Int) b0 b1
theorem ze3 {β:Type} (xd:yB) (L:Nat) (p0l:Nat) (b0 b1:List V) (k:KK β):xH xr (zs xd L) L xK [(V.own 0 0 p0l 35),(V.fn 373 [(V.ptr 1 0)])] [(.live true b0),(.live true b1)] k=zbE xd L p0l b0 b1 (fun p0l p7 p8 b0 b1=>yR (yu xr (zs xd L) 2 L yY) xZ L (yT p0l p7 p8 b0 b1) (yH 0 (zaC (yu xr (zs xd L) 2 L zbo) (za1 2 (CF.res xK) k)))):=by kernel_rfl
def za7 {β:Type} (xd:yB) (L:Nat) (p0l:Nat) (p7 p8:Int) (b0 b1:List V) (k_ret:Int→List V→List V→Option β) (k_hbaba:Nat→Int→Int→List V→List V→Option β) (k_x0:List V→List V→Option β):Option β :=
 ifb (decide (p8 < p7)) (
 chk (0≤p8∧p8 < ((p0l:Nat):Int)) (
 chk ((0+((Int.toNat p8) * 35))+35≤(List.length b0)) (
 xd β L (List.take 35 (List.drop (0+((Int.toNat p8) * 35)) b0)) b1 (fun v0 v1 =>
 chk ([(List.length v1)]=[(List.length b1)]) (
 ifb v0 (
 k_ret p8 b0 v1) (
 lt (IntKind.wrap .i64 ((p8:Int)+(1:Int))) fun x2 =>
 k_hbaba p0l p7 x2 b0 v1)))))) (
 k_x0 b0 b1)
theorem zeE {β:Type} (xd:yB) (L:Nat) (p0l:Nat) (p7 p8:Int) (b0 b1:List V) (X:St→Option β) (K:KT β):yu xr (zs xd L) 2 L yY (yT p0l p7 p8 b0 b1) (zdL xZ X K)=za7 xd L p0l p7 p8 b0 b1 (fun p4 b0 b1=>K .ret (zaX p4 b0 b1)) (fun p0l p7 p8 b0 b1=>X (yT p0l p7 p8 b0 b1)) (fun b0 b1=>K (.exit 0) (za4 b0 b1)):=by kernel_rfl
def zca {β:Type} (xd:yB) (L:Nat) (p4:Int) (b0 b1:List V) (k_fin:Int→List V→List V→Option β):Option β :=
 k_fin p4 b0 b1
theorem zd7 {β:Type} (xd:yB) (L:Nat) (p4:Int) (b0 b1:List V) (k:KK β):(yH 0 (zaC (yu xr (zs xd L) 2 L zbo) (za1 2 (CF.res xK) k))) .ret (zaX p4 b0 b1)=zca xd L p4 b0 b1 (fun p0 b0 b1=>k (V.sc (.int .i64 p0)) [(.live true b0),(.live true b1)]):=by kernel_rfl
def zcl {β:Type} (xd:yB) (L:Nat) (b0 b1:List V) (k_fin:Int→List V→List V→Option β):Option β :=
 k_fin (-1:Int) b0 b1
theorem zeg {β:Type} (xd:yB) (L:Nat) (b0 b1:List V) (k:KK β):(yH 0 (zaC (yu xr (zs xd L) 2 L zbo) (za1 2 (CF.res xK) k))) (.exit 0) (za4 b0 b1)=zcl xd L b0 b1 (fun p0 b0 b1=>k (V.sc (.int .i64 p0)) [(.live true b0),(.live true b1)]):=by kernel_rfl
def xO {β:Type} (xd:yB) (L:Nat) (k_ret:Int→List V→List V→Option β) (k_x0:List V→List V→Option β):Nat→Nat→Int→Int→List V→List V→Option β
 | 0,_,_,_,_,_=>none
 | n+1,p0l,p7,p8,b0,b1=>za7 xd L p0l p7 p8 b0 b1 k_ret (fun p0l p7 p8 b0 b1=>xO xd L k_ret k_x0 n p0l p7 p8 b0 b1) k_x0
theorem zcb {β:Type} (xd:yB) (L:Nat) (K:KT β):∀ (n:Nat) (p0l:Nat) (p7 p8:Int) (b0 b1:List V),yR (yu xr (zs xd L) 2 L yY) xZ n (yT p0l p7 p8 b0 b1) K=xO xd L (fun p4 b0 b1=>K .ret (zaX p4 b0 b1)) (fun b0 b1=>K (.exit 0) (za4 b0 b1)) n p0l p7 p8 b0 b1:=by
 intro n
 induction n with
 | zero=>intros; rfl
 | succ n ih =>
  intro p0l p7 p8 b0 b1
  refine (zeE xd L p0l p7 p8 b0 b1 (fun σ=>yR (yu xr (zs xd L) 2 L yY) xZ n σ K) K).trans ?_
  simp only [ih]
  rfl
def zao {β:Type} (xd:yB) (L:Nat) (p0l:Nat) (b0 b1:List V) (k_fin:Int→List V→List V→Option β):Option β :=
 zbE xd L p0l b0 b1 (fun p0l p7 p8 b0 b1=>xO xd L (fun p4 b0 b1=>zca xd L p4 b0 b1 k_fin) (fun b0 b1=>zcl xd L b0 b1 k_fin) L p0l p7 p8 b0 b1)
theorem ze8 {β:Type} (xd:yB) (L:Nat) (p0l:Nat) (b0 b1:List V) (k:KK β):xH xr (zs xd L) L xK [(V.own 0 0 p0l 35),(V.fn 373 [(V.ptr 1 0)])] [(.live true b0),(.live true b1)] k=zao xd L p0l b0 b1 (fun p0 b0 b1=>k (V.sc (.int .i64 p0)) [(.live true b0),(.live true b1)]):=by
 refine (ze3 xd L p0l b0 b1 k).trans ?_
 unfold zao
 first
  | (simp only [zcb,zd7,zeg]; done)
  | (simp only [zcb]; rfl)
abbrev zat:=∀ (β:Type),Nat→Nat→List V→List V→(Int→List V→List V→Option β)→Option β
def zk (β:Type) (L:Nat) (p0l:Nat) (b0 b1:List V) (k_fin:Int→List V→List V→Option β):Option β:=zao xd L p0l b0 b1 k_fin
def zau (zk:zat) (L:Nat) (β:Type) (args:List V) (bor:Bor) (k:KK β):Option β:=match args,bor with
 | [a0,a1],[(.live true b0),(.live true b1)]=>aO0 0 35 a0 fun p0l=>aF 373 [(1,0)] a1 (zk β L p0l b0 b1 (fun p0 b0 b1=>k (V.sc (.int .i64 p0)) [(.live true b0),(.live true b1)]))
 | _,_=>none
theorem ze6 (L:Nat) (β:Type) (args:List V) (bor:Bor) (k:KK β) (r:β) (h:zau zk L β args bor k=some r):xH xr (zs xd L) L xK args bor k=some r:=by
 unfold zau at h
 split at h
 ·have q:=zjK h; clear h; obtain ⟨p0l,rfl,h⟩:=q
  have q:=zrX h; clear h; obtain ⟨rfl,h⟩:=q
  exact (ze8 xd L p0l _ _ k).trans h
 ·cases h
def zlJ:CF:=zf2
def zic:Nat→Sh:=zay []
def zie (zk:zat) (L:Nat):CBC:=(zI 372 (zau zk L) noC)
def zjm {β:Type} (zk:zat) (L:Nat) (zBO:Int) (zBP:Bool) (zB6 zB5 zB7:Nat) (p1 b0 b1 b2:List V) (k_fin:Int→List V→List V→List V→Option β):Option β :=
 zk β L zB5 b1 p1 (fun v0 v1 v2 =>
 chk ([(List.length v1),(List.length v2)]=[(List.length b1),(List.length p1)]) (
 k_fin v0 b0 v1 b2))
theorem zp4 {β:Type} (zk:zat) (L:Nat) (zBO:Int) (zBP:Bool) (zB6 zB5 zB7:Nat) (p1 b0 b1 b2:List V) (k:KK β):xH zic (zie zk L) L zlJ [(V.st [(V.sc (.int .u32 zBO)),(V.sc (.bool zBP)),(V.own 0 0 zB6 1),(V.own 1 0 zB5 35),(V.own 2 0 zB7 32)]),(V.agg p1)] [(.live true b0),(.live true b1),(.live true b2)] k=zjm zk L zBO zBP zB6 zB5 zB7 p1 b0 b1 b2 (fun p0 b0 b1 b2=>k (V.sc (.int .i64 p0)) [(.live true b0),(.live true b1),(.live true b2)]):=by kernel_rfl
abbrev zgm:=∀ (β:Type),Nat→Int→Bool→Nat→Nat→Nat→List V→List V→List V→List V→(Int→List V→List V→List V→Option β)→Option β
def zN (β:Type) (L:Nat) (zBO:Int) (zBP:Bool) (zB6 zB5 zB7:Nat) (p1 b0 b1 b2:List V) (k_fin:Int→List V→List V→List V→Option β):Option β:=zjm zk L zBO zBP zB6 zB5 zB7 p1 b0 b1 b2 k_fin
def zgq (zN:zgm) (L:Nat) (β:Type) (args:List V) (bor:Bor) (k:KK β):Option β:=match args,bor with
 | [(.st [a0_0,a0_1,a0_2,a0_3,a0_4]),a1],[(.live true b0),(.live true b1),(.live true b2)]=>aI .u32 a0_0 fun zBO=>aB a0_1 fun zBP=>aO0 0 1 a0_2 fun zB6=>aO0 1 35 a0_3 fun zB5=>aO0 2 32 a0_4 fun zB7=>aG a1 fun p1=>zN β L zBO zBP zB6 zB5 zB7 p1 b0 b1 b2 (fun p0 b0 b1 b2=>k (V.sc (.int .i64 p0)) [(.live true b0),(.live true b1),(.live true b2)])
 | _,_=>none
theorem zpl (L:Nat) (β:Type) (args:List V) (bor:Bor) (k:KK β) (r:β) (h:zgq zN L β args bor k=some r):xH zic (zie zk L) L zlJ args bor k=some r:=by
 unfold zgq at h
 split at h
 ·have q:=zcp h; clear h; obtain ⟨zBO,rfl,h⟩:=q
  have q:=zlU h; clear h; obtain ⟨zBP,rfl,h⟩:=q
  have q:=zjK h; clear h; obtain ⟨zB6,rfl,h⟩:=q
  have q:=zjK h; clear h; obtain ⟨zB5,rfl,h⟩:=q
  have q:=zjK h; clear h; obtain ⟨zB7,rfl,h⟩:=q
  have q:=zdX h; clear h; obtain ⟨p1,rfl,h⟩:=q
  exact (zp4 zk L zBO zBP zB6 zB5 zB7 p1 _ _ _ k).trans h
 ·cases h
def za9:CF:=⟨33,[.tmp 6],
 (.seq (.reg [oo 6 (.move (.const (.gs 35 [])) true)])
 (.seq (.reg [oo 8 (.move (tq 0) false),
   oo 9 (.move (tq 1) false),
   oo 10 (.move (tq 2) false),
   oo 11 (.move (tq 0) false),
   oo 12 (.lenS (tq 11)),
   oo 13 (.sliceS 35 (tq 8) (some (tq 9)) (some (tq 10)) (some (tq 12)))])
 (.seq (.seq (.reg [oo 14 (.move (tq 1) false),
   oo 15 (.move (tq 2) false),
   oo 16 (.bin .eql (tq 14) (tq 15))])
 (.cond (tq 16)
 (.seq (.reg [oo 17 (.move (tq 0) true),
   oo 6 (.move (tq 17) true)])
 .ret)
 .skip))
 (.seq (.reg [oo 18 (.move (tq 0) false),
   oo 19 (.lenS (tq 18)),
   oo 7 (.move (tq 19) false)])
 (.seq (.dreg [] [(oo 20 (.move (tq 0) false),q0),
   (oo 21 (.move (tq 1) false),q0),
   (oo 22 (.sliceC 35 (tq 20) (some (tq 21))),q0),
   (oo 23 (.move (tq 0) false),q0),
   (oo 24 (.move (tq 2) false),q0),
   (oo 25 (.sliceS 35 (tq 23) (some (tq 24)) none none),q0),
   (oo 26 (.append 35 56 (tq 22) (tq 25)),q0),
   (oo 0 (.move (tq 26) true),q0)])
 (.seq (.reg [oo 27 (.move (tq 0) false),
   oo 28 (.move (tq 0) false),
   oo 29 (.lenS (tq 28)),
   oo 30 (.move (tq 7) false),
   oo 31 (.sliceS 35 (tq 27) (some (tq 29)) (some (tq 30)) none),
   oz (.clear 35 (rp 32 (.sc (.int .u8 0)) (rp 2 (.sc (.int .i64 0)) (rp 1 (.sc (.int .u32 0)) []))) (tq 31))])
 (.seq (.reg [oo 32 (.move (tq 0) true),
   oo 6 (.move (tq 32) true)])
 .ret)))))))⟩
def zdy:Hint:=⟨[(0,0),(3,0),(3,1),(5,2),(5,7),(7,0),(7,1)],[],[none,none,none],[],[],false,false⟩
def zch:Nat→Sh:=zay []
def zci (L:Nat):CBC:=noC
def zcq {β:Type} (L:Nat) (p0l:Nat) (p1 p2:Int) (b0:List V) (k_fin:Nat→List V→Option β):Option β :=
 chk (0≤((p0l:Nat):Int)∧((p0l:Nat):Int)≤((p0l:Nat):Int)) (
 chk (0≤p2∧p2≤(((Int.toNat ((p0l:Nat):Int)):Nat):Int)) (
 chk (0≤p1∧p1≤(((Int.toNat p2):Nat):Int)) (
 ifb (decide ((Int.toNat ((p0l:Nat):Int))=(Int.toNat p1))) (
 ifb ((p1:Int) == p2) (
 k_fin p0l b0) (
 chk (0≤p1∧p1≤((p0l:Nat):Int)) (
 chk (0≤p2∧p2≤((p0l:Nat):Int)) (
 chk ((Int.toNat p1)+List.length (xb 35 (p0l - (Int.toNat p2)) (List.drop (0+((Int.toNat p2) * 35)) b0))≤p0l) (
 lt (ya b0 ((Int.toNat p1) * 35) (List.flatten (xb 35 (p0l - (Int.toNat p2)) (List.drop (0+((Int.toNat p2) * 35)) b0)))) fun r0 =>
 chk (0≤((p0l:Nat):Int)∧((p0l:Nat):Int)≤((p0l:Nat):Int)) (
 chk (0≤((((Int.toNat p1)+List.length (xb 35 (p0l - (Int.toNat p2)) (List.drop (0+((Int.toNat p2) * 35)) b0))):Nat):Int)∧((((Int.toNat p1)+List.length (xb 35 (p0l - (Int.toNat p2)) (List.drop (0+((Int.toNat p2) * 35)) b0))):Nat):Int)≤(((Int.toNat ((p0l:Nat):Int)):Nat):Int)) (
 lt (ya r0 (0+((Int.toNat ((((Int.toNat p1)+List.length (xb 35 (p0l - (Int.toNat p2)) (List.drop (0+((Int.toNat p2) * 35)) b0))):Nat):Int)) * 35)) (List.flatten (List.replicate ((Int.toNat ((p0l:Nat):Int)) - (Int.toNat ((((Int.toNat p1)+List.length (xb 35 (p0l - (Int.toNat p2)) (List.drop (0+((Int.toNat p2) * 35)) b0))):Nat):Int))) (List.replicate 32 (V.sc (.int .u8 (0:Int)))++[(V.sc (.int .i64 (0:Int))),(V.sc (.int .i64 (0:Int))),(V.sc (.int .u32 (0:Int)))])))) fun r1 =>
 k_fin ((Int.toNat p1)+List.length (xb 35 (p0l - (Int.toNat p2)) (List.drop (0+((Int.toNat p2) * 35)) b0))) r1))))))) (
 ifb ((p1:Int) == p2) (
 k_fin p0l b0) (
 chk (0≤p1∧p1≤((p0l:Nat):Int)) (
 chk (0≤p2∧p2≤((p0l:Nat):Int)) (
 chk ((Int.toNat p1)+List.length (xb 35 (p0l - (Int.toNat p2)) (List.drop (0+((Int.toNat p2) * 35)) b0))≤p0l) (
 lt (ya b0 ((Int.toNat p1) * 35) (List.flatten (xb 35 (p0l - (Int.toNat p2)) (List.drop (0+((Int.toNat p2) * 35)) b0)))) fun r2 =>
 chk (0≤((p0l:Nat):Int)∧((p0l:Nat):Int)≤((p0l:Nat):Int)) (
 chk (0≤((((Int.toNat p1)+List.length (xb 35 (p0l - (Int.toNat p2)) (List.drop (0+((Int.toNat p2) * 35)) b0))):Nat):Int)∧((((Int.toNat p1)+List.length (xb 35 (p0l - (Int.toNat p2)) (List.drop (0+((Int.toNat p2) * 35)) b0))):Nat):Int)≤(((Int.toNat ((p0l:Nat):Int)):Nat):Int)) (
 lt (ya r2 (0+((Int.toNat ((((Int.toNat p1)+List.length (xb 35 (p0l - (Int.toNat p2)) (List.drop (0+((Int.toNat p2) * 35)) b0))):Nat):Int)) * 35)) (List.flatten (List.replicate ((Int.toNat ((p0l:Nat):Int)) - (Int.toNat ((((Int.toNat p1)+List.length (xb 35 (p0l - (Int.toNat p2)) (List.drop (0+((Int.toNat p2) * 35)) b0))):Nat):Int))) (List.replicate 32 (V.sc (.int .u8 (0:Int)))++[(V.sc (.int .i64 (0:Int))),(V.sc (.int .i64 (0:Int))),(V.sc (.int .u32 (0:Int)))])))) fun r3 =>
 k_fin ((Int.toNat p1)+List.length (xb 35 (p0l - (Int.toNat p2)) (List.drop (0+((Int.toNat p2) * 35)) b0))) r3))))))))))
theorem zgz {β:Type} (L:Nat) (p0l:Nat) (p1 p2:Int) (b0:List V) (k:KK β):xH zch (zci L) L za9 [(V.own 0 0 p0l 35),(V.sc (.int .i64 p1)),(V.sc (.int .i64 p2))] [(.live true b0)] k=zcq L p0l p1 p2 b0 (fun p0l b0=>k (V.own 0 0 p0l 35) [(.live true b0)]):=by kernel_rfl
abbrev zbf:=∀ (β:Type),Nat→Nat→Int→Int→List V→(Nat→List V→Option β)→Option β
def xl (β:Type) (L:Nat) (p0l:Nat) (p1 p2:Int) (b0:List V) (k_fin:Nat→List V→Option β):Option β:=zcq L p0l p1 p2 b0 k_fin
def zbd (xl:zbf) (L:Nat) (β:Type) (args:List V) (bor:Bor) (k:KK β):Option β:=match args,bor with
 | [a0,a1,a2],[(.live true b0)]=>aO0 0 35 a0 fun p0l=>aI .i64 a1 fun p1=>aI .i64 a2 fun p2=>xl β L p0l p1 p2 b0 (fun p0l b0=>k (V.own 0 0 p0l 35) [(.live true b0)])
 | _,_=>none
theorem zgB (L:Nat) (β:Type) (args:List V) (bor:Bor) (k:KK β) (r:β) (h:zbd xl L β args bor k=some r):xH zch (zci L) L za9 args bor k=some r:=by
 unfold zbd at h
 split at h
 ·have q:=zjK h; clear h; obtain ⟨p0l,rfl,h⟩:=q
  have q:=zcp h; clear h; obtain ⟨p1,rfl,h⟩:=q
  have q:=zcp h; clear h; obtain ⟨p2,rfl,h⟩:=q
  exact (zgz L p0l p1 p2 _ k).trans h
 ·cases h
def zhp:CF:=⟨45,[.cellS 4 5 true,.tmpP 5],
 (.seq (.reg [oo 2 (.box false (tq 0)),
   oo 3 (.box true (tq 1)),
   oo 4 (.alloc false [(.sc (.int .u32 0)),(.sc (.bool false)),(.gs 1 []),(.gs 35 []),(.gs 32 [])]),
   oo 5 (.move (.const (.sc (.int .i64 0))) false)])
 (.seq (.block 0 (.seq (.reg [oo 8 (.load true 5 (tq 2) false),
   oo 9 (.call 356 [((tq 8),1)] []),
   oo 10 (.un .not (tq 9)),
   oo 7 (.move (tq 10) false)])
 (.cond (tq 7)
 (.seq (.reg [oo 11 (.build [(.sc (.int .u32 0)),(.sc (.bool false)),(.sl 1 []),(.sl 35 []),(.sl 32 [])] []),
   oz (.store 5 (tq 4) (tq 11)),
   oo 5 (.move (.const (.sc (.int .i64 6))) false)])
 .ret)
 (.seq (.reg [oo 13 (.fieldAddr 4 (tq 2)),
   oo 14 (.load false 1 (tq 13) false),
   oo 15 (.load true 32 (tq 3) false),
   oo 16 (.call 248 [((tq 14),2),((tq 15),2)] []),
   oo 12 (.move (tq 16) false)])
 (.cond (tq 12)
 (.seq (.reg [oo 17 (.build [(.sc (.int .u32 0)),(.sc (.bool false)),(.sl 1 []),(.sl 35 []),(.sl 32 [])] []),
   oz (.store 5 (tq 4) (tq 17)),
   oo 5 (.move (.const (.sc (.int .i64 150))) false)])
 .ret)
 (.seq (.reg [oo 19 (.fieldAddr 4 (tq 2)),
   oo 20 (.load false 1 (tq 19) false),
   oo 21 (.lenS (tq 20)),
   oo 22 (.bin .geq (tq 21) (.const (.sc (.int .i64 2048)))),
   oo 18 (.move (tq 22) false)])
 (.cond (tq 18)
 (.seq (.reg [oo 23 (.build [(.sc (.int .u32 0)),(.sc (.bool false)),(.sl 1 []),(.sl 35 []),(.sl 32 [])] []),
   oz (.store 5 (tq 4) (tq 23)),
   oo 5 (.move (.const (.sc (.int .i64 380))) false)])
 .ret)
 .skip)))))))
 (.seq (.reg [oo 24 (.load true 5 (tq 2) false),
   oo 25 (.call 358 [((tq 24),1)] [10,13,19]),
   oz (.store 5 (tq 2) (tq 25))])
 (.seq (.seq (.reg [oo 26 (.load true 5 (tq 2) true),
   oo 27 (.load true 32 (tq 3) false),
   oo 28 (.call 363 [((tq 26),3),((tq 27),2)] []),
   oo 6 (.move (tq 28) false)])
 (.seq (.reg [oo 29 (.move (tq 6) false),
   oo 30 (.bin .geq (tq 29) (.const (.sc (.int .i64 0))))])
 (.cond (tq 30)
 (.reg [oo 31 (.fieldAddr 3 (tq 2)),
   oo 32 (.load false 1 (tq 31) false),
   oo 33 (.move (tq 6) false),
   oo 34 (.move (tq 6) false),
   oo 35 (.bin .add (tq 34) (.const (.sc (.int .i64 1)))),
   oo 36 (.call 366 [((tq 32),2),((tq 33),2),((tq 35),2)] []),
   oo 37 (.fieldAddr 3 (tq 2)),
   oz (.store 1 (tq 37) (tq 36))])
 .skip)))
 (.seq (.reg [oo 38 (.fieldAddr 4 (tq 2)),
   oo 39 (.load false 1 (tq 38) true),
   oo 40 (.load true 32 (tq 3) false),
   oo 41 (.buildSlice 32 1 (rp 32 (.sc (.int .u8 0)) []) [(0,32,(tq 40))]),
   oo 42 (.append 32 32 (tq 39) (tq 41)),
   oo 43 (.fieldAddr 4 (tq 2)),
   oz (.store 1 (tq 43) (tq 42))])
 (.seq (.reg [oo 44 (.load true 5 (tq 2) true),
   oz (.store 5 (tq 4) (tq 44)),
   oo 5 (.move (.const (.sc (.int .i64 0))) false)])
 .ret))))))⟩
def zmc:Hint:=⟨[(3,3),(8,0),(8,2),(10,5),(11,1),(12,0)],[],[none,none,none,none,none,none,none,none,none],[],[(7,1,[10,13,19])],true,true⟩
def zjZ:Nat→Sh:=zay [(2,(.row [(.int .u32),.bool,(.sl 1),(.sl 35),(.sl 32)]))]
def zjQ (zr:zb8) (yg:zK) (yl:zbL) (zN:zgm) (xl:zbf) (L:Nat):CBC:=(zI 366 (zbd xl L) (zI 363 (zgq zN L) (zI 358 (zek yl L) (zI 248 (y7 yg L) (zI 356 (zeP zr L) noC)))))
def zkX {β:Type} (zr:zb8) (yg:zK) (yl:zbL) (zN:zgm) (xl:zbf) (L:Nat) (p0 p1:List V) (k_fin:List V→Int→Option β):Option β :=
 chk (List.length p0=5) (
 cI .u32 p0 0 fun v0 =>
 cB p0 1 fun v1 =>
 cL 1 p0 2 fun v2 =>
 cL 35 p0 3 fun v3 =>
 cL 32 p0 4 fun v4 =>
 zr β L [(V.sc (.int .u32 v0)),(V.sc (.bool v1)),(V.sl 1 v2),(V.sl 35 v3),(V.sl 32 v4)] (fun v5 =>
 ifb (!v5) (
 k_fin [(V.sc (.int .u32 (0:Int))),(V.sc (.bool false)),(V.sl 1 ([]:List (List V))),(V.sl 35 ([]:List (List V))),(V.sl 32 ([]:List (List V)))] (6:Int)) (
 chk (0+32≤(List.length p1)) (
 yg β L v4 (List.take 32 p1) (fun v6 =>
 ifb v6 (
 k_fin [(V.sc (.int .u32 (0:Int))),(V.sc (.bool false)),(V.sl 1 ([]:List (List V))),(V.sl 35 ([]:List (List V))),(V.sl 32 ([]:List (List V)))] (150:Int)) (
 ifb (decide (((List.length v4:Nat):Int) ≥ (2048:Int))) (
 k_fin [(V.sc (.int .u32 (0:Int))),(V.sc (.bool false)),(V.sl 1 ([]:List (List V))),(V.sl 35 ([]:List (List V))),(V.sl 32 ([]:List (List V)))] (380:Int)) (
 yl β L [(V.sc (.int .u32 v0)),(V.sc (.bool v1)),(V.sl 1 v2),(V.sl 35 v3),(V.sl 32 v4)] (fun v7 v8 v9 v10 v11 v12 v13 v14 =>
 chk (0+32≤(List.length p1)) (
 zN β L v7 v8 v9 v10 v11 (List.take 32 p1) v12 v13 v14 (fun v15 v16 v17 v18 =>
 chk ([(List.length v16),(List.length v17),(List.length v18)]=[(List.length v12),(List.length v13),(List.length v14)]) (
 ifb (decide (v15 ≥ (0:Int))) (
 lt (IntKind.wrap .i64 ((v15:Int)+(1:Int))) fun x19 =>
 xl β L v10 v15 x19 v17 (fun v20 v21 =>
 chk ([(List.length v21)]=[(List.length v17)]) (
 chk (0+32≤(List.length p1)) (
 chk ((List.length (List.take 32 p1))=32∧0+32≤32) (
 chk ((v11+List.length (xb 32 1 (ya (List.replicate 32 (V.sc (.int .u8 (0:Int)))) 0 (List.take 32 p1)))) * 32≤yi∧(v11+List.length (xb 32 1 (ya (List.replicate 32 (V.sc (.int .u8 (0:Int)))) 0 (List.take 32 p1))))≤yi∧((v11+List.length (xb 32 1 (ya (List.replicate 32 (V.sc (.int .u8 (0:Int)))) 0 (List.take 32 p1))))≠0∨(List.length v18)=0)) (
 lt (List.take (v11 * 32) v18++List.flatten (xb 32 1 (ya (List.replicate 32 (V.sc (.int .u8 (0:Int)))) 0 (List.take 32 p1)))) fun r22 =>
 k_fin [(V.sc (.int .u32 v7)),(V.sc (.bool v8)),(V.sl 1 (xb 1 v9 v16)),(V.sl 35 (xb 35 v20 v21)),(V.sl 32 (xb 32 (v11+List.length (xb 32 1 (ya (List.replicate 32 (V.sc (.int .u8 (0:Int)))) 0 (List.take 32 p1)))) r22))] (0:Int))))))) (
 chk (0+32≤(List.length p1)) (
 chk ((List.length (List.take 32 p1))=32∧0+32≤32) (
 chk ((v11+List.length (xb 32 1 (ya (List.replicate 32 (V.sc (.int .u8 (0:Int)))) 0 (List.take 32 p1)))) * 32≤yi∧(v11+List.length (xb 32 1 (ya (List.replicate 32 (V.sc (.int .u8 (0:Int)))) 0 (List.take 32 p1))))≤yi∧((v11+List.length (xb 32 1 (ya (List.replicate 32 (V.sc (.int .u8 (0:Int)))) 0 (List.take 32 p1))))≠0∨(List.length v18)=0)) (
 lt (List.take (v11 * 32) v18++List.flatten (xb 32 1 (ya (List.replicate 32 (V.sc (.int .u8 (0:Int)))) 0 (List.take 32 p1)))) fun r23 =>
 k_fin [(V.sc (.int .u32 v7)),(V.sc (.bool v8)),(V.sl 1 (xb 1 v9 v16)),(V.sl 35 (xb 35 v10 v17)),(V.sl 32 (xb 32 (v11+List.length (xb 32 1 (ya (List.replicate 32 (V.sc (.int .u8 (0:Int)))) 0 (List.take 32 p1)))) r23))] (0:Int))))))))))))))))
theorem zq7 {β:Type} (zr:zb8) (yg:zK) (yl:zbL) (zN:zgm) (xl:zbf) (L:Nat) (p0 p1:List V) (k:KK β):xH zjZ (zjQ zr yg yl zN xl L) L zhp [(V.agg p0),(V.agg p1)] [] k=zkX zr yg yl zN xl L p0 p1 (fun zBO zBP=>k (V.tup [(V.agg zBO),(V.sc (.int .i64 zBP))]) []):=by kernel_rfl
abbrev yk:=∀ (β:Type),Nat→List V→List V→(List V→Int→Option β)→Option β
def yb (β:Type) (L:Nat) (p0 p1:List V) (k_fin:List V→Int→Option β):Option β:=zkX zr yg yl zN xl L p0 p1 k_fin
def zf8 (yb:yk) (L:Nat) (β:Type) (args:List V) (bor:Bor) (k:KK β):Option β:=match args,bor with
 | [a0,a1],[]=>aG a0 fun p0=>aG a1 fun p1=>yb β L p0 p1 (fun zBO zBP=>k (V.tup [(V.agg zBO),(V.sc (.int .i64 zBP))]) [])
 | _,_=>none
theorem zro (L:Nat) (β:Type) (args:List V) (bor:Bor) (k:KK β) (r:β) (h:zf8 yb L β args bor k=some r):xH zjZ (zjQ zr yg yl zN xl L) L zhp args bor k=some r:=by
 unfold zf8 at h
 split at h
 ·have q:=zdX h; clear h; obtain ⟨p0,rfl,h⟩:=q
  have q:=zdX h; clear h; obtain ⟨p1,rfl,h⟩:=q
  exact (zq7 zr yg yl zN xl L p0 p1 k).trans h
 ·cases h
def znn:CF:=⟨53,[.cellS 4 5 true,.tmpP 5],
 (.seq (.reg [oo 2 (.box true (tq 0)),
   oo 3 (.box true (tq 1)),
   oo 4 (.alloc false [(.sc (.int .u32 0)),(.sc (.bool false)),(.gs 1 []),(.gs 35 []),(.gs 32 [])]),
   oo 5 (.move (.const (.sc (.int .i64 0))) false)])
 (.seq (.block 0 (.seq (.reg [oo 9 (.load true 5 (tq 2) false),
   oo 10 (.call 362 [((tq 9),1)] []),
   oo 11 (.un .not (tq 10)),
   oo 8 (.move (tq 11) false)])
 (.cond (tq 8)
 (.seq (.reg [oo 12 (.build [(.sc (.int .u32 0)),(.sc (.bool false)),(.sl 1 []),(.sl 35 []),(.sl 32 [])] []),
   oz (.store 5 (tq 4) (tq 12)),
   oo 5 (.move (.const (.sc (.int .i64 6))) false)])
 .ret)
 (.seq (.reg [oo 14 (.fieldAddr 4 (tq 2)),
   oo 15 (.load false 1 (tq 14) false),
   oo 16 (.load true 32 (tq 3) false),
   oo 17 (.call 365 [((tq 15),0),((tq 16),0)] []),
   oo 13 (.move (tq 17) false)])
 (.cond (tq 13)
 (.seq (.reg [oo 18 (.build [(.sc (.int .u32 0)),(.sc (.bool false)),(.sl 1 []),(.sl 35 []),(.sl 32 [])] []),
   oz (.store 5 (tq 4) (tq 18)),
   oo 5 (.move (.const (.sc (.int .i64 150))) false)])
 .ret)
 (.seq (.reg [oo 20 (.fieldAddr 4 (tq 2)),
   oo 21 (.load false 1 (tq 20) false),
   oo 22 (.lenS (tq 21)),
   oo 23 (.bin .geq (tq 22) (.const (.sc (.int .i64 2048)))),
   oo 19 (.move (tq 23) false)])
 (.cond (tq 19)
 (.seq (.reg [oo 24 (.build [(.sc (.int .u32 0)),(.sc (.bool false)),(.sl 1 []),(.sl 35 []),(.sl 32 [])] []),
   oz (.store 5 (tq 4) (tq 24)),
   oo 5 (.move (.const (.sc (.int .i64 380))) false)])
 .ret)
 .skip)))))))
 (.seq (.reg [oo 25 (.load true 5 (tq 2) false),
   oo 26 (.call 355 [((tq 25),1)] [11,14,20]),
   oo 6 (.alloc false [(.sc (.int .u32 0)),(.sc (.bool false)),(.gs 1 []),(.gs 35 []),(.gs 32 [])]),
   oz (.store 5 (tq 6) (tq 26))])
 (.seq (.seq (.reg [oo 27 (.fieldAddr 3 (tq 2)),
   oo 28 (.load false 1 (tq 27) false),
   oo 29 (.load true 32 (tq 3) false),
   oo 30 (.call 364 [((tq 28),0),((tq 29),0)] []),
   oo 7 (.move (tq 30) false)])
 (.seq (.reg [oo 31 (.move (tq 7) false),
   oo 32 (.bin .geq (tq 31) (.const (.sc (.int .i64 0))))])
 (.cond (tq 32)
 (.dreg [] [(oo 33 (.buildSlice 35 0 (rp 32 (.sc (.int .u8 0)) (rp 2 (.sc (.int .i64 0)) (rp 1 (.sc (.int .u32 0)) []))) []),qn [2] []),
   (oo 34 (.fieldAddr 3 (tq 2)),q0),
   (oo 35 (.load false 1 (tq 34) false),ql 2 [] [33]),
   (oo 36 (.move (tq 7) false),q0),
   (oo 37 (.sliceS 35 (tq 35) none (some (tq 36)) none),q0),
   (oo 38 (.append 35 56 (tq 33) (tq 37)),qn [2] []),
   (oo 39 (.fieldAddr 3 (tq 2)),q0),
   (oo 40 (.load false 1 (tq 39) false),ql 2 [] [33,38]),
   (oo 41 (.move (tq 7) false),q0),
   (oo 42 (.bin .add (tq 41) (.const (.sc (.int .i64 1)))),q0),
   (oo 43 (.sliceS 35 (tq 40) (some (tq 42)) none none),q0),
   (oo 44 (.append 35 56 (tq 38) (tq 43)),q0),
   (oo 45 (.fieldAddr 3 (tq 6)),q0),
   (oz (.store 1 (tq 45) (tq 44)),q0)])
 .skip)))
 (.seq (.reg [oo 46 (.fieldAddr 4 (tq 6)),
   oo 47 (.load false 1 (tq 46) true),
   oo 48 (.load true 32 (tq 3) false),
   oo 49 (.buildSlice 32 1 (rp 32 (.sc (.int .u8 0)) []) [(0,32,(tq 48))]),
   oo 50 (.append 32 32 (tq 47) (tq 49)),
   oo 51 (.fieldAddr 4 (tq 6)),
   oz (.store 1 (tq 51) (tq 50))])
 (.seq (.reg [oo 52 (.load true 5 (tq 6) true),
   oz (.store 5 (tq 4) (tq 52)),
   oo 5 (.move (.const (.sc (.int .i64 0))) false)])
 .ret))))))⟩
def zlE:Hint:=⟨[(0,0),(11,1),(12,0)],[],[none,none,none,none,none,none,none,none,none],[],[(7,1,[11,14,20])],true,true⟩
def zAa:Nat→Sh:=zay [(15,(.sl 32)),(21,(.sl 32)),(28,(.sl 35)),(35,(.sl 35)),(40,(.sl 35))]
def zzQ (yD:zbH) (zh:zP) (zu:zaz) (zf:zM) (L:Nat):CBC:=(zI 364 (zlQ zf L) (zI 355 (zhb zu L) (zI 365 (zmX zh L) (zI 362 (zkQ yD L) noC))))
def ztY {β:Type} (yD:zbH) (zh:zP) (zu:zaz) (zf:zM) (L:Nat) (p0 p1:List V) (k_fin:List V→Int→Option β):Option β :=
 chk (0+5≤(List.length p0)) (
 yD β L (List.map V.dem (List.take 5 p0)) (fun v0 =>
 ifb (!v0) (
 k_fin [(V.sc (.int .u32 (0:Int))),(V.sc (.bool false)),(V.sl 1 ([]:List (List V))),(V.sl 35 ([]:List (List V))),(V.sl 32 ([]:List (List V)))] (6:Int)) (
 cLd 32 p0 4 fun v1 =>
 chk (0+32≤(List.length p1)) (
 zh β L v1 (List.take 32 p1) (fun v2 =>
 ifb v2 (
 k_fin [(V.sc (.int .u32 (0:Int))),(V.sc (.bool false)),(V.sl 1 ([]:List (List V))),(V.sl 35 ([]:List (List V))),(V.sl 32 ([]:List (List V)))] (150:Int)) (
 cLd 32 p0 4 fun v3 =>
 ifb (decide (((List.length v3:Nat):Int) ≥ (2048:Int))) (
 k_fin [(V.sc (.int .u32 (0:Int))),(V.sc (.bool false)),(V.sl 1 ([]:List (List V))),(V.sl 35 ([]:List (List V))),(V.sl 32 ([]:List (List V)))] (380:Int)) (
 chk (0+5≤(List.length p0)) (
 zu β L (List.map V.dem (List.take 5 p0)) (fun v4 v5 v6 v7 v8 v9 v10 v11 =>
 cLd 35 p0 3 fun v12 =>
 chk (0+32≤(List.length p1)) (
 zf β L v12 (List.take 32 p1) (fun v13 =>
 ifb (decide (v13 ≥ (0:Int))) (
 cLd 35 p0 3 fun v14 =>
 chk (0≤v13∧v13≤(((List.length v14):Nat):Int)) (
 chk ((List.length ([]:List (List V))+List.length (List.take ((Int.toNat v13) - 0) (List.drop 0 v14))) * 56≤yi∧List.length ([]:List (List V))+List.length (List.take ((Int.toNat v13) - 0) (List.drop 0 v14))≤yi) (
 lt (([]:List (List V))++(List.take ((Int.toNat v13) - 0) (List.drop 0 v14))) fun l15 =>
 cLd 35 p0 3 fun v16 =>
 lt (IntKind.wrap .i64 ((v13:Int)+(1:Int))) fun x17 =>
 chk (0≤x17∧x17≤(((List.length v16):Nat):Int)) (
 chk ((List.length l15+List.length (List.take ((List.length v16) - (Int.toNat x17)) (List.drop (Int.toNat x17) v16))) * 56≤yi∧List.length l15+List.length (List.take ((List.length v16) - (Int.toNat x17)) (List.drop (Int.toNat x17) v16))≤yi) (
 lt (l15++(List.take ((List.length v16) - (Int.toNat x17)) (List.drop (Int.toNat x17) v16))) fun l18 =>
 chk (0+32≤(List.length p1)) (
 chk ((List.length (List.take 32 p1))=32∧0+32≤32) (
 chk ((v8+List.length (xb 32 1 (ya (List.replicate 32 (V.sc (.int .u8 (0:Int)))) 0 (List.take 32 p1)))) * 32≤yi∧(v8+List.length (xb 32 1 (ya (List.replicate 32 (V.sc (.int .u8 (0:Int)))) 0 (List.take 32 p1))))≤yi∧((v8+List.length (xb 32 1 (ya (List.replicate 32 (V.sc (.int .u8 (0:Int)))) 0 (List.take 32 p1))))≠0∨(List.length v11)=0)) (
 lt (List.take (v8 * 32) v11++List.flatten (xb 32 1 (ya (List.replicate 32 (V.sc (.int .u8 (0:Int)))) 0 (List.take 32 p1)))) fun r19 =>
 k_fin [(V.sc (.int .u32 v4)),(V.sc (.bool v5)),(V.sl 1 (xb 1 v6 v9)),(V.sl 35 l18),(V.sl 32 (xb 32 (v8+List.length (xb 32 1 (ya (List.replicate 32 (V.sc (.int .u8 (0:Int)))) 0 (List.take 32 p1)))) r19))] (0:Int))))))))) (
 chk (0+32≤(List.length p1)) (
 chk ((List.length (List.take 32 p1))=32∧0+32≤32) (
 chk ((v8+List.length (xb 32 1 (ya (List.replicate 32 (V.sc (.int .u8 (0:Int)))) 0 (List.take 32 p1)))) * 32≤yi∧(v8+List.length (xb 32 1 (ya (List.replicate 32 (V.sc (.int .u8 (0:Int)))) 0 (List.take 32 p1))))≤yi∧((v8+List.length (xb 32 1 (ya (List.replicate 32 (V.sc (.int .u8 (0:Int)))) 0 (List.take 32 p1))))≠0∨(List.length v11)=0)) (
 lt (List.take (v8 * 32) v11++List.flatten (xb 32 1 (ya (List.replicate 32 (V.sc (.int .u8 (0:Int)))) 0 (List.take 32 p1)))) fun r20 =>
 k_fin [(V.sc (.int .u32 v4)),(V.sc (.bool v5)),(V.sl 1 (xb 1 v6 v9)),(V.sl 35 (xb 35 v7 v10)),(V.sl 32 (xb 32 (v8+List.length (xb 32 1 (ya (List.replicate 32 (V.sc (.int .u8 (0:Int)))) 0 (List.take 32 p1)))) r20))] (0:Int))))))))))))))))
abbrev xQ:=∀ (β:Type),Nat→List V→List V→(List V→Int→Option β)→Option β
def zq (β:Type) (L:Nat) (p0 p1:List V) (k_fin:List V→Int→Option β):Option β:=ztY yD zh zu zf L p0 p1 k_fin
def ztS (zq:xQ) (L:Nat) (β:Type) (args:List V) (bor:Bor) (k:KK β):Option β:=match args,bor with
 | [a0,a1],[]=>aG a0 fun p0=>aG a1 fun p1=>zq β L p0 p1 (fun zBO zBP=>k (V.tup [(V.agg zBO),(V.sc (.int .i64 zBP))]) [])
 | _,_=>none
def zhh:CF:=⟨14,[.tmp 4],
 (.seq (.reg [oo 3 (.box true (tq 0)),
   oo 4 (.move (.const (.sc (.bool false))) false)])
 (.seq (.seq (.reg [oo 5 (.fieldAddr 34 (tq 3)),
   oo 6 (.load false 1 (tq 5) false),
   oo 7 (.load false 1 (tq 1) false),
   oo 8 (.bin .gtr (tq 6) (tq 7))])
 (.cond (tq 8)
 (.seq (.reg [oo 4 (.move (.const (.sc (.bool false))) false)])
 .ret)
 .skip))
 (.seq (.reg [oo 9 (.load false 1 (tq 2) true),
   oo 10 (.fieldAddr 0 (tq 3)),
   oo 11 (.load true 32 (tq 10) false),
   oo 12 (.buildSlice 32 1 (rp 32 (.sc (.int .u8 0)) []) [(0,32,(tq 11))]),
   oo 13 (.append 32 32 (tq 9) (tq 12)),
   oz (.store 1 (tq 2) (tq 13))])
 (.seq (.reg [oo 4 (.move (.const (.sc (.bool true))) false)])
 .ret))))⟩
def zlT:Hint:=⟨[(3,0)],[],[none,none,none],[],[],false,false⟩
def zjU:Nat→Sh:=zay [(6,(.int .u32))]
def zjJ (L:Nat):CBC:=noC
def zkM {β:Type} (L:Nat) (p0:List V) (zBI:Int) (zBG:List (List V)) (k_fin:Bool→Int→List (List V)→Option β):Option β :=
 cI .u32 p0 34 fun v0 =>
 ifb (decide (v0 > zBI)) (
 k_fin false zBI zBG) (
 chk (0+32≤(List.length p0)) (
 chk ((List.length (List.take 32 p0))=32∧0+32≤32) (
 chk ((List.length zBG+List.length (xb 32 1 (ya (List.replicate 32 (V.sc (.int .u8 (0:Int)))) 0 (List.take 32 p0)))) * 32≤yi∧List.length zBG+List.length (xb 32 1 (ya (List.replicate 32 (V.sc (.int .u8 (0:Int)))) 0 (List.take 32 p0)))≤yi) (
 lt (zBG++(xb 32 1 (ya (List.replicate 32 (V.sc (.int .u8 (0:Int)))) 0 (List.take 32 p0)))) fun l1 =>
 k_fin true zBI l1))))
theorem zq5 {β:Type} (L:Nat) (p0:List V) (zBI:Int) (zBG:List (List V)) (k:KK β):xH zjU (zjJ L) L zhh [(V.agg p0),(V.ptr 0 0),(V.ptr 1 0)] [(.live true [(V.sc (.int .u32 zBI))]),(.live false [(V.gs 32 zBG)])] k=zkM L p0 zBI zBG (fun p0 zBI zBG=>k (V.sc (.bool p0)) [(.live true [(V.sc (.int .u32 zBI))]),(.live false [(V.gs 32 zBG)])]):=by kernel_rfl
abbrev yG:=∀ (β:Type),Nat→List V→Int→List (List V)→(Bool→Int→List (List V)→Option β)→Option β
def xe (β:Type) (L:Nat) (p0:List V) (zBI:Int) (zBG:List (List V)) (k_fin:Bool→Int→List (List V)→Option β):Option β:=zkM L p0 zBI zBG k_fin
def zga (xe:yG) (L:Nat) (β:Type) (args:List V) (bor:Bor) (k:KK β):Option β:=match args,bor with
 | [a0,a1,a2],[(.live true [w0_0]),(.live false [w1_0])]=>aG a0 fun p0=>aP 0 0 a1 (aP 1 0 a2 (aI .u32 w0_0 fun zBI=>aGs 32 w1_0 fun zBG=>xe β L p0 zBI zBG (fun p0 zBI zBG=>k (V.sc (.bool p0)) [(.live true [(V.sc (.int .u32 zBI))]),(.live false [(V.gs 32 zBG)])])))
 | _,_=>none
theorem zri (L:Nat) (β:Type) (args:List V) (bor:Bor) (k:KK β) (r:β) (h:zga xe L β args bor k=some r):xH zjU (zjJ L) L zhh args bor k=some r:=by
 unfold zga at h
 split at h
 ·have q:=zdX h; clear h; obtain ⟨p0,rfl,h⟩:=q
  have q:=znk h; clear h; obtain ⟨rfl,h⟩:=q
  have q:=znk h; clear h; obtain ⟨rfl,h⟩:=q
  have q:=zcp h; clear h; obtain ⟨zBI,rfl,h⟩:=q
  have q:=zsZ h; clear h; obtain ⟨zBG,rfl,h⟩:=q
  exact (zq5 L p0 zBI zBG k).trans h
 ·cases h
end
end Go.Proofs.Ytpbbfpfmdckclaa
