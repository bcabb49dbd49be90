/- Part 9 of the proof of RelayBegins: an abstract machine over plain values, its soundness, and the functions of the program on plain values. -/
import Derived.Test.YtpbbfpfmdckclaaMRelayBegins8
namespace Go.Proofs.Ytpbbfpfmdckclaa
section
set_option maxRecDepth 100000
set_option linter.unusedVariables false
set_option linter.unusedSimpArgs false
def zeP:CC:=(.seq (.seq (.reg [oo 6 (.move (tq 5) false),
   oo 7 (.move (tq 0) false),
   oo 8 (.lenS (tq 7)),
   oo 9 (.bin .lss (tq 6) (tq 8))])
 (.cond (tq 9)
 .skip
 (.seq (.mask (bl 0 18) (bl 261831 18))
 (.exit 0))))
 (.seq (.block 1 (.seq (.dreg [] [(oo 12 (.move (tq 0) false),q0),
   (oo 13 (.move (tq 5) false),q0),
   (oo 14 (.indexAddrS 32 (tq 12) (tq 13)),q0),
   (oo 15 (.load true 32 (tq 14) false),qc [3] []),
   (oo 16 (.load true 32 (tq 3) false),ql 3 [] []),
   (oo 17 (.eqAgg false 32 (tq 15) (tq 16)),q0)])
 (.cond (tq 17)
 (.seq (.reg [oo 4 (.move (.const (.sc (.bool true))) false)])
 (.seq (.mask (bl 16 18) (bl 261847 18))
 .ret))
 .skip)))
 (.reg [oo 10 (.move (tq 5) false),
   oo 11 (.bin .add (tq 10) (.const (.sc (.int .i64 1)))),
   oo 5 (.move (tq 11) false)])))
def zjQ:CC:=(.seq (.reg [oo 4 (.move (.const (.sc (.bool false))) false)])
 .ret)
def zdP:CF:=⟨18,[.tmp 4],
 (.seq (.reg [oo 3 (.box true (tq 1)),
   oo 4 (.move (.const (.sc (.bool false))) false)])
 (.seq (.seq (.reg [oo 5 (.move (.const (.sc (.int .i64 0))) false)])
 (.block 0 (.loop (bl 41 18) (bl 261871 18)
 zeP)))
 zjQ))⟩
def zqk:Hint:=⟨[],[],[none,some ((bl 41 18),(bl 261871 18)),none,some ((bl 0 18),(bl 261831 18)),none,none,some ((bl 16 18),(bl 261847 18)),none],[],[],false,false⟩
def zby:Nat→Sh:=xZ []
def zbx (L:Nat):CBC:=noC
def zhV:St→St:=yT 0 (bl 41 18) (bl 261871 18)
def zfw (p0:List (List V)) (p5:Int) (b3:List V):St:=⟨((V.sl 32 p0)::(jn 2 ((V.ptr 3 0)::(jn 1 ((V.sc (.int .i64 p5))::(jn 12 [])))))),(gn 3 ((.live true b3)::(gn 14 [])))⟩
def zjS (p4:Bool):St:=⟨(jn 4 ((V.sc (.bool p4))::(jn 13 []))),(gn 18 [])⟩
def zkw:St:=⟨(jn 18 []),(gn 18 [])⟩
def zpE {β:Type} (L:Nat) (p0:List (List V)) (p1:List V) (k_hbaba:List (List V)→Int→List V→Option β):Option β :=
 k_hbaba p0 (0:Int) p1
theorem zvW {β:Type} (L:Nat) (p0:List (List V)) (p1:List V) (k:KK β):zK zby (zbx L) L zdP [(V.sl 32 p0),(V.agg p1)] [] k=zpE L p0 p1 (fun p0 p5 b3=>xG (zn zby (zbx L) 0 L zeP) zhV L (zfw p0 p5 b3) (yy 0 (zM (zn zby (zbx L) 0 L zjQ) (zO 0 (CF.res zdP) k)))):=by kernel_rfl
def zkM {β:Type} (L:Nat) (p0:List (List V)) (p5:Int) (b3:List V) (k_ret:Bool→Option β) (k_hbaba:List (List V)→Int→List V→Option β) (k_x0:Option β):Option β :=
 ifb (decide (p5 < ((List.length p0:Nat):Int))) (
 idx p0 p5 fun c0 =>
 chk (0+32≤(List.length b3)) (
 eqC 32 (List.take 32 c0) (List.take 32 b3) fun v1 =>
 ifb v1 (
 k_ret true) (
 lt (IntKind.wrap .i64 ((p5:Int)+(1:Int))) fun x2 =>
 k_hbaba p0 x2 b3))) (
 k_x0)
theorem zsC {β:Type} (L:Nat) (p0:List (List V)) (p5:Int) (b3:List V) (X:St→Option β) (K:KT β):zn zby (zbx L) 0 L zeP (zfw p0 p5 b3) (zbw zhV X K)=zkM L p0 p5 b3 (fun p4=>K .ret (zjS p4)) (fun p0 p5 b3=>X (zfw p0 p5 b3)) (K (.exit 0) (zkw)):=by kernel_rfl
def zib {β:Type} (L:Nat) (p4:Bool) (k_fin:Bool→Option β):Option β :=
 k_fin p4
theorem zpZ {β:Type} (L:Nat) (p4:Bool) (k:KK β):(yy 0 (zM (zn zby (zbx L) 0 L zjQ) (zO 0 (CF.res zdP) k))) .ret (zjS p4)=zib L p4 (fun p0=>k (V.sc (.bool p0)) []):=by kernel_rfl
def ziY {β:Type} (L:Nat) (k_fin:Bool→Option β):Option β :=
 k_fin false
theorem zqS {β:Type} (L:Nat) (k:KK β):(yy 0 (zM (zn zby (zbx L) 0 L zjQ) (zO 0 (CF.res zdP) k))) (.exit 0) (zkw)=ziY L (fun p0=>k (V.sc (.bool p0)) []):=by kernel_rfl
def zft {β:Type} (L:Nat) (k_ret:Bool→Option β) (k_x0:Option β):Nat→List (List V)→Int→List V→Option β
 | 0,_,_,_=>none
 | n+1,p0,p5,b3=>zkM L p0 p5 b3 k_ret (fun p0 p5 b3=>zft L k_ret k_x0 n p0 p5 b3) k_x0
theorem zmB {β:Type} (L:Nat) (K:KT β):∀ (n:Nat) (p0:List (List V)) (p5:Int) (b3:List V),xG (zn zby (zbx L) 0 L zeP) zhV n (zfw p0 p5 b3) K=zft L (fun p4=>K .ret (zjS p4)) (K (.exit 0) (zkw)) n p0 p5 b3:=by
 intro n
 induction n with
 | zero=>intros; rfl
 | succ n ih =>
  intro p0 p5 b3
  refine (zsC L p0 p5 b3 (fun σ=>xG (zn zby (zbx L) 0 L zeP) zhV n σ K) K).trans ?_
  simp only [ih]
  rfl
def zmn {β:Type} (L:Nat) (p0:List (List V)) (p1:List V) (k_fin:Bool→Option β):Option β :=
 zpE L p0 p1 (fun p0 p5 b3=>zft L (fun p4=>zib L p4 k_fin) (ziY L k_fin) L p0 p5 b3)
theorem zv0 {β:Type} (L:Nat) (p0:List (List V)) (p1:List V) (k:KK β):zK zby (zbx L) L zdP [(V.sl 32 p0),(V.agg p1)] [] k=zmn L p0 p1 (fun p0=>k (V.sc (.bool p0)) []):=by
 refine (zvW L p0 p1 k).trans ?_
 unfold zmn
 first
  | (simp only [zmB,zpZ,zqS]; done)
  | (simp only [zmB]; rfl)
abbrev zA:=∀ (β:Type),Nat→List (List V)→List V→(Bool→Option β)→Option β
def zf (β:Type) (L:Nat) (p0:List (List V)) (p1:List V) (k_fin:Bool→Option β):Option β:=zmn L p0 p1 k_fin
def zhq (zf:zA) (L:Nat) (β:Type) (args:List V) (bor:Bor) (k:KK β):Option β:=match args,bor with
 | [a0,a1],[]=>aL 32 a0 fun p0=>aG a1 fun p1=>zf β L p0 p1 (fun p0=>k (V.sc (.bool p0)) [])
 | _,_=>none
theorem zwa (L:Nat) (β:Type) (args:List V) (bor:Bor) (k:KK β) (r:β) (h:zhq zf L β args bor k=some r):zK zby (zbx L) L zdP args bor k=some r:=by
 unfold zhq at h
 split at h
 ·have q:=zaZ h; clear h; obtain ⟨p0,rfl,h⟩:=q
  have q:=zfq h; clear h; obtain ⟨p1,rfl,h⟩:=q
  exact (zv0 L p0 p1 k).trans h
 ·cases h
def zel:CC:=(.seq (.seq (.reg [oo 6 (.move (tq 5) false),
   oo 7 (.move (tq 0) false),
   oo 8 (.lenS (tq 7)),
   oo 9 (.bin .lss (tq 6) (tq 8))])
 (.cond (tq 9)
 .skip
 (.seq (.mask (bl 0 20) (bl 1048263 20))
 (.exit 0))))
 (.seq (.block 1 (.seq (.dreg [] [(oo 12 (.move (tq 0) false),q0),
   (oo 13 (.move (tq 5) false),q0),
   (oo 14 (.indexAddrS 35 (tq 12) (tq 13)),q0),
   (oo 15 (.fieldAddr 0 (tq 14)),q0),
   (oo 16 (.load true 32 (tq 15) false),qc [3] []),
   (oo 17 (.load true 32 (tq 3) false),ql 3 [] []),
   (oo 18 (.eqAgg false 32 (tq 16) (tq 17)),q0)])
 (.cond (tq 18)
 (.seq (.reg [oo 19 (.move (tq 5) false),
   oo 4 (.move (tq 19) false)])
 (.seq (.mask (bl 16 20) (bl 1048279 20))
 .ret))
 .skip)))
 (.reg [oo 10 (.move (tq 5) false),
   oo 11 (.bin .add (tq 10) (.const (.sc (.int .i64 1)))),
   oo 5 (.move (tq 11) false)])))
def ziF:CC:=(.seq (.reg [oo 4 (.move (.const (.sc (.int .i64 (-1)))) false)])
 .ret)
def zc6:CF:=⟨20,[.tmp 4],
 (.seq (.reg [oo 3 (.box true (tq 1)),
   oo 4 (.move (.const (.sc (.int .i64 0))) false)])
 (.seq (.seq (.reg [oo 5 (.move (.const (.sc (.int .i64 0))) false)])
 (.block 0 (.loop (bl 41 20) (bl 1048303 20)
 zel)))
 ziF))⟩
def zoY:Hint:=⟨[],[],[none,some ((bl 41 20),(bl 1048303 20)),none,some ((bl 0 20),(bl 1048263 20)),none,none,some ((bl 16 20),(bl 1048279 20)),none],[],[],false,false⟩
def zbd:Nat→Sh:=xZ []
def zbe (L:Nat):CBC:=noC
def zgL:St→St:=yT 0 (bl 41 20) (bl 1048303 20)
def ze6 (p0:List (List V)) (p5:Int) (b3:List V):St:=⟨((V.sl 35 p0)::(jn 2 ((V.ptr 3 0)::(jn 1 ((V.sc (.int .i64 p5))::(jn 14 [])))))),(gn 3 ((.live true b3)::(gn 16 [])))⟩
def zi3 (p4:Int):St:=⟨(jn 4 ((V.sc (.int .i64 p4))::(jn 15 []))),(gn 20 [])⟩
def zj4:St:=⟨(jn 20 []),(gn 20 [])⟩
def znY {β:Type} (L:Nat) (p0:List (List V)) (p1:List V) (k_hbaba:List (List V)→Int→List V→Option β):Option β :=
 k_hbaba p0 (0:Int) p1
theorem zuv {β:Type} (L:Nat) (p0:List (List V)) (p1:List V) (k:KK β):zK zbd (zbe L) L zc6 [(V.sl 35 p0),(V.agg p1)] [] k=znY L p0 p1 (fun p0 p5 b3=>xG (zn zbd (zbe L) 0 L zel) zgL L (ze6 p0 p5 b3) (yy 0 (zM (zn zbd (zbe L) 0 L ziF) (zO 0 (CF.res zc6) k)))):=by kernel_rfl
def zjR {β:Type} (L:Nat) (p0:List (List V)) (p5:Int) (b3:List V) (k_ret:Int→Option β) (k_hbaba:List (List V)→Int→List V→Option β) (k_x0:Option β):Option β :=
 ifb (decide (p5 < ((List.length p0:Nat):Int))) (
 idx p0 p5 fun c0 =>
 chk (0+32≤(List.length b3)) (
 eqC 32 (List.take 32 c0) (List.take 32 b3) fun v1 =>
 ifb v1 (
 k_ret p5) (
 lt (IntKind.wrap .i64 ((p5:Int)+(1:Int))) fun x2 =>
 k_hbaba p0 x2 b3))) (
 k_x0)
theorem zrp {β:Type} (L:Nat) (p0:List (List V)) (p5:Int) (b3:List V) (X:St→Option β) (K:KT β):zn zbd (zbe L) 0 L zel (ze6 p0 p5 b3) (zbw zgL X K)=zjR L p0 p5 b3 (fun p4=>K .ret (zi3 p4)) (fun p0 p5 b3=>X (ze6 p0 p5 b3)) (K (.exit 0) (zj4)):=by kernel_rfl
def zlB {β:Type} (L:Nat) (p4:Int) (k_fin:Int→Option β):Option β :=
 k_fin p4
theorem zpm {β:Type} (L:Nat) (p4:Int) (k:KK β):(yy 0 (zM (zn zbd (zbe L) 0 L ziF) (zO 0 (CF.res zc6) k))) .ret (zi3 p4)=zlB L p4 (fun p0=>k (V.sc (.int .i64 p0)) []):=by kernel_rfl
def zmQ {β:Type} (L:Nat) (k_fin:Int→Option β):Option β :=
 k_fin (-1:Int)
theorem zp5 {β:Type} (L:Nat) (k:KK β):(yy 0 (zM (zn zbd (zbe L) 0 L ziF) (zO 0 (CF.res zc6) k))) (.exit 0) (zj4)=zmQ L (fun p0=>k (V.sc (.int .i64 p0)) []):=by kernel_rfl
def ze3 {β:Type} (L:Nat) (k_ret:Int→Option β) (k_x0:Option β):Nat→List (List V)→Int→List V→Option β
 | 0,_,_,_=>none
 | n+1,p0,p5,b3=>zjR L p0 p5 b3 k_ret (fun p0 p5 b3=>ze3 L k_ret k_x0 n p0 p5 b3) k_x0
theorem zlD {β:Type} (L:Nat) (K:KT β):∀ (n:Nat) (p0:List (List V)) (p5:Int) (b3:List V),xG (zn zbd (zbe L) 0 L zel) zgL n (ze6 p0 p5 b3) K=ze3 L (fun p4=>K .ret (zi3 p4)) (K (.exit 0) (zj4)) n p0 p5 b3:=by
 intro n
 induction n with
 | zero=>intros; rfl
 | succ n ih =>
  intro p0 p5 b3
  refine (zrp L p0 p5 b3 (fun σ=>xG (zn zbd (zbe L) 0 L zel) zgL n σ K) K).trans ?_
  simp only [ih]
  rfl
def zkQ {β:Type} (L:Nat) (p0:List (List V)) (p1:List V) (k_fin:Int→Option β):Option β :=
 znY L p0 p1 (fun p0 p5 b3=>ze3 L (fun p4=>zlB L p4 k_fin) (zmQ L k_fin) L p0 p5 b3)
theorem zvu {β:Type} (L:Nat) (p0:List (List V)) (p1:List V) (k:KK β):zK zbd (zbe L) L zc6 [(V.sl 35 p0),(V.agg p1)] [] k=zkQ L p0 p1 (fun p0=>k (V.sc (.int .i64 p0)) []):=by
 refine (zuv L p0 p1 k).trans ?_
 unfold zkQ
 first
  | (simp only [zlD,zpm,zp5]; done)
  | (simp only [zlD]; rfl)
abbrev yx:=∀ (β:Type),Nat→List (List V)→List V→(Int→Option β)→Option β
def zd (β:Type) (L:Nat) (p0:List (List V)) (p1:List V) (k_fin:Int→Option β):Option β:=zkQ L p0 p1 k_fin
def zgo (zd:yx) (L:Nat) (β:Type) (args:List V) (bor:Bor) (k:KK β):Option β:=match args,bor with
 | [a0,a1],[]=>aL 35 a0 fun p0=>aG a1 fun p1=>zd β L p0 p1 (fun p0=>k (V.sc (.int .i64 p0)) [])
 | _,_=>none
theorem zuW (L:Nat) (β:Type) (args:List V) (bor:Bor) (k:KK β) (r:β) (h:zgo zd L β args bor k=some r):zK zbd (zbe L) L zc6 args bor k=some r:=by
 unfold zgo at h
 split at h
 ·have q:=zaZ h; clear h; obtain ⟨p0,rfl,h⟩:=q
  have q:=zfq h; clear h; obtain ⟨p1,rfl,h⟩:=q
  exact (zvu L p0 p1 k).trans h
 ·cases h
def zcs:CC:=(.seq (.seq (.reg [oo 67 (.move (tq 5) false),
   oo 68 (.fieldAddr 3 (tq 1)),
   oo 69 (.load false 1 (tq 68) false),
   oo 70 (.lenS (tq 69)),
   oo 71 (.bin .lss (tq 67) (tq 70))])
 (.cond (tq 71)
 .skip
 (.seq (.mask (bl 0 96) (bl 59416285001828173961047834585 96))
 (.exit 4))))
 (.seq (.block 5 (.seq (.dreg [] [(oo 74 (.fieldAddr 3 (tq 1)),q0),
   (oo 75 (.load false 1 (tq 74) false),ql 1 [] []),
   (oo 76 (.fieldAddr 3 (tq 1)),q0),
   (oo 77 (.load false 1 (tq 76) false),ql 1 [] []),
   (oo 78 (.move (tq 5) false),q0),
   (oo 79 (.indexAddrS 35 (tq 77) (tq 78)),q0),
   (oo 80 (.fieldAddr 0 (tq 79)),q0),
   (oo 81 (.load true 32 (tq 80) false),qc [1] []),
   (oo 82 (.call 364 [((tq 75),0),((tq 81),0)] []),q0),
   (oo 83 (.move (tq 5) false),q0),
   (oo 84 (.bin .neq (tq 82) (tq 83)),q0),
   (oo 85 (.move (tq 84) false),q0),
   (⟨(some 86),false,(some (85,false)),.fieldAddr 4 (tq 1)⟩,q0),
   (⟨(some 87),false,(some (85,false)),.load false 1 (tq 86) false⟩,ql 1 [] []),
   (⟨(some 88),false,(some (85,false)),.fieldAddr 3 (tq 1)⟩,q0),
   (⟨(some 89),false,(some (85,false)),.load false 1 (tq 88) false⟩,ql 1 [] []),
   (⟨(some 90),false,(some (85,false)),.move (tq 5) false⟩,q0),
   (⟨(some 91),false,(some (85,false)),.indexAddrS 35 (tq 89) (tq 90)⟩,q0),
   (⟨(some 92),false,(some (85,false)),.fieldAddr 0 (tq 91)⟩,q0),
   (⟨(some 93),false,(some (85,false)),.load true 32 (tq 92) false⟩,qc [1] []),
   (⟨(some 94),false,(some (85,false)),.call 365 [((tq 87),0),((tq 93),0)] []⟩,q0),
   (oo 95 (.pick (tq 85) (.const (.sc (.bool true))) (tq 94)),q0)])
 (.cond (tq 95)
 (.seq (.reg [oo 2 (.move (.const (.sc (.bool false))) false)])
 (.seq (.mask (bl 4 96) (bl 59416285001828173961047834589 96))
 .ret))
 .skip)))
 (.reg [oo 72 (.move (tq 5) false),
   oo 73 (.bin .add (tq 72) (.const (.sc (.int .i64 1)))),
   oo 5 (.move (tq 73) false)])))
def zcQ:CC:=(.seq (.seq (.reg [oo 50 (.move (tq 4) false),
   oo 51 (.fieldAddr 4 (tq 1)),
   oo 52 (.load false 1 (tq 51) false),
   oo 53 (.lenS (tq 52)),
   oo 54 (.bin .lss (tq 50) (tq 53))])
 (.cond (tq 54)
 .skip
 (.seq (.mask (bl 2 96) (bl 79228162440468354099451002859 96))
 (.exit 2))))
 (.seq (.block 3 (.seq (.dreg [] [(oo 57 (.fieldAddr 4 (tq 1)),q0),
   (oo 58 (.load false 1 (tq 57) false),ql 1 [] []),
   (oo 59 (.move (tq 4) false),q0),
   (oo 60 (.sliceS 32 (tq 58) none (some (tq 59)) none),q0),
   (oo 61 (.fieldAddr 4 (tq 1)),q0),
   (oo 62 (.load false 1 (tq 61) false),ql 1 [] []),
   (oo 63 (.move (tq 4) false),q0),
   (oo 64 (.indexAddrS 32 (tq 62) (tq 63)),q0),
   (oo 65 (.load true 32 (tq 64) false),qc [1] []),
   (oo 66 (.call 365 [((tq 60),0),((tq 65),0)] []),q0)])
 (.cond (tq 66)
 (.seq (.reg [oo 2 (.move (.const (.sc (.bool false))) false)])
 (.seq (.mask (bl 4 96) (bl 79228162440468354099451002861 96))
 .ret))
 .skip)))
 (.reg [oo 55 (.move (tq 4) false),
   oo 56 (.bin .add (tq 55) (.const (.sc (.int .i64 1)))),
   oo 4 (.move (tq 56) false)])))
def zdk:CC:=(.seq (.seq (.reg [oo 22 (.move (tq 3) false),
   oo 23 (.fieldAddr 2 (tq 1)),
   oo 24 (.load false 1 (tq 23) false),
   oo 25 (.lenS (tq 24)),
   oo 26 (.bin .lss (tq 22) (tq 25))])
 (.cond (tq 26)
 .skip
 (.seq (.mask (bl 2 96) (bl 79228162514264337593510395891 96))
 (.exit 0))))
 (.seq (.block 1 (.seq (.dreg [] [(oo 29 (.fieldAddr 2 (tq 1)),q0),
   (oo 30 (.load false 1 (tq 29) false),q0),
   (oo 31 (.move (tq 3) false),q0),
   (oo 32 (.indexAddrS 1 (tq 30) (tq 31)),q0),
   (oo 33 (.load false 1 (tq 32) false),q0),
   (oo 34 (.bin .lss (tq 33) (.const (.sc (.int .i64 0)))),q0),
   (oo 35 (.move (tq 34) false),q0),
   (⟨(some 36),false,(some (35,false)),.move (tq 3) false⟩,q0),
   (⟨(some 37),false,(some (35,false)),.bin .gtr (tq 36) (.const (.sc (.int .i64 0)))⟩,q0),
   (⟨(some 38),false,(some (35,false)),.move (tq 37) false⟩,q0),
   (⟨(some 39),false,(some (38,true)),.fieldAddr 2 (tq 1)⟩,q0),
   (⟨(some 40),false,(some (38,true)),.load false 1 (tq 39) false⟩,ql 1 [] []),
   (⟨(some 41),false,(some (38,true)),.indexAddrS 1 (tq 40) (.const (.sc (.int .i64 0)))⟩,q0),
   (⟨(some 42),false,(some (38,true)),.load false 1 (tq 41) false⟩,qc [1] []),
   (⟨(some 43),false,(some (38,true)),.fieldAddr 2 (tq 1)⟩,q0),
   (⟨(some 44),false,(some (38,true)),.load false 1 (tq 43) false⟩,ql 1 [] []),
   (⟨(some 45),false,(some (38,true)),.indexAddrS 1 (tq 44) (.const (.sc (.int .i64 1)))⟩,q0),
   (⟨(some 46),false,(some (38,true)),.load false 1 (tq 45) false⟩,qc [1] []),
   (⟨(some 47),false,(some (38,true)),.bin .eql (tq 42) (tq 46)⟩,q0),
   (⟨(some 48),false,(some (35,false)),.pick (tq 38) (tq 47) (.const (.sc (.bool false)))⟩,q0),
   (oo 49 (.pick (tq 35) (.const (.sc (.bool true))) (tq 48)),q0)])
 (.cond (tq 49)
 (.seq (.reg [oo 2 (.move (.const (.sc (.bool false))) false)])
 (.seq (.mask (bl 4 96) (bl 79228162514264337593510395893 96))
 .ret))
 .skip)))
 (.reg [oo 27 (.move (tq 3) false),
   oo 28 (.bin .add (tq 27) (.const (.sc (.int .i64 1)))),
   oo 3 (.move (tq 28) false)])))
def zfE:CC:=(.seq (.reg [oo 2 (.move (.const (.sc (.bool true))) false)])
 .ret)
def zeo:CC:=(.seq (.seq (.reg [oo 5 (.move (.const (.sc (.int .i64 0))) false)])
 (.block 4 (.loop (bl 34 96) (bl 59416285001828173961047834619 96)
 zcs)))
 zfE)
def zeS:CC:=(.seq (.seq (.reg [oo 4 (.move (.const (.sc (.int .i64 0))) false)])
 (.block 2 (.loop (bl 18 96) (bl 79228162440468354099451002875 96)
 zcQ)))
 zeo)
def yU:CF:=⟨96,[.tmp 2],
 (.seq (.reg [oo 1 (.box true (tq 0)),
   oo 2 (.move (.const (.sc (.bool false))) false)])
 (.seq (.seq (.reg [oo 6 (.fieldAddr 2 (tq 1)),
   oo 7 (.load false 1 (tq 6) false),
   oo 8 (.lenS (tq 7)),
   oo 9 (.bin .gtr (tq 8) (.const (.sc (.int .i64 2)))),
   oo 10 (.move (tq 9) false),
   ⟨(some 11),false,(some (10,false)),.fieldAddr 3 (tq 1)⟩,
   ⟨(some 12),false,(some (10,false)),.load false 1 (tq 11) false⟩,
   ⟨(some 13),false,(some (10,false)),.lenS (tq 12)⟩,
   ⟨(some 14),false,(some (10,false)),.bin .gtr (tq 13) (.const (.sc (.int .i64 64)))⟩,
   oo 15 (.pick (tq 10) (.const (.sc (.bool true))) (tq 14)),
   oo 16 (.move (tq 15) false),
   ⟨(some 17),false,(some (16,false)),.fieldAddr 4 (tq 1)⟩,
   ⟨(some 18),false,(some (16,false)),.load false 1 (tq 17) false⟩,
   ⟨(some 19),false,(some (16,false)),.lenS (tq 18)⟩,
   ⟨(some 20),false,(some (16,false)),.bin .gtr (tq 19) (.const (.sc (.int .i64 2048)))⟩,
   oo 21 (.pick (tq 16) (.const (.sc (.bool true))) (tq 20))])
 (.cond (tq 21)
 (.seq (.reg [oo 2 (.move (.const (.sc (.bool false))) false)])
 .ret)
 .skip))
 (.seq (.seq (.reg [oo 3 (.move (.const (.sc (.int .i64 0))) false)])
 (.block 0 (.loop (bl 10 96) (bl 79228162514264337593510395899 96)
 zdk)))
 zeS)))⟩
def zod:Hint:=⟨[(0,0)],[],[none,none,none,some ((bl 10 96),(bl 79228162514264337593510395899 96)),none,some ((bl 2 96),(bl 79228162514264337593510395891 96)),none,none,some ((bl 4 96),(bl 79228162514264337593510395893 96)),none,some ((bl 18 96),(bl 79228162440468354099451002875 96)),none,some ((bl 2 96),(bl 79228162440468354099451002859 96)),none,none,some ((bl 4 96),(bl 79228162440468354099451002861 96)),none,some ((bl 34 96),(bl 59416285001828173961047834619 96)),none,some ((bl 0 96),(bl 59416285001828173961047834585 96)),none,none,some ((bl 4 96),(bl 59416285001828173961047834589 96)),none],[],[],false,false⟩
def xD:Nat→Sh:=xZ [(7,(.sl 1)),(12,(.sl 35)),(18,(.sl 32)),(24,(.sl 1)),(30,(.sl 1)),(33,(.int .i64)),(40,(.sl 1)),(42,(.int .i64)),(44,(.sl 1)),(46,(.int .i64)),(52,(.sl 32)),(58,(.sl 32)),(62,(.sl 32)),(69,(.sl 35)),(75,(.sl 35)),(77,(.sl 35)),(87,(.sl 32)),(89,(.sl 35))]
def zD (zf:zA) (zd:yx) (L:Nat):CBC:=(xB 364 (zgo zd L) (xB 365 (zhq zf L) noC))
def zfG:St→St:=yT 0 (bl 10 96) (bl 79228162514264337593510395899 96)
def zfa:St→St:=yT 0 (bl 18 96) (bl 79228162440468354099451002875 96)
def zez:St→St:=yT 0 (bl 34 96) (bl 59416285001828173961047834619 96)
def zd4 (p3:Int) (b1:List V):St:=⟨(jn 1 ((V.ptr 1 0)::(jn 1 ((V.sc (.int .i64 p3))::(jn 92 []))))),(gn 1 ((.live true b1)::(gn 94 [])))⟩
def zaB (p2:Bool):St:=⟨(jn 2 ((V.sc (.bool p2))::(jn 93 []))),(gn 96 [])⟩
def zfX (b1:List V):St:=⟨(jn 1 ((V.ptr 1 0)::(jn 94 []))),(gn 1 ((.live true b1)::(gn 94 [])))⟩
def zdz (p4:Int) (b1:List V):St:=⟨(jn 1 ((V.ptr 1 0)::(jn 2 ((V.sc (.int .i64 p4))::(jn 91 []))))),(gn 1 ((.live true b1)::(gn 94 [])))⟩
def zf0 (b1:List V):St:=⟨(jn 1 ((V.ptr 1 0)::(jn 94 []))),(gn 1 ((.live true b1)::(gn 94 [])))⟩
def zdf (p5:Int) (b1:List V):St:=⟨(jn 1 ((V.ptr 1 0)::(jn 3 ((V.sc (.int .i64 p5))::(jn 90 []))))),(gn 1 ((.live true b1)::(gn 94 [])))⟩
def zi1:St:=⟨(jn 96 []),(gn 96 [])⟩
def zmY {β:Type} (zf:zA) (zd:yx) (L:Nat) (p0:List V) (k_fin:Bool→Option β) (k_hbbaba:Int→List V→Option β):Option β :=
 cLd 1 p0 2 fun v0 =>
 ifb (decide (((List.length v0:Nat):Int) > (2:Int))) (
 k_fin false) (
 cLd 35 p0 3 fun v1 =>
 ifb (decide (((List.length v1:Nat):Int) > (64:Int))) (
 k_fin false) (
 cLd 32 p0 4 fun v2 =>
 ifb (decide (((List.length v2:Nat):Int) > (2048:Int))) (
 k_fin false) (
 k_hbbaba (0:Int) p0)))
theorem zui {β:Type} (zf:zA) (zd:yx) (L:Nat) (p0:List V) (k:KK β):zK xD (zD zf zd L) L yU [(V.agg p0)] [] k=zmY zf zd L p0 (fun p0=>k (V.sc (.bool p0)) []) (fun p3 b1=>xG (zn xD (zD zf zd L) 0 L zdk) zfG L (zd4 p3 b1) (yy 0 (zM (zn xD (zD zf zd L) 0 L zeS) (zO 0 (CF.res yU) k)))):=by kernel_rfl
def xO {β:Type} (zf:zA) (zd:yx) (L:Nat) (p3:Int) (b1:List V) (k_ret:Bool→Option β) (k_hbbaba:Int→List V→Option β) (k_x0:List V→Option β):Option β :=
 cLd 1 b1 2 fun v3 =>
 ifb (decide (p3 < ((List.length v3:Nat):Int))) (
 cLd 1 b1 2 fun v4 =>
 idx v4 p3 fun c5 =>
 cI .i64 c5 0 fun v6 =>
 ifb (decide (v6 < (0:Int))) (
 k_ret false) (
 ifb (decide (p3 > (0:Int))) (
 cLd 1 b1 2 fun v7 =>
 idx v7 (0:Int) fun c8 =>
 cI .i64 c8 0 fun v9 =>
 cLd 1 b1 2 fun v10 =>
 idx v10 (1:Int) fun c11 =>
 cI .i64 c11 0 fun v12 =>
 ifb ((v9:Int) == v12) (
 k_ret false) (
 lt (IntKind.wrap .i64 ((p3:Int)+(1:Int))) fun x13 =>
 k_hbbaba x13 b1)) (
 lt (IntKind.wrap .i64 ((p3:Int)+(1:Int))) fun x14 =>
 k_hbbaba x14 b1))) (
 k_x0 b1)
theorem zqi {β:Type} (zf:zA) (zd:yx) (L:Nat) (p3:Int) (b1:List V) (X:St→Option β) (K:KT β):zn xD (zD zf zd L) 0 L zdk (zd4 p3 b1) (zbw zfG X K)=xO zf zd L p3 b1 (fun p2=>K .ret (zaB p2)) (fun p3 b1=>X (zd4 p3 b1)) (fun b1=>K (.exit 0) (zfX b1)):=by kernel_rfl
def zL {β:Type} (zf:zA) (zd:yx) (L:Nat) (p2:Bool) (k_fin:Bool→Option β):Option β :=
 k_fin p2
theorem zok {β:Type} (zf:zA) (zd:yx) (L:Nat) (p2:Bool) (k:KK β):(yy 0 (zM (zn xD (zD zf zd L) 0 L zeS) (zO 0 (CF.res yU) k))) .ret (zaB p2)=zL zf zd L p2 (fun p0=>k (V.sc (.bool p0)) []):=by kernel_rfl
def zgK {β:Type} (zf:zA) (zd:yx) (L:Nat) (b1:List V) (k_hbbbaba:Int→List V→Option β):Option β :=
 k_hbbbaba (0:Int) b1
theorem zoF {β:Type} (zf:zA) (zd:yx) (L:Nat) (b1:List V) (k:KK β):(yy 0 (zM (zn xD (zD zf zd L) 0 L zeS) (zO 0 (CF.res yU) k))) (.exit 0) (zfX b1)=zgK zf zd L b1 (fun p4 b1=>xG (zn xD (zD zf zd L) 0 L zcQ) zfa L (zdz p4 b1) (yy 2 (zM (zn xD (zD zf zd L) 0 L zeo) (zO 0 (CF.res yU) k)))):=by kernel_rfl
def zhw {β:Type} (zf:zA) (zd:yx) (L:Nat) (p4:Int) (b1:List V) (k_ret:Bool→Option β) (k_hbbbaba:Int→List V→Option β) (k_x2:List V→Option β):Option β :=
 cLd 32 b1 4 fun v15 =>
 ifb (decide (p4 < ((List.length v15:Nat):Int))) (
 cLd 32 b1 4 fun v16 =>
 chk (0≤p4∧p4≤(((List.length v16):Nat):Int)) (
 cLd 32 b1 4 fun v17 =>
 idx v17 p4 fun c18 =>
 zf β L (List.take ((Int.toNat p4) - 0) (List.drop 0 v16)) (List.take 32 c18) (fun v19 =>
 ifb v19 (
 k_ret false) (
 lt (IntKind.wrap .i64 ((p4:Int)+(1:Int))) fun x20 =>
 k_hbbbaba x20 b1)))) (
 k_x2 b1)
theorem zpz {β:Type} (zf:zA) (zd:yx) (L:Nat) (p4:Int) (b1:List V) (X:St→Option β) (K:KT β):zn xD (zD zf zd L) 0 L zcQ (zdz p4 b1) (zbw zfa X K)=zhw zf zd L p4 b1 (fun p2=>K .ret (zaB p2)) (fun p4 b1=>X (zdz p4 b1)) (fun b1=>K (.exit 2) (zf0 b1)):=by kernel_rfl
def zjB {β:Type} (zf:zA) (zd:yx) (L:Nat) (p2:Bool) (k_fin:Bool→Option β):Option β :=
 k_fin p2
theorem znv {β:Type} (zf:zA) (zd:yx) (L:Nat) (p2:Bool) (k:KK β):(yy 2 (zM (zn xD (zD zf zd L) 0 L zeo) (zO 0 (CF.res yU) k))) .ret (zaB p2)=zjB zf zd L p2 (fun p0=>k (V.sc (.bool p0)) []):=by kernel_rfl
def zgc {β:Type} (zf:zA) (zd:yx) (L:Nat) (b1:List V) (k_hbbbbaba:Int→List V→Option β):Option β :=
 k_hbbbbaba (0:Int) b1
theorem zos {β:Type} (zf:zA) (zd:yx) (L:Nat) (b1:List V) (k:KK β):(yy 2 (zM (zn xD (zD zf zd L) 0 L zeo) (zO 0 (CF.res yU) k))) (.exit 2) (zf0 b1)=zgc zf zd L b1 (fun p5 b1=>xG (zn xD (zD zf zd L) 0 L zcs) zez L (zdf p5 b1) (yy 4 (zM (zn xD (zD zf zd L) 0 L zfE) (zO 0 (CF.res yU) k)))):=by kernel_rfl
def zgU {β:Type} (zf:zA) (zd:yx) (L:Nat) (p5:Int) (b1:List V) (k_ret:Bool→Option β) (k_hbbbbaba:Int→List V→Option β) (k_x4:Option β):Option β :=
 cLd 35 b1 3 fun v21 =>
 ifb (decide (p5 < ((List.length v21:Nat):Int))) (
 cLd 35 b1 3 fun v22 =>
 cLd 35 b1 3 fun v23 =>
 idx v23 p5 fun c24 =>
 zd β L v22 (List.take 32 c24) (fun v25 =>
 ifb ((v25:Int) != p5) (
 k_ret false) (
 cLd 32 b1 4 fun v26 =>
 cLd 35 b1 3 fun v27 =>
 idx v27 p5 fun c28 =>
 zf β L v26 (List.take 32 c28) (fun v29 =>
 ifb v29 (
 k_ret false) (
 lt (IntKind.wrap .i64 ((p5:Int)+(1:Int))) fun x30 =>
 k_hbbbbaba x30 b1))))) (
 k_x4)
theorem zoN {β:Type} (zf:zA) (zd:yx) (L:Nat) (p5:Int) (b1:List V) (X:St→Option β) (K:KT β):zn xD (zD zf zd L) 0 L zcs (zdf p5 b1) (zbw zez X K)=zgU zf zd L p5 b1 (fun p2=>K .ret (zaB p2)) (fun p5 b1=>X (zdf p5 b1)) (K (.exit 4) (zi1)):=by kernel_rfl
def ziR {β:Type} (zf:zA) (zd:yx) (L:Nat) (p2:Bool) (k_fin:Bool→Option β):Option β :=
 k_fin p2
theorem zm1 {β:Type} (zf:zA) (zd:yx) (L:Nat) (p2:Bool) (k:KK β):(yy 4 (zM (zn xD (zD zf zd L) 0 L zfE) (zO 0 (CF.res yU) k))) .ret (zaB p2)=ziR zf zd L p2 (fun p0=>k (V.sc (.bool p0)) []):=by kernel_rfl
def zjv {β:Type} (zf:zA) (zd:yx) (L:Nat) (k_fin:Bool→Option β):Option β :=
 k_fin true
theorem znx {β:Type} (zf:zA) (zd:yx) (L:Nat) (k:KK β):(yy 4 (zM (zn xD (zD zf zd L) 0 L zfE) (zO 0 (CF.res yU) k))) (.exit 4) (zi1)=zjv zf zd L (fun p0=>k (V.sc (.bool p0)) []):=by kernel_rfl
def zaA {β:Type} (zf:zA) (zd:yx) (L:Nat) (k_ret:Bool→Option β) (k_x0:List V→Option β):Nat→Int→List V→Option β
 | 0,_,_=>none
 | n+1,p3,b1=>xO zf zd L p3 b1 k_ret (fun p3 b1=>zaA zf zd L k_ret k_x0 n p3 b1) k_x0
theorem zkn {β:Type} (zf:zA) (zd:yx) (L:Nat) (K:KT β):∀ (n:Nat) (p3:Int) (b1:List V),xG (zn xD (zD zf zd L) 0 L zdk) zfG n (zd4 p3 b1) K=zaA zf zd L (fun p2=>K .ret (zaB p2)) (fun b1=>K (.exit 0) (zfX b1)) n p3 b1:=by
 intro n
 induction n with
 | zero=>intros; rfl
 | succ n ih =>
  intro p3 b1
  refine (zqi zf zd L p3 b1 (fun σ=>xG (zn xD (zD zf zd L) 0 L zdk) zfG n σ K) K).trans ?_
  simp only [ih]
  rfl
def zdi {β:Type} (zf:zA) (zd:yx) (L:Nat) (k_ret:Bool→Option β) (k_x2:List V→Option β):Nat→Int→List V→Option β
 | 0,_,_=>none
 | n+1,p4,b1=>zhw zf zd L p4 b1 k_ret (fun p4 b1=>zdi zf zd L k_ret k_x2 n p4 b1) k_x2
theorem zjr {β:Type} (zf:zA) (zd:yx) (L:Nat) (K:KT β):∀ (n:Nat) (p4:Int) (b1:List V),xG (zn xD (zD zf zd L) 0 L zcQ) zfa n (zdz p4 b1) K=zdi zf zd L (fun p2=>K .ret (zaB p2)) (fun b1=>K (.exit 2) (zf0 b1)) n p4 b1:=by
 intro n
 induction n with
 | zero=>intros; rfl
 | succ n ih =>
  intro p4 b1
  refine (zpz zf zd L p4 b1 (fun σ=>xG (zn xD (zD zf zd L) 0 L zcQ) zfa n σ K) K).trans ?_
  simp only [ih]
  rfl
def zcE {β:Type} (zf:zA) (zd:yx) (L:Nat) (k_ret:Bool→Option β) (k_x4:Option β):Nat→Int→List V→Option β
 | 0,_,_=>none
 | n+1,p5,b1=>zgU zf zd L p5 b1 k_ret (fun p5 b1=>zcE zf zd L k_ret k_x4 n p5 b1) k_x4
theorem ziU {β:Type} (zf:zA) (zd:yx) (L:Nat) (K:KT β):∀ (n:Nat) (p5:Int) (b1:List V),xG (zn xD (zD zf zd L) 0 L zcs) zez n (zdf p5 b1) K=zcE zf zd L (fun p2=>K .ret (zaB p2)) (K (.exit 4) (zi1)) n p5 b1:=by
 intro n
 induction n with
 | zero=>intros; rfl
 | succ n ih =>
  intro p5 b1
  refine (zoN zf zd L p5 b1 (fun σ=>xG (zn xD (zD zf zd L) 0 L zcs) zez n σ K) K).trans ?_
  simp only [ih]
  rfl
def zdB {β:Type} (zf:zA) (zd:yx) (L:Nat) (b1:List V) (k_fin:Bool→Option β):Option β :=
 zgc zf zd L b1 (fun p5 b1=>zcE zf zd L (fun p2=>ziR zf zd L p2 k_fin) (zjv zf zd L k_fin) L p5 b1)
theorem zns {β:Type} (zf:zA) (zd:yx) (L:Nat) (b1:List V) (k:KK β):(yy 2 (zM (zn xD (zD zf zd L) 0 L zeo) (zO 0 (CF.res yU) k))) (.exit 2) (zf0 b1)=zdB zf zd L b1 (fun p0=>k (V.sc (.bool p0)) []):=by
 refine (zos zf zd L b1 k).trans ?_
 unfold zdB
 first
  | (simp only [ziU,zm1,znx]; done)
  | (simp only [ziU]; rfl)
def yF {β:Type} (zf:zA) (zd:yx) (L:Nat) (b1:List V) (k_fin:Bool→Option β):Option β :=
 zgK zf zd L b1 (fun p4 b1=>zdi zf zd L (fun p2=>zjB zf zd L p2 k_fin) (fun b1=>zdB zf zd L b1 k_fin) L p4 b1)
theorem znZ {β:Type} (zf:zA) (zd:yx) (L:Nat) (b1:List V) (k:KK β):(yy 0 (zM (zn xD (zD zf zd L) 0 L zeS) (zO 0 (CF.res yU) k))) (.exit 0) (zfX b1)=yF zf zd L b1 (fun p0=>k (V.sc (.bool p0)) []):=by
 refine (zoF zf zd L b1 k).trans ?_
 unfold yF
 first
  | (simp only [zjr,znv,zns]; done)
  | (simp only [zjr]; rfl)
def zjD {β:Type} (zf:zA) (zd:yx) (L:Nat) (p0:List V) (k_fin:Bool→Option β):Option β :=
 zmY zf zd L p0 k_fin (fun p3 b1=>zaA zf zd L (fun p2=>zL zf zd L p2 k_fin) (fun b1=>yF zf zd L b1 k_fin) L p3 b1)
theorem zt4 {β:Type} (zf:zA) (zd:yx) (L:Nat) (p0:List V) (k:KK β):zK xD (zD zf zd L) L yU [(V.agg p0)] [] k=zjD zf zd L p0 (fun p0=>k (V.sc (.bool p0)) []):=by
 refine (zui zf zd L p0 k).trans ?_
 unfold zjD
 first
  | (simp only [zkn,zok,znZ]; done)
  | (simp only [zkn]; rfl)
abbrev xz:=∀ (β:Type),Nat→List V→(Bool→Option β)→Option β
def zg (β:Type) (L:Nat) (p0:List V) (k_fin:Bool→Option β):Option β:=zjD zf zd L p0 k_fin
def zd8 (zg:xz) (L:Nat) (β:Type) (args:List V) (bor:Bor) (k:KK β):Option β:=match args,bor with
 | [a0],[]=>aG a0 fun p0=>zg β L p0 (fun p0=>k (V.sc (.bool p0)) [])
 | _,_=>none
theorem ztW (L:Nat) (β:Type) (args:List V) (bor:Bor) (k:KK β) (r:β) (h:zd8 zg L β args bor k=some r):zK xD (zD zf zd L) L yU args bor k=some r:=by
 unfold zd8 at h
 split at h
 ·have q:=zfq h; clear h; obtain ⟨p0,rfl,h⟩:=q
  exact (zt4 zf zd L p0 k).trans h
 ·cases h
def ziN:CF:=⟨43,[.tmp 4],
 (.seq (.reg [oo 2 (.box true (tq 0)),
   oo 4 (.move (.const (.sc (.int .i64 0))) false)])
 (.seq (.reg [oo 7 (.fieldAddr 2 (tq 2)),
   oo 8 (.load false 1 (tq 7) false),
   oo 9 (.lenS (tq 8)),
   oo 5 (.move (tq 9) false)])
 (.seq (.seq (.reg [oo 10 (.move (tq 5) false),
   oo 11 (.bin .eql (tq 10) (.const (.sc (.int .i64 0))))])
 (.cond (tq 11)
 (.seq (.reg [oo 4 (.move (.const (.sc (.int .i64 (-1)))) false)])
 .ret)
 .skip))
 (.seq (.reg [oo 6 (.move (.const (.sc (.int .i64 0))) false)])
 (.seq (.seq (.reg [oo 12 (.move (tq 5) false),
   oo 13 (.bin .gtr (tq 12) (.const (.sc (.int .i64 1)))),
   oo 14 (.move (tq 13) false),
   ⟨(some 15),false,(some (14,true)),.move (tq 1) false⟩,
   ⟨(some 16),false,(some (14,true)),.bin .neq (tq 15) (.const (.sc (.int .i64 (-1))))⟩,
   oo 17 (.pick (tq 14) (tq 16) (.const (.sc (.bool false)))),
   oo 18 (.move (tq 17) false),
   ⟨(some 19),false,(some (18,true)),.move (tq 1) false⟩,
   ⟨(some 20),false,(some (18,true)),.bin .rem (tq 19) (.const (.sc (.int .i64 2)))⟩,
   ⟨(some 21),false,(some (18,true)),.bin .neq (tq 20) (.const (.sc (.int .i64 0)))⟩,
   oo 22 (.pick (tq 18) (tq 21) (.const (.sc (.bool false))))])
 (.cond (tq 22)
 (.reg [oo 6 (.move (.const (.sc (.int .i64 1))) false)])
 .skip))
 (.seq (.seq (.reg [oo 23 (.fieldAddr 2 (tq 2)),
   oo 24 (.load false 1 (tq 23) false),
   oo 25 (.move (tq 6) false),
   oo 26 (.indexAddrS 1 (tq 24) (tq 25)),
   oo 27 (.load false 1 (tq 26) false),
   oo 28 (.move (tq 1) false),
   oo 29 (.bin .neq (tq 27) (tq 28))])
 (.cond (tq 29)
 (.seq (.reg [oo 30 (.fieldAddr 2 (tq 2)),
   oo 31 (.load false 1 (tq 30) false),
   oo 32 (.move (tq 6) false),
   oo 33 (.indexAddrS 1 (tq 31) (tq 32)),
   oo 34 (.load false 1 (tq 33) false),
   oo 4 (.move (tq 34) false)])
 .ret)
 .skip))
 (.seq (.seq (.reg [oo 35 (.move (tq 5) false),
   oo 36 (.bin .eql (tq 35) (.const (.sc (.int .i64 1))))])
 (.cond (tq 36)
 (.seq (.reg [oo 4 (.move (.const (.sc (.int .i64 (-1)))) false)])
 .ret)
 .skip))
 (.seq (.reg [oo 37 (.fieldAddr 2 (tq 2)),
   oo 38 (.load false 1 (tq 37) false),
   oo 39 (.move (tq 6) false),
   oo 40 (.bin .sub (.const (.sc (.int .i64 1))) (tq 39)),
   oo 41 (.indexAddrS 1 (tq 38) (tq 40)),
   oo 42 (.load false 1 (tq 41) false),
   oo 4 (.move (tq 42) false)])
 .ret))))))))⟩
def zov:Hint:=⟨[(0,0)],[],[none,none,none,none,none,none,none,none],[],[],false,false⟩
def zlU:Nat→Sh:=xZ [(8,(.sl 1)),(24,(.sl 1)),(27,(.int .i64)),(31,(.sl 1)),(34,(.int .i64)),(38,(.sl 1)),(42,(.int .i64))]
def zma (L:Nat):CBC:=noC
def zmR {β:Type} (L:Nat) (p0:List V) (p1:Int) (k_fin:Int→Option β):Option β :=
 cLd 1 p0 2 fun v0 =>
 ifb ((((List.length v0:Nat):Int):Int) == (0:Int)) (
 k_fin (-1:Int)) (
 ifb (decide (((List.length v0:Nat):Int) > (1:Int))) (
 ifb ((p1:Int) != (-1:Int)) (
 lt (Int.tmod p1 (2:Int)) fun x1 =>
 ifb ((x1:Int) != (0:Int)) (
 cLd 1 p0 2 fun v2 =>
 idx v2 (1:Int) fun c3 =>
 cI .i64 c3 0 fun v4 =>
 ifb ((v4:Int) != p1) (
 cLd 1 p0 2 fun v5 =>
 idx v5 (1:Int) fun c6 =>
 cI .i64 c6 0 fun v7 =>
 k_fin v7) (
 ifb ((((List.length v0:Nat):Int):Int) == (1:Int)) (
 k_fin (-1:Int)) (
 cLd 1 p0 2 fun v8 =>
 lt (IntKind.wrap .i64 (((1:Int):Int) - (1:Int))) fun x9 =>
 idx v8 x9 fun c10 =>
 cI .i64 c10 0 fun v11 =>
 k_fin v11))) (
 cLd 1 p0 2 fun v12 =>
 idx v12 (0:Int) fun c13 =>
 cI .i64 c13 0 fun v14 =>
 ifb ((v14:Int) != p1) (
 cLd 1 p0 2 fun v15 =>
 idx v15 (0:Int) fun c16 =>
 cI .i64 c16 0 fun v17 =>
 k_fin v17) (
 ifb ((((List.length v0:Nat):Int):Int) == (1:Int)) (
 k_fin (-1:Int)) (
 cLd 1 p0 2 fun v18 =>
 lt (IntKind.wrap .i64 (((1:Int):Int) - (0:Int))) fun x19 =>
 idx v18 x19 fun c20 =>
 cI .i64 c20 0 fun v21 =>
 k_fin v21)))) (
 cLd 1 p0 2 fun v22 =>
 idx v22 (0:Int) fun c23 =>
 cI .i64 c23 0 fun v24 =>
 ifb ((v24:Int) != p1) (
 cLd 1 p0 2 fun v25 =>
 idx v25 (0:Int) fun c26 =>
 cI .i64 c26 0 fun v27 =>
 k_fin v27) (
 ifb ((((List.length v0:Nat):Int):Int) == (1:Int)) (
 k_fin (-1:Int)) (
 cLd 1 p0 2 fun v28 =>
 lt (IntKind.wrap .i64 (((1:Int):Int) - (0:Int))) fun x29 =>
 idx v28 x29 fun c30 =>
 cI .i64 c30 0 fun v31 =>
 k_fin v31)))) (
 cLd 1 p0 2 fun v32 =>
 idx v32 (0:Int) fun c33 =>
 cI .i64 c33 0 fun v34 =>
 ifb ((v34:Int) != p1) (
 cLd 1 p0 2 fun v35 =>
 idx v35 (0:Int) fun c36 =>
 cI .i64 c36 0 fun v37 =>
 k_fin v37) (
 ifb ((((List.length v0:Nat):Int):Int) == (1:Int)) (
 k_fin (-1:Int)) (
 cLd 1 p0 2 fun v38 =>
 lt (IntKind.wrap .i64 (((1:Int):Int) - (0:Int))) fun x39 =>
 idx v38 x39 fun c40 =>
 cI .i64 c40 0 fun v41 =>
 k_fin v41))))
theorem ztJ {β:Type} (L:Nat) (p0:List V) (p1:Int) (k:KK β):zK zlU (zma L) L ziN [(V.agg p0),(V.sc (.int .i64 p1))] [] k=zmR L p0 p1 (fun p0=>k (V.sc (.int .i64 p0)) []):=by kernel_rfl
abbrev xq:=∀ (β:Type),Nat→List V→Int→(Int→Option β)→Option β
def xd (β:Type) (L:Nat) (p0:List V) (p1:Int) (k_fin:Int→Option β):Option β:=zmR L p0 p1 k_fin
def zhi (xd:xq) (L:Nat) (β:Type) (args:List V) (bor:Bor) (k:KK β):Option β:=match args,bor with
 | [a0,a1],[]=>aG a0 fun p0=>aI .i64 a1 fun p1=>xd β L p0 p1 (fun p0=>k (V.sc (.int .i64 p0)) [])
 | _,_=>none
theorem zud (L:Nat) (β:Type) (args:List V) (bor:Bor) (k:KK β) (r:β) (h:zhi xd L β args bor k=some r):zK zlU (zma L) L ziN args bor k=some r:=by
 unfold zhi at h
 split at h
 ·have q:=zfq h; clear h; obtain ⟨p0,rfl,h⟩:=q
  have q:=zaG h; clear h; obtain ⟨p1,rfl,h⟩:=q
  exact (ztJ L p0 p1 k).trans h
 ·cases h
def ziB:CF:=⟨12,[.tmp 4],
 (.seq (.reg [oo 4 (.move (.const (.sc (.int .u32 0))) false)])
 (.seq (.reg [oo 5 (.move (tq 0) false),
   oo 6 (.conv .u64 (tq 5)),
   oo 7 (.move (tq 1) false),
   oo 8 (.conv .u64 (tq 7)),
   oo 9 (.bin .add (tq 6) (tq 8)),
   oo 10 (.mm false (tq 9) (.const (.sc (.int .u64 4294967295)))),
   oo 11 (.conv .u32 (tq 10)),
   oo 4 (.move (tq 11) false)])
 .ret))⟩
def zoq:Hint:=⟨[],[],[none],[],[],false,false⟩
def zl2:Nat→Sh:=xZ []
def zlO (L:Nat):CBC:=noC
def zmU {β:Type} (L:Nat) (p0 p1:Int) (k_fin:Int→Option β):Option β :=
 lt (IntKind.wrap .u64 p0) fun x0 =>
 lt (IntKind.wrap .u64 p1) fun x1 =>
 lt (IntKind.wrap .u64 ((x0:Int)+x1)) fun x2 =>
 lt (zDu x2 (4294967295:Int)) fun x3 =>
 lt (IntKind.wrap .u32 x3) fun x4 =>
 k_fin x4
theorem ztZ {β:Type} (L:Nat) (p0 p1:Int) (k:KK β):zK zl2 (zlO L) L ziB [(V.sc (.int .u32 p0)),(V.sc (.int .u32 p1))] [] k=zmU L p0 p1 (fun p0=>k (V.sc (.int .u32 p0)) []):=by kernel_rfl
abbrev yJ:=∀ (β:Type),Nat→Int→Int→(Int→Option β)→Option β
def xh (β:Type) (L:Nat) (p0 p1:Int) (k_fin:Int→Option β):Option β:=zmU L p0 p1 k_fin
def zho (xh:yJ) (L:Nat) (β:Type) (args:List V) (bor:Bor) (k:KK β):Option β:=match args,bor with
 | [a0,a1],[]=>aI .u32 a0 fun p0=>aI .u32 a1 fun p1=>xh β L p0 p1 (fun p0=>k (V.sc (.int .u32 p0)) [])
 | _,_=>none
theorem ztM (L:Nat) (β:Type) (args:List V) (bor:Bor) (k:KK β) (r:β) (h:zho xh L β args bor k=some r):zK zl2 (zlO L) L ziB args bor k=some r:=by
 unfold zho at h
 split at h
 ·have q:=zaG h; clear h; obtain ⟨p0,rfl,h⟩:=q
  have q:=zaG h; clear h; obtain ⟨p1,rfl,h⟩:=q
  exact (ztZ L p0 p1 k).trans h
 ·cases h
def zq7:CF:=⟨70,[.cellS 10 5 true,.tmpP 11,.tmpP 12],
 (.seq (.reg [oo 5 (.box true (tq 0)),
   oo 7 (.box true (tq 2)),
   oo 10 (.alloc false [(.sc (.int .u32 0)),(.sc (.bool false)),(.gs 1 []),(.gs 35 []),(.gs 32 [])]),
   oo 11 (.move (.const (.sc (.int .i64 0))) false),
   oo 12 (.move (.const (.sc (.int .i64 0))) false)])
 (.seq (.seq (.reg [oo 15 (.load true 5 (tq 5) false),
   oo 16 (.call 362 [((tq 15),1)] []),
   oo 17 (.un .not (tq 16)),
   oo 18 (.move (tq 17) false),
   ⟨(some 19),false,(some (18,false)),.move (tq 1) false⟩,
   ⟨(some 20),false,(some (18,false)),.bin .lss (tq 19) (.const (.sc (.int .i64 (-1))))⟩,
   oo 21 (.pick (tq 18) (.const (.sc (.bool true))) (tq 20))])
 (.cond (tq 21)
 (.seq (.reg [oo 22 (.build [(.sc (.int .u32 0)),(.sc (.bool false)),(.sl 1 []),(.sl 35 []),(.sl 32 [])] []),
   oz (.store 5 (tq 10) (tq 22)),
   oo 11 (.move (.const (.sc (.int .i64 0))) false),
   oo 12 (.move (.const (.sc (.int .i64 6))) false)])
 .ret)
 .skip))
 (.seq (.seq (.reg [oo 23 (.fieldAddr 3 (tq 5)),
   oo 24 (.load false 1 (tq 23) false),
   oo 25 (.load true 32 (tq 7) false),
   oo 26 (.call 364 [((tq 24),0),((tq 25),0)] []),
   oo 27 (.bin .geq (tq 26) (.const (.sc (.int .i64 0)))),
   oo 28 (.move (tq 27) false),
   ⟨(some 29),false,(some (28,false)),.fieldAddr 4 (tq 5)⟩,
   ⟨(some 30),false,(some (28,false)),.load false 1 (tq 29) false⟩,
   ⟨(some 31),false,(some (28,false)),.load true 32 (tq 7) false⟩,
   ⟨(some 32),false,(some (28,false)),.call 365 [((tq 30),0),((tq 31),0)] []⟩,
   oo 33 (.pick (tq 28) (.const (.sc (.bool true))) (tq 32))])
 (.cond (tq 33)
 (.seq (.reg [oo 34 (.build [(.sc (.int .u32 0)),(.sc (.bool false)),(.sl 1 []),(.sl 35 []),(.sl 32 [])] []),
   oz (.store 5 (tq 10) (tq 34)),
   oo 11 (.move (.const (.sc (.int .i64 0))) false),
   oo 12 (.move (.const (.sc (.int .i64 150))) false)])
 .ret)
 .skip))
 (.seq (.reg [oo 35 (.load true 5 (tq 5) false),
   oo 36 (.call 355 [((tq 35),1)] [17,20,23]),
   oo 13 (.alloc false [(.sc (.int .u32 0)),(.sc (.bool false)),(.gs 1 []),(.gs 35 []),(.gs 32 [])]),
   oz (.store 5 (tq 13) (tq 36))])
 (.seq (.reg [oo 37 (.load true 5 (tq 5) false),
   oo 38 (.move (tq 1) false),
   oo 39 (.call 345 [((tq 37),1),((tq 38),0)] []),
   oo 14 (.move (tq 39) false)])
 (.seq (.seq (.reg [oo 40 (.fieldAddr 1 (tq 5)),
   oo 41 (.load false 1 (tq 40) false),
   oo 42 (.move (tq 41) false),
   ⟨(some 43),false,(some (42,true)),.move (tq 1) false⟩,
   ⟨(some 44),false,(some (42,true)),.bin .neq (tq 43) (.const (.sc (.int .i64 (-1))))⟩,
   oo 45 (.pick (tq 42) (tq 44) (.const (.sc (.bool false)))),
   oo 46 (.move (tq 45) false),
   ⟨(some 47),false,(some (46,false)),.move (tq 14) false⟩,
   ⟨(some 48),false,(some (46,false)),.bin .lss (tq 47) (.const (.sc (.int .i64 0)))⟩,
   oo 49 (.pick (tq 46) (.const (.sc (.bool true))) (tq 48))])
 (.cond (tq 49)
 (.seq (.reg [oo 50 (.load true 5 (tq 13) true),
   oz (.store 5 (tq 10) (tq 50)),
   oo 11 (.move (.const (.sc (.int .i64 (-1)))) false),
   oo 12 (.move (.const (.sc (.int .i64 0))) false)])
 .ret)
 .skip))
 (.seq (.seq (.reg [oo 51 (.fieldAddr 3 (tq 5)),
   oo 52 (.load false 1 (tq 51) false),
   oo 53 (.lenS (tq 52)),
   oo 54 (.bin .geq (tq 53) (.const (.sc (.int .i64 64))))])
 (.cond (tq 54)
 (.seq (.reg [oo 55 (.build [(.sc (.int .u32 0)),(.sc (.bool false)),(.sl 1 []),(.sl 35 []),(.sl 32 [])] []),
   oz (.store 5 (tq 10) (tq 55)),
   oo 11 (.move (.const (.sc (.int .i64 0))) false),
   oo 12 (.move (.const (.sc (.int .i64 380))) false)])
 .ret)
 .skip))
 (.seq (.dreg [] [(oo 56 (.fieldAddr 3 (tq 13)),q0),
   (oo 57 (.load false 1 (tq 56) true),ql 13 [7] [65]),
   (oo 58 (.load true 32 (tq 7) false),ql 7 [13] []),
   (oo 59 (.move (tq 1) false),q0),
   (oo 60 (.move (tq 14) false),q0),
   (oo 61 (.move (tq 3) false),q0),
   (oo 62 (.move (tq 4) false),q0),
   (oo 63 (.call 319 [((tq 61),0),((tq 62),0)] []),qc [13,7] []),
   (oo 64 (.build (rp 32 (.sc (.int .u8 0)) (rp 2 (.sc (.int .i64 0)) (rp 1 (.sc (.int .u32 0)) []))) [(0,32,(tq 58)),(32,1,(tq 59)),(33,1,(tq 60)),(34,1,(tq 63))]),q0),
   (oo 65 (.buildSlice 35 1 (rp 32 (.sc (.int .u8 0)) (rp 2 (.sc (.int .i64 0)) (rp 1 (.sc (.int .u32 0)) []))) [(0,35,(tq 64))]),qn [13] []),
   (oo 66 (.append 35 56 (tq 57) (tq 65)),q0),
   (oo 67 (.fieldAddr 3 (tq 13)),q0),
   (oz (.store 1 (tq 67) (tq 66)),q0)])
 (.seq (.reg [oo 68 (.load true 5 (tq 13) true),
   oo 69 (.move (tq 14) false),
   oz (.store 5 (tq 10) (tq 68)),
   oo 11 (.move (tq 69) false),
   oo 12 (.move (.const (.sc (.int .i64 0))) false)])
 .ret)))))))))⟩
def zo3:Hint:=⟨[(0,0),(8,0),(11,1),(12,0)],[],[none,none,none,none,none,none,none,none,none],[],[(5,1,[17,20,23])],true,true⟩
def zC0:Nat→Sh:=xZ [(24,(.sl 35)),(30,(.sl 32)),(41,.bool),(52,(.sl 35))]
def zCZ (zg:xz) (zd:yx) (zf:zA) (xf:zw) (xd:xq) (xh:yJ) (L:Nat):CBC:=(xB 319 (zho xh L) (xB 345 (zhi xd L) (xB 355 (zcm xf L) (xB 365 (zhq zf L) (xB 364 (zgo zd L) (xB 362 (zd8 zg L) noC))))))
def zsz {β:Type} (zg:xz) (zd:yx) (zf:zA) (xf:zw) (xd:xq) (xh:yJ) (L:Nat) (p0:List V) (p1:Int) (p2:List V) (p3 p4:Int) (k_fin:List V→Int→Int→Option β):Option β :=
 chk (0+5≤(List.length p0)) (
 zg β L (List.map V.dem (List.take 5 p0)) (fun v0 =>
 ifb (!v0) (
 k_fin [(V.sc (.int .u32 (0:Int))),(V.sc (.bool false)),(V.sl 1 ([]:List (List V))),(V.sl 35 ([]:List (List V))),(V.sl 32 ([]:List (List V)))] (0:Int) (6:Int)) (
 ifb (decide (p1 < (-1:Int))) (
 k_fin [(V.sc (.int .u32 (0:Int))),(V.sc (.bool false)),(V.sl 1 ([]:List (List V))),(V.sl 35 ([]:List (List V))),(V.sl 32 ([]:List (List V)))] (0:Int) (6:Int)) (
 cLd 35 p0 3 fun v1 =>
 chk (0+32≤(List.length p2)) (
 zd β L v1 (List.take 32 p2) (fun v2 =>
 ifb (decide (v2 ≥ (0:Int))) (
 k_fin [(V.sc (.int .u32 (0:Int))),(V.sc (.bool false)),(V.sl 1 ([]:List (List V))),(V.sl 35 ([]:List (List V))),(V.sl 32 ([]:List (List V)))] (0:Int) (150:Int)) (
 cLd 32 p0 4 fun v3 =>
 chk (0+32≤(List.length p2)) (
 zf β L v3 (List.take 32 p2) (fun v4 =>
 ifb v4 (
 k_fin [(V.sc (.int .u32 (0:Int))),(V.sc (.bool false)),(V.sl 1 ([]:List (List V))),(V.sl 35 ([]:List (List V))),(V.sl 32 ([]:List (List V)))] (0:Int) (150:Int)) (
 chk (0+5≤(List.length p0)) (
 xf β L (List.map V.dem (List.take 5 p0)) (fun v5 v6 v7 v8 v9 v10 v11 v12 =>
 chk (0+5≤(List.length p0)) (
 xd β L (List.map V.dem (List.take 5 p0)) p1 (fun v13 =>
 cB p0 1 fun v14 =>
 ifb v14 (
 ifb ((p1:Int) != (-1:Int)) (
 k_fin [(V.sc (.int .u32 v5)),(V.sc (.bool v6)),(V.sl 1 (xc 1 v7 v10)),(V.sl 35 (xc 35 v8 v11)),(V.sl 32 (xc 32 v9 v12))] (-1:Int) (0:Int)) (
 ifb (decide (v13 < (0:Int))) (
 k_fin [(V.sc (.int .u32 v5)),(V.sc (.bool v6)),(V.sl 1 (xc 1 v7 v10)),(V.sl 35 (xc 35 v8 v11)),(V.sl 32 (xc 32 v9 v12))] (-1:Int) (0:Int)) (
 cLd 35 p0 3 fun v15 =>
 ifb (decide (((List.length v15:Nat):Int) ≥ (64:Int))) (
 k_fin [(V.sc (.int .u32 (0:Int))),(V.sc (.bool false)),(V.sl 1 ([]:List (List V))),(V.sl 35 ([]:List (List V))),(V.sl 32 ([]:List (List V)))] (0:Int) (380:Int)) (
 chk (0+32≤(List.length p2)) (
 xh β L p3 p4 (fun v16 =>
 chk ((List.length (List.take 32 p2))=32∧0+32≤35) (
 chk (1=1∧32+1≤(List.length (zc (List.replicate 32 (V.sc (.int .u8 (0:Int)))++[(V.sc (.int .i64 (0:Int))),(V.sc (.int .i64 (0:Int))),(V.sc (.int .u32 (0:Int)))]) 0 (List.take 32 p2)))) (
 chk (1=1∧33+1≤(List.length (zc (zc (List.replicate 32 (V.sc (.int .u8 (0:Int)))++[(V.sc (.int .i64 (0:Int))),(V.sc (.int .i64 (0:Int))),(V.sc (.int .u32 (0:Int)))]) 0 (List.take 32 p2)) 32 [(V.sc (.int .i64 p1))]))) (
 chk (1=1∧34+1≤(List.length (zc (zc (zc (List.replicate 32 (V.sc (.int .u8 (0:Int)))++[(V.sc (.int .i64 (0:Int))),(V.sc (.int .i64 (0:Int))),(V.sc (.int .u32 (0:Int)))]) 0 (List.take 32 p2)) 32 [(V.sc (.int .i64 p1))]) 33 [(V.sc (.int .i64 v13))]))) (
 chk ((List.length (zc (zc (zc (zc (List.replicate 32 (V.sc (.int .u8 (0:Int)))++[(V.sc (.int .i64 (0:Int))),(V.sc (.int .i64 (0:Int))),(V.sc (.int .u32 (0:Int)))]) 0 (List.take 32 p2)) 32 [(V.sc (.int .i64 p1))]) 33 [(V.sc (.int .i64 v13))]) 34 [(V.sc (.int .u32 v16))]))=35∧0+35≤35) (
 chk ((v8+List.length (xc 35 1 (zc (List.replicate 32 (V.sc (.int .u8 (0:Int)))++[(V.sc (.int .i64 (0:Int))),(V.sc (.int .i64 (0:Int))),(V.sc (.int .u32 (0:Int)))]) 0 (zc (zc (zc (zc (List.replicate 32 (V.sc (.int .u8 (0:Int)))++[(V.sc (.int .i64 (0:Int))),(V.sc (.int .i64 (0:Int))),(V.sc (.int .u32 (0:Int)))]) 0 (List.take 32 p2)) 32 [(V.sc (.int .i64 p1))]) 33 [(V.sc (.int .i64 v13))]) 34 [(V.sc (.int .u32 v16))])))) * 56≤zj∧(v8+List.length (xc 35 1 (zc (List.replicate 32 (V.sc (.int .u8 (0:Int)))++[(V.sc (.int .i64 (0:Int))),(V.sc (.int .i64 (0:Int))),(V.sc (.int .u32 (0:Int)))]) 0 (zc (zc (zc (zc (List.replicate 32 (V.sc (.int .u8 (0:Int)))++[(V.sc (.int .i64 (0:Int))),(V.sc (.int .i64 (0:Int))),(V.sc (.int .u32 (0:Int)))]) 0 (List.take 32 p2)) 32 [(V.sc (.int .i64 p1))]) 33 [(V.sc (.int .i64 v13))]) 34 [(V.sc (.int .u32 v16))]))))≤zj∧((v8+List.length (xc 35 1 (zc (List.replicate 32 (V.sc (.int .u8 (0:Int)))++[(V.sc (.int .i64 (0:Int))),(V.sc (.int .i64 (0:Int))),(V.sc (.int .u32 (0:Int)))]) 0 (zc (zc (zc (zc (List.replicate 32 (V.sc (.int .u8 (0:Int)))++[(V.sc (.int .i64 (0:Int))),(V.sc (.int .i64 (0:Int))),(V.sc (.int .u32 (0:Int)))]) 0 (List.take 32 p2)) 32 [(V.sc (.int .i64 p1))]) 33 [(V.sc (.int .i64 v13))]) 34 [(V.sc (.int .u32 v16))]))))≠0∨(List.length v11)=0)) (
 lt (List.take (v8 * 35) v11++List.flatten (xc 35 1 (zc (List.replicate 32 (V.sc (.int .u8 (0:Int)))++[(V.sc (.int .i64 (0:Int))),(V.sc (.int .i64 (0:Int))),(V.sc (.int .u32 (0:Int)))]) 0 (zc (zc (zc (zc (List.replicate 32 (V.sc (.int .u8 (0:Int)))++[(V.sc (.int .i64 (0:Int))),(V.sc (.int .i64 (0:Int))),(V.sc (.int .u32 (0:Int)))]) 0 (List.take 32 p2)) 32 [(V.sc (.int .i64 p1))]) 33 [(V.sc (.int .i64 v13))]) 34 [(V.sc (.int .u32 v16))])))) fun r17 =>
 k_fin [(V.sc (.int .u32 v5)),(V.sc (.bool v6)),(V.sl 1 (xc 1 v7 v10)),(V.sl 35 (xc 35 (v8+List.length (xc 35 1 (zc (List.replicate 32 (V.sc (.int .u8 (0:Int)))++[(V.sc (.int .i64 (0:Int))),(V.sc (.int .i64 (0:Int))),(V.sc (.int .u32 (0:Int)))]) 0 (zc (zc (zc (zc (List.replicate 32 (V.sc (.int .u8 (0:Int)))++[(V.sc (.int .i64 (0:Int))),(V.sc (.int .i64 (0:Int))),(V.sc (.int .u32 (0:Int)))]) 0 (List.take 32 p2)) 32 [(V.sc (.int .i64 p1))]) 33 [(V.sc (.int .i64 v13))]) 34 [(V.sc (.int .u32 v16))])))) r17)),(V.sl 32 (xc 32 v9 v12))] v13 (0:Int))))))))))))) (
 ifb (decide (v13 < (0:Int))) (
 k_fin [(V.sc (.int .u32 v5)),(V.sc (.bool v6)),(V.sl 1 (xc 1 v7 v10)),(V.sl 35 (xc 35 v8 v11)),(V.sl 32 (xc 32 v9 v12))] (-1:Int) (0:Int)) (
 cLd 35 p0 3 fun v18 =>
 ifb (decide (((List.length v18:Nat):Int) ≥ (64:Int))) (
 k_fin [(V.sc (.int .u32 (0:Int))),(V.sc (.bool false)),(V.sl 1 ([]:List (List V))),(V.sl 35 ([]:List (List V))),(V.sl 32 ([]:List (List V)))] (0:Int) (380:Int)) (
 chk (0+32≤(List.length p2)) (
 xh β L p3 p4 (fun v19 =>
 chk ((List.length (List.take 32 p2))=32∧0+32≤35) (
 chk (1=1∧32+1≤(List.length (zc (List.replicate 32 (V.sc (.int .u8 (0:Int)))++[(V.sc (.int .i64 (0:Int))),(V.sc (.int .i64 (0:Int))),(V.sc (.int .u32 (0:Int)))]) 0 (List.take 32 p2)))) (
 chk (1=1∧33+1≤(List.length (zc (zc (List.replicate 32 (V.sc (.int .u8 (0:Int)))++[(V.sc (.int .i64 (0:Int))),(V.sc (.int .i64 (0:Int))),(V.sc (.int .u32 (0:Int)))]) 0 (List.take 32 p2)) 32 [(V.sc (.int .i64 p1))]))) (
 chk (1=1∧34+1≤(List.length (zc (zc (zc (List.replicate 32 (V.sc (.int .u8 (0:Int)))++[(V.sc (.int .i64 (0:Int))),(V.sc (.int .i64 (0:Int))),(V.sc (.int .u32 (0:Int)))]) 0 (List.take 32 p2)) 32 [(V.sc (.int .i64 p1))]) 33 [(V.sc (.int .i64 v13))]))) (
 chk ((List.length (zc (zc (zc (zc (List.replicate 32 (V.sc (.int .u8 (0:Int)))++[(V.sc (.int .i64 (0:Int))),(V.sc (.int .i64 (0:Int))),(V.sc (.int .u32 (0:Int)))]) 0 (List.take 32 p2)) 32 [(V.sc (.int .i64 p1))]) 33 [(V.sc (.int .i64 v13))]) 34 [(V.sc (.int .u32 v19))]))=35∧0+35≤35) (
 chk ((v8+List.length (xc 35 1 (zc (List.replicate 32 (V.sc (.int .u8 (0:Int)))++[(V.sc (.int .i64 (0:Int))),(V.sc (.int .i64 (0:Int))),(V.sc (.int .u32 (0:Int)))]) 0 (zc (zc (zc (zc (List.replicate 32 (V.sc (.int .u8 (0:Int)))++[(V.sc (.int .i64 (0:Int))),(V.sc (.int .i64 (0:Int))),(V.sc (.int .u32 (0:Int)))]) 0 (List.take 32 p2)) 32 [(V.sc (.int .i64 p1))]) 33 [(V.sc (.int .i64 v13))]) 34 [(V.sc (.int .u32 v19))])))) * 56≤zj∧(v8+List.length (xc 35 1 (zc (List.replicate 32 (V.sc (.int .u8 (0:Int)))++[(V.sc (.int .i64 (0:Int))),(V.sc (.int .i64 (0:Int))),(V.sc (.int .u32 (0:Int)))]) 0 (zc (zc (zc (zc (List.replicate 32 (V.sc (.int .u8 (0:Int)))++[(V.sc (.int .i64 (0:Int))),(V.sc (.int .i64 (0:Int))),(V.sc (.int .u32 (0:Int)))]) 0 (List.take 32 p2)) 32 [(V.sc (.int .i64 p1))]) 33 [(V.sc (.int .i64 v13))]) 34 [(V.sc (.int .u32 v19))]))))≤zj∧((v8+List.length (xc 35 1 (zc (List.replicate 32 (V.sc (.int .u8 (0:Int)))++[(V.sc (.int .i64 (0:Int))),(V.sc (.int .i64 (0:Int))),(V.sc (.int .u32 (0:Int)))]) 0 (zc (zc (zc (zc (List.replicate 32 (V.sc (.int .u8 (0:Int)))++[(V.sc (.int .i64 (0:Int))),(V.sc (.int .i64 (0:Int))),(V.sc (.int .u32 (0:Int)))]) 0 (List.take 32 p2)) 32 [(V.sc (.int .i64 p1))]) 33 [(V.sc (.int .i64 v13))]) 34 [(V.sc (.int .u32 v19))]))))≠0∨(List.length v11)=0)) (
 lt (List.take (v8 * 35) v11++List.flatten (xc 35 1 (zc (List.replicate 32 (V.sc (.int .u8 (0:Int)))++[(V.sc (.int .i64 (0:Int))),(V.sc (.int .i64 (0:Int))),(V.sc (.int .u32 (0:Int)))]) 0 (zc (zc (zc (zc (List.replicate 32 (V.sc (.int .u8 (0:Int)))++[(V.sc (.int .i64 (0:Int))),(V.sc (.int .i64 (0:Int))),(V.sc (.int .u32 (0:Int)))]) 0 (List.take 32 p2)) 32 [(V.sc (.int .i64 p1))]) 33 [(V.sc (.int .i64 v13))]) 34 [(V.sc (.int .u32 v19))])))) fun r20 =>
 k_fin [(V.sc (.int .u32 v5)),(V.sc (.bool v6)),(V.sl 1 (xc 1 v7 v10)),(V.sl 35 (xc 35 (v8+List.length (xc 35 1 (zc (List.replicate 32 (V.sc (.int .u8 (0:Int)))++[(V.sc (.int .i64 (0:Int))),(V.sc (.int .i64 (0:Int))),(V.sc (.int .u32 (0:Int)))]) 0 (zc (zc (zc (zc (List.replicate 32 (V.sc (.int .u8 (0:Int)))++[(V.sc (.int .i64 (0:Int))),(V.sc (.int .i64 (0:Int))),(V.sc (.int .u32 (0:Int)))]) 0 (List.take 32 p2)) 32 [(V.sc (.int .i64 p1))]) 33 [(V.sc (.int .i64 v13))]) 34 [(V.sc (.int .u32 v19))])))) r20)),(V.sl 32 (xc 32 v9 v12))] v13 (0:Int))))))))))))))))))))))))))
abbrev yW:=∀ (β:Type),Nat→List V→Int→List V→Int→Int→(List V→Int→Int→Option β)→Option β
def xr (β:Type) (L:Nat) (p0:List V) (p1:Int) (p2:List V) (p3 p4:Int) (k_fin:List V→Int→Int→Option β):Option β:=zsz zg zd zf xf xd xh L p0 p1 p2 p3 p4 k_fin
def zx4 (xr:yW) (L:Nat) (β:Type) (args:List V) (bor:Bor) (k:KK β):Option β:=match args,bor with
 | [a0,a1,a2,a3,a4],[]=>aG a0 fun p0=>aI .i64 a1 fun p1=>aG a2 fun p2=>aI .u32 a3 fun p3=>aI .u32 a4 fun p4=>xr β L p0 p1 p2 p3 p4 (fun zE0 zE1 zFn=>k (V.tup [(V.agg zE0),(V.sc (.int .i64 zE1)),(V.sc (.int .i64 zFn))]) [])
 | _,_=>none
def zbz:CC:=(.seq (.seq (.reg [oo 11 (.move (tq 5) false),
   oo 12 (.move (tq 0) false),
   oo 13 (.lenS (tq 12)),
   oo 14 (.bin .lss (tq 11) (tq 13))])
 (.cond (tq 14)
 .skip
 (.seq (.mask (bl 0 26) (bl 67100623 26))
 (.exit 0))))
 (.seq (.block 1 (.seq (.dreg [] [(oo 17 (.move (tq 0) false),q0),
   (oo 18 (.move (tq 5) false),q0),
   (oo 19 (.indexAddrS 32 (tq 17) (tq 18)),q0),
   (oo 20 (.load true 32 (tq 19) false),qc [] []),
   (oo 21 (.move (tq 1) false),q0),
   (oo 22 (.move (tq 5) false),q0),
   (oo 23 (.indexAddrS 32 (tq 21) (tq 22)),q0),
   (oo 24 (.load true 32 (tq 23) false),qc [] []),
   (oo 25 (.eqAgg true 32 (tq 20) (tq 24)),q0)])
 (.cond (tq 25)
 (.seq (.reg [oo 4 (.move (.const (.sc (.bool false))) false)])
 (.seq (.mask (bl 16 26) (bl 67100639 26))
 .ret))
 .skip)))
 (.reg [oo 15 (.move (tq 5) false),
   oo 16 (.bin .add (tq 15) (.const (.sc (.int .i64 1)))),
   oo 5 (.move (tq 16) false)])))
def zdZ:CC:=(.seq (.reg [oo 4 (.move (.const (.sc (.bool true))) false)])
 .ret)
def zaJ:CF:=⟨26,[.tmp 4],
 (.seq (.reg [oo 4 (.move (.const (.sc (.bool false))) false)])
 (.seq (.seq (.reg [oo 6 (.move (tq 0) false),
   oo 7 (.lenS (tq 6)),
   oo 8 (.move (tq 1) false),
   oo 9 (.lenS (tq 8)),
   oo 10 (.bin .neq (tq 7) (tq 9))])
 (.cond (tq 10)
 (.seq (.reg [oo 4 (.move (.const (.sc (.bool false))) false)])
 .ret)
 .skip))
 (.seq (.seq (.reg [oo 5 (.move (.const (.sc (.int .i64 0))) false)])
 (.block 0 (.loop (bl 35 26) (bl 67100655 26)
 zbz)))
 zdZ)))⟩
def zkj:Hint:=⟨[],[],[none,none,none,some ((bl 35 26),(bl 67100655 26)),none,some ((bl 0 26),(bl 67100623 26)),none,none,some ((bl 16 26),(bl 67100639 26)),none],[],[],false,false⟩
def zW:Nat→Sh:=xZ []
def xW (L:Nat):CBC:=noC
def zdc:St→St:=yT 0 (bl 35 26) (bl 67100655 26)
def zck (p0 p1:List (List V)) (p5:Int):St:=⟨((V.sl 32 p0)::((V.sl 32 p1)::(jn 3 ((V.sc (.int .i64 p5))::(jn 20 []))))),(gn 26 [])⟩
def zfh (p4:Bool):St:=⟨(jn 4 ((V.sc (.bool p4))::(jn 21 []))),(gn 26 [])⟩
def zfR:St:=⟨(jn 26 []),(gn 26 [])⟩
def ziq {β:Type} (L:Nat) (p0 p1:List (List V)) (k_fin:Bool→Option β) (k_hbbaba:List (List V)→List (List V)→Int→Option β):Option β :=
 ifb ((((List.length p0:Nat):Int):Int) != ((List.length p1:Nat):Int)) (
 k_fin false) (
 k_hbbaba p0 p1 (0:Int))
theorem zpW {β:Type} (L:Nat) (p0 p1:List (List V)) (k:KK β):zK zW (xW L) L zaJ [(V.sl 32 p0),(V.sl 32 p1)] [] k=ziq L p0 p1 (fun p0=>k (V.sc (.bool p0)) []) (fun p0 p1 p5=>xG (zn zW (xW L) 0 L zbz) zdc L (zck p0 p1 p5) (yy 0 (zM (zn zW (xW L) 0 L zdZ) (zO 0 (CF.res zaJ) k)))):=by kernel_rfl
def zfg {β:Type} (L:Nat) (p0 p1:List (List V)) (p5:Int) (k_ret:Bool→Option β) (k_hbbaba:List (List V)→List (List V)→Int→Option β) (k_x0:Option β):Option β :=
 ifb (decide (p5 < ((List.length p0:Nat):Int))) (
 idx p0 p5 fun c0 =>
 idx p1 p5 fun c1 =>
 eqC 32 (List.take 32 c0) (List.take 32 c1) fun v2 =>
 ifb (!v2) (
 k_ret false) (
 lt (IntKind.wrap .i64 ((p5:Int)+(1:Int))) fun x3 =>
 k_hbbaba p0 p1 x3)) (
 k_x0)
theorem zmX {β:Type} (L:Nat) (p0 p1:List (List V)) (p5:Int) (X:St→Option β) (K:KT β):zn zW (xW L) 0 L zbz (zck p0 p1 p5) (zbw zdc X K)=zfg L p0 p1 p5 (fun p4=>K .ret (zfh p4)) (fun p0 p1 p5=>X (zck p0 p1 p5)) (K (.exit 0) (zfR)):=by kernel_rfl
def zha {β:Type} (L:Nat) (p4:Bool) (k_fin:Bool→Option β):Option β :=
 k_fin p4
theorem zlo {β:Type} (L:Nat) (p4:Bool) (k:KK β):(yy 0 (zM (zn zW (xW L) 0 L zdZ) (zO 0 (CF.res zaJ) k))) .ret (zfh p4)=zha L p4 (fun p0=>k (V.sc (.bool p0)) []):=by kernel_rfl
def zhP {β:Type} (L:Nat) (k_fin:Bool→Option β):Option β :=
 k_fin true
theorem zl1 {β:Type} (L:Nat) (k:KK β):(yy 0 (zM (zn zW (xW L) 0 L zdZ) (zO 0 (CF.res zaJ) k))) (.exit 0) (zfR)=zhP L (fun p0=>k (V.sc (.bool p0)) []):=by kernel_rfl
def zbO {β:Type} (L:Nat) (k_ret:Bool→Option β) (k_x0:Option β):Nat→List (List V)→List (List V)→Int→Option β
 | 0,_,_,_=>none
 | n+1,p0,p1,p5=>zfg L p0 p1 p5 k_ret (fun p0 p1 p5=>zbO L k_ret k_x0 n p0 p1 p5) k_x0
theorem zhg {β:Type} (L:Nat) (K:KT β):∀ (n:Nat) (p0 p1:List (List V)) (p5:Int),xG (zn zW (xW L) 0 L zbz) zdc n (zck p0 p1 p5) K=zbO L (fun p4=>K .ret (zfh p4)) (K (.exit 0) (zfR)) n p0 p1 p5:=by
 intro n
 induction n with
 | zero=>intros; rfl
 | succ n ih =>
  intro p0 p1 p5
  refine (zmX L p0 p1 p5 (fun σ=>xG (zn zW (xW L) 0 L zbz) zdc n σ K) K).trans ?_
  simp only [ih]
  rfl
def zfz {β:Type} (L:Nat) (p0 p1:List (List V)) (k_fin:Bool→Option β):Option β :=
 ziq L p0 p1 k_fin (fun p0 p1 p5=>zbO L (fun p4=>zha L p4 k_fin) (zhP L k_fin) L p0 p1 p5)
theorem zp4 {β:Type} (L:Nat) (p0 p1:List (List V)) (k:KK β):zK zW (xW L) L zaJ [(V.sl 32 p0),(V.sl 32 p1)] [] k=zfz L p0 p1 (fun p0=>k (V.sc (.bool p0)) []):=by
 refine (zpW L p0 p1 k).trans ?_
 unfold zfz
 first
  | (simp only [zhg,zlo,zl1]; done)
  | (simp only [zhg]; rfl)
abbrev yr:=∀ (β:Type),Nat→List (List V)→List (List V)→(Bool→Option β)→Option β
def yf (β:Type) (L:Nat) (p0 p1:List (List V)) (k_fin:Bool→Option β):Option β:=zfz L p0 p1 k_fin
def zdK (yf:yr) (L:Nat) (β:Type) (args:List V) (bor:Bor) (k:KK β):Option β:=match args,bor with
 | [a0,a1],[]=>aL 32 a0 fun p0=>aL 32 a1 fun p1=>yf β L p0 p1 (fun p0=>k (V.sc (.bool p0)) [])
 | _,_=>none
theorem zpT (L:Nat) (β:Type) (args:List V) (bor:Bor) (k:KK β) (r:β) (h:zdK yf L β args bor k=some r):zK zW (xW L) L zaJ args bor k=some r:=by
 unfold zdK at h
 split at h
 ·have q:=zaZ h; clear h; obtain ⟨p0,rfl,h⟩:=q
  have q:=zaZ h; clear h; obtain ⟨p1,rfl,h⟩:=q
  exact (zp4 L p0 p1 k).trans h
 ·cases h
def zdQ:CC:=(.seq (.seq (.reg [oo 43 (.move (tq 5) false),
   oo 44 (.fieldAddr 3 (tq 2)),
   oo 45 (.load false 1 (tq 44) false),
   oo 46 (.lenS (tq 45)),
   oo 47 (.bin .lss (tq 43) (tq 46))])
 (.cond (tq 47)
 .skip
 (.seq (.mask (bl 0 61) (bl 2305772640469516227 61))
 (.exit 0))))
 (.seq (.block 1 (.seq (.dreg [] [(oo 50 (.fieldAddr 3 (tq 2)),q0),
   (oo 51 (.load false 1 (tq 50) false),ql 2 [3] []),
   (oo 52 (.move (tq 5) false),q0),
   (oo 53 (.indexAddrS 35 (tq 51) (tq 52)),q0),
   (oo 54 (.load true 35 (tq 53) false),qc [3] []),
   (oo 55 (.fieldAddr 3 (tq 3)),q0),
   (oo 56 (.load false 1 (tq 55) false),ql 3 [2] []),
   (oo 57 (.move (tq 5) false),q0),
   (oo 58 (.indexAddrS 35 (tq 56) (tq 57)),q0),
   (oo 59 (.load true 35 (tq 58) false),qc [2] []),
   (oo 60 (.eqAgg true 35 (tq 54) (tq 59)),q0)])
 (.cond (tq 60)
 (.seq (.reg [oo 4 (.move (.const (.sc (.bool false))) false)])
 (.seq (.mask (bl 16 61) (bl 2305772640469516243 61))
 .ret))
 .skip)))
 (.reg [oo 48 (.move (tq 5) false),
   oo 49 (.bin .add (tq 48) (.const (.sc (.int .i64 1)))),
   oo 5 (.move (tq 49) false)])))
def zhW:CC:=(.seq (.reg [oo 4 (.move (.const (.sc (.bool true))) false)])
 .ret)
def zc4:CF:=⟨61,[.tmp 4],
 (.seq (.reg [oo 2 (.box true (tq 0)),
   oo 3 (.box true (tq 1)),
   oo 4 (.move (.const (.sc (.bool false))) false)])
 (.seq (.seq (.reg [oo 6 (.fieldAddr 0 (tq 2)),
   oo 7 (.load false 1 (tq 6) false),
   oo 8 (.fieldAddr 0 (tq 3)),
   oo 9 (.load false 1 (tq 8) false),
   oo 10 (.bin .neq (tq 7) (tq 9)),
   oo 11 (.move (tq 10) false),
   ⟨(some 12),false,(some (11,false)),.fieldAddr 1 (tq 2)⟩,
   ⟨(some 13),false,(some (11,false)),.load false 1 (tq 12) false⟩,
   ⟨(some 14),false,(some (11,false)),.fieldAddr 1 (tq 3)⟩,
   ⟨(some 15),false,(some (11,false)),.load false 1 (tq 14) false⟩,
   ⟨(some 16),false,(some (11,false)),.eqB true (tq 13) (tq 15)⟩,
   oo 17 (.pick (tq 11) (.const (.sc (.bool true))) (tq 16)),
   oo 18 (.move (tq 17) false),
   ⟨(some 19),false,(some (18,false)),.fieldAddr 2 (tq 2)⟩,
   ⟨(some 20),false,(some (18,false)),.load false 1 (tq 19) false⟩,
   ⟨(some 21),false,(some (18,false)),.fieldAddr 2 (tq 3)⟩,
   ⟨(some 22),false,(some (18,false)),.load false 1 (tq 21) false⟩,
   ⟨(some 23),false,(some (18,false)),.call 338 [((tq 20),0),((tq 22),0)] []⟩,
   ⟨(some 24),false,(some (18,false)),.un .not (tq 23)⟩,
   oo 25 (.pick (tq 18) (.const (.sc (.bool true))) (tq 24)),
   oo 26 (.move (tq 25) false),
   ⟨(some 27),false,(some (26,false)),.fieldAddr 4 (tq 2)⟩,
   ⟨(some 28),false,(some (26,false)),.load false 1 (tq 27) false⟩,
   ⟨(some 29),false,(some (26,false)),.fieldAddr 4 (tq 3)⟩,
   ⟨(some 30),false,(some (26,false)),.load false 1 (tq 29) false⟩,
   ⟨(some 31),false,(some (26,false)),.call 352 [((tq 28),0),((tq 30),0)] []⟩,
   ⟨(some 32),false,(some (26,false)),.un .not (tq 31)⟩,
   oo 33 (.pick (tq 26) (.const (.sc (.bool true))) (tq 32)),
   oo 34 (.move (tq 33) false),
   ⟨(some 35),false,(some (34,false)),.fieldAddr 3 (tq 2)⟩,
   ⟨(some 36),false,(some (34,false)),.load false 1 (tq 35) false⟩,
   ⟨(some 37),false,(some (34,false)),.lenS (tq 36)⟩,
   ⟨(some 38),false,(some (34,false)),.fieldAddr 3 (tq 3)⟩,
   ⟨(some 39),false,(some (34,false)),.load false 1 (tq 38) false⟩,
   ⟨(some 40),false,(some (34,false)),.lenS (tq 39)⟩,
   ⟨(some 41),false,(some (34,false)),.bin .neq (tq 37) (tq 40)⟩,
   oo 42 (.pick (tq 34) (.const (.sc (.bool true))) (tq 41))])
 (.cond (tq 42)
 (.seq (.reg [oo 4 (.move (.const (.sc (.bool false))) false)])
 .ret)
 .skip))
 (.seq (.seq (.reg [oo 5 (.move (.const (.sc (.int .i64 0))) false)])
 (.block 0 (.loop (bl 44 61) (bl 2305772640469516271 61)
 zdQ)))
 zhW)))⟩
def zoQ:Hint:=⟨[(0,0),(0,1)],[],[none,none,none,some ((bl 44 61),(bl 2305772640469516271 61)),none,some ((bl 0 61),(bl 2305772640469516227 61)),none,none,some ((bl 16 61),(bl 2305772640469516243 61)),none],[],[],false,false⟩
def zbf:Nat→Sh:=xZ [(7,(.int .u32)),(9,(.int .u32)),(13,.bool),(15,.bool),(20,(.sl 1)),(22,(.sl 1)),(28,(.sl 32)),(30,(.sl 32)),(36,(.sl 35)),(39,(.sl 35)),(45,(.sl 35)),(51,(.sl 35)),(56,(.sl 35))]
def zbc (yj:yN) (yf:yr) (L:Nat):CBC:=(xB 352 (zdK yf L) (xB 338 (zeK yj L) noC))
def zfZ:St→St:=yT 0 (bl 44 61) (bl 2305772640469516271 61)
def zeC (p5:Int) (b2 b3:List V):St:=⟨(jn 2 ((V.ptr 2 0)::((V.ptr 3 0)::(jn 1 ((V.sc (.int .i64 p5))::(jn 55 [])))))),(gn 2 ((.live true b2)::((.live true b3)::(gn 57 []))))⟩
def zjb (p4:Bool):St:=⟨(jn 4 ((V.sc (.bool p4))::(jn 56 []))),(gn 61 [])⟩
def zj2:St:=⟨(jn 61 []),(gn 61 [])⟩
def zoz {β:Type} (yj:yN) (yf:yr) (L:Nat) (p0 p1:List V) (k_fin:Bool→Option β) (k_hbbaba:Int→List V→List V→Option β):Option β :=
 cI .u32 p0 0 fun v0 =>
 cI .u32 p1 0 fun v1 =>
 ifb ((v0:Int) != v1) (
 k_fin false) (
 cB p0 1 fun v2 =>
 cB p1 1 fun v3 =>
 ifb (!(v2 == v3)) (
 k_fin false) (
 cLd 1 p0 2 fun v4 =>
 cLd 1 p1 2 fun v5 =>
 yj β L v4 v5 (fun v6 =>
 ifb (!v6) (
 k_fin false) (
 cLd 32 p0 4 fun v7 =>
 cLd 32 p1 4 fun v8 =>
 yf β L v7 v8 (fun v9 =>
 ifb (!v9) (
 k_fin false) (
 cLd 35 p0 3 fun v10 =>
 cLd 35 p1 3 fun v11 =>
 ifb ((((List.length v10:Nat):Int):Int) != ((List.length v11:Nat):Int)) (
 k_fin false) (
 k_hbbaba (0:Int) p0 p1)))))))
theorem zuJ {β:Type} (yj:yN) (yf:yr) (L:Nat) (p0 p1:List V) (k:KK β):zK zbf (zbc yj yf L) L zc4 [(V.agg p0),(V.agg p1)] [] k=zoz yj yf L p0 p1 (fun p0=>k (V.sc (.bool p0)) []) (fun p5 b2 b3=>xG (zn zbf (zbc yj yf L) 0 L zdQ) zfZ L (zeC p5 b2 b3) (yy 0 (zM (zn zbf (zbc yj yf L) 0 L zhW) (zO 0 (CF.res zc4) k)))):=by kernel_rfl
def zje {β:Type} (yj:yN) (yf:yr) (L:Nat) (p5:Int) (b2 b3:List V) (k_ret:Bool→Option β) (k_hbbaba:Int→List V→List V→Option β) (k_x0:Option β):Option β :=
 cLd 35 b2 3 fun v12 =>
 ifb (decide (p5 < ((List.length v12:Nat):Int))) (
 cLd 35 b2 3 fun v13 =>
 idx v13 p5 fun c14 =>
 cLd 35 b3 3 fun v15 =>
 idx v15 p5 fun c16 =>
 eqC 35 (List.take 35 c14) (List.take 35 c16) fun v17 =>
 ifb (!v17) (
 k_ret false) (
 lt (IntKind.wrap .i64 ((p5:Int)+(1:Int))) fun x18 =>
 k_hbbaba x18 b2 b3)) (
 k_x0)
theorem zqO {β:Type} (yj:yN) (yf:yr) (L:Nat) (p5:Int) (b2 b3:List V) (X:St→Option β) (K:KT β):zn zbf (zbc yj yf L) 0 L zdQ (zeC p5 b2 b3) (zbw zfZ X K)=zje yj yf L p5 b2 b3 (fun p4=>K .ret (zjb p4)) (fun p5 b2 b3=>X (zeC p5 b2 b3)) (K (.exit 0) (zj2)):=by kernel_rfl
def zkH {β:Type} (yj:yN) (yf:yr) (L:Nat) (p4:Bool) (k_fin:Bool→Option β):Option β :=
 k_fin p4
theorem zoM {β:Type} (yj:yN) (yf:yr) (L:Nat) (p4:Bool) (k:KK β):(yy 0 (zM (zn zbf (zbc yj yf L) 0 L zhW) (zO 0 (CF.res zc4) k))) .ret (zjb p4)=zkH yj yf L p4 (fun p0=>k (V.sc (.bool p0)) []):=by kernel_rfl
def zlx {β:Type} (yj:yN) (yf:yr) (L:Nat) (k_fin:Bool→Option β):Option β :=
 k_fin true
theorem zpA {β:Type} (yj:yN) (yf:yr) (L:Nat) (k:KK β):(yy 0 (zM (zn zbf (zbc yj yf L) 0 L zhW) (zO 0 (CF.res zc4) k))) (.exit 0) (zj2)=zlx yj yf L (fun p0=>k (V.sc (.bool p0)) []):=by kernel_rfl
def zei {β:Type} (yj:yN) (yf:yr) (L:Nat) (k_ret:Bool→Option β) (k_x0:Option β):Nat→Int→List V→List V→Option β
 | 0,_,_,_=>none
 | n+1,p5,b2,b3=>zje yj yf L p5 b2 b3 k_ret (fun p5 b2 b3=>zei yj yf L k_ret k_x0 n p5 b2 b3) k_x0
theorem zkz {β:Type} (yj:yN) (yf:yr) (L:Nat) (K:KT β):∀ (n:Nat) (p5:Int) (b2 b3:List V),xG (zn zbf (zbc yj yf L) 0 L zdQ) zfZ n (zeC p5 b2 b3) K=zei yj yf L (fun p4=>K .ret (zjb p4)) (K (.exit 0) (zj2)) n p5 b2 b3:=by
 intro n
 induction n with
 | zero=>intros; rfl
 | succ n ih =>
  intro p5 b2 b3
  refine (zqO yj yf L p5 b2 b3 (fun σ=>xG (zn zbf (zbc yj yf L) 0 L zdQ) zfZ n σ K) K).trans ?_
  simp only [ih]
  rfl
def zkP {β:Type} (yj:yN) (yf:yr) (L:Nat) (p0 p1:List V) (k_fin:Bool→Option β):Option β :=
 zoz yj yf L p0 p1 k_fin (fun p5 b2 b3=>zei yj yf L (fun p4=>zkH yj yf L p4 k_fin) (zlx yj yf L k_fin) L p5 b2 b3)
theorem zvh {β:Type} (yj:yN) (yf:yr) (L:Nat) (p0 p1:List V) (k:KK β):zK zbf (zbc yj yf L) L zc4 [(V.agg p0),(V.agg p1)] [] k=zkP yj yf L p0 p1 (fun p0=>k (V.sc (.bool p0)) []):=by
 refine (zuJ yj yf L p0 p1 k).trans ?_
 unfold zkP
 first
  | (simp only [zkz,zoM,zpA]; done)
  | (simp only [zkz]; rfl)
abbrev xk:=∀ (β:Type),Nat→List V→List V→(Bool→Option β)→Option β
def zb (β:Type) (L:Nat) (p0 p1:List V) (k_fin:Bool→Option β):Option β:=zkP yj yf L p0 p1 k_fin
def zgg (zb:xk) (L:Nat) (β:Type) (args:List V) (bor:Bor) (k:KK β):Option β:=match args,bor with
 | [a0,a1],[]=>aG a0 fun p0=>aG a1 fun p1=>zb β L p0 p1 (fun p0=>k (V.sc (.bool p0)) [])
 | _,_=>none
theorem zu5 (L:Nat) (β:Type) (args:List V) (bor:Bor) (k:KK β) (r:β) (h:zgg zb L β args bor k=some r):zK zbf (zbc yj yf L) L zc4 args bor k=some r:=by
 unfold zgg at h
 split at h
 ·have q:=zfq h; clear h; obtain ⟨p0,rfl,h⟩:=q
  have q:=zfq h; clear h; obtain ⟨p1,rfl,h⟩:=q
  exact (zvh yj yf L p0 p1 k).trans h
 ·cases h
def zgw:CC:=(.seq (.reg [oo 62 (.bin .lss (tq 61) (tq 60))])
 (.seq (.cond (tq 62)
 .skip
 (.seq (.mask (bl 1972248982454874 102) (bl 4991337935206316207995422195711 102))
 (.exit 4)))
 (.seq (.block 5 (.seq (.reg [oo 63 (.indexAddrS 32 (tq 59) (tq 61)),
   oo 64 (.load true 32 (tq 63) false),
   oo 21 (.alloc true (rp 32 (.sc (.int .u8 0)) [])),
   oz (.store 32 (tq 21) (tq 64))])
 (.seq (.reg [oo 66 (.load true 5 (tq 17) false),
   oo 67 (.move (tq 19) false),
   oo 68 (.load true 32 (tq 21) false),
   oo 69 (.move (tq 3) false),
   oo 70 (.move (tq 4) false),
   oo 71 (.call 346 [((tq 66),1),((tq 67),0),((tq 68),0),((tq 69),0),((tq 70),0)] []),
   oo 65 (.move (tq 71) true),
   oo 72 (.pull (tq 65) 0),
   oo 73 (.pull (tq 65) 1),
   oo 74 (.pull (tq 65) 2),
   oo 22 (.alloc true [(.sc (.int .u32 0)),(.sc (.bool false)),(.gs 1 []),(.gs 35 []),(.gs 32 [])]),
   oz (.store 5 (tq 22) (tq 72)),
   oo 23 (.move (tq 73) false),
   oo 24 (.move (tq 74) false)])
 (.seq (.reg [oo 76 (.load true 5 (tq 17) false),
   oo 77 (.move (tq 19) false),
   oo 78 (.load true 32 (tq 21) false),
   oo 79 (.move (tq 3) false),
   oo 80 (.move (tq 4) false),
   oo 81 (.call 347 [((tq 76),1),((tq 77),0),((tq 78),0),((tq 79),0),((tq 80),0)] []),
   oo 75 (.move (tq 81) true),
   oo 82 (.pull (tq 75) 0),
   oo 83 (.pull (tq 75) 1),
   oo 84 (.pull (tq 75) 2),
   oo 25 (.alloc true [(.sc (.int .u32 0)),(.sc (.bool false)),(.gs 1 []),(.gs 35 []),(.gs 32 [])]),
   oz (.store 5 (tq 25) (tq 82)),
   oo 26 (.move (tq 83) false),
   oo 27 (.move (tq 84) false)])
 (.seq (.reg [oo 85 (.move (tq 24) false),
   oo 86 (.move (tq 27) false),
   oo 87 (.bin .neq (tq 85) (tq 86)),
   oo 88 (.move (tq 87) false),
   ⟨(some 89),false,(some (88,false)),.move (tq 23) false⟩,
   ⟨(some 90),false,(some (88,false)),.move (tq 26) false⟩,
   ⟨(some 91),false,(some (88,false)),.bin .neq (tq 89) (tq 90)⟩,
   oo 92 (.pick (tq 88) (.const (.sc (.bool true))) (tq 91)),
   oo 93 (.move (tq 92) false),
   ⟨(some 94),false,(some (93,false)),.load true 5 (tq 22) false⟩,
   ⟨(some 95),false,(some (93,false)),.load true 5 (tq 25) false⟩,
   ⟨(some 96),false,(some (93,false)),.call 343 [((tq 94),1),((tq 95),1)] []⟩,
   ⟨(some 97),false,(some (93,false)),.un .not (tq 96)⟩,
   oo 98 (.pick (tq 93) (.const (.sc (.bool true))) (tq 97))])
 (.cond (tq 98)
 (.seq (.reg [oo 14 (.move (.const (.sc (.bool false))) false)])
 (.seq (.mask (bl 16384 102) (bl 4991337935204513853350799048191 102))
 .ret))
 .skip))))))
 (.reg [oo 99 (.bin .add (tq 61) (.const (.sc (.int .i64 1)))),
   oo 61 (.move (tq 99) false)]))))
def zh4:CC:=(.reg [oo 100 (.bin .add (tq 50) (.const (.sc (.int .i64 1)))),
   oo 50 (.move (tq 100) false)])
def zjm:CC:=(.seq (.reg [oo 51 (.bin .lss (tq 50) (tq 49))])
 (.seq (.cond (tq 51)
 .skip
 (.seq (.mask (bl 1924145349210 102) (bl 4991337935204514768144473341951 102))
 (.exit 2)))
 (.seq (.block 3 (.seq (.reg [oo 52 (.indexAddrS 1 (tq 48) (tq 50)),
   oo 53 (.load false 1 (tq 52) false),
   oo 19 (.move (tq 53) false)])
 (.seq (.dreg [] [(oo 54 (.load true 32 (tq 9) false),ql 9 [] []),
   (oo 55 (.move (tq 6) false),q0),
   (oo 56 (.call 217 [((tq 55),0),((.const (.sc (.int .i64 10))),0)] []),qc [9] []),
   (oo 57 (.conv .u8 (tq 56)),q0),
   (oo 58 (.build (rp 32 (.sc (.int .u8 0)) []) [(0,1,(tq 57))]),q0),
   (oo 59 (.buildSlice 32 2 (rp 32 (.sc (.int .u8 0)) []) [(0,32,(tq 54)),(32,32,(tq 58))]),q0),
   (oo 60 (.lenS (tq 59)),q0),
   (oo 61 (.move (.const (.sc (.int .i64 0))) false),q0)])
 (.block 4 (.loop (bl 4037197515106943578 102) (bl 4991337935206316207995422195711 102)
 zgw)))))
 zh4)))
def zl6:CC:=(.reg [oo 101 (.bin .add (tq 40) (.const (.sc (.int .i64 1)))),
   oo 40 (.move (tq 101) false)])
def znr:CC:=(.seq (.reg [oo 41 (.bin .lss (tq 40) (tq 39))])
 (.seq (.cond (tq 41)
 .skip
 (.seq (.mask (bl 0 102) (bl 4991337935204513853350799031807 102))
 (.exit 0)))
 (.seq (.block 1 (.seq (.reg [oo 42 (.indexAddrS 5 (tq 38) (tq 40)),
   oo 43 (.load true 5 (tq 42) false),
   oo 17 (.alloc true [(.sc (.int .u32 0)),(.sc (.bool false)),(.gs 1 []),(.gs 35 []),(.gs 32 [])]),
   oz (.store 5 (tq 17) (tq 43))])
 (.seq (.reg [oo 44 (.move (tq 1) false),
   oo 45 (.move (tq 1) false),
   oo 46 (.call 217 [((tq 45),0),((.const (.sc (.int .i64 8))),0)] []),
   oo 47 (.bin .sub (tq 46) (.const (.sc (.int .i64 2)))),
   oo 48 (.buildSlice 1 2 [(.sc (.int .i64 0))] [(0,1,(tq 44)),(1,1,(tq 47))]),
   oo 49 (.lenS (tq 48)),
   oo 50 (.move (.const (.sc (.int .i64 0))) false)])
 (.block 2 (.loop (bl 1972248982454874 102) (bl 4991337935204514768144473473023 102)
 zjm)))))
 zl6)))
def zpq:CC:=(.seq (.reg [oo 14 (.move (.const (.sc (.bool true))) false)])
 .ret)
def zlz:CF:=⟨102,[.tmp 14],
 (.seq (.reg [oo 9 (.box true (tq 2)),
   oo 14 (.move (.const (.sc (.bool false))) false)])
 (.seq (.seq (.reg [oo 28 (.call 332 [] []),
   oo 29 (.un .not (tq 28))])
 (.cond (tq 29)
 (.seq (.reg [oo 14 (.move (.const (.sc (.bool false))) false)])
 .ret)
 .skip))
 (.seq (.reg [oo 30 (.move (tq 0) false),
   oo 31 (.call 225 [((tq 30),0)] []),
   oo 32 (.call 339 [((tq 31),0)] []),
   oo 15 (.alloc true [(.sc (.int .u32 0)),(.sc (.bool false)),(.gs 1 []),(.gs 35 []),(.gs 32 [])]),
   oz (.store 5 (tq 15) (tq 32))])
 (.seq (.seq (.dreg [] [(oo 33 (.load true 5 (tq 15) false),ql 15 [] []),
   (oo 34 (.load true 5 (tq 15) false),ql 15 [] []),
   (oo 35 (.move (tq 5) false),q0),
   (oo 36 (.move (tq 6) false),q0),
   (oo 37 (.call 340 [((tq 34),1),((tq 35),0),((tq 36),0)] []),qc [15] []),
   (oo 38 (.buildSlice 5 2 [(.sc (.int .u32 0)),(.sc (.bool false)),(.sl 1 []),(.sl 35 []),(.sl 32 [])] [(0,5,(tq 33)),(5,5,(tq 37))]),q0),
   (oo 39 (.lenS (tq 38)),q0),
   (oo 40 (.move (.const (.sc (.int .i64 0))) false),q0)])
 (.block 0 (.loop (bl 1924145349210 102) (bl 4991337935204513853350799032319 102)
 znr)))
 zpq))))⟩
def zkc:Hint:=⟨[(3,3),(6,2),(13,6),(13,10),(14,6),(14,10)],[],[none,none,none,some ((bl 1924145349210 102),(bl 4991337935204513853350799032319 102)),none,some ((bl 0 102),(bl 4991337935204513853350799031807 102)),none,none,some ((bl 1972248982454874 102),(bl 4991337935204514768144473473023 102)),none,some ((bl 1924145349210 102),(bl 4991337935204514768144473341951 102)),none,none,some ((bl 4037197515106943578 102),(bl 4991337935206316207995422195711 102)),none,some ((bl 1972248982454874 102),(bl 4991337935206316207995422195711 102)),none,none,some ((bl 16384 102),(bl 4991337935204513853350799048191 102)),none],[],[],false,false⟩
def zAj:Nat→Sh:=xZ [(53,(.int .i64))]
def zAi (ya:yh) (xb:xj) (yb:yk) (xa:xi) (yc:zm) (yi:yz) (xr:yW) (zb:xk) (L:Nat):CBC:=(xB 343 (zgg zb L) (xB 347 (zx4 xr L) (xB 346 (zsj yi L) (xB 217 (zfx yc L) (xB 340 (zfp xa L) (xB 339 (zgs yb L) (xB 225 (zg7 xb L) (xB 332 (zeO ya L) noC))))))))
def zxH:St→St:=yT 0 (bl 1924145349210 102) (bl 4991337935204513853350799032319 102)
def zt0:St→St:=yT 0 (bl 1972248982454874 102) (bl 4991337935204514768144473473023 102)
def zqy:St→St:=yT 0 (bl 4037197515106943578 102) (bl 4991337935206316207995422195711 102)
def zwS (p1 p3 p4 p6:Int) (p38:List (List V)) (p39 p40:Int) (b9:List V) (zEP:List (List V)) (zEQ:Int):St:=⟨(jn 1 ((V.sc (.int .i64 p1))::(jn 1 ((V.sc (.int .u32 p3))::((V.sc (.int .u32 p4))::(jn 1 ((V.sc (.int .i64 p6))::(jn 2 ((V.ptr 9 0)::(jn 28 ((V.gs 5 p38)::((V.sc (.int .i64 p39))::((V.sc (.int .i64 p40))::(jn 61 [])))))))))))))),(gn 9 ((.live true b9)::(gn 21 ((.live false [(V.sl 1 zEP),(V.sc (.int .i64 zEQ))])::(gn 70 [])))))⟩
def zsP (p1 p3 p4 p6:Int) (p38:List (List V)) (p39 p40:Int) (p48:List (List V)) (p49 p50:Int) (b9 b17:List V) (zEP:List (List V)) (zEQ:Int):St:=⟨(jn 1 ((V.sc (.int .i64 p1))::(jn 1 ((V.sc (.int .u32 p3))::((V.sc (.int .u32 p4))::(jn 1 ((V.sc (.int .i64 p6))::(jn 2 ((V.ptr 9 0)::(jn 7 ((V.ptr 17 0)::(jn 20 ((V.gs 5 p38)::((V.sc (.int .i64 p39))::((V.sc (.int .i64 p40))::(jn 7 ((V.gs 1 p48)::((V.sc (.int .i64 p49))::((V.sc (.int .i64 p50))::(jn 51 [])))))))))))))))))))),(gn 9 ((.live true b9)::(gn 7 ((.live true b17)::(gn 13 ((.live false [(V.sl 1 zEP),(V.sc (.int .i64 zEQ))])::(gn 70 [])))))))⟩
def zyY (zEP:List (List V)) (zEQ:Int):St:=⟨(jn 102 []),(gn 31 ((.live false [(V.sl 1 zEP),(V.sc (.int .i64 zEQ))])::(gn 70 [])))⟩
def zpL (p1 p3 p4 p6 p19:Int) (p38:List (List V)) (p39 p40:Int) (p48:List (List V)) (p49 p50:Int) (p59:List (List V)) (p60 p61:Int) (b9 b17:List V) (zEP:List (List V)) (zEQ:Int):St:=⟨(jn 1 ((V.sc (.int .i64 p1))::(jn 1 ((V.sc (.int .u32 p3))::((V.sc (.int .u32 p4))::(jn 1 ((V.sc (.int .i64 p6))::(jn 2 ((V.ptr 9 0)::(jn 7 ((V.ptr 17 0)::(jn 1 ((V.sc (.int .i64 p19))::(jn 18 ((V.gs 5 p38)::((V.sc (.int .i64 p39))::((V.sc (.int .i64 p40))::(jn 7 ((V.gs 1 p48)::((V.sc (.int .i64 p49))::((V.sc (.int .i64 p50))::(jn 8 ((V.gs 32 p59)::((V.sc (.int .i64 p60))::((V.sc (.int .i64 p61))::(jn 40 [])))))))))))))))))))))))))),(gn 9 ((.live true b9)::(gn 7 ((.live true b17)::(gn 13 ((.live false [(V.sl 1 zEP),(V.sc (.int .i64 zEQ))])::(gn 70 [])))))))⟩
def zyz (p1 p3 p4 p6:Int) (p38:List (List V)) (p39 p40:Int) (b9:List V) (zEP:List (List V)) (zEQ:Int):St:=⟨(jn 1 ((V.sc (.int .i64 p1))::(jn 1 ((V.sc (.int .u32 p3))::((V.sc (.int .u32 p4))::(jn 1 ((V.sc (.int .i64 p6))::(jn 2 ((V.ptr 9 0)::(jn 28 ((V.gs 5 p38)::((V.sc (.int .i64 p39))::((V.sc (.int .i64 p40))::(jn 61 [])))))))))))))),(gn 9 ((.live true b9)::(gn 21 ((.live false [(V.sl 1 zEP),(V.sc (.int .i64 zEQ))])::(gn 70 [])))))⟩
def zyy (p14:Bool) (zEP:List (List V)) (zEQ:Int):St:=⟨(jn 14 ((V.sc (.bool p14))::(jn 87 []))),(gn 31 ((.live false [(V.sl 1 zEP),(V.sc (.int .i64 zEQ))])::(gn 70 [])))⟩
def zyC (p1 p3 p4 p6:Int) (p38:List (List V)) (p39 p40:Int) (p48:List (List V)) (p49 p50:Int) (b9 b17:List V) (zEP:List (List V)) (zEQ:Int):St:=⟨(jn 1 ((V.sc (.int .i64 p1))::(jn 1 ((V.sc (.int .u32 p3))::((V.sc (.int .u32 p4))::(jn 1 ((V.sc (.int .i64 p6))::(jn 2 ((V.ptr 9 0)::(jn 7 ((V.ptr 17 0)::(jn 20 ((V.gs 5 p38)::((V.sc (.int .i64 p39))::((V.sc (.int .i64 p40))::(jn 7 ((V.gs 1 p48)::((V.sc (.int .i64 p49))::((V.sc (.int .i64 p50))::(jn 51 [])))))))))))))))))))),(gn 9 ((.live true b9)::(gn 7 ((.live true b17)::(gn 13 ((.live false [(V.sl 1 zEP),(V.sc (.int .i64 zEQ))])::(gn 70 [])))))))⟩
abbrev zew (β:Type):Type:=Int→Int→Int→Int→List (List V)→Int→Int→List V→List (List V)→Int→Option β
abbrev zcd (β:Type):Type:=Int→Int→Int→Int→List (List V)→Int→Int→List (List V)→Int→Int→List V→List V→List (List V)→Int→Option β
abbrev zcz (β:Type):Type:=Int→Int→Int→Int→Int→List (List V)→Int→Int→List (List V)→Int→Int→List (List V)→Int→Int→List V→List V→List (List V)→Int→Option β
abbrev zeA (β:Type):Type:=Int→Int→Int→Int→List (List V)→Int→Int→List V→List (List V)→Int→Option β
abbrev zg1 (β:Type):Type:=Int→Int→Int→Int→List (List V)→Int→Int→List (List V)→Int→Int→List V→List V→List (List V)→Int→Option β
def zr9 {β:Type} (ya:yh) (xb:xj) (yb:yk) (xa:xi) (yc:zm) (yi:yz) (xr:yW) (zb:xk) (L:Nat) (p0:List (List V)) (p1:Int) (p2:List V) (p3 p4 p5 p6:Int) (k_fin:Bool→Option β) (k_hbbbaba:zew β):Option β :=
 ya β L  (fun v0 =>
 ifb (!v0) (
 k_fin false) (
 xb β L p0 (fun v1 v2 =>
 yb β L v1 v2 (fun v3 v4 v5 =>
 chk ((List.length v3)=5∧0+5≤5) (
 lt (zc [(V.sc (.int .u32 (0:Int))),(V.sc (.bool false)),(V.gs 1 ([]:List (List V))),(V.gs 35 ([]:List (List V))),(V.gs 32 ([]:List (List V)))] 0 v3) fun r6 =>
 chk (0+5≤(List.length r6)) (
 chk (0+5≤(List.length r6)) (
 xa β L (List.map V.dem (List.take 5 r6)) p5 p6 (fun v7 =>
 chk ((List.length (List.take 5 r6))=5∧0+5≤10) (
 chk ((List.length v7)=5∧5+5≤(List.length (zc [(V.sc (.int .u32 (0:Int))),(V.sc (.bool false)),(V.sl 1 ([]:List (List V))),(V.sl 35 ([]:List (List V))),(V.sl 32 ([]:List (List V))),(V.sc (.int .u32 (0:Int))),(V.sc (.bool false)),(V.sl 1 ([]:List (List V))),(V.sl 35 ([]:List (List V))),(V.sl 32 ([]:List (List V)))] 0 (List.take 5 r6)))) (
 k_hbbbaba p1 p3 p4 p6 (xc 5 2 (zc (zc [(V.sc (.int .u32 (0:Int))),(V.sc (.bool false)),(V.sl 1 ([]:List (List V))),(V.sl 35 ([]:List (List V))),(V.sl 32 ([]:List (List V))),(V.sc (.int .u32 (0:Int))),(V.sc (.bool false)),(V.sl 1 ([]:List (List V))),(V.sl 35 ([]:List (List V))),(V.sl 32 ([]:List (List V)))] 0 (List.take 5 r6)) 5 v7)) ((List.length (xc 5 2 (zc (zc [(V.sc (.int .u32 (0:Int))),(V.sc (.bool false)),(V.sl 1 ([]:List (List V))),(V.sl 35 ([]:List (List V))),(V.sl 32 ([]:List (List V))),(V.sc (.int .u32 (0:Int))),(V.sc (.bool false)),(V.sl 1 ([]:List (List V))),(V.sl 35 ([]:List (List V))),(V.sl 32 ([]:List (List V)))] 0 (List.take 5 r6)) 5 v7)):Nat):Int) (0:Int) p2 v4 v5))))))))))
def zie {β:Type} (ya:yh) (xb:xj) (yb:yk) (xa:xi) (yc:zm) (yi:yz) (xr:yW) (zb:xk) (L:Nat) (p1 p3 p4 p6:Int) (p38:List (List V)) (p39 p40:Int) (b9:List V) (zEP:List (List V)) (zEQ:Int) (k_hbbbabaabbaabba:zcd β) (k_x0:List (List V)→Int→Option β):Option β :=
 ifb (decide (p40 < p39)) (
 idx p38 p40 fun c8 =>
 chk ((List.length (List.take 5 c8))=5∧0+5≤5) (
 lt (zc [(V.sc (.int .u32 (0:Int))),(V.sc (.bool false)),(V.gs 1 ([]:List (List V))),(V.gs 35 ([]:List (List V))),(V.gs 32 ([]:List (List V)))] 0 (List.take 5 c8)) fun r9 =>
 yc β L p1 (8:Int) (fun v10 =>
 lt (IntKind.wrap .i64 ((v10:Int) - (2:Int))) fun x11 =>
 k_hbbbabaabbaabba p1 p3 p4 p6 p38 p39 p40 (xc 1 2 [(V.sc (.int .i64 p1)),(V.sc (.int .i64 x11))]) ((List.length (xc 1 2 [(V.sc (.int .i64 p1)),(V.sc (.int .i64 x11))]):Nat):Int) (0:Int) b9 r9 zEP zEQ))) (
 k_x0 zEP zEQ)
def zne {β:Type} (ya:yh) (xb:xj) (yb:yk) (xa:xi) (yc:zm) (yi:yz) (xr:yW) (zb:xk) (L:Nat) (zEP:List (List V)) (zEQ:Int) (k_fin:Bool→Option β):Option β :=
 k_fin true
def zeU {β:Type} (ya:yh) (xb:xj) (yb:yk) (xa:xi) (yc:zm) (yi:yz) (xr:yW) (zb:xk) (L:Nat) (p1 p3 p4 p6:Int) (p38:List (List V)) (p39 p40:Int) (p48:List (List V)) (p49 p50:Int) (b9 b17:List V) (zEP:List (List V)) (zEQ:Int) (k_hbbbabaabbaabbaabbaabba:zcz β) (k_x2:zeA β):Option β :=
 ifb (decide (p50 < p49)) (
 idx p48 p50 fun c12 =>
 cI .i64 c12 0 fun v13 =>
 chk (0+32≤(List.length b9)) (
 yc β L p6 (10:Int) (fun v14 =>
 lt (IntKind.wrap .u8 v14) fun x15 =>
 chk ((List.length (List.take 32 b9))=32∧0+32≤64) (
 chk (32=32∧32+32≤(List.length (zc (List.replicate 64 (V.sc (.int .u8 (0:Int)))) 0 (List.take 32 b9)))) (
 k_hbbbabaabbaabbaabbaabba p1 p3 p4 p6 v13 p38 p39 p40 p48 p49 p50 (xc 32 2 (zc (zc (List.replicate 64 (V.sc (.int .u8 (0:Int)))) 0 (List.take 32 b9)) 32 ([(V.sc (.int .u8 x15))]++List.replicate 31 (V.sc (.int .u8 (0:Int)))))) ((List.length (xc 32 2 (zc (zc (List.replicate 64 (V.sc (.int .u8 (0:Int)))) 0 (List.take 32 b9)) 32 ([(V.sc (.int .u8 x15))]++List.replicate 31 (V.sc (.int .u8 (0:Int)))))):Nat):Int) (0:Int) b9 b17 zEP zEQ))))) (
 k_x2 p1 p3 p4 p6 p38 p39 p40 b9 zEP zEQ)
def zek {β:Type} (ya:yh) (xb:xj) (yb:yk) (xa:xi) (yc:zm) (yi:yz) (xr:yW) (zb:xk) (L:Nat) (p1 p3 p4 p6:Int) (p38:List (List V)) (p39 p40:Int) (b9:List V) (zEP:List (List V)) (zEQ:Int) (k_hbbbaba:zew β):Option β :=
 lt (IntKind.wrap .i64 ((p40:Int)+(1:Int))) fun x16 =>
 k_hbbbaba p1 p3 p4 p6 p38 p39 x16 b9 zEP zEQ
def zcV {β:Type} (ya:yh) (xb:xj) (yb:yk) (xa:xi) (yc:zm) (yi:yz) (xr:yW) (zb:xk) (L:Nat) (p1 p3 p4 p6 p19:Int) (p38:List (List V)) (p39 p40:Int) (p48:List (List V)) (p49 p50:Int) (p59:List (List V)) (p60 p61:Int) (b9 b17:List V) (zEP:List (List V)) (zEQ:Int) (k_ret:Bool→List (List V)→Int→Option β) (k_hbbbabaabbaabbaabbaabba:zcz β) (k_x4:zg1 β):Option β :=
 ifb (decide (p61 < p60)) (
 idx p59 p61 fun c17 =>
 chk ((List.length (List.take 32 c17))=32∧0+32≤32) (
 lt (zc (List.replicate 32 (V.sc (.int .u8 (0:Int)))) 0 (List.take 32 c17)) fun r18 =>
 chk (0+5≤(List.length b17)) (
 chk (0+32≤(List.length r18)) (
 yi β L (List.map V.dem (List.take 5 b17)) p19 (List.take 32 r18) p3 p4 (fun v19 v20 v21 =>
 chk ((List.length v19)=5∧0+5≤5) (
 lt (zc [(V.sc (.int .u32 (0:Int))),(V.sc (.bool false)),(V.gs 1 ([]:List (List V))),(V.gs 35 ([]:List (List V))),(V.gs 32 ([]:List (List V)))] 0 v19) fun r22 =>
 chk (0+5≤(List.length b17)) (
 chk (0+32≤(List.length r18)) (
 xr β L (List.map V.dem (List.take 5 b17)) p19 (List.take 32 r18) p3 p4 (fun v23 v24 v25 =>
 chk ((List.length v23)=5∧0+5≤5) (
 lt (zc [(V.sc (.int .u32 (0:Int))),(V.sc (.bool false)),(V.gs 1 ([]:List (List V))),(V.gs 35 ([]:List (List V))),(V.gs 32 ([]:List (List V)))] 0 v23) fun r26 =>
 ifb ((v21:Int) != v25) (
 k_ret false zEP zEQ) (
 ifb ((v20:Int) != v24) (
 k_ret false zEP zEQ) (
 chk (0+5≤(List.length r22)) (
 chk (0+5≤(List.length r26)) (
 zb β L (List.map V.dem (List.take 5 r22)) (List.map V.dem (List.take 5 r26)) (fun v27 =>
 ifb (!v27) (
 k_ret false zEP zEQ) (
 lt (IntKind.wrap .i64 ((p61:Int)+(1:Int))) fun x28 =>
 k_hbbbabaabbaabbaabbaabba p1 p3 p4 p6 p19 p38 p39 p40 p48 p49 p50 p59 p60 x28 b9 b17 zEP zEQ)))))))))))))))) (
 k_x4 p1 p3 p4 p6 p38 p39 p40 p48 p49 p50 b9 b17 zEP zEQ)
def zfU {β:Type} (ya:yh) (xb:xj) (yb:yk) (xa:xi) (yc:zm) (yi:yz) (xr:yW) (zb:xk) (L:Nat) (p14:Bool) (zEP:List (List V)) (zEQ:Int) (k_ret:Bool→List (List V)→Int→Option β):Option β :=
 k_ret p14 zEP zEQ
def zcq {β:Type} (ya:yh) (xb:xj) (yb:yk) (xa:xi) (yc:zm) (yi:yz) (xr:yW) (zb:xk) (L:Nat) (p1 p3 p4 p6:Int) (p38:List (List V)) (p39 p40:Int) (p48:List (List V)) (p49 p50:Int) (b9 b17:List V) (zEP:List (List V)) (zEQ:Int) (k_hbbbabaabbaabba:zcd β):Option β :=
 lt (IntKind.wrap .i64 ((p50:Int)+(1:Int))) fun x29 =>
 k_hbbbabaabbaabba p1 p3 p4 p6 p38 p39 p40 p48 p49 x29 b9 b17 zEP zEQ
def ziL {β:Type} (ya:yh) (xb:xj) (yb:yk) (xa:xi) (yc:zm) (yi:yz) (xr:yW) (zb:xk) (L:Nat) (p14:Bool) (zEP:List (List V)) (zEQ:Int) (k_ret:Bool→List (List V)→Int→Option β):Option β :=
 k_ret p14 zEP zEQ
def zmM {β:Type} (ya:yh) (xb:xj) (yb:yk) (xa:xi) (yc:zm) (yi:yz) (xr:yW) (zb:xk) (L:Nat) (p14:Bool) (zEP:List (List V)) (zEQ:Int) (k_fin:Bool→Option β):Option β :=
 k_fin p14
def zad {β:Type} (ya:yh) (xb:xj) (yb:yk) (xa:xi) (yc:zm) (yi:yz) (xr:yW) (zb:xk) (L:Nat) (k_ret:Bool→List (List V)→Int→Option β) (k_x4:zg1 β):Nat→Int→Int→Int→Int→Int→List (List V)→Int→Int→List (List V)→Int→Int→List (List V)→Int→Int→List V→List V→List (List V)→Int→Option β
 | 0,_,_,_,_,_,_,_,_,_,_,_,_,_,_,_,_,_,_=>none
 | n+1,p1,p3,p4,p6,p19,p38,p39,p40,p48,p49,p50,p59,p60,p61,b9,b17,zEP,zEQ=>zcV ya xb yb xa yc yi xr zb L p1 p3 p4 p6 p19 p38 p39 p40 p48 p49 p50 p59 p60 p61 b9 b17 zEP zEQ k_ret (fun p1 p3 p4 p6 p19 p38 p39 p40 p48 p49 p50 p59 p60 p61 b9 b17 zEP zEQ=>zad ya xb yb xa yc yi xr zb L k_ret k_x4 n p1 p3 p4 p6 p19 p38 p39 p40 p48 p49 p50 p59 p60 p61 b9 b17 zEP zEQ) k_x4
def zeD {β:Type} (ya:yh) (xb:xj) (yb:yk) (xa:xi) (yc:zm) (yi:yz) (xr:yW) (zb:xk) (L:Nat) (p1 p3 p4 p6:Int) (p38:List (List V)) (p39 p40:Int) (p48:List (List V)) (p49 p50:Int) (b9 b17:List V) (zEP:List (List V)) (zEQ:Int) (k_x2:zeA β) (k_ret:Bool→List (List V)→Int→Option β) (k_hbbbabaabbaabba:zcd β):Option β :=
 zeU ya xb yb xa yc yi xr zb L p1 p3 p4 p6 p38 p39 p40 p48 p49 p50 b9 b17 zEP zEQ (fun p1 p3 p4 p6 p19 p38 p39 p40 p48 p49 p50 p59 p60 p61 b9 b17 zEP zEQ=>zad ya xb yb xa yc yi xr zb L (fun p14 zEP zEQ=>zfU ya xb yb xa yc yi xr zb L p14 zEP zEQ k_ret) (fun p1 p3 p4 p6 p38 p39 p40 p48 p49 p50 b9 b17 zEP zEQ=>zcq ya xb yb xa yc yi xr zb L p1 p3 p4 p6 p38 p39 p40 p48 p49 p50 b9 b17 zEP zEQ k_hbbbabaabbaabba) L p1 p3 p4 p6 p19 p38 p39 p40 p48 p49 p50 p59 p60 p61 b9 b17 zEP zEQ) k_x2
def za4 {β:Type} (ya:yh) (xb:xj) (yb:yk) (xa:xi) (yc:zm) (yi:yz) (xr:yW) (zb:xk) (L:Nat) (k_x2:zeA β) (k_ret:Bool→List (List V)→Int→Option β):Nat→Int→Int→Int→Int→List (List V)→Int→Int→List (List V)→Int→Int→List V→List V→List (List V)→Int→Option β
 | 0,_,_,_,_,_,_,_,_,_,_,_,_,_,_=>none
 | n+1,p1,p3,p4,p6,p38,p39,p40,p48,p49,p50,b9,b17,zEP,zEQ=>zeD ya xb yb xa yc yi xr zb L p1 p3 p4 p6 p38 p39 p40 p48 p49 p50 b9 b17 zEP zEQ k_x2 k_ret (fun p1 p3 p4 p6 p38 p39 p40 p48 p49 p50 b9 b17 zEP zEQ=>za4 ya xb yb xa yc yi xr zb L k_x2 k_ret n p1 p3 p4 p6 p38 p39 p40 p48 p49 p50 b9 b17 zEP zEQ)
def zhH {β:Type} (ya:yh) (xb:xj) (yb:yk) (xa:xi) (yc:zm) (yi:yz) (xr:yW) (zb:xk) (L:Nat) (p1 p3 p4 p6:Int) (p38:List (List V)) (p39 p40:Int) (b9:List V) (zEP:List (List V)) (zEQ:Int) (k_x0:List (List V)→Int→Option β) (k_hbbbaba:zew β) (k_ret:Bool→List (List V)→Int→Option β):Option β :=
 zie ya xb yb xa yc yi xr zb L p1 p3 p4 p6 p38 p39 p40 b9 zEP zEQ (fun p1 p3 p4 p6 p38 p39 p40 p48 p49 p50 b9 b17 zEP zEQ=>za4 ya xb yb xa yc yi xr zb L (fun p1 p3 p4 p6 p38 p39 p40 b9 zEP zEQ=>zek ya xb yb xa yc yi xr zb L p1 p3 p4 p6 p38 p39 p40 b9 zEP zEQ k_hbbbaba) (fun p14 zEP zEQ=>ziL ya xb yb xa yc yi xr zb L p14 zEP zEQ k_ret) L p1 p3 p4 p6 p38 p39 p40 p48 p49 p50 b9 b17 zEP zEQ) k_x0
def zcO {β:Type} (ya:yh) (xb:xj) (yb:yk) (xa:xi) (yc:zm) (yi:yz) (xr:yW) (zb:xk) (L:Nat) (k_x0:List (List V)→Int→Option β) (k_ret:Bool→List (List V)→Int→Option β):Nat→Int→Int→Int→Int→List (List V)→Int→Int→List V→List (List V)→Int→Option β
 | 0,_,_,_,_,_,_,_,_,_,_=>none
 | n+1,p1,p3,p4,p6,p38,p39,p40,b9,zEP,zEQ=>zhH ya xb yb xa yc yi xr zb L p1 p3 p4 p6 p38 p39 p40 b9 zEP zEQ k_x0 (fun p1 p3 p4 p6 p38 p39 p40 b9 zEP zEQ=>zcO ya xb yb xa yc yi xr zb L k_x0 k_ret n p1 p3 p4 p6 p38 p39 p40 b9 zEP zEQ) k_ret
def zse {β:Type} (ya:yh) (xb:xj) (yb:yk) (xa:xi) (yc:zm) (yi:yz) (xr:yW) (zb:xk) (L:Nat) (p0:List (List V)) (p1:Int) (p2:List V) (p3 p4 p5 p6:Int) (k_fin:Bool→Option β):Option β :=
 zr9 ya xb yb xa yc yi xr zb L p0 p1 p2 p3 p4 p5 p6 k_fin (fun p1 p3 p4 p6 p38 p39 p40 b9 zEP zEQ=>zcO ya xb yb xa yc yi xr zb L (fun zEP zEQ=>zne ya xb yb xa yc yi xr zb L zEP zEQ k_fin) (fun p14 zEP zEQ=>zmM ya xb yb xa yc yi xr zb L p14 zEP zEQ k_fin) L p1 p3 p4 p6 p38 p39 p40 b9 zEP zEQ)
abbrev zsn:=∀ (β:Type),Nat→List (List V)→Int→List V→Int→Int→Int→Int→(Bool→Option β)→Option β
def zmO (β:Type) (L:Nat) (p0:List (List V)) (p1:Int) (p2:List V) (p3 p4 p5 p6:Int) (k_fin:Bool→Option β):Option β:=zse ya xb yb xa yc yi xr zb L p0 p1 p2 p3 p4 p5 p6 k_fin
def zAG (zmO:zsn) (L:Nat) (β:Type) (args:List V) (bor:Bor) (k:KK β):Option β:=match args,bor with
 | [a0,a1,a2,a3,a4,a5,a6],[]=>aL 1 a0 fun p0=>aI .i64 a1 fun p1=>aG a2 fun p2=>aI .u32 a3 fun p3=>aI .u32 a4 fun p4=>aI .i64 a5 fun p5=>aI .i64 a6 fun p6=>zmO β L p0 p1 p2 p3 p4 p5 p6 (fun p0=>k (V.sc (.bool p0)) [])
 | _,_=>none
def zo8:CC:=(.seq (.reg [oo 9 (.bin .lss (tq 8) (tq 7))])
 (.seq (.cond (tq 9)
 .skip
 (.seq (.mask (bl 0 19) (bl 458703 19))
 (.exit 0)))
 (.seq (.block 1 (.seq (.reg [oo 10 (.move (tq 8) false),
   oo 5 (.move (tq 10) false)])
 (.seq (.reg [oo 11 (.move (tq 1) false),
   oo 12 (.move (tq 0) false),
   oo 13 (.move (tq 5) false),
   oo 14 (.indexAddrS 35 (tq 12) (tq 13)),
   oo 15 (.load true 35 (tq 14) false),
   oo 16 (.callv (tq 11) [((tq 15),0)] [])])
 (.cond (tq 16)
 (.seq (.reg [oo 17 (.move (tq 5) false),
   oo 4 (.move (tq 17) false)])
 (.seq (.mask (bl 16 19) (bl 458719 19))
 .ret))
 .skip))))
 (.reg [oo 18 (.bin .add (tq 8) (.const (.sc (.int .i64 1)))),
   oo 8 (.move (tq 18) false)]))))
def zpU:CC:=(.seq (.reg [oo 4 (.move (.const (.sc (.int .i64 (-1)))) false)])
 .ret)
def zqv:CF:=zao
def zqr:Nat→Sh:=xZ []
def zqw (yv:yY) (L:Nat):CBC:=(xB 373 (zqj yv L) noC)
def zpB:St→St:=yT 2 (bl 387 19) (bl 458703 19)
def zoC (p0l:Nat) (p7 p8:Int) (b0 b1:List V):St:=⟨((V.own 0 0 p0l 35)::((V.fn 373 [(V.ptr 1 0)])::(jn 5 ((V.sc (.int .i64 p7))::((V.sc (.int .i64 p8))::(jn 10 [])))))),((.live true b0)::((.live true b1)::(gn 19 [])))⟩
def zoS (p4:Int) (b0 b1:List V):St:=⟨(jn 4 ((V.sc (.int .i64 p4))::(jn 14 []))),((.live true b0)::((.live true b1)::(gn 19 [])))⟩
def zpi (b0 b1:List V):St:=⟨(jn 19 []),((.live true b0)::((.live true b1)::(gn 19 [])))⟩
def zgD {β:Type} (yv:yY) (L:Nat) (p0l:Nat) (b0 b1:List V) (k_hbaba:Nat→Int→Int→List V→List V→Option β):Option β :=
 k_hbaba p0l ((p0l:Nat):Int) (0:Int) b0 b1
def zfN {β:Type} (yv:yY) (L:Nat) (p0l:Nat) (p7 p8:Int) (b0 b1:List V) (k_ret:Int→List V→List V→Option β) (k_hbaba:Nat→Int→Int→List V→List V→Option β) (k_x0:List V→List V→Option β):Option β :=
 ifb (decide (p8 < p7)) (
 chk (0≤p8∧p8 < ((p0l:Nat):Int)) (
 chk ((0+((Int.toNat p8) * 35))+35≤(List.length b0)) (
 yv β L (List.take 35 (List.drop (0+((Int.toNat p8) * 35)) b0)) b1 (fun v0 v1 =>
 chk ([(List.length v1)]=[(List.length b1)]) (
 ifb v0 (
 k_ret p8 b0 v1) (
 lt (IntKind.wrap .i64 ((p8:Int)+(1:Int))) fun x2 =>
 k_hbaba p0l p7 x2 b0 v1)))))) (
 k_x0 b0 b1)
def zfc {β:Type} (yv:yY) (L:Nat) (p4:Int) (b0 b1:List V) (k_fin:Int→List V→List V→Option β):Option β :=
 k_fin p4 b0 b1
def zfl {β:Type} (yv:yY) (L:Nat) (b0 b1:List V) (k_fin:Int→List V→List V→Option β):Option β :=
 k_fin (-1:Int) b0 b1
def zb5 {β:Type} (yv:yY) (L:Nat) (k_ret:Int→List V→List V→Option β) (k_x0:List V→List V→Option β):Nat→Nat→Int→Int→List V→List V→Option β
 | 0,_,_,_,_,_=>none
 | n+1,p0l,p7,p8,b0,b1=>zfN yv L p0l p7 p8 b0 b1 k_ret (fun p0l p7 p8 b0 b1=>zb5 yv L k_ret k_x0 n p0l p7 p8 b0 b1) k_x0
def zg6 {β:Type} (yv:yY) (L:Nat) (p0l:Nat) (b0 b1:List V) (k_fin:Int→List V→List V→Option β):Option β :=
 zgD yv L p0l b0 b1 (fun p0l p7 p8 b0 b1=>zb5 yv L (fun p4 b0 b1=>zfc yv L p4 b0 b1 k_fin) (fun b0 b1=>zfl yv L b0 b1 k_fin) L p0l p7 p8 b0 b1)
abbrev za7:=∀ (β:Type),Nat→Nat→List V→List V→(Int→List V→List V→Option β)→Option β
def xJ (β:Type) (L:Nat) (p0l:Nat) (b0 b1:List V) (k_fin:Int→List V→List V→Option β):Option β:=zg6 yv L p0l b0 b1 k_fin
def zgG (xJ:za7) (L:Nat) (β:Type) (args:List V) (bor:Bor) (k:KK β):Option β:=match args,bor with
 | [a0,a1],[(.live true b0),(.live true b1)]=>aO0 0 35 a0 fun p0l=>aF 373 [(1,0)] a1 (xJ β L p0l b0 b1 (fun p0 b0 b1=>k (V.sc (.int .i64 p0)) [(.live true b0),(.live true b1)]))
 | _,_=>none
def zBh:CF:=zmW
def zBW:Nat→Sh:=xZ []
def zBx (xJ:za7) (L:Nat):CBC:=(xB 372 (zgG xJ L) noC)
def zuO {β:Type} (xJ:za7) (L:Nat) (zE0:Int) (zE1:Bool) (zFi zFh zFj:Nat) (p1 b0 b1 b2:List V) (k_fin:Int→List V→List V→List V→Option β):Option β :=
 xJ β L zFh b1 p1 (fun v0 v1 v2 =>
 chk ([(List.length v1),(List.length v2)]=[(List.length b1),(List.length p1)]) (
 k_fin v0 b0 v1 b2))
abbrev zk0:=∀ (β:Type),Nat→Int→Bool→Nat→Nat→Nat→List V→List V→List V→List V→(Int→List V→List V→List V→Option β)→Option β
def zcJ (β:Type) (L:Nat) (zE0:Int) (zE1:Bool) (zFi zFh zFj:Nat) (p1 b0 b1 b2:List V) (k_fin:Int→List V→List V→List V→Option β):Option β:=zuO xJ L zE0 zE1 zFi zFh zFj p1 b0 b1 b2 k_fin
def zvg (zcJ:zk0) (L:Nat) (β:Type) (args:List V) (bor:Bor) (k:KK β):Option β:=match args,bor with
 | [(.st [a0_0,a0_1,a0_2,a0_3,a0_4]),a1],[(.live true b0),(.live true b1),(.live true b2)]=>aI .u32 a0_0 fun zE0=>aB a0_1 fun zE1=>aO0 0 1 a0_2 fun zFi=>aO0 1 35 a0_3 fun zFh=>aO0 2 32 a0_4 fun zFj=>aG a1 fun p1=>zcJ β L zE0 zE1 zFi zFh zFj p1 b0 b1 b2 (fun p0 b0 b1 b2=>k (V.sc (.int .i64 p0)) [(.live true b0),(.live true b1),(.live true b2)])
 | _,_=>none
def zd2:CF:=⟨33,[.tmp 6],
 (.seq (.reg [oo 6 (.move (.const (.gs 35 [])) true)])
 (.seq (.reg [oo 8 (.move (tq 0) false),
   oo 9 (.move (tq 1) false),
   oo 10 (.move (tq 2) false),
   oo 11 (.move (tq 0) false),
   oo 12 (.lenS (tq 11)),
   oo 13 (.sliceS 35 (tq 8) (some (tq 9)) (some (tq 10)) (some (tq 12)))])
 (.seq (.seq (.reg [oo 14 (.move (tq 1) false),
   oo 15 (.move (tq 2) false),
   oo 16 (.bin .eql (tq 14) (tq 15))])
 (.cond (tq 16)
 (.seq (.reg [oo 17 (.move (tq 0) true),
   oo 6 (.move (tq 17) true)])
 .ret)
 .skip))
 (.seq (.reg [oo 18 (.move (tq 0) false),
   oo 19 (.lenS (tq 18)),
   oo 7 (.move (tq 19) false)])
 (.seq (.dreg [] [(oo 20 (.move (tq 0) false),q0),
   (oo 21 (.move (tq 1) false),q0),
   (oo 22 (.sliceC 35 (tq 20) (some (tq 21))),q0),
   (oo 23 (.move (tq 0) false),q0),
   (oo 24 (.move (tq 2) false),q0),
   (oo 25 (.sliceS 35 (tq 23) (some (tq 24)) none none),q0),
   (oo 26 (.append 35 56 (tq 22) (tq 25)),q0),
   (oo 0 (.move (tq 26) true),q0)])
 (.seq (.reg [oo 27 (.move (tq 0) false),
   oo 28 (.move (tq 0) false),
   oo 29 (.lenS (tq 28)),
   oo 30 (.move (tq 7) false),
   oo 31 (.sliceS 35 (tq 27) (some (tq 29)) (some (tq 30)) none),
   oz (.clear 35 (rp 32 (.sc (.int .u8 0)) (rp 2 (.sc (.int .i64 0)) (rp 1 (.sc (.int .u32 0)) []))) (tq 31))])
 (.seq (.reg [oo 32 (.move (tq 0) true),
   oo 6 (.move (tq 32) true)])
 .ret)))))))⟩
def zdv:Hint:=⟨[(0,0),(3,0),(3,1),(5,2),(5,7),(7,0),(7,1)],[],[none,none,none],[],[],false,false⟩
def zsR:Nat→Sh:=xZ []
def zsT (L:Nat):CBC:=noC
def ziX {β:Type} (L:Nat) (p0l:Nat) (p1 p2:Int) (b0:List V) (k_fin:Nat→List V→Option β):Option β :=
 chk (0≤((p0l:Nat):Int)∧((p0l:Nat):Int)≤((p0l:Nat):Int)) (
 chk (0≤p2∧p2≤(((Int.toNat ((p0l:Nat):Int)):Nat):Int)) (
 chk (0≤p1∧p1≤(((Int.toNat p2):Nat):Int)) (
 ifb (decide ((Int.toNat ((p0l:Nat):Int))=(Int.toNat p1))) (
 ifb ((p1:Int) == p2) (
 k_fin p0l b0) (
 chk (0≤p1∧p1≤((p0l:Nat):Int)) (
 chk (0≤p2∧p2≤((p0l:Nat):Int)) (
 chk ((Int.toNat p1)+List.length (xc 35 (p0l - (Int.toNat p2)) (List.drop (0+((Int.toNat p2) * 35)) b0))≤p0l) (
 lt (zc b0 ((Int.toNat p1) * 35) (List.flatten (xc 35 (p0l - (Int.toNat p2)) (List.drop (0+((Int.toNat p2) * 35)) b0)))) fun r0 =>
 chk (0≤((p0l:Nat):Int)∧((p0l:Nat):Int)≤((p0l:Nat):Int)) (
 chk (0≤((((Int.toNat p1)+List.length (xc 35 (p0l - (Int.toNat p2)) (List.drop (0+((Int.toNat p2) * 35)) b0))):Nat):Int)∧((((Int.toNat p1)+List.length (xc 35 (p0l - (Int.toNat p2)) (List.drop (0+((Int.toNat p2) * 35)) b0))):Nat):Int)≤(((Int.toNat ((p0l:Nat):Int)):Nat):Int)) (
 lt (zc r0 (0+((Int.toNat ((((Int.toNat p1)+List.length (xc 35 (p0l - (Int.toNat p2)) (List.drop (0+((Int.toNat p2) * 35)) b0))):Nat):Int)) * 35)) (List.flatten (List.replicate ((Int.toNat ((p0l:Nat):Int)) - (Int.toNat ((((Int.toNat p1)+List.length (xc 35 (p0l - (Int.toNat p2)) (List.drop (0+((Int.toNat p2) * 35)) b0))):Nat):Int))) (List.replicate 32 (V.sc (.int .u8 (0:Int)))++[(V.sc (.int .i64 (0:Int))),(V.sc (.int .i64 (0:Int))),(V.sc (.int .u32 (0:Int)))])))) fun r1 =>
 k_fin ((Int.toNat p1)+List.length (xc 35 (p0l - (Int.toNat p2)) (List.drop (0+((Int.toNat p2) * 35)) b0))) r1))))))) (
 ifb ((p1:Int) == p2) (
 k_fin p0l b0) (
 chk (0≤p1∧p1≤((p0l:Nat):Int)) (
 chk (0≤p2∧p2≤((p0l:Nat):Int)) (
 chk ((Int.toNat p1)+List.length (xc 35 (p0l - (Int.toNat p2)) (List.drop (0+((Int.toNat p2) * 35)) b0))≤p0l) (
 lt (zc b0 ((Int.toNat p1) * 35) (List.flatten (xc 35 (p0l - (Int.toNat p2)) (List.drop (0+((Int.toNat p2) * 35)) b0)))) fun r2 =>
 chk (0≤((p0l:Nat):Int)∧((p0l:Nat):Int)≤((p0l:Nat):Int)) (
 chk (0≤((((Int.toNat p1)+List.length (xc 35 (p0l - (Int.toNat p2)) (List.drop (0+((Int.toNat p2) * 35)) b0))):Nat):Int)∧((((Int.toNat p1)+List.length (xc 35 (p0l - (Int.toNat p2)) (List.drop (0+((Int.toNat p2) * 35)) b0))):Nat):Int)≤(((Int.toNat ((p0l:Nat):Int)):Nat):Int)) (
 lt (zc r2 (0+((Int.toNat ((((Int.toNat p1)+List.length (xc 35 (p0l - (Int.toNat p2)) (List.drop (0+((Int.toNat p2) * 35)) b0))):Nat):Int)) * 35)) (List.flatten (List.replicate ((Int.toNat ((p0l:Nat):Int)) - (Int.toNat ((((Int.toNat p1)+List.length (xc 35 (p0l - (Int.toNat p2)) (List.drop (0+((Int.toNat p2) * 35)) b0))):Nat):Int))) (List.replicate 32 (V.sc (.int .u8 (0:Int)))++[(V.sc (.int .i64 (0:Int))),(V.sc (.int .i64 (0:Int))),(V.sc (.int .u32 (0:Int)))])))) fun r3 =>
 k_fin ((Int.toNat p1)+List.length (xc 35 (p0l - (Int.toNat p2)) (List.drop (0+((Int.toNat p2) * 35)) b0))) r3))))))))))
abbrev zbV:=∀ (β:Type),Nat→Nat→Int→Int→List V→(Nat→List V→Option β)→Option β
def yO (β:Type) (L:Nat) (p0l:Nat) (p1 p2:Int) (b0:List V) (k_fin:Nat→List V→Option β):Option β:=ziX L p0l p1 p2 b0 k_fin
def zi6 (yO:zbV) (L:Nat) (β:Type) (args:List V) (bor:Bor) (k:KK β):Option β:=match args,bor with
 | [a0,a1,a2],[(.live true b0)]=>aO0 0 35 a0 fun p0l=>aI .i64 a1 fun p1=>aI .i64 a2 fun p2=>yO β L p0l p1 p2 b0 (fun p0l b0=>k (V.own 0 0 p0l 35) [(.live true b0)])
 | _,_=>none
def zqb:CF:=⟨45,[.cellS 4 5 true,.tmpP 5],
 (.seq (.reg [oo 2 (.box false (tq 0)),
   oo 3 (.box true (tq 1)),
   oo 4 (.alloc false [(.sc (.int .u32 0)),(.sc (.bool false)),(.gs 1 []),(.gs 35 []),(.gs 32 [])]),
   oo 5 (.move (.const (.sc (.int .i64 0))) false)])
 (.seq (.block 0 (.seq (.reg [oo 8 (.load true 5 (tq 2) false),
   oo 9 (.call 356 [((tq 8),1)] []),
   oo 10 (.un .not (tq 9)),
   oo 7 (.move (tq 10) false)])
 (.cond (tq 7)
 (.seq (.reg [oo 11 (.build [(.sc (.int .u32 0)),(.sc (.bool false)),(.sl 1 []),(.sl 35 []),(.sl 32 [])] []),
   oz (.store 5 (tq 4) (tq 11)),
   oo 5 (.move (.const (.sc (.int .i64 6))) false)])
 .ret)
 (.seq (.reg [oo 13 (.fieldAddr 4 (tq 2)),
   oo 14 (.load false 1 (tq 13) false),
   oo 15 (.load true 32 (tq 3) false),
   oo 16 (.call 248 [((tq 14),2),((tq 15),2)] []),
   oo 12 (.move (tq 16) false)])
 (.cond (tq 12)
 (.seq (.reg [oo 17 (.build [(.sc (.int .u32 0)),(.sc (.bool false)),(.sl 1 []),(.sl 35 []),(.sl 32 [])] []),
   oz (.store 5 (tq 4) (tq 17)),
   oo 5 (.move (.const (.sc (.int .i64 150))) false)])
 .ret)
 (.seq (.reg [oo 19 (.fieldAddr 4 (tq 2)),
   oo 20 (.load false 1 (tq 19) false),
   oo 21 (.lenS (tq 20)),
   oo 22 (.bin .geq (tq 21) (.const (.sc (.int .i64 2048)))),
   oo 18 (.move (tq 22) false)])
 (.cond (tq 18)
 (.seq (.reg [oo 23 (.build [(.sc (.int .u32 0)),(.sc (.bool false)),(.sl 1 []),(.sl 35 []),(.sl 32 [])] []),
   oz (.store 5 (tq 4) (tq 23)),
   oo 5 (.move (.const (.sc (.int .i64 380))) false)])
 .ret)
 .skip)))))))
 (.seq (.reg [oo 24 (.load true 5 (tq 2) false),
   oo 25 (.call 358 [((tq 24),1)] [10,13,19]),
   oz (.store 5 (tq 2) (tq 25))])
 (.seq (.seq (.reg [oo 26 (.load true 5 (tq 2) true),
   oo 27 (.load true 32 (tq 3) false),
   oo 28 (.call 363 [((tq 26),3),((tq 27),2)] []),
   oo 6 (.move (tq 28) false)])
 (.seq (.reg [oo 29 (.move (tq 6) false),
   oo 30 (.bin .geq (tq 29) (.const (.sc (.int .i64 0))))])
 (.cond (tq 30)
 (.reg [oo 31 (.fieldAddr 3 (tq 2)),
   oo 32 (.load false 1 (tq 31) false),
   oo 33 (.move (tq 6) false),
   oo 34 (.move (tq 6) false),
   oo 35 (.bin .add (tq 34) (.const (.sc (.int .i64 1)))),
   oo 36 (.call 366 [((tq 32),2),((tq 33),2),((tq 35),2)] []),
   oo 37 (.fieldAddr 3 (tq 2)),
   oz (.store 1 (tq 37) (tq 36))])
 .skip)))
 (.seq (.reg [oo 38 (.fieldAddr 4 (tq 2)),
   oo 39 (.load false 1 (tq 38) true),
   oo 40 (.load true 32 (tq 3) false),
   oo 41 (.buildSlice 32 1 (rp 32 (.sc (.int .u8 0)) []) [(0,32,(tq 40))]),
   oo 42 (.append 32 32 (tq 39) (tq 41)),
   oo 43 (.fieldAddr 4 (tq 2)),
   oz (.store 1 (tq 43) (tq 42))])
 (.seq (.reg [oo 44 (.load true 5 (tq 2) true),
   oz (.store 5 (tq 4) (tq 44)),
   oo 5 (.move (.const (.sc (.int .i64 0))) false)])
 .ret))))))⟩
def zoc:Hint:=⟨[(3,3),(8,0),(8,2),(10,5),(11,1),(12,0)],[],[none,none,none,none,none,none,none,none,none],[],[(7,1,[10,13,19])],true,true⟩
def zCw:Nat→Sh:=xZ [(2,(.row [(.int .u32),.bool,(.sl 1),(.sl 35),(.sl 32)]))]
def zCS (ym:xS) (yu:z5) (zl:yP) (zcJ:zk0) (yO:zbV) (L:Nat):CBC:=(xB 366 (zi6 yO L) (xB 363 (zvg zcJ L) (xB 358 (zdn zl L) (xB 248 (zdH yu L) (xB 356 (zd9 ym L) noC)))))
def zw5 {β:Type} (ym:xS) (yu:z5) (zl:yP) (zcJ:zk0) (yO:zbV) (L:Nat) (p0 p1:List V) (k_fin:List V→Int→Option β):Option β :=
 chk (List.length p0=5) (
 cI .u32 p0 0 fun v0 =>
 cB p0 1 fun v1 =>
 cL 1 p0 2 fun v2 =>
 cL 35 p0 3 fun v3 =>
 cL 32 p0 4 fun v4 =>
 ym β L [(V.sc (.int .u32 v0)),(V.sc (.bool v1)),(V.sl 1 v2),(V.sl 35 v3),(V.sl 32 v4)] (fun v5 =>
 ifb (!v5) (
 k_fin [(V.sc (.int .u32 (0:Int))),(V.sc (.bool false)),(V.sl 1 ([]:List (List V))),(V.sl 35 ([]:List (List V))),(V.sl 32 ([]:List (List V)))] (6:Int)) (
 chk (0+32≤(List.length p1)) (
 yu β L v4 (List.take 32 p1) (fun v6 =>
 ifb v6 (
 k_fin [(V.sc (.int .u32 (0:Int))),(V.sc (.bool false)),(V.sl 1 ([]:List (List V))),(V.sl 35 ([]:List (List V))),(V.sl 32 ([]:List (List V)))] (150:Int)) (
 ifb (decide (((List.length v4:Nat):Int) ≥ (2048:Int))) (
 k_fin [(V.sc (.int .u32 (0:Int))),(V.sc (.bool false)),(V.sl 1 ([]:List (List V))),(V.sl 35 ([]:List (List V))),(V.sl 32 ([]:List (List V)))] (380:Int)) (
 zl β L [(V.sc (.int .u32 v0)),(V.sc (.bool v1)),(V.sl 1 v2),(V.sl 35 v3),(V.sl 32 v4)] (fun v7 v8 v9 v10 v11 v12 v13 v14 =>
 chk (0+32≤(List.length p1)) (
 zcJ β L v7 v8 v9 v10 v11 (List.take 32 p1) v12 v13 v14 (fun v15 v16 v17 v18 =>
 chk ([(List.length v16),(List.length v17),(List.length v18)]=[(List.length v12),(List.length v13),(List.length v14)]) (
 ifb (decide (v15 ≥ (0:Int))) (
 lt (IntKind.wrap .i64 ((v15:Int)+(1:Int))) fun x19 =>
 yO β L v10 v15 x19 v17 (fun v20 v21 =>
 chk ([(List.length v21)]=[(List.length v17)]) (
 chk (0+32≤(List.length p1)) (
 chk ((List.length (List.take 32 p1))=32∧0+32≤32) (
 chk ((v11+List.length (xc 32 1 (zc (List.replicate 32 (V.sc (.int .u8 (0:Int)))) 0 (List.take 32 p1)))) * 32≤zj∧(v11+List.length (xc 32 1 (zc (List.replicate 32 (V.sc (.int .u8 (0:Int)))) 0 (List.take 32 p1))))≤zj∧((v11+List.length (xc 32 1 (zc (List.replicate 32 (V.sc (.int .u8 (0:Int)))) 0 (List.take 32 p1))))≠0∨(List.length v18)=0)) (
 lt (List.take (v11 * 32) v18++List.flatten (xc 32 1 (zc (List.replicate 32 (V.sc (.int .u8 (0:Int)))) 0 (List.take 32 p1)))) fun r22 =>
 k_fin [(V.sc (.int .u32 v7)),(V.sc (.bool v8)),(V.sl 1 (xc 1 v9 v16)),(V.sl 35 (xc 35 v20 v21)),(V.sl 32 (xc 32 (v11+List.length (xc 32 1 (zc (List.replicate 32 (V.sc (.int .u8 (0:Int)))) 0 (List.take 32 p1)))) r22))] (0:Int))))))) (
 chk (0+32≤(List.length p1)) (
 chk ((List.length (List.take 32 p1))=32∧0+32≤32) (
 chk ((v11+List.length (xc 32 1 (zc (List.replicate 32 (V.sc (.int .u8 (0:Int)))) 0 (List.take 32 p1)))) * 32≤zj∧(v11+List.length (xc 32 1 (zc (List.replicate 32 (V.sc (.int .u8 (0:Int)))) 0 (List.take 32 p1))))≤zj∧((v11+List.length (xc 32 1 (zc (List.replicate 32 (V.sc (.int .u8 (0:Int)))) 0 (List.take 32 p1))))≠0∨(List.length v18)=0)) (
 lt (List.take (v11 * 32) v18++List.flatten (xc 32 1 (zc (List.replicate 32 (V.sc (.int .u8 (0:Int)))) 0 (List.take 32 p1)))) fun r23 =>
 k_fin [(V.sc (.int .u32 v7)),(V.sc (.bool v8)),(V.sl 1 (xc 1 v9 v16)),(V.sl 35 (xc 35 v10 v17)),(V.sl 32 (xc 32 (v11+List.length (xc 32 1 (zc (List.replicate 32 (V.sc (.int .u8 (0:Int)))) 0 (List.take 32 p1)))) r23))] (0:Int))))))))))))))))
abbrev xx:=∀ (β:Type),Nat→List V→List V→(List V→Int→Option β)→Option β
def zi (β:Type) (L:Nat) (p0 p1:List V) (k_fin:List V→Int→Option β):Option β:=zw5 ym yu zl zcJ yO L p0 p1 k_fin
def zre (zi:xx) (L:Nat) (β:Type) (args:List V) (bor:Bor) (k:KK β):Option β:=match args,bor with
 | [a0,a1],[]=>aG a0 fun p0=>aG a1 fun p1=>zi β L p0 p1 (fun zE0 zE1=>k (V.tup [(V.agg zE0),(V.sc (.int .i64 zE1))]) [])
 | _,_=>none
def zpY:CF:=⟨53,[.cellS 4 5 true,.tmpP 5],
 (.seq (.reg [oo 2 (.box true (tq 0)),
   oo 3 (.box true (tq 1)),
   oo 4 (.alloc false [(.sc (.int .u32 0)),(.sc (.bool false)),(.gs 1 []),(.gs 35 []),(.gs 32 [])]),
   oo 5 (.move (.const (.sc (.int .i64 0))) false)])
 (.seq (.block 0 (.seq (.reg [oo 9 (.load true 5 (tq 2) false),
   oo 10 (.call 362 [((tq 9),1)] []),
   oo 11 (.un .not (tq 10)),
   oo 8 (.move (tq 11) false)])
 (.cond (tq 8)
 (.seq (.reg [oo 12 (.build [(.sc (.int .u32 0)),(.sc (.bool false)),(.sl 1 []),(.sl 35 []),(.sl 32 [])] []),
   oz (.store 5 (tq 4) (tq 12)),
   oo 5 (.move (.const (.sc (.int .i64 6))) false)])
 .ret)
 (.seq (.reg [oo 14 (.fieldAddr 4 (tq 2)),
   oo 15 (.load false 1 (tq 14) false),
   oo 16 (.load true 32 (tq 3) false),
   oo 17 (.call 365 [((tq 15),0),((tq 16),0)] []),
   oo 13 (.move (tq 17) false)])
 (.cond (tq 13)
 (.seq (.reg [oo 18 (.build [(.sc (.int .u32 0)),(.sc (.bool false)),(.sl 1 []),(.sl 35 []),(.sl 32 [])] []),
   oz (.store 5 (tq 4) (tq 18)),
   oo 5 (.move (.const (.sc (.int .i64 150))) false)])
 .ret)
 (.seq (.reg [oo 20 (.fieldAddr 4 (tq 2)),
   oo 21 (.load false 1 (tq 20) false),
   oo 22 (.lenS (tq 21)),
   oo 23 (.bin .geq (tq 22) (.const (.sc (.int .i64 2048)))),
   oo 19 (.move (tq 23) false)])
 (.cond (tq 19)
 (.seq (.reg [oo 24 (.build [(.sc (.int .u32 0)),(.sc (.bool false)),(.sl 1 []),(.sl 35 []),(.sl 32 [])] []),
   oz (.store 5 (tq 4) (tq 24)),
   oo 5 (.move (.const (.sc (.int .i64 380))) false)])
 .ret)
 .skip)))))))
 (.seq (.reg [oo 25 (.load true 5 (tq 2) false),
   oo 26 (.call 355 [((tq 25),1)] [11,14,20]),
   oo 6 (.alloc false [(.sc (.int .u32 0)),(.sc (.bool false)),(.gs 1 []),(.gs 35 []),(.gs 32 [])]),
   oz (.store 5 (tq 6) (tq 26))])
 (.seq (.seq (.reg [oo 27 (.fieldAddr 3 (tq 2)),
   oo 28 (.load false 1 (tq 27) false),
   oo 29 (.load true 32 (tq 3) false),
   oo 30 (.call 364 [((tq 28),0),((tq 29),0)] []),
   oo 7 (.move (tq 30) false)])
 (.seq (.reg [oo 31 (.move (tq 7) false),
   oo 32 (.bin .geq (tq 31) (.const (.sc (.int .i64 0))))])
 (.cond (tq 32)
 (.dreg [] [(oo 33 (.buildSlice 35 0 (rp 32 (.sc (.int .u8 0)) (rp 2 (.sc (.int .i64 0)) (rp 1 (.sc (.int .u32 0)) []))) []),qn [2] []),
   (oo 34 (.fieldAddr 3 (tq 2)),q0),
   (oo 35 (.load false 1 (tq 34) false),ql 2 [] [33]),
   (oo 36 (.move (tq 7) false),q0),
   (oo 37 (.sliceS 35 (tq 35) none (some (tq 36)) none),q0),
   (oo 38 (.append 35 56 (tq 33) (tq 37)),qn [2] []),
   (oo 39 (.fieldAddr 3 (tq 2)),q0),
   (oo 40 (.load false 1 (tq 39) false),ql 2 [] [33,38]),
   (oo 41 (.move (tq 7) false),q0),
   (oo 42 (.bin .add (tq 41) (.const (.sc (.int .i64 1)))),q0),
   (oo 43 (.sliceS 35 (tq 40) (some (tq 42)) none none),q0),
   (oo 44 (.append 35 56 (tq 38) (tq 43)),q0),
   (oo 45 (.fieldAddr 3 (tq 6)),q0),
   (oz (.store 1 (tq 45) (tq 44)),q0)])
 .skip)))
 (.seq (.reg [oo 46 (.fieldAddr 4 (tq 6)),
   oo 47 (.load false 1 (tq 46) true),
   oo 48 (.load true 32 (tq 3) false),
   oo 49 (.buildSlice 32 1 (rp 32 (.sc (.int .u8 0)) []) [(0,32,(tq 48))]),
   oo 50 (.append 32 32 (tq 47) (tq 49)),
   oo 51 (.fieldAddr 4 (tq 6)),
   oz (.store 1 (tq 51) (tq 50))])
 (.seq (.reg [oo 52 (.load true 5 (tq 6) true),
   oz (.store 5 (tq 4) (tq 52)),
   oo 5 (.move (.const (.sc (.int .i64 0))) false)])
 .ret))))))⟩
def zox:Hint:=⟨[(0,0),(11,1),(12,0)],[],[none,none,none,none,none,none,none,none,none],[],[(7,1,[11,14,20])],true,true⟩
def zCo:Nat→Sh:=xZ [(15,(.sl 32)),(21,(.sl 32)),(28,(.sl 35)),(35,(.sl 35)),(40,(.sl 35))]
def zCf (zg:xz) (zf:zA) (xf:zw) (zd:yx) (L:Nat):CBC:=(xB 364 (zgo zd L) (xB 355 (zcm xf L) (xB 365 (zhq zf L) (xB 362 (zd8 zg L) noC))))
def zxh {β:Type} (zg:xz) (zf:zA) (xf:zw) (zd:yx) (L:Nat) (p0 p1:List V) (k_fin:List V→Int→Option β):Option β :=
 chk (0+5≤(List.length p0)) (
 zg β L (List.map V.dem (List.take 5 p0)) (fun v0 =>
 ifb (!v0) (
 k_fin [(V.sc (.int .u32 (0:Int))),(V.sc (.bool false)),(V.sl 1 ([]:List (List V))),(V.sl 35 ([]:List (List V))),(V.sl 32 ([]:List (List V)))] (6:Int)) (
 cLd 32 p0 4 fun v1 =>
 chk (0+32≤(List.length p1)) (
 zf β L v1 (List.take 32 p1) (fun v2 =>
 ifb v2 (
 k_fin [(V.sc (.int .u32 (0:Int))),(V.sc (.bool false)),(V.sl 1 ([]:List (List V))),(V.sl 35 ([]:List (List V))),(V.sl 32 ([]:List (List V)))] (150:Int)) (
 cLd 32 p0 4 fun v3 =>
 ifb (decide (((List.length v3:Nat):Int) ≥ (2048:Int))) (
 k_fin [(V.sc (.int .u32 (0:Int))),(V.sc (.bool false)),(V.sl 1 ([]:List (List V))),(V.sl 35 ([]:List (List V))),(V.sl 32 ([]:List (List V)))] (380:Int)) (
 chk (0+5≤(List.length p0)) (
 xf β L (List.map V.dem (List.take 5 p0)) (fun v4 v5 v6 v7 v8 v9 v10 v11 =>
 cLd 35 p0 3 fun v12 =>
 chk (0+32≤(List.length p1)) (
 zd β L v12 (List.take 32 p1) (fun v13 =>
 ifb (decide (v13 ≥ (0:Int))) (
 cLd 35 p0 3 fun v14 =>
 chk (0≤v13∧v13≤(((List.length v14):Nat):Int)) (
 chk ((List.length ([]:List (List V))+List.length (List.take ((Int.toNat v13) - 0) (List.drop 0 v14))) * 56≤zj∧List.length ([]:List (List V))+List.length (List.take ((Int.toNat v13) - 0) (List.drop 0 v14))≤zj) (
 lt (([]:List (List V))++(List.take ((Int.toNat v13) - 0) (List.drop 0 v14))) fun l15 =>
 cLd 35 p0 3 fun v16 =>
 lt (IntKind.wrap .i64 ((v13:Int)+(1:Int))) fun x17 =>
 chk (0≤x17∧x17≤(((List.length v16):Nat):Int)) (
 chk ((List.length l15+List.length (List.take ((List.length v16) - (Int.toNat x17)) (List.drop (Int.toNat x17) v16))) * 56≤zj∧List.length l15+List.length (List.take ((List.length v16) - (Int.toNat x17)) (List.drop (Int.toNat x17) v16))≤zj) (
 lt (l15++(List.take ((List.length v16) - (Int.toNat x17)) (List.drop (Int.toNat x17) v16))) fun l18 =>
 chk (0+32≤(List.length p1)) (
 chk ((List.length (List.take 32 p1))=32∧0+32≤32) (
 chk ((v8+List.length (xc 32 1 (zc (List.replicate 32 (V.sc (.int .u8 (0:Int)))) 0 (List.take 32 p1)))) * 32≤zj∧(v8+List.length (xc 32 1 (zc (List.replicate 32 (V.sc (.int .u8 (0:Int)))) 0 (List.take 32 p1))))≤zj∧((v8+List.length (xc 32 1 (zc (List.replicate 32 (V.sc (.int .u8 (0:Int)))) 0 (List.take 32 p1))))≠0∨(List.length v11)=0)) (
 lt (List.take (v8 * 32) v11++List.flatten (xc 32 1 (zc (List.replicate 32 (V.sc (.int .u8 (0:Int)))) 0 (List.take 32 p1)))) fun r19 =>
 k_fin [(V.sc (.int .u32 v4)),(V.sc (.bool v5)),(V.sl 1 (xc 1 v6 v9)),(V.sl 35 l18),(V.sl 32 (xc 32 (v8+List.length (xc 32 1 (zc (List.replicate 32 (V.sc (.int .u8 (0:Int)))) 0 (List.take 32 p1)))) r19))] (0:Int))))))))) (
 chk (0+32≤(List.length p1)) (
 chk ((List.length (List.take 32 p1))=32∧0+32≤32) (
 chk ((v8+List.length (xc 32 1 (zc (List.replicate 32 (V.sc (.int .u8 (0:Int)))) 0 (List.take 32 p1)))) * 32≤zj∧(v8+List.length (xc 32 1 (zc (List.replicate 32 (V.sc (.int .u8 (0:Int)))) 0 (List.take 32 p1))))≤zj∧((v8+List.length (xc 32 1 (zc (List.replicate 32 (V.sc (.int .u8 (0:Int)))) 0 (List.take 32 p1))))≠0∨(List.length v11)=0)) (
 lt (List.take (v8 * 32) v11++List.flatten (xc 32 1 (zc (List.replicate 32 (V.sc (.int .u8 (0:Int)))) 0 (List.take 32 p1)))) fun r20 =>
 k_fin [(V.sc (.int .u32 v4)),(V.sc (.bool v5)),(V.sl 1 (xc 1 v6 v9)),(V.sl 35 (xc 35 v7 v10)),(V.sl 32 (xc 32 (v8+List.length (xc 32 1 (zc (List.replicate 32 (V.sc (.int .u8 (0:Int)))) 0 (List.take 32 p1)))) r20))] (0:Int))))))))))))))))
abbrev yS:=∀ (β:Type),Nat→List V→List V→(List V→Int→Option β)→Option β
def xu (β:Type) (L:Nat) (p0 p1:List V) (k_fin:List V→Int→Option β):Option β:=zxh zg zf xf zd L p0 p1 k_fin
def zxm (xu:yS) (L:Nat) (β:Type) (args:List V) (bor:Bor) (k:KK β):Option β:=match args,bor with
 | [a0,a1],[]=>aG a0 fun p0=>aG a1 fun p1=>xu β L p0 p1 (fun zE0 zE1=>k (V.tup [(V.agg zE0),(V.sc (.int .i64 zE1))]) [])
 | _,_=>none
def zql:CF:=⟨14,[.tmp 4],
 (.seq (.reg [oo 3 (.box true (tq 0)),
   oo 4 (.move (.const (.sc (.bool false))) false)])
 (.seq (.seq (.reg [oo 5 (.fieldAddr 34 (tq 3)),
   oo 6 (.load false 1 (tq 5) false),
   oo 7 (.load false 1 (tq 1) false),
   oo 8 (.bin .gtr (tq 6) (tq 7))])
 (.cond (tq 8)
 (.seq (.reg [oo 4 (.move (.const (.sc (.bool false))) false)])
 .ret)
 .skip))
 (.seq (.reg [oo 9 (.load false 1 (tq 2) true),
   oo 10 (.fieldAddr 0 (tq 3)),
   oo 11 (.load true 32 (tq 10) false),
   oo 12 (.buildSlice 32 1 (rp 32 (.sc (.int .u8 0)) []) [(0,32,(tq 11))]),
   oo 13 (.append 32 32 (tq 9) (tq 12)),
   oz (.store 1 (tq 2) (tq 13))])
 (.seq (.reg [oo 4 (.move (.const (.sc (.bool true))) false)])
 .ret))))⟩
def zof:Hint:=⟨[(3,0)],[],[none,none,none],[],[],false,false⟩
def zCJ:Nat→Sh:=xZ [(6,(.int .u32))]
def zCI (L:Nat):CBC:=noC
def zwX {β:Type} (L:Nat) (p0:List V) (zEG:Int) (zEZ:List (List V)) (k_fin:Bool→Int→List (List V)→Option β):Option β :=
 cI .u32 p0 34 fun v0 =>
 ifb (decide (v0 > zEG)) (
 k_fin false zEG zEZ) (
 chk (0+32≤(List.length p0)) (
 chk ((List.length (List.take 32 p0))=32∧0+32≤32) (
 chk ((List.length zEZ+List.length (xc 32 1 (zc (List.replicate 32 (V.sc (.int .u8 (0:Int)))) 0 (List.take 32 p0)))) * 32≤zj∧List.length zEZ+List.length (xc 32 1 (zc (List.replicate 32 (V.sc (.int .u8 (0:Int)))) 0 (List.take 32 p0)))≤zj) (
 lt (zEZ++(xc 32 1 (zc (List.replicate 32 (V.sc (.int .u8 (0:Int)))) 0 (List.take 32 p0)))) fun l1 =>
 k_fin true zEG l1))))
abbrev zah:=∀ (β:Type),Nat→List V→Int→List (List V)→(Bool→Int→List (List V)→Option β)→Option β
def yA (β:Type) (L:Nat) (p0:List V) (zEG:Int) (zEZ:List (List V)) (k_fin:Bool→Int→List (List V)→Option β):Option β:=zwX L p0 zEG zEZ k_fin
def zra (yA:zah) (L:Nat) (β:Type) (args:List V) (bor:Bor) (k:KK β):Option β:=match args,bor with
 | [a0,a1,a2],[(.live true [w0_0]),(.live false [w1_0])]=>aG a0 fun p0=>aP 0 0 a1 (aP 1 0 a2 (aI .u32 w0_0 fun zEG=>aGs 32 w1_0 fun zEZ=>yA β L p0 zEG zEZ (fun p0 zEG zEZ=>k (V.sc (.bool p0)) [(.live true [(V.sc (.int .u32 zEG))]),(.live false [(V.gs 32 zEZ)])])))
 | _,_=>none
end
end Go.Proofs.Ytpbbfpfmdckclaa
