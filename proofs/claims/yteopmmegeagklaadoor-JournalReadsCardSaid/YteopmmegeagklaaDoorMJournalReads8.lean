/- Part 8 of the proof of JournalReads: an abstract machine over plain values, its soundness, and the functions of the program on plain values. -/
import Derived.Test.YteopmmegeagklaaDoorRows
import Derived.Test.YteopmmegeagklaaDoorMJournalReads7
namespace Go.Proofs.YteopmmegeagklaaDoor
section
set_option maxRecDepth 100000
set_option linter.unusedVariables false
set_option linter.unusedSimpArgs false
def gk_sha_initial:List V:=[.sc (.int .u32 1779033703),.sc (.int .u32 3144134277),.sc (.int .u32 1013904242),.sc (.int .u32 2773480762),.sc (.int .u32 1359893119),.sc (.int .u32 2600822924),.sc (.int .u32 528734635),.sc (.int .u32 1541459225)]
def gk_sha_k:List V:=[.sc (.int .u32 1116352408),.sc (.int .u32 1899447441),.sc (.int .u32 3049323471),.sc (.int .u32 3921009573),.sc (.int .u32 961987163),.sc (.int .u32 1508970993),.sc (.int .u32 2453635748),.sc (.int .u32 2870763221),.sc (.int .u32 3624381080),.sc (.int .u32 310598401),.sc (.int .u32 607225278),.sc (.int .u32 1426881987),.sc (.int .u32 1925078388),.sc (.int .u32 2162078206),.sc (.int .u32 2614888103),.sc (.int .u32 3248222580),.sc (.int .u32 3835390401),.sc (.int .u32 4022224774),.sc (.int .u32 264347078),.sc (.int .u32 604807628),.sc (.int .u32 770255983),.sc (.int .u32 1249150122),.sc (.int .u32 1555081692),.sc (.int .u32 1996064986),.sc (.int .u32 2554220882),.sc (.int .u32 2821834349),.sc (.int .u32 2952996808),.sc (.int .u32 3210313671),.sc (.int .u32 3336571891),.sc (.int .u32 3584528711),.sc (.int .u32 113926993),.sc (.int .u32 338241895),.sc (.int .u32 666307205),.sc (.int .u32 773529912),.sc (.int .u32 1294757372),.sc (.int .u32 1396182291),.sc (.int .u32 1695183700),.sc (.int .u32 1986661051),.sc (.int .u32 2177026350),.sc (.int .u32 2456956037),.sc (.int .u32 2730485921),.sc (.int .u32 2820302411),.sc (.int .u32 3259730800),.sc (.int .u32 3345764771),.sc (.int .u32 3516065817),.sc (.int .u32 3600352804),.sc (.int .u32 4094571909),.sc (.int .u32 275423344),.sc (.int .u32 430227734),.sc (.int .u32 506948616),.sc (.int .u32 659060556),.sc (.int .u32 883997877),.sc (.int .u32 958139571),.sc (.int .u32 1322822218),.sc (.int .u32 1537002063),.sc (.int .u32 1747873779),.sc (.int .u32 1955562222),.sc (.int .u32 2024104815),.sc (.int .u32 2227730452),.sc (.int .u32 2361852424),.sc (.int .u32 2428436474),.sc (.int .u32 2756734187),.sc (.int .u32 3204031479),.sc (.int .u32 3329325298)]
def zhi:CF:=⟨27,[.tmp 2],
 (.seq (.reg [oo 1 (.box true (tq 0)),
   oo 2 (.move (.const (.sc (.bool false))) false)])
 (.seq (.reg [oo 3 (.fieldAddr 0 (tq 1)),
   oo 4 (.load false 1 (tq 3) false),
   oo 5 (.bin .geq (tq 4) (.const (.sc (.int .i64 1)))),
   oo 6 (.move (tq 5) false),
   ⟨(some 7),false,(some (6,true)),.fieldAddr 0 (tq 1)⟩,
   ⟨(some 8),false,(some (6,true)),.load false 1 (tq 7) false⟩,
   ⟨(some 9),false,(some (6,true)),.bin .leq (tq 8) (.const (.sc (.int .i64 5)))⟩,
   oo 10 (.pick (tq 6) (tq 9) (.const (.sc (.bool false)))),
   oo 11 (.move (tq 10) false),
   ⟨(some 12),false,(some (11,true)),.fieldAddr 1 (tq 1)⟩,
   ⟨(some 13),false,(some (11,true)),.load false 1 (tq 12) false⟩,
   ⟨(some 14),false,(some (11,true)),.bin .geq (tq 13) (.const (.sc (.int .i64 0)))⟩,
   oo 15 (.pick (tq 11) (tq 14) (.const (.sc (.bool false)))),
   oo 16 (.move (tq 15) false),
   ⟨(some 17),false,(some (16,true)),.fieldAddr 1 (tq 1)⟩,
   ⟨(some 18),false,(some (16,true)),.load false 1 (tq 17) false⟩,
   ⟨(some 19),false,(some (16,true)),.bin .leq (tq 18) (.const (.sc (.int .i64 16777216)))⟩,
   oo 20 (.pick (tq 16) (tq 19) (.const (.sc (.bool false)))),
   oo 21 (.move (tq 20) false),
   ⟨(some 22),false,(some (21,true)),.fieldAddr 2 (tq 1)⟩,
   ⟨(some 23),false,(some (21,true)),.load false 1 (tq 22) false⟩,
   ⟨(some 24),false,(some (21,true)),.lenS (tq 23)⟩,
   ⟨(some 25),false,(some (21,true)),.bin .leq (tq 24) (.const (.sc (.int .i64 4096)))⟩,
   oo 26 (.pick (tq 21) (tq 25) (.const (.sc (.bool false)))),
   oo 2 (.move (tq 26) false)])
 .ret))⟩
def znK:Hint:=⟨[(0,0)],[],[none],[],[],false,false⟩
def zkQ:Nat→Sh:=yV [(4,(.int .i64)),(8,(.int .i64)),(13,(.int .i64)),(18,(.int .i64)),(23,(.sl 1))]
def zkW (L:Nat):CBC:=noC
def zlF {β:Type} (L:Nat) (p0:List V) (k_fin:Bool→Option β):Option β :=
 cI .i64 p0 0 fun v0 =>
 ifb (decide (v0 ≥ (1:Int))) (
 cI .i64 p0 0 fun v1 =>
 ifb (decide (v1≤(5:Int))) (
 cI .i64 p0 1 fun v2 =>
 ifb (decide (v2 ≥ (0:Int))) (
 cI .i64 p0 1 fun v3 =>
 ifb (decide (v3≤(16777216:Int))) (
 cLd 1 p0 2 fun v4 =>
 k_fin (decide (((List.length v4:Nat):Int)≤(4096:Int)))) (
 k_fin false)) (
 k_fin false)) (
 k_fin false)) (
 k_fin false)
theorem zt8 {β:Type} (L:Nat) (p0:List V) (k:KK β):zw zkQ (zkW L) L zhi [(V.agg p0)] [] k=zlF L p0 (fun p0=>k (V.sc (.bool p0)) []):=by kernel_rfl
abbrev zB:=∀ (β:Type),Nat→List V→(Bool→Option β)→Option β
def ze (β:Type) (L:Nat) (p0:List V) (k_fin:Bool→Option β):Option β:=zlF L p0 k_fin
def zeh (ze:zB) (L:Nat) (β:Type) (args:List V) (bor:Bor) (k:KK β):Option β:=match args,bor with
 | [a0],[]=>aG a0 fun p0=>ze β L p0 (fun p0=>k (V.sc (.bool p0)) [])
 | _,_=>none
theorem zus (L:Nat) (β:Type) (args:List V) (bor:Bor) (k:KK β) (r:β) (h:zeh ze L β args bor k=some r):zw zkQ (zkW L) L zhi args bor k=some r:=by
 unfold zeh at h
 split at h
 ·have q:=zgK h; clear h; obtain ⟨p0,rfl,h⟩:=q
  exact (zt8 L p0 k).trans h
 ·cases h
def zkD:CF:=⟨21,[.tmp 6],
 (.seq (.reg [oo 6 (.move (.const (.sc (.int .i64 0))) false)])
 (.seq (.seq (.reg [oo 7 (.move (tq 1) false),
   oo 8 (.bin .lss (tq 7) (.const (.sc (.int .i64 0)))),
   oo 9 (.move (tq 8) false),
   ⟨(some 10),false,(some (9,false)),.move (tq 1) false⟩,
   ⟨(some 11),false,(some (9,false)),.move (tq 0) false⟩,
   ⟨(some 12),false,(some (9,false)),.lenS (tq 11)⟩,
   ⟨(some 13),false,(some (9,false)),.bin .gtr (tq 10) (tq 12)⟩,
   oo 14 (.pick (tq 9) (.const (.sc (.bool true))) (tq 13))])
 (.cond (tq 14)
 (.seq (.reg [oo 6 (.move (.const (.sc (.int .i64 5))) false)])
 .ret)
 .skip))
 (.seq (.seq (.reg [oo 15 (.move (tq 0) false),
   oo 16 (.lenS (tq 15)),
   oo 17 (.move (tq 1) false),
   oo 18 (.bin .sub (tq 16) (tq 17)),
   oo 19 (.move (tq 2) false),
   oo 20 (.bin .lss (tq 18) (tq 19))])
 (.cond (tq 20)
 (.seq (.reg [oo 6 (.move (.const (.sc (.int .i64 1))) false)])
 .ret)
 .skip))
 (.seq (.reg [oo 6 (.move (.const (.sc (.int .i64 0))) false)])
 .ret))))⟩
def zqC:Hint:=⟨[],[],[none,none,none,none,none],[],[],false,false⟩
def zoc:Nat→Sh:=yV []
def zoj (L:Nat):CBC:=noC
def zpT {β:Type} (L:Nat) (p0:List (List V)) (p1 p2:Int) (k_fin:Int→Option β):Option β :=
 ifb (decide (p1 < (0:Int))) (
 k_fin (5:Int)) (
 ifb (decide (p1 > ((List.length p0:Nat):Int))) (
 k_fin (5:Int)) (
 lt (IntKind.wrap .i64 ((((List.length p0:Nat):Int):Int) - p1)) fun x0 =>
 ifb (decide (x0 < p2)) (
 k_fin (1:Int)) (
 k_fin (0:Int))))
theorem zxe {β:Type} (L:Nat) (p0:List (List V)) (p1 p2:Int) (k:KK β):zw zoc (zoj L) L zkD [(V.sl 1 p0),(V.sc (.int .i64 p1)),(V.sc (.int .i64 p2))] [] k=zpT L p0 p1 p2 (fun p0=>k (V.sc (.int .i64 p0)) []):=by kernel_rfl
abbrev zO:=∀ (β:Type),Nat→List (List V)→Int→Int→(Int→Option β)→Option β
def yh (β:Type) (L:Nat) (p0:List (List V)) (p1 p2:Int) (k_fin:Int→Option β):Option β:=zpT L p0 p1 p2 k_fin
def ziX (yh:zO) (L:Nat) (β:Type) (args:List V) (bor:Bor) (k:KK β):Option β:=match args,bor with
 | [a0,a1,a2],[]=>aL 1 a0 fun p0=>aI .i64 a1 fun p1=>aI .i64 a2 fun p2=>yh β L p0 p1 p2 (fun p0=>k (V.sc (.int .i64 p0)) [])
 | _,_=>none
theorem zxX (L:Nat) (β:Type) (args:List V) (bor:Bor) (k:KK β) (r:β) (h:ziX yh L β args bor k=some r):zw zoc (zoj L) L zkD args bor k=some r:=by
 unfold ziX at h
 split at h
 ·have q:=zP h; clear h; obtain ⟨p0,rfl,h⟩:=q
  have q:=xR h; clear h; obtain ⟨p1,rfl,h⟩:=q
  have q:=xR h; clear h; obtain ⟨p2,rfl,h⟩:=q
  exact (zxe L p0 p1 p2 k).trans h
 ·cases h
def zbj:CC:=(.seq (.reg [oo 21 (.bin .lss (tq 20) (tq 19))])
 (.seq (.cond (tq 21)
 .skip
 (.seq (.mask (bl 1030 40) (bl 1099511625727 40))
 (.exit 0)))
 (.seq (.block 1 (.seq (.reg [oo 22 (.move (tq 20) false),
   oo 11 (.move (tq 22) false)])
 (.reg [oo 23 (.move (tq 10) false),
   oo 24 (.move (tq 0) false),
   oo 25 (.move (tq 1) false),
   oo 26 (.move (tq 11) false),
   oo 27 (.bin .add (tq 25) (tq 26)),
   oo 28 (.indexAddrS 1 (tq 24) (tq 27)),
   oo 29 (.load false 1 (tq 28) false),
   oo 30 (.conv .u32 (tq 29)),
   oo 31 (.move (tq 11) false),
   oo 32 (.bin .mul (.const (.sc (.int .i64 8))) (tq 31)),
   oo 33 (.bin .shl (tq 30) (tq 32)),
   oo 34 (.bin .or (tq 23) (tq 33)),
   oo 10 (.move (tq 34) false)])))
 (.reg [oo 35 (.bin .add (tq 20) (.const (.sc (.int .i64 1)))),
   oo 20 (.move (tq 35) false)]))))
def zfx:CC:=(.seq (.reg [oo 36 (.move (tq 10) false),
   oo 37 (.move (tq 1) false),
   oo 38 (.move (tq 2) false),
   oo 39 (.bin .add (tq 37) (tq 38)),
   oo 6 (.move (tq 36) false),
   oo 7 (.move (tq 39) false),
   oo 8 (.move (.const (.sc (.int .i64 0))) false)])
 .ret)
def zbd:CF:=⟨40,[.tmp 6,.tmp 7,.tmp 8],
 (.seq (.reg [oo 6 (.move (.const (.sc (.int .u32 0))) false),
   oo 7 (.move (.const (.sc (.int .i64 0))) false),
   oo 8 (.move (.const (.sc (.int .i64 0))) false)])
 (.seq (.seq (.reg [oo 12 (.move (tq 0) false),
   oo 13 (.move (tq 1) false),
   oo 14 (.move (tq 2) false),
   oo 15 (.call 198 [((tq 12),0),((tq 13),0),((tq 14),0)] []),
   oo 9 (.move (tq 15) false)])
 (.seq (.reg [oo 16 (.move (tq 9) false),
   oo 17 (.bin .neq (tq 16) (.const (.sc (.int .i64 0))))])
 (.cond (tq 17)
 (.seq (.reg [oo 18 (.move (tq 9) false),
   oo 6 (.move (.const (.sc (.int .u32 0))) false),
   oo 7 (.move (.const (.sc (.int .i64 0))) false),
   oo 8 (.move (tq 18) false)])
 .ret)
 .skip)))
 (.seq (.reg [oo 10 (.move (.const (.sc (.int .u32 0))) false)])
 (.seq (.seq (.reg [oo 19 (.move (tq 2) false),
   oo 20 (.move (.const (.sc (.int .i64 0))) false)])
 (.block 0 (.loop (bl 1573895 40) (bl 1099511625727 40)
 zbj)))
 zfx))))⟩
def zkh:Hint:=⟨[],[],[none,none,none,some ((bl 1573895 40),(bl 1099511625727 40)),none,some ((bl 1030 40),(bl 1099511625727 40)),none,none],[],[],false,false⟩
def yY:Nat→Sh:=yV [(29,(.int .u8))]
def xY (yh:zO) (L:Nat):CBC:=(xB 198 (ziX yh L) noC)
def zcI:St→St:=zZ 0 (bl 1573895 40) (bl 1099511625727 40)
def zbX (p0:List (List V)) (p1 p2 p10 p19 p20:Int):St:=⟨((V.sl 1 p0)::((V.sc (.int .i64 p1))::((V.sc (.int .i64 p2))::(jn 7 ((V.sc (.int .u32 p10))::(jn 8 ((V.sc (.int .i64 p19))::((V.sc (.int .i64 p20))::(jn 19 []))))))))),(gn 40 [])⟩
def zft (p1 p2 p10:Int):St:=⟨(jn 1 ((V.sc (.int .i64 p1))::((V.sc (.int .i64 p2))::(jn 7 ((V.sc (.int .u32 p10))::(jn 29 [])))))),(gn 40 [])⟩
def zhN {β:Type} (yh:zO) (L:Nat) (p0:List (List V)) (p1 p2:Int) (k_fin:Int→Int→Int→Option β) (k_hbbbaba:List (List V)→Int→Int→Int→Int→Int→Option β):Option β :=
 yh β L p0 p1 p2 (fun v0 =>
 ifb ((v0:Int) != (0:Int)) (
 k_fin (0:Int) (0:Int) v0) (
 k_hbbbaba p0 p1 p2 (0:Int) p2 (0:Int)))
theorem zqJ {β:Type} (yh:zO) (L:Nat) (p0:List (List V)) (p1 p2:Int) (k:KK β):zw yY (xY yh L) L zbd [(V.sl 1 p0),(V.sc (.int .i64 p1)),(V.sc (.int .i64 p2))] [] k=zhN yh L p0 p1 p2 (fun zHt zHu zHz=>k (V.tup [(V.sc (.int .u32 zHt)),(V.sc (.int .i64 zHu)),(V.sc (.int .i64 zHz))]) []) (fun p0 p1 p2 p10 p19 p20=>zz (xk yY (xY yh L) 0 L zbj) zcI L (zbX p0 p1 p2 p10 p19 p20) (yA 0 (xO (xk yY (xY yh L) 0 L zfx) (yP 0 (CF.res zbd) k)))):=by kernel_rfl
def zbA {β:Type} (yh:zO) (L:Nat) (p0:List (List V)) (p1 p2 p10 p19 p20:Int) (k_hbbbaba:List (List V)→Int→Int→Int→Int→Int→Option β) (k_x0:Int→Int→Int→Option β):Option β :=
 ifb (decide (p20 < p19)) (
 lt (IntKind.wrap .i64 ((p1:Int)+p20)) fun x1 =>
 idx p0 x1 fun c2 =>
 cI .u8 c2 0 fun v3 =>
 lt (IntKind.wrap .u32 v3) fun x4 =>
 lt (IntKind.wrap .i64 (((8:Int):Int) * p20)) fun x5 =>
 chk (0≤x5) (
 lt (zbU .u32 x4 x5) fun x6 =>
 lt (ior .u32 p10 x6) fun x7 =>
 lt (IntKind.wrap .i64 ((p20:Int)+(1:Int))) fun x8 =>
 k_hbbbaba p0 p1 p2 x7 p19 x8)) (
 k_x0 p1 p2 p10)
theorem zmR {β:Type} (yh:zO) (L:Nat) (p0:List (List V)) (p1 p2 p10 p19 p20:Int) (X:St→Option β) (K:KT β):xk yY (xY yh L) 0 L zbj (zbX p0 p1 p2 p10 p19 p20) (zaJ zcI X K)=zbA yh L p0 p1 p2 p10 p19 p20 (fun p0 p1 p2 p10 p19 p20=>X (zbX p0 p1 p2 p10 p19 p20)) (fun p1 p2 p10=>K (.exit 0) (zft p1 p2 p10)):=by kernel_rfl
def zd3 {β:Type} (yh:zO) (L:Nat) (p1 p2 p10:Int) (k_fin:Int→Int→Int→Option β):Option β :=
 lt (IntKind.wrap .i64 ((p1:Int)+p2)) fun x9 =>
 k_fin p10 x9 (0:Int)
theorem zlK {β:Type} (yh:zO) (L:Nat) (p1 p2 p10:Int) (k:KK β):(yA 0 (xO (xk yY (xY yh L) 0 L zfx) (yP 0 (CF.res zbd) k))) (.exit 0) (zft p1 p2 p10)=zd3 yh L p1 p2 p10 (fun zHt zHu zHz=>k (V.tup [(V.sc (.int .u32 zHt)),(V.sc (.int .i64 zHu)),(V.sc (.int .i64 zHz))]) []):=by kernel_rfl
def xW {β:Type} (yh:zO) (L:Nat) (k_x0:Int→Int→Int→Option β):Nat→List (List V)→Int→Int→Int→Int→Int→Option β
 | 0,_,_,_,_,_,_=>none
 | n+1,p0,p1,p2,p10,p19,p20=>zbA yh L p0 p1 p2 p10 p19 p20 (fun p0 p1 p2 p10 p19 p20=>xW yh L k_x0 n p0 p1 p2 p10 p19 p20) k_x0
theorem zgG {β:Type} (yh:zO) (L:Nat) (K:KT β):∀ (n:Nat) (p0:List (List V)) (p1 p2 p10 p19 p20:Int),zz (xk yY (xY yh L) 0 L zbj) zcI n (zbX p0 p1 p2 p10 p19 p20) K=xW yh L (fun p1 p2 p10=>K (.exit 0) (zft p1 p2 p10)) n p0 p1 p2 p10 p19 p20:=by
 intro n
 induction n with
 | zero=>intros; rfl
 | succ n ih =>
  intro p0 p1 p2 p10 p19 p20
  refine (zmR yh L p0 p1 p2 p10 p19 p20 (fun σ=>zz (xk yY (xY yh L) 0 L zbj) zcI n σ K) K).trans ?_
  simp only [ih]
  rfl
def zfk {β:Type} (yh:zO) (L:Nat) (p0:List (List V)) (p1 p2:Int) (k_fin:Int→Int→Int→Option β):Option β :=
 zhN yh L p0 p1 p2 k_fin (fun p0 p1 p2 p10 p19 p20=>xW yh L (fun p1 p2 p10=>zd3 yh L p1 p2 p10 k_fin) L p0 p1 p2 p10 p19 p20)
theorem zrh {β:Type} (yh:zO) (L:Nat) (p0:List (List V)) (p1 p2:Int) (k:KK β):zw yY (xY yh L) L zbd [(V.sl 1 p0),(V.sc (.int .i64 p1)),(V.sc (.int .i64 p2))] [] k=zfk yh L p0 p1 p2 (fun zHt zHu zHz=>k (V.tup [(V.sc (.int .u32 zHt)),(V.sc (.int .i64 zHu)),(V.sc (.int .i64 zHz))]) []):=by
 refine (zqJ yh L p0 p1 p2 k).trans ?_
 unfold zfk
 first
  | (simp only [zgG,zlK]; done)
  | (simp only [zgG]; rfl)
abbrev zfm:=∀ (β:Type),Nat→List (List V)→Int→Int→(Int→Int→Int→Option β)→Option β
def xI (β:Type) (L:Nat) (p0:List (List V)) (p1 p2:Int) (k_fin:Int→Int→Int→Option β):Option β:=zfk yh L p0 p1 p2 k_fin
def zfl (xI:zfm) (L:Nat) (β:Type) (args:List V) (bor:Bor) (k:KK β):Option β:=match args,bor with
 | [a0,a1,a2],[]=>aL 1 a0 fun p0=>aI .i64 a1 fun p1=>aI .i64 a2 fun p2=>xI β L p0 p1 p2 (fun zHt zHu zHz=>k (V.tup [(V.sc (.int .u32 zHt)),(V.sc (.int .i64 zHu)),(V.sc (.int .i64 zHz))]) [])
 | _,_=>none
theorem zqR (L:Nat) (β:Type) (args:List V) (bor:Bor) (k:KK β) (r:β) (h:zfl xI L β args bor k=some r):zw yY (xY yh L) L zbd args bor k=some r:=by
 unfold zfl at h
 split at h
 ·have q:=zP h; clear h; obtain ⟨p0,rfl,h⟩:=q
  have q:=xR h; clear h; obtain ⟨p1,rfl,h⟩:=q
  have q:=xR h; clear h; obtain ⟨p2,rfl,h⟩:=q
  exact (zrh yh L p0 p1 p2 k).trans h
 ·cases h
def zlm:CF:=⟨13,[.tmp 4,.tmp 5,.tmp 6],
 (.seq (.reg [oo 4 (.move (.const (.sc (.int .u32 0))) false),
   oo 5 (.move (.const (.sc (.int .i64 0))) false),
   oo 6 (.move (.const (.sc (.int .i64 0))) false)])
 (.seq (.reg [oo 7 (.move (tq 0) false),
   oo 8 (.move (tq 1) false),
   oo 9 (.call 197 [((tq 7),0),((tq 8),0),((.const (.sc (.int .i64 4))),0)] []),
   oo 10 (.pull (tq 9) 0),
   oo 11 (.pull (tq 9) 1),
   oo 12 (.pull (tq 9) 2),
   oo 4 (.move (tq 10) false),
   oo 5 (.move (tq 11) false),
   oo 6 (.move (tq 12) false)])
 .ret))⟩
def zrA:Hint:=⟨[],[],[none],[],[],false,false⟩
def zpP:Nat→Sh:=yV []
def zpe (xI:zfm) (L:Nat):CBC:=(xB 197 (zfl xI L) noC)
def zqY {β:Type} (xI:zfm) (L:Nat) (p0:List (List V)) (p1:Int) (k_fin:Int→Int→Int→Option β):Option β :=
 xI β L p0 p1 (4:Int) (fun v0 v1 v2 =>
 k_fin v0 v1 v2)
theorem zyf {β:Type} (xI:zfm) (L:Nat) (p0:List (List V)) (p1:Int) (k:KK β):zw zpP (zpe xI L) L zlm [(V.sl 1 p0),(V.sc (.int .i64 p1))] [] k=zqY xI L p0 p1 (fun zHt zHu zHz=>k (V.tup [(V.sc (.int .u32 zHt)),(V.sc (.int .i64 zHu)),(V.sc (.int .i64 zHz))]) []):=by kernel_rfl
abbrev znp:=∀ (β:Type),Nat→List (List V)→Int→(Int→Int→Int→Option β)→Option β
def zad (β:Type) (L:Nat) (p0:List (List V)) (p1:Int) (k_fin:Int→Int→Int→Option β):Option β:=zqY xI L p0 p1 k_fin
def znk (zad:znp) (L:Nat) (β:Type) (args:List V) (bor:Bor) (k:KK β):Option β:=match args,bor with
 | [a0,a1],[]=>aL 1 a0 fun p0=>aI .i64 a1 fun p1=>zad β L p0 p1 (fun zHt zHu zHz=>k (V.tup [(V.sc (.int .u32 zHt)),(V.sc (.int .i64 zHu)),(V.sc (.int .i64 zHz))]) [])
 | _,_=>none
theorem zx3 (L:Nat) (β:Type) (args:List V) (bor:Bor) (k:KK β) (r:β) (h:znk zad L β args bor k=some r):zw zpP (zpe xI L) L zlm args bor k=some r:=by
 unfold znk at h
 split at h
 ·have q:=zP h; clear h; obtain ⟨p0,rfl,h⟩:=q
  have q:=xR h; clear h; obtain ⟨p1,rfl,h⟩:=q
  exact (zyf xI L p0 p1 k).trans h
 ·cases h
def zbD:CC:=(.seq (.reg [oo 21 (.bin .lss (tq 20) (tq 19))])
 (.seq (.cond (tq 21)
 .skip
 (.seq (.mask (bl 1030 39) (bl 549755811839 39))
 (.exit 0)))
 (.seq (.block 1 (.seq (.reg [oo 22 (.move (tq 20) false),
   oo 11 (.move (tq 22) false)])
 (.reg [oo 23 (.move (tq 10) false),
   oo 24 (.move (tq 0) false),
   oo 25 (.move (tq 1) false),
   oo 26 (.move (tq 11) false),
   oo 27 (.bin .add (tq 25) (tq 26)),
   oo 28 (.indexAddrS 1 (tq 24) (tq 27)),
   oo 29 (.load false 1 (tq 28) false),
   oo 30 (.move (tq 11) false),
   oo 31 (.bin .mul (.const (.sc (.int .i64 8))) (tq 30)),
   oo 32 (.bin .shl (tq 29) (tq 31)),
   oo 33 (.bin .or (tq 23) (tq 32)),
   oo 10 (.move (tq 33) false)])))
 (.reg [oo 34 (.bin .add (tq 20) (.const (.sc (.int .i64 1)))),
   oo 20 (.move (tq 34) false)]))))
def zf2:CC:=(.seq (.reg [oo 35 (.move (tq 10) false),
   oo 36 (.move (tq 1) false),
   oo 37 (.move (tq 2) false),
   oo 38 (.bin .add (tq 36) (tq 37)),
   oo 6 (.move (tq 35) false),
   oo 7 (.move (tq 38) false),
   oo 8 (.move (.const (.sc (.int .i64 0))) false)])
 .ret)
def zbv:CF:=⟨39,[.tmp 6,.tmp 7,.tmp 8],
 (.seq (.reg [oo 6 (.move (.const (.sc (.int .u8 0))) false),
   oo 7 (.move (.const (.sc (.int .i64 0))) false),
   oo 8 (.move (.const (.sc (.int .i64 0))) false)])
 (.seq (.seq (.reg [oo 12 (.move (tq 0) false),
   oo 13 (.move (tq 1) false),
   oo 14 (.move (tq 2) false),
   oo 15 (.call 198 [((tq 12),0),((tq 13),0),((tq 14),0)] []),
   oo 9 (.move (tq 15) false)])
 (.seq (.reg [oo 16 (.move (tq 9) false),
   oo 17 (.bin .neq (tq 16) (.const (.sc (.int .i64 0))))])
 (.cond (tq 17)
 (.seq (.reg [oo 18 (.move (tq 9) false),
   oo 6 (.move (.const (.sc (.int .u8 0))) false),
   oo 7 (.move (.const (.sc (.int .i64 0))) false),
   oo 8 (.move (tq 18) false)])
 .ret)
 .skip)))
 (.seq (.reg [oo 10 (.move (.const (.sc (.int .u8 0))) false)])
 (.seq (.seq (.reg [oo 19 (.move (tq 2) false),
   oo 20 (.move (.const (.sc (.int .i64 0))) false)])
 (.block 0 (.loop (bl 1573895 39) (bl 549755811839 39)
 zbD)))
 zf2))))⟩
def zk3:Hint:=⟨[],[],[none,none,none,some ((bl 1573895 39),(bl 549755811839 39)),none,some ((bl 1030 39),(bl 549755811839 39)),none,none],[],[],false,false⟩
def zaa:Nat→Sh:=yV [(29,(.int .u8))]
def zab (yh:zO) (L:Nat):CBC:=(xB 198 (ziX yh L) noC)
def zc9:St→St:=zZ 0 (bl 1573895 39) (bl 549755811839 39)
def zca (p0:List (List V)) (p1 p2 p10 p19 p20:Int):St:=⟨((V.sl 1 p0)::((V.sc (.int .i64 p1))::((V.sc (.int .i64 p2))::(jn 7 ((V.sc (.int .u8 p10))::(jn 8 ((V.sc (.int .i64 p19))::((V.sc (.int .i64 p20))::(jn 18 []))))))))),(gn 39 [])⟩
def zf3 (p1 p2 p10:Int):St:=⟨(jn 1 ((V.sc (.int .i64 p1))::((V.sc (.int .i64 p2))::(jn 7 ((V.sc (.int .u8 p10))::(jn 28 [])))))),(gn 39 [])⟩
def ziS {β:Type} (yh:zO) (L:Nat) (p0:List (List V)) (p1 p2:Int) (k_fin:Int→Int→Int→Option β) (k_hbbbaba:List (List V)→Int→Int→Int→Int→Int→Option β):Option β :=
 yh β L p0 p1 p2 (fun v0 =>
 ifb ((v0:Int) != (0:Int)) (
 k_fin (0:Int) (0:Int) v0) (
 k_hbbbaba p0 p1 p2 (0:Int) p2 (0:Int)))
theorem zr2 {β:Type} (yh:zO) (L:Nat) (p0:List (List V)) (p1 p2:Int) (k:KK β):zw zaa (zab yh L) L zbv [(V.sl 1 p0),(V.sc (.int .i64 p1)),(V.sc (.int .i64 p2))] [] k=ziS yh L p0 p1 p2 (fun zHt zHu zHz=>k (V.tup [(V.sc (.int .u8 zHt)),(V.sc (.int .i64 zHu)),(V.sc (.int .i64 zHz))]) []) (fun p0 p1 p2 p10 p19 p20=>zz (xk zaa (zab yh L) 0 L zbD) zc9 L (zca p0 p1 p2 p10 p19 p20) (yA 0 (xO (xk zaa (zab yh L) 0 L zf2) (yP 0 (CF.res zbv) k)))):=by kernel_rfl
def zbM {β:Type} (yh:zO) (L:Nat) (p0:List (List V)) (p1 p2 p10 p19 p20:Int) (k_hbbbaba:List (List V)→Int→Int→Int→Int→Int→Option β) (k_x0:Int→Int→Int→Option β):Option β :=
 ifb (decide (p20 < p19)) (
 lt (IntKind.wrap .i64 ((p1:Int)+p20)) fun x1 =>
 idx p0 x1 fun c2 =>
 cI .u8 c2 0 fun v3 =>
 lt (IntKind.wrap .i64 (((8:Int):Int) * p20)) fun x4 =>
 chk (0≤x4) (
 lt (zbU .u8 v3 x4) fun x5 =>
 lt (ior .u8 p10 x5) fun x6 =>
 lt (IntKind.wrap .i64 ((p20:Int)+(1:Int))) fun x7 =>
 k_hbbbaba p0 p1 p2 x6 p19 x7)) (
 k_x0 p1 p2 p10)
theorem znY {β:Type} (yh:zO) (L:Nat) (p0:List (List V)) (p1 p2 p10 p19 p20:Int) (X:St→Option β) (K:KT β):xk zaa (zab yh L) 0 L zbD (zca p0 p1 p2 p10 p19 p20) (zaJ zc9 X K)=zbM yh L p0 p1 p2 p10 p19 p20 (fun p0 p1 p2 p10 p19 p20=>X (zca p0 p1 p2 p10 p19 p20)) (fun p1 p2 p10=>K (.exit 0) (zf3 p1 p2 p10)):=by kernel_rfl
def zew {β:Type} (yh:zO) (L:Nat) (p1 p2 p10:Int) (k_fin:Int→Int→Int→Option β):Option β :=
 lt (IntKind.wrap .i64 ((p1:Int)+p2)) fun x8 =>
 k_fin p10 x8 (0:Int)
theorem zmr {β:Type} (yh:zO) (L:Nat) (p1 p2 p10:Int) (k:KK β):(yA 0 (xO (xk zaa (zab yh L) 0 L zf2) (yP 0 (CF.res zbv) k))) (.exit 0) (zf3 p1 p2 p10)=zew yh L p1 p2 p10 (fun zHt zHu zHz=>k (V.tup [(V.sc (.int .u8 zHt)),(V.sc (.int .i64 zHu)),(V.sc (.int .i64 zHz))]) []):=by kernel_rfl
def zaY {β:Type} (yh:zO) (L:Nat) (k_x0:Int→Int→Int→Option β):Nat→List (List V)→Int→Int→Int→Int→Int→Option β
 | 0,_,_,_,_,_,_=>none
 | n+1,p0,p1,p2,p10,p19,p20=>zbM yh L p0 p1 p2 p10 p19 p20 (fun p0 p1 p2 p10 p19 p20=>zaY yh L k_x0 n p0 p1 p2 p10 p19 p20) k_x0
theorem zgQ {β:Type} (yh:zO) (L:Nat) (K:KT β):∀ (n:Nat) (p0:List (List V)) (p1 p2 p10 p19 p20:Int),zz (xk zaa (zab yh L) 0 L zbD) zc9 n (zca p0 p1 p2 p10 p19 p20) K=zaY yh L (fun p1 p2 p10=>K (.exit 0) (zf3 p1 p2 p10)) n p0 p1 p2 p10 p19 p20:=by
 intro n
 induction n with
 | zero=>intros; rfl
 | succ n ih =>
  intro p0 p1 p2 p10 p19 p20
  refine (znY yh L p0 p1 p2 p10 p19 p20 (fun σ=>zz (xk zaa (zab yh L) 0 L zbD) zc9 n σ K) K).trans ?_
  simp only [ih]
  rfl
def zfV {β:Type} (yh:zO) (L:Nat) (p0:List (List V)) (p1 p2:Int) (k_fin:Int→Int→Int→Option β):Option β :=
 ziS yh L p0 p1 p2 k_fin (fun p0 p1 p2 p10 p19 p20=>zaY yh L (fun p1 p2 p10=>zew yh L p1 p2 p10 k_fin) L p0 p1 p2 p10 p19 p20)
theorem zrU {β:Type} (yh:zO) (L:Nat) (p0:List (List V)) (p1 p2:Int) (k:KK β):zw zaa (zab yh L) L zbv [(V.sl 1 p0),(V.sc (.int .i64 p1)),(V.sc (.int .i64 p2))] [] k=zfV yh L p0 p1 p2 (fun zHt zHu zHz=>k (V.tup [(V.sc (.int .u8 zHt)),(V.sc (.int .i64 zHu)),(V.sc (.int .i64 zHz))]) []):=by
 refine (zr2 yh L p0 p1 p2 k).trans ?_
 unfold zfV
 first
  | (simp only [zgQ,zmr]; done)
  | (simp only [zgQ]; rfl)
abbrev zfD:=∀ (β:Type),Nat→List (List V)→Int→Int→(Int→Int→Int→Option β)→Option β
def yL (β:Type) (L:Nat) (p0:List (List V)) (p1 p2:Int) (k_fin:Int→Int→Int→Option β):Option β:=zfV yh L p0 p1 p2 k_fin
def zfR (yL:zfD) (L:Nat) (β:Type) (args:List V) (bor:Bor) (k:KK β):Option β:=match args,bor with
 | [a0,a1,a2],[]=>aL 1 a0 fun p0=>aI .i64 a1 fun p1=>aI .i64 a2 fun p2=>yL β L p0 p1 p2 (fun zHt zHu zHz=>k (V.tup [(V.sc (.int .u8 zHt)),(V.sc (.int .i64 zHu)),(V.sc (.int .i64 zHz))]) [])
 | _,_=>none
theorem zrJ (L:Nat) (β:Type) (args:List V) (bor:Bor) (k:KK β) (r:β) (h:zfR yL L β args bor k=some r):zw zaa (zab yh L) L zbv args bor k=some r:=by
 unfold zfR at h
 split at h
 ·have q:=zP h; clear h; obtain ⟨p0,rfl,h⟩:=q
  have q:=xR h; clear h; obtain ⟨p1,rfl,h⟩:=q
  have q:=xR h; clear h; obtain ⟨p2,rfl,h⟩:=q
  exact (zrU yh L p0 p1 p2 k).trans h
 ·cases h
def znD:CF:=⟨13,[.tmp 4,.tmp 5,.tmp 6],
 (.seq (.reg [oo 4 (.move (.const (.sc (.int .u8 0))) false),
   oo 5 (.move (.const (.sc (.int .i64 0))) false),
   oo 6 (.move (.const (.sc (.int .i64 0))) false)])
 (.seq (.reg [oo 7 (.move (tq 0) false),
   oo 8 (.move (tq 1) false),
   oo 9 (.call 207 [((tq 7),0),((tq 8),0),((.const (.sc (.int .i64 1))),0)] []),
   oo 10 (.pull (tq 9) 0),
   oo 11 (.pull (tq 9) 1),
   oo 12 (.pull (tq 9) 2),
   oo 4 (.move (tq 10) false),
   oo 5 (.move (tq 11) false),
   oo 6 (.move (tq 12) false)])
 .ret))⟩
def zsV:Hint:=⟨[],[],[none],[],[],false,false⟩
def zqS:Nat→Sh:=yV []
def zqK (yL:zfD) (L:Nat):CBC:=(xB 207 (zfR yL L) noC)
def zsb {β:Type} (yL:zfD) (L:Nat) (p0:List (List V)) (p1:Int) (k_fin:Int→Int→Int→Option β):Option β :=
 yL β L p0 p1 (1:Int) (fun v0 v1 v2 =>
 k_fin v0 v1 v2)
theorem zzH {β:Type} (yL:zfD) (L:Nat) (p0:List (List V)) (p1:Int) (k:KK β):zw zqS (zqK yL L) L znD [(V.sl 1 p0),(V.sc (.int .i64 p1))] [] k=zsb yL L p0 p1 (fun zHt zHu zHz=>k (V.tup [(V.sc (.int .u8 zHt)),(V.sc (.int .i64 zHu)),(V.sc (.int .i64 zHz))]) []):=by kernel_rfl
abbrev zoY:=∀ (β:Type),Nat→List (List V)→Int→(Int→Int→Int→Option β)→Option β
def zaF (β:Type) (L:Nat) (p0:List (List V)) (p1:Int) (k_fin:Int→Int→Int→Option β):Option β:=zsb yL L p0 p1 k_fin
def zoQ (zaF:zoY) (L:Nat) (β:Type) (args:List V) (bor:Bor) (k:KK β):Option β:=match args,bor with
 | [a0,a1],[]=>aL 1 a0 fun p0=>aI .i64 a1 fun p1=>zaF β L p0 p1 (fun zHt zHu zHz=>k (V.tup [(V.sc (.int .u8 zHt)),(V.sc (.int .i64 zHu)),(V.sc (.int .i64 zHz))]) [])
 | _,_=>none
theorem zzC (L:Nat) (β:Type) (args:List V) (bor:Bor) (k:KK β) (r:β) (h:zoQ zaF L β args bor k=some r):zw zqS (zqK yL L) L znD args bor k=some r:=by
 unfold zoQ at h
 split at h
 ·have q:=zP h; clear h; obtain ⟨p0,rfl,h⟩:=q
  have q:=xR h; clear h; obtain ⟨p1,rfl,h⟩:=q
  exact (zzH yL L p0 p1 k).trans h
 ·cases h
def zcs:CF:=⟨8,[.tmp 2],
 (.seq (.reg [oo 2 (.move (.const (.gs 1 [])) true)])
 (.fork (.reg [oo 3 (.move (tq 0) false),
   oo 4 (.nilT false (tq 3))])
 (tq 4)
 (.seq (.reg [oo 2 (.nilS 1 7)])
 (.seq (.mask (bl 4 8) (bl 128 8))
 .ret))
 (.seq (.reg [⟨(some 5),true,none,.buildSlice 1 0 [(.sc (.int .u8 0))] []⟩,
   oo 6 (.move (tq 0) false),
   ⟨(some 7),true,none,.append 1 1 (tq 5) (tq 6)⟩,
   oo 2 (.move (tq 7) true)])
 (.seq (.mask (bl 4 8) (bl 128 8))
 .ret))))⟩
def zgL:Hint:=⟨[(0,0),(2,0),(3,3)],[(3,0),(3,2)],[none,some ((bl 4 8),(bl 128 8)),some ((bl 4 8),(bl 128 8))],[],[(2,0,[7])],false,false⟩
def zep:Nat→Sh:=yV []
def zem (L:Nat):CBC:=noC
def zeJ {β:Type} (L:Nat) (p0:List (List V)) (k_fin:List (List V)→Option β):Option β :=
 lc p0 (
 k_fin ([]:List (List V))) (fun h0 t0 =>
 chk ((0+List.length (h0::t0)) * 1≤xj∧0+List.length (h0::t0)≤xj) (
 chk ((List.length (h0::t0))≠0∨(List.length (List.flatten (h0::t0)))=0) (
 k_fin (zh 1 (List.length (h0::t0)) (List.flatten (h0::t0))))))
theorem zmT {β:Type} (L:Nat) (p0:List (List V)) (k:KK β):zw zep (zem L) L zcs [(V.sl 1 p0)] [] k=zeJ L p0 (fun p0=>k (V.fr 1 p0) []):=by kernel_rfl
abbrev zak:=∀ (β:Type),Nat→List (List V)→(List (List V)→Option β)→Option β
def xo (β:Type) (L:Nat) (p0:List (List V)) (k_fin:List (List V)→Option β):Option β:=zeJ L p0 k_fin
def zby (xo:zak) (L:Nat) (β:Type) (args:List V) (bor:Bor) (k:KK β):Option β:=match args,bor with
 | [a0],[]=>aL 1 a0 fun p0=>xo β L p0 (fun p0=>k (V.fr 1 p0) [])
 | _,_=>none
theorem zmJ (L:Nat) (β:Type) (args:List V) (bor:Bor) (k:KK β) (r:β) (h:zby xo L β args bor k=some r):zw zep (zem L) L zcs args bor k=some r:=by
 unfold zby at h
 split at h
 ·have q:=zP h; clear h; obtain ⟨p0,rfl,h⟩:=q
  exact (zmT L p0 k).trans h
 ·cases h
abbrev zx:=∀ (β:Type),Nat→List (List V)→Int→Option β→Option β
def yd (β:Type) (L:Nat) (p0:List (List V)) (p1:Int) (k_fin:Option β):Option β:=chk (0≤p1∧p1≤1000000000) k_fin
def zcW (yd:zx) (L:Nat) (β:Type) (args:List V) (bor:Bor) (k:KK β):Option β:=match args,bor with
 | [.fr 1 [],a1],[]=>aI .i64 a1 fun p1=>yd β L [] p1 (k (V.gs 1 ([]:List (List V))) [])
 | _,_=>none
def zag:CC:=(.seq (.reg [oo 28 (.bin .lss (tq 27) (tq 26))])
 (.seq (.cond (tq 28)
 .skip
 (.seq (.mask (bl 64 36) (bl 60129541887 36))
 (.exit 2)))
 (.seq (.block 3 (.seq (.reg [oo 29 (.indexAddrS 1 (tq 25) (tq 27)),
   oo 30 (.load false 1 (tq 29) false),
   oo 8 (.move (tq 30) false)])
 (.reg [oo 31 (.move (tq 6) true),
   oo 32 (.move (tq 8) false),
   oo 33 (.append 1 1 (tq 31) (tq 32)),
   oo 6 (.move (tq 33) true)])))
 (.reg [oo 34 (.bin .add (tq 27) (.const (.sc (.int .i64 1)))),
   oo 27 (.move (tq 34) false)]))))
def zas:CC:=(.seq (.reg [oo 12 (.bin .lss (tq 11) (tq 10))])
 (.seq (.cond (tq 12)
 .skip
 (.seq (.mask (bl 9 36) (bl 68719345631 36))
 (.exit 0)))
 (.seq (.block 1 (.seq (.reg [oo 13 (.indexAddrS 1 (tq 9) (tq 11)),
   oo 14 (.load false 1 (tq 13) false),
   oo 5 (.move (tq 14) false)])
 (.seq (.reg [oo 15 (.move (tq 3) false),
   oo 16 (.move (tq 5) false),
   oo 17 (.lenS (tq 16)),
   oo 18 (.bin .add (tq 15) (tq 17)),
   oo 3 (.move (tq 18) false)])
 (.seq (.reg [oo 19 (.move (tq 3) false),
   oo 20 (.bin .lss (tq 19) (.const (.sc (.int .i64 0))))])
 (.cond (tq 20)
 (.reg [oo 21 (.stuck),
   oz (.stuck)])
 .skip)))))
 (.reg [oo 22 (.bin .add (tq 11) (.const (.sc (.int .i64 1)))),
   oo 11 (.move (tq 22) false)]))))
def zcM:CC:=(.seq (.reg [oo 35 (.move (tq 6) true),
   oo 2 (.move (tq 35) true)])
 .ret)
def zbI:CC:=(.seq (.reg [oo 23 (.move (tq 3) false),
   oo 24 (.call 459 [((.const (.gs 1 [])),2),((tq 23),2)] []),
   oo 6 (.move (tq 24) true)])
 (.seq (.seq (.reg [oo 25 (.move (tq 0) false),
   oo 26 (.lenS (tq 25)),
   oo 27 (.move (.const (.sc (.int .i64 0))) false)])
 (.block 2 (.loop (bl 234881088 36) (bl 60129541887 36)
 zag)))
 zcM))
def zN:CF:=⟨36,[.tmp 2],
 (.seq (.reg [oo 2 (.move (.const (.gs 1 [])) true)])
 (.seq (.reg [oo 3 (.move (.const (.sc (.int .i64 0))) false)])
 (.seq (.seq (.reg [oo 9 (.move (tq 0) false),
   oo 10 (.lenS (tq 9)),
   oo 11 (.move (.const (.sc (.int .i64 0))) false)])
 (.block 0 (.loop (bl 3593 36) (bl 68719345631 36)
 zas)))
 zbI)))⟩
def zga:Hint:=⟨[(0,0),(9,1),(9,2),(13,0),(13,3),(15,0),(15,1)],[],[none,some ((bl 3593 36),(bl 68719345631 36)),none,some ((bl 9 36),(bl 68719345631 36)),none,none,none,some ((bl 234881088 36),(bl 60129541887 36)),none,some ((bl 64 36),(bl 60129541887 36)),none,none],[],[],false,false⟩
def zy:Nat→Sh:=yV [(14,(.sl 1)),(30,(.sl 1))]
def yy (yd:zx) (L:Nat):CBC:=(xB 459 (zcW yd L) noC)
def zbk:St→St:=zZ 0 (bl 3593 36) (bl 68719345631 36)
def za3:St→St:=zZ 0 (bl 234881088 36) (bl 60129541887 36)
def zaQ (p0:List (List V)) (p3:Int) (p9:List (List V)) (p10 p11:Int):St:=⟨((V.sl 1 p0)::(jn 2 ((V.sc (.int .i64 p3))::(jn 5 ((V.sl 1 p9)::((V.sc (.int .i64 p10))::((V.sc (.int .i64 p11))::(jn 24 [])))))))),(gn 36 [])⟩
def zbz (p0:List (List V)) (p3:Int):St:=⟨((V.sl 1 p0)::(jn 2 ((V.sc (.int .i64 p3))::(jn 32 [])))),(gn 36 [])⟩
def zaH (p6 p25:List (List V)) (p26 p27:Int):St:=⟨(jn 6 ((V.gs 1 p6)::(jn 18 ((V.sl 1 p25)::((V.sc (.int .i64 p26))::((V.sc (.int .i64 p27))::(jn 8 []))))))),(gn 36 [])⟩
def zcV (p6:List (List V)):St:=⟨(jn 6 ((V.gs 1 p6)::(jn 29 []))),(gn 36 [])⟩
def zes {β:Type} (yd:zx) (L:Nat) (p0:List (List V)) (k_hbbaba:List (List V)→Int→List (List V)→Int→Int→Option β):Option β :=
 k_hbbaba p0 (0:Int) p0 ((List.length p0:Nat):Int) (0:Int)
theorem zms {β:Type} (yd:zx) (L:Nat) (p0:List (List V)) (k:KK β):zw zy (yy yd L) L zN [(V.sl 1 p0)] [] k=zes yd L p0 (fun p0 p3 p9 p10 p11=>zz (xk zy (yy yd L) 0 L zas) zbk L (zaQ p0 p3 p9 p10 p11) (yA 0 (xO (xk zy (yy yd L) 0 L zbI) (yP 0 (CF.res zN) k)))):=by kernel_rfl
def zcK {β:Type} (yd:zx) (L:Nat) (p0:List (List V)) (p3:Int) (p9:List (List V)) (p10 p11:Int) (k_hbbaba:List (List V)→Int→List (List V)→Int→Int→Option β) (k_x0:List (List V)→Int→Option β):Option β :=
 ifb (decide (p11 < p10)) (
 idx p9 p11 fun c0 =>
 cL 1 c0 0 fun v1 =>
 lt (IntKind.wrap .i64 ((p3:Int)+((List.length v1:Nat):Int))) fun x2 =>
 ifb (decide (x2 < (0:Int))) (
 none) (
 lt (IntKind.wrap .i64 ((p11:Int)+(1:Int))) fun x3 =>
 k_hbbaba p0 x2 p9 p10 x3)) (
 k_x0 p0 p3)
theorem zjS {β:Type} (yd:zx) (L:Nat) (p0:List (List V)) (p3:Int) (p9:List (List V)) (p10 p11:Int) (X:St→Option β) (K:KT β):xk zy (yy yd L) 0 L zas (zaQ p0 p3 p9 p10 p11) (zaJ zbk X K)=zcK yd L p0 p3 p9 p10 p11 (fun p0 p3 p9 p10 p11=>X (zaQ p0 p3 p9 p10 p11)) (fun p0 p3=>K (.exit 0) (zbz p0 p3)):=by kernel_rfl
def zci {β:Type} (yd:zx) (L:Nat) (p0:List (List V)) (p3:Int) (k_hbbbbaba:List (List V)→List (List V)→Int→Int→Option β):Option β :=
 yd β L ([]:List (List V)) p3 (
 k_hbbbbaba ([]:List (List V)) p0 ((List.length p0:Nat):Int) (0:Int))
theorem ziV {β:Type} (yd:zx) (L:Nat) (p0:List (List V)) (p3:Int) (k:KK β):(yA 0 (xO (xk zy (yy yd L) 0 L zbI) (yP 0 (CF.res zN) k))) (.exit 0) (zbz p0 p3)=zci yd L p0 p3 (fun p6 p25 p26 p27=>zz (xk zy (yy yd L) 0 L zag) za3 L (zaH p6 p25 p26 p27) (yA 2 (xO (xk zy (yy yd L) 0 L zcM) (yP 0 (CF.res zN) k)))):=by kernel_rfl
def zcf {β:Type} (yd:zx) (L:Nat) (p6 p25:List (List V)) (p26 p27:Int) (k_hbbbbaba:List (List V)→List (List V)→Int→Int→Option β) (k_x2:List (List V)→Option β):Option β :=
 ifb (decide (p27 < p26)) (
 idx p25 p27 fun c4 =>
 cL 1 c4 0 fun v5 =>
 chk ((List.length p6+List.length v5) * 1≤xj∧List.length p6+List.length v5≤xj) (
 lt (p6++v5) fun l6 =>
 lt (IntKind.wrap .i64 ((p27:Int)+(1:Int))) fun x7 =>
 k_hbbbbaba l6 p25 p26 x7)) (
 k_x2 p6)
theorem ziY {β:Type} (yd:zx) (L:Nat) (p6 p25:List (List V)) (p26 p27:Int) (X:St→Option β) (K:KT β):xk zy (yy yd L) 0 L zag (zaH p6 p25 p26 p27) (zaJ za3 X K)=zcf yd L p6 p25 p26 p27 (fun p6 p25 p26 p27=>X (zaH p6 p25 p26 p27)) (fun p6=>K (.exit 2) (zcV p6)):=by kernel_rfl
def zea {β:Type} (yd:zx) (L:Nat) (p6:List (List V)) (k_fin:List (List V)→Option β):Option β :=
 k_fin p6
theorem zhM {β:Type} (yd:zx) (L:Nat) (p6:List (List V)) (k:KK β):(yA 2 (xO (xk zy (yy yd L) 0 L zcM) (yP 0 (CF.res zN) k))) (.exit 2) (zcV p6)=zea yd L p6 (fun p0=>k (V.gs 1 p0) []):=by kernel_rfl
def zaA {β:Type} (yd:zx) (L:Nat) (k_x0:List (List V)→Int→Option β):Nat→List (List V)→Int→List (List V)→Int→Int→Option β
 | 0,_,_,_,_,_=>none
 | n+1,p0,p3,p9,p10,p11=>zcK yd L p0 p3 p9 p10 p11 (fun p0 p3 p9 p10 p11=>zaA yd L k_x0 n p0 p3 p9 p10 p11) k_x0
theorem zeG {β:Type} (yd:zx) (L:Nat) (K:KT β):∀ (n:Nat) (p0:List (List V)) (p3:Int) (p9:List (List V)) (p10 p11:Int),zz (xk zy (yy yd L) 0 L zas) zbk n (zaQ p0 p3 p9 p10 p11) K=zaA yd L (fun p0 p3=>K (.exit 0) (zbz p0 p3)) n p0 p3 p9 p10 p11:=by
 intro n
 induction n with
 | zero=>intros; rfl
 | succ n ih =>
  intro p0 p3 p9 p10 p11
  refine (zjS yd L p0 p3 p9 p10 p11 (fun σ=>zz (xk zy (yy yd L) 0 L zas) zbk n σ K) K).trans ?_
  simp only [ih]
  rfl
def zan {β:Type} (yd:zx) (L:Nat) (k_x2:List (List V)→Option β):Nat→List (List V)→List (List V)→Int→Int→Option β
 | 0,_,_,_,_=>none
 | n+1,p6,p25,p26,p27=>zcf yd L p6 p25 p26 p27 (fun p6 p25 p26 p27=>zan yd L k_x2 n p6 p25 p26 p27) k_x2
theorem zdZ {β:Type} (yd:zx) (L:Nat) (K:KT β):∀ (n:Nat) (p6 p25:List (List V)) (p26 p27:Int),zz (xk zy (yy yd L) 0 L zag) za3 n (zaH p6 p25 p26 p27) K=zan yd L (fun p6=>K (.exit 2) (zcV p6)) n p6 p25 p26 p27:=by
 intro n
 induction n with
 | zero=>intros; rfl
 | succ n ih =>
  intro p6 p25 p26 p27
  refine (ziY yd L p6 p25 p26 p27 (fun σ=>zz (xk zy (yy yd L) 0 L zag) za3 n σ K) K).trans ?_
  simp only [ih]
  rfl
def zaS {β:Type} (yd:zx) (L:Nat) (p0:List (List V)) (p3:Int) (k_fin:List (List V)→Option β):Option β :=
 zci yd L p0 p3 (fun p6 p25 p26 p27=>zan yd L (fun p6=>zea yd L p6 k_fin) L p6 p25 p26 p27)
theorem zig {β:Type} (yd:zx) (L:Nat) (p0:List (List V)) (p3:Int) (k:KK β):(yA 0 (xO (xk zy (yy yd L) 0 L zbI) (yP 0 (CF.res zN) k))) (.exit 0) (zbz p0 p3)=zaS yd L p0 p3 (fun p0=>k (V.gs 1 p0) []):=by
 refine (ziV yd L p0 p3 k).trans ?_
 unfold zaS
 first
  | (simp only [zdZ,zhM]; done)
  | (simp only [zdZ]; rfl)
def zcu {β:Type} (yd:zx) (L:Nat) (p0:List (List V)) (k_fin:List (List V)→Option β):Option β :=
 zes yd L p0 (fun p0 p3 p9 p10 p11=>zaA yd L (fun p0 p3=>zaS yd L p0 p3 k_fin) L p0 p3 p9 p10 p11)
theorem zmt {β:Type} (yd:zx) (L:Nat) (p0:List (List V)) (k:KK β):zw zy (yy yd L) L zN [(V.sl 1 p0)] [] k=zcu yd L p0 (fun p0=>k (V.gs 1 p0) []):=by
 refine (zms yd L p0 k).trans ?_
 unfold zcu
 first
  | (simp only [zeG,zig]; done)
  | (simp only [zeG]; rfl)
abbrev zae:=∀ (β:Type),Nat→List (List V)→(List (List V)→Option β)→Option β
def xn (β:Type) (L:Nat) (p0:List (List V)) (k_fin:List (List V)→Option β):Option β:=zcu yd L p0 k_fin
def zbi (xn:zae) (L:Nat) (β:Type) (args:List V) (bor:Bor) (k:KK β):Option β:=match args,bor with
 | [a0],[]=>aL 1 a0 fun p0=>xn β L p0 (fun p0=>k (V.gs 1 p0) [])
 | _,_=>none
theorem zmq (L:Nat) (β:Type) (args:List V) (bor:Bor) (k:KK β) (r:β) (h:zbi xn L β args bor k=some r):zw zy (yy yd L) L zN args bor k=some r:=by
 unfold zbi at h
 split at h
 ·have q:=zP h; clear h; obtain ⟨p0,rfl,h⟩:=q
  exact (zmt yd L p0 k).trans h
 ·cases h
def zbu:CC:=(.seq (.reg [oo 19 (.bin .lss (tq 18) (.const (.sc (.int .i64 8))))])
 (.seq (.cond (tq 19)
 .skip
 (.seq (.mask (bl 16 33) (bl 6979321823 33))
 (.exit 0)))
 (.seq (.block 1 (.seq (.reg [oo 20 (.move (tq 18) false),
   oo 5 (.move (tq 20) false)])
 (.reg [oo 21 (.unpin (tq 4)),
   oo 22 (.move (tq 0) false),
   oo 23 (.bin .mul (.const (.sc (.int .u64 8))) (tq 22)),
   oo 24 (.move (tq 5) false),
   oo 25 (.bin .mul (.const (.sc (.int .i64 8))) (tq 24)),
   oo 26 (.bin .sub (.const (.sc (.int .i64 56))) (tq 25)),
   oo 27 (.bin .shr (tq 23) (tq 26)),
   oo 28 (.conv .u8 (tq 27)),
   oo 29 (.buildSlice 1 1 [(.sc (.int .u8 0))] [(0,1,(tq 28))]),
   oo 30 (.append 1 1 (tq 21) (tq 29)),
   oo 4 (.move (tq 30) true)])))
 (.reg [oo 31 (.bin .add (tq 18) (.const (.sc (.int .i64 1)))),
   oo 18 (.move (tq 31) false)]))))
def zjj:CC:=(.seq (.reg [oo 32 (.move (tq 4) true),
   oo 2 (.move (tq 32) true)])
 .ret)
def zfK:CF:=⟨33,[.tmp 2],
 (.seq (.reg [oo 2 (.move (.const (.gs 1 [])) true)])
 (.seq (.reg [oo 6 (.move (tq 0) false),
   oo 7 (.bin .add (tq 6) (.const (.sc (.int .u64 9)))),
   oo 8 (.bin .rem (tq 7) (.const (.sc (.int .u64 64)))),
   oo 9 (.bin .sub (.const (.sc (.int .u64 64))) (tq 8)),
   oo 10 (.bin .rem (tq 9) (.const (.sc (.int .u64 64)))),
   oo 3 (.move (tq 10) false)])
 (.seq (.reg [oo 11 (.move (tq 3) false),
   oo 12 (.bin .add (.const (.sc (.int .u64 1))) (tq 11)),
   oo 13 (.move (tq 3) false),
   oo 14 (.bin .add (.const (.sc (.int .u64 9))) (tq 13)),
   ⟨(some 15),true,none,.makeSlice 1 1 [(.sc (.int .u8 0))] (tq 12) (tq 14)⟩,
   oo 4 (.move (tq 15) true)])
 (.seq (.reg [oo 16 (.move (tq 4) false),
   oo 17 (.indexAddrS 1 (tq 16) (.const (.sc (.int .i64 0)))),
   oz (.store 1 (tq 17) (.const (.sc (.int .u8 128))))])
 (.seq (.seq (.reg [oo 18 (.move (.const (.sc (.int .i64 0))) false)])
 (.block 0 (.loop (bl 262161 33) (bl 6979321823 33)
 zbu)))
 zjj)))))⟩
def ztz:Hint:=⟨[(0,0),(2,5),(7,10),(9,0),(9,1)],[(2,4)],[none,some ((bl 262161 33),(bl 6979321823 33)),none,some ((bl 16 33),(bl 6979321823 33)),none,none],[],[(7,0,[0])],false,false⟩
def zbx:Nat→Sh:=yV []
def zbC (L:Nat):CBC:=noC
def zcw:St→St:=zZ 0 (bl 262161 33) (bl 6979321823 33)
def zhQ (p0:Int) (p4l:Nat) (p18:Int) (b15:List V):St:=⟨((V.sc (.int .u64 p0))::(jn 3 ((V.own 15 0 p4l 1)::(jn 13 ((V.sc (.int .i64 p18))::(jn 14 [])))))),(gn 15 ((.live true b15)::(gn 17 [])))⟩
def zed (p0:Int) (p4:List (List V)) (p18:Int) (b15:Nat):St:=⟨((V.sc (.int .u64 p0))::(jn 3 ((V.gs 1 p4)::(jn 13 ((V.sc (.int .i64 p18))::(jn 14 [])))))),(gn 15 ((.dead b15)::(gn 17 [])))⟩
def zoh (p4l:Nat) (b15:List V):St:=⟨(jn 4 ((V.own 15 0 p4l 1)::(jn 28 []))),(gn 15 ((.live true b15)::(gn 17 [])))⟩
def zh6 (p4:List (List V)) (b15:Nat):St:=⟨(jn 4 ((V.gs 1 p4)::(jn 28 []))),(gn 15 ((.dead b15)::(gn 17 [])))⟩
def zt6 {β:Type} (L:Nat) (p0:Int) (k_hbbbbaba:Int→Nat→Int→List V→Option β):Option β :=
 lt (IntKind.wrap .u64 ((p0:Int)+(9:Int))) fun x0 =>
 lt (Int.tmod x0 (64:Int)) fun x1 =>
 lt (IntKind.wrap .u64 (((64:Int):Int) - x1)) fun x2 =>
 lt (Int.tmod x2 (64:Int)) fun x3 =>
 lt (IntKind.wrap .u64 (((1:Int):Int)+x3)) fun x4 =>
 lt (IntKind.wrap .u64 (((9:Int):Int)+x3)) fun x5 =>
 chk (0≤x4∧x4≤x5∧(Int.toNat x5) * 1≤xj∧x5≤xj) (
 chk (0≤(0:Int)∧(0:Int) < (((Int.toNat x4):Nat):Int)) (
 chk (1=1∧0+1≤(List.length (List.flatten (List.replicate (Int.toNat x5) [(V.sc (.int .u8 (0:Int)))])))) (
 lt (zr (List.flatten (List.replicate (Int.toNat x5) [(V.sc (.int .u8 (0:Int)))])) 0 [(V.sc (.int .u8 (128:Int)))]) fun r6 =>
 k_hbbbbaba p0 (Int.toNat x4) (0:Int) r6)))
theorem zAG {β:Type} (L:Nat) (p0:Int) (k:KK β):zw zbx (zbC L) L zfK [(V.sc (.int .u64 p0))] [] k=zt6 L p0 (fun p0 p4l p18 b15=>zz (xk zbx (zbC L) 0 L zbu) zcw L (zhQ p0 p4l p18 b15) (yA 0 (xO (xk zbx (zbC L) 0 L zjj) (yP 0 (CF.res zfK) k)))):=by kernel_rfl
def zgZ {β:Type} (L:Nat) (p0:Int) (p4l:Nat) (p18:Int) (b15:List V) (k_hbbbbabav1:Int→List (List V)→Int→Nat→Option β) (k_x0:Nat→List V→Option β):Option β :=
 ifb (decide (p18 < (8:Int))) (
 chk (0=0∧p4l * 1≤(List.length b15)∧(List.length b15)≠0) (
 lt (IntKind.wrap .u64 (((8:Int):Int) * p0)) fun x7 =>
 lt (IntKind.wrap .i64 (((8:Int):Int) * p18)) fun x8 =>
 lt (IntKind.wrap .i64 (((56:Int):Int) - x8)) fun x9 =>
 chk (0≤x9) (
 lt (zco .u64 x7 x9) fun x10 =>
 lt (IntKind.wrap .u8 x10) fun x11 =>
 chk ((List.length (zh 1 p4l b15)+List.length (zh 1 1 [(V.sc (.int .u8 x11))])) * 1≤xj∧List.length (zh 1 p4l b15)+List.length (zh 1 1 [(V.sc (.int .u8 x11))])≤xj) (
 lt ((zh 1 p4l b15)++(zh 1 1 [(V.sc (.int .u8 x11))])) fun l12 =>
 lt (IntKind.wrap .i64 ((p18:Int)+(1:Int))) fun x13 =>
 k_hbbbbabav1 p0 l12 x13 (List.length b15))))) (
 k_x0 p4l b15)
theorem ztg {β:Type} (L:Nat) (p0:Int) (p4l:Nat) (p18:Int) (b15:List V) (X:St→Option β) (K:KT β):xk zbx (zbC L) 0 L zbu (zhQ p0 p4l p18 b15) (zaJ zcw X K)=zgZ L p0 p4l p18 b15 (fun p0 p4 p18 b15=>X (zed p0 p4 p18 b15)) (fun p4l b15=>K (.exit 0) (zoh p4l b15)):=by kernel_rfl
def ziF {β:Type} (L:Nat) (p4l:Nat) (b15:List V) (k_fin:List (List V)→Option β):Option β :=
 chk (p4l≠0∨(List.length b15)=0) (
 k_fin (zh 1 p4l b15))
theorem zr6 {β:Type} (L:Nat) (p4l:Nat) (b15:List V) (k:KK β):(yA 0 (xO (xk zbx (zbC L) 0 L zjj) (yP 0 (CF.res zfK) k))) (.exit 0) (zoh p4l b15)=ziF L p4l b15 (fun p0=>k (V.fr 1 p0) []):=by kernel_rfl
def zd4 {β:Type} (L:Nat) (p0:Int) (p4:List (List V)) (p18:Int) (b15:Nat) (k_hbbbbabav1:Int→List (List V)→Int→Nat→Option β) (k_x0v1:List (List V)→Nat→Option β):Option β :=
 ifb (decide (p18 < (8:Int))) (
 lt (IntKind.wrap .u64 (((8:Int):Int) * p0)) fun x14 =>
 lt (IntKind.wrap .i64 (((8:Int):Int) * p18)) fun x15 =>
 lt (IntKind.wrap .i64 (((56:Int):Int) - x15)) fun x16 =>
 chk (0≤x16) (
 lt (zco .u64 x14 x16) fun x17 =>
 lt (IntKind.wrap .u8 x17) fun x18 =>
 chk ((List.length p4+List.length (zh 1 1 [(V.sc (.int .u8 x18))])) * 1≤xj∧List.length p4+List.length (zh 1 1 [(V.sc (.int .u8 x18))])≤xj) (
 lt (p4++(zh 1 1 [(V.sc (.int .u8 x18))])) fun l19 =>
 lt (IntKind.wrap .i64 ((p18:Int)+(1:Int))) fun x20 =>
 k_hbbbbabav1 p0 l19 x20 b15))) (
 k_x0v1 p4 b15)
theorem zrP {β:Type} (L:Nat) (p0:Int) (p4:List (List V)) (p18:Int) (b15:Nat) (X:St→Option β) (K:KT β):xk zbx (zbC L) 0 L zbu (zed p0 p4 p18 b15) (zaJ zcw X K)=zd4 L p0 p4 p18 b15 (fun p0 p4 p18 b15=>X (zed p0 p4 p18 b15)) (fun p4 b15=>K (.exit 0) (zh6 p4 b15)):=by kernel_rfl
def zdI {β:Type} (L:Nat) (p4:List (List V)) (b15:Nat) (k_finv1:List (List V)→Option β):Option β :=
 k_finv1 p4
theorem zoP {β:Type} (L:Nat) (p4:List (List V)) (b15:Nat) (k:KK β):(yA 0 (xO (xk zbx (zbC L) 0 L zjj) (yP 0 (CF.res zfK) k))) (.exit 0) (zh6 p4 b15)=zdI L p4 b15 (fun p0=>k (V.gs 1 p0) []):=by kernel_rfl
def zbL {β:Type} (L:Nat) (k_x0v1:List (List V)→Nat→Option β):Nat→Int→List (List V)→Int→Nat→Option β
 | 0,_,_,_,_=>none
 | n+1,p0,p4,p18,b15=>zd4 L p0 p4 p18 b15 (fun p0 p4 p18 b15=>zbL L k_x0v1 n p0 p4 p18 b15) k_x0v1
theorem zrQ {β:Type} (L:Nat) (K:KT β):∀ (n:Nat) (p0:Int) (p4:List (List V)) (p18:Int) (b15:Nat),zz (xk zbx (zbC L) 0 L zbu) zcw n (zed p0 p4 p18 b15) K=zbL L (fun p4 b15=>K (.exit 0) (zh6 p4 b15)) n p0 p4 p18 b15:=by
 intro n
 induction n with
 | zero=>intros; rfl
 | succ n ih =>
  intro p0 p4 p18 b15
  refine (zrP L p0 p4 p18 b15 (fun σ=>zz (xk zbx (zbC L) 0 L zbu) zcw n σ K) K).trans ?_
  simp only [ih]
  rfl
def zpS {β:Type} (L:Nat) (k_x0:Nat→List V→Option β) (k_x0v1:List (List V)→Nat→Option β):Nat→Int→Nat→Int→List V→Option β
 | 0,_,_,_,_=>none
 | n+1,p0,p4l,p18,b15=>zgZ L p0 p4l p18 b15 (fun p0 p4 p18 b15=>zbL L k_x0v1 n p0 p4 p18 b15) k_x0
theorem zmx {β:Type} (L:Nat) (K:KT β):∀ (n:Nat) (p0:Int) (p4l:Nat) (p18:Int) (b15:List V),zz (xk zbx (zbC L) 0 L zbu) zcw n (zhQ p0 p4l p18 b15) K=zpS L (fun p4l b15=>K (.exit 0) (zoh p4l b15)) (fun p4 b15=>K (.exit 0) (zh6 p4 b15)) n p0 p4l p18 b15:=by
 intro n
 induction n with
 | zero=>intros; rfl
 | succ n ih =>
  intro p0 p4l p18 b15
  refine (ztg L p0 p4l p18 b15 (fun σ=>zz (xk zbx (zbC L) 0 L zbu) zcw n σ K) K).trans ?_
  simp only [zrQ]
  rfl
def zqA {β:Type} (L:Nat) (p0:Int) (k_fin:List (List V)→Option β) (k_finv1:List (List V)→Option β):Option β :=
 zt6 L p0 (fun p0 p4l p18 b15=>zpS L (fun p4l b15=>ziF L p4l b15 k_fin) (fun p4 b15=>zdI L p4 b15 k_finv1) L p0 p4l p18 b15)
theorem zAI {β:Type} (L:Nat) (p0:Int) (k:KK β):zw zbx (zbC L) L zfK [(V.sc (.int .u64 p0))] [] k=zqA L p0 (fun p0=>k (V.fr 1 p0) []) (fun p0=>k (V.gs 1 p0) []):=by
 refine (zAG L p0 k).trans ?_
 unfold zqA
 first
  | (simp only [zmx,zr6,zoP]; done)
  | (simp only [zmx]; rfl)
abbrev zau:=∀ (β:Type),Nat→Int→(List (List V)→Option β)→(List (List V)→Option β)→Option β
def xq (β:Type) (L:Nat) (p0:Int) (k_fin:List (List V)→Option β) (k_finv1:List (List V)→Option β):Option β:=zqA L p0 k_fin k_finv1
def zqq (xq:zau) (L:Nat) (β:Type) (args:List V) (bor:Bor) (k:KK β):Option β:=match args,bor with
 | [a0],[]=>aI .u64 a0 fun p0=>xq β L p0 (fun p0=>k (V.fr 1 p0) []) (fun p0=>k (V.gs 1 p0) [])
 | _,_=>none
theorem zBg (L:Nat) (β:Type) (args:List V) (bor:Bor) (k:KK β) (r:β) (h:zqq xq L β args bor k=some r):zw zbx (zbC L) L zfK args bor k=some r:=by
 unfold zqq at h
 split at h
 ·have q:=xR h; clear h; obtain ⟨p0,rfl,h⟩:=q
  exact (zAI L p0 k).trans h
 ·cases h
def zfW:CC:=(.seq (.reg [oo 9 (.bin .lss (tq 8) (tq 7))])
 (.seq (.cond (tq 9)
 .skip
 (.seq (.mask (bl 8 17) (bl 114655 17))
 (.exit 0)))
 (.seq (.block 1 (.seq (.reg [oo 10 (.indexAddrS 1 (tq 6) (tq 8)),
   oo 11 (.load false 1 (tq 10) false),
   oo 5 (.move (tq 11) false)])
 (.reg [oo 12 (.move (tq 3) true),
   oo 13 (.move (tq 5) false),
   oo 14 (.append 1 1 (tq 12) (tq 13)),
   oo 3 (.move (tq 14) true)])))
 (.reg [oo 15 (.bin .add (tq 8) (.const (.sc (.int .i64 1)))),
   oo 8 (.move (tq 15) false)]))))
def zpR:CC:=(.seq (.reg [oo 16 (.move (tq 3) true),
   oo 2 (.move (tq 16) true)])
 .ret)
def zg6:CF:=⟨17,[.tmp 2],
 (.seq (.reg [oo 2 (.move (.const (.gs 1 [])) true)])
 (.seq (.reg [oo 3 (.move (.const (.gs 1 [])) true)])
 (.seq (.seq (.reg [oo 6 (.move (tq 0) false),
   oo 7 (.lenS (tq 6)),
   oo 8 (.move (.const (.sc (.int .i64 0))) false)])
 (.block 0 (.loop (bl 456 17) (bl 114655 17)
 zfW)))
 zpR)))⟩
def zur:Hint:=⟨[(0,0),(1,0),(5,0),(5,3),(7,0),(7,1)],[],[none,some ((bl 456 17),(bl 114655 17)),none,some ((bl 8 17),(bl 114655 17)),none,none],[],[],false,false⟩
def zdF:Nat→Sh:=yV [(11,(.sl 1))]
def zdP (L:Nat):CBC:=noC
def zjm:St→St:=zZ 0 (bl 456 17) (bl 114655 17)
def zgi (p3 p6:List (List V)) (p7 p8:Int):St:=⟨(jn 3 ((V.gs 1 p3)::(jn 2 ((V.sl 1 p6)::((V.sc (.int .i64 p7))::((V.sc (.int .i64 p8))::(jn 8 []))))))),(gn 17 [])⟩
def zn8 (p3:List (List V)):St:=⟨(jn 3 ((V.gs 1 p3)::(jn 13 []))),(gn 17 [])⟩
def zue {β:Type} (L:Nat) (p0:List (List V)) (k_hbbaba:List (List V)→List (List V)→Int→Int→Option β):Option β :=
 k_hbbaba ([]:List (List V)) p0 ((List.length p0:Nat):Int) (0:Int)
theorem zAf {β:Type} (L:Nat) (p0:List (List V)) (k:KK β):zw zdF (zdP L) L zg6 [(V.sl 1 p0)] [] k=zue L p0 (fun p3 p6 p7 p8=>zz (xk zdF (zdP L) 0 L zfW) zjm L (zgi p3 p6 p7 p8) (yA 0 (xO (xk zdF (zdP L) 0 L zpR) (yP 0 (CF.res zg6) k)))):=by kernel_rfl
def zcB {β:Type} (L:Nat) (p3 p6:List (List V)) (p7 p8:Int) (k_hbbaba:List (List V)→List (List V)→Int→Int→Option β) (k_x0:List (List V)→Option β):Option β :=
 ifb (decide (p8 < p7)) (
 idx p6 p8 fun c0 =>
 cL 1 c0 0 fun v1 =>
 chk ((List.length p3+List.length v1) * 1≤xj∧List.length p3+List.length v1≤xj) (
 lt (p3++v1) fun l2 =>
 lt (IntKind.wrap .i64 ((p8:Int)+(1:Int))) fun x3 =>
 k_hbbaba l2 p6 p7 x3)) (
 k_x0 p3)
theorem zuX {β:Type} (L:Nat) (p3 p6:List (List V)) (p7 p8:Int) (X:St→Option β) (K:KT β):xk zdF (zdP L) 0 L zfW (zgi p3 p6 p7 p8) (zaJ zjm X K)=zcB L p3 p6 p7 p8 (fun p3 p6 p7 p8=>X (zgi p3 p6 p7 p8)) (fun p3=>K (.exit 0) (zn8 p3)):=by kernel_rfl
def zdB {β:Type} (L:Nat) (p3:List (List V)) (k_fin:List (List V)→Option β):Option β :=
 k_fin p3
theorem ztn {β:Type} (L:Nat) (p3:List (List V)) (k:KK β):(yA 0 (xO (xk zdF (zdP L) 0 L zpR) (yP 0 (CF.res zg6) k))) (.exit 0) (zn8 p3)=zdB L p3 (fun p0=>k (V.gs 1 p0) []):=by kernel_rfl
def ze3 {β:Type} (L:Nat) (k_x0:List (List V)→Option β):Nat→List (List V)→List (List V)→Int→Int→Option β
 | 0,_,_,_,_=>none
 | n+1,p3,p6,p7,p8=>zcB L p3 p6 p7 p8 (fun p3 p6 p7 p8=>ze3 L k_x0 n p3 p6 p7 p8) k_x0
theorem zox {β:Type} (L:Nat) (K:KT β):∀ (n:Nat) (p3 p6:List (List V)) (p7 p8:Int),zz (xk zdF (zdP L) 0 L zfW) zjm n (zgi p3 p6 p7 p8) K=ze3 L (fun p3=>K (.exit 0) (zn8 p3)) n p3 p6 p7 p8:=by
 intro n
 induction n with
 | zero=>intros; rfl
 | succ n ih =>
  intro p3 p6 p7 p8
  refine (zuX L p3 p6 p7 p8 (fun σ=>zz (xk zdF (zdP L) 0 L zfW) zjm n σ K) K).trans ?_
  simp only [ih]
  rfl
def zqF {β:Type} (L:Nat) (p0:List (List V)) (k_fin:List (List V)→Option β):Option β :=
 zue L p0 (fun p3 p6 p7 p8=>ze3 L (fun p3=>zdB L p3 k_fin) L p3 p6 p7 p8)
theorem zAP {β:Type} (L:Nat) (p0:List (List V)) (k:KK β):zw zdF (zdP L) L zg6 [(V.sl 1 p0)] [] k=zqF L p0 (fun p0=>k (V.gs 1 p0) []):=by
 refine (zAf L p0 k).trans ?_
 unfold zqF
 first
  | (simp only [zox,ztn]; done)
  | (simp only [zox]; rfl)
abbrev zav:=∀ (β:Type),Nat→List (List V)→(List (List V)→Option β)→Option β
def zq (β:Type) (L:Nat) (p0:List (List V)) (k_fin:List (List V)→Option β):Option β:=zqF L p0 k_fin
def zqf (zq:zav) (L:Nat) (β:Type) (args:List V) (bor:Bor) (k:KK β):Option β:=match args,bor with
 | [a0],[]=>aL 1 a0 fun p0=>zq β L p0 (fun p0=>k (V.gs 1 p0) [])
 | _,_=>none
theorem zAy (L:Nat) (β:Type) (args:List V) (bor:Bor) (k:KK β) (r:β) (h:zqf zq L β args bor k=some r):zw zdF (zdP L) L zg6 args bor k=some r:=by
 unfold zqf at h
 split at h
 ·have q:=zP h; clear h; obtain ⟨p0,rfl,h⟩:=q
  exact (zAP L p0 k).trans h
 ·cases h
def zcH:CF:=⟨17,[.tmp 4],
 (.seq (.reg [oo 4 (.move (.const (.sc (.int .u32 0))) false)])
 (.seq (.reg [oo 6 (.move (tq 1) false),
   oo 7 (.conv .u64 (tq 6)),
   oo 8 (.bin .and (tq 7) (.const (.sc (.int .u64 31)))),
   oo 5 (.move (tq 8) false)])
 (.seq (.reg [oo 9 (.move (tq 0) false),
   oo 10 (.move (tq 5) false),
   oo 11 (.bin .shl (tq 9) (tq 10)),
   oo 12 (.move (tq 0) false),
   oo 13 (.move (tq 5) false),
   oo 14 (.bin .sub (.const (.sc (.int .u64 32))) (tq 13)),
   oo 15 (.bin .shr (tq 12) (tq 14)),
   oo 16 (.bin .or (tq 11) (tq 15)),
   oo 4 (.move (tq 16) false)])
 .ret)))⟩
def zgP:Hint:=⟨[],[],[none],[],[],false,false⟩
def zeV:Nat→Sh:=yV []
def zeM (L:Nat):CBC:=noC
def zfc {β:Type} (L:Nat) (p0 p1:Int) (k_fin:Int→Option β):Option β :=
 lt (IntKind.wrap .u64 p1) fun x0 =>
 lt (zf4 .u64 x0 (31:Int)) fun x1 =>
 chk (0≤x1) (
 lt (zbU .u32 p0 x1) fun x2 =>
 lt (IntKind.wrap .u64 (((32:Int):Int) - x1)) fun x3 =>
 chk (0≤x3) (
 lt (zco .u32 p0 x3) fun x4 =>
 lt (ior .u32 x2 x4) fun x5 =>
 k_fin x5))
theorem znL {β:Type} (L:Nat) (p0 p1:Int) (k:KK β):zw zeV (zeM L) L zcH [(V.sc (.int .u32 p0)),(V.sc (.int .i64 p1))] [] k=zfc L p0 p1 (fun p0=>k (V.sc (.int .u32 p0)) []):=by kernel_rfl
abbrev zar:=∀ (β:Type),Nat→Int→Int→(Int→Option β)→Option β
def xp (β:Type) (L:Nat) (p0 p1:Int) (k_fin:Int→Option β):Option β:=zfc L p0 p1 k_fin
def zbK (xp:zar) (L:Nat) (β:Type) (args:List V) (bor:Bor) (k:KK β):Option β:=match args,bor with
 | [a0,a1],[]=>aI .u32 a0 fun p0=>aI .i64 a1 fun p1=>xp β L p0 p1 (fun p0=>k (V.sc (.int .u32 p0)) [])
 | _,_=>none
theorem znQ (L:Nat) (β:Type) (args:List V) (bor:Bor) (k:KK β) (r:β) (h:zbK xp L β args bor k=some r):zw zeV (zeM L) L zcH args bor k=some r:=by
 unfold zbK at h
 split at h
 ·have q:=xR h; clear h; obtain ⟨p0,rfl,h⟩:=q
  have q:=xR h; clear h; obtain ⟨p1,rfl,h⟩:=q
  exact (znL L p0 p1 k).trans h
 ·cases h
def znw:CF:=⟨9,[.tmp 4],
 (.seq (.reg [oo 4 (.move (.const (.sc (.int .u32 0))) false)])
 (.seq (.reg [oo 5 (.move (tq 0) false),
   oo 6 (.move (tq 1) false),
   oo 7 (.un .neg (tq 6)),
   oo 8 (.call 572 [((tq 5),0),((tq 7),0)] []),
   oo 4 (.move (tq 8) false)])
 .ret))⟩
def zs2:Hint:=⟨[],[],[none],[],[],false,false⟩
def zqO:Nat→Sh:=yV []
def zq1 (xp:zar) (L:Nat):CBC:=(xB 572 (zbK xp L) noC)
def zsc {β:Type} (xp:zar) (L:Nat) (p0 p1:Int) (k_fin:Int→Option β):Option β :=
 lt (IntKind.wrap .i64 (0 - p1)) fun x0 =>
 xp β L p0 x0 (fun v1 =>
 k_fin v1)
theorem zz0 {β:Type} (xp:zar) (L:Nat) (p0 p1:Int) (k:KK β):zw zqO (zq1 xp L) L znw [(V.sc (.int .u32 p0)),(V.sc (.int .i64 p1))] [] k=zsc xp L p0 p1 (fun p0=>k (V.sc (.int .u32 p0)) []):=by kernel_rfl
abbrev yC:=∀ (β:Type),Nat→Int→Int→(Int→Option β)→Option β
def xd (β:Type) (L:Nat) (p0 p1:Int) (k_fin:Int→Option β):Option β:=zsc xp L p0 p1 k_fin
def zl2 (xd:yC) (L:Nat) (β:Type) (args:List V) (bor:Bor) (k:KK β):Option β:=match args,bor with
 | [a0,a1],[]=>aI .u32 a0 fun p0=>aI .i64 a1 fun p1=>xd β L p0 p1 (fun p0=>k (V.sc (.int .u32 p0)) [])
 | _,_=>none
theorem zzF (L:Nat) (β:Type) (args:List V) (bor:Bor) (k:KK β) (r:β) (h:zl2 xd L β args bor k=some r):zw zqO (zq1 xp L) L znw args bor k=some r:=by
 unfold zl2 at h
 split at h
 ·have q:=xR h; clear h; obtain ⟨p0,rfl,h⟩:=q
  have q:=xR h; clear h; obtain ⟨p1,rfl,h⟩:=q
  exact (zz0 xp L p0 p1 k).trans h
 ·cases h
def zaX:CC:=(.seq (.reg [oo 13 (.bin .lss (tq 12) (.const (.sc (.int .i64 4))))])
 (.seq (.cond (tq 13)
 .skip
 (.seq (.mask (bl 526 85) (bl 38685626227668133590597599 85))
 (.exit 2)))
 (.seq (.block 3 (.seq (.reg [oo 14 (.move (tq 12) false),
   oo 5 (.move (tq 14) false)])
 (.dreg [] [(oo 15 (.move (tq 4) false),q0),
   (oo 16 (.move (tq 4) false),q0),
   (oo 17 (.indexAddrA 64 1 (tq 3) (tq 16)),q0),
   (oo 18 (.load false 1 (tq 17) false),qc [] []),
   (oo 19 (.bin .shl (tq 18) (.const (.sc (.int .u64 8)))),q0),
   (oo 20 (.move (tq 4) false),q0),
   (oo 21 (.bin .mul (.const (.sc (.int .i64 4))) (tq 20)),q0),
   (oo 22 (.move (tq 5) false),q0),
   (oo 23 (.bin .add (tq 21) (tq 22)),q0),
   (oo 24 (.indexAddrA 64 1 (tq 1) (tq 23)),q0),
   (oo 25 (.load false 1 (tq 24) false),qc [] []),
   (oo 26 (.conv .u32 (tq 25)),q0),
   (oo 27 (.bin .or (tq 19) (tq 26)),q0),
   (oo 28 (.indexAddrA 64 1 (tq 3) (tq 15)),q0),
   (oz (.store 1 (tq 28) (tq 27)),q0)])))
 (.reg [oo 29 (.bin .add (tq 12) (.const (.sc (.int .i64 1)))),
   oo 12 (.move (tq 29) false)]))))
def zfz:CC:=(.reg [oo 30 (.bin .add (tq 9) (.const (.sc (.int .i64 1)))),
   oo 9 (.move (tq 30) false)])
def zcF:CC:=(.seq (.seq (.reg [oo 31 (.move (tq 6) false),
   oo 32 (.bin .lss (tq 31) (.const (.sc (.int .i64 64))))])
 (.cond (tq 32)
 .skip
 (.seq (.mask (bl 12 85) (bl 38685623849749388397116989 85))
 (.exit 4))))
 (.seq (.block 5 (.seq (.dreg [] [(oo 35 (.move (tq 6) false),q0),
   (oo 36 (.bin .sub (tq 35) (.const (.sc (.int .i64 15)))),q0),
   (oo 37 (.indexAddrA 64 1 (tq 3) (tq 36)),q0),
   (oo 38 (.load false 1 (tq 37) false),q1),
   (oo 39 (.call 535 [((tq 38),0),((.const (.sc (.int .i64 7))),0)] []),q1),
   (oo 40 (.move (tq 6) false),q0),
   (oo 41 (.bin .sub (tq 40) (.const (.sc (.int .i64 15)))),q0),
   (oo 42 (.indexAddrA 64 1 (tq 3) (tq 41)),q0),
   (oo 43 (.load false 1 (tq 42) false),q1),
   (oo 44 (.call 535 [((tq 43),0),((.const (.sc (.int .i64 18))),0)] []),q1),
   (oo 45 (.bin .xor (tq 39) (tq 44)),q0),
   (oo 46 (.move (tq 6) false),q0),
   (oo 47 (.bin .sub (tq 46) (.const (.sc (.int .i64 15)))),q0),
   (oo 48 (.indexAddrA 64 1 (tq 3) (tq 47)),q0),
   (oo 49 (.load false 1 (tq 48) false),q1),
   (oo 50 (.bin .shr (tq 49) (.const (.sc (.int .u64 3)))),q0),
   (oo 51 (.bin .xor (tq 45) (tq 50)),q0),
   (oo 7 (.move (tq 51) false),q0)])
 (.seq (.dreg [] [(oo 52 (.move (tq 6) false),q0),
   (oo 53 (.bin .sub (tq 52) (.const (.sc (.int .i64 2)))),q0),
   (oo 54 (.indexAddrA 64 1 (tq 3) (tq 53)),q0),
   (oo 55 (.load false 1 (tq 54) false),q1),
   (oo 56 (.call 535 [((tq 55),0),((.const (.sc (.int .i64 17))),0)] []),q1),
   (oo 57 (.move (tq 6) false),q0),
   (oo 58 (.bin .sub (tq 57) (.const (.sc (.int .i64 2)))),q0),
   (oo 59 (.indexAddrA 64 1 (tq 3) (tq 58)),q0),
   (oo 60 (.load false 1 (tq 59) false),q1),
   (oo 61 (.call 535 [((tq 60),0),((.const (.sc (.int .i64 19))),0)] []),q1),
   (oo 62 (.bin .xor (tq 56) (tq 61)),q0),
   (oo 63 (.move (tq 6) false),q0),
   (oo 64 (.bin .sub (tq 63) (.const (.sc (.int .i64 2)))),q0),
   (oo 65 (.indexAddrA 64 1 (tq 3) (tq 64)),q0),
   (oo 66 (.load false 1 (tq 65) false),q1),
   (oo 67 (.bin .shr (tq 66) (.const (.sc (.int .u64 10)))),q0),
   (oo 68 (.bin .xor (tq 62) (tq 67)),q0),
   (oo 8 (.move (tq 68) false),q0)])
 (.dreg [] [(oo 69 (.move (tq 6) false),q0),
   (oo 70 (.move (tq 6) false),q0),
   (oo 71 (.bin .sub (tq 70) (.const (.sc (.int .i64 16)))),q0),
   (oo 72 (.indexAddrA 64 1 (tq 3) (tq 71)),q0),
   (oo 73 (.load false 1 (tq 72) false),qc [] []),
   (oo 74 (.move (tq 7) false),q0),
   (oo 75 (.bin .add (tq 73) (tq 74)),q0),
   (oo 76 (.move (tq 6) false),q0),
   (oo 77 (.bin .sub (tq 76) (.const (.sc (.int .i64 7)))),q0),
   (oo 78 (.indexAddrA 64 1 (tq 3) (tq 77)),q0),
   (oo 79 (.load false 1 (tq 78) false),qc [] []),
   (oo 80 (.bin .add (tq 75) (tq 79)),q0),
   (oo 81 (.move (tq 8) false),q0),
   (oo 82 (.bin .add (tq 80) (tq 81)),q0),
   (oo 83 (.indexAddrA 64 1 (tq 3) (tq 69)),q0),
   (oz (.store 1 (tq 83) (tq 82)),q0)]))))
 (.reg [oo 33 (.move (tq 6) false),
   oo 34 (.bin .add (tq 33) (.const (.sc (.int .i64 1)))),
   oo 6 (.move (tq 34) false)])))
def zbS:CC:=(.seq (.reg [oo 10 (.bin .lss (tq 9) (.const (.sc (.int .i64 16))))])
 (.seq (.cond (tq 10)
 .skip
 (.seq (.mask (bl 12 85) (bl 38685626227668133590597581 85))
 (.exit 0)))
 (.seq (.block 1 (.seq (.reg [oo 11 (.move (tq 9) false),
   oo 4 (.move (tq 11) false)])
 (.seq (.reg [oo 12 (.move (.const (.sc (.int .i64 0))) false)])
 (.block 2 (.loop (bl 4638 85) (bl 38685626227668133590597599 85)
 zaX)))))
 zfz)))
def ziZ:CC:=(.seq (.reg [oo 84 (.load true 64 (tq 3) false),
   oz (.store 64 (tq 2) (tq 84))])
 .ret)
def zgo:CC:=(.seq (.seq (.reg [oo 6 (.move (.const (.sc (.int .i64 16))) false)])
 (.block 4 (.loop (bl 76 85) (bl 38685623849749388397117053 85)
 zcF)))
 ziZ)
def za0:CF:=⟨85,[.cell 2 true 64],
 (.seq (.reg [oo 1 (.box true (tq 0)),
   oo 2 (.alloc true (rp 64 (.sc (.int .u32 0)) []))])
 (.seq (.reg [oo 3 (.alloc true (rp 64 (.sc (.int .u32 0)) []))])
 (.seq (.seq (.reg [oo 9 (.move (.const (.sc (.int .i64 0))) false)])
 (.block 0 (.loop (bl 526 85) (bl 38685626227668133590597583 85)
 zbS)))
 zgo)))⟩
def zoB:Hint:=⟨[],[],[none,some ((bl 526 85),(bl 38685626227668133590597583 85)),none,some ((bl 12 85),(bl 38685626227668133590597581 85)),none,none,some ((bl 4638 85),(bl 38685626227668133590597599 85)),none,some ((bl 526 85),(bl 38685626227668133590597599 85)),none,none,some ((bl 76 85),(bl 38685623849749388397117053 85)),none,some ((bl 12 85),(bl 38685623849749388397116989 85)),none,none],[],[],false,false⟩
def xF:Nat→Sh:=yV [(18,(.int .u32)),(25,(.int .u8)),(38,(.int .u32)),(43,(.int .u32)),(49,(.int .u32)),(55,(.int .u32)),(60,(.int .u32)),(66,(.int .u32)),(73,(.int .u32)),(79,(.int .u32))]
def yF (xd:yC) (L:Nat):CBC:=(xB 535 (zl2 xd L) noC)
def zbw:St→St:=zZ 0 (bl 526 85) (bl 38685626227668133590597583 85)
def zb9:St→St:=zZ 0 (bl 4638 85) (bl 38685626227668133590597599 85)
def zeU:St→St:=zZ 0 (bl 76 85) (bl 38685623849749388397117053 85)
def zbq (p9:Int) (b1 b2 b3:List V):St:=⟨(jn 1 ((V.ptr 1 0)::((V.ptr 2 0)::((V.ptr 3 0)::(jn 5 ((V.sc (.int .i64 p9))::(jn 75 []))))))),(gn 1 ((.live true b1)::((.live true b2)::((.live true b3)::(gn 81 [])))))⟩
def zbB (p4 p9 p12:Int) (b1 b2 b3:List V):St:=⟨(jn 1 ((V.ptr 1 0)::((V.ptr 2 0)::((V.ptr 3 0)::((V.sc (.int .i64 p4))::(jn 4 ((V.sc (.int .i64 p9))::(jn 2 ((V.sc (.int .i64 p12))::(jn 72 [])))))))))),(gn 1 ((.live true b1)::((.live true b2)::((.live true b3)::(gn 81 [])))))⟩
def zdR (b2 b3:List V):St:=⟨(jn 2 ((V.ptr 2 0)::((V.ptr 3 0)::(jn 81 [])))),(gn 2 ((.live true b2)::((.live true b3)::(gn 81 []))))⟩
def zdp (p6:Int) (b2 b3:List V):St:=⟨(jn 2 ((V.ptr 2 0)::((V.ptr 3 0)::(jn 2 ((V.sc (.int .i64 p6))::(jn 78 [])))))),(gn 2 ((.live true b2)::((.live true b3)::(gn 81 []))))⟩
def ziC (p9:Int) (b1 b2 b3:List V):St:=⟨(jn 1 ((V.ptr 1 0)::((V.ptr 2 0)::((V.ptr 3 0)::(jn 5 ((V.sc (.int .i64 p9))::(jn 75 []))))))),(gn 1 ((.live true b1)::((.live true b2)::((.live true b3)::(gn 81 [])))))⟩
def ziW (b2 b3:List V):St:=⟨(jn 2 ((V.ptr 2 0)::((V.ptr 3 0)::(jn 81 [])))),(gn 2 ((.live true b2)::((.live true b3)::(gn 81 []))))⟩
def zmK {β:Type} (xd:yC) (L:Nat) (p0:List V) (k_hbbaba:Int→List V→List V→List V→Option β):Option β :=
 k_hbbaba (0:Int) p0 (List.replicate 64 (V.sc (.int .u32 (0:Int)))) (List.replicate 64 (V.sc (.int .u32 (0:Int))))
theorem zu3 {β:Type} (xd:yC) (L:Nat) (p0:List V) (k:KK β):zw xF (yF xd L) L za0 [(V.agg p0)] [] k=zmK xd L p0 (fun p9 b1 b2 b3=>zz (xk xF (yF xd L) 0 L zbS) zbw L (zbq p9 b1 b2 b3) (yA 0 (xO (xk xF (yF xd L) 0 L zgo) (yP 0 (CF.res za0) k)))):=by kernel_rfl
def zfi {β:Type} (xd:yC) (L:Nat) (p9:Int) (b1 b2 b3:List V) (k_hbbabaabbaabba:Int→Int→Int→List V→List V→List V→Option β) (k_x0:List V→List V→Option β):Option β :=
 ifb (decide (p9 < (16:Int))) (
 k_hbbabaabbaabba p9 p9 (0:Int) b1 b2 b3) (
 k_x0 b2 b3)
theorem zro {β:Type} (xd:yC) (L:Nat) (p9:Int) (b1 b2 b3:List V) (X:St→Option β) (K:KT β):xk xF (yF xd L) 0 L zbS (zbq p9 b1 b2 b3) (zaJ zbw X K)=zfi xd L p9 b1 b2 b3 (fun p4 p9 p12 b1 b2 b3=>zz (xk xF (yF xd L) 0 L zaX) zb9 L (zbB p4 p9 p12 b1 b2 b3) (yA 2 (yA 1 (xO (xk xF (yF xd L) 0 L zfz) (zaJ zbw X K))))) (fun b2 b3=>K (.exit 0) (zdR b2 b3)):=by kernel_rfl
def zgI {β:Type} (xd:yC) (L:Nat) (b2 b3:List V) (k_hbbbaba:Int→List V→List V→Option β):Option β :=
 k_hbbbaba (16:Int) b2 b3
theorem zpt {β:Type} (xd:yC) (L:Nat) (b2 b3:List V) (k:KK β):(yA 0 (xO (xk xF (yF xd L) 0 L zgo) (yP 0 (CF.res za0) k))) (.exit 0) (zdR b2 b3)=zgI xd L b2 b3 (fun p6 b2 b3=>zz (xk xF (yF xd L) 0 L zcF) zeU L (zdp p6 b2 b3) (yA 4 (xO (xk xF (yF xd L) 0 L ziZ) (yP 0 (CF.res za0) k)))):=by kernel_rfl
def z8 {β:Type} (xd:yC) (L:Nat) (p4 p9 p12:Int) (b1 b2 b3:List V) (k_hbbabaabbaabba:Int→Int→Int→List V→List V→List V→Option β) (k_x2:Int→List V→List V→List V→Option β):Option β :=
 ifb (decide (p12 < (4:Int))) (
 chk (0≤p4∧p4 < ((64:Nat):Int)) (
 cI .u32 b3 (0+((Int.toNat p4) * 1)) fun v0 =>
 lt (zbU .u32 v0 (8:Int)) fun x1 =>
 lt (IntKind.wrap .i64 (((4:Int):Int) * p4)) fun x2 =>
 lt (IntKind.wrap .i64 ((x2:Int)+p12)) fun x3 =>
 chk (0≤x3∧x3 < ((64:Nat):Int)) (
 cI .u8 b1 (0+((Int.toNat x3) * 1)) fun v4 =>
 lt (IntKind.wrap .u32 v4) fun x5 =>
 lt (ior .u32 x1 x5) fun x6 =>
 chk (0≤p4∧p4 < ((64:Nat):Int)) (
 chk (1=1∧(0+((Int.toNat p4) * 1))+1≤(List.length b3)) (
 lt (zr b3 (0+((Int.toNat p4) * 1)) [(V.sc (.int .u32 x6))]) fun r7 =>
 lt (IntKind.wrap .i64 ((p12:Int)+(1:Int))) fun x8 =>
 k_hbbabaabbaabba p4 p9 x8 b1 b2 r7))))) (
 k_x2 p9 b1 b2 b3)
theorem zlA {β:Type} (xd:yC) (L:Nat) (p4 p9 p12:Int) (b1 b2 b3:List V) (X:St→Option β) (K:KT β):xk xF (yF xd L) 0 L zaX (zbB p4 p9 p12 b1 b2 b3) (zaJ zb9 X K)=z8 xd L p4 p9 p12 b1 b2 b3 (fun p4 p9 p12 b1 b2 b3=>X (zbB p4 p9 p12 b1 b2 b3)) (fun p9 b1 b2 b3=>K (.exit 2) (ziC p9 b1 b2 b3)):=by kernel_rfl
def zbW {β:Type} (xd:yC) (L:Nat) (p6:Int) (b2 b3:List V) (k_hbbbaba:Int→List V→List V→Option β) (k_x4:List V→List V→Option β):Option β :=
 ifb (decide (p6 < (64:Int))) (
 lt (IntKind.wrap .i64 ((p6:Int) - (15:Int))) fun x9 =>
 chk (0≤x9∧x9 < ((64:Nat):Int)) (
 cI .u32 b3 (0+((Int.toNat x9) * 1)) fun v10 =>
 xd β L v10 (7:Int) (fun v11 =>
 lt (IntKind.wrap .i64 ((p6:Int) - (15:Int))) fun x12 =>
 chk (0≤x12∧x12 < ((64:Nat):Int)) (
 cI .u32 b3 (0+((Int.toNat x12) * 1)) fun v13 =>
 xd β L v13 (18:Int) (fun v14 =>
 lt (zb3 .u32 v11 v14) fun x15 =>
 lt (IntKind.wrap .i64 ((p6:Int) - (15:Int))) fun x16 =>
 chk (0≤x16∧x16 < ((64:Nat):Int)) (
 cI .u32 b3 (0+((Int.toNat x16) * 1)) fun v17 =>
 lt (zco .u32 v17 (3:Int)) fun x18 =>
 lt (zb3 .u32 x15 x18) fun x19 =>
 lt (IntKind.wrap .i64 ((p6:Int) - (2:Int))) fun x20 =>
 chk (0≤x20∧x20 < ((64:Nat):Int)) (
 cI .u32 b3 (0+((Int.toNat x20) * 1)) fun v21 =>
 xd β L v21 (17:Int) (fun v22 =>
 lt (IntKind.wrap .i64 ((p6:Int) - (2:Int))) fun x23 =>
 chk (0≤x23∧x23 < ((64:Nat):Int)) (
 cI .u32 b3 (0+((Int.toNat x23) * 1)) fun v24 =>
 xd β L v24 (19:Int) (fun v25 =>
 lt (zb3 .u32 v22 v25) fun x26 =>
 lt (IntKind.wrap .i64 ((p6:Int) - (2:Int))) fun x27 =>
 chk (0≤x27∧x27 < ((64:Nat):Int)) (
 cI .u32 b3 (0+((Int.toNat x27) * 1)) fun v28 =>
 lt (zco .u32 v28 (10:Int)) fun x29 =>
 lt (zb3 .u32 x26 x29) fun x30 =>
 lt (IntKind.wrap .i64 ((p6:Int) - (16:Int))) fun x31 =>
 chk (0≤x31∧x31 < ((64:Nat):Int)) (
 cI .u32 b3 (0+((Int.toNat x31) * 1)) fun v32 =>
 lt (IntKind.wrap .u32 ((v32:Int)+x19)) fun x33 =>
 lt (IntKind.wrap .i64 ((p6:Int) - (7:Int))) fun x34 =>
 chk (0≤x34∧x34 < ((64:Nat):Int)) (
 cI .u32 b3 (0+((Int.toNat x34) * 1)) fun v35 =>
 lt (IntKind.wrap .u32 ((x33:Int)+v35)) fun x36 =>
 lt (IntKind.wrap .u32 ((x36:Int)+x30)) fun x37 =>
 chk (0≤p6∧p6 < ((64:Nat):Int)) (
 chk (1=1∧(0+((Int.toNat p6) * 1))+1≤(List.length b3)) (
 lt (zr b3 (0+((Int.toNat p6) * 1)) [(V.sc (.int .u32 x37))]) fun r38 =>
 lt (IntKind.wrap .i64 ((p6:Int)+(1:Int))) fun x39 =>
 k_hbbbaba x39 b2 r38))))))))))))))) (
 k_x4 b2 b3)
theorem zp3 {β:Type} (xd:yC) (L:Nat) (p6:Int) (b2 b3:List V) (X:St→Option β) (K:KT β):xk xF (yF xd L) 0 L zcF (zdp p6 b2 b3) (zaJ zeU X K)=zbW xd L p6 b2 b3 (fun p6 b2 b3=>X (zdp p6 b2 b3)) (fun b2 b3=>K (.exit 4) (ziW b2 b3)):=by kernel_rfl
def zdm {β:Type} (xd:yC) (L:Nat) (p9:Int) (b1 b2 b3:List V) (k_hbbaba:Int→List V→List V→List V→Option β):Option β :=
 lt (IntKind.wrap .i64 ((p9:Int)+(1:Int))) fun x40 =>
 k_hbbaba x40 b1 b2 b3
theorem zkL {β:Type} (xd:yC) (L:Nat) (p9:Int) (b1 b2 b3:List V) (X:St→Option β) (K:KT β):(yA 2 (yA 1 (xO (xk xF (yF xd L) 0 L zfz) (zaJ zbw X K)))) (.exit 2) (ziC p9 b1 b2 b3)=zdm xd L p9 b1 b2 b3 (fun p9 b1 b2 b3=>X (zbq p9 b1 b2 b3)):=by kernel_rfl
def zf9 {β:Type} (xd:yC) (L:Nat) (b2 b3:List V) (k_fin:List V→Option β):Option β :=
 chk (0+64≤(List.length b3)) (
 chk ((List.length (List.take 64 b3))=64∧0+64≤(List.length b2)) (
 lt (zr b2 0 (List.take 64 b3)) fun r41 =>
 chk (0=0∧(List.length r41)=64∧64≠0) (
 k_fin r41)))
theorem zoZ {β:Type} (xd:yC) (L:Nat) (b2 b3:List V) (k:KK β):(yA 4 (xO (xk xF (yF xd L) 0 L ziZ) (yP 0 (CF.res za0) k))) (.exit 4) (ziW b2 b3)=zf9 xd L b2 b3 (fun p0=>k (V.agg p0) []):=by kernel_rfl
def zR {β:Type} (xd:yC) (L:Nat) (k_x2:Int→List V→List V→List V→Option β):Nat→Int→Int→Int→List V→List V→List V→Option β
 | 0,_,_,_,_,_,_=>none
 | n+1,p4,p9,p12,b1,b2,b3=>z8 xd L p4 p9 p12 b1 b2 b3 (fun p4 p9 p12 b1 b2 b3=>zR xd L k_x2 n p4 p9 p12 b1 b2 b3) k_x2
theorem zf1 {β:Type} (xd:yC) (L:Nat) (K:KT β):∀ (n:Nat) (p4 p9 p12:Int) (b1 b2 b3:List V),zz (xk xF (yF xd L) 0 L zaX) zb9 n (zbB p4 p9 p12 b1 b2 b3) K=zR xd L (fun p9 b1 b2 b3=>K (.exit 2) (ziC p9 b1 b2 b3)) n p4 p9 p12 b1 b2 b3:=by
 intro n
 induction n with
 | zero=>intros; rfl
 | succ n ih =>
  intro p4 p9 p12 b1 b2 b3
  refine (zlA xd L p4 p9 p12 b1 b2 b3 (fun σ=>zz (xk xF (yF xd L) 0 L zaX) zb9 n σ K) K).trans ?_
  simp only [ih]
  rfl
def zbR {β:Type} (xd:yC) (L:Nat) (p9:Int) (b1 b2 b3:List V) (k_x0:List V→List V→Option β) (k_hbbaba:Int→List V→List V→List V→Option β):Option β :=
 zfi xd L p9 b1 b2 b3 (fun p4 p9 p12 b1 b2 b3=>zR xd L (fun p9 b1 b2 b3=>zdm xd L p9 b1 b2 b3 k_hbbaba) L p4 p9 p12 b1 b2 b3) k_x0
theorem zpY {β:Type} (xd:yC) (L:Nat) (p9:Int) (b1 b2 b3:List V) (X:St→Option β) (K:KT β):xk xF (yF xd L) 0 L zbS (zbq p9 b1 b2 b3) (zaJ zbw X K)=zbR xd L p9 b1 b2 b3 (fun b2 b3=>K (.exit 0) (zdR b2 b3)) (fun p9 b1 b2 b3=>X (zbq p9 b1 b2 b3)):=by
 refine (zro xd L p9 b1 b2 b3 X K).trans ?_
 unfold zbR
 first
  | (simp only [zf1,zkL]; done)
  | (simp only [zf1]; rfl)
def zcb {β:Type} (xd:yC) (L:Nat) (k_x0:List V→List V→Option β):Nat→Int→List V→List V→List V→Option β
 | 0,_,_,_,_=>none
 | n+1,p9,b1,b2,b3=>zbR xd L p9 b1 b2 b3 k_x0 (fun p9 b1 b2 b3=>zcb xd L k_x0 n p9 b1 b2 b3)
theorem zkc {β:Type} (xd:yC) (L:Nat) (K:KT β):∀ (n:Nat) (p9:Int) (b1 b2 b3:List V),zz (xk xF (yF xd L) 0 L zbS) zbw n (zbq p9 b1 b2 b3) K=zcb xd L (fun b2 b3=>K (.exit 0) (zdR b2 b3)) n p9 b1 b2 b3:=by
 intro n
 induction n with
 | zero=>intros; rfl
 | succ n ih =>
  intro p9 b1 b2 b3
  refine (zpY xd L p9 b1 b2 b3 (fun σ=>zz (xk xF (yF xd L) 0 L zbS) zbw n σ K) K).trans ?_
  simp only [ih]
  rfl
def zbV {β:Type} (xd:yC) (L:Nat) (k_x4:List V→List V→Option β):Nat→Int→List V→List V→Option β
 | 0,_,_,_=>none
 | n+1,p6,b2,b3=>zbW xd L p6 b2 b3 (fun p6 b2 b3=>zbV xd L k_x4 n p6 b2 b3) k_x4
theorem zjC {β:Type} (xd:yC) (L:Nat) (K:KT β):∀ (n:Nat) (p6:Int) (b2 b3:List V),zz (xk xF (yF xd L) 0 L zcF) zeU n (zdp p6 b2 b3) K=zbV xd L (fun b2 b3=>K (.exit 4) (ziW b2 b3)) n p6 b2 b3:=by
 intro n
 induction n with
 | zero=>intros; rfl
 | succ n ih =>
  intro p6 b2 b3
  refine (zp3 xd L p6 b2 b3 (fun σ=>zz (xk xF (yF xd L) 0 L zcF) zeU n σ K) K).trans ?_
  simp only [ih]
  rfl
def zdH {β:Type} (xd:yC) (L:Nat) (b2 b3:List V) (k_fin:List V→Option β):Option β :=
 zgI xd L b2 b3 (fun p6 b2 b3=>zbV xd L (fun b2 b3=>zf9 xd L b2 b3 k_fin) L p6 b2 b3)
theorem zoN {β:Type} (xd:yC) (L:Nat) (b2 b3:List V) (k:KK β):(yA 0 (xO (xk xF (yF xd L) 0 L zgo) (yP 0 (CF.res za0) k))) (.exit 0) (zdR b2 b3)=zdH xd L b2 b3 (fun p0=>k (V.agg p0) []):=by
 refine (zpt xd L b2 b3 k).trans ?_
 unfold zdH
 first
  | (simp only [zjC,zoZ]; done)
  | (simp only [zjC]; rfl)
def zi0 {β:Type} (xd:yC) (L:Nat) (p0:List V) (k_fin:List V→Option β):Option β :=
 zmK xd L p0 (fun p9 b1 b2 b3=>zcb xd L (fun b2 b3=>zdH xd L b2 b3 k_fin) L p9 b1 b2 b3)
theorem zvj {β:Type} (xd:yC) (L:Nat) (p0:List V) (k:KK β):zw xF (yF xd L) L za0 [(V.agg p0)] [] k=zi0 xd L p0 (fun p0=>k (V.agg p0) []):=by
 refine (zu3 xd L p0 k).trans ?_
 unfold zi0
 first
  | (simp only [zkc,zoN]; done)
  | (simp only [zkc]; rfl)
abbrev zaC:=∀ (β:Type),Nat→List V→(List V→Option β)→Option β
def yr (β:Type) (L:Nat) (p0:List V) (k_fin:List V→Option β):Option β:=zi0 xd L p0 k_fin
def zjh (yr:zaC) (L:Nat) (β:Type) (args:List V) (bor:Bor) (k:KK β):Option β:=match args,bor with
 | [a0],[]=>aG a0 fun p0=>yr β L p0 (fun p0=>k (V.agg p0) [])
 | _,_=>none
theorem zvm (L:Nat) (β:Type) (args:List V) (bor:Bor) (k:KK β) (r:β) (h:zjh yr L β args bor k=some r):zw xF (yF xd L) L za0 args bor k=some r:=by
 unfold zjh at h
 split at h
 ·have q:=zgK h; clear h; obtain ⟨p0,rfl,h⟩:=q
  exact (zvj xd L p0 k).trans h
 ·cases h
def zcg:CC:=(.seq (.reg [oo 36 (.bin .lss (tq 35) (.const (.sc (.int .i64 64))))])
 (.seq (.cond (tq 36)
 .skip
 (.seq (.mask (bl 16340 131) (bl 2722258935367507704976878695863201710039 131))
 (.exit 0)))
 (.seq (.block 1 (.seq (.reg [oo 37 (.move (tq 35) false),
   oo 14 (.move (tq 37) false)])
 (.seq (.dreg [] [(oo 38 (.move (tq 13) false),q0),
   (oo 39 (.move (tq 10) false),q0),
   (oo 40 (.call 535 [((tq 39),0),((.const (.sc (.int .i64 6))),0)] []),q1),
   (oo 41 (.move (tq 10) false),q0),
   (oo 42 (.call 535 [((tq 41),0),((.const (.sc (.int .i64 11))),0)] []),q1),
   (oo 43 (.bin .xor (tq 40) (tq 42)),q0),
   (oo 44 (.move (tq 10) false),q0),
   (oo 45 (.call 535 [((tq 44),0),((.const (.sc (.int .i64 25))),0)] []),q1),
   (oo 46 (.bin .xor (tq 43) (tq 45)),q0),
   (oo 47 (.bin .add (tq 38) (tq 46)),q0),
   (oo 48 (.move (tq 10) false),q0),
   (oo 49 (.move (tq 11) false),q0),
   (oo 50 (.bin .and (tq 48) (tq 49)),q0),
   (oo 51 (.move (tq 10) false),q0),
   (oo 52 (.un .xor (tq 51)),q0),
   (oo 53 (.move (tq 12) false),q0),
   (oo 54 (.bin .and (tq 52) (tq 53)),q0),
   (oo 55 (.bin .xor (tq 50) (tq 54)),q0),
   (oo 56 (.bin .add (tq 47) (tq 55)),q0),
   (oo 57 (.move (tq 14) false),q0),
   (oo 58 (.indexAddrA 64 1 (.const (.fp 64 gk_sha_k)) (tq 57)),q0),
   (oo 59 (.load false 1 (tq 58) false),q1),
   (oo 60 (.bin .add (tq 56) (tq 59)),q0),
   (oo 61 (.move (tq 14) false),q0),
   (oo 62 (.indexAddrA 64 1 (tq 5) (tq 61)),q0),
   (oo 63 (.load false 1 (tq 62) false),q1),
   (oo 64 (.bin .add (tq 60) (tq 63)),q0),
   (oo 15 (.move (tq 64) false),q0)])
 (.seq (.reg [oo 65 (.move (tq 6) false),
   oo 66 (.call 535 [((tq 65),0),((.const (.sc (.int .i64 2))),0)] []),
   oo 67 (.move (tq 6) false),
   oo 68 (.call 535 [((tq 67),0),((.const (.sc (.int .i64 13))),0)] []),
   oo 69 (.bin .xor (tq 66) (tq 68)),
   oo 70 (.move (tq 6) false),
   oo 71 (.call 535 [((tq 70),0),((.const (.sc (.int .i64 22))),0)] []),
   oo 72 (.bin .xor (tq 69) (tq 71)),
   oo 73 (.move (tq 6) false),
   oo 74 (.move (tq 7) false),
   oo 75 (.bin .and (tq 73) (tq 74)),
   oo 76 (.move (tq 6) false),
   oo 77 (.move (tq 8) false),
   oo 78 (.bin .and (tq 76) (tq 77)),
   oo 79 (.bin .xor (tq 75) (tq 78)),
   oo 80 (.move (tq 7) false),
   oo 81 (.move (tq 8) false),
   oo 82 (.bin .and (tq 80) (tq 81)),
   oo 83 (.bin .xor (tq 79) (tq 82)),
   oo 84 (.bin .add (tq 72) (tq 83)),
   oo 16 (.move (tq 84) false)])
 (.reg [oo 85 (.move (tq 15) false),
   oo 86 (.move (tq 16) false),
   oo 87 (.bin .add (tq 85) (tq 86)),
   oo 88 (.move (tq 6) false),
   oo 89 (.move (tq 7) false),
   oo 90 (.move (tq 8) false),
   oo 91 (.move (tq 9) false),
   oo 92 (.move (tq 15) false),
   oo 93 (.bin .add (tq 91) (tq 92)),
   oo 94 (.move (tq 10) false),
   oo 95 (.move (tq 11) false),
   oo 96 (.move (tq 12) false),
   oo 6 (.move (tq 87) false),
   oo 7 (.move (tq 88) false),
   oo 8 (.move (tq 89) false),
   oo 9 (.move (tq 90) false),
   oo 10 (.move (tq 93) false),
   oo 11 (.move (tq 94) false),
   oo 12 (.move (tq 95) false),
   oo 13 (.move (tq 96) false)])))))
 (.reg [oo 97 (.bin .add (tq 35) (.const (.sc (.int .i64 1)))),
   oo 35 (.move (tq 97) false)]))))
def zhH:CC:=(.seq (.reg [oo 98 (.indexAddrA 8 1 (tq 2) (.const (.sc (.int .i64 0)))),
   oo 99 (.load false 1 (tq 98) false),
   oo 100 (.move (tq 6) false),
   oo 101 (.bin .add (tq 99) (tq 100)),
   oo 102 (.indexAddrA 8 1 (tq 2) (.const (.sc (.int .i64 1)))),
   oo 103 (.load false 1 (tq 102) false),
   oo 104 (.move (tq 7) false),
   oo 105 (.bin .add (tq 103) (tq 104)),
   oo 106 (.indexAddrA 8 1 (tq 2) (.const (.sc (.int .i64 2)))),
   oo 107 (.load false 1 (tq 106) false),
   oo 108 (.move (tq 8) false),
   oo 109 (.bin .add (tq 107) (tq 108)),
   oo 110 (.indexAddrA 8 1 (tq 2) (.const (.sc (.int .i64 3)))),
   oo 111 (.load false 1 (tq 110) false),
   oo 112 (.move (tq 9) false),
   oo 113 (.bin .add (tq 111) (tq 112)),
   oo 114 (.indexAddrA 8 1 (tq 2) (.const (.sc (.int .i64 4)))),
   oo 115 (.load false 1 (tq 114) false),
   oo 116 (.move (tq 10) false),
   oo 117 (.bin .add (tq 115) (tq 116)),
   oo 118 (.indexAddrA 8 1 (tq 2) (.const (.sc (.int .i64 5)))),
   oo 119 (.load false 1 (tq 118) false),
   oo 120 (.move (tq 11) false),
   oo 121 (.bin .add (tq 119) (tq 120)),
   oo 122 (.indexAddrA 8 1 (tq 2) (.const (.sc (.int .i64 6)))),
   oo 123 (.load false 1 (tq 122) false),
   oo 124 (.move (tq 12) false),
   oo 125 (.bin .add (tq 123) (tq 124)),
   oo 126 (.indexAddrA 8 1 (tq 2) (.const (.sc (.int .i64 7)))),
   oo 127 (.load false 1 (tq 126) false),
   oo 128 (.move (tq 13) false),
   oo 129 (.bin .add (tq 127) (tq 128)),
   oo 130 (.build [(.sc (.int .u32 0)),(.sc (.int .u32 0)),(.sc (.int .u32 0)),(.sc (.int .u32 0)),(.sc (.int .u32 0)),(.sc (.int .u32 0)),(.sc (.int .u32 0)),(.sc (.int .u32 0))] [(0,1,(tq 101)),(1,1,(tq 105)),(2,1,(tq 109)),(3,1,(tq 113)),(4,1,(tq 117)),(5,1,(tq 121)),(6,1,(tq 125)),(7,1,(tq 129))]),
   oz (.store 8 (tq 4) (tq 130))])
 .ret)
def zc1:CF:=⟨131,[.cell 4 true 8],
 (.seq (.reg [oo 2 (.box true (tq 0)),
   oo 3 (.box true (tq 1)),
   oo 4 (.alloc true [(.sc (.int .u32 0)),(.sc (.int .u32 0)),(.sc (.int .u32 0)),(.sc (.int .u32 0)),(.sc (.int .u32 0)),(.sc (.int .u32 0)),(.sc (.int .u32 0)),(.sc (.int .u32 0))])])
 (.seq (.reg [oo 17 (.load true 64 (tq 3) false),
   oo 18 (.call 534 [((tq 17),0)] []),
   oo 5 (.alloc true (rp 64 (.sc (.int .u32 0)) [])),
   oz (.store 64 (tq 5) (tq 18))])
 (.seq (.dreg [] [(oo 19 (.indexAddrA 8 1 (tq 2) (.const (.sc (.int .i64 0)))),q0),
   (oo 20 (.load false 1 (tq 19) false),qc [] []),
   (oo 21 (.indexAddrA 8 1 (tq 2) (.const (.sc (.int .i64 1)))),q0),
   (oo 22 (.load false 1 (tq 21) false),qc [] []),
   (oo 23 (.indexAddrA 8 1 (tq 2) (.const (.sc (.int .i64 2)))),q0),
   (oo 24 (.load false 1 (tq 23) false),qc [] []),
   (oo 25 (.indexAddrA 8 1 (tq 2) (.const (.sc (.int .i64 3)))),q0),
   (oo 26 (.load false 1 (tq 25) false),qc [] []),
   (oo 6 (.move (tq 20) false),q0),
   (oo 7 (.move (tq 22) false),q0),
   (oo 8 (.move (tq 24) false),q0),
   (oo 9 (.move (tq 26) false),q0)])
 (.seq (.dreg [] [(oo 27 (.indexAddrA 8 1 (tq 2) (.const (.sc (.int .i64 4)))),q0),
   (oo 28 (.load false 1 (tq 27) false),qc [] []),
   (oo 29 (.indexAddrA 8 1 (tq 2) (.const (.sc (.int .i64 5)))),q0),
   (oo 30 (.load false 1 (tq 29) false),qc [] []),
   (oo 31 (.indexAddrA 8 1 (tq 2) (.const (.sc (.int .i64 6)))),q0),
   (oo 32 (.load false 1 (tq 31) false),qc [] []),
   (oo 33 (.indexAddrA 8 1 (tq 2) (.const (.sc (.int .i64 7)))),q0),
   (oo 34 (.load false 1 (tq 33) false),qc [] []),
   (oo 10 (.move (tq 28) false),q0),
   (oo 11 (.move (tq 30) false),q0),
   (oo 12 (.move (tq 32) false),q0),
   (oo 13 (.move (tq 34) false),q0)])
 (.seq (.seq (.reg [oo 35 (.move (.const (.sc (.int .i64 0))) false)])
 (.block 0 (.loop (bl 34359754740 131) (bl 2722258935367507704976878695863201710071 131)
 zcg)))
 zhH)))))⟩
def zow:Hint:=⟨[],[],[none,some ((bl 34359754740 131),(bl 2722258935367507704976878695863201710071 131)),none,some ((bl 16340 131),(bl 2722258935367507704976878695863201710039 131)),none,none],[],[],false,false⟩
def za7:Nat→Sh:=yV [(20,(.int .u32)),(22,(.int .u32)),(24,(.int .u32)),(26,(.int .u32)),(28,(.int .u32)),(30,(.int .u32)),(32,(.int .u32)),(34,(.int .u32)),(59,(.int .u32)),(63,(.int .u32)),(99,(.int .u32)),(103,(.int .u32)),(107,(.int .u32)),(111,(.int .u32)),(115,(.int .u32)),(119,(.int .u32)),(123,(.int .u32)),(127,(.int .u32))]
def za6 (yr:zaC) (xd:yC) (L:Nat):CBC:=(xB 535 (zl2 xd L) (xB 534 (zjh yr L) noC))
def zee:St→St:=zZ 0 (bl 34359754740 131) (bl 2722258935367507704976878695863201710071 131)
def zcR (p6 p7 p8 p9 p10 p11 p12 p13 p35:Int) (b2:List V) (zHm zHn zHl zHq zHv zHw zHx zHy:Int) (b5:List V):St:=⟨(jn 2 ((V.ptr 2 0)::(jn 1 ((V.ptr 4 0)::((V.ptr 5 0)::((V.sc (.int .u32 p6))::((V.sc (.int .u32 p7))::((V.sc (.int .u32 p8))::((V.sc (.int .u32 p9))::((V.sc (.int .u32 p10))::((V.sc (.int .u32 p11))::((V.sc (.int .u32 p12))::((V.sc (.int .u32 p13))::(jn 21 ((V.sc (.int .i64 p35))::(jn 95 [])))))))))))))))),(gn 2 ((.live true b2)::(gn 1 ((.live true [(V.sc (.int .u32 zHm)),(V.sc (.int .u32 zHn)),(V.sc (.int .u32 zHl)),(V.sc (.int .u32 zHq)),(V.sc (.int .u32 zHv)),(V.sc (.int .u32 zHw)),(V.sc (.int .u32 zHx)),(V.sc (.int .u32 zHy))])::((.live true b5)::(gn 125 []))))))⟩
def ziB (p6 p7 p8 p9 p10 p11 p12 p13:Int) (b2:List V) (zHm zHn zHl zHq zHv zHw zHx zHy:Int):St:=⟨(jn 2 ((V.ptr 2 0)::(jn 1 ((V.ptr 4 0)::(jn 1 ((V.sc (.int .u32 p6))::((V.sc (.int .u32 p7))::((V.sc (.int .u32 p8))::((V.sc (.int .u32 p9))::((V.sc (.int .u32 p10))::((V.sc (.int .u32 p11))::((V.sc (.int .u32 p12))::((V.sc (.int .u32 p13))::(jn 117 [])))))))))))))),(gn 2 ((.live true b2)::(gn 1 ((.live true [(V.sc (.int .u32 zHm)),(V.sc (.int .u32 zHn)),(V.sc (.int .u32 zHl)),(V.sc (.int .u32 zHq)),(V.sc (.int .u32 zHv)),(V.sc (.int .u32 zHw)),(V.sc (.int .u32 zHx)),(V.sc (.int .u32 zHy))])::(gn 126 [])))))⟩
abbrev zf5 (β:Type):Type:=Int→Int→Int→Int→Int→Int→Int→Int→Int→List V→Int→Int→Int→Int→Int→Int→Int→Int→List V→Option β
abbrev zg3 (β:Type):Type:=Int→Int→Int→Int→Int→Int→Int→Int→List V→Int→Int→Int→Int→Int→Int→Int→Int→Option β
def znc {β:Type} (yr:zaC) (xd:yC) (L:Nat) (p0 p1:List V) (k_hbbbbaba:zf5 β):Option β :=
 chk (0+64≤(List.length p1)) (
 yr β L (List.take 64 p1) (fun v0 =>
 chk ((List.length v0)=64∧0+64≤64) (
 lt (zr (List.replicate 64 (V.sc (.int .u32 (0:Int)))) 0 v0) fun r1 =>
 cI .u32 p0 0 fun v2 =>
 cI .u32 p0 1 fun v3 =>
 cI .u32 p0 2 fun v4 =>
 cI .u32 p0 3 fun v5 =>
 cI .u32 p0 4 fun v6 =>
 cI .u32 p0 5 fun v7 =>
 cI .u32 p0 6 fun v8 =>
 cI .u32 p0 7 fun v9 =>
 k_hbbbbaba v2 v3 v4 v5 v6 v7 v8 v9 (0:Int) p0 (0:Int) (0:Int) (0:Int) (0:Int) (0:Int) (0:Int) (0:Int) (0:Int) r1)))
theorem zu0 {β:Type} (yr:zaC) (xd:yC) (L:Nat) (p0 p1:List V) (k:KK β):zw za7 (za6 yr xd L) L zc1 [(V.agg p0),(V.agg p1)] [] k=znc yr xd L p0 p1 (fun p6 p7 p8 p9 p10 p11 p12 p13 p35 b2 zHm zHn zHl zHq zHv zHw zHx zHy b5=>zz (xk za7 (za6 yr xd L) 0 L zcg) zee L (zcR p6 p7 p8 p9 p10 p11 p12 p13 p35 b2 zHm zHn zHl zHq zHv zHw zHx zHy b5) (yA 0 (xO (xk za7 (za6 yr xd L) 0 L zhH) (yP 0 (CF.res zc1) k)))):=by kernel_rfl
def zcD {β:Type} (yr:zaC) (xd:yC) (L:Nat) (p6 p7 p8 p9 p10 p11 p12 p13 p35:Int) (b2:List V) (zHm zHn zHl zHq zHv zHw zHx zHy:Int) (b5:List V) (k_hbbbbaba:zf5 β) (k_x0:zg3 β):Option β :=
 ifb (decide (p35 < (64:Int))) (
 xd β L p10 (6:Int) (fun v10 =>
 xd β L p10 (11:Int) (fun v11 =>
 lt (zb3 .u32 v10 v11) fun x12 =>
 xd β L p10 (25:Int) (fun v13 =>
 lt (zb3 .u32 x12 v13) fun x14 =>
 lt (IntKind.wrap .u32 ((p13:Int)+x14)) fun x15 =>
 lt (zf4 .u32 p10 p11) fun x16 =>
 lt (zEY .u32 p10) fun x17 =>
 lt (zf4 .u32 x17 p12) fun x18 =>
 lt (zb3 .u32 x16 x18) fun x19 =>
 lt (IntKind.wrap .u32 ((x15:Int)+x19)) fun x20 =>
 chk (0≤p35∧p35 < ((64:Nat):Int)) (
 cI .u32 (List.drop ((Int.toNat p35) * 1) gk_sha_k) 0 fun v21 =>
 lt (IntKind.wrap .u32 ((x20:Int)+v21)) fun x22 =>
 chk (0≤p35∧p35 < ((64:Nat):Int)) (
 cI .u32 b5 (0+((Int.toNat p35) * 1)) fun v23 =>
 lt (IntKind.wrap .u32 ((x22:Int)+v23)) fun x24 =>
 xd β L p6 (2:Int) (fun v25 =>
 xd β L p6 (13:Int) (fun v26 =>
 lt (zb3 .u32 v25 v26) fun x27 =>
 xd β L p6 (22:Int) (fun v28 =>
 lt (zb3 .u32 x27 v28) fun x29 =>
 lt (zf4 .u32 p6 p7) fun x30 =>
 lt (zf4 .u32 p6 p8) fun x31 =>
 lt (zb3 .u32 x30 x31) fun x32 =>
 lt (zf4 .u32 p7 p8) fun x33 =>
 lt (zb3 .u32 x32 x33) fun x34 =>
 lt (IntKind.wrap .u32 ((x29:Int)+x34)) fun x35 =>
 lt (IntKind.wrap .u32 ((x24:Int)+x35)) fun x36 =>
 lt (IntKind.wrap .u32 ((p9:Int)+x24)) fun x37 =>
 lt (IntKind.wrap .i64 ((p35:Int)+(1:Int))) fun x38 =>
 k_hbbbbaba x36 p6 p7 p8 x37 p10 p11 p12 x38 b2 zHm zHn zHl zHq zHv zHw zHx zHy b5))))))))) (
 k_x0 p6 p7 p8 p9 p10 p11 p12 p13 b2 zHm zHn zHl zHq zHv zHw zHx zHy)
theorem zpH {β:Type} (yr:zaC) (xd:yC) (L:Nat) (p6 p7 p8 p9 p10 p11 p12 p13 p35:Int) (b2:List V) (zHm zHn zHl zHq zHv zHw zHx zHy:Int) (b5:List V) (X:St→Option β) (K:KT β):xk za7 (za6 yr xd L) 0 L zcg (zcR p6 p7 p8 p9 p10 p11 p12 p13 p35 b2 zHm zHn zHl zHq zHv zHw zHx zHy b5) (zaJ zee X K)=zcD yr xd L p6 p7 p8 p9 p10 p11 p12 p13 p35 b2 zHm zHn zHl zHq zHv zHw zHx zHy b5 (fun p6 p7 p8 p9 p10 p11 p12 p13 p35 b2 zHm zHn zHl zHq zHv zHw zHx zHy b5=>X (zcR p6 p7 p8 p9 p10 p11 p12 p13 p35 b2 zHm zHn zHl zHq zHv zHw zHx zHy b5)) (fun p6 p7 p8 p9 p10 p11 p12 p13 b2 zHm zHn zHl zHq zHv zHw zHx zHy=>K (.exit 0) (ziB p6 p7 p8 p9 p10 p11 p12 p13 b2 zHm zHn zHl zHq zHv zHw zHx zHy)):=by kernel_rfl
def zdq {β:Type} (yr:zaC) (xd:yC) (L:Nat) (p6 p7 p8 p9 p10 p11 p12 p13:Int) (b2:List V) (zHm zHn zHl zHq zHv zHw zHx zHy:Int) (k_fin:List V→Option β):Option β :=
 cI .u32 b2 0 fun v39 =>
 lt (IntKind.wrap .u32 ((v39:Int)+p6)) fun x40 =>
 cI .u32 b2 1 fun v41 =>
 lt (IntKind.wrap .u32 ((v41:Int)+p7)) fun x42 =>
 cI .u32 b2 2 fun v43 =>
 lt (IntKind.wrap .u32 ((v43:Int)+p8)) fun x44 =>
 cI .u32 b2 3 fun v45 =>
 lt (IntKind.wrap .u32 ((v45:Int)+p9)) fun x46 =>
 cI .u32 b2 4 fun v47 =>
 lt (IntKind.wrap .u32 ((v47:Int)+p10)) fun x48 =>
 cI .u32 b2 5 fun v49 =>
 lt (IntKind.wrap .u32 ((v49:Int)+p11)) fun x50 =>
 cI .u32 b2 6 fun v51 =>
 lt (IntKind.wrap .u32 ((v51:Int)+p12)) fun x52 =>
 cI .u32 b2 7 fun v53 =>
 lt (IntKind.wrap .u32 ((v53:Int)+p13)) fun x54 =>
 lt [(V.sc (.int .u32 x40)),(V.sc (.int .u32 x42)),(V.sc (.int .u32 x44)),(V.sc (.int .u32 x46)),(V.sc (.int .u32 x48)),(V.sc (.int .u32 x50)),(V.sc (.int .u32 x52)),(V.sc (.int .u32 x54))] fun r55 =>
 chk (0=0∧(List.length r55)=8∧8≠0) (
 k_fin r55)
theorem zos {β:Type} (yr:zaC) (xd:yC) (L:Nat) (p6 p7 p8 p9 p10 p11 p12 p13:Int) (b2:List V) (zHm zHn zHl zHq zHv zHw zHx zHy:Int) (k:KK β):(yA 0 (xO (xk za7 (za6 yr xd L) 0 L zhH) (yP 0 (CF.res zc1) k))) (.exit 0) (ziB p6 p7 p8 p9 p10 p11 p12 p13 b2 zHm zHn zHl zHq zHv zHw zHx zHy)=zdq yr xd L p6 p7 p8 p9 p10 p11 p12 p13 b2 zHm zHn zHl zHq zHv zHw zHx zHy (fun p0=>k (V.agg p0) []):=by kernel_rfl
def zbF {β:Type} (yr:zaC) (xd:yC) (L:Nat) (k_x0:zg3 β):Nat→Int→Int→Int→Int→Int→Int→Int→Int→Int→List V→Int→Int→Int→Int→Int→Int→Int→Int→List V→Option β
 | 0,_,_,_,_,_,_,_,_,_,_,_,_,_,_,_,_,_,_,_=>none
 | n+1,p6,p7,p8,p9,p10,p11,p12,p13,p35,b2,zHm,zHn,zHl,zHq,zHv,zHw,zHx,zHy,b5=>zcD yr xd L p6 p7 p8 p9 p10 p11 p12 p13 p35 b2 zHm zHn zHl zHq zHv zHw zHx zHy b5 (fun p6 p7 p8 p9 p10 p11 p12 p13 p35 b2 zHm zHn zHl zHq zHv zHw zHx zHy b5=>zbF yr xd L k_x0 n p6 p7 p8 p9 p10 p11 p12 p13 p35 b2 zHm zHn zHl zHq zHv zHw zHx zHy b5) k_x0
theorem zii {β:Type} (yr:zaC) (xd:yC) (L:Nat) (K:KT β):∀ (n:Nat) (p6 p7 p8 p9 p10 p11 p12 p13 p35:Int) (b2:List V) (zHm zHn zHl zHq zHv zHw zHx zHy:Int) (b5:List V),zz (xk za7 (za6 yr xd L) 0 L zcg) zee n (zcR p6 p7 p8 p9 p10 p11 p12 p13 p35 b2 zHm zHn zHl zHq zHv zHw zHx zHy b5) K=zbF yr xd L (fun p6 p7 p8 p9 p10 p11 p12 p13 b2 zHm zHn zHl zHq zHv zHw zHx zHy=>K (.exit 0) (ziB p6 p7 p8 p9 p10 p11 p12 p13 b2 zHm zHn zHl zHq zHv zHw zHx zHy)) n p6 p7 p8 p9 p10 p11 p12 p13 p35 b2 zHm zHn zHl zHq zHv zHw zHx zHy b5:=by
 intro n
 induction n with
 | zero=>intros; rfl
 | succ n ih =>
  intro p6 p7 p8 p9 p10 p11 p12 p13 p35 b2 zHm zHn zHl zHq zHv zHw zHx zHy b5
  refine (zpH yr xd L p6 p7 p8 p9 p10 p11 p12 p13 p35 b2 zHm zHn zHl zHq zHv zHw zHx zHy b5 (fun σ=>zz (xk za7 (za6 yr xd L) 0 L zcg) zee n σ K) K).trans ?_
  simp only [ih]
  rfl
def zjp {β:Type} (yr:zaC) (xd:yC) (L:Nat) (p0 p1:List V) (k_fin:List V→Option β):Option β :=
 znc yr xd L p0 p1 (fun p6 p7 p8 p9 p10 p11 p12 p13 p35 b2 zHm zHn zHl zHq zHv zHw zHx zHy b5=>zbF yr xd L (fun p6 p7 p8 p9 p10 p11 p12 p13 b2 zHm zHn zHl zHq zHv zHw zHx zHy=>zdq yr xd L p6 p7 p8 p9 p10 p11 p12 p13 b2 zHm zHn zHl zHq zHv zHw zHx zHy k_fin) L p6 p7 p8 p9 p10 p11 p12 p13 p35 b2 zHm zHn zHl zHq zHv zHw zHx zHy b5)
theorem zvr {β:Type} (yr:zaC) (xd:yC) (L:Nat) (p0 p1:List V) (k:KK β):zw za7 (za6 yr xd L) L zc1 [(V.agg p0),(V.agg p1)] [] k=zjp yr xd L p0 p1 (fun p0=>k (V.agg p0) []):=by
 refine (zu0 yr xd L p0 p1 k).trans ?_
 unfold zjp
 first
  | (simp only [zii,zos]; done)
  | (simp only [zii]; rfl)
abbrev yN:=∀ (β:Type),Nat→List V→List V→(List V→Option β)→Option β
def xh (β:Type) (L:Nat) (p0 p1:List V) (k_fin:List V→Option β):Option β:=zjp yr xd L p0 p1 k_fin
def zi6 (xh:yN) (L:Nat) (β:Type) (args:List V) (bor:Bor) (k:KK β):Option β:=match args,bor with
 | [a0,a1],[]=>aG a0 fun p0=>aG a1 fun p1=>xh β L p0 p1 (fun p0=>k (V.agg p0) [])
 | _,_=>none
theorem zvn (L:Nat) (β:Type) (args:List V) (bor:Bor) (k:KK β) (r:β) (h:zi6 xh L β args bor k=some r):zw za7 (za6 yr xd L) L zc1 args bor k=some r:=by
 unfold zi6 at h
 split at h
 ·have q:=zgK h; clear h; obtain ⟨p0,rfl,h⟩:=q
  have q:=zgK h; clear h; obtain ⟨p1,rfl,h⟩:=q
  exact (zvr yr xd L p0 p1 k).trans h
 ·cases h
def zdX:CC:=(.seq (.reg [oo 32 (.bin .lss (tq 31) (.const (.sc (.int .i64 32))))])
 (.seq (.cond (tq 32)
 .skip
 (.seq (.mask (bl 68 48) (bl 281474976710511 48))
 (.exit 2)))
 (.seq (.block 3 (.seq (.reg [oo 33 (.move (tq 31) false),
   oo 7 (.move (tq 33) false)])
 (.reg [oo 34 (.move (tq 7) false),
   oo 35 (.move (tq 7) false),
   oo 36 (.bin .quo (tq 35) (.const (.sc (.int .i64 4)))),
   oo 37 (.indexAddrA 8 1 (tq 4) (tq 36)),
   oo 38 (.load false 1 (tq 37) false),
   oo 39 (.move (tq 7) false),
   oo 40 (.bin .rem (tq 39) (.const (.sc (.int .i64 4)))),
   oo 41 (.bin .mul (tq 40) (.const (.sc (.int .i64 8)))),
   oo 42 (.bin .sub (.const (.sc (.int .i64 24))) (tq 41)),
   oo 43 (.bin .shr (tq 38) (tq 42)),
   oo 44 (.conv .u8 (tq 43)),
   oo 45 (.indexAddrA 32 1 (tq 6) (tq 34)),
   oz (.store 1 (tq 45) (tq 44))])))
 (.reg [oo 46 (.bin .add (tq 31) (.const (.sc (.int .i64 1)))),
   oo 31 (.move (tq 46) false)]))))
def zfb:CC:=(.seq (.reg [oo 20 (.bin .lss (tq 19) (tq 18))])
 (.seq (.cond (tq 20)
 .skip
 (.seq (.mask (bl 20 48) (bl 281474439839647 48))
 (.exit 0)))
 (.seq (.block 1 (.seq (.reg [oo 21 (.move (tq 19) false),
   oo 5 (.move (tq 21) false)])
 (.dreg [] [(oo 22 (.load true 8 (tq 4) false),ql 4 [] []),
   (oo 23 (.move (tq 3) false),q0),
   (oo 24 (.move (tq 5) false),q0),
   (oo 25 (.bin .mul (.const (.sc (.int .i64 64))) (tq 24)),q0),
   (oo 26 (.sliceS 1 (tq 23) (some (tq 25)) none none),q0),
   (oo 27 (.arrP 64 1 (tq 26)),q0),
   (oo 28 (.load true 64 (tq 27) false),qc [4] []),
   (oo 29 (.call 498 [((tq 22),0),((tq 28),0)] []),q0),
   (oz (.store 8 (tq 4) (tq 29)),q0)])))
 (.reg [oo 30 (.bin .add (tq 19) (.const (.sc (.int .i64 1)))),
   oo 19 (.move (tq 30) false)]))))
def zli:CC:=(.seq (.reg [oo 47 (.load true 32 (tq 6) false),
   oz (.store 32 (tq 2) (tq 47))])
 .ret)
def zky:CC:=(.seq (.reg [oo 6 (.alloc true (rp 32 (.sc (.int .u8 0)) []))])
 (.seq (.seq (.reg [oo 31 (.move (.const (.sc (.int .i64 0))) false)])
 (.block 2 (.loop (bl 2147483732 48) (bl 281474976710527 48)
 zdX)))
 zli))
def zdL:CF:=⟨48,[.cell 2 true 32],
 (.seq (.reg [oo 2 (.alloc true (rp 32 (.sc (.int .u8 0)) []))])
 (.seq (.reg [oo 8 (.move (tq 0) false),
   oo 9 (.move (tq 0) false),
   oo 10 (.lenS (tq 9)),
   oo 11 (.conv .u64 (tq 10)),
   oo 12 (.call 497 [((tq 11),0)] []),
   oo 13 (.buildSlice 1 2 [(.sl 1 [])] [(0,1,(tq 8)),(1,1,(tq 12))]),
   oo 14 (.call 496 [((tq 13),0)] []),
   oo 3 (.move (tq 14) true)])
 (.seq (.reg [oo 15 (.load true 8 (.const (.fp 8 gk_sha_initial)) false),
   oo 4 (.alloc true [(.sc (.int .u32 0)),(.sc (.int .u32 0)),(.sc (.int .u32 0)),(.sc (.int .u32 0)),(.sc (.int .u32 0)),(.sc (.int .u32 0)),(.sc (.int .u32 0)),(.sc (.int .u32 0))]),
   oz (.store 8 (tq 4) (tq 15))])
 (.seq (.seq (.reg [oo 16 (.move (tq 3) false),
   oo 17 (.lenS (tq 16)),
   oo 18 (.bin .quo (tq 17) (.const (.sc (.int .i64 64)))),
   oo 19 (.move (.const (.sc (.int .i64 0))) false)])
 (.block 0 (.loop (bl 786460 48) (bl 281474439839647 48)
 zfb)))
 zky))))⟩
def ztX:Hint:=⟨[(1,7)],[],[none,some ((bl 786460 48),(bl 281474439839647 48)),none,some ((bl 20 48),(bl 281474439839647 48)),none,none,some ((bl 2147483732 48),(bl 281474976710527 48)),none,some ((bl 68 48),(bl 281474976710511 48)),none,none],[],[],false,false⟩
def zaL:Nat→Sh:=yV [(38,(.int .u32))]
def zaG (xq:zau) (zq:zav) (xh:yN) (L:Nat):CBC:=(xB 498 (zi6 xh L) (xB 496 (zqf zq L) (xB 497 (zqq xq L) noC)))
def zhY:St→St:=zZ 0 (bl 786460 48) (bl 281474439839647 48)
def zgp:St→St:=zZ 0 (bl 2147483732 48) (bl 281474976710527 48)
def zfQ (p3:List (List V)) (p18 p19:Int) (b2 b4:List V):St:=⟨(jn 2 ((V.ptr 2 0)::((V.gs 1 p3)::((V.ptr 4 0)::(jn 13 ((V.sc (.int .i64 p18))::((V.sc (.int .i64 p19))::(jn 28 [])))))))),(gn 2 ((.live true b2)::(gn 1 ((.live true b4)::(gn 43 [])))))⟩
def zkA (b2 b4:List V):St:=⟨(jn 2 ((V.ptr 2 0)::(jn 1 ((V.ptr 4 0)::(jn 43 []))))),(gn 2 ((.live true b2)::(gn 1 ((.live true b4)::(gn 43 [])))))⟩
def zeW (p31:Int) (b2 b4 b6:List V):St:=⟨(jn 2 ((V.ptr 2 0)::(jn 1 ((V.ptr 4 0)::(jn 1 ((V.ptr 6 0)::(jn 24 ((V.sc (.int .i64 p31))::(jn 16 []))))))))),(gn 2 ((.live true b2)::(gn 1 ((.live true b4)::(gn 1 ((.live true b6)::(gn 41 [])))))))⟩
def zof (b2 b6:List V):St:=⟨(jn 2 ((V.ptr 2 0)::(jn 3 ((V.ptr 6 0)::(jn 41 []))))),(gn 2 ((.live true b2)::(gn 3 ((.live true b6)::(gn 41 [])))))⟩
def ztP {β:Type} (xq:zau) (zq:zav) (xh:yN) (L:Nat) (p0:List (List V)) (k_hbbbaba:List (List V)→Int→Int→List V→List V→Option β):Option β :=
 lt (IntKind.wrap .u64 ((List.length p0:Nat):Int)) fun x0 =>
 xq β L x0 (fun v1 =>
 zq β L (zh 1 2 [(V.sl 1 p0),(V.sl 1 v1)]) (fun v2 =>
 chk ((List.length (List.take 8 gk_sha_initial))=8∧0+8≤8) (
 lt (zr [(V.sc (.int .u32 (0:Int))),(V.sc (.int .u32 (0:Int))),(V.sc (.int .u32 (0:Int))),(V.sc (.int .u32 (0:Int))),(V.sc (.int .u32 (0:Int))),(V.sc (.int .u32 (0:Int))),(V.sc (.int .u32 (0:Int))),(V.sc (.int .u32 (0:Int)))] 0 (List.take 8 gk_sha_initial)) fun r3 =>
 lt (IntKind.wrap .i64 (Int.tdiv ((List.length v2:Nat):Int) (64:Int))) fun x4 =>
 k_hbbbaba v2 x4 (0:Int) (List.replicate 32 (V.sc (.int .u8 (0:Int)))) r3))) (fun v5 =>
 zq β L (zh 1 2 [(V.sl 1 p0),(V.sl 1 v5)]) (fun v6 =>
 chk ((List.length (List.take 8 gk_sha_initial))=8∧0+8≤8) (
 lt (zr [(V.sc (.int .u32 (0:Int))),(V.sc (.int .u32 (0:Int))),(V.sc (.int .u32 (0:Int))),(V.sc (.int .u32 (0:Int))),(V.sc (.int .u32 (0:Int))),(V.sc (.int .u32 (0:Int))),(V.sc (.int .u32 (0:Int))),(V.sc (.int .u32 (0:Int)))] 0 (List.take 8 gk_sha_initial)) fun r7 =>
 lt (IntKind.wrap .i64 (Int.tdiv ((List.length v6:Nat):Int) (64:Int))) fun x8 =>
 k_hbbbaba v6 x8 (0:Int) (List.replicate 32 (V.sc (.int .u8 (0:Int)))) r7)))
theorem zAq {β:Type} (xq:zau) (zq:zav) (xh:yN) (L:Nat) (p0:List (List V)) (k:KK β):zw zaL (zaG xq zq xh L) L zdL [(V.sl 1 p0)] [] k=ztP xq zq xh L p0 (fun p3 p18 p19 b2 b4=>zz (xk zaL (zaG xq zq xh L) 0 L zfb) zhY L (zfQ p3 p18 p19 b2 b4) (yA 0 (xO (xk zaL (zaG xq zq xh L) 0 L zky) (yP 0 (CF.res zdL) k)))):=by kernel_rfl
def zfX {β:Type} (xq:zau) (zq:zav) (xh:yN) (L:Nat) (p3:List (List V)) (p18 p19:Int) (b2 b4:List V) (k_hbbbaba:List (List V)→Int→Int→List V→List V→Option β) (k_x0:List V→List V→Option β):Option β :=
 ifb (decide (p19 < p18)) (
 chk (0+8≤(List.length b4)) (
 lt (IntKind.wrap .i64 (((64:Int):Int) * p19)) fun x9 =>
 chk (0≤x9∧x9≤(((List.length p3):Nat):Int)) (
 chk (64≤(List.length (List.take ((List.length p3) - (Int.toNat x9)) (List.drop (Int.toNat x9) p3)))) (
 xh β L (List.take 8 b4) (List.take 64 (List.flatten (List.take 64 (List.take ((List.length p3) - (Int.toNat x9)) (List.drop (Int.toNat x9) p3))))) (fun v10 =>
 chk ((List.length v10)=8∧0+8≤(List.length b4)) (
 lt (zr b4 0 v10) fun r11 =>
 lt (IntKind.wrap .i64 ((p19:Int)+(1:Int))) fun x12 =>
 k_hbbbaba p3 p18 x12 b2 r11)))))) (
 k_x0 b2 b4)
theorem ztD {β:Type} (xq:zau) (zq:zav) (xh:yN) (L:Nat) (p3:List (List V)) (p18 p19:Int) (b2 b4:List V) (X:St→Option β) (K:KT β):xk zaL (zaG xq zq xh L) 0 L zfb (zfQ p3 p18 p19 b2 b4) (zaJ zhY X K)=zfX xq zq xh L p3 p18 p19 b2 b4 (fun p3 p18 p19 b2 b4=>X (zfQ p3 p18 p19 b2 b4)) (fun b2 b4=>K (.exit 0) (zkA b2 b4)):=by kernel_rfl
def zjU {β:Type} (xq:zau) (zq:zav) (xh:yN) (L:Nat) (b2 b4:List V) (k_hbbbbbaba:Int→List V→List V→List V→Option β):Option β :=
 k_hbbbbbaba (0:Int) b2 b4 (List.replicate 32 (V.sc (.int .u8 (0:Int))))
theorem zsa {β:Type} (xq:zau) (zq:zav) (xh:yN) (L:Nat) (b2 b4:List V) (k:KK β):(yA 0 (xO (xk zaL (zaG xq zq xh L) 0 L zky) (yP 0 (CF.res zdL) k))) (.exit 0) (zkA b2 b4)=zjU xq zq xh L b2 b4 (fun p31 b2 b4 b6=>zz (xk zaL (zaG xq zq xh L) 0 L zdX) zgp L (zeW p31 b2 b4 b6) (yA 2 (xO (xk zaL (zaG xq zq xh L) 0 L zli) (yP 0 (CF.res zdL) k)))):=by kernel_rfl
def zeF {β:Type} (xq:zau) (zq:zav) (xh:yN) (L:Nat) (p31:Int) (b2 b4 b6:List V) (k_hbbbbbaba:Int→List V→List V→List V→Option β) (k_x2:List V→List V→Option β):Option β :=
 ifb (decide (p31 < (32:Int))) (
 lt (IntKind.wrap .i64 (Int.tdiv p31 (4:Int))) fun x13 =>
 chk (0≤x13∧x13 < ((8:Nat):Int)) (
 cI .u32 b4 (0+((Int.toNat x13) * 1)) fun v14 =>
 lt (Int.tmod p31 (4:Int)) fun x15 =>
 lt (IntKind.wrap .i64 ((x15:Int) * (8:Int))) fun x16 =>
 lt (IntKind.wrap .i64 (((24:Int):Int) - x16)) fun x17 =>
 chk (0≤x17) (
 lt (zco .u32 v14 x17) fun x18 =>
 lt (IntKind.wrap .u8 x18) fun x19 =>
 chk (0≤p31∧p31 < ((32:Nat):Int)) (
 chk (1=1∧(0+((Int.toNat p31) * 1))+1≤(List.length b6)) (
 lt (zr b6 (0+((Int.toNat p31) * 1)) [(V.sc (.int .u8 x19))]) fun r20 =>
 lt (IntKind.wrap .i64 ((p31:Int)+(1:Int))) fun x21 =>
 k_hbbbbbaba x21 b2 b4 r20))))) (
 k_x2 b2 b6)
theorem zsr {β:Type} (xq:zau) (zq:zav) (xh:yN) (L:Nat) (p31:Int) (b2 b4 b6:List V) (X:St→Option β) (K:KT β):xk zaL (zaG xq zq xh L) 0 L zdX (zeW p31 b2 b4 b6) (zaJ zgp X K)=zeF xq zq xh L p31 b2 b4 b6 (fun p31 b2 b4 b6=>X (zeW p31 b2 b4 b6)) (fun b2 b6=>K (.exit 2) (zof b2 b6)):=by kernel_rfl
def zhS {β:Type} (xq:zau) (zq:zav) (xh:yN) (L:Nat) (b2 b6:List V) (k_fin:List V→Option β):Option β :=
 chk (0+32≤(List.length b6)) (
 chk ((List.length (List.take 32 b6))=32∧0+32≤(List.length b2)) (
 lt (zr b2 0 (List.take 32 b6)) fun r22 =>
 chk (0=0∧(List.length r22)=32∧32≠0) (
 k_fin r22)))
theorem zq3 {β:Type} (xq:zau) (zq:zav) (xh:yN) (L:Nat) (b2 b6:List V) (k:KK β):(yA 2 (xO (xk zaL (zaG xq zq xh L) 0 L zli) (yP 0 (CF.res zdL) k))) (.exit 2) (zof b2 b6)=zhS xq zq xh L b2 b6 (fun p0=>k (V.agg p0) []):=by kernel_rfl
def zec {β:Type} (xq:zau) (zq:zav) (xh:yN) (L:Nat) (k_x0:List V→List V→Option β):Nat→List (List V)→Int→Int→List V→List V→Option β
 | 0,_,_,_,_,_=>none
 | n+1,p3,p18,p19,b2,b4=>zfX xq zq xh L p3 p18 p19 b2 b4 (fun p3 p18 p19 b2 b4=>zec xq zq xh L k_x0 n p3 p18 p19 b2 b4) k_x0
theorem znG {β:Type} (xq:zau) (zq:zav) (xh:yN) (L:Nat) (K:KT β):∀ (n:Nat) (p3:List (List V)) (p18 p19:Int) (b2 b4:List V),zz (xk zaL (zaG xq zq xh L) 0 L zfb) zhY n (zfQ p3 p18 p19 b2 b4) K=zec xq zq xh L (fun b2 b4=>K (.exit 0) (zkA b2 b4)) n p3 p18 p19 b2 b4:=by
 intro n
 induction n with
 | zero=>intros; rfl
 | succ n ih =>
  intro p3 p18 p19 b2 b4
  refine (ztD xq zq xh L p3 p18 p19 b2 b4 (fun σ=>zz (xk zaL (zaG xq zq xh L) 0 L zfb) zhY n σ K) K).trans ?_
  simp only [ih]
  rfl
def zdd {β:Type} (xq:zau) (zq:zav) (xh:yN) (L:Nat) (k_x2:List V→List V→Option β):Nat→Int→List V→List V→List V→Option β
 | 0,_,_,_,_=>none
 | n+1,p31,b2,b4,b6=>zeF xq zq xh L p31 b2 b4 b6 (fun p31 b2 b4 b6=>zdd xq zq xh L k_x2 n p31 b2 b4 b6) k_x2
theorem zlO {β:Type} (xq:zau) (zq:zav) (xh:yN) (L:Nat) (K:KT β):∀ (n:Nat) (p31:Int) (b2 b4 b6:List V),zz (xk zaL (zaG xq zq xh L) 0 L zdX) zgp n (zeW p31 b2 b4 b6) K=zdd xq zq xh L (fun b2 b6=>K (.exit 2) (zof b2 b6)) n p31 b2 b4 b6:=by
 intro n
 induction n with
 | zero=>intros; rfl
 | succ n ih =>
  intro p31 b2 b4 b6
  refine (zsr xq zq xh L p31 b2 b4 b6 (fun σ=>zz (xk zaL (zaG xq zq xh L) 0 L zdX) zgp n σ K) K).trans ?_
  simp only [ih]
  rfl
def zfZ {β:Type} (xq:zau) (zq:zav) (xh:yN) (L:Nat) (b2 b4:List V) (k_fin:List V→Option β):Option β :=
 zjU xq zq xh L b2 b4 (fun p31 b2 b4 b6=>zdd xq zq xh L (fun b2 b6=>zhS xq zq xh L b2 b6 k_fin) L p31 b2 b4 b6)
theorem zrH {β:Type} (xq:zau) (zq:zav) (xh:yN) (L:Nat) (b2 b4:List V) (k:KK β):(yA 0 (xO (xk zaL (zaG xq zq xh L) 0 L zky) (yP 0 (CF.res zdL) k))) (.exit 0) (zkA b2 b4)=zfZ xq zq xh L b2 b4 (fun p0=>k (V.agg p0) []):=by
 refine (zsa xq zq xh L b2 b4 k).trans ?_
 unfold zfZ
 first
  | (simp only [zlO,zq3]; done)
  | (simp only [zlO]; rfl)
def zqh {β:Type} (xq:zau) (zq:zav) (xh:yN) (L:Nat) (p0:List (List V)) (k_fin:List V→Option β):Option β :=
 ztP xq zq xh L p0 (fun p3 p18 p19 b2 b4=>zec xq zq xh L (fun b2 b4=>zfZ xq zq xh L b2 b4 k_fin) L p3 p18 p19 b2 b4)
theorem zAo {β:Type} (xq:zau) (zq:zav) (xh:yN) (L:Nat) (p0:List (List V)) (k:KK β):zw zaL (zaG xq zq xh L) L zdL [(V.sl 1 p0)] [] k=zqh xq zq xh L p0 (fun p0=>k (V.agg p0) []):=by
 refine (zAq xq zq xh L p0 k).trans ?_
 unfold zqh
 first
  | (simp only [znG,zrH]; done)
  | (simp only [znG]; rfl)
abbrev zqo:=∀ (β:Type),Nat→List (List V)→(List V→Option β)→Option β
def zbb (β:Type) (L:Nat) (p0:List (List V)) (k_fin:List V→Option β):Option β:=zqh xq zq xh L p0 k_fin
def zqs (zbb:zqo) (L:Nat) (β:Type) (args:List V) (bor:Bor) (k:KK β):Option β:=match args,bor with
 | [a0],[]=>aL 1 a0 fun p0=>zbb β L p0 (fun p0=>k (V.agg p0) [])
 | _,_=>none
theorem zBb (L:Nat) (β:Type) (args:List V) (bor:Bor) (k:KK β) (r:β) (h:zqs zbb L β args bor k=some r):zw zaL (zaG xq zq xh L) L zdL args bor k=some r:=by
 unfold zqs at h
 split at h
 ·have q:=zP h; clear h; obtain ⟨p0,rfl,h⟩:=q
  exact (zAo xq zq xh L p0 k).trans h
 ·cases h
def zg9:CF:=⟨14,[.cell 4 true 4],
 (.seq (.reg [oo 2 (.box true (tq 0)),
   oo 4 (.alloc true [(.sc (.int .u8 0)),(.sc (.int .u8 0)),(.sc (.int .u8 0)),(.sc (.int .u8 0))])])
 (.seq (.dreg [2] [(oo 6 (.sliceA 4 1 (tq 2) none none none),q0),
   (oo 7 (.move (tq 1) false),q0),
   (oo 8 (.buildSlice 1 2 [(.sl 1 [])] [(0,1,(tq 6)),(1,1,(tq 7))]),q0),
   (oo 9 (.call 435 [((tq 8),0)] []),q0),
   (oo 10 (.call 458 [((tq 9),0)] []),q0),
   (oo 5 (.alloc true (rp 32 (.sc (.int .u8 0)) [])),q0),
   (oz (.store 32 (tq 5) (tq 10)),q0)])
 (.seq (.reg [oo 11 (.sliceA 32 1 (tq 5) none (some (.const (.sc (.int .i64 4)))) none),
   oo 12 (.arrP 4 1 (tq 11)),
   oo 13 (.load true 4 (tq 12) false),
   oz (.store 4 (tq 4) (tq 13))])
 .ret)))⟩
def znR:Hint:=⟨[],[],[none],[(1,[2])],[],false,false⟩
def zkP:Nat→Sh:=yV []
def zk2 (xn:zae) (zbb:zqo) (L:Nat):CBC:=(xB 458 (zqs zbb L) (xB 435 (zbi xn L) noC))
def zlD {β:Type} (xn:zae) (zbb:zqo) (L:Nat) (p0:List V) (p1:List (List V)) (k_fin:List V→Option β):Option β :=
 lc p0 (
 none) (fun h0 t1 =>
 chk (0+4 * 1≤(List.length (h0::t1))) (
 xn β L (zh 1 2 [(V.sl 1 (zh 1 4 (h0::t1))),(V.sl 1 p1)]) (fun v2 =>
 zbb β L v2 (fun v3 =>
 chk ((List.length v3)=32∧0+32≤32) (
 lt (zr (List.replicate 32 (V.sc (.int .u8 (0:Int)))) 0 v3) fun r4 =>
 chk (0+32 * 1≤(List.length r4)) (
 chk (0+4≤(List.length r4)) (
 chk ((List.length (List.take 4 r4))=4∧0+4≤4) (
 lt (zr [(V.sc (.int .u8 (0:Int))),(V.sc (.int .u8 (0:Int))),(V.sc (.int .u8 (0:Int))),(V.sc (.int .u8 (0:Int)))] 0 (List.take 4 r4)) fun r5 =>
 chk (0=0∧(List.length r5)=4∧4≠0) (
 k_fin r5)))))))))
theorem zuq {β:Type} (xn:zae) (zbb:zqo) (L:Nat) (p0:List V) (p1:List (List V)) (k:KK β):zw zkP (zk2 xn zbb L) L zg9 [(V.agg p0),(V.sl 1 p1)] [] k=zlD xn zbb L p0 p1 (fun p0=>k (V.agg p0) []):=by kernel_rfl
abbrev zcT:=∀ (β:Type),Nat→List V→List (List V)→(List V→Option β)→Option β
def xA (β:Type) (L:Nat) (p0:List V) (p1:List (List V)) (k_fin:List V→Option β):Option β:=zlD xn zbb L p0 p1 k_fin
def zfE (xA:zcT) (L:Nat) (β:Type) (args:List V) (bor:Bor) (k:KK β):Option β:=match args,bor with
 | [a0,a1],[]=>aG a0 fun p0=>aL 1 a1 fun p1=>xA β L p0 p1 (fun p0=>k (V.agg p0) [])
 | _,_=>none
theorem ztC (L:Nat) (β:Type) (args:List V) (bor:Bor) (k:KK β) (r:β) (h:zfE xA L β args bor k=some r):zw zkP (zk2 xn zbb L) L zg9 args bor k=some r:=by
 unfold zfE at h
 split at h
 ·have q:=zgK h; clear h; obtain ⟨p0,rfl,h⟩:=q
  have q:=zP h; clear h; obtain ⟨p1,rfl,h⟩:=q
  exact (zuq xn zbb L p0 p1 k).trans h
 ·cases h
def zib:CF:=⟨106,[.cell 6 true 3,.tmp 7,.cell 8 true 4,.tmp 9],
 (.seq (.reg [oo 5 (.box true (tq 2)),
   oo 6 (.alloc true [(.sc (.int .i64 0)),(.sc (.int .i64 0)),(.gs 1 [])]),
   oo 7 (.move (.const (.sc (.int .i64 0))) false),
   oo 8 (.alloc true [(.sc (.int .u8 0)),(.sc (.int .u8 0)),(.sc (.int .u8 0)),(.sc (.int .u8 0))]),
   oo 9 (.move (.const (.sc (.bool false))) false)])
 (.seq (.reg [oo 19 (.move (tq 0) false),
   oo 20 (.move (tq 1) false),
   oo 21 (.call 170 [((tq 19),0),((tq 20),0)] []),
   oo 18 (.move (tq 21) true),
   oo 22 (.pull (tq 18) 0),
   oo 23 (.pull (tq 18) 1),
   oo 24 (.pull (tq 18) 2),
   oo 10 (.move (tq 22) false),
   oo 11 (.move (tq 23) false),
   oo 12 (.move (tq 24) false)])
 (.seq (.seq (.reg [oo 25 (.move (tq 12) false),
   oo 26 (.bin .neq (tq 25) (.const (.sc (.int .i64 0)))),
   oo 27 (.move (tq 26) false),
   ⟨(some 28),false,(some (27,false)),.move (tq 10) false⟩,
   ⟨(some 29),false,(some (27,false)),.bin .gtr (tq 28) (.const (.sc (.int .u32 4096)))⟩,
   oo 30 (.pick (tq 27) (.const (.sc (.bool true))) (tq 29))])
 (.cond (tq 30)
 (.seq (.reg [oo 31 (.build [(.sc (.int .i64 0)),(.sc (.int .i64 0)),(.sl 1 [])] []),
   oo 32 (.build [(.sc (.int .u8 0)),(.sc (.int .u8 0)),(.sc (.int .u8 0)),(.sc (.int .u8 0))] []),
   oz (.store 3 (tq 6) (tq 31)),
   oo 7 (.move (.const (.sc (.int .i64 0))) false),
   oz (.store 4 (tq 8) (tq 32)),
   oo 9 (.move (.const (.sc (.bool false))) false)])
 .ret)
 .skip))
 (.seq (.reg [oo 34 (.move (tq 0) false),
   oo 35 (.move (tq 11) false),
   oo 36 (.call 195 [((tq 34),0),((tq 35),0)] []),
   oo 33 (.move (tq 36) true),
   oo 37 (.pull (tq 33) 0),
   oo 38 (.pull (tq 33) 1),
   oo 39 (.pull (tq 33) 2),
   oo 13 (.move (tq 37) false),
   oo 11 (.move (tq 38) false),
   oo 12 (.move (tq 39) false)])
 (.seq (.seq (.reg [oo 40 (.move (tq 12) false),
   oo 41 (.bin .neq (tq 40) (.const (.sc (.int .i64 0))))])
 (.cond (tq 41)
 (.seq (.reg [oo 42 (.build [(.sc (.int .i64 0)),(.sc (.int .i64 0)),(.sl 1 [])] []),
   oo 43 (.build [(.sc (.int .u8 0)),(.sc (.int .u8 0)),(.sc (.int .u8 0)),(.sc (.int .u8 0))] []),
   oz (.store 3 (tq 6) (tq 42)),
   oo 7 (.move (.const (.sc (.int .i64 0))) false),
   oz (.store 4 (tq 8) (tq 43)),
   oo 9 (.move (.const (.sc (.bool false))) false)])
 .ret)
 .skip))
 (.seq (.reg [oo 45 (.move (tq 0) false),
   oo 46 (.move (tq 11) false),
   oo 47 (.call 170 [((tq 45),0),((tq 46),0)] []),
   oo 44 (.move (tq 47) true),
   oo 48 (.pull (tq 44) 0),
   oo 49 (.pull (tq 44) 1),
   oo 50 (.pull (tq 44) 2),
   oo 14 (.move (tq 48) false),
   oo 11 (.move (tq 49) false),
   oo 12 (.move (tq 50) false)])
 (.seq (.seq (.reg [oo 51 (.move (tq 12) false),
   oo 52 (.bin .neq (tq 51) (.const (.sc (.int .i64 0)))),
   oo 53 (.move (tq 52) false),
   ⟨(some 54),false,(some (53,false)),.move (tq 14) false⟩,
   ⟨(some 55),false,(some (53,false)),.bin .gtr (tq 54) (.const (.sc (.int .u32 16777216)))⟩,
   oo 56 (.pick (tq 53) (.const (.sc (.bool true))) (tq 55))])
 (.cond (tq 56)
 (.seq (.reg [oo 57 (.build [(.sc (.int .i64 0)),(.sc (.int .i64 0)),(.sl 1 [])] []),
   oo 58 (.build [(.sc (.int .u8 0)),(.sc (.int .u8 0)),(.sc (.int .u8 0)),(.sc (.int .u8 0))] []),
   oz (.store 3 (tq 6) (tq 57)),
   oo 7 (.move (.const (.sc (.int .i64 0))) false),
   oz (.store 4 (tq 8) (tq 58)),
   oo 9 (.move (.const (.sc (.bool false))) false)])
 .ret)
 .skip))
 (.seq (.reg [oo 59 (.move (tq 11) false),
   oo 60 (.move (tq 10) false),
   oo 61 (.conv .i64 (tq 60)),
   oo 62 (.bin .add (tq 59) (tq 61)),
   oo 15 (.move (tq 62) false)])
 (.seq (.seq (.reg [oo 63 (.move (tq 0) false),
   oo 64 (.lenS (tq 63)),
   oo 65 (.move (tq 15) false),
   oo 66 (.bin .add (tq 65) (.const (.sc (.int .i64 4)))),
   oo 67 (.bin .lss (tq 64) (tq 66))])
 (.cond (tq 67)
 (.seq (.reg [oo 68 (.build [(.sc (.int .i64 0)),(.sc (.int .i64 0)),(.sl 1 [])] []),
   oo 69 (.build [(.sc (.int .u8 0)),(.sc (.int .u8 0)),(.sc (.int .u8 0)),(.sc (.int .u8 0))] []),
   oz (.store 3 (tq 6) (tq 68)),
   oo 7 (.move (.const (.sc (.int .i64 0))) false),
   oz (.store 4 (tq 8) (tq 69)),
   oo 9 (.move (.const (.sc (.bool false))) false)])
 .ret)
 .skip))
 (.seq (.reg [oo 70 (.move (tq 13) false),
   oo 71 (.conv .i64 (tq 70)),
   oo 72 (.move (tq 14) false),
   oo 73 (.conv .i64 (tq 72)),
   oo 74 (.move (tq 0) false),
   oo 75 (.move (tq 11) false),
   oo 76 (.move (tq 15) false),
   oo 77 (.sliceS 1 (tq 74) (some (tq 75)) (some (tq 76)) none),
   oo 78 (.call 495 [((tq 77),0)] []),
   oo 79 (.build [(.sc (.int .i64 0)),(.sc (.int .i64 0)),(.sl 1 [])] [(0,1,(tq 71)),(1,1,(tq 73)),(2,1,(tq 78))]),
   oo 16 (.alloc true [(.sc (.int .i64 0)),(.sc (.int .i64 0)),(.gs 1 [])]),
   oz (.store 3 (tq 16) (tq 79))])
 (.seq (.reg [oo 80 (.move (tq 0) false),
   oo 81 (.move (tq 15) false),
   oo 82 (.move (tq 15) false),
   oo 83 (.bin .add (tq 82) (.const (.sc (.int .i64 4)))),
   oo 84 (.sliceS 1 (tq 80) (some (tq 81)) (some (tq 83)) none),
   oo 85 (.arrP 4 1 (tq 84)),
   oo 86 (.load true 4 (tq 85) false),
   oo 17 (.alloc true [(.sc (.int .u8 0)),(.sc (.int .u8 0)),(.sc (.int .u8 0)),(.sc (.int .u8 0))]),
   oz (.store 4 (tq 17) (tq 86))])
 (.seq (.seq (.dreg [] [(oo 87 (.load true 3 (tq 16) false),q0),
   (oo 88 (.call 432 [((tq 87),1)] []),q0),
   (oo 89 (.un .not (tq 88)),q0),
   (oo 90 (.move (tq 89) false),q0),
   (⟨(some 91),false,(some (90,false)),.load true 4 (tq 17) false⟩,ql 17 [5] []),
   (⟨(some 92),false,(some (90,false)),.load true 4 (tq 5) false⟩,ql 5 [17] []),
   (⟨(some 93),false,(some (90,false)),.move (tq 0) true⟩,qc [17,5] []),
   (⟨(some 94),false,(some (90,false)),.move (tq 1) false⟩,q0),
   (⟨(some 95),false,(some (90,false)),.move (tq 15) false⟩,q0),
   (⟨(some 96),false,(some (90,false)),.sliceS 1 (tq 93) (some (tq 94)) (some (tq 95)) none⟩,q0),
   (⟨(some 97),false,(some (90,false)),.call 434 [((tq 92),0),((tq 96),0)] []⟩,qc [17] []),
   (⟨(some 98),false,(some (90,false)),.eqAgg true 4 (tq 91) (tq 97)⟩,q0),
   (oo 99 (.pick (tq 90) (.const (.sc (.bool true))) (tq 98)),q0)])
 (.cond (tq 99)
 (.seq (.reg [oo 100 (.build [(.sc (.int .i64 0)),(.sc (.int .i64 0)),(.sl 1 [])] []),
   oo 101 (.build [(.sc (.int .u8 0)),(.sc (.int .u8 0)),(.sc (.int .u8 0)),(.sc (.int .u8 0))] []),
   oz (.store 3 (tq 6) (tq 100)),
   oo 7 (.move (.const (.sc (.int .i64 0))) false),
   oz (.store 4 (tq 8) (tq 101)),
   oo 9 (.move (.const (.sc (.bool false))) false)])
 .ret)
 .skip))
 (.seq (.dreg [] [(oo 102 (.load true 3 (tq 16) false),ql 16 [17] []),
   (oo 103 (.move (tq 15) false),q0),
   (oo 104 (.bin .add (tq 103) (.const (.sc (.int .i64 4)))),q0),
   (oo 105 (.load true 4 (tq 17) false),ql 17 [16,6] []),
   (oz (.store 3 (tq 6) (tq 102)),ql 6 [17] []),
   (oo 7 (.move (tq 104) false),q0),
   (oz (.store 4 (tq 8) (tq 105)),q0),
   (oo 9 (.move (.const (.sc (.bool true))) false),q0)])
 .ret)))))))))))))⟩
def zoD:Hint:=⟨[(0,1),(1,3),(4,3),(7,3),(13,10),(15,6)],[],[none,none,none,none,none,none,none,none,none,none,none],[],[],false,false⟩
def zlN:Nat→Sh:=yV []
def zlt (zad:znp) (zaF:zoY) (xo:zak) (ze:zB) (xA:zcT) (L:Nat):CBC:=(xB 434 (zfE xA L) (xB 432 (zeh ze L) (xB 495 (zby xo L) (xB 195 (zoQ zaF L) (xB 170 (znk zad L) noC)))))
def zm4 {β:Type} (zad:znp) (zaF:zoY) (xo:zak) (ze:zB) (xA:zcT) (L:Nat) (p0:List (List V)) (p1:Int) (p2:List V) (k_fin:List V→Int→List V→Bool→Option β):Option β :=
 zad β L p0 p1 (fun v0 v1 v2 =>
 ifb ((v2:Int) != (0:Int)) (
 lt [(V.sc (.int .i64 (0:Int))),(V.sc (.int .i64 (0:Int))),(V.sl 1 ([]:List (List V)))] fun r3 =>
 lt [(V.sc (.int .u8 (0:Int))),(V.sc (.int .u8 (0:Int))),(V.sc (.int .u8 (0:Int))),(V.sc (.int .u8 (0:Int)))] fun r4 =>
 chk (0=0∧(List.length r3)=3∧3≠0) (
 chk (0=0∧(List.length r4)=4∧4≠0) (
 k_fin r3 (0:Int) r4 false))) (
 ifb (decide (v0 > (4096:Int))) (
 lt [(V.sc (.int .i64 (0:Int))),(V.sc (.int .i64 (0:Int))),(V.sl 1 ([]:List (List V)))] fun r5 =>
 lt [(V.sc (.int .u8 (0:Int))),(V.sc (.int .u8 (0:Int))),(V.sc (.int .u8 (0:Int))),(V.sc (.int .u8 (0:Int)))] fun r6 =>
 chk (0=0∧(List.length r5)=3∧3≠0) (
 chk (0=0∧(List.length r6)=4∧4≠0) (
 k_fin r5 (0:Int) r6 false))) (
 zaF β L p0 v1 (fun v7 v8 v9 =>
 ifb ((v9:Int) != (0:Int)) (
 lt [(V.sc (.int .i64 (0:Int))),(V.sc (.int .i64 (0:Int))),(V.sl 1 ([]:List (List V)))] fun r10 =>
 lt [(V.sc (.int .u8 (0:Int))),(V.sc (.int .u8 (0:Int))),(V.sc (.int .u8 (0:Int))),(V.sc (.int .u8 (0:Int)))] fun r11 =>
 chk (0=0∧(List.length r10)=3∧3≠0) (
 chk (0=0∧(List.length r11)=4∧4≠0) (
 k_fin r10 (0:Int) r11 false))) (
 zad β L p0 v8 (fun v12 v13 v14 =>
 ifb ((v14:Int) != (0:Int)) (
 lt [(V.sc (.int .i64 (0:Int))),(V.sc (.int .i64 (0:Int))),(V.sl 1 ([]:List (List V)))] fun r15 =>
 lt [(V.sc (.int .u8 (0:Int))),(V.sc (.int .u8 (0:Int))),(V.sc (.int .u8 (0:Int))),(V.sc (.int .u8 (0:Int)))] fun r16 =>
 chk (0=0∧(List.length r15)=3∧3≠0) (
 chk (0=0∧(List.length r16)=4∧4≠0) (
 k_fin r15 (0:Int) r16 false))) (
 ifb (decide (v12 > (16777216:Int))) (
 lt [(V.sc (.int .i64 (0:Int))),(V.sc (.int .i64 (0:Int))),(V.sl 1 ([]:List (List V)))] fun r17 =>
 lt [(V.sc (.int .u8 (0:Int))),(V.sc (.int .u8 (0:Int))),(V.sc (.int .u8 (0:Int))),(V.sc (.int .u8 (0:Int)))] fun r18 =>
 chk (0=0∧(List.length r17)=3∧3≠0) (
 chk (0=0∧(List.length r18)=4∧4≠0) (
 k_fin r17 (0:Int) r18 false))) (
 lt (IntKind.wrap .i64 v0) fun x19 =>
 lt (IntKind.wrap .i64 ((v13:Int)+x19)) fun x20 =>
 lt (IntKind.wrap .i64 ((x20:Int)+(4:Int))) fun x21 =>
 ifb (decide (((List.length p0:Nat):Int) < x21)) (
 lt [(V.sc (.int .i64 (0:Int))),(V.sc (.int .i64 (0:Int))),(V.sl 1 ([]:List (List V)))] fun r22 =>
 lt [(V.sc (.int .u8 (0:Int))),(V.sc (.int .u8 (0:Int))),(V.sc (.int .u8 (0:Int))),(V.sc (.int .u8 (0:Int)))] fun r23 =>
 chk (0=0∧(List.length r22)=3∧3≠0) (
 chk (0=0∧(List.length r23)=4∧4≠0) (
 k_fin r22 (0:Int) r23 false))) (
 lt (IntKind.wrap .i64 v7) fun x24 =>
 lt (IntKind.wrap .i64 v12) fun x25 =>
 chk (0≤x20∧x20≤(((List.length p0):Nat):Int)) (
 chk (0≤v13∧v13≤(((Int.toNat x20):Nat):Int)) (
 xo β L (List.take ((Int.toNat x20) - (Int.toNat v13)) (List.drop (Int.toNat v13) p0)) (fun v26 =>
 lt [(V.sc (.int .i64 x24)),(V.sc (.int .i64 x25)),(V.sl 1 v26)] fun r27 =>
 lt (IntKind.wrap .i64 ((x20:Int)+(4:Int))) fun x28 =>
 chk (0≤x28∧x28≤(((List.length p0):Nat):Int)) (
 chk (0≤x20∧x20≤(((Int.toNat x28):Nat):Int)) (
 chk (4≤(List.length (List.take ((Int.toNat x28) - (Int.toNat x20)) (List.drop (Int.toNat x20) p0)))) (
 chk ((List.length (List.take 4 (List.flatten (List.take 4 (List.take ((Int.toNat x28) - (Int.toNat x20)) (List.drop (Int.toNat x20) p0))))))=4∧0+4≤4) (
 lt (zr [(V.sc (.int .u8 (0:Int))),(V.sc (.int .u8 (0:Int))),(V.sc (.int .u8 (0:Int))),(V.sc (.int .u8 (0:Int)))] 0 (List.take 4 (List.flatten (List.take 4 (List.take ((Int.toNat x28) - (Int.toNat x20)) (List.drop (Int.toNat x20) p0)))))) fun r29 =>
 chk (0+3≤(List.length r27)) (
 ze β L (List.map V.dem (List.take 3 r27)) (fun v30 =>
 ifb (!v30) (
 lt [(V.sc (.int .i64 (0:Int))),(V.sc (.int .i64 (0:Int))),(V.sl 1 ([]:List (List V)))] fun r31 =>
 lt [(V.sc (.int .u8 (0:Int))),(V.sc (.int .u8 (0:Int))),(V.sc (.int .u8 (0:Int))),(V.sc (.int .u8 (0:Int)))] fun r32 =>
 chk (0=0∧(List.length r31)=3∧3≠0) (
 chk (0=0∧(List.length r32)=4∧4≠0) (
 k_fin r31 (0:Int) r32 false))) (
 chk (0+4≤(List.length r29)) (
 chk (0+4≤(List.length p2)) (
 chk (0≤x20∧x20≤(((List.length p0):Nat):Int)) (
 chk (0≤p1∧p1≤(((Int.toNat x20):Nat):Int)) (
 xA β L (List.take 4 p2) (List.take ((Int.toNat x20) - (Int.toNat p1)) (List.drop (Int.toNat p1) p0)) (fun v33 =>
 eqC 4 (List.take 4 r29) v33 fun v34 =>
 ifb (!v34) (
 lt [(V.sc (.int .i64 (0:Int))),(V.sc (.int .i64 (0:Int))),(V.sl 1 ([]:List (List V)))] fun r35 =>
 lt [(V.sc (.int .u8 (0:Int))),(V.sc (.int .u8 (0:Int))),(V.sc (.int .u8 (0:Int))),(V.sc (.int .u8 (0:Int)))] fun r36 =>
 chk (0=0∧(List.length r35)=3∧3≠0) (
 chk (0=0∧(List.length r36)=4∧4≠0) (
 k_fin r35 (0:Int) r36 false))) (
 chk (0+3≤(List.length r27)) (
 lt (IntKind.wrap .i64 ((x20:Int)+(4:Int))) fun x37 =>
 chk (0+4≤(List.length r29)) (
 chk ((List.length (List.take 3 r27))=3∧0+3≤3) (
 lt (zr [(V.sc (.int .i64 (0:Int))),(V.sc (.int .i64 (0:Int))),(V.gs 1 ([]:List (List V)))] 0 (List.take 3 r27)) fun r38 =>
 chk ((List.length (List.take 4 r29))=4∧0+4≤4) (
 lt (zr [(V.sc (.int .u8 (0:Int))),(V.sc (.int .u8 (0:Int))),(V.sc (.int .u8 (0:Int))),(V.sc (.int .u8 (0:Int)))] 0 (List.take 4 r29)) fun r39 =>
 chk (0=0∧(List.length r38)=3∧3≠0) (
 chk (0=0∧(List.length r39)=4∧4≠0) (
 k_fin r38 x37 r39 true)))))))))))))))))))))))))))))))
theorem zvg {β:Type} (zad:znp) (zaF:zoY) (xo:zak) (ze:zB) (xA:zcT) (L:Nat) (p0:List (List V)) (p1:Int) (p2:List V) (k:KK β):zw zlN (zlt zad zaF xo ze xA L) L zib [(V.sl 1 p0),(V.sc (.int .i64 p1)),(V.agg p2)] [] k=zm4 zad zaF xo ze xA L p0 p1 p2 (fun zHt zHu zHz zHL=>k (V.tup [(V.agg zHt),(V.sc (.int .i64 zHu)),(V.agg zHz),(V.sc (.bool zHL))]) []):=by kernel_rfl
abbrev zaE:=∀ (β:Type),Nat→List (List V)→Int→List V→(List V→Int→List V→Bool→Option β)→Option β
def yt (β:Type) (L:Nat) (p0:List (List V)) (p1:Int) (p2:List V) (k_fin:List V→Int→List V→Bool→Option β):Option β:=zm4 zad zaF xo ze xA L p0 p1 p2 k_fin
def zi4 (yt:zaE) (L:Nat) (β:Type) (args:List V) (bor:Bor) (k:KK β):Option β:=match args,bor with
 | [a0,a1,a2],[]=>aL 1 a0 fun p0=>aI .i64 a1 fun p1=>aG a2 fun p2=>yt β L p0 p1 p2 (fun zHt zHu zHz zHL=>k (V.tup [(V.agg zHt),(V.sc (.int .i64 zHu)),(V.agg zHz),(V.sc (.bool zHL))]) [])
 | _,_=>none
theorem zve (L:Nat) (β:Type) (args:List V) (bor:Bor) (k:KK β) (r:β) (h:zi4 yt L β args bor k=some r):zw zlN (zlt zad zaF xo ze xA L) L zib args bor k=some r:=by
 unfold zi4 at h
 split at h
 ·have q:=zP h; clear h; obtain ⟨p0,rfl,h⟩:=q
  have q:=xR h; clear h; obtain ⟨p1,rfl,h⟩:=q
  have q:=zgK h; clear h; obtain ⟨p2,rfl,h⟩:=q
  exact (zvg zad zaF xo ze xA L p0 p1 p2 k).trans h
 ·cases h
def zcY:CC:=(.block 1 (.seq (.reg [oo 13 (.move (tq 0) false),
   oo 14 (.move (tq 7) false),
   oo 15 (.load true 4 (tq 6) false),
   oo 16 (.call 457 [((tq 13),0),((tq 14),0),((tq 15),0)] []),
   oo 12 (.move (tq 16) true),
   oo 17 (.pull (tq 12) 0),
   oo 18 (.pull (tq 12) 1),
   oo 19 (.pull (tq 12) 2),
   oo 20 (.pull (tq 12) 3),
   oo 8 (.alloc true [(.sc (.int .i64 0)),(.sc (.int .i64 0)),(.gs 1 [])]),
   oo 10 (.alloc true [(.sc (.int .u8 0)),(.sc (.int .u8 0)),(.sc (.int .u8 0)),(.sc (.int .u8 0))]),
   oz (.store 3 (tq 8) (tq 17)),
   oo 9 (.move (tq 18) false),
   oz (.store 4 (tq 10) (tq 19)),
   oo 11 (.move (tq 20) false)])
 (.seq (.seq (.reg [oo 21 (.move (tq 11) false),
   oo 22 (.un .not (tq 21))])
 (.cond (tq 22)
 (.seq (.dreg [] [(oo 23 (.move (tq 5) true),qc [6] []),
   (oo 24 (.move (tq 7) false),q0),
   (oo 25 (.load true 4 (tq 6) false),ql 6 [] []),
   (oo 2 (.move (tq 23) true),qc [6] []),
   (oo 3 (.move (tq 24) false),q0),
   (oz (.store 4 (tq 4) (tq 25)),q0)])
 (.seq (.mask (bl 28 32) (bl 3487625247 32))
 .ret))
 .skip))
 (.dreg [] [(oo 26 (.move (tq 5) true),qc [8,10] [28]),
   (oo 27 (.load true 3 (tq 8) false),ql 8 [10] []),
   (oo 28 (.buildSlice 3 1 [(.sc (.int .i64 0)),(.sc (.int .i64 0)),(.sl 1 [])] [(0,3,(tq 27))]),qn [10] []),
   (oo 29 (.append 3 40 (tq 26) (tq 28)),qn [10] []),
   (oo 30 (.move (tq 9) false),q0),
   (oo 31 (.load true 4 (tq 10) false),ql 10 [8] [28,29]),
   (oo 5 (.move (tq 29) true),qc [10] []),
   (oo 7 (.move (tq 30) false),q0),
   (oz (.store 4 (tq 6) (tq 31)),q0)]))))
def zcZ:CF:=⟨32,[.tmp 2,.tmp 3,.cell 4 true 4],
 (.seq (.reg [oo 2 (.move (.const (.gs 3 [])) true),
   oo 3 (.move (.const (.sc (.int .i64 0))) false),
   oo 4 (.alloc true [(.sc (.int .u8 0)),(.sc (.int .u8 0)),(.sc (.int .u8 0)),(.sc (.int .u8 0))])])
 (.seq (.reg [oo 5 (.move (.const (.gs 3 [])) true)])
 (.seq (.reg [oo 6 (.alloc true [(.sc (.int .u8 0)),(.sc (.int .u8 0)),(.sc (.int .u8 0)),(.sc (.int .u8 0))])])
 (.seq (.reg [oo 7 (.move (.const (.sc (.int .i64 0))) false)])
 (.block 0 (.loop (bl 241 32) (bl 3487625459 32)
 zcY))))))⟩
def zoC:Hint:=⟨[(0,0),(1,0),(4,4),(4,9),(6,0),(6,3),(7,0),(7,6)],[],[none,some ((bl 241 32),(bl 3487625459 32)),none,none,some ((bl 28 32),(bl 3487625247 32))],[],[],false,false⟩
def zb5:Nat→Sh:=yV []
def zb7 (yt:zaE) (L:Nat):CBC:=(xB 457 (zi4 yt L) noC)
def zfn:St→St:=zZ 0 (bl 241 32) (bl 3487625459 32)
def zdG (p0 p5:List (List V)) (p7 zHm zHn zHl zHq:Int) (b6:List V):St:=⟨((V.sl 1 p0)::(jn 3 ((V.ptr 4 0)::((V.gs 3 p5)::((V.ptr 6 0)::((V.sc (.int .i64 p7))::(jn 24 []))))))),(gn 4 ((.live true [(V.sc (.int .u8 zHm)),(V.sc (.int .u8 zHn)),(V.sc (.int .u8 zHl)),(V.sc (.int .u8 zHq))])::(gn 1 ((.live true b6)::(gn 25 [])))))⟩
def zhL (p2:List (List V)) (p3:Int) (b4:List V):St:=⟨(jn 2 ((V.gs 3 p2)::((V.sc (.int .i64 p3))::((V.ptr 4 0)::(jn 27 []))))),(gn 4 ((.live true b4)::(gn 27 [])))⟩
abbrev zlz (β:Type):Type:=List (List V)→List (List V)→Int→Int→Int→Int→Int→List V→Option β
def zm9 {β:Type} (yt:zaE) (L:Nat) (p0:List (List V)) (k_hbbbba:zlz β):Option β :=
 k_hbbbba p0 ([]:List (List V)) (0:Int) (0:Int) (0:Int) (0:Int) (0:Int) [(V.sc (.int .u8 (0:Int))),(V.sc (.int .u8 (0:Int))),(V.sc (.int .u8 (0:Int))),(V.sc (.int .u8 (0:Int)))]
theorem zu8 {β:Type} (yt:zaE) (L:Nat) (p0:List (List V)) (k:KK β):zw zb5 (zb7 yt L) L zcZ [(V.sl 1 p0)] [] k=zm9 yt L p0 (fun p0 p5 p7 zHm zHn zHl zHq b6=>zz (xk zb5 (zb7 yt L) 0 L zcY) zfn L (zdG p0 p5 p7 zHm zHn zHl zHq b6) (yA 0 (yP 0 (CF.res zcZ) k))):=by kernel_rfl
def zhG {β:Type} (yt:zaE) (L:Nat) (p0 p5:List (List V)) (p7 zHm zHn zHl zHq:Int) (b6:List V) (k_ret:List (List V)→Int→List V→Option β) (k_hbbbba:zlz β):Option β :=
 chk (0+4≤(List.length b6)) (
 yt β L p0 p7 (List.take 4 b6) (fun v0 v1 v2 v3 =>
 chk ((List.length v0)=3∧0+3≤3) (
 lt (zr [(V.sc (.int .i64 (0:Int))),(V.sc (.int .i64 (0:Int))),(V.gs 1 ([]:List (List V)))] 0 v0) fun r4 =>
 chk ((List.length v2)=4∧0+4≤4) (
 lt (zr [(V.sc (.int .u8 (0:Int))),(V.sc (.int .u8 (0:Int))),(V.sc (.int .u8 (0:Int))),(V.sc (.int .u8 (0:Int)))] 0 v2) fun r5 =>
 ifb (!v3) (
 chk (0+4≤(List.length b6)) (
 chk ((List.length (List.take 4 b6))=4∧0+4≤4) (
 lt (zr [(V.sc (.int .u8 zHm)),(V.sc (.int .u8 zHn)),(V.sc (.int .u8 zHl)),(V.sc (.int .u8 zHq))] 0 (List.take 4 b6)) fun r6 =>
 k_ret p5 p7 r6))) (
 chk (0+3≤(List.length r4)) (
 chk ((List.length (List.take 3 r4))=3∧0+3≤3) (
 chk ((List.length p5+List.length (zh 3 1 (zr [(V.sc (.int .i64 (0:Int))),(V.sc (.int .i64 (0:Int))),(V.sl 1 ([]:List (List V)))] 0 (List.take 3 r4)))) * 40≤xj∧List.length p5+List.length (zh 3 1 (zr [(V.sc (.int .i64 (0:Int))),(V.sc (.int .i64 (0:Int))),(V.sl 1 ([]:List (List V)))] 0 (List.take 3 r4)))≤xj) (
 lt (p5++(zh 3 1 (zr [(V.sc (.int .i64 (0:Int))),(V.sc (.int .i64 (0:Int))),(V.sl 1 ([]:List (List V)))] 0 (List.take 3 r4)))) fun l7 =>
 chk (0+4≤(List.length r5)) (
 chk ((List.length (List.take 4 r5))=4∧0+4≤(List.length b6)) (
 lt (zr b6 0 (List.take 4 r5)) fun r8 =>
 k_hbbbba p0 l7 v1 zHm zHn zHl zHq r8))))))))))
theorem zq8 {β:Type} (yt:zaE) (L:Nat) (p0 p5:List (List V)) (p7 zHm zHn zHl zHq:Int) (b6:List V) (X:St→Option β) (K:KT β):xk zb5 (zb7 yt L) 0 L zcY (zdG p0 p5 p7 zHm zHn zHl zHq b6) (zaJ zfn X K)=zhG yt L p0 p5 p7 zHm zHn zHl zHq b6 (fun p2 p3 b4=>K .ret (zhL p2 p3 b4)) (fun p0 p5 p7 zHm zHn zHl zHq b6=>X (zdG p0 p5 p7 zHm zHn zHl zHq b6)):=by kernel_rfl
def zdK {β:Type} (yt:zaE) (L:Nat) (p2:List (List V)) (p3:Int) (b4:List V) (k_fin:List (List V)→Int→List V→Option β):Option β :=
 chk (0=0∧(List.length b4)=4∧4≠0) (
 k_fin p2 p3 b4)
theorem zoM {β:Type} (yt:zaE) (L:Nat) (p2:List (List V)) (p3:Int) (b4:List V) (k:KK β):(yA 0 (yP 0 (CF.res zcZ) k)) .ret (zhL p2 p3 b4)=zdK yt L p2 p3 b4 (fun zHt zHu zHz=>k (V.tup [(V.gs 3 zHt),(V.sc (.int .i64 zHu)),(V.agg zHz)]) []):=by kernel_rfl
def zds {β:Type} (yt:zaE) (L:Nat) (k_ret:List (List V)→Int→List V→Option β):Nat→List (List V)→List (List V)→Int→Int→Int→Int→Int→List V→Option β
 | 0,_,_,_,_,_,_,_,_=>none
 | n+1,p0,p5,p7,zHm,zHn,zHl,zHq,b6=>zhG yt L p0 p5 p7 zHm zHn zHl zHq b6 k_ret (fun p0 p5 p7 zHm zHn zHl zHq b6=>zds yt L k_ret n p0 p5 p7 zHm zHn zHl zHq b6)
theorem zj9 {β:Type} (yt:zaE) (L:Nat) (K:KT β):∀ (n:Nat) (p0 p5:List (List V)) (p7 zHm zHn zHl zHq:Int) (b6:List V),zz (xk zb5 (zb7 yt L) 0 L zcY) zfn n (zdG p0 p5 p7 zHm zHn zHl zHq b6) K=zds yt L (fun p2 p3 b4=>K .ret (zhL p2 p3 b4)) n p0 p5 p7 zHm zHn zHl zHq b6:=by
 intro n
 induction n with
 | zero=>intros; rfl
 | succ n ih =>
  intro p0 p5 p7 zHm zHn zHl zHq b6
  refine (zq8 yt L p0 p5 p7 zHm zHn zHl zHq b6 (fun σ=>zz (xk zb5 (zb7 yt L) 0 L zcY) zfn n σ K) K).trans ?_
  simp only [ih]
  rfl
def zjn {β:Type} (yt:zaE) (L:Nat) (p0:List (List V)) (k_fin:List (List V)→Int→List V→Option β):Option β :=
 zm9 yt L p0 (fun p0 p5 p7 zHm zHn zHl zHq b6=>zds yt L (fun p2 p3 b4=>zdK yt L p2 p3 b4 k_fin) L p0 p5 p7 zHm zHn zHl zHq b6)
theorem zu2 {β:Type} (yt:zaE) (L:Nat) (p0:List (List V)) (k:KK β):zw zb5 (zb7 yt L) L zcZ [(V.sl 1 p0)] [] k=zjn yt L p0 (fun zHt zHu zHz=>k (V.tup [(V.gs 3 zHt),(V.sc (.int .i64 zHu)),(V.agg zHz)]) []):=by
 refine (zu8 yt L p0 k).trans ?_
 unfold zjn
 first
  | (simp only [zj9,zoM]; done)
  | (simp only [zj9]; rfl)
abbrev zbt:=∀ (β:Type),Nat→List (List V)→(List (List V)→Int→List V→Option β)→Option β
def xu (β:Type) (L:Nat) (p0:List (List V)) (k_fin:List (List V)→Int→List V→Option β):Option β:=zjn yt L p0 k_fin
def ze1 (xu:zbt) (L:Nat) (β:Type) (args:List V) (bor:Bor) (k:KK β):Option β:=match args,bor with
 | [a0],[]=>aL 1 a0 fun p0=>xu β L p0 (fun zHt zHu zHz=>k (V.tup [(V.gs 3 zHt),(V.sc (.int .i64 zHu)),(V.agg zHz)]) [])
 | _,_=>none
theorem zvo (L:Nat) (β:Type) (args:List V) (bor:Bor) (k:KK β) (r:β) (h:ze1 xu L β args bor k=some r):zw zb5 (zb7 yt L) L zcZ args bor k=some r:=by
 unfold ze1 at h
 split at h
 ·have q:=zP h; clear h; obtain ⟨p0,rfl,h⟩:=q
  exact (zu2 yt L p0 k).trans h
 ·cases h
def zc8:CC:=(.seq (.reg [oo 11 (.bin .lss (tq 10) (tq 9))])
 (.seq (.cond (tq 11)
 .skip
 (.seq (.mask (bl 32 23) (bl 8388543 23))
 (.exit 0)))
 (.seq (.block 1 (.seq (.reg [oo 12 (.move (tq 10) false),
   oo 6 (.move (tq 12) false)])
 (.reg [oo 13 (.move (tq 5) false),
   oo 14 (.move (tq 6) false),
   oo 15 (.move (tq 0) false),
   oo 16 (.move (tq 6) false),
   oo 17 (.bin .mul (.const (.sc (.int .i64 8))) (tq 16)),
   oo 18 (.bin .shr (tq 15) (tq 17)),
   oo 19 (.conv .u8 (tq 18)),
   oo 20 (.indexAddrS 1 (tq 13) (tq 14)),
   oz (.store 1 (tq 20) (tq 19))])))
 (.reg [oo 21 (.bin .add (tq 10) (.const (.sc (.int .i64 1)))),
   oo 10 (.move (tq 21) false)]))))
def zj8:CC:=(.seq (.reg [oo 22 (.move (tq 5) true),
   oo 4 (.move (tq 22) true)])
 .ret)
def zda:CF:=⟨23,[.tmp 4],
 (.seq (.reg [oo 4 (.move (.const (.gs 1 [])) true)])
 (.seq (.reg [oo 7 (.move (tq 1) false),
   ⟨(some 8),true,none,.makeSlice 1 1 [(.sc (.int .u8 0))] (tq 7) (tq 7)⟩,
   oo 5 (.move (tq 8) true)])
 (.seq (.seq (.reg [oo 9 (.move (tq 1) false),
   oo 10 (.move (.const (.sc (.int .i64 0))) false)])
 (.block 0 (.loop (bl 1569 23) (bl 8388543 23)
 zc8)))
 zj8)))⟩
def zot:Hint:=⟨[(0,0),(1,2),(7,0),(7,1)],[(1,1)],[none,some ((bl 1569 23),(bl 8388543 23)),none,some ((bl 32 23),(bl 8388543 23)),none,none],[],[],false,false⟩
def za1:Nat→Sh:=yV []
def za8 (L:Nat):CBC:=noC
def zfj:St→St:=zZ 0 (bl 1569 23) (bl 8388543 23)
def zdE (p0:Int) (p5l:Nat) (p9 p10:Int) (b8:List V):St:=⟨((V.sc (.int .u64 p0))::(jn 4 ((V.own 8 0 p5l 1)::(jn 3 ((V.sc (.int .i64 p9))::((V.sc (.int .i64 p10))::(jn 12 []))))))),(gn 8 ((.live true b8)::(gn 14 [])))⟩
def ziK (p5l:Nat) (b8:List V):St:=⟨(jn 5 ((V.own 8 0 p5l 1)::(jn 17 []))),(gn 8 ((.live true b8)::(gn 14 [])))⟩
def zrT {β:Type} (L:Nat) (p0 p1:Int) (k_hbbaba:Int→Nat→Int→Int→List V→Option β):Option β :=
 chk (0≤p1∧p1≤p1∧(Int.toNat p1) * 1≤xj∧p1≤xj) (
 k_hbbaba p0 (Int.toNat p1) p1 (0:Int) (List.flatten (List.replicate (Int.toNat p1) [(V.sc (.int .u8 (0:Int)))])))
theorem zvk {β:Type} (L:Nat) (p0 p1:Int) (k:KK β):zw za1 (za8 L) L zda [(V.sc (.int .u64 p0)),(V.sc (.int .i64 p1))] [] k=zrT L p0 p1 (fun p0 p5l p9 p10 b8=>zz (xk za1 (za8 L) 0 L zc8) zfj L (zdE p0 p5l p9 p10 b8) (yA 0 (xO (xk za1 (za8 L) 0 L zj8) (yP 0 (CF.res zda) k)))):=by kernel_rfl
def zmz {β:Type} (L:Nat) (p0:Int) (p5l:Nat) (p9 p10:Int) (b8:List V) (k_hbbaba:Int→Nat→Int→Int→List V→Option β) (k_x0:Nat→List V→Option β):Option β :=
 ifb (decide (p10 < p9)) (
 lt (IntKind.wrap .i64 (((8:Int):Int) * p10)) fun x0 =>
 chk (0≤x0) (
 lt (zco .u64 p0 x0) fun x1 =>
 lt (IntKind.wrap .u8 x1) fun x2 =>
 chk (0≤p10∧p10 < ((p5l:Nat):Int)) (
 chk (1=1∧(0+((Int.toNat p10) * 1))+1≤(List.length b8)) (
 lt (zr b8 (0+((Int.toNat p10) * 1)) [(V.sc (.int .u8 x2))]) fun r3 =>
 lt (IntKind.wrap .i64 ((p10:Int)+(1:Int))) fun x4 =>
 k_hbbaba p0 p5l p9 x4 r3)))) (
 k_x0 p5l b8)
theorem zrn {β:Type} (L:Nat) (p0:Int) (p5l:Nat) (p9 p10:Int) (b8:List V) (X:St→Option β) (K:KT β):xk za1 (za8 L) 0 L zc8 (zdE p0 p5l p9 p10 b8) (zaJ zfj X K)=zmz L p0 p5l p9 p10 b8 (fun p0 p5l p9 p10 b8=>X (zdE p0 p5l p9 p10 b8)) (fun p5l b8=>K (.exit 0) (ziK p5l b8)):=by kernel_rfl
def zlc {β:Type} (L:Nat) (p5l:Nat) (b8:List V) (k_fin:List (List V)→Option β):Option β :=
 chk (p5l≠0∨(List.length b8)=0) (
 k_fin (zh 1 p5l b8))
theorem zpf {β:Type} (L:Nat) (p5l:Nat) (b8:List V) (k:KK β):(yA 0 (xO (xk za1 (za8 L) 0 L zj8) (yP 0 (CF.res zda) k))) (.exit 0) (ziK p5l b8)=zlc L p5l b8 (fun p0=>k (V.fr 1 p0) []):=by kernel_rfl
def zhD {β:Type} (L:Nat) (k_x0:Nat→List V→Option β):Nat→Int→Nat→Int→Int→List V→Option β
 | 0,_,_,_,_,_=>none
 | n+1,p0,p5l,p9,p10,b8=>zmz L p0 p5l p9 p10 b8 (fun p0 p5l p9 p10 b8=>zhD L k_x0 n p0 p5l p9 p10 b8) k_x0
theorem zke {β:Type} (L:Nat) (K:KT β):∀ (n:Nat) (p0:Int) (p5l:Nat) (p9 p10:Int) (b8:List V),zz (xk za1 (za8 L) 0 L zc8) zfj n (zdE p0 p5l p9 p10 b8) K=zhD L (fun p5l b8=>K (.exit 0) (ziK p5l b8)) n p0 p5l p9 p10 b8:=by
 intro n
 induction n with
 | zero=>intros; rfl
 | succ n ih =>
  intro p0 p5l p9 p10 b8
  refine (zrn L p0 p5l p9 p10 b8 (fun σ=>zz (xk za1 (za8 L) 0 L zc8) zfj n σ K) K).trans ?_
  simp only [ih]
  rfl
def zm7 {β:Type} (L:Nat) (p0 p1:Int) (k_fin:List (List V)→Option β):Option β :=
 zrT L p0 p1 (fun p0 p5l p9 p10 b8=>zhD L (fun p5l b8=>zlc L p5l b8 k_fin) L p0 p5l p9 p10 b8)
theorem zu4 {β:Type} (L:Nat) (p0 p1:Int) (k:KK β):zw za1 (za8 L) L zda [(V.sc (.int .u64 p0)),(V.sc (.int .i64 p1))] [] k=zm7 L p0 p1 (fun p0=>k (V.fr 1 p0) []):=by
 refine (zvk L p0 p1 k).trans ?_
 unfold zm7
 first
  | (simp only [zke,zpf]; done)
  | (simp only [zke]; rfl)
abbrev zjg:=∀ (β:Type),Nat→Int→Int→(List (List V)→Option β)→Option β
def zU (β:Type) (L:Nat) (p0 p1:Int) (k_fin:List (List V)→Option β):Option β:=zm7 L p0 p1 k_fin
def zjk (zU:zjg) (L:Nat) (β:Type) (args:List V) (bor:Bor) (k:KK β):Option β:=match args,bor with
 | [a0,a1],[]=>aI .u64 a0 fun p0=>aI .i64 a1 fun p1=>zU β L p0 p1 (fun p0=>k (V.fr 1 p0) [])
 | _,_=>none
theorem zvf (L:Nat) (β:Type) (args:List V) (bor:Bor) (k:KK β) (r:β) (h:zjk zU L β args bor k=some r):zw za1 (za8 L) L zda args bor k=some r:=by
 unfold zjk at h
 split at h
 ·have q:=xR h; clear h; obtain ⟨p0,rfl,h⟩:=q
  have q:=xR h; clear h; obtain ⟨p1,rfl,h⟩:=q
  exact (zu4 L p0 p1 k).trans h
 ·cases h
def zh7:CF:=⟨18,[.tmp 4],
 (.seq (.reg [oo 4 (.move (.const (.gs 1 [])) true)])
 (.seq (.reg [oo 6 (.move (tq 0) false),
   oo 7 (.lenS (tq 6)),
   oo 8 (.move (tq 1) false),
   oo 9 (.lenS (tq 8)),
   oo 10 (.bin .add (tq 7) (tq 9)),
   oo 11 (.makeSlice 1 1 [(.sc (.int .u8 0))] (.const (.sc (.int .i64 0))) (tq 10)),
   oo 5 (.move (tq 11) true)])
 (.seq (.reg [oo 12 (.move (tq 5) true),
   oo 13 (.move (tq 0) false),
   oo 14 (.append 1 1 (tq 12) (tq 13)),
   oo 5 (.move (tq 14) true)])
 (.seq (.reg [oo 15 (.move (tq 5) true),
   oo 16 (.move (tq 1) false),
   oo 17 (.append 1 1 (tq 15) (tq 16)),
   oo 4 (.move (tq 17) true)])
 .ret))))⟩
def zoF:Hint:=⟨[(0,0),(1,6),(2,0),(2,3),(3,0),(3,3)],[],[none],[],[],false,false⟩
def zlS:Nat→Sh:=yV []
def zmm (L:Nat):CBC:=noC
def zmX {β:Type} (L:Nat) (p0 p1:List (List V)) (k_fin:List (List V)→Option β):Option β :=
 lt (IntKind.wrap .i64 ((((List.length p0:Nat):Int):Int)+((List.length p1:Nat):Int))) fun x0 =>
 chk (0≤(0:Int)∧(0:Int)≤x0∧(Int.toNat x0) * 1≤xj∧x0≤xj) (
 chk ((List.length (List.replicate 0 [(V.sc (.int .u8 (0:Int)))])+List.length p0) * 1≤xj∧List.length (List.replicate 0 [(V.sc (.int .u8 (0:Int)))])+List.length p0≤xj) (
 lt ((List.replicate 0 [(V.sc (.int .u8 (0:Int)))])++p0) fun l1 =>
 chk ((List.length l1+List.length p1) * 1≤xj∧List.length l1+List.length p1≤xj) (
 lt (l1++p1) fun l2 =>
 k_fin l2)))
theorem zuQ {β:Type} (L:Nat) (p0 p1:List (List V)) (k:KK β):zw zlS (zmm L) L zh7 [(V.sl 1 p0),(V.sl 1 p1)] [] k=zmX L p0 p1 (fun p0=>k (V.gs 1 p0) []):=by kernel_rfl
abbrev zja:=∀ (β:Type),Nat→List (List V)→List (List V)→(List (List V)→Option β)→Option β
def zT (β:Type) (L:Nat) (p0 p1:List (List V)) (k_fin:List (List V)→Option β):Option β:=zmX L p0 p1 k_fin
def zi8 (zT:zja) (L:Nat) (β:Type) (args:List V) (bor:Bor) (k:KK β):Option β:=match args,bor with
 | [a0,a1],[]=>aL 1 a0 fun p0=>aL 1 a1 fun p1=>zT β L p0 p1 (fun p0=>k (V.gs 1 p0) [])
 | _,_=>none
theorem zu6 (L:Nat) (β:Type) (args:List V) (bor:Bor) (k:KK β) (r:β) (h:zi8 zT L β args bor k=some r):zw zlS (zmm L) L zh7 args bor k=some r:=by
 unfold zi8 at h
 split at h
 ·have q:=zP h; clear h; obtain ⟨p0,rfl,h⟩:=q
  have q:=zP h; clear h; obtain ⟨p1,rfl,h⟩:=q
  exact (zuQ L p0 p1 k).trans h
 ·cases h
def zfL:CF:=⟨10,[.tmp 4],
 (.seq (.reg [oo 4 (.move (.const (.gs 1 [])) true)])
 (.seq (.reg [oo 5 (.move (tq 0) false),
   oo 6 (.move (tq 1) false),
   oo 7 (.conv .u64 (tq 6)),
   oo 8 (.call 192 [((tq 7),0),((.const (.sc (.int .i64 4))),0)] []),
   oo 9 (.call 191 [((tq 5),0),((tq 8),0)] []),
   oo 4 (.move (tq 9) true)])
 .ret))⟩
def zlk:Hint:=⟨[(0,0),(1,5)],[],[none],[],[],false,false⟩
def ziP:Nat→Sh:=yV []
def ziR (zU:zjg) (zT:zja) (L:Nat):CBC:=(xB 191 (zi8 zT L) (xB 192 (zjk zU L) noC))
def zjP {β:Type} (zU:zjg) (zT:zja) (L:Nat) (p0:List (List V)) (p1:Int) (k_fin:List (List V)→Option β):Option β :=
 lt (IntKind.wrap .u64 p1) fun x0 =>
 zU β L x0 (4:Int) (fun v1 =>
 zT β L p0 v1 (fun v2 =>
 k_fin v2))
theorem zse {β:Type} (zU:zjg) (zT:zja) (L:Nat) (p0:List (List V)) (p1:Int) (k:KK β):zw ziP (ziR zU zT L) L zfL [(V.sl 1 p0),(V.sc (.int .u32 p1))] [] k=zjP zU zT L p0 p1 (fun p0=>k (V.gs 1 p0) []):=by kernel_rfl
abbrev zgl:=∀ (β:Type),Nat→List (List V)→Int→(List (List V)→Option β)→Option β
def zJ (β:Type) (L:Nat) (p0:List (List V)) (p1:Int) (k_fin:List (List V)→Option β):Option β:=zjP zU zT L p0 p1 k_fin
def zgr (zJ:zgl) (L:Nat) (β:Type) (args:List V) (bor:Bor) (k:KK β):Option β:=match args,bor with
 | [a0,a1],[]=>aL 1 a0 fun p0=>aI .u32 a1 fun p1=>zJ β L p0 p1 (fun p0=>k (V.gs 1 p0) [])
 | _,_=>none
theorem zsd (L:Nat) (β:Type) (args:List V) (bor:Bor) (k:KK β) (r:β) (h:zgr zJ L β args bor k=some r):zw ziP (ziR zU zT L) L zfL args bor k=some r:=by
 unfold zgr at h
 split at h
 ·have q:=zP h; clear h; obtain ⟨p0,rfl,h⟩:=q
  have q:=xR h; clear h; obtain ⟨p1,rfl,h⟩:=q
  exact (zse zU zT L p0 p1 k).trans h
 ·cases h
def zgu:CF:=⟨58,[.tmp 4,.tmp 5],
 (.seq (.reg [oo 3 (.box true (tq 1)),
   oo 4 (.move (.const (.gs 1 [])) true),
   oo 5 (.move (.const (.sc (.int .i64 0))) false)])
 (.seq (.seq (.reg [oo 11 (.load true 3 (tq 3) false),
   oo 12 (.call 432 [((tq 11),1)] []),
   oo 13 (.un .not (tq 12))])
 (.cond (tq 13)
 (.seq (.reg [oo 4 (.move (.const (.gs 1 [])) true),
   oo 5 (.move (.const (.sc (.int .i64 6))) false)])
 .ret)
 .skip))
 (.seq (.reg [oo 15 (.move (tq 0) false),
   oo 16 (.call 433 [((tq 15),0)] []),
   oo 14 (.move (tq 16) true),
   oo 17 (.extract (tq 14) 0),
   oo 18 (.pull (tq 14) 1),
   oo 19 (.pull (tq 14) 2),
   oo 8 (.alloc true [(.sc (.int .u8 0)),(.sc (.int .u8 0)),(.sc (.int .u8 0)),(.sc (.int .u8 0))]),
   oo 6 (.move (tq 17) false),
   oo 7 (.move (tq 18) false),
   oz (.store 4 (tq 8) (tq 19))])
 (.seq (.seq (.reg [oo 20 (.move (tq 7) false),
   oo 21 (.bin .add (tq 20) (.const (.sc (.int .i64 9)))),
   oo 22 (.fieldAddr 2 (tq 3)),
   oo 23 (.load false 1 (tq 22) false),
   oo 24 (.lenS (tq 23)),
   oo 25 (.bin .add (tq 21) (tq 24)),
   oo 26 (.bin .add (tq 25) (.const (.sc (.int .i64 4)))),
   oo 27 (.bin .gtr (tq 26) (.const (.sc (.int .i64 1048576))))])
 (.cond (tq 27)
 (.seq (.reg [oo 4 (.move (.const (.gs 1 [])) true),
   oo 5 (.move (.const (.sc (.int .i64 4))) false)])
 .ret)
 .skip))
 (.seq (.reg [oo 28 (.fieldAddr 2 (tq 3)),
   oo 29 (.load false 1 (tq 28) false),
   oo 30 (.lenS (tq 29)),
   oo 31 (.conv .u32 (tq 30)),
   oo 32 (.call 157 [((.const (.gs 1 [])),0),((tq 31),0)] []),
   oo 9 (.move (tq 32) true)])
 (.seq (.reg [oo 33 (.move (tq 9) true),
   oo 34 (.fieldAddr 0 (tq 3)),
   oo 35 (.load false 1 (tq 34) false),
   oo 36 (.conv .u8 (tq 35)),
   oo 37 (.buildSlice 1 1 [(.sc (.int .u8 0))] [(0,1,(tq 36))]),
   oo 38 (.append 1 1 (tq 33) (tq 37)),
   oo 9 (.move (tq 38) true)])
 (.seq (.reg [oo 39 (.move (tq 9) false),
   oo 40 (.fieldAddr 1 (tq 3)),
   oo 41 (.load false 1 (tq 40) false),
   oo 42 (.conv .u32 (tq 41)),
   oo 43 (.call 157 [((tq 39),0),((tq 42),0)] []),
   oo 9 (.move (tq 43) true)])
 (.seq (.reg [oo 44 (.move (tq 9) true),
   oo 45 (.fieldAddr 2 (tq 3)),
   oo 46 (.load false 1 (tq 45) false),
   oo 47 (.append 1 1 (tq 44) (tq 46)),
   oo 9 (.move (tq 47) true)])
 (.seq (.reg [oo 48 (.load true 4 (tq 8) false),
   oo 49 (.move (tq 9) false),
   oo 50 (.call 434 [((tq 48),0),((tq 49),0)] []),
   oo 10 (.alloc true [(.sc (.int .u8 0)),(.sc (.int .u8 0)),(.sc (.int .u8 0)),(.sc (.int .u8 0))]),
   oz (.store 4 (tq 10) (tq 50))])
 (.seq (.dreg [10] [(oo 51 (.move (tq 0) true),q1),
   (oo 52 (.move (tq 7) false),q0),
   (oo 53 (.sliceS 1 (tq 51) none (some (tq 52)) none),q0),
   (oo 54 (.move (tq 9) false),q0),
   (oo 55 (.sliceA 4 1 (tq 10) none none none),q1),
   (oo 56 (.buildSlice 1 3 [(.sl 1 [])] [(0,1,(tq 53)),(1,1,(tq 54)),(2,1,(tq 55))]),q0),
   (oo 57 (.call 435 [((tq 56),0)] []),q0),
   (oo 4 (.move (tq 57) true),q0),
   (oo 5 (.move (.const (.sc (.int .i64 0))) false),q0)])
 .ret))))))))))⟩
def zmC:Hint:=⟨[(0,0),(0,1),(2,0),(3,2),(3,3),(5,0),(6,5),(7,0),(7,6),(8,5),(9,0),(9,4),(11,0),(11,7)],[],[none,none,none,none,none],[(11,[10])],[],false,false⟩
def zjO:Nat→Sh:=yV [(23,(.sl 1)),(29,(.sl 1)),(35,(.int .i64)),(41,(.int .i64)),(46,(.sl 1))]
def zjV (ze:zB) (xu:zbt) (zJ:zgl) (xA:zcT) (xn:zae) (L:Nat):CBC:=(xB 435 (zbi xn L) (xB 434 (zfE xA L) (xB 157 (zgr zJ L) (xB 433 (ze1 xu L) (xB 432 (zeh ze L) noC)))))
def zkK {β:Type} (ze:zB) (xu:zbt) (zJ:zgl) (xA:zcT) (xn:zae) (L:Nat) (p0:List (List V)) (p1:List V) (k_fin:List (List V)→Int→Option β):Option β :=
 chk (0+3≤(List.length p1)) (
 ze β L (List.map V.dem (List.take 3 p1)) (fun v0 =>
 ifb (!v0) (
 k_fin ([]:List (List V)) (6:Int)) (
 xu β L p0 (fun v1 v2 v3 =>
 chk ((List.length v3)=4∧0+4≤4) (
 lt (zr [(V.sc (.int .u8 (0:Int))),(V.sc (.int .u8 (0:Int))),(V.sc (.int .u8 (0:Int))),(V.sc (.int .u8 (0:Int)))] 0 v3) fun r4 =>
 lt (IntKind.wrap .i64 ((v2:Int)+(9:Int))) fun x5 =>
 cLd 1 p1 2 fun v6 =>
 lt (IntKind.wrap .i64 ((x5:Int)+((List.length v6:Nat):Int))) fun x7 =>
 lt (IntKind.wrap .i64 ((x7:Int)+(4:Int))) fun x8 =>
 ifb (decide (x8 > (1048576:Int))) (
 k_fin ([]:List (List V)) (4:Int)) (
 cLd 1 p1 2 fun v9 =>
 lt (IntKind.wrap .u32 ((List.length v9:Nat):Int)) fun x10 =>
 zJ β L ([]:List (List V)) x10 (fun v11 =>
 cI .i64 p1 0 fun v12 =>
 lt (IntKind.wrap .u8 v12) fun x13 =>
 chk ((List.length v11+List.length (zh 1 1 [(V.sc (.int .u8 x13))])) * 1≤xj∧List.length v11+List.length (zh 1 1 [(V.sc (.int .u8 x13))])≤xj) (
 lt (v11++(zh 1 1 [(V.sc (.int .u8 x13))])) fun l14 =>
 cI .i64 p1 1 fun v15 =>
 lt (IntKind.wrap .u32 v15) fun x16 =>
 zJ β L l14 x16 (fun v17 =>
 cLd 1 p1 2 fun v18 =>
 chk ((List.length v17+List.length v18) * 1≤xj∧List.length v17+List.length v18≤xj) (
 lt (v17++v18) fun l19 =>
 chk (0+4≤(List.length r4)) (
 xA β L (List.take 4 r4) l19 (fun v20 =>
 chk ((List.length v20)=4∧0+4≤4) (
 lt (zr [(V.sc (.int .u8 (0:Int))),(V.sc (.int .u8 (0:Int))),(V.sc (.int .u8 (0:Int))),(V.sc (.int .u8 (0:Int)))] 0 v20) fun r21 =>
 lc r21 (
 chk (0≤v2∧v2≤(((List.length p0):Nat):Int)) (
 none)) (fun h22 t23 =>
 chk (0≤v2∧v2≤(((List.length p0):Nat):Int)) (
 chk (0+4 * 1≤(List.length (h22::t23))) (
 xn β L (zh 1 3 [(V.sl 1 (List.take ((Int.toNat v2) - 0) (List.drop 0 p0))),(V.sl 1 l19),(V.sl 1 (zh 1 4 (h22::t23)))]) (fun v24 =>
 k_fin v24 (0:Int))))))))))))))))))
theorem ztm {β:Type} (ze:zB) (xu:zbt) (zJ:zgl) (xA:zcT) (xn:zae) (L:Nat) (p0:List (List V)) (p1:List V) (k:KK β):zw zjO (zjV ze xu zJ xA xn L) L zgu [(V.sl 1 p0),(V.agg p1)] [] k=zkK ze xu zJ xA xn L p0 p1 (fun zHt zHu=>k (V.tup [(V.gs 1 zHt),(V.sc (.int .i64 zHu))]) []):=by kernel_rfl
abbrev yo:=∀ (β:Type),Nat→List (List V)→List V→(List (List V)→Int→Option β)→Option β
def zd (β:Type) (L:Nat) (p0:List (List V)) (p1:List V) (k_fin:List (List V)→Int→Option β):Option β:=zkK ze xu zJ xA xn L p0 p1 k_fin
def zdz (zd:yo) (L:Nat) (β:Type) (args:List V) (bor:Bor) (k:KK β):Option β:=match args,bor with
 | [a0,a1],[]=>aL 1 a0 fun p0=>aG a1 fun p1=>zd β L p0 p1 (fun zHt zHu=>k (V.tup [(V.gs 1 zHt),(V.sc (.int .i64 zHu))]) [])
 | _,_=>none
theorem ztq (L:Nat) (β:Type) (args:List V) (bor:Bor) (k:KK β) (r:β) (h:zdz zd L β args bor k=some r):zw zjO (zjV ze xu zJ xA xn L) L zgu args bor k=some r:=by
 unfold zdz at h
 split at h
 ·have q:=zP h; clear h; obtain ⟨p0,rfl,h⟩:=q
  have q:=zgK h; clear h; obtain ⟨p1,rfl,h⟩:=q
  exact (ztm ze xu zJ xA xn L p0 p1 k).trans h
 ·cases h
def zh3:CF:=⟨15,[.tmp 2,.tmp 3],
 (.seq (.reg [oo 2 (.move (.const (.gs 3 [])) true),
   oo 3 (.move (.const (.sc (.int .i64 0))) false)])
 (.seq (.reg [oo 8 (.move (tq 0) false),
   oo 9 (.call 433 [((tq 8),0)] []),
   oo 7 (.move (tq 9) true),
   oo 10 (.extract (tq 7) 0),
   oo 11 (.pull (tq 7) 1),
   oo 12 (.pull (tq 7) 2),
   oo 6 (.alloc true [(.sc (.int .u8 0)),(.sc (.int .u8 0)),(.sc (.int .u8 0)),(.sc (.int .u8 0))]),
   oo 4 (.move (tq 10) true),
   oo 5 (.move (tq 11) false),
   oz (.store 4 (tq 6) (tq 12))])
 (.seq (.reg [oo 13 (.move (tq 4) true),
   oo 14 (.move (tq 5) false),
   oo 2 (.move (tq 13) true),
   oo 3 (.move (tq 14) false)])
 .ret)))⟩
def zoA:Hint:=⟨[(0,0),(1,2),(1,3),(1,7),(2,0),(2,2)],[],[none],[],[],false,false⟩
def zmc:Nat→Sh:=yV []
def zl5 (xu:zbt) (L:Nat):CBC:=(xB 433 (ze1 xu L) noC)
def znd {β:Type} (xu:zbt) (L:Nat) (p0:List (List V)) (k_fin:List (List V)→Int→Option β):Option β :=
 xu β L p0 (fun v0 v1 v2 =>
 chk ((List.length v2)=4∧0+4≤4) (
 lt (zr [(V.sc (.int .u8 (0:Int))),(V.sc (.int .u8 (0:Int))),(V.sc (.int .u8 (0:Int))),(V.sc (.int .u8 (0:Int)))] 0 v2) fun r3 =>
 k_fin v0 v1))
theorem zvc {β:Type} (xu:zbt) (L:Nat) (p0:List (List V)) (k:KK β):zw zmc (zl5 xu L) L zh3 [(V.sl 1 p0)] [] k=znd xu L p0 (fun zHt zHu=>k (V.tup [(V.gs 3 zHt),(V.sc (.int .i64 zHu))]) []):=by kernel_rfl
abbrev xm:=∀ (β:Type),Nat→List (List V)→(List (List V)→Int→Option β)→Option β
def yb (β:Type) (L:Nat) (p0:List (List V)) (k_fin:List (List V)→Int→Option β):Option β:=znd xu L p0 k_fin
def ze4 (yb:xm) (L:Nat) (β:Type) (args:List V) (bor:Bor) (k:KK β):Option β:=match args,bor with
 | [a0],[]=>aL 1 a0 fun p0=>yb β L p0 (fun zHt zHu=>k (V.tup [(V.gs 3 zHt),(V.sc (.int .i64 zHu))]) [])
 | _,_=>none
theorem zuR (L:Nat) (β:Type) (args:List V) (bor:Bor) (k:KK β) (r:β) (h:ze4 yb L β args bor k=some r):zw zmc (zl5 xu L) L zh3 args bor k=some r:=by
 unfold ze4 at h
 split at h
 ·have q:=zP h; clear h; obtain ⟨p0,rfl,h⟩:=q
  exact (zvc xu L p0 k).trans h
 ·cases h
def zkv:CF:=⟨51,[.tmp 0],
 (.seq (.reg [oo 0 (.move (.const (.sc (.bool false))) false)])
 (.seq (.reg [oo 8 (.build [(.sc (.int .i64 0)),(.sc (.int .i64 0)),(.sl 1 [])] [(0,1,(.const (.sc (.int .i64 4))))]),
   oo 9 (.call 414 [((.const (.gs 1 [])),0),((tq 8),1)] []),
   oo 7 (.move (tq 9) true),
   oo 10 (.extract (tq 7) 0),
   oo 11 (.pull (tq 7) 1),
   oo 1 (.move (tq 10) true),
   oo 2 (.move (tq 11) false)])
 (.seq (.reg [oo 13 (.move (tq 1) false),
   oo 14 (.call 415 [((tq 13),0)] []),
   oo 12 (.move (tq 14) true),
   oo 15 (.extract (tq 12) 0),
   oo 16 (.pull (tq 12) 1),
   oo 3 (.move (tq 15) false),
   oo 4 (.move (tq 16) false)])
 (.seq (.reg [oo 18 (.move (tq 1) false),
   oo 19 (.move (tq 1) false),
   oo 20 (.lenS (tq 19)),
   oo 21 (.mm false (.const (.sc (.int .i64 12))) (tq 20)),
   oo 22 (.sliceS 1 (tq 18) none (some (tq 21)) none),
   oo 23 (.call 415 [((tq 22),0)] []),
   oo 17 (.move (tq 23) true),
   oo 24 (.extract (tq 17) 0),
   oo 25 (.pull (tq 17) 1),
   oo 5 (.move (tq 24) false),
   oo 6 (.move (tq 25) false)])
 (.seq (.reg [oo 26 (.move (tq 2) false),
   oo 27 (.bin .eql (tq 26) (.const (.sc (.int .i64 0)))),
   oo 28 (.move (tq 27) false),
   ⟨(some 29),false,(some (28,true)),.move (tq 1) false⟩,
   ⟨(some 30),false,(some (28,true)),.lenS (tq 29)⟩,
   ⟨(some 31),false,(some (28,true)),.bin .eql (tq 30) (.const (.sc (.int .i64 13)))⟩,
   oo 32 (.pick (tq 28) (tq 31) (.const (.sc (.bool false)))),
   oo 33 (.move (tq 32) false),
   ⟨(some 34),false,(some (33,true)),.move (tq 3) false⟩,
   ⟨(some 35),false,(some (33,true)),.lenS (tq 34)⟩,
   ⟨(some 36),false,(some (33,true)),.bin .eql (tq 35) (.const (.sc (.int .i64 1)))⟩,
   oo 37 (.pick (tq 33) (tq 36) (.const (.sc (.bool false)))),
   oo 38 (.move (tq 37) false),
   ⟨(some 39),false,(some (38,true)),.move (tq 4) false⟩,
   ⟨(some 40),false,(some (38,true)),.bin .eql (tq 39) (.const (.sc (.int .i64 13)))⟩,
   oo 41 (.pick (tq 38) (tq 40) (.const (.sc (.bool false)))),
   oo 42 (.move (tq 41) false),
   ⟨(some 43),false,(some (42,true)),.move (tq 5) false⟩,
   ⟨(some 44),false,(some (42,true)),.lenS (tq 43)⟩,
   ⟨(some 45),false,(some (42,true)),.bin .eql (tq 44) (.const (.sc (.int .i64 0)))⟩,
   oo 46 (.pick (tq 42) (tq 45) (.const (.sc (.bool false)))),
   oo 47 (.move (tq 46) false),
   ⟨(some 48),false,(some (47,true)),.move (tq 6) false⟩,
   ⟨(some 49),false,(some (47,true)),.bin .eql (tq 48) (.const (.sc (.int .i64 0)))⟩,
   oo 50 (.pick (tq 47) (tq 49) (.const (.sc (.bool false)))),
   oo 0 (.move (tq 50) false)])
 .ret)))))⟩
def zqi:Hint:=⟨[(1,2),(1,3),(1,5),(2,2),(2,3),(3,6),(3,7)],[],[none],[],[],false,false⟩
def zol:Nat→Sh:=yV []
def zn0 (zd:yo) (yb:xm) (L:Nat):CBC:=(xB 415 (ze4 yb L) (xB 414 (zdz zd L) noC))
def zpp {β:Type} (zd:yo) (yb:xm) (L:Nat) (k_fin:Bool→Option β):Option β :=
 zd β L ([]:List (List V)) [(V.sc (.int .i64 (4:Int))),(V.sc (.int .i64 (0:Int))),(V.sl 1 ([]:List (List V)))] (fun v0 v1 =>
 yb β L v0 (fun v2 v3 =>
 lt (zGk (12:Int) ((List.length v0:Nat):Int)) fun x4 =>
 chk (0≤x4∧x4≤(((List.length v0):Nat):Int)) (
 yb β L (List.take ((Int.toNat x4) - 0) (List.drop 0 v0)) (fun v5 v6 =>
 ifb ((v1:Int) == (0:Int)) (
 ifb ((((List.length v0:Nat):Int):Int) == (13:Int)) (
 ifb ((((List.length v2:Nat):Int):Int) == (1:Int)) (
 ifb ((v3:Int) == (13:Int)) (
 ifb ((((List.length v5:Nat):Int):Int) == (0:Int)) (
 k_fin ((v6:Int) == (0:Int))) (
 k_fin false)) (
 k_fin false)) (
 k_fin false)) (
 k_fin false)) (
 k_fin false)))))
theorem zxs {β:Type} (zd:yo) (yb:xm) (L:Nat) (k:KK β):zw zol (zn0 zd yb L) L zkv [] [] k=zpp zd yb L (fun p0=>k (V.sc (.bool p0)) []):=by kernel_rfl
abbrev zn:=∀ (β:Type),Nat→(Bool→Option β)→Option β
def xb (β:Type) (L:Nat) (k_fin:Bool→Option β):Option β:=zpp zd yb L k_fin
def zgB (xb:zn) (L:Nat) (β:Type) (args:List V) (bor:Bor) (k:KK β):Option β:=match args,bor with
 | [],[]=>xb β L (fun p0=>k (V.sc (.bool p0)) [])
 | _,_=>none
theorem zxd (L:Nat) (β:Type) (args:List V) (bor:Bor) (k:KK β) (r:β) (h:zgB xb L β args bor k=some r):zw zol (zn0 zd yb L) L zkv args bor k=some r:=by
 unfold zgB at h
 split at h
 ·exact (zxs zd yb L k).trans h
 ·cases h
def znu:CF:=⟨6,[.tmp 2],
 (.seq (.reg [oo 2 (.move (.const (.sc (.pointer none))) false)])
 (.seq (.reg [oo 3 (.move (tq 0) false),
   oo 4 (.build [(.sl 1 []),(.sc (.int .i64 0))] [(0,1,(tq 3))]),
   oo 5 (.box false (tq 4)),
   oo 2 (.move (tq 5) false)])
 .ret))⟩
def zs5:Hint:=⟨[],[],[none],[],[],false,false⟩
def zqV:Nat→Sh:=yV []
def zrq (L:Nat):CBC:=noC
def zsu {β:Type} (L:Nat) (p0:List (List V)) (k_fin:List (List V)→Int→Option β):Option β :=
 k_fin p0 (0:Int)
theorem zz4 {β:Type} (L:Nat) (p0:List (List V)) (k:KK β):zw zqV (zrq L) L znu [(V.sl 1 p0)] [] k=zsu L p0 (fun zHt zHu=>k (V.bx false [(V.sl 1 zHt),(V.sc (.int .i64 zHu))]) []):=by kernel_rfl
abbrev yw:=∀ (β:Type),Nat→List (List V)→(List (List V)→Int→Option β)→Option β
def yf (β:Type) (L:Nat) (p0:List (List V)) (k_fin:List (List V)→Int→Option β):Option β:=zsu L p0 k_fin
def zjw (yf:yw) (L:Nat) (β:Type) (args:List V) (bor:Bor) (k:KK β):Option β:=match args,bor with
 | [a0],[]=>aL 1 a0 fun p0=>yf β L p0 (fun zHt zHu=>k (V.bx false [(V.sl 1 zHt),(V.sc (.int .i64 zHu))]) [])
 | _,_=>none
theorem zzS (L:Nat) (β:Type) (args:List V) (bor:Bor) (k:KK β) (r:β) (h:zjw yf L β args bor k=some r):zw zqV (zrq L) L znu args bor k=some r:=by
 unfold zjw at h
 split at h
 ·have q:=zP h; clear h; obtain ⟨p0,rfl,h⟩:=q
  exact (zz4 L p0 k).trans h
 ·cases h
end
end Go.Proofs.YteopmmegeagklaaDoor
