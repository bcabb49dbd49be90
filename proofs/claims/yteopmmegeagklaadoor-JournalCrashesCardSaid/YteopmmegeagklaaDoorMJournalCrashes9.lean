/- Part 9 of the proof of JournalCrashes: an abstract machine over plain values, its soundness, and the functions of the program on plain values. -/
import Derived.Test.YteopmmegeagklaaDoorMJournalCrashes8
namespace Go.Proofs.YteopmmegeagklaaDoor
section
set_option maxRecDepth 100000
set_option linter.unusedVariables false
set_option linter.unusedSimpArgs false
def zfe:CF:=⟨13,[.tmp 2],
 (.seq (.reg [oo 2 (.move (.const (.sc (.bool false))) false)])
 (.seq (.dreg [] [(oo 3 (.move (tq 0) false),q0),
   (oo 4 (.nilCheck (tq 3)),q0),
   (oo 5 (.fieldAddr 1 (tq 4)),q0),
   (oo 6 (.load false 1 (tq 5) false),ql 0 [] []),
   (oo 7 (.move (tq 0) false),q0),
   (oo 8 (.nilCheck (tq 7)),q0),
   (oo 9 (.fieldAddr 0 (tq 8)),q0),
   (oo 10 (.load false 1 (tq 9) false),ql 0 [] []),
   (oo 11 (.lenS (tq 10)),q0),
   (oo 12 (.bin .lss (tq 6) (tq 11)),q0),
   (oo 2 (.move (tq 12) false),q0)])
 .ret))⟩
def zjZ:Hint:=⟨[],[],[none],[],[],false,false⟩
def zhP:Nat→Sh:=xT []
def zhR (L:Nat):CBC:=noC
def zfX {β:Type} (L:Nat) (zEM:List (List V)) (zEN:Int) (k_fin:Bool→List (List V)→Int→Option β):Option β :=
 k_fin (decide (zEN < ((List.length zEM:Nat):Int))) zEM zEN
theorem zpY {β:Type} (L:Nat) (zEM:List (List V)) (zEN:Int) (k:KK β):xB zhP (zhR L) L zfe [(V.ptr 0 0)] [(.live false [(V.sl 1 zEM),(V.sc (.int .i64 zEN))])] k=zfX L zEM zEN (fun p0 zEM zEN=>k (V.sc (.bool p0)) [(.live false [(V.sl 1 zEM),(V.sc (.int .i64 zEN))])]):=by kernel_rfl
abbrev zf4:=∀ (β:Type),Nat→List (List V)→Int→(Bool→List (List V)→Int→Option β)→Option β
def xJ (β:Type) (L:Nat) (zEM:List (List V)) (zEN:Int) (k_fin:Bool→List (List V)→Int→Option β):Option β:=zfX L zEM zEN k_fin
def zfN (xJ:zf4) (L:Nat) (β:Type) (args:List V) (bor:Bor) (k:KK β):Option β:=match args,bor with
 | [a0],[(.live false [w0_0,w0_1])]=>aP 0 0 a0 (aL 1 w0_0 fun zEM=>aI .i64 w0_1 fun zEN=>xJ β L zEM zEN (fun p0 zEM zEN=>k (V.sc (.bool p0)) [(.live false [(V.sl 1 zEM),(V.sc (.int .i64 zEN))])]))
 | _,_=>none
theorem zp5 (L:Nat) (β:Type) (args:List V) (bor:Bor) (k:KK β) (r:β) (h:zfN xJ L β args bor k=some r):xB zhP (zhR L) L zfe args bor k=some r:=by
 unfold zfN at h
 split at h
 ·have q:=zuf h; clear h; obtain ⟨rfl,h⟩:=q
  have q:=y8 h; clear h; obtain ⟨zEM,rfl,h⟩:=q
  have q:=zaq h; clear h; obtain ⟨zEN,rfl,h⟩:=q
  exact (zpY L zEM zEN k).trans h
 ·cases h
def zkD:CF:=⟨15,[.tmp 4],
 (.seq (.reg [oo 4 (.move (.const (.sc (.int .i64 0))) false)])
 (.seq (.reg [oo 6 (.move (tq 0) false),
   oo 7 (.move (tq 1) false),
   oo 8 (.bin .rem (tq 6) (tq 7)),
   oo 5 (.move (tq 8) false)])
 (.seq (.seq (.reg [oo 9 (.move (tq 5) false),
   oo 10 (.bin .lss (tq 9) (.const (.sc (.int .i64 0))))])
 (.cond (tq 10)
 (.reg [oo 11 (.move (tq 5) false),
   oo 12 (.move (tq 1) false),
   oo 13 (.bin .add (tq 11) (tq 12)),
   oo 5 (.move (tq 13) false)])
 .skip))
 (.seq (.reg [oo 14 (.move (tq 5) false),
   oo 4 (.move (tq 14) false)])
 .ret))))⟩
def zpK:Hint:=⟨[],[],[none,none],[],[],false,false⟩
def zny:Nat→Sh:=xT []
def znP (L:Nat):CBC:=noC
def zlV {β:Type} (L:Nat) (p0 p1:Int) (k_fin:Int→Option β):Option β :=
 chk (p1≠0) (
 lt (Int.tmod p0 p1) fun x0 =>
 ifb (decide (x0 < (0:Int))) (
 lt (IntKind.wrap .i64 ((x0:Int)+p1)) fun x1 =>
 k_fin x1) (
 k_fin x0))
theorem zwj {β:Type} (L:Nat) (p0 p1:Int) (k:KK β):xB zny (znP L) L zkD [(V.sc (.int .i64 p0)),(V.sc (.int .i64 p1))] [] k=zlV L p0 p1 (fun p0=>k (V.sc (.int .i64 p0)) []):=by kernel_rfl
abbrev xk:=∀ (β:Type),Nat→Int→Int→(Int→Option β)→Option β
def yd (β:Type) (L:Nat) (p0 p1:Int) (k_fin:Int→Option β):Option β:=zlV L p0 p1 k_fin
def zhe (yd:xk) (L:Nat) (β:Type) (args:List V) (bor:Bor) (k:KK β):Option β:=match args,bor with
 | [a0,a1],[]=>aI .i64 a0 fun p0=>aI .i64 a1 fun p1=>yd β L p0 p1 (fun p0=>k (V.sc (.int .i64 p0)) [])
 | _,_=>none
theorem zvX (L:Nat) (β:Type) (args:List V) (bor:Bor) (k:KK β) (r:β) (h:zhe yd L β args bor k=some r):xB zny (znP L) L zkD args bor k=some r:=by
 unfold zhe at h
 split at h
 ·have q:=zaq h; clear h; obtain ⟨p0,rfl,h⟩:=q
  have q:=zaq h; clear h; obtain ⟨p1,rfl,h⟩:=q
  exact (zwj L p0 p1 k).trans h
 ·cases h
def zfn:CF:=⟨28,[.tmp 4],
 (.seq (.reg [oo 4 (.move (.const (.sc (.int .i64 0))) false)])
 (.seq (.seq (.reg [oo 5 (.move (tq 0) false),
   oo 6 (.call 247 [((tq 5),0)] []),
   oo 7 (.un .not (tq 6))])
 (.cond (tq 7)
 (.seq (.reg [oo 4 (.move (.const (.sc (.int .i64 0))) false)])
 .ret)
 .skip))
 (.seq (.reg [oo 8 (.move (tq 0) false),
   oo 9 (.nilCheck (tq 8)),
   oo 10 (.fieldAddr 1 (tq 9)),
   oo 11 (.load false 1 (tq 10) false),
   oo 12 (.bin .add (tq 11) (.const (.sc (.int .i64 1)))),
   oo 13 (.nilCheck (tq 8)),
   oo 14 (.fieldAddr 1 (tq 13)),
   oz (.store 1 (tq 14) (tq 12))])
 (.seq (.dreg [] [(oo 15 (.move (tq 0) false),q0),
   (oo 16 (.nilCheck (tq 15)),q0),
   (oo 17 (.fieldAddr 0 (tq 16)),q0),
   (oo 18 (.load false 1 (tq 17) false),ql 0 [] []),
   (oo 19 (.move (tq 0) false),q0),
   (oo 20 (.nilCheck (tq 19)),q0),
   (oo 21 (.fieldAddr 1 (tq 20)),q0),
   (oo 22 (.load false 1 (tq 21) false),ql 0 [] []),
   (oo 23 (.bin .sub (tq 22) (.const (.sc (.int .i64 1)))),q0),
   (oo 24 (.indexAddrS 1 (tq 18) (tq 23)),q0),
   (oo 25 (.load false 1 (tq 24) false),q0),
   (oo 26 (.move (tq 1) false),q0),
   (oo 27 (.call 217 [((tq 25),0),((tq 26),0)] []),q0),
   (oo 4 (.move (tq 27) false),q0)])
 .ret))))⟩
def zjT:Hint:=⟨[],[],[none,none,none],[],[],false,false⟩
def zhK:Nat→Sh:=xT [(25,(.int .i64))]
def zhH (xJ:zf4) (yd:xk) (L:Nat):CBC:=(zD 217 (zhe yd L) (zD 247 (zfN xJ L) noC))
def zfS {β:Type} (xJ:zf4) (yd:xk) (L:Nat) (p1:Int) (zEM:List (List V)) (zEN:Int) (k_fin:Int→List (List V)→Int→Option β):Option β :=
 xJ β L zEM zEN (fun v0 v1 v2 =>
 ifb (!v0) (
 k_fin (0:Int) v1 v2) (
 lt (IntKind.wrap .i64 ((v2:Int)+(1:Int))) fun x3 =>
 lt (IntKind.wrap .i64 ((x3:Int) - (1:Int))) fun x4 =>
 idx v1 x4 fun c5 =>
 cI .i64 c5 0 fun v6 =>
 yd β L v6 p1 (fun v7 =>
 k_fin v7 v1 x3)))
theorem zp3 {β:Type} (xJ:zf4) (yd:xk) (L:Nat) (p1:Int) (zEM:List (List V)) (zEN:Int) (k:KK β):xB zhK (zhH xJ yd L) L zfn [(V.ptr 0 0),(V.sc (.int .i64 p1))] [(.live false [(V.sl 1 zEM),(V.sc (.int .i64 zEN))])] k=zfS xJ yd L p1 zEM zEN (fun p0 zEM zEN=>k (V.sc (.int .i64 p0)) [(.live false [(V.sl 1 zEM),(V.sc (.int .i64 zEN))])]):=by kernel_rfl
abbrev ye:=∀ (β:Type),Nat→Int→List (List V)→Int→(Int→List (List V)→Int→Option β)→Option β
def za (β:Type) (L:Nat) (p1:Int) (zEM:List (List V)) (zEN:Int) (k_fin:Int→List (List V)→Int→Option β):Option β:=zfS xJ yd L p1 zEM zEN k_fin
def zcl (za:ye) (L:Nat) (β:Type) (args:List V) (bor:Bor) (k:KK β):Option β:=match args,bor with
 | [a0,a1],[(.live false [w0_0,w0_1])]=>aP 0 0 a0 (aI .i64 a1 fun p1=>aL 1 w0_0 fun zEM=>aI .i64 w0_1 fun zEN=>za β L p1 zEM zEN (fun p0 zEM zEN=>k (V.sc (.int .i64 p0)) [(.live false [(V.sl 1 zEM),(V.sc (.int .i64 zEN))])]))
 | _,_=>none
theorem zp9 (L:Nat) (β:Type) (args:List V) (bor:Bor) (k:KK β) (r:β) (h:zcl za L β args bor k=some r):xB zhK (zhH xJ yd L) L zfn args bor k=some r:=by
 unfold zcl at h
 split at h
 ·have q:=zuf h; clear h; obtain ⟨rfl,h⟩:=q
  have q:=zaq h; clear h; obtain ⟨p1,rfl,h⟩:=q
  have q:=y8 h; clear h; obtain ⟨zEM,rfl,h⟩:=q
  have q:=zaq h; clear h; obtain ⟨zEN,rfl,h⟩:=q
  exact (zp3 xJ yd L p1 zEM zEN k).trans h
 ·cases h
def zeV:CF:=⟨15,[.tmp 6],
 (.seq (.reg [oo 6 (.move (.const (.sc (.int .i64 0))) false)])
 (.seq (.reg [oo 7 (.move (tq 1) false),
   oo 8 (.move (tq 0) false),
   oo 9 (.move (tq 2) false),
   oo 10 (.move (tq 1) false),
   oo 11 (.bin .sub (tq 9) (tq 10)),
   oo 12 (.bin .add (tq 11) (.const (.sc (.int .i64 1)))),
   oo 13 (.call 231 [((tq 8),0),((tq 12),0)] []),
   oo 14 (.bin .add (tq 7) (tq 13)),
   oo 6 (.move (tq 14) false)])
 .ret))⟩
def zjx:Hint:=⟨[],[],[none],[],[],false,false⟩
def zhb:Nat→Sh:=xT []
def zgL (za:ye) (L:Nat):CBC:=(zD 231 (zcl za L) noC)
def zhI {β:Type} (za:ye) (L:Nat) (p1 p2:Int) (zEM:List (List V)) (zEN:Int) (k_fin:Int→List (List V)→Int→Option β):Option β :=
 lt (IntKind.wrap .i64 ((p2:Int) - p1)) fun x0 =>
 lt (IntKind.wrap .i64 ((x0:Int)+(1:Int))) fun x1 =>
 za β L x1 zEM zEN (fun v2 v3 v4 =>
 lt (IntKind.wrap .i64 ((p1:Int)+v2)) fun x5 =>
 k_fin x5 v3 v4)
theorem zpk {β:Type} (za:ye) (L:Nat) (p1 p2:Int) (zEM:List (List V)) (zEN:Int) (k:KK β):xB zhb (zgL za L) L zeV [(V.ptr 0 0),(V.sc (.int .i64 p1)),(V.sc (.int .i64 p2))] [(.live false [(V.sl 1 zEM),(V.sc (.int .i64 zEN))])] k=zhI za L p1 p2 zEM zEN (fun p0 zEM zEN=>k (V.sc (.int .i64 p0)) [(.live false [(V.sl 1 zEM),(V.sc (.int .i64 zEN))])]):=by kernel_rfl
abbrev zV:=∀ (β:Type),Nat→Int→Int→List (List V)→Int→(Int→List (List V)→Int→Option β)→Option β
def xj (β:Type) (L:Nat) (p1 p2:Int) (zEM:List (List V)) (zEN:Int) (k_fin:Int→List (List V)→Int→Option β):Option β:=zhI za L p1 p2 zEM zEN k_fin
def zfh (xj:zV) (L:Nat) (β:Type) (args:List V) (bor:Bor) (k:KK β):Option β:=match args,bor with
 | [a0,a1,a2],[(.live false [w0_0,w0_1])]=>aP 0 0 a0 (aI .i64 a1 fun p1=>aI .i64 a2 fun p2=>aL 1 w0_0 fun zEM=>aI .i64 w0_1 fun zEN=>xj β L p1 p2 zEM zEN (fun p0 zEM zEN=>k (V.sc (.int .i64 p0)) [(.live false [(V.sl 1 zEM),(V.sc (.int .i64 zEN))])]))
 | _,_=>none
theorem zo6 (L:Nat) (β:Type) (args:List V) (bor:Bor) (k:KK β) (r:β) (h:zfh xj L β args bor k=some r):xB zhb (zgL za L) L zeV args bor k=some r:=by
 unfold zfh at h
 split at h
 ·have q:=zuf h; clear h; obtain ⟨rfl,h⟩:=q
  have q:=zaq h; clear h; obtain ⟨p1,rfl,h⟩:=q
  have q:=zaq h; clear h; obtain ⟨p2,rfl,h⟩:=q
  have q:=y8 h; clear h; obtain ⟨zEM,rfl,h⟩:=q
  have q:=zaq h; clear h; obtain ⟨zEN,rfl,h⟩:=q
  exact (zpk za L p1 p2 zEM zEN k).trans h
 ·cases h
def zc1:CC:=(.seq (.seq (.reg [oo 12 (.move (tq 4) false),
   oo 13 (.bin .gtr (tq 12) (.const (.sc (.int .i64 0))))])
 (.cond (tq 13)
 .skip
 (.seq (.mask (bl 12 25) (bl 26738671 25))
 (.exit 0))))
 (.seq (.block 1 (.dreg [] [(oo 16 (.fieldAddr 2 (tq 3)),q0),
   (oo 17 (.load false 1 (tq 16) true),ql 3 [] [21]),
   (oo 18 (.move (tq 0) false),q0),
   (oo 19 (.call 231 [((tq 18),0),((.const (.sc (.int .i64 256))),0)] []),qc [3] []),
   (oo 20 (.conv .u8 (tq 19)),q0),
   (oo 21 (.buildSlice 1 1 [(.sc (.int .u8 0))] [(0,1,(tq 20))]),qn [3] []),
   (oo 22 (.append 1 1 (tq 17) (tq 21)),q0),
   (oo 23 (.fieldAddr 2 (tq 3)),q0),
   (oz (.store 1 (tq 23) (tq 22)),q0)]))
 (.reg [oo 14 (.move (tq 4) false),
   oo 15 (.bin .sub (tq 14) (.const (.sc (.int .i64 1)))),
   oo 4 (.move (tq 15) false)])))
def zil:CC:=(.seq (.reg [oo 24 (.load true 3 (tq 3) false),
   oz (.store 3 (tq 2) (tq 24))])
 .ret)
def zc4:CF:=⟨25,[.cell 2 true 3],
 (.seq (.reg [oo 2 (.alloc true [(.sc (.int .i64 0)),(.sc (.int .i64 0)),(.gs 1 [])])])
 (.seq (.reg [oo 5 (.move (tq 0) false),
   oo 6 (.call 274 [((tq 5),0),((.const (.sc (.int .i64 1))),0),((.const (.sc (.int .i64 5))),0)] []),
   oo 7 (.move (tq 0) false),
   oo 8 (.call 231 [((tq 7),0),((.const (.sc (.int .i64 9))),0)] []),
   oo 9 (.buildSt [(.sc (.int .i64 0)),(.sc (.int .i64 0)),(.gs 1 [])] [(0,1,(tq 6)),(1,1,(tq 8))]),
   oo 3 (.alloc false [(.sc (.int .i64 0)),(.sc (.int .i64 0)),(.gs 1 [])]),
   oz (.store 3 (tq 3) (tq 9))])
 (.seq (.seq (.reg [oo 10 (.move (tq 0) false),
   oo 11 (.call 231 [((tq 10),0),((.const (.sc (.int .i64 12))),0)] []),
   oo 4 (.move (tq 11) false)])
 (.block 0 (.loop (bl 29 25) (bl 26738687 25)
 zc1)))
 zil)))⟩
def zmm:Hint:=⟨[(0,0),(1,4),(5,1)],[],[none,some ((bl 29 25),(bl 26738687 25)),none,some ((bl 12 25),(bl 26738671 25)),none,none],[],[],false,false⟩
def zbk:Nat→Sh:=xT []
def zbn (xj:zV) (za:ye) (L:Nat):CBC:=(zD 231 (zcl za L) (zD 274 (zfh xj L) noC))
def zeG:St→St:=xY 1 (bl 29 25) (bl 26738687 25)
def zdC (p4:Int) (zEM:List (List V)) (zEN zE4 zE5:Int) (zE6:List (List V)) (zEK zEL:Int) (zEJ:List (List V)):St:=⟨((V.ptr 0 0)::(jn 1 ((V.ptr 3 0)::((V.ptr 4 0)::((V.sc (.int .i64 p4))::(jn 20 [])))))),((.live false [(V.sl 1 zEM),(V.sc (.int .i64 zEN))])::(gn 2 ((.live true [(V.sc (.int .i64 zE4)),(V.sc (.int .i64 zE5)),(V.gs 1 zE6)])::((.live false [(V.sc (.int .i64 zEK)),(V.sc (.int .i64 zEL)),(V.gs 1 zEJ)])::(gn 21 [])))))⟩
def zhF (zEM:List (List V)) (zEN zE4 zE5:Int) (zE6:List (List V)) (zEK zEL:Int) (zEJ:List (List V)):St:=⟨(jn 2 ((V.ptr 3 0)::((V.ptr 4 0)::(jn 21 [])))),((.live false [(V.sl 1 zEM),(V.sc (.int .i64 zEN))])::(gn 2 ((.live true [(V.sc (.int .i64 zE4)),(V.sc (.int .i64 zE5)),(V.gs 1 zE6)])::((.live false [(V.sc (.int .i64 zEK)),(V.sc (.int .i64 zEL)),(V.gs 1 zEJ)])::(gn 21 [])))))⟩
abbrev zjY (β:Type):Type:=Int→List (List V)→Int→Int→Int→List (List V)→Int→Int→List (List V)→Option β
abbrev zjo (β:Type):Type:=List (List V)→Int→Int→Int→List (List V)→Int→Int→List (List V)→Option β
def zla {β:Type} (xj:zV) (za:ye) (L:Nat) (zEM:List (List V)) (zEN:Int) (k_hbbaba:zjY β):Option β :=
 xj β L (1:Int) (5:Int) zEM zEN (fun v0 v1 v2 =>
 za β L (9:Int) v1 v2 (fun v3 v4 v5 =>
 za β L (12:Int) v4 v5 (fun v6 v7 v8 =>
 k_hbbaba v6 v7 v8 (0:Int) (0:Int) ([]:List (List V)) v0 v3 ([]:List (List V)))))
theorem zsY {β:Type} (xj:zV) (za:ye) (L:Nat) (zEM:List (List V)) (zEN:Int) (k:KK β):xB zbk (zbn xj za L) L zc4 [(V.ptr 0 0)] [(.live false [(V.sl 1 zEM),(V.sc (.int .i64 zEN))])] k=zla xj za L zEM zEN (fun p4 zEM zEN zE4 zE5 zE6 zEK zEL zEJ=>xA (yn zbk (zbn xj za L) 1 L zc1) zeG L (zdC p4 zEM zEN zE4 zE5 zE6 zEK zEL zEJ) (yA 0 (yQ (yn zbk (zbn xj za L) 1 L zil) (xS 1 (CF.res zc4) k)))):=by kernel_rfl
def zeT {β:Type} (xj:zV) (za:ye) (L:Nat) (p4:Int) (zEM:List (List V)) (zEN zE4 zE5:Int) (zE6:List (List V)) (zEK zEL:Int) (zEJ:List (List V)) (k_hbbaba:zjY β) (k_x0:zjo β):Option β :=
 ifb (decide (p4 > (0:Int))) (
 za β L (256:Int) zEM zEN (fun v9 v10 v11 =>
 lt (IntKind.wrap .u8 v9) fun x12 =>
 chk ((List.length zEJ+List.length (xh 1 1 [(V.sc (.int .u8 x12))])) * 1≤yj∧List.length zEJ+List.length (xh 1 1 [(V.sc (.int .u8 x12))])≤yj) (
 lt (zEJ++(xh 1 1 [(V.sc (.int .u8 x12))])) fun l13 =>
 lt (IntKind.wrap .i64 ((p4:Int) - (1:Int))) fun x14 =>
 k_hbbaba x14 v10 v11 zE4 zE5 zE6 zEK zEL l13))) (
 k_x0 zEM zEN zE4 zE5 zE6 zEK zEL zEJ)
theorem zoC {β:Type} (xj:zV) (za:ye) (L:Nat) (p4:Int) (zEM:List (List V)) (zEN zE4 zE5:Int) (zE6:List (List V)) (zEK zEL:Int) (zEJ:List (List V)) (X:St→Option β) (K:KT β):yn zbk (zbn xj za L) 1 L zc1 (zdC p4 zEM zEN zE4 zE5 zE6 zEK zEL zEJ) (zbF zeG X K)=zeT xj za L p4 zEM zEN zE4 zE5 zE6 zEK zEL zEJ (fun p4 zEM zEN zE4 zE5 zE6 zEK zEL zEJ=>X (zdC p4 zEM zEN zE4 zE5 zE6 zEK zEL zEJ)) (fun zEM zEN zE4 zE5 zE6 zEK zEL zEJ=>K (.exit 0) (zhF zEM zEN zE4 zE5 zE6 zEK zEL zEJ)):=by kernel_rfl
def zfR {β:Type} (xj:zV) (za:ye) (L:Nat) (zEM:List (List V)) (zEN zE4 zE5:Int) (zE6:List (List V)) (zEK zEL:Int) (zEJ:List (List V)) (k_fin:List V→List (List V)→Int→Option β):Option β :=
 lt [(V.sc (.int .i64 zEK)),(V.sc (.int .i64 zEL)),(V.sl 1 zEJ)] fun r15 =>
 chk (0=0∧(List.length r15)=3∧3≠0) (
 k_fin r15 zEM zEN)
theorem zmP {β:Type} (xj:zV) (za:ye) (L:Nat) (zEM:List (List V)) (zEN zE4 zE5:Int) (zE6:List (List V)) (zEK zEL:Int) (zEJ:List (List V)) (k:KK β):(yA 0 (yQ (yn zbk (zbn xj za L) 1 L zil) (xS 1 (CF.res zc4) k))) (.exit 0) (zhF zEM zEN zE4 zE5 zE6 zEK zEL zEJ)=zfR xj za L zEM zEN zE4 zE5 zE6 zEK zEL zEJ (fun p0 zEM zEN=>k (V.agg p0) [(.live false [(V.sl 1 zEM),(V.sc (.int .i64 zEN))])]):=by kernel_rfl
def zcq {β:Type} (xj:zV) (za:ye) (L:Nat) (k_x0:zjo β):Nat→Int→List (List V)→Int→Int→Int→List (List V)→Int→Int→List (List V)→Option β
 | 0,_,_,_,_,_,_,_,_,_=>none
 | n+1,p4,zEM,zEN,zE4,zE5,zE6,zEK,zEL,zEJ=>zeT xj za L p4 zEM zEN zE4 zE5 zE6 zEK zEL zEJ (fun p4 zEM zEN zE4 zE5 zE6 zEK zEL zEJ=>zcq xj za L k_x0 n p4 zEM zEN zE4 zE5 zE6 zEK zEL zEJ) k_x0
theorem ziG {β:Type} (xj:zV) (za:ye) (L:Nat) (K:KT β):∀ (n:Nat) (p4:Int) (zEM:List (List V)) (zEN zE4 zE5:Int) (zE6:List (List V)) (zEK zEL:Int) (zEJ:List (List V)),xA (yn zbk (zbn xj za L) 1 L zc1) zeG n (zdC p4 zEM zEN zE4 zE5 zE6 zEK zEL zEJ) K=zcq xj za L (fun zEM zEN zE4 zE5 zE6 zEK zEL zEJ=>K (.exit 0) (zhF zEM zEN zE4 zE5 zE6 zEK zEL zEJ)) n p4 zEM zEN zE4 zE5 zE6 zEK zEL zEJ:=by
 intro n
 induction n with
 | zero=>intros; rfl
 | succ n ih =>
  intro p4 zEM zEN zE4 zE5 zE6 zEK zEL zEJ
  refine (zoC xj za L p4 zEM zEN zE4 zE5 zE6 zEK zEL zEJ (fun σ=>xA (yn zbk (zbn xj za L) 1 L zc1) zeG n σ K) K).trans ?_
  simp only [ih]
  rfl
def zik {β:Type} (xj:zV) (za:ye) (L:Nat) (zEM:List (List V)) (zEN:Int) (k_fin:List V→List (List V)→Int→Option β):Option β :=
 zla xj za L zEM zEN (fun p4 zEM zEN zE4 zE5 zE6 zEK zEL zEJ=>zcq xj za L (fun zEM zEN zE4 zE5 zE6 zEK zEL zEJ=>zfR xj za L zEM zEN zE4 zE5 zE6 zEK zEL zEJ k_fin) L p4 zEM zEN zE4 zE5 zE6 zEK zEL zEJ)
theorem zsU {β:Type} (xj:zV) (za:ye) (L:Nat) (zEM:List (List V)) (zEN:Int) (k:KK β):xB zbk (zbn xj za L) L zc4 [(V.ptr 0 0)] [(.live false [(V.sl 1 zEM),(V.sc (.int .i64 zEN))])] k=zik xj za L zEM zEN (fun p0 zEM zEN=>k (V.agg p0) [(.live false [(V.sl 1 zEM),(V.sc (.int .i64 zEN))])]):=by
 refine (zsY xj za L zEM zEN k).trans ?_
 unfold zik
 first
  | (simp only [ziG,zmP]; done)
  | (simp only [ziG]; rfl)
abbrev xg:=∀ (β:Type),Nat→List (List V)→Int→(List V→List (List V)→Int→Option β)→Option β
def yb (β:Type) (L:Nat) (zEM:List (List V)) (zEN:Int) (k_fin:List V→List (List V)→Int→Option β):Option β:=zik xj za L zEM zEN k_fin
def zeE (yb:xg) (L:Nat) (β:Type) (args:List V) (bor:Bor) (k:KK β):Option β:=match args,bor with
 | [a0],[(.live false [w0_0,w0_1])]=>aP 0 0 a0 (aL 1 w0_0 fun zEM=>aI .i64 w0_1 fun zEN=>yb β L zEM zEN (fun p0 zEM zEN=>k (V.agg p0) [(.live false [(V.sl 1 zEM),(V.sc (.int .i64 zEN))])]))
 | _,_=>none
theorem zsw (L:Nat) (β:Type) (args:List V) (bor:Bor) (k:KK β) (r:β) (h:zeE yb L β args bor k=some r):xB zbk (zbn xj za L) L zc4 args bor k=some r:=by
 unfold zeE at h
 split at h
 ·have q:=zuf h; clear h; obtain ⟨rfl,h⟩:=q
  have q:=y8 h; clear h; obtain ⟨zEM,rfl,h⟩:=q
  have q:=zaq h; clear h; obtain ⟨zEN,rfl,h⟩:=q
  exact (zsU xj za L zEM zEN k).trans h
 ·cases h
def zoc:CF:=⟨27,[.tmp 2],
 (.seq (.reg [oo 1 (.box true (tq 0)),
   oo 2 (.move (.const (.sc (.bool false))) false)])
 (.seq (.reg [oo 3 (.fieldAddr 0 (tq 1)),
   oo 4 (.load false 1 (tq 3) false),
   oo 5 (.bin .geq (tq 4) (.const (.sc (.int .i64 1)))),
   oo 6 (.move (tq 5) false),
   ⟨(some 7),false,(some (6,true)),.fieldAddr 0 (tq 1)⟩,
   ⟨(some 8),false,(some (6,true)),.load false 1 (tq 7) false⟩,
   ⟨(some 9),false,(some (6,true)),.bin .leq (tq 8) (.const (.sc (.int .i64 5)))⟩,
   oo 10 (.pick (tq 6) (tq 9) (.const (.sc (.bool false)))),
   oo 11 (.move (tq 10) false),
   ⟨(some 12),false,(some (11,true)),.fieldAddr 1 (tq 1)⟩,
   ⟨(some 13),false,(some (11,true)),.load false 1 (tq 12) false⟩,
   ⟨(some 14),false,(some (11,true)),.bin .geq (tq 13) (.const (.sc (.int .i64 0)))⟩,
   oo 15 (.pick (tq 11) (tq 14) (.const (.sc (.bool false)))),
   oo 16 (.move (tq 15) false),
   ⟨(some 17),false,(some (16,true)),.fieldAddr 1 (tq 1)⟩,
   ⟨(some 18),false,(some (16,true)),.load false 1 (tq 17) false⟩,
   ⟨(some 19),false,(some (16,true)),.bin .leq (tq 18) (.const (.sc (.int .i64 16777216)))⟩,
   oo 20 (.pick (tq 16) (tq 19) (.const (.sc (.bool false)))),
   oo 21 (.move (tq 20) false),
   ⟨(some 22),false,(some (21,true)),.fieldAddr 2 (tq 1)⟩,
   ⟨(some 23),false,(some (21,true)),.load false 1 (tq 22) false⟩,
   ⟨(some 24),false,(some (21,true)),.lenS (tq 23)⟩,
   ⟨(some 25),false,(some (21,true)),.bin .leq (tq 24) (.const (.sc (.int .i64 4096)))⟩,
   oo 26 (.pick (tq 21) (tq 25) (.const (.sc (.bool false)))),
   oo 2 (.move (tq 26) false)])
 .ret))⟩
def zml:Hint:=⟨[(0,0)],[],[none],[],[],false,false⟩
def zCl:Nat→Sh:=xT [(4,(.int .i64)),(8,(.int .i64)),(13,(.int .i64)),(18,(.int .i64)),(23,(.sl 1))]
def zCJ (L:Nat):CBC:=noC
def zvV {β:Type} (L:Nat) (p0:List V) (k_fin:Bool→Option β):Option β :=
 cI .i64 p0 0 fun v0 =>
 ifb (decide (v0 ≥ (1:Int))) (
 cI .i64 p0 0 fun v1 =>
 ifb (decide (v1≤(5:Int))) (
 cI .i64 p0 1 fun v2 =>
 ifb (decide (v2 ≥ (0:Int))) (
 cI .i64 p0 1 fun v3 =>
 ifb (decide (v3≤(16777216:Int))) (
 cLd 1 p0 2 fun v4 =>
 k_fin (decide (((List.length v4:Nat):Int)≤(4096:Int)))) (
 k_fin false)) (
 k_fin false)) (
 k_fin false)) (
 k_fin false)
abbrev zf5:=∀ (β:Type),Nat→List V→(Bool→Option β)→Option β
def zaP (β:Type) (L:Nat) (p0:List V) (k_fin:Bool→Option β):Option β:=zvV L p0 k_fin
def zpM (zaP:zf5) (L:Nat) (β:Type) (args:List V) (bor:Bor) (k:KK β):Option β:=match args,bor with
 | [a0],[]=>aG a0 fun p0=>zaP β L p0 (fun p0=>k (V.sc (.bool p0)) [])
 | _,_=>none
def zn6:CC:=(.seq (.seq (.reg [oo 27 (.move (tq 10) false),
   oo 28 (.bin .geq (tq 27) (.const (.sc (.int .i64 0))))])
 (.cond (tq 28)
 .skip
 (.seq (.mask (bl 518 45) (bl 35184372087807 45))
 (.exit 0))))
 (.seq (.block 1 (.reg [oo 31 (.move (tq 9) false),
   oo 32 (.bin .shl (tq 31) (.const (.sc (.int .u64 8)))),
   oo 33 (.move (tq 0) false),
   oo 34 (.move (tq 1) false),
   oo 35 (.move (tq 10) false),
   oo 36 (.bin .add (tq 34) (tq 35)),
   oo 37 (.indexAddrS 1 (tq 33) (tq 36)),
   oo 38 (.load false 1 (tq 37) false),
   oo 39 (.conv .u64 (tq 38)),
   oo 40 (.bin .or (tq 32) (tq 39)),
   oo 9 (.move (tq 40) false)]))
 (.reg [oo 29 (.move (tq 10) false),
   oo 30 (.bin .sub (tq 29) (.const (.sc (.int .i64 1)))),
   oo 10 (.move (tq 30) false)])))
def zp0:CC:=(.seq (.reg [oo 41 (.move (tq 9) false),
   oo 42 (.move (tq 1) false),
   oo 43 (.move (tq 2) false),
   oo 44 (.bin .add (tq 42) (tq 43)),
   oo 6 (.move (tq 41) false),
   oo 7 (.move (tq 44) false),
   oo 8 (.move (.const (.sc (.int .i64 0))) false)])
 .ret)
def zm8:CF:=⟨45,[.tmp 6,.tmp 7,.tmp 8],
 (.seq (.reg [oo 6 (.move (.const (.sc (.int .u64 0))) false),
   oo 7 (.move (.const (.sc (.int .i64 0))) false),
   oo 8 (.move (.const (.sc (.int .i64 0))) false)])
 (.seq (.seq (.reg [oo 11 (.move (tq 1) false),
   oo 12 (.bin .lss (tq 11) (.const (.sc (.int .i64 0)))),
   oo 13 (.move (tq 12) false),
   ⟨(some 14),false,(some (13,false)),.move (tq 1) false⟩,
   ⟨(some 15),false,(some (13,false)),.move (tq 0) false⟩,
   ⟨(some 16),false,(some (13,false)),.lenS (tq 15)⟩,
   ⟨(some 17),false,(some (13,false)),.bin .gtr (tq 14) (tq 16)⟩,
   oo 18 (.pick (tq 13) (.const (.sc (.bool true))) (tq 17))])
 (.cond (tq 18)
 (.seq (.reg [oo 6 (.move (.const (.sc (.int .u64 0))) false),
   oo 7 (.move (.const (.sc (.int .i64 0))) false),
   oo 8 (.move (.const (.sc (.int .i64 5))) false)])
 .ret)
 .skip))
 (.seq (.seq (.reg [oo 19 (.move (tq 0) false),
   oo 20 (.lenS (tq 19)),
   oo 21 (.move (tq 1) false),
   oo 22 (.bin .sub (tq 20) (tq 21)),
   oo 23 (.move (tq 2) false),
   oo 24 (.bin .lss (tq 22) (tq 23))])
 (.cond (tq 24)
 (.seq (.reg [oo 6 (.move (.const (.sc (.int .u64 0))) false),
   oo 7 (.move (.const (.sc (.int .i64 0))) false),
   oo 8 (.move (.const (.sc (.int .i64 1))) false)])
 .ret)
 .skip))
 (.seq (.reg [oo 9 (.move (.const (.sc (.int .u64 0))) false)])
 (.seq (.seq (.reg [oo 25 (.move (tq 2) false),
   oo 26 (.bin .sub (tq 25) (.const (.sc (.int .i64 1)))),
   oo 10 (.move (tq 26) false)])
 (.block 0 (.loop (bl 1543 45) (bl 35184372088831 45)
 zn6)))
 zp0)))))⟩
def zlu:Hint:=⟨[],[],[none,none,none,none,none,some ((bl 1543 45),(bl 35184372088831 45)),none,some ((bl 518 45),(bl 35184372087807 45)),none,none],[],[],false,false⟩
def zB1:Nat→Sh:=xT [(38,(.int .u8))]
def zCc (L:Nat):CBC:=noC
def zyZ:St→St:=xY 0 (bl 1543 45) (bl 35184372088831 45)
def zxi (p0:List (List V)) (p1 p2 p9 p10:Int):St:=⟨((V.sl 1 p0)::((V.sc (.int .i64 p1))::((V.sc (.int .i64 p2))::(jn 6 ((V.sc (.int .u64 p9))::((V.sc (.int .i64 p10))::(jn 34 []))))))),(gn 45 [])⟩
def zAS (p1 p2 p9:Int):St:=⟨(jn 1 ((V.sc (.int .i64 p1))::((V.sc (.int .i64 p2))::(jn 6 ((V.sc (.int .u64 p9))::(jn 35 [])))))),(gn 45 [])⟩
def zuO {β:Type} (L:Nat) (p0:List (List V)) (p1 p2:Int) (k_fin:Int→Int→Int→Option β) (k_hbbbbaba:List (List V)→Int→Int→Int→Int→Option β):Option β :=
 ifb (decide (p1 < (0:Int))) (
 k_fin (0:Int) (0:Int) (5:Int)) (
 ifb (decide (p1 > ((List.length p0:Nat):Int))) (
 k_fin (0:Int) (0:Int) (5:Int)) (
 lt (IntKind.wrap .i64 ((((List.length p0:Nat):Int):Int) - p1)) fun x0 =>
 ifb (decide (x0 < p2)) (
 k_fin (0:Int) (0:Int) (1:Int)) (
 lt (IntKind.wrap .i64 ((p2:Int) - (1:Int))) fun x1 =>
 k_hbbbbaba p0 p1 p2 (0:Int) x1)))
def zox {β:Type} (L:Nat) (p0:List (List V)) (p1 p2 p9 p10:Int) (k_hbbbbaba:List (List V)→Int→Int→Int→Int→Option β) (k_x0:Int→Int→Int→Option β):Option β :=
 ifb (decide (p10 ≥ (0:Int))) (
 lt (zdo .u64 p9 (8:Int)) fun x2 =>
 lt (IntKind.wrap .i64 ((p1:Int)+p10)) fun x3 =>
 idx p0 x3 fun c4 =>
 cI .u8 c4 0 fun v5 =>
 lt (IntKind.wrap .u64 v5) fun x6 =>
 lt (ior .u64 x2 x6) fun x7 =>
 lt (IntKind.wrap .i64 ((p10:Int) - (1:Int))) fun x8 =>
 k_hbbbbaba p0 p1 p2 x7 x8) (
 k_x0 p1 p2 p9)
def zmY {β:Type} (L:Nat) (p1 p2 p9:Int) (k_fin:Int→Int→Int→Option β):Option β :=
 lt (IntKind.wrap .i64 ((p1:Int)+p2)) fun x9 =>
 k_fin p9 x9 (0:Int)
def ziJ {β:Type} (L:Nat) (k_x0:Int→Int→Int→Option β):Nat→List (List V)→Int→Int→Int→Int→Option β
 | 0,_,_,_,_,_=>none
 | n+1,p0,p1,p2,p9,p10=>zox L p0 p1 p2 p9 p10 (fun p0 p1 p2 p9 p10=>ziJ L k_x0 n p0 p1 p2 p9 p10) k_x0
def zur {β:Type} (L:Nat) (p0:List (List V)) (p1 p2:Int) (k_fin:Int→Int→Int→Option β):Option β :=
 zuO L p0 p1 p2 k_fin (fun p0 p1 p2 p9 p10=>ziJ L (fun p1 p2 p9=>zmY L p1 p2 p9 k_fin) L p0 p1 p2 p9 p10)
abbrev zj1:=∀ (β:Type),Nat→List (List V)→Int→Int→(Int→Int→Int→Option β)→Option β
def zc7 (β:Type) (L:Nat) (p0:List (List V)) (p1 p2:Int) (k_fin:Int→Int→Int→Option β):Option β:=zur L p0 p1 p2 k_fin
def zuQ (zc7:zj1) (L:Nat) (β:Type) (args:List V) (bor:Bor) (k:KK β):Option β:=match args,bor with
 | [a0,a1,a2],[]=>aL 1 a0 fun p0=>aI .i64 a1 fun p1=>aI .i64 a2 fun p2=>zc7 β L p0 p1 p2 (fun zER zES zE2=>k (V.tup [(V.sc (.int .u64 zER)),(V.sc (.int .i64 zES)),(V.sc (.int .i64 zE2))]) [])
 | _,_=>none
def zqH:CF:=⟨21,[.tmp 4,.tmp 5,.tmp 6],
 (.seq (.reg [oo 4 (.move (.const (.sc (.int .u32 0))) false),
   oo 5 (.move (.const (.sc (.int .i64 0))) false),
   oo 6 (.move (.const (.sc (.int .i64 0))) false)])
 (.seq (.reg [oo 11 (.move (tq 0) false),
   oo 12 (.move (tq 1) false),
   oo 13 (.call 209 [((tq 11),0),((tq 12),0),((.const (.sc (.int .i64 4))),0)] []),
   oo 10 (.move (tq 13) true),
   oo 14 (.pull (tq 10) 0),
   oo 15 (.pull (tq 10) 1),
   oo 16 (.pull (tq 10) 2),
   oo 7 (.move (tq 14) false),
   oo 8 (.move (tq 15) false),
   oo 9 (.move (tq 16) false)])
 (.seq (.reg [oo 17 (.move (tq 7) false),
   oo 18 (.conv .u32 (tq 17)),
   oo 19 (.move (tq 8) false),
   oo 20 (.move (tq 9) false),
   oo 4 (.move (tq 18) false),
   oo 5 (.move (tq 19) false),
   oo 6 (.move (tq 20) false)])
 .ret)))⟩
def zoI:Hint:=⟨[(1,3)],[],[none],[],[],false,false⟩
def zDE:Nat→Sh:=xT []
def zDN (zc7:zj1) (L:Nat):CBC:=(zD 209 (zuQ zc7 L) noC)
def zyf {β:Type} (zc7:zj1) (L:Nat) (p0:List (List V)) (p1:Int) (k_fin:Int→Int→Int→Option β):Option β :=
 zc7 β L p0 p1 (4:Int) (fun v0 v1 v2 =>
 lt (IntKind.wrap .u32 v0) fun x3 =>
 k_fin x3 v1 v2)
abbrev znY:=∀ (β:Type),Nat→List (List V)→Int→(Int→Int→Int→Option β)→Option β
def zd6 (β:Type) (L:Nat) (p0:List (List V)) (p1:Int) (k_fin:Int→Int→Int→Option β):Option β:=zyf zc7 L p0 p1 k_fin
def zyd (zd6:znY) (L:Nat) (β:Type) (args:List V) (bor:Bor) (k:KK β):Option β:=match args,bor with
 | [a0,a1],[]=>aL 1 a0 fun p0=>aI .i64 a1 fun p1=>zd6 β L p0 p1 (fun zER zES zE2=>k (V.tup [(V.sc (.int .u32 zER)),(V.sc (.int .i64 zES)),(V.sc (.int .i64 zE2))]) [])
 | _,_=>none
def zgA:CF:=⟨17,[.tmp 4],
 (.seq (.reg [oo 4 (.move (.const (.gs 1 [])) true)])
 (.seq (.reg [oo 6 (.move (tq 0) false),
   oo 7 (.lenS (tq 6)),
   oo 8 (.move (tq 1) false),
   oo 9 (.lenS (tq 8)),
   oo 10 (.bin .add (tq 7) (tq 9)),
   oo 11 (.makeSlice 1 1 [(.sc (.int .u8 0))] (.const (.sc (.int .i64 0))) (tq 10)),
   oo 5 (.move (tq 11) true)])
 (.seq (.reg [oo 12 (.move (tq 5) true),
   oo 13 (.move (tq 0) false),
   oo 14 (.append 1 1 (tq 12) (tq 13)),
   oo 15 (.move (tq 1) false),
   oo 16 (.append 1 1 (tq 14) (tq 15)),
   oo 4 (.move (tq 16) true)])
 .ret)))⟩
def zlt:Hint:=⟨[(0,0),(1,6),(2,0),(2,5)],[],[none],[],[],false,false⟩
def zjD:Nat→Sh:=xT []
def zjc (L:Nat):CBC:=noC
def zki {β:Type} (L:Nat) (p0 p1:List (List V)) (k_fin:List (List V)→Option β):Option β :=
 lt (IntKind.wrap .i64 ((((List.length p0:Nat):Int):Int)+((List.length p1:Nat):Int))) fun x0 =>
 chk (0≤(0:Int)∧(0:Int)≤x0∧(Int.toNat x0) * 1≤yj∧x0≤yj) (
 chk ((List.length (List.replicate 0 [(V.sc (.int .u8 (0:Int)))])+List.length p0) * 1≤yj∧List.length (List.replicate 0 [(V.sc (.int .u8 (0:Int)))])+List.length p0≤yj) (
 lt ((List.replicate 0 [(V.sc (.int .u8 (0:Int)))])++p0) fun l1 =>
 chk ((List.length l1+List.length p1) * 1≤yj∧List.length l1+List.length p1≤yj) (
 lt (l1++p1) fun l2 =>
 k_fin l2)))
theorem zrU {β:Type} (L:Nat) (p0 p1:List (List V)) (k:KK β):xB zjD (zjc L) L zgA [(V.sl 1 p0),(V.sl 1 p1)] [] k=zki L p0 p1 (fun p0=>k (V.gs 1 p0) []):=by kernel_rfl
abbrev zZ:=∀ (β:Type),Nat→List (List V)→List (List V)→(List (List V)→Option β)→Option β
def xl (β:Type) (L:Nat) (p0 p1:List (List V)) (k_fin:List (List V)→Option β):Option β:=zki L p0 p1 k_fin
def zfu (xl:zZ) (L:Nat) (β:Type) (args:List V) (bor:Bor) (k:KK β):Option β:=match args,bor with
 | [a0,a1],[]=>aL 1 a0 fun p0=>aL 1 a1 fun p1=>xl β L p0 p1 (fun p0=>k (V.gs 1 p0) [])
 | _,_=>none
theorem zr4 (L:Nat) (β:Type) (args:List V) (bor:Bor) (k:KK β) (r:β) (h:zfu xl L β args bor k=some r):xB zjD (zjc L) L zgA args bor k=some r:=by
 unfold zfu at h
 split at h
 ·have q:=y8 h; clear h; obtain ⟨p0,rfl,h⟩:=q
  have q:=y8 h; clear h; obtain ⟨p1,rfl,h⟩:=q
  exact (zrU L p0 p1 k).trans h
 ·cases h
def zdt:CC:=(.seq (.reg [oo 9 (.bin .lss (tq 8) (tq 7))])
 (.seq (.cond (tq 9)
 .skip
 (.seq (.mask (bl 8 17) (bl 114655 17))
 (.exit 0)))
 (.seq (.block 1 (.seq (.reg [oo 10 (.indexAddrS 1 (tq 6) (tq 8)),
   oo 11 (.load false 1 (tq 10) false),
   oo 5 (.move (tq 11) false)])
 (.reg [oo 12 (.move (tq 3) false),
   oo 13 (.move (tq 5) false),
   oo 14 (.call 193 [((tq 12),0),((tq 13),0)] []),
   oo 3 (.move (tq 14) true)])))
 (.reg [oo 15 (.bin .add (tq 8) (.const (.sc (.int .i64 1)))),
   oo 8 (.move (tq 15) false)]))))
def ziU:CC:=(.seq (.reg [oo 16 (.move (tq 3) true),
   oo 2 (.move (tq 16) true)])
 .ret)
def zdK:CF:=⟨17,[.tmp 2],
 (.seq (.reg [oo 2 (.move (.const (.gs 1 [])) true)])
 (.seq (.reg [oo 3 (.move (.const (.gs 1 [])) true)])
 (.seq (.seq (.reg [oo 6 (.move (tq 0) false),
   oo 7 (.lenS (tq 6)),
   oo 8 (.move (.const (.sc (.int .i64 0))) false)])
 (.block 0 (.loop (bl 456 17) (bl 114655 17)
 zdt)))
 ziU)))⟩
def zm5:Hint:=⟨[(0,0),(1,0),(5,3),(7,0),(7,1)],[],[none,some ((bl 456 17),(bl 114655 17)),none,some ((bl 8 17),(bl 114655 17)),none,none],[],[],false,false⟩
def zbL:Nat→Sh:=xT [(11,(.sl 1))]
def zbM (xl:zZ) (L:Nat):CBC:=(zD 193 (zfu xl L) noC)
def zfc:St→St:=xY 0 (bl 456 17) (bl 114655 17)
def zd3 (p3 p6:List (List V)) (p7 p8:Int):St:=⟨(jn 3 ((V.gs 1 p3)::(jn 2 ((V.sl 1 p6)::((V.sc (.int .i64 p7))::((V.sc (.int .i64 p8))::(jn 8 []))))))),(gn 17 [])⟩
def ziw (p3:List (List V)):St:=⟨(jn 3 ((V.gs 1 p3)::(jn 13 []))),(gn 17 [])⟩
def zmt {β:Type} (xl:zZ) (L:Nat) (p0:List (List V)) (k_hbbaba:List (List V)→List (List V)→Int→Int→Option β):Option β :=
 k_hbbaba ([]:List (List V)) p0 ((List.length p0:Nat):Int) (0:Int)
theorem zuj {β:Type} (xl:zZ) (L:Nat) (p0:List (List V)) (k:KK β):xB zbL (zbM xl L) L zdK [(V.sl 1 p0)] [] k=zmt xl L p0 (fun p3 p6 p7 p8=>xA (yn zbL (zbM xl L) 0 L zdt) zfc L (zd3 p3 p6 p7 p8) (yA 0 (yQ (yn zbL (zbM xl L) 0 L ziU) (xS 0 (CF.res zdK) k)))):=by kernel_rfl
def zhT {β:Type} (xl:zZ) (L:Nat) (p3 p6:List (List V)) (p7 p8:Int) (k_hbbaba:List (List V)→List (List V)→Int→Int→Option β) (k_x0:List (List V)→Option β):Option β :=
 ifb (decide (p8 < p7)) (
 idx p6 p8 fun c0 =>
 cL 1 c0 0 fun v1 =>
 xl β L p3 v1 (fun v2 =>
 lt (IntKind.wrap .i64 ((p8:Int)+(1:Int))) fun x3 =>
 k_hbbaba v2 p6 p7 x3)) (
 k_x0 p3)
theorem zpy {β:Type} (xl:zZ) (L:Nat) (p3 p6:List (List V)) (p7 p8:Int) (X:St→Option β) (K:KT β):yn zbL (zbM xl L) 0 L zdt (zd3 p3 p6 p7 p8) (zbF zfc X K)=zhT xl L p3 p6 p7 p8 (fun p3 p6 p7 p8=>X (zd3 p3 p6 p7 p8)) (fun p3=>K (.exit 0) (ziw p3)):=by kernel_rfl
def zjS {β:Type} (xl:zZ) (L:Nat) (p3:List (List V)) (k_fin:List (List V)→Option β):Option β :=
 k_fin p3
theorem znI {β:Type} (xl:zZ) (L:Nat) (p3:List (List V)) (k:KK β):(yA 0 (yQ (yn zbL (zbM xl L) 0 L ziU) (xS 0 (CF.res zdK) k))) (.exit 0) (ziw p3)=zjS xl L p3 (fun p0=>k (V.gs 1 p0) []):=by kernel_rfl
def zdV {β:Type} (xl:zZ) (L:Nat) (k_x0:List (List V)→Option β):Nat→List (List V)→List (List V)→Int→Int→Option β
 | 0,_,_,_,_=>none
 | n+1,p3,p6,p7,p8=>zhT xl L p3 p6 p7 p8 (fun p3 p6 p7 p8=>zdV xl L k_x0 n p3 p6 p7 p8) k_x0
theorem zjh {β:Type} (xl:zZ) (L:Nat) (K:KT β):∀ (n:Nat) (p3 p6:List (List V)) (p7 p8:Int),xA (yn zbL (zbM xl L) 0 L zdt) zfc n (zd3 p3 p6 p7 p8) K=zdV xl L (fun p3=>K (.exit 0) (ziw p3)) n p3 p6 p7 p8:=by
 intro n
 induction n with
 | zero=>intros; rfl
 | succ n ih =>
  intro p3 p6 p7 p8
  refine (zpy xl L p3 p6 p7 p8 (fun σ=>xA (yn zbL (zbM xl L) 0 L zdt) zfc n σ K) K).trans ?_
  simp only [ih]
  rfl
def ziW {β:Type} (xl:zZ) (L:Nat) (p0:List (List V)) (k_fin:List (List V)→Option β):Option β :=
 zmt xl L p0 (fun p3 p6 p7 p8=>zdV xl L (fun p3=>zjS xl L p3 k_fin) L p3 p6 p7 p8)
theorem zt7 {β:Type} (xl:zZ) (L:Nat) (p0:List (List V)) (k:KK β):xB zbL (zbM xl L) L zdK [(V.sl 1 p0)] [] k=ziW xl L p0 (fun p0=>k (V.gs 1 p0) []):=by
 refine (zuj xl L p0 k).trans ?_
 unfold ziW
 first
  | (simp only [zjh,znI]; done)
  | (simp only [zjh]; rfl)
abbrev zi:=∀ (β:Type),Nat→List (List V)→(List (List V)→Option β)→Option β
def zc (β:Type) (L:Nat) (p0:List (List V)) (k_fin:List (List V)→Option β):Option β:=ziW xl L p0 k_fin
def zek (zc:zi) (L:Nat) (β:Type) (args:List V) (bor:Bor) (k:KK β):Option β:=match args,bor with
 | [a0],[]=>aL 1 a0 fun p0=>zc β L p0 (fun p0=>k (V.gs 1 p0) [])
 | _,_=>none
theorem ztR (L:Nat) (β:Type) (args:List V) (bor:Bor) (k:KK β) (r:β) (h:zek zc L β args bor k=some r):xB zbL (zbM xl L) L zdK args bor k=some r:=by
 unfold zek at h
 split at h
 ·have q:=y8 h; clear h; obtain ⟨p0,rfl,h⟩:=q
  exact (zt7 xl L p0 k).trans h
 ·cases h
def zqA:CC:=(.seq (.seq (.reg [oo 17 (.move (tq 4) false),
   oo 18 (.bin .geq (tq 17) (.const (.sc (.int .i64 0))))])
 (.cond (tq 18)
 .skip
 (.seq (.mask (bl 8 31) (bl 1342177263 31))
 (.exit 2))))
 (.seq (.block 3 (.reg [oo 21 (.move (tq 3) true),
   oo 22 (.move (tq 0) false),
   oo 23 (.bin .mul (.const (.sc (.int .u64 8))) (tq 22)),
   oo 24 (.move (tq 4) false),
   oo 25 (.bin .mul (.const (.sc (.int .i64 8))) (tq 24)),
   oo 26 (.bin .shr (tq 23) (tq 25)),
   oo 27 (.conv .u8 (tq 26)),
   oo 28 (.buildSlice 1 1 [(.sc (.int .u8 0))] [(0,1,(tq 27))]),
   oo 29 (.append 1 1 (tq 21) (tq 28)),
   oo 3 (.move (tq 29) true)]))
 (.reg [oo 19 (.move (tq 4) false),
   oo 20 (.bin .sub (tq 19) (.const (.sc (.int .i64 1)))),
   oo 4 (.move (tq 20) false)])))
def zs7:CC:=(.seq (.seq (.reg [oo 6 (.move (tq 0) false),
   oo 7 (.move (tq 3) false),
   oo 8 (.lenS (tq 7)),
   oo 9 (.conv .u64 (tq 8)),
   oo 10 (.bin .add (tq 6) (tq 9)),
   oo 11 (.bin .add (tq 10) (.const (.sc (.int .u64 8)))),
   oo 12 (.bin .rem (tq 11) (.const (.sc (.int .u64 64)))),
   oo 13 (.bin .neq (tq 12) (.const (.sc (.int .u64 0))))])
 (.cond (tq 13)
 .skip
 (.seq (.mask (bl 9 31) (bl 2147385087 31))
 (.exit 0))))
 (.block 1 (.reg [oo 14 (.move (tq 3) true),
   oo 15 (.buildSlice 1 1 [(.sc (.int .u8 0))] [(0,1,(.const (.sc (.int .u8 0))))]),
   oo 16 (.append 1 1 (tq 14) (tq 15)),
   oo 3 (.move (tq 16) true)])))
def zt2:CC:=(.seq (.reg [oo 30 (.move (tq 3) true),
   oo 2 (.move (tq 30) true)])
 .ret)
def zu8:CC:=(.seq (.seq (.reg [oo 4 (.move (.const (.sc (.int .i64 7))) false)])
 (.block 2 (.loop (bl 25 31) (bl 1342177279 31)
 zqA)))
 zt2)
def zqD:CF:=⟨31,[.tmp 2],
 (.seq (.reg [oo 2 (.move (.const (.gs 1 [])) true)])
 (.seq (.reg [oo 5 (.buildSlice 1 1 [(.sc (.int .u8 0))] [(0,1,(.const (.sc (.int .u8 128))))]),
   oo 3 (.move (tq 5) true)])
 (.seq (.block 0 (.loop (bl 9 31) (bl 2147385087 31)
 zs7))
 zu8)))⟩
def zoH:Hint:=⟨[(0,0),(1,1),(3,0),(3,3),(7,0),(7,9),(8,0),(8,1)],[],[none,some ((bl 9 31),(bl 2147385087 31)),none,some ((bl 9 31),(bl 2147385087 31)),none,none,some ((bl 25 31),(bl 1342177279 31)),none,some ((bl 8 31),(bl 1342177263 31)),none,none],[],[],false,false⟩
def zDh:Nat→Sh:=xT []
def zDD (L:Nat):CBC:=noC
def zBW:St→St:=xY 0 (bl 9 31) (bl 2147385087 31)
def zA5:St→St:=xY 0 (bl 25 31) (bl 1342177279 31)
def zz2 (p0:Int) (p3:List (List V)):St:=⟨((V.sc (.int .u64 p0))::(jn 2 ((V.gs 1 p3)::(jn 27 [])))),(gn 31 [])⟩
def zB3 (p0:Int) (p3:List (List V)):St:=⟨((V.sc (.int .u64 p0))::(jn 2 ((V.gs 1 p3)::(jn 27 [])))),(gn 31 [])⟩
def zzB (p0:Int) (p3:List (List V)) (p4:Int):St:=⟨((V.sc (.int .u64 p0))::(jn 2 ((V.gs 1 p3)::((V.sc (.int .i64 p4))::(jn 26 []))))),(gn 31 [])⟩
def zB5 (p3:List (List V)):St:=⟨(jn 3 ((V.gs 1 p3)::(jn 27 []))),(gn 31 [])⟩
def zys {β:Type} (L:Nat) (p0:Int) (k_hbbaa:Int→List (List V)→Option β):Option β :=
 k_hbbaa p0 (xh 1 1 [(V.sc (.int .u8 (128:Int)))])
def ztG {β:Type} (L:Nat) (p0:Int) (p3:List (List V)) (k_hbbaa:Int→List (List V)→Option β) (k_x0:Int→List (List V)→Option β):Option β :=
 lt (IntKind.wrap .u64 ((List.length p3:Nat):Int)) fun x0 =>
 lt (IntKind.wrap .u64 ((p0:Int)+x0)) fun x1 =>
 lt (IntKind.wrap .u64 ((x1:Int)+(8:Int))) fun x2 =>
 lt (Int.tmod x2 (64:Int)) fun x3 =>
 ifb ((x3:Int) != (0:Int)) (
 chk ((List.length p3+List.length (xh 1 1 [(V.sc (.int .u8 (0:Int)))])) * 1≤yj∧List.length p3+List.length (xh 1 1 [(V.sc (.int .u8 (0:Int)))])≤yj) (
 lt (p3++(xh 1 1 [(V.sc (.int .u8 (0:Int)))])) fun l4 =>
 k_hbbaa p0 l4)) (
 k_x0 p0 p3)
def zr7 {β:Type} (L:Nat) (p0:Int) (p3:List (List V)) (k_hbbbaba:Int→List (List V)→Int→Option β):Option β :=
 k_hbbbaba p0 p3 (7:Int)
def zrX {β:Type} (L:Nat) (p0:Int) (p3:List (List V)) (p4:Int) (k_hbbbaba:Int→List (List V)→Int→Option β) (k_x2:List (List V)→Option β):Option β :=
 ifb (decide (p4 ≥ (0:Int))) (
 lt (IntKind.wrap .u64 (((8:Int):Int) * p0)) fun x5 =>
 lt (IntKind.wrap .i64 (((8:Int):Int) * p4)) fun x6 =>
 chk (0≤x6) (
 lt (zc3 .u64 x5 x6) fun x7 =>
 lt (IntKind.wrap .u8 x7) fun x8 =>
 chk ((List.length p3+List.length (xh 1 1 [(V.sc (.int .u8 x8))])) * 1≤yj∧List.length p3+List.length (xh 1 1 [(V.sc (.int .u8 x8))])≤yj) (
 lt (p3++(xh 1 1 [(V.sc (.int .u8 x8))])) fun l9 =>
 lt (IntKind.wrap .i64 ((p4:Int) - (1:Int))) fun x10 =>
 k_hbbbaba p0 l9 x10))) (
 k_x2 p3)
def zp2 {β:Type} (L:Nat) (p3:List (List V)) (k_fin:List (List V)→Option β):Option β :=
 k_fin p3
def znq {β:Type} (L:Nat) (k_x0:Int→List (List V)→Option β):Nat→Int→List (List V)→Option β
 | 0,_,_=>none
 | n+1,p0,p3=>ztG L p0 p3 (fun p0 p3=>znq L k_x0 n p0 p3) k_x0
def zlC {β:Type} (L:Nat) (k_x2:List (List V)→Option β):Nat→Int→List (List V)→Int→Option β
 | 0,_,_,_=>none
 | n+1,p0,p3,p4=>zrX L p0 p3 p4 (fun p0 p3 p4=>zlC L k_x2 n p0 p3 p4) k_x2
def zq8 {β:Type} (L:Nat) (p0:Int) (p3:List (List V)) (k_fin:List (List V)→Option β):Option β :=
 zr7 L p0 p3 (fun p0 p3 p4=>zlC L (fun p3=>zp2 L p3 k_fin) L p0 p3 p4)
def zyu {β:Type} (L:Nat) (p0:Int) (k_fin:List (List V)→Option β):Option β :=
 zys L p0 (fun p0 p3=>znq L (fun p0 p3=>zq8 L p0 p3 k_fin) L p0 p3)
abbrev zce:=∀ (β:Type),Nat→Int→(List (List V)→Option β)→Option β
def zK (β:Type) (L:Nat) (p0:Int) (k_fin:List (List V)→Option β):Option β:=zyu L p0 k_fin
def zyc (zK:zce) (L:Nat) (β:Type) (args:List V) (bor:Bor) (k:KK β):Option β:=match args,bor with
 | [a0],[]=>aI .u64 a0 fun p0=>zK β L p0 (fun p0=>k (V.gs 1 p0) [])
 | _,_=>none
def zmu:CF:=⟨2,[.cell 0 true 8],
 (.seq (.reg [oo 0 (.alloc true [(.sc (.int .u32 0)),(.sc (.int .u32 0)),(.sc (.int .u32 0)),(.sc (.int .u32 0)),(.sc (.int .u32 0)),(.sc (.int .u32 0)),(.sc (.int .u32 0)),(.sc (.int .u32 0))])])
 (.seq (.reg [oo 1 (.build [(.sc (.int .u32 0)),(.sc (.int .u32 0)),(.sc (.int .u32 0)),(.sc (.int .u32 0)),(.sc (.int .u32 0)),(.sc (.int .u32 0)),(.sc (.int .u32 0)),(.sc (.int .u32 0))] [(0,1,(.const (.sc (.int .u32 1779033703)))),(1,1,(.const (.sc (.int .u32 3144134277)))),(2,1,(.const (.sc (.int .u32 1013904242)))),(3,1,(.const (.sc (.int .u32 2773480762)))),(4,1,(.const (.sc (.int .u32 1359893119)))),(5,1,(.const (.sc (.int .u32 2600822924)))),(6,1,(.const (.sc (.int .u32 528734635)))),(7,1,(.const (.sc (.int .u32 1541459225))))]),
   oz (.store 8 (tq 0) (tq 1))])
 .ret))⟩
def zkI:Hint:=⟨[],[],[none],[],[],false,false⟩
def zBk:Nat→Sh:=xT []
def zBP (L:Nat):CBC:=noC
def ztv {β:Type} (L:Nat) (k_fin:List V→Option β):Option β :=
 lt [(V.sc (.int .u32 (1779033703:Int))),(V.sc (.int .u32 (3144134277:Int))),(V.sc (.int .u32 (1013904242:Int))),(V.sc (.int .u32 (2773480762:Int))),(V.sc (.int .u32 (1359893119:Int))),(V.sc (.int .u32 (2600822924:Int))),(V.sc (.int .u32 (528734635:Int))),(V.sc (.int .u32 (1541459225:Int)))] fun r0 =>
 chk (0=0∧(List.length r0)=8∧8≠0) (
 k_fin r0)
abbrev zaF:=∀ (β:Type),Nat→(List V→Option β)→Option β
def yx (β:Type) (L:Nat) (k_fin:List V→Option β):Option β:=ztv L k_fin
def ztX (yx:zaF) (L:Nat) (β:Type) (args:List V) (bor:Bor) (k:KK β):Option β:=match args,bor with
 | [],[]=>yx β L (fun p0=>k (V.agg p0) [])
 | _,_=>none
def zpB:CF:=⟨9,[.tmp 4],
 (.seq (.reg [oo 4 (.move (.const (.sc (.int .u32 0))) false)])
 (.seq (.reg [oo 5 (.move (tq 0) false),
   oo 6 (.move (tq 1) false),
   oo 7 (.un .neg (tq 6)),
   oo 8 (.call 572 [((tq 5),0),((tq 7),0)] []),
   oo 4 (.move (tq 8) false)])
 .ret))⟩
def zni:Hint:=⟨[],[],[none],[],[],false,false⟩
def zDe:Nat→Sh:=xT []
def zDd (zr:zaX) (L:Nat):CBC:=(zD 572 (zbI zr L) noC)
def zxt {β:Type} (zr:zaX) (L:Nat) (p0 p1:Int) (k_fin:Int→Option β):Option β :=
 lt (IntKind.wrap .i64 (0 - p1)) fun x0 =>
 zr β L p0 x0 (fun v1 =>
 k_fin v1)
abbrev xX:=∀ (β:Type),Nat→Int→Int→(Int→Option β)→Option β
def xp (β:Type) (L:Nat) (p0 p1:Int) (k_fin:Int→Option β):Option β:=zxt zr L p0 p1 k_fin
def zqh (xp:xX) (L:Nat) (β:Type) (args:List V) (bor:Bor) (k:KK β):Option β:=match args,bor with
 | [a0,a1],[]=>aI .u32 a0 fun p0=>aI .i64 a1 fun p1=>xp β L p0 p1 (fun p0=>k (V.sc (.int .u32 p0)) [])
 | _,_=>none
def zmV:CC:=(.seq (.seq (.reg [oo 43 (.move (tq 5) false),
   oo 44 (.bin .lss (tq 43) (.const (.sc (.int .i64 64))))])
 (.cond (tq 44)
 .skip
 (.seq (.mask (bl 12 97) (bl 158456315288573494874593034013 97))
 (.exit 2))))
 (.seq (.block 3 (.seq (.dreg [] [(oo 47 (.move (tq 5) false),q0),
   (oo 48 (.bin .sub (tq 47) (.const (.sc (.int .i64 15)))),q0),
   (oo 49 (.indexAddrA 64 1 (tq 3) (tq 48)),q0),
   (oo 50 (.load false 1 (tq 49) false),q1),
   (oo 51 (.call 571 [((tq 50),0),((.const (.sc (.int .i64 7))),0)] []),q1),
   (oo 52 (.move (tq 5) false),q0),
   (oo 53 (.bin .sub (tq 52) (.const (.sc (.int .i64 15)))),q0),
   (oo 54 (.indexAddrA 64 1 (tq 3) (tq 53)),q0),
   (oo 55 (.load false 1 (tq 54) false),q1),
   (oo 56 (.call 571 [((tq 55),0),((.const (.sc (.int .i64 18))),0)] []),q1),
   (oo 57 (.bin .xor (tq 51) (tq 56)),q0),
   (oo 58 (.move (tq 5) false),q0),
   (oo 59 (.bin .sub (tq 58) (.const (.sc (.int .i64 15)))),q0),
   (oo 60 (.indexAddrA 64 1 (tq 3) (tq 59)),q0),
   (oo 61 (.load false 1 (tq 60) false),q1),
   (oo 62 (.bin .shr (tq 61) (.const (.sc (.int .u64 3)))),q0),
   (oo 63 (.bin .xor (tq 57) (tq 62)),q0),
   (oo 6 (.move (tq 63) false),q0)])
 (.seq (.dreg [] [(oo 64 (.move (tq 5) false),q0),
   (oo 65 (.bin .sub (tq 64) (.const (.sc (.int .i64 2)))),q0),
   (oo 66 (.indexAddrA 64 1 (tq 3) (tq 65)),q0),
   (oo 67 (.load false 1 (tq 66) false),q1),
   (oo 68 (.call 571 [((tq 67),0),((.const (.sc (.int .i64 17))),0)] []),q1),
   (oo 69 (.move (tq 5) false),q0),
   (oo 70 (.bin .sub (tq 69) (.const (.sc (.int .i64 2)))),q0),
   (oo 71 (.indexAddrA 64 1 (tq 3) (tq 70)),q0),
   (oo 72 (.load false 1 (tq 71) false),q1),
   (oo 73 (.call 571 [((tq 72),0),((.const (.sc (.int .i64 19))),0)] []),q1),
   (oo 74 (.bin .xor (tq 68) (tq 73)),q0),
   (oo 75 (.move (tq 5) false),q0),
   (oo 76 (.bin .sub (tq 75) (.const (.sc (.int .i64 2)))),q0),
   (oo 77 (.indexAddrA 64 1 (tq 3) (tq 76)),q0),
   (oo 78 (.load false 1 (tq 77) false),q1),
   (oo 79 (.bin .shr (tq 78) (.const (.sc (.int .u64 10)))),q0),
   (oo 80 (.bin .xor (tq 74) (tq 79)),q0),
   (oo 7 (.move (tq 80) false),q0)])
 (.dreg [] [(oo 81 (.move (tq 5) false),q0),
   (oo 82 (.move (tq 5) false),q0),
   (oo 83 (.bin .sub (tq 82) (.const (.sc (.int .i64 16)))),q0),
   (oo 84 (.indexAddrA 64 1 (tq 3) (tq 83)),q0),
   (oo 85 (.load false 1 (tq 84) false),qc [] []),
   (oo 86 (.move (tq 6) false),q0),
   (oo 87 (.bin .add (tq 85) (tq 86)),q0),
   (oo 88 (.move (tq 5) false),q0),
   (oo 89 (.bin .sub (tq 88) (.const (.sc (.int .i64 7)))),q0),
   (oo 90 (.indexAddrA 64 1 (tq 3) (tq 89)),q0),
   (oo 91 (.load false 1 (tq 90) false),qc [] []),
   (oo 92 (.bin .add (tq 87) (tq 91)),q0),
   (oo 93 (.move (tq 7) false),q0),
   (oo 94 (.bin .add (tq 92) (tq 93)),q0),
   (oo 95 (.indexAddrA 64 1 (tq 3) (tq 81)),q0),
   (oz (.store 1 (tq 95) (tq 94)),q0)]))))
 (.reg [oo 45 (.move (tq 5) false),
   oo 46 (.bin .add (tq 45) (.const (.sc (.int .i64 1)))),
   oo 5 (.move (tq 46) false)])))
def znN:CC:=(.seq (.seq (.reg [oo 8 (.move (tq 4) false),
   oo 9 (.bin .lss (tq 8) (.const (.sc (.int .i64 16))))])
 (.cond (tq 9)
 .skip
 (.seq (.mask (bl 12 97) (bl 158456325028528675187087900653 97))
 (.exit 0))))
 (.seq (.block 1 (.dreg [] [(oo 12 (.move (tq 4) false),q0),
   (oo 13 (.move (tq 4) false),q0),
   (oo 14 (.bin .mul (.const (.sc (.int .i64 4))) (tq 13)),q0),
   (oo 15 (.indexAddrA 64 1 (tq 1) (tq 14)),q0),
   (oo 16 (.load false 1 (tq 15) false),qc [] []),
   (oo 17 (.conv .u32 (tq 16)),q0),
   (oo 18 (.bin .shl (tq 17) (.const (.sc (.int .u64 24)))),q0),
   (oo 19 (.move (tq 4) false),q0),
   (oo 20 (.bin .mul (.const (.sc (.int .i64 4))) (tq 19)),q0),
   (oo 21 (.bin .add (tq 20) (.const (.sc (.int .i64 1)))),q0),
   (oo 22 (.indexAddrA 64 1 (tq 1) (tq 21)),q0),
   (oo 23 (.load false 1 (tq 22) false),qc [] []),
   (oo 24 (.conv .u32 (tq 23)),q0),
   (oo 25 (.bin .shl (tq 24) (.const (.sc (.int .u64 16)))),q0),
   (oo 26 (.bin .or (tq 18) (tq 25)),q0),
   (oo 27 (.move (tq 4) false),q0),
   (oo 28 (.bin .mul (.const (.sc (.int .i64 4))) (tq 27)),q0),
   (oo 29 (.bin .add (tq 28) (.const (.sc (.int .i64 2)))),q0),
   (oo 30 (.indexAddrA 64 1 (tq 1) (tq 29)),q0),
   (oo 31 (.load false 1 (tq 30) false),qc [] []),
   (oo 32 (.conv .u32 (tq 31)),q0),
   (oo 33 (.bin .shl (tq 32) (.const (.sc (.int .u64 8)))),q0),
   (oo 34 (.bin .or (tq 26) (tq 33)),q0),
   (oo 35 (.move (tq 4) false),q0),
   (oo 36 (.bin .mul (.const (.sc (.int .i64 4))) (tq 35)),q0),
   (oo 37 (.bin .add (tq 36) (.const (.sc (.int .i64 3)))),q0),
   (oo 38 (.indexAddrA 64 1 (tq 1) (tq 37)),q0),
   (oo 39 (.load false 1 (tq 38) false),qc [] []),
   (oo 40 (.conv .u32 (tq 39)),q0),
   (oo 41 (.bin .or (tq 34) (tq 40)),q0),
   (oo 42 (.indexAddrA 64 1 (tq 3) (tq 12)),q0),
   (oz (.store 1 (tq 42) (tq 41)),q0)]))
 (.reg [oo 10 (.move (tq 4) false),
   oo 11 (.bin .add (tq 10) (.const (.sc (.int .i64 1)))),
   oo 4 (.move (tq 11) false)])))
def zpp:CC:=(.seq (.reg [oo 96 (.load true 64 (tq 3) false),
   oz (.store 64 (tq 2) (tq 96))])
 .ret)
def zpV:CC:=(.seq (.seq (.reg [oo 5 (.move (.const (.sc (.int .i64 16))) false)])
 (.block 2 (.loop (bl 44 97) (bl 158456315288573494874593034045 97)
 zmV)))
 zpp)
def zlo:CF:=⟨97,[.cell 2 true 64],
 (.seq (.reg [oo 1 (.box true (tq 0)),
   oo 2 (.alloc true (rp 64 (.sc (.int .u32 0)) []))])
 (.seq (.reg [oo 3 (.alloc true (rp 64 (.sc (.int .u32 0)) []))])
 (.seq (.seq (.reg [oo 4 (.move (.const (.sc (.int .i64 0))) false)])
 (.block 0 (.loop (bl 30 97) (bl 158456325028528675187087900671 97)
 znN)))
 zpV)))⟩
def zjR:Hint:=⟨[],[],[none,some ((bl 30 97),(bl 158456325028528675187087900671 97)),none,some ((bl 12 97),(bl 158456325028528675187087900653 97)),none,none,some ((bl 44 97),(bl 158456315288573494874593034045 97)),none,some ((bl 12 97),(bl 158456315288573494874593034013 97)),none,none],[],[],false,false⟩
def zAZ:Nat→Sh:=xT [(16,(.int .u8)),(23,(.int .u8)),(31,(.int .u8)),(39,(.int .u8)),(50,(.int .u32)),(55,(.int .u32)),(61,(.int .u32)),(67,(.int .u32)),(72,(.int .u32)),(78,(.int .u32)),(85,(.int .u32)),(91,(.int .u32))]
def zAX (xp:xX) (L:Nat):CBC:=(zD 571 (zqh xp L) noC)
def zyA:St→St:=xY 0 (bl 30 97) (bl 158456325028528675187087900671 97)
def zyk:St→St:=xY 0 (bl 44 97) (bl 158456315288573494874593034045 97)
def zw1 (p4:Int) (b1 b2 b3:List V):St:=⟨(jn 1 ((V.ptr 1 0)::((V.ptr 2 0)::((V.ptr 3 0)::((V.sc (.int .i64 p4))::(jn 92 [])))))),(gn 1 ((.live true b1)::((.live true b2)::((.live true b3)::(gn 93 [])))))⟩
def zzS (b2 b3:List V):St:=⟨(jn 2 ((V.ptr 2 0)::((V.ptr 3 0)::(jn 93 [])))),(gn 2 ((.live true b2)::((.live true b3)::(gn 93 []))))⟩
def zwn (p5:Int) (b2 b3:List V):St:=⟨(jn 2 ((V.ptr 2 0)::((V.ptr 3 0)::(jn 1 ((V.sc (.int .i64 p5))::(jn 91 [])))))),(gn 2 ((.live true b2)::((.live true b3)::(gn 93 []))))⟩
def zzn (b2 b3:List V):St:=⟨(jn 2 ((V.ptr 2 0)::((V.ptr 3 0)::(jn 93 [])))),(gn 2 ((.live true b2)::((.live true b3)::(gn 93 []))))⟩
def zsK {β:Type} (xp:xX) (L:Nat) (p0:List V) (k_hbbaba:Int→List V→List V→List V→Option β):Option β :=
 k_hbbaba (0:Int) p0 (List.replicate 64 (V.sc (.int .u32 (0:Int)))) (List.replicate 64 (V.sc (.int .u32 (0:Int))))
def zoi {β:Type} (xp:xX) (L:Nat) (p4:Int) (b1 b2 b3:List V) (k_hbbaba:Int→List V→List V→List V→Option β) (k_x0:List V→List V→Option β):Option β :=
 ifb (decide (p4 < (16:Int))) (
 lt (IntKind.wrap .i64 (((4:Int):Int) * p4)) fun x0 =>
 chk (0≤x0∧x0 < ((64:Nat):Int)) (
 cI .u8 b1 (0+((Int.toNat x0) * 1)) fun v1 =>
 lt (IntKind.wrap .u32 v1) fun x2 =>
 lt (zdo .u32 x2 (24:Int)) fun x3 =>
 lt (IntKind.wrap .i64 (((4:Int):Int) * p4)) fun x4 =>
 lt (IntKind.wrap .i64 ((x4:Int)+(1:Int))) fun x5 =>
 chk (0≤x5∧x5 < ((64:Nat):Int)) (
 cI .u8 b1 (0+((Int.toNat x5) * 1)) fun v6 =>
 lt (IntKind.wrap .u32 v6) fun x7 =>
 lt (zdo .u32 x7 (16:Int)) fun x8 =>
 lt (ior .u32 x3 x8) fun x9 =>
 lt (IntKind.wrap .i64 (((4:Int):Int) * p4)) fun x10 =>
 lt (IntKind.wrap .i64 ((x10:Int)+(2:Int))) fun x11 =>
 chk (0≤x11∧x11 < ((64:Nat):Int)) (
 cI .u8 b1 (0+((Int.toNat x11) * 1)) fun v12 =>
 lt (IntKind.wrap .u32 v12) fun x13 =>
 lt (zdo .u32 x13 (8:Int)) fun x14 =>
 lt (ior .u32 x9 x14) fun x15 =>
 lt (IntKind.wrap .i64 (((4:Int):Int) * p4)) fun x16 =>
 lt (IntKind.wrap .i64 ((x16:Int)+(3:Int))) fun x17 =>
 chk (0≤x17∧x17 < ((64:Nat):Int)) (
 cI .u8 b1 (0+((Int.toNat x17) * 1)) fun v18 =>
 lt (IntKind.wrap .u32 v18) fun x19 =>
 lt (ior .u32 x15 x19) fun x20 =>
 chk (0≤p4∧p4 < ((64:Nat):Int)) (
 chk (1=1∧(0+((Int.toNat p4) * 1))+1≤(List.length b3)) (
 lt (xn b3 (0+((Int.toNat p4) * 1)) [(V.sc (.int .u32 x20))]) fun r21 =>
 lt (IntKind.wrap .i64 ((p4:Int)+(1:Int))) fun x22 =>
 k_hbbaba x22 b1 b2 r21))))))) (
 k_x0 b2 b3)
def zmQ {β:Type} (xp:xX) (L:Nat) (b2 b3:List V) (k_hbbbaba:Int→List V→List V→Option β):Option β :=
 k_hbbbaba (16:Int) b2 b3
def zn1 {β:Type} (xp:xX) (L:Nat) (p5:Int) (b2 b3:List V) (k_hbbbaba:Int→List V→List V→Option β) (k_x2:List V→List V→Option β):Option β :=
 ifb (decide (p5 < (64:Int))) (
 lt (IntKind.wrap .i64 ((p5:Int) - (15:Int))) fun x23 =>
 chk (0≤x23∧x23 < ((64:Nat):Int)) (
 cI .u32 b3 (0+((Int.toNat x23) * 1)) fun v24 =>
 xp β L v24 (7:Int) (fun v25 =>
 lt (IntKind.wrap .i64 ((p5:Int) - (15:Int))) fun x26 =>
 chk (0≤x26∧x26 < ((64:Nat):Int)) (
 cI .u32 b3 (0+((Int.toNat x26) * 1)) fun v27 =>
 xp β L v27 (18:Int) (fun v28 =>
 lt (zb1 .u32 v25 v28) fun x29 =>
 lt (IntKind.wrap .i64 ((p5:Int) - (15:Int))) fun x30 =>
 chk (0≤x30∧x30 < ((64:Nat):Int)) (
 cI .u32 b3 (0+((Int.toNat x30) * 1)) fun v31 =>
 lt (zc3 .u32 v31 (3:Int)) fun x32 =>
 lt (zb1 .u32 x29 x32) fun x33 =>
 lt (IntKind.wrap .i64 ((p5:Int) - (2:Int))) fun x34 =>
 chk (0≤x34∧x34 < ((64:Nat):Int)) (
 cI .u32 b3 (0+((Int.toNat x34) * 1)) fun v35 =>
 xp β L v35 (17:Int) (fun v36 =>
 lt (IntKind.wrap .i64 ((p5:Int) - (2:Int))) fun x37 =>
 chk (0≤x37∧x37 < ((64:Nat):Int)) (
 cI .u32 b3 (0+((Int.toNat x37) * 1)) fun v38 =>
 xp β L v38 (19:Int) (fun v39 =>
 lt (zb1 .u32 v36 v39) fun x40 =>
 lt (IntKind.wrap .i64 ((p5:Int) - (2:Int))) fun x41 =>
 chk (0≤x41∧x41 < ((64:Nat):Int)) (
 cI .u32 b3 (0+((Int.toNat x41) * 1)) fun v42 =>
 lt (zc3 .u32 v42 (10:Int)) fun x43 =>
 lt (zb1 .u32 x40 x43) fun x44 =>
 lt (IntKind.wrap .i64 ((p5:Int) - (16:Int))) fun x45 =>
 chk (0≤x45∧x45 < ((64:Nat):Int)) (
 cI .u32 b3 (0+((Int.toNat x45) * 1)) fun v46 =>
 lt (IntKind.wrap .u32 ((v46:Int)+x33)) fun x47 =>
 lt (IntKind.wrap .i64 ((p5:Int) - (7:Int))) fun x48 =>
 chk (0≤x48∧x48 < ((64:Nat):Int)) (
 cI .u32 b3 (0+((Int.toNat x48) * 1)) fun v49 =>
 lt (IntKind.wrap .u32 ((x47:Int)+v49)) fun x50 =>
 lt (IntKind.wrap .u32 ((x50:Int)+x44)) fun x51 =>
 chk (0≤p5∧p5 < ((64:Nat):Int)) (
 chk (1=1∧(0+((Int.toNat p5) * 1))+1≤(List.length b3)) (
 lt (xn b3 (0+((Int.toNat p5) * 1)) [(V.sc (.int .u32 x51))]) fun r52 =>
 lt (IntKind.wrap .i64 ((p5:Int)+(1:Int))) fun x53 =>
 k_hbbbaba x53 b2 r52))))))))))))))) (
 k_x2 b2 b3)
def zmz {β:Type} (xp:xX) (L:Nat) (b2 b3:List V) (k_fin:List V→Option β):Option β :=
 chk (0+64≤(List.length b3)) (
 chk ((List.length (List.take 64 b3))=64∧0+64≤(List.length b2)) (
 lt (xn b2 0 (List.take 64 b3)) fun r54 =>
 chk (0=0∧(List.length r54)=64∧64≠0) (
 k_fin r54)))
def ziA {β:Type} (xp:xX) (L:Nat) (k_x0:List V→List V→Option β):Nat→Int→List V→List V→List V→Option β
 | 0,_,_,_,_=>none
 | n+1,p4,b1,b2,b3=>zoi xp L p4 b1 b2 b3 (fun p4 b1 b2 b3=>ziA xp L k_x0 n p4 b1 b2 b3) k_x0
def zh6 {β:Type} (xp:xX) (L:Nat) (k_x2:List V→List V→Option β):Nat→Int→List V→List V→Option β
 | 0,_,_,_=>none
 | n+1,p5,b2,b3=>zn1 xp L p5 b2 b3 (fun p5 b2 b3=>zh6 xp L k_x2 n p5 b2 b3) k_x2
def zmI {β:Type} (xp:xX) (L:Nat) (b2 b3:List V) (k_fin:List V→Option β):Option β :=
 zmQ xp L b2 b3 (fun p5 b2 b3=>zh6 xp L (fun b2 b3=>zmz xp L b2 b3 k_fin) L p5 b2 b3)
def zsI {β:Type} (xp:xX) (L:Nat) (p0:List V) (k_fin:List V→Option β):Option β :=
 zsK xp L p0 (fun p4 b1 b2 b3=>ziA xp L (fun b2 b3=>zmI xp L b2 b3 k_fin) L p4 b1 b2 b3)
abbrev zcm:=∀ (β:Type),Nat→List V→(List V→Option β)→Option β
def yL (β:Type) (L:Nat) (p0:List V) (k_fin:List V→Option β):Option β:=zsI xp L p0 k_fin
def zsX (yL:zcm) (L:Nat) (β:Type) (args:List V) (bor:Bor) (k:KK β):Option β:=match args,bor with
 | [a0],[]=>aG a0 fun p0=>yL β L p0 (fun p0=>k (V.agg p0) [])
 | _,_=>none
def zkH:CF:=⟨2,[.cell 0 true 64],
 (.seq (.reg [oo 0 (.alloc true (rp 64 (.sc (.int .u32 0)) []))])
 (.seq (.reg [oo 1 (.build (rp 64 (.sc (.int .u32 0)) []) [(0,1,(.const (.sc (.int .u32 1116352408)))),(1,1,(.const (.sc (.int .u32 1899447441)))),(2,1,(.const (.sc (.int .u32 3049323471)))),(3,1,(.const (.sc (.int .u32 3921009573)))),(4,1,(.const (.sc (.int .u32 961987163)))),(5,1,(.const (.sc (.int .u32 1508970993)))),(6,1,(.const (.sc (.int .u32 2453635748)))),(7,1,(.const (.sc (.int .u32 2870763221)))),(8,1,(.const (.sc (.int .u32 3624381080)))),(9,1,(.const (.sc (.int .u32 310598401)))),(10,1,(.const (.sc (.int .u32 607225278)))),(11,1,(.const (.sc (.int .u32 1426881987)))),(12,1,(.const (.sc (.int .u32 1925078388)))),(13,1,(.const (.sc (.int .u32 2162078206)))),(14,1,(.const (.sc (.int .u32 2614888103)))),(15,1,(.const (.sc (.int .u32 3248222580)))),(16,1,(.const (.sc (.int .u32 3835390401)))),(17,1,(.const (.sc (.int .u32 4022224774)))),(18,1,(.const (.sc (.int .u32 264347078)))),(19,1,(.const (.sc (.int .u32 604807628)))),(20,1,(.const (.sc (.int .u32 770255983)))),(21,1,(.const (.sc (.int .u32 1249150122)))),(22,1,(.const (.sc (.int .u32 1555081692)))),(23,1,(.const (.sc (.int .u32 1996064986)))),(24,1,(.const (.sc (.int .u32 2554220882)))),(25,1,(.const (.sc (.int .u32 2821834349)))),(26,1,(.const (.sc (.int .u32 2952996808)))),(27,1,(.const (.sc (.int .u32 3210313671)))),(28,1,(.const (.sc (.int .u32 3336571891)))),(29,1,(.const (.sc (.int .u32 3584528711)))),(30,1,(.const (.sc (.int .u32 113926993)))),(31,1,(.const (.sc (.int .u32 338241895)))),(32,1,(.const (.sc (.int .u32 666307205)))),(33,1,(.const (.sc (.int .u32 773529912)))),(34,1,(.const (.sc (.int .u32 1294757372)))),(35,1,(.const (.sc (.int .u32 1396182291)))),(36,1,(.const (.sc (.int .u32 1695183700)))),(37,1,(.const (.sc (.int .u32 1986661051)))),(38,1,(.const (.sc (.int .u32 2177026350)))),(39,1,(.const (.sc (.int .u32 2456956037)))),(40,1,(.const (.sc (.int .u32 2730485921)))),(41,1,(.const (.sc (.int .u32 2820302411)))),(42,1,(.const (.sc (.int .u32 3259730800)))),(43,1,(.const (.sc (.int .u32 3345764771)))),(44,1,(.const (.sc (.int .u32 3516065817)))),(45,1,(.const (.sc (.int .u32 3600352804)))),(46,1,(.const (.sc (.int .u32 4094571909)))),(47,1,(.const (.sc (.int .u32 275423344)))),(48,1,(.const (.sc (.int .u32 430227734)))),(49,1,(.const (.sc (.int .u32 506948616)))),(50,1,(.const (.sc (.int .u32 659060556)))),(51,1,(.const (.sc (.int .u32 883997877)))),(52,1,(.const (.sc (.int .u32 958139571)))),(53,1,(.const (.sc (.int .u32 1322822218)))),(54,1,(.const (.sc (.int .u32 1537002063)))),(55,1,(.const (.sc (.int .u32 1747873779)))),(56,1,(.const (.sc (.int .u32 1955562222)))),(57,1,(.const (.sc (.int .u32 2024104815)))),(58,1,(.const (.sc (.int .u32 2227730452)))),(59,1,(.const (.sc (.int .u32 2361852424)))),(60,1,(.const (.sc (.int .u32 2428436474)))),(61,1,(.const (.sc (.int .u32 2756734187)))),(62,1,(.const (.sc (.int .u32 3204031479)))),(63,1,(.const (.sc (.int .u32 3329325298))))]),
   oz (.store 64 (tq 0) (tq 1))])
 .ret))⟩
def zjG:Hint:=⟨[],[],[none],[],[],false,false⟩
def zAR:Nat→Sh:=xT []
def zAB (L:Nat):CBC:=noC
def zrW {β:Type} (L:Nat) (k_fin:List V→Option β):Option β :=
 lt [(V.sc (.int .u32 (1116352408:Int))),(V.sc (.int .u32 (1899447441:Int))),(V.sc (.int .u32 (3049323471:Int))),(V.sc (.int .u32 (3921009573:Int))),(V.sc (.int .u32 (961987163:Int))),(V.sc (.int .u32 (1508970993:Int))),(V.sc (.int .u32 (2453635748:Int))),(V.sc (.int .u32 (2870763221:Int))),(V.sc (.int .u32 (3624381080:Int))),(V.sc (.int .u32 (310598401:Int))),(V.sc (.int .u32 (607225278:Int))),(V.sc (.int .u32 (1426881987:Int))),(V.sc (.int .u32 (1925078388:Int))),(V.sc (.int .u32 (2162078206:Int))),(V.sc (.int .u32 (2614888103:Int))),(V.sc (.int .u32 (3248222580:Int))),(V.sc (.int .u32 (3835390401:Int))),(V.sc (.int .u32 (4022224774:Int))),(V.sc (.int .u32 (264347078:Int))),(V.sc (.int .u32 (604807628:Int))),(V.sc (.int .u32 (770255983:Int))),(V.sc (.int .u32 (1249150122:Int))),(V.sc (.int .u32 (1555081692:Int))),(V.sc (.int .u32 (1996064986:Int))),(V.sc (.int .u32 (2554220882:Int))),(V.sc (.int .u32 (2821834349:Int))),(V.sc (.int .u32 (2952996808:Int))),(V.sc (.int .u32 (3210313671:Int))),(V.sc (.int .u32 (3336571891:Int))),(V.sc (.int .u32 (3584528711:Int))),(V.sc (.int .u32 (113926993:Int))),(V.sc (.int .u32 (338241895:Int))),(V.sc (.int .u32 (666307205:Int))),(V.sc (.int .u32 (773529912:Int))),(V.sc (.int .u32 (1294757372:Int))),(V.sc (.int .u32 (1396182291:Int))),(V.sc (.int .u32 (1695183700:Int))),(V.sc (.int .u32 (1986661051:Int))),(V.sc (.int .u32 (2177026350:Int))),(V.sc (.int .u32 (2456956037:Int))),(V.sc (.int .u32 (2730485921:Int))),(V.sc (.int .u32 (2820302411:Int))),(V.sc (.int .u32 (3259730800:Int))),(V.sc (.int .u32 (3345764771:Int))),(V.sc (.int .u32 (3516065817:Int))),(V.sc (.int .u32 (3600352804:Int))),(V.sc (.int .u32 (4094571909:Int))),(V.sc (.int .u32 (275423344:Int))),(V.sc (.int .u32 (430227734:Int))),(V.sc (.int .u32 (506948616:Int))),(V.sc (.int .u32 (659060556:Int))),(V.sc (.int .u32 (883997877:Int))),(V.sc (.int .u32 (958139571:Int))),(V.sc (.int .u32 (1322822218:Int))),(V.sc (.int .u32 (1537002063:Int))),(V.sc (.int .u32 (1747873779:Int))),(V.sc (.int .u32 (1955562222:Int))),(V.sc (.int .u32 (2024104815:Int))),(V.sc (.int .u32 (2227730452:Int))),(V.sc (.int .u32 (2361852424:Int))),(V.sc (.int .u32 (2428436474:Int))),(V.sc (.int .u32 (2756734187:Int))),(V.sc (.int .u32 (3204031479:Int))),(V.sc (.int .u32 (3329325298:Int)))] fun r0 =>
 chk (0=0∧(List.length r0)=64∧64≠0) (
 k_fin r0)
abbrev zb0:=∀ (β:Type),Nat→(List V→Option β)→Option β
def xI (β:Type) (L:Nat) (k_fin:List V→Option β):Option β:=zrW L k_fin
def zrM (xI:zb0) (L:Nat) (β:Type) (args:List V) (bor:Bor) (k:KK β):Option β:=match args,bor with
 | [],[]=>xI β L (fun p0=>k (V.agg p0) [])
 | _,_=>none
def zmO:CC:=(.seq (.seq (.reg [oo 37 (.move (tq 15) false),
   oo 38 (.bin .lss (tq 37) (.const (.sc (.int .i64 64))))])
 (.cond (tq 38)
 .skip
 (.seq (.mask (bl 32660 133) (bl 10889035741470030808987042129089031602071 133))
 (.exit 0))))
 (.seq (.block 1 (.seq (.dreg [] [(oo 41 (.move (tq 14) false),q0),
   (oo 42 (.move (tq 11) false),q0),
   (oo 43 (.call 571 [((tq 42),0),((.const (.sc (.int .i64 6))),0)] []),q1),
   (oo 44 (.move (tq 11) false),q0),
   (oo 45 (.call 571 [((tq 44),0),((.const (.sc (.int .i64 11))),0)] []),q1),
   (oo 46 (.bin .xor (tq 43) (tq 45)),q0),
   (oo 47 (.move (tq 11) false),q0),
   (oo 48 (.call 571 [((tq 47),0),((.const (.sc (.int .i64 25))),0)] []),q1),
   (oo 49 (.bin .xor (tq 46) (tq 48)),q0),
   (oo 50 (.bin .add (tq 41) (tq 49)),q0),
   (oo 51 (.move (tq 11) false),q0),
   (oo 52 (.move (tq 12) false),q0),
   (oo 53 (.bin .and (tq 51) (tq 52)),q0),
   (oo 54 (.move (tq 11) false),q0),
   (oo 55 (.un .xor (tq 54)),q0),
   (oo 56 (.move (tq 13) false),q0),
   (oo 57 (.bin .and (tq 55) (tq 56)),q0),
   (oo 58 (.bin .xor (tq 53) (tq 57)),q0),
   (oo 59 (.bin .add (tq 50) (tq 58)),q0),
   (oo 60 (.move (tq 15) false),q0),
   (oo 61 (.indexAddrA 64 1 (tq 6) (tq 60)),q0),
   (oo 62 (.load false 1 (tq 61) false),q1),
   (oo 63 (.bin .add (tq 59) (tq 62)),q0),
   (oo 64 (.move (tq 15) false),q0),
   (oo 65 (.indexAddrA 64 1 (tq 5) (tq 64)),q0),
   (oo 66 (.load false 1 (tq 65) false),q1),
   (oo 67 (.bin .add (tq 63) (tq 66)),q0),
   (oo 16 (.move (tq 67) false),q0)])
 (.seq (.reg [oo 68 (.move (tq 7) false),
   oo 69 (.call 571 [((tq 68),0),((.const (.sc (.int .i64 2))),0)] []),
   oo 70 (.move (tq 7) false),
   oo 71 (.call 571 [((tq 70),0),((.const (.sc (.int .i64 13))),0)] []),
   oo 72 (.bin .xor (tq 69) (tq 71)),
   oo 73 (.move (tq 7) false),
   oo 74 (.call 571 [((tq 73),0),((.const (.sc (.int .i64 22))),0)] []),
   oo 75 (.bin .xor (tq 72) (tq 74)),
   oo 76 (.move (tq 7) false),
   oo 77 (.move (tq 8) false),
   oo 78 (.bin .and (tq 76) (tq 77)),
   oo 79 (.move (tq 7) false),
   oo 80 (.move (tq 9) false),
   oo 81 (.bin .and (tq 79) (tq 80)),
   oo 82 (.bin .xor (tq 78) (tq 81)),
   oo 83 (.move (tq 8) false),
   oo 84 (.move (tq 9) false),
   oo 85 (.bin .and (tq 83) (tq 84)),
   oo 86 (.bin .xor (tq 82) (tq 85)),
   oo 87 (.bin .add (tq 75) (tq 86)),
   oo 17 (.move (tq 87) false)])
 (.reg [oo 88 (.move (tq 13) false),
   oo 89 (.move (tq 12) false),
   oo 90 (.move (tq 11) false),
   oo 91 (.move (tq 10) false),
   oo 92 (.move (tq 16) false),
   oo 93 (.bin .add (tq 91) (tq 92)),
   oo 94 (.move (tq 9) false),
   oo 95 (.move (tq 8) false),
   oo 96 (.move (tq 7) false),
   oo 97 (.move (tq 16) false),
   oo 98 (.move (tq 17) false),
   oo 99 (.bin .add (tq 97) (tq 98)),
   oo 14 (.move (tq 88) false),
   oo 13 (.move (tq 89) false),
   oo 12 (.move (tq 90) false),
   oo 11 (.move (tq 93) false),
   oo 10 (.move (tq 94) false),
   oo 9 (.move (tq 95) false),
   oo 8 (.move (tq 96) false),
   oo 7 (.move (tq 99) false)]))))
 (.reg [oo 39 (.move (tq 15) false),
   oo 40 (.bin .add (tq 39) (.const (.sc (.int .i64 1)))),
   oo 15 (.move (tq 40) false)])))
def zo0:CC:=(.seq (.reg [oo 100 (.indexAddrA 8 1 (tq 2) (.const (.sc (.int .i64 0)))),
   oo 101 (.load false 1 (tq 100) false),
   oo 102 (.move (tq 7) false),
   oo 103 (.bin .add (tq 101) (tq 102)),
   oo 104 (.indexAddrA 8 1 (tq 2) (.const (.sc (.int .i64 1)))),
   oo 105 (.load false 1 (tq 104) false),
   oo 106 (.move (tq 8) false),
   oo 107 (.bin .add (tq 105) (tq 106)),
   oo 108 (.indexAddrA 8 1 (tq 2) (.const (.sc (.int .i64 2)))),
   oo 109 (.load false 1 (tq 108) false),
   oo 110 (.move (tq 9) false),
   oo 111 (.bin .add (tq 109) (tq 110)),
   oo 112 (.indexAddrA 8 1 (tq 2) (.const (.sc (.int .i64 3)))),
   oo 113 (.load false 1 (tq 112) false),
   oo 114 (.move (tq 10) false),
   oo 115 (.bin .add (tq 113) (tq 114)),
   oo 116 (.indexAddrA 8 1 (tq 2) (.const (.sc (.int .i64 4)))),
   oo 117 (.load false 1 (tq 116) false),
   oo 118 (.move (tq 11) false),
   oo 119 (.bin .add (tq 117) (tq 118)),
   oo 120 (.indexAddrA 8 1 (tq 2) (.const (.sc (.int .i64 5)))),
   oo 121 (.load false 1 (tq 120) false),
   oo 122 (.move (tq 12) false),
   oo 123 (.bin .add (tq 121) (tq 122)),
   oo 124 (.indexAddrA 8 1 (tq 2) (.const (.sc (.int .i64 6)))),
   oo 125 (.load false 1 (tq 124) false),
   oo 126 (.move (tq 13) false),
   oo 127 (.bin .add (tq 125) (tq 126)),
   oo 128 (.indexAddrA 8 1 (tq 2) (.const (.sc (.int .i64 7)))),
   oo 129 (.load false 1 (tq 128) false),
   oo 130 (.move (tq 14) false),
   oo 131 (.bin .add (tq 129) (tq 130)),
   oo 132 (.build [(.sc (.int .u32 0)),(.sc (.int .u32 0)),(.sc (.int .u32 0)),(.sc (.int .u32 0)),(.sc (.int .u32 0)),(.sc (.int .u32 0)),(.sc (.int .u32 0)),(.sc (.int .u32 0))] [(0,1,(tq 103)),(1,1,(tq 107)),(2,1,(tq 111)),(3,1,(tq 115)),(4,1,(tq 119)),(5,1,(tq 123)),(6,1,(tq 127)),(7,1,(tq 131))]),
   oz (.store 8 (tq 4) (tq 132))])
 .ret)
def zlr:CF:=⟨133,[.cell 4 true 8],
 (.seq (.reg [oo 2 (.box true (tq 0)),
   oo 3 (.box true (tq 1)),
   oo 4 (.alloc true [(.sc (.int .u32 0)),(.sc (.int .u32 0)),(.sc (.int .u32 0)),(.sc (.int .u32 0)),(.sc (.int .u32 0)),(.sc (.int .u32 0)),(.sc (.int .u32 0)),(.sc (.int .u32 0))])])
 (.seq (.reg [oo 18 (.load true 64 (tq 3) false),
   oo 19 (.call 569 [((tq 18),0)] []),
   oo 20 (.call 570 [] []),
   oo 5 (.alloc true (rp 64 (.sc (.int .u32 0)) [])),
   oo 6 (.alloc true (rp 64 (.sc (.int .u32 0)) [])),
   oz (.store 64 (tq 5) (tq 19)),
   oz (.store 64 (tq 6) (tq 20))])
 (.seq (.dreg [] [(oo 21 (.indexAddrA 8 1 (tq 2) (.const (.sc (.int .i64 0)))),q0),
   (oo 22 (.load false 1 (tq 21) false),qc [] []),
   (oo 23 (.indexAddrA 8 1 (tq 2) (.const (.sc (.int .i64 1)))),q0),
   (oo 24 (.load false 1 (tq 23) false),qc [] []),
   (oo 25 (.indexAddrA 8 1 (tq 2) (.const (.sc (.int .i64 2)))),q0),
   (oo 26 (.load false 1 (tq 25) false),qc [] []),
   (oo 27 (.indexAddrA 8 1 (tq 2) (.const (.sc (.int .i64 3)))),q0),
   (oo 28 (.load false 1 (tq 27) false),qc [] []),
   (oo 29 (.indexAddrA 8 1 (tq 2) (.const (.sc (.int .i64 4)))),q0),
   (oo 30 (.load false 1 (tq 29) false),qc [] []),
   (oo 31 (.indexAddrA 8 1 (tq 2) (.const (.sc (.int .i64 5)))),q0),
   (oo 32 (.load false 1 (tq 31) false),qc [] []),
   (oo 33 (.indexAddrA 8 1 (tq 2) (.const (.sc (.int .i64 6)))),q0),
   (oo 34 (.load false 1 (tq 33) false),qc [] []),
   (oo 35 (.indexAddrA 8 1 (tq 2) (.const (.sc (.int .i64 7)))),q0),
   (oo 36 (.load false 1 (tq 35) false),qc [] []),
   (oo 7 (.move (tq 22) false),q0),
   (oo 8 (.move (tq 24) false),q0),
   (oo 9 (.move (tq 26) false),q0),
   (oo 10 (.move (tq 28) false),q0),
   (oo 11 (.move (tq 30) false),q0),
   (oo 12 (.move (tq 32) false),q0),
   (oo 13 (.move (tq 34) false),q0),
   (oo 14 (.move (tq 36) false),q0)])
 (.seq (.seq (.reg [oo 15 (.move (.const (.sc (.int .i64 0))) false)])
 (.block 0 (.loop (bl 65524 133) (bl 10889035741470030808987042129089031634935 133)
 zmO)))
 zo0))))⟩
def zjN:Hint:=⟨[],[],[none,some ((bl 65524 133),(bl 10889035741470030808987042129089031634935 133)),none,some ((bl 32660 133),(bl 10889035741470030808987042129089031602071 133)),none,none],[],[],false,false⟩
def zA4:Nat→Sh:=xT [(22,(.int .u32)),(24,(.int .u32)),(26,(.int .u32)),(28,(.int .u32)),(30,(.int .u32)),(32,(.int .u32)),(34,(.int .u32)),(36,(.int .u32)),(62,(.int .u32)),(66,(.int .u32)),(101,(.int .u32)),(105,(.int .u32)),(109,(.int .u32)),(113,(.int .u32)),(117,(.int .u32)),(121,(.int .u32)),(125,(.int .u32)),(129,(.int .u32))]
def zAY (yL:zcm) (xI:zb0) (xp:xX) (L:Nat):CBC:=(zD 571 (zqh xp L) (zD 570 (zrM xI L) (zD 569 (zsX yL L) noC)))
def zym:St→St:=xY 0 (bl 65524 133) (bl 10889035741470030808987042129089031634935 133)
def zws (p7 p8 p9 p10 p11 p12 p13 p14 p15:Int) (b2:List V) (zEK zEL zEJ zEO zEV zEW zEX zEY:Int) (b5 b6:List V):St:=⟨(jn 2 ((V.ptr 2 0)::(jn 1 ((V.ptr 4 0)::((V.ptr 5 0)::((V.ptr 6 0)::((V.sc (.int .u32 p7))::((V.sc (.int .u32 p8))::((V.sc (.int .u32 p9))::((V.sc (.int .u32 p10))::((V.sc (.int .u32 p11))::((V.sc (.int .u32 p12))::((V.sc (.int .u32 p13))::((V.sc (.int .u32 p14))::((V.sc (.int .i64 p15))::(jn 117 [])))))))))))))))),(gn 2 ((.live true b2)::(gn 1 ((.live true [(V.sc (.int .u32 zEK)),(V.sc (.int .u32 zEL)),(V.sc (.int .u32 zEJ)),(V.sc (.int .u32 zEO)),(V.sc (.int .u32 zEV)),(V.sc (.int .u32 zEW)),(V.sc (.int .u32 zEX)),(V.sc (.int .u32 zEY))])::((.live true b5)::((.live true b6)::(gn 126 [])))))))⟩
def zzO (p7 p8 p9 p10 p11 p12 p13 p14:Int) (b2:List V) (zEK zEL zEJ zEO zEV zEW zEX zEY:Int):St:=⟨(jn 2 ((V.ptr 2 0)::(jn 1 ((V.ptr 4 0)::(jn 2 ((V.sc (.int .u32 p7))::((V.sc (.int .u32 p8))::((V.sc (.int .u32 p9))::((V.sc (.int .u32 p10))::((V.sc (.int .u32 p11))::((V.sc (.int .u32 p12))::((V.sc (.int .u32 p13))::((V.sc (.int .u32 p14))::(jn 118 [])))))))))))))),(gn 2 ((.live true b2)::(gn 1 ((.live true [(V.sc (.int .u32 zEK)),(V.sc (.int .u32 zEL)),(V.sc (.int .u32 zEJ)),(V.sc (.int .u32 zEO)),(V.sc (.int .u32 zEV)),(V.sc (.int .u32 zEW)),(V.sc (.int .u32 zEX)),(V.sc (.int .u32 zEY))])::(gn 128 [])))))⟩
abbrev zhB (β:Type):Type:=Int→Int→Int→Int→Int→Int→Int→Int→Int→List V→Int→Int→Int→Int→Int→Int→Int→Int→List V→List V→Option β
abbrev zkL (β:Type):Type:=Int→Int→Int→Int→Int→Int→Int→Int→List V→Int→Int→Int→Int→Int→Int→Int→Int→Option β
def zsT {β:Type} (yL:zcm) (xI:zb0) (xp:xX) (L:Nat) (p0 p1:List V) (k_hbbbaba:zhB β):Option β :=
 chk (0+64≤(List.length p1)) (
 yL β L (List.take 64 p1) (fun v0 =>
 xI β L  (fun v1 =>
 chk ((List.length v0)=64∧0+64≤64) (
 lt (xn (List.replicate 64 (V.sc (.int .u32 (0:Int)))) 0 v0) fun r2 =>
 chk ((List.length v1)=64∧0+64≤64) (
 lt (xn (List.replicate 64 (V.sc (.int .u32 (0:Int)))) 0 v1) fun r3 =>
 cI .u32 p0 0 fun v4 =>
 cI .u32 p0 1 fun v5 =>
 cI .u32 p0 2 fun v6 =>
 cI .u32 p0 3 fun v7 =>
 cI .u32 p0 4 fun v8 =>
 cI .u32 p0 5 fun v9 =>
 cI .u32 p0 6 fun v10 =>
 cI .u32 p0 7 fun v11 =>
 k_hbbbaba v4 v5 v6 v7 v8 v9 v10 v11 (0:Int) p0 (0:Int) (0:Int) (0:Int) (0:Int) (0:Int) (0:Int) (0:Int) (0:Int) r2 r3)))))
def zoa {β:Type} (yL:zcm) (xI:zb0) (xp:xX) (L:Nat) (p7 p8 p9 p10 p11 p12 p13 p14 p15:Int) (b2:List V) (zEK zEL zEJ zEO zEV zEW zEX zEY:Int) (b5 b6:List V) (k_hbbbaba:zhB β) (k_x0:zkL β):Option β :=
 ifb (decide (p15 < (64:Int))) (
 xp β L p11 (6:Int) (fun v12 =>
 xp β L p11 (11:Int) (fun v13 =>
 lt (zb1 .u32 v12 v13) fun x14 =>
 xp β L p11 (25:Int) (fun v15 =>
 lt (zb1 .u32 x14 v15) fun x16 =>
 lt (IntKind.wrap .u32 ((p14:Int)+x16)) fun x17 =>
 lt (ze5 .u32 p11 p12) fun x18 =>
 lt (zBG .u32 p11) fun x19 =>
 lt (ze5 .u32 x19 p13) fun x20 =>
 lt (zb1 .u32 x18 x20) fun x21 =>
 lt (IntKind.wrap .u32 ((x17:Int)+x21)) fun x22 =>
 chk (0≤p15∧p15 < ((64:Nat):Int)) (
 cI .u32 b6 (0+((Int.toNat p15) * 1)) fun v23 =>
 lt (IntKind.wrap .u32 ((x22:Int)+v23)) fun x24 =>
 chk (0≤p15∧p15 < ((64:Nat):Int)) (
 cI .u32 b5 (0+((Int.toNat p15) * 1)) fun v25 =>
 lt (IntKind.wrap .u32 ((x24:Int)+v25)) fun x26 =>
 xp β L p7 (2:Int) (fun v27 =>
 xp β L p7 (13:Int) (fun v28 =>
 lt (zb1 .u32 v27 v28) fun x29 =>
 xp β L p7 (22:Int) (fun v30 =>
 lt (zb1 .u32 x29 v30) fun x31 =>
 lt (ze5 .u32 p7 p8) fun x32 =>
 lt (ze5 .u32 p7 p9) fun x33 =>
 lt (zb1 .u32 x32 x33) fun x34 =>
 lt (ze5 .u32 p8 p9) fun x35 =>
 lt (zb1 .u32 x34 x35) fun x36 =>
 lt (IntKind.wrap .u32 ((x31:Int)+x36)) fun x37 =>
 lt (IntKind.wrap .u32 ((p10:Int)+x26)) fun x38 =>
 lt (IntKind.wrap .u32 ((x26:Int)+x37)) fun x39 =>
 lt (IntKind.wrap .i64 ((p15:Int)+(1:Int))) fun x40 =>
 k_hbbbaba x39 p7 p8 p9 x38 p11 p12 p13 x40 b2 zEK zEL zEJ zEO zEV zEW zEX zEY b5 b6))))))))) (
 k_x0 p7 p8 p9 p10 p11 p12 p13 p14 b2 zEK zEL zEJ zEO zEV zEW zEX zEY)
def zmd {β:Type} (yL:zcm) (xI:zb0) (xp:xX) (L:Nat) (p7 p8 p9 p10 p11 p12 p13 p14:Int) (b2:List V) (zEK zEL zEJ zEO zEV zEW zEX zEY:Int) (k_fin:List V→Option β):Option β :=
 cI .u32 b2 0 fun v41 =>
 lt (IntKind.wrap .u32 ((v41:Int)+p7)) fun x42 =>
 cI .u32 b2 1 fun v43 =>
 lt (IntKind.wrap .u32 ((v43:Int)+p8)) fun x44 =>
 cI .u32 b2 2 fun v45 =>
 lt (IntKind.wrap .u32 ((v45:Int)+p9)) fun x46 =>
 cI .u32 b2 3 fun v47 =>
 lt (IntKind.wrap .u32 ((v47:Int)+p10)) fun x48 =>
 cI .u32 b2 4 fun v49 =>
 lt (IntKind.wrap .u32 ((v49:Int)+p11)) fun x50 =>
 cI .u32 b2 5 fun v51 =>
 lt (IntKind.wrap .u32 ((v51:Int)+p12)) fun x52 =>
 cI .u32 b2 6 fun v53 =>
 lt (IntKind.wrap .u32 ((v53:Int)+p13)) fun x54 =>
 cI .u32 b2 7 fun v55 =>
 lt (IntKind.wrap .u32 ((v55:Int)+p14)) fun x56 =>
 lt [(V.sc (.int .u32 x42)),(V.sc (.int .u32 x44)),(V.sc (.int .u32 x46)),(V.sc (.int .u32 x48)),(V.sc (.int .u32 x50)),(V.sc (.int .u32 x52)),(V.sc (.int .u32 x54)),(V.sc (.int .u32 x56))] fun r57 =>
 chk (0=0∧(List.length r57)=8∧8≠0) (
 k_fin r57)
def zhW {β:Type} (yL:zcm) (xI:zb0) (xp:xX) (L:Nat) (k_x0:zkL β):Nat→Int→Int→Int→Int→Int→Int→Int→Int→Int→List V→Int→Int→Int→Int→Int→Int→Int→Int→List V→List V→Option β
 | 0,_,_,_,_,_,_,_,_,_,_,_,_,_,_,_,_,_,_,_,_=>none
 | n+1,p7,p8,p9,p10,p11,p12,p13,p14,p15,b2,zEK,zEL,zEJ,zEO,zEV,zEW,zEX,zEY,b5,b6=>zoa yL xI xp L p7 p8 p9 p10 p11 p12 p13 p14 p15 b2 zEK zEL zEJ zEO zEV zEW zEX zEY b5 b6 (fun p7 p8 p9 p10 p11 p12 p13 p14 p15 b2 zEK zEL zEJ zEO zEV zEW zEX zEY b5 b6=>zhW yL xI xp L k_x0 n p7 p8 p9 p10 p11 p12 p13 p14 p15 b2 zEK zEL zEJ zEO zEV zEW zEX zEY b5 b6) k_x0
def zsR {β:Type} (yL:zcm) (xI:zb0) (xp:xX) (L:Nat) (p0 p1:List V) (k_fin:List V→Option β):Option β :=
 zsT yL xI xp L p0 p1 (fun p7 p8 p9 p10 p11 p12 p13 p14 p15 b2 zEK zEL zEJ zEO zEV zEW zEX zEY b5 b6=>zhW yL xI xp L (fun p7 p8 p9 p10 p11 p12 p13 p14 b2 zEK zEL zEJ zEO zEV zEW zEX zEY=>zmd yL xI xp L p7 p8 p9 p10 p11 p12 p13 p14 b2 zEK zEL zEJ zEO zEV zEW zEX zEY k_fin) L p7 p8 p9 p10 p11 p12 p13 p14 p15 b2 zEK zEL zEJ zEO zEV zEW zEX zEY b5 b6)
abbrev zak:=∀ (β:Type),Nat→List V→List V→(List V→Option β)→Option β
def xw (β:Type) (L:Nat) (p0 p1:List V) (k_fin:List V→Option β):Option β:=zsR yL xI xp L p0 p1 k_fin
def zsx (xw:zak) (L:Nat) (β:Type) (args:List V) (bor:Bor) (k:KK β):Option β:=match args,bor with
 | [a0,a1],[]=>aG a0 fun p0=>aG a1 fun p1=>xw β L p0 p1 (fun p0=>k (V.agg p0) [])
 | _,_=>none
def zo8:CC:=(.seq (.reg [oo 35 (.bin .lss (tq 34) (.const (.sc (.int .i64 8))))])
 (.seq (.cond (tq 35)
 .skip
 (.seq (.mask (bl 132 66) (bl 73786976294838205615 66))
 (.exit 2)))
 (.seq (.block 3 (.seq (.reg [oo 36 (.move (tq 34) false),
   oo 37 (.indexA false 8 1 (tq 33) (tq 34)),
   oo 8 (.move (tq 36) false),
   oo 9 (.move (tq 37) false)])
 (.reg [oo 38 (.move (tq 8) false),
   oo 39 (.bin .mul (.const (.sc (.int .i64 4))) (tq 38)),
   oo 40 (.move (tq 8) false),
   oo 41 (.bin .mul (.const (.sc (.int .i64 4))) (tq 40)),
   oo 42 (.bin .add (tq 41) (.const (.sc (.int .i64 1)))),
   oo 43 (.move (tq 8) false),
   oo 44 (.bin .mul (.const (.sc (.int .i64 4))) (tq 43)),
   oo 45 (.bin .add (tq 44) (.const (.sc (.int .i64 2)))),
   oo 46 (.move (tq 8) false),
   oo 47 (.bin .mul (.const (.sc (.int .i64 4))) (tq 46)),
   oo 48 (.bin .add (tq 47) (.const (.sc (.int .i64 3)))),
   oo 49 (.move (tq 9) false),
   oo 50 (.bin .shr (tq 49) (.const (.sc (.int .u64 24)))),
   oo 51 (.conv .u8 (tq 50)),
   oo 52 (.move (tq 9) false),
   oo 53 (.bin .shr (tq 52) (.const (.sc (.int .u64 16)))),
   oo 54 (.conv .u8 (tq 53)),
   oo 55 (.move (tq 9) false),
   oo 56 (.bin .shr (tq 55) (.const (.sc (.int .u64 8)))),
   oo 57 (.conv .u8 (tq 56)),
   oo 58 (.move (tq 9) false),
   oo 59 (.conv .u8 (tq 58)),
   oo 60 (.indexAddrA 32 1 (tq 7) (tq 39)),
   oz (.store 1 (tq 60) (tq 51)),
   oo 61 (.indexAddrA 32 1 (tq 7) (tq 42)),
   oz (.store 1 (tq 61) (tq 54)),
   oo 62 (.indexAddrA 32 1 (tq 7) (tq 45)),
   oz (.store 1 (tq 62) (tq 57)),
   oo 63 (.indexAddrA 32 1 (tq 7) (tq 48)),
   oz (.store 1 (tq 63) (tq 59))])))
 (.reg [oo 64 (.bin .add (tq 34) (.const (.sc (.int .i64 1)))),
   oo 34 (.move (tq 64) false)]))))
def zqz:CC:=(.seq (.seq (.reg [oo 18 (.move (tq 5) false),
   oo 19 (.bin .add (tq 18) (.const (.sc (.int .i64 64)))),
   oo 20 (.move (tq 3) false),
   oo 21 (.lenS (tq 20)),
   oo 22 (.bin .leq (tq 19) (tq 21))])
 (.cond (tq 22)
 .skip
 (.seq (.mask (bl 20 66) (bl 73786976290004270879 66))
 (.exit 0))))
 (.seq (.block 1 (.seq (.reg [oo 6 (.alloc true (rp 64 (.sc (.int .u8 0)) []))])
 (.seq (.dreg [] [(oo 25 (.sliceA 64 1 (tq 6) none none none),q0),
   (oo 26 (.move (tq 3) false),q0),
   (oo 27 (.move (tq 5) false),q0),
   (oo 28 (.sliceS 1 (tq 26) (some (tq 27)) none none),q0),
   (oo 29 (.copy 1 (tq 25) (tq 28)),q0)])
 (.reg [oo 30 (.load true 8 (tq 4) false),
   oo 31 (.load true 64 (tq 6) false),
   oo 32 (.call 533 [((tq 30),0),((tq 31),0)] []),
   oz (.store 8 (tq 4) (tq 32))]))))
 (.reg [oo 23 (.move (tq 5) false),
   oo 24 (.bin .add (tq 23) (.const (.sc (.int .i64 64)))),
   oo 5 (.move (tq 24) false)])))
def zrD:CC:=(.seq (.reg [oo 65 (.load true 32 (tq 7) false),
   oz (.store 32 (tq 2) (tq 65))])
 .ret)
def ztu:CC:=(.seq (.reg [oo 7 (.alloc true (rp 32 (.sc (.int .u8 0)) []))])
 (.seq (.seq (.reg [oo 33 (.load true 8 (tq 4) false),
   oo 34 (.move (.const (.sc (.int .i64 0))) false)])
 (.block 2 (.loop (bl 25769803908 66) (bl 73786976294838205615 66)
 zo8)))
 zrD))
def zrc:CF:=⟨66,[.cell 2 true 32],
 (.seq (.reg [oo 2 (.alloc true (rp 32 (.sc (.int .u8 0)) []))])
 (.seq (.reg [oo 10 (.move (tq 0) false),
   oo 11 (.append 1 1 (.const (.gs 1 [])) (tq 10)),
   oo 12 (.move (tq 0) false),
   oo 13 (.lenS (tq 12)),
   oo 14 (.conv .u64 (tq 13)),
   oo 15 (.call 531 [((tq 14),0)] []),
   oo 16 (.append 1 1 (tq 11) (tq 15)),
   oo 3 (.move (tq 16) true)])
 (.seq (.reg [oo 17 (.call 532 [] []),
   oo 4 (.alloc true [(.sc (.int .u32 0)),(.sc (.int .u32 0)),(.sc (.int .u32 0)),(.sc (.int .u32 0)),(.sc (.int .u32 0)),(.sc (.int .u32 0)),(.sc (.int .u32 0)),(.sc (.int .u32 0))]),
   oz (.store 8 (tq 4) (tq 17))])
 (.seq (.seq (.reg [oo 5 (.move (.const (.sc (.int .i64 0))) false)])
 (.block 0 (.loop (bl 60 66) (bl 73786976290004270911 66)
 zqz)))
 ztu))))⟩
def zoq:Hint:=⟨[(1,7)],[],[none,some ((bl 60 66),(bl 73786976290004270911 66)),none,some ((bl 20 66),(bl 73786976290004270879 66)),none,none,some ((bl 25769803908 66),(bl 73786976294838205615 66)),none,some ((bl 132 66),(bl 73786976294838205615 66)),none,none],[],[],false,false⟩
def zDA:Nat→Sh:=xT [(37,(.int .u32))]
def zDF (zK:zce) (yx:zaF) (xw:zak) (L:Nat):CBC:=(zD 533 (zsx xw L) (zD 532 (ztX yx L) (zD 531 (zyc zK L) noC)))
def zA3:St→St:=xY 0 (bl 60 66) (bl 73786976290004270911 66)
def zzV:St→St:=xY 0 (bl 25769803908 66) (bl 73786976294838205615 66)
def zy4 (p3:List (List V)) (p5:Int) (b2 b4:List V):St:=⟨(jn 2 ((V.ptr 2 0)::((V.gs 1 p3)::((V.ptr 4 0)::((V.sc (.int .i64 p5))::(jn 60 [])))))),(gn 2 ((.live true b2)::(gn 1 ((.live true b4)::(gn 61 [])))))⟩
def zBV (b2 b4:List V):St:=⟨(jn 2 ((V.ptr 2 0)::(jn 1 ((V.ptr 4 0)::(jn 61 []))))),(gn 2 ((.live true b2)::(gn 1 ((.live true b4)::(gn 61 [])))))⟩
def zyp (p33:List V) (p34:Int) (b2 b7:List V):St:=⟨(jn 2 ((V.ptr 2 0)::(jn 4 ((V.ptr 7 0)::(jn 25 ((V.agg p33)::((V.sc (.int .i64 p34))::(jn 31 [])))))))),(gn 2 ((.live true b2)::(gn 4 ((.live true b7)::(gn 58 [])))))⟩
def zBX (b2 b7:List V):St:=⟨(jn 2 ((V.ptr 2 0)::(jn 4 ((V.ptr 7 0)::(jn 58 []))))),(gn 2 ((.live true b2)::(gn 4 ((.live true b7)::(gn 58 [])))))⟩
def zyh {β:Type} (zK:zce) (yx:zaF) (xw:zak) (L:Nat) (p0:List (List V)) (k_hbbbaba:List (List V)→Int→List V→List V→Option β):Option β :=
 chk ((List.length ([]:List (List V))+List.length p0) * 1≤yj∧List.length ([]:List (List V))+List.length p0≤yj) (
 lt (([]:List (List V))++p0) fun l0 =>
 lt (IntKind.wrap .u64 ((List.length p0:Nat):Int)) fun x1 =>
 zK β L x1 (fun v2 =>
 chk ((List.length l0+List.length v2) * 1≤yj∧List.length l0+List.length v2≤yj) (
 lt (l0++v2) fun l3 =>
 yx β L  (fun v4 =>
 chk ((List.length v4)=8∧0+8≤8) (
 lt (xn [(V.sc (.int .u32 (0:Int))),(V.sc (.int .u32 (0:Int))),(V.sc (.int .u32 (0:Int))),(V.sc (.int .u32 (0:Int))),(V.sc (.int .u32 (0:Int))),(V.sc (.int .u32 (0:Int))),(V.sc (.int .u32 (0:Int))),(V.sc (.int .u32 (0:Int)))] 0 v4) fun r5 =>
 k_hbbbaba l3 (0:Int) (List.replicate 32 (V.sc (.int .u8 (0:Int)))) r5)))))
def zr0 {β:Type} (zK:zce) (yx:zaF) (xw:zak) (L:Nat) (p3:List (List V)) (p5:Int) (b2 b4:List V) (k_hbbbaba:List (List V)→Int→List V→List V→Option β) (k_x0:List V→List V→Option β):Option β :=
 lt (IntKind.wrap .i64 ((p5:Int)+(64:Int))) fun x6 =>
 ifb (decide (x6≤((List.length p3:Nat):Int))) (
 chk (0≤p5∧p5≤(((List.length p3):Nat):Int)) (
 lt (xn (List.replicate 64 (V.sc (.int .u8 (0:Int)))) 0 (List.flatten (List.take (min (List.length (List.take ((List.length p3) - (Int.toNat p5)) (List.drop (Int.toNat p5) p3))) 64) (List.take ((List.length p3) - (Int.toNat p5)) (List.drop (Int.toNat p5) p3))))) fun r7 =>
 chk (0+8≤(List.length b4)) (
 chk (0+64≤(List.length r7)) (
 xw β L (List.take 8 b4) (List.take 64 r7) (fun v8 =>
 chk ((List.length v8)=8∧0+8≤(List.length b4)) (
 lt (xn b4 0 v8) fun r9 =>
 lt (IntKind.wrap .i64 ((p5:Int)+(64:Int))) fun x10 =>
 k_hbbbaba p3 x10 b2 r9)))))) (
 k_x0 b2 b4)
def zp6 {β:Type} (zK:zce) (yx:zaF) (xw:zak) (L:Nat) (b2 b4:List V) (k_hbbbbbaba:List V→Int→List V→List V→Option β):Option β :=
 chk (0+8≤(List.length b4)) (
 k_hbbbbbaba (List.take 8 b4) (0:Int) b2 (List.replicate 32 (V.sc (.int .u8 (0:Int)))))
def zqc {β:Type} (zK:zce) (yx:zaF) (xw:zak) (L:Nat) (p33:List V) (p34:Int) (b2 b7:List V) (k_hbbbbbaba:List V→Int→List V→List V→Option β) (k_x2:List V→List V→Option β):Option β :=
 ifb (decide (p34 < (8:Int))) (
 chk (0≤p34∧p34 < ((8:Nat):Int)) (
 cI .u32 p33 ((Int.toNat p34) * 1) fun v11 =>
 lt (IntKind.wrap .i64 (((4:Int):Int) * p34)) fun x12 =>
 lt (IntKind.wrap .i64 (((4:Int):Int) * p34)) fun x13 =>
 lt (IntKind.wrap .i64 ((x13:Int)+(1:Int))) fun x14 =>
 lt (IntKind.wrap .i64 (((4:Int):Int) * p34)) fun x15 =>
 lt (IntKind.wrap .i64 ((x15:Int)+(2:Int))) fun x16 =>
 lt (IntKind.wrap .i64 (((4:Int):Int) * p34)) fun x17 =>
 lt (IntKind.wrap .i64 ((x17:Int)+(3:Int))) fun x18 =>
 lt (zc3 .u32 v11 (24:Int)) fun x19 =>
 lt (IntKind.wrap .u8 x19) fun x20 =>
 lt (zc3 .u32 v11 (16:Int)) fun x21 =>
 lt (IntKind.wrap .u8 x21) fun x22 =>
 lt (zc3 .u32 v11 (8:Int)) fun x23 =>
 lt (IntKind.wrap .u8 x23) fun x24 =>
 lt (IntKind.wrap .u8 v11) fun x25 =>
 chk (0≤x12∧x12 < ((32:Nat):Int)) (
 chk (1=1∧(0+((Int.toNat x12) * 1))+1≤(List.length b7)) (
 lt (xn b7 (0+((Int.toNat x12) * 1)) [(V.sc (.int .u8 x20))]) fun r26 =>
 chk (0≤x14∧x14 < ((32:Nat):Int)) (
 chk (1=1∧(0+((Int.toNat x14) * 1))+1≤(List.length r26)) (
 lt (xn r26 (0+((Int.toNat x14) * 1)) [(V.sc (.int .u8 x22))]) fun r27 =>
 chk (0≤x16∧x16 < ((32:Nat):Int)) (
 chk (1=1∧(0+((Int.toNat x16) * 1))+1≤(List.length r27)) (
 lt (xn r27 (0+((Int.toNat x16) * 1)) [(V.sc (.int .u8 x24))]) fun r28 =>
 chk (0≤x18∧x18 < ((32:Nat):Int)) (
 chk (1=1∧(0+((Int.toNat x18) * 1))+1≤(List.length r28)) (
 lt (xn r28 (0+((Int.toNat x18) * 1)) [(V.sc (.int .u8 x25))]) fun r29 =>
 lt (IntKind.wrap .i64 ((p34:Int)+(1:Int))) fun x30 =>
 k_hbbbbbaba p33 x30 b2 r29)))))))))) (
 k_x2 b2 b7)
def zoD {β:Type} (zK:zce) (yx:zaF) (xw:zak) (L:Nat) (b2 b7:List V) (k_fin:List V→Option β):Option β :=
 chk (0+32≤(List.length b7)) (
 chk ((List.length (List.take 32 b7))=32∧0+32≤(List.length b2)) (
 lt (xn b2 0 (List.take 32 b7)) fun r31 =>
 chk (0=0∧(List.length r31)=32∧32≠0) (
 k_fin r31)))
def zln {β:Type} (zK:zce) (yx:zaF) (xw:zak) (L:Nat) (k_x0:List V→List V→Option β):Nat→List (List V)→Int→List V→List V→Option β
 | 0,_,_,_,_=>none
 | n+1,p3,p5,b2,b4=>zr0 zK yx xw L p3 p5 b2 b4 (fun p3 p5 b2 b4=>zln zK yx xw L k_x0 n p3 p5 b2 b4) k_x0
def zjO {β:Type} (zK:zce) (yx:zaF) (xw:zak) (L:Nat) (k_x2:List V→List V→Option β):Nat→List V→Int→List V→List V→Option β
 | 0,_,_,_,_=>none
 | n+1,p33,p34,b2,b7=>zqc zK yx xw L p33 p34 b2 b7 (fun p33 p34 b2 b7=>zjO zK yx xw L k_x2 n p33 p34 b2 b7) k_x2
def zpm {β:Type} (zK:zce) (yx:zaF) (xw:zak) (L:Nat) (b2 b4:List V) (k_fin:List V→Option β):Option β :=
 zp6 zK yx xw L b2 b4 (fun p33 p34 b2 b7=>zjO zK yx xw L (fun b2 b7=>zoD zK yx xw L b2 b7 k_fin) L p33 p34 b2 b7)
def zx3 {β:Type} (zK:zce) (yx:zaF) (xw:zak) (L:Nat) (p0:List (List V)) (k_fin:List V→Option β):Option β :=
 zyh zK yx xw L p0 (fun p3 p5 b2 b4=>zln zK yx xw L (fun b2 b4=>zpm zK yx xw L b2 b4 k_fin) L p3 p5 b2 b4)
abbrev znO:=∀ (β:Type),Nat→List (List V)→(List V→Option β)→Option β
def zeZ (β:Type) (L:Nat) (p0:List (List V)) (k_fin:List V→Option β):Option β:=zx3 zK yx xw L p0 k_fin
def zx6 (zeZ:znO) (L:Nat) (β:Type) (args:List V) (bor:Bor) (k:KK β):Option β:=match args,bor with
 | [a0],[]=>aL 1 a0 fun p0=>zeZ β L p0 (fun p0=>k (V.agg p0) [])
 | _,_=>none
def zob:CF:=⟨14,[.tmp 4],
 (.seq (.reg [oo 4 (.move (.const (.gs 1 [])) true)])
 (.seq (.reg [oo 6 (.move (tq 0) false),
   oo 7 (.move (tq 1) false),
   oo 8 (.buildSlice 1 2 [(.sl 1 [])] [(0,1,(tq 6)),(1,1,(tq 7))]),
   oo 9 (.call 453 [((tq 8),0)] []),
   oo 10 (.call 494 [((tq 9),0)] []),
   oo 5 (.alloc true (rp 32 (.sc (.int .u8 0)) [])),
   oz (.store 32 (tq 5) (tq 10))])
 (.seq (.reg [oo 11 (.buildSlice 1 0 [(.sc (.int .u8 0))] []),
   oo 12 (.sliceA 32 1 (tq 5) none (some (.const (.sc (.int .i64 4)))) none),
   oo 13 (.append 1 1 (tq 11) (tq 12)),
   oo 4 (.move (tq 13) true)])
 .ret)))⟩
def zmr:Hint:=⟨[(0,0),(2,3)],[],[none],[],[],false,false⟩
def zCq:Nat→Sh:=xT []
def zCU (zc:zi) (zeZ:znO) (L:Nat):CBC:=(zD 494 (zx6 zeZ L) (zD 453 (zek zc L) noC))
def zwf {β:Type} (zc:zi) (zeZ:znO) (L:Nat) (p0 p1:List (List V)) (k_fin:List (List V)→Option β):Option β :=
 zc β L (xh 1 2 [(V.sl 1 p0),(V.sl 1 p1)]) (fun v0 =>
 zeZ β L v0 (fun v1 =>
 chk ((List.length v1)=32∧0+32≤32) (
 lt (xn (List.replicate 32 (V.sc (.int .u8 (0:Int)))) 0 v1) fun r2 =>
 chk (0+32 * 1≤(List.length r2)) (
 chk ((List.length ([]:List (List V))+List.length (xh 1 4 r2)) * 1≤yj∧List.length ([]:List (List V))+List.length (xh 1 4 r2)≤yj) (
 lt (([]:List (List V))++(xh 1 4 r2)) fun l3 =>
 k_fin l3)))))
abbrev zf9:=∀ (β:Type),Nat→List (List V)→List (List V)→(List (List V)→Option β)→Option β
def zaR (β:Type) (L:Nat) (p0 p1:List (List V)) (k_fin:List (List V)→Option β):Option β:=zwf zc zeZ L p0 p1 k_fin
def zpE (zaR:zf9) (L:Nat) (β:Type) (args:List V) (bor:Bor) (k:KK β):Option β:=match args,bor with
 | [a0,a1],[]=>aL 1 a0 fun p0=>aL 1 a1 fun p1=>zaR β L p0 p1 (fun p0=>k (V.gs 1 p0) [])
 | _,_=>none
def zid:CF:=⟨10,[.tmp 4],
 (.seq (.reg [oo 4 (.move (.const (.sc (.bool false))) false)])
 (.seq (.reg [oo 5 (.move (tq 0) false),
   oo 6 (.toStr (tq 5)),
   oo 7 (.move (tq 1) false),
   oo 8 (.toStr (tq 7)),
   oo 9 (.bin .eql (tq 6) (tq 8)),
   oo 4 (.move (tq 9) false)])
 .ret))⟩
def zm9:Hint:=⟨[],[],[none],[],[],false,false⟩
def zle:Nat→Sh:=xT []
def zlk (L:Nat):CBC:=noC
def zmM {β:Type} (L:Nat) (p0 p1:List (List V)) (k_fin:Bool→Option β):Option β :=
 zsC p0 fun v0 =>
 zsC p1 fun v1 =>
 k_fin (ByteArray.toList v0 == ByteArray.toList v1)
theorem ztn {β:Type} (L:Nat) (p0 p1:List (List V)) (k:KK β):xB zle (zlk L) L zid [(V.sl 1 p0),(V.sl 1 p1)] [] k=zmM L p0 p1 (fun p0=>k (V.sc (.bool p0)) []):=by kernel_rfl
abbrev yg:=∀ (β:Type),Nat→List (List V)→List (List V)→(Bool→Option β)→Option β
def xa (β:Type) (L:Nat) (p0 p1:List (List V)) (k_fin:Bool→Option β):Option β:=zmM L p0 p1 k_fin
def zeq (xa:yg) (L:Nat) (β:Type) (args:List V) (bor:Bor) (k:KK β):Option β:=match args,bor with
 | [a0,a1],[]=>aL 1 a0 fun p0=>aL 1 a1 fun p1=>xa β L p0 p1 (fun p0=>k (V.sc (.bool p0)) [])
 | _,_=>none
theorem zt4 (L:Nat) (β:Type) (args:List V) (bor:Bor) (k:KK β) (r:β) (h:zeq xa L β args bor k=some r):xB zle (zlk L) L zid args bor k=some r:=by
 unfold zeq at h
 split at h
 ·have q:=y8 h; clear h; obtain ⟨p0,rfl,h⟩:=q
  have q:=y8 h; clear h; obtain ⟨p1,rfl,h⟩:=q
  exact (ztn L p0 p1 k).trans h
 ·cases h
def zoA:CF:=⟨98,[.cell 6 true 3,.tmp 7,.tmp 8,.tmp 9],
 (.seq (.reg [oo 6 (.alloc true [(.sc (.int .i64 0)),(.sc (.int .i64 0)),(.gs 1 [])]),
   oo 7 (.move (.const (.gs 1 [])) true),
   oo 8 (.move (.const (.sc (.int .i64 0))) false),
   oo 9 (.move (.const (.sc (.bool false))) false)])
 (.seq (.reg [oo 20 (.move (tq 0) false),
   oo 21 (.move (tq 1) false),
   oo 22 (.call 200 [((tq 20),0),((tq 21),0)] []),
   oo 19 (.move (tq 22) true),
   oo 23 (.pull (tq 19) 0),
   oo 24 (.pull (tq 19) 1),
   oo 25 (.pull (tq 19) 2),
   oo 10 (.move (tq 23) false),
   oo 11 (.move (tq 24) false),
   oo 12 (.move (tq 25) false)])
 (.seq (.seq (.reg [oo 26 (.move (tq 12) false),
   oo 27 (.bin .neq (tq 26) (.const (.sc (.int .i64 0)))),
   oo 28 (.move (tq 27) false),
   ⟨(some 29),false,(some (28,false)),.move (tq 10) false⟩,
   ⟨(some 30),false,(some (28,false)),.bin .gtr (tq 29) (.const (.sc (.int .u32 4096)))⟩,
   oo 31 (.pick (tq 28) (.const (.sc (.bool true))) (tq 30)),
   oo 32 (.move (tq 31) false),
   ⟨(some 33),false,(some (32,false)),.move (tq 0) false⟩,
   ⟨(some 34),false,(some (32,false)),.lenS (tq 33)⟩,
   ⟨(some 35),false,(some (32,false)),.move (tq 1) false⟩,
   ⟨(some 36),false,(some (32,false)),.bin .sub (tq 34) (tq 35)⟩,
   ⟨(some 37),false,(some (32,false)),.move (tq 10) false⟩,
   ⟨(some 38),false,(some (32,false)),.conv .i64 (tq 37)⟩,
   ⟨(some 39),false,(some (32,false)),.bin .add (.const (.sc (.int .i64 13))) (tq 38)⟩,
   ⟨(some 40),false,(some (32,false)),.bin .lss (tq 36) (tq 39)⟩,
   oo 41 (.pick (tq 32) (.const (.sc (.bool true))) (tq 40))])
 (.cond (tq 41)
 (.seq (.reg [oo 42 (.build [(.sc (.int .i64 0)),(.sc (.int .i64 0)),(.sl 1 [])] []),
   oz (.store 3 (tq 6) (tq 42)),
   oo 7 (.move (.const (.gs 1 [])) true),
   oo 8 (.move (.const (.sc (.int .i64 0))) false),
   oo 9 (.move (.const (.sc (.bool false))) false)])
 .ret)
 .skip))
 (.seq (.reg [oo 43 (.move (tq 0) false),
   oo 44 (.move (tq 11) false),
   oo 45 (.indexAddrS 1 (tq 43) (tq 44)),
   oo 46 (.load false 1 (tq 45) false),
   oo 47 (.conv .i64 (tq 46)),
   oo 48 (.build [(.sc (.int .i64 0)),(.sc (.int .i64 0)),(.sl 1 [])] [(0,1,(tq 47))]),
   oo 13 (.alloc false [(.sc (.int .i64 0)),(.sc (.int .i64 0)),(.gs 1 [])]),
   oz (.store 3 (tq 13) (tq 48))])
 (.seq (.reg [oo 50 (.move (tq 0) false),
   oo 51 (.move (tq 11) false),
   oo 52 (.bin .add (tq 51) (.const (.sc (.int .i64 1)))),
   oo 53 (.call 200 [((tq 50),0),((tq 52),0)] []),
   oo 49 (.move (tq 53) true),
   oo 54 (.pull (tq 49) 0),
   oo 55 (.pull (tq 49) 1),
   oo 56 (.pull (tq 49) 2),
   oo 14 (.move (tq 54) false),
   oo 15 (.move (tq 55) false),
   oo 16 (.move (tq 56) false)])
 (.seq (.reg [oo 57 (.move (tq 14) false),
   oo 58 (.conv .i64 (tq 57)),
   oo 59 (.fieldAddr 1 (tq 13)),
   oz (.store 1 (tq 59) (tq 58))])
 (.seq (.reg [oo 60 (.buildSlice 1 0 [(.sc (.int .u8 0))] []),
   oo 61 (.move (tq 0) false),
   oo 62 (.move (tq 15) false),
   oo 63 (.move (tq 15) false),
   oo 64 (.move (tq 10) false),
   oo 65 (.conv .i64 (tq 64)),
   oo 66 (.bin .add (tq 63) (tq 65)),
   oo 67 (.sliceS 1 (tq 61) (some (tq 62)) (some (tq 66)) none),
   oo 68 (.append 1 1 (tq 60) (tq 67)),
   oo 69 (.fieldAddr 2 (tq 13)),
   oz (.store 1 (tq 69) (tq 68))])
 (.seq (.reg [oo 70 (.move (tq 15) false),
   oo 71 (.move (tq 10) false),
   oo 72 (.conv .i64 (tq 71)),
   oo 73 (.bin .add (tq 70) (tq 72)),
   oo 17 (.move (tq 73) false)])
 (.seq (.reg [oo 74 (.move (tq 2) false),
   oo 75 (.move (tq 0) false),
   oo 76 (.move (tq 1) false),
   oo 77 (.move (tq 17) false),
   oo 78 (.sliceS 1 (tq 75) (some (tq 76)) (some (tq 77)) none),
   oo 79 (.call 659 [((tq 74),0),((tq 78),0)] []),
   oo 18 (.move (tq 79) true)])
 (.seq (.seq (.reg [oo 80 (.load true 3 (tq 13) false),
   oo 81 (.call 657 [((tq 80),1)] []),
   oo 82 (.un .not (tq 81)),
   oo 83 (.move (tq 82) false),
   ⟨(some 84),false,(some (83,false)),.move (tq 18) false⟩,
   ⟨(some 85),false,(some (83,false)),.move (tq 0) true⟩,
   ⟨(some 86),false,(some (83,false)),.move (tq 17) false⟩,
   ⟨(some 87),false,(some (83,false)),.move (tq 17) false⟩,
   ⟨(some 88),false,(some (83,false)),.bin .add (tq 87) (.const (.sc (.int .i64 4)))⟩,
   ⟨(some 89),false,(some (83,false)),.sliceS 1 (tq 85) (some (tq 86)) (some (tq 88)) none⟩,
   ⟨(some 90),false,(some (83,false)),.call 130 [((tq 84),0),((tq 89),0)] []⟩,
   ⟨(some 91),false,(some (83,false)),.un .not (tq 90)⟩,
   oo 92 (.pick (tq 83) (.const (.sc (.bool true))) (tq 91))])
 (.cond (tq 92)
 (.seq (.reg [oo 93 (.build [(.sc (.int .i64 0)),(.sc (.int .i64 0)),(.sl 1 [])] []),
   oz (.store 3 (tq 6) (tq 93)),
   oo 7 (.move (.const (.gs 1 [])) true),
   oo 8 (.move (.const (.sc (.int .i64 0))) false),
   oo 9 (.move (.const (.sc (.bool false))) false)])
 .ret)
 .skip))
 (.seq (.reg [oo 94 (.load true 3 (tq 13) false),
   oo 95 (.move (tq 18) true),
   oo 96 (.move (tq 17) false),
   oo 97 (.bin .add (tq 96) (.const (.sc (.int .i64 4)))),
   oz (.store 3 (tq 6) (tq 94)),
   oo 7 (.move (tq 95) true),
   oo 8 (.move (tq 97) false),
   oo 9 (.move (.const (.sc (.bool true))) false)])
 .ret)))))))))))⟩
def zmq:Hint:=⟨[(0,0),(0,1),(1,3),(3,2),(5,4),(9,6),(10,5),(11,2),(12,1),(12,5)],[],[none,none,none,none,none],[],[],false,false⟩
def zCD:Nat→Sh:=xT [(46,(.int .u8))]
def zCu (zd6:znY) (zaR:zf9) (zaP:zf5) (xa:yg) (L:Nat):CBC:=(zD 130 (zeq xa L) (zD 657 (zpM zaP L) (zD 659 (zpE zaR L) (zD 200 (zyd zd6 L) noC))))
def zwb {β:Type} (zd6:znY) (zaR:zf9) (zaP:zf5) (xa:yg) (L:Nat) (p0:List (List V)) (p1:Int) (p2:List (List V)) (k_fin:List V→List (List V)→Int→Bool→Option β):Option β :=
 zd6 β L p0 p1 (fun v0 v1 v2 =>
 ifb ((v2:Int) != (0:Int)) (
 lt [(V.sc (.int .i64 (0:Int))),(V.sc (.int .i64 (0:Int))),(V.sl 1 ([]:List (List V)))] fun r3 =>
 chk (0=0∧(List.length r3)=3∧3≠0) (
 k_fin r3 ([]:List (List V)) (0:Int) false)) (
 ifb (decide (v0 > (4096:Int))) (
 lt [(V.sc (.int .i64 (0:Int))),(V.sc (.int .i64 (0:Int))),(V.sl 1 ([]:List (List V)))] fun r4 =>
 chk (0=0∧(List.length r4)=3∧3≠0) (
 k_fin r4 ([]:List (List V)) (0:Int) false)) (
 lt (IntKind.wrap .i64 ((((List.length p0:Nat):Int):Int) - p1)) fun x5 =>
 lt (IntKind.wrap .i64 v0) fun x6 =>
 lt (IntKind.wrap .i64 (((13:Int):Int)+x6)) fun x7 =>
 ifb (decide (x5 < x7)) (
 lt [(V.sc (.int .i64 (0:Int))),(V.sc (.int .i64 (0:Int))),(V.sl 1 ([]:List (List V)))] fun r8 =>
 chk (0=0∧(List.length r8)=3∧3≠0) (
 k_fin r8 ([]:List (List V)) (0:Int) false)) (
 idx p0 v1 fun c9 =>
 cI .u8 c9 0 fun v10 =>
 lt (IntKind.wrap .i64 v10) fun x11 =>
 lt (IntKind.wrap .i64 ((v1:Int)+(1:Int))) fun x12 =>
 zd6 β L p0 x12 (fun v13 v14 v15 =>
 lt (IntKind.wrap .i64 v13) fun x16 =>
 lt (IntKind.wrap .i64 v0) fun x17 =>
 lt (IntKind.wrap .i64 ((v14:Int)+x17)) fun x18 =>
 chk (0≤x18∧x18≤(((List.length p0):Nat):Int)) (
 chk (0≤v14∧v14≤(((Int.toNat x18):Nat):Int)) (
 chk ((List.length ([]:List (List V))+List.length (List.take ((Int.toNat x18) - (Int.toNat v14)) (List.drop (Int.toNat v14) p0))) * 1≤yj∧List.length ([]:List (List V))+List.length (List.take ((Int.toNat x18) - (Int.toNat v14)) (List.drop (Int.toNat v14) p0))≤yj) (
 lt (([]:List (List V))++(List.take ((Int.toNat x18) - (Int.toNat v14)) (List.drop (Int.toNat v14) p0))) fun l19 =>
 lt (IntKind.wrap .i64 v0) fun x20 =>
 lt (IntKind.wrap .i64 ((v14:Int)+x20)) fun x21 =>
 chk (0≤x21∧x21≤(((List.length p0):Nat):Int)) (
 chk (0≤p1∧p1≤(((Int.toNat x21):Nat):Int)) (
 zaR β L p2 (List.take ((Int.toNat x21) - (Int.toNat p1)) (List.drop (Int.toNat p1) p0)) (fun v22 =>
 zaP β L [(V.sc (.int .i64 x11)),(V.sc (.int .i64 x16)),(V.sl 1 l19)] (fun v23 =>
 ifb (!v23) (
 lt [(V.sc (.int .i64 (0:Int))),(V.sc (.int .i64 (0:Int))),(V.sl 1 ([]:List (List V)))] fun r24 =>
 chk (0=0∧(List.length r24)=3∧3≠0) (
 k_fin r24 ([]:List (List V)) (0:Int) false)) (
 lt (IntKind.wrap .i64 ((x21:Int)+(4:Int))) fun x25 =>
 chk (0≤x25∧x25≤(((List.length p0):Nat):Int)) (
 chk (0≤x21∧x21≤(((Int.toNat x25):Nat):Int)) (
 xa β L v22 (List.take ((Int.toNat x25) - (Int.toNat x21)) (List.drop (Int.toNat x21) p0)) (fun v26 =>
 ifb (!v26) (
 lt [(V.sc (.int .i64 (0:Int))),(V.sc (.int .i64 (0:Int))),(V.sl 1 ([]:List (List V)))] fun r27 =>
 chk (0=0∧(List.length r27)=3∧3≠0) (
 k_fin r27 ([]:List (List V)) (0:Int) false)) (
 lt (IntKind.wrap .i64 ((x21:Int)+(4:Int))) fun x28 =>
 lt [(V.sc (.int .i64 x11)),(V.sc (.int .i64 x16)),(V.sl 1 l19)] fun r29 =>
 chk (0=0∧(List.length r29)=3∧3≠0) (
 k_fin r29 v22 x28 true))))))))))))))))))
abbrev zdN:=∀ (β:Type),Nat→List (List V)→Int→List (List V)→(List V→List (List V)→Int→Bool→Option β)→Option β
def yV (β:Type) (L:Nat) (p0:List (List V)) (p1:Int) (p2:List (List V)) (k_fin:List V→List (List V)→Int→Bool→Option β):Option β:=zwb zd6 zaR zaP xa L p0 p1 p2 k_fin
def zwa (yV:zdN) (L:Nat) (β:Type) (args:List V) (bor:Bor) (k:KK β):Option β:=match args,bor with
 | [a0,a1,a2],[]=>aL 1 a0 fun p0=>aI .i64 a1 fun p1=>aL 1 a2 fun p2=>yV β L p0 p1 p2 (fun zER zES zE2 zE9=>k (V.tup [(V.agg zER),(V.gs 1 zES),(V.sc (.int .i64 zE2)),(V.sc (.bool zE9))]) [])
 | _,_=>none
def zrg:CC:=(.block 1 (.seq (.reg [oo 14 (.move (tq 0) false),
   oo 15 (.move (tq 7) false),
   oo 16 (.move (tq 6) false),
   oo 17 (.call 660 [((tq 14),0),((tq 15),0),((tq 16),0)] []),
   oo 13 (.move (tq 17) true),
   oo 18 (.pull (tq 13) 0),
   oo 19 (.extract (tq 13) 1),
   oo 20 (.pull (tq 13) 2),
   oo 21 (.pull (tq 13) 3),
   oo 8 (.alloc true [(.sc (.int .i64 0)),(.sc (.int .i64 0)),(.gs 1 [])]),
   oz (.store 3 (tq 8) (tq 18)),
   oo 9 (.move (tq 19) true),
   oo 10 (.move (tq 20) false),
   oo 11 (.move (tq 21) false)])
 (.seq (.seq (.reg [oo 22 (.move (tq 11) false),
   oo 23 (.un .not (tq 22))])
 (.cond (tq 23)
 (.seq (.reg [oo 24 (.move (tq 5) true),
   oo 25 (.move (tq 7) false),
   oo 26 (.move (tq 6) true),
   oo 2 (.move (tq 24) true),
   oo 3 (.move (tq 25) false),
   oo 4 (.move (tq 26) true)])
 (.seq (.mask (bl 28 33) (bl 6975254559 33))
 .ret))
 .skip))
 (.seq (.reg [oo 27 (.move (tq 5) true),
   oo 28 (.load true 3 (tq 8) false),
   oo 29 (.buildSlice 3 1 [(.sc (.int .i64 0)),(.sc (.int .i64 0)),(.sl 1 [])] [(0,3,(tq 28))]),
   oo 30 (.append 3 40 (tq 27) (tq 29)),
   oo 5 (.move (tq 30) true)])
 (.reg [oo 31 (.move (tq 10) false),
   oo 32 (.move (tq 9) true),
   oo 7 (.move (tq 31) false),
   oo 6 (.move (tq 32) true)])))))
def zpS:CF:=⟨33,[.tmp 2,.tmp 3,.tmp 4],
 (.seq (.reg [oo 2 (.move (.const (.gs 3 [])) true),
   oo 3 (.move (.const (.sc (.int .i64 0))) false),
   oo 4 (.move (.const (.gs 1 [])) true)])
 (.seq (.reg [oo 5 (.move (.const (.gs 3 [])) true)])
 (.seq (.reg [oo 12 (.buildSlice 1 4 [(.sc (.int .u8 0))] [(0,1,(.const (.sc (.int .u8 0)))),(1,1,(.const (.sc (.int .u8 0)))),(2,1,(.const (.sc (.int .u8 0)))),(3,1,(.const (.sc (.int .u8 0))))]),
   oo 6 (.move (tq 12) true)])
 (.seq (.reg [oo 7 (.move (.const (.sc (.int .i64 0))) false)])
 (.block 0 (.loop (bl 225 33) (bl 6975254755 33)
 zrg))))))⟩
def znd:Hint:=⟨[(0,0),(0,2),(1,0),(2,1),(4,4),(4,6),(4,9),(4,11),(6,0),(6,2),(6,3),(6,5),(7,0),(7,4),(8,1),(8,3)],[],[none,some ((bl 225 33),(bl 6975254755 33)),none,none,some ((bl 28 33),(bl 6975254559 33))],[],[],false,false⟩
def zDc:Nat→Sh:=xT []
def zDf (yV:zdN) (L:Nat):CBC:=(zD 660 (zwa yV L) noC)
def zA2:St→St:=xY 0 (bl 225 33) (bl 6975254755 33)
def zzw (p0 p5 p6:List (List V)) (p7:Int):St:=⟨((V.sl 1 p0)::(jn 4 ((V.gs 3 p5)::((V.gs 1 p6)::((V.sc (.int .i64 p7))::(jn 25 [])))))),(gn 33 [])⟩
def zA1 (p2:List (List V)) (p3:Int) (p4:List (List V)):St:=⟨(jn 2 ((V.gs 3 p2)::((V.sc (.int .i64 p3))::((V.gs 1 p4)::(jn 28 []))))),(gn 33 [])⟩
abbrev zkN (β:Type):Type:=List (List V)→List (List V)→List (List V)→Int→Option β
def zxa {β:Type} (yV:zdN) (L:Nat) (p0:List (List V)) (k_hbbbba:zkN β):Option β :=
 k_hbbbba p0 ([]:List (List V)) (xh 1 4 [(V.sc (.int .u8 (0:Int))),(V.sc (.int .u8 (0:Int))),(V.sc (.int .u8 (0:Int))),(V.sc (.int .u8 (0:Int)))]) (0:Int)
def zrJ {β:Type} (yV:zdN) (L:Nat) (p0 p5 p6:List (List V)) (p7:Int) (k_ret:List (List V)→Int→List (List V)→Option β) (k_hbbbba:zkN β):Option β :=
 yV β L p0 p7 p6 (fun v0 v1 v2 v3 =>
 chk ((List.length v0)=3∧0+3≤3) (
 lt (xn [(V.sc (.int .i64 (0:Int))),(V.sc (.int .i64 (0:Int))),(V.gs 1 ([]:List (List V)))] 0 v0) fun r4 =>
 ifb (!v3) (
 k_ret p5 p7 p6) (
 chk (0+3≤(List.length r4)) (
 chk ((List.length (List.take 3 r4))=3∧0+3≤3) (
 chk ((List.length p5+List.length (xh 3 1 (xn [(V.sc (.int .i64 (0:Int))),(V.sc (.int .i64 (0:Int))),(V.sl 1 ([]:List (List V)))] 0 (List.take 3 r4)))) * 40≤yj∧List.length p5+List.length (xh 3 1 (xn [(V.sc (.int .i64 (0:Int))),(V.sc (.int .i64 (0:Int))),(V.sl 1 ([]:List (List V)))] 0 (List.take 3 r4)))≤yj) (
 lt (p5++(xh 3 1 (xn [(V.sc (.int .i64 (0:Int))),(V.sc (.int .i64 (0:Int))),(V.sl 1 ([]:List (List V)))] 0 (List.take 3 r4)))) fun l5 =>
 k_hbbbba p0 l5 v1 v2))))))
def zpj {β:Type} (yV:zdN) (L:Nat) (p2:List (List V)) (p3:Int) (p4:List (List V)) (k_fin:List (List V)→Int→List (List V)→Option β):Option β :=
 k_fin p2 p3 p4
def zlm {β:Type} (yV:zdN) (L:Nat) (k_ret:List (List V)→Int→List (List V)→Option β):Nat→List (List V)→List (List V)→List (List V)→Int→Option β
 | 0,_,_,_,_=>none
 | n+1,p0,p5,p6,p7=>zrJ yV L p0 p5 p6 p7 k_ret (fun p0 p5 p6 p7=>zlm yV L k_ret n p0 p5 p6 p7)
def zxl {β:Type} (yV:zdN) (L:Nat) (p0:List (List V)) (k_fin:List (List V)→Int→List (List V)→Option β):Option β :=
 zxa yV L p0 (fun p0 p5 p6 p7=>zlm yV L (fun p2 p3 p4=>zpj yV L p2 p3 p4 k_fin) L p0 p5 p6 p7)
abbrev zmi:=∀ (β:Type),Nat→List (List V)→(List (List V)→Int→List (List V)→Option β)→Option β
def zep (β:Type) (L:Nat) (p0:List (List V)) (k_fin:List (List V)→Int→List (List V)→Option β):Option β:=zxl yV L p0 k_fin
def zwH (zep:zmi) (L:Nat) (β:Type) (args:List V) (bor:Bor) (k:KK β):Option β:=match args,bor with
 | [a0],[]=>aL 1 a0 fun p0=>zep β L p0 (fun zER zES zE2=>k (V.tup [(V.gs 3 zER),(V.sc (.int .i64 zES)),(V.gs 1 zE2)]) [])
 | _,_=>none
def zoV:CC:=(.seq (.reg [oo 12 (.bin .lss (tq 11) (tq 10))])
 (.seq (.cond (tq 12)
 .skip
 (.seq (.mask (bl 32 24) (bl 16777151 24))
 (.exit 0)))
 (.seq (.block 1 (.seq (.reg [oo 13 (.move (tq 11) false),
   oo 6 (.move (tq 13) false)])
 (.reg [oo 14 (.move (tq 5) false),
   oo 15 (.move (tq 6) false),
   oo 16 (.move (tq 0) false),
   oo 17 (.move (tq 6) false),
   oo 18 (.bin .mul (.const (.sc (.int .i64 8))) (tq 17)),
   oo 19 (.bin .shr (tq 16) (tq 18)),
   oo 20 (.conv .u8 (tq 19)),
   oo 21 (.indexAddrS 1 (tq 14) (tq 15)),
   oz (.store 1 (tq 21) (tq 20))])))
 (.reg [oo 22 (.bin .add (tq 11) (.const (.sc (.int .i64 1)))),
   oo 11 (.move (tq 22) false)]))))
def zrY:CC:=(.seq (.reg [oo 23 (.move (tq 5) true),
   oo 4 (.move (tq 23) true)])
 .ret)
def zm7:CF:=⟨24,[.tmp 4],
 (.seq (.reg [oo 4 (.move (.const (.gs 1 [])) true)])
 (.seq (.reg [oo 7 (.move (tq 1) false),
   ⟨(some 8),true,none,.makeSlice 1 1 [(.sc (.int .u8 0))] (tq 7) (tq 7)⟩,
   oo 5 (.move (tq 8) true)])
 (.seq (.seq (.reg [oo 9 (.move (tq 5) false),
   oo 10 (.lenS (tq 9)),
   oo 11 (.move (.const (.sc (.int .i64 0))) false)])
 (.block 0 (.loop (bl 3105 24) (bl 16777151 24)
 zoV)))
 zrY)))⟩
def zlA:Hint:=⟨[(0,0),(1,2),(7,0),(7,1)],[(1,1)],[none,some ((bl 3105 24),(bl 16777151 24)),none,some ((bl 32 24),(bl 16777151 24)),none,none],[],[],false,false⟩
def zB7:Nat→Sh:=xT []
def zB9 (L:Nat):CBC:=noC
def zzU:St→St:=xY 0 (bl 3105 24) (bl 16777151 24)
def zyl (p0:Int) (p5l:Nat) (p10 p11:Int) (b8:List V):St:=⟨((V.sc (.int .u64 p0))::(jn 4 ((V.own 8 0 p5l 1)::(jn 4 ((V.sc (.int .i64 p10))::((V.sc (.int .i64 p11))::(jn 12 []))))))),(gn 8 ((.live true b8)::(gn 15 [])))⟩
def zAx (p5l:Nat) (b8:List V):St:=⟨(jn 5 ((V.own 8 0 p5l 1)::(jn 18 []))),(gn 8 ((.live true b8)::(gn 15 [])))⟩
def zux {β:Type} (L:Nat) (p0 p1:Int) (k_hbbaba:Int→Nat→Int→Int→List V→Option β):Option β :=
 chk (0≤p1∧p1≤p1∧(Int.toNat p1) * 1≤yj∧p1≤yj) (
 k_hbbaba p0 (Int.toNat p1) (((Int.toNat p1):Nat):Int) (0:Int) (List.flatten (List.replicate (Int.toNat p1) [(V.sc (.int .u8 (0:Int)))])))
def zpU {β:Type} (L:Nat) (p0:Int) (p5l:Nat) (p10 p11:Int) (b8:List V) (k_hbbaba:Int→Nat→Int→Int→List V→Option β) (k_x0:Nat→List V→Option β):Option β :=
 ifb (decide (p11 < p10)) (
 lt (IntKind.wrap .i64 (((8:Int):Int) * p11)) fun x0 =>
 chk (0≤x0) (
 lt (zc3 .u64 p0 x0) fun x1 =>
 lt (IntKind.wrap .u8 x1) fun x2 =>
 chk (0≤p11∧p11 < ((p5l:Nat):Int)) (
 chk (1=1∧(0+((Int.toNat p11) * 1))+1≤(List.length b8)) (
 lt (xn b8 (0+((Int.toNat p11) * 1)) [(V.sc (.int .u8 x2))]) fun r3 =>
 lt (IntKind.wrap .i64 ((p11:Int)+(1:Int))) fun x4 =>
 k_hbbaba p0 p5l p10 x4 r3)))) (
 k_x0 p5l b8)
def zom {β:Type} (L:Nat) (p5l:Nat) (b8:List V) (k_fin:List (List V)→Option β):Option β :=
 chk (p5l≠0∨(List.length b8)=0) (
 k_fin (xh 1 p5l b8))
def zjP {β:Type} (L:Nat) (k_x0:Nat→List V→Option β):Nat→Int→Nat→Int→Int→List V→Option β
 | 0,_,_,_,_,_=>none
 | n+1,p0,p5l,p10,p11,b8=>zpU L p0 p5l p10 p11 b8 (fun p0 p5l p10 p11 b8=>zjP L k_x0 n p0 p5l p10 p11 b8) k_x0
def zu7 {β:Type} (L:Nat) (p0 p1:Int) (k_fin:List (List V)→Option β):Option β :=
 zux L p0 p1 (fun p0 p5l p10 p11 b8=>zjP L (fun p5l b8=>zom L p5l b8 k_fin) L p0 p5l p10 p11 b8)
abbrev zkd:=∀ (β:Type),Nat→Int→Int→(List (List V)→Option β)→Option β
def zc9 (β:Type) (L:Nat) (p0 p1:Int) (k_fin:List (List V)→Option β):Option β:=zu7 L p0 p1 k_fin
def zuI (zc9:zkd) (L:Nat) (β:Type) (args:List V) (bor:Bor) (k:KK β):Option β:=match args,bor with
 | [a0,a1],[]=>aI .u64 a0 fun p0=>aI .i64 a1 fun p1=>zc9 β L p0 p1 (fun p0=>k (V.fr 1 p0) [])
 | _,_=>none
def zkO:CF:=⟨10,[.tmp 4],
 (.seq (.reg [oo 4 (.move (.const (.gs 1 [])) true)])
 (.seq (.reg [oo 5 (.move (tq 0) false),
   oo 6 (.move (tq 1) false),
   oo 7 (.conv .u64 (tq 6)),
   oo 8 (.call 194 [((tq 7),0),((.const (.sc (.int .i64 4))),0)] []),
   oo 9 (.call 193 [((tq 5),0),((tq 8),0)] []),
   oo 4 (.move (tq 9) true)])
 .ret))⟩
def zjF:Hint:=⟨[(0,0),(1,5)],[],[none],[],[],false,false⟩
def zAv:Nat→Sh:=xT []
def zzZ (zc9:zkd) (xl:zZ) (L:Nat):CBC:=(zD 193 (zfu xl L) (zD 194 (zuI zc9 L) noC))
def zr5 {β:Type} (zc9:zkd) (xl:zZ) (L:Nat) (p0:List (List V)) (p1:Int) (k_fin:List (List V)→Option β):Option β :=
 lt (IntKind.wrap .u64 p1) fun x0 =>
 zc9 β L x0 (4:Int) (fun v1 =>
 xl β L p0 v1 (fun v2 =>
 k_fin v2))
abbrev zhV:=∀ (β:Type),Nat→List (List V)→Int→(List (List V)→Option β)→Option β
def zbp (β:Type) (L:Nat) (p0:List (List V)) (p1:Int) (k_fin:List (List V)→Option β):Option β:=zr5 zc9 xl L p0 p1 k_fin
def zr3 (zbp:zhV) (L:Nat) (β:Type) (args:List V) (bor:Bor) (k:KK β):Option β:=match args,bor with
 | [a0,a1],[]=>aL 1 a0 fun p0=>aI .u32 a1 fun p1=>zbp β L p0 p1 (fun p0=>k (V.gs 1 p0) [])
 | _,_=>none
def znw:CF:=⟨54,[.tmp 4,.tmp 5],
 (.seq (.reg [oo 3 (.box true (tq 1)),
   oo 4 (.move (.const (.gs 1 [])) true),
   oo 5 (.move (.const (.sc (.int .i64 0))) false)])
 (.seq (.seq (.reg [oo 10 (.load true 3 (tq 3) false),
   oo 11 (.call 657 [((tq 10),1)] []),
   oo 12 (.un .not (tq 11))])
 (.cond (tq 12)
 (.seq (.reg [oo 4 (.move (.const (.gs 1 [])) true),
   oo 5 (.move (.const (.sc (.int .i64 6))) false)])
 .ret)
 .skip))
 (.seq (.reg [oo 14 (.move (tq 0) false),
   oo 15 (.call 658 [((tq 14),0)] []),
   oo 13 (.move (tq 15) true),
   oo 16 (.extract (tq 13) 0),
   oo 17 (.pull (tq 13) 1),
   oo 18 (.extract (tq 13) 2),
   oo 6 (.move (tq 16) false),
   oo 7 (.move (tq 17) false),
   oo 8 (.move (tq 18) false)])
 (.seq (.seq (.reg [oo 19 (.move (tq 7) false),
   oo 20 (.bin .add (tq 19) (.const (.sc (.int .i64 13)))),
   oo 21 (.fieldAddr 2 (tq 3)),
   oo 22 (.load false 1 (tq 21) false),
   oo 23 (.lenS (tq 22)),
   oo 24 (.bin .add (tq 20) (tq 23)),
   oo 25 (.bin .gtr (tq 24) (.const (.sc (.int .i64 1048576))))])
 (.cond (tq 25)
 (.seq (.reg [oo 4 (.move (.const (.gs 1 [])) true),
   oo 5 (.move (.const (.sc (.int .i64 4))) false)])
 .ret)
 .skip))
 (.seq (.dreg [] [(oo 26 (.fieldAddr 2 (tq 3)),q0),
   (oo 27 (.load false 1 (tq 26) false),ql 3 [] [34]),
   (oo 28 (.lenS (tq 27)),q0),
   (oo 29 (.conv .u32 (tq 28)),q0),
   (oo 30 (.call 159 [((.const (.gs 1 [])),0),((tq 29),0)] []),qc [3] [34]),
   (oo 31 (.fieldAddr 0 (tq 3)),q0),
   (oo 32 (.load false 1 (tq 31) false),ql 3 [] []),
   (oo 33 (.conv .u8 (tq 32)),q0),
   (oo 34 (.buildSlice 1 1 [(.sc (.int .u8 0))] [(0,1,(tq 33))]),qn [3] []),
   (oo 35 (.append 1 1 (tq 30) (tq 34)),q0),
   (oo 9 (.move (tq 35) false),q0)])
 (.seq (.dreg [] [(oo 36 (.move (tq 9) false),q0),
   (oo 37 (.fieldAddr 1 (tq 3)),q0),
   (oo 38 (.load false 1 (tq 37) false),ql 3 [] []),
   (oo 39 (.conv .u32 (tq 38)),q0),
   (oo 40 (.call 159 [((tq 36),0),((tq 39),0)] []),qc [3] []),
   (oo 41 (.fieldAddr 2 (tq 3)),q0),
   (oo 42 (.load false 1 (tq 41) false),ql 3 [] []),
   (oo 43 (.buildSlice 1 2 [(.sl 1 [])] [(0,1,(tq 40)),(1,1,(tq 42))]),q0),
   (oo 44 (.call 453 [((tq 43),0)] []),q0),
   (oo 9 (.move (tq 44) false),q0)])
 (.seq (.dreg [] [(oo 45 (.move (tq 0) true),qc [] []),
   (oo 46 (.move (tq 7) false),q0),
   (oo 47 (.sliceS 1 (tq 45) none (some (tq 46)) none),q0),
   (oo 48 (.move (tq 9) false),q0),
   (oo 49 (.move (tq 8) false),q0),
   (oo 50 (.move (tq 9) false),q0),
   (oo 51 (.call 659 [((tq 49),0),((tq 50),0)] []),qc [] []),
   (oo 52 (.buildSlice 1 3 [(.sl 1 [])] [(0,1,(tq 47)),(1,1,(tq 48)),(2,1,(tq 51))]),q0),
   (oo 53 (.call 453 [((tq 52),0)] []),q0),
   (oo 4 (.move (tq 53) true),q0),
   (oo 5 (.move (.const (.sc (.int .i64 0))) false),q0)])
 .ret)))))))⟩
def zlw:Hint:=⟨[(0,0),(0,1),(2,0),(3,2),(3,3),(3,5),(5,0),(8,0),(8,9)],[],[none,none,none,none,none],[],[],false,false⟩
def zBZ:Nat→Sh:=xT [(22,(.sl 1)),(27,(.sl 1)),(32,(.int .i64)),(38,(.int .i64)),(42,(.sl 1))]
def zCh (zaP:zf5) (zep:zmi) (zbp:zhV) (zc:zi) (zaR:zf9) (L:Nat):CBC:=(zD 659 (zpE zaR L) (zD 453 (zek zc L) (zD 159 (zr3 zbp L) (zD 658 (zwH zep L) (zD 657 (zpM zaP L) noC)))))
def zu2 {β:Type} (zaP:zf5) (zep:zmi) (zbp:zhV) (zc:zi) (zaR:zf9) (L:Nat) (p0:List (List V)) (p1:List V) (k_fin:List (List V)→Int→Option β):Option β :=
 chk (0+3≤(List.length p1)) (
 zaP β L (List.map V.dem (List.take 3 p1)) (fun v0 =>
 ifb (!v0) (
 k_fin ([]:List (List V)) (6:Int)) (
 zep β L p0 (fun v1 v2 v3 =>
 lt (IntKind.wrap .i64 ((v2:Int)+(13:Int))) fun x4 =>
 cLd 1 p1 2 fun v5 =>
 lt (IntKind.wrap .i64 ((x4:Int)+((List.length v5:Nat):Int))) fun x6 =>
 ifb (decide (x6 > (1048576:Int))) (
 k_fin ([]:List (List V)) (4:Int)) (
 cLd 1 p1 2 fun v7 =>
 lt (IntKind.wrap .u32 ((List.length v7:Nat):Int)) fun x8 =>
 zbp β L ([]:List (List V)) x8 (fun v9 =>
 cI .i64 p1 0 fun v10 =>
 lt (IntKind.wrap .u8 v10) fun x11 =>
 chk ((List.length v9+List.length (xh 1 1 [(V.sc (.int .u8 x11))])) * 1≤yj∧List.length v9+List.length (xh 1 1 [(V.sc (.int .u8 x11))])≤yj) (
 lt (v9++(xh 1 1 [(V.sc (.int .u8 x11))])) fun l12 =>
 cI .i64 p1 1 fun v13 =>
 lt (IntKind.wrap .u32 v13) fun x14 =>
 zbp β L l12 x14 (fun v15 =>
 cLd 1 p1 2 fun v16 =>
 zc β L (xh 1 2 [(V.sl 1 v15),(V.sl 1 v16)]) (fun v17 =>
 chk (0≤v2∧v2≤(((List.length p0):Nat):Int)) (
 zaR β L v3 v17 (fun v18 =>
 zc β L (xh 1 3 [(V.sl 1 (List.take ((Int.toNat v2) - 0) (List.drop 0 p0))),(V.sl 1 v17),(V.sl 1 v18)]) (fun v19 =>
 k_fin v19 (0:Int)))))))))))))
abbrev xK:=∀ (β:Type),Nat→List (List V)→List V→(List (List V)→Int→Option β)→Option β
def yo (β:Type) (L:Nat) (p0:List (List V)) (p1:List V) (k_fin:List (List V)→Int→Option β):Option β:=zu2 zaP zep zbp zc zaR L p0 p1 k_fin
def zoh (yo:xK) (L:Nat) (β:Type) (args:List V) (bor:Bor) (k:KK β):Option β:=match args,bor with
 | [a0,a1],[]=>aL 1 a0 fun p0=>aG a1 fun p1=>yo β L p0 p1 (fun zER zES=>k (V.tup [(V.gs 1 zER),(V.sc (.int .i64 zES))]) [])
 | _,_=>none
def znA:CC:=(.seq (.seq (.reg [oo 15 (.move (tq 9) false),
   oo 16 (.bin .gtr (tq 15) (.const (.sc (.int .i64 0))))])
 (.cond (tq 16)
 .skip
 (.seq (.mask (bl 448 39) (bl 487897168383 39))
 (.exit 0))))
 (.seq (.block 1 (.seq (.reg [oo 19 (.move (tq 5) false),
   oo 20 (.call 651 [((tq 19),0)] []),
   oo 10 (.alloc true [(.sc (.int .i64 0)),(.sc (.int .i64 0)),(.gs 1 [])]),
   oz (.store 3 (tq 10) (tq 20))])
 (.seq (.reg [oo 22 (.move (tq 6) false),
   oo 23 (.load true 3 (tq 10) false),
   oo 24 (.call 652 [((tq 22),0),((tq 23),1)] []),
   oo 21 (.move (tq 24) true),
   oo 25 (.extract (tq 21) 0),
   oo 26 (.pull (tq 21) 1),
   oo 6 (.move (tq 25) true)])
 (.reg [oo 27 (.move (tq 7) true),
   oo 28 (.load true 3 (tq 10) false),
   oo 29 (.buildSlice 3 1 [(.sc (.int .i64 0)),(.sc (.int .i64 0)),(.sl 1 [])] [(0,3,(tq 28))]),
   oo 30 (.append 3 40 (tq 27) (tq 29)),
   oo 31 (.move (tq 8) true),
   oo 32 (.move (tq 6) false),
   oo 33 (.lenS (tq 32)),
   oo 34 (.buildSlice 1 1 [(.sc (.int .i64 0))] [(0,1,(tq 33))]),
   oo 35 (.append 1 8 (tq 31) (tq 34)),
   oo 7 (.move (tq 30) true),
   oo 8 (.move (tq 35) true)]))))
 (.reg [oo 17 (.move (tq 9) false),
   oo 18 (.bin .sub (tq 17) (.const (.sc (.int .i64 1)))),
   oo 9 (.move (tq 18) false)])))
def zp1:CC:=(.seq (.reg [oo 36 (.move (tq 6) true),
   oo 37 (.move (tq 7) true),
   oo 38 (.move (tq 8) true),
   oo 2 (.move (tq 36) true),
   oo 3 (.move (tq 37) true),
   oo 4 (.move (tq 38) true)])
 .ret)
def zoN:CF:=⟨39,[.tmp 2,.tmp 3,.tmp 4],
 (.seq (.reg [oo 2 (.move (.const (.gs 1 [])) true),
   oo 3 (.move (.const (.gs 3 [])) true),
   oo 4 (.move (.const (.gs 1 [])) true)])
 (.seq (.reg [oo 11 (.move (tq 0) false),
   oo 12 (.call 225 [((tq 11),0)] []),
   oo 5 (.move (tq 12) false)])
 (.seq (.reg [oo 6 (.move (.const (.gs 1 [])) true)])
 (.seq (.reg [oo 7 (.move (.const (.gs 3 [])) true)])
 (.seq (.reg [oo 8 (.move (.const (.gs 1 [])) true)])
 (.seq (.seq (.reg [oo 13 (.move (tq 5) false),
   oo 14 (.call 231 [((tq 13),0),((.const (.sc (.int .i64 7))),0)] []),
   oo 9 (.move (tq 14) false)])
 (.block 0 (.loop (bl 992 39) (bl 487897168895 39)
 znA)))
 zp1))))))⟩
def zmy:Hint:=⟨[(0,0),(0,1),(0,2),(2,0),(3,0),(4,0),(8,2),(9,3),(9,4),(9,6),(10,0),(10,4),(10,9),(10,10),(11,0),(11,1),(11,2),(11,3),(11,4),(11,5)],[],[none,some ((bl 992 39),(bl 487897168895 39)),none,some ((bl 448 39),(bl 487897168383 39)),none,none],[],[],false,false⟩
def zC9:Nat→Sh:=xT []
def zCO (zd:zk) (za:ye) (yb:xg) (yo:xK) (L:Nat):CBC:=(zD 652 (zoh yo L) (zD 651 (zeE yb L) (zD 231 (zcl za L) (zD 225 (zhv zd L) noC))))
def zyI:St→St:=xY 0 (bl 992 39) (bl 487897168895 39)
def zxB (p6 p7 p8:List (List V)) (p9:Int) (zEP:List (List V)) (zEQ:Int):St:=⟨(jn 5 ((V.ptr 12 0)::((V.gs 1 p6)::((V.gs 3 p7)::((V.gs 1 p8)::((V.sc (.int .i64 p9))::(jn 29 []))))))),(gn 12 ((.live false [(V.sl 1 zEP),(V.sc (.int .i64 zEQ))])::(gn 26 [])))⟩
def zA0 (p6 p7 p8 zEP:List (List V)) (zEQ:Int):St:=⟨(jn 6 ((V.gs 1 p6)::((V.gs 3 p7)::((V.gs 1 p8)::(jn 30 []))))),(gn 12 ((.live false [(V.sl 1 zEP),(V.sc (.int .i64 zEQ))])::(gn 26 [])))⟩
abbrev zh7 (β:Type):Type:=List (List V)→List (List V)→List (List V)→Int→List (List V)→Int→Option β
abbrev znl (β:Type):Type:=List (List V)→List (List V)→List (List V)→List (List V)→Int→Option β
def zvS {β:Type} (zd:zk) (za:ye) (yb:xg) (yo:xK) (L:Nat) (p0:List (List V)) (k_hbbbbbaba:zh7 β):Option β :=
 zd β L p0 (fun v0 v1 =>
 za β L (7:Int) v0 v1 (fun v2 v3 v4 =>
 k_hbbbbbaba ([]:List (List V)) ([]:List (List V)) ([]:List (List V)) v2 v3 v4))
def zoz {β:Type} (zd:zk) (za:ye) (yb:xg) (yo:xK) (L:Nat) (p6 p7 p8:List (List V)) (p9:Int) (zEP:List (List V)) (zEQ:Int) (k_hbbbbbaba:zh7 β) (k_x0:znl β):Option β :=
 ifb (decide (p9 > (0:Int))) (
 yb β L zEP zEQ (fun v5 v6 v7 =>
 chk ((List.length v5)=3∧0+3≤3) (
 lt (xn [(V.sc (.int .i64 (0:Int))),(V.sc (.int .i64 (0:Int))),(V.gs 1 ([]:List (List V)))] 0 v5) fun r8 =>
 chk (0+3≤(List.length r8)) (
 yo β L p6 (List.map V.dem (List.take 3 r8)) (fun v9 v10 =>
 chk (0+3≤(List.length r8)) (
 chk ((List.length (List.take 3 r8))=3∧0+3≤3) (
 chk ((List.length p7+List.length (xh 3 1 (xn [(V.sc (.int .i64 (0:Int))),(V.sc (.int .i64 (0:Int))),(V.sl 1 ([]:List (List V)))] 0 (List.take 3 r8)))) * 40≤yj∧List.length p7+List.length (xh 3 1 (xn [(V.sc (.int .i64 (0:Int))),(V.sc (.int .i64 (0:Int))),(V.sl 1 ([]:List (List V)))] 0 (List.take 3 r8)))≤yj) (
 lt (p7++(xh 3 1 (xn [(V.sc (.int .i64 (0:Int))),(V.sc (.int .i64 (0:Int))),(V.sl 1 ([]:List (List V)))] 0 (List.take 3 r8)))) fun l11 =>
 chk ((List.length p8+List.length (xh 1 1 [(V.sc (.int .i64 ((List.length v9:Nat):Int)))])) * 8≤yj∧List.length p8+List.length (xh 1 1 [(V.sc (.int .i64 ((List.length v9:Nat):Int)))])≤yj) (
 lt (p8++(xh 1 1 [(V.sc (.int .i64 ((List.length v9:Nat):Int)))])) fun l12 =>
 lt (IntKind.wrap .i64 ((p9:Int) - (1:Int))) fun x13 =>
 k_hbbbbbaba v9 l11 l12 x13 v6 v7))))))))) (
 k_x0 p6 p7 p8 zEP zEQ)
def zmS {β:Type} (zd:zk) (za:ye) (yb:xg) (yo:xK) (L:Nat) (p6 p7 p8 zEP:List (List V)) (zEQ:Int) (k_fin:List (List V)→List (List V)→List (List V)→Option β):Option β :=
 k_fin p6 p7 p8
def ziL {β:Type} (zd:zk) (za:ye) (yb:xg) (yo:xK) (L:Nat) (k_x0:znl β):Nat→List (List V)→List (List V)→List (List V)→Int→List (List V)→Int→Option β
 | 0,_,_,_,_,_,_=>none
 | n+1,p6,p7,p8,p9,zEP,zEQ=>zoz zd za yb yo L p6 p7 p8 p9 zEP zEQ (fun p6 p7 p8 p9 zEP zEQ=>ziL zd za yb yo L k_x0 n p6 p7 p8 p9 zEP zEQ) k_x0
def zvT {β:Type} (zd:zk) (za:ye) (yb:xg) (yo:xK) (L:Nat) (p0:List (List V)) (k_fin:List (List V)→List (List V)→List (List V)→Option β):Option β :=
 zvS zd za yb yo L p0 (fun p6 p7 p8 p9 zEP zEQ=>ziL zd za yb yo L (fun p6 p7 p8 zEP zEQ=>zmS zd za yb yo L p6 p7 p8 zEP zEQ k_fin) L p6 p7 p8 p9 zEP zEQ)
abbrev zay:=∀ (β:Type),Nat→List (List V)→(List (List V)→List (List V)→List (List V)→Option β)→Option β
def xx (β:Type) (L:Nat) (p0:List (List V)) (k_fin:List (List V)→List (List V)→List (List V)→Option β):Option β:=zvT zd za yb yo L p0 k_fin
def zvR (xx:zay) (L:Nat) (β:Type) (args:List V) (bor:Bor) (k:KK β):Option β:=match args,bor with
 | [a0],[]=>aL 1 a0 fun p0=>xx β L p0 (fun zER zES zE2=>k (V.tup [(V.gs 1 zER),(V.gs 3 zES),(V.gs 1 zE2)]) [])
 | _,_=>none
end
end Go.Proofs.YteopmmegeagklaaDoor
