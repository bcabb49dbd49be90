/- Part 9 of the proof of JournalReads: an abstract machine over plain values, its soundness, and the functions of the program on plain values. -/
import Derived.Test.YteopmmegeagklaaDoorMJournalReads8
namespace Go.Proofs.YteopmmegeagklaaDoor
section
set_option maxRecDepth 100000
set_option linter.unusedVariables false
set_option linter.unusedSimpArgs false
def zgk:CF:=⟨13,[.tmp 2],
 (.seq (.reg [oo 2 (.move (.const (.sc (.bool false))) false)])
 (.seq (.dreg [] [(oo 3 (.move (tq 0) false),q0),
   (oo 4 (.nilCheck (tq 3)),q0),
   (oo 5 (.fieldAddr 1 (tq 4)),q0),
   (oo 6 (.load false 1 (tq 5) false),ql 0 [] []),
   (oo 7 (.move (tq 0) false),q0),
   (oo 8 (.nilCheck (tq 7)),q0),
   (oo 9 (.fieldAddr 0 (tq 8)),q0),
   (oo 10 (.load false 1 (tq 9) false),ql 0 [] []),
   (oo 11 (.lenS (tq 10)),q0),
   (oo 12 (.bin .lss (tq 6) (tq 11)),q0),
   (oo 2 (.move (tq 12) false),q0)])
 .ret))⟩
def zmw:Hint:=⟨[],[],[none],[],[],false,false⟩
def zj1:Nat→Sh:=yV []
def zjZ (L:Nat):CBC:=noC
def zg7 {β:Type} (L:Nat) (zHo:List (List V)) (zHp:Int) (k_fin:Bool→List (List V)→Int→Option β):Option β :=
 k_fin (decide (zHp < ((List.length zHo:Nat):Int))) zHo zHp
theorem ztl {β:Type} (L:Nat) (zHo:List (List V)) (zHp:Int) (k:KK β):zw zj1 (zjZ L) L zgk [(V.ptr 0 0)] [(.live false [(V.sl 1 zHo),(V.sc (.int .i64 zHp))])] k=zg7 L zHo zHp (fun p0 zHo zHp=>k (V.sc (.bool p0)) [(.live false [(V.sl 1 zHo),(V.sc (.int .i64 zHp))])]):=by kernel_rfl
abbrev zg0:=∀ (β:Type),Nat→List (List V)→Int→(Bool→List (List V)→Int→Option β)→Option β
def yO (β:Type) (L:Nat) (zHo:List (List V)) (zHp:Int) (k_fin:Bool→List (List V)→Int→Option β):Option β:=zg7 L zHo zHp k_fin
def zg5 (yO:zg0) (L:Nat) (β:Type) (args:List V) (bor:Bor) (k:KK β):Option β:=match args,bor with
 | [a0],[(.live false [w0_0,w0_1])]=>aP 0 0 a0 (aL 1 w0_0 fun zHo=>aI .i64 w0_1 fun zHp=>yO β L zHo zHp (fun p0 zHo zHp=>k (V.sc (.bool p0)) [(.live false [(V.sl 1 zHo),(V.sc (.int .i64 zHp))])]))
 | _,_=>none
theorem ztp (L:Nat) (β:Type) (args:List V) (bor:Bor) (k:KK β) (r:β) (h:zg5 yO L β args bor k=some r):zw zj1 (zjZ L) L zgk args bor k=some r:=by
 unfold zg5 at h
 split at h
 ·have q:=zwE h; clear h; obtain ⟨rfl,h⟩:=q
  have q:=zP h; clear h; obtain ⟨zHo,rfl,h⟩:=q
  have q:=xR h; clear h; obtain ⟨zHp,rfl,h⟩:=q
  exact (ztl L zHo zHp k).trans h
 ·cases h
def znA:CF:=⟨15,[.tmp 4],
 (.seq (.reg [oo 4 (.move (.const (.sc (.int .i64 0))) false)])
 (.seq (.reg [oo 6 (.move (tq 0) false),
   oo 7 (.move (tq 1) false),
   oo 8 (.bin .rem (tq 6) (tq 7)),
   oo 5 (.move (tq 8) false)])
 (.seq (.seq (.reg [oo 9 (.move (tq 5) false),
   oo 10 (.bin .lss (tq 9) (.const (.sc (.int .i64 0))))])
 (.cond (tq 10)
 (.reg [oo 11 (.move (tq 5) false),
   oo 12 (.move (tq 1) false),
   oo 13 (.bin .add (tq 11) (tq 12)),
   oo 5 (.move (tq 13) false)])
 .skip))
 (.seq (.reg [oo 14 (.move (tq 5) false),
   oo 4 (.move (tq 14) false)])
 .ret))))⟩
def zsZ:Hint:=⟨[],[],[none,none],[],[],false,false⟩
def zqP:Nat→Sh:=yV []
def zqU (L:Nat):CBC:=noC
def zoT {β:Type} (L:Nat) (p0 p1:Int) (k_fin:Int→Option β):Option β :=
 chk (p1≠0) (
 lt (Int.tmod p0 p1) fun x0 =>
 ifb (decide (x0 < (0:Int))) (
 lt (IntKind.wrap .i64 ((x0:Int)+p1)) fun x1 =>
 k_fin x1) (
 k_fin x0))
theorem zzB {β:Type} (L:Nat) (p0 p1:Int) (k:KK β):zw zqP (zqU L) L znA [(V.sc (.int .i64 p0)),(V.sc (.int .i64 p1))] [] k=zoT L p0 p1 (fun p0=>k (V.sc (.int .i64 p0)) []):=by kernel_rfl
abbrev yq:=∀ (β:Type),Nat→Int→Int→(Int→Option β)→Option β
def zc (β:Type) (L:Nat) (p0 p1:Int) (k_fin:Int→Option β):Option β:=zoT L p0 p1 k_fin
def zhc (zc:yq) (L:Nat) (β:Type) (args:List V) (bor:Bor) (k:KK β):Option β:=match args,bor with
 | [a0,a1],[]=>aI .i64 a0 fun p0=>aI .i64 a1 fun p1=>zc β L p0 p1 (fun p0=>k (V.sc (.int .i64 p0)) [])
 | _,_=>none
theorem zzU (L:Nat) (β:Type) (args:List V) (bor:Bor) (k:KK β) (r:β) (h:zhc zc L β args bor k=some r):zw zqP (zqU L) L znA args bor k=some r:=by
 unfold zhc at h
 split at h
 ·have q:=xR h; clear h; obtain ⟨p0,rfl,h⟩:=q
  have q:=xR h; clear h; obtain ⟨p1,rfl,h⟩:=q
  exact (zzB L p0 p1 k).trans h
 ·cases h
def zgd:CF:=⟨28,[.tmp 4],
 (.seq (.reg [oo 4 (.move (.const (.sc (.int .i64 0))) false)])
 (.seq (.seq (.reg [oo 5 (.move (tq 0) false),
   oo 6 (.call 247 [((tq 5),0)] []),
   oo 7 (.un .not (tq 6))])
 (.cond (tq 7)
 (.seq (.reg [oo 4 (.move (.const (.sc (.int .i64 0))) false)])
 .ret)
 .skip))
 (.seq (.reg [oo 8 (.move (tq 0) false),
   oo 9 (.nilCheck (tq 8)),
   oo 10 (.fieldAddr 1 (tq 9)),
   oo 11 (.load false 1 (tq 10) false),
   oo 12 (.bin .add (tq 11) (.const (.sc (.int .i64 1)))),
   oo 13 (.nilCheck (tq 8)),
   oo 14 (.fieldAddr 1 (tq 13)),
   oz (.store 1 (tq 14) (tq 12))])
 (.seq (.dreg [] [(oo 15 (.move (tq 0) false),q0),
   (oo 16 (.nilCheck (tq 15)),q0),
   (oo 17 (.fieldAddr 0 (tq 16)),q0),
   (oo 18 (.load false 1 (tq 17) false),ql 0 [] []),
   (oo 19 (.move (tq 0) false),q0),
   (oo 20 (.nilCheck (tq 19)),q0),
   (oo 21 (.fieldAddr 1 (tq 20)),q0),
   (oo 22 (.load false 1 (tq 21) false),ql 0 [] []),
   (oo 23 (.bin .sub (tq 22) (.const (.sc (.int .i64 1)))),q0),
   (oo 24 (.indexAddrS 1 (tq 18) (tq 23)),q0),
   (oo 25 (.load false 1 (tq 24) false),q0),
   (oo 26 (.move (tq 1) false),q0),
   (oo 27 (.call 217 [((tq 25),0),((tq 26),0)] []),q0),
   (oo 4 (.move (tq 27) false),q0)])
 .ret))))⟩
def zmA:Hint:=⟨[],[],[none,none,none],[],[],false,false⟩
def zjN:Nat→Sh:=yV [(25,(.int .i64))]
def zj5 (yO:zg0) (zc:yq) (L:Nat):CBC:=(xB 217 (zhc zc L) (xB 247 (zg5 yO L) noC))
def zg2 {β:Type} (yO:zg0) (zc:yq) (L:Nat) (p1:Int) (zHo:List (List V)) (zHp:Int) (k_fin:Int→List (List V)→Int→Option β):Option β :=
 yO β L zHo zHp (fun v0 v1 v2 =>
 ifb (!v0) (
 k_fin (0:Int) v1 v2) (
 lt (IntKind.wrap .i64 ((v2:Int)+(1:Int))) fun x3 =>
 lt (IntKind.wrap .i64 ((x3:Int) - (1:Int))) fun x4 =>
 idx v1 x4 fun c5 =>
 cI .i64 c5 0 fun v6 =>
 zc β L v6 p1 (fun v7 =>
 k_fin v7 v1 x3)))
theorem ztr {β:Type} (yO:zg0) (zc:yq) (L:Nat) (p1:Int) (zHo:List (List V)) (zHp:Int) (k:KK β):zw zjN (zj5 yO zc L) L zgd [(V.ptr 0 0),(V.sc (.int .i64 p1))] [(.live false [(V.sl 1 zHo),(V.sc (.int .i64 zHp))])] k=zg2 yO zc L p1 zHo zHp (fun p0 zHo zHp=>k (V.sc (.int .i64 p0)) [(.live false [(V.sl 1 zHo),(V.sc (.int .i64 zHp))])]):=by kernel_rfl
abbrev yj:=∀ (β:Type),Nat→Int→List (List V)→Int→(Int→List (List V)→Int→Option β)→Option β
def ya (β:Type) (L:Nat) (p1:Int) (zHo:List (List V)) (zHp:Int) (k_fin:Int→List (List V)→Int→Option β):Option β:=zg2 yO zc L p1 zHo zHp k_fin
def zcz (ya:yj) (L:Nat) (β:Type) (args:List V) (bor:Bor) (k:KK β):Option β:=match args,bor with
 | [a0,a1],[(.live false [w0_0,w0_1])]=>aP 0 0 a0 (aI .i64 a1 fun p1=>aL 1 w0_0 fun zHo=>aI .i64 w0_1 fun zHp=>ya β L p1 zHo zHp (fun p0 zHo zHp=>k (V.sc (.int .i64 p0)) [(.live false [(V.sl 1 zHo),(V.sc (.int .i64 zHp))])]))
 | _,_=>none
theorem zta (L:Nat) (β:Type) (args:List V) (bor:Bor) (k:KK β) (r:β) (h:zcz ya L β args bor k=some r):zw zjN (zj5 yO zc L) L zgd args bor k=some r:=by
 unfold zcz at h
 split at h
 ·have q:=zwE h; clear h; obtain ⟨rfl,h⟩:=q
  have q:=xR h; clear h; obtain ⟨p1,rfl,h⟩:=q
  have q:=zP h; clear h; obtain ⟨zHo,rfl,h⟩:=q
  have q:=xR h; clear h; obtain ⟨zHp,rfl,h⟩:=q
  exact (ztr yO zc L p1 zHo zHp k).trans h
 ·cases h
def zfY:CF:=⟨15,[.tmp 6],
 (.seq (.reg [oo 6 (.move (.const (.sc (.int .i64 0))) false)])
 (.seq (.reg [oo 7 (.move (tq 1) false),
   oo 8 (.move (tq 0) false),
   oo 9 (.move (tq 2) false),
   oo 10 (.move (tq 1) false),
   oo 11 (.bin .sub (tq 9) (tq 10)),
   oo 12 (.bin .add (tq 11) (.const (.sc (.int .i64 1)))),
   oo 13 (.call 231 [((tq 8),0),((tq 12),0)] []),
   oo 14 (.bin .add (tq 7) (tq 13)),
   oo 6 (.move (tq 14) false)])
 .ret))⟩
def zmo:Hint:=⟨[],[],[none],[],[],false,false⟩
def ziH:Nat→Sh:=yV []
def zit (ya:yj) (L:Nat):CBC:=(xB 231 (zcz ya L) noC)
def zj3 {β:Type} (ya:yj) (L:Nat) (p1 p2:Int) (zHo:List (List V)) (zHp:Int) (k_fin:Int→List (List V)→Int→Option β):Option β :=
 lt (IntKind.wrap .i64 ((p2:Int) - p1)) fun x0 =>
 lt (IntKind.wrap .i64 ((x0:Int)+(1:Int))) fun x1 =>
 ya β L x1 zHo zHp (fun v2 v3 v4 =>
 lt (IntKind.wrap .i64 ((p1:Int)+v2)) fun x5 =>
 k_fin x5 v3 v4)
theorem zsE {β:Type} (ya:yj) (L:Nat) (p1 p2:Int) (zHo:List (List V)) (zHp:Int) (k:KK β):zw ziH (zit ya L) L zfY [(V.ptr 0 0),(V.sc (.int .i64 p1)),(V.sc (.int .i64 p2))] [(.live false [(V.sl 1 zHo),(V.sc (.int .i64 zHp))])] k=zj3 ya L p1 p2 zHo zHp (fun p0 zHo zHp=>k (V.sc (.int .i64 p0)) [(.live false [(V.sl 1 zHo),(V.sc (.int .i64 zHp))])]):=by kernel_rfl
abbrev yX:=∀ (β:Type),Nat→Int→Int→List (List V)→Int→(Int→List (List V)→Int→Option β)→Option β
def yn (β:Type) (L:Nat) (p1 p2:Int) (zHo:List (List V)) (zHp:Int) (k_fin:Int→List (List V)→Int→Option β):Option β:=zj3 ya L p1 p2 zHo zHp k_fin
def zgj (yn:yX) (L:Nat) (β:Type) (args:List V) (bor:Bor) (k:KK β):Option β:=match args,bor with
 | [a0,a1,a2],[(.live false [w0_0,w0_1])]=>aP 0 0 a0 (aI .i64 a1 fun p1=>aI .i64 a2 fun p2=>aL 1 w0_0 fun zHo=>aI .i64 w0_1 fun zHp=>yn β L p1 p2 zHo zHp (fun p0 zHo zHp=>k (V.sc (.int .i64 p0)) [(.live false [(V.sl 1 zHo),(V.sc (.int .i64 zHp))])]))
 | _,_=>none
theorem zso (L:Nat) (β:Type) (args:List V) (bor:Bor) (k:KK β) (r:β) (h:zgj yn L β args bor k=some r):zw ziH (zit ya L) L zfY args bor k=some r:=by
 unfold zgj at h
 split at h
 ·have q:=zwE h; clear h; obtain ⟨rfl,h⟩:=q
  have q:=xR h; clear h; obtain ⟨p1,rfl,h⟩:=q
  have q:=xR h; clear h; obtain ⟨p2,rfl,h⟩:=q
  have q:=zP h; clear h; obtain ⟨zHo,rfl,h⟩:=q
  have q:=xR h; clear h; obtain ⟨zHp,rfl,h⟩:=q
  exact (zsE ya L p1 p2 zHo zHp k).trans h
 ·cases h
def zdu:CC:=(.seq (.seq (.reg [oo 12 (.move (tq 4) false),
   oo 13 (.bin .gtr (tq 12) (.const (.sc (.int .i64 0))))])
 (.cond (tq 13)
 .skip
 (.seq (.mask (bl 12 25) (bl 26738671 25))
 (.exit 0))))
 (.seq (.block 1 (.dreg [] [(oo 16 (.fieldAddr 2 (tq 3)),q0),
   (oo 17 (.load false 1 (tq 16) true),ql 3 [] [21]),
   (oo 18 (.move (tq 0) false),q0),
   (oo 19 (.call 231 [((tq 18),0),((.const (.sc (.int .i64 256))),0)] []),qc [3] []),
   (oo 20 (.conv .u8 (tq 19)),q0),
   (oo 21 (.buildSlice 1 1 [(.sc (.int .u8 0))] [(0,1,(tq 20))]),qn [3] []),
   (oo 22 (.append 1 1 (tq 17) (tq 21)),q0),
   (oo 23 (.fieldAddr 2 (tq 3)),q0),
   (oz (.store 1 (tq 23) (tq 22)),q0)]))
 (.reg [oo 14 (.move (tq 4) false),
   oo 15 (.bin .sub (tq 14) (.const (.sc (.int .i64 1)))),
   oo 4 (.move (tq 15) false)])))
def zkI:CC:=(.seq (.reg [oo 24 (.load true 3 (tq 3) false),
   oz (.store 3 (tq 2) (tq 24))])
 .ret)
def zdA:CF:=⟨25,[.cell 2 true 3],
 (.seq (.reg [oo 2 (.alloc true [(.sc (.int .i64 0)),(.sc (.int .i64 0)),(.gs 1 [])])])
 (.seq (.reg [oo 5 (.move (tq 0) false),
   oo 6 (.call 274 [((tq 5),0),((.const (.sc (.int .i64 1))),0),((.const (.sc (.int .i64 5))),0)] []),
   oo 7 (.move (tq 0) false),
   oo 8 (.call 231 [((tq 7),0),((.const (.sc (.int .i64 9))),0)] []),
   oo 9 (.buildSt [(.sc (.int .i64 0)),(.sc (.int .i64 0)),(.gs 1 [])] [(0,1,(tq 6)),(1,1,(tq 8))]),
   oo 3 (.alloc false [(.sc (.int .i64 0)),(.sc (.int .i64 0)),(.gs 1 [])]),
   oz (.store 3 (tq 3) (tq 9))])
 (.seq (.seq (.reg [oo 10 (.move (tq 0) false),
   oo 11 (.call 231 [((tq 10),0),((.const (.sc (.int .i64 12))),0)] []),
   oo 4 (.move (tq 11) false)])
 (.block 0 (.loop (bl 29 25) (bl 26738687 25)
 zdu)))
 zkI)))⟩
def zpo:Hint:=⟨[(0,0),(1,4),(5,1)],[],[none,some ((bl 29 25),(bl 26738687 25)),none,some ((bl 12 25),(bl 26738671 25)),none,none],[],[],false,false⟩
def zbo:Nat→Sh:=yV []
def zbn (yn:yX) (ya:yj) (L:Nat):CBC:=(xB 231 (zcz ya L) (xB 274 (zgj yn L) noC))
def zfP:St→St:=zZ 1 (bl 29 25) (bl 26738687 25)
def zeg (p4:Int) (zHo:List (List V)) (zHp zHD zHE:Int) (zHF:List (List V)) (zHm zHn:Int) (zHl:List (List V)):St:=⟨((V.ptr 0 0)::(jn 1 ((V.ptr 3 0)::((V.ptr 4 0)::((V.sc (.int .i64 p4))::(jn 20 [])))))),((.live false [(V.sl 1 zHo),(V.sc (.int .i64 zHp))])::(gn 2 ((.live true [(V.sc (.int .i64 zHD)),(V.sc (.int .i64 zHE)),(V.gs 1 zHF)])::((.live false [(V.sc (.int .i64 zHm)),(V.sc (.int .i64 zHn)),(V.gs 1 zHl)])::(gn 21 [])))))⟩
def zjE (zHo:List (List V)) (zHp zHD zHE:Int) (zHF:List (List V)) (zHm zHn:Int) (zHl:List (List V)):St:=⟨(jn 2 ((V.ptr 3 0)::((V.ptr 4 0)::(jn 21 [])))),((.live false [(V.sl 1 zHo),(V.sc (.int .i64 zHp))])::(gn 2 ((.live true [(V.sc (.int .i64 zHD)),(V.sc (.int .i64 zHE)),(V.gs 1 zHF)])::((.live false [(V.sc (.int .i64 zHm)),(V.sc (.int .i64 zHn)),(V.gs 1 zHl)])::(gn 21 [])))))⟩
abbrev zmG (β:Type):Type:=Int→List (List V)→Int→Int→Int→List (List V)→Int→Int→List (List V)→Option β
abbrev zlL (β:Type):Type:=List (List V)→Int→Int→Int→List (List V)→Int→Int→List (List V)→Option β
def zn6 {β:Type} (yn:yX) (ya:yj) (L:Nat) (zHo:List (List V)) (zHp:Int) (k_hbbaba:zmG β):Option β :=
 yn β L (1:Int) (5:Int) zHo zHp (fun v0 v1 v2 =>
 ya β L (9:Int) v1 v2 (fun v3 v4 v5 =>
 ya β L (12:Int) v4 v5 (fun v6 v7 v8 =>
 k_hbbaba v6 v7 v8 (0:Int) (0:Int) ([]:List (List V)) v0 v3 ([]:List (List V)))))
theorem zwv {β:Type} (yn:yX) (ya:yj) (L:Nat) (zHo:List (List V)) (zHp:Int) (k:KK β):zw zbo (zbn yn ya L) L zdA [(V.ptr 0 0)] [(.live false [(V.sl 1 zHo),(V.sc (.int .i64 zHp))])] k=zn6 yn ya L zHo zHp (fun p4 zHo zHp zHD zHE zHF zHm zHn zHl=>zz (xk zbo (zbn yn ya L) 1 L zdu) zfP L (zeg p4 zHo zHp zHD zHE zHF zHm zHn zHl) (yA 0 (xO (xk zbo (zbn yn ya L) 1 L zkI) (yP 1 (CF.res zdA) k)))):=by kernel_rfl
def zfO {β:Type} (yn:yX) (ya:yj) (L:Nat) (p4:Int) (zHo:List (List V)) (zHp zHD zHE:Int) (zHF:List (List V)) (zHm zHn:Int) (zHl:List (List V)) (k_hbbaba:zmG β) (k_x0:zlL β):Option β :=
 ifb (decide (p4 > (0:Int))) (
 ya β L (256:Int) zHo zHp (fun v9 v10 v11 =>
 lt (IntKind.wrap .u8 v9) fun x12 =>
 chk ((List.length zHl+List.length (zh 1 1 [(V.sc (.int .u8 x12))])) * 1≤xj∧List.length zHl+List.length (zh 1 1 [(V.sc (.int .u8 x12))])≤xj) (
 lt (zHl++(zh 1 1 [(V.sc (.int .u8 x12))])) fun l13 =>
 lt (IntKind.wrap .i64 ((p4:Int) - (1:Int))) fun x14 =>
 k_hbbaba x14 v10 v11 zHD zHE zHF zHm zHn l13))) (
 k_x0 zHo zHp zHD zHE zHF zHm zHn zHl)
theorem zrG {β:Type} (yn:yX) (ya:yj) (L:Nat) (p4:Int) (zHo:List (List V)) (zHp zHD zHE:Int) (zHF:List (List V)) (zHm zHn:Int) (zHl:List (List V)) (X:St→Option β) (K:KT β):xk zbo (zbn yn ya L) 1 L zdu (zeg p4 zHo zHp zHD zHE zHF zHm zHn zHl) (zaJ zfP X K)=zfO yn ya L p4 zHo zHp zHD zHE zHF zHm zHn zHl (fun p4 zHo zHp zHD zHE zHF zHm zHn zHl=>X (zeg p4 zHo zHp zHD zHE zHF zHm zHn zHl)) (fun zHo zHp zHD zHE zHF zHm zHn zHl=>K (.exit 0) (zjE zHo zHp zHD zHE zHF zHm zHn zHl)):=by kernel_rfl
def zha {β:Type} (yn:yX) (ya:yj) (L:Nat) (zHo:List (List V)) (zHp zHD zHE:Int) (zHF:List (List V)) (zHm zHn:Int) (zHl:List (List V)) (k_fin:List V→List (List V)→Int→Option β):Option β :=
 lt [(V.sc (.int .i64 zHm)),(V.sc (.int .i64 zHn)),(V.sl 1 zHl)] fun r15 =>
 chk (0=0∧(List.length r15)=3∧3≠0) (
 k_fin r15 zHo zHp)
theorem zp0 {β:Type} (yn:yX) (ya:yj) (L:Nat) (zHo:List (List V)) (zHp zHD zHE:Int) (zHF:List (List V)) (zHm zHn:Int) (zHl:List (List V)) (k:KK β):(yA 0 (xO (xk zbo (zbn yn ya L) 1 L zkI) (yP 1 (CF.res zdA) k))) (.exit 0) (zjE zHo zHp zHD zHE zHF zHm zHn zHl)=zha yn ya L zHo zHp zHD zHE zHF zHm zHn zHl (fun p0 zHo zHp=>k (V.agg p0) [(.live false [(V.sl 1 zHo),(V.sc (.int .i64 zHp))])]):=by kernel_rfl
def zcE {β:Type} (yn:yX) (ya:yj) (L:Nat) (k_x0:zlL β):Nat→Int→List (List V)→Int→Int→Int→List (List V)→Int→Int→List (List V)→Option β
 | 0,_,_,_,_,_,_,_,_,_=>none
 | n+1,p4,zHo,zHp,zHD,zHE,zHF,zHm,zHn,zHl=>zfO yn ya L p4 zHo zHp zHD zHE zHF zHm zHn zHl (fun p4 zHo zHp zHD zHE zHF zHm zHn zHl=>zcE yn ya L k_x0 n p4 zHo zHp zHD zHE zHF zHm zHn zHl) k_x0
theorem zk7 {β:Type} (yn:yX) (ya:yj) (L:Nat) (K:KT β):∀ (n:Nat) (p4:Int) (zHo:List (List V)) (zHp zHD zHE:Int) (zHF:List (List V)) (zHm zHn:Int) (zHl:List (List V)),zz (xk zbo (zbn yn ya L) 1 L zdu) zfP n (zeg p4 zHo zHp zHD zHE zHF zHm zHn zHl) K=zcE yn ya L (fun zHo zHp zHD zHE zHF zHm zHn zHl=>K (.exit 0) (zjE zHo zHp zHD zHE zHF zHm zHn zHl)) n p4 zHo zHp zHD zHE zHF zHm zHn zHl:=by
 intro n
 induction n with
 | zero=>intros; rfl
 | succ n ih =>
  intro p4 zHo zHp zHD zHE zHF zHm zHn zHl
  refine (zrG yn ya L p4 zHo zHp zHD zHE zHF zHm zHn zHl (fun σ=>zz (xk zbo (zbn yn ya L) 1 L zdu) zfP n σ K) K).trans ?_
  simp only [ih]
  rfl
def zkF {β:Type} (yn:yX) (ya:yj) (L:Nat) (zHo:List (List V)) (zHp:Int) (k_fin:List V→List (List V)→Int→Option β):Option β :=
 zn6 yn ya L zHo zHp (fun p4 zHo zHp zHD zHE zHF zHm zHn zHl=>zcE yn ya L (fun zHo zHp zHD zHE zHF zHm zHn zHl=>zha yn ya L zHo zHp zHD zHE zHF zHm zHn zHl k_fin) L p4 zHo zHp zHD zHE zHF zHm zHn zHl)
theorem zwi {β:Type} (yn:yX) (ya:yj) (L:Nat) (zHo:List (List V)) (zHp:Int) (k:KK β):zw zbo (zbn yn ya L) L zdA [(V.ptr 0 0)] [(.live false [(V.sl 1 zHo),(V.sc (.int .i64 zHp))])] k=zkF yn ya L zHo zHp (fun p0 zHo zHp=>k (V.agg p0) [(.live false [(V.sl 1 zHo),(V.sc (.int .i64 zHp))])]):=by
 refine (zwv yn ya L zHo zHp k).trans ?_
 unfold zkF
 first
  | (simp only [zk7,zp0]; done)
  | (simp only [zk7]; rfl)
abbrev yp:=∀ (β:Type),Nat→List (List V)→Int→(List V→List (List V)→Int→Option β)→Option β
def xc (β:Type) (L:Nat) (zHo:List (List V)) (zHp:Int) (k_fin:List V→List (List V)→Int→Option β):Option β:=zkF yn ya L zHo zHp k_fin
def zfB (xc:yp) (L:Nat) (β:Type) (args:List V) (bor:Bor) (k:KK β):Option β:=match args,bor with
 | [a0],[(.live false [w0_0,w0_1])]=>aP 0 0 a0 (aL 1 w0_0 fun zHo=>aI .i64 w0_1 fun zHp=>xc β L zHo zHp (fun p0 zHo zHp=>k (V.agg p0) [(.live false [(V.sl 1 zHo),(V.sc (.int .i64 zHp))])]))
 | _,_=>none
theorem zv0 (L:Nat) (β:Type) (args:List V) (bor:Bor) (k:KK β) (r:β) (h:zfB xc L β args bor k=some r):zw zbo (zbn yn ya L) L zdA args bor k=some r:=by
 unfold zfB at h
 split at h
 ·have q:=zwE h; clear h; obtain ⟨rfl,h⟩:=q
  have q:=zP h; clear h; obtain ⟨zHo,rfl,h⟩:=q
  have q:=xR h; clear h; obtain ⟨zHp,rfl,h⟩:=q
  exact (zwi yn ya L zHo zHp k).trans h
 ·cases h
def zjq:CF:=⟨27,[.tmp 2],
 (.seq (.reg [oo 1 (.box true (tq 0)),
   oo 2 (.move (.const (.sc (.bool false))) false)])
 (.seq (.reg [oo 3 (.fieldAddr 0 (tq 1)),
   oo 4 (.load false 1 (tq 3) false),
   oo 5 (.bin .geq (tq 4) (.const (.sc (.int .i64 1)))),
   oo 6 (.move (tq 5) false),
   ⟨(some 7),false,(some (6,true)),.fieldAddr 0 (tq 1)⟩,
   ⟨(some 8),false,(some (6,true)),.load false 1 (tq 7) false⟩,
   ⟨(some 9),false,(some (6,true)),.bin .leq (tq 8) (.const (.sc (.int .i64 5)))⟩,
   oo 10 (.pick (tq 6) (tq 9) (.const (.sc (.bool false)))),
   oo 11 (.move (tq 10) false),
   ⟨(some 12),false,(some (11,true)),.fieldAddr 1 (tq 1)⟩,
   ⟨(some 13),false,(some (11,true)),.load false 1 (tq 12) false⟩,
   ⟨(some 14),false,(some (11,true)),.bin .geq (tq 13) (.const (.sc (.int .i64 0)))⟩,
   oo 15 (.pick (tq 11) (tq 14) (.const (.sc (.bool false)))),
   oo 16 (.move (tq 15) false),
   ⟨(some 17),false,(some (16,true)),.fieldAddr 1 (tq 1)⟩,
   ⟨(some 18),false,(some (16,true)),.load false 1 (tq 17) false⟩,
   ⟨(some 19),false,(some (16,true)),.bin .leq (tq 18) (.const (.sc (.int .i64 16777216)))⟩,
   oo 20 (.pick (tq 16) (tq 19) (.const (.sc (.bool false)))),
   oo 21 (.move (tq 20) false),
   ⟨(some 22),false,(some (21,true)),.fieldAddr 2 (tq 1)⟩,
   ⟨(some 23),false,(some (21,true)),.load false 1 (tq 22) false⟩,
   ⟨(some 24),false,(some (21,true)),.lenS (tq 23)⟩,
   ⟨(some 25),false,(some (21,true)),.bin .leq (tq 24) (.const (.sc (.int .i64 4096)))⟩,
   oo 26 (.pick (tq 21) (tq 25) (.const (.sc (.bool false)))),
   oo 2 (.move (tq 26) false)])
 .ret))⟩
def zpn:Hint:=⟨[(0,0)],[],[none],[],[],false,false⟩
def zmM:Nat→Sh:=yV [(4,(.int .i64)),(8,(.int .i64)),(13,(.int .i64)),(18,(.int .i64)),(23,(.sl 1))]
def zmI (L:Nat):CBC:=noC
def zom {β:Type} (L:Nat) (p0:List V) (k_fin:Bool→Option β):Option β :=
 cI .i64 p0 0 fun v0 =>
 ifb (decide (v0 ≥ (1:Int))) (
 cI .i64 p0 0 fun v1 =>
 ifb (decide (v1≤(5:Int))) (
 cI .i64 p0 1 fun v2 =>
 ifb (decide (v2 ≥ (0:Int))) (
 cI .i64 p0 1 fun v3 =>
 ifb (decide (v3≤(16777216:Int))) (
 cLd 1 p0 2 fun v4 =>
 k_fin (decide (((List.length v4:Nat):Int)≤(4096:Int)))) (
 k_fin false)) (
 k_fin false)) (
 k_fin false)) (
 k_fin false)
theorem zvY {β:Type} (L:Nat) (p0:List V) (k:KK β):zw zmM (zmI L) L zjq [(V.agg p0)] [] k=zom L p0 (fun p0=>k (V.sc (.bool p0)) []):=by kernel_rfl
abbrev xE:=∀ (β:Type),Nat→List V→(Bool→Option β)→Option β
def zf (β:Type) (L:Nat) (p0:List V) (k_fin:Bool→Option β):Option β:=zom L p0 k_fin
def zfC (zf:xE) (L:Nat) (β:Type) (args:List V) (bor:Bor) (k:KK β):Option β:=match args,bor with
 | [a0],[]=>aG a0 fun p0=>zf β L p0 (fun p0=>k (V.sc (.bool p0)) [])
 | _,_=>none
theorem zvU (L:Nat) (β:Type) (args:List V) (bor:Bor) (k:KK β) (r:β) (h:zfC zf L β args bor k=some r):zw zmM (zmI L) L zjq args bor k=some r:=by
 unfold zfC at h
 split at h
 ·have q:=zgK h; clear h; obtain ⟨p0,rfl,h⟩:=q
  exact (zvY L p0 k).trans h
 ·cases h
def zcj:CC:=(.seq (.seq (.reg [oo 27 (.move (tq 10) false),
   oo 28 (.bin .geq (tq 27) (.const (.sc (.int .i64 0))))])
 (.cond (tq 28)
 .skip
 (.seq (.mask (bl 518 45) (bl 35184372087807 45))
 (.exit 0))))
 (.seq (.block 1 (.reg [oo 31 (.move (tq 9) false),
   oo 32 (.bin .shl (tq 31) (.const (.sc (.int .u64 8)))),
   oo 33 (.move (tq 0) false),
   oo 34 (.move (tq 1) false),
   oo 35 (.move (tq 10) false),
   oo 36 (.bin .add (tq 34) (tq 35)),
   oo 37 (.indexAddrS 1 (tq 33) (tq 36)),
   oo 38 (.load false 1 (tq 37) false),
   oo 39 (.conv .u64 (tq 38)),
   oo 40 (.bin .or (tq 32) (tq 39)),
   oo 9 (.move (tq 40) false)]))
 (.reg [oo 29 (.move (tq 10) false),
   oo 30 (.bin .sub (tq 29) (.const (.sc (.int .i64 1)))),
   oo 10 (.move (tq 30) false)])))
def zhI:CC:=(.seq (.reg [oo 41 (.move (tq 9) false),
   oo 42 (.move (tq 1) false),
   oo 43 (.move (tq 2) false),
   oo 44 (.bin .add (tq 42) (tq 43)),
   oo 6 (.move (tq 41) false),
   oo 7 (.move (tq 44) false),
   oo 8 (.move (.const (.sc (.int .i64 0))) false)])
 .ret)
def zc7:CF:=⟨45,[.tmp 6,.tmp 7,.tmp 8],
 (.seq (.reg [oo 6 (.move (.const (.sc (.int .u64 0))) false),
   oo 7 (.move (.const (.sc (.int .i64 0))) false),
   oo 8 (.move (.const (.sc (.int .i64 0))) false)])
 (.seq (.seq (.reg [oo 11 (.move (tq 1) false),
   oo 12 (.bin .lss (tq 11) (.const (.sc (.int .i64 0)))),
   oo 13 (.move (tq 12) false),
   ⟨(some 14),false,(some (13,false)),.move (tq 1) false⟩,
   ⟨(some 15),false,(some (13,false)),.move (tq 0) false⟩,
   ⟨(some 16),false,(some (13,false)),.lenS (tq 15)⟩,
   ⟨(some 17),false,(some (13,false)),.bin .gtr (tq 14) (tq 16)⟩,
   oo 18 (.pick (tq 13) (.const (.sc (.bool true))) (tq 17))])
 (.cond (tq 18)
 (.seq (.reg [oo 6 (.move (.const (.sc (.int .u64 0))) false),
   oo 7 (.move (.const (.sc (.int .i64 0))) false),
   oo 8 (.move (.const (.sc (.int .i64 5))) false)])
 .ret)
 .skip))
 (.seq (.seq (.reg [oo 19 (.move (tq 0) false),
   oo 20 (.lenS (tq 19)),
   oo 21 (.move (tq 1) false),
   oo 22 (.bin .sub (tq 20) (tq 21)),
   oo 23 (.move (tq 2) false),
   oo 24 (.bin .lss (tq 22) (tq 23))])
 (.cond (tq 24)
 (.seq (.reg [oo 6 (.move (.const (.sc (.int .u64 0))) false),
   oo 7 (.move (.const (.sc (.int .i64 0))) false),
   oo 8 (.move (.const (.sc (.int .i64 1))) false)])
 .ret)
 .skip))
 (.seq (.reg [oo 9 (.move (.const (.sc (.int .u64 0))) false)])
 (.seq (.seq (.reg [oo 25 (.move (tq 2) false),
   oo 26 (.bin .sub (tq 25) (.const (.sc (.int .i64 1)))),
   oo 10 (.move (tq 26) false)])
 (.block 0 (.loop (bl 1543 45) (bl 35184372088831 45)
 zcj)))
 zhI)))))⟩
def zoE:Hint:=⟨[],[],[none,none,none,none,none,some ((bl 1543 45),(bl 35184372088831 45)),none,some ((bl 518 45),(bl 35184372087807 45)),none,none],[],[],false,false⟩
def zba:Nat→Sh:=yV [(38,(.int .u8))]
def za2 (L:Nat):CBC:=noC
def zeb:St→St:=zZ 0 (bl 1543 45) (bl 35184372088831 45)
def zc5 (p0:List (List V)) (p1 p2 p9 p10:Int):St:=⟨((V.sl 1 p0)::((V.sc (.int .i64 p1))::((V.sc (.int .i64 p2))::(jn 6 ((V.sc (.int .u64 p9))::((V.sc (.int .i64 p10))::(jn 34 []))))))),(gn 45 [])⟩
def zis (p1 p2 p9:Int):St:=⟨(jn 1 ((V.sc (.int .i64 p1))::((V.sc (.int .i64 p2))::(jn 6 ((V.sc (.int .u64 p9))::(jn 35 [])))))),(gn 45 [])⟩
def zm5 {β:Type} (L:Nat) (p0:List (List V)) (p1 p2:Int) (k_fin:Int→Int→Int→Option β) (k_hbbbbaba:List (List V)→Int→Int→Int→Int→Option β):Option β :=
 ifb (decide (p1 < (0:Int))) (
 k_fin (0:Int) (0:Int) (5:Int)) (
 ifb (decide (p1 > ((List.length p0:Nat):Int))) (
 k_fin (0:Int) (0:Int) (5:Int)) (
 lt (IntKind.wrap .i64 ((((List.length p0:Nat):Int):Int) - p1)) fun x0 =>
 ifb (decide (x0 < p2)) (
 k_fin (0:Int) (0:Int) (1:Int)) (
 lt (IntKind.wrap .i64 ((p2:Int) - (1:Int))) fun x1 =>
 k_hbbbbaba p0 p1 p2 (0:Int) x1)))
theorem zuZ {β:Type} (L:Nat) (p0:List (List V)) (p1 p2:Int) (k:KK β):zw zba (za2 L) L zc7 [(V.sl 1 p0),(V.sc (.int .i64 p1)),(V.sc (.int .i64 p2))] [] k=zm5 L p0 p1 p2 (fun zHt zHu zHz=>k (V.tup [(V.sc (.int .u64 zHt)),(V.sc (.int .i64 zHu)),(V.sc (.int .i64 zHz))]) []) (fun p0 p1 p2 p9 p10=>zz (xk zba (za2 L) 0 L zcj) zeb L (zc5 p0 p1 p2 p9 p10) (yA 0 (xO (xk zba (za2 L) 0 L zhI) (yP 0 (CF.res zc7) k)))):=by kernel_rfl
def zd9 {β:Type} (L:Nat) (p0:List (List V)) (p1 p2 p9 p10:Int) (k_hbbbbaba:List (List V)→Int→Int→Int→Int→Option β) (k_x0:Int→Int→Int→Option β):Option β :=
 ifb (decide (p10 ≥ (0:Int))) (
 lt (zbU .u64 p9 (8:Int)) fun x2 =>
 lt (IntKind.wrap .i64 ((p1:Int)+p10)) fun x3 =>
 idx p0 x3 fun c4 =>
 cI .u8 c4 0 fun v5 =>
 lt (IntKind.wrap .u64 v5) fun x6 =>
 lt (ior .u64 x2 x6) fun x7 =>
 lt (IntKind.wrap .i64 ((p10:Int) - (1:Int))) fun x8 =>
 k_hbbbbaba p0 p1 p2 x7 x8) (
 k_x0 p1 p2 p9)
theorem zpk {β:Type} (L:Nat) (p0:List (List V)) (p1 p2 p9 p10:Int) (X:St→Option β) (K:KT β):xk zba (za2 L) 0 L zcj (zc5 p0 p1 p2 p9 p10) (zaJ zeb X K)=zd9 L p0 p1 p2 p9 p10 (fun p0 p1 p2 p9 p10=>X (zc5 p0 p1 p2 p9 p10)) (fun p1 p2 p9=>K (.exit 0) (zis p1 p2 p9)):=by kernel_rfl
def zfv {β:Type} (L:Nat) (p1 p2 p9:Int) (k_fin:Int→Int→Int→Option β):Option β :=
 lt (IntKind.wrap .i64 ((p1:Int)+p2)) fun x9 =>
 k_fin p9 x9 (0:Int)
theorem zon {β:Type} (L:Nat) (p1 p2 p9:Int) (k:KK β):(yA 0 (xO (xk zba (za2 L) 0 L zhI) (yP 0 (CF.res zc7) k))) (.exit 0) (zis p1 p2 p9)=zfv L p1 p2 p9 (fun zHt zHu zHz=>k (V.tup [(V.sc (.int .u64 zHt)),(V.sc (.int .i64 zHu)),(V.sc (.int .i64 zHz))]) []):=by kernel_rfl
def zat {β:Type} (L:Nat) (k_x0:Int→Int→Int→Option β):Nat→List (List V)→Int→Int→Int→Int→Option β
 | 0,_,_,_,_,_=>none
 | n+1,p0,p1,p2,p9,p10=>zd9 L p0 p1 p2 p9 p10 (fun p0 p1 p2 p9 p10=>zat L k_x0 n p0 p1 p2 p9 p10) k_x0
theorem ziD {β:Type} (L:Nat) (K:KT β):∀ (n:Nat) (p0:List (List V)) (p1 p2 p9 p10:Int),zz (xk zba (za2 L) 0 L zcj) zeb n (zc5 p0 p1 p2 p9 p10) K=zat L (fun p1 p2 p9=>K (.exit 0) (zis p1 p2 p9)) n p0 p1 p2 p9 p10:=by
 intro n
 induction n with
 | zero=>intros; rfl
 | succ n ih =>
  intro p0 p1 p2 p9 p10
  refine (zpk L p0 p1 p2 p9 p10 (fun σ=>zz (xk zba (za2 L) 0 L zcj) zeb n σ K) K).trans ?_
  simp only [ih]
  rfl
def zjo {β:Type} (L:Nat) (p0:List (List V)) (p1 p2:Int) (k_fin:Int→Int→Int→Option β):Option β :=
 zm5 L p0 p1 p2 k_fin (fun p0 p1 p2 p9 p10=>zat L (fun p1 p2 p9=>zfv L p1 p2 p9 k_fin) L p0 p1 p2 p9 p10)
theorem zuT {β:Type} (L:Nat) (p0:List (List V)) (p1 p2:Int) (k:KK β):zw zba (za2 L) L zc7 [(V.sl 1 p0),(V.sc (.int .i64 p1)),(V.sc (.int .i64 p2))] [] k=zjo L p0 p1 p2 (fun zHt zHu zHz=>k (V.tup [(V.sc (.int .u64 zHt)),(V.sc (.int .i64 zHu)),(V.sc (.int .i64 zHz))]) []):=by
 refine (zuZ L p0 p1 p2 k).trans ?_
 unfold zjo
 first
  | (simp only [ziD,zon]; done)
  | (simp only [ziD]; rfl)
abbrev zjl:=∀ (β:Type),Nat→List (List V)→Int→Int→(Int→Int→Int→Option β)→Option β
def xU (β:Type) (L:Nat) (p0:List (List V)) (p1 p2:Int) (k_fin:Int→Int→Int→Option β):Option β:=zjo L p0 p1 p2 k_fin
def zi5 (xU:zjl) (L:Nat) (β:Type) (args:List V) (bor:Bor) (k:KK β):Option β:=match args,bor with
 | [a0,a1,a2],[]=>aL 1 a0 fun p0=>aI .i64 a1 fun p1=>aI .i64 a2 fun p2=>xU β L p0 p1 p2 (fun zHt zHu zHz=>k (V.tup [(V.sc (.int .u64 zHt)),(V.sc (.int .i64 zHu)),(V.sc (.int .i64 zHz))]) [])
 | _,_=>none
theorem zvh (L:Nat) (β:Type) (args:List V) (bor:Bor) (k:KK β) (r:β) (h:zi5 xU L β args bor k=some r):zw zba (za2 L) L zc7 args bor k=some r:=by
 unfold zi5 at h
 split at h
 ·have q:=zP h; clear h; obtain ⟨p0,rfl,h⟩:=q
  have q:=xR h; clear h; obtain ⟨p1,rfl,h⟩:=q
  have q:=xR h; clear h; obtain ⟨p2,rfl,h⟩:=q
  exact (zuT L p0 p1 p2 k).trans h
 ·cases h
def zl6:CF:=⟨21,[.tmp 4,.tmp 5,.tmp 6],
 (.seq (.reg [oo 4 (.move (.const (.sc (.int .u32 0))) false),
   oo 5 (.move (.const (.sc (.int .i64 0))) false),
   oo 6 (.move (.const (.sc (.int .i64 0))) false)])
 (.seq (.reg [oo 11 (.move (tq 0) false),
   oo 12 (.move (tq 1) false),
   oo 13 (.call 209 [((tq 11),0),((tq 12),0),((.const (.sc (.int .i64 4))),0)] []),
   oo 10 (.move (tq 13) true),
   oo 14 (.pull (tq 10) 0),
   oo 15 (.pull (tq 10) 1),
   oo 16 (.pull (tq 10) 2),
   oo 7 (.move (tq 14) false),
   oo 8 (.move (tq 15) false),
   oo 9 (.move (tq 16) false)])
 (.seq (.reg [oo 17 (.move (tq 7) false),
   oo 18 (.conv .u32 (tq 17)),
   oo 19 (.move (tq 8) false),
   oo 20 (.move (tq 9) false),
   oo 4 (.move (tq 18) false),
   oo 5 (.move (tq 19) false),
   oo 6 (.move (tq 20) false)])
 .ret)))⟩
def zrO:Hint:=⟨[(1,3)],[],[none],[],[],false,false⟩
def zpV:Nat→Sh:=yV []
def zpC (xU:zjl) (L:Nat):CBC:=(xB 209 (zi5 xU L) noC)
def zrp {β:Type} (xU:zjl) (L:Nat) (p0:List (List V)) (p1:Int) (k_fin:Int→Int→Int→Option β):Option β :=
 xU β L p0 p1 (4:Int) (fun v0 v1 v2 =>
 lt (IntKind.wrap .u32 v0) fun x3 =>
 k_fin x3 v1 v2)
theorem zyw {β:Type} (xU:zjl) (L:Nat) (p0:List (List V)) (p1:Int) (k:KK β):zw zpV (zpC xU L) L zl6 [(V.sl 1 p0),(V.sc (.int .i64 p1))] [] k=zrp xU L p0 p1 (fun zHt zHu zHz=>k (V.tup [(V.sc (.int .u32 zHt)),(V.sc (.int .i64 zHu)),(V.sc (.int .i64 zHz))]) []):=by kernel_rfl
abbrev znl:=∀ (β:Type),Nat→List (List V)→Int→(Int→Int→Int→Option β)→Option β
def zac (β:Type) (L:Nat) (p0:List (List V)) (p1:Int) (k_fin:Int→Int→Int→Option β):Option β:=zrp xU L p0 p1 k_fin
def znC (zac:znl) (L:Nat) (β:Type) (args:List V) (bor:Bor) (k:KK β):Option β:=match args,bor with
 | [a0,a1],[]=>aL 1 a0 fun p0=>aI .i64 a1 fun p1=>zac β L p0 p1 (fun zHt zHu zHz=>k (V.tup [(V.sc (.int .u32 zHt)),(V.sc (.int .i64 zHu)),(V.sc (.int .i64 zHz))]) [])
 | _,_=>none
theorem zx7 (L:Nat) (β:Type) (args:List V) (bor:Bor) (k:KK β) (r:β) (h:znC zac L β args bor k=some r):zw zpV (zpC xU L) L zl6 args bor k=some r:=by
 unfold znC at h
 split at h
 ·have q:=zP h; clear h; obtain ⟨p0,rfl,h⟩:=q
  have q:=xR h; clear h; obtain ⟨p1,rfl,h⟩:=q
  exact (zyw xU L p0 p1 k).trans h
 ·cases h
def zh9:CF:=⟨17,[.tmp 4],
 (.seq (.reg [oo 4 (.move (.const (.gs 1 [])) true)])
 (.seq (.reg [oo 6 (.move (tq 0) false),
   oo 7 (.lenS (tq 6)),
   oo 8 (.move (tq 1) false),
   oo 9 (.lenS (tq 8)),
   oo 10 (.bin .add (tq 7) (tq 9)),
   oo 11 (.makeSlice 1 1 [(.sc (.int .u8 0))] (.const (.sc (.int .i64 0))) (tq 10)),
   oo 5 (.move (tq 11) true)])
 (.seq (.reg [oo 12 (.move (tq 5) true),
   oo 13 (.move (tq 0) false),
   oo 14 (.append 1 1 (tq 12) (tq 13)),
   oo 15 (.move (tq 1) false),
   oo 16 (.append 1 1 (tq 14) (tq 15)),
   oo 4 (.move (tq 16) true)])
 .ret)))⟩
def zoy:Hint:=⟨[(0,0),(1,6),(2,0),(2,5)],[],[none],[],[],false,false⟩
def zl7:Nat→Sh:=yV []
def zlH (L:Nat):CBC:=noC
def znb {β:Type} (L:Nat) (p0 p1:List (List V)) (k_fin:List (List V)→Option β):Option β :=
 lt (IntKind.wrap .i64 ((((List.length p0:Nat):Int):Int)+((List.length p1:Nat):Int))) fun x0 =>
 chk (0≤(0:Int)∧(0:Int)≤x0∧(Int.toNat x0) * 1≤xj∧x0≤xj) (
 chk ((List.length (List.replicate 0 [(V.sc (.int .u8 (0:Int)))])+List.length p0) * 1≤xj∧List.length (List.replicate 0 [(V.sc (.int .u8 (0:Int)))])+List.length p0≤xj) (
 lt ((List.replicate 0 [(V.sc (.int .u8 (0:Int)))])++p0) fun l1 =>
 chk ((List.length l1+List.length p1) * 1≤xj∧List.length l1+List.length p1≤xj) (
 lt (l1++p1) fun l2 =>
 k_fin l2)))
theorem zvs {β:Type} (L:Nat) (p0 p1:List (List V)) (k:KK β):zw zl7 (zlH L) L zh9 [(V.sl 1 p0),(V.sl 1 p1)] [] k=znb L p0 p1 (fun p0=>k (V.gs 1 p0) []):=by kernel_rfl
abbrev zX:=∀ (β:Type),Nat→List (List V)→List (List V)→(List (List V)→Option β)→Option β
def ym (β:Type) (L:Nat) (p0 p1:List (List V)) (k_fin:List (List V)→Option β):Option β:=znb L p0 p1 k_fin
def zgz (ym:zX) (L:Nat) (β:Type) (args:List V) (bor:Bor) (k:KK β):Option β:=match args,bor with
 | [a0,a1],[]=>aL 1 a0 fun p0=>aL 1 a1 fun p1=>ym β L p0 p1 (fun p0=>k (V.gs 1 p0) [])
 | _,_=>none
theorem zu5 (L:Nat) (β:Type) (args:List V) (bor:Bor) (k:KK β) (r:β) (h:zgz ym L β args bor k=some r):zw zl7 (zlH L) L zh9 args bor k=some r:=by
 unfold zgz at h
 split at h
 ·have q:=zP h; clear h; obtain ⟨p0,rfl,h⟩:=q
  have q:=zP h; clear h; obtain ⟨p1,rfl,h⟩:=q
  exact (zvs L p0 p1 k).trans h
 ·cases h
def zd1:CC:=(.seq (.reg [oo 9 (.bin .lss (tq 8) (tq 7))])
 (.seq (.cond (tq 9)
 .skip
 (.seq (.mask (bl 8 17) (bl 114655 17))
 (.exit 0)))
 (.seq (.block 1 (.seq (.reg [oo 10 (.indexAddrS 1 (tq 6) (tq 8)),
   oo 11 (.load false 1 (tq 10) false),
   oo 5 (.move (tq 11) false)])
 (.reg [oo 12 (.move (tq 3) false),
   oo 13 (.move (tq 5) false),
   oo 14 (.call 193 [((tq 12),0),((tq 13),0)] []),
   oo 3 (.move (tq 14) true)])))
 (.reg [oo 15 (.bin .add (tq 8) (.const (.sc (.int .i64 1)))),
   oo 8 (.move (tq 15) false)]))))
def zmi:CC:=(.seq (.reg [oo 16 (.move (tq 3) true),
   oo 2 (.move (tq 16) true)])
 .ret)
def zer:CF:=⟨17,[.tmp 2],
 (.seq (.reg [oo 2 (.move (.const (.gs 1 [])) true)])
 (.seq (.reg [oo 3 (.move (.const (.gs 1 [])) true)])
 (.seq (.seq (.reg [oo 6 (.move (tq 0) false),
   oo 7 (.lenS (tq 6)),
   oo 8 (.move (.const (.sc (.int .i64 0))) false)])
 (.block 0 (.loop (bl 456 17) (bl 114655 17)
 zd1)))
 zmi)))⟩
def zqp:Hint:=⟨[(0,0),(1,0),(5,3),(7,0),(7,1)],[],[none,some ((bl 456 17),(bl 114655 17)),none,some ((bl 8 17),(bl 114655 17)),none,none],[],[],false,false⟩
def zbP:Nat→Sh:=yV [(11,(.sl 1))]
def zbQ (ym:zX) (L:Nat):CBC:=(xB 193 (zgz ym L) noC)
def zgh:St→St:=zZ 0 (bl 456 17) (bl 114655 17)
def zeN (p3 p6:List (List V)) (p7 p8:Int):St:=⟨(jn 3 ((V.gs 1 p3)::(jn 2 ((V.sl 1 p6)::((V.sc (.int .i64 p7))::((V.sc (.int .i64 p8))::(jn 8 []))))))),(gn 17 [])⟩
def zkN (p3:List (List V)):St:=⟨(jn 3 ((V.gs 1 p3)::(jn 13 []))),(gn 17 [])⟩
def zpr {β:Type} (ym:zX) (L:Nat) (p0:List (List V)) (k_hbbaba:List (List V)→List (List V)→Int→Int→Option β):Option β :=
 k_hbbaba ([]:List (List V)) p0 ((List.length p0:Nat):Int) (0:Int)
theorem zxy {β:Type} (ym:zX) (L:Nat) (p0:List (List V)) (k:KK β):zw zbP (zbQ ym L) L zer [(V.sl 1 p0)] [] k=zpr ym L p0 (fun p3 p6 p7 p8=>zz (xk zbP (zbQ ym L) 0 L zd1) zgh L (zeN p3 p6 p7 p8) (yA 0 (xO (xk zbP (zbQ ym L) 0 L zmi) (yP 0 (CF.res zer) k)))):=by kernel_rfl
def zj4 {β:Type} (ym:zX) (L:Nat) (p3 p6:List (List V)) (p7 p8:Int) (k_hbbaba:List (List V)→List (List V)→Int→Int→Option β) (k_x0:List (List V)→Option β):Option β :=
 ifb (decide (p8 < p7)) (
 idx p6 p8 fun c0 =>
 cL 1 c0 0 fun v1 =>
 ym β L p3 v1 (fun v2 =>
 lt (IntKind.wrap .i64 ((p8:Int)+(1:Int))) fun x3 =>
 k_hbbaba v2 p6 p7 x3)) (
 k_x0 p3)
theorem zsO {β:Type} (ym:zX) (L:Nat) (p3 p6:List (List V)) (p7 p8:Int) (X:St→Option β) (K:KT β):xk zbP (zbQ ym L) 0 L zd1 (zeN p3 p6 p7 p8) (zaJ zgh X K)=zj4 ym L p3 p6 p7 p8 (fun p3 p6 p7 p8=>X (zeN p3 p6 p7 p8)) (fun p3=>K (.exit 0) (zkN p3)):=by kernel_rfl
def zmv {β:Type} (ym:zX) (L:Nat) (p3:List (List V)) (k_fin:List (List V)→Option β):Option β :=
 k_fin p3
theorem zrk {β:Type} (ym:zX) (L:Nat) (p3:List (List V)) (k:KK β):(yA 0 (xO (xk zbP (zbQ ym L) 0 L zmi) (yP 0 (CF.res zer) k))) (.exit 0) (zkN p3)=zmv ym L p3 (fun p0=>k (V.gs 1 p0) []):=by kernel_rfl
def zeA {β:Type} (ym:zX) (L:Nat) (k_x0:List (List V)→Option β):Nat→List (List V)→List (List V)→Int→Int→Option β
 | 0,_,_,_,_=>none
 | n+1,p3,p6,p7,p8=>zj4 ym L p3 p6 p7 p8 (fun p3 p6 p7 p8=>zeA ym L k_x0 n p3 p6 p7 p8) k_x0
theorem zme {β:Type} (ym:zX) (L:Nat) (K:KT β):∀ (n:Nat) (p3 p6:List (List V)) (p7 p8:Int),zz (xk zbP (zbQ ym L) 0 L zd1) zgh n (zeN p3 p6 p7 p8) K=zeA ym L (fun p3=>K (.exit 0) (zkN p3)) n p3 p6 p7 p8:=by
 intro n
 induction n with
 | zero=>intros; rfl
 | succ n ih =>
  intro p3 p6 p7 p8
  refine (zsO ym L p3 p6 p7 p8 (fun σ=>zz (xk zbP (zbQ ym L) 0 L zd1) zgh n σ K) K).trans ?_
  simp only [ih]
  rfl
def zll {β:Type} (ym:zX) (L:Nat) (p0:List (List V)) (k_fin:List (List V)→Option β):Option β :=
 zpr ym L p0 (fun p3 p6 p7 p8=>zeA ym L (fun p3=>zmv ym L p3 k_fin) L p3 p6 p7 p8)
theorem zxk {β:Type} (ym:zX) (L:Nat) (p0:List (List V)) (k:KK β):zw zbP (zbQ ym L) L zer [(V.sl 1 p0)] [] k=zll ym L p0 (fun p0=>k (V.gs 1 p0) []):=by
 refine (zxy ym L p0 k).trans ?_
 unfold zll
 first
  | (simp only [zme,zrk]; done)
  | (simp only [zme]; rfl)
abbrev zk:=∀ (β:Type),Nat→List (List V)→(List (List V)→Option β)→Option β
def xa (β:Type) (L:Nat) (p0:List (List V)) (k_fin:List (List V)→Option β):Option β:=zll ym L p0 k_fin
def zdS (xa:zk) (L:Nat) (β:Type) (args:List V) (bor:Bor) (k:KK β):Option β:=match args,bor with
 | [a0],[]=>aL 1 a0 fun p0=>xa β L p0 (fun p0=>k (V.gs 1 p0) [])
 | _,_=>none
theorem zxj (L:Nat) (β:Type) (args:List V) (bor:Bor) (k:KK β) (r:β) (h:zdS xa L β args bor k=some r):zw zbP (zbQ ym L) L zer args bor k=some r:=by
 unfold zdS at h
 split at h
 ·have q:=zP h; clear h; obtain ⟨p0,rfl,h⟩:=q
  exact (zxk ym L p0 k).trans h
 ·cases h
def zdT:CC:=(.seq (.seq (.reg [oo 17 (.move (tq 4) false),
   oo 18 (.bin .geq (tq 17) (.const (.sc (.int .i64 0))))])
 (.cond (tq 18)
 .skip
 (.seq (.mask (bl 8 31) (bl 1342177263 31))
 (.exit 2))))
 (.seq (.block 3 (.reg [oo 21 (.move (tq 3) true),
   oo 22 (.move (tq 0) false),
   oo 23 (.bin .mul (.const (.sc (.int .u64 8))) (tq 22)),
   oo 24 (.move (tq 4) false),
   oo 25 (.bin .mul (.const (.sc (.int .i64 8))) (tq 24)),
   oo 26 (.bin .shr (tq 23) (tq 25)),
   oo 27 (.conv .u8 (tq 26)),
   oo 28 (.buildSlice 1 1 [(.sc (.int .u8 0))] [(0,1,(tq 27))]),
   oo 29 (.append 1 1 (tq 21) (tq 28)),
   oo 3 (.move (tq 29) true)]))
 (.reg [oo 19 (.move (tq 4) false),
   oo 20 (.bin .sub (tq 19) (.const (.sc (.int .i64 1)))),
   oo 4 (.move (tq 20) false)])))
def zfe:CC:=(.seq (.seq (.reg [oo 6 (.move (tq 0) false),
   oo 7 (.move (tq 3) false),
   oo 8 (.lenS (tq 7)),
   oo 9 (.conv .u64 (tq 8)),
   oo 10 (.bin .add (tq 6) (tq 9)),
   oo 11 (.bin .add (tq 10) (.const (.sc (.int .u64 8)))),
   oo 12 (.bin .rem (tq 11) (.const (.sc (.int .u64 64)))),
   oo 13 (.bin .neq (tq 12) (.const (.sc (.int .u64 0))))])
 (.cond (tq 13)
 .skip
 (.seq (.mask (bl 9 31) (bl 2147385087 31))
 (.exit 0))))
 (.block 1 (.reg [oo 14 (.move (tq 3) true),
   oo 15 (.buildSlice 1 1 [(.sc (.int .u8 0))] [(0,1,(.const (.sc (.int .u8 0))))]),
   oo 16 (.append 1 1 (tq 14) (tq 15)),
   oo 3 (.move (tq 16) true)])))
def zlY:CC:=(.seq (.reg [oo 30 (.move (tq 3) true),
   oo 2 (.move (tq 30) true)])
 .ret)
def zi7:CC:=(.seq (.seq (.reg [oo 4 (.move (.const (.sc (.int .i64 7))) false)])
 (.block 2 (.loop (bl 25 31) (bl 1342177279 31)
 zdT)))
 zlY)
def zcq:CF:=⟨31,[.tmp 2],
 (.seq (.reg [oo 2 (.move (.const (.gs 1 [])) true)])
 (.seq (.reg [oo 5 (.buildSlice 1 1 [(.sc (.int .u8 0))] [(0,1,(.const (.sc (.int .u8 128))))]),
   oo 3 (.move (tq 5) true)])
 (.seq (.block 0 (.loop (bl 9 31) (bl 2147385087 31)
 zfe))
 zi7)))⟩
def zrs:Hint:=⟨[(0,0),(1,1),(3,0),(3,3),(7,0),(7,9),(8,0),(8,1)],[],[none,some ((bl 9 31),(bl 2147385087 31)),none,some ((bl 9 31),(bl 2147385087 31)),none,none,some ((bl 25 31),(bl 1342177279 31)),none,some ((bl 8 31),(bl 1342177263 31)),none,none],[],[],false,false⟩
def y5:Nat→Sh:=yV []
def y4 (L:Nat):CBC:=noC
def zh5:St→St:=zZ 0 (bl 9 31) (bl 2147385087 31)
def zgf:St→St:=zZ 0 (bl 25 31) (bl 1342177279 31)
def zfI (p0:Int) (p3:List (List V)):St:=⟨((V.sc (.int .u64 p0))::(jn 2 ((V.gs 1 p3)::(jn 27 [])))),(gn 31 [])⟩
def zie (p0:Int) (p3:List (List V)):St:=⟨((V.sc (.int .u64 p0))::(jn 2 ((V.gs 1 p3)::(jn 27 [])))),(gn 31 [])⟩
def zeR (p0:Int) (p3:List (List V)) (p4:Int):St:=⟨((V.sc (.int .u64 p0))::(jn 2 ((V.gs 1 p3)::((V.sc (.int .i64 p4))::(jn 26 []))))),(gn 31 [])⟩
def zlR (p3:List (List V)):St:=⟨(jn 3 ((V.gs 1 p3)::(jn 27 []))),(gn 31 [])⟩
def zrc {β:Type} (L:Nat) (p0:Int) (k_hbbaa:Int→List (List V)→Option β):Option β :=
 k_hbbaa p0 (zh 1 1 [(V.sc (.int .u8 (128:Int)))])
theorem zyp {β:Type} (L:Nat) (p0:Int) (k:KK β):zw y5 (y4 L) L zcq [(V.sc (.int .u64 p0))] [] k=zrc L p0 (fun p0 p3=>zz (xk y5 (y4 L) 0 L zfe) zh5 L (zfI p0 p3) (yA 0 (xO (xk y5 (y4 L) 0 L zi7) (yP 0 (CF.res zcq) k)))):=by kernel_rfl
def zmb {β:Type} (L:Nat) (p0:Int) (p3:List (List V)) (k_hbbaa:Int→List (List V)→Option β) (k_x0:Int→List (List V)→Option β):Option β :=
 lt (IntKind.wrap .u64 ((List.length p3:Nat):Int)) fun x0 =>
 lt (IntKind.wrap .u64 ((p0:Int)+x0)) fun x1 =>
 lt (IntKind.wrap .u64 ((x1:Int)+(8:Int))) fun x2 =>
 lt (Int.tmod x2 (64:Int)) fun x3 =>
 ifb ((x3:Int) != (0:Int)) (
 chk ((List.length p3+List.length (zh 1 1 [(V.sc (.int .u8 (0:Int)))])) * 1≤xj∧List.length p3+List.length (zh 1 1 [(V.sc (.int .u8 (0:Int)))])≤xj) (
 lt (p3++(zh 1 1 [(V.sc (.int .u8 (0:Int)))])) fun l4 =>
 k_hbbaa p0 l4)) (
 k_x0 p0 p3)
theorem ztE {β:Type} (L:Nat) (p0:Int) (p3:List (List V)) (X:St→Option β) (K:KT β):xk y5 (y4 L) 0 L zfe (zfI p0 p3) (zaJ zh5 X K)=zmb L p0 p3 (fun p0 p3=>X (zfI p0 p3)) (fun p0 p3=>K (.exit 0) (zie p0 p3)):=by kernel_rfl
def zjW {β:Type} (L:Nat) (p0:Int) (p3:List (List V)) (k_hbbbaba:Int→List (List V)→Int→Option β):Option β :=
 k_hbbbaba p0 p3 (7:Int)
theorem zsy {β:Type} (L:Nat) (p0:Int) (p3:List (List V)) (k:KK β):(yA 0 (xO (xk y5 (y4 L) 0 L zi7) (yP 0 (CF.res zcq) k))) (.exit 0) (zie p0 p3)=zjW L p0 p3 (fun p0 p3 p4=>zz (xk y5 (y4 L) 0 L zdT) zgf L (zeR p0 p3 p4) (yA 2 (xO (xk y5 (y4 L) 0 L zlY) (yP 0 (CF.res zcq) k)))):=by kernel_rfl
def zez {β:Type} (L:Nat) (p0:Int) (p3:List (List V)) (p4:Int) (k_hbbbaba:Int→List (List V)→Int→Option β) (k_x2:List (List V)→Option β):Option β :=
 ifb (decide (p4 ≥ (0:Int))) (
 lt (IntKind.wrap .u64 (((8:Int):Int) * p0)) fun x5 =>
 lt (IntKind.wrap .i64 (((8:Int):Int) * p4)) fun x6 =>
 chk (0≤x6) (
 lt (zco .u64 x5 x6) fun x7 =>
 lt (IntKind.wrap .u8 x7) fun x8 =>
 chk ((List.length p3+List.length (zh 1 1 [(V.sc (.int .u8 x8))])) * 1≤xj∧List.length p3+List.length (zh 1 1 [(V.sc (.int .u8 x8))])≤xj) (
 lt (p3++(zh 1 1 [(V.sc (.int .u8 x8))])) fun l9 =>
 lt (IntKind.wrap .i64 ((p4:Int) - (1:Int))) fun x10 =>
 k_hbbbaba p0 l9 x10))) (
 k_x2 p3)
theorem zsq {β:Type} (L:Nat) (p0:Int) (p3:List (List V)) (p4:Int) (X:St→Option β) (K:KT β):xk y5 (y4 L) 0 L zdT (zeR p0 p3 p4) (zaJ zgf X K)=zez L p0 p3 p4 (fun p0 p3 p4=>X (zeR p0 p3 p4)) (fun p3=>K (.exit 2) (zlR p3)):=by kernel_rfl
def zhR {β:Type} (L:Nat) (p3:List (List V)) (k_fin:List (List V)→Option β):Option β :=
 k_fin p3
theorem zqT {β:Type} (L:Nat) (p3:List (List V)) (k:KK β):(yA 2 (xO (xk y5 (y4 L) 0 L zlY) (yP 0 (CF.res zcq) k))) (.exit 2) (zlR p3)=zhR L p3 (fun p0=>k (V.gs 1 p0) []):=by kernel_rfl
def zfN {β:Type} (L:Nat) (k_x0:Int→List (List V)→Option β):Nat→Int→List (List V)→Option β
 | 0,_,_=>none
 | n+1,p0,p3=>zmb L p0 p3 (fun p0 p3=>zfN L k_x0 n p0 p3) k_x0
theorem znE {β:Type} (L:Nat) (K:KT β):∀ (n:Nat) (p0:Int) (p3:List (List V)),zz (xk y5 (y4 L) 0 L zfe) zh5 n (zfI p0 p3) K=zfN L (fun p0 p3=>K (.exit 0) (zie p0 p3)) n p0 p3:=by
 intro n
 induction n with
 | zero=>intros; rfl
 | succ n ih =>
  intro p0 p3
  refine (ztE L p0 p3 (fun σ=>zz (xk y5 (y4 L) 0 L zfe) zh5 n σ K) K).trans ?_
  simp only [ih]
  rfl
def zdc {β:Type} (L:Nat) (k_x2:List (List V)→Option β):Nat→Int→List (List V)→Int→Option β
 | 0,_,_,_=>none
 | n+1,p0,p3,p4=>zez L p0 p3 p4 (fun p0 p3 p4=>zdc L k_x2 n p0 p3 p4) k_x2
theorem zlp {β:Type} (L:Nat) (K:KT β):∀ (n:Nat) (p0:Int) (p3:List (List V)) (p4:Int),zz (xk y5 (y4 L) 0 L zdT) zgf n (zeR p0 p3 p4) K=zdc L (fun p3=>K (.exit 2) (zlR p3)) n p0 p3 p4:=by
 intro n
 induction n with
 | zero=>intros; rfl
 | succ n ih =>
  intro p0 p3 p4
  refine (zsq L p0 p3 p4 (fun σ=>zz (xk y5 (y4 L) 0 L zdT) zgf n σ K) K).trans ?_
  simp only [ih]
  rfl
def zfF {β:Type} (L:Nat) (p0:Int) (p3:List (List V)) (k_fin:List (List V)→Option β):Option β :=
 zjW L p0 p3 (fun p0 p3 p4=>zdc L (fun p3=>zhR L p3 k_fin) L p0 p3 p4)
theorem zrX {β:Type} (L:Nat) (p0:Int) (p3:List (List V)) (k:KK β):(yA 0 (xO (xk y5 (y4 L) 0 L zi7) (yP 0 (CF.res zcq) k))) (.exit 0) (zie p0 p3)=zfF L p0 p3 (fun p0=>k (V.gs 1 p0) []):=by
 refine (zsy L p0 p3 k).trans ?_
 unfold zfF
 first
  | (simp only [zlp,zqT]; done)
  | (simp only [zlp]; rfl)
def znf {β:Type} (L:Nat) (p0:Int) (k_fin:List (List V)→Option β):Option β :=
 zrc L p0 (fun p0 p3=>zfN L (fun p0 p3=>zfF L p0 p3 k_fin) L p0 p3)
theorem zye {β:Type} (L:Nat) (p0:Int) (k:KK β):zw y5 (y4 L) L zcq [(V.sc (.int .u64 p0))] [] k=znf L p0 (fun p0=>k (V.gs 1 p0) []):=by
 refine (zyp L p0 k).trans ?_
 unfold znf
 first
  | (simp only [znE,zrX]; done)
  | (simp only [znE]; rfl)
abbrev xV:=∀ (β:Type),Nat→Int→(List (List V)→Option β)→Option β
def zl (β:Type) (L:Nat) (p0:Int) (k_fin:List (List V)→Option β):Option β:=znf L p0 k_fin
def zno (zl:xV) (L:Nat) (β:Type) (args:List V) (bor:Bor) (k:KK β):Option β:=match args,bor with
 | [a0],[]=>aI .u64 a0 fun p0=>zl β L p0 (fun p0=>k (V.gs 1 p0) [])
 | _,_=>none
theorem zyu (L:Nat) (β:Type) (args:List V) (bor:Bor) (k:KK β) (r:β) (h:zno zl L β args bor k=some r):zw y5 (y4 L) L zcq args bor k=some r:=by
 unfold zno at h
 split at h
 ·have q:=xR h; clear h; obtain ⟨p0,rfl,h⟩:=q
  exact (zye L p0 k).trans h
 ·cases h
def zhm:CF:=⟨2,[.cell 0 true 8],
 (.seq (.reg [oo 0 (.alloc true [(.sc (.int .u32 0)),(.sc (.int .u32 0)),(.sc (.int .u32 0)),(.sc (.int .u32 0)),(.sc (.int .u32 0)),(.sc (.int .u32 0)),(.sc (.int .u32 0)),(.sc (.int .u32 0))])])
 (.seq (.reg [oo 1 (.build [(.sc (.int .u32 0)),(.sc (.int .u32 0)),(.sc (.int .u32 0)),(.sc (.int .u32 0)),(.sc (.int .u32 0)),(.sc (.int .u32 0)),(.sc (.int .u32 0)),(.sc (.int .u32 0))] [(0,1,(.const (.sc (.int .u32 1779033703)))),(1,1,(.const (.sc (.int .u32 3144134277)))),(2,1,(.const (.sc (.int .u32 1013904242)))),(3,1,(.const (.sc (.int .u32 2773480762)))),(4,1,(.const (.sc (.int .u32 1359893119)))),(5,1,(.const (.sc (.int .u32 2600822924)))),(6,1,(.const (.sc (.int .u32 528734635)))),(7,1,(.const (.sc (.int .u32 1541459225))))]),
   oz (.store 8 (tq 0) (tq 1))])
 .ret))⟩
def znH:Hint:=⟨[],[],[none],[],[],false,false⟩
def zkY:Nat→Sh:=yV []
def zkO (L:Nat):CBC:=noC
def zlZ {β:Type} (L:Nat) (k_fin:List V→Option β):Option β :=
 lt [(V.sc (.int .u32 (1779033703:Int))),(V.sc (.int .u32 (3144134277:Int))),(V.sc (.int .u32 (1013904242:Int))),(V.sc (.int .u32 (2773480762:Int))),(V.sc (.int .u32 (1359893119:Int))),(V.sc (.int .u32 (2600822924:Int))),(V.sc (.int .u32 (528734635:Int))),(V.sc (.int .u32 (1541459225:Int)))] fun r0 =>
 chk (0=0∧(List.length r0)=8∧8≠0) (
 k_fin r0)
theorem ztH {β:Type} (L:Nat) (k:KK β):zw zkY (zkO L) L zhm [] [] k=zlZ L (fun p0=>k (V.agg p0) []):=by kernel_rfl
abbrev zK:=∀ (β:Type),Nat→(List V→Option β)→Option β
def xg (β:Type) (L:Nat) (k_fin:List V→Option β):Option β:=zlZ L k_fin
def zhX (xg:zK) (L:Nat) (β:Type) (args:List V) (bor:Bor) (k:KK β):Option β:=match args,bor with
 | [],[]=>xg β L (fun p0=>k (V.agg p0) [])
 | _,_=>none
theorem ztA (L:Nat) (β:Type) (args:List V) (bor:Bor) (k:KK β) (r:β) (h:zhX xg L β args bor k=some r):zw zkY (zkO L) L zhm args bor k=some r:=by
 unfold zhX at h
 split at h
 ·exact (ztH L k).trans h
 ·cases h
def zkx:CF:=⟨9,[.tmp 4],
 (.seq (.reg [oo 4 (.move (.const (.sc (.int .u32 0))) false)])
 (.seq (.reg [oo 5 (.move (tq 0) false),
   oo 6 (.move (tq 1) false),
   oo 7 (.un .neg (tq 6)),
   oo 8 (.call 572 [((tq 5),0),((tq 7),0)] []),
   oo 4 (.move (tq 8) false)])
 .ret))⟩
def zqD:Hint:=⟨[],[],[none],[],[],false,false⟩
def zoo:Nat→Sh:=yV []
def zn4 (xp:zar) (L:Nat):CBC:=(xB 572 (zbK xp L) noC)
def zpB {β:Type} (xp:zar) (L:Nat) (p0 p1:Int) (k_fin:Int→Option β):Option β :=
 lt (IntKind.wrap .i64 (0 - p1)) fun x0 =>
 xp β L p0 x0 (fun v1 =>
 k_fin v1)
theorem zxl {β:Type} (xp:zar) (L:Nat) (p0 p1:Int) (k:KK β):zw zoo (zn4 xp L) L zkx [(V.sc (.int .u32 p0)),(V.sc (.int .i64 p1))] [] k=zpB xp L p0 p1 (fun p0=>k (V.sc (.int .u32 p0)) []):=by kernel_rfl
abbrev xD:=∀ (β:Type),Nat→Int→Int→(Int→Option β)→Option β
def ye (β:Type) (L:Nat) (p0 p1:Int) (k_fin:Int→Option β):Option β:=zpB xp L p0 p1 k_fin
def ziN (ye:xD) (L:Nat) (β:Type) (args:List V) (bor:Bor) (k:KK β):Option β:=match args,bor with
 | [a0,a1],[]=>aI .u32 a0 fun p0=>aI .i64 a1 fun p1=>ye β L p0 p1 (fun p0=>k (V.sc (.int .u32 p0)) [])
 | _,_=>none
theorem zwT (L:Nat) (β:Type) (args:List V) (bor:Bor) (k:KK β) (r:β) (h:ziN ye L β args bor k=some r):zw zoo (zn4 xp L) L zkx args bor k=some r:=by
 unfold ziN at h
 split at h
 ·have q:=xR h; clear h; obtain ⟨p0,rfl,h⟩:=q
  have q:=xR h; clear h; obtain ⟨p1,rfl,h⟩:=q
  exact (zxl xp L p0 p1 k).trans h
 ·cases h
def zbZ:CC:=(.seq (.seq (.reg [oo 43 (.move (tq 5) false),
   oo 44 (.bin .lss (tq 43) (.const (.sc (.int .i64 64))))])
 (.cond (tq 44)
 .skip
 (.seq (.mask (bl 12 97) (bl 158456315288573494874593034013 97))
 (.exit 2))))
 (.seq (.block 3 (.seq (.dreg [] [(oo 47 (.move (tq 5) false),q0),
   (oo 48 (.bin .sub (tq 47) (.const (.sc (.int .i64 15)))),q0),
   (oo 49 (.indexAddrA 64 1 (tq 3) (tq 48)),q0),
   (oo 50 (.load false 1 (tq 49) false),q1),
   (oo 51 (.call 571 [((tq 50),0),((.const (.sc (.int .i64 7))),0)] []),q1),
   (oo 52 (.move (tq 5) false),q0),
   (oo 53 (.bin .sub (tq 52) (.const (.sc (.int .i64 15)))),q0),
   (oo 54 (.indexAddrA 64 1 (tq 3) (tq 53)),q0),
   (oo 55 (.load false 1 (tq 54) false),q1),
   (oo 56 (.call 571 [((tq 55),0),((.const (.sc (.int .i64 18))),0)] []),q1),
   (oo 57 (.bin .xor (tq 51) (tq 56)),q0),
   (oo 58 (.move (tq 5) false),q0),
   (oo 59 (.bin .sub (tq 58) (.const (.sc (.int .i64 15)))),q0),
   (oo 60 (.indexAddrA 64 1 (tq 3) (tq 59)),q0),
   (oo 61 (.load false 1 (tq 60) false),q1),
   (oo 62 (.bin .shr (tq 61) (.const (.sc (.int .u64 3)))),q0),
   (oo 63 (.bin .xor (tq 57) (tq 62)),q0),
   (oo 6 (.move (tq 63) false),q0)])
 (.seq (.dreg [] [(oo 64 (.move (tq 5) false),q0),
   (oo 65 (.bin .sub (tq 64) (.const (.sc (.int .i64 2)))),q0),
   (oo 66 (.indexAddrA 64 1 (tq 3) (tq 65)),q0),
   (oo 67 (.load false 1 (tq 66) false),q1),
   (oo 68 (.call 571 [((tq 67),0),((.const (.sc (.int .i64 17))),0)] []),q1),
   (oo 69 (.move (tq 5) false),q0),
   (oo 70 (.bin .sub (tq 69) (.const (.sc (.int .i64 2)))),q0),
   (oo 71 (.indexAddrA 64 1 (tq 3) (tq 70)),q0),
   (oo 72 (.load false 1 (tq 71) false),q1),
   (oo 73 (.call 571 [((tq 72),0),((.const (.sc (.int .i64 19))),0)] []),q1),
   (oo 74 (.bin .xor (tq 68) (tq 73)),q0),
   (oo 75 (.move (tq 5) false),q0),
   (oo 76 (.bin .sub (tq 75) (.const (.sc (.int .i64 2)))),q0),
   (oo 77 (.indexAddrA 64 1 (tq 3) (tq 76)),q0),
   (oo 78 (.load false 1 (tq 77) false),q1),
   (oo 79 (.bin .shr (tq 78) (.const (.sc (.int .u64 10)))),q0),
   (oo 80 (.bin .xor (tq 74) (tq 79)),q0),
   (oo 7 (.move (tq 80) false),q0)])
 (.dreg [] [(oo 81 (.move (tq 5) false),q0),
   (oo 82 (.move (tq 5) false),q0),
   (oo 83 (.bin .sub (tq 82) (.const (.sc (.int .i64 16)))),q0),
   (oo 84 (.indexAddrA 64 1 (tq 3) (tq 83)),q0),
   (oo 85 (.load false 1 (tq 84) false),qc [] []),
   (oo 86 (.move (tq 6) false),q0),
   (oo 87 (.bin .add (tq 85) (tq 86)),q0),
   (oo 88 (.move (tq 5) false),q0),
   (oo 89 (.bin .sub (tq 88) (.const (.sc (.int .i64 7)))),q0),
   (oo 90 (.indexAddrA 64 1 (tq 3) (tq 89)),q0),
   (oo 91 (.load false 1 (tq 90) false),qc [] []),
   (oo 92 (.bin .add (tq 87) (tq 91)),q0),
   (oo 93 (.move (tq 7) false),q0),
   (oo 94 (.bin .add (tq 92) (tq 93)),q0),
   (oo 95 (.indexAddrA 64 1 (tq 3) (tq 81)),q0),
   (oz (.store 1 (tq 95) (tq 94)),q0)]))))
 (.reg [oo 45 (.move (tq 5) false),
   oo 46 (.bin .add (tq 45) (.const (.sc (.int .i64 1)))),
   oo 5 (.move (tq 46) false)])))
def zck:CC:=(.seq (.seq (.reg [oo 8 (.move (tq 4) false),
   oo 9 (.bin .lss (tq 8) (.const (.sc (.int .i64 16))))])
 (.cond (tq 9)
 .skip
 (.seq (.mask (bl 12 97) (bl 158456325028528675187087900653 97))
 (.exit 0))))
 (.seq (.block 1 (.dreg [] [(oo 12 (.move (tq 4) false),q0),
   (oo 13 (.move (tq 4) false),q0),
   (oo 14 (.bin .mul (.const (.sc (.int .i64 4))) (tq 13)),q0),
   (oo 15 (.indexAddrA 64 1 (tq 1) (tq 14)),q0),
   (oo 16 (.load false 1 (tq 15) false),qc [] []),
   (oo 17 (.conv .u32 (tq 16)),q0),
   (oo 18 (.bin .shl (tq 17) (.const (.sc (.int .u64 24)))),q0),
   (oo 19 (.move (tq 4) false),q0),
   (oo 20 (.bin .mul (.const (.sc (.int .i64 4))) (tq 19)),q0),
   (oo 21 (.bin .add (tq 20) (.const (.sc (.int .i64 1)))),q0),
   (oo 22 (.indexAddrA 64 1 (tq 1) (tq 21)),q0),
   (oo 23 (.load false 1 (tq 22) false),qc [] []),
   (oo 24 (.conv .u32 (tq 23)),q0),
   (oo 25 (.bin .shl (tq 24) (.const (.sc (.int .u64 16)))),q0),
   (oo 26 (.bin .or (tq 18) (tq 25)),q0),
   (oo 27 (.move (tq 4) false),q0),
   (oo 28 (.bin .mul (.const (.sc (.int .i64 4))) (tq 27)),q0),
   (oo 29 (.bin .add (tq 28) (.const (.sc (.int .i64 2)))),q0),
   (oo 30 (.indexAddrA 64 1 (tq 1) (tq 29)),q0),
   (oo 31 (.load false 1 (tq 30) false),qc [] []),
   (oo 32 (.conv .u32 (tq 31)),q0),
   (oo 33 (.bin .shl (tq 32) (.const (.sc (.int .u64 8)))),q0),
   (oo 34 (.bin .or (tq 26) (tq 33)),q0),
   (oo 35 (.move (tq 4) false),q0),
   (oo 36 (.bin .mul (.const (.sc (.int .i64 4))) (tq 35)),q0),
   (oo 37 (.bin .add (tq 36) (.const (.sc (.int .i64 3)))),q0),
   (oo 38 (.indexAddrA 64 1 (tq 1) (tq 37)),q0),
   (oo 39 (.load false 1 (tq 38) false),qc [] []),
   (oo 40 (.conv .u32 (tq 39)),q0),
   (oo 41 (.bin .or (tq 34) (tq 40)),q0),
   (oo 42 (.indexAddrA 64 1 (tq 3) (tq 12)),q0),
   (oz (.store 1 (tq 42) (tq 41)),q0)]))
 (.reg [oo 10 (.move (tq 4) false),
   oo 11 (.bin .add (tq 10) (.const (.sc (.int .i64 1)))),
   oo 4 (.move (tq 11) false)])))
def zhb:CC:=(.seq (.reg [oo 96 (.load true 64 (tq 3) false),
   oz (.store 64 (tq 2) (tq 96))])
 .ret)
def zfq:CC:=(.seq (.seq (.reg [oo 5 (.move (.const (.sc (.int .i64 16))) false)])
 (.block 2 (.loop (bl 44 97) (bl 158456315288573494874593034045 97)
 zbZ)))
 zhb)
def zaz:CF:=⟨97,[.cell 2 true 64],
 (.seq (.reg [oo 1 (.box true (tq 0)),
   oo 2 (.alloc true (rp 64 (.sc (.int .u32 0)) []))])
 (.seq (.reg [oo 3 (.alloc true (rp 64 (.sc (.int .u32 0)) []))])
 (.seq (.seq (.reg [oo 4 (.move (.const (.sc (.int .i64 0))) false)])
 (.block 0 (.loop (bl 30 97) (bl 158456325028528675187087900671 97)
 zck)))
 zfq)))⟩
def zmF:Hint:=⟨[],[],[none,some ((bl 30 97),(bl 158456325028528675187087900671 97)),none,some ((bl 12 97),(bl 158456325028528675187087900653 97)),none,none,some ((bl 44 97),(bl 158456315288573494874593034045 97)),none,some ((bl 12 97),(bl 158456315288573494874593034013 97)),none,none],[],[],false,false⟩
def zL:Nat→Sh:=yV [(16,(.int .u8)),(23,(.int .u8)),(31,(.int .u8)),(39,(.int .u8)),(50,(.int .u32)),(55,(.int .u32)),(61,(.int .u32)),(67,(.int .u32)),(72,(.int .u32)),(78,(.int .u32)),(85,(.int .u32)),(91,(.int .u32))]
def xK (ye:xD) (L:Nat):CBC:=(xB 571 (ziN ye L) noC)
def zd7:St→St:=zZ 0 (bl 30 97) (bl 158456325028528675187087900671 97)
def zdQ:St→St:=zZ 0 (bl 44 97) (bl 158456315288573494874593034045 97)
def zcQ (p4:Int) (b1 b2 b3:List V):St:=⟨(jn 1 ((V.ptr 1 0)::((V.ptr 2 0)::((V.ptr 3 0)::((V.sc (.int .i64 p4))::(jn 92 [])))))),(gn 1 ((.live true b1)::((.live true b2)::((.live true b3)::(gn 93 [])))))⟩
def zeS (b2 b3:List V):St:=⟨(jn 2 ((V.ptr 2 0)::((V.ptr 3 0)::(jn 93 [])))),(gn 2 ((.live true b2)::((.live true b3)::(gn 93 []))))⟩
def zcG (p5:Int) (b2 b3:List V):St:=⟨(jn 2 ((V.ptr 2 0)::((V.ptr 3 0)::(jn 1 ((V.sc (.int .i64 p5))::(jn 91 [])))))),(gn 2 ((.live true b2)::((.live true b3)::(gn 93 []))))⟩
def zgX (b2 b3:List V):St:=⟨(jn 2 ((V.ptr 2 0)::((V.ptr 3 0)::(jn 93 [])))),(gn 2 ((.live true b2)::((.live true b3)::(gn 93 []))))⟩
def zkM {β:Type} (ye:xD) (L:Nat) (p0:List V) (k_hbbaba:Int→List V→List V→List V→Option β):Option β :=
 k_hbbaba (0:Int) p0 (List.replicate 64 (V.sc (.int .u32 (0:Int)))) (List.replicate 64 (V.sc (.int .u32 (0:Int))))
theorem zte {β:Type} (ye:xD) (L:Nat) (p0:List V) (k:KK β):zw zL (xK ye L) L zaz [(V.agg p0)] [] k=zkM ye L p0 (fun p4 b1 b2 b3=>zz (xk zL (xK ye L) 0 L zck) zd7 L (zcQ p4 b1 b2 b3) (yA 0 (xO (xk zL (xK ye L) 0 L zfq) (yP 0 (CF.res zaz) k)))):=by kernel_rfl
def zcA {β:Type} (ye:xD) (L:Nat) (p4:Int) (b1 b2 b3:List V) (k_hbbaba:Int→List V→List V→List V→Option β) (k_x0:List V→List V→Option β):Option β :=
 ifb (decide (p4 < (16:Int))) (
 lt (IntKind.wrap .i64 (((4:Int):Int) * p4)) fun x0 =>
 chk (0≤x0∧x0 < ((64:Nat):Int)) (
 cI .u8 b1 (0+((Int.toNat x0) * 1)) fun v1 =>
 lt (IntKind.wrap .u32 v1) fun x2 =>
 lt (zbU .u32 x2 (24:Int)) fun x3 =>
 lt (IntKind.wrap .i64 (((4:Int):Int) * p4)) fun x4 =>
 lt (IntKind.wrap .i64 ((x4:Int)+(1:Int))) fun x5 =>
 chk (0≤x5∧x5 < ((64:Nat):Int)) (
 cI .u8 b1 (0+((Int.toNat x5) * 1)) fun v6 =>
 lt (IntKind.wrap .u32 v6) fun x7 =>
 lt (zbU .u32 x7 (16:Int)) fun x8 =>
 lt (ior .u32 x3 x8) fun x9 =>
 lt (IntKind.wrap .i64 (((4:Int):Int) * p4)) fun x10 =>
 lt (IntKind.wrap .i64 ((x10:Int)+(2:Int))) fun x11 =>
 chk (0≤x11∧x11 < ((64:Nat):Int)) (
 cI .u8 b1 (0+((Int.toNat x11) * 1)) fun v12 =>
 lt (IntKind.wrap .u32 v12) fun x13 =>
 lt (zbU .u32 x13 (8:Int)) fun x14 =>
 lt (ior .u32 x9 x14) fun x15 =>
 lt (IntKind.wrap .i64 (((4:Int):Int) * p4)) fun x16 =>
 lt (IntKind.wrap .i64 ((x16:Int)+(3:Int))) fun x17 =>
 chk (0≤x17∧x17 < ((64:Nat):Int)) (
 cI .u8 b1 (0+((Int.toNat x17) * 1)) fun v18 =>
 lt (IntKind.wrap .u32 v18) fun x19 =>
 lt (ior .u32 x15 x19) fun x20 =>
 chk (0≤p4∧p4 < ((64:Nat):Int)) (
 chk (1=1∧(0+((Int.toNat p4) * 1))+1≤(List.length b3)) (
 lt (zr b3 (0+((Int.toNat p4) * 1)) [(V.sc (.int .u32 x20))]) fun r21 =>
 lt (IntKind.wrap .i64 ((p4:Int)+(1:Int))) fun x22 =>
 k_hbbaba x22 b1 b2 r21))))))) (
 k_x0 b2 b3)
theorem zps {β:Type} (ye:xD) (L:Nat) (p4:Int) (b1 b2 b3:List V) (X:St→Option β) (K:KT β):xk zL (xK ye L) 0 L zck (zcQ p4 b1 b2 b3) (zaJ zd7 X K)=zcA ye L p4 b1 b2 b3 (fun p4 b1 b2 b3=>X (zcQ p4 b1 b2 b3)) (fun b2 b3=>K (.exit 0) (zeS b2 b3)):=by kernel_rfl
def zfy {β:Type} (ye:xD) (L:Nat) (b2 b3:List V) (k_hbbbaba:Int→List V→List V→Option β):Option β :=
 k_hbbbaba (16:Int) b2 b3
theorem znZ {β:Type} (ye:xD) (L:Nat) (b2 b3:List V) (k:KK β):(yA 0 (xO (xk zL (xK ye L) 0 L zfq) (yP 0 (CF.res zaz) k))) (.exit 0) (zeS b2 b3)=zfy ye L b2 b3 (fun p5 b2 b3=>zz (xk zL (xK ye L) 0 L zbZ) zdQ L (zcG p5 b2 b3) (yA 2 (xO (xk zL (xK ye L) 0 L zhb) (yP 0 (CF.res zaz) k)))):=by kernel_rfl
def zcm {β:Type} (ye:xD) (L:Nat) (p5:Int) (b2 b3:List V) (k_hbbbaba:Int→List V→List V→Option β) (k_x2:List V→List V→Option β):Option β :=
 ifb (decide (p5 < (64:Int))) (
 lt (IntKind.wrap .i64 ((p5:Int) - (15:Int))) fun x23 =>
 chk (0≤x23∧x23 < ((64:Nat):Int)) (
 cI .u32 b3 (0+((Int.toNat x23) * 1)) fun v24 =>
 ye β L v24 (7:Int) (fun v25 =>
 lt (IntKind.wrap .i64 ((p5:Int) - (15:Int))) fun x26 =>
 chk (0≤x26∧x26 < ((64:Nat):Int)) (
 cI .u32 b3 (0+((Int.toNat x26) * 1)) fun v27 =>
 ye β L v27 (18:Int) (fun v28 =>
 lt (zb3 .u32 v25 v28) fun x29 =>
 lt (IntKind.wrap .i64 ((p5:Int) - (15:Int))) fun x30 =>
 chk (0≤x30∧x30 < ((64:Nat):Int)) (
 cI .u32 b3 (0+((Int.toNat x30) * 1)) fun v31 =>
 lt (zco .u32 v31 (3:Int)) fun x32 =>
 lt (zb3 .u32 x29 x32) fun x33 =>
 lt (IntKind.wrap .i64 ((p5:Int) - (2:Int))) fun x34 =>
 chk (0≤x34∧x34 < ((64:Nat):Int)) (
 cI .u32 b3 (0+((Int.toNat x34) * 1)) fun v35 =>
 ye β L v35 (17:Int) (fun v36 =>
 lt (IntKind.wrap .i64 ((p5:Int) - (2:Int))) fun x37 =>
 chk (0≤x37∧x37 < ((64:Nat):Int)) (
 cI .u32 b3 (0+((Int.toNat x37) * 1)) fun v38 =>
 ye β L v38 (19:Int) (fun v39 =>
 lt (zb3 .u32 v36 v39) fun x40 =>
 lt (IntKind.wrap .i64 ((p5:Int) - (2:Int))) fun x41 =>
 chk (0≤x41∧x41 < ((64:Nat):Int)) (
 cI .u32 b3 (0+((Int.toNat x41) * 1)) fun v42 =>
 lt (zco .u32 v42 (10:Int)) fun x43 =>
 lt (zb3 .u32 x40 x43) fun x44 =>
 lt (IntKind.wrap .i64 ((p5:Int) - (16:Int))) fun x45 =>
 chk (0≤x45∧x45 < ((64:Nat):Int)) (
 cI .u32 b3 (0+((Int.toNat x45) * 1)) fun v46 =>
 lt (IntKind.wrap .u32 ((v46:Int)+x33)) fun x47 =>
 lt (IntKind.wrap .i64 ((p5:Int) - (7:Int))) fun x48 =>
 chk (0≤x48∧x48 < ((64:Nat):Int)) (
 cI .u32 b3 (0+((Int.toNat x48) * 1)) fun v49 =>
 lt (IntKind.wrap .u32 ((x47:Int)+v49)) fun x50 =>
 lt (IntKind.wrap .u32 ((x50:Int)+x44)) fun x51 =>
 chk (0≤p5∧p5 < ((64:Nat):Int)) (
 chk (1=1∧(0+((Int.toNat p5) * 1))+1≤(List.length b3)) (
 lt (zr b3 (0+((Int.toNat p5) * 1)) [(V.sc (.int .u32 x51))]) fun r52 =>
 lt (IntKind.wrap .i64 ((p5:Int)+(1:Int))) fun x53 =>
 k_hbbbaba x53 b2 r52))))))))))))))) (
 k_x2 b2 b3)
theorem zoJ {β:Type} (ye:xD) (L:Nat) (p5:Int) (b2 b3:List V) (X:St→Option β) (K:KT β):xk zL (xK ye L) 0 L zbZ (zcG p5 b2 b3) (zaJ zdQ X K)=zcm ye L p5 b2 b3 (fun p5 b2 b3=>X (zcG p5 b2 b3)) (fun b2 b3=>K (.exit 2) (zgX b2 b3)):=by kernel_rfl
def zff {β:Type} (ye:xD) (L:Nat) (b2 b3:List V) (k_fin:List V→Option β):Option β :=
 chk (0+64≤(List.length b3)) (
 chk ((List.length (List.take 64 b3))=64∧0+64≤(List.length b2)) (
 lt (zr b2 0 (List.take 64 b3)) fun r54 =>
 chk (0=0∧(List.length r54)=64∧64≠0) (
 k_fin r54)))
theorem znV {β:Type} (ye:xD) (L:Nat) (b2 b3:List V) (k:KK β):(yA 2 (xO (xk zL (xK ye L) 0 L zhb) (yP 0 (CF.res zaz) k))) (.exit 2) (zgX b2 b3)=zff ye L b2 b3 (fun p0=>k (V.agg p0) []):=by kernel_rfl
def zbG {β:Type} (ye:xD) (L:Nat) (k_x0:List V→List V→Option β):Nat→Int→List V→List V→List V→Option β
 | 0,_,_,_,_=>none
 | n+1,p4,b1,b2,b3=>zcA ye L p4 b1 b2 b3 (fun p4 b1 b2 b3=>zbG ye L k_x0 n p4 b1 b2 b3) k_x0
theorem ziE {β:Type} (ye:xD) (L:Nat) (K:KT β):∀ (n:Nat) (p4:Int) (b1 b2 b3:List V),zz (xk zL (xK ye L) 0 L zck) zd7 n (zcQ p4 b1 b2 b3) K=zbG ye L (fun b2 b3=>K (.exit 0) (zeS b2 b3)) n p4 b1 b2 b3:=by
 intro n
 induction n with
 | zero=>intros; rfl
 | succ n ih =>
  intro p4 b1 b2 b3
  refine (zps ye L p4 b1 b2 b3 (fun σ=>zz (xk zL (xK ye L) 0 L zck) zd7 n σ K) K).trans ?_
  simp only [ih]
  rfl
def zbs {β:Type} (ye:xD) (L:Nat) (k_x2:List V→List V→Option β):Nat→Int→List V→List V→Option β
 | 0,_,_,_=>none
 | n+1,p5,b2,b3=>zcm ye L p5 b2 b3 (fun p5 b2 b3=>zbs ye L k_x2 n p5 b2 b3) k_x2
theorem zic {β:Type} (ye:xD) (L:Nat) (K:KT β):∀ (n:Nat) (p5:Int) (b2 b3:List V),zz (xk zL (xK ye L) 0 L zbZ) zdQ n (zcG p5 b2 b3) K=zbs ye L (fun b2 b3=>K (.exit 2) (zgX b2 b3)) n p5 b2 b3:=by
 intro n
 induction n with
 | zero=>intros; rfl
 | succ n ih =>
  intro p5 b2 b3
  refine (zoJ ye L p5 b2 b3 (fun σ=>zz (xk zL (xK ye L) 0 L zbZ) zdQ n σ K) K).trans ?_
  simp only [ih]
  rfl
def zcU {β:Type} (ye:xD) (L:Nat) (b2 b3:List V) (k_fin:List V→Option β):Option β :=
 zfy ye L b2 b3 (fun p5 b2 b3=>zbs ye L (fun b2 b3=>zff ye L b2 b3 k_fin) L p5 b2 b3)
theorem znU {β:Type} (ye:xD) (L:Nat) (b2 b3:List V) (k:KK β):(yA 0 (xO (xk zL (xK ye L) 0 L zfq) (yP 0 (CF.res zaz) k))) (.exit 0) (zeS b2 b3)=zcU ye L b2 b3 (fun p0=>k (V.agg p0) []):=by
 refine (znZ ye L b2 b3 k).trans ?_
 unfold zcU
 first
  | (simp only [zic,znV]; done)
  | (simp only [zic]; rfl)
def zg8 {β:Type} (ye:xD) (L:Nat) (p0:List V) (k_fin:List V→Option β):Option β :=
 zkM ye L p0 (fun p4 b1 b2 b3=>zbG ye L (fun b2 b3=>zcU ye L b2 b3 k_fin) L p4 b1 b2 b3)
theorem zto {β:Type} (ye:xD) (L:Nat) (p0:List V) (k:KK β):zw zL (xK ye L) L zaz [(V.agg p0)] [] k=zg8 ye L p0 (fun p0=>k (V.agg p0) []):=by
 refine (zte ye L p0 k).trans ?_
 unfold zg8
 first
  | (simp only [ziE,znU]; done)
  | (simp only [ziE]; rfl)
abbrev zaf:=∀ (β:Type),Nat→List V→(List V→Option β)→Option β
def zo (β:Type) (L:Nat) (p0:List V) (k_fin:List V→Option β):Option β:=zg8 ye L p0 k_fin
def zg4 (zo:zaf) (L:Nat) (β:Type) (args:List V) (bor:Bor) (k:KK β):Option β:=match args,bor with
 | [a0],[]=>aG a0 fun p0=>zo β L p0 (fun p0=>k (V.agg p0) [])
 | _,_=>none
theorem ztb (L:Nat) (β:Type) (args:List V) (bor:Bor) (k:KK β) (r:β) (h:zg4 zo L β args bor k=some r):zw zL (xK ye L) L zaz args bor k=some r:=by
 unfold zg4 at h
 split at h
 ·have q:=zgK h; clear h; obtain ⟨p0,rfl,h⟩:=q
  exact (zto ye L p0 k).trans h
 ·cases h
def zfG:CF:=⟨2,[.cell 0 true 64],
 (.seq (.reg [oo 0 (.alloc true (rp 64 (.sc (.int .u32 0)) []))])
 (.seq (.reg [oo 1 (.build (rp 64 (.sc (.int .u32 0)) []) [(0,1,(.const (.sc (.int .u32 1116352408)))),(1,1,(.const (.sc (.int .u32 1899447441)))),(2,1,(.const (.sc (.int .u32 3049323471)))),(3,1,(.const (.sc (.int .u32 3921009573)))),(4,1,(.const (.sc (.int .u32 961987163)))),(5,1,(.const (.sc (.int .u32 1508970993)))),(6,1,(.const (.sc (.int .u32 2453635748)))),(7,1,(.const (.sc (.int .u32 2870763221)))),(8,1,(.const (.sc (.int .u32 3624381080)))),(9,1,(.const (.sc (.int .u32 310598401)))),(10,1,(.const (.sc (.int .u32 607225278)))),(11,1,(.const (.sc (.int .u32 1426881987)))),(12,1,(.const (.sc (.int .u32 1925078388)))),(13,1,(.const (.sc (.int .u32 2162078206)))),(14,1,(.const (.sc (.int .u32 2614888103)))),(15,1,(.const (.sc (.int .u32 3248222580)))),(16,1,(.const (.sc (.int .u32 3835390401)))),(17,1,(.const (.sc (.int .u32 4022224774)))),(18,1,(.const (.sc (.int .u32 264347078)))),(19,1,(.const (.sc (.int .u32 604807628)))),(20,1,(.const (.sc (.int .u32 770255983)))),(21,1,(.const (.sc (.int .u32 1249150122)))),(22,1,(.const (.sc (.int .u32 1555081692)))),(23,1,(.const (.sc (.int .u32 1996064986)))),(24,1,(.const (.sc (.int .u32 2554220882)))),(25,1,(.const (.sc (.int .u32 2821834349)))),(26,1,(.const (.sc (.int .u32 2952996808)))),(27,1,(.const (.sc (.int .u32 3210313671)))),(28,1,(.const (.sc (.int .u32 3336571891)))),(29,1,(.const (.sc (.int .u32 3584528711)))),(30,1,(.const (.sc (.int .u32 113926993)))),(31,1,(.const (.sc (.int .u32 338241895)))),(32,1,(.const (.sc (.int .u32 666307205)))),(33,1,(.const (.sc (.int .u32 773529912)))),(34,1,(.const (.sc (.int .u32 1294757372)))),(35,1,(.const (.sc (.int .u32 1396182291)))),(36,1,(.const (.sc (.int .u32 1695183700)))),(37,1,(.const (.sc (.int .u32 1986661051)))),(38,1,(.const (.sc (.int .u32 2177026350)))),(39,1,(.const (.sc (.int .u32 2456956037)))),(40,1,(.const (.sc (.int .u32 2730485921)))),(41,1,(.const (.sc (.int .u32 2820302411)))),(42,1,(.const (.sc (.int .u32 3259730800)))),(43,1,(.const (.sc (.int .u32 3345764771)))),(44,1,(.const (.sc (.int .u32 3516065817)))),(45,1,(.const (.sc (.int .u32 3600352804)))),(46,1,(.const (.sc (.int .u32 4094571909)))),(47,1,(.const (.sc (.int .u32 275423344)))),(48,1,(.const (.sc (.int .u32 430227734)))),(49,1,(.const (.sc (.int .u32 506948616)))),(50,1,(.const (.sc (.int .u32 659060556)))),(51,1,(.const (.sc (.int .u32 883997877)))),(52,1,(.const (.sc (.int .u32 958139571)))),(53,1,(.const (.sc (.int .u32 1322822218)))),(54,1,(.const (.sc (.int .u32 1537002063)))),(55,1,(.const (.sc (.int .u32 1747873779)))),(56,1,(.const (.sc (.int .u32 1955562222)))),(57,1,(.const (.sc (.int .u32 2024104815)))),(58,1,(.const (.sc (.int .u32 2227730452)))),(59,1,(.const (.sc (.int .u32 2361852424)))),(60,1,(.const (.sc (.int .u32 2428436474)))),(61,1,(.const (.sc (.int .u32 2756734187)))),(62,1,(.const (.sc (.int .u32 3204031479)))),(63,1,(.const (.sc (.int .u32 3329325298))))]),
   oz (.store 64 (tq 0) (tq 1))])
 .ret))⟩
def zlf:Hint:=⟨[],[],[none],[],[],false,false⟩
def ziT:Nat→Sh:=yV []
def zio (L:Nat):CBC:=noC
def zjQ {β:Type} (L:Nat) (k_fin:List V→Option β):Option β :=
 lt [(V.sc (.int .u32 (1116352408:Int))),(V.sc (.int .u32 (1899447441:Int))),(V.sc (.int .u32 (3049323471:Int))),(V.sc (.int .u32 (3921009573:Int))),(V.sc (.int .u32 (961987163:Int))),(V.sc (.int .u32 (1508970993:Int))),(V.sc (.int .u32 (2453635748:Int))),(V.sc (.int .u32 (2870763221:Int))),(V.sc (.int .u32 (3624381080:Int))),(V.sc (.int .u32 (310598401:Int))),(V.sc (.int .u32 (607225278:Int))),(V.sc (.int .u32 (1426881987:Int))),(V.sc (.int .u32 (1925078388:Int))),(V.sc (.int .u32 (2162078206:Int))),(V.sc (.int .u32 (2614888103:Int))),(V.sc (.int .u32 (3248222580:Int))),(V.sc (.int .u32 (3835390401:Int))),(V.sc (.int .u32 (4022224774:Int))),(V.sc (.int .u32 (264347078:Int))),(V.sc (.int .u32 (604807628:Int))),(V.sc (.int .u32 (770255983:Int))),(V.sc (.int .u32 (1249150122:Int))),(V.sc (.int .u32 (1555081692:Int))),(V.sc (.int .u32 (1996064986:Int))),(V.sc (.int .u32 (2554220882:Int))),(V.sc (.int .u32 (2821834349:Int))),(V.sc (.int .u32 (2952996808:Int))),(V.sc (.int .u32 (3210313671:Int))),(V.sc (.int .u32 (3336571891:Int))),(V.sc (.int .u32 (3584528711:Int))),(V.sc (.int .u32 (113926993:Int))),(V.sc (.int .u32 (338241895:Int))),(V.sc (.int .u32 (666307205:Int))),(V.sc (.int .u32 (773529912:Int))),(V.sc (.int .u32 (1294757372:Int))),(V.sc (.int .u32 (1396182291:Int))),(V.sc (.int .u32 (1695183700:Int))),(V.sc (.int .u32 (1986661051:Int))),(V.sc (.int .u32 (2177026350:Int))),(V.sc (.int .u32 (2456956037:Int))),(V.sc (.int .u32 (2730485921:Int))),(V.sc (.int .u32 (2820302411:Int))),(V.sc (.int .u32 (3259730800:Int))),(V.sc (.int .u32 (3345764771:Int))),(V.sc (.int .u32 (3516065817:Int))),(V.sc (.int .u32 (3600352804:Int))),(V.sc (.int .u32 (4094571909:Int))),(V.sc (.int .u32 (275423344:Int))),(V.sc (.int .u32 (430227734:Int))),(V.sc (.int .u32 (506948616:Int))),(V.sc (.int .u32 (659060556:Int))),(V.sc (.int .u32 (883997877:Int))),(V.sc (.int .u32 (958139571:Int))),(V.sc (.int .u32 (1322822218:Int))),(V.sc (.int .u32 (1537002063:Int))),(V.sc (.int .u32 (1747873779:Int))),(V.sc (.int .u32 (1955562222:Int))),(V.sc (.int .u32 (2024104815:Int))),(V.sc (.int .u32 (2227730452:Int))),(V.sc (.int .u32 (2361852424:Int))),(V.sc (.int .u32 (2428436474:Int))),(V.sc (.int .u32 (2756734187:Int))),(V.sc (.int .u32 (3204031479:Int))),(V.sc (.int .u32 (3329325298:Int)))] fun r0 =>
 chk (0=0∧(List.length r0)=64∧64≠0) (
 k_fin r0)
theorem zsF {β:Type} (L:Nat) (k:KK β):zw ziT (zio L) L zfG [] [] k=zjQ L (fun p0=>k (V.agg p0) []):=by kernel_rfl
abbrev xX:=∀ (β:Type),Nat→(List V→Option β)→Option β
def zm (β:Type) (L:Nat) (k_fin:List V→Option β):Option β:=zjQ L k_fin
def zgq (zm:xX) (L:Nat) (β:Type) (args:List V) (bor:Bor) (k:KK β):Option β:=match args,bor with
 | [],[]=>zm β L (fun p0=>k (V.agg p0) [])
 | _,_=>none
theorem zsA (L:Nat) (β:Type) (args:List V) (bor:Bor) (k:KK β) (r:β) (h:zgq zm L β args bor k=some r):zw ziT (zio L) L zfG args bor k=some r:=by
 unfold zgq at h
 split at h
 ·exact (zsF L k).trans h
 ·cases h
def zbY:CC:=(.seq (.seq (.reg [oo 37 (.move (tq 15) false),
   oo 38 (.bin .lss (tq 37) (.const (.sc (.int .i64 64))))])
 (.cond (tq 38)
 .skip
 (.seq (.mask (bl 32660 133) (bl 10889035741470030808987042129089031602071 133))
 (.exit 0))))
 (.seq (.block 1 (.seq (.dreg [] [(oo 41 (.move (tq 14) false),q0),
   (oo 42 (.move (tq 11) false),q0),
   (oo 43 (.call 571 [((tq 42),0),((.const (.sc (.int .i64 6))),0)] []),q1),
   (oo 44 (.move (tq 11) false),q0),
   (oo 45 (.call 571 [((tq 44),0),((.const (.sc (.int .i64 11))),0)] []),q1),
   (oo 46 (.bin .xor (tq 43) (tq 45)),q0),
   (oo 47 (.move (tq 11) false),q0),
   (oo 48 (.call 571 [((tq 47),0),((.const (.sc (.int .i64 25))),0)] []),q1),
   (oo 49 (.bin .xor (tq 46) (tq 48)),q0),
   (oo 50 (.bin .add (tq 41) (tq 49)),q0),
   (oo 51 (.move (tq 11) false),q0),
   (oo 52 (.move (tq 12) false),q0),
   (oo 53 (.bin .and (tq 51) (tq 52)),q0),
   (oo 54 (.move (tq 11) false),q0),
   (oo 55 (.un .xor (tq 54)),q0),
   (oo 56 (.move (tq 13) false),q0),
   (oo 57 (.bin .and (tq 55) (tq 56)),q0),
   (oo 58 (.bin .xor (tq 53) (tq 57)),q0),
   (oo 59 (.bin .add (tq 50) (tq 58)),q0),
   (oo 60 (.move (tq 15) false),q0),
   (oo 61 (.indexAddrA 64 1 (tq 6) (tq 60)),q0),
   (oo 62 (.load false 1 (tq 61) false),q1),
   (oo 63 (.bin .add (tq 59) (tq 62)),q0),
   (oo 64 (.move (tq 15) false),q0),
   (oo 65 (.indexAddrA 64 1 (tq 5) (tq 64)),q0),
   (oo 66 (.load false 1 (tq 65) false),q1),
   (oo 67 (.bin .add (tq 63) (tq 66)),q0),
   (oo 16 (.move (tq 67) false),q0)])
 (.seq (.reg [oo 68 (.move (tq 7) false),
   oo 69 (.call 571 [((tq 68),0),((.const (.sc (.int .i64 2))),0)] []),
   oo 70 (.move (tq 7) false),
   oo 71 (.call 571 [((tq 70),0),((.const (.sc (.int .i64 13))),0)] []),
   oo 72 (.bin .xor (tq 69) (tq 71)),
   oo 73 (.move (tq 7) false),
   oo 74 (.call 571 [((tq 73),0),((.const (.sc (.int .i64 22))),0)] []),
   oo 75 (.bin .xor (tq 72) (tq 74)),
   oo 76 (.move (tq 7) false),
   oo 77 (.move (tq 8) false),
   oo 78 (.bin .and (tq 76) (tq 77)),
   oo 79 (.move (tq 7) false),
   oo 80 (.move (tq 9) false),
   oo 81 (.bin .and (tq 79) (tq 80)),
   oo 82 (.bin .xor (tq 78) (tq 81)),
   oo 83 (.move (tq 8) false),
   oo 84 (.move (tq 9) false),
   oo 85 (.bin .and (tq 83) (tq 84)),
   oo 86 (.bin .xor (tq 82) (tq 85)),
   oo 87 (.bin .add (tq 75) (tq 86)),
   oo 17 (.move (tq 87) false)])
 (.reg [oo 88 (.move (tq 13) false),
   oo 89 (.move (tq 12) false),
   oo 90 (.move (tq 11) false),
   oo 91 (.move (tq 10) false),
   oo 92 (.move (tq 16) false),
   oo 93 (.bin .add (tq 91) (tq 92)),
   oo 94 (.move (tq 9) false),
   oo 95 (.move (tq 8) false),
   oo 96 (.move (tq 7) false),
   oo 97 (.move (tq 16) false),
   oo 98 (.move (tq 17) false),
   oo 99 (.bin .add (tq 97) (tq 98)),
   oo 14 (.move (tq 88) false),
   oo 13 (.move (tq 89) false),
   oo 12 (.move (tq 90) false),
   oo 11 (.move (tq 93) false),
   oo 10 (.move (tq 94) false),
   oo 9 (.move (tq 95) false),
   oo 8 (.move (tq 96) false),
   oo 7 (.move (tq 99) false)]))))
 (.reg [oo 39 (.move (tq 15) false),
   oo 40 (.bin .add (tq 39) (.const (.sc (.int .i64 1)))),
   oo 15 (.move (tq 40) false)])))
def zhk:CC:=(.seq (.reg [oo 100 (.indexAddrA 8 1 (tq 2) (.const (.sc (.int .i64 0)))),
   oo 101 (.load false 1 (tq 100) false),
   oo 102 (.move (tq 7) false),
   oo 103 (.bin .add (tq 101) (tq 102)),
   oo 104 (.indexAddrA 8 1 (tq 2) (.const (.sc (.int .i64 1)))),
   oo 105 (.load false 1 (tq 104) false),
   oo 106 (.move (tq 8) false),
   oo 107 (.bin .add (tq 105) (tq 106)),
   oo 108 (.indexAddrA 8 1 (tq 2) (.const (.sc (.int .i64 2)))),
   oo 109 (.load false 1 (tq 108) false),
   oo 110 (.move (tq 9) false),
   oo 111 (.bin .add (tq 109) (tq 110)),
   oo 112 (.indexAddrA 8 1 (tq 2) (.const (.sc (.int .i64 3)))),
   oo 113 (.load false 1 (tq 112) false),
   oo 114 (.move (tq 10) false),
   oo 115 (.bin .add (tq 113) (tq 114)),
   oo 116 (.indexAddrA 8 1 (tq 2) (.const (.sc (.int .i64 4)))),
   oo 117 (.load false 1 (tq 116) false),
   oo 118 (.move (tq 11) false),
   oo 119 (.bin .add (tq 117) (tq 118)),
   oo 120 (.indexAddrA 8 1 (tq 2) (.const (.sc (.int .i64 5)))),
   oo 121 (.load false 1 (tq 120) false),
   oo 122 (.move (tq 12) false),
   oo 123 (.bin .add (tq 121) (tq 122)),
   oo 124 (.indexAddrA 8 1 (tq 2) (.const (.sc (.int .i64 6)))),
   oo 125 (.load false 1 (tq 124) false),
   oo 126 (.move (tq 13) false),
   oo 127 (.bin .add (tq 125) (tq 126)),
   oo 128 (.indexAddrA 8 1 (tq 2) (.const (.sc (.int .i64 7)))),
   oo 129 (.load false 1 (tq 128) false),
   oo 130 (.move (tq 14) false),
   oo 131 (.bin .add (tq 129) (tq 130)),
   oo 132 (.build [(.sc (.int .u32 0)),(.sc (.int .u32 0)),(.sc (.int .u32 0)),(.sc (.int .u32 0)),(.sc (.int .u32 0)),(.sc (.int .u32 0)),(.sc (.int .u32 0)),(.sc (.int .u32 0))] [(0,1,(tq 103)),(1,1,(tq 107)),(2,1,(tq 111)),(3,1,(tq 115)),(4,1,(tq 119)),(5,1,(tq 123)),(6,1,(tq 127)),(7,1,(tq 131))]),
   oz (.store 8 (tq 4) (tq 132))])
 .ret)
def zb1:CF:=⟨133,[.cell 4 true 8],
 (.seq (.reg [oo 2 (.box true (tq 0)),
   oo 3 (.box true (tq 1)),
   oo 4 (.alloc true [(.sc (.int .u32 0)),(.sc (.int .u32 0)),(.sc (.int .u32 0)),(.sc (.int .u32 0)),(.sc (.int .u32 0)),(.sc (.int .u32 0)),(.sc (.int .u32 0)),(.sc (.int .u32 0))])])
 (.seq (.reg [oo 18 (.load true 64 (tq 3) false),
   oo 19 (.call 569 [((tq 18),0)] []),
   oo 20 (.call 570 [] []),
   oo 5 (.alloc true (rp 64 (.sc (.int .u32 0)) [])),
   oo 6 (.alloc true (rp 64 (.sc (.int .u32 0)) [])),
   oz (.store 64 (tq 5) (tq 19)),
   oz (.store 64 (tq 6) (tq 20))])
 (.seq (.dreg [] [(oo 21 (.indexAddrA 8 1 (tq 2) (.const (.sc (.int .i64 0)))),q0),
   (oo 22 (.load false 1 (tq 21) false),qc [] []),
   (oo 23 (.indexAddrA 8 1 (tq 2) (.const (.sc (.int .i64 1)))),q0),
   (oo 24 (.load false 1 (tq 23) false),qc [] []),
   (oo 25 (.indexAddrA 8 1 (tq 2) (.const (.sc (.int .i64 2)))),q0),
   (oo 26 (.load false 1 (tq 25) false),qc [] []),
   (oo 27 (.indexAddrA 8 1 (tq 2) (.const (.sc (.int .i64 3)))),q0),
   (oo 28 (.load false 1 (tq 27) false),qc [] []),
   (oo 29 (.indexAddrA 8 1 (tq 2) (.const (.sc (.int .i64 4)))),q0),
   (oo 30 (.load false 1 (tq 29) false),qc [] []),
   (oo 31 (.indexAddrA 8 1 (tq 2) (.const (.sc (.int .i64 5)))),q0),
   (oo 32 (.load false 1 (tq 31) false),qc [] []),
   (oo 33 (.indexAddrA 8 1 (tq 2) (.const (.sc (.int .i64 6)))),q0),
   (oo 34 (.load false 1 (tq 33) false),qc [] []),
   (oo 35 (.indexAddrA 8 1 (tq 2) (.const (.sc (.int .i64 7)))),q0),
   (oo 36 (.load false 1 (tq 35) false),qc [] []),
   (oo 7 (.move (tq 22) false),q0),
   (oo 8 (.move (tq 24) false),q0),
   (oo 9 (.move (tq 26) false),q0),
   (oo 10 (.move (tq 28) false),q0),
   (oo 11 (.move (tq 30) false),q0),
   (oo 12 (.move (tq 32) false),q0),
   (oo 13 (.move (tq 34) false),q0),
   (oo 14 (.move (tq 36) false),q0)])
 (.seq (.seq (.reg [oo 15 (.move (.const (.sc (.int .i64 0))) false)])
 (.block 0 (.loop (bl 65524 133) (bl 10889035741470030808987042129089031634935 133)
 zbY)))
 zhk))))⟩
def zmB:Hint:=⟨[],[],[none,some ((bl 65524 133),(bl 10889035741470030808987042129089031634935 133)),none,some ((bl 32660 133),(bl 10889035741470030808987042129089031602071 133)),none,none],[],[],false,false⟩
def zay:Nat→Sh:=yV [(22,(.int .u32)),(24,(.int .u32)),(26,(.int .u32)),(28,(.int .u32)),(30,(.int .u32)),(32,(.int .u32)),(34,(.int .u32)),(36,(.int .u32)),(62,(.int .u32)),(66,(.int .u32)),(101,(.int .u32)),(105,(.int .u32)),(109,(.int .u32)),(113,(.int .u32)),(117,(.int .u32)),(121,(.int .u32)),(125,(.int .u32)),(129,(.int .u32))]
def zax (zo:zaf) (zm:xX) (ye:xD) (L:Nat):CBC:=(xB 571 (ziN ye L) (xB 570 (zgq zm L) (xB 569 (zg4 zo L) noC)))
def zdO:St→St:=zZ 0 (bl 65524 133) (bl 10889035741470030808987042129089031634935 133)
def zcJ (p7 p8 p9 p10 p11 p12 p13 p14 p15:Int) (b2:List V) (zHm zHn zHl zHq zHv zHw zHx zHy:Int) (b5 b6:List V):St:=⟨(jn 2 ((V.ptr 2 0)::(jn 1 ((V.ptr 4 0)::((V.ptr 5 0)::((V.ptr 6 0)::((V.sc (.int .u32 p7))::((V.sc (.int .u32 p8))::((V.sc (.int .u32 p9))::((V.sc (.int .u32 p10))::((V.sc (.int .u32 p11))::((V.sc (.int .u32 p12))::((V.sc (.int .u32 p13))::((V.sc (.int .u32 p14))::((V.sc (.int .i64 p15))::(jn 117 [])))))))))))))))),(gn 2 ((.live true b2)::(gn 1 ((.live true [(V.sc (.int .u32 zHm)),(V.sc (.int .u32 zHn)),(V.sc (.int .u32 zHl)),(V.sc (.int .u32 zHq)),(V.sc (.int .u32 zHv)),(V.sc (.int .u32 zHw)),(V.sc (.int .u32 zHx)),(V.sc (.int .u32 zHy))])::((.live true b5)::((.live true b6)::(gn 126 [])))))))⟩
def zhn (p7 p8 p9 p10 p11 p12 p13 p14:Int) (b2:List V) (zHm zHn zHl zHq zHv zHw zHx zHy:Int):St:=⟨(jn 2 ((V.ptr 2 0)::(jn 1 ((V.ptr 4 0)::(jn 2 ((V.sc (.int .u32 p7))::((V.sc (.int .u32 p8))::((V.sc (.int .u32 p9))::((V.sc (.int .u32 p10))::((V.sc (.int .u32 p11))::((V.sc (.int .u32 p12))::((V.sc (.int .u32 p13))::((V.sc (.int .u32 p14))::(jn 118 [])))))))))))))),(gn 2 ((.live true b2)::(gn 1 ((.live true [(V.sc (.int .u32 zHm)),(V.sc (.int .u32 zHn)),(V.sc (.int .u32 zHl)),(V.sc (.int .u32 zHq)),(V.sc (.int .u32 zHv)),(V.sc (.int .u32 zHw)),(V.sc (.int .u32 zHx)),(V.sc (.int .u32 zHy))])::(gn 128 [])))))⟩
abbrev zfw (β:Type):Type:=Int→Int→Int→Int→Int→Int→Int→Int→Int→List V→Int→Int→Int→Int→Int→Int→Int→Int→List V→List V→Option β
abbrev zfU (β:Type):Type:=Int→Int→Int→Int→Int→Int→Int→Int→List V→Int→Int→Int→Int→Int→Int→Int→Int→Option β
def zkH {β:Type} (zo:zaf) (zm:xX) (ye:xD) (L:Nat) (p0 p1:List V) (k_hbbbaba:zfw β):Option β :=
 chk (0+64≤(List.length p1)) (
 zo β L (List.take 64 p1) (fun v0 =>
 zm β L  (fun v1 =>
 chk ((List.length v0)=64∧0+64≤64) (
 lt (zr (List.replicate 64 (V.sc (.int .u32 (0:Int)))) 0 v0) fun r2 =>
 chk ((List.length v1)=64∧0+64≤64) (
 lt (zr (List.replicate 64 (V.sc (.int .u32 (0:Int)))) 0 v1) fun r3 =>
 cI .u32 p0 0 fun v4 =>
 cI .u32 p0 1 fun v5 =>
 cI .u32 p0 2 fun v6 =>
 cI .u32 p0 3 fun v7 =>
 cI .u32 p0 4 fun v8 =>
 cI .u32 p0 5 fun v9 =>
 cI .u32 p0 6 fun v10 =>
 cI .u32 p0 7 fun v11 =>
 k_hbbbaba v4 v5 v6 v7 v8 v9 v10 v11 (0:Int) p0 (0:Int) (0:Int) (0:Int) (0:Int) (0:Int) (0:Int) (0:Int) (0:Int) r2 r3)))))
theorem ztf {β:Type} (zo:zaf) (zm:xX) (ye:xD) (L:Nat) (p0 p1:List V) (k:KK β):zw zay (zax zo zm ye L) L zb1 [(V.agg p0),(V.agg p1)] [] k=zkH zo zm ye L p0 p1 (fun p7 p8 p9 p10 p11 p12 p13 p14 p15 b2 zHm zHn zHl zHq zHv zHw zHx zHy b5 b6=>zz (xk zay (zax zo zm ye L) 0 L zbY) zdO L (zcJ p7 p8 p9 p10 p11 p12 p13 p14 p15 b2 zHm zHn zHl zHq zHv zHw zHx zHy b5 b6) (yA 0 (xO (xk zay (zax zo zm ye L) 0 L zhk) (yP 0 (CF.res zb1) k)))):=by kernel_rfl
def zcr {β:Type} (zo:zaf) (zm:xX) (ye:xD) (L:Nat) (p7 p8 p9 p10 p11 p12 p13 p14 p15:Int) (b2:List V) (zHm zHn zHl zHq zHv zHw zHx zHy:Int) (b5 b6:List V) (k_hbbbaba:zfw β) (k_x0:zfU β):Option β :=
 ifb (decide (p15 < (64:Int))) (
 ye β L p11 (6:Int) (fun v12 =>
 ye β L p11 (11:Int) (fun v13 =>
 lt (zb3 .u32 v12 v13) fun x14 =>
 ye β L p11 (25:Int) (fun v15 =>
 lt (zb3 .u32 x14 v15) fun x16 =>
 lt (IntKind.wrap .u32 ((p14:Int)+x16)) fun x17 =>
 lt (zf4 .u32 p11 p12) fun x18 =>
 lt (zEY .u32 p11) fun x19 =>
 lt (zf4 .u32 x19 p13) fun x20 =>
 lt (zb3 .u32 x18 x20) fun x21 =>
 lt (IntKind.wrap .u32 ((x17:Int)+x21)) fun x22 =>
 chk (0≤p15∧p15 < ((64:Nat):Int)) (
 cI .u32 b6 (0+((Int.toNat p15) * 1)) fun v23 =>
 lt (IntKind.wrap .u32 ((x22:Int)+v23)) fun x24 =>
 chk (0≤p15∧p15 < ((64:Nat):Int)) (
 cI .u32 b5 (0+((Int.toNat p15) * 1)) fun v25 =>
 lt (IntKind.wrap .u32 ((x24:Int)+v25)) fun x26 =>
 ye β L p7 (2:Int) (fun v27 =>
 ye β L p7 (13:Int) (fun v28 =>
 lt (zb3 .u32 v27 v28) fun x29 =>
 ye β L p7 (22:Int) (fun v30 =>
 lt (zb3 .u32 x29 v30) fun x31 =>
 lt (zf4 .u32 p7 p8) fun x32 =>
 lt (zf4 .u32 p7 p9) fun x33 =>
 lt (zb3 .u32 x32 x33) fun x34 =>
 lt (zf4 .u32 p8 p9) fun x35 =>
 lt (zb3 .u32 x34 x35) fun x36 =>
 lt (IntKind.wrap .u32 ((x31:Int)+x36)) fun x37 =>
 lt (IntKind.wrap .u32 ((p10:Int)+x26)) fun x38 =>
 lt (IntKind.wrap .u32 ((x26:Int)+x37)) fun x39 =>
 lt (IntKind.wrap .i64 ((p15:Int)+(1:Int))) fun x40 =>
 k_hbbbaba x39 p7 p8 p9 x38 p11 p12 p13 x40 b2 zHm zHn zHl zHq zHv zHw zHx zHy b5 b6))))))))) (
 k_x0 p7 p8 p9 p10 p11 p12 p13 p14 b2 zHm zHn zHl zHq zHv zHw zHx zHy)
theorem zoS {β:Type} (zo:zaf) (zm:xX) (ye:xD) (L:Nat) (p7 p8 p9 p10 p11 p12 p13 p14 p15:Int) (b2:List V) (zHm zHn zHl zHq zHv zHw zHx zHy:Int) (b5 b6:List V) (X:St→Option β) (K:KT β):xk zay (zax zo zm ye L) 0 L zbY (zcJ p7 p8 p9 p10 p11 p12 p13 p14 p15 b2 zHm zHn zHl zHq zHv zHw zHx zHy b5 b6) (zaJ zdO X K)=zcr zo zm ye L p7 p8 p9 p10 p11 p12 p13 p14 p15 b2 zHm zHn zHl zHq zHv zHw zHx zHy b5 b6 (fun p7 p8 p9 p10 p11 p12 p13 p14 p15 b2 zHm zHn zHl zHq zHv zHw zHx zHy b5 b6=>X (zcJ p7 p8 p9 p10 p11 p12 p13 p14 p15 b2 zHm zHn zHl zHq zHv zHw zHx zHy b5 b6)) (fun p7 p8 p9 p10 p11 p12 p13 p14 b2 zHm zHn zHl zHq zHv zHw zHx zHy=>K (.exit 0) (zhn p7 p8 p9 p10 p11 p12 p13 p14 b2 zHm zHn zHl zHq zHv zHw zHx zHy)):=by kernel_rfl
def zcP {β:Type} (zo:zaf) (zm:xX) (ye:xD) (L:Nat) (p7 p8 p9 p10 p11 p12 p13 p14:Int) (b2:List V) (zHm zHn zHl zHq zHv zHw zHx zHy:Int) (k_fin:List V→Option β):Option β :=
 cI .u32 b2 0 fun v41 =>
 lt (IntKind.wrap .u32 ((v41:Int)+p7)) fun x42 =>
 cI .u32 b2 1 fun v43 =>
 lt (IntKind.wrap .u32 ((v43:Int)+p8)) fun x44 =>
 cI .u32 b2 2 fun v45 =>
 lt (IntKind.wrap .u32 ((v45:Int)+p9)) fun x46 =>
 cI .u32 b2 3 fun v47 =>
 lt (IntKind.wrap .u32 ((v47:Int)+p10)) fun x48 =>
 cI .u32 b2 4 fun v49 =>
 lt (IntKind.wrap .u32 ((v49:Int)+p11)) fun x50 =>
 cI .u32 b2 5 fun v51 =>
 lt (IntKind.wrap .u32 ((v51:Int)+p12)) fun x52 =>
 cI .u32 b2 6 fun v53 =>
 lt (IntKind.wrap .u32 ((v53:Int)+p13)) fun x54 =>
 cI .u32 b2 7 fun v55 =>
 lt (IntKind.wrap .u32 ((v55:Int)+p14)) fun x56 =>
 lt [(V.sc (.int .u32 x42)),(V.sc (.int .u32 x44)),(V.sc (.int .u32 x46)),(V.sc (.int .u32 x48)),(V.sc (.int .u32 x50)),(V.sc (.int .u32 x52)),(V.sc (.int .u32 x54)),(V.sc (.int .u32 x56))] fun r57 =>
 chk (0=0∧(List.length r57)=8∧8≠0) (
 k_fin r57)
theorem znX {β:Type} (zo:zaf) (zm:xX) (ye:xD) (L:Nat) (p7 p8 p9 p10 p11 p12 p13 p14:Int) (b2:List V) (zHm zHn zHl zHq zHv zHw zHx zHy:Int) (k:KK β):(yA 0 (xO (xk zay (zax zo zm ye L) 0 L zhk) (yP 0 (CF.res zb1) k))) (.exit 0) (zhn p7 p8 p9 p10 p11 p12 p13 p14 b2 zHm zHn zHl zHq zHv zHw zHx zHy)=zcP zo zm ye L p7 p8 p9 p10 p11 p12 p13 p14 b2 zHm zHn zHl zHq zHv zHw zHx zHy (fun p0=>k (V.agg p0) []):=by kernel_rfl
def zbp {β:Type} (zo:zaf) (zm:xX) (ye:xD) (L:Nat) (k_x0:zfU β):Nat→Int→Int→Int→Int→Int→Int→Int→Int→Int→List V→Int→Int→Int→Int→Int→Int→Int→Int→List V→List V→Option β
 | 0,_,_,_,_,_,_,_,_,_,_,_,_,_,_,_,_,_,_,_,_=>none
 | n+1,p7,p8,p9,p10,p11,p12,p13,p14,p15,b2,zHm,zHn,zHl,zHq,zHv,zHw,zHx,zHy,b5,b6=>zcr zo zm ye L p7 p8 p9 p10 p11 p12 p13 p14 p15 b2 zHm zHn zHl zHq zHv zHw zHx zHy b5 b6 (fun p7 p8 p9 p10 p11 p12 p13 p14 p15 b2 zHm zHn zHl zHq zHv zHw zHx zHy b5 b6=>zbp zo zm ye L k_x0 n p7 p8 p9 p10 p11 p12 p13 p14 p15 b2 zHm zHn zHl zHq zHv zHw zHx zHy b5 b6) k_x0
theorem zh2 {β:Type} (zo:zaf) (zm:xX) (ye:xD) (L:Nat) (K:KT β):∀ (n:Nat) (p7 p8 p9 p10 p11 p12 p13 p14 p15:Int) (b2:List V) (zHm zHn zHl zHq zHv zHw zHx zHy:Int) (b5 b6:List V),zz (xk zay (zax zo zm ye L) 0 L zbY) zdO n (zcJ p7 p8 p9 p10 p11 p12 p13 p14 p15 b2 zHm zHn zHl zHq zHv zHw zHx zHy b5 b6) K=zbp zo zm ye L (fun p7 p8 p9 p10 p11 p12 p13 p14 b2 zHm zHn zHl zHq zHv zHw zHx zHy=>K (.exit 0) (zhn p7 p8 p9 p10 p11 p12 p13 p14 b2 zHm zHn zHl zHq zHv zHw zHx zHy)) n p7 p8 p9 p10 p11 p12 p13 p14 p15 b2 zHm zHn zHl zHq zHv zHw zHx zHy b5 b6:=by
 intro n
 induction n with
 | zero=>intros; rfl
 | succ n ih =>
  intro p7 p8 p9 p10 p11 p12 p13 p14 p15 b2 zHm zHn zHl zHq zHv zHw zHx zHy b5 b6
  refine (zoS zo zm ye L p7 p8 p9 p10 p11 p12 p13 p14 p15 b2 zHm zHn zHl zHq zHv zHw zHx zHy b5 b6 (fun σ=>zz (xk zay (zax zo zm ye L) 0 L zbY) zdO n σ K) K).trans ?_
  simp only [ih]
  rfl
def zhl {β:Type} (zo:zaf) (zm:xX) (ye:xD) (L:Nat) (p0 p1:List V) (k_fin:List V→Option β):Option β :=
 zkH zo zm ye L p0 p1 (fun p7 p8 p9 p10 p11 p12 p13 p14 p15 b2 zHm zHn zHl zHq zHv zHw zHx zHy b5 b6=>zbp zo zm ye L (fun p7 p8 p9 p10 p11 p12 p13 p14 b2 zHm zHn zHl zHq zHv zHw zHx zHy=>zcP zo zm ye L p7 p8 p9 p10 p11 p12 p13 p14 b2 zHm zHn zHl zHq zHv zHw zHx zHy k_fin) L p7 p8 p9 p10 p11 p12 p13 p14 p15 b2 zHm zHn zHl zHq zHv zHw zHx zHy b5 b6)
theorem zth {β:Type} (zo:zaf) (zm:xX) (ye:xD) (L:Nat) (p0 p1:List V) (k:KK β):zw zay (zax zo zm ye L) L zb1 [(V.agg p0),(V.agg p1)] [] k=zhl zo zm ye L p0 p1 (fun p0=>k (V.agg p0) []):=by
 refine (ztf zo zm ye L p0 p1 k).trans ?_
 unfold zhl
 first
  | (simp only [zh2,znX]; done)
  | (simp only [zh2]; rfl)
abbrev xH:=∀ (β:Type),Nat→List V→List V→(List V→Option β)→Option β
def xf (β:Type) (L:Nat) (p0 p1:List V) (k_fin:List V→Option β):Option β:=zhl zo zm ye L p0 p1 k_fin
def zho (xf:xH) (L:Nat) (β:Type) (args:List V) (bor:Bor) (k:KK β):Option β:=match args,bor with
 | [a0,a1],[]=>aG a0 fun p0=>aG a1 fun p1=>xf β L p0 p1 (fun p0=>k (V.agg p0) [])
 | _,_=>none
theorem ztd (L:Nat) (β:Type) (args:List V) (bor:Bor) (k:KK β) (r:β) (h:zho xf L β args bor k=some r):zw zay (zax zo zm ye L) L zb1 args bor k=some r:=by
 unfold zho at h
 split at h
 ·have q:=zgK h; clear h; obtain ⟨p0,rfl,h⟩:=q
  have q:=zgK h; clear h; obtain ⟨p1,rfl,h⟩:=q
  exact (zth zo zm ye L p0 p1 k).trans h
 ·cases h
def zcX:CC:=(.seq (.reg [oo 35 (.bin .lss (tq 34) (.const (.sc (.int .i64 8))))])
 (.seq (.cond (tq 35)
 .skip
 (.seq (.mask (bl 132 66) (bl 73786976294838205615 66))
 (.exit 2)))
 (.seq (.block 3 (.seq (.reg [oo 36 (.move (tq 34) false),
   oo 37 (.indexA false 8 1 (tq 33) (tq 34)),
   oo 8 (.move (tq 36) false),
   oo 9 (.move (tq 37) false)])
 (.reg [oo 38 (.move (tq 8) false),
   oo 39 (.bin .mul (.const (.sc (.int .i64 4))) (tq 38)),
   oo 40 (.move (tq 8) false),
   oo 41 (.bin .mul (.const (.sc (.int .i64 4))) (tq 40)),
   oo 42 (.bin .add (tq 41) (.const (.sc (.int .i64 1)))),
   oo 43 (.move (tq 8) false),
   oo 44 (.bin .mul (.const (.sc (.int .i64 4))) (tq 43)),
   oo 45 (.bin .add (tq 44) (.const (.sc (.int .i64 2)))),
   oo 46 (.move (tq 8) false),
   oo 47 (.bin .mul (.const (.sc (.int .i64 4))) (tq 46)),
   oo 48 (.bin .add (tq 47) (.const (.sc (.int .i64 3)))),
   oo 49 (.move (tq 9) false),
   oo 50 (.bin .shr (tq 49) (.const (.sc (.int .u64 24)))),
   oo 51 (.conv .u8 (tq 50)),
   oo 52 (.move (tq 9) false),
   oo 53 (.bin .shr (tq 52) (.const (.sc (.int .u64 16)))),
   oo 54 (.conv .u8 (tq 53)),
   oo 55 (.move (tq 9) false),
   oo 56 (.bin .shr (tq 55) (.const (.sc (.int .u64 8)))),
   oo 57 (.conv .u8 (tq 56)),
   oo 58 (.move (tq 9) false),
   oo 59 (.conv .u8 (tq 58)),
   oo 60 (.indexAddrA 32 1 (tq 7) (tq 39)),
   oz (.store 1 (tq 60) (tq 51)),
   oo 61 (.indexAddrA 32 1 (tq 7) (tq 42)),
   oz (.store 1 (tq 61) (tq 54)),
   oo 62 (.indexAddrA 32 1 (tq 7) (tq 45)),
   oz (.store 1 (tq 62) (tq 57)),
   oo 63 (.indexAddrA 32 1 (tq 7) (tq 48)),
   oz (.store 1 (tq 63) (tq 59))])))
 (.reg [oo 64 (.bin .add (tq 34) (.const (.sc (.int .i64 1)))),
   oo 34 (.move (tq 64) false)]))))
def zdW:CC:=(.seq (.seq (.reg [oo 18 (.move (tq 5) false),
   oo 19 (.bin .add (tq 18) (.const (.sc (.int .i64 64)))),
   oo 20 (.move (tq 3) false),
   oo 21 (.lenS (tq 20)),
   oo 22 (.bin .leq (tq 19) (tq 21))])
 (.cond (tq 22)
 .skip
 (.seq (.mask (bl 20 66) (bl 73786976290004270879 66))
 (.exit 0))))
 (.seq (.block 1 (.seq (.reg [oo 6 (.alloc true (rp 64 (.sc (.int .u8 0)) []))])
 (.seq (.dreg [] [(oo 25 (.sliceA 64 1 (tq 6) none none none),q0),
   (oo 26 (.move (tq 3) false),q0),
   (oo 27 (.move (tq 5) false),q0),
   (oo 28 (.sliceS 1 (tq 26) (some (tq 27)) none none),q0),
   (oo 29 (.copy 1 (tq 25) (tq 28)),q0)])
 (.reg [oo 30 (.load true 8 (tq 4) false),
   oo 31 (.load true 64 (tq 6) false),
   oo 32 (.call 533 [((tq 30),0),((tq 31),0)] []),
   oz (.store 8 (tq 4) (tq 32))]))))
 (.reg [oo 23 (.move (tq 5) false),
   oo 24 (.bin .add (tq 23) (.const (.sc (.int .i64 64)))),
   oo 5 (.move (tq 24) false)])))
def zjG:CC:=(.seq (.reg [oo 65 (.load true 32 (tq 7) false),
   oz (.store 32 (tq 2) (tq 65))])
 .ret)
def zia:CC:=(.seq (.reg [oo 7 (.alloc true (rp 32 (.sc (.int .u8 0)) []))])
 (.seq (.seq (.reg [oo 33 (.load true 8 (tq 4) false),
   oo 34 (.move (.const (.sc (.int .i64 0))) false)])
 (.block 2 (.loop (bl 25769803908 66) (bl 73786976294838205615 66)
 zcX)))
 zjG))
def zcn:CF:=⟨66,[.cell 2 true 32],
 (.seq (.reg [oo 2 (.alloc true (rp 32 (.sc (.int .u8 0)) []))])
 (.seq (.reg [oo 10 (.move (tq 0) false),
   oo 11 (.append 1 1 (.const (.gs 1 [])) (tq 10)),
   oo 12 (.move (tq 0) false),
   oo 13 (.lenS (tq 12)),
   oo 14 (.conv .u64 (tq 13)),
   oo 15 (.call 531 [((tq 14),0)] []),
   oo 16 (.append 1 1 (tq 11) (tq 15)),
   oo 3 (.move (tq 16) true)])
 (.seq (.reg [oo 17 (.call 532 [] []),
   oo 4 (.alloc true [(.sc (.int .u32 0)),(.sc (.int .u32 0)),(.sc (.int .u32 0)),(.sc (.int .u32 0)),(.sc (.int .u32 0)),(.sc (.int .u32 0)),(.sc (.int .u32 0)),(.sc (.int .u32 0))]),
   oz (.store 8 (tq 4) (tq 17))])
 (.seq (.seq (.reg [oo 5 (.move (.const (.sc (.int .i64 0))) false)])
 (.block 0 (.loop (bl 60 66) (bl 73786976290004270911 66)
 zdW)))
 zia))))⟩
def zrB:Hint:=⟨[(1,7)],[],[none,some ((bl 60 66),(bl 73786976290004270911 66)),none,some ((bl 20 66),(bl 73786976290004270879 66)),none,none,some ((bl 25769803908 66),(bl 73786976294838205615 66)),none,some ((bl 132 66),(bl 73786976294838205615 66)),none,none],[],[],false,false⟩
def y8:Nat→Sh:=yV [(37,(.int .u32))]
def xZ (zl:xV) (xg:zK) (xf:xH) (L:Nat):CBC:=(xB 533 (zho xf L) (xB 532 (zhX xg L) (xB 531 (zno zl L) noC)))
def zgg:St→St:=zZ 0 (bl 60 66) (bl 73786976290004270911 66)
def zfp:St→St:=zZ 0 (bl 25769803908 66) (bl 73786976294838205615 66)
def zeK (p3:List (List V)) (p5:Int) (b2 b4:List V):St:=⟨(jn 2 ((V.ptr 2 0)::((V.gs 1 p3)::((V.ptr 4 0)::((V.sc (.int .i64 p5))::(jn 60 [])))))),(gn 2 ((.live true b2)::(gn 1 ((.live true b4)::(gn 61 [])))))⟩
def zhW (b2 b4:List V):St:=⟨(jn 2 ((V.ptr 2 0)::(jn 1 ((V.ptr 4 0)::(jn 61 []))))),(gn 2 ((.live true b2)::(gn 1 ((.live true b4)::(gn 61 [])))))⟩
def zdM (p33:List V) (p34:Int) (b2 b7:List V):St:=⟨(jn 2 ((V.ptr 2 0)::(jn 4 ((V.ptr 7 0)::(jn 25 ((V.agg p33)::((V.sc (.int .i64 p34))::(jn 31 [])))))))),(gn 2 ((.live true b2)::(gn 4 ((.live true b7)::(gn 58 [])))))⟩
def zlU (b2 b7:List V):St:=⟨(jn 2 ((V.ptr 2 0)::(jn 4 ((V.ptr 7 0)::(jn 58 []))))),(gn 2 ((.live true b2)::(gn 4 ((.live true b7)::(gn 58 [])))))⟩
def zrf {β:Type} (zl:xV) (xg:zK) (xf:xH) (L:Nat) (p0:List (List V)) (k_hbbbaba:List (List V)→Int→List V→List V→Option β):Option β :=
 chk ((List.length ([]:List (List V))+List.length p0) * 1≤xj∧List.length ([]:List (List V))+List.length p0≤xj) (
 lt (([]:List (List V))++p0) fun l0 =>
 lt (IntKind.wrap .u64 ((List.length p0:Nat):Int)) fun x1 =>
 zl β L x1 (fun v2 =>
 chk ((List.length l0+List.length v2) * 1≤xj∧List.length l0+List.length v2≤xj) (
 lt (l0++v2) fun l3 =>
 xg β L  (fun v4 =>
 chk ((List.length v4)=8∧0+8≤8) (
 lt (zr [(V.sc (.int .u32 (0:Int))),(V.sc (.int .u32 (0:Int))),(V.sc (.int .u32 (0:Int))),(V.sc (.int .u32 (0:Int))),(V.sc (.int .u32 (0:Int))),(V.sc (.int .u32 (0:Int))),(V.sc (.int .u32 (0:Int))),(V.sc (.int .u32 (0:Int)))] 0 v4) fun r5 =>
 k_hbbbaba l3 (0:Int) (List.replicate 32 (V.sc (.int .u8 (0:Int)))) r5)))))
theorem zyg {β:Type} (zl:xV) (xg:zK) (xf:xH) (L:Nat) (p0:List (List V)) (k:KK β):zw y8 (xZ zl xg xf L) L zcn [(V.sl 1 p0)] [] k=zrf zl xg xf L p0 (fun p3 p5 b2 b4=>zz (xk y8 (xZ zl xg xf L) 0 L zdW) zgg L (zeK p3 p5 b2 b4) (yA 0 (xO (xk y8 (xZ zl xg xf L) 0 L zia) (yP 0 (CF.res zcn) k)))):=by kernel_rfl
def zeB {β:Type} (zl:xV) (xg:zK) (xf:xH) (L:Nat) (p3:List (List V)) (p5:Int) (b2 b4:List V) (k_hbbbaba:List (List V)→Int→List V→List V→Option β) (k_x0:List V→List V→Option β):Option β :=
 lt (IntKind.wrap .i64 ((p5:Int)+(64:Int))) fun x6 =>
 ifb (decide (x6≤((List.length p3:Nat):Int))) (
 chk (0≤p5∧p5≤(((List.length p3):Nat):Int)) (
 lt (zr (List.replicate 64 (V.sc (.int .u8 (0:Int)))) 0 (List.flatten (List.take (min (List.length (List.take ((List.length p3) - (Int.toNat p5)) (List.drop (Int.toNat p5) p3))) 64) (List.take ((List.length p3) - (Int.toNat p5)) (List.drop (Int.toNat p5) p3))))) fun r7 =>
 chk (0+8≤(List.length b4)) (
 chk (0+64≤(List.length r7)) (
 xf β L (List.take 8 b4) (List.take 64 r7) (fun v8 =>
 chk ((List.length v8)=8∧0+8≤(List.length b4)) (
 lt (zr b4 0 v8) fun r9 =>
 lt (IntKind.wrap .i64 ((p5:Int)+(64:Int))) fun x10 =>
 k_hbbbaba p3 x10 b2 r9)))))) (
 k_x0 b2 b4)
theorem zsK {β:Type} (zl:xV) (xg:zK) (xf:xH) (L:Nat) (p3:List (List V)) (p5:Int) (b2 b4:List V) (X:St→Option β) (K:KT β):xk y8 (xZ zl xg xf L) 0 L zdW (zeK p3 p5 b2 b4) (zaJ zgg X K)=zeB zl xg xf L p3 p5 b2 b4 (fun p3 p5 b2 b4=>X (zeK p3 p5 b2 b4)) (fun b2 b4=>K (.exit 0) (zhW b2 b4)):=by kernel_rfl
def zhE {β:Type} (zl:xV) (xg:zK) (xf:xH) (L:Nat) (b2 b4:List V) (k_hbbbbbaba:List V→Int→List V→List V→Option β):Option β :=
 chk (0+8≤(List.length b4)) (
 k_hbbbbbaba (List.take 8 b4) (0:Int) b2 (List.replicate 32 (V.sc (.int .u8 (0:Int)))))
theorem zrm {β:Type} (zl:xV) (xg:zK) (xf:xH) (L:Nat) (b2 b4:List V) (k:KK β):(yA 0 (xO (xk y8 (xZ zl xg xf L) 0 L zia) (yP 0 (CF.res zcn) k))) (.exit 0) (zhW b2 b4)=zhE zl xg xf L b2 b4 (fun p33 p34 b2 b7=>zz (xk y8 (xZ zl xg xf L) 0 L zcX) zfp L (zdM p33 p34 b2 b7) (yA 2 (xO (xk y8 (xZ zl xg xf L) 0 L zjG) (yP 0 (CF.res zcn) k)))):=by kernel_rfl
def zdt {β:Type} (zl:xV) (xg:zK) (xf:xH) (L:Nat) (p33:List V) (p34:Int) (b2 b7:List V) (k_hbbbbbaba:List V→Int→List V→List V→Option β) (k_x2:List V→List V→Option β):Option β :=
 ifb (decide (p34 < (8:Int))) (
 chk (0≤p34∧p34 < ((8:Nat):Int)) (
 cI .u32 p33 ((Int.toNat p34) * 1) fun v11 =>
 lt (IntKind.wrap .i64 (((4:Int):Int) * p34)) fun x12 =>
 lt (IntKind.wrap .i64 (((4:Int):Int) * p34)) fun x13 =>
 lt (IntKind.wrap .i64 ((x13:Int)+(1:Int))) fun x14 =>
 lt (IntKind.wrap .i64 (((4:Int):Int) * p34)) fun x15 =>
 lt (IntKind.wrap .i64 ((x15:Int)+(2:Int))) fun x16 =>
 lt (IntKind.wrap .i64 (((4:Int):Int) * p34)) fun x17 =>
 lt (IntKind.wrap .i64 ((x17:Int)+(3:Int))) fun x18 =>
 lt (zco .u32 v11 (24:Int)) fun x19 =>
 lt (IntKind.wrap .u8 x19) fun x20 =>
 lt (zco .u32 v11 (16:Int)) fun x21 =>
 lt (IntKind.wrap .u8 x21) fun x22 =>
 lt (zco .u32 v11 (8:Int)) fun x23 =>
 lt (IntKind.wrap .u8 x23) fun x24 =>
 lt (IntKind.wrap .u8 v11) fun x25 =>
 chk (0≤x12∧x12 < ((32:Nat):Int)) (
 chk (1=1∧(0+((Int.toNat x12) * 1))+1≤(List.length b7)) (
 lt (zr b7 (0+((Int.toNat x12) * 1)) [(V.sc (.int .u8 x20))]) fun r26 =>
 chk (0≤x14∧x14 < ((32:Nat):Int)) (
 chk (1=1∧(0+((Int.toNat x14) * 1))+1≤(List.length r26)) (
 lt (zr r26 (0+((Int.toNat x14) * 1)) [(V.sc (.int .u8 x22))]) fun r27 =>
 chk (0≤x16∧x16 < ((32:Nat):Int)) (
 chk (1=1∧(0+((Int.toNat x16) * 1))+1≤(List.length r27)) (
 lt (zr r27 (0+((Int.toNat x16) * 1)) [(V.sc (.int .u8 x24))]) fun r28 =>
 chk (0≤x18∧x18 < ((32:Nat):Int)) (
 chk (1=1∧(0+((Int.toNat x18) * 1))+1≤(List.length r28)) (
 lt (zr r28 (0+((Int.toNat x18) * 1)) [(V.sc (.int .u8 x25))]) fun r29 =>
 lt (IntKind.wrap .i64 ((p34:Int)+(1:Int))) fun x30 =>
 k_hbbbbbaba p33 x30 b2 r29)))))))))) (
 k_x2 b2 b7)
theorem zq2 {β:Type} (zl:xV) (xg:zK) (xf:xH) (L:Nat) (p33:List V) (p34:Int) (b2 b7:List V) (X:St→Option β) (K:KT β):xk y8 (xZ zl xg xf L) 0 L zcX (zdM p33 p34 b2 b7) (zaJ zfp X K)=zdt zl xg xf L p33 p34 b2 b7 (fun p33 p34 b2 b7=>X (zdM p33 p34 b2 b7)) (fun b2 b7=>K (.exit 2) (zlU b2 b7)):=by kernel_rfl
def zgw {β:Type} (zl:xV) (xg:zK) (xf:xH) (L:Nat) (b2 b7:List V) (k_fin:List V→Option β):Option β :=
 chk (0+32≤(List.length b7)) (
 chk ((List.length (List.take 32 b7))=32∧0+32≤(List.length b2)) (
 lt (zr b2 0 (List.take 32 b7)) fun r31 =>
 chk (0=0∧(List.length r31)=32∧32≠0) (
 k_fin r31)))
theorem zpj {β:Type} (zl:xV) (xg:zK) (xf:xH) (L:Nat) (b2 b7:List V) (k:KK β):(yA 2 (xO (xk y8 (xZ zl xg xf L) 0 L zjG) (yP 0 (CF.res zcn) k))) (.exit 2) (zlU b2 b7)=zgw zl xg xf L b2 b7 (fun p0=>k (V.agg p0) []):=by kernel_rfl
def zde {β:Type} (zl:xV) (xg:zK) (xf:xH) (L:Nat) (k_x0:List V→List V→Option β):Nat→List (List V)→Int→List V→List V→Option β
 | 0,_,_,_,_=>none
 | n+1,p3,p5,b2,b4=>zeB zl xg xf L p3 p5 b2 b4 (fun p3 p5 b2 b4=>zde zl xg xf L k_x0 n p3 p5 b2 b4) k_x0
theorem zlv {β:Type} (zl:xV) (xg:zK) (xf:xH) (L:Nat) (K:KT β):∀ (n:Nat) (p3:List (List V)) (p5:Int) (b2 b4:List V),zz (xk y8 (xZ zl xg xf L) 0 L zdW) zgg n (zeK p3 p5 b2 b4) K=zde zl xg xf L (fun b2 b4=>K (.exit 0) (zhW b2 b4)) n p3 p5 b2 b4:=by
 intro n
 induction n with
 | zero=>intros; rfl
 | succ n ih =>
  intro p3 p5 b2 b4
  refine (zsK zl xg xf L p3 p5 b2 b4 (fun σ=>zz (xk y8 (xZ zl xg xf L) 0 L zdW) zgg n σ K) K).trans ?_
  simp only [ih]
  rfl
def zcd {β:Type} (zl:xV) (xg:zK) (xf:xH) (L:Nat) (k_x2:List V→List V→Option β):Nat→List V→Int→List V→List V→Option β
 | 0,_,_,_,_=>none
 | n+1,p33,p34,b2,b7=>zdt zl xg xf L p33 p34 b2 b7 (fun p33 p34 b2 b7=>zcd zl xg xf L k_x2 n p33 p34 b2 b7) k_x2
theorem zkr {β:Type} (zl:xV) (xg:zK) (xf:xH) (L:Nat) (K:KT β):∀ (n:Nat) (p33:List V) (p34:Int) (b2 b7:List V),zz (xk y8 (xZ zl xg xf L) 0 L zcX) zfp n (zdM p33 p34 b2 b7) K=zcd zl xg xf L (fun b2 b7=>K (.exit 2) (zlU b2 b7)) n p33 p34 b2 b7:=by
 intro n
 induction n with
 | zero=>intros; rfl
 | succ n ih =>
  intro p33 p34 b2 b7
  refine (zq2 zl xg xf L p33 p34 b2 b7 (fun σ=>zz (xk y8 (xZ zl xg xf L) 0 L zcX) zfp n σ K) K).trans ?_
  simp only [ih]
  rfl
def zeL {β:Type} (zl:xV) (xg:zK) (xf:xH) (L:Nat) (b2 b4:List V) (k_fin:List V→Option β):Option β :=
 zhE zl xg xf L b2 b4 (fun p33 p34 b2 b7=>zcd zl xg xf L (fun b2 b7=>zgw zl xg xf L b2 b7 k_fin) L p33 p34 b2 b7)
theorem zp7 {β:Type} (zl:xV) (xg:zK) (xf:xH) (L:Nat) (b2 b4:List V) (k:KK β):(yA 0 (xO (xk y8 (xZ zl xg xf L) 0 L zia) (yP 0 (CF.res zcn) k))) (.exit 0) (zhW b2 b4)=zeL zl xg xf L b2 b4 (fun p0=>k (V.agg p0) []):=by
 refine (zrm zl xg xf L b2 b4 k).trans ?_
 unfold zeL
 first
  | (simp only [zkr,zpj]; done)
  | (simp only [zkr]; rfl)
def znr {β:Type} (zl:xV) (xg:zK) (xf:xH) (L:Nat) (p0:List (List V)) (k_fin:List V→Option β):Option β :=
 zrf zl xg xf L p0 (fun p3 p5 b2 b4=>zde zl xg xf L (fun b2 b4=>zeL zl xg xf L b2 b4 k_fin) L p3 p5 b2 b4)
theorem zyx {β:Type} (zl:xV) (xg:zK) (xf:xH) (L:Nat) (p0:List (List V)) (k:KK β):zw y8 (xZ zl xg xf L) L zcn [(V.sl 1 p0)] [] k=znr zl xg xf L p0 (fun p0=>k (V.agg p0) []):=by
 refine (zyg zl xg xf L p0 k).trans ?_
 unfold znr
 first
  | (simp only [zlv,zp7]; done)
  | (simp only [zlv]; rfl)
abbrev znq:=∀ (β:Type),Nat→List (List V)→(List V→Option β)→Option β
def zao (β:Type) (L:Nat) (p0:List (List V)) (k_fin:List V→Option β):Option β:=znr zl xg xf L p0 k_fin
def znv (zao:znq) (L:Nat) (β:Type) (args:List V) (bor:Bor) (k:KK β):Option β:=match args,bor with
 | [a0],[]=>aL 1 a0 fun p0=>zao β L p0 (fun p0=>k (V.agg p0) [])
 | _,_=>none
theorem zx6 (L:Nat) (β:Type) (args:List V) (bor:Bor) (k:KK β) (r:β) (h:znv zao L β args bor k=some r):zw y8 (xZ zl xg xf L) L zcn args bor k=some r:=by
 unfold znv at h
 split at h
 ·have q:=zP h; clear h; obtain ⟨p0,rfl,h⟩:=q
  exact (zyx zl xg xf L p0 k).trans h
 ·cases h
def zjc:CF:=⟨14,[.tmp 4],
 (.seq (.reg [oo 4 (.move (.const (.gs 1 [])) true)])
 (.seq (.reg [oo 6 (.move (tq 0) false),
   oo 7 (.move (tq 1) false),
   oo 8 (.buildSlice 1 2 [(.sl 1 [])] [(0,1,(tq 6)),(1,1,(tq 7))]),
   oo 9 (.call 453 [((tq 8),0)] []),
   oo 10 (.call 494 [((tq 9),0)] []),
   oo 5 (.alloc true (rp 32 (.sc (.int .u8 0)) [])),
   oz (.store 32 (tq 5) (tq 10))])
 (.seq (.reg [oo 11 (.buildSlice 1 0 [(.sc (.int .u8 0))] []),
   oo 12 (.sliceA 32 1 (tq 5) none (some (.const (.sc (.int .i64 4)))) none),
   oo 13 (.append 1 1 (tq 11) (tq 12)),
   oo 4 (.move (tq 13) true)])
 .ret)))⟩
def zpu:Hint:=⟨[(0,0),(2,3)],[],[none],[],[],false,false⟩
def zmU:Nat→Sh:=yV []
def zmY (xa:zk) (zao:znq) (L:Nat):CBC:=(xB 494 (znv zao L) (xB 453 (zdS xa L) noC))
def zn7 {β:Type} (xa:zk) (zao:znq) (L:Nat) (p0 p1:List (List V)) (k_fin:List (List V)→Option β):Option β :=
 xa β L (zh 1 2 [(V.sl 1 p0),(V.sl 1 p1)]) (fun v0 =>
 zao β L v0 (fun v1 =>
 chk ((List.length v1)=32∧0+32≤32) (
 lt (zr (List.replicate 32 (V.sc (.int .u8 (0:Int)))) 0 v1) fun r2 =>
 chk (0+32 * 1≤(List.length r2)) (
 chk ((List.length ([]:List (List V))+List.length (zh 1 4 r2)) * 1≤xj∧List.length ([]:List (List V))+List.length (zh 1 4 r2)≤xj) (
 lt (([]:List (List V))++(zh 1 4 r2)) fun l3 =>
 k_fin l3)))))
theorem zwy {β:Type} (xa:zk) (zao:znq) (L:Nat) (p0 p1:List (List V)) (k:KK β):zw zmU (zmY xa zao L) L zjc [(V.sl 1 p0),(V.sl 1 p1)] [] k=zn7 xa zao L p0 p1 (fun p0=>k (V.gs 1 p0) []):=by kernel_rfl
abbrev zen:=∀ (β:Type),Nat→List (List V)→List (List V)→(List (List V)→Option β)→Option β
def zF (β:Type) (L:Nat) (p0 p1:List (List V)) (k_fin:List (List V)→Option β):Option β:=zn7 xa zao L p0 p1 k_fin
def zhq (zF:zen) (L:Nat) (β:Type) (args:List V) (bor:Bor) (k:KK β):Option β:=match args,bor with
 | [a0,a1],[]=>aL 1 a0 fun p0=>aL 1 a1 fun p1=>zF β L p0 p1 (fun p0=>k (V.gs 1 p0) [])
 | _,_=>none
theorem zwk (L:Nat) (β:Type) (args:List V) (bor:Bor) (k:KK β) (r:β) (h:zhq zF L β args bor k=some r):zw zmU (zmY xa zao L) L zjc args bor k=some r:=by
 unfold zhq at h
 split at h
 ·have q:=zP h; clear h; obtain ⟨p0,rfl,h⟩:=q
  have q:=zP h; clear h; obtain ⟨p1,rfl,h⟩:=q
  exact (zwy xa zao L p0 p1 k).trans h
 ·cases h
def zkw:CF:=⟨10,[.tmp 4],
 (.seq (.reg [oo 4 (.move (.const (.sc (.bool false))) false)])
 (.seq (.reg [oo 5 (.move (tq 0) false),
   oo 6 (.toStr (tq 5)),
   oo 7 (.move (tq 1) false),
   oo 8 (.toStr (tq 7)),
   oo 9 (.bin .eql (tq 6) (tq 8)),
   oo 4 (.move (tq 9) false)])
 .ret))⟩
def zqG:Hint:=⟨[],[],[none],[],[],false,false⟩
def zn1:Nat→Sh:=yV []
def zop (L:Nat):CBC:=noC
def zls {β:Type} (L:Nat) (p0 p1:List (List V)) (k_fin:Bool→Option β):Option β :=
 zvP p0 fun v0 =>
 zvP p1 fun v1 =>
 k_fin (ByteArray.toList v0 == ByteArray.toList v1)
theorem zxt {β:Type} (L:Nat) (p0 p1:List (List V)) (k:KK β):zw zn1 (zop L) L zkw [(V.sl 1 p0),(V.sl 1 p1)] [] k=zls L p0 p1 (fun p0=>k (V.sc (.bool p0)) []):=by kernel_rfl
abbrev xi:=∀ (β:Type),Nat→List (List V)→List (List V)→(Bool→Option β)→Option β
def za (β:Type) (L:Nat) (p0 p1:List (List V)) (k_fin:Bool→Option β):Option β:=zls L p0 p1 k_fin
def zd2 (za:xi) (L:Nat) (β:Type) (args:List V) (bor:Bor) (k:KK β):Option β:=match args,bor with
 | [a0,a1],[]=>aL 1 a0 fun p0=>aL 1 a1 fun p1=>za β L p0 p1 (fun p0=>k (V.sc (.bool p0)) [])
 | _,_=>none
theorem zxK (L:Nat) (β:Type) (args:List V) (bor:Bor) (k:KK β) (r:β) (h:zd2 za L β args bor k=some r):zw zn1 (zop L) L zkw args bor k=some r:=by
 unfold zd2 at h
 split at h
 ·have q:=zP h; clear h; obtain ⟨p0,rfl,h⟩:=q
  have q:=zP h; clear h; obtain ⟨p1,rfl,h⟩:=q
  exact (zxt L p0 p1 k).trans h
 ·cases h
def zjb:CF:=⟨98,[.cell 6 true 3,.tmp 7,.tmp 8,.tmp 9],
 (.seq (.reg [oo 6 (.alloc true [(.sc (.int .i64 0)),(.sc (.int .i64 0)),(.gs 1 [])]),
   oo 7 (.move (.const (.gs 1 [])) true),
   oo 8 (.move (.const (.sc (.int .i64 0))) false),
   oo 9 (.move (.const (.sc (.bool false))) false)])
 (.seq (.reg [oo 20 (.move (tq 0) false),
   oo 21 (.move (tq 1) false),
   oo 22 (.call 200 [((tq 20),0),((tq 21),0)] []),
   oo 19 (.move (tq 22) true),
   oo 23 (.pull (tq 19) 0),
   oo 24 (.pull (tq 19) 1),
   oo 25 (.pull (tq 19) 2),
   oo 10 (.move (tq 23) false),
   oo 11 (.move (tq 24) false),
   oo 12 (.move (tq 25) false)])
 (.seq (.seq (.reg [oo 26 (.move (tq 12) false),
   oo 27 (.bin .neq (tq 26) (.const (.sc (.int .i64 0)))),
   oo 28 (.move (tq 27) false),
   ⟨(some 29),false,(some (28,false)),.move (tq 10) false⟩,
   ⟨(some 30),false,(some (28,false)),.bin .gtr (tq 29) (.const (.sc (.int .u32 4096)))⟩,
   oo 31 (.pick (tq 28) (.const (.sc (.bool true))) (tq 30)),
   oo 32 (.move (tq 31) false),
   ⟨(some 33),false,(some (32,false)),.move (tq 0) false⟩,
   ⟨(some 34),false,(some (32,false)),.lenS (tq 33)⟩,
   ⟨(some 35),false,(some (32,false)),.move (tq 1) false⟩,
   ⟨(some 36),false,(some (32,false)),.bin .sub (tq 34) (tq 35)⟩,
   ⟨(some 37),false,(some (32,false)),.move (tq 10) false⟩,
   ⟨(some 38),false,(some (32,false)),.conv .i64 (tq 37)⟩,
   ⟨(some 39),false,(some (32,false)),.bin .add (.const (.sc (.int .i64 13))) (tq 38)⟩,
   ⟨(some 40),false,(some (32,false)),.bin .lss (tq 36) (tq 39)⟩,
   oo 41 (.pick (tq 32) (.const (.sc (.bool true))) (tq 40))])
 (.cond (tq 41)
 (.seq (.reg [oo 42 (.build [(.sc (.int .i64 0)),(.sc (.int .i64 0)),(.sl 1 [])] []),
   oz (.store 3 (tq 6) (tq 42)),
   oo 7 (.move (.const (.gs 1 [])) true),
   oo 8 (.move (.const (.sc (.int .i64 0))) false),
   oo 9 (.move (.const (.sc (.bool false))) false)])
 .ret)
 .skip))
 (.seq (.reg [oo 43 (.move (tq 0) false),
   oo 44 (.move (tq 11) false),
   oo 45 (.indexAddrS 1 (tq 43) (tq 44)),
   oo 46 (.load false 1 (tq 45) false),
   oo 47 (.conv .i64 (tq 46)),
   oo 48 (.build [(.sc (.int .i64 0)),(.sc (.int .i64 0)),(.sl 1 [])] [(0,1,(tq 47))]),
   oo 13 (.alloc false [(.sc (.int .i64 0)),(.sc (.int .i64 0)),(.gs 1 [])]),
   oz (.store 3 (tq 13) (tq 48))])
 (.seq (.reg [oo 50 (.move (tq 0) false),
   oo 51 (.move (tq 11) false),
   oo 52 (.bin .add (tq 51) (.const (.sc (.int .i64 1)))),
   oo 53 (.call 200 [((tq 50),0),((tq 52),0)] []),
   oo 49 (.move (tq 53) true),
   oo 54 (.pull (tq 49) 0),
   oo 55 (.pull (tq 49) 1),
   oo 56 (.pull (tq 49) 2),
   oo 14 (.move (tq 54) false),
   oo 15 (.move (tq 55) false),
   oo 16 (.move (tq 56) false)])
 (.seq (.reg [oo 57 (.move (tq 14) false),
   oo 58 (.conv .i64 (tq 57)),
   oo 59 (.fieldAddr 1 (tq 13)),
   oz (.store 1 (tq 59) (tq 58))])
 (.seq (.reg [oo 60 (.buildSlice 1 0 [(.sc (.int .u8 0))] []),
   oo 61 (.move (tq 0) false),
   oo 62 (.move (tq 15) false),
   oo 63 (.move (tq 15) false),
   oo 64 (.move (tq 10) false),
   oo 65 (.conv .i64 (tq 64)),
   oo 66 (.bin .add (tq 63) (tq 65)),
   oo 67 (.sliceS 1 (tq 61) (some (tq 62)) (some (tq 66)) none),
   oo 68 (.append 1 1 (tq 60) (tq 67)),
   oo 69 (.fieldAddr 2 (tq 13)),
   oz (.store 1 (tq 69) (tq 68))])
 (.seq (.reg [oo 70 (.move (tq 15) false),
   oo 71 (.move (tq 10) false),
   oo 72 (.conv .i64 (tq 71)),
   oo 73 (.bin .add (tq 70) (tq 72)),
   oo 17 (.move (tq 73) false)])
 (.seq (.reg [oo 74 (.move (tq 2) false),
   oo 75 (.move (tq 0) false),
   oo 76 (.move (tq 1) false),
   oo 77 (.move (tq 17) false),
   oo 78 (.sliceS 1 (tq 75) (some (tq 76)) (some (tq 77)) none),
   oo 79 (.call 659 [((tq 74),0),((tq 78),0)] []),
   oo 18 (.move (tq 79) true)])
 (.seq (.seq (.reg [oo 80 (.load true 3 (tq 13) false),
   oo 81 (.call 657 [((tq 80),1)] []),
   oo 82 (.un .not (tq 81)),
   oo 83 (.move (tq 82) false),
   ⟨(some 84),false,(some (83,false)),.move (tq 18) false⟩,
   ⟨(some 85),false,(some (83,false)),.move (tq 0) true⟩,
   ⟨(some 86),false,(some (83,false)),.move (tq 17) false⟩,
   ⟨(some 87),false,(some (83,false)),.move (tq 17) false⟩,
   ⟨(some 88),false,(some (83,false)),.bin .add (tq 87) (.const (.sc (.int .i64 4)))⟩,
   ⟨(some 89),false,(some (83,false)),.sliceS 1 (tq 85) (some (tq 86)) (some (tq 88)) none⟩,
   ⟨(some 90),false,(some (83,false)),.call 130 [((tq 84),0),((tq 89),0)] []⟩,
   ⟨(some 91),false,(some (83,false)),.un .not (tq 90)⟩,
   oo 92 (.pick (tq 83) (.const (.sc (.bool true))) (tq 91))])
 (.cond (tq 92)
 (.seq (.reg [oo 93 (.build [(.sc (.int .i64 0)),(.sc (.int .i64 0)),(.sl 1 [])] []),
   oz (.store 3 (tq 6) (tq 93)),
   oo 7 (.move (.const (.gs 1 [])) true),
   oo 8 (.move (.const (.sc (.int .i64 0))) false),
   oo 9 (.move (.const (.sc (.bool false))) false)])
 .ret)
 .skip))
 (.seq (.reg [oo 94 (.load true 3 (tq 13) false),
   oo 95 (.move (tq 18) true),
   oo 96 (.move (tq 17) false),
   oo 97 (.bin .add (tq 96) (.const (.sc (.int .i64 4)))),
   oz (.store 3 (tq 6) (tq 94)),
   oo 7 (.move (tq 95) true),
   oo 8 (.move (tq 97) false),
   oo 9 (.move (.const (.sc (.bool true))) false)])
 .ret)))))))))))⟩
def zpF:Hint:=⟨[(0,0),(0,1),(1,3),(3,2),(5,4),(9,6),(10,5),(11,2),(12,1),(12,5)],[],[none,none,none,none,none],[],[],false,false⟩
def zmN:Nat→Sh:=yV [(46,(.int .u8))]
def zmZ (zac:znl) (zF:zen) (zf:xE) (za:xi) (L:Nat):CBC:=(xB 130 (zd2 za L) (xB 657 (zfC zf L) (xB 659 (zhq zF L) (xB 200 (znC zac L) noC))))
def zoa {β:Type} (zac:znl) (zF:zen) (zf:xE) (za:xi) (L:Nat) (p0:List (List V)) (p1:Int) (p2:List (List V)) (k_fin:List V→List (List V)→Int→Bool→Option β):Option β :=
 zac β L p0 p1 (fun v0 v1 v2 =>
 ifb ((v2:Int) != (0:Int)) (
 lt [(V.sc (.int .i64 (0:Int))),(V.sc (.int .i64 (0:Int))),(V.sl 1 ([]:List (List V)))] fun r3 =>
 chk (0=0∧(List.length r3)=3∧3≠0) (
 k_fin r3 ([]:List (List V)) (0:Int) false)) (
 ifb (decide (v0 > (4096:Int))) (
 lt [(V.sc (.int .i64 (0:Int))),(V.sc (.int .i64 (0:Int))),(V.sl 1 ([]:List (List V)))] fun r4 =>
 chk (0=0∧(List.length r4)=3∧3≠0) (
 k_fin r4 ([]:List (List V)) (0:Int) false)) (
 lt (IntKind.wrap .i64 ((((List.length p0:Nat):Int):Int) - p1)) fun x5 =>
 lt (IntKind.wrap .i64 v0) fun x6 =>
 lt (IntKind.wrap .i64 (((13:Int):Int)+x6)) fun x7 =>
 ifb (decide (x5 < x7)) (
 lt [(V.sc (.int .i64 (0:Int))),(V.sc (.int .i64 (0:Int))),(V.sl 1 ([]:List (List V)))] fun r8 =>
 chk (0=0∧(List.length r8)=3∧3≠0) (
 k_fin r8 ([]:List (List V)) (0:Int) false)) (
 idx p0 v1 fun c9 =>
 cI .u8 c9 0 fun v10 =>
 lt (IntKind.wrap .i64 v10) fun x11 =>
 lt (IntKind.wrap .i64 ((v1:Int)+(1:Int))) fun x12 =>
 zac β L p0 x12 (fun v13 v14 v15 =>
 lt (IntKind.wrap .i64 v13) fun x16 =>
 lt (IntKind.wrap .i64 v0) fun x17 =>
 lt (IntKind.wrap .i64 ((v14:Int)+x17)) fun x18 =>
 chk (0≤x18∧x18≤(((List.length p0):Nat):Int)) (
 chk (0≤v14∧v14≤(((Int.toNat x18):Nat):Int)) (
 chk ((List.length ([]:List (List V))+List.length (List.take ((Int.toNat x18) - (Int.toNat v14)) (List.drop (Int.toNat v14) p0))) * 1≤xj∧List.length ([]:List (List V))+List.length (List.take ((Int.toNat x18) - (Int.toNat v14)) (List.drop (Int.toNat v14) p0))≤xj) (
 lt (([]:List (List V))++(List.take ((Int.toNat x18) - (Int.toNat v14)) (List.drop (Int.toNat v14) p0))) fun l19 =>
 lt (IntKind.wrap .i64 v0) fun x20 =>
 lt (IntKind.wrap .i64 ((v14:Int)+x20)) fun x21 =>
 chk (0≤x21∧x21≤(((List.length p0):Nat):Int)) (
 chk (0≤p1∧p1≤(((Int.toNat x21):Nat):Int)) (
 zF β L p2 (List.take ((Int.toNat x21) - (Int.toNat p1)) (List.drop (Int.toNat p1) p0)) (fun v22 =>
 zf β L [(V.sc (.int .i64 x11)),(V.sc (.int .i64 x16)),(V.sl 1 l19)] (fun v23 =>
 ifb (!v23) (
 lt [(V.sc (.int .i64 (0:Int))),(V.sc (.int .i64 (0:Int))),(V.sl 1 ([]:List (List V)))] fun r24 =>
 chk (0=0∧(List.length r24)=3∧3≠0) (
 k_fin r24 ([]:List (List V)) (0:Int) false)) (
 lt (IntKind.wrap .i64 ((x21:Int)+(4:Int))) fun x25 =>
 chk (0≤x25∧x25≤(((List.length p0):Nat):Int)) (
 chk (0≤x21∧x21≤(((Int.toNat x25):Nat):Int)) (
 za β L v22 (List.take ((Int.toNat x25) - (Int.toNat x21)) (List.drop (Int.toNat x21) p0)) (fun v26 =>
 ifb (!v26) (
 lt [(V.sc (.int .i64 (0:Int))),(V.sc (.int .i64 (0:Int))),(V.sl 1 ([]:List (List V)))] fun r27 =>
 chk (0=0∧(List.length r27)=3∧3≠0) (
 k_fin r27 ([]:List (List V)) (0:Int) false)) (
 lt (IntKind.wrap .i64 ((x21:Int)+(4:Int))) fun x28 =>
 lt [(V.sc (.int .i64 x11)),(V.sc (.int .i64 x16)),(V.sl 1 l19)] fun r29 =>
 chk (0=0∧(List.length r29)=3∧3≠0) (
 k_fin r29 v22 x28 true))))))))))))))))))
theorem zwj {β:Type} (zac:znl) (zF:zen) (zf:xE) (za:xi) (L:Nat) (p0:List (List V)) (p1:Int) (p2:List (List V)) (k:KK β):zw zmN (zmZ zac zF zf za L) L zjb [(V.sl 1 p0),(V.sc (.int .i64 p1)),(V.sl 1 p2)] [] k=zoa zac zF zf za L p0 p1 p2 (fun zHt zHu zHz zHL=>k (V.tup [(V.agg zHt),(V.gs 1 zHu),(V.sc (.int .i64 zHz)),(V.sc (.bool zHL))]) []):=by kernel_rfl
abbrev zaT:=∀ (β:Type),Nat→List (List V)→Int→List (List V)→(List V→List (List V)→Int→Bool→Option β)→Option β
def yv (β:Type) (L:Nat) (p0:List (List V)) (p1:Int) (p2:List (List V)) (k_fin:List V→List (List V)→Int→Bool→Option β):Option β:=zoa zac zF zf za L p0 p1 p2 k_fin
def zkC (yv:zaT) (L:Nat) (β:Type) (args:List V) (bor:Bor) (k:KK β):Option β:=match args,bor with
 | [a0,a1,a2],[]=>aL 1 a0 fun p0=>aI .i64 a1 fun p1=>aL 1 a2 fun p2=>yv β L p0 p1 p2 (fun zHt zHu zHz zHL=>k (V.tup [(V.agg zHt),(V.gs 1 zHu),(V.sc (.int .i64 zHz)),(V.sc (.bool zHL))]) [])
 | _,_=>none
theorem zvT (L:Nat) (β:Type) (args:List V) (bor:Bor) (k:KK β) (r:β) (h:zkC yv L β args bor k=some r):zw zmN (zmZ zac zF zf za L) L zjb args bor k=some r:=by
 unfold zkC at h
 split at h
 ·have q:=zP h; clear h; obtain ⟨p0,rfl,h⟩:=q
  have q:=xR h; clear h; obtain ⟨p1,rfl,h⟩:=q
  have q:=zP h; clear h; obtain ⟨p2,rfl,h⟩:=q
  exact (zwj zac zF zf za L p0 p1 p2 k).trans h
 ·cases h
def zdU:CC:=(.block 1 (.seq (.reg [oo 14 (.move (tq 0) false),
   oo 15 (.move (tq 7) false),
   oo 16 (.move (tq 6) false),
   oo 17 (.call 660 [((tq 14),0),((tq 15),0),((tq 16),0)] []),
   oo 13 (.move (tq 17) true),
   oo 18 (.pull (tq 13) 0),
   oo 19 (.extract (tq 13) 1),
   oo 20 (.pull (tq 13) 2),
   oo 21 (.pull (tq 13) 3),
   oo 8 (.alloc true [(.sc (.int .i64 0)),(.sc (.int .i64 0)),(.gs 1 [])]),
   oz (.store 3 (tq 8) (tq 18)),
   oo 9 (.move (tq 19) true),
   oo 10 (.move (tq 20) false),
   oo 11 (.move (tq 21) false)])
 (.seq (.seq (.reg [oo 22 (.move (tq 11) false),
   oo 23 (.un .not (tq 22))])
 (.cond (tq 23)
 (.seq (.reg [oo 24 (.move (tq 5) true),
   oo 25 (.move (tq 7) false),
   oo 26 (.move (tq 6) true),
   oo 2 (.move (tq 24) true),
   oo 3 (.move (tq 25) false),
   oo 4 (.move (tq 26) true)])
 (.seq (.mask (bl 28 33) (bl 6975254559 33))
 .ret))
 .skip))
 (.seq (.reg [oo 27 (.move (tq 5) true),
   oo 28 (.load true 3 (tq 8) false),
   oo 29 (.buildSlice 3 1 [(.sc (.int .i64 0)),(.sc (.int .i64 0)),(.sl 1 [])] [(0,3,(tq 28))]),
   oo 30 (.append 3 40 (tq 27) (tq 29)),
   oo 5 (.move (tq 30) true)])
 (.reg [oo 31 (.move (tq 10) false),
   oo 32 (.move (tq 9) true),
   oo 7 (.move (tq 31) false),
   oo 6 (.move (tq 32) true)])))))
def zeq:CF:=⟨33,[.tmp 2,.tmp 3,.tmp 4],
 (.seq (.reg [oo 2 (.move (.const (.gs 3 [])) true),
   oo 3 (.move (.const (.sc (.int .i64 0))) false),
   oo 4 (.move (.const (.gs 1 [])) true)])
 (.seq (.reg [oo 5 (.move (.const (.gs 3 [])) true)])
 (.seq (.reg [oo 12 (.buildSlice 1 4 [(.sc (.int .u8 0))] [(0,1,(.const (.sc (.int .u8 0)))),(1,1,(.const (.sc (.int .u8 0)))),(2,1,(.const (.sc (.int .u8 0)))),(3,1,(.const (.sc (.int .u8 0))))]),
   oo 6 (.move (tq 12) true)])
 (.seq (.reg [oo 7 (.move (.const (.sc (.int .i64 0))) false)])
 (.block 0 (.loop (bl 225 33) (bl 6975254755 33)
 zdU))))))⟩
def zqx:Hint:=⟨[(0,0),(0,2),(1,0),(2,1),(4,4),(4,6),(4,9),(4,11),(6,0),(6,2),(6,3),(6,5),(7,0),(7,4),(8,1),(8,3)],[],[none,some ((bl 225 33),(bl 6975254755 33)),none,none,some ((bl 28 33),(bl 6975254559 33))],[],[],false,false⟩
def zdg:Nat→Sh:=yV []
def zdf (yv:zaT) (L:Nat):CBC:=(xB 660 (zkC yv L) noC)
def zge:St→St:=zZ 0 (bl 225 33) (bl 6975254755 33)
def zeI (p0 p5 p6:List (List V)) (p7:Int):St:=⟨((V.sl 1 p0)::(jn 4 ((V.gs 3 p5)::((V.gs 1 p6)::((V.sc (.int .i64 p7))::(jn 25 [])))))),(gn 33 [])⟩
def zjF (p2:List (List V)) (p3:Int) (p4:List (List V)):St:=⟨(jn 2 ((V.gs 3 p2)::((V.sc (.int .i64 p3))::((V.gs 1 p4)::(jn 28 []))))),(gn 33 [])⟩
abbrev znN (β:Type):Type:=List (List V)→List (List V)→List (List V)→Int→Option β
def zpX {β:Type} (yv:zaT) (L:Nat) (p0:List (List V)) (k_hbbbba:znN β):Option β :=
 k_hbbbba p0 ([]:List (List V)) (zh 1 4 [(V.sc (.int .u8 (0:Int))),(V.sc (.int .u8 (0:Int))),(V.sc (.int .u8 (0:Int))),(V.sc (.int .u8 (0:Int)))]) (0:Int)
theorem zwX {β:Type} (yv:zaT) (L:Nat) (p0:List (List V)) (k:KK β):zw zdg (zdf yv L) L zeq [(V.sl 1 p0)] [] k=zpX yv L p0 (fun p0 p5 p6 p7=>zz (xk zdg (zdf yv L) 0 L zdU) zge L (zeI p0 p5 p6 p7) (yA 0 (yP 0 (CF.res zeq) k))):=by kernel_rfl
def zj2 {β:Type} (yv:zaT) (L:Nat) (p0 p5 p6:List (List V)) (p7:Int) (k_ret:List (List V)→Int→List (List V)→Option β) (k_hbbbba:znN β):Option β :=
 yv β L p0 p7 p6 (fun v0 v1 v2 v3 =>
 chk ((List.length v0)=3∧0+3≤3) (
 lt (zr [(V.sc (.int .i64 (0:Int))),(V.sc (.int .i64 (0:Int))),(V.gs 1 ([]:List (List V)))] 0 v0) fun r4 =>
 ifb (!v3) (
 k_ret p5 p7 p6) (
 chk (0+3≤(List.length r4)) (
 chk ((List.length (List.take 3 r4))=3∧0+3≤3) (
 chk ((List.length p5+List.length (zh 3 1 (zr [(V.sc (.int .i64 (0:Int))),(V.sc (.int .i64 (0:Int))),(V.sl 1 ([]:List (List V)))] 0 (List.take 3 r4)))) * 40≤xj∧List.length p5+List.length (zh 3 1 (zr [(V.sc (.int .i64 (0:Int))),(V.sc (.int .i64 (0:Int))),(V.sl 1 ([]:List (List V)))] 0 (List.take 3 r4)))≤xj) (
 lt (p5++(zh 3 1 (zr [(V.sc (.int .i64 (0:Int))),(V.sc (.int .i64 (0:Int))),(V.sl 1 ([]:List (List V)))] 0 (List.take 3 r4)))) fun l5 =>
 k_hbbbba p0 l5 v1 v2))))))
theorem zr9 {β:Type} (yv:zaT) (L:Nat) (p0 p5 p6:List (List V)) (p7:Int) (X:St→Option β) (K:KT β):xk zdg (zdf yv L) 0 L zdU (zeI p0 p5 p6 p7) (zaJ zge X K)=zj2 yv L p0 p5 p6 p7 (fun p2 p3 p4=>K .ret (zjF p2 p3 p4)) (fun p0 p5 p6 p7=>X (zeI p0 p5 p6 p7)):=by kernel_rfl
def zmj {β:Type} (yv:zaT) (L:Nat) (p2:List (List V)) (p3:Int) (p4:List (List V)) (k_fin:List (List V)→Int→List (List V)→Option β):Option β :=
 k_fin p2 p3 p4
theorem zp2 {β:Type} (yv:zaT) (L:Nat) (p2:List (List V)) (p3:Int) (p4:List (List V)) (k:KK β):(yA 0 (yP 0 (CF.res zeq) k)) .ret (zjF p2 p3 p4)=zmj yv L p2 p3 p4 (fun zHt zHu zHz=>k (V.tup [(V.gs 3 zHt),(V.sc (.int .i64 zHu)),(V.gs 1 zHz)]) []):=by kernel_rfl
def zeE {β:Type} (yv:zaT) (L:Nat) (k_ret:List (List V)→Int→List (List V)→Option β):Nat→List (List V)→List (List V)→List (List V)→Int→Option β
 | 0,_,_,_,_=>none
 | n+1,p0,p5,p6,p7=>zj2 yv L p0 p5 p6 p7 k_ret (fun p0 p5 p6 p7=>zeE yv L k_ret n p0 p5 p6 p7)
theorem zmf {β:Type} (yv:zaT) (L:Nat) (K:KT β):∀ (n:Nat) (p0 p5 p6:List (List V)) (p7:Int),zz (xk zdg (zdf yv L) 0 L zdU) zge n (zeI p0 p5 p6 p7) K=zeE yv L (fun p2 p3 p4=>K .ret (zjF p2 p3 p4)) n p0 p5 p6 p7:=by
 intro n
 induction n with
 | zero=>intros; rfl
 | succ n ih =>
  intro p0 p5 p6 p7
  refine (zr9 yv L p0 p5 p6 p7 (fun σ=>zz (xk zdg (zdf yv L) 0 L zdU) zge n σ K) K).trans ?_
  simp only [ih]
  rfl
def zlx {β:Type} (yv:zaT) (L:Nat) (p0:List (List V)) (k_fin:List (List V)→Int→List (List V)→Option β):Option β :=
 zpX yv L p0 (fun p0 p5 p6 p7=>zeE yv L (fun p2 p3 p4=>zmj yv L p2 p3 p4 k_fin) L p0 p5 p6 p7)
theorem zxn {β:Type} (yv:zaT) (L:Nat) (p0:List (List V)) (k:KK β):zw zdg (zdf yv L) L zeq [(V.sl 1 p0)] [] k=zlx yv L p0 (fun zHt zHu zHz=>k (V.tup [(V.gs 3 zHt),(V.sc (.int .i64 zHu)),(V.gs 1 zHz)]) []):=by
 refine (zwX yv L p0 k).trans ?_
 unfold zlx
 first
  | (simp only [zmf,zp2]; done)
  | (simp only [zmf]; rfl)
abbrev zcl:=∀ (β:Type),Nat→List (List V)→(List (List V)→Int→List (List V)→Option β)→Option β
def xy (β:Type) (L:Nat) (p0:List (List V)) (k_fin:List (List V)→Int→List (List V)→Option β):Option β:=zlx yv L p0 k_fin
def zgC (xy:zcl) (L:Nat) (β:Type) (args:List V) (bor:Bor) (k:KK β):Option β:=match args,bor with
 | [a0],[]=>aL 1 a0 fun p0=>xy β L p0 (fun zHt zHu zHz=>k (V.tup [(V.gs 3 zHt),(V.sc (.int .i64 zHu)),(V.gs 1 zHz)]) [])
 | _,_=>none
theorem zwV (L:Nat) (β:Type) (args:List V) (bor:Bor) (k:KK β) (r:β) (h:zgC xy L β args bor k=some r):zw zdg (zdf yv L) L zeq args bor k=some r:=by
 unfold zgC at h
 split at h
 ·have q:=zP h; clear h; obtain ⟨p0,rfl,h⟩:=q
  exact (zxn yv L p0 k).trans h
 ·cases h
def zc2:CC:=(.seq (.reg [oo 12 (.bin .lss (tq 11) (tq 10))])
 (.seq (.cond (tq 12)
 .skip
 (.seq (.mask (bl 32 24) (bl 16777151 24))
 (.exit 0)))
 (.seq (.block 1 (.seq (.reg [oo 13 (.move (tq 11) false),
   oo 6 (.move (tq 13) false)])
 (.reg [oo 14 (.move (tq 5) false),
   oo 15 (.move (tq 6) false),
   oo 16 (.move (tq 0) false),
   oo 17 (.move (tq 6) false),
   oo 18 (.bin .mul (.const (.sc (.int .i64 8))) (tq 17)),
   oo 19 (.bin .shr (tq 16) (tq 18)),
   oo 20 (.conv .u8 (tq 19)),
   oo 21 (.indexAddrS 1 (tq 14) (tq 15)),
   oz (.store 1 (tq 21) (tq 20))])))
 (.reg [oo 22 (.bin .add (tq 11) (.const (.sc (.int .i64 1)))),
   oo 11 (.move (tq 22) false)]))))
def zjD:CC:=(.seq (.reg [oo 23 (.move (tq 5) true),
   oo 4 (.move (tq 23) true)])
 .ret)
def zc4:CF:=⟨24,[.tmp 4],
 (.seq (.reg [oo 4 (.move (.const (.gs 1 [])) true)])
 (.seq (.reg [oo 7 (.move (tq 1) false),
   ⟨(some 8),true,none,.makeSlice 1 1 [(.sc (.int .u8 0))] (tq 7) (tq 7)⟩,
   oo 5 (.move (tq 8) true)])
 (.seq (.seq (.reg [oo 9 (.move (tq 5) false),
   oo 10 (.lenS (tq 9)),
   oo 11 (.move (.const (.sc (.int .i64 0))) false)])
 (.block 0 (.loop (bl 3105 24) (bl 16777151 24)
 zc2)))
 zjD)))⟩
def zoG:Hint:=⟨[(0,0),(1,2),(7,0),(7,1)],[(1,1)],[none,some ((bl 3105 24),(bl 16777151 24)),none,some ((bl 32 24),(bl 16777151 24)),none,none],[],[],false,false⟩
def za4:Nat→Sh:=yV []
def za5 (L:Nat):CBC:=noC
def zfo:St→St:=zZ 0 (bl 3105 24) (bl 16777151 24)
def zdJ (p0:Int) (p5l:Nat) (p10 p11:Int) (b8:List V):St:=⟨((V.sc (.int .u64 p0))::(jn 4 ((V.own 8 0 p5l 1)::(jn 4 ((V.sc (.int .i64 p10))::((V.sc (.int .i64 p11))::(jn 12 []))))))),(gn 8 ((.live true b8)::(gn 15 [])))⟩
def ziU (p5l:Nat) (b8:List V):St:=⟨(jn 5 ((V.own 8 0 p5l 1)::(jn 18 []))),(gn 8 ((.live true b8)::(gn 15 [])))⟩
def zr1 {β:Type} (L:Nat) (p0 p1:Int) (k_hbbaba:Int→Nat→Int→Int→List V→Option β):Option β :=
 chk (0≤p1∧p1≤p1∧(Int.toNat p1) * 1≤xj∧p1≤xj) (
 k_hbbaba p0 (Int.toNat p1) (((Int.toNat p1):Nat):Int) (0:Int) (List.flatten (List.replicate (Int.toNat p1) [(V.sc (.int .u8 (0:Int)))])))
theorem zvi {β:Type} (L:Nat) (p0 p1:Int) (k:KK β):zw za4 (za5 L) L zc4 [(V.sc (.int .u64 p0)),(V.sc (.int .i64 p1))] [] k=zr1 L p0 p1 (fun p0 p5l p10 p11 b8=>zz (xk za4 (za5 L) 0 L zc2) zfo L (zdJ p0 p5l p10 p11 b8) (yA 0 (xO (xk za4 (za5 L) 0 L zjD) (yP 0 (CF.res zc4) k)))):=by kernel_rfl
def zmE {β:Type} (L:Nat) (p0:Int) (p5l:Nat) (p10 p11:Int) (b8:List V) (k_hbbaba:Int→Nat→Int→Int→List V→Option β) (k_x0:Nat→List V→Option β):Option β :=
 ifb (decide (p11 < p10)) (
 lt (IntKind.wrap .i64 (((8:Int):Int) * p11)) fun x0 =>
 chk (0≤x0) (
 lt (zco .u64 p0 x0) fun x1 =>
 lt (IntKind.wrap .u8 x1) fun x2 =>
 chk (0≤p11∧p11 < ((p5l:Nat):Int)) (
 chk (1=1∧(0+((Int.toNat p11) * 1))+1≤(List.length b8)) (
 lt (zr b8 (0+((Int.toNat p11) * 1)) [(V.sc (.int .u8 x2))]) fun r3 =>
 lt (IntKind.wrap .i64 ((p11:Int)+(1:Int))) fun x4 =>
 k_hbbaba p0 p5l p10 x4 r3)))) (
 k_x0 p5l b8)
theorem zri {β:Type} (L:Nat) (p0:Int) (p5l:Nat) (p10 p11:Int) (b8:List V) (X:St→Option β) (K:KT β):xk za4 (za5 L) 0 L zc2 (zdJ p0 p5l p10 p11 b8) (zaJ zfo X K)=zmE L p0 p5l p10 p11 b8 (fun p0 p5l p10 p11 b8=>X (zdJ p0 p5l p10 p11 b8)) (fun p5l b8=>K (.exit 0) (ziU p5l b8)):=by kernel_rfl
def zld {β:Type} (L:Nat) (p5l:Nat) (b8:List V) (k_fin:List (List V)→Option β):Option β :=
 chk (p5l≠0∨(List.length b8)=0) (
 k_fin (zh 1 p5l b8))
theorem zpd {β:Type} (L:Nat) (p5l:Nat) (b8:List V) (k:KK β):(yA 0 (xO (xk za4 (za5 L) 0 L zjD) (yP 0 (CF.res zc4) k))) (.exit 0) (ziU p5l b8)=zld L p5l b8 (fun p0=>k (V.fr 1 p0) []):=by kernel_rfl
def zhK {β:Type} (L:Nat) (k_x0:Nat→List V→Option β):Nat→Int→Nat→Int→Int→List V→Option β
 | 0,_,_,_,_,_=>none
 | n+1,p0,p5l,p10,p11,b8=>zmE L p0 p5l p10 p11 b8 (fun p0 p5l p10 p11 b8=>zhK L k_x0 n p0 p5l p10 p11 b8) k_x0
theorem zkm {β:Type} (L:Nat) (K:KT β):∀ (n:Nat) (p0:Int) (p5l:Nat) (p10 p11:Int) (b8:List V),zz (xk za4 (za5 L) 0 L zc2) zfo n (zdJ p0 p5l p10 p11 b8) K=zhK L (fun p5l b8=>K (.exit 0) (ziU p5l b8)) n p0 p5l p10 p11 b8:=by
 intro n
 induction n with
 | zero=>intros; rfl
 | succ n ih =>
  intro p0 p5l p10 p11 b8
  refine (zri L p0 p5l p10 p11 b8 (fun σ=>zz (xk za4 (za5 L) 0 L zc2) zfo n σ K) K).trans ?_
  simp only [ih]
  rfl
def zmS {β:Type} (L:Nat) (p0 p1:Int) (k_fin:List (List V)→Option β):Option β :=
 zr1 L p0 p1 (fun p0 p5l p10 p11 b8=>zhK L (fun p5l b8=>zld L p5l b8 k_fin) L p0 p5l p10 p11 b8)
theorem zuS {β:Type} (L:Nat) (p0 p1:Int) (k:KK β):zw za4 (za5 L) L zc4 [(V.sc (.int .u64 p0)),(V.sc (.int .i64 p1))] [] k=zmS L p0 p1 (fun p0=>k (V.fr 1 p0) []):=by
 refine (zvi L p0 p1 k).trans ?_
 unfold zmS
 first
  | (simp only [zkm,zpd]; done)
  | (simp only [zkm]; rfl)
abbrev zi3:=∀ (β:Type),Nat→Int→Int→(List (List V)→Option β)→Option β
def zV (β:Type) (L:Nat) (p0 p1:Int) (k_fin:List (List V)→Option β):Option β:=zmS L p0 p1 k_fin
def zje (zV:zi3) (L:Nat) (β:Type) (args:List V) (bor:Bor) (k:KK β):Option β:=match args,bor with
 | [a0,a1],[]=>aI .u64 a0 fun p0=>aI .i64 a1 fun p1=>zV β L p0 p1 (fun p0=>k (V.fr 1 p0) [])
 | _,_=>none
theorem zva (L:Nat) (β:Type) (args:List V) (bor:Bor) (k:KK β) (r:β) (h:zje zV L β args bor k=some r):zw za4 (za5 L) L zc4 args bor k=some r:=by
 unfold zje at h
 split at h
 ·have q:=xR h; clear h; obtain ⟨p0,rfl,h⟩:=q
  have q:=xR h; clear h; obtain ⟨p1,rfl,h⟩:=q
  exact (zuS L p0 p1 k).trans h
 ·cases h
def zfM:CF:=⟨10,[.tmp 4],
 (.seq (.reg [oo 4 (.move (.const (.gs 1 [])) true)])
 (.seq (.reg [oo 5 (.move (tq 0) false),
   oo 6 (.move (tq 1) false),
   oo 7 (.conv .u64 (tq 6)),
   oo 8 (.call 194 [((tq 7),0),((.const (.sc (.int .i64 4))),0)] []),
   oo 9 (.call 193 [((tq 5),0),((tq 8),0)] []),
   oo 4 (.move (tq 9) true)])
 .ret))⟩
def zlw:Hint:=⟨[(0,0),(1,5)],[],[none],[],[],false,false⟩
def ziw:Nat→Sh:=yV []
def ziv (zV:zi3) (ym:zX) (L:Nat):CBC:=(xB 193 (zgz ym L) (xB 194 (zje zV L) noC))
def zjR {β:Type} (zV:zi3) (ym:zX) (L:Nat) (p0:List (List V)) (p1:Int) (k_fin:List (List V)→Option β):Option β :=
 lt (IntKind.wrap .u64 p1) fun x0 =>
 zV β L x0 (4:Int) (fun v1 =>
 ym β L p0 v1 (fun v2 =>
 k_fin v2))
theorem zsI {β:Type} (zV:zi3) (ym:zX) (L:Nat) (p0:List (List V)) (p1:Int) (k:KK β):zw ziw (ziv zV ym L) L zfM [(V.sl 1 p0),(V.sc (.int .u32 p1))] [] k=zjR zV ym L p0 p1 (fun p0=>k (V.gs 1 p0) []):=by kernel_rfl
abbrev zgt:=∀ (β:Type),Nat→List (List V)→Int→(List (List V)→Option β)→Option β
def yJ (β:Type) (L:Nat) (p0:List (List V)) (p1:Int) (k_fin:List (List V)→Option β):Option β:=zjR zV ym L p0 p1 k_fin
def zgm (yJ:zgt) (L:Nat) (β:Type) (args:List V) (bor:Bor) (k:KK β):Option β:=match args,bor with
 | [a0,a1],[]=>aL 1 a0 fun p0=>aI .u32 a1 fun p1=>yJ β L p0 p1 (fun p0=>k (V.gs 1 p0) [])
 | _,_=>none
theorem zsB (L:Nat) (β:Type) (args:List V) (bor:Bor) (k:KK β) (r:β) (h:zgm yJ L β args bor k=some r):zw ziw (ziv zV ym L) L zfM args bor k=some r:=by
 unfold zgm at h
 split at h
 ·have q:=zP h; clear h; obtain ⟨p0,rfl,h⟩:=q
  have q:=xR h; clear h; obtain ⟨p1,rfl,h⟩:=q
  exact (zsI zV ym L p0 p1 k).trans h
 ·cases h
def zh0:CF:=⟨54,[.tmp 4,.tmp 5],
 (.seq (.reg [oo 3 (.box true (tq 1)),
   oo 4 (.move (.const (.gs 1 [])) true),
   oo 5 (.move (.const (.sc (.int .i64 0))) false)])
 (.seq (.seq (.reg [oo 10 (.load true 3 (tq 3) false),
   oo 11 (.call 657 [((tq 10),1)] []),
   oo 12 (.un .not (tq 11))])
 (.cond (tq 12)
 (.seq (.reg [oo 4 (.move (.const (.gs 1 [])) true),
   oo 5 (.move (.const (.sc (.int .i64 6))) false)])
 .ret)
 .skip))
 (.seq (.reg [oo 14 (.move (tq 0) false),
   oo 15 (.call 658 [((tq 14),0)] []),
   oo 13 (.move (tq 15) true),
   oo 16 (.extract (tq 13) 0),
   oo 17 (.pull (tq 13) 1),
   oo 18 (.extract (tq 13) 2),
   oo 6 (.move (tq 16) false),
   oo 7 (.move (tq 17) false),
   oo 8 (.move (tq 18) false)])
 (.seq (.seq (.reg [oo 19 (.move (tq 7) false),
   oo 20 (.bin .add (tq 19) (.const (.sc (.int .i64 13)))),
   oo 21 (.fieldAddr 2 (tq 3)),
   oo 22 (.load false 1 (tq 21) false),
   oo 23 (.lenS (tq 22)),
   oo 24 (.bin .add (tq 20) (tq 23)),
   oo 25 (.bin .gtr (tq 24) (.const (.sc (.int .i64 1048576))))])
 (.cond (tq 25)
 (.seq (.reg [oo 4 (.move (.const (.gs 1 [])) true),
   oo 5 (.move (.const (.sc (.int .i64 4))) false)])
 .ret)
 .skip))
 (.seq (.dreg [] [(oo 26 (.fieldAddr 2 (tq 3)),q0),
   (oo 27 (.load false 1 (tq 26) false),ql 3 [] [34]),
   (oo 28 (.lenS (tq 27)),q0),
   (oo 29 (.conv .u32 (tq 28)),q0),
   (oo 30 (.call 159 [((.const (.gs 1 [])),0),((tq 29),0)] []),qc [3] [34]),
   (oo 31 (.fieldAddr 0 (tq 3)),q0),
   (oo 32 (.load false 1 (tq 31) false),ql 3 [] []),
   (oo 33 (.conv .u8 (tq 32)),q0),
   (oo 34 (.buildSlice 1 1 [(.sc (.int .u8 0))] [(0,1,(tq 33))]),qn [3] []),
   (oo 35 (.append 1 1 (tq 30) (tq 34)),q0),
   (oo 9 (.move (tq 35) false),q0)])
 (.seq (.dreg [] [(oo 36 (.move (tq 9) false),q0),
   (oo 37 (.fieldAddr 1 (tq 3)),q0),
   (oo 38 (.load false 1 (tq 37) false),ql 3 [] []),
   (oo 39 (.conv .u32 (tq 38)),q0),
   (oo 40 (.call 159 [((tq 36),0),((tq 39),0)] []),qc [3] []),
   (oo 41 (.fieldAddr 2 (tq 3)),q0),
   (oo 42 (.load false 1 (tq 41) false),ql 3 [] []),
   (oo 43 (.buildSlice 1 2 [(.sl 1 [])] [(0,1,(tq 40)),(1,1,(tq 42))]),q0),
   (oo 44 (.call 453 [((tq 43),0)] []),q0),
   (oo 9 (.move (tq 44) false),q0)])
 (.seq (.dreg [] [(oo 45 (.move (tq 0) true),qc [] []),
   (oo 46 (.move (tq 7) false),q0),
   (oo 47 (.sliceS 1 (tq 45) none (some (tq 46)) none),q0),
   (oo 48 (.move (tq 9) false),q0),
   (oo 49 (.move (tq 8) false),q0),
   (oo 50 (.move (tq 9) false),q0),
   (oo 51 (.call 659 [((tq 49),0),((tq 50),0)] []),qc [] []),
   (oo 52 (.buildSlice 1 3 [(.sl 1 [])] [(0,1,(tq 47)),(1,1,(tq 48)),(2,1,(tq 51))]),q0),
   (oo 53 (.call 453 [((tq 52),0)] []),q0),
   (oo 4 (.move (tq 53) true),q0),
   (oo 5 (.move (.const (.sc (.int .i64 0))) false),q0)])
 .ret)))))))⟩
def zou:Hint:=⟨[(0,0),(0,1),(2,0),(3,2),(3,3),(3,5),(5,0),(8,0),(8,9)],[],[none,none,none,none,none],[],[],false,false⟩
def zlW:Nat→Sh:=yV [(22,(.sl 1)),(27,(.sl 1)),(32,(.int .i64)),(38,(.int .i64)),(42,(.sl 1))]
def zlC (zf:xE) (xy:zcl) (yJ:zgt) (xa:zk) (zF:zen) (L:Nat):CBC:=(xB 659 (zhq zF L) (xB 453 (zdS xa L) (xB 159 (zgm yJ L) (xB 658 (zgC xy L) (xB 657 (zfC zf L) noC)))))
def zne {β:Type} (zf:xE) (xy:zcl) (yJ:zgt) (xa:zk) (zF:zen) (L:Nat) (p0:List (List V)) (p1:List V) (k_fin:List (List V)→Int→Option β):Option β :=
 chk (0+3≤(List.length p1)) (
 zf β L (List.map V.dem (List.take 3 p1)) (fun v0 =>
 ifb (!v0) (
 k_fin ([]:List (List V)) (6:Int)) (
 xy β L p0 (fun v1 v2 v3 =>
 lt (IntKind.wrap .i64 ((v2:Int)+(13:Int))) fun x4 =>
 cLd 1 p1 2 fun v5 =>
 lt (IntKind.wrap .i64 ((x4:Int)+((List.length v5:Nat):Int))) fun x6 =>
 ifb (decide (x6 > (1048576:Int))) (
 k_fin ([]:List (List V)) (4:Int)) (
 cLd 1 p1 2 fun v7 =>
 lt (IntKind.wrap .u32 ((List.length v7:Nat):Int)) fun x8 =>
 yJ β L ([]:List (List V)) x8 (fun v9 =>
 cI .i64 p1 0 fun v10 =>
 lt (IntKind.wrap .u8 v10) fun x11 =>
 chk ((List.length v9+List.length (zh 1 1 [(V.sc (.int .u8 x11))])) * 1≤xj∧List.length v9+List.length (zh 1 1 [(V.sc (.int .u8 x11))])≤xj) (
 lt (v9++(zh 1 1 [(V.sc (.int .u8 x11))])) fun l12 =>
 cI .i64 p1 1 fun v13 =>
 lt (IntKind.wrap .u32 v13) fun x14 =>
 yJ β L l12 x14 (fun v15 =>
 cLd 1 p1 2 fun v16 =>
 xa β L (zh 1 2 [(V.sl 1 v15),(V.sl 1 v16)]) (fun v17 =>
 chk (0≤v2∧v2≤(((List.length p0):Nat):Int)) (
 zF β L v3 v17 (fun v18 =>
 xa β L (zh 1 3 [(V.sl 1 (List.take ((Int.toNat v2) - 0) (List.drop 0 p0))),(V.sl 1 v17),(V.sl 1 v18)]) (fun v19 =>
 k_fin v19 (0:Int)))))))))))))
theorem zvl {β:Type} (zf:xE) (xy:zcl) (yJ:zgt) (xa:zk) (zF:zen) (L:Nat) (p0:List (List V)) (p1:List V) (k:KK β):zw zlW (zlC zf xy yJ xa zF L) L zh0 [(V.sl 1 p0),(V.agg p1)] [] k=zne zf xy yJ xa zF L p0 p1 (fun zHt zHu=>k (V.tup [(V.gs 1 zHt),(V.sc (.int .i64 zHu))]) []):=by kernel_rfl
abbrev yG:=∀ (β:Type),Nat→List (List V)→List V→(List (List V)→Int→Option β)→Option β
def zi (β:Type) (L:Nat) (p0:List (List V)) (p1:List V) (k_fin:List (List V)→Int→Option β):Option β:=zne zf xy yJ xa zF L p0 p1 k_fin
def zgJ (zi:yG) (L:Nat) (β:Type) (args:List V) (bor:Bor) (k:KK β):Option β:=match args,bor with
 | [a0,a1],[]=>aL 1 a0 fun p0=>aG a1 fun p1=>zi β L p0 p1 (fun zHt zHu=>k (V.tup [(V.gs 1 zHt),(V.sc (.int .i64 zHu))]) [])
 | _,_=>none
theorem zu1 (L:Nat) (β:Type) (args:List V) (bor:Bor) (k:KK β) (r:β) (h:zgJ zi L β args bor k=some r):zw zlW (zlC zf xy yJ xa zF L) L zh0 args bor k=some r:=by
 unfold zgJ at h
 split at h
 ·have q:=zP h; clear h; obtain ⟨p0,rfl,h⟩:=q
  have q:=zgK h; clear h; obtain ⟨p1,rfl,h⟩:=q
  exact (zvl zf xy yJ xa zF L p0 p1 k).trans h
 ·cases h
def zcp:CC:=(.seq (.seq (.reg [oo 15 (.move (tq 9) false),
   oo 16 (.bin .gtr (tq 15) (.const (.sc (.int .i64 0))))])
 (.cond (tq 16)
 .skip
 (.seq (.mask (bl 448 39) (bl 487897168383 39))
 (.exit 0))))
 (.seq (.block 1 (.seq (.reg [oo 19 (.move (tq 5) false),
   oo 20 (.call 651 [((tq 19),0)] []),
   oo 10 (.alloc true [(.sc (.int .i64 0)),(.sc (.int .i64 0)),(.gs 1 [])]),
   oz (.store 3 (tq 10) (tq 20))])
 (.seq (.reg [oo 22 (.move (tq 6) false),
   oo 23 (.load true 3 (tq 10) false),
   oo 24 (.call 652 [((tq 22),0),((tq 23),1)] []),
   oo 21 (.move (tq 24) true),
   oo 25 (.extract (tq 21) 0),
   oo 26 (.pull (tq 21) 1),
   oo 6 (.move (tq 25) true)])
 (.reg [oo 27 (.move (tq 7) true),
   oo 28 (.load true 3 (tq 10) false),
   oo 29 (.buildSlice 3 1 [(.sc (.int .i64 0)),(.sc (.int .i64 0)),(.sl 1 [])] [(0,3,(tq 28))]),
   oo 30 (.append 3 40 (tq 27) (tq 29)),
   oo 31 (.move (tq 8) true),
   oo 32 (.move (tq 6) false),
   oo 33 (.lenS (tq 32)),
   oo 34 (.buildSlice 1 1 [(.sc (.int .i64 0))] [(0,1,(tq 33))]),
   oo 35 (.append 1 8 (tq 31) (tq 34)),
   oo 7 (.move (tq 30) true),
   oo 8 (.move (tq 35) true)]))))
 (.reg [oo 17 (.move (tq 9) false),
   oo 18 (.bin .sub (tq 17) (.const (.sc (.int .i64 1)))),
   oo 9 (.move (tq 18) false)])))
def zhT:CC:=(.seq (.reg [oo 36 (.move (tq 6) true),
   oo 37 (.move (tq 7) true),
   oo 38 (.move (tq 8) true),
   oo 2 (.move (tq 36) true),
   oo 3 (.move (tq 37) true),
   oo 4 (.move (tq 38) true)])
 .ret)
def zdy:CF:=⟨39,[.tmp 2,.tmp 3,.tmp 4],
 (.seq (.reg [oo 2 (.move (.const (.gs 1 [])) true),
   oo 3 (.move (.const (.gs 3 [])) true),
   oo 4 (.move (.const (.gs 1 [])) true)])
 (.seq (.reg [oo 11 (.move (tq 0) false),
   oo 12 (.call 225 [((tq 11),0)] []),
   oo 5 (.move (tq 12) false)])
 (.seq (.reg [oo 6 (.move (.const (.gs 1 [])) true)])
 (.seq (.reg [oo 7 (.move (.const (.gs 3 [])) true)])
 (.seq (.reg [oo 8 (.move (.const (.gs 1 [])) true)])
 (.seq (.seq (.reg [oo 13 (.move (tq 5) false),
   oo 14 (.call 231 [((tq 13),0),((.const (.sc (.int .i64 7))),0)] []),
   oo 9 (.move (tq 14) false)])
 (.block 0 (.loop (bl 992 39) (bl 487897168895 39)
 zcp)))
 zhT))))))⟩
def zpI:Hint:=⟨[(0,0),(0,1),(0,2),(2,0),(3,0),(4,0),(8,2),(9,3),(9,4),(9,6),(10,0),(10,4),(10,9),(10,10),(11,0),(11,1),(11,2),(11,3),(11,4),(11,5)],[],[none,some ((bl 992 39),(bl 487897168895 39)),none,some ((bl 448 39),(bl 487897168383 39)),none,none],[],[],false,false⟩
def zbr:Nat→Sh:=yV []
def zbm (yf:yw) (ya:yj) (xc:yp) (zi:yG) (L:Nat):CBC:=(xB 652 (zgJ zi L) (xB 651 (zfB xc L) (xB 231 (zcz ya L) (xB 225 (zjw yf L) noC))))
def zef:St→St:=zZ 0 (bl 992 39) (bl 487897168895 39)
def zc0 (p6 p7 p8:List (List V)) (p9:Int) (zHr:List (List V)) (zHs:Int):St:=⟨(jn 5 ((V.ptr 12 0)::((V.gs 1 p6)::((V.gs 3 p7)::((V.gs 1 p8)::((V.sc (.int .i64 p9))::(jn 29 []))))))),(gn 12 ((.live false [(V.sl 1 zHr),(V.sc (.int .i64 zHs))])::(gn 26 [])))⟩
def zjH (p6 p7 p8 zHr:List (List V)) (zHs:Int):St:=⟨(jn 6 ((V.gs 1 p6)::((V.gs 3 p7)::((V.gs 1 p8)::(jn 30 []))))),(gn 12 ((.live false [(V.sl 1 zHr),(V.sc (.int .i64 zHs))])::(gn 26 [])))⟩
abbrev zko (β:Type):Type:=List (List V)→List (List V)→List (List V)→Int→List (List V)→Int→Option β
abbrev zlr (β:Type):Type:=List (List V)→List (List V)→List (List V)→List (List V)→Int→Option β
def zor {β:Type} (yf:yw) (ya:yj) (xc:yp) (zi:yG) (L:Nat) (p0:List (List V)) (k_hbbbbbaba:zko β):Option β :=
 yf β L p0 (fun v0 v1 =>
 ya β L (7:Int) v0 v1 (fun v2 v3 v4 =>
 k_hbbbbbaba ([]:List (List V)) ([]:List (List V)) ([]:List (List V)) v2 v3 v4))
theorem zv9 {β:Type} (yf:yw) (ya:yj) (xc:yp) (zi:yG) (L:Nat) (p0:List (List V)) (k:KK β):zw zbr (zbm yf ya xc zi L) L zdy [(V.sl 1 p0)] [] k=zor yf ya xc zi L p0 (fun p6 p7 p8 p9 zHr zHs=>zz (xk zbr (zbm yf ya xc zi L) 0 L zcp) zef L (zc0 p6 p7 p8 p9 zHr zHs) (yA 0 (xO (xk zbr (zbm yf ya xc zi L) 0 L zhT) (yP 0 (CF.res zdy) k)))):=by kernel_rfl
def zd8 {β:Type} (yf:yw) (ya:yj) (xc:yp) (zi:yG) (L:Nat) (p6 p7 p8:List (List V)) (p9:Int) (zHr:List (List V)) (zHs:Int) (k_hbbbbbaba:zko β) (k_x0:zlr β):Option β :=
 ifb (decide (p9 > (0:Int))) (
 xc β L zHr zHs (fun v5 v6 v7 =>
 chk ((List.length v5)=3∧0+3≤3) (
 lt (zr [(V.sc (.int .i64 (0:Int))),(V.sc (.int .i64 (0:Int))),(V.gs 1 ([]:List (List V)))] 0 v5) fun r8 =>
 chk (0+3≤(List.length r8)) (
 zi β L p6 (List.map V.dem (List.take 3 r8)) (fun v9 v10 =>
 chk (0+3≤(List.length r8)) (
 chk ((List.length (List.take 3 r8))=3∧0+3≤3) (
 chk ((List.length p7+List.length (zh 3 1 (zr [(V.sc (.int .i64 (0:Int))),(V.sc (.int .i64 (0:Int))),(V.sl 1 ([]:List (List V)))] 0 (List.take 3 r8)))) * 40≤xj∧List.length p7+List.length (zh 3 1 (zr [(V.sc (.int .i64 (0:Int))),(V.sc (.int .i64 (0:Int))),(V.sl 1 ([]:List (List V)))] 0 (List.take 3 r8)))≤xj) (
 lt (p7++(zh 3 1 (zr [(V.sc (.int .i64 (0:Int))),(V.sc (.int .i64 (0:Int))),(V.sl 1 ([]:List (List V)))] 0 (List.take 3 r8)))) fun l11 =>
 chk ((List.length p8+List.length (zh 1 1 [(V.sc (.int .i64 ((List.length v9:Nat):Int)))])) * 8≤xj∧List.length p8+List.length (zh 1 1 [(V.sc (.int .i64 ((List.length v9:Nat):Int)))])≤xj) (
 lt (p8++(zh 1 1 [(V.sc (.int .i64 ((List.length v9:Nat):Int)))])) fun l12 =>
 lt (IntKind.wrap .i64 ((p9:Int) - (1:Int))) fun x13 =>
 k_hbbbbbaba v9 l11 l12 x13 v6 v7))))))))) (
 k_x0 p6 p7 p8 zHr zHs)
theorem zpz {β:Type} (yf:yw) (ya:yj) (xc:yp) (zi:yG) (L:Nat) (p6 p7 p8:List (List V)) (p9:Int) (zHr:List (List V)) (zHs:Int) (X:St→Option β) (K:KT β):xk zbr (zbm yf ya xc zi L) 0 L zcp (zc0 p6 p7 p8 p9 zHr zHs) (zaJ zef X K)=zd8 yf ya xc zi L p6 p7 p8 p9 zHr zHs (fun p6 p7 p8 p9 zHr zHs=>X (zc0 p6 p7 p8 p9 zHr zHs)) (fun p6 p7 p8 zHr zHs=>K (.exit 0) (zjH p6 p7 p8 zHr zHs)):=by kernel_rfl
def zjA {β:Type} (yf:yw) (ya:yj) (xc:yp) (zi:yG) (L:Nat) (p6 p7 p8 zHr:List (List V)) (zHs:Int) (k_fin:List (List V)→List (List V)→List (List V)→Option β):Option β :=
 k_fin p6 p7 p8
theorem zok {β:Type} (yf:yw) (ya:yj) (xc:yp) (zi:yG) (L:Nat) (p6 p7 p8 zHr:List (List V)) (zHs:Int) (k:KK β):(yA 0 (xO (xk zbr (zbm yf ya xc zi L) 0 L zhT) (yP 0 (CF.res zdy) k))) (.exit 0) (zjH p6 p7 p8 zHr zHs)=zjA yf ya xc zi L p6 p7 p8 zHr zHs (fun zHt zHu zHz=>k (V.tup [(V.gs 1 zHt),(V.gs 3 zHu),(V.gs 1 zHz)]) []):=by kernel_rfl
def zbE {β:Type} (yf:yw) (ya:yj) (xc:yp) (zi:yG) (L:Nat) (k_x0:zlr β):Nat→List (List V)→List (List V)→List (List V)→Int→List (List V)→Int→Option β
 | 0,_,_,_,_,_,_=>none
 | n+1,p6,p7,p8,p9,zHr,zHs=>zd8 yf ya xc zi L p6 p7 p8 p9 zHr zHs (fun p6 p7 p8 p9 zHr zHs=>zbE yf ya xc zi L k_x0 n p6 p7 p8 p9 zHr zHs) k_x0
theorem zim {β:Type} (yf:yw) (ya:yj) (xc:yp) (zi:yG) (L:Nat) (K:KT β):∀ (n:Nat) (p6 p7 p8:List (List V)) (p9:Int) (zHr:List (List V)) (zHs:Int),zz (xk zbr (zbm yf ya xc zi L) 0 L zcp) zef n (zc0 p6 p7 p8 p9 zHr zHs) K=zbE yf ya xc zi L (fun p6 p7 p8 zHr zHs=>K (.exit 0) (zjH p6 p7 p8 zHr zHs)) n p6 p7 p8 p9 zHr zHs:=by
 intro n
 induction n with
 | zero=>intros; rfl
 | succ n ih =>
  intro p6 p7 p8 p9 zHr zHs
  refine (zpz yf ya xc zi L p6 p7 p8 p9 zHr zHs (fun σ=>zz (xk zbr (zbm yf ya xc zi L) 0 L zcp) zef n σ K) K).trans ?_
  simp only [ih]
  rfl
def zku {β:Type} (yf:yw) (ya:yj) (xc:yp) (zi:yG) (L:Nat) (p0:List (List V)) (k_fin:List (List V)→List (List V)→List (List V)→Option β):Option β :=
 zor yf ya xc zi L p0 (fun p6 p7 p8 p9 zHr zHs=>zbE yf ya xc zi L (fun p6 p7 p8 zHr zHs=>zjA yf ya xc zi L p6 p7 p8 zHr zHs k_fin) L p6 p7 p8 p9 zHr zHs)
theorem zvW {β:Type} (yf:yw) (ya:yj) (xc:yp) (zi:yG) (L:Nat) (p0:List (List V)) (k:KK β):zw zbr (zbm yf ya xc zi L) L zdy [(V.sl 1 p0)] [] k=zku yf ya xc zi L p0 (fun zHt zHu zHz=>k (V.tup [(V.gs 1 zHt),(V.gs 3 zHu),(V.gs 1 zHz)]) []):=by
 refine (zv9 yf ya xc zi L p0 k).trans ?_
 unfold zku
 first
  | (simp only [zim,zok]; done)
  | (simp only [zim]; rfl)
abbrev zA:=∀ (β:Type),Nat→List (List V)→(List (List V)→List (List V)→List (List V)→Option β)→Option β
def xe (β:Type) (L:Nat) (p0:List (List V)) (k_fin:List (List V)→List (List V)→List (List V)→Option β):Option β:=zku yf ya xc zi L p0 k_fin
def zhp (xe:zA) (L:Nat) (β:Type) (args:List V) (bor:Bor) (k:KK β):Option β:=match args,bor with
 | [a0],[]=>aL 1 a0 fun p0=>xe β L p0 (fun zHt zHu zHz=>k (V.tup [(V.gs 1 zHt),(V.gs 3 zHu),(V.gs 1 zHz)]) [])
 | _,_=>none
theorem zvZ (L:Nat) (β:Type) (args:List V) (bor:Bor) (k:KK β) (r:β) (h:zhp xe L β args bor k=some r):zw zbr (zbm yf ya xc zi L) L zdy args bor k=some r:=by
 unfold zhp at h
 split at h
 ·have q:=zP h; clear h; obtain ⟨p0,rfl,h⟩:=q
  exact (zvW yf ya xc zi L p0 k).trans h
 ·cases h
end
end Go.Proofs.YteopmmegeagklaaDoor
