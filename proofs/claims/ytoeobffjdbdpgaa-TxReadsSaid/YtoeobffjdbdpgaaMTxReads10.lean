/- Part 10 of the proof of TxReads: an abstract machine over plain values, its soundness, and the functions of the program on plain values. -/
import Derived.Test.YtoeobffjdbdpgaaMTxReads9
namespace Go.Proofs.Ytoeobffjdbdpgaa
section
set_option maxRecDepth 100000
set_option linter.unusedVariables false
set_option linter.unusedSimpArgs false
def zjT:CF:=⟨74,[.tmp 6,.tmp 7,.tmp 8],
 (.seq (.reg [oo 6 (.move (.const (.sc (.int .u64 0))) false),
   oo 7 (.move (.const (.sc (.int .i64 0))) false),
   oo 8 (.move (.const (.sc (.int .i64 0))) false)])
 (.seq (.reg [oo 17 (.move (tq 0) false),
   oo 18 (.move (tq 1) false),
   oo 19 (.call 195 [((tq 17),0),((tq 18),0)] []),
   oo 16 (.move (tq 19) true),
   oo 20 (.pull (tq 16) 0),
   oo 21 (.pull (tq 16) 1),
   oo 22 (.pull (tq 16) 2),
   oo 9 (.move (tq 20) false),
   oo 10 (.move (tq 21) false),
   oo 11 (.move (tq 22) false)])
 (.seq (.seq (.reg [oo 23 (.move (tq 11) false),
   oo 24 (.bin .neq (tq 23) (.const (.sc (.int .i64 0))))])
 (.cond (tq 24)
 (.seq (.reg [oo 25 (.move (tq 11) false),
   oo 6 (.move (.const (.sc (.int .u64 0))) false),
   oo 7 (.move (.const (.sc (.int .i64 0))) false),
   oo 8 (.move (tq 25) false)])
 .ret)
 .skip))
 (.seq (.reg [oo 26 (.move (tq 9) false),
   oo 27 (.conv .u64 (tq 26)),
   oo 12 (.move (tq 27) false),
   oo 13 (.move (.const (.sc (.int .u64 0))) false)])
 (.seq (.seq (.reg [oo 28 (.move (tq 9) false)])
 (.block 0 (.seq (.reg [oo 30 (.bin .eql (tq 28) (.const (.sc (.int .u8 253)))),
   oo 29 (.move (tq 30) false)])
 (.cond (tq 29)
 (.seq (.reg [oo 14 (.move (.const (.sc (.int .u16 0))) false)])
 (.seq (.reg [oo 32 (.move (tq 0) false),
   oo 33 (.move (tq 10) false),
   oo 34 (.call 196 [((tq 32),0),((tq 33),0)] []),
   oo 31 (.move (tq 34) true),
   oo 35 (.pull (tq 31) 0),
   oo 36 (.pull (tq 31) 1),
   oo 37 (.pull (tq 31) 2),
   oo 14 (.move (tq 35) false),
   oo 10 (.move (tq 36) false),
   oo 11 (.move (tq 37) false)])
 (.reg [oo 38 (.move (tq 14) false),
   oo 39 (.conv .u64 (tq 38)),
   oo 12 (.move (tq 39) false),
   oo 13 (.move (.const (.sc (.int .u64 253))) false)])))
 (.seq (.reg [oo 41 (.bin .eql (tq 28) (.const (.sc (.int .u8 254)))),
   oo 40 (.move (tq 41) false)])
 (.cond (tq 40)
 (.seq (.reg [oo 15 (.move (.const (.sc (.int .u32 0))) false)])
 (.seq (.reg [oo 43 (.move (tq 0) false),
   oo 44 (.move (tq 10) false),
   oo 45 (.call 170 [((tq 43),0),((tq 44),0)] []),
   oo 42 (.move (tq 45) true),
   oo 46 (.pull (tq 42) 0),
   oo 47 (.pull (tq 42) 1),
   oo 48 (.pull (tq 42) 2),
   oo 15 (.move (tq 46) false),
   oo 10 (.move (tq 47) false),
   oo 11 (.move (tq 48) false)])
 (.reg [oo 49 (.move (tq 15) false),
   oo 50 (.conv .u64 (tq 49)),
   oo 12 (.move (tq 50) false),
   oo 13 (.move (.const (.sc (.int .u64 65536))) false)])))
 (.seq (.reg [oo 52 (.bin .eql (tq 28) (.const (.sc (.int .u8 255)))),
   oo 51 (.move (tq 52) false)])
 (.cond (tq 51)
 (.seq (.reg [oo 54 (.move (tq 0) false),
   oo 55 (.move (tq 10) false),
   oo 56 (.call 173 [((tq 54),0),((tq 55),0)] []),
   oo 53 (.move (tq 56) true),
   oo 57 (.pull (tq 53) 0),
   oo 58 (.pull (tq 53) 1),
   oo 59 (.pull (tq 53) 2),
   oo 12 (.move (tq 57) false),
   oo 10 (.move (tq 58) false),
   oo 11 (.move (tq 59) false)])
 (.reg [oo 13 (.move (.const (.sc (.int .u64 4294967296))) false)]))
 .skip))))))))
 (.seq (.block 1 (.seq (.reg [oo 61 (.move (tq 11) false),
   oo 62 (.bin .neq (tq 61) (.const (.sc (.int .i64 0)))),
   oo 60 (.move (tq 62) false)])
 (.cond (tq 60)
 (.seq (.reg [oo 63 (.move (tq 11) false),
   oo 6 (.move (.const (.sc (.int .u64 0))) false),
   oo 7 (.move (.const (.sc (.int .i64 0))) false),
   oo 8 (.move (tq 63) false)])
 .ret)
 (.seq (.reg [oo 65 (.move (tq 12) false),
   oo 66 (.move (tq 13) false),
   oo 67 (.bin .lss (tq 65) (tq 66)),
   oo 64 (.move (tq 67) false)])
 (.cond (tq 64)
 (.seq (.reg [oo 6 (.move (.const (.sc (.int .u64 0))) false),
   oo 7 (.move (.const (.sc (.int .i64 0))) false),
   oo 8 (.move (.const (.sc (.int .i64 3))) false)])
 .ret)
 (.seq (.reg [oo 69 (.move (tq 12) false),
   oo 70 (.move (tq 2) false),
   oo 71 (.bin .gtr (tq 69) (tq 70)),
   oo 68 (.move (tq 71) false)])
 (.cond (tq 68)
 (.seq (.reg [oo 6 (.move (.const (.sc (.int .u64 0))) false),
   oo 7 (.move (.const (.sc (.int .i64 0))) false),
   oo 8 (.move (.const (.sc (.int .i64 4))) false)])
 .ret)
 .skip)))))))
 (.seq (.reg [oo 72 (.move (tq 12) false),
   oo 73 (.move (tq 10) false),
   oo 6 (.move (tq 72) false),
   oo 7 (.move (tq 73) false),
   oo 8 (.move (.const (.sc (.int .i64 0))) false)])
 .ret)))))))⟩
def zqQ:Hint:=⟨[(1,3),(8,3),(12,3),(15,3)],[],[none,none,none,none,none,none,none,none,none,none,none,none,none,none],[],[],false,false,[]⟩
def zn2:Nat→Sh:=yP []
def znJ (zaQ:zoz) (zaH:zm1) (zL:zf0) (zP:zf5) (L:Nat):CBC:=(xv 173 (zjD zP L) (xv 170 (zjH zL L) (xv 196 (zm9 zaH L) (xv 195 (zoO zaQ L) noC))))
def zpD {β:Type} (zaQ:zoz) (zaH:zm1) (zL:zf0) (zP:zf5) (L:Nat) (p0:List (List V)) (p1 p2:Int) (k_fin:Int→Int→Int→Option β):Option β :=
 zaQ β L p0 p1 (fun v0 v1 v2 =>
 ifb ((v2:Int) != (0:Int)) (
 k_fin (0:Int) (0:Int) v2) (
 lt (IntKind.wrap .u64 v0) fun x3 =>
 ifb ((v0:Int) == (253:Int)) (
 zaH β L p0 v1 (fun v4 v5 v6 =>
 lt (IntKind.wrap .u64 v4) fun x7 =>
 ifb ((v6:Int) != (0:Int)) (
 k_fin (0:Int) (0:Int) v6) (
 ifb (decide (x7 < (253:Int))) (
 k_fin (0:Int) (0:Int) (3:Int)) (
 ifb (decide (x7 > p2)) (
 k_fin (0:Int) (0:Int) (4:Int)) (
 k_fin x7 v5 (0:Int)))))) (
 ifb ((v0:Int) == (254:Int)) (
 zL β L p0 v1 (fun v8 v9 v10 =>
 lt (IntKind.wrap .u64 v8) fun x11 =>
 ifb ((v10:Int) != (0:Int)) (
 k_fin (0:Int) (0:Int) v10) (
 ifb (decide (x11 < (65536:Int))) (
 k_fin (0:Int) (0:Int) (3:Int)) (
 ifb (decide (x11 > p2)) (
 k_fin (0:Int) (0:Int) (4:Int)) (
 k_fin x11 v9 (0:Int)))))) (
 ifb ((v0:Int) == (255:Int)) (
 zP β L p0 v1 (fun v12 v13 v14 =>
 ifb ((v14:Int) != (0:Int)) (
 k_fin (0:Int) (0:Int) v14) (
 ifb (decide (v12 < (4294967296:Int))) (
 k_fin (0:Int) (0:Int) (3:Int)) (
 ifb (decide (v12 > p2)) (
 k_fin (0:Int) (0:Int) (4:Int)) (
 k_fin v12 v13 (0:Int)))))) (
 ifb ((v2:Int) != (0:Int)) (
 k_fin (0:Int) (0:Int) v2) (
 ifb (decide (x3 < (0:Int))) (
 k_fin (0:Int) (0:Int) (3:Int)) (
 ifb (decide (x3 > p2)) (
 k_fin (0:Int) (0:Int) (4:Int)) (
 k_fin x3 v1 (0:Int)))))))))
theorem zxU {β:Type} (zaQ:zoz) (zaH:zm1) (zL:zf0) (zP:zf5) (L:Nat) (p0:List (List V)) (p1 p2:Int) (k:KK β):yt zn2 (znJ zaQ zaH zL zP L) L zjT [(V.sl 1 p0),(V.sc (.int .i64 p1)),(V.sc (.int .u64 p2))] [] k=zpD zaQ zaH zL zP L p0 p1 p2 (fun zKg zKh zKi=>k (V.tup [(V.sc (.int .u64 zKg)),(V.sc (.int .i64 zKh)),(V.sc (.int .i64 zKi))]) []):=by kernel_rfl
abbrev zeE:=∀ (β:Type),Nat→List (List V)→Int→Int→(Int→Int→Int→Option β)→Option β
def zK (β:Type) (L:Nat) (p0:List (List V)) (p1 p2:Int) (k_fin:Int→Int→Int→Option β):Option β:=zpD zaQ zaH zL zP L p0 p1 p2 k_fin
def zh5 (zK:zeE) (L:Nat) (β:Type) (args:List V) (bor:Bor) (k:KK β):Option β:=match args,bor with
 | [a0,a1,a2],[]=>aL 1 a0 fun p0=>aI .i64 a1 fun p1=>aI .u64 a2 fun p2=>zK β L p0 p1 p2 (fun zKg zKh zKi=>k (V.tup [(V.sc (.int .u64 zKg)),(V.sc (.int .i64 zKh)),(V.sc (.int .i64 zKi))]) [])
 | _,_=>none
theorem zyv (L:Nat) (β:Type) (args:List V) (bor:Bor) (k:KK β) (r:β) (h:zh5 zK L β args bor k=some r):yt zn2 (znJ zaQ zaH zL zP L) L zjT args bor k=some r:=by
 unfold zh5 at h
 split at h
 ·have q:=zM h; clear h; obtain ⟨p0,rfl,h⟩:=q
  have q:=zy h; clear h; obtain ⟨p1,rfl,h⟩:=q
  have q:=zy h; clear h; obtain ⟨p2,rfl,h⟩:=q
  exact (zxU zaQ zaH zL zP L p0 p1 p2 k).trans h
 ·cases h
def ziI:CF:=⟨15,[.tmp 5,.tmp 6,.tmp 7],
 (.seq (.reg [oo 5 (.move (.const (.sc (.int .u64 0))) false),
   oo 6 (.move (.const (.sc (.int .i64 0))) false),
   oo 7 (.move (.const (.sc (.int .i64 0))) false)])
 (.seq (.reg [oo 8 (.move (tq 0) false),
   oo 9 (.move (tq 1) false),
   oo 10 (.load false 1 (tq 2) false),
   oo 11 (.call 164 [((tq 8),0),((tq 9),0),((tq 10),0)] []),
   oo 12 (.pull (tq 11) 0),
   oo 13 (.pull (tq 11) 1),
   oo 14 (.pull (tq 11) 2),
   oo 5 (.move (tq 12) false),
   oo 6 (.move (tq 13) false),
   oo 7 (.move (tq 14) false)])
 .ret))⟩
def zp9:Hint:=⟨[],[],[none],[],[],false,false,[]⟩
def zmp:Nat→Sh:=yP []
def zml (zK:zeE) (L:Nat):CBC:=(xv 164 (zh5 zK L) noC)
def znH {β:Type} (zK:zeE) (L:Nat) (p0:List (List V)) (p1 zJ5:Int) (k_fin:Int→Int→Int→Int→Option β):Option β :=
 zK β L p0 p1 zJ5 (fun v0 v1 v2 =>
 k_fin v0 v1 v2 zJ5)
theorem zw6 {β:Type} (zK:zeE) (L:Nat) (p0:List (List V)) (p1 zJ5:Int) (k:KK β):yt zmp (zml zK L) L ziI [(V.sl 1 p0),(V.sc (.int .i64 p1)),(V.ptr 0 0)] [(.live true [(V.sc (.int .u64 zJ5))])] k=znH zK L p0 p1 zJ5 (fun zKg zKh zKi zJ5=>k (V.tup [(V.sc (.int .u64 zKg)),(V.sc (.int .i64 zKh)),(V.sc (.int .i64 zKi))]) [(.live true [(V.sc (.int .u64 zJ5))])]):=by kernel_rfl
abbrev zjW:=∀ (β:Type),Nat→List (List V)→Int→Int→(Int→Int→Int→Int→Option β)→Option β
def zac (β:Type) (L:Nat) (p0:List (List V)) (p1 zJ5:Int) (k_fin:Int→Int→Int→Int→Option β):Option β:=znH zK L p0 p1 zJ5 k_fin
def zjQ (zac:zjW) (L:Nat) (β:Type) (args:List V) (bor:Bor) (k:KK β):Option β:=match args,bor with
 | [a0,a1,a2],[(.live true [w0_0])]=>aL 1 a0 fun p0=>aI .i64 a1 fun p1=>aP 0 0 a2 (aI .u64 w0_0 fun zJ5=>zac β L p0 p1 zJ5 (fun zKg zKh zKi zJ5=>k (V.tup [(V.sc (.int .u64 zKg)),(V.sc (.int .i64 zKh)),(V.sc (.int .i64 zKi))]) [(.live true [(V.sc (.int .u64 zJ5))])]))
 | _,_=>none
theorem zwZ (L:Nat) (β:Type) (args:List V) (bor:Bor) (k:KK β) (r:β) (h:zjQ zac L β args bor k=some r):yt zmp (zml zK L) L ziI args bor k=some r:=by
 unfold zjQ at h
 split at h
 ·have q:=zM h; clear h; obtain ⟨p0,rfl,h⟩:=q
  have q:=zy h; clear h; obtain ⟨p1,rfl,h⟩:=q
  have q:=zdE h; clear h; obtain ⟨rfl,h⟩:=q
  have q:=zy h; clear h; obtain ⟨zJ5,rfl,h⟩:=q
  exact (zw6 zK L p0 p1 zJ5 k).trans h
 ·cases h
def zd8:CF:=⟨41,[.tmp 4],
 (.seq (.reg [oo 4 (.move (.const (.sc (.int .u64 0))) false)])
 (.seq (.reg [oo 5 (.move (.const (.sc (.int .u64 0))) false)])
 (.seq (.seq (.reg [oo 9 (.move (tq 0) false),
   oo 10 (.nilCheck (tq 9)),
   oo 11 (.fieldAddr 2 (tq 10)),
   oo 12 (.load false 1 (tq 11) false),
   oo 13 (.bin .neq (tq 12) (.const (.sc (.int .i64 0))))])
 (.cond (tq 13)
 (.seq (.reg [oo 14 (.move (tq 5) false),
   oo 4 (.move (tq 14) false)])
 .ret)
 .skip))
 (.seq (.dreg [] [(oo 16 (.move (tq 1) false),q0),
   (oo 17 (.move (tq 0) false),q0),
   (oo 18 (.nilCheck (tq 17)),q0),
   (oo 19 (.fieldAddr 0 (tq 18)),q0),
   (oo 20 (.load false 1 (tq 19) false),ql 0 [] []),
   (oo 21 (.move (tq 0) false),q0),
   (oo 22 (.nilCheck (tq 21)),q0),
   (oo 23 (.fieldAddr 1 (tq 22)),q0),
   (oo 24 (.load false 1 (tq 23) false),ql 0 [] []),
   (oo 25 (.callv (tq 16) [((tq 20),0),((tq 24),0)] []),q0),
   (oo 15 (.move (tq 25) true),q0),
   (oo 26 (.pull (tq 15) 0),q0),
   (oo 27 (.pull (tq 15) 1),q0),
   (oo 28 (.pull (tq 15) 2),q0),
   (oo 6 (.move (tq 26) false),q0),
   (oo 7 (.move (tq 27) false),q0),
   (oo 8 (.move (tq 28) false),q0)])
 (.seq (.seq (.reg [oo 29 (.move (tq 8) false),
   oo 30 (.bin .neq (tq 29) (.const (.sc (.int .i64 0))))])
 (.cond (tq 30)
 (.seq (.reg [oo 31 (.move (tq 0) false),
   oo 32 (.move (tq 8) false),
   oo 33 (.nilCheck (tq 31)),
   oo 34 (.fieldAddr 2 (tq 33)),
   oz (.store 1 (tq 34) (tq 32))])
 (.seq (.reg [oo 35 (.move (tq 5) false),
   oo 4 (.move (tq 35) false)])
 .ret))
 .skip))
 (.seq (.reg [oo 36 (.move (tq 0) false),
   oo 37 (.move (tq 7) false),
   oo 38 (.nilCheck (tq 36)),
   oo 39 (.fieldAddr 1 (tq 38)),
   oz (.store 1 (tq 39) (tq 37))])
 (.seq (.reg [oo 40 (.move (tq 6) false),
   oo 4 (.move (tq 40) false)])
 .ret)))))))⟩
def zl8:Hint:=⟨[(4,10)],[],[none,none,none,none,none],[],[],false,false,[]⟩
def zjb:Nat→Sh:=yP []
def zjg (zac:zjW) (L:Nat):CBC:=(xv 163 (zjQ zac L) noC)
def zhg {β:Type} (zac:zjW) (L:Nat) (zJ5:List (List V)) (zKc zKd zKl:Int) (k_fin:Int→List (List V)→Int→Int→Int→Option β):Option β :=
 ifb ((zKd:Int) != (0:Int)) (
 k_fin (0:Int) zJ5 zKc zKd zKl) (
 zac β L zJ5 zKc zKl (fun v0 v1 v2 v3 =>
 ifb ((v2:Int) != (0:Int)) (
 k_fin (0:Int) zJ5 zKc v2 v3) (
 k_fin v0 zJ5 v1 zKd v3)))
theorem zud {β:Type} (zac:zjW) (L:Nat) (zJ5:List (List V)) (zKc zKd zKl:Int) (k:KK β):yt zjb (zjg zac L) L zd8 [(V.ptr 0 0),(V.fn 163 [(V.ptr 1 0)])] [(.live false [(V.sl 1 zJ5),(V.sc (.int .i64 zKc)),(V.sc (.int .i64 zKd))]),(.live true [(V.sc (.int .u64 zKl))])] k=zhg zac L zJ5 zKc zKd zKl (fun p0 zJ5 zKc zKd zKl=>k (V.sc (.int .u64 p0)) [(.live false [(V.sl 1 zJ5),(V.sc (.int .i64 zKc)),(V.sc (.int .i64 zKd))]),(.live true [(V.sc (.int .u64 zKl))])]):=by kernel_rfl
abbrev zg5:=∀ (β:Type),Nat→List (List V)→Int→Int→Int→(Int→List (List V)→Int→Int→Int→Option β)→Option β
def xR (β:Type) (L:Nat) (zJ5:List (List V)) (zKc zKd zKl:Int) (k_fin:Int→List (List V)→Int→Int→Int→Option β):Option β:=zhg zac L zJ5 zKc zKd zKl k_fin
def zhd (xR:zg5) (L:Nat) (β:Type) (args:List V) (bor:Bor) (k:KK β):Option β:=match args,bor with
 | [a0,a1],[(.live false [w0_0,w0_1,w0_2]),(.live true [w1_0])]=>aP 0 0 a0 (aF 163 [(1,0)] a1 (aL 1 w0_0 fun zJ5=>aI .i64 w0_1 fun zKc=>aI .i64 w0_2 fun zKd=>aI .u64 w1_0 fun zKl=>xR β L zJ5 zKc zKd zKl (fun p0 zJ5 zKc zKd zKl=>k (V.sc (.int .u64 p0)) [(.live false [(V.sl 1 zJ5),(V.sc (.int .i64 zKc)),(V.sc (.int .i64 zKd))]),(.live true [(V.sc (.int .u64 zKl))])])))
 | _,_=>none
theorem zus (L:Nat) (β:Type) (args:List V) (bor:Bor) (k:KK β) (r:β) (h:zhd xR L β args bor k=some r):yt zjb (zjg zac L) L zd8 args bor k=some r:=by
 unfold zhd at h
 split at h
 ·have q:=zdE h; clear h; obtain ⟨rfl,h⟩:=q
  have q:=zux h; clear h; obtain ⟨rfl,h⟩:=q
  have q:=zM h; clear h; obtain ⟨zJ5,rfl,h⟩:=q
  have q:=zy h; clear h; obtain ⟨zKc,rfl,h⟩:=q
  have q:=zy h; clear h; obtain ⟨zKd,rfl,h⟩:=q
  have q:=zy h; clear h; obtain ⟨zKl,rfl,h⟩:=q
  exact (zud zac L zJ5 zKc zKd zKl k).trans h
 ·cases h
def zk8:CF:=⟨8,[.tmp 3],
 (.seq (.reg [oo 2 (.box true (tq 0)),
   oo 3 (.move (.const (.sc (.int .i64 0))) false)])
 (.seq (.reg [oo 4 (.load false 1 (tq 1) false),
   oo 5 (.makeFunc 163 [(tq 2)]),
   oo 6 (.call 162 [((tq 4),0),((tq 5),0)] []),
   oo 7 (.conv .i64 (tq 6)),
   oo 3 (.move (tq 7) false)])
 .ret))⟩
def zsV:Hint:=⟨[],[],[none],[],[],false,false,[]⟩
def zpl:Nat→Sh:=yP []
def zp0 (xR:zg5) (L:Nat):CBC:=(xv 162 (zhd xR L) noC)
def zmS {β:Type} (xR:zg5) (L:Nat) (p0:Int) (zKl:List (List V)) (zKm zKn:Int) (k_fin:Int→List (List V)→Int→Int→Option β):Option β :=
 xR β L zKl zKm zKn p0 (fun v0 v1 v2 v3 v4 =>
 lt (IntKind.wrap .i64 v0) fun x5 =>
 k_fin x5 v1 v2 v3)
theorem zzn {β:Type} (xR:zg5) (L:Nat) (p0:Int) (zKl:List (List V)) (zKm zKn:Int) (k:KK β):yt zpl (zp0 xR L) L zk8 [(V.sc (.int .u64 p0)),(V.ptr 0 0)] [(.live false [(V.ptr 1 0)]),(.live false [(V.sl 1 zKl),(V.sc (.int .i64 zKm)),(V.sc (.int .i64 zKn))])] k=zmS xR L p0 zKl zKm zKn (fun p0 zKl zKm zKn=>k (V.sc (.int .i64 p0)) [(.live false [(V.ptr 1 0)]),(.live false [(V.sl 1 zKl),(V.sc (.int .i64 zKm)),(V.sc (.int .i64 zKn))])]):=by kernel_rfl
abbrev xB:=∀ (β:Type),Nat→Int→List (List V)→Int→Int→(Int→List (List V)→Int→Int→Option β)→Option β
def xe (β:Type) (L:Nat) (p0:Int) (zKl:List (List V)) (zKm zKn:Int) (k_fin:Int→List (List V)→Int→Int→Option β):Option β:=zmS xR L p0 zKl zKm zKn k_fin
def zm5 (xe:xB) (L:Nat) (β:Type) (args:List V) (bor:Bor) (k:KK β):Option β:=match args,bor with
 | [a0,a1],[(.live false [w0_0]),(.live false [w1_0,w1_1,w1_2])]=>aI .u64 a0 fun p0=>aP 0 0 a1 (aP 1 0 w0_0 (aL 1 w1_0 fun zKl=>aI .i64 w1_1 fun zKm=>aI .i64 w1_2 fun zKn=>xe β L p0 zKl zKm zKn (fun p0 zKl zKm zKn=>k (V.sc (.int .i64 p0)) [(.live false [(V.ptr 1 0)]),(.live false [(V.sl 1 zKl),(V.sc (.int .i64 zKm)),(V.sc (.int .i64 zKn))])])))
 | _,_=>none
theorem zyX (L:Nat) (β:Type) (args:List V) (bor:Bor) (k:KK β) (r:β) (h:zm5 xe L β args bor k=some r):yt zpl (zp0 xR L) L zk8 args bor k=some r:=by
 unfold zm5 at h
 split at h
 ·have q:=zy h; clear h; obtain ⟨p0,rfl,h⟩:=q
  have q:=zdE h; clear h; obtain ⟨rfl,h⟩:=q
  have q:=zdE h; clear h; obtain ⟨rfl,h⟩:=q
  have q:=zM h; clear h; obtain ⟨zKl,rfl,h⟩:=q
  have q:=zy h; clear h; obtain ⟨zKm,rfl,h⟩:=q
  have q:=zy h; clear h; obtain ⟨zKn,rfl,h⟩:=q
  exact (zzn xR L p0 zKl zKm zKn k).trans h
 ·cases h
def zj6:CF:=⟨24,[.cell 4 true 32,.tmp 5,.tmp 6],
 (.seq (.reg [oo 4 (.alloc true (rp 32 (.sc (.int .u8 0)) [])),
   oo 5 (.move (.const (.sc (.int .i64 0))) false),
   oo 6 (.move (.const (.sc (.int .i64 0))) false)])
 (.seq (.reg [oo 7 (.alloc true (rp 32 (.sc (.int .u8 0)) []))])
 (.seq (.seq (.reg [oo 9 (.move (tq 0) false),
   oo 10 (.move (tq 1) false),
   oo 11 (.call 198 [((tq 9),0),((tq 10),0),((.const (.sc (.int .i64 32))),0)] []),
   oo 8 (.move (tq 11) false)])
 (.seq (.reg [oo 12 (.move (tq 8) false),
   oo 13 (.bin .neq (tq 12) (.const (.sc (.int .i64 0))))])
 (.cond (tq 13)
 (.seq (.reg [oo 14 (.build (rp 32 (.sc (.int .u8 0)) []) []),
   oo 15 (.move (tq 8) false),
   oz (.store 32 (tq 4) (tq 14)),
   oo 5 (.move (.const (.sc (.int .i64 0))) false),
   oo 6 (.move (tq 15) false)])
 .ret)
 .skip)))
 (.seq (.dreg [] [(oo 16 (.sliceA 32 1 (tq 7) none none none),q1),
   (oo 17 (.move (tq 0) true),q1),
   (oo 18 (.move (tq 1) false),q0),
   (oo 19 (.sliceS 1 (tq 17) (some (tq 18)) none none),q0),
   (oo 20 (.copy 1 (tq 16) (tq 19)),q0)])
 (.seq (.reg [oo 21 (.load true 32 (tq 7) false),
   oo 22 (.move (tq 1) false),
   oo 23 (.bin .add (tq 22) (.const (.sc (.int .i64 32)))),
   oz (.store 32 (tq 4) (tq 21)),
   oo 5 (.move (tq 23) false),
   oo 6 (.move (.const (.sc (.int .i64 0))) false)])
 .ret)))))⟩
def zqN:Hint:=⟨[(5,1)],[],[none,none,none],[],[],false,false,[]⟩
def znU:Nat→Sh:=yP []
def zn3 (ze:yr) (L:Nat):CBC:=(xv 198 (zdJ ze L) noC)
def zpI {β:Type} (ze:yr) (L:Nat) (p0:List (List V)) (p1:Int) (k_fin:List V→Int→Int→Option β):Option β :=
 ze β L p0 p1 (32:Int) (fun v0 =>
 ifb ((v0:Int) != (0:Int)) (
 lt (List.replicate 32 (V.sc (.int .u8 (0:Int)))) fun r1 =>
 chk (0=0∧(List.length r1)=32∧32≠0) (
 k_fin r1 (0:Int) v0)) (
 chk (0≤p1∧p1≤(((List.length p0):Nat):Int)) (
 lt (yl (List.replicate 32 (V.sc (.int .u8 (0:Int)))) 0 (List.flatten (List.take (min (List.length (List.take ((List.length p0) - (Int.toNat p1)) (List.drop (Int.toNat p1) p0))) 32) (List.take ((List.length p0) - (Int.toNat p1)) (List.drop (Int.toNat p1) p0))))) fun r2 =>
 chk (0+32≤(List.length r2)) (
 lt (IntKind.wrap .i64 ((p1:Int)+(32:Int))) fun x3 =>
 chk ((List.length (List.take 32 r2))=32∧0+32≤32) (
 lt (yl (List.replicate 32 (V.sc (.int .u8 (0:Int)))) 0 (List.take 32 r2)) fun r4 =>
 chk (0=0∧(List.length r4)=32∧32≠0) (
 k_fin r4 x3 (0:Int)))))))
theorem zx0 {β:Type} (ze:yr) (L:Nat) (p0:List (List V)) (p1:Int) (k:KK β):yt znU (zn3 ze L) L zj6 [(V.sl 1 p0),(V.sc (.int .i64 p1))] [] k=zpI ze L p0 p1 (fun zKg zKh zKi=>k (V.tup [(V.agg zKg),(V.sc (.int .i64 zKh)),(V.sc (.int .i64 zKi))]) []):=by kernel_rfl
abbrev zli:=∀ (β:Type),Nat→List (List V)→Int→(List V→Int→Int→Option β)→Option β
def zal (β:Type) (L:Nat) (p0:List (List V)) (p1:Int) (k_fin:List V→Int→Int→Option β):Option β:=zpI ze L p0 p1 k_fin
def zlG (zal:zli) (L:Nat) (β:Type) (args:List V) (bor:Bor) (k:KK β):Option β:=match args,bor with
 | [a0,a1],[]=>aL 1 a0 fun p0=>aI .i64 a1 fun p1=>zal β L p0 p1 (fun zKg zKh zKi=>k (V.tup [(V.agg zKg),(V.sc (.int .i64 zKh)),(V.sc (.int .i64 zKi))]) [])
 | _,_=>none
theorem zyr (L:Nat) (β:Type) (args:List V) (bor:Bor) (k:KK β) (r:β) (h:zlG zal L β args bor k=some r):yt znU (zn3 ze L) L zj6 args bor k=some r:=by
 unfold zlG at h
 split at h
 ·have q:=zM h; clear h; obtain ⟨p0,rfl,h⟩:=q
  have q:=zy h; clear h; obtain ⟨p1,rfl,h⟩:=q
  exact (zx0 ze L p0 p1 k).trans h
 ·cases h
def ze8:CF:=⟨41,[.cell 4 true 32],
 (.seq (.reg [oo 4 (.alloc true (rp 32 (.sc (.int .u8 0)) []))])
 (.seq (.reg [oo 5 (.alloc true (rp 32 (.sc (.int .u8 0)) []))])
 (.seq (.seq (.reg [oo 9 (.move (tq 0) false),
   oo 10 (.nilCheck (tq 9)),
   oo 11 (.fieldAddr 2 (tq 10)),
   oo 12 (.load false 1 (tq 11) false),
   oo 13 (.bin .neq (tq 12) (.const (.sc (.int .i64 0))))])
 (.cond (tq 13)
 (.seq (.reg [oo 14 (.load true 32 (tq 5) false),
   oz (.store 32 (tq 4) (tq 14))])
 .ret)
 .skip))
 (.seq (.dreg [] [(oo 16 (.move (tq 1) false),q0),
   (oo 17 (.move (tq 0) false),q0),
   (oo 18 (.nilCheck (tq 17)),q0),
   (oo 19 (.fieldAddr 0 (tq 18)),q0),
   (oo 20 (.load false 1 (tq 19) false),ql 0 [] [6]),
   (oo 21 (.move (tq 0) false),q0),
   (oo 22 (.nilCheck (tq 21)),q0),
   (oo 23 (.fieldAddr 1 (tq 22)),q0),
   (oo 24 (.load false 1 (tq 23) false),ql 0 [] [6]),
   (oo 25 (.callv (tq 16) [((tq 20),0),((tq 24),0)] []),qc [] [6]),
   (oo 15 (.move (tq 25) true),qc [] [6]),
   (oo 26 (.pull (tq 15) 0),q0),
   (oo 27 (.pull (tq 15) 1),q0),
   (oo 28 (.pull (tq 15) 2),q0),
   (oo 6 (.alloc true (rp 32 (.sc (.int .u8 0)) [])),qn [0] []),
   (oz (.store 32 (tq 6) (tq 26)),q0),
   (oo 7 (.move (tq 27) false),q0),
   (oo 8 (.move (tq 28) false),q0)])
 (.seq (.seq (.reg [oo 29 (.move (tq 8) false),
   oo 30 (.bin .neq (tq 29) (.const (.sc (.int .i64 0))))])
 (.cond (tq 30)
 (.seq (.reg [oo 31 (.move (tq 0) false),
   oo 32 (.move (tq 8) false),
   oo 33 (.nilCheck (tq 31)),
   oo 34 (.fieldAddr 2 (tq 33)),
   oz (.store 1 (tq 34) (tq 32))])
 (.seq (.reg [oo 35 (.load true 32 (tq 5) false),
   oz (.store 32 (tq 4) (tq 35))])
 .ret))
 .skip))
 (.seq (.reg [oo 36 (.move (tq 0) false),
   oo 37 (.move (tq 7) false),
   oo 38 (.nilCheck (tq 36)),
   oo 39 (.fieldAddr 1 (tq 38)),
   oz (.store 1 (tq 39) (tq 37))])
 (.seq (.reg [oo 40 (.load true 32 (tq 6) false),
   oz (.store 32 (tq 4) (tq 40))])
 .ret)))))))⟩
def zkL:Hint:=⟨[(4,10)],[],[none,none,none,none,none],[],[],false,false,[]⟩
def zhD:Nat→Sh:=yP []
def zhJ (zal:zli) (L:Nat):CBC:=(xv 172 (zlG zal L) noC)
def zfO {β:Type} (zal:zli) (L:Nat) (zJ5:List (List V)) (zKc zKd:Int) (k_fin:List V→List (List V)→Int→Int→Option β):Option β :=
 ifb ((zKd:Int) != (0:Int)) (
 lt (List.replicate 32 (V.sc (.int .u8 (0:Int)))) fun r0 =>
 chk (0=0∧(List.length r0)=32∧32≠0) (
 k_fin r0 zJ5 zKc zKd)) (
 zal β L zJ5 zKc (fun v1 v2 v3 =>
 chk ((List.length v1)=32∧0+32≤32) (
 lt (yl (List.replicate 32 (V.sc (.int .u8 (0:Int)))) 0 v1) fun r4 =>
 ifb ((v3:Int) != (0:Int)) (
 lt (List.replicate 32 (V.sc (.int .u8 (0:Int)))) fun r5 =>
 chk (0=0∧(List.length r5)=32∧32≠0) (
 k_fin r5 zJ5 zKc v3)) (
 chk (0+32≤(List.length r4)) (
 chk ((List.length (List.take 32 r4))=32∧0+32≤32) (
 lt (yl (List.replicate 32 (V.sc (.int .u8 (0:Int)))) 0 (List.take 32 r4)) fun r6 =>
 chk (0=0∧(List.length r6)=32∧32≠0) (
 k_fin r6 zJ5 v2 zKd)))))))
theorem zsj {β:Type} (zal:zli) (L:Nat) (zJ5:List (List V)) (zKc zKd:Int) (k:KK β):yt zhD (zhJ zal L) L ze8 [(V.ptr 0 0),(V.fn 172 [])] [(.live false [(V.sl 1 zJ5),(V.sc (.int .i64 zKc)),(V.sc (.int .i64 zKd))])] k=zfO zal L zJ5 zKc zKd (fun p0 zJ5 zKc zKd=>k (V.agg p0) [(.live false [(V.sl 1 zJ5),(V.sc (.int .i64 zKc)),(V.sc (.int .i64 zKd))])]):=by kernel_rfl
abbrev yo:=∀ (β:Type),Nat→List (List V)→Int→Int→(List V→List (List V)→Int→Int→Option β)→Option β
def xb (β:Type) (L:Nat) (zJ5:List (List V)) (zKc zKd:Int) (k_fin:List V→List (List V)→Int→Int→Option β):Option β:=zfO zal L zJ5 zKc zKd k_fin
def zfE (xb:yo) (L:Nat) (β:Type) (args:List V) (bor:Bor) (k:KK β):Option β:=match args,bor with
 | [a0,a1],[(.live false [w0_0,w0_1,w0_2])]=>aP 0 0 a0 (aF 172 [] a1 (aL 1 w0_0 fun zJ5=>aI .i64 w0_1 fun zKc=>aI .i64 w0_2 fun zKd=>xb β L zJ5 zKc zKd (fun p0 zJ5 zKc zKd=>k (V.agg p0) [(.live false [(V.sl 1 zJ5),(V.sc (.int .i64 zKc)),(V.sc (.int .i64 zKd))])])))
 | _,_=>none
theorem zsU (L:Nat) (β:Type) (args:List V) (bor:Bor) (k:KK β) (r:β) (h:zfE xb L β args bor k=some r):yt zhD (zhJ zal L) L ze8 args bor k=some r:=by
 unfold zfE at h
 split at h
 ·have q:=zdE h; clear h; obtain ⟨rfl,h⟩:=q
  have q:=zux h; clear h; obtain ⟨rfl,h⟩:=q
  have q:=zM h; clear h; obtain ⟨zJ5,rfl,h⟩:=q
  have q:=zy h; clear h; obtain ⟨zKc,rfl,h⟩:=q
  have q:=zy h; clear h; obtain ⟨zKd,rfl,h⟩:=q
  exact (zsj zal L zJ5 zKc zKd k).trans h
 ·cases h
def zlQ:CF:=zd8
def zgN:Nat→Sh:=yP []
def zgT (zP:zf5) (L:Nat):CBC:=(xv 173 (zjD zP L) noC)
def zfd {β:Type} (zP:zf5) (L:Nat) (zJ5:List (List V)) (zKc zKd:Int) (k_fin:Int→List (List V)→Int→Int→Option β):Option β :=
 ifb ((zKd:Int) != (0:Int)) (
 k_fin (0:Int) zJ5 zKc zKd) (
 zP β L zJ5 zKc (fun v0 v1 v2 =>
 ifb ((v2:Int) != (0:Int)) (
 k_fin (0:Int) zJ5 zKc v2) (
 k_fin v0 zJ5 v1 zKd)))
theorem zrC {β:Type} (zP:zf5) (L:Nat) (zJ5:List (List V)) (zKc zKd:Int) (k:KK β):yt zgN (zgT zP L) L zlQ [(V.ptr 0 0),(V.fn 173 [])] [(.live false [(V.sl 1 zJ5),(V.sc (.int .i64 zKc)),(V.sc (.int .i64 zKd))])] k=zfd zP L zJ5 zKc zKd (fun p0 zJ5 zKc zKd=>k (V.sc (.int .u64 p0)) [(.live false [(V.sl 1 zJ5),(V.sc (.int .i64 zKc)),(V.sc (.int .i64 zKd))])]):=by kernel_rfl
abbrev zn:=∀ (β:Type),Nat→List (List V)→Int→Int→(Int→List (List V)→Int→Int→Option β)→Option β
def xa (β:Type) (L:Nat) (zJ5:List (List V)) (zKc zKd:Int) (k_fin:Int→List (List V)→Int→Int→Option β):Option β:=zfd zP L zJ5 zKc zKd k_fin
def ze4 (xa:zn) (L:Nat) (β:Type) (args:List V) (bor:Bor) (k:KK β):Option β:=match args,bor with
 | [a0,a1],[(.live false [w0_0,w0_1,w0_2])]=>aP 0 0 a0 (aF 173 [] a1 (aL 1 w0_0 fun zJ5=>aI .i64 w0_1 fun zKc=>aI .i64 w0_2 fun zKd=>xa β L zJ5 zKc zKd (fun p0 zJ5 zKc zKd=>k (V.sc (.int .u64 p0)) [(.live false [(V.sl 1 zJ5),(V.sc (.int .i64 zKc)),(V.sc (.int .i64 zKd))])])))
 | _,_=>none
theorem zro (L:Nat) (β:Type) (args:List V) (bor:Bor) (k:KK β) (r:β) (h:ze4 xa L β args bor k=some r):yt zgN (zgT zP L) L zlQ args bor k=some r:=by
 unfold ze4 at h
 split at h
 ·have q:=zdE h; clear h; obtain ⟨rfl,h⟩:=q
  have q:=zux h; clear h; obtain ⟨rfl,h⟩:=q
  have q:=zM h; clear h; obtain ⟨zJ5,rfl,h⟩:=q
  have q:=zy h; clear h; obtain ⟨zKc,rfl,h⟩:=q
  have q:=zy h; clear h; obtain ⟨zKd,rfl,h⟩:=q
  exact (zrC zP L zJ5 zKc zKd k).trans h
 ·cases h
def ziS:CF:=⟨44,[.tmp 6,.tmp 7,.tmp 8],
 (.seq (.reg [oo 6 (.move (.const (.gs 1 [])) true),
   oo 7 (.move (.const (.sc (.int .i64 0))) false),
   oo 8 (.move (.const (.sc (.int .i64 0))) false)])
 (.seq (.seq (.reg [oo 13 (.move (tq 2) false),
   oo 14 (.bin .lss (tq 13) (.const (.sc (.int .i64 0))))])
 (.cond (tq 14)
 (.seq (.reg [oo 6 (.move (.const (.gs 1 [])) true),
   oo 7 (.move (.const (.sc (.int .i64 0))) false),
   oo 8 (.move (.const (.sc (.int .i64 5))) false)])
 .ret)
 .skip))
 (.seq (.reg [oo 16 (.move (tq 0) false),
   oo 17 (.move (tq 1) false),
   oo 18 (.move (tq 2) false),
   oo 19 (.conv .u64 (tq 18)),
   oo 20 (.call 164 [((tq 16),0),((tq 17),0),((tq 19),0)] []),
   oo 15 (.move (tq 20) true),
   oo 21 (.pull (tq 15) 0),
   oo 22 (.pull (tq 15) 1),
   oo 23 (.pull (tq 15) 2),
   oo 9 (.move (tq 21) false),
   oo 10 (.move (tq 22) false),
   oo 11 (.move (tq 23) false)])
 (.seq (.seq (.reg [oo 24 (.move (tq 11) false),
   oo 25 (.bin .neq (tq 24) (.const (.sc (.int .i64 0))))])
 (.cond (tq 25)
 (.seq (.reg [oo 26 (.move (tq 11) false),
   oo 6 (.move (.const (.gs 1 [])) true),
   oo 7 (.move (.const (.sc (.int .i64 0))) false),
   oo 8 (.move (tq 26) false)])
 .ret)
 .skip))
 (.seq (.seq (.reg [oo 27 (.move (tq 9) false),
   oo 28 (.move (tq 0) false),
   oo 29 (.lenS (tq 28)),
   oo 30 (.move (tq 10) false),
   oo 31 (.bin .sub (tq 29) (tq 30)),
   oo 32 (.conv .u64 (tq 31)),
   oo 33 (.bin .gtr (tq 27) (tq 32))])
 (.cond (tq 33)
 (.seq (.reg [oo 6 (.move (.const (.gs 1 [])) true),
   oo 7 (.move (.const (.sc (.int .i64 0))) false),
   oo 8 (.move (.const (.sc (.int .i64 1))) false)])
 .ret)
 .skip))
 (.seq (.reg [oo 34 (.move (tq 10) false),
   oo 35 (.move (tq 9) false),
   oo 36 (.conv .i64 (tq 35)),
   oo 37 (.bin .add (tq 34) (tq 36)),
   oo 12 (.move (tq 37) false)])
 (.seq (.reg [oo 38 (.move (tq 0) true),
   oo 39 (.move (tq 10) false),
   oo 40 (.move (tq 12) false),
   oo 41 (.sliceS 1 (tq 38) (some (tq 39)) (some (tq 40)) none),
   oo 42 (.call 191 [((tq 41),0),((.const (.gs 1 [])),0)] []),
   oo 43 (.move (tq 12) false),
   oo 6 (.move (tq 42) true),
   oo 7 (.move (tq 43) false),
   oo 8 (.move (.const (.sc (.int .i64 0))) false)])
 .ret)))))))⟩
def zpq:Hint:=⟨[(0,0),(2,0),(3,5),(5,1),(7,0),(9,0),(9,6)],[],[none,none,none,none,none,none,none],[],[],false,false,[]⟩
def zms:Nat→Sh:=yP []
def zmI (zK:zeE) (zg:zO) (L:Nat):CBC:=(xv 191 (zbI zg L) (xv 164 (zh5 zK L) noC))
def zn9 {β:Type} (zK:zeE) (zg:zO) (L:Nat) (p0:List (List V)) (p1 p2:Int) (k_fin:List (List V)→Int→Int→Option β):Option β :=
 ifb (decide (p2 < (0:Int))) (
 k_fin ([]:List (List V)) (0:Int) (5:Int)) (
 lt (IntKind.wrap .u64 p2) fun x0 =>
 zK β L p0 p1 x0 (fun v1 v2 v3 =>
 ifb ((v3:Int) != (0:Int)) (
 k_fin ([]:List (List V)) (0:Int) v3) (
 lt (IntKind.wrap .i64 ((((List.length p0:Nat):Int):Int) - v2)) fun x4 =>
 lt (IntKind.wrap .u64 x4) fun x5 =>
 ifb (decide (v1 > x5)) (
 k_fin ([]:List (List V)) (0:Int) (1:Int)) (
 lt (IntKind.wrap .i64 v1) fun x6 =>
 lt (IntKind.wrap .i64 ((v2:Int)+x6)) fun x7 =>
 chk (0≤x7∧x7≤(((List.length p0):Nat):Int)) (
 chk (0≤v2∧v2≤(((Int.toNat x7):Nat):Int)) (
 zg β L (List.take ((Int.toNat x7) - (Int.toNat v2)) (List.drop (Int.toNat v2) p0)) ([]:List (List V)) (fun v8 =>
 k_fin v8 x7 (0:Int))))))))
theorem zxc {β:Type} (zK:zeE) (zg:zO) (L:Nat) (p0:List (List V)) (p1 p2:Int) (k:KK β):yt zms (zmI zK zg L) L ziS [(V.sl 1 p0),(V.sc (.int .i64 p1)),(V.sc (.int .i64 p2))] [] k=zn9 zK zg L p0 p1 p2 (fun zKg zKh zKi=>k (V.tup [(V.gs 1 zKg),(V.sc (.int .i64 zKh)),(V.sc (.int .i64 zKi))]) []):=by kernel_rfl
abbrev zkd:=∀ (β:Type),Nat→List (List V)→Int→Int→(List (List V)→Int→Int→Option β)→Option β
def y5 (β:Type) (L:Nat) (p0:List (List V)) (p1 p2:Int) (k_fin:List (List V)→Int→Int→Option β):Option β:=zn9 zK zg L p0 p1 p2 k_fin
def zjP (y5:zkd) (L:Nat) (β:Type) (args:List V) (bor:Bor) (k:KK β):Option β:=match args,bor with
 | [a0,a1,a2],[]=>aL 1 a0 fun p0=>aI .i64 a1 fun p1=>aI .i64 a2 fun p2=>y5 β L p0 p1 p2 (fun zKg zKh zKi=>k (V.tup [(V.gs 1 zKg),(V.sc (.int .i64 zKh)),(V.sc (.int .i64 zKi))]) [])
 | _,_=>none
theorem zwO (L:Nat) (β:Type) (args:List V) (bor:Bor) (k:KK β) (r:β) (h:zjP y5 L β args bor k=some r):yt zms (zmI zK zg L) L ziS args bor k=some r:=by
 unfold zjP at h
 split at h
 ·have q:=zM h; clear h; obtain ⟨p0,rfl,h⟩:=q
  have q:=zy h; clear h; obtain ⟨p1,rfl,h⟩:=q
  have q:=zy h; clear h; obtain ⟨p2,rfl,h⟩:=q
  exact (zxc zK zg L p0 p1 p2 k).trans h
 ·cases h
def ziL:CF:=⟨15,[.tmp 5,.tmp 6,.tmp 7],
 (.seq (.reg [oo 5 (.move (.const (.gs 1 [])) true),
   oo 6 (.move (.const (.sc (.int .i64 0))) false),
   oo 7 (.move (.const (.sc (.int .i64 0))) false)])
 (.seq (.reg [oo 8 (.move (tq 0) false),
   oo 9 (.move (tq 1) false),
   oo 10 (.load false 1 (tq 2) false),
   oo 11 (.call 168 [((tq 8),0),((tq 9),0),((tq 10),0)] []),
   oo 12 (.extract (tq 11) 0),
   oo 13 (.pull (tq 11) 1),
   oo 14 (.pull (tq 11) 2),
   oo 5 (.move (tq 12) true),
   oo 6 (.move (tq 13) false),
   oo 7 (.move (tq 14) false)])
 .ret))⟩
def zpK:Hint:=⟨[(0,0),(1,4),(1,7)],[],[none],[],[],false,false,[]⟩
def zmr:Nat→Sh:=yP []
def zmw (y5:zkd) (L:Nat):CBC:=(xv 168 (zjP y5 L) noC)
def znS {β:Type} (y5:zkd) (L:Nat) (p0:List (List V)) (p1 zJ5:Int) (k_fin:List (List V)→Int→Int→Int→Option β):Option β :=
 y5 β L p0 p1 zJ5 (fun v0 v1 v2 =>
 k_fin v0 v1 v2 zJ5)
theorem zxf {β:Type} (y5:zkd) (L:Nat) (p0:List (List V)) (p1 zJ5:Int) (k:KK β):yt zmr (zmw y5 L) L ziL [(V.sl 1 p0),(V.sc (.int .i64 p1)),(V.ptr 0 0)] [(.live true [(V.sc (.int .i64 zJ5))])] k=znS y5 L p0 p1 zJ5 (fun zKg zKh zKi zJ5=>k (V.tup [(V.gs 1 zKg),(V.sc (.int .i64 zKh)),(V.sc (.int .i64 zKi))]) [(.live true [(V.sc (.int .i64 zJ5))])]):=by kernel_rfl
abbrev zka:=∀ (β:Type),Nat→List (List V)→Int→Int→(List (List V)→Int→Int→Int→Option β)→Option β
def zab (β:Type) (L:Nat) (p0:List (List V)) (p1 zJ5:Int) (k_fin:List (List V)→Int→Int→Int→Option β):Option β:=znS y5 L p0 p1 zJ5 k_fin
def zkb (zab:zka) (L:Nat) (β:Type) (args:List V) (bor:Bor) (k:KK β):Option β:=match args,bor with
 | [a0,a1,a2],[(.live true [w0_0])]=>aL 1 a0 fun p0=>aI .i64 a1 fun p1=>aP 0 0 a2 (aI .i64 w0_0 fun zJ5=>zab β L p0 p1 zJ5 (fun zKg zKh zKi zJ5=>k (V.tup [(V.gs 1 zKg),(V.sc (.int .i64 zKh)),(V.sc (.int .i64 zKi))]) [(.live true [(V.sc (.int .i64 zJ5))])]))
 | _,_=>none
theorem zwS (L:Nat) (β:Type) (args:List V) (bor:Bor) (k:KK β) (r:β) (h:zkb zab L β args bor k=some r):yt zmr (zmw y5 L) L ziL args bor k=some r:=by
 unfold zkb at h
 split at h
 ·have q:=zM h; clear h; obtain ⟨p0,rfl,h⟩:=q
  have q:=zy h; clear h; obtain ⟨p1,rfl,h⟩:=q
  have q:=zdE h; clear h; obtain ⟨rfl,h⟩:=q
  have q:=zy h; clear h; obtain ⟨zJ5,rfl,h⟩:=q
  exact (zxf y5 L p0 p1 zJ5 k).trans h
 ·cases h
def zg3:CF:=⟨41,[.tmp 4],
 (.seq (.reg [oo 4 (.move (.const (.gs 1 [])) true)])
 (.seq (.reg [oo 5 (.move (.const (.gs 1 [])) true)])
 (.seq (.seq (.reg [oo 9 (.move (tq 0) false),
   oo 10 (.nilCheck (tq 9)),
   oo 11 (.fieldAddr 2 (tq 10)),
   oo 12 (.load false 1 (tq 11) false),
   oo 13 (.bin .neq (tq 12) (.const (.sc (.int .i64 0))))])
 (.cond (tq 13)
 (.seq (.reg [oo 14 (.move (tq 5) true),
   oo 4 (.move (tq 14) true)])
 .ret)
 .skip))
 (.seq (.dreg [] [(oo 16 (.move (tq 1) false),q0),
   (oo 17 (.move (tq 0) false),q0),
   (oo 18 (.nilCheck (tq 17)),q0),
   (oo 19 (.fieldAddr 0 (tq 18)),q0),
   (oo 20 (.load false 1 (tq 19) false),ql 0 [] []),
   (oo 21 (.move (tq 0) false),q0),
   (oo 22 (.nilCheck (tq 21)),q0),
   (oo 23 (.fieldAddr 1 (tq 22)),q0),
   (oo 24 (.load false 1 (tq 23) false),ql 0 [] []),
   (oo 25 (.callv (tq 16) [((tq 20),0),((tq 24),0)] []),q0),
   (oo 15 (.move (tq 25) true),q0),
   (oo 26 (.pull (tq 15) 0),q0),
   (oo 27 (.pull (tq 15) 1),q0),
   (oo 28 (.pull (tq 15) 2),q0),
   (oo 6 (.move (tq 26) true),q0),
   (oo 7 (.move (tq 27) false),q0),
   (oo 8 (.move (tq 28) false),q0)])
 (.seq (.seq (.reg [oo 29 (.move (tq 8) false),
   oo 30 (.bin .neq (tq 29) (.const (.sc (.int .i64 0))))])
 (.cond (tq 30)
 (.seq (.reg [oo 31 (.move (tq 0) false),
   oo 32 (.move (tq 8) false),
   oo 33 (.nilCheck (tq 31)),
   oo 34 (.fieldAddr 2 (tq 33)),
   oz (.store 1 (tq 34) (tq 32))])
 (.seq (.reg [oo 35 (.move (tq 5) true),
   oo 4 (.move (tq 35) true)])
 .ret))
 .skip))
 (.seq (.reg [oo 36 (.move (tq 0) false),
   oo 37 (.move (tq 7) false),
   oo 38 (.nilCheck (tq 36)),
   oo 39 (.fieldAddr 1 (tq 38)),
   oz (.store 1 (tq 39) (tq 37))])
 (.seq (.reg [oo 40 (.move (tq 6) true),
   oo 4 (.move (tq 40) true)])
 .ret)))))))⟩
def znv:Hint:=⟨[(0,0),(1,0),(3,0),(3,1),(4,10),(4,14),(7,0),(7,1),(9,0),(9,1)],[],[none,none,none,none,none],[],[],false,false,[]⟩
def zkk:Nat→Sh:=yP []
def zki (zab:zka) (L:Nat):CBC:=(xv 167 (zkb zab L) noC)
def zhR {β:Type} (zab:zka) (L:Nat) (zJ5:List (List V)) (zKc zKd zKl:Int) (k_fin:List (List V)→List (List V)→Int→Int→Int→Option β) (k_finv1:List (List V)→List (List V)→Int→Int→Int→Option β):Option β :=
 ifb ((zKd:Int) != (0:Int)) (
 k_fin ([]:List (List V)) zJ5 zKc zKd zKl) (
 zab β L zJ5 zKc zKl (fun v0 v1 v2 v3 =>
 ifb ((v2:Int) != (0:Int)) (
 k_fin ([]:List (List V)) zJ5 zKc v2 v3) (
 k_finv1 v0 zJ5 v1 zKd v3)))
theorem zu2 {β:Type} (zab:zka) (L:Nat) (zJ5:List (List V)) (zKc zKd zKl:Int) (k:KK β):yt zkk (zki zab L) L zg3 [(V.ptr 0 0),(V.fn 167 [(V.ptr 1 0)])] [(.live false [(V.sl 1 zJ5),(V.sc (.int .i64 zKc)),(V.sc (.int .i64 zKd))]),(.live true [(V.sc (.int .i64 zKl))])] k=zhR zab L zJ5 zKc zKd zKl (fun p0 zJ5 zKc zKd zKl=>k (V.gs 1 p0) [(.live false [(V.sl 1 zJ5),(V.sc (.int .i64 zKc)),(V.sc (.int .i64 zKd))]),(.live true [(V.sc (.int .i64 zKl))])]) (fun p0 zJ5 zKc zKd zKl=>k (V.sl 1 p0) [(.live false [(V.sl 1 zJ5),(V.sc (.int .i64 zKc)),(V.sc (.int .i64 zKd))]),(.live true [(V.sc (.int .i64 zKl))])]):=by kernel_rfl
abbrev zhU:=∀ (β:Type),Nat→List (List V)→Int→Int→Int→(List (List V)→List (List V)→Int→Int→Int→Option β)→(List (List V)→List (List V)→Int→Int→Int→Option β)→Option β
def zW (β:Type) (L:Nat) (zJ5:List (List V)) (zKc zKd zKl:Int) (k_fin:List (List V)→List (List V)→Int→Int→Int→Option β) (k_finv1:List (List V)→List (List V)→Int→Int→Int→Option β):Option β:=zhR zab L zJ5 zKc zKd zKl k_fin k_finv1
def zhL (zW:zhU) (L:Nat) (β:Type) (args:List V) (bor:Bor) (k:KK β):Option β:=match args,bor with
 | [a0,a1],[(.live false [w0_0,w0_1,w0_2]),(.live true [w1_0])]=>aP 0 0 a0 (aF 167 [(1,0)] a1 (aL 1 w0_0 fun zJ5=>aI .i64 w0_1 fun zKc=>aI .i64 w0_2 fun zKd=>aI .i64 w1_0 fun zKl=>zW β L zJ5 zKc zKd zKl (fun p0 zJ5 zKc zKd zKl=>k (V.gs 1 p0) [(.live false [(V.sl 1 zJ5),(V.sc (.int .i64 zKc)),(V.sc (.int .i64 zKd))]),(.live true [(V.sc (.int .i64 zKl))])]) (fun p0 zJ5 zKc zKd zKl=>k (V.sl 1 p0) [(.live false [(V.sl 1 zJ5),(V.sc (.int .i64 zKc)),(V.sc (.int .i64 zKd))]),(.live true [(V.sc (.int .i64 zKl))])])))
 | _,_=>none
theorem zvt (L:Nat) (β:Type) (args:List V) (bor:Bor) (k:KK β) (r:β) (h:zhL zW L β args bor k=some r):yt zkk (zki zab L) L zg3 args bor k=some r:=by
 unfold zhL at h
 split at h
 ·have q:=zdE h; clear h; obtain ⟨rfl,h⟩:=q
  have q:=zux h; clear h; obtain ⟨rfl,h⟩:=q
  have q:=zM h; clear h; obtain ⟨zJ5,rfl,h⟩:=q
  have q:=zy h; clear h; obtain ⟨zKc,rfl,h⟩:=q
  have q:=zy h; clear h; obtain ⟨zKd,rfl,h⟩:=q
  have q:=zy h; clear h; obtain ⟨zKl,rfl,h⟩:=q
  exact (zu2 zab L zJ5 zKc zKd zKl k).trans h
 ·cases h
def zkQ:CF:=⟨7,[.tmp 3],
 (.seq (.reg [oo 2 (.box true (tq 0)),
   oo 3 (.move (.const (.gs 1 [])) true)])
 (.seq (.reg [oo 4 (.load false 1 (tq 1) false),
   oo 5 (.makeFunc 167 [(tq 2)]),
   oo 6 (.call 166 [((tq 4),0),((tq 5),0)] []),
   oo 3 (.move (tq 6) true)])
 .ret))⟩
def zr6:Hint:=⟨[(0,1),(1,3)],[],[none],[],[],false,false,[]⟩
def zqd:Nat→Sh:=yP []
def zpa (zW:zhU) (L:Nat):CBC:=(xv 166 (zhL zW L) noC)
def zmZ {β:Type} (zW:zhU) (L:Nat) (p0:Int) (zKl:List (List V)) (zKm zKn:Int) (k_fin:List (List V)→List (List V)→Int→Int→Option β) (k_finv1:List (List V)→List (List V)→Int→Int→Option β):Option β :=
 zW β L zKl zKm zKn p0 (fun v0 v1 v2 v3 v4 =>
 k_fin v0 v1 v2 v3) (fun v5 v6 v7 v8 v9 =>
 k_finv1 v5 v6 v7 v8)
theorem zzz {β:Type} (zW:zhU) (L:Nat) (p0:Int) (zKl:List (List V)) (zKm zKn:Int) (k:KK β):yt zqd (zpa zW L) L zkQ [(V.sc (.int .i64 p0)),(V.ptr 0 0)] [(.live false [(V.ptr 1 0)]),(.live false [(V.sl 1 zKl),(V.sc (.int .i64 zKm)),(V.sc (.int .i64 zKn))])] k=zmZ zW L p0 zKl zKm zKn (fun p0 zKl zKm zKn=>k (V.gs 1 p0) [(.live false [(V.ptr 1 0)]),(.live false [(V.sl 1 zKl),(V.sc (.int .i64 zKm)),(V.sc (.int .i64 zKn))])]) (fun p0 zKl zKm zKn=>k (V.sl 1 p0) [(.live false [(V.ptr 1 0)]),(.live false [(V.sl 1 zKl),(V.sc (.int .i64 zKm)),(V.sc (.int .i64 zKn))])]):=by kernel_rfl
abbrev zC:=∀ (β:Type),Nat→Int→List (List V)→Int→Int→(List (List V)→List (List V)→Int→Int→Option β)→(List (List V)→List (List V)→Int→Int→Option β)→Option β
def ye (β:Type) (L:Nat) (p0:Int) (zKl:List (List V)) (zKm zKn:Int) (k_fin:List (List V)→List (List V)→Int→Int→Option β) (k_finv1:List (List V)→List (List V)→Int→Int→Option β):Option β:=zmZ zW L p0 zKl zKm zKn k_fin k_finv1
def zmY (ye:zC) (L:Nat) (β:Type) (args:List V) (bor:Bor) (k:KK β):Option β:=match args,bor with
 | [a0,a1],[(.live false [w0_0]),(.live false [w1_0,w1_1,w1_2])]=>aI .i64 a0 fun p0=>aP 0 0 a1 (aP 1 0 w0_0 (aL 1 w1_0 fun zKl=>aI .i64 w1_1 fun zKm=>aI .i64 w1_2 fun zKn=>ye β L p0 zKl zKm zKn (fun p0 zKl zKm zKn=>k (V.gs 1 p0) [(.live false [(V.ptr 1 0)]),(.live false [(V.sl 1 zKl),(V.sc (.int .i64 zKm)),(V.sc (.int .i64 zKn))])]) (fun p0 zKl zKm zKn=>k (V.sl 1 p0) [(.live false [(V.ptr 1 0)]),(.live false [(V.sl 1 zKl),(V.sc (.int .i64 zKm)),(V.sc (.int .i64 zKn))])])))
 | _,_=>none
theorem zzo (L:Nat) (β:Type) (args:List V) (bor:Bor) (k:KK β) (r:β) (h:zmY ye L β args bor k=some r):yt zqd (zpa zW L) L zkQ args bor k=some r:=by
 unfold zmY at h
 split at h
 ·have q:=zy h; clear h; obtain ⟨p0,rfl,h⟩:=q
  have q:=zdE h; clear h; obtain ⟨rfl,h⟩:=q
  have q:=zdE h; clear h; obtain ⟨rfl,h⟩:=q
  have q:=zM h; clear h; obtain ⟨zKl,rfl,h⟩:=q
  have q:=zy h; clear h; obtain ⟨zKm,rfl,h⟩:=q
  have q:=zy h; clear h; obtain ⟨zKn,rfl,h⟩:=q
  exact (zzz zW L p0 zKl zKm zKn k).trans h
 ·cases h
def zaS:CC:=(.seq (.reg [oo 79 (.bin .lss (tq 78) (tq 77))])
 (.seq (.cond (tq 79)
 .skip
 (.seq (.mask (bl 16528282690043758249874 129) (bl 680564733833211346651751552939242551295 129))
 (.exit 6)))
 (.seq (.block 7 (.dreg [] [(oo 80 (.fieldAddr 1 (tq 10)),q0),
   (oo 81 (.load false 1 (tq 80) false),ql 10 [71] [91,92]),
   (oo 82 (.move (tq 13) false),q0),
   (oo 83 (.fieldAddr 1 (tq 10)),q0),
   (oo 84 (.load false 1 (tq 83) false),ql 10 [] [91]),
   (oo 85 (.move (tq 13) false),q0),
   (oo 86 (.indexAddrS 35 (tq 84) (tq 85)),q0),
   (oo 87 (.fieldAddr 34 (tq 86)),q0),
   (oo 88 (.load false 1 (tq 87) true),ql 71 [10] [91]),
   (oo 89 (.move (tq 9) false),q0),
   (oo 90 (.callv (tq 89) [((.const (.sc (.int .i64 520))),0)] []),qc [10,71] []),
   (oo 91 (.buildSlice 1 1 [(.sl 1 [])] [(0,1,(tq 90))]),qn [10,71] []),
   (oo 92 (.append 1 24 (tq 88) (tq 91)),qn [10] []),
   (oo 93 (.indexAddrS 35 (tq 81) (tq 82)),q0),
   (oo 94 (.fieldAddr 34 (tq 93)),q0),
   (oz (.store 1 (tq 94) (tq 92)),q0)]))
 (.reg [oo 95 (.bin .add (tq 78) (.const (.sc (.int .i64 1)))),
   oo 78 (.move (tq 95) false)]))))
def zei:CC:=(.reg [oo 96 (.bin .add (tq 73) (.const (.sc (.int .i64 1)))),
   oo 73 (.move (tq 96) false)])
def zbH:CC:=(.seq (.reg [oo 74 (.bin .lss (tq 73) (tq 72))])
 (.seq (.cond (tq 74)
 .skip
 (.seq (.mask (bl 2361183241434822608018 129) (bl 680564733833211195536024101110595704831 129))
 (.exit 4)))
 (.seq (.block 5 (.seq (.reg [oo 75 (.move (tq 73) false),
   oo 13 (.move (tq 75) false)])
 (.seq (.reg [oo 76 (.move (tq 8) false),
   oo 77 (.callv (tq 76) [((.const (.sc (.int .u64 32))),0)] []),
   oo 78 (.move (.const (.sc (.int .i64 0))) false)])
 (.block 6 (.loop (bl 469875465045529698772882 129) (bl 680564733833211346651751552939242551295 129)
 zaS)))))
 zei)))
def zcU:CC:=(.seq (.reg [oo 48 (.bin .lss (tq 47) (tq 46))])
 (.seq (.cond (tq 48)
 .skip
 (.seq (.mask (bl 1938 129) (bl 680564733841876926896772129843851552767 129))
 (.exit 2)))
 (.seq (.block 3 (.seq (.reg [oo 49 (.load false 1 (tq 7) false),
   oo 50 (.call 162 [((tq 49),0),((.const (.fn 173 [])),0)] []),
   oo 12 (.move (tq 50) false)])
 (.seq (.seq (.reg [oo 51 (.move (tq 12) false),
   oo 52 (.bin .geq (tq 51) (.const (.sc (.int .u64 9223372036854775808))))])
 (.cond (tq 52)
 (.reg [oo 53 (.load false 1 (tq 7) false),
   oo 54 (.nilCheck (tq 53)),
   oo 55 (.fieldAddr 2 (tq 54)),
   oz (.store 1 (tq 55) (.const (.sc (.int .i64 90))))])
 .skip))
 (.dreg [] [(oo 56 (.fieldAddr 2 (tq 10)),q0),
   (oo 57 (.load false 1 (tq 56) true),ql 10 [] [63]),
   (oo 58 (.move (tq 12) false),q0),
   (oo 59 (.conv .i64 (tq 58)),q0),
   (oo 60 (.move (tq 9) false),q0),
   (oo 61 (.callv (tq 60) [((.const (.sc (.int .i64 520))),0)] []),qc [10] []),
   (oo 62 (.build [(.sc (.int .i64 0)),(.gs 1 [])] [(0,1,(tq 59)),(1,1,(tq 61))]),q0),
   (oo 63 (.buildSlice 2 1 [(.sc (.int .i64 0)),(.sl 1 [])] [(0,2,(tq 62))]),qn [10] []),
   (oo 64 (.append 2 32 (tq 57) (tq 63)),q0),
   (oo 65 (.fieldAddr 2 (tq 10)),q0),
   (oz (.store 1 (tq 65) (tq 64)),q0)]))))
 (.reg [oo 66 (.bin .add (tq 47) (.const (.sc (.int .i64 1)))),
   oo 47 (.move (tq 66) false)]))))
def zdi:CC:=(.seq (.reg [oo 26 (.bin .lss (tq 25) (tq 24))])
 (.seq (.cond (tq 26)
 .skip
 (.seq (.mask (bl 1938 129) (bl 680564733841876926926749208193183774719 129))
 (.exit 0)))
 (.seq (.block 1 (.seq (.reg [oo 11 (.alloc true (rp 32 (.sc (.int .u8 0)) (rp 2 (.sc (.int .u32 0)) (rp 1 (.gs 1 []) []))))])
 (.seq (.reg [oo 27 (.load false 1 (tq 7) false),
   oo 28 (.call 171 [((tq 27),0),((.const (.fn 172 [])),0)] []),
   oo 29 (.fieldAddr 0 (tq 11)),
   oo 30 (.fieldAddr 0 (tq 29)),
   oz (.store 32 (tq 30) (tq 28))])
 (.seq (.reg [oo 31 (.load false 1 (tq 7) false),
   oo 32 (.call 169 [((tq 31),0),((.const (.fn 170 [])),0)] []),
   oo 33 (.fieldAddr 0 (tq 11)),
   oo 34 (.fieldAddr 32 (tq 33)),
   oz (.store 1 (tq 34) (tq 32))])
 (.seq (.reg [oo 35 (.load false 1 (tq 7) false),
   oo 36 (.call 169 [((tq 35),0),((.const (.fn 170 [])),0)] []),
   oo 37 (.fieldAddr 33 (tq 11)),
   oz (.store 1 (tq 37) (tq 36))])
 (.reg [oo 38 (.fieldAddr 1 (tq 10)),
   oo 39 (.load false 1 (tq 38) true),
   oo 40 (.load true 35 (tq 11) false),
   oo 41 (.buildSlice 35 1 (rp 32 (.sc (.int .u8 0)) (rp 2 (.sc (.int .u32 0)) (rp 1 (.sl 1 []) []))) [(0,35,(tq 40))]),
   oo 42 (.appendF 35 64 (tq 39) (tq 41)),
   oo 43 (.fieldAddr 1 (tq 10)),
   oz (.store 1 (tq 43) (tq 42))]))))))
 (.reg [oo 44 (.bin .add (tq 25) (.const (.sc (.int .i64 1)))),
   oo 25 (.move (tq 44) false)]))))
def zhy:CC:=(.seq (.seq (.reg [oo 97 (.load false 1 (tq 7) false),
   oo 98 (.nilCheck (tq 97)),
   oo 99 (.fieldAddr 2 (tq 98)),
   oo 100 (.load false 1 (tq 99) false),
   oo 101 (.bin .eql (tq 100) (.const (.sc (.int .i64 0)))),
   oo 102 (.move (tq 101) false),
   ⟨(some 103),false,(some (102,true)),.load false 1 (tq 7) false⟩,
   ⟨(some 104),false,(some (102,true)),.nilCheck (tq 103)⟩,
   ⟨(some 105),false,(some (102,true)),.fieldAddr 1 (tq 104)⟩,
   ⟨(some 106),false,(some (102,true)),.load false 1 (tq 105) false⟩,
   ⟨(some 107),false,(some (102,true)),.move (tq 1) false⟩,
   ⟨(some 108),false,(some (102,true)),.bin .sub (tq 106) (tq 107)⟩,
   ⟨(some 109),false,(some (102,true)),.bin .gtr (tq 108) (.const (.sc (.int .i64 20000)))⟩,
   oo 110 (.pick (tq 102) (tq 109) (.const (.sc (.bool false))))])
 (.cond (tq 110)
 (.reg [oo 111 (.load false 1 (tq 7) false),
   oo 112 (.nilCheck (tq 111)),
   oo 113 (.fieldAddr 2 (tq 112)),
   oz (.store 1 (tq 113) (.const (.sc (.int .i64 4))))])
 .skip))
 (.seq (.seq (.reg [oo 114 (.load false 1 (tq 7) false),
   oo 115 (.nilCheck (tq 114)),
   oo 116 (.fieldAddr 2 (tq 115)),
   oo 117 (.load false 1 (tq 116) false),
   oo 118 (.bin .neq (tq 117) (.const (.sc (.int .i64 0))))])
 (.cond (tq 118)
 (.seq (.dreg [] [(oo 119 (.build [(.sc (.int .u32 0)),(.sl 35 []),(.sl 2 []),(.sc (.int .u32 0))] []),q0),
   (oo 120 (.load false 1 (tq 7) false),ql 7 [4] []),
   (oo 121 (.nilCheck (tq 120)),q0),
   (oo 122 (.fieldAddr 2 (tq 121)),q0),
   (oo 123 (.load false 1 (tq 122) false),qc [4] []),
   (oz (.store 4 (tq 4) (tq 119)),ql 4 [7] []),
   (oo 5 (.move (.const (.sc (.int .i64 0))) false),q0),
   (oo 6 (.move (tq 123) false),q0)])
 .ret)
 .skip))
 (.seq (.dreg [100071] [(oo 124 (.loadS 4 (tq 10)),qc [7] []),
   (oo 125 (.load false 1 (tq 7) false),ql 7 [4] []),
   (oo 126 (.nilCheck (tq 125)),q0),
   (oo 127 (.fieldAddr 1 (tq 126)),q0),
   (oo 128 (.load false 1 (tq 127) false),qc [4] []),
   (oz (.store 4 (tq 4) (tq 124)),ql 4 [7] []),
   (oo 5 (.move (tq 128) false),q0),
   (oo 6 (.move (.const (.sc (.int .i64 0))) false),q0)])
 .ret)))
def zge:CC:=(.seq (.reg [oo 67 (.load false 1 (tq 7) false),
   oo 68 (.call 169 [((tq 67),0),((.const (.fn 170 [])),0)] []),
   oo 69 (.fieldAddr 3 (tq 10)),
   oz (.store 1 (tq 69) (tq 68))])
 (.seq (.seq (.reg [oo 70 (.fieldAddr 1 (tq 10)),
   oo 71 (.pinC false 35 (tq 70)),
   oo 72 (.lenS (tq 71)),
   oo 73 (.move (.const (.sc (.int .i64 0))) false)])
 (.block 4 (.loop (bl 16528282690043758249874 129) (bl 680564733833211195536024101110595704831 129)
 zbH)))
 zhy))
def zg7:CC:=(.seq (.seq (.reg [oo 45 (.move (tq 8) false),
   oo 46 (.callv (tq 45) [((.const (.sc (.int .u64 64))),0)] []),
   oo 47 (.move (.const (.sc (.int .i64 0))) false)])
 (.block 2 (.loop (bl 211106232534930 129) (bl 680564733841876926896772129843851552767 129)
 zcU)))
 zge)
def zcb:CF:=⟨129,[.cell 4 true 4,.tmp 5,.tmp 6],
 (.seq (.reg [oo 4 (.alloc true [(.sc (.int .u32 0)),(.gs 35 []),(.gs 2 []),(.sc (.int .u32 0))]),
   oo 5 (.move (.const (.sc (.int .i64 0))) false),
   oo 6 (.move (.const (.sc (.int .i64 0))) false)])
 (.seq (.reg [oo 14 (.move (tq 0) false),
   oo 15 (.move (tq 1) false),
   oo 16 (.build [(.gs 1 []),(.sc (.int .i64 0)),(.sc (.int .i64 0))] [(0,1,(tq 14)),(1,1,(tq 15))]),
   oo 17 (.box false (tq 16)),
   oo 7 (.alloc false [(.sc (.pointer none))]),
   oz (.store 1 (tq 7) (tq 17))])
 (.seq (.reg [oo 18 (.makeFunc 161 [(tq 7)]),
   oo 8 (.move (tq 18) false)])
 (.seq (.reg [oo 19 (.makeFunc 165 [(tq 7)]),
   oo 9 (.move (tq 19) false)])
 (.seq (.reg [oo 10 (.alloc false [(.sc (.int .u32 0)),(.fr 35 []),(.gs 2 []),(.sc (.int .u32 0))])])
 (.seq (.reg [oo 20 (.load false 1 (tq 7) false),
   oo 21 (.call 169 [((tq 20),0),((.const (.fn 170 [])),0)] []),
   oo 22 (.fieldAddr 0 (tq 10)),
   oz (.store 1 (tq 22) (tq 21))])
 (.seq (.seq (.reg [oo 23 (.move (tq 8) false),
   oo 24 (.callv (tq 23) [((.const (.sc (.int .u64 64))),0)] []),
   oo 25 (.move (.const (.sc (.int .i64 0))) false)])
 (.block 0 (.loop (bl 50333586 129) (bl 680564733841876926926749208193183774719 129)
 zdi)))
 zg7)))))))⟩
def zuR:Hint:=⟨[(0,0),(8,0),(12,1),(19,1),(27,8)],[],[none,some ((bl 50333586 129),(bl 680564733841876926926749208193183774719 129)),none,some ((bl 1938 129),(bl 680564733841876926926749208193183774719 129)),none,none,some ((bl 211106232534930 129),(bl 680564733841876926896772129843851552767 129)),none,some ((bl 1938 129),(bl 680564733841876926896772129843851552767 129)),none,none,none,some ((bl 16528282690043758249874 129),(bl 680564733833211195536024101110595704831 129)),none,some ((bl 2361183241434822608018 129),(bl 680564733833211195536024101110595704831 129)),none,none,some ((bl 469875465045529698772882 129),(bl 680564733833211346651751552939242551295 129)),none,some ((bl 16528282690043758249874 129),(bl 680564733833211346651751552939242551295 129)),none,none,none,none,none],[(34,[100071])],[(1,2,[0]),(19,6,[0]),(4,0,[1]),(12,4,[0]),(22,1,[1]),(34,0,[1,1])],false,false,[(27,71)]⟩
def xO:Nat→Sh:=yP [(88,(.gs 1))]
def yO (yc:zr) (xe:xB) (xb:yo) (xa:zn) (ye:zC) (L:Nat):CBC:=(xv 165 (zmY ye L) (xv 162 (ze4 xa L) (xv 171 (zfE xb L) (xv 161 (zm5 xe L) (xv 169 (zg6 yc L) noC)))))
def zfM:St→St:=y4 0 (bl 50333586 129) (bl 680564733841876926926749208193183774719 129)
def ze0:St→St:=y4 0 (bl 211106232534930 129) (bl 680564733841876926896772129843851552767 129)
def zbc:St→St:=y4 0 (bl 16528282690043758249874 129) (bl 680564733833211195536024101110595704831 129)
def zb0:St→St:=y4 0 (bl 469875465045529698772882 129) (bl 680564733833211346651751552939242551295 129)
def zdS (p1 p24 p25 zJV:Int) (zJW zJX:List (List V)) (zJY zJZ:Int) (zKf zJ1:List (List V)) (zJ0:Int) (zJ4:List (List V)) (zJ2 zJ3:Int):St:=⟨(jn 1 ((V.sc (.int .i64 p1))::(jn 2 ((V.ptr 4 0)::(jn 2 ((V.ptr 7 0)::((V.fn 161 [(V.ptr 7 0)])::((V.fn 165 [(V.ptr 7 0)])::((V.ptr 10 0)::(jn 13 ((V.sc (.int .i64 p24))::((V.sc (.int .i64 p25))::(jn 103 []))))))))))))),(gn 4 ((.live true [(V.sc (.int .u32 zJV)),(V.gs 35 zJW),(V.gs 2 zJX),(V.sc (.int .u32 zJY))])::(gn 2 ((.live false [(V.ptr 17 0)])::(gn 2 ((.live false [(V.sc (.int .u32 zJZ)),(V.fr 35 zKf),(V.gs 2 zJ1),(V.sc (.int .u32 zJ0))])::(gn 6 ((.live false [(V.sl 1 zJ4),(V.sc (.int .i64 zJ2)),(V.sc (.int .i64 zJ3))])::(gn 111 [])))))))))⟩
def zjX (p1 zJV:Int) (zJW zJX:List (List V)) (zJY zJZ:Int) (zKf zJ1:List (List V)) (zJ0:Int) (zJ4:List (List V)) (zJ2 zJ3:Int):St:=⟨(jn 1 ((V.sc (.int .i64 p1))::(jn 2 ((V.ptr 4 0)::(jn 2 ((V.ptr 7 0)::((V.fn 161 [(V.ptr 7 0)])::((V.fn 165 [(V.ptr 7 0)])::((V.ptr 10 0)::(jn 118 [])))))))))),(gn 4 ((.live true [(V.sc (.int .u32 zJV)),(V.gs 35 zJW),(V.gs 2 zJX),(V.sc (.int .u32 zJY))])::(gn 2 ((.live false [(V.ptr 17 0)])::(gn 2 ((.live false [(V.sc (.int .u32 zJZ)),(V.fr 35 zKf),(V.gs 2 zJ1),(V.sc (.int .u32 zJ0))])::(gn 6 ((.live false [(V.sl 1 zJ4),(V.sc (.int .i64 zJ2)),(V.sc (.int .i64 zJ3))])::(gn 111 [])))))))))⟩
def zdz (p1 p46 p47 zJV:Int) (zJW zJX:List (List V)) (zJY zJZ:Int) (zKf zJ1:List (List V)) (zJ0:Int) (zJ4:List (List V)) (zJ2 zJ3:Int):St:=⟨(jn 1 ((V.sc (.int .i64 p1))::(jn 2 ((V.ptr 4 0)::(jn 2 ((V.ptr 7 0)::((V.fn 161 [(V.ptr 7 0)])::((V.fn 165 [(V.ptr 7 0)])::((V.ptr 10 0)::(jn 35 ((V.sc (.int .i64 p46))::((V.sc (.int .i64 p47))::(jn 81 []))))))))))))),(gn 4 ((.live true [(V.sc (.int .u32 zJV)),(V.gs 35 zJW),(V.gs 2 zJX),(V.sc (.int .u32 zJY))])::(gn 2 ((.live false [(V.ptr 17 0)])::(gn 2 ((.live false [(V.sc (.int .u32 zJZ)),(V.fr 35 zKf),(V.gs 2 zJ1),(V.sc (.int .u32 zJ0))])::(gn 6 ((.live false [(V.sl 1 zJ4),(V.sc (.int .i64 zJ2)),(V.sc (.int .i64 zJ3))])::(gn 111 [])))))))))⟩
def zkc (p1 zJV:Int) (zJW zJX:List (List V)) (zJY zJZ:Int) (zKf zJ1:List (List V)) (zJ0:Int) (zJ4:List (List V)) (zJ2 zJ3:Int):St:=⟨(jn 1 ((V.sc (.int .i64 p1))::(jn 2 ((V.ptr 4 0)::(jn 2 ((V.ptr 7 0)::((V.fn 161 [(V.ptr 7 0)])::((V.fn 165 [(V.ptr 7 0)])::((V.ptr 10 0)::(jn 118 [])))))))))),(gn 4 ((.live true [(V.sc (.int .u32 zJV)),(V.gs 35 zJW),(V.gs 2 zJX),(V.sc (.int .u32 zJY))])::(gn 2 ((.live false [(V.ptr 17 0)])::(gn 2 ((.live false [(V.sc (.int .u32 zJZ)),(V.fr 35 zKf),(V.gs 2 zJ1),(V.sc (.int .u32 zJ0))])::(gn 6 ((.live false [(V.sl 1 zJ4),(V.sc (.int .i64 zJ2)),(V.sc (.int .i64 zJ3))])::(gn 111 [])))))))))⟩
def zbb (p1:Int) (p71l:Nat) (p72 p73 zJV:Int) (zJW zJX:List (List V)) (zJY zJZ:Int) (zJ9:Nat) (zJ1:List (List V)) (zJ0:Int) (zJ4:List (List V)) (zJ2 zJ3:Int) (b71:List V):St:=⟨(jn 1 ((V.sc (.int .i64 p1))::(jn 2 ((V.ptr 4 0)::(jn 2 ((V.ptr 7 0)::((V.fn 161 [(V.ptr 7 0)])::((V.fn 165 [(V.ptr 7 0)])::((V.ptr 10 0)::(jn 60 ((V.own 71 0 p71l 35)::((V.sc (.int .i64 p72))::((V.sc (.int .i64 p73))::(jn 55 [])))))))))))))),(gn 4 ((.live true [(V.sc (.int .u32 zJV)),(V.gs 35 zJW),(V.gs 2 zJX),(V.sc (.int .u32 zJY))])::(gn 2 ((.live false [(V.ptr 17 0)])::(gn 2 ((.live false [(V.sc (.int .u32 zJZ)),(V.own 71 0 zJ9 35),(V.gs 2 zJ1),(V.sc (.int .u32 zJ0))])::(gn 6 ((.live false [(V.sl 1 zJ4),(V.sc (.int .i64 zJ2)),(V.sc (.int .i64 zJ3))])::(gn 53 ((.live false b71)::(gn 57 [])))))))))))⟩
def zbr (p1 p13:Int) (p71l:Nat) (p72 p73 p77 p78 zJV:Int) (zJW zJX:List (List V)) (zJY zJZ:Int) (zJ9:Nat) (zJ1:List (List V)) (zJ0:Int) (zJ4:List (List V)) (zJ2 zJ3:Int) (b71:List V):St:=⟨(jn 1 ((V.sc (.int .i64 p1))::(jn 2 ((V.ptr 4 0)::(jn 2 ((V.ptr 7 0)::((V.fn 161 [(V.ptr 7 0)])::((V.fn 165 [(V.ptr 7 0)])::((V.ptr 10 0)::(jn 2 ((V.sc (.int .i64 p13))::(jn 57 ((V.own 71 0 p71l 35)::((V.sc (.int .i64 p72))::((V.sc (.int .i64 p73))::(jn 3 ((V.sc (.int .i64 p77))::((V.sc (.int .i64 p78))::(jn 50 []))))))))))))))))))),(gn 4 ((.live true [(V.sc (.int .u32 zJV)),(V.gs 35 zJW),(V.gs 2 zJX),(V.sc (.int .u32 zJY))])::(gn 2 ((.live false [(V.ptr 17 0)])::(gn 2 ((.live false [(V.sc (.int .u32 zJZ)),(V.own 71 0 zJ9 35),(V.gs 2 zJ1),(V.sc (.int .u32 zJ0))])::(gn 6 ((.live false [(V.sl 1 zJ4),(V.sc (.int .i64 zJ2)),(V.sc (.int .i64 zJ3))])::(gn 53 ((.live false b71)::(gn 57 [])))))))))))⟩
def zj8 (p1:Int) (p71l:Nat) (zJV:Int) (zJW zJX:List (List V)) (zJY zJZ:Int) (zJ9:Nat) (zJ1:List (List V)) (zJ0:Int) (zJ4:List (List V)) (zJ2 zJ3:Int) (b71:List V):St:=⟨(jn 1 ((V.sc (.int .i64 p1))::(jn 2 ((V.ptr 4 0)::(jn 2 ((V.ptr 7 0)::(jn 2 ((V.ptr 10 0)::(jn 60 ((V.own 71 0 p71l 35)::(jn 57 []))))))))))),(gn 4 ((.live true [(V.sc (.int .u32 zJV)),(V.gs 35 zJW),(V.gs 2 zJX),(V.sc (.int .u32 zJY))])::(gn 2 ((.live false [(V.ptr 17 0)])::(gn 2 ((.live false [(V.sc (.int .u32 zJZ)),(V.own 71 0 zJ9 35),(V.gs 2 zJ1),(V.sc (.int .u32 zJ0))])::(gn 6 ((.live false [(V.sl 1 zJ4),(V.sc (.int .i64 zJ2)),(V.sc (.int .i64 zJ3))])::(gn 53 ((.live false b71)::(gn 57 [])))))))))))⟩
def zoa (p1:Int) (p71l:Nat) (p72 p73 zJV:Int) (zJW zJX:List (List V)) (zJY zJZ:Int) (zJ9:Nat) (zJ1:List (List V)) (zJ0:Int) (zJ4:List (List V)) (zJ2 zJ3:Int) (b71:List V):St:=⟨(jn 1 ((V.sc (.int .i64 p1))::(jn 2 ((V.ptr 4 0)::(jn 2 ((V.ptr 7 0)::((V.fn 161 [(V.ptr 7 0)])::((V.fn 165 [(V.ptr 7 0)])::((V.ptr 10 0)::(jn 60 ((V.own 71 0 p71l 35)::((V.sc (.int .i64 p72))::((V.sc (.int .i64 p73))::(jn 55 [])))))))))))))),(gn 4 ((.live true [(V.sc (.int .u32 zJV)),(V.gs 35 zJW),(V.gs 2 zJX),(V.sc (.int .u32 zJY))])::(gn 2 ((.live false [(V.ptr 17 0)])::(gn 2 ((.live false [(V.sc (.int .u32 zJZ)),(V.own 71 0 zJ9 35),(V.gs 2 zJ1),(V.sc (.int .u32 zJ0))])::(gn 6 ((.live false [(V.sl 1 zJ4),(V.sc (.int .i64 zJ2)),(V.sc (.int .i64 zJ3))])::(gn 53 ((.live false b71)::(gn 57 [])))))))))))⟩
abbrev zeX (β:Type):Type:=Int→Int→Int→Int→List (List V)→List (List V)→Int→Int→List (List V)→List (List V)→Int→List (List V)→Int→Int→Option β
abbrev zhr (β:Type):Type:=Int→Int→List (List V)→List (List V)→Int→Int→List (List V)→List (List V)→Int→List (List V)→Int→Int→Option β
abbrev zes (β:Type):Type:=Int→Int→Int→Int→List (List V)→List (List V)→Int→Int→List (List V)→List (List V)→Int→List (List V)→Int→Int→Option β
abbrev zhq (β:Type):Type:=Int→Int→List (List V)→List (List V)→Int→Int→List (List V)→List (List V)→Int→List (List V)→Int→Int→Option β
abbrev zf1 (β:Type):Type:=Int→Nat→Int→Int→Int→List (List V)→List (List V)→Int→Int→Nat→List (List V)→Int→List (List V)→Int→Int→List V→Option β
abbrev zbQ (β:Type):Type:=Int→Int→Nat→Int→Int→Int→Int→Int→List (List V)→List (List V)→Int→Int→Nat→List (List V)→Int→List (List V)→Int→Int→List V→Option β
abbrev zjw (β:Type):Type:=Int→Nat→Int→List (List V)→List (List V)→Int→Int→Nat→List (List V)→Int→List (List V)→Int→Int→List V→Option β
abbrev zfU (β:Type):Type:=Int→Nat→Int→Int→Int→List (List V)→List (List V)→Int→Int→Nat→List (List V)→Int→List (List V)→Int→Int→List V→Option β
def zqD {β:Type} (yc:zr) (xe:xB) (xb:yo) (xa:zn) (ye:zC) (L:Nat) (p0:List (List V)) (p1:Int) (k_hbbbbbbaba:zeX β):Option β :=
 yc β L p0 p1 (0:Int) (fun v0 v1 v2 v3 =>
 xe β L (64:Int) v1 v2 v3 (fun v4 v5 v6 v7 =>
 k_hbbbbbbaba p1 v4 (0:Int) (0:Int) ([]:List (List V)) ([]:List (List V)) (0:Int) v0 ([]:List (List V)) ([]:List (List V)) (0:Int) v5 v6 v7))
theorem zCY {β:Type} (yc:zr) (xe:xB) (xb:yo) (xa:zn) (ye:zC) (L:Nat) (p0:List (List V)) (p1:Int) (k:KK β):yt xO (yO yc xe xb xa ye L) L zcb [(V.sl 1 p0),(V.sc (.int .i64 p1))] [] k=zqD yc xe xb xa ye L p0 p1 (fun p1 p24 p25 zJV zJW zJX zJY zJZ zKf zJ1 zJ0 zJ4 zJ2 zJ3=>yB (yk xO (yO yc xe xb xa ye L) 0 L zdi) zfM L (zdS p1 p24 p25 zJV zJW zJX zJY zJZ zKf zJ1 zJ0 zJ4 zJ2 zJ3) (zw 0 (yR (yk xO (yO yc xe xb xa ye L) 0 L zg7) (y6 0 (CF.res zcb) k)))):=by kernel_rfl
def zcB {β:Type} (yc:zr) (xe:xB) (xb:yo) (xa:zn) (ye:zC) (L:Nat) (p1 p24 p25 zJV:Int) (zJW zJX:List (List V)) (zJY zJZ:Int) (zKf zJ1:List (List V)) (zJ0:Int) (zJ4:List (List V)) (zJ2 zJ3:Int) (k_hbbbbbbaba:zeX β) (k_x0:zhr β):Option β :=
 ifb (decide (p25 < p24)) (
 xb β L zJ4 zJ2 zJ3 (fun v8 v9 v10 v11 =>
 chk ((List.length v8)=32∧0+32≤35) (
 lt (yl (List.replicate 32 (V.sc (.int .u8 (0:Int)))++[(V.sc (.int .u32 (0:Int))),(V.sc (.int .u32 (0:Int))),(V.gs 1 ([]:List (List V)))]) 0 v8) fun r12 =>
 yc β L v9 v10 v11 (fun v13 v14 v15 v16 =>
 chk (1=1∧32+1≤(List.length r12)) (
 lt (yl r12 32 [(V.sc (.int .u32 v13))]) fun r17 =>
 yc β L v14 v15 v16 (fun v18 v19 v20 v21 =>
 chk (1=1∧33+1≤(List.length r17)) (
 lt (yl r17 33 [(V.sc (.int .u32 v18))]) fun r22 =>
 chk (0+35≤(List.length r22)) (
 chk ((List.length (List.take 35 r22))=35∧0+35≤35) (
 chk ((List.length zKf+List.length (xj 35 1 (yl (List.replicate 32 (V.sc (.int .u8 (0:Int)))++[(V.sc (.int .u32 (0:Int))),(V.sc (.int .u32 (0:Int))),(V.sl 1 ([]:List (List V)))]) 0 (List.take 35 r22)))) * 64≤yn∧List.length zKf+List.length (xj 35 1 (yl (List.replicate 32 (V.sc (.int .u8 (0:Int)))++[(V.sc (.int .u32 (0:Int))),(V.sc (.int .u32 (0:Int))),(V.sl 1 ([]:List (List V)))]) 0 (List.take 35 r22)))≤yn∧List.length zKf+List.length (xj 35 1 (yl (List.replicate 32 (V.sc (.int .u8 (0:Int)))++[(V.sc (.int .u32 (0:Int))),(V.sc (.int .u32 (0:Int))),(V.sl 1 ([]:List (List V)))]) 0 (List.take 35 r22)))≠0) (
 lt (zKf++(xj 35 1 (yl (List.replicate 32 (V.sc (.int .u8 (0:Int)))++[(V.sc (.int .u32 (0:Int))),(V.sc (.int .u32 (0:Int))),(V.sl 1 ([]:List (List V)))]) 0 (List.take 35 r22)))) fun l23 =>
 lt (IntKind.wrap .i64 ((p25:Int)+(1:Int))) fun x24 =>
 k_hbbbbbbaba p1 p24 x24 zJV zJW zJX zJY zJZ l23 zJ1 zJ0 v19 v20 v21)))))))))) (
 k_x0 p1 zJV zJW zJX zJY zJZ zKf zJ1 zJ0 zJ4 zJ2 zJ3)
theorem zsu {β:Type} (yc:zr) (xe:xB) (xb:yo) (xa:zn) (ye:zC) (L:Nat) (p1 p24 p25 zJV:Int) (zJW zJX:List (List V)) (zJY zJZ:Int) (zKf zJ1:List (List V)) (zJ0:Int) (zJ4:List (List V)) (zJ2 zJ3:Int) (X:St→Option β) (K:KT β):yk xO (yO yc xe xb xa ye L) 0 L zdi (zdS p1 p24 p25 zJV zJW zJX zJY zJZ zKf zJ1 zJ0 zJ4 zJ2 zJ3) (y9 zfM X K)=zcB yc xe xb xa ye L p1 p24 p25 zJV zJW zJX zJY zJZ zKf zJ1 zJ0 zJ4 zJ2 zJ3 (fun p1 p24 p25 zJV zJW zJX zJY zJZ zKf zJ1 zJ0 zJ4 zJ2 zJ3=>X (zdS p1 p24 p25 zJV zJW zJX zJY zJZ zKf zJ1 zJ0 zJ4 zJ2 zJ3)) (fun p1 zJV zJW zJX zJY zJZ zKf zJ1 zJ0 zJ4 zJ2 zJ3=>K (.exit 0) (zjX p1 zJV zJW zJX zJY zJZ zKf zJ1 zJ0 zJ4 zJ2 zJ3)):=by kernel_rfl
def zcR {β:Type} (yc:zr) (xe:xB) (xb:yo) (xa:zn) (ye:zC) (L:Nat) (p1 zJV:Int) (zJW zJX:List (List V)) (zJY zJZ:Int) (zKf zJ1:List (List V)) (zJ0:Int) (zJ4:List (List V)) (zJ2 zJ3:Int) (k_hbbbbbbbaba:zes β):Option β :=
 xe β L (64:Int) zJ4 zJ2 zJ3 (fun v25 v26 v27 v28 =>
 k_hbbbbbbbaba p1 v25 (0:Int) zJV zJW zJX zJY zJZ zKf zJ1 zJ0 v26 v27 v28)
theorem zqo {β:Type} (yc:zr) (xe:xB) (xb:yo) (xa:zn) (ye:zC) (L:Nat) (p1 zJV:Int) (zJW zJX:List (List V)) (zJY zJZ:Int) (zKf zJ1:List (List V)) (zJ0:Int) (zJ4:List (List V)) (zJ2 zJ3:Int) (k:KK β):(zw 0 (yR (yk xO (yO yc xe xb xa ye L) 0 L zg7) (y6 0 (CF.res zcb) k))) (.exit 0) (zjX p1 zJV zJW zJX zJY zJZ zKf zJ1 zJ0 zJ4 zJ2 zJ3)=zcR yc xe xb xa ye L p1 zJV zJW zJX zJY zJZ zKf zJ1 zJ0 zJ4 zJ2 zJ3 (fun p1 p46 p47 zJV zJW zJX zJY zJZ zKf zJ1 zJ0 zJ4 zJ2 zJ3=>yB (yk xO (yO yc xe xb xa ye L) 0 L zcU) ze0 L (zdz p1 p46 p47 zJV zJW zJX zJY zJZ zKf zJ1 zJ0 zJ4 zJ2 zJ3) (zw 2 (yR (yk xO (yO yc xe xb xa ye L) 0 L zge) (y6 0 (CF.res zcb) k)))):=by kernel_rfl
def zco {β:Type} (yc:zr) (xe:xB) (xb:yo) (xa:zn) (ye:zC) (L:Nat) (p1 p46 p47 zJV:Int) (zJW zJX:List (List V)) (zJY zJZ:Int) (zKf zJ1:List (List V)) (zJ0:Int) (zJ4:List (List V)) (zJ2 zJ3:Int) (k_hbbbbbbbaba:zes β) (k_x2:zhq β):Option β :=
 ifb (decide (p47 < p46)) (
 xa β L zJ4 zJ2 zJ3 (fun v29 v30 v31 v32 =>
 ifb (decide (v29 ≥ (9223372036854775808:Int))) (
 lt (IntKind.wrap .i64 v29) fun x33 =>
 ye β L (520:Int) v30 v31 (90:Int) (fun v34 v35 v36 v37 =>
 chk ((List.length zJ1+List.length (xj 2 1 [(V.sc (.int .i64 x33)),(V.sl 1 v34)])) * 32≤yn∧List.length zJ1+List.length (xj 2 1 [(V.sc (.int .i64 x33)),(V.sl 1 v34)])≤yn) (
 lt (zJ1++(xj 2 1 [(V.sc (.int .i64 x33)),(V.sl 1 v34)])) fun l38 =>
 lt (IntKind.wrap .i64 ((p47:Int)+(1:Int))) fun x39 =>
 k_hbbbbbbbaba p1 p46 x39 zJV zJW zJX zJY zJZ zKf l38 zJ0 v35 v36 v37)) (fun v40 v41 v42 v43 =>
 chk ((List.length zJ1+List.length (xj 2 1 [(V.sc (.int .i64 x33)),(V.sl 1 v40)])) * 32≤yn∧List.length zJ1+List.length (xj 2 1 [(V.sc (.int .i64 x33)),(V.sl 1 v40)])≤yn) (
 lt (zJ1++(xj 2 1 [(V.sc (.int .i64 x33)),(V.sl 1 v40)])) fun l44 =>
 lt (IntKind.wrap .i64 ((p47:Int)+(1:Int))) fun x45 =>
 k_hbbbbbbbaba p1 p46 x45 zJV zJW zJX zJY zJZ zKf l44 zJ0 v41 v42 v43))) (
 lt (IntKind.wrap .i64 v29) fun x46 =>
 ye β L (520:Int) v30 v31 v32 (fun v47 v48 v49 v50 =>
 chk ((List.length zJ1+List.length (xj 2 1 [(V.sc (.int .i64 x46)),(V.sl 1 v47)])) * 32≤yn∧List.length zJ1+List.length (xj 2 1 [(V.sc (.int .i64 x46)),(V.sl 1 v47)])≤yn) (
 lt (zJ1++(xj 2 1 [(V.sc (.int .i64 x46)),(V.sl 1 v47)])) fun l51 =>
 lt (IntKind.wrap .i64 ((p47:Int)+(1:Int))) fun x52 =>
 k_hbbbbbbbaba p1 p46 x52 zJV zJW zJX zJY zJZ zKf l51 zJ0 v48 v49 v50)) (fun v53 v54 v55 v56 =>
 chk ((List.length zJ1+List.length (xj 2 1 [(V.sc (.int .i64 x46)),(V.sl 1 v53)])) * 32≤yn∧List.length zJ1+List.length (xj 2 1 [(V.sc (.int .i64 x46)),(V.sl 1 v53)])≤yn) (
 lt (zJ1++(xj 2 1 [(V.sc (.int .i64 x46)),(V.sl 1 v53)])) fun l57 =>
 lt (IntKind.wrap .i64 ((p47:Int)+(1:Int))) fun x58 =>
 k_hbbbbbbbaba p1 p46 x58 zJV zJW zJX zJY zJZ zKf l57 zJ0 v54 v55 v56))))) (
 k_x2 p1 zJV zJW zJX zJY zJZ zKf zJ1 zJ0 zJ4 zJ2 zJ3)
theorem zrd {β:Type} (yc:zr) (xe:xB) (xb:yo) (xa:zn) (ye:zC) (L:Nat) (p1 p46 p47 zJV:Int) (zJW zJX:List (List V)) (zJY zJZ:Int) (zKf zJ1:List (List V)) (zJ0:Int) (zJ4:List (List V)) (zJ2 zJ3:Int) (X:St→Option β) (K:KT β):yk xO (yO yc xe xb xa ye L) 0 L zcU (zdz p1 p46 p47 zJV zJW zJX zJY zJZ zKf zJ1 zJ0 zJ4 zJ2 zJ3) (y9 ze0 X K)=zco yc xe xb xa ye L p1 p46 p47 zJV zJW zJX zJY zJZ zKf zJ1 zJ0 zJ4 zJ2 zJ3 (fun p1 p46 p47 zJV zJW zJX zJY zJZ zKf zJ1 zJ0 zJ4 zJ2 zJ3=>X (zdz p1 p46 p47 zJV zJW zJX zJY zJZ zKf zJ1 zJ0 zJ4 zJ2 zJ3)) (fun p1 zJV zJW zJX zJY zJZ zKf zJ1 zJ0 zJ4 zJ2 zJ3=>K (.exit 2) (zkc p1 zJV zJW zJX zJY zJZ zKf zJ1 zJ0 zJ4 zJ2 zJ3)):=by kernel_rfl
def zcz {β:Type} (yc:zr) (xe:xB) (xb:yo) (xa:zn) (ye:zC) (L:Nat) (p1 zJV:Int) (zJW zJX:List (List V)) (zJY zJZ:Int) (zKf zJ1:List (List V)) (zJ0:Int) (zJ4:List (List V)) (zJ2 zJ3:Int) (k_hbbbbbbbbbaba:zf1 β):Option β :=
 yc β L zJ4 zJ2 zJ3 (fun v59 v60 v61 v62 =>
 lt (List.flatten zKf) fun r63 =>
 k_hbbbbbbbbbaba p1 (List.length zKf) (((List.length zKf):Nat):Int) (0:Int) zJV zJW zJX zJY zJZ (List.length zKf) zJ1 v59 v60 v61 v62 (zba (bl 680564733833211195536024101110595704831 129) r63))
theorem zpr {β:Type} (yc:zr) (xe:xB) (xb:yo) (xa:zn) (ye:zC) (L:Nat) (p1 zJV:Int) (zJW zJX:List (List V)) (zJY zJZ:Int) (zKf zJ1:List (List V)) (zJ0:Int) (zJ4:List (List V)) (zJ2 zJ3:Int) (k:KK β):(zw 2 (yR (yk xO (yO yc xe xb xa ye L) 0 L zge) (y6 0 (CF.res zcb) k))) (.exit 2) (zkc p1 zJV zJW zJX zJY zJZ zKf zJ1 zJ0 zJ4 zJ2 zJ3)=zcz yc xe xb xa ye L p1 zJV zJW zJX zJY zJZ zKf zJ1 zJ0 zJ4 zJ2 zJ3 (fun p1 p71l p72 p73 zJV zJW zJX zJY zJZ zJ9 zJ1 zJ0 zJ4 zJ2 zJ3 b71=>yB (yk xO (yO yc xe xb xa ye L) 0 L zbH) zbc L (zbb p1 p71l p72 p73 zJV zJW zJX zJY zJZ zJ9 zJ1 zJ0 zJ4 zJ2 zJ3 b71) (zw 4 (yR (yk xO (yO yc xe xb xa ye L) 0 L zhy) (y6 0 (CF.res zcb) k)))):=by kernel_rfl
def zcC {β:Type} (yc:zr) (xe:xB) (xb:yo) (xa:zn) (ye:zC) (L:Nat) (p1:Int) (p71l:Nat) (p72 p73 zJV:Int) (zJW zJX:List (List V)) (zJY zJZ:Int) (zJ9:Nat) (zJ1:List (List V)) (zJ0:Int) (zJ4:List (List V)) (zJ2 zJ3:Int) (b71:List V) (k_hbbbbbbbbbabaabbaabba:zbQ β) (k_x4:zjw β):Option β :=
 ifb (decide (p73 < p72)) (
 xe β L (32:Int) zJ4 zJ2 zJ3 (fun v64 v65 v66 v67 =>
 k_hbbbbbbbbbabaabbaabba p1 p73 p71l p72 p73 v64 (0:Int) zJV zJW zJX zJY zJZ zJ9 zJ1 zJ0 v65 v66 v67 (zba (bl 680564733833211346651751552939242551295 129) b71))) (
 k_x4 p1 p71l zJV zJW zJX zJY zJZ zJ9 zJ1 zJ0 zJ4 zJ2 zJ3 (zba (bl 680564733833211195536024101110595704831 129) b71))
theorem zpo {β:Type} (yc:zr) (xe:xB) (xb:yo) (xa:zn) (ye:zC) (L:Nat) (p1:Int) (p71l:Nat) (p72 p73 zJV:Int) (zJW zJX:List (List V)) (zJY zJZ:Int) (zJ9:Nat) (zJ1:List (List V)) (zJ0:Int) (zJ4:List (List V)) (zJ2 zJ3:Int) (b71:List V) (X:St→Option β) (K:KT β):yk xO (yO yc xe xb xa ye L) 0 L zbH (zbb p1 p71l p72 p73 zJV zJW zJX zJY zJZ zJ9 zJ1 zJ0 zJ4 zJ2 zJ3 b71) (y9 zbc X K)=zcC yc xe xb xa ye L p1 p71l p72 p73 zJV zJW zJX zJY zJZ zJ9 zJ1 zJ0 zJ4 zJ2 zJ3 b71 (fun p1 p13 p71l p72 p73 p77 p78 zJV zJW zJX zJY zJZ zJ9 zJ1 zJ0 zJ4 zJ2 zJ3 b71=>yB (yk xO (yO yc xe xb xa ye L) 0 L zaS) zb0 L (zbr p1 p13 p71l p72 p73 p77 p78 zJV zJW zJX zJY zJZ zJ9 zJ1 zJ0 zJ4 zJ2 zJ3 b71) (zw 6 (zw 5 (yR (yk xO (yO yc xe xb xa ye L) 0 L zei) (y9 zbc X K))))) (fun p1 p71l zJV zJW zJX zJY zJZ zJ9 zJ1 zJ0 zJ4 zJ2 zJ3 b71=>K (.exit 4) (zj8 p1 p71l zJV zJW zJX zJY zJZ zJ9 zJ1 zJ0 zJ4 zJ2 zJ3 b71)):=by kernel_rfl
def zV {β:Type} (yc:zr) (xe:xB) (xb:yo) (xa:zn) (ye:zC) (L:Nat) (p1:Int) (p71l:Nat) (zJV:Int) (zJW zJX:List (List V)) (zJY zJZ:Int) (zJ9:Nat) (zJ1:List (List V)) (zJ0:Int) (zJ4:List (List V)) (zJ2 zJ3:Int) (b71:List V) (k_fin:List V→Int→Int→Option β):Option β :=
 ifb ((zJ3:Int) == (0:Int)) (
 lt (IntKind.wrap .i64 ((zJ2:Int) - p1)) fun x68 =>
 ifb (decide (x68 > (20000:Int))) (
 lt [(V.sc (.int .u32 (0:Int))),(V.sl 35 ([]:List (List V))),(V.sl 2 ([]:List (List V))),(V.sc (.int .u32 (0:Int)))] fun r69 =>
 chk (0=0∧(List.length r69)=4∧4≠0) (
 k_fin r69 (0:Int) (4:Int))) (
 ifb ((zJ3:Int) != (0:Int)) (
 lt [(V.sc (.int .u32 (0:Int))),(V.sl 35 ([]:List (List V))),(V.sl 2 ([]:List (List V))),(V.sc (.int .u32 (0:Int)))] fun r70 =>
 chk (0=0∧(List.length r70)=4∧4≠0) (
 k_fin r70 (0:Int) zJ3)) (
 lc b71 (
 chk (zJ9=0) (
 lt [(V.sc (.int .u32 zJZ)),(V.sl 35 ([]:List (List V))),(V.sl 2 zJ1),(V.sc (.int .u32 zJ0))] fun r74 =>
 chk (0=0∧(List.length r74)=4∧4≠0) (
 k_fin r74 zJ2 (0:Int)))) (fun h71 t72 =>
 zc4 (h71::t72) fun f73 =>
 lt [(V.sc (.int .u32 zJZ)),(V.sl 35 (xj 35 zJ9 f73)),(V.sl 2 zJ1),(V.sc (.int .u32 zJ0))] fun r75 =>
 chk (0=0∧(List.length r75)=4∧4≠0) (
 k_fin r75 zJ2 (0:Int)))))) (
 ifb ((zJ3:Int) != (0:Int)) (
 lt [(V.sc (.int .u32 (0:Int))),(V.sl 35 ([]:List (List V))),(V.sl 2 ([]:List (List V))),(V.sc (.int .u32 (0:Int)))] fun r76 =>
 chk (0=0∧(List.length r76)=4∧4≠0) (
 k_fin r76 (0:Int) zJ3)) (
 lc b71 (
 chk (zJ9=0) (
 lt [(V.sc (.int .u32 zJZ)),(V.sl 35 ([]:List (List V))),(V.sl 2 zJ1),(V.sc (.int .u32 zJ0))] fun r80 =>
 chk (0=0∧(List.length r80)=4∧4≠0) (
 k_fin r80 zJ2 (0:Int)))) (fun h77 t78 =>
 zc4 (h77::t78) fun f79 =>
 lt [(V.sc (.int .u32 zJZ)),(V.sl 35 (xj 35 zJ9 f79)),(V.sl 2 zJ1),(V.sc (.int .u32 zJ0))] fun r81 =>
 chk (0=0∧(List.length r81)=4∧4≠0) (
 k_fin r81 zJ2 (0:Int)))))
theorem zn5 {β:Type} (yc:zr) (xe:xB) (xb:yo) (xa:zn) (ye:zC) (L:Nat) (p1:Int) (p71l:Nat) (zJV:Int) (zJW zJX:List (List V)) (zJY zJZ:Int) (zJ9:Nat) (zJ1:List (List V)) (zJ0:Int) (zJ4:List (List V)) (zJ2 zJ3:Int) (b71:List V) (k:KK β):(zw 4 (yR (yk xO (yO yc xe xb xa ye L) 0 L zhy) (y6 0 (CF.res zcb) k))) (.exit 4) (zj8 p1 p71l zJV zJW zJX zJY zJZ zJ9 zJ1 zJ0 zJ4 zJ2 zJ3 b71)=zV yc xe xb xa ye L p1 p71l zJV zJW zJX zJY zJZ zJ9 zJ1 zJ0 zJ4 zJ2 zJ3 b71 (fun zKg zKh zKi=>k (V.tup [(V.agg zKg),(V.sc (.int .i64 zKh)),(V.sc (.int .i64 zKi))]) []):=by kernel_rfl
def z6 {β:Type} (yc:zr) (xe:xB) (xb:yo) (xa:zn) (ye:zC) (L:Nat) (p1 p13:Int) (p71l:Nat) (p72 p73 p77 p78 zJV:Int) (zJW zJX:List (List V)) (zJY zJZ:Int) (zJ9:Nat) (zJ1:List (List V)) (zJ0:Int) (zJ4:List (List V)) (zJ2 zJ3:Int) (b71:List V) (k_hbbbbbbbbbabaabbaabba:zbQ β) (k_x6:zfU β):Option β :=
 ifb (decide (p78 < p77)) (
 chk (0≤p13∧p13 < ((zJ9:Nat):Int)) (
 cG 1 b71 ((0+((Int.toNat p13) * 35))+34) fun g82 =>
 ye β L (520:Int) zJ4 zJ2 zJ3 (fun v83 v84 v85 v86 =>
 chk ((List.length g82+List.length (xj 1 1 [(V.sl 1 v83)])) * 24≤yn∧List.length g82+List.length (xj 1 1 [(V.sl 1 v83)])≤yn) (
 lt (g82++(xj 1 1 [(V.sl 1 v83)])) fun l87 =>
 chk (0≤p13∧p13 < ((zJ9:Nat):Int)) (
 chk (1=1∧((0+((Int.toNat p13) * 35))+34) < (List.length (List.set b71 ((0+((Int.toNat p13) * 35))+34) (V.sl 1 g82)))) (
 lt (IntKind.wrap .i64 ((p78:Int)+(1:Int))) fun x88 =>
 k_hbbbbbbbbbabaabbaabba p1 p13 p71l p72 p73 p77 x88 zJV zJW zJX zJY zJZ zJ9 zJ1 zJ0 v84 v85 v86 (zba (bl 680564733833211346651751552939242551295 129) (List.set (List.set b71 ((0+((Int.toNat p13) * 35))+34) (V.sl 1 g82)) ((0+((Int.toNat p13) * 35))+34) (V.gs 1 l87))))))) (fun v89 v90 v91 v92 =>
 chk ((List.length g82+List.length (xj 1 1 [(V.sl 1 v89)])) * 24≤yn∧List.length g82+List.length (xj 1 1 [(V.sl 1 v89)])≤yn) (
 lt (g82++(xj 1 1 [(V.sl 1 v89)])) fun l93 =>
 chk (0≤p13∧p13 < ((zJ9:Nat):Int)) (
 chk (1=1∧((0+((Int.toNat p13) * 35))+34) < (List.length (List.set b71 ((0+((Int.toNat p13) * 35))+34) (V.sl 1 g82)))) (
 lt (IntKind.wrap .i64 ((p78:Int)+(1:Int))) fun x94 =>
 k_hbbbbbbbbbabaabbaabba p1 p13 p71l p72 p73 p77 x94 zJV zJW zJX zJY zJZ zJ9 zJ1 zJ0 v90 v91 v92 (zba (bl 680564733833211346651751552939242551295 129) (List.set (List.set b71 ((0+((Int.toNat p13) * 35))+34) (V.sl 1 g82)) ((0+((Int.toNat p13) * 35))+34) (V.gs 1 l93))))))))) (
 k_x6 p1 p71l p72 p73 zJV zJW zJX zJY zJZ zJ9 zJ1 zJ0 zJ4 zJ2 zJ3 (zba (bl 680564733833211346651751552939242551295 129) b71))
theorem zkq {β:Type} (yc:zr) (xe:xB) (xb:yo) (xa:zn) (ye:zC) (L:Nat) (p1 p13:Int) (p71l:Nat) (p72 p73 p77 p78 zJV:Int) (zJW zJX:List (List V)) (zJY zJZ:Int) (zJ9:Nat) (zJ1:List (List V)) (zJ0:Int) (zJ4:List (List V)) (zJ2 zJ3:Int) (b71:List V) (X:St→Option β) (K:KT β):yk xO (yO yc xe xb xa ye L) 0 L zaS (zbr p1 p13 p71l p72 p73 p77 p78 zJV zJW zJX zJY zJZ zJ9 zJ1 zJ0 zJ4 zJ2 zJ3 b71) (y9 zb0 X K)=z6 yc xe xb xa ye L p1 p13 p71l p72 p73 p77 p78 zJV zJW zJX zJY zJZ zJ9 zJ1 zJ0 zJ4 zJ2 zJ3 b71 (fun p1 p13 p71l p72 p73 p77 p78 zJV zJW zJX zJY zJZ zJ9 zJ1 zJ0 zJ4 zJ2 zJ3 b71=>X (zbr p1 p13 p71l p72 p73 p77 p78 zJV zJW zJX zJY zJZ zJ9 zJ1 zJ0 zJ4 zJ2 zJ3 b71)) (fun p1 p71l p72 p73 zJV zJW zJX zJY zJZ zJ9 zJ1 zJ0 zJ4 zJ2 zJ3 b71=>K (.exit 6) (zoa p1 p71l p72 p73 zJV zJW zJX zJY zJZ zJ9 zJ1 zJ0 zJ4 zJ2 zJ3 b71)):=by kernel_rfl
def zH {β:Type} (yc:zr) (xe:xB) (xb:yo) (xa:zn) (ye:zC) (L:Nat) (p1:Int) (p71l:Nat) (p72 p73 zJV:Int) (zJW zJX:List (List V)) (zJY zJZ:Int) (zJ9:Nat) (zJ1:List (List V)) (zJ0:Int) (zJ4:List (List V)) (zJ2 zJ3:Int) (b71:List V) (k_hbbbbbbbbbaba:zf1 β):Option β :=
 lt (IntKind.wrap .i64 ((p73:Int)+(1:Int))) fun x95 =>
 k_hbbbbbbbbbaba p1 p71l p72 x95 zJV zJW zJX zJY zJZ zJ9 zJ1 zJ0 zJ4 zJ2 zJ3 (zba (bl 680564733833211195536024101110595704831 129) b71)
theorem zjc {β:Type} (yc:zr) (xe:xB) (xb:yo) (xa:zn) (ye:zC) (L:Nat) (p1:Int) (p71l:Nat) (p72 p73 zJV:Int) (zJW zJX:List (List V)) (zJY zJZ:Int) (zJ9:Nat) (zJ1:List (List V)) (zJ0:Int) (zJ4:List (List V)) (zJ2 zJ3:Int) (b71:List V) (X:St→Option β) (K:KT β):(zw 6 (zw 5 (yR (yk xO (yO yc xe xb xa ye L) 0 L zei) (y9 zbc X K)))) (.exit 6) (zoa p1 p71l p72 p73 zJV zJW zJX zJY zJZ zJ9 zJ1 zJ0 zJ4 zJ2 zJ3 b71)=zH yc xe xb xa ye L p1 p71l p72 p73 zJV zJW zJX zJY zJZ zJ9 zJ1 zJ0 zJ4 zJ2 zJ3 b71 (fun p1 p71l p72 p73 zJV zJW zJX zJY zJZ zJ9 zJ1 zJ0 zJ4 zJ2 zJ3 b71=>X (zbb p1 p71l p72 p73 zJV zJW zJX zJY zJZ zJ9 zJ1 zJ0 zJ4 zJ2 zJ3 b71)):=by kernel_rfl
def xY {β:Type} (yc:zr) (xe:xB) (xb:yo) (xa:zn) (ye:zC) (L:Nat) (k_x0:zhr β):Nat→Int→Int→Int→Int→List (List V)→List (List V)→Int→Int→List (List V)→List (List V)→Int→List (List V)→Int→Int→Option β
 | 0,_,_,_,_,_,_,_,_,_,_,_,_,_,_=>none
 | n+1,p1,p24,p25,zJV,zJW,zJX,zJY,zJZ,zKf,zJ1,zJ0,zJ4,zJ2,zJ3=>zcB yc xe xb xa ye L p1 p24 p25 zJV zJW zJX zJY zJZ zKf zJ1 zJ0 zJ4 zJ2 zJ3 (fun p1 p24 p25 zJV zJW zJX zJY zJZ zKf zJ1 zJ0 zJ4 zJ2 zJ3=>xY yc xe xb xa ye L k_x0 n p1 p24 p25 zJV zJW zJX zJY zJZ zKf zJ1 zJ0 zJ4 zJ2 zJ3) k_x0
theorem zkK {β:Type} (yc:zr) (xe:xB) (xb:yo) (xa:zn) (ye:zC) (L:Nat) (K:KT β):∀ (n:Nat) (p1 p24 p25 zJV:Int) (zJW zJX:List (List V)) (zJY zJZ:Int) (zKf zJ1:List (List V)) (zJ0:Int) (zJ4:List (List V)) (zJ2 zJ3:Int),yB (yk xO (yO yc xe xb xa ye L) 0 L zdi) zfM n (zdS p1 p24 p25 zJV zJW zJX zJY zJZ zKf zJ1 zJ0 zJ4 zJ2 zJ3) K=xY yc xe xb xa ye L (fun p1 zJV zJW zJX zJY zJZ zKf zJ1 zJ0 zJ4 zJ2 zJ3=>K (.exit 0) (zjX p1 zJV zJW zJX zJY zJZ zKf zJ1 zJ0 zJ4 zJ2 zJ3)) n p1 p24 p25 zJV zJW zJX zJY zJZ zKf zJ1 zJ0 zJ4 zJ2 zJ3:=by
 intro n
 induction n with
 | zero=>intros; rfl
 | succ n ih =>
  intro p1 p24 p25 zJV zJW zJX zJY zJZ zKf zJ1 zJ0 zJ4 zJ2 zJ3
  refine (zsu yc xe xb xa ye L p1 p24 p25 zJV zJW zJX zJY zJZ zKf zJ1 zJ0 zJ4 zJ2 zJ3 (fun σ=>yB (yk xO (yO yc xe xb xa ye L) 0 L zdi) zfM n σ K) K).trans ?_
  simp only [ih]
  rfl
def z9 {β:Type} (yc:zr) (xe:xB) (xb:yo) (xa:zn) (ye:zC) (L:Nat) (k_x2:zhq β):Nat→Int→Int→Int→Int→List (List V)→List (List V)→Int→Int→List (List V)→List (List V)→Int→List (List V)→Int→Int→Option β
 | 0,_,_,_,_,_,_,_,_,_,_,_,_,_,_=>none
 | n+1,p1,p46,p47,zJV,zJW,zJX,zJY,zJZ,zKf,zJ1,zJ0,zJ4,zJ2,zJ3=>zco yc xe xb xa ye L p1 p46 p47 zJV zJW zJX zJY zJZ zKf zJ1 zJ0 zJ4 zJ2 zJ3 (fun p1 p46 p47 zJV zJW zJX zJY zJZ zKf zJ1 zJ0 zJ4 zJ2 zJ3=>z9 yc xe xb xa ye L k_x2 n p1 p46 p47 zJV zJW zJX zJY zJZ zKf zJ1 zJ0 zJ4 zJ2 zJ3) k_x2
theorem zjE {β:Type} (yc:zr) (xe:xB) (xb:yo) (xa:zn) (ye:zC) (L:Nat) (K:KT β):∀ (n:Nat) (p1 p46 p47 zJV:Int) (zJW zJX:List (List V)) (zJY zJZ:Int) (zKf zJ1:List (List V)) (zJ0:Int) (zJ4:List (List V)) (zJ2 zJ3:Int),yB (yk xO (yO yc xe xb xa ye L) 0 L zcU) ze0 n (zdz p1 p46 p47 zJV zJW zJX zJY zJZ zKf zJ1 zJ0 zJ4 zJ2 zJ3) K=z9 yc xe xb xa ye L (fun p1 zJV zJW zJX zJY zJZ zKf zJ1 zJ0 zJ4 zJ2 zJ3=>K (.exit 2) (zkc p1 zJV zJW zJX zJY zJZ zKf zJ1 zJ0 zJ4 zJ2 zJ3)) n p1 p46 p47 zJV zJW zJX zJY zJZ zKf zJ1 zJ0 zJ4 zJ2 zJ3:=by
 intro n
 induction n with
 | zero=>intros; rfl
 | succ n ih =>
  intro p1 p46 p47 zJV zJW zJX zJY zJZ zKf zJ1 zJ0 zJ4 zJ2 zJ3
  refine (zrd yc xe xb xa ye L p1 p46 p47 zJV zJW zJX zJY zJZ zKf zJ1 zJ0 zJ4 zJ2 zJ3 (fun σ=>yB (yk xO (yO yc xe xb xa ye L) 0 L zcU) ze0 n σ K) K).trans ?_
  simp only [ih]
  rfl
def yG {β:Type} (yc:zr) (xe:xB) (xb:yo) (xa:zn) (ye:zC) (L:Nat) (k_x6:zfU β):Nat→Int→Int→Nat→Int→Int→Int→Int→Int→List (List V)→List (List V)→Int→Int→Nat→List (List V)→Int→List (List V)→Int→Int→List V→Option β
 | 0,_,_,_,_,_,_,_,_,_,_,_,_,_,_,_,_,_,_,_=>none
 | n+1,p1,p13,p71l,p72,p73,p77,p78,zJV,zJW,zJX,zJY,zJZ,zJ9,zJ1,zJ0,zJ4,zJ2,zJ3,b71=>z6 yc xe xb xa ye L p1 p13 p71l p72 p73 p77 p78 zJV zJW zJX zJY zJZ zJ9 zJ1 zJ0 zJ4 zJ2 zJ3 b71 (fun p1 p13 p71l p72 p73 p77 p78 zJV zJW zJX zJY zJZ zJ9 zJ1 zJ0 zJ4 zJ2 zJ3 b71=>yG yc xe xb xa ye L k_x6 n p1 p13 p71l p72 p73 p77 p78 zJV zJW zJX zJY zJZ zJ9 zJ1 zJ0 zJ4 zJ2 zJ3 b71) k_x6
theorem zeH {β:Type} (yc:zr) (xe:xB) (xb:yo) (xa:zn) (ye:zC) (L:Nat) (K:KT β):∀ (n:Nat) (p1 p13:Int) (p71l:Nat) (p72 p73 p77 p78 zJV:Int) (zJW zJX:List (List V)) (zJY zJZ:Int) (zJ9:Nat) (zJ1:List (List V)) (zJ0:Int) (zJ4:List (List V)) (zJ2 zJ3:Int) (b71:List V),yB (yk xO (yO yc xe xb xa ye L) 0 L zaS) zb0 n (zbr p1 p13 p71l p72 p73 p77 p78 zJV zJW zJX zJY zJZ zJ9 zJ1 zJ0 zJ4 zJ2 zJ3 b71) K=yG yc xe xb xa ye L (fun p1 p71l p72 p73 zJV zJW zJX zJY zJZ zJ9 zJ1 zJ0 zJ4 zJ2 zJ3 b71=>K (.exit 6) (zoa p1 p71l p72 p73 zJV zJW zJX zJY zJZ zJ9 zJ1 zJ0 zJ4 zJ2 zJ3 b71)) n p1 p13 p71l p72 p73 p77 p78 zJV zJW zJX zJY zJZ zJ9 zJ1 zJ0 zJ4 zJ2 zJ3 b71:=by
 intro n
 induction n with
 | zero=>intros; rfl
 | succ n ih =>
  intro p1 p13 p71l p72 p73 p77 p78 zJV zJW zJX zJY zJZ zJ9 zJ1 zJ0 zJ4 zJ2 zJ3 b71
  refine (zkq yc xe xb xa ye L p1 p13 p71l p72 p73 p77 p78 zJV zJW zJX zJY zJZ zJ9 zJ1 zJ0 zJ4 zJ2 zJ3 b71 (fun σ=>yB (yk xO (yO yc xe xb xa ye L) 0 L zaS) zb0 n σ K) K).trans ?_
  simp only [ih]
  rfl
def zbE {β:Type} (yc:zr) (xe:xB) (xb:yo) (xa:zn) (ye:zC) (L:Nat) (p1:Int) (p71l:Nat) (p72 p73 zJV:Int) (zJW zJX:List (List V)) (zJY zJZ:Int) (zJ9:Nat) (zJ1:List (List V)) (zJ0:Int) (zJ4:List (List V)) (zJ2 zJ3:Int) (b71:List V) (k_x4:zjw β) (k_hbbbbbbbbbaba:zf1 β):Option β :=
 zcC yc xe xb xa ye L p1 p71l p72 p73 zJV zJW zJX zJY zJZ zJ9 zJ1 zJ0 zJ4 zJ2 zJ3 b71 (fun p1 p13 p71l p72 p73 p77 p78 zJV zJW zJX zJY zJZ zJ9 zJ1 zJ0 zJ4 zJ2 zJ3 b71=>yG yc xe xb xa ye L (fun p1 p71l p72 p73 zJV zJW zJX zJY zJZ zJ9 zJ1 zJ0 zJ4 zJ2 zJ3 b71=>zH yc xe xb xa ye L p1 p71l p72 p73 zJV zJW zJX zJY zJZ zJ9 zJ1 zJ0 zJ4 zJ2 zJ3 b71 k_hbbbbbbbbbaba) L p1 p13 p71l p72 p73 p77 p78 zJV zJW zJX zJY zJZ zJ9 zJ1 zJ0 zJ4 zJ2 zJ3 b71) k_x4
theorem zoX {β:Type} (yc:zr) (xe:xB) (xb:yo) (xa:zn) (ye:zC) (L:Nat) (p1:Int) (p71l:Nat) (p72 p73 zJV:Int) (zJW zJX:List (List V)) (zJY zJZ:Int) (zJ9:Nat) (zJ1:List (List V)) (zJ0:Int) (zJ4:List (List V)) (zJ2 zJ3:Int) (b71:List V) (X:St→Option β) (K:KT β):yk xO (yO yc xe xb xa ye L) 0 L zbH (zbb p1 p71l p72 p73 zJV zJW zJX zJY zJZ zJ9 zJ1 zJ0 zJ4 zJ2 zJ3 b71) (y9 zbc X K)=zbE yc xe xb xa ye L p1 p71l p72 p73 zJV zJW zJX zJY zJZ zJ9 zJ1 zJ0 zJ4 zJ2 zJ3 b71 (fun p1 p71l zJV zJW zJX zJY zJZ zJ9 zJ1 zJ0 zJ4 zJ2 zJ3 b71=>K (.exit 4) (zj8 p1 p71l zJV zJW zJX zJY zJZ zJ9 zJ1 zJ0 zJ4 zJ2 zJ3 b71)) (fun p1 p71l p72 p73 zJV zJW zJX zJY zJZ zJ9 zJ1 zJ0 zJ4 zJ2 zJ3 b71=>X (zbb p1 p71l p72 p73 zJV zJW zJX zJY zJZ zJ9 zJ1 zJ0 zJ4 zJ2 zJ3 b71)):=by
 refine (zpo yc xe xb xa ye L p1 p71l p72 p73 zJV zJW zJX zJY zJZ zJ9 zJ1 zJ0 zJ4 zJ2 zJ3 b71 X K).trans ?_
 unfold zbE
 first
  | (simp only [zeH,zjc]; done)
  | (simp only [zeH]; rfl)
def yI {β:Type} (yc:zr) (xe:xB) (xb:yo) (xa:zn) (ye:zC) (L:Nat) (k_x4:zjw β):Nat→Int→Nat→Int→Int→Int→List (List V)→List (List V)→Int→Int→Nat→List (List V)→Int→List (List V)→Int→Int→List V→Option β
 | 0,_,_,_,_,_,_,_,_,_,_,_,_,_,_,_,_=>none
 | n+1,p1,p71l,p72,p73,zJV,zJW,zJX,zJY,zJZ,zJ9,zJ1,zJ0,zJ4,zJ2,zJ3,b71=>zbE yc xe xb xa ye L p1 p71l p72 p73 zJV zJW zJX zJY zJZ zJ9 zJ1 zJ0 zJ4 zJ2 zJ3 b71 k_x4 (fun p1 p71l p72 p73 zJV zJW zJX zJY zJZ zJ9 zJ1 zJ0 zJ4 zJ2 zJ3 b71=>yI yc xe xb xa ye L k_x4 n p1 p71l p72 p73 zJV zJW zJX zJY zJZ zJ9 zJ1 zJ0 zJ4 zJ2 zJ3 b71)
theorem zic {β:Type} (yc:zr) (xe:xB) (xb:yo) (xa:zn) (ye:zC) (L:Nat) (K:KT β):∀ (n:Nat) (p1:Int) (p71l:Nat) (p72 p73 zJV:Int) (zJW zJX:List (List V)) (zJY zJZ:Int) (zJ9:Nat) (zJ1:List (List V)) (zJ0:Int) (zJ4:List (List V)) (zJ2 zJ3:Int) (b71:List V),yB (yk xO (yO yc xe xb xa ye L) 0 L zbH) zbc n (zbb p1 p71l p72 p73 zJV zJW zJX zJY zJZ zJ9 zJ1 zJ0 zJ4 zJ2 zJ3 b71) K=yI yc xe xb xa ye L (fun p1 p71l zJV zJW zJX zJY zJZ zJ9 zJ1 zJ0 zJ4 zJ2 zJ3 b71=>K (.exit 4) (zj8 p1 p71l zJV zJW zJX zJY zJZ zJ9 zJ1 zJ0 zJ4 zJ2 zJ3 b71)) n p1 p71l p72 p73 zJV zJW zJX zJY zJZ zJ9 zJ1 zJ0 zJ4 zJ2 zJ3 b71:=by
 intro n
 induction n with
 | zero=>intros; rfl
 | succ n ih =>
  intro p1 p71l p72 p73 zJV zJW zJX zJY zJZ zJ9 zJ1 zJ0 zJ4 zJ2 zJ3 b71
  refine (zoX yc xe xb xa ye L p1 p71l p72 p73 zJV zJW zJX zJY zJZ zJ9 zJ1 zJ0 zJ4 zJ2 zJ3 b71 (fun σ=>yB (yk xO (yO yc xe xb xa ye L) 0 L zbH) zbc n σ K) K).trans ?_
  simp only [ih]
  rfl
def xS {β:Type} (yc:zr) (xe:xB) (xb:yo) (xa:zn) (ye:zC) (L:Nat) (p1 zJV:Int) (zJW zJX:List (List V)) (zJY zJZ:Int) (zKf zJ1:List (List V)) (zJ0:Int) (zJ4:List (List V)) (zJ2 zJ3:Int) (k_fin:List V→Int→Int→Option β):Option β :=
 zcz yc xe xb xa ye L p1 zJV zJW zJX zJY zJZ zKf zJ1 zJ0 zJ4 zJ2 zJ3 (fun p1 p71l p72 p73 zJV zJW zJX zJY zJZ zJ9 zJ1 zJ0 zJ4 zJ2 zJ3 b71=>yI yc xe xb xa ye L (fun p1 p71l zJV zJW zJX zJY zJZ zJ9 zJ1 zJ0 zJ4 zJ2 zJ3 b71=>zV yc xe xb xa ye L p1 p71l zJV zJW zJX zJY zJZ zJ9 zJ1 zJ0 zJ4 zJ2 zJ3 b71 k_fin) L p1 p71l p72 p73 zJV zJW zJX zJY zJZ zJ9 zJ1 zJ0 zJ4 zJ2 zJ3 b71)
theorem zoH {β:Type} (yc:zr) (xe:xB) (xb:yo) (xa:zn) (ye:zC) (L:Nat) (p1 zJV:Int) (zJW zJX:List (List V)) (zJY zJZ:Int) (zKf zJ1:List (List V)) (zJ0:Int) (zJ4:List (List V)) (zJ2 zJ3:Int) (k:KK β):(zw 2 (yR (yk xO (yO yc xe xb xa ye L) 0 L zge) (y6 0 (CF.res zcb) k))) (.exit 2) (zkc p1 zJV zJW zJX zJY zJZ zKf zJ1 zJ0 zJ4 zJ2 zJ3)=xS yc xe xb xa ye L p1 zJV zJW zJX zJY zJZ zKf zJ1 zJ0 zJ4 zJ2 zJ3 (fun zKg zKh zKi=>k (V.tup [(V.agg zKg),(V.sc (.int .i64 zKh)),(V.sc (.int .i64 zKi))]) []):=by
 refine (zpr yc xe xb xa ye L p1 zJV zJW zJX zJY zJZ zKf zJ1 zJ0 zJ4 zJ2 zJ3 k).trans ?_
 unfold xS
 first
  | (simp only [zic,zn5]; done)
  | (simp only [zic]; rfl)
def zR {β:Type} (yc:zr) (xe:xB) (xb:yo) (xa:zn) (ye:zC) (L:Nat) (p1 zJV:Int) (zJW zJX:List (List V)) (zJY zJZ:Int) (zKf zJ1:List (List V)) (zJ0:Int) (zJ4:List (List V)) (zJ2 zJ3:Int) (k_fin:List V→Int→Int→Option β):Option β :=
 zcR yc xe xb xa ye L p1 zJV zJW zJX zJY zJZ zKf zJ1 zJ0 zJ4 zJ2 zJ3 (fun p1 p46 p47 zJV zJW zJX zJY zJZ zKf zJ1 zJ0 zJ4 zJ2 zJ3=>z9 yc xe xb xa ye L (fun p1 zJV zJW zJX zJY zJZ zKf zJ1 zJ0 zJ4 zJ2 zJ3=>xS yc xe xb xa ye L p1 zJV zJW zJX zJY zJZ zKf zJ1 zJ0 zJ4 zJ2 zJ3 k_fin) L p1 p46 p47 zJV zJW zJX zJY zJZ zKf zJ1 zJ0 zJ4 zJ2 zJ3)
theorem zpS {β:Type} (yc:zr) (xe:xB) (xb:yo) (xa:zn) (ye:zC) (L:Nat) (p1 zJV:Int) (zJW zJX:List (List V)) (zJY zJZ:Int) (zKf zJ1:List (List V)) (zJ0:Int) (zJ4:List (List V)) (zJ2 zJ3:Int) (k:KK β):(zw 0 (yR (yk xO (yO yc xe xb xa ye L) 0 L zg7) (y6 0 (CF.res zcb) k))) (.exit 0) (zjX p1 zJV zJW zJX zJY zJZ zKf zJ1 zJ0 zJ4 zJ2 zJ3)=zR yc xe xb xa ye L p1 zJV zJW zJX zJY zJZ zKf zJ1 zJ0 zJ4 zJ2 zJ3 (fun zKg zKh zKi=>k (V.tup [(V.agg zKg),(V.sc (.int .i64 zKh)),(V.sc (.int .i64 zKi))]) []):=by
 refine (zqo yc xe xb xa ye L p1 zJV zJW zJX zJY zJZ zKf zJ1 zJ0 zJ4 zJ2 zJ3 k).trans ?_
 unfold zR
 first
  | (simp only [zjE,zoH]; done)
  | (simp only [zjE]; rfl)
def znu {β:Type} (yc:zr) (xe:xB) (xb:yo) (xa:zn) (ye:zC) (L:Nat) (p0:List (List V)) (p1:Int) (k_fin:List V→Int→Int→Option β):Option β :=
 zqD yc xe xb xa ye L p0 p1 (fun p1 p24 p25 zJV zJW zJX zJY zJZ zKf zJ1 zJ0 zJ4 zJ2 zJ3=>xY yc xe xb xa ye L (fun p1 zJV zJW zJX zJY zJZ zKf zJ1 zJ0 zJ4 zJ2 zJ3=>zR yc xe xb xa ye L p1 zJV zJW zJX zJY zJZ zKf zJ1 zJ0 zJ4 zJ2 zJ3 k_fin) L p1 p24 p25 zJV zJW zJX zJY zJZ zKf zJ1 zJ0 zJ4 zJ2 zJ3)
theorem zCD {β:Type} (yc:zr) (xe:xB) (xb:yo) (xa:zn) (ye:zC) (L:Nat) (p0:List (List V)) (p1:Int) (k:KK β):yt xO (yO yc xe xb xa ye L) L zcb [(V.sl 1 p0),(V.sc (.int .i64 p1))] [] k=znu yc xe xb xa ye L p0 p1 (fun zKg zKh zKi=>k (V.tup [(V.agg zKg),(V.sc (.int .i64 zKh)),(V.sc (.int .i64 zKi))]) []):=by
 refine (zCY yc xe xb xa ye L p0 p1 k).trans ?_
 unfold znu
 first
  | (simp only [zkK,zpS]; done)
  | (simp only [zkK]; rfl)
abbrev zh6:=∀ (β:Type),Nat→List (List V)→Int→(List V→Int→Int→Option β)→Option β
def yS (β:Type) (L:Nat) (p0:List (List V)) (p1:Int) (k_fin:List V→Int→Int→Option β):Option β:=znu yc xe xb xa ye L p0 p1 k_fin
def znh (yS:zh6) (L:Nat) (β:Type) (args:List V) (bor:Bor) (k:KK β):Option β:=match args,bor with
 | [a0,a1],[]=>aL 1 a0 fun p0=>aI .i64 a1 fun p1=>yS β L p0 p1 (fun zKg zKh zKi=>k (V.tup [(V.agg zKg),(V.sc (.int .i64 zKh)),(V.sc (.int .i64 zKi))]) [])
 | _,_=>none
theorem zB7 (L:Nat) (β:Type) (args:List V) (bor:Bor) (k:KK β) (r:β) (h:znh yS L β args bor k=some r):yt xO (yO yc xe xb xa ye L) L zcb args bor k=some r:=by
 unfold znh at h
 split at h
 ·have q:=zM h; clear h; obtain ⟨p0,rfl,h⟩:=q
  have q:=zy h; clear h; obtain ⟨p1,rfl,h⟩:=q
  exact (zCD yc xe xb xa ye L p0 p1 k).trans h
 ·cases h
def zcq:CC:=(.seq (.seq (.reg [oo 27 (.move (tq 10) false),
   oo 28 (.bin .geq (tq 27) (.const (.sc (.int .i64 0))))])
 (.cond (tq 28)
 .skip
 (.seq (.mask (bl 518 45) (bl 35184372087807 45))
 (.exit 0))))
 (.seq (.block 1 (.reg [oo 31 (.move (tq 9) false),
   oo 32 (.bin .shl (tq 31) (.const (.sc (.int .u64 8)))),
   oo 33 (.move (tq 0) false),
   oo 34 (.move (tq 1) false),
   oo 35 (.move (tq 10) false),
   oo 36 (.bin .add (tq 34) (tq 35)),
   oo 37 (.indexAddrS 1 (tq 33) (tq 36)),
   oo 38 (.load false 1 (tq 37) false),
   oo 39 (.conv .u64 (tq 38)),
   oo 40 (.bin .or (tq 32) (tq 39)),
   oo 9 (.move (tq 40) false)]))
 (.reg [oo 29 (.move (tq 10) false),
   oo 30 (.bin .sub (tq 29) (.const (.sc (.int .i64 1)))),
   oo 10 (.move (tq 30) false)])))
def zhx:CC:=(.seq (.reg [oo 41 (.move (tq 9) false),
   oo 42 (.move (tq 1) false),
   oo 43 (.move (tq 2) false),
   oo 44 (.bin .add (tq 42) (tq 43)),
   oo 6 (.move (tq 41) false),
   oo 7 (.move (tq 44) false),
   oo 8 (.move (.const (.sc (.int .i64 0))) false)])
 .ret)
def zc0:CF:=⟨45,[.tmp 6,.tmp 7,.tmp 8],
 (.seq (.reg [oo 6 (.move (.const (.sc (.int .u64 0))) false),
   oo 7 (.move (.const (.sc (.int .i64 0))) false),
   oo 8 (.move (.const (.sc (.int .i64 0))) false)])
 (.seq (.seq (.reg [oo 11 (.move (tq 1) false),
   oo 12 (.bin .lss (tq 11) (.const (.sc (.int .i64 0)))),
   oo 13 (.move (tq 12) false),
   ⟨(some 14),false,(some (13,false)),.move (tq 1) false⟩,
   ⟨(some 15),false,(some (13,false)),.move (tq 0) false⟩,
   ⟨(some 16),false,(some (13,false)),.lenS (tq 15)⟩,
   ⟨(some 17),false,(some (13,false)),.bin .gtr (tq 14) (tq 16)⟩,
   oo 18 (.pick (tq 13) (.const (.sc (.bool true))) (tq 17))])
 (.cond (tq 18)
 (.seq (.reg [oo 6 (.move (.const (.sc (.int .u64 0))) false),
   oo 7 (.move (.const (.sc (.int .i64 0))) false),
   oo 8 (.move (.const (.sc (.int .i64 5))) false)])
 .ret)
 .skip))
 (.seq (.seq (.reg [oo 19 (.move (tq 0) false),
   oo 20 (.lenS (tq 19)),
   oo 21 (.move (tq 1) false),
   oo 22 (.bin .sub (tq 20) (tq 21)),
   oo 23 (.move (tq 2) false),
   oo 24 (.bin .lss (tq 22) (tq 23))])
 (.cond (tq 24)
 (.seq (.reg [oo 6 (.move (.const (.sc (.int .u64 0))) false),
   oo 7 (.move (.const (.sc (.int .i64 0))) false),
   oo 8 (.move (.const (.sc (.int .i64 1))) false)])
 .ret)
 .skip))
 (.seq (.reg [oo 9 (.move (.const (.sc (.int .u64 0))) false)])
 (.seq (.seq (.reg [oo 25 (.move (tq 2) false),
   oo 26 (.bin .sub (tq 25) (.const (.sc (.int .i64 1)))),
   oo 10 (.move (tq 26) false)])
 (.block 0 (.loop (bl 1543 45) (bl 35184372088831 45)
 zcq)))
 zhx)))))⟩
def zoy:Hint:=⟨[],[],[none,none,none,none,none,some ((bl 1543 45),(bl 35184372088831 45)),none,some ((bl 518 45),(bl 35184372087807 45)),none,none],[],[],false,false,[]⟩
def zbm:Nat→Sh:=yP [(38,(.int .u8))]
def zbl (L:Nat):CBC:=noC
def zdT:St→St:=y4 0 (bl 1543 45) (bl 35184372088831 45)
def zcQ (p0:List (List V)) (p1 p2 p9 p10:Int):St:=⟨((V.sl 1 p0)::((V.sc (.int .i64 p1))::((V.sc (.int .i64 p2))::(jn 6 ((V.sc (.int .u64 p9))::((V.sc (.int .i64 p10))::(jn 34 []))))))),(gn 45 [])⟩
def zij (p1 p2 p9:Int):St:=⟨(jn 1 ((V.sc (.int .i64 p1))::((V.sc (.int .i64 p2))::(jn 6 ((V.sc (.int .u64 p9))::(jn 35 [])))))),(gn 45 [])⟩
def zmq {β:Type} (L:Nat) (p0:List (List V)) (p1 p2:Int) (k_fin:Int→Int→Int→Option β) (k_hbbbbaba:List (List V)→Int→Int→Int→Int→Option β):Option β :=
 ifb (decide (p1 < (0:Int))) (
 k_fin (0:Int) (0:Int) (5:Int)) (
 ifb (decide (p1 > ((List.length p0:Nat):Int))) (
 k_fin (0:Int) (0:Int) (5:Int)) (
 lt (IntKind.wrap .i64 ((((List.length p0:Nat):Int):Int) - p1)) fun x0 =>
 ifb (decide (x0 < p2)) (
 k_fin (0:Int) (0:Int) (1:Int)) (
 lt (IntKind.wrap .i64 ((p2:Int) - (1:Int))) fun x1 =>
 k_hbbbbaba p0 p1 p2 (0:Int) x1)))
theorem zwg {β:Type} (L:Nat) (p0:List (List V)) (p1 p2:Int) (k:KK β):yt zbm (zbl L) L zc0 [(V.sl 1 p0),(V.sc (.int .i64 p1)),(V.sc (.int .i64 p2))] [] k=zmq L p0 p1 p2 (fun zKg zKh zKi=>k (V.tup [(V.sc (.int .u64 zKg)),(V.sc (.int .i64 zKh)),(V.sc (.int .i64 zKi))]) []) (fun p0 p1 p2 p9 p10=>yB (yk zbm (zbl L) 0 L zcq) zdT L (zcQ p0 p1 p2 p9 p10) (zw 0 (yR (yk zbm (zbl L) 0 L zhx) (y6 0 (CF.res zc0) k)))):=by kernel_rfl
def zdN {β:Type} (L:Nat) (p0:List (List V)) (p1 p2 p9 p10:Int) (k_hbbbbaba:List (List V)→Int→Int→Int→Int→Option β) (k_x0:Int→Int→Int→Option β):Option β :=
 ifb (decide (p10 ≥ (0:Int))) (
 lt (zn6 .u64 p9 (8:Int)) fun x2 =>
 lt (IntKind.wrap .i64 ((p1:Int)+p10)) fun x3 =>
 idx p0 x3 fun c4 =>
 cI .u8 c4 0 fun v5 =>
 lt (IntKind.wrap .u64 v5) fun x6 =>
 lt (ior .u64 x2 x6) fun x7 =>
 lt (IntKind.wrap .i64 ((p10:Int) - (1:Int))) fun x8 =>
 k_hbbbbaba p0 p1 p2 x7 x8) (
 k_x0 p1 p2 p9)
theorem zpL {β:Type} (L:Nat) (p0:List (List V)) (p1 p2 p9 p10:Int) (X:St→Option β) (K:KT β):yk zbm (zbl L) 0 L zcq (zcQ p0 p1 p2 p9 p10) (y9 zdT X K)=zdN L p0 p1 p2 p9 p10 (fun p0 p1 p2 p9 p10=>X (zcQ p0 p1 p2 p9 p10)) (fun p1 p2 p9=>K (.exit 0) (zij p1 p2 p9)):=by kernel_rfl
def zde {β:Type} (L:Nat) (p1 p2 p9:Int) (k_fin:Int→Int→Int→Option β):Option β :=
 lt (IntKind.wrap .i64 ((p1:Int)+p2)) fun x9 =>
 k_fin p9 x9 (0:Int)
theorem znI {β:Type} (L:Nat) (p1 p2 p9:Int) (k:KK β):(zw 0 (yR (yk zbm (zbl L) 0 L zhx) (y6 0 (CF.res zc0) k))) (.exit 0) (zij p1 p2 p9)=zde L p1 p2 p9 (fun zKg zKh zKi=>k (V.tup [(V.sc (.int .u64 zKg)),(V.sc (.int .i64 zKh)),(V.sc (.int .i64 zKi))]) []):=by kernel_rfl
def zbX {β:Type} (L:Nat) (k_x0:Int→Int→Int→Option β):Nat→List (List V)→Int→Int→Int→Int→Option β
 | 0,_,_,_,_,_=>none
 | n+1,p0,p1,p2,p9,p10=>zdN L p0 p1 p2 p9 p10 (fun p0 p1 p2 p9 p10=>zbX L k_x0 n p0 p1 p2 p9 p10) k_x0
theorem zh4 {β:Type} (L:Nat) (K:KT β):∀ (n:Nat) (p0:List (List V)) (p1 p2 p9 p10:Int),yB (yk zbm (zbl L) 0 L zcq) zdT n (zcQ p0 p1 p2 p9 p10) K=zbX L (fun p1 p2 p9=>K (.exit 0) (zij p1 p2 p9)) n p0 p1 p2 p9 p10:=by
 intro n
 induction n with
 | zero=>intros; rfl
 | succ n ih =>
  intro p0 p1 p2 p9 p10
  refine (zpL L p0 p1 p2 p9 p10 (fun σ=>yB (yk zbm (zbl L) 0 L zcq) zdT n σ K) K).trans ?_
  simp only [ih]
  rfl
def ziV {β:Type} (L:Nat) (p0:List (List V)) (p1 p2:Int) (k_fin:Int→Int→Int→Option β):Option β :=
 zmq L p0 p1 p2 k_fin (fun p0 p1 p2 p9 p10=>zbX L (fun p1 p2 p9=>zde L p1 p2 p9 k_fin) L p0 p1 p2 p9 p10)
theorem zwm {β:Type} (L:Nat) (p0:List (List V)) (p1 p2:Int) (k:KK β):yt zbm (zbl L) L zc0 [(V.sl 1 p0),(V.sc (.int .i64 p1)),(V.sc (.int .i64 p2))] [] k=ziV L p0 p1 p2 (fun zKg zKh zKi=>k (V.tup [(V.sc (.int .u64 zKg)),(V.sc (.int .i64 zKh)),(V.sc (.int .i64 zKi))]) []):=by
 refine (zwg L p0 p1 p2 k).trans ?_
 unfold ziV
 first
  | (simp only [zh4,znI]; done)
  | (simp only [zh4]; rfl)
abbrev zbD:=∀ (β:Type),Nat→List (List V)→Int→Int→(Int→Int→Int→Option β)→Option β
def xr (β:Type) (L:Nat) (p0:List (List V)) (p1 p2:Int) (k_fin:Int→Int→Int→Option β):Option β:=ziV L p0 p1 p2 k_fin
def zez (xr:zbD) (L:Nat) (β:Type) (args:List V) (bor:Bor) (k:KK β):Option β:=match args,bor with
 | [a0,a1,a2],[]=>aL 1 a0 fun p0=>aI .i64 a1 fun p1=>aI .i64 a2 fun p2=>xr β L p0 p1 p2 (fun zKg zKh zKi=>k (V.tup [(V.sc (.int .u64 zKg)),(V.sc (.int .i64 zKh)),(V.sc (.int .i64 zKi))]) [])
 | _,_=>none
theorem zvY (L:Nat) (β:Type) (args:List V) (bor:Bor) (k:KK β) (r:β) (h:zez xr L β args bor k=some r):yt zbm (zbl L) L zc0 args bor k=some r:=by
 unfold zez at h
 split at h
 ·have q:=zM h; clear h; obtain ⟨p0,rfl,h⟩:=q
  have q:=zy h; clear h; obtain ⟨p1,rfl,h⟩:=q
  have q:=zy h; clear h; obtain ⟨p2,rfl,h⟩:=q
  exact (zwm L p0 p1 p2 k).trans h
 ·cases h
def zkY:CF:=⟨21,[.tmp 4,.tmp 5,.tmp 6],
 (.seq (.reg [oo 4 (.move (.const (.sc (.int .u32 0))) false),
   oo 5 (.move (.const (.sc (.int .i64 0))) false),
   oo 6 (.move (.const (.sc (.int .i64 0))) false)])
 (.seq (.reg [oo 11 (.move (tq 0) false),
   oo 12 (.move (tq 1) false),
   oo 13 (.call 209 [((tq 11),0),((tq 12),0),((.const (.sc (.int .i64 4))),0)] []),
   oo 10 (.move (tq 13) true),
   oo 14 (.pull (tq 10) 0),
   oo 15 (.pull (tq 10) 1),
   oo 16 (.pull (tq 10) 2),
   oo 7 (.move (tq 14) false),
   oo 8 (.move (tq 15) false),
   oo 9 (.move (tq 16) false)])
 (.seq (.reg [oo 17 (.move (tq 7) false),
   oo 18 (.conv .u32 (tq 17)),
   oo 19 (.move (tq 8) false),
   oo 20 (.move (tq 9) false),
   oo 4 (.move (tq 18) false),
   oo 5 (.move (tq 19) false),
   oo 6 (.move (tq 20) false)])
 .ret)))⟩
def zss:Hint:=⟨[(1,3)],[],[none],[],[],false,false,[]⟩
def zpt:Nat→Sh:=yP []
def zpf (xr:zbD) (L:Nat):CBC:=(xv 209 (zez xr L) noC)
def zrL {β:Type} (xr:zbD) (L:Nat) (p0:List (List V)) (p1:Int) (k_fin:Int→Int→Int→Option β):Option β :=
 xr β L p0 p1 (4:Int) (fun v0 v1 v2 =>
 lt (IntKind.wrap .u32 v0) fun x3 =>
 k_fin x3 v1 v2)
theorem zzr {β:Type} (xr:zbD) (L:Nat) (p0:List (List V)) (p1:Int) (k:KK β):yt zpt (zpf xr L) L zkY [(V.sl 1 p0),(V.sc (.int .i64 p1))] [] k=zrL xr L p0 p1 (fun zKg zKh zKi=>k (V.tup [(V.sc (.int .u32 zKg)),(V.sc (.int .i64 zKh)),(V.sc (.int .i64 zKi))]) []):=by kernel_rfl
abbrev zmT:=∀ (β:Type),Nat→List (List V)→Int→(Int→Int→Int→Option β)→Option β
def zaF (β:Type) (L:Nat) (p0:List (List V)) (p1:Int) (k_fin:Int→Int→Int→Option β):Option β:=zrL xr L p0 p1 k_fin
def zmQ (zaF:zmT) (L:Nat) (β:Type) (args:List V) (bor:Bor) (k:KK β):Option β:=match args,bor with
 | [a0,a1],[]=>aL 1 a0 fun p0=>aI .i64 a1 fun p1=>zaF β L p0 p1 (fun zKg zKh zKi=>k (V.tup [(V.sc (.int .u32 zKg)),(V.sc (.int .i64 zKh)),(V.sc (.int .i64 zKi))]) [])
 | _,_=>none
theorem zzw (L:Nat) (β:Type) (args:List V) (bor:Bor) (k:KK β) (r:β) (h:zmQ zaF L β args bor k=some r):yt zpt (zpf xr L) L zkY args bor k=some r:=by
 unfold zmQ at h
 split at h
 ·have q:=zM h; clear h; obtain ⟨p0,rfl,h⟩:=q
  have q:=zy h; clear h; obtain ⟨p1,rfl,h⟩:=q
  exact (zzr xr L p0 p1 k).trans h
 ·cases h
def zem:CF:=⟨33,[.tmp 2],
 (.seq (.reg [oo 2 (.move (.const (.sc (.int .u32 0))) false)])
 (.seq (.seq (.reg [oo 6 (.move (tq 0) false),
   oo 7 (.nilCheck (tq 6)),
   oo 8 (.fieldAddr 2 (tq 7)),
   oo 9 (.load false 1 (tq 8) false),
   oo 10 (.bin .neq (tq 9) (.const (.sc (.int .i64 0))))])
 (.cond (tq 10)
 (.seq (.reg [oo 2 (.move (.const (.sc (.int .u32 0))) false)])
 .ret)
 .skip))
 (.seq (.dreg [] [(oo 12 (.move (tq 0) false),q0),
   (oo 13 (.nilCheck (tq 12)),q0),
   (oo 14 (.fieldAddr 0 (tq 13)),q0),
   (oo 15 (.load false 1 (tq 14) false),ql 0 [] []),
   (oo 16 (.move (tq 0) false),q0),
   (oo 17 (.nilCheck (tq 16)),q0),
   (oo 18 (.fieldAddr 1 (tq 17)),q0),
   (oo 19 (.load false 1 (tq 18) false),ql 0 [] []),
   (oo 20 (.call 200 [((tq 15),0),((tq 19),0)] []),q0),
   (oo 11 (.move (tq 20) true),q0),
   (oo 21 (.pull (tq 11) 0),q0),
   (oo 22 (.pull (tq 11) 1),q0),
   (oo 23 (.pull (tq 11) 2),q0),
   (oo 3 (.move (tq 21) false),q0),
   (oo 4 (.move (tq 22) false),q0),
   (oo 5 (.move (tq 23) false),q0)])
 (.seq (.reg [oo 24 (.move (tq 0) false),
   oo 25 (.move (tq 0) false),
   oo 26 (.move (tq 4) false),
   oo 27 (.move (tq 5) false),
   oo 28 (.nilCheck (tq 24)),
   oo 29 (.fieldAddr 1 (tq 28)),
   oz (.store 1 (tq 29) (tq 26)),
   oo 30 (.nilCheck (tq 25)),
   oo 31 (.fieldAddr 2 (tq 30)),
   oz (.store 1 (tq 31) (tq 27))])
 (.seq (.reg [oo 32 (.move (tq 3) false),
   oo 2 (.move (tq 32) false)])
 .ret)))))⟩
def zjM:Hint:=⟨[(3,9)],[],[none,none,none],[],[],false,false,[]⟩
def zgV:Nat→Sh:=yP []
def zhb (zaF:zmT) (L:Nat):CBC:=(xv 200 (zmQ zaF L) noC)
def zeS {β:Type} (zaF:zmT) (L:Nat) (zJ5:List (List V)) (zKc zKd:Int) (k_fin:Int→List (List V)→Int→Int→Option β):Option β :=
 ifb ((zKd:Int) != (0:Int)) (
 k_fin (0:Int) zJ5 zKc zKd) (
 zaF β L zJ5 zKc (fun v0 v1 v2 =>
 k_fin v0 zJ5 v1 v2))
theorem zrx {β:Type} (zaF:zmT) (L:Nat) (zJ5:List (List V)) (zKc zKd:Int) (k:KK β):yt zgV (zhb zaF L) L zem [(V.ptr 0 0)] [(.live false [(V.sl 1 zJ5),(V.sc (.int .i64 zKc)),(V.sc (.int .i64 zKd))])] k=zeS zaF L zJ5 zKc zKd (fun p0 zJ5 zKc zKd=>k (V.sc (.int .u32 p0)) [(.live false [(V.sl 1 zJ5),(V.sc (.int .i64 zKc)),(V.sc (.int .i64 zKd))])]):=by kernel_rfl
abbrev xm:=∀ (β:Type),Nat→List (List V)→Int→Int→(Int→List (List V)→Int→Int→Option β)→Option β
def zb (β:Type) (L:Nat) (zJ5:List (List V)) (zKc zKd:Int) (k_fin:Int→List (List V)→Int→Int→Option β):Option β:=zeS zaF L zJ5 zKc zKd k_fin
def zeU (zb:xm) (L:Nat) (β:Type) (args:List V) (bor:Bor) (k:KK β):Option β:=match args,bor with
 | [a0],[(.live false [w0_0,w0_1,w0_2])]=>aP 0 0 a0 (aL 1 w0_0 fun zJ5=>aI .i64 w0_1 fun zKc=>aI .i64 w0_2 fun zKd=>zb β L zJ5 zKc zKd (fun p0 zJ5 zKc zKd=>k (V.sc (.int .u32 p0)) [(.live false [(V.sl 1 zJ5),(V.sc (.int .i64 zKc)),(V.sc (.int .i64 zKd))])]))
 | _,_=>none
theorem zre (L:Nat) (β:Type) (args:List V) (bor:Bor) (k:KK β) (r:β) (h:zeU zb L β args bor k=some r):yt zgV (zhb zaF L) L zem args bor k=some r:=by
 unfold zeU at h
 split at h
 ·have q:=zdE h; clear h; obtain ⟨rfl,h⟩:=q
  have q:=zM h; clear h; obtain ⟨zJ5,rfl,h⟩:=q
  have q:=zy h; clear h; obtain ⟨zKc,rfl,h⟩:=q
  have q:=zy h; clear h; obtain ⟨zKd,rfl,h⟩:=q
  exact (zrx zaF L zJ5 zKc zKd k).trans h
 ·cases h
def zjR:CF:=⟨68,[.tmp 6,.tmp 7,.tmp 8],
 (.seq (.reg [oo 6 (.move (.const (.sc (.int .u64 0))) false),
   oo 7 (.move (.const (.sc (.int .i64 0))) false),
   oo 8 (.move (.const (.sc (.int .i64 0))) false)])
 (.seq (.reg [oo 15 (.move (tq 0) false),
   oo 16 (.move (tq 1) false),
   oo 17 (.call 209 [((tq 15),0),((tq 16),0),((.const (.sc (.int .i64 1))),0)] []),
   oo 14 (.move (tq 17) true),
   oo 18 (.pull (tq 14) 0),
   oo 19 (.pull (tq 14) 1),
   oo 20 (.pull (tq 14) 2),
   oo 9 (.move (tq 18) false),
   oo 10 (.move (tq 19) false),
   oo 11 (.move (tq 20) false)])
 (.seq (.seq (.reg [oo 21 (.move (tq 11) false),
   oo 22 (.bin .neq (tq 21) (.const (.sc (.int .i64 0))))])
 (.cond (tq 22)
 (.seq (.reg [oo 23 (.move (tq 11) false),
   oo 6 (.move (.const (.sc (.int .u64 0))) false),
   oo 7 (.move (.const (.sc (.int .i64 0))) false),
   oo 8 (.move (tq 23) false)])
 .ret)
 .skip))
 (.seq (.reg [oo 24 (.move (tq 9) false),
   oo 12 (.move (tq 24) false)])
 (.seq (.seq (.reg [oo 25 (.move (tq 9) false),
   oo 26 (.bin .geq (tq 25) (.const (.sc (.int .u64 253))))])
 (.cond (tq 26)
 (.seq (.reg [oo 27 (.move (tq 9) false),
   oo 28 (.bin .sub (tq 27) (.const (.sc (.int .u64 253)))),
   oo 29 (.bin .shl (.const (.sc (.int .i64 2))) (tq 28)),
   oo 13 (.move (tq 29) false)])
 (.seq (.reg [oo 31 (.move (tq 0) false),
   oo 32 (.move (tq 10) false),
   oo 33 (.move (tq 13) false),
   oo 34 (.call 209 [((tq 31),0),((tq 32),0),((tq 33),0)] []),
   oo 30 (.move (tq 34) true),
   oo 35 (.pull (tq 30) 0),
   oo 36 (.pull (tq 30) 1),
   oo 37 (.pull (tq 30) 2),
   oo 12 (.move (tq 35) false),
   oo 10 (.move (tq 36) false),
   oo 11 (.move (tq 37) false)])
 (.seq (.seq (.reg [oo 38 (.move (tq 11) false),
   oo 39 (.bin .neq (tq 38) (.const (.sc (.int .i64 0))))])
 (.cond (tq 39)
 (.seq (.reg [oo 40 (.move (tq 11) false),
   oo 6 (.move (.const (.sc (.int .u64 0))) false),
   oo 7 (.move (.const (.sc (.int .i64 0))) false),
   oo 8 (.move (tq 40) false)])
 .ret)
 .skip))
 (.seq (.reg [oo 41 (.move (tq 9) false),
   oo 42 (.bin .eql (tq 41) (.const (.sc (.int .u64 253)))),
   oo 43 (.move (tq 42) false),
   ⟨(some 44),false,(some (43,true)),.move (tq 12) false⟩,
   ⟨(some 45),false,(some (43,true)),.bin .lss (tq 44) (.const (.sc (.int .u64 253)))⟩,
   oo 46 (.pick (tq 43) (tq 45) (.const (.sc (.bool false)))),
   oo 47 (.move (tq 46) false),
   ⟨(some 48),false,(some (47,false)),.move (tq 9) false⟩,
   ⟨(some 49),false,(some (47,false)),.bin .eql (tq 48) (.const (.sc (.int .u64 254)))⟩,
   ⟨(some 50),false,(some (47,false)),.move (tq 49) false⟩,
   ⟨(some 51),false,(some (50,true)),.move (tq 12) false⟩,
   ⟨(some 52),false,(some (50,true)),.bin .lss (tq 51) (.const (.sc (.int .u64 65536)))⟩,
   ⟨(some 53),false,(some (47,false)),.pick (tq 50) (tq 52) (.const (.sc (.bool false)))⟩,
   oo 54 (.pick (tq 47) (.const (.sc (.bool true))) (tq 53)),
   oo 55 (.move (tq 54) false),
   ⟨(some 56),false,(some (55,false)),.move (tq 9) false⟩,
   ⟨(some 57),false,(some (55,false)),.bin .eql (tq 56) (.const (.sc (.int .u64 255)))⟩,
   ⟨(some 58),false,(some (55,false)),.move (tq 57) false⟩,
   ⟨(some 59),false,(some (58,true)),.move (tq 12) false⟩,
   ⟨(some 60),false,(some (58,true)),.bin .lss (tq 59) (.const (.sc (.int .u64 4294967296)))⟩,
   ⟨(some 61),false,(some (55,false)),.pick (tq 58) (tq 60) (.const (.sc (.bool false)))⟩,
   oo 62 (.pick (tq 55) (.const (.sc (.bool true))) (tq 61))])
 (.cond (tq 62)
 (.seq (.reg [oo 6 (.move (.const (.sc (.int .u64 0))) false),
   oo 7 (.move (.const (.sc (.int .i64 0))) false),
   oo 8 (.move (.const (.sc (.int .i64 3))) false)])
 .ret)
 .skip)))))
 .skip))
 (.seq (.seq (.reg [oo 63 (.move (tq 12) false),
   oo 64 (.move (tq 2) false),
   oo 65 (.bin .gtr (tq 63) (tq 64))])
 (.cond (tq 65)
 (.seq (.reg [oo 6 (.move (.const (.sc (.int .u64 0))) false),
   oo 7 (.move (.const (.sc (.int .i64 0))) false),
   oo 8 (.move (.const (.sc (.int .i64 4))) false)])
 .ret)
 .skip))
 (.seq (.reg [oo 66 (.move (tq 12) false),
   oo 67 (.move (tq 10) false),
   oo 6 (.move (tq 66) false),
   oo 7 (.move (tq 67) false),
   oo 8 (.move (.const (.sc (.int .i64 0))) false)])
 .ret)))))))⟩
def zqG:Hint:=⟨[(1,3),(7,4)],[],[none,none,none,none,none,none,none,none,none,none],[],[],false,false,[]⟩
def zn4:Nat→Sh:=yP []
def znP (xr:zbD) (L:Nat):CBC:=(xv 209 (zez xr L) noC)
def zpc {β:Type} (xr:zbD) (L:Nat) (p0:List (List V)) (p1 p2:Int) (k_fin:Int→Int→Int→Option β):Option β :=
 xr β L p0 p1 (1:Int) (fun v0 v1 v2 =>
 ifb ((v2:Int) != (0:Int)) (
 k_fin (0:Int) (0:Int) v2) (
 ifb (decide (v0 ≥ (253:Int))) (
 lt (IntKind.wrap .u64 ((v0:Int) - (253:Int))) fun x3 =>
 chk (0≤x3) (
 lt (zn6 .i64 (2:Int) x3) fun x4 =>
 xr β L p0 v1 x4 (fun v5 v6 v7 =>
 ifb ((v7:Int) != (0:Int)) (
 k_fin (0:Int) (0:Int) v7) (
 ifb ((v0:Int) == (253:Int)) (
 ifb (decide (v5 < (253:Int))) (
 k_fin (0:Int) (0:Int) (3:Int)) (
 ifb ((v0:Int) == (254:Int)) (
 ifb (decide (v5 < (65536:Int))) (
 k_fin (0:Int) (0:Int) (3:Int)) (
 ifb ((v0:Int) == (255:Int)) (
 ifb (decide (v5 < (4294967296:Int))) (
 k_fin (0:Int) (0:Int) (3:Int)) (
 ifb (decide (v5 > p2)) (
 k_fin (0:Int) (0:Int) (4:Int)) (
 k_fin v5 v6 (0:Int)))) (
 ifb (decide (v5 > p2)) (
 k_fin (0:Int) (0:Int) (4:Int)) (
 k_fin v5 v6 (0:Int))))) (
 ifb ((v0:Int) == (255:Int)) (
 ifb (decide (v5 < (4294967296:Int))) (
 k_fin (0:Int) (0:Int) (3:Int)) (
 ifb (decide (v5 > p2)) (
 k_fin (0:Int) (0:Int) (4:Int)) (
 k_fin v5 v6 (0:Int)))) (
 ifb (decide (v5 > p2)) (
 k_fin (0:Int) (0:Int) (4:Int)) (
 k_fin v5 v6 (0:Int)))))) (
 ifb ((v0:Int) == (254:Int)) (
 ifb (decide (v5 < (65536:Int))) (
 k_fin (0:Int) (0:Int) (3:Int)) (
 ifb ((v0:Int) == (255:Int)) (
 ifb (decide (v5 < (4294967296:Int))) (
 k_fin (0:Int) (0:Int) (3:Int)) (
 ifb (decide (v5 > p2)) (
 k_fin (0:Int) (0:Int) (4:Int)) (
 k_fin v5 v6 (0:Int)))) (
 ifb (decide (v5 > p2)) (
 k_fin (0:Int) (0:Int) (4:Int)) (
 k_fin v5 v6 (0:Int))))) (
 ifb ((v0:Int) == (255:Int)) (
 ifb (decide (v5 < (4294967296:Int))) (
 k_fin (0:Int) (0:Int) (3:Int)) (
 ifb (decide (v5 > p2)) (
 k_fin (0:Int) (0:Int) (4:Int)) (
 k_fin v5 v6 (0:Int)))) (
 ifb (decide (v5 > p2)) (
 k_fin (0:Int) (0:Int) (4:Int)) (
 k_fin v5 v6 (0:Int))))))))) (
 ifb (decide (v0 > p2)) (
 k_fin (0:Int) (0:Int) (4:Int)) (
 k_fin v0 v1 (0:Int)))))
theorem zyz {β:Type} (xr:zbD) (L:Nat) (p0:List (List V)) (p1 p2:Int) (k:KK β):yt zn4 (znP xr L) L zjR [(V.sl 1 p0),(V.sc (.int .i64 p1)),(V.sc (.int .u64 p2))] [] k=zpc xr L p0 p1 p2 (fun zKg zKh zKi=>k (V.tup [(V.sc (.int .u64 zKg)),(V.sc (.int .i64 zKh)),(V.sc (.int .i64 zKi))]) []):=by kernel_rfl
abbrev zeR:=∀ (β:Type),Nat→List (List V)→Int→Int→(Int→Int→Int→Option β)→Option β
def xJ (β:Type) (L:Nat) (p0:List (List V)) (p1 p2:Int) (k_fin:Int→Int→Int→Option β):Option β:=zpc xr L p0 p1 p2 k_fin
def ziC (xJ:zeR) (L:Nat) (β:Type) (args:List V) (bor:Bor) (k:KK β):Option β:=match args,bor with
 | [a0,a1,a2],[]=>aL 1 a0 fun p0=>aI .i64 a1 fun p1=>aI .u64 a2 fun p2=>xJ β L p0 p1 p2 (fun zKg zKh zKi=>k (V.tup [(V.sc (.int .u64 zKg)),(V.sc (.int .i64 zKh)),(V.sc (.int .i64 zKi))]) [])
 | _,_=>none
theorem zxr (L:Nat) (β:Type) (args:List V) (bor:Bor) (k:KK β) (r:β) (h:ziC xJ L β args bor k=some r):yt zn4 (znP xr L) L zjR args bor k=some r:=by
 unfold ziC at h
 split at h
 ·have q:=zM h; clear h; obtain ⟨p0,rfl,h⟩:=q
  have q:=zy h; clear h; obtain ⟨p1,rfl,h⟩:=q
  have q:=zy h; clear h; obtain ⟨p2,rfl,h⟩:=q
  exact (zyz xr L p0 p1 p2 k).trans h
 ·cases h
def zee:CF:=⟨38,[.tmp 4],
 (.seq (.reg [oo 4 (.move (.const (.sc (.int .i64 0))) false)])
 (.seq (.seq (.reg [oo 8 (.move (tq 0) false),
   oo 9 (.nilCheck (tq 8)),
   oo 10 (.fieldAddr 2 (tq 9)),
   oo 11 (.load false 1 (tq 10) false),
   oo 12 (.bin .neq (tq 11) (.const (.sc (.int .i64 0))))])
 (.cond (tq 12)
 (.seq (.reg [oo 4 (.move (.const (.sc (.int .i64 0))) false)])
 .ret)
 .skip))
 (.seq (.dreg [] [(oo 14 (.move (tq 0) false),q0),
   (oo 15 (.nilCheck (tq 14)),q0),
   (oo 16 (.fieldAddr 0 (tq 15)),q0),
   (oo 17 (.load false 1 (tq 16) false),ql 0 [] []),
   (oo 18 (.move (tq 0) false),q0),
   (oo 19 (.nilCheck (tq 18)),q0),
   (oo 20 (.fieldAddr 1 (tq 19)),q0),
   (oo 21 (.load false 1 (tq 20) false),ql 0 [] []),
   (oo 22 (.move (tq 1) false),q0),
   (oo 23 (.conv .u64 (tq 22)),q0),
   (oo 24 (.call 201 [((tq 17),0),((tq 21),0),((tq 23),0)] []),q0),
   (oo 13 (.move (tq 24) true),q0),
   (oo 25 (.pull (tq 13) 0),q0),
   (oo 26 (.pull (tq 13) 1),q0),
   (oo 27 (.pull (tq 13) 2),q0),
   (oo 5 (.move (tq 25) false),q0),
   (oo 6 (.move (tq 26) false),q0),
   (oo 7 (.move (tq 27) false),q0)])
 (.seq (.reg [oo 28 (.move (tq 0) false),
   oo 29 (.move (tq 0) false),
   oo 30 (.move (tq 6) false),
   oo 31 (.move (tq 7) false),
   oo 32 (.nilCheck (tq 28)),
   oo 33 (.fieldAddr 1 (tq 32)),
   oz (.store 1 (tq 33) (tq 30)),
   oo 34 (.nilCheck (tq 29)),
   oo 35 (.fieldAddr 2 (tq 34)),
   oz (.store 1 (tq 35) (tq 31))])
 (.seq (.reg [oo 36 (.move (tq 5) false),
   oo 37 (.conv .i64 (tq 36)),
   oo 4 (.move (tq 37) false)])
 .ret)))))⟩
def zjL:Hint:=⟨[(3,11)],[],[none,none,none],[],[],false,false,[]⟩
def zgM:Nat→Sh:=yP []
def zg2 (xJ:zeR) (L:Nat):CBC:=(xv 201 (ziC xJ L) noC)
def ze6 {β:Type} (xJ:zeR) (L:Nat) (p1:Int) (zJ5:List (List V)) (zKc zKd:Int) (k_fin:Int→List (List V)→Int→Int→Option β):Option β :=
 ifb ((zKd:Int) != (0:Int)) (
 k_fin (0:Int) zJ5 zKc zKd) (
 lt (IntKind.wrap .u64 p1) fun x0 =>
 xJ β L zJ5 zKc x0 (fun v1 v2 v3 =>
 lt (IntKind.wrap .i64 v1) fun x4 =>
 k_fin x4 zJ5 v2 v3))
theorem zrM {β:Type} (xJ:zeR) (L:Nat) (p1:Int) (zJ5:List (List V)) (zKc zKd:Int) (k:KK β):yt zgM (zg2 xJ L) L zee [(V.ptr 0 0),(V.sc (.int .i64 p1))] [(.live false [(V.sl 1 zJ5),(V.sc (.int .i64 zKc)),(V.sc (.int .i64 zKd))])] k=ze6 xJ L p1 zJ5 zKc zKd (fun p0 zJ5 zKc zKd=>k (V.sc (.int .i64 p0)) [(.live false [(V.sl 1 zJ5),(V.sc (.int .i64 zKc)),(V.sc (.int .i64 zKd))])]):=by kernel_rfl
abbrev ym:=∀ (β:Type),Nat→Int→List (List V)→Int→Int→(Int→List (List V)→Int→Int→Option β)→Option β
def yb (β:Type) (L:Nat) (p1:Int) (zJ5:List (List V)) (zKc zKd:Int) (k_fin:Int→List (List V)→Int→Int→Option β):Option β:=ze6 xJ L p1 zJ5 zKc zKd k_fin
def ze7 (yb:ym) (L:Nat) (β:Type) (args:List V) (bor:Bor) (k:KK β):Option β:=match args,bor with
 | [a0,a1],[(.live false [w0_0,w0_1,w0_2])]=>aP 0 0 a0 (aI .i64 a1 fun p1=>aL 1 w0_0 fun zJ5=>aI .i64 w0_1 fun zKc=>aI .i64 w0_2 fun zKd=>yb β L p1 zJ5 zKc zKd (fun p0 zJ5 zKc zKd=>k (V.sc (.int .i64 p0)) [(.live false [(V.sl 1 zJ5),(V.sc (.int .i64 zKc)),(V.sc (.int .i64 zKd))])]))
 | _,_=>none
theorem zrn (L:Nat) (β:Type) (args:List V) (bor:Bor) (k:KK β) (r:β) (h:ze7 yb L β args bor k=some r):yt zgM (zg2 xJ L) L zee args bor k=some r:=by
 unfold ze7 at h
 split at h
 ·have q:=zdE h; clear h; obtain ⟨rfl,h⟩:=q
  have q:=zy h; clear h; obtain ⟨p1,rfl,h⟩:=q
  have q:=zM h; clear h; obtain ⟨zJ5,rfl,h⟩:=q
  have q:=zy h; clear h; obtain ⟨zKc,rfl,h⟩:=q
  have q:=zy h; clear h; obtain ⟨zKd,rfl,h⟩:=q
  exact (zrM xJ L p1 zJ5 zKc zKd k).trans h
 ·cases h
def zjV:CF:=⟨31,[.cell 4 true 32,.tmp 5,.tmp 6],
 (.seq (.reg [oo 4 (.alloc true (rp 32 (.sc (.int .u8 0)) [])),
   oo 5 (.move (.const (.sc (.int .i64 0))) false),
   oo 6 (.move (.const (.sc (.int .i64 0))) false)])
 (.seq (.reg [oo 7 (.alloc true (rp 32 (.sc (.int .u8 0)) []))])
 (.seq (.seq (.reg [oo 8 (.move (tq 1) false),
   oo 9 (.bin .lss (tq 8) (.const (.sc (.int .i64 0)))),
   oo 10 (.move (tq 9) false),
   ⟨(some 11),false,(some (10,false)),.move (tq 1) false⟩,
   ⟨(some 12),false,(some (10,false)),.move (tq 0) false⟩,
   ⟨(some 13),false,(some (10,false)),.lenS (tq 12)⟩,
   ⟨(some 14),false,(some (10,false)),.bin .gtr (tq 11) (tq 13)⟩,
   oo 15 (.pick (tq 10) (.const (.sc (.bool true))) (tq 14))])
 (.cond (tq 15)
 (.seq (.reg [oo 16 (.load true 32 (tq 7) false),
   oz (.store 32 (tq 4) (tq 16)),
   oo 5 (.move (.const (.sc (.int .i64 0))) false),
   oo 6 (.move (.const (.sc (.int .i64 5))) false)])
 .ret)
 .skip))
 (.seq (.seq (.reg [oo 17 (.move (tq 0) false),
   oo 18 (.lenS (tq 17)),
   oo 19 (.move (tq 1) false),
   oo 20 (.bin .sub (tq 18) (tq 19)),
   oo 21 (.bin .lss (tq 20) (.const (.sc (.int .i64 32))))])
 (.cond (tq 21)
 (.seq (.reg [oo 22 (.load true 32 (tq 7) false),
   oz (.store 32 (tq 4) (tq 22)),
   oo 5 (.move (.const (.sc (.int .i64 0))) false),
   oo 6 (.move (.const (.sc (.int .i64 1))) false)])
 .ret)
 .skip))
 (.seq (.dreg [] [(oo 23 (.sliceA 32 1 (tq 7) none none none),q1),
   (oo 24 (.move (tq 0) true),q1),
   (oo 25 (.move (tq 1) false),q0),
   (oo 26 (.sliceS 1 (tq 24) (some (tq 25)) none none),q0),
   (oo 27 (.copy 1 (tq 23) (tq 26)),q0)])
 (.seq (.reg [oo 28 (.load true 32 (tq 7) false),
   oo 29 (.move (tq 1) false),
   oo 30 (.bin .add (tq 29) (.const (.sc (.int .i64 32)))),
   oz (.store 32 (tq 4) (tq 28)),
   oo 5 (.move (tq 30) false),
   oo 6 (.move (.const (.sc (.int .i64 0))) false)])
 .ret))))))⟩
def zqs:Hint:=⟨[(6,1)],[],[none,none,none,none,none],[],[],false,false,[]⟩
def zn0:Nat→Sh:=yP []
def znG (L:Nat):CBC:=noC
def zpX {β:Type} (L:Nat) (p0:List (List V)) (p1:Int) (k_fin:List V→Int→Int→Option β):Option β :=
 ifb (decide (p1 < (0:Int))) (
 lt (List.replicate 32 (V.sc (.int .u8 (0:Int)))) fun r0 =>
 chk (0=0∧(List.length r0)=32∧32≠0) (
 k_fin r0 (0:Int) (5:Int))) (
 ifb (decide (p1 > ((List.length p0:Nat):Int))) (
 lt (List.replicate 32 (V.sc (.int .u8 (0:Int)))) fun r1 =>
 chk (0=0∧(List.length r1)=32∧32≠0) (
 k_fin r1 (0:Int) (5:Int))) (
 lt (IntKind.wrap .i64 ((((List.length p0:Nat):Int):Int) - p1)) fun x2 =>
 ifb (decide (x2 < (32:Int))) (
 lt (List.replicate 32 (V.sc (.int .u8 (0:Int)))) fun r3 =>
 chk (0=0∧(List.length r3)=32∧32≠0) (
 k_fin r3 (0:Int) (1:Int))) (
 chk (0≤p1∧p1≤(((List.length p0):Nat):Int)) (
 lt (yl (List.replicate 32 (V.sc (.int .u8 (0:Int)))) 0 (List.flatten (List.take (min (List.length (List.take ((List.length p0) - (Int.toNat p1)) (List.drop (Int.toNat p1) p0))) 32) (List.take ((List.length p0) - (Int.toNat p1)) (List.drop (Int.toNat p1) p0))))) fun r4 =>
 chk (0+32≤(List.length r4)) (
 lt (IntKind.wrap .i64 ((p1:Int)+(32:Int))) fun x5 =>
 chk ((List.length (List.take 32 r4))=32∧0+32≤32) (
 lt (yl (List.replicate 32 (V.sc (.int .u8 (0:Int)))) 0 (List.take 32 r4)) fun r6 =>
 chk (0=0∧(List.length r6)=32∧32≠0) (
 k_fin r6 x5 (0:Int))))))))
theorem zyQ {β:Type} (L:Nat) (p0:List (List V)) (p1:Int) (k:KK β):yt zn0 (znG L) L zjV [(V.sl 1 p0),(V.sc (.int .i64 p1))] [] k=zpX L p0 p1 (fun zKg zKh zKi=>k (V.tup [(V.agg zKg),(V.sc (.int .i64 zKh)),(V.sc (.int .i64 zKi))]) []):=by kernel_rfl
abbrev zk2:=∀ (β:Type),Nat→List (List V)→Int→(List V→Int→Int→Option β)→Option β
def zao (β:Type) (L:Nat) (p0:List (List V)) (p1:Int) (k_fin:List V→Int→Int→Option β):Option β:=zpX L p0 p1 k_fin
def zlh (zao:zk2) (L:Nat) (β:Type) (args:List V) (bor:Bor) (k:KK β):Option β:=match args,bor with
 | [a0,a1],[]=>aL 1 a0 fun p0=>aI .i64 a1 fun p1=>zao β L p0 p1 (fun zKg zKh zKi=>k (V.tup [(V.agg zKg),(V.sc (.int .i64 zKh)),(V.sc (.int .i64 zKi))]) [])
 | _,_=>none
theorem zyJ (L:Nat) (β:Type) (args:List V) (bor:Bor) (k:KK β) (r:β) (h:zlh zao L β args bor k=some r):yt zn0 (znG L) L zjV args bor k=some r:=by
 unfold zlh at h
 split at h
 ·have q:=zM h; clear h; obtain ⟨p0,rfl,h⟩:=q
  have q:=zy h; clear h; obtain ⟨p1,rfl,h⟩:=q
  exact (zyQ L p0 p1 k).trans h
 ·cases h
def zef:CF:=⟨34,[.cell 2 true 32],
 (.seq (.reg [oo 2 (.alloc true (rp 32 (.sc (.int .u8 0)) []))])
 (.seq (.seq (.reg [oo 6 (.move (tq 0) false),
   oo 7 (.nilCheck (tq 6)),
   oo 8 (.fieldAddr 2 (tq 7)),
   oo 9 (.load false 1 (tq 8) false),
   oo 10 (.bin .neq (tq 9) (.const (.sc (.int .i64 0))))])
 (.cond (tq 10)
 (.seq (.reg [oo 11 (.build (rp 32 (.sc (.int .u8 0)) []) []),
   oz (.store 32 (tq 2) (tq 11))])
 .ret)
 .skip))
 (.seq (.dreg [] [(oo 13 (.move (tq 0) false),q0),
   (oo 14 (.nilCheck (tq 13)),q0),
   (oo 15 (.fieldAddr 0 (tq 14)),q0),
   (oo 16 (.load false 1 (tq 15) false),ql 0 [] [3]),
   (oo 17 (.move (tq 0) false),q0),
   (oo 18 (.nilCheck (tq 17)),q0),
   (oo 19 (.fieldAddr 1 (tq 18)),q0),
   (oo 20 (.load false 1 (tq 19) false),ql 0 [] [3]),
   (oo 21 (.call 202 [((tq 16),0),((tq 20),0)] []),qc [] [3]),
   (oo 12 (.move (tq 21) true),qc [] [3]),
   (oo 22 (.pull (tq 12) 0),q0),
   (oo 23 (.pull (tq 12) 1),q0),
   (oo 24 (.pull (tq 12) 2),q0),
   (oo 3 (.alloc true (rp 32 (.sc (.int .u8 0)) [])),qn [0] []),
   (oz (.store 32 (tq 3) (tq 22)),q0),
   (oo 4 (.move (tq 23) false),q0),
   (oo 5 (.move (tq 24) false),q0)])
 (.seq (.reg [oo 25 (.move (tq 0) false),
   oo 26 (.move (tq 0) false),
   oo 27 (.move (tq 4) false),
   oo 28 (.move (tq 5) false),
   oo 29 (.nilCheck (tq 25)),
   oo 30 (.fieldAddr 1 (tq 29)),
   oz (.store 1 (tq 30) (tq 27)),
   oo 31 (.nilCheck (tq 26)),
   oo 32 (.fieldAddr 2 (tq 31)),
   oz (.store 1 (tq 32) (tq 28))])
 (.seq (.reg [oo 33 (.load true 32 (tq 3) false),
   oz (.store 32 (tq 2) (tq 33))])
 .ret)))))⟩
def zju:Hint:=⟨[(3,9)],[],[none,none,none],[],[],false,false,[]⟩
def zgU:Nat→Sh:=yP []
def zgY (zao:zk2) (L:Nat):CBC:=(xv 202 (zlh zao L) noC)
def zht {β:Type} (zao:zk2) (L:Nat) (zJ5:List (List V)) (zKc zKd:Int) (k_fin:List V→List (List V)→Int→Int→Option β):Option β :=
 ifb ((zKd:Int) != (0:Int)) (
 lt (List.replicate 32 (V.sc (.int .u8 (0:Int)))) fun r0 =>
 chk (0=0∧(List.length r0)=32∧32≠0) (
 k_fin r0 zJ5 zKc zKd)) (
 zao β L zJ5 zKc (fun v1 v2 v3 =>
 chk ((List.length v1)=32∧0+32≤32) (
 lt (yl (List.replicate 32 (V.sc (.int .u8 (0:Int)))) 0 v1) fun r4 =>
 chk (0+32≤(List.length r4)) (
 chk ((List.length (List.take 32 r4))=32∧0+32≤32) (
 lt (yl (List.replicate 32 (V.sc (.int .u8 (0:Int)))) 0 (List.take 32 r4)) fun r5 =>
 chk (0=0∧(List.length r5)=32∧32≠0) (
 k_fin r5 zJ5 v2 v3))))))
theorem zq4 {β:Type} (zao:zk2) (L:Nat) (zJ5:List (List V)) (zKc zKd:Int) (k:KK β):yt zgU (zgY zao L) L zef [(V.ptr 0 0)] [(.live false [(V.sl 1 zJ5),(V.sc (.int .i64 zKc)),(V.sc (.int .i64 zKd))])] k=zht zao L zJ5 zKc zKd (fun p0 zJ5 zKc zKd=>k (V.agg p0) [(.live false [(V.sl 1 zJ5),(V.sc (.int .i64 zKc)),(V.sc (.int .i64 zKd))])]):=by kernel_rfl
abbrev zm:=∀ (β:Type),Nat→List (List V)→Int→Int→(List V→List (List V)→Int→Int→Option β)→Option β
def zc (β:Type) (L:Nat) (zJ5:List (List V)) (zKc zKd:Int) (k_fin:List V→List (List V)→Int→Int→Option β):Option β:=zht zao L zJ5 zKc zKd k_fin
def zfa (zc:zm) (L:Nat) (β:Type) (args:List V) (bor:Bor) (k:KK β):Option β:=match args,bor with
 | [a0],[(.live false [w0_0,w0_1,w0_2])]=>aP 0 0 a0 (aL 1 w0_0 fun zJ5=>aI .i64 w0_1 fun zKc=>aI .i64 w0_2 fun zKd=>zc β L zJ5 zKc zKd (fun p0 zJ5 zKc zKd=>k (V.agg p0) [(.live false [(V.sl 1 zJ5),(V.sc (.int .i64 zKc)),(V.sc (.int .i64 zKd))])]))
 | _,_=>none
theorem zrN (L:Nat) (β:Type) (args:List V) (bor:Bor) (k:KK β) (r:β) (h:zfa zc L β args bor k=some r):yt zgU (zgY zao L) L zef args bor k=some r:=by
 unfold zfa at h
 split at h
 ·have q:=zdE h; clear h; obtain ⟨rfl,h⟩:=q
  have q:=zM h; clear h; obtain ⟨zJ5,rfl,h⟩:=q
  have q:=zy h; clear h; obtain ⟨zKc,rfl,h⟩:=q
  have q:=zy h; clear h; obtain ⟨zKd,rfl,h⟩:=q
  exact (zq4 zao L zJ5 zKc zKd k).trans h
 ·cases h
def zlr:CF:=⟨13,[.tmp 4,.tmp 5,.tmp 6],
 (.seq (.reg [oo 4 (.move (.const (.sc (.int .u64 0))) false),
   oo 5 (.move (.const (.sc (.int .i64 0))) false),
   oo 6 (.move (.const (.sc (.int .i64 0))) false)])
 (.seq (.reg [oo 7 (.move (tq 0) false),
   oo 8 (.move (tq 1) false),
   oo 9 (.call 209 [((tq 7),0),((tq 8),0),((.const (.sc (.int .i64 8))),0)] []),
   oo 10 (.pull (tq 9) 0),
   oo 11 (.pull (tq 9) 1),
   oo 12 (.pull (tq 9) 2),
   oo 4 (.move (tq 10) false),
   oo 5 (.move (tq 11) false),
   oo 6 (.move (tq 12) false)])
 .ret))⟩
def zrT:Hint:=⟨[],[],[none],[],[],false,false,[]⟩
def zpQ:Nat→Sh:=yP []
def zpi (xr:zbD) (L:Nat):CBC:=(xv 209 (zez xr L) noC)
def zq3 {β:Type} (xr:zbD) (L:Nat) (p0:List (List V)) (p1:Int) (k_fin:Int→Int→Int→Option β):Option β :=
 xr β L p0 p1 (8:Int) (fun v0 v1 v2 =>
 k_fin v0 v1 v2)
theorem zzD {β:Type} (xr:zbD) (L:Nat) (p0:List (List V)) (p1:Int) (k:KK β):yt zpQ (zpi xr L) L zlr [(V.sl 1 p0),(V.sc (.int .i64 p1))] [] k=zq3 xr L p0 p1 (fun zKg zKh zKi=>k (V.tup [(V.sc (.int .u64 zKg)),(V.sc (.int .i64 zKh)),(V.sc (.int .i64 zKi))]) []):=by kernel_rfl
abbrev zmV:=∀ (β:Type),Nat→List (List V)→Int→(Int→Int→Int→Option β)→Option β
def zaE (β:Type) (L:Nat) (p0:List (List V)) (p1:Int) (k_fin:Int→Int→Int→Option β):Option β:=zq3 xr L p0 p1 k_fin
def zmW (zaE:zmV) (L:Nat) (β:Type) (args:List V) (bor:Bor) (k:KK β):Option β:=match args,bor with
 | [a0,a1],[]=>aL 1 a0 fun p0=>aI .i64 a1 fun p1=>zaE β L p0 p1 (fun zKg zKh zKi=>k (V.tup [(V.sc (.int .u64 zKg)),(V.sc (.int .i64 zKh)),(V.sc (.int .i64 zKi))]) [])
 | _,_=>none
theorem zzx (L:Nat) (β:Type) (args:List V) (bor:Bor) (k:KK β) (r:β) (h:zmW zaE L β args bor k=some r):yt zpQ (zpi xr L) L zlr args bor k=some r:=by
 unfold zmW at h
 split at h
 ·have q:=zM h; clear h; obtain ⟨p0,rfl,h⟩:=q
  have q:=zy h; clear h; obtain ⟨p1,rfl,h⟩:=q
  exact (zzD xr L p0 p1 k).trans h
 ·cases h
def zek:CF:=⟨33,[.tmp 2],
 (.seq (.reg [oo 2 (.move (.const (.sc (.int .u64 0))) false)])
 (.seq (.seq (.reg [oo 6 (.move (tq 0) false),
   oo 7 (.nilCheck (tq 6)),
   oo 8 (.fieldAddr 2 (tq 7)),
   oo 9 (.load false 1 (tq 8) false),
   oo 10 (.bin .neq (tq 9) (.const (.sc (.int .i64 0))))])
 (.cond (tq 10)
 (.seq (.reg [oo 2 (.move (.const (.sc (.int .u64 0))) false)])
 .ret)
 .skip))
 (.seq (.dreg [] [(oo 12 (.move (tq 0) false),q0),
   (oo 13 (.nilCheck (tq 12)),q0),
   (oo 14 (.fieldAddr 0 (tq 13)),q0),
   (oo 15 (.load false 1 (tq 14) false),ql 0 [] []),
   (oo 16 (.move (tq 0) false),q0),
   (oo 17 (.nilCheck (tq 16)),q0),
   (oo 18 (.fieldAddr 1 (tq 17)),q0),
   (oo 19 (.load false 1 (tq 18) false),ql 0 [] []),
   (oo 20 (.call 210 [((tq 15),0),((tq 19),0)] []),q0),
   (oo 11 (.move (tq 20) true),q0),
   (oo 21 (.pull (tq 11) 0),q0),
   (oo 22 (.pull (tq 11) 1),q0),
   (oo 23 (.pull (tq 11) 2),q0),
   (oo 3 (.move (tq 21) false),q0),
   (oo 4 (.move (tq 22) false),q0),
   (oo 5 (.move (tq 23) false),q0)])
 (.seq (.reg [oo 24 (.move (tq 0) false),
   oo 25 (.move (tq 0) false),
   oo 26 (.move (tq 4) false),
   oo 27 (.move (tq 5) false),
   oo 28 (.nilCheck (tq 24)),
   oo 29 (.fieldAddr 1 (tq 28)),
   oz (.store 1 (tq 29) (tq 26)),
   oo 30 (.nilCheck (tq 25)),
   oo 31 (.fieldAddr 2 (tq 30)),
   oz (.store 1 (tq 31) (tq 27))])
 (.seq (.reg [oo 32 (.move (tq 3) false),
   oo 2 (.move (tq 32) false)])
 .ret)))))⟩
def zjj:Hint:=⟨[(3,9)],[],[none,none,none],[],[],false,false,[]⟩
def zg8:Nat→Sh:=yP []
def zg0 (zaE:zmV) (L:Nat):CBC:=(xv 210 (zmW zaE L) noC)
def zhz {β:Type} (zaE:zmV) (L:Nat) (zJ5:List (List V)) (zKc zKd:Int) (k_fin:Int→List (List V)→Int→Int→Option β):Option β :=
 ifb ((zKd:Int) != (0:Int)) (
 k_fin (0:Int) zJ5 zKc zKd) (
 zaE β L zJ5 zKc (fun v0 v1 v2 =>
 k_fin v0 zJ5 v1 v2))
theorem zra {β:Type} (zaE:zmV) (L:Nat) (zJ5:List (List V)) (zKc zKd:Int) (k:KK β):yt zg8 (zg0 zaE L) L zek [(V.ptr 0 0)] [(.live false [(V.sl 1 zJ5),(V.sc (.int .i64 zKc)),(V.sc (.int .i64 zKd))])] k=zhz zaE L zJ5 zKc zKd (fun p0 zJ5 zKc zKd=>k (V.sc (.int .u64 p0)) [(.live false [(V.sl 1 zJ5),(V.sc (.int .i64 zKc)),(V.sc (.int .i64 zKd))])]):=by kernel_rfl
abbrev zff:=∀ (β:Type),Nat→List (List V)→Int→Int→(Int→List (List V)→Int→Int→Option β)→Option β
def yK (β:Type) (L:Nat) (zJ5:List (List V)) (zKc zKd:Int) (k_fin:Int→List (List V)→Int→Int→Option β):Option β:=zhz zaE L zJ5 zKc zKd k_fin
def zeY (yK:zff) (L:Nat) (β:Type) (args:List V) (bor:Bor) (k:KK β):Option β:=match args,bor with
 | [a0],[(.live false [w0_0,w0_1,w0_2])]=>aP 0 0 a0 (aL 1 w0_0 fun zJ5=>aI .i64 w0_1 fun zKc=>aI .i64 w0_2 fun zKd=>yK β L zJ5 zKc zKd (fun p0 zJ5 zKc zKd=>k (V.sc (.int .u64 p0)) [(.live false [(V.sl 1 zJ5),(V.sc (.int .i64 zKc)),(V.sc (.int .i64 zKd))])]))
 | _,_=>none
theorem zrJ (L:Nat) (β:Type) (args:List V) (bor:Bor) (k:KK β) (r:β) (h:zeY yK L β args bor k=some r):yt zg8 (zg0 zaE L) L zek args bor k=some r:=by
 unfold zeY at h
 split at h
 ·have q:=zdE h; clear h; obtain ⟨rfl,h⟩:=q
  have q:=zM h; clear h; obtain ⟨zJ5,rfl,h⟩:=q
  have q:=zy h; clear h; obtain ⟨zKc,rfl,h⟩:=q
  have q:=zy h; clear h; obtain ⟨zKd,rfl,h⟩:=q
  exact (zra zaE L zJ5 zKc zKd k).trans h
 ·cases h
def zhW:CF:=⟨17,[.tmp 4],
 (.seq (.reg [oo 4 (.move (.const (.gs 1 [])) true)])
 (.seq (.reg [oo 6 (.move (tq 0) false),
   oo 7 (.lenS (tq 6)),
   oo 8 (.move (tq 1) false),
   oo 9 (.lenS (tq 8)),
   oo 10 (.bin .add (tq 7) (tq 9)),
   oo 11 (.makeSlice 1 1 [(.sc (.int .u8 0))] (.const (.sc (.int .i64 0))) (tq 10)),
   oo 5 (.move (tq 11) true)])
 (.seq (.reg [oo 12 (.move (tq 5) true),
   oo 13 (.move (tq 0) false),
   oo 14 (.append 1 1 (tq 12) (tq 13)),
   oo 15 (.move (tq 1) false),
   oo 16 (.append 1 1 (tq 14) (tq 15)),
   oo 4 (.move (tq 16) true)])
 .ret)))⟩
def zon:Hint:=⟨[(0,0),(1,6),(2,0),(2,5)],[],[none],[],[],false,false,[]⟩
def zlj:Nat→Sh:=yP []
def zkO (L:Nat):CBC:=noC
def zme {β:Type} (L:Nat) (p0 p1:List (List V)) (k_fin:List (List V)→Option β):Option β :=
 lt (IntKind.wrap .i64 ((((List.length p0:Nat):Int):Int)+((List.length p1:Nat):Int))) fun x0 =>
 chk (0≤(0:Int)∧(0:Int)≤x0∧(Int.toNat x0) * 1≤yn∧x0≤yn) (
 chk ((List.length (List.replicate 0 [(V.sc (.int .u8 (0:Int)))])+List.length p0) * 1≤yn∧List.length (List.replicate 0 [(V.sc (.int .u8 (0:Int)))])+List.length p0≤yn) (
 lt ((List.replicate 0 [(V.sc (.int .u8 (0:Int)))])++p0) fun l1 =>
 chk ((List.length l1+List.length p1) * 1≤yn∧List.length l1+List.length p1≤yn) (
 lt (l1++p1) fun l2 =>
 k_fin l2)))
theorem zwd {β:Type} (L:Nat) (p0 p1:List (List V)) (k:KK β):yt zlj (zkO L) L zhW [(V.sl 1 p0),(V.sl 1 p1)] [] k=zme L p0 p1 (fun p0=>k (V.gs 1 p0) []):=by kernel_rfl
abbrev zat:=∀ (β:Type),Nat→List (List V)→List (List V)→(List (List V)→Option β)→Option β
def xn (β:Type) (L:Nat) (p0 p1:List (List V)) (k_fin:List (List V)→Option β):Option β:=zme L p0 p1 k_fin
def zcd (xn:zat) (L:Nat) (β:Type) (args:List V) (bor:Bor) (k:KK β):Option β:=match args,bor with
 | [a0,a1],[]=>aL 1 a0 fun p0=>aL 1 a1 fun p1=>xn β L p0 p1 (fun p0=>k (V.gs 1 p0) [])
 | _,_=>none
theorem zv5 (L:Nat) (β:Type) (args:List V) (bor:Bor) (k:KK β) (r:β) (h:zcd xn L β args bor k=some r):yt zlj (zkO L) L zhW args bor k=some r:=by
 unfold zcd at h
 split at h
 ·have q:=zM h; clear h; obtain ⟨p0,rfl,h⟩:=q
  have q:=zM h; clear h; obtain ⟨p1,rfl,h⟩:=q
  exact (zwd L p0 p1 k).trans h
 ·cases h
def ziQ:CF:=⟨45,[.tmp 6,.tmp 7,.tmp 8],
 (.seq (.reg [oo 6 (.move (.const (.gs 1 [])) true),
   oo 7 (.move (.const (.sc (.int .i64 0))) false),
   oo 8 (.move (.const (.sc (.int .i64 0))) false)])
 (.seq (.seq (.reg [oo 12 (.move (tq 2) false),
   oo 13 (.bin .lss (tq 12) (.const (.sc (.int .i64 0))))])
 (.cond (tq 13)
 (.seq (.reg [oo 6 (.move (.const (.gs 1 [])) true),
   oo 7 (.move (.const (.sc (.int .i64 0))) false),
   oo 8 (.move (.const (.sc (.int .i64 5))) false)])
 .ret)
 .skip))
 (.seq (.reg [oo 15 (.move (tq 0) false),
   oo 16 (.move (tq 1) false),
   oo 17 (.move (tq 2) false),
   oo 18 (.conv .u64 (tq 17)),
   oo 19 (.call 201 [((tq 15),0),((tq 16),0),((tq 18),0)] []),
   oo 14 (.move (tq 19) true),
   oo 20 (.pull (tq 14) 0),
   oo 21 (.pull (tq 14) 1),
   oo 22 (.pull (tq 14) 2),
   oo 9 (.move (tq 20) false),
   oo 10 (.move (tq 21) false),
   oo 11 (.move (tq 22) false)])
 (.seq (.seq (.reg [oo 23 (.move (tq 11) false),
   oo 24 (.bin .neq (tq 23) (.const (.sc (.int .i64 0))))])
 (.cond (tq 24)
 (.seq (.reg [oo 25 (.move (tq 11) false),
   oo 6 (.move (.const (.gs 1 [])) true),
   oo 7 (.move (.const (.sc (.int .i64 0))) false),
   oo 8 (.move (tq 25) false)])
 .ret)
 .skip))
 (.seq (.seq (.reg [oo 26 (.move (tq 0) false),
   oo 27 (.lenS (tq 26)),
   oo 28 (.move (tq 10) false),
   oo 29 (.bin .sub (tq 27) (tq 28)),
   oo 30 (.conv .u64 (tq 29)),
   oo 31 (.move (tq 9) false),
   oo 32 (.bin .lss (tq 30) (tq 31))])
 (.cond (tq 32)
 (.seq (.reg [oo 6 (.move (.const (.gs 1 [])) true),
   oo 7 (.move (.const (.sc (.int .i64 0))) false),
   oo 8 (.move (.const (.sc (.int .i64 1))) false)])
 .ret)
 .skip))
 (.seq (.reg [oo 33 (.move (tq 0) true),
   oo 34 (.move (tq 10) false),
   oo 35 (.move (tq 10) false),
   oo 36 (.move (tq 9) false),
   oo 37 (.conv .i64 (tq 36)),
   oo 38 (.bin .add (tq 35) (tq 37)),
   oo 39 (.sliceS 1 (tq 33) (some (tq 34)) (some (tq 38)) none),
   oo 40 (.call 193 [((.const (.gs 1 [])),0),((tq 39),0)] []),
   oo 41 (.move (tq 10) false),
   oo 42 (.move (tq 9) false),
   oo 43 (.conv .i64 (tq 42)),
   oo 44 (.bin .add (tq 41) (tq 43)),
   oo 6 (.move (tq 40) true),
   oo 7 (.move (tq 44) false),
   oo 8 (.move (.const (.sc (.int .i64 0))) false)])
 .ret))))))⟩
def zpg:Hint:=⟨[(0,0),(2,0),(3,5),(5,1),(7,0),(8,0),(8,12)],[],[none,none,none,none,none,none,none],[],[],false,false,[]⟩
def zmc:Nat→Sh:=yP []
def zmi (xJ:zeR) (xn:zat) (L:Nat):CBC:=(xv 193 (zcd xn L) (xv 201 (ziC xJ L) noC))
def znZ {β:Type} (xJ:zeR) (xn:zat) (L:Nat) (p0:List (List V)) (p1 p2:Int) (k_fin:List (List V)→Int→Int→Option β):Option β :=
 ifb (decide (p2 < (0:Int))) (
 k_fin ([]:List (List V)) (0:Int) (5:Int)) (
 lt (IntKind.wrap .u64 p2) fun x0 =>
 xJ β L p0 p1 x0 (fun v1 v2 v3 =>
 ifb ((v3:Int) != (0:Int)) (
 k_fin ([]:List (List V)) (0:Int) v3) (
 lt (IntKind.wrap .i64 ((((List.length p0:Nat):Int):Int) - v2)) fun x4 =>
 lt (IntKind.wrap .u64 x4) fun x5 =>
 ifb (decide (x5 < v1)) (
 k_fin ([]:List (List V)) (0:Int) (1:Int)) (
 lt (IntKind.wrap .i64 v1) fun x6 =>
 lt (IntKind.wrap .i64 ((v2:Int)+x6)) fun x7 =>
 chk (0≤x7∧x7≤(((List.length p0):Nat):Int)) (
 chk (0≤v2∧v2≤(((Int.toNat x7):Nat):Int)) (
 xn β L ([]:List (List V)) (List.take ((Int.toNat x7) - (Int.toNat v2)) (List.drop (Int.toNat v2) p0)) (fun v8 =>
 lt (IntKind.wrap .i64 v1) fun x9 =>
 lt (IntKind.wrap .i64 ((v2:Int)+x9)) fun x10 =>
 k_fin v8 x10 (0:Int))))))))
theorem zwY {β:Type} (xJ:zeR) (xn:zat) (L:Nat) (p0:List (List V)) (p1 p2:Int) (k:KK β):yt zmc (zmi xJ xn L) L ziQ [(V.sl 1 p0),(V.sc (.int .i64 p1)),(V.sc (.int .i64 p2))] [] k=znZ xJ xn L p0 p1 p2 (fun zKg zKh zKi=>k (V.tup [(V.gs 1 zKg),(V.sc (.int .i64 zKh)),(V.sc (.int .i64 zKi))]) []):=by kernel_rfl
abbrev zj0:=∀ (β:Type),Nat→List (List V)→Int→Int→(List (List V)→Int→Int→Option β)→Option β
def z5 (β:Type) (L:Nat) (p0:List (List V)) (p1 p2:Int) (k_fin:List (List V)→Int→Int→Option β):Option β:=znZ xJ xn L p0 p1 p2 k_fin
def zjS (z5:zj0) (L:Nat) (β:Type) (args:List V) (bor:Bor) (k:KK β):Option β:=match args,bor with
 | [a0,a1,a2],[]=>aL 1 a0 fun p0=>aI .i64 a1 fun p1=>aI .i64 a2 fun p2=>z5 β L p0 p1 p2 (fun zKg zKh zKi=>k (V.tup [(V.gs 1 zKg),(V.sc (.int .i64 zKh)),(V.sc (.int .i64 zKi))]) [])
 | _,_=>none
theorem zw2 (L:Nat) (β:Type) (args:List V) (bor:Bor) (k:KK β) (r:β) (h:zjS z5 L β args bor k=some r):yt zmc (zmi xJ xn L) L ziQ args bor k=some r:=by
 unfold zjS at h
 split at h
 ·have q:=zM h; clear h; obtain ⟨p0,rfl,h⟩:=q
  have q:=zy h; clear h; obtain ⟨p1,rfl,h⟩:=q
  have q:=zy h; clear h; obtain ⟨p2,rfl,h⟩:=q
  exact (zwY xJ xn L p0 p1 p2 k).trans h
 ·cases h
def zdL:CF:=⟨36,[.tmp 4],
 (.seq (.reg [oo 4 (.move (.const (.gs 1 [])) true)])
 (.seq (.seq (.reg [oo 8 (.move (tq 0) false),
   oo 9 (.nilCheck (tq 8)),
   oo 10 (.fieldAddr 2 (tq 9)),
   oo 11 (.load false 1 (tq 10) false),
   oo 12 (.bin .neq (tq 11) (.const (.sc (.int .i64 0))))])
 (.cond (tq 12)
 (.seq (.reg [oo 4 (.move (.const (.gs 1 [])) true)])
 .ret)
 .skip))
 (.seq (.dreg [] [(oo 14 (.move (tq 0) false),q0),
   (oo 15 (.nilCheck (tq 14)),q0),
   (oo 16 (.fieldAddr 0 (tq 15)),q0),
   (oo 17 (.load false 1 (tq 16) false),ql 0 [] []),
   (oo 18 (.move (tq 0) false),q0),
   (oo 19 (.nilCheck (tq 18)),q0),
   (oo 20 (.fieldAddr 1 (tq 19)),q0),
   (oo 21 (.load false 1 (tq 20) false),ql 0 [] []),
   (oo 22 (.move (tq 1) false),q0),
   (oo 23 (.call 204 [((tq 17),0),((tq 21),0),((tq 22),0)] []),q0),
   (oo 13 (.move (tq 23) true),q0),
   (oo 24 (.pull (tq 13) 0),q0),
   (oo 25 (.pull (tq 13) 1),q0),
   (oo 26 (.pull (tq 13) 2),q0),
   (oo 5 (.move (tq 24) true),q0),
   (oo 6 (.move (tq 25) false),q0),
   (oo 7 (.move (tq 26) false),q0)])
 (.seq (.reg [oo 27 (.move (tq 0) false),
   oo 28 (.move (tq 0) false),
   oo 29 (.move (tq 6) false),
   oo 30 (.move (tq 7) false),
   oo 31 (.nilCheck (tq 27)),
   oo 32 (.fieldAddr 1 (tq 31)),
   oz (.store 1 (tq 32) (tq 29)),
   oo 33 (.nilCheck (tq 28)),
   oo 34 (.fieldAddr 2 (tq 33)),
   oz (.store 1 (tq 34) (tq 30))])
 (.seq (.reg [oo 35 (.move (tq 5) true),
   oo 4 (.move (tq 35) true)])
 .ret)))))⟩
def zi5:Hint:=⟨[(0,0),(2,0),(3,10),(3,14),(5,0),(5,1)],[],[none,none,none],[],[],false,false,[]⟩
def zgh:Nat→Sh:=yP []
def zgr (z5:zj0) (L:Nat):CBC:=(xv 204 (zjS z5 L) noC)
def zer {β:Type} (z5:zj0) (L:Nat) (p1:Int) (zJ5:List (List V)) (zKc zKd:Int) (k_fin:List (List V)→List (List V)→Int→Int→Option β) (k_finv1:List (List V)→List (List V)→Int→Int→Option β):Option β :=
 ifb ((zKd:Int) != (0:Int)) (
 k_fin ([]:List (List V)) zJ5 zKc zKd) (
 z5 β L zJ5 zKc p1 (fun v0 v1 v2 =>
 k_finv1 v0 zJ5 v1 v2))
theorem zqp {β:Type} (z5:zj0) (L:Nat) (p1:Int) (zJ5:List (List V)) (zKc zKd:Int) (k:KK β):yt zgh (zgr z5 L) L zdL [(V.ptr 0 0),(V.sc (.int .i64 p1))] [(.live false [(V.sl 1 zJ5),(V.sc (.int .i64 zKc)),(V.sc (.int .i64 zKd))])] k=zer z5 L p1 zJ5 zKc zKd (fun p0 zJ5 zKc zKd=>k (V.gs 1 p0) [(.live false [(V.sl 1 zJ5),(V.sc (.int .i64 zKc)),(V.sc (.int .i64 zKd))])]) (fun p0 zJ5 zKc zKd=>k (V.sl 1 p0) [(.live false [(V.sl 1 zJ5),(V.sc (.int .i64 zKc)),(V.sc (.int .i64 zKd))])]):=by kernel_rfl
abbrev xi:=∀ (β:Type),Nat→Int→List (List V)→Int→Int→(List (List V)→List (List V)→Int→Int→Option β)→(List (List V)→List (List V)→Int→Int→Option β)→Option β
def za (β:Type) (L:Nat) (p1:Int) (zJ5:List (List V)) (zKc zKd:Int) (k_fin:List (List V)→List (List V)→Int→Int→Option β) (k_finv1:List (List V)→List (List V)→Int→Int→Option β):Option β:=zer z5 L p1 zJ5 zKc zKd k_fin k_finv1
def zcW (za:xi) (L:Nat) (β:Type) (args:List V) (bor:Bor) (k:KK β):Option β:=match args,bor with
 | [a0,a1],[(.live false [w0_0,w0_1,w0_2])]=>aP 0 0 a0 (aI .i64 a1 fun p1=>aL 1 w0_0 fun zJ5=>aI .i64 w0_1 fun zKc=>aI .i64 w0_2 fun zKd=>za β L p1 zJ5 zKc zKd (fun p0 zJ5 zKc zKd=>k (V.gs 1 p0) [(.live false [(V.sl 1 zJ5),(V.sc (.int .i64 zKc)),(V.sc (.int .i64 zKd))])]) (fun p0 zJ5 zKc zKd=>k (V.sl 1 p0) [(.live false [(V.sl 1 zJ5),(V.sc (.int .i64 zKc)),(V.sc (.int .i64 zKd))])]))
 | _,_=>none
theorem zqg (L:Nat) (β:Type) (args:List V) (bor:Bor) (k:KK β) (r:β) (h:zcW za L β args bor k=some r):yt zgh (zgr z5 L) L zdL args bor k=some r:=by
 unfold zcW at h
 split at h
 ·have q:=zdE h; clear h; obtain ⟨rfl,h⟩:=q
  have q:=zy h; clear h; obtain ⟨p1,rfl,h⟩:=q
  have q:=zM h; clear h; obtain ⟨zJ5,rfl,h⟩:=q
  have q:=zy h; clear h; obtain ⟨zKc,rfl,h⟩:=q
  have q:=zy h; clear h; obtain ⟨zKd,rfl,h⟩:=q
  exact (zqp z5 L p1 zJ5 zKc zKd k).trans h
 ·cases h
def zdA:CF:=⟨23,[.cell 2 true 2],
 (.seq (.reg [oo 2 (.alloc true [(.sc (.int .i64 0)),(.gs 1 [])])])
 (.seq (.reg [oo 4 (.move (tq 0) false),
   oo 5 (.call 203 [((tq 4),0)] []),
   oo 3 (.move (tq 5) false)])
 (.seq (.seq (.reg [oo 6 (.move (tq 0) false),
   oo 7 (.nilCheck (tq 6)),
   oo 8 (.fieldAddr 2 (tq 7)),
   oo 9 (.load false 1 (tq 8) false),
   oo 10 (.bin .eql (tq 9) (.const (.sc (.int .i64 0)))),
   oo 11 (.move (tq 10) false),
   ⟨(some 12),false,(some (11,true)),.move (tq 3) false⟩,
   ⟨(some 13),false,(some (11,true)),.bin .geq (tq 12) (.const (.sc (.int .u64 9223372036854775808)))⟩,
   oo 14 (.pick (tq 11) (tq 13) (.const (.sc (.bool false))))])
 (.cond (tq 14)
 (.reg [oo 15 (.move (tq 0) false),
   oo 16 (.nilCheck (tq 15)),
   oo 17 (.fieldAddr 2 (tq 16)),
   oz (.store 1 (tq 17) (.const (.sc (.int .i64 90))))])
 .skip))
 (.seq (.reg [oo 18 (.move (tq 3) false),
   oo 19 (.conv .i64 (tq 18)),
   oo 20 (.move (tq 0) false),
   oo 21 (.call 178 [((tq 20),0),((.const (.sc (.int .i64 520))),0)] []),
   oo 22 (.build [(.sc (.int .i64 0)),(.sl 1 [])] [(0,1,(tq 19)),(1,1,(tq 21))]),
   oz (.store 2 (tq 2) (tq 22))])
 .ret))))⟩
def zip:Hint:=⟨[(0,0)],[],[none,none],[],[],false,false,[]⟩
def zfT:Nat→Sh:=yP []
def zfS (yK:zff) (za:xi) (L:Nat):CBC:=(xv 178 (zcW za L) (xv 203 (zeY yK L) noC))
def zgk {β:Type} (yK:zff) (za:xi) (L:Nat) (zJ5:List (List V)) (zKc zKd:Int) (k_fin:List V→List (List V)→Int→Int→Option β):Option β :=
 yK β L zJ5 zKc zKd (fun v0 v1 v2 v3 =>
 ifb ((v3:Int) == (0:Int)) (
 ifb (decide (v0 ≥ (9223372036854775808:Int))) (
 lt (IntKind.wrap .i64 v0) fun x4 =>
 za β L (520:Int) v1 v2 (90:Int) (fun v5 v6 v7 v8 =>
 lt [(V.sc (.int .i64 x4)),(V.sl 1 v5)] fun r9 =>
 chk (0=0∧(List.length r9)=2∧2≠0) (
 k_fin r9 v6 v7 v8)) (fun v10 v11 v12 v13 =>
 lt [(V.sc (.int .i64 x4)),(V.sl 1 v10)] fun r14 =>
 chk (0=0∧(List.length r14)=2∧2≠0) (
 k_fin r14 v11 v12 v13))) (
 lt (IntKind.wrap .i64 v0) fun x15 =>
 za β L (520:Int) v1 v2 v3 (fun v16 v17 v18 v19 =>
 lt [(V.sc (.int .i64 x15)),(V.sl 1 v16)] fun r20 =>
 chk (0=0∧(List.length r20)=2∧2≠0) (
 k_fin r20 v17 v18 v19)) (fun v21 v22 v23 v24 =>
 lt [(V.sc (.int .i64 x15)),(V.sl 1 v21)] fun r25 =>
 chk (0=0∧(List.length r25)=2∧2≠0) (
 k_fin r25 v22 v23 v24)))) (
 lt (IntKind.wrap .i64 v0) fun x26 =>
 za β L (520:Int) v1 v2 v3 (fun v27 v28 v29 v30 =>
 lt [(V.sc (.int .i64 x26)),(V.sl 1 v27)] fun r31 =>
 chk (0=0∧(List.length r31)=2∧2≠0) (
 k_fin r31 v28 v29 v30)) (fun v32 v33 v34 v35 =>
 lt [(V.sc (.int .i64 x26)),(V.sl 1 v32)] fun r36 =>
 chk (0=0∧(List.length r36)=2∧2≠0) (
 k_fin r36 v33 v34 v35))))
theorem zpT {β:Type} (yK:zff) (za:xi) (L:Nat) (zJ5:List (List V)) (zKc zKd:Int) (k:KK β):yt zfT (zfS yK za L) L zdA [(V.ptr 0 0)] [(.live false [(V.sl 1 zJ5),(V.sc (.int .i64 zKc)),(V.sc (.int .i64 zKd))])] k=zgk yK za L zJ5 zKc zKd (fun p0 zJ5 zKc zKd=>k (V.agg p0) [(.live false [(V.sl 1 zJ5),(V.sc (.int .i64 zKc)),(V.sc (.int .i64 zKd))])]):=by kernel_rfl
abbrev zk:=∀ (β:Type),Nat→List (List V)→Int→Int→(List V→List (List V)→Int→Int→Option β)→Option β
def ya (β:Type) (L:Nat) (zJ5:List (List V)) (zKc zKd:Int) (k_fin:List V→List (List V)→Int→Int→Option β):Option β:=zgk yK za L zJ5 zKc zKd k_fin
def zdV (ya:zk) (L:Nat) (β:Type) (args:List V) (bor:Bor) (k:KK β):Option β:=match args,bor with
 | [a0],[(.live false [w0_0,w0_1,w0_2])]=>aP 0 0 a0 (aL 1 w0_0 fun zJ5=>aI .i64 w0_1 fun zKc=>aI .i64 w0_2 fun zKd=>ya β L zJ5 zKc zKd (fun p0 zJ5 zKc zKd=>k (V.agg p0) [(.live false [(V.sl 1 zJ5),(V.sc (.int .i64 zKc)),(V.sc (.int .i64 zKd))])]))
 | _,_=>none
theorem zpv (L:Nat) (β:Type) (args:List V) (bor:Bor) (k:KK β) (r:β) (h:zdV ya L β args bor k=some r):yt zfT (zfS yK za L) L zdA args bor k=some r:=by
 unfold zdV at h
 split at h
 ·have q:=zdE h; clear h; obtain ⟨rfl,h⟩:=q
  have q:=zM h; clear h; obtain ⟨zJ5,rfl,h⟩:=q
  have q:=zy h; clear h; obtain ⟨zKc,rfl,h⟩:=q
  have q:=zy h; clear h; obtain ⟨zKd,rfl,h⟩:=q
  exact (zpT yK za L zJ5 zKc zKd k).trans h
 ·cases h
end
end Go.Proofs.Ytoeobffjdbdpgaa
