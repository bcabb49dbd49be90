/- Part 10 of the proof of TxBack: an abstract machine over plain values, its soundness, and the functions of the program on plain values. -/
import Derived.Test.YtoeobffjdbdpgaaMTxBack9
namespace Go.Proofs.Ytoeobffjdbdpgaa
section
set_option maxRecDepth 100000
set_option linter.unusedVariables false
set_option linter.unusedSimpArgs false
def zjh:CF:=⟨74,[.tmp 6,.tmp 7,.tmp 8],
 (.seq (.reg [oo 6 (.move (.const (.sc (.int .u64 0))) false),
   oo 7 (.move (.const (.sc (.int .i64 0))) false),
   oo 8 (.move (.const (.sc (.int .i64 0))) false)])
 (.seq (.reg [oo 17 (.move (tq 0) false),
   oo 18 (.move (tq 1) false),
   oo 19 (.call 195 [((tq 17),0),((tq 18),0)] []),
   oo 16 (.move (tq 19) true),
   oo 20 (.pull (tq 16) 0),
   oo 21 (.pull (tq 16) 1),
   oo 22 (.pull (tq 16) 2),
   oo 9 (.move (tq 20) false),
   oo 10 (.move (tq 21) false),
   oo 11 (.move (tq 22) false)])
 (.seq (.seq (.reg [oo 23 (.move (tq 11) false),
   oo 24 (.bin .neq (tq 23) (.const (.sc (.int .i64 0))))])
 (.cond (tq 24)
 (.seq (.reg [oo 25 (.move (tq 11) false),
   oo 6 (.move (.const (.sc (.int .u64 0))) false),
   oo 7 (.move (.const (.sc (.int .i64 0))) false),
   oo 8 (.move (tq 25) false)])
 .ret)
 .skip))
 (.seq (.reg [oo 26 (.move (tq 9) false),
   oo 27 (.conv .u64 (tq 26)),
   oo 12 (.move (tq 27) false),
   oo 13 (.move (.const (.sc (.int .u64 0))) false)])
 (.seq (.seq (.reg [oo 28 (.move (tq 9) false)])
 (.block 0 (.seq (.reg [oo 30 (.bin .eql (tq 28) (.const (.sc (.int .u8 253)))),
   oo 29 (.move (tq 30) false)])
 (.cond (tq 29)
 (.seq (.reg [oo 14 (.move (.const (.sc (.int .u16 0))) false)])
 (.seq (.reg [oo 32 (.move (tq 0) false),
   oo 33 (.move (tq 10) false),
   oo 34 (.call 196 [((tq 32),0),((tq 33),0)] []),
   oo 31 (.move (tq 34) true),
   oo 35 (.pull (tq 31) 0),
   oo 36 (.pull (tq 31) 1),
   oo 37 (.pull (tq 31) 2),
   oo 14 (.move (tq 35) false),
   oo 10 (.move (tq 36) false),
   oo 11 (.move (tq 37) false)])
 (.reg [oo 38 (.move (tq 14) false),
   oo 39 (.conv .u64 (tq 38)),
   oo 12 (.move (tq 39) false),
   oo 13 (.move (.const (.sc (.int .u64 253))) false)])))
 (.seq (.reg [oo 41 (.bin .eql (tq 28) (.const (.sc (.int .u8 254)))),
   oo 40 (.move (tq 41) false)])
 (.cond (tq 40)
 (.seq (.reg [oo 15 (.move (.const (.sc (.int .u32 0))) false)])
 (.seq (.reg [oo 43 (.move (tq 0) false),
   oo 44 (.move (tq 10) false),
   oo 45 (.call 170 [((tq 43),0),((tq 44),0)] []),
   oo 42 (.move (tq 45) true),
   oo 46 (.pull (tq 42) 0),
   oo 47 (.pull (tq 42) 1),
   oo 48 (.pull (tq 42) 2),
   oo 15 (.move (tq 46) false),
   oo 10 (.move (tq 47) false),
   oo 11 (.move (tq 48) false)])
 (.reg [oo 49 (.move (tq 15) false),
   oo 50 (.conv .u64 (tq 49)),
   oo 12 (.move (tq 50) false),
   oo 13 (.move (.const (.sc (.int .u64 65536))) false)])))
 (.seq (.reg [oo 52 (.bin .eql (tq 28) (.const (.sc (.int .u8 255)))),
   oo 51 (.move (tq 52) false)])
 (.cond (tq 51)
 (.seq (.reg [oo 54 (.move (tq 0) false),
   oo 55 (.move (tq 10) false),
   oo 56 (.call 173 [((tq 54),0),((tq 55),0)] []),
   oo 53 (.move (tq 56) true),
   oo 57 (.pull (tq 53) 0),
   oo 58 (.pull (tq 53) 1),
   oo 59 (.pull (tq 53) 2),
   oo 12 (.move (tq 57) false),
   oo 10 (.move (tq 58) false),
   oo 11 (.move (tq 59) false)])
 (.reg [oo 13 (.move (.const (.sc (.int .u64 4294967296))) false)]))
 .skip))))))))
 (.seq (.block 1 (.seq (.reg [oo 61 (.move (tq 11) false),
   oo 62 (.bin .neq (tq 61) (.const (.sc (.int .i64 0)))),
   oo 60 (.move (tq 62) false)])
 (.cond (tq 60)
 (.seq (.reg [oo 63 (.move (tq 11) false),
   oo 6 (.move (.const (.sc (.int .u64 0))) false),
   oo 7 (.move (.const (.sc (.int .i64 0))) false),
   oo 8 (.move (tq 63) false)])
 .ret)
 (.seq (.reg [oo 65 (.move (tq 12) false),
   oo 66 (.move (tq 13) false),
   oo 67 (.bin .lss (tq 65) (tq 66)),
   oo 64 (.move (tq 67) false)])
 (.cond (tq 64)
 (.seq (.reg [oo 6 (.move (.const (.sc (.int .u64 0))) false),
   oo 7 (.move (.const (.sc (.int .i64 0))) false),
   oo 8 (.move (.const (.sc (.int .i64 3))) false)])
 .ret)
 (.seq (.reg [oo 69 (.move (tq 12) false),
   oo 70 (.move (tq 2) false),
   oo 71 (.bin .gtr (tq 69) (tq 70)),
   oo 68 (.move (tq 71) false)])
 (.cond (tq 68)
 (.seq (.reg [oo 6 (.move (.const (.sc (.int .u64 0))) false),
   oo 7 (.move (.const (.sc (.int .i64 0))) false),
   oo 8 (.move (.const (.sc (.int .i64 4))) false)])
 .ret)
 .skip)))))))
 (.seq (.reg [oo 72 (.move (tq 12) false),
   oo 73 (.move (tq 10) false),
   oo 6 (.move (tq 72) false),
   oo 7 (.move (tq 73) false),
   oo 8 (.move (.const (.sc (.int .i64 0))) false)])
 .ret)))))))⟩
def zpH:Hint:=⟨[(1,3),(8,3),(12,3),(15,3)],[],[none,none,none,none,none,none,none,none,none,none,none,none,none,none],[],[],false,false,[]⟩
def zny:Nat→Sh:=yL []
def zns (zaw:zn9) (zal:zms) (xK:zfi) (zL:zfb) (L:Nat):CBC:=(zt 173 (ziM zL L) (zt 170 (ziS xK L) (zt 196 (zmC zal L) (zt 195 (znW zaw L) noC))))
def zoK {β:Type} (zaw:zn9) (zal:zms) (xK:zfi) (zL:zfb) (L:Nat) (p0:List (List V)) (p1 p2:Int) (k_fin:Int→Int→Int→Option β):Option β :=
 zaw β L p0 p1 (fun v0 v1 v2 =>
 ifb ((v2:Int) != (0:Int)) (
 k_fin (0:Int) (0:Int) v2) (
 lt (IntKind.wrap .u64 v0) fun x3 =>
 ifb ((v0:Int) == (253:Int)) (
 zal β L p0 v1 (fun v4 v5 v6 =>
 lt (IntKind.wrap .u64 v4) fun x7 =>
 ifb ((v6:Int) != (0:Int)) (
 k_fin (0:Int) (0:Int) v6) (
 ifb (decide (x7 < (253:Int))) (
 k_fin (0:Int) (0:Int) (3:Int)) (
 ifb (decide (x7 > p2)) (
 k_fin (0:Int) (0:Int) (4:Int)) (
 k_fin x7 v5 (0:Int)))))) (
 ifb ((v0:Int) == (254:Int)) (
 xK β L p0 v1 (fun v8 v9 v10 =>
 lt (IntKind.wrap .u64 v8) fun x11 =>
 ifb ((v10:Int) != (0:Int)) (
 k_fin (0:Int) (0:Int) v10) (
 ifb (decide (x11 < (65536:Int))) (
 k_fin (0:Int) (0:Int) (3:Int)) (
 ifb (decide (x11 > p2)) (
 k_fin (0:Int) (0:Int) (4:Int)) (
 k_fin x11 v9 (0:Int)))))) (
 ifb ((v0:Int) == (255:Int)) (
 zL β L p0 v1 (fun v12 v13 v14 =>
 ifb ((v14:Int) != (0:Int)) (
 k_fin (0:Int) (0:Int) v14) (
 ifb (decide (v12 < (4294967296:Int))) (
 k_fin (0:Int) (0:Int) (3:Int)) (
 ifb (decide (v12 > p2)) (
 k_fin (0:Int) (0:Int) (4:Int)) (
 k_fin v12 v13 (0:Int)))))) (
 ifb ((v2:Int) != (0:Int)) (
 k_fin (0:Int) (0:Int) v2) (
 ifb (decide (x3 < (0:Int))) (
 k_fin (0:Int) (0:Int) (3:Int)) (
 ifb (decide (x3 > p2)) (
 k_fin (0:Int) (0:Int) (4:Int)) (
 k_fin x3 v1 (0:Int)))))))))
theorem zxQ {β:Type} (zaw:zn9) (zal:zms) (xK:zfi) (zL:zfb) (L:Nat) (p0:List (List V)) (p1 p2:Int) (k:KK β):xv zny (zns zaw zal xK zL L) L zjh [(V.sl 1 p0),(V.sc (.int .i64 p1)),(V.sc (.int .u64 p2))] [] k=zoK zaw zal xK zL L p0 p1 p2 (fun zKX zKY zK1=>k (V.tup [(V.sc (.int .u64 zKX)),(V.sc (.int .i64 zKY)),(V.sc (.int .i64 zK1))]) []):=by kernel_rfl
abbrev zd2:=∀ (β:Type),Nat→List (List V)→Int→Int→(Int→Int→Int→Option β)→Option β
def zG (β:Type) (L:Nat) (p0:List (List V)) (p1 p2:Int) (k_fin:Int→Int→Int→Option β):Option β:=zoK zaw zal xK zL L p0 p1 p2 k_fin
def zhC (zG:zd2) (L:Nat) (β:Type) (args:List V) (bor:Bor) (k:KK β):Option β:=match args,bor with
 | [a0,a1,a2],[]=>aL 1 a0 fun p0=>aI .i64 a1 fun p1=>aI .u64 a2 fun p2=>zG β L p0 p1 p2 (fun zKX zKY zK1=>k (V.tup [(V.sc (.int .u64 zKX)),(V.sc (.int .i64 zKY)),(V.sc (.int .i64 zK1))]) [])
 | _,_=>none
theorem zxy (L:Nat) (β:Type) (args:List V) (bor:Bor) (k:KK β) (r:β) (h:zhC zG L β args bor k=some r):xv zny (zns zaw zal xK zL L) L zjh args bor k=some r:=by
 unfold zhC at h
 split at h
 ·have q:=xU h; clear h; obtain ⟨p0,rfl,h⟩:=q
  have q:=zI h; clear h; obtain ⟨p1,rfl,h⟩:=q
  have q:=zI h; clear h; obtain ⟨p2,rfl,h⟩:=q
  exact (zxQ zaw zal xK zL L p0 p1 p2 k).trans h
 ·cases h
def zhV:CF:=⟨15,[.tmp 5,.tmp 6,.tmp 7],
 (.seq (.reg [oo 5 (.move (.const (.sc (.int .u64 0))) false),
   oo 6 (.move (.const (.sc (.int .i64 0))) false),
   oo 7 (.move (.const (.sc (.int .i64 0))) false)])
 (.seq (.reg [oo 8 (.move (tq 0) false),
   oo 9 (.move (tq 1) false),
   oo 10 (.load false 1 (tq 2) false),
   oo 11 (.call 164 [((tq 8),0),((tq 9),0),((tq 10),0)] []),
   oo 12 (.pull (tq 11) 0),
   oo 13 (.pull (tq 11) 1),
   oo 14 (.pull (tq 11) 2),
   oo 5 (.move (tq 12) false),
   oo 6 (.move (tq 13) false),
   oo 7 (.move (tq 14) false)])
 .ret))⟩
def zo2:Hint:=⟨[],[],[none],[],[],false,false,[]⟩
def zmf:Nat→Sh:=yL []
def zlP (zG:zd2) (L:Nat):CBC:=(zt 164 (zhC zG L) noC)
def znu {β:Type} (zG:zd2) (L:Nat) (p0:List (List V)) (p1 zKR:Int) (k_fin:Int→Int→Int→Int→Option β):Option β :=
 zG β L p0 p1 zKR (fun v0 v1 v2 =>
 k_fin v0 v1 v2 zKR)
theorem zwE {β:Type} (zG:zd2) (L:Nat) (p0:List (List V)) (p1 zKR:Int) (k:KK β):xv zmf (zlP zG L) L zhV [(V.sl 1 p0),(V.sc (.int .i64 p1)),(V.ptr 0 0)] [(.live true [(V.sc (.int .u64 zKR))])] k=znu zG L p0 p1 zKR (fun zKX zKY zK1 zKR=>k (V.tup [(V.sc (.int .u64 zKX)),(V.sc (.int .i64 zKY)),(V.sc (.int .i64 zK1))]) [(.live true [(V.sc (.int .u64 zKR))])]):=by kernel_rfl
abbrev zji:=∀ (β:Type),Nat→List (List V)→Int→Int→(Int→Int→Int→Int→Option β)→Option β
def yY (β:Type) (L:Nat) (p0:List (List V)) (p1 zKR:Int) (k_fin:Int→Int→Int→Int→Option β):Option β:=znu zG L p0 p1 zKR k_fin
def zjr (yY:zji) (L:Nat) (β:Type) (args:List V) (bor:Bor) (k:KK β):Option β:=match args,bor with
 | [a0,a1,a2],[(.live true [w0_0])]=>aL 1 a0 fun p0=>aI .i64 a1 fun p1=>aP 0 0 a2 (aI .u64 w0_0 fun zKR=>yY β L p0 p1 zKR (fun zKX zKY zK1 zKR=>k (V.tup [(V.sc (.int .u64 zKX)),(V.sc (.int .i64 zKY)),(V.sc (.int .i64 zK1))]) [(.live true [(V.sc (.int .u64 zKR))])]))
 | _,_=>none
theorem zwq (L:Nat) (β:Type) (args:List V) (bor:Bor) (k:KK β) (r:β) (h:zjr yY L β args bor k=some r):xv zmf (zlP zG L) L zhV args bor k=some r:=by
 unfold zjr at h
 split at h
 ·have q:=xU h; clear h; obtain ⟨p0,rfl,h⟩:=q
  have q:=zI h; clear h; obtain ⟨p1,rfl,h⟩:=q
  have q:=zhB h; clear h; obtain ⟨rfl,h⟩:=q
  have q:=zI h; clear h; obtain ⟨zKR,rfl,h⟩:=q
  exact (zwE zG L p0 p1 zKR k).trans h
 ·cases h
def zdx:CF:=⟨41,[.tmp 4],
 (.seq (.reg [oo 4 (.move (.const (.sc (.int .u64 0))) false)])
 (.seq (.reg [oo 5 (.move (.const (.sc (.int .u64 0))) false)])
 (.seq (.seq (.reg [oo 9 (.move (tq 0) false),
   oo 10 (.nilCheck (tq 9)),
   oo 11 (.fieldAddr 2 (tq 10)),
   oo 12 (.load false 1 (tq 11) false),
   oo 13 (.bin .neq (tq 12) (.const (.sc (.int .i64 0))))])
 (.cond (tq 13)
 (.seq (.reg [oo 14 (.move (tq 5) false),
   oo 4 (.move (tq 14) false)])
 .ret)
 .skip))
 (.seq (.dreg [] [(oo 16 (.move (tq 1) false),q0),
   (oo 17 (.move (tq 0) false),q0),
   (oo 18 (.nilCheck (tq 17)),q0),
   (oo 19 (.fieldAddr 0 (tq 18)),q0),
   (oo 20 (.load false 1 (tq 19) false),ql 0 [] []),
   (oo 21 (.move (tq 0) false),q0),
   (oo 22 (.nilCheck (tq 21)),q0),
   (oo 23 (.fieldAddr 1 (tq 22)),q0),
   (oo 24 (.load false 1 (tq 23) false),ql 0 [] []),
   (oo 25 (.callv (tq 16) [((tq 20),0),((tq 24),0)] []),q0),
   (oo 15 (.move (tq 25) true),q0),
   (oo 26 (.pull (tq 15) 0),q0),
   (oo 27 (.pull (tq 15) 1),q0),
   (oo 28 (.pull (tq 15) 2),q0),
   (oo 6 (.move (tq 26) false),q0),
   (oo 7 (.move (tq 27) false),q0),
   (oo 8 (.move (tq 28) false),q0)])
 (.seq (.seq (.reg [oo 29 (.move (tq 8) false),
   oo 30 (.bin .neq (tq 29) (.const (.sc (.int .i64 0))))])
 (.cond (tq 30)
 (.seq (.reg [oo 31 (.move (tq 0) false),
   oo 32 (.move (tq 8) false),
   oo 33 (.nilCheck (tq 31)),
   oo 34 (.fieldAddr 2 (tq 33)),
   oz (.store 1 (tq 34) (tq 32))])
 (.seq (.reg [oo 35 (.move (tq 5) false),
   oo 4 (.move (tq 35) false)])
 .ret))
 .skip))
 (.seq (.reg [oo 36 (.move (tq 0) false),
   oo 37 (.move (tq 7) false),
   oo 38 (.nilCheck (tq 36)),
   oo 39 (.fieldAddr 1 (tq 38)),
   oz (.store 1 (tq 39) (tq 37))])
 (.seq (.reg [oo 40 (.move (tq 6) false),
   oo 4 (.move (tq 40) false)])
 .ret)))))))⟩
def zlE:Hint:=⟨[(4,10)],[],[none,none,none,none,none],[],[],false,false,[]⟩
def zio:Nat→Sh:=yL []
def ziA (yY:zji) (L:Nat):CBC:=(zt 163 (zjr yY L) noC)
def zgh {β:Type} (yY:zji) (L:Nat) (zKR:List (List V)) (zKU zKV zK5:Int) (k_fin:Int→List (List V)→Int→Int→Int→Option β):Option β :=
 ifb ((zKV:Int) != (0:Int)) (
 k_fin (0:Int) zKR zKU zKV zK5) (
 yY β L zKR zKU zK5 (fun v0 v1 v2 v3 =>
 ifb ((v2:Int) != (0:Int)) (
 k_fin (0:Int) zKR zKU v2 v3) (
 k_fin v0 zKR v1 zKV v3)))
theorem ztH {β:Type} (yY:zji) (L:Nat) (zKR:List (List V)) (zKU zKV zK5:Int) (k:KK β):xv zio (ziA yY L) L zdx [(V.ptr 0 0),(V.fn 163 [(V.ptr 1 0)])] [(.live false [(V.sl 1 zKR),(V.sc (.int .i64 zKU)),(V.sc (.int .i64 zKV))]),(.live true [(V.sc (.int .u64 zK5))])] k=zgh yY L zKR zKU zKV zK5 (fun p0 zKR zKU zKV zK5=>k (V.sc (.int .u64 p0)) [(.live false [(V.sl 1 zKR),(V.sc (.int .i64 zKU)),(V.sc (.int .i64 zKV))]),(.live true [(V.sc (.int .u64 zK5))])]):=by kernel_rfl
abbrev zgc:=∀ (β:Type),Nat→List (List V)→Int→Int→Int→(Int→List (List V)→Int→Int→Int→Option β)→Option β
def yP (β:Type) (L:Nat) (zKR:List (List V)) (zKU zKV zK5:Int) (k_fin:Int→List (List V)→Int→Int→Int→Option β):Option β:=zgh yY L zKR zKU zKV zK5 k_fin
def zfZ (yP:zgc) (L:Nat) (β:Type) (args:List V) (bor:Bor) (k:KK β):Option β:=match args,bor with
 | [a0,a1],[(.live false [w0_0,w0_1,w0_2]),(.live true [w1_0])]=>aP 0 0 a0 (aF 163 [(1,0)] a1 (aL 1 w0_0 fun zKR=>aI .i64 w0_1 fun zKU=>aI .i64 w0_2 fun zKV=>aI .u64 w1_0 fun zK5=>yP β L zKR zKU zKV zK5 (fun p0 zKR zKU zKV zK5=>k (V.sc (.int .u64 p0)) [(.live false [(V.sl 1 zKR),(V.sc (.int .i64 zKU)),(V.sc (.int .i64 zKV))]),(.live true [(V.sc (.int .u64 zK5))])])))
 | _,_=>none
theorem zt0 (L:Nat) (β:Type) (args:List V) (bor:Bor) (k:KK β) (r:β) (h:zfZ yP L β args bor k=some r):xv zio (ziA yY L) L zdx args bor k=some r:=by
 unfold zfZ at h
 split at h
 ·have q:=zhB h; clear h; obtain ⟨rfl,h⟩:=q
  have q:=zu1 h; clear h; obtain ⟨rfl,h⟩:=q
  have q:=xU h; clear h; obtain ⟨zKR,rfl,h⟩:=q
  have q:=zI h; clear h; obtain ⟨zKU,rfl,h⟩:=q
  have q:=zI h; clear h; obtain ⟨zKV,rfl,h⟩:=q
  have q:=zI h; clear h; obtain ⟨zK5,rfl,h⟩:=q
  exact (ztH yY L zKR zKU zKV zK5 k).trans h
 ·cases h
def zkJ:CF:=⟨8,[.tmp 3],
 (.seq (.reg [oo 2 (.box true (tq 0)),
   oo 3 (.move (.const (.sc (.int .i64 0))) false)])
 (.seq (.reg [oo 4 (.load false 1 (tq 1) false),
   oo 5 (.makeFunc 163 [(tq 2)]),
   oo 6 (.call 162 [((tq 4),0),((tq 5),0)] []),
   oo 7 (.conv .i64 (tq 6)),
   oo 3 (.move (tq 7) false)])
 .ret))⟩
def zrW:Hint:=⟨[],[],[none],[],[],false,false,[]⟩
def zoR:Nat→Sh:=yL []
def zo4 (yP:zgc) (L:Nat):CBC:=(zt 162 (zfZ yP L) noC)
def zmD {β:Type} (yP:zgc) (L:Nat) (p0:Int) (zK5:List (List V)) (zK8 zK9:Int) (k_fin:Int→List (List V)→Int→Int→Option β):Option β :=
 yP β L zK5 zK8 zK9 p0 (fun v0 v1 v2 v3 v4 =>
 lt (IntKind.wrap .i64 v0) fun x5 =>
 k_fin x5 v1 v2 v3)
theorem zy8 {β:Type} (yP:zgc) (L:Nat) (p0:Int) (zK5:List (List V)) (zK8 zK9:Int) (k:KK β):xv zoR (zo4 yP L) L zkJ [(V.sc (.int .u64 p0)),(V.ptr 0 0)] [(.live false [(V.ptr 1 0)]),(.live false [(V.sl 1 zK5),(V.sc (.int .i64 zK8)),(V.sc (.int .i64 zK9))])] k=zmD yP L p0 zK5 zK8 zK9 (fun p0 zK5 zK8 zK9=>k (V.sc (.int .i64 p0)) [(.live false [(V.ptr 1 0)]),(.live false [(V.sl 1 zK5),(V.sc (.int .i64 zK8)),(V.sc (.int .i64 zK9))])]):=by kernel_rfl
abbrev yz:=∀ (β:Type),Nat→Int→List (List V)→Int→Int→(Int→List (List V)→Int→Int→Option β)→Option β
def zd (β:Type) (L:Nat) (p0:Int) (zK5:List (List V)) (zK8 zK9:Int) (k_fin:Int→List (List V)→Int→Int→Option β):Option β:=zmD yP L p0 zK5 zK8 zK9 k_fin
def zmu (zd:yz) (L:Nat) (β:Type) (args:List V) (bor:Bor) (k:KK β):Option β:=match args,bor with
 | [a0,a1],[(.live false [w0_0]),(.live false [w1_0,w1_1,w1_2])]=>aI .u64 a0 fun p0=>aP 0 0 a1 (aP 1 0 w0_0 (aL 1 w1_0 fun zK5=>aI .i64 w1_1 fun zK8=>aI .i64 w1_2 fun zK9=>zd β L p0 zK5 zK8 zK9 (fun p0 zK5 zK8 zK9=>k (V.sc (.int .i64 p0)) [(.live false [(V.ptr 1 0)]),(.live false [(V.sl 1 zK5),(V.sc (.int .i64 zK8)),(V.sc (.int .i64 zK9))])])))
 | _,_=>none
theorem zzq (L:Nat) (β:Type) (args:List V) (bor:Bor) (k:KK β) (r:β) (h:zmu zd L β args bor k=some r):xv zoR (zo4 yP L) L zkJ args bor k=some r:=by
 unfold zmu at h
 split at h
 ·have q:=zI h; clear h; obtain ⟨p0,rfl,h⟩:=q
  have q:=zhB h; clear h; obtain ⟨rfl,h⟩:=q
  have q:=zhB h; clear h; obtain ⟨rfl,h⟩:=q
  have q:=xU h; clear h; obtain ⟨zK5,rfl,h⟩:=q
  have q:=zI h; clear h; obtain ⟨zK8,rfl,h⟩:=q
  have q:=zI h; clear h; obtain ⟨zK9,rfl,h⟩:=q
  exact (zy8 yP L p0 zK5 zK8 zK9 k).trans h
 ·cases h
def zjm:CF:=⟨24,[.cell 4 true 32,.tmp 5,.tmp 6],
 (.seq (.reg [oo 4 (.alloc true (rp 32 (.sc (.int .u8 0)) [])),
   oo 5 (.move (.const (.sc (.int .i64 0))) false),
   oo 6 (.move (.const (.sc (.int .i64 0))) false)])
 (.seq (.reg [oo 7 (.alloc true (rp 32 (.sc (.int .u8 0)) []))])
 (.seq (.seq (.reg [oo 9 (.move (tq 0) false),
   oo 10 (.move (tq 1) false),
   oo 11 (.call 198 [((tq 9),0),((tq 10),0),((.const (.sc (.int .i64 32))),0)] []),
   oo 8 (.move (tq 11) false)])
 (.seq (.reg [oo 12 (.move (tq 8) false),
   oo 13 (.bin .neq (tq 12) (.const (.sc (.int .i64 0))))])
 (.cond (tq 13)
 (.seq (.reg [oo 14 (.build (rp 32 (.sc (.int .u8 0)) []) []),
   oo 15 (.move (tq 8) false),
   oz (.store 32 (tq 4) (tq 14)),
   oo 5 (.move (.const (.sc (.int .i64 0))) false),
   oo 6 (.move (tq 15) false)])
 .ret)
 .skip)))
 (.seq (.dreg [] [(oo 16 (.sliceA 32 1 (tq 7) none none none),q1),
   (oo 17 (.move (tq 0) true),q1),
   (oo 18 (.move (tq 1) false),q0),
   (oo 19 (.sliceS 1 (tq 17) (some (tq 18)) none none),q0),
   (oo 20 (.copy 1 (tq 16) (tq 19)),q0)])
 (.seq (.reg [oo 21 (.load true 32 (tq 7) false),
   oo 22 (.move (tq 1) false),
   oo 23 (.bin .add (tq 22) (.const (.sc (.int .i64 32)))),
   oz (.store 32 (tq 4) (tq 21)),
   oo 5 (.move (tq 23) false),
   oo 6 (.move (.const (.sc (.int .i64 0))) false)])
 .ret)))))⟩
def zpA:Hint:=⟨[(5,1)],[],[none,none,none],[],[],false,false,[]⟩
def zm9:Nat→Sh:=yL []
def zni (yc:xp) (L:Nat):CBC:=(zt 198 (zc7 yc L) noC)
def zoT {β:Type} (yc:xp) (L:Nat) (p0:List (List V)) (p1:Int) (k_fin:List V→Int→Int→Option β):Option β :=
 yc β L p0 p1 (32:Int) (fun v0 =>
 ifb ((v0:Int) != (0:Int)) (
 lt (List.replicate 32 (V.sc (.int .u8 (0:Int)))) fun r1 =>
 chk (0=0∧(List.length r1)=32∧32≠0) (
 k_fin r1 (0:Int) v0)) (
 chk (0≤p1∧p1≤(((List.length p0):Nat):Int)) (
 lt (zl (List.replicate 32 (V.sc (.int .u8 (0:Int)))) 0 (List.flatten (List.take (min (List.length (List.take ((List.length p0) - (Int.toNat p1)) (List.drop (Int.toNat p1) p0))) 32) (List.take ((List.length p0) - (Int.toNat p1)) (List.drop (Int.toNat p1) p0))))) fun r2 =>
 chk (0+32≤(List.length r2)) (
 lt (IntKind.wrap .i64 ((p1:Int)+(32:Int))) fun x3 =>
 chk ((List.length (List.take 32 r2))=32∧0+32≤32) (
 lt (zl (List.replicate 32 (V.sc (.int .u8 (0:Int)))) 0 (List.take 32 r2)) fun r4 =>
 chk (0=0∧(List.length r4)=32∧32≠0) (
 k_fin r4 x3 (0:Int)))))))
theorem zxx {β:Type} (yc:xp) (L:Nat) (p0:List (List V)) (p1:Int) (k:KK β):xv zm9 (zni yc L) L zjm [(V.sl 1 p0),(V.sc (.int .i64 p1))] [] k=zoT yc L p0 p1 (fun zKX zKY zK1=>k (V.tup [(V.agg zKX),(V.sc (.int .i64 zKY)),(V.sc (.int .i64 zK1))]) []):=by kernel_rfl
abbrev zla:=∀ (β:Type),Nat→List (List V)→Int→(List V→Int→Int→Option β)→Option β
def z7 (β:Type) (L:Nat) (p0:List (List V)) (p1:Int) (k_fin:List V→Int→Int→Option β):Option β:=zoT yc L p0 p1 k_fin
def zk0 (z7:zla) (L:Nat) (β:Type) (args:List V) (bor:Bor) (k:KK β):Option β:=match args,bor with
 | [a0,a1],[]=>aL 1 a0 fun p0=>aI .i64 a1 fun p1=>z7 β L p0 p1 (fun zKX zKY zK1=>k (V.tup [(V.agg zKX),(V.sc (.int .i64 zKY)),(V.sc (.int .i64 zK1))]) [])
 | _,_=>none
theorem zx1 (L:Nat) (β:Type) (args:List V) (bor:Bor) (k:KK β) (r:β) (h:zk0 z7 L β args bor k=some r):xv zm9 (zni yc L) L zjm args bor k=some r:=by
 unfold zk0 at h
 split at h
 ·have q:=xU h; clear h; obtain ⟨p0,rfl,h⟩:=q
  have q:=zI h; clear h; obtain ⟨p1,rfl,h⟩:=q
  exact (zxx yc L p0 p1 k).trans h
 ·cases h
def zei:CF:=⟨41,[.cell 4 true 32],
 (.seq (.reg [oo 4 (.alloc true (rp 32 (.sc (.int .u8 0)) []))])
 (.seq (.reg [oo 5 (.alloc true (rp 32 (.sc (.int .u8 0)) []))])
 (.seq (.seq (.reg [oo 9 (.move (tq 0) false),
   oo 10 (.nilCheck (tq 9)),
   oo 11 (.fieldAddr 2 (tq 10)),
   oo 12 (.load false 1 (tq 11) false),
   oo 13 (.bin .neq (tq 12) (.const (.sc (.int .i64 0))))])
 (.cond (tq 13)
 (.seq (.reg [oo 14 (.load true 32 (tq 5) false),
   oz (.store 32 (tq 4) (tq 14))])
 .ret)
 .skip))
 (.seq (.dreg [] [(oo 16 (.move (tq 1) false),q0),
   (oo 17 (.move (tq 0) false),q0),
   (oo 18 (.nilCheck (tq 17)),q0),
   (oo 19 (.fieldAddr 0 (tq 18)),q0),
   (oo 20 (.load false 1 (tq 19) false),ql 0 [] [6]),
   (oo 21 (.move (tq 0) false),q0),
   (oo 22 (.nilCheck (tq 21)),q0),
   (oo 23 (.fieldAddr 1 (tq 22)),q0),
   (oo 24 (.load false 1 (tq 23) false),ql 0 [] [6]),
   (oo 25 (.callv (tq 16) [((tq 20),0),((tq 24),0)] []),qc [] [6]),
   (oo 15 (.move (tq 25) true),qc [] [6]),
   (oo 26 (.pull (tq 15) 0),q0),
   (oo 27 (.pull (tq 15) 1),q0),
   (oo 28 (.pull (tq 15) 2),q0),
   (oo 6 (.alloc true (rp 32 (.sc (.int .u8 0)) [])),qn [0] []),
   (oz (.store 32 (tq 6) (tq 26)),q0),
   (oo 7 (.move (tq 27) false),q0),
   (oo 8 (.move (tq 28) false),q0)])
 (.seq (.seq (.reg [oo 29 (.move (tq 8) false),
   oo 30 (.bin .neq (tq 29) (.const (.sc (.int .i64 0))))])
 (.cond (tq 30)
 (.seq (.reg [oo 31 (.move (tq 0) false),
   oo 32 (.move (tq 8) false),
   oo 33 (.nilCheck (tq 31)),
   oo 34 (.fieldAddr 2 (tq 33)),
   oz (.store 1 (tq 34) (tq 32))])
 (.seq (.reg [oo 35 (.load true 32 (tq 5) false),
   oz (.store 32 (tq 4) (tq 35))])
 .ret))
 .skip))
 (.seq (.reg [oo 36 (.move (tq 0) false),
   oo 37 (.move (tq 7) false),
   oo 38 (.nilCheck (tq 36)),
   oo 39 (.fieldAddr 1 (tq 38)),
   oz (.store 1 (tq 39) (tq 37))])
 (.seq (.reg [oo 40 (.load true 32 (tq 6) false),
   oz (.store 32 (tq 4) (tq 40))])
 .ret)))))))⟩
def zjW:Hint:=⟨[(4,10)],[],[none,none,none,none,none],[],[],false,false,[]⟩
def zgM:Nat→Sh:=yL []
def zgz (z7:zla) (L:Nat):CBC:=(zt 172 (zk0 z7 L) noC)
def ze3 {β:Type} (z7:zla) (L:Nat) (zKR:List (List V)) (zKU zKV:Int) (k_fin:List V→List (List V)→Int→Int→Option β):Option β :=
 ifb ((zKV:Int) != (0:Int)) (
 lt (List.replicate 32 (V.sc (.int .u8 (0:Int)))) fun r0 =>
 chk (0=0∧(List.length r0)=32∧32≠0) (
 k_fin r0 zKR zKU zKV)) (
 z7 β L zKR zKU (fun v1 v2 v3 =>
 chk ((List.length v1)=32∧0+32≤32) (
 lt (zl (List.replicate 32 (V.sc (.int .u8 (0:Int)))) 0 v1) fun r4 =>
 ifb ((v3:Int) != (0:Int)) (
 lt (List.replicate 32 (V.sc (.int .u8 (0:Int)))) fun r5 =>
 chk (0=0∧(List.length r5)=32∧32≠0) (
 k_fin r5 zKR zKU v3)) (
 chk (0+32≤(List.length r4)) (
 chk ((List.length (List.take 32 r4))=32∧0+32≤32) (
 lt (zl (List.replicate 32 (V.sc (.int .u8 (0:Int)))) 0 (List.take 32 r4)) fun r6 =>
 chk (0=0∧(List.length r6)=32∧32≠0) (
 k_fin r6 zKR v2 zKV)))))))
theorem zq4 {β:Type} (z7:zla) (L:Nat) (zKR:List (List V)) (zKU zKV:Int) (k:KK β):xv zgM (zgz z7 L) L zei [(V.ptr 0 0),(V.fn 172 [])] [(.live false [(V.sl 1 zKR),(V.sc (.int .i64 zKU)),(V.sc (.int .i64 zKV))])] k=ze3 z7 L zKR zKU zKV (fun p0 zKR zKU zKV=>k (V.agg p0) [(.live false [(V.sl 1 zKR),(V.sc (.int .i64 zKU)),(V.sc (.int .i64 zKV))])]):=by kernel_rfl
abbrev zm:=∀ (β:Type),Nat→List (List V)→Int→Int→(List V→List (List V)→Int→Int→Option β)→Option β
def ya (β:Type) (L:Nat) (zKR:List (List V)) (zKU zKV:Int) (k_fin:List V→List (List V)→Int→Int→Option β):Option β:=ze3 z7 L zKR zKU zKV k_fin
def zeQ (ya:zm) (L:Nat) (β:Type) (args:List V) (bor:Bor) (k:KK β):Option β:=match args,bor with
 | [a0,a1],[(.live false [w0_0,w0_1,w0_2])]=>aP 0 0 a0 (aF 172 [] a1 (aL 1 w0_0 fun zKR=>aI .i64 w0_1 fun zKU=>aI .i64 w0_2 fun zKV=>ya β L zKR zKU zKV (fun p0 zKR zKU zKV=>k (V.agg p0) [(.live false [(V.sl 1 zKR),(V.sc (.int .i64 zKU)),(V.sc (.int .i64 zKV))])])))
 | _,_=>none
theorem zrJ (L:Nat) (β:Type) (args:List V) (bor:Bor) (k:KK β) (r:β) (h:zeQ ya L β args bor k=some r):xv zgM (zgz z7 L) L zei args bor k=some r:=by
 unfold zeQ at h
 split at h
 ·have q:=zhB h; clear h; obtain ⟨rfl,h⟩:=q
  have q:=zu1 h; clear h; obtain ⟨rfl,h⟩:=q
  have q:=xU h; clear h; obtain ⟨zKR,rfl,h⟩:=q
  have q:=zI h; clear h; obtain ⟨zKU,rfl,h⟩:=q
  have q:=zI h; clear h; obtain ⟨zKV,rfl,h⟩:=q
  exact (zq4 z7 L zKR zKU zKV k).trans h
 ·cases h
def zk7:CF:=zdx
def zgm:Nat→Sh:=yL []
def zf6 (zL:zfb) (L:Nat):CBC:=(zt 173 (ziM zL L) noC)
def zev {β:Type} (zL:zfb) (L:Nat) (zKR:List (List V)) (zKU zKV:Int) (k_fin:Int→List (List V)→Int→Int→Option β):Option β :=
 ifb ((zKV:Int) != (0:Int)) (
 k_fin (0:Int) zKR zKU zKV) (
 zL β L zKR zKU (fun v0 v1 v2 =>
 ifb ((v2:Int) != (0:Int)) (
 k_fin (0:Int) zKR zKU v2) (
 k_fin v0 zKR v1 zKV)))
theorem zqh {β:Type} (zL:zfb) (L:Nat) (zKR:List (List V)) (zKU zKV:Int) (k:KK β):xv zgm (zf6 zL L) L zk7 [(V.ptr 0 0),(V.fn 173 [])] [(.live false [(V.sl 1 zKR),(V.sc (.int .i64 zKU)),(V.sc (.int .i64 zKV))])] k=zev zL L zKR zKU zKV (fun p0 zKR zKU zKV=>k (V.sc (.int .u64 p0)) [(.live false [(V.sl 1 zKR),(V.sc (.int .i64 zKU)),(V.sc (.int .i64 zKV))])]):=by kernel_rfl
abbrev yk:=∀ (β:Type),Nat→List (List V)→Int→Int→(Int→List (List V)→Int→Int→Option β)→Option β
def za (β:Type) (L:Nat) (zKR:List (List V)) (zKU zKV:Int) (k_fin:Int→List (List V)→Int→Int→Option β):Option β:=zev zL L zKR zKU zKV k_fin
def zex (za:yk) (L:Nat) (β:Type) (args:List V) (bor:Bor) (k:KK β):Option β:=match args,bor with
 | [a0,a1],[(.live false [w0_0,w0_1,w0_2])]=>aP 0 0 a0 (aF 173 [] a1 (aL 1 w0_0 fun zKR=>aI .i64 w0_1 fun zKU=>aI .i64 w0_2 fun zKV=>za β L zKR zKU zKV (fun p0 zKR zKU zKV=>k (V.sc (.int .u64 p0)) [(.live false [(V.sl 1 zKR),(V.sc (.int .i64 zKU)),(V.sc (.int .i64 zKV))])])))
 | _,_=>none
theorem zqG (L:Nat) (β:Type) (args:List V) (bor:Bor) (k:KK β) (r:β) (h:zex za L β args bor k=some r):xv zgm (zf6 zL L) L zk7 args bor k=some r:=by
 unfold zex at h
 split at h
 ·have q:=zhB h; clear h; obtain ⟨rfl,h⟩:=q
  have q:=zu1 h; clear h; obtain ⟨rfl,h⟩:=q
  have q:=xU h; clear h; obtain ⟨zKR,rfl,h⟩:=q
  have q:=zI h; clear h; obtain ⟨zKU,rfl,h⟩:=q
  have q:=zI h; clear h; obtain ⟨zKV,rfl,h⟩:=q
  exact (zqh zL L zKR zKU zKV k).trans h
 ·cases h
def zh1:CF:=⟨44,[.tmp 6,.tmp 7,.tmp 8],
 (.seq (.reg [oo 6 (.move (.const (.gs 1 [])) true),
   oo 7 (.move (.const (.sc (.int .i64 0))) false),
   oo 8 (.move (.const (.sc (.int .i64 0))) false)])
 (.seq (.seq (.reg [oo 13 (.move (tq 2) false),
   oo 14 (.bin .lss (tq 13) (.const (.sc (.int .i64 0))))])
 (.cond (tq 14)
 (.seq (.reg [oo 6 (.move (.const (.gs 1 [])) true),
   oo 7 (.move (.const (.sc (.int .i64 0))) false),
   oo 8 (.move (.const (.sc (.int .i64 5))) false)])
 .ret)
 .skip))
 (.seq (.reg [oo 16 (.move (tq 0) false),
   oo 17 (.move (tq 1) false),
   oo 18 (.move (tq 2) false),
   oo 19 (.conv .u64 (tq 18)),
   oo 20 (.call 164 [((tq 16),0),((tq 17),0),((tq 19),0)] []),
   oo 15 (.move (tq 20) true),
   oo 21 (.pull (tq 15) 0),
   oo 22 (.pull (tq 15) 1),
   oo 23 (.pull (tq 15) 2),
   oo 9 (.move (tq 21) false),
   oo 10 (.move (tq 22) false),
   oo 11 (.move (tq 23) false)])
 (.seq (.seq (.reg [oo 24 (.move (tq 11) false),
   oo 25 (.bin .neq (tq 24) (.const (.sc (.int .i64 0))))])
 (.cond (tq 25)
 (.seq (.reg [oo 26 (.move (tq 11) false),
   oo 6 (.move (.const (.gs 1 [])) true),
   oo 7 (.move (.const (.sc (.int .i64 0))) false),
   oo 8 (.move (tq 26) false)])
 .ret)
 .skip))
 (.seq (.seq (.reg [oo 27 (.move (tq 9) false),
   oo 28 (.move (tq 0) false),
   oo 29 (.lenS (tq 28)),
   oo 30 (.move (tq 10) false),
   oo 31 (.bin .sub (tq 29) (tq 30)),
   oo 32 (.conv .u64 (tq 31)),
   oo 33 (.bin .gtr (tq 27) (tq 32))])
 (.cond (tq 33)
 (.seq (.reg [oo 6 (.move (.const (.gs 1 [])) true),
   oo 7 (.move (.const (.sc (.int .i64 0))) false),
   oo 8 (.move (.const (.sc (.int .i64 1))) false)])
 .ret)
 .skip))
 (.seq (.reg [oo 34 (.move (tq 10) false),
   oo 35 (.move (tq 9) false),
   oo 36 (.conv .i64 (tq 35)),
   oo 37 (.bin .add (tq 34) (tq 36)),
   oo 12 (.move (tq 37) false)])
 (.seq (.reg [oo 38 (.move (tq 0) true),
   oo 39 (.move (tq 10) false),
   oo 40 (.move (tq 12) false),
   oo 41 (.sliceS 1 (tq 38) (some (tq 39)) (some (tq 40)) none),
   oo 42 (.call 191 [((tq 41),0),((.const (.gs 1 [])),0)] []),
   oo 43 (.move (tq 12) false),
   oo 6 (.move (tq 42) true),
   oo 7 (.move (tq 43) false),
   oo 8 (.move (.const (.sc (.int .i64 0))) false)])
 .ret)))))))⟩
def zo8:Hint:=⟨[(0,0),(2,0),(3,5),(5,1),(7,0),(9,0),(9,6)],[],[none,none,none,none,none,none,none],[],[],false,false,[]⟩
def zmb:Nat→Sh:=yL []
def zl0 (zG:zd2) (ye:yJ) (L:Nat):CBC:=(zt 191 (zbd ye L) (zt 164 (zhC zG L) noC))
def znl {β:Type} (zG:zd2) (ye:yJ) (L:Nat) (p0:List (List V)) (p1 p2:Int) (k_fin:List (List V)→Int→Int→Option β):Option β :=
 ifb (decide (p2 < (0:Int))) (
 k_fin ([]:List (List V)) (0:Int) (5:Int)) (
 lt (IntKind.wrap .u64 p2) fun x0 =>
 zG β L p0 p1 x0 (fun v1 v2 v3 =>
 ifb ((v3:Int) != (0:Int)) (
 k_fin ([]:List (List V)) (0:Int) v3) (
 lt (IntKind.wrap .i64 ((((List.length p0:Nat):Int):Int) - v2)) fun x4 =>
 lt (IntKind.wrap .u64 x4) fun x5 =>
 ifb (decide (v1 > x5)) (
 k_fin ([]:List (List V)) (0:Int) (1:Int)) (
 lt (IntKind.wrap .i64 v1) fun x6 =>
 lt (IntKind.wrap .i64 ((v2:Int)+x6)) fun x7 =>
 chk (0≤x7∧x7≤(((List.length p0):Nat):Int)) (
 chk (0≤v2∧v2≤(((Int.toNat x7):Nat):Int)) (
 ye β L (List.take ((Int.toNat x7) - (Int.toNat v2)) (List.drop (Int.toNat v2) p0)) ([]:List (List V)) (fun v8 =>
 k_fin v8 x7 (0:Int))))))))
theorem zwM {β:Type} (zG:zd2) (ye:yJ) (L:Nat) (p0:List (List V)) (p1 p2:Int) (k:KK β):xv zmb (zl0 zG ye L) L zh1 [(V.sl 1 p0),(V.sc (.int .i64 p1)),(V.sc (.int .i64 p2))] [] k=znl zG ye L p0 p1 p2 (fun zKX zKY zK1=>k (V.tup [(V.gs 1 zKX),(V.sc (.int .i64 zKY)),(V.sc (.int .i64 zK1))]) []):=by kernel_rfl
abbrev zju:=∀ (β:Type),Nat→List (List V)→Int→Int→(List (List V)→Int→Int→Option β)→Option β
def xV (β:Type) (L:Nat) (p0:List (List V)) (p1 p2:Int) (k_fin:List (List V)→Int→Int→Option β):Option β:=znl zG ye L p0 p1 p2 k_fin
def zjd (xV:zju) (L:Nat) (β:Type) (args:List V) (bor:Bor) (k:KK β):Option β:=match args,bor with
 | [a0,a1,a2],[]=>aL 1 a0 fun p0=>aI .i64 a1 fun p1=>aI .i64 a2 fun p2=>xV β L p0 p1 p2 (fun zKX zKY zK1=>k (V.tup [(V.gs 1 zKX),(V.sc (.int .i64 zKY)),(V.sc (.int .i64 zK1))]) [])
 | _,_=>none
theorem zwS (L:Nat) (β:Type) (args:List V) (bor:Bor) (k:KK β) (r:β) (h:zjd xV L β args bor k=some r):xv zmb (zl0 zG ye L) L zh1 args bor k=some r:=by
 unfold zjd at h
 split at h
 ·have q:=xU h; clear h; obtain ⟨p0,rfl,h⟩:=q
  have q:=zI h; clear h; obtain ⟨p1,rfl,h⟩:=q
  have q:=zI h; clear h; obtain ⟨p2,rfl,h⟩:=q
  exact (zwM zG ye L p0 p1 p2 k).trans h
 ·cases h
def zhW:CF:=⟨15,[.tmp 5,.tmp 6,.tmp 7],
 (.seq (.reg [oo 5 (.move (.const (.gs 1 [])) true),
   oo 6 (.move (.const (.sc (.int .i64 0))) false),
   oo 7 (.move (.const (.sc (.int .i64 0))) false)])
 (.seq (.reg [oo 8 (.move (tq 0) false),
   oo 9 (.move (tq 1) false),
   oo 10 (.load false 1 (tq 2) false),
   oo 11 (.call 168 [((tq 8),0),((tq 9),0),((tq 10),0)] []),
   oo 12 (.extract (tq 11) 0),
   oo 13 (.pull (tq 11) 1),
   oo 14 (.pull (tq 11) 2),
   oo 5 (.move (tq 12) true),
   oo 6 (.move (tq 13) false),
   oo 7 (.move (tq 14) false)])
 .ret))⟩
def zoA:Hint:=⟨[(0,0),(1,4),(1,7)],[],[none],[],[],false,false,[]⟩
def zlN:Nat→Sh:=yL []
def zl6 (xV:zju) (L:Nat):CBC:=(zt 168 (zjd xV L) noC)
def znr {β:Type} (xV:zju) (L:Nat) (p0:List (List V)) (p1 zKR:Int) (k_fin:List (List V)→Int→Int→Int→Option β):Option β :=
 xV β L p0 p1 zKR (fun v0 v1 v2 =>
 k_fin v0 v1 v2 zKR)
theorem zwz {β:Type} (xV:zju) (L:Nat) (p0:List (List V)) (p1 zKR:Int) (k:KK β):xv zlN (zl6 xV L) L zhW [(V.sl 1 p0),(V.sc (.int .i64 p1)),(V.ptr 0 0)] [(.live true [(V.sc (.int .i64 zKR))])] k=znr xV L p0 p1 zKR (fun zKX zKY zK1 zKR=>k (V.tup [(V.gs 1 zKX),(V.sc (.int .i64 zKY)),(V.sc (.int .i64 zK1))]) [(.live true [(V.sc (.int .i64 zKR))])]):=by kernel_rfl
abbrev zjs:=∀ (β:Type),Nat→List (List V)→Int→Int→(List (List V)→Int→Int→Int→Option β)→Option β
def zY (β:Type) (L:Nat) (p0:List (List V)) (p1 zKR:Int) (k_fin:List (List V)→Int→Int→Int→Option β):Option β:=znr xV L p0 p1 zKR k_fin
def zjD (zY:zjs) (L:Nat) (β:Type) (args:List V) (bor:Bor) (k:KK β):Option β:=match args,bor with
 | [a0,a1,a2],[(.live true [w0_0])]=>aL 1 a0 fun p0=>aI .i64 a1 fun p1=>aP 0 0 a2 (aI .i64 w0_0 fun zKR=>zY β L p0 p1 zKR (fun zKX zKY zK1 zKR=>k (V.tup [(V.gs 1 zKX),(V.sc (.int .i64 zKY)),(V.sc (.int .i64 zK1))]) [(.live true [(V.sc (.int .i64 zKR))])]))
 | _,_=>none
theorem zwD (L:Nat) (β:Type) (args:List V) (bor:Bor) (k:KK β) (r:β) (h:zjD zY L β args bor k=some r):xv zlN (zl6 xV L) L zhW args bor k=some r:=by
 unfold zjD at h
 split at h
 ·have q:=xU h; clear h; obtain ⟨p0,rfl,h⟩:=q
  have q:=zI h; clear h; obtain ⟨p1,rfl,h⟩:=q
  have q:=zhB h; clear h; obtain ⟨rfl,h⟩:=q
  have q:=zI h; clear h; obtain ⟨zKR,rfl,h⟩:=q
  exact (zwz xV L p0 p1 zKR k).trans h
 ·cases h
def zgf:CF:=⟨41,[.tmp 4],
 (.seq (.reg [oo 4 (.move (.const (.gs 1 [])) true)])
 (.seq (.reg [oo 5 (.move (.const (.gs 1 [])) true)])
 (.seq (.seq (.reg [oo 9 (.move (tq 0) false),
   oo 10 (.nilCheck (tq 9)),
   oo 11 (.fieldAddr 2 (tq 10)),
   oo 12 (.load false 1 (tq 11) false),
   oo 13 (.bin .neq (tq 12) (.const (.sc (.int .i64 0))))])
 (.cond (tq 13)
 (.seq (.reg [oo 14 (.move (tq 5) true),
   oo 4 (.move (tq 14) true)])
 .ret)
 .skip))
 (.seq (.dreg [] [(oo 16 (.move (tq 1) false),q0),
   (oo 17 (.move (tq 0) false),q0),
   (oo 18 (.nilCheck (tq 17)),q0),
   (oo 19 (.fieldAddr 0 (tq 18)),q0),
   (oo 20 (.load false 1 (tq 19) false),ql 0 [] []),
   (oo 21 (.move (tq 0) false),q0),
   (oo 22 (.nilCheck (tq 21)),q0),
   (oo 23 (.fieldAddr 1 (tq 22)),q0),
   (oo 24 (.load false 1 (tq 23) false),ql 0 [] []),
   (oo 25 (.callv (tq 16) [((tq 20),0),((tq 24),0)] []),q0),
   (oo 15 (.move (tq 25) true),q0),
   (oo 26 (.pull (tq 15) 0),q0),
   (oo 27 (.pull (tq 15) 1),q0),
   (oo 28 (.pull (tq 15) 2),q0),
   (oo 6 (.move (tq 26) true),q0),
   (oo 7 (.move (tq 27) false),q0),
   (oo 8 (.move (tq 28) false),q0)])
 (.seq (.seq (.reg [oo 29 (.move (tq 8) false),
   oo 30 (.bin .neq (tq 29) (.const (.sc (.int .i64 0))))])
 (.cond (tq 30)
 (.seq (.reg [oo 31 (.move (tq 0) false),
   oo 32 (.move (tq 8) false),
   oo 33 (.nilCheck (tq 31)),
   oo 34 (.fieldAddr 2 (tq 33)),
   oz (.store 1 (tq 34) (tq 32))])
 (.seq (.reg [oo 35 (.move (tq 5) true),
   oo 4 (.move (tq 35) true)])
 .ret))
 .skip))
 (.seq (.reg [oo 36 (.move (tq 0) false),
   oo 37 (.move (tq 7) false),
   oo 38 (.nilCheck (tq 36)),
   oo 39 (.fieldAddr 1 (tq 38)),
   oz (.store 1 (tq 39) (tq 37))])
 (.seq (.reg [oo 40 (.move (tq 6) true),
   oo 4 (.move (tq 40) true)])
 .ret)))))))⟩
def zmN:Hint:=⟨[(0,0),(1,0),(3,0),(3,1),(4,10),(4,14),(7,0),(7,1),(9,0),(9,1)],[],[none,none,none,none,none],[],[],false,false,[]⟩
def zjR:Nat→Sh:=yL []
def zjQ (zY:zjs) (L:Nat):CBC:=(zt 167 (zjD zY L) noC)
def zg0 {β:Type} (zY:zjs) (L:Nat) (zKR:List (List V)) (zKU zKV zK5:Int) (k_fin:List (List V)→List (List V)→Int→Int→Int→Option β) (k_finv1:List (List V)→List (List V)→Int→Int→Int→Option β):Option β :=
 ifb ((zKV:Int) != (0:Int)) (
 k_fin ([]:List (List V)) zKR zKU zKV zK5) (
 zY β L zKR zKU zK5 (fun v0 v1 v2 v3 =>
 ifb ((v2:Int) != (0:Int)) (
 k_fin ([]:List (List V)) zKR zKU v2 v3) (
 k_finv1 v0 zKR v1 zKV v3)))
theorem zt5 {β:Type} (zY:zjs) (L:Nat) (zKR:List (List V)) (zKU zKV zK5:Int) (k:KK β):xv zjR (zjQ zY L) L zgf [(V.ptr 0 0),(V.fn 167 [(V.ptr 1 0)])] [(.live false [(V.sl 1 zKR),(V.sc (.int .i64 zKU)),(V.sc (.int .i64 zKV))]),(.live true [(V.sc (.int .i64 zK5))])] k=zg0 zY L zKR zKU zKV zK5 (fun p0 zKR zKU zKV zK5=>k (V.gs 1 p0) [(.live false [(V.sl 1 zKR),(V.sc (.int .i64 zKU)),(V.sc (.int .i64 zKV))]),(.live true [(V.sc (.int .i64 zK5))])]) (fun p0 zKR zKU zKV zK5=>k (V.sl 1 p0) [(.live false [(V.sl 1 zKR),(V.sc (.int .i64 zKU)),(V.sc (.int .i64 zKV))]),(.live true [(V.sc (.int .i64 zK5))])]):=by kernel_rfl
abbrev zg1:=∀ (β:Type),Nat→List (List V)→Int→Int→Int→(List (List V)→List (List V)→Int→Int→Int→Option β)→(List (List V)→List (List V)→Int→Int→Int→Option β)→Option β
def yR (β:Type) (L:Nat) (zKR:List (List V)) (zKU zKV zK5:Int) (k_fin:List (List V)→List (List V)→Int→Int→Int→Option β) (k_finv1:List (List V)→List (List V)→Int→Int→Int→Option β):Option β:=zg0 zY L zKR zKU zKV zK5 k_fin k_finv1
def zgR (yR:zg1) (L:Nat) (β:Type) (args:List V) (bor:Bor) (k:KK β):Option β:=match args,bor with
 | [a0,a1],[(.live false [w0_0,w0_1,w0_2]),(.live true [w1_0])]=>aP 0 0 a0 (aF 167 [(1,0)] a1 (aL 1 w0_0 fun zKR=>aI .i64 w0_1 fun zKU=>aI .i64 w0_2 fun zKV=>aI .i64 w1_0 fun zK5=>yR β L zKR zKU zKV zK5 (fun p0 zKR zKU zKV zK5=>k (V.gs 1 p0) [(.live false [(V.sl 1 zKR),(V.sc (.int .i64 zKU)),(V.sc (.int .i64 zKV))]),(.live true [(V.sc (.int .i64 zK5))])]) (fun p0 zKR zKU zKV zK5=>k (V.sl 1 p0) [(.live false [(V.sl 1 zKR),(V.sc (.int .i64 zKU)),(V.sc (.int .i64 zKV))]),(.live true [(V.sc (.int .i64 zK5))])])))
 | _,_=>none
theorem zu9 (L:Nat) (β:Type) (args:List V) (bor:Bor) (k:KK β) (r:β) (h:zgR yR L β args bor k=some r):xv zjR (zjQ zY L) L zgf args bor k=some r:=by
 unfold zgR at h
 split at h
 ·have q:=zhB h; clear h; obtain ⟨rfl,h⟩:=q
  have q:=zu1 h; clear h; obtain ⟨rfl,h⟩:=q
  have q:=xU h; clear h; obtain ⟨zKR,rfl,h⟩:=q
  have q:=zI h; clear h; obtain ⟨zKU,rfl,h⟩:=q
  have q:=zI h; clear h; obtain ⟨zKV,rfl,h⟩:=q
  have q:=zI h; clear h; obtain ⟨zK5,rfl,h⟩:=q
  exact (zt5 zY L zKR zKU zKV zK5 k).trans h
 ·cases h
def zky:CF:=⟨7,[.tmp 3],
 (.seq (.reg [oo 2 (.box true (tq 0)),
   oo 3 (.move (.const (.gs 1 [])) true)])
 (.seq (.reg [oo 4 (.load false 1 (tq 1) false),
   oo 5 (.makeFunc 167 [(tq 2)]),
   oo 6 (.call 166 [((tq 4),0),((tq 5),0)] []),
   oo 3 (.move (tq 6) true)])
 .ret))⟩
def zrq:Hint:=⟨[(0,1),(1,3)],[],[none],[],[],false,false,[]⟩
def zov:Nat→Sh:=yL []
def zon (yR:zg1) (L:Nat):CBC:=(zt 166 (zgR yR L) noC)
def zml {β:Type} (yR:zg1) (L:Nat) (p0:Int) (zK5:List (List V)) (zK8 zK9:Int) (k_fin:List (List V)→List (List V)→Int→Int→Option β) (k_finv1:List (List V)→List (List V)→Int→Int→Option β):Option β :=
 yR β L zK5 zK8 zK9 p0 (fun v0 v1 v2 v3 v4 =>
 k_fin v0 v1 v2 v3) (fun v5 v6 v7 v8 v9 =>
 k_finv1 v5 v6 v7 v8)
theorem zzv {β:Type} (yR:zg1) (L:Nat) (p0:Int) (zK5:List (List V)) (zK8 zK9:Int) (k:KK β):xv zov (zon yR L) L zky [(V.sc (.int .i64 p0)),(V.ptr 0 0)] [(.live false [(V.ptr 1 0)]),(.live false [(V.sl 1 zK5),(V.sc (.int .i64 zK8)),(V.sc (.int .i64 zK9))])] k=zml yR L p0 zK5 zK8 zK9 (fun p0 zK5 zK8 zK9=>k (V.gs 1 p0) [(.live false [(V.ptr 1 0)]),(.live false [(V.sl 1 zK5),(V.sc (.int .i64 zK8)),(V.sc (.int .i64 zK9))])]) (fun p0 zK5 zK8 zK9=>k (V.sl 1 p0) [(.live false [(V.ptr 1 0)]),(.live false [(V.sl 1 zK5),(V.sc (.int .i64 zK8)),(V.sc (.int .i64 zK9))])]):=by kernel_rfl
abbrev zz:=∀ (β:Type),Nat→Int→List (List V)→Int→Int→(List (List V)→List (List V)→Int→Int→Option β)→(List (List V)→List (List V)→Int→Int→Option β)→Option β
def xc (β:Type) (L:Nat) (p0:Int) (zK5:List (List V)) (zK8 zK9:Int) (k_fin:List (List V)→List (List V)→Int→Int→Option β) (k_finv1:List (List V)→List (List V)→Int→Int→Option β):Option β:=zml yR L p0 zK5 zK8 zK9 k_fin k_finv1
def zmq (xc:zz) (L:Nat) (β:Type) (args:List V) (bor:Bor) (k:KK β):Option β:=match args,bor with
 | [a0,a1],[(.live false [w0_0]),(.live false [w1_0,w1_1,w1_2])]=>aI .i64 a0 fun p0=>aP 0 0 a1 (aP 1 0 w0_0 (aL 1 w1_0 fun zK5=>aI .i64 w1_1 fun zK8=>aI .i64 w1_2 fun zK9=>xc β L p0 zK5 zK8 zK9 (fun p0 zK5 zK8 zK9=>k (V.gs 1 p0) [(.live false [(V.ptr 1 0)]),(.live false [(V.sl 1 zK5),(V.sc (.int .i64 zK8)),(V.sc (.int .i64 zK9))])]) (fun p0 zK5 zK8 zK9=>k (V.sl 1 p0) [(.live false [(V.ptr 1 0)]),(.live false [(V.sl 1 zK5),(V.sc (.int .i64 zK8)),(V.sc (.int .i64 zK9))])])))
 | _,_=>none
theorem zzs (L:Nat) (β:Type) (args:List V) (bor:Bor) (k:KK β) (r:β) (h:zmq xc L β args bor k=some r):xv zov (zon yR L) L zky args bor k=some r:=by
 unfold zmq at h
 split at h
 ·have q:=zI h; clear h; obtain ⟨p0,rfl,h⟩:=q
  have q:=zhB h; clear h; obtain ⟨rfl,h⟩:=q
  have q:=zhB h; clear h; obtain ⟨rfl,h⟩:=q
  have q:=xU h; clear h; obtain ⟨zK5,rfl,h⟩:=q
  have q:=zI h; clear h; obtain ⟨zK8,rfl,h⟩:=q
  have q:=zI h; clear h; obtain ⟨zK9,rfl,h⟩:=q
  exact (zzv yR L p0 zK5 zK8 zK9 k).trans h
 ·cases h
def zav:CC:=(.seq (.reg [oo 79 (.bin .lss (tq 78) (tq 77))])
 (.seq (.cond (tq 79)
 .skip
 (.seq (.mask (bl 16528282690043758249874 129) (bl 680564733833211346651751552939242551295 129))
 (.exit 6)))
 (.seq (.block 7 (.dreg [] [(oo 80 (.fieldAddr 1 (tq 10)),q0),
   (oo 81 (.load false 1 (tq 80) false),ql 10 [71] [91,92]),
   (oo 82 (.move (tq 13) false),q0),
   (oo 83 (.fieldAddr 1 (tq 10)),q0),
   (oo 84 (.load false 1 (tq 83) false),ql 10 [] [91]),
   (oo 85 (.move (tq 13) false),q0),
   (oo 86 (.indexAddrS 35 (tq 84) (tq 85)),q0),
   (oo 87 (.fieldAddr 34 (tq 86)),q0),
   (oo 88 (.load false 1 (tq 87) true),ql 71 [10] [91]),
   (oo 89 (.move (tq 9) false),q0),
   (oo 90 (.callv (tq 89) [((.const (.sc (.int .i64 520))),0)] []),qc [10,71] []),
   (oo 91 (.buildSlice 1 1 [(.sl 1 [])] [(0,1,(tq 90))]),qn [10,71] []),
   (oo 92 (.append 1 24 (tq 88) (tq 91)),qn [10] []),
   (oo 93 (.indexAddrS 35 (tq 81) (tq 82)),q0),
   (oo 94 (.fieldAddr 34 (tq 93)),q0),
   (oz (.store 1 (tq 94) (tq 92)),q0)]))
 (.reg [oo 95 (.bin .add (tq 78) (.const (.sc (.int .i64 1)))),
   oo 78 (.move (tq 95) false)]))))
def zdM:CC:=(.reg [oo 96 (.bin .add (tq 73) (.const (.sc (.int .i64 1)))),
   oo 73 (.move (tq 96) false)])
def zbe:CC:=(.seq (.reg [oo 74 (.bin .lss (tq 73) (tq 72))])
 (.seq (.cond (tq 74)
 .skip
 (.seq (.mask (bl 2361183241434822608018 129) (bl 680564733833211195536024101110595704831 129))
 (.exit 4)))
 (.seq (.block 5 (.seq (.reg [oo 75 (.move (tq 73) false),
   oo 13 (.move (tq 75) false)])
 (.seq (.reg [oo 76 (.move (tq 8) false),
   oo 77 (.callv (tq 76) [((.const (.sc (.int .u64 32))),0)] []),
   oo 78 (.move (.const (.sc (.int .i64 0))) false)])
 (.block 6 (.loop (bl 469875465045529698772882 129) (bl 680564733833211346651751552939242551295 129)
 zav)))))
 zdM)))
def zck:CC:=(.seq (.reg [oo 48 (.bin .lss (tq 47) (tq 46))])
 (.seq (.cond (tq 48)
 .skip
 (.seq (.mask (bl 1938 129) (bl 680564733841876926896772129843851552767 129))
 (.exit 2)))
 (.seq (.block 3 (.seq (.reg [oo 49 (.load false 1 (tq 7) false),
   oo 50 (.call 162 [((tq 49),0),((.const (.fn 173 [])),0)] []),
   oo 12 (.move (tq 50) false)])
 (.seq (.seq (.reg [oo 51 (.move (tq 12) false),
   oo 52 (.bin .geq (tq 51) (.const (.sc (.int .u64 9223372036854775808))))])
 (.cond (tq 52)
 (.reg [oo 53 (.load false 1 (tq 7) false),
   oo 54 (.nilCheck (tq 53)),
   oo 55 (.fieldAddr 2 (tq 54)),
   oz (.store 1 (tq 55) (.const (.sc (.int .i64 90))))])
 .skip))
 (.dreg [] [(oo 56 (.fieldAddr 2 (tq 10)),q0),
   (oo 57 (.load false 1 (tq 56) true),ql 10 [] [63]),
   (oo 58 (.move (tq 12) false),q0),
   (oo 59 (.conv .i64 (tq 58)),q0),
   (oo 60 (.move (tq 9) false),q0),
   (oo 61 (.callv (tq 60) [((.const (.sc (.int .i64 520))),0)] []),qc [10] []),
   (oo 62 (.build [(.sc (.int .i64 0)),(.gs 1 [])] [(0,1,(tq 59)),(1,1,(tq 61))]),q0),
   (oo 63 (.buildSlice 2 1 [(.sc (.int .i64 0)),(.sl 1 [])] [(0,2,(tq 62))]),qn [10] []),
   (oo 64 (.append 2 32 (tq 57) (tq 63)),q0),
   (oo 65 (.fieldAddr 2 (tq 10)),q0),
   (oz (.store 1 (tq 65) (tq 64)),q0)]))))
 (.reg [oo 66 (.bin .add (tq 47) (.const (.sc (.int .i64 1)))),
   oo 47 (.move (tq 66) false)]))))
def zcF:CC:=(.seq (.reg [oo 26 (.bin .lss (tq 25) (tq 24))])
 (.seq (.cond (tq 26)
 .skip
 (.seq (.mask (bl 1938 129) (bl 680564733841876926926749208193183774719 129))
 (.exit 0)))
 (.seq (.block 1 (.seq (.reg [oo 11 (.alloc true (rp 32 (.sc (.int .u8 0)) (rp 2 (.sc (.int .u32 0)) (rp 1 (.gs 1 []) []))))])
 (.seq (.reg [oo 27 (.load false 1 (tq 7) false),
   oo 28 (.call 171 [((tq 27),0),((.const (.fn 172 [])),0)] []),
   oo 29 (.fieldAddr 0 (tq 11)),
   oo 30 (.fieldAddr 0 (tq 29)),
   oz (.store 32 (tq 30) (tq 28))])
 (.seq (.reg [oo 31 (.load false 1 (tq 7) false),
   oo 32 (.call 169 [((tq 31),0),((.const (.fn 170 [])),0)] []),
   oo 33 (.fieldAddr 0 (tq 11)),
   oo 34 (.fieldAddr 32 (tq 33)),
   oz (.store 1 (tq 34) (tq 32))])
 (.seq (.reg [oo 35 (.load false 1 (tq 7) false),
   oo 36 (.call 169 [((tq 35),0),((.const (.fn 170 [])),0)] []),
   oo 37 (.fieldAddr 33 (tq 11)),
   oz (.store 1 (tq 37) (tq 36))])
 (.reg [oo 38 (.fieldAddr 1 (tq 10)),
   oo 39 (.load false 1 (tq 38) true),
   oo 40 (.load true 35 (tq 11) false),
   oo 41 (.buildSlice 35 1 (rp 32 (.sc (.int .u8 0)) (rp 2 (.sc (.int .u32 0)) (rp 1 (.sl 1 []) []))) [(0,35,(tq 40))]),
   oo 42 (.appendF 35 64 (tq 39) (tq 41)),
   oo 43 (.fieldAddr 1 (tq 10)),
   oz (.store 1 (tq 43) (tq 42))]))))))
 (.reg [oo 44 (.bin .add (tq 25) (.const (.sc (.int .i64 1)))),
   oo 25 (.move (tq 44) false)]))))
def zgK:CC:=(.seq (.seq (.reg [oo 97 (.load false 1 (tq 7) false),
   oo 98 (.nilCheck (tq 97)),
   oo 99 (.fieldAddr 2 (tq 98)),
   oo 100 (.load false 1 (tq 99) false),
   oo 101 (.bin .eql (tq 100) (.const (.sc (.int .i64 0)))),
   oo 102 (.move (tq 101) false),
   ⟨(some 103),false,(some (102,true)),.load false 1 (tq 7) false⟩,
   ⟨(some 104),false,(some (102,true)),.nilCheck (tq 103)⟩,
   ⟨(some 105),false,(some (102,true)),.fieldAddr 1 (tq 104)⟩,
   ⟨(some 106),false,(some (102,true)),.load false 1 (tq 105) false⟩,
   ⟨(some 107),false,(some (102,true)),.move (tq 1) false⟩,
   ⟨(some 108),false,(some (102,true)),.bin .sub (tq 106) (tq 107)⟩,
   ⟨(some 109),false,(some (102,true)),.bin .gtr (tq 108) (.const (.sc (.int .i64 20000)))⟩,
   oo 110 (.pick (tq 102) (tq 109) (.const (.sc (.bool false))))])
 (.cond (tq 110)
 (.reg [oo 111 (.load false 1 (tq 7) false),
   oo 112 (.nilCheck (tq 111)),
   oo 113 (.fieldAddr 2 (tq 112)),
   oz (.store 1 (tq 113) (.const (.sc (.int .i64 4))))])
 .skip))
 (.seq (.seq (.reg [oo 114 (.load false 1 (tq 7) false),
   oo 115 (.nilCheck (tq 114)),
   oo 116 (.fieldAddr 2 (tq 115)),
   oo 117 (.load false 1 (tq 116) false),
   oo 118 (.bin .neq (tq 117) (.const (.sc (.int .i64 0))))])
 (.cond (tq 118)
 (.seq (.dreg [] [(oo 119 (.build [(.sc (.int .u32 0)),(.sl 35 []),(.sl 2 []),(.sc (.int .u32 0))] []),q0),
   (oo 120 (.load false 1 (tq 7) false),ql 7 [4] []),
   (oo 121 (.nilCheck (tq 120)),q0),
   (oo 122 (.fieldAddr 2 (tq 121)),q0),
   (oo 123 (.load false 1 (tq 122) false),qc [4] []),
   (oz (.store 4 (tq 4) (tq 119)),ql 4 [7] []),
   (oo 5 (.move (.const (.sc (.int .i64 0))) false),q0),
   (oo 6 (.move (tq 123) false),q0)])
 .ret)
 .skip))
 (.seq (.dreg [100071] [(oo 124 (.loadS 4 (tq 10)),qc [7] []),
   (oo 125 (.load false 1 (tq 7) false),ql 7 [4] []),
   (oo 126 (.nilCheck (tq 125)),q0),
   (oo 127 (.fieldAddr 1 (tq 126)),q0),
   (oo 128 (.load false 1 (tq 127) false),qc [4] []),
   (oz (.store 4 (tq 4) (tq 124)),ql 4 [7] []),
   (oo 5 (.move (tq 128) false),q0),
   (oo 6 (.move (.const (.sc (.int .i64 0))) false),q0)])
 .ret)))
def zfq:CC:=(.seq (.reg [oo 67 (.load false 1 (tq 7) false),
   oo 68 (.call 169 [((tq 67),0),((.const (.fn 170 [])),0)] []),
   oo 69 (.fieldAddr 3 (tq 10)),
   oz (.store 1 (tq 69) (tq 68))])
 (.seq (.seq (.reg [oo 70 (.fieldAddr 1 (tq 10)),
   oo 71 (.pinC false 35 (tq 70)),
   oo 72 (.lenS (tq 71)),
   oo 73 (.move (.const (.sc (.int .i64 0))) false)])
 (.block 4 (.loop (bl 16528282690043758249874 129) (bl 680564733833211195536024101110595704831 129)
 zbe)))
 zgK))
def zfY:CC:=(.seq (.seq (.reg [oo 45 (.move (tq 8) false),
   oo 46 (.callv (tq 45) [((.const (.sc (.int .u64 64))),0)] []),
   oo 47 (.move (.const (.sc (.int .i64 0))) false)])
 (.block 2 (.loop (bl 211106232534930 129) (bl 680564733841876926896772129843851552767 129)
 zck)))
 zfq)
def zbF:CF:=⟨129,[.cell 4 true 4,.tmp 5,.tmp 6],
 (.seq (.reg [oo 4 (.alloc true [(.sc (.int .u32 0)),(.gs 35 []),(.gs 2 []),(.sc (.int .u32 0))]),
   oo 5 (.move (.const (.sc (.int .i64 0))) false),
   oo 6 (.move (.const (.sc (.int .i64 0))) false)])
 (.seq (.reg [oo 14 (.move (tq 0) false),
   oo 15 (.move (tq 1) false),
   oo 16 (.build [(.gs 1 []),(.sc (.int .i64 0)),(.sc (.int .i64 0))] [(0,1,(tq 14)),(1,1,(tq 15))]),
   oo 17 (.box false (tq 16)),
   oo 7 (.alloc false [(.sc (.pointer none))]),
   oz (.store 1 (tq 7) (tq 17))])
 (.seq (.reg [oo 18 (.makeFunc 161 [(tq 7)]),
   oo 8 (.move (tq 18) false)])
 (.seq (.reg [oo 19 (.makeFunc 165 [(tq 7)]),
   oo 9 (.move (tq 19) false)])
 (.seq (.reg [oo 10 (.alloc false [(.sc (.int .u32 0)),(.fr 35 []),(.gs 2 []),(.sc (.int .u32 0))])])
 (.seq (.reg [oo 20 (.load false 1 (tq 7) false),
   oo 21 (.call 169 [((tq 20),0),((.const (.fn 170 [])),0)] []),
   oo 22 (.fieldAddr 0 (tq 10)),
   oz (.store 1 (tq 22) (tq 21))])
 (.seq (.seq (.reg [oo 23 (.move (tq 8) false),
   oo 24 (.callv (tq 23) [((.const (.sc (.int .u64 64))),0)] []),
   oo 25 (.move (.const (.sc (.int .i64 0))) false)])
 (.block 0 (.loop (bl 50333586 129) (bl 680564733841876926926749208193183774719 129)
 zcF)))
 zfY)))))))⟩
def zup:Hint:=⟨[(0,0),(8,0),(12,1),(19,1),(27,8)],[],[none,some ((bl 50333586 129),(bl 680564733841876926926749208193183774719 129)),none,some ((bl 1938 129),(bl 680564733841876926926749208193183774719 129)),none,none,some ((bl 211106232534930 129),(bl 680564733841876926896772129843851552767 129)),none,some ((bl 1938 129),(bl 680564733841876926896772129843851552767 129)),none,none,none,some ((bl 16528282690043758249874 129),(bl 680564733833211195536024101110595704831 129)),none,some ((bl 2361183241434822608018 129),(bl 680564733833211195536024101110595704831 129)),none,none,some ((bl 469875465045529698772882 129),(bl 680564733833211346651751552939242551295 129)),none,some ((bl 16528282690043758249874 129),(bl 680564733833211346651751552939242551295 129)),none,none,none,none,none],[(34,[100071])],[(1,2,[0]),(19,6,[0]),(4,0,[1]),(12,4,[0]),(22,1,[1]),(34,0,[1,1])],false,false,[(27,71)]⟩
def xJ:Nat→Sh:=yL [(88,(.gs 1))]
def zK (xa:zp) (zd:yz) (ya:zm) (za:yk) (xc:zz) (L:Nat):CBC:=(zt 165 (zmq xc L) (zt 162 (zex za L) (zt 171 (zeQ ya L) (zt 161 (zmu zd L) (zt 169 (zge xa L) noC)))))
def ze2:St→St:=zV 0 (bl 50333586 129) (bl 680564733841876926926749208193183774719 129)
def zep:St→St:=zV 0 (bl 211106232534930 129) (bl 680564733841876926896772129843851552767 129)
def zaS:St→St:=zV 0 (bl 16528282690043758249874 129) (bl 680564733833211195536024101110595704831 129)
def zbw:St→St:=zV 0 (bl 469875465045529698772882 129) (bl 680564733833211346651751552939242551295 129)
def zdl (p1 p24 p25 zKH:Int) (zKI zKJ:List (List V)) (zKK zKL:Int) (zKT zKN:List (List V)) (zKM:Int) (zKQ:List (List V)) (zKO zKP:Int):St:=⟨(jn 1 ((V.sc (.int .i64 p1))::(jn 2 ((V.ptr 4 0)::(jn 2 ((V.ptr 7 0)::((V.fn 161 [(V.ptr 7 0)])::((V.fn 165 [(V.ptr 7 0)])::((V.ptr 10 0)::(jn 13 ((V.sc (.int .i64 p24))::((V.sc (.int .i64 p25))::(jn 103 []))))))))))))),(gn 4 ((.live true [(V.sc (.int .u32 zKH)),(V.gs 35 zKI),(V.gs 2 zKJ),(V.sc (.int .u32 zKK))])::(gn 2 ((.live false [(V.ptr 17 0)])::(gn 2 ((.live false [(V.sc (.int .u32 zKL)),(V.fr 35 zKT),(V.gs 2 zKN),(V.sc (.int .u32 zKM))])::(gn 6 ((.live false [(V.sl 1 zKQ),(V.sc (.int .i64 zKO)),(V.sc (.int .i64 zKP))])::(gn 111 [])))))))))⟩
def zjf (p1 zKH:Int) (zKI zKJ:List (List V)) (zKK zKL:Int) (zKT zKN:List (List V)) (zKM:Int) (zKQ:List (List V)) (zKO zKP:Int):St:=⟨(jn 1 ((V.sc (.int .i64 p1))::(jn 2 ((V.ptr 4 0)::(jn 2 ((V.ptr 7 0)::((V.fn 161 [(V.ptr 7 0)])::((V.fn 165 [(V.ptr 7 0)])::((V.ptr 10 0)::(jn 118 [])))))))))),(gn 4 ((.live true [(V.sc (.int .u32 zKH)),(V.gs 35 zKI),(V.gs 2 zKJ),(V.sc (.int .u32 zKK))])::(gn 2 ((.live false [(V.ptr 17 0)])::(gn 2 ((.live false [(V.sc (.int .u32 zKL)),(V.fr 35 zKT),(V.gs 2 zKN),(V.sc (.int .u32 zKM))])::(gn 6 ((.live false [(V.sl 1 zKQ),(V.sc (.int .i64 zKO)),(V.sc (.int .i64 zKP))])::(gn 111 [])))))))))⟩
def zc0 (p1 p46 p47 zKH:Int) (zKI zKJ:List (List V)) (zKK zKL:Int) (zKT zKN:List (List V)) (zKM:Int) (zKQ:List (List V)) (zKO zKP:Int):St:=⟨(jn 1 ((V.sc (.int .i64 p1))::(jn 2 ((V.ptr 4 0)::(jn 2 ((V.ptr 7 0)::((V.fn 161 [(V.ptr 7 0)])::((V.fn 165 [(V.ptr 7 0)])::((V.ptr 10 0)::(jn 35 ((V.sc (.int .i64 p46))::((V.sc (.int .i64 p47))::(jn 81 []))))))))))))),(gn 4 ((.live true [(V.sc (.int .u32 zKH)),(V.gs 35 zKI),(V.gs 2 zKJ),(V.sc (.int .u32 zKK))])::(gn 2 ((.live false [(V.ptr 17 0)])::(gn 2 ((.live false [(V.sc (.int .u32 zKL)),(V.fr 35 zKT),(V.gs 2 zKN),(V.sc (.int .u32 zKM))])::(gn 6 ((.live false [(V.sl 1 zKQ),(V.sc (.int .i64 zKO)),(V.sc (.int .i64 zKP))])::(gn 111 [])))))))))⟩
def zjC (p1 zKH:Int) (zKI zKJ:List (List V)) (zKK zKL:Int) (zKT zKN:List (List V)) (zKM:Int) (zKQ:List (List V)) (zKO zKP:Int):St:=⟨(jn 1 ((V.sc (.int .i64 p1))::(jn 2 ((V.ptr 4 0)::(jn 2 ((V.ptr 7 0)::((V.fn 161 [(V.ptr 7 0)])::((V.fn 165 [(V.ptr 7 0)])::((V.ptr 10 0)::(jn 118 [])))))))))),(gn 4 ((.live true [(V.sc (.int .u32 zKH)),(V.gs 35 zKI),(V.gs 2 zKJ),(V.sc (.int .u32 zKK))])::(gn 2 ((.live false [(V.ptr 17 0)])::(gn 2 ((.live false [(V.sc (.int .u32 zKL)),(V.fr 35 zKT),(V.gs 2 zKN),(V.sc (.int .u32 zKM))])::(gn 6 ((.live false [(V.sl 1 zKQ),(V.sc (.int .i64 zKO)),(V.sc (.int .i64 zKP))])::(gn 111 [])))))))))⟩
def zaO (p1:Int) (p71l:Nat) (p72 p73 zKH:Int) (zKI zKJ:List (List V)) (zKK zKL:Int) (zKS:Nat) (zKN:List (List V)) (zKM:Int) (zKQ:List (List V)) (zKO zKP:Int) (b71:List V):St:=⟨(jn 1 ((V.sc (.int .i64 p1))::(jn 2 ((V.ptr 4 0)::(jn 2 ((V.ptr 7 0)::((V.fn 161 [(V.ptr 7 0)])::((V.fn 165 [(V.ptr 7 0)])::((V.ptr 10 0)::(jn 60 ((V.own 71 0 p71l 35)::((V.sc (.int .i64 p72))::((V.sc (.int .i64 p73))::(jn 55 [])))))))))))))),(gn 4 ((.live true [(V.sc (.int .u32 zKH)),(V.gs 35 zKI),(V.gs 2 zKJ),(V.sc (.int .u32 zKK))])::(gn 2 ((.live false [(V.ptr 17 0)])::(gn 2 ((.live false [(V.sc (.int .u32 zKL)),(V.own 71 0 zKS 35),(V.gs 2 zKN),(V.sc (.int .u32 zKM))])::(gn 6 ((.live false [(V.sl 1 zKQ),(V.sc (.int .i64 zKO)),(V.sc (.int .i64 zKP))])::(gn 53 ((.live false b71)::(gn 57 [])))))))))))⟩
def zaX (p1 p13:Int) (p71l:Nat) (p72 p73 p77 p78 zKH:Int) (zKI zKJ:List (List V)) (zKK zKL:Int) (zKS:Nat) (zKN:List (List V)) (zKM:Int) (zKQ:List (List V)) (zKO zKP:Int) (b71:List V):St:=⟨(jn 1 ((V.sc (.int .i64 p1))::(jn 2 ((V.ptr 4 0)::(jn 2 ((V.ptr 7 0)::((V.fn 161 [(V.ptr 7 0)])::((V.fn 165 [(V.ptr 7 0)])::((V.ptr 10 0)::(jn 2 ((V.sc (.int .i64 p13))::(jn 57 ((V.own 71 0 p71l 35)::((V.sc (.int .i64 p72))::((V.sc (.int .i64 p73))::(jn 3 ((V.sc (.int .i64 p77))::((V.sc (.int .i64 p78))::(jn 50 []))))))))))))))))))),(gn 4 ((.live true [(V.sc (.int .u32 zKH)),(V.gs 35 zKI),(V.gs 2 zKJ),(V.sc (.int .u32 zKK))])::(gn 2 ((.live false [(V.ptr 17 0)])::(gn 2 ((.live false [(V.sc (.int .u32 zKL)),(V.own 71 0 zKS 35),(V.gs 2 zKN),(V.sc (.int .u32 zKM))])::(gn 6 ((.live false [(V.sl 1 zKQ),(V.sc (.int .i64 zKO)),(V.sc (.int .i64 zKP))])::(gn 53 ((.live false b71)::(gn 57 [])))))))))))⟩
def zjy (p1:Int) (p71l:Nat) (zKH:Int) (zKI zKJ:List (List V)) (zKK zKL:Int) (zKS:Nat) (zKN:List (List V)) (zKM:Int) (zKQ:List (List V)) (zKO zKP:Int) (b71:List V):St:=⟨(jn 1 ((V.sc (.int .i64 p1))::(jn 2 ((V.ptr 4 0)::(jn 2 ((V.ptr 7 0)::(jn 2 ((V.ptr 10 0)::(jn 60 ((V.own 71 0 p71l 35)::(jn 57 []))))))))))),(gn 4 ((.live true [(V.sc (.int .u32 zKH)),(V.gs 35 zKI),(V.gs 2 zKJ),(V.sc (.int .u32 zKK))])::(gn 2 ((.live false [(V.ptr 17 0)])::(gn 2 ((.live false [(V.sc (.int .u32 zKL)),(V.own 71 0 zKS 35),(V.gs 2 zKN),(V.sc (.int .u32 zKM))])::(gn 6 ((.live false [(V.sl 1 zKQ),(V.sc (.int .i64 zKO)),(V.sc (.int .i64 zKP))])::(gn 53 ((.live false b71)::(gn 57 [])))))))))))⟩
def znc (p1:Int) (p71l:Nat) (p72 p73 zKH:Int) (zKI zKJ:List (List V)) (zKK zKL:Int) (zKS:Nat) (zKN:List (List V)) (zKM:Int) (zKQ:List (List V)) (zKO zKP:Int) (b71:List V):St:=⟨(jn 1 ((V.sc (.int .i64 p1))::(jn 2 ((V.ptr 4 0)::(jn 2 ((V.ptr 7 0)::((V.fn 161 [(V.ptr 7 0)])::((V.fn 165 [(V.ptr 7 0)])::((V.ptr 10 0)::(jn 60 ((V.own 71 0 p71l 35)::((V.sc (.int .i64 p72))::((V.sc (.int .i64 p73))::(jn 55 [])))))))))))))),(gn 4 ((.live true [(V.sc (.int .u32 zKH)),(V.gs 35 zKI),(V.gs 2 zKJ),(V.sc (.int .u32 zKK))])::(gn 2 ((.live false [(V.ptr 17 0)])::(gn 2 ((.live false [(V.sc (.int .u32 zKL)),(V.own 71 0 zKS 35),(V.gs 2 zKN),(V.sc (.int .u32 zKM))])::(gn 6 ((.live false [(V.sl 1 zKQ),(V.sc (.int .i64 zKO)),(V.sc (.int .i64 zKP))])::(gn 53 ((.live false b71)::(gn 57 [])))))))))))⟩
abbrev zeu (β:Type):Type:=Int→Int→Int→Int→List (List V)→List (List V)→Int→Int→List (List V)→List (List V)→Int→List (List V)→Int→Int→Option β
abbrev zgv (β:Type):Type:=Int→Int→List (List V)→List (List V)→Int→Int→List (List V)→List (List V)→Int→List (List V)→Int→Int→Option β
abbrev zdE (β:Type):Type:=Int→Int→Int→Int→List (List V)→List (List V)→Int→Int→List (List V)→List (List V)→Int→List (List V)→Int→Int→Option β
abbrev zgt (β:Type):Type:=Int→Int→List (List V)→List (List V)→Int→Int→List (List V)→List (List V)→Int→List (List V)→Int→Int→Option β
abbrev zff (β:Type):Type:=Int→Nat→Int→Int→Int→List (List V)→List (List V)→Int→Int→Nat→List (List V)→Int→List (List V)→Int→Int→List V→Option β
abbrev zbl (β:Type):Type:=Int→Int→Nat→Int→Int→Int→Int→Int→List (List V)→List (List V)→Int→Int→Nat→List (List V)→Int→List (List V)→Int→Int→List V→Option β
abbrev zi3 (β:Type):Type:=Int→Nat→Int→List (List V)→List (List V)→Int→Int→Nat→List (List V)→Int→List (List V)→Int→Int→List V→Option β
abbrev zfj (β:Type):Type:=Int→Nat→Int→Int→Int→List (List V)→List (List V)→Int→Int→Nat→List (List V)→Int→List (List V)→Int→Int→List V→Option β
def zuF {β:Type} (xa:zp) (zd:yz) (ya:zm) (za:yk) (xc:zz) (L:Nat) (p0:List (List V)) (p1:Int) (k_hbbbbbbaba:zeu β):Option β :=
 xa β L p0 p1 (0:Int) (fun v0 v1 v2 v3 =>
 zd β L (64:Int) v1 v2 v3 (fun v4 v5 v6 v7 =>
 k_hbbbbbbaba p1 v4 (0:Int) (0:Int) ([]:List (List V)) ([]:List (List V)) (0:Int) v0 ([]:List (List V)) ([]:List (List V)) (0:Int) v5 v6 v7))
theorem zBZ {β:Type} (xa:zp) (zd:yz) (ya:zm) (za:yk) (xc:zz) (L:Nat) (p0:List (List V)) (p1:Int) (k:KK β):xv xJ (zK xa zd ya za xc L) L zbF [(V.sl 1 p0),(V.sc (.int .i64 p1))] [] k=zuF xa zd ya za xc L p0 p1 (fun p1 p24 p25 zKH zKI zKJ zKK zKL zKT zKN zKM zKQ zKO zKP=>xD (xj xJ (zK xa zd ya za xc L) 0 L zcF) ze2 L (zdl p1 p24 p25 zKH zKI zKJ zKK zKL zKT zKN zKM zKQ zKO zKP) (xu 0 (zQ (xj xJ (zK xa zd ya za xc L) 0 L zfY) (zW 0 (CF.res zbF) k)))):=by kernel_rfl
def zb4 {β:Type} (xa:zp) (zd:yz) (ya:zm) (za:yk) (xc:zz) (L:Nat) (p1 p24 p25 zKH:Int) (zKI zKJ:List (List V)) (zKK zKL:Int) (zKT zKN:List (List V)) (zKM:Int) (zKQ:List (List V)) (zKO zKP:Int) (k_hbbbbbbaba:zeu β) (k_x0:zgv β):Option β :=
 ifb (decide (p25 < p24)) (
 ya β L zKQ zKO zKP (fun v8 v9 v10 v11 =>
 chk ((List.length v8)=32∧0+32≤35) (
 lt (zl (List.replicate 32 (V.sc (.int .u8 (0:Int)))++[(V.sc (.int .u32 (0:Int))),(V.sc (.int .u32 (0:Int))),(V.gs 1 ([]:List (List V)))]) 0 v8) fun r12 =>
 xa β L v9 v10 v11 (fun v13 v14 v15 v16 =>
 chk (1=1∧32+1≤(List.length r12)) (
 lt (zl r12 32 [(V.sc (.int .u32 v13))]) fun r17 =>
 xa β L v14 v15 v16 (fun v18 v19 v20 v21 =>
 chk (1=1∧33+1≤(List.length r17)) (
 lt (zl r17 33 [(V.sc (.int .u32 v18))]) fun r22 =>
 chk (0+35≤(List.length r22)) (
 chk ((List.length (List.take 35 r22))=35∧0+35≤35) (
 chk ((List.length zKT+List.length (xi 35 1 (zl (List.replicate 32 (V.sc (.int .u8 (0:Int)))++[(V.sc (.int .u32 (0:Int))),(V.sc (.int .u32 (0:Int))),(V.sl 1 ([]:List (List V)))]) 0 (List.take 35 r22)))) * 64≤zk∧List.length zKT+List.length (xi 35 1 (zl (List.replicate 32 (V.sc (.int .u8 (0:Int)))++[(V.sc (.int .u32 (0:Int))),(V.sc (.int .u32 (0:Int))),(V.sl 1 ([]:List (List V)))]) 0 (List.take 35 r22)))≤zk∧List.length zKT+List.length (xi 35 1 (zl (List.replicate 32 (V.sc (.int .u8 (0:Int)))++[(V.sc (.int .u32 (0:Int))),(V.sc (.int .u32 (0:Int))),(V.sl 1 ([]:List (List V)))]) 0 (List.take 35 r22)))≠0) (
 lt (zKT++(xi 35 1 (zl (List.replicate 32 (V.sc (.int .u8 (0:Int)))++[(V.sc (.int .u32 (0:Int))),(V.sc (.int .u32 (0:Int))),(V.sl 1 ([]:List (List V)))]) 0 (List.take 35 r22)))) fun l23 =>
 lt (IntKind.wrap .i64 ((p25:Int)+(1:Int))) fun x24 =>
 k_hbbbbbbaba p1 p24 x24 zKH zKI zKJ zKK zKL l23 zKN zKM v19 v20 v21)))))))))) (
 k_x0 p1 zKH zKI zKJ zKK zKL zKT zKN zKM zKQ zKO zKP)
theorem zrc {β:Type} (xa:zp) (zd:yz) (ya:zm) (za:yk) (xc:zz) (L:Nat) (p1 p24 p25 zKH:Int) (zKI zKJ:List (List V)) (zKK zKL:Int) (zKT zKN:List (List V)) (zKM:Int) (zKQ:List (List V)) (zKO zKP:Int) (X:St→Option β) (K:KT β):xj xJ (zK xa zd ya za xc L) 0 L zcF (zdl p1 p24 p25 zKH zKI zKJ zKK zKL zKT zKN zKM zKQ zKO zKP) (zah ze2 X K)=zb4 xa zd ya za xc L p1 p24 p25 zKH zKI zKJ zKK zKL zKT zKN zKM zKQ zKO zKP (fun p1 p24 p25 zKH zKI zKJ zKK zKL zKT zKN zKM zKQ zKO zKP=>X (zdl p1 p24 p25 zKH zKI zKJ zKK zKL zKT zKN zKM zKQ zKO zKP)) (fun p1 zKH zKI zKJ zKK zKL zKT zKN zKM zKQ zKO zKP=>K (.exit 0) (zjf p1 zKH zKI zKJ zKK zKL zKT zKN zKM zKQ zKO zKP)):=by kernel_rfl
def zdI {β:Type} (xa:zp) (zd:yz) (ya:zm) (za:yk) (xc:zz) (L:Nat) (p1 zKH:Int) (zKI zKJ:List (List V)) (zKK zKL:Int) (zKT zKN:List (List V)) (zKM:Int) (zKQ:List (List V)) (zKO zKP:Int) (k_hbbbbbbbaba:zdE β):Option β :=
 zd β L (64:Int) zKQ zKO zKP (fun v25 v26 v27 v28 =>
 k_hbbbbbbbaba p1 v25 (0:Int) zKH zKI zKJ zKK zKL zKT zKN zKM v26 v27 v28)
theorem zpk {β:Type} (xa:zp) (zd:yz) (ya:zm) (za:yk) (xc:zz) (L:Nat) (p1 zKH:Int) (zKI zKJ:List (List V)) (zKK zKL:Int) (zKT zKN:List (List V)) (zKM:Int) (zKQ:List (List V)) (zKO zKP:Int) (k:KK β):(xu 0 (zQ (xj xJ (zK xa zd ya za xc L) 0 L zfY) (zW 0 (CF.res zbF) k))) (.exit 0) (zjf p1 zKH zKI zKJ zKK zKL zKT zKN zKM zKQ zKO zKP)=zdI xa zd ya za xc L p1 zKH zKI zKJ zKK zKL zKT zKN zKM zKQ zKO zKP (fun p1 p46 p47 zKH zKI zKJ zKK zKL zKT zKN zKM zKQ zKO zKP=>xD (xj xJ (zK xa zd ya za xc L) 0 L zck) zep L (zc0 p1 p46 p47 zKH zKI zKJ zKK zKL zKT zKN zKM zKQ zKO zKP) (xu 2 (zQ (xj xJ (zK xa zd ya za xc L) 0 L zfq) (zW 0 (CF.res zbF) k)))):=by kernel_rfl
def zbR {β:Type} (xa:zp) (zd:yz) (ya:zm) (za:yk) (xc:zz) (L:Nat) (p1 p46 p47 zKH:Int) (zKI zKJ:List (List V)) (zKK zKL:Int) (zKT zKN:List (List V)) (zKM:Int) (zKQ:List (List V)) (zKO zKP:Int) (k_hbbbbbbbaba:zdE β) (k_x2:zgt β):Option β :=
 ifb (decide (p47 < p46)) (
 za β L zKQ zKO zKP (fun v29 v30 v31 v32 =>
 ifb (decide (v29 ≥ (9223372036854775808:Int))) (
 lt (IntKind.wrap .i64 v29) fun x33 =>
 xc β L (520:Int) v30 v31 (90:Int) (fun v34 v35 v36 v37 =>
 chk ((List.length zKN+List.length (xi 2 1 [(V.sc (.int .i64 x33)),(V.sl 1 v34)])) * 32≤zk∧List.length zKN+List.length (xi 2 1 [(V.sc (.int .i64 x33)),(V.sl 1 v34)])≤zk) (
 lt (zKN++(xi 2 1 [(V.sc (.int .i64 x33)),(V.sl 1 v34)])) fun l38 =>
 lt (IntKind.wrap .i64 ((p47:Int)+(1:Int))) fun x39 =>
 k_hbbbbbbbaba p1 p46 x39 zKH zKI zKJ zKK zKL zKT l38 zKM v35 v36 v37)) (fun v40 v41 v42 v43 =>
 chk ((List.length zKN+List.length (xi 2 1 [(V.sc (.int .i64 x33)),(V.sl 1 v40)])) * 32≤zk∧List.length zKN+List.length (xi 2 1 [(V.sc (.int .i64 x33)),(V.sl 1 v40)])≤zk) (
 lt (zKN++(xi 2 1 [(V.sc (.int .i64 x33)),(V.sl 1 v40)])) fun l44 =>
 lt (IntKind.wrap .i64 ((p47:Int)+(1:Int))) fun x45 =>
 k_hbbbbbbbaba p1 p46 x45 zKH zKI zKJ zKK zKL zKT l44 zKM v41 v42 v43))) (
 lt (IntKind.wrap .i64 v29) fun x46 =>
 xc β L (520:Int) v30 v31 v32 (fun v47 v48 v49 v50 =>
 chk ((List.length zKN+List.length (xi 2 1 [(V.sc (.int .i64 x46)),(V.sl 1 v47)])) * 32≤zk∧List.length zKN+List.length (xi 2 1 [(V.sc (.int .i64 x46)),(V.sl 1 v47)])≤zk) (
 lt (zKN++(xi 2 1 [(V.sc (.int .i64 x46)),(V.sl 1 v47)])) fun l51 =>
 lt (IntKind.wrap .i64 ((p47:Int)+(1:Int))) fun x52 =>
 k_hbbbbbbbaba p1 p46 x52 zKH zKI zKJ zKK zKL zKT l51 zKM v48 v49 v50)) (fun v53 v54 v55 v56 =>
 chk ((List.length zKN+List.length (xi 2 1 [(V.sc (.int .i64 x46)),(V.sl 1 v53)])) * 32≤zk∧List.length zKN+List.length (xi 2 1 [(V.sc (.int .i64 x46)),(V.sl 1 v53)])≤zk) (
 lt (zKN++(xi 2 1 [(V.sc (.int .i64 x46)),(V.sl 1 v53)])) fun l57 =>
 lt (IntKind.wrap .i64 ((p47:Int)+(1:Int))) fun x58 =>
 k_hbbbbbbbaba p1 p46 x58 zKH zKI zKJ zKK zKL zKT l57 zKM v54 v55 v56))))) (
 k_x2 p1 zKH zKI zKJ zKK zKL zKT zKN zKM zKQ zKO zKP)
theorem zqQ {β:Type} (xa:zp) (zd:yz) (ya:zm) (za:yk) (xc:zz) (L:Nat) (p1 p46 p47 zKH:Int) (zKI zKJ:List (List V)) (zKK zKL:Int) (zKT zKN:List (List V)) (zKM:Int) (zKQ:List (List V)) (zKO zKP:Int) (X:St→Option β) (K:KT β):xj xJ (zK xa zd ya za xc L) 0 L zck (zc0 p1 p46 p47 zKH zKI zKJ zKK zKL zKT zKN zKM zKQ zKO zKP) (zah zep X K)=zbR xa zd ya za xc L p1 p46 p47 zKH zKI zKJ zKK zKL zKT zKN zKM zKQ zKO zKP (fun p1 p46 p47 zKH zKI zKJ zKK zKL zKT zKN zKM zKQ zKO zKP=>X (zc0 p1 p46 p47 zKH zKI zKJ zKK zKL zKT zKN zKM zKQ zKO zKP)) (fun p1 zKH zKI zKJ zKK zKL zKT zKN zKM zKQ zKO zKP=>K (.exit 2) (zjC p1 zKH zKI zKJ zKK zKL zKT zKN zKM zKQ zKO zKP)):=by kernel_rfl
def zdi {β:Type} (xa:zp) (zd:yz) (ya:zm) (za:yk) (xc:zz) (L:Nat) (p1 zKH:Int) (zKI zKJ:List (List V)) (zKK zKL:Int) (zKT zKN:List (List V)) (zKM:Int) (zKQ:List (List V)) (zKO zKP:Int) (k_hbbbbbbbbbaba:zff β):Option β :=
 xa β L zKQ zKO zKP (fun v59 v60 v61 v62 =>
 lt (List.flatten zKT) fun r63 =>
 k_hbbbbbbbbbaba p1 (List.length zKT) (((List.length zKT):Nat):Int) (0:Int) zKH zKI zKJ zKK zKL (List.length zKT) zKN v59 v60 v61 v62 (zbv (bl 680564733833211195536024101110595704831 129) r63))
theorem zo5 {β:Type} (xa:zp) (zd:yz) (ya:zm) (za:yk) (xc:zz) (L:Nat) (p1 zKH:Int) (zKI zKJ:List (List V)) (zKK zKL:Int) (zKT zKN:List (List V)) (zKM:Int) (zKQ:List (List V)) (zKO zKP:Int) (k:KK β):(xu 2 (zQ (xj xJ (zK xa zd ya za xc L) 0 L zfq) (zW 0 (CF.res zbF) k))) (.exit 2) (zjC p1 zKH zKI zKJ zKK zKL zKT zKN zKM zKQ zKO zKP)=zdi xa zd ya za xc L p1 zKH zKI zKJ zKK zKL zKT zKN zKM zKQ zKO zKP (fun p1 p71l p72 p73 zKH zKI zKJ zKK zKL zKS zKN zKM zKQ zKO zKP b71=>xD (xj xJ (zK xa zd ya za xc L) 0 L zbe) zaS L (zaO p1 p71l p72 p73 zKH zKI zKJ zKK zKL zKS zKN zKM zKQ zKO zKP b71) (xu 4 (zQ (xj xJ (zK xa zd ya za xc L) 0 L zgK) (zW 0 (CF.res zbF) k)))):=by kernel_rfl
def zb5 {β:Type} (xa:zp) (zd:yz) (ya:zm) (za:yk) (xc:zz) (L:Nat) (p1:Int) (p71l:Nat) (p72 p73 zKH:Int) (zKI zKJ:List (List V)) (zKK zKL:Int) (zKS:Nat) (zKN:List (List V)) (zKM:Int) (zKQ:List (List V)) (zKO zKP:Int) (b71:List V) (k_hbbbbbbbbbabaabbaabba:zbl β) (k_x4:zi3 β):Option β :=
 ifb (decide (p73 < p72)) (
 zd β L (32:Int) zKQ zKO zKP (fun v64 v65 v66 v67 =>
 k_hbbbbbbbbbabaabbaabba p1 p73 p71l p72 p73 v64 (0:Int) zKH zKI zKJ zKK zKL zKS zKN zKM v65 v66 v67 (zbv (bl 680564733833211346651751552939242551295 129) b71))) (
 k_x4 p1 p71l zKH zKI zKJ zKK zKL zKS zKN zKM zKQ zKO zKP (zbv (bl 680564733833211195536024101110595704831 129) b71))
theorem zpc {β:Type} (xa:zp) (zd:yz) (ya:zm) (za:yk) (xc:zz) (L:Nat) (p1:Int) (p71l:Nat) (p72 p73 zKH:Int) (zKI zKJ:List (List V)) (zKK zKL:Int) (zKS:Nat) (zKN:List (List V)) (zKM:Int) (zKQ:List (List V)) (zKO zKP:Int) (b71:List V) (X:St→Option β) (K:KT β):xj xJ (zK xa zd ya za xc L) 0 L zbe (zaO p1 p71l p72 p73 zKH zKI zKJ zKK zKL zKS zKN zKM zKQ zKO zKP b71) (zah zaS X K)=zb5 xa zd ya za xc L p1 p71l p72 p73 zKH zKI zKJ zKK zKL zKS zKN zKM zKQ zKO zKP b71 (fun p1 p13 p71l p72 p73 p77 p78 zKH zKI zKJ zKK zKL zKS zKN zKM zKQ zKO zKP b71=>xD (xj xJ (zK xa zd ya za xc L) 0 L zav) zbw L (zaX p1 p13 p71l p72 p73 p77 p78 zKH zKI zKJ zKK zKL zKS zKN zKM zKQ zKO zKP b71) (xu 6 (xu 5 (zQ (xj xJ (zK xa zd ya za xc L) 0 L zdM) (zah zaS X K))))) (fun p1 p71l zKH zKI zKJ zKK zKL zKS zKN zKM zKQ zKO zKP b71=>K (.exit 4) (zjy p1 p71l zKH zKI zKJ zKK zKL zKS zKN zKM zKQ zKO zKP b71)):=by kernel_rfl
def xW {β:Type} (xa:zp) (zd:yz) (ya:zm) (za:yk) (xc:zz) (L:Nat) (p1:Int) (p71l:Nat) (zKH:Int) (zKI zKJ:List (List V)) (zKK zKL:Int) (zKS:Nat) (zKN:List (List V)) (zKM:Int) (zKQ:List (List V)) (zKO zKP:Int) (b71:List V) (k_fin:List V→Int→Int→Option β):Option β :=
 ifb ((zKP:Int) == (0:Int)) (
 lt (IntKind.wrap .i64 ((zKO:Int) - p1)) fun x68 =>
 ifb (decide (x68 > (20000:Int))) (
 lt [(V.sc (.int .u32 (0:Int))),(V.sl 35 ([]:List (List V))),(V.sl 2 ([]:List (List V))),(V.sc (.int .u32 (0:Int)))] fun r69 =>
 chk (0=0∧(List.length r69)=4∧4≠0) (
 k_fin r69 (0:Int) (4:Int))) (
 ifb ((zKP:Int) != (0:Int)) (
 lt [(V.sc (.int .u32 (0:Int))),(V.sl 35 ([]:List (List V))),(V.sl 2 ([]:List (List V))),(V.sc (.int .u32 (0:Int)))] fun r70 =>
 chk (0=0∧(List.length r70)=4∧4≠0) (
 k_fin r70 (0:Int) zKP)) (
 lc b71 (
 chk (zKS=0) (
 lt [(V.sc (.int .u32 zKL)),(V.sl 35 ([]:List (List V))),(V.sl 2 zKN),(V.sc (.int .u32 zKM))] fun r74 =>
 chk (0=0∧(List.length r74)=4∧4≠0) (
 k_fin r74 zKO (0:Int)))) (fun h71 t72 =>
 zdf (h71::t72) fun f73 =>
 lt [(V.sc (.int .u32 zKL)),(V.sl 35 (xi 35 zKS f73)),(V.sl 2 zKN),(V.sc (.int .u32 zKM))] fun r75 =>
 chk (0=0∧(List.length r75)=4∧4≠0) (
 k_fin r75 zKO (0:Int)))))) (
 ifb ((zKP:Int) != (0:Int)) (
 lt [(V.sc (.int .u32 (0:Int))),(V.sl 35 ([]:List (List V))),(V.sl 2 ([]:List (List V))),(V.sc (.int .u32 (0:Int)))] fun r76 =>
 chk (0=0∧(List.length r76)=4∧4≠0) (
 k_fin r76 (0:Int) zKP)) (
 lc b71 (
 chk (zKS=0) (
 lt [(V.sc (.int .u32 zKL)),(V.sl 35 ([]:List (List V))),(V.sl 2 zKN),(V.sc (.int .u32 zKM))] fun r80 =>
 chk (0=0∧(List.length r80)=4∧4≠0) (
 k_fin r80 zKO (0:Int)))) (fun h77 t78 =>
 zdf (h77::t78) fun f79 =>
 lt [(V.sc (.int .u32 zKL)),(V.sl 35 (xi 35 zKS f79)),(V.sl 2 zKN),(V.sc (.int .u32 zKM))] fun r81 =>
 chk (0=0∧(List.length r81)=4∧4≠0) (
 k_fin r81 zKO (0:Int)))))
theorem znj {β:Type} (xa:zp) (zd:yz) (ya:zm) (za:yk) (xc:zz) (L:Nat) (p1:Int) (p71l:Nat) (zKH:Int) (zKI zKJ:List (List V)) (zKK zKL:Int) (zKS:Nat) (zKN:List (List V)) (zKM:Int) (zKQ:List (List V)) (zKO zKP:Int) (b71:List V) (k:KK β):(xu 4 (zQ (xj xJ (zK xa zd ya za xc L) 0 L zgK) (zW 0 (CF.res zbF) k))) (.exit 4) (zjy p1 p71l zKH zKI zKJ zKK zKL zKS zKN zKM zKQ zKO zKP b71)=xW xa zd ya za xc L p1 p71l zKH zKI zKJ zKK zKL zKS zKN zKM zKQ zKO zKP b71 (fun zKX zKY zK1=>k (V.tup [(V.agg zKX),(V.sc (.int .i64 zKY)),(V.sc (.int .i64 zK1))]) []):=by kernel_rfl
def yW {β:Type} (xa:zp) (zd:yz) (ya:zm) (za:yk) (xc:zz) (L:Nat) (p1 p13:Int) (p71l:Nat) (p72 p73 p77 p78 zKH:Int) (zKI zKJ:List (List V)) (zKK zKL:Int) (zKS:Nat) (zKN:List (List V)) (zKM:Int) (zKQ:List (List V)) (zKO zKP:Int) (b71:List V) (k_hbbbbbbbbbabaabbaabba:zbl β) (k_x6:zfj β):Option β :=
 ifb (decide (p78 < p77)) (
 chk (0≤p13∧p13 < ((zKS:Nat):Int)) (
 cG 1 b71 ((0+((Int.toNat p13) * 35))+34) fun g82 =>
 xc β L (520:Int) zKQ zKO zKP (fun v83 v84 v85 v86 =>
 chk ((List.length g82+List.length (xi 1 1 [(V.sl 1 v83)])) * 24≤zk∧List.length g82+List.length (xi 1 1 [(V.sl 1 v83)])≤zk) (
 lt (g82++(xi 1 1 [(V.sl 1 v83)])) fun l87 =>
 chk (0≤p13∧p13 < ((zKS:Nat):Int)) (
 chk (1=1∧((0+((Int.toNat p13) * 35))+34) < (List.length (List.set b71 ((0+((Int.toNat p13) * 35))+34) (V.sl 1 g82)))) (
 lt (IntKind.wrap .i64 ((p78:Int)+(1:Int))) fun x88 =>
 k_hbbbbbbbbbabaabbaabba p1 p13 p71l p72 p73 p77 x88 zKH zKI zKJ zKK zKL zKS zKN zKM v84 v85 v86 (zbv (bl 680564733833211346651751552939242551295 129) (List.set (List.set b71 ((0+((Int.toNat p13) * 35))+34) (V.sl 1 g82)) ((0+((Int.toNat p13) * 35))+34) (V.gs 1 l87))))))) (fun v89 v90 v91 v92 =>
 chk ((List.length g82+List.length (xi 1 1 [(V.sl 1 v89)])) * 24≤zk∧List.length g82+List.length (xi 1 1 [(V.sl 1 v89)])≤zk) (
 lt (g82++(xi 1 1 [(V.sl 1 v89)])) fun l93 =>
 chk (0≤p13∧p13 < ((zKS:Nat):Int)) (
 chk (1=1∧((0+((Int.toNat p13) * 35))+34) < (List.length (List.set b71 ((0+((Int.toNat p13) * 35))+34) (V.sl 1 g82)))) (
 lt (IntKind.wrap .i64 ((p78:Int)+(1:Int))) fun x94 =>
 k_hbbbbbbbbbabaabbaabba p1 p13 p71l p72 p73 p77 x94 zKH zKI zKJ zKK zKL zKS zKN zKM v90 v91 v92 (zbv (bl 680564733833211346651751552939242551295 129) (List.set (List.set b71 ((0+((Int.toNat p13) * 35))+34) (V.sl 1 g82)) ((0+((Int.toNat p13) * 35))+34) (V.gs 1 l93))))))))) (
 k_x6 p1 p71l p72 p73 zKH zKI zKJ zKK zKL zKS zKN zKM zKQ zKO zKP (zbv (bl 680564733833211346651751552939242551295 129) b71))
theorem zjK {β:Type} (xa:zp) (zd:yz) (ya:zm) (za:yk) (xc:zz) (L:Nat) (p1 p13:Int) (p71l:Nat) (p72 p73 p77 p78 zKH:Int) (zKI zKJ:List (List V)) (zKK zKL:Int) (zKS:Nat) (zKN:List (List V)) (zKM:Int) (zKQ:List (List V)) (zKO zKP:Int) (b71:List V) (X:St→Option β) (K:KT β):xj xJ (zK xa zd ya za xc L) 0 L zav (zaX p1 p13 p71l p72 p73 p77 p78 zKH zKI zKJ zKK zKL zKS zKN zKM zKQ zKO zKP b71) (zah zbw X K)=yW xa zd ya za xc L p1 p13 p71l p72 p73 p77 p78 zKH zKI zKJ zKK zKL zKS zKN zKM zKQ zKO zKP b71 (fun p1 p13 p71l p72 p73 p77 p78 zKH zKI zKJ zKK zKL zKS zKN zKM zKQ zKO zKP b71=>X (zaX p1 p13 p71l p72 p73 p77 p78 zKH zKI zKJ zKK zKL zKS zKN zKM zKQ zKO zKP b71)) (fun p1 p71l p72 p73 zKH zKI zKJ zKK zKL zKS zKN zKM zKQ zKO zKP b71=>K (.exit 6) (znc p1 p71l p72 p73 zKH zKI zKJ zKK zKL zKS zKN zKM zKQ zKO zKP b71)):=by kernel_rfl
def xE {β:Type} (xa:zp) (zd:yz) (ya:zm) (za:yk) (xc:zz) (L:Nat) (p1:Int) (p71l:Nat) (p72 p73 zKH:Int) (zKI zKJ:List (List V)) (zKK zKL:Int) (zKS:Nat) (zKN:List (List V)) (zKM:Int) (zKQ:List (List V)) (zKO zKP:Int) (b71:List V) (k_hbbbbbbbbbaba:zff β):Option β :=
 lt (IntKind.wrap .i64 ((p73:Int)+(1:Int))) fun x95 =>
 k_hbbbbbbbbbaba p1 p71l p72 x95 zKH zKI zKJ zKK zKL zKS zKN zKM zKQ zKO zKP (zbv (bl 680564733833211195536024101110595704831 129) b71)
theorem ziq {β:Type} (xa:zp) (zd:yz) (ya:zm) (za:yk) (xc:zz) (L:Nat) (p1:Int) (p71l:Nat) (p72 p73 zKH:Int) (zKI zKJ:List (List V)) (zKK zKL:Int) (zKS:Nat) (zKN:List (List V)) (zKM:Int) (zKQ:List (List V)) (zKO zKP:Int) (b71:List V) (X:St→Option β) (K:KT β):(xu 6 (xu 5 (zQ (xj xJ (zK xa zd ya za xc L) 0 L zdM) (zah zaS X K)))) (.exit 6) (znc p1 p71l p72 p73 zKH zKI zKJ zKK zKL zKS zKN zKM zKQ zKO zKP b71)=xE xa zd ya za xc L p1 p71l p72 p73 zKH zKI zKJ zKK zKL zKS zKN zKM zKQ zKO zKP b71 (fun p1 p71l p72 p73 zKH zKI zKJ zKK zKL zKS zKN zKM zKQ zKO zKP b71=>X (zaO p1 p71l p72 p73 zKH zKI zKJ zKK zKL zKS zKN zKM zKQ zKO zKP b71)):=by kernel_rfl
def yV {β:Type} (xa:zp) (zd:yz) (ya:zm) (za:yk) (xc:zz) (L:Nat) (k_x0:zgv β):Nat→Int→Int→Int→Int→List (List V)→List (List V)→Int→Int→List (List V)→List (List V)→Int→List (List V)→Int→Int→Option β
 | 0,_,_,_,_,_,_,_,_,_,_,_,_,_,_=>none
 | n+1,p1,p24,p25,zKH,zKI,zKJ,zKK,zKL,zKT,zKN,zKM,zKQ,zKO,zKP=>zb4 xa zd ya za xc L p1 p24 p25 zKH zKI zKJ zKK zKL zKT zKN zKM zKQ zKO zKP (fun p1 p24 p25 zKH zKI zKJ zKK zKL zKT zKN zKM zKQ zKO zKP=>yV xa zd ya za xc L k_x0 n p1 p24 p25 zKH zKI zKJ zKK zKL zKT zKN zKM zKQ zKO zKP) k_x0
theorem zj9 {β:Type} (xa:zp) (zd:yz) (ya:zm) (za:yk) (xc:zz) (L:Nat) (K:KT β):∀ (n:Nat) (p1 p24 p25 zKH:Int) (zKI zKJ:List (List V)) (zKK zKL:Int) (zKT zKN:List (List V)) (zKM:Int) (zKQ:List (List V)) (zKO zKP:Int),xD (xj xJ (zK xa zd ya za xc L) 0 L zcF) ze2 n (zdl p1 p24 p25 zKH zKI zKJ zKK zKL zKT zKN zKM zKQ zKO zKP) K=yV xa zd ya za xc L (fun p1 zKH zKI zKJ zKK zKL zKT zKN zKM zKQ zKO zKP=>K (.exit 0) (zjf p1 zKH zKI zKJ zKK zKL zKT zKN zKM zKQ zKO zKP)) n p1 p24 p25 zKH zKI zKJ zKK zKL zKT zKN zKM zKQ zKO zKP:=by
 intro n
 induction n with
 | zero=>intros; rfl
 | succ n ih =>
  intro p1 p24 p25 zKH zKI zKJ zKK zKL zKT zKN zKM zKQ zKO zKP
  refine (zrc xa zd ya za xc L p1 p24 p25 zKH zKI zKJ zKK zKL zKT zKN zKM zKQ zKO zKP (fun σ=>xD (xj xJ (zK xa zd ya za xc L) 0 L zcF) ze2 n σ K) K).trans ?_
  simp only [ih]
  rfl
def yX {β:Type} (xa:zp) (zd:yz) (ya:zm) (za:yk) (xc:zz) (L:Nat) (k_x2:zgt β):Nat→Int→Int→Int→Int→List (List V)→List (List V)→Int→Int→List (List V)→List (List V)→Int→List (List V)→Int→Int→Option β
 | 0,_,_,_,_,_,_,_,_,_,_,_,_,_,_=>none
 | n+1,p1,p46,p47,zKH,zKI,zKJ,zKK,zKL,zKT,zKN,zKM,zKQ,zKO,zKP=>zbR xa zd ya za xc L p1 p46 p47 zKH zKI zKJ zKK zKL zKT zKN zKM zKQ zKO zKP (fun p1 p46 p47 zKH zKI zKJ zKK zKL zKT zKN zKM zKQ zKO zKP=>yX xa zd ya za xc L k_x2 n p1 p46 p47 zKH zKI zKJ zKK zKL zKT zKN zKM zKQ zKO zKP) k_x2
theorem ziW {β:Type} (xa:zp) (zd:yz) (ya:zm) (za:yk) (xc:zz) (L:Nat) (K:KT β):∀ (n:Nat) (p1 p46 p47 zKH:Int) (zKI zKJ:List (List V)) (zKK zKL:Int) (zKT zKN:List (List V)) (zKM:Int) (zKQ:List (List V)) (zKO zKP:Int),xD (xj xJ (zK xa zd ya za xc L) 0 L zck) zep n (zc0 p1 p46 p47 zKH zKI zKJ zKK zKL zKT zKN zKM zKQ zKO zKP) K=yX xa zd ya za xc L (fun p1 zKH zKI zKJ zKK zKL zKT zKN zKM zKQ zKO zKP=>K (.exit 2) (zjC p1 zKH zKI zKJ zKK zKL zKT zKN zKM zKQ zKO zKP)) n p1 p46 p47 zKH zKI zKJ zKK zKL zKT zKN zKM zKQ zKO zKP:=by
 intro n
 induction n with
 | zero=>intros; rfl
 | succ n ih =>
  intro p1 p46 p47 zKH zKI zKJ zKK zKL zKT zKN zKM zKQ zKO zKP
  refine (zqQ xa zd ya za xc L p1 p46 p47 zKH zKI zKJ zKK zKL zKT zKN zKM zKQ zKO zKP (fun σ=>xD (xj xJ (zK xa zd ya za xc L) 0 L zck) zep n σ K) K).trans ?_
  simp only [ih]
  rfl
def zE {β:Type} (xa:zp) (zd:yz) (ya:zm) (za:yk) (xc:zz) (L:Nat) (k_x6:zfj β):Nat→Int→Int→Nat→Int→Int→Int→Int→Int→List (List V)→List (List V)→Int→Int→Nat→List (List V)→Int→List (List V)→Int→Int→List V→Option β
 | 0,_,_,_,_,_,_,_,_,_,_,_,_,_,_,_,_,_,_,_=>none
 | n+1,p1,p13,p71l,p72,p73,p77,p78,zKH,zKI,zKJ,zKK,zKL,zKS,zKN,zKM,zKQ,zKO,zKP,b71=>yW xa zd ya za xc L p1 p13 p71l p72 p73 p77 p78 zKH zKI zKJ zKK zKL zKS zKN zKM zKQ zKO zKP b71 (fun p1 p13 p71l p72 p73 p77 p78 zKH zKI zKJ zKK zKL zKS zKN zKM zKQ zKO zKP b71=>zE xa zd ya za xc L k_x6 n p1 p13 p71l p72 p73 p77 p78 zKH zKI zKJ zKK zKL zKS zKN zKM zKQ zKO zKP b71) k_x6
theorem zeb {β:Type} (xa:zp) (zd:yz) (ya:zm) (za:yk) (xc:zz) (L:Nat) (K:KT β):∀ (n:Nat) (p1 p13:Int) (p71l:Nat) (p72 p73 p77 p78 zKH:Int) (zKI zKJ:List (List V)) (zKK zKL:Int) (zKS:Nat) (zKN:List (List V)) (zKM:Int) (zKQ:List (List V)) (zKO zKP:Int) (b71:List V),xD (xj xJ (zK xa zd ya za xc L) 0 L zav) zbw n (zaX p1 p13 p71l p72 p73 p77 p78 zKH zKI zKJ zKK zKL zKS zKN zKM zKQ zKO zKP b71) K=zE xa zd ya za xc L (fun p1 p71l p72 p73 zKH zKI zKJ zKK zKL zKS zKN zKM zKQ zKO zKP b71=>K (.exit 6) (znc p1 p71l p72 p73 zKH zKI zKJ zKK zKL zKS zKN zKM zKQ zKO zKP b71)) n p1 p13 p71l p72 p73 p77 p78 zKH zKI zKJ zKK zKL zKS zKN zKM zKQ zKO zKP b71:=by
 intro n
 induction n with
 | zero=>intros; rfl
 | succ n ih =>
  intro p1 p13 p71l p72 p73 p77 p78 zKH zKI zKJ zKK zKL zKS zKN zKM zKQ zKO zKP b71
  refine (zjK xa zd ya za xc L p1 p13 p71l p72 p73 p77 p78 zKH zKI zKJ zKK zKL zKS zKN zKM zKQ zKO zKP b71 (fun σ=>xD (xj xJ (zK xa zd ya za xc L) 0 L zav) zbw n σ K) K).trans ?_
  simp only [ih]
  rfl
def zbf {β:Type} (xa:zp) (zd:yz) (ya:zm) (za:yk) (xc:zz) (L:Nat) (p1:Int) (p71l:Nat) (p72 p73 zKH:Int) (zKI zKJ:List (List V)) (zKK zKL:Int) (zKS:Nat) (zKN:List (List V)) (zKM:Int) (zKQ:List (List V)) (zKO zKP:Int) (b71:List V) (k_x4:zi3 β) (k_hbbbbbbbbbaba:zff β):Option β :=
 zb5 xa zd ya za xc L p1 p71l p72 p73 zKH zKI zKJ zKK zKL zKS zKN zKM zKQ zKO zKP b71 (fun p1 p13 p71l p72 p73 p77 p78 zKH zKI zKJ zKK zKL zKS zKN zKM zKQ zKO zKP b71=>zE xa zd ya za xc L (fun p1 p71l p72 p73 zKH zKI zKJ zKK zKL zKS zKN zKM zKQ zKO zKP b71=>xE xa zd ya za xc L p1 p71l p72 p73 zKH zKI zKJ zKK zKL zKS zKN zKM zKQ zKO zKP b71 k_hbbbbbbbbbaba) L p1 p13 p71l p72 p73 p77 p78 zKH zKI zKJ zKK zKL zKS zKN zKM zKQ zKO zKP b71) k_x4
theorem zn5 {β:Type} (xa:zp) (zd:yz) (ya:zm) (za:yk) (xc:zz) (L:Nat) (p1:Int) (p71l:Nat) (p72 p73 zKH:Int) (zKI zKJ:List (List V)) (zKK zKL:Int) (zKS:Nat) (zKN:List (List V)) (zKM:Int) (zKQ:List (List V)) (zKO zKP:Int) (b71:List V) (X:St→Option β) (K:KT β):xj xJ (zK xa zd ya za xc L) 0 L zbe (zaO p1 p71l p72 p73 zKH zKI zKJ zKK zKL zKS zKN zKM zKQ zKO zKP b71) (zah zaS X K)=zbf xa zd ya za xc L p1 p71l p72 p73 zKH zKI zKJ zKK zKL zKS zKN zKM zKQ zKO zKP b71 (fun p1 p71l zKH zKI zKJ zKK zKL zKS zKN zKM zKQ zKO zKP b71=>K (.exit 4) (zjy p1 p71l zKH zKI zKJ zKK zKL zKS zKN zKM zKQ zKO zKP b71)) (fun p1 p71l p72 p73 zKH zKI zKJ zKK zKL zKS zKN zKM zKQ zKO zKP b71=>X (zaO p1 p71l p72 p73 zKH zKI zKJ zKK zKL zKS zKN zKM zKQ zKO zKP b71)):=by
 refine (zpc xa zd ya za xc L p1 p71l p72 p73 zKH zKI zKJ zKK zKL zKS zKN zKM zKQ zKO zKP b71 X K).trans ?_
 unfold zbf
 first
  | (simp only [zeb,ziq]; done)
  | (simp only [zeb]; rfl)
def yH {β:Type} (xa:zp) (zd:yz) (ya:zm) (za:yk) (xc:zz) (L:Nat) (k_x4:zi3 β):Nat→Int→Nat→Int→Int→Int→List (List V)→List (List V)→Int→Int→Nat→List (List V)→Int→List (List V)→Int→Int→List V→Option β
 | 0,_,_,_,_,_,_,_,_,_,_,_,_,_,_,_,_=>none
 | n+1,p1,p71l,p72,p73,zKH,zKI,zKJ,zKK,zKL,zKS,zKN,zKM,zKQ,zKO,zKP,b71=>zbf xa zd ya za xc L p1 p71l p72 p73 zKH zKI zKJ zKK zKL zKS zKN zKM zKQ zKO zKP b71 k_x4 (fun p1 p71l p72 p73 zKH zKI zKJ zKK zKL zKS zKN zKM zKQ zKO zKP b71=>yH xa zd ya za xc L k_x4 n p1 p71l p72 p73 zKH zKI zKJ zKK zKL zKS zKN zKM zKQ zKO zKP b71)
theorem zhp {β:Type} (xa:zp) (zd:yz) (ya:zm) (za:yk) (xc:zz) (L:Nat) (K:KT β):∀ (n:Nat) (p1:Int) (p71l:Nat) (p72 p73 zKH:Int) (zKI zKJ:List (List V)) (zKK zKL:Int) (zKS:Nat) (zKN:List (List V)) (zKM:Int) (zKQ:List (List V)) (zKO zKP:Int) (b71:List V),xD (xj xJ (zK xa zd ya za xc L) 0 L zbe) zaS n (zaO p1 p71l p72 p73 zKH zKI zKJ zKK zKL zKS zKN zKM zKQ zKO zKP b71) K=yH xa zd ya za xc L (fun p1 p71l zKH zKI zKJ zKK zKL zKS zKN zKM zKQ zKO zKP b71=>K (.exit 4) (zjy p1 p71l zKH zKI zKJ zKK zKL zKS zKN zKM zKQ zKO zKP b71)) n p1 p71l p72 p73 zKH zKI zKJ zKK zKL zKS zKN zKM zKQ zKO zKP b71:=by
 intro n
 induction n with
 | zero=>intros; rfl
 | succ n ih =>
  intro p1 p71l p72 p73 zKH zKI zKJ zKK zKL zKS zKN zKM zKQ zKO zKP b71
  refine (zn5 xa zd ya za xc L p1 p71l p72 p73 zKH zKI zKJ zKK zKL zKS zKN zKM zKQ zKO zKP b71 (fun σ=>xD (xj xJ (zK xa zd ya za xc L) 0 L zbe) zaS n σ K) K).trans ?_
  simp only [ih]
  rfl
def z4 {β:Type} (xa:zp) (zd:yz) (ya:zm) (za:yk) (xc:zz) (L:Nat) (p1 zKH:Int) (zKI zKJ:List (List V)) (zKK zKL:Int) (zKT zKN:List (List V)) (zKM:Int) (zKQ:List (List V)) (zKO zKP:Int) (k_fin:List V→Int→Int→Option β):Option β :=
 zdi xa zd ya za xc L p1 zKH zKI zKJ zKK zKL zKT zKN zKM zKQ zKO zKP (fun p1 p71l p72 p73 zKH zKI zKJ zKK zKL zKS zKN zKM zKQ zKO zKP b71=>yH xa zd ya za xc L (fun p1 p71l zKH zKI zKJ zKK zKL zKS zKN zKM zKQ zKO zKP b71=>xW xa zd ya za xc L p1 p71l zKH zKI zKJ zKK zKL zKS zKN zKM zKQ zKO zKP b71 k_fin) L p1 p71l p72 p73 zKH zKI zKJ zKK zKL zKS zKN zKM zKQ zKO zKP b71)
theorem znR {β:Type} (xa:zp) (zd:yz) (ya:zm) (za:yk) (xc:zz) (L:Nat) (p1 zKH:Int) (zKI zKJ:List (List V)) (zKK zKL:Int) (zKT zKN:List (List V)) (zKM:Int) (zKQ:List (List V)) (zKO zKP:Int) (k:KK β):(xu 2 (zQ (xj xJ (zK xa zd ya za xc L) 0 L zfq) (zW 0 (CF.res zbF) k))) (.exit 2) (zjC p1 zKH zKI zKJ zKK zKL zKT zKN zKM zKQ zKO zKP)=z4 xa zd ya za xc L p1 zKH zKI zKJ zKK zKL zKT zKN zKM zKQ zKO zKP (fun zKX zKY zK1=>k (V.tup [(V.agg zKX),(V.sc (.int .i64 zKY)),(V.sc (.int .i64 zK1))]) []):=by
 refine (zo5 xa zd ya za xc L p1 zKH zKI zKJ zKK zKL zKT zKN zKM zKQ zKO zKP k).trans ?_
 unfold z4
 first
  | (simp only [zhp,znj]; done)
  | (simp only [zhp]; rfl)
def z9 {β:Type} (xa:zp) (zd:yz) (ya:zm) (za:yk) (xc:zz) (L:Nat) (p1 zKH:Int) (zKI zKJ:List (List V)) (zKK zKL:Int) (zKT zKN:List (List V)) (zKM:Int) (zKQ:List (List V)) (zKO zKP:Int) (k_fin:List V→Int→Int→Option β):Option β :=
 zdI xa zd ya za xc L p1 zKH zKI zKJ zKK zKL zKT zKN zKM zKQ zKO zKP (fun p1 p46 p47 zKH zKI zKJ zKK zKL zKT zKN zKM zKQ zKO zKP=>yX xa zd ya za xc L (fun p1 zKH zKI zKJ zKK zKL zKT zKN zKM zKQ zKO zKP=>z4 xa zd ya za xc L p1 zKH zKI zKJ zKK zKL zKT zKN zKM zKQ zKO zKP k_fin) L p1 p46 p47 zKH zKI zKJ zKK zKL zKT zKN zKM zKQ zKO zKP)
theorem zoB {β:Type} (xa:zp) (zd:yz) (ya:zm) (za:yk) (xc:zz) (L:Nat) (p1 zKH:Int) (zKI zKJ:List (List V)) (zKK zKL:Int) (zKT zKN:List (List V)) (zKM:Int) (zKQ:List (List V)) (zKO zKP:Int) (k:KK β):(xu 0 (zQ (xj xJ (zK xa zd ya za xc L) 0 L zfY) (zW 0 (CF.res zbF) k))) (.exit 0) (zjf p1 zKH zKI zKJ zKK zKL zKT zKN zKM zKQ zKO zKP)=z9 xa zd ya za xc L p1 zKH zKI zKJ zKK zKL zKT zKN zKM zKQ zKO zKP (fun zKX zKY zK1=>k (V.tup [(V.agg zKX),(V.sc (.int .i64 zKY)),(V.sc (.int .i64 zK1))]) []):=by
 refine (zpk xa zd ya za xc L p1 zKH zKI zKJ zKK zKL zKT zKN zKM zKQ zKO zKP k).trans ?_
 unfold z9
 first
  | (simp only [ziW,znR]; done)
  | (simp only [ziW]; rfl)
def zpO {β:Type} (xa:zp) (zd:yz) (ya:zm) (za:yk) (xc:zz) (L:Nat) (p0:List (List V)) (p1:Int) (k_fin:List V→Int→Int→Option β):Option β :=
 zuF xa zd ya za xc L p0 p1 (fun p1 p24 p25 zKH zKI zKJ zKK zKL zKT zKN zKM zKQ zKO zKP=>yV xa zd ya za xc L (fun p1 zKH zKI zKJ zKK zKL zKT zKN zKM zKQ zKO zKP=>z9 xa zd ya za xc L p1 zKH zKI zKJ zKK zKL zKT zKN zKM zKQ zKO zKP k_fin) L p1 p24 p25 zKH zKI zKJ zKK zKL zKT zKN zKM zKQ zKO zKP)
theorem zBl {β:Type} (xa:zp) (zd:yz) (ya:zm) (za:yk) (xc:zz) (L:Nat) (p0:List (List V)) (p1:Int) (k:KK β):xv xJ (zK xa zd ya za xc L) L zbF [(V.sl 1 p0),(V.sc (.int .i64 p1))] [] k=zpO xa zd ya za xc L p0 p1 (fun zKX zKY zK1=>k (V.tup [(V.agg zKX),(V.sc (.int .i64 zKY)),(V.sc (.int .i64 zK1))]) []):=by
 refine (zBZ xa zd ya za xc L p0 p1 k).trans ?_
 unfold zpO
 first
  | (simp only [zj9,zoB]; done)
  | (simp only [zj9]; rfl)
abbrev zjX:=∀ (β:Type),Nat→List (List V)→Int→(List V→Int→Int→Option β)→Option β
def zad (β:Type) (L:Nat) (p0:List (List V)) (p1:Int) (k_fin:List V→Int→Int→Option β):Option β:=zpO xa zd ya za xc L p0 p1 k_fin
def zmU (zad:zjX) (L:Nat) (β:Type) (args:List V) (bor:Bor) (k:KK β):Option β:=match args,bor with
 | [a0,a1],[]=>aL 1 a0 fun p0=>aI .i64 a1 fun p1=>zad β L p0 p1 (fun zKX zKY zK1=>k (V.tup [(V.agg zKX),(V.sc (.int .i64 zKY)),(V.sc (.int .i64 zK1))]) [])
 | _,_=>none
theorem zB5 (L:Nat) (β:Type) (args:List V) (bor:Bor) (k:KK β) (r:β) (h:zmU zad L β args bor k=some r):xv xJ (zK xa zd ya za xc L) L zbF args bor k=some r:=by
 unfold zmU at h
 split at h
 ·have q:=xU h; clear h; obtain ⟨p0,rfl,h⟩:=q
  have q:=zI h; clear h; obtain ⟨p1,rfl,h⟩:=q
  exact (zBl xa zd ya za xc L p0 p1 k).trans h
 ·cases h
def zqb:CC:=(.seq (.seq (.reg [oo 27 (.move (tq 10) false),
   oo 28 (.bin .geq (tq 27) (.const (.sc (.int .i64 0))))])
 (.cond (tq 28)
 .skip
 (.seq (.mask (bl 518 45) (bl 35184372087807 45))
 (.exit 0))))
 (.seq (.block 1 (.reg [oo 31 (.move (tq 9) false),
   oo 32 (.bin .shl (tq 31) (.const (.sc (.int .u64 8)))),
   oo 33 (.move (tq 0) false),
   oo 34 (.move (tq 1) false),
   oo 35 (.move (tq 10) false),
   oo 36 (.bin .add (tq 34) (tq 35)),
   oo 37 (.indexAddrS 1 (tq 33) (tq 36)),
   oo 38 (.load false 1 (tq 37) false),
   oo 39 (.conv .u64 (tq 38)),
   oo 40 (.bin .or (tq 32) (tq 39)),
   oo 9 (.move (tq 40) false)]))
 (.reg [oo 29 (.move (tq 10) false),
   oo 30 (.bin .sub (tq 29) (.const (.sc (.int .i64 1)))),
   oo 10 (.move (tq 30) false)])))
def ztI:CC:=(.seq (.reg [oo 41 (.move (tq 9) false),
   oo 42 (.move (tq 1) false),
   oo 43 (.move (tq 2) false),
   oo 44 (.bin .add (tq 42) (tq 43)),
   oo 6 (.move (tq 41) false),
   oo 7 (.move (tq 44) false),
   oo 8 (.move (.const (.sc (.int .i64 0))) false)])
 .ret)
def zp7:CF:=⟨45,[.tmp 6,.tmp 7,.tmp 8],
 (.seq (.reg [oo 6 (.move (.const (.sc (.int .u64 0))) false),
   oo 7 (.move (.const (.sc (.int .i64 0))) false),
   oo 8 (.move (.const (.sc (.int .i64 0))) false)])
 (.seq (.seq (.reg [oo 11 (.move (tq 1) false),
   oo 12 (.bin .lss (tq 11) (.const (.sc (.int .i64 0)))),
   oo 13 (.move (tq 12) false),
   ⟨(some 14),false,(some (13,false)),.move (tq 1) false⟩,
   ⟨(some 15),false,(some (13,false)),.move (tq 0) false⟩,
   ⟨(some 16),false,(some (13,false)),.lenS (tq 15)⟩,
   ⟨(some 17),false,(some (13,false)),.bin .gtr (tq 14) (tq 16)⟩,
   oo 18 (.pick (tq 13) (.const (.sc (.bool true))) (tq 17))])
 (.cond (tq 18)
 (.seq (.reg [oo 6 (.move (.const (.sc (.int .u64 0))) false),
   oo 7 (.move (.const (.sc (.int .i64 0))) false),
   oo 8 (.move (.const (.sc (.int .i64 5))) false)])
 .ret)
 .skip))
 (.seq (.seq (.reg [oo 19 (.move (tq 0) false),
   oo 20 (.lenS (tq 19)),
   oo 21 (.move (tq 1) false),
   oo 22 (.bin .sub (tq 20) (tq 21)),
   oo 23 (.move (tq 2) false),
   oo 24 (.bin .lss (tq 22) (tq 23))])
 (.cond (tq 24)
 (.seq (.reg [oo 6 (.move (.const (.sc (.int .u64 0))) false),
   oo 7 (.move (.const (.sc (.int .i64 0))) false),
   oo 8 (.move (.const (.sc (.int .i64 1))) false)])
 .ret)
 .skip))
 (.seq (.reg [oo 9 (.move (.const (.sc (.int .u64 0))) false)])
 (.seq (.seq (.reg [oo 25 (.move (tq 2) false),
   oo 26 (.bin .sub (tq 25) (.const (.sc (.int .i64 1)))),
   oo 10 (.move (tq 26) false)])
 (.block 0 (.loop (bl 1543 45) (bl 35184372088831 45)
 zqb)))
 ztI)))))⟩
def znN:Hint:=⟨[],[],[none,none,none,none,none,some ((bl 1543 45),(bl 35184372088831 45)),none,some ((bl 518 45),(bl 35184372087807 45)),none,none],[],[],false,false,[]⟩
def zH0:Nat→Sh:=yL [(38,(.int .u8))]
def zHI (L:Nat):CBC:=noC
def zDY:St→St:=zV 0 (bl 1543 45) (bl 35184372088831 45)
def zCr (p0:List (List V)) (p1 p2 p9 p10:Int):St:=⟨((V.sl 1 p0)::((V.sc (.int .i64 p1))::((V.sc (.int .i64 p2))::(jn 6 ((V.sc (.int .u64 p9))::((V.sc (.int .i64 p10))::(jn 34 []))))))),(gn 45 [])⟩
def zFP (p1 p2 p9:Int):St:=⟨(jn 1 ((V.sc (.int .i64 p1))::((V.sc (.int .i64 p2))::(jn 6 ((V.sc (.int .u64 p9))::(jn 35 [])))))),(gn 45 [])⟩
def zyF {β:Type} (L:Nat) (p0:List (List V)) (p1 p2:Int) (k_fin:Int→Int→Int→Option β) (k_hbbbbaba:List (List V)→Int→Int→Int→Int→Option β):Option β :=
 ifb (decide (p1 < (0:Int))) (
 k_fin (0:Int) (0:Int) (5:Int)) (
 ifb (decide (p1 > ((List.length p0:Nat):Int))) (
 k_fin (0:Int) (0:Int) (5:Int)) (
 lt (IntKind.wrap .i64 ((((List.length p0:Nat):Int):Int) - p1)) fun x0 =>
 ifb (decide (x0 < p2)) (
 k_fin (0:Int) (0:Int) (1:Int)) (
 lt (IntKind.wrap .i64 ((p2:Int) - (1:Int))) fun x1 =>
 k_hbbbbaba p0 p1 p2 (0:Int) x1)))
def zq6 {β:Type} (L:Nat) (p0:List (List V)) (p1 p2 p9 p10:Int) (k_hbbbbaba:List (List V)→Int→Int→Int→Int→Option β) (k_x0:Int→Int→Int→Option β):Option β :=
 ifb (decide (p10 ≥ (0:Int))) (
 lt (zs8 .u64 p9 (8:Int)) fun x2 =>
 lt (IntKind.wrap .i64 ((p1:Int)+p10)) fun x3 =>
 idx p0 x3 fun c4 =>
 cI .u8 c4 0 fun v5 =>
 lt (IntKind.wrap .u64 v5) fun x6 =>
 lt (ior .u64 x2 x6) fun x7 =>
 lt (IntKind.wrap .i64 ((p10:Int) - (1:Int))) fun x8 =>
 k_hbbbbaba p0 p1 p2 x7 x8) (
 k_x0 p1 p2 p9)
def zpt {β:Type} (L:Nat) (p1 p2 p9:Int) (k_fin:Int→Int→Int→Option β):Option β :=
 lt (IntKind.wrap .i64 ((p1:Int)+p2)) fun x9 =>
 k_fin p9 x9 (0:Int)
def zjS {β:Type} (L:Nat) (k_x0:Int→Int→Int→Option β):Nat→List (List V)→Int→Int→Int→Int→Option β
 | 0,_,_,_,_,_=>none
 | n+1,p0,p1,p2,p9,p10=>zq6 L p0 p1 p2 p9 p10 (fun p0 p1 p2 p9 p10=>zjS L k_x0 n p0 p1 p2 p9 p10) k_x0
def zyY {β:Type} (L:Nat) (p0:List (List V)) (p1 p2:Int) (k_fin:Int→Int→Int→Option β):Option β :=
 zyF L p0 p1 p2 k_fin (fun p0 p1 p2 p9 p10=>zjS L (fun p1 p2 p9=>zpt L p1 p2 p9 k_fin) L p0 p1 p2 p9 p10)
abbrev zcM:=∀ (β:Type),Nat→List (List V)→Int→Int→(Int→Int→Int→Option β)→Option β
def xR (β:Type) (L:Nat) (p0:List (List V)) (p1 p2:Int) (k_fin:Int→Int→Int→Option β):Option β:=zyY L p0 p1 p2 k_fin
def zlO (xR:zcM) (L:Nat) (β:Type) (args:List V) (bor:Bor) (k:KK β):Option β:=match args,bor with
 | [a0,a1,a2],[]=>aL 1 a0 fun p0=>aI .i64 a1 fun p1=>aI .i64 a2 fun p2=>xR β L p0 p1 p2 (fun zKX zKY zK1=>k (V.tup [(V.sc (.int .u64 zKX)),(V.sc (.int .i64 zKY)),(V.sc (.int .i64 zK1))]) [])
 | _,_=>none
def zt9:CF:=⟨21,[.tmp 4,.tmp 5,.tmp 6],
 (.seq (.reg [oo 4 (.move (.const (.sc (.int .u32 0))) false),
   oo 5 (.move (.const (.sc (.int .i64 0))) false),
   oo 6 (.move (.const (.sc (.int .i64 0))) false)])
 (.seq (.reg [oo 11 (.move (tq 0) false),
   oo 12 (.move (tq 1) false),
   oo 13 (.call 209 [((tq 11),0),((tq 12),0),((.const (.sc (.int .i64 4))),0)] []),
   oo 10 (.move (tq 13) true),
   oo 14 (.pull (tq 10) 0),
   oo 15 (.pull (tq 10) 1),
   oo 16 (.pull (tq 10) 2),
   oo 7 (.move (tq 14) false),
   oo 8 (.move (tq 15) false),
   oo 9 (.move (tq 16) false)])
 (.seq (.reg [oo 17 (.move (tq 7) false),
   oo 18 (.conv .u32 (tq 17)),
   oo 19 (.move (tq 8) false),
   oo 20 (.move (tq 9) false),
   oo 4 (.move (tq 18) false),
   oo 5 (.move (tq 19) false),
   oo 6 (.move (tq 20) false)])
 .ret)))⟩
def zrd:Hint:=⟨[(1,3)],[],[none],[],[],false,false,[]⟩
def zJB:Nat→Sh:=yL []
def zJA (xR:zcM) (L:Nat):CBC:=(zt 209 (zlO xR L) noC)
def zDe {β:Type} (xR:zcM) (L:Nat) (p0:List (List V)) (p1:Int) (k_fin:Int→Int→Int→Option β):Option β :=
 xR β L p0 p1 (4:Int) (fun v0 v1 v2 =>
 lt (IntKind.wrap .u32 v0) fun x3 =>
 k_fin x3 v1 v2)
abbrev zql:=∀ (β:Type),Nat→List (List V)→Int→(Int→Int→Int→Option β)→Option β
def zfe (β:Type) (L:Nat) (p0:List (List V)) (p1:Int) (k_fin:Int→Int→Int→Option β):Option β:=zDe xR L p0 p1 k_fin
def zCP (zfe:zql) (L:Nat) (β:Type) (args:List V) (bor:Bor) (k:KK β):Option β:=match args,bor with
 | [a0,a1],[]=>aL 1 a0 fun p0=>aI .i64 a1 fun p1=>zfe β L p0 p1 (fun zKX zKY zK1=>k (V.tup [(V.sc (.int .u32 zKX)),(V.sc (.int .i64 zKY)),(V.sc (.int .i64 zK1))]) [])
 | _,_=>none
def zkK:CF:=⟨33,[.tmp 2],
 (.seq (.reg [oo 2 (.move (.const (.sc (.int .u32 0))) false)])
 (.seq (.seq (.reg [oo 6 (.move (tq 0) false),
   oo 7 (.nilCheck (tq 6)),
   oo 8 (.fieldAddr 2 (tq 7)),
   oo 9 (.load false 1 (tq 8) false),
   oo 10 (.bin .neq (tq 9) (.const (.sc (.int .i64 0))))])
 (.cond (tq 10)
 (.seq (.reg [oo 2 (.move (.const (.sc (.int .u32 0))) false)])
 .ret)
 .skip))
 (.seq (.dreg [] [(oo 12 (.move (tq 0) false),q0),
   (oo 13 (.nilCheck (tq 12)),q0),
   (oo 14 (.fieldAddr 0 (tq 13)),q0),
   (oo 15 (.load false 1 (tq 14) false),ql 0 [] []),
   (oo 16 (.move (tq 0) false),q0),
   (oo 17 (.nilCheck (tq 16)),q0),
   (oo 18 (.fieldAddr 1 (tq 17)),q0),
   (oo 19 (.load false 1 (tq 18) false),ql 0 [] []),
   (oo 20 (.call 200 [((tq 15),0),((tq 19),0)] []),q0),
   (oo 11 (.move (tq 20) true),q0),
   (oo 21 (.pull (tq 11) 0),q0),
   (oo 22 (.pull (tq 11) 1),q0),
   (oo 23 (.pull (tq 11) 2),q0),
   (oo 3 (.move (tq 21) false),q0),
   (oo 4 (.move (tq 22) false),q0),
   (oo 5 (.move (tq 23) false),q0)])
 (.seq (.reg [oo 24 (.move (tq 0) false),
   oo 25 (.move (tq 0) false),
   oo 26 (.move (tq 4) false),
   oo 27 (.move (tq 5) false),
   oo 28 (.nilCheck (tq 24)),
   oo 29 (.fieldAddr 1 (tq 28)),
   oz (.store 1 (tq 29) (tq 26)),
   oo 30 (.nilCheck (tq 25)),
   oo 31 (.fieldAddr 2 (tq 30)),
   oz (.store 1 (tq 31) (tq 27))])
 (.seq (.reg [oo 32 (.move (tq 3) false),
   oo 2 (.move (tq 32) false)])
 .ret)))))⟩
def zjb:Hint:=⟨[(3,9)],[],[none,none,none],[],[],false,false,[]⟩
def zEe:Nat→Sh:=yL []
def zEk (zfe:zql) (L:Nat):CBC:=(zt 200 (zCP zfe L) noC)
def zt1 {β:Type} (zfe:zql) (L:Nat) (zKR:List (List V)) (zKU zKV:Int) (k_fin:Int→List (List V)→Int→Int→Option β):Option β :=
 ifb ((zKV:Int) != (0:Int)) (
 k_fin (0:Int) zKR zKU zKV) (
 zfe β L zKR zKU (fun v0 v1 v2 =>
 k_fin v0 zKR v1 v2))
abbrev yD:=∀ (β:Type),Nat→List (List V)→Int→Int→(Int→List (List V)→Int→Int→Option β)→Option β
def zh (β:Type) (L:Nat) (zKR:List (List V)) (zKU zKV:Int) (k_fin:Int→List (List V)→Int→Int→Option β):Option β:=zt1 zfe L zKR zKU zKV k_fin
def ztC (zh:yD) (L:Nat) (β:Type) (args:List V) (bor:Bor) (k:KK β):Option β:=match args,bor with
 | [a0],[(.live false [w0_0,w0_1,w0_2])]=>aP 0 0 a0 (aL 1 w0_0 fun zKR=>aI .i64 w0_1 fun zKU=>aI .i64 w0_2 fun zKV=>zh β L zKR zKU zKV (fun p0 zKR zKU zKV=>k (V.sc (.int .u32 p0)) [(.live false [(V.sl 1 zKR),(V.sc (.int .i64 zKU)),(V.sc (.int .i64 zKV))])]))
 | _,_=>none
def ztn:CF:=⟨68,[.tmp 6,.tmp 7,.tmp 8],
 (.seq (.reg [oo 6 (.move (.const (.sc (.int .u64 0))) false),
   oo 7 (.move (.const (.sc (.int .i64 0))) false),
   oo 8 (.move (.const (.sc (.int .i64 0))) false)])
 (.seq (.reg [oo 15 (.move (tq 0) false),
   oo 16 (.move (tq 1) false),
   oo 17 (.call 209 [((tq 15),0),((tq 16),0),((.const (.sc (.int .i64 1))),0)] []),
   oo 14 (.move (tq 17) true),
   oo 18 (.pull (tq 14) 0),
   oo 19 (.pull (tq 14) 1),
   oo 20 (.pull (tq 14) 2),
   oo 9 (.move (tq 18) false),
   oo 10 (.move (tq 19) false),
   oo 11 (.move (tq 20) false)])
 (.seq (.seq (.reg [oo 21 (.move (tq 11) false),
   oo 22 (.bin .neq (tq 21) (.const (.sc (.int .i64 0))))])
 (.cond (tq 22)
 (.seq (.reg [oo 23 (.move (tq 11) false),
   oo 6 (.move (.const (.sc (.int .u64 0))) false),
   oo 7 (.move (.const (.sc (.int .i64 0))) false),
   oo 8 (.move (tq 23) false)])
 .ret)
 .skip))
 (.seq (.reg [oo 24 (.move (tq 9) false),
   oo 12 (.move (tq 24) false)])
 (.seq (.seq (.reg [oo 25 (.move (tq 9) false),
   oo 26 (.bin .geq (tq 25) (.const (.sc (.int .u64 253))))])
 (.cond (tq 26)
 (.seq (.reg [oo 27 (.move (tq 9) false),
   oo 28 (.bin .sub (tq 27) (.const (.sc (.int .u64 253)))),
   oo 29 (.bin .shl (.const (.sc (.int .i64 2))) (tq 28)),
   oo 13 (.move (tq 29) false)])
 (.seq (.reg [oo 31 (.move (tq 0) false),
   oo 32 (.move (tq 10) false),
   oo 33 (.move (tq 13) false),
   oo 34 (.call 209 [((tq 31),0),((tq 32),0),((tq 33),0)] []),
   oo 30 (.move (tq 34) true),
   oo 35 (.pull (tq 30) 0),
   oo 36 (.pull (tq 30) 1),
   oo 37 (.pull (tq 30) 2),
   oo 12 (.move (tq 35) false),
   oo 10 (.move (tq 36) false),
   oo 11 (.move (tq 37) false)])
 (.seq (.seq (.reg [oo 38 (.move (tq 11) false),
   oo 39 (.bin .neq (tq 38) (.const (.sc (.int .i64 0))))])
 (.cond (tq 39)
 (.seq (.reg [oo 40 (.move (tq 11) false),
   oo 6 (.move (.const (.sc (.int .u64 0))) false),
   oo 7 (.move (.const (.sc (.int .i64 0))) false),
   oo 8 (.move (tq 40) false)])
 .ret)
 .skip))
 (.seq (.reg [oo 41 (.move (tq 9) false),
   oo 42 (.bin .eql (tq 41) (.const (.sc (.int .u64 253)))),
   oo 43 (.move (tq 42) false),
   ⟨(some 44),false,(some (43,true)),.move (tq 12) false⟩,
   ⟨(some 45),false,(some (43,true)),.bin .lss (tq 44) (.const (.sc (.int .u64 253)))⟩,
   oo 46 (.pick (tq 43) (tq 45) (.const (.sc (.bool false)))),
   oo 47 (.move (tq 46) false),
   ⟨(some 48),false,(some (47,false)),.move (tq 9) false⟩,
   ⟨(some 49),false,(some (47,false)),.bin .eql (tq 48) (.const (.sc (.int .u64 254)))⟩,
   ⟨(some 50),false,(some (47,false)),.move (tq 49) false⟩,
   ⟨(some 51),false,(some (50,true)),.move (tq 12) false⟩,
   ⟨(some 52),false,(some (50,true)),.bin .lss (tq 51) (.const (.sc (.int .u64 65536)))⟩,
   ⟨(some 53),false,(some (47,false)),.pick (tq 50) (tq 52) (.const (.sc (.bool false)))⟩,
   oo 54 (.pick (tq 47) (.const (.sc (.bool true))) (tq 53)),
   oo 55 (.move (tq 54) false),
   ⟨(some 56),false,(some (55,false)),.move (tq 9) false⟩,
   ⟨(some 57),false,(some (55,false)),.bin .eql (tq 56) (.const (.sc (.int .u64 255)))⟩,
   ⟨(some 58),false,(some (55,false)),.move (tq 57) false⟩,
   ⟨(some 59),false,(some (58,true)),.move (tq 12) false⟩,
   ⟨(some 60),false,(some (58,true)),.bin .lss (tq 59) (.const (.sc (.int .u64 4294967296)))⟩,
   ⟨(some 61),false,(some (55,false)),.pick (tq 58) (tq 60) (.const (.sc (.bool false)))⟩,
   oo 62 (.pick (tq 55) (.const (.sc (.bool true))) (tq 61))])
 (.cond (tq 62)
 (.seq (.reg [oo 6 (.move (.const (.sc (.int .u64 0))) false),
   oo 7 (.move (.const (.sc (.int .i64 0))) false),
   oo 8 (.move (.const (.sc (.int .i64 3))) false)])
 .ret)
 .skip)))))
 .skip))
 (.seq (.seq (.reg [oo 63 (.move (tq 12) false),
   oo 64 (.move (tq 2) false),
   oo 65 (.bin .gtr (tq 63) (tq 64))])
 (.cond (tq 65)
 (.seq (.reg [oo 6 (.move (.const (.sc (.int .u64 0))) false),
   oo 7 (.move (.const (.sc (.int .i64 0))) false),
   oo 8 (.move (.const (.sc (.int .i64 4))) false)])
 .ret)
 .skip))
 (.seq (.reg [oo 66 (.move (tq 12) false),
   oo 67 (.move (tq 10) false),
   oo 6 (.move (tq 66) false),
   oo 7 (.move (tq 67) false),
   oo 8 (.move (.const (.sc (.int .i64 0))) false)])
 .ret)))))))⟩
def zp0:Hint:=⟨[(1,3),(7,4)],[],[none,none,none,none,none,none,none,none,none,none],[],[],false,false,[]⟩
def zIU:Nat→Sh:=yL []
def zIX (xR:zcM) (L:Nat):CBC:=(zt 209 (zlO xR L) noC)
def zBA {β:Type} (xR:zcM) (L:Nat) (p0:List (List V)) (p1 p2:Int) (k_fin:Int→Int→Int→Option β):Option β :=
 xR β L p0 p1 (1:Int) (fun v0 v1 v2 =>
 ifb ((v2:Int) != (0:Int)) (
 k_fin (0:Int) (0:Int) v2) (
 ifb (decide (v0 ≥ (253:Int))) (
 lt (IntKind.wrap .u64 ((v0:Int) - (253:Int))) fun x3 =>
 chk (0≤x3) (
 lt (zs8 .i64 (2:Int) x3) fun x4 =>
 xR β L p0 v1 x4 (fun v5 v6 v7 =>
 ifb ((v7:Int) != (0:Int)) (
 k_fin (0:Int) (0:Int) v7) (
 ifb ((v0:Int) == (253:Int)) (
 ifb (decide (v5 < (253:Int))) (
 k_fin (0:Int) (0:Int) (3:Int)) (
 ifb ((v0:Int) == (254:Int)) (
 ifb (decide (v5 < (65536:Int))) (
 k_fin (0:Int) (0:Int) (3:Int)) (
 ifb ((v0:Int) == (255:Int)) (
 ifb (decide (v5 < (4294967296:Int))) (
 k_fin (0:Int) (0:Int) (3:Int)) (
 ifb (decide (v5 > p2)) (
 k_fin (0:Int) (0:Int) (4:Int)) (
 k_fin v5 v6 (0:Int)))) (
 ifb (decide (v5 > p2)) (
 k_fin (0:Int) (0:Int) (4:Int)) (
 k_fin v5 v6 (0:Int))))) (
 ifb ((v0:Int) == (255:Int)) (
 ifb (decide (v5 < (4294967296:Int))) (
 k_fin (0:Int) (0:Int) (3:Int)) (
 ifb (decide (v5 > p2)) (
 k_fin (0:Int) (0:Int) (4:Int)) (
 k_fin v5 v6 (0:Int)))) (
 ifb (decide (v5 > p2)) (
 k_fin (0:Int) (0:Int) (4:Int)) (
 k_fin v5 v6 (0:Int)))))) (
 ifb ((v0:Int) == (254:Int)) (
 ifb (decide (v5 < (65536:Int))) (
 k_fin (0:Int) (0:Int) (3:Int)) (
 ifb ((v0:Int) == (255:Int)) (
 ifb (decide (v5 < (4294967296:Int))) (
 k_fin (0:Int) (0:Int) (3:Int)) (
 ifb (decide (v5 > p2)) (
 k_fin (0:Int) (0:Int) (4:Int)) (
 k_fin v5 v6 (0:Int)))) (
 ifb (decide (v5 > p2)) (
 k_fin (0:Int) (0:Int) (4:Int)) (
 k_fin v5 v6 (0:Int))))) (
 ifb ((v0:Int) == (255:Int)) (
 ifb (decide (v5 < (4294967296:Int))) (
 k_fin (0:Int) (0:Int) (3:Int)) (
 ifb (decide (v5 > p2)) (
 k_fin (0:Int) (0:Int) (4:Int)) (
 k_fin v5 v6 (0:Int)))) (
 ifb (decide (v5 > p2)) (
 k_fin (0:Int) (0:Int) (4:Int)) (
 k_fin v5 v6 (0:Int))))))))) (
 ifb (decide (v0 > p2)) (
 k_fin (0:Int) (0:Int) (4:Int)) (
 k_fin v0 v1 (0:Int)))))
abbrev zhJ:=∀ (β:Type),Nat→List (List V)→Int→Int→(Int→Int→Int→Option β)→Option β
def za7 (β:Type) (L:Nat) (p0:List (List V)) (p1 p2:Int) (k_fin:Int→Int→Int→Option β):Option β:=zBA xR L p0 p1 p2 k_fin
def zuU (za7:zhJ) (L:Nat) (β:Type) (args:List V) (bor:Bor) (k:KK β):Option β:=match args,bor with
 | [a0,a1,a2],[]=>aL 1 a0 fun p0=>aI .i64 a1 fun p1=>aI .u64 a2 fun p2=>za7 β L p0 p1 p2 (fun zKX zKY zK1=>k (V.tup [(V.sc (.int .u64 zKX)),(V.sc (.int .i64 zKY)),(V.sc (.int .i64 zK1))]) [])
 | _,_=>none
def zkL:CF:=⟨38,[.tmp 4],
 (.seq (.reg [oo 4 (.move (.const (.sc (.int .i64 0))) false)])
 (.seq (.seq (.reg [oo 8 (.move (tq 0) false),
   oo 9 (.nilCheck (tq 8)),
   oo 10 (.fieldAddr 2 (tq 9)),
   oo 11 (.load false 1 (tq 10) false),
   oo 12 (.bin .neq (tq 11) (.const (.sc (.int .i64 0))))])
 (.cond (tq 12)
 (.seq (.reg [oo 4 (.move (.const (.sc (.int .i64 0))) false)])
 .ret)
 .skip))
 (.seq (.dreg [] [(oo 14 (.move (tq 0) false),q0),
   (oo 15 (.nilCheck (tq 14)),q0),
   (oo 16 (.fieldAddr 0 (tq 15)),q0),
   (oo 17 (.load false 1 (tq 16) false),ql 0 [] []),
   (oo 18 (.move (tq 0) false),q0),
   (oo 19 (.nilCheck (tq 18)),q0),
   (oo 20 (.fieldAddr 1 (tq 19)),q0),
   (oo 21 (.load false 1 (tq 20) false),ql 0 [] []),
   (oo 22 (.move (tq 1) false),q0),
   (oo 23 (.conv .u64 (tq 22)),q0),
   (oo 24 (.call 201 [((tq 17),0),((tq 21),0),((tq 23),0)] []),q0),
   (oo 13 (.move (tq 24) true),q0),
   (oo 25 (.pull (tq 13) 0),q0),
   (oo 26 (.pull (tq 13) 1),q0),
   (oo 27 (.pull (tq 13) 2),q0),
   (oo 5 (.move (tq 25) false),q0),
   (oo 6 (.move (tq 26) false),q0),
   (oo 7 (.move (tq 27) false),q0)])
 (.seq (.reg [oo 28 (.move (tq 0) false),
   oo 29 (.move (tq 0) false),
   oo 30 (.move (tq 6) false),
   oo 31 (.move (tq 7) false),
   oo 32 (.nilCheck (tq 28)),
   oo 33 (.fieldAddr 1 (tq 32)),
   oz (.store 1 (tq 33) (tq 30)),
   oo 34 (.nilCheck (tq 29)),
   oo 35 (.fieldAddr 2 (tq 34)),
   oz (.store 1 (tq 35) (tq 31))])
 (.seq (.reg [oo 36 (.move (tq 5) false),
   oo 37 (.conv .i64 (tq 36)),
   oo 4 (.move (tq 37) false)])
 .ret)))))⟩
def ziJ:Hint:=⟨[(3,11)],[],[none,none,none],[],[],false,false,[]⟩
def zEu:Nat→Sh:=yL []
def zEI (za7:zhJ) (L:Nat):CBC:=(zt 201 (zuU za7 L) noC)
def zt2 {β:Type} (za7:zhJ) (L:Nat) (p1:Int) (zKR:List (List V)) (zKU zKV:Int) (k_fin:Int→List (List V)→Int→Int→Option β):Option β :=
 ifb ((zKV:Int) != (0:Int)) (
 k_fin (0:Int) zKR zKU zKV) (
 lt (IntKind.wrap .u64 p1) fun x0 =>
 za7 β L zKR zKU x0 (fun v1 v2 v3 =>
 lt (IntKind.wrap .i64 v1) fun x4 =>
 k_fin x4 zKR v2 v3))
abbrev xC:=∀ (β:Type),Nat→Int→List (List V)→Int→Int→(Int→List (List V)→Int→Int→Option β)→Option β
def yh (β:Type) (L:Nat) (p1:Int) (zKR:List (List V)) (zKU zKV:Int) (k_fin:Int→List (List V)→Int→Int→Option β):Option β:=zt2 za7 L p1 zKR zKU zKV k_fin
def ztN (yh:xC) (L:Nat) (β:Type) (args:List V) (bor:Bor) (k:KK β):Option β:=match args,bor with
 | [a0,a1],[(.live false [w0_0,w0_1,w0_2])]=>aP 0 0 a0 (aI .i64 a1 fun p1=>aL 1 w0_0 fun zKR=>aI .i64 w0_1 fun zKU=>aI .i64 w0_2 fun zKV=>yh β L p1 zKR zKU zKV (fun p0 zKR zKU zKV=>k (V.sc (.int .i64 p0)) [(.live false [(V.sl 1 zKR),(V.sc (.int .i64 zKU)),(V.sc (.int .i64 zKV))])]))
 | _,_=>none
def zti:CF:=⟨31,[.cell 4 true 32,.tmp 5,.tmp 6],
 (.seq (.reg [oo 4 (.alloc true (rp 32 (.sc (.int .u8 0)) [])),
   oo 5 (.move (.const (.sc (.int .i64 0))) false),
   oo 6 (.move (.const (.sc (.int .i64 0))) false)])
 (.seq (.reg [oo 7 (.alloc true (rp 32 (.sc (.int .u8 0)) []))])
 (.seq (.seq (.reg [oo 8 (.move (tq 1) false),
   oo 9 (.bin .lss (tq 8) (.const (.sc (.int .i64 0)))),
   oo 10 (.move (tq 9) false),
   ⟨(some 11),false,(some (10,false)),.move (tq 1) false⟩,
   ⟨(some 12),false,(some (10,false)),.move (tq 0) false⟩,
   ⟨(some 13),false,(some (10,false)),.lenS (tq 12)⟩,
   ⟨(some 14),false,(some (10,false)),.bin .gtr (tq 11) (tq 13)⟩,
   oo 15 (.pick (tq 10) (.const (.sc (.bool true))) (tq 14))])
 (.cond (tq 15)
 (.seq (.reg [oo 16 (.load true 32 (tq 7) false),
   oz (.store 32 (tq 4) (tq 16)),
   oo 5 (.move (.const (.sc (.int .i64 0))) false),
   oo 6 (.move (.const (.sc (.int .i64 5))) false)])
 .ret)
 .skip))
 (.seq (.seq (.reg [oo 17 (.move (tq 0) false),
   oo 18 (.lenS (tq 17)),
   oo 19 (.move (tq 1) false),
   oo 20 (.bin .sub (tq 18) (tq 19)),
   oo 21 (.bin .lss (tq 20) (.const (.sc (.int .i64 32))))])
 (.cond (tq 21)
 (.seq (.reg [oo 22 (.load true 32 (tq 7) false),
   oz (.store 32 (tq 4) (tq 22)),
   oo 5 (.move (.const (.sc (.int .i64 0))) false),
   oo 6 (.move (.const (.sc (.int .i64 1))) false)])
 .ret)
 .skip))
 (.seq (.dreg [] [(oo 23 (.sliceA 32 1 (tq 7) none none none),q1),
   (oo 24 (.move (tq 0) true),q1),
   (oo 25 (.move (tq 1) false),q0),
   (oo 26 (.sliceS 1 (tq 24) (some (tq 25)) none none),q0),
   (oo 27 (.copy 1 (tq 23) (tq 26)),q0)])
 (.seq (.reg [oo 28 (.load true 32 (tq 7) false),
   oo 29 (.move (tq 1) false),
   oo 30 (.bin .add (tq 29) (.const (.sc (.int .i64 32)))),
   oz (.store 32 (tq 4) (tq 28)),
   oo 5 (.move (tq 30) false),
   oo 6 (.move (.const (.sc (.int .i64 0))) false)])
 .ret))))))⟩
def zp5:Hint:=⟨[(6,1)],[],[none,none,none,none,none],[],[],false,false,[]⟩
def zIV:Nat→Sh:=yL []
def zI1 (L:Nat):CBC:=noC
def zBi {β:Type} (L:Nat) (p0:List (List V)) (p1:Int) (k_fin:List V→Int→Int→Option β):Option β :=
 ifb (decide (p1 < (0:Int))) (
 lt (List.replicate 32 (V.sc (.int .u8 (0:Int)))) fun r0 =>
 chk (0=0∧(List.length r0)=32∧32≠0) (
 k_fin r0 (0:Int) (5:Int))) (
 ifb (decide (p1 > ((List.length p0:Nat):Int))) (
 lt (List.replicate 32 (V.sc (.int .u8 (0:Int)))) fun r1 =>
 chk (0=0∧(List.length r1)=32∧32≠0) (
 k_fin r1 (0:Int) (5:Int))) (
 lt (IntKind.wrap .i64 ((((List.length p0:Nat):Int):Int) - p1)) fun x2 =>
 ifb (decide (x2 < (32:Int))) (
 lt (List.replicate 32 (V.sc (.int .u8 (0:Int)))) fun r3 =>
 chk (0=0∧(List.length r3)=32∧32≠0) (
 k_fin r3 (0:Int) (1:Int))) (
 chk (0≤p1∧p1≤(((List.length p0):Nat):Int)) (
 lt (zl (List.replicate 32 (V.sc (.int .u8 (0:Int)))) 0 (List.flatten (List.take (min (List.length (List.take ((List.length p0) - (Int.toNat p1)) (List.drop (Int.toNat p1) p0))) 32) (List.take ((List.length p0) - (Int.toNat p1)) (List.drop (Int.toNat p1) p0))))) fun r4 =>
 chk (0+32≤(List.length r4)) (
 lt (IntKind.wrap .i64 ((p1:Int)+(32:Int))) fun x5 =>
 chk ((List.length (List.take 32 r4))=32∧0+32≤32) (
 lt (zl (List.replicate 32 (V.sc (.int .u8 (0:Int)))) 0 (List.take 32 r4)) fun r6 =>
 chk (0=0∧(List.length r6)=32∧32≠0) (
 k_fin r6 x5 (0:Int))))))))
abbrev zou:=∀ (β:Type),Nat→List (List V)→Int→(List V→Int→Int→Option β)→Option β
def zed (β:Type) (L:Nat) (p0:List (List V)) (p1:Int) (k_fin:List V→Int→Int→Option β):Option β:=zBi L p0 p1 k_fin
def zBg (zed:zou) (L:Nat) (β:Type) (args:List V) (bor:Bor) (k:KK β):Option β:=match args,bor with
 | [a0,a1],[]=>aL 1 a0 fun p0=>aI .i64 a1 fun p1=>zed β L p0 p1 (fun zKX zKY zK1=>k (V.tup [(V.agg zKX),(V.sc (.int .i64 zKY)),(V.sc (.int .i64 zK1))]) [])
 | _,_=>none
def zlb:CF:=⟨34,[.cell 2 true 32],
 (.seq (.reg [oo 2 (.alloc true (rp 32 (.sc (.int .u8 0)) []))])
 (.seq (.seq (.reg [oo 6 (.move (tq 0) false),
   oo 7 (.nilCheck (tq 6)),
   oo 8 (.fieldAddr 2 (tq 7)),
   oo 9 (.load false 1 (tq 8) false),
   oo 10 (.bin .neq (tq 9) (.const (.sc (.int .i64 0))))])
 (.cond (tq 10)
 (.seq (.reg [oo 11 (.build (rp 32 (.sc (.int .u8 0)) []) []),
   oz (.store 32 (tq 2) (tq 11))])
 .ret)
 .skip))
 (.seq (.dreg [] [(oo 13 (.move (tq 0) false),q0),
   (oo 14 (.nilCheck (tq 13)),q0),
   (oo 15 (.fieldAddr 0 (tq 14)),q0),
   (oo 16 (.load false 1 (tq 15) false),ql 0 [] [3]),
   (oo 17 (.move (tq 0) false),q0),
   (oo 18 (.nilCheck (tq 17)),q0),
   (oo 19 (.fieldAddr 1 (tq 18)),q0),
   (oo 20 (.load false 1 (tq 19) false),ql 0 [] [3]),
   (oo 21 (.call 202 [((tq 16),0),((tq 20),0)] []),qc [] [3]),
   (oo 12 (.move (tq 21) true),qc [] [3]),
   (oo 22 (.pull (tq 12) 0),q0),
   (oo 23 (.pull (tq 12) 1),q0),
   (oo 24 (.pull (tq 12) 2),q0),
   (oo 3 (.alloc true (rp 32 (.sc (.int .u8 0)) [])),qn [0] []),
   (oz (.store 32 (tq 3) (tq 22)),q0),
   (oo 4 (.move (tq 23) false),q0),
   (oo 5 (.move (tq 24) false),q0)])
 (.seq (.reg [oo 25 (.move (tq 0) false),
   oo 26 (.move (tq 0) false),
   oo 27 (.move (tq 4) false),
   oo 28 (.move (tq 5) false),
   oo 29 (.nilCheck (tq 25)),
   oo 30 (.fieldAddr 1 (tq 29)),
   oz (.store 1 (tq 30) (tq 27)),
   oo 31 (.nilCheck (tq 26)),
   oo 32 (.fieldAddr 2 (tq 31)),
   oz (.store 1 (tq 32) (tq 28))])
 (.seq (.reg [oo 33 (.load true 32 (tq 3) false),
   oz (.store 32 (tq 2) (tq 33))])
 .ret)))))⟩
def zi0:Hint:=⟨[(3,9)],[],[none,none,none],[],[],false,false,[]⟩
def zEp:Nat→Sh:=yL []
def zEc (zed:zou) (L:Nat):CBC:=(zt 202 (zBg zed L) noC)
def ztW {β:Type} (zed:zou) (L:Nat) (zKR:List (List V)) (zKU zKV:Int) (k_fin:List V→List (List V)→Int→Int→Option β):Option β :=
 ifb ((zKV:Int) != (0:Int)) (
 lt (List.replicate 32 (V.sc (.int .u8 (0:Int)))) fun r0 =>
 chk (0=0∧(List.length r0)=32∧32≠0) (
 k_fin r0 zKR zKU zKV)) (
 zed β L zKR zKU (fun v1 v2 v3 =>
 chk ((List.length v1)=32∧0+32≤32) (
 lt (zl (List.replicate 32 (V.sc (.int .u8 (0:Int)))) 0 v1) fun r4 =>
 chk (0+32≤(List.length r4)) (
 chk ((List.length (List.take 32 r4))=32∧0+32≤32) (
 lt (zl (List.replicate 32 (V.sc (.int .u8 (0:Int)))) 0 (List.take 32 r4)) fun r5 =>
 chk (0=0∧(List.length r5)=32∧32≠0) (
 k_fin r5 zKR v2 v3))))))
abbrev zD:=∀ (β:Type),Nat→List (List V)→Int→Int→(List V→List (List V)→Int→Int→Option β)→Option β
def zi (β:Type) (L:Nat) (zKR:List (List V)) (zKU zKV:Int) (k_fin:List V→List (List V)→Int→Int→Option β):Option β:=ztW zed L zKR zKU zKV k_fin
def ztX (zi:zD) (L:Nat) (β:Type) (args:List V) (bor:Bor) (k:KK β):Option β:=match args,bor with
 | [a0],[(.live false [w0_0,w0_1,w0_2])]=>aP 0 0 a0 (aL 1 w0_0 fun zKR=>aI .i64 w0_1 fun zKU=>aI .i64 w0_2 fun zKV=>zi β L zKR zKU zKV (fun p0 zKR zKU zKV=>k (V.agg p0) [(.live false [(V.sl 1 zKR),(V.sc (.int .i64 zKU)),(V.sc (.int .i64 zKV))])]))
 | _,_=>none
def zuQ:CF:=⟨13,[.tmp 4,.tmp 5,.tmp 6],
 (.seq (.reg [oo 4 (.move (.const (.sc (.int .u64 0))) false),
   oo 5 (.move (.const (.sc (.int .i64 0))) false),
   oo 6 (.move (.const (.sc (.int .i64 0))) false)])
 (.seq (.reg [oo 7 (.move (tq 0) false),
   oo 8 (.move (tq 1) false),
   oo 9 (.call 209 [((tq 7),0),((tq 8),0),((.const (.sc (.int .i64 8))),0)] []),
   oo 10 (.pull (tq 9) 0),
   oo 11 (.pull (tq 9) 1),
   oo 12 (.pull (tq 9) 2),
   oo 4 (.move (tq 10) false),
   oo 5 (.move (tq 11) false),
   oo 6 (.move (tq 12) false)])
 .ret))⟩
def zrC:Hint:=⟨[],[],[none],[],[],false,false,[]⟩
def zJt:Nat→Sh:=yL []
def zJq (xR:zcM) (L:Nat):CBC:=(zt 209 (zlO xR L) noC)
def zC8 {β:Type} (xR:zcM) (L:Nat) (p0:List (List V)) (p1:Int) (k_fin:Int→Int→Int→Option β):Option β :=
 xR β L p0 p1 (8:Int) (fun v0 v1 v2 =>
 k_fin v0 v1 v2)
abbrev zqJ:=∀ (β:Type),Nat→List (List V)→Int→(Int→Int→Int→Option β)→Option β
def zfc (β:Type) (L:Nat) (p0:List (List V)) (p1:Int) (k_fin:Int→Int→Int→Option β):Option β:=zC8 xR L p0 p1 k_fin
def zDh (zfc:zqJ) (L:Nat) (β:Type) (args:List V) (bor:Bor) (k:KK β):Option β:=match args,bor with
 | [a0,a1],[]=>aL 1 a0 fun p0=>aI .i64 a1 fun p1=>zfc β L p0 p1 (fun zKX zKY zK1=>k (V.tup [(V.sc (.int .u64 zKX)),(V.sc (.int .i64 zKY)),(V.sc (.int .i64 zK1))]) [])
 | _,_=>none
def zkr:CF:=⟨33,[.tmp 2],
 (.seq (.reg [oo 2 (.move (.const (.sc (.int .u64 0))) false)])
 (.seq (.seq (.reg [oo 6 (.move (tq 0) false),
   oo 7 (.nilCheck (tq 6)),
   oo 8 (.fieldAddr 2 (tq 7)),
   oo 9 (.load false 1 (tq 8) false),
   oo 10 (.bin .neq (tq 9) (.const (.sc (.int .i64 0))))])
 (.cond (tq 10)
 (.seq (.reg [oo 2 (.move (.const (.sc (.int .u64 0))) false)])
 .ret)
 .skip))
 (.seq (.dreg [] [(oo 12 (.move (tq 0) false),q0),
   (oo 13 (.nilCheck (tq 12)),q0),
   (oo 14 (.fieldAddr 0 (tq 13)),q0),
   (oo 15 (.load false 1 (tq 14) false),ql 0 [] []),
   (oo 16 (.move (tq 0) false),q0),
   (oo 17 (.nilCheck (tq 16)),q0),
   (oo 18 (.fieldAddr 1 (tq 17)),q0),
   (oo 19 (.load false 1 (tq 18) false),ql 0 [] []),
   (oo 20 (.call 210 [((tq 15),0),((tq 19),0)] []),q0),
   (oo 11 (.move (tq 20) true),q0),
   (oo 21 (.pull (tq 11) 0),q0),
   (oo 22 (.pull (tq 11) 1),q0),
   (oo 23 (.pull (tq 11) 2),q0),
   (oo 3 (.move (tq 21) false),q0),
   (oo 4 (.move (tq 22) false),q0),
   (oo 5 (.move (tq 23) false),q0)])
 (.seq (.reg [oo 24 (.move (tq 0) false),
   oo 25 (.move (tq 0) false),
   oo 26 (.move (tq 4) false),
   oo 27 (.move (tq 5) false),
   oo 28 (.nilCheck (tq 24)),
   oo 29 (.fieldAddr 1 (tq 28)),
   oz (.store 1 (tq 29) (tq 26)),
   oo 30 (.nilCheck (tq 25)),
   oo 31 (.fieldAddr 2 (tq 30)),
   oz (.store 1 (tq 31) (tq 27))])
 (.seq (.reg [oo 32 (.move (tq 3) false),
   oo 2 (.move (tq 32) false)])
 .ret)))))⟩
def ziI:Hint:=⟨[(3,9)],[],[none,none,none],[],[],false,false,[]⟩
def zEH:Nat→Sh:=yL []
def zEr (zfc:zqJ) (L:Nat):CBC:=(zt 210 (zDh zfc L) noC)
def ztU {β:Type} (zfc:zqJ) (L:Nat) (zKR:List (List V)) (zKU zKV:Int) (k_fin:Int→List (List V)→Int→Int→Option β):Option β :=
 ifb ((zKV:Int) != (0:Int)) (
 k_fin (0:Int) zKR zKU zKV) (
 zfc β L zKR zKU (fun v0 v1 v2 =>
 k_fin v0 zKR v1 v2))
abbrev zgH:=∀ (β:Type),Nat→List (List V)→Int→Int→(Int→List (List V)→Int→Int→Option β)→Option β
def zbj (β:Type) (L:Nat) (zKR:List (List V)) (zKU zKV:Int) (k_fin:Int→List (List V)→Int→Int→Option β):Option β:=ztU zfc L zKR zKU zKV k_fin
def ztL (zbj:zgH) (L:Nat) (β:Type) (args:List V) (bor:Bor) (k:KK β):Option β:=match args,bor with
 | [a0],[(.live false [w0_0,w0_1,w0_2])]=>aP 0 0 a0 (aL 1 w0_0 fun zKR=>aI .i64 w0_1 fun zKU=>aI .i64 w0_2 fun zKV=>zbj β L zKR zKU zKV (fun p0 zKR zKU zKV=>k (V.sc (.int .u64 p0)) [(.live false [(V.sl 1 zKR),(V.sc (.int .i64 zKU)),(V.sc (.int .i64 zKV))])]))
 | _,_=>none
def zpM:CF:=⟨17,[.tmp 4],
 (.seq (.reg [oo 4 (.move (.const (.gs 1 [])) true)])
 (.seq (.reg [oo 6 (.move (tq 0) false),
   oo 7 (.lenS (tq 6)),
   oo 8 (.move (tq 1) false),
   oo 9 (.lenS (tq 8)),
   oo 10 (.bin .add (tq 7) (tq 9)),
   oo 11 (.makeSlice 1 1 [(.sc (.int .u8 0))] (.const (.sc (.int .i64 0))) (tq 10)),
   oo 5 (.move (tq 11) true)])
 (.seq (.reg [oo 12 (.move (tq 5) true),
   oo 13 (.move (tq 0) false),
   oo 14 (.append 1 1 (tq 12) (tq 13)),
   oo 15 (.move (tq 1) false),
   oo 16 (.append 1 1 (tq 14) (tq 15)),
   oo 4 (.move (tq 16) true)])
 .ret)))⟩
def znD:Hint:=⟨[(0,0),(1,6),(2,0),(2,5)],[],[none],[],[],false,false,[]⟩
def zHF:Nat→Sh:=yL []
def zHM (L:Nat):CBC:=noC
def zzc {β:Type} (L:Nat) (p0 p1:List (List V)) (k_fin:List (List V)→Option β):Option β :=
 lt (IntKind.wrap .i64 ((((List.length p0:Nat):Int):Int)+((List.length p1:Nat):Int))) fun x0 =>
 chk (0≤(0:Int)∧(0:Int)≤x0∧(Int.toNat x0) * 1≤zk∧x0≤zk) (
 chk ((List.length (List.replicate 0 [(V.sc (.int .u8 (0:Int)))])+List.length p0) * 1≤zk∧List.length (List.replicate 0 [(V.sc (.int .u8 (0:Int)))])+List.length p0≤zk) (
 lt ((List.replicate 0 [(V.sc (.int .u8 (0:Int)))])++p0) fun l1 =>
 chk ((List.length l1+List.length p1) * 1≤zk∧List.length l1+List.length p1≤zk) (
 lt (l1++p1) fun l2 =>
 k_fin l2)))
abbrev zam:=∀ (β:Type),Nat→List (List V)→List (List V)→(List (List V)→Option β)→Option β
def xq (β:Type) (L:Nat) (p0 p1:List (List V)) (k_fin:List (List V)→Option β):Option β:=zzc L p0 p1 k_fin
def zdW (xq:zam) (L:Nat) (β:Type) (args:List V) (bor:Bor) (k:KK β):Option β:=match args,bor with
 | [a0,a1],[]=>aL 1 a0 fun p0=>aL 1 a1 fun p1=>xq β L p0 p1 (fun p0=>k (V.gs 1 p0) [])
 | _,_=>none
def zrF:CF:=⟨45,[.tmp 6,.tmp 7,.tmp 8],
 (.seq (.reg [oo 6 (.move (.const (.gs 1 [])) true),
   oo 7 (.move (.const (.sc (.int .i64 0))) false),
   oo 8 (.move (.const (.sc (.int .i64 0))) false)])
 (.seq (.seq (.reg [oo 12 (.move (tq 2) false),
   oo 13 (.bin .lss (tq 12) (.const (.sc (.int .i64 0))))])
 (.cond (tq 13)
 (.seq (.reg [oo 6 (.move (.const (.gs 1 [])) true),
   oo 7 (.move (.const (.sc (.int .i64 0))) false),
   oo 8 (.move (.const (.sc (.int .i64 5))) false)])
 .ret)
 .skip))
 (.seq (.reg [oo 15 (.move (tq 0) false),
   oo 16 (.move (tq 1) false),
   oo 17 (.move (tq 2) false),
   oo 18 (.conv .u64 (tq 17)),
   oo 19 (.call 201 [((tq 15),0),((tq 16),0),((tq 18),0)] []),
   oo 14 (.move (tq 19) true),
   oo 20 (.pull (tq 14) 0),
   oo 21 (.pull (tq 14) 1),
   oo 22 (.pull (tq 14) 2),
   oo 9 (.move (tq 20) false),
   oo 10 (.move (tq 21) false),
   oo 11 (.move (tq 22) false)])
 (.seq (.seq (.reg [oo 23 (.move (tq 11) false),
   oo 24 (.bin .neq (tq 23) (.const (.sc (.int .i64 0))))])
 (.cond (tq 24)
 (.seq (.reg [oo 25 (.move (tq 11) false),
   oo 6 (.move (.const (.gs 1 [])) true),
   oo 7 (.move (.const (.sc (.int .i64 0))) false),
   oo 8 (.move (tq 25) false)])
 .ret)
 .skip))
 (.seq (.seq (.reg [oo 26 (.move (tq 0) false),
   oo 27 (.lenS (tq 26)),
   oo 28 (.move (tq 10) false),
   oo 29 (.bin .sub (tq 27) (tq 28)),
   oo 30 (.conv .u64 (tq 29)),
   oo 31 (.move (tq 9) false),
   oo 32 (.bin .lss (tq 30) (tq 31))])
 (.cond (tq 32)
 (.seq (.reg [oo 6 (.move (.const (.gs 1 [])) true),
   oo 7 (.move (.const (.sc (.int .i64 0))) false),
   oo 8 (.move (.const (.sc (.int .i64 1))) false)])
 .ret)
 .skip))
 (.seq (.reg [oo 33 (.move (tq 0) true),
   oo 34 (.move (tq 10) false),
   oo 35 (.move (tq 10) false),
   oo 36 (.move (tq 9) false),
   oo 37 (.conv .i64 (tq 36)),
   oo 38 (.bin .add (tq 35) (tq 37)),
   oo 39 (.sliceS 1 (tq 33) (some (tq 34)) (some (tq 38)) none),
   oo 40 (.call 193 [((.const (.gs 1 [])),0),((tq 39),0)] []),
   oo 41 (.move (tq 10) false),
   oo 42 (.move (tq 9) false),
   oo 43 (.conv .i64 (tq 42)),
   oo 44 (.bin .add (tq 41) (tq 43)),
   oo 6 (.move (tq 40) true),
   oo 7 (.move (tq 44) false),
   oo 8 (.move (.const (.sc (.int .i64 0))) false)])
 .ret))))))⟩
def zpd:Hint:=⟨[(0,0),(2,0),(3,5),(5,1),(7,0),(8,0),(8,12)],[],[none,none,none,none,none,none,none],[],[],false,false,[]⟩
def zIH:Nat→Sh:=yL []
def zIC (za7:zhJ) (xq:zam) (L:Nat):CBC:=(zt 193 (zdW xq L) (zt 201 (zuU za7 L) noC))
def zAH {β:Type} (za7:zhJ) (xq:zam) (L:Nat) (p0:List (List V)) (p1 p2:Int) (k_fin:List (List V)→Int→Int→Option β):Option β :=
 ifb (decide (p2 < (0:Int))) (
 k_fin ([]:List (List V)) (0:Int) (5:Int)) (
 lt (IntKind.wrap .u64 p2) fun x0 =>
 za7 β L p0 p1 x0 (fun v1 v2 v3 =>
 ifb ((v3:Int) != (0:Int)) (
 k_fin ([]:List (List V)) (0:Int) v3) (
 lt (IntKind.wrap .i64 ((((List.length p0:Nat):Int):Int) - v2)) fun x4 =>
 lt (IntKind.wrap .u64 x4) fun x5 =>
 ifb (decide (x5 < v1)) (
 k_fin ([]:List (List V)) (0:Int) (1:Int)) (
 lt (IntKind.wrap .i64 v1) fun x6 =>
 lt (IntKind.wrap .i64 ((v2:Int)+x6)) fun x7 =>
 chk (0≤x7∧x7≤(((List.length p0):Nat):Int)) (
 chk (0≤v2∧v2≤(((Int.toNat x7):Nat):Int)) (
 xq β L ([]:List (List V)) (List.take ((Int.toNat x7) - (Int.toNat v2)) (List.drop (Int.toNat v2) p0)) (fun v8 =>
 lt (IntKind.wrap .i64 v1) fun x9 =>
 lt (IntKind.wrap .i64 ((v2:Int)+x9)) fun x10 =>
 k_fin v8 x10 (0:Int))))))))
abbrev znx:=∀ (β:Type),Nat→List (List V)→Int→Int→(List (List V)→Int→Int→Option β)→Option β
def zdr (β:Type) (L:Nat) (p0:List (List V)) (p1 p2:Int) (k_fin:List (List V)→Int→Int→Option β):Option β:=zAH za7 xq L p0 p1 p2 k_fin
def zAC (zdr:znx) (L:Nat) (β:Type) (args:List V) (bor:Bor) (k:KK β):Option β:=match args,bor with
 | [a0,a1,a2],[]=>aL 1 a0 fun p0=>aI .i64 a1 fun p1=>aI .i64 a2 fun p2=>zdr β L p0 p1 p2 (fun zKX zKY zK1=>k (V.tup [(V.gs 1 zKX),(V.sc (.int .i64 zKY)),(V.sc (.int .i64 zK1))]) [])
 | _,_=>none
def zkh:CF:=⟨36,[.tmp 4],
 (.seq (.reg [oo 4 (.move (.const (.gs 1 [])) true)])
 (.seq (.seq (.reg [oo 8 (.move (tq 0) false),
   oo 9 (.nilCheck (tq 8)),
   oo 10 (.fieldAddr 2 (tq 9)),
   oo 11 (.load false 1 (tq 10) false),
   oo 12 (.bin .neq (tq 11) (.const (.sc (.int .i64 0))))])
 (.cond (tq 12)
 (.seq (.reg [oo 4 (.move (.const (.gs 1 [])) true)])
 .ret)
 .skip))
 (.seq (.dreg [] [(oo 14 (.move (tq 0) false),q0),
   (oo 15 (.nilCheck (tq 14)),q0),
   (oo 16 (.fieldAddr 0 (tq 15)),q0),
   (oo 17 (.load false 1 (tq 16) false),ql 0 [] []),
   (oo 18 (.move (tq 0) false),q0),
   (oo 19 (.nilCheck (tq 18)),q0),
   (oo 20 (.fieldAddr 1 (tq 19)),q0),
   (oo 21 (.load false 1 (tq 20) false),ql 0 [] []),
   (oo 22 (.move (tq 1) false),q0),
   (oo 23 (.call 204 [((tq 17),0),((tq 21),0),((tq 22),0)] []),q0),
   (oo 13 (.move (tq 23) true),q0),
   (oo 24 (.pull (tq 13) 0),q0),
   (oo 25 (.pull (tq 13) 1),q0),
   (oo 26 (.pull (tq 13) 2),q0),
   (oo 5 (.move (tq 24) true),q0),
   (oo 6 (.move (tq 25) false),q0),
   (oo 7 (.move (tq 26) false),q0)])
 (.seq (.reg [oo 27 (.move (tq 0) false),
   oo 28 (.move (tq 0) false),
   oo 29 (.move (tq 6) false),
   oo 30 (.move (tq 7) false),
   oo 31 (.nilCheck (tq 27)),
   oo 32 (.fieldAddr 1 (tq 31)),
   oz (.store 1 (tq 32) (tq 29)),
   oo 33 (.nilCheck (tq 28)),
   oo 34 (.fieldAddr 2 (tq 33)),
   oz (.store 1 (tq 34) (tq 30))])
 (.seq (.reg [oo 35 (.move (tq 5) true),
   oo 4 (.move (tq 35) true)])
 .ret)))))⟩
def zif:Hint:=⟨[(0,0),(2,0),(3,10),(3,14),(5,0),(5,1)],[],[none,none,none],[],[],false,false,[]⟩
def zDN:Nat→Sh:=yL []
def zDH (zdr:znx) (L:Nat):CBC:=(zt 204 (zAC zdr L) noC)
def zsn {β:Type} (zdr:znx) (L:Nat) (p1:Int) (zKR:List (List V)) (zKU zKV:Int) (k_fin:List (List V)→List (List V)→Int→Int→Option β) (k_finv1:List (List V)→List (List V)→Int→Int→Option β):Option β :=
 ifb ((zKV:Int) != (0:Int)) (
 k_fin ([]:List (List V)) zKR zKU zKV) (
 zdr β L zKR zKU p1 (fun v0 v1 v2 =>
 k_finv1 v0 zKR v1 v2))
abbrev yw:=∀ (β:Type),Nat→Int→List (List V)→Int→Int→(List (List V)→List (List V)→Int→Int→Option β)→(List (List V)→List (List V)→Int→Int→Option β)→Option β
def yf (β:Type) (L:Nat) (p1:Int) (zKR:List (List V)) (zKU zKV:Int) (k_fin:List (List V)→List (List V)→Int→Int→Option β) (k_finv1:List (List V)→List (List V)→Int→Int→Option β):Option β:=zsn zdr L p1 zKR zKU zKV k_fin k_finv1
def zle (yf:yw) (L:Nat) (β:Type) (args:List V) (bor:Bor) (k:KK β):Option β:=match args,bor with
 | [a0,a1],[(.live false [w0_0,w0_1,w0_2])]=>aP 0 0 a0 (aI .i64 a1 fun p1=>aL 1 w0_0 fun zKR=>aI .i64 w0_1 fun zKU=>aI .i64 w0_2 fun zKV=>yf β L p1 zKR zKU zKV (fun p0 zKR zKU zKV=>k (V.gs 1 p0) [(.live false [(V.sl 1 zKR),(V.sc (.int .i64 zKU)),(V.sc (.int .i64 zKV))])]) (fun p0 zKR zKU zKV=>k (V.sl 1 p0) [(.live false [(V.sl 1 zKR),(V.sc (.int .i64 zKU)),(V.sc (.int .i64 zKV))])]))
 | _,_=>none
def zi1:CF:=⟨23,[.cell 2 true 2],
 (.seq (.reg [oo 2 (.alloc true [(.sc (.int .i64 0)),(.gs 1 [])])])
 (.seq (.reg [oo 4 (.move (tq 0) false),
   oo 5 (.call 203 [((tq 4),0)] []),
   oo 3 (.move (tq 5) false)])
 (.seq (.seq (.reg [oo 6 (.move (tq 0) false),
   oo 7 (.nilCheck (tq 6)),
   oo 8 (.fieldAddr 2 (tq 7)),
   oo 9 (.load false 1 (tq 8) false),
   oo 10 (.bin .eql (tq 9) (.const (.sc (.int .i64 0)))),
   oo 11 (.move (tq 10) false),
   ⟨(some 12),false,(some (11,true)),.move (tq 3) false⟩,
   ⟨(some 13),false,(some (11,true)),.bin .geq (tq 12) (.const (.sc (.int .u64 9223372036854775808)))⟩,
   oo 14 (.pick (tq 11) (tq 13) (.const (.sc (.bool false))))])
 (.cond (tq 14)
 (.reg [oo 15 (.move (tq 0) false),
   oo 16 (.nilCheck (tq 15)),
   oo 17 (.fieldAddr 2 (tq 16)),
   oz (.store 1 (tq 17) (.const (.sc (.int .i64 90))))])
 .skip))
 (.seq (.reg [oo 18 (.move (tq 3) false),
   oo 19 (.conv .i64 (tq 18)),
   oo 20 (.move (tq 0) false),
   oo 21 (.call 178 [((tq 20),0),((.const (.sc (.int .i64 520))),0)] []),
   oo 22 (.build [(.sc (.int .i64 0)),(.sl 1 [])] [(0,1,(tq 19)),(1,1,(tq 21))]),
   oz (.store 2 (tq 2) (tq 22))])
 .ret))))⟩
def zho:Hint:=⟨[(0,0)],[],[none,none],[],[],false,false,[]⟩
def zDj:Nat→Sh:=yL []
def zC1 (zbj:zgH) (yf:yw) (L:Nat):CBC:=(zt 178 (zle yf L) (zt 203 (ztL zbj L) noC))
def zrB {β:Type} (zbj:zgH) (yf:yw) (L:Nat) (zKR:List (List V)) (zKU zKV:Int) (k_fin:List V→List (List V)→Int→Int→Option β):Option β :=
 zbj β L zKR zKU zKV (fun v0 v1 v2 v3 =>
 ifb ((v3:Int) == (0:Int)) (
 ifb (decide (v0 ≥ (9223372036854775808:Int))) (
 lt (IntKind.wrap .i64 v0) fun x4 =>
 yf β L (520:Int) v1 v2 (90:Int) (fun v5 v6 v7 v8 =>
 lt [(V.sc (.int .i64 x4)),(V.sl 1 v5)] fun r9 =>
 chk (0=0∧(List.length r9)=2∧2≠0) (
 k_fin r9 v6 v7 v8)) (fun v10 v11 v12 v13 =>
 lt [(V.sc (.int .i64 x4)),(V.sl 1 v10)] fun r14 =>
 chk (0=0∧(List.length r14)=2∧2≠0) (
 k_fin r14 v11 v12 v13))) (
 lt (IntKind.wrap .i64 v0) fun x15 =>
 yf β L (520:Int) v1 v2 v3 (fun v16 v17 v18 v19 =>
 lt [(V.sc (.int .i64 x15)),(V.sl 1 v16)] fun r20 =>
 chk (0=0∧(List.length r20)=2∧2≠0) (
 k_fin r20 v17 v18 v19)) (fun v21 v22 v23 v24 =>
 lt [(V.sc (.int .i64 x15)),(V.sl 1 v21)] fun r25 =>
 chk (0=0∧(List.length r25)=2∧2≠0) (
 k_fin r25 v22 v23 v24)))) (
 lt (IntKind.wrap .i64 v0) fun x26 =>
 yf β L (520:Int) v1 v2 v3 (fun v27 v28 v29 v30 =>
 lt [(V.sc (.int .i64 x26)),(V.sl 1 v27)] fun r31 =>
 chk (0=0∧(List.length r31)=2∧2≠0) (
 k_fin r31 v28 v29 v30)) (fun v32 v33 v34 v35 =>
 lt [(V.sc (.int .i64 x26)),(V.sl 1 v32)] fun r36 =>
 chk (0=0∧(List.length r36)=2∧2≠0) (
 k_fin r36 v33 v34 v35))))
abbrev zy:=∀ (β:Type),Nat→List (List V)→Int→Int→(List V→List (List V)→Int→Int→Option β)→Option β
def yg (β:Type) (L:Nat) (zKR:List (List V)) (zKU zKV:Int) (k_fin:List V→List (List V)→Int→Int→Option β):Option β:=zrB zbj yf L zKR zKU zKV k_fin
def zq5 (yg:zy) (L:Nat) (β:Type) (args:List V) (bor:Bor) (k:KK β):Option β:=match args,bor with
 | [a0],[(.live false [w0_0,w0_1,w0_2])]=>aP 0 0 a0 (aL 1 w0_0 fun zKR=>aI .i64 w0_1 fun zKU=>aI .i64 w0_2 fun zKV=>yg β L zKR zKU zKV (fun p0 zKR zKU zKV=>k (V.agg p0) [(.live false [(V.sl 1 zKR),(V.sc (.int .i64 zKU)),(V.sc (.int .i64 zKV))])]))
 | _,_=>none
end
end Go.Proofs.Ytoeobffjdbdpgaa
