/- Part 10 of the proof of TxSpoilt: an abstract machine over plain values, its soundness, and the functions of the program on plain values. -/
import Derived.Test.YtoeobffjdbdpgaaMTxSpoilt9
namespace Go.Proofs.Ytoeobffjdbdpgaa
set_option linter.unusedVariables false
set_option linter.unusedSimpArgs false
open List renaming length->XM,replicate->We,take->XN,drop->XP,set->XQ,flatten->XR
open IntKind renaming wrap->QF
open Int renaming toNat->XO
section
set_option maxRecDepth 100000
def zmG:CF:=⟨74,[.tmp 6,.tmp 7,.tmp 8],(.seq (.reg [oo 6 (.move (.const (.sc (.int .u64 0))) false),Qh 7 (Qf 0),Qh 8 (Qf 0)]) (.seq (.reg [Qh 17 (tq 0),Qh 18 (tq 1),Qs 19 195 [(Qw 17),(Qw 18)],Qi 16 (tq 19),Qq 20 (tq 16) 0,Qq 21 (tq 16) 1,Qq 22 (tq 16) 2,Qh 9 (tq 20),Qh 10 (tq 21),Qh 11 (tq 22)]) (.seq (.seq (.reg [Qh 23 (tq 11),Qp 24 .neq (tq 23) (Qf 0)]) (.cond (tq 24) (.seq (.reg [Qh 25 (tq 11),oo 6 (.move (.const (.sc (.int .u64 0))) false),Qh 7 (Qf 0),Qh 8 (tq 25)]) .ret) .skip)) (.seq (.reg [Qh 26 (tq 9),Qu 27 .u64 (tq 26),Qh 12 (tq 27),oo 13 (.move (.const (.sc (.int .u64 0))) false)]) (.seq (.seq (.reg [Qh 28 (tq 9)]) (.block 0 (.seq (.reg [oo 30 (.bin .eql (tq 28) (.const (.sc (.int .u8 253)))),Qh 29 (tq 30)]) (.cond (tq 29) (.seq (.reg [oo 14 (.move (.const (.sc (.int .u16 0))) false)]) (.seq (.reg [Qh 32 (tq 0),Qh 33 (tq 10),Qs 34 196 [(Qw 32),(Qw 33)],Qi 31 (tq 34),Qq 35 (tq 31) 0,Qq 36 (tq 31) 1,Qq 37 (tq 31) 2,Qh 14 (tq 35),Qh 10 (tq 36),Qh 11 (tq 37)]) (.reg [Qh 38 (tq 14),Qu 39 .u64 (tq 38),Qh 12 (tq 39),oo 13 (.move (.const (.sc (.int .u64 253))) false)]))) (.seq (.reg [oo 41 (.bin .eql (tq 28) (.const (.sc (.int .u8 254)))),Qh 40 (tq 41)]) (.cond (tq 40) (.seq (.reg [oo 15 (.move (.const (.sc (.int .u32 0))) false)]) (.seq (.reg [Qh 43 (tq 0),Qh 44 (tq 10),Qs 45 170 [(Qw 43),(Qw 44)],Qi 42 (tq 45),Qq 46 (tq 42) 0,Qq 47 (tq 42) 1,Qq 48 (tq 42) 2,Qh 15 (tq 46),Qh 10 (tq 47),Qh 11 (tq 48)]) (.reg [Qh 49 (tq 15),Qu 50 .u64 (tq 49),Qh 12 (tq 50),oo 13 (.move (.const (.sc (.int .u64 65536))) false)]))) (.seq (.reg [oo 52 (.bin .eql (tq 28) (.const (.sc (.int .u8 255)))),Qh 51 (tq 52)]) (.cond (tq 51) (.seq (.reg [Qh 54 (tq 0),Qh 55 (tq 10),Qs 56 173 [(Qw 54),(Qw 55)],Qi 53 (tq 56),Qq 57 (tq 53) 0,Qq 58 (tq 53) 1,Qq 59 (tq 53) 2,Qh 12 (tq 57),Qh 10 (tq 58),Qh 11 (tq 59)]) (.reg [oo 13 (.move (.const (.sc (.int .u64 4294967296))) false)])) .skip)))))))) (.seq (.block 1 (.seq (.reg [Qh 61 (tq 11),Qp 62 .neq (tq 61) (Qf 0),Qh 60 (tq 62)]) (.cond (tq 60) (.seq (.reg [Qh 63 (tq 11),oo 6 (.move (.const (.sc (.int .u64 0))) false),Qh 7 (Qf 0),Qh 8 (tq 63)]) .ret) (.seq (.reg [Qh 65 (tq 12),Qh 66 (tq 13),Qp 67 .lss (tq 65) (tq 66),Qh 64 (tq 67)]) (.cond (tq 64) (.seq (.reg [oo 6 (.move (.const (.sc (.int .u64 0))) false),Qh 7 (Qf 0),Qh 8 (Qf 3)]) .ret) (.seq (.reg [Qh 69 (tq 12),Qh 70 (tq 2),Qp 71 .gtr (tq 69) (tq 70),Qh 68 (tq 71)]) (.cond (tq 68) (.seq (.reg [oo 6 (.move (.const (.sc (.int .u64 0))) false),Qh 7 (Qf 0),Qh 8 (Qf 4)]) .ret) .skip))))))) (.seq (.reg [Qh 72 (tq 12),Qh 73 (tq 10),Qh 6 (tq 72),Qh 7 (tq 73),Qh 8 (Qf 0)]) .ret)))))))⟩
def zt2:Hint:=⟨[(1,3),(8,3),(12,3),(15,3)],[],[none,none,none,none,none,none,none,none,none,none,none,none,none,none],[],[],false,false,[]⟩
def zq9:Nat→Sh:=xT []
def zrl(zbf:zr7)(zaW:zpU)(xP:zhu)(yT:zhs)(L:Nat):CBC:=(xy 173 (zmh yT L) (xy 170 (zmr xP L) (xy 196 (zpW zaW L) (xy 195 (zr3 zbf L) noC))))
def zsN{β:Type}(zbf:zr7)(zaW:zpU)(xP:zhu)(yT:zhs)(L:Nat)(C:List (List V))(P D:Int)(p:Int→Int→Int→Option β):Option β:=zbf β L C P (fun E F G=>ifb ((G:Int) != (0:Int)) (p (0:Int) (0:Int) G) (lt (QF .u64 E) fun J=>ifb ((E:Int)==(253:Int)) (zaW β L C F (fun Q R N=>lt (QF .u64 Q) fun M=>ifb ((N:Int) != (0:Int)) (p (0:Int) (0:Int) N) (ifb (decide (M<(253:Int))) (p (0:Int) (0:Int) (3:Int)) (ifb (decide (M>D)) (p (0:Int) (0:Int) (4:Int)) (p M R (0:Int)))))) (ifb ((E:Int)==(254:Int)) (xP β L C F (fun S T H=>lt (QF .u64 S) fun z=>ifb ((H:Int) != (0:Int)) (p (0:Int) (0:Int) H) (ifb (decide (z<(65536:Int))) (p (0:Int) (0:Int) (3:Int)) (ifb (decide (z>D)) (p (0:Int) (0:Int) (4:Int)) (p z T (0:Int)))))) (ifb ((E:Int)==(255:Int)) (yT β L C F (fun A O I=>ifb ((I:Int) != (0:Int)) (p (0:Int) (0:Int) I) (ifb (decide (A<(4294967296:Int))) (p (0:Int) (0:Int) (3:Int)) (ifb (decide (A>D)) (p (0:Int) (0:Int) (4:Int)) (p A O (0:Int)))))) (ifb ((G:Int) != (0:Int)) (p (0:Int) (0:Int) G) (ifb (decide (J<(0:Int))) (p (0:Int) (0:Int) (3:Int)) (ifb (decide (J>D)) (p (0:Int) (0:Int) (4:Int)) (p J F (0:Int)))))))))
theorem zBr{β:Type}(zbf:zr7)(zaW:zpU)(xP:zhu)(yT:zhs)(L:Nat)(C:List (List V))(D E:Int)(k:KK β):xq zq9 (zrl zbf zaW xP yT L) L zmG [(V.sl 1 C),(Qe D),(Qd E)] [] k=zsN zbf zaW xP yT L C D E (fun p z A=>k (V.tup [(Qd p),(Qe z),(Qe A)]) []):=by kernel_rfl
abbrev zf2:=∀ (β:Type),Nat→List (List V)→Int→Int→(Int→Int→Int→Option β)→Option β
def xO(β:Type)(L:Nat)(z:List (List V))(A C:Int)(p:Int→Int→Int→Option β):Option β:=zsN zbf zaW xP yT L z A C p
def zkx(xO:zf2)(L:Nat)(β:Type)(args:List V)(bor:Bor)(k:KK β):Option β:=match args,bor with
 | [a0,a1,a2],[]=>aL 1 a0 fun C=>aI .i64 a1 fun D=>aI .u64 a2 fun E=>xO β L C D E (fun p z A=>k (V.tup [(Qd p),(Qe z),(Qe A)]) [])
 | _,_=>none
theorem zBG(L:Nat)(β:Type)(args:List V)(bor:Bor)(k:KK β)(r:β)(h:zkx xO L β args bor k=some r):xq zq9 (zrl zbf zaW xP yT L) L zmG args bor k=some r:=by
 unfold zkx at h
 split at h
 ·have q:=xL h; clear h; obtain ⟨p,rfl,h⟩:=q
  have q:=yy h; clear h; obtain ⟨z,rfl,h⟩:=q
  have q:=yy h; clear h; obtain ⟨A,rfl,h⟩:=q
  exact (zBr zbf zaW xP yT L p z A k).trans h
 ·cases h
def zk7:CF:=⟨15,[.tmp 5,.tmp 6,.tmp 7],(.seq (.reg [oo 5 (.move (.const (.sc (.int .u64 0))) false),Qh 6 (Qf 0),Qh 7 (Qf 0)]) (.seq (.reg [Qh 8 (tq 0),Qh 9 (tq 1),Qj 10 1 (tq 2),Qs 11 164 [(Qw 8),(Qw 9),(Qw 10)],Qq 12 (tq 11) 0,Qq 13 (tq 11) 1,Qq 14 (tq 11) 2,Qh 5 (tq 12),Qh 6 (tq 13),Qh 7 (tq 14)]) .ret))⟩
def zs9:Hint:=⟨[],[],[none],[],[],false,false,[]⟩
def zpt:Nat→Sh:=xT []
def zpx(xO:zf2)(L:Nat):CBC:=(xy 164 (zkx xO L) noC)
def zrf{β:Type}(xO:zf2)(L:Nat)(A:List (List V))(C p:Int)(z:Int→Int→Int→Int→Option β):Option β:=xO β L A C p (fun D E F=>z D E F p)
theorem zAT{β:Type}(xO:zf2)(L:Nat)(D:List (List V))(E p:Int)(k:KK β):xq zpt (zpx xO L) L zk7 [(V.sl 1 D),(Qe E),(V.ptr 0 0)] [(.live true [(Qd p)])] k=zrf xO L D E p (fun z A C p=>k (V.tup [(Qd z),(Qe A),(Qe C)]) [(.live true [(Qd p)])]):=by kernel_rfl
abbrev zms:=∀ (β:Type),Nat→List (List V)→Int→Int→(Int→Int→Int→Int→Option β)→Option β
def zan(β:Type)(L:Nat)(A:List (List V))(C z:Int)(p:Int→Int→Int→Int→Option β):Option β:=zrf xO L A C z p
def zmJ(zan:zms)(L:Nat)(β:Type)(args:List V)(bor:Bor)(k:KK β):Option β:=match args,bor with
 | [a0,a1,a2],[(.live true [w0_0])]=>aL 1 a0 fun D=>aI .i64 a1 fun E=>aP 0 0 a2 (aI .u64 w0_0 fun p=>zan β L D E p (fun z A C p=>k (V.tup [(Qd z),(Qe A),(Qe C)]) [(.live true [(Qd p)])]))
 | _,_=>none
theorem zAj(L:Nat)(β:Type)(args:List V)(bor:Bor)(k:KK β)(r:β)(h:zmJ zan L β args bor k=some r):xq zpt (zpx xO L) L zk7 args bor k=some r:=by
 unfold zmJ at h
 split at h
 ·have q:=xL h; clear h; obtain ⟨z,rfl,h⟩:=q
  have q:=yy h; clear h; obtain ⟨A,rfl,h⟩:=q
  have q:=zeD h; clear h; obtain ⟨rfl,h⟩:=q
  have q:=yy h; clear h; obtain ⟨p,rfl,h⟩:=q
  exact (zAT xO L z A p k).trans h
 ·cases h
def zfd:CF:=⟨41,[.tmp 4],(.seq (.reg [oo 4 (.move (.const (.sc (.int .u64 0))) false)]) (.seq (.reg [oo 5 (.move (.const (.sc (.int .u64 0))) false)]) (.seq (.seq (.reg [Qh 9 (tq 0),oo 10 (.nilCheck (tq 9)),Ql 11 2 (tq 10),Qj 12 1 (tq 11),Qp 13 .neq (tq 12) (Qf 0)]) (.cond (tq 13) (.seq (.reg [Qh 14 (tq 5),Qh 4 (tq 14)]) .ret) .skip)) (.seq (.dreg [] [(Qh 16 (tq 1),q0),(Qh 17 (tq 0),q0),(oo 18 (.nilCheck (tq 17)),q0),(Ql 19 0 (tq 18),q0),(Qj 20 1 (tq 19),ql 0 [] []),(Qh 21 (tq 0),q0),(oo 22 (.nilCheck (tq 21)),q0),(Ql 23 1 (tq 22),q0),(Qj 24 1 (tq 23),ql 0 [] []),(oo 25 (.callv (tq 16) [(Qw 20),(Qw 24)] []),q0),(Qi 15 (tq 25),q0),(Qq 26 (tq 15) 0,q0),(Qq 27 (tq 15) 1,q0),(Qq 28 (tq 15) 2,q0),(Qh 6 (tq 26),q0),(Qh 7 (tq 27),q0),(Qh 8 (tq 28),q0)]) (.seq (.seq (.reg [Qh 29 (tq 8),Qp 30 .neq (tq 29) (Qf 0)]) (.cond (tq 30) (.seq (.reg [Qh 31 (tq 0),Qh 32 (tq 8),oo 33 (.nilCheck (tq 31)),Ql 34 2 (tq 33),Qm 1 (tq 34) (tq 32)]) (.seq (.reg [Qh 35 (tq 5),Qh 4 (tq 35)]) .ret)) .skip)) (.seq (.reg [Qh 36 (tq 0),Qh 37 (tq 7),oo 38 (.nilCheck (tq 36)),Ql 39 1 (tq 38),Qm 1 (tq 39) (tq 37)]) (.seq (.reg [Qh 40 (tq 6),Qh 4 (tq 40)]) .ret)))))))⟩
def zpa:Hint:=⟨[(4,10)],[],[none,none,none,none,none],[],[],false,false,[]⟩
def zlI:Nat→Sh:=xT []
def zlM(zan:zms)(L:Nat):CBC:=(xy 163 (zmJ zan L) noC)
def ziB{β:Type}(zan:zms)(L:Nat)(p:List (List V))(A C D:Int)(z:Int→List (List V)→Int→Int→Int→Option β):Option β:=ifb ((C:Int) != (0:Int)) (z (0:Int) p A C D) (zan β L p A D (fun G H E F=>ifb ((E:Int) != (0:Int)) (z (0:Int) p A E F) (z G p H C F)))
theorem zxW{β:Type}(zan:zms)(L:Nat)(p:List (List V))(z A C:Int)(k:KK β):xq zlI (zlM zan L) L zfd [(V.ptr 0 0),(V.fn 163 [(V.ptr 1 0)])] [(.live false [(V.sl 1 p),(Qe z),(Qe A)]),(.live true [(Qd C)])] k=ziB zan L p z A C (fun D p z A C=>k (Qd D) [(.live false [(V.sl 1 p),(Qe z),(Qe A)]),(.live true [(Qd C)])]):=by kernel_rfl
abbrev ziI:=∀ (β:Type),Nat→List (List V)→Int→Int→Int→(Int→List (List V)→Int→Int→Int→Option β)→Option β
def yX(β:Type)(L:Nat)(z:List (List V))(A C D:Int)(p:Int→List (List V)→Int→Int→Int→Option β):Option β:=ziB zan L z A C D p
def ziN(yX:ziI)(L:Nat)(β:Type)(args:List V)(bor:Bor)(k:KK β):Option β:=match args,bor with
 | [a0,a1],[(.live false [w0_0,w0_1,w0_2]),(.live true [w1_0])]=>aP 0 0 a0 (aF 163 [(1,0)] a1 (aL 1 w0_0 fun p=>aI .i64 w0_1 fun z=>aI .i64 w0_2 fun A=>aI .u64 w1_0 fun C=>yX β L p z A C (fun D p z A C=>k (Qd D) [(.live false [(V.sl 1 p),(Qe z),(Qe A)]),(.live true [(Qd C)])])))
 | _,_=>none
theorem zxR(L:Nat)(β:Type)(args:List V)(bor:Bor)(k:KK β)(r:β)(h:ziN yX L β args bor k=some r):xq zlI (zlM zan L) L zfd args bor k=some r:=by
 unfold ziN at h
 split at h
 ·have q:=zeD h; clear h; obtain ⟨rfl,h⟩:=q
  have q:=zya h; clear h; obtain ⟨rfl,h⟩:=q
  have q:=xL h; clear h; obtain ⟨p,rfl,h⟩:=q
  have q:=yy h; clear h; obtain ⟨z,rfl,h⟩:=q
  have q:=yy h; clear h; obtain ⟨A,rfl,h⟩:=q
  have q:=yy h; clear h; obtain ⟨C,rfl,h⟩:=q
  exact (zxW zan L p z A C k).trans h
 ·cases h
def zon:CF:=⟨8,[.tmp 3],(.seq (.reg [Qv 2 (tq 0),Qh 3 (Qf 0)]) (.seq (.reg [Qj 4 1 (tq 1),oo 5 (.makeFunc 163 [(tq 2)]),Qs 6 162 [(Qw 4),(Qw 5)],Qu 7 .i64 (tq 6),Qh 3 (tq 7)]) .ret))⟩
def zvo:Hint:=⟨[],[],[none],[],[],false,false,[]⟩
def zs8:Nat→Sh:=xT []
def zsm(yX:ziI)(L:Nat):CBC:=(xy 162 (ziN yX L) noC)
def zqc{β:Type}(yX:ziI)(L:Nat)(D:Int)(z:List (List V))(A C:Int)(p:Int→List (List V)→Int→Int→Option β):Option β:=yX β L z A C D (fun E F G H J=>lt (QF .i64 E) fun I=>p I F G H)
theorem zDp{β:Type}(yX:ziI)(L:Nat)(C:Int)(p:List (List V))(z A:Int)(k:KK β):xq zs8 (zsm yX L) L zon [(Qd C),(V.ptr 0 0)] [(.live false [(V.ptr 1 0)]),(.live false [(V.sl 1 p),(Qe z),(Qe A)])] k=zqc yX L C p z A (fun C p z A=>k (Qe C) [(.live false [(V.ptr 1 0)]),(.live false [(V.sl 1 p),(Qe z),(Qe A)])]):=by kernel_rfl
abbrev xG:=∀ (β:Type),Nat→Int→List (List V)→Int→Int→(Int→List (List V)→Int→Int→Option β)→Option β
def xf(β:Type)(L:Nat)(D:Int)(z:List (List V))(A C:Int)(p:Int→List (List V)→Int→Int→Option β):Option β:=zqc yX L D z A C p
def zp8(xf:xG)(L:Nat)(β:Type)(args:List V)(bor:Bor)(k:KK β):Option β:=match args,bor with
 | [a0,a1],[(.live false [w0_0]),(.live false [w1_0,w1_1,w1_2])]=>aI .u64 a0 fun C=>aP 0 0 a1 (aP 1 0 w0_0 (aL 1 w1_0 fun p=>aI .i64 w1_1 fun z=>aI .i64 w1_2 fun A=>xf β L C p z A (fun C p z A=>k (Qe C) [(.live false [(V.ptr 1 0)]),(.live false [(V.sl 1 p),(Qe z),(Qe A)])])))
 | _,_=>none
theorem zDG(L:Nat)(β:Type)(args:List V)(bor:Bor)(k:KK β)(r:β)(h:zp8 xf L β args bor k=some r):xq zs8 (zsm yX L) L zon args bor k=some r:=by
 unfold zp8 at h
 split at h
 ·have q:=yy h; clear h; obtain ⟨C,rfl,h⟩:=q
  have q:=zeD h; clear h; obtain ⟨rfl,h⟩:=q
  have q:=zeD h; clear h; obtain ⟨rfl,h⟩:=q
  have q:=xL h; clear h; obtain ⟨p,rfl,h⟩:=q
  have q:=yy h; clear h; obtain ⟨z,rfl,h⟩:=q
  have q:=yy h; clear h; obtain ⟨A,rfl,h⟩:=q
  exact (zDp yX L C p z A k).trans h
 ·cases h
def zmX:CF:=⟨24,[.cell 4 true 32,.tmp 5,.tmp 6],(.seq (.reg [oo 4 (.alloc true (rp 32 (.sc (.int .u8 0)) [])),Qh 5 (Qf 0),Qh 6 (Qf 0)]) (.seq (.reg [oo 7 (.alloc true (rp 32 (.sc (.int .u8 0)) []))]) (.seq (.seq (.reg [Qh 9 (tq 0),Qh 10 (tq 1),Qs 11 198 [(Qw 9),(Qw 10),((Qf 32),0)],Qh 8 (tq 11)]) (.seq (.reg [Qh 12 (tq 8),Qp 13 .neq (tq 12) (Qf 0)]) (.cond (tq 13) (.seq (.reg [oo 14 (.build (rp 32 (.sc (.int .u8 0)) []) []),Qh 15 (tq 8),Qm 32 (tq 4) (tq 14),Qh 5 (Qf 0),Qh 6 (tq 15)]) .ret) .skip))) (.seq (.dreg [] [(oo 16 (.sliceA 32 1 (tq 7) none none none),q1),(Qi 17 (tq 0),q1),(Qh 18 (tq 1),q0),(oo 19 (.sliceS 1 (tq 17) (some (tq 18)) none none),q0),(oo 20 (.copy 1 (tq 16) (tq 19)),q0)]) (.seq (.reg [Qk 21 32 (tq 7),Qh 22 (tq 1),Qp 23 .add (tq 22) (Qf 32),Qm 32 (tq 4) (tq 21),Qh 5 (tq 23),Qh 6 (Qf 0)]) .ret)))))⟩
def zum:Hint:=⟨[(5,1)],[],[none,none,none],[],[],false,false,[]⟩
def zq3:Nat→Sh:=xT []
def zq6(zf:xv)(L:Nat):CBC:=(xy 198 (zeG zf L) noC)
def zsJ{β:Type}(zf:xv)(L:Nat)(A:List (List V))(p:Int)(z:List V→Int→Int→Option β):Option β:=zf β L A p (32:Int) (fun D=>ifb ((D:Int) != (0:Int)) (lt (We 32 (Qa (0:Int))) fun E=>chk (0=0∧(XM E)=32∧32≠0) (z E (0:Int) D)) (chk (0≤p∧p≤(((XM A):Nat):Int)) (lt (xm (We 32 (Qa (0:Int))) 0 (XR (XN (min (XM (XN ((XM A)-(XO p)) (XP (XO p) A))) 32) (XN ((XM A)-(XO p)) (XP (XO p) A))))) fun C=>chk (0+32≤(XM C)) (lt (QF .i64 ((p:Int)+(32:Int))) fun G=>chk ((XM (XN 32 C))=32∧0+32≤32) (lt (xm (We 32 (Qa (0:Int))) 0 (XN 32 C)) fun F=>chk (0=0∧(XM F)=32∧32≠0) (z F G (0:Int)))))))
theorem zBx{β:Type}(zf:xv)(L:Nat)(C:List (List V))(D:Int)(k:KK β):xq zq3 (zq6 zf L) L zmX [(V.sl 1 C),(Qe D)] [] k=zsJ zf L C D (fun p z A=>k (V.tup [(V.agg p),(Qe z),(Qe A)]) []):=by kernel_rfl
abbrev zoU:=∀ (β:Type),Nat→List (List V)→Int→(List V→Int→Int→Option β)→Option β
def zaw(β:Type)(L:Nat)(z:List (List V))(A:Int)(p:List V→Int→Int→Option β):Option β:=zsJ zf L z A p
def znQ(zaw:zoU)(L:Nat)(β:Type)(args:List V)(bor:Bor)(k:KK β):Option β:=match args,bor with
 | [a0,a1],[]=>aL 1 a0 fun C=>aI .i64 a1 fun D=>zaw β L C D (fun p z A=>k (V.tup [(V.agg p),(Qe z),(Qe A)]) [])
 | _,_=>none
theorem zBo(L:Nat)(β:Type)(args:List V)(bor:Bor)(k:KK β)(r:β)(h:znQ zaw L β args bor k=some r):xq zq3 (zq6 zf L) L zmX args bor k=some r:=by
 unfold znQ at h
 split at h
 ·have q:=xL h; clear h; obtain ⟨p,rfl,h⟩:=q
  have q:=yy h; clear h; obtain ⟨z,rfl,h⟩:=q
  exact (zBx zf L p z k).trans h
 ·cases h
def zgB:CF:=⟨41,[.cell 4 true 32],(.seq (.reg [oo 4 (.alloc true (rp 32 (.sc (.int .u8 0)) []))]) (.seq (.reg [oo 5 (.alloc true (rp 32 (.sc (.int .u8 0)) []))]) (.seq (.seq (.reg [Qh 9 (tq 0),oo 10 (.nilCheck (tq 9)),Ql 11 2 (tq 10),Qj 12 1 (tq 11),Qp 13 .neq (tq 12) (Qf 0)]) (.cond (tq 13) (.seq (.reg [Qk 14 32 (tq 5),Qm 32 (tq 4) (tq 14)]) .ret) .skip)) (.seq (.dreg [] [(Qh 16 (tq 1),q0),(Qh 17 (tq 0),q0),(oo 18 (.nilCheck (tq 17)),q0),(Ql 19 0 (tq 18),q0),(Qj 20 1 (tq 19),ql 0 [] [6]),(Qh 21 (tq 0),q0),(oo 22 (.nilCheck (tq 21)),q0),(Ql 23 1 (tq 22),q0),(Qj 24 1 (tq 23),ql 0 [] [6]),(oo 25 (.callv (tq 16) [(Qw 20),(Qw 24)] []),qc [] [6]),(Qi 15 (tq 25),qc [] [6]),(Qq 26 (tq 15) 0,q0),(Qq 27 (tq 15) 1,q0),(Qq 28 (tq 15) 2,q0),(oo 6 (.alloc true (rp 32 (.sc (.int .u8 0)) [])),qn [0] []),(Qm 32 (tq 6) (tq 26),q0),(Qh 7 (tq 27),q0),(Qh 8 (tq 28),q0)]) (.seq (.seq (.reg [Qh 29 (tq 8),Qp 30 .neq (tq 29) (Qf 0)]) (.cond (tq 30) (.seq (.reg [Qh 31 (tq 0),Qh 32 (tq 8),oo 33 (.nilCheck (tq 31)),Ql 34 2 (tq 33),Qm 1 (tq 34) (tq 32)]) (.seq (.reg [Qk 35 32 (tq 5),Qm 32 (tq 4) (tq 35)]) .ret)) .skip)) (.seq (.reg [Qh 36 (tq 0),Qh 37 (tq 7),oo 38 (.nilCheck (tq 36)),Ql 39 1 (tq 38),Qm 1 (tq 39) (tq 37)]) (.seq (.reg [Qk 40 32 (tq 6),Qm 32 (tq 4) (tq 40)]) .ret)))))))⟩
def znh:Hint:=⟨[(4,10)],[],[none,none,none,none,none],[],[],false,false,[]⟩
def zju:Nat→Sh:=xT []
def zjE(zaw:zoU)(L:Nat):CBC:=(xy 172 (znQ zaw L) noC)
def zha{β:Type}(zaw:zoU)(L:Nat)(p:List (List V))(A C:Int)(z:List V→List (List V)→Int→Int→Option β):Option β:=ifb ((C:Int) != (0:Int)) (lt (We 32 (Qa (0:Int))) fun E=>chk (0=0∧(XM E)=32∧32≠0) (z E p A C)) (zaw β L p A (fun F J G=>chk ((XM F)=32∧0+32≤32) (lt (xm (We 32 (Qa (0:Int))) 0 F) fun D=>ifb ((G:Int) != (0:Int)) (lt (We 32 (Qa (0:Int))) fun H=>chk (0=0∧(XM H)=32∧32≠0) (z H p A G)) (chk (0+32≤(XM D)) (chk ((XM (XN 32 D))=32∧0+32≤32) (lt (xm (We 32 (Qa (0:Int))) 0 (XN 32 D)) fun I=>chk (0=0∧(XM I)=32∧32≠0) (z I p J C)))))))
theorem zv3{β:Type}(zaw:zoU)(L:Nat)(p:List (List V))(z A:Int)(k:KK β):xq zju (zjE zaw L) L zgB [(V.ptr 0 0),(V.fn 172 [])] [(.live false [(V.sl 1 p),(Qe z),(Qe A)])] k=zha zaw L p z A (fun C p z A=>k (V.agg C) [(.live false [(V.sl 1 p),(Qe z),(Qe A)])]):=by kernel_rfl
abbrev zt:=∀ (β:Type),Nat→List (List V)→Int→Int→(List V→List (List V)→Int→Int→Option β)→Option β
def xb(β:Type)(L:Nat)(z:List (List V))(A C:Int)(p:List V→List (List V)→Int→Int→Option β):Option β:=zha zaw L z A C p
def zg6(xb:zt)(L:Nat)(β:Type)(args:List V)(bor:Bor)(k:KK β):Option β:=match args,bor with
 | [a0,a1],[(.live false [w0_0,w0_1,w0_2])]=>aP 0 0 a0 (aF 172 [] a1 (aL 1 w0_0 fun p=>aI .i64 w0_1 fun z=>aI .i64 w0_2 fun A=>xb β L p z A (fun C p z A=>k (V.agg C) [(.live false [(V.sl 1 p),(Qe z),(Qe A)])])))
 | _,_=>none
theorem zwa(L:Nat)(β:Type)(args:List V)(bor:Bor)(k:KK β)(r:β)(h:zg6 xb L β args bor k=some r):xq zju (zjE zaw L) L zgB args bor k=some r:=by
 unfold zg6 at h
 split at h
 ·have q:=zeD h; clear h; obtain ⟨rfl,h⟩:=q
  have q:=zya h; clear h; obtain ⟨rfl,h⟩:=q
  have q:=xL h; clear h; obtain ⟨p,rfl,h⟩:=q
  have q:=yy h; clear h; obtain ⟨z,rfl,h⟩:=q
  have q:=yy h; clear h; obtain ⟨A,rfl,h⟩:=q
  exact (zv3 zaw L p z A k).trans h
 ·cases h
def zox:CF:=zfd
def zi4:Nat→Sh:=xT []
def zjb(yT:zhs)(L:Nat):CBC:=(xy 173 (zmh yT L) noC)
def zgD{β:Type}(yT:zhs)(L:Nat)(p:List (List V))(A C:Int)(z:Int→List (List V)→Int→Int→Option β):Option β:=ifb ((C:Int) != (0:Int)) (z (0:Int) p A C) (yT β L p A (fun E F D=>ifb ((D:Int) != (0:Int)) (z (0:Int) p A D) (z E p F C)))
theorem zuN{β:Type}(yT:zhs)(L:Nat)(p:List (List V))(z A:Int)(k:KK β):xq zi4 (zjb yT L) L zox [(V.ptr 0 0),(V.fn 173 [])] [(.live false [(V.sl 1 p),(Qe z),(Qe A)])] k=zgD yT L p z A (fun C p z A=>k (Qd C) [(.live false [(V.sl 1 p),(Qe z),(Qe A)])]):=by kernel_rfl
abbrev zq:=∀ (β:Type),Nat→List (List V)→Int→Int→(Int→List (List V)→Int→Int→Option β)→Option β
def xa(β:Type)(L:Nat)(z:List (List V))(A C:Int)(p:Int→List (List V)→Int→Int→Option β):Option β:=zgD yT L z A C p
def zgw(xa:zq)(L:Nat)(β:Type)(args:List V)(bor:Bor)(k:KK β):Option β:=match args,bor with
 | [a0,a1],[(.live false [w0_0,w0_1,w0_2])]=>aP 0 0 a0 (aF 173 [] a1 (aL 1 w0_0 fun p=>aI .i64 w0_1 fun z=>aI .i64 w0_2 fun A=>xa β L p z A (fun C p z A=>k (Qd C) [(.live false [(V.sl 1 p),(Qe z),(Qe A)])])))
 | _,_=>none
theorem zvd(L:Nat)(β:Type)(args:List V)(bor:Bor)(k:KK β)(r:β)(h:zgw xa L β args bor k=some r):xq zi4 (zjb yT L) L zox args bor k=some r:=by
 unfold zgw at h
 split at h
 ·have q:=zeD h; clear h; obtain ⟨rfl,h⟩:=q
  have q:=zya h; clear h; obtain ⟨rfl,h⟩:=q
  have q:=xL h; clear h; obtain ⟨p,rfl,h⟩:=q
  have q:=yy h; clear h; obtain ⟨z,rfl,h⟩:=q
  have q:=yy h; clear h; obtain ⟨A,rfl,h⟩:=q
  exact (zuN yT L p z A k).trans h
 ·cases h
def zk8:CF:=⟨44,[.tmp 6,.tmp 7,.tmp 8],(.seq (.reg [Qi 6 (.const (.gs 1 [])),Qh 7 (Qf 0),Qh 8 (Qf 0)]) (.seq (.seq (.reg [Qh 13 (tq 2),Qp 14 .lss (tq 13) (Qf 0)]) (.cond (tq 14) (.seq (.reg [Qi 6 (.const (.gs 1 [])),Qh 7 (Qf 0),Qh 8 (Qf 5)]) .ret) .skip)) (.seq (.reg [Qh 16 (tq 0),Qh 17 (tq 1),Qh 18 (tq 2),Qu 19 .u64 (tq 18),Qs 20 164 [(Qw 16),(Qw 17),(Qw 19)],Qi 15 (tq 20),Qq 21 (tq 15) 0,Qq 22 (tq 15) 1,Qq 23 (tq 15) 2,Qh 9 (tq 21),Qh 10 (tq 22),Qh 11 (tq 23)]) (.seq (.seq (.reg [Qh 24 (tq 11),Qp 25 .neq (tq 24) (Qf 0)]) (.cond (tq 25) (.seq (.reg [Qh 26 (tq 11),Qi 6 (.const (.gs 1 [])),Qh 7 (Qf 0),Qh 8 (tq 26)]) .ret) .skip)) (.seq (.seq (.reg [Qh 27 (tq 9),Qh 28 (tq 0),Qr 29 (tq 28),Qh 30 (tq 10),Qp 31 .sub (tq 29) (tq 30),Qu 32 .u64 (tq 31),Qp 33 .gtr (tq 27) (tq 32)]) (.cond (tq 33) (.seq (.reg [Qi 6 (.const (.gs 1 [])),Qh 7 (Qf 0),Qh 8 (Qf 1)]) .ret) .skip)) (.seq (.reg [Qh 34 (tq 10),Qh 35 (tq 9),Qu 36 .i64 (tq 35),Qp 37 .add (tq 34) (tq 36),Qh 12 (tq 37)]) (.seq (.reg [Qi 38 (tq 0),Qh 39 (tq 10),Qh 40 (tq 12),oo 41 (.sliceS 1 (tq 38) (some (tq 39)) (some (tq 40)) none),oo 42 (.call 191 [(Qw 41),((.const (.gs 1 [])),0)] []),Qh 43 (tq 12),Qi 6 (tq 42),Qh 7 (tq 43),Qh 8 (Qf 0)]) .ret)))))))⟩
def ztf:Hint:=⟨[(0,0),(2,0),(3,5),(5,1),(7,0),(9,0),(9,6)],[],[none,none,none,none,none,none,none],[],[],false,false,[]⟩
def zpJ:Nat→Sh:=xT []
def zpn(xO:zf2)(zi:zS)(L:Nat):CBC:=(xy 191 (zcf zi L) (xy 164 (zkx xO L) noC))
def zrp{β:Type}(xO:zf2)(zi:zS)(L:Nat)(C:List (List V))(G D:Int)(p:List (List V)→Int→Int→Option β):Option β:=ifb (decide (D<(0:Int))) (p ([]:List (List V)) (0:Int) (5:Int)) (lt (QF .u64 D) fun H=>xO β L C G H (fun E z F=>ifb ((F:Int) != (0:Int)) (p ([]:List (List V)) (0:Int) F) (lt (QF .i64 ((((XM C:Nat):Int):Int)-z)) fun I=>lt (QF .u64 I) fun J=>ifb (decide (E>J)) (p ([]:List (List V)) (0:Int) (1:Int)) (lt (QF .i64 E) fun M=>lt (QF .i64 ((z:Int)+M)) fun A=>chk (0≤A∧A≤(((XM C):Nat):Int)) (chk (0≤z∧z≤(((XO A):Nat):Int)) (zi β L (XN ((XO A)-(XO z)) (XP (XO z) C)) ([]:List (List V)) (fun N=>p N A (0:Int))))))))
theorem zAP{β:Type}(xO:zf2)(zi:zS)(L:Nat)(C:List (List V))(D E:Int)(k:KK β):xq zpJ (zpn xO zi L) L zk8 [(V.sl 1 C),(Qe D),(Qe E)] [] k=zrp xO zi L C D E (fun p z A=>k (V.tup [(V.gs 1 p),(Qe z),(Qe A)]) []):=by kernel_rfl
abbrev zmD:=∀ (β:Type),Nat→List (List V)→Int→Int→(List (List V)→Int→Int→Option β)→Option β
def zad(β:Type)(L:Nat)(z:List (List V))(A C:Int)(p:List (List V)→Int→Int→Option β):Option β:=zrp xO zi L z A C p
def zmR(zad:zmD)(L:Nat)(β:Type)(args:List V)(bor:Bor)(k:KK β):Option β:=match args,bor with
 | [a0,a1,a2],[]=>aL 1 a0 fun C=>aI .i64 a1 fun D=>aI .i64 a2 fun E=>zad β L C D E (fun p z A=>k (V.tup [(V.gs 1 p),(Qe z),(Qe A)]) [])
 | _,_=>none
theorem zAV(L:Nat)(β:Type)(args:List V)(bor:Bor)(k:KK β)(r:β)(h:zmR zad L β args bor k=some r):xq zpJ (zpn xO zi L) L zk8 args bor k=some r:=by
 unfold zmR at h
 split at h
 ·have q:=xL h; clear h; obtain ⟨p,rfl,h⟩:=q
  have q:=yy h; clear h; obtain ⟨z,rfl,h⟩:=q
  have q:=yy h; clear h; obtain ⟨A,rfl,h⟩:=q
  exact (zAP xO zi L p z A k).trans h
 ·cases h
def zlu:CF:=⟨15,[.tmp 5,.tmp 6,.tmp 7],(.seq (.reg [Qi 5 (.const (.gs 1 [])),Qh 6 (Qf 0),Qh 7 (Qf 0)]) (.seq (.reg [Qh 8 (tq 0),Qh 9 (tq 1),Qj 10 1 (tq 2),Qs 11 168 [(Qw 8),(Qw 9),(Qw 10)],oo 12 (.extract (tq 11) 0),Qq 13 (tq 11) 1,Qq 14 (tq 11) 2,Qi 5 (tq 12),Qh 6 (tq 13),Qh 7 (tq 14)]) .ret))⟩
def ztm:Hint:=⟨[(0,0),(1,4),(1,7)],[],[none],[],[],false,false,[]⟩
def zpF:Nat→Sh:=xT []
def zpu(zad:zmD)(L:Nat):CBC:=(xy 168 (zmR zad L) noC)
def zrb{β:Type}(zad:zmD)(L:Nat)(A:List (List V))(C p:Int)(z:List (List V)→Int→Int→Int→Option β):Option β:=zad β L A C p (fun D E F=>z D E F p)
theorem zAH{β:Type}(zad:zmD)(L:Nat)(D:List (List V))(E p:Int)(k:KK β):xq zpF (zpu zad L) L zlu [(V.sl 1 D),(Qe E),(V.ptr 0 0)] [(.live true [(Qe p)])] k=zrb zad L D E p (fun z A C p=>k (V.tup [(V.gs 1 z),(Qe A),(Qe C)]) [(.live true [(Qe p)])]):=by kernel_rfl
abbrev zmz:=∀ (β:Type),Nat→List (List V)→Int→Int→(List (List V)→Int→Int→Int→Option β)→Option β
def zam(β:Type)(L:Nat)(A:List (List V))(C z:Int)(p:List (List V)→Int→Int→Int→Option β):Option β:=zrb zad L A C z p
def zmv(zam:zmz)(L:Nat)(β:Type)(args:List V)(bor:Bor)(k:KK β):Option β:=match args,bor with
 | [a0,a1,a2],[(.live true [w0_0])]=>aL 1 a0 fun D=>aI .i64 a1 fun E=>aP 0 0 a2 (aI .i64 w0_0 fun p=>zam β L D E p (fun z A C p=>k (V.tup [(V.gs 1 z),(Qe A),(Qe C)]) [(.live true [(Qe p)])]))
 | _,_=>none
theorem zAy(L:Nat)(β:Type)(args:List V)(bor:Bor)(k:KK β)(r:β)(h:zmv zam L β args bor k=some r):xq zpF (zpu zad L) L zlu args bor k=some r:=by
 unfold zmv at h
 split at h
 ·have q:=xL h; clear h; obtain ⟨z,rfl,h⟩:=q
  have q:=yy h; clear h; obtain ⟨A,rfl,h⟩:=q
  have q:=zeD h; clear h; obtain ⟨rfl,h⟩:=q
  have q:=yy h; clear h; obtain ⟨p,rfl,h⟩:=q
  exact (zAH zad L z A p k).trans h
 ·cases h
def ziS:CF:=⟨41,[.tmp 4],(.seq (.reg [Qi 4 (.const (.gs 1 []))]) (.seq (.reg [Qi 5 (.const (.gs 1 []))]) (.seq (.seq (.reg [Qh 9 (tq 0),oo 10 (.nilCheck (tq 9)),Ql 11 2 (tq 10),Qj 12 1 (tq 11),Qp 13 .neq (tq 12) (Qf 0)]) (.cond (tq 13) (.seq (.reg [Qi 14 (tq 5),Qi 4 (tq 14)]) .ret) .skip)) (.seq (.dreg [] [(Qh 16 (tq 1),q0),(Qh 17 (tq 0),q0),(oo 18 (.nilCheck (tq 17)),q0),(Ql 19 0 (tq 18),q0),(Qj 20 1 (tq 19),ql 0 [] []),(Qh 21 (tq 0),q0),(oo 22 (.nilCheck (tq 21)),q0),(Ql 23 1 (tq 22),q0),(Qj 24 1 (tq 23),ql 0 [] []),(oo 25 (.callv (tq 16) [(Qw 20),(Qw 24)] []),q0),(Qi 15 (tq 25),q0),(Qq 26 (tq 15) 0,q0),(Qq 27 (tq 15) 1,q0),(Qq 28 (tq 15) 2,q0),(Qi 6 (tq 26),q0),(Qh 7 (tq 27),q0),(Qh 8 (tq 28),q0)]) (.seq (.seq (.reg [Qh 29 (tq 8),Qp 30 .neq (tq 29) (Qf 0)]) (.cond (tq 30) (.seq (.reg [Qh 31 (tq 0),Qh 32 (tq 8),oo 33 (.nilCheck (tq 31)),Ql 34 2 (tq 33),Qm 1 (tq 34) (tq 32)]) (.seq (.reg [Qi 35 (tq 5),Qi 4 (tq 35)]) .ret)) .skip)) (.seq (.reg [Qh 36 (tq 0),Qh 37 (tq 7),oo 38 (.nilCheck (tq 36)),Ql 39 1 (tq 38),Qm 1 (tq 39) (tq 37)]) (.seq (.reg [Qi 40 (tq 6),Qi 4 (tq 40)]) .ret)))))))⟩
def zqB:Hint:=⟨[(0,0),(1,0),(3,0),(3,1),(4,10),(4,14),(7,0),(7,1),(9,0),(9,1)],[],[none,none,none,none,none],[],[],false,false,[]⟩
def zm9:Nat→Sh:=xT []
def zm7(zam:zmz)(L:Nat):CBC:=(xy 167 (zmv zam L) noC)
def zjW{β:Type}(zam:zmz)(L:Nat)(p:List (List V))(z A E:Int)(C:List (List V)→List (List V)→Int→Int→Int→Option β)(D:List (List V)→List (List V)→Int→Int→Int→Option β):Option β:=ifb ((A:Int) != (0:Int)) (C ([]:List (List V)) p z A E) (zam β L p z E (fun H I F G=>ifb ((F:Int) != (0:Int)) (C ([]:List (List V)) p z F G) (D H p I A G)))
theorem zx3{β:Type}(zam:zmz)(L:Nat)(p:List (List V))(z A C:Int)(k:KK β):xq zm9 (zm7 zam L) L ziS [(V.ptr 0 0),(V.fn 167 [(V.ptr 1 0)])] [(.live false [(V.sl 1 p),(Qe z),(Qe A)]),(.live true [(Qe C)])] k=zjW zam L p z A C (fun D p z A C=>k (V.gs 1 D) [(.live false [(V.sl 1 p),(Qe z),(Qe A)]),(.live true [(Qe C)])]) (fun D p z A C=>k (V.sl 1 D) [(.live false [(V.sl 1 p),(Qe z),(Qe A)]),(.live true [(Qe C)])]):=by kernel_rfl
abbrev zj0:=∀ (β:Type),Nat→List (List V)→Int→Int→Int→(List (List V)→List (List V)→Int→Int→Int→Option β)→(List (List V)→List (List V)→Int→Int→Int→Option β)→Option β
def z4(β:Type)(L:Nat)(A:List (List V))(C D E:Int)(z:List (List V)→List (List V)→Int→Int→Int→Option β)(p:List (List V)→List (List V)→Int→Int→Int→Option β):Option β:=zjW zam L A C D E z p
def zke(z4:zj0)(L:Nat)(β:Type)(args:List V)(bor:Bor)(k:KK β):Option β:=match args,bor with
 | [a0,a1],[(.live false [w0_0,w0_1,w0_2]),(.live true [w1_0])]=>aP 0 0 a0 (aF 167 [(1,0)] a1 (aL 1 w0_0 fun p=>aI .i64 w0_1 fun z=>aI .i64 w0_2 fun A=>aI .i64 w1_0 fun C=>z4 β L p z A C (fun D p z A C=>k (V.gs 1 D) [(.live false [(V.sl 1 p),(Qe z),(Qe A)]),(.live true [(Qe C)])]) (fun D p z A C=>k (V.sl 1 D) [(.live false [(V.sl 1 p),(Qe z),(Qe A)]),(.live true [(Qe C)])])))
 | _,_=>none
theorem zyY(L:Nat)(β:Type)(args:List V)(bor:Bor)(k:KK β)(r:β)(h:zke z4 L β args bor k=some r):xq zm9 (zm7 zam L) L ziS args bor k=some r:=by
 unfold zke at h
 split at h
 ·have q:=zeD h; clear h; obtain ⟨rfl,h⟩:=q
  have q:=zya h; clear h; obtain ⟨rfl,h⟩:=q
  have q:=xL h; clear h; obtain ⟨p,rfl,h⟩:=q
  have q:=yy h; clear h; obtain ⟨z,rfl,h⟩:=q
  have q:=yy h; clear h; obtain ⟨A,rfl,h⟩:=q
  have q:=yy h; clear h; obtain ⟨C,rfl,h⟩:=q
  exact (zx3 zam L p z A C k).trans h
 ·cases h
def znS:CF:=⟨7,[.tmp 3],(.seq (.reg [Qv 2 (tq 0),Qi 3 (.const (.gs 1 []))]) (.seq (.reg [Qj 4 1 (tq 1),oo 5 (.makeFunc 167 [(tq 2)]),Qs 6 166 [(Qw 4),(Qw 5)],Qi 3 (tq 6)]) .ret))⟩
def zwb:Hint:=⟨[(0,1),(1,3)],[],[none],[],[],false,false,[]⟩
def zs7:Nat→Sh:=xT []
def ztn(z4:zj0)(L:Nat):CBC:=(xy 166 (zke z4 L) noC)
def zqf{β:Type}(z4:zj0)(L:Nat)(E:Int)(A:List (List V))(C D:Int)(z:List (List V)→List (List V)→Int→Int→Option β)(p:List (List V)→List (List V)→Int→Int→Option β):Option β:=z4 β L A C D E (fun F G H I P=>z F G H I) (fun J M N O Q=>p J M N O)
theorem zDB{β:Type}(z4:zj0)(L:Nat)(C:Int)(p:List (List V))(z A:Int)(k:KK β):xq zs7 (ztn z4 L) L znS [(Qe C),(V.ptr 0 0)] [(.live false [(V.ptr 1 0)]),(.live false [(V.sl 1 p),(Qe z),(Qe A)])] k=zqf z4 L C p z A (fun C p z A=>k (V.gs 1 C) [(.live false [(V.ptr 1 0)]),(.live false [(V.sl 1 p),(Qe z),(Qe A)])]) (fun C p z A=>k (V.sl 1 C) [(.live false [(V.ptr 1 0)]),(.live false [(V.sl 1 p),(Qe z),(Qe A)])]):=by kernel_rfl
abbrev zH:=∀ (β:Type),Nat→Int→List (List V)→Int→Int→(List (List V)→List (List V)→Int→Int→Option β)→(List (List V)→List (List V)→Int→Int→Option β)→Option β
def yf(β:Type)(L:Nat)(E:Int)(A:List (List V))(C D:Int)(z:List (List V)→List (List V)→Int→Int→Option β)(p:List (List V)→List (List V)→Int→Int→Option β):Option β:=zqf z4 L E A C D z p
def zqj(yf:zH)(L:Nat)(β:Type)(args:List V)(bor:Bor)(k:KK β):Option β:=match args,bor with
 | [a0,a1],[(.live false [w0_0]),(.live false [w1_0,w1_1,w1_2])]=>aI .i64 a0 fun C=>aP 0 0 a1 (aP 1 0 w0_0 (aL 1 w1_0 fun p=>aI .i64 w1_1 fun z=>aI .i64 w1_2 fun A=>yf β L C p z A (fun C p z A=>k (V.gs 1 C) [(.live false [(V.ptr 1 0)]),(.live false [(V.sl 1 p),(Qe z),(Qe A)])]) (fun C p z A=>k (V.sl 1 C) [(.live false [(V.ptr 1 0)]),(.live false [(V.sl 1 p),(Qe z),(Qe A)])])))
 | _,_=>none
theorem zDL(L:Nat)(β:Type)(args:List V)(bor:Bor)(k:KK β)(r:β)(h:zqj yf L β args bor k=some r):xq zs7 (ztn z4 L) L znS args bor k=some r:=by
 unfold zqj at h
 split at h
 ·have q:=yy h; clear h; obtain ⟨C,rfl,h⟩:=q
  have q:=zeD h; clear h; obtain ⟨rfl,h⟩:=q
  have q:=zeD h; clear h; obtain ⟨rfl,h⟩:=q
  have q:=xL h; clear h; obtain ⟨p,rfl,h⟩:=q
  have q:=yy h; clear h; obtain ⟨z,rfl,h⟩:=q
  have q:=yy h; clear h; obtain ⟨A,rfl,h⟩:=q
  exact (zDB z4 L C p z A k).trans h
 ·cases h
def zbg:CC:=(.seq (.reg [Qp 79 .lss (tq 78) (tq 77)]) (.seq (.cond (tq 79) .skip (.seq (.mask (bl 16528282690043758249874 129) (bl 680564733833211346651751552939242551295 129)) (.exit 6))) (.seq (.block 7 (.dreg [] [(Ql 80 1 (tq 10),q0),(Qj 81 1 (tq 80),ql 10 [71] [91,92]),(Qh 82 (tq 13),q0),(Ql 83 1 (tq 10),q0),(Qj 84 1 (tq 83),ql 10 [] [91]),(Qh 85 (tq 13),q0),(Qo 86 35 (tq 84) (tq 85),q0),(Ql 87 34 (tq 86),q0),(oo 88 (.load false 1 (tq 87) true),ql 71 [10] [91]),(Qh 89 (tq 9),q0),(oo 90 (.callv (tq 89) [((Qf 520),0)] []),qc [10,71] []),(oo 91 (.buildSlice 1 1 [(.sl 1 [])] [(0,1,(tq 90))]),qn [10,71] []),(oo 92 (.append 1 24 (tq 88) (tq 91)),qn [10] []),(Qo 93 35 (tq 81) (tq 82),q0),(Ql 94 34 (tq 93),q0),(Qm 1 (tq 94) (tq 92),q0)])) (.reg [Qp 95 .add (tq 78) (Qf 1),Qh 78 (tq 95)]))))
def zfB:CC:=(.reg [Qp 96 .add (tq 73) (Qf 1),Qh 73 (tq 96)])
def zck:CC:=(.seq (.reg [Qp 74 .lss (tq 73) (tq 72)]) (.seq (.cond (tq 74) .skip (.seq (.mask (bl 2361183241434822608018 129) (bl 680564733833211195536024101110595704831 129)) (.exit 4))) (.seq (.block 5 (.seq (.reg [Qh 75 (tq 73),Qh 13 (tq 75)]) (.seq (.reg [Qh 76 (tq 8),oo 77 (.callv (tq 76) [((.const (.sc (.int .u64 32))),0)] []),Qh 78 (Qf 0)]) (.block 6 (.loop (bl 469875465045529698772882 129) (bl 680564733833211346651751552939242551295 129) zbg))))) zfB)))
def zdK:CC:=(.seq (.reg [Qp 48 .lss (tq 47) (tq 46)]) (.seq (.cond (tq 48) .skip (.seq (.mask (bl 1938 129) (bl 680564733841876926896772129843851552767 129)) (.exit 2))) (.seq (.block 3 (.seq (.reg [Qj 49 1 (tq 7),oo 50 (.call 162 [(Qw 49),((.const (.fn 173 [])),0)] []),Qh 12 (tq 50)]) (.seq (.seq (.reg [Qh 51 (tq 12),oo 52 (.bin .geq (tq 51) (.const (.sc (.int .u64 9223372036854775808))))]) (.cond (tq 52) (.reg [Qj 53 1 (tq 7),oo 54 (.nilCheck (tq 53)),Ql 55 2 (tq 54),Qm 1 (tq 55) (Qf 90)]) .skip)) (.dreg [] [(Ql 56 2 (tq 10),q0),(oo 57 (.load false 1 (tq 56) true),ql 10 [] [63]),(Qh 58 (tq 12),q0),(Qu 59 .i64 (tq 58),q0),(Qh 60 (tq 9),q0),(oo 61 (.callv (tq 60) [((Qf 520),0)] []),qc [10] []),(oo 62 (.build [(.sc (.int .i64 0)),(.gs 1 [])] [(0,1,(tq 59)),(1,1,(tq 61))]),q0),(oo 63 (.buildSlice 2 1 [(.sc (.int .i64 0)),(.sl 1 [])] [(0,2,(tq 62))]),qn [10] []),(oo 64 (.append 2 32 (tq 57) (tq 63)),q0),(Ql 65 2 (tq 10),q0),(Qm 1 (tq 65) (tq 64),q0)])))) (.reg [Qp 66 .add (tq 47) (Qf 1),Qh 47 (tq 66)]))))
def zeb:CC:=(.seq (.reg [Qp 26 .lss (tq 25) (tq 24)]) (.seq (.cond (tq 26) .skip (.seq (.mask (bl 1938 129) (bl 680564733841876926926749208193183774719 129)) (.exit 0))) (.seq (.block 1 (.seq (.reg [oo 11 (.alloc true (rp 32 (.sc (.int .u8 0)) (rp 2 (.sc (.int .u32 0)) (rp 1 (.gs 1 []) []))))]) (.seq (.reg [Qj 27 1 (tq 7),oo 28 (.call 171 [(Qw 27),((.const (.fn 172 [])),0)] []),Ql 29 0 (tq 11),Ql 30 0 (tq 29),Qm 32 (tq 30) (tq 28)]) (.seq (.reg [Qj 31 1 (tq 7),oo 32 (.call 169 [(Qw 31),((.const (.fn 170 [])),0)] []),Ql 33 0 (tq 11),Ql 34 32 (tq 33),Qm 1 (tq 34) (tq 32)]) (.seq (.reg [Qj 35 1 (tq 7),oo 36 (.call 169 [(Qw 35),((.const (.fn 170 [])),0)] []),Ql 37 33 (tq 11),Qm 1 (tq 37) (tq 36)]) (.reg [Ql 38 1 (tq 10),oo 39 (.load false 1 (tq 38) true),Qk 40 35 (tq 11),oo 41 (.buildSlice 35 1 (rp 32 (.sc (.int .u8 0)) (rp 2 (.sc (.int .u32 0)) (rp 1 (.sl 1 []) []))) [(0,35,(tq 40))]),oo 42 (.appendF 35 64 (tq 39) (tq 41)),Ql 43 1 (tq 10),Qm 1 (tq 43) (tq 42)])))))) (.reg [Qp 44 .add (tq 25) (Qf 1),Qh 25 (tq 44)]))))
def zjy:CC:=(.seq (.seq (.reg [Qj 97 1 (tq 7),oo 98 (.nilCheck (tq 97)),Ql 99 2 (tq 98),Qj 100 1 (tq 99),Qp 101 .eql (tq 100) (Qf 0),Qh 102 (tq 101),⟨(some 103),false,(some (102,true)),.load false 1 (tq 7) false⟩,⟨(some 104),false,(some (102,true)),.nilCheck (tq 103)⟩,⟨(some 105),false,(some (102,true)),.fieldAddr 1 (tq 104)⟩,⟨(some 106),false,(some (102,true)),.load false 1 (tq 105) false⟩,⟨(some 107),false,(some (102,true)),.move (tq 1) false⟩,⟨(some 108),false,(some (102,true)),.bin .sub (tq 106) (tq 107)⟩,⟨(some 109),false,(some (102,true)),.bin .gtr (tq 108) (Qf 20000)⟩,oo 110 (.pick (tq 102) (tq 109) (Qg false))]) (.cond (tq 110) (.reg [Qj 111 1 (tq 7),oo 112 (.nilCheck (tq 111)),Ql 113 2 (tq 112),Qm 1 (tq 113) (Qf 4)]) .skip)) (.seq (.seq (.reg [Qj 114 1 (tq 7),oo 115 (.nilCheck (tq 114)),Ql 116 2 (tq 115),Qj 117 1 (tq 116),Qp 118 .neq (tq 117) (Qf 0)]) (.cond (tq 118) (.seq (.dreg [] [(oo 119 (.build [(.sc (.int .u32 0)),(.sl 35 []),(.sl 2 []),(.sc (.int .u32 0))] []),q0),(Qj 120 1 (tq 7),ql 7 [4] []),(oo 121 (.nilCheck (tq 120)),q0),(Ql 122 2 (tq 121),q0),(Qj 123 1 (tq 122),qc [4] []),(Qm 4 (tq 4) (tq 119),ql 4 [7] []),(Qh 5 (Qf 0),q0),(Qh 6 (tq 123),q0)]) .ret) .skip)) (.seq (.dreg [100071] [(oo 124 (.loadS 4 (tq 10)),qc [7] []),(Qj 125 1 (tq 7),ql 7 [4] []),(oo 126 (.nilCheck (tq 125)),q0),(Ql 127 1 (tq 126),q0),(Qj 128 1 (tq 127),qc [4] []),(Qm 4 (tq 4) (tq 124),ql 4 [7] []),(Qh 5 (tq 128),q0),(Qh 6 (Qf 0),q0)]) .ret)))
def zhR:CC:=(.seq (.reg [Qj 67 1 (tq 7),oo 68 (.call 169 [(Qw 67),((.const (.fn 170 [])),0)] []),Ql 69 3 (tq 10),Qm 1 (tq 69) (tq 68)]) (.seq (.seq (.reg [Ql 70 1 (tq 10),oo 71 (.pinC false 35 (tq 70)),Qr 72 (tq 71),Qh 73 (Qf 0)]) (.block 4 (.loop (bl 16528282690043758249874 129) (bl 680564733833211195536024101110595704831 129) zck))) zjy))
def zi0:CC:=(.seq (.seq (.reg [Qh 45 (tq 8),oo 46 (.callv (tq 45) [((.const (.sc (.int .u64 64))),0)] []),Qh 47 (Qf 0)]) (.block 2 (.loop (bl 211106232534930 129) (bl 680564733841876926896772129843851552767 129) zdK))) zhR)
def zcM:CF:=⟨129,[.cell 4 true 4,.tmp 5,.tmp 6],(.seq (.reg [oo 4 (.alloc true [(.sc (.int .u32 0)),(.gs 35 []),(.gs 2 []),(.sc (.int .u32 0))]),Qh 5 (Qf 0),Qh 6 (Qf 0)]) (.seq (.reg [Qh 14 (tq 0),Qh 15 (tq 1),oo 16 (.build [(.gs 1 []),(.sc (.int .i64 0)),(.sc (.int .i64 0))] [(0,1,(tq 14)),(1,1,(tq 15))]),oo 17 (.box false (tq 16)),oo 7 (.alloc false [(.sc (.pointer none))]),Qm 1 (tq 7) (tq 17)]) (.seq (.reg [oo 18 (.makeFunc 161 [(tq 7)]),Qh 8 (tq 18)]) (.seq (.reg [oo 19 (.makeFunc 165 [(tq 7)]),Qh 9 (tq 19)]) (.seq (.reg [oo 10 (.alloc false [(.sc (.int .u32 0)),(.fr 35 []),(.gs 2 []),(.sc (.int .u32 0))])]) (.seq (.reg [Qj 20 1 (tq 7),oo 21 (.call 169 [(Qw 20),((.const (.fn 170 [])),0)] []),Ql 22 0 (tq 10),Qm 1 (tq 22) (tq 21)]) (.seq (.seq (.reg [Qh 23 (tq 8),oo 24 (.callv (tq 23) [((.const (.sc (.int .u64 64))),0)] []),Qh 25 (Qf 0)]) (.block 0 (.loop (bl 50333586 129) (bl 680564733841876926926749208193183774719 129) zeb))) zi0)))))))⟩
def zyS:Hint:=⟨[(0,0),(8,0),(12,1),(19,1),(27,8)],[],[none,some ((bl 50333586 129),(bl 680564733841876926926749208193183774719 129)),none,some ((bl 1938 129),(bl 680564733841876926926749208193183774719 129)),none,none,some ((bl 211106232534930 129),(bl 680564733841876926896772129843851552767 129)),none,some ((bl 1938 129),(bl 680564733841876926896772129843851552767 129)),none,none,none,some ((bl 16528282690043758249874 129),(bl 680564733833211195536024101110595704831 129)),none,some ((bl 2361183241434822608018 129),(bl 680564733833211195536024101110595704831 129)),none,none,some ((bl 469875465045529698772882 129),(bl 680564733833211346651751552939242551295 129)),none,some ((bl 16528282690043758249874 129),(bl 680564733833211346651751552939242551295 129)),none,none,none,none,none],[(34,[100071])],[(1,2,[0]),(19,6,[0]),(4,0,[1]),(12,4,[0]),(22,1,[1]),(34,0,[1,1])],false,false,[(27,71)]⟩
def xS:Nat→Sh:=xT [(88,(.gs 1))]
def yS(yc:yv)(xf:xG)(xb:zt)(xa:zq)(yf:zH)(L:Nat):CBC:=(xy 165 (zqj yf L) (xy 162 (zgw xa L) (xy 171 (zg6 xb L) (xy 161 (zp8 xf L) (xy 169 (zjc yc L) noC)))))
def zg5:St→St:=zab 0 (bl 50333586 129) (bl 680564733841876926926749208193183774719 129)
def zgl:St→St:=zab 0 (bl 211106232534930 129) (bl 680564733841876926896772129843851552767 129)
def zbC:St→St:=zab 0 (bl 16528282690043758249874 129) (bl 680564733833211195536024101110595704831 129)
def zcC:St→St:=zab 0 (bl 469875465045529698772882 129) (bl 680564733833211346651751552939242551295 129)
def zeW(O M N G:Int)(H I:List (List V))(J p:Int)(z A:List (List V))(C:Int)(D:List (List V))(E F:Int):St:=⟨(jn 1 ((Qe O)::(jn 2 ((V.ptr 4 0)::(jn 2 ((V.ptr 7 0)::((V.fn 161 [(V.ptr 7 0)])::((V.fn 165 [(V.ptr 7 0)])::((V.ptr 10 0)::(jn 13 ((Qe M)::((Qe N)::(jn 103 []))))))))))))),(gn 4 ((.live true [(Qc G),(V.gs 35 H),(V.gs 2 I),(Qc J)])::(gn 2 ((.live false [(V.ptr 17 0)])::(gn 2 ((.live false [(Qc p),(V.fr 35 z),(V.gs 2 A),(Qc C)])::(gn 6 ((.live false [(V.sl 1 D),(Qe E),(Qe F)])::(gn 111 [])))))))))⟩
def zmC(M G:Int)(H I:List (List V))(J p:Int)(z A:List (List V))(C:Int)(D:List (List V))(E F:Int):St:=⟨(jn 1 ((Qe M)::(jn 2 ((V.ptr 4 0)::(jn 2 ((V.ptr 7 0)::((V.fn 161 [(V.ptr 7 0)])::((V.fn 165 [(V.ptr 7 0)])::((V.ptr 10 0)::(jn 118 [])))))))))),(gn 4 ((.live true [(Qc G),(V.gs 35 H),(V.gs 2 I),(Qc J)])::(gn 2 ((.live false [(V.ptr 17 0)])::(gn 2 ((.live false [(Qc p),(V.fr 35 z),(V.gs 2 A),(Qc C)])::(gn 6 ((.live false [(V.sl 1 D),(Qe E),(Qe F)])::(gn 111 [])))))))))⟩
def zeA(O M N G:Int)(H I:List (List V))(J p:Int)(z A:List (List V))(C:Int)(D:List (List V))(E F:Int):St:=⟨(jn 1 ((Qe O)::(jn 2 ((V.ptr 4 0)::(jn 2 ((V.ptr 7 0)::((V.fn 161 [(V.ptr 7 0)])::((V.fn 165 [(V.ptr 7 0)])::((V.ptr 10 0)::(jn 35 ((Qe M)::((Qe N)::(jn 81 []))))))))))))),(gn 4 ((.live true [(Qc G),(V.gs 35 H),(V.gs 2 I),(Qc J)])::(gn 2 ((.live false [(V.ptr 17 0)])::(gn 2 ((.live false [(Qc p),(V.fr 35 z),(V.gs 2 A),(Qc C)])::(gn 6 ((.live false [(V.sl 1 D),(Qe E),(Qe F)])::(gn 111 [])))))))))⟩
def zmK(M G:Int)(H I:List (List V))(J p:Int)(z A:List (List V))(C:Int)(D:List (List V))(E F:Int):St:=⟨(jn 1 ((Qe M)::(jn 2 ((V.ptr 4 0)::(jn 2 ((V.ptr 7 0)::((V.fn 161 [(V.ptr 7 0)])::((V.fn 165 [(V.ptr 7 0)])::((V.ptr 10 0)::(jn 118 [])))))))))),(gn 4 ((.live true [(Qc G),(V.gs 35 H),(V.gs 2 I),(Qc J)])::(gn 2 ((.live false [(V.ptr 17 0)])::(gn 2 ((.live false [(Qc p),(V.fr 35 z),(V.gs 2 A),(Qc C)])::(gn 6 ((.live false [(V.sl 1 D),(Qe E),(Qe F)])::(gn 111 [])))))))))⟩
def zbD(Q:Int)(G:Nat)(N O H:Int)(I J:List (List V))(M z:Int)(p:Nat)(A:List (List V))(C:Int)(D:List (List V))(E F:Int)(P:List V):St:=⟨(jn 1 ((Qe Q)::(jn 2 ((V.ptr 4 0)::(jn 2 ((V.ptr 7 0)::((V.fn 161 [(V.ptr 7 0)])::((V.fn 165 [(V.ptr 7 0)])::((V.ptr 10 0)::(jn 60 ((V.own 71 0 G 35)::((Qe N)::((Qe O)::(jn 55 [])))))))))))))),(gn 4 ((.live true [(Qc H),(V.gs 35 I),(V.gs 2 J),(Qc M)])::(gn 2 ((.live false [(V.ptr 17 0)])::(gn 2 ((.live false [(Qc z),(V.own 71 0 p 35),(V.gs 2 A),(Qc C)])::(gn 6 ((.live false [(V.sl 1 D),(Qe E),(Qe F)])::(gn 53 ((.live false P)::(gn 57 [])))))))))))⟩
def zb0(T N:Int)(G:Nat)(O P Q R H:Int)(I J:List (List V))(M z:Int)(p:Nat)(A:List (List V))(C:Int)(D:List (List V))(E F:Int)(S:List V):St:=⟨(jn 1 ((Qe T)::(jn 2 ((V.ptr 4 0)::(jn 2 ((V.ptr 7 0)::((V.fn 161 [(V.ptr 7 0)])::((V.fn 165 [(V.ptr 7 0)])::((V.ptr 10 0)::(jn 2 ((Qe N)::(jn 57 ((V.own 71 0 G 35)::((Qe O)::((Qe P)::(jn 3 ((Qe Q)::((Qe R)::(jn 50 []))))))))))))))))))),(gn 4 ((.live true [(Qc H),(V.gs 35 I),(V.gs 2 J),(Qc M)])::(gn 2 ((.live false [(V.ptr 17 0)])::(gn 2 ((.live false [(Qc z),(V.own 71 0 p 35),(V.gs 2 A),(Qc C)])::(gn 6 ((.live false [(V.sl 1 D),(Qe E),(Qe F)])::(gn 53 ((.live false S)::(gn 57 [])))))))))))⟩
def zmx(O:Int)(G:Nat)(H:Int)(I J:List (List V))(M z:Int)(p:Nat)(A:List (List V))(C:Int)(D:List (List V))(E F:Int)(N:List V):St:=⟨(jn 1 ((Qe O)::(jn 2 ((V.ptr 4 0)::(jn 2 ((V.ptr 7 0)::(jn 2 ((V.ptr 10 0)::(jn 60 ((V.own 71 0 G 35)::(jn 57 []))))))))))),(gn 4 ((.live true [(Qc H),(V.gs 35 I),(V.gs 2 J),(Qc M)])::(gn 2 ((.live false [(V.ptr 17 0)])::(gn 2 ((.live false [(Qc z),(V.own 71 0 p 35),(V.gs 2 A),(Qc C)])::(gn 6 ((.live false [(V.sl 1 D),(Qe E),(Qe F)])::(gn 53 ((.live false N)::(gn 57 [])))))))))))⟩
def zrc(Q:Int)(G:Nat)(N O H:Int)(I J:List (List V))(M z:Int)(p:Nat)(A:List (List V))(C:Int)(D:List (List V))(E F:Int)(P:List V):St:=⟨(jn 1 ((Qe Q)::(jn 2 ((V.ptr 4 0)::(jn 2 ((V.ptr 7 0)::((V.fn 161 [(V.ptr 7 0)])::((V.fn 165 [(V.ptr 7 0)])::((V.ptr 10 0)::(jn 60 ((V.own 71 0 G 35)::((Qe N)::((Qe O)::(jn 55 [])))))))))))))),(gn 4 ((.live true [(Qc H),(V.gs 35 I),(V.gs 2 J),(Qc M)])::(gn 2 ((.live false [(V.ptr 17 0)])::(gn 2 ((.live false [(Qc z),(V.own 71 0 p 35),(V.gs 2 A),(Qc C)])::(gn 6 ((.live false [(V.sl 1 D),(Qe E),(Qe F)])::(gn 53 ((.live false P)::(gn 57 [])))))))))))⟩
abbrev zgd(β:Type):Type:=Int→Int→Int→Int→List (List V)→List (List V)→Int→Int→List (List V)→List (List V)→Int→List (List V)→Int→Int→Option β
abbrev zjq(β:Type):Type:=Int→Int→List (List V)→List (List V)→Int→Int→List (List V)→List (List V)→Int→List (List V)→Int→Int→Option β
abbrev zfr(β:Type):Type:=Int→Int→Int→Int→List (List V)→List (List V)→Int→Int→List (List V)→List (List V)→Int→List (List V)→Int→Int→Option β
abbrev zjn(β:Type):Type:=Int→Int→List (List V)→List (List V)→Int→Int→List (List V)→List (List V)→Int→List (List V)→Int→Int→Option β
abbrev zht(β:Type):Type:=Int→Nat→Int→Int→Int→List (List V)→List (List V)→Int→Int→Nat→List (List V)→Int→List (List V)→Int→Int→List V→Option β
abbrev zcx(β:Type):Type:=Int→Int→Nat→Int→Int→Int→Int→Int→List (List V)→List (List V)→Int→Int→Nat→List (List V)→Int→List (List V)→Int→Int→List V→Option β
abbrev zlZ(β:Type):Type:=Int→Nat→Int→List (List V)→List (List V)→Int→Int→Nat→List (List V)→Int→List (List V)→Int→Int→List V→Option β
abbrev zhK(β:Type):Type:=Int→Nat→Int→Int→Int→List (List V)→List (List V)→Int→Int→Nat→List (List V)→Int→List (List V)→Int→Int→List V→Option β
def zul{β:Type}(yc:yv)(xf:xG)(xb:zt)(xa:zq)(yf:zH)(L:Nat)(A:List (List V))(z:Int)(p:zgd β):Option β:=yc β L A z (0:Int) (fun C D E F=>xf β L (64:Int) D E F (fun G H I J=>p z G (0:Int) (0:Int) ([]:List (List V)) ([]:List (List V)) (0:Int) C ([]:List (List V)) ([]:List (List V)) (0:Int) H I J))
theorem zGb{β:Type}(yc:yv)(xf:xG)(xb:zt)(xa:zq)(yf:zH)(L:Nat)(N:List (List V))(p:Int)(k:KK β):xq xS (yS yc xf xb xa yf L) L zcM [(V.sl 1 N),(Qe p)] [] k=zul yc xf xb xa yf L N p (fun p O P H I J M z A C D E F G=>zw (xj xS (yS yc xf xb xa yf L) 0 L zeb) zg5 L (zeW p O P H I J M z A C D E F G) (yo 0 (zE (xj xS (yS yc xf xb xa yf L) 0 L zi0) (yQ 0 (CF.res zcM) k)))):=by kernel_rfl
def zdj{β:Type}(yc:yv)(xf:xG)(xb:zt)(xa:zq)(yf:zH)(L:Nat)(T O P I:Int)(J M:List (List V))(N C:Int)(p D:List (List V))(E:Int)(F:List (List V))(G H:Int)(z:zgd β)(S:zjq β):Option β:=ifb (decide (P<O)) (xb β L F G H (fun U v9 W X=>chk ((XM U)=32∧0+32≤35) (lt (xm (We 32 (Qa (0:Int))++[(Qc (0:Int)),(Qc (0:Int)),(V.gs 1 ([]:List (List V)))]) 0 U) fun Q=>yc β L v9 W X (fun Y Z aa ab=>chk (1=1∧32+1≤(XM Q)) (lt (xm Q 32 [(Qc Y)]) fun R=>yc β L Z aa ab (fun ac ad ae af=>chk (1=1∧33+1≤(XM R)) (lt (xm R 33 [(Qc ac)]) fun A=>chk (0+35≤(XM A)) (chk ((XM (XN 35 A))=35∧0+35≤35) (chk ((XM p+XM (zl 35 1 (xm (We 32 (Qa (0:Int))++[(Qc (0:Int)),(Qc (0:Int)),(V.sl 1 ([]:List (List V)))]) 0 (XN 35 A))))*64≤yn∧XM p+XM (zl 35 1 (xm (We 32 (Qa (0:Int))++[(Qc (0:Int)),(Qc (0:Int)),(V.sl 1 ([]:List (List V)))]) 0 (XN 35 A)))≤yn∧XM p+XM (zl 35 1 (xm (We 32 (Qa (0:Int))++[(Qc (0:Int)),(Qc (0:Int)),(V.sl 1 ([]:List (List V)))]) 0 (XN 35 A)))≠0) (lt (p++(zl 35 1 (xm (We 32 (Qa (0:Int))++[(Qc (0:Int)),(Qc (0:Int)),(V.sl 1 ([]:List (List V)))]) 0 (XN 35 A)))) fun ag=>lt (QF .i64 ((P:Int)+(1:Int))) fun ah=>z T O ah I J M N C ag D E ad ae af)))))))))) (S T I J M N C p D E F G H)
theorem zvL{β:Type}(yc:yv)(xf:xG)(xb:zt)(xa:zq)(yf:zH)(L:Nat)(O M N G:Int)(H I:List (List V))(J p:Int)(z A:List (List V))(C:Int)(D:List (List V))(E F:Int)(X:St→Option β)(K:KT β):xj xS (yS yc xf xb xa yf L) 0 L zeb (zeW O M N G H I J p z A C D E F) (zU zg5 X K)=zdj yc xf xb xa yf L O M N G H I J p z A C D E F (fun O M N G H I J p z A C D E F=>X (zeW O M N G H I J p z A C D E F)) (fun O G H I J p z A C D E F=>K (.exit 0) (zmC O G H I J p z A C D E F)):=by kernel_rfl
def zdN{β:Type}(yc:yv)(xf:xG)(xb:zt)(xa:zq)(yf:zH)(L:Nat)(R H:Int)(I J:List (List V))(M z:Int)(A C:List (List V))(D:Int)(E:List (List V))(F G:Int)(p:zfr β):Option β:=xf β L (64:Int) E F G (fun N O P Q=>p R N (0:Int) H I J M z A C D O P Q)
theorem ztB{β:Type}(yc:yv)(xf:xG)(xb:zt)(xa:zq)(yf:zH)(L:Nat)(M G:Int)(H I:List (List V))(J p:Int)(z A:List (List V))(C:Int)(D:List (List V))(E F:Int)(k:KK β):(yo 0 (zE (xj xS (yS yc xf xb xa yf L) 0 L zi0) (yQ 0 (CF.res zcM) k))) (.exit 0) (zmC M G H I J p z A C D E F)=zdN yc xf xb xa yf L M G H I J p z A C D E F (fun M N O G H I J p z A C D E F=>zw (xj xS (yS yc xf xb xa yf L) 0 L zdK) zgl L (zeA M N O G H I J p z A C D E F) (yo 2 (zE (xj xS (yS yc xf xb xa yf L) 0 L zhR) (yQ 0 (CF.res zcM) k)))):=by kernel_rfl
def zc3{β:Type}(yc:yv)(xf:xG)(xb:zt)(xa:zq)(yf:zH)(L:Nat)(R M N E:Int)(F G:List (List V))(H A:Int)(C p:List (List V))(D:Int)(O:List (List V))(P Q:Int)(z:zfr β)(aa:zjn β):Option β:=ifb (decide (N<M)) (xa β L O P Q (fun S Y Z ab=>ifb (decide (S≥(9223372036854775808:Int))) (lt (QF .i64 S) fun I=>yf β L (520:Int) Y Z (90:Int) (fun T ac ad ae=>chk ((XM p+XM (zl 2 1 [(Qe I),(V.sl 1 T)]))*32≤yn∧XM p+XM (zl 2 1 [(Qe I),(V.sl 1 T)])≤yn) (lt (p++(zl 2 1 [(Qe I),(V.sl 1 T)])) fun af=>lt (QF .i64 ((N:Int)+(1:Int))) fun ag=>z R M ag E F G H A C af D ac ad ae)) (fun U ah ai aj=>chk ((XM p+XM (zl 2 1 [(Qe I),(V.sl 1 U)]))*32≤yn∧XM p+XM (zl 2 1 [(Qe I),(V.sl 1 U)])≤yn) (lt (p++(zl 2 1 [(Qe I),(V.sl 1 U)])) fun ak=>lt (QF .i64 ((N:Int)+(1:Int))) fun al=>z R M al E F G H A C ak D ah ai aj))) (lt (QF .i64 S) fun J=>yf β L (520:Int) Y Z ab (fun W am an ao=>chk ((XM p+XM (zl 2 1 [(Qe J),(V.sl 1 W)]))*32≤yn∧XM p+XM (zl 2 1 [(Qe J),(V.sl 1 W)])≤yn) (lt (p++(zl 2 1 [(Qe J),(V.sl 1 W)])) fun ap=>lt (QF .i64 ((N:Int)+(1:Int))) fun aq=>z R M aq E F G H A C ap D am an ao)) (fun X ar au av=>chk ((XM p+XM (zl 2 1 [(Qe J),(V.sl 1 X)]))*32≤yn∧XM p+XM (zl 2 1 [(Qe J),(V.sl 1 X)])≤yn) (lt (p++(zl 2 1 [(Qe J),(V.sl 1 X)])) fun aw=>lt (QF .i64 ((N:Int)+(1:Int))) fun ax=>z R M ax E F G H A C aw D ar au av))))) (aa R E F G H A C p D O P Q)
theorem zuq{β:Type}(yc:yv)(xf:xG)(xb:zt)(xa:zq)(yf:zH)(L:Nat)(O M N G:Int)(H I:List (List V))(J p:Int)(z A:List (List V))(C:Int)(D:List (List V))(E F:Int)(X:St→Option β)(K:KT β):xj xS (yS yc xf xb xa yf L) 0 L zdK (zeA O M N G H I J p z A C D E F) (zU zgl X K)=zc3 yc xf xb xa yf L O M N G H I J p z A C D E F (fun O M N G H I J p z A C D E F=>X (zeA O M N G H I J p z A C D E F)) (fun O G H I J p z A C D E F=>K (.exit 2) (zmK O G H I J p z A C D E F)):=by kernel_rfl
def zdq{β:Type}(yc:yv)(xf:xG)(xb:zt)(xa:zq)(yf:zH)(L:Nat)(S G:Int)(H I:List (List V))(J A:Int)(z C:List (List V))(R:Int)(D:List (List V))(E F:Int)(p:zht β):Option β:=yc β L D E F (fun M N O P=>lt (XR z) fun Q=>p S (XM z) (((XM z):Nat):Int) (0:Int) G H I J A (XM z) C M N O P (zbH (bl 680564733833211195536024101110595704831 129) Q))
theorem zsY{β:Type}(yc:yv)(xf:xG)(xb:zt)(xa:zq)(yf:zH)(L:Nat)(N F:Int)(G H:List (List V))(I p:Int)(J z:List (List V))(A:Int)(C:List (List V))(D E:Int)(k:KK β):(yo 2 (zE (xj xS (yS yc xf xb xa yf L) 0 L zhR) (yQ 0 (CF.res zcM) k))) (.exit 2) (zmK N F G H I p J z A C D E)=zdq yc xf xb xa yf L N F G H I p J z A C D E (fun N O P Q F G H I p M z A C D E R=>zw (xj xS (yS yc xf xb xa yf L) 0 L zck) zbC L (zbD N O P Q F G H I p M z A C D E R) (yo 4 (zE (xj xS (yS yc xf xb xa yf L) 0 L zjy) (yQ 0 (CF.res zcM) k)))):=by kernel_rfl
def zdm{β:Type}(yc:yv)(xf:xG)(xb:zt)(xa:zq)(yf:zH)(L:Nat)(S:Int)(H:Nat)(P I J:Int)(M N:List (List V))(O A:Int)(z:Nat)(C:List (List V))(D:Int)(E:List (List V))(F G:Int)(Q:List V)(p:zcx β)(R:zlZ β):Option β:=ifb (decide (I<P)) (xf β L (32:Int) E F G (fun T U W X=>p S I H P I T (0:Int) J M N O A z C D U W X (zbH (bl 680564733833211346651751552939242551295 129) Q))) (R S H J M N O A z C D E F G (zbH (bl 680564733833211195536024101110595704831 129) Q))
theorem zsE{β:Type}(yc:yv)(xf:xG)(xb:zt)(xa:zq)(yf:zH)(L:Nat)(Q:Int)(G:Nat)(O P H:Int)(I J:List (List V))(M z:Int)(p:Nat)(A:List (List V))(C:Int)(D:List (List V))(E F:Int)(N:List V)(X:St→Option β)(K:KT β):xj xS (yS yc xf xb xa yf L) 0 L zck (zbD Q G O P H I J M z p A C D E F N) (zU zbC X K)=zdm yc xf xb xa yf L Q G O P H I J M z p A C D E F N (fun Q R G O P S T H I J M z p A C D E F N=>zw (xj xS (yS yc xf xb xa yf L) 0 L zbg) zcC L (zb0 Q R G O P S T H I J M z p A C D E F N) (yo 6 (yo 5 (zE (xj xS (yS yc xf xb xa yf L) 0 L zfB) (zU zbC X K))))) (fun Q G H I J M z p A C D E F N=>K (.exit 4) (zmx Q G H I J M z p A C D E F N)):=by kernel_rfl
def yZ{β:Type}(yc:yv)(xf:xG)(xb:zt)(xa:zq)(yf:zH)(L:Nat)(Z:Int)(aa:Nat)(ab:Int)(ac ad:List (List V))(ae D:Int)(z:Nat)(E:List (List V))(F:Int)(Y:List (List V))(A C:Int)(G:List V)(p:List V→Int→Int→Option β):Option β:=ifb ((C:Int)==(0:Int)) (lt (QF .i64 ((A:Int)-Z)) fun Q=>ifb (decide (Q>(20000:Int))) (lt [(Qc (0:Int)),(V.sl 35 ([]:List (List V))),(V.sl 2 ([]:List (List V))),(Qc (0:Int))] fun H=>chk (0=0∧(XM H)=4∧4≠0) (p H (0:Int) (4:Int))) (ifb ((C:Int) != (0:Int)) (lt [(Qc (0:Int)),(V.sl 35 ([]:List (List V))),(V.sl 2 ([]:List (List V))),(Qc (0:Int))] fun I=>chk (0=0∧(XM I)=4∧4≠0) (p I (0:Int) C)) (lc G (chk (z=0) (lt [(Qc D),(V.sl 35 ([]:List (List V))),(V.sl 2 E),(Qc F)] fun J=>chk (0=0∧(XM J)=4∧4≠0) (p J A (0:Int)))) (fun R S=>zdU (R::S) fun T=>lt [(Qc D),(V.sl 35 (zl 35 z T)),(V.sl 2 E),(Qc F)] fun M=>chk (0=0∧(XM M)=4∧4≠0) (p M A (0:Int)))))) (ifb ((C:Int) != (0:Int)) (lt [(Qc (0:Int)),(V.sl 35 ([]:List (List V))),(V.sl 2 ([]:List (List V))),(Qc (0:Int))] fun N=>chk (0=0∧(XM N)=4∧4≠0) (p N (0:Int) C)) (lc G (chk (z=0) (lt [(Qc D),(V.sl 35 ([]:List (List V))),(V.sl 2 E),(Qc F)] fun O=>chk (0=0∧(XM O)=4∧4≠0) (p O A (0:Int)))) (fun U W=>zdU (U::W) fun X=>lt [(Qc D),(V.sl 35 (zl 35 z X)),(V.sl 2 E),(Qc F)] fun P=>chk (0=0∧(XM P)=4∧4≠0) (p P A (0:Int)))))
theorem zrq{β:Type}(yc:yv)(xf:xG)(xb:zt)(xa:zq)(yf:zH)(L:Nat)(R:Int)(G:Nat)(H:Int)(I J:List (List V))(M z:Int)(p:Nat)(A:List (List V))(C:Int)(D:List (List V))(E F:Int)(N:List V)(k:KK β):(yo 4 (zE (xj xS (yS yc xf xb xa yf L) 0 L zjy) (yQ 0 (CF.res zcM) k))) (.exit 4) (zmx R G H I J M z p A C D E F N)=yZ yc xf xb xa yf L R G H I J M z p A C D E F N (fun O P Q=>k (V.tup [(V.agg O),(Qe P),(Qe Q)]) []):=by kernel_rfl
def zaf{β:Type}(yc:yv)(xf:xG)(xb:zt)(xa:zq)(yf:zH)(L:Nat)(Y z:Int)(H:Nat)(R S T U I:Int)(J M:List (List V))(N E:Int)(A:Nat)(F:List (List V))(G:Int)(O:List (List V))(P Q:Int)(D:List V)(p:zcx β)(Z:zhK β):Option β:=ifb (decide (U<T)) (chk (0≤z∧z<((A:Nat):Int)) (cG 1 D ((0+((XO z)*35))+34) fun C=>yf β L (520:Int) O P Q (fun W aa ab ac=>chk ((XM C+XM (zl 1 1 [(V.sl 1 W)]))*24≤yn∧XM C+XM (zl 1 1 [(V.sl 1 W)])≤yn) (lt (C++(zl 1 1 [(V.sl 1 W)])) fun ad=>chk (0≤z∧z<((A:Nat):Int)) (chk (1=1∧((0+((XO z)*35))+34)<(XM (XQ D ((0+((XO z)*35))+34) (V.sl 1 C)))) (lt (QF .i64 ((U:Int)+(1:Int))) fun ae=>p Y z H R S T ae I J M N E A F G aa ab ac (zbH (bl 680564733833211346651751552939242551295 129) (XQ (XQ D ((0+((XO z)*35))+34) (V.sl 1 C)) ((0+((XO z)*35))+34) (V.gs 1 ad))))))) (fun X af ag ah=>chk ((XM C+XM (zl 1 1 [(V.sl 1 X)]))*24≤yn∧XM C+XM (zl 1 1 [(V.sl 1 X)])≤yn) (lt (C++(zl 1 1 [(V.sl 1 X)])) fun ai=>chk (0≤z∧z<((A:Nat):Int)) (chk (1=1∧((0+((XO z)*35))+34)<(XM (XQ D ((0+((XO z)*35))+34) (V.sl 1 C)))) (lt (QF .i64 ((U:Int)+(1:Int))) fun aj=>p Y z H R S T aj I J M N E A F G af ag ah (zbH (bl 680564733833211346651751552939242551295 129) (XQ (XQ D ((0+((XO z)*35))+34) (V.sl 1 C)) ((0+((XO z)*35))+34) (V.gs 1 ai))))))))) (Z Y H R S I J M N E A F G O P Q (zbH (bl 680564733833211346651751552939242551295 129) D))
theorem zmZ{β:Type}(yc:yv)(xf:xG)(xb:zt)(xa:zq)(yf:zH)(L:Nat)(T Q:Int)(G:Nat)(N O R S H:Int)(I J:List (List V))(M z:Int)(p:Nat)(A:List (List V))(C:Int)(D:List (List V))(E F:Int)(P:List V)(X:St→Option β)(K:KT β):xj xS (yS yc xf xb xa yf L) 0 L zbg (zb0 T Q G N O R S H I J M z p A C D E F P) (zU zcC X K)=zaf yc xf xb xa yf L T Q G N O R S H I J M z p A C D E F P (fun T Q G N O R S H I J M z p A C D E F P=>X (zb0 T Q G N O R S H I J M z p A C D E F P)) (fun T G N O H I J M z p A C D E F P=>K (.exit 6) (zrc T G N O H I J M z p A C D E F P)):=by kernel_rfl
def yL{β:Type}(yc:yv)(xf:xG)(xb:zt)(xa:zq)(yf:zH)(L:Nat)(S:Int)(H:Nat)(O P I:Int)(J M:List (List V))(N A:Int)(z:Nat)(C:List (List V))(D:Int)(E:List (List V))(F G:Int)(Q:List V)(p:zht β):Option β:=lt (QF .i64 ((P:Int)+(1:Int))) fun R=>p S H O R I J M N A z C D E F G (zbH (bl 680564733833211195536024101110595704831 129) Q)
theorem zlG{β:Type}(yc:yv)(xf:xG)(xb:zt)(xa:zq)(yf:zH)(L:Nat)(Q:Int)(G:Nat)(N O H:Int)(I J:List (List V))(M z:Int)(p:Nat)(A:List (List V))(C:Int)(D:List (List V))(E F:Int)(P:List V)(X:St→Option β)(K:KT β):(yo 6 (yo 5 (zE (xj xS (yS yc xf xb xa yf L) 0 L zfB) (zU zbC X K)))) (.exit 6) (zrc Q G N O H I J M z p A C D E F P)=yL yc xf xb xa yf L Q G N O H I J M z p A C D E F P (fun Q G N O H I J M z p A C D E F P=>X (zbD Q G N O H I J M z p A C D E F P)):=by kernel_rfl
def y6{β:Type}(yc:yv)(xf:xG)(xb:zt)(xa:zq)(yf:zH)(L:Nat)(M:zjq β):Nat→Int→Int→Int→Int→List (List V)→List (List V)→Int→Int→List (List V)→List (List V)→Int→List (List V)→Int→Int→Option β
 | 0,_,_,_,_,_,_,_,_,_,_,_,_,_,_=>none
 | n+1,P,N,O,G,H,I,J,p,z,A,C,D,E,F=>zdj yc xf xb xa yf L P N O G H I J p z A C D E F (fun P N O G H I J p z A C D E F=>y6 yc xf xb xa yf L M n P N O G H I J p z A C D E F) M
theorem znn{β:Type}(yc:yv)(xf:xG)(xb:zt)(xa:zq)(yf:zH)(L:Nat)(K:KT β):∀ (n:Nat) (O M N G:Int) (H I:List (List V)) (J p:Int) (z A:List (List V)) (C:Int) (D:List (List V)) (E F:Int),zw (xj xS (yS yc xf xb xa yf L) 0 L zeb) zg5 n (zeW O M N G H I J p z A C D E F) K=y6 yc xf xb xa yf L (fun O G H I J p z A C D E F=>K (.exit 0) (zmC O G H I J p z A C D E F)) n O M N G H I J p z A C D E F:=by
 intro n
 induction n with
 | zero=>intros; rfl
 | succ n ih=>
  intro O M N G H I J p z A C D E F
  refine (zvL yc xf xb xa yf L O M N G H I J p z A C D E F (fun σ=>zw (xj xS (yS yc xf xb xa yf L) 0 L zeb) zg5 n σ K) K).trans ?_
  simp only [ih]
  rfl
def zaj{β:Type}(yc:yv)(xf:xG)(xb:zt)(xa:zq)(yf:zH)(L:Nat)(M:zjn β):Nat→Int→Int→Int→Int→List (List V)→List (List V)→Int→Int→List (List V)→List (List V)→Int→List (List V)→Int→Int→Option β
 | 0,_,_,_,_,_,_,_,_,_,_,_,_,_,_=>none
 | n+1,P,N,O,G,H,I,J,p,z,A,C,D,E,F=>zc3 yc xf xb xa yf L P N O G H I J p z A C D E F (fun P N O G H I J p z A C D E F=>zaj yc xf xb xa yf L M n P N O G H I J p z A C D E F) M
theorem zl1{β:Type}(yc:yv)(xf:xG)(xb:zt)(xa:zq)(yf:zH)(L:Nat)(K:KT β):∀ (n:Nat) (O M N G:Int) (H I:List (List V)) (J p:Int) (z A:List (List V)) (C:Int) (D:List (List V)) (E F:Int),zw (xj xS (yS yc xf xb xa yf L) 0 L zdK) zgl n (zeA O M N G H I J p z A C D E F) K=zaj yc xf xb xa yf L (fun O G H I J p z A C D E F=>K (.exit 2) (zmK O G H I J p z A C D E F)) n O M N G H I J p z A C D E F:=by
 intro n
 induction n with
 | zero=>intros; rfl
 | succ n ih=>
  intro O M N G H I J p z A C D E F
  refine (zuq yc xf xb xa yf L O M N G H I J p z A C D E F (fun σ=>zw (xj xS (yS yc xf xb xa yf L) 0 L zdK) zgl n σ K) K).trans ?_
  simp only [ih]
  rfl
def zL{β:Type}(yc:yv)(xf:xG)(xb:zt)(xa:zq)(yf:zH)(L:Nat)(N:zhK β):Nat→Int→Int→Nat→Int→Int→Int→Int→Int→List (List V)→List (List V)→Int→Int→Nat→List (List V)→Int→List (List V)→Int→Int→List V→Option β
 | 0,_,_,_,_,_,_,_,_,_,_,_,_,_,_,_,_,_,_,_=>none
 | n+1,U,O,G,P,Q,R,S,H,I,J,M,z,p,A,C,D,E,F,T=>zaf yc xf xb xa yf L U O G P Q R S H I J M z p A C D E F T (fun U O G P Q R S H I J M z p A C D E F T=>zL yc xf xb xa yf L N n U O G P Q R S H I J M z p A C D E F T) N
theorem zf5{β:Type}(yc:yv)(xf:xG)(xb:zt)(xa:zq)(yf:zH)(L:Nat)(K:KT β):∀ (n:Nat) (T Q:Int) (G:Nat) (N O R S H:Int) (I J:List (List V)) (M z:Int) (p:Nat) (A:List (List V)) (C:Int) (D:List (List V)) (E F:Int) (P:List V),zw (xj xS (yS yc xf xb xa yf L) 0 L zbg) zcC n (zb0 T Q G N O R S H I J M z p A C D E F P) K=zL yc xf xb xa yf L (fun T G N O H I J M z p A C D E F P=>K (.exit 6) (zrc T G N O H I J M z p A C D E F P)) n T Q G N O R S H I J M z p A C D E F P:=by
 intro n
 induction n with
 | zero=>intros; rfl
 | succ n ih=>
  intro T Q G N O R S H I J M z p A C D E F P
  refine (zmZ yc xf xb xa yf L T Q G N O R S H I J M z p A C D E F P (fun σ=>zw (xj xS (yS yc xf xb xa yf L) 0 L zbg) zcC n σ K) K).trans ?_
  simp only [ih]
  rfl
def zcg{β:Type}(yc:yv)(xf:xG)(xb:zt)(xa:zq)(yf:zH)(L:Nat)(R:Int)(H:Nat)(O P I:Int)(J M:List (List V))(N z:Int)(p:Nat)(A:List (List V))(C:Int)(D:List (List V))(E F:Int)(Q:List V)(S:zlZ β)(G:zht β):Option β:=zdm yc xf xb xa yf L R H O P I J M N z p A C D E F Q (fun R T H O P U W I J M N z p A C D E F Q=>zL yc xf xb xa yf L (fun R H O P I J M N z p A C D E F Q=>yL yc xf xb xa yf L R H O P I J M N z p A C D E F Q G) L R T H O P U W I J M N z p A C D E F Q) S
theorem zr1{β:Type}(yc:yv)(xf:xG)(xb:zt)(xa:zq)(yf:zH)(L:Nat)(Q:Int)(G:Nat)(O P H:Int)(I J:List (List V))(M z:Int)(p:Nat)(A:List (List V))(C:Int)(D:List (List V))(E F:Int)(N:List V)(X:St→Option β)(K:KT β):xj xS (yS yc xf xb xa yf L) 0 L zck (zbD Q G O P H I J M z p A C D E F N) (zU zbC X K)=zcg yc xf xb xa yf L Q G O P H I J M z p A C D E F N (fun Q G H I J M z p A C D E F N=>K (.exit 4) (zmx Q G H I J M z p A C D E F N)) (fun Q G O P H I J M z p A C D E F N=>X (zbD Q G O P H I J M z p A C D E F N)):=by
 refine (zsE yc xf xb xa yf L Q G O P H I J M z p A C D E F N X K).trans ?_
 unfold zcg
 first
  | (simp only [zf5,zlG]; done)
  | (simp only [zf5]; rfl)
def zN{β:Type}(yc:yv)(xf:xG)(xb:zt)(xa:zq)(yf:zH)(L:Nat)(N:zlZ β):Nat→Int→Nat→Int→Int→Int→List (List V)→List (List V)→Int→Int→Nat→List (List V)→Int→List (List V)→Int→Int→List V→Option β
 | 0,_,_,_,_,_,_,_,_,_,_,_,_,_,_,_,_=>none
 | n+1,R,G,O,P,H,I,J,M,z,p,A,C,D,E,F,Q=>zcg yc xf xb xa yf L R G O P H I J M z p A C D E F Q N (fun R G O P H I J M z p A C D E F Q=>zN yc xf xb xa yf L N n R G O P H I J M z p A C D E F Q)
theorem zkG{β:Type}(yc:yv)(xf:xG)(xb:zt)(xa:zq)(yf:zH)(L:Nat)(K:KT β):∀ (n:Nat) (Q:Int) (G:Nat) (O P H:Int) (I J:List (List V)) (M z:Int) (p:Nat) (A:List (List V)) (C:Int) (D:List (List V)) (E F:Int) (N:List V),zw (xj xS (yS yc xf xb xa yf L) 0 L zck) zbC n (zbD Q G O P H I J M z p A C D E F N) K=zN yc xf xb xa yf L (fun Q G H I J M z p A C D E F N=>K (.exit 4) (zmx Q G H I J M z p A C D E F N)) n Q G O P H I J M z p A C D E F N:=by
 intro n
 induction n with
 | zero=>intros; rfl
 | succ n ih=>
  intro Q G O P H I J M z p A C D E F N
  refine (zr1 yc xf xb xa yf L Q G O P H I J M z p A C D E F N (fun σ=>zw (xj xS (yS yc xf xb xa yf L) 0 L zck) zbC n σ K) K).trans ?_
  simp only [ih]
  rfl
def xX{β:Type}(yc:yv)(xf:xG)(xb:zt)(xa:zq)(yf:zH)(L:Nat)(N F:Int)(G H:List (List V))(I p:Int)(P z:List (List V))(A:Int)(C:List (List V))(D E:Int)(Q:List V→Int→Int→Option β):Option β:=zdq yc xf xb xa yf L N F G H I p P z A C D E (fun N M R S F G H I p J z A C D E O=>zN yc xf xb xa yf L (fun N M F G H I p J z A C D E O=>yZ yc xf xb xa yf L N M F G H I p J z A C D E O Q) L N M R S F G H I p J z A C D E O)
theorem zrN{β:Type}(yc:yv)(xf:xG)(xb:zt)(xa:zq)(yf:zH)(L:Nat)(M G:Int)(H I:List (List V))(J p:Int)(z A:List (List V))(C:Int)(D:List (List V))(E F:Int)(k:KK β):(yo 2 (zE (xj xS (yS yc xf xb xa yf L) 0 L zhR) (yQ 0 (CF.res zcM) k))) (.exit 2) (zmK M G H I J p z A C D E F)=xX yc xf xb xa yf L M G H I J p z A C D E F (fun N O P=>k (V.tup [(V.agg N),(Qe O),(Qe P)]) []):=by
 refine (zsY yc xf xb xa yf L M G H I J p z A C D E F k).trans ?_
 unfold xX
 first
  | (simp only [zkG,zrq]; done)
  | (simp only [zkG]; rfl)
def yW{β:Type}(yc:yv)(xf:xG)(xb:zt)(xa:zq)(yf:zH)(L:Nat)(M G:Int)(H I:List (List V))(J p:Int)(z A:List (List V))(C:Int)(D:List (List V))(E F:Int)(N:List V→Int→Int→Option β):Option β:=zdN yc xf xb xa yf L M G H I J p z A C D E F (fun M O P G H I J p z A C D E F=>zaj yc xf xb xa yf L (fun M G H I J p z A C D E F=>xX yc xf xb xa yf L M G H I J p z A C D E F N) L M O P G H I J p z A C D E F)
theorem zth{β:Type}(yc:yv)(xf:xG)(xb:zt)(xa:zq)(yf:zH)(L:Nat)(M G:Int)(H I:List (List V))(J p:Int)(z A:List (List V))(C:Int)(D:List (List V))(E F:Int)(k:KK β):(yo 0 (zE (xj xS (yS yc xf xb xa yf L) 0 L zi0) (yQ 0 (CF.res zcM) k))) (.exit 0) (zmC M G H I J p z A C D E F)=yW yc xf xb xa yf L M G H I J p z A C D E F (fun N O P=>k (V.tup [(V.agg N),(Qe O),(Qe P)]) []):=by
 refine (ztB yc xf xb xa yf L M G H I J p z A C D E F k).trans ?_
 unfold yW
 first
  | (simp only [zl1,zrN]; done)
  | (simp only [zl1]; rfl)
def zqw{β:Type}(yc:yv)(xf:xG)(xb:zt)(xa:zq)(yf:zH)(L:Nat)(Q:List (List V))(M:Int)(N:List V→Int→Int→Option β):Option β:=zul yc xf xb xa yf L Q M (fun M O P G H I J p z A C D E F=>y6 yc xf xb xa yf L (fun M G H I J p z A C D E F=>yW yc xf xb xa yf L M G H I J p z A C D E F N) L M O P G H I J p z A C D E F)
theorem zFL{β:Type}(yc:yv)(xf:xG)(xb:zt)(xa:zq)(yf:zH)(L:Nat)(p:List (List V))(z:Int)(k:KK β):xq xS (yS yc xf xb xa yf L) L zcM [(V.sl 1 p),(Qe z)] [] k=zqw yc xf xb xa yf L p z (fun A C D=>k (V.tup [(V.agg A),(Qe C),(Qe D)]) []):=by
 refine (zGb yc xf xb xa yf L p z k).trans ?_
 unfold zqw
 first
  | (simp only [znn,zth]; done)
  | (simp only [znn]; rfl)
abbrev zns:=∀ (β:Type),Nat→List (List V)→Int→(List V→Int→Int→Option β)→Option β
def zac(β:Type)(L:Nat)(z:List (List V))(A:Int)(p:List V→Int→Int→Option β):Option β:=zqw yc xf xb xa yf L z A p
def zqF(zac:zns)(L:Nat)(β:Type)(args:List V)(bor:Bor)(k:KK β):Option β:=match args,bor with
 | [a0,a1],[]=>aL 1 a0 fun C=>aI .i64 a1 fun D=>zac β L C D (fun p z A=>k (V.tup [(V.agg p),(Qe z),(Qe A)]) [])
 | _,_=>none
theorem zFo(L:Nat)(β:Type)(args:List V)(bor:Bor)(k:KK β)(r:β)(h:zqF zac L β args bor k=some r):xq xS (yS yc xf xb xa yf L) L zcM args bor k=some r:=by
 unfold zqF at h
 split at h
 ·have q:=xL h; clear h; obtain ⟨p,rfl,h⟩:=q
  have q:=yy h; clear h; obtain ⟨z,rfl,h⟩:=q
  exact (zFL yc xf xb xa yf L p z k).trans h
 ·cases h
def zdc:CC:=(.seq (.seq (.reg [Qh 27 (tq 10),Qp 28 .geq (tq 27) (Qf 0)]) (.cond (tq 28) .skip (.seq (.mask (bl 518 45) (bl 35184372087807 45)) (.exit 0)))) (.seq (.block 1 (.reg [Qh 31 (tq 9),oo 32 (.bin .shl (tq 31) (.const (.sc (.int .u64 8)))),Qh 33 (tq 0),Qh 34 (tq 1),Qh 35 (tq 10),Qp 36 .add (tq 34) (tq 35),Qo 37 1 (tq 33) (tq 36),Qj 38 1 (tq 37),Qu 39 .u64 (tq 38),Qp 40 .or (tq 32) (tq 39),Qh 9 (tq 40)])) (.reg [Qh 29 (tq 10),Qp 30 .sub (tq 29) (Qf 1),Qh 10 (tq 30)])))
def zjJ:CC:=(.seq (.reg [Qh 41 (tq 9),Qh 42 (tq 1),Qh 43 (tq 2),Qp 44 .add (tq 42) (tq 43),Qh 6 (tq 41),Qh 7 (tq 44),Qh 8 (Qf 0)]) .ret)
def zdC:CF:=⟨45,[.tmp 6,.tmp 7,.tmp 8],(.seq (.reg [oo 6 (.move (.const (.sc (.int .u64 0))) false),Qh 7 (Qf 0),Qh 8 (Qf 0)]) (.seq (.seq (.reg [Qh 11 (tq 1),Qp 12 .lss (tq 11) (Qf 0),Qh 13 (tq 12),⟨(some 14),false,(some (13,false)),.move (tq 1) false⟩,⟨(some 15),false,(some (13,false)),.move (tq 0) false⟩,⟨(some 16),false,(some (13,false)),.lenS (tq 15)⟩,⟨(some 17),false,(some (13,false)),.bin .gtr (tq 14) (tq 16)⟩,oo 18 (.pick (tq 13) (Qg true) (tq 17))]) (.cond (tq 18) (.seq (.reg [oo 6 (.move (.const (.sc (.int .u64 0))) false),Qh 7 (Qf 0),Qh 8 (Qf 5)]) .ret) .skip)) (.seq (.seq (.reg [Qh 19 (tq 0),Qr 20 (tq 19),Qh 21 (tq 1),Qp 22 .sub (tq 20) (tq 21),Qh 23 (tq 2),Qp 24 .lss (tq 22) (tq 23)]) (.cond (tq 24) (.seq (.reg [oo 6 (.move (.const (.sc (.int .u64 0))) false),Qh 7 (Qf 0),Qh 8 (Qf 1)]) .ret) .skip)) (.seq (.reg [oo 9 (.move (.const (.sc (.int .u64 0))) false)]) (.seq (.seq (.reg [Qh 25 (tq 2),Qp 26 .sub (tq 25) (Qf 1),Qh 10 (tq 26)]) (.block 0 (.loop (bl 1543 45) (bl 35184372088831 45) zdc))) zjJ)))))⟩
def zrE:Hint:=⟨[],[],[none,none,none,none,none,some ((bl 1543 45),(bl 35184372088831 45)),none,some ((bl 518 45),(bl 35184372087807 45)),none,none],[],[],false,false,[]⟩
def zbM:Nat→Sh:=xT [(38,(.int .u8))]
def zbL(L:Nat):CBC:=noC
def zeY:St→St:=zab 0 (bl 1543 45) (bl 35184372088831 45)
def zdB(z:List (List V))(A C D p:Int):St:=⟨((V.sl 1 z)::((Qe A)::((Qe C)::(jn 6 ((Qd D)::((Qe p)::(jn 34 []))))))),(gn 45 [])⟩
def zkE(p z A:Int):St:=⟨(jn 1 ((Qe p)::((Qe z)::(jn 6 ((Qd A)::(jn 35 [])))))),(gn 45 [])⟩
def zpg{β:Type}(L:Nat)(C:List (List V))(A D:Int)(p:Int→Int→Int→Option β)(z:List (List V)→Int→Int→Int→Int→Option β):Option β:=ifb (decide (A<(0:Int))) (p (0:Int) (0:Int) (5:Int)) (ifb (decide (A>((XM C:Nat):Int))) (p (0:Int) (0:Int) (5:Int)) (lt (QF .i64 ((((XM C:Nat):Int):Int)-A)) fun E=>ifb (decide (E<D)) (p (0:Int) (0:Int) (1:Int)) (lt (QF .i64 ((D:Int)-(1:Int))) fun F=>z C A D (0:Int) F)))
theorem zzQ{β:Type}(L:Nat)(p:List (List V))(z A:Int)(k:KK β):xq zbM (zbL L) L zdC [(V.sl 1 p),(Qe z),(Qe A)] [] k=zpg L p z A (fun C D E=>k (V.tup [(Qd C),(Qe D),(Qe E)]) []) (fun p z A G F=>zw (xj zbM (zbL L) 0 L zdc) zeY L (zdB p z A G F) (yo 0 (zE (xj zbM (zbL L) 0 L zjJ) (yQ 0 (CF.res zdC) k)))):=by kernel_rfl
def zeX{β:Type}(L:Nat)(D:List (List V))(A E F z:Int)(p:List (List V)→Int→Int→Int→Int→Option β)(C:Int→Int→Int→Option β):Option β:=ifb (decide (z≥(0:Int))) (lt (zq5 .u64 F (8:Int)) fun G=>lt (QF .i64 ((A:Int)+z)) fun H=>idx D H fun I=>cI .u8 I 0 fun J=>lt (QF .u64 J) fun M=>lt (ior .u64 G M) fun N=>lt (QF .i64 ((z:Int)-(1:Int))) fun O=>p D A E N O) (C A E F)
theorem zsA{β:Type}(L:Nat)(D:List (List V))(z A C p:Int)(X:St→Option β)(K:KT β):xj zbM (zbL L) 0 L zdc (zdB D z A C p) (zU zeY X K)=zeX L D z A C p (fun D z A C p=>X (zdB D z A C p)) (fun z A C=>K (.exit 0) (zkE z A C)):=by kernel_rfl
def zd8{β:Type}(L:Nat)(z A C:Int)(p:Int→Int→Int→Option β):Option β:=lt (QF .i64 ((z:Int)+A)) fun D=>p C D (0:Int)
theorem zq8{β:Type}(L:Nat)(C D E:Int)(k:KK β):(yo 0 (zE (xj zbM (zbL L) 0 L zjJ) (yQ 0 (CF.res zdC) k))) (.exit 0) (zkE C D E)=zd8 L C D E (fun p z A=>k (V.tup [(Qd p),(Qe z),(Qe A)]) []):=by kernel_rfl
def zcz{β:Type}(L:Nat)(p:Int→Int→Int→Option β):Nat→List (List V)→Int→Int→Int→Int→Option β
 | 0,_,_,_,_,_=>none
 | n+1,A,C,D,E,z=>zeX L A C D E z (fun A C D E z=>zcz L p n A C D E z) p
theorem zkr{β:Type}(L:Nat)(K:KT β):∀ (n:Nat) (D:List (List V)) (z A C p:Int),zw (xj zbM (zbL L) 0 L zdc) zeY n (zdB D z A C p) K=zcz L (fun z A C=>K (.exit 0) (zkE z A C)) n D z A C p:=by
 intro n
 induction n with
 | zero=>intros; rfl
 | succ n ih=>
  intro D z A C p
  refine (zsA L D z A C p (fun σ=>zw (xj zbM (zbL L) 0 L zdc) zeY n σ K) K).trans ?_
  simp only [ih]
  rfl
def zlo{β:Type}(L:Nat)(C:List (List V))(z A:Int)(p:Int→Int→Int→Option β):Option β:=zpg L C z A p (fun C z A D E=>zcz L (fun z A D=>zd8 L z A D p) L C z A D E)
theorem zzw{β:Type}(L:Nat)(p:List (List V))(z A:Int)(k:KK β):xq zbM (zbL L) L zdC [(V.sl 1 p),(Qe z),(Qe A)] [] k=zlo L p z A (fun C D E=>k (V.tup [(Qd C),(Qe D),(Qe E)]) []):=by
 refine (zzQ L p z A k).trans ?_
 unfold zlo
 first
  | (simp only [zkr,zq8]; done)
  | (simp only [zkr]; rfl)
abbrev zce:=∀ (β:Type),Nat→List (List V)→Int→Int→(Int→Int→Int→Option β)→Option β
def yw(β:Type)(L:Nat)(z:List (List V))(A C:Int)(p:Int→Int→Int→Option β):Option β:=zlo L z A C p
def zfO(yw:zce)(L:Nat)(β:Type)(args:List V)(bor:Bor)(k:KK β):Option β:=match args,bor with
 | [a0,a1,a2],[]=>aL 1 a0 fun C=>aI .i64 a1 fun D=>aI .i64 a2 fun E=>yw β L C D E (fun p z A=>k (V.tup [(Qd p),(Qe z),(Qe A)]) [])
 | _,_=>none
theorem zzK(L:Nat)(β:Type)(args:List V)(bor:Bor)(k:KK β)(r:β)(h:zfO yw L β args bor k=some r):xq zbM (zbL L) L zdC args bor k=some r:=by
 unfold zfO at h
 split at h
 ·have q:=xL h; clear h; obtain ⟨p,rfl,h⟩:=q
  have q:=yy h; clear h; obtain ⟨z,rfl,h⟩:=q
  have q:=yy h; clear h; obtain ⟨A,rfl,h⟩:=q
  exact (zzw L p z A k).trans h
 ·cases h
def zoL:CF:=⟨21,[.tmp 4,.tmp 5,.tmp 6],(.seq (.reg [oo 4 (.move (.const (.sc (.int .u32 0))) false),Qh 5 (Qf 0),Qh 6 (Qf 0)]) (.seq (.reg [Qh 11 (tq 0),Qh 12 (tq 1),Qs 13 209 [(Qw 11),(Qw 12),((Qf 4),0)],Qi 10 (tq 13),Qq 14 (tq 10) 0,Qq 15 (tq 10) 1,Qq 16 (tq 10) 2,Qh 7 (tq 14),Qh 8 (tq 15),Qh 9 (tq 16)]) (.seq (.reg [Qh 17 (tq 7),Qu 18 .u32 (tq 17),Qh 19 (tq 8),Qh 20 (tq 9),Qh 4 (tq 18),Qh 5 (tq 19),Qh 6 (tq 20)]) .ret)))⟩
def zwk:Hint:=⟨[(1,3)],[],[none],[],[],false,false,[]⟩
def zs1:Nat→Sh:=xT []
def zsV(yw:zce)(L:Nat):CBC:=(xy 209 (zfO yw L) noC)
def zuY{β:Type}(yw:zce)(L:Nat)(z:List (List V))(A:Int)(p:Int→Int→Int→Option β):Option β:=yw β L z A (4:Int) (fun C D E=>lt (QF .u32 C) fun F=>p F D E)
theorem zC0{β:Type}(yw:zce)(L:Nat)(C:List (List V))(D:Int)(k:KK β):xq zs1 (zsV yw L) L zoL [(V.sl 1 C),(Qe D)] [] k=zuY yw L C D (fun p z A=>k (V.tup [(Qc p),(Qe z),(Qe A)]) []):=by kernel_rfl
abbrev zp6:=∀ (β:Type),Nat→List (List V)→Int→(Int→Int→Int→Option β)→Option β
def zaZ(β:Type)(L:Nat)(z:List (List V))(A:Int)(p:Int→Int→Int→Option β):Option β:=zuY yw L z A p
def zqa(zaZ:zp6)(L:Nat)(β:Type)(args:List V)(bor:Bor)(k:KK β):Option β:=match args,bor with
 | [a0,a1],[]=>aL 1 a0 fun C=>aI .i64 a1 fun D=>zaZ β L C D (fun p z A=>k (V.tup [(Qc p),(Qe z),(Qe A)]) [])
 | _,_=>none
theorem zDv(L:Nat)(β:Type)(args:List V)(bor:Bor)(k:KK β)(r:β)(h:zqa zaZ L β args bor k=some r):xq zs1 (zsV yw L) L zoL args bor k=some r:=by
 unfold zqa at h
 split at h
 ·have q:=xL h; clear h; obtain ⟨p,rfl,h⟩:=q
  have q:=yy h; clear h; obtain ⟨z,rfl,h⟩:=q
  exact (zC0 yw L p z k).trans h
 ·cases h
def zfk:CF:=⟨33,[.tmp 2],(.seq (.reg [oo 2 (.move (.const (.sc (.int .u32 0))) false)]) (.seq (.seq (.reg [Qh 6 (tq 0),oo 7 (.nilCheck (tq 6)),Ql 8 2 (tq 7),Qj 9 1 (tq 8),Qp 10 .neq (tq 9) (Qf 0)]) (.cond (tq 10) (.seq (.reg [oo 2 (.move (.const (.sc (.int .u32 0))) false)]) .ret) .skip)) (.seq (.dreg [] [(Qh 12 (tq 0),q0),(oo 13 (.nilCheck (tq 12)),q0),(Ql 14 0 (tq 13),q0),(Qj 15 1 (tq 14),ql 0 [] []),(Qh 16 (tq 0),q0),(oo 17 (.nilCheck (tq 16)),q0),(Ql 18 1 (tq 17),q0),(Qj 19 1 (tq 18),ql 0 [] []),(Qs 20 200 [(Qw 15),(Qw 19)],q0),(Qi 11 (tq 20),q0),(Qq 21 (tq 11) 0,q0),(Qq 22 (tq 11) 1,q0),(Qq 23 (tq 11) 2,q0),(Qh 3 (tq 21),q0),(Qh 4 (tq 22),q0),(Qh 5 (tq 23),q0)]) (.seq (.reg [Qh 24 (tq 0),Qh 25 (tq 0),Qh 26 (tq 4),Qh 27 (tq 5),oo 28 (.nilCheck (tq 24)),Ql 29 1 (tq 28),Qm 1 (tq 29) (tq 26),oo 30 (.nilCheck (tq 25)),Ql 31 2 (tq 30),Qm 1 (tq 31) (tq 27)]) (.seq (.reg [Qh 32 (tq 3),Qh 2 (tq 32)]) .ret)))))⟩
def zma:Hint:=⟨[(3,9)],[],[none,none,none],[],[],false,false,[]⟩
def ziM:Nat→Sh:=xT []
def ziX(zaZ:zp6)(L:Nat):CBC:=(xy 200 (zqa zaZ L) noC)
def zgb{β:Type}(zaZ:zp6)(L:Nat)(p:List (List V))(A C:Int)(z:Int→List (List V)→Int→Int→Option β):Option β:=ifb ((C:Int) != (0:Int)) (z (0:Int) p A C) (zaZ β L p A (fun D E F=>z D p E F))
theorem zuZ{β:Type}(zaZ:zp6)(L:Nat)(p:List (List V))(z A:Int)(k:KK β):xq ziM (ziX zaZ L) L zfk [(V.ptr 0 0)] [(.live false [(V.sl 1 p),(Qe z),(Qe A)])] k=zgb zaZ L p z A (fun C p z A=>k (Qc C) [(.live false [(V.sl 1 p),(Qe z),(Qe A)])]):=by kernel_rfl
abbrev yp:=∀ (β:Type),Nat→List (List V)→Int→Int→(Int→List (List V)→Int→Int→Option β)→Option β
def zb(β:Type)(L:Nat)(z:List (List V))(A C:Int)(p:Int→List (List V)→Int→Int→Option β):Option β:=zgb zaZ L z A C p
def zgc(zb:yp)(L:Nat)(β:Type)(args:List V)(bor:Bor)(k:KK β):Option β:=match args,bor with
 | [a0],[(.live false [w0_0,w0_1,w0_2])]=>aP 0 0 a0 (aL 1 w0_0 fun p=>aI .i64 w0_1 fun z=>aI .i64 w0_2 fun A=>zb β L p z A (fun C p z A=>k (Qc C) [(.live false [(V.sl 1 p),(Qe z),(Qe A)])]))
 | _,_=>none
theorem zu2(L:Nat)(β:Type)(args:List V)(bor:Bor)(k:KK β)(r:β)(h:zgc zb L β args bor k=some r):xq ziM (ziX zaZ L) L zfk args bor k=some r:=by
 unfold zgc at h
 split at h
 ·have q:=zeD h; clear h; obtain ⟨rfl,h⟩:=q
  have q:=xL h; clear h; obtain ⟨p,rfl,h⟩:=q
  have q:=yy h; clear h; obtain ⟨z,rfl,h⟩:=q
  have q:=yy h; clear h; obtain ⟨A,rfl,h⟩:=q
  exact (zuZ zaZ L p z A k).trans h
 ·cases h
def zmP:CF:=⟨68,[.tmp 6,.tmp 7,.tmp 8],(.seq (.reg [oo 6 (.move (.const (.sc (.int .u64 0))) false),Qh 7 (Qf 0),Qh 8 (Qf 0)]) (.seq (.reg [Qh 15 (tq 0),Qh 16 (tq 1),Qs 17 209 [(Qw 15),(Qw 16),((Qf 1),0)],Qi 14 (tq 17),Qq 18 (tq 14) 0,Qq 19 (tq 14) 1,Qq 20 (tq 14) 2,Qh 9 (tq 18),Qh 10 (tq 19),Qh 11 (tq 20)]) (.seq (.seq (.reg [Qh 21 (tq 11),Qp 22 .neq (tq 21) (Qf 0)]) (.cond (tq 22) (.seq (.reg [Qh 23 (tq 11),oo 6 (.move (.const (.sc (.int .u64 0))) false),Qh 7 (Qf 0),Qh 8 (tq 23)]) .ret) .skip)) (.seq (.reg [Qh 24 (tq 9),Qh 12 (tq 24)]) (.seq (.seq (.reg [Qh 25 (tq 9),oo 26 (.bin .geq (tq 25) (.const (.sc (.int .u64 253))))]) (.cond (tq 26) (.seq (.reg [Qh 27 (tq 9),oo 28 (.bin .sub (tq 27) (.const (.sc (.int .u64 253)))),Qp 29 .shl (Qf 2) (tq 28),Qh 13 (tq 29)]) (.seq (.reg [Qh 31 (tq 0),Qh 32 (tq 10),Qh 33 (tq 13),Qs 34 209 [(Qw 31),(Qw 32),(Qw 33)],Qi 30 (tq 34),Qq 35 (tq 30) 0,Qq 36 (tq 30) 1,Qq 37 (tq 30) 2,Qh 12 (tq 35),Qh 10 (tq 36),Qh 11 (tq 37)]) (.seq (.seq (.reg [Qh 38 (tq 11),Qp 39 .neq (tq 38) (Qf 0)]) (.cond (tq 39) (.seq (.reg [Qh 40 (tq 11),oo 6 (.move (.const (.sc (.int .u64 0))) false),Qh 7 (Qf 0),Qh 8 (tq 40)]) .ret) .skip)) (.seq (.reg [Qh 41 (tq 9),oo 42 (.bin .eql (tq 41) (.const (.sc (.int .u64 253)))),Qh 43 (tq 42),⟨(some 44),false,(some (43,true)),.move (tq 12) false⟩,⟨(some 45),false,(some (43,true)),.bin .lss (tq 44) (.const (.sc (.int .u64 253)))⟩,oo 46 (.pick (tq 43) (tq 45) (Qg false)),Qh 47 (tq 46),⟨(some 48),false,(some (47,false)),.move (tq 9) false⟩,⟨(some 49),false,(some (47,false)),.bin .eql (tq 48) (.const (.sc (.int .u64 254)))⟩,⟨(some 50),false,(some (47,false)),.move (tq 49) false⟩,⟨(some 51),false,(some (50,true)),.move (tq 12) false⟩,⟨(some 52),false,(some (50,true)),.bin .lss (tq 51) (.const (.sc (.int .u64 65536)))⟩,⟨(some 53),false,(some (47,false)),.pick (tq 50) (tq 52) (Qg false)⟩,oo 54 (.pick (tq 47) (Qg true) (tq 53)),Qh 55 (tq 54),⟨(some 56),false,(some (55,false)),.move (tq 9) false⟩,⟨(some 57),false,(some (55,false)),.bin .eql (tq 56) (.const (.sc (.int .u64 255)))⟩,⟨(some 58),false,(some (55,false)),.move (tq 57) false⟩,⟨(some 59),false,(some (58,true)),.move (tq 12) false⟩,⟨(some 60),false,(some (58,true)),.bin .lss (tq 59) (.const (.sc (.int .u64 4294967296)))⟩,⟨(some 61),false,(some (55,false)),.pick (tq 58) (tq 60) (Qg false)⟩,oo 62 (.pick (tq 55) (Qg true) (tq 61))]) (.cond (tq 62) (.seq (.reg [oo 6 (.move (.const (.sc (.int .u64 0))) false),Qh 7 (Qf 0),Qh 8 (Qf 3)]) .ret) .skip))))) .skip)) (.seq (.seq (.reg [Qh 63 (tq 12),Qh 64 (tq 2),Qp 65 .gtr (tq 63) (tq 64)]) (.cond (tq 65) (.seq (.reg [oo 6 (.move (.const (.sc (.int .u64 0))) false),Qh 7 (Qf 0),Qh 8 (Qf 4)]) .ret) .skip)) (.seq (.reg [Qh 66 (tq 12),Qh 67 (tq 10),Qh 6 (tq 66),Qh 7 (tq 67),Qh 8 (Qf 0)]) .ret)))))))⟩
def zug:Hint:=⟨[(1,3),(7,4)],[],[none,none,none,none,none,none,none,none,none,none],[],[],false,false,[]⟩
def zqX:Nat→Sh:=xT []
def zrg(yw:zce)(L:Nat):CBC:=(xy 209 (zfO yw L) noC)
def zs6{β:Type}(yw:zce)(L:Nat)(E:List (List V))(J C:Int)(p:Int→Int→Int→Option β):Option β:=yw β L E J (1:Int) (fun A F G=>ifb ((G:Int) != (0:Int)) (p (0:Int) (0:Int) G) (ifb (decide (A≥(253:Int))) (lt (QF .u64 ((A:Int)-(253:Int))) fun H=>chk (0≤H) (lt (zq5 .i64 (2:Int) H) fun M=>yw β L E F M (fun z D I=>ifb ((I:Int) != (0:Int)) (p (0:Int) (0:Int) I) (ifb ((A:Int)==(253:Int)) (ifb (decide (z<(253:Int))) (p (0:Int) (0:Int) (3:Int)) (ifb ((A:Int)==(254:Int)) (ifb (decide (z<(65536:Int))) (p (0:Int) (0:Int) (3:Int)) (ifb ((A:Int)==(255:Int)) (ifb (decide (z<(4294967296:Int))) (p (0:Int) (0:Int) (3:Int)) (ifb (decide (z>C)) (p (0:Int) (0:Int) (4:Int)) (p z D (0:Int)))) (ifb (decide (z>C)) (p (0:Int) (0:Int) (4:Int)) (p z D (0:Int))))) (ifb ((A:Int)==(255:Int)) (ifb (decide (z<(4294967296:Int))) (p (0:Int) (0:Int) (3:Int)) (ifb (decide (z>C)) (p (0:Int) (0:Int) (4:Int)) (p z D (0:Int)))) (ifb (decide (z>C)) (p (0:Int) (0:Int) (4:Int)) (p z D (0:Int)))))) (ifb ((A:Int)==(254:Int)) (ifb (decide (z<(65536:Int))) (p (0:Int) (0:Int) (3:Int)) (ifb ((A:Int)==(255:Int)) (ifb (decide (z<(4294967296:Int))) (p (0:Int) (0:Int) (3:Int)) (ifb (decide (z>C)) (p (0:Int) (0:Int) (4:Int)) (p z D (0:Int)))) (ifb (decide (z>C)) (p (0:Int) (0:Int) (4:Int)) (p z D (0:Int))))) (ifb ((A:Int)==(255:Int)) (ifb (decide (z<(4294967296:Int))) (p (0:Int) (0:Int) (3:Int)) (ifb (decide (z>C)) (p (0:Int) (0:Int) (4:Int)) (p z D (0:Int)))) (ifb (decide (z>C)) (p (0:Int) (0:Int) (4:Int)) (p z D (0:Int))))))))) (ifb (decide (A>C)) (p (0:Int) (0:Int) (4:Int)) (p A F (0:Int)))))
theorem zCp{β:Type}(yw:zce)(L:Nat)(C:List (List V))(D E:Int)(k:KK β):xq zqX (zrg yw L) L zmP [(V.sl 1 C),(Qe D),(Qd E)] [] k=zs6 yw L C D E (fun p z A=>k (V.tup [(Qd p),(Qe z),(Qe A)]) []):=by kernel_rfl
abbrev zfX:=∀ (β:Type),Nat→List (List V)→Int→Int→(Int→Int→Int→Option β)→Option β
def zO(β:Type)(L:Nat)(z:List (List V))(A C:Int)(p:Int→Int→Int→Option β):Option β:=zs6 yw L z A C p
def zkB(zO:zfX)(L:Nat)(β:Type)(args:List V)(bor:Bor)(k:KK β):Option β:=match args,bor with
 | [a0,a1,a2],[]=>aL 1 a0 fun C=>aI .i64 a1 fun D=>aI .u64 a2 fun E=>zO β L C D E (fun p z A=>k (V.tup [(Qd p),(Qe z),(Qe A)]) [])
 | _,_=>none
theorem zBn(L:Nat)(β:Type)(args:List V)(bor:Bor)(k:KK β)(r:β)(h:zkB zO L β args bor k=some r):xq zqX (zrg yw L) L zmP args bor k=some r:=by
 unfold zkB at h
 split at h
 ·have q:=xL h; clear h; obtain ⟨p,rfl,h⟩:=q
  have q:=yy h; clear h; obtain ⟨z,rfl,h⟩:=q
  have q:=yy h; clear h; obtain ⟨A,rfl,h⟩:=q
  exact (zCp yw L p z A k).trans h
 ·cases h
def zfn:CF:=⟨38,[.tmp 4],(.seq (.reg [Qh 4 (Qf 0)]) (.seq (.seq (.reg [Qh 8 (tq 0),oo 9 (.nilCheck (tq 8)),Ql 10 2 (tq 9),Qj 11 1 (tq 10),Qp 12 .neq (tq 11) (Qf 0)]) (.cond (tq 12) (.seq (.reg [Qh 4 (Qf 0)]) .ret) .skip)) (.seq (.dreg [] [(Qh 14 (tq 0),q0),(oo 15 (.nilCheck (tq 14)),q0),(Ql 16 0 (tq 15),q0),(Qj 17 1 (tq 16),ql 0 [] []),(Qh 18 (tq 0),q0),(oo 19 (.nilCheck (tq 18)),q0),(Ql 20 1 (tq 19),q0),(Qj 21 1 (tq 20),ql 0 [] []),(Qh 22 (tq 1),q0),(Qu 23 .u64 (tq 22),q0),(Qs 24 201 [(Qw 17),(Qw 21),(Qw 23)],q0),(Qi 13 (tq 24),q0),(Qq 25 (tq 13) 0,q0),(Qq 26 (tq 13) 1,q0),(Qq 27 (tq 13) 2,q0),(Qh 5 (tq 25),q0),(Qh 6 (tq 26),q0),(Qh 7 (tq 27),q0)]) (.seq (.reg [Qh 28 (tq 0),Qh 29 (tq 0),Qh 30 (tq 6),Qh 31 (tq 7),oo 32 (.nilCheck (tq 28)),Ql 33 1 (tq 32),Qm 1 (tq 33) (tq 30),oo 34 (.nilCheck (tq 29)),Ql 35 2 (tq 34),Qm 1 (tq 35) (tq 31)]) (.seq (.reg [Qh 36 (tq 5),Qu 37 .i64 (tq 36),Qh 4 (tq 37)]) .ret)))))⟩
def zlX:Hint:=⟨[(3,11)],[],[none,none,none],[],[],false,false,[]⟩
def zi1:Nat→Sh:=xT []
def ziC(zO:zfX)(L:Nat):CBC:=(xy 201 (zkB zO L) noC)
def zgr{β:Type}(zO:zfX)(L:Nat)(D:Int)(p:List (List V))(A C:Int)(z:Int→List (List V)→Int→Int→Option β):Option β:=ifb ((C:Int) != (0:Int)) (z (0:Int) p A C) (lt (QF .u64 D) fun E=>zO β L p A E (fun F G H=>lt (QF .i64 F) fun I=>z I p G H))
theorem zu8{β:Type}(zO:zfX)(L:Nat)(C:Int)(p:List (List V))(z A:Int)(k:KK β):xq zi1 (ziC zO L) L zfn [(V.ptr 0 0),(Qe C)] [(.live false [(V.sl 1 p),(Qe z),(Qe A)])] k=zgr zO L C p z A (fun D p z A=>k (Qe D) [(.live false [(V.sl 1 p),(Qe z),(Qe A)])]):=by kernel_rfl
abbrev xp:=∀ (β:Type),Nat→Int→List (List V)→Int→Int→(Int→List (List V)→Int→Int→Option β)→Option β
def yb(β:Type)(L:Nat)(D:Int)(z:List (List V))(A C:Int)(p:Int→List (List V)→Int→Int→Option β):Option β:=zgr zO L D z A C p
def zgA(yb:xp)(L:Nat)(β:Type)(args:List V)(bor:Bor)(k:KK β):Option β:=match args,bor with
 | [a0,a1],[(.live false [w0_0,w0_1,w0_2])]=>aP 0 0 a0 (aI .i64 a1 fun C=>aL 1 w0_0 fun p=>aI .i64 w0_1 fun z=>aI .i64 w0_2 fun A=>yb β L C p z A (fun D p z A=>k (Qe D) [(.live false [(V.sl 1 p),(Qe z),(Qe A)])]))
 | _,_=>none
theorem zuo(L:Nat)(β:Type)(args:List V)(bor:Bor)(k:KK β)(r:β)(h:zgA yb L β args bor k=some r):xq zi1 (ziC zO L) L zfn args bor k=some r:=by
 unfold zgA at h
 split at h
 ·have q:=zeD h; clear h; obtain ⟨rfl,h⟩:=q
  have q:=yy h; clear h; obtain ⟨C,rfl,h⟩:=q
  have q:=xL h; clear h; obtain ⟨p,rfl,h⟩:=q
  have q:=yy h; clear h; obtain ⟨z,rfl,h⟩:=q
  have q:=yy h; clear h; obtain ⟨A,rfl,h⟩:=q
  exact (zu8 zO L C p z A k).trans h
 ·cases h
def zmu:CF:=⟨31,[.cell 4 true 32,.tmp 5,.tmp 6],(.seq (.reg [oo 4 (.alloc true (rp 32 (.sc (.int .u8 0)) [])),Qh 5 (Qf 0),Qh 6 (Qf 0)]) (.seq (.reg [oo 7 (.alloc true (rp 32 (.sc (.int .u8 0)) []))]) (.seq (.seq (.reg [Qh 8 (tq 1),Qp 9 .lss (tq 8) (Qf 0),Qh 10 (tq 9),⟨(some 11),false,(some (10,false)),.move (tq 1) false⟩,⟨(some 12),false,(some (10,false)),.move (tq 0) false⟩,⟨(some 13),false,(some (10,false)),.lenS (tq 12)⟩,⟨(some 14),false,(some (10,false)),.bin .gtr (tq 11) (tq 13)⟩,oo 15 (.pick (tq 10) (Qg true) (tq 14))]) (.cond (tq 15) (.seq (.reg [Qk 16 32 (tq 7),Qm 32 (tq 4) (tq 16),Qh 5 (Qf 0),Qh 6 (Qf 5)]) .ret) .skip)) (.seq (.seq (.reg [Qh 17 (tq 0),Qr 18 (tq 17),Qh 19 (tq 1),Qp 20 .sub (tq 18) (tq 19),Qp 21 .lss (tq 20) (Qf 32)]) (.cond (tq 21) (.seq (.reg [Qk 22 32 (tq 7),Qm 32 (tq 4) (tq 22),Qh 5 (Qf 0),Qh 6 (Qf 1)]) .ret) .skip)) (.seq (.dreg [] [(oo 23 (.sliceA 32 1 (tq 7) none none none),q1),(Qi 24 (tq 0),q1),(Qh 25 (tq 1),q0),(oo 26 (.sliceS 1 (tq 24) (some (tq 25)) none none),q0),(oo 27 (.copy 1 (tq 23) (tq 26)),q0)]) (.seq (.reg [Qk 28 32 (tq 7),Qh 29 (tq 1),Qp 30 .add (tq 29) (Qf 32),Qm 32 (tq 4) (tq 28),Qh 5 (tq 30),Qh 6 (Qf 0)]) .ret))))))⟩
def zun:Hint:=⟨[(6,1)],[],[none,none,none,none,none],[],[],false,false,[]⟩
def zrj:Nat→Sh:=xT []
def zqU(L:Nat):CBC:=noC
def ztd{β:Type}(L:Nat)(A:List (List V))(z:Int)(p:List V→Int→Int→Option β):Option β:=ifb (decide (z<(0:Int))) (lt (We 32 (Qa (0:Int))) fun D=>chk (0=0∧(XM D)=32∧32≠0) (p D (0:Int) (5:Int))) (ifb (decide (z>((XM A:Nat):Int))) (lt (We 32 (Qa (0:Int))) fun E=>chk (0=0∧(XM E)=32∧32≠0) (p E (0:Int) (5:Int))) (lt (QF .i64 ((((XM A:Nat):Int):Int)-z)) fun H=>ifb (decide (H<(32:Int))) (lt (We 32 (Qa (0:Int))) fun F=>chk (0=0∧(XM F)=32∧32≠0) (p F (0:Int) (1:Int))) (chk (0≤z∧z≤(((XM A):Nat):Int)) (lt (xm (We 32 (Qa (0:Int))) 0 (XR (XN (min (XM (XN ((XM A)-(XO z)) (XP (XO z) A))) 32) (XN ((XM A)-(XO z)) (XP (XO z) A))))) fun C=>chk (0+32≤(XM C)) (lt (QF .i64 ((z:Int)+(32:Int))) fun I=>chk ((XM (XN 32 C))=32∧0+32≤32) (lt (xm (We 32 (Qa (0:Int))) 0 (XN 32 C)) fun G=>chk (0=0∧(XM G)=32∧32≠0) (p G I (0:Int))))))))
theorem zCm{β:Type}(L:Nat)(C:List (List V))(D:Int)(k:KK β):xq zrj (zqU L) L zmu [(V.sl 1 C),(Qe D)] [] k=ztd L C D (fun p z A=>k (V.tup [(V.agg p),(Qe z),(Qe A)]) []):=by kernel_rfl
abbrev zoF:=∀ (β:Type),Nat→List (List V)→Int→(List V→Int→Int→Option β)→Option β
def zaC(β:Type)(L:Nat)(z:List (List V))(A:Int)(p:List V→Int→Int→Option β):Option β:=ztd L z A p
def zoZ(zaC:zoF)(L:Nat)(β:Type)(args:List V)(bor:Bor)(k:KK β):Option β:=match args,bor with
 | [a0,a1],[]=>aL 1 a0 fun C=>aI .i64 a1 fun D=>zaC β L C D (fun p z A=>k (V.tup [(V.agg p),(Qe z),(Qe A)]) [])
 | _,_=>none
theorem zCb(L:Nat)(β:Type)(args:List V)(bor:Bor)(k:KK β)(r:β)(h:zoZ zaC L β args bor k=some r):xq zrj (zqU L) L zmu args bor k=some r:=by
 unfold zoZ at h
 split at h
 ·have q:=xL h; clear h; obtain ⟨p,rfl,h⟩:=q
  have q:=yy h; clear h; obtain ⟨z,rfl,h⟩:=q
  exact (zCm L p z k).trans h
 ·cases h
def zfm:CF:=⟨34,[.cell 2 true 32],(.seq (.reg [oo 2 (.alloc true (rp 32 (.sc (.int .u8 0)) []))]) (.seq (.seq (.reg [Qh 6 (tq 0),oo 7 (.nilCheck (tq 6)),Ql 8 2 (tq 7),Qj 9 1 (tq 8),Qp 10 .neq (tq 9) (Qf 0)]) (.cond (tq 10) (.seq (.reg [oo 11 (.build (rp 32 (.sc (.int .u8 0)) []) []),Qm 32 (tq 2) (tq 11)]) .ret) .skip)) (.seq (.dreg [] [(Qh 13 (tq 0),q0),(oo 14 (.nilCheck (tq 13)),q0),(Ql 15 0 (tq 14),q0),(Qj 16 1 (tq 15),ql 0 [] [3]),(Qh 17 (tq 0),q0),(oo 18 (.nilCheck (tq 17)),q0),(Ql 19 1 (tq 18),q0),(Qj 20 1 (tq 19),ql 0 [] [3]),(Qs 21 202 [(Qw 16),(Qw 20)],qc [] [3]),(Qi 12 (tq 21),qc [] [3]),(Qq 22 (tq 12) 0,q0),(Qq 23 (tq 12) 1,q0),(Qq 24 (tq 12) 2,q0),(oo 3 (.alloc true (rp 32 (.sc (.int .u8 0)) [])),qn [0] []),(Qm 32 (tq 3) (tq 22),q0),(Qh 4 (tq 23),q0),(Qh 5 (tq 24),q0)]) (.seq (.reg [Qh 25 (tq 0),Qh 26 (tq 0),Qh 27 (tq 4),Qh 28 (tq 5),oo 29 (.nilCheck (tq 25)),Ql 30 1 (tq 29),Qm 1 (tq 30) (tq 27),oo 31 (.nilCheck (tq 26)),Ql 32 2 (tq 31),Qm 1 (tq 32) (tq 28)]) (.seq (.reg [Qk 33 32 (tq 3),Qm 32 (tq 2) (tq 33)]) .ret)))))⟩
def zl0:Hint:=⟨[(3,9)],[],[none,none,none],[],[],false,false,[]⟩
def zi8:Nat→Sh:=xT []
def ziR(zaC:zoF)(L:Nat):CBC:=(xy 202 (zoZ zaC L) noC)
def zjO{β:Type}(zaC:zoF)(L:Nat)(p:List (List V))(A C:Int)(z:List V→List (List V)→Int→Int→Option β):Option β:=ifb ((C:Int) != (0:Int)) (lt (We 32 (Qa (0:Int))) fun E=>chk (0=0∧(XM E)=32∧32≠0) (z E p A C)) (zaC β L p A (fun F H I=>chk ((XM F)=32∧0+32≤32) (lt (xm (We 32 (Qa (0:Int))) 0 F) fun D=>chk (0+32≤(XM D)) (chk ((XM (XN 32 D))=32∧0+32≤32) (lt (xm (We 32 (Qa (0:Int))) 0 (XN 32 D)) fun G=>chk (0=0∧(XM G)=32∧32≠0) (z G p H I))))))
theorem zvc{β:Type}(zaC:zoF)(L:Nat)(p:List (List V))(z A:Int)(k:KK β):xq zi8 (ziR zaC L) L zfm [(V.ptr 0 0)] [(.live false [(V.sl 1 p),(Qe z),(Qe A)])] k=zjO zaC L p z A (fun C p z A=>k (V.agg C) [(.live false [(V.sl 1 p),(Qe z),(Qe A)])]):=by kernel_rfl
abbrev yq:=∀ (β:Type),Nat→List (List V)→Int→Int→(List V→List (List V)→Int→Int→Option β)→Option β
def zc(β:Type)(L:Nat)(z:List (List V))(A C:Int)(p:List V→List (List V)→Int→Int→Option β):Option β:=zjO zaC L z A C p
def zgj(zc:yq)(L:Nat)(β:Type)(args:List V)(bor:Bor)(k:KK β):Option β:=match args,bor with
 | [a0],[(.live false [w0_0,w0_1,w0_2])]=>aP 0 0 a0 (aL 1 w0_0 fun p=>aI .i64 w0_1 fun z=>aI .i64 w0_2 fun A=>zc β L p z A (fun C p z A=>k (V.agg C) [(.live false [(V.sl 1 p),(Qe z),(Qe A)])]))
 | _,_=>none
theorem zuI(L:Nat)(β:Type)(args:List V)(bor:Bor)(k:KK β)(r:β)(h:zgj zc L β args bor k=some r):xq zi8 (ziR zaC L) L zfm args bor k=some r:=by
 unfold zgj at h
 split at h
 ·have q:=zeD h; clear h; obtain ⟨rfl,h⟩:=q
  have q:=xL h; clear h; obtain ⟨p,rfl,h⟩:=q
  have q:=yy h; clear h; obtain ⟨z,rfl,h⟩:=q
  have q:=yy h; clear h; obtain ⟨A,rfl,h⟩:=q
  exact (zvc zaC L p z A k).trans h
 ·cases h
def zoV:CF:=⟨13,[.tmp 4,.tmp 5,.tmp 6],(.seq (.reg [oo 4 (.move (.const (.sc (.int .u64 0))) false),Qh 5 (Qf 0),Qh 6 (Qf 0)]) (.seq (.reg [Qh 7 (tq 0),Qh 8 (tq 1),Qs 9 209 [(Qw 7),(Qw 8),((Qf 8),0)],Qq 10 (tq 9) 0,Qq 11 (tq 9) 1,Qq 12 (tq 9) 2,Qh 4 (tq 10),Qh 5 (tq 11),Qh 6 (tq 12)]) .ret))⟩
def zvF:Hint:=⟨[],[],[none],[],[],false,false,[]⟩
def ztu:Nat→Sh:=xT []
def zts(yw:zce)(L:Nat):CBC:=(xy 209 (zfO yw L) noC)
def zuU{β:Type}(yw:zce)(L:Nat)(z:List (List V))(A:Int)(p:Int→Int→Int→Option β):Option β:=yw β L z A (8:Int) (fun C D E=>p C D E)
theorem zDd{β:Type}(yw:zce)(L:Nat)(C:List (List V))(D:Int)(k:KK β):xq ztu (zts yw L) L zoV [(V.sl 1 C),(Qe D)] [] k=zuU yw L C D (fun p z A=>k (V.tup [(Qd p),(Qe z),(Qe A)]) []):=by kernel_rfl
abbrev zpX:=∀ (β:Type),Nat→List (List V)→Int→(Int→Int→Int→Option β)→Option β
def zaX(β:Type)(L:Nat)(z:List (List V))(A:Int)(p:Int→Int→Int→Option β):Option β:=zuU yw L z A p
def zp9(zaX:zpX)(L:Nat)(β:Type)(args:List V)(bor:Bor)(k:KK β):Option β:=match args,bor with
 | [a0,a1],[]=>aL 1 a0 fun C=>aI .i64 a1 fun D=>zaX β L C D (fun p z A=>k (V.tup [(Qd p),(Qe z),(Qe A)]) [])
 | _,_=>none
theorem zCJ(L:Nat)(β:Type)(args:List V)(bor:Bor)(k:KK β)(r:β)(h:zp9 zaX L β args bor k=some r):xq ztu (zts yw L) L zoV args bor k=some r:=by
 unfold zp9 at h
 split at h
 ·have q:=xL h; clear h; obtain ⟨p,rfl,h⟩:=q
  have q:=yy h; clear h; obtain ⟨z,rfl,h⟩:=q
  exact (zDd yw L p z k).trans h
 ·cases h
def zft:CF:=⟨33,[.tmp 2],(.seq (.reg [oo 2 (.move (.const (.sc (.int .u64 0))) false)]) (.seq (.seq (.reg [Qh 6 (tq 0),oo 7 (.nilCheck (tq 6)),Ql 8 2 (tq 7),Qj 9 1 (tq 8),Qp 10 .neq (tq 9) (Qf 0)]) (.cond (tq 10) (.seq (.reg [oo 2 (.move (.const (.sc (.int .u64 0))) false)]) .ret) .skip)) (.seq (.dreg [] [(Qh 12 (tq 0),q0),(oo 13 (.nilCheck (tq 12)),q0),(Ql 14 0 (tq 13),q0),(Qj 15 1 (tq 14),ql 0 [] []),(Qh 16 (tq 0),q0),(oo 17 (.nilCheck (tq 16)),q0),(Ql 18 1 (tq 17),q0),(Qj 19 1 (tq 18),ql 0 [] []),(Qs 20 210 [(Qw 15),(Qw 19)],q0),(Qi 11 (tq 20),q0),(Qq 21 (tq 11) 0,q0),(Qq 22 (tq 11) 1,q0),(Qq 23 (tq 11) 2,q0),(Qh 3 (tq 21),q0),(Qh 4 (tq 22),q0),(Qh 5 (tq 23),q0)]) (.seq (.reg [Qh 24 (tq 0),Qh 25 (tq 0),Qh 26 (tq 4),Qh 27 (tq 5),oo 28 (.nilCheck (tq 24)),Ql 29 1 (tq 28),Qm 1 (tq 29) (tq 26),oo 30 (.nilCheck (tq 25)),Ql 31 2 (tq 30),Qm 1 (tq 31) (tq 27)]) (.seq (.reg [Qh 32 (tq 3),Qh 2 (tq 32)]) .ret)))))⟩
def zml:Hint:=⟨[(3,9)],[],[none,none,none],[],[],false,false,[]⟩
def ziL:Nat→Sh:=xT []
def ziE(zaX:zpX)(L:Nat):CBC:=(xy 210 (zp9 zaX L) noC)
def zjx{β:Type}(zaX:zpX)(L:Nat)(p:List (List V))(A C:Int)(z:Int→List (List V)→Int→Int→Option β):Option β:=ifb ((C:Int) != (0:Int)) (z (0:Int) p A C) (zaX β L p A (fun D E F=>z D p E F))
theorem zu0{β:Type}(zaX:zpX)(L:Nat)(p:List (List V))(z A:Int)(k:KK β):xq ziL (ziE zaX L) L zft [(V.ptr 0 0)] [(.live false [(V.sl 1 p),(Qe z),(Qe A)])] k=zjx zaX L p z A (fun C p z A=>k (Qd C) [(.live false [(V.sl 1 p),(Qe z),(Qe A)])]):=by kernel_rfl
abbrev zga:=∀ (β:Type),Nat→List (List V)→Int→Int→(Int→List (List V)→Int→Int→Option β)→Option β
def yP(β:Type)(L:Nat)(z:List (List V))(A C:Int)(p:Int→List (List V)→Int→Int→Option β):Option β:=zjx zaX L z A C p
def zge(yP:zga)(L:Nat)(β:Type)(args:List V)(bor:Bor)(k:KK β):Option β:=match args,bor with
 | [a0],[(.live false [w0_0,w0_1,w0_2])]=>aP 0 0 a0 (aL 1 w0_0 fun p=>aI .i64 w0_1 fun z=>aI .i64 w0_2 fun A=>yP β L p z A (fun C p z A=>k (Qd C) [(.live false [(V.sl 1 p),(Qe z),(Qe A)])]))
 | _,_=>none
theorem zuv(L:Nat)(β:Type)(args:List V)(bor:Bor)(k:KK β)(r:β)(h:zge yP L β args bor k=some r):xq ziL (ziE zaX L) L zft args bor k=some r:=by
 unfold zge at h
 split at h
 ·have q:=zeD h; clear h; obtain ⟨rfl,h⟩:=q
  have q:=xL h; clear h; obtain ⟨p,rfl,h⟩:=q
  have q:=yy h; clear h; obtain ⟨z,rfl,h⟩:=q
  have q:=yy h; clear h; obtain ⟨A,rfl,h⟩:=q
  exact (zu0 zaX L p z A k).trans h
 ·cases h
def zj9:CF:=⟨17,[.tmp 4],(.seq (.reg [Qi 4 (.const (.gs 1 []))]) (.seq (.reg [Qh 6 (tq 0),Qr 7 (tq 6),Qh 8 (tq 1),Qr 9 (tq 8),Qp 10 .add (tq 7) (tq 9),oo 11 (.makeSlice 1 1 [(.sc (.int .u8 0))] (Qf 0) (tq 10)),Qi 5 (tq 11)]) (.seq (.reg [Qi 12 (tq 5),Qh 13 (tq 0),oo 14 (.append 1 1 (tq 12) (tq 13)),Qh 15 (tq 1),oo 16 (.append 1 1 (tq 14) (tq 15)),Qi 4 (tq 16)]) .ret)))⟩
def zrA:Hint:=⟨[(0,0),(1,6),(2,0),(2,5)],[],[none],[],[],false,false,[]⟩
def znK:Nat→Sh:=xT []
def znR(L:Nat):CBC:=noC
def zls{β:Type}(L:Nat)(p z:List (List V))(A:List (List V)→Option β):Option β:=lt (QF .i64 ((((XM p:Nat):Int):Int)+((XM z:Nat):Int))) fun C=>chk (0≤(0:Int)∧(0:Int)≤C∧(XO C)*1≤yn∧C≤yn) (chk ((XM (We 0 [(Qa (0:Int))])+XM p)*1≤yn∧XM (We 0 [(Qa (0:Int))])+XM p≤yn) (lt ((We 0 [(Qa (0:Int))])++p) fun D=>chk ((XM D+XM z)*1≤yn∧XM D+XM z≤yn) (lt (D++z) fun E=>A E)))
theorem zzJ{β:Type}(L:Nat)(p z:List (List V))(k:KK β):xq znK (znR L) L zj9 [(V.sl 1 p),(V.sl 1 z)] [] k=zls L p z (fun p=>k (V.gs 1 p) []):=by kernel_rfl
abbrev zZ:=∀ (β:Type),Nat→List (List V)→List (List V)→(List (List V)→Option β)→Option β
def xi(β:Type)(L:Nat)(z A:List (List V))(p:List (List V)→Option β):Option β:=zls L z A p
def zcP(xi:zZ)(L:Nat)(β:Type)(args:List V)(bor:Bor)(k:KK β):Option β:=match args,bor with
 | [a0,a1],[]=>aL 1 a0 fun p=>aL 1 a1 fun z=>xi β L p z (fun p=>k (V.gs 1 p) [])
 | _,_=>none
theorem zzR(L:Nat)(β:Type)(args:List V)(bor:Bor)(k:KK β)(r:β)(h:zcP xi L β args bor k=some r):xq znK (znR L) L zj9 args bor k=some r:=by
 unfold zcP at h
 split at h
 ·have q:=xL h; clear h; obtain ⟨p,rfl,h⟩:=q
  have q:=xL h; clear h; obtain ⟨z,rfl,h⟩:=q
  exact (zzJ L p z k).trans h
 ·cases h
def zlr:CF:=⟨45,[.tmp 6,.tmp 7,.tmp 8],(.seq (.reg [Qi 6 (.const (.gs 1 [])),Qh 7 (Qf 0),Qh 8 (Qf 0)]) (.seq (.seq (.reg [Qh 12 (tq 2),Qp 13 .lss (tq 12) (Qf 0)]) (.cond (tq 13) (.seq (.reg [Qi 6 (.const (.gs 1 [])),Qh 7 (Qf 0),Qh 8 (Qf 5)]) .ret) .skip)) (.seq (.reg [Qh 15 (tq 0),Qh 16 (tq 1),Qh 17 (tq 2),Qu 18 .u64 (tq 17),Qs 19 201 [(Qw 15),(Qw 16),(Qw 18)],Qi 14 (tq 19),Qq 20 (tq 14) 0,Qq 21 (tq 14) 1,Qq 22 (tq 14) 2,Qh 9 (tq 20),Qh 10 (tq 21),Qh 11 (tq 22)]) (.seq (.seq (.reg [Qh 23 (tq 11),Qp 24 .neq (tq 23) (Qf 0)]) (.cond (tq 24) (.seq (.reg [Qh 25 (tq 11),Qi 6 (.const (.gs 1 [])),Qh 7 (Qf 0),Qh 8 (tq 25)]) .ret) .skip)) (.seq (.seq (.reg [Qh 26 (tq 0),Qr 27 (tq 26),Qh 28 (tq 10),Qp 29 .sub (tq 27) (tq 28),Qu 30 .u64 (tq 29),Qh 31 (tq 9),Qp 32 .lss (tq 30) (tq 31)]) (.cond (tq 32) (.seq (.reg [Qi 6 (.const (.gs 1 [])),Qh 7 (Qf 0),Qh 8 (Qf 1)]) .ret) .skip)) (.seq (.reg [Qi 33 (tq 0),Qh 34 (tq 10),Qh 35 (tq 10),Qh 36 (tq 9),Qu 37 .i64 (tq 36),Qp 38 .add (tq 35) (tq 37),oo 39 (.sliceS 1 (tq 33) (some (tq 34)) (some (tq 38)) none),oo 40 (.call 193 [((.const (.gs 1 [])),0),(Qw 39)] []),Qh 41 (tq 10),Qh 42 (tq 9),Qu 43 .i64 (tq 42),Qp 44 .add (tq 41) (tq 43),Qi 6 (tq 40),Qh 7 (tq 44),Qh 8 (Qf 0)]) .ret))))))⟩
def zsI:Hint:=⟨[(0,0),(2,0),(3,5),(5,1),(7,0),(8,0),(8,12)],[],[none,none,none,none,none,none,none],[],[],false,false,[]⟩
def zpk:Nat→Sh:=xT []
def zpD(zO:zfX)(xi:zZ)(L:Nat):CBC:=(xy 193 (zcP xi L) (xy 201 (zkB zO L) noC))
def zqT{β:Type}(zO:zfX)(xi:zZ)(L:Nat)(A:List (List V))(H E:Int)(p:List (List V)→Int→Int→Option β):Option β:=ifb (decide (E<(0:Int))) (p ([]:List (List V)) (0:Int) (5:Int)) (lt (QF .u64 E) fun I=>zO β L A H I (fun D z F=>ifb ((F:Int) != (0:Int)) (p ([]:List (List V)) (0:Int) F) (lt (QF .i64 ((((XM A:Nat):Int):Int)-z)) fun J=>lt (QF .u64 J) fun M=>ifb (decide (M<D)) (p ([]:List (List V)) (0:Int) (1:Int)) (lt (QF .i64 D) fun N=>lt (QF .i64 ((z:Int)+N)) fun C=>chk (0≤C∧C≤(((XM A):Nat):Int)) (chk (0≤z∧z≤(((XO C):Nat):Int)) (xi β L ([]:List (List V)) (XN ((XO C)-(XO z)) (XP (XO z) A)) (fun O=>lt (QF .i64 D) fun P=>lt (QF .i64 ((z:Int)+P)) fun G=>p O G (0:Int))))))))
theorem zAq{β:Type}(zO:zfX)(xi:zZ)(L:Nat)(C:List (List V))(D E:Int)(k:KK β):xq zpk (zpD zO xi L) L zlr [(V.sl 1 C),(Qe D),(Qe E)] [] k=zqT zO xi L C D E (fun p z A=>k (V.tup [(V.gs 1 p),(Qe z),(Qe A)]) []):=by kernel_rfl
abbrev zmH:=∀ (β:Type),Nat→List (List V)→Int→Int→(List (List V)→Int→Int→Option β)→Option β
def zae(β:Type)(L:Nat)(z:List (List V))(A C:Int)(p:List (List V)→Int→Int→Option β):Option β:=zqT zO xi L z A C p
def zmV(zae:zmH)(L:Nat)(β:Type)(args:List V)(bor:Bor)(k:KK β):Option β:=match args,bor with
 | [a0,a1,a2],[]=>aL 1 a0 fun C=>aI .i64 a1 fun D=>aI .i64 a2 fun E=>zae β L C D E (fun p z A=>k (V.tup [(V.gs 1 p),(Qe z),(Qe A)]) [])
 | _,_=>none
theorem zA0(L:Nat)(β:Type)(args:List V)(bor:Bor)(k:KK β)(r:β)(h:zmV zae L β args bor k=some r):xq zpk (zpD zO xi L) L zlr args bor k=some r:=by
 unfold zmV at h
 split at h
 ·have q:=xL h; clear h; obtain ⟨p,rfl,h⟩:=q
  have q:=yy h; clear h; obtain ⟨z,rfl,h⟩:=q
  have q:=yy h; clear h; obtain ⟨A,rfl,h⟩:=q
  exact (zAq zO xi L p z A k).trans h
 ·cases h
def zeU:CF:=⟨36,[.tmp 4],(.seq (.reg [Qi 4 (.const (.gs 1 []))]) (.seq (.seq (.reg [Qh 8 (tq 0),oo 9 (.nilCheck (tq 8)),Ql 10 2 (tq 9),Qj 11 1 (tq 10),Qp 12 .neq (tq 11) (Qf 0)]) (.cond (tq 12) (.seq (.reg [Qi 4 (.const (.gs 1 []))]) .ret) .skip)) (.seq (.dreg [] [(Qh 14 (tq 0),q0),(oo 15 (.nilCheck (tq 14)),q0),(Ql 16 0 (tq 15),q0),(Qj 17 1 (tq 16),ql 0 [] []),(Qh 18 (tq 0),q0),(oo 19 (.nilCheck (tq 18)),q0),(Ql 20 1 (tq 19),q0),(Qj 21 1 (tq 20),ql 0 [] []),(Qh 22 (tq 1),q0),(Qs 23 204 [(Qw 17),(Qw 21),(Qw 22)],q0),(Qi 13 (tq 23),q0),(Qq 24 (tq 13) 0,q0),(Qq 25 (tq 13) 1,q0),(Qq 26 (tq 13) 2,q0),(Qi 5 (tq 24),q0),(Qh 6 (tq 25),q0),(Qh 7 (tq 26),q0)]) (.seq (.reg [Qh 27 (tq 0),Qh 28 (tq 0),Qh 29 (tq 6),Qh 30 (tq 7),oo 31 (.nilCheck (tq 27)),Ql 32 1 (tq 31),Qm 1 (tq 32) (tq 29),oo 33 (.nilCheck (tq 28)),Ql 34 2 (tq 33),Qm 1 (tq 34) (tq 30)]) (.seq (.reg [Qi 35 (tq 5),Qi 4 (tq 35)]) .ret)))))⟩
def zlA:Hint:=⟨[(0,0),(2,0),(3,10),(3,14),(5,0),(5,1)],[],[none,none,none],[],[],false,false,[]⟩
def zip:Nat→Sh:=xT []
def zif(zae:zmH)(L:Nat):CBC:=(xy 204 (zmV zae L) noC)
def zfs{β:Type}(zae:zmH)(L:Nat)(E:Int)(p:List (List V))(A C:Int)(D:List (List V)→List (List V)→Int→Int→Option β)(z:List (List V)→List (List V)→Int→Int→Option β):Option β:=ifb ((C:Int) != (0:Int)) (D ([]:List (List V)) p A C) (zae β L p A E (fun F G H=>z F p G H))
theorem ztM{β:Type}(zae:zmH)(L:Nat)(D:Int)(p:List (List V))(z A:Int)(k:KK β):xq zip (zif zae L) L zeU [(V.ptr 0 0),(Qe D)] [(.live false [(V.sl 1 p),(Qe z),(Qe A)])] k=zfs zae L D p z A (fun C p z A=>k (V.gs 1 C) [(.live false [(V.sl 1 p),(Qe z),(Qe A)])]) (fun C p z A=>k (V.sl 1 C) [(.live false [(V.sl 1 p),(Qe z),(Qe A)])]):=by kernel_rfl
abbrev yl:=∀ (β:Type),Nat→Int→List (List V)→Int→Int→(List (List V)→List (List V)→Int→Int→Option β)→(List (List V)→List (List V)→Int→Int→Option β)→Option β
def za(β:Type)(L:Nat)(E:Int)(A:List (List V))(C D:Int)(z:List (List V)→List (List V)→Int→Int→Option β)(p:List (List V)→List (List V)→Int→Int→Option β):Option β:=zfs zae L E A C D z p
def zdJ(za:yl)(L:Nat)(β:Type)(args:List V)(bor:Bor)(k:KK β):Option β:=match args,bor with
 | [a0,a1],[(.live false [w0_0,w0_1,w0_2])]=>aP 0 0 a0 (aI .i64 a1 fun D=>aL 1 w0_0 fun p=>aI .i64 w0_1 fun z=>aI .i64 w0_2 fun A=>za β L D p z A (fun C p z A=>k (V.gs 1 C) [(.live false [(V.sl 1 p),(Qe z),(Qe A)])]) (fun C p z A=>k (V.sl 1 C) [(.live false [(V.sl 1 p),(Qe z),(Qe A)])]))
 | _,_=>none
theorem ztD(L:Nat)(β:Type)(args:List V)(bor:Bor)(k:KK β)(r:β)(h:zdJ za L β args bor k=some r):xq zip (zif zae L) L zeU args bor k=some r:=by
 unfold zdJ at h
 split at h
 ·have q:=zeD h; clear h; obtain ⟨rfl,h⟩:=q
  have q:=yy h; clear h; obtain ⟨C,rfl,h⟩:=q
  have q:=xL h; clear h; obtain ⟨p,rfl,h⟩:=q
  have q:=yy h; clear h; obtain ⟨z,rfl,h⟩:=q
  have q:=yy h; clear h; obtain ⟨A,rfl,h⟩:=q
  exact (ztM zae L C p z A k).trans h
 ·cases h
def zet:CF:=⟨23,[.cell 2 true 2],(.seq (.reg [oo 2 (.alloc true [(.sc (.int .i64 0)),(.gs 1 [])])]) (.seq (.reg [Qh 4 (tq 0),Qs 5 203 [(Qw 4)],Qh 3 (tq 5)]) (.seq (.seq (.reg [Qh 6 (tq 0),oo 7 (.nilCheck (tq 6)),Ql 8 2 (tq 7),Qj 9 1 (tq 8),Qp 10 .eql (tq 9) (Qf 0),Qh 11 (tq 10),⟨(some 12),false,(some (11,true)),.move (tq 3) false⟩,⟨(some 13),false,(some (11,true)),.bin .geq (tq 12) (.const (.sc (.int .u64 9223372036854775808)))⟩,oo 14 (.pick (tq 11) (tq 13) (Qg false))]) (.cond (tq 14) (.reg [Qh 15 (tq 0),oo 16 (.nilCheck (tq 15)),Ql 17 2 (tq 16),Qm 1 (tq 17) (Qf 90)]) .skip)) (.seq (.reg [Qh 18 (tq 3),Qu 19 .i64 (tq 18),Qh 20 (tq 0),Qs 21 178 [(Qw 20),((Qf 520),0)],oo 22 (.build [(.sc (.int .i64 0)),(.sl 1 [])] [(0,1,(tq 19)),(1,1,(tq 21))]),Qm 2 (tq 2) (tq 22)]) .ret))))⟩
def zkl:Hint:=⟨[(0,0)],[],[none,none],[],[],false,false,[]⟩
def zhr:Nat→Sh:=xT []
def zhB(yP:zga)(za:yl)(L:Nat):CBC:=(xy 178 (zdJ za L) (xy 203 (zge yP L) noC))
def zib{β:Type}(yP:zga)(za:yl)(L:Nat)(I:List (List V))(J M:Int)(p:List V→List (List V)→Int→Int→Option β):Option β:=yP β L I J M (fun z N O P=>ifb ((P:Int)==(0:Int)) (ifb (decide (z≥(9223372036854775808:Int))) (lt (QF .i64 z) fun Q=>za β L (520:Int) N O (90:Int) (fun v5 v6 v7 v8=>lt [(Qe Q),(V.sl 1 v5)] fun R=>chk (0=0∧(XM R)=2∧2≠0) (p R v6 v7 v8)) (fun S T U W=>lt [(Qe Q),(V.sl 1 S)] fun A=>chk (0=0∧(XM A)=2∧2≠0) (p A T U W))) (lt (QF .i64 z) fun C=>za β L (520:Int) N O P (fun X Y Z aa=>lt [(Qe C),(V.sl 1 X)] fun D=>chk (0=0∧(XM D)=2∧2≠0) (p D Y Z aa)) (fun ab ac ad ae=>lt [(Qe C),(V.sl 1 ab)] fun E=>chk (0=0∧(XM E)=2∧2≠0) (p E ac ad ae)))) (lt (QF .i64 z) fun F=>za β L (520:Int) N O P (fun af ag ah ai=>lt [(Qe F),(V.sl 1 af)] fun G=>chk (0=0∧(XM G)=2∧2≠0) (p G ag ah ai)) (fun aj ak al am=>lt [(Qe F),(V.sl 1 aj)] fun H=>chk (0=0∧(XM H)=2∧2≠0) (p H ak al am))))
theorem ztr{β:Type}(yP:zga)(za:yl)(L:Nat)(p:List (List V))(z A:Int)(k:KK β):xq zhr (zhB yP za L) L zet [(V.ptr 0 0)] [(.live false [(V.sl 1 p),(Qe z),(Qe A)])] k=zib yP za L p z A (fun C p z A=>k (V.agg C) [(.live false [(V.sl 1 p),(Qe z),(Qe A)])]):=by kernel_rfl
abbrev ym:=∀ (β:Type),Nat→List (List V)→Int→Int→(List V→List (List V)→Int→Int→Option β)→Option β
def ya(β:Type)(L:Nat)(z:List (List V))(A C:Int)(p:List V→List (List V)→Int→Int→Option β):Option β:=zib yP za L z A C p
def ze0(ya:ym)(L:Nat)(β:Type)(args:List V)(bor:Bor)(k:KK β):Option β:=match args,bor with
 | [a0],[(.live false [w0_0,w0_1,w0_2])]=>aP 0 0 a0 (aL 1 w0_0 fun p=>aI .i64 w0_1 fun z=>aI .i64 w0_2 fun A=>ya β L p z A (fun C p z A=>k (V.agg C) [(.live false [(V.sl 1 p),(Qe z),(Qe A)])]))
 | _,_=>none
theorem zs4(L:Nat)(β:Type)(args:List V)(bor:Bor)(k:KK β)(r:β)(h:ze0 ya L β args bor k=some r):xq zhr (zhB yP za L) L zet args bor k=some r:=by
 unfold ze0 at h
 split at h
 ·have q:=zeD h; clear h; obtain ⟨rfl,h⟩:=q
  have q:=xL h; clear h; obtain ⟨p,rfl,h⟩:=q
  have q:=yy h; clear h; obtain ⟨z,rfl,h⟩:=q
  have q:=yy h; clear h; obtain ⟨A,rfl,h⟩:=q
  exact (ztr yP za L p z A k).trans h
 ·cases h
end
end Go.Proofs.Ytoeobffjdbdpgaa
