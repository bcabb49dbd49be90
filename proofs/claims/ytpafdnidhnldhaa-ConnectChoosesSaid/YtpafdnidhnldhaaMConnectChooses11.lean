/- Part 11 of the proof of ConnectChooses: an abstract machine over plain values, its soundness, and the functions of the program on plain values. -/
import Derived.Test.YtpafdnidhnldhaaMConnectChooses10
namespace Go.Proofs.Ytpafdnidhnldhaa
section
set_option maxRecDepth 100000
set_option linter.unusedVariables false
set_option linter.unusedSimpArgs false
def zal:CC:=(.seq (.seq (.reg [oo 24 (.move (tq 9) false),
   oo 25 (.move (tq 7) false),
   oo 26 (.lenS (tq 25)),
   oo 27 (.bin .lss (tq 24) (tq 26))])
 (.cond (tq 27)
 .skip
 (.seq (.mask (bl 256 47) (bl 87892143635959 47))
 (.exit 1))))
 (.seq (.block 2 (.seq (.reg [oo 30 (.move (tq 1) false),
   oo 31 (.move (tq 7) false),
   oo 32 (.move (tq 9) false),
   oo 33 (.indexAddrS 5 (tq 31) (tq 32)),
   oo 34 (.fieldAddr 1 (tq 33)),
   oo 35 (.load true 3 (tq 34) false),
   oo 36 (.call 283 [((tq 30),0),((tq 35),0)] []),
   oo 37 (.un .not (tq 36))])
 (.cond (tq 37)
 (.reg [oo 38 (.move (tq 8) true),
   oo 39 (.move (tq 7) false),
   oo 40 (.move (tq 9) false),
   oo 41 (.indexAddrS 5 (tq 39) (tq 40)),
   oo 42 (.fieldAddr 1 (tq 41)),
   oo 43 (.load true 3 (tq 42) false),
   oo 44 (.buildSlice 3 1 [(.sc (.int .u32 0)),(.sc (.int .u16 0)),(.sc (.int .u32 0))] [(0,3,(tq 43))]),
   oo 45 (.append 3 12 (tq 38) (tq 44)),
   oo 8 (.move (tq 45) true)])
 .skip)))
 (.reg [oo 28 (.move (tq 9) false),
   oo 29 (.bin .add (tq 28) (.const (.sc (.int .i64 1)))),
   oo 9 (.move (tq 29) false)])))
def zdM:CC:=(.seq (.reg [oo 46 (.move (tq 8) true),
   oo 6 (.move (tq 46) true)])
 .ret)
def zbG:CF:=⟨47,[.tmp 6],
 (.seq (.reg [oo 3 (.box true (tq 0)),
   oo 6 (.move (.const (.gs 3 [])) true)])
 (.seq (.reg [oo 7 (.move (.const (.gs 5 [])) true)])
 (.seq (.seq (.reg [oo 10 (.move (tq 2) false)])
 (.block 0 (.seq (.reg [oo 12 (.bin .eql (tq 10) (.const (.sc (.int .i64 2)))),
   oo 11 (.move (tq 12) false)])
 (.cond (tq 11)
 (.dreg [] [(oo 13 (.buildSlice 5 0 [(.sc (.int .i64 0)),(.sc (.int .u32 0)),(.sc (.int .u16 0)),(.sc (.int .u32 0)),(.sc (.int .u32 0))] []),qn [3] []),
   (oo 14 (.fieldAddr 33 (tq 3)),q0),
   (oo 15 (.load false 1 (tq 14) false),ql 3 [] [13]),
   (oo 16 (.append 5 24 (tq 13) (tq 15)),qn [3] []),
   (oo 17 (.fieldAddr 32 (tq 3)),q0),
   (oo 18 (.load false 1 (tq 17) false),ql 3 [] [13,16]),
   (oo 19 (.append 5 24 (tq 16) (tq 18)),q0),
   (oo 7 (.move (tq 19) false),q0)])
 (.seq (.reg [oo 21 (.bin .eql (tq 10) (.const (.sc (.int .i64 3)))),
   oo 20 (.move (tq 21) false)])
 (.cond (tq 20)
 (.reg [oo 22 (.fieldAddr 32 (tq 3)),
   oo 23 (.load false 1 (tq 22) false),
   oo 7 (.move (tq 23) false)])
 .skip))))))
 (.seq (.reg [oo 8 (.move (.const (.gs 3 [])) true)])
 (.seq (.seq (.reg [oo 9 (.move (.const (.sc (.int .i64 0))) false)])
 (.block 1 (.loop (bl 898 47) (bl 87892143636471 47)
 zal)))
 zdM)))))⟩
def zpy:Hint:=⟨[(0,0),(0,1),(1,0),(7,0),(12,0),(12,8),(13,0),(13,1)],[],[none,none,none,none,some ((bl 898 47),(bl 87892143636471 47)),none,some ((bl 256 47),(bl 87892143635959 47)),none,none,none],[],[],false,false⟩
def yU:Nat→Sh:=zV [(15,(.sl 5)),(18,(.sl 5)),(23,(.sl 5))]
def zU (ze:zA) (L:Nat):CBC:=(xA 283 (zig ze L) noC)
def zaV:St→St:=zaE 0 (bl 898 47) (bl 87892143636471 47)
def zdH (p1 p7 p8:List (List V)) (p9:Int):St:=⟨(jn 1 ((V.sl 4 p1)::(jn 5 ((V.sl 5 p7)::((V.gs 3 p8)::((V.sc (.int .i64 p9))::(jn 37 []))))))),(gn 47 [])⟩
def zdi (p1 p7 p8:List (List V)) (p9:Int):St:=⟨(jn 1 ((V.sl 4 p1)::(jn 5 ((V.gs 5 p7)::((V.gs 3 p8)::((V.sc (.int .i64 p9))::(jn 37 []))))))),(gn 47 [])⟩
def zc6 (p8:List (List V)):St:=⟨(jn 8 ((V.gs 3 p8)::(jn 38 []))),(gn 47 [])⟩
abbrev zkU (β:Type):Type:=List (List V)→List (List V)→List (List V)→Int→Option β
abbrev zjV (β:Type):Type:=List (List V)→List (List V)→List (List V)→Int→Option β
def zmw {β:Type} (ze:zA) (L:Nat) (p0:List V) (p1:List (List V)) (p2:Int) (k_hbbbbaba:zkU β) (k_hbbbbabav1:zjV β):Option β :=
 ifb ((p2:Int) == (2:Int)) (
 cLd 5 p0 33 fun v0 =>
 chk ((List.length ([]:List (List V))+List.length v0) * 24≤yu∧List.length ([]:List (List V))+List.length v0≤yu) (
 lt (([]:List (List V))++v0) fun l1 =>
 cLd 5 p0 32 fun v2 =>
 chk ((List.length l1+List.length v2) * 24≤yu∧List.length l1+List.length v2≤yu) (
 lt (l1++v2) fun l3 =>
 k_hbbbbaba p1 l3 ([]:List (List V)) (0:Int)))) (
 ifb ((p2:Int) == (3:Int)) (
 cLd 5 p0 32 fun v4 =>
 k_hbbbbaba p1 v4 ([]:List (List V)) (0:Int)) (
 k_hbbbbabav1 p1 ([]:List (List V)) ([]:List (List V)) (0:Int)))
theorem zwV {β:Type} (ze:zA) (L:Nat) (p0:List V) (p1:List (List V)) (p2:Int) (k:KK β):xr yU (zU ze L) L zbG [(V.agg p0),(V.sl 4 p1),(V.sc (.int .i64 p2))] [] k=zmw ze L p0 p1 p2 (fun p1 p7 p8 p9=>xy (yj yU (zU ze L) 0 L zal) zaV L (zdH p1 p7 p8 p9) (zx 1 (yI (yj yU (zU ze L) 0 L zdM) (zN 0 (CF.res zbG) k)))) (fun p1 p7 p8 p9=>xy (yj yU (zU ze L) 0 L zal) zaV L (zdi p1 p7 p8 p9) (zx 1 (yI (yj yU (zU ze L) 0 L zdM) (zN 0 (CF.res zbG) k)))):=by kernel_rfl
def zg9 {β:Type} (ze:zA) (L:Nat) (p1 p7 p8:List (List V)) (p9:Int) (k_hbbbbaba:zkU β) (k_x1:List (List V)→Option β):Option β :=
 ifb (decide (p9 < ((List.length p7:Nat):Int))) (
 idx p7 p9 fun c5 =>
 ze β L p1 (List.take 3 (List.drop 1 c5)) (fun v6 =>
 ifb (!v6) (
 idx p7 p9 fun c7 =>
 chk ((List.length (List.take 3 (List.drop 1 c7)))=3∧0+3≤3) (
 chk ((List.length p8+List.length (zp 3 1 (yk [(V.sc (.int .u32 (0:Int))),(V.sc (.int .u16 (0:Int))),(V.sc (.int .u32 (0:Int)))] 0 (List.take 3 (List.drop 1 c7))))) * 12≤yu∧List.length p8+List.length (zp 3 1 (yk [(V.sc (.int .u32 (0:Int))),(V.sc (.int .u16 (0:Int))),(V.sc (.int .u32 (0:Int)))] 0 (List.take 3 (List.drop 1 c7))))≤yu) (
 lt (p8++(zp 3 1 (yk [(V.sc (.int .u32 (0:Int))),(V.sc (.int .u16 (0:Int))),(V.sc (.int .u32 (0:Int)))] 0 (List.take 3 (List.drop 1 c7))))) fun l8 =>
 lt (IntKind.wrap .i64 ((p9:Int)+(1:Int))) fun x9 =>
 k_hbbbbaba p1 p7 l8 x9))) (
 lt (IntKind.wrap .i64 ((p9:Int)+(1:Int))) fun x10 =>
 k_hbbbbaba p1 p7 p8 x10))) (
 k_x1 p8)
theorem zr0 {β:Type} (ze:zA) (L:Nat) (p1 p7 p8:List (List V)) (p9:Int) (X:St→Option β) (K:KT β):yj yU (zU ze L) 0 L zal (zdH p1 p7 p8 p9) (zaz zaV X K)=zg9 ze L p1 p7 p8 p9 (fun p1 p7 p8 p9=>X (zdH p1 p7 p8 p9)) (fun p8=>K (.exit 1) (zc6 p8)):=by kernel_rfl
def zf3 {β:Type} (ze:zA) (L:Nat) (p1 p7 p8:List (List V)) (p9:Int) (k_hbbbbabav1:zjV β) (k_x1:List (List V)→Option β):Option β :=
 ifb (decide (p9 < ((List.length p7:Nat):Int))) (
 idx p7 p9 fun c11 =>
 ze β L p1 (List.take 3 (List.drop 1 c11)) (fun v12 =>
 ifb (!v12) (
 idx p7 p9 fun c13 =>
 chk ((List.length (List.take 3 (List.drop 1 c13)))=3∧0+3≤3) (
 chk ((List.length p8+List.length (zp 3 1 (yk [(V.sc (.int .u32 (0:Int))),(V.sc (.int .u16 (0:Int))),(V.sc (.int .u32 (0:Int)))] 0 (List.take 3 (List.drop 1 c13))))) * 12≤yu∧List.length p8+List.length (zp 3 1 (yk [(V.sc (.int .u32 (0:Int))),(V.sc (.int .u16 (0:Int))),(V.sc (.int .u32 (0:Int)))] 0 (List.take 3 (List.drop 1 c13))))≤yu) (
 lt (p8++(zp 3 1 (yk [(V.sc (.int .u32 (0:Int))),(V.sc (.int .u16 (0:Int))),(V.sc (.int .u32 (0:Int)))] 0 (List.take 3 (List.drop 1 c13))))) fun l14 =>
 lt (IntKind.wrap .i64 ((p9:Int)+(1:Int))) fun x15 =>
 k_hbbbbabav1 p1 p7 l14 x15))) (
 lt (IntKind.wrap .i64 ((p9:Int)+(1:Int))) fun x16 =>
 k_hbbbbabav1 p1 p7 p8 x16))) (
 k_x1 p8)
theorem zq5 {β:Type} (ze:zA) (L:Nat) (p1 p7 p8:List (List V)) (p9:Int) (X:St→Option β) (K:KT β):yj yU (zU ze L) 0 L zal (zdi p1 p7 p8 p9) (zaz zaV X K)=zf3 ze L p1 p7 p8 p9 (fun p1 p7 p8 p9=>X (zdi p1 p7 p8 p9)) (fun p8=>K (.exit 1) (zc6 p8)):=by kernel_rfl
def zka {β:Type} (ze:zA) (L:Nat) (p8:List (List V)) (k_fin:List (List V)→Option β):Option β :=
 k_fin p8
theorem zqp {β:Type} (ze:zA) (L:Nat) (p8:List (List V)) (k:KK β):(zx 1 (yI (yj yU (zU ze L) 0 L zdM) (zN 0 (CF.res zbG) k))) (.exit 1) (zc6 p8)=zka ze L p8 (fun p0=>k (V.gs 3 p0) []):=by kernel_rfl
def zfb {β:Type} (ze:zA) (L:Nat) (p8:List (List V)) (k_fin:List (List V)→Option β):Option β :=
 k_fin p8
theorem zpg {β:Type} (ze:zA) (L:Nat) (p8:List (List V)) (k:KK β):(zx 1 (yI (yj yU (zU ze L) 0 L zdM) (zN 0 (CF.res zbG) k))) (.exit 1) (zc6 p8)=zfb ze L p8 (fun p0=>k (V.gs 3 p0) []):=by kernel_rfl
def zdd {β:Type} (ze:zA) (L:Nat) (k_x1:List (List V)→Option β):Nat→List (List V)→List (List V)→List (List V)→Int→Option β
 | 0,_,_,_,_=>none
 | n+1,p1,p7,p8,p9=>zg9 ze L p1 p7 p8 p9 (fun p1 p7 p8 p9=>zdd ze L k_x1 n p1 p7 p8 p9) k_x1
theorem zjH {β:Type} (ze:zA) (L:Nat) (K:KT β):∀ (n:Nat) (p1 p7 p8:List (List V)) (p9:Int),xy (yj yU (zU ze L) 0 L zal) zaV n (zdH p1 p7 p8 p9) K=zdd ze L (fun p8=>K (.exit 1) (zc6 p8)) n p1 p7 p8 p9:=by
 intro n
 induction n with
 | zero=>intros; rfl
 | succ n ih =>
  intro p1 p7 p8 p9
  refine (zr0 ze L p1 p7 p8 p9 (fun σ=>xy (yj yU (zU ze L) 0 L zal) zaV n σ K) K).trans ?_
  simp only [ih]
  rfl
def zcK {β:Type} (ze:zA) (L:Nat) (k_x1:List (List V)→Option β):Nat→List (List V)→List (List V)→List (List V)→Int→Option β
 | 0,_,_,_,_=>none
 | n+1,p1,p7,p8,p9=>zf3 ze L p1 p7 p8 p9 (fun p1 p7 p8 p9=>zcK ze L k_x1 n p1 p7 p8 p9) k_x1
theorem ziz {β:Type} (ze:zA) (L:Nat) (K:KT β):∀ (n:Nat) (p1 p7 p8:List (List V)) (p9:Int),xy (yj yU (zU ze L) 0 L zal) zaV n (zdi p1 p7 p8 p9) K=zcK ze L (fun p8=>K (.exit 1) (zc6 p8)) n p1 p7 p8 p9:=by
 intro n
 induction n with
 | zero=>intros; rfl
 | succ n ih =>
  intro p1 p7 p8 p9
  refine (zq5 ze L p1 p7 p8 p9 (fun σ=>xy (yj yU (zU ze L) 0 L zal) zaV n σ K) K).trans ?_
  simp only [ih]
  rfl
def ziu {β:Type} (ze:zA) (L:Nat) (p0:List V) (p1:List (List V)) (p2:Int) (k_fin:List (List V)→Option β):Option β :=
 zmw ze L p0 p1 p2 (fun p1 p7 p8 p9=>zdd ze L (fun p8=>zka ze L p8 k_fin) L p1 p7 p8 p9) (fun p1 p7 p8 p9=>zcK ze L (fun p8=>zfb ze L p8 k_fin) L p1 p7 p8 p9)
theorem zwZ {β:Type} (ze:zA) (L:Nat) (p0:List V) (p1:List (List V)) (p2:Int) (k:KK β):xr yU (zU ze L) L zbG [(V.agg p0),(V.sl 4 p1),(V.sc (.int .i64 p2))] [] k=ziu ze L p0 p1 p2 (fun p0=>k (V.gs 3 p0) []):=by
 refine (zwV ze L p0 p1 p2 k).trans ?_
 unfold ziu
 first
  | (simp only [zjH,zqp,ziz,zpg]; done)
  | (simp only [zjH,ziz]; rfl)
abbrev zq:=∀ (β:Type),Nat→List V→List (List V)→Int→(List (List V)→Option β)→Option β
def yc (β:Type) (L:Nat) (p0:List V) (p1:List (List V)) (p2:Int) (k_fin:List (List V)→Option β):Option β:=ziu ze L p0 p1 p2 k_fin
def zgb (yc:zq) (L:Nat) (β:Type) (args:List V) (bor:Bor) (k:KK β):Option β:=match args,bor with
 | [a0,a1,a2],[]=>aG a0 fun p0=>aL 4 a1 fun p1=>aI .i64 a2 fun p2=>yc β L p0 p1 p2 (fun p0=>k (V.gs 3 p0) [])
 | _,_=>none
theorem zw7 (L:Nat) (β:Type) (args:List V) (bor:Bor) (k:KK β) (r:β) (h:zgb yc L β args bor k=some r):xr yU (zU ze L) L zbG args bor k=some r:=by
 unfold zgb at h
 split at h
 ·have q:=y5 h; clear h; obtain ⟨p0,rfl,h⟩:=q
  have q:=xP h; clear h; obtain ⟨p1,rfl,h⟩:=q
  have q:=zad h; clear h; obtain ⟨p2,rfl,h⟩:=q
  exact (zwZ ze L p0 p1 p2 k).trans h
 ·cases h
def zed:CC:=(.seq (.seq (.reg [oo 28 (.move (tq 11) false),
   oo 29 (.move (tq 1) false),
   oo 30 (.lenS (tq 29)),
   oo 31 (.bin .lss (tq 28) (tq 30)),
   oo 32 (.move (tq 31) false),
   ⟨(some 33),false,(some (32,true)),.move (tq 2) false⟩,
   ⟨(some 34),false,(some (32,true)),.call 282 [((tq 33),0),((.const (.sc (.int .i64 1))),0)] []⟩,
   ⟨(some 35),false,(some (32,true)),.bin .lss (tq 34) (.const (.sc (.int .i64 2)))⟩,
   oo 36 (.pick (tq 32) (tq 35) (.const (.sc (.bool false)))),
   oo 37 (.move (tq 36) false),
   ⟨(some 38),false,(some (37,true)),.move (tq 2) false⟩,
   ⟨(some 39),false,(some (37,true)),.lenS (tq 38)⟩,
   ⟨(some 40),false,(some (37,true)),.bin .lss (tq 39) (.const (.sc (.int .i64 8)))⟩,
   oo 41 (.pick (tq 37) (tq 40) (.const (.sc (.bool false))))])
 (.cond (tq 41)
 .skip
 (.seq (.mask (bl 1308 88) (bl 309485009820781550761932287 88))
 (.exit 0))))
 (.seq (.block 1 (.seq (.reg [oo 44 (.move (tq 2) false),
   oo 45 (.move (tq 1) false),
   oo 46 (.move (tq 11) false),
   oo 47 (.indexAddrS 3 (tq 45) (tq 46)),
   oo 48 (.load true 3 (tq 47) false),
   oo 49 (.call 283 [((tq 44),0),((tq 48),0)] []),
   oo 50 (.un .not (tq 49))])
 (.cond (tq 50)
 (.seq (.reg [oo 51 (.move (tq 1) false),
   oo 52 (.move (tq 11) false),
   oo 53 (.indexAddrS 3 (tq 51) (tq 52)),
   oo 54 (.load true 3 (tq 53) false),
   oo 55 (.build [(.sc (.int .i64 0)),(.sc (.int .u32 0)),(.sc (.int .u16 0)),(.sc (.int .u32 0))] [(0,1,(.const (.sc (.int .i64 1)))),(1,3,(tq 54))]),
   oz (.store 4 (tq 8) (tq 55)),
   oo 9 (.move (.const (.sc (.int .i64 0))) false)])
 (.seq (.mask (bl 768 88) (bl 309485009820781550761932783 88))
 .ret))
 .skip)))
 (.reg [oo 42 (.move (tq 11) false),
   oo 43 (.bin .add (tq 42) (.const (.sc (.int .i64 1)))),
   oo 11 (.move (tq 43) false)])))
def zhT:CC:=(.seq (.seq (.reg [oo 56 (.move (tq 2) false),
   oo 57 (.lenS (tq 56)),
   oo 58 (.bin .geq (tq 57) (.const (.sc (.int .i64 8)))),
   oo 59 (.move (tq 58) false),
   ⟨(some 60),false,(some (59,false)),.move (tq 10) false⟩,
   ⟨(some 61),false,(some (59,false)),.bin .eql (tq 60) (.const (.sc (.int .i64 3)))⟩,
   ⟨(some 62),false,(some (59,false)),.move (tq 61) false⟩,
   ⟨(some 63),false,(some (62,true)),.move (tq 2) false⟩,
   ⟨(some 64),false,(some (62,true)),.call 282 [((tq 63),0),((.const (.sc (.int .i64 3))),0)] []⟩,
   ⟨(some 65),false,(some (62,true)),.bin .gtr (tq 64) (.const (.sc (.int .i64 0)))⟩,
   ⟨(some 66),false,(some (59,false)),.pick (tq 62) (tq 65) (.const (.sc (.bool false)))⟩,
   oo 67 (.pick (tq 59) (.const (.sc (.bool true))) (tq 66))])
 (.cond (tq 67)
 (.seq (.reg [oo 68 (.build [(.sc (.int .i64 0)),(.sc (.int .u32 0)),(.sc (.int .u16 0)),(.sc (.int .u32 0))] []),
   oz (.store 4 (tq 8) (tq 68)),
   oo 9 (.move (.const (.sc (.int .i64 380))) false)])
 .ret)
 .skip))
 (.seq (.reg [oo 69 (.load true 34 (tq 4) false),
   oo 70 (.move (tq 2) false),
   oo 71 (.move (tq 10) false),
   oo 72 (.call 267 [((tq 69),1),((tq 70),0),((tq 71),0)] []),
   oo 12 (.move (tq 72) false)])
 (.seq (.seq (.reg [oo 73 (.move (tq 12) false),
   oo 74 (.lenS (tq 73)),
   oo 75 (.bin .eql (tq 74) (.const (.sc (.int .i64 0))))])
 (.cond (tq 75)
 (.seq (.reg [oo 76 (.build [(.sc (.int .i64 0)),(.sc (.int .u32 0)),(.sc (.int .u16 0)),(.sc (.int .u32 0))] []),
   oz (.store 4 (tq 8) (tq 76)),
   oo 9 (.move (.const (.sc (.int .i64 390))) false)])
 .ret)
 .skip))
 (.seq (.reg [oo 77 (.move (tq 10) false),
   oo 78 (.move (tq 12) false),
   oo 79 (.move (tq 3) false),
   oo 80 (.move (tq 12) false),
   oo 81 (.lenS (tq 80)),
   oo 82 (.conv .u64 (tq 81)),
   oo 83 (.bin .rem (tq 79) (tq 82)),
   oo 84 (.conv .i64 (tq 83)),
   oo 85 (.indexAddrS 3 (tq 78) (tq 84)),
   oo 86 (.load true 3 (tq 85) false),
   oo 87 (.build [(.sc (.int .i64 0)),(.sc (.int .u32 0)),(.sc (.int .u16 0)),(.sc (.int .u32 0))] [(0,1,(tq 77)),(1,3,(tq 86))]),
   oz (.store 4 (tq 8) (tq 87)),
   oo 9 (.move (.const (.sc (.int .i64 0))) false)])
 .ret))))
def zdY:CF:=⟨88,[.cell 8 true 4,.tmp 9],
 (.seq (.reg [oo 4 (.box true (tq 0)),
   oo 8 (.alloc true [(.sc (.int .i64 0)),(.sc (.int .u32 0)),(.sc (.int .u16 0)),(.sc (.int .u32 0))]),
   oo 9 (.move (.const (.sc (.int .i64 0))) false)])
 (.seq (.seq (.reg [oo 13 (.move (tq 2) false),
   oo 14 (.call 280 [((tq 13),0)] []),
   oo 15 (.un .not (tq 14)),
   oo 16 (.move (tq 15) false),
   ⟨(some 17),false,(some (16,false)),.load true 34 (tq 4) false⟩,
   ⟨(some 18),false,(some (16,false)),.call 281 [((tq 17),1)] []⟩,
   ⟨(some 19),false,(some (16,false)),.un .not (tq 18)⟩,
   oo 20 (.pick (tq 16) (.const (.sc (.bool true))) (tq 19))])
 (.cond (tq 20)
 (.seq (.reg [oo 21 (.build [(.sc (.int .i64 0)),(.sc (.int .u32 0)),(.sc (.int .u16 0)),(.sc (.int .u32 0))] []),
   oz (.store 4 (tq 8) (tq 21)),
   oo 9 (.move (.const (.sc (.int .i64 6))) false)])
 .ret)
 .skip))
 (.seq (.reg [oo 10 (.move (.const (.sc (.int .i64 3))) false)])
 (.seq (.seq (.reg [oo 22 (.move (tq 2) false),
   oo 23 (.lenS (tq 22)),
   oo 24 (.move (tq 2) false),
   oo 25 (.call 282 [((tq 24),0),((.const (.sc (.int .i64 3))),0)] []),
   oo 26 (.bin .sub (tq 23) (tq 25)),
   oo 27 (.bin .lss (tq 26) (.const (.sc (.int .i64 7))))])
 (.cond (tq 27)
 (.reg [oo 10 (.move (.const (.sc (.int .i64 2))) false)])
 .skip))
 (.seq (.seq (.reg [oo 11 (.move (.const (.sc (.int .i64 0))) false)])
 (.block 0 (.loop (bl 3358 88) (bl 309485009820781550761934335 88)
 zed)))
 zhT)))))⟩
def ztm:Hint:=⟨[(0,0)],[],[none,none,none,none,some ((bl 3358 88),(bl 309485009820781550761934335 88)),none,some ((bl 1308 88),(bl 309485009820781550761932287 88)),none,none,some ((bl 768 88),(bl 309485009820781550761932783 88)),none,none,none,none,none],[],[],false,false⟩
def zbV:Nat→Sh:=zV []
def zbY (xu:zbv) (xk:y8) (xt:zbu) (ze:zA) (yc:zq) (L:Nat):CBC:=(xA 267 (zgb yc L) (xA 283 (zig ze L) (xA 282 (zoM xt L) (xA 281 (zif xk L) (xA 280 (zoR xu L) noC)))))
def zgp:St→St:=zaE 0 (bl 3358 88) (bl 309485009820781550761934335 88)
def zeU (p1 p2:List (List V)) (p3 p10 p11:Int) (b4:List V) (zNo zNp zNq zNr:Int):St:=⟨(jn 1 ((V.sl 3 p1)::((V.sl 4 p2)::((V.sc (.int .u64 p3))::((V.ptr 4 0)::(jn 3 ((V.ptr 8 0)::(jn 1 ((V.sc (.int .i64 p10))::((V.sc (.int .i64 p11))::(jn 76 []))))))))))),(gn 4 ((.live true b4)::(gn 3 ((.live true [(V.sc (.int .i64 zNo)),(V.sc (.int .u32 zNp)),(V.sc (.int .u16 zNq)),(V.sc (.int .u32 zNr))])::(gn 79 [])))))⟩
def zk8 (p9:Int) (b8:List V):St:=⟨(jn 8 ((V.ptr 8 0)::((V.sc (.int .i64 p9))::(jn 78 [])))),(gn 8 ((.live true b8)::(gn 79 [])))⟩
def zmM (p2:List (List V)) (p3 p10:Int) (b4:List V) (zNo zNp zNq zNr:Int):St:=⟨(jn 2 ((V.sl 4 p2)::((V.sc (.int .u64 p3))::((V.ptr 4 0)::(jn 3 ((V.ptr 8 0)::(jn 1 ((V.sc (.int .i64 p10))::(jn 77 []))))))))),(gn 4 ((.live true b4)::(gn 3 ((.live true [(V.sc (.int .i64 zNo)),(V.sc (.int .u32 zNp)),(V.sc (.int .u16 zNq)),(V.sc (.int .u32 zNr))])::(gn 79 [])))))⟩
abbrev zon (β:Type):Type:=List (List V)→List (List V)→Int→Int→Int→List V→Int→Int→Int→Int→Option β
abbrev zo2 (β:Type):Type:=List (List V)→Int→Int→List V→Int→Int→Int→Int→Option β
def zrA {β:Type} (xu:zbv) (xk:y8) (xt:zbu) (ze:zA) (yc:zq) (L:Nat) (p0:List V) (p1 p2:List (List V)) (p3:Int) (k_fin:List V→Int→Option β) (k_hbbbbaba:zon β):Option β :=
 xu β L p2 (fun v0 =>
 ifb (!v0) (
 lt [(V.sc (.int .i64 (0:Int))),(V.sc (.int .u32 (0:Int))),(V.sc (.int .u16 (0:Int))),(V.sc (.int .u32 (0:Int)))] fun r1 =>
 chk (0=0∧(List.length r1)=4∧4≠0) (
 k_fin r1 (6:Int))) (
 chk (0+34≤(List.length p0)) (
 xk β L (List.map V.dem (List.take 34 p0)) (fun v2 =>
 ifb (!v2) (
 lt [(V.sc (.int .i64 (0:Int))),(V.sc (.int .u32 (0:Int))),(V.sc (.int .u16 (0:Int))),(V.sc (.int .u32 (0:Int)))] fun r3 =>
 chk (0=0∧(List.length r3)=4∧4≠0) (
 k_fin r3 (6:Int))) (
 xt β L p2 (3:Int) (fun v4 =>
 lt (IntKind.wrap .i64 ((((List.length p2:Nat):Int):Int) - v4)) fun x5 =>
 ifb (decide (x5 < (7:Int))) (
 k_hbbbbaba p1 p2 p3 (2:Int) (0:Int) p0 (0:Int) (0:Int) (0:Int) (0:Int)) (
 k_hbbbbaba p1 p2 p3 (3:Int) (0:Int) p0 (0:Int) (0:Int) (0:Int) (0:Int))))))))
theorem zBc {β:Type} (xu:zbv) (xk:y8) (xt:zbu) (ze:zA) (yc:zq) (L:Nat) (p0:List V) (p1 p2:List (List V)) (p3:Int) (k:KK β):xr zbV (zbY xu xk xt ze yc L) L zdY [(V.agg p0),(V.sl 3 p1),(V.sl 4 p2),(V.sc (.int .u64 p3))] [] k=zrA xu xk xt ze yc L p0 p1 p2 p3 (fun zOw zOx=>k (V.tup [(V.agg zOw),(V.sc (.int .i64 zOx))]) []) (fun p1 p2 p3 p10 p11 b4 zNo zNp zNq zNr=>xy (yj zbV (zbY xu xk xt ze yc L) 0 L zed) zgp L (zeU p1 p2 p3 p10 p11 b4 zNo zNp zNq zNr) (zx 0 (yI (yj zbV (zbY xu xk xt ze yc L) 0 L zhT) (zN 0 (CF.res zdY) k)))):=by kernel_rfl
def zjL {β:Type} (xu:zbv) (xk:y8) (xt:zbu) (ze:zA) (yc:zq) (L:Nat) (p1 p2:List (List V)) (p3 p10 p11:Int) (b4:List V) (zNo zNp zNq zNr:Int) (k_ret:Int→List V→Option β) (k_hbbbbaba:zon β) (k_x0:zo2 β):Option β :=
 ifb (decide (p11 < ((List.length p1:Nat):Int))) (
 xt β L p2 (1:Int) (fun v6 =>
 ifb (decide (v6 < (2:Int))) (
 ifb (decide (((List.length p2:Nat):Int) < (8:Int))) (
 idx p1 p11 fun c7 =>
 ze β L p2 (List.take 3 c7) (fun v8 =>
 ifb (!v8) (
 idx p1 p11 fun c9 =>
 chk ((List.length (List.take 3 c9))=3∧1+3≤4) (
 chk ((List.length (yk [(V.sc (.int .i64 (1:Int))),(V.sc (.int .u32 (0:Int))),(V.sc (.int .u16 (0:Int))),(V.sc (.int .u32 (0:Int)))] 1 (List.take 3 c9)))=4∧0+4≤4) (
 lt (yk [(V.sc (.int .i64 zNo)),(V.sc (.int .u32 zNp)),(V.sc (.int .u16 zNq)),(V.sc (.int .u32 zNr))] 0 (yk [(V.sc (.int .i64 (1:Int))),(V.sc (.int .u32 (0:Int))),(V.sc (.int .u16 (0:Int))),(V.sc (.int .u32 (0:Int)))] 1 (List.take 3 c9))) fun r10 =>
 k_ret (0:Int) r10))) (
 lt (IntKind.wrap .i64 ((p11:Int)+(1:Int))) fun x11 =>
 k_hbbbbaba p1 p2 p3 p10 x11 b4 zNo zNp zNq zNr))) (
 k_x0 p2 p3 p10 b4 zNo zNp zNq zNr)) (
 k_x0 p2 p3 p10 b4 zNo zNp zNq zNr))) (
 k_x0 p2 p3 p10 b4 zNo zNp zNq zNr)
theorem zu7 {β:Type} (xu:zbv) (xk:y8) (xt:zbu) (ze:zA) (yc:zq) (L:Nat) (p1 p2:List (List V)) (p3 p10 p11:Int) (b4:List V) (zNo zNp zNq zNr:Int) (X:St→Option β) (K:KT β):yj zbV (zbY xu xk xt ze yc L) 0 L zed (zeU p1 p2 p3 p10 p11 b4 zNo zNp zNq zNr) (zaz zgp X K)=zjL xu xk xt ze yc L p1 p2 p3 p10 p11 b4 zNo zNp zNq zNr (fun p9 b8=>K .ret (zk8 p9 b8)) (fun p1 p2 p3 p10 p11 b4 zNo zNp zNq zNr=>X (zeU p1 p2 p3 p10 p11 b4 zNo zNp zNq zNr)) (fun p2 p3 p10 b4 zNo zNp zNq zNr=>K (.exit 0) (zmM p2 p3 p10 b4 zNo zNp zNq zNr)):=by kernel_rfl
def ze0 {β:Type} (xu:zbv) (xk:y8) (xt:zbu) (ze:zA) (yc:zq) (L:Nat) (p9:Int) (b8:List V) (k_fin:List V→Int→Option β):Option β :=
 chk (0=0∧(List.length b8)=4∧4≠0) (
 k_fin b8 p9)
theorem zsz {β:Type} (xu:zbv) (xk:y8) (xt:zbu) (ze:zA) (yc:zq) (L:Nat) (p9:Int) (b8:List V) (k:KK β):(zx 0 (yI (yj zbV (zbY xu xk xt ze yc L) 0 L zhT) (zN 0 (CF.res zdY) k))) .ret (zk8 p9 b8)=ze0 xu xk xt ze yc L p9 b8 (fun zOw zOx=>k (V.tup [(V.agg zOw),(V.sc (.int .i64 zOx))]) []):=by kernel_rfl
def zcM {β:Type} (xu:zbv) (xk:y8) (xt:zbu) (ze:zA) (yc:zq) (L:Nat) (p2:List (List V)) (p3 p10:Int) (b4:List V) (zNo zNp zNq zNr:Int) (k_fin:List V→Int→Option β):Option β :=
 ifb (decide (((List.length p2:Nat):Int) ≥ (8:Int))) (
 lt [(V.sc (.int .i64 (0:Int))),(V.sc (.int .u32 (0:Int))),(V.sc (.int .u16 (0:Int))),(V.sc (.int .u32 (0:Int)))] fun r12 =>
 chk (0=0∧(List.length r12)=4∧4≠0) (
 k_fin r12 (380:Int))) (
 ifb ((p10:Int) == (3:Int)) (
 xt β L p2 (3:Int) (fun v13 =>
 ifb (decide (v13 > (0:Int))) (
 lt [(V.sc (.int .i64 (0:Int))),(V.sc (.int .u32 (0:Int))),(V.sc (.int .u16 (0:Int))),(V.sc (.int .u32 (0:Int)))] fun r14 =>
 chk (0=0∧(List.length r14)=4∧4≠0) (
 k_fin r14 (380:Int))) (
 chk (0+34≤(List.length b4)) (
 yc β L (List.map V.dem (List.take 34 b4)) p2 p10 (fun v15 =>
 ifb ((((List.length v15:Nat):Int):Int) == (0:Int)) (
 lt [(V.sc (.int .i64 (0:Int))),(V.sc (.int .u32 (0:Int))),(V.sc (.int .u16 (0:Int))),(V.sc (.int .u32 (0:Int)))] fun r16 =>
 chk (0=0∧(List.length r16)=4∧4≠0) (
 k_fin r16 (390:Int))) (
 lt (IntKind.wrap .u64 ((List.length v15:Nat):Int)) fun x17 =>
 chk (x17≠0) (
 lt (Int.tmod p3 x17) fun x18 =>
 lt (IntKind.wrap .i64 x18) fun x19 =>
 idx v15 x19 fun c20 =>
 chk ((List.length (List.take 3 c20))=3∧1+3≤4) (
 chk ((List.length (yk [(V.sc (.int .i64 p10)),(V.sc (.int .u32 (0:Int))),(V.sc (.int .u16 (0:Int))),(V.sc (.int .u32 (0:Int)))] 1 (List.take 3 c20)))=4∧0+4≤4) (
 lt (yk [(V.sc (.int .i64 zNo)),(V.sc (.int .u32 zNp)),(V.sc (.int .u16 zNq)),(V.sc (.int .u32 zNr))] 0 (yk [(V.sc (.int .i64 p10)),(V.sc (.int .u32 (0:Int))),(V.sc (.int .u16 (0:Int))),(V.sc (.int .u32 (0:Int)))] 1 (List.take 3 c20))) fun r21 =>
 chk (0=0∧(List.length r21)=4∧4≠0) (
 k_fin r21 (0:Int))))))))))) (
 chk (0+34≤(List.length b4)) (
 yc β L (List.map V.dem (List.take 34 b4)) p2 p10 (fun v22 =>
 ifb ((((List.length v22:Nat):Int):Int) == (0:Int)) (
 lt [(V.sc (.int .i64 (0:Int))),(V.sc (.int .u32 (0:Int))),(V.sc (.int .u16 (0:Int))),(V.sc (.int .u32 (0:Int)))] fun r23 =>
 chk (0=0∧(List.length r23)=4∧4≠0) (
 k_fin r23 (390:Int))) (
 lt (IntKind.wrap .u64 ((List.length v22:Nat):Int)) fun x24 =>
 chk (x24≠0) (
 lt (Int.tmod p3 x24) fun x25 =>
 lt (IntKind.wrap .i64 x25) fun x26 =>
 idx v22 x26 fun c27 =>
 chk ((List.length (List.take 3 c27))=3∧1+3≤4) (
 chk ((List.length (yk [(V.sc (.int .i64 p10)),(V.sc (.int .u32 (0:Int))),(V.sc (.int .u16 (0:Int))),(V.sc (.int .u32 (0:Int)))] 1 (List.take 3 c27)))=4∧0+4≤4) (
 lt (yk [(V.sc (.int .i64 zNo)),(V.sc (.int .u32 zNp)),(V.sc (.int .u16 zNq)),(V.sc (.int .u32 zNr))] 0 (yk [(V.sc (.int .i64 p10)),(V.sc (.int .u32 (0:Int))),(V.sc (.int .u16 (0:Int))),(V.sc (.int .u32 (0:Int)))] 1 (List.take 3 c27))) fun r28 =>
 chk (0=0∧(List.length r28)=4∧4≠0) (
 k_fin r28 (0:Int))))))))))
theorem zsT {β:Type} (xu:zbv) (xk:y8) (xt:zbu) (ze:zA) (yc:zq) (L:Nat) (p2:List (List V)) (p3 p10:Int) (b4:List V) (zNo zNp zNq zNr:Int) (k:KK β):(zx 0 (yI (yj zbV (zbY xu xk xt ze yc L) 0 L zhT) (zN 0 (CF.res zdY) k))) (.exit 0) (zmM p2 p3 p10 b4 zNo zNp zNq zNr)=zcM xu xk xt ze yc L p2 p3 p10 b4 zNo zNp zNq zNr (fun zOw zOx=>k (V.tup [(V.agg zOw),(V.sc (.int .i64 zOx))]) []):=by kernel_rfl
def zdm {β:Type} (xu:zbv) (xk:y8) (xt:zbu) (ze:zA) (yc:zq) (L:Nat) (k_ret:Int→List V→Option β) (k_x0:zo2 β):Nat→List (List V)→List (List V)→Int→Int→Int→List V→Int→Int→Int→Int→Option β
 | 0,_,_,_,_,_,_,_,_,_,_=>none
 | n+1,p1,p2,p3,p10,p11,b4,zNo,zNp,zNq,zNr=>zjL xu xk xt ze yc L p1 p2 p3 p10 p11 b4 zNo zNp zNq zNr k_ret (fun p1 p2 p3 p10 p11 b4 zNo zNp zNq zNr=>zdm xu xk xt ze yc L k_ret k_x0 n p1 p2 p3 p10 p11 b4 zNo zNp zNq zNr) k_x0
theorem zmK {β:Type} (xu:zbv) (xk:y8) (xt:zbu) (ze:zA) (yc:zq) (L:Nat) (K:KT β):∀ (n:Nat) (p1 p2:List (List V)) (p3 p10 p11:Int) (b4:List V) (zNo zNp zNq zNr:Int),xy (yj zbV (zbY xu xk xt ze yc L) 0 L zed) zgp n (zeU p1 p2 p3 p10 p11 b4 zNo zNp zNq zNr) K=zdm xu xk xt ze yc L (fun p9 b8=>K .ret (zk8 p9 b8)) (fun p2 p3 p10 b4 zNo zNp zNq zNr=>K (.exit 0) (zmM p2 p3 p10 b4 zNo zNp zNq zNr)) n p1 p2 p3 p10 p11 b4 zNo zNp zNq zNr:=by
 intro n
 induction n with
 | zero=>intros; rfl
 | succ n ih =>
  intro p1 p2 p3 p10 p11 b4 zNo zNp zNq zNr
  refine (zu7 xu xk xt ze yc L p1 p2 p3 p10 p11 b4 zNo zNp zNq zNr (fun σ=>xy (yj zbV (zbY xu xk xt ze yc L) 0 L zed) zgp n σ K) K).trans ?_
  simp only [ih]
  rfl
def znt {β:Type} (xu:zbv) (xk:y8) (xt:zbu) (ze:zA) (yc:zq) (L:Nat) (p0:List V) (p1 p2:List (List V)) (p3:Int) (k_fin:List V→Int→Option β):Option β :=
 zrA xu xk xt ze yc L p0 p1 p2 p3 k_fin (fun p1 p2 p3 p10 p11 b4 zNo zNp zNq zNr=>zdm xu xk xt ze yc L (fun p9 b8=>ze0 xu xk xt ze yc L p9 b8 k_fin) (fun p2 p3 p10 b4 zNo zNp zNq zNr=>zcM xu xk xt ze yc L p2 p3 p10 b4 zNo zNp zNq zNr k_fin) L p1 p2 p3 p10 p11 b4 zNo zNp zNq zNr)
theorem zA6 {β:Type} (xu:zbv) (xk:y8) (xt:zbu) (ze:zA) (yc:zq) (L:Nat) (p0:List V) (p1 p2:List (List V)) (p3:Int) (k:KK β):xr zbV (zbY xu xk xt ze yc L) L zdY [(V.agg p0),(V.sl 3 p1),(V.sl 4 p2),(V.sc (.int .u64 p3))] [] k=znt xu xk xt ze yc L p0 p1 p2 p3 (fun zOw zOx=>k (V.tup [(V.agg zOw),(V.sc (.int .i64 zOx))]) []):=by
 refine (zBc xu xk xt ze yc L p0 p1 p2 p3 k).trans ?_
 unfold znt
 first
  | (simp only [zmK,zsz,zsT]; done)
  | (simp only [zmK]; rfl)
abbrev yH:=∀ (β:Type),Nat→List V→List (List V)→List (List V)→Int→(List V→Int→Option β)→Option β
def xf (β:Type) (L:Nat) (p0:List V) (p1 p2:List (List V)) (p3:Int) (k_fin:List V→Int→Option β):Option β:=znt xu xk xt ze yc L p0 p1 p2 p3 k_fin
def znf (xf:yH) (L:Nat) (β:Type) (args:List V) (bor:Bor) (k:KK β):Option β:=match args,bor with
 | [a0,a1,a2,a3],[]=>aG a0 fun p0=>aL 3 a1 fun p1=>aL 4 a2 fun p2=>aI .u64 a3 fun p3=>xf β L p0 p1 p2 p3 (fun zOw zOx=>k (V.tup [(V.agg zOw),(V.sc (.int .i64 zOx))]) [])
 | _,_=>none
theorem zAX (L:Nat) (β:Type) (args:List V) (bor:Bor) (k:KK β) (r:β) (h:znf xf L β args bor k=some r):xr zbV (zbY xu xk xt ze yc L) L zdY args bor k=some r:=by
 unfold znf at h
 split at h
 ·have q:=y5 h; clear h; obtain ⟨p0,rfl,h⟩:=q
  have q:=xP h; clear h; obtain ⟨p1,rfl,h⟩:=q
  have q:=xP h; clear h; obtain ⟨p2,rfl,h⟩:=q
  have q:=zad h; clear h; obtain ⟨p3,rfl,h⟩:=q
  exact (zA6 xu xk xt ze yc L p0 p1 p2 p3 k).trans h
 ·cases h
def zdL:CC:=(.seq (.seq (.reg [oo 11 (.move (tq 5) false),
   oo 12 (.move (tq 0) false),
   oo 13 (.lenS (tq 12)),
   oo 14 (.bin .lss (tq 11) (tq 13))])
 (.cond (tq 14)
 .skip
 (.seq (.mask (bl 0 26) (bl 67100623 26))
 (.exit 0))))
 (.seq (.block 1 (.seq (.dreg [] [(oo 17 (.move (tq 0) false),q0),
   (oo 18 (.move (tq 5) false),q0),
   (oo 19 (.indexAddrS 3 (tq 17) (tq 18)),q0),
   (oo 20 (.load true 3 (tq 19) false),q1),
   (oo 21 (.move (tq 1) false),q0),
   (oo 22 (.move (tq 5) false),q0),
   (oo 23 (.indexAddrS 3 (tq 21) (tq 22)),q0),
   (oo 24 (.load true 3 (tq 23) false),q1),
   (oo 25 (.eqAgg true 3 (tq 20) (tq 24)),q0)])
 (.cond (tq 25)
 (.seq (.reg [oo 4 (.move (.const (.sc (.bool false))) false)])
 (.seq (.mask (bl 16 26) (bl 67100639 26))
 .ret))
 .skip)))
 (.reg [oo 15 (.move (tq 5) false),
   oo 16 (.bin .add (tq 15) (.const (.sc (.int .i64 1)))),
   oo 5 (.move (tq 16) false)])))
def zhc:CC:=(.seq (.reg [oo 4 (.move (.const (.sc (.bool true))) false)])
 .ret)
def zcJ:CF:=⟨26,[.tmp 4],
 (.seq (.reg [oo 4 (.move (.const (.sc (.bool false))) false)])
 (.seq (.seq (.reg [oo 6 (.move (tq 0) false),
   oo 7 (.lenS (tq 6)),
   oo 8 (.move (tq 1) false),
   oo 9 (.lenS (tq 8)),
   oo 10 (.bin .neq (tq 7) (tq 9))])
 (.cond (tq 10)
 (.seq (.reg [oo 4 (.move (.const (.sc (.bool false))) false)])
 .ret)
 .skip))
 (.seq (.seq (.reg [oo 5 (.move (.const (.sc (.int .i64 0))) false)])
 (.block 0 (.loop (bl 35 26) (bl 67100655 26)
 zdL)))
 zhc)))⟩
def zqj:Hint:=⟨[],[],[none,none,none,some ((bl 35 26),(bl 67100655 26)),none,some ((bl 0 26),(bl 67100623 26)),none,none,some ((bl 16 26),(bl 67100639 26)),none],[],[],false,false⟩
def za3:Nat→Sh:=zV []
def za1 (L:Nat):CBC:=noC
def zfQ:St→St:=zaE 0 (bl 35 26) (bl 67100655 26)
def zeJ (p0 p1:List (List V)) (p5:Int):St:=⟨((V.sl 3 p0)::((V.sl 3 p1)::(jn 3 ((V.sc (.int .i64 p5))::(jn 20 []))))),(gn 26 [])⟩
def ziZ (p4:Bool):St:=⟨(jn 4 ((V.sc (.bool p4))::(jn 21 []))),(gn 26 [])⟩
def zjM:St:=⟨(jn 26 []),(gn 26 [])⟩
def zog {β:Type} (L:Nat) (p0 p1:List (List V)) (k_fin:Bool→Option β) (k_hbbaba:List (List V)→List (List V)→Int→Option β):Option β :=
 ifb ((((List.length p0:Nat):Int):Int) != ((List.length p1:Nat):Int)) (
 k_fin false) (
 k_hbbaba p0 p1 (0:Int))
theorem zyD {β:Type} (L:Nat) (p0 p1:List (List V)) (k:KK β):xr za3 (za1 L) L zcJ [(V.sl 3 p0),(V.sl 3 p1)] [] k=zog L p0 p1 (fun p0=>k (V.sc (.bool p0)) []) (fun p0 p1 p5=>xy (yj za3 (za1 L) 0 L zdL) zfQ L (zeJ p0 p1 p5) (zx 0 (yI (yj za3 (za1 L) 0 L zhc) (zN 0 (CF.res zcJ) k)))):=by kernel_rfl
def zi5 {β:Type} (L:Nat) (p0 p1:List (List V)) (p5:Int) (k_ret:Bool→Option β) (k_hbbaba:List (List V)→List (List V)→Int→Option β) (k_x0:Option β):Option β :=
 ifb (decide (p5 < ((List.length p0:Nat):Int))) (
 idx p0 p5 fun c0 =>
 idx p1 p5 fun c1 =>
 eqC 3 (List.take 3 c0) (List.take 3 c1) fun v2 =>
 ifb (!v2) (
 k_ret false) (
 lt (IntKind.wrap .i64 ((p5:Int)+(1:Int))) fun x3 =>
 k_hbbaba p0 p1 x3)) (
 k_x0)
theorem ztz {β:Type} (L:Nat) (p0 p1:List (List V)) (p5:Int) (X:St→Option β) (K:KT β):yj za3 (za1 L) 0 L zdL (zeJ p0 p1 p5) (zaz zfQ X K)=zi5 L p0 p1 p5 (fun p4=>K .ret (ziZ p4)) (fun p0 p1 p5=>X (zeJ p0 p1 p5)) (K (.exit 0) (zjM)):=by kernel_rfl
def zlT {β:Type} (L:Nat) (p4:Bool) (k_fin:Bool→Option β):Option β :=
 k_fin p4
theorem zrS {β:Type} (L:Nat) (p4:Bool) (k:KK β):(zx 0 (yI (yj za3 (za1 L) 0 L zhc) (zN 0 (CF.res zcJ) k))) .ret (ziZ p4)=zlT L p4 (fun p0=>k (V.sc (.bool p0)) []):=by kernel_rfl
def zm4 {β:Type} (L:Nat) (k_fin:Bool→Option β):Option β :=
 k_fin true
theorem zsM {β:Type} (L:Nat) (k:KK β):(zx 0 (yI (yj za3 (za1 L) 0 L zhc) (zN 0 (CF.res zcJ) k))) (.exit 0) (zjM)=zm4 L (fun p0=>k (V.sc (.bool p0)) []):=by kernel_rfl
def zef {β:Type} (L:Nat) (k_ret:Bool→Option β) (k_x0:Option β):Nat→List (List V)→List (List V)→Int→Option β
 | 0,_,_,_=>none
 | n+1,p0,p1,p5=>zi5 L p0 p1 p5 k_ret (fun p0 p1 p5=>zef L k_ret k_x0 n p0 p1 p5) k_x0
theorem zlY {β:Type} (L:Nat) (K:KT β):∀ (n:Nat) (p0 p1:List (List V)) (p5:Int),xy (yj za3 (za1 L) 0 L zdL) zfQ n (zeJ p0 p1 p5) K=zef L (fun p4=>K .ret (ziZ p4)) (K (.exit 0) (zjM)) n p0 p1 p5:=by
 intro n
 induction n with
 | zero=>intros; rfl
 | succ n ih =>
  intro p0 p1 p5
  refine (ztz L p0 p1 p5 (fun σ=>xy (yj za3 (za1 L) 0 L zdL) zfQ n σ K) K).trans ?_
  simp only [ih]
  rfl
def zju {β:Type} (L:Nat) (p0 p1:List (List V)) (k_fin:Bool→Option β):Option β :=
 zog L p0 p1 k_fin (fun p0 p1 p5=>zef L (fun p4=>zlT L p4 k_fin) (zm4 L k_fin) L p0 p1 p5)
theorem zyz {β:Type} (L:Nat) (p0 p1:List (List V)) (k:KK β):xr za3 (za1 L) L zcJ [(V.sl 3 p0),(V.sl 3 p1)] [] k=zju L p0 p1 (fun p0=>k (V.sc (.bool p0)) []):=by
 refine (zyD L p0 p1 k).trans ?_
 unfold zju
 first
  | (simp only [zlY,zrS,zsM]; done)
  | (simp only [zlY]; rfl)
abbrev zC:=∀ (β:Type),Nat→List (List V)→List (List V)→(Bool→Option β)→Option β
def ye (β:Type) (L:Nat) (p0 p1:List (List V)) (k_fin:Bool→Option β):Option β:=zju L p0 p1 k_fin
def zjA (ye:zC) (L:Nat) (β:Type) (args:List V) (bor:Bor) (k:KK β):Option β:=match args,bor with
 | [a0,a1],[]=>aL 3 a0 fun p0=>aL 3 a1 fun p1=>ye β L p0 p1 (fun p0=>k (V.sc (.bool p0)) [])
 | _,_=>none
theorem zxG (L:Nat) (β:Type) (args:List V) (bor:Bor) (k:KK β) (r:β) (h:zjA ye L β args bor k=some r):xr za3 (za1 L) L zcJ args bor k=some r:=by
 unfold zjA at h
 split at h
 ·have q:=xP h; clear h; obtain ⟨p0,rfl,h⟩:=q
  have q:=xP h; clear h; obtain ⟨p1,rfl,h⟩:=q
  exact (zyz L p0 p1 k).trans h
 ·cases h
def zaj:CC:=(.seq (.reg [oo 81 (.bin .lss (tq 80) (tq 79))])
 (.seq (.cond (tq 81)
 .skip
 (.seq (.mask (bl 246290604623110 96) (bl 71645779773641383409786208191 96))
 (.exit 4)))
 (.seq (.block 5 (.seq (.reg [oo 82 (.indexAddrS 1 (tq 78) (tq 80)),
   oo 83 (.load false 1 (tq 82) false),
   oo 19 (.move (tq 83) false)])
 (.seq (.dreg [] [(oo 84 (.load true 34 (tq 8) false),ql 8 [] []),
   (oo 85 (.move (tq 13) false),q0),
   (oo 86 (.move (tq 19) false),q0),
   (oo 87 (.call 266 [((tq 84),1),((tq 85),0),((tq 86),0)] []),qc [8] []),
   (oo 88 (.load true 34 (tq 8) false),ql 8 [] []),
   (oo 89 (.move (tq 13) false),q0),
   (oo 90 (.move (tq 19) false),q0),
   (oo 91 (.call 267 [((tq 88),1),((tq 89),0),((tq 90),0)] []),q0),
   (oo 92 (.call 265 [((tq 87),0),((tq 91),0)] []),q0),
   (oo 93 (.un .not (tq 92)),q0)])
 (.cond (tq 93)
 (.seq (.reg [oo 6 (.move (.const (.sc (.bool false))) false)])
 (.seq (.mask (bl 64 96) (bl 71644721833917608935025811199 96))
 .ret))
 .skip))))
 (.reg [oo 94 (.bin .add (tq 80) (.const (.sc (.int .i64 1)))),
   oo 80 (.move (tq 94) false)]))))
def zbX:CC:=(.reg [oo 95 (.bin .add (tq 47) (.const (.sc (.int .i64 1)))),
   oo 47 (.move (tq 95) false)])
def zaO:CC:=(.seq (.reg [oo 48 (.bin .lss (tq 47) (tq 46))])
 (.seq (.cond (tq 48)
 .skip
 (.seq (.mask (bl 0 96) (bl 71644721833917608935025811135 96))
 (.exit 2)))
 (.seq (.block 3 (.seq (.reg [oo 49 (.indexAddrS 1 (tq 45) (tq 47)),
   oo 50 (.load false 1 (tq 49) false),
   oo 13 (.move (tq 50) false)])
 (.seq (.reg [oo 52 (.load true 34 (tq 8) false),
   oo 53 (.move (tq 10) false),
   oo 54 (.move (tq 13) false),
   oo 55 (.move (tq 2) false),
   oo 56 (.call 263 [((tq 52),1),((tq 53),0),((tq 54),0),((tq 55),0)] []),
   oo 51 (.move (tq 56) true),
   oo 57 (.pull (tq 51) 0),
   oo 58 (.pull (tq 51) 1),
   oo 14 (.alloc true [(.sc (.int .i64 0)),(.sc (.int .u32 0)),(.sc (.int .u16 0)),(.sc (.int .u32 0))]),
   oz (.store 4 (tq 14) (tq 57)),
   oo 15 (.move (tq 58) false)])
 (.seq (.reg [oo 60 (.load true 34 (tq 8) false),
   oo 61 (.move (tq 10) false),
   oo 62 (.move (tq 13) false),
   oo 63 (.move (tq 2) false),
   oo 64 (.call 264 [((tq 60),1),((tq 61),0),((tq 62),0),((tq 63),0)] []),
   oo 59 (.move (tq 64) true),
   oo 65 (.pull (tq 59) 0),
   oo 66 (.pull (tq 59) 1),
   oo 16 (.alloc true [(.sc (.int .i64 0)),(.sc (.int .u32 0)),(.sc (.int .u16 0)),(.sc (.int .u32 0))]),
   oz (.store 4 (tq 16) (tq 65)),
   oo 17 (.move (tq 66) false)])
 (.seq (.seq (.reg [oo 67 (.move (tq 15) false),
   oo 68 (.move (tq 17) false),
   oo 69 (.bin .neq (tq 67) (tq 68)),
   oo 70 (.move (tq 69) false),
   ⟨(some 71),false,(some (70,false)),.load true 4 (tq 14) false⟩,
   ⟨(some 72),false,(some (70,false)),.load true 4 (tq 16) false⟩,
   ⟨(some 73),false,(some (70,false)),.eqAgg true 4 (tq 71) (tq 72)⟩,
   oo 74 (.pick (tq 70) (.const (.sc (.bool true))) (tq 73))])
 (.cond (tq 74)
 (.seq (.reg [oo 6 (.move (.const (.sc (.bool false))) false)])
 (.seq (.mask (bl 64 96) (bl 71644721833917608935025811199 96))
 .ret))
 .skip))
 (.seq (.reg [oo 75 (.move (tq 1) false),
   oo 76 (.move (tq 1) false),
   oo 77 (.call 217 [((tq 76),0),((.const (.sc (.int .i64 5))),0)] []),
   oo 78 (.buildSlice 1 2 [(.sc (.int .i64 0))] [(0,1,(tq 75)),(1,1,(tq 77))]),
   oo 79 (.lenS (tq 78)),
   oo 80 (.move (.const (.sc (.int .i64 0))) false)])
 (.block 4 (.loop (bl 2115620184571891660367110 96) (bl 71645779773641383409786208191 96)
 zaj))))))))
 zbX)))
def zbE:CC:=(.seq (.seq (.reg [oo 30 (.move (tq 11) false),
   oo 31 (.bin .gtr (tq 30) (.const (.sc (.int .i64 0))))])
 (.cond (tq 31)
 .skip
 (.seq (.mask (bl 1798 96) (bl 79228162514264337112507529215 96))
 (.exit 0))))
 (.seq (.block 1 (.reg [oo 34 (.move (tq 10) true),
   oo 35 (.move (tq 7) false),
   oo 36 (.call 262 [((tq 35),0)] []),
   oo 37 (.buildSlice 3 1 [(.sc (.int .u32 0)),(.sc (.int .u16 0)),(.sc (.int .u32 0))] [(0,3,(tq 36))]),
   oo 38 (.append 3 12 (tq 34) (tq 37)),
   oo 10 (.move (tq 38) true)]))
 (.reg [oo 32 (.move (tq 11) false),
   oo 33 (.bin .sub (tq 32) (.const (.sc (.int .i64 1)))),
   oo 11 (.move (tq 33) false)])))
def zdg:CC:=(.seq (.reg [oo 6 (.move (.const (.sc (.bool true))) false)])
 .ret)
def zdn:CC:=(.seq (.seq (.reg [oo 39 (.move (tq 9) false),
   oo 40 (.move (tq 9) false),
   oo 41 (.move (tq 9) false),
   oo 42 (.lenS (tq 41)),
   oo 43 (.mm false (.const (.sc (.int .i64 2))) (tq 42)),
   oo 44 (.sliceS 4 (tq 40) none (some (tq 43)) none),
   oo 45 (.buildSlice 1 3 [(.sl 4 [])] [(0,1,(tq 39)),(1,1,(.const (.gs 4 []))),(2,1,(tq 44))]),
   oo 46 (.lenS (tq 45)),
   oo 47 (.move (.const (.sc (.int .i64 0))) false)])
 (.block 2 (.loop (bl 246290604623110 96) (bl 71644721833917608935025811391 96)
 zaO)))
 zdg)
def y7:CF:=⟨96,[.tmp 6],
 (.seq (.reg [oo 6 (.move (.const (.sc (.bool false))) false)])
 (.seq (.seq (.reg [oo 20 (.call 259 [] []),
   oo 21 (.un .not (tq 20))])
 (.cond (tq 21)
 (.seq (.reg [oo 6 (.move (.const (.sc (.bool false))) false)])
 .ret)
 .skip))
 (.seq (.reg [oo 22 (.move (tq 0) false),
   oo 23 (.call 225 [((tq 22),0)] []),
   oo 7 (.move (tq 23) false)])
 (.seq (.reg [oo 24 (.move (tq 7) false),
   oo 25 (.call 260 [((tq 24),0)] []),
   oo 8 (.alloc true (rp 32 (.sc (.int .u8 0)) (rp 2 (.gs 5 []) []))),
   oz (.store 34 (tq 8) (tq 25))])
 (.seq (.reg [oo 26 (.move (tq 7) false),
   oo 27 (.call 261 [((tq 26),0)] []),
   oo 9 (.move (tq 27) true)])
 (.seq (.reg [oo 10 (.move (.const (.gs 3 [])) true)])
 (.seq (.seq (.reg [oo 28 (.move (tq 7) false),
   oo 29 (.call 231 [((tq 28),0),((.const (.sc (.int .i64 4))),0)] []),
   oo 11 (.move (tq 29) false)])
 (.block 0 (.loop (bl 3974 96) (bl 79228162514264337112507531263 96)
 zbE)))
 zdn)))))))⟩
def zlO:Hint:=⟨[(4,2),(5,2),(6,0),(10,0),(10,5),(14,5),(15,5)],[],[none,none,none,some ((bl 3974 96),(bl 79228162514264337112507531263 96)),none,some ((bl 1798 96),(bl 79228162514264337112507529215 96)),none,none,some ((bl 246290604623110 96),(bl 71644721833917608935025811391 96)),none,some ((bl 0 96),(bl 71644721833917608935025811135 96)),none,none,some ((bl 64 96),(bl 71644721833917608935025811199 96)),none,some ((bl 2115620184571891660367110 96),(bl 71645779773641383409786208191 96)),none,some ((bl 246290604623110 96),(bl 71645779773641383409786208191 96)),none,none,some ((bl 64 96),(bl 71644721833917608935025811199 96)),none],[],[],false,false⟩
def zy:Nat→Sh:=zV [(50,(.sl 4)),(83,(.int .i64))]
def yy (yb:zm) (xb:zn) (zc:xo) (yh:xL) (za:xi) (xc:yt) (xa:yl) (xf:yH) (yf:zH) (ya:zj) (yc:zq) (ye:zC) (L:Nat):CBC:=(xA 265 (zjA ye L) (xA 267 (zgb yc L) (xA 266 (zdG ya L) (xA 217 (zns yf L) (xA 264 (znf xf L) (xA 263 (zev xa L) (xA 262 (zk4 xc L) (xA 231 (zb0 za L) (xA 261 (zqw yh L) (xA 260 (zje zc L) (xA 225 (ziN xb L) (xA 259 (zhJ yb L) noC))))))))))))
def zc3:St→St:=zaE 0 (bl 3974 96) (bl 79228162514264337112507531263 96)
def yZ:St→St:=zaE 0 (bl 246290604623110 96) (bl 71644721833917608935025811391 96)
def za5:St→St:=zaE 0 (bl 2115620184571891660367110 96) (bl 71645779773641383409786208191 96)
def zb8 (p1 p2:Int) (p9 p10:List (List V)) (p11:Int) (b8:List V) (zNm:List (List V)) (zNn:Int):St:=⟨(jn 1 ((V.sc (.int .i64 p1))::((V.sc (.int .u64 p2))::(jn 4 ((V.ptr 23 0)::((V.ptr 8 0)::((V.gs 4 p9)::((V.gs 3 p10)::((V.sc (.int .i64 p11))::(jn 84 [])))))))))),(gn 8 ((.live true b8)::(gn 14 ((.live false [(V.sl 1 zNm),(V.sc (.int .i64 zNn))])::(gn 72 [])))))⟩
def zeq (p1 p2:Int) (p9 p10:List (List V)) (b8:List V) (zNm:List (List V)) (zNn:Int):St:=⟨(jn 1 ((V.sc (.int .i64 p1))::((V.sc (.int .u64 p2))::(jn 5 ((V.ptr 8 0)::((V.gs 4 p9)::((V.gs 3 p10)::(jn 85 [])))))))),(gn 8 ((.live true b8)::(gn 14 ((.live false [(V.sl 1 zNm),(V.sc (.int .i64 zNn))])::(gn 72 [])))))⟩
def zaB (p1 p2:Int) (p10 p45:List (List V)) (p46 p47:Int) (b8:List V) (zNm:List (List V)) (zNn:Int):St:=⟨(jn 1 ((V.sc (.int .i64 p1))::((V.sc (.int .u64 p2))::(jn 5 ((V.ptr 8 0)::(jn 1 ((V.gs 3 p10)::(jn 34 ((V.gs 1 p45)::((V.sc (.int .i64 p46))::((V.sc (.int .i64 p47))::(jn 48 [])))))))))))),(gn 8 ((.live true b8)::(gn 14 ((.live false [(V.sl 1 zNm),(V.sc (.int .i64 zNn))])::(gn 72 [])))))⟩
def zaC (p6:Bool) (zNm:List (List V)) (zNn:Int):St:=⟨(jn 6 ((V.sc (.bool p6))::(jn 89 []))),(gn 23 ((.live false [(V.sl 1 zNm),(V.sc (.int .i64 zNn))])::(gn 72 [])))⟩
def zaP (p1 p2:Int) (p10 p13 p45:List (List V)) (p46 p47:Int) (p78:List (List V)) (p79 p80:Int) (b8:List V) (zNm:List (List V)) (zNn:Int):St:=⟨(jn 1 ((V.sc (.int .i64 p1))::((V.sc (.int .u64 p2))::(jn 5 ((V.ptr 8 0)::(jn 1 ((V.gs 3 p10)::(jn 2 ((V.sl 4 p13)::(jn 31 ((V.gs 1 p45)::((V.sc (.int .i64 p46))::((V.sc (.int .i64 p47))::(jn 30 ((V.gs 1 p78)::((V.sc (.int .i64 p79))::((V.sc (.int .i64 p80))::(jn 15 [])))))))))))))))))),(gn 8 ((.live true b8)::(gn 14 ((.live false [(V.sl 1 zNm),(V.sc (.int .i64 zNn))])::(gn 72 [])))))⟩
def zep (zNm:List (List V)) (zNn:Int):St:=⟨(jn 96 []),(gn 23 ((.live false [(V.sl 1 zNm),(V.sc (.int .i64 zNn))])::(gn 72 [])))⟩
def zgG (p1 p2:Int) (p10 p45:List (List V)) (p46 p47:Int) (b8:List V) (zNm:List (List V)) (zNn:Int):St:=⟨(jn 1 ((V.sc (.int .i64 p1))::((V.sc (.int .u64 p2))::(jn 5 ((V.ptr 8 0)::(jn 1 ((V.gs 3 p10)::(jn 34 ((V.gs 1 p45)::((V.sc (.int .i64 p46))::((V.sc (.int .i64 p47))::(jn 48 [])))))))))))),(gn 8 ((.live true b8)::(gn 14 ((.live false [(V.sl 1 zNm),(V.sc (.int .i64 zNn))])::(gn 72 [])))))⟩
abbrev zhB (β:Type):Type:=Int→Int→List (List V)→List (List V)→Int→List V→List (List V)→Int→Option β
abbrev zhA (β:Type):Type:=Int→Int→List (List V)→List (List V)→List V→List (List V)→Int→Option β
abbrev zel (β:Type):Type:=Int→Int→List (List V)→List (List V)→Int→Int→List V→List (List V)→Int→Option β
abbrev zeh (β:Type):Type:=Int→Int→List (List V)→List (List V)→List (List V)→Int→Int→List (List V)→Int→Int→List V→List (List V)→Int→Option β
abbrev zhz (β:Type):Type:=Int→Int→List (List V)→List (List V)→Int→Int→List V→List (List V)→Int→Option β
def zi7 {β:Type} (yb:zm) (xb:zn) (zc:xo) (yh:xL) (za:xi) (xc:yt) (xa:yl) (xf:yH) (yf:zH) (ya:zj) (yc:zq) (ye:zC) (L:Nat) (p0:List (List V)) (p1 p2:Int) (k_fin:Bool→Option β) (k_hbbbbbbaba:zhB β):Option β :=
 yb β L  (fun v0 =>
 ifb (!v0) (
 k_fin false) (
 xb β L p0 (fun v1 v2 =>
 zc β L v1 v2 (fun v3 v4 v5 =>
 chk ((List.length v3)=34∧0+34≤34) (
 lt (yk (List.replicate 32 (V.sc (.int .u8 (0:Int)))++[(V.gs 5 ([]:List (List V))),(V.gs 5 ([]:List (List V)))]) 0 v3) fun r6 =>
 yh β L v4 v5 (fun v7 v8 v9 =>
 za β L (4:Int) v8 v9 (fun v10 v11 v12 =>
 k_hbbbbbbaba p1 p2 v7 ([]:List (List V)) v10 r6 v11 v12)))))))
theorem zt5 {β:Type} (yb:zm) (xb:zn) (zc:xo) (yh:xL) (za:xi) (xc:yt) (xa:yl) (xf:yH) (yf:zH) (ya:zj) (yc:zq) (ye:zC) (L:Nat) (p0:List (List V)) (p1 p2:Int) (k:KK β):xr zy (yy yb xb zc yh za xc xa xf yf ya yc ye L) L y7 [(V.sl 1 p0),(V.sc (.int .i64 p1)),(V.sc (.int .u64 p2))] [] k=zi7 yb xb zc yh za xc xa xf yf ya yc ye L p0 p1 p2 (fun p0=>k (V.sc (.bool p0)) []) (fun p1 p2 p9 p10 p11 b8 zNm zNn=>xy (yj zy (yy yb xb zc yh za xc xa xf yf ya yc ye L) 0 L zbE) zc3 L (zb8 p1 p2 p9 p10 p11 b8 zNm zNn) (zx 0 (yI (yj zy (yy yb xb zc yh za xc xa xf yf ya yc ye L) 0 L zdn) (zN 0 (CF.res y7) k)))):=by kernel_rfl
def zc2 {β:Type} (yb:zm) (xb:zn) (zc:xo) (yh:xL) (za:xi) (xc:yt) (xa:yl) (xf:yH) (yf:zH) (ya:zj) (yc:zq) (ye:zC) (L:Nat) (p1 p2:Int) (p9 p10:List (List V)) (p11:Int) (b8:List V) (zNm:List (List V)) (zNn:Int) (k_hbbbbbbaba:zhB β) (k_x0:zhA β):Option β :=
 ifb (decide (p11 > (0:Int))) (
 xc β L zNm zNn (fun v13 v14 v15 =>
 chk ((List.length v13)=3∧0+3≤3) (
 chk ((List.length p10+List.length (zp 3 1 (yk [(V.sc (.int .u32 (0:Int))),(V.sc (.int .u16 (0:Int))),(V.sc (.int .u32 (0:Int)))] 0 v13))) * 12≤yu∧List.length p10+List.length (zp 3 1 (yk [(V.sc (.int .u32 (0:Int))),(V.sc (.int .u16 (0:Int))),(V.sc (.int .u32 (0:Int)))] 0 v13))≤yu) (
 lt (p10++(zp 3 1 (yk [(V.sc (.int .u32 (0:Int))),(V.sc (.int .u16 (0:Int))),(V.sc (.int .u32 (0:Int)))] 0 v13))) fun l16 =>
 lt (IntKind.wrap .i64 ((p11:Int) - (1:Int))) fun x17 =>
 k_hbbbbbbaba p1 p2 p9 l16 x17 b8 v14 v15)))) (
 k_x0 p1 p2 p9 p10 b8 zNm zNn)
theorem zn8 {β:Type} (yb:zm) (xb:zn) (zc:xo) (yh:xL) (za:xi) (xc:yt) (xa:yl) (xf:yH) (yf:zH) (ya:zj) (yc:zq) (ye:zC) (L:Nat) (p1 p2:Int) (p9 p10:List (List V)) (p11:Int) (b8:List V) (zNm:List (List V)) (zNn:Int) (X:St→Option β) (K:KT β):yj zy (yy yb xb zc yh za xc xa xf yf ya yc ye L) 0 L zbE (zb8 p1 p2 p9 p10 p11 b8 zNm zNn) (zaz zc3 X K)=zc2 yb xb zc yh za xc xa xf yf ya yc ye L p1 p2 p9 p10 p11 b8 zNm zNn (fun p1 p2 p9 p10 p11 b8 zNm zNn=>X (zb8 p1 p2 p9 p10 p11 b8 zNm zNn)) (fun p1 p2 p9 p10 b8 zNm zNn=>K (.exit 0) (zeq p1 p2 p9 p10 b8 zNm zNn)):=by kernel_rfl
def zeg {β:Type} (yb:zm) (xb:zn) (zc:xo) (yh:xL) (za:xi) (xc:yt) (xa:yl) (xf:yH) (yf:zH) (ya:zj) (yc:zq) (ye:zC) (L:Nat) (p1 p2:Int) (p9 p10:List (List V)) (b8:List V) (zNm:List (List V)) (zNn:Int) (k_hbbbbbbbaba:zel β):Option β :=
 lt (zJV (2:Int) ((List.length p9:Nat):Int)) fun x18 =>
 chk (0≤x18∧x18≤(((List.length p9):Nat):Int)) (
 k_hbbbbbbbaba p1 p2 p10 (zp 1 3 [(V.sl 4 p9),(V.sl 4 ([]:List (List V))),(V.sl 4 (List.take ((Int.toNat x18) - 0) (List.drop 0 p9)))]) ((List.length (zp 1 3 [(V.sl 4 p9),(V.sl 4 ([]:List (List V))),(V.sl 4 (List.take ((Int.toNat x18) - 0) (List.drop 0 p9)))]):Nat):Int) (0:Int) b8 zNm zNn)
theorem zmi {β:Type} (yb:zm) (xb:zn) (zc:xo) (yh:xL) (za:xi) (xc:yt) (xa:yl) (xf:yH) (yf:zH) (ya:zj) (yc:zq) (ye:zC) (L:Nat) (p1 p2:Int) (p9 p10:List (List V)) (b8:List V) (zNm:List (List V)) (zNn:Int) (k:KK β):(zx 0 (yI (yj zy (yy yb xb zc yh za xc xa xf yf ya yc ye L) 0 L zdn) (zN 0 (CF.res y7) k))) (.exit 0) (zeq p1 p2 p9 p10 b8 zNm zNn)=zeg yb xb zc yh za xc xa xf yf ya yc ye L p1 p2 p9 p10 b8 zNm zNn (fun p1 p2 p10 p45 p46 p47 b8 zNm zNn=>xy (yj zy (yy yb xb zc yh za xc xa xf yf ya yc ye L) 0 L zaO) yZ L (zaB p1 p2 p10 p45 p46 p47 b8 zNm zNn) (zx 2 (yI (yj zy (yy yb xb zc yh za xc xa xf yf ya yc ye L) 0 L zdg) (zN 0 (CF.res y7) k)))):=by kernel_rfl
def zew {β:Type} (yb:zm) (xb:zn) (zc:xo) (yh:xL) (za:xi) (xc:yt) (xa:yl) (xf:yH) (yf:zH) (ya:zj) (yc:zq) (ye:zC) (L:Nat) (p1 p2:Int) (p10 p45:List (List V)) (p46 p47:Int) (b8:List V) (zNm:List (List V)) (zNn:Int) (k_ret:Bool→List (List V)→Int→Option β) (k_hbbbbbbbabaabbaabbbbba:zeh β) (k_x2:List (List V)→Int→Option β):Option β :=
 ifb (decide (p47 < p46)) (
 idx p45 p47 fun c19 =>
 cL 4 c19 0 fun v20 =>
 chk (0+34≤(List.length b8)) (
 xa β L (List.map V.dem (List.take 34 b8)) p10 v20 p2 (fun v21 v22 =>
 chk ((List.length v21)=4∧0+4≤4) (
 lt (yk [(V.sc (.int .i64 (0:Int))),(V.sc (.int .u32 (0:Int))),(V.sc (.int .u16 (0:Int))),(V.sc (.int .u32 (0:Int)))] 0 v21) fun r23 =>
 chk (0+34≤(List.length b8)) (
 xf β L (List.map V.dem (List.take 34 b8)) p10 v20 p2 (fun v24 v25 =>
 chk ((List.length v24)=4∧0+4≤4) (
 lt (yk [(V.sc (.int .i64 (0:Int))),(V.sc (.int .u32 (0:Int))),(V.sc (.int .u16 (0:Int))),(V.sc (.int .u32 (0:Int)))] 0 v24) fun r26 =>
 ifb ((v22:Int) != v25) (
 k_ret false zNm zNn) (
 chk (0+4≤(List.length r23)) (
 chk (0+4≤(List.length r26)) (
 eqC 4 (List.take 4 r23) (List.take 4 r26) fun v27 =>
 ifb (!v27) (
 k_ret false zNm zNn) (
 yf β L p1 (5:Int) (fun v28 =>
 k_hbbbbbbbabaabbaabbbbba p1 p2 p10 v20 p45 p46 p47 (zp 1 2 [(V.sc (.int .i64 p1)),(V.sc (.int .i64 v28))]) ((List.length (zp 1 2 [(V.sc (.int .i64 p1)),(V.sc (.int .i64 v28))]):Nat):Int) (0:Int) b8 zNm zNn)))))))))))) (
 k_x2 zNm zNn)
theorem zne {β:Type} (yb:zm) (xb:zn) (zc:xo) (yh:xL) (za:xi) (xc:yt) (xa:yl) (xf:yH) (yf:zH) (ya:zj) (yc:zq) (ye:zC) (L:Nat) (p1 p2:Int) (p10 p45:List (List V)) (p46 p47:Int) (b8:List V) (zNm:List (List V)) (zNn:Int) (X:St→Option β) (K:KT β):yj zy (yy yb xb zc yh za xc xa xf yf ya yc ye L) 0 L zaO (zaB p1 p2 p10 p45 p46 p47 b8 zNm zNn) (zaz yZ X K)=zew yb xb zc yh za xc xa xf yf ya yc ye L p1 p2 p10 p45 p46 p47 b8 zNm zNn (fun p6 zNm zNn=>K .ret (zaC p6 zNm zNn)) (fun p1 p2 p10 p13 p45 p46 p47 p78 p79 p80 b8 zNm zNn=>xy (yj zy (yy yb xb zc yh za xc xa xf yf ya yc ye L) 0 L zaj) za5 L (zaP p1 p2 p10 p13 p45 p46 p47 p78 p79 p80 b8 zNm zNn) (zx 4 (zx 3 (yI (yj zy (yy yb xb zc yh za xc xa xf yf ya yc ye L) 0 L zbX) (zaz yZ X K))))) (fun zNm zNn=>K (.exit 2) (zep zNm zNn)):=by kernel_rfl
def zgd {β:Type} (yb:zm) (xb:zn) (zc:xo) (yh:xL) (za:xi) (xc:yt) (xa:yl) (xf:yH) (yf:zH) (ya:zj) (yc:zq) (ye:zC) (L:Nat) (p6:Bool) (zNm:List (List V)) (zNn:Int) (k_fin:Bool→Option β):Option β :=
 k_fin p6
theorem zlf {β:Type} (yb:zm) (xb:zn) (zc:xo) (yh:xL) (za:xi) (xc:yt) (xa:yl) (xf:yH) (yf:zH) (ya:zj) (yc:zq) (ye:zC) (L:Nat) (p6:Bool) (zNm:List (List V)) (zNn:Int) (k:KK β):(zx 2 (yI (yj zy (yy yb xb zc yh za xc xa xf yf ya yc ye L) 0 L zdg) (zN 0 (CF.res y7) k))) .ret (zaC p6 zNm zNn)=zgd yb xb zc yh za xc xa xf yf ya yc ye L p6 zNm zNn (fun p0=>k (V.sc (.bool p0)) []):=by kernel_rfl
def zgP {β:Type} (yb:zm) (xb:zn) (zc:xo) (yh:xL) (za:xi) (xc:yt) (xa:yl) (xf:yH) (yf:zH) (ya:zj) (yc:zq) (ye:zC) (L:Nat) (zNm:List (List V)) (zNn:Int) (k_fin:Bool→Option β):Option β :=
 k_fin true
theorem zl6 {β:Type} (yb:zm) (xb:zn) (zc:xo) (yh:xL) (za:xi) (xc:yt) (xa:yl) (xf:yH) (yf:zH) (ya:zj) (yc:zq) (ye:zC) (L:Nat) (zNm:List (List V)) (zNn:Int) (k:KK β):(zx 2 (yI (yj zy (yy yb xb zc yh za xc xa xf yf ya yc ye L) 0 L zdg) (zN 0 (CF.res y7) k))) (.exit 2) (zep zNm zNn)=zgP yb xb zc yh za xc xa xf yf ya yc ye L zNm zNn (fun p0=>k (V.sc (.bool p0)) []):=by kernel_rfl
def zb6 {β:Type} (yb:zm) (xb:zn) (zc:xo) (yh:xL) (za:xi) (xc:yt) (xa:yl) (xf:yH) (yf:zH) (ya:zj) (yc:zq) (ye:zC) (L:Nat) (p1 p2:Int) (p10 p13 p45:List (List V)) (p46 p47:Int) (p78:List (List V)) (p79 p80:Int) (b8:List V) (zNm:List (List V)) (zNn:Int) (k_ret:Bool→List (List V)→Int→Option β) (k_hbbbbbbbabaabbaabbbbba:zeh β) (k_x4:zhz β):Option β :=
 ifb (decide (p80 < p79)) (
 idx p78 p80 fun c29 =>
 cI .i64 c29 0 fun v30 =>
 chk (0+34≤(List.length b8)) (
 ya β L (List.map V.dem (List.take 34 b8)) p13 v30 (fun v31 =>
 chk (0+34≤(List.length b8)) (
 yc β L (List.map V.dem (List.take 34 b8)) p13 v30 (fun v32 =>
 ye β L v31 v32 (fun v33 =>
 ifb (!v33) (
 k_ret false zNm zNn) (
 lt (IntKind.wrap .i64 ((p80:Int)+(1:Int))) fun x34 =>
 k_hbbbbbbbabaabbaabbbbba p1 p2 p10 p13 p45 p46 p47 p78 p79 x34 b8 zNm zNn))))))) (
 k_x4 p1 p2 p10 p45 p46 p47 b8 zNm zNn)
theorem zh7 {β:Type} (yb:zm) (xb:zn) (zc:xo) (yh:xL) (za:xi) (xc:yt) (xa:yl) (xf:yH) (yf:zH) (ya:zj) (yc:zq) (ye:zC) (L:Nat) (p1 p2:Int) (p10 p13 p45:List (List V)) (p46 p47:Int) (p78:List (List V)) (p79 p80:Int) (b8:List V) (zNm:List (List V)) (zNn:Int) (X:St→Option β) (K:KT β):yj zy (yy yb xb zc yh za xc xa xf yf ya yc ye L) 0 L zaj (zaP p1 p2 p10 p13 p45 p46 p47 p78 p79 p80 b8 zNm zNn) (zaz za5 X K)=zb6 yb xb zc yh za xc xa xf yf ya yc ye L p1 p2 p10 p13 p45 p46 p47 p78 p79 p80 b8 zNm zNn (fun p6 zNm zNn=>K .ret (zaC p6 zNm zNn)) (fun p1 p2 p10 p13 p45 p46 p47 p78 p79 p80 b8 zNm zNn=>X (zaP p1 p2 p10 p13 p45 p46 p47 p78 p79 p80 b8 zNm zNn)) (fun p1 p2 p10 p45 p46 p47 b8 zNm zNn=>K (.exit 4) (zgG p1 p2 p10 p45 p46 p47 b8 zNm zNn)):=by kernel_rfl
def zdN {β:Type} (yb:zm) (xb:zn) (zc:xo) (yh:xL) (za:xi) (xc:yt) (xa:yl) (xf:yH) (yf:zH) (ya:zj) (yc:zq) (ye:zC) (L:Nat) (p6:Bool) (zNm:List (List V)) (zNn:Int) (k_ret:Bool→List (List V)→Int→Option β):Option β :=
 k_ret p6 zNm zNn
theorem zhn {β:Type} (yb:zm) (xb:zn) (zc:xo) (yh:xL) (za:xi) (xc:yt) (xa:yl) (xf:yH) (yf:zH) (ya:zj) (yc:zq) (ye:zC) (L:Nat) (p6:Bool) (zNm:List (List V)) (zNn:Int) (X:St→Option β) (K:KT β):(zx 4 (zx 3 (yI (yj zy (yy yb xb zc yh za xc xa xf yf ya yc ye L) 0 L zbX) (zaz yZ X K)))) .ret (zaC p6 zNm zNn)=zdN yb xb zc yh za xc xa xf yf ya yc ye L p6 zNm zNn (fun p6 zNm zNn=>K .ret (zaC p6 zNm zNn)):=by kernel_rfl
def zbW {β:Type} (yb:zm) (xb:zn) (zc:xo) (yh:xL) (za:xi) (xc:yt) (xa:yl) (xf:yH) (yf:zH) (ya:zj) (yc:zq) (ye:zC) (L:Nat) (p1 p2:Int) (p10 p45:List (List V)) (p46 p47:Int) (b8:List V) (zNm:List (List V)) (zNn:Int) (k_hbbbbbbbaba:zel β):Option β :=
 lt (IntKind.wrap .i64 ((p47:Int)+(1:Int))) fun x35 =>
 k_hbbbbbbbaba p1 p2 p10 p45 p46 x35 b8 zNm zNn
theorem zhH {β:Type} (yb:zm) (xb:zn) (zc:xo) (yh:xL) (za:xi) (xc:yt) (xa:yl) (xf:yH) (yf:zH) (ya:zj) (yc:zq) (ye:zC) (L:Nat) (p1 p2:Int) (p10 p45:List (List V)) (p46 p47:Int) (b8:List V) (zNm:List (List V)) (zNn:Int) (X:St→Option β) (K:KT β):(zx 4 (zx 3 (yI (yj zy (yy yb xb zc yh za xc xa xf yf ya yc ye L) 0 L zbX) (zaz yZ X K)))) (.exit 4) (zgG p1 p2 p10 p45 p46 p47 b8 zNm zNn)=zbW yb xb zc yh za xc xa xf yf ya yc ye L p1 p2 p10 p45 p46 p47 b8 zNm zNn (fun p1 p2 p10 p45 p46 p47 b8 zNm zNn=>X (zaB p1 p2 p10 p45 p46 p47 b8 zNm zNn)):=by kernel_rfl
def zaZ {β:Type} (yb:zm) (xb:zn) (zc:xo) (yh:xL) (za:xi) (xc:yt) (xa:yl) (xf:yH) (yf:zH) (ya:zj) (yc:zq) (ye:zC) (L:Nat) (k_x0:zhA β):Nat→Int→Int→List (List V)→List (List V)→Int→List V→List (List V)→Int→Option β
 | 0,_,_,_,_,_,_,_,_=>none
 | n+1,p1,p2,p9,p10,p11,b8,zNm,zNn=>zc2 yb xb zc yh za xc xa xf yf ya yc ye L p1 p2 p9 p10 p11 b8 zNm zNn (fun p1 p2 p9 p10 p11 b8 zNm zNn=>zaZ yb xb zc yh za xc xa xf yf ya yc ye L k_x0 n p1 p2 p9 p10 p11 b8 zNm zNn) k_x0
theorem zgO {β:Type} (yb:zm) (xb:zn) (zc:xo) (yh:xL) (za:xi) (xc:yt) (xa:yl) (xf:yH) (yf:zH) (ya:zj) (yc:zq) (ye:zC) (L:Nat) (K:KT β):∀ (n:Nat) (p1 p2:Int) (p9 p10:List (List V)) (p11:Int) (b8:List V) (zNm:List (List V)) (zNn:Int),xy (yj zy (yy yb xb zc yh za xc xa xf yf ya yc ye L) 0 L zbE) zc3 n (zb8 p1 p2 p9 p10 p11 b8 zNm zNn) K=zaZ yb xb zc yh za xc xa xf yf ya yc ye L (fun p1 p2 p9 p10 b8 zNm zNn=>K (.exit 0) (zeq p1 p2 p9 p10 b8 zNm zNn)) n p1 p2 p9 p10 p11 b8 zNm zNn:=by
 intro n
 induction n with
 | zero=>intros; rfl
 | succ n ih =>
  intro p1 p2 p9 p10 p11 b8 zNm zNn
  refine (zn8 yb xb zc yh za xc xa xf yf ya yc ye L p1 p2 p9 p10 p11 b8 zNm zNn (fun σ=>xy (yj zy (yy yb xb zc yh za xc xa xf yf ya yc ye L) 0 L zbE) zc3 n σ K) K).trans ?_
  simp only [ih]
  rfl
def zaq {β:Type} (yb:zm) (xb:zn) (zc:xo) (yh:xL) (za:xi) (xc:yt) (xa:yl) (xf:yH) (yf:zH) (ya:zj) (yc:zq) (ye:zC) (L:Nat) (k_ret:Bool→List (List V)→Int→Option β) (k_x4:zhz β):Nat→Int→Int→List (List V)→List (List V)→List (List V)→Int→Int→List (List V)→Int→Int→List V→List (List V)→Int→Option β
 | 0,_,_,_,_,_,_,_,_,_,_,_,_,_=>none
 | n+1,p1,p2,p10,p13,p45,p46,p47,p78,p79,p80,b8,zNm,zNn=>zb6 yb xb zc yh za xc xa xf yf ya yc ye L p1 p2 p10 p13 p45 p46 p47 p78 p79 p80 b8 zNm zNn k_ret (fun p1 p2 p10 p13 p45 p46 p47 p78 p79 p80 b8 zNm zNn=>zaq yb xb zc yh za xc xa xf yf ya yc ye L k_ret k_x4 n p1 p2 p10 p13 p45 p46 p47 p78 p79 p80 b8 zNm zNn) k_x4
theorem zdJ {β:Type} (yb:zm) (xb:zn) (zc:xo) (yh:xL) (za:xi) (xc:yt) (xa:yl) (xf:yH) (yf:zH) (ya:zj) (yc:zq) (ye:zC) (L:Nat) (K:KT β):∀ (n:Nat) (p1 p2:Int) (p10 p13 p45:List (List V)) (p46 p47:Int) (p78:List (List V)) (p79 p80:Int) (b8:List V) (zNm:List (List V)) (zNn:Int),xy (yj zy (yy yb xb zc yh za xc xa xf yf ya yc ye L) 0 L zaj) za5 n (zaP p1 p2 p10 p13 p45 p46 p47 p78 p79 p80 b8 zNm zNn) K=zaq yb xb zc yh za xc xa xf yf ya yc ye L (fun p6 zNm zNn=>K .ret (zaC p6 zNm zNn)) (fun p1 p2 p10 p45 p46 p47 b8 zNm zNn=>K (.exit 4) (zgG p1 p2 p10 p45 p46 p47 b8 zNm zNn)) n p1 p2 p10 p13 p45 p46 p47 p78 p79 p80 b8 zNm zNn:=by
 intro n
 induction n with
 | zero=>intros; rfl
 | succ n ih =>
  intro p1 p2 p10 p13 p45 p46 p47 p78 p79 p80 b8 zNm zNn
  refine (zh7 yb xb zc yh za xc xa xf yf ya yc ye L p1 p2 p10 p13 p45 p46 p47 p78 p79 p80 b8 zNm zNn (fun σ=>xy (yj zy (yy yb xb zc yh za xc xa xf yf ya yc ye L) 0 L zaj) za5 n σ K) K).trans ?_
  simp only [ih]
  rfl
def zcv {β:Type} (yb:zm) (xb:zn) (zc:xo) (yh:xL) (za:xi) (xc:yt) (xa:yl) (xf:yH) (yf:zH) (ya:zj) (yc:zq) (ye:zC) (L:Nat) (p1 p2:Int) (p10 p45:List (List V)) (p46 p47:Int) (b8:List V) (zNm:List (List V)) (zNn:Int) (k_ret:Bool→List (List V)→Int→Option β) (k_x2:List (List V)→Int→Option β) (k_hbbbbbbbaba:zel β):Option β :=
 zew yb xb zc yh za xc xa xf yf ya yc ye L p1 p2 p10 p45 p46 p47 b8 zNm zNn k_ret (fun p1 p2 p10 p13 p45 p46 p47 p78 p79 p80 b8 zNm zNn=>zaq yb xb zc yh za xc xa xf yf ya yc ye L (fun p6 zNm zNn=>zdN yb xb zc yh za xc xa xf yf ya yc ye L p6 zNm zNn k_ret) (fun p1 p2 p10 p45 p46 p47 b8 zNm zNn=>zbW yb xb zc yh za xc xa xf yf ya yc ye L p1 p2 p10 p45 p46 p47 b8 zNm zNn k_hbbbbbbbaba) L p1 p2 p10 p13 p45 p46 p47 p78 p79 p80 b8 zNm zNn) k_x2
theorem zmC {β:Type} (yb:zm) (xb:zn) (zc:xo) (yh:xL) (za:xi) (xc:yt) (xa:yl) (xf:yH) (yf:zH) (ya:zj) (yc:zq) (ye:zC) (L:Nat) (p1 p2:Int) (p10 p45:List (List V)) (p46 p47:Int) (b8:List V) (zNm:List (List V)) (zNn:Int) (X:St→Option β) (K:KT β):yj zy (yy yb xb zc yh za xc xa xf yf ya yc ye L) 0 L zaO (zaB p1 p2 p10 p45 p46 p47 b8 zNm zNn) (zaz yZ X K)=zcv yb xb zc yh za xc xa xf yf ya yc ye L p1 p2 p10 p45 p46 p47 b8 zNm zNn (fun p6 zNm zNn=>K .ret (zaC p6 zNm zNn)) (fun zNm zNn=>K (.exit 2) (zep zNm zNn)) (fun p1 p2 p10 p45 p46 p47 b8 zNm zNn=>X (zaB p1 p2 p10 p45 p46 p47 b8 zNm zNn)):=by
 refine (zne yb xb zc yh za xc xa xf yf ya yc ye L p1 p2 p10 p45 p46 p47 b8 zNm zNn X K).trans ?_
 unfold zcv
 first
  | (simp only [zdJ,zhn,zhH]; done)
  | (simp only [zdJ]; rfl)
def zbz {β:Type} (yb:zm) (xb:zn) (zc:xo) (yh:xL) (za:xi) (xc:yt) (xa:yl) (xf:yH) (yf:zH) (ya:zj) (yc:zq) (ye:zC) (L:Nat) (k_ret:Bool→List (List V)→Int→Option β) (k_x2:List (List V)→Int→Option β):Nat→Int→Int→List (List V)→List (List V)→Int→Int→List V→List (List V)→Int→Option β
 | 0,_,_,_,_,_,_,_,_,_=>none
 | n+1,p1,p2,p10,p45,p46,p47,b8,zNm,zNn=>zcv yb xb zc yh za xc xa xf yf ya yc ye L p1 p2 p10 p45 p46 p47 b8 zNm zNn k_ret k_x2 (fun p1 p2 p10 p45 p46 p47 b8 zNm zNn=>zbz yb xb zc yh za xc xa xf yf ya yc ye L k_ret k_x2 n p1 p2 p10 p45 p46 p47 b8 zNm zNn)
theorem zgl {β:Type} (yb:zm) (xb:zn) (zc:xo) (yh:xL) (za:xi) (xc:yt) (xa:yl) (xf:yH) (yf:zH) (ya:zj) (yc:zq) (ye:zC) (L:Nat) (K:KT β):∀ (n:Nat) (p1 p2:Int) (p10 p45:List (List V)) (p46 p47:Int) (b8:List V) (zNm:List (List V)) (zNn:Int),xy (yj zy (yy yb xb zc yh za xc xa xf yf ya yc ye L) 0 L zaO) yZ n (zaB p1 p2 p10 p45 p46 p47 b8 zNm zNn) K=zbz yb xb zc yh za xc xa xf yf ya yc ye L (fun p6 zNm zNn=>K .ret (zaC p6 zNm zNn)) (fun zNm zNn=>K (.exit 2) (zep zNm zNn)) n p1 p2 p10 p45 p46 p47 b8 zNm zNn:=by
 intro n
 induction n with
 | zero=>intros; rfl
 | succ n ih =>
  intro p1 p2 p10 p45 p46 p47 b8 zNm zNn
  refine (zmC yb xb zc yh za xc xa xf yf ya yc ye L p1 p2 p10 p45 p46 p47 b8 zNm zNn (fun σ=>xy (yj zy (yy yb xb zc yh za xc xa xf yf ya yc ye L) 0 L zaO) yZ n σ K) K).trans ?_
  simp only [ih]
  rfl
def zb9 {β:Type} (yb:zm) (xb:zn) (zc:xo) (yh:xL) (za:xi) (xc:yt) (xa:yl) (xf:yH) (yf:zH) (ya:zj) (yc:zq) (ye:zC) (L:Nat) (p1 p2:Int) (p9 p10:List (List V)) (b8:List V) (zNm:List (List V)) (zNn:Int) (k_fin:Bool→Option β):Option β :=
 zeg yb xb zc yh za xc xa xf yf ya yc ye L p1 p2 p9 p10 b8 zNm zNn (fun p1 p2 p10 p45 p46 p47 b8 zNm zNn=>zbz yb xb zc yh za xc xa xf yf ya yc ye L (fun p6 zNm zNn=>zgd yb xb zc yh za xc xa xf yf ya yc ye L p6 zNm zNn k_fin) (fun zNm zNn=>zgP yb xb zc yh za xc xa xf yf ya yc ye L zNm zNn k_fin) L p1 p2 p10 p45 p46 p47 b8 zNm zNn)
theorem zl5 {β:Type} (yb:zm) (xb:zn) (zc:xo) (yh:xL) (za:xi) (xc:yt) (xa:yl) (xf:yH) (yf:zH) (ya:zj) (yc:zq) (ye:zC) (L:Nat) (p1 p2:Int) (p9 p10:List (List V)) (b8:List V) (zNm:List (List V)) (zNn:Int) (k:KK β):(zx 0 (yI (yj zy (yy yb xb zc yh za xc xa xf yf ya yc ye L) 0 L zdn) (zN 0 (CF.res y7) k))) (.exit 0) (zeq p1 p2 p9 p10 b8 zNm zNn)=zb9 yb xb zc yh za xc xa xf yf ya yc ye L p1 p2 p9 p10 b8 zNm zNn (fun p0=>k (V.sc (.bool p0)) []):=by
 refine (zmi yb xb zc yh za xc xa xf yf ya yc ye L p1 p2 p9 p10 b8 zNm zNn k).trans ?_
 unfold zb9
 first
  | (simp only [zgl,zlf,zl6]; done)
  | (simp only [zgl]; rfl)
def zfU {β:Type} (yb:zm) (xb:zn) (zc:xo) (yh:xL) (za:xi) (xc:yt) (xa:yl) (xf:yH) (yf:zH) (ya:zj) (yc:zq) (ye:zC) (L:Nat) (p0:List (List V)) (p1 p2:Int) (k_fin:Bool→Option β):Option β :=
 zi7 yb xb zc yh za xc xa xf yf ya yc ye L p0 p1 p2 k_fin (fun p1 p2 p9 p10 p11 b8 zNm zNn=>zaZ yb xb zc yh za xc xa xf yf ya yc ye L (fun p1 p2 p9 p10 b8 zNm zNn=>zb9 yb xb zc yh za xc xa xf yf ya yc ye L p1 p2 p9 p10 b8 zNm zNn k_fin) L p1 p2 p9 p10 p11 b8 zNm zNn)
theorem ztR {β:Type} (yb:zm) (xb:zn) (zc:xo) (yh:xL) (za:xi) (xc:yt) (xa:yl) (xf:yH) (yf:zH) (ya:zj) (yc:zq) (ye:zC) (L:Nat) (p0:List (List V)) (p1 p2:Int) (k:KK β):xr zy (yy yb xb zc yh za xc xa xf yf ya yc ye L) L y7 [(V.sl 1 p0),(V.sc (.int .i64 p1)),(V.sc (.int .u64 p2))] [] k=zfU yb xb zc yh za xc xa xf yf ya yc ye L p0 p1 p2 (fun p0=>k (V.sc (.bool p0)) []):=by
 refine (zt5 yb xb zc yh za xc xa xf yf ya yc ye L p0 p1 p2 k).trans ?_
 unfold zfU
 first
  | (simp only [zgO,zl5]; done)
  | (simp only [zgO]; rfl)
abbrev zwa:=∀ (β:Type),Nat→List (List V)→Int→Int→(Bool→Option β)→Option β
def zc7 (β:Type) (L:Nat) (p0:List (List V)) (p1 p2:Int) (k_fin:Bool→Option β):Option β:=zfU yb xb zc yh za xc xa xf yf ya yc ye L p0 p1 p2 k_fin
def zi3 (zc7:zwa) (L:Nat) (β:Type) (args:List V) (bor:Bor) (k:KK β):Option β:=match args,bor with
 | [a0,a1,a2],[]=>aL 1 a0 fun p0=>aI .i64 a1 fun p1=>aI .u64 a2 fun p2=>zc7 β L p0 p1 p2 (fun p0=>k (V.sc (.bool p0)) [])
 | _,_=>none
theorem ztA (L:Nat) (β:Type) (args:List V) (bor:Bor) (k:KK β) (r:β) (h:zi3 zc7 L β args bor k=some r):xr zy (yy yb xb zc yh za xc xa xf yf ya yc ye L) L y7 args bor k=some r:=by
 unfold zi3 at h
 split at h
 ·have q:=xP h; clear h; obtain ⟨p0,rfl,h⟩:=q
  have q:=zad h; clear h; obtain ⟨p1,rfl,h⟩:=q
  have q:=zad h; clear h; obtain ⟨p2,rfl,h⟩:=q
  exact (ztR yb xb zc yh za xc xa xf yf ya yc ye L p0 p1 p2 k).trans h
 ·cases h
def zfr:CC:=(.seq (.seq (.reg [oo 17 (.move (tq 10) false),
   oo 18 (.bin .lss (tq 17) (.const (.sc (.int .i64 20))))])
 (.cond (tq 18)
 .skip
 (.seq (.mask (bl 256 51) (bl 2190225216340791 51))
 (.exit 0))))
 (.seq (.block 1 (.seq (.dreg [] [(oo 22 (.load true 34 (tq 3) false),ql 3 [] [11]),
   (oo 23 (.move (tq 1) false),q0),
   (oo 24 (.move (tq 8) false),q0),
   (oo 25 (.move (tq 9) false),q0),
   (oo 26 (.call 231 [((tq 25),0),((.const (.sc (.int .i64 1048576))),0)] []),qc [3] [11]),
   (oo 27 (.conv .u64 (tq 26)),q0),
   (oo 28 (.call 263 [((tq 22),1),((tq 23),0),((tq 24),0),((tq 27),0)] []),qc [] [11]),
   (oo 21 (.move (tq 28) true),qc [] [11]),
   (oo 29 (.pull (tq 21) 0),q0),
   (oo 30 (.pull (tq 21) 1),q0),
   (oo 11 (.alloc true [(.sc (.int .i64 0)),(.sc (.int .u32 0)),(.sc (.int .u16 0)),(.sc (.int .u32 0))]),qn [3] []),
   (oz (.store 4 (tq 11) (tq 29)),q0),
   (oo 12 (.move (tq 30) false),q0)])
 (.seq (.seq (.reg [oo 31 (.move (tq 12) false),
   oo 32 (.bin .neq (tq 31) (.const (.sc (.int .i64 0))))])
 (.cond (tq 32)
 (.seq (.reg [oo 33 (.move (tq 8) true),
   oo 34 (.move (tq 12) false),
   oo 35 (.bin .eql (tq 34) (.const (.sc (.int .i64 390)))),
   oo 36 (.move (tq 35) false),
   ⟨(some 37),false,(some (36,false)),.move (tq 12) false⟩,
   ⟨(some 38),false,(some (36,false)),.bin .eql (tq 37) (.const (.sc (.int .i64 380)))⟩,
   oo 39 (.pick (tq 36) (.const (.sc (.bool true))) (tq 38)),
   oo 6 (.move (tq 33) true),
   oo 7 (.move (tq 39) false)])
 (.seq (.mask (bl 192 51) (bl 2190225216340727 51))
 .ret))
 .skip))
 (.seq (.reg [oo 41 (.move (tq 8) false),
   oo 42 (.load true 4 (tq 11) false),
   oo 43 (.call 271 [((tq 41),0),((tq 42),0)] []),
   oo 40 (.move (tq 43) true),
   oo 44 (.extract (tq 40) 0),
   oo 45 (.pull (tq 40) 1),
   oo 13 (.move (tq 44) true),
   oo 14 (.move (tq 45) false)])
 (.seq (.seq (.reg [oo 46 (.move (tq 14) false),
   oo 47 (.bin .neq (tq 46) (.const (.sc (.int .i64 0))))])
 (.cond (tq 47)
 (.seq (.reg [oo 48 (.move (tq 8) true),
   oo 6 (.move (tq 48) true),
   oo 7 (.move (.const (.sc (.bool false))) false)])
 (.seq (.mask (bl 192 51) (bl 2190225216340727 51))
 .ret))
 .skip))
 (.reg [oo 49 (.move (tq 13) true),
   oo 8 (.move (tq 49) true)]))))))
 (.reg [oo 19 (.move (tq 10) false),
   oo 20 (.bin .add (tq 19) (.const (.sc (.int .i64 1)))),
   oo 10 (.move (tq 20) false)])))
def zkm:CC:=(.seq (.reg [oo 50 (.move (tq 8) true),
   oo 6 (.move (tq 50) true),
   oo 7 (.move (.const (.sc (.bool false))) false)])
 .ret)
def zfa:CF:=⟨51,[.tmp 6,.tmp 7],
 (.seq (.reg [oo 3 (.box true (tq 0)),
   oo 6 (.move (.const (.gs 4 [])) true),
   oo 7 (.move (.const (.sc (.bool false))) false)])
 (.seq (.reg [oo 8 (.move (.const (.gs 4 [])) true)])
 (.seq (.reg [oo 15 (.move (tq 2) false),
   oo 16 (.call 225 [((tq 15),0)] []),
   oo 9 (.move (tq 16) false)])
 (.seq (.seq (.reg [oo 10 (.move (.const (.sc (.int .i64 0))) false)])
 (.block 0 (.loop (bl 1802 51) (bl 2190225216341823 51)
 zfr)))
 zkm))))⟩
def zv0:Hint:=⟨[(0,0),(0,1),(1,0),(6,7),(8,0),(8,7),(9,3),(9,4),(9,6),(11,0),(11,1),(12,0),(12,1),(13,0),(13,1)],[],[none,some ((bl 1802 51),(bl 2190225216341823 51)),none,some ((bl 256 51),(bl 2190225216340791 51)),none,none,some ((bl 192 51),(bl 2190225216340727 51)),none,some ((bl 192 51),(bl 2190225216340727 51)),none],[],[],false,false⟩
def zcU:Nat→Sh:=zV []
def zcX (xb:zn) (za:xi) (xa:yl) (yq:zax) (L:Nat):CBC:=(xA 271 (zjF yq L) (xA 263 (zev xa L) (xA 231 (zb0 za L) (xA 225 (ziN xb L) noC))))
def ziG:St→St:=zaE 0 (bl 1802 51) (bl 2190225216341823 51)
def zgi (p1 p8:List (List V)) (p10:Int) (b3:List V) (zNu:List (List V)) (zNv:Int):St:=⟨(jn 1 ((V.sl 3 p1)::(jn 1 ((V.ptr 3 0)::(jn 4 ((V.gs 4 p8)::((V.ptr 16 0)::((V.sc (.int .i64 p10))::(jn 40 []))))))))),(gn 3 ((.live true b3)::(gn 12 ((.live false [(V.sl 1 zNu),(V.sc (.int .i64 zNv))])::(gn 34 [])))))⟩
def znL (p6:List (List V)) (p7:Bool) (zNu:List (List V)) (zNv:Int):St:=⟨(jn 6 ((V.gs 4 p6)::((V.sc (.bool p7))::(jn 43 [])))),(gn 16 ((.live false [(V.sl 1 zNu),(V.sc (.int .i64 zNv))])::(gn 34 [])))⟩
def zoW (p8 zNu:List (List V)) (zNv:Int):St:=⟨(jn 8 ((V.gs 4 p8)::(jn 42 []))),(gn 16 ((.live false [(V.sl 1 zNu),(V.sc (.int .i64 zNv))])::(gn 34 [])))⟩
abbrev zrm (β:Type):Type:=List (List V)→List (List V)→Int→List V→List (List V)→Int→Option β
def zzO {β:Type} (xb:zn) (za:xi) (xa:yl) (yq:zax) (L:Nat) (p0:List V) (p1 p2:List (List V)) (k_hbbbaba:zrm β):Option β :=
 xb β L p2 (fun v0 v1 =>
 k_hbbbaba p1 ([]:List (List V)) (0:Int) p0 v0 v1)
theorem zC1 {β:Type} (xb:zn) (za:xi) (xa:yl) (yq:zax) (L:Nat) (p0:List V) (p1 p2:List (List V)) (k:KK β):xr zcU (zcX xb za xa yq L) L zfa [(V.agg p0),(V.sl 3 p1),(V.sl 1 p2)] [] k=zzO xb za xa yq L p0 p1 p2 (fun p1 p8 p10 b3 zNu zNv=>xy (yj zcU (zcX xb za xa yq L) 0 L zfr) ziG L (zgi p1 p8 p10 b3 zNu zNv) (zx 0 (yI (yj zcU (zcX xb za xa yq L) 0 L zkm) (zN 0 (CF.res zfa) k)))):=by kernel_rfl
def zsE {β:Type} (xb:zn) (za:xi) (xa:yl) (yq:zax) (L:Nat) (p1 p8:List (List V)) (p10:Int) (b3:List V) (zNu:List (List V)) (zNv:Int) (k_ret:List (List V)→Bool→List (List V)→Int→Option β) (k_hbbbaba:zrm β) (k_x0:List (List V)→List (List V)→Int→Option β):Option β :=
 ifb (decide (p10 < (20:Int))) (
 chk (0+34≤(List.length b3)) (
 za β L (1048576:Int) zNu zNv (fun v2 v3 v4 =>
 lt (IntKind.wrap .u64 v2) fun x5 =>
 xa β L (List.map V.dem (List.take 34 b3)) p1 p8 x5 (fun v6 v7 =>
 chk ((List.length v6)=4∧0+4≤4) (
 lt (yk [(V.sc (.int .i64 (0:Int))),(V.sc (.int .u32 (0:Int))),(V.sc (.int .u16 (0:Int))),(V.sc (.int .u32 (0:Int)))] 0 v6) fun r8 =>
 ifb ((v7:Int) != (0:Int)) (
 ifb ((v7:Int) == (390:Int)) (
 k_ret p8 true v3 v4) (
 k_ret p8 ((v7:Int) == (380:Int)) v3 v4)) (
 chk (0+4≤(List.length r8)) (
 yq β L p8 (List.take 4 r8) (fun v9 v10 =>
 ifb ((v10:Int) != (0:Int)) (
 k_ret p8 false v3 v4) (
 lt (IntKind.wrap .i64 ((p10:Int)+(1:Int))) fun x11 =>
 k_hbbbaba p1 v9 x11 b3 v3 v4))))))))) (
 k_x0 p8 zNu zNv)
theorem zxk {β:Type} (xb:zn) (za:xi) (xa:yl) (yq:zax) (L:Nat) (p1 p8:List (List V)) (p10:Int) (b3:List V) (zNu:List (List V)) (zNv:Int) (X:St→Option β) (K:KT β):yj zcU (zcX xb za xa yq L) 0 L zfr (zgi p1 p8 p10 b3 zNu zNv) (zaz ziG X K)=zsE xb za xa yq L p1 p8 p10 b3 zNu zNv (fun p6 p7 zNu zNv=>K .ret (znL p6 p7 zNu zNv)) (fun p1 p8 p10 b3 zNu zNv=>X (zgi p1 p8 p10 b3 zNu zNv)) (fun p8 zNu zNv=>K (.exit 0) (zoW p8 zNu zNv)):=by kernel_rfl
def zpJ {β:Type} (xb:zn) (za:xi) (xa:yl) (yq:zax) (L:Nat) (p6:List (List V)) (p7:Bool) (zNu:List (List V)) (zNv:Int) (k_fin:List (List V)→Bool→Option β):Option β :=
 k_fin p6 p7
theorem zuk {β:Type} (xb:zn) (za:xi) (xa:yl) (yq:zax) (L:Nat) (p6:List (List V)) (p7:Bool) (zNu:List (List V)) (zNv:Int) (k:KK β):(zx 0 (yI (yj zcU (zcX xb za xa yq L) 0 L zkm) (zN 0 (CF.res zfa) k))) .ret (znL p6 p7 zNu zNv)=zpJ xb za xa yq L p6 p7 zNu zNv (fun zOw zOx=>k (V.tup [(V.gs 4 zOw),(V.sc (.bool zOx))]) []):=by kernel_rfl
def zqB {β:Type} (xb:zn) (za:xi) (xa:yl) (yq:zax) (L:Nat) (p8 zNu:List (List V)) (zNv:Int) (k_fin:List (List V)→Bool→Option β):Option β :=
 k_fin p8 false
theorem zvB {β:Type} (xb:zn) (za:xi) (xa:yl) (yq:zax) (L:Nat) (p8 zNu:List (List V)) (zNv:Int) (k:KK β):(zx 0 (yI (yj zcU (zcX xb za xa yq L) 0 L zkm) (zN 0 (CF.res zfa) k))) (.exit 0) (zoW p8 zNu zNv)=zqB xb za xa yq L p8 zNu zNv (fun zOw zOx=>k (V.tup [(V.gs 4 zOw),(V.sc (.bool zOx))]) []):=by kernel_rfl
def zmJ {β:Type} (xb:zn) (za:xi) (xa:yl) (yq:zax) (L:Nat) (k_ret:List (List V)→Bool→List (List V)→Int→Option β) (k_x0:List (List V)→List (List V)→Int→Option β):Nat→List (List V)→List (List V)→Int→List V→List (List V)→Int→Option β
 | 0,_,_,_,_,_,_=>none
 | n+1,p1,p8,p10,b3,zNu,zNv=>zsE xb za xa yq L p1 p8 p10 b3 zNu zNv k_ret (fun p1 p8 p10 b3 zNu zNv=>zmJ xb za xa yq L k_ret k_x0 n p1 p8 p10 b3 zNu zNv) k_x0
theorem zpj {β:Type} (xb:zn) (za:xi) (xa:yl) (yq:zax) (L:Nat) (K:KT β):∀ (n:Nat) (p1 p8:List (List V)) (p10:Int) (b3:List V) (zNu:List (List V)) (zNv:Int),xy (yj zcU (zcX xb za xa yq L) 0 L zfr) ziG n (zgi p1 p8 p10 b3 zNu zNv) K=zmJ xb za xa yq L (fun p6 p7 zNu zNv=>K .ret (znL p6 p7 zNu zNv)) (fun p8 zNu zNv=>K (.exit 0) (zoW p8 zNu zNv)) n p1 p8 p10 b3 zNu zNv:=by
 intro n
 induction n with
 | zero=>intros; rfl
 | succ n ih =>
  intro p1 p8 p10 b3 zNu zNv
  refine (zxk xb za xa yq L p1 p8 p10 b3 zNu zNv (fun σ=>xy (yj zcU (zcX xb za xa yq L) 0 L zfr) ziG n σ K) K).trans ?_
  simp only [ih]
  rfl
def zve {β:Type} (xb:zn) (za:xi) (xa:yl) (yq:zax) (L:Nat) (p0:List V) (p1 p2:List (List V)) (k_fin:List (List V)→Bool→Option β):Option β :=
 zzO xb za xa yq L p0 p1 p2 (fun p1 p8 p10 b3 zNu zNv=>zmJ xb za xa yq L (fun p6 p7 zNu zNv=>zpJ xb za xa yq L p6 p7 zNu zNv k_fin) (fun p8 zNu zNv=>zqB xb za xa yq L p8 zNu zNv k_fin) L p1 p8 p10 b3 zNu zNv)
theorem zCI {β:Type} (xb:zn) (za:xi) (xa:yl) (yq:zax) (L:Nat) (p0:List V) (p1 p2:List (List V)) (k:KK β):xr zcU (zcX xb za xa yq L) L zfa [(V.agg p0),(V.sl 3 p1),(V.sl 1 p2)] [] k=zve xb za xa yq L p0 p1 p2 (fun zOw zOx=>k (V.tup [(V.gs 4 zOw),(V.sc (.bool zOx))]) []):=by
 refine (zC1 xb za xa yq L p0 p1 p2 k).trans ?_
 unfold zve
 first
  | (simp only [zpj,zuk,zvB]; done)
  | (simp only [zpj]; rfl)
abbrev yJ:=∀ (β:Type),Nat→List V→List (List V)→List (List V)→(List (List V)→Bool→Option β)→Option β
def yg (β:Type) (L:Nat) (p0:List V) (p1 p2:List (List V)) (k_fin:List (List V)→Bool→Option β):Option β:=zve xb za xa yq L p0 p1 p2 k_fin
def zmf (yg:yJ) (L:Nat) (β:Type) (args:List V) (bor:Bor) (k:KK β):Option β:=match args,bor with
 | [a0,a1,a2],[]=>aG a0 fun p0=>aL 3 a1 fun p1=>aL 1 a2 fun p2=>yg β L p0 p1 p2 (fun zOw zOx=>k (V.tup [(V.gs 4 zOw),(V.sc (.bool zOx))]) [])
 | _,_=>none
theorem zDE (L:Nat) (β:Type) (args:List V) (bor:Bor) (k:KK β) (r:β) (h:zmf yg L β args bor k=some r):xr zcU (zcX xb za xa yq L) L zfa args bor k=some r:=by
 unfold zmf at h
 split at h
 ·have q:=y5 h; clear h; obtain ⟨p0,rfl,h⟩:=q
  have q:=xP h; clear h; obtain ⟨p1,rfl,h⟩:=q
  have q:=xP h; clear h; obtain ⟨p2,rfl,h⟩:=q
  exact (zCI xb za xa yq L p0 p1 p2 k).trans h
 ·cases h
def zar:CC:=(.seq (.reg [oo 57 (.bin .lss (tq 56) (tq 55))])
 (.seq (.cond (tq 57)
 .skip
 (.seq (.mask (bl 246290604627328 97) (bl 158456324987023501021241393071 97))
 (.exit 2)))
 (.seq (.block 3 (.seq (.reg [oo 58 (.indexAddrS 4 (tq 54) (tq 56)),
   oo 59 (.load true 4 (tq 58) false),
   oo 14 (.alloc true [(.sc (.int .i64 0)),(.sc (.int .u32 0)),(.sc (.int .u16 0)),(.sc (.int .u32 0))]),
   oz (.store 4 (tq 14) (tq 59))])
 (.seq (.dreg [] [(oo 60 (.fieldAddr 1 (tq 12)),q0),
   (oo 61 (.load true 3 (tq 60) false),ql 12 [14] []),
   (oo 62 (.call 269 [((tq 61),0)] []),qc [14] []),
   (oo 63 (.fieldAddr 1 (tq 14)),q0),
   (oo 64 (.load true 3 (tq 63) false),ql 14 [12] []),
   (oo 65 (.call 269 [((tq 64),0)] []),q0),
   (oo 66 (.bin .eql (tq 62) (tq 65)),q0)])
 (.cond (tq 66)
 (.seq (.reg [oo 4 (.move (.const (.sc (.bool false))) false)])
 (.seq (.mask (bl 16 97) (bl 158456324986987472224222421951 97))
 .ret))
 .skip))))
 (.reg [oo 67 (.bin .add (tq 56) (.const (.sc (.int .i64 1)))),
   oo 56 (.move (tq 67) false)]))))
def zbl:CC:=(.seq (.reg [oo 68 (.fieldAddr 0 (tq 12)),
   oo 69 (.load false 1 (tq 68) false),
   oo 70 (.bin .eql (tq 69) (.const (.sc (.int .i64 3))))])
 (.cond (tq 70)
 (.reg [oo 71 (.move (tq 10) false),
   oo 72 (.bin .add (tq 71) (.const (.sc (.int .i64 1)))),
   oo 10 (.move (tq 72) false)])
 .skip))
def zbM:CC:=(.reg [oo 73 (.bin .add (tq 47) (.const (.sc (.int .i64 1)))),
   oo 47 (.move (tq 73) false)])
def zaI:CC:=(.seq (.reg [oo 48 (.bin .lss (tq 47) (tq 46))])
 (.seq (.cond (tq 48)
 .skip
 (.seq (.mask (bl 1408 97) (bl 158456324986987472224222422959 97))
 (.exit 0)))
 (.seq (.block 1 (.seq (.reg [oo 49 (.move (tq 47) false),
   oo 50 (.indexAddrS 4 (tq 45) (tq 47)),
   oo 51 (.load true 4 (tq 50) false),
   oo 12 (.alloc true [(.sc (.int .i64 0)),(.sc (.int .u32 0)),(.sc (.int .u16 0)),(.sc (.int .u32 0))]),
   oo 11 (.move (tq 49) false),
   oz (.store 4 (tq 12) (tq 51))])
 (.seq (.seq (.reg [oo 52 (.move (tq 8) false),
   oo 53 (.move (tq 11) false),
   oo 54 (.sliceS 4 (tq 52) none (some (tq 53)) none),
   oo 55 (.lenS (tq 54)),
   oo 56 (.move (.const (.sc (.int .i64 0))) false)])
 (.block 2 (.loop (bl 126347080171001216 97) (bl 158456324987023501021241393071 97)
 zar)))
 zbl)))
 zbM)))
def zcZ:CC:=(.seq (.dreg [] [(oo 74 (.move (tq 10) false),q0),
   (oo 75 (.bin .leq (tq 74) (.const (.sc (.int .i64 1)))),q0),
   (oo 76 (.move (tq 75) false),q0),
   (⟨(some 77),false,(some (76,true)),.move (tq 8) false⟩,q0),
   (⟨(some 78),false,(some (76,true)),.indexAddrS 4 (tq 77) (.const (.sc (.int .i64 0)))⟩,q0),
   (⟨(some 79),false,(some (76,true)),.fieldAddr 0 (tq 78)⟩,q0),
   (⟨(some 80),false,(some (76,true)),.load false 1 (tq 79) false⟩,q0),
   (⟨(some 81),false,(some (76,true)),.bin .eql (tq 80) (.const (.sc (.int .i64 1)))⟩,q0),
   (oo 82 (.pick (tq 76) (tq 81) (.const (.sc (.bool false)))),q0),
   (oo 83 (.move (tq 82) false),q0),
   (⟨(some 84),false,(some (83,true)),.move (tq 8) false⟩,q0),
   (⟨(some 85),false,(some (83,true)),.indexAddrS 4 (tq 84) (.const (.sc (.int .i64 0)))⟩,q0),
   (⟨(some 86),false,(some (83,true)),.fieldAddr 1 (tq 85)⟩,q0),
   (⟨(some 87),false,(some (83,true)),.load true 3 (tq 86) false⟩,q1),
   (⟨(some 88),false,(some (83,true)),.move (tq 7) false⟩,q0),
   (⟨(some 89),false,(some (83,true)),.indexAddrS 3 (tq 88) (.const (.sc (.int .i64 0)))⟩,q0),
   (⟨(some 90),false,(some (83,true)),.load true 3 (tq 89) false⟩,q1),
   (⟨(some 91),false,(some (83,true)),.eqAgg false 3 (tq 87) (tq 90)⟩,q0),
   (oo 92 (.pick (tq 83) (tq 91) (.const (.sc (.bool false)))),q0),
   (oo 93 (.move (tq 92) false),q0),
   (⟨(some 94),false,(some (93,true)),.move (tq 8) false⟩,q0),
   (⟨(some 95),false,(some (93,true)),.call 270 [((tq 94),0)] []⟩,q0),
   (oo 96 (.pick (tq 93) (tq 95) (.const (.sc (.bool false)))),q0),
   (oo 4 (.move (tq 96) false),q0)])
 .ret)
def za9:CF:=⟨97,[.tmp 4],
 (.seq (.reg [oo 4 (.move (.const (.sc (.bool false))) false)])
 (.seq (.seq (.reg [oo 15 (.call 259 [] []),
   oo 16 (.un .not (tq 15))])
 (.cond (tq 16)
 (.seq (.reg [oo 4 (.move (.const (.sc (.bool false))) false)])
 .ret)
 .skip))
 (.seq (.reg [oo 17 (.move (tq 0) false),
   oo 18 (.call 225 [((tq 17),0)] []),
   oo 5 (.move (tq 18) false)])
 (.seq (.reg [oo 19 (.move (tq 5) false),
   oo 20 (.call 260 [((tq 19),0)] []),
   oo 6 (.alloc true (rp 32 (.sc (.int .u8 0)) (rp 2 (.gs 5 []) []))),
   oz (.store 34 (tq 6) (tq 20))])
 (.seq (.reg [oo 21 (.move (tq 5) false),
   oo 22 (.call 262 [((tq 21),0)] []),
   oo 23 (.move (tq 5) false),
   oo 24 (.call 262 [((tq 23),0)] []),
   oo 25 (.buildSlice 3 2 [(.sc (.int .u32 0)),(.sc (.int .u16 0)),(.sc (.int .u32 0))] [(0,3,(tq 22)),(3,3,(tq 24))]),
   oo 7 (.move (tq 25) false)])
 (.seq (.reg [oo 27 (.load true 34 (tq 6) false),
   oo 28 (.move (tq 7) false),
   oo 29 (.move (tq 1) false),
   oo 30 (.call 268 [((tq 27),1),((tq 28),0),((tq 29),0)] []),
   oo 26 (.move (tq 30) true),
   oo 31 (.extract (tq 26) 0),
   oo 32 (.pull (tq 26) 1),
   oo 8 (.move (tq 31) true),
   oo 9 (.move (tq 32) false)])
 (.seq (.seq (.reg [oo 33 (.move (tq 9) false),
   oo 34 (.un .not (tq 33)),
   oo 35 (.move (tq 34) false),
   ⟨(some 36),false,(some (35,false)),.move (tq 8) false⟩,
   ⟨(some 37),false,(some (35,false)),.lenS (tq 36)⟩,
   ⟨(some 38),false,(some (35,false)),.bin .gtr (tq 37) (.const (.sc (.int .i64 8)))⟩,
   oo 39 (.pick (tq 35) (.const (.sc (.bool true))) (tq 38)),
   oo 40 (.move (tq 39) false),
   ⟨(some 41),false,(some (40,false)),.move (tq 8) false⟩,
   ⟨(some 42),false,(some (40,false)),.lenS (tq 41)⟩,
   ⟨(some 43),false,(some (40,false)),.bin .eql (tq 42) (.const (.sc (.int .i64 0)))⟩,
   oo 44 (.pick (tq 40) (.const (.sc (.bool true))) (tq 43))])
 (.cond (tq 44)
 (.seq (.reg [oo 4 (.move (.const (.sc (.bool false))) false)])
 .ret)
 .skip))
 (.seq (.reg [oo 10 (.move (.const (.sc (.int .i64 0))) false)])
 (.seq (.seq (.reg [oo 45 (.move (tq 8) false),
   oo 46 (.lenS (tq 45)),
   oo 47 (.move (.const (.sc (.int .i64 0))) false)])
 (.block 0 (.loop (bl 246290604623232 97) (bl 158456324986987472224222422959 97)
 zaI)))
 zcZ)))))))))⟩
def zlz:Hint:=⟨[(4,2),(6,4),(6,5),(6,7)],[],[none,none,none,none,none,some ((bl 246290604623232 97),(bl 158456324986987472224222422959 97)),none,some ((bl 1408 97),(bl 158456324986987472224222422959 97)),none,none,some ((bl 126347080171001216 97),(bl 158456324987023501021241393071 97)),none,some ((bl 246290604627328 97),(bl 158456324987023501021241393071 97)),none,none,some ((bl 16 97),(bl 158456324986987472224222421951 97)),none,none],[],[],false,false⟩
def zE:Nat→Sh:=zV [(80,(.int .i64)),(69,(.int .i64))]
def yE (yb:zm) (xb:zn) (zc:xo) (xc:yt) (yg:yJ) (xd:zz) (zb:yn) (L:Nat):CBC:=(xA 269 (zcR zb L) (xA 270 (zgm xd L) (xA 268 (zmf yg L) (xA 262 (zk4 xc L) (xA 260 (zje zc L) (xA 225 (ziN xb L) (xA 259 (zhJ yb L) noC)))))))
def yY:St→St:=zaE 0 (bl 246290604623232 97) (bl 158456324986987472224222422959 97)
def za7:St→St:=zaE 0 (bl 126347080171001216 97) (bl 158456324987023501021241393071 97)
def zaw (p7 p8:List (List V)) (p10:Int) (p45:List (List V)) (p46 p47:Int) (zNj:List (List V)) (zNk:Int):St:=⟨(jn 7 ((V.sl 3 p7)::((V.gs 4 p8)::(jn 1 ((V.sc (.int .i64 p10))::(jn 34 ((V.sl 4 p45)::((V.sc (.int .i64 p46))::((V.sc (.int .i64 p47))::(jn 49 [])))))))))),(gn 18 ((.live false [(V.sl 1 zNj),(V.sc (.int .i64 zNk))])::(gn 78 [])))⟩
def zaU (p7 p8:List (List V)) (p10:Int) (p45:List (List V)) (p46 p47:Int) (p54:List (List V)) (p55 p56:Int) (b12:List V) (zNj:List (List V)) (zNk:Int):St:=⟨(jn 7 ((V.sl 3 p7)::((V.gs 4 p8)::(jn 1 ((V.sc (.int .i64 p10))::(jn 1 ((V.ptr 12 0)::(jn 32 ((V.sl 4 p45)::((V.sc (.int .i64 p46))::((V.sc (.int .i64 p47))::(jn 6 ((V.sl 4 p54)::((V.sc (.int .i64 p55))::((V.sc (.int .i64 p56))::(jn 40 [])))))))))))))))),(gn 12 ((.live true b12)::(gn 5 ((.live false [(V.sl 1 zNj),(V.sc (.int .i64 zNk))])::(gn 78 [])))))⟩
def zen (p7 p8:List (List V)) (p10:Int) (zNj:List (List V)) (zNk:Int):St:=⟨(jn 7 ((V.sl 3 p7)::((V.gs 4 p8)::(jn 1 ((V.sc (.int .i64 p10))::(jn 86 [])))))),(gn 18 ((.live false [(V.sl 1 zNj),(V.sc (.int .i64 zNk))])::(gn 78 [])))⟩
def za0 (p4:Bool) (zNj:List (List V)) (zNk:Int):St:=⟨(jn 4 ((V.sc (.bool p4))::(jn 92 []))),(gn 18 ((.live false [(V.sl 1 zNj),(V.sc (.int .i64 zNk))])::(gn 78 [])))⟩
def zgy (p7 p8:List (List V)) (p10:Int) (p45:List (List V)) (p46 p47:Int) (b12:List V) (zNj:List (List V)) (zNk:Int):St:=⟨(jn 7 ((V.sl 3 p7)::((V.gs 4 p8)::(jn 1 ((V.sc (.int .i64 p10))::(jn 1 ((V.ptr 12 0)::(jn 32 ((V.sl 4 p45)::((V.sc (.int .i64 p46))::((V.sc (.int .i64 p47))::(jn 49 [])))))))))))),(gn 12 ((.live true b12)::(gn 5 ((.live false [(V.sl 1 zNj),(V.sc (.int .i64 zNk))])::(gn 78 [])))))⟩
abbrev zdV (β:Type):Type:=List (List V)→List (List V)→Int→List (List V)→Int→Int→List (List V)→Int→Option β
abbrev zes (β:Type):Type:=List (List V)→List (List V)→Int→List (List V)→Int→Int→List (List V)→Int→Int→List V→List (List V)→Int→Option β
abbrev zhv (β:Type):Type:=List (List V)→List (List V)→Int→List (List V)→Int→Option β
abbrev zm8 (β:Type):Type:=List (List V)→List (List V)→Int→List (List V)→Int→Int→List V→List (List V)→Int→Option β
def zop {β:Type} (yb:zm) (xb:zn) (zc:xo) (xc:yt) (yg:yJ) (xd:zz) (zb:yn) (L:Nat) (p0 p1:List (List V)) (k_fin:Bool→Option β) (k_hbbbbbbbbaba:zdV β):Option β :=
 yb β L  (fun v0 =>
 ifb (!v0) (
 k_fin false) (
 xb β L p0 (fun v1 v2 =>
 zc β L v1 v2 (fun v3 v4 v5 =>
 chk ((List.length v3)=34∧0+34≤34) (
 lt (yk (List.replicate 32 (V.sc (.int .u8 (0:Int)))++[(V.gs 5 ([]:List (List V))),(V.gs 5 ([]:List (List V)))]) 0 v3) fun r6 =>
 xc β L v4 v5 (fun v7 v8 v9 =>
 xc β L v8 v9 (fun v10 v11 v12 =>
 chk ((List.length v7)=3∧0+3≤6) (
 chk ((List.length v10)=3∧3+3≤(List.length (yk [(V.sc (.int .u32 (0:Int))),(V.sc (.int .u16 (0:Int))),(V.sc (.int .u32 (0:Int))),(V.sc (.int .u32 (0:Int))),(V.sc (.int .u16 (0:Int))),(V.sc (.int .u32 (0:Int)))] 0 v7))) (
 chk (0+34≤(List.length r6)) (
 yg β L (List.map V.dem (List.take 34 r6)) (zp 3 2 (yk (yk [(V.sc (.int .u32 (0:Int))),(V.sc (.int .u16 (0:Int))),(V.sc (.int .u32 (0:Int))),(V.sc (.int .u32 (0:Int))),(V.sc (.int .u16 (0:Int))),(V.sc (.int .u32 (0:Int)))] 0 v7) 3 v10)) p1 (fun v13 v14 =>
 ifb (!v14) (
 k_fin false) (
 ifb (decide (((List.length v13:Nat):Int) > (8:Int))) (
 k_fin false) (
 ifb ((((List.length v13:Nat):Int):Int) == (0:Int)) (
 k_fin false) (
 k_hbbbbbbbbaba (zp 3 2 (yk (yk [(V.sc (.int .u32 (0:Int))),(V.sc (.int .u16 (0:Int))),(V.sc (.int .u32 (0:Int))),(V.sc (.int .u32 (0:Int))),(V.sc (.int .u16 (0:Int))),(V.sc (.int .u32 (0:Int)))] 0 v7) 3 v10)) v13 (0:Int) v13 ((List.length v13:Nat):Int) (0:Int) v11 v12))))))))))))))
theorem ztB {β:Type} (yb:zm) (xb:zn) (zc:xo) (xc:yt) (yg:yJ) (xd:zz) (zb:yn) (L:Nat) (p0 p1:List (List V)) (k:KK β):xr zE (yE yb xb zc xc yg xd zb L) L za9 [(V.sl 1 p0),(V.sl 1 p1)] [] k=zop yb xb zc xc yg xd zb L p0 p1 (fun p0=>k (V.sc (.bool p0)) []) (fun p7 p8 p10 p45 p46 p47 zNj zNk=>xy (yj zE (yE yb xb zc xc yg xd zb L) 0 L zaI) yY L (zaw p7 p8 p10 p45 p46 p47 zNj zNk) (zx 0 (yI (yj zE (yE yb xb zc xc yg xd zb L) 0 L zcZ) (zN 0 (CF.res za9) k)))):=by kernel_rfl
def zhg {β:Type} (yb:zm) (xb:zn) (zc:xo) (xc:yt) (yg:yJ) (xd:zz) (zb:yn) (L:Nat) (p7 p8:List (List V)) (p10:Int) (p45:List (List V)) (p46 p47:Int) (zNj:List (List V)) (zNk:Int) (k_hbbbbbbbbabaabbaababa:zes β) (k_x0:zhv β):Option β :=
 ifb (decide (p47 < p46)) (
 idx p45 p47 fun c15 =>
 chk ((List.length (List.take 4 c15))=4∧0+4≤4) (
 lt (yk [(V.sc (.int .i64 (0:Int))),(V.sc (.int .u32 (0:Int))),(V.sc (.int .u16 (0:Int))),(V.sc (.int .u32 (0:Int)))] 0 (List.take 4 c15)) fun r16 =>
 chk (0≤p47∧p47≤(((List.length p8):Nat):Int)) (
 k_hbbbbbbbbabaabbaababa p7 p8 p10 p45 p46 p47 (List.take ((Int.toNat p47) - 0) (List.drop 0 p8)) ((List.length (List.take ((Int.toNat p47) - 0) (List.drop 0 p8)):Nat):Int) (0:Int) r16 zNj zNk))) (
 k_x0 p7 p8 p10 zNj zNk)
theorem zmL {β:Type} (yb:zm) (xb:zn) (zc:xo) (xc:yt) (yg:yJ) (xd:zz) (zb:yn) (L:Nat) (p7 p8:List (List V)) (p10:Int) (p45:List (List V)) (p46 p47:Int) (zNj:List (List V)) (zNk:Int) (X:St→Option β) (K:KT β):yj zE (yE yb xb zc xc yg xd zb L) 0 L zaI (zaw p7 p8 p10 p45 p46 p47 zNj zNk) (zaz yY X K)=zhg yb xb zc xc yg xd zb L p7 p8 p10 p45 p46 p47 zNj zNk (fun p7 p8 p10 p45 p46 p47 p54 p55 p56 b12 zNj zNk=>xy (yj zE (yE yb xb zc xc yg xd zb L) 0 L zar) za7 L (zaU p7 p8 p10 p45 p46 p47 p54 p55 p56 b12 zNj zNk) (zx 2 (yI (yj zE (yE yb xb zc xc yg xd zb L) 0 L zbl) (zx 1 (yI (yj zE (yE yb xb zc xc yg xd zb L) 0 L zbM) (zaz yY X K)))))) (fun p7 p8 p10 zNj zNk=>K (.exit 0) (zen p7 p8 p10 zNj zNk)):=by kernel_rfl
def zgk {β:Type} (yb:zm) (xb:zn) (zc:xo) (xc:yt) (yg:yJ) (xd:zz) (zb:yn) (L:Nat) (p7 p8:List (List V)) (p10:Int) (zNj:List (List V)) (zNk:Int) (k_fin:Bool→Option β):Option β :=
 ifb (decide (p10≤(1:Int))) (
 idx p8 (0:Int) fun c17 =>
 cI .i64 c17 0 fun v18 =>
 ifb ((v18:Int) == (1:Int)) (
 idx p8 (0:Int) fun c19 =>
 idx p7 (0:Int) fun c20 =>
 eqC 3 (List.take 3 (List.drop 1 c19)) (List.take 3 c20) fun v21 =>
 ifb v21 (
 xd β L p8 (fun v22 =>
 k_fin v22)) (
 k_fin false)) (
 k_fin false)) (
 k_fin false)
theorem zlr {β:Type} (yb:zm) (xb:zn) (zc:xo) (xc:yt) (yg:yJ) (xd:zz) (zb:yn) (L:Nat) (p7 p8:List (List V)) (p10:Int) (zNj:List (List V)) (zNk:Int) (k:KK β):(zx 0 (yI (yj zE (yE yb xb zc xc yg xd zb L) 0 L zcZ) (zN 0 (CF.res za9) k))) (.exit 0) (zen p7 p8 p10 zNj zNk)=zgk yb xb zc xc yg xd zb L p7 p8 p10 zNj zNk (fun p0=>k (V.sc (.bool p0)) []):=by kernel_rfl
def zeF {β:Type} (yb:zm) (xb:zn) (zc:xo) (xc:yt) (yg:yJ) (xd:zz) (zb:yn) (L:Nat) (p7 p8:List (List V)) (p10:Int) (p45:List (List V)) (p46 p47:Int) (p54:List (List V)) (p55 p56:Int) (b12:List V) (zNj:List (List V)) (zNk:Int) (k_ret:Bool→List (List V)→Int→Option β) (k_hbbbbbbbbabaabbaababa:zes β) (k_x2:zm8 β):Option β :=
 ifb (decide (p56 < p55)) (
 idx p54 p56 fun c23 =>
 chk ((List.length (List.take 4 c23))=4∧0+4≤4) (
 lt (yk [(V.sc (.int .i64 (0:Int))),(V.sc (.int .u32 (0:Int))),(V.sc (.int .u16 (0:Int))),(V.sc (.int .u32 (0:Int)))] 0 (List.take 4 c23)) fun r24 =>
 chk (1+3≤(List.length b12)) (
 zb β L (List.take 3 (List.drop 1 b12)) (fun v25 =>
 chk (1+3≤(List.length r24)) (
 zb β L (List.take 3 (List.drop 1 r24)) (fun v26 =>
 ifb ((v25:Int) == v26) (
 k_ret false zNj zNk) (
 lt (IntKind.wrap .i64 ((p56:Int)+(1:Int))) fun x27 =>
 k_hbbbbbbbbabaabbaababa p7 p8 p10 p45 p46 p47 p54 p55 x27 b12 zNj zNk))))))) (
 k_x2 p7 p8 p10 p45 p46 p47 b12 zNj zNk)
theorem ziK {β:Type} (yb:zm) (xb:zn) (zc:xo) (xc:yt) (yg:yJ) (xd:zz) (zb:yn) (L:Nat) (p7 p8:List (List V)) (p10:Int) (p45:List (List V)) (p46 p47:Int) (p54:List (List V)) (p55 p56:Int) (b12:List V) (zNj:List (List V)) (zNk:Int) (X:St→Option β) (K:KT β):yj zE (yE yb xb zc xc yg xd zb L) 0 L zar (zaU p7 p8 p10 p45 p46 p47 p54 p55 p56 b12 zNj zNk) (zaz za7 X K)=zeF yb xb zc xc yg xd zb L p7 p8 p10 p45 p46 p47 p54 p55 p56 b12 zNj zNk (fun p4 zNj zNk=>K .ret (za0 p4 zNj zNk)) (fun p7 p8 p10 p45 p46 p47 p54 p55 p56 b12 zNj zNk=>X (zaU p7 p8 p10 p45 p46 p47 p54 p55 p56 b12 zNj zNk)) (fun p7 p8 p10 p45 p46 p47 b12 zNj zNk=>K (.exit 2) (zgy p7 p8 p10 p45 p46 p47 b12 zNj zNk)):=by kernel_rfl
def zd1 {β:Type} (yb:zm) (xb:zn) (zc:xo) (xc:yt) (yg:yJ) (xd:zz) (zb:yn) (L:Nat) (p4:Bool) (zNj:List (List V)) (zNk:Int) (k_ret:Bool→List (List V)→Int→Option β):Option β :=
 k_ret p4 zNj zNk
theorem zhF {β:Type} (yb:zm) (xb:zn) (zc:xo) (xc:yt) (yg:yJ) (xd:zz) (zb:yn) (L:Nat) (p4:Bool) (zNj:List (List V)) (zNk:Int) (X:St→Option β) (K:KT β):(zx 2 (yI (yj zE (yE yb xb zc xc yg xd zb L) 0 L zbl) (zx 1 (yI (yj zE (yE yb xb zc xc yg xd zb L) 0 L zbM) (zaz yY X K))))) .ret (za0 p4 zNj zNk)=zd1 yb xb zc xc yg xd zb L p4 zNj zNk (fun p4 zNj zNk=>K .ret (za0 p4 zNj zNk)):=by kernel_rfl
def zek {β:Type} (yb:zm) (xb:zn) (zc:xo) (xc:yt) (yg:yJ) (xd:zz) (zb:yn) (L:Nat) (p7 p8:List (List V)) (p10:Int) (p45:List (List V)) (p46 p47:Int) (b12:List V) (zNj:List (List V)) (zNk:Int) (k_hbbbbbbbbaba:zdV β):Option β :=
 cI .i64 b12 0 fun v28 =>
 ifb ((v28:Int) == (3:Int)) (
 lt (IntKind.wrap .i64 ((p10:Int)+(1:Int))) fun x29 =>
 lt (IntKind.wrap .i64 ((p47:Int)+(1:Int))) fun x30 =>
 k_hbbbbbbbbaba p7 p8 x29 p45 p46 x30 zNj zNk) (
 lt (IntKind.wrap .i64 ((p47:Int)+(1:Int))) fun x31 =>
 k_hbbbbbbbbaba p7 p8 p10 p45 p46 x31 zNj zNk)
theorem zh1 {β:Type} (yb:zm) (xb:zn) (zc:xo) (xc:yt) (yg:yJ) (xd:zz) (zb:yn) (L:Nat) (p7 p8:List (List V)) (p10:Int) (p45:List (List V)) (p46 p47:Int) (b12:List V) (zNj:List (List V)) (zNk:Int) (X:St→Option β) (K:KT β):(zx 2 (yI (yj zE (yE yb xb zc xc yg xd zb L) 0 L zbl) (zx 1 (yI (yj zE (yE yb xb zc xc yg xd zb L) 0 L zbM) (zaz yY X K))))) (.exit 2) (zgy p7 p8 p10 p45 p46 p47 b12 zNj zNk)=zek yb xb zc xc yg xd zb L p7 p8 p10 p45 p46 p47 b12 zNj zNk (fun p7 p8 p10 p45 p46 p47 zNj zNk=>X (zaw p7 p8 p10 p45 p46 p47 zNj zNk)):=by kernel_rfl
def zf2 {β:Type} (yb:zm) (xb:zn) (zc:xo) (xc:yt) (yg:yJ) (xd:zz) (zb:yn) (L:Nat) (p4:Bool) (zNj:List (List V)) (zNk:Int) (k_fin:Bool→Option β):Option β :=
 k_fin p4
theorem zkT {β:Type} (yb:zm) (xb:zn) (zc:xo) (xc:yt) (yg:yJ) (xd:zz) (zb:yn) (L:Nat) (p4:Bool) (zNj:List (List V)) (zNk:Int) (k:KK β):(zx 0 (yI (yj zE (yE yb xb zc xc yg xd zb L) 0 L zcZ) (zN 0 (CF.res za9) k))) .ret (za0 p4 zNj zNk)=zf2 yb xb zc xc yg xd zb L p4 zNj zNk (fun p0=>k (V.sc (.bool p0)) []):=by kernel_rfl
def zci {β:Type} (yb:zm) (xb:zn) (zc:xo) (xc:yt) (yg:yJ) (xd:zz) (zb:yn) (L:Nat) (k_ret:Bool→List (List V)→Int→Option β) (k_x2:zm8 β):Nat→List (List V)→List (List V)→Int→List (List V)→Int→Int→List (List V)→Int→Int→List V→List (List V)→Int→Option β
 | 0,_,_,_,_,_,_,_,_,_,_,_,_=>none
 | n+1,p7,p8,p10,p45,p46,p47,p54,p55,p56,b12,zNj,zNk=>zeF yb xb zc xc yg xd zb L p7 p8 p10 p45 p46 p47 p54 p55 p56 b12 zNj zNk k_ret (fun p7 p8 p10 p45 p46 p47 p54 p55 p56 b12 zNj zNk=>zci yb xb zc xc yg xd zb L k_ret k_x2 n p7 p8 p10 p45 p46 p47 p54 p55 p56 b12 zNj zNk) k_x2
theorem zd4 {β:Type} (yb:zm) (xb:zn) (zc:xo) (xc:yt) (yg:yJ) (xd:zz) (zb:yn) (L:Nat) (K:KT β):∀ (n:Nat) (p7 p8:List (List V)) (p10:Int) (p45:List (List V)) (p46 p47:Int) (p54:List (List V)) (p55 p56:Int) (b12:List V) (zNj:List (List V)) (zNk:Int),xy (yj zE (yE yb xb zc xc yg xd zb L) 0 L zar) za7 n (zaU p7 p8 p10 p45 p46 p47 p54 p55 p56 b12 zNj zNk) K=zci yb xb zc xc yg xd zb L (fun p4 zNj zNk=>K .ret (za0 p4 zNj zNk)) (fun p7 p8 p10 p45 p46 p47 b12 zNj zNk=>K (.exit 2) (zgy p7 p8 p10 p45 p46 p47 b12 zNj zNk)) n p7 p8 p10 p45 p46 p47 p54 p55 p56 b12 zNj zNk:=by
 intro n
 induction n with
 | zero=>intros; rfl
 | succ n ih =>
  intro p7 p8 p10 p45 p46 p47 p54 p55 p56 b12 zNj zNk
  refine (ziK yb xb zc xc yg xd zb L p7 p8 p10 p45 p46 p47 p54 p55 p56 b12 zNj zNk (fun σ=>xy (yj zE (yE yb xb zc xc yg xd zb L) 0 L zar) za7 n σ K) K).trans ?_
  simp only [ih]
  rfl
def zdT {β:Type} (yb:zm) (xb:zn) (zc:xo) (xc:yt) (yg:yJ) (xd:zz) (zb:yn) (L:Nat) (p7 p8:List (List V)) (p10:Int) (p45:List (List V)) (p46 p47:Int) (zNj:List (List V)) (zNk:Int) (k_x0:zhv β) (k_ret:Bool→List (List V)→Int→Option β) (k_hbbbbbbbbaba:zdV β):Option β :=
 zhg yb xb zc xc yg xd zb L p7 p8 p10 p45 p46 p47 zNj zNk (fun p7 p8 p10 p45 p46 p47 p54 p55 p56 b12 zNj zNk=>zci yb xb zc xc yg xd zb L (fun p4 zNj zNk=>zd1 yb xb zc xc yg xd zb L p4 zNj zNk k_ret) (fun p7 p8 p10 p45 p46 p47 b12 zNj zNk=>zek yb xb zc xc yg xd zb L p7 p8 p10 p45 p46 p47 b12 zNj zNk k_hbbbbbbbbaba) L p7 p8 p10 p45 p46 p47 p54 p55 p56 b12 zNj zNk) k_x0
theorem zl4 {β:Type} (yb:zm) (xb:zn) (zc:xo) (xc:yt) (yg:yJ) (xd:zz) (zb:yn) (L:Nat) (p7 p8:List (List V)) (p10:Int) (p45:List (List V)) (p46 p47:Int) (zNj:List (List V)) (zNk:Int) (X:St→Option β) (K:KT β):yj zE (yE yb xb zc xc yg xd zb L) 0 L zaI (zaw p7 p8 p10 p45 p46 p47 zNj zNk) (zaz yY X K)=zdT yb xb zc xc yg xd zb L p7 p8 p10 p45 p46 p47 zNj zNk (fun p7 p8 p10 zNj zNk=>K (.exit 0) (zen p7 p8 p10 zNj zNk)) (fun p4 zNj zNk=>K .ret (za0 p4 zNj zNk)) (fun p7 p8 p10 p45 p46 p47 zNj zNk=>X (zaw p7 p8 p10 p45 p46 p47 zNj zNk)):=by
 refine (zmL yb xb zc xc yg xd zb L p7 p8 p10 p45 p46 p47 zNj zNk X K).trans ?_
 unfold zdT
 first
  | (simp only [zd4,zhF,zh1]; done)
  | (simp only [zd4]; rfl)
def zee {β:Type} (yb:zm) (xb:zn) (zc:xo) (xc:yt) (yg:yJ) (xd:zz) (zb:yn) (L:Nat) (k_x0:zhv β) (k_ret:Bool→List (List V)→Int→Option β):Nat→List (List V)→List (List V)→Int→List (List V)→Int→Int→List (List V)→Int→Option β
 | 0,_,_,_,_,_,_,_,_=>none
 | n+1,p7,p8,p10,p45,p46,p47,zNj,zNk=>zdT yb xb zc xc yg xd zb L p7 p8 p10 p45 p46 p47 zNj zNk k_x0 k_ret (fun p7 p8 p10 p45 p46 p47 zNj zNk=>zee yb xb zc xc yg xd zb L k_x0 k_ret n p7 p8 p10 p45 p46 p47 zNj zNk)
theorem zfY {β:Type} (yb:zm) (xb:zn) (zc:xo) (xc:yt) (yg:yJ) (xd:zz) (zb:yn) (L:Nat) (K:KT β):∀ (n:Nat) (p7 p8:List (List V)) (p10:Int) (p45:List (List V)) (p46 p47:Int) (zNj:List (List V)) (zNk:Int),xy (yj zE (yE yb xb zc xc yg xd zb L) 0 L zaI) yY n (zaw p7 p8 p10 p45 p46 p47 zNj zNk) K=zee yb xb zc xc yg xd zb L (fun p7 p8 p10 zNj zNk=>K (.exit 0) (zen p7 p8 p10 zNj zNk)) (fun p4 zNj zNk=>K .ret (za0 p4 zNj zNk)) n p7 p8 p10 p45 p46 p47 zNj zNk:=by
 intro n
 induction n with
 | zero=>intros; rfl
 | succ n ih =>
  intro p7 p8 p10 p45 p46 p47 zNj zNk
  refine (zl4 yb xb zc xc yg xd zb L p7 p8 p10 p45 p46 p47 zNj zNk (fun σ=>xy (yj zE (yE yb xb zc xc yg xd zb L) 0 L zaI) yY n σ K) K).trans ?_
  simp only [ih]
  rfl
def zi6 {β:Type} (yb:zm) (xb:zn) (zc:xo) (xc:yt) (yg:yJ) (xd:zz) (zb:yn) (L:Nat) (p0 p1:List (List V)) (k_fin:Bool→Option β):Option β :=
 zop yb xb zc xc yg xd zb L p0 p1 k_fin (fun p7 p8 p10 p45 p46 p47 zNj zNk=>zee yb xb zc xc yg xd zb L (fun p7 p8 p10 zNj zNk=>zgk yb xb zc xc yg xd zb L p7 p8 p10 zNj zNk k_fin) (fun p4 zNj zNk=>zf2 yb xb zc xc yg xd zb L p4 zNj zNk k_fin) L p7 p8 p10 p45 p46 p47 zNj zNk)
theorem ztN {β:Type} (yb:zm) (xb:zn) (zc:xo) (xc:yt) (yg:yJ) (xd:zz) (zb:yn) (L:Nat) (p0 p1:List (List V)) (k:KK β):xr zE (yE yb xb zc xc yg xd zb L) L za9 [(V.sl 1 p0),(V.sl 1 p1)] [] k=zi6 yb xb zc xc yg xd zb L p0 p1 (fun p0=>k (V.sc (.bool p0)) []):=by
 refine (ztB yb xb zc xc yg xd zb L p0 p1 k).trans ?_
 unfold zi6
 first
  | (simp only [zfY,zlr,zkT]; done)
  | (simp only [zfY]; rfl)
abbrev zwl:=∀ (β:Type),Nat→List (List V)→List (List V)→(Bool→Option β)→Option β
def zfC (β:Type) (L:Nat) (p0 p1:List (List V)) (k_fin:Bool→Option β):Option β:=zi6 yb xb zc xc yg xd zb L p0 p1 k_fin
def ziV (zfC:zwl) (L:Nat) (β:Type) (args:List V) (bor:Bor) (k:KK β):Option β:=match args,bor with
 | [a0,a1],[]=>aL 1 a0 fun p0=>aL 1 a1 fun p1=>zfC β L p0 p1 (fun p0=>k (V.sc (.bool p0)) [])
 | _,_=>none
theorem zt7 (L:Nat) (β:Type) (args:List V) (bor:Bor) (k:KK β) (r:β) (h:ziV zfC L β args bor k=some r):xr zE (yE yb xb zc xc yg xd zb L) L za9 args bor k=some r:=by
 unfold ziV at h
 split at h
 ·have q:=xP h; clear h; obtain ⟨p0,rfl,h⟩:=q
  have q:=xP h; clear h; obtain ⟨p1,rfl,h⟩:=q
  exact (ztN yb xb zc xc yg xd zb L p0 p1 k).trans h
 ·cases h
def zb4:CC:=(.seq (.reg [oo 26 (.bin .lss (tq 25) (tq 24))])
 (.seq (.cond (tq 26)
 .skip
 (.seq (.mask (bl 3840 81) (bl 2417851350435691726081983 81))
 (.exit 0)))
 (.seq (.block 1 (.seq (.reg [oo 27 (.move (tq 25) false),
   oo 12 (.move (tq 27) false)])
 (.seq (.reg [oo 29 (.load true 34 (tq 8) false),
   oo 30 (.move (tq 1) false),
   oo 31 (.bin .rem (tq 30) (.const (.sc (.int .u64 1152921504606846976)))),
   oo 32 (.move (tq 12) false),
   oo 33 (.conv .u64 (tq 32)),
   oo 34 (.bin .add (tq 31) (tq 33)),
   oo 35 (.call 263 [((tq 29),1),((.const (.gs 3 [])),0),((.const (.gs 4 [])),0),((tq 34),0)] []),
   oo 28 (.move (tq 35) true),
   oo 36 (.pull (tq 28) 0),
   oo 37 (.pull (tq 28) 1),
   oo 13 (.alloc true [(.sc (.int .i64 0)),(.sc (.int .u32 0)),(.sc (.int .u16 0)),(.sc (.int .u32 0))]),
   oz (.store 4 (tq 13) (tq 36)),
   oo 14 (.move (tq 37) false)])
 (.seq (.seq (.reg [oo 38 (.move (tq 14) false),
   oo 39 (.bin .neq (tq 38) (.const (.sc (.int .i64 0)))),
   oo 40 (.move (tq 39) false),
   ⟨(some 41),false,(some (40,false)),.fieldAddr 0 (tq 13)⟩,
   ⟨(some 42),false,(some (40,false)),.load false 1 (tq 41) false⟩,
   ⟨(some 43),false,(some (40,false)),.bin .neq (tq 42) (.const (.sc (.int .i64 2)))⟩,
   oo 44 (.pick (tq 40) (.const (.sc (.bool true))) (tq 43))])
 (.cond (tq 44)
 (.seq (.reg [oo 6 (.move (.const (.sc (.bool false))) false)])
 (.seq (.mask (bl 64 81) (bl 2417851350435691726078719 81))
 .ret))
 .skip))
 (.seq (.seq (.reg [oo 45 (.move (tq 9) false),
   oo 46 (.move (tq 12) false),
   oo 47 (.indexAddrS 3 (tq 45) (tq 46)),
   oo 48 (.load true 3 (tq 47) false),
   oo 49 (.call 269 [((tq 48),0)] []),
   oo 50 (.bin .rem (tq 49) (.const (.sc (.int .u32 3)))),
   oo 51 (.move (tq 2) false),
   oo 52 (.bin .rem (tq 51) (.const (.sc (.int .u32 3)))),
   oo 53 (.bin .eql (tq 50) (tq 52))])
 (.cond (tq 53)
 (.reg [oo 54 (.move (tq 10) false),
   oo 55 (.bin .add (tq 54) (.const (.sc (.int .i64 1)))),
   oo 10 (.move (tq 55) false)])
 .skip))
 (.seq (.reg [oo 56 (.fieldAddr 1 (tq 13)),
   oo 57 (.load true 3 (tq 56) false),
   oo 58 (.call 269 [((tq 57),0)] []),
   oo 59 (.bin .rem (tq 58) (.const (.sc (.int .u32 3)))),
   oo 60 (.move (tq 2) false),
   oo 61 (.bin .rem (tq 60) (.const (.sc (.int .u32 3)))),
   oo 62 (.bin .eql (tq 59) (tq 61))])
 (.cond (tq 62)
 (.reg [oo 63 (.move (tq 11) false),
   oo 64 (.bin .add (tq 63) (.const (.sc (.int .i64 1)))),
   oo 11 (.move (tq 64) false)])
 .skip)))))))
 (.reg [oo 65 (.bin .add (tq 25) (.const (.sc (.int .i64 1)))),
   oo 25 (.move (tq 65) false)]))))
def zem:CC:=(.seq (.reg [oo 66 (.move (tq 10) false),
   oo 67 (.move (tq 11) false),
   oo 68 (.bin .eql (tq 66) (tq 67)),
   oo 69 (.move (tq 68) false),
   ⟨(some 70),false,(some (69,true)),.move (tq 9) false⟩,
   ⟨(some 71),false,(some (69,true)),.lenS (tq 70)⟩,
   ⟨(some 72),false,(some (69,true)),.fieldAddr 32 (tq 8)⟩,
   ⟨(some 73),false,(some (69,true)),.load false 1 (tq 72) false⟩,
   ⟨(some 74),false,(some (69,true)),.lenS (tq 73)⟩,
   ⟨(some 75),false,(some (69,true)),.fieldAddr 33 (tq 8)⟩,
   ⟨(some 76),false,(some (69,true)),.load false 1 (tq 75) false⟩,
   ⟨(some 77),false,(some (69,true)),.lenS (tq 76)⟩,
   ⟨(some 78),false,(some (69,true)),.bin .add (tq 74) (tq 77)⟩,
   ⟨(some 79),false,(some (69,true)),.bin .eql (tq 71) (tq 78)⟩,
   oo 80 (.pick (tq 69) (tq 79) (.const (.sc (.bool false)))),
   oo 6 (.move (tq 80) false)])
 .ret)
def zbU:CF:=⟨81,[.tmp 6],
 (.seq (.reg [oo 6 (.move (.const (.sc (.bool false))) false)])
 (.seq (.seq (.reg [oo 15 (.call 259 [] []),
   oo 16 (.un .not (tq 15))])
 (.cond (tq 16)
 (.seq (.reg [oo 6 (.move (.const (.sc (.bool false))) false)])
 .ret)
 .skip))
 (.seq (.reg [oo 17 (.move (tq 0) false),
   oo 18 (.call 225 [((tq 17),0)] []),
   oo 7 (.move (tq 18) false)])
 (.seq (.reg [oo 19 (.move (tq 7) false),
   oo 20 (.call 260 [((tq 19),0)] []),
   oo 8 (.alloc true (rp 32 (.sc (.int .u8 0)) (rp 2 (.gs 5 []) []))),
   oz (.store 34 (tq 8) (tq 20))])
 (.seq (.reg [oo 21 (.load true 34 (tq 8) false),
   oo 22 (.call 266 [((tq 21),1),((.const (.gs 4 [])),0),((.const (.sc (.int .i64 2))),0)] []),
   oo 9 (.move (tq 22) false)])
 (.seq (.reg [oo 10 (.move (.const (.sc (.int .i64 0))) false),
   oo 11 (.move (.const (.sc (.int .i64 0))) false)])
 (.seq (.seq (.reg [oo 23 (.move (tq 9) false),
   oo 24 (.lenS (tq 23)),
   oo 25 (.move (.const (.sc (.int .i64 0))) false)])
 (.block 0 (.loop (bl 50335494 81) (bl 2417851350435691726081983 81)
 zb4)))
 zem)))))))⟩
def zoo:Hint:=⟨[(4,2),(10,7)],[],[none,none,none,some ((bl 50335494 81),(bl 2417851350435691726081983 81)),none,some ((bl 3840 81),(bl 2417851350435691726081983 81)),none,none,some ((bl 64 81),(bl 2417851350435691726078719 81)),none,none,none],[],[],false,false⟩
def zaF:Nat→Sh:=zV [(42,(.int .i64)),(73,(.sl 5)),(76,(.sl 5))]
def zaG (yb:zm) (xb:zn) (zc:xo) (ya:zj) (xa:yl) (zb:yn) (L:Nat):CBC:=(xA 269 (zcR zb L) (xA 263 (zev xa L) (xA 266 (zdG ya L) (xA 260 (zje zc L) (xA 225 (ziN xb L) (xA 259 (zhJ yb L) noC))))))
def zdF:St→St:=zaE 0 (bl 50335494 81) (bl 2417851350435691726081983 81)
def zc0 (p1 p2:Int) (p9:List (List V)) (p10 p11 p24 p25:Int) (b8:List V) (zNj:List (List V)) (zNk:Int):St:=⟨(jn 1 ((V.sc (.int .u64 p1))::((V.sc (.int .u32 p2))::(jn 5 ((V.ptr 8 0)::((V.sl 3 p9)::((V.sc (.int .i64 p10))::((V.sc (.int .i64 p11))::(jn 12 ((V.sc (.int .i64 p24))::((V.sc (.int .i64 p25))::(jn 55 [])))))))))))),(gn 8 ((.live true b8)::(gn 9 ((.live false [(V.sl 1 zNj),(V.sc (.int .i64 zNk))])::(gn 62 [])))))⟩
def zhp (p6:Bool) (zNj:List (List V)) (zNk:Int):St:=⟨(jn 6 ((V.sc (.bool p6))::(jn 74 []))),(gn 18 ((.live false [(V.sl 1 zNj),(V.sc (.int .i64 zNk))])::(gn 62 [])))⟩
def zh8 (p9:List (List V)) (p10 p11:Int) (b8:List V) (zNj:List (List V)) (zNk:Int):St:=⟨(jn 8 ((V.ptr 8 0)::((V.sl 3 p9)::((V.sc (.int .i64 p10))::((V.sc (.int .i64 p11))::(jn 69 [])))))),(gn 8 ((.live true b8)::(gn 9 ((.live false [(V.sl 1 zNj),(V.sc (.int .i64 zNk))])::(gn 62 [])))))⟩
abbrev zjf (β:Type):Type:=Int→Int→List (List V)→Int→Int→Int→Int→List V→List (List V)→Int→Option β
abbrev zpn (β:Type):Type:=List (List V)→Int→Int→List V→List (List V)→Int→Option β
def zrx {β:Type} (yb:zm) (xb:zn) (zc:xo) (ya:zj) (xa:yl) (zb:yn) (L:Nat) (p0:List (List V)) (p1 p2:Int) (k_fin:Bool→Option β) (k_hbbbbbbaba:zjf β):Option β :=
 yb β L  (fun v0 =>
 ifb (!v0) (
 k_fin false) (
 xb β L p0 (fun v1 v2 =>
 zc β L v1 v2 (fun v3 v4 v5 =>
 chk ((List.length v3)=34∧0+34≤34) (
 lt (yk (List.replicate 32 (V.sc (.int .u8 (0:Int)))++[(V.gs 5 ([]:List (List V))),(V.gs 5 ([]:List (List V)))]) 0 v3) fun r6 =>
 chk (0+34≤(List.length r6)) (
 ya β L (List.map V.dem (List.take 34 r6)) ([]:List (List V)) (2:Int) (fun v7 =>
 k_hbbbbbbaba p1 p2 v7 (0:Int) (0:Int) ((List.length v7:Nat):Int) (0:Int) r6 v4 v5)))))))
theorem zv6 {β:Type} (yb:zm) (xb:zn) (zc:xo) (ya:zj) (xa:yl) (zb:yn) (L:Nat) (p0:List (List V)) (p1 p2:Int) (k:KK β):xr zaF (zaG yb xb zc ya xa zb L) L zbU [(V.sl 1 p0),(V.sc (.int .u64 p1)),(V.sc (.int .u32 p2))] [] k=zrx yb xb zc ya xa zb L p0 p1 p2 (fun p0=>k (V.sc (.bool p0)) []) (fun p1 p2 p9 p10 p11 p24 p25 b8 zNj zNk=>xy (yj zaF (zaG yb xb zc ya xa zb L) 0 L zb4) zdF L (zc0 p1 p2 p9 p10 p11 p24 p25 b8 zNj zNk) (zx 0 (yI (yj zaF (zaG yb xb zc ya xa zb L) 0 L zem) (zN 0 (CF.res zbU) k)))):=by kernel_rfl
def zjR {β:Type} (yb:zm) (xb:zn) (zc:xo) (ya:zj) (xa:yl) (zb:yn) (L:Nat) (p1 p2:Int) (p9:List (List V)) (p10 p11 p24 p25:Int) (b8:List V) (zNj:List (List V)) (zNk:Int) (k_ret:Bool→List (List V)→Int→Option β) (k_hbbbbbbaba:zjf β) (k_x0:zpn β):Option β :=
 ifb (decide (p25 < p24)) (
 chk (0+34≤(List.length b8)) (
 lt (Int.tmod p1 (1152921504606846976:Int)) fun x8 =>
 lt (IntKind.wrap .u64 p25) fun x9 =>
 lt (IntKind.wrap .u64 ((x8:Int)+x9)) fun x10 =>
 xa β L (List.map V.dem (List.take 34 b8)) ([]:List (List V)) ([]:List (List V)) x10 (fun v11 v12 =>
 chk ((List.length v11)=4∧0+4≤4) (
 lt (yk [(V.sc (.int .i64 (0:Int))),(V.sc (.int .u32 (0:Int))),(V.sc (.int .u16 (0:Int))),(V.sc (.int .u32 (0:Int)))] 0 v11) fun r13 =>
 ifb ((v12:Int) != (0:Int)) (
 k_ret false zNj zNk) (
 cI .i64 r13 0 fun v14 =>
 ifb ((v14:Int) != (2:Int)) (
 k_ret false zNj zNk) (
 idx p9 p25 fun c15 =>
 zb β L (List.take 3 c15) (fun v16 =>
 lt (Int.tmod v16 (3:Int)) fun x17 =>
 lt (Int.tmod p2 (3:Int)) fun x18 =>
 ifb ((x17:Int) == x18) (
 lt (IntKind.wrap .i64 ((p10:Int)+(1:Int))) fun x19 =>
 chk (1+3≤(List.length r13)) (
 zb β L (List.take 3 (List.drop 1 r13)) (fun v20 =>
 lt (Int.tmod v20 (3:Int)) fun x21 =>
 lt (Int.tmod p2 (3:Int)) fun x22 =>
 ifb ((x21:Int) == x22) (
 lt (IntKind.wrap .i64 ((p11:Int)+(1:Int))) fun x23 =>
 lt (IntKind.wrap .i64 ((p25:Int)+(1:Int))) fun x24 =>
 k_hbbbbbbaba p1 p2 p9 x19 x23 p24 x24 b8 zNj zNk) (
 lt (IntKind.wrap .i64 ((p25:Int)+(1:Int))) fun x25 =>
 k_hbbbbbbaba p1 p2 p9 x19 p11 p24 x25 b8 zNj zNk)))) (
 chk (1+3≤(List.length r13)) (
 zb β L (List.take 3 (List.drop 1 r13)) (fun v26 =>
 lt (Int.tmod v26 (3:Int)) fun x27 =>
 lt (Int.tmod p2 (3:Int)) fun x28 =>
 ifb ((x27:Int) == x28) (
 lt (IntKind.wrap .i64 ((p11:Int)+(1:Int))) fun x29 =>
 lt (IntKind.wrap .i64 ((p25:Int)+(1:Int))) fun x30 =>
 k_hbbbbbbaba p1 p2 p9 p10 x29 p24 x30 b8 zNj zNk) (
 lt (IntKind.wrap .i64 ((p25:Int)+(1:Int))) fun x31 =>
 k_hbbbbbbaba p1 p2 p9 p10 p11 p24 x31 b8 zNj zNk))))))))))) (
 k_x0 p9 p10 p11 b8 zNj zNk)
theorem zpK {β:Type} (yb:zm) (xb:zn) (zc:xo) (ya:zj) (xa:yl) (zb:yn) (L:Nat) (p1 p2:Int) (p9:List (List V)) (p10 p11 p24 p25:Int) (b8:List V) (zNj:List (List V)) (zNk:Int) (X:St→Option β) (K:KT β):yj zaF (zaG yb xb zc ya xa zb L) 0 L zb4 (zc0 p1 p2 p9 p10 p11 p24 p25 b8 zNj zNk) (zaz zdF X K)=zjR yb xb zc ya xa zb L p1 p2 p9 p10 p11 p24 p25 b8 zNj zNk (fun p6 zNj zNk=>K .ret (zhp p6 zNj zNk)) (fun p1 p2 p9 p10 p11 p24 p25 b8 zNj zNk=>X (zc0 p1 p2 p9 p10 p11 p24 p25 b8 zNj zNk)) (fun p9 p10 p11 b8 zNj zNk=>K (.exit 0) (zh8 p9 p10 p11 b8 zNj zNk)):=by kernel_rfl
def zh4 {β:Type} (yb:zm) (xb:zn) (zc:xo) (ya:zj) (xa:yl) (zb:yn) (L:Nat) (p6:Bool) (zNj:List (List V)) (zNk:Int) (k_fin:Bool→Option β):Option β :=
 k_fin p6
theorem zn0 {β:Type} (yb:zm) (xb:zn) (zc:xo) (ya:zj) (xa:yl) (zb:yn) (L:Nat) (p6:Bool) (zNj:List (List V)) (zNk:Int) (k:KK β):(zx 0 (yI (yj zaF (zaG yb xb zc ya xa zb L) 0 L zem) (zN 0 (CF.res zbU) k))) .ret (zhp p6 zNj zNk)=zh4 yb xb zc ya xa zb L p6 zNj zNk (fun p0=>k (V.sc (.bool p0)) []):=by kernel_rfl
def ziv {β:Type} (yb:zm) (xb:zn) (zc:xo) (ya:zj) (xa:yl) (zb:yn) (L:Nat) (p9:List (List V)) (p10 p11:Int) (b8:List V) (zNj:List (List V)) (zNk:Int) (k_fin:Bool→Option β):Option β :=
 ifb ((p10:Int) == p11) (
 cLd 5 b8 32 fun v32 =>
 cLd 5 b8 33 fun v33 =>
 lt (IntKind.wrap .i64 ((((List.length v32:Nat):Int):Int)+((List.length v33:Nat):Int))) fun x34 =>
 k_fin ((((List.length p9:Nat):Int):Int) == x34)) (
 k_fin false)
theorem zoA {β:Type} (yb:zm) (xb:zn) (zc:xo) (ya:zj) (xa:yl) (zb:yn) (L:Nat) (p9:List (List V)) (p10 p11:Int) (b8:List V) (zNj:List (List V)) (zNk:Int) (k:KK β):(zx 0 (yI (yj zaF (zaG yb xb zc ya xa zb L) 0 L zem) (zN 0 (CF.res zbU) k))) (.exit 0) (zh8 p9 p10 p11 b8 zNj zNk)=ziv yb xb zc ya xa zb L p9 p10 p11 b8 zNj zNk (fun p0=>k (V.sc (.bool p0)) []):=by kernel_rfl
def zfA {β:Type} (yb:zm) (xb:zn) (zc:xo) (ya:zj) (xa:yl) (zb:yn) (L:Nat) (k_ret:Bool→List (List V)→Int→Option β) (k_x0:zpn β):Nat→Int→Int→List (List V)→Int→Int→Int→Int→List V→List (List V)→Int→Option β
 | 0,_,_,_,_,_,_,_,_,_,_=>none
 | n+1,p1,p2,p9,p10,p11,p24,p25,b8,zNj,zNk=>zjR yb xb zc ya xa zb L p1 p2 p9 p10 p11 p24 p25 b8 zNj zNk k_ret (fun p1 p2 p9 p10 p11 p24 p25 b8 zNj zNk=>zfA yb xb zc ya xa zb L k_ret k_x0 n p1 p2 p9 p10 p11 p24 p25 b8 zNj zNk) k_x0
theorem zh5 {β:Type} (yb:zm) (xb:zn) (zc:xo) (ya:zj) (xa:yl) (zb:yn) (L:Nat) (K:KT β):∀ (n:Nat) (p1 p2:Int) (p9:List (List V)) (p10 p11 p24 p25:Int) (b8:List V) (zNj:List (List V)) (zNk:Int),xy (yj zaF (zaG yb xb zc ya xa zb L) 0 L zb4) zdF n (zc0 p1 p2 p9 p10 p11 p24 p25 b8 zNj zNk) K=zfA yb xb zc ya xa zb L (fun p6 zNj zNk=>K .ret (zhp p6 zNj zNk)) (fun p9 p10 p11 b8 zNj zNk=>K (.exit 0) (zh8 p9 p10 p11 b8 zNj zNk)) n p1 p2 p9 p10 p11 p24 p25 b8 zNj zNk:=by
 intro n
 induction n with
 | zero=>intros; rfl
 | succ n ih =>
  intro p1 p2 p9 p10 p11 p24 p25 b8 zNj zNk
  refine (zpK yb xb zc ya xa zb L p1 p2 p9 p10 p11 p24 p25 b8 zNj zNk (fun σ=>xy (yj zaF (zaG yb xb zc ya xa zb L) 0 L zb4) zdF n σ K) K).trans ?_
  simp only [ih]
  rfl
def zln {β:Type} (yb:zm) (xb:zn) (zc:xo) (ya:zj) (xa:yl) (zb:yn) (L:Nat) (p0:List (List V)) (p1 p2:Int) (k_fin:Bool→Option β):Option β :=
 zrx yb xb zc ya xa zb L p0 p1 p2 k_fin (fun p1 p2 p9 p10 p11 p24 p25 b8 zNj zNk=>zfA yb xb zc ya xa zb L (fun p6 zNj zNk=>zh4 yb xb zc ya xa zb L p6 zNj zNk k_fin) (fun p9 p10 p11 b8 zNj zNk=>ziv yb xb zc ya xa zb L p9 p10 p11 b8 zNj zNk k_fin) L p1 p2 p9 p10 p11 p24 p25 b8 zNj zNk)
theorem zwe {β:Type} (yb:zm) (xb:zn) (zc:xo) (ya:zj) (xa:yl) (zb:yn) (L:Nat) (p0:List (List V)) (p1 p2:Int) (k:KK β):xr zaF (zaG yb xb zc ya xa zb L) L zbU [(V.sl 1 p0),(V.sc (.int .u64 p1)),(V.sc (.int .u32 p2))] [] k=zln yb xb zc ya xa zb L p0 p1 p2 (fun p0=>k (V.sc (.bool p0)) []):=by
 refine (zv6 yb xb zc ya xa zb L p0 p1 p2 k).trans ?_
 unfold zln
 first
  | (simp only [zh5,zn0,zoA]; done)
  | (simp only [zh5]; rfl)
abbrev zzg:=∀ (β:Type),Nat→List (List V)→Int→Int→(Bool→Option β)→Option β
def zhN (β:Type) (L:Nat) (p0:List (List V)) (p1 p2:Int) (k_fin:Bool→Option β):Option β:=zln yb xb zc ya xa zb L p0 p1 p2 k_fin
def zlu (zhN:zzg) (L:Nat) (β:Type) (args:List V) (bor:Bor) (k:KK β):Option β:=match args,bor with
 | [a0,a1,a2],[]=>aL 1 a0 fun p0=>aI .u64 a1 fun p1=>aI .u32 a2 fun p2=>zhN β L p0 p1 p2 (fun p0=>k (V.sc (.bool p0)) [])
 | _,_=>none
theorem zwE (L:Nat) (β:Type) (args:List V) (bor:Bor) (k:KK β) (r:β) (h:zlu zhN L β args bor k=some r):xr zaF (zaG yb xb zc ya xa zb L) L zbU args bor k=some r:=by
 unfold zlu at h
 split at h
 ·have q:=xP h; clear h; obtain ⟨p0,rfl,h⟩:=q
  have q:=zad h; clear h; obtain ⟨p1,rfl,h⟩:=q
  have q:=zad h; clear h; obtain ⟨p2,rfl,h⟩:=q
  exact (zwe yb xb zc ya xa zb L p0 p1 p2 k).trans h
 ·cases h
def zbA:CC:=(.seq (.reg [oo 29 (.bin .lss (tq 28) (tq 27))])
 (.seq (.cond (tq 29)
 .skip
 (.seq (.mask (bl 1540 47) (bl 140720308481919 47))
 (.exit 0)))
 (.seq (.block 1 (.seq (.reg [oo 30 (.indexAddrS 4 (tq 26) (tq 28)),
   oo 31 (.load true 4 (tq 30) false),
   oo 12 (.alloc true [(.sc (.int .i64 0)),(.sc (.int .u32 0)),(.sc (.int .u16 0)),(.sc (.int .u32 0))]),
   oz (.store 4 (tq 12) (tq 31))])
 (.seq (.reg [oo 32 (.fieldAddr 1 (tq 12)),
   oo 33 (.load true 3 (tq 32) false),
   oo 34 (.call 269 [((tq 33),0)] []),
   oo 35 (.move (tq 2) false),
   oo 36 (.conv .u32 (tq 35)),
   oo 37 (.bin .lss (tq 34) (tq 36))])
 (.cond (tq 37)
 (.reg [oo 38 (.move (tq 10) false),
   oo 39 (.bin .add (tq 38) (.const (.sc (.int .i64 1)))),
   oo 10 (.move (tq 39) false)])
 .skip))))
 (.reg [oo 40 (.bin .add (tq 28) (.const (.sc (.int .i64 1)))),
   oo 28 (.move (tq 40) false)]))))
def zfd:CC:=(.seq (.reg [oo 41 (.move (tq 9) false),
   oo 42 (.move (tq 41) false),
   ⟨(some 43),false,(some (42,true)),.move (tq 10) false⟩,
   ⟨(some 44),false,(some (42,true)),.move (tq 2) false⟩,
   ⟨(some 45),false,(some (42,true)),.bin .leq (tq 43) (tq 44)⟩,
   oo 46 (.pick (tq 42) (tq 45) (.const (.sc (.bool false)))),
   oo 6 (.move (tq 46) false)])
 .ret)
def zbN:CF:=⟨47,[.tmp 6],
 (.seq (.reg [oo 6 (.move (.const (.sc (.bool false))) false)])
 (.seq (.seq (.reg [oo 13 (.call 259 [] []),
   oo 14 (.un .not (tq 13))])
 (.cond (tq 14)
 (.seq (.reg [oo 6 (.move (.const (.sc (.bool false))) false)])
 .ret)
 .skip))
 (.seq (.reg [oo 15 (.move (tq 0) false),
   oo 16 (.call 225 [((tq 15),0)] []),
   oo 17 (.call 260 [((tq 16),0)] []),
   oo 7 (.alloc true (rp 32 (.sc (.int .u8 0)) (rp 2 (.gs 5 []) []))),
   oz (.store 34 (tq 7) (tq 17))])
 (.seq (.reg [oo 19 (.load true 34 (tq 7) false),
   oo 20 (.move (tq 1) false),
   oo 21 (.call 268 [((tq 19),1),((.const (.gs 3 [])),0),((tq 20),0)] []),
   oo 18 (.move (tq 21) true),
   oo 22 (.extract (tq 18) 0),
   oo 23 (.pull (tq 18) 1),
   oo 8 (.move (tq 22) false),
   oo 9 (.move (tq 23) false)])
 (.seq (.reg [oo 24 (.move (tq 2) false),
   oo 25 (.call 217 [((tq 24),0),((.const (.sc (.int .i64 7))),0)] []),
   oo 2 (.move (tq 25) false)])
 (.seq (.reg [oo 10 (.move (.const (.sc (.int .i64 0))) false)])
 (.seq (.seq (.reg [oo 26 (.move (tq 8) false),
   oo 27 (.lenS (tq 26)),
   oo 28 (.move (.const (.sc (.int .i64 0))) false)])
 (.block 0 (.loop (bl 469763588 47) (bl 140720308481919 47)
 zbA)))
 zfd)))))))⟩
def zlA:Hint:=⟨[(3,3),(4,3),(4,4)],[],[none,none,none,some ((bl 469763588 47),(bl 140720308481919 47)),none,some ((bl 1540 47),(bl 140720308481919 47)),none,none,none],[],[],false,false⟩
def zav:Nat→Sh:=zV []
def zat (yb:zm) (xb:zn) (zc:xo) (yg:yJ) (yf:zH) (zb:yn) (L:Nat):CBC:=(xA 269 (zcR zb L) (xA 217 (zns yf L) (xA 268 (zmf yg L) (xA 260 (zje zc L) (xA 225 (ziN xb L) (xA 259 (zhJ yb L) noC))))))
def zc4:St→St:=zaE 0 (bl 469763588 47) (bl 140720308481919 47)
def zcb (p2:Int) (p9:Bool) (p10:Int) (p26:List (List V)) (p27 p28:Int) (zNu:List (List V)) (zNv:Int):St:=⟨(jn 2 ((V.sc (.int .i64 p2))::(jn 6 ((V.sc (.bool p9))::((V.sc (.int .i64 p10))::(jn 15 ((V.sl 4 p26)::((V.sc (.int .i64 p27))::((V.sc (.int .i64 p28))::(jn 18 [])))))))))),(gn 16 ((.live false [(V.sl 1 zNu),(V.sc (.int .i64 zNv))])::(gn 30 [])))⟩
def zgw (p2:Int) (p9:Bool) (p10:Int) (zNu:List (List V)) (zNv:Int):St:=⟨(jn 2 ((V.sc (.int .i64 p2))::(jn 6 ((V.sc (.bool p9))::((V.sc (.int .i64 p10))::(jn 36 [])))))),(gn 16 ((.live false [(V.sl 1 zNu),(V.sc (.int .i64 zNv))])::(gn 30 [])))⟩
abbrev zhG (β:Type):Type:=Int→Bool→Int→List (List V)→Int→Int→List (List V)→Int→Option β
def zol {β:Type} (yb:zm) (xb:zn) (zc:xo) (yg:yJ) (yf:zH) (zb:yn) (L:Nat) (p0 p1:List (List V)) (p2:Int) (k_fin:Bool→Option β) (k_hbbbbbbaba:zhG β):Option β :=
 yb β L  (fun v0 =>
 ifb (!v0) (
 k_fin false) (
 xb β L p0 (fun v1 v2 =>
 zc β L v1 v2 (fun v3 v4 v5 =>
 chk ((List.length v3)=34∧0+34≤34) (
 lt (yk (List.replicate 32 (V.sc (.int .u8 (0:Int)))++[(V.gs 5 ([]:List (List V))),(V.gs 5 ([]:List (List V)))]) 0 v3) fun r6 =>
 chk (0+34≤(List.length r6)) (
 yg β L (List.map V.dem (List.take 34 r6)) ([]:List (List V)) p1 (fun v7 v8 =>
 yf β L p2 (7:Int) (fun v9 =>
 k_hbbbbbbaba v9 v8 (0:Int) v7 ((List.length v7:Nat):Int) (0:Int) v4 v5))))))))
theorem zty {β:Type} (yb:zm) (xb:zn) (zc:xo) (yg:yJ) (yf:zH) (zb:yn) (L:Nat) (p0 p1:List (List V)) (p2:Int) (k:KK β):xr zav (zat yb xb zc yg yf zb L) L zbN [(V.sl 1 p0),(V.sl 1 p1),(V.sc (.int .i64 p2))] [] k=zol yb xb zc yg yf zb L p0 p1 p2 (fun p0=>k (V.sc (.bool p0)) []) (fun p2 p9 p10 p26 p27 p28 zNu zNv=>xy (yj zav (zat yb xb zc yg yf zb L) 0 L zbA) zc4 L (zcb p2 p9 p10 p26 p27 p28 zNu zNv) (zx 0 (yI (yj zav (zat yb xb zc yg yf zb L) 0 L zfd) (zN 0 (CF.res zbN) k)))):=by kernel_rfl
def zh3 {β:Type} (yb:zm) (xb:zn) (zc:xo) (yg:yJ) (yf:zH) (zb:yn) (L:Nat) (p2:Int) (p9:Bool) (p10:Int) (p26:List (List V)) (p27 p28:Int) (zNu:List (List V)) (zNv:Int) (k_hbbbbbbaba:zhG β) (k_x0:Int→Bool→Int→List (List V)→Int→Option β):Option β :=
 ifb (decide (p28 < p27)) (
 idx p26 p28 fun c10 =>
 chk ((List.length (List.take 4 c10))=4∧0+4≤4) (
 lt (yk [(V.sc (.int .i64 (0:Int))),(V.sc (.int .u32 (0:Int))),(V.sc (.int .u16 (0:Int))),(V.sc (.int .u32 (0:Int)))] 0 (List.take 4 c10)) fun r11 =>
 chk (1+3≤(List.length r11)) (
 zb β L (List.take 3 (List.drop 1 r11)) (fun v12 =>
 lt (IntKind.wrap .u32 p2) fun x13 =>
 ifb (decide (v12 < x13)) (
 lt (IntKind.wrap .i64 ((p10:Int)+(1:Int))) fun x14 =>
 lt (IntKind.wrap .i64 ((p28:Int)+(1:Int))) fun x15 =>
 k_hbbbbbbaba p2 p9 x14 p26 p27 x15 zNu zNv) (
 lt (IntKind.wrap .i64 ((p28:Int)+(1:Int))) fun x16 =>
 k_hbbbbbbaba p2 p9 p10 p26 p27 x16 zNu zNv))))) (
 k_x0 p2 p9 p10 zNu zNv)
theorem zn9 {β:Type} (yb:zm) (xb:zn) (zc:xo) (yg:yJ) (yf:zH) (zb:yn) (L:Nat) (p2:Int) (p9:Bool) (p10:Int) (p26:List (List V)) (p27 p28:Int) (zNu:List (List V)) (zNv:Int) (X:St→Option β) (K:KT β):yj zav (zat yb xb zc yg yf zb L) 0 L zbA (zcb p2 p9 p10 p26 p27 p28 zNu zNv) (zaz zc4 X K)=zh3 yb xb zc yg yf zb L p2 p9 p10 p26 p27 p28 zNu zNv (fun p2 p9 p10 p26 p27 p28 zNu zNv=>X (zcb p2 p9 p10 p26 p27 p28 zNu zNv)) (fun p2 p9 p10 zNu zNv=>K (.exit 0) (zgw p2 p9 p10 zNu zNv)):=by kernel_rfl
def zhi {β:Type} (yb:zm) (xb:zn) (zc:xo) (yg:yJ) (yf:zH) (zb:yn) (L:Nat) (p2:Int) (p9:Bool) (p10:Int) (zNu:List (List V)) (zNv:Int) (k_fin:Bool→Option β):Option β :=
 ifb p9 (
 k_fin (decide (p10≤p2))) (
 k_fin false)
theorem zmu {β:Type} (yb:zm) (xb:zn) (zc:xo) (yg:yJ) (yf:zH) (zb:yn) (L:Nat) (p2:Int) (p9:Bool) (p10:Int) (zNu:List (List V)) (zNv:Int) (k:KK β):(zx 0 (yI (yj zav (zat yb xb zc yg yf zb L) 0 L zfd) (zN 0 (CF.res zbN) k))) (.exit 0) (zgw p2 p9 p10 zNu zNv)=zhi yb xb zc yg yf zb L p2 p9 p10 zNu zNv (fun p0=>k (V.sc (.bool p0)) []):=by kernel_rfl
def zeO {β:Type} (yb:zm) (xb:zn) (zc:xo) (yg:yJ) (yf:zH) (zb:yn) (L:Nat) (k_x0:Int→Bool→Int→List (List V)→Int→Option β):Nat→Int→Bool→Int→List (List V)→Int→Int→List (List V)→Int→Option β
 | 0,_,_,_,_,_,_,_,_=>none
 | n+1,p2,p9,p10,p26,p27,p28,zNu,zNv=>zh3 yb xb zc yg yf zb L p2 p9 p10 p26 p27 p28 zNu zNv (fun p2 p9 p10 p26 p27 p28 zNu zNv=>zeO yb xb zc yg yf zb L k_x0 n p2 p9 p10 p26 p27 p28 zNu zNv) k_x0
theorem zgQ {β:Type} (yb:zm) (xb:zn) (zc:xo) (yg:yJ) (yf:zH) (zb:yn) (L:Nat) (K:KT β):∀ (n:Nat) (p2:Int) (p9:Bool) (p10:Int) (p26:List (List V)) (p27 p28:Int) (zNu:List (List V)) (zNv:Int),xy (yj zav (zat yb xb zc yg yf zb L) 0 L zbA) zc4 n (zcb p2 p9 p10 p26 p27 p28 zNu zNv) K=zeO yb xb zc yg yf zb L (fun p2 p9 p10 zNu zNv=>K (.exit 0) (zgw p2 p9 p10 zNu zNv)) n p2 p9 p10 p26 p27 p28 zNu zNv:=by
 intro n
 induction n with
 | zero=>intros; rfl
 | succ n ih =>
  intro p2 p9 p10 p26 p27 p28 zNu zNv
  refine (zn9 yb xb zc yg yf zb L p2 p9 p10 p26 p27 p28 zNu zNv (fun σ=>xy (yj zav (zat yb xb zc yg yf zb L) 0 L zbA) zc4 n σ K) K).trans ?_
  simp only [ih]
  rfl
def zi4 {β:Type} (yb:zm) (xb:zn) (zc:xo) (yg:yJ) (yf:zH) (zb:yn) (L:Nat) (p0 p1:List (List V)) (p2:Int) (k_fin:Bool→Option β):Option β :=
 zol yb xb zc yg yf zb L p0 p1 p2 k_fin (fun p2 p9 p10 p26 p27 p28 zNu zNv=>zeO yb xb zc yg yf zb L (fun p2 p9 p10 zNu zNv=>zhi yb xb zc yg yf zb L p2 p9 p10 zNu zNv k_fin) L p2 p9 p10 p26 p27 p28 zNu zNv)
theorem ztS {β:Type} (yb:zm) (xb:zn) (zc:xo) (yg:yJ) (yf:zH) (zb:yn) (L:Nat) (p0 p1:List (List V)) (p2:Int) (k:KK β):xr zav (zat yb xb zc yg yf zb L) L zbN [(V.sl 1 p0),(V.sl 1 p1),(V.sc (.int .i64 p2))] [] k=zi4 yb xb zc yg yf zb L p0 p1 p2 (fun p0=>k (V.sc (.bool p0)) []):=by
 refine (zty yb xb zc yg yf zb L p0 p1 p2 k).trans ?_
 unfold zi4
 first
  | (simp only [zgQ,zmu]; done)
  | (simp only [zgQ]; rfl)
abbrev zwv:=∀ (β:Type),Nat→List (List V)→List (List V)→Int→(Bool→Option β)→Option β
def zfK (β:Type) (L:Nat) (p0 p1:List (List V)) (p2:Int) (k_fin:Bool→Option β):Option β:=zi4 yb xb zc yg yf zb L p0 p1 p2 k_fin
def ziY (zfK:zwv) (L:Nat) (β:Type) (args:List V) (bor:Bor) (k:KK β):Option β:=match args,bor with
 | [a0,a1,a2],[]=>aL 1 a0 fun p0=>aL 1 a1 fun p1=>aI .i64 a2 fun p2=>zfK β L p0 p1 p2 (fun p0=>k (V.sc (.bool p0)) [])
 | _,_=>none
theorem ztZ (L:Nat) (β:Type) (args:List V) (bor:Bor) (k:KK β) (r:β) (h:ziY zfK L β args bor k=some r):xr zav (zat yb xb zc yg yf zb L) L zbN args bor k=some r:=by
 unfold ziY at h
 split at h
 ·have q:=xP h; clear h; obtain ⟨p0,rfl,h⟩:=q
  have q:=xP h; clear h; obtain ⟨p1,rfl,h⟩:=q
  have q:=zad h; clear h; obtain ⟨p2,rfl,h⟩:=q
  exact (ztS yb xb zc yg yf zb L p0 p1 p2 k).trans h
 ·cases h
def fg:List (Nat × Nat):=[(3,255),(4,256),(5,257),(6,258),(7,259),(8,225),(9,260),(10,261),(11,231),(12,262),(13,263),(14,264),(15,217),(16,265),(17,266),(18,267),(19,268),(20,269),(21,270),(22,271),(23,236),(24,272),(25,273),(26,274),(27,247),(28,275),(29,276),(30,277),(31,278),(32,279),(33,280),(34,281),(35,282),(36,283),(37,284),(38,285),(39,286),(40,287),(41,288),(42,289),(43,290),(44,291),(45,292),(46,293),(47,294),(48,295),(49,296),(50,297),(51,298),(52,299),(53,300),(54,301),(55,302),(56,303),(57,110),(58,106),(59,304),(60,159),(61,305),(62,109),(63,105),(64,157),(65,205),(66,306),(67,115),(68,114),(69,116),(70,193),(71,194),(72,112),(73,111),(74,113),(75,191),(76,192),(77,118)]
def rows:List Row:=[⟨38,285,zsr,zko⟩,⟨20,269,zrf,zji⟩,⟨54,301,zpB,zhM⟩,⟨66,306,zeS,zQ⟩,⟨53,300,zet,zbd⟩,⟨31,278,zrp,zjt⟩,⟨21,270,zsL,zdr⟩,⟨72,112,zyW,zi8⟩,⟨62,109,zAh,ztD⟩,⟨76,192,ztr,zeX⟩,⟨75,191,ztw,zlB⟩,⟨64,157,zqu,zit⟩,⟨77,118,zj5,zeK⟩,⟨74,113,zvX,zgx⟩,⟨73,111,zvT,zoB⟩,⟨63,105,zAl,zkr⟩,⟨50,297,zlx,zff⟩,⟨49,296,zpH,zhY⟩,⟨48,295,zrt,zcc⟩,⟨65,205,zq3,zij⟩,⟨52,299,zlH,zfg⟩,⟨51,298,zpG,zhS⟩,⟨28,275,zri,zjl⟩,⟨30,277,zpk,zhV⟩,⟨29,276,zsH,zdq⟩,⟨32,279,zpq,zhX⟩,⟨37,284,zlZ,zbO⟩,⟨17,266,znE,zgq⟩,⟨13,263,zrh,zda⟩,⟨39,286,zfZ,zca⟩,⟨22,271,ztl,zlQ⟩,⟨7,259,zvJ,zoD⟩,⟨8,225,zyS,zsm⟩,⟨27,247,zrg,zjm⟩,⟨15,217,zyK,zsg⟩,⟨11,231,zrj,zjw⟩,⟨23,236,zwR,zqP⟩,⟨67,115,zvE,zgE⟩,⟨57,110,zxo,zpM⟩,⟨71,194,ztq,ze6⟩,⟨70,193,ztx,zl3⟩,⟨60,159,zpZ,ziS⟩,⟨59,304,zqc,zil⟩,⟨69,116,zuP,znw⟩,⟨68,114,ztt,zl1⟩,⟨58,106,zxE,zhr⟩,⟨47,294,zuF,znq⟩,⟨43,290,zoh,zg8⟩,⟨61,305,zoz,zhb⟩,⟨56,303,zvZ,zoC⟩,⟨40,287,zvH,zeo⟩,⟨55,302,zuI,zeC⟩,⟨34,281,zuA,zeA⟩,⟨41,288,ztn,zlP⟩,⟨42,289,ztu,zlJ⟩,⟨44,291,zto,zcx⟩,⟨45,292,ztp,zlK⟩,⟨46,293,zvM,zer⟩,⟨24,272,zvG,zoF⟩,⟨12,262,zxB,zqf⟩,⟨25,273,zuS,zng⟩,⟨9,260,zxb,zho⟩,⟨26,274,zqC,zio⟩,⟨10,261,zvW,zgv⟩,⟨36,283,zuy,zeD⟩,⟨33,280,zui,zeG⟩,⟨35,282,zuN,zfz⟩,⟨18,267,zpy,zbG⟩,⟨14,264,ztm,zdY⟩,⟨16,265,zqj,zcJ⟩,⟨3,255,zlO,y7⟩,⟨19,268,zv0,zfa⟩,⟨4,256,zlz,za9⟩,⟨5,257,zoo,zbU⟩,⟨6,258,zlA,zbN⟩]
theorem zCb:zT Try.prog (xJ fg) zsr 38=some zko:=by kernel_rfl
theorem zAT:zT Try.prog (xJ fg) zrf 20=some zji:=by kernel_rfl
theorem zzf:zT Try.prog (xJ fg) zpB 54=some zhM:=by kernel_rfl
theorem zlb:zT Try.prog (xJ fg) zeS 66=some zQ:=by kernel_rfl
theorem zj2:zT Try.prog (xJ fg) zet 53=some zbd:=by kernel_rfl
theorem zBr:zT Try.prog (xJ fg) zrp 31=some zjt:=by kernel_rfl
theorem zCd:zT Try.prog (xJ fg) zsL 21=some zdr:=by kernel_rfl
theorem zHq:zT Try.prog (xJ fg) zyW 72=some zi8:=by kernel_rfl
theorem zIf:zT Try.prog (xJ fg) zAh 62=some ztD:=by kernel_rfl
theorem zDc:zT Try.prog (xJ fg) ztr 76=some zeX:=by kernel_rfl
theorem zCM:zT Try.prog (xJ fg) ztw 75=some zlB:=by kernel_rfl
theorem zzu:zT Try.prog (xJ fg) zqu 64=some zit:=by kernel_rfl
theorem ztW:zT Try.prog (xJ fg) zj5 77=some zeK:=by kernel_rfl
theorem zFV:zT Try.prog (xJ fg) zvX 74=some zgx:=by kernel_rfl
theorem zFW:zT Try.prog (xJ fg) zvT 73=some zoB:=by kernel_rfl
theorem zHW:zT Try.prog (xJ fg) zAl 63=some zkr:=by kernel_rfl
theorem zvt:zT Try.prog (xJ fg) zlx 50=some zff:=by kernel_rfl
theorem zza:zT Try.prog (xJ fg) zpH 49=some zhY:=by kernel_rfl
theorem zBm:zT Try.prog (xJ fg) zrt 48=some zcc:=by kernel_rfl
theorem zzG:zT Try.prog (xJ fg) zq3 65=some zij:=by kernel_rfl
theorem zvC:zT Try.prog (xJ fg) zlH 52=some zfg:=by kernel_rfl
theorem zyZ:zT Try.prog (xJ fg) zpG 51=some zhS:=by kernel_rfl
theorem zA2:zT Try.prog (xJ fg) zri 28=some zjl:=by kernel_rfl
theorem zzi:zT Try.prog (xJ fg) zpk 30=some zhV:=by kernel_rfl
theorem zCr:zT Try.prog (xJ fg) zsH 29=some zdq:=by kernel_rfl
theorem zzm:zT Try.prog (xJ fg) zpq 32=some zhX:=by kernel_rfl
theorem zvy:zT Try.prog (xJ fg) zlZ 37=some zbO:=by kernel_rfl
theorem zwP:zT Try.prog (xJ fg) znE 17=some zgq:=by kernel_rfl
theorem zBg:zT Try.prog (xJ fg) zrh 13=some zda:=by kernel_rfl
theorem znZ:zT Try.prog (xJ fg) zfZ 39=some zca:=by kernel_rfl
theorem zDR:zT Try.prog (xJ fg) ztl 22=some zlQ:=by kernel_rfl
theorem zFC:zT Try.prog (xJ fg) zvJ 7=some zoD:=by kernel_rfl
theorem zHj:zT Try.prog (xJ fg) zyS 8=some zsm:=by kernel_rfl
theorem zAZ:zT Try.prog (xJ fg) zrg 27=some zjm:=by kernel_rfl
theorem zHr:zT Try.prog (xJ fg) zyK 15=some zsg:=by kernel_rfl
theorem zAY:zT Try.prog (xJ fg) zrj 11=some zjw:=by kernel_rfl
theorem zGL:zT Try.prog (xJ fg) zwR 23=some zqP:=by kernel_rfl
theorem zFT:zT Try.prog (xJ fg) zvE 67=some zgE:=by kernel_rfl
theorem zGc:zT Try.prog (xJ fg) zxo 57=some zpM:=by kernel_rfl
theorem zEb:zT Try.prog (xJ fg) ztq 71=some ze6:=by kernel_rfl
theorem zDB:zT Try.prog (xJ fg) ztx 70=some zl3:=by kernel_rfl
theorem zz8:zT Try.prog (xJ fg) zpZ 60=some ziS:=by kernel_rfl
theorem zAi:zT Try.prog (xJ fg) zqc 59=some zil:=by kernel_rfl
theorem zEg:zT Try.prog (xJ fg) zuP 69=some znw:=by kernel_rfl
theorem zDL:zT Try.prog (xJ fg) ztt 68=some zl1:=by kernel_rfl
theorem zGj:zT Try.prog (xJ fg) zxE 58=some zhr:=by kernel_rfl
theorem zEe:zT Try.prog (xJ fg) zuF 47=some znq:=by kernel_rfl
theorem zyH:zT Try.prog (xJ fg) zoh 43=some zg8:=by kernel_rfl
theorem zxM:zT Try.prog (xJ fg) zoz 61=some zhb:=by kernel_rfl
theorem zFM:zT Try.prog (xJ fg) zvZ 56=some zoC:=by kernel_rfl
theorem zFE:zT Try.prog (xJ fg) zvH 40=some zeo:=by kernel_rfl
theorem zEI:zT Try.prog (xJ fg) zuI 55=some zeC:=by kernel_rfl
theorem zEo:zT Try.prog (xJ fg) zuA 34=some zeA:=by kernel_rfl
theorem zDr:zT Try.prog (xJ fg) ztn 41=some zlP:=by kernel_rfl
theorem zD3:zT Try.prog (xJ fg) ztu 42=some zlJ:=by kernel_rfl
theorem zCK:zT Try.prog (xJ fg) zto 44=some zcx:=by kernel_rfl
theorem zC9:zT Try.prog (xJ fg) ztp 45=some zlK:=by kernel_rfl
theorem zFY:zT Try.prog (xJ fg) zvM 46=some zer:=by kernel_rfl
theorem zFS:zT Try.prog (xJ fg) zvG 24=some zoF:=by kernel_rfl
theorem zGw:zT Try.prog (xJ fg) zxB 12=some zqf:=by kernel_rfl
theorem zEh:zT Try.prog (xJ fg) zuS 25=some zng:=by kernel_rfl
theorem zHb:zT Try.prog (xJ fg) zxb 9=some zho:=by kernel_rfl
theorem zAs:zT Try.prog (xJ fg) zqC 26=some zio:=by kernel_rfl
theorem zFA:zT Try.prog (xJ fg) zvW 10=some zgv:=by kernel_rfl
theorem zED:zT Try.prog (xJ fg) zuy 36=some zeD:=by kernel_rfl
theorem zEB:zT Try.prog (xJ fg) zui 33=some zeG:=by kernel_rfl
theorem zEJ:zT Try.prog (xJ fg) zuN 35=some zfz:=by kernel_rfl
theorem zyY:zT Try.prog (xJ fg) zpy 18=some zbG:=by kernel_rfl
theorem zDF:zT Try.prog (xJ fg) ztm 14=some zdY:=by kernel_rfl
theorem zAr:zT Try.prog (xJ fg) zqj 16=some zcJ:=by kernel_rfl
theorem zvs:zT Try.prog (xJ fg) zlO 3=some y7:=by kernel_rfl
theorem zFR:zT Try.prog (xJ fg) zv0 19=some zfa:=by kernel_rfl
theorem zvp:zT Try.prog (xJ fg) zlz 4=some za9:=by kernel_rfl
theorem zxR:zT Try.prog (xJ fg) zoo 5=some zbU:=by kernel_rfl
theorem zvx:zT Try.prog (xJ fg) zlA 6=some zbN:=by kernel_rfl
theorem zLd:∀ r ∈ rows,(r.f,r.g) ∈ fg∧zkF Try.prog r.f=true∧zT Try.prog (xJ fg) r.h r.f=some r.c:=by
 intro r hr
 simp only [rows,List.mem_cons,List.not_mem_nil,or_false] at hr
 rcases hr with rfl | rfl | rfl | rfl | rfl | rfl | rfl | rfl | rfl | rfl | rfl | rfl | rfl | rfl | rfl | rfl | rfl | rfl | rfl | rfl | rfl | rfl | rfl | rfl | rfl | rfl | rfl | rfl | rfl | rfl | rfl | rfl | rfl | rfl | rfl | rfl | rfl | rfl | rfl | rfl | rfl | rfl | rfl | rfl | rfl | rfl | rfl | rfl | rfl | rfl | rfl | rfl | rfl | rfl | rfl | rfl | rfl | rfl | rfl | rfl | rfl | rfl | rfl | rfl | rfl | rfl | rfl | rfl | rfl | rfl | rfl | rfl | rfl | rfl | rfl
 ·exact ⟨of_decide_eq_true (by kernel_rfl),by kernel_rfl,zCb⟩
 ·exact ⟨of_decide_eq_true (by kernel_rfl),by kernel_rfl,zAT⟩
 ·exact ⟨of_decide_eq_true (by kernel_rfl),by kernel_rfl,zzf⟩
 ·exact ⟨of_decide_eq_true (by kernel_rfl),by kernel_rfl,zlb⟩
 ·exact ⟨of_decide_eq_true (by kernel_rfl),by kernel_rfl,zj2⟩
 ·exact ⟨of_decide_eq_true (by kernel_rfl),by kernel_rfl,zBr⟩
 ·exact ⟨of_decide_eq_true (by kernel_rfl),by kernel_rfl,zCd⟩
 ·exact ⟨of_decide_eq_true (by kernel_rfl),by kernel_rfl,zHq⟩
 ·exact ⟨of_decide_eq_true (by kernel_rfl),by kernel_rfl,zIf⟩
 ·exact ⟨of_decide_eq_true (by kernel_rfl),by kernel_rfl,zDc⟩
 ·exact ⟨of_decide_eq_true (by kernel_rfl),by kernel_rfl,zCM⟩
 ·exact ⟨of_decide_eq_true (by kernel_rfl),by kernel_rfl,zzu⟩
 ·exact ⟨of_decide_eq_true (by kernel_rfl),by kernel_rfl,ztW⟩
 ·exact ⟨of_decide_eq_true (by kernel_rfl),by kernel_rfl,zFV⟩
 ·exact ⟨of_decide_eq_true (by kernel_rfl),by kernel_rfl,zFW⟩
 ·exact ⟨of_decide_eq_true (by kernel_rfl),by kernel_rfl,zHW⟩
 ·exact ⟨of_decide_eq_true (by kernel_rfl),by kernel_rfl,zvt⟩
 ·exact ⟨of_decide_eq_true (by kernel_rfl),by kernel_rfl,zza⟩
 ·exact ⟨of_decide_eq_true (by kernel_rfl),by kernel_rfl,zBm⟩
 ·exact ⟨of_decide_eq_true (by kernel_rfl),by kernel_rfl,zzG⟩
 ·exact ⟨of_decide_eq_true (by kernel_rfl),by kernel_rfl,zvC⟩
 ·exact ⟨of_decide_eq_true (by kernel_rfl),by kernel_rfl,zyZ⟩
 ·exact ⟨of_decide_eq_true (by kernel_rfl),by kernel_rfl,zA2⟩
 ·exact ⟨of_decide_eq_true (by kernel_rfl),by kernel_rfl,zzi⟩
 ·exact ⟨of_decide_eq_true (by kernel_rfl),by kernel_rfl,zCr⟩
 ·exact ⟨of_decide_eq_true (by kernel_rfl),by kernel_rfl,zzm⟩
 ·exact ⟨of_decide_eq_true (by kernel_rfl),by kernel_rfl,zvy⟩
 ·exact ⟨of_decide_eq_true (by kernel_rfl),by kernel_rfl,zwP⟩
 ·exact ⟨of_decide_eq_true (by kernel_rfl),by kernel_rfl,zBg⟩
 ·exact ⟨of_decide_eq_true (by kernel_rfl),by kernel_rfl,znZ⟩
 ·exact ⟨of_decide_eq_true (by kernel_rfl),by kernel_rfl,zDR⟩
 ·exact ⟨of_decide_eq_true (by kernel_rfl),by kernel_rfl,zFC⟩
 ·exact ⟨of_decide_eq_true (by kernel_rfl),by kernel_rfl,zHj⟩
 ·exact ⟨of_decide_eq_true (by kernel_rfl),by kernel_rfl,zAZ⟩
 ·exact ⟨of_decide_eq_true (by kernel_rfl),by kernel_rfl,zHr⟩
 ·exact ⟨of_decide_eq_true (by kernel_rfl),by kernel_rfl,zAY⟩
 ·exact ⟨of_decide_eq_true (by kernel_rfl),by kernel_rfl,zGL⟩
 ·exact ⟨of_decide_eq_true (by kernel_rfl),by kernel_rfl,zFT⟩
 ·exact ⟨of_decide_eq_true (by kernel_rfl),by kernel_rfl,zGc⟩
 ·exact ⟨of_decide_eq_true (by kernel_rfl),by kernel_rfl,zEb⟩
 ·exact ⟨of_decide_eq_true (by kernel_rfl),by kernel_rfl,zDB⟩
 ·exact ⟨of_decide_eq_true (by kernel_rfl),by kernel_rfl,zz8⟩
 ·exact ⟨of_decide_eq_true (by kernel_rfl),by kernel_rfl,zAi⟩
 ·exact ⟨of_decide_eq_true (by kernel_rfl),by kernel_rfl,zEg⟩
 ·exact ⟨of_decide_eq_true (by kernel_rfl),by kernel_rfl,zDL⟩
 ·exact ⟨of_decide_eq_true (by kernel_rfl),by kernel_rfl,zGj⟩
 ·exact ⟨of_decide_eq_true (by kernel_rfl),by kernel_rfl,zEe⟩
 ·exact ⟨of_decide_eq_true (by kernel_rfl),by kernel_rfl,zyH⟩
 ·exact ⟨of_decide_eq_true (by kernel_rfl),by kernel_rfl,zxM⟩
 ·exact ⟨of_decide_eq_true (by kernel_rfl),by kernel_rfl,zFM⟩
 ·exact ⟨of_decide_eq_true (by kernel_rfl),by kernel_rfl,zFE⟩
 ·exact ⟨of_decide_eq_true (by kernel_rfl),by kernel_rfl,zEI⟩
 ·exact ⟨of_decide_eq_true (by kernel_rfl),by kernel_rfl,zEo⟩
 ·exact ⟨of_decide_eq_true (by kernel_rfl),by kernel_rfl,zDr⟩
 ·exact ⟨of_decide_eq_true (by kernel_rfl),by kernel_rfl,zD3⟩
 ·exact ⟨of_decide_eq_true (by kernel_rfl),by kernel_rfl,zCK⟩
 ·exact ⟨of_decide_eq_true (by kernel_rfl),by kernel_rfl,zC9⟩
 ·exact ⟨of_decide_eq_true (by kernel_rfl),by kernel_rfl,zFY⟩
 ·exact ⟨of_decide_eq_true (by kernel_rfl),by kernel_rfl,zFS⟩
 ·exact ⟨of_decide_eq_true (by kernel_rfl),by kernel_rfl,zGw⟩
 ·exact ⟨of_decide_eq_true (by kernel_rfl),by kernel_rfl,zEh⟩
 ·exact ⟨of_decide_eq_true (by kernel_rfl),by kernel_rfl,zHb⟩
 ·exact ⟨of_decide_eq_true (by kernel_rfl),by kernel_rfl,zAs⟩
 ·exact ⟨of_decide_eq_true (by kernel_rfl),by kernel_rfl,zFA⟩
 ·exact ⟨of_decide_eq_true (by kernel_rfl),by kernel_rfl,zED⟩
 ·exact ⟨of_decide_eq_true (by kernel_rfl),by kernel_rfl,zEB⟩
 ·exact ⟨of_decide_eq_true (by kernel_rfl),by kernel_rfl,zEJ⟩
 ·exact ⟨of_decide_eq_true (by kernel_rfl),by kernel_rfl,zyY⟩
 ·exact ⟨of_decide_eq_true (by kernel_rfl),by kernel_rfl,zDF⟩
 ·exact ⟨of_decide_eq_true (by kernel_rfl),by kernel_rfl,zAr⟩
 ·exact ⟨of_decide_eq_true (by kernel_rfl),by kernel_rfl,zvs⟩
 ·exact ⟨of_decide_eq_true (by kernel_rfl),by kernel_rfl,zFR⟩
 ·exact ⟨of_decide_eq_true (by kernel_rfl),by kernel_rfl,zvp⟩
 ·exact ⟨of_decide_eq_true (by kernel_rfl),by kernel_rfl,zxR⟩
 ·exact ⟨of_decide_eq_true (by kernel_rfl),by kernel_rfl,zvx⟩
theorem zMt:Try.prog.follows .mixedOrders=true:=by kernel_rfl
theorem zL8:zJ1 fg=true:=by kernel_rfl
theorem zL9 (L d:Nat):zmv Try.prog (xJ fg) (evF (zK rows) zKw L d):=zLa zMt zL8 zLd L d
theorem ztv (L:Nat):FOk (zK rows) L 285 (ziA xn L) 1:=xG (D:=0) (by kernel_rfl) fun m hm=>⟨zoU,zoZ L,yG,zzX L⟩
theorem zez (L:Nat):FOk (zK rows) L 269 (zcR zb L) 1:=xG (D:=0) (by kernel_rfl) fun m hm=>⟨zoa,zn4 L,yG,zyX L⟩
theorem zys (L:Nat):FOk (zK rows) L 301 (ziF zo L) 2:=xG (D:=1) (by kernel_rfl) fun m hm=>⟨zli,zk9 zb L,(zl yG (zez L m (by omega))),zw3 L⟩
theorem zkX (L:Nat):FOk (zK rows) L 306 (zbK xx L) 3:=xG (D:=2) (by kernel_rfl) fun m hm=>⟨zI,xH zo L,(zl yG (zys L m (by omega))),zkD L⟩
theorem zjQ (L:Nat):FOk (zK rows) L 300 (zbq yw L) 4:=xG (D:=3) (by kernel_rfl) fun m hm=>⟨zcI,zcG xx L,(zl yG (zkX L m (by omega))),zjg L⟩
theorem ziL (L:Nat):FOk (zK rows) L 278 (zex zd L) 5:=xG (D:=4) (by kernel_rfl) fun m hm=>⟨zn6,zn2 yw L,(zl yG (zjQ L m (by omega))),zzb L⟩
theorem znP (L:Nat):FOk (zK rows) L 270 (zgm xd L) 6:=xG (D:=5) (by kernel_rfl) fun m hm=>⟨zby,zbC xn zd L,(zl (zl yG (ztv L m (by omega))) (ziL L m (by omega))),zAC L⟩
theorem zAx (L:Nat):FOk (zK rows) L 112 (zp3 xz L) 1:=xG (D:=0) (by kernel_rfl) fun m hm=>⟨zeR,zeQ L,yG,zFX L⟩
theorem zBH (L:Nat):FOk (zK rows) L 109 (zsR zak L) 2:=xG (D:=1) (by kernel_rfl) fun m hm=>⟨zyl,zx8 xz L,(zl yG (zAx L m (by omega))),zGp L⟩
theorem zuC (L:Nat):FOk (zK rows) L 192 (zjI yL L) 1:=xG (D:=0) (by kernel_rfl) fun m hm=>⟨zcC,zcy L,yG,zBd L⟩
theorem zus (L:Nat):FOk (zK rows) L 191 (zjN yK L) 1:=xG (D:=0) (by kernel_rfl) fun m hm=>⟨zpL,zq2 L,yG,zBt L⟩
theorem zre (L:Nat):FOk (zK rows) L 157 (zgK yB L) 2:=xG (D:=1) (by kernel_rfl) fun m hm=>⟨zmW,zm5 yL yK L,(zl (zl yG (zuC L m (by omega))) (zus L m (by omega))),zyy L⟩
theorem zkY (L:Nat):FOk (zK rows) L 118 (zdv xe L) 1:=xG (D:=0) (by kernel_rfl) fun m hm=>⟨zhf,zg7 L,yG,zsJ L⟩
theorem zwO (L:Nat):FOk (zK rows) L 113 (zmb xv L) 2:=xG (D:=1) (by kernel_rfl) fun m hm=>⟨zdz,zdC xe L,(zl yG (zkY L m (by omega))),zD2 L⟩
theorem zEl (L:Nat):FOk (zK rows) L 111 (zqX xB L) 3:=xG (D:=2) (by kernel_rfl) fun m hm=>⟨zsW,ztc xv L,(zl yG (zwO L m (by omega))),zDG L⟩
theorem zBQ (L:Nat):FOk (zK rows) L 105 (zsG z7 L) 4:=xG (D:=3) (by kernel_rfl) fun m hm=>⟨zfI,zfT xz xB xv L,(zl (zl (zl yG (zAx L m (by omega))) (zEl L m (by omega))) (zwO L m (by omega))),zG5 L⟩
theorem zvc (L:Nat):FOk (zK rows) L 297 (zfE yM L) 5:=xG (D:=4) (by kernel_rfl) fun m hm=>⟨zh6,zia zak zb yB z7 L,(zl (zl (zl (zl yG (zBH L m (by omega))) (zez L m (by omega))) (zre L m (by omega))) (zBQ L m (by omega))),ztY L⟩
theorem zyo (L:Nat):FOk (zK rows) L 296 (ziP ym L) 6:=xG (D:=5) (by kernel_rfl) fun m hm=>⟨zk5,zls yM L,(zl yG (zvc L m (by omega))),zwN L⟩
theorem zAw (L:Nat):FOk (zK rows) L 295 (zkN xZ L) 7:=xG (D:=6) (by kernel_rfl) fun m hm=>⟨zbe,zbf ym L,(zl yG (zyo L m (by omega))),zy7 L⟩
theorem zzh (L:Nat):FOk (zK rows) L 205 (zjq yX L) 2:=xG (D:=1) (by kernel_rfl) fun m hm=>⟨zmS,zmG yL yK L,(zl (zl yG (zuC L m (by omega))) (zus L m (by omega))),zyg L⟩
theorem zu1 (L:Nat):FOk (zK rows) L 299 (zfP zM L) 5:=xG (D:=4) (by kernel_rfl) fun m hm=>⟨zib,zie zak yB yX z7 zb L,(zl (zl (zl (zl (zl yG (zBH L m (by omega))) (zre L m (by omega))) (zzh L m (by omega))) (zBQ L m (by omega))) (zez L m (by omega))),ztK L⟩
theorem zx7 (L:Nat):FOk (zK rows) L 298 (zik xm L) 6:=xG (D:=5) (by kernel_rfl) fun m hm=>⟨zlj,zlp zM L,(zl yG (zu1 L m (by omega))),zw2 L⟩
theorem zyF (L:Nat):FOk (zK rows) L 295 (ziI yT L) 7:=xG (D:=6) (by kernel_rfl) fun m hm=>⟨zaR,zaS xm L,(zl yG (zx7 L m (by omega))),zwL L⟩
theorem zzL (L:Nat):FOk (zK rows) L 275 (zkI xp L) 8:=xG (D:=7) (by kernel_rfl) fun m hm=>⟨znN,znO xZ yT L,(zxO (zxO yG (zAw L m (by omega))) (zyF L m (by omega))),zzo L⟩
theorem zyv (L:Nat):FOk (zK rows) L 277 (zir zr L) 1:=xG (D:=0) (by kernel_rfl) fun m hm=>⟨zld,zlo L,yG,zwS L⟩
theorem zBk (L:Nat):FOk (zK rows) L 276 (zlw zs L) 2:=xG (D:=1) (by kernel_rfl) fun m hm=>⟨zbZ,zb2 zr L,(zl yG (zyv L m (by omega))),zzP L⟩
theorem zyk (L:Nat):FOk (zK rows) L 279 (zip yr L) 1:=xG (D:=0) (by kernel_rfl) fun m hm=>⟨zlq,zlt L,yG,zxy L⟩
theorem zy0 (L:Nat):FOk (zK rows) L 276 (zjy yo L) 2:=xG (D:=1) (by kernel_rfl) fun m hm=>⟨zbr,zbs yr L,(zl yG (zyk L m (by omega))),zxY L⟩
theorem zvk (L:Nat):FOk (zK rows) L 284 (zfR zJ L) 6:=xG (D:=5) (by kernel_rfl) fun m hm=>⟨zba,zbb zd L,(zl yG (ziL L m (by omega))),ztG L⟩
theorem zjb (L:Nat):FOk (zK rows) L 266 (zdG ya L) 7:=xG (D:=6) (by kernel_rfl) fun m hm=>⟨zjK,zjD zJ L,(zl yG (zvk L m (by omega))),zvA L⟩
theorem ziq (L:Nat):FOk (zK rows) L 263 (zev xa L) 9:=xG (D:=8) (by kernel_rfl) fun m hm=>⟨zbh,zbg xd xp zs yo ya zd L,(zl (zl (zxO (zxO (zl (zl yG (znP L m (by omega))) (zzL L m (by omega))) (zBk L m (by omega))) (zy0 L m (by omega))) (zjb L m (by omega))) (ziL L m (by omega))),zy1 L⟩
theorem znl (L:Nat):FOk (zK rows) L 286 (zcB xE L) 1:=xG (D:=0) (by kernel_rfl) fun m hm=>⟨zdO,zdR L,yG,zmR L⟩
theorem zuW (L:Nat):FOk (zK rows) L 271 (zjF yq L) 7:=xG (D:=6) (by kernel_rfl) fun m hm=>⟨zp2,zqr xd xn zd xE L,(zl (zl (zl (zl yG (znP L m (by omega))) (ztv L m (by omega))) (ziL L m (by omega))) (znl L m (by omega))),zBh L⟩
theorem zni (L:Nat):FOk (zK rows) L 259 (zhJ yb L) 10:=xG (D:=9) (by kernel_rfl) fun m hm=>⟨ztg,ztj xa yq L,(zl (zl yG (ziq L m (by omega))) (zuW L m (by omega))),zDw L⟩
theorem zmN (L:Nat):FOk (zK rows) L 225 (ziN xb L) 1:=xG (D:=0) (by kernel_rfl) fun m hm=>⟨zwh,zwq L,yG,zFL L⟩
theorem zAc (L:Nat):FOk (zK rows) L 247 (zkM xY L) 1:=xG (D:=0) (by kernel_rfl) fun m hm=>⟨znG,znX L,yG,zzj L⟩
theorem zuE (L:Nat):FOk (zK rows) L 217 (zns yf L) 1:=xG (D:=0) (by kernel_rfl) fun m hm=>⟨zww,zwD L,yG,zFB L⟩
theorem zdu (L:Nat):FOk (zK rows) L 231 (zb0 za L) 2:=xG (D:=1) (by kernel_rfl) fun m hm=>⟨znK,zn7 xY yf L,(zl (zl yG (zAc L m (by omega))) (zuE L m (by omega))),zzs L⟩
theorem zFZ (L:Nat):FOk (zK rows) L 236 (zsh yF L) 3:=xG (D:=2) (by kernel_rfl) fun m hm=>⟨zu3,zu6 za L,(zl yG (zdu L m (by omega))),zEQ L⟩
theorem zxc (L:Nat):FOk (zK rows) L 115 (zmE zu L) 1:=xG (D:=0) (by kernel_rfl) fun m hm=>⟨zdw,zdx L,yG,zCN L⟩
theorem zyV (L:Nat):FOk (zK rows) L 110 (zoi yV L) 2:=xG (D:=1) (by kernel_rfl) fun m hm=>⟨zuq,zuh zu L,(zl yG (zxc L m (by omega))),zEF L⟩
theorem zvd (L:Nat):FOk (zK rows) L 194 (zjW xK L) 1:=xG (D:=0) (by kernel_rfl) fun m hm=>⟨zcA,zcz L,yG,zA9 L⟩
theorem zvg (L:Nat):FOk (zK rows) L 193 (zjU zL L) 1:=xG (D:=0) (by kernel_rfl) fun m hm=>⟨zp1,zqL L,yG,zA4 L⟩
theorem zrs (L:Nat):FOk (zK rows) L 159 (zgI zB L) 2:=xG (D:=1) (by kernel_rfl) fun m hm=>⟨zma,zm1 xK zL L,(zl (zl yG (zvd L m (by omega))) (zvg L m (by omega))),zyC L⟩
theorem zy8 (L:Nat):FOk (zK rows) L 304 (zjk xX L) 2:=xG (D:=1) (by kernel_rfl) fun m hm=>⟨zmX,zm2 xK zL L,(zl (zl yG (zvd L m (by omega))) (zvg L m (by omega))),zye L⟩
theorem zvY (L:Nat):FOk (zK rows) L 116 (zkW xq L) 2:=xG (D:=1) (by kernel_rfl) fun m hm=>⟨zrG,zr2 xe L,(zl yG (zkY L m (by omega))),zCE L⟩
theorem zCk (L:Nat):FOk (zK rows) L 114 (znm yx L) 3:=xG (D:=2) (by kernel_rfl) fun m hm=>⟨zqF,zqZ xq L,(zl yG (zvY L m (by omega))),zA1 L⟩
theorem zyO (L:Nat):FOk (zK rows) L 106 (zor zR L) 4:=xG (D:=3) (by kernel_rfl) fun m hm=>⟨zea,zej zu yx xq L,(zl (zl (zl yG (zxc L m (by omega))) (zCk L m (by omega))) (zvY L m (by omega))),zEz L⟩
theorem zlC (L:Nat):FOk (zK rows) L 294 (zgB yi L) 1:=xG (D:=0) (by kernel_rfl) fun m hm=>⟨zrE,zrM L,yG,zBZ L⟩
theorem zpz (L:Nat):FOk (zK rows) L 290 (zfq zi L) 5:=xG (D:=4) (by kernel_rfl) fun m hm=>⟨zkp,zkc yV zB xX zR yi L,(zl (zl (zl (zl (zl yG (zyV L m (by omega))) (zrs L m (by omega))) (zy8 L m (by omega))) (zyO L m (by omega))) (zlC L m (by omega))),zwc L⟩
theorem zpi (L:Nat):FOk (zK rows) L 305 (zfm yd L) 5:=xG (D:=4) (by kernel_rfl) fun m hm=>⟨zkL,zkC yV yi zB zR L,(zl (zl (zl (zl yG (zyV L m (by omega))) (zlC L m (by omega))) (zrs L m (by omega))) (zyO L m (by omega))),zwi L⟩
theorem zwM (L:Nat):FOk (zK rows) L 303 (zna zk L) 1:=xG (D:=0) (by kernel_rfl) fun m hm=>⟨zsV,zs7 L,yG,zDU L⟩
theorem zrP (L:Nat):FOk (zK rows) L 287 (zjG zg L) 2:=xG (D:=1) (by kernel_rfl) fun m hm=>⟨zcV,zcT zk L,(zl yG (zwM L m (by omega))),zC5 L⟩
theorem zCV (L:Nat):FOk (zK rows) L 302 (zoK yv L) 6:=xG (D:=5) (by kernel_rfl) fun m hm=>⟨zcm,zcr zi yd zg L,(zl (zl (zl yG (zpz L m (by omega))) (zpi L m (by omega))) (zrP L m (by omega))),zCy L⟩
theorem zqO (L:Nat):FOk (zK rows) L 281 (zif xk L) 7:=xG (D:=6) (by kernel_rfl) fun m hm=>⟨zcg,zcq yv zg L,(zl (zl yG (zCV L m (by omega))) (zrP L m (by omega))),zBW L⟩
theorem zu2 (L:Nat):FOk (zK rows) L 288 (zj0 xj L) 1:=xG (D:=0) (by kernel_rfl) fun m hm=>⟨zqR,zp9 L,yG,zBp L⟩
theorem zvi (L:Nat):FOk (zK rows) L 289 (zjJ xh L) 1:=xG (D:=0) (by kernel_rfl) fun m hm=>⟨zqk,zqS L,yG,zA0 L⟩
theorem zo5 (L:Nat):FOk (zK rows) L 291 (zhl zh L) 1:=xG (D:=0) (by kernel_rfl) fun m hm=>⟨zag,zaf L,yG,zBo L⟩
theorem zuD (L:Nat):FOk (zK rows) L 292 (zjX xg L) 2:=xG (D:=1) (by kernel_rfl) fun m hm=>⟨zqt,zqH zh L,(zl yG (zo5 L m (by omega))),zA5 L⟩
theorem zCe (L:Nat):FOk (zK rows) L 287 (zny xl L) 2:=xG (D:=1) (by kernel_rfl) fun m hm=>⟨zbS,zbR zk L,(zl yG (zwM L m (by omega))),zAS L⟩
theorem zxs (L:Nat):FOk (zK rows) L 293 (zme zG L) 6:=xG (D:=5) (by kernel_rfl) fun m hm=>⟨z8,z9 xj xl yd zh xg xh L,(zl (zl (zl (zl (zl (zl yG (zu2 L m (by omega))) (zCe L m (by omega))) (zpi L m (by omega))) (zo5 L m (by omega))) (zuD L m (by omega))) (zvi L m (by omega))),zDx L⟩
theorem zEw (L:Nat):FOk (zK rows) L 272 (zqh yD L) 8:=xG (D:=7) (by kernel_rfl) fun m hm=>⟨zsY,zsS xk zg xj xh zi zh xg yi zG L,(zl (zl (zl (zl (zl (zl (zl (zl (zl yG (zqO L m (by omega))) (zrP L m (by omega))) (zu2 L m (by omega))) (zvi L m (by omega))) (zpz L m (by omega))) (zo5 L m (by omega))) (zuD L m (by omega))) (zlC L m (by omega))) (zxs L m (by omega))),zDt L⟩
theorem zs9 (L:Nat):FOk (zK rows) L 262 (zk4 xc L) 3:=xG (D:=2) (by kernel_rfl) fun m hm=>⟨zvf,zuO za L,(zl yG (zdu L m (by omega))),zEm L⟩
theorem zC7 (L:Nat):FOk (zK rows) L 273 (zoE yA L) 8:=xG (D:=7) (by kernel_rfl) fun m hm=>⟨zrX,zrL xk zG L,(zl (zl yG (zqO L m (by omega))) (zxs L m (by omega))),zCu L⟩
theorem zoL (L:Nat):FOk (zK rows) L 260 (zje zc L) 9:=xG (D:=8) (by kernel_rfl) fun m hm=>⟨zei,zec yF za yD xc yA L,(zl (zl (zl (zl (zl yG (zFZ L m (by omega))) (zdu L m (by omega))) (zEw L m (by omega))) (zs9 L m (by omega))) (zC7 L m (by omega))),zEH L⟩
theorem zzn (L:Nat):FOk (zK rows) L 274 (zjz zt L) 3:=xG (D:=2) (by kernel_rfl) fun m hm=>⟨zmp,zmq za L,(zl yG (zdu L m (by omega))),zyG L⟩
theorem zEU (L:Nat):FOk (zK rows) L 261 (zqw yh L) 4:=xG (D:=3) (by kernel_rfl) fun m hm=>⟨zdA,zdB za zt L,(zl (zl yG (zdu L m (by omega))) (zzn L m (by omega))),zDp L⟩
theorem zqx (L:Nat):FOk (zK rows) L 283 (zig ze L) 2:=xG (D:=1) (by kernel_rfl) fun m hm=>⟨zch,zcn yi L,(zl yG (zlC L m (by omega))),zB1 L⟩
theorem zC8 (L:Nat):FOk (zK rows) L 280 (zoR xu L) 3:=xG (D:=2) (by kernel_rfl) fun m hm=>⟨zcp,zcl ze L,(zl yG (zqx L m (by omega))),zCh L⟩
theorem zCU (L:Nat):FOk (zK rows) L 282 (zoM xt L) 1:=xG (D:=0) (by kernel_rfl) fun m hm=>⟨zc8,zc5 L,yG,zCD L⟩
theorem zqD (L:Nat):FOk (zK rows) L 267 (zgb yc L) 3:=xG (D:=2) (by kernel_rfl) fun m hm=>⟨yU,zU ze L,(zl yG (zqx L m (by omega))),zw7 L⟩
theorem zB8 (L:Nat):FOk (zK rows) L 264 (znf xf L) 8:=xG (D:=7) (by kernel_rfl) fun m hm=>⟨zbV,zbY xu xk xt ze yc L,(zl (zl (zl (zl (zl yG (zC8 L m (by omega))) (zqO L m (by omega))) (zCU L m (by omega))) (zqx L m (by omega))) (zqD L m (by omega))),zAX L⟩
theorem zy6 (L:Nat):FOk (zK rows) L 265 (zjA ye L) 1:=xG (D:=0) (by kernel_rfl) fun m hm=>⟨za3,za1 L,yG,zxG L⟩
theorem zuK (L:Nat):FOk (zK rows) L 255 (zi3 zc7 L) 11:=xG (D:=10) (by kernel_rfl) fun m hm=>⟨zy,yy yb xb zc yh za xc xa xf yf ya yc ye L,(zl (zl (zl (zl (zl (zl (zl (zl (zl (zl (zl (zl yG (zni L m (by omega))) (zmN L m (by omega))) (zoL L m (by omega))) (zEU L m (by omega))) (zdu L m (by omega))) (zs9 L m (by omega))) (ziq L m (by omega))) (zB8 L m (by omega))) (zuE L m (by omega))) (zjb L m (by omega))) (zqD L m (by omega))) (zy6 L m (by omega))),ztA L⟩
theorem zwK (L:Nat):FOk (zK rows) L 268 (zmf yg L) 10:=xG (D:=9) (by kernel_rfl) fun m hm=>⟨zcU,zcX xb za xa yq L,(zl (zl (zl (zl yG (zmN L m (by omega))) (zdu L m (by omega))) (ziq L m (by omega))) (zuW L m (by omega))),zDE L⟩
theorem zGU (L:Nat):FOk (zK rows) L 256 (ziV zfC L) 11:=xG (D:=10) (by kernel_rfl) fun m hm=>⟨zE,yE yb xb zc xc yg xd zb L,(zl (zl (zl (zl (zl (zl (zl yG (zni L m (by omega))) (zmN L m (by omega))) (zoL L m (by omega))) (zs9 L m (by omega))) (zwK L m (by omega))) (znP L m (by omega))) (zez L m (by omega))),zt7 L⟩
theorem zHK (L:Nat):FOk (zK rows) L 257 (zlu zhN L) 11:=xG (D:=10) (by kernel_rfl) fun m hm=>⟨zaF,zaG yb xb zc ya xa zb L,(zl (zl (zl (zl (zl (zl yG (zni L m (by omega))) (zmN L m (by omega))) (zoL L m (by omega))) (zjb L m (by omega))) (ziq L m (by omega))) (zez L m (by omega))),zwE L⟩
theorem zGM (L:Nat):FOk (zK rows) L 258 (ziY zfK L) 11:=xG (D:=10) (by kernel_rfl) fun m hm=>⟨zav,zat yb xb zc yg yf zb L,(zl (zl (zl (zl (zl (zl yG (zni L m (by omega))) (zmN L m (by omega))) (zoL L m (by omega))) (zwK L m (by omega))) (zuE L m (by omega))) (zez L m (by omega))),ztZ L⟩
end
end Go.Proofs.Ytpafdnidhnldhaa
