/- Part 9 of the proof of FeesOrder: an abstract machine over plain values, its soundness, and the functions of the program on plain values. -/
import Derived.Test.YthplooifbkopgaaRows
import Derived.Test.YthplooifbkopgaaMFeesOrder8
namespace Go.Proofs.Ythplooifbkopgaa
section
set_option maxRecDepth 100000
set_option linter.unusedVariables false
set_option linter.unusedSimpArgs false
def zao:CC:=(.seq (.seq (.reg [oo 4 (.move (tq 2) false),
   oo 5 (.bin .lss (tq 4) (.const (.sc (.int .i64 24))))])
 (.cond (tq 5)
 .skip
 (.seq (.mask (bl 3 21) (bl 2097147 21))
 (.exit 0))))
 (.seq (.block 1 (.dreg [] [(oo 8 (.move (tq 2) false),q0),
   (oo 9 (.move (tq 2) false),q0),
   (oo 10 (.bin .sub (tq 9) (.const (.sc (.int .i64 1)))),q0),
   (oo 11 (.indexAddrA 24 1 (tq 1) (tq 10)),q0),
   (oo 12 (.load false 1 (tq 11) false),qc [] []),
   (oo 13 (.move (tq 2) false),q0),
   (oo 14 (.bin .sub (tq 13) (.const (.sc (.int .i64 1)))),q0),
   (oo 15 (.indexAddrA 24 1 (tq 1) (tq 14)),q0),
   (oo 16 (.load false 1 (tq 15) false),qc [] []),
   (oo 17 (.bin .quo (tq 16) (.const (.sc (.int .i64 2)))),q0),
   (oo 18 (.bin .add (tq 12) (tq 17)),q0),
   (oo 19 (.indexAddrA 24 1 (tq 1) (tq 8)),q0),
   (oz (.store 1 (tq 19) (tq 18)),q0)]))
 (.reg [oo 6 (.move (tq 2) false),
   oo 7 (.bin .add (tq 6) (.const (.sc (.int .i64 1)))),
   oo 2 (.move (tq 7) false)])))
def zdJ:CC:=(.seq (.reg [oo 20 (.load true 24 (tq 1) false),
   oz (.store 24 (tq 0) (tq 20))])
 .ret)
def zax:CF:=⟨21,[.cell 0 true 24],
 (.seq (.reg [oo 0 (.alloc true (rp 24 (.sc (.int .i64 0)) []))])
 (.seq (.reg [oo 3 (.build (rp 24 (.sc (.int .i64 0)) []) [(0,1,(.const (.sc (.int .i64 10))))]),
   oo 1 (.alloc true (rp 24 (.sc (.int .i64 0)) [])),
   oz (.store 24 (tq 1) (tq 3))])
 (.seq (.seq (.reg [oo 2 (.move (.const (.sc (.int .i64 1))) false)])
 (.block 0 (.loop (bl 7 21) (bl 2097151 21)
 zao)))
 zdJ)))⟩
def zgc:Hint:=⟨[],[],[none,some ((bl 7 21),(bl 2097151 21)),none,some ((bl 3 21),(bl 2097147 21)),none,none],[],[],false,false,[]⟩
def zO:Nat→Sh:=zbi [(12,(.int .i64)),(16,(.int .i64))]
def xN (L:Nat):CBC:=noC
def zbw:St→St:=zaj 0 (bl 7 21) (bl 2097151 21)
def zaN (p2:Int) (b0 b1:List V):St:=⟨((V.ptr 0 0)::((V.ptr 1 0)::((V.sc (.int .i64 p2))::(jn 18 [])))),((.live true b0)::((.live true b1)::(gn 19 [])))⟩
def zdg (b0 b1:List V):St:=⟨((V.ptr 0 0)::((V.ptr 1 0)::(jn 19 []))),((.live true b0)::((.live true b1)::(gn 19 [])))⟩
def zh2 {β:Type} (L:Nat) (k_hbbaba:Int→List V→List V→Option β):Option β :=
 lt ([(V.sc (.int .i64 (10:Int)))]++List.replicate 23 (V.sc (.int .i64 (0:Int)))) fun r0 =>
 k_hbbaba (1:Int) (List.replicate 24 (V.sc (.int .i64 (0:Int)))) r0
theorem zki {β:Type} (L:Nat) (k:KK β):yu zO (xN L) L zax [] [] k=zh2 L (fun p2 b0 b1=>xx (zm zO (xN L) 0 L zao) zbw L (zaN p2 b0 b1) (yB 0 (xX (zm zO (xN L) 0 L zdJ) (zat 0 (CF.res zax) k)))):=by kernel_rfl
def zfn {β:Type} (L:Nat) (p2:Int) (b0 b1:List V) (k_hbbaba:Int→List V→List V→Option β) (k_x0:List V→List V→Option β):Option β :=
 ifb (decide (p2 < (24:Int))) (
 lt (IntKind.wrap .i64 ((p2:Int) - (1:Int))) fun x1 =>
 chk (0≤x1∧x1 < ((24:Nat):Int)) (
 cI .i64 b1 (0+((Int.toNat x1) * 1)) fun v2 =>
 lt (IntKind.wrap .i64 ((p2:Int) - (1:Int))) fun x3 =>
 chk (0≤x3∧x3 < ((24:Nat):Int)) (
 cI .i64 b1 (0+((Int.toNat x3) * 1)) fun v4 =>
 lt (IntKind.wrap .i64 (Int.tdiv v4 (2:Int))) fun x5 =>
 lt (IntKind.wrap .i64 ((v2:Int)+x5)) fun x6 =>
 chk (0≤p2∧p2 < ((24:Nat):Int)) (
 chk (1=1∧(0+((Int.toNat p2) * 1))+1≤(List.length b1)) (
 lt (xh b1 (0+((Int.toNat p2) * 1)) [(V.sc (.int .i64 x6))]) fun r7 =>
 lt (IntKind.wrap .i64 ((p2:Int)+(1:Int))) fun x8 =>
 k_hbbaba x8 b0 r7))))) (
 k_x0 b0 b1)
theorem zg9 {β:Type} (L:Nat) (p2:Int) (b0 b1:List V) (X:St→Option β) (K:KT β):zm zO (xN L) 0 L zao (zaN p2 b0 b1) (zbq zbw X K)=zfn L p2 b0 b1 (fun p2 b0 b1=>X (zaN p2 b0 b1)) (fun b0 b1=>K (.exit 0) (zdg b0 b1)):=by kernel_rfl
def zeg {β:Type} (L:Nat) (b0 b1:List V) (k_fin:List V→Option β):Option β :=
 chk (0+24≤(List.length b1)) (
 chk ((List.length (List.take 24 b1))=24∧0+24≤(List.length b0)) (
 lt (xh b0 0 (List.take 24 b1)) fun r9 =>
 chk (0=0∧(List.length r9)=24∧24≠0) (
 k_fin r9)))
theorem zgs {β:Type} (L:Nat) (b0 b1:List V) (k:KK β):(yB 0 (xX (zm zO (xN L) 0 L zdJ) (zat 0 (CF.res zax) k))) (.exit 0) (zdg b0 b1)=zeg L b0 b1 (fun p0=>k (V.agg p0) []):=by kernel_rfl
def zcM {β:Type} (L:Nat) (k_x0:List V→List V→Option β):Nat→Int→List V→List V→Option β
 | 0,_,_,_=>none
 | n+1,p2,b0,b1=>zfn L p2 b0 b1 (fun p2 b0 b1=>zcM L k_x0 n p2 b0 b1) k_x0
theorem zdX {β:Type} (L:Nat) (K:KT β):∀ (n:Nat) (p2:Int) (b0 b1:List V),xx (zm zO (xN L) 0 L zao) zbw n (zaN p2 b0 b1) K=zcM L (fun b0 b1=>K (.exit 0) (zdg b0 b1)) n p2 b0 b1:=by
 intro n
 induction n with
 | zero=>intros; rfl
 | succ n ih =>
  intro p2 b0 b1
  refine (zg9 L p2 b0 b1 (fun σ=>xx (zm zO (xN L) 0 L zao) zbw n σ K) K).trans ?_
  simp only [ih]
  rfl
def zfE {β:Type} (L:Nat) (k_fin:List V→Option β):Option β :=
 zh2 L (fun p2 b0 b1=>zcM L (fun b0 b1=>zeg L b0 b1 k_fin) L p2 b0 b1)
theorem zka {β:Type} (L:Nat) (k:KK β):yu zO (xN L) L zax [] [] k=zfE L (fun p0=>k (V.agg p0) []):=by
 refine (zki L k).trans ?_
 unfold zfE
 first
  | (simp only [zdX,zgs]; done)
  | (simp only [zdX]; rfl)
abbrev yz:=∀ (β:Type),Nat→(List V→Option β)→Option β
def xd (β:Type) (L:Nat) (k_fin:List V→Option β):Option β:=zfE L k_fin
def zcb (xd:yz) (L:Nat) (β:Type) (args:List V) (bor:Bor) (k:KK β):Option β:=match args,bor with
 | [],[]=>xd β L (fun p0=>k (V.agg p0) [])
 | _,_=>none
theorem zj9 (L:Nat) (β:Type) (args:List V) (bor:Bor) (k:KK β) (r:β) (h:zcb xd L β args bor k=some r):yu zO (xN L) L zax args bor k=some r:=by
 unfold zcb at h
 split at h
 ·exact (zka L k).trans h
 ·cases h
def zdz:CF:=⟨12,[.tmp 2],
 (.seq (.reg [oo 2 (.move (.const (.sc (.int .i64 0))) false)])
 (.seq (.seq (.reg [oo 3 (.move (tq 0) false),
   oo 4 (.bin .lss (tq 3) (.const (.sc (.int .i64 0)))),
   oo 5 (.move (tq 4) false),
   ⟨(some 6),false,(some (5,false)),.move (tq 0) false⟩,
   ⟨(some 7),false,(some (5,false)),.bin .geq (tq 6) (.const (.sc (.int .i64 24)))⟩,
   oo 8 (.pick (tq 5) (.const (.sc (.bool true))) (tq 7))])
 (.cond (tq 8)
 (.seq (.reg [oo 2 (.move (.const (.sc (.int .i64 0))) false)])
 .ret)
 .skip))
 (.seq (.reg [oo 9 (.call 243 [] []),
   oo 10 (.move (tq 0) false),
   oo 11 (.indexA false 24 1 (tq 9) (tq 10)),
   oo 2 (.move (tq 11) false)])
 .ret)))⟩
def zgI:Hint:=⟨[],[],[none,none,none],[],[],false,false,[]⟩
def zfG:Nat→Sh:=zbi [(11,(.int .i64))]
def zfw (xd:yz) (L:Nat):CBC:=(z4 243 (zcb xd L) noC)
def ziH {β:Type} (xd:yz) (L:Nat) (p0:Int) (k_fin:Int→Option β):Option β :=
 ifb (decide (p0 < (0:Int))) (
 k_fin (0:Int)) (
 ifb (decide (p0 ≥ (24:Int))) (
 k_fin (0:Int)) (
 xd β L  (fun v0 =>
 chk (0≤p0∧p0 < ((24:Nat):Int)) (
 cI .i64 v0 ((Int.toNat p0) * 1) fun v1 =>
 k_fin v1))))
theorem zkm {β:Type} (xd:yz) (L:Nat) (p0:Int) (k:KK β):yu zfG (zfw xd L) L zdz [(V.sc (.int .i64 p0))] [] k=ziH xd L p0 (fun p0=>k (V.sc (.int .i64 p0)) []):=by kernel_rfl
abbrev zk:=∀ (β:Type),Nat→Int→(Int→Option β)→Option β
def ya (β:Type) (L:Nat) (p0:Int) (k_fin:Int→Option β):Option β:=ziH xd L p0 k_fin
def zbM (ya:zk) (L:Nat) (β:Type) (args:List V) (bor:Bor) (k:KK β):Option β:=match args,bor with
 | [a0],[]=>aI .i64 a0 fun p0=>ya β L p0 (fun p0=>k (V.sc (.int .i64 p0)) [])
 | _,_=>none
theorem zkO (L:Nat) (β:Type) (args:List V) (bor:Bor) (k:KK β) (r:β) (h:zbM ya L β args bor k=some r):yu zfG (zfw xd L) L zdz args bor k=some r:=by
 unfold zbM at h
 split at h
 ·have q:=xv h; clear h; obtain ⟨p0,rfl,h⟩:=q
  exact (zkm xd L p0 k).trans h
 ·cases h
def zaE:CC:=(.seq (.reg [oo 8 (.bin .lss (tq 7) (.const (.sc (.int .i64 24))))])
 (.seq (.cond (tq 8)
 .skip
 (.seq (.mask (bl 8 17) (bl 131023 17))
 (.exit 0)))
 (.seq (.block 1 (.seq (.reg [oo 9 (.move (tq 7) false),
   oo 10 (.indexA false 24 1 (tq 6) (tq 7)),
   oo 4 (.move (tq 9) false),
   oo 5 (.move (tq 10) false)])
 (.seq (.reg [oo 11 (.move (tq 5) false),
   oo 12 (.move (tq 0) false),
   oo 13 (.bin .leq (tq 11) (tq 12))])
 (.cond (tq 13)
 (.reg [oo 14 (.move (tq 4) false),
   oo 3 (.move (tq 14) false)])
 .skip))))
 (.reg [oo 15 (.bin .add (tq 7) (.const (.sc (.int .i64 1)))),
   oo 7 (.move (tq 15) false)]))))
def zeO:CC:=(.seq (.reg [oo 16 (.move (tq 3) false),
   oo 2 (.move (tq 16) false)])
 .ret)
def zaQ:CF:=⟨17,[.tmp 2],
 (.seq (.reg [oo 2 (.move (.const (.sc (.int .i64 0))) false)])
 (.seq (.reg [oo 3 (.move (.const (.sc (.int .i64 (-1)))) false)])
 (.seq (.seq (.reg [oo 6 (.call 243 [] []),
   oo 7 (.move (.const (.sc (.int .i64 0))) false)])
 (.block 0 (.loop (bl 201 17) (bl 131023 17)
 zaE)))
 zeO)))⟩
def zgx:Hint:=⟨[],[],[none,some ((bl 201 17),(bl 131023 17)),none,some ((bl 8 17),(bl 131023 17)),none,none,none],[],[],false,false,[]⟩
def yT:Nat→Sh:=zbi [(10,(.int .i64))]
def xU (xd:yz) (L:Nat):CBC:=(z4 243 (zcb xd L) noC)
def zbF:St→St:=zaj 0 (bl 201 17) (bl 131023 17)
def za3 (p0 p3:Int) (p6:List V) (p7:Int):St:=⟨((V.sc (.int .i64 p0))::(jn 2 ((V.sc (.int .i64 p3))::(jn 2 ((V.agg p6)::((V.sc (.int .i64 p7))::(jn 9 []))))))),(gn 17 [])⟩
def zdG (p3:Int):St:=⟨(jn 3 ((V.sc (.int .i64 p3))::(jn 13 []))),(gn 17 [])⟩
def zgh {β:Type} (xd:yz) (L:Nat) (p0:Int) (k_hbbaba:Int→Int→List V→Int→Option β):Option β :=
 xd β L  (fun v0 =>
 k_hbbaba p0 (-1:Int) v0 (0:Int))
theorem zkl {β:Type} (xd:yz) (L:Nat) (p0:Int) (k:KK β):yu yT (xU xd L) L zaQ [(V.sc (.int .i64 p0))] [] k=zgh xd L p0 (fun p0 p3 p6 p7=>xx (zm yT (xU xd L) 0 L zaE) zbF L (za3 p0 p3 p6 p7) (yB 0 (xX (zm yT (xU xd L) 0 L zeO) (zat 0 (CF.res zaQ) k)))):=by kernel_rfl
def zc9 {β:Type} (xd:yz) (L:Nat) (p0 p3:Int) (p6:List V) (p7:Int) (k_hbbaba:Int→Int→List V→Int→Option β) (k_x0:Int→Option β):Option β :=
 ifb (decide (p7 < (24:Int))) (
 chk (0≤p7∧p7 < ((24:Nat):Int)) (
 cI .i64 p6 ((Int.toNat p7) * 1) fun v1 =>
 ifb (decide (v1≤p0)) (
 lt (IntKind.wrap .i64 ((p7:Int)+(1:Int))) fun x2 =>
 k_hbbaba p0 p7 p6 x2) (
 lt (IntKind.wrap .i64 ((p7:Int)+(1:Int))) fun x3 =>
 k_hbbaba p0 p3 p6 x3))) (
 k_x0 p3)
theorem zhS {β:Type} (xd:yz) (L:Nat) (p0 p3:Int) (p6:List V) (p7:Int) (X:St→Option β) (K:KT β):zm yT (xU xd L) 0 L zaE (za3 p0 p3 p6 p7) (zbq zbF X K)=zc9 xd L p0 p3 p6 p7 (fun p0 p3 p6 p7=>X (za3 p0 p3 p6 p7)) (fun p3=>K (.exit 0) (zdG p3)):=by kernel_rfl
def zeS {β:Type} (xd:yz) (L:Nat) (p3:Int) (k_fin:Int→Option β):Option β :=
 k_fin p3
theorem zgS {β:Type} (xd:yz) (L:Nat) (p3:Int) (k:KK β):(yB 0 (xX (zm yT (xU xd L) 0 L zeO) (zat 0 (CF.res zaQ) k))) (.exit 0) (zdG p3)=zeS xd L p3 (fun p0=>k (V.sc (.int .i64 p0)) []):=by kernel_rfl
def zaX {β:Type} (xd:yz) (L:Nat) (k_x0:Int→Option β):Nat→Int→Int→List V→Int→Option β
 | 0,_,_,_,_=>none
 | n+1,p0,p3,p6,p7=>zc9 xd L p0 p3 p6 p7 (fun p0 p3 p6 p7=>zaX xd L k_x0 n p0 p3 p6 p7) k_x0
theorem zej {β:Type} (xd:yz) (L:Nat) (K:KT β):∀ (n:Nat) (p0 p3:Int) (p6:List V) (p7:Int),xx (zm yT (xU xd L) 0 L zaE) zbF n (za3 p0 p3 p6 p7) K=zaX xd L (fun p3=>K (.exit 0) (zdG p3)) n p0 p3 p6 p7:=by
 intro n
 induction n with
 | zero=>intros; rfl
 | succ n ih =>
  intro p0 p3 p6 p7
  refine (zhS xd L p0 p3 p6 p7 (fun σ=>xx (zm yT (xU xd L) 0 L zaE) zbF n σ K) K).trans ?_
  simp only [ih]
  rfl
def zeD {β:Type} (xd:yz) (L:Nat) (p0:Int) (k_fin:Int→Option β):Option β :=
 zgh xd L p0 (fun p0 p3 p6 p7=>zaX xd L (fun p3=>zeS xd L p3 k_fin) L p0 p3 p6 p7)
theorem zk2 {β:Type} (xd:yz) (L:Nat) (p0:Int) (k:KK β):yu yT (xU xd L) L zaQ [(V.sc (.int .i64 p0))] [] k=zeD xd L p0 (fun p0=>k (V.sc (.int .i64 p0)) []):=by
 refine (zkl xd L p0 k).trans ?_
 unfold zeD
 first
  | (simp only [zej,zgS]; done)
  | (simp only [zej]; rfl)
abbrev xp:=∀ (β:Type),Nat→Int→(Int→Option β)→Option β
def xb (β:Type) (L:Nat) (p0:Int) (k_fin:Int→Option β):Option β:=zeD xd L p0 k_fin
def zcF (xb:xp) (L:Nat) (β:Type) (args:List V) (bor:Bor) (k:KK β):Option β:=match args,bor with
 | [a0],[]=>aI .i64 a0 fun p0=>xb β L p0 (fun p0=>k (V.sc (.int .i64 p0)) [])
 | _,_=>none
theorem zkr (L:Nat) (β:Type) (args:List V) (bor:Bor) (k:KK β) (r:β) (h:zcF xb L β args bor k=some r):yu yT (xU xd L) L zaQ args bor k=some r:=by
 unfold zcF at h
 split at h
 ·have q:=xv h; clear h; obtain ⟨p0,rfl,h⟩:=q
  exact (zk2 xd L p0 k).trans h
 ·cases h
def zey:CF:=⟨24,[.tmp 4],
 (.seq (.reg [oo 4 (.move (.const (.sc (.int .i64 0))) false)])
 (.seq (.seq (.reg [oo 5 (.move (tq 0) false),
   oo 6 (.bin .lss (tq 5) (.const (.sc (.int .i64 0)))),
   oo 7 (.move (tq 6) false),
   ⟨(some 8),false,(some (7,false)),.move (tq 0) false⟩,
   ⟨(some 9),false,(some (7,false)),.bin .gtr (tq 8) (.const (.sc (.int .i64 2100000000000000)))⟩,
   oo 10 (.pick (tq 7) (.const (.sc (.bool true))) (tq 9)),
   oo 11 (.move (tq 10) false),
   ⟨(some 12),false,(some (11,false)),.move (tq 1) false⟩,
   ⟨(some 13),false,(some (11,false)),.bin .lss (tq 12) (.const (.sc (.int .i64 1)))⟩,
   oo 14 (.pick (tq 11) (.const (.sc (.bool true))) (tq 13)),
   oo 15 (.move (tq 14) false),
   ⟨(some 16),false,(some (15,false)),.move (tq 1) false⟩,
   ⟨(some 17),false,(some (15,false)),.bin .gtr (tq 16) (.const (.sc (.int .i64 80000)))⟩,
   oo 18 (.pick (tq 15) (.const (.sc (.bool true))) (tq 17))])
 (.cond (tq 18)
 (.seq (.reg [oo 4 (.move (.const (.sc (.int .i64 0))) false)])
 .ret)
 .skip))
 (.seq (.reg [oo 19 (.move (tq 0) false),
   oo 20 (.bin .mul (.const (.sc (.int .i64 1000))) (tq 19)),
   oo 21 (.move (tq 1) false),
   oo 22 (.bin .quo (tq 20) (tq 21)),
   oo 23 (.mm false (tq 22) (.const (.sc (.int .i64 1048576)))),
   oo 4 (.move (tq 23) false)])
 .ret)))⟩
def zhs:Hint:=⟨[],[],[none,none,none],[],[],false,false,[]⟩
def zgm:Nat→Sh:=zbi []
def zf5 (L:Nat):CBC:=noC
def zjI {β:Type} (L:Nat) (p0 p1:Int) (k_fin:Int→Option β):Option β :=
 ifb (decide (p0 < (0:Int))) (
 k_fin (0:Int)) (
 ifb (decide (p0 > (2100000000000000:Int))) (
 k_fin (0:Int)) (
 ifb (decide (p1 < (1:Int))) (
 k_fin (0:Int)) (
 ifb (decide (p1 > (80000:Int))) (
 k_fin (0:Int)) (
 lt (IntKind.wrap .i64 (((1000:Int):Int) * p0)) fun x0 =>
 chk (p1≠0) (
 lt (IntKind.wrap .i64 (Int.tdiv x0 p1)) fun x1 =>
 lt (zrR x1 (1048576:Int)) fun x2 =>
 k_fin x2)))))
theorem zlJ {β:Type} (L:Nat) (p0 p1:Int) (k:KK β):yu zgm (zf5 L) L zey [(V.sc (.int .i64 p0)),(V.sc (.int .i64 p1))] [] k=zjI L p0 p1 (fun p0=>k (V.sc (.int .i64 p0)) []):=by kernel_rfl
abbrev ze8:=∀ (β:Type),Nat→Int→Int→(Int→Option β)→Option β
def xD (β:Type) (L:Nat) (p0 p1:Int) (k_fin:Int→Option β):Option β:=zjI L p0 p1 k_fin
def zff (xD:ze8) (L:Nat) (β:Type) (args:List V) (bor:Bor) (k:KK β):Option β:=match args,bor with
 | [a0,a1],[]=>aI .i64 a0 fun p0=>aI .i64 a1 fun p1=>xD β L p0 p1 (fun p0=>k (V.sc (.int .i64 p0)) [])
 | _,_=>none
theorem zlK (L:Nat) (β:Type) (args:List V) (bor:Bor) (k:KK β) (r:β) (h:zff xD L β args bor k=some r):yu zgm (zf5 L) L zey args bor k=some r:=by
 unfold zff at h
 split at h
 ·have q:=xv h; clear h; obtain ⟨p0,rfl,h⟩:=q
  have q:=xv h; clear h; obtain ⟨p1,rfl,h⟩:=q
  exact (zlJ L p0 p1 k).trans h
 ·cases h
def zdC:CF:=⟨19,[.tmp 0],
 (.seq (.reg [oo 0 (.move (.const (.sc (.bool false))) false)])
 (.seq (.reg [oo 1 (.call 220 [((.const (.sc (.int .i64 0))),0)] []),
   oo 2 (.bin .eql (tq 1) (.const (.sc (.int .i64 10)))),
   oo 3 (.move (tq 2) false),
   ⟨(some 4),false,(some (3,true)),.call 220 [((.const (.sc (.int .i64 3))),0)] []⟩,
   ⟨(some 5),false,(some (3,true)),.bin .eql (tq 4) (.const (.sc (.int .i64 33)))⟩,
   oo 6 (.pick (tq 3) (tq 5) (.const (.sc (.bool false)))),
   oo 7 (.move (tq 6) false),
   ⟨(some 8),false,(some (7,true)),.call 222 [((.const (.sc (.int .i64 21))),0)] []⟩,
   ⟨(some 9),false,(some (7,true)),.bin .eql (tq 8) (.const (.sc (.int .i64 1)))⟩,
   oo 10 (.pick (tq 7) (tq 9) (.const (.sc (.bool false)))),
   oo 11 (.move (tq 10) false),
   ⟨(some 12),false,(some (11,true)),.call 222 [((.const (.sc (.int .i64 9))),0)] []⟩,
   ⟨(some 13),false,(some (11,true)),.bin .eql (tq 12) (.const (.sc (.int .i64 (-1))))⟩,
   oo 14 (.pick (tq 11) (tq 13) (.const (.sc (.bool false)))),
   oo 15 (.move (tq 14) false),
   ⟨(some 16),false,(some (15,true)),.call 218 [((.const (.sc (.int .i64 5))),0),((.const (.sc (.int .i64 1000))),0)] []⟩,
   ⟨(some 17),false,(some (15,true)),.bin .eql (tq 16) (.const (.sc (.int .i64 5)))⟩,
   oo 18 (.pick (tq 15) (tq 17) (.const (.sc (.bool false)))),
   oo 0 (.move (tq 18) false)])
 .ret))⟩
def zgC:Hint:=⟨[],[],[none],[],[],false,false,[]⟩
def zfu:Nat→Sh:=zbi []
def zfv (ya:zk) (xb:xp) (xD:ze8) (L:Nat):CBC:=(z4 218 (zff xD L) (z4 222 (zcF xb L) (z4 220 (zbM ya L) noC)))
def ziP {β:Type} (ya:zk) (xb:xp) (xD:ze8) (L:Nat) (k_fin:Bool→Option β):Option β :=
 ya β L (0:Int) (fun v0 =>
 ifb ((v0:Int) == (10:Int)) (
 ya β L (3:Int) (fun v1 =>
 ifb ((v1:Int) == (33:Int)) (
 xb β L (21:Int) (fun v2 =>
 ifb ((v2:Int) == (1:Int)) (
 xb β L (9:Int) (fun v3 =>
 ifb ((v3:Int) == (-1:Int)) (
 xD β L (5:Int) (1000:Int) (fun v4 =>
 k_fin ((v4:Int) == (5:Int)))) (
 k_fin false))) (
 k_fin false))) (
 k_fin false))) (
 k_fin false))
theorem zk0 {β:Type} (ya:zk) (xb:xp) (xD:ze8) (L:Nat) (k:KK β):yu zfu (zfv ya xb xD L) L zdC [] [] k=ziP ya xb xD L (fun p0=>k (V.sc (.bool p0)) []):=by kernel_rfl
abbrev zs:=∀ (β:Type),Nat→(Bool→Option β)→Option β
def xc (β:Type) (L:Nat) (k_fin:Bool→Option β):Option β:=ziP ya xb xD L k_fin
def zea (xc:zs) (L:Nat) (β:Type) (args:List V) (bor:Bor) (k:KK β):Option β:=match args,bor with
 | [],[]=>xc β L (fun p0=>k (V.sc (.bool p0)) [])
 | _,_=>none
theorem zlh (L:Nat) (β:Type) (args:List V) (bor:Bor) (k:KK β) (r:β) (h:zea xc L β args bor k=some r):yu zfu (zfv ya xb xD L) L zdC args bor k=some r:=by
 unfold zea at h
 split at h
 ·exact (zk0 ya xb xD L k).trans h
 ·cases h
def zfa:CF:=⟨6,[.tmp 2],
 (.seq (.reg [oo 2 (.move (.const (.sc (.pointer none))) false)])
 (.seq (.reg [oo 3 (.move (tq 0) false),
   oo 4 (.build [(.sl 1 []),(.sc (.int .i64 0))] [(0,1,(tq 3))]),
   oo 5 (.box false (tq 4)),
   oo 2 (.move (tq 5) false)])
 .ret))⟩
def zh3:Hint:=⟨[],[],[none],[],[],false,false,[]⟩
def zgN:Nat→Sh:=zbi []
def zg4 (L:Nat):CBC:=noC
def zhO {β:Type} (L:Nat) (p0:List (List V)) (k_fin:List (List V)→Int→Option β):Option β :=
 k_fin p0 (0:Int)
theorem zmx {β:Type} (L:Nat) (p0:List (List V)) (k:KK β):yu zgN (zg4 L) L zfa [(V.sl 1 p0)] [] k=zhO L p0 (fun zso zsp=>k (V.bx false [(V.sl 1 zso),(V.sc (.int .i64 zsp))]) []):=by kernel_rfl
abbrev xy:=∀ (β:Type),Nat→List (List V)→(List (List V)→Int→Option β)→Option β
def yd (β:Type) (L:Nat) (p0:List (List V)) (k_fin:List (List V)→Int→Option β):Option β:=zhO L p0 k_fin
def zfM (yd:xy) (L:Nat) (β:Type) (args:List V) (bor:Bor) (k:KK β):Option β:=match args,bor with
 | [a0],[]=>aL 1 a0 fun p0=>yd β L p0 (fun zso zsp=>k (V.bx false [(V.sl 1 zso),(V.sc (.int .i64 zsp))]) [])
 | _,_=>none
theorem zmw (L:Nat) (β:Type) (args:List V) (bor:Bor) (k:KK β) (r:β) (h:zfM yd L β args bor k=some r):yu zgN (zg4 L) L zfa args bor k=some r:=by
 unfold zfM at h
 split at h
 ·have q:=zbo h; clear h; obtain ⟨p0,rfl,h⟩:=q
  exact (zmx L p0 k).trans h
 ·cases h
def zbC:CF:=⟨13,[.tmp 2],
 (.seq (.reg [oo 2 (.move (.const (.sc (.bool false))) false)])
 (.seq (.dreg [] [(oo 3 (.move (tq 0) false),q0),
   (oo 4 (.nilCheck (tq 3)),q0),
   (oo 5 (.fieldAddr 1 (tq 4)),q0),
   (oo 6 (.load false 1 (tq 5) false),ql 0 [] []),
   (oo 7 (.move (tq 0) false),q0),
   (oo 8 (.nilCheck (tq 7)),q0),
   (oo 9 (.fieldAddr 0 (tq 8)),q0),
   (oo 10 (.load false 1 (tq 9) false),ql 0 [] []),
   (oo 11 (.lenS (tq 10)),q0),
   (oo 12 (.bin .lss (tq 6) (tq 11)),q0),
   (oo 2 (.move (tq 12) false),q0)])
 .ret))⟩
def zeU:Hint:=⟨[],[],[none],[],[],false,false,[]⟩
def zc7:Nat→Sh:=zbi []
def zde (L:Nat):CBC:=noC
def zb1 {β:Type} (L:Nat) (zsk:List (List V)) (zsl:Int) (k_fin:Bool→List (List V)→Int→Option β):Option β :=
 k_fin (decide (zsl < ((List.length zsk:Nat):Int))) zsk zsl
theorem zh9 {β:Type} (L:Nat) (zsk:List (List V)) (zsl:Int) (k:KK β):yu zc7 (zde L) L zbC [(V.ptr 0 0)] [(.live false [(V.sl 1 zsk),(V.sc (.int .i64 zsl))])] k=zb1 L zsk zsl (fun p0 zsk zsl=>k (V.sc (.bool p0)) [(.live false [(V.sl 1 zsk),(V.sc (.int .i64 zsl))])]):=by kernel_rfl
abbrev zbW:=∀ (β:Type),Nat→List (List V)→Int→(Bool→List (List V)→Int→Option β)→Option β
def zq (β:Type) (L:Nat) (zsk:List (List V)) (zsl:Int) (k_fin:Bool→List (List V)→Int→Option β):Option β:=zb1 L zsk zsl k_fin
def zbU (zq:zbW) (L:Nat) (β:Type) (args:List V) (bor:Bor) (k:KK β):Option β:=match args,bor with
 | [a0],[(.live false [w0_0,w0_1])]=>aP 0 0 a0 (aL 1 w0_0 fun zsk=>aI .i64 w0_1 fun zsl=>zq β L zsk zsl (fun p0 zsk zsl=>k (V.sc (.bool p0)) [(.live false [(V.sl 1 zsk),(V.sc (.int .i64 zsl))])]))
 | _,_=>none
theorem zie (L:Nat) (β:Type) (args:List V) (bor:Bor) (k:KK β) (r:β) (h:zbU zq L β args bor k=some r):yu zc7 (zde L) L zbC args bor k=some r:=by
 unfold zbU at h
 split at h
 ·have q:=ziw h; clear h; obtain ⟨rfl,h⟩:=q
  have q:=zbo h; clear h; obtain ⟨zsk,rfl,h⟩:=q
  have q:=xv h; clear h; obtain ⟨zsl,rfl,h⟩:=q
  exact (zh9 L zsk zsl k).trans h
 ·cases h
def zfe:CF:=⟨15,[.tmp 4],
 (.seq (.reg [oo 4 (.move (.const (.sc (.int .i64 0))) false)])
 (.seq (.reg [oo 6 (.move (tq 0) false),
   oo 7 (.move (tq 1) false),
   oo 8 (.bin .rem (tq 6) (tq 7)),
   oo 5 (.move (tq 8) false)])
 (.seq (.seq (.reg [oo 9 (.move (tq 5) false),
   oo 10 (.bin .lss (tq 9) (.const (.sc (.int .i64 0))))])
 (.cond (tq 10)
 (.reg [oo 11 (.move (tq 5) false),
   oo 12 (.move (tq 1) false),
   oo 13 (.bin .add (tq 11) (tq 12)),
   oo 5 (.move (tq 13) false)])
 .skip))
 (.seq (.reg [oo 14 (.move (tq 5) false),
   oo 4 (.move (tq 14) false)])
 .ret))))⟩
def zh5:Hint:=⟨[],[],[none,none],[],[],false,false,[]⟩
def zgW:Nat→Sh:=zbi []
def zg7 (L:Nat):CBC:=noC
def zfQ {β:Type} (L:Nat) (p0 p1:Int) (k_fin:Int→Option β):Option β :=
 chk (p1≠0) (
 lt (Int.tmod p0 p1) fun x0 =>
 ifb (decide (x0 < (0:Int))) (
 lt (IntKind.wrap .i64 ((x0:Int)+p1)) fun x1 =>
 k_fin x1) (
 k_fin x0))
theorem zmy {β:Type} (L:Nat) (p0 p1:Int) (k:KK β):yu zgW (zg7 L) L zfe [(V.sc (.int .i64 p0)),(V.sc (.int .i64 p1))] [] k=zfQ L p0 p1 (fun p0=>k (V.sc (.int .i64 p0)) []):=by kernel_rfl
abbrev zu:=∀ (β:Type),Nat→Int→Int→(Int→Option β)→Option β
def yc (β:Type) (L:Nat) (p0 p1:Int) (k_fin:Int→Option β):Option β:=zfQ L p0 p1 k_fin
def zed (yc:zu) (L:Nat) (β:Type) (args:List V) (bor:Bor) (k:KK β):Option β:=match args,bor with
 | [a0,a1],[]=>aI .i64 a0 fun p0=>aI .i64 a1 fun p1=>yc β L p0 p1 (fun p0=>k (V.sc (.int .i64 p0)) [])
 | _,_=>none
theorem zms (L:Nat) (β:Type) (args:List V) (bor:Bor) (k:KK β) (r:β) (h:zed yc L β args bor k=some r):yu zgW (zg7 L) L zfe args bor k=some r:=by
 unfold zed at h
 split at h
 ·have q:=xv h; clear h; obtain ⟨p0,rfl,h⟩:=q
  have q:=xv h; clear h; obtain ⟨p1,rfl,h⟩:=q
  exact (zmy L p0 p1 k).trans h
 ·cases h
def zbD:CF:=⟨28,[.tmp 4],
 (.seq (.reg [oo 4 (.move (.const (.sc (.int .i64 0))) false)])
 (.seq (.seq (.reg [oo 5 (.move (tq 0) false),
   oo 6 (.call 247 [((tq 5),0)] []),
   oo 7 (.un .not (tq 6))])
 (.cond (tq 7)
 (.seq (.reg [oo 4 (.move (.const (.sc (.int .i64 0))) false)])
 .ret)
 .skip))
 (.seq (.reg [oo 8 (.move (tq 0) false),
   oo 9 (.nilCheck (tq 8)),
   oo 10 (.fieldAddr 1 (tq 9)),
   oo 11 (.load false 1 (tq 10) false),
   oo 12 (.bin .add (tq 11) (.const (.sc (.int .i64 1)))),
   oo 13 (.nilCheck (tq 8)),
   oo 14 (.fieldAddr 1 (tq 13)),
   oz (.store 1 (tq 14) (tq 12))])
 (.seq (.dreg [] [(oo 15 (.move (tq 0) false),q0),
   (oo 16 (.nilCheck (tq 15)),q0),
   (oo 17 (.fieldAddr 0 (tq 16)),q0),
   (oo 18 (.load false 1 (tq 17) false),ql 0 [] []),
   (oo 19 (.move (tq 0) false),q0),
   (oo 20 (.nilCheck (tq 19)),q0),
   (oo 21 (.fieldAddr 1 (tq 20)),q0),
   (oo 22 (.load false 1 (tq 21) false),ql 0 [] []),
   (oo 23 (.bin .sub (tq 22) (.const (.sc (.int .i64 1)))),q0),
   (oo 24 (.indexAddrS 1 (tq 18) (tq 23)),q0),
   (oo 25 (.load false 1 (tq 24) false),q0),
   (oo 26 (.move (tq 1) false),q0),
   (oo 27 (.call 217 [((tq 25),0),((tq 26),0)] []),q0),
   (oo 4 (.move (tq 27) false),q0)])
 .ret))))⟩
def zeV:Hint:=⟨[],[],[none,none,none],[],[],false,false,[]⟩
def zdd:Nat→Sh:=zbi [(25,(.int .i64))]
def zdf (zq:zbW) (yc:zu) (L:Nat):CBC:=(z4 217 (zed yc L) (z4 247 (zbU zq L) noC))
def zb7 {β:Type} (zq:zbW) (yc:zu) (L:Nat) (p1:Int) (zsk:List (List V)) (zsl:Int) (k_fin:Int→List (List V)→Int→Option β):Option β :=
 zq β L zsk zsl (fun v0 v1 v2 =>
 ifb (!v0) (
 k_fin (0:Int) v1 v2) (
 lt (IntKind.wrap .i64 ((v2:Int)+(1:Int))) fun x3 =>
 lt (IntKind.wrap .i64 ((x3:Int) - (1:Int))) fun x4 =>
 idx v1 x4 fun c5 =>
 cI .i64 c5 0 fun v6 =>
 yc β L v6 p1 (fun v7 =>
 k_fin v7 v1 x3)))
theorem zib {β:Type} (zq:zbW) (yc:zu) (L:Nat) (p1:Int) (zsk:List (List V)) (zsl:Int) (k:KK β):yu zdd (zdf zq yc L) L zbD [(V.ptr 0 0),(V.sc (.int .i64 p1))] [(.live false [(V.sl 1 zsk),(V.sc (.int .i64 zsl))])] k=zb7 zq yc L p1 zsk zsl (fun p0 zsk zsl=>k (V.sc (.int .i64 p0)) [(.live false [(V.sl 1 zsk),(V.sc (.int .i64 zsl))])]):=by kernel_rfl
abbrev zj:=∀ (β:Type),Nat→Int→List (List V)→Int→(Int→List (List V)→Int→Option β)→Option β
def za (β:Type) (L:Nat) (p1:Int) (zsk:List (List V)) (zsl:Int) (k_fin:Int→List (List V)→Int→Option β):Option β:=zb7 zq yc L p1 zsk zsl k_fin
def zap (za:zj) (L:Nat) (β:Type) (args:List V) (bor:Bor) (k:KK β):Option β:=match args,bor with
 | [a0,a1],[(.live false [w0_0,w0_1])]=>aP 0 0 a0 (aI .i64 a1 fun p1=>aL 1 w0_0 fun zsk=>aI .i64 w0_1 fun zsl=>za β L p1 zsk zsl (fun p0 zsk zsl=>k (V.sc (.int .i64 p0)) [(.live false [(V.sl 1 zsk),(V.sc (.int .i64 zsl))])]))
 | _,_=>none
theorem zia (L:Nat) (β:Type) (args:List V) (bor:Bor) (k:KK β) (r:β) (h:zap za L β args bor k=some r):yu zdd (zdf zq yc L) L zbD args bor k=some r:=by
 unfold zap at h
 split at h
 ·have q:=ziw h; clear h; obtain ⟨rfl,h⟩:=q
  have q:=xv h; clear h; obtain ⟨p1,rfl,h⟩:=q
  have q:=zbo h; clear h; obtain ⟨zsk,rfl,h⟩:=q
  have q:=xv h; clear h; obtain ⟨zsl,rfl,h⟩:=q
  exact (zib zq yc L p1 zsk zsl k).trans h
 ·cases h
def zd9:CF:=⟨10,[.cell 2 true 32],
 (.seq (.reg [oo 2 (.alloc true (rp 32 (.sc (.int .u8 0)) []))])
 (.seq (.reg [oo 3 (.move (tq 0) false),
   oo 4 (.call 231 [((tq 3),0),((.const (.sc (.int .i64 5))),0)] []),
   oo 5 (.conv .u8 (tq 4)),
   oo 6 (.move (tq 0) false),
   oo 7 (.call 231 [((tq 6),0),((.const (.sc (.int .i64 7))),0)] []),
   oo 8 (.conv .u8 (tq 7)),
   oo 9 (.build (rp 32 (.sc (.int .u8 0)) []) [(0,1,(tq 5)),(31,1,(tq 8))]),
   oz (.store 32 (tq 2) (tq 9))])
 .ret))⟩
def zhm:Hint:=⟨[],[],[none],[],[],false,false,[]⟩
def zf3:Nat→Sh:=zbi []
def zfZ (za:zj) (L:Nat):CBC:=(z4 231 (zap za L) noC)
def zgX {β:Type} (za:zj) (L:Nat) (zsk:List (List V)) (zsl:Int) (k_fin:List V→List (List V)→Int→Option β):Option β :=
 za β L (5:Int) zsk zsl (fun v0 v1 v2 =>
 lt (IntKind.wrap .u8 v0) fun x3 =>
 za β L (7:Int) v1 v2 (fun v4 v5 v6 =>
 lt (IntKind.wrap .u8 v4) fun x7 =>
 lt ([(V.sc (.int .u8 x3))]++List.replicate 30 (V.sc (.int .u8 (0:Int)))++[(V.sc (.int .u8 x7))]) fun r8 =>
 chk (0=0∧(List.length r8)=32∧32≠0) (
 k_fin r8 v5 v6)))
theorem zlF {β:Type} (za:zj) (L:Nat) (zsk:List (List V)) (zsl:Int) (k:KK β):yu zf3 (zfZ za L) L zd9 [(V.ptr 0 0)] [(.live false [(V.sl 1 zsk),(V.sc (.int .i64 zsl))])] k=zgX za L zsk zsl (fun p0 zsk zsl=>k (V.agg p0) [(.live false [(V.sl 1 zsk),(V.sc (.int .i64 zsl))])]):=by kernel_rfl
abbrev yr:=∀ (β:Type),Nat→List (List V)→Int→(List V→List (List V)→Int→Option β)→Option β
def zc (β:Type) (L:Nat) (zsk:List (List V)) (zsl:Int) (k_fin:List V→List (List V)→Int→Option β):Option β:=zgX za L zsk zsl k_fin
def zdo (zc:yr) (L:Nat) (β:Type) (args:List V) (bor:Bor) (k:KK β):Option β:=match args,bor with
 | [a0],[(.live false [w0_0,w0_1])]=>aP 0 0 a0 (aL 1 w0_0 fun zsk=>aI .i64 w0_1 fun zsl=>zc β L zsk zsl (fun p0 zsk zsl=>k (V.agg p0) [(.live false [(V.sl 1 zsk),(V.sc (.int .i64 zsl))])]))
 | _,_=>none
theorem zlv (L:Nat) (β:Type) (args:List V) (bor:Bor) (k:KK β) (r:β) (h:zdo zc L β args bor k=some r):yu zf3 (zfZ za L) L zd9 args bor k=some r:=by
 unfold zdo at h
 split at h
 ·have q:=ziw h; clear h; obtain ⟨rfl,h⟩:=q
  have q:=zbo h; clear h; obtain ⟨zsk,rfl,h⟩:=q
  have q:=xv h; clear h; obtain ⟨zsl,rfl,h⟩:=q
  exact (zlF za L zsk zsl k).trans h
 ·cases h
def zal:CC:=(.seq (.seq (.reg [oo 11 (.move (tq 6) false),
   oo 12 (.bin .gtr (tq 11) (.const (.sc (.int .i64 0))))])
 (.cond (tq 12)
 .skip
 (.seq (.mask (bl 32 21) (bl 1179583 21))
 (.exit 0))))
 (.seq (.block 1 (.reg [oo 15 (.move (tq 5) true),
   oo 16 (.move (tq 0) false),
   oo 17 (.call 236 [((tq 16),0)] []),
   oo 18 (.buildSlice 32 1 (rp 32 (.sc (.int .u8 0)) []) [(0,32,(tq 17))]),
   oo 19 (.append 32 32 (tq 15) (tq 18)),
   oo 5 (.move (tq 19) true)]))
 (.reg [oo 13 (.move (tq 6) false),
   oo 14 (.bin .sub (tq 13) (.const (.sc (.int .i64 1)))),
   oo 6 (.move (tq 14) false)])))
def zdN:CC:=(.seq (.reg [oo 20 (.move (tq 5) true),
   oo 4 (.move (tq 20) true)])
 .ret)
def zar:CF:=⟨21,[.tmp 4],
 (.seq (.reg [oo 4 (.move (.const (.gs 32 [])) true)])
 (.seq (.reg [oo 5 (.move (.const (.gs 32 [])) true)])
 (.seq (.seq (.reg [oo 7 (.move (tq 0) false),
   oo 8 (.move (tq 1) false),
   oo 9 (.bin .add (tq 8) (.const (.sc (.int .i64 1)))),
   oo 10 (.call 231 [((tq 7),0),((tq 9),0)] []),
   oo 6 (.move (tq 10) false)])
 (.block 0 (.loop (bl 97 21) (bl 1179647 21)
 zal)))
 zdN)))⟩
def zgo:Hint:=⟨[(0,0),(1,0),(5,0),(5,5),(6,0),(6,1)],[],[none,some ((bl 97 21),(bl 1179647 21)),none,some ((bl 32 21),(bl 1179583 21)),none,none],[],[],false,false,[]⟩
def yP:Nat→Sh:=zbi []
def zN (za:zj) (zc:yr) (L:Nat):CBC:=(z4 236 (zdo zc L) (z4 231 (zap za L) noC))
def zbv:St→St:=zaj 1 (bl 97 21) (bl 1179647 21)
def zaH (p5:List (List V)) (p6:Int) (zsk:List (List V)) (zsl:Int):St:=⟨((V.ptr 0 0)::(jn 4 ((V.gs 32 p5)::((V.sc (.int .i64 p6))::(jn 14 []))))),((.live false [(V.sl 1 zsk),(V.sc (.int .i64 zsl))])::(gn 21 []))⟩
def zc6 (p5 zsk:List (List V)) (zsl:Int):St:=⟨(jn 5 ((V.gs 32 p5)::(jn 15 []))),((.live false [(V.sl 1 zsk),(V.sc (.int .i64 zsl))])::(gn 21 []))⟩
def zfz {β:Type} (za:zj) (zc:yr) (L:Nat) (p1:Int) (zsk:List (List V)) (zsl:Int) (k_hbbaba:List (List V)→Int→List (List V)→Int→Option β):Option β :=
 lt (IntKind.wrap .i64 ((p1:Int)+(1:Int))) fun x0 =>
 za β L x0 zsk zsl (fun v1 v2 v3 =>
 k_hbbaba ([]:List (List V)) v1 v2 v3)
theorem zj5 {β:Type} (za:zj) (zc:yr) (L:Nat) (p1:Int) (zsk:List (List V)) (zsl:Int) (k:KK β):yu yP (zN za zc L) L zar [(V.ptr 0 0),(V.sc (.int .i64 p1))] [(.live false [(V.sl 1 zsk),(V.sc (.int .i64 zsl))])] k=zfz za zc L p1 zsk zsl (fun p5 p6 zsk zsl=>xx (zm yP (zN za zc L) 1 L zal) zbv L (zaH p5 p6 zsk zsl) (yB 0 (xX (zm yP (zN za zc L) 1 L zdN) (zat 1 (CF.res zar) k)))):=by kernel_rfl
def zbm {β:Type} (za:zj) (zc:yr) (L:Nat) (p5:List (List V)) (p6:Int) (zsk:List (List V)) (zsl:Int) (k_hbbaba:List (List V)→Int→List (List V)→Int→Option β) (k_x0:List (List V)→List (List V)→Int→Option β):Option β :=
 ifb (decide (p6 > (0:Int))) (
 zc β L zsk zsl (fun v4 v5 v6 =>
 chk ((List.length v4)=32∧0+32≤32) (
 chk ((List.length p5+List.length (yh 32 1 (xh (List.replicate 32 (V.sc (.int .u8 (0:Int)))) 0 v4))) * 32≤xm∧List.length p5+List.length (yh 32 1 (xh (List.replicate 32 (V.sc (.int .u8 (0:Int)))) 0 v4))≤xm) (
 lt (p5++(yh 32 1 (xh (List.replicate 32 (V.sc (.int .u8 (0:Int)))) 0 v4))) fun l7 =>
 lt (IntKind.wrap .i64 ((p6:Int) - (1:Int))) fun x8 =>
 k_hbbaba l7 x8 v5 v6)))) (
 k_x0 p5 zsk zsl)
theorem zhv {β:Type} (za:zj) (zc:yr) (L:Nat) (p5:List (List V)) (p6:Int) (zsk:List (List V)) (zsl:Int) (X:St→Option β) (K:KT β):zm yP (zN za zc L) 1 L zal (zaH p5 p6 zsk zsl) (zbq zbv X K)=zbm za zc L p5 p6 zsk zsl (fun p5 p6 zsk zsl=>X (zaH p5 p6 zsk zsl)) (fun p5 zsk zsl=>K (.exit 0) (zc6 p5 zsk zsl)):=by kernel_rfl
def zee {β:Type} (za:zj) (zc:yr) (L:Nat) (p5 zsk:List (List V)) (zsl:Int) (k_fin:List (List V)→List (List V)→Int→Option β):Option β :=
 k_fin p5 zsk zsl
theorem zgp {β:Type} (za:zj) (zc:yr) (L:Nat) (p5 zsk:List (List V)) (zsl:Int) (k:KK β):(yB 0 (xX (zm yP (zN za zc L) 1 L zdN) (zat 1 (CF.res zar) k))) (.exit 0) (zc6 p5 zsk zsl)=zee za zc L p5 zsk zsl (fun p0 zsk zsl=>k (V.gs 32 p0) [(.live false [(V.sl 1 zsk),(V.sc (.int .i64 zsl))])]):=by kernel_rfl
def z6 {β:Type} (za:zj) (zc:yr) (L:Nat) (k_x0:List (List V)→List (List V)→Int→Option β):Nat→List (List V)→Int→List (List V)→Int→Option β
 | 0,_,_,_,_=>none
 | n+1,p5,p6,zsk,zsl=>zbm za zc L p5 p6 zsk zsl (fun p5 p6 zsk zsl=>z6 za zc L k_x0 n p5 p6 zsk zsl) k_x0
theorem zdZ {β:Type} (za:zj) (zc:yr) (L:Nat) (K:KT β):∀ (n:Nat) (p5:List (List V)) (p6:Int) (zsk:List (List V)) (zsl:Int),xx (zm yP (zN za zc L) 1 L zal) zbv n (zaH p5 p6 zsk zsl) K=z6 za zc L (fun p5 zsk zsl=>K (.exit 0) (zc6 p5 zsk zsl)) n p5 p6 zsk zsl:=by
 intro n
 induction n with
 | zero=>intros; rfl
 | succ n ih =>
  intro p5 p6 zsk zsl
  refine (zhv za zc L p5 p6 zsk zsl (fun σ=>xx (zm yP (zN za zc L) 1 L zal) zbv n σ K) K).trans ?_
  simp only [ih]
  rfl
def zds {β:Type} (za:zj) (zc:yr) (L:Nat) (p1:Int) (zsk:List (List V)) (zsl:Int) (k_fin:List (List V)→List (List V)→Int→Option β):Option β :=
 zfz za zc L p1 zsk zsl (fun p5 p6 zsk zsl=>z6 za zc L (fun p5 zsk zsl=>zee za zc L p5 zsk zsl k_fin) L p5 p6 zsk zsl)
theorem zkc {β:Type} (za:zj) (zc:yr) (L:Nat) (p1:Int) (zsk:List (List V)) (zsl:Int) (k:KK β):yu yP (zN za zc L) L zar [(V.ptr 0 0),(V.sc (.int .i64 p1))] [(.live false [(V.sl 1 zsk),(V.sc (.int .i64 zsl))])] k=zds za zc L p1 zsk zsl (fun p0 zsk zsl=>k (V.gs 32 p0) [(.live false [(V.sl 1 zsk),(V.sc (.int .i64 zsl))])]):=by
 refine (zj5 za zc L p1 zsk zsl k).trans ?_
 unfold zds
 first
  | (simp only [zdZ,zgp]; done)
  | (simp only [zdZ]; rfl)
abbrev yH:=∀ (β:Type),Nat→Int→List (List V)→Int→(List (List V)→List (List V)→Int→Option β)→Option β
def xf (β:Type) (L:Nat) (p1:Int) (zsk:List (List V)) (zsl:Int) (k_fin:List (List V)→List (List V)→Int→Option β):Option β:=zds za zc L p1 zsk zsl k_fin
def zdu (xf:yH) (L:Nat) (β:Type) (args:List V) (bor:Bor) (k:KK β):Option β:=match args,bor with
 | [a0,a1],[(.live false [w0_0,w0_1])]=>aP 0 0 a0 (aI .i64 a1 fun p1=>aL 1 w0_0 fun zsk=>aI .i64 w0_1 fun zsl=>xf β L p1 zsk zsl (fun p0 zsk zsl=>k (V.gs 32 p0) [(.live false [(V.sl 1 zsk),(V.sc (.int .i64 zsl))])]))
 | _,_=>none
theorem zke (L:Nat) (β:Type) (args:List V) (bor:Bor) (k:KK β) (r:β) (h:zdu xf L β args bor k=some r):yu yP (zN za zc L) L zar args bor k=some r:=by
 unfold zdu at h
 split at h
 ·have q:=ziw h; clear h; obtain ⟨rfl,h⟩:=q
  have q:=xv h; clear h; obtain ⟨p1,rfl,h⟩:=q
  have q:=zbo h; clear h; obtain ⟨zsk,rfl,h⟩:=q
  have q:=xv h; clear h; obtain ⟨zsl,rfl,h⟩:=q
  exact (zkc za zc L p1 zsk zsl k).trans h
 ·cases h
def xJ:CC:=(.seq (.seq (.reg [oo 19 (.move (tq 9) false),
   oo 20 (.move (tq 1) false),
   oo 21 (.lenS (tq 20)),
   oo 22 (.bin .lss (tq 19) (tq 21))])
 (.cond (tq 22)
 .skip
 (.seq (.mask (bl 390 58) (bl 288230376149614079 58))
 (.exit 2))))
 (.seq (.block 3 (.seq (.dreg [] [(oo 25 (.move (tq 7) false),q0),
   (oo 26 (.move (tq 8) false),q0),
   (oo 27 (.indexAddrS 35 (tq 25) (tq 26)),q0),
   (oo 28 (.fieldAddr 0 (tq 27)),q0),
   (oo 29 (.load true 32 (tq 28) false),qc [] []),
   (oo 30 (.move (tq 1) false),q0),
   (oo 31 (.move (tq 9) false),q0),
   (oo 32 (.indexAddrS 32 (tq 30) (tq 31)),q0),
   (oo 33 (.load true 32 (tq 32) false),qc [] []),
   (oo 34 (.eqAgg false 32 (tq 29) (tq 33)),q0),
   (oo 35 (.move (tq 34) false),q0),
   (⟨(some 36),false,(some (35,true)),.move (tq 7) false⟩,q0),
   (⟨(some 37),false,(some (35,true)),.move (tq 8) false⟩,q0),
   (⟨(some 38),false,(some (35,true)),.indexAddrS 35 (tq 36) (tq 37)⟩,q0),
   (⟨(some 39),false,(some (35,true)),.fieldAddr 34 (tq 38)⟩,q0),
   (⟨(some 40),false,(some (35,true)),.load false 1 (tq 39) false⟩,q0),
   (⟨(some 41),false,(some (35,true)),.bin .eql (tq 40) (.const (.sc (.int .i64 0)))⟩,q0),
   (oo 42 (.pick (tq 35) (tq 41) (.const (.sc (.bool false)))),q0),
   (oo 43 (.move (tq 42) false),q0),
   (⟨(some 44),false,(some (43,true)),.move (tq 7) false⟩,q0),
   (⟨(some 45),false,(some (43,true)),.move (tq 8) false⟩,q0),
   (⟨(some 46),false,(some (43,true)),.indexAddrS 35 (tq 44) (tq 45)⟩,q0),
   (⟨(some 47),false,(some (43,true)),.fieldAddr 33 (tq 46)⟩,q0),
   (⟨(some 48),false,(some (43,true)),.load false 1 (tq 47) false⟩,q0),
   (⟨(some 49),false,(some (43,true)),.move (tq 2) false⟩,q0),
   (⟨(some 50),false,(some (43,true)),.bin .lss (tq 48) (tq 49)⟩,q0),
   (oo 51 (.pick (tq 43) (tq 50) (.const (.sc (.bool false)))),q0)])
 (.cond (tq 51)
 (.reg [oo 52 (.move (tq 7) false),
   oo 53 (.move (tq 8) false),
   oo 54 (.move (tq 2) false),
   oo 55 (.indexAddrS 35 (tq 52) (tq 53)),
   oo 56 (.fieldAddr 34 (tq 55)),
   oz (.store 1 (tq 56) (tq 54))])
 .skip)))
 (.reg [oo 23 (.move (tq 9) false),
   oo 24 (.bin .add (tq 23) (.const (.sc (.int .i64 1)))),
   oo 9 (.move (tq 24) false)])))
def zbj:CC:=(.reg [oo 17 (.move (tq 8) false),
   oo 18 (.bin .add (tq 17) (.const (.sc (.int .i64 1)))),
   oo 8 (.move (tq 18) false)])
def yR:CC:=(.seq (.seq (.reg [oo 13 (.move (tq 8) false),
   oo 14 (.move (tq 7) false),
   oo 15 (.lenS (tq 14)),
   oo 16 (.bin .lss (tq 13) (tq 15))])
 (.cond (tq 16)
 .skip
 (.seq (.mask (bl 128 58) (bl 288230376149581055 58))
 (.exit 0))))
 (.seq (.block 1 (.seq (.reg [oo 9 (.move (.const (.sc (.int .i64 0))) false)])
 (.block 2 (.loop (bl 902 58) (bl 288230376149614591 58)
 xJ))))
 zbj))
def zcI:CC:=(.seq (.reg [oo 57 (.move (tq 7) true),
   oo 6 (.move (tq 57) true)])
 .ret)
def z0:CF:=⟨58,[.tmp 6],
 (.seq (.reg [oo 6 (.move (.const (.gs 35 [])) true)])
 (.seq (.reg [⟨(some 10),true,none,.buildSlice 35 0 (rp 32 (.sc (.int .u8 0)) (rp 3 (.sc (.int .i64 0)) [])) []⟩,
   oo 11 (.move (tq 0) false),
   ⟨(some 12),true,none,.append 35 56 (tq 10) (tq 11)⟩,
   oo 7 (.move (tq 12) true)])
 (.seq (.seq (.reg [oo 8 (.move (.const (.sc (.int .i64 0))) false)])
 (.block 0 (.loop (bl 390 58) (bl 288230376149581311 58)
 yR)))
 zcI)))⟩
def zfi:Hint:=⟨[(0,0),(1,3),(10,0),(10,1)],[(1,0),(1,2)],[none,some ((bl 390 58),(bl 288230376149581311 58)),none,some ((bl 128 58),(bl 288230376149581055 58)),none,none,some ((bl 902 58),(bl 288230376149614591 58)),none,some ((bl 390 58),(bl 288230376149614079 58)),none,none,none],[],[],false,false,[]⟩
def yp:Nat→Sh:=zbi [(40,(.int .i64)),(48,(.int .i64))]
def zp (L:Nat):CBC:=noC
def xK:St→St:=zaj 0 (bl 390 58) (bl 288230376149581311 58)
def zZ:St→St:=zaj 0 (bl 902 58) (bl 288230376149614591 58)
def zK (p1:List (List V)) (p2:Int) (p7l:Nat) (p8:Int) (b12:List V):St:=⟨(jn 1 ((V.sl 32 p1)::((V.sc (.int .i64 p2))::(jn 4 ((V.own 12 0 p7l 35)::((V.sc (.int .i64 p8))::(jn 49 []))))))),(gn 12 ((.live true b12)::(gn 45 [])))⟩
def xR (p1:List (List V)) (p2:Int) (p7l:Nat) (p8 p9:Int) (b12:List V):St:=⟨(jn 1 ((V.sl 32 p1)::((V.sc (.int .i64 p2))::(jn 4 ((V.own 12 0 p7l 35)::((V.sc (.int .i64 p8))::((V.sc (.int .i64 p9))::(jn 48 [])))))))),(gn 12 ((.live true b12)::(gn 45 [])))⟩
def zbh (p7l:Nat) (b12:List V):St:=⟨(jn 7 ((V.own 12 0 p7l 35)::(jn 50 []))),(gn 12 ((.live true b12)::(gn 45 [])))⟩
def zch (p1:List (List V)) (p2:Int) (p7l:Nat) (p8:Int) (b12:List V):St:=⟨(jn 1 ((V.sl 32 p1)::((V.sc (.int .i64 p2))::(jn 4 ((V.own 12 0 p7l 35)::((V.sc (.int .i64 p8))::(jn 49 []))))))),(gn 12 ((.live true b12)::(gn 45 [])))⟩
def zd6 {β:Type} (L:Nat) (p0 p1:List (List V)) (p2:Int) (k_hbbaba:List (List V)→Int→Nat→Int→List V→Option β):Option β :=
 chk ((0+List.length p0) * 56≤xm∧0+List.length p0≤xm) (
 k_hbbaba p1 p2 (List.length p0) (0:Int) (List.flatten p0))
theorem ziS {β:Type} (L:Nat) (p0 p1:List (List V)) (p2:Int) (k:KK β):yu yp (zp L) L z0 [(V.sl 35 p0),(V.sl 32 p1),(V.sc (.int .i64 p2))] [] k=zd6 L p0 p1 p2 (fun p1 p2 p7l p8 b12=>xx (zm yp (zp L) 0 L yR) xK L (zK p1 p2 p7l p8 b12) (yB 0 (xX (zm yp (zp L) 0 L zcI) (zat 0 (CF.res z0) k)))):=by kernel_rfl
def za4 {β:Type} (L:Nat) (p1:List (List V)) (p2:Int) (p7l:Nat) (p8:Int) (b12:List V) (k_hbbabaabaaba:List (List V)→Int→Nat→Int→Int→List V→Option β) (k_x0:Nat→List V→Option β):Option β :=
 ifb (decide (p8 < ((p7l:Nat):Int))) (
 k_hbbabaabaaba p1 p2 p7l p8 (0:Int) b12) (
 k_x0 p7l b12)
theorem zgq {β:Type} (L:Nat) (p1:List (List V)) (p2:Int) (p7l:Nat) (p8:Int) (b12:List V) (X:St→Option β) (K:KT β):zm yp (zp L) 0 L yR (zK p1 p2 p7l p8 b12) (zbq xK X K)=za4 L p1 p2 p7l p8 b12 (fun p1 p2 p7l p8 p9 b12=>xx (zm yp (zp L) 0 L xJ) zZ L (xR p1 p2 p7l p8 p9 b12) (yB 2 (yB 1 (xX (zm yp (zp L) 0 L zbj) (zbq xK X K))))) (fun p7l b12=>K (.exit 0) (zbh p7l b12)):=by kernel_rfl
def zbA {β:Type} (L:Nat) (p7l:Nat) (b12:List V) (k_fin:List (List V)→Option β):Option β :=
 chk (p7l≠0∨(List.length b12)=0) (
 k_fin (yh 35 p7l b12))
theorem zfN {β:Type} (L:Nat) (p7l:Nat) (b12:List V) (k:KK β):(yB 0 (xX (zm yp (zp L) 0 L zcI) (zat 0 (CF.res z0) k))) (.exit 0) (zbh p7l b12)=zbA L p7l b12 (fun p0=>k (V.fr 35 p0) []):=by kernel_rfl
def xZ {β:Type} (L:Nat) (p1:List (List V)) (p2:Int) (p7l:Nat) (p8 p9:Int) (b12:List V) (k_hbbabaabaaba:List (List V)→Int→Nat→Int→Int→List V→Option β) (k_x2:List (List V)→Int→Nat→Int→List V→Option β):Option β :=
 ifb (decide (p9 < ((List.length p1:Nat):Int))) (
 chk (0≤p8∧p8 < ((p7l:Nat):Int)) (
 chk (((0+((Int.toNat p8) * 35))+0)+32≤(List.length b12)) (
 idx p1 p9 fun c0 =>
 eqC 32 (List.take 32 (List.drop ((0+((Int.toNat p8) * 35))+0) b12)) (List.take 32 c0) fun v1 =>
 ifb v1 (
 chk (0≤p8∧p8 < ((p7l:Nat):Int)) (
 cI .i64 b12 ((0+((Int.toNat p8) * 35))+34) fun v2 =>
 ifb ((v2:Int) == (0:Int)) (
 chk (0≤p8∧p8 < ((p7l:Nat):Int)) (
 cI .i64 b12 ((0+((Int.toNat p8) * 35))+33) fun v3 =>
 ifb (decide (v3 < p2)) (
 chk (0≤p8∧p8 < ((p7l:Nat):Int)) (
 chk (1=1∧((0+((Int.toNat p8) * 35))+34)+1≤(List.length b12)) (
 lt (xh b12 ((0+((Int.toNat p8) * 35))+34) [(V.sc (.int .i64 p2))]) fun r4 =>
 lt (IntKind.wrap .i64 ((p9:Int)+(1:Int))) fun x5 =>
 k_hbbabaabaaba p1 p2 p7l p8 x5 r4))) (
 lt (IntKind.wrap .i64 ((p9:Int)+(1:Int))) fun x6 =>
 k_hbbabaabaaba p1 p2 p7l p8 x6 b12))) (
 lt (IntKind.wrap .i64 ((p9:Int)+(1:Int))) fun x7 =>
 k_hbbabaabaaba p1 p2 p7l p8 x7 b12))) (
 lt (IntKind.wrap .i64 ((p9:Int)+(1:Int))) fun x8 =>
 k_hbbabaabaaba p1 p2 p7l p8 x8 b12)))) (
 k_x2 p1 p2 p7l p8 b12)
theorem zeR {β:Type} (L:Nat) (p1:List (List V)) (p2:Int) (p7l:Nat) (p8 p9:Int) (b12:List V) (X:St→Option β) (K:KT β):zm yp (zp L) 0 L xJ (xR p1 p2 p7l p8 p9 b12) (zbq zZ X K)=xZ L p1 p2 p7l p8 p9 b12 (fun p1 p2 p7l p8 p9 b12=>X (xR p1 p2 p7l p8 p9 b12)) (fun p1 p2 p7l p8 b12=>K (.exit 2) (zch p1 p2 p7l p8 b12)):=by kernel_rfl
def zav {β:Type} (L:Nat) (p1:List (List V)) (p2:Int) (p7l:Nat) (p8:Int) (b12:List V) (k_hbbaba:List (List V)→Int→Nat→Int→List V→Option β):Option β :=
 lt (IntKind.wrap .i64 ((p8:Int)+(1:Int))) fun x9 =>
 k_hbbaba p1 p2 p7l x9 b12
theorem zd3 {β:Type} (L:Nat) (p1:List (List V)) (p2:Int) (p7l:Nat) (p8:Int) (b12:List V) (X:St→Option β) (K:KT β):(yB 2 (yB 1 (xX (zm yp (zp L) 0 L zbj) (zbq xK X K)))) (.exit 2) (zch p1 p2 p7l p8 b12)=zav L p1 p2 p7l p8 b12 (fun p1 p2 p7l p8 b12=>X (zK p1 p2 p7l p8 b12)):=by kernel_rfl
def zD {β:Type} (L:Nat) (k_x2:List (List V)→Int→Nat→Int→List V→Option β):Nat→List (List V)→Int→Nat→Int→Int→List V→Option β
 | 0,_,_,_,_,_,_=>none
 | n+1,p1,p2,p7l,p8,p9,b12=>xZ L p1 p2 p7l p8 p9 b12 (fun p1 p2 p7l p8 p9 b12=>zD L k_x2 n p1 p2 p7l p8 p9 b12) k_x2
theorem zbB {β:Type} (L:Nat) (K:KT β):∀ (n:Nat) (p1:List (List V)) (p2:Int) (p7l:Nat) (p8 p9:Int) (b12:List V),xx (zm yp (zp L) 0 L xJ) zZ n (xR p1 p2 p7l p8 p9 b12) K=zD L (fun p1 p2 p7l p8 b12=>K (.exit 2) (zch p1 p2 p7l p8 b12)) n p1 p2 p7l p8 p9 b12:=by
 intro n
 induction n with
 | zero=>intros; rfl
 | succ n ih =>
  intro p1 p2 p7l p8 p9 b12
  refine (zeR L p1 p2 p7l p8 p9 b12 (fun σ=>xx (zm yp (zp L) 0 L xJ) zZ n σ K) K).trans ?_
  simp only [ih]
  rfl
def y6 {β:Type} (L:Nat) (p1:List (List V)) (p2:Int) (p7l:Nat) (p8:Int) (b12:List V) (k_x0:Nat→List V→Option β) (k_hbbaba:List (List V)→Int→Nat→Int→List V→Option β):Option β :=
 za4 L p1 p2 p7l p8 b12 (fun p1 p2 p7l p8 p9 b12=>zD L (fun p1 p2 p7l p8 b12=>zav L p1 p2 p7l p8 b12 k_hbbaba) L p1 p2 p7l p8 p9 b12) k_x0
theorem zgi {β:Type} (L:Nat) (p1:List (List V)) (p2:Int) (p7l:Nat) (p8:Int) (b12:List V) (X:St→Option β) (K:KT β):zm yp (zp L) 0 L yR (zK p1 p2 p7l p8 b12) (zbq xK X K)=y6 L p1 p2 p7l p8 b12 (fun p7l b12=>K (.exit 0) (zbh p7l b12)) (fun p1 p2 p7l p8 b12=>X (zK p1 p2 p7l p8 b12)):=by
 refine (zgq L p1 p2 p7l p8 b12 X K).trans ?_
 unfold y6
 first
  | (simp only [zbB,zd3]; done)
  | (simp only [zbB]; rfl)
def yW {β:Type} (L:Nat) (k_x0:Nat→List V→Option β):Nat→List (List V)→Int→Nat→Int→List V→Option β
 | 0,_,_,_,_,_=>none
 | n+1,p1,p2,p7l,p8,b12=>y6 L p1 p2 p7l p8 b12 k_x0 (fun p1 p2 p7l p8 b12=>yW L k_x0 n p1 p2 p7l p8 b12)
theorem zc4 {β:Type} (L:Nat) (K:KT β):∀ (n:Nat) (p1:List (List V)) (p2:Int) (p7l:Nat) (p8:Int) (b12:List V),xx (zm yp (zp L) 0 L yR) xK n (zK p1 p2 p7l p8 b12) K=yW L (fun p7l b12=>K (.exit 0) (zbh p7l b12)) n p1 p2 p7l p8 b12:=by
 intro n
 induction n with
 | zero=>intros; rfl
 | succ n ih =>
  intro p1 p2 p7l p8 b12
  refine (zgi L p1 p2 p7l p8 b12 (fun σ=>xx (zm yp (zp L) 0 L yR) xK n σ K) K).trans ?_
  simp only [ih]
  rfl
def zcu {β:Type} (L:Nat) (p0 p1:List (List V)) (p2:Int) (k_fin:List (List V)→Option β):Option β :=
 zd6 L p0 p1 p2 (fun p1 p2 p7l p8 b12=>yW L (fun p7l b12=>zbA L p7l b12 k_fin) L p1 p2 p7l p8 b12)
theorem zii {β:Type} (L:Nat) (p0 p1:List (List V)) (p2:Int) (k:KK β):yu yp (zp L) L z0 [(V.sl 35 p0),(V.sl 32 p1),(V.sc (.int .i64 p2))] [] k=zcu L p0 p1 p2 (fun p0=>k (V.fr 35 p0) []):=by
 refine (ziS L p0 p1 p2 k).trans ?_
 unfold zcu
 first
  | (simp only [zc4,zfN]; done)
  | (simp only [zc4]; rfl)
abbrev zC:=∀ (β:Type),Nat→List (List V)→List (List V)→Int→(List (List V)→Option β)→Option β
def ye (β:Type) (L:Nat) (p0 p1:List (List V)) (p2:Int) (k_fin:List (List V)→Option β):Option β:=zcu L p0 p1 p2 k_fin
def zcp (ye:zC) (L:Nat) (β:Type) (args:List V) (bor:Bor) (k:KK β):Option β:=match args,bor with
 | [a0,a1,a2],[]=>aL 35 a0 fun p0=>aL 32 a1 fun p1=>aI .i64 a2 fun p2=>ye β L p0 p1 p2 (fun p0=>k (V.fr 35 p0) [])
 | _,_=>none
theorem ziK (L:Nat) (β:Type) (args:List V) (bor:Bor) (k:KK β) (r:β) (h:zcp ye L β args bor k=some r):yu yp (zp L) L z0 args bor k=some r:=by
 unfold zcp at h
 split at h
 ·have q:=zbo h; clear h; obtain ⟨p0,rfl,h⟩:=q
  have q:=zbo h; clear h; obtain ⟨p1,rfl,h⟩:=q
  have q:=xv h; clear h; obtain ⟨p2,rfl,h⟩:=q
  exact (zii L p0 p1 p2 k).trans h
 ·cases h
def ze6:CF:=⟨15,[.tmp 6],
 (.seq (.reg [oo 6 (.move (.const (.sc (.bool false))) false)])
 (.seq (.reg [oo 7 (.move (tq 0) false),
   oo 8 (.move (tq 1) false),
   oo 9 (.bin .geq (tq 7) (tq 8)),
   oo 10 (.move (tq 9) false),
   ⟨(some 11),false,(some (10,true)),.move (tq 0) false⟩,
   ⟨(some 12),false,(some (10,true)),.move (tq 2) false⟩,
   ⟨(some 13),false,(some (10,true)),.bin .leq (tq 11) (tq 12)⟩,
   oo 14 (.pick (tq 10) (tq 13) (.const (.sc (.bool false)))),
   oo 6 (.move (tq 14) false)])
 .ret))⟩
def zh4:Hint:=⟨[],[],[none],[],[],false,false,[]⟩
def zg1:Nat→Sh:=zbi []
def zgO (L:Nat):CBC:=noC
def zhB {β:Type} (L:Nat) (p0 p1 p2:Int) (k_fin:Bool→Option β):Option β :=
 ifb (decide (p0 ≥ p1)) (
 k_fin (decide (p0≤p2))) (
 k_fin false)
theorem zmj {β:Type} (L:Nat) (p0 p1 p2:Int) (k:KK β):yu zg1 (zgO L) L ze6 [(V.sc (.int .i64 p0)),(V.sc (.int .i64 p1)),(V.sc (.int .i64 p2))] [] k=zhB L p0 p1 p2 (fun p0=>k (V.sc (.bool p0)) []):=by kernel_rfl
abbrev zL:=∀ (β:Type),Nat→Int→Int→Int→(Bool→Option β)→Option β
def zh (β:Type) (L:Nat) (p0 p1 p2:Int) (k_fin:Bool→Option β):Option β:=zhB L p0 p1 p2 k_fin
def zev (zh:zL) (L:Nat) (β:Type) (args:List V) (bor:Bor) (k:KK β):Option β:=match args,bor with
 | [a0,a1,a2],[]=>aI .i64 a0 fun p0=>aI .i64 a1 fun p1=>aI .i64 a2 fun p2=>zh β L p0 p1 p2 (fun p0=>k (V.sc (.bool p0)) [])
 | _,_=>none
theorem zme (L:Nat) (β:Type) (args:List V) (bor:Bor) (k:KK β) (r:β) (h:zev zh L β args bor k=some r):yu zg1 (zgO L) L ze6 args bor k=some r:=by
 unfold zev at h
 split at h
 ·have q:=xv h; clear h; obtain ⟨p0,rfl,h⟩:=q
  have q:=xv h; clear h; obtain ⟨p1,rfl,h⟩:=q
  have q:=xv h; clear h; obtain ⟨p2,rfl,h⟩:=q
  exact (zmj L p0 p1 p2 k).trans h
 ·cases h
def z9:CC:=(.seq (.seq (.reg [oo 8 (.move (tq 4) false),
   oo 9 (.move (tq 0) false),
   oo 10 (.bin .lss (tq 8) (tq 9))])
 (.cond (tq 10)
 .skip
 (.seq (.mask (bl 8 18) (bl 262127 18))
 (.exit 0))))
 (.seq (.block 1 (.reg [oo 13 (.move (tq 3) false),
   oo 14 (.move (tq 3) false),
   oo 15 (.bin .quo (tq 14) (.const (.sc (.int .i64 2)))),
   oo 16 (.bin .add (tq 13) (tq 15)),
   oo 3 (.move (tq 16) false)]))
 (.reg [oo 11 (.move (tq 4) false),
   oo 12 (.bin .add (tq 11) (.const (.sc (.int .i64 1)))),
   oo 4 (.move (tq 12) false)])))
def zc8:CC:=(.seq (.reg [oo 17 (.move (tq 3) false),
   oo 2 (.move (tq 17) false)])
 .ret)
def zau:CF:=⟨18,[.tmp 2],
 (.seq (.reg [oo 2 (.move (.const (.sc (.int .i64 0))) false)])
 (.seq (.seq (.reg [oo 5 (.move (tq 0) false),
   oo 6 (.call 242 [((tq 5),0),((.const (.sc (.int .i64 0))),0),((.const (.sc (.int .i64 23))),0)] []),
   oo 7 (.un .not (tq 6))])
 (.cond (tq 7)
 (.seq (.reg [oo 2 (.move (.const (.sc (.int .i64 0))) false)])
 .ret)
 .skip))
 (.seq (.reg [oo 3 (.move (.const (.sc (.int .i64 10))) false)])
 (.seq (.seq (.reg [oo 4 (.move (.const (.sc (.int .i64 0))) false)])
 (.block 0 (.loop (bl 25 18) (bl 262143 18)
 z9)))
 zc8))))⟩
def zgl:Hint:=⟨[],[],[none,none,none,some ((bl 25 18),(bl 262143 18)),none,some ((bl 8 18),(bl 262127 18)),none,none],[],[],false,false,[]⟩
def xO:Nat→Sh:=zbi []
def yN (zh:zL) (L:Nat):CBC:=(z4 242 (zev zh L) noC)
def zbe:St→St:=zaj 0 (bl 25 18) (bl 262143 18)
def zaD (p0 p3 p4:Int):St:=⟨((V.sc (.int .i64 p0))::(jn 2 ((V.sc (.int .i64 p3))::((V.sc (.int .i64 p4))::(jn 13 []))))),(gn 18 [])⟩
def zc5 (p3:Int):St:=⟨(jn 3 ((V.sc (.int .i64 p3))::(jn 14 []))),(gn 18 [])⟩
def zh0 {β:Type} (zh:zL) (L:Nat) (p0:Int) (k_fin:Int→Option β) (k_hbbbaba:Int→Int→Int→Option β):Option β :=
 zh β L p0 (0:Int) (23:Int) (fun v0 =>
 ifb (!v0) (
 k_fin (0:Int)) (
 k_hbbbaba p0 (10:Int) (0:Int)))
theorem zkg {β:Type} (zh:zL) (L:Nat) (p0:Int) (k:KK β):yu xO (yN zh L) L zau [(V.sc (.int .i64 p0))] [] k=zh0 zh L p0 (fun p0=>k (V.sc (.int .i64 p0)) []) (fun p0 p3 p4=>xx (zm xO (yN zh L) 0 L z9) zbe L (zaD p0 p3 p4) (yB 0 (xX (zm xO (yN zh L) 0 L zc8) (zat 0 (CF.res zau) k)))):=by kernel_rfl
def zeX {β:Type} (zh:zL) (L:Nat) (p0 p3 p4:Int) (k_hbbbaba:Int→Int→Int→Option β) (k_x0:Int→Option β):Option β :=
 ifb (decide (p4 < p0)) (
 lt (IntKind.wrap .i64 (Int.tdiv p3 (2:Int))) fun x1 =>
 lt (IntKind.wrap .i64 ((p3:Int)+x1)) fun x2 =>
 lt (IntKind.wrap .i64 ((p4:Int)+(1:Int))) fun x3 =>
 k_hbbbaba p0 x2 x3) (
 k_x0 p3)
theorem zgP {β:Type} (zh:zL) (L:Nat) (p0 p3 p4:Int) (X:St→Option β) (K:KT β):zm xO (yN zh L) 0 L z9 (zaD p0 p3 p4) (zbq zbe X K)=zeX zh L p0 p3 p4 (fun p0 p3 p4=>X (zaD p0 p3 p4)) (fun p3=>K (.exit 0) (zc5 p3)):=by kernel_rfl
def zdT {β:Type} (zh:zL) (L:Nat) (p3:Int) (k_fin:Int→Option β):Option β :=
 k_fin p3
theorem zgb {β:Type} (zh:zL) (L:Nat) (p3:Int) (k:KK β):(yB 0 (xX (zm xO (yN zh L) 0 L zc8) (zat 0 (CF.res zau) k))) (.exit 0) (zc5 p3)=zdT zh L p3 (fun p0=>k (V.sc (.int .i64 p0)) []):=by kernel_rfl
def zcg {β:Type} (zh:zL) (L:Nat) (k_x0:Int→Option β):Nat→Int→Int→Int→Option β
 | 0,_,_,_=>none
 | n+1,p0,p3,p4=>zeX zh L p0 p3 p4 (fun p0 p3 p4=>zcg zh L k_x0 n p0 p3 p4) k_x0
theorem zdh {β:Type} (zh:zL) (L:Nat) (K:KT β):∀ (n:Nat) (p0 p3 p4:Int),xx (zm xO (yN zh L) 0 L z9) zbe n (zaD p0 p3 p4) K=zcg zh L (fun p3=>K (.exit 0) (zc5 p3)) n p0 p3 p4:=by
 intro n
 induction n with
 | zero=>intros; rfl
 | succ n ih =>
  intro p0 p3 p4
  refine (zgP zh L p0 p3 p4 (fun σ=>xx (zm xO (yN zh L) 0 L z9) zbe n σ K) K).trans ?_
  simp only [ih]
  rfl
def zfy {β:Type} (zh:zL) (L:Nat) (p0:Int) (k_fin:Int→Option β):Option β :=
 zh0 zh L p0 k_fin (fun p0 p3 p4=>zcg zh L (fun p3=>zdT zh L p3 k_fin) L p0 p3 p4)
theorem zkh {β:Type} (zh:zL) (L:Nat) (p0:Int) (k:KK β):yu xO (yN zh L) L zau [(V.sc (.int .i64 p0))] [] k=zfy zh L p0 (fun p0=>k (V.sc (.int .i64 p0)) []):=by
 refine (zkg zh L p0 k).trans ?_
 unfold zfy
 first
  | (simp only [zdh,zgb]; done)
  | (simp only [zdh]; rfl)
abbrev xH:=∀ (β:Type),Nat→Int→(Int→Option β)→Option β
def zg (β:Type) (L:Nat) (p0:Int) (k_fin:Int→Option β):Option β:=zfy zh L p0 k_fin
def zdB (zg:xH) (L:Nat) (β:Type) (args:List V) (bor:Bor) (k:KK β):Option β:=match args,bor with
 | [a0],[]=>aI .i64 a0 fun p0=>zg β L p0 (fun p0=>k (V.sc (.int .i64 p0)) [])
 | _,_=>none
theorem zjN (L:Nat) (β:Type) (args:List V) (bor:Bor) (k:KK β) (r:β) (h:zdB zg L β args bor k=some r):yu xO (yN zh L) L zau args bor k=some r:=by
 unfold zdB at h
 split at h
 ·have q:=xv h; clear h; obtain ⟨p0,rfl,h⟩:=q
  exact (zkh zh L p0 k).trans h
 ·cases h
def zan:CC:=(.seq (.seq (.reg [oo 5 (.move (tq 4) false),
   oo 6 (.bin .lss (tq 5) (.const (.sc (.int .i64 24))))])
 (.cond (tq 6)
 .skip
 (.seq (.mask (bl 8 15) (bl 31727 15))
 (.exit 0))))
 (.seq (.block 1 (.seq (.reg [oo 9 (.move (tq 4) false),
   oo 10 (.call 221 [((tq 9),0)] []),
   oo 11 (.move (tq 0) false),
   oo 12 (.bin .leq (tq 10) (tq 11))])
 (.cond (tq 12)
 (.reg [oo 13 (.move (tq 4) false),
   oo 3 (.move (tq 13) false)])
 .skip)))
 (.reg [oo 7 (.move (tq 4) false),
   oo 8 (.bin .add (tq 7) (.const (.sc (.int .i64 1)))),
   oo 4 (.move (tq 8) false)])))
def zdH:CC:=(.seq (.reg [oo 14 (.move (tq 3) false),
   oo 2 (.move (tq 14) false)])
 .ret)
def zay:CF:=⟨15,[.tmp 2],
 (.seq (.reg [oo 2 (.move (.const (.sc (.int .i64 0))) false)])
 (.seq (.reg [oo 3 (.move (.const (.sc (.int .i64 (-1)))) false)])
 (.seq (.seq (.reg [oo 4 (.move (.const (.sc (.int .i64 0))) false)])
 (.block 0 (.loop (bl 25 15) (bl 31743 15)
 zan)))
 zdH)))⟩
def zgf:Hint:=⟨[],[],[none,some ((bl 25 15),(bl 31743 15)),none,some ((bl 8 15),(bl 31727 15)),none,none,none],[],[],false,false,[]⟩
def zP:Nat→Sh:=zbi []
def xM (zg:xH) (L:Nat):CBC:=(z4 221 (zdB zg L) noC)
def zbu:St→St:=zaj 0 (bl 25 15) (bl 31743 15)
def zaI (p0 p3 p4:Int):St:=⟨((V.sc (.int .i64 p0))::(jn 2 ((V.sc (.int .i64 p3))::((V.sc (.int .i64 p4))::(jn 10 []))))),(gn 15 [])⟩
def zdc (p3:Int):St:=⟨(jn 3 ((V.sc (.int .i64 p3))::(jn 11 []))),(gn 15 [])⟩
def zfC {β:Type} (zg:xH) (L:Nat) (p0:Int) (k_hbbaba:Int→Int→Int→Option β):Option β :=
 k_hbbaba p0 (-1:Int) (0:Int)
theorem zjT {β:Type} (zg:xH) (L:Nat) (p0:Int) (k:KK β):yu zP (xM zg L) L zay [(V.sc (.int .i64 p0))] [] k=zfC zg L p0 (fun p0 p3 p4=>xx (zm zP (xM zg L) 0 L zan) zbu L (zaI p0 p3 p4) (yB 0 (xX (zm zP (xM zg L) 0 L zdH) (zat 0 (CF.res zay) k)))):=by kernel_rfl
def zcH {β:Type} (zg:xH) (L:Nat) (p0 p3 p4:Int) (k_hbbaba:Int→Int→Int→Option β) (k_x0:Int→Option β):Option β :=
 ifb (decide (p4 < (24:Int))) (
 zg β L p4 (fun v0 =>
 ifb (decide (v0≤p0)) (
 lt (IntKind.wrap .i64 ((p4:Int)+(1:Int))) fun x1 =>
 k_hbbaba p0 p4 x1) (
 lt (IntKind.wrap .i64 ((p4:Int)+(1:Int))) fun x2 =>
 k_hbbaba p0 p3 x2))) (
 k_x0 p3)
theorem zhk {β:Type} (zg:xH) (L:Nat) (p0 p3 p4:Int) (X:St→Option β) (K:KT β):zm zP (xM zg L) 0 L zan (zaI p0 p3 p4) (zbq zbu X K)=zcH zg L p0 p3 p4 (fun p0 p3 p4=>X (zaI p0 p3 p4)) (fun p3=>K (.exit 0) (zdc p3)):=by kernel_rfl
def zeN {β:Type} (zg:xH) (L:Nat) (p3:Int) (k_fin:Int→Option β):Option β :=
 k_fin p3
theorem zgt {β:Type} (zg:xH) (L:Nat) (p3:Int) (k:KK β):(yB 0 (xX (zm zP (xM zg L) 0 L zdH) (zat 0 (CF.res zay) k))) (.exit 0) (zdc p3)=zeN zg L p3 (fun p0=>k (V.sc (.int .i64 p0)) []):=by kernel_rfl
def zaF {β:Type} (zg:xH) (L:Nat) (k_x0:Int→Option β):Nat→Int→Int→Int→Option β
 | 0,_,_,_=>none
 | n+1,p0,p3,p4=>zcH zg L p0 p3 p4 (fun p0 p3 p4=>zaF zg L k_x0 n p0 p3 p4) k_x0
theorem zdP {β:Type} (zg:xH) (L:Nat) (K:KT β):∀ (n:Nat) (p0 p3 p4:Int),xx (zm zP (xM zg L) 0 L zan) zbu n (zaI p0 p3 p4) K=zaF zg L (fun p3=>K (.exit 0) (zdc p3)) n p0 p3 p4:=by
 intro n
 induction n with
 | zero=>intros; rfl
 | succ n ih =>
  intro p0 p3 p4
  refine (zhk zg L p0 p3 p4 (fun σ=>xx (zm zP (xM zg L) 0 L zan) zbu n σ K) K).trans ?_
  simp only [ih]
  rfl
def zdA {β:Type} (zg:xH) (L:Nat) (p0:Int) (k_fin:Int→Option β):Option β :=
 zfC zg L p0 (fun p0 p3 p4=>zaF zg L (fun p3=>zeN zg L p3 k_fin) L p0 p3 p4)
theorem zjS {β:Type} (zg:xH) (L:Nat) (p0:Int) (k:KK β):yu zP (xM zg L) L zay [(V.sc (.int .i64 p0))] [] k=zdA zg L p0 (fun p0=>k (V.sc (.int .i64 p0)) []):=by
 refine (zjT zg L p0 k).trans ?_
 unfold zdA
 first
  | (simp only [zdP,zgt]; done)
  | (simp only [zdP]; rfl)
abbrev zdw:=∀ (β:Type),Nat→Int→(Int→Option β)→Option β
def zt (β:Type) (L:Nat) (p0:Int) (k_fin:Int→Option β):Option β:=zdA zg L p0 k_fin
def zdt (zt:zdw) (L:Nat) (β:Type) (args:List V) (bor:Bor) (k:KK β):Option β:=match args,bor with
 | [a0],[]=>aI .i64 a0 fun p0=>zt β L p0 (fun p0=>k (V.sc (.int .i64 p0)) [])
 | _,_=>none
theorem zj7 (L:Nat) (β:Type) (args:List V) (bor:Bor) (k:KK β) (r:β) (h:zdt zt L β args bor k=some r):yu zP (xM zg L) L zay args bor k=some r:=by
 unfold zdt at h
 split at h
 ·have q:=xv h; clear h; obtain ⟨p0,rfl,h⟩:=q
  exact (zjS zg L p0 k).trans h
 ·cases h
def zaY:CC:=(.seq (.seq (.reg [oo 6 (.move (tq 5) false),
   oo 7 (.move (tq 0) false),
   oo 8 (.lenS (tq 7)),
   oo 9 (.bin .lss (tq 6) (tq 8))])
 (.cond (tq 9)
 .skip
 (.seq (.mask (bl 0 20) (bl 1048263 20))
 (.exit 0))))
 (.seq (.block 1 (.seq (.dreg [] [(oo 12 (.move (tq 0) false),q0),
   (oo 13 (.move (tq 5) false),q0),
   (oo 14 (.indexAddrS 35 (tq 12) (tq 13)),q0),
   (oo 15 (.fieldAddr 0 (tq 14)),q0),
   (oo 16 (.load true 32 (tq 15) false),qc [3] []),
   (oo 17 (.load true 32 (tq 3) false),ql 3 [] []),
   (oo 18 (.eqAgg false 32 (tq 16) (tq 17)),q0)])
 (.cond (tq 18)
 (.seq (.reg [oo 19 (.move (tq 5) false),
   oo 4 (.move (tq 19) false)])
 (.seq (.mask (bl 16 20) (bl 1048279 20))
 .ret))
 .skip)))
 (.reg [oo 10 (.move (tq 5) false),
   oo 11 (.bin .add (tq 10) (.const (.sc (.int .i64 1)))),
   oo 5 (.move (tq 11) false)])))
def zc0:CC:=(.seq (.reg [oo 4 (.move (.const (.sc (.int .i64 (-1)))) false)])
 .ret)
def zae:CF:=⟨20,[.tmp 4],
 (.seq (.reg [oo 3 (.box true (tq 1)),
   oo 4 (.move (.const (.sc (.int .i64 0))) false)])
 (.seq (.seq (.reg [oo 5 (.move (.const (.sc (.int .i64 0))) false)])
 (.block 0 (.loop (bl 41 20) (bl 1048303 20)
 zaY)))
 zc0))⟩
def zgz:Hint:=⟨[],[],[none,some ((bl 41 20),(bl 1048303 20)),none,some ((bl 0 20),(bl 1048263 20)),none,none,some ((bl 16 20),(bl 1048279 20)),none],[],[],false,false,[]⟩
def yL:Nat→Sh:=zbi []
def yM (L:Nat):CBC:=noC
def zbY:St→St:=zaj 0 (bl 41 20) (bl 1048303 20)
def zbf (p0:List (List V)) (p5:Int) (b3:List V):St:=⟨((V.sl 35 p0)::(jn 2 ((V.ptr 3 0)::(jn 1 ((V.sc (.int .i64 p5))::(jn 14 [])))))),(gn 3 ((.live true b3)::(gn 16 [])))⟩
def zdb (p4:Int):St:=⟨(jn 4 ((V.sc (.int .i64 p4))::(jn 15 []))),(gn 20 [])⟩
def zdO:St:=⟨(jn 20 []),(gn 20 [])⟩
def zf0 {β:Type} (L:Nat) (p0:List (List V)) (p1:List V) (k_hbaba:List (List V)→Int→List V→Option β):Option β :=
 k_hbaba p0 (0:Int) p1
theorem zlb {β:Type} (L:Nat) (p0:List (List V)) (p1:List V) (k:KK β):yu yL (yM L) L zae [(V.sl 35 p0),(V.agg p1)] [] k=zf0 L p0 p1 (fun p0 p5 b3=>xx (zm yL (yM L) 0 L zaY) zbY L (zbf p0 p5 b3) (yB 0 (xX (zm yL (yM L) 0 L zc0) (zat 0 (CF.res zae) k)))):=by kernel_rfl
def zdE {β:Type} (L:Nat) (p0:List (List V)) (p5:Int) (b3:List V) (k_ret:Int→Option β) (k_hbaba:List (List V)→Int→List V→Option β) (k_x0:Option β):Option β :=
 ifb (decide (p5 < ((List.length p0:Nat):Int))) (
 idx p0 p5 fun c0 =>
 chk (0+32≤(List.length b3)) (
 eqC 32 (List.take 32 c0) (List.take 32 b3) fun v1 =>
 ifb v1 (
 k_ret p5) (
 lt (IntKind.wrap .i64 ((p5:Int)+(1:Int))) fun x2 =>
 k_hbaba p0 x2 b3))) (
 k_x0)
theorem zh8 {β:Type} (L:Nat) (p0:List (List V)) (p5:Int) (b3:List V) (X:St→Option β) (K:KT β):zm yL (yM L) 0 L zaY (zbf p0 p5 b3) (zbq zbY X K)=zdE L p0 p5 b3 (fun p4=>K .ret (zdb p4)) (fun p0 p5 b3=>X (zbf p0 p5 b3)) (K (.exit 0) (zdO)):=by kernel_rfl
def zci {β:Type} (L:Nat) (p4:Int) (k_fin:Int→Option β):Option β :=
 k_fin p4
theorem zg6 {β:Type} (L:Nat) (p4:Int) (k:KK β):(yB 0 (xX (zm yL (yM L) 0 L zc0) (zat 0 (CF.res zae) k))) .ret (zdb p4)=zci L p4 (fun p0=>k (V.sc (.int .i64 p0)) []):=by kernel_rfl
def zcO {β:Type} (L:Nat) (k_fin:Int→Option β):Option β :=
 k_fin (-1:Int)
theorem zhe {β:Type} (L:Nat) (k:KK β):(yB 0 (xX (zm yL (yM L) 0 L zc0) (zat 0 (CF.res zae) k))) (.exit 0) (zdO)=zcO L (fun p0=>k (V.sc (.int .i64 p0)) []):=by kernel_rfl
def zbb {β:Type} (L:Nat) (k_ret:Int→Option β) (k_x0:Option β):Nat→List (List V)→Int→List V→Option β
 | 0,_,_,_=>none
 | n+1,p0,p5,b3=>zdE L p0 p5 b3 k_ret (fun p0 p5 b3=>zbb L k_ret k_x0 n p0 p5 b3) k_x0
theorem zeW {β:Type} (L:Nat) (K:KT β):∀ (n:Nat) (p0:List (List V)) (p5:Int) (b3:List V),xx (zm yL (yM L) 0 L zaY) zbY n (zbf p0 p5 b3) K=zbb L (fun p4=>K .ret (zdb p4)) (K (.exit 0) (zdO)) n p0 p5 b3:=by
 intro n
 induction n with
 | zero=>intros; rfl
 | succ n ih =>
  intro p0 p5 b3
  refine (zh8 L p0 p5 b3 (fun σ=>xx (zm yL (yM L) 0 L zaY) zbY n σ K) K).trans ?_
  simp only [ih]
  rfl
def zeP {β:Type} (L:Nat) (p0:List (List V)) (p1:List V) (k_fin:Int→Option β):Option β :=
 zf0 L p0 p1 (fun p0 p5 b3=>zbb L (fun p4=>zci L p4 k_fin) (zcO L k_fin) L p0 p5 b3)
theorem zkU {β:Type} (L:Nat) (p0:List (List V)) (p1:List V) (k:KK β):yu yL (yM L) L zae [(V.sl 35 p0),(V.agg p1)] [] k=zeP L p0 p1 (fun p0=>k (V.sc (.int .i64 p0)) []):=by
 refine (zlb L p0 p1 k).trans ?_
 unfold zeP
 first
  | (simp only [zeW,zg6,zhe]; done)
  | (simp only [zeW]; rfl)
abbrev zeK:=∀ (β:Type),Nat→List (List V)→List V→(Int→Option β)→Option β
def yx (β:Type) (L:Nat) (p0:List (List V)) (p1:List V) (k_fin:Int→Option β):Option β:=zeP L p0 p1 k_fin
def zd8 (yx:zeK) (L:Nat) (β:Type) (args:List V) (bor:Bor) (k:KK β):Option β:=match args,bor with
 | [a0,a1],[]=>aL 35 a0 fun p0=>aG a1 fun p1=>yx β L p0 p1 (fun p0=>k (V.sc (.int .i64 p0)) [])
 | _,_=>none
theorem zko (L:Nat) (β:Type) (args:List V) (bor:Bor) (k:KK β) (r:β) (h:zd8 yx L β args bor k=some r):yu yL (yM L) L zae args bor k=some r:=by
 unfold zd8 at h
 split at h
 ·have q:=zbo h; clear h; obtain ⟨p0,rfl,h⟩:=q
  have q:=zpc h; clear h; obtain ⟨p1,rfl,h⟩:=q
  exact (zkU L p0 p1 k).trans h
 ·cases h
def zb6:CF:=⟨38,[.tmp 8,.tmp 9],
 (.seq (.reg [oo 5 (.box true (tq 1)),
   oo 8 (.move (.const (.gs 35 [])) true),
   oo 9 (.move (.const (.sc (.int .i64 0))) false)])
 (.seq (.block 0 (.seq (.reg [oo 11 (.move (tq 2) false),
   oo 12 (.call 223 [((tq 11),0)] []),
   oo 13 (.bin .lss (tq 12) (.const (.sc (.int .i64 0)))),
   oo 14 (.move (tq 13) false),
   ⟨(some 15),false,(some (14,false)),.move (tq 3) false⟩,
   ⟨(some 16),false,(some (14,false)),.call 242 [((tq 15),0),((.const (.sc (.int .i64 1))),0),((.const (.sc (.int .i64 16777216))),0)] []⟩,
   ⟨(some 17),false,(some (14,false)),.un .not (tq 16)⟩,
   oo 18 (.pick (tq 14) (.const (.sc (.bool true))) (tq 17)),
   oo 10 (.move (tq 18) false)])
 (.cond (tq 10)
 (.seq (.reg [oo 8 (.move (.const (.gs 35 [])) true),
   oo 9 (.move (.const (.sc (.int .i64 5))) false)])
 .ret)
 (.seq (.reg [oo 20 (.move (tq 0) false),
   oo 21 (.load true 32 (tq 5) false),
   oo 22 (.call 251 [((tq 20),0),((tq 21),0)] []),
   oo 23 (.bin .geq (tq 22) (.const (.sc (.int .i64 0)))),
   oo 19 (.move (tq 23) false)])
 (.cond (tq 19)
 (.seq (.reg [oo 8 (.move (.const (.gs 35 [])) true),
   oo 9 (.move (.const (.sc (.int .i64 150))) false)])
 .ret)
 (.seq (.reg [oo 25 (.move (tq 0) false),
   oo 26 (.lenS (tq 25)),
   oo 27 (.bin .geq (tq 26) (.const (.sc (.int .i64 2048)))),
   oo 24 (.move (tq 27) false)])
 (.cond (tq 24)
 (.seq (.reg [oo 8 (.move (.const (.gs 35 [])) true),
   oo 9 (.move (.const (.sc (.int .i64 380))) false)])
 .ret)
 .skip)))))))
 (.seq (.dreg [] [(oo 28 (.buildSlice 35 0 (rp 32 (.sc (.int .u8 0)) (rp 3 (.sc (.int .i64 0)) [])) []),qn [5] []),
   (oo 29 (.move (tq 0) false),q0),
   (oo 30 (.append 35 56 (tq 28) (tq 29)),qn [5] []),
   (oo 31 (.load true 32 (tq 5) false),ql 5 [] [28,30]),
   (oo 32 (.move (tq 2) false),q0),
   (oo 33 (.call 223 [((tq 32),0)] []),qc [5] []),
   (oo 34 (.move (tq 3) false),q0),
   (oo 35 (.build (rp 32 (.sc (.int .u8 0)) (rp 3 (.sc (.int .i64 0)) [])) [(0,32,(tq 31)),(32,1,(tq 33)),(33,1,(tq 34))]),q0),
   (oo 36 (.buildSlice 35 1 (rp 32 (.sc (.int .u8 0)) (rp 3 (.sc (.int .i64 0)) [])) [(0,35,(tq 35))]),q0),
   (oo 37 (.append 35 56 (tq 30) (tq 36)),q0),
   (oo 8 (.move (tq 37) true),q0),
   (oo 9 (.move (.const (.sc (.int .i64 0))) false),q0)])
 .ret)))⟩
def zfr:Hint:=⟨[(0,1),(2,0),(4,0),(6,0),(7,10)],[],[none,none,none,none,none,none,none,none],[],[],false,false,[]⟩
def zdI:Nat→Sh:=zbi []
def zdM (zt:zdw) (zh:zL) (yx:zeK) (L:Nat):CBC:=(z4 251 (zd8 yx L) (z4 242 (zev zh L) (z4 223 (zdt zt L) noC)))
def zd4 {β:Type} (zt:zdw) (zh:zL) (yx:zeK) (L:Nat) (p0:List (List V)) (p1:List V) (p2 p3:Int) (k_fin:List (List V)→Int→Option β):Option β :=
 zt β L p2 (fun v0 =>
 ifb (decide (v0 < (0:Int))) (
 k_fin ([]:List (List V)) (5:Int)) (
 zh β L p3 (1:Int) (16777216:Int) (fun v1 =>
 ifb (!v1) (
 k_fin ([]:List (List V)) (5:Int)) (
 chk (0+32≤(List.length p1)) (
 yx β L p0 (List.take 32 p1) (fun v2 =>
 ifb (decide (v2 ≥ (0:Int))) (
 k_fin ([]:List (List V)) (150:Int)) (
 ifb (decide (((List.length p0:Nat):Int) ≥ (2048:Int))) (
 k_fin ([]:List (List V)) (380:Int)) (
 chk ((List.length ([]:List (List V))+List.length p0) * 56≤xm∧List.length ([]:List (List V))+List.length p0≤xm) (
 lt (([]:List (List V))++p0) fun l3 =>
 chk (0+32≤(List.length p1)) (
 zt β L p2 (fun v4 =>
 chk ((List.length (List.take 32 p1))=32∧0+32≤35) (
 chk (1=1∧32+1≤(List.length (xh (List.replicate 32 (V.sc (.int .u8 (0:Int)))++[(V.sc (.int .i64 (0:Int))),(V.sc (.int .i64 (0:Int))),(V.sc (.int .i64 (0:Int)))]) 0 (List.take 32 p1)))) (
 chk (1=1∧33+1≤(List.length (xh (xh (List.replicate 32 (V.sc (.int .u8 (0:Int)))++[(V.sc (.int .i64 (0:Int))),(V.sc (.int .i64 (0:Int))),(V.sc (.int .i64 (0:Int)))]) 0 (List.take 32 p1)) 32 [(V.sc (.int .i64 v4))]))) (
 chk ((List.length (xh (xh (xh (List.replicate 32 (V.sc (.int .u8 (0:Int)))++[(V.sc (.int .i64 (0:Int))),(V.sc (.int .i64 (0:Int))),(V.sc (.int .i64 (0:Int)))]) 0 (List.take 32 p1)) 32 [(V.sc (.int .i64 v4))]) 33 [(V.sc (.int .i64 p3))]))=35∧0+35≤35) (
 chk ((List.length l3+List.length (yh 35 1 (xh (List.replicate 32 (V.sc (.int .u8 (0:Int)))++[(V.sc (.int .i64 (0:Int))),(V.sc (.int .i64 (0:Int))),(V.sc (.int .i64 (0:Int)))]) 0 (xh (xh (xh (List.replicate 32 (V.sc (.int .u8 (0:Int)))++[(V.sc (.int .i64 (0:Int))),(V.sc (.int .i64 (0:Int))),(V.sc (.int .i64 (0:Int)))]) 0 (List.take 32 p1)) 32 [(V.sc (.int .i64 v4))]) 33 [(V.sc (.int .i64 p3))])))) * 56≤xm∧List.length l3+List.length (yh 35 1 (xh (List.replicate 32 (V.sc (.int .u8 (0:Int)))++[(V.sc (.int .i64 (0:Int))),(V.sc (.int .i64 (0:Int))),(V.sc (.int .i64 (0:Int)))]) 0 (xh (xh (xh (List.replicate 32 (V.sc (.int .u8 (0:Int)))++[(V.sc (.int .i64 (0:Int))),(V.sc (.int .i64 (0:Int))),(V.sc (.int .i64 (0:Int)))]) 0 (List.take 32 p1)) 32 [(V.sc (.int .i64 v4))]) 33 [(V.sc (.int .i64 p3))])))≤xm) (
 lt (l3++(yh 35 1 (xh (List.replicate 32 (V.sc (.int .u8 (0:Int)))++[(V.sc (.int .i64 (0:Int))),(V.sc (.int .i64 (0:Int))),(V.sc (.int .i64 (0:Int)))]) 0 (xh (xh (xh (List.replicate 32 (V.sc (.int .u8 (0:Int)))++[(V.sc (.int .i64 (0:Int))),(V.sc (.int .i64 (0:Int))),(V.sc (.int .i64 (0:Int)))]) 0 (List.take 32 p1)) 32 [(V.sc (.int .i64 v4))]) 33 [(V.sc (.int .i64 p3))])))) fun l5 =>
 k_fin l5 (0:Int)))))))))))))))))
theorem zio {β:Type} (zt:zdw) (zh:zL) (yx:zeK) (L:Nat) (p0:List (List V)) (p1:List V) (p2 p3:Int) (k:KK β):yu zdI (zdM zt zh yx L) L zb6 [(V.sl 35 p0),(V.agg p1),(V.sc (.int .i64 p2)),(V.sc (.int .i64 p3))] [] k=zd4 zt zh yx L p0 p1 p2 p3 (fun zso zsp=>k (V.tup [(V.gs 35 zso),(V.sc (.int .i64 zsp))]) []):=by kernel_rfl
abbrev xB:=∀ (β:Type),Nat→List (List V)→List V→Int→Int→(List (List V)→Int→Option β)→Option β
def ze (β:Type) (L:Nat) (p0:List (List V)) (p1:List V) (p2 p3:Int) (k_fin:List (List V)→Int→Option β):Option β:=zd4 zt zh yx L p0 p1 p2 p3 k_fin
def zcz (ze:xB) (L:Nat) (β:Type) (args:List V) (bor:Bor) (k:KK β):Option β:=match args,bor with
 | [a0,a1,a2,a3],[]=>aL 35 a0 fun p0=>aG a1 fun p1=>aI .i64 a2 fun p2=>aI .i64 a3 fun p3=>ze β L p0 p1 p2 p3 (fun zso zsp=>k (V.tup [(V.gs 35 zso),(V.sc (.int .i64 zsp))]) [])
 | _,_=>none
theorem ziF (L:Nat) (β:Type) (args:List V) (bor:Bor) (k:KK β) (r:β) (h:zcz ze L β args bor k=some r):yu zdI (zdM zt zh yx L) L zb6 args bor k=some r:=by
 unfold zcz at h
 split at h
 ·have q:=zbo h; clear h; obtain ⟨p0,rfl,h⟩:=q
  have q:=zpc h; clear h; obtain ⟨p1,rfl,h⟩:=q
  have q:=xv h; clear h; obtain ⟨p2,rfl,h⟩:=q
  have q:=xv h; clear h; obtain ⟨p3,rfl,h⟩:=q
  exact (zio zt zh yx L p0 p1 p2 p3 k).trans h
 ·cases h
def y5:CC:=(.seq (.seq (.reg [oo 9 (.move (tq 4) false),
   oo 10 (.bin .gtr (tq 9) (.const (.sc (.int .i64 0))))])
 (.cond (tq 10)
 .skip
 (.seq (.mask (bl 8 41) (bl 1475076669327 41))
 (.exit 0))))
 (.seq (.block 1 (.seq (.reg [oo 13 (.move (tq 0) false),
   oo 14 (.call 231 [((tq 13),0),((.const (.sc (.int .i64 4))),0)] [])])
 (.block 2 (.seq (.reg [oo 32 (.bin .eql (tq 14) (.const (.sc (.int .i64 0)))),
   oo 31 (.move (tq 32) false)])
 (.cond (tq 31)
 (.reg [oo 33 (.move (tq 3) false),
   oo 34 (.move (tq 0) false),
   oo 35 (.call 233 [((tq 34),0),((.const (.sc (.int .i64 4))),0)] []),
   oo 36 (.move (tq 0) false),
   oo 37 (.call 231 [((tq 36),0),((.const (.sc (.int .i64 20))),0)] []),
   oo 38 (.bin .add (.const (.sc (.int .i64 1))) (tq 37)),
   oo 39 (.call 238 [((tq 33),0),((tq 35),0),((tq 38),0)] []),
   oo 3 (.move (tq 39) true)])
 (.seq (.reg [oo 16 (.move (tq 3) false),
   oo 17 (.move (tq 0) false),
   oo 18 (.call 236 [((tq 17),0)] []),
   oo 19 (.move (tq 0) false),
   oo 20 (.call 231 [((tq 19),0),((.const (.sc (.int .i64 60))),0)] []),
   oo 21 (.bin .add (.const (.sc (.int .i64 10))) (tq 20)),
   oo 22 (.move (tq 0) false),
   oo 23 (.call 231 [((tq 22),0),((.const (.sc (.int .i64 15))),0)] []),
   oo 24 (.bin .add (.const (.sc (.int .i64 1))) (tq 23)),
   oo 25 (.call 237 [((tq 16),0),((tq 18),0),((tq 21),0),((tq 24),0)] []),
   oo 15 (.move (tq 25) true),
   oo 26 (.extract (tq 15) 0),
   oo 27 (.pull (tq 15) 1),
   oo 5 (.move (tq 26) true),
   oo 6 (.move (tq 27) false)])
 (.seq (.reg [oo 28 (.move (tq 6) false),
   oo 29 (.bin .eql (tq 28) (.const (.sc (.int .i64 0))))])
 (.cond (tq 29)
 (.reg [oo 30 (.move (tq 5) true),
   oo 3 (.move (tq 30) true)])
 .skip))))))))
 (.reg [oo 11 (.move (tq 4) false),
   oo 12 (.bin .sub (tq 11) (.const (.sc (.int .i64 1)))),
   oo 4 (.move (tq 12) false)])))
def zcR:CC:=(.seq (.reg [oo 40 (.move (tq 3) true),
   oo 2 (.move (tq 40) true)])
 .ret)
def y4:CF:=⟨41,[.tmp 2],
 (.seq (.reg [oo 2 (.move (.const (.gs 35 [])) true)])
 (.seq (.reg [oo 3 (.move (.const (.gs 35 [])) true)])
 (.seq (.seq (.reg [oo 7 (.move (tq 0) false),
   oo 8 (.call 231 [((tq 7),0),((.const (.sc (.int .i64 20))),0)] []),
   oo 4 (.move (tq 8) false)])
 (.block 0 (.loop (bl 25 41) (bl 1475076669343 41)
 y5)))
 zcR)))⟩
def zfh:Hint:=⟨[(0,0),(1,0),(10,7),(6,10),(6,11),(6,13),(8,0),(8,1),(11,0),(11,1)],[],[none,some ((bl 25 41),(bl 1475076669343 41)),none,some ((bl 8 41),(bl 1475076669327 41)),none,none,none,none,none],[],[],false,false,[]⟩
def zE:Nat→Sh:=zbi []
def yF (za:zj) (xf:yH) (ye:zC) (zc:yr) (ze:xB) (L:Nat):CBC:=(z4 237 (zcz ze L) (z4 236 (zdo zc L) (z4 238 (zcp ye L) (z4 233 (zdu xf L) (z4 231 (zap za L) noC)))))
def za2:St→St:=zaj 1 (bl 25 41) (bl 1475076669343 41)
def zai (p3:List (List V)) (p4:Int) (zsk:List (List V)) (zsl:Int):St:=⟨((V.ptr 0 0)::(jn 2 ((V.gs 35 p3)::((V.sc (.int .i64 p4))::(jn 36 []))))),((.live false [(V.sl 1 zsk),(V.sc (.int .i64 zsl))])::(gn 41 []))⟩
def zcf (p3 zsk:List (List V)) (zsl:Int):St:=⟨(jn 3 ((V.gs 35 p3)::(jn 37 []))),((.live false [(V.sl 1 zsk),(V.sc (.int .i64 zsl))])::(gn 41 []))⟩
def zef {β:Type} (za:zj) (xf:yH) (ye:zC) (zc:yr) (ze:xB) (L:Nat) (zsk:List (List V)) (zsl:Int) (k_hbbaba:List (List V)→Int→List (List V)→Int→Option β):Option β :=
 za β L (20:Int) zsk zsl (fun v0 v1 v2 =>
 k_hbbaba ([]:List (List V)) v0 v1 v2)
theorem zit {β:Type} (za:zj) (xf:yH) (ye:zC) (zc:yr) (ze:xB) (L:Nat) (zsk:List (List V)) (zsl:Int) (k:KK β):yu zE (yF za xf ye zc ze L) L y4 [(V.ptr 0 0)] [(.live false [(V.sl 1 zsk),(V.sc (.int .i64 zsl))])] k=zef za xf ye zc ze L zsk zsl (fun p3 p4 zsk zsl=>xx (zm zE (yF za xf ye zc ze L) 1 L y5) za2 L (zai p3 p4 zsk zsl) (yB 0 (xX (zm zE (yF za xf ye zc ze L) 1 L zcR) (zat 1 (CF.res y4) k)))):=by kernel_rfl
def zV {β:Type} (za:zj) (xf:yH) (ye:zC) (zc:yr) (ze:xB) (L:Nat) (p3:List (List V)) (p4:Int) (zsk:List (List V)) (zsl:Int) (k_hbbaba:List (List V)→Int→List (List V)→Int→Option β) (k_x0:List (List V)→List (List V)→Int→Option β):Option β :=
 ifb (decide (p4 > (0:Int))) (
 za β L (4:Int) zsk zsl (fun v3 v4 v5 =>
 ifb ((v3:Int) == (0:Int)) (
 xf β L (4:Int) v4 v5 (fun v6 v7 v8 =>
 za β L (20:Int) v7 v8 (fun v9 v10 v11 =>
 lt (IntKind.wrap .i64 (((1:Int):Int)+v9)) fun x12 =>
 ye β L p3 v6 x12 (fun v13 =>
 lt (IntKind.wrap .i64 ((p4:Int) - (1:Int))) fun x14 =>
 k_hbbaba v13 x14 v10 v11)))) (
 zc β L v4 v5 (fun v15 v16 v17 =>
 za β L (60:Int) v16 v17 (fun v18 v19 v20 =>
 lt (IntKind.wrap .i64 (((10:Int):Int)+v18)) fun x21 =>
 za β L (15:Int) v19 v20 (fun v22 v23 v24 =>
 lt (IntKind.wrap .i64 (((1:Int):Int)+v22)) fun x25 =>
 ze β L p3 v15 x21 x25 (fun v26 v27 =>
 ifb ((v27:Int) == (0:Int)) (
 lt (IntKind.wrap .i64 ((p4:Int) - (1:Int))) fun x28 =>
 k_hbbaba v26 x28 v23 v24) (
 lt (IntKind.wrap .i64 ((p4:Int) - (1:Int))) fun x29 =>
 k_hbbaba p3 x29 v23 v24)))))))) (
 k_x0 p3 zsk zsl)
theorem zgr {β:Type} (za:zj) (xf:yH) (ye:zC) (zc:yr) (ze:xB) (L:Nat) (p3:List (List V)) (p4:Int) (zsk:List (List V)) (zsl:Int) (X:St→Option β) (K:KT β):zm zE (yF za xf ye zc ze L) 1 L y5 (zai p3 p4 zsk zsl) (zbq za2 X K)=zV za xf ye zc ze L p3 p4 zsk zsl (fun p3 p4 zsk zsl=>X (zai p3 p4 zsk zsl)) (fun p3 zsk zsl=>K (.exit 0) (zcf p3 zsk zsl)):=by kernel_rfl
def zdq {β:Type} (za:zj) (xf:yH) (ye:zC) (zc:yr) (ze:xB) (L:Nat) (p3 zsk:List (List V)) (zsl:Int) (k_fin:List (List V)→List (List V)→Int→Option β):Option β :=
 k_fin p3 zsk zsl
theorem zfL {β:Type} (za:zj) (xf:yH) (ye:zC) (zc:yr) (ze:xB) (L:Nat) (p3 zsk:List (List V)) (zsl:Int) (k:KK β):(yB 0 (xX (zm zE (yF za xf ye zc ze L) 1 L zcR) (zat 1 (CF.res y4) k))) (.exit 0) (zcf p3 zsk zsl)=zdq za xf ye zc ze L p3 zsk zsl (fun p0 zsk zsl=>k (V.gs 35 p0) [(.live false [(V.sl 1 zsk),(V.sc (.int .i64 zsl))])]):=by kernel_rfl
def yD {β:Type} (za:zj) (xf:yH) (ye:zC) (zc:yr) (ze:xB) (L:Nat) (k_x0:List (List V)→List (List V)→Int→Option β):Nat→List (List V)→Int→List (List V)→Int→Option β
 | 0,_,_,_,_=>none
 | n+1,p3,p4,zsk,zsl=>zV za xf ye zc ze L p3 p4 zsk zsl (fun p3 p4 zsk zsl=>yD za xf ye zc ze L k_x0 n p3 p4 zsk zsl) k_x0
theorem zc3 {β:Type} (za:zj) (xf:yH) (ye:zC) (zc:yr) (ze:xB) (L:Nat) (K:KT β):∀ (n:Nat) (p3:List (List V)) (p4:Int) (zsk:List (List V)) (zsl:Int),xx (zm zE (yF za xf ye zc ze L) 1 L y5) za2 n (zai p3 p4 zsk zsl) K=yD za xf ye zc ze L (fun p3 zsk zsl=>K (.exit 0) (zcf p3 zsk zsl)) n p3 p4 zsk zsl:=by
 intro n
 induction n with
 | zero=>intros; rfl
 | succ n ih =>
  intro p3 p4 zsk zsl
  refine (zgr za xf ye zc ze L p3 p4 zsk zsl (fun σ=>xx (zm zE (yF za xf ye zc ze L) 1 L y5) za2 n σ K) K).trans ?_
  simp only [ih]
  rfl
def zcv {β:Type} (za:zj) (xf:yH) (ye:zC) (zc:yr) (ze:xB) (L:Nat) (zsk:List (List V)) (zsl:Int) (k_fin:List (List V)→List (List V)→Int→Option β):Option β :=
 zef za xf ye zc ze L zsk zsl (fun p3 p4 zsk zsl=>yD za xf ye zc ze L (fun p3 zsk zsl=>zdq za xf ye zc ze L p3 zsk zsl k_fin) L p3 p4 zsk zsl)
theorem ziV {β:Type} (za:zj) (xf:yH) (ye:zC) (zc:yr) (ze:xB) (L:Nat) (zsk:List (List V)) (zsl:Int) (k:KK β):yu zE (yF za xf ye zc ze L) L y4 [(V.ptr 0 0)] [(.live false [(V.sl 1 zsk),(V.sc (.int .i64 zsl))])] k=zcv za xf ye zc ze L zsk zsl (fun p0 zsk zsl=>k (V.gs 35 p0) [(.live false [(V.sl 1 zsk),(V.sc (.int .i64 zsl))])]):=by
 refine (zit za xf ye zc ze L zsk zsl k).trans ?_
 unfold zcv
 first
  | (simp only [zc3,zfL]; done)
  | (simp only [zc3]; rfl)
abbrev zo:=∀ (β:Type),Nat→List (List V)→Int→(List (List V)→List (List V)→Int→Option β)→Option β
def zb (β:Type) (L:Nat) (zsk:List (List V)) (zsl:Int) (k_fin:List (List V)→List (List V)→Int→Option β):Option β:=zcv za xf ye zc ze L zsk zsl k_fin
def zcx (zb:zo) (L:Nat) (β:Type) (args:List V) (bor:Bor) (k:KK β):Option β:=match args,bor with
 | [a0],[(.live false [w0_0,w0_1])]=>aP 0 0 a0 (aL 1 w0_0 fun zsk=>aI .i64 w0_1 fun zsl=>zb β L zsk zsl (fun p0 zsk zsl=>k (V.gs 35 p0) [(.live false [(V.sl 1 zsk),(V.sc (.int .i64 zsl))])]))
 | _,_=>none
theorem ziC (L:Nat) (β:Type) (args:List V) (bor:Bor) (k:KK β) (r:β) (h:zcx zb L β args bor k=some r):yu zE (yF za xf ye zc ze L) L y4 args bor k=some r:=by
 unfold zcx at h
 split at h
 ·have q:=ziw h; clear h; obtain ⟨rfl,h⟩:=q
  have q:=zbo h; clear h; obtain ⟨zsk,rfl,h⟩:=q
  have q:=xv h; clear h; obtain ⟨zsl,rfl,h⟩:=q
  exact (ziV za xf ye zc ze L zsk zsl k).trans h
 ·cases h
def zaZ:CC:=(.seq (.reg [oo 16 (.bin .lss (tq 15) (tq 14))])
 (.seq (.cond (tq 16)
 .skip
 (.seq (.mask (bl 768 52) (bl 4503599627364351 52))
 (.exit 0)))
 (.seq (.block 1 (.seq (.reg [oo 17 (.indexAddrS 35 (tq 13) (tq 15)),
   oo 18 (.load true 35 (tq 17) false),
   oo 11 (.alloc true (rp 32 (.sc (.int .u8 0)) (rp 3 (.sc (.int .i64 0)) []))),
   oz (.store 35 (tq 11) (tq 18))])
 (.seq (.seq (.reg [oo 19 (.fieldAddr 32 (tq 11)),
   oo 20 (.load false 1 (tq 19) false),
   oo 21 (.move (tq 1) false),
   oo 22 (.bin .neq (tq 20) (tq 21))])
 (.cond (tq 22)
 (.exit 1)
 .skip))
 (.seq (.reg [oo 23 (.fieldAddr 34 (tq 11)),
   oo 24 (.load false 1 (tq 23) false),
   oo 25 (.bin .geq (tq 24) (.const (.sc (.int .i64 1)))),
   oo 12 (.move (tq 25) false)])
 (.seq (.seq (.reg [oo 26 (.move (tq 12) false),
   oo 27 (.move (tq 26) false),
   ⟨(some 28),false,(some (27,false)),.fieldAddr 33 (tq 11)⟩,
   ⟨(some 29),false,(some (27,false)),.load false 1 (tq 28) false⟩,
   ⟨(some 30),false,(some (27,false)),.move (tq 2) false⟩,
   ⟨(some 31),false,(some (27,false)),.bin .add (tq 29) (tq 30)⟩,
   ⟨(some 32),false,(some (27,false)),.move (tq 3) false⟩,
   ⟨(some 33),false,(some (27,false)),.bin .leq (tq 31) (tq 32)⟩,
   oo 34 (.pick (tq 27) (.const (.sc (.bool true))) (tq 33))])
 (.cond (tq 34)
 (.reg [oo 35 (.move (tq 9) false),
   oo 36 (.bin .add (tq 35) (.const (.sc (.int .i64 1)))),
   oo 9 (.move (tq 36) false)])
 .skip))
 (.seq (.reg [oo 37 (.move (tq 12) false),
   oo 38 (.move (tq 37) false),
   ⟨(some 39),false,(some (38,true)),.fieldAddr 34 (tq 11)⟩,
   ⟨(some 40),false,(some (38,true)),.load false 1 (tq 39) false⟩,
   ⟨(some 41),false,(some (38,true)),.fieldAddr 33 (tq 11)⟩,
   ⟨(some 42),false,(some (38,true)),.load false 1 (tq 41) false⟩,
   ⟨(some 43),false,(some (38,true)),.bin .sub (tq 40) (tq 42)⟩,
   ⟨(some 44),false,(some (38,true)),.move (tq 2) false⟩,
   ⟨(some 45),false,(some (38,true)),.bin .leq (tq 43) (tq 44)⟩,
   oo 46 (.pick (tq 38) (tq 45) (.const (.sc (.bool false))))])
 (.cond (tq 46)
 (.reg [oo 47 (.move (tq 8) false),
   oo 48 (.bin .add (tq 47) (.const (.sc (.int .i64 1)))),
   oo 8 (.move (tq 48) false)])
 .skip)))))))
 (.reg [oo 49 (.bin .add (tq 15) (.const (.sc (.int .i64 1)))),
   oo 15 (.move (tq 49) false)]))))
def ze3:CC:=(.seq (.reg [oo 50 (.move (tq 8) false),
   oo 51 (.move (tq 9) false),
   oo 8 (.move (tq 50) false),
   oo 9 (.move (tq 51) false)])
 .ret)
def zaT:CF:=⟨52,[.tmp 8,.tmp 9],
 (.seq (.reg [oo 8 (.move (.const (.sc (.int .i64 0))) false),
   oo 9 (.move (.const (.sc (.int .i64 0))) false)])
 (.seq (.seq (.reg [oo 13 (.move (tq 0) false),
   oo 14 (.lenS (tq 13)),
   oo 15 (.move (.const (.sc (.int .i64 0))) false)])
 (.block 0 (.loop (bl 58126 52) (bl 4503599627364351 52)
 zaZ)))
 ze3))⟩
def zgD:Hint:=⟨[],[],[none,some ((bl 58126 52),(bl 4503599627364351 52)),none,some ((bl 768 52),(bl 4503599627364351 52)),none,none,none,none,none,none],[],[],false,false,[]⟩
def xT:Nat→Sh:=zbi [(20,(.int .i64)),(24,(.int .i64)),(40,(.int .i64)),(42,(.int .i64)),(29,(.int .i64))]
def zU (L:Nat):CBC:=noC
def zb4:St→St:=zaj 0 (bl 58126 52) (bl 4503599627364351 52)
def zbg (p1 p2 p3 p8 p9:Int) (p13:List (List V)) (p14 p15:Int):St:=⟨(jn 1 ((V.sc (.int .i64 p1))::((V.sc (.int .i64 p2))::((V.sc (.int .i64 p3))::(jn 4 ((V.sc (.int .i64 p8))::((V.sc (.int .i64 p9))::(jn 3 ((V.sl 35 p13)::((V.sc (.int .i64 p14))::((V.sc (.int .i64 p15))::(jn 36 [])))))))))))),(gn 52 [])⟩
def zdL (p8 p9:Int):St:=⟨(jn 8 ((V.sc (.int .i64 p8))::((V.sc (.int .i64 p9))::(jn 42 [])))),(gn 52 [])⟩
abbrev zfI (β:Type):Type:=Int→Int→Int→Int→Int→List (List V)→Int→Int→Option β
def zf6 {β:Type} (L:Nat) (p0:List (List V)) (p1 p2 p3:Int) (k_hbaba:zfI β):Option β :=
 k_hbaba p1 p2 p3 (0:Int) (0:Int) p0 ((List.length p0:Nat):Int) (0:Int)
theorem zkW {β:Type} (L:Nat) (p0:List (List V)) (p1 p2 p3:Int) (k:KK β):yu xT (zU L) L zaT [(V.sl 35 p0),(V.sc (.int .i64 p1)),(V.sc (.int .i64 p2)),(V.sc (.int .i64 p3))] [] k=zf6 L p0 p1 p2 p3 (fun p1 p2 p3 p8 p9 p13 p14 p15=>xx (zm xT (zU L) 0 L zaZ) zb4 L (zbg p1 p2 p3 p8 p9 p13 p14 p15) (yB 0 (xX (zm xT (zU L) 0 L ze3) (zat 0 (CF.res zaT) k)))):=by kernel_rfl
def zdF {β:Type} (L:Nat) (p1 p2 p3 p8 p9:Int) (p13:List (List V)) (p14 p15:Int) (k_hbaba:zfI β) (k_x0:Int→Int→Option β):Option β :=
 ifb (decide (p15 < p14)) (
 idx p13 p15 fun c0 =>
 chk ((List.length (List.take 35 c0))=35∧0+35≤35) (
 lt (xh (List.replicate 32 (V.sc (.int .u8 (0:Int)))++[(V.sc (.int .i64 (0:Int))),(V.sc (.int .i64 (0:Int))),(V.sc (.int .i64 (0:Int)))]) 0 (List.take 35 c0)) fun r1 =>
 cI .i64 r1 32 fun v2 =>
 ifb ((v2:Int) != p1) (
 lt (IntKind.wrap .i64 ((p15:Int)+(1:Int))) fun x3 =>
 k_hbaba p1 p2 p3 p8 p9 p13 p14 x3) (
 cI .i64 r1 34 fun v4 =>
 ifb (decide (v4 ≥ (1:Int))) (
 lt (IntKind.wrap .i64 ((p9:Int)+(1:Int))) fun x5 =>
 ifb (decide (v4 ≥ (1:Int))) (
 cI .i64 r1 34 fun v6 =>
 cI .i64 r1 33 fun v7 =>
 lt (IntKind.wrap .i64 ((v6:Int) - v7)) fun x8 =>
 ifb (decide (x8≤p2)) (
 lt (IntKind.wrap .i64 ((p8:Int)+(1:Int))) fun x9 =>
 lt (IntKind.wrap .i64 ((p15:Int)+(1:Int))) fun x10 =>
 k_hbaba p1 p2 p3 x9 x5 p13 p14 x10) (
 lt (IntKind.wrap .i64 ((p15:Int)+(1:Int))) fun x11 =>
 k_hbaba p1 p2 p3 p8 x5 p13 p14 x11)) (
 lt (IntKind.wrap .i64 ((p15:Int)+(1:Int))) fun x12 =>
 k_hbaba p1 p2 p3 p8 x5 p13 p14 x12)) (
 cI .i64 r1 33 fun v13 =>
 lt (IntKind.wrap .i64 ((v13:Int)+p2)) fun x14 =>
 ifb (decide (x14≤p3)) (
 lt (IntKind.wrap .i64 ((p9:Int)+(1:Int))) fun x15 =>
 ifb (decide (v4 ≥ (1:Int))) (
 cI .i64 r1 34 fun v16 =>
 cI .i64 r1 33 fun v17 =>
 lt (IntKind.wrap .i64 ((v16:Int) - v17)) fun x18 =>
 ifb (decide (x18≤p2)) (
 lt (IntKind.wrap .i64 ((p8:Int)+(1:Int))) fun x19 =>
 lt (IntKind.wrap .i64 ((p15:Int)+(1:Int))) fun x20 =>
 k_hbaba p1 p2 p3 x19 x15 p13 p14 x20) (
 lt (IntKind.wrap .i64 ((p15:Int)+(1:Int))) fun x21 =>
 k_hbaba p1 p2 p3 p8 x15 p13 p14 x21)) (
 lt (IntKind.wrap .i64 ((p15:Int)+(1:Int))) fun x22 =>
 k_hbaba p1 p2 p3 p8 x15 p13 p14 x22)) (
 ifb (decide (v4 ≥ (1:Int))) (
 cI .i64 r1 34 fun v23 =>
 cI .i64 r1 33 fun v24 =>
 lt (IntKind.wrap .i64 ((v23:Int) - v24)) fun x25 =>
 ifb (decide (x25≤p2)) (
 lt (IntKind.wrap .i64 ((p8:Int)+(1:Int))) fun x26 =>
 lt (IntKind.wrap .i64 ((p15:Int)+(1:Int))) fun x27 =>
 k_hbaba p1 p2 p3 x26 p9 p13 p14 x27) (
 lt (IntKind.wrap .i64 ((p15:Int)+(1:Int))) fun x28 =>
 k_hbaba p1 p2 p3 p8 p9 p13 p14 x28)) (
 lt (IntKind.wrap .i64 ((p15:Int)+(1:Int))) fun x29 =>
 k_hbaba p1 p2 p3 p8 p9 p13 p14 x29)))))) (
 k_x0 p8 p9)
theorem zic {β:Type} (L:Nat) (p1 p2 p3 p8 p9:Int) (p13:List (List V)) (p14 p15:Int) (X:St→Option β) (K:KT β):zm xT (zU L) 0 L zaZ (zbg p1 p2 p3 p8 p9 p13 p14 p15) (zbq zb4 X K)=zdF L p1 p2 p3 p8 p9 p13 p14 p15 (fun p1 p2 p3 p8 p9 p13 p14 p15=>X (zbg p1 p2 p3 p8 p9 p13 p14 p15)) (fun p8 p9=>K (.exit 0) (zdL p8 p9)):=by kernel_rfl
def zft {β:Type} (L:Nat) (p8 p9:Int) (k_fin:Int→Int→Option β):Option β :=
 k_fin p8 p9
theorem zhc {β:Type} (L:Nat) (p8 p9:Int) (k:KK β):(yB 0 (xX (zm xT (zU L) 0 L ze3) (zat 0 (CF.res zaT) k))) (.exit 0) (zdL p8 p9)=zft L p8 p9 (fun zso zsp=>k (V.tup [(V.sc (.int .i64 zso)),(V.sc (.int .i64 zsp))]) []):=by kernel_rfl
def zaw {β:Type} (L:Nat) (k_x0:Int→Int→Option β):Nat→Int→Int→Int→Int→Int→List (List V)→Int→Int→Option β
 | 0,_,_,_,_,_,_,_,_=>none
 | n+1,p1,p2,p3,p8,p9,p13,p14,p15=>zdF L p1 p2 p3 p8 p9 p13 p14 p15 (fun p1 p2 p3 p8 p9 p13 p14 p15=>zaw L k_x0 n p1 p2 p3 p8 p9 p13 p14 p15) k_x0
theorem zeT {β:Type} (L:Nat) (K:KT β):∀ (n:Nat) (p1 p2 p3 p8 p9:Int) (p13:List (List V)) (p14 p15:Int),xx (zm xT (zU L) 0 L zaZ) zb4 n (zbg p1 p2 p3 p8 p9 p13 p14 p15) K=zaw L (fun p8 p9=>K (.exit 0) (zdL p8 p9)) n p1 p2 p3 p8 p9 p13 p14 p15:=by
 intro n
 induction n with
 | zero=>intros; rfl
 | succ n ih =>
  intro p1 p2 p3 p8 p9 p13 p14 p15
  refine (zic L p1 p2 p3 p8 p9 p13 p14 p15 (fun σ=>xx (zm xT (zU L) 0 L zaZ) zb4 n σ K) K).trans ?_
  simp only [ih]
  rfl
def zeI {β:Type} (L:Nat) (p0:List (List V)) (p1 p2 p3:Int) (k_fin:Int→Int→Option β):Option β :=
 zf6 L p0 p1 p2 p3 (fun p1 p2 p3 p8 p9 p13 p14 p15=>zaw L (fun p8 p9=>zft L p8 p9 k_fin) L p1 p2 p3 p8 p9 p13 p14 p15)
theorem zkQ {β:Type} (L:Nat) (p0:List (List V)) (p1 p2 p3:Int) (k:KK β):yu xT (zU L) L zaT [(V.sl 35 p0),(V.sc (.int .i64 p1)),(V.sc (.int .i64 p2)),(V.sc (.int .i64 p3))] [] k=zeI L p0 p1 p2 p3 (fun zso zsp=>k (V.tup [(V.sc (.int .i64 zso)),(V.sc (.int .i64 zsp))]) []):=by
 refine (zkW L p0 p1 p2 p3 k).trans ?_
 unfold zeI
 first
  | (simp only [zeT,zhc]; done)
  | (simp only [zeT]; rfl)
abbrev xL:=∀ (β:Type),Nat→List (List V)→Int→Int→Int→(Int→Int→Option β)→Option β
def xg (β:Type) (L:Nat) (p0:List (List V)) (p1 p2 p3:Int) (k_fin:Int→Int→Option β):Option β:=zeI L p0 p1 p2 p3 k_fin
def zez (xg:xL) (L:Nat) (β:Type) (args:List V) (bor:Bor) (k:KK β):Option β:=match args,bor with
 | [a0,a1,a2,a3],[]=>aL 35 a0 fun p0=>aI .i64 a1 fun p1=>aI .i64 a2 fun p2=>aI .i64 a3 fun p3=>xg β L p0 p1 p2 p3 (fun zso zsp=>k (V.tup [(V.sc (.int .i64 zso)),(V.sc (.int .i64 zsp))]) [])
 | _,_=>none
theorem zkk (L:Nat) (β:Type) (args:List V) (bor:Bor) (k:KK β) (r:β) (h:zez xg L β args bor k=some r):yu xT (zU L) L zaT args bor k=some r:=by
 unfold zez at h
 split at h
 ·have q:=zbo h; clear h; obtain ⟨p0,rfl,h⟩:=q
  have q:=xv h; clear h; obtain ⟨p1,rfl,h⟩:=q
  have q:=xv h; clear h; obtain ⟨p2,rfl,h⟩:=q
  have q:=xv h; clear h; obtain ⟨p3,rfl,h⟩:=q
  exact (zkQ L p0 p1 p2 p3 k).trans h
 ·cases h
def yY:CC:=(.seq (.seq (.reg [oo 51 (.move (tq 17) false),
   oo 52 (.bin .geq (tq 51) (.const (.sc (.int .i64 0))))])
 (.cond (tq 52)
 .skip
 (.seq (.mask (bl 16384 84) (bl 18133879223768905371647999 84))
 (.exit 0))))
 (.seq (.block 1 (.seq (.reg [oo 56 (.move (tq 0) false),
   oo 57 (.move (tq 17) false),
   oo 58 (.move (tq 1) false),
   oo 59 (.move (tq 5) false),
   oo 60 (.call 226 [((tq 56),0),((tq 57),0),((tq 58),0),((tq 59),0)] []),
   oo 55 (.move (tq 60) true),
   oo 61 (.pull (tq 55) 0),
   oo 62 (.pull (tq 55) 1),
   oo 18 (.move (tq 61) false),
   oo 19 (.move (tq 62) false)])
 (.seq (.reg [oo 63 (.move (tq 15) false),
   oo 64 (.move (tq 18) false),
   oo 65 (.bin .add (tq 63) (tq 64)),
   oo 15 (.move (tq 65) false)])
 (.seq (.reg [oo 66 (.move (tq 16) false),
   oo 67 (.move (tq 19) false),
   oo 68 (.bin .add (tq 66) (tq 67)),
   oo 16 (.move (tq 68) false)])
 (.seq (.seq (.reg [oo 69 (.move (tq 16) false),
   oo 70 (.move (tq 4) false),
   oo 71 (.bin .lss (tq 69) (tq 70))])
 (.cond (tq 71)
 (.exit 1)
 .skip))
 (.seq (.seq (.reg [oo 72 (.move (tq 15) false),
   oo 73 (.move (tq 3) false),
   oo 74 (.bin .mul (tq 72) (tq 73)),
   oo 75 (.move (tq 2) false),
   oo 76 (.move (tq 16) false),
   oo 77 (.bin .mul (tq 75) (tq 76)),
   oo 78 (.bin .lss (tq 74) (tq 77))])
 (.cond (tq 78)
 (.seq (.mask (bl 16384 84) (bl 18133879223768905371647999 84))
 (.exit 0))
 .skip))
 (.seq (.reg [oo 79 (.move (tq 17) false),
   oo 80 (.call 220 [((tq 79),0)] []),
   oo 14 (.move (tq 80) false)])
 (.reg [oo 15 (.move (.const (.sc (.int .i64 0))) false),
   oo 16 (.move (.const (.sc (.int .i64 0))) false)]))))))))
 (.reg [oo 53 (.move (tq 17) false),
   oo 54 (.bin .sub (tq 53) (.const (.sc (.int .i64 1)))),
   oo 17 (.move (tq 54) false)])))
def zcj:CC:=(.seq (.seq (.reg [oo 81 (.move (tq 14) false),
   oo 82 (.bin .eql (tq 81) (.const (.sc (.int .i64 0))))])
 (.cond (tq 82)
 (.seq (.reg [oo 12 (.move (.const (.sc (.int .i64 0))) false),
   oo 13 (.move (.const (.sc (.int .i64 330))) false)])
 .ret)
 .skip))
 (.seq (.reg [oo 83 (.move (tq 14) false),
   oo 12 (.move (tq 83) false),
   oo 13 (.move (.const (.sc (.int .i64 0))) false)])
 .ret))
def z5:CF:=⟨84,[.tmp 12,.tmp 13],
 (.seq (.reg [oo 12 (.move (.const (.sc (.int .i64 0))) false),
   oo 13 (.move (.const (.sc (.int .i64 0))) false)])
 (.seq (.seq (.reg [oo 20 (.move (tq 1) false),
   oo 21 (.bin .lss (tq 20) (.const (.sc (.int .i64 1)))),
   oo 22 (.move (tq 21) false),
   ⟨(some 23),false,(some (22,false)),.move (tq 1) false⟩,
   ⟨(some 24),false,(some (22,false)),.bin .gtr (tq 23) (.const (.sc (.int .i64 24)))⟩,
   oo 25 (.pick (tq 22) (.const (.sc (.bool true))) (tq 24)),
   oo 26 (.move (tq 25) false),
   ⟨(some 27),false,(some (26,false)),.move (tq 3) false⟩,
   ⟨(some 28),false,(some (26,false)),.bin .lss (tq 27) (.const (.sc (.int .i64 1)))⟩,
   oo 29 (.pick (tq 26) (.const (.sc (.bool true))) (tq 28)),
   oo 30 (.move (tq 29) false),
   ⟨(some 31),false,(some (30,false)),.move (tq 3) false⟩,
   ⟨(some 32),false,(some (30,false)),.bin .gtr (tq 31) (.const (.sc (.int .i64 1000)))⟩,
   oo 33 (.pick (tq 30) (.const (.sc (.bool true))) (tq 32)),
   oo 34 (.move (tq 33) false),
   ⟨(some 35),false,(some (34,false)),.move (tq 2) false⟩,
   ⟨(some 36),false,(some (34,false)),.bin .lss (tq 35) (.const (.sc (.int .i64 0)))⟩,
   oo 37 (.pick (tq 34) (.const (.sc (.bool true))) (tq 36)),
   oo 38 (.move (tq 37) false),
   ⟨(some 39),false,(some (38,false)),.move (tq 2) false⟩,
   ⟨(some 40),false,(some (38,false)),.move (tq 3) false⟩,
   ⟨(some 41),false,(some (38,false)),.bin .gtr (tq 39) (tq 40)⟩,
   oo 42 (.pick (tq 38) (.const (.sc (.bool true))) (tq 41)),
   oo 43 (.move (tq 42) false),
   ⟨(some 44),false,(some (43,false)),.move (tq 4) false⟩,
   ⟨(some 45),false,(some (43,false)),.bin .lss (tq 44) (.const (.sc (.int .i64 1)))⟩,
   oo 46 (.pick (tq 43) (.const (.sc (.bool true))) (tq 45)),
   oo 47 (.move (tq 46) false),
   ⟨(some 48),false,(some (47,false)),.move (tq 4) false⟩,
   ⟨(some 49),false,(some (47,false)),.bin .gtr (tq 48) (.const (.sc (.int .i64 2048)))⟩,
   oo 50 (.pick (tq 47) (.const (.sc (.bool true))) (tq 49))])
 (.cond (tq 50)
 (.seq (.reg [oo 12 (.move (.const (.sc (.int .i64 0))) false),
   oo 13 (.move (.const (.sc (.int .i64 5))) false)])
 .ret)
 .skip))
 (.seq (.reg [oo 14 (.move (.const (.sc (.int .i64 0))) false),
   oo 15 (.move (.const (.sc (.int .i64 0))) false),
   oo 16 (.move (.const (.sc (.int .i64 0))) false)])
 (.seq (.seq (.reg [oo 17 (.move (.const (.sc (.int .i64 23))) false)])
 (.block 0 (.loop (bl 245823 84) (bl 18133879223768905371877375 84)
 yY)))
 zcj))))⟩
def zfs:Hint:=⟨[(7,5)],[],[none,none,none,some ((bl 245823 84),(bl 18133879223768905371877375 84)),none,some ((bl 16384 84),(bl 18133879223768905371647999 84)),none,none,none,none,some ((bl 16384 84),(bl 18133879223768905371647999 84)),none,none,none],[],[],false,false,[]⟩
def xF:Nat→Sh:=zbi []
def xE (xg:xL) (ya:zk) (L:Nat):CBC:=(z4 220 (zbM ya L) (z4 226 (zez xg L) noC))
def zaM:St→St:=zaj 0 (bl 245823 84) (bl 18133879223768905371877375 84)
def zad (p0:List (List V)) (p1 p2 p3 p4 p5 p14 p15 p16 p17:Int):St:=⟨((V.sl 35 p0)::((V.sc (.int .i64 p1))::((V.sc (.int .i64 p2))::((V.sc (.int .i64 p3))::((V.sc (.int .i64 p4))::((V.sc (.int .i64 p5))::(jn 8 ((V.sc (.int .i64 p14))::((V.sc (.int .i64 p15))::((V.sc (.int .i64 p16))::((V.sc (.int .i64 p17))::(jn 66 [])))))))))))),(gn 84 [])⟩
def zcl (p14:Int):St:=⟨(jn 14 ((V.sc (.int .i64 p14))::(jn 69 []))),(gn 84 [])⟩
abbrev zdm (β:Type):Type:=List (List V)→Int→Int→Int→Int→Int→Int→Int→Int→Int→Option β
def zew {β:Type} (xg:xL) (ya:zk) (L:Nat) (p0:List (List V)) (p1 p2 p3 p4 p5:Int) (k_fin:Int→Int→Option β) (k_hbbbaba:zdm β):Option β :=
 ifb (decide (p1 < (1:Int))) (
 k_fin (0:Int) (5:Int)) (
 ifb (decide (p1 > (24:Int))) (
 k_fin (0:Int) (5:Int)) (
 ifb (decide (p3 < (1:Int))) (
 k_fin (0:Int) (5:Int)) (
 ifb (decide (p3 > (1000:Int))) (
 k_fin (0:Int) (5:Int)) (
 ifb (decide (p2 < (0:Int))) (
 k_fin (0:Int) (5:Int)) (
 ifb (decide (p2 > p3)) (
 k_fin (0:Int) (5:Int)) (
 ifb (decide (p4 < (1:Int))) (
 k_fin (0:Int) (5:Int)) (
 ifb (decide (p4 > (2048:Int))) (
 k_fin (0:Int) (5:Int)) (
 k_hbbbaba p0 p1 p2 p3 p4 p5 (0:Int) (0:Int) (0:Int) (23:Int)))))))))
theorem ziT {β:Type} (xg:xL) (ya:zk) (L:Nat) (p0:List (List V)) (p1 p2 p3 p4 p5:Int) (k:KK β):yu xF (xE xg ya L) L z5 [(V.sl 35 p0),(V.sc (.int .i64 p1)),(V.sc (.int .i64 p2)),(V.sc (.int .i64 p3)),(V.sc (.int .i64 p4)),(V.sc (.int .i64 p5))] [] k=zew xg ya L p0 p1 p2 p3 p4 p5 (fun zso zsp=>k (V.tup [(V.sc (.int .i64 zso)),(V.sc (.int .i64 zsp))]) []) (fun p0 p1 p2 p3 p4 p5 p14 p15 p16 p17=>xx (zm xF (xE xg ya L) 0 L yY) zaM L (zad p0 p1 p2 p3 p4 p5 p14 p15 p16 p17) (yB 0 (xX (zm xF (xE xg ya L) 0 L zcj) (zat 0 (CF.res z5) k)))):=by kernel_rfl
def zbP {β:Type} (xg:xL) (ya:zk) (L:Nat) (p0:List (List V)) (p1 p2 p3 p4 p5 p14 p15 p16 p17:Int) (k_hbbbaba:zdm β) (k_x0:Int→Option β):Option β :=
 ifb (decide (p17 ≥ (0:Int))) (
 xg β L p0 p17 p1 p5 (fun v0 v1 =>
 lt (IntKind.wrap .i64 ((p15:Int)+v0)) fun x2 =>
 lt (IntKind.wrap .i64 ((p16:Int)+v1)) fun x3 =>
 ifb (decide (x3 < p4)) (
 lt (IntKind.wrap .i64 ((p17:Int) - (1:Int))) fun x4 =>
 k_hbbbaba p0 p1 p2 p3 p4 p5 p14 x2 x3 x4) (
 lt (IntKind.wrap .i64 ((x2:Int) * p3)) fun x5 =>
 lt (IntKind.wrap .i64 ((p2:Int) * x3)) fun x6 =>
 ifb (decide (x5 < x6)) (
 k_x0 p14) (
 ya β L p17 (fun v7 =>
 lt (IntKind.wrap .i64 ((p17:Int) - (1:Int))) fun x8 =>
 k_hbbbaba p0 p1 p2 p3 p4 p5 v7 (0:Int) (0:Int) x8))))) (
 k_x0 p14)
theorem zga {β:Type} (xg:xL) (ya:zk) (L:Nat) (p0:List (List V)) (p1 p2 p3 p4 p5 p14 p15 p16 p17:Int) (X:St→Option β) (K:KT β):zm xF (xE xg ya L) 0 L yY (zad p0 p1 p2 p3 p4 p5 p14 p15 p16 p17) (zbq zaM X K)=zbP xg ya L p0 p1 p2 p3 p4 p5 p14 p15 p16 p17 (fun p0 p1 p2 p3 p4 p5 p14 p15 p16 p17=>X (zad p0 p1 p2 p3 p4 p5 p14 p15 p16 p17)) (fun p14=>K (.exit 0) (zcl p14)):=by kernel_rfl
def zak {β:Type} (xg:xL) (ya:zk) (L:Nat) (p14:Int) (k_fin:Int→Int→Option β):Option β :=
 ifb ((p14:Int) == (0:Int)) (
 k_fin (0:Int) (330:Int)) (
 k_fin p14 (0:Int))
theorem zfx {β:Type} (xg:xL) (ya:zk) (L:Nat) (p14:Int) (k:KK β):(yB 0 (xX (zm xF (xE xg ya L) 0 L zcj) (zat 0 (CF.res z5) k))) (.exit 0) (zcl p14)=zak xg ya L p14 (fun zso zsp=>k (V.tup [(V.sc (.int .i64 zso)),(V.sc (.int .i64 zsp))]) []):=by kernel_rfl
def z7 {β:Type} (xg:xL) (ya:zk) (L:Nat) (k_x0:Int→Option β):Nat→List (List V)→Int→Int→Int→Int→Int→Int→Int→Int→Int→Option β
 | 0,_,_,_,_,_,_,_,_,_,_=>none
 | n+1,p0,p1,p2,p3,p4,p5,p14,p15,p16,p17=>zbP xg ya L p0 p1 p2 p3 p4 p5 p14 p15 p16 p17 (fun p0 p1 p2 p3 p4 p5 p14 p15 p16 p17=>z7 xg ya L k_x0 n p0 p1 p2 p3 p4 p5 p14 p15 p16 p17) k_x0
theorem zcK {β:Type} (xg:xL) (ya:zk) (L:Nat) (K:KT β):∀ (n:Nat) (p0:List (List V)) (p1 p2 p3 p4 p5 p14 p15 p16 p17:Int),xx (zm xF (xE xg ya L) 0 L yY) zaM n (zad p0 p1 p2 p3 p4 p5 p14 p15 p16 p17) K=z7 xg ya L (fun p14=>K (.exit 0) (zcl p14)) n p0 p1 p2 p3 p4 p5 p14 p15 p16 p17:=by
 intro n
 induction n with
 | zero=>intros; rfl
 | succ n ih =>
  intro p0 p1 p2 p3 p4 p5 p14 p15 p16 p17
  refine (zga xg ya L p0 p1 p2 p3 p4 p5 p14 p15 p16 p17 (fun σ=>xx (zm xF (xE xg ya L) 0 L yY) zaM n σ K) K).trans ?_
  simp only [ih]
  rfl
def zcr {β:Type} (xg:xL) (ya:zk) (L:Nat) (p0:List (List V)) (p1 p2 p3 p4 p5:Int) (k_fin:Int→Int→Option β):Option β :=
 zew xg ya L p0 p1 p2 p3 p4 p5 k_fin (fun p0 p1 p2 p3 p4 p5 p14 p15 p16 p17=>z7 xg ya L (fun p14=>zak xg ya L p14 k_fin) L p0 p1 p2 p3 p4 p5 p14 p15 p16 p17)
theorem ziD {β:Type} (xg:xL) (ya:zk) (L:Nat) (p0:List (List V)) (p1 p2 p3 p4 p5:Int) (k:KK β):yu xF (xE xg ya L) L z5 [(V.sl 35 p0),(V.sc (.int .i64 p1)),(V.sc (.int .i64 p2)),(V.sc (.int .i64 p3)),(V.sc (.int .i64 p4)),(V.sc (.int .i64 p5))] [] k=zcr xg ya L p0 p1 p2 p3 p4 p5 (fun zso zsp=>k (V.tup [(V.sc (.int .i64 zso)),(V.sc (.int .i64 zsp))]) []):=by
 refine (ziT xg ya L p0 p1 p2 p3 p4 p5 k).trans ?_
 unfold zcr
 first
  | (simp only [zcK,zfx]; done)
  | (simp only [zcK]; rfl)
abbrev xn:=∀ (β:Type),Nat→List (List V)→Int→Int→Int→Int→Int→(Int→Int→Option β)→Option β
def xa (β:Type) (L:Nat) (p0:List (List V)) (p1 p2 p3 p4 p5:Int) (k_fin:Int→Int→Option β):Option β:=zcr xg ya L p0 p1 p2 p3 p4 p5 k_fin
def zcn (xa:xn) (L:Nat) (β:Type) (args:List V) (bor:Bor) (k:KK β):Option β:=match args,bor with
 | [a0,a1,a2,a3,a4,a5],[]=>aL 35 a0 fun p0=>aI .i64 a1 fun p1=>aI .i64 a2 fun p2=>aI .i64 a3 fun p3=>aI .i64 a4 fun p4=>aI .i64 a5 fun p5=>xa β L p0 p1 p2 p3 p4 p5 (fun zso zsp=>k (V.tup [(V.sc (.int .i64 zso)),(V.sc (.int .i64 zsp))]) [])
 | _,_=>none
theorem zi3 (L:Nat) (β:Type) (args:List V) (bor:Bor) (k:KK β) (r:β) (h:zcn xa L β args bor k=some r):yu xF (xE xg ya L) L z5 args bor k=some r:=by
 unfold zcn at h
 split at h
 ·have q:=zbo h; clear h; obtain ⟨p0,rfl,h⟩:=q
  have q:=xv h; clear h; obtain ⟨p1,rfl,h⟩:=q
  have q:=xv h; clear h; obtain ⟨p2,rfl,h⟩:=q
  have q:=xv h; clear h; obtain ⟨p3,rfl,h⟩:=q
  have q:=xv h; clear h; obtain ⟨p4,rfl,h⟩:=q
  have q:=xv h; clear h; obtain ⟨p5,rfl,h⟩:=q
  exact (ziD xg ya L p0 p1 p2 p3 p4 p5 k).trans h
 ·cases h
def zM:CC:=(.seq (.seq (.reg [oo 57 (.move (tq 16) false),
   oo 58 (.move (tq 17) false),
   oo 59 (.bin .lss (tq 57) (tq 58))])
 (.cond (tq 59)
 .skip
 (.seq (.mask (bl 18014398509506606 143) (bl 11150372599265311570767859136324180752793599 143))
 (.exit 2))))
 (.seq (.block 3 (.dreg [] [(oo 64 (.move (tq 14) false),q0),
   (oo 65 (.move (tq 16) false),q0),
   (oo 66 (.move (tq 14) false),q0),
   (oo 67 (.move (tq 17) false),q0),
   (oo 68 (.move (tq 14) false),q0),
   (oo 69 (.move (tq 17) false),q0),
   (oo 70 (.indexAddrS 35 (tq 68) (tq 69)),q0),
   (oo 71 (.load true 35 (tq 70) false),qc [] []),
   (oo 72 (.move (tq 14) false),q0),
   (oo 73 (.move (tq 16) false),q0),
   (oo 74 (.indexAddrS 35 (tq 72) (tq 73)),q0),
   (oo 75 (.load true 35 (tq 74) false),qc [] []),
   (oo 76 (.indexAddrS 35 (tq 64) (tq 65)),q0),
   (oz (.store 35 (tq 76) (tq 71)),q0),
   (oo 77 (.indexAddrS 35 (tq 66) (tq 67)),q0),
   (oz (.store 35 (tq 77) (tq 75)),q0)]))
 (.reg [oo 60 (.move (tq 16) false),
   oo 61 (.bin .add (tq 60) (.const (.sc (.int .i64 1)))),
   oo 62 (.move (tq 17) false),
   oo 63 (.bin .sub (tq 62) (.const (.sc (.int .i64 1)))),
   oo 16 (.move (tq 61) false),
   oo 17 (.move (tq 63) false)])))
def yQ:CC:=(.seq (.reg [oo 36 (.bin .lss (tq 35) (tq 34))])
 (.seq (.cond (tq 36)
 .skip
 (.seq (.mask (bl 24622 143) (bl 11150372599265311570767859129401655544479743 143))
 (.exit 0)))
 (.seq (.block 1 (.seq (.reg [oo 37 (.move (tq 35) false),
   oo 15 (.move (tq 37) false)])
 (.reg [oo 38 (.move (tq 14) true),
   oo 39 (.move (tq 13) false),
   oo 40 (.move (tq 15) false),
   oo 41 (.move (tq 4) false),
   oo 42 (.move (tq 13) false),
   oo 43 (.lenS (tq 42)),
   oo 44 (.call 217 [((tq 41),0),((tq 43),0)] []),
   oo 45 (.bin .add (tq 40) (tq 44)),
   oo 46 (.move (tq 13) false),
   oo 47 (.lenS (tq 46)),
   oo 48 (.bin .rem (tq 45) (tq 47)),
   oo 49 (.indexAddrS 35 (tq 39) (tq 48)),
   oo 50 (.load true 35 (tq 49) false),
   oo 51 (.buildSlice 35 1 (rp 32 (.sc (.int .u8 0)) (rp 3 (.sc (.int .i64 0)) [])) [(0,35,(tq 50))]),
   oo 52 (.appendF 35 56 (tq 38) (tq 51)),
   oo 14 (.move (tq 52) true)])))
 (.reg [oo 53 (.bin .add (tq 35) (.const (.sc (.int .i64 1)))),
   oo 35 (.move (tq 53) false)]))))
def zbk:CC:=(.seq (.reg [oo 78 (.move (tq 1) false),
   oo 79 (.call 217 [((tq 78),0),((.const (.sc (.int .i64 24))),0)] []),
   oo 80 (.bin .add (.const (.sc (.int .i64 1))) (tq 79)),
   oo 81 (.move (tq 2) false),
   oo 82 (.call 217 [((tq 81),0),((.const (.sc (.int .i64 11))),0)] []),
   oo 83 (.move (tq 5) false),
   oo 84 (.call 217 [((tq 83),0),((.const (.sc (.int .i64 40))),0)] []),
   oo 18 (.move (tq 80) false),
   oo 19 (.move (tq 82) false),
   oo 20 (.move (tq 84) false)])
 (.seq (.reg [oo 85 (.move (tq 3) false),
   oo 86 (.move (tq 19) false),
   oo 87 (.bin .add (tq 86) (.const (.sc (.int .i64 1)))),
   oo 88 (.call 217 [((tq 85),0),((tq 87),0)] []),
   oo 21 (.move (tq 88) false)])
 (.seq (.reg [oo 90 (.move (tq 13) false),
   oo 91 (.move (tq 18) false),
   oo 92 (.move (tq 19) false),
   oo 93 (.move (tq 20) false),
   oo 94 (.call 228 [((tq 90),0),((tq 91),0),((tq 92),0),((.const (.sc (.int .i64 10))),0),((.const (.sc (.int .i64 2))),0),((tq 93),0)] []),
   oo 89 (.move (tq 94) true),
   oo 95 (.pull (tq 89) 0),
   oo 96 (.pull (tq 89) 1),
   oo 22 (.move (tq 95) false),
   oo 23 (.move (tq 96) false)])
 (.seq (.reg [oo 98 (.move (tq 14) false),
   oo 99 (.move (tq 18) false),
   oo 100 (.move (tq 19) false),
   oo 101 (.move (tq 20) false),
   oo 102 (.call 228 [((tq 98),0),((tq 99),0),((tq 100),0),((.const (.sc (.int .i64 10))),0),((.const (.sc (.int .i64 2))),0),((tq 101),0)] []),
   oo 97 (.move (tq 102) true),
   oo 103 (.pull (tq 97) 0),
   oo 104 (.pull (tq 97) 1),
   oo 24 (.move (tq 103) false),
   oo 25 (.move (tq 104) false)])
 (.seq (.reg [oo 106 (.move (tq 13) false),
   oo 107 (.move (tq 18) false),
   oo 108 (.move (tq 21) false),
   oo 109 (.move (tq 20) false),
   oo 110 (.call 228 [((tq 106),0),((tq 107),0),((tq 108),0),((.const (.sc (.int .i64 10))),0),((.const (.sc (.int .i64 2))),0),((tq 109),0)] []),
   oo 105 (.move (tq 110) true),
   oo 111 (.pull (tq 105) 0),
   oo 112 (.pull (tq 105) 1),
   oo 26 (.move (tq 111) false),
   oo 27 (.move (tq 112) false)])
 (.seq (.seq (.reg [oo 113 (.move (tq 22) false),
   oo 114 (.move (tq 24) false),
   oo 115 (.bin .neq (tq 113) (tq 114)),
   oo 116 (.move (tq 115) false),
   ⟨(some 117),false,(some (116,false)),.move (tq 23) false⟩,
   ⟨(some 118),false,(some (116,false)),.move (tq 25) false⟩,
   ⟨(some 119),false,(some (116,false)),.bin .neq (tq 117) (tq 118)⟩,
   oo 120 (.pick (tq 116) (.const (.sc (.bool true))) (tq 119)),
   oo 121 (.move (tq 120) false),
   ⟨(some 122),false,(some (121,false)),.move (tq 23) false⟩,
   ⟨(some 123),false,(some (121,false)),.bin .eql (tq 122) (.const (.sc (.int .i64 0)))⟩,
   ⟨(some 124),false,(some (121,false)),.move (tq 123) false⟩,
   ⟨(some 125),false,(some (124,true)),.move (tq 27) false⟩,
   ⟨(some 126),false,(some (124,true)),.bin .neq (tq 125) (.const (.sc (.int .i64 0)))⟩,
   ⟨(some 127),false,(some (124,true)),.move (tq 126) false⟩,
   ⟨(some 128),false,(some (127,false)),.move (tq 26) false⟩,
   ⟨(some 129),false,(some (127,false)),.move (tq 22) false⟩,
   ⟨(some 130),false,(some (127,false)),.bin .gtr (tq 128) (tq 129)⟩,
   ⟨(some 131),false,(some (124,true)),.pick (tq 127) (.const (.sc (.bool true))) (tq 130)⟩,
   ⟨(some 132),false,(some (121,false)),.pick (tq 124) (tq 131) (.const (.sc (.bool false)))⟩,
   oo 133 (.pick (tq 121) (.const (.sc (.bool true))) (tq 132))])
 (.cond (tq 133)
 (.seq (.reg [oo 12 (.move (.const (.sc (.bool false))) false)])
 .ret)
 .skip))
 (.seq (.reg [oo 134 (.move (tq 23) false),
   oo 135 (.bin .neq (tq 134) (.const (.sc (.int .i64 0)))),
   oo 136 (.move (tq 135) false),
   ⟨(some 137),false,(some (136,false)),.move (tq 22) false⟩,
   ⟨(some 138),false,(some (136,false)),.call 222 [((tq 137),0)] []⟩,
   ⟨(some 139),false,(some (136,false)),.call 220 [((tq 138),0)] []⟩,
   ⟨(some 140),false,(some (136,false)),.move (tq 22) false⟩,
   ⟨(some 141),false,(some (136,false)),.bin .eql (tq 139) (tq 140)⟩,
   oo 142 (.pick (tq 136) (.const (.sc (.bool true))) (tq 141)),
   oo 12 (.move (tq 142) false)])
 .ret)))))))
def zaz:CC:=(.seq (.seq (.reg [oo 54 (.pinS true 35 (tq 14)),
   oo 55 (.lenS (tq 54)),
   oo 56 (.bin .sub (tq 55) (.const (.sc (.int .i64 1)))),
   oo 16 (.move (.const (.sc (.int .i64 0))) false),
   oo 17 (.move (tq 56) false)])
 (.block 2 (.loop (bl 18014398509703214 143) (bl 11150372599265311570767859136324180752990207 143)
 zM)))
 zbk)
def zB:CF:=⟨143,[.tmp 12],
 (.seq (.reg [oo 12 (.move (.const (.sc (.bool false))) false)])
 (.seq (.seq (.reg [oo 28 (.call 216 [] []),
   oo 29 (.un .not (tq 28))])
 (.cond (tq 29)
 (.seq (.reg [oo 12 (.move (.const (.sc (.bool false))) false)])
 .ret)
 .skip))
 (.seq (.reg [oo 30 (.move (tq 0) false),
   oo 31 (.call 225 [((tq 30),0)] []),
   oo 32 (.call 224 [((tq 31),0)] []),
   oo 13 (.move (tq 32) false)])
 (.seq (.dreg [] [(oo 14 (.move (.const (.fr 35 [])) true),q0)])
 (.seq (.seq (.reg [oo 33 (.move (tq 13) false),
   oo 34 (.lenS (tq 33)),
   oo 35 (.move (.const (.sc (.int .i64 0))) false)])
 (.block 0 (.loop (bl 51539632190 143) (bl 11150372599265311570767859129401655544479743 143)
 yQ)))
 zaz)))))⟩
def zeF:Hint:=⟨[(4,0),(8,0),(8,15),(16,5),(17,5),(18,5),(10,0)],[],[none,none,none,some ((bl 51539632190 143),(bl 11150372599265311570767859129401655544479743 143)),none,some ((bl 24622 143),(bl 11150372599265311570767859129401655544479743 143)),none,none,some ((bl 18014398509703214 143),(bl 11150372599265311570767859136324180752990207 143)),none,some ((bl 18014398509506606 143),(bl 11150372599265311570767859136324180752793599 143)),none,none,none,none],[(4,[])],[(4,0,[0,0]),(8,14,[0]),(10,0,[0,0,0])],false,false,[]⟩
def yn:Nat→Sh:=zbi []
def zn (xc:zs) (yd:xy) (zb:zo) (yc:zu) (xa:xn) (xb:xp) (ya:zk) (L:Nat):CBC:=(z4 220 (zbM ya L) (z4 222 (zcF xb L) (z4 228 (zcn xa L) (z4 217 (zed yc L) (z4 224 (zcx zb L) (z4 225 (zfM yd L) (z4 216 (zea xc L) noC)))))))
def zaa:St→St:=zaj 0 (bl 51539632190 143) (bl 11150372599265311570767859129401655544479743 143)
def z8:St→St:=zaj 0 (bl 18014398509703214 143) (bl 11150372599265311570767859136324180752990207 143)
def yX (p1 p2 p3 p4 p5:Int) (p13 p14:List (List V)) (p34 p35:Int) (zsm:List (List V)) (zsn:Int):St:=⟨(jn 1 ((V.sc (.int .i64 p1))::((V.sc (.int .i64 p2))::((V.sc (.int .i64 p3))::((V.sc (.int .i64 p4))::((V.sc (.int .i64 p5))::(jn 7 ((V.sl 35 p13)::((V.fr 35 p14)::(jn 19 ((V.sc (.int .i64 p34))::((V.sc (.int .i64 p35))::(jn 107 []))))))))))))),(gn 31 ((.live false [(V.sl 1 zsm),(V.sc (.int .i64 zsn))])::(gn 111 [])))⟩
def zaL (p1 p2 p3 p5:Int) (p13 p14 zsm:List (List V)) (zsn:Int):St:=⟨(jn 1 ((V.sc (.int .i64 p1))::((V.sc (.int .i64 p2))::((V.sc (.int .i64 p3))::(jn 1 ((V.sc (.int .i64 p5))::(jn 7 ((V.sl 35 p13)::((V.fr 35 p14)::(jn 128 [])))))))))),(gn 31 ((.live false [(V.sl 1 zsm),(V.sc (.int .i64 zsn))])::(gn 111 [])))⟩
def xV (p1 p2 p3 p5:Int) (p13:List (List V)) (p14l:Nat) (p16 p17:Int) (p54l:Nat) (zsm:List (List V)) (zsn:Int) (b54:List V):St:=⟨(jn 1 ((V.sc (.int .i64 p1))::((V.sc (.int .i64 p2))::((V.sc (.int .i64 p3))::(jn 1 ((V.sc (.int .i64 p5))::(jn 7 ((V.sl 35 p13)::((V.own 54 0 p14l 35)::(jn 1 ((V.sc (.int .i64 p16))::((V.sc (.int .i64 p17))::(jn 36 ((V.own 54 0 p54l 35)::(jn 88 []))))))))))))))),(gn 31 ((.live false [(V.sl 1 zsm),(V.sc (.int .i64 zsn))])::(gn 22 ((.live true b54)::(gn 88 [])))))⟩
def zbJ (p1 p2 p3 p5:Int) (p13:List (List V)) (p14l p54l:Nat) (zsm:List (List V)) (zsn:Int) (b54:List V):St:=⟨(jn 1 ((V.sc (.int .i64 p1))::((V.sc (.int .i64 p2))::((V.sc (.int .i64 p3))::(jn 1 ((V.sc (.int .i64 p5))::(jn 7 ((V.sl 35 p13)::((V.own 54 0 p14l 35)::(jn 39 ((V.own 54 0 p54l 35)::(jn 88 [])))))))))))),(gn 31 ((.live false [(V.sl 1 zsm),(V.sc (.int .i64 zsn))])::(gn 22 ((.live true b54)::(gn 88 [])))))⟩
abbrev zcy (β:Type):Type:=Int→Int→Int→Int→Int→List (List V)→List (List V)→Int→Int→List (List V)→Int→Option β
abbrev zcm (β:Type):Type:=Int→Int→Int→Int→List (List V)→List (List V)→List (List V)→Int→Option β
abbrev zb8 (β:Type):Type:=Int→Int→Int→Int→List (List V)→Nat→Int→Int→Nat→List (List V)→Int→List V→Option β
abbrev zck (β:Type):Type:=Int→Int→Int→Int→List (List V)→Nat→Nat→List (List V)→Int→List V→Option β
def zda {β:Type} (xc:zs) (yd:xy) (zb:zo) (yc:zu) (xa:xn) (xb:xp) (ya:zk) (L:Nat) (p0:List (List V)) (p1 p2 p3 p4 p5:Int) (k_fin:Bool→Option β) (k_hbbbbaba:zcy β):Option β :=
 xc β L  (fun v0 =>
 ifb (!v0) (
 k_fin false) (
 yd β L p0 (fun v1 v2 =>
 zb β L v1 v2 (fun v3 v4 v5 =>
 k_hbbbbaba p1 p2 p3 p4 p5 v3 ([]:List (List V)) ((List.length v3:Nat):Int) (0:Int) v4 v5))))
theorem zhL {β:Type} (xc:zs) (yd:xy) (zb:zo) (yc:zu) (xa:xn) (xb:xp) (ya:zk) (L:Nat) (p0:List (List V)) (p1 p2 p3 p4 p5:Int) (k:KK β):yu yn (zn xc yd zb yc xa xb ya L) L zB [(V.sl 1 p0),(V.sc (.int .i64 p1)),(V.sc (.int .i64 p2)),(V.sc (.int .i64 p3)),(V.sc (.int .i64 p4)),(V.sc (.int .i64 p5))] [] k=zda xc yd zb yc xa xb ya L p0 p1 p2 p3 p4 p5 (fun p0=>k (V.sc (.bool p0)) []) (fun p1 p2 p3 p4 p5 p13 p14 p34 p35 zsm zsn=>xx (zm yn (zn xc yd zb yc xa xb ya L) 0 L yQ) zaa L (yX p1 p2 p3 p4 p5 p13 p14 p34 p35 zsm zsn) (yB 0 (xX (zm yn (zn xc yd zb yc xa xb ya L) 0 L zaz) (zat 0 (CF.res zB) k)))):=by kernel_rfl
def za9 {β:Type} (xc:zs) (yd:xy) (zb:zo) (yc:zu) (xa:xn) (xb:xp) (ya:zk) (L:Nat) (p1 p2 p3 p4 p5:Int) (p13 p14:List (List V)) (p34 p35:Int) (zsm:List (List V)) (zsn:Int) (k_hbbbbaba:zcy β) (k_x0:zcm β):Option β :=
 ifb (decide (p35 < p34)) (
 yc β L p4 ((List.length p13:Nat):Int) (fun v6 =>
 lt (IntKind.wrap .i64 ((p35:Int)+v6)) fun x7 =>
 chk (((List.length p13:Nat):Int)≠0) (
 lt (Int.tmod x7 ((List.length p13:Nat):Int)) fun x8 =>
 idx p13 x8 fun c9 =>
 chk ((List.length (List.take 35 c9))=35∧0+35≤35) (
 chk ((List.length p14+List.length (yh 35 1 (xh (List.replicate 32 (V.sc (.int .u8 (0:Int)))++[(V.sc (.int .i64 (0:Int))),(V.sc (.int .i64 (0:Int))),(V.sc (.int .i64 (0:Int)))]) 0 (List.take 35 c9)))) * 56≤xm∧List.length p14+List.length (yh 35 1 (xh (List.replicate 32 (V.sc (.int .u8 (0:Int)))++[(V.sc (.int .i64 (0:Int))),(V.sc (.int .i64 (0:Int))),(V.sc (.int .i64 (0:Int)))]) 0 (List.take 35 c9)))≤xm∧List.length p14+List.length (yh 35 1 (xh (List.replicate 32 (V.sc (.int .u8 (0:Int)))++[(V.sc (.int .i64 (0:Int))),(V.sc (.int .i64 (0:Int))),(V.sc (.int .i64 (0:Int)))]) 0 (List.take 35 c9)))≠0) (
 lt (p14++(yh 35 1 (xh (List.replicate 32 (V.sc (.int .u8 (0:Int)))++[(V.sc (.int .i64 (0:Int))),(V.sc (.int .i64 (0:Int))),(V.sc (.int .i64 (0:Int)))]) 0 (List.take 35 c9)))) fun l10 =>
 lt (IntKind.wrap .i64 ((p35:Int)+(1:Int))) fun x11 =>
 k_hbbbbaba p1 p2 p3 p4 p5 p13 l10 p34 x11 zsm zsn))))) (
 k_x0 p1 p2 p3 p5 p13 p14 zsm zsn)
theorem zfo {β:Type} (xc:zs) (yd:xy) (zb:zo) (yc:zu) (xa:xn) (xb:xp) (ya:zk) (L:Nat) (p1 p2 p3 p4 p5:Int) (p13 p14:List (List V)) (p34 p35:Int) (zsm:List (List V)) (zsn:Int) (X:St→Option β) (K:KT β):zm yn (zn xc yd zb yc xa xb ya L) 0 L yQ (yX p1 p2 p3 p4 p5 p13 p14 p34 p35 zsm zsn) (zbq zaa X K)=za9 xc yd zb yc xa xb ya L p1 p2 p3 p4 p5 p13 p14 p34 p35 zsm zsn (fun p1 p2 p3 p4 p5 p13 p14 p34 p35 zsm zsn=>X (yX p1 p2 p3 p4 p5 p13 p14 p34 p35 zsm zsn)) (fun p1 p2 p3 p5 p13 p14 zsm zsn=>K (.exit 0) (zaL p1 p2 p3 p5 p13 p14 zsm zsn)):=by kernel_rfl
def zaS {β:Type} (xc:zs) (yd:xy) (zb:zo) (yc:zu) (xa:xn) (xb:xp) (ya:zk) (L:Nat) (p1 p2 p3 p5:Int) (p13 p14 zsm:List (List V)) (zsn:Int) (k_hbbbbbaba:zb8 β):Option β :=
 lt (List.flatten p14) fun r12 =>
 lt (IntKind.wrap .i64 (((((List.length p14):Nat):Int):Int) - (1:Int))) fun x13 =>
 k_hbbbbbaba p1 p2 p3 p5 p13 (List.length p14) (0:Int) x13 (List.length p14) zsm zsn r12
theorem zeQ {β:Type} (xc:zs) (yd:xy) (zb:zo) (yc:zu) (xa:xn) (xb:xp) (ya:zk) (L:Nat) (p1 p2 p3 p5:Int) (p13 p14 zsm:List (List V)) (zsn:Int) (k:KK β):(yB 0 (xX (zm yn (zn xc yd zb yc xa xb ya L) 0 L zaz) (zat 0 (CF.res zB) k))) (.exit 0) (zaL p1 p2 p3 p5 p13 p14 zsm zsn)=zaS xc yd zb yc xa xb ya L p1 p2 p3 p5 p13 p14 zsm zsn (fun p1 p2 p3 p5 p13 p14l p16 p17 p54l zsm zsn b54=>xx (zm yn (zn xc yd zb yc xa xb ya L) 0 L zM) z8 L (xV p1 p2 p3 p5 p13 p14l p16 p17 p54l zsm zsn b54) (yB 2 (xX (zm yn (zn xc yd zb yc xa xb ya L) 0 L zbk) (zat 0 (CF.res zB) k)))):=by kernel_rfl
def za1 {β:Type} (xc:zs) (yd:xy) (zb:zo) (yc:zu) (xa:xn) (xb:xp) (ya:zk) (L:Nat) (p1 p2 p3 p5:Int) (p13:List (List V)) (p14l:Nat) (p16 p17:Int) (p54l:Nat) (zsm:List (List V)) (zsn:Int) (b54:List V) (k_hbbbbbaba:zb8 β) (k_x2:zck β):Option β :=
 ifb (decide (p16 < p17)) (
 chk (0≤p17∧p17 < ((p14l:Nat):Int)) (
 chk ((0+((Int.toNat p17) * 35))+35≤(List.length b54)) (
 chk (0≤p16∧p16 < ((p14l:Nat):Int)) (
 chk ((0+((Int.toNat p16) * 35))+35≤(List.length b54)) (
 chk (0≤p16∧p16 < ((p14l:Nat):Int)) (
 chk ((List.length (List.take 35 (List.drop (0+((Int.toNat p17) * 35)) b54)))=35∧(0+((Int.toNat p16) * 35))+35≤(List.length b54)) (
 lt (xh b54 (0+((Int.toNat p16) * 35)) (List.take 35 (List.drop (0+((Int.toNat p17) * 35)) b54))) fun r14 =>
 chk (0≤p17∧p17 < ((p14l:Nat):Int)) (
 chk ((List.length (List.take 35 (List.drop (0+((Int.toNat p16) * 35)) b54)))=35∧(0+((Int.toNat p17) * 35))+35≤(List.length r14)) (
 lt (xh r14 (0+((Int.toNat p17) * 35)) (List.take 35 (List.drop (0+((Int.toNat p16) * 35)) b54))) fun r15 =>
 lt (IntKind.wrap .i64 ((p16:Int)+(1:Int))) fun x16 =>
 lt (IntKind.wrap .i64 ((p17:Int) - (1:Int))) fun x17 =>
 k_hbbbbbaba p1 p2 p3 p5 p13 p14l x16 x17 p54l zsm zsn r15))))))))) (
 k_x2 p1 p2 p3 p5 p13 p14l p54l zsm zsn b54)
theorem ze1 {β:Type} (xc:zs) (yd:xy) (zb:zo) (yc:zu) (xa:xn) (xb:xp) (ya:zk) (L:Nat) (p1 p2 p3 p5:Int) (p13:List (List V)) (p14l:Nat) (p16 p17:Int) (p54l:Nat) (zsm:List (List V)) (zsn:Int) (b54:List V) (X:St→Option β) (K:KT β):zm yn (zn xc yd zb yc xa xb ya L) 0 L zM (xV p1 p2 p3 p5 p13 p14l p16 p17 p54l zsm zsn b54) (zbq z8 X K)=za1 xc yd zb yc xa xb ya L p1 p2 p3 p5 p13 p14l p16 p17 p54l zsm zsn b54 (fun p1 p2 p3 p5 p13 p14l p16 p17 p54l zsm zsn b54=>X (xV p1 p2 p3 p5 p13 p14l p16 p17 p54l zsm zsn b54)) (fun p1 p2 p3 p5 p13 p14l p54l zsm zsn b54=>K (.exit 2) (zbJ p1 p2 p3 p5 p13 p14l p54l zsm zsn b54)):=by kernel_rfl
def zaG {β:Type} (xc:zs) (yd:xy) (zb:zo) (yc:zu) (xa:xn) (xb:xp) (ya:zk) (L:Nat) (p1 p2 p3 p5:Int) (p13:List (List V)) (p14l p54l:Nat) (zsm:List (List V)) (zsn:Int) (b54:List V) (k_fin:Bool→Option β):Option β :=
 yc β L p1 (24:Int) (fun v18 =>
 lt (IntKind.wrap .i64 (((1:Int):Int)+v18)) fun x19 =>
 yc β L p2 (11:Int) (fun v20 =>
 yc β L p5 (40:Int) (fun v21 =>
 lt (IntKind.wrap .i64 ((v20:Int)+(1:Int))) fun x22 =>
 yc β L p3 x22 (fun v23 =>
 xa β L p13 x19 v20 (10:Int) (2:Int) v21 (fun v24 v25 =>
 ifb (List.isEmpty b54) (
 xa β L (yh 35 p14l b54) x19 v20 (10:Int) (2:Int) v21 (fun v26 v27 =>
 xa β L p13 x19 v23 (10:Int) (2:Int) v21 (fun v28 v29 =>
 ifb ((v24:Int) != v26) (
 k_fin false) (
 ifb ((v25:Int) != v27) (
 k_fin false) (
 ifb ((v25:Int) == (0:Int)) (
 ifb ((v29:Int) != (0:Int)) (
 k_fin false) (
 ifb (decide (v28 > v24)) (
 k_fin false) (
 ifb ((v25:Int) != (0:Int)) (
 k_fin true) (
 xb β L v24 (fun v30 =>
 ya β L v30 (fun v31 =>
 k_fin ((v31:Int) == v24))))))) (
 ifb ((v25:Int) != (0:Int)) (
 k_fin true) (
 xb β L v24 (fun v32 =>
 ya β L v32 (fun v33 =>
 k_fin ((v33:Int) == v24)))))))))) (
 xa β L (yh 35 p14l b54) x19 v20 (10:Int) (2:Int) v21 (fun v34 v35 =>
 xa β L p13 x19 v23 (10:Int) (2:Int) v21 (fun v36 v37 =>
 ifb ((v24:Int) != v34) (
 k_fin false) (
 ifb ((v25:Int) != v35) (
 k_fin false) (
 ifb ((v25:Int) == (0:Int)) (
 ifb ((v37:Int) != (0:Int)) (
 k_fin false) (
 ifb (decide (v36 > v24)) (
 k_fin false) (
 ifb ((v25:Int) != (0:Int)) (
 k_fin true) (
 xb β L v24 (fun v38 =>
 ya β L v38 (fun v39 =>
 k_fin ((v39:Int) == v24))))))) (
 ifb ((v25:Int) != (0:Int)) (
 k_fin true) (
 xb β L v24 (fun v40 =>
 ya β L v40 (fun v41 =>
 k_fin ((v41:Int) == v24)))))))))))))))
theorem zeh {β:Type} (xc:zs) (yd:xy) (zb:zo) (yc:zu) (xa:xn) (xb:xp) (ya:zk) (L:Nat) (p1 p2 p3 p5:Int) (p13:List (List V)) (p14l p54l:Nat) (zsm:List (List V)) (zsn:Int) (b54:List V) (k:KK β):(yB 2 (xX (zm yn (zn xc yd zb yc xa xb ya L) 0 L zbk) (zat 0 (CF.res zB) k))) (.exit 2) (zbJ p1 p2 p3 p5 p13 p14l p54l zsm zsn b54)=zaG xc yd zb yc xa xb ya L p1 p2 p3 p5 p13 p14l p54l zsm zsn b54 (fun p0=>k (V.sc (.bool p0)) []):=by kernel_rfl
def xS {β:Type} (xc:zs) (yd:xy) (zb:zo) (yc:zu) (xa:xn) (xb:xp) (ya:zk) (L:Nat) (k_x0:zcm β):Nat→Int→Int→Int→Int→Int→List (List V)→List (List V)→Int→Int→List (List V)→Int→Option β
 | 0,_,_,_,_,_,_,_,_,_,_,_=>none
 | n+1,p1,p2,p3,p4,p5,p13,p14,p34,p35,zsm,zsn=>za9 xc yd zb yc xa xb ya L p1 p2 p3 p4 p5 p13 p14 p34 p35 zsm zsn (fun p1 p2 p3 p4 p5 p13 p14 p34 p35 zsm zsn=>xS xc yd zb yc xa xb ya L k_x0 n p1 p2 p3 p4 p5 p13 p14 p34 p35 zsm zsn) k_x0
theorem zbS {β:Type} (xc:zs) (yd:xy) (zb:zo) (yc:zu) (xa:xn) (xb:xp) (ya:zk) (L:Nat) (K:KT β):∀ (n:Nat) (p1 p2 p3 p4 p5:Int) (p13 p14:List (List V)) (p34 p35:Int) (zsm:List (List V)) (zsn:Int),xx (zm yn (zn xc yd zb yc xa xb ya L) 0 L yQ) zaa n (yX p1 p2 p3 p4 p5 p13 p14 p34 p35 zsm zsn) K=xS xc yd zb yc xa xb ya L (fun p1 p2 p3 p5 p13 p14 zsm zsn=>K (.exit 0) (zaL p1 p2 p3 p5 p13 p14 zsm zsn)) n p1 p2 p3 p4 p5 p13 p14 p34 p35 zsm zsn:=by
 intro n
 induction n with
 | zero=>intros; rfl
 | succ n ih =>
  intro p1 p2 p3 p4 p5 p13 p14 p34 p35 zsm zsn
  refine (zfo xc yd zb yc xa xb ya L p1 p2 p3 p4 p5 p13 p14 p34 p35 zsm zsn (fun σ=>xx (zm yn (zn xc yd zb yc xa xb ya L) 0 L yQ) zaa n σ K) K).trans ?_
  simp only [ih]
  rfl
def xQ {β:Type} (xc:zs) (yd:xy) (zb:zo) (yc:zu) (xa:xn) (xb:xp) (ya:zk) (L:Nat) (k_x2:zck β):Nat→Int→Int→Int→Int→List (List V)→Nat→Int→Int→Nat→List (List V)→Int→List V→Option β
 | 0,_,_,_,_,_,_,_,_,_,_,_,_=>none
 | n+1,p1,p2,p3,p5,p13,p14l,p16,p17,p54l,zsm,zsn,b54=>za1 xc yd zb yc xa xb ya L p1 p2 p3 p5 p13 p14l p16 p17 p54l zsm zsn b54 (fun p1 p2 p3 p5 p13 p14l p16 p17 p54l zsm zsn b54=>xQ xc yd zb yc xa xb ya L k_x2 n p1 p2 p3 p5 p13 p14l p16 p17 p54l zsm zsn b54) k_x2
theorem zbK {β:Type} (xc:zs) (yd:xy) (zb:zo) (yc:zu) (xa:xn) (xb:xp) (ya:zk) (L:Nat) (K:KT β):∀ (n:Nat) (p1 p2 p3 p5:Int) (p13:List (List V)) (p14l:Nat) (p16 p17:Int) (p54l:Nat) (zsm:List (List V)) (zsn:Int) (b54:List V),xx (zm yn (zn xc yd zb yc xa xb ya L) 0 L zM) z8 n (xV p1 p2 p3 p5 p13 p14l p16 p17 p54l zsm zsn b54) K=xQ xc yd zb yc xa xb ya L (fun p1 p2 p3 p5 p13 p14l p54l zsm zsn b54=>K (.exit 2) (zbJ p1 p2 p3 p5 p13 p14l p54l zsm zsn b54)) n p1 p2 p3 p5 p13 p14l p16 p17 p54l zsm zsn b54:=by
 intro n
 induction n with
 | zero=>intros; rfl
 | succ n ih =>
  intro p1 p2 p3 p5 p13 p14l p16 p17 p54l zsm zsn b54
  refine (ze1 xc yd zb yc xa xb ya L p1 p2 p3 p5 p13 p14l p16 p17 p54l zsm zsn b54 (fun σ=>xx (zm yn (zn xc yd zb yc xa xb ya L) 0 L zM) z8 n σ K) K).trans ?_
  simp only [ih]
  rfl
def yJ {β:Type} (xc:zs) (yd:xy) (zb:zo) (yc:zu) (xa:xn) (xb:xp) (ya:zk) (L:Nat) (p1 p2 p3 p5:Int) (p13 p14 zsm:List (List V)) (zsn:Int) (k_fin:Bool→Option β):Option β :=
 zaS xc yd zb yc xa xb ya L p1 p2 p3 p5 p13 p14 zsm zsn (fun p1 p2 p3 p5 p13 p14l p16 p17 p54l zsm zsn b54=>xQ xc yd zb yc xa xb ya L (fun p1 p2 p3 p5 p13 p14l p54l zsm zsn b54=>zaG xc yd zb yc xa xb ya L p1 p2 p3 p5 p13 p14l p54l zsm zsn b54 k_fin) L p1 p2 p3 p5 p13 p14l p16 p17 p54l zsm zsn b54)
theorem zen {β:Type} (xc:zs) (yd:xy) (zb:zo) (yc:zu) (xa:xn) (xb:xp) (ya:zk) (L:Nat) (p1 p2 p3 p5:Int) (p13 p14 zsm:List (List V)) (zsn:Int) (k:KK β):(yB 0 (xX (zm yn (zn xc yd zb yc xa xb ya L) 0 L zaz) (zat 0 (CF.res zB) k))) (.exit 0) (zaL p1 p2 p3 p5 p13 p14 zsm zsn)=yJ xc yd zb yc xa xb ya L p1 p2 p3 p5 p13 p14 zsm zsn (fun p0=>k (V.sc (.bool p0)) []):=by
 refine (zeQ xc yd zb yc xa xb ya L p1 p2 p3 p5 p13 p14 zsm zsn k).trans ?_
 unfold yJ
 first
  | (simp only [zbK,zeh]; done)
  | (simp only [zbK]; rfl)
def zbE {β:Type} (xc:zs) (yd:xy) (zb:zo) (yc:zu) (xa:xn) (xb:xp) (ya:zk) (L:Nat) (p0:List (List V)) (p1 p2 p3 p4 p5:Int) (k_fin:Bool→Option β):Option β :=
 zda xc yd zb yc xa xb ya L p0 p1 p2 p3 p4 p5 k_fin (fun p1 p2 p3 p4 p5 p13 p14 p34 p35 zsm zsn=>xS xc yd zb yc xa xb ya L (fun p1 p2 p3 p5 p13 p14 zsm zsn=>yJ xc yd zb yc xa xb ya L p1 p2 p3 p5 p13 p14 zsm zsn k_fin) L p1 p2 p3 p4 p5 p13 p14 p34 p35 zsm zsn)
theorem zhI {β:Type} (xc:zs) (yd:xy) (zb:zo) (yc:zu) (xa:xn) (xb:xp) (ya:zk) (L:Nat) (p0:List (List V)) (p1 p2 p3 p4 p5:Int) (k:KK β):yu yn (zn xc yd zb yc xa xb ya L) L zB [(V.sl 1 p0),(V.sc (.int .i64 p1)),(V.sc (.int .i64 p2)),(V.sc (.int .i64 p3)),(V.sc (.int .i64 p4)),(V.sc (.int .i64 p5))] [] k=zbE xc yd zb yc xa xb ya L p0 p1 p2 p3 p4 p5 (fun p0=>k (V.sc (.bool p0)) []):=by
 refine (zhL xc yd zb yc xa xb ya L p0 p1 p2 p3 p4 p5 k).trans ?_
 unfold zbE
 first
  | (simp only [zbS,zen]; done)
  | (simp only [zbS]; rfl)
abbrev zjp:=∀ (β:Type),Nat→List (List V)→Int→Int→Int→Int→Int→(Bool→Option β)→Option β
def xP (β:Type) (L:Nat) (p0:List (List V)) (p1 p2 p3 p4 p5:Int) (k_fin:Bool→Option β):Option β:=zbE xc yd zb yc xa xb ya L p0 p1 p2 p3 p4 p5 k_fin
def zbG (xP:zjp) (L:Nat) (β:Type) (args:List V) (bor:Bor) (k:KK β):Option β:=match args,bor with
 | [a0,a1,a2,a3,a4,a5],[]=>aL 1 a0 fun p0=>aI .i64 a1 fun p1=>aI .i64 a2 fun p2=>aI .i64 a3 fun p3=>aI .i64 a4 fun p4=>aI .i64 a5 fun p5=>xP β L p0 p1 p2 p3 p4 p5 (fun p0=>k (V.sc (.bool p0)) [])
 | _,_=>none
theorem zhy (L:Nat) (β:Type) (args:List V) (bor:Bor) (k:KK β) (r:β) (h:zbG xP L β args bor k=some r):yu yn (zn xc yd zb yc xa xb ya L) L zB args bor k=some r:=by
 unfold zbG at h
 split at h
 ·have q:=zbo h; clear h; obtain ⟨p0,rfl,h⟩:=q
  have q:=xv h; clear h; obtain ⟨p1,rfl,h⟩:=q
  have q:=xv h; clear h; obtain ⟨p2,rfl,h⟩:=q
  have q:=xv h; clear h; obtain ⟨p3,rfl,h⟩:=q
  have q:=xv h; clear h; obtain ⟨p4,rfl,h⟩:=q
  have q:=xv h; clear h; obtain ⟨p5,rfl,h⟩:=q
  exact (zhI xc yd zb yc xa xb ya L p0 p1 p2 p3 p4 p5 k).trans h
 ·cases h
def gls:List (Nat × List V):=[]
def fg:List (Nat × Nat):=[(3,211),(4,212),(5,213),(6,214),(7,215),(8,216),(9,217),(10,218),(11,219),(12,220),(13,221),(14,222),(15,223),(16,224),(17,225),(18,226),(19,227),(20,228),(21,229),(22,230),(23,231),(24,232),(25,233),(26,234),(27,235),(28,236),(29,237),(30,238),(31,239),(32,240),(33,241),(34,242),(35,243),(36,244),(37,245),(38,246),(39,247),(40,248),(41,249),(42,250),(43,251),(44,252),(45,253),(46,254)]
def rows:List Row:=[⟨35,243,zgc,zax⟩,⟨12,220,zgI,zdz⟩,⟨14,222,zgx,zaQ⟩,⟨10,218,zhs,zey⟩,⟨8,216,zgC,zdC⟩,⟨17,225,zh3,zfa⟩,⟨39,247,zeU,zbC⟩,⟨9,217,zh5,zfe⟩,⟨23,231,zeV,zbD⟩,⟨28,236,zhm,zd9⟩,⟨25,233,zgo,zar⟩,⟨30,238,zfi,z0⟩,⟨34,242,zh4,ze6⟩,⟨13,221,zgl,zau⟩,⟨15,223,zgf,zay⟩,⟨43,251,zgz,zae⟩,⟨29,237,zfr,zb6⟩,⟨16,224,zfh,y4⟩,⟨18,226,zgD,zaT⟩,⟨20,228,zfs,z5⟩,⟨5,213,zeF,zB⟩]
theorem zlp:zaq Try.prog (yS fg gls) zgc 35=some zax:=by kernel_rfl
theorem zmf:zaq Try.prog (yS fg gls) zgI 12=some zdz:=by kernel_rfl
theorem zmr:zaq Try.prog (yS fg gls) zgx 14=some zaQ:=by kernel_rfl
theorem zmL:zaq Try.prog (yS fg gls) zhs 10=some zey:=by kernel_rfl
theorem zmq:zaq Try.prog (yS fg gls) zgC 8=some zdC:=by kernel_rfl
theorem znB:zaq Try.prog (yS fg gls) zh3 17=some zfa:=by kernel_rfl
theorem zjl:zaq Try.prog (yS fg gls) zeU 39=some zbC:=by kernel_rfl
theorem znF:zaq Try.prog (yS fg gls) zh5 9=some zfe:=by kernel_rfl
theorem zjm:zaq Try.prog (yS fg gls) zeV 23=some zbD:=by kernel_rfl
theorem zmM:zaq Try.prog (yS fg gls) zhm 28=some zd9:=by kernel_rfl
theorem zls:zaq Try.prog (yS fg gls) zgo 25=some zar:=by kernel_rfl
theorem zj3:zaq Try.prog (yS fg gls) zfi 30=some z0:=by kernel_rfl
theorem znD:zaq Try.prog (yS fg gls) zh4 34=some ze6:=by kernel_rfl
theorem zlA:zaq Try.prog (yS fg gls) zgl 13=some zau:=by kernel_rfl
theorem zln:zaq Try.prog (yS fg gls) zgf 15=some zay:=by kernel_rfl
theorem zmp:zaq Try.prog (yS fg gls) zgz 43=some zae:=by kernel_rfl
theorem zj4:zaq Try.prog (yS fg gls) zfr 29=some zb6:=by kernel_rfl
theorem zjX:zaq Try.prog (yS fg gls) zfh 16=some y4:=by kernel_rfl
theorem zmi:zaq Try.prog (yS fg gls) zgD 18=some zaT:=by kernel_rfl
theorem zjQ:zaq Try.prog (yS fg gls) zfs 20=some z5:=by kernel_rfl
theorem zjc:zaq Try.prog (yS fg gls) zeF 5=some zB:=by kernel_rfl
theorem zqU:∀ r ∈ rows,(r.f,r.g) ∈ fg∧zb3 Try.prog r.f=true∧zaq Try.prog (yS fg gls) r.h r.f=some r.c:=by
 intro r hr
 simp only [rows,List.mem_cons,List.not_mem_nil,or_false] at hr
 rcases hr with rfl | rfl | rfl | rfl | rfl | rfl | rfl | rfl | rfl | rfl | rfl | rfl | rfl | rfl | rfl | rfl | rfl | rfl | rfl | rfl | rfl
 ·exact ⟨of_decide_eq_true (by kernel_rfl),by kernel_rfl,zlp⟩
 ·exact ⟨of_decide_eq_true (by kernel_rfl),by kernel_rfl,zmf⟩
 ·exact ⟨of_decide_eq_true (by kernel_rfl),by kernel_rfl,zmr⟩
 ·exact ⟨of_decide_eq_true (by kernel_rfl),by kernel_rfl,zmL⟩
 ·exact ⟨of_decide_eq_true (by kernel_rfl),by kernel_rfl,zmq⟩
 ·exact ⟨of_decide_eq_true (by kernel_rfl),by kernel_rfl,znB⟩
 ·exact ⟨of_decide_eq_true (by kernel_rfl),by kernel_rfl,zjl⟩
 ·exact ⟨of_decide_eq_true (by kernel_rfl),by kernel_rfl,znF⟩
 ·exact ⟨of_decide_eq_true (by kernel_rfl),by kernel_rfl,zjm⟩
 ·exact ⟨of_decide_eq_true (by kernel_rfl),by kernel_rfl,zmM⟩
 ·exact ⟨of_decide_eq_true (by kernel_rfl),by kernel_rfl,zls⟩
 ·exact ⟨of_decide_eq_true (by kernel_rfl),by kernel_rfl,zj3⟩
 ·exact ⟨of_decide_eq_true (by kernel_rfl),by kernel_rfl,znD⟩
 ·exact ⟨of_decide_eq_true (by kernel_rfl),by kernel_rfl,zlA⟩
 ·exact ⟨of_decide_eq_true (by kernel_rfl),by kernel_rfl,zln⟩
 ·exact ⟨of_decide_eq_true (by kernel_rfl),by kernel_rfl,zmp⟩
 ·exact ⟨of_decide_eq_true (by kernel_rfl),by kernel_rfl,zj4⟩
 ·exact ⟨of_decide_eq_true (by kernel_rfl),by kernel_rfl,zjX⟩
 ·exact ⟨of_decide_eq_true (by kernel_rfl),by kernel_rfl,zmi⟩
 ·exact ⟨of_decide_eq_true (by kernel_rfl),by kernel_rfl,zjQ⟩
 ·exact ⟨of_decide_eq_true (by kernel_rfl),by kernel_rfl,zjc⟩
theorem zrG:Try.prog.follows .mixedOrders=true:=by kernel_rfl
theorem zrN:zpN fg=true:=by kernel_rfl
theorem zrB:zb0 Try.prog (yS fg gls) zhG:=zqV (by kernel_rfl)
theorem zrD (L d:Nat):zb0 Try.prog (yS fg gls) (evF (yZ rows) zhG L d):=zqP zrG zrN zrB zqU L d
theorem zgB (L:Nat):FOk (yZ rows) L 243 (zcb xd L) 1:=xY (D:=0) (by kernel_rfl) fun m hm=>⟨zO,xN L,zY,zj9 L⟩
theorem ze4 (L:Nat):FOk (yZ rows) L 220 (zbM ya L) 2:=xY (D:=1) (by kernel_rfl) fun m hm=>⟨zfG,zfw xd L,(yy zY (zgB L m (by omega))),zkO L⟩
theorem zhq (L:Nat):FOk (yZ rows) L 222 (zcF xb L) 2:=xY (D:=1) (by kernel_rfl) fun m hm=>⟨yT,xU xd L,(yy zY (zgB L m (by omega))),zkr L⟩
theorem zmo (L:Nat):FOk (yZ rows) L 218 (zff xD L) 1:=xY (D:=0) (by kernel_rfl) fun m hm=>⟨zgm,zf5 L,zY,zlK L⟩
theorem zlt (L:Nat):FOk (yZ rows) L 216 (zea xc L) 3:=xY (D:=2) (by kernel_rfl) fun m hm=>⟨zfu,zfv ya xb xD L,(yy (yy (yy zY (ze4 L m (by omega))) (zhq L m (by omega))) (zmo L m (by omega))),zlh L⟩
theorem znp (L:Nat):FOk (yZ rows) L 225 (zfM yd L) 1:=xY (D:=0) (by kernel_rfl) fun m hm=>⟨zgN,zg4 L,zY,zmw L⟩
theorem ziR (L:Nat):FOk (yZ rows) L 247 (zbU zq L) 1:=xY (D:=0) (by kernel_rfl) fun m hm=>⟨zc7,zde L,zY,zie L⟩
theorem ziG (L:Nat):FOk (yZ rows) L 217 (zed yc L) 1:=xY (D:=0) (by kernel_rfl) fun m hm=>⟨zgW,zg7 L,zY,zms L⟩
theorem zcT (L:Nat):FOk (yZ rows) L 231 (zap za L) 2:=xY (D:=1) (by kernel_rfl) fun m hm=>⟨zdd,zdf zq yc L,(yy (yy zY (ziR L m (by omega))) (ziG L m (by omega))),zia L⟩
theorem zhV (L:Nat):FOk (yZ rows) L 236 (zdo zc L) 3:=xY (D:=2) (by kernel_rfl) fun m hm=>⟨zf3,zfZ za L,(yy zY (zcT L m (by omega))),zlv L⟩
theorem zkH (L:Nat):FOk (yZ rows) L 233 (zdu xf L) 4:=xY (D:=3) (by kernel_rfl) fun m hm=>⟨yP,zN za zc L,(yy (yy zY (zcT L m (by omega))) (zhV L m (by omega))),zke L⟩
theorem zjs (L:Nat):FOk (yZ rows) L 238 (zcp ye L) 1:=xY (D:=0) (by kernel_rfl) fun m hm=>⟨yp,zp L,zY,ziK L⟩
theorem zi5 (L:Nat):FOk (yZ rows) L 242 (zev zh L) 1:=xY (D:=0) (by kernel_rfl) fun m hm=>⟨zg1,zgO L,zY,zme L⟩
theorem zli (L:Nat):FOk (yZ rows) L 221 (zdB zg L) 2:=xY (D:=1) (by kernel_rfl) fun m hm=>⟨xO,yN zh L,(yy zY (zi5 L m (by omega))),zjN L⟩
theorem zkn (L:Nat):FOk (yZ rows) L 223 (zdt zt L) 3:=xY (D:=2) (by kernel_rfl) fun m hm=>⟨zP,xM zg L,(yy zY (zli L m (by omega))),zj7 L⟩
theorem zlH (L:Nat):FOk (yZ rows) L 251 (zd8 yx L) 1:=xY (D:=0) (by kernel_rfl) fun m hm=>⟨yL,yM L,zY,zko L⟩
theorem zjo (L:Nat):FOk (yZ rows) L 237 (zcz ze L) 4:=xY (D:=3) (by kernel_rfl) fun m hm=>⟨zdI,zdM zt zh yx L,(yy (yy (yy zY (zkn L m (by omega))) (zi5 L m (by omega))) (zlH L m (by omega))),ziF L⟩
theorem zjr (L:Nat):FOk (yZ rows) L 224 (zcx zb L) 5:=xY (D:=4) (by kernel_rfl) fun m hm=>⟨zE,yF za xf ye zc ze L,(yy (yy (yy (yy (yy zY (zcT L m (by omega))) (zkH L m (by omega))) (zjs L m (by omega))) (zhV L m (by omega))) (zjo L m (by omega))),ziC L⟩
theorem zlw (L:Nat):FOk (yZ rows) L 226 (zez xg L) 1:=xY (D:=0) (by kernel_rfl) fun m hm=>⟨xT,zU L,zY,zkk L⟩
theorem zjq (L:Nat):FOk (yZ rows) L 228 (zcn xa L) 3:=xY (D:=2) (by kernel_rfl) fun m hm=>⟨xF,xE xg ya L,(yy (yy zY (zlw L m (by omega))) (ze4 L m (by omega))),zi3 L⟩
theorem zid (L:Nat):FOk (yZ rows) L 213 (zbG xP L) 6:=xY (D:=5) (by kernel_rfl) fun m hm=>⟨yn,zn xc yd zb yc xa xb ya L,(yy (yy (yy (yy (yy (yy (yy zY (zlt L m (by omega))) (znp L m (by omega))) (zjr L m (by omega))) (ziG L m (by omega))) (zjq L m (by omega))) (zhq L m (by omega))) (ze4 L m (by omega))),zhy L⟩
end
end Go.Proofs.Ythplooifbkopgaa
