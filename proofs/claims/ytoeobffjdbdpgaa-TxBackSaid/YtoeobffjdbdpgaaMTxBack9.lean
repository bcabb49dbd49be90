/- Part 9 of the proof of TxBack: an abstract machine over plain values, its soundness, and the functions of the program on plain values. -/
import Derived.Test.YtoeobffjdbdpgaaRows
import Derived.Test.YtoeobffjdbdpgaaMTxBack8
namespace Go.Proofs.Ytoeobffjdbdpgaa
section
set_option maxRecDepth 100000
set_option linter.unusedVariables false
set_option linter.unusedSimpArgs false
def zci:CC:=(.seq (.reg [oo 11 (.bin .lss (tq 10) (tq 9))])
 (.seq (.cond (tq 11)
 .skip
 (.seq (.mask (bl 32 23) (bl 8388543 23))
 (.exit 0)))
 (.seq (.block 1 (.seq (.reg [oo 12 (.move (tq 10) false),
   oo 6 (.move (tq 12) false)])
 (.reg [oo 13 (.move (tq 5) false),
   oo 14 (.move (tq 6) false),
   oo 15 (.move (tq 0) false),
   oo 16 (.move (tq 6) false),
   oo 17 (.bin .mul (.const (.sc (.int .i64 8))) (tq 16)),
   oo 18 (.bin .shr (tq 15) (tq 17)),
   oo 19 (.conv .u8 (tq 18)),
   oo 20 (.indexAddrS 1 (tq 13) (tq 14)),
   oz (.store 1 (tq 20) (tq 19))])))
 (.reg [oo 21 (.bin .add (tq 10) (.const (.sc (.int .i64 1)))),
   oo 10 (.move (tq 21) false)]))))
def zij:CC:=(.seq (.reg [oo 22 (.move (tq 5) true),
   oo 4 (.move (tq 22) true)])
 .ret)
def zcm:CF:=⟨23,[.tmp 4],
 (.seq (.reg [oo 4 (.move (.const (.gs 1 [])) true)])
 (.seq (.reg [oo 7 (.move (tq 1) false),
   ⟨(some 8),true,none,.makeSlice 1 1 [(.sc (.int .u8 0))] (tq 7) (tq 7)⟩,
   oo 5 (.move (tq 8) true)])
 (.seq (.seq (.reg [oo 9 (.move (tq 1) false),
   oo 10 (.move (.const (.sc (.int .i64 0))) false)])
 (.block 0 (.loop (bl 1569 23) (bl 8388543 23)
 zci)))
 zij)))⟩
def znL:Hint:=⟨[(0,0),(1,2),(7,0),(7,1)],[(1,1)],[none,some ((bl 1569 23),(bl 8388543 23)),none,some ((bl 32 23),(bl 8388543 23)),none,none],[],[],false,false,[]⟩
def zaT:Nat→Sh:=yL []
def zaU (L:Nat):CBC:=noC
def zen:St→St:=zV 0 (bl 1569 23) (bl 8388543 23)
def zc3 (p0:Int) (p5l:Nat) (p9 p10:Int) (b8:List V):St:=⟨((V.sc (.int .u64 p0))::(jn 4 ((V.own 8 0 p5l 1)::(jn 3 ((V.sc (.int .i64 p9))::((V.sc (.int .i64 p10))::(jn 12 []))))))),(gn 8 ((.live true b8)::(gn 14 [])))⟩
def zhL (p5l:Nat) (b8:List V):St:=⟨(jn 5 ((V.own 8 0 p5l 1)::(jn 17 []))),(gn 8 ((.live true b8)::(gn 14 [])))⟩
def zro {β:Type} (L:Nat) (p0 p1:Int) (k_hbbaba:Int→Nat→Int→Int→List V→Option β):Option β :=
 chk (0≤p1∧p1≤p1∧(Int.toNat p1) * 1≤zk∧p1≤zk) (
 k_hbbaba p0 (Int.toNat p1) p1 (0:Int) (List.flatten (List.replicate (Int.toNat p1) [(V.sc (.int .u8 (0:Int)))])))
theorem zvS {β:Type} (L:Nat) (p0 p1:Int) (k:KK β):xv zaT (zaU L) L zcm [(V.sc (.int .u64 p0)),(V.sc (.int .i64 p1))] [] k=zro L p0 p1 (fun p0 p5l p9 p10 b8=>xD (xj zaT (zaU L) 0 L zci) zen L (zc3 p0 p5l p9 p10 b8) (xu 0 (zQ (xj zaT (zaU L) 0 L zij) (zW 0 (CF.res zcm) k)))):=by kernel_rfl
def zlF {β:Type} (L:Nat) (p0:Int) (p5l:Nat) (p9 p10:Int) (b8:List V) (k_hbbaba:Int→Nat→Int→Int→List V→Option β) (k_x0:Nat→List V→Option β):Option β :=
 ifb (decide (p10 < p9)) (
 lt (IntKind.wrap .i64 (((8:Int):Int) * p10)) fun x0 =>
 chk (0≤x0) (
 lt (zBM .u64 p0 x0) fun x1 =>
 lt (IntKind.wrap .u8 x1) fun x2 =>
 chk (0≤p10∧p10 < ((p5l:Nat):Int)) (
 chk (1=1∧(0+((Int.toNat p10) * 1))+1≤(List.length b8)) (
 lt (zl b8 (0+((Int.toNat p10) * 1)) [(V.sc (.int .u8 x2))]) fun r3 =>
 lt (IntKind.wrap .i64 ((p10:Int)+(1:Int))) fun x4 =>
 k_hbbaba p0 p5l p9 x4 r3)))) (
 k_x0 p5l b8)
theorem zqC {β:Type} (L:Nat) (p0:Int) (p5l:Nat) (p9 p10:Int) (b8:List V) (X:St→Option β) (K:KT β):xj zaT (zaU L) 0 L zci (zc3 p0 p5l p9 p10 b8) (zah zen X K)=zlF L p0 p5l p9 p10 b8 (fun p0 p5l p9 p10 b8=>X (zc3 p0 p5l p9 p10 b8)) (fun p5l b8=>K (.exit 0) (zhL p5l b8)):=by kernel_rfl
def zjZ {β:Type} (L:Nat) (p5l:Nat) (b8:List V) (k_fin:List (List V)→Option β):Option β :=
 chk (p5l≠0∨(List.length b8)=0) (
 k_fin (xi 1 p5l b8))
theorem zoE {β:Type} (L:Nat) (p5l:Nat) (b8:List V) (k:KK β):(xu 0 (zQ (xj zaT (zaU L) 0 L zij) (zW 0 (CF.res zcm) k))) (.exit 0) (zhL p5l b8)=zjZ L p5l b8 (fun p0=>k (V.fr 1 p0) []):=by kernel_rfl
def zgE {β:Type} (L:Nat) (k_x0:Nat→List V→Option β):Nat→Int→Nat→Int→Int→List V→Option β
 | 0,_,_,_,_,_=>none
 | n+1,p0,p5l,p9,p10,b8=>zlF L p0 p5l p9 p10 b8 (fun p0 p5l p9 p10 b8=>zgE L k_x0 n p0 p5l p9 p10 b8) k_x0
theorem ziP {β:Type} (L:Nat) (K:KT β):∀ (n:Nat) (p0:Int) (p5l:Nat) (p9 p10:Int) (b8:List V),xD (xj zaT (zaU L) 0 L zci) zen n (zc3 p0 p5l p9 p10 b8) K=zgE L (fun p5l b8=>K (.exit 0) (zhL p5l b8)) n p0 p5l p9 p10 b8:=by
 intro n
 induction n with
 | zero=>intros; rfl
 | succ n ih =>
  intro p0 p5l p9 p10 b8
  refine (zqC L p0 p5l p9 p10 b8 (fun σ=>xD (xj zaT (zaU L) 0 L zci) zen n σ K) K).trans ?_
  simp only [ih]
  rfl
def zl1 {β:Type} (L:Nat) (p0 p1:Int) (k_fin:List (List V)→Option β):Option β :=
 zro L p0 p1 (fun p0 p5l p9 p10 b8=>zgE L (fun p5l b8=>zjZ L p5l b8 k_fin) L p0 p5l p9 p10 b8)
theorem zvM {β:Type} (L:Nat) (p0 p1:Int) (k:KK β):xv zaT (zaU L) L zcm [(V.sc (.int .u64 p0)),(V.sc (.int .i64 p1))] [] k=zl1 L p0 p1 (fun p0=>k (V.fr 1 p0) []):=by
 refine (zvS L p0 p1 k).trans ?_
 unfold zl1
 first
  | (simp only [ziP,zoE]; done)
  | (simp only [ziP]; rfl)
abbrev zbc:=∀ (β:Type),Nat→Int→Int→(List (List V)→Option β)→Option β
def yo (β:Type) (L:Nat) (p0 p1:Int) (k_fin:List (List V)→Option β):Option β:=zl1 L p0 p1 k_fin
def zdU (yo:zbc) (L:Nat) (β:Type) (args:List V) (bor:Bor) (k:KK β):Option β:=match args,bor with
 | [a0,a1],[]=>aI .u64 a0 fun p0=>aI .i64 a1 fun p1=>yo β L p0 p1 (fun p0=>k (V.fr 1 p0) [])
 | _,_=>none
theorem zvQ (L:Nat) (β:Type) (args:List V) (bor:Bor) (k:KK β) (r:β) (h:zdU yo L β args bor k=some r):xv zaT (zaU L) L zcm args bor k=some r:=by
 unfold zdU at h
 split at h
 ·have q:=zI h; clear h; obtain ⟨p0,rfl,h⟩:=q
  have q:=zI h; clear h; obtain ⟨p1,rfl,h⟩:=q
  exact (zvM L p0 p1 k).trans h
 ·cases h
def zgT:CF:=⟨18,[.tmp 4],
 (.seq (.reg [oo 4 (.move (.const (.gs 1 [])) true)])
 (.seq (.reg [oo 6 (.move (tq 0) false),
   oo 7 (.lenS (tq 6)),
   oo 8 (.move (tq 1) false),
   oo 9 (.lenS (tq 8)),
   oo 10 (.bin .add (tq 7) (tq 9)),
   oo 11 (.makeSlice 1 1 [(.sc (.int .u8 0))] (.const (.sc (.int .i64 0))) (tq 10)),
   oo 5 (.move (tq 11) true)])
 (.seq (.reg [oo 12 (.move (tq 5) true),
   oo 13 (.move (tq 0) false),
   oo 14 (.append 1 1 (tq 12) (tq 13)),
   oo 5 (.move (tq 14) true)])
 (.seq (.reg [oo 15 (.move (tq 5) true),
   oo 16 (.move (tq 1) false),
   oo 17 (.append 1 1 (tq 15) (tq 16)),
   oo 4 (.move (tq 17) true)])
 .ret))))⟩
def znJ:Hint:=⟨[(0,0),(1,6),(2,0),(2,3),(3,0),(3,3)],[],[none],[],[],false,false,[]⟩
def zkN:Nat→Sh:=yL []
def zkX (L:Nat):CBC:=noC
def zhY {β:Type} (L:Nat) (p0 p1:List (List V)) (k_fin:List (List V)→Option β):Option β :=
 lt (IntKind.wrap .i64 ((((List.length p0:Nat):Int):Int)+((List.length p1:Nat):Int))) fun x0 =>
 chk (0≤(0:Int)∧(0:Int)≤x0∧(Int.toNat x0) * 1≤zk∧x0≤zk) (
 chk ((List.length (List.replicate 0 [(V.sc (.int .u8 (0:Int)))])+List.length p0) * 1≤zk∧List.length (List.replicate 0 [(V.sc (.int .u8 (0:Int)))])+List.length p0≤zk) (
 lt ((List.replicate 0 [(V.sc (.int .u8 (0:Int)))])++p0) fun l1 =>
 chk ((List.length l1+List.length p1) * 1≤zk∧List.length l1+List.length p1≤zk) (
 lt (l1++p1) fun l2 =>
 k_fin l2)))
theorem zvL {β:Type} (L:Nat) (p0 p1:List (List V)) (k:KK β):xv zkN (zkX L) L zgT [(V.sl 1 p0),(V.sl 1 p1)] [] k=zhY L p0 p1 (fun p0=>k (V.gs 1 p0) []):=by kernel_rfl
abbrev yJ:=∀ (β:Type),Nat→List (List V)→List (List V)→(List (List V)→Option β)→Option β
def ye (β:Type) (L:Nat) (p0 p1:List (List V)) (k_fin:List (List V)→Option β):Option β:=zhY L p0 p1 k_fin
def zbd (ye:yJ) (L:Nat) (β:Type) (args:List V) (bor:Bor) (k:KK β):Option β:=match args,bor with
 | [a0,a1],[]=>aL 1 a0 fun p0=>aL 1 a1 fun p1=>ye β L p0 p1 (fun p0=>k (V.gs 1 p0) [])
 | _,_=>none
theorem zv3 (L:Nat) (β:Type) (args:List V) (bor:Bor) (k:KK β) (r:β) (h:zbd ye L β args bor k=some r):xv zkN (zkX L) L zgT args bor k=some r:=by
 unfold zbd at h
 split at h
 ·have q:=xU h; clear h; obtain ⟨p0,rfl,h⟩:=q
  have q:=xU h; clear h; obtain ⟨p1,rfl,h⟩:=q
  exact (zvL L p0 p1 k).trans h
 ·cases h
def zeW:CF:=⟨10,[.tmp 4],
 (.seq (.reg [oo 4 (.move (.const (.gs 1 [])) true)])
 (.seq (.reg [oo 5 (.move (tq 0) false),
   oo 6 (.move (tq 1) false),
   oo 7 (.conv .u64 (tq 6)),
   oo 8 (.call 192 [((tq 7),0),((.const (.sc (.int .i64 4))),0)] []),
   oo 9 (.call 191 [((tq 5),0),((tq 8),0)] []),
   oo 4 (.move (tq 9) true)])
 .ret))⟩
def zkG:Hint:=⟨[(0,0),(1,5)],[],[none],[],[],false,false,[]⟩
def zhb:Nat→Sh:=yL []
def zhk (yo:zbc) (ye:yJ) (L:Nat):CBC:=(zt 191 (zbd ye L) (zt 192 (zdU yo L) noC))
def zix {β:Type} (yo:zbc) (ye:yJ) (L:Nat) (p0:List (List V)) (p1:Int) (k_fin:List (List V)→Option β):Option β :=
 lt (IntKind.wrap .u64 p1) fun x0 =>
 yo β L x0 (4:Int) (fun v1 =>
 ye β L p0 v1 (fun v2 =>
 k_fin v2))
theorem zsw {β:Type} (yo:zbc) (ye:yJ) (L:Nat) (p0:List (List V)) (p1:Int) (k:KK β):xv zhb (zhk yo ye L) L zeW [(V.sl 1 p0),(V.sc (.int .u32 p1))] [] k=zix yo ye L p0 p1 (fun p0=>k (V.gs 1 p0) []):=by kernel_rfl
abbrev zj:=∀ (β:Type),Nat→List (List V)→Int→(List (List V)→Option β)→Option β
def zb (β:Type) (L:Nat) (p0:List (List V)) (p1:Int) (k_fin:List (List V)→Option β):Option β:=zix yo ye L p0 p1 k_fin
def zct (zb:zj) (L:Nat) (β:Type) (args:List V) (bor:Bor) (k:KK β):Option β:=match args,bor with
 | [a0,a1],[]=>aL 1 a0 fun p0=>aI .u32 a1 fun p1=>zb β L p0 p1 (fun p0=>k (V.gs 1 p0) [])
 | _,_=>none
theorem zsx (L:Nat) (β:Type) (args:List V) (bor:Bor) (k:KK β) (r:β) (h:zct zb L β args bor k=some r):xv zhb (zhk yo ye L) L zeW args bor k=some r:=by
 unfold zct at h
 split at h
 ·have q:=xU h; clear h; obtain ⟨p0,rfl,h⟩:=q
  have q:=zI h; clear h; obtain ⟨p1,rfl,h⟩:=q
  exact (zsw yo ye L p0 p1 k).trans h
 ·cases h
def zeY:CF:=⟨10,[.tmp 4],
 (.seq (.reg [oo 4 (.move (.const (.gs 1 [])) true)])
 (.seq (.reg [oo 5 (.move (tq 0) false),
   oo 6 (.move (tq 1) false),
   oo 7 (.conv .u64 (tq 6)),
   oo 8 (.call 192 [((tq 7),0),((.const (.sc (.int .i64 2))),0)] []),
   oo 9 (.call 191 [((tq 5),0),((tq 8),0)] []),
   oo 4 (.move (tq 9) true)])
 .ret))⟩
def zkv:Hint:=⟨[(0,0),(1,5)],[],[none],[],[],false,false,[]⟩
def zhx:Nat→Sh:=yL []
def zhA (yo:zbc) (ye:yJ) (L:Nat):CBC:=(zt 191 (zbd ye L) (zt 192 (zdU yo L) noC))
def ziB {β:Type} (yo:zbc) (ye:yJ) (L:Nat) (p0:List (List V)) (p1:Int) (k_fin:List (List V)→Option β):Option β :=
 lt (IntKind.wrap .u64 p1) fun x0 =>
 yo β L x0 (2:Int) (fun v1 =>
 ye β L p0 v1 (fun v2 =>
 k_fin v2))
theorem zsC {β:Type} (yo:zbc) (ye:yJ) (L:Nat) (p0:List (List V)) (p1:Int) (k:KK β):xv zhx (zhA yo ye L) L zeY [(V.sl 1 p0),(V.sc (.int .u16 p1))] [] k=ziB yo ye L p0 p1 (fun p0=>k (V.gs 1 p0) []):=by kernel_rfl
abbrev zfy:=∀ (β:Type),Nat→List (List V)→Int→(List (List V)→Option β)→Option β
def yM (β:Type) (L:Nat) (p0:List (List V)) (p1:Int) (k_fin:List (List V)→Option β):Option β:=ziB yo ye L p0 p1 k_fin
def zfp (yM:zfy) (L:Nat) (β:Type) (args:List V) (bor:Bor) (k:KK β):Option β:=match args,bor with
 | [a0,a1],[]=>aL 1 a0 fun p0=>aI .u16 a1 fun p1=>yM β L p0 p1 (fun p0=>k (V.gs 1 p0) [])
 | _,_=>none
theorem zsA (L:Nat) (β:Type) (args:List V) (bor:Bor) (k:KK β) (r:β) (h:zfp yM L β args bor k=some r):xv zhx (zhA yo ye L) L zeY args bor k=some r:=by
 unfold zfp at h
 split at h
 ·have q:=xU h; clear h; obtain ⟨p0,rfl,h⟩:=q
  have q:=zI h; clear h; obtain ⟨p1,rfl,h⟩:=q
  exact (zsC yo ye L p0 p1 k).trans h
 ·cases h
def ze5:CF:=⟨9,[.tmp 4],
 (.seq (.reg [oo 4 (.move (.const (.gs 1 [])) true)])
 (.seq (.reg [oo 5 (.move (tq 0) false),
   oo 6 (.move (tq 1) false),
   oo 7 (.call 192 [((tq 6),0),((.const (.sc (.int .i64 8))),0)] []),
   oo 8 (.call 191 [((tq 5),0),((tq 7),0)] []),
   oo 4 (.move (tq 8) true)])
 .ret))⟩
def zlk:Hint:=⟨[(0,0),(1,4)],[],[none],[],[],false,false,[]⟩
def zhy:Nat→Sh:=yL []
def zhf (yo:zbc) (ye:yJ) (L:Nat):CBC:=(zt 191 (zbd ye L) (zt 192 (zdU yo L) noC))
def zir {β:Type} (yo:zbc) (ye:yJ) (L:Nat) (p0:List (List V)) (p1:Int) (k_fin:List (List V)→Option β):Option β :=
 yo β L p1 (8:Int) (fun v0 =>
 ye β L p0 v0 (fun v1 =>
 k_fin v1))
theorem zsH {β:Type} (yo:zbc) (ye:yJ) (L:Nat) (p0:List (List V)) (p1:Int) (k:KK β):xv zhy (zhf yo ye L) L ze5 [(V.sl 1 p0),(V.sc (.int .u64 p1))] [] k=zir yo ye L p0 p1 (fun p0=>k (V.gs 1 p0) []):=by kernel_rfl
abbrev yl:=∀ (β:Type),Nat→List (List V)→Int→(List (List V)→Option β)→Option β
def zc (β:Type) (L:Nat) (p0:List (List V)) (p1:Int) (k_fin:List (List V)→Option β):Option β:=zir yo ye L p0 p1 k_fin
def zdw (zc:yl) (L:Nat) (β:Type) (args:List V) (bor:Bor) (k:KK β):Option β:=match args,bor with
 | [a0,a1],[]=>aL 1 a0 fun p0=>aI .u64 a1 fun p1=>zc β L p0 p1 (fun p0=>k (V.gs 1 p0) [])
 | _,_=>none
theorem zsj (L:Nat) (β:Type) (args:List V) (bor:Bor) (k:KK β) (r:β) (h:zdw zc L β args bor k=some r):xv zhy (zhf yo ye L) L ze5 args bor k=some r:=by
 unfold zdw at h
 split at h
 ·have q:=xU h; clear h; obtain ⟨p0,rfl,h⟩:=q
  have q:=zI h; clear h; obtain ⟨p1,rfl,h⟩:=q
  exact (zsH yo ye L p0 p1 k).trans h
 ·cases h
def zek:CF:=⟨36,[.tmp 4],
 (.seq (.reg [oo 4 (.move (.const (.gs 1 [])) true)])
 (.seq (.block 0 (.seq (.reg [oo 6 (.move (tq 1) false),
   oo 7 (.bin .lss (tq 6) (.const (.sc (.int .u64 253)))),
   oo 5 (.move (tq 7) false)])
 (.cond (tq 5)
 (.seq (.reg [oo 8 (.move (tq 0) false),
   oo 9 (.move (tq 1) false),
   oo 10 (.conv .u8 (tq 9)),
   oo 11 (.buildSlice 1 1 [(.sc (.int .u8 0))] [(0,1,(tq 10))]),
   oo 12 (.call 191 [((tq 8),0),((tq 11),0)] []),
   oo 4 (.move (tq 12) true)])
 .ret)
 (.seq (.reg [oo 14 (.move (tq 1) false),
   oo 15 (.bin .lss (tq 14) (.const (.sc (.int .u64 65536)))),
   oo 13 (.move (tq 15) false)])
 (.cond (tq 13)
 (.seq (.reg [oo 16 (.move (tq 0) false),
   oo 17 (.buildSlice 1 1 [(.sc (.int .u8 0))] [(0,1,(.const (.sc (.int .u8 253))))]),
   oo 18 (.call 191 [((tq 16),0),((tq 17),0)] []),
   oo 19 (.move (tq 1) false),
   oo 20 (.conv .u16 (tq 19)),
   oo 21 (.call 205 [((tq 18),0),((tq 20),0)] []),
   oo 4 (.move (tq 21) true)])
 .ret)
 (.seq (.reg [oo 23 (.move (tq 1) false),
   oo 24 (.bin .lss (tq 23) (.const (.sc (.int .u64 4294967296)))),
   oo 22 (.move (tq 24) false)])
 (.cond (tq 22)
 (.seq (.reg [oo 25 (.move (tq 0) false),
   oo 26 (.buildSlice 1 1 [(.sc (.int .u8 0))] [(0,1,(.const (.sc (.int .u8 254))))]),
   oo 27 (.call 191 [((tq 25),0),((tq 26),0)] []),
   oo 28 (.move (tq 1) false),
   oo 29 (.conv .u32 (tq 28)),
   oo 30 (.call 157 [((tq 27),0),((tq 29),0)] []),
   oo 4 (.move (tq 30) true)])
 .ret)
 .skip)))))))
 (.seq (.reg [oo 31 (.move (tq 0) false),
   oo 32 (.buildSlice 1 1 [(.sc (.int .u8 0))] [(0,1,(.const (.sc (.int .u8 255))))]),
   oo 33 (.call 191 [((tq 31),0),((tq 32),0)] []),
   oo 34 (.move (tq 1) false),
   oo 35 (.call 183 [((tq 33),0),((tq 34),0)] []),
   oo 4 (.move (tq 35) true)])
 .ret)))⟩
def zj2:Hint:=⟨[(0,0),(2,5),(4,6),(6,6),(7,5)],[],[none,none,none,none,none,none,none,none],[],[],false,false,[]⟩
def zgB:Nat→Sh:=yL []
def zgD (ye:yJ) (yM:zfy) (zb:zj) (zc:yl) (L:Nat):CBC:=(zt 183 (zdw zc L) (zt 157 (zct zb L) (zt 205 (zfp yM L) (zt 191 (zbd ye L) noC))))
def zhl {β:Type} (ye:yJ) (yM:zfy) (zb:zj) (zc:yl) (L:Nat) (p0:List (List V)) (p1:Int) (k_fin:List (List V)→Option β):Option β :=
 ifb (decide (p1 < (253:Int))) (
 lt (IntKind.wrap .u8 p1) fun x0 =>
 ye β L p0 (xi 1 1 [(V.sc (.int .u8 x0))]) (fun v1 =>
 k_fin v1)) (
 ifb (decide (p1 < (65536:Int))) (
 ye β L p0 (xi 1 1 [(V.sc (.int .u8 (253:Int)))]) (fun v2 =>
 lt (IntKind.wrap .u16 p1) fun x3 =>
 yM β L v2 x3 (fun v4 =>
 k_fin v4))) (
 ifb (decide (p1 < (4294967296:Int))) (
 ye β L p0 (xi 1 1 [(V.sc (.int .u8 (254:Int)))]) (fun v5 =>
 lt (IntKind.wrap .u32 p1) fun x6 =>
 zb β L v5 x6 (fun v7 =>
 k_fin v7))) (
 ye β L p0 (xi 1 1 [(V.sc (.int .u8 (255:Int)))]) (fun v8 =>
 zc β L v8 p1 (fun v9 =>
 k_fin v9)))))
theorem zrY {β:Type} (ye:yJ) (yM:zfy) (zb:zj) (zc:yl) (L:Nat) (p0:List (List V)) (p1:Int) (k:KK β):xv zgB (zgD ye yM zb zc L) L zek [(V.sl 1 p0),(V.sc (.int .u64 p1))] [] k=zhl ye yM zb zc L p0 p1 (fun p0=>k (V.gs 1 p0) []):=by kernel_rfl
abbrev yj:=∀ (β:Type),Nat→List (List V)→Int→(List (List V)→Option β)→Option β
def yb (β:Type) (L:Nat) (p0:List (List V)) (p1:Int) (k_fin:List (List V)→Option β):Option β:=zhl ye yM zb zc L p0 p1 k_fin
def zc4 (yb:yj) (L:Nat) (β:Type) (args:List V) (bor:Bor) (k:KK β):Option β:=match args,bor with
 | [a0,a1],[]=>aL 1 a0 fun p0=>aI .u64 a1 fun p1=>yb β L p0 p1 (fun p0=>k (V.gs 1 p0) [])
 | _,_=>none
theorem zr5 (L:Nat) (β:Type) (args:List V) (bor:Bor) (k:KK β) (r:β) (h:zc4 yb L β args bor k=some r):xv zgB (zgD ye yM zb zc L) L zek args bor k=some r:=by
 unfold zc4 at h
 split at h
 ·have q:=xU h; clear h; obtain ⟨p0,rfl,h⟩:=q
  have q:=zI h; clear h; obtain ⟨p1,rfl,h⟩:=q
  exact (zrY ye yM zb zc L p0 p1 k).trans h
 ·cases h
def zeh:CF:=⟨8,[.tmp 4],
 (.seq (.reg [oo 3 (.box true (tq 1)),
   oo 4 (.move (.const (.gs 1 [])) true)])
 (.seq (.reg [oo 5 (.move (tq 0) false),
   oo 6 (.sliceA 32 1 (tq 3) none none none),
   oo 7 (.call 191 [((tq 5),0),((tq 6),0)] []),
   oo 4 (.move (tq 7) true)])
 .ret))⟩
def zkb:Hint:=⟨[(0,1),(1,3)],[],[none],[],[],false,false,[]⟩
def zgI:Nat→Sh:=yL []
def zgO (ye:yJ) (L:Nat):CBC:=(zt 191 (zbd ye L) noC)
def zhQ {β:Type} (ye:yJ) (L:Nat) (p0:List (List V)) (p1:List V) (k_fin:List (List V)→Option β):Option β :=
 chk (0+32 * 1≤(List.length p1)) (
 ifb (List.isEmpty p1) (
 ye β L p0 (xi 1 32 p1) (fun v0 =>
 k_fin v0)) (
 ye β L p0 (xi 1 32 p1) (fun v1 =>
 k_fin v1)))
theorem zrQ {β:Type} (ye:yJ) (L:Nat) (p0:List (List V)) (p1:List V) (k:KK β):xv zgI (zgO ye L) L zeh [(V.sl 1 p0),(V.agg p1)] [] k=zhQ ye L p0 p1 (fun p0=>k (V.gs 1 p0) []):=by kernel_rfl
abbrev zeN:=∀ (β:Type),Nat→List (List V)→List V→(List (List V)→Option β)→Option β
def zM (β:Type) (L:Nat) (p0:List (List V)) (p1:List V) (k_fin:List (List V)→Option β):Option β:=zhQ ye L p0 p1 k_fin
def zeR (zM:zeN) (L:Nat) (β:Type) (args:List V) (bor:Bor) (k:KK β):Option β:=match args,bor with
 | [a0,a1],[]=>aL 1 a0 fun p0=>aG a1 fun p1=>zM β L p0 p1 (fun p0=>k (V.gs 1 p0) [])
 | _,_=>none
theorem zr3 (L:Nat) (β:Type) (args:List V) (bor:Bor) (k:KK β) (r:β) (h:zeR zM L β args bor k=some r):xv zgI (zgO ye L) L zeh args bor k=some r:=by
 unfold zeR at h
 split at h
 ·have q:=xU h; clear h; obtain ⟨p0,rfl,h⟩:=q
  have q:=zec h; clear h; obtain ⟨p1,rfl,h⟩:=q
  exact (zrQ ye L p0 p1 k).trans h
 ·cases h
def zmA:CF:=⟨9,[.tmp 2],
 (.seq (.reg [oo 1 (.box true (tq 0)),
   oo 2 (.move (.const (.gs 1 [])) true)])
 (.seq (.dreg [] [(oo 3 (.fieldAddr 0 (tq 1)),q0),
   (oo 4 (.load true 32 (tq 3) false),ql 1 [] []),
   (oo 5 (.call 158 [((.const (.gs 1 [])),0),((tq 4),0)] []),qc [1] []),
   (oo 6 (.fieldAddr 32 (tq 1)),q0),
   (oo 7 (.load false 1 (tq 6) false),ql 1 [] []),
   (oo 8 (.call 157 [((tq 5),0),((tq 7),0)] []),q0),
   (oo 2 (.move (tq 8) true),q0)])
 .ret))⟩
def ztu:Hint:=⟨[(0,1),(1,6)],[],[none],[],[],false,false,[]⟩
def zqW:Nat→Sh:=yL [(7,(.int .u32))]
def zqm (zM:zeN) (zb:zj) (L:Nat):CBC:=(zt 157 (zct zb L) (zt 158 (zeR zM L) noC))
def zso {β:Type} (zM:zeN) (zb:zj) (L:Nat) (p0:List V) (k_fin:List (List V)→Option β):Option β :=
 chk (0+32≤(List.length p0)) (
 zM β L ([]:List (List V)) (List.take 32 p0) (fun v0 =>
 cI .u32 p0 32 fun v1 =>
 zb β L v0 v1 (fun v2 =>
 k_fin v2)))
theorem zAu {β:Type} (zM:zeN) (zb:zj) (L:Nat) (p0:List V) (k:KK β):xv zqW (zqm zM zb L) L zmA [(V.agg p0)] [] k=zso zM zb L p0 (fun p0=>k (V.gs 1 p0) []):=by kernel_rfl
abbrev zF:=∀ (β:Type),Nat→List V→(List (List V)→Option β)→Option β
def xe (β:Type) (L:Nat) (p0:List V) (k_fin:List (List V)→Option β):Option β:=zso zM zb L p0 k_fin
def znU (xe:zF) (L:Nat) (β:Type) (args:List V) (bor:Bor) (k:KK β):Option β:=match args,bor with
 | [a0],[]=>aG a0 fun p0=>xe β L p0 (fun p0=>k (V.gs 1 p0) [])
 | _,_=>none
theorem zAF (L:Nat) (β:Type) (args:List V) (bor:Bor) (k:KK β) (r:β) (h:znU xe L β args bor k=some r):xv zqW (zqm zM zb L) L zmA args bor k=some r:=by
 unfold znU at h
 split at h
 ·have q:=zec h; clear h; obtain ⟨p0,rfl,h⟩:=q
  exact (zAu zM zb L p0 k).trans h
 ·cases h
def zdF:CF:=⟨12,[.tmp 4],
 (.seq (.reg [oo 4 (.move (.const (.gs 1 [])) true)])
 (.seq (.reg [oo 5 (.move (tq 0) false),
   oo 6 (.move (tq 1) false),
   oo 7 (.lenS (tq 6)),
   oo 8 (.conv .u64 (tq 7)),
   oo 9 (.call 182 [((tq 5),0),((tq 8),0)] []),
   oo 10 (.move (tq 1) false),
   oo 11 (.call 191 [((tq 9),0),((tq 10),0)] []),
   oo 4 (.move (tq 11) true)])
 .ret))⟩
def zi4:Hint:=⟨[(0,0),(1,7)],[],[none],[],[],false,false,[]⟩
def zf5:Nat→Sh:=yL []
def zgk (yb:yj) (ye:yJ) (L:Nat):CBC:=(zt 191 (zbd ye L) (zt 182 (zc4 yb L) noC))
def zgF {β:Type} (yb:yj) (ye:yJ) (L:Nat) (p0 p1:List (List V)) (k_fin:List (List V)→Option β):Option β :=
 lt (IntKind.wrap .u64 ((List.length p1:Nat):Int)) fun x0 =>
 yb β L p0 x0 (fun v1 =>
 ye β L v1 p1 (fun v2 =>
 k_fin v2))
theorem zqD {β:Type} (yb:yj) (ye:yJ) (L:Nat) (p0 p1:List (List V)) (k:KK β):xv zf5 (zgk yb ye L) L zdF [(V.sl 1 p0),(V.sl 1 p1)] [] k=zgF yb ye L p0 p1 (fun p0=>k (V.gs 1 p0) []):=by kernel_rfl
abbrev xk:=∀ (β:Type),Nat→List (List V)→List (List V)→(List (List V)→Option β)→Option β
def xb (β:Type) (L:Nat) (p0 p1:List (List V)) (k_fin:List (List V)→Option β):Option β:=zgF yb ye L p0 p1 k_fin
def zez (xb:xk) (L:Nat) (β:Type) (args:List V) (bor:Bor) (k:KK β):Option β:=match args,bor with
 | [a0,a1],[]=>aL 1 a0 fun p0=>aL 1 a1 fun p1=>xb β L p0 p1 (fun p0=>k (V.gs 1 p0) [])
 | _,_=>none
theorem zqX (L:Nat) (β:Type) (args:List V) (bor:Bor) (k:KK β) (r:β) (h:zez xb L β args bor k=some r):xv zf5 (zgk yb ye L) L zdF args bor k=some r:=by
 unfold zez at h
 split at h
 ·have q:=xU h; clear h; obtain ⟨p0,rfl,h⟩:=q
  have q:=xU h; clear h; obtain ⟨p1,rfl,h⟩:=q
  exact (zqD yb ye L p0 p1 k).trans h
 ·cases h
def zaq:CC:=(.seq (.reg [oo 94 (.bin .lss (tq 93) (tq 92))])
 (.seq (.cond (tq 94)
 .skip
 (.seq (.mask (bl 1057810092162800527867936 104) (bl 18380933703309326321702196467067 104))
 (.exit 6)))
 (.seq (.block 7 (.seq (.reg [oo 95 (.indexAddrS 1 (tq 91) (tq 93)),
   oo 96 (.load false 1 (tq 95) false),
   oo 13 (.move (tq 96) false)])
 (.reg [oo 97 (.move (tq 5) true),
   oo 98 (.move (tq 13) false),
   oo 99 (.call 184 [((.const (.gs 1 [])),0),((tq 98),0)] []),
   oo 100 (.append 1 1 (tq 97) (tq 99)),
   oo 5 (.move (tq 100) true)])))
 (.reg [oo 101 (.bin .add (tq 93) (.const (.sc (.int .i64 1)))),
   oo 93 (.move (tq 101) false)]))))
def zdq:CC:=(.reg [oo 102 (.bin .add (tq 79) (.const (.sc (.int .i64 1)))),
   oo 79 (.move (tq 102) false)])
def zaV:CC:=(.seq (.reg [oo 80 (.bin .lss (tq 79) (tq 78))])
 (.seq (.cond (tq 80)
 .skip
 (.seq (.mask (bl 32 104) (bl 18374976116870265429129244431739 104))
 (.exit 4)))
 (.seq (.block 5 (.seq (.reg [oo 81 (.indexAddrS 35 (tq 77) (tq 79)),
   oo 82 (.load true 35 (tq 81) false),
   oo 11 (.alloc true (rp 32 (.sc (.int .u8 0)) (rp 2 (.sc (.int .u32 0)) (rp 1 (.gs 1 []) [])))),
   oz (.store 35 (tq 11) (tq 82))])
 (.seq (.reg [oo 83 (.move (tq 5) true),
   oo 84 (.fieldAddr 34 (tq 11)),
   oo 85 (.load false 1 (tq 84) false),
   oo 86 (.lenS (tq 85)),
   oo 87 (.conv .u64 (tq 86)),
   oo 88 (.call 182 [((.const (.gs 1 [])),0),((tq 87),0)] []),
   oo 89 (.append 1 1 (tq 83) (tq 88)),
   oo 5 (.move (tq 89) true)])
 (.seq (.reg [oo 90 (.fieldAddr 34 (tq 11)),
   oo 91 (.load false 1 (tq 90) false),
   oo 92 (.lenS (tq 91)),
   oo 93 (.move (.const (.sc (.int .i64 0))) false)])
 (.block 6 (.loop (bl 17332218360087486649115607072 104) (bl 18380933703309326321702196467067 104)
 zaq))))))
 zdq)))
def zcg:CC:=(.seq (.reg [oo 53 (.bin .lss (tq 52) (tq 51))])
 (.seq (.cond (tq 53)
 .skip
 (.seq (.mask (bl 38 104) (bl 20282409603537531194991173432703 104))
 (.exit 2)))
 (.seq (.block 3 (.seq (.reg [oo 54 (.indexAddrS 2 (tq 50) (tq 52)),
   oo 55 (.load true 2 (tq 54) false),
   oo 9 (.alloc true [(.sc (.int .i64 0)),(.gs 1 [])]),
   oz (.store 2 (tq 9) (tq 55))])
 (.seq (.reg [oo 56 (.move (tq 5) true),
   oo 57 (.fieldAddr 0 (tq 9)),
   oo 58 (.load false 1 (tq 57) false),
   oo 59 (.conv .u64 (tq 58)),
   oo 60 (.call 183 [((.const (.gs 1 [])),0),((tq 59),0)] []),
   oo 61 (.append 1 1 (tq 56) (tq 60)),
   oo 5 (.move (tq 61) true)])
 (.reg [oo 62 (.move (tq 5) true),
   oo 63 (.fieldAddr 1 (tq 9)),
   oo 64 (.load false 1 (tq 63) false),
   oo 65 (.call 184 [((.const (.gs 1 [])),0),((tq 64),0)] []),
   oo 66 (.append 1 1 (tq 62) (tq 65)),
   oo 5 (.move (tq 66) true)]))))
 (.reg [oo 67 (.bin .add (tq 52) (.const (.sc (.int .i64 1)))),
   oo 52 (.move (tq 67) false)]))))
def zgj:CC:=(.seq (.reg [oo 103 (.move (tq 5) true),
   oo 4 (.move (tq 103) true)])
 .ret)
def zc5:CC:=(.seq (.reg [oo 28 (.bin .lss (tq 27) (tq 26))])
 (.seq (.cond (tq 28)
 .skip
 (.seq (.mask (bl 38 104) (bl 20282409603651670422246444234111 104))
 (.exit 0)))
 (.seq (.block 1 (.seq (.reg [oo 29 (.indexAddrS 35 (tq 25) (tq 27)),
   oo 30 (.load true 35 (tq 29) false),
   oo 7 (.alloc true (rp 32 (.sc (.int .u8 0)) (rp 2 (.sc (.int .u32 0)) (rp 1 (.gs 1 []) [])))),
   oz (.store 35 (tq 7) (tq 30))])
 (.seq (.reg [oo 31 (.move (tq 5) true),
   oo 32 (.fieldAddr 0 (tq 7)),
   oo 33 (.load true 33 (tq 32) false),
   oo 34 (.call 137 [((tq 33),0)] []),
   oo 35 (.append 1 1 (tq 31) (tq 34)),
   oo 5 (.move (tq 35) true)])
 (.reg [oo 36 (.move (tq 5) true),
   oo 37 (.fieldAddr 33 (tq 7)),
   oo 38 (.load false 1 (tq 37) false),
   oo 39 (.call 157 [((.const (.gs 1 [])),0),((tq 38),0)] []),
   oo 40 (.append 1 1 (tq 36) (tq 39)),
   oo 5 (.move (tq 40) true)]))))
 (.reg [oo 41 (.bin .add (tq 27) (.const (.sc (.int .i64 1)))),
   oo 27 (.move (tq 41) false)]))))
def zfx:CC:=(.seq (.reg [oo 68 (.move (tq 5) true),
   oo 69 (.fieldAddr 3 (tq 2)),
   oo 70 (.load false 1 (tq 69) false),
   oo 71 (.call 157 [((.const (.gs 1 [])),0),((tq 70),0)] []),
   oo 72 (.append 1 1 (tq 68) (tq 71)),
   oo 5 (.move (tq 72) true)])
 (.seq (.seq (.reg [oo 73 (.move (tq 1) false),
   oo 74 (.un .not (tq 73))])
 (.cond (tq 74)
 (.seq (.reg [oo 75 (.move (tq 5) true),
   oo 4 (.move (tq 75) true)])
 .ret)
 .skip))
 (.seq (.seq (.reg [oo 76 (.fieldAddr 1 (tq 2)),
   oo 77 (.load false 1 (tq 76) false),
   oo 78 (.lenS (tq 77)),
   oo 79 (.move (.const (.sc (.int .i64 0))) false)])
 (.block 4 (.loop (bl 1057810092162800527867936 104) (bl 18374976116870265429129244431739 104)
 zaV)))
 zgj)))
def zg7:CC:=(.seq (.reg [oo 42 (.move (tq 5) true),
   oo 43 (.fieldAddr 2 (tq 2)),
   oo 44 (.load false 1 (tq 43) false),
   oo 45 (.lenS (tq 44)),
   oo 46 (.conv .u64 (tq 45)),
   oo 47 (.call 182 [((.const (.gs 1 [])),0),((tq 46),0)] []),
   oo 48 (.append 1 1 (tq 42) (tq 47)),
   oo 5 (.move (tq 48) true)])
 (.seq (.seq (.reg [oo 49 (.fieldAddr 2 (tq 2)),
   oo 50 (.load false 1 (tq 49) false),
   oo 51 (.lenS (tq 50)),
   oo 52 (.move (.const (.sc (.int .i64 0))) false)])
 (.block 2 (.loop (bl 7881299347898406 104) (bl 20282409603537531194991173432703 104)
 zcg)))
 zfx))
def zaQ:CF:=⟨104,[.tmp 4],
 (.seq (.reg [oo 2 (.box true (tq 0)),
   oo 4 (.move (.const (.gs 1 [])) true)])
 (.seq (.reg [oo 14 (.fieldAddr 0 (tq 2)),
   oo 15 (.load false 1 (tq 14) false),
   oo 16 (.call 157 [((.const (.gs 1 [])),0),((tq 15),0)] []),
   oo 5 (.move (tq 16) true)])
 (.seq (.reg [oo 17 (.move (tq 5) true),
   oo 18 (.fieldAddr 1 (tq 2)),
   oo 19 (.load false 1 (tq 18) false),
   oo 20 (.lenS (tq 19)),
   oo 21 (.conv .u64 (tq 20)),
   oo 22 (.call 182 [((.const (.gs 1 [])),0),((tq 21),0)] []),
   oo 23 (.append 1 1 (tq 17) (tq 22)),
   oo 5 (.move (tq 23) true)])
 (.seq (.seq (.reg [oo 24 (.fieldAddr 1 (tq 2)),
   oo 25 (.load false 1 (tq 24) false),
   oo 26 (.lenS (tq 25)),
   oo 27 (.move (.const (.sc (.int .i64 0))) false)])
 (.block 0 (.loop (bl 234881062 104) (bl 20282409603651670422246444234111 104)
 zc5)))
 zg7))))⟩
def zrt:Hint:=⟨[(0,0),(0,1),(1,3),(2,0),(2,7),(5,2),(6,0),(6,5),(7,0),(7,5),(9,0),(9,7),(12,2),(13,0),(13,6),(14,0),(14,5),(16,0),(16,5),(18,0),(18,1),(21,2),(22,0),(22,7),(26,0),(26,4),(29,0),(29,1)],[],[none,some ((bl 234881062 104),(bl 20282409603651670422246444234111 104)),none,some ((bl 38 104),(bl 20282409603651670422246444234111 104)),none,none,some ((bl 7881299347898406 104),(bl 20282409603537531194991173432703 104)),none,some ((bl 38 104),(bl 20282409603537531194991173432703 104)),none,none,none,none,some ((bl 1057810092162800527867936 104),(bl 18374976116870265429129244431739 104)),none,some ((bl 32 104),(bl 18374976116870265429129244431739 104)),none,none,some ((bl 17332218360087486649115607072 104),(bl 18380933703309326321702196467067 104)),none,some ((bl 1057810092162800527867936 104),(bl 18380933703309326321702196467067 104)),none,none],[],[],false,false,[]⟩
def yC:Nat→Sh:=yL [(15,(.int .u32)),(19,(.sl 35)),(25,(.sl 35)),(38,(.int .u32)),(44,(.sl 2)),(50,(.sl 2)),(58,(.int .i64)),(64,(.sl 1)),(70,(.int .u32)),(77,(.sl 35)),(85,(.sl 1)),(91,(.sl 1)),(96,(.sl 1))]
def zC (zb:zj) (yb:yj) (xe:zF) (zc:yl) (xb:xk) (L:Nat):CBC:=(zt 184 (zez xb L) (zt 183 (zdw zc L) (zt 137 (znU xe L) (zt 182 (zc4 yb L) (zt 157 (zct zb L) noC)))))
def zfs:St→St:=zV 0 (bl 234881062 104) (bl 20282409603651670422246444234111 104)
def zer:St→St:=zV 0 (bl 7881299347898406 104) (bl 20282409603537531194991173432703 104)
def zaz:St→St:=zV 0 (bl 1057810092162800527867936 104) (bl 18374976116870265429129244431739 104)
def zba:St→St:=zV 0 (bl 17332218360087486649115607072 104) (bl 18380933703309326321702196467067 104)
def zdN (p1:Bool) (p5 p25:List (List V)) (p26 p27:Int) (b2:List V):St:=⟨(jn 1 ((V.sc (.bool p1))::((V.ptr 2 0)::(jn 2 ((V.gs 1 p5)::(jn 19 ((V.sl 35 p25)::((V.sc (.int .i64 p26))::((V.sc (.int .i64 p27))::(jn 76 [])))))))))),(gn 2 ((.live true b2)::(gn 101 [])))⟩
def zg6 (p1:Bool) (p5:List (List V)) (b2:List V):St:=⟨(jn 1 ((V.sc (.bool p1))::((V.ptr 2 0)::(jn 2 ((V.gs 1 p5)::(jn 98 [])))))),(gn 2 ((.live true b2)::(gn 101 [])))⟩
def zcX (p1:Bool) (p5 p50:List (List V)) (p51 p52:Int) (b2:List V):St:=⟨(jn 1 ((V.sc (.bool p1))::((V.ptr 2 0)::(jn 2 ((V.gs 1 p5)::(jn 44 ((V.sl 2 p50)::((V.sc (.int .i64 p51))::((V.sc (.int .i64 p52))::(jn 51 [])))))))))),(gn 2 ((.live true b2)::(gn 101 [])))⟩
def zgZ (p1:Bool) (p5:List (List V)) (b2:List V):St:=⟨(jn 1 ((V.sc (.bool p1))::((V.ptr 2 0)::(jn 2 ((V.gs 1 p5)::(jn 98 [])))))),(gn 2 ((.live true b2)::(gn 101 [])))⟩
def zaC (p5 p77:List (List V)) (p78 p79:Int):St:=⟨(jn 5 ((V.gs 1 p5)::(jn 71 ((V.sl 35 p77)::((V.sc (.int .i64 p78))::((V.sc (.int .i64 p79))::(jn 24 []))))))),(gn 104 [])⟩
def zaJ (p5 p77:List (List V)) (p78 p79:Int) (p91:List (List V)) (p92 p93:Int):St:=⟨(jn 5 ((V.gs 1 p5)::(jn 71 ((V.sl 35 p77)::((V.sc (.int .i64 p78))::((V.sc (.int .i64 p79))::(jn 11 ((V.sl 1 p91)::((V.sc (.int .i64 p92))::((V.sc (.int .i64 p93))::(jn 10 []))))))))))),(gn 104 [])⟩
def zg4 (p5:List (List V)):St:=⟨(jn 5 ((V.gs 1 p5)::(jn 98 []))),(gn 104 [])⟩
def zlc (p5 p77:List (List V)) (p78 p79:Int):St:=⟨(jn 5 ((V.gs 1 p5)::(jn 71 ((V.sl 35 p77)::((V.sc (.int .i64 p78))::((V.sc (.int .i64 p79))::(jn 24 []))))))),(gn 104 [])⟩
abbrev zm3 (β:Type):Type:=Bool→List (List V)→List (List V)→Int→Int→List V→Option β
abbrev zk5 (β:Type):Type:=Bool→List (List V)→List (List V)→Int→Int→List V→Option β
abbrev zd6 (β:Type):Type:=List (List V)→List (List V)→Int→Int→List (List V)→Int→Int→Option β
def zqs {β:Type} (zb:zj) (yb:yj) (xe:zF) (zc:yl) (xb:xk) (L:Nat) (p0:List V) (p1:Bool) (k_hbbbaba:zm3 β):Option β :=
 cI .u32 p0 0 fun v0 =>
 zb β L ([]:List (List V)) v0 (fun v1 =>
 cLd 35 p0 1 fun v2 =>
 lt (IntKind.wrap .u64 ((List.length v2:Nat):Int)) fun x3 =>
 yb β L ([]:List (List V)) x3 (fun v4 =>
 chk ((List.length v1+List.length v4) * 1≤zk∧List.length v1+List.length v4≤zk) (
 lt (v1++v4) fun l5 =>
 cLd 35 p0 1 fun v6 =>
 k_hbbbaba p1 l5 v6 ((List.length v6:Nat):Int) (0:Int) p0)))
theorem zzw {β:Type} (zb:zj) (yb:yj) (xe:zF) (zc:yl) (xb:xk) (L:Nat) (p0:List V) (p1:Bool) (k:KK β):xv yC (zC zb yb xe zc xb L) L zaQ [(V.agg p0),(V.sc (.bool p1))] [] k=zqs zb yb xe zc xb L p0 p1 (fun p1 p5 p25 p26 p27 b2=>xD (xj yC (zC zb yb xe zc xb L) 0 L zc5) zfs L (zdN p1 p5 p25 p26 p27 b2) (xu 0 (zQ (xj yC (zC zb yb xe zc xb L) 0 L zg7) (zW 0 (CF.res zaQ) k)))):=by kernel_rfl
def ziC {β:Type} (zb:zj) (yb:yj) (xe:zF) (zc:yl) (xb:xk) (L:Nat) (p1:Bool) (p5 p25:List (List V)) (p26 p27:Int) (b2:List V) (k_hbbbaba:zm3 β) (k_x0:Bool→List (List V)→List V→Option β):Option β :=
 ifb (decide (p27 < p26)) (
 idx p25 p27 fun c7 =>
 chk ((List.length (List.take 35 c7))=35∧0+35≤35) (
 lt (zl (List.replicate 32 (V.sc (.int .u8 (0:Int)))++[(V.sc (.int .u32 (0:Int))),(V.sc (.int .u32 (0:Int))),(V.gs 1 ([]:List (List V)))]) 0 (List.take 35 c7)) fun r8 =>
 chk (0+33≤(List.length r8)) (
 xe β L (List.take 33 r8) (fun v9 =>
 chk ((List.length p5+List.length v9) * 1≤zk∧List.length p5+List.length v9≤zk) (
 lt (p5++v9) fun l10 =>
 cI .u32 r8 33 fun v11 =>
 zb β L ([]:List (List V)) v11 (fun v12 =>
 chk ((List.length l10+List.length v12) * 1≤zk∧List.length l10+List.length v12≤zk) (
 lt (l10++v12) fun l13 =>
 lt (IntKind.wrap .i64 ((p27:Int)+(1:Int))) fun x14 =>
 k_hbbbaba p1 l13 p25 p26 x14 b2))))))) (
 k_x0 p1 p5 b2)
theorem zsK {β:Type} (zb:zj) (yb:yj) (xe:zF) (zc:yl) (xb:xk) (L:Nat) (p1:Bool) (p5 p25:List (List V)) (p26 p27:Int) (b2:List V) (X:St→Option β) (K:KT β):xj yC (zC zb yb xe zc xb L) 0 L zc5 (zdN p1 p5 p25 p26 p27 b2) (zah zfs X K)=ziC zb yb xe zc xb L p1 p5 p25 p26 p27 b2 (fun p1 p5 p25 p26 p27 b2=>X (zdN p1 p5 p25 p26 p27 b2)) (fun p1 p5 b2=>K (.exit 0) (zg6 p1 p5 b2)):=by kernel_rfl
def zgN {β:Type} (zb:zj) (yb:yj) (xe:zF) (zc:yl) (xb:xk) (L:Nat) (p1:Bool) (p5:List (List V)) (b2:List V) (k_hbbbbbaba:zk5 β):Option β :=
 cLd 2 b2 2 fun v15 =>
 lt (IntKind.wrap .u64 ((List.length v15:Nat):Int)) fun x16 =>
 yb β L ([]:List (List V)) x16 (fun v17 =>
 chk ((List.length p5+List.length v17) * 1≤zk∧List.length p5+List.length v17≤zk) (
 lt (p5++v17) fun l18 =>
 cLd 2 b2 2 fun v19 =>
 k_hbbbbbaba p1 l18 v19 ((List.length v19:Nat):Int) (0:Int) b2))
theorem zqy {β:Type} (zb:zj) (yb:yj) (xe:zF) (zc:yl) (xb:xk) (L:Nat) (p1:Bool) (p5:List (List V)) (b2:List V) (k:KK β):(xu 0 (zQ (xj yC (zC zb yb xe zc xb L) 0 L zg7) (zW 0 (CF.res zaQ) k))) (.exit 0) (zg6 p1 p5 b2)=zgN zb yb xe zc xb L p1 p5 b2 (fun p1 p5 p50 p51 p52 b2=>xD (xj yC (zC zb yb xe zc xb L) 0 L zcg) zer L (zcX p1 p5 p50 p51 p52 b2) (xu 2 (zQ (xj yC (zC zb yb xe zc xb L) 0 L zfx) (zW 0 (CF.res zaQ) k)))):=by kernel_rfl
def zgP {β:Type} (zb:zj) (yb:yj) (xe:zF) (zc:yl) (xb:xk) (L:Nat) (p1:Bool) (p5 p50:List (List V)) (p51 p52:Int) (b2:List V) (k_hbbbbbaba:zk5 β) (k_x2:Bool→List (List V)→List V→Option β):Option β :=
 ifb (decide (p52 < p51)) (
 idx p50 p52 fun c20 =>
 chk ((List.length (List.take 2 c20))=2∧0+2≤2) (
 lt (zl [(V.sc (.int .i64 (0:Int))),(V.gs 1 ([]:List (List V)))] 0 (List.take 2 c20)) fun r21 =>
 cI .i64 r21 0 fun v22 =>
 lt (IntKind.wrap .u64 v22) fun x23 =>
 zc β L ([]:List (List V)) x23 (fun v24 =>
 chk ((List.length p5+List.length v24) * 1≤zk∧List.length p5+List.length v24≤zk) (
 lt (p5++v24) fun l25 =>
 cLd 1 r21 1 fun v26 =>
 xb β L ([]:List (List V)) v26 (fun v27 =>
 chk ((List.length l25+List.length v27) * 1≤zk∧List.length l25+List.length v27≤zk) (
 lt (l25++v27) fun l28 =>
 lt (IntKind.wrap .i64 ((p52:Int)+(1:Int))) fun x29 =>
 k_hbbbbbaba p1 l28 p50 p51 x29 b2)))))) (
 k_x2 p1 p5 b2)
theorem zqw {β:Type} (zb:zj) (yb:yj) (xe:zF) (zc:yl) (xb:xk) (L:Nat) (p1:Bool) (p5 p50:List (List V)) (p51 p52:Int) (b2:List V) (X:St→Option β) (K:KT β):xj yC (zC zb yb xe zc xb L) 0 L zcg (zcX p1 p5 p50 p51 p52 b2) (zah zer X K)=zgP zb yb xe zc xb L p1 p5 p50 p51 p52 b2 (fun p1 p5 p50 p51 p52 b2=>X (zcX p1 p5 p50 p51 p52 b2)) (fun p1 p5 b2=>K (.exit 2) (zgZ p1 p5 b2)):=by kernel_rfl
def zfQ {β:Type} (zb:zj) (yb:yj) (xe:zF) (zc:yl) (xb:xk) (L:Nat) (p1:Bool) (p5:List (List V)) (b2:List V) (k_fin:List (List V)→Option β) (k_hbbbbbbbbaba:List (List V)→List (List V)→Int→Int→Option β):Option β :=
 cI .u32 b2 3 fun v30 =>
 zb β L ([]:List (List V)) v30 (fun v31 =>
 chk ((List.length p5+List.length v31) * 1≤zk∧List.length p5+List.length v31≤zk) (
 lt (p5++v31) fun l32 =>
 ifb (!p1) (
 k_fin l32) (
 cLd 35 b2 1 fun v33 =>
 k_hbbbbbbbbaba l32 v33 ((List.length v33:Nat):Int) (0:Int))))
theorem zoN {β:Type} (zb:zj) (yb:yj) (xe:zF) (zc:yl) (xb:xk) (L:Nat) (p1:Bool) (p5:List (List V)) (b2:List V) (k:KK β):(xu 2 (zQ (xj yC (zC zb yb xe zc xb L) 0 L zfx) (zW 0 (CF.res zaQ) k))) (.exit 2) (zgZ p1 p5 b2)=zfQ zb yb xe zc xb L p1 p5 b2 (fun p0=>k (V.gs 1 p0) []) (fun p5 p77 p78 p79=>xD (xj yC (zC zb yb xe zc xb L) 0 L zaV) zaz L (zaC p5 p77 p78 p79) (xu 4 (zQ (xj yC (zC zb yb xe zc xb L) 0 L zgj) (zW 0 (CF.res zaQ) k)))):=by kernel_rfl
def zfo {β:Type} (zb:zj) (yb:yj) (xe:zF) (zc:yl) (xb:xk) (L:Nat) (p5 p77:List (List V)) (p78 p79:Int) (k_hbbbbbbbbabaabbaabbba:zd6 β) (k_x4:List (List V)→Option β):Option β :=
 ifb (decide (p79 < p78)) (
 idx p77 p79 fun c34 =>
 chk ((List.length (List.take 35 c34))=35∧0+35≤35) (
 lt (zl (List.replicate 32 (V.sc (.int .u8 (0:Int)))++[(V.sc (.int .u32 (0:Int))),(V.sc (.int .u32 (0:Int))),(V.gs 1 ([]:List (List V)))]) 0 (List.take 35 c34)) fun r35 =>
 cLd 1 r35 34 fun v36 =>
 lt (IntKind.wrap .u64 ((List.length v36:Nat):Int)) fun x37 =>
 yb β L ([]:List (List V)) x37 (fun v38 =>
 chk ((List.length p5+List.length v38) * 1≤zk∧List.length p5+List.length v38≤zk) (
 lt (p5++v38) fun l39 =>
 cLd 1 r35 34 fun v40 =>
 k_hbbbbbbbbabaabbaabbba l39 p77 p78 p79 v40 ((List.length v40:Nat):Int) (0:Int))))) (
 k_x4 p5)
theorem znZ {β:Type} (zb:zj) (yb:yj) (xe:zF) (zc:yl) (xb:xk) (L:Nat) (p5 p77:List (List V)) (p78 p79:Int) (X:St→Option β) (K:KT β):xj yC (zC zb yb xe zc xb L) 0 L zaV (zaC p5 p77 p78 p79) (zah zaz X K)=zfo zb yb xe zc xb L p5 p77 p78 p79 (fun p5 p77 p78 p79 p91 p92 p93=>xD (xj yC (zC zb yb xe zc xb L) 0 L zaq) zba L (zaJ p5 p77 p78 p79 p91 p92 p93) (xu 6 (xu 5 (zQ (xj yC (zC zb yb xe zc xb L) 0 L zdq) (zah zaz X K))))) (fun p5=>K (.exit 4) (zg4 p5)):=by kernel_rfl
def zd7 {β:Type} (zb:zj) (yb:yj) (xe:zF) (zc:yl) (xb:xk) (L:Nat) (p5:List (List V)) (k_fin:List (List V)→Option β):Option β :=
 k_fin p5
theorem zmP {β:Type} (zb:zj) (yb:yj) (xe:zF) (zc:yl) (xb:xk) (L:Nat) (p5:List (List V)) (k:KK β):(xu 4 (zQ (xj yC (zC zb yb xe zc xb L) 0 L zgj) (zW 0 (CF.res zaQ) k))) (.exit 4) (zg4 p5)=zd7 zb yb xe zc xb L p5 (fun p0=>k (V.gs 1 p0) []):=by kernel_rfl
def zce {β:Type} (zb:zj) (yb:yj) (xe:zF) (zc:yl) (xb:xk) (L:Nat) (p5 p77:List (List V)) (p78 p79:Int) (p91:List (List V)) (p92 p93:Int) (k_hbbbbbbbbabaabbaabbba:zd6 β) (k_x6:List (List V)→List (List V)→Int→Int→Option β):Option β :=
 ifb (decide (p93 < p92)) (
 idx p91 p93 fun c41 =>
 cL 1 c41 0 fun v42 =>
 xb β L ([]:List (List V)) v42 (fun v43 =>
 chk ((List.length p5+List.length v43) * 1≤zk∧List.length p5+List.length v43≤zk) (
 lt (p5++v43) fun l44 =>
 lt (IntKind.wrap .i64 ((p93:Int)+(1:Int))) fun x45 =>
 k_hbbbbbbbbabaabbaabbba l44 p77 p78 p79 p91 p92 x45))) (
 k_x6 p5 p77 p78 p79)
theorem ziu {β:Type} (zb:zj) (yb:yj) (xe:zF) (zc:yl) (xb:xk) (L:Nat) (p5 p77:List (List V)) (p78 p79:Int) (p91:List (List V)) (p92 p93:Int) (X:St→Option β) (K:KT β):xj yC (zC zb yb xe zc xb L) 0 L zaq (zaJ p5 p77 p78 p79 p91 p92 p93) (zah zba X K)=zce zb yb xe zc xb L p5 p77 p78 p79 p91 p92 p93 (fun p5 p77 p78 p79 p91 p92 p93=>X (zaJ p5 p77 p78 p79 p91 p92 p93)) (fun p5 p77 p78 p79=>K (.exit 6) (zlc p5 p77 p78 p79)):=by kernel_rfl
def zbX {β:Type} (zb:zj) (yb:yj) (xe:zF) (zc:yl) (xb:xk) (L:Nat) (p5 p77:List (List V)) (p78 p79:Int) (k_hbbbbbbbbaba:List (List V)→List (List V)→Int→Int→Option β):Option β :=
 lt (IntKind.wrap .i64 ((p79:Int)+(1:Int))) fun x46 =>
 k_hbbbbbbbbaba p5 p77 p78 x46
theorem zhd {β:Type} (zb:zj) (yb:yj) (xe:zF) (zc:yl) (xb:xk) (L:Nat) (p5 p77:List (List V)) (p78 p79:Int) (X:St→Option β) (K:KT β):(xu 6 (xu 5 (zQ (xj yC (zC zb yb xe zc xb L) 0 L zdq) (zah zaz X K)))) (.exit 6) (zlc p5 p77 p78 p79)=zbX zb yb xe zc xb L p5 p77 p78 p79 (fun p5 p77 p78 p79=>X (zaC p5 p77 p78 p79)):=by kernel_rfl
def zdB {β:Type} (zb:zj) (yb:yj) (xe:zF) (zc:yl) (xb:xk) (L:Nat) (k_x0:Bool→List (List V)→List V→Option β):Nat→Bool→List (List V)→List (List V)→Int→Int→List V→Option β
 | 0,_,_,_,_,_,_=>none
 | n+1,p1,p5,p25,p26,p27,b2=>ziC zb yb xe zc xb L p1 p5 p25 p26 p27 b2 (fun p1 p5 p25 p26 p27 b2=>zdB zb yb xe zc xb L k_x0 n p1 p5 p25 p26 p27 b2) k_x0
theorem zk4 {β:Type} (zb:zj) (yb:yj) (xe:zF) (zc:yl) (xb:xk) (L:Nat) (K:KT β):∀ (n:Nat) (p1:Bool) (p5 p25:List (List V)) (p26 p27:Int) (b2:List V),xD (xj yC (zC zb yb xe zc xb L) 0 L zc5) zfs n (zdN p1 p5 p25 p26 p27 b2) K=zdB zb yb xe zc xb L (fun p1 p5 b2=>K (.exit 0) (zg6 p1 p5 b2)) n p1 p5 p25 p26 p27 b2:=by
 intro n
 induction n with
 | zero=>intros; rfl
 | succ n ih =>
  intro p1 p5 p25 p26 p27 b2
  refine (zsK zb yb xe zc xb L p1 p5 p25 p26 p27 b2 (fun σ=>xD (xj yC (zC zb yb xe zc xb L) 0 L zc5) zfs n σ K) K).trans ?_
  simp only [ih]
  rfl
def zcG {β:Type} (zb:zj) (yb:yj) (xe:zF) (zc:yl) (xb:xk) (L:Nat) (k_x2:Bool→List (List V)→List V→Option β):Nat→Bool→List (List V)→List (List V)→Int→Int→List V→Option β
 | 0,_,_,_,_,_,_=>none
 | n+1,p1,p5,p50,p51,p52,b2=>zgP zb yb xe zc xb L p1 p5 p50 p51 p52 b2 (fun p1 p5 p50 p51 p52 b2=>zcG zb yb xe zc xb L k_x2 n p1 p5 p50 p51 p52 b2) k_x2
theorem ziH {β:Type} (zb:zj) (yb:yj) (xe:zF) (zc:yl) (xb:xk) (L:Nat) (K:KT β):∀ (n:Nat) (p1:Bool) (p5 p50:List (List V)) (p51 p52:Int) (b2:List V),xD (xj yC (zC zb yb xe zc xb L) 0 L zcg) zer n (zcX p1 p5 p50 p51 p52 b2) K=zcG zb yb xe zc xb L (fun p1 p5 b2=>K (.exit 2) (zgZ p1 p5 b2)) n p1 p5 p50 p51 p52 b2:=by
 intro n
 induction n with
 | zero=>intros; rfl
 | succ n ih =>
  intro p1 p5 p50 p51 p52 b2
  refine (zqw zb yb xe zc xb L p1 p5 p50 p51 p52 b2 (fun σ=>xD (xj yC (zC zb yb xe zc xb L) 0 L zcg) zer n σ K) K).trans ?_
  simp only [ih]
  rfl
def zas {β:Type} (zb:zj) (yb:yj) (xe:zF) (zc:yl) (xb:xk) (L:Nat) (k_x6:List (List V)→List (List V)→Int→Int→Option β):Nat→List (List V)→List (List V)→Int→Int→List (List V)→Int→Int→Option β
 | 0,_,_,_,_,_,_,_=>none
 | n+1,p5,p77,p78,p79,p91,p92,p93=>zce zb yb xe zc xb L p5 p77 p78 p79 p91 p92 p93 (fun p5 p77 p78 p79 p91 p92 p93=>zas zb yb xe zc xb L k_x6 n p5 p77 p78 p79 p91 p92 p93) k_x6
theorem zdu {β:Type} (zb:zj) (yb:yj) (xe:zF) (zc:yl) (xb:xk) (L:Nat) (K:KT β):∀ (n:Nat) (p5 p77:List (List V)) (p78 p79:Int) (p91:List (List V)) (p92 p93:Int),xD (xj yC (zC zb yb xe zc xb L) 0 L zaq) zba n (zaJ p5 p77 p78 p79 p91 p92 p93) K=zas zb yb xe zc xb L (fun p5 p77 p78 p79=>K (.exit 6) (zlc p5 p77 p78 p79)) n p5 p77 p78 p79 p91 p92 p93:=by
 intro n
 induction n with
 | zero=>intros; rfl
 | succ n ih =>
  intro p5 p77 p78 p79 p91 p92 p93
  refine (ziu zb yb xe zc xb L p5 p77 p78 p79 p91 p92 p93 (fun σ=>xD (xj yC (zC zb yb xe zc xb L) 0 L zaq) zba n σ K) K).trans ?_
  simp only [ih]
  rfl
def zcD {β:Type} (zb:zj) (yb:yj) (xe:zF) (zc:yl) (xb:xk) (L:Nat) (p5 p77:List (List V)) (p78 p79:Int) (k_x4:List (List V)→Option β) (k_hbbbbbbbbaba:List (List V)→List (List V)→Int→Int→Option β):Option β :=
 zfo zb yb xe zc xb L p5 p77 p78 p79 (fun p5 p77 p78 p79 p91 p92 p93=>zas zb yb xe zc xb L (fun p5 p77 p78 p79=>zbX zb yb xe zc xb L p5 p77 p78 p79 k_hbbbbbbbbaba) L p5 p77 p78 p79 p91 p92 p93) k_x4
theorem zm8 {β:Type} (zb:zj) (yb:yj) (xe:zF) (zc:yl) (xb:xk) (L:Nat) (p5 p77:List (List V)) (p78 p79:Int) (X:St→Option β) (K:KT β):xj yC (zC zb yb xe zc xb L) 0 L zaV (zaC p5 p77 p78 p79) (zah zaz X K)=zcD zb yb xe zc xb L p5 p77 p78 p79 (fun p5=>K (.exit 4) (zg4 p5)) (fun p5 p77 p78 p79=>X (zaC p5 p77 p78 p79)):=by
 refine (znZ zb yb xe zc xb L p5 p77 p78 p79 X K).trans ?_
 unfold zcD
 first
  | (simp only [zdu,zhd]; done)
  | (simp only [zdu]; rfl)
def zbW {β:Type} (zb:zj) (yb:yj) (xe:zF) (zc:yl) (xb:xk) (L:Nat) (k_x4:List (List V)→Option β):Nat→List (List V)→List (List V)→Int→Int→Option β
 | 0,_,_,_,_=>none
 | n+1,p5,p77,p78,p79=>zcD zb yb xe zc xb L p5 p77 p78 p79 k_x4 (fun p5 p77 p78 p79=>zbW zb yb xe zc xb L k_x4 n p5 p77 p78 p79)
theorem zgV {β:Type} (zb:zj) (yb:yj) (xe:zF) (zc:yl) (xb:xk) (L:Nat) (K:KT β):∀ (n:Nat) (p5 p77:List (List V)) (p78 p79:Int),xD (xj yC (zC zb yb xe zc xb L) 0 L zaV) zaz n (zaC p5 p77 p78 p79) K=zbW zb yb xe zc xb L (fun p5=>K (.exit 4) (zg4 p5)) n p5 p77 p78 p79:=by
 intro n
 induction n with
 | zero=>intros; rfl
 | succ n ih =>
  intro p5 p77 p78 p79
  refine (zm8 zb yb xe zc xb L p5 p77 p78 p79 (fun σ=>xD (xj yC (zC zb yb xe zc xb L) 0 L zaV) zaz n σ K) K).trans ?_
  simp only [ih]
  rfl
def zcV {β:Type} (zb:zj) (yb:yj) (xe:zF) (zc:yl) (xb:xk) (L:Nat) (p1:Bool) (p5:List (List V)) (b2:List V) (k_fin:List (List V)→Option β):Option β :=
 zfQ zb yb xe zc xb L p1 p5 b2 k_fin (fun p5 p77 p78 p79=>zbW zb yb xe zc xb L (fun p5=>zd7 zb yb xe zc xb L p5 k_fin) L p5 p77 p78 p79)
theorem zn2 {β:Type} (zb:zj) (yb:yj) (xe:zF) (zc:yl) (xb:xk) (L:Nat) (p1:Bool) (p5:List (List V)) (b2:List V) (k:KK β):(xu 2 (zQ (xj yC (zC zb yb xe zc xb L) 0 L zfx) (zW 0 (CF.res zaQ) k))) (.exit 2) (zgZ p1 p5 b2)=zcV zb yb xe zc xb L p1 p5 b2 (fun p0=>k (V.gs 1 p0) []):=by
 refine (zoN zb yb xe zc xb L p1 p5 b2 k).trans ?_
 unfold zcV
 first
  | (simp only [zgV,zmP]; done)
  | (simp only [zgV]; rfl)
def zdC {β:Type} (zb:zj) (yb:yj) (xe:zF) (zc:yl) (xb:xk) (L:Nat) (p1:Bool) (p5:List (List V)) (b2:List V) (k_fin:List (List V)→Option β):Option β :=
 zgN zb yb xe zc xb L p1 p5 b2 (fun p1 p5 p50 p51 p52 b2=>zcG zb yb xe zc xb L (fun p1 p5 b2=>zcV zb yb xe zc xb L p1 p5 b2 k_fin) L p1 p5 p50 p51 p52 b2)
theorem zpp {β:Type} (zb:zj) (yb:yj) (xe:zF) (zc:yl) (xb:xk) (L:Nat) (p1:Bool) (p5:List (List V)) (b2:List V) (k:KK β):(xu 0 (zQ (xj yC (zC zb yb xe zc xb L) 0 L zg7) (zW 0 (CF.res zaQ) k))) (.exit 0) (zg6 p1 p5 b2)=zdC zb yb xe zc xb L p1 p5 b2 (fun p0=>k (V.gs 1 p0) []):=by
 refine (zqy zb yb xe zc xb L p1 p5 b2 k).trans ?_
 unfold zdC
 first
  | (simp only [ziH,zn2]; done)
  | (simp only [ziH]; rfl)
def zmo {β:Type} (zb:zj) (yb:yj) (xe:zF) (zc:yl) (xb:xk) (L:Nat) (p0:List V) (p1:Bool) (k_fin:List (List V)→Option β):Option β :=
 zqs zb yb xe zc xb L p0 p1 (fun p1 p5 p25 p26 p27 b2=>zdB zb yb xe zc xb L (fun p1 p5 b2=>zdC zb yb xe zc xb L p1 p5 b2 k_fin) L p1 p5 p25 p26 p27 b2)
theorem zy9 {β:Type} (zb:zj) (yb:yj) (xe:zF) (zc:yl) (xb:xk) (L:Nat) (p0:List V) (p1:Bool) (k:KK β):xv yC (zC zb yb xe zc xb L) L zaQ [(V.agg p0),(V.sc (.bool p1))] [] k=zmo zb yb xe zc xb L p0 p1 (fun p0=>k (V.gs 1 p0) []):=by
 refine (zzw zb yb xe zc xb L p0 p1 k).trans ?_
 unfold zmo
 first
  | (simp only [zk4,zpp]; done)
  | (simp only [zk4]; rfl)
abbrev zw:=∀ (β:Type),Nat→List V→Bool→(List (List V)→Option β)→Option β
def ze (β:Type) (L:Nat) (p0:List V) (p1:Bool) (k_fin:List (List V)→Option β):Option β:=zmo zb yb xe zc xb L p0 p1 k_fin
def zgp (ze:zw) (L:Nat) (β:Type) (args:List V) (bor:Bor) (k:KK β):Option β:=match args,bor with
 | [a0,a1],[]=>aG a0 fun p0=>aB a1 fun p1=>ze β L p0 p1 (fun p0=>k (V.gs 1 p0) [])
 | _,_=>none
theorem zyT (L:Nat) (β:Type) (args:List V) (bor:Bor) (k:KK β) (r:β) (h:zgp ze L β args bor k=some r):xv yC (zC zb yb xe zc xb L) L zaQ args bor k=some r:=by
 unfold zgp at h
 split at h
 ·have q:=zec h; clear h; obtain ⟨p0,rfl,h⟩:=q
  have q:=zph h; clear h; obtain ⟨p1,rfl,h⟩:=q
  exact (zy9 zb yb xe zc xb L p0 p1 k).trans h
 ·cases h
def zbn:CC:=(.seq (.reg [oo 51 (.bin .lss (tq 50) (tq 49))])
 (.seq (.cond (tq 51)
 .skip
 (.seq (.mask (bl 962072674306 63) (bl 9187343239835811499 63))
 (.exit 4)))
 (.seq (.block 5 (.seq (.reg [oo 52 (.indexAddrS 1 (tq 48) (tq 50)),
   oo 53 (.load false 1 (tq 52) false),
   oo 8 (.move (tq 53) false)])
 (.seq (.reg [oo 54 (.move (tq 8) false),
   oo 55 (.lenS (tq 54)),
   oo 56 (.bin .gtr (tq 55) (.const (.sc (.int .i64 520))))])
 (.cond (tq 56)
 (.seq (.reg [oo 2 (.move (.const (.sc (.bool false))) false)])
 (.seq (.mask (bl 4 63) (bl 9186745105510301357 63))
 .ret))
 .skip))))
 (.reg [oo 57 (.bin .add (tq 50) (.const (.sc (.int .i64 1)))),
   oo 50 (.move (tq 57) false)]))))
def zeB:CC:=(.reg [oo 58 (.bin .add (tq 39) (.const (.sc (.int .i64 1)))),
   oo 39 (.move (tq 58) false)])
def zcR:CC:=(.seq (.reg [oo 40 (.bin .lss (tq 39) (tq 38))])
 (.seq (.cond (tq 40)
 .skip
 (.seq (.mask (bl 2 63) (bl 9186745105510301355 63))
 (.exit 2)))
 (.seq (.block 3 (.seq (.reg [oo 41 (.indexAddrS 35 (tq 37) (tq 39)),
   oo 42 (.load true 35 (tq 41) false),
   oo 6 (.alloc true (rp 32 (.sc (.int .u8 0)) (rp 2 (.sc (.int .u32 0)) (rp 1 (.gs 1 []) [])))),
   oz (.store 35 (tq 6) (tq 42))])
 (.seq (.seq (.reg [oo 43 (.fieldAddr 34 (tq 6)),
   oo 44 (.load false 1 (tq 43) false),
   oo 45 (.lenS (tq 44)),
   oo 46 (.bin .gtr (tq 45) (.const (.sc (.int .i64 32))))])
 (.cond (tq 46)
 (.seq (.reg [oo 2 (.move (.const (.sc (.bool false))) false)])
 (.seq (.mask (bl 4 63) (bl 9186745105510301357 63))
 .ret))
 .skip))
 (.seq (.reg [oo 47 (.fieldAddr 34 (tq 6)),
   oo 48 (.load false 1 (tq 47) false),
   oo 49 (.lenS (tq 48)),
   oo 50 (.move (.const (.sc (.int .i64 0))) false)])
 (.block 4 (.loop (bl 1971286909648898 63) (bl 9187343239835811499 63)
 zbn))))))
 zeB)))
def zeL:CC:=(.seq (.reg [oo 23 (.bin .lss (tq 22) (tq 21))])
 (.seq (.cond (tq 23)
 .skip
 (.seq (.mask (bl 2 63) (bl 9223372032559808427 63))
 (.exit 0)))
 (.seq (.block 1 (.seq (.reg [oo 24 (.indexAddrS 2 (tq 20) (tq 22)),
   oo 25 (.load true 2 (tq 24) false),
   oo 4 (.alloc true [(.sc (.int .i64 0)),(.gs 1 [])]),
   oz (.store 2 (tq 4) (tq 25))])
 (.seq (.reg [oo 26 (.fieldAddr 0 (tq 4)),
   oo 27 (.load false 1 (tq 26) false),
   oo 28 (.bin .lss (tq 27) (.const (.sc (.int .i64 0)))),
   oo 29 (.move (tq 28) false),
   ⟨(some 30),false,(some (29,false)),.fieldAddr 1 (tq 4)⟩,
   ⟨(some 31),false,(some (29,false)),.load false 1 (tq 30) false⟩,
   ⟨(some 32),false,(some (29,false)),.lenS (tq 31)⟩,
   ⟨(some 33),false,(some (29,false)),.bin .gtr (tq 32) (.const (.sc (.int .i64 520)))⟩,
   oo 34 (.pick (tq 29) (.const (.sc (.bool true))) (tq 33))])
 (.cond (tq 34)
 (.seq (.reg [oo 2 (.move (.const (.sc (.bool false))) false)])
 (.seq (.mask (bl 4 63) (bl 9223372032559808429 63))
 .ret))
 .skip))))
 (.reg [oo 35 (.bin .add (tq 22) (.const (.sc (.int .i64 1)))),
   oo 22 (.move (tq 35) false)]))))
def zjg:CC:=(.seq (.reg [oo 59 (.load true 4 (tq 1) false),
   oo 60 (.call 147 [((tq 59),1),((.const (.sc (.bool true))),0)] []),
   oo 61 (.lenS (tq 60)),
   oo 62 (.bin .leq (tq 61) (.const (.sc (.int .i64 20000)))),
   oo 2 (.move (tq 62) false)])
 .ret)
def zg9:CC:=(.seq (.seq (.reg [oo 36 (.fieldAddr 1 (tq 1)),
   oo 37 (.load false 1 (tq 36) false),
   oo 38 (.lenS (tq 37)),
   oo 39 (.move (.const (.sc (.int .i64 0))) false)])
 (.block 2 (.loop (bl 962072674306 63) (bl 9186745105510301355 63)
 zcR)))
 zjg)
def zb0:CF:=⟨63,[.tmp 2],
 (.seq (.reg [oo 1 (.box true (tq 0)),
   oo 2 (.move (.const (.sc (.bool false))) false)])
 (.seq (.seq (.reg [oo 9 (.fieldAddr 1 (tq 1)),
   oo 10 (.load false 1 (tq 9) false),
   oo 11 (.lenS (tq 10)),
   oo 12 (.bin .gtr (tq 11) (.const (.sc (.int .i64 64)))),
   oo 13 (.move (tq 12) false),
   ⟨(some 14),false,(some (13,false)),.fieldAddr 2 (tq 1)⟩,
   ⟨(some 15),false,(some (13,false)),.load false 1 (tq 14) false⟩,
   ⟨(some 16),false,(some (13,false)),.lenS (tq 15)⟩,
   ⟨(some 17),false,(some (13,false)),.bin .gtr (tq 16) (.const (.sc (.int .i64 64)))⟩,
   oo 18 (.pick (tq 13) (.const (.sc (.bool true))) (tq 17))])
 (.cond (tq 18)
 (.seq (.reg [oo 2 (.move (.const (.sc (.bool false))) false)])
 .ret)
 .skip))
 (.seq (.seq (.reg [oo 19 (.fieldAddr 2 (tq 1)),
   oo 20 (.load false 1 (tq 19) false),
   oo 21 (.lenS (tq 20)),
   oo 22 (.move (.const (.sc (.int .i64 0))) false)])
 (.block 0 (.loop (bl 7340034 63) (bl 9223372032559808427 63)
 zeL)))
 zg9)))⟩
def zuX:Hint:=⟨[(0,0),(5,2),(11,2)],[],[none,none,none,some ((bl 7340034 63),(bl 9223372032559808427 63)),none,some ((bl 2 63),(bl 9223372032559808427 63)),none,none,some ((bl 4 63),(bl 9223372032559808429 63)),none,some ((bl 962072674306 63),(bl 9186745105510301355 63)),none,some ((bl 2 63),(bl 9186745105510301355 63)),none,none,some ((bl 4 63),(bl 9186745105510301357 63)),none,some ((bl 1971286909648898 63),(bl 9187343239835811499 63)),none,some ((bl 962072674306 63),(bl 9187343239835811499 63)),none,none,some ((bl 4 63),(bl 9186745105510301357 63)),none],[],[],false,false,[]⟩
def zR:Nat→Sh:=yL [(10,(.sl 35)),(15,(.sl 2)),(20,(.sl 2)),(27,(.int .i64)),(31,(.sl 1)),(37,(.sl 35)),(44,(.sl 1)),(48,(.sl 1)),(53,(.sl 1))]
def yQ (ze:zw) (L:Nat):CBC:=(zt 147 (zgp ze L) noC)
def zib:St→St:=zV 0 (bl 7340034 63) (bl 9223372032559808427 63)
def zbN:St→St:=zV 0 (bl 962072674306 63) (bl 9186745105510301355 63)
def zcl:St→St:=zV 0 (bl 1971286909648898 63) (bl 9187343239835811499 63)
def zfw (p20:List (List V)) (p21 p22:Int) (b1:List V):St:=⟨(jn 1 ((V.ptr 1 0)::(jn 18 ((V.sl 2 p20)::((V.sc (.int .i64 p21))::((V.sc (.int .i64 p22))::(jn 40 []))))))),(gn 1 ((.live true b1)::(gn 61 [])))⟩
def zaP (p2:Bool):St:=⟨(jn 2 ((V.sc (.bool p2))::(jn 60 []))),(gn 63 [])⟩
def zjj (b1:List V):St:=⟨(jn 1 ((V.ptr 1 0)::(jn 61 []))),(gn 1 ((.live true b1)::(gn 61 [])))⟩
def zb8 (p37:List (List V)) (p38 p39:Int) (b1:List V):St:=⟨(jn 1 ((V.ptr 1 0)::(jn 35 ((V.sl 35 p37)::((V.sc (.int .i64 p38))::((V.sc (.int .i64 p39))::(jn 23 []))))))),(gn 1 ((.live true b1)::(gn 61 [])))⟩
def zbO (p37:List (List V)) (p38 p39:Int) (p48:List (List V)) (p49 p50:Int) (b1:List V):St:=⟨(jn 1 ((V.ptr 1 0)::(jn 35 ((V.sl 35 p37)::((V.sc (.int .i64 p38))::((V.sc (.int .i64 p39))::(jn 8 ((V.sl 1 p48)::((V.sc (.int .i64 p49))::((V.sc (.int .i64 p50))::(jn 12 []))))))))))),(gn 1 ((.live true b1)::(gn 61 [])))⟩
def zjv (b1:List V):St:=⟨(jn 1 ((V.ptr 1 0)::(jn 61 []))),(gn 1 ((.live true b1)::(gn 61 [])))⟩
def zno (p37:List (List V)) (p38 p39:Int) (b1:List V):St:=⟨(jn 1 ((V.ptr 1 0)::(jn 35 ((V.sl 35 p37)::((V.sc (.int .i64 p38))::((V.sc (.int .i64 p39))::(jn 23 []))))))),(gn 1 ((.live true b1)::(gn 61 [])))⟩
abbrev zg3 (β:Type):Type:=List (List V)→Int→Int→List (List V)→Int→Int→List V→Option β
def zun {β:Type} (ze:zw) (L:Nat) (p0:List V) (k_fin:Bool→Option β) (k_hbbaba:List (List V)→Int→Int→List V→Option β):Option β :=
 cLd 35 p0 1 fun v0 =>
 ifb (decide (((List.length v0:Nat):Int) > (64:Int))) (
 k_fin false) (
 cLd 2 p0 2 fun v1 =>
 ifb (decide (((List.length v1:Nat):Int) > (64:Int))) (
 k_fin false) (
 cLd 2 p0 2 fun v2 =>
 k_hbbaba v2 ((List.length v2:Nat):Int) (0:Int) p0))
theorem zBO {β:Type} (ze:zw) (L:Nat) (p0:List V) (k:KK β):xv zR (yQ ze L) L zb0 [(V.agg p0)] [] k=zun ze L p0 (fun p0=>k (V.sc (.bool p0)) []) (fun p20 p21 p22 b1=>xD (xj zR (yQ ze L) 0 L zeL) zib L (zfw p20 p21 p22 b1) (xu 0 (zQ (xj zR (yQ ze L) 0 L zg9) (zW 0 (CF.res zb0) k)))):=by kernel_rfl
def zmd {β:Type} (ze:zw) (L:Nat) (p20:List (List V)) (p21 p22:Int) (b1:List V) (k_ret:Bool→Option β) (k_hbbaba:List (List V)→Int→Int→List V→Option β) (k_x0:List V→Option β):Option β :=
 ifb (decide (p22 < p21)) (
 idx p20 p22 fun c3 =>
 chk ((List.length (List.take 2 c3))=2∧0+2≤2) (
 lt (zl [(V.sc (.int .i64 (0:Int))),(V.gs 1 ([]:List (List V)))] 0 (List.take 2 c3)) fun r4 =>
 cI .i64 r4 0 fun v5 =>
 ifb (decide (v5 < (0:Int))) (
 k_ret false) (
 cLd 1 r4 1 fun v6 =>
 ifb (decide (((List.length v6:Nat):Int) > (520:Int))) (
 k_ret false) (
 lt (IntKind.wrap .i64 ((p22:Int)+(1:Int))) fun x7 =>
 k_hbbaba p20 p21 x7 b1)))) (
 k_x0 b1)
theorem zv4 {β:Type} (ze:zw) (L:Nat) (p20:List (List V)) (p21 p22:Int) (b1:List V) (X:St→Option β) (K:KT β):xj zR (yQ ze L) 0 L zeL (zfw p20 p21 p22 b1) (zah zib X K)=zmd ze L p20 p21 p22 b1 (fun p2=>K .ret (zaP p2)) (fun p20 p21 p22 b1=>X (zfw p20 p21 p22 b1)) (fun b1=>K (.exit 0) (zjj b1)):=by kernel_rfl
def zik {β:Type} (ze:zw) (L:Nat) (p2:Bool) (k_fin:Bool→Option β):Option β :=
 k_fin p2
theorem ztc {β:Type} (ze:zw) (L:Nat) (p2:Bool) (k:KK β):(xu 0 (zQ (xj zR (yQ ze L) 0 L zg9) (zW 0 (CF.res zb0) k))) .ret (zaP p2)=zik ze L p2 (fun p0=>k (V.sc (.bool p0)) []):=by kernel_rfl
def zjP {β:Type} (ze:zw) (L:Nat) (b1:List V) (k_hbbbaba:List (List V)→Int→Int→List V→Option β):Option β :=
 cLd 35 b1 1 fun v8 =>
 k_hbbbaba v8 ((List.length v8:Nat):Int) (0:Int) b1
theorem ztO {β:Type} (ze:zw) (L:Nat) (b1:List V) (k:KK β):(xu 0 (zQ (xj zR (yQ ze L) 0 L zg9) (zW 0 (CF.res zb0) k))) (.exit 0) (zjj b1)=zjP ze L b1 (fun p37 p38 p39 b1=>xD (xj zR (yQ ze L) 0 L zcR) zbN L (zb8 p37 p38 p39 b1) (xu 2 (zQ (xj zR (yQ ze L) 0 L zjg) (zW 0 (CF.res zb0) k)))):=by kernel_rfl
def zlo {β:Type} (ze:zw) (L:Nat) (p37:List (List V)) (p38 p39:Int) (b1:List V) (k_ret:Bool→Option β) (k_hbbbabaabbaabbba:zg3 β) (k_x2:List V→Option β):Option β :=
 ifb (decide (p39 < p38)) (
 idx p37 p39 fun c9 =>
 chk ((List.length (List.take 35 c9))=35∧0+35≤35) (
 lt (zl (List.replicate 32 (V.sc (.int .u8 (0:Int)))++[(V.sc (.int .u32 (0:Int))),(V.sc (.int .u32 (0:Int))),(V.gs 1 ([]:List (List V)))]) 0 (List.take 35 c9)) fun r10 =>
 cLd 1 r10 34 fun v11 =>
 ifb (decide (((List.length v11:Nat):Int) > (32:Int))) (
 k_ret false) (
 cLd 1 r10 34 fun v12 =>
 k_hbbbabaabbaabbba p37 p38 p39 v12 ((List.length v12:Nat):Int) (0:Int) b1))) (
 k_x2 b1)
theorem zuB {β:Type} (ze:zw) (L:Nat) (p37:List (List V)) (p38 p39:Int) (b1:List V) (X:St→Option β) (K:KT β):xj zR (yQ ze L) 0 L zcR (zb8 p37 p38 p39 b1) (zah zbN X K)=zlo ze L p37 p38 p39 b1 (fun p2=>K .ret (zaP p2)) (fun p37 p38 p39 p48 p49 p50 b1=>xD (xj zR (yQ ze L) 0 L zbn) zcl L (zbO p37 p38 p39 p48 p49 p50 b1) (xu 4 (xu 3 (zQ (xj zR (yQ ze L) 0 L zeB) (zah zbN X K))))) (fun b1=>K (.exit 2) (zjv b1)):=by kernel_rfl
def zhu {β:Type} (ze:zw) (L:Nat) (p2:Bool) (k_fin:Bool→Option β):Option β :=
 k_fin p2
theorem zq2 {β:Type} (ze:zw) (L:Nat) (p2:Bool) (k:KK β):(xu 2 (zQ (xj zR (yQ ze L) 0 L zjg) (zW 0 (CF.res zb0) k))) .ret (zaP p2)=zhu ze L p2 (fun p0=>k (V.sc (.bool p0)) []):=by kernel_rfl
def ziD {β:Type} (ze:zw) (L:Nat) (b1:List V) (k_fin:Bool→Option β):Option β :=
 chk (0+4≤(List.length b1)) (
 ze β L (List.map V.dem (List.take 4 b1)) true (fun v13 =>
 k_fin (decide (((List.length v13:Nat):Int)≤(20000:Int)))))
theorem zta {β:Type} (ze:zw) (L:Nat) (b1:List V) (k:KK β):(xu 2 (zQ (xj zR (yQ ze L) 0 L zjg) (zW 0 (CF.res zb0) k))) (.exit 2) (zjv b1)=ziD ze L b1 (fun p0=>k (V.sc (.bool p0)) []):=by kernel_rfl
def zea {β:Type} (ze:zw) (L:Nat) (p37:List (List V)) (p38 p39:Int) (p48:List (List V)) (p49 p50:Int) (b1:List V) (k_ret:Bool→Option β) (k_hbbbabaabbaabbba:zg3 β) (k_x4:List (List V)→Int→Int→List V→Option β):Option β :=
 ifb (decide (p50 < p49)) (
 idx p48 p50 fun c14 =>
 cL 1 c14 0 fun v15 =>
 ifb (decide (((List.length v15:Nat):Int) > (520:Int))) (
 k_ret false) (
 lt (IntKind.wrap .i64 ((p50:Int)+(1:Int))) fun x16 =>
 k_hbbbabaabbaabbba p37 p38 p39 p48 p49 x16 b1)) (
 k_x4 p37 p38 p39 b1)
theorem zmL {β:Type} (ze:zw) (L:Nat) (p37:List (List V)) (p38 p39:Int) (p48:List (List V)) (p49 p50:Int) (b1:List V) (X:St→Option β) (K:KT β):xj zR (yQ ze L) 0 L zbn (zbO p37 p38 p39 p48 p49 p50 b1) (zah zcl X K)=zea ze L p37 p38 p39 p48 p49 p50 b1 (fun p2=>K .ret (zaP p2)) (fun p37 p38 p39 p48 p49 p50 b1=>X (zbO p37 p38 p39 p48 p49 p50 b1)) (fun p37 p38 p39 b1=>K (.exit 4) (zno p37 p38 p39 b1)):=by kernel_rfl
def zdd {β:Type} (ze:zw) (L:Nat) (p2:Bool) (k_ret:Bool→Option β):Option β :=
 k_ret p2
theorem zlj {β:Type} (ze:zw) (L:Nat) (p2:Bool) (X:St→Option β) (K:KT β):(xu 4 (xu 3 (zQ (xj zR (yQ ze L) 0 L zeB) (zah zbN X K)))) .ret (zaP p2)=zdd ze L p2 (fun p2=>K .ret (zaP p2)):=by kernel_rfl
def zdo {β:Type} (ze:zw) (L:Nat) (p37:List (List V)) (p38 p39:Int) (b1:List V) (k_hbbbaba:List (List V)→Int→Int→List V→Option β):Option β :=
 lt (IntKind.wrap .i64 ((p39:Int)+(1:Int))) fun x17 =>
 k_hbbbaba p37 p38 x17 b1
theorem zlA {β:Type} (ze:zw) (L:Nat) (p37:List (List V)) (p38 p39:Int) (b1:List V) (X:St→Option β) (K:KT β):(xu 4 (xu 3 (zQ (xj zR (yQ ze L) 0 L zeB) (zah zbN X K)))) (.exit 4) (zno p37 p38 p39 b1)=zdo ze L p37 p38 p39 b1 (fun p37 p38 p39 b1=>X (zb8 p37 p38 p39 b1)):=by kernel_rfl
def zfA {β:Type} (ze:zw) (L:Nat) (k_ret:Bool→Option β) (k_x0:List V→Option β):Nat→List (List V)→Int→Int→List V→Option β
 | 0,_,_,_,_=>none
 | n+1,p20,p21,p22,b1=>zmd ze L p20 p21 p22 b1 k_ret (fun p20 p21 p22 b1=>zfA ze L k_ret k_x0 n p20 p21 p22 b1) k_x0
theorem znF {β:Type} (ze:zw) (L:Nat) (K:KT β):∀ (n:Nat) (p20:List (List V)) (p21 p22:Int) (b1:List V),xD (xj zR (yQ ze L) 0 L zeL) zib n (zfw p20 p21 p22 b1) K=zfA ze L (fun p2=>K .ret (zaP p2)) (fun b1=>K (.exit 0) (zjj b1)) n p20 p21 p22 b1:=by
 intro n
 induction n with
 | zero=>intros; rfl
 | succ n ih =>
  intro p20 p21 p22 b1
  refine (zv4 ze L p20 p21 p22 b1 (fun σ=>xD (xj zR (yQ ze L) 0 L zeL) zib n σ K) K).trans ?_
  simp only [ih]
  rfl
def zby {β:Type} (ze:zw) (L:Nat) (k_ret:Bool→Option β) (k_x4:List (List V)→Int→Int→List V→Option β):Nat→List (List V)→Int→Int→List (List V)→Int→Int→List V→Option β
 | 0,_,_,_,_,_,_,_=>none
 | n+1,p37,p38,p39,p48,p49,p50,b1=>zea ze L p37 p38 p39 p48 p49 p50 b1 k_ret (fun p37 p38 p39 p48 p49 p50 b1=>zby ze L k_ret k_x4 n p37 p38 p39 p48 p49 p50 b1) k_x4
theorem zfX {β:Type} (ze:zw) (L:Nat) (K:KT β):∀ (n:Nat) (p37:List (List V)) (p38 p39:Int) (p48:List (List V)) (p49 p50:Int) (b1:List V),xD (xj zR (yQ ze L) 0 L zbn) zcl n (zbO p37 p38 p39 p48 p49 p50 b1) K=zby ze L (fun p2=>K .ret (zaP p2)) (fun p37 p38 p39 b1=>K (.exit 4) (zno p37 p38 p39 b1)) n p37 p38 p39 p48 p49 p50 b1:=by
 intro n
 induction n with
 | zero=>intros; rfl
 | succ n ih =>
  intro p37 p38 p39 p48 p49 p50 b1
  refine (zmL ze L p37 p38 p39 p48 p49 p50 b1 (fun σ=>xD (xj zR (yQ ze L) 0 L zbn) zcl n σ K) K).trans ?_
  simp only [ih]
  rfl
def zgg {β:Type} (ze:zw) (L:Nat) (p37:List (List V)) (p38 p39:Int) (b1:List V) (k_ret:Bool→Option β) (k_x2:List V→Option β) (k_hbbbaba:List (List V)→Int→Int→List V→Option β):Option β :=
 zlo ze L p37 p38 p39 b1 k_ret (fun p37 p38 p39 p48 p49 p50 b1=>zby ze L (fun p2=>zdd ze L p2 k_ret) (fun p37 p38 p39 b1=>zdo ze L p37 p38 p39 b1 k_hbbbaba) L p37 p38 p39 p48 p49 p50 b1) k_x2
theorem ztR {β:Type} (ze:zw) (L:Nat) (p37:List (List V)) (p38 p39:Int) (b1:List V) (X:St→Option β) (K:KT β):xj zR (yQ ze L) 0 L zcR (zb8 p37 p38 p39 b1) (zah zbN X K)=zgg ze L p37 p38 p39 b1 (fun p2=>K .ret (zaP p2)) (fun b1=>K (.exit 2) (zjv b1)) (fun p37 p38 p39 b1=>X (zb8 p37 p38 p39 b1)):=by
 refine (zuB ze L p37 p38 p39 b1 X K).trans ?_
 unfold zgg
 first
  | (simp only [zfX,zlj,zlA]; done)
  | (simp only [zfX]; rfl)
def zeO {β:Type} (ze:zw) (L:Nat) (k_ret:Bool→Option β) (k_x2:List V→Option β):Nat→List (List V)→Int→Int→List V→Option β
 | 0,_,_,_,_=>none
 | n+1,p37,p38,p39,b1=>zgg ze L p37 p38 p39 b1 k_ret k_x2 (fun p37 p38 p39 b1=>zeO ze L k_ret k_x2 n p37 p38 p39 b1)
theorem zmG {β:Type} (ze:zw) (L:Nat) (K:KT β):∀ (n:Nat) (p37:List (List V)) (p38 p39:Int) (b1:List V),xD (xj zR (yQ ze L) 0 L zcR) zbN n (zb8 p37 p38 p39 b1) K=zeO ze L (fun p2=>K .ret (zaP p2)) (fun b1=>K (.exit 2) (zjv b1)) n p37 p38 p39 b1:=by
 intro n
 induction n with
 | zero=>intros; rfl
 | succ n ih =>
  intro p37 p38 p39 b1
  refine (ztR ze L p37 p38 p39 b1 (fun σ=>xD (xj zR (yQ ze L) 0 L zcR) zbN n σ K) K).trans ?_
  simp only [ih]
  rfl
def zfu {β:Type} (ze:zw) (L:Nat) (b1:List V) (k_fin:Bool→Option β):Option β :=
 zjP ze L b1 (fun p37 p38 p39 b1=>zeO ze L (fun p2=>zhu ze L p2 k_fin) (fun b1=>ziD ze L b1 k_fin) L p37 p38 p39 b1)
theorem zsN {β:Type} (ze:zw) (L:Nat) (b1:List V) (k:KK β):(xu 0 (zQ (xj zR (yQ ze L) 0 L zg9) (zW 0 (CF.res zb0) k))) (.exit 0) (zjj b1)=zfu ze L b1 (fun p0=>k (V.sc (.bool p0)) []):=by
 refine (ztO ze L b1 k).trans ?_
 unfold zfu
 first
  | (simp only [zmG,zq2,zta]; done)
  | (simp only [zmG]; rfl)
def zpy {β:Type} (ze:zw) (L:Nat) (p0:List V) (k_fin:Bool→Option β):Option β :=
 zun ze L p0 k_fin (fun p20 p21 p22 b1=>zfA ze L (fun p2=>zik ze L p2 k_fin) (fun b1=>zfu ze L b1 k_fin) L p20 p21 p22 b1)
theorem zAY {β:Type} (ze:zw) (L:Nat) (p0:List V) (k:KK β):xv zR (yQ ze L) L zb0 [(V.agg p0)] [] k=zpy ze L p0 (fun p0=>k (V.sc (.bool p0)) []):=by
 refine (zBO ze L p0 k).trans ?_
 unfold zpy
 first
  | (simp only [znF,ztc,zsN]; done)
  | (simp only [znF]; rfl)
abbrev zar:=∀ (β:Type),Nat→List V→(Bool→Option β)→Option β
def yn (β:Type) (L:Nat) (p0:List V) (k_fin:Bool→Option β):Option β:=zpy ze L p0 k_fin
def zkf (yn:zar) (L:Nat) (β:Type) (args:List V) (bor:Bor) (k:KK β):Option β:=match args,bor with
 | [a0],[]=>aG a0 fun p0=>yn β L p0 (fun p0=>k (V.sc (.bool p0)) [])
 | _,_=>none
theorem zCz (L:Nat) (β:Type) (args:List V) (bor:Bor) (k:KK β) (r:β) (h:zkf yn L β args bor k=some r):xv zR (yQ ze L) L zb0 args bor k=some r:=by
 unfold zkf at h
 split at h
 ·have q:=zec h; clear h; obtain ⟨p0,rfl,h⟩:=q
  exact (zAY ze L p0 k).trans h
 ·cases h
def zlu:CF:=⟨12,[.tmp 4,.tmp 5],
 (.seq (.reg [oo 2 (.box true (tq 0)),
   oo 4 (.move (.const (.gs 1 [])) true),
   oo 5 (.move (.const (.sc (.int .i64 0))) false)])
 (.seq (.seq (.reg [oo 6 (.load true 4 (tq 2) false),
   oo 7 (.call 146 [((tq 6),1)] []),
   oo 8 (.un .not (tq 7))])
 (.cond (tq 8)
 (.seq (.reg [oo 4 (.move (.const (.gs 1 [])) true),
   oo 5 (.move (.const (.sc (.int .i64 4))) false)])
 .ret)
 .skip))
 (.seq (.reg [oo 9 (.load true 4 (tq 2) false),
   oo 10 (.move (tq 1) false),
   oo 11 (.call 147 [((tq 9),1),((tq 10),0)] []),
   oo 4 (.move (tq 11) true),
   oo 5 (.move (.const (.sc (.int .i64 0))) false)])
 .ret)))⟩
def zrs:Hint:=⟨[(0,0),(0,1),(2,0),(3,3)],[],[none,none,none],[],[],false,false,[]⟩
def zoW:Nat→Sh:=yL []
def zoV (yn:zar) (ze:zw) (L:Nat):CBC:=(zt 147 (zgp ze L) (zt 146 (zkf yn L) noC))
def zqc {β:Type} (yn:zar) (ze:zw) (L:Nat) (p0:List V) (p1:Bool) (k_fin:List (List V)→Int→Option β):Option β :=
 chk (0+4≤(List.length p0)) (
 yn β L (List.map V.dem (List.take 4 p0)) (fun v0 =>
 ifb (!v0) (
 k_fin ([]:List (List V)) (4:Int)) (
 chk (0+4≤(List.length p0)) (
 ze β L (List.map V.dem (List.take 4 p0)) p1 (fun v1 =>
 k_fin v1 (0:Int))))))
theorem zzn {β:Type} (yn:zar) (ze:zw) (L:Nat) (p0:List V) (p1:Bool) (k:KK β):xv zoW (zoV yn ze L) L zlu [(V.agg p0),(V.sc (.bool p1))] [] k=zqc yn ze L p0 p1 (fun zKX zKY=>k (V.tup [(V.gs 1 zKX),(V.sc (.int .i64 zKY))]) []):=by kernel_rfl
abbrev zfl:=∀ (β:Type),Nat→List V→Bool→(List (List V)→Int→Option β)→Option β
def xF (β:Type) (L:Nat) (p0:List V) (p1:Bool) (k_fin:List (List V)→Int→Option β):Option β:=zqc yn ze L p0 p1 k_fin
def ziN (xF:zfl) (L:Nat) (β:Type) (args:List V) (bor:Bor) (k:KK β):Option β:=match args,bor with
 | [a0,a1],[]=>aG a0 fun p0=>aB a1 fun p1=>xF β L p0 p1 (fun zKX zKY=>k (V.tup [(V.gs 1 zKX),(V.sc (.int .i64 zKY))]) [])
 | _,_=>none
theorem zyK (L:Nat) (β:Type) (args:List V) (bor:Bor) (k:KK β) (r:β) (h:ziN xF L β args bor k=some r):xv zoW (zoV yn ze L) L zlu args bor k=some r:=by
 unfold ziN at h
 split at h
 ·have q:=zec h; clear h; obtain ⟨p0,rfl,h⟩:=q
  have q:=zph h; clear h; obtain ⟨p1,rfl,h⟩:=q
  exact (zzn yn ze L p0 p1 k).trans h
 ·cases h
def zkR:CF:=⟨14,[.tmp 2],
 (.seq (.reg [oo 1 (.box true (tq 0)),
   oo 2 (.move (.const (.sc (.int .i64 0))) false)])
 (.seq (.seq (.reg [oo 3 (.load true 4 (tq 1) false),
   oo 4 (.call 146 [((tq 3),1)] []),
   oo 5 (.un .not (tq 4))])
 (.cond (tq 5)
 (.seq (.reg [oo 2 (.move (.const (.sc (.int .i64 0))) false)])
 .ret)
 .skip))
 (.seq (.dreg [] [(oo 6 (.load true 4 (tq 1) false),ql 1 [] []),
   (oo 7 (.call 147 [((tq 6),1),((.const (.sc (.bool false))),0)] []),qc [1] []),
   (oo 8 (.lenS (tq 7)),q0),
   (oo 9 (.bin .mul (.const (.sc (.int .i64 3))) (tq 8)),q0),
   (oo 10 (.load true 4 (tq 1) false),ql 1 [] []),
   (oo 11 (.call 147 [((tq 10),1),((.const (.sc (.bool true))),0)] []),q0),
   (oo 12 (.lenS (tq 11)),q0),
   (oo 13 (.bin .add (tq 9) (tq 12)),q0),
   (oo 2 (.move (tq 13) false),q0)])
 .ret)))⟩
def zq1:Hint:=⟨[(0,0)],[],[none,none,none],[],[],false,false,[]⟩
def zoZ:Nat→Sh:=yL []
def zpf (yn:zar) (ze:zw) (L:Nat):CBC:=(zt 147 (zgp ze L) (zt 146 (zkf yn L) noC))
def zwh {β:Type} (yn:zar) (ze:zw) (L:Nat) (p0:List V) (k_fin:Int→Option β):Option β :=
 chk (0+4≤(List.length p0)) (
 yn β L (List.map V.dem (List.take 4 p0)) (fun v0 =>
 ifb (!v0) (
 k_fin (0:Int)) (
 chk (0+4≤(List.length p0)) (
 ze β L (List.map V.dem (List.take 4 p0)) false (fun v1 =>
 lt (IntKind.wrap .i64 (((3:Int):Int) * ((List.length v1:Nat):Int))) fun x2 =>
 chk (0+4≤(List.length p0)) (
 ze β L (List.map V.dem (List.take 4 p0)) true (fun v3 =>
 lt (IntKind.wrap .i64 ((x2:Int)+((List.length v3:Nat):Int))) fun x4 =>
 k_fin x4)))))))
theorem zyS {β:Type} (yn:zar) (ze:zw) (L:Nat) (p0:List V) (k:KK β):xv zoZ (zpf yn ze L) L zkR [(V.agg p0)] [] k=zwh yn ze L p0 (fun p0=>k (V.sc (.int .i64 p0)) []):=by kernel_rfl
abbrev zmw:=∀ (β:Type),Nat→List V→(Int→Option β)→Option β
def zay (β:Type) (L:Nat) (p0:List V) (k_fin:Int→Option β):Option β:=zwh yn ze L p0 k_fin
def zmF (zay:zmw) (L:Nat) (β:Type) (args:List V) (bor:Bor) (k:KK β):Option β:=match args,bor with
 | [a0],[]=>aG a0 fun p0=>zay β L p0 (fun p0=>k (V.sc (.int .i64 p0)) [])
 | _,_=>none
theorem zyy (L:Nat) (β:Type) (args:List V) (bor:Bor) (k:KK β) (r:β) (h:zmF zay L β args bor k=some r):xv zoZ (zpf yn ze L) L zkR args bor k=some r:=by
 unfold zmF at h
 split at h
 ·have q:=zec h; clear h; obtain ⟨p0,rfl,h⟩:=q
  exact (zyS yn ze L p0 k).trans h
 ·cases h
def zd9:CC:=(.seq (.reg [oo 9 (.bin .lss (tq 8) (tq 7))])
 (.seq (.cond (tq 9)
 .skip
 (.seq (.mask (bl 0 22) (bl 4194259 22))
 (.exit 0)))
 (.seq (.block 1 (.seq (.reg [oo 10 (.indexAddrS 2 (tq 6) (tq 8)),
   oo 11 (.load true 2 (tq 10) false),
   oo 5 (.alloc true [(.sc (.int .i64 0)),(.gs 1 [])]),
   oz (.store 2 (tq 5) (tq 11))])
 (.seq (.seq (.reg [oo 12 (.fieldAddr 0 (tq 5)),
   oo 13 (.load false 1 (tq 12) false),
   oo 14 (.move (tq 3) false),
   oo 15 (.bin .sub (.const (.sc (.int .i64 2100000000000000))) (tq 14)),
   oo 16 (.bin .gtr (tq 13) (tq 15))])
 (.cond (tq 16)
 (.seq (.reg [oo 2 (.move (.const (.sc (.bool false))) false)])
 (.seq (.mask (bl 4 22) (bl 4194263 22))
 .ret))
 .skip))
 (.reg [oo 17 (.move (tq 3) false),
   oo 18 (.fieldAddr 0 (tq 5)),
   oo 19 (.load false 1 (tq 18) false),
   oo 20 (.bin .add (tq 17) (tq 19)),
   oo 3 (.move (tq 20) false)]))))
 (.reg [oo 21 (.bin .add (tq 8) (.const (.sc (.int .i64 1)))),
   oo 8 (.move (tq 21) false)]))))
def zjw:CC:=(.seq (.reg [oo 2 (.move (.const (.sc (.bool true))) false)])
 .ret)
def zdR:CF:=⟨22,[.tmp 2],
 (.seq (.reg [oo 2 (.move (.const (.sc (.bool false))) false)])
 (.seq (.reg [oo 3 (.move (.const (.sc (.int .i64 0))) false)])
 (.seq (.seq (.reg [oo 6 (.move (tq 0) false),
   oo 7 (.lenS (tq 6)),
   oo 8 (.move (.const (.sc (.int .i64 0))) false)])
 (.block 0 (.loop (bl 456 22) (bl 4194267 22)
 zd9)))
 zjw)))⟩
def zth:Hint:=⟨[(4,2)],[],[none,some ((bl 456 22),(bl 4194267 22)),none,some ((bl 0 22),(bl 4194259 22)),none,none,some ((bl 4 22),(bl 4194263 22)),none],[],[],false,false,[]⟩
def zbT:Nat→Sh:=yL [(13,(.int .i64)),(19,(.int .i64))]
def zbU (L:Nat):CBC:=noC
def zgU:St→St:=zV 0 (bl 456 22) (bl 4194267 22)
def ze6 (p3:Int) (p6:List (List V)) (p7 p8:Int):St:=⟨(jn 3 ((V.sc (.int .i64 p3))::(jn 2 ((V.sl 2 p6)::((V.sc (.int .i64 p7))::((V.sc (.int .i64 p8))::(jn 13 []))))))),(gn 22 [])⟩
def zkV (p2:Bool):St:=⟨(jn 2 ((V.sc (.bool p2))::(jn 19 []))),(gn 22 [])⟩
def zl7:St:=⟨(jn 22 []),(gn 22 [])⟩
def zyg {β:Type} (L:Nat) (p0:List (List V)) (k_hbbaba:Int→List (List V)→Int→Int→Option β):Option β :=
 k_hbbaba (0:Int) p0 ((List.length p0:Nat):Int) (0:Int)
theorem zAs {β:Type} (L:Nat) (p0:List (List V)) (k:KK β):xv zbT (zbU L) L zdR [(V.sl 2 p0)] [] k=zyg L p0 (fun p3 p6 p7 p8=>xD (xj zbT (zbU L) 0 L zd9) zgU L (ze6 p3 p6 p7 p8) (xu 0 (zQ (xj zbT (zbU L) 0 L zjw) (zW 0 (CF.res zdR) k)))):=by kernel_rfl
def zpF {β:Type} (L:Nat) (p3:Int) (p6:List (List V)) (p7 p8:Int) (k_ret:Bool→Option β) (k_hbbaba:Int→List (List V)→Int→Int→Option β) (k_x0:Option β):Option β :=
 ifb (decide (p8 < p7)) (
 idx p6 p8 fun c0 =>
 chk ((List.length (List.take 2 c0))=2∧0+2≤2) (
 lt (zl [(V.sc (.int .i64 (0:Int))),(V.gs 1 ([]:List (List V)))] 0 (List.take 2 c0)) fun r1 =>
 cI .i64 r1 0 fun v2 =>
 lt (IntKind.wrap .i64 (((2100000000000000:Int):Int) - p3)) fun x3 =>
 ifb (decide (v2 > x3)) (
 k_ret false) (
 cI .i64 r1 0 fun v4 =>
 lt (IntKind.wrap .i64 ((p3:Int)+v4)) fun x5 =>
 lt (IntKind.wrap .i64 ((p8:Int)+(1:Int))) fun x6 =>
 k_hbbaba x5 p6 p7 x6))) (
 k_x0)
theorem zvj {β:Type} (L:Nat) (p3:Int) (p6:List (List V)) (p7 p8:Int) (X:St→Option β) (K:KT β):xj zbT (zbU L) 0 L zd9 (ze6 p3 p6 p7 p8) (zah zgU X K)=zpF L p3 p6 p7 p8 (fun p2=>K .ret (zkV p2)) (fun p3 p6 p7 p8=>X (ze6 p3 p6 p7 p8)) (K (.exit 0) (zl7)):=by kernel_rfl
def zmW {β:Type} (L:Nat) (p2:Bool) (k_fin:Bool→Option β):Option β :=
 k_fin p2
theorem zrP {β:Type} (L:Nat) (p2:Bool) (k:KK β):(xu 0 (zQ (xj zbT (zbU L) 0 L zjw) (zW 0 (CF.res zdR) k))) .ret (zkV p2)=zmW L p2 (fun p0=>k (V.sc (.bool p0)) []):=by kernel_rfl
def znE {β:Type} (L:Nat) (k_fin:Bool→Option β):Option β :=
 k_fin true
theorem zst {β:Type} (L:Nat) (k:KK β):(xu 0 (zQ (xj zbT (zbU L) 0 L zjw) (zW 0 (CF.res zdR) k))) (.exit 0) (zl7)=znE L (fun p0=>k (V.sc (.bool p0)) []):=by kernel_rfl
def zkA {β:Type} (L:Nat) (k_ret:Bool→Option β) (k_x0:Option β):Nat→Int→List (List V)→Int→Int→Option β
 | 0,_,_,_,_=>none
 | n+1,p3,p6,p7,p8=>zpF L p3 p6 p7 p8 k_ret (fun p3 p6 p7 p8=>zkA L k_ret k_x0 n p3 p6 p7 p8) k_x0
theorem zmJ {β:Type} (L:Nat) (K:KT β):∀ (n:Nat) (p3:Int) (p6:List (List V)) (p7 p8:Int),xD (xj zbT (zbU L) 0 L zd9) zgU n (ze6 p3 p6 p7 p8) K=zkA L (fun p2=>K .ret (zkV p2)) (K (.exit 0) (zl7)) n p3 p6 p7 p8:=by
 intro n
 induction n with
 | zero=>intros; rfl
 | succ n ih =>
  intro p3 p6 p7 p8
  refine (zvj L p3 p6 p7 p8 (fun σ=>xD (xj zbT (zbU L) 0 L zd9) zgU n σ K) K).trans ?_
  simp only [ih]
  rfl
def zr9 {β:Type} (L:Nat) (p0:List (List V)) (k_fin:Bool→Option β):Option β :=
 zyg L p0 (fun p3 p6 p7 p8=>zkA L (fun p2=>zmW L p2 k_fin) (znE L k_fin) L p3 p6 p7 p8)
theorem zAE {β:Type} (L:Nat) (p0:List (List V)) (k:KK β):xv zbT (zbU L) L zdR [(V.sl 2 p0)] [] k=zr9 L p0 (fun p0=>k (V.sc (.bool p0)) []):=by
 refine (zAs L p0 k).trans ?_
 unfold zr9
 first
  | (simp only [zmJ,zrP,zst]; done)
  | (simp only [zmJ]; rfl)
abbrev zbr:=∀ (β:Type),Nat→List (List V)→(Bool→Option β)→Option β
def yv (β:Type) (L:Nat) (p0:List (List V)) (k_fin:Bool→Option β):Option β:=zr9 L p0 k_fin
def zn7 (yv:zbr) (L:Nat) (β:Type) (args:List V) (bor:Bor) (k:KK β):Option β:=match args,bor with
 | [a0],[]=>aL 2 a0 fun p0=>yv β L p0 (fun p0=>k (V.sc (.bool p0)) [])
 | _,_=>none
theorem zAM (L:Nat) (β:Type) (args:List V) (bor:Bor) (k:KK β) (r:β) (h:zn7 yv L β args bor k=some r):xv zbT (zbU L) L zdR args bor k=some r:=by
 unfold zn7 at h
 split at h
 ·have q:=xU h; clear h; obtain ⟨p0,rfl,h⟩:=q
  exact (zAE L p0 k).trans h
 ·cases h
def zn8:CF:=⟨6,[.tmp 2],
 (.seq (.reg [oo 1 (.box true (tq 0)),
   oo 2 (.move (.const (.sc (.bool false))) false)])
 (.seq (.reg [oo 3 (.load true 33 (tq 1) false),
   oo 4 (.build (rp 32 (.sc (.int .u8 0)) (rp 1 (.sc (.int .u32 0)) [])) [(32,1,(.const (.sc (.int .u32 4294967295))))]),
   oo 5 (.eqAgg false 33 (tq 3) (tq 4)),
   oo 2 (.move (tq 5) false)])
 .ret))⟩
def zu0:Hint:=⟨[],[],[none],[],[],false,false,[]⟩
def zsS:Nat→Sh:=yL []
def zsB (L:Nat):CBC:=noC
def zzO {β:Type} (L:Nat) (p0:List V) (k_fin:Bool→Option β):Option β :=
 chk (0+33≤(List.length p0)) (
 eqC 33 (List.take 33 p0) (List.replicate 32 (V.sc (.int .u8 (0:Int)))++[(V.sc (.int .u32 (4294967295:Int)))]) fun v0 =>
 k_fin v0)
theorem zBj {β:Type} (L:Nat) (p0:List V) (k:KK β):xv zsS (zsB L) L zn8 [(V.agg p0)] [] k=zzO L p0 (fun p0=>k (V.sc (.bool p0)) []):=by kernel_rfl
abbrev zpD:=∀ (β:Type),Nat→List V→(Bool→Option β)→Option β
def zbz (β:Type) (L:Nat) (p0:List V) (k_fin:Bool→Option β):Option β:=zzO L p0 k_fin
def zpC (zbz:zpD) (L:Nat) (β:Type) (args:List V) (bor:Bor) (k:KK β):Option β:=match args,bor with
 | [a0],[]=>aG a0 fun p0=>zbz β L p0 (fun p0=>k (V.sc (.bool p0)) [])
 | _,_=>none
theorem zBy (L:Nat) (β:Type) (args:List V) (bor:Bor) (k:KK β) (r:β) (h:zpC zbz L β args bor k=some r):xv zsS (zsB L) L zn8 args bor k=some r:=by
 unfold zpC at h
 split at h
 ·have q:=zec h; clear h; obtain ⟨p0,rfl,h⟩:=q
  exact (zBj L p0 k).trans h
 ·cases h
def zhX:CF:=⟨15,[.tmp 2],
 (.seq (.reg [oo 1 (.box true (tq 0)),
   oo 2 (.move (.const (.sc (.bool false))) false)])
 (.seq (.reg [oo 3 (.fieldAddr 1 (tq 1)),
   oo 4 (.load false 1 (tq 3) false),
   oo 5 (.lenS (tq 4)),
   oo 6 (.bin .eql (tq 5) (.const (.sc (.int .i64 1)))),
   oo 7 (.move (tq 6) false),
   ⟨(some 8),false,(some (7,true)),.fieldAddr 1 (tq 1)⟩,
   ⟨(some 9),false,(some (7,true)),.load false 1 (tq 8) false⟩,
   ⟨(some 10),false,(some (7,true)),.indexAddrS 35 (tq 9) (.const (.sc (.int .i64 0)))⟩,
   ⟨(some 11),false,(some (7,true)),.fieldAddr 0 (tq 10)⟩,
   ⟨(some 12),false,(some (7,true)),.load true 33 (tq 11) false⟩,
   ⟨(some 13),false,(some (7,true)),.call 188 [((tq 12),0)] []⟩,
   oo 14 (.pick (tq 7) (tq 13) (.const (.sc (.bool false)))),
   oo 2 (.move (tq 14) false)])
 .ret))⟩
def zoU:Hint:=⟨[(0,0)],[],[none],[],[],false,false,[]⟩
def zlU:Nat→Sh:=yL [(4,(.sl 35)),(9,(.sl 35))]
def zl4 (zbz:zpD) (L:Nat):CBC:=(zt 188 (zpC zbz L) noC)
def ztj {β:Type} (zbz:zpD) (L:Nat) (p0:List V) (k_fin:Bool→Option β):Option β :=
 cLd 35 p0 1 fun v0 =>
 ifb ((((List.length v0:Nat):Int):Int) == (1:Int)) (
 cLd 35 p0 1 fun v1 =>
 idx v1 (0:Int) fun c2 =>
 zbz β L (List.take 33 c2) (fun v3 =>
 k_fin v3)) (
 k_fin false)
theorem zwX {β:Type} (zbz:zpD) (L:Nat) (p0:List V) (k:KK β):xv zlU (zl4 zbz L) L zhX [(V.agg p0)] [] k=ztj zbz L p0 (fun p0=>k (V.sc (.bool p0)) []):=by kernel_rfl
abbrev zao:=∀ (β:Type),Nat→List V→(Bool→Option β)→Option β
def xo (β:Type) (L:Nat) (p0:List V) (k_fin:Bool→Option β):Option β:=ztj zbz L p0 k_fin
def zjn (xo:zao) (L:Nat) (β:Type) (args:List V) (bor:Bor) (k:KK β):Option β:=match args,bor with
 | [a0],[]=>aG a0 fun p0=>xo β L p0 (fun p0=>k (V.sc (.bool p0)) [])
 | _,_=>none
theorem zwI (L:Nat) (β:Type) (args:List V) (bor:Bor) (k:KK β) (r:β) (h:zjn xo L β args bor k=some r):xv zlU (zl4 zbz L) L zhX args bor k=some r:=by
 unfold zjn at h
 split at h
 ·have q:=zec h; clear h; obtain ⟨p0,rfl,h⟩:=q
  exact (zwX zbz L p0 k).trans h
 ·cases h
def zcE:CC:=(.seq (.reg [oo 28 (.bin .lss (tq 27) (tq 26))])
 (.seq (.cond (tq 28)
 .skip
 (.seq (.mask (bl 10 47) (bl 140737488355291 47))
 (.exit 0)))
 (.seq (.block 1 (.seq (.reg [oo 29 (.indexAddrS 35 (tq 25) (tq 27)),
   oo 30 (.load true 35 (tq 29) false),
   oo 5 (.alloc true (rp 32 (.sc (.int .u8 0)) (rp 2 (.sc (.int .u32 0)) (rp 1 (.gs 1 []) [])))),
   oz (.store 35 (tq 5) (tq 30))])
 (.seq (.seq (.reg [oo 31 (.move (tq 3) false),
   oo 32 (.fieldAddr 0 (tq 5)),
   oo 33 (.load true 33 (tq 32) false),
   oo 34 (.mlook 35 false (.sc (.bool false)) (tq 31) (tq 33))])
 (.cond (tq 34)
 (.seq (.reg [oo 2 (.move (.const (.sc (.int .i64 91))) false)])
 (.seq (.mask (bl 4 47) (bl 140737488355293 47))
 .ret))
 .skip))
 (.reg [oo 35 (.move (tq 3) false),
   oo 36 (.fieldAddr 0 (tq 5)),
   oo 37 (.load true 33 (tq 36) false),
   oz (.mput 35 (tq 35) (tq 37) (.const (.sc (.bool true))))]))))
 (.reg [oo 38 (.bin .add (tq 27) (.const (.sc (.int .i64 1)))),
   oo 27 (.move (tq 38) false)]))))
def zf1:CC:=(.seq (.seq (.reg [oo 39 (.move (tq 3) false),
   oo 40 (.build (rp 32 (.sc (.int .u8 0)) (rp 1 (.sc (.int .u32 0)) [])) [(32,1,(.const (.sc (.int .u32 4294967295))))]),
   oo 41 (.mlook 35 false (.sc (.bool false)) (tq 39) (tq 40)),
   oo 42 (.move (tq 41) false),
   ⟨(some 43),false,(some (42,true)),.load true 4 (tq 1) false⟩,
   ⟨(some 44),false,(some (42,true)),.call 151 [((tq 43),1)] []⟩,
   ⟨(some 45),false,(some (42,true)),.un .not (tq 44)⟩,
   oo 46 (.pick (tq 42) (tq 45) (.const (.sc (.bool false))))])
 (.cond (tq 46)
 (.seq (.reg [oo 2 (.move (.const (.sc (.int .i64 92))) false)])
 .ret)
 .skip))
 (.seq (.reg [oo 2 (.move (.const (.sc (.int .i64 0))) false)])
 .ret))
def zdQ:CF:=⟨47,[.tmp 2],
 (.seq (.reg [oo 1 (.box true (tq 0)),
   oo 2 (.move (.const (.sc (.int .i64 0))) false)])
 (.seq (.seq (.reg [oo 6 (.load true 4 (tq 1) false),
   oo 7 (.call 146 [((tq 6),1)] []),
   oo 8 (.un .not (tq 7))])
 (.cond (tq 8)
 (.seq (.reg [oo 2 (.move (.const (.sc (.int .i64 4))) false)])
 .ret)
 .skip))
 (.seq (.seq (.reg [oo 9 (.fieldAddr 1 (tq 1)),
   oo 10 (.load false 1 (tq 9) false),
   oo 11 (.lenS (tq 10)),
   oo 12 (.bin .eql (tq 11) (.const (.sc (.int .i64 0)))),
   oo 13 (.move (tq 12) false),
   ⟨(some 14),false,(some (13,false)),.fieldAddr 2 (tq 1)⟩,
   ⟨(some 15),false,(some (13,false)),.load false 1 (tq 14) false⟩,
   ⟨(some 16),false,(some (13,false)),.lenS (tq 15)⟩,
   ⟨(some 17),false,(some (13,false)),.bin .eql (tq 16) (.const (.sc (.int .i64 0)))⟩,
   oo 18 (.pick (tq 13) (.const (.sc (.bool true))) (tq 17))])
 (.cond (tq 18)
 (.seq (.reg [oo 2 (.move (.const (.sc (.int .i64 93))) false)])
 .ret)
 .skip))
 (.seq (.seq (.reg [oo 19 (.fieldAddr 2 (tq 1)),
   oo 20 (.load false 1 (tq 19) false),
   oo 21 (.call 150 [((tq 20),0)] []),
   oo 22 (.un .not (tq 21))])
 (.cond (tq 22)
 (.seq (.reg [oo 2 (.move (.const (.sc (.int .i64 90))) false)])
 .ret)
 .skip))
 (.seq (.reg [oo 23 (.makeMap),
   oo 3 (.move (tq 23) false)])
 (.seq (.seq (.reg [oo 24 (.fieldAddr 1 (tq 1)),
   oo 25 (.load false 1 (tq 24) false),
   oo 26 (.lenS (tq 25)),
   oo 27 (.move (.const (.sc (.int .i64 0))) false)])
 (.block 0 (.loop (bl 234881034 47) (bl 140737488355291 47)
 zcE)))
 zf1))))))⟩
def ztm:Hint:=⟨[(0,0),(10,2)],[],[none,none,none,none,none,none,none,some ((bl 234881034 47),(bl 140737488355291 47)),none,some ((bl 10 47),(bl 140737488355291 47)),none,none,some ((bl 4 47),(bl 140737488355293 47)),none,none,none],[],[],false,false,[]⟩
def zbY:Nat→Sh:=yL [(10,(.sl 35)),(15,(.sl 2)),(20,(.sl 2)),(25,(.sl 35)),(34,.bool),(41,.bool)]
def zbV (yn:zar) (yv:zbr) (xo:zao) (L:Nat):CBC:=(zt 151 (zjn xo L) (zt 150 (zn7 yv L) (zt 146 (zkf yn L) noC)))
def zeZ:St→St:=zV 0 (bl 234881034 47) (bl 140737488355291 47)
def zdg (p25:List (List V)) (p26 p27:Int) (b1:List V) (b23:List (V × V)):St:=⟨(jn 1 ((V.ptr 1 0)::(jn 1 ((V.mp 23)::(jn 21 ((V.sl 35 p25)::((V.sc (.int .i64 p26))::((V.sc (.int .i64 p27))::(jn 19 []))))))))),(gn 1 ((.live true b1)::(gn 21 ((.mp b23)::(gn 23 [])))))⟩
def zkE (p2:Int) (b23:List (V × V)):St:=⟨(jn 2 ((V.sc (.int .i64 p2))::(jn 44 []))),(gn 23 ((.mp b23)::(gn 23 [])))⟩
def zma (b1:List V) (b23:List (V × V)):St:=⟨(jn 1 ((V.ptr 1 0)::(jn 1 ((V.mp 23)::(jn 43 []))))),(gn 1 ((.live true b1)::(gn 21 ((.mp b23)::(gn 23 [])))))⟩
def zxL {β:Type} (yn:zar) (yv:zbr) (xo:zao) (L:Nat) (p0:List V) (k_fin:Int→Option β) (k_hbbbbbaba:List (List V)→Int→Int→List V→List (V × V)→Option β):Option β :=
 chk (0+4≤(List.length p0)) (
 yn β L (List.map V.dem (List.take 4 p0)) (fun v0 =>
 ifb (!v0) (
 k_fin (4:Int)) (
 cLd 35 p0 1 fun v1 =>
 ifb ((((List.length v1:Nat):Int):Int) == (0:Int)) (
 k_fin (93:Int)) (
 cLd 2 p0 2 fun v2 =>
 ifb ((((List.length v2:Nat):Int):Int) == (0:Int)) (
 k_fin (93:Int)) (
 cLd 2 p0 2 fun v3 =>
 yv β L v3 (fun v4 =>
 ifb (!v4) (
 k_fin (90:Int)) (
 cLd 35 p0 1 fun v5 =>
 k_hbbbbbaba v5 ((List.length v5:Nat):Int) (0:Int) p0 ([]:List (V × V)))))))))
theorem zAJ {β:Type} (yn:zar) (yv:zbr) (xo:zao) (L:Nat) (p0:List V) (k:KK β):xv zbY (zbV yn yv xo L) L zdQ [(V.agg p0)] [] k=zxL yn yv xo L p0 (fun p0=>k (V.sc (.int .i64 p0)) []) (fun p25 p26 p27 b1 b23=>xD (xj zbY (zbV yn yv xo L) 0 L zcE) zeZ L (zdg p25 p26 p27 b1 b23) (xu 0 (zQ (xj zbY (zbV yn yv xo L) 0 L zf1) (zW 0 (CF.res zdQ) k)))):=by kernel_rfl
def zmK {β:Type} (yn:zar) (yv:zbr) (xo:zao) (L:Nat) (p25:List (List V)) (p26 p27:Int) (b1:List V) (b23:List (V × V)) (k_ret:Int→List (V × V)→Option β) (k_hbbbbbaba:List (List V)→Int→Int→List V→List (V × V)→Option β) (k_x0:List V→List (V × V)→Option β):Option β :=
 ifb (decide (p27 < p26)) (
 idx p25 p27 fun c6 =>
 chk ((List.length (List.take 35 c6))=35∧0+35≤35) (
 lt (zl (List.replicate 32 (V.sc (.int .u8 (0:Int)))++[(V.sc (.int .u32 (0:Int))),(V.sc (.int .u32 (0:Int))),(V.gs 1 ([]:List (List V)))]) 0 (List.take 35 c6)) fun r7 =>
 chk (0+33≤(List.length r7)) (
 mAt 35 (V.agg (List.take 33 r7)) b23 fun q8 =>
 aB (Option.getD q8 (V.sc (.bool false))) fun v9 =>
 ifb v9 (
 k_ret (91:Int) b23) (
 chk (0+33≤(List.length r7)) (
 zGz 35 (V.agg (List.take 33 r7)) (V.sc (.bool true)) b23 fun m10 =>
 lt (IntKind.wrap .i64 ((p27:Int)+(1:Int))) fun x11 =>
 k_hbbbbbaba p25 p26 x11 b1 m10))))) (
 k_x0 b1 b23)
theorem zqZ {β:Type} (yn:zar) (yv:zbr) (xo:zao) (L:Nat) (p25:List (List V)) (p26 p27:Int) (b1:List V) (b23:List (V × V)) (X:St→Option β) (K:KT β):xj zbY (zbV yn yv xo L) 0 L zcE (zdg p25 p26 p27 b1 b23) (zah zeZ X K)=zmK yn yv xo L p25 p26 p27 b1 b23 (fun p2 b23=>K .ret (zkE p2 b23)) (fun p25 p26 p27 b1 b23=>X (zdg p25 p26 p27 b1 b23)) (fun b1 b23=>K (.exit 0) (zma b1 b23)):=by kernel_rfl
def zke {β:Type} (yn:zar) (yv:zbr) (xo:zao) (L:Nat) (p2:Int) (b23:List (V × V)) (k_fin:Int→Option β):Option β :=
 k_fin p2
theorem zoo {β:Type} (yn:zar) (yv:zbr) (xo:zao) (L:Nat) (p2:Int) (b23:List (V × V)) (k:KK β):(xu 0 (zQ (xj zbY (zbV yn yv xo L) 0 L zf1) (zW 0 (CF.res zdQ) k))) .ret (zkE p2 b23)=zke yn yv xo L p2 b23 (fun p0=>k (V.sc (.int .i64 p0)) []):=by kernel_rfl
def zkB {β:Type} (yn:zar) (yv:zbr) (xo:zao) (L:Nat) (b1:List V) (b23:List (V × V)) (k_fin:Int→Option β):Option β :=
 mAt 35 (V.agg (List.replicate 32 (V.sc (.int .u8 (0:Int)))++[(V.sc (.int .u32 (4294967295:Int)))])) b23 fun q12 =>
 aB (Option.getD q12 (V.sc (.bool false))) fun v13 =>
 ifb v13 (
 chk (0+4≤(List.length b1)) (
 xo β L (List.map V.dem (List.take 4 b1)) (fun v14 =>
 ifb (!v14) (
 k_fin (92:Int)) (
 k_fin (0:Int))))) (
 k_fin (0:Int))
theorem zpq {β:Type} (yn:zar) (yv:zbr) (xo:zao) (L:Nat) (b1:List V) (b23:List (V × V)) (k:KK β):(xu 0 (zQ (xj zbY (zbV yn yv xo L) 0 L zf1) (zW 0 (CF.res zdQ) k))) (.exit 0) (zma b1 b23)=zkB yn yv xo L b1 b23 (fun p0=>k (V.sc (.int .i64 p0)) []):=by kernel_rfl
def zhh {β:Type} (yn:zar) (yv:zbr) (xo:zao) (L:Nat) (k_ret:Int→List (V × V)→Option β) (k_x0:List V→List (V × V)→Option β):Nat→List (List V)→Int→Int→List V→List (V × V)→Option β
 | 0,_,_,_,_,_=>none
 | n+1,p25,p26,p27,b1,b23=>zmK yn yv xo L p25 p26 p27 b1 b23 k_ret (fun p25 p26 p27 b1 b23=>zhh yn yv xo L k_ret k_x0 n p25 p26 p27 b1 b23) k_x0
theorem zj5 {β:Type} (yn:zar) (yv:zbr) (xo:zao) (L:Nat) (K:KT β):∀ (n:Nat) (p25:List (List V)) (p26 p27:Int) (b1:List V) (b23:List (V × V)),xD (xj zbY (zbV yn yv xo L) 0 L zcE) zeZ n (zdg p25 p26 p27 b1 b23) K=zhh yn yv xo L (fun p2 b23=>K .ret (zkE p2 b23)) (fun b1 b23=>K (.exit 0) (zma b1 b23)) n p25 p26 p27 b1 b23:=by
 intro n
 induction n with
 | zero=>intros; rfl
 | succ n ih =>
  intro p25 p26 p27 b1 b23
  refine (zqZ yn yv xo L p25 p26 p27 b1 b23 (fun σ=>xD (xj zbY (zbV yn yv xo L) 0 L zcE) zeZ n σ K) K).trans ?_
  simp only [ih]
  rfl
def zs6 {β:Type} (yn:zar) (yv:zbr) (xo:zao) (L:Nat) (p0:List V) (k_fin:Int→Option β):Option β :=
 zxL yn yv xo L p0 k_fin (fun p25 p26 p27 b1 b23=>zhh yn yv xo L (fun p2 b23=>zke yn yv xo L p2 b23 k_fin) (fun b1 b23=>zkB yn yv xo L b1 b23 k_fin) L p25 p26 p27 b1 b23)
theorem zAh {β:Type} (yn:zar) (yv:zbr) (xo:zao) (L:Nat) (p0:List V) (k:KK β):xv zbY (zbV yn yv xo L) L zdQ [(V.agg p0)] [] k=zs6 yn yv xo L p0 (fun p0=>k (V.sc (.int .i64 p0)) []):=by
 refine (zAJ yn yv xo L p0 k).trans ?_
 unfold zs6
 first
  | (simp only [zj5,zoo,zpq]; done)
  | (simp only [zj5]; rfl)
abbrev zn1:=∀ (β:Type),Nat→List V→(Int→Option β)→Option β
def zaW (β:Type) (L:Nat) (p0:List V) (k_fin:Int→Option β):Option β:=zs6 yn yv xo L p0 k_fin
def zn3 (zaW:zn1) (L:Nat) (β:Type) (args:List V) (bor:Bor) (k:KK β):Option β:=match args,bor with
 | [a0],[]=>aG a0 fun p0=>zaW β L p0 (fun p0=>k (V.sc (.int .i64 p0)) [])
 | _,_=>none
theorem zAL (L:Nat) (β:Type) (args:List V) (bor:Bor) (k:KK β) (r:β) (h:zn3 zaW L β args bor k=some r):xv zbY (zbV yn yv xo L) L zdQ args bor k=some r:=by
 unfold zn3 at h
 split at h
 ·have q:=zec h; clear h; obtain ⟨p0,rfl,h⟩:=q
  exact (zAh yn yv xo L p0 k).trans h
 ·cases h
def zjq:CF:=⟨36,[.tmp 0],
 (.seq (.reg [oo 0 (.move (.const (.sc (.bool false))) false)])
 (.seq (.reg [oo 6 (.build [(.sc (.int .u32 0)),(.sl 35 []),(.sl 2 []),(.sc (.int .u32 0))] []),
   oo 7 (.call 128 [((tq 6),1),((.const (.sc (.bool false))),0)] []),
   oo 5 (.move (tq 7) true),
   oo 8 (.extract (tq 5) 0),
   oo 9 (.pull (tq 5) 1),
   oo 1 (.move (tq 8) false),
   oo 2 (.move (tq 9) false)])
 (.seq (.reg [oo 10 (.build (rp 32 (.sc (.int .u8 0)) (rp 1 (.sc (.int .u32 0)) [])) [(32,1,(.const (.sc (.int .u32 3))))]),
   oo 3 (.alloc true (rp 32 (.sc (.int .u8 0)) (rp 1 (.sc (.int .u32 0)) []))),
   oz (.store 33 (tq 3) (tq 10))])
 (.seq (.reg [oo 11 (.load true 33 (tq 3) false),
   oo 12 (.build (rp 32 (.sc (.int .u8 0)) (rp 2 (.sc (.int .u32 0)) (rp 1 (.sl 1 []) []))) [(0,33,(tq 11))]),
   oo 13 (.load true 33 (tq 3) false),
   oo 14 (.build (rp 32 (.sc (.int .u8 0)) (rp 2 (.sc (.int .u32 0)) (rp 1 (.sl 1 []) []))) [(0,33,(tq 13))]),
   oo 15 (.buildSlice 35 2 (rp 32 (.sc (.int .u8 0)) (rp 2 (.sc (.int .u32 0)) (rp 1 (.sl 1 []) []))) [(0,35,(tq 12)),(35,35,(tq 14))]),
   oo 16 (.build [(.sc (.int .i64 0)),(.sl 1 [])] []),
   oo 17 (.buildSlice 2 1 [(.sc (.int .i64 0)),(.sl 1 [])] [(0,2,(tq 16))]),
   oo 18 (.build [(.sc (.int .u32 0)),(.sl 35 []),(.sl 2 []),(.sc (.int .u32 0))] [(1,1,(tq 15)),(2,1,(tq 17))]),
   oo 4 (.alloc true [(.sc (.int .u32 0)),(.gs 35 []),(.gs 2 []),(.sc (.int .u32 0))]),
   oz (.store 4 (tq 4) (tq 18))])
 (.seq (.reg [oo 19 (.move (tq 2) false),
   oo 20 (.bin .eql (tq 19) (.const (.sc (.int .i64 0)))),
   oo 21 (.move (tq 20) false),
   ⟨(some 22),false,(some (21,true)),.move (tq 1) false⟩,
   ⟨(some 23),false,(some (21,true)),.lenS (tq 22)⟩,
   ⟨(some 24),false,(some (21,true)),.bin .eql (tq 23) (.const (.sc (.int .i64 10)))⟩,
   oo 25 (.pick (tq 21) (tq 24) (.const (.sc (.bool false)))),
   oo 26 (.move (tq 25) false),
   ⟨(some 27),false,(some (26,true)),.build [(.sc (.int .u32 0)),(.sl 35 []),(.sl 2 []),(.sc (.int .u32 0))] []⟩,
   ⟨(some 28),false,(some (26,true)),.call 144 [((tq 27),1)] []⟩,
   ⟨(some 29),false,(some (26,true)),.bin .eql (tq 28) (.const (.sc (.int .i64 40)))⟩,
   oo 30 (.pick (tq 26) (tq 29) (.const (.sc (.bool false)))),
   oo 31 (.move (tq 30) false),
   ⟨(some 32),false,(some (31,true)),.load true 4 (tq 4) false⟩,
   ⟨(some 33),false,(some (31,true)),.call 131 [((tq 32),1)] []⟩,
   ⟨(some 34),false,(some (31,true)),.bin .eql (tq 33) (.const (.sc (.int .i64 91)))⟩,
   oo 35 (.pick (tq 31) (tq 34) (.const (.sc (.bool false)))),
   oo 0 (.move (tq 35) false)])
 .ret)))))⟩
def zpT:Hint:=⟨[(1,2),(1,3),(3,8)],[],[none],[],[],false,false,[]⟩
def zne:Nat→Sh:=yL []
def znw (xF:zfl) (zay:zmw) (zaW:zn1) (L:Nat):CBC:=(zt 131 (zn3 zaW L) (zt 144 (zmF zay L) (zt 128 (ziN xF L) noC)))
def zvk {β:Type} (xF:zfl) (zay:zmw) (zaW:zn1) (L:Nat) (k_fin:Bool→Option β):Option β :=
 xF β L [(V.sc (.int .u32 (0:Int))),(V.sl 35 ([]:List (List V))),(V.sl 2 ([]:List (List V))),(V.sc (.int .u32 (0:Int)))] false (fun v0 v1 =>
 lt (List.replicate 32 (V.sc (.int .u8 (0:Int)))++[(V.sc (.int .u32 (3:Int)))]) fun r2 =>
 chk (0+33≤(List.length r2)) (
 chk ((List.length (List.take 33 r2))=33∧0+33≤35) (
 chk (0+33≤(List.length r2)) (
 chk ((List.length (List.take 33 r2))=33∧0+33≤35) (
 chk ((List.length (zl (List.replicate 32 (V.sc (.int .u8 (0:Int)))++[(V.sc (.int .u32 (0:Int))),(V.sc (.int .u32 (0:Int))),(V.sl 1 ([]:List (List V)))]) 0 (List.take 33 r2)))=35∧0+35≤70) (
 chk ((List.length (zl (List.replicate 32 (V.sc (.int .u8 (0:Int)))++[(V.sc (.int .u32 (0:Int))),(V.sc (.int .u32 (0:Int))),(V.sl 1 ([]:List (List V)))]) 0 (List.take 33 r2)))=35∧35+35≤(List.length (zl (List.replicate 32 (V.sc (.int .u8 (0:Int)))++[(V.sc (.int .u32 (0:Int))),(V.sc (.int .u32 (0:Int))),(V.sl 1 ([]:List (List V)))]++List.replicate 32 (V.sc (.int .u8 (0:Int)))++[(V.sc (.int .u32 (0:Int))),(V.sc (.int .u32 (0:Int))),(V.sl 1 ([]:List (List V)))]) 0 (zl (List.replicate 32 (V.sc (.int .u8 (0:Int)))++[(V.sc (.int .u32 (0:Int))),(V.sc (.int .u32 (0:Int))),(V.sl 1 ([]:List (List V)))]) 0 (List.take 33 r2))))) (
 lt [(V.sc (.int .u32 (0:Int))),(V.sl 35 (xi 35 2 (zl (zl (List.replicate 32 (V.sc (.int .u8 (0:Int)))++[(V.sc (.int .u32 (0:Int))),(V.sc (.int .u32 (0:Int))),(V.sl 1 ([]:List (List V)))]++List.replicate 32 (V.sc (.int .u8 (0:Int)))++[(V.sc (.int .u32 (0:Int))),(V.sc (.int .u32 (0:Int))),(V.sl 1 ([]:List (List V)))]) 0 (zl (List.replicate 32 (V.sc (.int .u8 (0:Int)))++[(V.sc (.int .u32 (0:Int))),(V.sc (.int .u32 (0:Int))),(V.sl 1 ([]:List (List V)))]) 0 (List.take 33 r2))) 35 (zl (List.replicate 32 (V.sc (.int .u8 (0:Int)))++[(V.sc (.int .u32 (0:Int))),(V.sc (.int .u32 (0:Int))),(V.sl 1 ([]:List (List V)))]) 0 (List.take 33 r2))))),(V.sl 2 (xi 2 1 [(V.sc (.int .i64 (0:Int))),(V.sl 1 ([]:List (List V)))])),(V.sc (.int .u32 (0:Int)))] fun r3 =>
 ifb ((v1:Int) == (0:Int)) (
 ifb ((((List.length v0:Nat):Int):Int) == (10:Int)) (
 zay β L [(V.sc (.int .u32 (0:Int))),(V.sl 35 ([]:List (List V))),(V.sl 2 ([]:List (List V))),(V.sc (.int .u32 (0:Int)))] (fun v4 =>
 ifb ((v4:Int) == (40:Int)) (
 chk (0+4≤(List.length r3)) (
 zaW β L (List.map V.dem (List.take 4 r3)) (fun v5 =>
 k_fin ((v5:Int) == (91:Int))))) (
 k_fin false))) (
 k_fin false)) (
 k_fin false))))))))
theorem zyc {β:Type} (xF:zfl) (zay:zmw) (zaW:zn1) (L:Nat) (k:KK β):xv zne (znw xF zay zaW L) L zjq [] [] k=zvk xF zay zaW L (fun p0=>k (V.sc (.bool p0)) []):=by kernel_rfl
abbrev zdb:=∀ (β:Type),Nat→(Bool→Option β)→Option β
def zH (β:Type) (L:Nat) (k_fin:Bool→Option β):Option β:=zvk xF zay zaW L k_fin
def zfF (zH:zdb) (L:Nat) (β:Type) (args:List V) (bor:Bor) (k:KK β):Option β:=match args,bor with
 | [],[]=>zH β L (fun p0=>k (V.sc (.bool p0)) [])
 | _,_=>none
theorem zxz (L:Nat) (β:Type) (args:List V) (bor:Bor) (k:KK β) (r:β) (h:zfF zH L β args bor k=some r):xv zne (znw xF zay zaW L) L zjq args bor k=some r:=by
 unfold zfF at h
 split at h
 ·exact (zyc xF zay zaW L k).trans h
 ·cases h
def zjk:CF:=⟨21,[.tmp 6],
 (.seq (.reg [oo 6 (.move (.const (.sc (.int .i64 0))) false)])
 (.seq (.seq (.reg [oo 7 (.move (tq 1) false),
   oo 8 (.bin .lss (tq 7) (.const (.sc (.int .i64 0)))),
   oo 9 (.move (tq 8) false),
   ⟨(some 10),false,(some (9,false)),.move (tq 1) false⟩,
   ⟨(some 11),false,(some (9,false)),.move (tq 0) false⟩,
   ⟨(some 12),false,(some (9,false)),.lenS (tq 11)⟩,
   ⟨(some 13),false,(some (9,false)),.bin .gtr (tq 10) (tq 12)⟩,
   oo 14 (.pick (tq 9) (.const (.sc (.bool true))) (tq 13))])
 (.cond (tq 14)
 (.seq (.reg [oo 6 (.move (.const (.sc (.int .i64 5))) false)])
 .ret)
 .skip))
 (.seq (.seq (.reg [oo 15 (.move (tq 0) false),
   oo 16 (.lenS (tq 15)),
   oo 17 (.move (tq 1) false),
   oo 18 (.bin .sub (tq 16) (tq 17)),
   oo 19 (.move (tq 2) false),
   oo 20 (.bin .lss (tq 18) (tq 19))])
 (.cond (tq 20)
 (.seq (.reg [oo 6 (.move (.const (.sc (.int .i64 1))) false)])
 .ret)
 .skip))
 (.seq (.reg [oo 6 (.move (.const (.sc (.int .i64 0))) false)])
 .ret))))⟩
def zpL:Hint:=⟨[],[],[none,none,none,none,none],[],[],false,false,[]⟩
def znv:Nat→Sh:=yL []
def znm (L:Nat):CBC:=noC
def zo7 {β:Type} (L:Nat) (p0:List (List V)) (p1 p2:Int) (k_fin:Int→Option β):Option β :=
 ifb (decide (p1 < (0:Int))) (
 k_fin (5:Int)) (
 ifb (decide (p1 > ((List.length p0:Nat):Int))) (
 k_fin (5:Int)) (
 lt (IntKind.wrap .i64 ((((List.length p0:Nat):Int):Int) - p1)) fun x0 =>
 ifb (decide (x0 < p2)) (
 k_fin (1:Int)) (
 k_fin (0:Int))))
theorem zyn {β:Type} (L:Nat) (p0:List (List V)) (p1 p2:Int) (k:KK β):xv znv (znm L) L zjk [(V.sl 1 p0),(V.sc (.int .i64 p1)),(V.sc (.int .i64 p2))] [] k=zo7 L p0 p1 p2 (fun p0=>k (V.sc (.int .i64 p0)) []):=by kernel_rfl
abbrev xp:=∀ (β:Type),Nat→List (List V)→Int→Int→(Int→Option β)→Option β
def yc (β:Type) (L:Nat) (p0:List (List V)) (p1 p2:Int) (k_fin:Int→Option β):Option β:=zo7 L p0 p1 p2 k_fin
def zc7 (yc:xp) (L:Nat) (β:Type) (args:List V) (bor:Bor) (k:KK β):Option β:=match args,bor with
 | [a0,a1,a2],[]=>aL 1 a0 fun p0=>aI .i64 a1 fun p1=>aI .i64 a2 fun p2=>yc β L p0 p1 p2 (fun p0=>k (V.sc (.int .i64 p0)) [])
 | _,_=>none
theorem zxD (L:Nat) (β:Type) (args:List V) (bor:Bor) (k:KK β) (r:β) (h:zc7 yc L β args bor k=some r):xv znv (znm L) L zjk args bor k=some r:=by
 unfold zc7 at h
 split at h
 ·have q:=xU h; clear h; obtain ⟨p0,rfl,h⟩:=q
  have q:=zI h; clear h; obtain ⟨p1,rfl,h⟩:=q
  have q:=zI h; clear h; obtain ⟨p2,rfl,h⟩:=q
  exact (zyn L p0 p1 p2 k).trans h
 ·cases h
def za3:CC:=(.seq (.reg [oo 21 (.bin .lss (tq 20) (tq 19))])
 (.seq (.cond (tq 21)
 .skip
 (.seq (.mask (bl 1030 40) (bl 1099511625727 40))
 (.exit 0)))
 (.seq (.block 1 (.seq (.reg [oo 22 (.move (tq 20) false),
   oo 11 (.move (tq 22) false)])
 (.reg [oo 23 (.move (tq 10) false),
   oo 24 (.move (tq 0) false),
   oo 25 (.move (tq 1) false),
   oo 26 (.move (tq 11) false),
   oo 27 (.bin .add (tq 25) (tq 26)),
   oo 28 (.indexAddrS 1 (tq 24) (tq 27)),
   oo 29 (.load false 1 (tq 28) false),
   oo 30 (.conv .u32 (tq 29)),
   oo 31 (.move (tq 11) false),
   oo 32 (.bin .mul (.const (.sc (.int .i64 8))) (tq 31)),
   oo 33 (.bin .shl (tq 30) (tq 32)),
   oo 34 (.bin .or (tq 23) (tq 33)),
   oo 10 (.move (tq 34) false)])))
 (.reg [oo 35 (.bin .add (tq 20) (.const (.sc (.int .i64 1)))),
   oo 20 (.move (tq 35) false)]))))
def zeE:CC:=(.seq (.reg [oo 36 (.move (tq 10) false),
   oo 37 (.move (tq 1) false),
   oo 38 (.move (tq 2) false),
   oo 39 (.bin .add (tq 37) (tq 38)),
   oo 6 (.move (tq 36) false),
   oo 7 (.move (tq 39) false),
   oo 8 (.move (.const (.sc (.int .i64 0))) false)])
 .ret)
def za0:CF:=⟨40,[.tmp 6,.tmp 7,.tmp 8],
 (.seq (.reg [oo 6 (.move (.const (.sc (.int .u32 0))) false),
   oo 7 (.move (.const (.sc (.int .i64 0))) false),
   oo 8 (.move (.const (.sc (.int .i64 0))) false)])
 (.seq (.seq (.reg [oo 12 (.move (tq 0) false),
   oo 13 (.move (tq 1) false),
   oo 14 (.move (tq 2) false),
   oo 15 (.call 198 [((tq 12),0),((tq 13),0),((tq 14),0)] []),
   oo 9 (.move (tq 15) false)])
 (.seq (.reg [oo 16 (.move (tq 9) false),
   oo 17 (.bin .neq (tq 16) (.const (.sc (.int .i64 0))))])
 (.cond (tq 17)
 (.seq (.reg [oo 18 (.move (tq 9) false),
   oo 6 (.move (.const (.sc (.int .u32 0))) false),
   oo 7 (.move (.const (.sc (.int .i64 0))) false),
   oo 8 (.move (tq 18) false)])
 .ret)
 .skip)))
 (.seq (.reg [oo 10 (.move (.const (.sc (.int .u32 0))) false)])
 (.seq (.seq (.reg [oo 19 (.move (tq 2) false),
   oo 20 (.move (.const (.sc (.int .i64 0))) false)])
 (.block 0 (.loop (bl 1573895 40) (bl 1099511625727 40)
 za3)))
 zeE))))⟩
def ziL:Hint:=⟨[],[],[none,none,none,some ((bl 1573895 40),(bl 1099511625727 40)),none,some ((bl 1030 40),(bl 1099511625727 40)),none,none],[],[],false,false,[]⟩
def xZ:Nat→Sh:=yL [(29,(.int .u8))]
def y5 (yc:xp) (L:Nat):CBC:=(zt 198 (zc7 yc L) noC)
def zca:St→St:=zV 0 (bl 1573895 40) (bl 1099511625727 40)
def zbI (p0:List (List V)) (p1 p2 p10 p19 p20:Int):St:=⟨((V.sl 1 p0)::((V.sc (.int .i64 p1))::((V.sc (.int .i64 p2))::(jn 7 ((V.sc (.int .u32 p10))::(jn 8 ((V.sc (.int .i64 p19))::((V.sc (.int .i64 p20))::(jn 19 []))))))))),(gn 40 [])⟩
def zeI (p1 p2 p10:Int):St:=⟨(jn 1 ((V.sc (.int .i64 p1))::((V.sc (.int .i64 p2))::(jn 7 ((V.sc (.int .u32 p10))::(jn 29 [])))))),(gn 40 [])⟩
def zgy {β:Type} (yc:xp) (L:Nat) (p0:List (List V)) (p1 p2:Int) (k_fin:Int→Int→Int→Option β) (k_hbbbaba:List (List V)→Int→Int→Int→Int→Int→Option β):Option β :=
 yc β L p0 p1 p2 (fun v0 =>
 ifb ((v0:Int) != (0:Int)) (
 k_fin (0:Int) (0:Int) v0) (
 k_hbbbaba p0 p1 p2 (0:Int) p2 (0:Int)))
theorem zqU {β:Type} (yc:xp) (L:Nat) (p0:List (List V)) (p1 p2:Int) (k:KK β):xv xZ (y5 yc L) L za0 [(V.sl 1 p0),(V.sc (.int .i64 p1)),(V.sc (.int .i64 p2))] [] k=zgy yc L p0 p1 p2 (fun zKX zKY zK1=>k (V.tup [(V.sc (.int .u32 zKX)),(V.sc (.int .i64 zKY)),(V.sc (.int .i64 zK1))]) []) (fun p0 p1 p2 p10 p19 p20=>xD (xj xZ (y5 yc L) 0 L za3) zca L (zbI p0 p1 p2 p10 p19 p20) (xu 0 (zQ (xj xZ (y5 yc L) 0 L zeE) (zW 0 (CF.res za0) k)))):=by kernel_rfl
def zdO {β:Type} (yc:xp) (L:Nat) (p0:List (List V)) (p1 p2 p10 p19 p20:Int) (k_hbbbaba:List (List V)→Int→Int→Int→Int→Int→Option β) (k_x0:Int→Int→Int→Option β):Option β :=
 ifb (decide (p20 < p19)) (
 lt (IntKind.wrap .i64 ((p1:Int)+p20)) fun x1 =>
 idx p0 x1 fun c2 =>
 cI .u8 c2 0 fun v3 =>
 lt (IntKind.wrap .u32 v3) fun x4 =>
 lt (IntKind.wrap .i64 (((8:Int):Int) * p20)) fun x5 =>
 chk (0≤x5) (
 lt (zs8 .u32 x4 x5) fun x6 =>
 lt (ior .u32 p10 x6) fun x7 =>
 lt (IntKind.wrap .i64 ((p20:Int)+(1:Int))) fun x8 =>
 k_hbbbaba p0 p1 p2 x7 p19 x8)) (
 k_x0 p1 p2 p10)
theorem zmj {β:Type} (yc:xp) (L:Nat) (p0:List (List V)) (p1 p2 p10 p19 p20:Int) (X:St→Option β) (K:KT β):xj xZ (y5 yc L) 0 L za3 (zbI p0 p1 p2 p10 p19 p20) (zah zca X K)=zdO yc L p0 p1 p2 p10 p19 p20 (fun p0 p1 p2 p10 p19 p20=>X (zbI p0 p1 p2 p10 p19 p20)) (fun p1 p2 p10=>K (.exit 0) (zeI p1 p2 p10)):=by kernel_rfl
def zda {β:Type} (yc:xp) (L:Nat) (p1 p2 p10:Int) (k_fin:Int→Int→Int→Option β):Option β :=
 lt (IntKind.wrap .i64 ((p1:Int)+p2)) fun x9 =>
 k_fin p10 x9 (0:Int)
theorem zlg {β:Type} (yc:xp) (L:Nat) (p1 p2 p10:Int) (k:KK β):(xu 0 (zQ (xj xZ (y5 yc L) 0 L zeE) (zW 0 (CF.res za0) k))) (.exit 0) (zeI p1 p2 p10)=zda yc L p1 p2 p10 (fun zKX zKY zK1=>k (V.tup [(V.sc (.int .u32 zKX)),(V.sc (.int .i64 zKY)),(V.sc (.int .i64 zK1))]) []):=by kernel_rfl
def zbq {β:Type} (yc:xp) (L:Nat) (k_x0:Int→Int→Int→Option β):Nat→List (List V)→Int→Int→Int→Int→Int→Option β
 | 0,_,_,_,_,_,_=>none
 | n+1,p0,p1,p2,p10,p19,p20=>zdO yc L p0 p1 p2 p10 p19 p20 (fun p0 p1 p2 p10 p19 p20=>zbq yc L k_x0 n p0 p1 p2 p10 p19 p20) k_x0
theorem zfB {β:Type} (yc:xp) (L:Nat) (K:KT β):∀ (n:Nat) (p0:List (List V)) (p1 p2 p10 p19 p20:Int),xD (xj xZ (y5 yc L) 0 L za3) zca n (zbI p0 p1 p2 p10 p19 p20) K=zbq yc L (fun p1 p2 p10=>K (.exit 0) (zeI p1 p2 p10)) n p0 p1 p2 p10 p19 p20:=by
 intro n
 induction n with
 | zero=>intros; rfl
 | succ n ih =>
  intro p0 p1 p2 p10 p19 p20
  refine (zmj yc L p0 p1 p2 p10 p19 p20 (fun σ=>xD (xj xZ (y5 yc L) 0 L za3) zca n σ K) K).trans ?_
  simp only [ih]
  rfl
def zeo {β:Type} (yc:xp) (L:Nat) (p0:List (List V)) (p1 p2:Int) (k_fin:Int→Int→Int→Option β):Option β :=
 zgy yc L p0 p1 p2 k_fin (fun p0 p1 p2 p10 p19 p20=>zbq yc L (fun p1 p2 p10=>zda yc L p1 p2 p10 k_fin) L p0 p1 p2 p10 p19 p20)
theorem zqP {β:Type} (yc:xp) (L:Nat) (p0:List (List V)) (p1 p2:Int) (k:KK β):xv xZ (y5 yc L) L za0 [(V.sl 1 p0),(V.sc (.int .i64 p1)),(V.sc (.int .i64 p2))] [] k=zeo yc L p0 p1 p2 (fun zKX zKY zK1=>k (V.tup [(V.sc (.int .u32 zKX)),(V.sc (.int .i64 zKY)),(V.sc (.int .i64 zK1))]) []):=by
 refine (zqU yc L p0 p1 p2 k).trans ?_
 unfold zeo
 first
  | (simp only [zfB,zlg]; done)
  | (simp only [zfB]; rfl)
abbrev zet:=∀ (β:Type),Nat→List (List V)→Int→Int→(Int→Int→Int→Option β)→Option β
def yI (β:Type) (L:Nat) (p0:List (List V)) (p1 p2:Int) (k_fin:Int→Int→Int→Option β):Option β:=zeo yc L p0 p1 p2 k_fin
def zeg (yI:zet) (L:Nat) (β:Type) (args:List V) (bor:Bor) (k:KK β):Option β:=match args,bor with
 | [a0,a1,a2],[]=>aL 1 a0 fun p0=>aI .i64 a1 fun p1=>aI .i64 a2 fun p2=>yI β L p0 p1 p2 (fun zKX zKY zK1=>k (V.tup [(V.sc (.int .u32 zKX)),(V.sc (.int .i64 zKY)),(V.sc (.int .i64 zK1))]) [])
 | _,_=>none
theorem zqr (L:Nat) (β:Type) (args:List V) (bor:Bor) (k:KK β) (r:β) (h:zeg yI L β args bor k=some r):xv xZ (y5 yc L) L za0 args bor k=some r:=by
 unfold zeg at h
 split at h
 ·have q:=xU h; clear h; obtain ⟨p0,rfl,h⟩:=q
  have q:=zI h; clear h; obtain ⟨p1,rfl,h⟩:=q
  have q:=zI h; clear h; obtain ⟨p2,rfl,h⟩:=q
  exact (zqP yc L p0 p1 p2 k).trans h
 ·cases h
def zkS:CF:=⟨13,[.tmp 4,.tmp 5,.tmp 6],
 (.seq (.reg [oo 4 (.move (.const (.sc (.int .u32 0))) false),
   oo 5 (.move (.const (.sc (.int .i64 0))) false),
   oo 6 (.move (.const (.sc (.int .i64 0))) false)])
 (.seq (.reg [oo 7 (.move (tq 0) false),
   oo 8 (.move (tq 1) false),
   oo 9 (.call 197 [((tq 7),0),((tq 8),0),((.const (.sc (.int .i64 4))),0)] []),
   oo 10 (.pull (tq 9) 0),
   oo 11 (.pull (tq 9) 1),
   oo 12 (.pull (tq 9) 2),
   oo 4 (.move (tq 10) false),
   oo 5 (.move (tq 11) false),
   oo 6 (.move (tq 12) false)])
 .ret))⟩
def zrw:Hint:=⟨[],[],[none],[],[],false,false,[]⟩
def zoY:Nat→Sh:=yL []
def zoS (yI:zet) (L:Nat):CBC:=(zt 197 (zeg yI L) noC)
def zqv {β:Type} (yI:zet) (L:Nat) (p0:List (List V)) (p1:Int) (k_fin:Int→Int→Int→Option β):Option β :=
 yI β L p0 p1 (4:Int) (fun v0 v1 v2 =>
 k_fin v0 v1 v2)
theorem zyA {β:Type} (yI:zet) (L:Nat) (p0:List (List V)) (p1:Int) (k:KK β):xv zoY (zoS yI L) L zkS [(V.sl 1 p0),(V.sc (.int .i64 p1))] [] k=zqv yI L p0 p1 (fun zKX zKY zK1=>k (V.tup [(V.sc (.int .u32 zKX)),(V.sc (.int .i64 zKY)),(V.sc (.int .i64 zK1))]) []):=by kernel_rfl
abbrev zfi:=∀ (β:Type),Nat→List (List V)→Int→(Int→Int→Int→Option β)→Option β
def xK (β:Type) (L:Nat) (p0:List (List V)) (p1:Int) (k_fin:Int→Int→Int→Option β):Option β:=zqv yI L p0 p1 k_fin
def ziS (xK:zfi) (L:Nat) (β:Type) (args:List V) (bor:Bor) (k:KK β):Option β:=match args,bor with
 | [a0,a1],[]=>aL 1 a0 fun p0=>aI .i64 a1 fun p1=>xK β L p0 p1 (fun zKX zKY zK1=>k (V.tup [(V.sc (.int .u32 zKX)),(V.sc (.int .i64 zKY)),(V.sc (.int .i64 zK1))]) [])
 | _,_=>none
theorem zyR (L:Nat) (β:Type) (args:List V) (bor:Bor) (k:KK β) (r:β) (h:ziS xK L β args bor k=some r):xv zoY (zoS yI L) L zkS args bor k=some r:=by
 unfold ziS at h
 split at h
 ·have q:=xU h; clear h; obtain ⟨p0,rfl,h⟩:=q
  have q:=zI h; clear h; obtain ⟨p1,rfl,h⟩:=q
  exact (zyA yI L p0 p1 k).trans h
 ·cases h
def zfv:CF:=⟨41,[.tmp 4],
 (.seq (.reg [oo 4 (.move (.const (.sc (.int .u32 0))) false)])
 (.seq (.reg [oo 5 (.move (.const (.sc (.int .u32 0))) false)])
 (.seq (.seq (.reg [oo 9 (.move (tq 0) false),
   oo 10 (.nilCheck (tq 9)),
   oo 11 (.fieldAddr 2 (tq 10)),
   oo 12 (.load false 1 (tq 11) false),
   oo 13 (.bin .neq (tq 12) (.const (.sc (.int .i64 0))))])
 (.cond (tq 13)
 (.seq (.reg [oo 14 (.move (tq 5) false),
   oo 4 (.move (tq 14) false)])
 .ret)
 .skip))
 (.seq (.dreg [] [(oo 16 (.move (tq 1) false),q0),
   (oo 17 (.move (tq 0) false),q0),
   (oo 18 (.nilCheck (tq 17)),q0),
   (oo 19 (.fieldAddr 0 (tq 18)),q0),
   (oo 20 (.load false 1 (tq 19) false),ql 0 [] []),
   (oo 21 (.move (tq 0) false),q0),
   (oo 22 (.nilCheck (tq 21)),q0),
   (oo 23 (.fieldAddr 1 (tq 22)),q0),
   (oo 24 (.load false 1 (tq 23) false),ql 0 [] []),
   (oo 25 (.callv (tq 16) [((tq 20),0),((tq 24),0)] []),q0),
   (oo 15 (.move (tq 25) true),q0),
   (oo 26 (.pull (tq 15) 0),q0),
   (oo 27 (.pull (tq 15) 1),q0),
   (oo 28 (.pull (tq 15) 2),q0),
   (oo 6 (.move (tq 26) false),q0),
   (oo 7 (.move (tq 27) false),q0),
   (oo 8 (.move (tq 28) false),q0)])
 (.seq (.seq (.reg [oo 29 (.move (tq 8) false),
   oo 30 (.bin .neq (tq 29) (.const (.sc (.int .i64 0))))])
 (.cond (tq 30)
 (.seq (.reg [oo 31 (.move (tq 0) false),
   oo 32 (.move (tq 8) false),
   oo 33 (.nilCheck (tq 31)),
   oo 34 (.fieldAddr 2 (tq 33)),
   oz (.store 1 (tq 34) (tq 32))])
 (.seq (.reg [oo 35 (.move (tq 5) false),
   oo 4 (.move (tq 35) false)])
 .ret))
 .skip))
 (.seq (.reg [oo 36 (.move (tq 0) false),
   oo 37 (.move (tq 7) false),
   oo 38 (.nilCheck (tq 36)),
   oo 39 (.fieldAddr 1 (tq 38)),
   oz (.store 1 (tq 39) (tq 37))])
 (.seq (.reg [oo 40 (.move (tq 6) false),
   oo 4 (.move (tq 40) false)])
 .ret)))))))⟩
def zlG:Hint:=⟨[(4,10)],[],[none,none,none,none,none],[],[],false,false,[]⟩
def ziz:Nat→Sh:=yL []
def ziy (xK:zfi) (L:Nat):CBC:=(zt 170 (ziS xK L) noC)
def zf9 {β:Type} (xK:zfi) (L:Nat) (zKR:List (List V)) (zKU zKV:Int) (k_fin:Int→List (List V)→Int→Int→Option β):Option β :=
 ifb ((zKV:Int) != (0:Int)) (
 k_fin (0:Int) zKR zKU zKV) (
 xK β L zKR zKU (fun v0 v1 v2 =>
 ifb ((v2:Int) != (0:Int)) (
 k_fin (0:Int) zKR zKU v2) (
 k_fin v0 zKR v1 zKV)))
theorem ztT {β:Type} (xK:zfi) (L:Nat) (zKR:List (List V)) (zKU zKV:Int) (k:KK β):xv ziz (ziy xK L) L zfv [(V.ptr 0 0),(V.fn 170 [])] [(.live false [(V.sl 1 zKR),(V.sc (.int .i64 zKU)),(V.sc (.int .i64 zKV))])] k=zf9 xK L zKR zKU zKV (fun p0 zKR zKU zKV=>k (V.sc (.int .u32 p0)) [(.live false [(V.sl 1 zKR),(V.sc (.int .i64 zKU)),(V.sc (.int .i64 zKV))])]):=by kernel_rfl
abbrev zp:=∀ (β:Type),Nat→List (List V)→Int→Int→(Int→List (List V)→Int→Int→Option β)→Option β
def xa (β:Type) (L:Nat) (zKR:List (List V)) (zKU zKV:Int) (k_fin:Int→List (List V)→Int→Int→Option β):Option β:=zf9 xK L zKR zKU zKV k_fin
def zge (xa:zp) (L:Nat) (β:Type) (args:List V) (bor:Bor) (k:KK β):Option β:=match args,bor with
 | [a0,a1],[(.live false [w0_0,w0_1,w0_2])]=>aP 0 0 a0 (aF 170 [] a1 (aL 1 w0_0 fun zKR=>aI .i64 w0_1 fun zKU=>aI .i64 w0_2 fun zKV=>xa β L zKR zKU zKV (fun p0 zKR zKU zKV=>k (V.sc (.int .u32 p0)) [(.live false [(V.sl 1 zKR),(V.sc (.int .i64 zKU)),(V.sc (.int .i64 zKV))])])))
 | _,_=>none
theorem ztA (L:Nat) (β:Type) (args:List V) (bor:Bor) (k:KK β) (r:β) (h:zge xa L β args bor k=some r):xv ziz (ziy xK L) L zfv args bor k=some r:=by
 unfold zge at h
 split at h
 ·have q:=zhB h; clear h; obtain ⟨rfl,h⟩:=q
  have q:=zu1 h; clear h; obtain ⟨rfl,h⟩:=q
  have q:=xU h; clear h; obtain ⟨zKR,rfl,h⟩:=q
  have q:=zI h; clear h; obtain ⟨zKU,rfl,h⟩:=q
  have q:=zI h; clear h; obtain ⟨zKV,rfl,h⟩:=q
  exact (ztT xK L zKR zKU zKV k).trans h
 ·cases h
def zbo:CC:=(.seq (.reg [oo 21 (.bin .lss (tq 20) (tq 19))])
 (.seq (.cond (tq 21)
 .skip
 (.seq (.mask (bl 1030 39) (bl 549755811839 39))
 (.exit 0)))
 (.seq (.block 1 (.seq (.reg [oo 22 (.move (tq 20) false),
   oo 11 (.move (tq 22) false)])
 (.reg [oo 23 (.move (tq 10) false),
   oo 24 (.move (tq 0) false),
   oo 25 (.move (tq 1) false),
   oo 26 (.move (tq 11) false),
   oo 27 (.bin .add (tq 25) (tq 26)),
   oo 28 (.indexAddrS 1 (tq 24) (tq 27)),
   oo 29 (.load false 1 (tq 28) false),
   oo 30 (.move (tq 11) false),
   oo 31 (.bin .mul (.const (.sc (.int .i64 8))) (tq 30)),
   oo 32 (.bin .shl (tq 29) (tq 31)),
   oo 33 (.bin .or (tq 23) (tq 32)),
   oo 10 (.move (tq 33) false)])))
 (.reg [oo 34 (.bin .add (tq 20) (.const (.sc (.int .i64 1)))),
   oo 20 (.move (tq 34) false)]))))
def zfk:CC:=(.seq (.reg [oo 35 (.move (tq 10) false),
   oo 36 (.move (tq 1) false),
   oo 37 (.move (tq 2) false),
   oo 38 (.bin .add (tq 36) (tq 37)),
   oo 6 (.move (tq 35) false),
   oo 7 (.move (tq 38) false),
   oo 8 (.move (.const (.sc (.int .i64 0))) false)])
 .ret)
def zbh:CF:=⟨39,[.tmp 6,.tmp 7,.tmp 8],
 (.seq (.reg [oo 6 (.move (.const (.sc (.int .u8 0))) false),
   oo 7 (.move (.const (.sc (.int .i64 0))) false),
   oo 8 (.move (.const (.sc (.int .i64 0))) false)])
 (.seq (.seq (.reg [oo 12 (.move (tq 0) false),
   oo 13 (.move (tq 1) false),
   oo 14 (.move (tq 2) false),
   oo 15 (.call 198 [((tq 12),0),((tq 13),0),((tq 14),0)] []),
   oo 9 (.move (tq 15) false)])
 (.seq (.reg [oo 16 (.move (tq 9) false),
   oo 17 (.bin .neq (tq 16) (.const (.sc (.int .i64 0))))])
 (.cond (tq 17)
 (.seq (.reg [oo 18 (.move (tq 9) false),
   oo 6 (.move (.const (.sc (.int .u8 0))) false),
   oo 7 (.move (.const (.sc (.int .i64 0))) false),
   oo 8 (.move (tq 18) false)])
 .ret)
 .skip)))
 (.seq (.reg [oo 10 (.move (.const (.sc (.int .u8 0))) false)])
 (.seq (.seq (.reg [oo 19 (.move (tq 2) false),
   oo 20 (.move (.const (.sc (.int .i64 0))) false)])
 (.block 0 (.loop (bl 1573895 39) (bl 549755811839 39)
 zbo)))
 zfk))))⟩
def zkc:Hint:=⟨[],[],[none,none,none,some ((bl 1573895 39),(bl 549755811839 39)),none,some ((bl 1030 39),(bl 549755811839 39)),none,none],[],[],false,false,[]⟩
def zab:Nat→Sh:=yL [(29,(.int .u8))]
def zaa (yc:xp) (L:Nat):CBC:=(zt 198 (zc7 yc L) noC)
def zcs:St→St:=zV 0 (bl 1573895 39) (bl 549755811839 39)
def zbQ (p0:List (List V)) (p1 p2 p10 p19 p20:Int):St:=⟨((V.sl 1 p0)::((V.sc (.int .i64 p1))::((V.sc (.int .i64 p2))::(jn 7 ((V.sc (.int .u8 p10))::(jn 8 ((V.sc (.int .i64 p19))::((V.sc (.int .i64 p20))::(jn 18 []))))))))),(gn 39 [])⟩
def zfg (p1 p2 p10:Int):St:=⟨(jn 1 ((V.sc (.int .i64 p1))::((V.sc (.int .i64 p2))::(jn 7 ((V.sc (.int .u8 p10))::(jn 28 [])))))),(gn 39 [])⟩
def zhO {β:Type} (yc:xp) (L:Nat) (p0:List (List V)) (p1 p2:Int) (k_fin:Int→Int→Int→Option β) (k_hbbbaba:List (List V)→Int→Int→Int→Int→Int→Option β):Option β :=
 yc β L p0 p1 p2 (fun v0 =>
 ifb ((v0:Int) != (0:Int)) (
 k_fin (0:Int) (0:Int) v0) (
 k_hbbbaba p0 p1 p2 (0:Int) p2 (0:Int)))
theorem zq9 {β:Type} (yc:xp) (L:Nat) (p0:List (List V)) (p1 p2:Int) (k:KK β):xv zab (zaa yc L) L zbh [(V.sl 1 p0),(V.sc (.int .i64 p1)),(V.sc (.int .i64 p2))] [] k=zhO yc L p0 p1 p2 (fun zKX zKY zK1=>k (V.tup [(V.sc (.int .u8 zKX)),(V.sc (.int .i64 zKY)),(V.sc (.int .i64 zK1))]) []) (fun p0 p1 p2 p10 p19 p20=>xD (xj zab (zaa yc L) 0 L zbo) zcs L (zbQ p0 p1 p2 p10 p19 p20) (xu 0 (zQ (xj zab (zaa yc L) 0 L zfk) (zW 0 (CF.res zbh) k)))):=by kernel_rfl
def zd5 {β:Type} (yc:xp) (L:Nat) (p0:List (List V)) (p1 p2 p10 p19 p20:Int) (k_hbbbaba:List (List V)→Int→Int→Int→Int→Int→Option β) (k_x0:Int→Int→Int→Option β):Option β :=
 ifb (decide (p20 < p19)) (
 lt (IntKind.wrap .i64 ((p1:Int)+p20)) fun x1 =>
 idx p0 x1 fun c2 =>
 cI .u8 c2 0 fun v3 =>
 lt (IntKind.wrap .i64 (((8:Int):Int) * p20)) fun x4 =>
 chk (0≤x4) (
 lt (zs8 .u8 v3 x4) fun x5 =>
 lt (ior .u8 p10 x5) fun x6 =>
 lt (IntKind.wrap .i64 ((p20:Int)+(1:Int))) fun x7 =>
 k_hbbbaba p0 p1 p2 x6 p19 x7)) (
 k_x0 p1 p2 p10)
theorem zm1 {β:Type} (yc:xp) (L:Nat) (p0:List (List V)) (p1 p2 p10 p19 p20:Int) (X:St→Option β) (K:KT β):xj zab (zaa yc L) 0 L zbo (zbQ p0 p1 p2 p10 p19 p20) (zah zcs X K)=zd5 yc L p0 p1 p2 p10 p19 p20 (fun p0 p1 p2 p10 p19 p20=>X (zbQ p0 p1 p2 p10 p19 p20)) (fun p1 p2 p10=>K (.exit 0) (zfg p1 p2 p10)):=by kernel_rfl
def zdt {β:Type} (yc:xp) (L:Nat) (p1 p2 p10:Int) (k_fin:Int→Int→Int→Option β):Option β :=
 lt (IntKind.wrap .i64 ((p1:Int)+p2)) fun x8 =>
 k_fin p10 x8 (0:Int)
theorem zlz {β:Type} (yc:xp) (L:Nat) (p1 p2 p10:Int) (k:KK β):(xu 0 (zQ (xj zab (zaa yc L) 0 L zfk) (zW 0 (CF.res zbh) k))) (.exit 0) (zfg p1 p2 p10)=zdt yc L p1 p2 p10 (fun zKX zKY zK1=>k (V.tup [(V.sc (.int .u8 zKX)),(V.sc (.int .i64 zKY)),(V.sc (.int .i64 zK1))]) []):=by kernel_rfl
def zbA {β:Type} (yc:xp) (L:Nat) (k_x0:Int→Int→Int→Option β):Nat→List (List V)→Int→Int→Int→Int→Int→Option β
 | 0,_,_,_,_,_,_=>none
 | n+1,p0,p1,p2,p10,p19,p20=>zd5 yc L p0 p1 p2 p10 p19 p20 (fun p0 p1 p2 p10 p19 p20=>zbA yc L k_x0 n p0 p1 p2 p10 p19 p20) k_x0
theorem zfV {β:Type} (yc:xp) (L:Nat) (K:KT β):∀ (n:Nat) (p0:List (List V)) (p1 p2 p10 p19 p20:Int),xD (xj zab (zaa yc L) 0 L zbo) zcs n (zbQ p0 p1 p2 p10 p19 p20) K=zbA yc L (fun p1 p2 p10=>K (.exit 0) (zfg p1 p2 p10)) n p0 p1 p2 p10 p19 p20:=by
 intro n
 induction n with
 | zero=>intros; rfl
 | succ n ih =>
  intro p0 p1 p2 p10 p19 p20
  refine (zm1 yc L p0 p1 p2 p10 p19 p20 (fun σ=>xD (xj zab (zaa yc L) 0 L zbo) zcs n σ K) K).trans ?_
  simp only [ih]
  rfl
def ze0 {β:Type} (yc:xp) (L:Nat) (p0:List (List V)) (p1 p2:Int) (k_fin:Int→Int→Int→Option β):Option β :=
 zhO yc L p0 p1 p2 k_fin (fun p0 p1 p2 p10 p19 p20=>zbA yc L (fun p1 p2 p10=>zdt yc L p1 p2 p10 k_fin) L p0 p1 p2 p10 p19 p20)
theorem zrR {β:Type} (yc:xp) (L:Nat) (p0:List (List V)) (p1 p2:Int) (k:KK β):xv zab (zaa yc L) L zbh [(V.sl 1 p0),(V.sc (.int .i64 p1)),(V.sc (.int .i64 p2))] [] k=ze0 yc L p0 p1 p2 (fun zKX zKY zK1=>k (V.tup [(V.sc (.int .u8 zKX)),(V.sc (.int .i64 zKY)),(V.sc (.int .i64 zK1))]) []):=by
 refine (zq9 yc L p0 p1 p2 k).trans ?_
 unfold ze0
 first
  | (simp only [zfV,zlz]; done)
  | (simp only [zfV]; rfl)
abbrev zeP:=∀ (β:Type),Nat→List (List V)→Int→Int→(Int→Int→Int→Option β)→Option β
def xL (β:Type) (L:Nat) (p0:List (List V)) (p1 p2:Int) (k_fin:Int→Int→Int→Option β):Option β:=ze0 yc L p0 p1 p2 k_fin
def zeM (xL:zeP) (L:Nat) (β:Type) (args:List V) (bor:Bor) (k:KK β):Option β:=match args,bor with
 | [a0,a1,a2],[]=>aL 1 a0 fun p0=>aI .i64 a1 fun p1=>aI .i64 a2 fun p2=>xL β L p0 p1 p2 (fun zKX zKY zK1=>k (V.tup [(V.sc (.int .u8 zKX)),(V.sc (.int .i64 zKY)),(V.sc (.int .i64 zK1))]) [])
 | _,_=>none
theorem zra (L:Nat) (β:Type) (args:List V) (bor:Bor) (k:KK β) (r:β) (h:zeM xL L β args bor k=some r):xv zab (zaa yc L) L zbh args bor k=some r:=by
 unfold zeM at h
 split at h
 ·have q:=xU h; clear h; obtain ⟨p0,rfl,h⟩:=q
  have q:=zI h; clear h; obtain ⟨p1,rfl,h⟩:=q
  have q:=zI h; clear h; obtain ⟨p2,rfl,h⟩:=q
  exact (zrR yc L p0 p1 p2 k).trans h
 ·cases h
def zmz:CF:=⟨13,[.tmp 4,.tmp 5,.tmp 6],
 (.seq (.reg [oo 4 (.move (.const (.sc (.int .u8 0))) false),
   oo 5 (.move (.const (.sc (.int .i64 0))) false),
   oo 6 (.move (.const (.sc (.int .i64 0))) false)])
 (.seq (.reg [oo 7 (.move (tq 0) false),
   oo 8 (.move (tq 1) false),
   oo 9 (.call 207 [((tq 7),0),((tq 8),0),((.const (.sc (.int .i64 1))),0)] []),
   oo 10 (.pull (tq 9) 0),
   oo 11 (.pull (tq 9) 1),
   oo 12 (.pull (tq 9) 2),
   oo 4 (.move (tq 10) false),
   oo 5 (.move (tq 11) false),
   oo 6 (.move (tq 12) false)])
 .ret))⟩
def zto:Hint:=⟨[],[],[none],[],[],false,false,[]⟩
def zqt:Nat→Sh:=yL []
def zqI (xL:zeP) (L:Nat):CBC:=(zt 207 (zeM xL L) noC)
def zs7 {β:Type} (xL:zeP) (L:Nat) (p0:List (List V)) (p1:Int) (k_fin:Int→Int→Int→Option β):Option β :=
 xL β L p0 p1 (1:Int) (fun v0 v1 v2 =>
 k_fin v0 v1 v2)
theorem zAk {β:Type} (xL:zeP) (L:Nat) (p0:List (List V)) (p1:Int) (k:KK β):xv zqt (zqI xL L) L zmz [(V.sl 1 p0),(V.sc (.int .i64 p1))] [] k=zs7 xL L p0 p1 (fun zKX zKY zK1=>k (V.tup [(V.sc (.int .u8 zKX)),(V.sc (.int .i64 zKY)),(V.sc (.int .i64 zK1))]) []):=by kernel_rfl
abbrev zn9:=∀ (β:Type),Nat→List (List V)→Int→(Int→Int→Int→Option β)→Option β
def zaw (β:Type) (L:Nat) (p0:List (List V)) (p1:Int) (k_fin:Int→Int→Int→Option β):Option β:=zs7 xL L p0 p1 k_fin
def znW (zaw:zn9) (L:Nat) (β:Type) (args:List V) (bor:Bor) (k:KK β):Option β:=match args,bor with
 | [a0,a1],[]=>aL 1 a0 fun p0=>aI .i64 a1 fun p1=>zaw β L p0 p1 (fun zKX zKY zK1=>k (V.tup [(V.sc (.int .u8 zKX)),(V.sc (.int .i64 zKY)),(V.sc (.int .i64 zK1))]) [])
 | _,_=>none
theorem zAB (L:Nat) (β:Type) (args:List V) (bor:Bor) (k:KK β) (r:β) (h:znW zaw L β args bor k=some r):xv zqt (zqI xL L) L zmz args bor k=some r:=by
 unfold znW at h
 split at h
 ·have q:=xU h; clear h; obtain ⟨p0,rfl,h⟩:=q
  have q:=zI h; clear h; obtain ⟨p1,rfl,h⟩:=q
  exact (zAk xL L p0 p1 k).trans h
 ·cases h
def za8:CC:=(.seq (.reg [oo 21 (.bin .lss (tq 20) (tq 19))])
 (.seq (.cond (tq 21)
 .skip
 (.seq (.mask (bl 1030 40) (bl 1099511625727 40))
 (.exit 0)))
 (.seq (.block 1 (.seq (.reg [oo 22 (.move (tq 20) false),
   oo 11 (.move (tq 22) false)])
 (.reg [oo 23 (.move (tq 10) false),
   oo 24 (.move (tq 0) false),
   oo 25 (.move (tq 1) false),
   oo 26 (.move (tq 11) false),
   oo 27 (.bin .add (tq 25) (tq 26)),
   oo 28 (.indexAddrS 1 (tq 24) (tq 27)),
   oo 29 (.load false 1 (tq 28) false),
   oo 30 (.conv .u16 (tq 29)),
   oo 31 (.move (tq 11) false),
   oo 32 (.bin .mul (.const (.sc (.int .i64 8))) (tq 31)),
   oo 33 (.bin .shl (tq 30) (tq 32)),
   oo 34 (.bin .or (tq 23) (tq 33)),
   oo 10 (.move (tq 34) false)])))
 (.reg [oo 35 (.bin .add (tq 20) (.const (.sc (.int .i64 1)))),
   oo 20 (.move (tq 35) false)]))))
def zeF:CC:=(.seq (.reg [oo 36 (.move (tq 10) false),
   oo 37 (.move (tq 1) false),
   oo 38 (.move (tq 2) false),
   oo 39 (.bin .add (tq 37) (tq 38)),
   oo 6 (.move (tq 36) false),
   oo 7 (.move (tq 39) false),
   oo 8 (.move (.const (.sc (.int .i64 0))) false)])
 .ret)
def za1:CF:=⟨40,[.tmp 6,.tmp 7,.tmp 8],
 (.seq (.reg [oo 6 (.move (.const (.sc (.int .u16 0))) false),
   oo 7 (.move (.const (.sc (.int .i64 0))) false),
   oo 8 (.move (.const (.sc (.int .i64 0))) false)])
 (.seq (.seq (.reg [oo 12 (.move (tq 0) false),
   oo 13 (.move (tq 1) false),
   oo 14 (.move (tq 2) false),
   oo 15 (.call 198 [((tq 12),0),((tq 13),0),((tq 14),0)] []),
   oo 9 (.move (tq 15) false)])
 (.seq (.reg [oo 16 (.move (tq 9) false),
   oo 17 (.bin .neq (tq 16) (.const (.sc (.int .i64 0))))])
 (.cond (tq 17)
 (.seq (.reg [oo 18 (.move (tq 9) false),
   oo 6 (.move (.const (.sc (.int .u16 0))) false),
   oo 7 (.move (.const (.sc (.int .i64 0))) false),
   oo 8 (.move (tq 18) false)])
 .ret)
 .skip)))
 (.seq (.reg [oo 10 (.move (.const (.sc (.int .u16 0))) false)])
 (.seq (.seq (.reg [oo 19 (.move (tq 2) false),
   oo 20 (.move (.const (.sc (.int .i64 0))) false)])
 (.block 0 (.loop (bl 1573895 40) (bl 1099511625727 40)
 za8)))
 zeF))))⟩
def zi5:Hint:=⟨[],[],[none,none,none,some ((bl 1573895 40),(bl 1099511625727 40)),none,some ((bl 1030 40),(bl 1099511625727 40)),none,none],[],[],false,false,[]⟩
def zZ:Nat→Sh:=yL [(29,(.int .u8))]
def xY (yc:xp) (L:Nat):CBC:=(zt 198 (zc7 yc L) noC)
def zcb:St→St:=zV 0 (bl 1573895 40) (bl 1099511625727 40)
def zbJ (p0:List (List V)) (p1 p2 p10 p19 p20:Int):St:=⟨((V.sl 1 p0)::((V.sc (.int .i64 p1))::((V.sc (.int .i64 p2))::(jn 7 ((V.sc (.int .u16 p10))::(jn 8 ((V.sc (.int .i64 p19))::((V.sc (.int .i64 p20))::(jn 19 []))))))))),(gn 40 [])⟩
def zeG (p1 p2 p10:Int):St:=⟨(jn 1 ((V.sc (.int .i64 p1))::((V.sc (.int .i64 p2))::(jn 7 ((V.sc (.int .u16 p10))::(jn 29 [])))))),(gn 40 [])⟩
def zgA {β:Type} (yc:xp) (L:Nat) (p0:List (List V)) (p1 p2:Int) (k_fin:Int→Int→Int→Option β) (k_hbbbaba:List (List V)→Int→Int→Int→Int→Int→Option β):Option β :=
 yc β L p0 p1 p2 (fun v0 =>
 ifb ((v0:Int) != (0:Int)) (
 k_fin (0:Int) (0:Int) v0) (
 k_hbbbaba p0 p1 p2 (0:Int) p2 (0:Int)))
theorem zqi {β:Type} (yc:xp) (L:Nat) (p0:List (List V)) (p1 p2:Int) (k:KK β):xv zZ (xY yc L) L za1 [(V.sl 1 p0),(V.sc (.int .i64 p1)),(V.sc (.int .i64 p2))] [] k=zgA yc L p0 p1 p2 (fun zKX zKY zK1=>k (V.tup [(V.sc (.int .u16 zKX)),(V.sc (.int .i64 zKY)),(V.sc (.int .i64 zK1))]) []) (fun p0 p1 p2 p10 p19 p20=>xD (xj zZ (xY yc L) 0 L za8) zcb L (zbJ p0 p1 p2 p10 p19 p20) (xu 0 (zQ (xj zZ (xY yc L) 0 L zeF) (zW 0 (CF.res za1) k)))):=by kernel_rfl
def zdG {β:Type} (yc:xp) (L:Nat) (p0:List (List V)) (p1 p2 p10 p19 p20:Int) (k_hbbbaba:List (List V)→Int→Int→Int→Int→Int→Option β) (k_x0:Int→Int→Int→Option β):Option β :=
 ifb (decide (p20 < p19)) (
 lt (IntKind.wrap .i64 ((p1:Int)+p20)) fun x1 =>
 idx p0 x1 fun c2 =>
 cI .u8 c2 0 fun v3 =>
 lt (IntKind.wrap .u16 v3) fun x4 =>
 lt (IntKind.wrap .i64 (((8:Int):Int) * p20)) fun x5 =>
 chk (0≤x5) (
 lt (zs8 .u16 x4 x5) fun x6 =>
 lt (ior .u16 p10 x6) fun x7 =>
 lt (IntKind.wrap .i64 ((p20:Int)+(1:Int))) fun x8 =>
 k_hbbbaba p0 p1 p2 x7 p19 x8)) (
 k_x0 p1 p2 p10)
theorem zmc {β:Type} (yc:xp) (L:Nat) (p0:List (List V)) (p1 p2 p10 p19 p20:Int) (X:St→Option β) (K:KT β):xj zZ (xY yc L) 0 L za8 (zbJ p0 p1 p2 p10 p19 p20) (zah zcb X K)=zdG yc L p0 p1 p2 p10 p19 p20 (fun p0 p1 p2 p10 p19 p20=>X (zbJ p0 p1 p2 p10 p19 p20)) (fun p1 p2 p10=>K (.exit 0) (zeG p1 p2 p10)):=by kernel_rfl
def zde {β:Type} (yc:xp) (L:Nat) (p1 p2 p10:Int) (k_fin:Int→Int→Int→Option β):Option β :=
 lt (IntKind.wrap .i64 ((p1:Int)+p2)) fun x9 =>
 k_fin p10 x9 (0:Int)
theorem zlm {β:Type} (yc:xp) (L:Nat) (p1 p2 p10:Int) (k:KK β):(xu 0 (zQ (xj zZ (xY yc L) 0 L zeF) (zW 0 (CF.res za1) k))) (.exit 0) (zeG p1 p2 p10)=zde yc L p1 p2 p10 (fun zKX zKY zK1=>k (V.tup [(V.sc (.int .u16 zKX)),(V.sc (.int .i64 zKY)),(V.sc (.int .i64 zK1))]) []):=by kernel_rfl
def zbs {β:Type} (yc:xp) (L:Nat) (k_x0:Int→Int→Int→Option β):Nat→List (List V)→Int→Int→Int→Int→Int→Option β
 | 0,_,_,_,_,_,_=>none
 | n+1,p0,p1,p2,p10,p19,p20=>zdG yc L p0 p1 p2 p10 p19 p20 (fun p0 p1 p2 p10 p19 p20=>zbs yc L k_x0 n p0 p1 p2 p10 p19 p20) k_x0
theorem zfC {β:Type} (yc:xp) (L:Nat) (K:KT β):∀ (n:Nat) (p0:List (List V)) (p1 p2 p10 p19 p20:Int),xD (xj zZ (xY yc L) 0 L za8) zcb n (zbJ p0 p1 p2 p10 p19 p20) K=zbs yc L (fun p1 p2 p10=>K (.exit 0) (zeG p1 p2 p10)) n p0 p1 p2 p10 p19 p20:=by
 intro n
 induction n with
 | zero=>intros; rfl
 | succ n ih =>
  intro p0 p1 p2 p10 p19 p20
  refine (zmc yc L p0 p1 p2 p10 p19 p20 (fun σ=>xD (xj zZ (xY yc L) 0 L za8) zcb n σ K) K).trans ?_
  simp only [ih]
  rfl
def zeq {β:Type} (yc:xp) (L:Nat) (p0:List (List V)) (p1 p2:Int) (k_fin:Int→Int→Int→Option β):Option β :=
 zgA yc L p0 p1 p2 k_fin (fun p0 p1 p2 p10 p19 p20=>zbs yc L (fun p1 p2 p10=>zde yc L p1 p2 p10 k_fin) L p0 p1 p2 p10 p19 p20)
theorem zqB {β:Type} (yc:xp) (L:Nat) (p0:List (List V)) (p1 p2:Int) (k:KK β):xv zZ (xY yc L) L za1 [(V.sl 1 p0),(V.sc (.int .i64 p1)),(V.sc (.int .i64 p2))] [] k=zeq yc L p0 p1 p2 (fun zKX zKY zK1=>k (V.tup [(V.sc (.int .u16 zKX)),(V.sc (.int .i64 zKY)),(V.sc (.int .i64 zK1))]) []):=by
 refine (zqi yc L p0 p1 p2 k).trans ?_
 unfold zeq
 first
  | (simp only [zfC,zlm]; done)
  | (simp only [zfC]; rfl)
abbrev zes:=∀ (β:Type),Nat→List (List V)→Int→Int→(Int→Int→Int→Option β)→Option β
def zJ (β:Type) (L:Nat) (p0:List (List V)) (p1 p2:Int) (k_fin:Int→Int→Int→Option β):Option β:=zeq yc L p0 p1 p2 k_fin
def zem (zJ:zes) (L:Nat) (β:Type) (args:List V) (bor:Bor) (k:KK β):Option β:=match args,bor with
 | [a0,a1,a2],[]=>aL 1 a0 fun p0=>aI .i64 a1 fun p1=>aI .i64 a2 fun p2=>zJ β L p0 p1 p2 (fun zKX zKY zK1=>k (V.tup [(V.sc (.int .u16 zKX)),(V.sc (.int .i64 zKY)),(V.sc (.int .i64 zK1))]) [])
 | _,_=>none
theorem zqA (L:Nat) (β:Type) (args:List V) (bor:Bor) (k:KK β) (r:β) (h:zem zJ L β args bor k=some r):xv zZ (xY yc L) L za1 args bor k=some r:=by
 unfold zem at h
 split at h
 ·have q:=xU h; clear h; obtain ⟨p0,rfl,h⟩:=q
  have q:=zI h; clear h; obtain ⟨p1,rfl,h⟩:=q
  have q:=zI h; clear h; obtain ⟨p2,rfl,h⟩:=q
  exact (zqB yc L p0 p1 p2 k).trans h
 ·cases h
def zll:CF:=⟨13,[.tmp 4,.tmp 5,.tmp 6],
 (.seq (.reg [oo 4 (.move (.const (.sc (.int .u16 0))) false),
   oo 5 (.move (.const (.sc (.int .i64 0))) false),
   oo 6 (.move (.const (.sc (.int .i64 0))) false)])
 (.seq (.reg [oo 7 (.move (tq 0) false),
   oo 8 (.move (tq 1) false),
   oo 9 (.call 208 [((tq 7),0),((tq 8),0),((.const (.sc (.int .i64 2))),0)] []),
   oo 10 (.pull (tq 9) 0),
   oo 11 (.pull (tq 9) 1),
   oo 12 (.pull (tq 9) 2),
   oo 4 (.move (tq 10) false),
   oo 5 (.move (tq 11) false),
   oo 6 (.move (tq 12) false)])
 .ret))⟩
def zrL:Hint:=⟨[],[],[none],[],[],false,false,[]⟩
def zoL:Nat→Sh:=yL []
def zpe (zJ:zes) (L:Nat):CBC:=(zt 208 (zem zJ L) noC)
def zqO {β:Type} (zJ:zes) (L:Nat) (p0:List (List V)) (p1:Int) (k_fin:Int→Int→Int→Option β):Option β :=
 zJ β L p0 p1 (2:Int) (fun v0 v1 v2 =>
 k_fin v0 v1 v2)
theorem zyW {β:Type} (zJ:zes) (L:Nat) (p0:List (List V)) (p1:Int) (k:KK β):xv zoL (zpe zJ L) L zll [(V.sl 1 p0),(V.sc (.int .i64 p1))] [] k=zqO zJ L p0 p1 (fun zKX zKY zK1=>k (V.tup [(V.sc (.int .u16 zKX)),(V.sc (.int .i64 zKY)),(V.sc (.int .i64 zK1))]) []):=by kernel_rfl
abbrev zms:=∀ (β:Type),Nat→List (List V)→Int→(Int→Int→Int→Option β)→Option β
def zal (β:Type) (L:Nat) (p0:List (List V)) (p1:Int) (k_fin:Int→Int→Int→Option β):Option β:=zqO zJ L p0 p1 k_fin
def zmC (zal:zms) (L:Nat) (β:Type) (args:List V) (bor:Bor) (k:KK β):Option β:=match args,bor with
 | [a0,a1],[]=>aL 1 a0 fun p0=>aI .i64 a1 fun p1=>zal β L p0 p1 (fun zKX zKY zK1=>k (V.tup [(V.sc (.int .u16 zKX)),(V.sc (.int .i64 zKY)),(V.sc (.int .i64 zK1))]) [])
 | _,_=>none
theorem zyB (L:Nat) (β:Type) (args:List V) (bor:Bor) (k:KK β) (r:β) (h:zmC zal L β args bor k=some r):xv zoL (zpe zJ L) L zll args bor k=some r:=by
 unfold zmC at h
 split at h
 ·have q:=xU h; clear h; obtain ⟨p0,rfl,h⟩:=q
  have q:=zI h; clear h; obtain ⟨p1,rfl,h⟩:=q
  exact (zyW zJ L p0 p1 k).trans h
 ·cases h
def za4:CC:=(.seq (.reg [oo 21 (.bin .lss (tq 20) (tq 19))])
 (.seq (.cond (tq 21)
 .skip
 (.seq (.mask (bl 1030 40) (bl 1099511625727 40))
 (.exit 0)))
 (.seq (.block 1 (.seq (.reg [oo 22 (.move (tq 20) false),
   oo 11 (.move (tq 22) false)])
 (.reg [oo 23 (.move (tq 10) false),
   oo 24 (.move (tq 0) false),
   oo 25 (.move (tq 1) false),
   oo 26 (.move (tq 11) false),
   oo 27 (.bin .add (tq 25) (tq 26)),
   oo 28 (.indexAddrS 1 (tq 24) (tq 27)),
   oo 29 (.load false 1 (tq 28) false),
   oo 30 (.conv .u64 (tq 29)),
   oo 31 (.move (tq 11) false),
   oo 32 (.bin .mul (.const (.sc (.int .i64 8))) (tq 31)),
   oo 33 (.bin .shl (tq 30) (tq 32)),
   oo 34 (.bin .or (tq 23) (tq 33)),
   oo 10 (.move (tq 34) false)])))
 (.reg [oo 35 (.bin .add (tq 20) (.const (.sc (.int .i64 1)))),
   oo 20 (.move (tq 35) false)]))))
def zeH:CC:=(.seq (.reg [oo 36 (.move (tq 10) false),
   oo 37 (.move (tq 1) false),
   oo 38 (.move (tq 2) false),
   oo 39 (.bin .add (tq 37) (tq 38)),
   oo 6 (.move (tq 36) false),
   oo 7 (.move (tq 39) false),
   oo 8 (.move (.const (.sc (.int .i64 0))) false)])
 .ret)
def za2:CF:=⟨40,[.tmp 6,.tmp 7,.tmp 8],
 (.seq (.reg [oo 6 (.move (.const (.sc (.int .u64 0))) false),
   oo 7 (.move (.const (.sc (.int .i64 0))) false),
   oo 8 (.move (.const (.sc (.int .i64 0))) false)])
 (.seq (.seq (.reg [oo 12 (.move (tq 0) false),
   oo 13 (.move (tq 1) false),
   oo 14 (.move (tq 2) false),
   oo 15 (.call 198 [((tq 12),0),((tq 13),0),((tq 14),0)] []),
   oo 9 (.move (tq 15) false)])
 (.seq (.reg [oo 16 (.move (tq 9) false),
   oo 17 (.bin .neq (tq 16) (.const (.sc (.int .i64 0))))])
 (.cond (tq 17)
 (.seq (.reg [oo 18 (.move (tq 9) false),
   oo 6 (.move (.const (.sc (.int .u64 0))) false),
   oo 7 (.move (.const (.sc (.int .i64 0))) false),
   oo 8 (.move (tq 18) false)])
 .ret)
 .skip)))
 (.seq (.reg [oo 10 (.move (.const (.sc (.int .u64 0))) false)])
 (.seq (.seq (.reg [oo 19 (.move (tq 2) false),
   oo 20 (.move (.const (.sc (.int .i64 0))) false)])
 (.block 0 (.loop (bl 1573895 40) (bl 1099511625727 40)
 za4)))
 zeH))))⟩
def zi6:Hint:=⟨[],[],[none,none,none,some ((bl 1573895 40),(bl 1099511625727 40)),none,some ((bl 1030 40),(bl 1099511625727 40)),none,none],[],[],false,false,[]⟩
def z5:Nat→Sh:=yL [(29,(.int .u8))]
def y4 (yc:xp) (L:Nat):CBC:=(zt 198 (zc7 yc L) noC)
def zcc:St→St:=zV 0 (bl 1573895 40) (bl 1099511625727 40)
def zbH (p0:List (List V)) (p1 p2 p10 p19 p20:Int):St:=⟨((V.sl 1 p0)::((V.sc (.int .i64 p1))::((V.sc (.int .i64 p2))::(jn 7 ((V.sc (.int .u64 p10))::(jn 8 ((V.sc (.int .i64 p19))::((V.sc (.int .i64 p20))::(jn 19 []))))))))),(gn 40 [])⟩
def zeJ (p1 p2 p10:Int):St:=⟨(jn 1 ((V.sc (.int .i64 p1))::((V.sc (.int .i64 p2))::(jn 7 ((V.sc (.int .u64 p10))::(jn 29 [])))))),(gn 40 [])⟩
def zgx {β:Type} (yc:xp) (L:Nat) (p0:List (List V)) (p1 p2:Int) (k_fin:Int→Int→Int→Option β) (k_hbbbaba:List (List V)→Int→Int→Int→Int→Int→Option β):Option β :=
 yc β L p0 p1 p2 (fun v0 =>
 ifb ((v0:Int) != (0:Int)) (
 k_fin (0:Int) (0:Int) v0) (
 k_hbbbaba p0 p1 p2 (0:Int) p2 (0:Int)))
theorem zp9 {β:Type} (yc:xp) (L:Nat) (p0:List (List V)) (p1 p2:Int) (k:KK β):xv z5 (y4 yc L) L za2 [(V.sl 1 p0),(V.sc (.int .i64 p1)),(V.sc (.int .i64 p2))] [] k=zgx yc L p0 p1 p2 (fun zKX zKY zK1=>k (V.tup [(V.sc (.int .u64 zKX)),(V.sc (.int .i64 zKY)),(V.sc (.int .i64 zK1))]) []) (fun p0 p1 p2 p10 p19 p20=>xD (xj z5 (y4 yc L) 0 L za4) zcc L (zbH p0 p1 p2 p10 p19 p20) (xu 0 (zQ (xj z5 (y4 yc L) 0 L zeH) (zW 0 (CF.res za2) k)))):=by kernel_rfl
def zdJ {β:Type} (yc:xp) (L:Nat) (p0:List (List V)) (p1 p2 p10 p19 p20:Int) (k_hbbbaba:List (List V)→Int→Int→Int→Int→Int→Option β) (k_x0:Int→Int→Int→Option β):Option β :=
 ifb (decide (p20 < p19)) (
 lt (IntKind.wrap .i64 ((p1:Int)+p20)) fun x1 =>
 idx p0 x1 fun c2 =>
 cI .u8 c2 0 fun v3 =>
 lt (IntKind.wrap .u64 v3) fun x4 =>
 lt (IntKind.wrap .i64 (((8:Int):Int) * p20)) fun x5 =>
 chk (0≤x5) (
 lt (zs8 .u64 x4 x5) fun x6 =>
 lt (ior .u64 p10 x6) fun x7 =>
 lt (IntKind.wrap .i64 ((p20:Int)+(1:Int))) fun x8 =>
 k_hbbbaba p0 p1 p2 x7 p19 x8)) (
 k_x0 p1 p2 p10)
theorem zmi {β:Type} (yc:xp) (L:Nat) (p0:List (List V)) (p1 p2 p10 p19 p20:Int) (X:St→Option β) (K:KT β):xj z5 (y4 yc L) 0 L za4 (zbH p0 p1 p2 p10 p19 p20) (zah zcc X K)=zdJ yc L p0 p1 p2 p10 p19 p20 (fun p0 p1 p2 p10 p19 p20=>X (zbH p0 p1 p2 p10 p19 p20)) (fun p1 p2 p10=>K (.exit 0) (zeJ p1 p2 p10)):=by kernel_rfl
def zdc {β:Type} (yc:xp) (L:Nat) (p1 p2 p10:Int) (k_fin:Int→Int→Int→Option β):Option β :=
 lt (IntKind.wrap .i64 ((p1:Int)+p2)) fun x9 =>
 k_fin p10 x9 (0:Int)
theorem zkQ {β:Type} (yc:xp) (L:Nat) (p1 p2 p10:Int) (k:KK β):(xu 0 (zQ (xj z5 (y4 yc L) 0 L zeH) (zW 0 (CF.res za2) k))) (.exit 0) (zeJ p1 p2 p10)=zdc yc L p1 p2 p10 (fun zKX zKY zK1=>k (V.tup [(V.sc (.int .u64 zKX)),(V.sc (.int .i64 zKY)),(V.sc (.int .i64 zK1))]) []):=by kernel_rfl
def zbp {β:Type} (yc:xp) (L:Nat) (k_x0:Int→Int→Int→Option β):Nat→List (List V)→Int→Int→Int→Int→Int→Option β
 | 0,_,_,_,_,_,_=>none
 | n+1,p0,p1,p2,p10,p19,p20=>zdJ yc L p0 p1 p2 p10 p19 p20 (fun p0 p1 p2 p10 p19 p20=>zbp yc L k_x0 n p0 p1 p2 p10 p19 p20) k_x0
theorem zfH {β:Type} (yc:xp) (L:Nat) (K:KT β):∀ (n:Nat) (p0:List (List V)) (p1 p2 p10 p19 p20:Int),xD (xj z5 (y4 yc L) 0 L za4) zcc n (zbH p0 p1 p2 p10 p19 p20) K=zbp yc L (fun p1 p2 p10=>K (.exit 0) (zeJ p1 p2 p10)) n p0 p1 p2 p10 p19 p20:=by
 intro n
 induction n with
 | zero=>intros; rfl
 | succ n ih =>
  intro p0 p1 p2 p10 p19 p20
  refine (zmi yc L p0 p1 p2 p10 p19 p20 (fun σ=>xD (xj z5 (y4 yc L) 0 L za4) zcc n σ K) K).trans ?_
  simp only [ih]
  rfl
def zeA {β:Type} (yc:xp) (L:Nat) (p0:List (List V)) (p1 p2:Int) (k_fin:Int→Int→Int→Option β):Option β :=
 zgx yc L p0 p1 p2 k_fin (fun p0 p1 p2 p10 p19 p20=>zbp yc L (fun p1 p2 p10=>zdc yc L p1 p2 p10 k_fin) L p0 p1 p2 p10 p19 p20)
theorem zqV {β:Type} (yc:xp) (L:Nat) (p0:List (List V)) (p1 p2:Int) (k:KK β):xv z5 (y4 yc L) L za2 [(V.sl 1 p0),(V.sc (.int .i64 p1)),(V.sc (.int .i64 p2))] [] k=zeA yc L p0 p1 p2 (fun zKX zKY zK1=>k (V.tup [(V.sc (.int .u64 zKX)),(V.sc (.int .i64 zKY)),(V.sc (.int .i64 zK1))]) []):=by
 refine (zp9 yc L p0 p1 p2 k).trans ?_
 unfold zeA
 first
  | (simp only [zfH,zkQ]; done)
  | (simp only [zfH]; rfl)
abbrev zej:=∀ (β:Type),Nat→List (List V)→Int→Int→(Int→Int→Int→Option β)→Option β
def xI (β:Type) (L:Nat) (p0:List (List V)) (p1 p2:Int) (k_fin:Int→Int→Int→Option β):Option β:=zeA yc L p0 p1 p2 k_fin
def zel (xI:zej) (L:Nat) (β:Type) (args:List V) (bor:Bor) (k:KK β):Option β:=match args,bor with
 | [a0,a1,a2],[]=>aL 1 a0 fun p0=>aI .i64 a1 fun p1=>aI .i64 a2 fun p2=>xI β L p0 p1 p2 (fun zKX zKY zK1=>k (V.tup [(V.sc (.int .u64 zKX)),(V.sc (.int .i64 zKY)),(V.sc (.int .i64 zK1))]) [])
 | _,_=>none
theorem zqa (L:Nat) (β:Type) (args:List V) (bor:Bor) (k:KK β) (r:β) (h:zel xI L β args bor k=some r):xv z5 (y4 yc L) L za2 args bor k=some r:=by
 unfold zel at h
 split at h
 ·have q:=xU h; clear h; obtain ⟨p0,rfl,h⟩:=q
  have q:=zI h; clear h; obtain ⟨p1,rfl,h⟩:=q
  have q:=zI h; clear h; obtain ⟨p2,rfl,h⟩:=q
  exact (zqV yc L p0 p1 p2 k).trans h
 ·cases h
def zld:CF:=⟨13,[.tmp 4,.tmp 5,.tmp 6],
 (.seq (.reg [oo 4 (.move (.const (.sc (.int .u64 0))) false),
   oo 5 (.move (.const (.sc (.int .i64 0))) false),
   oo 6 (.move (.const (.sc (.int .i64 0))) false)])
 (.seq (.reg [oo 7 (.move (tq 0) false),
   oo 8 (.move (tq 1) false),
   oo 9 (.call 199 [((tq 7),0),((tq 8),0),((.const (.sc (.int .i64 8))),0)] []),
   oo 10 (.pull (tq 9) 0),
   oo 11 (.pull (tq 9) 1),
   oo 12 (.pull (tq 9) 2),
   oo 4 (.move (tq 10) false),
   oo 5 (.move (tq 11) false),
   oo 6 (.move (tq 12) false)])
 .ret))⟩
def zrS:Hint:=⟨[],[],[none],[],[],false,false,[]⟩
def zo6:Nat→Sh:=yL []
def zos (xI:zej) (L:Nat):CBC:=(zt 199 (zel xI L) noC)
def zqn {β:Type} (xI:zej) (L:Nat) (p0:List (List V)) (p1:Int) (k_fin:Int→Int→Int→Option β):Option β :=
 xI β L p0 p1 (8:Int) (fun v0 v1 v2 =>
 k_fin v0 v1 v2)
theorem zyH {β:Type} (xI:zej) (L:Nat) (p0:List (List V)) (p1:Int) (k:KK β):xv zo6 (zos xI L) L zld [(V.sl 1 p0),(V.sc (.int .i64 p1))] [] k=zqn xI L p0 p1 (fun zKX zKY zK1=>k (V.tup [(V.sc (.int .u64 zKX)),(V.sc (.int .i64 zKY)),(V.sc (.int .i64 zK1))]) []):=by kernel_rfl
abbrev zfb:=∀ (β:Type),Nat→List (List V)→Int→(Int→Int→Int→Option β)→Option β
def zL (β:Type) (L:Nat) (p0:List (List V)) (p1:Int) (k_fin:Int→Int→Int→Option β):Option β:=zqn xI L p0 p1 k_fin
def ziM (zL:zfb) (L:Nat) (β:Type) (args:List V) (bor:Bor) (k:KK β):Option β:=match args,bor with
 | [a0,a1],[]=>aL 1 a0 fun p0=>aI .i64 a1 fun p1=>zL β L p0 p1 (fun zKX zKY zK1=>k (V.tup [(V.sc (.int .u64 zKX)),(V.sc (.int .i64 zKY)),(V.sc (.int .i64 zK1))]) [])
 | _,_=>none
theorem zyv (L:Nat) (β:Type) (args:List V) (bor:Bor) (k:KK β) (r:β) (h:ziM zL L β args bor k=some r):xv zo6 (zos xI L) L zld args bor k=some r:=by
 unfold ziM at h
 split at h
 ·have q:=xU h; clear h; obtain ⟨p0,rfl,h⟩:=q
  have q:=zI h; clear h; obtain ⟨p1,rfl,h⟩:=q
  exact (zyH xI L p0 p1 k).trans h
 ·cases h
end
end Go.Proofs.Ytoeobffjdbdpgaa
