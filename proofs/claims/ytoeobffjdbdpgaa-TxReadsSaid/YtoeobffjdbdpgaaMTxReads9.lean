/- Part 9 of the proof of TxReads: an abstract machine over plain values, its soundness, and the functions of the program on plain values. -/
import Derived.Test.YtoeobffjdbdpgaaRows
import Derived.Test.YtoeobffjdbdpgaaMTxReads8
namespace Go.Proofs.Ytoeobffjdbdpgaa
section
set_option maxRecDepth 100000
set_option linter.unusedVariables false
set_option linter.unusedSimpArgs false
def zcN:CC:=(.seq (.reg [oo 11 (.bin .lss (tq 10) (tq 9))])
 (.seq (.cond (tq 11)
 .skip
 (.seq (.mask (bl 32 23) (bl 8388543 23))
 (.exit 0)))
 (.seq (.block 1 (.seq (.reg [oo 12 (.move (tq 10) false),
   oo 6 (.move (tq 12) false)])
 (.reg [oo 13 (.move (tq 5) false),
   oo 14 (.move (tq 6) false),
   oo 15 (.move (tq 0) false),
   oo 16 (.move (tq 6) false),
   oo 17 (.bin .mul (.const (.sc (.int .i64 8))) (tq 16)),
   oo 18 (.bin .shr (tq 15) (tq 17)),
   oo 19 (.conv .u8 (tq 18)),
   oo 20 (.indexAddrS 1 (tq 13) (tq 14)),
   oz (.store 1 (tq 20) (tq 19))])))
 (.reg [oo 21 (.bin .add (tq 10) (.const (.sc (.int .i64 1)))),
   oo 10 (.move (tq 21) false)]))))
def zje:CC:=(.seq (.reg [oo 22 (.move (tq 5) true),
   oo 4 (.move (tq 22) true)])
 .ret)
def zcM:CF:=⟨23,[.tmp 4],
 (.seq (.reg [oo 4 (.move (.const (.gs 1 [])) true)])
 (.seq (.reg [oo 7 (.move (tq 1) false),
   ⟨(some 8),true,none,.makeSlice 1 1 [(.sc (.int .u8 0))] (tq 7) (tq 7)⟩,
   oo 5 (.move (tq 8) true)])
 (.seq (.seq (.reg [oo 9 (.move (tq 1) false),
   oo 10 (.move (.const (.sc (.int .i64 0))) false)])
 (.block 0 (.loop (bl 1569 23) (bl 8388543 23)
 zcN)))
 zje)))⟩
def zoh:Hint:=⟨[(0,0),(1,2),(7,0),(7,1)],[(1,1)],[none,some ((bl 1569 23),(bl 8388543 23)),none,some ((bl 32 23),(bl 8388543 23)),none,none],[],[],false,false,[]⟩
def zbi:Nat→Sh:=yP []
def zbk (L:Nat):CBC:=noC
def zfj:St→St:=y4 0 (bl 1569 23) (bl 8388543 23)
def zdv (p0:Int) (p5l:Nat) (p9 p10:Int) (b8:List V):St:=⟨((V.sc (.int .u64 p0))::(jn 4 ((V.own 8 0 p5l 1)::(jn 3 ((V.sc (.int .i64 p9))::((V.sc (.int .i64 p10))::(jn 12 []))))))),(gn 8 ((.live true b8)::(gn 14 [])))⟩
def zin (p5l:Nat) (b8:List V):St:=⟨(jn 5 ((V.own 8 0 p5l 1)::(jn 17 []))),(gn 8 ((.live true b8)::(gn 14 [])))⟩
def zsC {β:Type} (L:Nat) (p0 p1:Int) (k_hbbaba:Int→Nat→Int→Int→List V→Option β):Option β :=
 chk (0≤p1∧p1≤p1∧(Int.toNat p1) * 1≤yn∧p1≤yn) (
 k_hbbaba p0 (Int.toNat p1) p1 (0:Int) (List.flatten (List.replicate (Int.toNat p1) [(V.sc (.int .u8 (0:Int)))])))
theorem zv4 {β:Type} (L:Nat) (p0 p1:Int) (k:KK β):yt zbi (zbk L) L zcM [(V.sc (.int .u64 p0)),(V.sc (.int .i64 p1))] [] k=zsC L p0 p1 (fun p0 p5l p9 p10 b8=>yB (yk zbi (zbk L) 0 L zcN) zfj L (zdv p0 p5l p9 p10 b8) (zw 0 (yR (yk zbi (zbk L) 0 L zje) (y6 0 (CF.res zcM) k)))):=by kernel_rfl
def zmb {β:Type} (L:Nat) (p0:Int) (p5l:Nat) (p9 p10:Int) (b8:List V) (k_hbbaba:Int→Nat→Int→Int→List V→Option β) (k_x0:Nat→List V→Option β):Option β :=
 ifb (decide (p10 < p9)) (
 lt (IntKind.wrap .i64 (((8:Int):Int) * p10)) fun x0 =>
 chk (0≤x0) (
 lt (zIS .u64 p0 x0) fun x1 =>
 lt (IntKind.wrap .u8 x1) fun x2 =>
 chk (0≤p10∧p10 < ((p5l:Nat):Int)) (
 chk (1=1∧(0+((Int.toNat p10) * 1))+1≤(List.length b8)) (
 lt (yl b8 (0+((Int.toNat p10) * 1)) [(V.sc (.int .u8 x2))]) fun r3 =>
 lt (IntKind.wrap .i64 ((p10:Int)+(1:Int))) fun x4 =>
 k_hbbaba p0 p5l p9 x4 r3)))) (
 k_x0 p5l b8)
theorem zrH {β:Type} (L:Nat) (p0:Int) (p5l:Nat) (p9 p10:Int) (b8:List V) (X:St→Option β) (K:KT β):yk zbi (zbk L) 0 L zcN (zdv p0 p5l p9 p10 b8) (y9 zfj X K)=zmb L p0 p5l p9 p10 b8 (fun p0 p5l p9 p10 b8=>X (zdv p0 p5l p9 p10 b8)) (fun p5l b8=>K (.exit 0) (zin p5l b8)):=by kernel_rfl
def zkG {β:Type} (L:Nat) (p5l:Nat) (b8:List V) (k_fin:List (List V)→Option β):Option β :=
 chk (p5l≠0∨(List.length b8)=0) (
 k_fin (xj 1 p5l b8))
theorem zpP {β:Type} (L:Nat) (p5l:Nat) (b8:List V) (k:KK β):(zw 0 (yR (yk zbi (zbk L) 0 L zje) (y6 0 (CF.res zcM) k))) (.exit 0) (zin p5l b8)=zkG L p5l b8 (fun p0=>k (V.fr 1 p0) []):=by kernel_rfl
def zhA {β:Type} (L:Nat) (k_x0:Nat→List V→Option β):Nat→Int→Nat→Int→Int→List V→Option β
 | 0,_,_,_,_,_=>none
 | n+1,p0,p5l,p9,p10,b8=>zmb L p0 p5l p9 p10 b8 (fun p0 p5l p9 p10 b8=>zhA L k_x0 n p0 p5l p9 p10 b8) k_x0
theorem zjl {β:Type} (L:Nat) (K:KT β):∀ (n:Nat) (p0:Int) (p5l:Nat) (p9 p10:Int) (b8:List V),yB (yk zbi (zbk L) 0 L zcN) zfj n (zdv p0 p5l p9 p10 b8) K=zhA L (fun p5l b8=>K (.exit 0) (zin p5l b8)) n p0 p5l p9 p10 b8:=by
 intro n
 induction n with
 | zero=>intros; rfl
 | succ n ih =>
  intro p0 p5l p9 p10 b8
  refine (zrH L p0 p5l p9 p10 b8 (fun σ=>yB (yk zbi (zbk L) 0 L zcN) zfj n σ K) K).trans ?_
  simp only [ih]
  rfl
def zmC {β:Type} (L:Nat) (p0 p1:Int) (k_fin:List (List V)→Option β):Option β :=
 zsC L p0 p1 (fun p0 p5l p9 p10 b8=>zhA L (fun p5l b8=>zkG L p5l b8 k_fin) L p0 p5l p9 p10 b8)
theorem zwl {β:Type} (L:Nat) (p0 p1:Int) (k:KK β):yt zbi (zbk L) L zcM [(V.sc (.int .u64 p0)),(V.sc (.int .i64 p1))] [] k=zmC L p0 p1 (fun p0=>k (V.fr 1 p0) []):=by
 refine (zv4 L p0 p1 k).trans ?_
 unfold zmC
 first
  | (simp only [zjl,zpP]; done)
  | (simp only [zjl]; rfl)
abbrev zbF:=∀ (β:Type),Nat→Int→Int→(List (List V)→Option β)→Option β
def yu (β:Type) (L:Nat) (p0 p1:Int) (k_fin:List (List V)→Option β):Option β:=zmC L p0 p1 k_fin
def zeC (yu:zbF) (L:Nat) (β:Type) (args:List V) (bor:Bor) (k:KK β):Option β:=match args,bor with
 | [a0,a1],[]=>aI .u64 a0 fun p0=>aI .i64 a1 fun p1=>yu β L p0 p1 (fun p0=>k (V.fr 1 p0) [])
 | _,_=>none
theorem zv0 (L:Nat) (β:Type) (args:List V) (bor:Bor) (k:KK β) (r:β) (h:zeC yu L β args bor k=some r):yt zbi (zbk L) L zcM args bor k=some r:=by
 unfold zeC at h
 split at h
 ·have q:=zy h; clear h; obtain ⟨p0,rfl,h⟩:=q
  have q:=zy h; clear h; obtain ⟨p1,rfl,h⟩:=q
  exact (zwl L p0 p1 k).trans h
 ·cases h
def zhO:CF:=⟨18,[.tmp 4],
 (.seq (.reg [oo 4 (.move (.const (.gs 1 [])) true)])
 (.seq (.reg [oo 6 (.move (tq 0) false),
   oo 7 (.lenS (tq 6)),
   oo 8 (.move (tq 1) false),
   oo 9 (.lenS (tq 8)),
   oo 10 (.bin .add (tq 7) (tq 9)),
   oo 11 (.makeSlice 1 1 [(.sc (.int .u8 0))] (.const (.sc (.int .i64 0))) (tq 10)),
   oo 5 (.move (tq 11) true)])
 (.seq (.reg [oo 12 (.move (tq 5) true),
   oo 13 (.move (tq 0) false),
   oo 14 (.append 1 1 (tq 12) (tq 13)),
   oo 5 (.move (tq 14) true)])
 (.seq (.reg [oo 15 (.move (tq 5) true),
   oo 16 (.move (tq 1) false),
   oo 17 (.append 1 1 (tq 15) (tq 16)),
   oo 4 (.move (tq 17) true)])
 .ret))))⟩
def zok:Hint:=⟨[(0,0),(1,6),(2,0),(2,3),(3,0),(3,3)],[],[none],[],[],false,false,[]⟩
def zlo:Nat→Sh:=yP []
def zlD (L:Nat):CBC:=noC
def zmg {β:Type} (L:Nat) (p0 p1:List (List V)) (k_fin:List (List V)→Option β):Option β :=
 lt (IntKind.wrap .i64 ((((List.length p0:Nat):Int):Int)+((List.length p1:Nat):Int))) fun x0 =>
 chk (0≤(0:Int)∧(0:Int)≤x0∧(Int.toNat x0) * 1≤yn∧x0≤yn) (
 chk ((List.length (List.replicate 0 [(V.sc (.int .u8 (0:Int)))])+List.length p0) * 1≤yn∧List.length (List.replicate 0 [(V.sc (.int .u8 (0:Int)))])+List.length p0≤yn) (
 lt ((List.replicate 0 [(V.sc (.int .u8 (0:Int)))])++p0) fun l1 =>
 chk ((List.length l1+List.length p1) * 1≤yn∧List.length l1+List.length p1≤yn) (
 lt (l1++p1) fun l2 =>
 k_fin l2)))
theorem zv7 {β:Type} (L:Nat) (p0 p1:List (List V)) (k:KK β):yt zlo (zlD L) L zhO [(V.sl 1 p0),(V.sl 1 p1)] [] k=zmg L p0 p1 (fun p0=>k (V.gs 1 p0) []):=by kernel_rfl
abbrev zO:=∀ (β:Type),Nat→List (List V)→List (List V)→(List (List V)→Option β)→Option β
def zg (β:Type) (L:Nat) (p0 p1:List (List V)) (k_fin:List (List V)→Option β):Option β:=zmg L p0 p1 k_fin
def zbI (zg:zO) (L:Nat) (β:Type) (args:List V) (bor:Bor) (k:KK β):Option β:=match args,bor with
 | [a0,a1],[]=>aL 1 a0 fun p0=>aL 1 a1 fun p1=>zg β L p0 p1 (fun p0=>k (V.gs 1 p0) [])
 | _,_=>none
theorem zvU (L:Nat) (β:Type) (args:List V) (bor:Bor) (k:KK β) (r:β) (h:zbI zg L β args bor k=some r):yt zlo (zlD L) L zhO args bor k=some r:=by
 unfold zbI at h
 split at h
 ·have q:=zM h; clear h; obtain ⟨p0,rfl,h⟩:=q
  have q:=zM h; clear h; obtain ⟨p1,rfl,h⟩:=q
  exact (zv7 L p0 p1 k).trans h
 ·cases h
def zfN:CF:=⟨10,[.tmp 4],
 (.seq (.reg [oo 4 (.move (.const (.gs 1 [])) true)])
 (.seq (.reg [oo 5 (.move (tq 0) false),
   oo 6 (.move (tq 1) false),
   oo 7 (.conv .u64 (tq 6)),
   oo 8 (.call 192 [((tq 7),0),((.const (.sc (.int .i64 4))),0)] []),
   oo 9 (.call 191 [((tq 5),0),((tq 8),0)] []),
   oo 4 (.move (tq 9) true)])
 .ret))⟩
def zk4:Hint:=⟨[(0,0),(1,5)],[],[none],[],[],false,false,[]⟩
def ziA:Nat→Sh:=yP []
def zih (yu:zbF) (zg:zO) (L:Nat):CBC:=(xv 191 (zbI zg L) (xv 192 (zeC yu L) noC))
def zoo {β:Type} (yu:zbF) (zg:zO) (L:Nat) (p0:List (List V)) (p1:Int) (k_fin:List (List V)→Option β):Option β :=
 lt (IntKind.wrap .u64 p1) fun x0 =>
 yu β L x0 (4:Int) (fun v1 =>
 zg β L p0 v1 (fun v2 =>
 k_fin v2))
theorem zs5 {β:Type} (yu:zbF) (zg:zO) (L:Nat) (p0:List (List V)) (p1:Int) (k:KK β):yt ziA (zih yu zg L) L zfN [(V.sl 1 p0),(V.sc (.int .u32 p1))] [] k=zoo yu zg L p0 p1 (fun p0=>k (V.gs 1 p0) []):=by kernel_rfl
abbrev xk:=∀ (β:Type),Nat→List (List V)→Int→(List (List V)→Option β)→Option β
def xc (β:Type) (L:Nat) (p0:List (List V)) (p1:Int) (k_fin:List (List V)→Option β):Option β:=zoo yu zg L p0 p1 k_fin
def zc5 (xc:xk) (L:Nat) (β:Type) (args:List V) (bor:Bor) (k:KK β):Option β:=match args,bor with
 | [a0,a1],[]=>aL 1 a0 fun p0=>aI .u32 a1 fun p1=>xc β L p0 p1 (fun p0=>k (V.gs 1 p0) [])
 | _,_=>none
theorem ztN (L:Nat) (β:Type) (args:List V) (bor:Bor) (k:KK β) (r:β) (h:zc5 xc L β args bor k=some r):yt ziA (zih yu zg L) L zfN args bor k=some r:=by
 unfold zc5 at h
 split at h
 ·have q:=zM h; clear h; obtain ⟨p0,rfl,h⟩:=q
  have q:=zy h; clear h; obtain ⟨p1,rfl,h⟩:=q
  exact (zs5 yu zg L p0 p1 k).trans h
 ·cases h
def zfB:CF:=⟨10,[.tmp 4],
 (.seq (.reg [oo 4 (.move (.const (.gs 1 [])) true)])
 (.seq (.reg [oo 5 (.move (tq 0) false),
   oo 6 (.move (tq 1) false),
   oo 7 (.conv .u64 (tq 6)),
   oo 8 (.call 192 [((tq 7),0),((.const (.sc (.int .i64 2))),0)] []),
   oo 9 (.call 191 [((tq 5),0),((tq 8),0)] []),
   oo 4 (.move (tq 9) true)])
 .ret))⟩
def zk3:Hint:=⟨[(0,0),(1,5)],[],[none],[],[],false,false,[]⟩
def zh9:Nat→Sh:=yP []
def zie (yu:zbF) (zg:zO) (L:Nat):CBC:=(xv 191 (zbI zg L) (xv 192 (zeC yu L) noC))
def zov {β:Type} (yu:zbF) (zg:zO) (L:Nat) (p0:List (List V)) (p1:Int) (k_fin:List (List V)→Option β):Option β :=
 lt (IntKind.wrap .u64 p1) fun x0 =>
 yu β L x0 (2:Int) (fun v1 =>
 zg β L p0 v1 (fun v2 =>
 k_fin v2))
theorem ztA {β:Type} (yu:zbF) (zg:zO) (L:Nat) (p0:List (List V)) (p1:Int) (k:KK β):yt zh9 (zie yu zg L) L zfB [(V.sl 1 p0),(V.sc (.int .u16 p1))] [] k=zov yu zg L p0 p1 (fun p0=>k (V.gs 1 p0) []):=by kernel_rfl
abbrev zga:=∀ (β:Type),Nat→List (List V)→Int→(List (List V)→Option β)→Option β
def xV (β:Type) (L:Nat) (p0:List (List V)) (p1:Int) (k_fin:List (List V)→Option β):Option β:=zov yu zg L p0 p1 k_fin
def zgc (xV:zga) (L:Nat) (β:Type) (args:List V) (bor:Bor) (k:KK β):Option β:=match args,bor with
 | [a0,a1],[]=>aL 1 a0 fun p0=>aI .u16 a1 fun p1=>xV β L p0 p1 (fun p0=>k (V.gs 1 p0) [])
 | _,_=>none
theorem ztu (L:Nat) (β:Type) (args:List V) (bor:Bor) (k:KK β) (r:β) (h:zgc xV L β args bor k=some r):yt zh9 (zie yu zg L) L zfB args bor k=some r:=by
 unfold zgc at h
 split at h
 ·have q:=zM h; clear h; obtain ⟨p0,rfl,h⟩:=q
  have q:=zy h; clear h; obtain ⟨p1,rfl,h⟩:=q
  exact (ztA yu zg L p0 p1 k).trans h
 ·cases h
def zfR:CF:=⟨9,[.tmp 4],
 (.seq (.reg [oo 4 (.move (.const (.gs 1 [])) true)])
 (.seq (.reg [oo 5 (.move (tq 0) false),
   oo 6 (.move (tq 1) false),
   oo 7 (.call 192 [((tq 6),0),((.const (.sc (.int .i64 8))),0)] []),
   oo 8 (.call 191 [((tq 5),0),((tq 7),0)] []),
   oo 4 (.move (tq 8) true)])
 .ret))⟩
def zlA:Hint:=⟨[(0,0),(1,4)],[],[none],[],[],false,false,[]⟩
def ziD:Nat→Sh:=yP []
def zir (yu:zbF) (zg:zO) (L:Nat):CBC:=(xv 191 (zbI zg L) (xv 192 (zeC yu L) noC))
def zoe {β:Type} (yu:zbF) (zg:zO) (L:Nat) (p0:List (List V)) (p1:Int) (k_fin:List (List V)→Option β):Option β :=
 yu β L p1 (8:Int) (fun v0 =>
 zg β L p0 v0 (fun v1 =>
 k_fin v1))
theorem zta {β:Type} (yu:zbF) (zg:zO) (L:Nat) (p0:List (List V)) (p1:Int) (k:KK β):yt ziD (zir yu zg L) L zfR [(V.sl 1 p0),(V.sc (.int .u64 p1))] [] k=zoe yu zg L p0 p1 (fun p0=>k (V.gs 1 p0) []):=by kernel_rfl
abbrev zo:=∀ (β:Type),Nat→List (List V)→Int→(List (List V)→Option β)→Option β
def xd (β:Type) (L:Nat) (p0:List (List V)) (p1:Int) (k_fin:List (List V)→Option β):Option β:=zoe yu zg L p0 p1 k_fin
def zd7 (xd:zo) (L:Nat) (β:Type) (args:List V) (bor:Bor) (k:KK β):Option β:=match args,bor with
 | [a0,a1],[]=>aL 1 a0 fun p0=>aI .u64 a1 fun p1=>xd β L p0 p1 (fun p0=>k (V.gs 1 p0) [])
 | _,_=>none
theorem ztG (L:Nat) (β:Type) (args:List V) (bor:Bor) (k:KK β) (r:β) (h:zd7 xd L β args bor k=some r):yt ziD (zir yu zg L) L zfR args bor k=some r:=by
 unfold zd7 at h
 split at h
 ·have q:=zM h; clear h; obtain ⟨p0,rfl,h⟩:=q
  have q:=zy h; clear h; obtain ⟨p1,rfl,h⟩:=q
  exact (zta yu zg L p0 p1 k).trans h
 ·cases h
def zfc:CF:=⟨36,[.tmp 4],
 (.seq (.reg [oo 4 (.move (.const (.gs 1 [])) true)])
 (.seq (.block 0 (.seq (.reg [oo 6 (.move (tq 1) false),
   oo 7 (.bin .lss (tq 6) (.const (.sc (.int .u64 253)))),
   oo 5 (.move (tq 7) false)])
 (.cond (tq 5)
 (.seq (.reg [oo 8 (.move (tq 0) false),
   oo 9 (.move (tq 1) false),
   oo 10 (.conv .u8 (tq 9)),
   oo 11 (.buildSlice 1 1 [(.sc (.int .u8 0))] [(0,1,(tq 10))]),
   oo 12 (.call 191 [((tq 8),0),((tq 11),0)] []),
   oo 4 (.move (tq 12) true)])
 .ret)
 (.seq (.reg [oo 14 (.move (tq 1) false),
   oo 15 (.bin .lss (tq 14) (.const (.sc (.int .u64 65536)))),
   oo 13 (.move (tq 15) false)])
 (.cond (tq 13)
 (.seq (.reg [oo 16 (.move (tq 0) false),
   oo 17 (.buildSlice 1 1 [(.sc (.int .u8 0))] [(0,1,(.const (.sc (.int .u8 253))))]),
   oo 18 (.call 191 [((tq 16),0),((tq 17),0)] []),
   oo 19 (.move (tq 1) false),
   oo 20 (.conv .u16 (tq 19)),
   oo 21 (.call 205 [((tq 18),0),((tq 20),0)] []),
   oo 4 (.move (tq 21) true)])
 .ret)
 (.seq (.reg [oo 23 (.move (tq 1) false),
   oo 24 (.bin .lss (tq 23) (.const (.sc (.int .u64 4294967296)))),
   oo 22 (.move (tq 24) false)])
 (.cond (tq 22)
 (.seq (.reg [oo 25 (.move (tq 0) false),
   oo 26 (.buildSlice 1 1 [(.sc (.int .u8 0))] [(0,1,(.const (.sc (.int .u8 254))))]),
   oo 27 (.call 191 [((tq 25),0),((tq 26),0)] []),
   oo 28 (.move (tq 1) false),
   oo 29 (.conv .u32 (tq 28)),
   oo 30 (.call 157 [((tq 27),0),((tq 29),0)] []),
   oo 4 (.move (tq 30) true)])
 .ret)
 .skip)))))))
 (.seq (.reg [oo 31 (.move (tq 0) false),
   oo 32 (.buildSlice 1 1 [(.sc (.int .u8 0))] [(0,1,(.const (.sc (.int .u8 255))))]),
   oo 33 (.call 191 [((tq 31),0),((tq 32),0)] []),
   oo 34 (.move (tq 1) false),
   oo 35 (.call 183 [((tq 33),0),((tq 34),0)] []),
   oo 4 (.move (tq 35) true)])
 .ret)))⟩
def zkx:Hint:=⟨[(0,0),(2,5),(4,6),(6,6),(7,5)],[],[none,none,none,none,none,none,none,none],[],[],false,false,[]⟩
def zhE:Nat→Sh:=yP []
def zhB (zg:zO) (xV:zga) (xc:xk) (xd:zo) (L:Nat):CBC:=(xv 183 (zd7 xd L) (xv 157 (zc5 xc L) (xv 205 (zgc xV L) (xv 191 (zbI zg L) noC))))
def znF {β:Type} (zg:zO) (xV:zga) (xc:xk) (xd:zo) (L:Nat) (p0:List (List V)) (p1:Int) (k_fin:List (List V)→Option β):Option β :=
 ifb (decide (p1 < (253:Int))) (
 lt (IntKind.wrap .u8 p1) fun x0 =>
 zg β L p0 (xj 1 1 [(V.sc (.int .u8 x0))]) (fun v1 =>
 k_fin v1)) (
 ifb (decide (p1 < (65536:Int))) (
 zg β L p0 (xj 1 1 [(V.sc (.int .u8 (253:Int)))]) (fun v2 =>
 lt (IntKind.wrap .u16 p1) fun x3 =>
 xV β L v2 x3 (fun v4 =>
 k_fin v4))) (
 ifb (decide (p1 < (4294967296:Int))) (
 zg β L p0 (xj 1 1 [(V.sc (.int .u8 (254:Int)))]) (fun v5 =>
 lt (IntKind.wrap .u32 p1) fun x6 =>
 xc β L v5 x6 (fun v7 =>
 k_fin v7))) (
 zg β L p0 (xj 1 1 [(V.sc (.int .u8 (255:Int)))]) (fun v8 =>
 xd β L v8 p1 (fun v9 =>
 k_fin v9)))))
theorem zsL {β:Type} (zg:zO) (xV:zga) (xc:xk) (xd:zo) (L:Nat) (p0:List (List V)) (p1:Int) (k:KK β):yt zhE (zhB zg xV xc xd L) L zfc [(V.sl 1 p0),(V.sc (.int .u64 p1))] [] k=znF zg xV xc xd L p0 p1 (fun p0=>k (V.gs 1 p0) []):=by kernel_rfl
abbrev zl:=∀ (β:Type),Nat→List (List V)→Int→(List (List V)→Option β)→Option β
def zd (β:Type) (L:Nat) (p0:List (List V)) (p1:Int) (k_fin:List (List V)→Option β):Option β:=znF zg xV xc xd L p0 p1 k_fin
def zdH (zd:zl) (L:Nat) (β:Type) (args:List V) (bor:Bor) (k:KK β):Option β:=match args,bor with
 | [a0,a1],[]=>aL 1 a0 fun p0=>aI .u64 a1 fun p1=>zd β L p0 p1 (fun p0=>k (V.gs 1 p0) [])
 | _,_=>none
theorem zsg (L:Nat) (β:Type) (args:List V) (bor:Bor) (k:KK β) (r:β) (h:zdH zd L β args bor k=some r):yt zhE (zhB zg xV xc xd L) L zfc args bor k=some r:=by
 unfold zdH at h
 split at h
 ·have q:=zM h; clear h; obtain ⟨p0,rfl,h⟩:=q
  have q:=zy h; clear h; obtain ⟨p1,rfl,h⟩:=q
  exact (zsL zg xV xc xd L p0 p1 k).trans h
 ·cases h
def ze1:CF:=⟨8,[.tmp 4],
 (.seq (.reg [oo 3 (.box true (tq 1)),
   oo 4 (.move (.const (.gs 1 [])) true)])
 (.seq (.reg [oo 5 (.move (tq 0) false),
   oo 6 (.sliceA 32 1 (tq 3) none none none),
   oo 7 (.call 191 [((tq 5),0),((tq 6),0)] []),
   oo 4 (.move (tq 7) true)])
 .ret))⟩
def zkI:Hint:=⟨[(0,1),(1,3)],[],[none],[],[],false,false,[]⟩
def zhu:Nat→Sh:=yP []
def zhv (zg:zO) (L:Nat):CBC:=(xv 191 (zbI zg L) noC)
def znw {β:Type} (zg:zO) (L:Nat) (p0:List (List V)) (p1:List V) (k_fin:List (List V)→Option β):Option β :=
 chk (0+32 * 1≤(List.length p1)) (
 ifb (List.isEmpty p1) (
 zg β L p0 (xj 1 32 p1) (fun v0 =>
 k_fin v0)) (
 zg β L p0 (xj 1 32 p1) (fun v1 =>
 k_fin v1)))
theorem zsi {β:Type} (zg:zO) (L:Nat) (p0:List (List V)) (p1:List V) (k:KK β):yt zhu (zhv zg L) L ze1 [(V.sl 1 p0),(V.agg p1)] [] k=znw zg L p0 p1 (fun p0=>k (V.gs 1 p0) []):=by kernel_rfl
abbrev zfC:=∀ (β:Type),Nat→List (List V)→List V→(List (List V)→Option β)→Option β
def zS (β:Type) (L:Nat) (p0:List (List V)) (p1:List V) (k_fin:List (List V)→Option β):Option β:=znw zg L p0 p1 k_fin
def zfL (zS:zfC) (L:Nat) (β:Type) (args:List V) (bor:Bor) (k:KK β):Option β:=match args,bor with
 | [a0,a1],[]=>aL 1 a0 fun p0=>aG a1 fun p1=>zS β L p0 p1 (fun p0=>k (V.gs 1 p0) [])
 | _,_=>none
theorem zrY (L:Nat) (β:Type) (args:List V) (bor:Bor) (k:KK β) (r:β) (h:zfL zS L β args bor k=some r):yt zhu (zhv zg L) L ze1 args bor k=some r:=by
 unfold zfL at h
 split at h
 ·have q:=zM h; clear h; obtain ⟨p0,rfl,h⟩:=q
  have q:=zgf h; clear h; obtain ⟨p1,rfl,h⟩:=q
  exact (zsi zg L p0 p1 k).trans h
 ·cases h
def zmU:CF:=⟨9,[.tmp 2],
 (.seq (.reg [oo 1 (.box true (tq 0)),
   oo 2 (.move (.const (.gs 1 [])) true)])
 (.seq (.dreg [] [(oo 3 (.fieldAddr 0 (tq 1)),q0),
   (oo 4 (.load true 32 (tq 3) false),ql 1 [] []),
   (oo 5 (.call 158 [((.const (.gs 1 [])),0),((tq 4),0)] []),qc [1] []),
   (oo 6 (.fieldAddr 32 (tq 1)),q0),
   (oo 7 (.load false 1 (tq 6) false),ql 1 [] []),
   (oo 8 (.call 157 [((tq 5),0),((tq 7),0)] []),q0),
   (oo 2 (.move (tq 8) true),q0)])
 .ret))⟩
def zua:Hint:=⟨[(0,1),(1,6)],[],[none],[],[],false,false,[]⟩
def zqX:Nat→Sh:=yP [(7,(.int .u32))]
def zrv (zS:zfC) (xc:xk) (L:Nat):CBC:=(xv 157 (zc5 xc L) (xv 158 (zfL zS L) noC))
def zyD {β:Type} (zS:zfC) (xc:xk) (L:Nat) (p0:List V) (k_fin:List (List V)→Option β):Option β :=
 chk (0+32≤(List.length p0)) (
 zS β L ([]:List (List V)) (List.take 32 p0) (fun v0 =>
 cI .u32 p0 32 fun v1 =>
 xc β L v0 v1 (fun v2 =>
 k_fin v2)))
theorem zAT {β:Type} (zS:zfC) (xc:xk) (L:Nat) (p0:List V) (k:KK β):yt zqX (zrv zS xc L) L zmU [(V.agg p0)] [] k=zyD zS xc L p0 (fun p0=>k (V.gs 1 p0) []):=by kernel_rfl
abbrev yH:=∀ (β:Type),Nat→List V→(List (List V)→Option β)→Option β
def yg (β:Type) (L:Nat) (p0:List V) (k_fin:List (List V)→Option β):Option β:=zyD zS xc L p0 k_fin
def zoL (yg:yH) (L:Nat) (β:Type) (args:List V) (bor:Bor) (k:KK β):Option β:=match args,bor with
 | [a0],[]=>aG a0 fun p0=>yg β L p0 (fun p0=>k (V.gs 1 p0) [])
 | _,_=>none
theorem zA8 (L:Nat) (β:Type) (args:List V) (bor:Bor) (k:KK β) (r:β) (h:zoL yg L β args bor k=some r):yt zqX (zrv zS xc L) L zmU args bor k=some r:=by
 unfold zoL at h
 split at h
 ·have q:=zgf h; clear h; obtain ⟨p0,rfl,h⟩:=q
  exact (zAT zS xc L p0 k).trans h
 ·cases h
def zej:CF:=⟨12,[.tmp 4],
 (.seq (.reg [oo 4 (.move (.const (.gs 1 [])) true)])
 (.seq (.reg [oo 5 (.move (tq 0) false),
   oo 6 (.move (tq 1) false),
   oo 7 (.lenS (tq 6)),
   oo 8 (.conv .u64 (tq 7)),
   oo 9 (.call 182 [((tq 5),0),((tq 8),0)] []),
   oo 10 (.move (tq 1) false),
   oo 11 (.call 191 [((tq 9),0),((tq 10),0)] []),
   oo 4 (.move (tq 11) true)])
 .ret))⟩
def zjB:Hint:=⟨[(0,0),(1,7)],[],[none],[],[],false,false,[]⟩
def zg4:Nat→Sh:=yP []
def zhc (zd:zl) (zg:zO) (L:Nat):CBC:=(xv 191 (zbI zg L) (xv 182 (zdH zd L) noC))
def zl1 {β:Type} (zd:zl) (zg:zO) (L:Nat) (p0 p1:List (List V)) (k_fin:List (List V)→Option β):Option β :=
 lt (IntKind.wrap .u64 ((List.length p1:Nat):Int)) fun x0 =>
 zd β L p0 x0 (fun v1 =>
 zg β L v1 p1 (fun v2 =>
 k_fin v2))
theorem zrf {β:Type} (zd:zl) (zg:zO) (L:Nat) (p0 p1:List (List V)) (k:KK β):yt zg4 (zhc zd zg L) L zej [(V.sl 1 p0),(V.sl 1 p1)] [] k=zl1 zd zg L p0 p1 (fun p0=>k (V.gs 1 p0) []):=by kernel_rfl
abbrev xl:=∀ (β:Type),Nat→List (List V)→List (List V)→(List (List V)→Option β)→Option β
def yd (β:Type) (L:Nat) (p0 p1:List (List V)) (k_fin:List (List V)→Option β):Option β:=zl1 zd zg L p0 p1 k_fin
def zfl (yd:xl) (L:Nat) (β:Type) (args:List V) (bor:Bor) (k:KK β):Option β:=match args,bor with
 | [a0,a1],[]=>aL 1 a0 fun p0=>aL 1 a1 fun p1=>yd β L p0 p1 (fun p0=>k (V.gs 1 p0) [])
 | _,_=>none
theorem zrg (L:Nat) (β:Type) (args:List V) (bor:Bor) (k:KK β) (r:β) (h:zfl yd L β args bor k=some r):yt zg4 (zhc zd zg L) L zej args bor k=some r:=by
 unfold zfl at h
 split at h
 ·have q:=zM h; clear h; obtain ⟨p0,rfl,h⟩:=q
  have q:=zM h; clear h; obtain ⟨p1,rfl,h⟩:=q
  exact (zrf zd zg L p0 p1 k).trans h
 ·cases h
def zaL:CC:=(.seq (.reg [oo 94 (.bin .lss (tq 93) (tq 92))])
 (.seq (.cond (tq 94)
 .skip
 (.seq (.mask (bl 1057810092162800527867936 104) (bl 18380933703309326321702196467067 104))
 (.exit 6)))
 (.seq (.block 7 (.seq (.reg [oo 95 (.indexAddrS 1 (tq 91) (tq 93)),
   oo 96 (.load false 1 (tq 95) false),
   oo 13 (.move (tq 96) false)])
 (.reg [oo 97 (.move (tq 5) true),
   oo 98 (.move (tq 13) false),
   oo 99 (.call 184 [((.const (.gs 1 [])),0),((tq 98),0)] []),
   oo 100 (.append 1 1 (tq 97) (tq 99)),
   oo 5 (.move (tq 100) true)])))
 (.reg [oo 101 (.bin .add (tq 93) (.const (.sc (.int .i64 1)))),
   oo 93 (.move (tq 101) false)]))))
def zdY:CC:=(.reg [oo 102 (.bin .add (tq 79) (.const (.sc (.int .i64 1)))),
   oo 79 (.move (tq 102) false)])
def zbo:CC:=(.seq (.reg [oo 80 (.bin .lss (tq 79) (tq 78))])
 (.seq (.cond (tq 80)
 .skip
 (.seq (.mask (bl 32 104) (bl 18374976116870265429129244431739 104))
 (.exit 4)))
 (.seq (.block 5 (.seq (.reg [oo 81 (.indexAddrS 35 (tq 77) (tq 79)),
   oo 82 (.load true 35 (tq 81) false),
   oo 11 (.alloc true (rp 32 (.sc (.int .u8 0)) (rp 2 (.sc (.int .u32 0)) (rp 1 (.gs 1 []) [])))),
   oz (.store 35 (tq 11) (tq 82))])
 (.seq (.reg [oo 83 (.move (tq 5) true),
   oo 84 (.fieldAddr 34 (tq 11)),
   oo 85 (.load false 1 (tq 84) false),
   oo 86 (.lenS (tq 85)),
   oo 87 (.conv .u64 (tq 86)),
   oo 88 (.call 182 [((.const (.gs 1 [])),0),((tq 87),0)] []),
   oo 89 (.append 1 1 (tq 83) (tq 88)),
   oo 5 (.move (tq 89) true)])
 (.seq (.reg [oo 90 (.fieldAddr 34 (tq 11)),
   oo 91 (.load false 1 (tq 90) false),
   oo 92 (.lenS (tq 91)),
   oo 93 (.move (.const (.sc (.int .i64 0))) false)])
 (.block 6 (.loop (bl 17332218360087486649115607072 104) (bl 18380933703309326321702196467067 104)
 zaL))))))
 zdY)))
def zcP:CC:=(.seq (.reg [oo 53 (.bin .lss (tq 52) (tq 51))])
 (.seq (.cond (tq 53)
 .skip
 (.seq (.mask (bl 38 104) (bl 20282409603537531194991173432703 104))
 (.exit 2)))
 (.seq (.block 3 (.seq (.reg [oo 54 (.indexAddrS 2 (tq 50) (tq 52)),
   oo 55 (.load true 2 (tq 54) false),
   oo 9 (.alloc true [(.sc (.int .i64 0)),(.gs 1 [])]),
   oz (.store 2 (tq 9) (tq 55))])
 (.seq (.reg [oo 56 (.move (tq 5) true),
   oo 57 (.fieldAddr 0 (tq 9)),
   oo 58 (.load false 1 (tq 57) false),
   oo 59 (.conv .u64 (tq 58)),
   oo 60 (.call 183 [((.const (.gs 1 [])),0),((tq 59),0)] []),
   oo 61 (.append 1 1 (tq 56) (tq 60)),
   oo 5 (.move (tq 61) true)])
 (.reg [oo 62 (.move (tq 5) true),
   oo 63 (.fieldAddr 1 (tq 9)),
   oo 64 (.load false 1 (tq 63) false),
   oo 65 (.call 184 [((.const (.gs 1 [])),0),((tq 64),0)] []),
   oo 66 (.append 1 1 (tq 62) (tq 65)),
   oo 5 (.move (tq 66) true)]))))
 (.reg [oo 67 (.bin .add (tq 52) (.const (.sc (.int .i64 1)))),
   oo 52 (.move (tq 67) false)]))))
def zgK:CC:=(.seq (.reg [oo 103 (.move (tq 5) true),
   oo 4 (.move (tq 103) true)])
 .ret)
def zdG:CC:=(.seq (.reg [oo 28 (.bin .lss (tq 27) (tq 26))])
 (.seq (.cond (tq 28)
 .skip
 (.seq (.mask (bl 38 104) (bl 20282409603651670422246444234111 104))
 (.exit 0)))
 (.seq (.block 1 (.seq (.reg [oo 29 (.indexAddrS 35 (tq 25) (tq 27)),
   oo 30 (.load true 35 (tq 29) false),
   oo 7 (.alloc true (rp 32 (.sc (.int .u8 0)) (rp 2 (.sc (.int .u32 0)) (rp 1 (.gs 1 []) [])))),
   oz (.store 35 (tq 7) (tq 30))])
 (.seq (.reg [oo 31 (.move (tq 5) true),
   oo 32 (.fieldAddr 0 (tq 7)),
   oo 33 (.load true 33 (tq 32) false),
   oo 34 (.call 137 [((tq 33),0)] []),
   oo 35 (.append 1 1 (tq 31) (tq 34)),
   oo 5 (.move (tq 35) true)])
 (.reg [oo 36 (.move (tq 5) true),
   oo 37 (.fieldAddr 33 (tq 7)),
   oo 38 (.load false 1 (tq 37) false),
   oo 39 (.call 157 [((.const (.gs 1 [])),0),((tq 38),0)] []),
   oo 40 (.append 1 1 (tq 36) (tq 39)),
   oo 5 (.move (tq 40) true)]))))
 (.reg [oo 41 (.bin .add (tq 27) (.const (.sc (.int .i64 1)))),
   oo 27 (.move (tq 41) false)]))))
def zgd:CC:=(.seq (.reg [oo 68 (.move (tq 5) true),
   oo 69 (.fieldAddr 3 (tq 2)),
   oo 70 (.load false 1 (tq 69) false),
   oo 71 (.call 157 [((.const (.gs 1 [])),0),((tq 70),0)] []),
   oo 72 (.append 1 1 (tq 68) (tq 71)),
   oo 5 (.move (tq 72) true)])
 (.seq (.seq (.reg [oo 73 (.move (tq 1) false),
   oo 74 (.un .not (tq 73))])
 (.cond (tq 74)
 (.seq (.reg [oo 75 (.move (tq 5) true),
   oo 4 (.move (tq 75) true)])
 .ret)
 .skip))
 (.seq (.seq (.reg [oo 76 (.fieldAddr 1 (tq 2)),
   oo 77 (.load false 1 (tq 76) false),
   oo 78 (.lenS (tq 77)),
   oo 79 (.move (.const (.sc (.int .i64 0))) false)])
 (.block 4 (.loop (bl 1057810092162800527867936 104) (bl 18374976116870265429129244431739 104)
 zbo)))
 zgK)))
def zh3:CC:=(.seq (.reg [oo 42 (.move (tq 5) true),
   oo 43 (.fieldAddr 2 (tq 2)),
   oo 44 (.load false 1 (tq 43) false),
   oo 45 (.lenS (tq 44)),
   oo 46 (.conv .u64 (tq 45)),
   oo 47 (.call 182 [((.const (.gs 1 [])),0),((tq 46),0)] []),
   oo 48 (.append 1 1 (tq 42) (tq 47)),
   oo 5 (.move (tq 48) true)])
 (.seq (.seq (.reg [oo 49 (.fieldAddr 2 (tq 2)),
   oo 50 (.load false 1 (tq 49) false),
   oo 51 (.lenS (tq 50)),
   oo 52 (.move (.const (.sc (.int .i64 0))) false)])
 (.block 2 (.loop (bl 7881299347898406 104) (bl 20282409603537531194991173432703 104)
 zcP)))
 zgd))
def za9:CF:=⟨104,[.tmp 4],
 (.seq (.reg [oo 2 (.box true (tq 0)),
   oo 4 (.move (.const (.gs 1 [])) true)])
 (.seq (.reg [oo 14 (.fieldAddr 0 (tq 2)),
   oo 15 (.load false 1 (tq 14) false),
   oo 16 (.call 157 [((.const (.gs 1 [])),0),((tq 15),0)] []),
   oo 5 (.move (tq 16) true)])
 (.seq (.reg [oo 17 (.move (tq 5) true),
   oo 18 (.fieldAddr 1 (tq 2)),
   oo 19 (.load false 1 (tq 18) false),
   oo 20 (.lenS (tq 19)),
   oo 21 (.conv .u64 (tq 20)),
   oo 22 (.call 182 [((.const (.gs 1 [])),0),((tq 21),0)] []),
   oo 23 (.append 1 1 (tq 17) (tq 22)),
   oo 5 (.move (tq 23) true)])
 (.seq (.seq (.reg [oo 24 (.fieldAddr 1 (tq 2)),
   oo 25 (.load false 1 (tq 24) false),
   oo 26 (.lenS (tq 25)),
   oo 27 (.move (.const (.sc (.int .i64 0))) false)])
 (.block 0 (.loop (bl 234881062 104) (bl 20282409603651670422246444234111 104)
 zdG)))
 zh3))))⟩
def zrX:Hint:=⟨[(0,0),(0,1),(1,3),(2,0),(2,7),(5,2),(6,0),(6,5),(7,0),(7,5),(9,0),(9,7),(12,2),(13,0),(13,6),(14,0),(14,5),(16,0),(16,5),(18,0),(18,1),(21,2),(22,0),(22,7),(26,0),(26,4),(29,0),(29,1)],[],[none,some ((bl 234881062 104),(bl 20282409603651670422246444234111 104)),none,some ((bl 38 104),(bl 20282409603651670422246444234111 104)),none,none,some ((bl 7881299347898406 104),(bl 20282409603537531194991173432703 104)),none,some ((bl 38 104),(bl 20282409603537531194991173432703 104)),none,none,none,none,some ((bl 1057810092162800527867936 104),(bl 18374976116870265429129244431739 104)),none,some ((bl 32 104),(bl 18374976116870265429129244431739 104)),none,none,some ((bl 17332218360087486649115607072 104),(bl 18380933703309326321702196467067 104)),none,some ((bl 1057810092162800527867936 104),(bl 18380933703309326321702196467067 104)),none,none],[],[],false,false,[]⟩
def zF:Nat→Sh:=yP [(15,(.int .u32)),(19,(.sl 35)),(25,(.sl 35)),(38,(.int .u32)),(44,(.sl 2)),(50,(.sl 2)),(58,(.int .i64)),(64,(.sl 1)),(70,(.int .u32)),(77,(.sl 35)),(85,(.sl 1)),(91,(.sl 1)),(96,(.sl 1))]
def yF (xc:xk) (zd:zl) (yg:yH) (xd:zo) (yd:xl) (L:Nat):CBC:=(xv 184 (zfl yd L) (xv 183 (zd7 xd L) (xv 137 (zoL yg L) (xv 182 (zdH zd L) (xv 157 (zc5 xc L) noC)))))
def zf7:St→St:=y4 0 (bl 234881062 104) (bl 20282409603651670422246444234111 104)
def zfk:St→St:=y4 0 (bl 7881299347898406 104) (bl 20282409603537531194991173432703 104)
def zaW:St→St:=y4 0 (bl 1057810092162800527867936 104) (bl 18374976116870265429129244431739 104)
def zbB:St→St:=y4 0 (bl 17332218360087486649115607072 104) (bl 18380933703309326321702196467067 104)
def zeo (p1:Bool) (p5 p25:List (List V)) (p26 p27:Int) (b2:List V):St:=⟨(jn 1 ((V.sc (.bool p1))::((V.ptr 2 0)::(jn 2 ((V.gs 1 p5)::(jn 19 ((V.sl 35 p25)::((V.sc (.int .i64 p26))::((V.sc (.int .i64 p27))::(jn 76 [])))))))))),(gn 2 ((.live true b2)::(gn 101 [])))⟩
def zhT (p1:Bool) (p5:List (List V)) (b2:List V):St:=⟨(jn 1 ((V.sc (.bool p1))::((V.ptr 2 0)::(jn 2 ((V.gs 1 p5)::(jn 98 [])))))),(gn 2 ((.live true b2)::(gn 101 [])))⟩
def zdt (p1:Bool) (p5 p50:List (List V)) (p51 p52:Int) (b2:List V):St:=⟨(jn 1 ((V.sc (.bool p1))::((V.ptr 2 0)::(jn 2 ((V.gs 1 p5)::(jn 44 ((V.sl 2 p50)::((V.sc (.int .i64 p51))::((V.sc (.int .i64 p52))::(jn 51 [])))))))))),(gn 2 ((.live true b2)::(gn 101 [])))⟩
def zhP (p1:Bool) (p5:List (List V)) (b2:List V):St:=⟨(jn 1 ((V.sc (.bool p1))::((V.ptr 2 0)::(jn 2 ((V.gs 1 p5)::(jn 98 [])))))),(gn 2 ((.live true b2)::(gn 101 [])))⟩
def za1 (p5 p77:List (List V)) (p78 p79:Int):St:=⟨(jn 5 ((V.gs 1 p5)::(jn 71 ((V.sl 35 p77)::((V.sc (.int .i64 p78))::((V.sc (.int .i64 p79))::(jn 24 []))))))),(gn 104 [])⟩
def za6 (p5 p77:List (List V)) (p78 p79:Int) (p91:List (List V)) (p92 p93:Int):St:=⟨(jn 5 ((V.gs 1 p5)::(jn 71 ((V.sl 35 p77)::((V.sc (.int .i64 p78))::((V.sc (.int .i64 p79))::(jn 11 ((V.sl 1 p91)::((V.sc (.int .i64 p92))::((V.sc (.int .i64 p93))::(jn 10 []))))))))))),(gn 104 [])⟩
def zhK (p5:List (List V)):St:=⟨(jn 5 ((V.gs 1 p5)::(jn 98 []))),(gn 104 [])⟩
def zle (p5 p77:List (List V)) (p78 p79:Int):St:=⟨(jn 5 ((V.gs 1 p5)::(jn 71 ((V.sl 35 p77)::((V.sc (.int .i64 p78))::((V.sc (.int .i64 p79))::(jn 24 []))))))),(gn 104 [])⟩
abbrev zne (β:Type):Type:=Bool→List (List V)→List (List V)→Int→Int→List V→Option β
abbrev zls (β:Type):Type:=Bool→List (List V)→List (List V)→Int→Int→List V→Option β
abbrev zeK (β:Type):Type:=List (List V)→List (List V)→Int→Int→List (List V)→Int→Int→Option β
def zwx {β:Type} (xc:xk) (zd:zl) (yg:yH) (xd:zo) (yd:xl) (L:Nat) (p0:List V) (p1:Bool) (k_hbbbaba:zne β):Option β :=
 cI .u32 p0 0 fun v0 =>
 xc β L ([]:List (List V)) v0 (fun v1 =>
 cLd 35 p0 1 fun v2 =>
 lt (IntKind.wrap .u64 ((List.length v2:Nat):Int)) fun x3 =>
 zd β L ([]:List (List V)) x3 (fun v4 =>
 chk ((List.length v1+List.length v4) * 1≤yn∧List.length v1+List.length v4≤yn) (
 lt (v1++v4) fun l5 =>
 cLd 35 p0 1 fun v6 =>
 k_hbbbaba p1 l5 v6 ((List.length v6:Nat):Int) (0:Int) p0)))
theorem zzj {β:Type} (xc:xk) (zd:zl) (yg:yH) (xd:zo) (yd:xl) (L:Nat) (p0:List V) (p1:Bool) (k:KK β):yt zF (yF xc zd yg xd yd L) L za9 [(V.agg p0),(V.sc (.bool p1))] [] k=zwx xc zd yg xd yd L p0 p1 (fun p1 p5 p25 p26 p27 b2=>yB (yk zF (yF xc zd yg xd yd L) 0 L zdG) zf7 L (zeo p1 p5 p25 p26 p27 b2) (zw 0 (yR (yk zF (yF xc zd yg xd yd L) 0 L zh3) (y6 0 (CF.res za9) k)))):=by kernel_rfl
def zol {β:Type} (xc:xk) (zd:zl) (yg:yH) (xd:zo) (yd:xl) (L:Nat) (p1:Bool) (p5 p25:List (List V)) (p26 p27:Int) (b2:List V) (k_hbbbaba:zne β) (k_x0:Bool→List (List V)→List V→Option β):Option β :=
 ifb (decide (p27 < p26)) (
 idx p25 p27 fun c7 =>
 chk ((List.length (List.take 35 c7))=35∧0+35≤35) (
 lt (yl (List.replicate 32 (V.sc (.int .u8 (0:Int)))++[(V.sc (.int .u32 (0:Int))),(V.sc (.int .u32 (0:Int))),(V.gs 1 ([]:List (List V)))]) 0 (List.take 35 c7)) fun r8 =>
 chk (0+33≤(List.length r8)) (
 yg β L (List.take 33 r8) (fun v9 =>
 chk ((List.length p5+List.length v9) * 1≤yn∧List.length p5+List.length v9≤yn) (
 lt (p5++v9) fun l10 =>
 cI .u32 r8 33 fun v11 =>
 xc β L ([]:List (List V)) v11 (fun v12 =>
 chk ((List.length l10+List.length v12) * 1≤yn∧List.length l10+List.length v12≤yn) (
 lt (l10++v12) fun l13 =>
 lt (IntKind.wrap .i64 ((p27:Int)+(1:Int))) fun x14 =>
 k_hbbbaba p1 l13 p25 p26 x14 b2))))))) (
 k_x0 p1 p5 b2)
theorem ztf {β:Type} (xc:xk) (zd:zl) (yg:yH) (xd:zo) (yd:xl) (L:Nat) (p1:Bool) (p5 p25:List (List V)) (p26 p27:Int) (b2:List V) (X:St→Option β) (K:KT β):yk zF (yF xc zd yg xd yd L) 0 L zdG (zeo p1 p5 p25 p26 p27 b2) (y9 zf7 X K)=zol xc zd yg xd yd L p1 p5 p25 p26 p27 b2 (fun p1 p5 p25 p26 p27 b2=>X (zeo p1 p5 p25 p26 p27 b2)) (fun p1 p5 b2=>K (.exit 0) (zhT p1 p5 b2)):=by kernel_rfl
def zl2 {β:Type} (xc:xk) (zd:zl) (yg:yH) (xd:zo) (yd:xl) (L:Nat) (p1:Bool) (p5:List (List V)) (b2:List V) (k_hbbbbbaba:zls β):Option β :=
 cLd 2 b2 2 fun v15 =>
 lt (IntKind.wrap .u64 ((List.length v15:Nat):Int)) fun x16 =>
 zd β L ([]:List (List V)) x16 (fun v17 =>
 chk ((List.length p5+List.length v17) * 1≤yn∧List.length p5+List.length v17≤yn) (
 lt (p5++v17) fun l18 =>
 cLd 2 b2 2 fun v19 =>
 k_hbbbbbaba p1 l18 v19 ((List.length v19:Nat):Int) (0:Int) b2))
theorem zrz {β:Type} (xc:xk) (zd:zl) (yg:yH) (xd:zo) (yd:xl) (L:Nat) (p1:Bool) (p5:List (List V)) (b2:List V) (k:KK β):(zw 0 (yR (yk zF (yF xc zd yg xd yd L) 0 L zh3) (y6 0 (CF.res za9) k))) (.exit 0) (zhT p1 p5 b2)=zl2 xc zd yg xd yd L p1 p5 b2 (fun p1 p5 p50 p51 p52 b2=>yB (yk zF (yF xc zd yg xd yd L) 0 L zcP) zfk L (zdt p1 p5 p50 p51 p52 b2) (zw 2 (yR (yk zF (yF xc zd yg xd yd L) 0 L zgd) (y6 0 (CF.res za9) k)))):=by kernel_rfl
def zl7 {β:Type} (xc:xk) (zd:zl) (yg:yH) (xd:zo) (yd:xl) (L:Nat) (p1:Bool) (p5 p50:List (List V)) (p51 p52:Int) (b2:List V) (k_hbbbbbaba:zls β) (k_x2:Bool→List (List V)→List V→Option β):Option β :=
 ifb (decide (p52 < p51)) (
 idx p50 p52 fun c20 =>
 chk ((List.length (List.take 2 c20))=2∧0+2≤2) (
 lt (yl [(V.sc (.int .i64 (0:Int))),(V.gs 1 ([]:List (List V)))] 0 (List.take 2 c20)) fun r21 =>
 cI .i64 r21 0 fun v22 =>
 lt (IntKind.wrap .u64 v22) fun x23 =>
 xd β L ([]:List (List V)) x23 (fun v24 =>
 chk ((List.length p5+List.length v24) * 1≤yn∧List.length p5+List.length v24≤yn) (
 lt (p5++v24) fun l25 =>
 cLd 1 r21 1 fun v26 =>
 yd β L ([]:List (List V)) v26 (fun v27 =>
 chk ((List.length l25+List.length v27) * 1≤yn∧List.length l25+List.length v27≤yn) (
 lt (l25++v27) fun l28 =>
 lt (IntKind.wrap .i64 ((p52:Int)+(1:Int))) fun x29 =>
 k_hbbbbbaba p1 l28 p50 p51 x29 b2)))))) (
 k_x2 p1 p5 b2)
theorem zq2 {β:Type} (xc:xk) (zd:zl) (yg:yH) (xd:zo) (yd:xl) (L:Nat) (p1:Bool) (p5 p50:List (List V)) (p51 p52:Int) (b2:List V) (X:St→Option β) (K:KT β):yk zF (yF xc zd yg xd yd L) 0 L zcP (zdt p1 p5 p50 p51 p52 b2) (y9 zfk X K)=zl7 xc zd yg xd yd L p1 p5 p50 p51 p52 b2 (fun p1 p5 p50 p51 p52 b2=>X (zdt p1 p5 p50 p51 p52 b2)) (fun p1 p5 b2=>K (.exit 2) (zhP p1 p5 b2)):=by kernel_rfl
def zkz {β:Type} (xc:xk) (zd:zl) (yg:yH) (xd:zo) (yd:xl) (L:Nat) (p1:Bool) (p5:List (List V)) (b2:List V) (k_fin:List (List V)→Option β) (k_hbbbbbbbbaba:List (List V)→List (List V)→Int→Int→Option β):Option β :=
 cI .u32 b2 3 fun v30 =>
 xc β L ([]:List (List V)) v30 (fun v31 =>
 chk ((List.length p5+List.length v31) * 1≤yn∧List.length p5+List.length v31≤yn) (
 lt (p5++v31) fun l32 =>
 ifb (!p1) (
 k_fin l32) (
 cLd 35 b2 1 fun v33 =>
 k_hbbbbbbbbaba l32 v33 ((List.length v33:Nat):Int) (0:Int))))
theorem zpJ {β:Type} (xc:xk) (zd:zl) (yg:yH) (xd:zo) (yd:xl) (L:Nat) (p1:Bool) (p5:List (List V)) (b2:List V) (k:KK β):(zw 2 (yR (yk zF (yF xc zd yg xd yd L) 0 L zgd) (y6 0 (CF.res za9) k))) (.exit 2) (zhP p1 p5 b2)=zkz xc zd yg xd yd L p1 p5 b2 (fun p0=>k (V.gs 1 p0) []) (fun p5 p77 p78 p79=>yB (yk zF (yF xc zd yg xd yd L) 0 L zbo) zaW L (za1 p5 p77 p78 p79) (zw 4 (yR (yk zF (yF xc zd yg xd yd L) 0 L zgK) (y6 0 (CF.res za9) k)))):=by kernel_rfl
def zjm {β:Type} (xc:xk) (zd:zl) (yg:yH) (xd:zo) (yd:xl) (L:Nat) (p5 p77:List (List V)) (p78 p79:Int) (k_hbbbbbbbbabaabbaabbba:zeK β) (k_x4:List (List V)→Option β):Option β :=
 ifb (decide (p79 < p78)) (
 idx p77 p79 fun c34 =>
 chk ((List.length (List.take 35 c34))=35∧0+35≤35) (
 lt (yl (List.replicate 32 (V.sc (.int .u8 (0:Int)))++[(V.sc (.int .u32 (0:Int))),(V.sc (.int .u32 (0:Int))),(V.gs 1 ([]:List (List V)))]) 0 (List.take 35 c34)) fun r35 =>
 cLd 1 r35 34 fun v36 =>
 lt (IntKind.wrap .u64 ((List.length v36:Nat):Int)) fun x37 =>
 zd β L ([]:List (List V)) x37 (fun v38 =>
 chk ((List.length p5+List.length v38) * 1≤yn∧List.length p5+List.length v38≤yn) (
 lt (p5++v38) fun l39 =>
 cLd 1 r35 34 fun v40 =>
 k_hbbbbbbbbabaabbaabbba l39 p77 p78 p79 v40 ((List.length v40:Nat):Int) (0:Int))))) (
 k_x4 p5)
theorem zoF {β:Type} (xc:xk) (zd:zl) (yg:yH) (xd:zo) (yd:xl) (L:Nat) (p5 p77:List (List V)) (p78 p79:Int) (X:St→Option β) (K:KT β):yk zF (yF xc zd yg xd yd L) 0 L zbo (za1 p5 p77 p78 p79) (y9 zaW X K)=zjm xc zd yg xd yd L p5 p77 p78 p79 (fun p5 p77 p78 p79 p91 p92 p93=>yB (yk zF (yF xc zd yg xd yd L) 0 L zaL) zbB L (za6 p5 p77 p78 p79 p91 p92 p93) (zw 6 (zw 5 (yR (yk zF (yF xc zd yg xd yd L) 0 L zdY) (y9 zaW X K))))) (fun p5=>K (.exit 4) (zhK p5)):=by kernel_rfl
def ziE {β:Type} (xc:xk) (zd:zl) (yg:yH) (xd:zo) (yd:xl) (L:Nat) (p5:List (List V)) (k_fin:List (List V)→Option β):Option β :=
 k_fin p5
theorem znd {β:Type} (xc:xk) (zd:zl) (yg:yH) (xd:zo) (yd:xl) (L:Nat) (p5:List (List V)) (k:KK β):(zw 4 (yR (yk zF (yF xc zd yg xd yd L) 0 L zgK) (y6 0 (CF.res za9) k))) (.exit 4) (zhK p5)=ziE xc zd yg xd yd L p5 (fun p0=>k (V.gs 1 p0) []):=by kernel_rfl
def zfm {β:Type} (xc:xk) (zd:zl) (yg:yH) (xd:zo) (yd:xl) (L:Nat) (p5 p77:List (List V)) (p78 p79:Int) (p91:List (List V)) (p92 p93:Int) (k_hbbbbbbbbabaabbaabbba:zeK β) (k_x6:List (List V)→List (List V)→Int→Int→Option β):Option β :=
 ifb (decide (p93 < p92)) (
 idx p91 p93 fun c41 =>
 cL 1 c41 0 fun v42 =>
 yd β L ([]:List (List V)) v42 (fun v43 =>
 chk ((List.length p5+List.length v43) * 1≤yn∧List.length p5+List.length v43≤yn) (
 lt (p5++v43) fun l44 =>
 lt (IntKind.wrap .i64 ((p93:Int)+(1:Int))) fun x45 =>
 k_hbbbbbbbbabaabbaabbba l44 p77 p78 p79 p91 p92 x45))) (
 k_x6 p5 p77 p78 p79)
theorem zi9 {β:Type} (xc:xk) (zd:zl) (yg:yH) (xd:zo) (yd:xl) (L:Nat) (p5 p77:List (List V)) (p78 p79:Int) (p91:List (List V)) (p92 p93:Int) (X:St→Option β) (K:KT β):yk zF (yF xc zd yg xd yd L) 0 L zaL (za6 p5 p77 p78 p79 p91 p92 p93) (y9 zbB X K)=zfm xc zd yg xd yd L p5 p77 p78 p79 p91 p92 p93 (fun p5 p77 p78 p79 p91 p92 p93=>X (za6 p5 p77 p78 p79 p91 p92 p93)) (fun p5 p77 p78 p79=>K (.exit 6) (zle p5 p77 p78 p79)):=by kernel_rfl
def zet {β:Type} (xc:xk) (zd:zl) (yg:yH) (xd:zo) (yd:xl) (L:Nat) (p5 p77:List (List V)) (p78 p79:Int) (k_hbbbbbbbbaba:List (List V)→List (List V)→Int→Int→Option β):Option β :=
 lt (IntKind.wrap .i64 ((p79:Int)+(1:Int))) fun x46 =>
 k_hbbbbbbbbaba p5 p77 p78 x46
theorem zik {β:Type} (xc:xk) (zd:zl) (yg:yH) (xd:zo) (yd:xl) (L:Nat) (p5 p77:List (List V)) (p78 p79:Int) (X:St→Option β) (K:KT β):(zw 6 (zw 5 (yR (yk zF (yF xc zd yg xd yd L) 0 L zdY) (y9 zaW X K)))) (.exit 6) (zle p5 p77 p78 p79)=zet xc zd yg xd yd L p5 p77 p78 p79 (fun p5 p77 p78 p79=>X (za1 p5 p77 p78 p79)):=by kernel_rfl
def zjd {β:Type} (xc:xk) (zd:zl) (yg:yH) (xd:zo) (yd:xl) (L:Nat) (k_x0:Bool→List (List V)→List V→Option β):Nat→Bool→List (List V)→List (List V)→Int→Int→List V→Option β
 | 0,_,_,_,_,_,_=>none
 | n+1,p1,p5,p25,p26,p27,b2=>zol xc zd yg xd yd L p1 p5 p25 p26 p27 b2 (fun p1 p5 p25 p26 p27 b2=>zjd xc zd yg xd yd L k_x0 n p1 p5 p25 p26 p27 b2) k_x0
theorem zlL {β:Type} (xc:xk) (zd:zl) (yg:yH) (xd:zo) (yd:xl) (L:Nat) (K:KT β):∀ (n:Nat) (p1:Bool) (p5 p25:List (List V)) (p26 p27:Int) (b2:List V),yB (yk zF (yF xc zd yg xd yd L) 0 L zdG) zf7 n (zeo p1 p5 p25 p26 p27 b2) K=zjd xc zd yg xd yd L (fun p1 p5 b2=>K (.exit 0) (zhT p1 p5 b2)) n p1 p5 p25 p26 p27 b2:=by
 intro n
 induction n with
 | zero=>intros; rfl
 | succ n ih =>
  intro p1 p5 p25 p26 p27 b2
  refine (ztf xc zd yg xd yd L p1 p5 p25 p26 p27 b2 (fun σ=>yB (yk zF (yF xc zd yg xd yd L) 0 L zdG) zf7 n σ K) K).trans ?_
  simp only [ih]
  rfl
def zhH {β:Type} (xc:xk) (zd:zl) (yg:yH) (xd:zo) (yd:xl) (L:Nat) (k_x2:Bool→List (List V)→List V→Option β):Nat→Bool→List (List V)→List (List V)→Int→Int→List V→Option β
 | 0,_,_,_,_,_,_=>none
 | n+1,p1,p5,p50,p51,p52,b2=>zl7 xc zd yg xd yd L p1 p5 p50 p51 p52 b2 (fun p1 p5 p50 p51 p52 b2=>zhH xc zd yg xd yd L k_x2 n p1 p5 p50 p51 p52 b2) k_x2
theorem zjr {β:Type} (xc:xk) (zd:zl) (yg:yH) (xd:zo) (yd:xl) (L:Nat) (K:KT β):∀ (n:Nat) (p1:Bool) (p5 p50:List (List V)) (p51 p52:Int) (b2:List V),yB (yk zF (yF xc zd yg xd yd L) 0 L zcP) zfk n (zdt p1 p5 p50 p51 p52 b2) K=zhH xc zd yg xd yd L (fun p1 p5 b2=>K (.exit 2) (zhP p1 p5 b2)) n p1 p5 p50 p51 p52 b2:=by
 intro n
 induction n with
 | zero=>intros; rfl
 | succ n ih =>
  intro p1 p5 p50 p51 p52 b2
  refine (zq2 xc zd yg xd yd L p1 p5 p50 p51 p52 b2 (fun σ=>yB (yk zF (yF xc zd yg xd yd L) 0 L zcP) zfk n σ K) K).trans ?_
  simp only [ih]
  rfl
def zcI {β:Type} (xc:xk) (zd:zl) (yg:yH) (xd:zo) (yd:xl) (L:Nat) (k_x6:List (List V)→List (List V)→Int→Int→Option β):Nat→List (List V)→List (List V)→Int→Int→List (List V)→Int→Int→Option β
 | 0,_,_,_,_,_,_,_=>none
 | n+1,p5,p77,p78,p79,p91,p92,p93=>zfm xc zd yg xd yd L p5 p77 p78 p79 p91 p92 p93 (fun p5 p77 p78 p79 p91 p92 p93=>zcI xc zd yg xd yd L k_x6 n p5 p77 p78 p79 p91 p92 p93) k_x6
theorem zd9 {β:Type} (xc:xk) (zd:zl) (yg:yH) (xd:zo) (yd:xl) (L:Nat) (K:KT β):∀ (n:Nat) (p5 p77:List (List V)) (p78 p79:Int) (p91:List (List V)) (p92 p93:Int),yB (yk zF (yF xc zd yg xd yd L) 0 L zaL) zbB n (za6 p5 p77 p78 p79 p91 p92 p93) K=zcI xc zd yg xd yd L (fun p5 p77 p78 p79=>K (.exit 6) (zle p5 p77 p78 p79)) n p5 p77 p78 p79 p91 p92 p93:=by
 intro n
 induction n with
 | zero=>intros; rfl
 | succ n ih =>
  intro p5 p77 p78 p79 p91 p92 p93
  refine (zi9 xc zd yg xd yd L p5 p77 p78 p79 p91 p92 p93 (fun σ=>yB (yk zF (yF xc zd yg xd yd L) 0 L zaL) zbB n σ K) K).trans ?_
  simp only [ih]
  rfl
def zfu {β:Type} (xc:xk) (zd:zl) (yg:yH) (xd:zo) (yd:xl) (L:Nat) (p5 p77:List (List V)) (p78 p79:Int) (k_x4:List (List V)→Option β) (k_hbbbbbbbbaba:List (List V)→List (List V)→Int→Int→Option β):Option β :=
 zjm xc zd yg xd yd L p5 p77 p78 p79 (fun p5 p77 p78 p79 p91 p92 p93=>zcI xc zd yg xd yd L (fun p5 p77 p78 p79=>zet xc zd yg xd yd L p5 p77 p78 p79 k_hbbbbbbbbaba) L p5 p77 p78 p79 p91 p92 p93) k_x4
theorem znQ {β:Type} (xc:xk) (zd:zl) (yg:yH) (xd:zo) (yd:xl) (L:Nat) (p5 p77:List (List V)) (p78 p79:Int) (X:St→Option β) (K:KT β):yk zF (yF xc zd yg xd yd L) 0 L zbo (za1 p5 p77 p78 p79) (y9 zaW X K)=zfu xc zd yg xd yd L p5 p77 p78 p79 (fun p5=>K (.exit 4) (zhK p5)) (fun p5 p77 p78 p79=>X (za1 p5 p77 p78 p79)):=by
 refine (zoF xc zd yg xd yd L p5 p77 p78 p79 X K).trans ?_
 unfold zfu
 first
  | (simp only [zd9,zik]; done)
  | (simp only [zd9]; rfl)
def zfW {β:Type} (xc:xk) (zd:zl) (yg:yH) (xd:zo) (yd:xl) (L:Nat) (k_x4:List (List V)→Option β):Nat→List (List V)→List (List V)→Int→Int→Option β
 | 0,_,_,_,_=>none
 | n+1,p5,p77,p78,p79=>zfu xc zd yg xd yd L p5 p77 p78 p79 k_x4 (fun p5 p77 p78 p79=>zfW xc zd yg xd yd L k_x4 n p5 p77 p78 p79)
theorem zhX {β:Type} (xc:xk) (zd:zl) (yg:yH) (xd:zo) (yd:xl) (L:Nat) (K:KT β):∀ (n:Nat) (p5 p77:List (List V)) (p78 p79:Int),yB (yk zF (yF xc zd yg xd yd L) 0 L zbo) zaW n (za1 p5 p77 p78 p79) K=zfW xc zd yg xd yd L (fun p5=>K (.exit 4) (zhK p5)) n p5 p77 p78 p79:=by
 intro n
 induction n with
 | zero=>intros; rfl
 | succ n ih =>
  intro p5 p77 p78 p79
  refine (znQ xc zd yg xd yd L p5 p77 p78 p79 (fun σ=>yB (yk zF (yF xc zd yg xd yd L) 0 L zbo) zaW n σ K) K).trans ?_
  simp only [ih]
  rfl
def zfX {β:Type} (xc:xk) (zd:zl) (yg:yH) (xd:zo) (yd:xl) (L:Nat) (p1:Bool) (p5:List (List V)) (b2:List V) (k_fin:List (List V)→Option β):Option β :=
 zkz xc zd yg xd yd L p1 p5 b2 k_fin (fun p5 p77 p78 p79=>zfW xc zd yg xd yd L (fun p5=>ziE xc zd yg xd yd L p5 k_fin) L p5 p77 p78 p79)
theorem zoD {β:Type} (xc:xk) (zd:zl) (yg:yH) (xd:zo) (yd:xl) (L:Nat) (p1:Bool) (p5:List (List V)) (b2:List V) (k:KK β):(zw 2 (yR (yk zF (yF xc zd yg xd yd L) 0 L zgd) (y6 0 (CF.res za9) k))) (.exit 2) (zhP p1 p5 b2)=zfX xc zd yg xd yd L p1 p5 b2 (fun p0=>k (V.gs 1 p0) []):=by
 refine (zpJ xc zd yg xd yd L p1 p5 b2 k).trans ?_
 unfold zfX
 first
  | (simp only [zhX,znd]; done)
  | (simp only [zhX]; rfl)
def zhf {β:Type} (xc:xk) (zd:zl) (yg:yH) (xd:zo) (yd:xl) (L:Nat) (p1:Bool) (p5:List (List V)) (b2:List V) (k_fin:List (List V)→Option β):Option β :=
 zl2 xc zd yg xd yd L p1 p5 b2 (fun p1 p5 p50 p51 p52 b2=>zhH xc zd yg xd yd L (fun p1 p5 b2=>zfX xc zd yg xd yd L p1 p5 b2 k_fin) L p1 p5 p50 p51 p52 b2)
theorem zqn {β:Type} (xc:xk) (zd:zl) (yg:yH) (xd:zo) (yd:xl) (L:Nat) (p1:Bool) (p5:List (List V)) (b2:List V) (k:KK β):(zw 0 (yR (yk zF (yF xc zd yg xd yd L) 0 L zh3) (y6 0 (CF.res za9) k))) (.exit 0) (zhT p1 p5 b2)=zhf xc zd yg xd yd L p1 p5 b2 (fun p0=>k (V.gs 1 p0) []):=by
 refine (zrz xc zd yg xd yd L p1 p5 b2 k).trans ?_
 unfold zhf
 first
  | (simp only [zjr,zoD]; done)
  | (simp only [zjr]; rfl)
def zri {β:Type} (xc:xk) (zd:zl) (yg:yH) (xd:zo) (yd:xl) (L:Nat) (p0:List V) (p1:Bool) (k_fin:List (List V)→Option β):Option β :=
 zwx xc zd yg xd yd L p0 p1 (fun p1 p5 p25 p26 p27 b2=>zjd xc zd yg xd yd L (fun p1 p5 b2=>zhf xc zd yg xd yd L p1 p5 b2 k_fin) L p1 p5 p25 p26 p27 b2)
theorem zzc {β:Type} (xc:xk) (zd:zl) (yg:yH) (xd:zo) (yd:xl) (L:Nat) (p0:List V) (p1:Bool) (k:KK β):yt zF (yF xc zd yg xd yd L) L za9 [(V.agg p0),(V.sc (.bool p1))] [] k=zri xc zd yg xd yd L p0 p1 (fun p0=>k (V.gs 1 p0) []):=by
 refine (zzj xc zd yg xd yd L p0 p1 k).trans ?_
 unfold zri
 first
  | (simp only [zlL,zqn]; done)
  | (simp only [zlL]; rfl)
abbrev yy:=∀ (β:Type),Nat→List V→Bool→(List (List V)→Option β)→Option β
def xf (β:Type) (L:Nat) (p0:List V) (p1:Bool) (k_fin:List (List V)→Option β):Option β:=zri xc zd yg xd yd L p0 p1 k_fin
def zhl (xf:yy) (L:Nat) (β:Type) (args:List V) (bor:Bor) (k:KK β):Option β:=match args,bor with
 | [a0,a1],[]=>aG a0 fun p0=>aB a1 fun p1=>xf β L p0 p1 (fun p0=>k (V.gs 1 p0) [])
 | _,_=>none
theorem zzG (L:Nat) (β:Type) (args:List V) (bor:Bor) (k:KK β) (r:β) (h:zhl xf L β args bor k=some r):yt zF (yF xc zd yg xd yd L) L za9 args bor k=some r:=by
 unfold zhl at h
 split at h
 ·have q:=zgf h; clear h; obtain ⟨p0,rfl,h⟩:=q
  have q:=zp5 h; clear h; obtain ⟨p1,rfl,h⟩:=q
  exact (zzc xc zd yg xd yd L p0 p1 k).trans h
 ·cases h
def zbO:CC:=(.seq (.reg [oo 51 (.bin .lss (tq 50) (tq 49))])
 (.seq (.cond (tq 51)
 .skip
 (.seq (.mask (bl 962072674306 63) (bl 9187343239835811499 63))
 (.exit 4)))
 (.seq (.block 5 (.seq (.reg [oo 52 (.indexAddrS 1 (tq 48) (tq 50)),
   oo 53 (.load false 1 (tq 52) false),
   oo 8 (.move (tq 53) false)])
 (.seq (.reg [oo 54 (.move (tq 8) false),
   oo 55 (.lenS (tq 54)),
   oo 56 (.bin .gtr (tq 55) (.const (.sc (.int .i64 520))))])
 (.cond (tq 56)
 (.seq (.reg [oo 2 (.move (.const (.sc (.bool false))) false)])
 (.seq (.mask (bl 4 63) (bl 9186745105510301357 63))
 .ret))
 .skip))))
 (.reg [oo 57 (.bin .add (tq 50) (.const (.sc (.int .i64 1)))),
   oo 50 (.move (tq 57) false)]))))
def zfh:CC:=(.reg [oo 58 (.bin .add (tq 39) (.const (.sc (.int .i64 1)))),
   oo 39 (.move (tq 58) false)])
def zdp:CC:=(.seq (.reg [oo 40 (.bin .lss (tq 39) (tq 38))])
 (.seq (.cond (tq 40)
 .skip
 (.seq (.mask (bl 2 63) (bl 9186745105510301355 63))
 (.exit 2)))
 (.seq (.block 3 (.seq (.reg [oo 41 (.indexAddrS 35 (tq 37) (tq 39)),
   oo 42 (.load true 35 (tq 41) false),
   oo 6 (.alloc true (rp 32 (.sc (.int .u8 0)) (rp 2 (.sc (.int .u32 0)) (rp 1 (.gs 1 []) [])))),
   oz (.store 35 (tq 6) (tq 42))])
 (.seq (.seq (.reg [oo 43 (.fieldAddr 34 (tq 6)),
   oo 44 (.load false 1 (tq 43) false),
   oo 45 (.lenS (tq 44)),
   oo 46 (.bin .gtr (tq 45) (.const (.sc (.int .i64 32))))])
 (.cond (tq 46)
 (.seq (.reg [oo 2 (.move (.const (.sc (.bool false))) false)])
 (.seq (.mask (bl 4 63) (bl 9186745105510301357 63))
 .ret))
 .skip))
 (.seq (.reg [oo 47 (.fieldAddr 34 (tq 6)),
   oo 48 (.load false 1 (tq 47) false),
   oo 49 (.lenS (tq 48)),
   oo 50 (.move (.const (.sc (.int .i64 0))) false)])
 (.block 4 (.loop (bl 1971286909648898 63) (bl 9187343239835811499 63)
 zbO))))))
 zfh)))
def zfA:CC:=(.seq (.reg [oo 23 (.bin .lss (tq 22) (tq 21))])
 (.seq (.cond (tq 23)
 .skip
 (.seq (.mask (bl 2 63) (bl 9223372032559808427 63))
 (.exit 0)))
 (.seq (.block 1 (.seq (.reg [oo 24 (.indexAddrS 2 (tq 20) (tq 22)),
   oo 25 (.load true 2 (tq 24) false),
   oo 4 (.alloc true [(.sc (.int .i64 0)),(.gs 1 [])]),
   oz (.store 2 (tq 4) (tq 25))])
 (.seq (.reg [oo 26 (.fieldAddr 0 (tq 4)),
   oo 27 (.load false 1 (tq 26) false),
   oo 28 (.bin .lss (tq 27) (.const (.sc (.int .i64 0)))),
   oo 29 (.move (tq 28) false),
   ⟨(some 30),false,(some (29,false)),.fieldAddr 1 (tq 4)⟩,
   ⟨(some 31),false,(some (29,false)),.load false 1 (tq 30) false⟩,
   ⟨(some 32),false,(some (29,false)),.lenS (tq 31)⟩,
   ⟨(some 33),false,(some (29,false)),.bin .gtr (tq 32) (.const (.sc (.int .i64 520)))⟩,
   oo 34 (.pick (tq 29) (.const (.sc (.bool true))) (tq 33))])
 (.cond (tq 34)
 (.seq (.reg [oo 2 (.move (.const (.sc (.bool false))) false)])
 (.seq (.mask (bl 4 63) (bl 9223372032559808429 63))
 .ret))
 .skip))))
 (.reg [oo 35 (.bin .add (tq 22) (.const (.sc (.int .i64 1)))),
   oo 22 (.move (tq 35) false)]))))
def zjZ:CC:=(.seq (.reg [oo 59 (.load true 4 (tq 1) false),
   oo 60 (.call 147 [((tq 59),1),((.const (.sc (.bool true))),0)] []),
   oo 61 (.lenS (tq 60)),
   oo 62 (.bin .leq (tq 61) (.const (.sc (.int .i64 20000)))),
   oo 2 (.move (tq 62) false)])
 .ret)
def ziB:CC:=(.seq (.seq (.reg [oo 36 (.fieldAddr 1 (tq 1)),
   oo 37 (.load false 1 (tq 36) false),
   oo 38 (.lenS (tq 37)),
   oo 39 (.move (.const (.sc (.int .i64 0))) false)])
 (.block 2 (.loop (bl 962072674306 63) (bl 9186745105510301355 63)
 zdp)))
 zjZ)
def zcw:CF:=⟨63,[.tmp 2],
 (.seq (.reg [oo 1 (.box true (tq 0)),
   oo 2 (.move (.const (.sc (.bool false))) false)])
 (.seq (.seq (.reg [oo 9 (.fieldAddr 1 (tq 1)),
   oo 10 (.load false 1 (tq 9) false),
   oo 11 (.lenS (tq 10)),
   oo 12 (.bin .gtr (tq 11) (.const (.sc (.int .i64 64)))),
   oo 13 (.move (tq 12) false),
   ⟨(some 14),false,(some (13,false)),.fieldAddr 2 (tq 1)⟩,
   ⟨(some 15),false,(some (13,false)),.load false 1 (tq 14) false⟩,
   ⟨(some 16),false,(some (13,false)),.lenS (tq 15)⟩,
   ⟨(some 17),false,(some (13,false)),.bin .gtr (tq 16) (.const (.sc (.int .i64 64)))⟩,
   oo 18 (.pick (tq 13) (.const (.sc (.bool true))) (tq 17))])
 (.cond (tq 18)
 (.seq (.reg [oo 2 (.move (.const (.sc (.bool false))) false)])
 .ret)
 .skip))
 (.seq (.seq (.reg [oo 19 (.fieldAddr 2 (tq 1)),
   oo 20 (.load false 1 (tq 19) false),
   oo 21 (.lenS (tq 20)),
   oo 22 (.move (.const (.sc (.int .i64 0))) false)])
 (.block 0 (.loop (bl 7340034 63) (bl 9223372032559808427 63)
 zfA)))
 ziB)))⟩
def zvd:Hint:=⟨[(0,0),(5,2),(11,2)],[],[none,none,none,some ((bl 7340034 63),(bl 9223372032559808427 63)),none,some ((bl 2 63),(bl 9223372032559808427 63)),none,none,some ((bl 4 63),(bl 9223372032559808429 63)),none,some ((bl 962072674306 63),(bl 9186745105510301355 63)),none,some ((bl 2 63),(bl 9186745105510301355 63)),none,none,some ((bl 4 63),(bl 9186745105510301357 63)),none,some ((bl 1971286909648898 63),(bl 9187343239835811499 63)),none,some ((bl 962072674306 63),(bl 9187343239835811499 63)),none,none,some ((bl 4 63),(bl 9186745105510301357 63)),none],[],[],false,false,[]⟩
def xT:Nat→Sh:=yP [(10,(.sl 35)),(15,(.sl 2)),(20,(.sl 2)),(27,(.int .i64)),(31,(.sl 1)),(37,(.sl 35)),(44,(.sl 1)),(48,(.sl 1)),(53,(.sl 1))]
def zU (xf:yy) (L:Nat):CBC:=(xv 147 (zhl xf L) noC)
def ziZ:St→St:=y4 0 (bl 7340034 63) (bl 9223372032559808427 63)
def zcn:St→St:=y4 0 (bl 962072674306 63) (bl 9186745105510301355 63)
def zcT:St→St:=y4 0 (bl 1971286909648898 63) (bl 9187343239835811499 63)
def zgb (p20:List (List V)) (p21 p22:Int) (b1:List V):St:=⟨(jn 1 ((V.ptr 1 0)::(jn 18 ((V.sl 2 p20)::((V.sc (.int .i64 p21))::((V.sc (.int .i64 p22))::(jn 40 []))))))),(gn 1 ((.live true b1)::(gn 61 [])))⟩
def zbe (p2:Bool):St:=⟨(jn 2 ((V.sc (.bool p2))::(jn 60 []))),(gn 63 [])⟩
def zj9 (b1:List V):St:=⟨(jn 1 ((V.ptr 1 0)::(jn 61 []))),(gn 1 ((.live true b1)::(gn 61 [])))⟩
def zcy (p37:List (List V)) (p38 p39:Int) (b1:List V):St:=⟨(jn 1 ((V.ptr 1 0)::(jn 35 ((V.sl 35 p37)::((V.sc (.int .i64 p38))::((V.sc (.int .i64 p39))::(jn 23 []))))))),(gn 1 ((.live true b1)::(gn 61 [])))⟩
def zcj (p37:List (List V)) (p38 p39:Int) (p48:List (List V)) (p49 p50:Int) (b1:List V):St:=⟨(jn 1 ((V.ptr 1 0)::(jn 35 ((V.sl 35 p37)::((V.sc (.int .i64 p38))::((V.sc (.int .i64 p39))::(jn 8 ((V.sl 1 p48)::((V.sc (.int .i64 p49))::((V.sc (.int .i64 p50))::(jn 12 []))))))))))),(gn 1 ((.live true b1)::(gn 61 [])))⟩
def zkf (b1:List V):St:=⟨(jn 1 ((V.ptr 1 0)::(jn 61 []))),(gn 1 ((.live true b1)::(gn 61 [])))⟩
def zn8 (p37:List (List V)) (p38 p39:Int) (b1:List V):St:=⟨(jn 1 ((V.ptr 1 0)::(jn 35 ((V.sl 35 p37)::((V.sc (.int .i64 p38))::((V.sc (.int .i64 p39))::(jn 23 []))))))),(gn 1 ((.live true b1)::(gn 61 [])))⟩
abbrev zh2 (β:Type):Type:=List (List V)→Int→Int→List (List V)→Int→Int→List V→Option β
def zAq {β:Type} (xf:yy) (L:Nat) (p0:List V) (k_fin:Bool→Option β) (k_hbbaba:List (List V)→Int→Int→List V→Option β):Option β :=
 cLd 35 p0 1 fun v0 =>
 ifb (decide (((List.length v0:Nat):Int) > (64:Int))) (
 k_fin false) (
 cLd 2 p0 2 fun v1 =>
 ifb (decide (((List.length v1:Nat):Int) > (64:Int))) (
 k_fin false) (
 cLd 2 p0 2 fun v2 =>
 k_hbbaba v2 ((List.length v2:Nat):Int) (0:Int) p0))
theorem zCy {β:Type} (xf:yy) (L:Nat) (p0:List V) (k:KK β):yt xT (zU xf L) L zcw [(V.agg p0)] [] k=zAq xf L p0 (fun p0=>k (V.sc (.bool p0)) []) (fun p20 p21 p22 b1=>yB (yk xT (zU xf L) 0 L zfA) ziZ L (zgb p20 p21 p22 b1) (zw 0 (yR (yk xT (zU xf L) 0 L ziB) (y6 0 (CF.res zcw) k)))):=by kernel_rfl
def zr3 {β:Type} (xf:yy) (L:Nat) (p20:List (List V)) (p21 p22:Int) (b1:List V) (k_ret:Bool→Option β) (k_hbbaba:List (List V)→Int→Int→List V→Option β) (k_x0:List V→Option β):Option β :=
 ifb (decide (p22 < p21)) (
 idx p20 p22 fun c3 =>
 chk ((List.length (List.take 2 c3))=2∧0+2≤2) (
 lt (yl [(V.sc (.int .i64 (0:Int))),(V.gs 1 ([]:List (List V)))] 0 (List.take 2 c3)) fun r4 =>
 cI .i64 r4 0 fun v5 =>
 ifb (decide (v5 < (0:Int))) (
 k_ret false) (
 cLd 1 r4 1 fun v6 =>
 ifb (decide (((List.length v6:Nat):Int) > (520:Int))) (
 k_ret false) (
 lt (IntKind.wrap .i64 ((p22:Int)+(1:Int))) fun x7 =>
 k_hbbaba p20 p21 x7 b1)))) (
 k_x0 b1)
theorem zwk {β:Type} (xf:yy) (L:Nat) (p20:List (List V)) (p21 p22:Int) (b1:List V) (X:St→Option β) (K:KT β):yk xT (zU xf L) 0 L zfA (zgb p20 p21 p22 b1) (y9 ziZ X K)=zr3 xf L p20 p21 p22 b1 (fun p2=>K .ret (zbe p2)) (fun p20 p21 p22 b1=>X (zgb p20 p21 p22 b1)) (fun b1=>K (.exit 0) (zj9 b1)):=by kernel_rfl
def zog {β:Type} (xf:yy) (L:Nat) (p2:Bool) (k_fin:Bool→Option β):Option β :=
 k_fin p2
theorem zs7 {β:Type} (xf:yy) (L:Nat) (p2:Bool) (k:KK β):(zw 0 (yR (yk xT (zU xf L) 0 L ziB) (y6 0 (CF.res zcw) k))) .ret (zbe p2)=zog xf L p2 (fun p0=>k (V.sc (.bool p0)) []):=by kernel_rfl
def zo6 {β:Type} (xf:yy) (L:Nat) (b1:List V) (k_hbbbaba:List (List V)→Int→Int→List V→Option β):Option β :=
 cLd 35 b1 1 fun v8 =>
 k_hbbbaba v8 ((List.length v8:Nat):Int) (0:Int) b1
theorem zuj {β:Type} (xf:yy) (L:Nat) (b1:List V) (k:KK β):(zw 0 (yR (yk xT (zU xf L) 0 L ziB) (y6 0 (CF.res zcw) k))) (.exit 0) (zj9 b1)=zo6 xf L b1 (fun p37 p38 p39 b1=>yB (yk xT (zU xf L) 0 L zdp) zcn L (zcy p37 p38 p39 b1) (zw 2 (yR (yk xT (zU xf L) 0 L zjZ) (y6 0 (CF.res zcw) k)))):=by kernel_rfl
def zqq {β:Type} (xf:yy) (L:Nat) (p37:List (List V)) (p38 p39:Int) (b1:List V) (k_ret:Bool→Option β) (k_hbbbabaabbaabbba:zh2 β) (k_x2:List V→Option β):Option β :=
 ifb (decide (p39 < p38)) (
 idx p37 p39 fun c9 =>
 chk ((List.length (List.take 35 c9))=35∧0+35≤35) (
 lt (yl (List.replicate 32 (V.sc (.int .u8 (0:Int)))++[(V.sc (.int .u32 (0:Int))),(V.sc (.int .u32 (0:Int))),(V.gs 1 ([]:List (List V)))]) 0 (List.take 35 c9)) fun r10 =>
 cLd 1 r10 34 fun v11 =>
 ifb (decide (((List.length v11:Nat):Int) > (32:Int))) (
 k_ret false) (
 cLd 1 r10 34 fun v12 =>
 k_hbbbabaabbaabbba p37 p38 p39 v12 ((List.length v12:Nat):Int) (0:Int) b1))) (
 k_x2 b1)
theorem zuJ {β:Type} (xf:yy) (L:Nat) (p37:List (List V)) (p38 p39:Int) (b1:List V) (X:St→Option β) (K:KT β):yk xT (zU xf L) 0 L zdp (zcy p37 p38 p39 b1) (y9 zcn X K)=zqq xf L p37 p38 p39 b1 (fun p2=>K .ret (zbe p2)) (fun p37 p38 p39 p48 p49 p50 b1=>yB (yk xT (zU xf L) 0 L zbO) zcT L (zcj p37 p38 p39 p48 p49 p50 b1) (zw 4 (zw 3 (yR (yk xT (zU xf L) 0 L zfh) (y9 zcn X K))))) (fun b1=>K (.exit 2) (zkf b1)):=by kernel_rfl
def zng {β:Type} (xf:yy) (L:Nat) (p2:Bool) (k_fin:Bool→Option β):Option β :=
 k_fin p2
theorem zsm {β:Type} (xf:yy) (L:Nat) (p2:Bool) (k:KK β):(zw 2 (yR (yk xT (zU xf L) 0 L zjZ) (y6 0 (CF.res zcw) k))) .ret (zbe p2)=zng xf L p2 (fun p0=>k (V.sc (.bool p0)) []):=by kernel_rfl
def zow {β:Type} (xf:yy) (L:Nat) (b1:List V) (k_fin:Bool→Option β):Option β :=
 chk (0+4≤(List.length b1)) (
 xf β L (List.map V.dem (List.take 4 b1)) true (fun v13 =>
 k_fin (decide (((List.length v13:Nat):Int)≤(20000:Int)))))
theorem ztn {β:Type} (xf:yy) (L:Nat) (b1:List V) (k:KK β):(zw 2 (yR (yk xT (zU xf L) 0 L zjZ) (y6 0 (CF.res zcw) k))) (.exit 2) (zkf b1)=zow xf L b1 (fun p0=>k (V.sc (.bool p0)) []):=by kernel_rfl
def ziy {β:Type} (xf:yy) (L:Nat) (p37:List (List V)) (p38 p39:Int) (p48:List (List V)) (p49 p50:Int) (b1:List V) (k_ret:Bool→Option β) (k_hbbbabaabbaabbba:zh2 β) (k_x4:List (List V)→Int→Int→List V→Option β):Option β :=
 ifb (decide (p50 < p49)) (
 idx p48 p50 fun c14 =>
 cL 1 c14 0 fun v15 =>
 ifb (decide (((List.length v15:Nat):Int) > (520:Int))) (
 k_ret false) (
 lt (IntKind.wrap .i64 ((p50:Int)+(1:Int))) fun x16 =>
 k_hbbbabaabbaabbba p37 p38 p39 p48 p49 x16 b1)) (
 k_x4 p37 p38 p39 b1)
theorem znA {β:Type} (xf:yy) (L:Nat) (p37:List (List V)) (p38 p39:Int) (p48:List (List V)) (p49 p50:Int) (b1:List V) (X:St→Option β) (K:KT β):yk xT (zU xf L) 0 L zbO (zcj p37 p38 p39 p48 p49 p50 b1) (y9 zcT X K)=ziy xf L p37 p38 p39 p48 p49 p50 b1 (fun p2=>K .ret (zbe p2)) (fun p37 p38 p39 p48 p49 p50 b1=>X (zcj p37 p38 p39 p48 p49 p50 b1)) (fun p37 p38 p39 b1=>K (.exit 4) (zn8 p37 p38 p39 b1)):=by kernel_rfl
def zgD {β:Type} (xf:yy) (L:Nat) (p2:Bool) (k_ret:Bool→Option β):Option β :=
 k_ret p2
theorem zlp {β:Type} (xf:yy) (L:Nat) (p2:Bool) (X:St→Option β) (K:KT β):(zw 4 (zw 3 (yR (yk xT (zU xf L) 0 L zfh) (y9 zcn X K)))) .ret (zbe p2)=zgD xf L p2 (fun p2=>K .ret (zbe p2)):=by kernel_rfl
def zhj {β:Type} (xf:yy) (L:Nat) (p37:List (List V)) (p38 p39:Int) (b1:List V) (k_hbbbaba:List (List V)→Int→Int→List V→Option β):Option β :=
 lt (IntKind.wrap .i64 ((p39:Int)+(1:Int))) fun x17 =>
 k_hbbbaba p37 p38 x17 b1
theorem zlY {β:Type} (xf:yy) (L:Nat) (p37:List (List V)) (p38 p39:Int) (b1:List V) (X:St→Option β) (K:KT β):(zw 4 (zw 3 (yR (yk xT (zU xf L) 0 L zfh) (y9 zcn X K)))) (.exit 4) (zn8 p37 p38 p39 b1)=zhj xf L p37 p38 p39 b1 (fun p37 p38 p39 b1=>X (zcy p37 p38 p39 b1)):=by kernel_rfl
def zmn {β:Type} (xf:yy) (L:Nat) (k_ret:Bool→Option β) (k_x0:List V→Option β):Nat→List (List V)→Int→Int→List V→Option β
 | 0,_,_,_,_=>none
 | n+1,p20,p21,p22,b1=>zr3 xf L p20 p21 p22 b1 k_ret (fun p20 p21 p22 b1=>zmn xf L k_ret k_x0 n p20 p21 p22 b1) k_x0
theorem zof {β:Type} (xf:yy) (L:Nat) (K:KT β):∀ (n:Nat) (p20:List (List V)) (p21 p22:Int) (b1:List V),yB (yk xT (zU xf L) 0 L zfA) ziZ n (zgb p20 p21 p22 b1) K=zmn xf L (fun p2=>K .ret (zbe p2)) (fun b1=>K (.exit 0) (zj9 b1)) n p20 p21 p22 b1:=by
 intro n
 induction n with
 | zero=>intros; rfl
 | succ n ih =>
  intro p20 p21 p22 b1
  refine (zwk xf L p20 p21 p22 b1 (fun σ=>yB (yk xT (zU xf L) 0 L zfA) ziZ n σ K) K).trans ?_
  simp only [ih]
  rfl
def zeF {β:Type} (xf:yy) (L:Nat) (k_ret:Bool→Option β) (k_x4:List (List V)→Int→Int→List V→Option β):Nat→List (List V)→Int→Int→List (List V)→Int→Int→List V→Option β
 | 0,_,_,_,_,_,_,_=>none
 | n+1,p37,p38,p39,p48,p49,p50,b1=>ziy xf L p37 p38 p39 p48 p49 p50 b1 k_ret (fun p37 p38 p39 p48 p49 p50 b1=>zeF xf L k_ret k_x4 n p37 p38 p39 p48 p49 p50 b1) k_x4
theorem zgG {β:Type} (xf:yy) (L:Nat) (K:KT β):∀ (n:Nat) (p37:List (List V)) (p38 p39:Int) (p48:List (List V)) (p49 p50:Int) (b1:List V),yB (yk xT (zU xf L) 0 L zbO) zcT n (zcj p37 p38 p39 p48 p49 p50 b1) K=zeF xf L (fun p2=>K .ret (zbe p2)) (fun p37 p38 p39 b1=>K (.exit 4) (zn8 p37 p38 p39 b1)) n p37 p38 p39 p48 p49 p50 b1:=by
 intro n
 induction n with
 | zero=>intros; rfl
 | succ n ih =>
  intro p37 p38 p39 p48 p49 p50 b1
  refine (znA xf L p37 p38 p39 p48 p49 p50 b1 (fun σ=>yB (yk xT (zU xf L) 0 L zbO) zcT n σ K) K).trans ?_
  simp only [ih]
  rfl
def zkn {β:Type} (xf:yy) (L:Nat) (p37:List (List V)) (p38 p39:Int) (b1:List V) (k_ret:Bool→Option β) (k_x2:List V→Option β) (k_hbbbaba:List (List V)→Int→Int→List V→Option β):Option β :=
 zqq xf L p37 p38 p39 b1 k_ret (fun p37 p38 p39 p48 p49 p50 b1=>zeF xf L (fun p2=>zgD xf L p2 k_ret) (fun p37 p38 p39 b1=>zhj xf L p37 p38 p39 b1 k_hbbbaba) L p37 p38 p39 p48 p49 p50 b1) k_x2
theorem zuq {β:Type} (xf:yy) (L:Nat) (p37:List (List V)) (p38 p39:Int) (b1:List V) (X:St→Option β) (K:KT β):yk xT (zU xf L) 0 L zdp (zcy p37 p38 p39 b1) (y9 zcn X K)=zkn xf L p37 p38 p39 b1 (fun p2=>K .ret (zbe p2)) (fun b1=>K (.exit 2) (zkf b1)) (fun p37 p38 p39 b1=>X (zcy p37 p38 p39 b1)):=by
 refine (zuJ xf L p37 p38 p39 b1 X K).trans ?_
 unfold zkn
 first
  | (simp only [zgG,zlp,zlY]; done)
  | (simp only [zgG]; rfl)
def zlb {β:Type} (xf:yy) (L:Nat) (k_ret:Bool→Option β) (k_x2:List V→Option β):Nat→List (List V)→Int→Int→List V→Option β
 | 0,_,_,_,_=>none
 | n+1,p37,p38,p39,b1=>zkn xf L p37 p38 p39 b1 k_ret k_x2 (fun p37 p38 p39 b1=>zlb xf L k_ret k_x2 n p37 p38 p39 b1)
theorem znp {β:Type} (xf:yy) (L:Nat) (K:KT β):∀ (n:Nat) (p37:List (List V)) (p38 p39:Int) (b1:List V),yB (yk xT (zU xf L) 0 L zdp) zcn n (zcy p37 p38 p39 b1) K=zlb xf L (fun p2=>K .ret (zbe p2)) (fun b1=>K (.exit 2) (zkf b1)) n p37 p38 p39 b1:=by
 intro n
 induction n with
 | zero=>intros; rfl
 | succ n ih =>
  intro p37 p38 p39 b1
  refine (zuq xf L p37 p38 p39 b1 (fun σ=>yB (yk xT (zU xf L) 0 L zdp) zcn n σ K) K).trans ?_
  simp only [ih]
  rfl
def zjh {β:Type} (xf:yy) (L:Nat) (b1:List V) (k_fin:Bool→Option β):Option β :=
 zo6 xf L b1 (fun p37 p38 p39 b1=>zlb xf L (fun p2=>zng xf L p2 k_fin) (fun b1=>zow xf L b1 k_fin) L p37 p38 p39 b1)
theorem zs9 {β:Type} (xf:yy) (L:Nat) (b1:List V) (k:KK β):(zw 0 (yR (yk xT (zU xf L) 0 L ziB) (y6 0 (CF.res zcw) k))) (.exit 0) (zj9 b1)=zjh xf L b1 (fun p0=>k (V.sc (.bool p0)) []):=by
 refine (zuj xf L b1 k).trans ?_
 unfold zjh
 first
  | (simp only [znp,zsm,ztn]; done)
  | (simp only [znp]; rfl)
def zuV {β:Type} (xf:yy) (L:Nat) (p0:List V) (k_fin:Bool→Option β):Option β :=
 zAq xf L p0 k_fin (fun p20 p21 p22 b1=>zmn xf L (fun p2=>zog xf L p2 k_fin) (fun b1=>zjh xf L b1 k_fin) L p20 p21 p22 b1)
theorem zB3 {β:Type} (xf:yy) (L:Nat) (p0:List V) (k:KK β):yt xT (zU xf L) L zcw [(V.agg p0)] [] k=zuV xf L p0 (fun p0=>k (V.sc (.bool p0)) []):=by
 refine (zCy xf L p0 k).trans ?_
 unfold zuV
 first
  | (simp only [zof,zs7,zs9]; done)
  | (simp only [zof]; rfl)
abbrev zaM:=∀ (β:Type),Nat→List V→(Bool→Option β)→Option β
def zq (β:Type) (L:Nat) (p0:List V) (k_fin:Bool→Option β):Option β:=zuV xf L p0 k_fin
def zky (zq:zaM) (L:Nat) (β:Type) (args:List V) (bor:Bor) (k:KK β):Option β:=match args,bor with
 | [a0],[]=>aG a0 fun p0=>zq β L p0 (fun p0=>k (V.sc (.bool p0)) [])
 | _,_=>none
theorem zBI (L:Nat) (β:Type) (args:List V) (bor:Bor) (k:KK β) (r:β) (h:zky zq L β args bor k=some r):yt xT (zU xf L) L zcw args bor k=some r:=by
 unfold zky at h
 split at h
 ·have q:=zgf h; clear h; obtain ⟨p0,rfl,h⟩:=q
  exact (zB3 xf L p0 k).trans h
 ·cases h
def zkS:CF:=⟨12,[.tmp 4,.tmp 5],
 (.seq (.reg [oo 2 (.box true (tq 0)),
   oo 4 (.move (.const (.gs 1 [])) true),
   oo 5 (.move (.const (.sc (.int .i64 0))) false)])
 (.seq (.seq (.reg [oo 6 (.load true 4 (tq 2) false),
   oo 7 (.call 146 [((tq 6),1)] []),
   oo 8 (.un .not (tq 7))])
 (.cond (tq 8)
 (.seq (.reg [oo 4 (.move (.const (.gs 1 [])) true),
   oo 5 (.move (.const (.sc (.int .i64 4))) false)])
 .ret)
 .skip))
 (.seq (.reg [oo 9 (.load true 4 (tq 2) false),
   oo 10 (.move (tq 1) false),
   oo 11 (.call 147 [((tq 9),1),((tq 10),0)] []),
   oo 4 (.move (tq 11) true),
   oo 5 (.move (.const (.sc (.int .i64 0))) false)])
 .ret)))⟩
def zr5:Hint:=⟨[(0,0),(0,1),(2,0),(3,3)],[],[none,none,none],[],[],false,false,[]⟩
def zqe:Nat→Sh:=yP []
def zp6 (zq:zaM) (xf:yy) (L:Nat):CBC:=(xv 147 (zhl xf L) (xv 146 (zky zq L) noC))
def zwN {β:Type} (zq:zaM) (xf:yy) (L:Nat) (p0:List V) (p1:Bool) (k_fin:List (List V)→Int→Option β):Option β :=
 chk (0+4≤(List.length p0)) (
 zq β L (List.map V.dem (List.take 4 p0)) (fun v0 =>
 ifb (!v0) (
 k_fin ([]:List (List V)) (4:Int)) (
 chk (0+4≤(List.length p0)) (
 xf β L (List.map V.dem (List.take 4 p0)) p1 (fun v1 =>
 k_fin v1 (0:Int))))))
theorem zzY {β:Type} (zq:zaM) (xf:yy) (L:Nat) (p0:List V) (p1:Bool) (k:KK β):yt zqe (zp6 zq xf L) L zkS [(V.agg p0),(V.sc (.bool p1))] [] k=zwN zq xf L p0 p1 (fun zKg zKh=>k (V.tup [(V.gs 1 zKg),(V.sc (.int .i64 zKh))]) []):=by kernel_rfl
abbrev zhp:=∀ (β:Type),Nat→List V→Bool→(List (List V)→Int→Option β)→Option β
def xX (β:Type) (L:Nat) (p0:List V) (p1:Bool) (k_fin:List (List V)→Int→Option β):Option β:=zwN zq xf L p0 p1 k_fin
def zjz (xX:zhp) (L:Nat) (β:Type) (args:List V) (bor:Bor) (k:KK β):Option β:=match args,bor with
 | [a0,a1],[]=>aG a0 fun p0=>aB a1 fun p1=>xX β L p0 p1 (fun zKg zKh=>k (V.tup [(V.gs 1 zKg),(V.sc (.int .i64 zKh))]) [])
 | _,_=>none
theorem zzK (L:Nat) (β:Type) (args:List V) (bor:Bor) (k:KK β) (r:β) (h:zjz xX L β args bor k=some r):yt zqe (zp6 zq xf L) L zkS args bor k=some r:=by
 unfold zjz at h
 split at h
 ·have q:=zgf h; clear h; obtain ⟨p0,rfl,h⟩:=q
  have q:=zp5 h; clear h; obtain ⟨p1,rfl,h⟩:=q
  exact (zzY zq xf L p0 p1 k).trans h
 ·cases h
def zlN:CF:=⟨14,[.tmp 2],
 (.seq (.reg [oo 1 (.box true (tq 0)),
   oo 2 (.move (.const (.sc (.int .i64 0))) false)])
 (.seq (.seq (.reg [oo 3 (.load true 4 (tq 1) false),
   oo 4 (.call 146 [((tq 3),1)] []),
   oo 5 (.un .not (tq 4))])
 (.cond (tq 5)
 (.seq (.reg [oo 2 (.move (.const (.sc (.int .i64 0))) false)])
 .ret)
 .skip))
 (.seq (.dreg [] [(oo 6 (.load true 4 (tq 1) false),ql 1 [] []),
   (oo 7 (.call 147 [((tq 6),1),((.const (.sc (.bool false))),0)] []),qc [1] []),
   (oo 8 (.lenS (tq 7)),q0),
   (oo 9 (.bin .mul (.const (.sc (.int .i64 3))) (tq 8)),q0),
   (oo 10 (.load true 4 (tq 1) false),ql 1 [] []),
   (oo 11 (.call 147 [((tq 10),1),((.const (.sc (.bool true))),0)] []),q0),
   (oo 12 (.lenS (tq 11)),q0),
   (oo 13 (.bin .add (tq 9) (tq 12)),q0),
   (oo 2 (.move (tq 13) false),q0)])
 .ret)))⟩
def zsB:Hint:=⟨[(0,0)],[],[none,none,none],[],[],false,false,[]⟩
def zpA:Nat→Sh:=yP []
def zpZ (zq:zaM) (xf:yy) (L:Nat):CBC:=(xv 147 (zhl xf L) (xv 146 (zky zq L) noC))
def zwF {β:Type} (zq:zaM) (xf:yy) (L:Nat) (p0:List V) (k_fin:Int→Option β):Option β :=
 chk (0+4≤(List.length p0)) (
 zq β L (List.map V.dem (List.take 4 p0)) (fun v0 =>
 ifb (!v0) (
 k_fin (0:Int)) (
 chk (0+4≤(List.length p0)) (
 xf β L (List.map V.dem (List.take 4 p0)) false (fun v1 =>
 lt (IntKind.wrap .i64 (((3:Int):Int) * ((List.length v1:Nat):Int))) fun x2 =>
 chk (0+4≤(List.length p0)) (
 xf β L (List.map V.dem (List.take 4 p0)) true (fun v3 =>
 lt (IntKind.wrap .i64 ((x2:Int)+((List.length v3:Nat):Int))) fun x4 =>
 k_fin x4)))))))
theorem zy6 {β:Type} (zq:zaM) (xf:yy) (L:Nat) (p0:List V) (k:KK β):yt zpA (zpZ zq xf L) L zlN [(V.agg p0)] [] k=zwF zq xf L p0 (fun p0=>k (V.sc (.int .i64 p0)) []):=by kernel_rfl
abbrev zmJ:=∀ (β:Type),Nat→List V→(Int→Option β)→Option β
def zaV (β:Type) (L:Nat) (p0:List V) (k_fin:Int→Option β):Option β:=zwF zq xf L p0 k_fin
def zmN (zaV:zmJ) (L:Nat) (β:Type) (args:List V) (bor:Bor) (k:KK β):Option β:=match args,bor with
 | [a0],[]=>aG a0 fun p0=>zaV β L p0 (fun p0=>k (V.sc (.int .i64 p0)) [])
 | _,_=>none
theorem zyW (L:Nat) (β:Type) (args:List V) (bor:Bor) (k:KK β) (r:β) (h:zmN zaV L β args bor k=some r):yt zpA (zpZ zq xf L) L zlN args bor k=some r:=by
 unfold zmN at h
 split at h
 ·have q:=zgf h; clear h; obtain ⟨p0,rfl,h⟩:=q
  exact (zy6 zq xf L p0 k).trans h
 ·cases h
def zeM:CC:=(.seq (.reg [oo 9 (.bin .lss (tq 8) (tq 7))])
 (.seq (.cond (tq 9)
 .skip
 (.seq (.mask (bl 0 22) (bl 4194259 22))
 (.exit 0)))
 (.seq (.block 1 (.seq (.reg [oo 10 (.indexAddrS 2 (tq 6) (tq 8)),
   oo 11 (.load true 2 (tq 10) false),
   oo 5 (.alloc true [(.sc (.int .i64 0)),(.gs 1 [])]),
   oz (.store 2 (tq 5) (tq 11))])
 (.seq (.seq (.reg [oo 12 (.fieldAddr 0 (tq 5)),
   oo 13 (.load false 1 (tq 12) false),
   oo 14 (.move (tq 3) false),
   oo 15 (.bin .sub (.const (.sc (.int .i64 2100000000000000))) (tq 14)),
   oo 16 (.bin .gtr (tq 13) (tq 15))])
 (.cond (tq 16)
 (.seq (.reg [oo 2 (.move (.const (.sc (.bool false))) false)])
 (.seq (.mask (bl 4 22) (bl 4194263 22))
 .ret))
 .skip))
 (.reg [oo 17 (.move (tq 3) false),
   oo 18 (.fieldAddr 0 (tq 5)),
   oo 19 (.load false 1 (tq 18) false),
   oo 20 (.bin .add (tq 17) (tq 19)),
   oo 3 (.move (tq 20) false)]))))
 (.reg [oo 21 (.bin .add (tq 8) (.const (.sc (.int .i64 1)))),
   oo 8 (.move (tq 21) false)]))))
def zjO:CC:=(.seq (.reg [oo 2 (.move (.const (.sc (.bool true))) false)])
 .ret)
def zev:CF:=⟨22,[.tmp 2],
 (.seq (.reg [oo 2 (.move (.const (.sc (.bool false))) false)])
 (.seq (.reg [oo 3 (.move (.const (.sc (.int .i64 0))) false)])
 (.seq (.seq (.reg [oo 6 (.move (tq 0) false),
   oo 7 (.lenS (tq 6)),
   oo 8 (.move (.const (.sc (.int .i64 0))) false)])
 (.block 0 (.loop (bl 456 22) (bl 4194267 22)
 zeM)))
 zjO)))⟩
def zt8:Hint:=⟨[(4,2)],[],[none,some ((bl 456 22),(bl 4194267 22)),none,some ((bl 0 22),(bl 4194259 22)),none,none,some ((bl 4 22),(bl 4194263 22)),none],[],[],false,false,[]⟩
def zcv:Nat→Sh:=yP [(13,(.int .i64)),(19,(.int .i64))]
def zcs (L:Nat):CBC:=noC
def zhV:St→St:=y4 0 (bl 456 22) (bl 4194267 22)
def zfF (p3:Int) (p6:List (List V)) (p7 p8:Int):St:=⟨(jn 3 ((V.sc (.int .i64 p3))::(jn 2 ((V.sl 2 p6)::((V.sc (.int .i64 p7))::((V.sc (.int .i64 p8))::(jn 13 []))))))),(gn 22 [])⟩
def zk7 (p2:Bool):St:=⟨(jn 2 ((V.sc (.bool p2))::(jn 19 []))),(gn 22 [])⟩
def zmy:St:=⟨(jn 22 []),(gn 22 [])⟩
def zxF {β:Type} (L:Nat) (p0:List (List V)) (k_hbbaba:Int→List (List V)→Int→Int→Option β):Option β :=
 k_hbbaba (0:Int) p0 ((List.length p0:Nat):Int) (0:Int)
theorem zBk {β:Type} (L:Nat) (p0:List (List V)) (k:KK β):yt zcv (zcs L) L zev [(V.sl 2 p0)] [] k=zxF L p0 (fun p3 p6 p7 p8=>yB (yk zcv (zcs L) 0 L zeM) zhV L (zfF p3 p6 p7 p8) (zw 0 (yR (yk zcv (zcs L) 0 L zjO) (y6 0 (CF.res zev) k)))):=by kernel_rfl
def zqR {β:Type} (L:Nat) (p3:Int) (p6:List (List V)) (p7 p8:Int) (k_ret:Bool→Option β) (k_hbbaba:Int→List (List V)→Int→Int→Option β) (k_x0:Option β):Option β :=
 ifb (decide (p8 < p7)) (
 idx p6 p8 fun c0 =>
 chk ((List.length (List.take 2 c0))=2∧0+2≤2) (
 lt (yl [(V.sc (.int .i64 (0:Int))),(V.gs 1 ([]:List (List V)))] 0 (List.take 2 c0)) fun r1 =>
 cI .i64 r1 0 fun v2 =>
 lt (IntKind.wrap .i64 (((2100000000000000:Int):Int) - p3)) fun x3 =>
 ifb (decide (v2 > x3)) (
 k_ret false) (
 cI .i64 r1 0 fun v4 =>
 lt (IntKind.wrap .i64 ((p3:Int)+v4)) fun x5 =>
 lt (IntKind.wrap .i64 ((p8:Int)+(1:Int))) fun x6 =>
 k_hbbaba x5 p6 p7 x6))) (
 k_x0)
theorem zuX {β:Type} (L:Nat) (p3:Int) (p6:List (List V)) (p7 p8:Int) (X:St→Option β) (K:KT β):yk zcv (zcs L) 0 L zeM (zfF p3 p6 p7 p8) (y9 zhV X K)=zqR L p3 p6 p7 p8 (fun p2=>K .ret (zk7 p2)) (fun p3 p6 p7 p8=>X (zfF p3 p6 p7 p8)) (K (.exit 0) (zmy)):=by kernel_rfl
def znz {β:Type} (L:Nat) (p2:Bool) (k_fin:Bool→Option β):Option β :=
 k_fin p2
theorem zsP {β:Type} (L:Nat) (p2:Bool) (k:KK β):(zw 0 (yR (yk zcv (zcs L) 0 L zjO) (y6 0 (CF.res zev) k))) .ret (zk7 p2)=znz L p2 (fun p0=>k (V.sc (.bool p0)) []):=by kernel_rfl
def zos {β:Type} (L:Nat) (k_fin:Bool→Option β):Option β :=
 k_fin true
theorem ztw {β:Type} (L:Nat) (k:KK β):(zw 0 (yR (yk zcv (zcs L) 0 L zjO) (y6 0 (CF.res zev) k))) (.exit 0) (zmy)=zos L (fun p0=>k (V.sc (.bool p0)) []):=by kernel_rfl
def zlE {β:Type} (L:Nat) (k_ret:Bool→Option β) (k_x0:Option β):Nat→Int→List (List V)→Int→Int→Option β
 | 0,_,_,_,_=>none
 | n+1,p3,p6,p7,p8=>zqR L p3 p6 p7 p8 k_ret (fun p3 p6 p7 p8=>zlE L k_ret k_x0 n p3 p6 p7 p8) k_x0
theorem znE {β:Type} (L:Nat) (K:KT β):∀ (n:Nat) (p3:Int) (p6:List (List V)) (p7 p8:Int),yB (yk zcv (zcs L) 0 L zeM) zhV n (zfF p3 p6 p7 p8) K=zlE L (fun p2=>K .ret (zk7 p2)) (K (.exit 0) (zmy)) n p3 p6 p7 p8:=by
 intro n
 induction n with
 | zero=>intros; rfl
 | succ n ih =>
  intro p3 p6 p7 p8
  refine (zuX L p3 p6 p7 p8 (fun σ=>yB (yk zcv (zcs L) 0 L zeM) zhV n σ K) K).trans ?_
  simp only [ih]
  rfl
def ztF {β:Type} (L:Nat) (p0:List (List V)) (k_fin:Bool→Option β):Option β :=
 zxF L p0 (fun p3 p6 p7 p8=>zlE L (fun p2=>znz L p2 k_fin) (zos L k_fin) L p3 p6 p7 p8)
theorem zAU {β:Type} (L:Nat) (p0:List (List V)) (k:KK β):yt zcv (zcs L) L zev [(V.sl 2 p0)] [] k=ztF L p0 (fun p0=>k (V.sc (.bool p0)) []):=by
 refine (zBk L p0 k).trans ?_
 unfold ztF
 first
  | (simp only [znE,zsP,ztw]; done)
  | (simp only [znE]; rfl)
abbrev zbT:=∀ (β:Type),Nat→List (List V)→(Bool→Option β)→Option β
def xx (β:Type) (L:Nat) (p0:List (List V)) (k_fin:Bool→Option β):Option β:=ztF L p0 k_fin
def zoJ (xx:zbT) (L:Nat) (β:Type) (args:List V) (bor:Bor) (k:KK β):Option β:=match args,bor with
 | [a0],[]=>aL 2 a0 fun p0=>xx β L p0 (fun p0=>k (V.sc (.bool p0)) [])
 | _,_=>none
theorem zBb (L:Nat) (β:Type) (args:List V) (bor:Bor) (k:KK β) (r:β) (h:zoJ xx L β args bor k=some r):yt zcv (zcs L) L zev args bor k=some r:=by
 unfold zoJ at h
 split at h
 ·have q:=zM h; clear h; obtain ⟨p0,rfl,h⟩:=q
  exact (zAU L p0 k).trans h
 ·cases h
def zoM:CF:=⟨6,[.tmp 2],
 (.seq (.reg [oo 1 (.box true (tq 0)),
   oo 2 (.move (.const (.sc (.bool false))) false)])
 (.seq (.reg [oo 3 (.load true 33 (tq 1) false),
   oo 4 (.build (rp 32 (.sc (.int .u8 0)) (rp 1 (.sc (.int .u32 0)) [])) [(32,1,(.const (.sc (.int .u32 4294967295))))]),
   oo 5 (.eqAgg false 33 (tq 3) (tq 4)),
   oo 2 (.move (tq 5) false)])
 .ret))⟩
def zvl:Hint:=⟨[],[],[none],[],[],false,false,[]⟩
def ztS:Nat→Sh:=yP []
def ztP (L:Nat):CBC:=noC
def zAk {β:Type} (L:Nat) (p0:List V) (k_fin:Bool→Option β):Option β :=
 chk (0+33≤(List.length p0)) (
 eqC 33 (List.take 33 p0) (List.replicate 32 (V.sc (.int .u8 (0:Int)))++[(V.sc (.int .u32 (4294967295:Int)))]) fun v0 =>
 k_fin v0)
theorem zCb {β:Type} (L:Nat) (p0:List V) (k:KK β):yt ztS (ztP L) L zoM [(V.agg p0)] [] k=zAk L p0 (fun p0=>k (V.sc (.bool p0)) []):=by kernel_rfl
abbrev zqt:=∀ (β:Type),Nat→List V→(Bool→Option β)→Option β
def zb4 (β:Type) (L:Nat) (p0:List V) (k_fin:Bool→Option β):Option β:=zAk L p0 k_fin
def zqr (zb4:zqt) (L:Nat) (β:Type) (args:List V) (bor:Bor) (k:KK β):Option β:=match args,bor with
 | [a0],[]=>aG a0 fun p0=>zb4 β L p0 (fun p0=>k (V.sc (.bool p0)) [])
 | _,_=>none
theorem zBz (L:Nat) (β:Type) (args:List V) (bor:Bor) (k:KK β) (r:β) (h:zqr zb4 L β args bor k=some r):yt ztS (ztP L) L zoM args bor k=some r:=by
 unfold zqr at h
 split at h
 ·have q:=zgf h; clear h; obtain ⟨p0,rfl,h⟩:=q
  exact (zCb L p0 k).trans h
 ·cases h
def ziY:CF:=⟨15,[.tmp 2],
 (.seq (.reg [oo 1 (.box true (tq 0)),
   oo 2 (.move (.const (.sc (.bool false))) false)])
 (.seq (.reg [oo 3 (.fieldAddr 1 (tq 1)),
   oo 4 (.load false 1 (tq 3) false),
   oo 5 (.lenS (tq 4)),
   oo 6 (.bin .eql (tq 5) (.const (.sc (.int .i64 1)))),
   oo 7 (.move (tq 6) false),
   ⟨(some 8),false,(some (7,true)),.fieldAddr 1 (tq 1)⟩,
   ⟨(some 9),false,(some (7,true)),.load false 1 (tq 8) false⟩,
   ⟨(some 10),false,(some (7,true)),.indexAddrS 35 (tq 9) (.const (.sc (.int .i64 0)))⟩,
   ⟨(some 11),false,(some (7,true)),.fieldAddr 0 (tq 10)⟩,
   ⟨(some 12),false,(some (7,true)),.load true 33 (tq 11) false⟩,
   ⟨(some 13),false,(some (7,true)),.call 188 [((tq 12),0)] []⟩,
   oo 14 (.pick (tq 7) (tq 13) (.const (.sc (.bool false)))),
   oo 2 (.move (tq 14) false)])
 .ret))⟩
def zpN:Hint:=⟨[(0,0)],[],[none],[],[],false,false,[]⟩
def zmu:Nat→Sh:=yP [(4,(.sl 35)),(9,(.sl 35))]
def zmH (zb4:zqt) (L:Nat):CBC:=(xv 188 (zqr zb4 L) noC)
def ztV {β:Type} (zb4:zqt) (L:Nat) (p0:List V) (k_fin:Bool→Option β):Option β :=
 cLd 35 p0 1 fun v0 =>
 ifb ((((List.length v0:Nat):Int):Int) == (1:Int)) (
 cLd 35 p0 1 fun v1 =>
 idx v1 (0:Int) fun c2 =>
 zb4 β L (List.take 33 c2) (fun v3 =>
 k_fin v3)) (
 k_fin false)
theorem zw7 {β:Type} (zb4:zqt) (L:Nat) (p0:List V) (k:KK β):yt zmu (zmH zb4 L) L ziY [(V.agg p0)] [] k=ztV zb4 L p0 (fun p0=>k (V.sc (.bool p0)) []):=by kernel_rfl
abbrev zaI:=∀ (β:Type),Nat→List V→(Bool→Option β)→Option β
def xq (β:Type) (L:Nat) (p0:List V) (k_fin:Bool→Option β):Option β:=ztV zb4 L p0 k_fin
def zj3 (xq:zaI) (L:Nat) (β:Type) (args:List V) (bor:Bor) (k:KK β):Option β:=match args,bor with
 | [a0],[]=>aG a0 fun p0=>xq β L p0 (fun p0=>k (V.sc (.bool p0)) [])
 | _,_=>none
theorem zw1 (L:Nat) (β:Type) (args:List V) (bor:Bor) (k:KK β) (r:β) (h:zj3 xq L β args bor k=some r):yt zmu (zmH zb4 L) L ziY args bor k=some r:=by
 unfold zj3 at h
 split at h
 ·have q:=zgf h; clear h; obtain ⟨p0,rfl,h⟩:=q
  exact (zw7 zb4 L p0 k).trans h
 ·cases h
def zdl:CC:=(.seq (.reg [oo 28 (.bin .lss (tq 27) (tq 26))])
 (.seq (.cond (tq 28)
 .skip
 (.seq (.mask (bl 10 47) (bl 140737488355291 47))
 (.exit 0)))
 (.seq (.block 1 (.seq (.reg [oo 29 (.indexAddrS 35 (tq 25) (tq 27)),
   oo 30 (.load true 35 (tq 29) false),
   oo 5 (.alloc true (rp 32 (.sc (.int .u8 0)) (rp 2 (.sc (.int .u32 0)) (rp 1 (.gs 1 []) [])))),
   oz (.store 35 (tq 5) (tq 30))])
 (.seq (.seq (.reg [oo 31 (.move (tq 3) false),
   oo 32 (.fieldAddr 0 (tq 5)),
   oo 33 (.load true 33 (tq 32) false),
   oo 34 (.mlook 35 false (.sc (.bool false)) (tq 31) (tq 33))])
 (.cond (tq 34)
 (.seq (.reg [oo 2 (.move (.const (.sc (.int .i64 91))) false)])
 (.seq (.mask (bl 4 47) (bl 140737488355293 47))
 .ret))
 .skip))
 (.reg [oo 35 (.move (tq 3) false),
   oo 36 (.fieldAddr 0 (tq 5)),
   oo 37 (.load true 33 (tq 36) false),
   oz (.mput 35 (tq 35) (tq 37) (.const (.sc (.bool true))))]))))
 (.reg [oo 38 (.bin .add (tq 27) (.const (.sc (.int .i64 1)))),
   oo 27 (.move (tq 38) false)]))))
def zha:CC:=(.seq (.seq (.reg [oo 39 (.move (tq 3) false),
   oo 40 (.build (rp 32 (.sc (.int .u8 0)) (rp 1 (.sc (.int .u32 0)) [])) [(32,1,(.const (.sc (.int .u32 4294967295))))]),
   oo 41 (.mlook 35 false (.sc (.bool false)) (tq 39) (tq 40)),
   oo 42 (.move (tq 41) false),
   ⟨(some 43),false,(some (42,true)),.load true 4 (tq 1) false⟩,
   ⟨(some 44),false,(some (42,true)),.call 151 [((tq 43),1)] []⟩,
   ⟨(some 45),false,(some (42,true)),.un .not (tq 44)⟩,
   oo 46 (.pick (tq 42) (tq 45) (.const (.sc (.bool false))))])
 (.cond (tq 46)
 (.seq (.reg [oo 2 (.move (.const (.sc (.int .i64 92))) false)])
 .ret)
 .skip))
 (.seq (.reg [oo 2 (.move (.const (.sc (.int .i64 0))) false)])
 .ret))
def zex:CF:=⟨47,[.tmp 2],
 (.seq (.reg [oo 1 (.box true (tq 0)),
   oo 2 (.move (.const (.sc (.int .i64 0))) false)])
 (.seq (.seq (.reg [oo 6 (.load true 4 (tq 1) false),
   oo 7 (.call 146 [((tq 6),1)] []),
   oo 8 (.un .not (tq 7))])
 (.cond (tq 8)
 (.seq (.reg [oo 2 (.move (.const (.sc (.int .i64 4))) false)])
 .ret)
 .skip))
 (.seq (.seq (.reg [oo 9 (.fieldAddr 1 (tq 1)),
   oo 10 (.load false 1 (tq 9) false),
   oo 11 (.lenS (tq 10)),
   oo 12 (.bin .eql (tq 11) (.const (.sc (.int .i64 0)))),
   oo 13 (.move (tq 12) false),
   ⟨(some 14),false,(some (13,false)),.fieldAddr 2 (tq 1)⟩,
   ⟨(some 15),false,(some (13,false)),.load false 1 (tq 14) false⟩,
   ⟨(some 16),false,(some (13,false)),.lenS (tq 15)⟩,
   ⟨(some 17),false,(some (13,false)),.bin .eql (tq 16) (.const (.sc (.int .i64 0)))⟩,
   oo 18 (.pick (tq 13) (.const (.sc (.bool true))) (tq 17))])
 (.cond (tq 18)
 (.seq (.reg [oo 2 (.move (.const (.sc (.int .i64 93))) false)])
 .ret)
 .skip))
 (.seq (.seq (.reg [oo 19 (.fieldAddr 2 (tq 1)),
   oo 20 (.load false 1 (tq 19) false),
   oo 21 (.call 150 [((tq 20),0)] []),
   oo 22 (.un .not (tq 21))])
 (.cond (tq 22)
 (.seq (.reg [oo 2 (.move (.const (.sc (.int .i64 90))) false)])
 .ret)
 .skip))
 (.seq (.reg [oo 23 (.makeMap),
   oo 3 (.move (tq 23) false)])
 (.seq (.seq (.reg [oo 24 (.fieldAddr 1 (tq 1)),
   oo 25 (.load false 1 (tq 24) false),
   oo 26 (.lenS (tq 25)),
   oo 27 (.move (.const (.sc (.int .i64 0))) false)])
 (.block 0 (.loop (bl 234881034 47) (bl 140737488355291 47)
 zdl)))
 zha))))))⟩
def ztX:Hint:=⟨[(0,0),(10,2)],[],[none,none,none,none,none,none,none,some ((bl 234881034 47),(bl 140737488355291 47)),none,some ((bl 10 47),(bl 140737488355291 47)),none,none,some ((bl 4 47),(bl 140737488355293 47)),none,none,none],[],[],false,false,[]⟩
def zcr:Nat→Sh:=yP [(10,(.sl 35)),(15,(.sl 2)),(20,(.sl 2)),(25,(.sl 35)),(34,.bool),(41,.bool)]
def zct (zq:zaM) (xx:zbT) (xq:zaI) (L:Nat):CBC:=(xv 151 (zj3 xq L) (xv 150 (zoJ xx L) (xv 146 (zky zq L) noC)))
def zfH:St→St:=y4 0 (bl 234881034 47) (bl 140737488355291 47)
def zdO (p25:List (List V)) (p26 p27:Int) (b1:List V) (b23:List (V × V)):St:=⟨(jn 1 ((V.ptr 1 0)::(jn 1 ((V.mp 23)::(jn 21 ((V.sl 35 p25)::((V.sc (.int .i64 p26))::((V.sc (.int .i64 p27))::(jn 19 []))))))))),(gn 1 ((.live true b1)::(gn 21 ((.mp b23)::(gn 23 [])))))⟩
def zlH (p2:Int) (b23:List (V × V)):St:=⟨(jn 2 ((V.sc (.int .i64 p2))::(jn 44 []))),(gn 23 ((.mp b23)::(gn 23 [])))⟩
def zmt (b1:List V) (b23:List (V × V)):St:=⟨(jn 1 ((V.ptr 1 0)::(jn 1 ((V.mp 23)::(jn 43 []))))),(gn 1 ((.live true b1)::(gn 21 ((.mp b23)::(gn 23 [])))))⟩
def zyx {β:Type} (zq:zaM) (xx:zbT) (xq:zaI) (L:Nat) (p0:List V) (k_fin:Int→Option β) (k_hbbbbbaba:List (List V)→Int→Int→List V→List (V × V)→Option β):Option β :=
 chk (0+4≤(List.length p0)) (
 zq β L (List.map V.dem (List.take 4 p0)) (fun v0 =>
 ifb (!v0) (
 k_fin (4:Int)) (
 cLd 35 p0 1 fun v1 =>
 ifb ((((List.length v1:Nat):Int):Int) == (0:Int)) (
 k_fin (93:Int)) (
 cLd 2 p0 2 fun v2 =>
 ifb ((((List.length v2:Nat):Int):Int) == (0:Int)) (
 k_fin (93:Int)) (
 cLd 2 p0 2 fun v3 =>
 xx β L v3 (fun v4 =>
 ifb (!v4) (
 k_fin (90:Int)) (
 cLd 35 p0 1 fun v5 =>
 k_hbbbbbaba v5 ((List.length v5:Nat):Int) (0:Int) p0 ([]:List (V × V)))))))))
theorem zBi {β:Type} (zq:zaM) (xx:zbT) (xq:zaI) (L:Nat) (p0:List V) (k:KK β):yt zcr (zct zq xx xq L) L zex [(V.agg p0)] [] k=zyx zq xx xq L p0 (fun p0=>k (V.sc (.int .i64 p0)) []) (fun p25 p26 p27 b1 b23=>yB (yk zcr (zct zq xx xq L) 0 L zdl) zfH L (zdO p25 p26 p27 b1 b23) (zw 0 (yR (yk zcr (zct zq xx xq L) 0 L zha) (y6 0 (CF.res zex) k)))):=by kernel_rfl
def znj {β:Type} (zq:zaM) (xx:zbT) (xq:zaI) (L:Nat) (p25:List (List V)) (p26 p27:Int) (b1:List V) (b23:List (V × V)) (k_ret:Int→List (V × V)→Option β) (k_hbbbbbaba:List (List V)→Int→Int→List V→List (V × V)→Option β) (k_x0:List V→List (V × V)→Option β):Option β :=
 ifb (decide (p27 < p26)) (
 idx p25 p27 fun c6 =>
 chk ((List.length (List.take 35 c6))=35∧0+35≤35) (
 lt (yl (List.replicate 32 (V.sc (.int .u8 (0:Int)))++[(V.sc (.int .u32 (0:Int))),(V.sc (.int .u32 (0:Int))),(V.gs 1 ([]:List (List V)))]) 0 (List.take 35 c6)) fun r7 =>
 chk (0+33≤(List.length r7)) (
 mAt 35 (V.agg (List.take 33 r7)) b23 fun q8 =>
 aB (Option.getD q8 (V.sc (.bool false))) fun v9 =>
 ifb v9 (
 k_ret (91:Int) b23) (
 chk (0+33≤(List.length r7)) (
 zGS 35 (V.agg (List.take 33 r7)) (V.sc (.bool true)) b23 fun m10 =>
 lt (IntKind.wrap .i64 ((p27:Int)+(1:Int))) fun x11 =>
 k_hbbbbbaba p25 p26 x11 b1 m10))))) (
 k_x0 b1 b23)
theorem zsI {β:Type} (zq:zaM) (xx:zbT) (xq:zaI) (L:Nat) (p25:List (List V)) (p26 p27:Int) (b1:List V) (b23:List (V × V)) (X:St→Option β) (K:KT β):yk zcr (zct zq xx xq L) 0 L zdl (zdO p25 p26 p27 b1 b23) (y9 zfH X K)=znj zq xx xq L p25 p26 p27 b1 b23 (fun p2 b23=>K .ret (zlH p2 b23)) (fun p25 p26 p27 b1 b23=>X (zdO p25 p26 p27 b1 b23)) (fun b1 b23=>K (.exit 0) (zmt b1 b23)):=by kernel_rfl
def zkt {β:Type} (zq:zaM) (xx:zbT) (xq:zaI) (L:Nat) (p2:Int) (b23:List (V × V)) (k_fin:Int→Option β):Option β :=
 k_fin p2
theorem zpY {β:Type} (zq:zaM) (xx:zbT) (xq:zaI) (L:Nat) (p2:Int) (b23:List (V × V)) (k:KK β):(zw 0 (yR (yk zcr (zct zq xx xq L) 0 L zha) (y6 0 (CF.res zex) k))) .ret (zlH p2 b23)=zkt zq xx xq L p2 b23 (fun p0=>k (V.sc (.int .i64 p0)) []):=by kernel_rfl
def zlR {β:Type} (zq:zaM) (xx:zbT) (xq:zaI) (L:Nat) (b1:List V) (b23:List (V × V)) (k_fin:Int→Option β):Option β :=
 mAt 35 (V.agg (List.replicate 32 (V.sc (.int .u8 (0:Int)))++[(V.sc (.int .u32 (4294967295:Int)))])) b23 fun q12 =>
 aB (Option.getD q12 (V.sc (.bool false))) fun v13 =>
 ifb v13 (
 chk (0+4≤(List.length b1)) (
 xq β L (List.map V.dem (List.take 4 b1)) (fun v14 =>
 ifb (!v14) (
 k_fin (92:Int)) (
 k_fin (0:Int))))) (
 k_fin (0:Int))
theorem zql {β:Type} (zq:zaM) (xx:zbT) (xq:zaI) (L:Nat) (b1:List V) (b23:List (V × V)) (k:KK β):(zw 0 (yR (yk zcr (zct zq xx xq L) 0 L zha) (y6 0 (CF.res zex) k))) (.exit 0) (zmt b1 b23)=zlR zq xx xq L b1 b23 (fun p0=>k (V.sc (.int .i64 p0)) []):=by kernel_rfl
def zii {β:Type} (zq:zaM) (xx:zbT) (xq:zaI) (L:Nat) (k_ret:Int→List (V × V)→Option β) (k_x0:List V→List (V × V)→Option β):Nat→List (List V)→Int→Int→List V→List (V × V)→Option β
 | 0,_,_,_,_,_=>none
 | n+1,p25,p26,p27,b1,b23=>znj zq xx xq L p25 p26 p27 b1 b23 k_ret (fun p25 p26 p27 b1 b23=>zii zq xx xq L k_ret k_x0 n p25 p26 p27 b1 b23) k_x0
theorem zkA {β:Type} (zq:zaM) (xx:zbT) (xq:zaI) (L:Nat) (K:KT β):∀ (n:Nat) (p25:List (List V)) (p26 p27:Int) (b1:List V) (b23:List (V × V)),yB (yk zcr (zct zq xx xq L) 0 L zdl) zfH n (zdO p25 p26 p27 b1 b23) K=zii zq xx xq L (fun p2 b23=>K .ret (zlH p2 b23)) (fun b1 b23=>K (.exit 0) (zmt b1 b23)) n p25 p26 p27 b1 b23:=by
 intro n
 induction n with
 | zero=>intros; rfl
 | succ n ih =>
  intro p25 p26 p27 b1 b23
  refine (zsI zq xx xq L p25 p26 p27 b1 b23 (fun σ=>yB (yk zcr (zct zq xx xq L) 0 L zdl) zfH n σ K) K).trans ?_
  simp only [ih]
  rfl
def ztQ {β:Type} (zq:zaM) (xx:zbT) (xq:zaI) (L:Nat) (p0:List V) (k_fin:Int→Option β):Option β :=
 zyx zq xx xq L p0 k_fin (fun p25 p26 p27 b1 b23=>zii zq xx xq L (fun p2 b23=>zkt zq xx xq L p2 b23 k_fin) (fun b1 b23=>zlR zq xx xq L b1 b23 k_fin) L p25 p26 p27 b1 b23)
theorem zBg {β:Type} (zq:zaM) (xx:zbT) (xq:zaI) (L:Nat) (p0:List V) (k:KK β):yt zcr (zct zq xx xq L) L zex [(V.agg p0)] [] k=ztQ zq xx xq L p0 (fun p0=>k (V.sc (.int .i64 p0)) []):=by
 refine (zBi zq xx xq L p0 k).trans ?_
 unfold ztQ
 first
  | (simp only [zkA,zpY,zql]; done)
  | (simp only [zkA]; rfl)
abbrev zoU:=∀ (β:Type),Nat→List V→(Int→Option β)→Option β
def zbx (β:Type) (L:Nat) (p0:List V) (k_fin:Int→Option β):Option β:=ztQ zq xx xq L p0 k_fin
def zoN (zbx:zoU) (L:Nat) (β:Type) (args:List V) (bor:Bor) (k:KK β):Option β:=match args,bor with
 | [a0],[]=>aG a0 fun p0=>zbx β L p0 (fun p0=>k (V.sc (.int .i64 p0)) [])
 | _,_=>none
theorem zBh (L:Nat) (β:Type) (args:List V) (bor:Bor) (k:KK β) (r:β) (h:zoN zbx L β args bor k=some r):yt zcr (zct zq xx xq L) L zex args bor k=some r:=by
 unfold zoN at h
 split at h
 ·have q:=zgf h; clear h; obtain ⟨p0,rfl,h⟩:=q
  exact (zBg zq xx xq L p0 k).trans h
 ·cases h
def zj1:CF:=⟨36,[.tmp 0],
 (.seq (.reg [oo 0 (.move (.const (.sc (.bool false))) false)])
 (.seq (.reg [oo 6 (.build [(.sc (.int .u32 0)),(.sl 35 []),(.sl 2 []),(.sc (.int .u32 0))] []),
   oo 7 (.call 128 [((tq 6),1),((.const (.sc (.bool false))),0)] []),
   oo 5 (.move (tq 7) true),
   oo 8 (.extract (tq 5) 0),
   oo 9 (.pull (tq 5) 1),
   oo 1 (.move (tq 8) false),
   oo 2 (.move (tq 9) false)])
 (.seq (.reg [oo 10 (.build (rp 32 (.sc (.int .u8 0)) (rp 1 (.sc (.int .u32 0)) [])) [(32,1,(.const (.sc (.int .u32 3))))]),
   oo 3 (.alloc true (rp 32 (.sc (.int .u8 0)) (rp 1 (.sc (.int .u32 0)) []))),
   oz (.store 33 (tq 3) (tq 10))])
 (.seq (.reg [oo 11 (.load true 33 (tq 3) false),
   oo 12 (.build (rp 32 (.sc (.int .u8 0)) (rp 2 (.sc (.int .u32 0)) (rp 1 (.sl 1 []) []))) [(0,33,(tq 11))]),
   oo 13 (.load true 33 (tq 3) false),
   oo 14 (.build (rp 32 (.sc (.int .u8 0)) (rp 2 (.sc (.int .u32 0)) (rp 1 (.sl 1 []) []))) [(0,33,(tq 13))]),
   oo 15 (.buildSlice 35 2 (rp 32 (.sc (.int .u8 0)) (rp 2 (.sc (.int .u32 0)) (rp 1 (.sl 1 []) []))) [(0,35,(tq 12)),(35,35,(tq 14))]),
   oo 16 (.build [(.sc (.int .i64 0)),(.sl 1 [])] []),
   oo 17 (.buildSlice 2 1 [(.sc (.int .i64 0)),(.sl 1 [])] [(0,2,(tq 16))]),
   oo 18 (.build [(.sc (.int .u32 0)),(.sl 35 []),(.sl 2 []),(.sc (.int .u32 0))] [(1,1,(tq 15)),(2,1,(tq 17))]),
   oo 4 (.alloc true [(.sc (.int .u32 0)),(.gs 35 []),(.gs 2 []),(.sc (.int .u32 0))]),
   oz (.store 4 (tq 4) (tq 18))])
 (.seq (.reg [oo 19 (.move (tq 2) false),
   oo 20 (.bin .eql (tq 19) (.const (.sc (.int .i64 0)))),
   oo 21 (.move (tq 20) false),
   ⟨(some 22),false,(some (21,true)),.move (tq 1) false⟩,
   ⟨(some 23),false,(some (21,true)),.lenS (tq 22)⟩,
   ⟨(some 24),false,(some (21,true)),.bin .eql (tq 23) (.const (.sc (.int .i64 10)))⟩,
   oo 25 (.pick (tq 21) (tq 24) (.const (.sc (.bool false)))),
   oo 26 (.move (tq 25) false),
   ⟨(some 27),false,(some (26,true)),.build [(.sc (.int .u32 0)),(.sl 35 []),(.sl 2 []),(.sc (.int .u32 0))] []⟩,
   ⟨(some 28),false,(some (26,true)),.call 144 [((tq 27),1)] []⟩,
   ⟨(some 29),false,(some (26,true)),.bin .eql (tq 28) (.const (.sc (.int .i64 40)))⟩,
   oo 30 (.pick (tq 26) (tq 29) (.const (.sc (.bool false)))),
   oo 31 (.move (tq 30) false),
   ⟨(some 32),false,(some (31,true)),.load true 4 (tq 4) false⟩,
   ⟨(some 33),false,(some (31,true)),.call 131 [((tq 32),1)] []⟩,
   ⟨(some 34),false,(some (31,true)),.bin .eql (tq 33) (.const (.sc (.int .i64 91)))⟩,
   oo 35 (.pick (tq 31) (tq 34) (.const (.sc (.bool false)))),
   oo 0 (.move (tq 35) false)])
 .ret)))))⟩
def zqP:Hint:=⟨[(1,2),(1,3),(3,8)],[],[none],[],[],false,false,[]⟩
def znR:Nat→Sh:=yP []
def znL (xX:zhp) (zaV:zmJ) (zbx:zoU) (L:Nat):CBC:=(xv 131 (zoN zbx L) (xv 144 (zmN zaV L) (xv 128 (zjz xX L) noC)))
def zvc {β:Type} (xX:zhp) (zaV:zmJ) (zbx:zoU) (L:Nat) (k_fin:Bool→Option β):Option β :=
 xX β L [(V.sc (.int .u32 (0:Int))),(V.sl 35 ([]:List (List V))),(V.sl 2 ([]:List (List V))),(V.sc (.int .u32 (0:Int)))] false (fun v0 v1 =>
 lt (List.replicate 32 (V.sc (.int .u8 (0:Int)))++[(V.sc (.int .u32 (3:Int)))]) fun r2 =>
 chk (0+33≤(List.length r2)) (
 chk ((List.length (List.take 33 r2))=33∧0+33≤35) (
 chk (0+33≤(List.length r2)) (
 chk ((List.length (List.take 33 r2))=33∧0+33≤35) (
 chk ((List.length (yl (List.replicate 32 (V.sc (.int .u8 (0:Int)))++[(V.sc (.int .u32 (0:Int))),(V.sc (.int .u32 (0:Int))),(V.sl 1 ([]:List (List V)))]) 0 (List.take 33 r2)))=35∧0+35≤70) (
 chk ((List.length (yl (List.replicate 32 (V.sc (.int .u8 (0:Int)))++[(V.sc (.int .u32 (0:Int))),(V.sc (.int .u32 (0:Int))),(V.sl 1 ([]:List (List V)))]) 0 (List.take 33 r2)))=35∧35+35≤(List.length (yl (List.replicate 32 (V.sc (.int .u8 (0:Int)))++[(V.sc (.int .u32 (0:Int))),(V.sc (.int .u32 (0:Int))),(V.sl 1 ([]:List (List V)))]++List.replicate 32 (V.sc (.int .u8 (0:Int)))++[(V.sc (.int .u32 (0:Int))),(V.sc (.int .u32 (0:Int))),(V.sl 1 ([]:List (List V)))]) 0 (yl (List.replicate 32 (V.sc (.int .u8 (0:Int)))++[(V.sc (.int .u32 (0:Int))),(V.sc (.int .u32 (0:Int))),(V.sl 1 ([]:List (List V)))]) 0 (List.take 33 r2))))) (
 lt [(V.sc (.int .u32 (0:Int))),(V.sl 35 (xj 35 2 (yl (yl (List.replicate 32 (V.sc (.int .u8 (0:Int)))++[(V.sc (.int .u32 (0:Int))),(V.sc (.int .u32 (0:Int))),(V.sl 1 ([]:List (List V)))]++List.replicate 32 (V.sc (.int .u8 (0:Int)))++[(V.sc (.int .u32 (0:Int))),(V.sc (.int .u32 (0:Int))),(V.sl 1 ([]:List (List V)))]) 0 (yl (List.replicate 32 (V.sc (.int .u8 (0:Int)))++[(V.sc (.int .u32 (0:Int))),(V.sc (.int .u32 (0:Int))),(V.sl 1 ([]:List (List V)))]) 0 (List.take 33 r2))) 35 (yl (List.replicate 32 (V.sc (.int .u8 (0:Int)))++[(V.sc (.int .u32 (0:Int))),(V.sc (.int .u32 (0:Int))),(V.sl 1 ([]:List (List V)))]) 0 (List.take 33 r2))))),(V.sl 2 (xj 2 1 [(V.sc (.int .i64 (0:Int))),(V.sl 1 ([]:List (List V)))])),(V.sc (.int .u32 (0:Int)))] fun r3 =>
 ifb ((v1:Int) == (0:Int)) (
 ifb ((((List.length v0:Nat):Int):Int) == (10:Int)) (
 zaV β L [(V.sc (.int .u32 (0:Int))),(V.sl 35 ([]:List (List V))),(V.sl 2 ([]:List (List V))),(V.sc (.int .u32 (0:Int)))] (fun v4 =>
 ifb ((v4:Int) == (40:Int)) (
 chk (0+4≤(List.length r3)) (
 zbx β L (List.map V.dem (List.take 4 r3)) (fun v5 =>
 k_fin ((v5:Int) == (91:Int))))) (
 k_fin false))) (
 k_fin false)) (
 k_fin false))))))))
theorem zx8 {β:Type} (xX:zhp) (zaV:zmJ) (zbx:zoU) (L:Nat) (k:KK β):yt znR (znL xX zaV zbx L) L zj1 [] [] k=zvc xX zaV zbx L (fun p0=>k (V.sc (.bool p0)) []):=by kernel_rfl
abbrev zdK:=∀ (β:Type),Nat→(Bool→Option β)→Option β
def yL (β:Type) (L:Nat) (k_fin:Bool→Option β):Option β:=zvc xX zaV zbx L k_fin
def zgl (yL:zdK) (L:Nat) (β:Type) (args:List V) (bor:Bor) (k:KK β):Option β:=match args,bor with
 | [],[]=>yL β L (fun p0=>k (V.sc (.bool p0)) [])
 | _,_=>none
theorem zxw (L:Nat) (β:Type) (args:List V) (bor:Bor) (k:KK β) (r:β) (h:zgl yL L β args bor k=some r):yt znR (znL xX zaV zbx L) L zj1 args bor k=some r:=by
 unfold zgl at h
 split at h
 ·exact (zx8 xX zaV zbx L k).trans h
 ·cases h
def zjY:CF:=⟨21,[.tmp 6],
 (.seq (.reg [oo 6 (.move (.const (.sc (.int .i64 0))) false)])
 (.seq (.seq (.reg [oo 7 (.move (tq 1) false),
   oo 8 (.bin .lss (tq 7) (.const (.sc (.int .i64 0)))),
   oo 9 (.move (tq 8) false),
   ⟨(some 10),false,(some (9,false)),.move (tq 1) false⟩,
   ⟨(some 11),false,(some (9,false)),.move (tq 0) false⟩,
   ⟨(some 12),false,(some (9,false)),.lenS (tq 11)⟩,
   ⟨(some 13),false,(some (9,false)),.bin .gtr (tq 10) (tq 12)⟩,
   oo 14 (.pick (tq 9) (.const (.sc (.bool true))) (tq 13))])
 (.cond (tq 14)
 (.seq (.reg [oo 6 (.move (.const (.sc (.int .i64 5))) false)])
 .ret)
 .skip))
 (.seq (.seq (.reg [oo 15 (.move (tq 0) false),
   oo 16 (.lenS (tq 15)),
   oo 17 (.move (tq 1) false),
   oo 18 (.bin .sub (tq 16) (tq 17)),
   oo 19 (.move (tq 2) false),
   oo 20 (.bin .lss (tq 18) (tq 19))])
 (.cond (tq 20)
 (.seq (.reg [oo 6 (.move (.const (.sc (.int .i64 1))) false)])
 .ret)
 .skip))
 (.seq (.reg [oo 6 (.move (.const (.sc (.int .i64 0))) false)])
 .ret))))⟩
def zqL:Hint:=⟨[],[],[none,none,none,none,none],[],[],false,false,[]⟩
def znM:Nat→Sh:=yP []
def zoc (L:Nat):CBC:=noC
def zkV {β:Type} (L:Nat) (p0:List (List V)) (p1 p2:Int) (k_fin:Int→Option β):Option β :=
 ifb (decide (p1 < (0:Int))) (
 k_fin (5:Int)) (
 ifb (decide (p1 > ((List.length p0:Nat):Int))) (
 k_fin (5:Int)) (
 lt (IntKind.wrap .i64 ((((List.length p0:Nat):Int):Int) - p1)) fun x0 =>
 ifb (decide (x0 < p2)) (
 k_fin (1:Int)) (
 k_fin (0:Int))))
theorem zyR {β:Type} (L:Nat) (p0:List (List V)) (p1 p2:Int) (k:KK β):yt znM (zoc L) L zjY [(V.sl 1 p0),(V.sc (.int .i64 p1)),(V.sc (.int .i64 p2))] [] k=zkV L p0 p1 p2 (fun p0=>k (V.sc (.int .i64 p0)) []):=by kernel_rfl
abbrev yr:=∀ (β:Type),Nat→List (List V)→Int→Int→(Int→Option β)→Option β
def ze (β:Type) (L:Nat) (p0:List (List V)) (p1 p2:Int) (k_fin:Int→Option β):Option β:=zkV L p0 p1 p2 k_fin
def zdJ (ze:yr) (L:Nat) (β:Type) (args:List V) (bor:Bor) (k:KK β):Option β:=match args,bor with
 | [a0,a1,a2],[]=>aL 1 a0 fun p0=>aI .i64 a1 fun p1=>aI .i64 a2 fun p2=>ze β L p0 p1 p2 (fun p0=>k (V.sc (.int .i64 p0)) [])
 | _,_=>none
theorem zyL (L:Nat) (β:Type) (args:List V) (bor:Bor) (k:KK β) (r:β) (h:zdJ ze L β args bor k=some r):yt znM (zoc L) L zjY args bor k=some r:=by
 unfold zdJ at h
 split at h
 ·have q:=zM h; clear h; obtain ⟨p0,rfl,h⟩:=q
  have q:=zy h; clear h; obtain ⟨p1,rfl,h⟩:=q
  have q:=zy h; clear h; obtain ⟨p2,rfl,h⟩:=q
  exact (zyR L p0 p1 p2 k).trans h
 ·cases h
def zby:CC:=(.seq (.reg [oo 21 (.bin .lss (tq 20) (tq 19))])
 (.seq (.cond (tq 21)
 .skip
 (.seq (.mask (bl 1030 40) (bl 1099511625727 40))
 (.exit 0)))
 (.seq (.block 1 (.seq (.reg [oo 22 (.move (tq 20) false),
   oo 11 (.move (tq 22) false)])
 (.reg [oo 23 (.move (tq 10) false),
   oo 24 (.move (tq 0) false),
   oo 25 (.move (tq 1) false),
   oo 26 (.move (tq 11) false),
   oo 27 (.bin .add (tq 25) (tq 26)),
   oo 28 (.indexAddrS 1 (tq 24) (tq 27)),
   oo 29 (.load false 1 (tq 28) false),
   oo 30 (.conv .u32 (tq 29)),
   oo 31 (.move (tq 11) false),
   oo 32 (.bin .mul (.const (.sc (.int .i64 8))) (tq 31)),
   oo 33 (.bin .shl (tq 30) (tq 32)),
   oo 34 (.bin .or (tq 23) (tq 33)),
   oo 10 (.move (tq 34) false)])))
 (.reg [oo 35 (.bin .add (tq 20) (.const (.sc (.int .i64 1)))),
   oo 20 (.move (tq 35) false)]))))
def zft:CC:=(.seq (.reg [oo 36 (.move (tq 10) false),
   oo 37 (.move (tq 1) false),
   oo 38 (.move (tq 2) false),
   oo 39 (.bin .add (tq 37) (tq 38)),
   oo 6 (.move (tq 36) false),
   oo 7 (.move (tq 39) false),
   oo 8 (.move (.const (.sc (.int .i64 0))) false)])
 .ret)
def zbu:CF:=⟨40,[.tmp 6,.tmp 7,.tmp 8],
 (.seq (.reg [oo 6 (.move (.const (.sc (.int .u32 0))) false),
   oo 7 (.move (.const (.sc (.int .i64 0))) false),
   oo 8 (.move (.const (.sc (.int .i64 0))) false)])
 (.seq (.seq (.reg [oo 12 (.move (tq 0) false),
   oo 13 (.move (tq 1) false),
   oo 14 (.move (tq 2) false),
   oo 15 (.call 198 [((tq 12),0),((tq 13),0),((tq 14),0)] []),
   oo 9 (.move (tq 15) false)])
 (.seq (.reg [oo 16 (.move (tq 9) false),
   oo 17 (.bin .neq (tq 16) (.const (.sc (.int .i64 0))))])
 (.cond (tq 17)
 (.seq (.reg [oo 18 (.move (tq 9) false),
   oo 6 (.move (.const (.sc (.int .u32 0))) false),
   oo 7 (.move (.const (.sc (.int .i64 0))) false),
   oo 8 (.move (tq 18) false)])
 .ret)
 .skip)))
 (.seq (.reg [oo 10 (.move (.const (.sc (.int .u32 0))) false)])
 (.seq (.seq (.reg [oo 19 (.move (tq 2) false),
   oo 20 (.move (.const (.sc (.int .i64 0))) false)])
 (.block 0 (.loop (bl 1573895 40) (bl 1099511625727 40)
 zby)))
 zft))))⟩
def zjs:Hint:=⟨[],[],[none,none,none,some ((bl 1573895 40),(bl 1099511625727 40)),none,some ((bl 1030 40),(bl 1099511625727 40)),none,none],[],[],false,false,[]⟩
def zah:Nat→Sh:=yP [(29,(.int .u8))]
def zaf (ze:yr) (L:Nat):CBC:=(xv 198 (zdJ ze L) noC)
def zcH:St→St:=y4 0 (bl 1573895 40) (bl 1099511625727 40)
def zb9 (p0:List (List V)) (p1 p2 p10 p19 p20:Int):St:=⟨((V.sl 1 p0)::((V.sc (.int .i64 p1))::((V.sc (.int .i64 p2))::(jn 7 ((V.sc (.int .u32 p10))::(jn 8 ((V.sc (.int .i64 p19))::((V.sc (.int .i64 p20))::(jn 19 []))))))))),(gn 40 [])⟩
def zfn (p1 p2 p10:Int):St:=⟨(jn 1 ((V.sc (.int .i64 p1))::((V.sc (.int .i64 p2))::(jn 7 ((V.sc (.int .u32 p10))::(jn 29 [])))))),(gn 40 [])⟩
def ze5 {β:Type} (ze:yr) (L:Nat) (p0:List (List V)) (p1 p2:Int) (k_fin:Int→Int→Int→Option β) (k_hbbbaba:List (List V)→Int→Int→Int→Int→Int→Option β):Option β :=
 ze β L p0 p1 p2 (fun v0 =>
 ifb ((v0:Int) != (0:Int)) (
 k_fin (0:Int) (0:Int) v0) (
 k_hbbbaba p0 p1 p2 (0:Int) p2 (0:Int)))
theorem zrj {β:Type} (ze:yr) (L:Nat) (p0:List (List V)) (p1 p2:Int) (k:KK β):yt zah (zaf ze L) L zbu [(V.sl 1 p0),(V.sc (.int .i64 p1)),(V.sc (.int .i64 p2))] [] k=ze5 ze L p0 p1 p2 (fun zKg zKh zKi=>k (V.tup [(V.sc (.int .u32 zKg)),(V.sc (.int .i64 zKh)),(V.sc (.int .i64 zKi))]) []) (fun p0 p1 p2 p10 p19 p20=>yB (yk zah (zaf ze L) 0 L zby) zcH L (zb9 p0 p1 p2 p10 p19 p20) (zw 0 (yR (yk zah (zaf ze L) 0 L zft) (y6 0 (CF.res zbu) k)))):=by kernel_rfl
def zed {β:Type} (ze:yr) (L:Nat) (p0:List (List V)) (p1 p2 p10 p19 p20:Int) (k_hbbbaba:List (List V)→Int→Int→Int→Int→Int→Option β) (k_x0:Int→Int→Int→Option β):Option β :=
 ifb (decide (p20 < p19)) (
 lt (IntKind.wrap .i64 ((p1:Int)+p20)) fun x1 =>
 idx p0 x1 fun c2 =>
 cI .u8 c2 0 fun v3 =>
 lt (IntKind.wrap .u32 v3) fun x4 =>
 lt (IntKind.wrap .i64 (((8:Int):Int) * p20)) fun x5 =>
 chk (0≤x5) (
 lt (zn6 .u32 x4 x5) fun x6 =>
 lt (ior .u32 p10 x6) fun x7 =>
 lt (IntKind.wrap .i64 ((p20:Int)+(1:Int))) fun x8 =>
 k_hbbbaba p0 p1 p2 x7 p19 x8)) (
 k_x0 p1 p2 p10)
theorem zmm {β:Type} (ze:yr) (L:Nat) (p0:List (List V)) (p1 p2 p10 p19 p20:Int) (X:St→Option β) (K:KT β):yk zah (zaf ze L) 0 L zby (zb9 p0 p1 p2 p10 p19 p20) (y9 zcH X K)=zed ze L p0 p1 p2 p10 p19 p20 (fun p0 p1 p2 p10 p19 p20=>X (zb9 p0 p1 p2 p10 p19 p20)) (fun p1 p2 p10=>K (.exit 0) (zfn p1 p2 p10)):=by kernel_rfl
def zdF {β:Type} (ze:yr) (L:Nat) (p1 p2 p10:Int) (k_fin:Int→Int→Int→Option β):Option β :=
 lt (IntKind.wrap .i64 ((p1:Int)+p2)) fun x9 =>
 k_fin p10 x9 (0:Int)
theorem zlq {β:Type} (ze:yr) (L:Nat) (p1 p2 p10:Int) (k:KK β):(zw 0 (yR (yk zah (zaf ze L) 0 L zft) (y6 0 (CF.res zbu) k))) (.exit 0) (zfn p1 p2 p10)=zdF ze L p1 p2 p10 (fun zKg zKh zKi=>k (V.tup [(V.sc (.int .u32 zKg)),(V.sc (.int .i64 zKh)),(V.sc (.int .i64 zKi))]) []):=by kernel_rfl
def zbR {β:Type} (ze:yr) (L:Nat) (k_x0:Int→Int→Int→Option β):Nat→List (List V)→Int→Int→Int→Int→Int→Option β
 | 0,_,_,_,_,_,_=>none
 | n+1,p0,p1,p2,p10,p19,p20=>zed ze L p0 p1 p2 p10 p19 p20 (fun p0 p1 p2 p10 p19 p20=>zbR ze L k_x0 n p0 p1 p2 p10 p19 p20) k_x0
theorem zgi {β:Type} (ze:yr) (L:Nat) (K:KT β):∀ (n:Nat) (p0:List (List V)) (p1 p2 p10 p19 p20:Int),yB (yk zah (zaf ze L) 0 L zby) zcH n (zb9 p0 p1 p2 p10 p19 p20) K=zbR ze L (fun p1 p2 p10=>K (.exit 0) (zfn p1 p2 p10)) n p0 p1 p2 p10 p19 p20:=by
 intro n
 induction n with
 | zero=>intros; rfl
 | succ n ih =>
  intro p0 p1 p2 p10 p19 p20
  refine (zmm ze L p0 p1 p2 p10 p19 p20 (fun σ=>yB (yk zah (zaf ze L) 0 L zby) zcH n σ K) K).trans ?_
  simp only [ih]
  rfl
def zdk {β:Type} (ze:yr) (L:Nat) (p0:List (List V)) (p1 p2:Int) (k_fin:Int→Int→Int→Option β):Option β :=
 ze5 ze L p0 p1 p2 k_fin (fun p0 p1 p2 p10 p19 p20=>zbR ze L (fun p1 p2 p10=>zdF ze L p1 p2 p10 k_fin) L p0 p1 p2 p10 p19 p20)
theorem zrb {β:Type} (ze:yr) (L:Nat) (p0:List (List V)) (p1 p2:Int) (k:KK β):yt zah (zaf ze L) L zbu [(V.sl 1 p0),(V.sc (.int .i64 p1)),(V.sc (.int .i64 p2))] [] k=zdk ze L p0 p1 p2 (fun zKg zKh zKi=>k (V.tup [(V.sc (.int .u32 zKg)),(V.sc (.int .i64 zKh)),(V.sc (.int .i64 zKi))]) []):=by
 refine (zrj ze L p0 p1 p2 k).trans ?_
 unfold zdk
 first
  | (simp only [zgi,zlq]; done)
  | (simp only [zgi]; rfl)
abbrev ze2:=∀ (β:Type),Nat→List (List V)→Int→Int→(Int→Int→Int→Option β)→Option β
def xK (β:Type) (L:Nat) (p0:List (List V)) (p1 p2:Int) (k_fin:Int→Int→Int→Option β):Option β:=zdk ze L p0 p1 p2 k_fin
def zfb (xK:ze2) (L:Nat) (β:Type) (args:List V) (bor:Bor) (k:KK β):Option β:=match args,bor with
 | [a0,a1,a2],[]=>aL 1 a0 fun p0=>aI .i64 a1 fun p1=>aI .i64 a2 fun p2=>xK β L p0 p1 p2 (fun zKg zKh zKi=>k (V.tup [(V.sc (.int .u32 zKg)),(V.sc (.int .i64 zKh)),(V.sc (.int .i64 zKi))]) [])
 | _,_=>none
theorem zrE (L:Nat) (β:Type) (args:List V) (bor:Bor) (k:KK β) (r:β) (h:zfb xK L β args bor k=some r):yt zah (zaf ze L) L zbu args bor k=some r:=by
 unfold zfb at h
 split at h
 ·have q:=zM h; clear h; obtain ⟨p0,rfl,h⟩:=q
  have q:=zy h; clear h; obtain ⟨p1,rfl,h⟩:=q
  have q:=zy h; clear h; obtain ⟨p2,rfl,h⟩:=q
  exact (zrb ze L p0 p1 p2 k).trans h
 ·cases h
def zlm:CF:=⟨13,[.tmp 4,.tmp 5,.tmp 6],
 (.seq (.reg [oo 4 (.move (.const (.sc (.int .u32 0))) false),
   oo 5 (.move (.const (.sc (.int .i64 0))) false),
   oo 6 (.move (.const (.sc (.int .i64 0))) false)])
 (.seq (.reg [oo 7 (.move (tq 0) false),
   oo 8 (.move (tq 1) false),
   oo 9 (.call 197 [((tq 7),0),((tq 8),0),((.const (.sc (.int .i64 4))),0)] []),
   oo 10 (.pull (tq 9) 0),
   oo 11 (.pull (tq 9) 1),
   oo 12 (.pull (tq 9) 2),
   oo 4 (.move (tq 10) false),
   oo 5 (.move (tq 11) false),
   oo 6 (.move (tq 12) false)])
 .ret))⟩
def zsc:Hint:=⟨[],[],[none],[],[],false,false,[]⟩
def zpd:Nat→Sh:=yP []
def zo7 (xK:ze2) (L:Nat):CBC:=(xv 197 (zfb xK L) noC)
def zm6 {β:Type} (xK:ze2) (L:Nat) (p0:List (List V)) (p1:Int) (k_fin:Int→Int→Int→Option β):Option β :=
 xK β L p0 p1 (4:Int) (fun v0 v1 v2 =>
 k_fin v0 v1 v2)
theorem zzv {β:Type} (xK:ze2) (L:Nat) (p0:List (List V)) (p1:Int) (k:KK β):yt zpd (zo7 xK L) L zlm [(V.sl 1 p0),(V.sc (.int .i64 p1))] [] k=zm6 xK L p0 p1 (fun zKg zKh zKi=>k (V.tup [(V.sc (.int .u32 zKg)),(V.sc (.int .i64 zKh)),(V.sc (.int .i64 zKi))]) []):=by kernel_rfl
abbrev zf0:=∀ (β:Type),Nat→List (List V)→Int→(Int→Int→Int→Option β)→Option β
def zL (β:Type) (L:Nat) (p0:List (List V)) (p1:Int) (k_fin:Int→Int→Int→Option β):Option β:=zm6 xK L p0 p1 k_fin
def zjH (zL:zf0) (L:Nat) (β:Type) (args:List V) (bor:Bor) (k:KK β):Option β:=match args,bor with
 | [a0,a1],[]=>aL 1 a0 fun p0=>aI .i64 a1 fun p1=>zL β L p0 p1 (fun zKg zKh zKi=>k (V.tup [(V.sc (.int .u32 zKg)),(V.sc (.int .i64 zKh)),(V.sc (.int .i64 zKi))]) [])
 | _,_=>none
theorem zy0 (L:Nat) (β:Type) (args:List V) (bor:Bor) (k:KK β) (r:β) (h:zjH zL L β args bor k=some r):yt zpd (zo7 xK L) L zlm args bor k=some r:=by
 unfold zjH at h
 split at h
 ·have q:=zM h; clear h; obtain ⟨p0,rfl,h⟩:=q
  have q:=zy h; clear h; obtain ⟨p1,rfl,h⟩:=q
  exact (zzv xK L p0 p1 k).trans h
 ·cases h
def zf8:CF:=⟨41,[.tmp 4],
 (.seq (.reg [oo 4 (.move (.const (.sc (.int .u32 0))) false)])
 (.seq (.reg [oo 5 (.move (.const (.sc (.int .u32 0))) false)])
 (.seq (.seq (.reg [oo 9 (.move (tq 0) false),
   oo 10 (.nilCheck (tq 9)),
   oo 11 (.fieldAddr 2 (tq 10)),
   oo 12 (.load false 1 (tq 11) false),
   oo 13 (.bin .neq (tq 12) (.const (.sc (.int .i64 0))))])
 (.cond (tq 13)
 (.seq (.reg [oo 14 (.move (tq 5) false),
   oo 4 (.move (tq 14) false)])
 .ret)
 .skip))
 (.seq (.dreg [] [(oo 16 (.move (tq 1) false),q0),
   (oo 17 (.move (tq 0) false),q0),
   (oo 18 (.nilCheck (tq 17)),q0),
   (oo 19 (.fieldAddr 0 (tq 18)),q0),
   (oo 20 (.load false 1 (tq 19) false),ql 0 [] []),
   (oo 21 (.move (tq 0) false),q0),
   (oo 22 (.nilCheck (tq 21)),q0),
   (oo 23 (.fieldAddr 1 (tq 22)),q0),
   (oo 24 (.load false 1 (tq 23) false),ql 0 [] []),
   (oo 25 (.callv (tq 16) [((tq 20),0),((tq 24),0)] []),q0),
   (oo 15 (.move (tq 25) true),q0),
   (oo 26 (.pull (tq 15) 0),q0),
   (oo 27 (.pull (tq 15) 1),q0),
   (oo 28 (.pull (tq 15) 2),q0),
   (oo 6 (.move (tq 26) false),q0),
   (oo 7 (.move (tq 27) false),q0),
   (oo 8 (.move (tq 28) false),q0)])
 (.seq (.seq (.reg [oo 29 (.move (tq 8) false),
   oo 30 (.bin .neq (tq 29) (.const (.sc (.int .i64 0))))])
 (.cond (tq 30)
 (.seq (.reg [oo 31 (.move (tq 0) false),
   oo 32 (.move (tq 8) false),
   oo 33 (.nilCheck (tq 31)),
   oo 34 (.fieldAddr 2 (tq 33)),
   oz (.store 1 (tq 34) (tq 32))])
 (.seq (.reg [oo 35 (.move (tq 5) false),
   oo 4 (.move (tq 35) false)])
 .ret))
 .skip))
 (.seq (.reg [oo 36 (.move (tq 0) false),
   oo 37 (.move (tq 7) false),
   oo 38 (.nilCheck (tq 36)),
   oo 39 (.fieldAddr 1 (tq 38)),
   oz (.store 1 (tq 39) (tq 37))])
 (.seq (.reg [oo 40 (.move (tq 6) false),
   oo 4 (.move (tq 40) false)])
 .ret)))))))⟩
def zl6:Hint:=⟨[(4,10)],[],[none,none,none,none,none],[],[],false,false,[]⟩
def zi8:Nat→Sh:=yP []
def zjf (zL:zf0) (L:Nat):CBC:=(xv 170 (zjH zL L) noC)
def zeJ {β:Type} (zL:zf0) (L:Nat) (zJ5:List (List V)) (zKc zKd:Int) (k_fin:Int→List (List V)→Int→Int→Option β):Option β :=
 ifb ((zKd:Int) != (0:Int)) (
 k_fin (0:Int) zJ5 zKc zKd) (
 zL β L zJ5 zKc (fun v0 v1 v2 =>
 ifb ((v2:Int) != (0:Int)) (
 k_fin (0:Int) zJ5 zKc v2) (
 k_fin v0 zJ5 v1 zKd)))
theorem zuf {β:Type} (zL:zf0) (L:Nat) (zJ5:List (List V)) (zKc zKd:Int) (k:KK β):yt zi8 (zjf zL L) L zf8 [(V.ptr 0 0),(V.fn 170 [])] [(.live false [(V.sl 1 zJ5),(V.sc (.int .i64 zKc)),(V.sc (.int .i64 zKd))])] k=zeJ zL L zJ5 zKc zKd (fun p0 zJ5 zKc zKd=>k (V.sc (.int .u32 p0)) [(.live false [(V.sl 1 zJ5),(V.sc (.int .i64 zKc)),(V.sc (.int .i64 zKd))])]):=by kernel_rfl
abbrev zr:=∀ (β:Type),Nat→List (List V)→Int→Int→(Int→List (List V)→Int→Int→Option β)→Option β
def yc (β:Type) (L:Nat) (zJ5:List (List V)) (zKc zKd:Int) (k_fin:Int→List (List V)→Int→Int→Option β):Option β:=zeJ zL L zJ5 zKc zKd k_fin
def zg6 (yc:zr) (L:Nat) (β:Type) (args:List V) (bor:Bor) (k:KK β):Option β:=match args,bor with
 | [a0,a1],[(.live false [w0_0,w0_1,w0_2])]=>aP 0 0 a0 (aF 170 [] a1 (aL 1 w0_0 fun zJ5=>aI .i64 w0_1 fun zKc=>aI .i64 w0_2 fun zKd=>yc β L zJ5 zKc zKd (fun p0 zJ5 zKc zKd=>k (V.sc (.int .u32 p0)) [(.live false [(V.sl 1 zJ5),(V.sc (.int .i64 zKc)),(V.sc (.int .i64 zKd))])])))
 | _,_=>none
theorem zub (L:Nat) (β:Type) (args:List V) (bor:Bor) (k:KK β) (r:β) (h:zg6 yc L β args bor k=some r):yt zi8 (zjf zL L) L zf8 args bor k=some r:=by
 unfold zg6 at h
 split at h
 ·have q:=zdE h; clear h; obtain ⟨rfl,h⟩:=q
  have q:=zux h; clear h; obtain ⟨rfl,h⟩:=q
  have q:=zM h; clear h; obtain ⟨zJ5,rfl,h⟩:=q
  have q:=zy h; clear h; obtain ⟨zKc,rfl,h⟩:=q
  have q:=zy h; clear h; obtain ⟨zKd,rfl,h⟩:=q
  exact (zuf zL L zJ5 zKc zKd k).trans h
 ·cases h
def zbV:CC:=(.seq (.reg [oo 21 (.bin .lss (tq 20) (tq 19))])
 (.seq (.cond (tq 21)
 .skip
 (.seq (.mask (bl 1030 39) (bl 549755811839 39))
 (.exit 0)))
 (.seq (.block 1 (.seq (.reg [oo 22 (.move (tq 20) false),
   oo 11 (.move (tq 22) false)])
 (.reg [oo 23 (.move (tq 10) false),
   oo 24 (.move (tq 0) false),
   oo 25 (.move (tq 1) false),
   oo 26 (.move (tq 11) false),
   oo 27 (.bin .add (tq 25) (tq 26)),
   oo 28 (.indexAddrS 1 (tq 24) (tq 27)),
   oo 29 (.load false 1 (tq 28) false),
   oo 30 (.move (tq 11) false),
   oo 31 (.bin .mul (.const (.sc (.int .i64 8))) (tq 30)),
   oo 32 (.bin .shl (tq 29) (tq 31)),
   oo 33 (.bin .or (tq 23) (tq 32)),
   oo 10 (.move (tq 33) false)])))
 (.reg [oo 34 (.bin .add (tq 20) (.const (.sc (.int .i64 1)))),
   oo 20 (.move (tq 34) false)]))))
def zf2:CC:=(.seq (.reg [oo 35 (.move (tq 10) false),
   oo 36 (.move (tq 1) false),
   oo 37 (.move (tq 2) false),
   oo 38 (.bin .add (tq 36) (tq 37)),
   oo 6 (.move (tq 35) false),
   oo 7 (.move (tq 38) false),
   oo 8 (.move (.const (.sc (.int .i64 0))) false)])
 .ret)
def zbK:CF:=⟨39,[.tmp 6,.tmp 7,.tmp 8],
 (.seq (.reg [oo 6 (.move (.const (.sc (.int .u8 0))) false),
   oo 7 (.move (.const (.sc (.int .i64 0))) false),
   oo 8 (.move (.const (.sc (.int .i64 0))) false)])
 (.seq (.seq (.reg [oo 12 (.move (tq 0) false),
   oo 13 (.move (tq 1) false),
   oo 14 (.move (tq 2) false),
   oo 15 (.call 198 [((tq 12),0),((tq 13),0),((tq 14),0)] []),
   oo 9 (.move (tq 15) false)])
 (.seq (.reg [oo 16 (.move (tq 9) false),
   oo 17 (.bin .neq (tq 16) (.const (.sc (.int .i64 0))))])
 (.cond (tq 17)
 (.seq (.reg [oo 18 (.move (tq 9) false),
   oo 6 (.move (.const (.sc (.int .u8 0))) false),
   oo 7 (.move (.const (.sc (.int .i64 0))) false),
   oo 8 (.move (tq 18) false)])
 .ret)
 .skip)))
 (.seq (.reg [oo 10 (.move (.const (.sc (.int .u8 0))) false)])
 (.seq (.seq (.reg [oo 19 (.move (tq 2) false),
   oo 20 (.move (.const (.sc (.int .i64 0))) false)])
 (.block 0 (.loop (bl 1573895 39) (bl 549755811839 39)
 zbV)))
 zf2))))⟩
def zkJ:Hint:=⟨[],[],[none,none,none,some ((bl 1573895 39),(bl 549755811839 39)),none,some ((bl 1030 39),(bl 549755811839 39)),none,none],[],[],false,false,[]⟩
def zau:Nat→Sh:=yP [(29,(.int .u8))]
def zav (ze:yr) (L:Nat):CBC:=(xv 198 (zdJ ze L) noC)
def zcX:St→St:=y4 0 (bl 1573895 39) (bl 549755811839 39)
def zcm (p0:List (List V)) (p1 p2 p10 p19 p20:Int):St:=⟨((V.sl 1 p0)::((V.sc (.int .i64 p1))::((V.sc (.int .i64 p2))::(jn 7 ((V.sc (.int .u8 p10))::(jn 8 ((V.sc (.int .i64 p19))::((V.sc (.int .i64 p20))::(jn 18 []))))))))),(gn 39 [])⟩
def zfZ (p1 p2 p10:Int):St:=⟨(jn 1 ((V.sc (.int .i64 p1))::((V.sc (.int .i64 p2))::(jn 7 ((V.sc (.int .u8 p10))::(jn 28 [])))))),(gn 39 [])⟩
def ziF {β:Type} (ze:yr) (L:Nat) (p0:List (List V)) (p1 p2:Int) (k_fin:Int→Int→Int→Option β) (k_hbbbaba:List (List V)→Int→Int→Int→Int→Int→Option β):Option β :=
 ze β L p0 p1 p2 (fun v0 =>
 ifb ((v0:Int) != (0:Int)) (
 k_fin (0:Int) (0:Int) v0) (
 k_hbbbaba p0 p1 p2 (0:Int) p2 (0:Int)))
theorem zsl {β:Type} (ze:yr) (L:Nat) (p0:List (List V)) (p1 p2:Int) (k:KK β):yt zau (zav ze L) L zbK [(V.sl 1 p0),(V.sc (.int .i64 p1)),(V.sc (.int .i64 p2))] [] k=ziF ze L p0 p1 p2 (fun zKg zKh zKi=>k (V.tup [(V.sc (.int .u8 zKg)),(V.sc (.int .i64 zKh)),(V.sc (.int .i64 zKi))]) []) (fun p0 p1 p2 p10 p19 p20=>yB (yk zau (zav ze L) 0 L zbV) zcX L (zcm p0 p1 p2 p10 p19 p20) (zw 0 (yR (yk zau (zav ze L) 0 L zf2) (y6 0 (CF.res zbK) k)))):=by kernel_rfl
def zeG {β:Type} (ze:yr) (L:Nat) (p0:List (List V)) (p1 p2 p10 p19 p20:Int) (k_hbbbaba:List (List V)→Int→Int→Int→Int→Int→Option β) (k_x0:Int→Int→Int→Option β):Option β :=
 ifb (decide (p20 < p19)) (
 lt (IntKind.wrap .i64 ((p1:Int)+p20)) fun x1 =>
 idx p0 x1 fun c2 =>
 cI .u8 c2 0 fun v3 =>
 lt (IntKind.wrap .i64 (((8:Int):Int) * p20)) fun x4 =>
 chk (0≤x4) (
 lt (zn6 .u8 v3 x4) fun x5 =>
 lt (ior .u8 p10 x5) fun x6 =>
 lt (IntKind.wrap .i64 ((p20:Int)+(1:Int))) fun x7 =>
 k_hbbbaba p0 p1 p2 x6 p19 x7)) (
 k_x0 p1 p2 p10)
theorem znt {β:Type} (ze:yr) (L:Nat) (p0:List (List V)) (p1 p2 p10 p19 p20:Int) (X:St→Option β) (K:KT β):yk zau (zav ze L) 0 L zbV (zcm p0 p1 p2 p10 p19 p20) (y9 zcX X K)=zeG ze L p0 p1 p2 p10 p19 p20 (fun p0 p1 p2 p10 p19 p20=>X (zcm p0 p1 p2 p10 p19 p20)) (fun p1 p2 p10=>K (.exit 0) (zfZ p1 p2 p10)):=by kernel_rfl
def zd0 {β:Type} (ze:yr) (L:Nat) (p1 p2 p10:Int) (k_fin:Int→Int→Int→Option β):Option β :=
 lt (IntKind.wrap .i64 ((p1:Int)+p2)) fun x8 =>
 k_fin p10 x8 (0:Int)
theorem zlX {β:Type} (ze:yr) (L:Nat) (p1 p2 p10:Int) (k:KK β):(zw 0 (yR (yk zau (zav ze L) 0 L zf2) (y6 0 (CF.res zbK) k))) (.exit 0) (zfZ p1 p2 p10)=zd0 ze L p1 p2 p10 (fun zKg zKh zKi=>k (V.tup [(V.sc (.int .u8 zKg)),(V.sc (.int .i64 zKh)),(V.sc (.int .i64 zKi))]) []):=by kernel_rfl
def zb2 {β:Type} (ze:yr) (L:Nat) (k_x0:Int→Int→Int→Option β):Nat→List (List V)→Int→Int→Int→Int→Int→Option β
 | 0,_,_,_,_,_,_=>none
 | n+1,p0,p1,p2,p10,p19,p20=>zeG ze L p0 p1 p2 p10 p19 p20 (fun p0 p1 p2 p10 p19 p20=>zb2 ze L k_x0 n p0 p1 p2 p10 p19 p20) k_x0
theorem zgC {β:Type} (ze:yr) (L:Nat) (K:KT β):∀ (n:Nat) (p0:List (List V)) (p1 p2 p10 p19 p20:Int),yB (yk zau (zav ze L) 0 L zbV) zcX n (zcm p0 p1 p2 p10 p19 p20) K=zb2 ze L (fun p1 p2 p10=>K (.exit 0) (zfZ p1 p2 p10)) n p0 p1 p2 p10 p19 p20:=by
 intro n
 induction n with
 | zero=>intros; rfl
 | succ n ih =>
  intro p0 p1 p2 p10 p19 p20
  refine (znt ze L p0 p1 p2 p10 p19 p20 (fun σ=>yB (yk zau (zav ze L) 0 L zbV) zcX n σ K) K).trans ?_
  simp only [ih]
  rfl
def zfQ {β:Type} (ze:yr) (L:Nat) (p0:List (List V)) (p1 p2:Int) (k_fin:Int→Int→Int→Option β):Option β :=
 ziF ze L p0 p1 p2 k_fin (fun p0 p1 p2 p10 p19 p20=>zb2 ze L (fun p1 p2 p10=>zd0 ze L p1 p2 p10 k_fin) L p0 p1 p2 p10 p19 p20)
theorem zse {β:Type} (ze:yr) (L:Nat) (p0:List (List V)) (p1 p2:Int) (k:KK β):yt zau (zav ze L) L zbK [(V.sl 1 p0),(V.sc (.int .i64 p1)),(V.sc (.int .i64 p2))] [] k=zfQ ze L p0 p1 p2 (fun zKg zKh zKi=>k (V.tup [(V.sc (.int .u8 zKg)),(V.sc (.int .i64 zKh)),(V.sc (.int .i64 zKi))]) []):=by
 refine (zsl ze L p0 p1 p2 k).trans ?_
 unfold zfQ
 first
  | (simp only [zgC,zlX]; done)
  | (simp only [zgC]; rfl)
abbrev zfK:=∀ (β:Type),Nat→List (List V)→Int→Int→(Int→Int→Int→Option β)→Option β
def xP (β:Type) (L:Nat) (p0:List (List V)) (p1 p2:Int) (k_fin:Int→Int→Int→Option β):Option β:=zfQ ze L p0 p1 p2 k_fin
def zfx (xP:zfK) (L:Nat) (β:Type) (args:List V) (bor:Bor) (k:KK β):Option β:=match args,bor with
 | [a0,a1,a2],[]=>aL 1 a0 fun p0=>aI .i64 a1 fun p1=>aI .i64 a2 fun p2=>xP β L p0 p1 p2 (fun zKg zKh zKi=>k (V.tup [(V.sc (.int .u8 zKg)),(V.sc (.int .i64 zKh)),(V.sc (.int .i64 zKi))]) [])
 | _,_=>none
theorem zsF (L:Nat) (β:Type) (args:List V) (bor:Bor) (k:KK β) (r:β) (h:zfx xP L β args bor k=some r):yt zau (zav ze L) L zbK args bor k=some r:=by
 unfold zfx at h
 split at h
 ·have q:=zM h; clear h; obtain ⟨p0,rfl,h⟩:=q
  have q:=zy h; clear h; obtain ⟨p1,rfl,h⟩:=q
  have q:=zy h; clear h; obtain ⟨p2,rfl,h⟩:=q
  exact (zse ze L p0 p1 p2 k).trans h
 ·cases h
def zm0:CF:=⟨13,[.tmp 4,.tmp 5,.tmp 6],
 (.seq (.reg [oo 4 (.move (.const (.sc (.int .u8 0))) false),
   oo 5 (.move (.const (.sc (.int .i64 0))) false),
   oo 6 (.move (.const (.sc (.int .i64 0))) false)])
 (.seq (.reg [oo 7 (.move (tq 0) false),
   oo 8 (.move (tq 1) false),
   oo 9 (.call 207 [((tq 7),0),((tq 8),0),((.const (.sc (.int .i64 1))),0)] []),
   oo 10 (.pull (tq 9) 0),
   oo 11 (.pull (tq 9) 1),
   oo 12 (.pull (tq 9) 2),
   oo 4 (.move (tq 10) false),
   oo 5 (.move (tq 11) false),
   oo 6 (.move (tq 12) false)])
 .ret))⟩
def ztU:Hint:=⟨[],[],[none],[],[],false,false,[]⟩
def zq6:Nat→Sh:=yP []
def zrO (xP:zfK) (L:Nat):CBC:=(xv 207 (zfx xP L) noC)
def ztq {β:Type} (xP:zfK) (L:Nat) (p0:List (List V)) (p1:Int) (k_fin:Int→Int→Int→Option β):Option β :=
 xP β L p0 p1 (1:Int) (fun v0 v1 v2 =>
 k_fin v0 v1 v2)
theorem zBj {β:Type} (xP:zfK) (L:Nat) (p0:List (List V)) (p1:Int) (k:KK β):yt zq6 (zrO xP L) L zm0 [(V.sl 1 p0),(V.sc (.int .i64 p1))] [] k=ztq xP L p0 p1 (fun zKg zKh zKi=>k (V.tup [(V.sc (.int .u8 zKg)),(V.sc (.int .i64 zKh)),(V.sc (.int .i64 zKi))]) []):=by kernel_rfl
abbrev zoz:=∀ (β:Type),Nat→List (List V)→Int→(Int→Int→Int→Option β)→Option β
def zaQ (β:Type) (L:Nat) (p0:List (List V)) (p1:Int) (k_fin:Int→Int→Int→Option β):Option β:=ztq xP L p0 p1 k_fin
def zoO (zaQ:zoz) (L:Nat) (β:Type) (args:List V) (bor:Bor) (k:KK β):Option β:=match args,bor with
 | [a0,a1],[]=>aL 1 a0 fun p0=>aI .i64 a1 fun p1=>zaQ β L p0 p1 (fun zKg zKh zKi=>k (V.tup [(V.sc (.int .u8 zKg)),(V.sc (.int .i64 zKh)),(V.sc (.int .i64 zKi))]) [])
 | _,_=>none
theorem zAX (L:Nat) (β:Type) (args:List V) (bor:Bor) (k:KK β) (r:β) (h:zoO zaQ L β args bor k=some r):yt zq6 (zrO xP L) L zm0 args bor k=some r:=by
 unfold zoO at h
 split at h
 ·have q:=zM h; clear h; obtain ⟨p0,rfl,h⟩:=q
  have q:=zy h; clear h; obtain ⟨p1,rfl,h⟩:=q
  exact (zBj xP L p0 p1 k).trans h
 ·cases h
def zbA:CC:=(.seq (.reg [oo 21 (.bin .lss (tq 20) (tq 19))])
 (.seq (.cond (tq 21)
 .skip
 (.seq (.mask (bl 1030 40) (bl 1099511625727 40))
 (.exit 0)))
 (.seq (.block 1 (.seq (.reg [oo 22 (.move (tq 20) false),
   oo 11 (.move (tq 22) false)])
 (.reg [oo 23 (.move (tq 10) false),
   oo 24 (.move (tq 0) false),
   oo 25 (.move (tq 1) false),
   oo 26 (.move (tq 11) false),
   oo 27 (.bin .add (tq 25) (tq 26)),
   oo 28 (.indexAddrS 1 (tq 24) (tq 27)),
   oo 29 (.load false 1 (tq 28) false),
   oo 30 (.conv .u16 (tq 29)),
   oo 31 (.move (tq 11) false),
   oo 32 (.bin .mul (.const (.sc (.int .i64 8))) (tq 31)),
   oo 33 (.bin .shl (tq 30) (tq 32)),
   oo 34 (.bin .or (tq 23) (tq 33)),
   oo 10 (.move (tq 34) false)])))
 (.reg [oo 35 (.bin .add (tq 20) (.const (.sc (.int .i64 1)))),
   oo 20 (.move (tq 35) false)]))))
def zfq:CC:=(.seq (.reg [oo 36 (.move (tq 10) false),
   oo 37 (.move (tq 1) false),
   oo 38 (.move (tq 2) false),
   oo 39 (.bin .add (tq 37) (tq 38)),
   oo 6 (.move (tq 36) false),
   oo 7 (.move (tq 39) false),
   oo 8 (.move (.const (.sc (.int .i64 0))) false)])
 .ret)
def zbv:CF:=⟨40,[.tmp 6,.tmp 7,.tmp 8],
 (.seq (.reg [oo 6 (.move (.const (.sc (.int .u16 0))) false),
   oo 7 (.move (.const (.sc (.int .i64 0))) false),
   oo 8 (.move (.const (.sc (.int .i64 0))) false)])
 (.seq (.seq (.reg [oo 12 (.move (tq 0) false),
   oo 13 (.move (tq 1) false),
   oo 14 (.move (tq 2) false),
   oo 15 (.call 198 [((tq 12),0),((tq 13),0),((tq 14),0)] []),
   oo 9 (.move (tq 15) false)])
 (.seq (.reg [oo 16 (.move (tq 9) false),
   oo 17 (.bin .neq (tq 16) (.const (.sc (.int .i64 0))))])
 (.cond (tq 17)
 (.seq (.reg [oo 18 (.move (tq 9) false),
   oo 6 (.move (.const (.sc (.int .u16 0))) false),
   oo 7 (.move (.const (.sc (.int .i64 0))) false),
   oo 8 (.move (tq 18) false)])
 .ret)
 .skip)))
 (.seq (.reg [oo 10 (.move (.const (.sc (.int .u16 0))) false)])
 (.seq (.seq (.reg [oo 19 (.move (tq 2) false),
   oo 20 (.move (.const (.sc (.int .i64 0))) false)])
 (.block 0 (.loop (bl 1573895 40) (bl 1099511625727 40)
 zbA)))
 zfq))))⟩
def zjN:Hint:=⟨[],[],[none,none,none,some ((bl 1573895 40),(bl 1099511625727 40)),none,some ((bl 1030 40),(bl 1099511625727 40)),none,none],[],[],false,false,[]⟩
def zak:Nat→Sh:=yP [(29,(.int .u8))]
def zaj (ze:yr) (L:Nat):CBC:=(xv 198 (zdJ ze L) noC)
def zcG:St→St:=y4 0 (bl 1573895 40) (bl 1099511625727 40)
def zb8 (p0:List (List V)) (p1 p2 p10 p19 p20:Int):St:=⟨((V.sl 1 p0)::((V.sc (.int .i64 p1))::((V.sc (.int .i64 p2))::(jn 7 ((V.sc (.int .u16 p10))::(jn 8 ((V.sc (.int .i64 p19))::((V.sc (.int .i64 p20))::(jn 19 []))))))))),(gn 40 [])⟩
def zfo (p1 p2 p10:Int):St:=⟨(jn 1 ((V.sc (.int .i64 p1))::((V.sc (.int .i64 p2))::(jn 7 ((V.sc (.int .u16 p10))::(jn 29 [])))))),(gn 40 [])⟩
def zhw {β:Type} (ze:yr) (L:Nat) (p0:List (List V)) (p1 p2:Int) (k_fin:Int→Int→Int→Option β) (k_hbbbaba:List (List V)→Int→Int→Int→Int→Int→Option β):Option β :=
 ze β L p0 p1 p2 (fun v0 =>
 ifb ((v0:Int) != (0:Int)) (
 k_fin (0:Int) (0:Int) v0) (
 k_hbbbaba p0 p1 p2 (0:Int) p2 (0:Int)))
theorem zrl {β:Type} (ze:yr) (L:Nat) (p0:List (List V)) (p1 p2:Int) (k:KK β):yt zak (zaj ze L) L zbv [(V.sl 1 p0),(V.sc (.int .i64 p1)),(V.sc (.int .i64 p2))] [] k=zhw ze L p0 p1 p2 (fun zKg zKh zKi=>k (V.tup [(V.sc (.int .u16 zKg)),(V.sc (.int .i64 zKh)),(V.sc (.int .i64 zKi))]) []) (fun p0 p1 p2 p10 p19 p20=>yB (yk zak (zaj ze L) 0 L zbA) zcG L (zb8 p0 p1 p2 p10 p19 p20) (zw 0 (yR (yk zak (zaj ze L) 0 L zfq) (y6 0 (CF.res zbv) k)))):=by kernel_rfl
def zeh {β:Type} (ze:yr) (L:Nat) (p0:List (List V)) (p1 p2 p10 p19 p20:Int) (k_hbbbaba:List (List V)→Int→Int→Int→Int→Int→Option β) (k_x0:Int→Int→Int→Option β):Option β :=
 ifb (decide (p20 < p19)) (
 lt (IntKind.wrap .i64 ((p1:Int)+p20)) fun x1 =>
 idx p0 x1 fun c2 =>
 cI .u8 c2 0 fun v3 =>
 lt (IntKind.wrap .u16 v3) fun x4 =>
 lt (IntKind.wrap .i64 (((8:Int):Int) * p20)) fun x5 =>
 chk (0≤x5) (
 lt (zn6 .u16 x4 x5) fun x6 =>
 lt (ior .u16 p10 x6) fun x7 =>
 lt (IntKind.wrap .i64 ((p20:Int)+(1:Int))) fun x8 =>
 k_hbbbaba p0 p1 p2 x7 p19 x8)) (
 k_x0 p1 p2 p10)
theorem zmf {β:Type} (ze:yr) (L:Nat) (p0:List (List V)) (p1 p2 p10 p19 p20:Int) (X:St→Option β) (K:KT β):yk zak (zaj ze L) 0 L zbA (zb8 p0 p1 p2 p10 p19 p20) (y9 zcG X K)=zeh ze L p0 p1 p2 p10 p19 p20 (fun p0 p1 p2 p10 p19 p20=>X (zb8 p0 p1 p2 p10 p19 p20)) (fun p1 p2 p10=>K (.exit 0) (zfo p1 p2 p10)):=by kernel_rfl
def zdI {β:Type} (ze:yr) (L:Nat) (p1 p2 p10:Int) (k_fin:Int→Int→Int→Option β):Option β :=
 lt (IntKind.wrap .i64 ((p1:Int)+p2)) fun x9 =>
 k_fin p10 x9 (0:Int)
theorem zk0 {β:Type} (ze:yr) (L:Nat) (p1 p2 p10:Int) (k:KK β):(zw 0 (yR (yk zak (zaj ze L) 0 L zfq) (y6 0 (CF.res zbv) k))) (.exit 0) (zfo p1 p2 p10)=zdI ze L p1 p2 p10 (fun zKg zKh zKi=>k (V.tup [(V.sc (.int .u16 zKg)),(V.sc (.int .i64 zKh)),(V.sc (.int .i64 zKi))]) []):=by kernel_rfl
def zbN {β:Type} (ze:yr) (L:Nat) (k_x0:Int→Int→Int→Option β):Nat→List (List V)→Int→Int→Int→Int→Int→Option β
 | 0,_,_,_,_,_,_=>none
 | n+1,p0,p1,p2,p10,p19,p20=>zeh ze L p0 p1 p2 p10 p19 p20 (fun p0 p1 p2 p10 p19 p20=>zbN ze L k_x0 n p0 p1 p2 p10 p19 p20) k_x0
theorem zgv {β:Type} (ze:yr) (L:Nat) (K:KT β):∀ (n:Nat) (p0:List (List V)) (p1 p2 p10 p19 p20:Int),yB (yk zak (zaj ze L) 0 L zbA) zcG n (zb8 p0 p1 p2 p10 p19 p20) K=zbN ze L (fun p1 p2 p10=>K (.exit 0) (zfo p1 p2 p10)) n p0 p1 p2 p10 p19 p20:=by
 intro n
 induction n with
 | zero=>intros; rfl
 | succ n ih =>
  intro p0 p1 p2 p10 p19 p20
  refine (zmf ze L p0 p1 p2 p10 p19 p20 (fun σ=>yB (yk zak (zaj ze L) 0 L zbA) zcG n σ K) K).trans ?_
  simp only [ih]
  rfl
def ze9 {β:Type} (ze:yr) (L:Nat) (p0:List (List V)) (p1 p2:Int) (k_fin:Int→Int→Int→Option β):Option β :=
 zhw ze L p0 p1 p2 k_fin (fun p0 p1 p2 p10 p19 p20=>zbN ze L (fun p1 p2 p10=>zdI ze L p1 p2 p10 k_fin) L p0 p1 p2 p10 p19 p20)
theorem zrB {β:Type} (ze:yr) (L:Nat) (p0:List (List V)) (p1 p2:Int) (k:KK β):yt zak (zaj ze L) L zbv [(V.sl 1 p0),(V.sc (.int .i64 p1)),(V.sc (.int .i64 p2))] [] k=ze9 ze L p0 p1 p2 (fun zKg zKh zKi=>k (V.tup [(V.sc (.int .u16 zKg)),(V.sc (.int .i64 zKh)),(V.sc (.int .i64 zKi))]) []):=by
 refine (zrl ze L p0 p1 p2 k).trans ?_
 unfold ze9
 first
  | (simp only [zgv,zk0]; done)
  | (simp only [zgv]; rfl)
abbrev ze3:=∀ (β:Type),Nat→List (List V)→Int→Int→(Int→Int→Int→Option β)→Option β
def yN (β:Type) (L:Nat) (p0:List (List V)) (p1 p2:Int) (k_fin:Int→Int→Int→Option β):Option β:=ze9 ze L p0 p1 p2 k_fin
def zfg (yN:ze3) (L:Nat) (β:Type) (args:List V) (bor:Bor) (k:KK β):Option β:=match args,bor with
 | [a0,a1,a2],[]=>aL 1 a0 fun p0=>aI .i64 a1 fun p1=>aI .i64 a2 fun p2=>yN β L p0 p1 p2 (fun zKg zKh zKi=>k (V.tup [(V.sc (.int .u16 zKg)),(V.sc (.int .i64 zKh)),(V.sc (.int .i64 zKi))]) [])
 | _,_=>none
theorem zrh (L:Nat) (β:Type) (args:List V) (bor:Bor) (k:KK β) (r:β) (h:zfg yN L β args bor k=some r):yt zak (zaj ze L) L zbv args bor k=some r:=by
 unfold zfg at h
 split at h
 ·have q:=zM h; clear h; obtain ⟨p0,rfl,h⟩:=q
  have q:=zy h; clear h; obtain ⟨p1,rfl,h⟩:=q
  have q:=zy h; clear h; obtain ⟨p2,rfl,h⟩:=q
  exact (zrB ze L p0 p1 p2 k).trans h
 ·cases h
def zkZ:CF:=⟨13,[.tmp 4,.tmp 5,.tmp 6],
 (.seq (.reg [oo 4 (.move (.const (.sc (.int .u16 0))) false),
   oo 5 (.move (.const (.sc (.int .i64 0))) false),
   oo 6 (.move (.const (.sc (.int .i64 0))) false)])
 (.seq (.reg [oo 7 (.move (tq 0) false),
   oo 8 (.move (tq 1) false),
   oo 9 (.call 208 [((tq 7),0),((tq 8),0),((.const (.sc (.int .i64 2))),0)] []),
   oo 10 (.pull (tq 9) 0),
   oo 11 (.pull (tq 9) 1),
   oo 12 (.pull (tq 9) 2),
   oo 4 (.move (tq 10) false),
   oo 5 (.move (tq 11) false),
   oo 6 (.move (tq 12) false)])
 .ret))⟩
def zsE:Hint:=⟨[],[],[none],[],[],false,false,[]⟩
def zpe:Nat→Sh:=yP []
def zpH (yN:ze3) (L:Nat):CBC:=(xv 208 (zfg yN L) noC)
def zrp {β:Type} (yN:ze3) (L:Nat) (p0:List (List V)) (p1:Int) (k_fin:Int→Int→Int→Option β):Option β :=
 yN β L p0 p1 (2:Int) (fun v0 v1 v2 =>
 k_fin v0 v1 v2)
theorem zzm {β:Type} (yN:ze3) (L:Nat) (p0:List (List V)) (p1:Int) (k:KK β):yt zpe (zpH yN L) L zkZ [(V.sl 1 p0),(V.sc (.int .i64 p1))] [] k=zrp yN L p0 p1 (fun zKg zKh zKi=>k (V.tup [(V.sc (.int .u16 zKg)),(V.sc (.int .i64 zKh)),(V.sc (.int .i64 zKi))]) []):=by kernel_rfl
abbrev zm1:=∀ (β:Type),Nat→List (List V)→Int→(Int→Int→Int→Option β)→Option β
def zaH (β:Type) (L:Nat) (p0:List (List V)) (p1:Int) (k_fin:Int→Int→Int→Option β):Option β:=zrp yN L p0 p1 k_fin
def zm9 (zaH:zm1) (L:Nat) (β:Type) (args:List V) (bor:Bor) (k:KK β):Option β:=match args,bor with
 | [a0,a1],[]=>aL 1 a0 fun p0=>aI .i64 a1 fun p1=>zaH β L p0 p1 (fun zKg zKh zKi=>k (V.tup [(V.sc (.int .u16 zKg)),(V.sc (.int .i64 zKh)),(V.sc (.int .i64 zKi))]) [])
 | _,_=>none
theorem zy8 (L:Nat) (β:Type) (args:List V) (bor:Bor) (k:KK β) (r:β) (h:zm9 zaH L β args bor k=some r):yt zpe (zpH yN L) L zkZ args bor k=some r:=by
 unfold zm9 at h
 split at h
 ·have q:=zM h; clear h; obtain ⟨p0,rfl,h⟩:=q
  have q:=zy h; clear h; obtain ⟨p1,rfl,h⟩:=q
  exact (zzm yN L p0 p1 k).trans h
 ·cases h
def zbz:CC:=(.seq (.reg [oo 21 (.bin .lss (tq 20) (tq 19))])
 (.seq (.cond (tq 21)
 .skip
 (.seq (.mask (bl 1030 40) (bl 1099511625727 40))
 (.exit 0)))
 (.seq (.block 1 (.seq (.reg [oo 22 (.move (tq 20) false),
   oo 11 (.move (tq 22) false)])
 (.reg [oo 23 (.move (tq 10) false),
   oo 24 (.move (tq 0) false),
   oo 25 (.move (tq 1) false),
   oo 26 (.move (tq 11) false),
   oo 27 (.bin .add (tq 25) (tq 26)),
   oo 28 (.indexAddrS 1 (tq 24) (tq 27)),
   oo 29 (.load false 1 (tq 28) false),
   oo 30 (.conv .u64 (tq 29)),
   oo 31 (.move (tq 11) false),
   oo 32 (.bin .mul (.const (.sc (.int .i64 8))) (tq 31)),
   oo 33 (.bin .shl (tq 30) (tq 32)),
   oo 34 (.bin .or (tq 23) (tq 33)),
   oo 10 (.move (tq 34) false)])))
 (.reg [oo 35 (.bin .add (tq 20) (.const (.sc (.int .i64 1)))),
   oo 20 (.move (tq 35) false)]))))
def zfv:CC:=(.seq (.reg [oo 36 (.move (tq 10) false),
   oo 37 (.move (tq 1) false),
   oo 38 (.move (tq 2) false),
   oo 39 (.bin .add (tq 37) (tq 38)),
   oo 6 (.move (tq 36) false),
   oo 7 (.move (tq 39) false),
   oo 8 (.move (.const (.sc (.int .i64 0))) false)])
 .ret)
def zbt:CF:=⟨40,[.tmp 6,.tmp 7,.tmp 8],
 (.seq (.reg [oo 6 (.move (.const (.sc (.int .u64 0))) false),
   oo 7 (.move (.const (.sc (.int .i64 0))) false),
   oo 8 (.move (.const (.sc (.int .i64 0))) false)])
 (.seq (.seq (.reg [oo 12 (.move (tq 0) false),
   oo 13 (.move (tq 1) false),
   oo 14 (.move (tq 2) false),
   oo 15 (.call 198 [((tq 12),0),((tq 13),0),((tq 14),0)] []),
   oo 9 (.move (tq 15) false)])
 (.seq (.reg [oo 16 (.move (tq 9) false),
   oo 17 (.bin .neq (tq 16) (.const (.sc (.int .i64 0))))])
 (.cond (tq 17)
 (.seq (.reg [oo 18 (.move (tq 9) false),
   oo 6 (.move (.const (.sc (.int .u64 0))) false),
   oo 7 (.move (.const (.sc (.int .i64 0))) false),
   oo 8 (.move (tq 18) false)])
 .ret)
 .skip)))
 (.seq (.reg [oo 10 (.move (.const (.sc (.int .u64 0))) false)])
 (.seq (.seq (.reg [oo 19 (.move (tq 2) false),
   oo 20 (.move (.const (.sc (.int .i64 0))) false)])
 (.block 0 (.loop (bl 1573895 40) (bl 1099511625727 40)
 zbz)))
 zfv))))⟩
def zjK:Hint:=⟨[],[],[none,none,none,some ((bl 1573895 40),(bl 1099511625727 40)),none,some ((bl 1030 40),(bl 1099511625727 40)),none,none],[],[],false,false,[]⟩
def zae:Nat→Sh:=yP [(29,(.int .u8))]
def zai (ze:yr) (L:Nat):CBC:=(xv 198 (zdJ ze L) noC)
def zcF:St→St:=y4 0 (bl 1573895 40) (bl 1099511625727 40)
def zb7 (p0:List (List V)) (p1 p2 p10 p19 p20:Int):St:=⟨((V.sl 1 p0)::((V.sc (.int .i64 p1))::((V.sc (.int .i64 p2))::(jn 7 ((V.sc (.int .u64 p10))::(jn 8 ((V.sc (.int .i64 p19))::((V.sc (.int .i64 p20))::(jn 19 []))))))))),(gn 40 [])⟩
def zfr (p1 p2 p10:Int):St:=⟨(jn 1 ((V.sc (.int .i64 p1))::((V.sc (.int .i64 p2))::(jn 7 ((V.sc (.int .u64 p10))::(jn 29 [])))))),(gn 40 [])⟩
def zhC {β:Type} (ze:yr) (L:Nat) (p0:List (List V)) (p1 p2:Int) (k_fin:Int→Int→Int→Option β) (k_hbbbaba:List (List V)→Int→Int→Int→Int→Int→Option β):Option β :=
 ze β L p0 p1 p2 (fun v0 =>
 ifb ((v0:Int) != (0:Int)) (
 k_fin (0:Int) (0:Int) v0) (
 k_hbbbaba p0 p1 p2 (0:Int) p2 (0:Int)))
theorem zrF {β:Type} (ze:yr) (L:Nat) (p0:List (List V)) (p1 p2:Int) (k:KK β):yt zae (zai ze L) L zbt [(V.sl 1 p0),(V.sc (.int .i64 p1)),(V.sc (.int .i64 p2))] [] k=zhC ze L p0 p1 p2 (fun zKg zKh zKi=>k (V.tup [(V.sc (.int .u64 zKg)),(V.sc (.int .i64 zKh)),(V.sc (.int .i64 zKi))]) []) (fun p0 p1 p2 p10 p19 p20=>yB (yk zae (zai ze L) 0 L zbz) zcF L (zb7 p0 p1 p2 p10 p19 p20) (zw 0 (yR (yk zae (zai ze L) 0 L zfv) (y6 0 (CF.res zbt) k)))):=by kernel_rfl
def zen {β:Type} (ze:yr) (L:Nat) (p0:List (List V)) (p1 p2 p10 p19 p20:Int) (k_hbbbaba:List (List V)→Int→Int→Int→Int→Int→Option β) (k_x0:Int→Int→Int→Option β):Option β :=
 ifb (decide (p20 < p19)) (
 lt (IntKind.wrap .i64 ((p1:Int)+p20)) fun x1 =>
 idx p0 x1 fun c2 =>
 cI .u8 c2 0 fun v3 =>
 lt (IntKind.wrap .u64 v3) fun x4 =>
 lt (IntKind.wrap .i64 (((8:Int):Int) * p20)) fun x5 =>
 chk (0≤x5) (
 lt (zn6 .u64 x4 x5) fun x6 =>
 lt (ior .u64 p10 x6) fun x7 =>
 lt (IntKind.wrap .i64 ((p20:Int)+(1:Int))) fun x8 =>
 k_hbbbaba p0 p1 p2 x7 p19 x8)) (
 k_x0 p1 p2 p10)
theorem zmj {β:Type} (ze:yr) (L:Nat) (p0:List (List V)) (p1 p2 p10 p19 p20:Int) (X:St→Option β) (K:KT β):yk zae (zai ze L) 0 L zbz (zb7 p0 p1 p2 p10 p19 p20) (y9 zcF X K)=zen ze L p0 p1 p2 p10 p19 p20 (fun p0 p1 p2 p10 p19 p20=>X (zb7 p0 p1 p2 p10 p19 p20)) (fun p1 p2 p10=>K (.exit 0) (zfr p1 p2 p10)):=by kernel_rfl
def zdD {β:Type} (ze:yr) (L:Nat) (p1 p2 p10:Int) (k_fin:Int→Int→Int→Option β):Option β :=
 lt (IntKind.wrap .i64 ((p1:Int)+p2)) fun x9 =>
 k_fin p10 x9 (0:Int)
theorem zlk {β:Type} (ze:yr) (L:Nat) (p1 p2 p10:Int) (k:KK β):(zw 0 (yR (yk zae (zai ze L) 0 L zfv) (y6 0 (CF.res zbt) k))) (.exit 0) (zfr p1 p2 p10)=zdD ze L p1 p2 p10 (fun zKg zKh zKi=>k (V.tup [(V.sc (.int .u64 zKg)),(V.sc (.int .i64 zKh)),(V.sc (.int .i64 zKi))]) []):=by kernel_rfl
def zbP {β:Type} (ze:yr) (L:Nat) (k_x0:Int→Int→Int→Option β):Nat→List (List V)→Int→Int→Int→Int→Int→Option β
 | 0,_,_,_,_,_,_=>none
 | n+1,p0,p1,p2,p10,p19,p20=>zen ze L p0 p1 p2 p10 p19 p20 (fun p0 p1 p2 p10 p19 p20=>zbP ze L k_x0 n p0 p1 p2 p10 p19 p20) k_x0
theorem zgz {β:Type} (ze:yr) (L:Nat) (K:KT β):∀ (n:Nat) (p0:List (List V)) (p1 p2 p10 p19 p20:Int),yB (yk zae (zai ze L) 0 L zbz) zcF n (zb7 p0 p1 p2 p10 p19 p20) K=zbP ze L (fun p1 p2 p10=>K (.exit 0) (zfr p1 p2 p10)) n p0 p1 p2 p10 p19 p20:=by
 intro n
 induction n with
 | zero=>intros; rfl
 | succ n ih =>
  intro p0 p1 p2 p10 p19 p20
  refine (zmj ze L p0 p1 p2 p10 p19 p20 (fun σ=>yB (yk zae (zai ze L) 0 L zbz) zcF n σ K) K).trans ?_
  simp only [ih]
  rfl
def zeT {β:Type} (ze:yr) (L:Nat) (p0:List (List V)) (p1 p2:Int) (k_fin:Int→Int→Int→Option β):Option β :=
 zhC ze L p0 p1 p2 k_fin (fun p0 p1 p2 p10 p19 p20=>zbP ze L (fun p1 p2 p10=>zdD ze L p1 p2 p10 k_fin) L p0 p1 p2 p10 p19 p20)
theorem zq9 {β:Type} (ze:yr) (L:Nat) (p0:List (List V)) (p1 p2:Int) (k:KK β):yt zae (zai ze L) L zbt [(V.sl 1 p0),(V.sc (.int .i64 p1)),(V.sc (.int .i64 p2))] [] k=zeT ze L p0 p1 p2 (fun zKg zKh zKi=>k (V.tup [(V.sc (.int .u64 zKg)),(V.sc (.int .i64 zKh)),(V.sc (.int .i64 zKi))]) []):=by
 refine (zrF ze L p0 p1 p2 k).trans ?_
 unfold zeT
 first
  | (simp only [zgz,zlk]; done)
  | (simp only [zgz]; rfl)
abbrev zeV:=∀ (β:Type),Nat→List (List V)→Int→Int→(Int→Int→Int→Option β)→Option β
def xN (β:Type) (L:Nat) (p0:List (List V)) (p1 p2:Int) (k_fin:Int→Int→Int→Option β):Option β:=zeT ze L p0 p1 p2 k_fin
def zeZ (xN:zeV) (L:Nat) (β:Type) (args:List V) (bor:Bor) (k:KK β):Option β:=match args,bor with
 | [a0,a1,a2],[]=>aL 1 a0 fun p0=>aI .i64 a1 fun p1=>aI .i64 a2 fun p2=>xN β L p0 p1 p2 (fun zKg zKh zKi=>k (V.tup [(V.sc (.int .u64 zKg)),(V.sc (.int .i64 zKh)),(V.sc (.int .i64 zKi))]) [])
 | _,_=>none
theorem zq0 (L:Nat) (β:Type) (args:List V) (bor:Bor) (k:KK β) (r:β) (h:zeZ xN L β args bor k=some r):yt zae (zai ze L) L zbt args bor k=some r:=by
 unfold zeZ at h
 split at h
 ·have q:=zM h; clear h; obtain ⟨p0,rfl,h⟩:=q
  have q:=zy h; clear h; obtain ⟨p1,rfl,h⟩:=q
  have q:=zy h; clear h; obtain ⟨p2,rfl,h⟩:=q
  exact (zq9 ze L p0 p1 p2 k).trans h
 ·cases h
def zlJ:CF:=⟨13,[.tmp 4,.tmp 5,.tmp 6],
 (.seq (.reg [oo 4 (.move (.const (.sc (.int .u64 0))) false),
   oo 5 (.move (.const (.sc (.int .i64 0))) false),
   oo 6 (.move (.const (.sc (.int .i64 0))) false)])
 (.seq (.reg [oo 7 (.move (tq 0) false),
   oo 8 (.move (tq 1) false),
   oo 9 (.call 199 [((tq 7),0),((tq 8),0),((.const (.sc (.int .i64 8))),0)] []),
   oo 10 (.pull (tq 9) 0),
   oo 11 (.pull (tq 9) 1),
   oo 12 (.pull (tq 9) 2),
   oo 4 (.move (tq 10) false),
   oo 5 (.move (tq 11) false),
   oo 6 (.move (tq 12) false)])
 .ret))⟩
def zr1:Hint:=⟨[],[],[none],[],[],false,false,[]⟩
def zp8:Nat→Sh:=yP []
def zpO (xN:zeV) (L:Nat):CBC:=(xv 199 (zeZ xN L) noC)
def zrr {β:Type} (xN:zeV) (L:Nat) (p0:List (List V)) (p1:Int) (k_fin:Int→Int→Int→Option β):Option β :=
 xN β L p0 p1 (8:Int) (fun v0 v1 v2 =>
 k_fin v0 v1 v2)
theorem zzC {β:Type} (xN:zeV) (L:Nat) (p0:List (List V)) (p1:Int) (k:KK β):yt zp8 (zpO xN L) L zlJ [(V.sl 1 p0),(V.sc (.int .i64 p1))] [] k=zrr xN L p0 p1 (fun zKg zKh zKi=>k (V.tup [(V.sc (.int .u64 zKg)),(V.sc (.int .i64 zKh)),(V.sc (.int .i64 zKi))]) []):=by kernel_rfl
abbrev zf5:=∀ (β:Type),Nat→List (List V)→Int→(Int→Int→Int→Option β)→Option β
def zP (β:Type) (L:Nat) (p0:List (List V)) (p1:Int) (k_fin:Int→Int→Int→Option β):Option β:=zrr xN L p0 p1 k_fin
def zjD (zP:zf5) (L:Nat) (β:Type) (args:List V) (bor:Bor) (k:KK β):Option β:=match args,bor with
 | [a0,a1],[]=>aL 1 a0 fun p0=>aI .i64 a1 fun p1=>zP β L p0 p1 (fun zKg zKh zKi=>k (V.tup [(V.sc (.int .u64 zKg)),(V.sc (.int .i64 zKh)),(V.sc (.int .i64 zKi))]) [])
 | _,_=>none
theorem zzP (L:Nat) (β:Type) (args:List V) (bor:Bor) (k:KK β) (r:β) (h:zjD zP L β args bor k=some r):yt zp8 (zpO xN L) L zlJ args bor k=some r:=by
 unfold zjD at h
 split at h
 ·have q:=zM h; clear h; obtain ⟨p0,rfl,h⟩:=q
  have q:=zy h; clear h; obtain ⟨p1,rfl,h⟩:=q
  exact (zzC xN L p0 p1 k).trans h
 ·cases h
end
end Go.Proofs.Ytoeobffjdbdpgaa
