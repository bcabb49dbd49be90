/- Part 10 of the proof of AddrbookMoves: an abstract machine over plain values, its soundness, and the functions of the program on plain values. -/
import Derived.Test.YtbimgceighecgaaRows
import Derived.Test.YtbimgceighecgaaMAddrbookMoves9
namespace Go.Proofs.Ytbimgceighecgaa
set_option linter.unusedVariables false
set_option linter.unusedSimpArgs false
open List renaming length->XI,take->XK,drop->XL,flatten->XM,replicate->We
open Int renaming toNat->XJ,tmod->XP
open IntKind renaming wrap->QF
open Option renaming getD->XO
section
set_option maxRecDepth 100000
def zgB:CC:=(.seq (.reg [Qp 9 .lss (tq 8) (tq 7)]) (.seq (.cond (tq 9) .skip (.seq (.mask (bl 8 22) (bl 4194255 22)) (.exit 0))) (.seq (.block 1 (.seq (.reg [Qh 10 (tq 8),Qo 11 1 (tq 6) (tq 8),Qj 12 1 (tq 11),Qh 4 (tq 10),Qh 5 (tq 12)]) (.reg [Qh 13 (tq 3),Qh 14 (tq 5),Qu 15 .u64 (tq 14),Qh 16 (tq 4),Qp 17 .mul (Qf 8) (tq 16),Qp 18 .shl (tq 15) (tq 17),Qp 19 .or (tq 13) (tq 18),Qh 3 (tq 19)]))) (.reg [Qp 20 .add (tq 8) (Qf 1),Qh 8 (tq 20)]))))
def zri:CC:=(.seq (.reg [Qh 21 (tq 3),Qh 2 (tq 21)]) .ret)
def zhS:CF:=⟨22,[.tmp 2],(.seq (.reg [oo 2 (.move (.const (.sc (.int .u64 0))) false)]) (.seq (.reg [oo 3 (.move (.const (.sc (.int .u64 0))) false)]) (.seq (.seq (.reg [Qh 6 (tq 0),Qr 7 (tq 6),Qh 8 (Qf 0)]) (.block 0 (.loop (bl 456 22) (bl 4194255 22) zgB))) zri)))⟩
def zwg:Hint:=⟨[],[],[none,some ((bl 456 22),(bl 4194255 22)),none,some ((bl 8 22),(bl 4194255 22)),none,none],[],[],false,false,[]⟩
def zd3:Nat→Sh:=yT [(12,(.int .u8))]
def zd2(L:Nat):CBC:=noC
def zkB:St→St:=zbd 0 (bl 456 22) (bl 4194255 22)
def zhu(z:Int)(A:List (List V))(C D:Int):St:=⟨(jn 3 ((Qd z)::(jn 2 ((V.sl 1 A)::((Qe C)::((Qe D)::(jn 13 []))))))),(gn 22 [])⟩
def zp8(z:Int):St:=⟨(jn 3 ((Qd z)::(jn 18 []))),(gn 22 [])⟩
def zvZ{β:Type}(L:Nat)(A:List (List V))(z:Int→List (List V)→Int→Int→Option β):Option β:=z (0:Int) A ((XI A:Nat):Int) (0:Int)
theorem zDw{β:Type}(L:Nat)(z:List (List V))(k:KK β):yl zd3 (zd2 L) L zhS [(V.sl 1 z)] [] k=zvZ L z (fun A C D E=>xE (xi zd3 (zd2 L) 0 L zgB) zkB L (zhu A C D E) (zF 0 (zQ (xi zd3 (zd2 L) 0 L zri) (xW 0 (CF.res zhS) k)))):=by kernel_rfl
def zoi{β:Type}(L:Nat)(D:Int)(E:List (List V))(F A:Int)(z:Int→List (List V)→Int→Int→Option β)(C:Int→Option β):Option β:=ifb (decide (A<F)) (idx E A fun c0=>cI .u8 c0 0 fun I=>lt (QF .u64 I) fun J=>lt (QF .i64 (((8:Int):Int)*A)) fun G=>chk (0≤G) (lt (zuk .u64 J G) fun M=>lt (ior .u64 D M) fun N=>lt (QF .i64 ((A:Int)+(1:Int))) fun O=>z N E F O)) (C D)
theorem zx8{β:Type}(L:Nat)(z:Int)(A:List (List V))(C D:Int)(X:St→Option β)(K:KT β):xi zd3 (zd2 L) 0 L zgB (zhu z A C D) (zcz zkB X K)=zoi L z A C D (fun z A C D=>X (zhu z A C D)) (fun z=>K (.exit 0) (zp8 z)):=by kernel_rfl
def zrt{β:Type}(L:Nat)(A:Int)(z:Int→Option β):Option β:=z A
theorem zvG{β:Type}(L:Nat)(z:Int)(k:KK β):(zF 0 (zQ (xi zd3 (zd2 L) 0 L zri) (xW 0 (CF.res zhS) k))) (.exit 0) (zp8 z)=zrt L z (fun A=>k (Qd A) []):=by kernel_rfl
def zhr{β:Type}(L:Nat)(z:Int→Option β):Nat→Int→List (List V)→Int→Int→Option β
 | 0,_,_,_,_=>none
 | n+1,A,C,D,E=>zoi L A C D E (fun A C D E=>zhr L z n A C D E) z
theorem zqG{β:Type}(L:Nat)(K:KT β):∀ (n:Nat) (z:Int) (A:List (List V)) (C D:Int),xE (xi zd3 (zd2 L) 0 L zgB) zkB n (zhu z A C D) K=zhr L (fun z=>K (.exit 0) (zp8 z)) n z A C D:=by
 intro n
 induction n with
 | zero=>intros; rfl
 | succ n ih=>
  intro z A C D
  refine (zx8 L z A C D (fun σ=>xE (xi zd3 (zd2 L) 0 L zgB) zkB n σ K) K).trans ?_
  simp only [ih]
  rfl
def zrQ{β:Type}(L:Nat)(C:List (List V))(z:Int→Option β):Option β:=zvZ L C (fun A D E F=>zhr L (fun A=>zrt L A z) L A D E F)
theorem zDe{β:Type}(L:Nat)(z:List (List V))(k:KK β):yl zd3 (zd2 L) L zhS [(V.sl 1 z)] [] k=zrQ L z (fun z=>k (Qd z) []):=by
 refine (zDw L z k).trans ?_
 unfold zrQ
 first
  | (simp only [zqG,zvG]; done)
  | (simp only [zqG]; rfl)
abbrev zcr:=∀ (β:Type),Nat→List (List V)→(Int→Option β)→Option β
def xu(β:Type)(L:Nat)(A:List (List V))(z:Int→Option β):Option β:=zrQ L A z
def zol(xu:zcr)(L:Nat)(β:Type)(args:List V)(bor:Bor)(k:KK β):Option β:=match args,bor with
 | [a0],[]=>aL 1 a0 fun z=>xu β L z (fun z=>k (Qd z) [])
 | _,_=>none
theorem zDg(L:Nat)(β:Type)(args:List V)(bor:Bor)(k:KK β)(r:β)(h:zol xu L β args bor k=some r):yl zd3 (zd2 L) L zhS args bor k=some r:=by
 unfold zol at h
 split at h
 ·have q:=zaF h; clear h; obtain ⟨z,rfl,h⟩:=q
  exact (zDe L z k).trans h
 ·cases h
def zrG:CF:=⟨8,[.cell 2 true 2],(.seq (.reg [Qv 1 (tq 0),oo 2 (.alloc true [(.sc (.int .u64 0)),(.sc (.int .u64 0))])]) (.seq (.dreg [1] [(oo 3 (.sliceA 32 1 (tq 1) none (some (Qf 8)) none),q1),(Qs 4 112 [(Qw 3)],q1),(oo 5 (.sliceA 32 1 (tq 1) (some (Qf 8)) (some (Qf 16)) none),q1),(Qs 6 112 [(Qw 5)],q0),(oo 7 (.build [(.sc (.int .u64 0)),(.sc (.int .u64 0))] [(0,1,(tq 4)),(1,1,(tq 6))]),q0),(Qm 2 (tq 2) (tq 7),q0)]) .ret))⟩
def zwU:Hint:=⟨[],[],[none],[(1,[1])],[],false,false,[]⟩
def zvs:Nat→Sh:=yT []
def zvt(xu:zcr)(L:Nat):CBC:=(xy 112 (zol xu L) noC)
def zxJ{β:Type}(xu:zcr)(L:Nat)(C:List V)(z:List V→Option β):Option β:=lc C (none) (fun h0 A=>chk (0+32*1≤(XI (h0::A))) (xu β L (ye 1 8 (h0::A)) (fun D=>chk (0+32*1≤(XI (h0::A))) (xu β L (ye 1 8 (XL 8 (h0::A))) (fun E=>lt [(Qd D),(Qd E)] fun r4=>chk (0=0∧(XI r4)=2∧2≠0) (z r4))))))
theorem zDJ{β:Type}(xu:zcr)(L:Nat)(z:List V)(k:KK β):yl zvs (zvt xu L) L zrG [(V.agg z)] [] k=zxJ xu L z (fun z=>k (V.agg z) []):=by kernel_rfl
abbrev zkU:=∀ (β:Type),Nat→List V→(List V→Option β)→Option β
def zae(β:Type)(L:Nat)(A:List V)(z:List V→Option β):Option β:=zxJ xu L A z
def zqL(zae:zkU)(L:Nat)(β:Type)(args:List V)(bor:Bor)(k:KK β):Option β:=match args,bor with
 | [a0],[]=>aG a0 fun z=>zae β L z (fun z=>k (V.agg z) [])
 | _,_=>none
theorem zD2(L:Nat)(β:Type)(args:List V)(bor:Bor)(k:KK β)(r:β)(h:zqL zae L β args bor k=some r):yl zvs (zvt xu L) L zrG args bor k=some r:=by
 unfold zqL at h
 split at h
 ·have q:=xM h; clear h; obtain ⟨z,rfl,h⟩:=q
  exact (zDJ xu L z k).trans h
 ·cases h
def zid:CF:=⟨6,[.tmp 2],(.seq (.reg [Qv 1 (tq 0),oo 2 (.move (.const (.sc (.int .u32 0))) false)]) (.seq (.reg [Ql 3 0 (tq 1),Qj 4 1 (tq 3),oo 5 (.bin .shr (tq 4) (.const (.sc (.int .u64 16)))),Qh 2 (tq 5)]) .ret))⟩
def zpz:Hint:=⟨[],[],[none],[],[],false,false,[]⟩
def zms:Nat→Sh:=yT [(4,(.int .u32))]
def zmd(L:Nat):CBC:=noC
def zm9{β:Type}(L:Nat)(A:List V)(z:Int→Option β):Option β:=cI .u32 A 0 fun C=>lt (zpT .u32 C (16:Int)) fun D=>z D
theorem zwO{β:Type}(L:Nat)(z:List V)(k:KK β):yl zms (zmd L) L zid [(V.agg z)] [] k=zm9 L z (fun z=>k (Qc z) []):=by kernel_rfl
abbrev zaz:=∀ (β:Type),Nat→List V→(Int→Option β)→Option β
def zj(β:Type)(L:Nat)(A:List V)(z:Int→Option β):Option β:=zm9 L A z
def zdM(zj:zaz)(L:Nat)(β:Type)(args:List V)(bor:Bor)(k:KK β):Option β:=match args,bor with
 | [a0],[]=>aG a0 fun z=>zj β L z (fun z=>k (Qc z) [])
 | _,_=>none
theorem zww(L:Nat)(β:Type)(args:List V)(bor:Bor)(k:KK β)(r:β)(h:zdM zj L β args bor k=some r):yl zms (zmd L) L zid args bor k=some r:=by
 unfold zdM at h
 split at h
 ·have q:=xM h; clear h; obtain ⟨z,rfl,h⟩:=q
  exact (zwO L z k).trans h
 ·cases h
def zek:CC:=(.seq (.reg [Qp 11 .lss (tq 10) (tq 9)]) (.seq (.cond (tq 11) .skip (.seq (.mask (bl 32 23) (bl 8388543 23)) (.exit 0))) (.seq (.block 1 (.seq (.reg [Qh 12 (tq 10),Qh 6 (tq 12)]) (.reg [Qh 13 (tq 5),Qh 14 (tq 6),Qh 15 (tq 0),Qh 16 (tq 6),Qp 17 .mul (Qf 8) (tq 16),Qp 18 .shr (tq 15) (tq 17),Qu 19 .u8 (tq 18),Qo 20 1 (tq 13) (tq 14),Qm 1 (tq 20) (tq 19)]))) (.reg [Qp 21 .add (tq 10) (Qf 1),Qh 10 (tq 21)]))))
def zl7:CC:=(.seq (.reg [Qi 22 (tq 5),Qi 4 (tq 22)]) .ret)
def zd4:CF:=⟨23,[.tmp 4],(.seq (.reg [Qi 4 (.const (.gs 1 []))]) (.seq (.reg [Qh 7 (tq 1),⟨(some 8),true,none,.makeSlice 1 1 [(.sc (.int .u8 0))] (tq 7) (tq 7)⟩,Qi 5 (tq 8)]) (.seq (.seq (.reg [Qh 9 (tq 1),Qh 10 (Qf 0)]) (.block 0 (.loop (bl 1569 23) (bl 8388543 23) zek))) zl7)))⟩
def zrA:Hint:=⟨[(0,0),(1,2),(7,0),(7,1)],[(1,1)],[none,some ((bl 1569 23),(bl 8388543 23)),none,some ((bl 32 23),(bl 8388543 23)),none,none],[],[],false,false,[]⟩
def zcb:Nat→Sh:=yT []
def zcg(L:Nat):CBC:=noC
def zgN:St→St:=zbd 0 (bl 1569 23) (bl 8388543 23)
def zeX(C:Int)(z:Nat)(D A:Int)(E:List V):St:=⟨((Qd C)::(jn 4 ((V.own 8 0 z 1)::(jn 3 ((Qe D)::((Qe A)::(jn 12 []))))))),(gn 8 ((.live true E)::(gn 14 [])))⟩
def zlg(z:Nat)(A:List V):St:=⟨(jn 5 ((V.own 8 0 z 1)::(jn 17 []))),(gn 8 ((.live true A)::(gn 14 [])))⟩
def zu0{β:Type}(L:Nat)(C z:Int)(A:Int→Nat→Int→Int→List V→Option β):Option β:=chk (0≤z∧z≤z∧(XJ z)*1≤yr∧z≤yr) (A C (XJ z) z (0:Int) (XM (We (XJ z) [(Qa (0:Int))])))
theorem zyI{β:Type}(L:Nat)(z A:Int)(k:KK β):yl zcb (zcg L) L zd4 [(Qd z),(Qe A)] [] k=zu0 L z A (fun z C E D F=>xE (xi zcb (zcg L) 0 L zek) zgN L (zeX z C E D F) (zF 0 (zQ (xi zcb (zcg L) 0 L zl7) (xW 0 (CF.res zd4) k)))):=by kernel_rfl
def zpq{β:Type}(L:Nat)(F:Int)(C:Nat)(G z:Int)(D:List V)(A:Int→Nat→Int→Int→List V→Option β)(E:Nat→List V→Option β):Option β:=ifb (decide (z<G)) (lt (QF .i64 (((8:Int):Int)*z)) fun I=>chk (0≤I) (lt (zpT .u64 F I) fun J=>lt (QF .u8 J) fun M=>chk (0≤z∧z<((C:Nat):Int)) (chk (1=1∧(0+((XJ z)*1))+1≤(XI D)) (lt (xd D (0+((XJ z)*1)) [(Qa M)]) fun r3=>lt (QF .i64 ((z:Int)+(1:Int))) fun N=>A F C G N r3)))) (E C D)
theorem zub{β:Type}(L:Nat)(D:Int)(z:Nat)(E A:Int)(C:List V)(X:St→Option β)(K:KT β):xi zcb (zcg L) 0 L zek (zeX D z E A C) (zcz zgN X K)=zpq L D z E A C (fun D z E A C=>X (zeX D z E A C)) (fun z C=>K (.exit 0) (zlg z C)):=by kernel_rfl
def znz{β:Type}(L:Nat)(A:Nat)(C:List V)(z:List (List V)→Option β):Option β:=chk (A≠0∨(XI C)=0) (z (ye 1 A C))
theorem zsu{β:Type}(L:Nat)(z:Nat)(A:List V)(k:KK β):(zF 0 (zQ (xi zcb (zcg L) 0 L zl7) (xW 0 (CF.res zd4) k))) (.exit 0) (zlg z A)=znz L z A (fun C=>k (V.fr 1 C) []):=by kernel_rfl
def zkb{β:Type}(L:Nat)(z:Nat→List V→Option β):Nat→Int→Nat→Int→Int→List V→Option β
 | 0,_,_,_,_,_=>none
 | n+1,D,A,E,C,F=>zpq L D A E C F (fun D A E C F=>zkb L z n D A E C F) z
theorem zmC{β:Type}(L:Nat)(K:KT β):∀ (n:Nat) (D:Int) (z:Nat) (E A:Int) (C:List V),xE (xi zcb (zcg L) 0 L zek) zgN n (zeX D z E A C) K=zkb L (fun z C=>K (.exit 0) (zlg z C)) n D z E A C:=by
 intro n
 induction n with
 | zero=>intros; rfl
 | succ n ih=>
  intro D z E A C
  refine (zub L D z E A C (fun σ=>xE (xi zcb (zcg L) 0 L zek) zgN n σ K) K).trans ?_
  simp only [ih]
  rfl
def zp1{β:Type}(L:Nat)(C F:Int)(A:List (List V)→Option β):Option β:=zu0 L C F (fun C z G E D=>zkb L (fun z D=>znz L z D A) L C z G E D)
theorem zyu{β:Type}(L:Nat)(z A:Int)(k:KK β):yl zcb (zcg L) L zd4 [(Qd z),(Qe A)] [] k=zp1 L z A (fun z=>k (V.fr 1 z) []):=by
 refine (zyI L z A k).trans ?_
 unfold zp1
 first
  | (simp only [zmC,zsu]; done)
  | (simp only [zmC]; rfl)
abbrev zeK:=∀ (β:Type),Nat→Int→Int→(List (List V)→Option β)→Option β
def xI(β:Type)(L:Nat)(A C:Int)(z:List (List V)→Option β):Option β:=zp1 L A C z
def ziN(xI:zeK)(L:Nat)(β:Type)(args:List V)(bor:Bor)(k:KK β):Option β:=match args,bor with
 | [a0,a1],[]=>aI .u64 a0 fun z=>aI .i64 a1 fun A=>xI β L z A (fun z=>k (V.fr 1 z) [])
 | _,_=>none
theorem zyF(L:Nat)(β:Type)(args:List V)(bor:Bor)(k:KK β)(r:β)(h:ziN xI L β args bor k=some r):yl zcb (zcg L) L zd4 args bor k=some r:=by
 unfold ziN at h
 split at h
 ·have q:=yo h; clear h; obtain ⟨z,rfl,h⟩:=q
  have q:=yo h; clear h; obtain ⟨A,rfl,h⟩:=q
  exact (zyu L z A k).trans h
 ·cases h
def zko:CF:=⟨18,[.tmp 4],(.seq (.reg [Qi 4 (.const (.gs 1 []))]) (.seq (.reg [Qh 6 (tq 0),Qr 7 (tq 6),Qh 8 (tq 1),Qr 9 (tq 8),Qp 10 .add (tq 7) (tq 9),oo 11 (.makeSlice 1 1 [(.sc (.int .u8 0))] (Qf 0) (tq 10)),Qi 5 (tq 11)]) (.seq (.reg [Qi 12 (tq 5),Qh 13 (tq 0),oo 14 (.append 1 1 (tq 12) (tq 13)),Qi 5 (tq 14)]) (.seq (.reg [Qi 15 (tq 5),Qh 16 (tq 1),oo 17 (.append 1 1 (tq 15) (tq 16)),Qi 4 (tq 17)]) .ret))))⟩
def zru:Hint:=⟨[(0,0),(1,6),(2,0),(2,3),(3,0),(3,3)],[],[none],[],[],false,false,[]⟩
def zn6:Nat→Sh:=yT []
def zom(L:Nat):CBC:=noC
def zpZ{β:Type}(L:Nat)(z A:List (List V))(C:List (List V)→Option β):Option β:=lt (QF .i64 ((((XI z:Nat):Int):Int)+((XI A:Nat):Int))) fun D=>chk (0≤(0:Int)∧(0:Int)≤D∧(XJ D)*1≤yr∧D≤yr) (chk ((XI (We 0 [(Qa (0:Int))])+XI z)*1≤yr∧XI (We 0 [(Qa (0:Int))])+XI z≤yr) (lt ((We 0 [(Qa (0:Int))])++z) fun E=>chk ((XI E+XI A)*1≤yr∧XI E+XI A≤yr) (lt (E++A) fun F=>C F)))
theorem zyG{β:Type}(L:Nat)(z A:List (List V))(k:KK β):yl zn6 (zom L) L zko [(V.sl 1 z),(V.sl 1 A)] [] k=zpZ L z A (fun z=>k (V.gs 1 z) []):=by kernel_rfl
abbrev zeM:=∀ (β:Type),Nat→List (List V)→List (List V)→(List (List V)→Option β)→Option β
def xH(β:Type)(L:Nat)(A C:List (List V))(z:List (List V)→Option β):Option β:=zpZ L A C z
def zis(xH:zeM)(L:Nat)(β:Type)(args:List V)(bor:Bor)(k:KK β):Option β:=match args,bor with
 | [a0,a1],[]=>aL 1 a0 fun z=>aL 1 a1 fun A=>xH β L z A (fun z=>k (V.gs 1 z) [])
 | _,_=>none
theorem zyX(L:Nat)(β:Type)(args:List V)(bor:Bor)(k:KK β)(r:β)(h:zis xH L β args bor k=some r):yl zn6 (zom L) L zko args bor k=some r:=by
 unfold zis at h
 split at h
 ·have q:=zaF h; clear h; obtain ⟨z,rfl,h⟩:=q
  have q:=zaF h; clear h; obtain ⟨A,rfl,h⟩:=q
  exact (zyG L z A k).trans h
 ·cases h
def zhg:CF:=⟨10,[.tmp 4],(.seq (.reg [Qi 4 (.const (.gs 1 []))]) (.seq (.reg [Qh 5 (tq 0),Qh 6 (tq 1),Qu 7 .u64 (tq 6),Qs 8 192 [(Qw 7),((Qf 4),0)],Qs 9 191 [(Qw 5),(Qw 8)],Qi 4 (tq 9)]) .ret))⟩
def zpd:Hint:=⟨[(0,0),(1,5)],[],[none],[],[],false,false,[]⟩
def zk3:Nat→Sh:=yT []
def zlr(xI:zeK)(xH:zeM)(L:Nat):CBC:=(xy 191 (zis xH L) (xy 192 (ziN xI L) noC))
def zmn{β:Type}(xI:zeK)(xH:zeM)(L:Nat)(A:List (List V))(C:Int)(z:List (List V)→Option β):Option β:=lt (QF .u64 C) fun D=>xI β L D (4:Int) (fun E=>xH β L A E (fun F=>z F))
theorem zvX{β:Type}(xI:zeK)(xH:zeM)(L:Nat)(z:List (List V))(A:Int)(k:KK β):yl zk3 (zlr xI xH L) L zhg [(V.sl 1 z),(Qc A)] [] k=zmn xI xH L z A (fun z=>k (V.gs 1 z) []):=by kernel_rfl
abbrev zdo:=∀ (β:Type),Nat→List (List V)→Int→(List (List V)→Option β)→Option β
def zw(β:Type)(L:Nat)(A:List (List V))(C:Int)(z:List (List V)→Option β):Option β:=zmn xI xH L A C z
def zfM(zw:zdo)(L:Nat)(β:Type)(args:List V)(bor:Bor)(k:KK β):Option β:=match args,bor with
 | [a0,a1],[]=>aL 1 a0 fun z=>aI .u32 a1 fun A=>zw β L z A (fun z=>k (V.gs 1 z) [])
 | _,_=>none
theorem zvS(L:Nat)(β:Type)(args:List V)(bor:Bor)(k:KK β)(r:β)(h:zfM zw L β args bor k=some r):yl zk3 (zlr xI xH L) L zhg args bor k=some r:=by
 unfold zfM at h
 split at h
 ·have q:=zaF h; clear h; obtain ⟨z,rfl,h⟩:=q
  have q:=yo h; clear h; obtain ⟨A,rfl,h⟩:=q
  exact (zvX xI xH L z A k).trans h
 ·cases h
def zdX:CF:=⟨17,[.tmp 4],(.seq (.reg [oo 4 (.move (.const (.sc (.int .u64 0))) false)]) (.seq (.reg [Qh 6 (tq 1),Qu 7 .u64 (tq 6),oo 8 (.bin .and (tq 7) (.const (.sc (.int .u64 63)))),Qh 5 (tq 8)]) (.seq (.reg [Qh 9 (tq 0),Qh 10 (tq 5),Qp 11 .shl (tq 9) (tq 10),Qh 12 (tq 0),Qh 13 (tq 5),oo 14 (.bin .sub (.const (.sc (.int .u64 64))) (tq 13)),Qp 15 .shr (tq 12) (tq 14),Qp 16 .or (tq 11) (tq 15),Qh 4 (tq 16)]) .ret)))⟩
def ziW:Hint:=⟨[],[],[none],[],[],false,false,[]⟩
def zf1:Nat→Sh:=yT []
def zf4(L:Nat):CBC:=noC
def zly{β:Type}(L:Nat)(C E:Int)(z:Int→Option β):Option β:=lt (QF .u64 E) fun F=>lt (zHY .u64 F (63:Int)) fun A=>chk (0≤A) (lt (zuk .u64 C A) fun G=>lt (QF .u64 (((64:Int):Int)-A)) fun D=>chk (0≤D) (lt (zpT .u64 C D) fun I=>lt (ior .u64 G I) fun J=>z J))
theorem zqy{β:Type}(L:Nat)(z A:Int)(k:KK β):yl zf1 (zf4 L) L zdX [(Qd z),(Qe A)] [] k=zly L z A (fun z=>k (Qd z) []):=by kernel_rfl
abbrev zL:=∀ (β:Type),Nat→Int→Int→(Int→Option β)→Option β
def zc(β:Type)(L:Nat)(A C:Int)(z:Int→Option β):Option β:=zly L A C z
def zcV(zc:zL)(L:Nat)(β:Type)(args:List V)(bor:Bor)(k:KK β):Option β:=match args,bor with
 | [a0,a1],[]=>aI .u64 a0 fun z=>aI .i64 a1 fun A=>zc β L z A (fun z=>k (Qd z) [])
 | _,_=>none
theorem zqz(L:Nat)(β:Type)(args:List V)(bor:Bor)(k:KK β)(r:β)(h:zcV zc L β args bor k=some r):yl zf1 (zf4 L) L zdX args bor k=some r:=by
 unfold zcV at h
 split at h
 ·have q:=yo h; clear h; obtain ⟨z,rfl,h⟩:=q
  have q:=yo h; clear h; obtain ⟨A,rfl,h⟩:=q
  exact (zqy L z A k).trans h
 ·cases h
def zfN:CC:=(.seq (.reg [Qp 7 .lss (tq 6) (tq 5)]) (.seq (.cond (tq 7) .skip (.seq (.mask (bl 20 82) (bl 4533176671146011638300671 82)) (.exit 0))) (.seq (.block 1 (.seq (.reg [Qn 8 4 1 (tq 2) (Qf 0),Qj 9 1 (tq 8),Qn 10 4 1 (tq 2) (Qf 1),Qj 11 1 (tq 10),Qp 12 .add (tq 9) (tq 11),Qn 13 4 1 (tq 2) (Qf 0),Qm 1 (tq 13) (tq 12)]) (.seq (.reg [Qn 14 4 1 (tq 2) (Qf 1),Qj 15 1 (tq 14),Qs 16 118 [(Qw 15),((Qf 13),0)],Qn 17 4 1 (tq 2) (Qf 1),Qm 1 (tq 17) (tq 16)]) (.seq (.reg [Qn 18 4 1 (tq 2) (Qf 1),Qj 19 1 (tq 18),Qn 20 4 1 (tq 2) (Qf 0),Qj 21 1 (tq 20),Qp 22 .xor (tq 19) (tq 21),Qn 23 4 1 (tq 2) (Qf 1),Qm 1 (tq 23) (tq 22)]) (.seq (.reg [Qn 24 4 1 (tq 2) (Qf 0),Qj 25 1 (tq 24),Qs 26 118 [(Qw 25),((Qf 32),0)],Qn 27 4 1 (tq 2) (Qf 0),Qm 1 (tq 27) (tq 26)]) (.seq (.reg [Qn 28 4 1 (tq 2) (Qf 2),Qj 29 1 (tq 28),Qn 30 4 1 (tq 2) (Qf 3),Qj 31 1 (tq 30),Qp 32 .add (tq 29) (tq 31),Qn 33 4 1 (tq 2) (Qf 2),Qm 1 (tq 33) (tq 32)]) (.seq (.reg [Qn 34 4 1 (tq 2) (Qf 3),Qj 35 1 (tq 34),Qs 36 118 [(Qw 35),((Qf 16),0)],Qn 37 4 1 (tq 2) (Qf 3),Qm 1 (tq 37) (tq 36)]) (.seq (.reg [Qn 38 4 1 (tq 2) (Qf 3),Qj 39 1 (tq 38),Qn 40 4 1 (tq 2) (Qf 2),Qj 41 1 (tq 40),Qp 42 .xor (tq 39) (tq 41),Qn 43 4 1 (tq 2) (Qf 3),Qm 1 (tq 43) (tq 42)]) (.seq (.reg [Qn 44 4 1 (tq 2) (Qf 0),Qj 45 1 (tq 44),Qn 46 4 1 (tq 2) (Qf 3),Qj 47 1 (tq 46),Qp 48 .add (tq 45) (tq 47),Qn 49 4 1 (tq 2) (Qf 0),Qm 1 (tq 49) (tq 48)]) (.seq (.reg [Qn 50 4 1 (tq 2) (Qf 3),Qj 51 1 (tq 50),Qs 52 118 [(Qw 51),((Qf 21),0)],Qn 53 4 1 (tq 2) (Qf 3),Qm 1 (tq 53) (tq 52)]) (.seq (.reg [Qn 54 4 1 (tq 2) (Qf 3),Qj 55 1 (tq 54),Qn 56 4 1 (tq 2) (Qf 0),Qj 57 1 (tq 56),Qp 58 .xor (tq 55) (tq 57),Qn 59 4 1 (tq 2) (Qf 3),Qm 1 (tq 59) (tq 58)]) (.seq (.reg [Qn 60 4 1 (tq 2) (Qf 2),Qj 61 1 (tq 60),Qn 62 4 1 (tq 2) (Qf 1),Qj 63 1 (tq 62),Qp 64 .add (tq 61) (tq 63),Qn 65 4 1 (tq 2) (Qf 2),Qm 1 (tq 65) (tq 64)]) (.seq (.reg [Qn 66 4 1 (tq 2) (Qf 1),Qj 67 1 (tq 66),Qs 68 118 [(Qw 67),((Qf 17),0)],Qn 69 4 1 (tq 2) (Qf 1),Qm 1 (tq 69) (tq 68)]) (.seq (.reg [Qn 70 4 1 (tq 2) (Qf 1),Qj 71 1 (tq 70),Qn 72 4 1 (tq 2) (Qf 2),Qj 73 1 (tq 72),Qp 74 .xor (tq 71) (tq 73),Qn 75 4 1 (tq 2) (Qf 1),Qm 1 (tq 75) (tq 74)]) (.reg [Qn 76 4 1 (tq 2) (Qf 2),Qj 77 1 (tq 76),Qs 78 118 [(Qw 77),((Qf 32),0)],Qn 79 4 1 (tq 2) (Qf 2),Qm 1 (tq 79) (tq 78)]))))))))))))))) (.reg [Qp 80 .add (tq 6) (Qf 1),Qh 6 (tq 80)]))))
def zpF:CC:=(.seq (.reg [Qk 81 4 (tq 2),Qm 4 (tq 4) (tq 81)]) .ret)
def zfx:CF:=⟨82,[.cell 4 true 4],(.seq (.reg [Qv 2 (tq 0),oo 4 (.alloc true [(.sc (.int .u64 0)),(.sc (.int .u64 0)),(.sc (.int .u64 0)),(.sc (.int .u64 0))])]) (.seq (.seq (.reg [Qh 5 (tq 1),Qh 6 (Qf 0)]) (.block 0 (.loop (bl 116 82) (bl 4533176671146011638300671 82) zfN))) zpF))⟩
def ztl:Hint:=⟨[],[],[none,some ((bl 116 82),(bl 4533176671146011638300671 82)),none,some ((bl 20 82),(bl 4533176671146011638300671 82)),none,none],[],[],false,false,[]⟩
def zc6:Nat→Sh:=yT [(9,(.int .u64)),(11,(.int .u64)),(15,(.int .u64)),(19,(.int .u64)),(21,(.int .u64)),(25,(.int .u64)),(29,(.int .u64)),(31,(.int .u64)),(35,(.int .u64)),(39,(.int .u64)),(41,(.int .u64)),(45,(.int .u64)),(47,(.int .u64)),(51,(.int .u64)),(55,(.int .u64)),(57,(.int .u64)),(61,(.int .u64)),(63,(.int .u64)),(67,(.int .u64)),(71,(.int .u64)),(73,(.int .u64)),(77,(.int .u64))]
def zc5(zc:zL)(L:Nat):CBC:=(xy 118 (zcV zc L) noC)
def zi5:St→St:=zbd 0 (bl 116 82) (bl 4533176671146011638300671 82)
def zgR(E F:Int)(G:List V)(z A C D:Int):St:=⟨(jn 2 ((V.ptr 2 0)::(jn 1 ((V.ptr 4 0)::((Qe E)::((Qe F)::(jn 75 []))))))),(gn 2 ((.live true G)::(gn 1 ((.live true [(Qd z),(Qd A),(Qd C),(Qd D)])::(gn 77 [])))))⟩
def znd(E:List V)(z A C D:Int):St:=⟨(jn 2 ((V.ptr 2 0)::(jn 1 ((V.ptr 4 0)::(jn 77 []))))),(gn 2 ((.live true E)::(gn 1 ((.live true [(Qd z),(Qd A),(Qd C),(Qd D)])::(gn 77 [])))))⟩
def zsE{β:Type}(zc:zL)(L:Nat)(A:List V)(C:Int)(z:Int→Int→List V→Int→Int→Int→Int→Option β):Option β:=z C (0:Int) A (0:Int) (0:Int) (0:Int) (0:Int)
theorem zAb{β:Type}(zc:zL)(L:Nat)(E:List V)(F:Int)(k:KK β):yl zc6 (zc5 zc L) L zfx [(V.agg E),(Qe F)] [] k=zsE zc L E F (fun G I J z A C D=>xE (xi zc6 (zc5 zc L) 0 L zfN) zi5 L (zgR G I J z A C D) (zF 0 (zQ (xi zc6 (zc5 zc L) 0 L zpF) (xW 0 (CF.res zfx) k)))):=by kernel_rfl
def zgs{β:Type}(zc:zL)(L:Nat)(W X:Int)(I:List V)(J M N O:Int)(G:Int→Int→List V→Int→Int→Int→Int→Option β)(U:List V→Int→Int→Int→Int→Option β):Option β:=ifb (decide (X<W)) (cI .u64 I 0 fun v0=>cI .u64 I 1 fun v1=>lt (QF .u64 ((v0:Int)+v1)) fun x2=>chk (1=1∧0+1≤(XI I)) (lt (xd I 0 [(Qd x2)]) fun r3=>cI .u64 r3 1 fun v4=>zc β L v4 (13:Int) (fun v5=>chk (1=1∧1+1≤(XI r3)) (lt (xd r3 1 [(Qd v5)]) fun r6=>cI .u64 r6 1 fun v7=>cI .u64 r6 0 fun v8=>lt (zbs .u64 v7 v8) fun x9=>chk (1=1∧1+1≤(XI r6)) (lt (xd r6 1 [(Qd x9)]) fun r10=>cI .u64 r10 0 fun Y=>zc β L Y (32:Int) (fun Z=>chk (1=1∧0+1≤(XI r10)) (lt (xd r10 0 [(Qd Z)]) fun z=>cI .u64 z 2 fun aa=>cI .u64 z 3 fun ab=>lt (QF .u64 ((aa:Int)+ab)) fun ac=>chk (1=1∧2+1≤(XI z)) (lt (xd z 2 [(Qd ac)]) fun P=>cI .u64 P 3 fun ad=>zc β L ad (16:Int) (fun ae=>chk (1=1∧3+1≤(XI P)) (lt (xd P 3 [(Qd ae)]) fun A=>cI .u64 A 3 fun af=>cI .u64 A 2 fun ag=>lt (zbs .u64 af ag) fun ah=>chk (1=1∧3+1≤(XI A)) (lt (xd A 3 [(Qd ah)]) fun C=>cI .u64 C 0 fun ai=>cI .u64 C 3 fun aj=>lt (QF .u64 ((ai:Int)+aj)) fun ak=>chk (1=1∧0+1≤(XI C)) (lt (xd C 0 [(Qd ak)]) fun Q=>cI .u64 Q 3 fun al=>zc β L al (21:Int) (fun am=>chk (1=1∧3+1≤(XI Q)) (lt (xd Q 3 [(Qd am)]) fun D=>cI .u64 D 3 fun an=>cI .u64 D 0 fun ao=>lt (zbs .u64 an ao) fun ap=>chk (1=1∧3+1≤(XI D)) (lt (xd D 3 [(Qd ap)]) fun E=>cI .u64 E 2 fun aq=>cI .u64 E 1 fun ar=>lt (QF .u64 ((aq:Int)+ar)) fun au=>chk (1=1∧2+1≤(XI E)) (lt (xd E 2 [(Qd au)]) fun R=>cI .u64 R 1 fun av=>zc β L av (17:Int) (fun aw=>chk (1=1∧1+1≤(XI R)) (lt (xd R 1 [(Qd aw)]) fun F=>cI .u64 F 1 fun ax=>cI .u64 F 2 fun ay=>lt (zbs .u64 ax ay) fun az=>chk (1=1∧1+1≤(XI F)) (lt (xd F 1 [(Qd az)]) fun S=>cI .u64 S 2 fun aC=>zc β L aC (32:Int) (fun aD=>chk (1=1∧2+1≤(XI S)) (lt (xd S 2 [(Qd aD)]) fun aE=>lt (QF .i64 ((X:Int)+(1:Int))) fun aH=>G W aH aE J M N O))))))))))))))))))))) (U I J M N O)
theorem zwL{β:Type}(zc:zL)(L:Nat)(F G:Int)(E:List V)(z A C D:Int)(X:St→Option β)(K:KT β):xi zc6 (zc5 zc L) 0 L zfN (zgR F G E z A C D) (zcz zi5 X K)=zgs zc L F G E z A C D (fun F G E z A C D=>X (zgR F G E z A C D)) (fun E z A C D=>K (.exit 0) (znd E z A C D)):=by kernel_rfl
def zlh{β:Type}(zc:zL)(L:Nat)(C:List V)(D E F G:Int)(z:List V→Option β):Option β:=chk (0+4≤(XI C)) (chk ((XI (XK 4 C))=4∧0+4≤4) (lt (xd [(Qd D),(Qd E),(Qd F),(Qd G)] 0 (XK 4 C)) fun A=>chk (0=0∧(XI A)=4∧4≠0) (z A)))
theorem zut{β:Type}(zc:zL)(L:Nat)(E:List V)(z A C D:Int)(k:KK β):(zF 0 (zQ (xi zc6 (zc5 zc L) 0 L zpF) (xW 0 (CF.res zfx) k))) (.exit 0) (znd E z A C D)=zlh zc L E z A C D (fun F=>k (V.agg F) []):=by kernel_rfl
def zgj{β:Type}(zc:zL)(L:Nat)(E:List V→Int→Int→Int→Int→Option β):Nat→Int→Int→List V→Int→Int→Int→Int→Option β
 | 0,_,_,_,_,_,_,_=>none
 | n+1,F,G,I,z,A,C,D=>zgs zc L F G I z A C D (fun F G I z A C D=>zgj zc L E n F G I z A C D) E
theorem zpm{β:Type}(zc:zL)(L:Nat)(K:KT β):∀ (n:Nat) (F G:Int) (E:List V) (z A C D:Int),xE (xi zc6 (zc5 zc L) 0 L zfN) zi5 n (zgR F G E z A C D) K=zgj zc L (fun E z A C D=>K (.exit 0) (znd E z A C D)) n F G E z A C D:=by
 intro n
 induction n with
 | zero=>intros; rfl
 | succ n ih=>
  intro F G E z A C D
  refine (zwL zc L F G E z A C D (fun σ=>xE (xi zc6 (zc5 zc L) 0 L zfN) zi5 n σ K) K).trans ?_
  simp only [ih]
  rfl
def zo7{β:Type}(zc:zL)(L:Nat)(G:List V)(I:Int)(E:List V→Option β):Option β:=zsE zc L G I (fun J M F z A C D=>zgj zc L (fun F z A C D=>zlh zc L F z A C D E) L J M F z A C D)
theorem zBu{β:Type}(zc:zL)(L:Nat)(z:List V)(A:Int)(k:KK β):yl zc6 (zc5 zc L) L zfx [(V.agg z),(Qe A)] [] k=zo7 zc L z A (fun z=>k (V.agg z) []):=by
 refine (zAb zc L z A k).trans ?_
 unfold zo7
 first
  | (simp only [zpm,zut]; done)
  | (simp only [zpm]; rfl)
abbrev zbl:=∀ (β:Type),Nat→List V→Int→(List V→Option β)→Option β
def zo(β:Type)(L:Nat)(A:List V)(C:Int)(z:List V→Option β):Option β:=zo7 zc L A C z
def zkR(zo:zbl)(L:Nat)(β:Type)(args:List V)(bor:Bor)(k:KK β):Option β:=match args,bor with
 | [a0,a1],[]=>aG a0 fun z=>aI .i64 a1 fun A=>zo β L z A (fun z=>k (V.agg z) [])
 | _,_=>none
theorem zAq(L:Nat)(β:Type)(args:List V)(bor:Bor)(k:KK β)(r:β)(h:zkR zo L β args bor k=some r):yl zc6 (zc5 zc L) L zfx args bor k=some r:=by
 unfold zkR at h
 split at h
 ·have q:=xM h; clear h; obtain ⟨z,rfl,h⟩:=q
  have q:=yo h; clear h; obtain ⟨A,rfl,h⟩:=q
  exact (zBu zc L z A k).trans h
 ·cases h
def zmU:CF:=⟨18,[.cell 4 true 4],(.seq (.reg [Qv 2 (tq 0),oo 4 (.alloc true [(.sc (.int .u64 0)),(.sc (.int .u64 0)),(.sc (.int .u64 0)),(.sc (.int .u64 0))])]) (.seq (.reg [Qn 5 4 1 (tq 2) (Qf 3),Qj 6 1 (tq 5),Qh 7 (tq 1),Qp 8 .xor (tq 6) (tq 7),Qn 9 4 1 (tq 2) (Qf 3),Qm 1 (tq 9) (tq 8)]) (.seq (.reg [Qk 10 4 (tq 2),Qs 11 113 [(Qw 10),((Qf 2),0)],Qm 4 (tq 2) (tq 11)]) (.seq (.reg [Qn 12 4 1 (tq 2) (Qf 0),Qj 13 1 (tq 12),Qh 14 (tq 1),Qp 15 .xor (tq 13) (tq 14),Qn 16 4 1 (tq 2) (Qf 0),Qm 1 (tq 16) (tq 15)]) (.seq (.reg [Qk 17 4 (tq 2),Qm 4 (tq 4) (tq 17)]) .ret)))))⟩
def ztr:Hint:=⟨[],[],[none],[],[],false,false,[]⟩
def zq5:Nat→Sh:=yT [(6,(.int .u64)),(13,(.int .u64))]
def zrn(zo:zbl)(L:Nat):CBC:=(xy 113 (zkR zo L) noC)
def zsz{β:Type}(zo:zbl)(L:Nat)(A:List V)(C:Int)(z:List V→Option β):Option β:=cI .u64 A 3 fun E=>lt (zbs .u64 E C) fun F=>chk (1=1∧3+1≤(XI A)) (lt (xd A 3 [(Qd F)]) fun r2=>chk (0+4≤(XI r2)) (zo β L (XK 4 r2) (2:Int) (fun D=>chk ((XI D)=4∧0+4≤(XI r2)) (lt (xd r2 0 D) fun r4=>cI .u64 r4 0 fun G=>lt (zbs .u64 G C) fun I=>chk (1=1∧0+1≤(XI r4)) (lt (xd r4 0 [(Qd I)]) fun r7=>chk (0+4≤(XI r7)) (chk ((XI (XK 4 r7))=4∧0+4≤4) (lt (xd [(Qd (0:Int)),(Qd (0:Int)),(Qd (0:Int)),(Qd (0:Int))] 0 (XK 4 r7)) fun r8=>chk (0=0∧(XI r8)=4∧4≠0) (z r8))))))))
theorem zAG{β:Type}(zo:zbl)(L:Nat)(z:List V)(A:Int)(k:KK β):yl zq5 (zrn zo L) L zmU [(V.agg z),(Qd A)] [] k=zsz zo L z A (fun z=>k (V.agg z) []):=by kernel_rfl
abbrev zcs:=∀ (β:Type),Nat→List V→Int→(List V→Option β)→Option β
def yx(β:Type)(L:Nat)(A:List V)(C:Int)(z:List V→Option β):Option β:=zsz zo L A C z
def znZ(yx:zcs)(L:Nat)(β:Type)(args:List V)(bor:Bor)(k:KK β):Option β:=match args,bor with
 | [a0,a1],[]=>aG a0 fun z=>aI .u64 a1 fun A=>yx β L z A (fun z=>k (V.agg z) [])
 | _,_=>none
theorem zz4(L:Nat)(β:Type)(args:List V)(bor:Bor)(k:KK β)(r:β)(h:znZ yx L β args bor k=some r):yl zq5 (zrn zo L) L zmU args bor k=some r:=by
 unfold znZ at h
 split at h
 ·have q:=xM h; clear h; obtain ⟨z,rfl,h⟩:=q
  have q:=yo h; clear h; obtain ⟨A,rfl,h⟩:=q
  exact (zAG zo L z A k).trans h
 ·cases h
def zgA:CC:=(.seq (.reg [Qp 26 .lss (tq 25) (tq 24)]) (.seq (.cond (tq 26) .skip (.seq (.mask (bl 98 69) (bl 590295810152547221371 69)) (.exit 0))) (.seq (.block 1 (.seq (.reg [Qh 27 (tq 25),Qh 7 (tq 27)]) (.dreg [] [(Qk 28 4 (tq 5),ql 5 [] []),(Qh 29 (tq 1),q0),(Qh 30 (tq 7),q0),(Qp 31 .mul (Qf 8) (tq 30),q0),(Qh 32 (tq 7),q0),(Qp 33 .mul (Qf 8) (tq 32),q0),(Qp 34 .add (tq 33) (Qf 8),q0),(oo 35 (.sliceS 1 (tq 29) (some (tq 31)) (some (tq 34)) none),q0),(Qs 36 112 [(Qw 35)],qc [5] []),(Qs 37 111 [(Qw 28),(Qw 36)],q0),(Qm 4 (tq 5) (tq 37),q0)]))) (.reg [Qp 38 .add (tq 25) (Qf 1),Qh 25 (tq 38)]))))
def zq8:CC:=(.seq (.dreg [] [(Qk 39 4 (tq 5),ql 5 [] []),(Qh 40 (tq 1),q0),(Qh 41 (tq 6),q0),(Qp 42 .mul (Qf 8) (tq 41),q0),(oo 43 (.sliceS 1 (tq 40) (some (tq 42)) none none),q0),(Qs 44 112 [(Qw 43)],qc [5] []),(Qh 45 (tq 1),q0),(Qr 46 (tq 45),q0),(Qp 47 .rem (tq 46) (Qf 256),q0),(Qu 48 .u64 (tq 47),q0),(oo 49 (.bin .shl (tq 48) (.const (.sc (.int .u64 56)))),q0),(Qp 50 .or (tq 44) (tq 49),q0),(Qs 51 111 [(Qw 39),(Qw 50)],q0),(Qm 4 (tq 5) (tq 51),q0)]) (.seq (.reg [Qn 52 4 1 (tq 5) (Qf 2),Qj 53 1 (tq 52),oo 54 (.bin .xor (tq 53) (.const (.sc (.int .u64 255)))),Qn 55 4 1 (tq 5) (Qf 2),Qm 1 (tq 55) (tq 54)]) (.seq (.reg [Qk 56 4 (tq 5),Qs 57 113 [(Qw 56),((Qf 4),0)],Qm 4 (tq 5) (tq 57)]) (.seq (.reg [Qn 58 4 1 (tq 5) (Qf 0),Qj 59 1 (tq 58),Qn 60 4 1 (tq 5) (Qf 1),Qj 61 1 (tq 60),Qp 62 .xor (tq 59) (tq 61),Qn 63 4 1 (tq 5) (Qf 2),Qj 64 1 (tq 63),Qp 65 .xor (tq 62) (tq 64),Qn 66 4 1 (tq 5) (Qf 3),Qj 67 1 (tq 66),Qp 68 .xor (tq 65) (tq 67),Qh 4 (tq 68)]) .ret))))
def zjr:CF:=⟨69,[.tmp 4],(.seq (.reg [Qv 2 (tq 0),oo 4 (.move (.const (.sc (.int .u64 0))) false)]) (.seq (.reg [Qn 8 2 1 (tq 2) (Qf 0),Qj 9 1 (tq 8),oo 10 (.bin .xor (tq 9) (.const (.sc (.int .u64 8317987319222330741)))),Qn 11 2 1 (tq 2) (Qf 1),Qj 12 1 (tq 11),oo 13 (.bin .xor (tq 12) (.const (.sc (.int .u64 7237128888997146477)))),Qn 14 2 1 (tq 2) (Qf 0),Qj 15 1 (tq 14),oo 16 (.bin .xor (tq 15) (.const (.sc (.int .u64 7816392313619706465)))),Qn 17 2 1 (tq 2) (Qf 1),Qj 18 1 (tq 17),oo 19 (.bin .xor (tq 18) (.const (.sc (.int .u64 8387220255154660723)))),oo 20 (.build [(.sc (.int .u64 0)),(.sc (.int .u64 0)),(.sc (.int .u64 0)),(.sc (.int .u64 0))] [(0,1,(tq 10)),(1,1,(tq 13)),(2,1,(tq 16)),(3,1,(tq 19))]),oo 5 (.alloc true [(.sc (.int .u64 0)),(.sc (.int .u64 0)),(.sc (.int .u64 0)),(.sc (.int .u64 0))]),Qm 4 (tq 5) (tq 20)]) (.seq (.reg [Qh 21 (tq 1),Qr 22 (tq 21),Qp 23 .quo (tq 22) (Qf 8),Qh 6 (tq 23)]) (.seq (.seq (.reg [Qh 24 (tq 6),Qh 25 (Qf 0)]) (.block 0 (.loop (bl 50331746 69) (bl 590295810152547221371 69) zgA))) zq8))))⟩
def zw4:Hint:=⟨[],[],[none,some ((bl 50331746 69),(bl 590295810152547221371 69)),none,some ((bl 98 69),(bl 590295810152547221371 69)),none,none],[],[],false,false,[]⟩
def ze0:Nat→Sh:=yT [(9,(.int .u64)),(12,(.int .u64)),(15,(.int .u64)),(18,(.int .u64)),(53,(.int .u64)),(59,(.int .u64)),(61,(.int .u64)),(64,(.int .u64)),(67,(.int .u64))]
def zeY(xu:zcr)(yx:zcs)(zo:zbl)(L:Nat):CBC:=(xy 113 (zkR zo L) (xy 111 (znZ yx L) (xy 112 (zol xu L) noC)))
def zkm:St→St:=zbd 0 (bl 50331746 69) (bl 590295810152547221371 69)
def zhw(C:List (List V))(D z A:Int)(E:List V):St:=⟨(jn 1 ((V.sl 1 C)::(jn 3 ((V.ptr 5 0)::((Qe D)::(jn 17 ((Qe z)::((Qe A)::(jn 43 []))))))))),(gn 5 ((.live true E)::(gn 63 [])))⟩
def zqZ(z:List (List V))(A:Int)(C:List V):St:=⟨(jn 1 ((V.sl 1 z)::(jn 3 ((V.ptr 5 0)::((Qe A)::(jn 62 [])))))),(gn 5 ((.live true C)::(gn 63 [])))⟩
def zw5{β:Type}(xu:zcr)(yx:zcs)(zo:zbl)(L:Nat)(A:List V)(C:List (List V))(z:List (List V)→Int→Int→Int→List V→Option β):Option β:=cI .u64 A 0 fun E=>lt (zbs .u64 E (8317987319222330741:Int)) fun F=>cI .u64 A 1 fun G=>lt (zbs .u64 G (7237128888997146477:Int)) fun I=>cI .u64 A 0 fun J=>lt (zbs .u64 J (7816392313619706465:Int)) fun M=>cI .u64 A 1 fun N=>lt (zbs .u64 N (8387220255154660723:Int)) fun O=>lt [(Qd F),(Qd I),(Qd M),(Qd O)] fun r8=>lt (QF .i64 (Int.tdiv ((XI C:Nat):Int) (8:Int))) fun D=>z C D D (0:Int) r8
theorem zDZ{β:Type}(xu:zcr)(yx:zcs)(zo:zbl)(L:Nat)(A:List V)(z:List (List V))(k:KK β):yl ze0 (zeY xu yx zo L) L zjr [(V.agg A),(V.sl 1 z)] [] k=zw5 xu yx zo L A z (fun z E C D F=>xE (xi ze0 (zeY xu yx zo L) 0 L zgA) zkm L (zhw z E C D F) (zF 0 (zQ (xi ze0 (zeY xu yx zo L) 0 L zq8) (xW 0 (CF.res zjr) k)))):=by kernel_rfl
def zoF{β:Type}(xu:zcr)(yx:zcs)(zo:zbl)(L:Nat)(F:List (List V))(M G A:Int)(E:List V)(z:List (List V)→Int→Int→Int→List V→Option β)(J:List (List V)→Int→List V→Option β):Option β:=ifb (decide (A<G)) (chk (0+4≤(XI E)) (lt (QF .i64 (((8:Int):Int)*A)) fun C=>lt (QF .i64 (((8:Int):Int)*A)) fun N=>lt (QF .i64 ((N:Int)+(8:Int))) fun D=>chk (0≤D∧D≤(((XI F):Nat):Int)) (chk (0≤C∧C≤(((XJ D):Nat):Int)) (xu β L (XK ((XJ D)-(XJ C)) (XL (XJ C) F)) (fun O=>yx β L (XK 4 E) O (fun I=>chk ((XI I)=4∧0+4≤(XI E)) (lt (xd E 0 I) fun P=>lt (QF .i64 ((A:Int)+(1:Int))) fun Q=>z F M G Q P))))))) (J F M E)
theorem zxR{β:Type}(xu:zcr)(yx:zcs)(zo:zbl)(L:Nat)(C:List (List V))(D z A:Int)(E:List V)(X:St→Option β)(K:KT β):xi ze0 (zeY xu yx zo L) 0 L zgA (zhw C D z A E) (zcz zkm X K)=zoF xu yx zo L C D z A E (fun C D z A E=>X (zhw C D z A E)) (fun C D E=>K (.exit 0) (zqZ C D E)):=by kernel_rfl
def zh9{β:Type}(xu:zcr)(yx:zcs)(zo:zbl)(L:Nat)(E:List (List V))(p6:Int)(F:List V)(G:Int→Option β):Option β:=chk (0+4≤(XI F)) (lt (QF .i64 (((8:Int):Int)*p6)) fun z=>chk (0≤z∧z≤(((XI E):Nat):Int)) (xu β L (XK ((XI E)-(XJ z)) (XL (XJ z) E)) (fun M=>lt (XP ((XI E:Nat):Int) (256:Int)) fun N=>lt (QF .u64 N) fun O=>lt (zuk .u64 O (56:Int)) fun P=>lt (ior .u64 M P) fun Q=>yx β L (XK 4 F) Q (fun I=>chk ((XI I)=4∧0+4≤(XI F)) (lt (xd F 0 I) fun D=>cI .u64 D 2 fun R=>lt (zbs .u64 R (255:Int)) fun S=>chk (1=1∧2+1≤(XI D)) (lt (xd D 2 [(Qd S)]) fun A=>chk (0+4≤(XI A)) (zo β L (XK 4 A) (4:Int) (fun J=>chk ((XI J)=4∧0+4≤(XI A)) (lt (xd A 0 J) fun C=>cI .u64 C 0 fun U=>cI .u64 C 1 fun W=>lt (zbs .u64 U W) fun X=>cI .u64 C 2 fun Y=>lt (zbs .u64 X Y) fun Z=>cI .u64 C 3 fun aa=>lt (zbs .u64 Z aa) fun ab=>G ab)))))))))
theorem zvn{β:Type}(xu:zcr)(yx:zcs)(zo:zbl)(L:Nat)(z:List (List V))(A:Int)(C:List V)(k:KK β):(zF 0 (zQ (xi ze0 (zeY xu yx zo L) 0 L zq8) (xW 0 (CF.res zjr) k))) (.exit 0) (zqZ z A C)=zh9 xu yx zo L z A C (fun D=>k (Qd D) []):=by kernel_rfl
def zhv{β:Type}(xu:zcr)(yx:zcs)(zo:zbl)(L:Nat)(z:List (List V)→Int→List V→Option β):Nat→List (List V)→Int→Int→Int→List V→Option β
 | 0,_,_,_,_,_=>none
 | n+1,D,E,A,C,F=>zoF xu yx zo L D E A C F (fun D E A C F=>zhv xu yx zo L z n D E A C F) z
theorem zqR{β:Type}(xu:zcr)(yx:zcs)(zo:zbl)(L:Nat)(K:KT β):∀ (n:Nat) (C:List (List V)) (D z A:Int) (E:List V),xE (xi ze0 (zeY xu yx zo L) 0 L zgA) zkm n (zhw C D z A E) K=zhv xu yx zo L (fun C D E=>K (.exit 0) (zqZ C D E)) n C D z A E:=by
 intro n
 induction n with
 | zero=>intros; rfl
 | succ n ih=>
  intro C D z A E
  refine (zxR xu yx zo L C D z A E (fun σ=>xE (xi ze0 (zeY xu yx zo L) 0 L zgA) zkm n σ K) K).trans ?_
  simp only [ih]
  rfl
def ztm{β:Type}(xu:zcr)(yx:zcs)(zo:zbl)(L:Nat)(G:List V)(z:List (List V))(A:Int→Option β):Option β:=zw5 xu yx zo L G z (fun z C E F D=>zhv xu yx zo L (fun z C D=>zh9 xu yx zo L z C D A) L z C E F D)
theorem zEP{β:Type}(xu:zcr)(yx:zcs)(zo:zbl)(L:Nat)(z:List V)(A:List (List V))(k:KK β):yl ze0 (zeY xu yx zo L) L zjr [(V.agg z),(V.sl 1 A)] [] k=ztm xu yx zo L z A (fun z=>k (Qd z) []):=by
 refine (zDZ xu yx zo L z A k).trans ?_
 unfold ztm
 first
  | (simp only [zqR,zvn]; done)
  | (simp only [zqR]; rfl)
abbrev zkT:=∀ (β:Type),Nat→List V→List (List V)→(Int→Option β)→Option β
def y5(β:Type)(L:Nat)(A:List V)(C:List (List V))(z:Int→Option β):Option β:=ztm xu yx zo L A C z
def zqN(y5:zkT)(L:Nat)(β:Type)(args:List V)(bor:Bor)(k:KK β):Option β:=match args,bor with
 | [a0,a1],[]=>aG a0 fun z=>aL 1 a1 fun A=>y5 β L z A (fun z=>k (Qd z) [])
 | _,_=>none
theorem zDM(L:Nat)(β:Type)(args:List V)(bor:Bor)(k:KK β)(r:β)(h:zqN y5 L β args bor k=some r):yl ze0 (zeY xu yx zo L) L zjr args bor k=some r:=by
 unfold zqN at h
 split at h
 ·have q:=xM h; clear h; obtain ⟨z,rfl,h⟩:=q
  have q:=zaF h; clear h; obtain ⟨A,rfl,h⟩:=q
  exact (zEP xu yx zo L z A k).trans h
 ·cases h
def zev:CF:=⟨32,[.tmp 6],(.seq (.reg [Qv 3 (tq 0),Qv 4 (tq 1),Qh 6 (Qf 0)]) (.seq (.reg [Qk 10 32 (tq 3),Qs 11 109 [(Qw 10)],oo 7 (.alloc true [(.sc (.int .u64 0)),(.sc (.int .u64 0))]),Qm 2 (tq 7) (tq 11)]) (.seq (.dreg [] [(Qk 12 2 (tq 7),ql 7 [4] [13]),(oo 13 (.buildSlice 1 1 [(.sc (.int .u8 0))] [(0,1,(.const (.sc (.int .u8 2))))]),qn [7,4] []),(Qk 14 3 (tq 4),ql 4 [7] [13]),(Qs 15 269 [(Qw 14)],qc [7] [13]),(Qs 16 157 [(Qw 13),(Qw 15)],qc [7] []),(Qh 17 (tq 2),q0),(Qs 18 157 [(Qw 16),(Qw 17)],qc [7] []),(Qs 19 105 [(Qw 12),(Qw 18)],q0),(oo 20 (.bin .rem (tq 19) (.const (.sc (.int .u64 4)))),q0),(Qh 8 (tq 20),q0)]) (.seq (.reg [oo 21 (.buildSlice 1 1 [(.sc (.int .u8 0))] [(0,1,(.const (.sc (.int .u8 1))))]),Qh 22 (tq 2),Qs 23 157 [(Qw 21),(Qw 22)],Qh 24 (tq 8),Qu 25 .u32 (tq 24),Qs 26 157 [(Qw 23),(Qw 25)],Qh 9 (tq 26)]) (.seq (.reg [Qk 27 2 (tq 7),Qh 28 (tq 9),Qs 29 105 [(Qw 27),(Qw 28)],oo 30 (.bin .rem (tq 29) (.const (.sc (.int .u64 64)))),Qu 31 .i64 (tq 30),Qh 6 (tq 31)]) .ret)))))⟩
def zkr:Hint:=⟨[],[],[none],[],[],false,false,[]⟩
def zg5:Nat→Sh:=yT []
def zg3(zae:zkU)(zj:zaz)(zw:zdo)(y5:zkT)(L:Nat):CBC:=(xy 105 (zqN y5 L) (xy 157 (zfM zw L) (xy 269 (zdM zj L) (xy 109 (zqL zae L) noC))))
def zhT{β:Type}(zae:zkU)(zj:zaz)(zw:zdo)(y5:zkT)(L:Nat)(A C:List V)(D:Int)(z:Int→Option β):Option β:=chk (0+32≤(XI A)) (zae β L (XK 32 A) (fun E=>chk ((XI E)=2∧0+2≤2) (lt (xd [(Qd (0:Int)),(Qd (0:Int))] 0 E) fun r1=>chk (0+2≤(XI r1)) (chk (0+3≤(XI C)) (zj β L (XK 3 C) (fun J=>zw β L (ye 1 1 [(Qa (2:Int))]) J (fun M=>zw β L M D (fun N=>y5 β L (XK 2 r1) N (fun O=>lt (XP O (4:Int)) fun P=>zw β L (ye 1 1 [(Qa (1:Int))]) D (fun Q=>lt (QF .u32 P) fun R=>zw β L Q R (fun S=>chk (0+2≤(XI r1)) (y5 β L (XK 2 r1) S (fun F=>lt (XP F (64:Int)) fun G=>lt (QF .i64 G) fun I=>z I)))))))))))))
theorem zrR{β:Type}(zae:zkU)(zj:zaz)(zw:zdo)(y5:zkT)(L:Nat)(z A:List V)(C:Int)(k:KK β):yl zg5 (zg3 zae zj zw y5 L) L zev [(V.agg z),(V.agg A),(Qc C)] [] k=zhT zae zj zw y5 L z A C (fun z=>k (Qe z) []):=by kernel_rfl
abbrev yu:=∀ (β:Type),Nat→List V→List V→Int→(Int→Option β)→Option β
def yb(β:Type)(L:Nat)(A C:List V)(D:Int)(z:Int→Option β):Option β:=zhT zae zj zw y5 L A C D z
def zcC(yb:yu)(L:Nat)(β:Type)(args:List V)(bor:Bor)(k:KK β):Option β:=match args,bor with
 | [a0,a1,a2],[]=>aG a0 fun z=>aG a1 fun A=>aI .u32 a2 fun C=>yb β L z A C (fun z=>k (Qe z) [])
 | _,_=>none
theorem zrI(L:Nat)(β:Type)(args:List V)(bor:Bor)(k:KK β)(r:β)(h:zcC yb L β args bor k=some r):yl zg5 (zg3 zae zj zw y5 L) L zev args bor k=some r:=by
 unfold zcC at h
 split at h
 ·have q:=xM h; clear h; obtain ⟨z,rfl,h⟩:=q
  have q:=xM h; clear h; obtain ⟨A,rfl,h⟩:=q
  have q:=yo h; clear h; obtain ⟨C,rfl,h⟩:=q
  exact (zrR zae zj zw y5 L z A C k).trans h
 ·cases h
def zgU:CF:=⟨11,[.tmp 3],(.seq (.reg [Qv 2 (tq 0),Qh 3 (Qf 0)]) (.seq (.reg [Ql 4 0 (tq 1),Qk 5 32 (tq 4),Ql 6 1 (tq 2),Qk 7 3 (tq 6),Ql 8 4 (tq 2),Qj 9 1 (tq 8),Qs 10 297 [(Qw 5),(Qw 7),(Qw 9)],Qh 3 (tq 10)]) .ret))⟩
def znG:Hint:=⟨[],[],[none],[],[],false,false,[]⟩
def zj3:Nat→Sh:=yT [(9,(.int .u32))]
def zjZ(yb:yu)(L:Nat):CBC:=(xy 297 (zcC yb L) noC)
def zlH{β:Type}(yb:yu)(L:Nat)(A C:List V)(z:Int→List V→Option β):Option β:=chk (0+32≤(XI C)) (chk (1+3≤(XI A)) (cI .u32 A 4 fun D=>yb β L (XK 32 C) (XK 3 (XL 1 A)) D (fun E=>z E C)))
theorem zuM{β:Type}(yb:yu)(L:Nat)(z A:List V)(k:KK β):yl zj3 (zjZ yb L) L zgU [(V.agg z),(V.ptr 0 0)] [(.live true A)] k=zlH yb L z A (fun z A=>k (Qe z) [(.live true A)]):=by kernel_rfl
abbrev y6:=∀ (β:Type),Nat→List V→List V→(Int→List V→Option β)→Option β
def yh(β:Type)(L:Nat)(A C:List V)(z:Int→List V→Option β):Option β:=zlH yb L A C z
def zhH(yh:y6)(L:Nat)(β:Type)(args:List V)(bor:Bor)(k:KK β):Option β:=match args,bor with
 | [a0,a1],[(.live true z)]=>aG a0 fun A=>aP 0 0 a1 (yh β L A z (fun A z=>k (Qe A) [(.live true z)]))
 | _,_=>none
theorem zuS(L:Nat)(β:Type)(args:List V)(bor:Bor)(k:KK β)(r:β)(h:zhH yh L β args bor k=some r):yl zj3 (zjZ yb L) L zgU args bor k=some r:=by
 unfold zhH at h
 split at h
 ·have q:=xM h; clear h; obtain ⟨z,rfl,h⟩:=q
  have q:=zoD h; clear h; obtain ⟨rfl,h⟩:=q
  exact (zuM yb L z _ k).trans h
 ·cases h
def zdn:CC:=(.seq (.reg [Qp 18 .lss (tq 17) (tq 16)]) (.seq (.cond (tq 18) .skip (.seq (.mask (bl 0 58) (bl 288230375077966399 58)) (.exit 0))) (.seq (.block 1 (.seq (.reg [Qo 19 5 (tq 15) (tq 17),Qk 20 5 (tq 19),oo 10 (.alloc true [(.sc (.int .i64 0)),(.sc (.int .u32 0)),(.sc (.int .u16 0)),(.sc (.int .u32 0)),(.sc (.int .u32 0))]),Qm 5 (tq 10) (tq 20)]) (.seq (.seq (.dreg [] [(Ql 21 0 (tq 10),q0),(Qj 22 1 (tq 21),q0),(Qh 23 (tq 7),q0),(Qp 24 .lss (tq 22) (tq 23),q0),(Qh 25 (tq 24),q0),(⟨(some 26),false,(some (25,false)),.fieldAddr 0 (tq 10)⟩,q0),(⟨(some 27),false,(some (25,false)),.load false 1 (tq 26) false⟩,ql 10 [] []),(⟨(some 28),false,(some (25,false)),.move (tq 2) false⟩,q0),(⟨(some 29),false,(some (25,false)),.load true 5 (tq 10) false⟩,ql 10 [] []),(⟨(some 30),false,(some (25,false)),.callv (tq 28) [(Qw 29)] []⟩,qc [10] []),(⟨(some 31),false,(some (25,false)),.bin .neq (tq 27) (tq 30)⟩,q0),(oo 32 (.pick (tq 25) (Qg true) (tq 31)),q0)]) (.cond (tq 32) (.seq (.reg [Qh 6 (Qg false)]) (.seq (.mask (bl 64 58) (bl 288230375077966463 58)) .ret)) .skip)) (.seq (.seq (.reg [Ql 33 0 (tq 10),Qj 34 1 (tq 33),Qh 35 (tq 7),Qp 36 .neq (tq 34) (tq 35)]) (.cond (tq 36) (.reg [Ql 37 0 (tq 10),Qj 38 1 (tq 37),Qh 7 (tq 38),Qh 8 (Qf 0)]) .skip)) (.seq (.reg [Qh 39 (tq 8),Qp 40 .add (tq 39) (Qf 1),Qh 8 (tq 40)]) (.seq (.reg [Ql 41 1 (tq 10),Ql 42 0 (tq 41),Qj 43 1 (tq 42),Ql 44 1 (tq 10),Ql 45 1 (tq 44),Qj 46 1 (tq 45),oo 47 (.build [(.sc (.int .u32 0)),(.sc (.int .u16 0))] [(0,1,(tq 43)),(1,1,(tq 46))]),oo 11 (.alloc true [(.sc (.int .u32 0)),(.sc (.int .u16 0))]),Qm 2 (tq 11) (tq 47)]) (.seq (.seq (.reg [Qh 48 (tq 8),Qp 49 .gtr (tq 48) (Qf 8),Qh 50 (tq 49),⟨(some 51),false,(some (50,false)),.move (tq 1) false⟩,⟨(some 52),false,(some (50,false)),.load true 2 (tq 11) false⟩,⟨(some 53),false,(some (50,false)),.mlook 4 false (.sc (.bool false)) (tq 51) (tq 52)⟩,oo 54 (.pick (tq 50) (Qg true) (tq 53))]) (.cond (tq 54) (.seq (.reg [Qh 6 (Qg false)]) (.seq (.mask (bl 64 58) (bl 288230375077966463 58)) .ret)) .skip)) (.reg [Qh 55 (tq 1),Qk 56 2 (tq 11),oz (.mput 4 (tq 55) (tq 56) (Qg true))])))))))) (.reg [Qp 57 .add (tq 17) (Qf 1),Qh 17 (tq 57)]))))
def zfZ:CC:=(.seq (.reg [Qh 6 (Qg true)]) .ret)
def zbY:CF:=⟨58,[.tmp 6],(.seq (.reg [Qh 6 (Qg false)]) (.seq (.seq (.reg [Qh 12 (tq 0),Qr 13 (tq 12),Qp 14 .gtr (tq 13) (Qf 512)]) (.cond (tq 14) (.seq (.reg [Qh 6 (Qg false)]) .ret) .skip)) (.seq (.reg [Qh 7 (Qf (-1)),Qh 8 (Qf 0)]) (.seq (.seq (.reg [Qh 15 (tq 0),Qr 16 (tq 15),Qh 17 (Qf 0)]) (.block 0 (.loop (bl 229766 58) (bl 288230375077966783 58) zdn))) zfZ))))⟩
def zpy:Hint:=⟨[],[],[none,none,none,some ((bl 229766 58),(bl 288230375077966783 58)),none,some ((bl 0 58),(bl 288230375077966399 58)),none,none,some ((bl 64 58),(bl 288230375077966463 58)),none,none,some ((bl 64 58),(bl 288230375077966463 58)),none],[],[],false,false,[]⟩
def zaX:Nat→Sh:=yT [(22,(.int .i64)),(27,(.int .i64)),(34,(.int .i64)),(38,(.int .i64)),(43,(.int .u32)),(46,(.int .u16)),(53,.bool)]
def zaW(yh:y6)(L:Nat):CBC:=(xy 296 (zhH yh L) noC)
def ze2:St→St:=zbd 2 (bl 229766 58) (bl 288230375077966783 58)
def zdY(D E:Int)(z:List (List V))(A C:Int)(F:List (V × V))(G:List V):St:=⟨(jn 1 ((V.mp 0)::((V.fn 296 [(V.ptr 1 0)])::(jn 4 ((Qe D)::((Qe E)::(jn 6 ((V.sl 5 z)::((Qe A)::((Qe C)::(jn 40 []))))))))))),((.mp F)::((.live true G)::(gn 58 [])))⟩
def ziI(z:Bool)(A:List (V × V))(C:List V):St:=⟨(jn 6 ((V.sc (.bool z))::(jn 51 []))),((.mp A)::((.live true C)::(gn 58 [])))⟩
def zje(z:List (V × V))(A:List V):St:=⟨(jn 58 []),((.mp z)::((.live true A)::(gn 58 [])))⟩
abbrev zl3(β:Type):Type:=Int→Int→List (List V)→Int→Int→List (V × V)→List V→Option β
def zns{β:Type}(yh:y6)(L:Nat)(C:List (List V))(D:List (V × V))(E:List V)(A:Bool→List (V × V)→List V→Option β)(z:zl3 β):Option β:=ifb (decide (((XI C:Nat):Int)>(512:Int))) (A false D E) (z (-1:Int) (0:Int) C ((XI C:Nat):Int) (0:Int) D E)
theorem zwu{β:Type}(yh:y6)(L:Nat)(C:List (List V))(z:List (V × V))(A:List V)(k:KK β):yl zaX (zaW yh L) L zbY [(V.sl 5 C),(V.mp 0),(V.fn 296 [(V.ptr 1 0)])] [(.mp z),(.live true A)] k=zns yh L C z A (fun C z A=>k (V.sc (.bool C)) [(.mp z),(.live true A)]) (fun G I D E F z A=>xE (xi zaX (zaW yh L) 2 L zdn) ze2 L (zdY G I D E F z A) (zF 0 (zQ (xi zaX (zaW yh L) 2 L zfZ) (xW 2 (CF.res zbY) k)))):=by kernel_rfl
def zhU{β:Type}(yh:y6)(L:Nat)(O p8:Int)(I:List (List V))(J E:Int)(C:List (V × V))(M:List V)(z:Bool→List (V × V)→List V→Option β)(A:zl3 β)(P:List (V × V)→List V→Option β):Option β:=ifb (decide (E<J)) (idx I E fun c0=>chk ((XI (XK 5 c0))=5∧0+5≤5) (lt (xd [(Qe (0:Int)),(Qc (0:Int)),(Qb (0:Int)),(Qc (0:Int)),(Qc (0:Int))] 0 (XK 5 c0)) fun r1=>cI .i64 r1 0 fun v2=>ifb (decide (v2<O)) (z false C M) (cI .i64 r1 0 fun v3=>chk (0+5≤(XI r1)) (yh β L (XK 5 r1) M (fun v4 D=>chk ([(XI D)]=[(XI M)]) (ifb ((v3:Int) != v4) (z false C D) (cI .i64 r1 0 fun v6=>ifb ((v6:Int) != O) (cI .i64 r1 0 fun v7=>lt (QF .i64 (((0:Int):Int)+(1:Int))) fun Q=>cI .u32 r1 1 fun v9=>cI .u16 r1 2 fun R=>lt [(Qc v9),(Qb R)] fun F=>ifb (decide (Q>(8:Int))) (z false C D) (chk (0+2≤(XI F)) (mAt 4 (V.agg (XK 2 F)) C fun S=>aB (XO S (V.sc (.bool false))) fun U=>ifb U (z false C D) (chk (0+2≤(XI F)) (ztU 4 (V.agg (XK 2 F)) (V.sc (.bool true)) C fun W=>lt (QF .i64 ((E:Int)+(1:Int))) fun X=>A v7 Q I J X W D))))) (lt (QF .i64 ((p8:Int)+(1:Int))) fun N=>cI .u32 r1 1 fun Y=>cI .u16 r1 2 fun Z=>lt [(Qc Y),(Qb Z)] fun G=>ifb (decide (N>(8:Int))) (z false C D) (chk (0+2≤(XI G)) (mAt 4 (V.agg (XK 2 G)) C fun aa=>aB (XO aa (V.sc (.bool false))) fun ab=>ifb ab (z false C D) (chk (0+2≤(XI G)) (ztU 4 (V.agg (XK 2 G)) (V.sc (.bool true)) C fun ac=>lt (QF .i64 ((E:Int)+(1:Int))) fun ad=>A O N I J ad ac D)))))))))))) (P C M)
theorem zrF{β:Type}(yh:y6)(L:Nat)(F G:Int)(C:List (List V))(D E:Int)(z:List (V × V))(A:List V)(X:St→Option β)(K:KT β):xi zaX (zaW yh L) 2 L zdn (zdY F G C D E z A) (zcz ze2 X K)=zhU yh L F G C D E z A (fun I z A=>K .ret (ziI I z A)) (fun F G C D E z A=>X (zdY F G C D E z A)) (fun z A=>K (.exit 0) (zje z A)):=by kernel_rfl
def zf3{β:Type}(yh:y6)(L:Nat)(A:Bool)(C:List (V × V))(D:List V)(z:Bool→List (V × V)→List V→Option β):Option β:=z A C D
theorem zpL{β:Type}(yh:y6)(L:Nat)(C:Bool)(z:List (V × V))(A:List V)(k:KK β):(zF 0 (zQ (xi zaX (zaW yh L) 2 L zfZ) (xW 2 (CF.res zbY) k))) .ret (ziI C z A)=zf3 yh L C z A (fun D z A=>k (V.sc (.bool D)) [(.mp z),(.live true A)]):=by kernel_rfl
def zgk{β:Type}(yh:y6)(L:Nat)(A:List (V × V))(C:List V)(z:Bool→List (V × V)→List V→Option β):Option β:=z true A C
theorem zqW{β:Type}(yh:y6)(L:Nat)(z:List (V × V))(A:List V)(k:KK β):(zF 0 (zQ (xi zaX (zaW yh L) 2 L zfZ) (xW 2 (CF.res zbY) k))) (.exit 0) (zje z A)=zgk yh L z A (fun C z A=>k (V.sc (.bool C)) [(.mp z),(.live true A)]):=by kernel_rfl
def zcB{β:Type}(yh:y6)(L:Nat)(z:Bool→List (V × V)→List V→Option β)(A:List (V × V)→List V→Option β):Nat→Int→Int→List (List V)→Int→Int→List (V × V)→List V→Option β
 | 0,_,_,_,_,_,_,_=>none
 | n+1,F,G,C,D,E,I,J=>zhU yh L F G C D E I J z (fun F G C D E I J=>zcB yh L z A n F G C D E I J) A
theorem zkH{β:Type}(yh:y6)(L:Nat)(K:KT β):∀ (n:Nat) (F G:Int) (C:List (List V)) (D E:Int) (z:List (V × V)) (A:List V),xE (xi zaX (zaW yh L) 2 L zdn) ze2 n (zdY F G C D E z A) K=zcB yh L (fun I z A=>K .ret (ziI I z A)) (fun z A=>K (.exit 0) (zje z A)) n F G C D E z A:=by
 intro n
 induction n with
 | zero=>intros; rfl
 | succ n ih=>
  intro F G C D E z A
  refine (zrF yh L F G C D E z A (fun σ=>xE (xi zaX (zaW yh L) 2 L zdn) ze2 n σ K) K).trans ?_
  simp only [ih]
  rfl
def zjz{β:Type}(yh:y6)(L:Nat)(G:List (List V))(A:List (V × V))(C:List V)(z:Bool→List (V × V)→List V→Option β):Option β:=zns yh L G A C z (fun I J D E F A C=>zcB yh L (fun M A C=>zf3 yh L M A C z) (fun A C=>zgk yh L A C z) L I J D E F A C)
theorem zwy{β:Type}(yh:y6)(L:Nat)(z:List (List V))(A:List (V × V))(C:List V)(k:KK β):yl zaX (zaW yh L) L zbY [(V.sl 5 z),(V.mp 0),(V.fn 296 [(V.ptr 1 0)])] [(.mp A),(.live true C)] k=zjz yh L z A C (fun z A C=>k (V.sc (.bool z)) [(.mp A),(.live true C)]):=by
 refine (zwu yh L z A C k).trans ?_
 unfold zjz
 first
  | (simp only [zkH,zpL,zqW]; done)
  | (simp only [zkH]; rfl)
abbrev zi1:=∀ (β:Type),Nat→List (List V)→List (V × V)→List V→(Bool→List (V × V)→List V→Option β)→Option β
def zY(β:Type)(L:Nat)(A:List (List V))(C:List (V × V))(D:List V)(z:Bool→List (V × V)→List V→Option β):Option β:=zjz yh L A C D z
def zjj(zY:zi1)(L:Nat)(β:Type)(args:List V)(bor:Bor)(k:KK β):Option β:=match args,bor with
 | [a0,a1,a2],[(.mp z),(.live true A)]=>aL 5 a0 fun C=>aM 0 a1 (aF 296 [(1,0)] a2 (zY β L C z A (fun C z A=>k (V.sc (.bool C)) [(.mp z),(.live true A)])))
 | _,_=>none
theorem zwv(L:Nat)(β:Type)(args:List V)(bor:Bor)(k:KK β)(r:β)(h:zjj zY L β args bor k=some r):yl zaX (zaW yh L) L zbY args bor k=some r:=by
 unfold zjj at h
 split at h
 ·have q:=zaF h; clear h; obtain ⟨z,rfl,h⟩:=q
  have q:=zHE h; clear h; obtain ⟨rfl,h⟩:=q
  have q:=zBj h; clear h; obtain ⟨rfl,h⟩:=q
  exact (zwy yh L z _ _ k).trans h
 ·cases h
def zhz:CF:=⟨10,[.tmp 4],(.seq (.reg [Qi 4 (.const (.gs 1 []))]) (.seq (.reg [Qh 5 (tq 0),Qh 6 (tq 1),Qu 7 .u64 (tq 6),Qs 8 192 [(Qw 7),((Qf 2),0)],Qs 9 191 [(Qw 5),(Qw 8)],Qi 4 (tq 9)]) .ret))⟩
def zo4:Hint:=⟨[(0,0),(1,5)],[],[none],[],[],false,false,[]⟩
def zlp:Nat→Sh:=yT []
def zkZ(xI:zeK)(xH:zeM)(L:Nat):CBC:=(xy 191 (zis xH L) (xy 192 (ziN xI L) noC))
def zmb{β:Type}(xI:zeK)(xH:zeM)(L:Nat)(A:List (List V))(C:Int)(z:List (List V)→Option β):Option β:=lt (QF .u64 C) fun D=>xI β L D (2:Int) (fun E=>xH β L A E (fun F=>z F))
theorem zvv{β:Type}(xI:zeK)(xH:zeM)(L:Nat)(z:List (List V))(A:Int)(k:KK β):yl zlp (zkZ xI xH L) L zhz [(V.sl 1 z),(Qb A)] [] k=zmb xI xH L z A (fun z=>k (V.gs 1 z) []):=by kernel_rfl
abbrev zih:=∀ (β:Type),Nat→List (List V)→Int→(List (List V)→Option β)→Option β
def xU(β:Type)(L:Nat)(A:List (List V))(C:Int)(z:List (List V)→Option β):Option β:=zmb xI xH L A C z
def zig(xU:zih)(L:Nat)(β:Type)(args:List V)(bor:Bor)(k:KK β):Option β:=match args,bor with
 | [a0,a1],[]=>aL 1 a0 fun z=>aI .u16 a1 fun A=>xU β L z A (fun z=>k (V.gs 1 z) [])
 | _,_=>none
theorem zvW(L:Nat)(β:Type)(args:List V)(bor:Bor)(k:KK β)(r:β)(h:zig xU L β args bor k=some r):yl zlp (zkZ xI xH L) L zhz args bor k=some r:=by
 unfold zig at h
 split at h
 ·have q:=zaF h; clear h; obtain ⟨z,rfl,h⟩:=q
  have q:=yo h; clear h; obtain ⟨A,rfl,h⟩:=q
  exact (zvv xI xH L z A k).trans h
 ·cases h
def zex:CF:=⟨32,[.tmp 4],(.seq (.reg [Qv 2 (tq 0),Qv 3 (tq 1),Qh 4 (Qf 0)]) (.seq (.reg [Qk 8 32 (tq 2),Qs 9 109 [(Qw 8)],oo 5 (.alloc true [(.sc (.int .u64 0)),(.sc (.int .u64 0))]),Qm 2 (tq 5) (tq 9)]) (.seq (.dreg [] [(Qk 10 2 (tq 5),ql 5 [3] [11]),(oo 11 (.buildSlice 1 1 [(.sc (.int .u8 0))] [(0,1,(.const (.sc (.int .u8 4))))]),qn [5,3] []),(Ql 12 0 (tq 3),q0),(Qj 13 1 (tq 12),ql 3 [5] [11]),(Qs 14 157 [(Qw 11),(Qw 13)],qc [5,3] []),(Ql 15 1 (tq 3),q0),(Qj 16 1 (tq 15),ql 3 [5] [11]),(Qs 17 205 [(Qw 14),(Qw 16)],qc [5] []),(Qs 18 105 [(Qw 10),(Qw 17)],q0),(oo 19 (.bin .rem (tq 18) (.const (.sc (.int .u64 4)))),q0),(Qh 6 (tq 19),q0)]) (.seq (.reg [oo 20 (.buildSlice 1 1 [(.sc (.int .u8 0))] [(0,1,(.const (.sc (.int .u8 3))))]),Qk 21 3 (tq 3),Qs 22 269 [(Qw 21)],Qs 23 157 [(Qw 20),(Qw 22)],Qh 24 (tq 6),Qu 25 .u32 (tq 24),Qs 26 157 [(Qw 23),(Qw 25)],Qh 7 (tq 26)]) (.seq (.reg [Qk 27 2 (tq 5),Qh 28 (tq 7),Qs 29 105 [(Qw 27),(Qw 28)],oo 30 (.bin .rem (tq 29) (.const (.sc (.int .u64 64)))),Qu 31 .i64 (tq 30),Qh 4 (tq 31)]) .ret)))))⟩
def zkq:Hint:=⟨[],[],[none],[],[],false,false,[]⟩
def zhc:Nat→Sh:=yT [(13,(.int .u32)),(16,(.int .u16))]
def zhb(zae:zkU)(zw:zdo)(xU:zih)(y5:zkT)(zj:zaz)(L:Nat):CBC:=(xy 269 (zdM zj L) (xy 105 (zqN y5 L) (xy 205 (zig xU L) (xy 157 (zfM zw L) (xy 109 (zqL zae L) noC)))))
def zh4{β:Type}(zae:zkU)(zw:zdo)(xU:zih)(y5:zkT)(zj:zaz)(L:Nat)(C z:List V)(A:Int→Option β):Option β:=chk (0+32≤(XI C)) (zae β L (XK 32 C) (fun D=>chk ((XI D)=2∧0+2≤2) (lt (xd [(Qd (0:Int)),(Qd (0:Int))] 0 D) fun r1=>chk (0+2≤(XI r1)) (cI .u32 z 0 fun M=>zw β L (ye 1 1 [(Qa (4:Int))]) M (fun N=>cI .u16 z 1 fun O=>xU β L N O (fun P=>y5 β L (XK 2 r1) P (fun Q=>lt (XP Q (4:Int)) fun R=>chk (0+3≤(XI z)) (zj β L (XK 3 z) (fun S=>zw β L (ye 1 1 [(Qa (3:Int))]) S (fun U=>lt (QF .u32 R) fun E=>zw β L U E (fun F=>chk (0+2≤(XI r1)) (y5 β L (XK 2 r1) F (fun G=>lt (XP G (64:Int)) fun I=>lt (QF .i64 I) fun J=>A J)))))))))))))
theorem zrL{β:Type}(zae:zkU)(zw:zdo)(xU:zih)(y5:zkT)(zj:zaz)(L:Nat)(z A:List V)(k:KK β):yl zhc (zhb zae zw xU y5 zj L) L zex [(V.agg z),(V.agg A)] [] k=zh4 zae zw xU y5 zj L z A (fun z=>k (Qe z) []):=by kernel_rfl
abbrev zbL:=∀ (β:Type),Nat→List V→List V→(Int→Option β)→Option β
def zq(β:Type)(L:Nat)(A C:List V)(z:Int→Option β):Option β:=zh4 zae zw xU y5 zj L A C z
def zdC(zq:zbL)(L:Nat)(β:Type)(args:List V)(bor:Bor)(k:KK β):Option β:=match args,bor with
 | [a0,a1],[]=>aG a0 fun z=>aG a1 fun A=>zq β L z A (fun z=>k (Qe z) [])
 | _,_=>none
theorem zrJ(L:Nat)(β:Type)(args:List V)(bor:Bor)(k:KK β)(r:β)(h:zdC zq L β args bor k=some r):yl zhc (zhb zae zw xU y5 zj L) L zex args bor k=some r:=by
 unfold zdC at h
 split at h
 ·have q:=xM h; clear h; obtain ⟨z,rfl,h⟩:=q
  have q:=xM h; clear h; obtain ⟨A,rfl,h⟩:=q
  exact (zrL zae zw xU y5 zj L z A k).trans h
 ·cases h
def zgQ:CF:=⟨9,[.tmp 3],(.seq (.reg [Qv 2 (tq 0),Qh 3 (Qf 0)]) (.seq (.reg [Ql 4 0 (tq 1),Qk 5 32 (tq 4),Ql 6 1 (tq 2),Qk 7 3 (tq 6),Qs 8 299 [(Qw 5),(Qw 7)],Qh 3 (tq 8)]) .ret))⟩
def znS:Hint:=⟨[],[],[none],[],[],false,false,[]⟩
def zj9:Nat→Sh:=yT []
def zkg(zq:zbL)(L:Nat):CBC:=(xy 299 (zdC zq L) noC)
def zlE{β:Type}(zq:zbL)(L:Nat)(C A:List V)(z:Int→List V→Option β):Option β:=chk (0+32≤(XI A)) (chk (1+3≤(XI C)) (zq β L (XK 32 A) (XK 3 (XL 1 C)) (fun D=>z D A)))
theorem zup{β:Type}(zq:zbL)(L:Nat)(z A:List V)(k:KK β):yl zj9 (zkg zq L) L zgQ [(V.agg z),(V.ptr 0 0)] [(.live true A)] k=zlE zq L z A (fun z A=>k (Qe z) [(.live true A)]):=by kernel_rfl
abbrev y8:=∀ (β:Type),Nat→List V→List V→(Int→List V→Option β)→Option β
def zh(β:Type)(L:Nat)(A C:List V)(z:Int→List V→Option β):Option β:=zlE zq L A C z
def zhf(zh:y8)(L:Nat)(β:Type)(args:List V)(bor:Bor)(k:KK β):Option β:=match args,bor with
 | [a0,a1],[(.live true z)]=>aG a0 fun A=>aP 0 0 a1 (zh β L A z (fun A z=>k (Qe A) [(.live true z)]))
 | _,_=>none
theorem zve(L:Nat)(β:Type)(args:List V)(bor:Bor)(k:KK β)(r:β)(h:zhf zh L β args bor k=some r):yl zj9 (zkg zq L) L zgQ args bor k=some r:=by
 unfold zhf at h
 split at h
 ·have q:=xM h; clear h; obtain ⟨z,rfl,h⟩:=q
  have q:=zoD h; clear h; obtain ⟨rfl,h⟩:=q
  exact (zup zq L z _ k).trans h
 ·cases h
def zdL:CC:=(.seq (.reg [Qp 18 .lss (tq 17) (tq 16)]) (.seq (.cond (tq 18) .skip (.seq (.mask (bl 0 58) (bl 288230375077966399 58)) (.exit 0))) (.seq (.block 1 (.seq (.reg [Qo 19 5 (tq 15) (tq 17),Qk 20 5 (tq 19),oo 10 (.alloc true [(.sc (.int .i64 0)),(.sc (.int .u32 0)),(.sc (.int .u16 0)),(.sc (.int .u32 0)),(.sc (.int .u32 0))]),Qm 5 (tq 10) (tq 20)]) (.seq (.seq (.dreg [] [(Ql 21 0 (tq 10),q0),(Qj 22 1 (tq 21),q0),(Qh 23 (tq 7),q0),(Qp 24 .lss (tq 22) (tq 23),q0),(Qh 25 (tq 24),q0),(⟨(some 26),false,(some (25,false)),.fieldAddr 0 (tq 10)⟩,q0),(⟨(some 27),false,(some (25,false)),.load false 1 (tq 26) false⟩,ql 10 [] []),(⟨(some 28),false,(some (25,false)),.move (tq 2) false⟩,q0),(⟨(some 29),false,(some (25,false)),.load true 5 (tq 10) false⟩,ql 10 [] []),(⟨(some 30),false,(some (25,false)),.callv (tq 28) [(Qw 29)] []⟩,qc [10] []),(⟨(some 31),false,(some (25,false)),.bin .neq (tq 27) (tq 30)⟩,q0),(oo 32 (.pick (tq 25) (Qg true) (tq 31)),q0)]) (.cond (tq 32) (.seq (.reg [Qh 6 (Qg false)]) (.seq (.mask (bl 64 58) (bl 288230375077966463 58)) .ret)) .skip)) (.seq (.seq (.reg [Ql 33 0 (tq 10),Qj 34 1 (tq 33),Qh 35 (tq 7),Qp 36 .neq (tq 34) (tq 35)]) (.cond (tq 36) (.reg [Ql 37 0 (tq 10),Qj 38 1 (tq 37),Qh 7 (tq 38),Qh 8 (Qf 0)]) .skip)) (.seq (.reg [Qh 39 (tq 8),Qp 40 .add (tq 39) (Qf 1),Qh 8 (tq 40)]) (.seq (.reg [Ql 41 1 (tq 10),Ql 42 0 (tq 41),Qj 43 1 (tq 42),Ql 44 1 (tq 10),Ql 45 1 (tq 44),Qj 46 1 (tq 45),oo 47 (.build [(.sc (.int .u32 0)),(.sc (.int .u16 0))] [(0,1,(tq 43)),(1,1,(tq 46))]),oo 11 (.alloc true [(.sc (.int .u32 0)),(.sc (.int .u16 0))]),Qm 2 (tq 11) (tq 47)]) (.seq (.seq (.reg [Qh 48 (tq 8),Qp 49 .gtr (tq 48) (Qf 8),Qh 50 (tq 49),⟨(some 51),false,(some (50,false)),.move (tq 1) false⟩,⟨(some 52),false,(some (50,false)),.load true 2 (tq 11) false⟩,⟨(some 53),false,(some (50,false)),.mlook 4 false (.sc (.bool false)) (tq 51) (tq 52)⟩,oo 54 (.pick (tq 50) (Qg true) (tq 53))]) (.cond (tq 54) (.seq (.reg [Qh 6 (Qg false)]) (.seq (.mask (bl 64 58) (bl 288230375077966463 58)) .ret)) .skip)) (.reg [Qh 55 (tq 1),Qk 56 2 (tq 11),oz (.mput 4 (tq 55) (tq 56) (Qg true))])))))))) (.reg [Qp 57 .add (tq 17) (Qf 1),Qh 17 (tq 57)]))))
def zg9:CC:=(.seq (.reg [Qh 6 (Qg true)]) .ret)
def zdf:CF:=zbY
def zao:Nat→Sh:=yT [(22,(.int .i64)),(27,(.int .i64)),(34,(.int .i64)),(38,(.int .i64)),(43,(.int .u32)),(46,(.int .u16)),(53,.bool)]
def zan(zh:y8)(L:Nat):CBC:=(xy 298 (zhf zh L) noC)
def zdW:St→St:=zbd 2 (bl 229766 58) (bl 288230375077966783 58)
def zdd(D E:Int)(z:List (List V))(A C:Int)(F:List (V × V))(G:List V):St:=⟨(jn 1 ((V.mp 0)::((V.fn 298 [(V.ptr 1 0)])::(jn 4 ((Qe D)::((Qe E)::(jn 6 ((V.sl 5 z)::((Qe A)::((Qe C)::(jn 40 []))))))))))),((.mp F)::((.live true G)::(gn 58 [])))⟩
def zgu(z:Bool)(A:List (V × V))(C:List V):St:=⟨(jn 6 ((V.sc (.bool z))::(jn 51 []))),((.mp A)::((.live true C)::(gn 58 [])))⟩
def zg7(z:List (V × V))(A:List V):St:=⟨(jn 58 []),((.mp z)::((.live true A)::(gn 58 [])))⟩
abbrev zjI(β:Type):Type:=Int→Int→List (List V)→Int→Int→List (V × V)→List V→Option β
def zke{β:Type}(zh:y8)(L:Nat)(C:List (List V))(D:List (V × V))(E:List V)(A:Bool→List (V × V)→List V→Option β)(z:zjI β):Option β:=ifb (decide (((XI C:Nat):Int)>(512:Int))) (A false D E) (z (-1:Int) (0:Int) C ((XI C:Nat):Int) (0:Int) D E)
theorem ztS{β:Type}(zh:y8)(L:Nat)(C:List (List V))(z:List (V × V))(A:List V)(k:KK β):yl zao (zan zh L) L zdf [(V.sl 5 C),(V.mp 0),(V.fn 298 [(V.ptr 1 0)])] [(.mp z),(.live true A)] k=zke zh L C z A (fun C z A=>k (V.sc (.bool C)) [(.mp z),(.live true A)]) (fun G I D E F z A=>xE (xi zao (zan zh L) 2 L zdL) zdW L (zdd G I D E F z A) (zF 0 (zQ (xi zao (zan zh L) 2 L zg9) (xW 2 (CF.res zdf) k)))):=by kernel_rfl
def zf9{β:Type}(zh:y8)(L:Nat)(O p8:Int)(I:List (List V))(J E:Int)(C:List (V × V))(M:List V)(z:Bool→List (V × V)→List V→Option β)(A:zjI β)(P:List (V × V)→List V→Option β):Option β:=ifb (decide (E<J)) (idx I E fun c0=>chk ((XI (XK 5 c0))=5∧0+5≤5) (lt (xd [(Qe (0:Int)),(Qc (0:Int)),(Qb (0:Int)),(Qc (0:Int)),(Qc (0:Int))] 0 (XK 5 c0)) fun r1=>cI .i64 r1 0 fun v2=>ifb (decide (v2<O)) (z false C M) (cI .i64 r1 0 fun v3=>chk (0+5≤(XI r1)) (zh β L (XK 5 r1) M (fun v4 D=>chk ([(XI D)]=[(XI M)]) (ifb ((v3:Int) != v4) (z false C D) (cI .i64 r1 0 fun v6=>ifb ((v6:Int) != O) (cI .i64 r1 0 fun v7=>lt (QF .i64 (((0:Int):Int)+(1:Int))) fun Q=>cI .u32 r1 1 fun v9=>cI .u16 r1 2 fun R=>lt [(Qc v9),(Qb R)] fun F=>ifb (decide (Q>(8:Int))) (z false C D) (chk (0+2≤(XI F)) (mAt 4 (V.agg (XK 2 F)) C fun S=>aB (XO S (V.sc (.bool false))) fun U=>ifb U (z false C D) (chk (0+2≤(XI F)) (ztU 4 (V.agg (XK 2 F)) (V.sc (.bool true)) C fun W=>lt (QF .i64 ((E:Int)+(1:Int))) fun X=>A v7 Q I J X W D))))) (lt (QF .i64 ((p8:Int)+(1:Int))) fun N=>cI .u32 r1 1 fun Y=>cI .u16 r1 2 fun Z=>lt [(Qc Y),(Qb Z)] fun G=>ifb (decide (N>(8:Int))) (z false C D) (chk (0+2≤(XI G)) (mAt 4 (V.agg (XK 2 G)) C fun aa=>aB (XO aa (V.sc (.bool false))) fun ab=>ifb ab (z false C D) (chk (0+2≤(XI G)) (ztU 4 (V.agg (XK 2 G)) (V.sc (.bool true)) C fun ac=>lt (QF .i64 ((E:Int)+(1:Int))) fun ad=>A O N I J ad ac D)))))))))))) (P C M)
theorem zp9{β:Type}(zh:y8)(L:Nat)(F G:Int)(C:List (List V))(D E:Int)(z:List (V × V))(A:List V)(X:St→Option β)(K:KT β):xi zao (zan zh L) 2 L zdL (zdd F G C D E z A) (zcz zdW X K)=zf9 zh L F G C D E z A (fun I z A=>K .ret (zgu I z A)) (fun F G C D E z A=>X (zdd F G C D E z A)) (fun z A=>K (.exit 0) (zg7 z A)):=by kernel_rfl
def zeN{β:Type}(zh:y8)(L:Nat)(A:Bool)(C:List (V × V))(D:List V)(z:Bool→List (V × V)→List V→Option β):Option β:=z A C D
theorem znV{β:Type}(zh:y8)(L:Nat)(C:Bool)(z:List (V × V))(A:List V)(k:KK β):(zF 0 (zQ (xi zao (zan zh L) 2 L zg9) (xW 2 (CF.res zdf) k))) .ret (zgu C z A)=zeN zh L C z A (fun D z A=>k (V.sc (.bool D)) [(.mp z),(.live true A)]):=by kernel_rfl
def zfc{β:Type}(zh:y8)(L:Nat)(A:List (V × V))(C:List V)(z:Bool→List (V × V)→List V→Option β):Option β:=z true A C
theorem znY{β:Type}(zh:y8)(L:Nat)(z:List (V × V))(A:List V)(k:KK β):(zF 0 (zQ (xi zao (zan zh L) 2 L zg9) (xW 2 (CF.res zdf) k))) (.exit 0) (zg7 z A)=zfc zh L z A (fun C z A=>k (V.sc (.bool C)) [(.mp z),(.live true A)]):=by kernel_rfl
def zbR{β:Type}(zh:y8)(L:Nat)(z:Bool→List (V × V)→List V→Option β)(A:List (V × V)→List V→Option β):Nat→Int→Int→List (List V)→Int→Int→List (V × V)→List V→Option β
 | 0,_,_,_,_,_,_,_=>none
 | n+1,F,G,C,D,E,I,J=>zf9 zh L F G C D E I J z (fun F G C D E I J=>zbR zh L z A n F G C D E I J) A
theorem ziv{β:Type}(zh:y8)(L:Nat)(K:KT β):∀ (n:Nat) (F G:Int) (C:List (List V)) (D E:Int) (z:List (V × V)) (A:List V),xE (xi zao (zan zh L) 2 L zdL) zdW n (zdd F G C D E z A) K=zbR zh L (fun I z A=>K .ret (zgu I z A)) (fun z A=>K (.exit 0) (zg7 z A)) n F G C D E z A:=by
 intro n
 induction n with
 | zero=>intros; rfl
 | succ n ih=>
  intro F G C D E z A
  refine (zp9 zh L F G C D E z A (fun σ=>xE (xi zao (zan zh L) 2 L zdL) zdW n σ K) K).trans ?_
  simp only [ih]
  rfl
def zgV{β:Type}(zh:y8)(L:Nat)(G:List (List V))(A:List (V × V))(C:List V)(z:Bool→List (V × V)→List V→Option β):Option β:=zke zh L G A C z (fun I J D E F A C=>zbR zh L (fun M A C=>zeN zh L M A C z) (fun A C=>zfc zh L A C z) L I J D E F A C)
theorem zt1{β:Type}(zh:y8)(L:Nat)(z:List (List V))(A:List (V × V))(C:List V)(k:KK β):yl zao (zan zh L) L zdf [(V.sl 5 z),(V.mp 0),(V.fn 298 [(V.ptr 1 0)])] [(.mp A),(.live true C)] k=zgV zh L z A C (fun z A C=>k (V.sc (.bool z)) [(.mp A),(.live true C)]):=by
 refine (ztS zh L z A C k).trans ?_
 unfold zgV
 first
  | (simp only [ziv,znV,znY]; done)
  | (simp only [ziv]; rfl)
abbrev zgO:=∀ (β:Type),Nat→List (List V)→List (V × V)→List V→(Bool→List (V × V)→List V→Option β)→Option β
def zO(β:Type)(L:Nat)(A:List (List V))(C:List (V × V))(D:List V)(z:Bool→List (V × V)→List V→Option β):Option β:=zgV zh L A C D z
def zgS(zO:zgO)(L:Nat)(β:Type)(args:List V)(bor:Bor)(k:KK β):Option β:=match args,bor with
 | [a0,a1,a2],[(.mp z),(.live true A)]=>aL 5 a0 fun C=>aM 0 a1 (aF 298 [(1,0)] a2 (zO β L C z A (fun C z A=>k (V.sc (.bool C)) [(.mp z),(.live true A)])))
 | _,_=>none
theorem zt0(L:Nat)(β:Type)(args:List V)(bor:Bor)(k:KK β)(r:β)(h:zgS zO L β args bor k=some r):yl zao (zan zh L) L zdf args bor k=some r:=by
 unfold zgS at h
 split at h
 ·have q:=zaF h; clear h; obtain ⟨z,rfl,h⟩:=q
  have q:=zHE h; clear h; obtain ⟨rfl,h⟩:=q
  have q:=zBj h; clear h; obtain ⟨rfl,h⟩:=q
  exact (zt1 zh L z _ _ k).trans h
 ·cases h
def zic:CF:=⟨17,[.tmp 2],(.seq (.reg [Qv 1 (tq 0),Qh 2 (Qg false)]) (.seq (.reg [oo 4 (.makeMap),Qh 3 (tq 4)]) (.seq (.reg [Ql 5 32 (tq 1),Qj 6 1 (tq 5),Qh 7 (tq 3),oo 8 (.makeFunc 296 [(tq 1)]),Qs 9 295 [(Qw 6),(Qw 7),(Qw 8)],Qh 10 (tq 9),⟨(some 11),false,(some (10,true)),.fieldAddr 33 (tq 1)⟩,⟨(some 12),false,(some (10,true)),.load false 1 (tq 11) false⟩,⟨(some 13),false,(some (10,true)),.move (tq 3) false⟩,⟨(some 14),false,(some (10,true)),.makeFunc 298 [(tq 1)]⟩,⟨(some 15),false,(some (10,true)),.call 295 [(Qw 12),(Qw 13),(Qw 14)] []⟩,oo 16 (.pick (tq 10) (tq 15) (Qg false)),Qh 2 (tq 16)]) .ret)))⟩
def zpl:Hint:=⟨[(0,0)],[],[none],[],[],false,false,[]⟩
def zmq:Nat→Sh:=yT [(6,(.sl 5)),(12,(.sl 5))]
def zmm(zY:zi1)(zO:zgO)(L:Nat):CBC:=(zxT 295 [6,12,398,22,20] (zgS zO L) (zxT 295 [6,12,396,22,20] (zjj zY L) noC))
def zna{β:Type}(zY:zi1)(zO:zgO)(L:Nat)(C:List V)(z:Bool→Option β):Option β:=cLd 5 C 32 fun D=>zY β L D ([]:List (V × V)) C (fun E F A=>chk ([0,(XI A)]=[0,(XI C)]) (ifb E (cLd 5 A 33 fun G=>zO β L G F A (fun I M J=>chk ([0,(XI J)]=[0,(XI A)]) (z I))) (z false)))
theorem zwI{β:Type}(zY:zi1)(zO:zgO)(L:Nat)(z:List V)(k:KK β):yl zmq (zmm zY zO L) L zic [(V.agg z)] [] k=zna zY zO L z (fun z=>k (V.sc (.bool z)) []):=by kernel_rfl
abbrev zbH:=∀ (β:Type),Nat→List V→(Bool→Option β)→Option β
def xq(β:Type)(L:Nat)(A:List V)(z:Bool→Option β):Option β:=zna zY zO L A z
def zeR(xq:zbH)(L:Nat)(β:Type)(args:List V)(bor:Bor)(k:KK β):Option β:=match args,bor with
 | [a0],[]=>aG a0 fun z=>xq β L z (fun z=>k (V.sc (.bool z)) [])
 | _,_=>none
theorem zwM(L:Nat)(β:Type)(args:List V)(bor:Bor)(k:KK β)(r:β)(h:zeR xq L β args bor k=some r):yl zmq (zmm zY zO L) L zic args bor k=some r:=by
 unfold zeR at h
 split at h
 ·have q:=xM h; clear h; obtain ⟨z,rfl,h⟩:=q
  exact (zwI zY zO L z k).trans h
 ·cases h
def zbF:CF:=⟨8,[.tmp 2],(.seq (.reg [Qi 2 (.const (.gs 5 []))]) (.fork (.reg [Qh 3 (tq 0),oo 4 (.nilT false (tq 3))]) (tq 4) (.seq (.reg [oo 2 (.nilS 5 7)]) (.seq (.mask (bl 4 8) (bl 128 8)) .ret)) (.seq (.reg [⟨(some 5),true,none,.buildSlice 5 0 [(.sc (.int .i64 0)),(.sc (.int .u32 0)),(.sc (.int .u16 0)),(.sc (.int .u32 0)),(.sc (.int .u32 0))] []⟩,Qh 6 (tq 0),⟨(some 7),true,none,.append 5 24 (tq 5) (tq 6)⟩,Qi 2 (tq 7)]) (.seq (.mask (bl 4 8) (bl 128 8)) .ret))))⟩
def zeJ:Hint:=⟨[(0,0),(2,0),(3,3)],[(3,0),(3,2)],[none,some ((bl 4 8),(bl 128 8)),some ((bl 4 8),(bl 128 8))],[],[(2,0,[7])],false,false,[]⟩
def zc3:Nat→Sh:=yT []
def zcS(L:Nat):CBC:=noC
def zde{β:Type}(L:Nat)(C:List (List V))(z:List (List V)→Option β):Option β:=lc C (z ([]:List (List V))) (fun h0 A=>chk ((0+XI (h0::A))*24≤yr∧0+XI (h0::A)≤yr) (chk ((XI (h0::A))≠0∨(XI (XM (h0::A)))=0) (z (ye 5 (XI (h0::A)) (XM (h0::A))))))
theorem zj1{β:Type}(L:Nat)(z:List (List V))(k:KK β):yl zc3 (zcS L) L zbF [(V.sl 5 z)] [] k=zde L z (fun z=>k (V.fr 5 z) []):=by kernel_rfl
abbrev zbP:=∀ (β:Type),Nat→List (List V)→(List (List V)→Option β)→Option β
def zp(β:Type)(L:Nat)(A:List (List V))(z:List (List V)→Option β):Option β:=zde L A z
def zbN(zp:zbP)(L:Nat)(β:Type)(args:List V)(bor:Bor)(k:KK β):Option β:=match args,bor with
 | [a0],[]=>aL 5 a0 fun z=>zp β L z (fun z=>k (V.fr 5 z) [])
 | _,_=>none
theorem zj7(L:Nat)(β:Type)(args:List V)(bor:Bor)(k:KK β)(r:β)(h:zbN zp L β args bor k=some r):yl zc3 (zcS L) L zbF args bor k=some r:=by
 unfold zbN at h
 split at h
 ·have q:=zaF h; clear h; obtain ⟨z,rfl,h⟩:=q
  exact (zj1 L z k).trans h
 ·cases h
def zhx:CF:=⟨12,[.cellS 2 34 false],(.seq (.reg [oo 1 (.box false (tq 0)),oo 2 (.alloc false (rp 32 (.sc (.int .u8 0)) (rp 2 (.gs 5 []) [])))]) (.seq (.reg [Ql 3 32 (tq 1),Qj 4 1 (tq 3),⟨(some 5),true,none,.call 401 [(Qw 4)] []⟩,Ql 6 32 (tq 1),Qm 1 (tq 6) (tq 5)]) (.seq (.reg [Ql 7 33 (tq 1),Qj 8 1 (tq 7),⟨(some 9),true,none,.call 401 [(Qw 8)] []⟩,Ql 10 33 (tq 1),Qm 1 (tq 10) (tq 9)]) (.seq (.reg [oo 11 (.load true 34 (tq 1) true),Qm 34 (tq 2) (tq 11)]) .ret))))⟩
def zn0:Hint:=⟨[(3,0)],[(1,2),(2,2)],[none],[],[],false,true,[]⟩
def zk4:Nat→Sh:=yT [(1,(.row [(.int .u8),(.int .u8),(.int .u8),(.int .u8),(.int .u8),(.int .u8),(.int .u8),(.int .u8),(.int .u8),(.int .u8),(.int .u8),(.int .u8),(.int .u8),(.int .u8),(.int .u8),(.int .u8),(.int .u8),(.int .u8),(.int .u8),(.int .u8),(.int .u8),(.int .u8),(.int .u8),(.int .u8),(.int .u8),(.int .u8),(.int .u8),(.int .u8),(.int .u8),(.int .u8),(.int .u8),(.int .u8),(.sl 5),(.sl 5)]))]
def zlm(zp:zbP)(L:Nat):CBC:=(xy 401 (zbN zp L) noC)
abbrev zjq(β:Type):Type:=Int→Int→Int→Int→Int→Int→Int→Int→Int→Int→Int→Int→Int→Int→Int→Int→Int→Int→Int→Int→Int→Int→Int→Int→Int→Int→Int→Int→Int→Int→Int→Int→Nat→Nat→List V→List V→Option β
def zma{β:Type}(zp:zbP)(L:Nat)(z:List V)(A:zjq β):Option β:=chk (XI z=34) (cI .u8 z 0 fun v0=>cI .u8 z 1 fun v1=>cI .u8 z 2 fun v2=>cI .u8 z 3 fun v3=>cI .u8 z 4 fun v4=>cI .u8 z 5 fun v5=>cI .u8 z 6 fun v6=>cI .u8 z 7 fun v7=>cI .u8 z 8 fun v8=>cI .u8 z 9 fun v9=>cI .u8 z 10 fun E=>cI .u8 z 11 fun F=>cI .u8 z 12 fun G=>cI .u8 z 13 fun I=>cI .u8 z 14 fun J=>cI .u8 z 15 fun M=>cI .u8 z 16 fun N=>cI .u8 z 17 fun O=>cI .u8 z 18 fun P=>cI .u8 z 19 fun Q=>cI .u8 z 20 fun R=>cI .u8 z 21 fun S=>cI .u8 z 22 fun U=>cI .u8 z 23 fun W=>cI .u8 z 24 fun X=>cI .u8 z 25 fun Y=>cI .u8 z 26 fun Z=>cI .u8 z 27 fun aa=>cI .u8 z 28 fun ab=>cI .u8 z 29 fun ac=>cI .u8 z 30 fun ad=>cI .u8 z 31 fun ae=>cL 5 z 32 fun af=>cL 5 z 33 fun ag=>zp β L af (fun C=>zp β L ag (fun D=>A v0 v1 v2 v3 v4 v5 v6 v7 v8 v9 E F G I J M N O P Q R S U W X Y Z aa ab ac ad ae (XI C) (XI D) (XM C) (XM D))))
theorem zvh{β:Type}(zp:zbP)(L:Nat)(p0:List V)(k:KK β):yl zk4 (zlm zp L) L zhx [(V.agg p0)] [] k=zma zp L p0 (fun ad ae af ag ah ai aj ak al am C D E F G I J M N O P Q R S U W X Y Z aa ab ac z A b0 b1=>k (V.st [(Qa ad),(Qa ae),(Qa af),(Qa ag),(Qa ah),(Qa ai),(Qa aj),(Qa ak),(Qa al),(Qa am),(Qa C),(Qa D),(Qa E),(Qa F),(Qa G),(Qa I),(Qa J),(Qa M),(Qa N),(Qa O),(Qa P),(Qa Q),(Qa R),(Qa S),(Qa U),(Qa W),(Qa X),(Qa Y),(Qa Z),(Qa aa),(Qa ab),(Qa ac),(V.own 0 0 z 5),(V.own 1 0 A 5)]) [(.live true b0),(.live true b1)]):=by kernel_rfl
abbrev zdr:=∀ (β:Type),Nat→List V→(Int→Int→Int→Int→Int→Int→Int→Int→Int→Int→Int→Int→Int→Int→Int→Int→Int→Int→Int→Int→Int→Int→Int→Int→Int→Int→Int→Int→Int→Int→Int→Int→Nat→Nat→List V→List V→Option β)→Option β
def xB(β:Type)(L:Nat)(A:List V)(z:zjq β):Option β:=zma zp L A z
def zfQ(xB:zdr)(L:Nat)(β:Type)(args:List V)(bor:Bor)(k:KK β):Option β:=match args,bor with
 | [a0],[]=>aG a0 fun p0=>xB β L p0 (fun ad ae af ag ah ai aj ak al am C D E F G I J M N O P Q R S U W X Y Z aa ab ac z A b0 b1=>k (V.st [(Qa ad),(Qa ae),(Qa af),(Qa ag),(Qa ah),(Qa ai),(Qa aj),(Qa ak),(Qa al),(Qa am),(Qa C),(Qa D),(Qa E),(Qa F),(Qa G),(Qa I),(Qa J),(Qa M),(Qa N),(Qa O),(Qa P),(Qa Q),(Qa R),(Qa S),(Qa U),(Qa W),(Qa X),(Qa Y),(Qa Z),(Qa aa),(Qa ab),(Qa ac),(V.own 0 0 z 5),(V.own 1 0 A 5)]) [(.live true b0),(.live true b1)])
 | _,_=>none
theorem zvR(L:Nat)(β:Type)(args:List V)(bor:Bor)(k:KK β)(r:β)(h:zfQ xB L β args bor k=some r):yl zk4 (zlm zp L) L zhx args bor k=some r:=by
 unfold zfQ at h
 split at h
 ·have q:=xM h; clear h; obtain ⟨z,rfl,h⟩:=q
  exact (zvh zp L z k).trans h
 ·cases h
def zjG:CF:=⟨17,[.tmp 4],(.seq (.reg [Qv 2 (tq 0),Qv 3 (tq 1),Qh 4 (Qg false)]) (.seq (.reg [Ql 5 0 (tq 2),Qj 6 1 (tq 5),Ql 7 0 (tq 3),Qj 8 1 (tq 7),Qp 9 .eql (tq 6) (tq 8),Qh 10 (tq 9),⟨(some 11),false,(some (10,true)),.fieldAddr 1 (tq 2)⟩,⟨(some 12),false,(some (10,true)),.load false 1 (tq 11) false⟩,⟨(some 13),false,(some (10,true)),.fieldAddr 1 (tq 3)⟩,⟨(some 14),false,(some (10,true)),.load false 1 (tq 13) false⟩,⟨(some 15),false,(some (10,true)),.bin .eql (tq 12) (tq 14)⟩,oo 16 (.pick (tq 10) (tq 15) (Qg false)),Qh 4 (tq 16)]) .ret))⟩
def zqE:Hint:=⟨[],[],[none],[],[],false,false,[]⟩
def znt:Nat→Sh:=yT [(6,(.int .u32)),(8,(.int .u32)),(12,(.int .u16)),(14,(.int .u16))]
def zni(L:Nat):CBC:=noC
def zpb{β:Type}(L:Nat)(A C:List V)(z:Bool→Option β):Option β:=cI .u32 A 0 fun D=>cI .u32 C 0 fun E=>ifb ((D:Int)==E) (cI .u16 A 1 fun F=>cI .u16 C 1 fun G=>z ((F:Int)==G)) (z false)
theorem zxQ{β:Type}(L:Nat)(z A:List V)(k:KK β):yl znt (zni L) L zjG [(V.agg z),(V.agg A)] [] k=zpb L z A (fun z=>k (V.sc (.bool z)) []):=by kernel_rfl
abbrev zky:=∀ (β:Type),Nat→List V→List V→(Bool→Option β)→Option β
def y7(β:Type)(L:Nat)(A C:List V)(z:Bool→Option β):Option β:=zpb L A C z
def zkK(y7:zky)(L:Nat)(β:Type)(args:List V)(bor:Bor)(k:KK β):Option β:=match args,bor with
 | [a0,a1],[]=>aG a0 fun z=>aG a1 fun A=>y7 β L z A (fun z=>k (V.sc (.bool z)) [])
 | _,_=>none
theorem zw7(L:Nat)(β:Type)(args:List V)(bor:Bor)(k:KK β)(r:β)(h:zkK y7 L β args bor k=some r):yl znt (zni L) L zjG args bor k=some r:=by
 unfold zkK at h
 split at h
 ·have q:=xM h; clear h; obtain ⟨z,rfl,h⟩:=q
  have q:=xM h; clear h; obtain ⟨A,rfl,h⟩:=q
  exact (zxQ L z A k).trans h
 ·cases h
def zht:CF:=⟨8,[.tmp 3],(.seq (.reg [Qv 2 (tq 0),Qh 3 (Qg false)]) (.seq (.reg [Ql 4 1 (tq 2),Qk 5 3 (tq 4),Qk 6 3 (tq 1),Qs 7 404 [(Qw 5),(Qw 6)],Qh 3 (tq 7)]) .ret))⟩
def zo8:Hint:=⟨[],[],[none],[],[],false,false,[]⟩
def zk0:Nat→Sh:=yT []
def zkW(y7:zky)(L:Nat):CBC:=(xy 404 (zkK y7 L) noC)
def zmo{β:Type}(y7:zky)(L:Nat)(C A:List V)(z:Bool→List V→Option β):Option β:=chk (1+3≤(XI C)) (chk (0+3≤(XI A)) (y7 β L (XK 3 (XL 1 C)) (XK 3 A) (fun D=>z D A)))
theorem zv6{β:Type}(y7:zky)(L:Nat)(z A:List V)(k:KK β):yl zk0 (zkW y7 L) L zht [(V.agg z),(V.ptr 0 0)] [(.live true A)] k=zmo y7 L z A (fun z A=>k (V.sc (.bool z)) [(.live true A)]):=by kernel_rfl
abbrev zD:=∀ (β:Type),Nat→List V→List V→(Bool→List V→Option β)→Option β
def zd(β:Type)(L:Nat)(A C:List V)(z:Bool→List V→Option β):Option β:=zmo y7 L A C z
def zfK(zd:zD)(L:Nat)(β:Type)(args:List V)(bor:Bor)(k:KK β):Option β:=match args,bor with
 | [a0,a1],[(.live true z)]=>aG a0 fun A=>aP 0 0 a1 (zd β L A z (fun A z=>k (V.sc (.bool A)) [(.live true z)]))
 | _,_=>none
theorem zvH(L:Nat)(β:Type)(args:List V)(bor:Bor)(k:KK β)(r:β)(h:zfK zd L β args bor k=some r):yl zk0 (zkW y7 L) L zht args bor k=some r:=by
 unfold zfK at h
 split at h
 ·have q:=xM h; clear h; obtain ⟨z,rfl,h⟩:=q
  have q:=zoD h; clear h; obtain ⟨rfl,h⟩:=q
  exact (zv6 y7 L z _ k).trans h
 ·cases h
def zac:CC:=(.seq (.reg [Qp 9 .lss (tq 8) (tq 7)]) (.seq (.cond (tq 9) .skip (.seq (.mask (bl 0 19) (bl 458703 19)) (.exit 0))) (.seq (.block 1 (.seq (.reg [Qh 10 (tq 8),Qh 5 (tq 10)]) (.seq (.reg [Qh 11 (tq 1),Qh 12 (tq 0),Qh 13 (tq 5),Qo 14 5 (tq 12) (tq 13),Qk 15 5 (tq 14),oo 16 (.callv (tq 11) [(Qw 15)] [])]) (.cond (tq 16) (.seq (.reg [Qh 17 (tq 5),Qh 4 (tq 17)]) (.seq (.mask (bl 16 19) (bl 458719 19)) .ret)) .skip)))) (.reg [Qp 18 .add (tq 8) (Qf 1),Qh 8 (tq 18)]))))
def zaV:CC:=(.seq (.reg [Qh 4 (Qf (-1))]) .ret)
def yJ:CF:=⟨19,[.tmp 4],(.seq (.reg [Qh 4 (Qf 0)]) (.seq (.seq (.reg [Qh 6 (tq 0),Qr 7 (tq 6),Qh 8 (Qf 0)]) (.block 0 (.loop (bl 387 19) (bl 458703 19) zac))) zaV))⟩
def zdR:Hint:=⟨[],[],[none,some ((bl 387 19),(bl 458703 19)),none,some ((bl 0 19),(bl 458703 19)),none,none,some ((bl 16 19),(bl 458719 19)),none],[],[],false,false,[]⟩
def xC:Nat→Sh:=yT []
def yC(zd:zD)(L:Nat):CBC:=(xy 403 (zfK zd L) noC)
def zaK:St→St:=zbd 2 (bl 387 19) (bl 458703 19)
def zar(z:Nat)(A C:Int)(D E:List V):St:=⟨((V.own 0 0 z 5)::((V.fn 403 [(V.ptr 1 0)])::(jn 5 ((Qe A)::((Qe C)::(jn 10 [])))))),((.live true D)::((.live true E)::(gn 19 [])))⟩
def zbM(z:Int)(A C:List V):St:=⟨(jn 4 ((Qe z)::(jn 14 []))),((.live true A)::((.live true C)::(gn 19 [])))⟩
def zbW(z A:List V):St:=⟨(jn 19 []),((.live true z)::((.live true A)::(gn 19 [])))⟩
def zcv{β:Type}(zd:zD)(L:Nat)(A:Nat)(C D:List V)(z:Nat→Int→Int→List V→List V→Option β):Option β:=z A ((A:Nat):Int) (0:Int) C D
theorem ziB{β:Type}(zd:zD)(L:Nat)(z:Nat)(A C:List V)(k:KK β):yl xC (yC zd L) L yJ [(V.own 0 0 z 5),(V.fn 403 [(V.ptr 1 0)])] [(.live true A),(.live true C)] k=zcv zd L z A C (fun z D E A C=>xE (xi xC (yC zd L) 2 L zac) zaK L (zar z D E A C) (zF 0 (zQ (xi xC (yC zd L) 2 L zaV) (xW 2 (CF.res yJ) k)))):=by kernel_rfl
def zbV{β:Type}(zd:zD)(L:Nat)(E:Nat)(J z:Int)(C F:List V)(D:Int→List V→List V→Option β)(A:Nat→Int→Int→List V→List V→Option β)(G:List V→List V→Option β):Option β:=ifb (decide (z<J)) (chk (0≤z∧z<((E:Nat):Int)) (chk ((0+((XJ z)*5))+5≤(XI C)) (zd β L (XK 5 (XL (0+((XJ z)*5)) C)) F (fun M I=>chk ([(XI I)]=[(XI F)]) (ifb M (D z C I) (lt (QF .i64 ((z:Int)+(1:Int))) fun N=>A E J N C I)))))) (G C F)
theorem zgY{β:Type}(zd:zD)(L:Nat)(C:Nat)(D E:Int)(z A:List V)(X:St→Option β)(K:KT β):xi xC (yC zd L) 2 L zac (zar C D E z A) (zcz zaK X K)=zbV zd L C D E z A (fun F z A=>K .ret (zbM F z A)) (fun C D E z A=>X (zar C D E z A)) (fun z A=>K (.exit 0) (zbW z A)):=by kernel_rfl
def zdm{β:Type}(zd:zD)(L:Nat)(A:Int)(C D:List V)(z:Int→List V→List V→Option β):Option β:=z A C D
theorem zgi{β:Type}(zd:zD)(L:Nat)(C:Int)(z A:List V)(k:KK β):(zF 0 (zQ (xi xC (yC zd L) 2 L zaV) (xW 2 (CF.res yJ) k))) .ret (zbM C z A)=zdm zd L C z A (fun D z A=>k (Qe D) [(.live true z),(.live true A)]):=by kernel_rfl
def zdt{β:Type}(zd:zD)(L:Nat)(A C:List V)(z:Int→List V→List V→Option β):Option β:=z (-1:Int) A C
theorem zgt{β:Type}(zd:zD)(L:Nat)(z A:List V)(k:KK β):(zF 0 (zQ (xi xC (yC zd L) 2 L zaV) (xW 2 (CF.res yJ) k))) (.exit 0) (zbW z A)=zdt zd L z A (fun C z A=>k (Qe C) [(.live true z),(.live true A)]):=by kernel_rfl
def zah{β:Type}(zd:zD)(L:Nat)(z:Int→List V→List V→Option β)(A:List V→List V→Option β):Nat→Nat→Int→Int→List V→List V→Option β
 | 0,_,_,_,_,_=>none
 | n+1,C,D,E,F,G=>zbV zd L C D E F G z (fun C D E F G=>zah zd L z A n C D E F G) A
theorem zdk{β:Type}(zd:zD)(L:Nat)(K:KT β):∀ (n:Nat) (C:Nat) (D E:Int) (z A:List V),xE (xi xC (yC zd L) 2 L zac) zaK n (zar C D E z A) K=zah zd L (fun F z A=>K .ret (zbM F z A)) (fun z A=>K (.exit 0) (zbW z A)) n C D E z A:=by
 intro n
 induction n with
 | zero=>intros; rfl
 | succ n ih=>
  intro C D E z A
  refine (zgY zd L C D E z A (fun σ=>xE (xi xC (yC zd L) 2 L zac) zaK n σ K) K).trans ?_
  simp only [ih]
  rfl
def zbc{β:Type}(zd:zD)(L:Nat)(D:Nat)(z A:List V)(C:Int→List V→List V→Option β):Option β:=zcv zd L D z A (fun D E F z A=>zah zd L (fun G z A=>zdm zd L G z A C) (fun z A=>zdt zd L z A C) L D E F z A)
theorem ziG{β:Type}(zd:zD)(L:Nat)(z:Nat)(A C:List V)(k:KK β):yl xC (yC zd L) L yJ [(V.own 0 0 z 5),(V.fn 403 [(V.ptr 1 0)])] [(.live true A),(.live true C)] k=zbc zd L z A C (fun D A C=>k (Qe D) [(.live true A),(.live true C)]):=by
 refine (ziB zd L z A C k).trans ?_
 unfold zbc
 first
  | (simp only [zdk,zgi,zgt]; done)
  | (simp only [zdk]; rfl)
abbrev zbb:=∀ (β:Type),Nat→Nat→List V→List V→(Int→List V→List V→Option β)→Option β
def zn(β:Type)(L:Nat)(A:Nat)(C D:List V)(z:Int→List V→List V→Option β):Option β:=zbc zd L A C D z
def za7(zn:zbb)(L:Nat)(β:Type)(args:List V)(bor:Bor)(k:KK β):Option β:=match args,bor with
 | [a0,a1],[(.live true z),(.live true A)]=>aO0 0 5 a0 fun C=>aF 403 [(1,0)] a1 (zn β L C z A (fun D z A=>k (Qe D) [(.live true z),(.live true A)]))
 | _,_=>none
theorem ziP(L:Nat)(β:Type)(args:List V)(bor:Bor)(k:KK β)(r:β)(h:za7 zn L β args bor k=some r):yl xC (yC zd L) L yJ args bor k=some r:=by
 unfold za7 at h
 split at h
 ·have q:=zhd h; clear h; obtain ⟨z,rfl,h⟩:=q
  have q:=zBj h; clear h; obtain ⟨rfl,h⟩:=q
  exact (ziG zd L z _ _ k).trans h
 ·cases h
def zgl:CF:=⟨8,[.tmp 4],(.seq (.reg [Qv 3 (tq 1),Qh 4 (Qf 0)]) (.seq (.reg [Qh 5 (tq 0),oo 6 (.makeFunc 403 [(tq 3)]),Qs 7 402 [((tq 5),2),((tq 6),2)],Qh 4 (tq 7)]) .ret))⟩
def zqS:Hint:=⟨[(1,2)],[],[none],[],[],false,false,[]⟩
def zno:Nat→Sh:=yT []
def znn(zn:zbb)(L:Nat):CBC:=(xy 402 (za7 zn L) noC)
def zpf{β:Type}(zn:zbb)(L:Nat)(A:Nat)(C D:List V)(z:Int→List V→Option β):Option β:=zn β L A D C (fun F E G=>chk ([(XI E),(XI G)]=[(XI D),(XI C)]) (z F E))
theorem zxX{β:Type}(zn:zbb)(L:Nat)(A:Nat)(C z:List V)(k:KK β):yl zno (znn zn L) L zgl [(V.own 0 0 A 5),(V.agg C)] [(.live true z)] k=zpf zn L A C z (fun D z=>k (Qe D) [(.live true z)]):=by kernel_rfl
abbrev zkj:=∀ (β:Type),Nat→Nat→List V→List V→(Int→List V→Option β)→Option β
def xZ(β:Type)(L:Nat)(A:Nat)(C D:List V)(z:Int→List V→Option β):Option β:=zpf zn L A C D z
def zkD(xZ:zkj)(L:Nat)(β:Type)(args:List V)(bor:Bor)(k:KK β):Option β:=match args,bor with
 | [a0,a1],[(.live true z)]=>aO0 0 5 a0 fun A=>aG a1 fun C=>xZ β L A C z (fun D z=>k (Qe D) [(.live true z)])
 | _,_=>none
theorem zw0(L:Nat)(β:Type)(args:List V)(bor:Bor)(k:KK β)(r:β)(h:zkD xZ L β args bor k=some r):yl zno (znn zn L) L zgl args bor k=some r:=by
 unfold zkD at h
 split at h
 ·have q:=zhd h; clear h; obtain ⟨z,rfl,h⟩:=q
  have q:=xM h; clear h; obtain ⟨A,rfl,h⟩:=q
  exact (zxX zn L z A _ k).trans h
 ·cases h
def zcY:CC:=(.seq (.seq (.reg [Qh 24 (tq 7),Qh 25 (tq 0),Qr 26 (tq 25),Qp 27 .lss (tq 24) (tq 26),Qh 28 (tq 27),⟨(some 29),false,(some (28,true)),.move (tq 0) false⟩,⟨(some 30),false,(some (28,true)),.move (tq 7) false⟩,⟨(some 31),false,(some (28,true)),.indexAddrS 5 (tq 29) (tq 30)⟩,⟨(some 32),false,(some (28,true)),.fieldAddr 0 (tq 31)⟩,⟨(some 33),false,(some (28,true)),.load false 1 (tq 32) false⟩,⟨(some 34),false,(some (28,true)),.move (tq 1) false⟩,⟨(some 35),false,(some (28,true)),.bin .eql (tq 33) (tq 34)⟩,oo 36 (.pick (tq 28) (tq 35) (Qg false))]) (.cond (tq 36) .skip (.seq (.mask (bl 192 41) (bl 2198956146687 41)) (.exit 2)))) (.block 3 (.reg [Qh 37 (tq 7),Qp 38 .add (tq 37) (Qf 1),Qh 7 (tq 38)])))
def zhX:CC:=(.seq (.reg [Qh 39 (tq 6),Qh 40 (tq 7),Qh 4 (tq 39),Qh 5 (tq 40)]) .ret)
def zdD:CC:=(.seq (.seq (.reg [Qh 8 (tq 6),Qh 9 (tq 0),Qr 10 (tq 9),Qp 11 .lss (tq 8) (tq 10),Qh 12 (tq 11),⟨(some 13),false,(some (12,true)),.move (tq 0) false⟩,⟨(some 14),false,(some (12,true)),.move (tq 6) false⟩,⟨(some 15),false,(some (12,true)),.indexAddrS 5 (tq 13) (tq 14)⟩,⟨(some 16),false,(some (12,true)),.fieldAddr 0 (tq 15)⟩,⟨(some 17),false,(some (12,true)),.load false 1 (tq 16) false⟩,⟨(some 18),false,(some (12,true)),.move (tq 1) false⟩,⟨(some 19),false,(some (12,true)),.bin .lss (tq 17) (tq 18)⟩,oo 20 (.pick (tq 12) (tq 19) (Qg false))]) (.cond (tq 20) .skip (.seq (.mask (bl 67 41) (bl 2199023254527 41)) (.exit 0)))) (.block 1 (.reg [Qh 21 (tq 6),Qp 22 .add (tq 21) (Qf 1),Qh 6 (tq 22)])))
def zf8:CC:=(.seq (.reg [Qh 23 (tq 6),Qh 7 (tq 23)]) (.seq (.block 2 (.loop (bl 195 41) (bl 2198956146687 41) zcY)) zhX))
def zaG:CF:=⟨41,[.tmp 4,.tmp 5],(.seq (.reg [Qh 4 (Qf 0),Qh 5 (Qf 0)]) (.seq (.reg [Qh 6 (Qf 0)]) (.seq (.block 0 (.loop (bl 67 41) (bl 2199023254527 41) zdD)) zf8)))⟩
def znW:Hint:=⟨[],[],[none,some ((bl 67 41),(bl 2199023254527 41)),none,some ((bl 67 41),(bl 2199023254527 41)),none,none,some ((bl 195 41),(bl 2198956146687 41)),none,some ((bl 192 41),(bl 2198956146687 41)),none,none],[],[],false,false,[]⟩
def xR:Nat→Sh:=yT [(17,(.int .i64)),(33,(.int .i64))]
def zR(L:Nat):CBC:=noC
def zfp:St→St:=zbd 1 (bl 67 41) (bl 2199023254527 41)
def zey:St→St:=zbd 1 (bl 195 41) (bl 2198956146687 41)
def zd5(z:Nat)(A C:Int)(D:List V):St:=⟨((V.own 0 0 z 5)::((Qe A)::(jn 4 ((Qe C)::(jn 34 []))))),((.live true D)::(gn 41 []))⟩
def zfo(z:Nat)(A C:Int)(D:List V):St:=⟨((V.own 0 0 z 5)::((Qe A)::(jn 4 ((Qe C)::(jn 34 []))))),((.live true D)::(gn 41 []))⟩
def zdJ(z:Nat)(A C D:Int)(E:List V):St:=⟨((V.own 0 0 z 5)::((Qe A)::(jn 4 ((Qe C)::((Qe D)::(jn 33 [])))))),((.live true E)::(gn 41 []))⟩
def ziE(z A:Int)(C:List V):St:=⟨(jn 6 ((Qe z)::((Qe A)::(jn 33 [])))),((.live true C)::(gn 41 []))⟩
def zmg{β:Type}(L:Nat)(A:Nat)(C:Int)(D:List V)(z:Nat→Int→Int→List V→Option β):Option β:=z A C (0:Int) D
theorem zv1{β:Type}(L:Nat)(z:Nat)(A:Int)(C:List V)(k:KK β):yl xR (zR L) L zaG [(V.own 0 0 z 5),(Qe A)] [(.live true C)] k=zmg L z A C (fun z A D C=>xE (xi xR (zR L) 1 L zdD) zfp L (zd5 z A D C) (zF 0 (zQ (xi xR (zR L) 1 L zf8) (xW 1 (CF.res zaG) k)))):=by kernel_rfl
def ziL{β:Type}(L:Nat)(z:Nat)(E A:Int)(F:List V)(C:Nat→Int→Int→List V→Option β)(D:Nat→Int→Int→List V→Option β):Option β:=ifb (decide (A<((z:Nat):Int))) (chk (0≤A∧A<((z:Nat):Int)) (cI .i64 F ((0+((XJ A)*5))+0) fun G=>ifb (decide (G<E)) (lt (QF .i64 ((A:Int)+(1:Int))) fun I=>C z E I F) (D z E A F))) (D z E A F)
theorem zs3{β:Type}(L:Nat)(z:Nat)(A C:Int)(D:List V)(X:St→Option β)(K:KT β):xi xR (zR L) 1 L zdD (zd5 z A C D) (zcz zfp X K)=ziL L z A C D (fun z A C D=>X (zd5 z A C D)) (fun z A C D=>K (.exit 0) (zfo z A C D)):=by kernel_rfl
def zg4{β:Type}(L:Nat)(A:Nat)(D C:Int)(E:List V)(z:Nat→Int→Int→Int→List V→Option β):Option β:=z A D C C E
theorem zq0{β:Type}(L:Nat)(z:Nat)(A C:Int)(D:List V)(k:KK β):(zF 0 (zQ (xi xR (zR L) 1 L zf8) (xW 1 (CF.res zaG) k))) (.exit 0) (zfo z A C D)=zg4 L z A C D (fun z A C E D=>xE (xi xR (zR L) 1 L zcY) zey L (zdJ z A C E D) (zF 2 (zQ (xi xR (zR L) 1 L zhX) (xW 1 (CF.res zaG) k)))):=by kernel_rfl
def zha{β:Type}(L:Nat)(C:Nat)(G F A:Int)(E:List V)(z:Nat→Int→Int→Int→List V→Option β)(D:Int→Int→List V→Option β):Option β:=ifb (decide (A<((C:Nat):Int))) (chk (0≤A∧A<((C:Nat):Int)) (cI .i64 E ((0+((XJ A)*5))+0) fun I=>ifb ((I:Int)==G) (lt (QF .i64 ((A:Int)+(1:Int))) fun J=>z C G F J E) (D F A E))) (D F A E)
theorem zrk{β:Type}(L:Nat)(z:Nat)(E A C:Int)(D:List V)(X:St→Option β)(K:KT β):xi xR (zR L) 1 L zcY (zdJ z E A C D) (zcz zey X K)=zha L z E A C D (fun z E A C D=>X (zdJ z E A C D)) (fun A C D=>K (.exit 2) (ziE A C D)):=by kernel_rfl
def zkt{β:Type}(L:Nat)(A C:Int)(D:List V)(z:Int→Int→List V→Option β):Option β:=z A C D
theorem zp4{β:Type}(L:Nat)(D E:Int)(z:List V)(k:KK β):(zF 2 (zQ (xi xR (zR L) 1 L zhX) (xW 1 (CF.res zaG) k))) (.exit 2) (ziE D E z)=zkt L D E z (fun A C z=>k (V.tup [(Qe A),(Qe C)]) [(.live true z)]):=by kernel_rfl
def zdQ{β:Type}(L:Nat)(z:Nat→Int→Int→List V→Option β):Nat→Nat→Int→Int→List V→Option β
 | 0,_,_,_,_=>none
 | n+1,A,C,D,E=>ziL L A C D E (fun A C D E=>zdQ L z n A C D E) z
theorem zlb{β:Type}(L:Nat)(K:KT β):∀ (n:Nat) (z:Nat) (A C:Int) (D:List V),xE (xi xR (zR L) 1 L zdD) zfp n (zd5 z A C D) K=zdQ L (fun z A C D=>K (.exit 0) (zfo z A C D)) n z A C D:=by
 intro n
 induction n with
 | zero=>intros; rfl
 | succ n ih=>
  intro z A C D
  refine (zs3 L z A C D (fun σ=>xE (xi xR (zR L) 1 L zdD) zfp n σ K) K).trans ?_
  simp only [ih]
  rfl
def zdl{β:Type}(L:Nat)(z:Int→Int→List V→Option β):Nat→Nat→Int→Int→Int→List V→Option β
 | 0,_,_,_,_,_=>none
 | n+1,A,C,D,E,F=>zha L A C D E F (fun A C D E F=>zdl L z n A C D E F) z
theorem zjQ{β:Type}(L:Nat)(K:KT β):∀ (n:Nat) (z:Nat) (E A C:Int) (D:List V),xE (xi xR (zR L) 1 L zcY) zey n (zdJ z E A C D) K=zdl L (fun A C D=>K (.exit 2) (ziE A C D)) n z E A C D:=by
 intro n
 induction n with
 | zero=>intros; rfl
 | succ n ih=>
  intro z E A C D
  refine (zrk L z E A C D (fun σ=>xE (xi xR (zR L) 1 L zcY) zey n σ K) K).trans ?_
  simp only [ih]
  rfl
def zee{β:Type}(L:Nat)(z:Nat)(E A:Int)(C:List V)(D:Int→Int→List V→Option β):Option β:=zg4 L z E A C (fun z E A F C=>zdl L (fun A F C=>zkt L A F C D) L z E A F C)
theorem zqD{β:Type}(L:Nat)(z:Nat)(C D:Int)(A:List V)(k:KK β):(zF 0 (zQ (xi xR (zR L) 1 L zf8) (xW 1 (CF.res zaG) k))) (.exit 0) (zfo z C D A)=zee L z C D A (fun E F A=>k (V.tup [(Qe E),(Qe F)]) [(.live true A)]):=by
 refine (zq0 L z C D A k).trans ?_
 unfold zee
 first
  | (simp only [zjQ,zp4]; done)
  | (simp only [zjQ]; rfl)
def zij{β:Type}(L:Nat)(z:Nat)(A:Int)(C:List V)(D:Int→Int→List V→Option β):Option β:=zmg L z A C (fun z A E C=>zdQ L (fun z A E C=>zee L z A E C D) L z A E C)
theorem zvx{β:Type}(L:Nat)(z:Nat)(C:Int)(A:List V)(k:KK β):yl xR (zR L) L zaG [(V.own 0 0 z 5),(Qe C)] [(.live true A)] k=zij L z C A (fun D E A=>k (V.tup [(Qe D),(Qe E)]) [(.live true A)]):=by
 refine (zv1 L z C A k).trans ?_
 unfold zij
 first
  | (simp only [zlb,zqD]; done)
  | (simp only [zlb]; rfl)
abbrev yE:=∀ (β:Type),Nat→Nat→Int→List V→(Int→Int→List V→Option β)→Option β
def yc(β:Type)(L:Nat)(A:Nat)(C:Int)(D:List V)(z:Int→Int→List V→Option β):Option β:=zij L A C D z
def zem(yc:yE)(L:Nat)(β:Type)(args:List V)(bor:Bor)(k:KK β):Option β:=match args,bor with
 | [a0,a1],[(.live true z)]=>aO0 0 5 a0 fun D=>aI .i64 a1 fun E=>yc β L D E z (fun A C z=>k (V.tup [(Qe A),(Qe C)]) [(.live true z)])
 | _,_=>none
theorem zvB(L:Nat)(β:Type)(args:List V)(bor:Bor)(k:KK β)(r:β)(h:zem yc L β args bor k=some r):yl xR (zR L) L zaG args bor k=some r:=by
 unfold zem at h
 split at h
 ·have q:=zhd h; clear h; obtain ⟨z,rfl,h⟩:=q
  have q:=yo h; clear h; obtain ⟨A,rfl,h⟩:=q
  exact (zvx L z A _ k).trans h
 ·cases h
abbrev xg:=∀ (β:Type),Nat→Nat→Int→Nat→List V→List V→(List (List V)→Nat→List V→Option β)→Option β
def ya(β:Type)(L:Nat)(A:Nat)(F:Int)(C:Nat)(D E:List V)(z:List (List V)→Nat→List V→Option β):Option β:=chk (zDG 5 24 A C F D E) (z (zqb 5 A C (XJ F) D E) (XI D) E)
def zaj(ya:xg)(L:Nat)(β:Type)(args:List V)(bor:Bor)(k:KK β):Option β:=match args,bor with
 | [a0,a1,a2],[(.live true C),(.live true D)]=>aO0 0 5 a0 fun z=>aI .i64 a1 fun E=>aO0 1 5 a2 fun A=>ya β L z E A C D (fun rr dd vv=>k (V.fr 5 rr) [.dead dd,.live true vv])
 | _,_=>none
def zaA:CF:=⟨33,[.tmp 6],(.seq (.reg [Qi 6 (.const (.gs 5 []))]) (.seq (.reg [Qh 8 (tq 0),Qh 9 (tq 1),Qh 10 (tq 2),Qh 11 (tq 0),Qr 12 (tq 11),oo 13 (.sliceS 5 (tq 8) (some (tq 9)) (some (tq 10)) (some (tq 12)))]) (.seq (.seq (.reg [Qh 14 (tq 1),Qh 15 (tq 2),Qp 16 .eql (tq 14) (tq 15)]) (.cond (tq 16) (.seq (.reg [Qi 17 (tq 0),Qi 6 (tq 17)]) .ret) .skip)) (.seq (.reg [Qh 18 (tq 0),Qr 19 (tq 18),Qh 7 (tq 19)]) (.seq (.dreg [] [(Qh 20 (tq 0),q0),(Qh 21 (tq 1),q0),(oo 22 (.sliceC 5 (tq 20) (some (tq 21))),q0),(Qh 23 (tq 0),q0),(Qh 24 (tq 2),q0),(oo 25 (.sliceS 5 (tq 23) (some (tq 24)) none none),q0),(oo 26 (.append 5 24 (tq 22) (tq 25)),q0),(Qi 0 (tq 26),q0)]) (.seq (.reg [Qh 27 (tq 0),Qh 28 (tq 0),Qr 29 (tq 28),Qh 30 (tq 7),oo 31 (.sliceS 5 (tq 27) (some (tq 29)) (some (tq 30)) none),oz (.clear 5 [(.sc (.int .i64 0)),(.sc (.int .u32 0)),(.sc (.int .u16 0)),(.sc (.int .u32 0)),(.sc (.int .u32 0))] (tq 31))]) (.seq (.reg [Qi 32 (tq 0),Qi 6 (tq 32)]) .ret)))))))⟩
def zeq:Hint:=⟨[(0,0),(3,0),(3,1),(5,2),(5,7),(7,0),(7,1)],[],[none,none,none],[],[],false,false,[]⟩
def zcL:Nat→Sh:=yT []
def zcK(L:Nat):CBC:=noC
def zc0{β:Type}(L:Nat)(z:Nat)(C A:Int)(D:List V)(E:Nat→List V→Option β):Option β:=chk (0≤((z:Nat):Int)∧((z:Nat):Int)≤((z:Nat):Int)) (chk (0≤A∧A≤(((XJ ((z:Nat):Int)):Nat):Int)) (chk (0≤C∧C≤(((XJ A):Nat):Int)) (ifb (decide ((XJ ((z:Nat):Int))=(XJ C))) (ifb ((C:Int)==A) (E z D) (chk (0≤C∧C≤((z:Nat):Int)) (chk (0≤A∧A≤((z:Nat):Int)) (chk ((XJ C)+XI (ye 5 (z-(XJ A)) (XL (0+((XJ A)*5)) D))≤z) (lt (xd D ((XJ C)*5) (XM (ye 5 (z-(XJ A)) (XL (0+((XJ A)*5)) D)))) fun F=>chk (0≤((z:Nat):Int)∧((z:Nat):Int)≤((z:Nat):Int)) (chk (0≤((((XJ C)+XI (ye 5 (z-(XJ A)) (XL (0+((XJ A)*5)) D))):Nat):Int)∧((((XJ C)+XI (ye 5 (z-(XJ A)) (XL (0+((XJ A)*5)) D))):Nat):Int)≤(((XJ ((z:Nat):Int)):Nat):Int)) (lt (xd F (0+((XJ ((((XJ C)+XI (ye 5 (z-(XJ A)) (XL (0+((XJ A)*5)) D))):Nat):Int))*5)) (XM (We ((XJ ((z:Nat):Int))-(XJ ((((XJ C)+XI (ye 5 (z-(XJ A)) (XL (0+((XJ A)*5)) D))):Nat):Int))) [(Qe (0:Int)),(Qc (0:Int)),(Qb (0:Int)),(Qc (0:Int)),(Qc (0:Int))]))) fun r1=>E ((XJ C)+XI (ye 5 (z-(XJ A)) (XL (0+((XJ A)*5)) D))) r1))))))) (ifb ((C:Int)==A) (E z D) (chk (0≤C∧C≤((z:Nat):Int)) (chk (0≤A∧A≤((z:Nat):Int)) (chk ((XJ C)+XI (ye 5 (z-(XJ A)) (XL (0+((XJ A)*5)) D))≤z) (lt (xd D ((XJ C)*5) (XM (ye 5 (z-(XJ A)) (XL (0+((XJ A)*5)) D)))) fun r2=>chk (0≤((z:Nat):Int)∧((z:Nat):Int)≤((z:Nat):Int)) (chk (0≤((((XJ C)+XI (ye 5 (z-(XJ A)) (XL (0+((XJ A)*5)) D))):Nat):Int)∧((((XJ C)+XI (ye 5 (z-(XJ A)) (XL (0+((XJ A)*5)) D))):Nat):Int)≤(((XJ ((z:Nat):Int)):Nat):Int)) (lt (xd r2 (0+((XJ ((((XJ C)+XI (ye 5 (z-(XJ A)) (XL (0+((XJ A)*5)) D))):Nat):Int))*5)) (XM (We ((XJ ((z:Nat):Int))-(XJ ((((XJ C)+XI (ye 5 (z-(XJ A)) (XL (0+((XJ A)*5)) D))):Nat):Int))) [(Qe (0:Int)),(Qc (0:Int)),(Qb (0:Int)),(Qc (0:Int)),(Qc (0:Int))]))) fun r3=>E ((XJ C)+XI (ye 5 (z-(XJ A)) (XL (0+((XJ A)*5)) D))) r3))))))))))
theorem zjJ{β:Type}(L:Nat)(z:Nat)(C D:Int)(A:List V)(k:KK β):yl zcL (zcK L) L zaA [(V.own 0 0 z 5),(Qe C),(Qe D)] [(.live true A)] k=zc0 L z C D A (fun z A=>k (V.own 0 0 z 5) [(.live true A)]):=by kernel_rfl
abbrev zg:=∀ (β:Type),Nat→Nat→Int→Int→List V→(Nat→List V→Option β)→Option β
def za(β:Type)(L:Nat)(A:Nat)(C D:Int)(E:List V)(z:Nat→List V→Option β):Option β:=zc0 L A C D E z
def zZ(za:zg)(L:Nat)(β:Type)(args:List V)(bor:Bor)(k:KK β):Option β:=match args,bor with
 | [a0,a1,a2],[(.live true A)]=>aO0 0 5 a0 fun z=>aI .i64 a1 fun C=>aI .i64 a2 fun D=>za β L z C D A (fun z A=>k (V.own 0 0 z 5) [(.live true A)])
 | _,_=>none
theorem zjO(L:Nat)(β:Type)(args:List V)(bor:Bor)(k:KK β)(r:β)(h:zZ za L β args bor k=some r):yl zcL (zcK L) L zaA args bor k=some r:=by
 unfold zZ at h
 split at h
 ·have q:=zhd h; clear h; obtain ⟨z,rfl,h⟩:=q
  have q:=yo h; clear h; obtain ⟨A,rfl,h⟩:=q
  have q:=yo h; clear h; obtain ⟨C,rfl,h⟩:=q
  exact (zjJ L z A C _ k).trans h
 ·cases h
end
end Go.Proofs.Ytbimgceighecgaa
