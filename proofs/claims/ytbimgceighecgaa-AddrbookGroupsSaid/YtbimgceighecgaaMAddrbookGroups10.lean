/- Part 10 of the proof of AddrbookGroups: an abstract machine over plain values, its soundness, and the functions of the program on plain values. -/
import Derived.Test.YtbimgceighecgaaRows
import Derived.Test.YtbimgceighecgaaMAddrbookGroups9
namespace Go.Proofs.Ytbimgceighecgaa
set_option linter.unusedVariables false
set_option linter.unusedSimpArgs false
open List renaming length->XG,take->XI,drop->XJ,flatten->XK,replicate->We
open Int renaming toNat->XH,tmod->XM
open IntKind renaming wrap->QF
open Option renaming getD->XL
section
set_option maxRecDepth 100000
def zgv:CC:=(.seq (.reg [Qp 9 .lss (tq 8) (tq 7)]) (.seq (.cond (tq 9) .skip (.seq (.mask (bl 8 22) (bl 4194255 22)) (.exit 0))) (.seq (.block 1 (.seq (.reg [Qh 10 (tq 8),Qo 11 1 (tq 6) (tq 8),Qj 12 1 (tq 11),Qh 4 (tq 10),Qh 5 (tq 12)]) (.reg [Qh 13 (tq 3),Qh 14 (tq 5),Qu 15 .u64 (tq 14),Qh 16 (tq 4),Qp 17 .mul (Qf 8) (tq 16),Qp 18 .shl (tq 15) (tq 17),Qp 19 .or (tq 13) (tq 18),Qh 3 (tq 19)]))) (.reg [Qp 20 .add (tq 8) (Qf 1),Qh 8 (tq 20)]))))
def zqI:CC:=(.seq (.reg [Qh 21 (tq 3),Qh 2 (tq 21)]) .ret)
def zhL:CF:=⟨22,[.tmp 2],(.seq (.reg [oo 2 (.move (.const (.sc (.int .u64 0))) false)]) (.seq (.reg [oo 3 (.move (.const (.sc (.int .u64 0))) false)]) (.seq (.seq (.reg [Qh 6 (tq 0),Qr 7 (tq 6),Qh 8 (Qf 0)]) (.block 0 (.loop (bl 456 22) (bl 4194255 22) zgv))) zqI)))⟩
def zvf:Hint:=⟨[],[],[none,some ((bl 456 22),(bl 4194255 22)),none,some ((bl 8 22),(bl 4194255 22)),none,none],[],[],false,false,[]⟩
def zd2:Nat→Sh:=xY [(12,(.int .u8))]
def zd3(L:Nat):CBC:=noC
def zkt:St→St:=zaY 0 (bl 456 22) (bl 4194255 22)
def zhf(z:Int)(A:List (List V))(C D:Int):St:=⟨(jn 3 ((Qd z)::(jn 2 ((V.sl 1 A)::((Qe C)::((Qe D)::(jn 13 []))))))),(gn 22 [])⟩
def zpd(z:Int):St:=⟨(jn 3 ((Qd z)::(jn 18 []))),(gn 22 [])⟩
def zu6{β:Type}(L:Nat)(A:List (List V))(z:Int→List (List V)→Int→Int→Option β):Option β:=z (0:Int) A ((XG A:Nat):Int) (0:Int)
theorem zBR{β:Type}(L:Nat)(z:List (List V))(k:KK β):yp zd2 (zd3 L) L zhL [(V.sl 1 z)] [] k=zu6 L z (fun A C D E=>yD (zj zd2 (zd3 L) 0 L zgv) zkt L (zhf A C D E) (xB 0 (yN (zj zd2 (zd3 L) 0 L zqI) (yU 0 (CF.res zhL) k)))):=by kernel_rfl
def znX{β:Type}(L:Nat)(D:Int)(E:List (List V))(F A:Int)(z:Int→List (List V)→Int→Int→Option β)(C:Int→Option β):Option β:=ifb (decide (A<F)) (idx E A fun c0=>cI .u8 c0 0 fun I=>lt (QF .u64 I) fun J=>lt (QF .i64 (((8:Int):Int)*A)) fun G=>chk (0≤G) (lt (zqw .u64 J G) fun M=>lt (ior .u64 D M) fun N=>lt (QF .i64 ((A:Int)+(1:Int))) fun O=>z N E F O)) (C D)
theorem zw3{β:Type}(L:Nat)(z:Int)(A:List (List V))(C D:Int)(X:St→Option β)(K:KT β):zj zd2 (zd3 L) 0 L zgv (zhf z A C D) (zbt zkt X K)=znX L z A C D (fun z A C D=>X (zhf z A C D)) (fun z=>K (.exit 0) (zpd z)):=by kernel_rfl
def zqM{β:Type}(L:Nat)(A:Int)(z:Int→Option β):Option β:=z A
theorem zul{β:Type}(L:Nat)(z:Int)(k:KK β):(xB 0 (yN (zj zd2 (zd3 L) 0 L zqI) (yU 0 (CF.res zhL) k))) (.exit 0) (zpd z)=zqM L z (fun A=>k (Qd A) []):=by kernel_rfl
def zhs{β:Type}(L:Nat)(z:Int→Option β):Nat→Int→List (List V)→Int→Int→Option β
 | 0,_,_,_,_=>none
 | n+1,A,C,D,E=>znX L A C D E (fun A C D E=>zhs L z n A C D E) z
theorem zqb{β:Type}(L:Nat)(K:KT β):∀ (n:Nat) (z:Int) (A:List (List V)) (C D:Int),yD (zj zd2 (zd3 L) 0 L zgv) zkt n (zhf z A C D) K=zhs L (fun z=>K (.exit 0) (zpd z)) n z A C D:=by
 intro n
 induction n with
 | zero=>intros; rfl
 | succ n ih=>
  intro z A C D
  refine (zw3 L z A C D (fun σ=>yD (zj zd2 (zd3 L) 0 L zgv) zkt n σ K) K).trans ?_
  simp only [ih]
  rfl
def zrb{β:Type}(L:Nat)(C:List (List V))(z:Int→Option β):Option β:=zu6 L C (fun A D E F=>zhs L (fun A=>zqM L A z) L A D E F)
theorem zBJ{β:Type}(L:Nat)(z:List (List V))(k:KK β):yp zd2 (zd3 L) L zhL [(V.sl 1 z)] [] k=zrb L z (fun z=>k (Qd z) []):=by
 refine (zBR L z k).trans ?_
 unfold zrb
 first
  | (simp only [zqb,zul]; done)
  | (simp only [zqb]; rfl)
abbrev zch:=∀ (β:Type),Nat→List (List V)→(Int→Option β)→Option β
def xu(β:Type)(L:Nat)(A:List (List V))(z:Int→Option β):Option β:=zrb L A z
def znO(xu:zch)(L:Nat)(β:Type)(args:List V)(bor:Bor)(k:KK β):Option β:=match args,bor with
 | [a0],[]=>aL 1 a0 fun z=>xu β L z (fun z=>k (Qd z) [])
 | _,_=>none
theorem zBI(L:Nat)(β:Type)(args:List V)(bor:Bor)(k:KK β)(r:β)(h:znO xu L β args bor k=some r):yp zd2 (zd3 L) L zhL args bor k=some r:=by
 unfold znO at h
 split at h
 ·have q:=za1 h; clear h; obtain ⟨z,rfl,h⟩:=q
  exact (zBJ L z k).trans h
 ·cases h
def zqY:CF:=⟨8,[.cell 2 true 2],(.seq (.reg [Qv 1 (tq 0),oo 2 (.alloc true [(.sc (.int .u64 0)),(.sc (.int .u64 0))])]) (.seq (.dreg [1] [(oo 3 (.sliceA 32 1 (tq 1) none (some (Qf 8)) none),q1),(Qs 4 112 [(Qw 3)],q1),(oo 5 (.sliceA 32 1 (tq 1) (some (Qf 8)) (some (Qf 16)) none),q1),(Qs 6 112 [(Qw 5)],q0),(oo 7 (.build [(.sc (.int .u64 0)),(.sc (.int .u64 0))] [(0,1,(tq 4)),(1,1,(tq 6))]),q0),(Qm 2 (tq 2) (tq 7),q0)]) .ret))⟩
def zwt:Hint:=⟨[],[],[none],[(1,[1])],[],false,false,[]⟩
def zuH:Nat→Sh:=xY []
def zuB(xu:zch)(L:Nat):CBC:=(xD 112 (znO xu L) noC)
def zvW{β:Type}(xu:zch)(L:Nat)(C:List V)(z:List V→Option β):Option β:=lc C (none) (fun h0 A=>chk (0+32*1≤(XG (h0::A))) (xu β L (xh 1 8 (h0::A)) (fun D=>chk (0+32*1≤(XG (h0::A))) (xu β L (xh 1 8 (XJ 8 (h0::A))) (fun E=>lt [(Qd D),(Qd E)] fun r4=>chk (0=0∧(XG r4)=2∧2≠0) (z r4))))))
theorem zDc{β:Type}(xu:zch)(L:Nat)(z:List V)(k:KK β):yp zuH (zuB xu L) L zqY [(V.agg z)] [] k=zvW xu L z (fun z=>k (V.agg z) []):=by kernel_rfl
abbrev zkL:=∀ (β:Type),Nat→List V→(List V→Option β)→Option β
def z9(β:Type)(L:Nat)(A:List V)(z:List V→Option β):Option β:=zvW xu L A z
def zp8(z9:zkL)(L:Nat)(β:Type)(args:List V)(bor:Bor)(k:KK β):Option β:=match args,bor with
 | [a0],[]=>aG a0 fun z=>z9 β L z (fun z=>k (V.agg z) [])
 | _,_=>none
theorem zCy(L:Nat)(β:Type)(args:List V)(bor:Bor)(k:KK β)(r:β)(h:zp8 z9 L β args bor k=some r):yp zuH (zuB xu L) L zqY args bor k=some r:=by
 unfold zp8 at h
 split at h
 ·have q:=zV h; clear h; obtain ⟨z,rfl,h⟩:=q
  exact (zDc xu L z k).trans h
 ·cases h
def zh4:CF:=⟨6,[.tmp 2],(.seq (.reg [Qv 1 (tq 0),oo 2 (.move (.const (.sc (.int .u32 0))) false)]) (.seq (.reg [Ql 3 0 (tq 1),Qj 4 1 (tq 3),oo 5 (.bin .shr (tq 4) (.const (.sc (.int .u64 16)))),Qh 2 (tq 5)]) .ret))⟩
def zo6:Hint:=⟨[],[],[none],[],[],false,false,[]⟩
def zl7:Nat→Sh:=xY [(4,(.int .u32))]
def zmg(L:Nat):CBC:=noC
def zmM{β:Type}(L:Nat)(A:List V)(z:Int→Option β):Option β:=cI .u32 A 0 fun C=>lt (zpk .u32 C (16:Int)) fun D=>z D
theorem zvC{β:Type}(L:Nat)(z:List V)(k:KK β):yp zl7 (zmg L) L zh4 [(V.agg z)] [] k=zmM L z (fun z=>k (Qc z) []):=by kernel_rfl
abbrev zm:=∀ (β:Type),Nat→List V→(Int→Option β)→Option β
def zb(β:Type)(L:Nat)(A:List V)(z:Int→Option β):Option β:=zmM L A z
def zcN(zb:zm)(L:Nat)(β:Type)(args:List V)(bor:Bor)(k:KK β):Option β:=match args,bor with
 | [a0],[]=>aG a0 fun z=>zb β L z (fun z=>k (Qc z) [])
 | _,_=>none
theorem zvr(L:Nat)(β:Type)(args:List V)(bor:Bor)(k:KK β)(r:β)(h:zcN zb L β args bor k=some r):yp zl7 (zmg L) L zh4 args bor k=some r:=by
 unfold zcN at h
 split at h
 ·have q:=zV h; clear h; obtain ⟨z,rfl,h⟩:=q
  exact (zvC L z k).trans h
 ·cases h
def zd6:CC:=(.seq (.reg [Qp 11 .lss (tq 10) (tq 9)]) (.seq (.cond (tq 11) .skip (.seq (.mask (bl 32 23) (bl 8388543 23)) (.exit 0))) (.seq (.block 1 (.seq (.reg [Qh 12 (tq 10),Qh 6 (tq 12)]) (.reg [Qh 13 (tq 5),Qh 14 (tq 6),Qh 15 (tq 0),Qh 16 (tq 6),Qp 17 .mul (Qf 8) (tq 16),Qp 18 .shr (tq 15) (tq 17),Qu 19 .u8 (tq 18),Qo 20 1 (tq 13) (tq 14),Qm 1 (tq 20) (tq 19)]))) (.reg [Qp 21 .add (tq 10) (Qf 1),Qh 10 (tq 21)]))))
def zlZ:CC:=(.seq (.reg [Qi 22 (tq 5),Qi 4 (tq 22)]) .ret)
def zek:CF:=⟨23,[.tmp 4],(.seq (.reg [Qi 4 (.const (.gs 1 []))]) (.seq (.reg [Qh 7 (tq 1),⟨(some 8),true,none,.makeSlice 1 1 [(.sc (.int .u8 0))] (tq 7) (tq 7)⟩,Qi 5 (tq 8)]) (.seq (.seq (.reg [Qh 9 (tq 1),Qh 10 (Qf 0)]) (.block 0 (.loop (bl 1569 23) (bl 8388543 23) zd6))) zlZ)))⟩
def zqO:Hint:=⟨[(0,0),(1,2),(7,0),(7,1)],[(1,1)],[none,some ((bl 1569 23),(bl 8388543 23)),none,some ((bl 32 23),(bl 8388543 23)),none,none],[],[],false,false,[]⟩
def zb4:Nat→Sh:=xY []
def zb5(L:Nat):CBC:=noC
def zgH:St→St:=zaY 0 (bl 1569 23) (bl 8388543 23)
def zeS(C:Int)(z:Nat)(D A:Int)(E:List V):St:=⟨((Qd C)::(jn 4 ((V.own 8 0 z 1)::(jn 3 ((Qe D)::((Qe A)::(jn 12 []))))))),(gn 8 ((.live true E)::(gn 14 [])))⟩
def zlf(z:Nat)(A:List V):St:=⟨(jn 5 ((V.own 8 0 z 1)::(jn 17 []))),(gn 8 ((.live true A)::(gn 14 [])))⟩
def ztH{β:Type}(L:Nat)(C z:Int)(A:Int→Nat→Int→Int→List V→Option β):Option β:=chk (0≤z∧z≤z∧(XH z)*1≤xw∧z≤xw) (A C (XH z) z (0:Int) (XK (We (XH z) [(Qa (0:Int))])))
theorem zxu{β:Type}(L:Nat)(z A:Int)(k:KK β):yp zb4 (zb5 L) L zek [(Qd z),(Qe A)] [] k=ztH L z A (fun z C E D F=>yD (zj zb4 (zb5 L) 0 L zd6) zgH L (zeS z C E D F) (xB 0 (yN (zj zb4 (zb5 L) 0 L zlZ) (yU 0 (CF.res zek) k)))):=by kernel_rfl
def zoS{β:Type}(L:Nat)(F:Int)(C:Nat)(G z:Int)(D:List V)(A:Int→Nat→Int→Int→List V→Option β)(E:Nat→List V→Option β):Option β:=ifb (decide (z<G)) (lt (QF .i64 (((8:Int):Int)*z)) fun I=>chk (0≤I) (lt (zpk .u64 F I) fun J=>lt (QF .u8 J) fun M=>chk (0≤z∧z<((C:Nat):Int)) (chk (1=1∧(0+((XH z)*1))+1≤(XG D)) (lt (xg D (0+((XH z)*1)) [(Qa M)]) fun r3=>lt (QF .i64 ((z:Int)+(1:Int))) fun N=>A F C G N r3)))) (E C D)
theorem ztd{β:Type}(L:Nat)(D:Int)(z:Nat)(E A:Int)(C:List V)(X:St→Option β)(K:KT β):zj zb4 (zb5 L) 0 L zd6 (zeS D z E A C) (zbt zgH X K)=zoS L D z E A C (fun D z E A C=>X (zeS D z E A C)) (fun z C=>K (.exit 0) (zlf z C)):=by kernel_rfl
def znw{β:Type}(L:Nat)(A:Nat)(C:List V)(z:List (List V)→Option β):Option β:=chk (A≠0∨(XG C)=0) (z (xh 1 A C))
theorem zr8{β:Type}(L:Nat)(z:Nat)(A:List V)(k:KK β):(xB 0 (yN (zj zb4 (zb5 L) 0 L zlZ) (yU 0 (CF.res zek) k))) (.exit 0) (zlf z A)=znw L z A (fun C=>k (V.fr 1 C) []):=by kernel_rfl
def zjY{β:Type}(L:Nat)(z:Nat→List V→Option β):Nat→Int→Nat→Int→Int→List V→Option β
 | 0,_,_,_,_,_=>none
 | n+1,D,A,E,C,F=>zoS L D A E C F (fun D A E C F=>zjY L z n D A E C F) z
theorem zms{β:Type}(L:Nat)(K:KT β):∀ (n:Nat) (D:Int) (z:Nat) (E A:Int) (C:List V),yD (zj zb4 (zb5 L) 0 L zd6) zgH n (zeS D z E A C) K=zjY L (fun z C=>K (.exit 0) (zlf z C)) n D z E A C:=by
 intro n
 induction n with
 | zero=>intros; rfl
 | succ n ih=>
  intro D z E A C
  refine (ztd L D z E A C (fun σ=>yD (zj zb4 (zb5 L) 0 L zd6) zgH n σ K) K).trans ?_
  simp only [ih]
  rfl
def zpf{β:Type}(L:Nat)(C F:Int)(A:List (List V)→Option β):Option β:=ztH L C F (fun C z G E D=>zjY L (fun z D=>znw L z D A) L C z G E D)
theorem zxs{β:Type}(L:Nat)(z A:Int)(k:KK β):yp zb4 (zb5 L) L zek [(Qd z),(Qe A)] [] k=zpf L z A (fun z=>k (V.fr 1 z) []):=by
 refine (zxu L z A k).trans ?_
 unfold zpf
 first
  | (simp only [zms,zr8]; done)
  | (simp only [zms]; rfl)
abbrev zeJ:=∀ (β:Type),Nat→Int→Int→(List (List V)→Option β)→Option β
def zI(β:Type)(L:Nat)(A C:Int)(z:List (List V)→Option β):Option β:=zpf L A C z
def zip(zI:zeJ)(L:Nat)(β:Type)(args:List V)(bor:Bor)(k:KK β):Option β:=match args,bor with
 | [a0,a1],[]=>aI .u64 a0 fun z=>aI .i64 a1 fun A=>zI β L z A (fun z=>k (V.fr 1 z) [])
 | _,_=>none
theorem zxM(L:Nat)(β:Type)(args:List V)(bor:Bor)(k:KK β)(r:β)(h:zip zI L β args bor k=some r):yp zb4 (zb5 L) L zek args bor k=some r:=by
 unfold zip at h
 split at h
 ·have q:=xr h; clear h; obtain ⟨z,rfl,h⟩:=q
  have q:=xr h; clear h; obtain ⟨A,rfl,h⟩:=q
  exact (zxs L z A k).trans h
 ·cases h
def zkw:CF:=⟨18,[.tmp 4],(.seq (.reg [Qi 4 (.const (.gs 1 []))]) (.seq (.reg [Qh 6 (tq 0),Qr 7 (tq 6),Qh 8 (tq 1),Qr 9 (tq 8),Qp 10 .add (tq 7) (tq 9),oo 11 (.makeSlice 1 1 [(.sc (.int .u8 0))] (Qf 0) (tq 10)),Qi 5 (tq 11)]) (.seq (.reg [Qi 12 (tq 5),Qh 13 (tq 0),oo 14 (.append 1 1 (tq 12) (tq 13)),Qi 5 (tq 14)]) (.seq (.reg [Qi 15 (tq 5),Qh 16 (tq 1),oo 17 (.append 1 1 (tq 15) (tq 16)),Qi 4 (tq 17)]) .ret))))⟩
def zqN:Hint:=⟨[(0,0),(1,6),(2,0),(2,3),(3,0),(3,3)],[],[none],[],[],false,false,[]⟩
def znP:Nat→Sh:=xY []
def zos(L:Nat):CBC:=noC
def zpp{β:Type}(L:Nat)(z A:List (List V))(C:List (List V)→Option β):Option β:=lt (QF .i64 ((((XG z:Nat):Int):Int)+((XG A:Nat):Int))) fun D=>chk (0≤(0:Int)∧(0:Int)≤D∧(XH D)*1≤xw∧D≤xw) (chk ((XG (We 0 [(Qa (0:Int))])+XG z)*1≤xw∧XG (We 0 [(Qa (0:Int))])+XG z≤xw) (lt ((We 0 [(Qa (0:Int))])++z) fun E=>chk ((XG E+XG A)*1≤xw∧XG E+XG A≤xw) (lt (E++A) fun F=>C F)))
theorem zxK{β:Type}(L:Nat)(z A:List (List V))(k:KK β):yp znP (zos L) L zkw [(V.sl 1 z),(V.sl 1 A)] [] k=zpp L z A (fun z=>k (V.gs 1 z) []):=by kernel_rfl
abbrev zeK:=∀ (β:Type),Nat→List (List V)→List (List V)→(List (List V)→Option β)→Option β
def yH(β:Type)(L:Nat)(A C:List (List V))(z:List (List V)→Option β):Option β:=zpp L A C z
def zih(yH:zeK)(L:Nat)(β:Type)(args:List V)(bor:Bor)(k:KK β):Option β:=match args,bor with
 | [a0,a1],[]=>aL 1 a0 fun z=>aL 1 a1 fun A=>yH β L z A (fun z=>k (V.gs 1 z) [])
 | _,_=>none
theorem zxE(L:Nat)(β:Type)(args:List V)(bor:Bor)(k:KK β)(r:β)(h:zih yH L β args bor k=some r):yp znP (zos L) L zkw args bor k=some r:=by
 unfold zih at h
 split at h
 ·have q:=za1 h; clear h; obtain ⟨z,rfl,h⟩:=q
  have q:=za1 h; clear h; obtain ⟨A,rfl,h⟩:=q
  exact (zxK L z A k).trans h
 ·cases h
def zhu:CF:=⟨10,[.tmp 4],(.seq (.reg [Qi 4 (.const (.gs 1 []))]) (.seq (.reg [Qh 5 (tq 0),Qh 6 (tq 1),Qu 7 .u64 (tq 6),Qs 8 192 [(Qw 7),((Qf 4),0)],Qs 9 191 [(Qw 5),(Qw 8)],Qi 4 (tq 9)]) .ret))⟩
def znE:Hint:=⟨[(0,0),(1,5)],[],[none],[],[],false,false,[]⟩
def zkK:Nat→Sh:=xY []
def zkN(zI:zeJ)(yH:zeK)(L:Nat):CBC:=(xD 191 (zih yH L) (xD 192 (zip zI L) noC))
def zl0{β:Type}(zI:zeJ)(yH:zeK)(L:Nat)(A:List (List V))(C:Int)(z:List (List V)→Option β):Option β:=lt (QF .u64 C) fun D=>zI β L D (4:Int) (fun E=>yH β L A E (fun F=>z F))
theorem zuW{β:Type}(zI:zeJ)(yH:zeK)(L:Nat)(z:List (List V))(A:Int)(k:KK β):yp zkK (zkN zI yH L) L zhu [(V.sl 1 z),(Qc A)] [] k=zl0 zI yH L z A (fun z=>k (V.gs 1 z) []):=by kernel_rfl
abbrev zdo:=∀ (β:Type),Nat→List (List V)→Int→(List (List V)→Option β)→Option β
def yw(β:Type)(L:Nat)(A:List (List V))(C:Int)(z:List (List V)→Option β):Option β:=zl0 zI yH L A C z
def zfK(yw:zdo)(L:Nat)(β:Type)(args:List V)(bor:Bor)(k:KK β):Option β:=match args,bor with
 | [a0,a1],[]=>aL 1 a0 fun z=>aI .u32 a1 fun A=>yw β L z A (fun z=>k (V.gs 1 z) [])
 | _,_=>none
theorem zuN(L:Nat)(β:Type)(args:List V)(bor:Bor)(k:KK β)(r:β)(h:zfK yw L β args bor k=some r):yp zkK (zkN zI yH L) L zhu args bor k=some r:=by
 unfold zfK at h
 split at h
 ·have q:=za1 h; clear h; obtain ⟨z,rfl,h⟩:=q
  have q:=xr h; clear h; obtain ⟨A,rfl,h⟩:=q
  exact (zuW zI yH L z A k).trans h
 ·cases h
def zdZ:CF:=⟨17,[.tmp 4],(.seq (.reg [oo 4 (.move (.const (.sc (.int .u64 0))) false)]) (.seq (.reg [Qh 6 (tq 1),Qu 7 .u64 (tq 6),oo 8 (.bin .and (tq 7) (.const (.sc (.int .u64 63)))),Qh 5 (tq 8)]) (.seq (.reg [Qh 9 (tq 0),Qh 10 (tq 5),Qp 11 .shl (tq 9) (tq 10),Qh 12 (tq 0),Qh 13 (tq 5),oo 14 (.bin .sub (.const (.sc (.int .u64 64))) (tq 13)),Qp 15 .shr (tq 12) (tq 14),Qp 16 .or (tq 11) (tq 15),Qh 4 (tq 16)]) .ret)))⟩
def ziN:Hint:=⟨[],[],[none],[],[],false,false,[]⟩
def zf2:Nat→Sh:=xY []
def zf1(L:Nat):CBC:=noC
def zk5{β:Type}(L:Nat)(C E:Int)(z:Int→Option β):Option β:=lt (QF .u64 E) fun F=>lt (zGV .u64 F (63:Int)) fun A=>chk (0≤A) (lt (zqw .u64 C A) fun G=>lt (QF .u64 (((64:Int):Int)-A)) fun D=>chk (0≤D) (lt (zpk .u64 C D) fun I=>lt (ior .u64 G I) fun J=>z J))
theorem zp1{β:Type}(L:Nat)(z A:Int)(k:KK β):yp zf2 (zf1 L) L zdZ [(Qd z),(Qe A)] [] k=zk5 L z A (fun z=>k (Qd z) []):=by kernel_rfl
abbrev yK:=∀ (β:Type),Nat→Int→Int→(Int→Option β)→Option β
def yd(β:Type)(L:Nat)(A C:Int)(z:Int→Option β):Option β:=zk5 L A C z
def zcX(yd:yK)(L:Nat)(β:Type)(args:List V)(bor:Bor)(k:KK β):Option β:=match args,bor with
 | [a0,a1],[]=>aI .u64 a0 fun z=>aI .i64 a1 fun A=>yd β L z A (fun z=>k (Qd z) [])
 | _,_=>none
theorem zqc(L:Nat)(β:Type)(args:List V)(bor:Bor)(k:KK β)(r:β)(h:zcX yd L β args bor k=some r):yp zf2 (zf1 L) L zdZ args bor k=some r:=by
 unfold zcX at h
 split at h
 ·have q:=xr h; clear h; obtain ⟨z,rfl,h⟩:=q
  have q:=xr h; clear h; obtain ⟨A,rfl,h⟩:=q
  exact (zp1 L z A k).trans h
 ·cases h
def zfL:CC:=(.seq (.reg [Qp 7 .lss (tq 6) (tq 5)]) (.seq (.cond (tq 7) .skip (.seq (.mask (bl 20 82) (bl 4533176671146011638300671 82)) (.exit 0))) (.seq (.block 1 (.seq (.reg [Qn 8 4 1 (tq 2) (Qf 0),Qj 9 1 (tq 8),Qn 10 4 1 (tq 2) (Qf 1),Qj 11 1 (tq 10),Qp 12 .add (tq 9) (tq 11),Qn 13 4 1 (tq 2) (Qf 0),Qm 1 (tq 13) (tq 12)]) (.seq (.reg [Qn 14 4 1 (tq 2) (Qf 1),Qj 15 1 (tq 14),Qs 16 118 [(Qw 15),((Qf 13),0)],Qn 17 4 1 (tq 2) (Qf 1),Qm 1 (tq 17) (tq 16)]) (.seq (.reg [Qn 18 4 1 (tq 2) (Qf 1),Qj 19 1 (tq 18),Qn 20 4 1 (tq 2) (Qf 0),Qj 21 1 (tq 20),Qp 22 .xor (tq 19) (tq 21),Qn 23 4 1 (tq 2) (Qf 1),Qm 1 (tq 23) (tq 22)]) (.seq (.reg [Qn 24 4 1 (tq 2) (Qf 0),Qj 25 1 (tq 24),Qs 26 118 [(Qw 25),((Qf 32),0)],Qn 27 4 1 (tq 2) (Qf 0),Qm 1 (tq 27) (tq 26)]) (.seq (.reg [Qn 28 4 1 (tq 2) (Qf 2),Qj 29 1 (tq 28),Qn 30 4 1 (tq 2) (Qf 3),Qj 31 1 (tq 30),Qp 32 .add (tq 29) (tq 31),Qn 33 4 1 (tq 2) (Qf 2),Qm 1 (tq 33) (tq 32)]) (.seq (.reg [Qn 34 4 1 (tq 2) (Qf 3),Qj 35 1 (tq 34),Qs 36 118 [(Qw 35),((Qf 16),0)],Qn 37 4 1 (tq 2) (Qf 3),Qm 1 (tq 37) (tq 36)]) (.seq (.reg [Qn 38 4 1 (tq 2) (Qf 3),Qj 39 1 (tq 38),Qn 40 4 1 (tq 2) (Qf 2),Qj 41 1 (tq 40),Qp 42 .xor (tq 39) (tq 41),Qn 43 4 1 (tq 2) (Qf 3),Qm 1 (tq 43) (tq 42)]) (.seq (.reg [Qn 44 4 1 (tq 2) (Qf 0),Qj 45 1 (tq 44),Qn 46 4 1 (tq 2) (Qf 3),Qj 47 1 (tq 46),Qp 48 .add (tq 45) (tq 47),Qn 49 4 1 (tq 2) (Qf 0),Qm 1 (tq 49) (tq 48)]) (.seq (.reg [Qn 50 4 1 (tq 2) (Qf 3),Qj 51 1 (tq 50),Qs 52 118 [(Qw 51),((Qf 21),0)],Qn 53 4 1 (tq 2) (Qf 3),Qm 1 (tq 53) (tq 52)]) (.seq (.reg [Qn 54 4 1 (tq 2) (Qf 3),Qj 55 1 (tq 54),Qn 56 4 1 (tq 2) (Qf 0),Qj 57 1 (tq 56),Qp 58 .xor (tq 55) (tq 57),Qn 59 4 1 (tq 2) (Qf 3),Qm 1 (tq 59) (tq 58)]) (.seq (.reg [Qn 60 4 1 (tq 2) (Qf 2),Qj 61 1 (tq 60),Qn 62 4 1 (tq 2) (Qf 1),Qj 63 1 (tq 62),Qp 64 .add (tq 61) (tq 63),Qn 65 4 1 (tq 2) (Qf 2),Qm 1 (tq 65) (tq 64)]) (.seq (.reg [Qn 66 4 1 (tq 2) (Qf 1),Qj 67 1 (tq 66),Qs 68 118 [(Qw 67),((Qf 17),0)],Qn 69 4 1 (tq 2) (Qf 1),Qm 1 (tq 69) (tq 68)]) (.seq (.reg [Qn 70 4 1 (tq 2) (Qf 1),Qj 71 1 (tq 70),Qn 72 4 1 (tq 2) (Qf 2),Qj 73 1 (tq 72),Qp 74 .xor (tq 71) (tq 73),Qn 75 4 1 (tq 2) (Qf 1),Qm 1 (tq 75) (tq 74)]) (.reg [Qn 76 4 1 (tq 2) (Qf 2),Qj 77 1 (tq 76),Qs 78 118 [(Qw 77),((Qf 32),0)],Qn 79 4 1 (tq 2) (Qf 2),Qm 1 (tq 79) (tq 78)]))))))))))))))) (.reg [Qp 80 .add (tq 6) (Qf 1),Qh 6 (tq 80)]))))
def zpw:CC:=(.seq (.reg [Qk 81 4 (tq 2),Qm 4 (tq 4) (tq 81)]) .ret)
def zfv:CF:=⟨82,[.cell 4 true 4],(.seq (.reg [Qv 2 (tq 0),oo 4 (.alloc true [(.sc (.int .u64 0)),(.sc (.int .u64 0)),(.sc (.int .u64 0)),(.sc (.int .u64 0))])]) (.seq (.seq (.reg [Qh 5 (tq 1),Qh 6 (Qf 0)]) (.block 0 (.loop (bl 116 82) (bl 4533176671146011638300671 82) zfL))) zpw))⟩
def zsW:Hint:=⟨[],[],[none,some ((bl 116 82),(bl 4533176671146011638300671 82)),none,some ((bl 20 82),(bl 4533176671146011638300671 82)),none,none],[],[],false,false,[]⟩
def zc3:Nat→Sh:=xY [(9,(.int .u64)),(11,(.int .u64)),(15,(.int .u64)),(19,(.int .u64)),(21,(.int .u64)),(25,(.int .u64)),(29,(.int .u64)),(31,(.int .u64)),(35,(.int .u64)),(39,(.int .u64)),(41,(.int .u64)),(45,(.int .u64)),(47,(.int .u64)),(51,(.int .u64)),(55,(.int .u64)),(57,(.int .u64)),(61,(.int .u64)),(63,(.int .u64)),(67,(.int .u64)),(71,(.int .u64)),(73,(.int .u64)),(77,(.int .u64))]
def zc5(yd:yK)(L:Nat):CBC:=(xD 118 (zcX yd L) noC)
def zjn:St→St:=zaY 0 (bl 116 82) (bl 4533176671146011638300671 82)
def zgM(E F:Int)(G:List V)(z A C D:Int):St:=⟨(jn 2 ((V.ptr 2 0)::(jn 1 ((V.ptr 4 0)::((Qe E)::((Qe F)::(jn 75 []))))))),(gn 2 ((.live true G)::(gn 1 ((.live true [(Qd z),(Qd A),(Qd C),(Qd D)])::(gn 77 [])))))⟩
def zm1(E:List V)(z A C D:Int):St:=⟨(jn 2 ((V.ptr 2 0)::(jn 1 ((V.ptr 4 0)::(jn 77 []))))),(gn 2 ((.live true E)::(gn 1 ((.live true [(Qd z),(Qd A),(Qd C),(Qd D)])::(gn 77 [])))))⟩
def zr9{β:Type}(yd:yK)(L:Nat)(A:List V)(C:Int)(z:Int→Int→List V→Int→Int→Int→Int→Option β):Option β:=z C (0:Int) A (0:Int) (0:Int) (0:Int) (0:Int)
theorem zzw{β:Type}(yd:yK)(L:Nat)(E:List V)(F:Int)(k:KK β):yp zc3 (zc5 yd L) L zfv [(V.agg E),(Qe F)] [] k=zr9 yd L E F (fun G I J z A C D=>yD (zj zc3 (zc5 yd L) 0 L zfL) zjn L (zgM G I J z A C D) (xB 0 (yN (zj zc3 (zc5 yd L) 0 L zpw) (yU 0 (CF.res zfv) k)))):=by kernel_rfl
def zgA{β:Type}(yd:yK)(L:Nat)(W X:Int)(I:List V)(J M N O:Int)(G:Int→Int→List V→Int→Int→Int→Int→Option β)(U:List V→Int→Int→Int→Int→Option β):Option β:=ifb (decide (X<W)) (cI .u64 I 0 fun v0=>cI .u64 I 1 fun v1=>lt (QF .u64 ((v0:Int)+v1)) fun x2=>chk (1=1∧0+1≤(XG I)) (lt (xg I 0 [(Qd x2)]) fun r3=>cI .u64 r3 1 fun v4=>yd β L v4 (13:Int) (fun v5=>chk (1=1∧1+1≤(XG r3)) (lt (xg r3 1 [(Qd v5)]) fun r6=>cI .u64 r6 1 fun v7=>cI .u64 r6 0 fun v8=>lt (zbf .u64 v7 v8) fun x9=>chk (1=1∧1+1≤(XG r6)) (lt (xg r6 1 [(Qd x9)]) fun r10=>cI .u64 r10 0 fun Y=>yd β L Y (32:Int) (fun Z=>chk (1=1∧0+1≤(XG r10)) (lt (xg r10 0 [(Qd Z)]) fun z=>cI .u64 z 2 fun aa=>cI .u64 z 3 fun ab=>lt (QF .u64 ((aa:Int)+ab)) fun ac=>chk (1=1∧2+1≤(XG z)) (lt (xg z 2 [(Qd ac)]) fun P=>cI .u64 P 3 fun ad=>yd β L ad (16:Int) (fun ae=>chk (1=1∧3+1≤(XG P)) (lt (xg P 3 [(Qd ae)]) fun A=>cI .u64 A 3 fun af=>cI .u64 A 2 fun ag=>lt (zbf .u64 af ag) fun ah=>chk (1=1∧3+1≤(XG A)) (lt (xg A 3 [(Qd ah)]) fun C=>cI .u64 C 0 fun ai=>cI .u64 C 3 fun aj=>lt (QF .u64 ((ai:Int)+aj)) fun ak=>chk (1=1∧0+1≤(XG C)) (lt (xg C 0 [(Qd ak)]) fun Q=>cI .u64 Q 3 fun al=>yd β L al (21:Int) (fun am=>chk (1=1∧3+1≤(XG Q)) (lt (xg Q 3 [(Qd am)]) fun D=>cI .u64 D 3 fun an=>cI .u64 D 0 fun ao=>lt (zbf .u64 an ao) fun ap=>chk (1=1∧3+1≤(XG D)) (lt (xg D 3 [(Qd ap)]) fun E=>cI .u64 E 2 fun aq=>cI .u64 E 1 fun ar=>lt (QF .u64 ((aq:Int)+ar)) fun au=>chk (1=1∧2+1≤(XG E)) (lt (xg E 2 [(Qd au)]) fun R=>cI .u64 R 1 fun av=>yd β L av (17:Int) (fun aw=>chk (1=1∧1+1≤(XG R)) (lt (xg R 1 [(Qd aw)]) fun F=>cI .u64 F 1 fun ax=>cI .u64 F 2 fun ay=>lt (zbf .u64 ax ay) fun az=>chk (1=1∧1+1≤(XG F)) (lt (xg F 1 [(Qd az)]) fun S=>cI .u64 S 2 fun aC=>yd β L aC (32:Int) (fun aD=>chk (1=1∧2+1≤(XG S)) (lt (xg S 2 [(Qd aD)]) fun aE=>lt (QF .i64 ((X:Int)+(1:Int))) fun aH=>G W aH aE J M N O))))))))))))))))))))) (U I J M N O)
theorem zvz{β:Type}(yd:yK)(L:Nat)(F G:Int)(E:List V)(z A C D:Int)(X:St→Option β)(K:KT β):zj zc3 (zc5 yd L) 0 L zfL (zgM F G E z A C D) (zbt zjn X K)=zgA yd L F G E z A C D (fun F G E z A C D=>X (zgM F G E z A C D)) (fun E z A C D=>K (.exit 0) (zm1 E z A C D)):=by kernel_rfl
def zlp{β:Type}(yd:yK)(L:Nat)(C:List V)(D E F G:Int)(z:List V→Option β):Option β:=chk (0+4≤(XG C)) (chk ((XG (XI 4 C))=4∧0+4≤4) (lt (xg [(Qd D),(Qd E),(Qd F),(Qd G)] 0 (XI 4 C)) fun A=>chk (0=0∧(XG A)=4∧4≠0) (z A)))
theorem zt2{β:Type}(yd:yK)(L:Nat)(E:List V)(z A C D:Int)(k:KK β):(xB 0 (yN (zj zc3 (zc5 yd L) 0 L zpw) (yU 0 (CF.res zfv) k))) (.exit 0) (zm1 E z A C D)=zlp yd L E z A C D (fun F=>k (V.agg F) []):=by kernel_rfl
def zgp{β:Type}(yd:yK)(L:Nat)(E:List V→Int→Int→Int→Int→Option β):Nat→Int→Int→List V→Int→Int→Int→Int→Option β
 | 0,_,_,_,_,_,_,_=>none
 | n+1,F,G,I,z,A,C,D=>zgA yd L F G I z A C D (fun F G I z A C D=>zgp yd L E n F G I z A C D) E
theorem zoQ{β:Type}(yd:yK)(L:Nat)(K:KT β):∀ (n:Nat) (F G:Int) (E:List V) (z A C D:Int),yD (zj zc3 (zc5 yd L) 0 L zfL) zjn n (zgM F G E z A C D) K=zgp yd L (fun E z A C D=>K (.exit 0) (zm1 E z A C D)) n F G E z A C D:=by
 intro n
 induction n with
 | zero=>intros; rfl
 | succ n ih=>
  intro F G E z A C D
  refine (zvz yd L F G E z A C D (fun σ=>yD (zj zc3 (zc5 yd L) 0 L zfL) zjn n σ K) K).trans ?_
  simp only [ih]
  rfl
def zob{β:Type}(yd:yK)(L:Nat)(G:List V)(I:Int)(E:List V→Option β):Option β:=zr9 yd L G I (fun J M F z A C D=>zgp yd L (fun F z A C D=>zlp yd L F z A C D E) L J M F z A C D)
theorem zy2{β:Type}(yd:yK)(L:Nat)(z:List V)(A:Int)(k:KK β):yp zc3 (zc5 yd L) L zfv [(V.agg z),(Qe A)] [] k=zob yd L z A (fun z=>k (V.agg z) []):=by
 refine (zzw yd L z A k).trans ?_
 unfold zob
 first
  | (simp only [zoQ,zt2]; done)
  | (simp only [zoQ]; rfl)
abbrev zbe:=∀ (β:Type),Nat→List V→Int→(List V→Option β)→Option β
def yo(β:Type)(L:Nat)(A:List V)(C:Int)(z:List V→Option β):Option β:=zob yd L A C z
def zkV(yo:zbe)(L:Nat)(β:Type)(args:List V)(bor:Bor)(k:KK β):Option β:=match args,bor with
 | [a0,a1],[]=>aG a0 fun z=>aI .i64 a1 fun A=>yo β L z A (fun z=>k (V.agg z) [])
 | _,_=>none
theorem zy7(L:Nat)(β:Type)(args:List V)(bor:Bor)(k:KK β)(r:β)(h:zkV yo L β args bor k=some r):yp zc3 (zc5 yd L) L zfv args bor k=some r:=by
 unfold zkV at h
 split at h
 ·have q:=zV h; clear h; obtain ⟨z,rfl,h⟩:=q
  have q:=xr h; clear h; obtain ⟨A,rfl,h⟩:=q
  exact (zy2 yd L z A k).trans h
 ·cases h
def zmF:CF:=⟨18,[.cell 4 true 4],(.seq (.reg [Qv 2 (tq 0),oo 4 (.alloc true [(.sc (.int .u64 0)),(.sc (.int .u64 0)),(.sc (.int .u64 0)),(.sc (.int .u64 0))])]) (.seq (.reg [Qn 5 4 1 (tq 2) (Qf 3),Qj 6 1 (tq 5),Qh 7 (tq 1),Qp 8 .xor (tq 6) (tq 7),Qn 9 4 1 (tq 2) (Qf 3),Qm 1 (tq 9) (tq 8)]) (.seq (.reg [Qk 10 4 (tq 2),Qs 11 113 [(Qw 10),((Qf 2),0)],Qm 4 (tq 2) (tq 11)]) (.seq (.reg [Qn 12 4 1 (tq 2) (Qf 0),Qj 13 1 (tq 12),Qh 14 (tq 1),Qp 15 .xor (tq 13) (tq 14),Qn 16 4 1 (tq 2) (Qf 0),Qm 1 (tq 16) (tq 15)]) (.seq (.reg [Qk 17 4 (tq 2),Qm 4 (tq 4) (tq 17)]) .ret)))))⟩
def zsN:Hint:=⟨[],[],[none],[],[],false,false,[]⟩
def zqA:Nat→Sh:=xY [(6,(.int .u64)),(13,(.int .u64))]
def zqn(yo:zbe)(L:Nat):CBC:=(xD 113 (zkV yo L) noC)
def zrI{β:Type}(yo:zbe)(L:Nat)(A:List V)(C:Int)(z:List V→Option β):Option β:=cI .u64 A 3 fun E=>lt (zbf .u64 E C) fun F=>chk (1=1∧3+1≤(XG A)) (lt (xg A 3 [(Qd F)]) fun r2=>chk (0+4≤(XG r2)) (yo β L (XI 4 r2) (2:Int) (fun D=>chk ((XG D)=4∧0+4≤(XG r2)) (lt (xg r2 0 D) fun r4=>cI .u64 r4 0 fun G=>lt (zbf .u64 G C) fun I=>chk (1=1∧0+1≤(XG r4)) (lt (xg r4 0 [(Qd I)]) fun r7=>chk (0+4≤(XG r7)) (chk ((XG (XI 4 r7))=4∧0+4≤4) (lt (xg [(Qd (0:Int)),(Qd (0:Int)),(Qd (0:Int)),(Qd (0:Int))] 0 (XI 4 r7)) fun r8=>chk (0=0∧(XG r8)=4∧4≠0) (z r8))))))))
theorem zzh{β:Type}(yo:zbe)(L:Nat)(z:List V)(A:Int)(k:KK β):yp zqA (zqn yo L) L zmF [(V.agg z),(Qd A)] [] k=zrI yo L z A (fun z=>k (V.agg z) []):=by kernel_rfl
abbrev zco:=∀ (β:Type),Nat→List V→Int→(List V→Option β)→Option β
def zx(β:Type)(L:Nat)(A:List V)(C:Int)(z:List V→Option β):Option β:=zrI yo L A C z
def zoj(zx:zco)(L:Nat)(β:Type)(args:List V)(bor:Bor)(k:KK β):Option β:=match args,bor with
 | [a0,a1],[]=>aG a0 fun z=>aI .u64 a1 fun A=>zx β L z A (fun z=>k (V.agg z) [])
 | _,_=>none
theorem zAb(L:Nat)(β:Type)(args:List V)(bor:Bor)(k:KK β)(r:β)(h:zoj zx L β args bor k=some r):yp zqA (zqn yo L) L zmF args bor k=some r:=by
 unfold zoj at h
 split at h
 ·have q:=zV h; clear h; obtain ⟨z,rfl,h⟩:=q
  have q:=xr h; clear h; obtain ⟨A,rfl,h⟩:=q
  exact (zzh yo L z A k).trans h
 ·cases h
def zgy:CC:=(.seq (.reg [Qp 26 .lss (tq 25) (tq 24)]) (.seq (.cond (tq 26) .skip (.seq (.mask (bl 98 69) (bl 590295810152547221371 69)) (.exit 0))) (.seq (.block 1 (.seq (.reg [Qh 27 (tq 25),Qh 7 (tq 27)]) (.dreg [] [(Qk 28 4 (tq 5),ql 5 [] []),(Qh 29 (tq 1),q0),(Qh 30 (tq 7),q0),(Qp 31 .mul (Qf 8) (tq 30),q0),(Qh 32 (tq 7),q0),(Qp 33 .mul (Qf 8) (tq 32),q0),(Qp 34 .add (tq 33) (Qf 8),q0),(oo 35 (.sliceS 1 (tq 29) (some (tq 31)) (some (tq 34)) none),q0),(Qs 36 112 [(Qw 35)],qc [5] []),(Qs 37 111 [(Qw 28),(Qw 36)],q0),(Qm 4 (tq 5) (tq 37),q0)]))) (.reg [Qp 38 .add (tq 25) (Qf 1),Qh 25 (tq 38)]))))
def zqs:CC:=(.seq (.dreg [] [(Qk 39 4 (tq 5),ql 5 [] []),(Qh 40 (tq 1),q0),(Qh 41 (tq 6),q0),(Qp 42 .mul (Qf 8) (tq 41),q0),(oo 43 (.sliceS 1 (tq 40) (some (tq 42)) none none),q0),(Qs 44 112 [(Qw 43)],qc [5] []),(Qh 45 (tq 1),q0),(Qr 46 (tq 45),q0),(Qp 47 .rem (tq 46) (Qf 256),q0),(Qu 48 .u64 (tq 47),q0),(oo 49 (.bin .shl (tq 48) (.const (.sc (.int .u64 56)))),q0),(Qp 50 .or (tq 44) (tq 49),q0),(Qs 51 111 [(Qw 39),(Qw 50)],q0),(Qm 4 (tq 5) (tq 51),q0)]) (.seq (.reg [Qn 52 4 1 (tq 5) (Qf 2),Qj 53 1 (tq 52),oo 54 (.bin .xor (tq 53) (.const (.sc (.int .u64 255)))),Qn 55 4 1 (tq 5) (Qf 2),Qm 1 (tq 55) (tq 54)]) (.seq (.reg [Qk 56 4 (tq 5),Qs 57 113 [(Qw 56),((Qf 4),0)],Qm 4 (tq 5) (tq 57)]) (.seq (.reg [Qn 58 4 1 (tq 5) (Qf 0),Qj 59 1 (tq 58),Qn 60 4 1 (tq 5) (Qf 1),Qj 61 1 (tq 60),Qp 62 .xor (tq 59) (tq 61),Qn 63 4 1 (tq 5) (Qf 2),Qj 64 1 (tq 63),Qp 65 .xor (tq 62) (tq 64),Qn 66 4 1 (tq 5) (Qf 3),Qj 67 1 (tq 66),Qp 68 .xor (tq 65) (tq 67),Qh 4 (tq 68)]) .ret))))
def zjd:CF:=⟨69,[.tmp 4],(.seq (.reg [Qv 2 (tq 0),oo 4 (.move (.const (.sc (.int .u64 0))) false)]) (.seq (.reg [Qn 8 2 1 (tq 2) (Qf 0),Qj 9 1 (tq 8),oo 10 (.bin .xor (tq 9) (.const (.sc (.int .u64 8317987319222330741)))),Qn 11 2 1 (tq 2) (Qf 1),Qj 12 1 (tq 11),oo 13 (.bin .xor (tq 12) (.const (.sc (.int .u64 7237128888997146477)))),Qn 14 2 1 (tq 2) (Qf 0),Qj 15 1 (tq 14),oo 16 (.bin .xor (tq 15) (.const (.sc (.int .u64 7816392313619706465)))),Qn 17 2 1 (tq 2) (Qf 1),Qj 18 1 (tq 17),oo 19 (.bin .xor (tq 18) (.const (.sc (.int .u64 8387220255154660723)))),oo 20 (.build [(.sc (.int .u64 0)),(.sc (.int .u64 0)),(.sc (.int .u64 0)),(.sc (.int .u64 0))] [(0,1,(tq 10)),(1,1,(tq 13)),(2,1,(tq 16)),(3,1,(tq 19))]),oo 5 (.alloc true [(.sc (.int .u64 0)),(.sc (.int .u64 0)),(.sc (.int .u64 0)),(.sc (.int .u64 0))]),Qm 4 (tq 5) (tq 20)]) (.seq (.reg [Qh 21 (tq 1),Qr 22 (tq 21),Qp 23 .quo (tq 22) (Qf 8),Qh 6 (tq 23)]) (.seq (.seq (.reg [Qh 24 (tq 6),Qh 25 (Qf 0)]) (.block 0 (.loop (bl 50331746 69) (bl 590295810152547221371 69) zgy))) zqs))))⟩
def zwD:Hint:=⟨[],[],[none,some ((bl 50331746 69),(bl 590295810152547221371 69)),none,some ((bl 98 69),(bl 590295810152547221371 69)),none,none],[],[],false,false,[]⟩
def zeZ:Nat→Sh:=xY [(9,(.int .u64)),(12,(.int .u64)),(15,(.int .u64)),(18,(.int .u64)),(53,(.int .u64)),(59,(.int .u64)),(61,(.int .u64)),(64,(.int .u64)),(67,(.int .u64))]
def ze0(xu:zch)(zx:zco)(yo:zbe)(L:Nat):CBC:=(xD 113 (zkV yo L) (xD 111 (zoj zx L) (xD 112 (znO xu L) noC)))
def zj9:St→St:=zaY 0 (bl 50331746 69) (bl 590295810152547221371 69)
def zhE(C:List (List V))(D z A:Int)(E:List V):St:=⟨(jn 1 ((V.sl 1 C)::(jn 3 ((V.ptr 5 0)::((Qe D)::(jn 17 ((Qe z)::((Qe A)::(jn 43 []))))))))),(gn 5 ((.live true E)::(gn 63 [])))⟩
def zqx(z:List (List V))(A:Int)(C:List V):St:=⟨(jn 1 ((V.sl 1 z)::(jn 3 ((V.ptr 5 0)::((Qe A)::(jn 62 [])))))),(gn 5 ((.live true C)::(gn 63 [])))⟩
def zwA{β:Type}(xu:zch)(zx:zco)(yo:zbe)(L:Nat)(A:List V)(C:List (List V))(z:List (List V)→Int→Int→Int→List V→Option β):Option β:=cI .u64 A 0 fun E=>lt (zbf .u64 E (8317987319222330741:Int)) fun F=>cI .u64 A 1 fun G=>lt (zbf .u64 G (7237128888997146477:Int)) fun I=>cI .u64 A 0 fun J=>lt (zbf .u64 J (7816392313619706465:Int)) fun M=>cI .u64 A 1 fun N=>lt (zbf .u64 N (8387220255154660723:Int)) fun O=>lt [(Qd F),(Qd I),(Qd M),(Qd O)] fun r8=>lt (QF .i64 (Int.tdiv ((XG C:Nat):Int) (8:Int))) fun D=>z C D D (0:Int) r8
theorem zCT{β:Type}(xu:zch)(zx:zco)(yo:zbe)(L:Nat)(A:List V)(z:List (List V))(k:KK β):yp zeZ (ze0 xu zx yo L) L zjd [(V.agg A),(V.sl 1 z)] [] k=zwA xu zx yo L A z (fun z E C D F=>yD (zj zeZ (ze0 xu zx yo L) 0 L zgy) zj9 L (zhE z E C D F) (xB 0 (yN (zj zeZ (ze0 xu zx yo L) 0 L zqs) (yU 0 (CF.res zjd) k)))):=by kernel_rfl
def zov{β:Type}(xu:zch)(zx:zco)(yo:zbe)(L:Nat)(F:List (List V))(M G A:Int)(E:List V)(z:List (List V)→Int→Int→Int→List V→Option β)(J:List (List V)→Int→List V→Option β):Option β:=ifb (decide (A<G)) (chk (0+4≤(XG E)) (lt (QF .i64 (((8:Int):Int)*A)) fun C=>lt (QF .i64 (((8:Int):Int)*A)) fun N=>lt (QF .i64 ((N:Int)+(8:Int))) fun D=>chk (0≤D∧D≤(((XG F):Nat):Int)) (chk (0≤C∧C≤(((XH D):Nat):Int)) (xu β L (XI ((XH D)-(XH C)) (XJ (XH C) F)) (fun O=>zx β L (XI 4 E) O (fun I=>chk ((XG I)=4∧0+4≤(XG E)) (lt (xg E 0 I) fun P=>lt (QF .i64 ((A:Int)+(1:Int))) fun Q=>z F M G Q P))))))) (J F M E)
theorem zwu{β:Type}(xu:zch)(zx:zco)(yo:zbe)(L:Nat)(C:List (List V))(D z A:Int)(E:List V)(X:St→Option β)(K:KT β):zj zeZ (ze0 xu zx yo L) 0 L zgy (zhE C D z A E) (zbt zj9 X K)=zov xu zx yo L C D z A E (fun C D z A E=>X (zhE C D z A E)) (fun C D E=>K (.exit 0) (zqx C D E)):=by kernel_rfl
def zh9{β:Type}(xu:zch)(zx:zco)(yo:zbe)(L:Nat)(E:List (List V))(p6:Int)(F:List V)(G:Int→Option β):Option β:=chk (0+4≤(XG F)) (lt (QF .i64 (((8:Int):Int)*p6)) fun z=>chk (0≤z∧z≤(((XG E):Nat):Int)) (xu β L (XI ((XG E)-(XH z)) (XJ (XH z) E)) (fun M=>lt (XM ((XG E:Nat):Int) (256:Int)) fun N=>lt (QF .u64 N) fun O=>lt (zqw .u64 O (56:Int)) fun P=>lt (ior .u64 M P) fun Q=>zx β L (XI 4 F) Q (fun I=>chk ((XG I)=4∧0+4≤(XG F)) (lt (xg F 0 I) fun D=>cI .u64 D 2 fun R=>lt (zbf .u64 R (255:Int)) fun S=>chk (1=1∧2+1≤(XG D)) (lt (xg D 2 [(Qd S)]) fun A=>chk (0+4≤(XG A)) (yo β L (XI 4 A) (4:Int) (fun J=>chk ((XG J)=4∧0+4≤(XG A)) (lt (xg A 0 J) fun C=>cI .u64 C 0 fun U=>cI .u64 C 1 fun W=>lt (zbf .u64 U W) fun X=>cI .u64 C 2 fun Y=>lt (zbf .u64 X Y) fun Z=>cI .u64 C 3 fun aa=>lt (zbf .u64 Z aa) fun ab=>G ab)))))))))
theorem zuI{β:Type}(xu:zch)(zx:zco)(yo:zbe)(L:Nat)(z:List (List V))(A:Int)(C:List V)(k:KK β):(xB 0 (yN (zj zeZ (ze0 xu zx yo L) 0 L zqs) (yU 0 (CF.res zjd) k))) (.exit 0) (zqx z A C)=zh9 xu zx yo L z A C (fun D=>k (Qd D) []):=by kernel_rfl
def zhn{β:Type}(xu:zch)(zx:zco)(yo:zbe)(L:Nat)(z:List (List V)→Int→List V→Option β):Nat→List (List V)→Int→Int→Int→List V→Option β
 | 0,_,_,_,_,_=>none
 | n+1,D,E,A,C,F=>zov xu zx yo L D E A C F (fun D E A C F=>zhn xu zx yo L z n D E A C F) z
theorem zqh{β:Type}(xu:zch)(zx:zco)(yo:zbe)(L:Nat)(K:KT β):∀ (n:Nat) (C:List (List V)) (D z A:Int) (E:List V),yD (zj zeZ (ze0 xu zx yo L) 0 L zgy) zj9 n (zhE C D z A E) K=zhn xu zx yo L (fun C D E=>K (.exit 0) (zqx C D E)) n C D z A E:=by
 intro n
 induction n with
 | zero=>intros; rfl
 | succ n ih=>
  intro C D z A E
  refine (zwu xu zx yo L C D z A E (fun σ=>yD (zj zeZ (ze0 xu zx yo L) 0 L zgy) zj9 n σ K) K).trans ?_
  simp only [ih]
  rfl
def zsR{β:Type}(xu:zch)(zx:zco)(yo:zbe)(L:Nat)(G:List V)(z:List (List V))(A:Int→Option β):Option β:=zwA xu zx yo L G z (fun z C E F D=>zhn xu zx yo L (fun z C D=>zh9 xu zx yo L z C D A) L z C E F D)
theorem zCh{β:Type}(xu:zch)(zx:zco)(yo:zbe)(L:Nat)(z:List V)(A:List (List V))(k:KK β):yp zeZ (ze0 xu zx yo L) L zjd [(V.agg z),(V.sl 1 A)] [] k=zsR xu zx yo L z A (fun z=>k (Qd z) []):=by
 refine (zCT xu zx yo L z A k).trans ?_
 unfold zsR
 first
  | (simp only [zqh,zuI]; done)
  | (simp only [zqh]; rfl)
abbrev zlm:=∀ (β:Type),Nat→List V→List (List V)→(Int→Option β)→Option β
def xZ(β:Type)(L:Nat)(A:List V)(C:List (List V))(z:Int→Option β):Option β:=zsR xu zx yo L A C z
def zqi(xZ:zlm)(L:Nat)(β:Type)(args:List V)(bor:Bor)(k:KK β):Option β:=match args,bor with
 | [a0,a1],[]=>aG a0 fun z=>aL 1 a1 fun A=>xZ β L z A (fun z=>k (Qd z) [])
 | _,_=>none
theorem zCq(L:Nat)(β:Type)(args:List V)(bor:Bor)(k:KK β)(r:β)(h:zqi xZ L β args bor k=some r):yp zeZ (ze0 xu zx yo L) L zjd args bor k=some r:=by
 unfold zqi at h
 split at h
 ·have q:=zV h; clear h; obtain ⟨z,rfl,h⟩:=q
  have q:=za1 h; clear h; obtain ⟨A,rfl,h⟩:=q
  exact (zCh xu zx yo L z A k).trans h
 ·cases h
def zet:CF:=⟨32,[.tmp 6],(.seq (.reg [Qv 3 (tq 0),Qv 4 (tq 1),Qh 6 (Qf 0)]) (.seq (.reg [Qk 10 32 (tq 3),Qs 11 109 [(Qw 10)],oo 7 (.alloc true [(.sc (.int .u64 0)),(.sc (.int .u64 0))]),Qm 2 (tq 7) (tq 11)]) (.seq (.dreg [] [(Qk 12 2 (tq 7),ql 7 [4] [13]),(oo 13 (.buildSlice 1 1 [(.sc (.int .u8 0))] [(0,1,(.const (.sc (.int .u8 2))))]),qn [7,4] []),(Qk 14 3 (tq 4),ql 4 [7] [13]),(Qs 15 269 [(Qw 14)],qc [7] [13]),(Qs 16 157 [(Qw 13),(Qw 15)],qc [7] []),(Qh 17 (tq 2),q0),(Qs 18 157 [(Qw 16),(Qw 17)],qc [7] []),(Qs 19 105 [(Qw 12),(Qw 18)],q0),(oo 20 (.bin .rem (tq 19) (.const (.sc (.int .u64 4)))),q0),(Qh 8 (tq 20),q0)]) (.seq (.reg [oo 21 (.buildSlice 1 1 [(.sc (.int .u8 0))] [(0,1,(.const (.sc (.int .u8 1))))]),Qh 22 (tq 2),Qs 23 157 [(Qw 21),(Qw 22)],Qh 24 (tq 8),Qu 25 .u32 (tq 24),Qs 26 157 [(Qw 23),(Qw 25)],Qh 9 (tq 26)]) (.seq (.reg [Qk 27 2 (tq 7),Qh 28 (tq 9),Qs 29 105 [(Qw 27),(Qw 28)],oo 30 (.bin .rem (tq 29) (.const (.sc (.int .u64 64)))),Qu 31 .i64 (tq 30),Qh 6 (tq 31)]) .ret)))))⟩
def zko:Hint:=⟨[],[],[none],[],[],false,false,[]⟩
def zgS:Nat→Sh:=xY []
def zgV(z9:zkL)(zb:zm)(yw:zdo)(xZ:zlm)(L:Nat):CBC:=(xD 105 (zqi xZ L) (xD 157 (zfK yw L) (xD 269 (zcN zb L) (xD 109 (zp8 z9 L) noC))))
def zhP{β:Type}(z9:zkL)(zb:zm)(yw:zdo)(xZ:zlm)(L:Nat)(A C:List V)(D:Int)(z:Int→Option β):Option β:=chk (0+32≤(XG A)) (z9 β L (XI 32 A) (fun E=>chk ((XG E)=2∧0+2≤2) (lt (xg [(Qd (0:Int)),(Qd (0:Int))] 0 E) fun r1=>chk (0+2≤(XG r1)) (chk (0+3≤(XG C)) (zb β L (XI 3 C) (fun J=>yw β L (xh 1 1 [(Qa (2:Int))]) J (fun M=>yw β L M D (fun N=>xZ β L (XI 2 r1) N (fun O=>lt (XM O (4:Int)) fun P=>yw β L (xh 1 1 [(Qa (1:Int))]) D (fun Q=>lt (QF .u32 P) fun R=>yw β L Q R (fun S=>chk (0+2≤(XG r1)) (xZ β L (XI 2 r1) S (fun F=>lt (XM F (64:Int)) fun G=>lt (QF .i64 G) fun I=>z I)))))))))))))
theorem zqX{β:Type}(z9:zkL)(zb:zm)(yw:zdo)(xZ:zlm)(L:Nat)(z A:List V)(C:Int)(k:KK β):yp zgS (zgV z9 zb yw xZ L) L zet [(V.agg z),(V.agg A),(Qc C)] [] k=zhP z9 zb yw xZ L z A C (fun z=>k (Qe z) []):=by kernel_rfl
abbrev yu:=∀ (β:Type),Nat→List V→List V→Int→(Int→Option β)→Option β
def zc(β:Type)(L:Nat)(A C:List V)(D:Int)(z:Int→Option β):Option β:=zhP z9 zb yw xZ L A C D z
def zct(zc:yu)(L:Nat)(β:Type)(args:List V)(bor:Bor)(k:KK β):Option β:=match args,bor with
 | [a0,a1,a2],[]=>aG a0 fun z=>aG a1 fun A=>aI .u32 a2 fun C=>zc β L z A C (fun z=>k (Qe z) [])
 | _,_=>none
theorem zrf(L:Nat)(β:Type)(args:List V)(bor:Bor)(k:KK β)(r:β)(h:zct zc L β args bor k=some r):yp zgS (zgV z9 zb yw xZ L) L zet args bor k=some r:=by
 unfold zct at h
 split at h
 ·have q:=zV h; clear h; obtain ⟨z,rfl,h⟩:=q
  have q:=zV h; clear h; obtain ⟨A,rfl,h⟩:=q
  have q:=xr h; clear h; obtain ⟨C,rfl,h⟩:=q
  exact (zqX z9 zb yw xZ L z A C k).trans h
 ·cases h
def zgE:CF:=⟨11,[.tmp 3],(.seq (.reg [Qv 2 (tq 0),Qh 3 (Qf 0)]) (.seq (.reg [Ql 4 0 (tq 1),Qk 5 32 (tq 4),Ql 6 1 (tq 2),Qk 7 3 (tq 6),Ql 8 4 (tq 2),Qj 9 1 (tq 8),Qs 10 297 [(Qw 5),(Qw 7),(Qw 9)],Qh 3 (tq 10)]) .ret))⟩
def zni:Hint:=⟨[],[],[none],[],[],false,false,[]⟩
def zjO:Nat→Sh:=xY [(9,(.int .u32))]
def zjU(zc:yu)(L:Nat):CBC:=(xD 297 (zct zc L) noC)
def zlr{β:Type}(zc:yu)(L:Nat)(A C:List V)(z:Int→List V→Option β):Option β:=chk (0+32≤(XG C)) (chk (1+3≤(XG A)) (cI .u32 A 4 fun D=>zc β L (XI 32 C) (XI 3 (XJ 1 A)) D (fun E=>z E C)))
theorem zt1{β:Type}(zc:yu)(L:Nat)(z A:List V)(k:KK β):yp zjO (zjU zc L) L zgE [(V.agg z),(V.ptr 0 0)] [(.live true A)] k=zlr zc L z A (fun z A=>k (Qe z) [(.live true A)]):=by kernel_rfl
abbrev z6:=∀ (β:Type),Nat→List V→List V→(Int→List V→Option β)→Option β
def yi(β:Type)(L:Nat)(A C:List V)(z:Int→List V→Option β):Option β:=zlr zc L A C z
def zhc(yi:z6)(L:Nat)(β:Type)(args:List V)(bor:Bor)(k:KK β):Option β:=match args,bor with
 | [a0,a1],[(.live true z)]=>aG a0 fun A=>aP 0 0 a1 (yi β L A z (fun A z=>k (Qe A) [(.live true z)]))
 | _,_=>none
theorem ztP(L:Nat)(β:Type)(args:List V)(bor:Bor)(k:KK β)(r:β)(h:zhc yi L β args bor k=some r):yp zjO (zjU zc L) L zgE args bor k=some r:=by
 unfold zhc at h
 split at h
 ·have q:=zV h; clear h; obtain ⟨z,rfl,h⟩:=q
  have q:=zqe h; clear h; obtain ⟨rfl,h⟩:=q
  exact (zt1 zc L z _ k).trans h
 ·cases h
def zdg:CC:=(.seq (.reg [Qp 18 .lss (tq 17) (tq 16)]) (.seq (.cond (tq 18) .skip (.seq (.mask (bl 0 58) (bl 288230375077966399 58)) (.exit 0))) (.seq (.block 1 (.seq (.reg [Qo 19 5 (tq 15) (tq 17),Qk 20 5 (tq 19),oo 10 (.alloc true [(.sc (.int .i64 0)),(.sc (.int .u32 0)),(.sc (.int .u16 0)),(.sc (.int .u32 0)),(.sc (.int .u32 0))]),Qm 5 (tq 10) (tq 20)]) (.seq (.seq (.dreg [] [(Ql 21 0 (tq 10),q0),(Qj 22 1 (tq 21),q0),(Qh 23 (tq 7),q0),(Qp 24 .lss (tq 22) (tq 23),q0),(Qh 25 (tq 24),q0),(⟨(some 26),false,(some (25,false)),.fieldAddr 0 (tq 10)⟩,q0),(⟨(some 27),false,(some (25,false)),.load false 1 (tq 26) false⟩,ql 10 [] []),(⟨(some 28),false,(some (25,false)),.move (tq 2) false⟩,q0),(⟨(some 29),false,(some (25,false)),.load true 5 (tq 10) false⟩,ql 10 [] []),(⟨(some 30),false,(some (25,false)),.callv (tq 28) [(Qw 29)] []⟩,qc [10] []),(⟨(some 31),false,(some (25,false)),.bin .neq (tq 27) (tq 30)⟩,q0),(oo 32 (.pick (tq 25) (Qg true) (tq 31)),q0)]) (.cond (tq 32) (.seq (.reg [Qh 6 (Qg false)]) (.seq (.mask (bl 64 58) (bl 288230375077966463 58)) .ret)) .skip)) (.seq (.seq (.reg [Ql 33 0 (tq 10),Qj 34 1 (tq 33),Qh 35 (tq 7),Qp 36 .neq (tq 34) (tq 35)]) (.cond (tq 36) (.reg [Ql 37 0 (tq 10),Qj 38 1 (tq 37),Qh 7 (tq 38),Qh 8 (Qf 0)]) .skip)) (.seq (.reg [Qh 39 (tq 8),Qp 40 .add (tq 39) (Qf 1),Qh 8 (tq 40)]) (.seq (.reg [Ql 41 1 (tq 10),Ql 42 0 (tq 41),Qj 43 1 (tq 42),Ql 44 1 (tq 10),Ql 45 1 (tq 44),Qj 46 1 (tq 45),oo 47 (.build [(.sc (.int .u32 0)),(.sc (.int .u16 0))] [(0,1,(tq 43)),(1,1,(tq 46))]),oo 11 (.alloc true [(.sc (.int .u32 0)),(.sc (.int .u16 0))]),Qm 2 (tq 11) (tq 47)]) (.seq (.seq (.reg [Qh 48 (tq 8),Qp 49 .gtr (tq 48) (Qf 8),Qh 50 (tq 49),⟨(some 51),false,(some (50,false)),.move (tq 1) false⟩,⟨(some 52),false,(some (50,false)),.load true 2 (tq 11) false⟩,⟨(some 53),false,(some (50,false)),.mlook 4 false (.sc (.bool false)) (tq 51) (tq 52)⟩,oo 54 (.pick (tq 50) (Qg true) (tq 53))]) (.cond (tq 54) (.seq (.reg [Qh 6 (Qg false)]) (.seq (.mask (bl 64 58) (bl 288230375077966463 58)) .ret)) .skip)) (.reg [Qh 55 (tq 1),Qk 56 2 (tq 11),oz (.mput 4 (tq 55) (tq 56) (Qg true))])))))))) (.reg [Qp 57 .add (tq 17) (Qf 1),Qh 17 (tq 57)]))))
def zfQ:CC:=(.seq (.reg [Qh 6 (Qg true)]) .ret)
def zbN:CF:=⟨58,[.tmp 6],(.seq (.reg [Qh 6 (Qg false)]) (.seq (.seq (.reg [Qh 12 (tq 0),Qr 13 (tq 12),Qp 14 .gtr (tq 13) (Qf 512)]) (.cond (tq 14) (.seq (.reg [Qh 6 (Qg false)]) .ret) .skip)) (.seq (.reg [Qh 7 (Qf (-1)),Qh 8 (Qf 0)]) (.seq (.seq (.reg [Qh 15 (tq 0),Qr 16 (tq 15),Qh 17 (Qf 0)]) (.block 0 (.loop (bl 229766 58) (bl 288230375077966783 58) zdg))) zfQ))))⟩
def zoX:Hint:=⟨[],[],[none,none,none,some ((bl 229766 58),(bl 288230375077966783 58)),none,some ((bl 0 58),(bl 288230375077966399 58)),none,none,some ((bl 64 58),(bl 288230375077966463 58)),none,none,some ((bl 64 58),(bl 288230375077966463 58)),none],[],[],false,false,[]⟩
def zaV:Nat→Sh:=xY [(22,(.int .i64)),(27,(.int .i64)),(34,(.int .i64)),(38,(.int .i64)),(43,(.int .u32)),(46,(.int .u16)),(53,.bool)]
def zaU(yi:z6)(L:Nat):CBC:=(xD 296 (zhc yi L) noC)
def ze4:St→St:=zaY 2 (bl 229766 58) (bl 288230375077966783 58)
def zdY(D E:Int)(z:List (List V))(A C:Int)(F:List (V × V))(G:List V):St:=⟨(jn 1 ((V.mp 0)::((V.fn 296 [(V.ptr 1 0)])::(jn 4 ((Qe D)::((Qe E)::(jn 6 ((V.sl 5 z)::((Qe A)::((Qe C)::(jn 40 []))))))))))),((.mp F)::((.live true G)::(gn 58 [])))⟩
def ziC(z:Bool)(A:List (V × V))(C:List V):St:=⟨(jn 6 ((V.sc (.bool z))::(jn 51 []))),((.mp A)::((.live true C)::(gn 58 [])))⟩
def zi4(z:List (V × V))(A:List V):St:=⟨(jn 58 []),((.mp z)::((.live true A)::(gn 58 [])))⟩
abbrev zlQ(β:Type):Type:=Int→Int→List (List V)→Int→Int→List (V × V)→List V→Option β
def zm4{β:Type}(yi:z6)(L:Nat)(C:List (List V))(D:List (V × V))(E:List V)(A:Bool→List (V × V)→List V→Option β)(z:zlQ β):Option β:=ifb (decide (((XG C:Nat):Int)>(512:Int))) (A false D E) (z (-1:Int) (0:Int) C ((XG C:Nat):Int) (0:Int) D E)
theorem zvp{β:Type}(yi:z6)(L:Nat)(C:List (List V))(z:List (V × V))(A:List V)(k:KK β):yp zaV (zaU yi L) L zbN [(V.sl 5 C),(V.mp 0),(V.fn 296 [(V.ptr 1 0)])] [(.mp z),(.live true A)] k=zm4 yi L C z A (fun C z A=>k (V.sc (.bool C)) [(.mp z),(.live true A)]) (fun G I D E F z A=>yD (zj zaV (zaU yi L) 2 L zdg) ze4 L (zdY G I D E F z A) (xB 0 (yN (zj zaV (zaU yi L) 2 L zfQ) (yU 2 (CF.res zbN) k)))):=by kernel_rfl
def zhM{β:Type}(yi:z6)(L:Nat)(O p8:Int)(I:List (List V))(J E:Int)(C:List (V × V))(M:List V)(z:Bool→List (V × V)→List V→Option β)(A:zlQ β)(P:List (V × V)→List V→Option β):Option β:=ifb (decide (E<J)) (idx I E fun c0=>chk ((XG (XI 5 c0))=5∧0+5≤5) (lt (xg [(Qe (0:Int)),(Qc (0:Int)),(Qb (0:Int)),(Qc (0:Int)),(Qc (0:Int))] 0 (XI 5 c0)) fun r1=>cI .i64 r1 0 fun v2=>ifb (decide (v2<O)) (z false C M) (cI .i64 r1 0 fun v3=>chk (0+5≤(XG r1)) (yi β L (XI 5 r1) M (fun v4 D=>chk ([(XG D)]=[(XG M)]) (ifb ((v3:Int) != v4) (z false C D) (cI .i64 r1 0 fun v6=>ifb ((v6:Int) != O) (cI .i64 r1 0 fun v7=>lt (QF .i64 (((0:Int):Int)+(1:Int))) fun Q=>cI .u32 r1 1 fun v9=>cI .u16 r1 2 fun R=>lt [(Qc v9),(Qb R)] fun F=>ifb (decide (Q>(8:Int))) (z false C D) (chk (0+2≤(XG F)) (mAt 4 (V.agg (XI 2 F)) C fun S=>aB (XL S (V.sc (.bool false))) fun U=>ifb U (z false C D) (chk (0+2≤(XG F)) (ztn 4 (V.agg (XI 2 F)) (V.sc (.bool true)) C fun W=>lt (QF .i64 ((E:Int)+(1:Int))) fun X=>A v7 Q I J X W D))))) (lt (QF .i64 ((p8:Int)+(1:Int))) fun N=>cI .u32 r1 1 fun Y=>cI .u16 r1 2 fun Z=>lt [(Qc Y),(Qb Z)] fun G=>ifb (decide (N>(8:Int))) (z false C D) (chk (0+2≤(XG G)) (mAt 4 (V.agg (XI 2 G)) C fun aa=>aB (XL aa (V.sc (.bool false))) fun ab=>ifb ab (z false C D) (chk (0+2≤(XG G)) (ztn 4 (V.agg (XI 2 G)) (V.sc (.bool true)) C fun ac=>lt (QF .i64 ((E:Int)+(1:Int))) fun ad=>A O N I J ad ac D)))))))))))) (P C M)
theorem zq5{β:Type}(yi:z6)(L:Nat)(F G:Int)(C:List (List V))(D E:Int)(z:List (V × V))(A:List V)(X:St→Option β)(K:KT β):zj zaV (zaU yi L) 2 L zdg (zdY F G C D E z A) (zbt ze4 X K)=zhM yi L F G C D E z A (fun I z A=>K .ret (ziC I z A)) (fun F G C D E z A=>X (zdY F G C D E z A)) (fun z A=>K (.exit 0) (zi4 z A)):=by kernel_rfl
def zf3{β:Type}(yi:z6)(L:Nat)(A:Bool)(C:List (V × V))(D:List V)(z:Bool→List (V × V)→List V→Option β):Option β:=z A C D
theorem zpj{β:Type}(yi:z6)(L:Nat)(C:Bool)(z:List (V × V))(A:List V)(k:KK β):(xB 0 (yN (zj zaV (zaU yi L) 2 L zfQ) (yU 2 (CF.res zbN) k))) .ret (ziC C z A)=zf3 yi L C z A (fun D z A=>k (V.sc (.bool D)) [(.mp z),(.live true A)]):=by kernel_rfl
def zgm{β:Type}(yi:z6)(L:Nat)(A:List (V × V))(C:List V)(z:Bool→List (V × V)→List V→Option β):Option β:=z true A C
theorem zp5{β:Type}(yi:z6)(L:Nat)(z:List (V × V))(A:List V)(k:KK β):(xB 0 (yN (zj zaV (zaU yi L) 2 L zfQ) (yU 2 (CF.res zbN) k))) (.exit 0) (zi4 z A)=zgm yi L z A (fun C z A=>k (V.sc (.bool C)) [(.mp z),(.live true A)]):=by kernel_rfl
def zcu{β:Type}(yi:z6)(L:Nat)(z:Bool→List (V × V)→List V→Option β)(A:List (V × V)→List V→Option β):Nat→Int→Int→List (List V)→Int→Int→List (V × V)→List V→Option β
 | 0,_,_,_,_,_,_,_=>none
 | n+1,F,G,C,D,E,I,J=>zhM yi L F G C D E I J z (fun F G C D E I J=>zcu yi L z A n F G C D E I J) A
theorem zku{β:Type}(yi:z6)(L:Nat)(K:KT β):∀ (n:Nat) (F G:Int) (C:List (List V)) (D E:Int) (z:List (V × V)) (A:List V),yD (zj zaV (zaU yi L) 2 L zdg) ze4 n (zdY F G C D E z A) K=zcu yi L (fun I z A=>K .ret (ziC I z A)) (fun z A=>K (.exit 0) (zi4 z A)) n F G C D E z A:=by
 intro n
 induction n with
 | zero=>intros; rfl
 | succ n ih=>
  intro F G C D E z A
  refine (zq5 yi L F G C D E z A (fun σ=>yD (zj zaV (zaU yi L) 2 L zdg) ze4 n σ K) K).trans ?_
  simp only [ih]
  rfl
def zjg{β:Type}(yi:z6)(L:Nat)(G:List (List V))(A:List (V × V))(C:List V)(z:Bool→List (V × V)→List V→Option β):Option β:=zm4 yi L G A C z (fun I J D E F A C=>zcu yi L (fun M A C=>zf3 yi L M A C z) (fun A C=>zgm yi L A C z) L I J D E F A C)
theorem zvM{β:Type}(yi:z6)(L:Nat)(z:List (List V))(A:List (V × V))(C:List V)(k:KK β):yp zaV (zaU yi L) L zbN [(V.sl 5 z),(V.mp 0),(V.fn 296 [(V.ptr 1 0)])] [(.mp A),(.live true C)] k=zjg yi L z A C (fun z A C=>k (V.sc (.bool z)) [(.mp A),(.live true C)]):=by
 refine (zvp yi L z A C k).trans ?_
 unfold zjg
 first
  | (simp only [zku,zpj,zp5]; done)
  | (simp only [zku]; rfl)
abbrev zjl:=∀ (β:Type),Nat→List (List V)→List (V × V)→List V→(Bool→List (V × V)→List V→Option β)→Option β
def yW(β:Type)(L:Nat)(A:List (List V))(C:List (V × V))(D:List V)(z:Bool→List (V × V)→List V→Option β):Option β:=zjg yi L A C D z
def zje(yW:zjl)(L:Nat)(β:Type)(args:List V)(bor:Bor)(k:KK β):Option β:=match args,bor with
 | [a0,a1,a2],[(.mp z),(.live true A)]=>aL 5 a0 fun C=>aM 0 a1 (aF 296 [(1,0)] a2 (yW β L C z A (fun C z A=>k (V.sc (.bool C)) [(.mp z),(.live true A)])))
 | _,_=>none
theorem zvD(L:Nat)(β:Type)(args:List V)(bor:Bor)(k:KK β)(r:β)(h:zje yW L β args bor k=some r):yp zaV (zaU yi L) L zbN args bor k=some r:=by
 unfold zje at h
 split at h
 ·have q:=za1 h; clear h; obtain ⟨z,rfl,h⟩:=q
  have q:=zFm h; clear h; obtain ⟨rfl,h⟩:=q
  have q:=zyX h; clear h; obtain ⟨rfl,h⟩:=q
  exact (zvM yi L z _ _ k).trans h
 ·cases h
def zhk:CF:=⟨10,[.tmp 4],(.seq (.reg [Qi 4 (.const (.gs 1 []))]) (.seq (.reg [Qh 5 (tq 0),Qh 6 (tq 1),Qu 7 .u64 (tq 6),Qs 8 192 [(Qw 7),((Qf 2),0)],Qs 9 191 [(Qw 5),(Qw 8)],Qi 4 (tq 9)]) .ret))⟩
def zoC:Hint:=⟨[(0,0),(1,5)],[],[none],[],[],false,false,[]⟩
def zls:Nat→Sh:=xY []
def zle(zI:zeJ)(yH:zeK)(L:Nat):CBC:=(xD 191 (zih yH L) (xD 192 (zip zI L) noC))
def zmh{β:Type}(zI:zeJ)(yH:zeK)(L:Nat)(A:List (List V))(C:Int)(z:List (List V)→Option β):Option β:=lt (QF .u64 C) fun D=>zI β L D (2:Int) (fun E=>yH β L A E (fun F=>z F))
theorem zun{β:Type}(zI:zeJ)(yH:zeK)(L:Nat)(z:List (List V))(A:Int)(k:KK β):yp zls (zle zI yH L) L zhk [(V.sl 1 z),(Qb A)] [] k=zmh zI yH L z A (fun z=>k (V.gs 1 z) []):=by kernel_rfl
abbrev zhZ:=∀ (β:Type),Nat→List (List V)→Int→(List (List V)→Option β)→Option β
def xS(β:Type)(L:Nat)(A:List (List V))(C:Int)(z:List (List V)→Option β):Option β:=zmh zI yH L A C z
def zh6(xS:zhZ)(L:Nat)(β:Type)(args:List V)(bor:Bor)(k:KK β):Option β:=match args,bor with
 | [a0,a1],[]=>aL 1 a0 fun z=>aI .u16 a1 fun A=>xS β L z A (fun z=>k (V.gs 1 z) [])
 | _,_=>none
theorem zuG(L:Nat)(β:Type)(args:List V)(bor:Bor)(k:KK β)(r:β)(h:zh6 xS L β args bor k=some r):yp zls (zle zI yH L) L zhk args bor k=some r:=by
 unfold zh6 at h
 split at h
 ·have q:=za1 h; clear h; obtain ⟨z,rfl,h⟩:=q
  have q:=xr h; clear h; obtain ⟨A,rfl,h⟩:=q
  exact (zun zI yH L z A k).trans h
 ·cases h
def zew:CF:=⟨32,[.tmp 4],(.seq (.reg [Qv 2 (tq 0),Qv 3 (tq 1),Qh 4 (Qf 0)]) (.seq (.reg [Qk 8 32 (tq 2),Qs 9 109 [(Qw 8)],oo 5 (.alloc true [(.sc (.int .u64 0)),(.sc (.int .u64 0))]),Qm 2 (tq 5) (tq 9)]) (.seq (.dreg [] [(Qk 10 2 (tq 5),ql 5 [3] [11]),(oo 11 (.buildSlice 1 1 [(.sc (.int .u8 0))] [(0,1,(.const (.sc (.int .u8 4))))]),qn [5,3] []),(Ql 12 0 (tq 3),q0),(Qj 13 1 (tq 12),ql 3 [5] [11]),(Qs 14 157 [(Qw 11),(Qw 13)],qc [5,3] []),(Ql 15 1 (tq 3),q0),(Qj 16 1 (tq 15),ql 3 [5] [11]),(Qs 17 205 [(Qw 14),(Qw 16)],qc [5] []),(Qs 18 105 [(Qw 10),(Qw 17)],q0),(oo 19 (.bin .rem (tq 18) (.const (.sc (.int .u64 4)))),q0),(Qh 6 (tq 19),q0)]) (.seq (.reg [oo 20 (.buildSlice 1 1 [(.sc (.int .u8 0))] [(0,1,(.const (.sc (.int .u8 3))))]),Qk 21 3 (tq 3),Qs 22 269 [(Qw 21)],Qs 23 157 [(Qw 20),(Qw 22)],Qh 24 (tq 6),Qu 25 .u32 (tq 24),Qs 26 157 [(Qw 23),(Qw 25)],Qh 7 (tq 26)]) (.seq (.reg [Qk 27 2 (tq 5),Qh 28 (tq 7),Qs 29 105 [(Qw 27),(Qw 28)],oo 30 (.bin .rem (tq 29) (.const (.sc (.int .u64 64)))),Qu 31 .i64 (tq 30),Qh 4 (tq 31)]) .ret)))))⟩
def zkk:Hint:=⟨[],[],[none],[],[],false,false,[]⟩
def zgY:Nat→Sh:=xY [(13,(.int .u32)),(16,(.int .u16))]
def zgU(z9:zkL)(yw:zdo)(xS:zhZ)(xZ:zlm)(zb:zm)(L:Nat):CBC:=(xD 269 (zcN zb L) (xD 105 (zqi xZ L) (xD 205 (zh6 xS L) (xD 157 (zfK yw L) (xD 109 (zp8 z9 L) noC)))))
def zhH{β:Type}(z9:zkL)(yw:zdo)(xS:zhZ)(xZ:zlm)(zb:zm)(L:Nat)(C z:List V)(A:Int→Option β):Option β:=chk (0+32≤(XG C)) (z9 β L (XI 32 C) (fun D=>chk ((XG D)=2∧0+2≤2) (lt (xg [(Qd (0:Int)),(Qd (0:Int))] 0 D) fun r1=>chk (0+2≤(XG r1)) (cI .u32 z 0 fun M=>yw β L (xh 1 1 [(Qa (4:Int))]) M (fun N=>cI .u16 z 1 fun O=>xS β L N O (fun P=>xZ β L (XI 2 r1) P (fun Q=>lt (XM Q (4:Int)) fun R=>chk (0+3≤(XG z)) (zb β L (XI 3 z) (fun S=>yw β L (xh 1 1 [(Qa (3:Int))]) S (fun U=>lt (QF .u32 R) fun E=>yw β L U E (fun F=>chk (0+2≤(XG r1)) (xZ β L (XI 2 r1) F (fun G=>lt (XM G (64:Int)) fun I=>lt (QF .i64 I) fun J=>A J)))))))))))))
theorem zrh{β:Type}(z9:zkL)(yw:zdo)(xS:zhZ)(xZ:zlm)(zb:zm)(L:Nat)(z A:List V)(k:KK β):yp zgY (zgU z9 yw xS xZ zb L) L zew [(V.agg z),(V.agg A)] [] k=zhH z9 yw xS xZ zb L z A (fun z=>k (Qe z) []):=by kernel_rfl
abbrev zbz:=∀ (β:Type),Nat→List V→List V→(Int→Option β)→Option β
def xp(β:Type)(L:Nat)(A C:List V)(z:Int→Option β):Option β:=zhH z9 yw xS xZ zb L A C z
def zdu(xp:zbz)(L:Nat)(β:Type)(args:List V)(bor:Bor)(k:KK β):Option β:=match args,bor with
 | [a0,a1],[]=>aG a0 fun z=>aG a1 fun A=>xp β L z A (fun z=>k (Qe z) [])
 | _,_=>none
theorem zrj(L:Nat)(β:Type)(args:List V)(bor:Bor)(k:KK β)(r:β)(h:zdu xp L β args bor k=some r):yp zgY (zgU z9 yw xS xZ zb L) L zew args bor k=some r:=by
 unfold zdu at h
 split at h
 ·have q:=zV h; clear h; obtain ⟨z,rfl,h⟩:=q
  have q:=zV h; clear h; obtain ⟨A,rfl,h⟩:=q
  exact (zrh z9 yw xS xZ zb L z A k).trans h
 ·cases h
def zgD:CF:=⟨9,[.tmp 3],(.seq (.reg [Qv 2 (tq 0),Qh 3 (Qf 0)]) (.seq (.reg [Ql 4 0 (tq 1),Qk 5 32 (tq 4),Ql 6 1 (tq 2),Qk 7 3 (tq 6),Qs 8 299 [(Qw 5),(Qw 7)],Qh 3 (tq 8)]) .ret))⟩
def zns:Hint:=⟨[],[],[none],[],[],false,false,[]⟩
def zjV:Nat→Sh:=xY []
def zjP(xp:zbz)(L:Nat):CBC:=(xD 299 (zdu xp L) noC)
def zlk{β:Type}(xp:zbz)(L:Nat)(C A:List V)(z:Int→List V→Option β):Option β:=chk (0+32≤(XG A)) (chk (1+3≤(XG C)) (xp β L (XI 32 A) (XI 3 (XJ 1 C)) (fun D=>z D A)))
theorem zt5{β:Type}(xp:zbz)(L:Nat)(z A:List V)(k:KK β):yp zjV (zjP xp L) L zgD [(V.agg z),(V.ptr 0 0)] [(.live true A)] k=zlk xp L z A (fun z A=>k (Qe z) [(.live true A)]):=by kernel_rfl
abbrev z7:=∀ (β:Type),Nat→List V→List V→(Int→List V→Option β)→Option β
def xi(β:Type)(L:Nat)(A C:List V)(z:Int→List V→Option β):Option β:=zlk xp L A C z
def zha(xi:z7)(L:Nat)(β:Type)(args:List V)(bor:Bor)(k:KK β):Option β:=match args,bor with
 | [a0,a1],[(.live true z)]=>aG a0 fun A=>aP 0 0 a1 (xi β L A z (fun A z=>k (Qe A) [(.live true z)]))
 | _,_=>none
theorem zub(L:Nat)(β:Type)(args:List V)(bor:Bor)(k:KK β)(r:β)(h:zha xi L β args bor k=some r):yp zjV (zjP xp L) L zgD args bor k=some r:=by
 unfold zha at h
 split at h
 ·have q:=zV h; clear h; obtain ⟨z,rfl,h⟩:=q
  have q:=zqe h; clear h; obtain ⟨rfl,h⟩:=q
  exact (zt5 xp L z _ k).trans h
 ·cases h
def zdJ:CC:=(.seq (.reg [Qp 18 .lss (tq 17) (tq 16)]) (.seq (.cond (tq 18) .skip (.seq (.mask (bl 0 58) (bl 288230375077966399 58)) (.exit 0))) (.seq (.block 1 (.seq (.reg [Qo 19 5 (tq 15) (tq 17),Qk 20 5 (tq 19),oo 10 (.alloc true [(.sc (.int .i64 0)),(.sc (.int .u32 0)),(.sc (.int .u16 0)),(.sc (.int .u32 0)),(.sc (.int .u32 0))]),Qm 5 (tq 10) (tq 20)]) (.seq (.seq (.dreg [] [(Ql 21 0 (tq 10),q0),(Qj 22 1 (tq 21),q0),(Qh 23 (tq 7),q0),(Qp 24 .lss (tq 22) (tq 23),q0),(Qh 25 (tq 24),q0),(⟨(some 26),false,(some (25,false)),.fieldAddr 0 (tq 10)⟩,q0),(⟨(some 27),false,(some (25,false)),.load false 1 (tq 26) false⟩,ql 10 [] []),(⟨(some 28),false,(some (25,false)),.move (tq 2) false⟩,q0),(⟨(some 29),false,(some (25,false)),.load true 5 (tq 10) false⟩,ql 10 [] []),(⟨(some 30),false,(some (25,false)),.callv (tq 28) [(Qw 29)] []⟩,qc [10] []),(⟨(some 31),false,(some (25,false)),.bin .neq (tq 27) (tq 30)⟩,q0),(oo 32 (.pick (tq 25) (Qg true) (tq 31)),q0)]) (.cond (tq 32) (.seq (.reg [Qh 6 (Qg false)]) (.seq (.mask (bl 64 58) (bl 288230375077966463 58)) .ret)) .skip)) (.seq (.seq (.reg [Ql 33 0 (tq 10),Qj 34 1 (tq 33),Qh 35 (tq 7),Qp 36 .neq (tq 34) (tq 35)]) (.cond (tq 36) (.reg [Ql 37 0 (tq 10),Qj 38 1 (tq 37),Qh 7 (tq 38),Qh 8 (Qf 0)]) .skip)) (.seq (.reg [Qh 39 (tq 8),Qp 40 .add (tq 39) (Qf 1),Qh 8 (tq 40)]) (.seq (.reg [Ql 41 1 (tq 10),Ql 42 0 (tq 41),Qj 43 1 (tq 42),Ql 44 1 (tq 10),Ql 45 1 (tq 44),Qj 46 1 (tq 45),oo 47 (.build [(.sc (.int .u32 0)),(.sc (.int .u16 0))] [(0,1,(tq 43)),(1,1,(tq 46))]),oo 11 (.alloc true [(.sc (.int .u32 0)),(.sc (.int .u16 0))]),Qm 2 (tq 11) (tq 47)]) (.seq (.seq (.reg [Qh 48 (tq 8),Qp 49 .gtr (tq 48) (Qf 8),Qh 50 (tq 49),⟨(some 51),false,(some (50,false)),.move (tq 1) false⟩,⟨(some 52),false,(some (50,false)),.load true 2 (tq 11) false⟩,⟨(some 53),false,(some (50,false)),.mlook 4 false (.sc (.bool false)) (tq 51) (tq 52)⟩,oo 54 (.pick (tq 50) (Qg true) (tq 53))]) (.cond (tq 54) (.seq (.reg [Qh 6 (Qg false)]) (.seq (.mask (bl 64 58) (bl 288230375077966463 58)) .ret)) .skip)) (.reg [Qh 55 (tq 1),Qk 56 2 (tq 11),oz (.mput 4 (tq 55) (tq 56) (Qg true))])))))))) (.reg [Qp 57 .add (tq 17) (Qf 1),Qh 17 (tq 57)]))))
def zgW:CC:=(.seq (.reg [Qh 6 (Qg true)]) .ret)
def zc6:CF:=zbN
def zan:Nat→Sh:=xY [(22,(.int .i64)),(27,(.int .i64)),(34,(.int .i64)),(38,(.int .i64)),(43,(.int .u32)),(46,(.int .u16)),(53,.bool)]
def zal(xi:z7)(L:Nat):CBC:=(xD 298 (zha xi L) noC)
def zdX:St→St:=zaY 2 (bl 229766 58) (bl 288230375077966783 58)
def zc9(D E:Int)(z:List (List V))(A C:Int)(F:List (V × V))(G:List V):St:=⟨(jn 1 ((V.mp 0)::((V.fn 298 [(V.ptr 1 0)])::(jn 4 ((Qe D)::((Qe E)::(jn 6 ((V.sl 5 z)::((Qe A)::((Qe C)::(jn 40 []))))))))))),((.mp F)::((.live true G)::(gn 58 [])))⟩
def zgg(z:Bool)(A:List (V × V))(C:List V):St:=⟨(jn 6 ((V.sc (.bool z))::(jn 51 []))),((.mp A)::((.live true C)::(gn 58 [])))⟩
def zg2(z:List (V × V))(A:List V):St:=⟨(jn 58 []),((.mp z)::((.live true A)::(gn 58 [])))⟩
abbrev zjC(β:Type):Type:=Int→Int→List (List V)→Int→Int→List (V × V)→List V→Option β
def zjM{β:Type}(xi:z7)(L:Nat)(C:List (List V))(D:List (V × V))(E:List V)(A:Bool→List (V × V)→List V→Option β)(z:zjC β):Option β:=ifb (decide (((XG C:Nat):Int)>(512:Int))) (A false D E) (z (-1:Int) (0:Int) C ((XG C:Nat):Int) (0:Int) D E)
theorem ztt{β:Type}(xi:z7)(L:Nat)(C:List (List V))(z:List (V × V))(A:List V)(k:KK β):yp zan (zal xi L) L zc6 [(V.sl 5 C),(V.mp 0),(V.fn 298 [(V.ptr 1 0)])] [(.mp z),(.live true A)] k=zjM xi L C z A (fun C z A=>k (V.sc (.bool C)) [(.mp z),(.live true A)]) (fun G I D E F z A=>yD (zj zan (zal xi L) 2 L zdJ) zdX L (zc9 G I D E F z A) (xB 0 (yN (zj zan (zal xi L) 2 L zgW) (yU 2 (CF.res zc6) k)))):=by kernel_rfl
def zf6{β:Type}(xi:z7)(L:Nat)(O p8:Int)(I:List (List V))(J E:Int)(C:List (V × V))(M:List V)(z:Bool→List (V × V)→List V→Option β)(A:zjC β)(P:List (V × V)→List V→Option β):Option β:=ifb (decide (E<J)) (idx I E fun c0=>chk ((XG (XI 5 c0))=5∧0+5≤5) (lt (xg [(Qe (0:Int)),(Qc (0:Int)),(Qb (0:Int)),(Qc (0:Int)),(Qc (0:Int))] 0 (XI 5 c0)) fun r1=>cI .i64 r1 0 fun v2=>ifb (decide (v2<O)) (z false C M) (cI .i64 r1 0 fun v3=>chk (0+5≤(XG r1)) (xi β L (XI 5 r1) M (fun v4 D=>chk ([(XG D)]=[(XG M)]) (ifb ((v3:Int) != v4) (z false C D) (cI .i64 r1 0 fun v6=>ifb ((v6:Int) != O) (cI .i64 r1 0 fun v7=>lt (QF .i64 (((0:Int):Int)+(1:Int))) fun Q=>cI .u32 r1 1 fun v9=>cI .u16 r1 2 fun R=>lt [(Qc v9),(Qb R)] fun F=>ifb (decide (Q>(8:Int))) (z false C D) (chk (0+2≤(XG F)) (mAt 4 (V.agg (XI 2 F)) C fun S=>aB (XL S (V.sc (.bool false))) fun U=>ifb U (z false C D) (chk (0+2≤(XG F)) (ztn 4 (V.agg (XI 2 F)) (V.sc (.bool true)) C fun W=>lt (QF .i64 ((E:Int)+(1:Int))) fun X=>A v7 Q I J X W D))))) (lt (QF .i64 ((p8:Int)+(1:Int))) fun N=>cI .u32 r1 1 fun Y=>cI .u16 r1 2 fun Z=>lt [(Qc Y),(Qb Z)] fun G=>ifb (decide (N>(8:Int))) (z false C D) (chk (0+2≤(XG G)) (mAt 4 (V.agg (XI 2 G)) C fun aa=>aB (XL aa (V.sc (.bool false))) fun ab=>ifb ab (z false C D) (chk (0+2≤(XG G)) (ztn 4 (V.agg (XI 2 G)) (V.sc (.bool true)) C fun ac=>lt (QF .i64 ((E:Int)+(1:Int))) fun ad=>A O N I J ad ac D)))))))))))) (P C M)
theorem zpc{β:Type}(xi:z7)(L:Nat)(F G:Int)(C:List (List V))(D E:Int)(z:List (V × V))(A:List V)(X:St→Option β)(K:KT β):zj zan (zal xi L) 2 L zdJ (zc9 F G C D E z A) (zbt zdX X K)=zf6 xi L F G C D E z A (fun I z A=>K .ret (zgg I z A)) (fun F G C D E z A=>X (zc9 F G C D E z A)) (fun z A=>K (.exit 0) (zg2 z A)):=by kernel_rfl
def zeL{β:Type}(xi:z7)(L:Nat)(A:Bool)(C:List (V × V))(D:List V)(z:Bool→List (V × V)→List V→Option β):Option β:=z A C D
theorem znx{β:Type}(xi:z7)(L:Nat)(C:Bool)(z:List (V × V))(A:List V)(k:KK β):(xB 0 (yN (zj zan (zal xi L) 2 L zgW) (yU 2 (CF.res zc6) k))) .ret (zgg C z A)=zeL xi L C z A (fun D z A=>k (V.sc (.bool D)) [(.mp z),(.live true A)]):=by kernel_rfl
def zfb{β:Type}(xi:z7)(L:Nat)(A:List (V × V))(C:List V)(z:Bool→List (V × V)→List V→Option β):Option β:=z true A C
theorem znG{β:Type}(xi:z7)(L:Nat)(z:List (V × V))(A:List V)(k:KK β):(xB 0 (yN (zj zan (zal xi L) 2 L zgW) (yU 2 (CF.res zc6) k))) (.exit 0) (zg2 z A)=zfb xi L z A (fun C z A=>k (V.sc (.bool C)) [(.mp z),(.live true A)]):=by kernel_rfl
def zbG{β:Type}(xi:z7)(L:Nat)(z:Bool→List (V × V)→List V→Option β)(A:List (V × V)→List V→Option β):Nat→Int→Int→List (List V)→Int→Int→List (V × V)→List V→Option β
 | 0,_,_,_,_,_,_,_=>none
 | n+1,F,G,C,D,E,I,J=>zf6 xi L F G C D E I J z (fun F G C D E I J=>zbG xi L z A n F G C D E I J) A
theorem zid{β:Type}(xi:z7)(L:Nat)(K:KT β):∀ (n:Nat) (F G:Int) (C:List (List V)) (D E:Int) (z:List (V × V)) (A:List V),yD (zj zan (zal xi L) 2 L zdJ) zdX n (zc9 F G C D E z A) K=zbG xi L (fun I z A=>K .ret (zgg I z A)) (fun z A=>K (.exit 0) (zg2 z A)) n F G C D E z A:=by
 intro n
 induction n with
 | zero=>intros; rfl
 | succ n ih=>
  intro F G C D E z A
  refine (zpc xi L F G C D E z A (fun σ=>yD (zj zan (zal xi L) 2 L zdJ) zdX n σ K) K).trans ?_
  simp only [ih]
  rfl
def zgN{β:Type}(xi:z7)(L:Nat)(G:List (List V))(A:List (V × V))(C:List V)(z:Bool→List (V × V)→List V→Option β):Option β:=zjM xi L G A C z (fun I J D E F A C=>zbG xi L (fun M A C=>zeL xi L M A C z) (fun A C=>zfb xi L A C z) L I J D E F A C)
theorem zti{β:Type}(xi:z7)(L:Nat)(z:List (List V))(A:List (V × V))(C:List V)(k:KK β):yp zan (zal xi L) L zc6 [(V.sl 5 z),(V.mp 0),(V.fn 298 [(V.ptr 1 0)])] [(.mp A),(.live true C)] k=zgN xi L z A C (fun z A C=>k (V.sc (.bool z)) [(.mp A),(.live true C)]):=by
 refine (ztt xi L z A C k).trans ?_
 unfold zgN
 first
  | (simp only [zid,znx,znG]; done)
  | (simp only [zid]; rfl)
abbrev zgG:=∀ (β:Type),Nat→List (List V)→List (V × V)→List V→(Bool→List (V × V)→List V→Option β)→Option β
def yO(β:Type)(L:Nat)(A:List (List V))(C:List (V × V))(D:List V)(z:Bool→List (V × V)→List V→Option β):Option β:=zgN xi L A C D z
def zgJ(yO:zgG)(L:Nat)(β:Type)(args:List V)(bor:Bor)(k:KK β):Option β:=match args,bor with
 | [a0,a1,a2],[(.mp z),(.live true A)]=>aL 5 a0 fun C=>aM 0 a1 (aF 298 [(1,0)] a2 (yO β L C z A (fun C z A=>k (V.sc (.bool C)) [(.mp z),(.live true A)])))
 | _,_=>none
theorem ztv(L:Nat)(β:Type)(args:List V)(bor:Bor)(k:KK β)(r:β)(h:zgJ yO L β args bor k=some r):yp zan (zal xi L) L zc6 args bor k=some r:=by
 unfold zgJ at h
 split at h
 ·have q:=za1 h; clear h; obtain ⟨z,rfl,h⟩:=q
  have q:=zFm h; clear h; obtain ⟨rfl,h⟩:=q
  have q:=zyX h; clear h; obtain ⟨rfl,h⟩:=q
  exact (zti xi L z _ _ k).trans h
 ·cases h
def zh8:CF:=⟨17,[.tmp 2],(.seq (.reg [Qv 1 (tq 0),Qh 2 (Qg false)]) (.seq (.reg [oo 4 (.makeMap),Qh 3 (tq 4)]) (.seq (.reg [Ql 5 32 (tq 1),Qj 6 1 (tq 5),Qh 7 (tq 3),oo 8 (.makeFunc 296 [(tq 1)]),Qs 9 295 [(Qw 6),(Qw 7),(Qw 8)],Qh 10 (tq 9),⟨(some 11),false,(some (10,true)),.fieldAddr 33 (tq 1)⟩,⟨(some 12),false,(some (10,true)),.load false 1 (tq 11) false⟩,⟨(some 13),false,(some (10,true)),.move (tq 3) false⟩,⟨(some 14),false,(some (10,true)),.makeFunc 298 [(tq 1)]⟩,⟨(some 15),false,(some (10,true)),.call 295 [(Qw 12),(Qw 13),(Qw 14)] []⟩,oo 16 (.pick (tq 10) (tq 15) (Qg false)),Qh 2 (tq 16)]) .ret)))⟩
def zoY:Hint:=⟨[(0,0)],[],[none],[],[],false,false,[]⟩
def zl9:Nat→Sh:=xY [(6,(.sl 5)),(12,(.sl 5))]
def zmd(yW:zjl)(yO:zgG)(L:Nat):CBC:=(zwN 295 [6,12,398,22,20] (zgJ yO L) (zwN 295 [6,12,396,22,20] (zje yW L) noC))
def zm2{β:Type}(yW:zjl)(yO:zgG)(L:Nat)(C:List V)(z:Bool→Option β):Option β:=cLd 5 C 32 fun D=>yW β L D ([]:List (V × V)) C (fun E F A=>chk ([0,(XG A)]=[0,(XG C)]) (ifb E (cLd 5 A 33 fun G=>yO β L G F A (fun I M J=>chk ([0,(XG J)]=[0,(XG A)]) (z I))) (z false)))
theorem zvL{β:Type}(yW:zjl)(yO:zgG)(L:Nat)(z:List V)(k:KK β):yp zl9 (zmd yW yO L) L zh8 [(V.agg z)] [] k=zm2 yW yO L z (fun z=>k (V.sc (.bool z)) []):=by kernel_rfl
abbrev yq:=∀ (β:Type),Nat→List V→(Bool→Option β)→Option β
def xb(β:Type)(L:Nat)(A:List V)(z:Bool→Option β):Option β:=zm2 yW yO L A z
def zeP(xb:yq)(L:Nat)(β:Type)(args:List V)(bor:Bor)(k:KK β):Option β:=match args,bor with
 | [a0],[]=>aG a0 fun z=>xb β L z (fun z=>k (V.sc (.bool z)) [])
 | _,_=>none
theorem zvE(L:Nat)(β:Type)(args:List V)(bor:Bor)(k:KK β)(r:β)(h:zeP xb L β args bor k=some r):yp zl9 (zmd yW yO L) L zh8 args bor k=some r:=by
 unfold zeP at h
 split at h
 ·have q:=zV h; clear h; obtain ⟨z,rfl,h⟩:=q
  exact (zvL yW yO L z k).trans h
 ·cases h
def zbw:CF:=⟨8,[.tmp 2],(.seq (.reg [Qi 2 (.const (.gs 5 []))]) (.fork (.reg [Qh 3 (tq 0),oo 4 (.nilT false (tq 3))]) (tq 4) (.seq (.reg [oo 2 (.nilS 5 7)]) (.seq (.mask (bl 4 8) (bl 128 8)) .ret)) (.seq (.reg [⟨(some 5),true,none,.buildSlice 5 0 [(.sc (.int .i64 0)),(.sc (.int .u32 0)),(.sc (.int .u16 0)),(.sc (.int .u32 0)),(.sc (.int .u32 0))] []⟩,Qh 6 (tq 0),⟨(some 7),true,none,.append 5 24 (tq 5) (tq 6)⟩,Qi 2 (tq 7)]) (.seq (.mask (bl 4 8) (bl 128 8)) .ret))))⟩
def zeF:Hint:=⟨[(0,0),(2,0),(3,3)],[(3,0),(3,2)],[none,some ((bl 4 8),(bl 128 8)),some ((bl 4 8),(bl 128 8))],[],[(2,0,[7])],false,false,[]⟩
def zcO:Nat→Sh:=xY []
def zcU(L:Nat):CBC:=noC
def zdd{β:Type}(L:Nat)(C:List (List V))(z:List (List V)→Option β):Option β:=lc C (z ([]:List (List V))) (fun h0 A=>chk ((0+XG (h0::A))*24≤xw∧0+XG (h0::A)≤xw) (chk ((XG (h0::A))≠0∨(XG (XK (h0::A)))=0) (z (xh 5 (XG (h0::A)) (XK (h0::A))))))
theorem zj2{β:Type}(L:Nat)(z:List (List V))(k:KK β):yp zcO (zcU L) L zbw [(V.sl 5 z)] [] k=zdd L z (fun z=>k (V.fr 5 z) []):=by kernel_rfl
abbrev zbH:=∀ (β:Type),Nat→List (List V)→(List (List V)→Option β)→Option β
def xo(β:Type)(L:Nat)(A:List (List V))(z:List (List V)→Option β):Option β:=zdd L A z
def zbF(xo:zbH)(L:Nat)(β:Type)(args:List V)(bor:Bor)(k:KK β):Option β:=match args,bor with
 | [a0],[]=>aL 5 a0 fun z=>xo β L z (fun z=>k (V.fr 5 z) [])
 | _,_=>none
theorem zjR(L:Nat)(β:Type)(args:List V)(bor:Bor)(k:KK β)(r:β)(h:zbF xo L β args bor k=some r):yp zcO (zcU L) L zbw args bor k=some r:=by
 unfold zbF at h
 split at h
 ·have q:=za1 h; clear h; obtain ⟨z,rfl,h⟩:=q
  exact (zj2 L z k).trans h
 ·cases h
def zhy:CF:=⟨12,[.cellS 2 34 false],(.seq (.reg [oo 1 (.box false (tq 0)),oo 2 (.alloc false (rp 32 (.sc (.int .u8 0)) (rp 2 (.gs 5 []) [])))]) (.seq (.reg [Ql 3 32 (tq 1),Qj 4 1 (tq 3),⟨(some 5),true,none,.call 401 [(Qw 4)] []⟩,Ql 6 32 (tq 1),Qm 1 (tq 6) (tq 5)]) (.seq (.reg [Ql 7 33 (tq 1),Qj 8 1 (tq 7),⟨(some 9),true,none,.call 401 [(Qw 8)] []⟩,Ql 10 33 (tq 1),Qm 1 (tq 10) (tq 9)]) (.seq (.reg [oo 11 (.load true 34 (tq 1) true),Qm 34 (tq 2) (tq 11)]) .ret))))⟩
def zoA:Hint:=⟨[(3,0)],[(1,2),(2,2)],[none],[],[],false,true,[]⟩
def zk8:Nat→Sh:=xY [(1,(.row [(.int .u8),(.int .u8),(.int .u8),(.int .u8),(.int .u8),(.int .u8),(.int .u8),(.int .u8),(.int .u8),(.int .u8),(.int .u8),(.int .u8),(.int .u8),(.int .u8),(.int .u8),(.int .u8),(.int .u8),(.int .u8),(.int .u8),(.int .u8),(.int .u8),(.int .u8),(.int .u8),(.int .u8),(.int .u8),(.int .u8),(.int .u8),(.int .u8),(.int .u8),(.int .u8),(.int .u8),(.int .u8),(.sl 5),(.sl 5)]))]
def zlc(xo:zbH)(L:Nat):CBC:=(xD 401 (zbF xo L) noC)
abbrev zjf(β:Type):Type:=Int→Int→Int→Int→Int→Int→Int→Int→Int→Int→Int→Int→Int→Int→Int→Int→Int→Int→Int→Int→Int→Int→Int→Int→Int→Int→Int→Int→Int→Int→Int→Int→Nat→Nat→List V→List V→Option β
def zl2{β:Type}(xo:zbH)(L:Nat)(z:List V)(A:zjf β):Option β:=chk (XG z=34) (cI .u8 z 0 fun v0=>cI .u8 z 1 fun v1=>cI .u8 z 2 fun v2=>cI .u8 z 3 fun v3=>cI .u8 z 4 fun v4=>cI .u8 z 5 fun v5=>cI .u8 z 6 fun v6=>cI .u8 z 7 fun v7=>cI .u8 z 8 fun v8=>cI .u8 z 9 fun v9=>cI .u8 z 10 fun E=>cI .u8 z 11 fun F=>cI .u8 z 12 fun G=>cI .u8 z 13 fun I=>cI .u8 z 14 fun J=>cI .u8 z 15 fun M=>cI .u8 z 16 fun N=>cI .u8 z 17 fun O=>cI .u8 z 18 fun P=>cI .u8 z 19 fun Q=>cI .u8 z 20 fun R=>cI .u8 z 21 fun S=>cI .u8 z 22 fun U=>cI .u8 z 23 fun W=>cI .u8 z 24 fun X=>cI .u8 z 25 fun Y=>cI .u8 z 26 fun Z=>cI .u8 z 27 fun aa=>cI .u8 z 28 fun ab=>cI .u8 z 29 fun ac=>cI .u8 z 30 fun ad=>cI .u8 z 31 fun ae=>cL 5 z 32 fun af=>cL 5 z 33 fun ag=>xo β L af (fun C=>xo β L ag (fun D=>A v0 v1 v2 v3 v4 v5 v6 v7 v8 v9 E F G I J M N O P Q R S U W X Y Z aa ab ac ad ae (XG C) (XG D) (XK C) (XK D))))
theorem zuQ{β:Type}(xo:zbH)(L:Nat)(p0:List V)(k:KK β):yp zk8 (zlc xo L) L zhy [(V.agg p0)] [] k=zl2 xo L p0 (fun ad ae af ag ah ai aj ak al am C D E F G I J M N O P Q R S U W X Y Z aa ab ac z A b0 b1=>k (V.st [(Qa ad),(Qa ae),(Qa af),(Qa ag),(Qa ah),(Qa ai),(Qa aj),(Qa ak),(Qa al),(Qa am),(Qa C),(Qa D),(Qa E),(Qa F),(Qa G),(Qa I),(Qa J),(Qa M),(Qa N),(Qa O),(Qa P),(Qa Q),(Qa R),(Qa S),(Qa U),(Qa W),(Qa X),(Qa Y),(Qa Z),(Qa aa),(Qa ab),(Qa ac),(V.own 0 0 z 5),(V.own 1 0 A 5)]) [(.live true b0),(.live true b1)]):=by kernel_rfl
abbrev zdn:=∀ (β:Type),Nat→List V→(Int→Int→Int→Int→Int→Int→Int→Int→Int→Int→Int→Int→Int→Int→Int→Int→Int→Int→Int→Int→Int→Int→Int→Int→Int→Int→Int→Int→Int→Int→Int→Int→Nat→Nat→List V→List V→Option β)→Option β
def yB(β:Type)(L:Nat)(A:List V)(z:zjf β):Option β:=zl2 xo L A z
def zfJ(yB:zdn)(L:Nat)(β:Type)(args:List V)(bor:Bor)(k:KK β):Option β:=match args,bor with
 | [a0],[]=>aG a0 fun p0=>yB β L p0 (fun ad ae af ag ah ai aj ak al am C D E F G I J M N O P Q R S U W X Y Z aa ab ac z A b0 b1=>k (V.st [(Qa ad),(Qa ae),(Qa af),(Qa ag),(Qa ah),(Qa ai),(Qa aj),(Qa ak),(Qa al),(Qa am),(Qa C),(Qa D),(Qa E),(Qa F),(Qa G),(Qa I),(Qa J),(Qa M),(Qa N),(Qa O),(Qa P),(Qa Q),(Qa R),(Qa S),(Qa U),(Qa W),(Qa X),(Qa Y),(Qa Z),(Qa aa),(Qa ab),(Qa ac),(V.own 0 0 z 5),(V.own 1 0 A 5)]) [(.live true b0),(.live true b1)])
 | _,_=>none
theorem zuj(L:Nat)(β:Type)(args:List V)(bor:Bor)(k:KK β)(r:β)(h:zfJ yB L β args bor k=some r):yp zk8 (zlc xo L) L zhy args bor k=some r:=by
 unfold zfJ at h
 split at h
 ·have q:=zV h; clear h; obtain ⟨z,rfl,h⟩:=q
  exact (zuQ xo L z k).trans h
 ·cases h
def ziR:CF:=⟨17,[.tmp 4],(.seq (.reg [Qv 2 (tq 0),Qv 3 (tq 1),Qh 4 (Qg false)]) (.seq (.reg [Ql 5 0 (tq 2),Qj 6 1 (tq 5),Ql 7 0 (tq 3),Qj 8 1 (tq 7),Qp 9 .eql (tq 6) (tq 8),Qh 10 (tq 9),⟨(some 11),false,(some (10,true)),.fieldAddr 1 (tq 2)⟩,⟨(some 12),false,(some (10,true)),.load false 1 (tq 11) false⟩,⟨(some 13),false,(some (10,true)),.fieldAddr 1 (tq 3)⟩,⟨(some 14),false,(some (10,true)),.load false 1 (tq 13) false⟩,⟨(some 15),false,(some (10,true)),.bin .eql (tq 12) (tq 14)⟩,oo 16 (.pick (tq 10) (tq 15) (Qg false)),Qh 4 (tq 16)]) .ret))⟩
def zp2:Hint:=⟨[],[],[none],[],[],false,false,[]⟩
def zmR:Nat→Sh:=xY [(6,(.int .u32)),(8,(.int .u32)),(12,(.int .u16)),(14,(.int .u16))]
def zmX(L:Nat):CBC:=noC
def zoh{β:Type}(L:Nat)(A C:List V)(z:Bool→Option β):Option β:=cI .u32 A 0 fun D=>cI .u32 C 0 fun E=>ifb ((D:Int)==E) (cI .u16 A 1 fun F=>cI .u16 C 1 fun G=>z ((F:Int)==G)) (z false)
theorem zwE{β:Type}(L:Nat)(z A:List V)(k:KK β):yp zmR (zmX L) L ziR [(V.agg z),(V.agg A)] [] k=zoh L z A (fun z=>k (V.sc (.bool z)) []):=by kernel_rfl
abbrev zkj:=∀ (β:Type),Nat→List V→List V→(Bool→Option β)→Option β
def y5(β:Type)(L:Nat)(A C:List V)(z:Bool→Option β):Option β:=zoh L A C z
def zkx(y5:zkj)(L:Nat)(β:Type)(args:List V)(bor:Bor)(k:KK β):Option β:=match args,bor with
 | [a0,a1],[]=>aG a0 fun z=>aG a1 fun A=>y5 β L z A (fun z=>k (V.sc (.bool z)) [])
 | _,_=>none
theorem zwn(L:Nat)(β:Type)(args:List V)(bor:Bor)(k:KK β)(r:β)(h:zkx y5 L β args bor k=some r):yp zmR (zmX L) L ziR args bor k=some r:=by
 unfold zkx at h
 split at h
 ·have q:=zV h; clear h; obtain ⟨z,rfl,h⟩:=q
  have q:=zV h; clear h; obtain ⟨A,rfl,h⟩:=q
  exact (zwE L z A k).trans h
 ·cases h
def zht:CF:=⟨8,[.tmp 3],(.seq (.reg [Qv 2 (tq 0),Qh 3 (Qg false)]) (.seq (.reg [Ql 4 1 (tq 2),Qk 5 3 (tq 4),Qk 6 3 (tq 1),Qs 7 404 [(Qw 5),(Qw 6)],Qh 3 (tq 7)]) .ret))⟩
def zoB:Hint:=⟨[],[],[none],[],[],false,false,[]⟩
def zk1:Nat→Sh:=xY []
def zkT(y5:zkj)(L:Nat):CBC:=(xD 404 (zkx y5 L) noC)
def zlS{β:Type}(y5:zkj)(L:Nat)(C A:List V)(z:Bool→List V→Option β):Option β:=chk (1+3≤(XG C)) (chk (0+3≤(XG A)) (y5 β L (XI 3 (XJ 1 C)) (XI 3 A) (fun D=>z D A)))
theorem zuX{β:Type}(y5:zkj)(L:Nat)(z A:List V)(k:KK β):yp zk1 (zkT y5 L) L zht [(V.agg z),(V.ptr 0 0)] [(.live true A)] k=zlS y5 L z A (fun z A=>k (V.sc (.bool z)) [(.live true A)]):=by kernel_rfl
abbrev zD:=∀ (β:Type),Nat→List V→List V→(Bool→List V→Option β)→Option β
def ze(β:Type)(L:Nat)(A C:List V)(z:Bool→List V→Option β):Option β:=zlS y5 L A C z
def zfH(ze:zD)(L:Nat)(β:Type)(args:List V)(bor:Bor)(k:KK β):Option β:=match args,bor with
 | [a0,a1],[(.live true z)]=>aG a0 fun A=>aP 0 0 a1 (ze β L A z (fun A z=>k (V.sc (.bool A)) [(.live true z)]))
 | _,_=>none
theorem zu3(L:Nat)(β:Type)(args:List V)(bor:Bor)(k:KK β)(r:β)(h:zfH ze L β args bor k=some r):yp zk1 (zkT y5 L) L zht args bor k=some r:=by
 unfold zfH at h
 split at h
 ·have q:=zV h; clear h; obtain ⟨z,rfl,h⟩:=q
  have q:=zqe h; clear h; obtain ⟨rfl,h⟩:=q
  exact (zuX y5 L z _ k).trans h
 ·cases h
def y8:CC:=(.seq (.reg [Qp 9 .lss (tq 8) (tq 7)]) (.seq (.cond (tq 9) .skip (.seq (.mask (bl 0 19) (bl 458703 19)) (.exit 0))) (.seq (.block 1 (.seq (.reg [Qh 10 (tq 8),Qh 5 (tq 10)]) (.seq (.reg [Qh 11 (tq 1),Qh 12 (tq 0),Qh 13 (tq 5),Qo 14 5 (tq 12) (tq 13),Qk 15 5 (tq 14),oo 16 (.callv (tq 11) [(Qw 15)] [])]) (.cond (tq 16) (.seq (.reg [Qh 17 (tq 5),Qh 4 (tq 17)]) (.seq (.mask (bl 16 19) (bl 458719 19)) .ret)) .skip)))) (.reg [Qp 18 .add (tq 8) (Qf 1),Qh 8 (tq 18)]))))
def zaT:CC:=(.seq (.reg [Qh 4 (Qf (-1))]) .ret)
def xI:CF:=⟨19,[.tmp 4],(.seq (.reg [Qh 4 (Qf 0)]) (.seq (.seq (.reg [Qh 6 (tq 0),Qr 7 (tq 6),Qh 8 (Qf 0)]) (.block 0 (.loop (bl 387 19) (bl 458703 19) y8))) zaT))⟩
def zdP:Hint:=⟨[],[],[none,some ((bl 387 19),(bl 458703 19)),none,some ((bl 0 19),(bl 458703 19)),none,none,some ((bl 16 19),(bl 458719 19)),none],[],[],false,false,[]⟩
def yC:Nat→Sh:=xY []
def xC(ze:zD)(L:Nat):CBC:=(xD 403 (zfH ze L) noC)
def zaJ:St→St:=zaY 2 (bl 387 19) (bl 458703 19)
def zat(z:Nat)(A C:Int)(D E:List V):St:=⟨((V.own 0 0 z 5)::((V.fn 403 [(V.ptr 1 0)])::(jn 5 ((Qe A)::((Qe C)::(jn 10 [])))))),((.live true D)::((.live true E)::(gn 19 [])))⟩
def zbA(z:Int)(A C:List V):St:=⟨(jn 4 ((Qe z)::(jn 14 []))),((.live true A)::((.live true C)::(gn 19 [])))⟩
def zbJ(z A:List V):St:=⟨(jn 19 []),((.live true z)::((.live true A)::(gn 19 [])))⟩
def zcp{β:Type}(ze:zD)(L:Nat)(A:Nat)(C D:List V)(z:Nat→Int→Int→List V→List V→Option β):Option β:=z A ((A:Nat):Int) (0:Int) C D
theorem zif{β:Type}(ze:zD)(L:Nat)(z:Nat)(A C:List V)(k:KK β):yp yC (xC ze L) L xI [(V.own 0 0 z 5),(V.fn 403 [(V.ptr 1 0)])] [(.live true A),(.live true C)] k=zcp ze L z A C (fun z D E A C=>yD (zj yC (xC ze L) 2 L y8) zaJ L (zat z D E A C) (xB 0 (yN (zj yC (xC ze L) 2 L zaT) (yU 2 (CF.res xI) k)))):=by kernel_rfl
def zbK{β:Type}(ze:zD)(L:Nat)(E:Nat)(J z:Int)(C F:List V)(D:Int→List V→List V→Option β)(A:Nat→Int→Int→List V→List V→Option β)(G:List V→List V→Option β):Option β:=ifb (decide (z<J)) (chk (0≤z∧z<((E:Nat):Int)) (chk ((0+((XH z)*5))+5≤(XG C)) (ze β L (XI 5 (XJ (0+((XH z)*5)) C)) F (fun M I=>chk ([(XG I)]=[(XG F)]) (ifb M (D z C I) (lt (QF .i64 ((z:Int)+(1:Int))) fun N=>A E J N C I)))))) (G C F)
theorem zgZ{β:Type}(ze:zD)(L:Nat)(C:Nat)(D E:Int)(z A:List V)(X:St→Option β)(K:KT β):zj yC (xC ze L) 2 L y8 (zat C D E z A) (zbt zaJ X K)=zbK ze L C D E z A (fun F z A=>K .ret (zbA F z A)) (fun C D E z A=>X (zat C D E z A)) (fun z A=>K (.exit 0) (zbJ z A)):=by kernel_rfl
def zde{β:Type}(ze:zD)(L:Nat)(A:Int)(C D:List V)(z:Int→List V→List V→Option β):Option β:=z A C D
theorem zgd{β:Type}(ze:zD)(L:Nat)(C:Int)(z A:List V)(k:KK β):(xB 0 (yN (zj yC (xC ze L) 2 L zaT) (yU 2 (CF.res xI) k))) .ret (zbA C z A)=zde ze L C z A (fun D z A=>k (Qe D) [(.live true z),(.live true A)]):=by kernel_rfl
def zdr{β:Type}(ze:zD)(L:Nat)(A C:List V)(z:Int→List V→List V→Option β):Option β:=z (-1:Int) A C
theorem zgl{β:Type}(ze:zD)(L:Nat)(z A:List V)(k:KK β):(xB 0 (yN (zj yC (xC ze L) 2 L zaT) (yU 2 (CF.res xI) k))) (.exit 0) (zbJ z A)=zdr ze L z A (fun C z A=>k (Qe C) [(.live true z),(.live true A)]):=by kernel_rfl
def zab{β:Type}(ze:zD)(L:Nat)(z:Int→List V→List V→Option β)(A:List V→List V→Option β):Nat→Nat→Int→Int→List V→List V→Option β
 | 0,_,_,_,_,_=>none
 | n+1,C,D,E,F,G=>zbK ze L C D E F G z (fun C D E F G=>zab ze L z A n C D E F G) A
theorem zdi{β:Type}(ze:zD)(L:Nat)(K:KT β):∀ (n:Nat) (C:Nat) (D E:Int) (z A:List V),yD (zj yC (xC ze L) 2 L y8) zaJ n (zat C D E z A) K=zab ze L (fun F z A=>K .ret (zbA F z A)) (fun z A=>K (.exit 0) (zbJ z A)) n C D E z A:=by
 intro n
 induction n with
 | zero=>intros; rfl
 | succ n ih=>
  intro C D E z A
  refine (zgZ ze L C D E z A (fun σ=>yD (zj yC (xC ze L) 2 L y8) zaJ n σ K) K).trans ?_
  simp only [ih]
  rfl
def za8{β:Type}(ze:zD)(L:Nat)(D:Nat)(z A:List V)(C:Int→List V→List V→Option β):Option β:=zcp ze L D z A (fun D E F z A=>zab ze L (fun G z A=>zde ze L G z A C) (fun z A=>zdr ze L z A C) L D E F z A)
theorem ziq{β:Type}(ze:zD)(L:Nat)(z:Nat)(A C:List V)(k:KK β):yp yC (xC ze L) L xI [(V.own 0 0 z 5),(V.fn 403 [(V.ptr 1 0)])] [(.live true A),(.live true C)] k=za8 ze L z A C (fun D A C=>k (Qe D) [(.live true A),(.live true C)]):=by
 refine (zif ze L z A C k).trans ?_
 unfold za8
 first
  | (simp only [zdi,zgd,zgl]; done)
  | (simp only [zdi]; rfl)
abbrev za9:=∀ (β:Type),Nat→Nat→List V→List V→(Int→List V→List V→Option β)→Option β
def xn(β:Type)(L:Nat)(A:Nat)(C D:List V)(z:Int→List V→List V→Option β):Option β:=za8 ze L A C D z
def za4(xn:za9)(L:Nat)(β:Type)(args:List V)(bor:Bor)(k:KK β):Option β:=match args,bor with
 | [a0,a1],[(.live true z),(.live true A)]=>aO0 0 5 a0 fun C=>aF 403 [(1,0)] a1 (xn β L C z A (fun D z A=>k (Qe D) [(.live true z),(.live true A)]))
 | _,_=>none
theorem zig(L:Nat)(β:Type)(args:List V)(bor:Bor)(k:KK β)(r:β)(h:za4 xn L β args bor k=some r):yp yC (xC ze L) L xI args bor k=some r:=by
 unfold za4 at h
 split at h
 ·have q:=zg7 h; clear h; obtain ⟨z,rfl,h⟩:=q
  have q:=zyX h; clear h; obtain ⟨rfl,h⟩:=q
  exact (ziq ze L z _ _ k).trans h
 ·cases h
def zgh:CF:=⟨8,[.tmp 4],(.seq (.reg [Qv 3 (tq 1),Qh 4 (Qf 0)]) (.seq (.reg [Qh 5 (tq 0),oo 6 (.makeFunc 403 [(tq 3)]),Qs 7 402 [((tq 5),2),((tq 6),2)],Qh 4 (tq 7)]) .ret))⟩
def zp0:Hint:=⟨[(1,2)],[],[none],[],[],false,false,[]⟩
def zmS:Nat→Sh:=xY []
def zmW(xn:za9)(L:Nat):CBC:=(xD 402 (za4 xn L) noC)
def zoy{β:Type}(xn:za9)(L:Nat)(A:Nat)(C D:List V)(z:Int→List V→Option β):Option β:=xn β L A D C (fun F E G=>chk ([(XG E),(XG G)]=[(XG D),(XG C)]) (z F E))
theorem zwf{β:Type}(xn:za9)(L:Nat)(A:Nat)(C z:List V)(k:KK β):yp zmS (zmW xn L) L zgh [(V.own 0 0 A 5),(V.agg C)] [(.live true z)] k=zoy xn L A C z (fun D z=>k (Qe D) [(.live true z)]):=by kernel_rfl
abbrev zks:=∀ (β:Type),Nat→Nat→List V→List V→(Int→List V→Option β)→Option β
def zY(β:Type)(L:Nat)(A:Nat)(C D:List V)(z:Int→List V→Option β):Option β:=zoy xn L A C D z
def zkl(zY:zks)(L:Nat)(β:Type)(args:List V)(bor:Bor)(k:KK β):Option β:=match args,bor with
 | [a0,a1],[(.live true z)]=>aO0 0 5 a0 fun A=>aG a1 fun C=>zY β L A C z (fun D z=>k (Qe D) [(.live true z)])
 | _,_=>none
theorem zvO(L:Nat)(β:Type)(args:List V)(bor:Bor)(k:KK β)(r:β)(h:zkl zY L β args bor k=some r):yp zmS (zmW xn L) L zgh args bor k=some r:=by
 unfold zkl at h
 split at h
 ·have q:=zg7 h; clear h; obtain ⟨z,rfl,h⟩:=q
  have q:=zV h; clear h; obtain ⟨A,rfl,h⟩:=q
  exact (zwf xn L z A _ k).trans h
 ·cases h
def zcP:CC:=(.seq (.seq (.reg [Qh 24 (tq 7),Qh 25 (tq 0),Qr 26 (tq 25),Qp 27 .lss (tq 24) (tq 26),Qh 28 (tq 27),⟨(some 29),false,(some (28,true)),.move (tq 0) false⟩,⟨(some 30),false,(some (28,true)),.move (tq 7) false⟩,⟨(some 31),false,(some (28,true)),.indexAddrS 5 (tq 29) (tq 30)⟩,⟨(some 32),false,(some (28,true)),.fieldAddr 0 (tq 31)⟩,⟨(some 33),false,(some (28,true)),.load false 1 (tq 32) false⟩,⟨(some 34),false,(some (28,true)),.move (tq 1) false⟩,⟨(some 35),false,(some (28,true)),.bin .eql (tq 33) (tq 34)⟩,oo 36 (.pick (tq 28) (tq 35) (Qg false))]) (.cond (tq 36) .skip (.seq (.mask (bl 192 41) (bl 2198956146687 41)) (.exit 2)))) (.block 3 (.reg [Qh 37 (tq 7),Qp 38 .add (tq 37) (Qf 1),Qh 7 (tq 38)])))
def zhN:CC:=(.seq (.reg [Qh 39 (tq 6),Qh 40 (tq 7),Qh 4 (tq 39),Qh 5 (tq 40)]) .ret)
def zdv:CC:=(.seq (.seq (.reg [Qh 8 (tq 6),Qh 9 (tq 0),Qr 10 (tq 9),Qp 11 .lss (tq 8) (tq 10),Qh 12 (tq 11),⟨(some 13),false,(some (12,true)),.move (tq 0) false⟩,⟨(some 14),false,(some (12,true)),.move (tq 6) false⟩,⟨(some 15),false,(some (12,true)),.indexAddrS 5 (tq 13) (tq 14)⟩,⟨(some 16),false,(some (12,true)),.fieldAddr 0 (tq 15)⟩,⟨(some 17),false,(some (12,true)),.load false 1 (tq 16) false⟩,⟨(some 18),false,(some (12,true)),.move (tq 1) false⟩,⟨(some 19),false,(some (12,true)),.bin .lss (tq 17) (tq 18)⟩,oo 20 (.pick (tq 12) (tq 19) (Qg false))]) (.cond (tq 20) .skip (.seq (.mask (bl 67 41) (bl 2199023254527 41)) (.exit 0)))) (.block 1 (.reg [Qh 21 (tq 6),Qp 22 .add (tq 21) (Qf 1),Qh 6 (tq 22)])))
def zf5:CC:=(.seq (.reg [Qh 23 (tq 6),Qh 7 (tq 23)]) (.seq (.block 2 (.loop (bl 195 41) (bl 2198956146687 41) zcP)) zhN))
def zaE:CF:=⟨41,[.tmp 4,.tmp 5],(.seq (.reg [Qh 4 (Qf 0),Qh 5 (Qf 0)]) (.seq (.reg [Qh 6 (Qf 0)]) (.seq (.block 0 (.loop (bl 67 41) (bl 2199023254527 41) zdv)) zf5)))⟩
def znZ:Hint:=⟨[],[],[none,some ((bl 67 41),(bl 2199023254527 41)),none,some ((bl 67 41),(bl 2199023254527 41)),none,none,some ((bl 195 41),(bl 2198956146687 41)),none,some ((bl 192 41),(bl 2198956146687 41)),none,none],[],[],false,false,[]⟩
def zR:Nat→Sh:=xY [(17,(.int .i64)),(33,(.int .i64))]
def xP(L:Nat):CBC:=noC
def zfj:St→St:=zaY 1 (bl 67 41) (bl 2199023254527 41)
def zeu:St→St:=zaY 1 (bl 195 41) (bl 2198956146687 41)
def zd5(z:Nat)(A C:Int)(D:List V):St:=⟨((V.own 0 0 z 5)::((Qe A)::(jn 4 ((Qe C)::(jn 34 []))))),((.live true D)::(gn 41 []))⟩
def zfl(z:Nat)(A C:Int)(D:List V):St:=⟨((V.own 0 0 z 5)::((Qe A)::(jn 4 ((Qe C)::(jn 34 []))))),((.live true D)::(gn 41 []))⟩
def zdG(z:Nat)(A C D:Int)(E:List V):St:=⟨((V.own 0 0 z 5)::((Qe A)::(jn 4 ((Qe C)::((Qe D)::(jn 33 [])))))),((.live true E)::(gn 41 []))⟩
def ziF(z A:Int)(C:List V):St:=⟨(jn 6 ((Qe z)::((Qe A)::(jn 33 [])))),((.live true C)::(gn 41 []))⟩
def zmc{β:Type}(L:Nat)(A:Nat)(C:Int)(D:List V)(z:Nat→Int→Int→List V→Option β):Option β:=z A C (0:Int) D
theorem zuO{β:Type}(L:Nat)(z:Nat)(A:Int)(C:List V)(k:KK β):yp zR (xP L) L zaE [(V.own 0 0 z 5),(Qe A)] [(.live true C)] k=zmc L z A C (fun z A D C=>yD (zj zR (xP L) 1 L zdv) zfj L (zd5 z A D C) (xB 0 (yN (zj zR (xP L) 1 L zf5) (yU 1 (CF.res zaE) k)))):=by kernel_rfl
def zio{β:Type}(L:Nat)(z:Nat)(E A:Int)(F:List V)(C:Nat→Int→Int→List V→Option β)(D:Nat→Int→Int→List V→Option β):Option β:=ifb (decide (A<((z:Nat):Int))) (chk (0≤A∧A<((z:Nat):Int)) (cI .i64 F ((0+((XH A)*5))+0) fun G=>ifb (decide (G<E)) (lt (QF .i64 ((A:Int)+(1:Int))) fun I=>C z E I F) (D z E A F))) (D z E A F)
theorem zr6{β:Type}(L:Nat)(z:Nat)(A C:Int)(D:List V)(X:St→Option β)(K:KT β):zj zR (xP L) 1 L zdv (zd5 z A C D) (zbt zfj X K)=zio L z A C D (fun z A C D=>X (zd5 z A C D)) (fun z A C D=>K (.exit 0) (zfl z A C D)):=by kernel_rfl
def zg3{β:Type}(L:Nat)(A:Nat)(D C:Int)(E:List V)(z:Nat→Int→Int→Int→List V→Option β):Option β:=z A D C C E
theorem zqv{β:Type}(L:Nat)(z:Nat)(A C:Int)(D:List V)(k:KK β):(xB 0 (yN (zj zR (xP L) 1 L zf5) (yU 1 (CF.res zaE) k))) (.exit 0) (zfl z A C D)=zg3 L z A C D (fun z A C E D=>yD (zj zR (xP L) 1 L zcP) zeu L (zdG z A C E D) (xB 2 (yN (zj zR (xP L) 1 L zhN) (yU 1 (CF.res zaE) k)))):=by kernel_rfl
def zg5{β:Type}(L:Nat)(C:Nat)(G F A:Int)(E:List V)(z:Nat→Int→Int→Int→List V→Option β)(D:Int→Int→List V→Option β):Option β:=ifb (decide (A<((C:Nat):Int))) (chk (0≤A∧A<((C:Nat):Int)) (cI .i64 E ((0+((XH A)*5))+0) fun I=>ifb ((I:Int)==G) (lt (QF .i64 ((A:Int)+(1:Int))) fun J=>z C G F J E) (D F A E))) (D F A E)
theorem zqu{β:Type}(L:Nat)(z:Nat)(E A C:Int)(D:List V)(X:St→Option β)(K:KT β):zj zR (xP L) 1 L zcP (zdG z E A C D) (zbt zeu X K)=zg5 L z E A C D (fun z E A C D=>X (zdG z E A C D)) (fun A C D=>K (.exit 2) (ziF A C D)):=by kernel_rfl
def zj7{β:Type}(L:Nat)(A C:Int)(D:List V)(z:Int→Int→List V→Option β):Option β:=z A C D
theorem zpC{β:Type}(L:Nat)(D E:Int)(z:List V)(k:KK β):(xB 2 (yN (zj zR (xP L) 1 L zhN) (yU 1 (CF.res zaE) k))) (.exit 2) (ziF D E z)=zj7 L D E z (fun A C z=>k (V.tup [(Qe A),(Qe C)]) [(.live true z)]):=by kernel_rfl
def zdO{β:Type}(L:Nat)(z:Nat→Int→Int→List V→Option β):Nat→Nat→Int→Int→List V→Option β
 | 0,_,_,_,_=>none
 | n+1,A,C,D,E=>zio L A C D E (fun A C D E=>zdO L z n A C D E) z
theorem zkY{β:Type}(L:Nat)(K:KT β):∀ (n:Nat) (z:Nat) (A C:Int) (D:List V),yD (zj zR (xP L) 1 L zdv) zfj n (zd5 z A C D) K=zdO L (fun z A C D=>K (.exit 0) (zfl z A C D)) n z A C D:=by
 intro n
 induction n with
 | zero=>intros; rfl
 | succ n ih=>
  intro z A C D
  refine (zr6 L z A C D (fun σ=>yD (zj zR (xP L) 1 L zdv) zfj n σ K) K).trans ?_
  simp only [ih]
  rfl
def zdh{β:Type}(L:Nat)(z:Int→Int→List V→Option β):Nat→Nat→Int→Int→Int→List V→Option β
 | 0,_,_,_,_,_=>none
 | n+1,A,C,D,E,F=>zg5 L A C D E F (fun A C D E F=>zdh L z n A C D E F) z
theorem zjz{β:Type}(L:Nat)(K:KT β):∀ (n:Nat) (z:Nat) (E A C:Int) (D:List V),yD (zj zR (xP L) 1 L zcP) zeu n (zdG z E A C D) K=zdh L (fun A C D=>K (.exit 2) (ziF A C D)) n z E A C D:=by
 intro n
 induction n with
 | zero=>intros; rfl
 | succ n ih=>
  intro z E A C D
  refine (zqu L z E A C D (fun σ=>yD (zj zR (xP L) 1 L zcP) zeu n σ K) K).trans ?_
  simp only [ih]
  rfl
def zeh{β:Type}(L:Nat)(z:Nat)(E A:Int)(C:List V)(D:Int→Int→List V→Option β):Option β:=zg3 L z E A C (fun z E A F C=>zdh L (fun A F C=>zj7 L A F C D) L z E A F C)
theorem zp6{β:Type}(L:Nat)(z:Nat)(C D:Int)(A:List V)(k:KK β):(xB 0 (yN (zj zR (xP L) 1 L zf5) (yU 1 (CF.res zaE) k))) (.exit 0) (zfl z C D A)=zeh L z C D A (fun E F A=>k (V.tup [(Qe E),(Qe F)]) [(.live true A)]):=by
 refine (zqv L z C D A k).trans ?_
 unfold zeh
 first
  | (simp only [zjz,zpC]; done)
  | (simp only [zjz]; rfl)
def zhY{β:Type}(L:Nat)(z:Nat)(A:Int)(C:List V)(D:Int→Int→List V→Option β):Option β:=zmc L z A C (fun z A E C=>zdO L (fun z A E C=>zeh L z A E C D) L z A E C)
theorem zu2{β:Type}(L:Nat)(z:Nat)(C:Int)(A:List V)(k:KK β):yp zR (xP L) L zaE [(V.own 0 0 z 5),(Qe C)] [(.live true A)] k=zhY L z C A (fun D E A=>k (V.tup [(Qe D),(Qe E)]) [(.live true A)]):=by
 refine (zuO L z C A k).trans ?_
 unfold zhY
 first
  | (simp only [zkY,zp6]; done)
  | (simp only [zkY]; rfl)
abbrev yE:=∀ (β:Type),Nat→Nat→Int→List V→(Int→Int→List V→Option β)→Option β
def xd(β:Type)(L:Nat)(A:Nat)(C:Int)(D:List V)(z:Int→Int→List V→Option β):Option β:=zhY L A C D z
def zem(xd:yE)(L:Nat)(β:Type)(args:List V)(bor:Bor)(k:KK β):Option β:=match args,bor with
 | [a0,a1],[(.live true z)]=>aO0 0 5 a0 fun D=>aI .i64 a1 fun E=>xd β L D E z (fun A C z=>k (V.tup [(Qe A),(Qe C)]) [(.live true z)])
 | _,_=>none
theorem zuv(L:Nat)(β:Type)(args:List V)(bor:Bor)(k:KK β)(r:β)(h:zem xd L β args bor k=some r):yp zR (xP L) L zaE args bor k=some r:=by
 unfold zem at h
 split at h
 ·have q:=zg7 h; clear h; obtain ⟨z,rfl,h⟩:=q
  have q:=xr h; clear h; obtain ⟨A,rfl,h⟩:=q
  exact (zu2 L z A _ k).trans h
 ·cases h
abbrev zi:=∀ (β:Type),Nat→Nat→Int→Nat→List V→List V→(List (List V)→Nat→List V→Option β)→Option β
def ya(β:Type)(L:Nat)(A:Nat)(F:Int)(C:Nat)(D E:List V)(z:List (List V)→Nat→List V→Option β):Option β:=chk (zB6 5 24 A C F D E) (z (zpy 5 A C (XH F) D E) (XG D) E)
def zaf(ya:zi)(L:Nat)(β:Type)(args:List V)(bor:Bor)(k:KK β):Option β:=match args,bor with
 | [a0,a1,a2],[(.live true C),(.live true D)]=>aO0 0 5 a0 fun z=>aI .i64 a1 fun E=>aO0 1 5 a2 fun A=>ya β L z E A C D (fun rr dd vv=>k (V.fr 5 rr) [.dead dd,.live true vv])
 | _,_=>none
def zay:CF:=⟨33,[.tmp 6],(.seq (.reg [Qi 6 (.const (.gs 5 []))]) (.seq (.reg [Qh 8 (tq 0),Qh 9 (tq 1),Qh 10 (tq 2),Qh 11 (tq 0),Qr 12 (tq 11),oo 13 (.sliceS 5 (tq 8) (some (tq 9)) (some (tq 10)) (some (tq 12)))]) (.seq (.seq (.reg [Qh 14 (tq 1),Qh 15 (tq 2),Qp 16 .eql (tq 14) (tq 15)]) (.cond (tq 16) (.seq (.reg [Qi 17 (tq 0),Qi 6 (tq 17)]) .ret) .skip)) (.seq (.reg [Qh 18 (tq 0),Qr 19 (tq 18),Qh 7 (tq 19)]) (.seq (.dreg [] [(Qh 20 (tq 0),q0),(Qh 21 (tq 1),q0),(oo 22 (.sliceC 5 (tq 20) (some (tq 21))),q0),(Qh 23 (tq 0),q0),(Qh 24 (tq 2),q0),(oo 25 (.sliceS 5 (tq 23) (some (tq 24)) none none),q0),(oo 26 (.append 5 24 (tq 22) (tq 25)),q0),(Qi 0 (tq 26),q0)]) (.seq (.reg [Qh 27 (tq 0),Qh 28 (tq 0),Qr 29 (tq 28),Qh 30 (tq 7),oo 31 (.sliceS 5 (tq 27) (some (tq 29)) (some (tq 30)) none),oz (.clear 5 [(.sc (.int .i64 0)),(.sc (.int .u32 0)),(.sc (.int .u16 0)),(.sc (.int .u32 0)),(.sc (.int .u32 0))] (tq 31))]) (.seq (.reg [Qi 32 (tq 0),Qi 6 (tq 32)]) .ret)))))))⟩
def zeq:Hint:=⟨[(0,0),(3,0),(3,1),(5,2),(5,7),(7,0),(7,1)],[],[none,none,none],[],[],false,false,[]⟩
def zcF:Nat→Sh:=xY []
def zcG(L:Nat):CBC:=noC
def zcS{β:Type}(L:Nat)(z:Nat)(C A:Int)(D:List V)(E:Nat→List V→Option β):Option β:=chk (0≤((z:Nat):Int)∧((z:Nat):Int)≤((z:Nat):Int)) (chk (0≤A∧A≤(((XH ((z:Nat):Int)):Nat):Int)) (chk (0≤C∧C≤(((XH A):Nat):Int)) (ifb (decide ((XH ((z:Nat):Int))=(XH C))) (ifb ((C:Int)==A) (E z D) (chk (0≤C∧C≤((z:Nat):Int)) (chk (0≤A∧A≤((z:Nat):Int)) (chk ((XH C)+XG (xh 5 (z-(XH A)) (XJ (0+((XH A)*5)) D))≤z) (lt (xg D ((XH C)*5) (XK (xh 5 (z-(XH A)) (XJ (0+((XH A)*5)) D)))) fun F=>chk (0≤((z:Nat):Int)∧((z:Nat):Int)≤((z:Nat):Int)) (chk (0≤((((XH C)+XG (xh 5 (z-(XH A)) (XJ (0+((XH A)*5)) D))):Nat):Int)∧((((XH C)+XG (xh 5 (z-(XH A)) (XJ (0+((XH A)*5)) D))):Nat):Int)≤(((XH ((z:Nat):Int)):Nat):Int)) (lt (xg F (0+((XH ((((XH C)+XG (xh 5 (z-(XH A)) (XJ (0+((XH A)*5)) D))):Nat):Int))*5)) (XK (We ((XH ((z:Nat):Int))-(XH ((((XH C)+XG (xh 5 (z-(XH A)) (XJ (0+((XH A)*5)) D))):Nat):Int))) [(Qe (0:Int)),(Qc (0:Int)),(Qb (0:Int)),(Qc (0:Int)),(Qc (0:Int))]))) fun r1=>E ((XH C)+XG (xh 5 (z-(XH A)) (XJ (0+((XH A)*5)) D))) r1))))))) (ifb ((C:Int)==A) (E z D) (chk (0≤C∧C≤((z:Nat):Int)) (chk (0≤A∧A≤((z:Nat):Int)) (chk ((XH C)+XG (xh 5 (z-(XH A)) (XJ (0+((XH A)*5)) D))≤z) (lt (xg D ((XH C)*5) (XK (xh 5 (z-(XH A)) (XJ (0+((XH A)*5)) D)))) fun r2=>chk (0≤((z:Nat):Int)∧((z:Nat):Int)≤((z:Nat):Int)) (chk (0≤((((XH C)+XG (xh 5 (z-(XH A)) (XJ (0+((XH A)*5)) D))):Nat):Int)∧((((XH C)+XG (xh 5 (z-(XH A)) (XJ (0+((XH A)*5)) D))):Nat):Int)≤(((XH ((z:Nat):Int)):Nat):Int)) (lt (xg r2 (0+((XH ((((XH C)+XG (xh 5 (z-(XH A)) (XJ (0+((XH A)*5)) D))):Nat):Int))*5)) (XK (We ((XH ((z:Nat):Int))-(XH ((((XH C)+XG (xh 5 (z-(XH A)) (XJ (0+((XH A)*5)) D))):Nat):Int))) [(Qe (0:Int)),(Qc (0:Int)),(Qb (0:Int)),(Qc (0:Int)),(Qc (0:Int))]))) fun r3=>E ((XH C)+XG (xh 5 (z-(XH A)) (XJ (0+((XH A)*5)) D))) r3))))))))))
theorem zjD{β:Type}(L:Nat)(z:Nat)(C D:Int)(A:List V)(k:KK β):yp zcF (zcG L) L zay [(V.own 0 0 z 5),(Qe C),(Qe D)] [(.live true A)] k=zcS L z C D A (fun z A=>k (V.own 0 0 z 5) [(.live true A)]):=by kernel_rfl
abbrev zh:=∀ (β:Type),Nat→Nat→Int→Int→List V→(Nat→List V→Option β)→Option β
def za(β:Type)(L:Nat)(A:Nat)(C D:Int)(E:List V)(z:Nat→List V→Option β):Option β:=zcS L A C D E z
def xX(za:zh)(L:Nat)(β:Type)(args:List V)(bor:Bor)(k:KK β):Option β:=match args,bor with
 | [a0,a1,a2],[(.live true A)]=>aO0 0 5 a0 fun z=>aI .i64 a1 fun C=>aI .i64 a2 fun D=>za β L z C D A (fun z A=>k (V.own 0 0 z 5) [(.live true A)])
 | _,_=>none
theorem zjF(L:Nat)(β:Type)(args:List V)(bor:Bor)(k:KK β)(r:β)(h:xX za L β args bor k=some r):yp zcF (zcG L) L zay args bor k=some r:=by
 unfold xX at h
 split at h
 ·have q:=zg7 h; clear h; obtain ⟨z,rfl,h⟩:=q
  have q:=xr h; clear h; obtain ⟨A,rfl,h⟩:=q
  have q:=xr h; clear h; obtain ⟨C,rfl,h⟩:=q
  exact (zjD L z A C _ k).trans h
 ·cases h
end
end Go.Proofs.Ytbimgceighecgaa
