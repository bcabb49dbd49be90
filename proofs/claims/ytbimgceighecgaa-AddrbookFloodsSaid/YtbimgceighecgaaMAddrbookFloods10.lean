/- Part 10 of the proof of AddrbookFloods: an abstract machine over plain values, its soundness, and the functions of the program on plain values. -/
import Derived.Test.YtbimgceighecgaaRows
import Derived.Test.YtbimgceighecgaaMAddrbookFloods9
namespace Go.Proofs.Ytbimgceighecgaa
set_option linter.unusedVariables false
set_option linter.unusedSimpArgs false
open List renaming length->XG,take->XI,drop->XJ,flatten->XK,replicate->We
open Int renaming toNat->XH,tmod->XM
open IntKind renaming wrap->QF
open Option renaming getD->XL
section
set_option maxRecDepth 100000
def zfP:CC:=(.seq (.reg [Qp 9 .lss (tq 8) (tq 7)]) (.seq (.cond (tq 9) .skip (.seq (.mask (bl 8 22) (bl 4194255 22)) (.exit 0))) (.seq (.block 1 (.seq (.reg [Qh 10 (tq 8),Qo 11 1 (tq 6) (tq 8),Qj 12 1 (tq 11),Qh 4 (tq 10),Qh 5 (tq 12)]) (.reg [Qh 13 (tq 3),Qh 14 (tq 5),Qu 15 .u64 (tq 14),Qh 16 (tq 4),Qp 17 .mul (Qf 8) (tq 16),Qp 18 .shl (tq 15) (tq 17),Qp 19 .or (tq 13) (tq 18),Qh 3 (tq 19)]))) (.reg [Qp 20 .add (tq 8) (Qf 1),Qh 8 (tq 20)]))))
def zpG:CC:=(.seq (.reg [Qh 21 (tq 3),Qh 2 (tq 21)]) .ret)
def zgV:CF:=⟨22,[.tmp 2],(.seq (.reg [oo 2 (.move (.const (.sc (.int .u64 0))) false)]) (.seq (.reg [oo 3 (.move (.const (.sc (.int .u64 0))) false)]) (.seq (.seq (.reg [Qh 6 (tq 0),Qr 7 (tq 6),Qh 8 (Qf 0)]) (.block 0 (.loop (bl 456 22) (bl 4194255 22) zfP))) zpG)))⟩
def zuL:Hint:=⟨[],[],[none,some ((bl 456 22),(bl 4194255 22)),none,some ((bl 8 22),(bl 4194255 22)),none,none],[],[],false,false,[]⟩
def zdB:Nat→Sh:=xW [(12,(.int .u8))]
def zdA(L:Nat):CBC:=noC
def zjG:St→St:=zaH 0 (bl 456 22) (bl 4194255 22)
def zgB(z:Int)(A:List (List V))(C D:Int):St:=⟨(jn 3 ((Qd z)::(jn 2 ((V.sl 1 A)::((Qe C)::((Qe D)::(jn 13 []))))))),(gn 22 [])⟩
def zot(z:Int):St:=⟨(jn 3 ((Qd z)::(jn 18 []))),(gn 22 [])⟩
def zt1{β:Type}(L:Nat)(A:List (List V))(z:Int→List (List V)→Int→Int→Option β):Option β:=z (0:Int) A ((XG A:Nat):Int) (0:Int)
theorem zBc{β:Type}(L:Nat)(z:List (List V))(k:KK β):zp zdB (zdA L) L zgV [(V.sl 1 z)] [] k=zt1 L z (fun A C D E=>xz (yi zdB (zdA L) 0 L zfP) zjG L (zgB A C D E) (zz 0 (xK (yi zdB (zdA L) 0 L zpG) (yR 0 (CF.res zgV) k)))):=by kernel_rfl
def znX{β:Type}(L:Nat)(D:Int)(E:List (List V))(F A:Int)(z:Int→List (List V)→Int→Int→Option β)(C:Int→Option β):Option β:=ifb (decide (A<F)) (idx E A fun c0=>cI .u8 c0 0 fun I=>lt (QF .u64 I) fun J=>lt (QF .i64 (((8:Int):Int)*A)) fun G=>chk (0≤G) (lt (zlp .u64 J G) fun M=>lt (ior .u64 D M) fun N=>lt (QF .i64 ((A:Int)+(1:Int))) fun O=>z N E F O)) (C D)
theorem zvQ{β:Type}(L:Nat)(z:Int)(A:List (List V))(C D:Int)(X:St→Option β)(K:KT β):yi zdB (zdA L) 0 L zfP (zgB z A C D) (zbo zjG X K)=znX L z A C D (fun z A C D=>X (zgB z A C D)) (fun z=>K (.exit 0) (zot z)):=by kernel_rfl
def zqa{β:Type}(L:Nat)(A:Int)(z:Int→Option β):Option β:=z A
theorem zum{β:Type}(L:Nat)(z:Int)(k:KK β):(zz 0 (xK (yi zdB (zdA L) 0 L zpG) (yR 0 (CF.res zgV) k))) (.exit 0) (zot z)=zqa L z (fun A=>k (Qd A) []):=by kernel_rfl
def zgJ{β:Type}(L:Nat)(z:Int→Option β):Nat→Int→List (List V)→Int→Int→Option β
 | 0,_,_,_,_=>none
 | n+1,A,C,D,E=>znX L A C D E (fun A C D E=>zgJ L z n A C D E) z
theorem zpk{β:Type}(L:Nat)(K:KT β):∀ (n:Nat) (z:Int) (A:List (List V)) (C D:Int),xz (yi zdB (zdA L) 0 L zfP) zjG n (zgB z A C D) K=zgJ L (fun z=>K (.exit 0) (zot z)) n z A C D:=by
 intro n
 induction n with
 | zero=>intros; rfl
 | succ n ih=>
  intro z A C D
  refine (zvQ L z A C D (fun σ=>xz (yi zdB (zdA L) 0 L zfP) zjG n σ K) K).trans ?_
  simp only [ih]
  rfl
def zqf{β:Type}(L:Nat)(C:List (List V))(z:Int→Option β):Option β:=zt1 L C (fun A D E F=>zgJ L (fun A=>zqa L A z) L A D E F)
theorem zA7{β:Type}(L:Nat)(z:List (List V))(k:KK β):zp zdB (zdA L) L zgV [(V.sl 1 z)] [] k=zqf L z (fun z=>k (Qd z) []):=by
 refine (zBc L z k).trans ?_
 unfold zqf
 first
  | (simp only [zpk,zum]; done)
  | (simp only [zpk]; rfl)
abbrev zbV:=∀ (β:Type),Nat→List (List V)→(Int→Option β)→Option β
def zr(β:Type)(L:Nat)(A:List (List V))(z:Int→Option β):Option β:=zqf L A z
def znO(zr:zbV)(L:Nat)(β:Type)(args:List V)(bor:Bor)(k:KK β):Option β:=match args,bor with
 | [a0],[]=>aL 1 a0 fun z=>zr β L z (fun z=>k (Qd z) [])
 | _,_=>none
theorem zBr(L:Nat)(β:Type)(args:List V)(bor:Bor)(k:KK β)(r:β)(h:znO zr L β args bor k=some r):zp zdB (zdA L) L zgV args bor k=some r:=by
 unfold znO at h
 split at h
 ·have q:=zaT h; clear h; obtain ⟨z,rfl,h⟩:=q
  exact (zA7 L z k).trans h
 ·cases h
def zqC:CF:=⟨8,[.cell 2 true 2],(.seq (.reg [Qv 1 (tq 0),oo 2 (.alloc true [(.sc (.int .u64 0)),(.sc (.int .u64 0))])]) (.seq (.dreg [1] [(oo 3 (.sliceA 32 1 (tq 1) none (some (Qf 8)) none),q1),(Qs 4 112 [(Qw 3)],q1),(oo 5 (.sliceA 32 1 (tq 1) (some (Qf 8)) (some (Qf 16)) none),q1),(Qs 6 112 [(Qw 5)],q0),(oo 7 (.build [(.sc (.int .u64 0)),(.sc (.int .u64 0))] [(0,1,(tq 4)),(1,1,(tq 6))]),q0),(Qm 2 (tq 2) (tq 7),q0)]) .ret))⟩
def zvI:Hint:=⟨[],[],[none],[(1,[1])],[],false,false,[]⟩
def zun:Nat→Sh:=xW []
def ztY(zr:zbV)(L:Nat):CBC:=(yD 112 (znO zr L) noC)
def zvS{β:Type}(zr:zbV)(L:Nat)(C:List V)(z:List V→Option β):Option β:=lc C (none) (fun h0 A=>chk (0+32*1≤(XG (h0::A))) (zr β L (xh 1 8 (h0::A)) (fun D=>chk (0+32*1≤(XG (h0::A))) (zr β L (xh 1 8 (XJ 8 (h0::A))) (fun E=>lt [(Qd D),(Qd E)] fun r4=>chk (0=0∧(XG r4)=2∧2≠0) (z r4))))))
theorem zCz{β:Type}(zr:zbV)(L:Nat)(z:List V)(k:KK β):zp zun (ztY zr L) L zqC [(V.agg z)] [] k=zvS zr L z (fun z=>k (V.agg z) []):=by kernel_rfl
abbrev zkv:=∀ (β:Type),Nat→List V→(List V→Option β)→Option β
def z4(β:Type)(L:Nat)(A:List V)(z:List V→Option β):Option β:=zvS zr L A z
def zpp(z4:zkv)(L:Nat)(β:Type)(args:List V)(bor:Bor)(k:KK β):Option β:=match args,bor with
 | [a0],[]=>aG a0 fun z=>z4 β L z (fun z=>k (V.agg z) [])
 | _,_=>none
theorem zCh(L:Nat)(β:Type)(args:List V)(bor:Bor)(k:KK β)(r:β)(h:zpp z4 L β args bor k=some r):zp zun (ztY zr L) L zqC args bor k=some r:=by
 unfold zpp at h
 split at h
 ·have q:=yW h; clear h; obtain ⟨z,rfl,h⟩:=q
  exact (zCz zr L z k).trans h
 ·cases h
def zhp:CF:=⟨6,[.tmp 2],(.seq (.reg [Qv 1 (tq 0),oo 2 (.move (.const (.sc (.int .u32 0))) false)]) (.seq (.reg [Ql 3 0 (tq 1),Qj 4 1 (tq 3),oo 5 (.bin .shr (tq 4) (.const (.sc (.int .u64 16)))),Qh 2 (tq 5)]) .ret))⟩
def zn9:Hint:=⟨[],[],[none],[],[],false,false,[]⟩
def zlf:Nat→Sh:=xW [(4,(.int .u32))]
def zk4(L:Nat):CBC:=noC
def zl3{β:Type}(L:Nat)(A:List V)(z:Int→Option β):Option β:=cI .u32 A 0 fun C=>lt (zov .u32 C (16:Int)) fun D=>z D
theorem zuQ{β:Type}(L:Nat)(z:List V)(k:KK β):zp zlf (zk4 L) L zhp [(V.agg z)] [] k=zl3 L z (fun z=>k (Qc z) []):=by kernel_rfl
abbrev zbg:=∀ (β:Type),Nat→List V→(Int→Option β)→Option β
def xp(β:Type)(L:Nat)(A:List V)(z:Int→Option β):Option β:=zl3 L A z
def zei(xp:zbg)(L:Nat)(β:Type)(args:List V)(bor:Bor)(k:KK β):Option β:=match args,bor with
 | [a0],[]=>aG a0 fun z=>xp β L z (fun z=>k (Qc z) [])
 | _,_=>none
theorem zu8(L:Nat)(β:Type)(args:List V)(bor:Bor)(k:KK β)(r:β)(h:zei xp L β args bor k=some r):zp zlf (zk4 L) L zhp args bor k=some r:=by
 unfold zei at h
 split at h
 ·have q:=yW h; clear h; obtain ⟨z,rfl,h⟩:=q
  exact (zuQ L z k).trans h
 ·cases h
def zdC:CC:=(.seq (.reg [Qp 11 .lss (tq 10) (tq 9)]) (.seq (.cond (tq 11) .skip (.seq (.mask (bl 32 23) (bl 8388543 23)) (.exit 0))) (.seq (.block 1 (.seq (.reg [Qh 12 (tq 10),Qh 6 (tq 12)]) (.reg [Qh 13 (tq 5),Qh 14 (tq 6),Qh 15 (tq 0),Qh 16 (tq 6),Qp 17 .mul (Qf 8) (tq 16),Qp 18 .shr (tq 15) (tq 17),Qu 19 .u8 (tq 18),Qo 20 1 (tq 13) (tq 14),Qm 1 (tq 20) (tq 19)]))) (.reg [Qp 21 .add (tq 10) (Qf 1),Qh 10 (tq 21)]))))
def zk8:CC:=(.seq (.reg [Qi 22 (tq 5),Qi 4 (tq 22)]) .ret)
def zdH:CF:=⟨23,[.tmp 4],(.seq (.reg [Qi 4 (.const (.gs 1 []))]) (.seq (.reg [Qh 7 (tq 1),⟨(some 8),true,none,.makeSlice 1 1 [(.sc (.int .u8 0))] (tq 7) (tq 7)⟩,Qi 5 (tq 8)]) (.seq (.seq (.reg [Qh 9 (tq 1),Qh 10 (Qf 0)]) (.block 0 (.loop (bl 1569 23) (bl 8388543 23) zdC))) zk8)))⟩
def zp5:Hint:=⟨[(0,0),(1,2),(7,0),(7,1)],[(1,1)],[none,some ((bl 1569 23),(bl 8388543 23)),none,some ((bl 32 23),(bl 8388543 23)),none,none],[],[],false,false,[]⟩
def zbP:Nat→Sh:=xW []
def zbQ(L:Nat):CBC:=noC
def zfZ:St→St:=zaH 0 (bl 1569 23) (bl 8388543 23)
def zex(C:Int)(z:Nat)(D A:Int)(E:List V):St:=⟨((Qd C)::(jn 4 ((V.own 8 0 z 1)::(jn 3 ((Qe D)::((Qe A)::(jn 12 []))))))),(gn 8 ((.live true E)::(gn 14 [])))⟩
def zkp(z:Nat)(A:List V):St:=⟨(jn 5 ((V.own 8 0 z 1)::(jn 17 []))),(gn 8 ((.live true A)::(gn 14 [])))⟩
def ztw{β:Type}(L:Nat)(C z:Int)(A:Int→Nat→Int→Int→List V→Option β):Option β:=chk (0≤z∧z≤z∧(XH z)*1≤xq∧z≤xq) (A C (XH z) z (0:Int) (XK (We (XH z) [(Qa (0:Int))])))
theorem zwS{β:Type}(L:Nat)(z A:Int)(k:KK β):zp zbP (zbQ L) L zdH [(Qd z),(Qe A)] [] k=ztw L z A (fun z C E D F=>xz (yi zbP (zbQ L) 0 L zdC) zfZ L (zex z C E D F) (zz 0 (xK (yi zbP (zbQ L) 0 L zk8) (yR 0 (CF.res zdH) k)))):=by kernel_rfl
def zn7{β:Type}(L:Nat)(F:Int)(C:Nat)(G z:Int)(D:List V)(A:Int→Nat→Int→Int→List V→Option β)(E:Nat→List V→Option β):Option β:=ifb (decide (z<G)) (lt (QF .i64 (((8:Int):Int)*z)) fun I=>chk (0≤I) (lt (zov .u64 F I) fun J=>lt (QF .u8 J) fun M=>chk (0≤z∧z<((C:Nat):Int)) (chk (1=1∧(0+((XH z)*1))+1≤(XG D)) (lt (yh D (0+((XH z)*1)) [(Qa M)]) fun r3=>lt (QF .i64 ((z:Int)+(1:Int))) fun N=>A F C G N r3)))) (E C D)
theorem zsl{β:Type}(L:Nat)(D:Int)(z:Nat)(E A:Int)(C:List V)(X:St→Option β)(K:KT β):yi zbP (zbQ L) 0 L zdC (zex D z E A C) (zbo zfZ X K)=zn7 L D z E A C (fun D z E A C=>X (zex D z E A C)) (fun z C=>K (.exit 0) (zkp z C)):=by kernel_rfl
def zmv{β:Type}(L:Nat)(A:Nat)(C:List V)(z:List (List V)→Option β):Option β:=chk (A≠0∨(XG C)=0) (z (xh 1 A C))
theorem zqP{β:Type}(L:Nat)(z:Nat)(A:List V)(k:KK β):(zz 0 (xK (yi zbP (zbQ L) 0 L zk8) (yR 0 (CF.res zdH) k))) (.exit 0) (zkp z A)=zmv L z A (fun C=>k (V.fr 1 C) []):=by kernel_rfl
def zjk{β:Type}(L:Nat)(z:Nat→List V→Option β):Nat→Int→Nat→Int→Int→List V→Option β
 | 0,_,_,_,_,_=>none
 | n+1,D,A,E,C,F=>zn7 L D A E C F (fun D A E C F=>zjk L z n D A E C F) z
theorem zlx{β:Type}(L:Nat)(K:KT β):∀ (n:Nat) (D:Int) (z:Nat) (E A:Int) (C:List V),xz (yi zbP (zbQ L) 0 L zdC) zfZ n (zex D z E A C) K=zjk L (fun z C=>K (.exit 0) (zkp z C)) n D z E A C:=by
 intro n
 induction n with
 | zero=>intros; rfl
 | succ n ih=>
  intro D z E A C
  refine (zsl L D z E A C (fun σ=>xz (yi zbP (zbQ L) 0 L zdC) zfZ n σ K) K).trans ?_
  simp only [ih]
  rfl
def zoN{β:Type}(L:Nat)(C F:Int)(A:List (List V)→Option β):Option β:=ztw L C F (fun C z G E D=>zjk L (fun z D=>zmv L z D A) L C z G E D)
theorem zw0{β:Type}(L:Nat)(z A:Int)(k:KK β):zp zbP (zbQ L) L zdH [(Qd z),(Qe A)] [] k=zoN L z A (fun z=>k (V.fr 1 z) []):=by
 refine (zwS L z A k).trans ?_
 unfold zoN
 first
  | (simp only [zlx,zqP]; done)
  | (simp only [zlx]; rfl)
abbrev zec:=∀ (β:Type),Nat→Int→Int→(List (List V)→Option β)→Option β
def zE(β:Type)(L:Nat)(A C:Int)(z:List (List V)→Option β):Option β:=zoN L A C z
def zhQ(zE:zec)(L:Nat)(β:Type)(args:List V)(bor:Bor)(k:KK β):Option β:=match args,bor with
 | [a0,a1],[]=>aI .u64 a0 fun z=>aI .i64 a1 fun A=>zE β L z A (fun z=>k (V.fr 1 z) [])
 | _,_=>none
theorem zxf(L:Nat)(β:Type)(args:List V)(bor:Bor)(k:KK β)(r:β)(h:zhQ zE L β args bor k=some r):zp zbP (zbQ L) L zdH args bor k=some r:=by
 unfold zhQ at h
 split at h
 ·have q:=yB h; clear h; obtain ⟨z,rfl,h⟩:=q
  have q:=yB h; clear h; obtain ⟨A,rfl,h⟩:=q
  exact (zw0 L z A k).trans h
 ·cases h
def zjx:CF:=⟨18,[.tmp 4],(.seq (.reg [Qi 4 (.const (.gs 1 []))]) (.seq (.reg [Qh 6 (tq 0),Qr 7 (tq 6),Qh 8 (tq 1),Qr 9 (tq 8),Qp 10 .add (tq 7) (tq 9),oo 11 (.makeSlice 1 1 [(.sc (.int .u8 0))] (Qf 0) (tq 10)),Qi 5 (tq 11)]) (.seq (.reg [Qi 12 (tq 5),Qh 13 (tq 0),oo 14 (.append 1 1 (tq 12) (tq 13)),Qi 5 (tq 14)]) (.seq (.reg [Qi 15 (tq 5),Qh 16 (tq 1),oo 17 (.append 1 1 (tq 15) (tq 16)),Qi 4 (tq 17)]) .ret))))⟩
def zp3:Hint:=⟨[(0,0),(1,6),(2,0),(2,3),(3,0),(3,3)],[],[none],[],[],false,false,[]⟩
def znG:Nat→Sh:=xW []
def zmZ(L:Nat):CBC:=noC
def zou{β:Type}(L:Nat)(z A:List (List V))(C:List (List V)→Option β):Option β:=lt (QF .i64 ((((XG z:Nat):Int):Int)+((XG A:Nat):Int))) fun D=>chk (0≤(0:Int)∧(0:Int)≤D∧(XH D)*1≤xq∧D≤xq) (chk ((XG (We 0 [(Qa (0:Int))])+XG z)*1≤xq∧XG (We 0 [(Qa (0:Int))])+XG z≤xq) (lt ((We 0 [(Qa (0:Int))])++z) fun E=>chk ((XG E+XG A)*1≤xq∧XG E+XG A≤xq) (lt (E++A) fun F=>C F)))
theorem zwN{β:Type}(L:Nat)(z A:List (List V))(k:KK β):zp znG (zmZ L) L zjx [(V.sl 1 z),(V.sl 1 A)] [] k=zou L z A (fun z=>k (V.gs 1 z) []):=by kernel_rfl
abbrev zek:=∀ (β:Type),Nat→List (List V)→List (List V)→(List (List V)→Option β)→Option β
def yE(β:Type)(L:Nat)(A C:List (List V))(z:List (List V)→Option β):Option β:=zou L A C z
def zhF(yE:zek)(L:Nat)(β:Type)(args:List V)(bor:Bor)(k:KK β):Option β:=match args,bor with
 | [a0,a1],[]=>aL 1 a0 fun z=>aL 1 a1 fun A=>yE β L z A (fun z=>k (V.gs 1 z) [])
 | _,_=>none
theorem zwO(L:Nat)(β:Type)(args:List V)(bor:Bor)(k:KK β)(r:β)(h:zhF yE L β args bor k=some r):zp znG (zmZ L) L zjx args bor k=some r:=by
 unfold zhF at h
 split at h
 ·have q:=zaT h; clear h; obtain ⟨z,rfl,h⟩:=q
  have q:=zaT h; clear h; obtain ⟨A,rfl,h⟩:=q
  exact (zwN L z A k).trans h
 ·cases h
def zgG:CF:=⟨10,[.tmp 4],(.seq (.reg [Qi 4 (.const (.gs 1 []))]) (.seq (.reg [Qh 5 (tq 0),Qh 6 (tq 1),Qu 7 .u64 (tq 6),Qs 8 192 [(Qw 7),((Qf 4),0)],Qs 9 191 [(Qw 5),(Qw 8)],Qi 4 (tq 9)]) .ret))⟩
def zmP:Hint:=⟨[(0,0),(1,5)],[],[none],[],[],false,false,[]⟩
def zj8:Nat→Sh:=xW []
def zke(zE:zec)(yE:zek)(L:Nat):CBC:=(yD 191 (zhF yE L) (yD 192 (zhQ zE L) noC))
def zll{β:Type}(zE:zec)(yE:zek)(L:Nat)(A:List (List V))(C:Int)(z:List (List V)→Option β):Option β:=lt (QF .u64 C) fun D=>zE β L D (4:Int) (fun E=>yE β L A E (fun F=>z F))
theorem zus{β:Type}(zE:zec)(yE:zek)(L:Nat)(z:List (List V))(A:Int)(k:KK β):zp zj8 (zke zE yE L) L zgG [(V.sl 1 z),(Qc A)] [] k=zll zE yE L z A (fun z=>k (V.gs 1 z) []):=by kernel_rfl
abbrev zcT:=∀ (β:Type),Nat→List (List V)→Int→(List (List V)→Option β)→Option β
def zt(β:Type)(L:Nat)(A:List (List V))(C:Int)(z:List (List V)→Option β):Option β:=zll zE yE L A C z
def zfb(zt:zcT)(L:Nat)(β:Type)(args:List V)(bor:Bor)(k:KK β):Option β:=match args,bor with
 | [a0,a1],[]=>aL 1 a0 fun z=>aI .u32 a1 fun A=>zt β L z A (fun z=>k (V.gs 1 z) [])
 | _,_=>none
theorem ztN(L:Nat)(β:Type)(args:List V)(bor:Bor)(k:KK β)(r:β)(h:zfb zt L β args bor k=some r):zp zj8 (zke zE yE L) L zgG args bor k=some r:=by
 unfold zfb at h
 split at h
 ·have q:=zaT h; clear h; obtain ⟨z,rfl,h⟩:=q
  have q:=yB h; clear h; obtain ⟨A,rfl,h⟩:=q
  exact (zus zE yE L z A k).trans h
 ·cases h
def zdv:CF:=⟨17,[.tmp 4],(.seq (.reg [oo 4 (.move (.const (.sc (.int .u64 0))) false)]) (.seq (.reg [Qh 6 (tq 1),Qu 7 .u64 (tq 6),oo 8 (.bin .and (tq 7) (.const (.sc (.int .u64 63)))),Qh 5 (tq 8)]) (.seq (.reg [Qh 9 (tq 0),Qh 10 (tq 5),Qp 11 .shl (tq 9) (tq 10),Qh 12 (tq 0),Qh 13 (tq 5),oo 14 (.bin .sub (.const (.sc (.int .u64 64))) (tq 13)),Qp 15 .shr (tq 12) (tq 14),Qp 16 .or (tq 11) (tq 15),Qh 4 (tq 16)]) .ret)))⟩
def zh1:Hint:=⟨[],[],[none],[],[],false,false,[]⟩
def zfs:Nat→Sh:=xW []
def zfu(L:Nat):CBC:=noC
def zjV{β:Type}(L:Nat)(C E:Int)(z:Int→Option β):Option β:=lt (QF .u64 E) fun F=>lt (zF7 .u64 F (63:Int)) fun A=>chk (0≤A) (lt (zlp .u64 C A) fun G=>lt (QF .u64 (((64:Int):Int)-A)) fun D=>chk (0≤D) (lt (zov .u64 C D) fun I=>lt (ior .u64 G I) fun J=>z J))
theorem zph{β:Type}(L:Nat)(z A:Int)(k:KK β):zp zfs (zfu L) L zdv [(Qd z),(Qe A)] [] k=zjV L z A (fun z=>k (Qd z) []):=by kernel_rfl
abbrev xH:=∀ (β:Type),Nat→Int→Int→(Int→Option β)→Option β
def xc(β:Type)(L:Nat)(A C:Int)(z:Int→Option β):Option β:=zjV L A C z
def zcp(xc:xH)(L:Nat)(β:Type)(args:List V)(bor:Bor)(k:KK β):Option β:=match args,bor with
 | [a0,a1],[]=>aI .u64 a0 fun z=>aI .i64 a1 fun A=>xc β L z A (fun z=>k (Qd z) [])
 | _,_=>none
theorem zpo(L:Nat)(β:Type)(args:List V)(bor:Bor)(k:KK β)(r:β)(h:zcp xc L β args bor k=some r):zp zfs (zfu L) L zdv args bor k=some r:=by
 unfold zcp at h
 split at h
 ·have q:=yB h; clear h; obtain ⟨z,rfl,h⟩:=q
  have q:=yB h; clear h; obtain ⟨A,rfl,h⟩:=q
  exact (zph L z A k).trans h
 ·cases h
def ze8:CC:=(.seq (.reg [Qp 7 .lss (tq 6) (tq 5)]) (.seq (.cond (tq 7) .skip (.seq (.mask (bl 20 82) (bl 4533176671146011638300671 82)) (.exit 0))) (.seq (.block 1 (.seq (.reg [Qn 8 4 1 (tq 2) (Qf 0),Qj 9 1 (tq 8),Qn 10 4 1 (tq 2) (Qf 1),Qj 11 1 (tq 10),Qp 12 .add (tq 9) (tq 11),Qn 13 4 1 (tq 2) (Qf 0),Qm 1 (tq 13) (tq 12)]) (.seq (.reg [Qn 14 4 1 (tq 2) (Qf 1),Qj 15 1 (tq 14),Qs 16 118 [(Qw 15),((Qf 13),0)],Qn 17 4 1 (tq 2) (Qf 1),Qm 1 (tq 17) (tq 16)]) (.seq (.reg [Qn 18 4 1 (tq 2) (Qf 1),Qj 19 1 (tq 18),Qn 20 4 1 (tq 2) (Qf 0),Qj 21 1 (tq 20),Qp 22 .xor (tq 19) (tq 21),Qn 23 4 1 (tq 2) (Qf 1),Qm 1 (tq 23) (tq 22)]) (.seq (.reg [Qn 24 4 1 (tq 2) (Qf 0),Qj 25 1 (tq 24),Qs 26 118 [(Qw 25),((Qf 32),0)],Qn 27 4 1 (tq 2) (Qf 0),Qm 1 (tq 27) (tq 26)]) (.seq (.reg [Qn 28 4 1 (tq 2) (Qf 2),Qj 29 1 (tq 28),Qn 30 4 1 (tq 2) (Qf 3),Qj 31 1 (tq 30),Qp 32 .add (tq 29) (tq 31),Qn 33 4 1 (tq 2) (Qf 2),Qm 1 (tq 33) (tq 32)]) (.seq (.reg [Qn 34 4 1 (tq 2) (Qf 3),Qj 35 1 (tq 34),Qs 36 118 [(Qw 35),((Qf 16),0)],Qn 37 4 1 (tq 2) (Qf 3),Qm 1 (tq 37) (tq 36)]) (.seq (.reg [Qn 38 4 1 (tq 2) (Qf 3),Qj 39 1 (tq 38),Qn 40 4 1 (tq 2) (Qf 2),Qj 41 1 (tq 40),Qp 42 .xor (tq 39) (tq 41),Qn 43 4 1 (tq 2) (Qf 3),Qm 1 (tq 43) (tq 42)]) (.seq (.reg [Qn 44 4 1 (tq 2) (Qf 0),Qj 45 1 (tq 44),Qn 46 4 1 (tq 2) (Qf 3),Qj 47 1 (tq 46),Qp 48 .add (tq 45) (tq 47),Qn 49 4 1 (tq 2) (Qf 0),Qm 1 (tq 49) (tq 48)]) (.seq (.reg [Qn 50 4 1 (tq 2) (Qf 3),Qj 51 1 (tq 50),Qs 52 118 [(Qw 51),((Qf 21),0)],Qn 53 4 1 (tq 2) (Qf 3),Qm 1 (tq 53) (tq 52)]) (.seq (.reg [Qn 54 4 1 (tq 2) (Qf 3),Qj 55 1 (tq 54),Qn 56 4 1 (tq 2) (Qf 0),Qj 57 1 (tq 56),Qp 58 .xor (tq 55) (tq 57),Qn 59 4 1 (tq 2) (Qf 3),Qm 1 (tq 59) (tq 58)]) (.seq (.reg [Qn 60 4 1 (tq 2) (Qf 2),Qj 61 1 (tq 60),Qn 62 4 1 (tq 2) (Qf 1),Qj 63 1 (tq 62),Qp 64 .add (tq 61) (tq 63),Qn 65 4 1 (tq 2) (Qf 2),Qm 1 (tq 65) (tq 64)]) (.seq (.reg [Qn 66 4 1 (tq 2) (Qf 1),Qj 67 1 (tq 66),Qs 68 118 [(Qw 67),((Qf 17),0)],Qn 69 4 1 (tq 2) (Qf 1),Qm 1 (tq 69) (tq 68)]) (.seq (.reg [Qn 70 4 1 (tq 2) (Qf 1),Qj 71 1 (tq 70),Qn 72 4 1 (tq 2) (Qf 2),Qj 73 1 (tq 72),Qp 74 .xor (tq 71) (tq 73),Qn 75 4 1 (tq 2) (Qf 1),Qm 1 (tq 75) (tq 74)]) (.reg [Qn 76 4 1 (tq 2) (Qf 2),Qj 77 1 (tq 76),Qs 78 118 [(Qw 77),((Qf 32),0)],Qn 79 4 1 (tq 2) (Qf 2),Qm 1 (tq 79) (tq 78)]))))))))))))))) (.reg [Qp 80 .add (tq 6) (Qf 1),Qh 6 (tq 80)]))))
def zoy:CC:=(.seq (.reg [Qk 81 4 (tq 2),Qm 4 (tq 4) (tq 81)]) .ret)
def zeY:CF:=⟨82,[.cell 4 true 4],(.seq (.reg [Qv 2 (tq 0),oo 4 (.alloc true [(.sc (.int .u64 0)),(.sc (.int .u64 0)),(.sc (.int .u64 0)),(.sc (.int .u64 0))])]) (.seq (.seq (.reg [Qh 5 (tq 1),Qh 6 (Qf 0)]) (.block 0 (.loop (bl 116 82) (bl 4533176671146011638300671 82) ze8))) zoy))⟩
def zr1:Hint:=⟨[],[],[none,some ((bl 116 82),(bl 4533176671146011638300671 82)),none,some ((bl 20 82),(bl 4533176671146011638300671 82)),none,none],[],[],false,false,[]⟩
def zcu:Nat→Sh:=xW [(9,(.int .u64)),(11,(.int .u64)),(15,(.int .u64)),(19,(.int .u64)),(21,(.int .u64)),(25,(.int .u64)),(29,(.int .u64)),(31,(.int .u64)),(35,(.int .u64)),(39,(.int .u64)),(41,(.int .u64)),(45,(.int .u64)),(47,(.int .u64)),(51,(.int .u64)),(55,(.int .u64)),(57,(.int .u64)),(61,(.int .u64)),(63,(.int .u64)),(67,(.int .u64)),(71,(.int .u64)),(73,(.int .u64)),(77,(.int .u64))]
def zcx(xc:xH)(L:Nat):CBC:=(yD 118 (zcp xc L) noC)
def zib:St→St:=zaH 0 (bl 116 82) (bl 4533176671146011638300671 82)
def zf3(E F:Int)(G:List V)(z A C D:Int):St:=⟨(jn 2 ((V.ptr 2 0)::(jn 1 ((V.ptr 4 0)::((Qe E)::((Qe F)::(jn 75 []))))))),(gn 2 ((.live true G)::(gn 1 ((.live true [(Qd z),(Qd A),(Qd C),(Qd D)])::(gn 77 [])))))⟩
def zmd(E:List V)(z A C D:Int):St:=⟨(jn 2 ((V.ptr 2 0)::(jn 1 ((V.ptr 4 0)::(jn 77 []))))),(gn 2 ((.live true E)::(gn 1 ((.live true [(Qd z),(Qd A),(Qd C),(Qd D)])::(gn 77 [])))))⟩
def zre{β:Type}(xc:xH)(L:Nat)(A:List V)(C:Int)(z:Int→Int→List V→Int→Int→Int→Int→Option β):Option β:=z C (0:Int) A (0:Int) (0:Int) (0:Int) (0:Int)
theorem zzd{β:Type}(xc:xH)(L:Nat)(E:List V)(F:Int)(k:KK β):zp zcu (zcx xc L) L zeY [(V.agg E),(Qe F)] [] k=zre xc L E F (fun G I J z A C D=>xz (yi zcu (zcx xc L) 0 L ze8) zib L (zf3 G I J z A C D) (zz 0 (xK (yi zcu (zcx xc L) 0 L zoy) (yR 0 (CF.res zeY) k)))):=by kernel_rfl
def zfU{β:Type}(xc:xH)(L:Nat)(W X:Int)(I:List V)(J M N O:Int)(G:Int→Int→List V→Int→Int→Int→Int→Option β)(U:List V→Int→Int→Int→Int→Option β):Option β:=ifb (decide (X<W)) (cI .u64 I 0 fun v0=>cI .u64 I 1 fun v1=>lt (QF .u64 ((v0:Int)+v1)) fun x2=>chk (1=1∧0+1≤(XG I)) (lt (yh I 0 [(Qd x2)]) fun r3=>cI .u64 r3 1 fun v4=>xc β L v4 (13:Int) (fun v5=>chk (1=1∧1+1≤(XG r3)) (lt (yh r3 1 [(Qd v5)]) fun r6=>cI .u64 r6 1 fun v7=>cI .u64 r6 0 fun v8=>lt (zaR .u64 v7 v8) fun x9=>chk (1=1∧1+1≤(XG r6)) (lt (yh r6 1 [(Qd x9)]) fun r10=>cI .u64 r10 0 fun Y=>xc β L Y (32:Int) (fun Z=>chk (1=1∧0+1≤(XG r10)) (lt (yh r10 0 [(Qd Z)]) fun z=>cI .u64 z 2 fun aa=>cI .u64 z 3 fun ab=>lt (QF .u64 ((aa:Int)+ab)) fun ac=>chk (1=1∧2+1≤(XG z)) (lt (yh z 2 [(Qd ac)]) fun P=>cI .u64 P 3 fun ad=>xc β L ad (16:Int) (fun ae=>chk (1=1∧3+1≤(XG P)) (lt (yh P 3 [(Qd ae)]) fun A=>cI .u64 A 3 fun af=>cI .u64 A 2 fun ag=>lt (zaR .u64 af ag) fun ah=>chk (1=1∧3+1≤(XG A)) (lt (yh A 3 [(Qd ah)]) fun C=>cI .u64 C 0 fun ai=>cI .u64 C 3 fun aj=>lt (QF .u64 ((ai:Int)+aj)) fun ak=>chk (1=1∧0+1≤(XG C)) (lt (yh C 0 [(Qd ak)]) fun Q=>cI .u64 Q 3 fun al=>xc β L al (21:Int) (fun am=>chk (1=1∧3+1≤(XG Q)) (lt (yh Q 3 [(Qd am)]) fun D=>cI .u64 D 3 fun an=>cI .u64 D 0 fun ao=>lt (zaR .u64 an ao) fun ap=>chk (1=1∧3+1≤(XG D)) (lt (yh D 3 [(Qd ap)]) fun E=>cI .u64 E 2 fun aq=>cI .u64 E 1 fun ar=>lt (QF .u64 ((aq:Int)+ar)) fun au=>chk (1=1∧2+1≤(XG E)) (lt (yh E 2 [(Qd au)]) fun R=>cI .u64 R 1 fun av=>xc β L av (17:Int) (fun aw=>chk (1=1∧1+1≤(XG R)) (lt (yh R 1 [(Qd aw)]) fun F=>cI .u64 F 1 fun ax=>cI .u64 F 2 fun ay=>lt (zaR .u64 ax ay) fun az=>chk (1=1∧1+1≤(XG F)) (lt (yh F 1 [(Qd az)]) fun S=>cI .u64 S 2 fun aC=>xc β L aC (32:Int) (fun aD=>chk (1=1∧2+1≤(XG S)) (lt (yh S 2 [(Qd aD)]) fun aE=>lt (QF .i64 ((X:Int)+(1:Int))) fun aH=>G W aH aE J M N O))))))))))))))))))))) (U I J M N O)
theorem zuW{β:Type}(xc:xH)(L:Nat)(F G:Int)(E:List V)(z A C D:Int)(X:St→Option β)(K:KT β):yi zcu (zcx xc L) 0 L ze8 (zf3 F G E z A C D) (zbo zib X K)=zfU xc L F G E z A C D (fun F G E z A C D=>X (zf3 F G E z A C D)) (fun E z A C D=>K (.exit 0) (zmd E z A C D)):=by kernel_rfl
def zkJ{β:Type}(xc:xH)(L:Nat)(C:List V)(D E F G:Int)(z:List V→Option β):Option β:=chk (0+4≤(XG C)) (chk ((XG (XI 4 C))=4∧0+4≤4) (lt (yh [(Qd D),(Qd E),(Qd F),(Qd G)] 0 (XI 4 C)) fun A=>chk (0=0∧(XG A)=4∧4≠0) (z A)))
theorem zta{β:Type}(xc:xH)(L:Nat)(E:List V)(z A C D:Int)(k:KK β):(zz 0 (xK (yi zcu (zcx xc L) 0 L zoy) (yR 0 (CF.res zeY) k))) (.exit 0) (zmd E z A C D)=zkJ xc L E z A C D (fun F=>k (V.agg F) []):=by kernel_rfl
def zfS{β:Type}(xc:xH)(L:Nat)(E:List V→Int→Int→Int→Int→Option β):Nat→Int→Int→List V→Int→Int→Int→Int→Option β
 | 0,_,_,_,_,_,_,_=>none
 | n+1,F,G,I,z,A,C,D=>zfU xc L F G I z A C D (fun F G I z A C D=>zfS xc L E n F G I z A C D) E
theorem zoa{β:Type}(xc:xH)(L:Nat)(K:KT β):∀ (n:Nat) (F G:Int) (E:List V) (z A C D:Int),xz (yi zcu (zcx xc L) 0 L ze8) zib n (zf3 F G E z A C D) K=zfS xc L (fun E z A C D=>K (.exit 0) (zmd E z A C D)) n F G E z A C D:=by
 intro n
 induction n with
 | zero=>intros; rfl
 | succ n ih=>
  intro F G E z A C D
  refine (zuW xc L F G E z A C D (fun σ=>xz (yi zcu (zcx xc L) 0 L ze8) zib n σ K) K).trans ?_
  simp only [ih]
  rfl
def zmX{β:Type}(xc:xH)(L:Nat)(G:List V)(I:Int)(E:List V→Option β):Option β:=zre xc L G I (fun J M F z A C D=>zfS xc L (fun F z A C D=>zkJ xc L F z A C D E) L J M F z A C D)
theorem zzC{β:Type}(xc:xH)(L:Nat)(z:List V)(A:Int)(k:KK β):zp zcu (zcx xc L) L zeY [(V.agg z),(Qe A)] [] k=zmX xc L z A (fun z=>k (V.agg z) []):=by
 refine (zzd xc L z A k).trans ?_
 unfold zmX
 first
  | (simp only [zoa,zta]; done)
  | (simp only [zoa]; rfl)
abbrev zaV:=∀ (β:Type),Nat→List V→Int→(List V→Option β)→Option β
def zn(β:Type)(L:Nat)(A:List V)(C:Int)(z:List V→Option β):Option β:=zmX xc L A C z
def zko(zn:zaV)(L:Nat)(β:Type)(args:List V)(bor:Bor)(k:KK β):Option β:=match args,bor with
 | [a0,a1],[]=>aG a0 fun z=>aI .i64 a1 fun A=>zn β L z A (fun z=>k (V.agg z) [])
 | _,_=>none
theorem zyz(L:Nat)(β:Type)(args:List V)(bor:Bor)(k:KK β)(r:β)(h:zko zn L β args bor k=some r):zp zcu (zcx xc L) L zeY args bor k=some r:=by
 unfold zko at h
 split at h
 ·have q:=yW h; clear h; obtain ⟨z,rfl,h⟩:=q
  have q:=yB h; clear h; obtain ⟨A,rfl,h⟩:=q
  exact (zzC xc L z A k).trans h
 ·cases h
def zlP:CF:=⟨18,[.cell 4 true 4],(.seq (.reg [Qv 2 (tq 0),oo 4 (.alloc true [(.sc (.int .u64 0)),(.sc (.int .u64 0)),(.sc (.int .u64 0)),(.sc (.int .u64 0))])]) (.seq (.reg [Qn 5 4 1 (tq 2) (Qf 3),Qj 6 1 (tq 5),Qh 7 (tq 1),Qp 8 .xor (tq 6) (tq 7),Qn 9 4 1 (tq 2) (Qf 3),Qm 1 (tq 9) (tq 8)]) (.seq (.reg [Qk 10 4 (tq 2),Qs 11 113 [(Qw 10),((Qf 2),0)],Qm 4 (tq 2) (tq 11)]) (.seq (.reg [Qn 12 4 1 (tq 2) (Qf 0),Qj 13 1 (tq 12),Qh 14 (tq 1),Qp 15 .xor (tq 13) (tq 14),Qn 16 4 1 (tq 2) (Qf 0),Qm 1 (tq 16) (tq 15)]) (.seq (.reg [Qk 17 4 (tq 2),Qm 4 (tq 4) (tq 17)]) .ret)))))⟩
def zsf:Hint:=⟨[],[],[none],[],[],false,false,[]⟩
def zpR:Nat→Sh:=xW [(6,(.int .u64)),(13,(.int .u64))]
def zpP(zn:zaV)(L:Nat):CBC:=(yD 113 (zko zn L) noC)
def zrt{β:Type}(zn:zaV)(L:Nat)(A:List V)(C:Int)(z:List V→Option β):Option β:=cI .u64 A 3 fun E=>lt (zaR .u64 E C) fun F=>chk (1=1∧3+1≤(XG A)) (lt (yh A 3 [(Qd F)]) fun r2=>chk (0+4≤(XG r2)) (zn β L (XI 4 r2) (2:Int) (fun D=>chk ((XG D)=4∧0+4≤(XG r2)) (lt (yh r2 0 D) fun r4=>cI .u64 r4 0 fun G=>lt (zaR .u64 G C) fun I=>chk (1=1∧0+1≤(XG r4)) (lt (yh r4 0 [(Qd I)]) fun r7=>chk (0+4≤(XG r7)) (chk ((XG (XI 4 r7))=4∧0+4≤4) (lt (yh [(Qd (0:Int)),(Qd (0:Int)),(Qd (0:Int)),(Qd (0:Int))] 0 (XI 4 r7)) fun r8=>chk (0=0∧(XG r8)=4∧4≠0) (z r8))))))))
theorem zyl{β:Type}(zn:zaV)(L:Nat)(z:List V)(A:Int)(k:KK β):zp zpR (zpP zn L) L zlP [(V.agg z),(Qd A)] [] k=zrt zn L z A (fun z=>k (V.agg z) []):=by kernel_rfl
abbrev zbZ:=∀ (β:Type),Nat→List V→Int→(List V→Option β)→Option β
def yt(β:Type)(L:Nat)(A:List V)(C:Int)(z:List V→Option β):Option β:=zrt zn L A C z
def znv(yt:zbZ)(L:Nat)(β:Type)(args:List V)(bor:Bor)(k:KK β):Option β:=match args,bor with
 | [a0,a1],[]=>aG a0 fun z=>aI .u64 a1 fun A=>yt β L z A (fun z=>k (V.agg z) [])
 | _,_=>none
theorem zyY(L:Nat)(β:Type)(args:List V)(bor:Bor)(k:KK β)(r:β)(h:znv yt L β args bor k=some r):zp zpR (zpP zn L) L zlP args bor k=some r:=by
 unfold znv at h
 split at h
 ·have q:=yW h; clear h; obtain ⟨z,rfl,h⟩:=q
  have q:=yB h; clear h; obtain ⟨A,rfl,h⟩:=q
  exact (zyl zn L z A k).trans h
 ·cases h
def zfC:CC:=(.seq (.reg [Qp 26 .lss (tq 25) (tq 24)]) (.seq (.cond (tq 26) .skip (.seq (.mask (bl 98 69) (bl 590295810152547221371 69)) (.exit 0))) (.seq (.block 1 (.seq (.reg [Qh 27 (tq 25),Qh 7 (tq 27)]) (.dreg [] [(Qk 28 4 (tq 5),ql 5 [] []),(Qh 29 (tq 1),q0),(Qh 30 (tq 7),q0),(Qp 31 .mul (Qf 8) (tq 30),q0),(Qh 32 (tq 7),q0),(Qp 33 .mul (Qf 8) (tq 32),q0),(Qp 34 .add (tq 33) (Qf 8),q0),(oo 35 (.sliceS 1 (tq 29) (some (tq 31)) (some (tq 34)) none),q0),(Qs 36 112 [(Qw 35)],qc [5] []),(Qs 37 111 [(Qw 28),(Qw 36)],q0),(Qm 4 (tq 5) (tq 37),q0)]))) (.reg [Qp 38 .add (tq 25) (Qf 1),Qh 25 (tq 38)]))))
def zpN:CC:=(.seq (.dreg [] [(Qk 39 4 (tq 5),ql 5 [] []),(Qh 40 (tq 1),q0),(Qh 41 (tq 6),q0),(Qp 42 .mul (Qf 8) (tq 41),q0),(oo 43 (.sliceS 1 (tq 40) (some (tq 42)) none none),q0),(Qs 44 112 [(Qw 43)],qc [5] []),(Qh 45 (tq 1),q0),(Qr 46 (tq 45),q0),(Qp 47 .rem (tq 46) (Qf 256),q0),(Qu 48 .u64 (tq 47),q0),(oo 49 (.bin .shl (tq 48) (.const (.sc (.int .u64 56)))),q0),(Qp 50 .or (tq 44) (tq 49),q0),(Qs 51 111 [(Qw 39),(Qw 50)],q0),(Qm 4 (tq 5) (tq 51),q0)]) (.seq (.reg [Qn 52 4 1 (tq 5) (Qf 2),Qj 53 1 (tq 52),oo 54 (.bin .xor (tq 53) (.const (.sc (.int .u64 255)))),Qn 55 4 1 (tq 5) (Qf 2),Qm 1 (tq 55) (tq 54)]) (.seq (.reg [Qk 56 4 (tq 5),Qs 57 113 [(Qw 56),((Qf 4),0)],Qm 4 (tq 5) (tq 57)]) (.seq (.reg [Qn 58 4 1 (tq 5) (Qf 0),Qj 59 1 (tq 58),Qn 60 4 1 (tq 5) (Qf 1),Qj 61 1 (tq 60),Qp 62 .xor (tq 59) (tq 61),Qn 63 4 1 (tq 5) (Qf 2),Qj 64 1 (tq 63),Qp 65 .xor (tq 62) (tq 64),Qn 66 4 1 (tq 5) (Qf 3),Qj 67 1 (tq 66),Qp 68 .xor (tq 65) (tq 67),Qh 4 (tq 68)]) .ret))))
def zih:CF:=⟨69,[.tmp 4],(.seq (.reg [Qv 2 (tq 0),oo 4 (.move (.const (.sc (.int .u64 0))) false)]) (.seq (.reg [Qn 8 2 1 (tq 2) (Qf 0),Qj 9 1 (tq 8),oo 10 (.bin .xor (tq 9) (.const (.sc (.int .u64 8317987319222330741)))),Qn 11 2 1 (tq 2) (Qf 1),Qj 12 1 (tq 11),oo 13 (.bin .xor (tq 12) (.const (.sc (.int .u64 7237128888997146477)))),Qn 14 2 1 (tq 2) (Qf 0),Qj 15 1 (tq 14),oo 16 (.bin .xor (tq 15) (.const (.sc (.int .u64 7816392313619706465)))),Qn 17 2 1 (tq 2) (Qf 1),Qj 18 1 (tq 17),oo 19 (.bin .xor (tq 18) (.const (.sc (.int .u64 8387220255154660723)))),oo 20 (.build [(.sc (.int .u64 0)),(.sc (.int .u64 0)),(.sc (.int .u64 0)),(.sc (.int .u64 0))] [(0,1,(tq 10)),(1,1,(tq 13)),(2,1,(tq 16)),(3,1,(tq 19))]),oo 5 (.alloc true [(.sc (.int .u64 0)),(.sc (.int .u64 0)),(.sc (.int .u64 0)),(.sc (.int .u64 0))]),Qm 4 (tq 5) (tq 20)]) (.seq (.reg [Qh 21 (tq 1),Qr 22 (tq 21),Qp 23 .quo (tq 22) (Qf 8),Qh 6 (tq 23)]) (.seq (.seq (.reg [Qh 24 (tq 6),Qh 25 (Qf 0)]) (.block 0 (.loop (bl 50331746 69) (bl 590295810152547221371 69) zfC))) zpN))))⟩
def zvC:Hint:=⟨[],[],[none,some ((bl 50331746 69),(bl 590295810152547221371 69)),none,some ((bl 98 69),(bl 590295810152547221371 69)),none,none],[],[],false,false,[]⟩
def zev:Nat→Sh:=xW [(9,(.int .u64)),(12,(.int .u64)),(15,(.int .u64)),(18,(.int .u64)),(53,(.int .u64)),(59,(.int .u64)),(61,(.int .u64)),(64,(.int .u64)),(67,(.int .u64))]
def zeA(zr:zbV)(yt:zbZ)(zn:zaV)(L:Nat):CBC:=(yD 113 (zko zn L) (yD 111 (znv yt L) (yD 112 (znO zr L) noC)))
def zjF:St→St:=zaH 0 (bl 50331746 69) (bl 590295810152547221371 69)
def zgD(C:List (List V))(D z A:Int)(E:List V):St:=⟨(jn 1 ((V.sl 1 C)::(jn 3 ((V.ptr 5 0)::((Qe D)::(jn 17 ((Qe z)::((Qe A)::(jn 43 []))))))))),(gn 5 ((.live true E)::(gn 63 [])))⟩
def zpW(z:List (List V))(A:Int)(C:List V):St:=⟨(jn 1 ((V.sl 1 z)::(jn 3 ((V.ptr 5 0)::((Qe A)::(jn 62 [])))))),(gn 5 ((.live true C)::(gn 63 [])))⟩
def zwg{β:Type}(zr:zbV)(yt:zbZ)(zn:zaV)(L:Nat)(A:List V)(C:List (List V))(z:List (List V)→Int→Int→Int→List V→Option β):Option β:=cI .u64 A 0 fun E=>lt (zaR .u64 E (8317987319222330741:Int)) fun F=>cI .u64 A 1 fun G=>lt (zaR .u64 G (7237128888997146477:Int)) fun I=>cI .u64 A 0 fun J=>lt (zaR .u64 J (7816392313619706465:Int)) fun M=>cI .u64 A 1 fun N=>lt (zaR .u64 N (8387220255154660723:Int)) fun O=>lt [(Qd F),(Qd I),(Qd M),(Qd O)] fun r8=>lt (QF .i64 (Int.tdiv ((XG C:Nat):Int) (8:Int))) fun D=>z C D D (0:Int) r8
theorem zCO{β:Type}(zr:zbV)(yt:zbZ)(zn:zaV)(L:Nat)(A:List V)(z:List (List V))(k:KK β):zp zev (zeA zr yt zn L) L zih [(V.agg A),(V.sl 1 z)] [] k=zwg zr yt zn L A z (fun z E C D F=>xz (yi zev (zeA zr yt zn L) 0 L zfC) zjF L (zgD z E C D F) (zz 0 (xK (yi zev (zeA zr yt zn L) 0 L zpN) (yR 0 (CF.res zih) k)))):=by kernel_rfl
def znh{β:Type}(zr:zbV)(yt:zbZ)(zn:zaV)(L:Nat)(F:List (List V))(M G A:Int)(E:List V)(z:List (List V)→Int→Int→Int→List V→Option β)(J:List (List V)→Int→List V→Option β):Option β:=ifb (decide (A<G)) (chk (0+4≤(XG E)) (lt (QF .i64 (((8:Int):Int)*A)) fun C=>lt (QF .i64 (((8:Int):Int)*A)) fun N=>lt (QF .i64 ((N:Int)+(8:Int))) fun D=>chk (0≤D∧D≤(((XG F):Nat):Int)) (chk (0≤C∧C≤(((XH D):Nat):Int)) (zr β L (XI ((XH D)-(XH C)) (XJ (XH C) F)) (fun O=>yt β L (XI 4 E) O (fun I=>chk ((XG I)=4∧0+4≤(XG E)) (lt (yh E 0 I) fun P=>lt (QF .i64 ((A:Int)+(1:Int))) fun Q=>z F M G Q P))))))) (J F M E)
theorem zv1{β:Type}(zr:zbV)(yt:zbZ)(zn:zaV)(L:Nat)(C:List (List V))(D z A:Int)(E:List V)(X:St→Option β)(K:KT β):yi zev (zeA zr yt zn L) 0 L zfC (zgD C D z A E) (zbo zjF X K)=znh zr yt zn L C D z A E (fun C D z A E=>X (zgD C D z A E)) (fun C D E=>K (.exit 0) (zpW C D E)):=by kernel_rfl
def zhd{β:Type}(zr:zbV)(yt:zbZ)(zn:zaV)(L:Nat)(E:List (List V))(p6:Int)(F:List V)(G:Int→Option β):Option β:=chk (0+4≤(XG F)) (lt (QF .i64 (((8:Int):Int)*p6)) fun z=>chk (0≤z∧z≤(((XG E):Nat):Int)) (zr β L (XI ((XG E)-(XH z)) (XJ (XH z) E)) (fun M=>lt (XM ((XG E:Nat):Int) (256:Int)) fun N=>lt (QF .u64 N) fun O=>lt (zlp .u64 O (56:Int)) fun P=>lt (ior .u64 M P) fun Q=>yt β L (XI 4 F) Q (fun I=>chk ((XG I)=4∧0+4≤(XG F)) (lt (yh F 0 I) fun D=>cI .u64 D 2 fun R=>lt (zaR .u64 R (255:Int)) fun S=>chk (1=1∧2+1≤(XG D)) (lt (yh D 2 [(Qd S)]) fun A=>chk (0+4≤(XG A)) (zn β L (XI 4 A) (4:Int) (fun J=>chk ((XG J)=4∧0+4≤(XG A)) (lt (yh A 0 J) fun C=>cI .u64 C 0 fun U=>cI .u64 C 1 fun W=>lt (zaR .u64 U W) fun X=>cI .u64 C 2 fun Y=>lt (zaR .u64 X Y) fun Z=>cI .u64 C 3 fun aa=>lt (zaR .u64 Z aa) fun ab=>G ab)))))))))
theorem zt6{β:Type}(zr:zbV)(yt:zbZ)(zn:zaV)(L:Nat)(z:List (List V))(A:Int)(C:List V)(k:KK β):(zz 0 (xK (yi zev (zeA zr yt zn L) 0 L zpN) (yR 0 (CF.res zih) k))) (.exit 0) (zpW z A C)=zhd zr yt zn L z A C (fun D=>k (Qd D) []):=by kernel_rfl
def zgC{β:Type}(zr:zbV)(yt:zbZ)(zn:zaV)(L:Nat)(z:List (List V)→Int→List V→Option β):Nat→List (List V)→Int→Int→Int→List V→Option β
 | 0,_,_,_,_,_=>none
 | n+1,D,E,A,C,F=>znh zr yt zn L D E A C F (fun D E A C F=>zgC zr yt zn L z n D E A C F) z
theorem zpq{β:Type}(zr:zbV)(yt:zbZ)(zn:zaV)(L:Nat)(K:KT β):∀ (n:Nat) (C:List (List V)) (D z A:Int) (E:List V),xz (yi zev (zeA zr yt zn L) 0 L zfC) zjF n (zgD C D z A E) K=zgC zr yt zn L (fun C D E=>K (.exit 0) (zpW C D E)) n C D z A E:=by
 intro n
 induction n with
 | zero=>intros; rfl
 | succ n ih=>
  intro C D z A E
  refine (zv1 zr yt zn L C D z A E (fun σ=>xz (yi zev (zeA zr yt zn L) 0 L zfC) zjF n σ K) K).trans ?_
  simp only [ih]
  rfl
def zr2{β:Type}(zr:zbV)(yt:zbZ)(zn:zaV)(L:Nat)(G:List V)(z:List (List V))(A:Int→Option β):Option β:=zwg zr yt zn L G z (fun z C E F D=>zgC zr yt zn L (fun z C D=>zhd zr yt zn L z C D A) L z C E F D)
theorem zCm{β:Type}(zr:zbV)(yt:zbZ)(zn:zaV)(L:Nat)(z:List V)(A:List (List V))(k:KK β):zp zev (zeA zr yt zn L) L zih [(V.agg z),(V.sl 1 A)] [] k=zr2 zr yt zn L z A (fun z=>k (Qd z) []):=by
 refine (zCO zr yt zn L z A k).trans ?_
 unfold zr2
 first
  | (simp only [zpq,zt6]; done)
  | (simp only [zpq]; rfl)
abbrev zkA:=∀ (β:Type),Nat→List V→List (List V)→(Int→Option β)→Option β
def yV(β:Type)(L:Nat)(A:List V)(C:List (List V))(z:Int→Option β):Option β:=zr2 zr yt zn L A C z
def zpm(yV:zkA)(L:Nat)(β:Type)(args:List V)(bor:Bor)(k:KK β):Option β:=match args,bor with
 | [a0,a1],[]=>aG a0 fun z=>aL 1 a1 fun A=>yV β L z A (fun z=>k (Qd z) [])
 | _,_=>none
theorem zCf(L:Nat)(β:Type)(args:List V)(bor:Bor)(k:KK β)(r:β)(h:zpm yV L β args bor k=some r):zp zev (zeA zr yt zn L) L zih args bor k=some r:=by
 unfold zpm at h
 split at h
 ·have q:=yW h; clear h; obtain ⟨z,rfl,h⟩:=q
  have q:=zaT h; clear h; obtain ⟨A,rfl,h⟩:=q
  exact (zCm zr yt zn L z A k).trans h
 ·cases h
def zdY:CF:=⟨32,[.tmp 6],(.seq (.reg [Qv 3 (tq 0),Qv 4 (tq 1),Qh 6 (Qf 0)]) (.seq (.reg [Qk 10 32 (tq 3),Qs 11 109 [(Qw 10)],oo 7 (.alloc true [(.sc (.int .u64 0)),(.sc (.int .u64 0))]),Qm 2 (tq 7) (tq 11)]) (.seq (.dreg [] [(Qk 12 2 (tq 7),ql 7 [4] [13]),(oo 13 (.buildSlice 1 1 [(.sc (.int .u8 0))] [(0,1,(.const (.sc (.int .u8 2))))]),qn [7,4] []),(Qk 14 3 (tq 4),ql 4 [7] [13]),(Qs 15 269 [(Qw 14)],qc [7] [13]),(Qs 16 157 [(Qw 13),(Qw 15)],qc [7] []),(Qh 17 (tq 2),q0),(Qs 18 157 [(Qw 16),(Qw 17)],qc [7] []),(Qs 19 105 [(Qw 12),(Qw 18)],q0),(oo 20 (.bin .rem (tq 19) (.const (.sc (.int .u64 4)))),q0),(Qh 8 (tq 20),q0)]) (.seq (.reg [oo 21 (.buildSlice 1 1 [(.sc (.int .u8 0))] [(0,1,(.const (.sc (.int .u8 1))))]),Qh 22 (tq 2),Qs 23 157 [(Qw 21),(Qw 22)],Qh 24 (tq 8),Qu 25 .u32 (tq 24),Qs 26 157 [(Qw 23),(Qw 25)],Qh 9 (tq 26)]) (.seq (.reg [Qk 27 2 (tq 7),Qh 28 (tq 9),Qs 29 105 [(Qw 27),(Qw 28)],oo 30 (.bin .rem (tq 29) (.const (.sc (.int .u64 64)))),Qu 31 .i64 (tq 30),Qh 6 (tq 31)]) .ret)))))⟩
def zjy:Hint:=⟨[],[],[none],[],[],false,false,[]⟩
def zgb:Nat→Sh:=xW []
def zgf(z4:zkv)(xp:zbg)(zt:zcT)(yV:zkA)(L:Nat):CBC:=(yD 105 (zpm yV L) (yD 157 (zfb zt L) (yD 269 (zei xp L) (yD 109 (zpp z4 L) noC))))
def zgX{β:Type}(z4:zkv)(xp:zbg)(zt:zcT)(yV:zkA)(L:Nat)(A C:List V)(D:Int)(z:Int→Option β):Option β:=chk (0+32≤(XG A)) (z4 β L (XI 32 A) (fun E=>chk ((XG E)=2∧0+2≤2) (lt (yh [(Qd (0:Int)),(Qd (0:Int))] 0 E) fun r1=>chk (0+2≤(XG r1)) (chk (0+3≤(XG C)) (xp β L (XI 3 C) (fun J=>zt β L (xh 1 1 [(Qa (2:Int))]) J (fun M=>zt β L M D (fun N=>yV β L (XI 2 r1) N (fun O=>lt (XM O (4:Int)) fun P=>zt β L (xh 1 1 [(Qa (1:Int))]) D (fun Q=>lt (QF .u32 P) fun R=>zt β L Q R (fun S=>chk (0+2≤(XG r1)) (yV β L (XI 2 r1) S (fun F=>lt (XM F (64:Int)) fun G=>lt (QF .i64 G) fun I=>z I)))))))))))))
theorem zqn{β:Type}(z4:zkv)(xp:zbg)(zt:zcT)(yV:zkA)(L:Nat)(z A:List V)(C:Int)(k:KK β):zp zgb (zgf z4 xp zt yV L) L zdY [(V.agg z),(V.agg A),(Qc C)] [] k=zgX z4 xp zt yV L z A C (fun z=>k (Qe z) []):=by kernel_rfl
abbrev zK:=∀ (β:Type),Nat→List V→List V→Int→(Int→Option β)→Option β
def ze(β:Type)(L:Nat)(A C:List V)(D:Int)(z:Int→Option β):Option β:=zgX z4 xp zt yV L A C D z
def zc7(ze:zK)(L:Nat)(β:Type)(args:List V)(bor:Bor)(k:KK β):Option β:=match args,bor with
 | [a0,a1,a2],[]=>aG a0 fun z=>aG a1 fun A=>aI .u32 a2 fun C=>ze β L z A C (fun z=>k (Qe z) [])
 | _,_=>none
theorem zqz(L:Nat)(β:Type)(args:List V)(bor:Bor)(k:KK β)(r:β)(h:zc7 ze L β args bor k=some r):zp zgb (zgf z4 xp zt yV L) L zdY args bor k=some r:=by
 unfold zc7 at h
 split at h
 ·have q:=yW h; clear h; obtain ⟨z,rfl,h⟩:=q
  have q:=yW h; clear h; obtain ⟨A,rfl,h⟩:=q
  have q:=yB h; clear h; obtain ⟨C,rfl,h⟩:=q
  exact (zqn z4 xp zt yV L z A C k).trans h
 ·cases h
def zf5:CF:=⟨11,[.tmp 3],(.seq (.reg [Qv 2 (tq 0),Qh 3 (Qf 0)]) (.seq (.reg [Ql 4 0 (tq 1),Qk 5 32 (tq 4),Ql 6 1 (tq 2),Qk 7 3 (tq 6),Ql 8 4 (tq 2),Qj 9 1 (tq 8),Qs 10 297 [(Qw 5),(Qw 7),(Qw 9)],Qh 3 (tq 10)]) .ret))⟩
def zms:Hint:=⟨[],[],[none],[],[],false,false,[]⟩
def zjn:Nat→Sh:=xW [(9,(.int .u32))]
def zjc(ze:zK)(L:Nat):CBC:=(yD 297 (zc7 ze L) noC)
def zki{β:Type}(ze:zK)(L:Nat)(A C:List V)(z:Int→List V→Option β):Option β:=chk (0+32≤(XG C)) (chk (1+3≤(XG A)) (cI .u32 A 4 fun D=>ze β L (XI 32 C) (XI 3 (XJ 1 A)) D (fun E=>z E C)))
theorem zts{β:Type}(ze:zK)(L:Nat)(z A:List V)(k:KK β):zp zjn (zjc ze L) L zf5 [(V.agg z),(V.ptr 0 0)] [(.live true A)] k=zki ze L z A (fun z A=>k (Qe z) [(.live true A)]):=by kernel_rfl
abbrev xY:=∀ (β:Type),Nat→List V→List V→(Int→List V→Option β)→Option β
def xg(β:Type)(L:Nat)(A C:List V)(z:Int→List V→Option β):Option β:=zki ze L A C z
def zgK(xg:xY)(L:Nat)(β:Type)(args:List V)(bor:Bor)(k:KK β):Option β:=match args,bor with
 | [a0,a1],[(.live true z)]=>aG a0 fun A=>aP 0 0 a1 (xg β L A z (fun A z=>k (Qe A) [(.live true z)]))
 | _,_=>none
theorem zs7(L:Nat)(β:Type)(args:List V)(bor:Bor)(k:KK β)(r:β)(h:zgK xg L β args bor k=some r):zp zjn (zjc ze L) L zf5 args bor k=some r:=by
 unfold zgK at h
 split at h
 ·have q:=yW h; clear h; obtain ⟨z,rfl,h⟩:=q
  have q:=znz h; clear h; obtain ⟨rfl,h⟩:=q
  exact (zts ze L z _ k).trans h
 ·cases h
def zcR:CC:=(.seq (.reg [Qp 18 .lss (tq 17) (tq 16)]) (.seq (.cond (tq 18) .skip (.seq (.mask (bl 0 58) (bl 288230375077966399 58)) (.exit 0))) (.seq (.block 1 (.seq (.reg [Qo 19 5 (tq 15) (tq 17),Qk 20 5 (tq 19),oo 10 (.alloc true [(.sc (.int .i64 0)),(.sc (.int .u32 0)),(.sc (.int .u16 0)),(.sc (.int .u32 0)),(.sc (.int .u32 0))]),Qm 5 (tq 10) (tq 20)]) (.seq (.seq (.dreg [] [(Ql 21 0 (tq 10),q0),(Qj 22 1 (tq 21),q0),(Qh 23 (tq 7),q0),(Qp 24 .lss (tq 22) (tq 23),q0),(Qh 25 (tq 24),q0),(⟨(some 26),false,(some (25,false)),.fieldAddr 0 (tq 10)⟩,q0),(⟨(some 27),false,(some (25,false)),.load false 1 (tq 26) false⟩,ql 10 [] []),(⟨(some 28),false,(some (25,false)),.move (tq 2) false⟩,q0),(⟨(some 29),false,(some (25,false)),.load true 5 (tq 10) false⟩,ql 10 [] []),(⟨(some 30),false,(some (25,false)),.callv (tq 28) [(Qw 29)] []⟩,qc [10] []),(⟨(some 31),false,(some (25,false)),.bin .neq (tq 27) (tq 30)⟩,q0),(oo 32 (.pick (tq 25) (Qg true) (tq 31)),q0)]) (.cond (tq 32) (.seq (.reg [Qh 6 (Qg false)]) (.seq (.mask (bl 64 58) (bl 288230375077966463 58)) .ret)) .skip)) (.seq (.seq (.reg [Ql 33 0 (tq 10),Qj 34 1 (tq 33),Qh 35 (tq 7),Qp 36 .neq (tq 34) (tq 35)]) (.cond (tq 36) (.reg [Ql 37 0 (tq 10),Qj 38 1 (tq 37),Qh 7 (tq 38),Qh 8 (Qf 0)]) .skip)) (.seq (.reg [Qh 39 (tq 8),Qp 40 .add (tq 39) (Qf 1),Qh 8 (tq 40)]) (.seq (.reg [Ql 41 1 (tq 10),Ql 42 0 (tq 41),Qj 43 1 (tq 42),Ql 44 1 (tq 10),Ql 45 1 (tq 44),Qj 46 1 (tq 45),oo 47 (.build [(.sc (.int .u32 0)),(.sc (.int .u16 0))] [(0,1,(tq 43)),(1,1,(tq 46))]),oo 11 (.alloc true [(.sc (.int .u32 0)),(.sc (.int .u16 0))]),Qm 2 (tq 11) (tq 47)]) (.seq (.seq (.reg [Qh 48 (tq 8),Qp 49 .gtr (tq 48) (Qf 8),Qh 50 (tq 49),⟨(some 51),false,(some (50,false)),.move (tq 1) false⟩,⟨(some 52),false,(some (50,false)),.load true 2 (tq 11) false⟩,⟨(some 53),false,(some (50,false)),.mlook 4 false (.sc (.bool false)) (tq 51) (tq 52)⟩,oo 54 (.pick (tq 50) (Qg true) (tq 53))]) (.cond (tq 54) (.seq (.reg [Qh 6 (Qg false)]) (.seq (.mask (bl 64 58) (bl 288230375077966463 58)) .ret)) .skip)) (.reg [Qh 55 (tq 1),Qk 56 2 (tq 11),oz (.mput 4 (tq 55) (tq 56) (Qg true))])))))))) (.reg [Qp 57 .add (tq 17) (Qf 1),Qh 17 (tq 57)]))))
def zfi:CC:=(.seq (.reg [Qh 6 (Qg true)]) .ret)
def zby:CF:=⟨58,[.tmp 6],(.seq (.reg [Qh 6 (Qg false)]) (.seq (.seq (.reg [Qh 12 (tq 0),Qr 13 (tq 12),Qp 14 .gtr (tq 13) (Qf 512)]) (.cond (tq 14) (.seq (.reg [Qh 6 (Qg false)]) .ret) .skip)) (.seq (.reg [Qh 7 (Qf (-1)),Qh 8 (Qf 0)]) (.seq (.seq (.reg [Qh 15 (tq 0),Qr 16 (tq 15),Qh 17 (Qf 0)]) (.block 0 (.loop (bl 229766 58) (bl 288230375077966783 58) zcR))) zfi))))⟩
def zoh:Hint:=⟨[],[],[none,none,none,some ((bl 229766 58),(bl 288230375077966783 58)),none,some ((bl 0 58),(bl 288230375077966399 58)),none,none,some ((bl 64 58),(bl 288230375077966463 58)),none,none,some ((bl 64 58),(bl 288230375077966463 58)),none],[],[],false,false,[]⟩
def zaC:Nat→Sh:=xW [(22,(.int .i64)),(27,(.int .i64)),(34,(.int .i64)),(38,(.int .i64)),(43,(.int .u32)),(46,(.int .u16)),(53,.bool)]
def zaD(xg:xY)(L:Nat):CBC:=(yD 296 (zgK xg L) noC)
def zen:St→St:=zaH 2 (bl 229766 58) (bl 288230375077966783 58)
def zdy(D E:Int)(z:List (List V))(A C:Int)(F:List (V × V))(G:List V):St:=⟨(jn 1 ((V.mp 0)::((V.fn 296 [(V.ptr 1 0)])::(jn 4 ((Qe D)::((Qe E)::(jn 6 ((V.sl 5 z)::((Qe A)::((Qe C)::(jn 40 []))))))))))),((.mp F)::((.live true G)::(gn 58 [])))⟩
def zhX(z:Bool)(A:List (V × V))(C:List V):St:=⟨(jn 6 ((V.sc (.bool z))::(jn 51 []))),((.mp A)::((.live true C)::(gn 58 [])))⟩
def zir(z:List (V × V))(A:List V):St:=⟨(jn 58 []),((.mp z)::((.live true A)::(gn 58 [])))⟩
abbrev zk0(β:Type):Type:=Int→Int→List (List V)→Int→Int→List (V × V)→List V→Option β
def zmb{β:Type}(xg:xY)(L:Nat)(C:List (List V))(D:List (V × V))(E:List V)(A:Bool→List (V × V)→List V→Option β)(z:zk0 β):Option β:=ifb (decide (((XG C:Nat):Int)>(512:Int))) (A false D E) (z (-1:Int) (0:Int) C ((XG C:Nat):Int) (0:Int) D E)
theorem zuN{β:Type}(xg:xY)(L:Nat)(C:List (List V))(z:List (V × V))(A:List V)(k:KK β):zp zaC (zaD xg L) L zby [(V.sl 5 C),(V.mp 0),(V.fn 296 [(V.ptr 1 0)])] [(.mp z),(.live true A)] k=zmb xg L C z A (fun C z A=>k (V.sc (.bool C)) [(.mp z),(.live true A)]) (fun G I D E F z A=>xz (yi zaC (zaD xg L) 2 L zcR) zen L (zdy G I D E F z A) (zz 0 (xK (yi zaC (zaD xg L) 2 L zfi) (yR 2 (CF.res zby) k)))):=by kernel_rfl
def zgZ{β:Type}(xg:xY)(L:Nat)(O p8:Int)(I:List (List V))(J E:Int)(C:List (V × V))(M:List V)(z:Bool→List (V × V)→List V→Option β)(A:zk0 β)(P:List (V × V)→List V→Option β):Option β:=ifb (decide (E<J)) (idx I E fun c0=>chk ((XG (XI 5 c0))=5∧0+5≤5) (lt (yh [(Qe (0:Int)),(Qc (0:Int)),(Qb (0:Int)),(Qc (0:Int)),(Qc (0:Int))] 0 (XI 5 c0)) fun r1=>cI .i64 r1 0 fun v2=>ifb (decide (v2<O)) (z false C M) (cI .i64 r1 0 fun v3=>chk (0+5≤(XG r1)) (xg β L (XI 5 r1) M (fun v4 D=>chk ([(XG D)]=[(XG M)]) (ifb ((v3:Int) != v4) (z false C D) (cI .i64 r1 0 fun v6=>ifb ((v6:Int) != O) (cI .i64 r1 0 fun v7=>lt (QF .i64 (((0:Int):Int)+(1:Int))) fun Q=>cI .u32 r1 1 fun v9=>cI .u16 r1 2 fun R=>lt [(Qc v9),(Qb R)] fun F=>ifb (decide (Q>(8:Int))) (z false C D) (chk (0+2≤(XG F)) (mAt 4 (V.agg (XI 2 F)) C fun S=>aB (XL S (V.sc (.bool false))) fun U=>ifb U (z false C D) (chk (0+2≤(XG F)) (zsI 4 (V.agg (XI 2 F)) (V.sc (.bool true)) C fun W=>lt (QF .i64 ((E:Int)+(1:Int))) fun X=>A v7 Q I J X W D))))) (lt (QF .i64 ((p8:Int)+(1:Int))) fun N=>cI .u32 r1 1 fun Y=>cI .u16 r1 2 fun Z=>lt [(Qc Y),(Qb Z)] fun G=>ifb (decide (N>(8:Int))) (z false C D) (chk (0+2≤(XG G)) (mAt 4 (V.agg (XI 2 G)) C fun aa=>aB (XL aa (V.sc (.bool false))) fun ab=>ifb ab (z false C D) (chk (0+2≤(XG G)) (zsI 4 (V.agg (XI 2 G)) (V.sc (.bool true)) C fun ac=>lt (QF .i64 ((E:Int)+(1:Int))) fun ad=>A O N I J ad ac D)))))))))))) (P C M)
theorem zqm{β:Type}(xg:xY)(L:Nat)(F G:Int)(C:List (List V))(D E:Int)(z:List (V × V))(A:List V)(X:St→Option β)(K:KT β):yi zaC (zaD xg L) 2 L zcR (zdy F G C D E z A) (zbo zen X K)=zgZ xg L F G C D E z A (fun I z A=>K .ret (zhX I z A)) (fun F G C D E z A=>X (zdy F G C D E z A)) (fun z A=>K (.exit 0) (zir z A)):=by kernel_rfl
def zfm{β:Type}(xg:xY)(L:Nat)(A:Bool)(C:List (V × V))(D:List V)(z:Bool→List (V × V)→List V→Option β):Option β:=z A C D
theorem zoJ{β:Type}(xg:xY)(L:Nat)(C:Bool)(z:List (V × V))(A:List V)(k:KK β):(zz 0 (xK (yi zaC (zaD xg L) 2 L zfi) (yR 2 (CF.res zby) k))) .ret (zhX C z A)=zfm xg L C z A (fun D z A=>k (V.sc (.bool D)) [(.mp z),(.live true A)]):=by kernel_rfl
def zfH{β:Type}(xg:xY)(L:Nat)(A:List (V × V))(C:List V)(z:Bool→List (V × V)→List V→Option β):Option β:=z true A C
theorem zpu{β:Type}(xg:xY)(L:Nat)(z:List (V × V))(A:List V)(k:KK β):(zz 0 (xK (yi zaC (zaD xg L) 2 L zfi) (yR 2 (CF.res zby) k))) (.exit 0) (zir z A)=zfH xg L z A (fun C z A=>k (V.sc (.bool C)) [(.mp z),(.live true A)]):=by kernel_rfl
def zb5{β:Type}(xg:xY)(L:Nat)(z:Bool→List (V × V)→List V→Option β)(A:List (V × V)→List V→Option β):Nat→Int→Int→List (List V)→Int→Int→List (V × V)→List V→Option β
 | 0,_,_,_,_,_,_,_=>none
 | n+1,F,G,C,D,E,I,J=>zgZ xg L F G C D E I J z (fun F G C D E I J=>zb5 xg L z A n F G C D E I J) A
theorem zjS{β:Type}(xg:xY)(L:Nat)(K:KT β):∀ (n:Nat) (F G:Int) (C:List (List V)) (D E:Int) (z:List (V × V)) (A:List V),xz (yi zaC (zaD xg L) 2 L zcR) zen n (zdy F G C D E z A) K=zb5 xg L (fun I z A=>K .ret (zhX I z A)) (fun z A=>K (.exit 0) (zir z A)) n F G C D E z A:=by
 intro n
 induction n with
 | zero=>intros; rfl
 | succ n ih=>
  intro F G C D E z A
  refine (zqm xg L F G C D E z A (fun σ=>xz (yi zaC (zaD xg L) 2 L zcR) zen n σ K) K).trans ?_
  simp only [ih]
  rfl
def ziG{β:Type}(xg:xY)(L:Nat)(G:List (List V))(A:List (V × V))(C:List V)(z:Bool→List (V × V)→List V→Option β):Option β:=zmb xg L G A C z (fun I J D E F A C=>zb5 xg L (fun M A C=>zfm xg L M A C z) (fun A C=>zfH xg L A C z) L I J D E F A C)
theorem zuV{β:Type}(xg:xY)(L:Nat)(z:List (List V))(A:List (V × V))(C:List V)(k:KK β):zp zaC (zaD xg L) L zby [(V.sl 5 z),(V.mp 0),(V.fn 296 [(V.ptr 1 0)])] [(.mp A),(.live true C)] k=ziG xg L z A C (fun z A C=>k (V.sc (.bool z)) [(.mp A),(.live true C)]):=by
 refine (zuN xg L z A C k).trans ?_
 unfold ziG
 first
  | (simp only [zjS,zoJ,zpu]; done)
  | (simp only [zjS]; rfl)
abbrev ziL:=∀ (β:Type),Nat→List (List V)→List (V × V)→List V→(Bool→List (V × V)→List V→Option β)→Option β
def yS(β:Type)(L:Nat)(A:List (List V))(C:List (V × V))(D:List V)(z:Bool→List (V × V)→List V→Option β):Option β:=ziG xg L A C D z
def zil(yS:ziL)(L:Nat)(β:Type)(args:List V)(bor:Bor)(k:KK β):Option β:=match args,bor with
 | [a0,a1,a2],[(.mp z),(.live true A)]=>aL 5 a0 fun C=>aM 0 a1 (aF 296 [(1,0)] a2 (yS β L C z A (fun C z A=>k (V.sc (.bool C)) [(.mp z),(.live true A)])))
 | _,_=>none
theorem zuZ(L:Nat)(β:Type)(args:List V)(bor:Bor)(k:KK β)(r:β)(h:zil yS L β args bor k=some r):zp zaC (zaD xg L) L zby args bor k=some r:=by
 unfold zil at h
 split at h
 ·have q:=zaT h; clear h; obtain ⟨z,rfl,h⟩:=q
  have q:=zFC h; clear h; obtain ⟨rfl,h⟩:=q
  have q:=zBX h; clear h; obtain ⟨rfl,h⟩:=q
  exact (zuV xg L z _ _ k).trans h
 ·cases h
def zgP:CF:=⟨10,[.tmp 4],(.seq (.reg [Qi 4 (.const (.gs 1 []))]) (.seq (.reg [Qh 5 (tq 0),Qh 6 (tq 1),Qu 7 .u64 (tq 6),Qs 8 192 [(Qw 7),((Qf 2),0)],Qs 9 191 [(Qw 5),(Qw 8)],Qi 4 (tq 9)]) .ret))⟩
def zmW:Hint:=⟨[(0,0),(1,5)],[],[none],[],[],false,false,[]⟩
def zkh:Nat→Sh:=xW []
def zkC(zE:zec)(yE:zek)(L:Nat):CBC:=(yD 191 (zhF yE L) (yD 192 (zhQ zE L) noC))
def zk3{β:Type}(zE:zec)(yE:zek)(L:Nat)(A:List (List V))(C:Int)(z:List (List V)→Option β):Option β:=lt (QF .u64 C) fun D=>zE β L D (2:Int) (fun E=>yE β L A E (fun F=>z F))
theorem zuf{β:Type}(zE:zec)(yE:zek)(L:Nat)(z:List (List V))(A:Int)(k:KK β):zp zkh (zkC zE yE L) L zgP [(V.sl 1 z),(Qb A)] [] k=zk3 zE yE L z A (fun z=>k (V.gs 1 z) []):=by kernel_rfl
abbrev zha:=∀ (β:Type),Nat→List (List V)→Int→(List (List V)→Option β)→Option β
def xP(β:Type)(L:Nat)(A:List (List V))(C:Int)(z:List (List V)→Option β):Option β:=zk3 zE yE L A C z
def zhk(xP:zha)(L:Nat)(β:Type)(args:List V)(bor:Bor)(k:KK β):Option β:=match args,bor with
 | [a0,a1],[]=>aL 1 a0 fun z=>aI .u16 a1 fun A=>xP β L z A (fun z=>k (V.gs 1 z) [])
 | _,_=>none
theorem zuh(L:Nat)(β:Type)(args:List V)(bor:Bor)(k:KK β)(r:β)(h:zhk xP L β args bor k=some r):zp zkh (zkC zE yE L) L zgP args bor k=some r:=by
 unfold zhk at h
 split at h
 ·have q:=zaT h; clear h; obtain ⟨z,rfl,h⟩:=q
  have q:=yB h; clear h; obtain ⟨A,rfl,h⟩:=q
  exact (zuf zE yE L z A k).trans h
 ·cases h
def zdU:CF:=⟨32,[.tmp 4],(.seq (.reg [Qv 2 (tq 0),Qv 3 (tq 1),Qh 4 (Qf 0)]) (.seq (.reg [Qk 8 32 (tq 2),Qs 9 109 [(Qw 8)],oo 5 (.alloc true [(.sc (.int .u64 0)),(.sc (.int .u64 0))]),Qm 2 (tq 5) (tq 9)]) (.seq (.dreg [] [(Qk 10 2 (tq 5),ql 5 [3] [11]),(oo 11 (.buildSlice 1 1 [(.sc (.int .u8 0))] [(0,1,(.const (.sc (.int .u8 4))))]),qn [5,3] []),(Ql 12 0 (tq 3),q0),(Qj 13 1 (tq 12),ql 3 [5] [11]),(Qs 14 157 [(Qw 11),(Qw 13)],qc [5,3] []),(Ql 15 1 (tq 3),q0),(Qj 16 1 (tq 15),ql 3 [5] [11]),(Qs 17 205 [(Qw 14),(Qw 16)],qc [5] []),(Qs 18 105 [(Qw 10),(Qw 17)],q0),(oo 19 (.bin .rem (tq 18) (.const (.sc (.int .u64 4)))),q0),(Qh 6 (tq 19),q0)]) (.seq (.reg [oo 20 (.buildSlice 1 1 [(.sc (.int .u8 0))] [(0,1,(.const (.sc (.int .u8 3))))]),Qk 21 3 (tq 3),Qs 22 269 [(Qw 21)],Qs 23 157 [(Qw 20),(Qw 22)],Qh 24 (tq 6),Qu 25 .u32 (tq 24),Qs 26 157 [(Qw 23),(Qw 25)],Qh 7 (tq 26)]) (.seq (.reg [Qk 27 2 (tq 5),Qh 28 (tq 7),Qs 29 105 [(Qw 27),(Qw 28)],oo 30 (.bin .rem (tq 29) (.const (.sc (.int .u64 64)))),Qu 31 .i64 (tq 30),Qh 4 (tq 31)]) .ret)))))⟩
def zjR:Hint:=⟨[],[],[none],[],[],false,false,[]⟩
def zgl:Nat→Sh:=xW [(13,(.int .u32)),(16,(.int .u16))]
def zgc(z4:zkv)(zt:zcT)(xP:zha)(yV:zkA)(xp:zbg)(L:Nat):CBC:=(yD 269 (zei xp L) (yD 105 (zpm yV L) (yD 205 (zhk xP L) (yD 157 (zfb zt L) (yD 109 (zpp z4 L) noC)))))
def zg8{β:Type}(z4:zkv)(zt:zcT)(xP:zha)(yV:zkA)(xp:zbg)(L:Nat)(C z:List V)(A:Int→Option β):Option β:=chk (0+32≤(XG C)) (z4 β L (XI 32 C) (fun D=>chk ((XG D)=2∧0+2≤2) (lt (yh [(Qd (0:Int)),(Qd (0:Int))] 0 D) fun r1=>chk (0+2≤(XG r1)) (cI .u32 z 0 fun M=>zt β L (xh 1 1 [(Qa (4:Int))]) M (fun N=>cI .u16 z 1 fun O=>xP β L N O (fun P=>yV β L (XI 2 r1) P (fun Q=>lt (XM Q (4:Int)) fun R=>chk (0+3≤(XG z)) (xp β L (XI 3 z) (fun S=>zt β L (xh 1 1 [(Qa (3:Int))]) S (fun U=>lt (QF .u32 R) fun E=>zt β L U E (fun F=>chk (0+2≤(XG r1)) (yV β L (XI 2 r1) F (fun G=>lt (XM G (64:Int)) fun I=>lt (QF .i64 I) fun J=>A J)))))))))))))
theorem zqq{β:Type}(z4:zkv)(zt:zcT)(xP:zha)(yV:zkA)(xp:zbg)(L:Nat)(z A:List V)(k:KK β):zp zgl (zgc z4 zt xP yV xp L) L zdU [(V.agg z),(V.agg A)] [] k=zg8 z4 zt xP yV xp L z A (fun z=>k (Qe z) []):=by kernel_rfl
abbrev zey:=∀ (β:Type),Nat→List V→List V→(Int→Option β)→Option β
def yG(β:Type)(L:Nat)(A C:List V)(z:Int→Option β):Option β:=zg8 z4 zt xP yV xp L A C z
def zeq(yG:zey)(L:Nat)(β:Type)(args:List V)(bor:Bor)(k:KK β):Option β:=match args,bor with
 | [a0,a1],[]=>aG a0 fun z=>aG a1 fun A=>yG β L z A (fun z=>k (Qe z) [])
 | _,_=>none
theorem zqw(L:Nat)(β:Type)(args:List V)(bor:Bor)(k:KK β)(r:β)(h:zeq yG L β args bor k=some r):zp zgl (zgc z4 zt xP yV xp L) L zdU args bor k=some r:=by
 unfold zeq at h
 split at h
 ·have q:=yW h; clear h; obtain ⟨z,rfl,h⟩:=q
  have q:=yW h; clear h; obtain ⟨A,rfl,h⟩:=q
  exact (zqq z4 zt xP yV xp L z A k).trans h
 ·cases h
def zf8:CF:=⟨9,[.tmp 3],(.seq (.reg [Qv 2 (tq 0),Qh 3 (Qf 0)]) (.seq (.reg [Ql 4 0 (tq 1),Qk 5 32 (tq 4),Ql 6 1 (tq 2),Qk 7 3 (tq 6),Qs 8 299 [(Qw 5),(Qw 7)],Qh 3 (tq 8)]) .ret))⟩
def zmp:Hint:=⟨[],[],[none],[],[],false,false,[]⟩
def zjj:Nat→Sh:=xW []
def zi5(yG:zey)(L:Nat):CBC:=(yD 299 (zeq yG L) noC)
def zkE{β:Type}(yG:zey)(L:Nat)(C A:List V)(z:Int→List V→Option β):Option β:=chk (0+32≤(XG A)) (chk (1+3≤(XG C)) (yG β L (XI 32 A) (XI 3 (XJ 1 C)) (fun D=>z D A)))
theorem zte{β:Type}(yG:zey)(L:Nat)(z A:List V)(k:KK β):zp zjj (zi5 yG L) L zf8 [(V.agg z),(V.ptr 0 0)] [(.live true A)] k=zkE yG L z A (fun z A=>k (Qe z) [(.live true A)]):=by kernel_rfl
abbrev zY:=∀ (β:Type),Nat→List V→List V→(Int→List V→Option β)→Option β
def zh(β:Type)(L:Nat)(A C:List V)(z:Int→List V→Option β):Option β:=zkE yG L A C z
def zgL(zh:zY)(L:Nat)(β:Type)(args:List V)(bor:Bor)(k:KK β):Option β:=match args,bor with
 | [a0,a1],[(.live true z)]=>aG a0 fun A=>aP 0 0 a1 (zh β L A z (fun A z=>k (Qe A) [(.live true z)]))
 | _,_=>none
theorem ztv(L:Nat)(β:Type)(args:List V)(bor:Bor)(k:KK β)(r:β)(h:zgL zh L β args bor k=some r):zp zjj (zi5 yG L) L zf8 args bor k=some r:=by
 unfold zgL at h
 split at h
 ·have q:=yW h; clear h; obtain ⟨z,rfl,h⟩:=q
  have q:=znz h; clear h; obtain ⟨rfl,h⟩:=q
  exact (zte yG L z _ k).trans h
 ·cases h
def zde:CC:=(.seq (.reg [Qp 18 .lss (tq 17) (tq 16)]) (.seq (.cond (tq 18) .skip (.seq (.mask (bl 0 58) (bl 288230375077966399 58)) (.exit 0))) (.seq (.block 1 (.seq (.reg [Qo 19 5 (tq 15) (tq 17),Qk 20 5 (tq 19),oo 10 (.alloc true [(.sc (.int .i64 0)),(.sc (.int .u32 0)),(.sc (.int .u16 0)),(.sc (.int .u32 0)),(.sc (.int .u32 0))]),Qm 5 (tq 10) (tq 20)]) (.seq (.seq (.dreg [] [(Ql 21 0 (tq 10),q0),(Qj 22 1 (tq 21),q0),(Qh 23 (tq 7),q0),(Qp 24 .lss (tq 22) (tq 23),q0),(Qh 25 (tq 24),q0),(⟨(some 26),false,(some (25,false)),.fieldAddr 0 (tq 10)⟩,q0),(⟨(some 27),false,(some (25,false)),.load false 1 (tq 26) false⟩,ql 10 [] []),(⟨(some 28),false,(some (25,false)),.move (tq 2) false⟩,q0),(⟨(some 29),false,(some (25,false)),.load true 5 (tq 10) false⟩,ql 10 [] []),(⟨(some 30),false,(some (25,false)),.callv (tq 28) [(Qw 29)] []⟩,qc [10] []),(⟨(some 31),false,(some (25,false)),.bin .neq (tq 27) (tq 30)⟩,q0),(oo 32 (.pick (tq 25) (Qg true) (tq 31)),q0)]) (.cond (tq 32) (.seq (.reg [Qh 6 (Qg false)]) (.seq (.mask (bl 64 58) (bl 288230375077966463 58)) .ret)) .skip)) (.seq (.seq (.reg [Ql 33 0 (tq 10),Qj 34 1 (tq 33),Qh 35 (tq 7),Qp 36 .neq (tq 34) (tq 35)]) (.cond (tq 36) (.reg [Ql 37 0 (tq 10),Qj 38 1 (tq 37),Qh 7 (tq 38),Qh 8 (Qf 0)]) .skip)) (.seq (.reg [Qh 39 (tq 8),Qp 40 .add (tq 39) (Qf 1),Qh 8 (tq 40)]) (.seq (.reg [Ql 41 1 (tq 10),Ql 42 0 (tq 41),Qj 43 1 (tq 42),Ql 44 1 (tq 10),Ql 45 1 (tq 44),Qj 46 1 (tq 45),oo 47 (.build [(.sc (.int .u32 0)),(.sc (.int .u16 0))] [(0,1,(tq 43)),(1,1,(tq 46))]),oo 11 (.alloc true [(.sc (.int .u32 0)),(.sc (.int .u16 0))]),Qm 2 (tq 11) (tq 47)]) (.seq (.seq (.reg [Qh 48 (tq 8),Qp 49 .gtr (tq 48) (Qf 8),Qh 50 (tq 49),⟨(some 51),false,(some (50,false)),.move (tq 1) false⟩,⟨(some 52),false,(some (50,false)),.load true 2 (tq 11) false⟩,⟨(some 53),false,(some (50,false)),.mlook 4 false (.sc (.bool false)) (tq 51) (tq 52)⟩,oo 54 (.pick (tq 50) (Qg true) (tq 53))]) (.cond (tq 54) (.seq (.reg [Qh 6 (Qg false)]) (.seq (.mask (bl 64 58) (bl 288230375077966463 58)) .ret)) .skip)) (.reg [Qh 55 (tq 1),Qk 56 2 (tq 11),oz (.mput 4 (tq 55) (tq 56) (Qg true))])))))))) (.reg [Qp 57 .add (tq 17) (Qf 1),Qh 17 (tq 57)]))))
def zge:CC:=(.seq (.reg [Qh 6 (Qg true)]) .ret)
def zcC:CF:=zby
def zab:Nat→Sh:=xW [(22,(.int .i64)),(27,(.int .i64)),(34,(.int .i64)),(38,(.int .i64)),(43,(.int .u32)),(46,(.int .u16)),(53,.bool)]
def y9(zh:zY)(L:Nat):CBC:=(yD 298 (zgL zh L) noC)
def zdx:St→St:=zaH 2 (bl 229766 58) (bl 288230375077966783 58)
def zcE(D E:Int)(z:List (List V))(A C:Int)(F:List (V × V))(G:List V):St:=⟨(jn 1 ((V.mp 0)::((V.fn 298 [(V.ptr 1 0)])::(jn 4 ((Qe D)::((Qe E)::(jn 6 ((V.sl 5 z)::((Qe A)::((Qe C)::(jn 40 []))))))))))),((.mp F)::((.live true G)::(gn 58 [])))⟩
def zfL(z:Bool)(A:List (V × V))(C:List V):St:=⟨(jn 6 ((V.sc (.bool z))::(jn 51 []))),((.mp A)::((.live true C)::(gn 58 [])))⟩
def zgd(z:List (V × V))(A:List V):St:=⟨(jn 58 []),((.mp z)::((.live true A)::(gn 58 [])))⟩
abbrev ziS(β:Type):Type:=Int→Int→List (List V)→Int→Int→List (V × V)→List V→Option β
def zjm{β:Type}(zh:zY)(L:Nat)(C:List (List V))(D:List (V × V))(E:List V)(A:Bool→List (V × V)→List V→Option β)(z:ziS β):Option β:=ifb (decide (((XG C:Nat):Int)>(512:Int))) (A false D E) (z (-1:Int) (0:Int) C ((XG C:Nat):Int) (0:Int) D E)
theorem zsp{β:Type}(zh:zY)(L:Nat)(C:List (List V))(z:List (V × V))(A:List V)(k:KK β):zp zab (y9 zh L) L zcC [(V.sl 5 C),(V.mp 0),(V.fn 298 [(V.ptr 1 0)])] [(.mp z),(.live true A)] k=zjm zh L C z A (fun C z A=>k (V.sc (.bool C)) [(.mp z),(.live true A)]) (fun G I D E F z A=>xz (yi zab (y9 zh L) 2 L zde) zdx L (zcE G I D E F z A) (zz 0 (xK (yi zab (y9 zh L) 2 L zge) (yR 2 (CF.res zcC) k)))):=by kernel_rfl
def zfn{β:Type}(zh:zY)(L:Nat)(O p8:Int)(I:List (List V))(J E:Int)(C:List (V × V))(M:List V)(z:Bool→List (V × V)→List V→Option β)(A:ziS β)(P:List (V × V)→List V→Option β):Option β:=ifb (decide (E<J)) (idx I E fun c0=>chk ((XG (XI 5 c0))=5∧0+5≤5) (lt (yh [(Qe (0:Int)),(Qc (0:Int)),(Qb (0:Int)),(Qc (0:Int)),(Qc (0:Int))] 0 (XI 5 c0)) fun r1=>cI .i64 r1 0 fun v2=>ifb (decide (v2<O)) (z false C M) (cI .i64 r1 0 fun v3=>chk (0+5≤(XG r1)) (zh β L (XI 5 r1) M (fun v4 D=>chk ([(XG D)]=[(XG M)]) (ifb ((v3:Int) != v4) (z false C D) (cI .i64 r1 0 fun v6=>ifb ((v6:Int) != O) (cI .i64 r1 0 fun v7=>lt (QF .i64 (((0:Int):Int)+(1:Int))) fun Q=>cI .u32 r1 1 fun v9=>cI .u16 r1 2 fun R=>lt [(Qc v9),(Qb R)] fun F=>ifb (decide (Q>(8:Int))) (z false C D) (chk (0+2≤(XG F)) (mAt 4 (V.agg (XI 2 F)) C fun S=>aB (XL S (V.sc (.bool false))) fun U=>ifb U (z false C D) (chk (0+2≤(XG F)) (zsI 4 (V.agg (XI 2 F)) (V.sc (.bool true)) C fun W=>lt (QF .i64 ((E:Int)+(1:Int))) fun X=>A v7 Q I J X W D))))) (lt (QF .i64 ((p8:Int)+(1:Int))) fun N=>cI .u32 r1 1 fun Y=>cI .u16 r1 2 fun Z=>lt [(Qc Y),(Qb Z)] fun G=>ifb (decide (N>(8:Int))) (z false C D) (chk (0+2≤(XG G)) (mAt 4 (V.agg (XI 2 G)) C fun aa=>aB (XL aa (V.sc (.bool false))) fun ab=>ifb ab (z false C D) (chk (0+2≤(XG G)) (zsI 4 (V.agg (XI 2 G)) (V.sc (.bool true)) C fun ac=>lt (QF .i64 ((E:Int)+(1:Int))) fun ad=>A O N I J ad ac D)))))))))))) (P C M)
theorem zoH{β:Type}(zh:zY)(L:Nat)(F G:Int)(C:List (List V))(D E:Int)(z:List (V × V))(A:List V)(X:St→Option β)(K:KT β):yi zab (y9 zh L) 2 L zde (zcE F G C D E z A) (zbo zdx X K)=zfn zh L F G C D E z A (fun I z A=>K .ret (zfL I z A)) (fun F G C D E z A=>X (zcE F G C D E z A)) (fun z A=>K (.exit 0) (zgd z A)):=by kernel_rfl
def zeg{β:Type}(zh:zY)(L:Nat)(A:Bool)(C:List (V × V))(D:List V)(z:Bool→List (V × V)→List V→Option β):Option β:=z A C D
theorem zmN{β:Type}(zh:zY)(L:Nat)(C:Bool)(z:List (V × V))(A:List V)(k:KK β):(zz 0 (xK (yi zab (y9 zh L) 2 L zge) (yR 2 (CF.res zcC) k))) .ret (zfL C z A)=zeg zh L C z A (fun D z A=>k (V.sc (.bool D)) [(.mp z),(.live true A)]):=by kernel_rfl
def zeD{β:Type}(zh:zY)(L:Nat)(A:List (V × V))(C:List V)(z:Bool→List (V × V)→List V→Option β):Option β:=z true A C
theorem zmR{β:Type}(zh:zY)(L:Nat)(z:List (V × V))(A:List V)(k:KK β):(zz 0 (xK (yi zab (y9 zh L) 2 L zge) (yR 2 (CF.res zcC) k))) (.exit 0) (zgd z A)=zeD zh L z A (fun C z A=>k (V.sc (.bool C)) [(.mp z),(.live true A)]):=by kernel_rfl
def zbm{β:Type}(zh:zY)(L:Nat)(z:Bool→List (V × V)→List V→Option β)(A:List (V × V)→List V→Option β):Nat→Int→Int→List (List V)→Int→Int→List (V × V)→List V→Option β
 | 0,_,_,_,_,_,_,_=>none
 | n+1,F,G,C,D,E,I,J=>zfn zh L F G C D E I J z (fun F G C D E I J=>zbm zh L z A n F G C D E I J) A
theorem zhV{β:Type}(zh:zY)(L:Nat)(K:KT β):∀ (n:Nat) (F G:Int) (C:List (List V)) (D E:Int) (z:List (V × V)) (A:List V),xz (yi zab (y9 zh L) 2 L zde) zdx n (zcE F G C D E z A) K=zbm zh L (fun I z A=>K .ret (zfL I z A)) (fun z A=>K (.exit 0) (zgd z A)) n F G C D E z A:=by
 intro n
 induction n with
 | zero=>intros; rfl
 | succ n ih=>
  intro F G C D E z A
  refine (zoH zh L F G C D E z A (fun σ=>xz (yi zab (y9 zh L) 2 L zde) zdx n σ K) K).trans ?_
  simp only [ih]
  rfl
def zfY{β:Type}(zh:zY)(L:Nat)(G:List (List V))(A:List (V × V))(C:List V)(z:Bool→List (V × V)→List V→Option β):Option β:=zjm zh L G A C z (fun I J D E F A C=>zbm zh L (fun M A C=>zeg zh L M A C z) (fun A C=>zeD zh L A C z) L I J D E F A C)
theorem zsC{β:Type}(zh:zY)(L:Nat)(z:List (List V))(A:List (V × V))(C:List V)(k:KK β):zp zab (y9 zh L) L zcC [(V.sl 5 z),(V.mp 0),(V.fn 298 [(V.ptr 1 0)])] [(.mp A),(.live true C)] k=zfY zh L z A C (fun z A C=>k (V.sc (.bool z)) [(.mp A),(.live true C)]):=by
 refine (zsp zh L z A C k).trans ?_
 unfold zfY
 first
  | (simp only [zhV,zmN,zmR]; done)
  | (simp only [zhV]; rfl)
abbrev zf1:=∀ (β:Type),Nat→List (List V)→List (V × V)→List V→(Bool→List (V × V)→List V→Option β)→Option β
def zL(β:Type)(L:Nat)(A:List (List V))(C:List (V × V))(D:List V)(z:Bool→List (V × V)→List V→Option β):Option β:=zfY zh L A C D z
def zf4(zL:zf1)(L:Nat)(β:Type)(args:List V)(bor:Bor)(k:KK β):Option β:=match args,bor with
 | [a0,a1,a2],[(.mp z),(.live true A)]=>aL 5 a0 fun C=>aM 0 a1 (aF 298 [(1,0)] a2 (zL β L C z A (fun C z A=>k (V.sc (.bool C)) [(.mp z),(.live true A)])))
 | _,_=>none
theorem zsi(L:Nat)(β:Type)(args:List V)(bor:Bor)(k:KK β)(r:β)(h:zf4 zL L β args bor k=some r):zp zab (y9 zh L) L zcC args bor k=some r:=by
 unfold zf4 at h
 split at h
 ·have q:=zaT h; clear h; obtain ⟨z,rfl,h⟩:=q
  have q:=zFC h; clear h; obtain ⟨rfl,h⟩:=q
  have q:=zBX h; clear h; obtain ⟨rfl,h⟩:=q
  exact (zsC zh L z _ _ k).trans h
 ·cases h
def zhe:CF:=⟨17,[.tmp 2],(.seq (.reg [Qv 1 (tq 0),Qh 2 (Qg false)]) (.seq (.reg [oo 4 (.makeMap),Qh 3 (tq 4)]) (.seq (.reg [Ql 5 32 (tq 1),Qj 6 1 (tq 5),Qh 7 (tq 3),oo 8 (.makeFunc 296 [(tq 1)]),Qs 9 295 [(Qw 6),(Qw 7),(Qw 8)],Qh 10 (tq 9),⟨(some 11),false,(some (10,true)),.fieldAddr 33 (tq 1)⟩,⟨(some 12),false,(some (10,true)),.load false 1 (tq 11) false⟩,⟨(some 13),false,(some (10,true)),.move (tq 3) false⟩,⟨(some 14),false,(some (10,true)),.makeFunc 298 [(tq 1)]⟩,⟨(some 15),false,(some (10,true)),.call 295 [(Qw 12),(Qw 13),(Qw 14)] []⟩,oo 16 (.pick (tq 10) (tq 15) (Qg false)),Qh 2 (tq 16)]) .ret)))⟩
def zn8:Hint:=⟨[(0,0)],[],[none],[],[],false,false,[]⟩
def zk5:Nat→Sh:=xW [(6,(.sl 5)),(12,(.sl 5))]
def zls(yS:ziL)(zL:zf1)(L:Nat):CBC:=(zD0 295 [6,12,398,22,20] (zf4 zL L) (zD0 295 [6,12,396,22,20] (zil yS L) noC))
def zma{β:Type}(yS:ziL)(zL:zf1)(L:Nat)(C:List V)(z:Bool→Option β):Option β:=cLd 5 C 32 fun D=>yS β L D ([]:List (V × V)) C (fun E F A=>chk ([0,(XG A)]=[0,(XG C)]) (ifb E (cLd 5 A 33 fun G=>zL β L G F A (fun I M J=>chk ([0,(XG J)]=[0,(XG A)]) (z I))) (z false)))
theorem zu1{β:Type}(yS:ziL)(zL:zf1)(L:Nat)(z:List V)(k:KK β):zp zk5 (zls yS zL L) L zhe [(V.agg z)] [] k=zma yS zL L z (fun z=>k (V.sc (.bool z)) []):=by kernel_rfl
abbrev yv:=∀ (β:Type),Nat→List V→(Bool→Option β)→Option β
def ya(β:Type)(L:Nat)(A:List V)(z:Bool→Option β):Option β:=zma yS zL L A z
def zfB(ya:yv)(L:Nat)(β:Type)(args:List V)(bor:Bor)(k:KK β):Option β:=match args,bor with
 | [a0],[]=>aG a0 fun z=>ya β L z (fun z=>k (V.sc (.bool z)) [])
 | _,_=>none
theorem zvh(L:Nat)(β:Type)(args:List V)(bor:Bor)(k:KK β)(r:β)(h:zfB ya L β args bor k=some r):zp zk5 (zls yS zL L) L zhe args bor k=some r:=by
 unfold zfB at h
 split at h
 ·have q:=yW h; clear h; obtain ⟨z,rfl,h⟩:=q
  exact (zu1 yS zL L z k).trans h
 ·cases h
def za8:CF:=⟨8,[.tmp 2],(.seq (.reg [Qi 2 (.const (.gs 5 []))]) (.fork (.reg [Qh 3 (tq 0),oo 4 (.nilT false (tq 3))]) (tq 4) (.seq (.reg [oo 2 (.nilS 5 7)]) (.seq (.mask (bl 4 8) (bl 128 8)) .ret)) (.seq (.reg [⟨(some 5),true,none,.buildSlice 5 0 [(.sc (.int .i64 0)),(.sc (.int .u32 0)),(.sc (.int .u16 0)),(.sc (.int .u32 0)),(.sc (.int .u32 0))] []⟩,Qh 6 (tq 0),⟨(some 7),true,none,.append 5 24 (tq 5) (tq 6)⟩,Qi 2 (tq 7)]) (.seq (.mask (bl 4 8) (bl 128 8)) .ret))))⟩
def zd6:Hint:=⟨[(0,0),(2,0),(3,3)],[(3,0),(3,2)],[none,some ((bl 4 8),(bl 128 8)),some ((bl 4 8),(bl 128 8))],[],[(2,0,[7])],false,false,[]⟩
def zcj:Nat→Sh:=xW []
def zcq(L:Nat):CBC:=noC
def zcA{β:Type}(L:Nat)(C:List (List V))(z:List (List V)→Option β):Option β:=lc C (z ([]:List (List V))) (fun h0 A=>chk ((0+XG (h0::A))*24≤xq∧0+XG (h0::A)≤xq) (chk ((XG (h0::A))≠0∨(XG (XK (h0::A)))=0) (z (xh 5 (XG (h0::A)) (XK (h0::A))))))
theorem zjh{β:Type}(L:Nat)(z:List (List V))(k:KK β):zp zcj (zcq L) L za8 [(V.sl 5 z)] [] k=zcA L z (fun z=>k (V.fr 5 z) []):=by kernel_rfl
abbrev zbp:=∀ (β:Type),Nat→List (List V)→(List (List V)→Option β)→Option β
def yn(β:Type)(L:Nat)(A:List (List V))(z:List (List V)→Option β):Option β:=zcA L A z
def zbl(yn:zbp)(L:Nat)(β:Type)(args:List V)(bor:Bor)(k:KK β):Option β:=match args,bor with
 | [a0],[]=>aL 5 a0 fun z=>yn β L z (fun z=>k (V.fr 5 z) [])
 | _,_=>none
theorem zi7(L:Nat)(β:Type)(args:List V)(bor:Bor)(k:KK β)(r:β)(h:zbl yn L β args bor k=some r):zp zcj (zcq L) L za8 args bor k=some r:=by
 unfold zbl at h
 split at h
 ·have q:=zaT h; clear h; obtain ⟨z,rfl,h⟩:=q
  exact (zjh L z k).trans h
 ·cases h
def zgv:CF:=⟨12,[.cellS 2 34 false],(.seq (.reg [oo 1 (.box false (tq 0)),oo 2 (.alloc false (rp 32 (.sc (.int .u8 0)) (rp 2 (.gs 5 []) [])))]) (.seq (.reg [Ql 3 32 (tq 1),Qj 4 1 (tq 3),⟨(some 5),true,none,.call 401 [(Qw 4)] []⟩,Ql 6 32 (tq 1),Qm 1 (tq 6) (tq 5)]) (.seq (.reg [Ql 7 33 (tq 1),Qj 8 1 (tq 7),⟨(some 9),true,none,.call 401 [(Qw 8)] []⟩,Ql 10 33 (tq 1),Qm 1 (tq 10) (tq 9)]) (.seq (.reg [oo 11 (.load true 34 (tq 1) true),Qm 34 (tq 2) (tq 11)]) .ret))))⟩
def znf:Hint:=⟨[(3,0)],[(1,2),(2,2)],[none],[],[],false,true,[]⟩
def zjY:Nat→Sh:=xW [(1,(.row [(.int .u8),(.int .u8),(.int .u8),(.int .u8),(.int .u8),(.int .u8),(.int .u8),(.int .u8),(.int .u8),(.int .u8),(.int .u8),(.int .u8),(.int .u8),(.int .u8),(.int .u8),(.int .u8),(.int .u8),(.int .u8),(.int .u8),(.int .u8),(.int .u8),(.int .u8),(.int .u8),(.int .u8),(.int .u8),(.int .u8),(.int .u8),(.int .u8),(.int .u8),(.int .u8),(.int .u8),(.int .u8),(.sl 5),(.sl 5)]))]
def zks(yn:zbp)(L:Nat):CBC:=(yD 401 (zbl yn L) noC)
abbrev zh9(β:Type):Type:=Int→Int→Int→Int→Int→Int→Int→Int→Int→Int→Int→Int→Int→Int→Int→Int→Int→Int→Int→Int→Int→Int→Int→Int→Int→Int→Int→Int→Int→Int→Int→Int→Nat→Nat→List V→List V→Option β
def zla{β:Type}(yn:zbp)(L:Nat)(z:List V)(A:zh9 β):Option β:=chk (XG z=34) (cI .u8 z 0 fun v0=>cI .u8 z 1 fun v1=>cI .u8 z 2 fun v2=>cI .u8 z 3 fun v3=>cI .u8 z 4 fun v4=>cI .u8 z 5 fun v5=>cI .u8 z 6 fun v6=>cI .u8 z 7 fun v7=>cI .u8 z 8 fun v8=>cI .u8 z 9 fun v9=>cI .u8 z 10 fun E=>cI .u8 z 11 fun F=>cI .u8 z 12 fun G=>cI .u8 z 13 fun I=>cI .u8 z 14 fun J=>cI .u8 z 15 fun M=>cI .u8 z 16 fun N=>cI .u8 z 17 fun O=>cI .u8 z 18 fun P=>cI .u8 z 19 fun Q=>cI .u8 z 20 fun R=>cI .u8 z 21 fun S=>cI .u8 z 22 fun U=>cI .u8 z 23 fun W=>cI .u8 z 24 fun X=>cI .u8 z 25 fun Y=>cI .u8 z 26 fun Z=>cI .u8 z 27 fun aa=>cI .u8 z 28 fun ab=>cI .u8 z 29 fun ac=>cI .u8 z 30 fun ad=>cI .u8 z 31 fun ae=>cL 5 z 32 fun af=>cL 5 z 33 fun ag=>yn β L af (fun C=>yn β L ag (fun D=>A v0 v1 v2 v3 v4 v5 v6 v7 v8 v9 E F G I J M N O P Q R S U W X Y Z aa ab ac ad ae (XG C) (XG D) (XK C) (XK D))))
theorem zt3{β:Type}(yn:zbp)(L:Nat)(p0:List V)(k:KK β):zp zjY (zks yn L) L zgv [(V.agg p0)] [] k=zla yn L p0 (fun ad ae af ag ah ai aj ak al am C D E F G I J M N O P Q R S U W X Y Z aa ab ac z A b0 b1=>k (V.st [(Qa ad),(Qa ae),(Qa af),(Qa ag),(Qa ah),(Qa ai),(Qa aj),(Qa ak),(Qa al),(Qa am),(Qa C),(Qa D),(Qa E),(Qa F),(Qa G),(Qa I),(Qa J),(Qa M),(Qa N),(Qa O),(Qa P),(Qa Q),(Qa R),(Qa S),(Qa U),(Qa W),(Qa X),(Qa Y),(Qa Z),(Qa aa),(Qa ab),(Qa ac),(V.own 0 0 z 5),(V.own 1 0 A 5)]) [(.live true b0),(.live true b1)]):=by kernel_rfl
abbrev zhj:=∀ (β:Type),Nat→List V→(Int→Int→Int→Int→Int→Int→Int→Int→Int→Int→Int→Int→Int→Int→Int→Int→Int→Int→Int→Int→Int→Int→Int→Int→Int→Int→Int→Int→Int→Int→Int→Int→Nat→Nat→List V→List V→Option β)→Option β
def zQ(β:Type)(L:Nat)(A:List V)(z:zh9 β):Option β:=zla yn L A z
def zhq(zQ:zhj)(L:Nat)(β:Type)(args:List V)(bor:Bor)(k:KK β):Option β:=match args,bor with
 | [a0],[]=>aG a0 fun p0=>zQ β L p0 (fun ad ae af ag ah ai aj ak al am C D E F G I J M N O P Q R S U W X Y Z aa ab ac z A b0 b1=>k (V.st [(Qa ad),(Qa ae),(Qa af),(Qa ag),(Qa ah),(Qa ai),(Qa aj),(Qa ak),(Qa al),(Qa am),(Qa C),(Qa D),(Qa E),(Qa F),(Qa G),(Qa I),(Qa J),(Qa M),(Qa N),(Qa O),(Qa P),(Qa Q),(Qa R),(Qa S),(Qa U),(Qa W),(Qa X),(Qa Y),(Qa Z),(Qa aa),(Qa ab),(Qa ac),(V.own 0 0 z 5),(V.own 1 0 A 5)]) [(.live true b0),(.live true b1)])
 | _,_=>none
theorem zuv(L:Nat)(β:Type)(args:List V)(bor:Bor)(k:KK β)(r:β)(h:zhq zQ L β args bor k=some r):zp zjY (zks yn L) L zgv args bor k=some r:=by
 unfold zhq at h
 split at h
 ·have q:=yW h; clear h; obtain ⟨z,rfl,h⟩:=q
  exact (zt3 yn L z k).trans h
 ·cases h
def zii:CF:=⟨17,[.tmp 4],(.seq (.reg [Qv 2 (tq 0),Qv 3 (tq 1),Qh 4 (Qg false)]) (.seq (.reg [Ql 5 0 (tq 2),Qj 6 1 (tq 5),Ql 7 0 (tq 3),Qj 8 1 (tq 7),Qp 9 .eql (tq 6) (tq 8),Qh 10 (tq 9),⟨(some 11),false,(some (10,true)),.fieldAddr 1 (tq 2)⟩,⟨(some 12),false,(some (10,true)),.load false 1 (tq 11) false⟩,⟨(some 13),false,(some (10,true)),.fieldAddr 1 (tq 3)⟩,⟨(some 14),false,(some (10,true)),.load false 1 (tq 13) false⟩,⟨(some 15),false,(some (10,true)),.bin .eql (tq 12) (tq 14)⟩,oo 16 (.pick (tq 10) (tq 15) (Qg false)),Qh 4 (tq 16)]) .ret))⟩
def zpz:Hint:=⟨[],[],[none],[],[],false,false,[]⟩
def zmf:Nat→Sh:=xW [(6,(.int .u32)),(8,(.int .u32)),(12,(.int .u16)),(14,(.int .u16))]
def zmh(L:Nat):CBC:=noC
def zni{β:Type}(L:Nat)(A C:List V)(z:Bool→Option β):Option β:=cI .u32 A 0 fun D=>cI .u32 C 0 fun E=>ifb ((D:Int)==E) (cI .u16 A 1 fun F=>cI .u16 C 1 fun G=>z ((F:Int)==G)) (z false)
theorem zvD{β:Type}(L:Nat)(z A:List V)(k:KK β):zp zmf (zmh L) L zii [(V.agg z),(V.agg A)] [] k=zni L z A (fun z=>k (V.sc (.bool z)) []):=by kernel_rfl
abbrev zjv:=∀ (β:Type),Nat→List V→List V→(Bool→Option β)→Option β
def zX(β:Type)(L:Nat)(A C:List V)(z:Bool→Option β):Option β:=zni L A C z
def zjE(zX:zjv)(L:Nat)(β:Type)(args:List V)(bor:Bor)(k:KK β):Option β:=match args,bor with
 | [a0,a1],[]=>aG a0 fun z=>aG a1 fun A=>zX β L z A (fun z=>k (V.sc (.bool z)) [])
 | _,_=>none
theorem zwe(L:Nat)(β:Type)(args:List V)(bor:Bor)(k:KK β)(r:β)(h:zjE zX L β args bor k=some r):zp zmf (zmh L) L zii args bor k=some r:=by
 unfold zjE at h
 split at h
 ·have q:=yW h; clear h; obtain ⟨z,rfl,h⟩:=q
  have q:=yW h; clear h; obtain ⟨A,rfl,h⟩:=q
  exact (zvD L z A k).trans h
 ·cases h
def zgT:CF:=⟨8,[.tmp 3],(.seq (.reg [Qv 2 (tq 0),Qh 3 (Qg false)]) (.seq (.reg [Ql 4 1 (tq 2),Qk 5 3 (tq 4),Qk 6 3 (tq 1),Qs 7 404 [(Qw 5),(Qw 6)],Qh 3 (tq 7)]) .ret))⟩
def znt:Hint:=⟨[],[],[none],[],[],false,false,[]⟩
def zj5:Nat→Sh:=xW []
def zj3(zX:zjv)(L:Nat):CBC:=(yD 404 (zjE zX L) noC)
def zlg{β:Type}(zX:zjv)(L:Nat)(C A:List V)(z:Bool→List V→Option β):Option β:=chk (1+3≤(XG C)) (chk (0+3≤(XG A)) (zX β L (XI 3 (XJ 1 C)) (XI 3 A) (fun D=>z D A)))
theorem ztR{β:Type}(zX:zjv)(L:Nat)(z A:List V)(k:KK β):zp zj5 (zj3 zX L) L zgT [(V.agg z),(V.ptr 0 0)] [(.live true A)] k=zlg zX L z A (fun z A=>k (V.sc (.bool z)) [(.live true A)]):=by kernel_rfl
abbrev z6:=∀ (β:Type),Nat→List V→List V→(Bool→List V→Option β)→Option β
def xi(β:Type)(L:Nat)(A C:List V)(z:Bool→List V→Option β):Option β:=zlg zX L A C z
def zhb(xi:z6)(L:Nat)(β:Type)(args:List V)(bor:Bor)(k:KK β):Option β:=match args,bor with
 | [a0,a1],[(.live true z)]=>aG a0 fun A=>aP 0 0 a1 (xi β L A z (fun A z=>k (V.sc (.bool A)) [(.live true z)]))
 | _,_=>none
theorem ztI(L:Nat)(β:Type)(args:List V)(bor:Bor)(k:KK β)(r:β)(h:zhb xi L β args bor k=some r):zp zj5 (zj3 zX L) L zgT args bor k=some r:=by
 unfold zhb at h
 split at h
 ·have q:=yW h; clear h; obtain ⟨z,rfl,h⟩:=q
  have q:=znz h; clear h; obtain ⟨rfl,h⟩:=q
  exact (ztR zX L z _ k).trans h
 ·cases h
def xZ:CC:=(.seq (.reg [Qp 9 .lss (tq 8) (tq 7)]) (.seq (.cond (tq 9) .skip (.seq (.mask (bl 0 19) (bl 458703 19)) (.exit 0))) (.seq (.block 1 (.seq (.reg [Qh 10 (tq 8),Qh 5 (tq 10)]) (.seq (.reg [Qh 11 (tq 1),Qh 12 (tq 0),Qh 13 (tq 5),Qo 14 5 (tq 12) (tq 13),Qk 15 5 (tq 14),oo 16 (.callv (tq 11) [(Qw 15)] [])]) (.cond (tq 16) (.seq (.reg [Qh 17 (tq 5),Qh 4 (tq 17)]) (.seq (.mask (bl 16 19) (bl 458719 19)) .ret)) .skip)))) (.reg [Qp 18 .add (tq 8) (Qf 1),Qh 8 (tq 18)]))))
def zaB:CC:=(.seq (.reg [Qh 4 (Qf (-1))]) .ret)
def xJ:CF:=⟨19,[.tmp 4],(.seq (.reg [Qh 4 (Qf 0)]) (.seq (.seq (.reg [Qh 6 (tq 0),Qr 7 (tq 6),Qh 8 (Qf 0)]) (.block 0 (.loop (bl 387 19) (bl 458703 19) xZ))) zaB))⟩
def zdp:Hint:=⟨[],[],[none,some ((bl 387 19),(bl 458703 19)),none,some ((bl 0 19),(bl 458703 19)),none,none,some ((bl 16 19),(bl 458719 19)),none],[],[],false,false,[]⟩
def xy:Nat→Sh:=xW []
def yz(xi:z6)(L:Nat):CBC:=(yD 403 (zhb xi L) noC)
def zau:St→St:=zaH 2 (bl 387 19) (bl 458703 19)
def zae(z:Nat)(A C:Int)(D E:List V):St:=⟨((V.own 0 0 z 5)::((V.fn 403 [(V.ptr 1 0)])::(jn 5 ((Qe A)::((Qe C)::(jn 10 [])))))),((.live true D)::((.live true E)::(gn 19 [])))⟩
def zbj(z:Int)(A C:List V):St:=⟨(jn 4 ((Qe z)::(jn 14 []))),((.live true A)::((.live true C)::(gn 19 [])))⟩
def zbs(z A:List V):St:=⟨(jn 19 []),((.live true z)::((.live true A)::(gn 19 [])))⟩
def zbW{β:Type}(xi:z6)(L:Nat)(A:Nat)(C D:List V)(z:Nat→Int→Int→List V→List V→Option β):Option β:=z A ((A:Nat):Int) (0:Int) C D
theorem zhS{β:Type}(xi:z6)(L:Nat)(z:Nat)(A C:List V)(k:KK β):zp xy (yz xi L) L xJ [(V.own 0 0 z 5),(V.fn 403 [(V.ptr 1 0)])] [(.live true A),(.live true C)] k=zbW xi L z A C (fun z D E A C=>xz (yi xy (yz xi L) 2 L xZ) zau L (zae z D E A C) (zz 0 (xK (yi xy (yz xi L) 2 L zaB) (yR 2 (CF.res xJ) k)))):=by kernel_rfl
def zbt{β:Type}(xi:z6)(L:Nat)(E:Nat)(J z:Int)(C F:List V)(D:Int→List V→List V→Option β)(A:Nat→Int→Int→List V→List V→Option β)(G:List V→List V→Option β):Option β:=ifb (decide (z<J)) (chk (0≤z∧z<((E:Nat):Int)) (chk ((0+((XH z)*5))+5≤(XG C)) (xi β L (XI 5 (XJ (0+((XH z)*5)) C)) F (fun M I=>chk ([(XG I)]=[(XG F)]) (ifb M (D z C I) (lt (QF .i64 ((z:Int)+(1:Int))) fun N=>A E J N C I)))))) (G C F)
theorem zgg{β:Type}(xi:z6)(L:Nat)(C:Nat)(D E:Int)(z A:List V)(X:St→Option β)(K:KT β):yi xy (yz xi L) 2 L xZ (zae C D E z A) (zbo zau X K)=zbt xi L C D E z A (fun F z A=>K .ret (zbj F z A)) (fun C D E z A=>X (zae C D E z A)) (fun z A=>K (.exit 0) (zbs z A)):=by kernel_rfl
def zcO{β:Type}(xi:z6)(L:Nat)(A:Int)(C D:List V)(z:Int→List V→List V→Option β):Option β:=z A C D
theorem zfy{β:Type}(xi:z6)(L:Nat)(C:Int)(z A:List V)(k:KK β):(zz 0 (xK (yi xy (yz xi L) 2 L zaB) (yR 2 (CF.res xJ) k))) .ret (zbj C z A)=zcO xi L C z A (fun D z A=>k (Qe D) [(.live true z),(.live true A)]):=by kernel_rfl
def zcX{β:Type}(xi:z6)(L:Nat)(A C:List V)(z:Int→List V→List V→Option β):Option β:=z (-1:Int) A C
theorem zfE{β:Type}(xi:z6)(L:Nat)(z A:List V)(k:KK β):(zz 0 (xK (yi xy (yz xi L) 2 L zaB) (yR 2 (CF.res xJ) k))) (.exit 0) (zbs z A)=zcX xi L z A (fun C z A=>k (Qe C) [(.live true z),(.live true A)]):=by kernel_rfl
def y4{β:Type}(xi:z6)(L:Nat)(z:Int→List V→List V→Option β)(A:List V→List V→Option β):Nat→Nat→Int→Int→List V→List V→Option β
 | 0,_,_,_,_,_=>none
 | n+1,C,D,E,F,G=>zbt xi L C D E F G z (fun C D E F G=>y4 xi L z A n C D E F G) A
theorem zcM{β:Type}(xi:z6)(L:Nat)(K:KT β):∀ (n:Nat) (C:Nat) (D E:Int) (z A:List V),xz (yi xy (yz xi L) 2 L xZ) zau n (zae C D E z A) K=y4 xi L (fun F z A=>K .ret (zbj F z A)) (fun z A=>K (.exit 0) (zbs z A)) n C D E z A:=by
 intro n
 induction n with
 | zero=>intros; rfl
 | succ n ih=>
  intro C D E z A
  refine (zgg xi L C D E z A (fun σ=>xz (yi xy (yz xi L) 2 L xZ) zau n σ K) K).trans ?_
  simp only [ih]
  rfl
def zaM{β:Type}(xi:z6)(L:Nat)(D:Nat)(z A:List V)(C:Int→List V→List V→Option β):Option β:=zbW xi L D z A (fun D E F z A=>y4 xi L (fun G z A=>zcO xi L G z A C) (fun z A=>zcX xi L z A C) L D E F z A)
theorem zhz{β:Type}(xi:z6)(L:Nat)(z:Nat)(A C:List V)(k:KK β):zp xy (yz xi L) L xJ [(V.own 0 0 z 5),(V.fn 403 [(V.ptr 1 0)])] [(.live true A),(.live true C)] k=zaM xi L z A C (fun D A C=>k (Qe D) [(.live true A),(.live true C)]):=by
 refine (zhS xi L z A C k).trans ?_
 unfold zaM
 first
  | (simp only [zcM,zfy,zfE]; done)
  | (simp only [zcM]; rfl)
abbrev zaN:=∀ (β:Type),Nat→Nat→List V→List V→(Int→List V→List V→Option β)→Option β
def ym(β:Type)(L:Nat)(A:Nat)(C D:List V)(z:Int→List V→List V→Option β):Option β:=zaM xi L A C D z
def zaP(ym:zaN)(L:Nat)(β:Type)(args:List V)(bor:Bor)(k:KK β):Option β:=match args,bor with
 | [a0,a1],[(.live true z),(.live true A)]=>aO0 0 5 a0 fun C=>aF 403 [(1,0)] a1 (ym β L C z A (fun D z A=>k (Qe D) [(.live true z),(.live true A)]))
 | _,_=>none
theorem zhM(L:Nat)(β:Type)(args:List V)(bor:Bor)(k:KK β)(r:β)(h:zaP ym L β args bor k=some r):zp xy (yz xi L) L xJ args bor k=some r:=by
 unfold zaP at h
 split at h
 ·have q:=zhO h; clear h; obtain ⟨z,rfl,h⟩:=q
  have q:=zBX h; clear h; obtain ⟨rfl,h⟩:=q
  exact (zhz xi L z _ _ k).trans h
 ·cases h
def zie:CF:=⟨8,[.tmp 4],(.seq (.reg [Qv 3 (tq 1),Qh 4 (Qf 0)]) (.seq (.reg [Qh 5 (tq 0),oo 6 (.makeFunc 403 [(tq 3)]),Qs 7 402 [((tq 5),2),((tq 6),2)],Qh 4 (tq 7)]) .ret))⟩
def zpv:Hint:=⟨[(1,2)],[],[none],[],[],false,false,[]⟩
def zl5:Nat→Sh:=xW []
def zl2(ym:zaN)(L:Nat):CBC:=(yD 402 (zaP ym L) noC)
def znF{β:Type}(ym:zaN)(L:Nat)(A:Nat)(C D:List V)(z:Int→List V→Option β):Option β:=ym β L A D C (fun F E G=>chk ([(XG E),(XG G)]=[(XG D),(XG C)]) (z F E))
theorem zwk{β:Type}(ym:zaN)(L:Nat)(A:Nat)(C z:List V)(k:KK β):zp zl5 (zl2 ym L) L zie [(V.own 0 0 A 5),(V.agg C)] [(.live true z)] k=znF ym L A C z (fun D z=>k (Qe D) [(.live true z)]):=by kernel_rfl
abbrev zjq:=∀ (β:Type),Nat→Nat→List V→List V→(Int→List V→Option β)→Option β
def yT(β:Type)(L:Nat)(A:Nat)(C D:List V)(z:Int→List V→Option β):Option β:=znF ym L A C D z
def zjJ(yT:zjq)(L:Nat)(β:Type)(args:List V)(bor:Bor)(k:KK β):Option β:=match args,bor with
 | [a0,a1],[(.live true z)]=>aO0 0 5 a0 fun A=>aG a1 fun C=>yT β L A C z (fun D z=>k (Qe D) [(.live true z)])
 | _,_=>none
theorem zvq(L:Nat)(β:Type)(args:List V)(bor:Bor)(k:KK β)(r:β)(h:zjJ yT L β args bor k=some r):zp zl5 (zl2 ym L) L zie args bor k=some r:=by
 unfold zjJ at h
 split at h
 ·have q:=zhO h; clear h; obtain ⟨z,rfl,h⟩:=q
  have q:=yW h; clear h; obtain ⟨A,rfl,h⟩:=q
  exact (zwk ym L z A _ k).trans h
 ·cases h
def zci:CC:=(.seq (.seq (.reg [Qh 24 (tq 7),Qh 25 (tq 0),Qr 26 (tq 25),Qp 27 .lss (tq 24) (tq 26),Qh 28 (tq 27),⟨(some 29),false,(some (28,true)),.move (tq 0) false⟩,⟨(some 30),false,(some (28,true)),.move (tq 7) false⟩,⟨(some 31),false,(some (28,true)),.indexAddrS 5 (tq 29) (tq 30)⟩,⟨(some 32),false,(some (28,true)),.fieldAddr 0 (tq 31)⟩,⟨(some 33),false,(some (28,true)),.load false 1 (tq 32) false⟩,⟨(some 34),false,(some (28,true)),.move (tq 1) false⟩,⟨(some 35),false,(some (28,true)),.bin .eql (tq 33) (tq 34)⟩,oo 36 (.pick (tq 28) (tq 35) (Qg false))]) (.cond (tq 36) .skip (.seq (.mask (bl 192 41) (bl 2198956146687 41)) (.exit 2)))) (.block 3 (.reg [Qh 37 (tq 7),Qp 38 .add (tq 37) (Qf 1),Qh 7 (tq 38)])))
def zg7:CC:=(.seq (.reg [Qh 39 (tq 6),Qh 40 (tq 7),Qh 4 (tq 39),Qh 5 (tq 40)]) .ret)
def zc8:CC:=(.seq (.seq (.reg [Qh 8 (tq 6),Qh 9 (tq 0),Qr 10 (tq 9),Qp 11 .lss (tq 8) (tq 10),Qh 12 (tq 11),⟨(some 13),false,(some (12,true)),.move (tq 0) false⟩,⟨(some 14),false,(some (12,true)),.move (tq 6) false⟩,⟨(some 15),false,(some (12,true)),.indexAddrS 5 (tq 13) (tq 14)⟩,⟨(some 16),false,(some (12,true)),.fieldAddr 0 (tq 15)⟩,⟨(some 17),false,(some (12,true)),.load false 1 (tq 16) false⟩,⟨(some 18),false,(some (12,true)),.move (tq 1) false⟩,⟨(some 19),false,(some (12,true)),.bin .lss (tq 17) (tq 18)⟩,oo 20 (.pick (tq 12) (tq 19) (Qg false))]) (.cond (tq 20) .skip (.seq (.mask (bl 67 41) (bl 2199023254527 41)) (.exit 0)))) (.block 1 (.reg [Qh 21 (tq 6),Qp 22 .add (tq 21) (Qf 1),Qh 6 (tq 22)])))
def zfj:CC:=(.seq (.reg [Qh 23 (tq 6),Qh 7 (tq 23)]) (.seq (.block 2 (.loop (bl 195 41) (bl 2198956146687 41) zci)) zg7))
def zaL:CF:=⟨41,[.tmp 4,.tmp 5],(.seq (.reg [Qh 4 (Qf 0),Qh 5 (Qf 0)]) (.seq (.reg [Qh 6 (Qf 0)]) (.seq (.block 0 (.loop (bl 67 41) (bl 2199023254527 41) zc8)) zfj)))⟩
def znM:Hint:=⟨[],[],[none,some ((bl 67 41),(bl 2199023254527 41)),none,some ((bl 67 41),(bl 2199023254527 41)),none,none,some ((bl 195 41),(bl 2198956146687 41)),none,some ((bl 192 41),(bl 2198956146687 41)),none,none],[],[],false,false,[]⟩
def yO:Nat→Sh:=xW [(17,(.int .i64)),(33,(.int .i64))]
def yN(L:Nat):CBC:=noC
def zeP:St→St:=zaH 1 (bl 67 41) (bl 2199023254527 41)
def zdV:St→St:=zaH 1 (bl 195 41) (bl 2198956146687 41)
def zdJ(z:Nat)(A C:Int)(D:List V):St:=⟨((V.own 0 0 z 5)::((Qe A)::(jn 4 ((Qe C)::(jn 34 []))))),((.live true D)::(gn 41 []))⟩
def zeU(z:Nat)(A C:Int)(D:List V):St:=⟨((V.own 0 0 z 5)::((Qe A)::(jn 4 ((Qe C)::(jn 34 []))))),((.live true D)::(gn 41 []))⟩
def zdf(z:Nat)(A C D:Int)(E:List V):St:=⟨((V.own 0 0 z 5)::((Qe A)::(jn 4 ((Qe C)::((Qe D)::(jn 33 [])))))),((.live true E)::(gn 41 []))⟩
def zhG(z A:Int)(C:List V):St:=⟨(jn 6 ((Qe z)::((Qe A)::(jn 33 [])))),((.live true C)::(gn 41 []))⟩
def zk7{β:Type}(L:Nat)(A:Nat)(C:Int)(D:List V)(z:Nat→Int→Int→List V→Option β):Option β:=z A C (0:Int) D
theorem ztS{β:Type}(L:Nat)(z:Nat)(A:Int)(C:List V)(k:KK β):zp yO (yN L) L zaL [(V.own 0 0 z 5),(Qe A)] [(.live true C)] k=zk7 L z A C (fun z A D C=>xz (yi yO (yN L) 1 L zc8) zeP L (zdJ z A D C) (zz 0 (xK (yi yO (yN L) 1 L zfj) (yR 1 (CF.res zaL) k)))):=by kernel_rfl
def zhJ{β:Type}(L:Nat)(z:Nat)(E A:Int)(F:List V)(C:Nat→Int→Int→List V→Option β)(D:Nat→Int→Int→List V→Option β):Option β:=ifb (decide (A<((z:Nat):Int))) (chk (0≤A∧A<((z:Nat):Int)) (cI .i64 F ((0+((XH A)*5))+0) fun G=>ifb (decide (G<E)) (lt (QF .i64 ((A:Int)+(1:Int))) fun I=>C z E I F) (D z E A F))) (D z E A F)
theorem zrC{β:Type}(L:Nat)(z:Nat)(A C:Int)(D:List V)(X:St→Option β)(K:KT β):yi yO (yN L) 1 L zc8 (zdJ z A C D) (zbo zeP X K)=zhJ L z A C D (fun z A C D=>X (zdJ z A C D)) (fun z A C D=>K (.exit 0) (zeU z A C D)):=by kernel_rfl
def zf9{β:Type}(L:Nat)(A:Nat)(D C:Int)(E:List V)(z:Nat→Int→Int→Int→List V→Option β):Option β:=z A D C C E
theorem zp0{β:Type}(L:Nat)(z:Nat)(A C:Int)(D:List V)(k:KK β):(zz 0 (xK (yi yO (yN L) 1 L zfj) (yR 1 (CF.res zaL) k))) (.exit 0) (zeU z A C D)=zf9 L z A C D (fun z A C E D=>xz (yi yO (yN L) 1 L zci) zdV L (zdf z A C E D) (zz 2 (xK (yi yO (yN L) 1 L zg7) (yR 1 (CF.res zaL) k)))):=by kernel_rfl
def zgi{β:Type}(L:Nat)(C:Nat)(G F A:Int)(E:List V)(z:Nat→Int→Int→Int→List V→Option β)(D:Int→Int→List V→Option β):Option β:=ifb (decide (A<((C:Nat):Int))) (chk (0≤A∧A<((C:Nat):Int)) (cI .i64 E ((0+((XH A)*5))+0) fun I=>ifb ((I:Int)==G) (lt (QF .i64 ((A:Int)+(1:Int))) fun J=>z C G F J E) (D F A E))) (D F A E)
theorem zpC{β:Type}(L:Nat)(z:Nat)(E A C:Int)(D:List V)(X:St→Option β)(K:KT β):yi yO (yN L) 1 L zci (zdf z E A C D) (zbo zdV X K)=zgi L z E A C D (fun z E A C D=>X (zdf z E A C D)) (fun A C D=>K (.exit 2) (zhG A C D)):=by kernel_rfl
def zjw{β:Type}(L:Nat)(A C:Int)(D:List V)(z:Int→Int→List V→Option β):Option β:=z A C D
theorem zoM{β:Type}(L:Nat)(D E:Int)(z:List V)(k:KK β):(zz 2 (xK (yi yO (yN L) 1 L zg7) (yR 1 (CF.res zaL) k))) (.exit 2) (zhG D E z)=zjw L D E z (fun A C z=>k (V.tup [(Qe A),(Qe C)]) [(.live true z)]):=by kernel_rfl
def zdl{β:Type}(L:Nat)(z:Nat→Int→Int→List V→Option β):Nat→Nat→Int→Int→List V→Option β
 | 0,_,_,_,_=>none
 | n+1,A,C,D,E=>zhJ L A C D E (fun A C D E=>zdl L z n A C D E) z
theorem zkt{β:Type}(L:Nat)(K:KT β):∀ (n:Nat) (z:Nat) (A C:Int) (D:List V),xz (yi yO (yN L) 1 L zc8) zeP n (zdJ z A C D) K=zdl L (fun z A C D=>K (.exit 0) (zeU z A C D)) n z A C D:=by
 intro n
 induction n with
 | zero=>intros; rfl
 | succ n ih=>
  intro z A C D
  refine (zrC L z A C D (fun σ=>xz (yi yO (yN L) 1 L zc8) zeP n σ K) K).trans ?_
  simp only [ih]
  rfl
def zcP{β:Type}(L:Nat)(z:Int→Int→List V→Option β):Nat→Nat→Int→Int→Int→List V→Option β
 | 0,_,_,_,_,_=>none
 | n+1,A,C,D,E,F=>zgi L A C D E F (fun A C D E F=>zcP L z n A C D E F) z
theorem ziX{β:Type}(L:Nat)(K:KT β):∀ (n:Nat) (z:Nat) (E A C:Int) (D:List V),xz (yi yO (yN L) 1 L zci) zdV n (zdf z E A C D) K=zcP L (fun A C D=>K (.exit 2) (zhG A C D)) n z E A C D:=by
 intro n
 induction n with
 | zero=>intros; rfl
 | succ n ih=>
  intro z E A C D
  refine (zpC L z E A C D (fun σ=>xz (yi yO (yN L) 1 L zci) zdV n σ K) K).trans ?_
  simp only [ih]
  rfl
def zdG{β:Type}(L:Nat)(z:Nat)(E A:Int)(C:List V)(D:Int→Int→List V→Option β):Option β:=zf9 L z E A C (fun z E A F C=>zcP L (fun A F C=>zjw L A F C D) L z E A F C)
theorem zpA{β:Type}(L:Nat)(z:Nat)(C D:Int)(A:List V)(k:KK β):(zz 0 (xK (yi yO (yN L) 1 L zfj) (yR 1 (CF.res zaL) k))) (.exit 0) (zeU z C D A)=zdG L z C D A (fun E F A=>k (V.tup [(Qe E),(Qe F)]) [(.live true A)]):=by
 refine (zp0 L z C D A k).trans ?_
 unfold zdG
 first
  | (simp only [ziX,zoM]; done)
  | (simp only [ziX]; rfl)
def zhr{β:Type}(L:Nat)(z:Nat)(A:Int)(C:List V)(D:Int→Int→List V→Option β):Option β:=zk7 L z A C (fun z A E C=>zdl L (fun z A E C=>zdG L z A E C D) L z A E C)
theorem zt5{β:Type}(L:Nat)(z:Nat)(C:Int)(A:List V)(k:KK β):zp yO (yN L) L zaL [(V.own 0 0 z 5),(Qe C)] [(.live true A)] k=zhr L z C A (fun D E A=>k (V.tup [(Qe D),(Qe E)]) [(.live true A)]):=by
 refine (ztS L z C A k).trans ?_
 unfold zhr
 first
  | (simp only [zkt,zpA]; done)
  | (simp only [zkt]; rfl)
abbrev zao:=∀ (β:Type),Nat→Nat→Int→List V→(Int→Int→List V→Option β)→Option β
def zk(β:Type)(L:Nat)(A:Nat)(C:Int)(D:List V)(z:Int→Int→List V→Option β):Option β:=zhr L A C D z
def zho(zk:zao)(L:Nat)(β:Type)(args:List V)(bor:Bor)(k:KK β):Option β:=match args,bor with
 | [a0,a1],[(.live true z)]=>aO0 0 5 a0 fun D=>aI .i64 a1 fun E=>zk β L D E z (fun A C z=>k (V.tup [(Qe A),(Qe C)]) [(.live true z)])
 | _,_=>none
theorem zuu(L:Nat)(β:Type)(args:List V)(bor:Bor)(k:KK β)(r:β)(h:zho zk L β args bor k=some r):zp yO (yN L) L zaL args bor k=some r:=by
 unfold zho at h
 split at h
 ·have q:=zhO h; clear h; obtain ⟨z,rfl,h⟩:=q
  have q:=yB h; clear h; obtain ⟨A,rfl,h⟩:=q
  exact (zt5 L z A _ k).trans h
 ·cases h
abbrev yA:=∀ (β:Type),Nat→Nat→Int→Nat→List V→List V→(List (List V)→Nat→List V→Option β)→Option β
def xb(β:Type)(L:Nat)(A:Nat)(F:Int)(C:Nat)(D E:List V)(z:List (List V)→Nat→List V→Option β):Option β:=chk (zBB 5 24 A C F D E) (z (zoA 5 A C (XH F) D E) (XG D) E)
def zbb(xb:yA)(L:Nat)(β:Type)(args:List V)(bor:Bor)(k:KK β):Option β:=match args,bor with
 | [a0,a1,a2],[(.live true C),(.live true D)]=>aO0 0 5 a0 fun z=>aI .i64 a1 fun E=>aO0 1 5 a2 fun A=>xb β L z E A C D (fun rr dd vv=>k (V.fr 5 rr) [.dead dd,.live true vv])
 | _,_=>none
def za2:CF:=⟨33,[.tmp 6],(.seq (.reg [Qi 6 (.const (.gs 5 []))]) (.seq (.reg [Qh 8 (tq 0),Qh 9 (tq 1),Qh 10 (tq 2),Qh 11 (tq 0),Qr 12 (tq 11),oo 13 (.sliceS 5 (tq 8) (some (tq 9)) (some (tq 10)) (some (tq 12)))]) (.seq (.seq (.reg [Qh 14 (tq 1),Qh 15 (tq 2),Qp 16 .eql (tq 14) (tq 15)]) (.cond (tq 16) (.seq (.reg [Qi 17 (tq 0),Qi 6 (tq 17)]) .ret) .skip)) (.seq (.reg [Qh 18 (tq 0),Qr 19 (tq 18),Qh 7 (tq 19)]) (.seq (.dreg [] [(Qh 20 (tq 0),q0),(Qh 21 (tq 1),q0),(oo 22 (.sliceC 5 (tq 20) (some (tq 21))),q0),(Qh 23 (tq 0),q0),(Qh 24 (tq 2),q0),(oo 25 (.sliceS 5 (tq 23) (some (tq 24)) none none),q0),(oo 26 (.append 5 24 (tq 22) (tq 25)),q0),(Qi 0 (tq 26),q0)]) (.seq (.reg [Qh 27 (tq 0),Qh 28 (tq 0),Qr 29 (tq 28),Qh 30 (tq 7),oo 31 (.sliceS 5 (tq 27) (some (tq 29)) (some (tq 30)) none),oz (.clear 5 [(.sc (.int .i64 0)),(.sc (.int .u32 0)),(.sc (.int .u16 0)),(.sc (.int .u32 0)),(.sc (.int .u32 0))] (tq 31))]) (.seq (.reg [Qi 32 (tq 0),Qi 6 (tq 32)]) .ret)))))))⟩
def zdS:Hint:=⟨[(0,0),(3,0),(3,1),(5,2),(5,7),(7,0),(7,1)],[],[none,none,none],[],[],false,false,[]⟩
def zcb:Nat→Sh:=xW []
def zca(L:Nat):CBC:=noC
def zco{β:Type}(L:Nat)(z:Nat)(C A:Int)(D:List V)(E:Nat→List V→Option β):Option β:=chk (0≤((z:Nat):Int)∧((z:Nat):Int)≤((z:Nat):Int)) (chk (0≤A∧A≤(((XH ((z:Nat):Int)):Nat):Int)) (chk (0≤C∧C≤(((XH A):Nat):Int)) (ifb (decide ((XH ((z:Nat):Int))=(XH C))) (ifb ((C:Int)==A) (E z D) (chk (0≤C∧C≤((z:Nat):Int)) (chk (0≤A∧A≤((z:Nat):Int)) (chk ((XH C)+XG (xh 5 (z-(XH A)) (XJ (0+((XH A)*5)) D))≤z) (lt (yh D ((XH C)*5) (XK (xh 5 (z-(XH A)) (XJ (0+((XH A)*5)) D)))) fun F=>chk (0≤((z:Nat):Int)∧((z:Nat):Int)≤((z:Nat):Int)) (chk (0≤((((XH C)+XG (xh 5 (z-(XH A)) (XJ (0+((XH A)*5)) D))):Nat):Int)∧((((XH C)+XG (xh 5 (z-(XH A)) (XJ (0+((XH A)*5)) D))):Nat):Int)≤(((XH ((z:Nat):Int)):Nat):Int)) (lt (yh F (0+((XH ((((XH C)+XG (xh 5 (z-(XH A)) (XJ (0+((XH A)*5)) D))):Nat):Int))*5)) (XK (We ((XH ((z:Nat):Int))-(XH ((((XH C)+XG (xh 5 (z-(XH A)) (XJ (0+((XH A)*5)) D))):Nat):Int))) [(Qe (0:Int)),(Qc (0:Int)),(Qb (0:Int)),(Qc (0:Int)),(Qc (0:Int))]))) fun r1=>E ((XH C)+XG (xh 5 (z-(XH A)) (XJ (0+((XH A)*5)) D))) r1))))))) (ifb ((C:Int)==A) (E z D) (chk (0≤C∧C≤((z:Nat):Int)) (chk (0≤A∧A≤((z:Nat):Int)) (chk ((XH C)+XG (xh 5 (z-(XH A)) (XJ (0+((XH A)*5)) D))≤z) (lt (yh D ((XH C)*5) (XK (xh 5 (z-(XH A)) (XJ (0+((XH A)*5)) D)))) fun r2=>chk (0≤((z:Nat):Int)∧((z:Nat):Int)≤((z:Nat):Int)) (chk (0≤((((XH C)+XG (xh 5 (z-(XH A)) (XJ (0+((XH A)*5)) D))):Nat):Int)∧((((XH C)+XG (xh 5 (z-(XH A)) (XJ (0+((XH A)*5)) D))):Nat):Int)≤(((XH ((z:Nat):Int)):Nat):Int)) (lt (yh r2 (0+((XH ((((XH C)+XG (xh 5 (z-(XH A)) (XJ (0+((XH A)*5)) D))):Nat):Int))*5)) (XK (We ((XH ((z:Nat):Int))-(XH ((((XH C)+XG (xh 5 (z-(XH A)) (XJ (0+((XH A)*5)) D))):Nat):Int))) [(Qe (0:Int)),(Qc (0:Int)),(Qb (0:Int)),(Qc (0:Int)),(Qc (0:Int))]))) fun r3=>E ((XH C)+XG (xh 5 (z-(XH A)) (XJ (0+((XH A)*5)) D))) r3))))))))))
theorem ziM{β:Type}(L:Nat)(z:Nat)(C D:Int)(A:List V)(k:KK β):zp zcb (zca L) L za2 [(V.own 0 0 z 5),(Qe C),(Qe D)] [(.live true A)] k=zco L z C D A (fun z A=>k (V.own 0 0 z 5) [(.live true A)]):=by kernel_rfl
abbrev xA:=∀ (β:Type),Nat→Nat→Int→Int→List V→(Nat→List V→Option β)→Option β
def yc(β:Type)(L:Nat)(A:Nat)(C D:Int)(E:List V)(z:Nat→List V→Option β):Option β:=zco L A C D E z
def za7(yc:xA)(L:Nat)(β:Type)(args:List V)(bor:Bor)(k:KK β):Option β:=match args,bor with
 | [a0,a1,a2],[(.live true A)]=>aO0 0 5 a0 fun z=>aI .i64 a1 fun C=>aI .i64 a2 fun D=>yc β L z C D A (fun z A=>k (V.own 0 0 z 5) [(.live true A)])
 | _,_=>none
theorem ziO(L:Nat)(β:Type)(args:List V)(bor:Bor)(k:KK β)(r:β)(h:za7 yc L β args bor k=some r):zp zcb (zca L) L za2 args bor k=some r:=by
 unfold za7 at h
 split at h
 ·have q:=zhO h; clear h; obtain ⟨z,rfl,h⟩:=q
  have q:=yB h; clear h; obtain ⟨A,rfl,h⟩:=q
  have q:=yB h; clear h; obtain ⟨C,rfl,h⟩:=q
  exact (ziM L z A C _ k).trans h
 ·cases h
end
end Go.Proofs.Ytbimgceighecgaa
