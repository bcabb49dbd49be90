/- Part 10 of the proof of AddrbookBuckets: an abstract machine over plain values, its soundness, and the functions of the program on plain values. -/
import Derived.Test.YtbimgceighecgaaRows
import Derived.Test.YtbimgceighecgaaMAddrbookBuckets9
namespace Go.Proofs.Ytbimgceighecgaa
set_option linter.unusedVariables false
set_option linter.unusedSimpArgs false
open List renaming length->XJ,take->XL,drop->XM,flatten->XO,replicate->We
open Int renaming toNat->XK,tmod->XQ
open IntKind renaming wrap->QF
open Option renaming getD->XP
section
set_option maxRecDepth 100000
def zeH:CC:=(.seq (.reg [Qp 9 .lss (tq 8) (tq 7)]) (.seq (.cond (tq 9) .skip (.seq (.mask (bl 8 22) (bl 4194255 22)) (.exit 0))) (.seq (.block 1 (.seq (.reg [Qh 10 (tq 8),Qo 11 1 (tq 6) (tq 8),Qj 12 1 (tq 11),Qh 4 (tq 10),Qh 5 (tq 12)]) (.reg [Qh 13 (tq 3),Qh 14 (tq 5),Qu 15 .u64 (tq 14),Qh 16 (tq 4),Qp 17 .mul (Qf 8) (tq 16),Qp 18 .shl (tq 15) (tq 17),Qp 19 .or (tq 13) (tq 18),Qh 3 (tq 19)]))) (.reg [Qp 20 .add (tq 8) (Qf 1),Qh 8 (tq 20)]))))
def zn2:CC:=(.seq (.reg [Qh 21 (tq 3),Qh 2 (tq 21)]) .ret)
def zfR:CF:=⟨22,[.tmp 2],(.seq (.reg [oo 2 (.move (.const (.sc (.int .u64 0))) false)]) (.seq (.reg [oo 3 (.move (.const (.sc (.int .u64 0))) false)]) (.seq (.seq (.reg [Qh 6 (tq 0),Qr 7 (tq 6),Qh 8 (Qf 0)]) (.block 0 (.loop (bl 456 22) (bl 4194255 22) zeH))) zn2)))⟩
def zsO:Hint:=⟨[],[],[none,some ((bl 456 22),(bl 4194255 22)),none,some ((bl 8 22),(bl 4194255 22)),none,none],[],[],false,false,[]⟩
def zcN:Nat→Sh:=zU [(12,(.int .u8))]
def zcM(L:Nat):CBC:=noC
def zh1:St→St:=zbg 0 (bl 456 22) (bl 4194255 22)
def zfB(z:Int)(A:List (List V))(C D:Int):St:=⟨(jn 3 ((Qd z)::(jn 2 ((V.sl 1 A)::((Qe C)::((Qe D)::(jn 13 []))))))),(gn 22 [])⟩
def znk(z:Int):St:=⟨(jn 3 ((Qd z)::(jn 18 []))),(gn 22 [])⟩
def zsh{β:Type}(L:Nat)(A:List (List V))(z:Int→List (List V)→Int→Int→Option β):Option β:=z (0:Int) A ((XJ A:Nat):Int) (0:Int)
theorem zze{β:Type}(L:Nat)(z:List (List V))(k:KK β):xn zcN (zcM L) L zfR [(V.sl 1 z)] [] k=zsh L z (fun A C D E=>xD (zk zcN (zcM L) 0 L zeH) zh1 L (zfB A C D E) (xE 0 (xR (zk zcN (zcM L) 0 L zn2) (zY 0 (CF.res zfR) k)))):=by kernel_rfl
def zmi{β:Type}(L:Nat)(D:Int)(E:List (List V))(F A:Int)(z:Int→List (List V)→Int→Int→Option β)(C:Int→Option β):Option β:=ifb (decide (A<F)) (idx E A fun c0=>cI .u8 c0 0 fun I=>lt (QF .u64 I) fun J=>lt (QF .i64 (((8:Int):Int)*A)) fun G=>chk (0≤G) (lt (zqB .u64 J G) fun M=>lt (ior .u64 D M) fun N=>lt (QF .i64 ((A:Int)+(1:Int))) fun O=>z N E F O)) (C D)
theorem ztv{β:Type}(L:Nat)(z:Int)(A:List (List V))(C D:Int)(X:St→Option β)(K:KT β):zk zcN (zcM L) 0 L zeH (zfB z A C D) (zcv zh1 X K)=zmi L z A C D (fun z A C D=>X (zfB z A C D)) (fun z=>K (.exit 0) (znk z)):=by kernel_rfl
def zou{β:Type}(L:Nat)(A:Int)(z:Int→Option β):Option β:=z A
theorem zr6{β:Type}(L:Nat)(z:Int)(k:KK β):(xE 0 (xR (zk zcN (zcM L) 0 L zn2) (zY 0 (CF.res zfR) k))) (.exit 0) (znk z)=zou L z (fun A=>k (Qd A) []):=by kernel_rfl
def zfx{β:Type}(L:Nat)(z:Int→Option β):Nat→Int→List (List V)→Int→Int→Option β
 | 0,_,_,_,_=>none
 | n+1,A,C,D,E=>zmi L A C D E (fun A C D E=>zfx L z n A C D E) z
theorem znB{β:Type}(L:Nat)(K:KT β):∀ (n:Nat) (z:Int) (A:List (List V)) (C D:Int),xD (zk zcN (zcM L) 0 L zeH) zh1 n (zfB z A C D) K=zfx L (fun z=>K (.exit 0) (znk z)) n z A C D:=by
 intro n
 induction n with
 | zero=>intros; rfl
 | succ n ih=>
  intro z A C D
  refine (ztv L z A C D (fun σ=>xD (zk zcN (zcM L) 0 L zeH) zh1 n σ K) K).trans ?_
  simp only [ih]
  rfl
def zoU{β:Type}(L:Nat)(C:List (List V))(z:Int→Option β):Option β:=zsh L C (fun A D E F=>zfx L (fun A=>zou L A z) L A D E F)
theorem zy7{β:Type}(L:Nat)(z:List (List V))(k:KK β):xn zcN (zcM L) L zfR [(V.sl 1 z)] [] k=zoU L z (fun z=>k (Qd z) []):=by
 refine (zze L z k).trans ?_
 unfold zoU
 first
  | (simp only [znB,zr6]; done)
  | (simp only [znB]; rfl)
abbrev zbj:=∀ (β:Type),Nat→List (List V)→(Int→Option β)→Option β
def yo(β:Type)(L:Nat)(A:List (List V))(z:Int→Option β):Option β:=zoU L A z
def zlH(yo:zbj)(L:Nat)(β:Type)(args:List V)(bor:Bor)(k:KK β):Option β:=match args,bor with
 | [a0],[]=>aL 1 a0 fun z=>yo β L z (fun z=>k (Qd z) [])
 | _,_=>none
theorem zzf(L:Nat)(β:Type)(args:List V)(bor:Bor)(k:KK β)(r:β)(h:zlH yo L β args bor k=some r):xn zcN (zcM L) L zfR args bor k=some r:=by
 unfold zlH at h
 split at h
 ·have q:=zaW h; clear h; obtain ⟨z,rfl,h⟩:=q
  exact (zy7 L z k).trans h
 ·cases h
def zoL:CF:=⟨8,[.cell 2 true 2],(.seq (.reg [Qv 1 (tq 0),oo 2 (.alloc true [(.sc (.int .u64 0)),(.sc (.int .u64 0))])]) (.seq (.dreg [1] [(oo 3 (.sliceA 32 1 (tq 1) none (some (Qf 8)) none),q1),(Qs 4 112 [(Qw 3)],q1),(oo 5 (.sliceA 32 1 (tq 1) (some (Qf 8)) (some (Qf 16)) none),q1),(Qs 6 112 [(Qw 5)],q0),(oo 7 (.build [(.sc (.int .u64 0)),(.sc (.int .u64 0))] [(0,1,(tq 4)),(1,1,(tq 6))]),q0),(Qm 2 (tq 2) (tq 7),q0)]) .ret))⟩
def zuc:Hint:=⟨[],[],[none],[(1,[1])],[],false,false,[]⟩
def zsj:Nat→Sh:=zU []
def zsC(yo:zbj)(L:Nat):CBC:=(yx 112 (zlH yo L) noC)
def zuo{β:Type}(yo:zbj)(L:Nat)(C:List V)(z:List V→Option β):Option β:=lc C (none) (fun h0 A=>chk (0+32*1≤(XJ (h0::A))) (yo β L (xe 1 8 (h0::A)) (fun D=>chk (0+32*1≤(XJ (h0::A))) (yo β L (xe 1 8 (XM 8 (h0::A))) (fun E=>lt [(Qd D),(Qd E)] fun r4=>chk (0=0∧(XJ r4)=2∧2≠0) (z r4))))))
theorem zzV{β:Type}(yo:zbj)(L:Nat)(z:List V)(k:KK β):xn zsj (zsC yo L) L zoL [(V.agg z)] [] k=zuo yo L z (fun z=>k (V.agg z) []):=by kernel_rfl
abbrev ziR:=∀ (β:Type),Nat→List V→(List V→Option β)→Option β
def zV(β:Type)(L:Nat)(A:List V)(z:List V→Option β):Option β:=zuo yo L A z
def znX(zV:ziR)(L:Nat)(β:Type)(args:List V)(bor:Bor)(k:KK β):Option β:=match args,bor with
 | [a0],[]=>aG a0 fun z=>zV β L z (fun z=>k (V.agg z) [])
 | _,_=>none
theorem zzX(L:Nat)(β:Type)(args:List V)(bor:Bor)(k:KK β)(r:β)(h:znX zV L β args bor k=some r):xn zsj (zsC yo L) L zoL args bor k=some r:=by
 unfold znX at h
 split at h
 ·have q:=yM h; clear h; obtain ⟨z,rfl,h⟩:=q
  exact (zzV yo L z k).trans h
 ·cases h
def zfY:CF:=⟨6,[.tmp 2],(.seq (.reg [Qv 1 (tq 0),oo 2 (.move (.const (.sc (.int .u32 0))) false)]) (.seq (.reg [Ql 3 0 (tq 1),Qj 4 1 (tq 3),oo 5 (.bin .shr (tq 4) (.const (.sc (.int .u64 16)))),Qh 2 (tq 5)]) .ret))⟩
def zmM:Hint:=⟨[],[],[none],[],[],false,false,[]⟩
def zjK:Nat→Sh:=zU [(4,(.int .u32))]
def zjR(L:Nat):CBC:=noC
def zkK{β:Type}(L:Nat)(A:List V)(z:Int→Option β):Option β:=cI .u32 A 0 fun C=>lt (znb .u32 C (16:Int)) fun D=>z D
theorem ztd{β:Type}(L:Nat)(z:List V)(k:KK β):xn zjK (zjR L) L zfY [(V.agg z)] [] k=zkK L z (fun z=>k (Qc z) []):=by kernel_rfl
abbrev yZ:=∀ (β:Type),Nat→List V→(Int→Option β)→Option β
def yh(β:Type)(L:Nat)(A:List V)(z:Int→Option β):Option β:=zkK L A z
def zcz(yh:yZ)(L:Nat)(β:Type)(args:List V)(bor:Bor)(k:KK β):Option β:=match args,bor with
 | [a0],[]=>aG a0 fun z=>yh β L z (fun z=>k (Qc z) [])
 | _,_=>none
theorem zsV(L:Nat)(β:Type)(args:List V)(bor:Bor)(k:KK β)(r:β)(h:zcz yh L β args bor k=some r):xn zjK (zjR L) L zfY args bor k=some r:=by
 unfold zcz at h
 split at h
 ·have q:=yM h; clear h; obtain ⟨z,rfl,h⟩:=q
  exact (ztd L z k).trans h
 ·cases h
def zcU:CC:=(.seq (.reg [Qp 11 .lss (tq 10) (tq 9)]) (.seq (.cond (tq 11) .skip (.seq (.mask (bl 32 23) (bl 8388543 23)) (.exit 0))) (.seq (.block 1 (.seq (.reg [Qh 12 (tq 10),Qh 6 (tq 12)]) (.reg [Qh 13 (tq 5),Qh 14 (tq 6),Qh 15 (tq 0),Qh 16 (tq 6),Qp 17 .mul (Qf 8) (tq 16),Qp 18 .shr (tq 15) (tq 17),Qu 19 .u8 (tq 18),Qo 20 1 (tq 13) (tq 14),Qm 1 (tq 20) (tq 19)]))) (.reg [Qp 21 .add (tq 10) (Qf 1),Qh 10 (tq 21)]))))
def zjV:CC:=(.seq (.reg [Qi 22 (tq 5),Qi 4 (tq 22)]) .ret)
def zcV:CF:=⟨23,[.tmp 4],(.seq (.reg [Qi 4 (.const (.gs 1 []))]) (.seq (.reg [Qh 7 (tq 1),⟨(some 8),true,none,.makeSlice 1 1 [(.sc (.int .u8 0))] (tq 7) (tq 7)⟩,Qi 5 (tq 8)]) (.seq (.seq (.reg [Qh 9 (tq 1),Qh 10 (Qf 0)]) (.block 0 (.loop (bl 1569 23) (bl 8388543 23) zcU))) zjV)))⟩
def zop:Hint:=⟨[(0,0),(1,2),(7,0),(7,1)],[(1,1)],[none,some ((bl 1569 23),(bl 8388543 23)),none,some ((bl 32 23),(bl 8388543 23)),none,none],[],[],false,false,[]⟩
def zbd:Nat→Sh:=zU []
def zbf(L:Nat):CBC:=noC
def ze3:St→St:=zbg 0 (bl 1569 23) (bl 8388543 23)
def zdF(C:Int)(z:Nat)(D A:Int)(E:List V):St:=⟨((Qd C)::(jn 4 ((V.own 8 0 z 1)::(jn 3 ((Qe D)::((Qe A)::(jn 12 []))))))),(gn 8 ((.live true E)::(gn 14 [])))⟩
def ziM(z:Nat)(A:List V):St:=⟨(jn 5 ((V.own 8 0 z 1)::(jn 17 []))),(gn 8 ((.live true A)::(gn 14 [])))⟩
def zrO{β:Type}(L:Nat)(C z:Int)(A:Int→Nat→Int→Int→List V→Option β):Option β:=chk (0≤z∧z≤z∧(XK z)*1≤yn∧z≤yn) (A C (XK z) z (0:Int) (XO (We (XK z) [(Qa (0:Int))])))
theorem zuR{β:Type}(L:Nat)(z A:Int)(k:KK β):xn zbd (zbf L) L zcV [(Qd z),(Qe A)] [] k=zrO L z A (fun z C E D F=>xD (zk zbd (zbf L) 0 L zcU) ze3 L (zdF z C E D F) (xE 0 (xR (zk zbd (zbf L) 0 L zjV) (zY 0 (CF.res zcV) k)))):=by kernel_rfl
def zmz{β:Type}(L:Nat)(F:Int)(C:Nat)(G z:Int)(D:List V)(A:Int→Nat→Int→Int→List V→Option β)(E:Nat→List V→Option β):Option β:=ifb (decide (z<G)) (lt (QF .i64 (((8:Int):Int)*z)) fun I=>chk (0≤I) (lt (znb .u64 F I) fun J=>lt (QF .u8 J) fun M=>chk (0≤z∧z<((C:Nat):Int)) (chk (1=1∧(0+((XK z)*1))+1≤(XJ D)) (lt (zg D (0+((XK z)*1)) [(Qa M)]) fun r3=>lt (QF .i64 ((z:Int)+(1:Int))) fun N=>A F C G N r3)))) (E C D)
theorem zqC{β:Type}(L:Nat)(D:Int)(z:Nat)(E A:Int)(C:List V)(X:St→Option β)(K:KT β):zk zbd (zbf L) 0 L zcU (zdF D z E A C) (zcv ze3 X K)=zmz L D z E A C (fun D z E A C=>X (zdF D z E A C)) (fun z C=>K (.exit 0) (ziM z C)):=by kernel_rfl
def zkS{β:Type}(L:Nat)(A:Nat)(C:List V)(z:List (List V)→Option β):Option β:=chk (A≠0∨(XJ C)=0) (z (xe 1 A C))
theorem zpW{β:Type}(L:Nat)(z:Nat)(A:List V)(k:KK β):(xE 0 (xR (zk zbd (zbf L) 0 L zjV) (zY 0 (CF.res zcV) k))) (.exit 0) (ziM z A)=zkS L z A (fun C=>k (V.fr 1 C) []):=by kernel_rfl
def zhJ{β:Type}(L:Nat)(z:Nat→List V→Option β):Nat→Int→Nat→Int→Int→List V→Option β
 | 0,_,_,_,_,_=>none
 | n+1,D,A,E,C,F=>zmz L D A E C F (fun D A E C F=>zhJ L z n D A E C F) z
theorem zj3{β:Type}(L:Nat)(K:KT β):∀ (n:Nat) (D:Int) (z:Nat) (E A:Int) (C:List V),xD (zk zbd (zbf L) 0 L zcU) ze3 n (zdF D z E A C) K=zhJ L (fun z C=>K (.exit 0) (ziM z C)) n D z E A C:=by
 intro n
 induction n with
 | zero=>intros; rfl
 | succ n ih=>
  intro D z E A C
  refine (zqC L D z E A C (fun σ=>xD (zk zbd (zbf L) 0 L zcU) ze3 n σ K) K).trans ?_
  simp only [ih]
  rfl
def zm7{β:Type}(L:Nat)(C F:Int)(A:List (List V)→Option β):Option β:=zrO L C F (fun C z G E D=>zhJ L (fun z D=>zkS L z D A) L C z G E D)
theorem zuW{β:Type}(L:Nat)(z A:Int)(k:KK β):xn zbd (zbf L) L zcV [(Qd z),(Qe A)] [] k=zm7 L z A (fun z=>k (V.fr 1 z) []):=by
 refine (zuR L z A k).trans ?_
 unfold zm7
 first
  | (simp only [zj3,zpW]; done)
  | (simp only [zj3]; rfl)
abbrev zdu:=∀ (β:Type),Nat→Int→Int→(List (List V)→Option β)→Option β
def zz(β:Type)(L:Nat)(A C:Int)(z:List (List V)→Option β):Option β:=zm7 L A C z
def zgv(zz:zdu)(L:Nat)(β:Type)(args:List V)(bor:Bor)(k:KK β):Option β:=match args,bor with
 | [a0,a1],[]=>aI .u64 a0 fun z=>aI .i64 a1 fun A=>zz β L z A (fun z=>k (V.fr 1 z) [])
 | _,_=>none
theorem zu0(L:Nat)(β:Type)(args:List V)(bor:Bor)(k:KK β)(r:β)(h:zgv zz L β args bor k=some r):xn zbd (zbf L) L zcV args bor k=some r:=by
 unfold zgv at h
 split at h
 ·have q:=yw h; clear h; obtain ⟨z,rfl,h⟩:=q
  have q:=yw h; clear h; obtain ⟨A,rfl,h⟩:=q
  exact (zuW L z A k).trans h
 ·cases h
def zic:CF:=⟨18,[.tmp 4],(.seq (.reg [Qi 4 (.const (.gs 1 []))]) (.seq (.reg [Qh 6 (tq 0),Qr 7 (tq 6),Qh 8 (tq 1),Qr 9 (tq 8),Qp 10 .add (tq 7) (tq 9),oo 11 (.makeSlice 1 1 [(.sc (.int .u8 0))] (Qf 0) (tq 10)),Qi 5 (tq 11)]) (.seq (.reg [Qi 12 (tq 5),Qh 13 (tq 0),oo 14 (.append 1 1 (tq 12) (tq 13)),Qi 5 (tq 14)]) (.seq (.reg [Qi 15 (tq 5),Qh 16 (tq 1),oo 17 (.append 1 1 (tq 15) (tq 16)),Qi 4 (tq 17)]) .ret))))⟩
def zox:Hint:=⟨[(0,0),(1,6),(2,0),(2,3),(3,0),(3,3)],[],[none],[],[],false,false,[]⟩
def zl1:Nat→Sh:=zU []
def zlo(L:Nat):CBC:=noC
def zmX{β:Type}(L:Nat)(z A:List (List V))(C:List (List V)→Option β):Option β:=lt (QF .i64 ((((XJ z:Nat):Int):Int)+((XJ A:Nat):Int))) fun D=>chk (0≤(0:Int)∧(0:Int)≤D∧(XK D)*1≤yn∧D≤yn) (chk ((XJ (We 0 [(Qa (0:Int))])+XJ z)*1≤yn∧XJ (We 0 [(Qa (0:Int))])+XJ z≤yn) (lt ((We 0 [(Qa (0:Int))])++z) fun E=>chk ((XJ E+XJ A)*1≤yn∧XJ E+XJ A≤yn) (lt (E++A) fun F=>C F)))
theorem zvb{β:Type}(L:Nat)(z A:List (List V))(k:KK β):xn zl1 (zlo L) L zic [(V.sl 1 z),(V.sl 1 A)] [] k=zmX L z A (fun z=>k (V.gs 1 z) []):=by kernel_rfl
abbrev zds:=∀ (β:Type),Nat→List (List V)→List (List V)→(List (List V)→Option β)→Option β
def yz(β:Type)(L:Nat)(A C:List (List V))(z:List (List V)→Option β):Option β:=zmX L A C z
def zgu(yz:zds)(L:Nat)(β:Type)(args:List V)(bor:Bor)(k:KK β):Option β:=match args,bor with
 | [a0,a1],[]=>aL 1 a0 fun z=>aL 1 a1 fun A=>yz β L z A (fun z=>k (V.gs 1 z) [])
 | _,_=>none
theorem zu9(L:Nat)(β:Type)(args:List V)(bor:Bor)(k:KK β)(r:β)(h:zgu yz L β args bor k=some r):xn zl1 (zlo L) L zic args bor k=some r:=by
 unfold zgu at h
 split at h
 ·have q:=zaW h; clear h; obtain ⟨z,rfl,h⟩:=q
  have q:=zaW h; clear h; obtain ⟨A,rfl,h⟩:=q
  exact (zvb L z A k).trans h
 ·cases h
def zfq:CF:=⟨10,[.tmp 4],(.seq (.reg [Qi 4 (.const (.gs 1 []))]) (.seq (.reg [Qh 5 (tq 0),Qh 6 (tq 1),Qu 7 .u64 (tq 6),Qs 8 192 [(Qw 7),((Qf 4),0)],Qs 9 191 [(Qw 5),(Qw 8)],Qi 4 (tq 9)]) .ret))⟩
def zlk:Hint:=⟨[(0,0),(1,5)],[],[none],[],[],false,false,[]⟩
def zi3:Nat→Sh:=zU []
def ziI(zz:zdu)(yz:zds)(L:Nat):CBC:=(yx 191 (zgu yz L) (yx 192 (zgv zz L) noC))
def zjF{β:Type}(zz:zdu)(yz:zds)(L:Nat)(A:List (List V))(C:Int)(z:List (List V)→Option β):Option β:=lt (QF .u64 C) fun D=>zz β L D (4:Int) (fun E=>yz β L A E (fun F=>z F))
theorem zrS{β:Type}(zz:zdu)(yz:zds)(L:Nat)(z:List (List V))(A:Int)(k:KK β):xn zi3 (ziI zz yz L) L zfq [(V.sl 1 z),(Qc A)] [] k=zjF zz yz L z A (fun z=>k (V.gs 1 z) []):=by kernel_rfl
abbrev zca:=∀ (β:Type),Nat→List (List V)→Int→(List (List V)→Option β)→Option β
def zp(β:Type)(L:Nat)(A:List (List V))(C:Int)(z:List (List V)→Option β):Option β:=zjF zz yz L A C z
def zd9(zp:zca)(L:Nat)(β:Type)(args:List V)(bor:Bor)(k:KK β):Option β:=match args,bor with
 | [a0,a1],[]=>aL 1 a0 fun z=>aI .u32 a1 fun A=>zp β L z A (fun z=>k (V.gs 1 z) [])
 | _,_=>none
theorem zrU(L:Nat)(β:Type)(args:List V)(bor:Bor)(k:KK β)(r:β)(h:zd9 zp L β args bor k=some r):xn zi3 (ziI zz yz L) L zfq args bor k=some r:=by
 unfold zd9 at h
 split at h
 ·have q:=zaW h; clear h; obtain ⟨z,rfl,h⟩:=q
  have q:=yw h; clear h; obtain ⟨A,rfl,h⟩:=q
  exact (zrS zz yz L z A k).trans h
 ·cases h
def zcJ:CF:=⟨17,[.tmp 4],(.seq (.reg [oo 4 (.move (.const (.sc (.int .u64 0))) false)]) (.seq (.reg [Qh 6 (tq 1),Qu 7 .u64 (tq 6),oo 8 (.bin .and (tq 7) (.const (.sc (.int .u64 63)))),Qh 5 (tq 8)]) (.seq (.reg [Qh 9 (tq 0),Qh 10 (tq 5),Qp 11 .shl (tq 9) (tq 10),Qh 12 (tq 0),Qh 13 (tq 5),oo 14 (.bin .sub (.const (.sc (.int .u64 64))) (tq 13)),Qp 15 .shr (tq 12) (tq 14),Qp 16 .or (tq 11) (tq 15),Qh 4 (tq 16)]) .ret)))⟩
def zgC:Hint:=⟨[],[],[none],[],[],false,false,[]⟩
def zeq:Nat→Sh:=zU []
def zem(L:Nat):CBC:=noC
def ziV{β:Type}(L:Nat)(C E:Int)(z:Int→Option β):Option β:=lt (QF .u64 E) fun F=>lt (zEs .u64 F (63:Int)) fun A=>chk (0≤A) (lt (zqB .u64 C A) fun G=>lt (QF .u64 (((64:Int):Int)-A)) fun D=>chk (0≤D) (lt (znb .u64 C D) fun I=>lt (ior .u64 G I) fun J=>z J))
theorem znY{β:Type}(L:Nat)(z A:Int)(k:KK β):xn zeq (zem L) L zcJ [(Qd z),(Qe A)] [] k=ziV L z A (fun z=>k (Qd z) []):=by kernel_rfl
abbrev xC:=∀ (β:Type),Nat→Int→Int→(Int→Option β)→Option β
def yb(β:Type)(L:Nat)(A C:Int)(z:Int→Option β):Option β:=ziV L A C z
def zbN(yb:xC)(L:Nat)(β:Type)(args:List V)(bor:Bor)(k:KK β):Option β:=match args,bor with
 | [a0,a1],[]=>aI .u64 a0 fun z=>aI .i64 a1 fun A=>yb β L z A (fun z=>k (Qd z) [])
 | _,_=>none
theorem znW(L:Nat)(β:Type)(args:List V)(bor:Bor)(k:KK β)(r:β)(h:zbN yb L β args bor k=some r):xn zeq (zem L) L zcJ args bor k=some r:=by
 unfold zbN at h
 split at h
 ·have q:=yw h; clear h; obtain ⟨z,rfl,h⟩:=q
  have q:=yw h; clear h; obtain ⟨A,rfl,h⟩:=q
  exact (znY L z A k).trans h
 ·cases h
def zea:CC:=(.seq (.reg [Qp 7 .lss (tq 6) (tq 5)]) (.seq (.cond (tq 7) .skip (.seq (.mask (bl 20 82) (bl 4533176671146011638300671 82)) (.exit 0))) (.seq (.block 1 (.seq (.reg [Qn 8 4 1 (tq 2) (Qf 0),Qj 9 1 (tq 8),Qn 10 4 1 (tq 2) (Qf 1),Qj 11 1 (tq 10),Qp 12 .add (tq 9) (tq 11),Qn 13 4 1 (tq 2) (Qf 0),Qm 1 (tq 13) (tq 12)]) (.seq (.reg [Qn 14 4 1 (tq 2) (Qf 1),Qj 15 1 (tq 14),Qs 16 118 [(Qw 15),((Qf 13),0)],Qn 17 4 1 (tq 2) (Qf 1),Qm 1 (tq 17) (tq 16)]) (.seq (.reg [Qn 18 4 1 (tq 2) (Qf 1),Qj 19 1 (tq 18),Qn 20 4 1 (tq 2) (Qf 0),Qj 21 1 (tq 20),Qp 22 .xor (tq 19) (tq 21),Qn 23 4 1 (tq 2) (Qf 1),Qm 1 (tq 23) (tq 22)]) (.seq (.reg [Qn 24 4 1 (tq 2) (Qf 0),Qj 25 1 (tq 24),Qs 26 118 [(Qw 25),((Qf 32),0)],Qn 27 4 1 (tq 2) (Qf 0),Qm 1 (tq 27) (tq 26)]) (.seq (.reg [Qn 28 4 1 (tq 2) (Qf 2),Qj 29 1 (tq 28),Qn 30 4 1 (tq 2) (Qf 3),Qj 31 1 (tq 30),Qp 32 .add (tq 29) (tq 31),Qn 33 4 1 (tq 2) (Qf 2),Qm 1 (tq 33) (tq 32)]) (.seq (.reg [Qn 34 4 1 (tq 2) (Qf 3),Qj 35 1 (tq 34),Qs 36 118 [(Qw 35),((Qf 16),0)],Qn 37 4 1 (tq 2) (Qf 3),Qm 1 (tq 37) (tq 36)]) (.seq (.reg [Qn 38 4 1 (tq 2) (Qf 3),Qj 39 1 (tq 38),Qn 40 4 1 (tq 2) (Qf 2),Qj 41 1 (tq 40),Qp 42 .xor (tq 39) (tq 41),Qn 43 4 1 (tq 2) (Qf 3),Qm 1 (tq 43) (tq 42)]) (.seq (.reg [Qn 44 4 1 (tq 2) (Qf 0),Qj 45 1 (tq 44),Qn 46 4 1 (tq 2) (Qf 3),Qj 47 1 (tq 46),Qp 48 .add (tq 45) (tq 47),Qn 49 4 1 (tq 2) (Qf 0),Qm 1 (tq 49) (tq 48)]) (.seq (.reg [Qn 50 4 1 (tq 2) (Qf 3),Qj 51 1 (tq 50),Qs 52 118 [(Qw 51),((Qf 21),0)],Qn 53 4 1 (tq 2) (Qf 3),Qm 1 (tq 53) (tq 52)]) (.seq (.reg [Qn 54 4 1 (tq 2) (Qf 3),Qj 55 1 (tq 54),Qn 56 4 1 (tq 2) (Qf 0),Qj 57 1 (tq 56),Qp 58 .xor (tq 55) (tq 57),Qn 59 4 1 (tq 2) (Qf 3),Qm 1 (tq 59) (tq 58)]) (.seq (.reg [Qn 60 4 1 (tq 2) (Qf 2),Qj 61 1 (tq 60),Qn 62 4 1 (tq 2) (Qf 1),Qj 63 1 (tq 62),Qp 64 .add (tq 61) (tq 63),Qn 65 4 1 (tq 2) (Qf 2),Qm 1 (tq 65) (tq 64)]) (.seq (.reg [Qn 66 4 1 (tq 2) (Qf 1),Qj 67 1 (tq 66),Qs 68 118 [(Qw 67),((Qf 17),0)],Qn 69 4 1 (tq 2) (Qf 1),Qm 1 (tq 69) (tq 68)]) (.seq (.reg [Qn 70 4 1 (tq 2) (Qf 1),Qj 71 1 (tq 70),Qn 72 4 1 (tq 2) (Qf 2),Qj 73 1 (tq 72),Qp 74 .xor (tq 71) (tq 73),Qn 75 4 1 (tq 2) (Qf 1),Qm 1 (tq 75) (tq 74)]) (.reg [Qn 76 4 1 (tq 2) (Qf 2),Qj 77 1 (tq 76),Qs 78 118 [(Qw 77),((Qf 32),0)],Qn 79 4 1 (tq 2) (Qf 2),Qm 1 (tq 79) (tq 78)]))))))))))))))) (.reg [Qp 80 .add (tq 6) (Qf 1),Qh 6 (tq 80)]))))
def zmV:CC:=(.seq (.reg [Qk 81 4 (tq 2),Qm 4 (tq 4) (tq 81)]) .ret)
def zd3:CF:=⟨82,[.cell 4 true 4],(.seq (.reg [Qv 2 (tq 0),oo 4 (.alloc true [(.sc (.int .u64 0)),(.sc (.int .u64 0)),(.sc (.int .u64 0)),(.sc (.int .u64 0))])]) (.seq (.seq (.reg [Qh 5 (tq 1),Qh 6 (Qf 0)]) (.block 0 (.loop (bl 116 82) (bl 4533176671146011638300671 82) zea))) zmV))⟩
def zqs:Hint:=⟨[],[],[none,some ((bl 116 82),(bl 4533176671146011638300671 82)),none,some ((bl 20 82),(bl 4533176671146011638300671 82)),none,none],[],[],false,false,[]⟩
def zbS:Nat→Sh:=zU [(9,(.int .u64)),(11,(.int .u64)),(15,(.int .u64)),(19,(.int .u64)),(21,(.int .u64)),(25,(.int .u64)),(29,(.int .u64)),(31,(.int .u64)),(35,(.int .u64)),(39,(.int .u64)),(41,(.int .u64)),(45,(.int .u64)),(47,(.int .u64)),(51,(.int .u64)),(55,(.int .u64)),(57,(.int .u64)),(61,(.int .u64)),(63,(.int .u64)),(67,(.int .u64)),(71,(.int .u64)),(73,(.int .u64)),(77,(.int .u64))]
def zbT(yb:xC)(L:Nat):CBC:=(yx 118 (zbN yb L) noC)
def zg3:St→St:=zbg 0 (bl 116 82) (bl 4533176671146011638300671 82)
def zeU(E F:Int)(G:List V)(z A C D:Int):St:=⟨(jn 2 ((V.ptr 2 0)::(jn 1 ((V.ptr 4 0)::((Qe E)::((Qe F)::(jn 75 []))))))),(gn 2 ((.live true G)::(gn 1 ((.live true [(Qd z),(Qd A),(Qd C),(Qd D)])::(gn 77 [])))))⟩
def zkA(E:List V)(z A C D:Int):St:=⟨(jn 2 ((V.ptr 2 0)::(jn 1 ((V.ptr 4 0)::(jn 77 []))))),(gn 2 ((.live true E)::(gn 1 ((.live true [(Qd z),(Qd A),(Qd C),(Qd D)])::(gn 77 [])))))⟩
def zo7{β:Type}(yb:xC)(L:Nat)(A:List V)(C:Int)(z:Int→Int→List V→Int→Int→Int→Int→Option β):Option β:=z C (0:Int) A (0:Int) (0:Int) (0:Int) (0:Int)
theorem zw3{β:Type}(yb:xC)(L:Nat)(E:List V)(F:Int)(k:KK β):xn zbS (zbT yb L) L zd3 [(V.agg E),(Qe F)] [] k=zo7 yb L E F (fun G I J z A C D=>xD (zk zbS (zbT yb L) 0 L zea) zg3 L (zeU G I J z A C D) (xE 0 (xR (zk zbS (zbT yb L) 0 L zmV) (zY 0 (CF.res zd3) k)))):=by kernel_rfl
def zeM{β:Type}(yb:xC)(L:Nat)(W X:Int)(I:List V)(J M N O:Int)(G:Int→Int→List V→Int→Int→Int→Int→Option β)(U:List V→Int→Int→Int→Int→Option β):Option β:=ifb (decide (X<W)) (cI .u64 I 0 fun v0=>cI .u64 I 1 fun v1=>lt (QF .u64 ((v0:Int)+v1)) fun x2=>chk (1=1∧0+1≤(XJ I)) (lt (zg I 0 [(Qd x2)]) fun r3=>cI .u64 r3 1 fun v4=>yb β L v4 (13:Int) (fun v5=>chk (1=1∧1+1≤(XJ r3)) (lt (zg r3 1 [(Qd v5)]) fun r6=>cI .u64 r6 1 fun v7=>cI .u64 r6 0 fun v8=>lt (zaz .u64 v7 v8) fun x9=>chk (1=1∧1+1≤(XJ r6)) (lt (zg r6 1 [(Qd x9)]) fun r10=>cI .u64 r10 0 fun Y=>yb β L Y (32:Int) (fun Z=>chk (1=1∧0+1≤(XJ r10)) (lt (zg r10 0 [(Qd Z)]) fun z=>cI .u64 z 2 fun aa=>cI .u64 z 3 fun ab=>lt (QF .u64 ((aa:Int)+ab)) fun ac=>chk (1=1∧2+1≤(XJ z)) (lt (zg z 2 [(Qd ac)]) fun P=>cI .u64 P 3 fun ad=>yb β L ad (16:Int) (fun ae=>chk (1=1∧3+1≤(XJ P)) (lt (zg P 3 [(Qd ae)]) fun A=>cI .u64 A 3 fun af=>cI .u64 A 2 fun ag=>lt (zaz .u64 af ag) fun ah=>chk (1=1∧3+1≤(XJ A)) (lt (zg A 3 [(Qd ah)]) fun C=>cI .u64 C 0 fun ai=>cI .u64 C 3 fun aj=>lt (QF .u64 ((ai:Int)+aj)) fun ak=>chk (1=1∧0+1≤(XJ C)) (lt (zg C 0 [(Qd ak)]) fun Q=>cI .u64 Q 3 fun al=>yb β L al (21:Int) (fun am=>chk (1=1∧3+1≤(XJ Q)) (lt (zg Q 3 [(Qd am)]) fun D=>cI .u64 D 3 fun an=>cI .u64 D 0 fun ao=>lt (zaz .u64 an ao) fun ap=>chk (1=1∧3+1≤(XJ D)) (lt (zg D 3 [(Qd ap)]) fun E=>cI .u64 E 2 fun aq=>cI .u64 E 1 fun ar=>lt (QF .u64 ((aq:Int)+ar)) fun au=>chk (1=1∧2+1≤(XJ E)) (lt (zg E 2 [(Qd au)]) fun R=>cI .u64 R 1 fun av=>yb β L av (17:Int) (fun aw=>chk (1=1∧1+1≤(XJ R)) (lt (zg R 1 [(Qd aw)]) fun F=>cI .u64 F 1 fun ax=>cI .u64 F 2 fun ay=>lt (zaz .u64 ax ay) fun az=>chk (1=1∧1+1≤(XJ F)) (lt (zg F 1 [(Qd az)]) fun S=>cI .u64 S 2 fun aC=>yb β L aC (32:Int) (fun aD=>chk (1=1∧2+1≤(XJ S)) (lt (zg S 2 [(Qd aD)]) fun aE=>lt (QF .i64 ((X:Int)+(1:Int))) fun aH=>G W aH aE J M N O))))))))))))))))))))) (U I J M N O)
theorem zs9{β:Type}(yb:xC)(L:Nat)(F G:Int)(E:List V)(z A C D:Int)(X:St→Option β)(K:KT β):zk zbS (zbT yb L) 0 L zea (zeU F G E z A C D) (zcv zg3 X K)=zeM yb L F G E z A C D (fun F G E z A C D=>X (zeU F G E z A C D)) (fun E z A C D=>K (.exit 0) (zkA E z A C D)):=by kernel_rfl
def ziu{β:Type}(yb:xC)(L:Nat)(C:List V)(D E F G:Int)(z:List V→Option β):Option β:=chk (0+4≤(XJ C)) (chk ((XJ (XL 4 C))=4∧0+4≤4) (lt (zg [(Qd D),(Qd E),(Qd F),(Qd G)] 0 (XL 4 C)) fun A=>chk (0=0∧(XJ A)=4∧4≠0) (z A)))
theorem zrq{β:Type}(yb:xC)(L:Nat)(E:List V)(z A C D:Int)(k:KK β):(xE 0 (xR (zk zbS (zbT yb L) 0 L zmV) (zY 0 (CF.res zd3) k))) (.exit 0) (zkA E z A C D)=ziu yb L E z A C D (fun F=>k (V.agg F) []):=by kernel_rfl
def zeB{β:Type}(yb:xC)(L:Nat)(E:List V→Int→Int→Int→Int→Option β):Nat→Int→Int→List V→Int→Int→Int→Int→Option β
 | 0,_,_,_,_,_,_,_=>none
 | n+1,F,G,I,z,A,C,D=>zeM yb L F G I z A C D (fun F G I z A C D=>zeB yb L E n F G I z A C D) E
theorem zmI{β:Type}(yb:xC)(L:Nat)(K:KT β):∀ (n:Nat) (F G:Int) (E:List V) (z A C D:Int),xD (zk zbS (zbT yb L) 0 L zea) zg3 n (zeU F G E z A C D) K=zeB yb L (fun E z A C D=>K (.exit 0) (zkA E z A C D)) n F G E z A C D:=by
 intro n
 induction n with
 | zero=>intros; rfl
 | succ n ih=>
  intro F G E z A C D
  refine (zs9 yb L F G E z A C D (fun σ=>xD (zk zbS (zbT yb L) 0 L zea) zg3 n σ K) K).trans ?_
  simp only [ih]
  rfl
def zlP{β:Type}(yb:xC)(L:Nat)(G:List V)(I:Int)(E:List V→Option β):Option β:=zo7 yb L G I (fun J M F z A C D=>zeB yb L (fun F z A C D=>ziu yb L F z A C D E) L J M F z A C D)
theorem zxl{β:Type}(yb:xC)(L:Nat)(z:List V)(A:Int)(k:KK β):xn zbS (zbT yb L) L zd3 [(V.agg z),(Qe A)] [] k=zlP yb L z A (fun z=>k (V.agg z) []):=by
 refine (zw3 yb L z A k).trans ?_
 unfold zlP
 first
  | (simp only [zmI,zrq]; done)
  | (simp only [zmI]; rfl)
abbrev zax:=∀ (β:Type),Nat→List V→Int→(List V→Option β)→Option β
def xk(β:Type)(L:Nat)(A:List V)(C:Int)(z:List V→Option β):Option β:=zlP yb L A C z
def ziG(xk:zax)(L:Nat)(β:Type)(args:List V)(bor:Bor)(k:KK β):Option β:=match args,bor with
 | [a0,a1],[]=>aG a0 fun z=>aI .i64 a1 fun A=>xk β L z A (fun z=>k (V.agg z) [])
 | _,_=>none
theorem zwr(L:Nat)(β:Type)(args:List V)(bor:Bor)(k:KK β)(r:β)(h:ziG xk L β args bor k=some r):xn zbS (zbT yb L) L zd3 args bor k=some r:=by
 unfold ziG at h
 split at h
 ·have q:=yM h; clear h; obtain ⟨z,rfl,h⟩:=q
  have q:=yw h; clear h; obtain ⟨A,rfl,h⟩:=q
  exact (zxl yb L z A k).trans h
 ·cases h
def zks:CF:=⟨18,[.cell 4 true 4],(.seq (.reg [Qv 2 (tq 0),oo 4 (.alloc true [(.sc (.int .u64 0)),(.sc (.int .u64 0)),(.sc (.int .u64 0)),(.sc (.int .u64 0))])]) (.seq (.reg [Qn 5 4 1 (tq 2) (Qf 3),Qj 6 1 (tq 5),Qh 7 (tq 1),Qp 8 .xor (tq 6) (tq 7),Qn 9 4 1 (tq 2) (Qf 3),Qm 1 (tq 9) (tq 8)]) (.seq (.reg [Qk 10 4 (tq 2),Qs 11 113 [(Qw 10),((Qf 2),0)],Qm 4 (tq 2) (tq 11)]) (.seq (.reg [Qn 12 4 1 (tq 2) (Qf 0),Qj 13 1 (tq 12),Qh 14 (tq 1),Qp 15 .xor (tq 13) (tq 14),Qn 16 4 1 (tq 2) (Qf 0),Qm 1 (tq 16) (tq 15)]) (.seq (.reg [Qk 17 4 (tq 2),Qm 4 (tq 4) (tq 17)]) .ret)))))⟩
def zqa:Hint:=⟨[],[],[none],[],[],false,false,[]⟩
def zoj:Nat→Sh:=zU [(6,(.int .u64)),(13,(.int .u64))]
def zn8(xk:zax)(L:Nat):CBC:=(yx 113 (ziG xk L) noC)
def zpU{β:Type}(xk:zax)(L:Nat)(A:List V)(C:Int)(z:List V→Option β):Option β:=cI .u64 A 3 fun E=>lt (zaz .u64 E C) fun F=>chk (1=1∧3+1≤(XJ A)) (lt (zg A 3 [(Qd F)]) fun r2=>chk (0+4≤(XJ r2)) (xk β L (XL 4 r2) (2:Int) (fun D=>chk ((XJ D)=4∧0+4≤(XJ r2)) (lt (zg r2 0 D) fun r4=>cI .u64 r4 0 fun G=>lt (zaz .u64 G C) fun I=>chk (1=1∧0+1≤(XJ r4)) (lt (zg r4 0 [(Qd I)]) fun r7=>chk (0+4≤(XJ r7)) (chk ((XJ (XL 4 r7))=4∧0+4≤4) (lt (zg [(Qd (0:Int)),(Qd (0:Int)),(Qd (0:Int)),(Qd (0:Int))] 0 (XL 4 r7)) fun r8=>chk (0=0∧(XJ r8)=4∧4≠0) (z r8))))))))
theorem zxB{β:Type}(xk:zax)(L:Nat)(z:List V)(A:Int)(k:KK β):xn zoj (zn8 xk L) L zks [(V.agg z),(Qd A)] [] k=zpU xk L z A (fun z=>k (V.agg z) []):=by kernel_rfl
abbrev zbp:=∀ (β:Type),Nat→List V→Int→(List V→Option β)→Option β
def xp(β:Type)(L:Nat)(A:List V)(C:Int)(z:List V→Option β):Option β:=zpU xk L A C z
def zml(xp:zbp)(L:Nat)(β:Type)(args:List V)(bor:Bor)(k:KK β):Option β:=match args,bor with
 | [a0,a1],[]=>aG a0 fun z=>aI .u64 a1 fun A=>xp β L z A (fun z=>k (V.agg z) [])
 | _,_=>none
theorem zwK(L:Nat)(β:Type)(args:List V)(bor:Bor)(k:KK β)(r:β)(h:zml xp L β args bor k=some r):xn zoj (zn8 xk L) L zks args bor k=some r:=by
 unfold zml at h
 split at h
 ·have q:=yM h; clear h; obtain ⟨z,rfl,h⟩:=q
  have q:=yw h; clear h; obtain ⟨A,rfl,h⟩:=q
  exact (zxB xk L z A k).trans h
 ·cases h
def zeK:CC:=(.seq (.reg [Qp 26 .lss (tq 25) (tq 24)]) (.seq (.cond (tq 26) .skip (.seq (.mask (bl 98 69) (bl 590295810152547221371 69)) (.exit 0))) (.seq (.block 1 (.seq (.reg [Qh 27 (tq 25),Qh 7 (tq 27)]) (.dreg [] [(Qk 28 4 (tq 5),ql 5 [] []),(Qh 29 (tq 1),q0),(Qh 30 (tq 7),q0),(Qp 31 .mul (Qf 8) (tq 30),q0),(Qh 32 (tq 7),q0),(Qp 33 .mul (Qf 8) (tq 32),q0),(Qp 34 .add (tq 33) (Qf 8),q0),(oo 35 (.sliceS 1 (tq 29) (some (tq 31)) (some (tq 34)) none),q0),(Qs 36 112 [(Qw 35)],qc [5] []),(Qs 37 111 [(Qw 28),(Qw 36)],q0),(Qm 4 (tq 5) (tq 37),q0)]))) (.reg [Qp 38 .add (tq 25) (Qf 1),Qh 25 (tq 38)]))))
def zoh:CC:=(.seq (.dreg [] [(Qk 39 4 (tq 5),ql 5 [] []),(Qh 40 (tq 1),q0),(Qh 41 (tq 6),q0),(Qp 42 .mul (Qf 8) (tq 41),q0),(oo 43 (.sliceS 1 (tq 40) (some (tq 42)) none none),q0),(Qs 44 112 [(Qw 43)],qc [5] []),(Qh 45 (tq 1),q0),(Qr 46 (tq 45),q0),(Qp 47 .rem (tq 46) (Qf 256),q0),(Qu 48 .u64 (tq 47),q0),(oo 49 (.bin .shl (tq 48) (.const (.sc (.int .u64 56)))),q0),(Qp 50 .or (tq 44) (tq 49),q0),(Qs 51 111 [(Qw 39),(Qw 50)],q0),(Qm 4 (tq 5) (tq 51),q0)]) (.seq (.reg [Qn 52 4 1 (tq 5) (Qf 2),Qj 53 1 (tq 52),oo 54 (.bin .xor (tq 53) (.const (.sc (.int .u64 255)))),Qn 55 4 1 (tq 5) (Qf 2),Qm 1 (tq 55) (tq 54)]) (.seq (.reg [Qk 56 4 (tq 5),Qs 57 113 [(Qw 56),((Qf 4),0)],Qm 4 (tq 5) (tq 57)]) (.seq (.reg [Qn 58 4 1 (tq 5) (Qf 0),Qj 59 1 (tq 58),Qn 60 4 1 (tq 5) (Qf 1),Qj 61 1 (tq 60),Qp 62 .xor (tq 59) (tq 61),Qn 63 4 1 (tq 5) (Qf 2),Qj 64 1 (tq 63),Qp 65 .xor (tq 62) (tq 64),Qn 66 4 1 (tq 5) (Qf 3),Qj 67 1 (tq 66),Qp 68 .xor (tq 65) (tq 67),Qh 4 (tq 68)]) .ret))))
def zhj:CF:=⟨69,[.tmp 4],(.seq (.reg [Qv 2 (tq 0),oo 4 (.move (.const (.sc (.int .u64 0))) false)]) (.seq (.reg [Qn 8 2 1 (tq 2) (Qf 0),Qj 9 1 (tq 8),oo 10 (.bin .xor (tq 9) (.const (.sc (.int .u64 8317987319222330741)))),Qn 11 2 1 (tq 2) (Qf 1),Qj 12 1 (tq 11),oo 13 (.bin .xor (tq 12) (.const (.sc (.int .u64 7237128888997146477)))),Qn 14 2 1 (tq 2) (Qf 0),Qj 15 1 (tq 14),oo 16 (.bin .xor (tq 15) (.const (.sc (.int .u64 7816392313619706465)))),Qn 17 2 1 (tq 2) (Qf 1),Qj 18 1 (tq 17),oo 19 (.bin .xor (tq 18) (.const (.sc (.int .u64 8387220255154660723)))),oo 20 (.build [(.sc (.int .u64 0)),(.sc (.int .u64 0)),(.sc (.int .u64 0)),(.sc (.int .u64 0))] [(0,1,(tq 10)),(1,1,(tq 13)),(2,1,(tq 16)),(3,1,(tq 19))]),oo 5 (.alloc true [(.sc (.int .u64 0)),(.sc (.int .u64 0)),(.sc (.int .u64 0)),(.sc (.int .u64 0))]),Qm 4 (tq 5) (tq 20)]) (.seq (.reg [Qh 21 (tq 1),Qr 22 (tq 21),Qp 23 .quo (tq 22) (Qf 8),Qh 6 (tq 23)]) (.seq (.seq (.reg [Qh 24 (tq 6),Qh 25 (Qf 0)]) (.block 0 (.loop (bl 50331746 69) (bl 590295810152547221371 69) zeK))) zoh))))⟩
def zub:Hint:=⟨[],[],[none,some ((bl 50331746 69),(bl 590295810152547221371 69)),none,some ((bl 98 69),(bl 590295810152547221371 69)),none,none],[],[],false,false,[]⟩
def zdC:Nat→Sh:=zU [(9,(.int .u64)),(12,(.int .u64)),(15,(.int .u64)),(18,(.int .u64)),(53,(.int .u64)),(59,(.int .u64)),(61,(.int .u64)),(64,(.int .u64)),(67,(.int .u64))]
def zdE(yo:zbj)(xp:zbp)(xk:zax)(L:Nat):CBC:=(yx 113 (ziG xk L) (yx 111 (zml xp L) (yx 112 (zlH yo L) noC)))
def zii:St→St:=zbg 0 (bl 50331746 69) (bl 590295810152547221371 69)
def zfC(C:List (List V))(D z A:Int)(E:List V):St:=⟨(jn 1 ((V.sl 1 C)::(jn 3 ((V.ptr 5 0)::((Qe D)::(jn 17 ((Qe z)::((Qe A)::(jn 43 []))))))))),(gn 5 ((.live true E)::(gn 63 [])))⟩
def zn4(z:List (List V))(A:Int)(C:List V):St:=⟨(jn 1 ((V.sl 1 z)::(jn 3 ((V.ptr 5 0)::((Qe A)::(jn 62 [])))))),(gn 5 ((.live true C)::(gn 63 [])))⟩
def ztC{β:Type}(yo:zbj)(xp:zbp)(xk:zax)(L:Nat)(A:List V)(C:List (List V))(z:List (List V)→Int→Int→Int→List V→Option β):Option β:=cI .u64 A 0 fun E=>lt (zaz .u64 E (8317987319222330741:Int)) fun F=>cI .u64 A 1 fun G=>lt (zaz .u64 G (7237128888997146477:Int)) fun I=>cI .u64 A 0 fun J=>lt (zaz .u64 J (7816392313619706465:Int)) fun M=>cI .u64 A 1 fun N=>lt (zaz .u64 N (8387220255154660723:Int)) fun O=>lt [(Qd F),(Qd I),(Qd M),(Qd O)] fun r8=>lt (QF .i64 (Int.tdiv ((XJ C:Nat):Int) (8:Int))) fun D=>z C D D (0:Int) r8
theorem zAH{β:Type}(yo:zbj)(xp:zbp)(xk:zax)(L:Nat)(A:List V)(z:List (List V))(k:KK β):xn zdC (zdE yo xp xk L) L zhj [(V.agg A),(V.sl 1 z)] [] k=ztC yo xp xk L A z (fun z E C D F=>xD (zk zdC (zdE yo xp xk L) 0 L zeK) zii L (zfC z E C D F) (xE 0 (xR (zk zdC (zdE yo xp xk L) 0 L zoh) (zY 0 (CF.res zhj) k)))):=by kernel_rfl
def zmb{β:Type}(yo:zbj)(xp:zbp)(xk:zax)(L:Nat)(F:List (List V))(M G A:Int)(E:List V)(z:List (List V)→Int→Int→Int→List V→Option β)(J:List (List V)→Int→List V→Option β):Option β:=ifb (decide (A<G)) (chk (0+4≤(XJ E)) (lt (QF .i64 (((8:Int):Int)*A)) fun C=>lt (QF .i64 (((8:Int):Int)*A)) fun N=>lt (QF .i64 ((N:Int)+(8:Int))) fun D=>chk (0≤D∧D≤(((XJ F):Nat):Int)) (chk (0≤C∧C≤(((XK D):Nat):Int)) (yo β L (XL ((XK D)-(XK C)) (XM (XK C) F)) (fun O=>xp β L (XL 4 E) O (fun I=>chk ((XJ I)=4∧0+4≤(XJ E)) (lt (zg E 0 I) fun P=>lt (QF .i64 ((A:Int)+(1:Int))) fun Q=>z F M G Q P))))))) (J F M E)
theorem ztW{β:Type}(yo:zbj)(xp:zbp)(xk:zax)(L:Nat)(C:List (List V))(D z A:Int)(E:List V)(X:St→Option β)(K:KT β):zk zdC (zdE yo xp xk L) 0 L zeK (zfC C D z A E) (zcv zii X K)=zmb yo xp xk L C D z A E (fun C D z A E=>X (zfC C D z A E)) (fun C D E=>K (.exit 0) (zn4 C D E)):=by kernel_rfl
def zf7{β:Type}(yo:zbj)(xp:zbp)(xk:zax)(L:Nat)(E:List (List V))(p6:Int)(F:List V)(G:Int→Option β):Option β:=chk (0+4≤(XJ F)) (lt (QF .i64 (((8:Int):Int)*p6)) fun z=>chk (0≤z∧z≤(((XJ E):Nat):Int)) (yo β L (XL ((XJ E)-(XK z)) (XM (XK z) E)) (fun M=>lt (XQ ((XJ E:Nat):Int) (256:Int)) fun N=>lt (QF .u64 N) fun O=>lt (zqB .u64 O (56:Int)) fun P=>lt (ior .u64 M P) fun Q=>xp β L (XL 4 F) Q (fun I=>chk ((XJ I)=4∧0+4≤(XJ F)) (lt (zg F 0 I) fun D=>cI .u64 D 2 fun R=>lt (zaz .u64 R (255:Int)) fun S=>chk (1=1∧2+1≤(XJ D)) (lt (zg D 2 [(Qd S)]) fun A=>chk (0+4≤(XJ A)) (xk β L (XL 4 A) (4:Int) (fun J=>chk ((XJ J)=4∧0+4≤(XJ A)) (lt (zg A 0 J) fun C=>cI .u64 C 0 fun U=>cI .u64 C 1 fun W=>lt (zaz .u64 U W) fun X=>cI .u64 C 2 fun Y=>lt (zaz .u64 X Y) fun Z=>cI .u64 C 3 fun aa=>lt (zaz .u64 Z aa) fun ab=>G ab)))))))))
theorem zsb{β:Type}(yo:zbj)(xp:zbp)(xk:zax)(L:Nat)(z:List (List V))(A:Int)(C:List V)(k:KK β):(xE 0 (xR (zk zdC (zdE yo xp xk L) 0 L zoh) (zY 0 (CF.res zhj) k))) (.exit 0) (zn4 z A C)=zf7 yo xp xk L z A C (fun D=>k (Qd D) []):=by kernel_rfl
def zfg{β:Type}(yo:zbj)(xp:zbp)(xk:zax)(L:Nat)(z:List (List V)→Int→List V→Option β):Nat→List (List V)→Int→Int→Int→List V→Option β
 | 0,_,_,_,_,_=>none
 | n+1,D,E,A,C,F=>zmb yo xp xk L D E A C F (fun D E A C F=>zfg yo xp xk L z n D E A C F) z
theorem znL{β:Type}(yo:zbj)(xp:zbp)(xk:zax)(L:Nat)(K:KT β):∀ (n:Nat) (C:List (List V)) (D z A:Int) (E:List V),xD (zk zdC (zdE yo xp xk L) 0 L zeK) zii n (zfC C D z A E) K=zfg yo xp xk L (fun C D E=>K (.exit 0) (zn4 C D E)) n C D z A E:=by
 intro n
 induction n with
 | zero=>intros; rfl
 | succ n ih=>
  intro C D z A E
  refine (ztW yo xp xk L C D z A E (fun σ=>xD (zk zdC (zdE yo xp xk L) 0 L zeK) zii n σ K) K).trans ?_
  simp only [ih]
  rfl
def zqu{β:Type}(yo:zbj)(xp:zbp)(xk:zax)(L:Nat)(G:List V)(z:List (List V))(A:Int→Option β):Option β:=ztC yo xp xk L G z (fun z C E F D=>zfg yo xp xk L (fun z C D=>zf7 yo xp xk L z C D A) L z C E F D)
theorem zAc{β:Type}(yo:zbj)(xp:zbp)(xk:zax)(L:Nat)(z:List V)(A:List (List V))(k:KK β):xn zdC (zdE yo xp xk L) L zhj [(V.agg z),(V.sl 1 A)] [] k=zqu yo xp xk L z A (fun z=>k (Qd z) []):=by
 refine (zAH yo xp xk L z A k).trans ?_
 unfold zqu
 first
  | (simp only [znL,zsb]; done)
  | (simp only [znL]; rfl)
abbrev zi1:=∀ (β:Type),Nat→List V→List (List V)→(Int→Option β)→Option β
def yP(β:Type)(L:Nat)(A:List V)(C:List (List V))(z:Int→Option β):Option β:=zqu yo xp xk L A C z
def znH(yP:zi1)(L:Nat)(β:Type)(args:List V)(bor:Bor)(k:KK β):Option β:=match args,bor with
 | [a0,a1],[]=>aG a0 fun z=>aL 1 a1 fun A=>yP β L z A (fun z=>k (Qd z) [])
 | _,_=>none
theorem zAb(L:Nat)(β:Type)(args:List V)(bor:Bor)(k:KK β)(r:β)(h:znH yP L β args bor k=some r):xn zdC (zdE yo xp xk L) L zhj args bor k=some r:=by
 unfold znH at h
 split at h
 ·have q:=yM h; clear h; obtain ⟨z,rfl,h⟩:=q
  have q:=zaW h; clear h; obtain ⟨A,rfl,h⟩:=q
  exact (zAc yo xp xk L z A k).trans h
 ·cases h
def zda:CF:=⟨32,[.tmp 6],(.seq (.reg [Qv 3 (tq 0),Qv 4 (tq 1),Qh 6 (Qf 0)]) (.seq (.reg [Qk 10 32 (tq 3),Qs 11 109 [(Qw 10)],oo 7 (.alloc true [(.sc (.int .u64 0)),(.sc (.int .u64 0))]),Qm 2 (tq 7) (tq 11)]) (.seq (.dreg [] [(Qk 12 2 (tq 7),ql 7 [4] [13]),(oo 13 (.buildSlice 1 1 [(.sc (.int .u8 0))] [(0,1,(.const (.sc (.int .u8 2))))]),qn [7,4] []),(Qk 14 3 (tq 4),ql 4 [7] [13]),(Qs 15 269 [(Qw 14)],qc [7] [13]),(Qs 16 157 [(Qw 13),(Qw 15)],qc [7] []),(Qh 17 (tq 2),q0),(Qs 18 157 [(Qw 16),(Qw 17)],qc [7] []),(Qs 19 105 [(Qw 12),(Qw 18)],q0),(oo 20 (.bin .rem (tq 19) (.const (.sc (.int .u64 4)))),q0),(Qh 8 (tq 20),q0)]) (.seq (.reg [oo 21 (.buildSlice 1 1 [(.sc (.int .u8 0))] [(0,1,(.const (.sc (.int .u8 1))))]),Qh 22 (tq 2),Qs 23 157 [(Qw 21),(Qw 22)],Qh 24 (tq 8),Qu 25 .u32 (tq 24),Qs 26 157 [(Qw 23),(Qw 25)],Qh 9 (tq 26)]) (.seq (.reg [Qk 27 2 (tq 7),Qh 28 (tq 9),Qs 29 105 [(Qw 27),(Qw 28)],oo 30 (.bin .rem (tq 29) (.const (.sc (.int .u64 64)))),Qu 31 .i64 (tq 30),Qh 6 (tq 31)]) .ret)))))⟩
def zib:Hint:=⟨[],[],[none],[],[],false,false,[]⟩
def zfa:Nat→Sh:=zU []
def zfb(zV:ziR)(yh:yZ)(zp:zca)(yP:zi1)(L:Nat):CBC:=(yx 105 (znH yP L) (yx 157 (zd9 zp L) (yx 269 (zcz yh L) (yx 109 (znX zV L) noC))))
def zfQ{β:Type}(zV:ziR)(yh:yZ)(zp:zca)(yP:zi1)(L:Nat)(A C:List V)(D:Int)(z:Int→Option β):Option β:=chk (0+32≤(XJ A)) (zV β L (XL 32 A) (fun E=>chk ((XJ E)=2∧0+2≤2) (lt (zg [(Qd (0:Int)),(Qd (0:Int))] 0 E) fun r1=>chk (0+2≤(XJ r1)) (chk (0+3≤(XJ C)) (yh β L (XL 3 C) (fun J=>zp β L (xe 1 1 [(Qa (2:Int))]) J (fun M=>zp β L M D (fun N=>yP β L (XL 2 r1) N (fun O=>lt (XQ O (4:Int)) fun P=>zp β L (xe 1 1 [(Qa (1:Int))]) D (fun Q=>lt (QF .u32 P) fun R=>zp β L Q R (fun S=>chk (0+2≤(XJ r1)) (yP β L (XL 2 r1) S (fun F=>lt (XQ F (64:Int)) fun G=>lt (QF .i64 G) fun I=>z I)))))))))))))
theorem zoJ{β:Type}(zV:ziR)(yh:yZ)(zp:zca)(yP:zi1)(L:Nat)(z A:List V)(C:Int)(k:KK β):xn zfa (zfb zV yh zp yP L) L zda [(V.agg z),(V.agg A),(Qc C)] [] k=zfQ zV yh zp yP L z A C (fun z=>k (Qe z) []):=by kernel_rfl
abbrev xy:=∀ (β:Type),Nat→List V→List V→Int→(Int→Option β)→Option β
def xb(β:Type)(L:Nat)(A C:List V)(D:Int)(z:Int→Option β):Option β:=zfQ zV yh zp yP L A C D z
def zbt(xb:xy)(L:Nat)(β:Type)(args:List V)(bor:Bor)(k:KK β):Option β:=match args,bor with
 | [a0,a1,a2],[]=>aG a0 fun z=>aG a1 fun A=>aI .u32 a2 fun C=>xb β L z A C (fun z=>k (Qe z) [])
 | _,_=>none
theorem zoB(L:Nat)(β:Type)(args:List V)(bor:Bor)(k:KK β)(r:β)(h:zbt xb L β args bor k=some r):xn zfa (zfb zV yh zp yP L) L zda args bor k=some r:=by
 unfold zbt at h
 split at h
 ·have q:=yM h; clear h; obtain ⟨z,rfl,h⟩:=q
  have q:=yM h; clear h; obtain ⟨A,rfl,h⟩:=q
  have q:=yw h; clear h; obtain ⟨C,rfl,h⟩:=q
  exact (zoJ zV yh zp yP L z A C k).trans h
 ·cases h
def ze0:CF:=⟨11,[.tmp 3],(.seq (.reg [Qv 2 (tq 0),Qh 3 (Qf 0)]) (.seq (.reg [Ql 4 0 (tq 1),Qk 5 32 (tq 4),Ql 6 1 (tq 2),Qk 7 3 (tq 6),Ql 8 4 (tq 2),Qj 9 1 (tq 8),Qs 10 297 [(Qw 5),(Qw 7),(Qw 9)],Qh 3 (tq 10)]) .ret))⟩
def zkY:Hint:=⟨[],[],[none],[],[],false,false,[]⟩
def zhP:Nat→Sh:=zU [(9,(.int .u32))]
def zhV(xb:xy)(L:Nat):CBC:=(yx 297 (zbt xb L) noC)
def ziW{β:Type}(xb:xy)(L:Nat)(A C:List V)(z:Int→List V→Option β):Option β:=chk (0+32≤(XJ C)) (chk (1+3≤(XJ A)) (cI .u32 A 4 fun D=>xb β L (XL 32 C) (XL 3 (XM 1 A)) D (fun E=>z E C)))
theorem zrF{β:Type}(xb:xy)(L:Nat)(z A:List V)(k:KK β):xn zhP (zhV xb L) L ze0 [(V.agg z),(V.ptr 0 0)] [(.live true A)] k=ziW xb L z A (fun z A=>k (Qe z) [(.live true A)]):=by kernel_rfl
abbrev xS:=∀ (β:Type),Nat→List V→List V→(Int→List V→Option β)→Option β
def xg(β:Type)(L:Nat)(A C:List V)(z:Int→List V→Option β):Option β:=ziW xb L A C z
def zfw(xg:xS)(L:Nat)(β:Type)(args:List V)(bor:Bor)(k:KK β):Option β:=match args,bor with
 | [a0,a1],[(.live true z)]=>aG a0 fun A=>aP 0 0 a1 (xg β L A z (fun A z=>k (Qe A) [(.live true z)]))
 | _,_=>none
theorem zrc(L:Nat)(β:Type)(args:List V)(bor:Bor)(k:KK β)(r:β)(h:zfw xg L β args bor k=some r):xn zhP (zhV xb L) L ze0 args bor k=some r:=by
 unfold zfw at h
 split at h
 ·have q:=yM h; clear h; obtain ⟨z,rfl,h⟩:=q
  have q:=znI h; clear h; obtain ⟨rfl,h⟩:=q
  exact (zrF xb L z _ k).trans h
 ·cases h
def zb6:CC:=(.seq (.reg [Qp 18 .lss (tq 17) (tq 16)]) (.seq (.cond (tq 18) .skip (.seq (.mask (bl 0 58) (bl 288230375077966399 58)) (.exit 0))) (.seq (.block 1 (.seq (.reg [Qo 19 5 (tq 15) (tq 17),Qk 20 5 (tq 19),oo 10 (.alloc true [(.sc (.int .i64 0)),(.sc (.int .u32 0)),(.sc (.int .u16 0)),(.sc (.int .u32 0)),(.sc (.int .u32 0))]),Qm 5 (tq 10) (tq 20)]) (.seq (.seq (.dreg [] [(Ql 21 0 (tq 10),q0),(Qj 22 1 (tq 21),q0),(Qh 23 (tq 7),q0),(Qp 24 .lss (tq 22) (tq 23),q0),(Qh 25 (tq 24),q0),(⟨(some 26),false,(some (25,false)),.fieldAddr 0 (tq 10)⟩,q0),(⟨(some 27),false,(some (25,false)),.load false 1 (tq 26) false⟩,ql 10 [] []),(⟨(some 28),false,(some (25,false)),.move (tq 2) false⟩,q0),(⟨(some 29),false,(some (25,false)),.load true 5 (tq 10) false⟩,ql 10 [] []),(⟨(some 30),false,(some (25,false)),.callv (tq 28) [(Qw 29)] []⟩,qc [10] []),(⟨(some 31),false,(some (25,false)),.bin .neq (tq 27) (tq 30)⟩,q0),(oo 32 (.pick (tq 25) (Qg true) (tq 31)),q0)]) (.cond (tq 32) (.seq (.reg [Qh 6 (Qg false)]) (.seq (.mask (bl 64 58) (bl 288230375077966463 58)) .ret)) .skip)) (.seq (.seq (.reg [Ql 33 0 (tq 10),Qj 34 1 (tq 33),Qh 35 (tq 7),Qp 36 .neq (tq 34) (tq 35)]) (.cond (tq 36) (.reg [Ql 37 0 (tq 10),Qj 38 1 (tq 37),Qh 7 (tq 38),Qh 8 (Qf 0)]) .skip)) (.seq (.reg [Qh 39 (tq 8),Qp 40 .add (tq 39) (Qf 1),Qh 8 (tq 40)]) (.seq (.reg [Ql 41 1 (tq 10),Ql 42 0 (tq 41),Qj 43 1 (tq 42),Ql 44 1 (tq 10),Ql 45 1 (tq 44),Qj 46 1 (tq 45),oo 47 (.build [(.sc (.int .u32 0)),(.sc (.int .u16 0))] [(0,1,(tq 43)),(1,1,(tq 46))]),oo 11 (.alloc true [(.sc (.int .u32 0)),(.sc (.int .u16 0))]),Qm 2 (tq 11) (tq 47)]) (.seq (.seq (.reg [Qh 48 (tq 8),Qp 49 .gtr (tq 48) (Qf 8),Qh 50 (tq 49),⟨(some 51),false,(some (50,false)),.move (tq 1) false⟩,⟨(some 52),false,(some (50,false)),.load true 2 (tq 11) false⟩,⟨(some 53),false,(some (50,false)),.mlook 4 false (.sc (.bool false)) (tq 51) (tq 52)⟩,oo 54 (.pick (tq 50) (Qg true) (tq 53))]) (.cond (tq 54) (.seq (.reg [Qh 6 (Qg false)]) (.seq (.mask (bl 64 58) (bl 288230375077966463 58)) .ret)) .skip)) (.reg [Qh 55 (tq 1),Qk 56 2 (tq 11),oz (.mput 4 (tq 55) (tq 56) (Qg true))])))))))) (.reg [Qp 57 .add (tq 17) (Qf 1),Qh 17 (tq 57)]))))
def zer:CC:=(.seq (.reg [Qh 6 (Qg true)]) .ret)
def za0:CF:=⟨58,[.tmp 6],(.seq (.reg [Qh 6 (Qg false)]) (.seq (.seq (.reg [Qh 12 (tq 0),Qr 13 (tq 12),Qp 14 .gtr (tq 13) (Qf 512)]) (.cond (tq 14) (.seq (.reg [Qh 6 (Qg false)]) .ret) .skip)) (.seq (.reg [Qh 7 (Qf (-1)),Qh 8 (Qf 0)]) (.seq (.seq (.reg [Qh 15 (tq 0),Qr 16 (tq 15),Qh 17 (Qf 0)]) (.block 0 (.loop (bl 229766 58) (bl 288230375077966783 58) zb6))) zer))))⟩
def zmx:Hint:=⟨[],[],[none,none,none,some ((bl 229766 58),(bl 288230375077966783 58)),none,some ((bl 0 58),(bl 288230375077966399 58)),none,none,some ((bl 64 58),(bl 288230375077966463 58)),none,none,some ((bl 64 58),(bl 288230375077966463 58)),none],[],[],false,false,[]⟩
def zah:Nat→Sh:=zU [(22,(.int .i64)),(27,(.int .i64)),(34,(.int .i64)),(38,(.int .i64)),(43,(.int .u32)),(46,(.int .u16)),(53,.bool)]
def zag(xg:xS)(L:Nat):CBC:=(yx 296 (zfw xg L) noC)
def zdB:St→St:=zbg 2 (bl 229766 58) (bl 288230375077966783 58)
def zcK(D E:Int)(z:List (List V))(A C:Int)(F:List (V × V))(G:List V):St:=⟨(jn 1 ((V.mp 0)::((V.fn 296 [(V.ptr 1 0)])::(jn 4 ((Qe D)::((Qe E)::(jn 6 ((V.sl 5 z)::((Qe A)::((Qe C)::(jn 40 []))))))))))),((.mp F)::((.live true G)::(gn 58 [])))⟩
def zgr(z:Bool)(A:List (V × V))(C:List V):St:=⟨(jn 6 ((V.sc (.bool z))::(jn 51 []))),((.mp A)::((.live true C)::(gn 58 [])))⟩
def zgM(z:List (V × V))(A:List V):St:=⟨(jn 58 []),((.mp z)::((.live true A)::(gn 58 [])))⟩
abbrev zjv(β:Type):Type:=Int→Int→List (List V)→Int→Int→List (V × V)→List V→Option β
def zky{β:Type}(xg:xS)(L:Nat)(C:List (List V))(D:List (V × V))(E:List V)(A:Bool→List (V × V)→List V→Option β)(z:zjv β):Option β:=ifb (decide (((XJ C:Nat):Int)>(512:Int))) (A false D E) (z (-1:Int) (0:Int) C ((XJ C:Nat):Int) (0:Int) D E)
theorem zsY{β:Type}(xg:xS)(L:Nat)(C:List (List V))(z:List (V × V))(A:List V)(k:KK β):xn zah (zag xg L) L za0 [(V.sl 5 C),(V.mp 0),(V.fn 296 [(V.ptr 1 0)])] [(.mp z),(.live true A)] k=zky xg L C z A (fun C z A=>k (V.sc (.bool C)) [(.mp z),(.live true A)]) (fun G I D E F z A=>xD (zk zah (zag xg L) 2 L zb6) zdB L (zcK G I D E F z A) (xE 0 (xR (zk zah (zag xg L) 2 L zer) (zY 2 (CF.res za0) k)))):=by kernel_rfl
def zfJ{β:Type}(xg:xS)(L:Nat)(O p8:Int)(I:List (List V))(J E:Int)(C:List (V × V))(M:List V)(z:Bool→List (V × V)→List V→Option β)(A:zjv β)(P:List (V × V)→List V→Option β):Option β:=ifb (decide (E<J)) (idx I E fun c0=>chk ((XJ (XL 5 c0))=5∧0+5≤5) (lt (zg [(Qe (0:Int)),(Qc (0:Int)),(Qb (0:Int)),(Qc (0:Int)),(Qc (0:Int))] 0 (XL 5 c0)) fun r1=>cI .i64 r1 0 fun v2=>ifb (decide (v2<O)) (z false C M) (cI .i64 r1 0 fun v3=>chk (0+5≤(XJ r1)) (xg β L (XL 5 r1) M (fun v4 D=>chk ([(XJ D)]=[(XJ M)]) (ifb ((v3:Int) != v4) (z false C D) (cI .i64 r1 0 fun v6=>ifb ((v6:Int) != O) (cI .i64 r1 0 fun v7=>lt (QF .i64 (((0:Int):Int)+(1:Int))) fun Q=>cI .u32 r1 1 fun v9=>cI .u16 r1 2 fun R=>lt [(Qc v9),(Qb R)] fun F=>ifb (decide (Q>(8:Int))) (z false C D) (chk (0+2≤(XJ F)) (mAt 4 (V.agg (XL 2 F)) C fun S=>aB (XP S (V.sc (.bool false))) fun U=>ifb U (z false C D) (chk (0+2≤(XJ F)) (zqE 4 (V.agg (XL 2 F)) (V.sc (.bool true)) C fun W=>lt (QF .i64 ((E:Int)+(1:Int))) fun X=>A v7 Q I J X W D))))) (lt (QF .i64 ((p8:Int)+(1:Int))) fun N=>cI .u32 r1 1 fun Y=>cI .u16 r1 2 fun Z=>lt [(Qc Y),(Qb Z)] fun G=>ifb (decide (N>(8:Int))) (z false C D) (chk (0+2≤(XJ G)) (mAt 4 (V.agg (XL 2 G)) C fun aa=>aB (XP aa (V.sc (.bool false))) fun ab=>ifb ab (z false C D) (chk (0+2≤(XJ G)) (zqE 4 (V.agg (XL 2 G)) (V.sc (.bool true)) C fun ac=>lt (QF .i64 ((E:Int)+(1:Int))) fun ad=>A O N I J ad ac D)))))))))))) (P C M)
theorem zoA{β:Type}(xg:xS)(L:Nat)(F G:Int)(C:List (List V))(D E:Int)(z:List (V × V))(A:List V)(X:St→Option β)(K:KT β):zk zah (zag xg L) 2 L zb6 (zcK F G C D E z A) (zcv zdB X K)=zfJ xg L F G C D E z A (fun I z A=>K .ret (zgr I z A)) (fun F G C D E z A=>X (zcK F G C D E z A)) (fun z A=>K (.exit 0) (zgM z A)):=by kernel_rfl
def zen{β:Type}(xg:xS)(L:Nat)(A:Bool)(C:List (V × V))(D:List V)(z:Bool→List (V × V)→List V→Option β):Option β:=z A C D
theorem zmU{β:Type}(xg:xS)(L:Nat)(C:Bool)(z:List (V × V))(A:List V)(k:KK β):(xE 0 (xR (zk zah (zag xg L) 2 L zer) (zY 2 (CF.res za0) k))) .ret (zgr C z A)=zen xg L C z A (fun D z A=>k (V.sc (.bool D)) [(.mp z),(.live true A)]):=by kernel_rfl
def zeN{β:Type}(xg:xS)(L:Nat)(A:List (V × V))(C:List V)(z:Bool→List (V × V)→List V→Option β):Option β:=z true A C
theorem znQ{β:Type}(xg:xS)(L:Nat)(z:List (V × V))(A:List V)(k:KK β):(xE 0 (xR (zk zah (zag xg L) 2 L zer) (zY 2 (CF.res za0) k))) (.exit 0) (zgM z A)=zeN xg L z A (fun C z A=>k (V.sc (.bool C)) [(.mp z),(.live true A)]):=by kernel_rfl
def zbu{β:Type}(xg:xS)(L:Nat)(z:Bool→List (V × V)→List V→Option β)(A:List (V × V)→List V→Option β):Nat→Int→Int→List (List V)→Int→Int→List (V × V)→List V→Option β
 | 0,_,_,_,_,_,_,_=>none
 | n+1,F,G,C,D,E,I,J=>zfJ xg L F G C D E I J z (fun F G C D E I J=>zbu xg L z A n F G C D E I J) A
theorem zid{β:Type}(xg:xS)(L:Nat)(K:KT β):∀ (n:Nat) (F G:Int) (C:List (List V)) (D E:Int) (z:List (V × V)) (A:List V),xD (zk zah (zag xg L) 2 L zb6) zdB n (zcK F G C D E z A) K=zbu xg L (fun I z A=>K .ret (zgr I z A)) (fun z A=>K (.exit 0) (zgM z A)) n F G C D E z A:=by
 intro n
 induction n with
 | zero=>intros; rfl
 | succ n ih=>
  intro F G C D E z A
  refine (zoA xg L F G C D E z A (fun σ=>xD (zk zah (zag xg L) 2 L zb6) zdB n σ K) K).trans ?_
  simp only [ih]
  rfl
def zhe{β:Type}(xg:xS)(L:Nat)(G:List (List V))(A:List (V × V))(C:List V)(z:Bool→List (V × V)→List V→Option β):Option β:=zky xg L G A C z (fun I J D E F A C=>zbu xg L (fun M A C=>zen xg L M A C z) (fun A C=>zeN xg L A C z) L I J D E F A C)
theorem zs8{β:Type}(xg:xS)(L:Nat)(z:List (List V))(A:List (V × V))(C:List V)(k:KK β):xn zah (zag xg L) L za0 [(V.sl 5 z),(V.mp 0),(V.fn 296 [(V.ptr 1 0)])] [(.mp A),(.live true C)] k=zhe xg L z A C (fun z A C=>k (V.sc (.bool z)) [(.mp A),(.live true C)]):=by
 refine (zsY xg L z A C k).trans ?_
 unfold zhe
 first
  | (simp only [zid,zmU,znQ]; done)
  | (simp only [zid]; rfl)
abbrev zgU:=∀ (β:Type),Nat→List (List V)→List (V × V)→List V→(Bool→List (V × V)→List V→Option β)→Option β
def xM(β:Type)(L:Nat)(A:List (List V))(C:List (V × V))(D:List V)(z:Bool→List (V × V)→List V→Option β):Option β:=zhe xg L A C D z
def zgZ(xM:zgU)(L:Nat)(β:Type)(args:List V)(bor:Bor)(k:KK β):Option β:=match args,bor with
 | [a0,a1,a2],[(.mp z),(.live true A)]=>aL 5 a0 fun C=>aM 0 a1 (aF 296 [(1,0)] a2 (xM β L C z A (fun C z A=>k (V.sc (.bool C)) [(.mp z),(.live true A)])))
 | _,_=>none
theorem ztl(L:Nat)(β:Type)(args:List V)(bor:Bor)(k:KK β)(r:β)(h:zgZ xM L β args bor k=some r):xn zah (zag xg L) L za0 args bor k=some r:=by
 unfold zgZ at h
 split at h
 ·have q:=zaW h; clear h; obtain ⟨z,rfl,h⟩:=q
  have q:=zDb h; clear h; obtain ⟨rfl,h⟩:=q
  have q:=zzN h; clear h; obtain ⟨rfl,h⟩:=q
  exact (zs8 xg L z _ _ k).trans h
 ·cases h
def zfr:CF:=⟨10,[.tmp 4],(.seq (.reg [Qi 4 (.const (.gs 1 []))]) (.seq (.reg [Qh 5 (tq 0),Qh 6 (tq 1),Qu 7 .u64 (tq 6),Qs 8 192 [(Qw 7),((Qf 2),0)],Qs 9 191 [(Qw 5),(Qw 8)],Qi 4 (tq 9)]) .ret))⟩
def zlx:Hint:=⟨[(0,0),(1,5)],[],[none],[],[],false,false,[]⟩
def zip:Nat→Sh:=zU []
def ziv(zz:zdu)(yz:zds)(L:Nat):CBC:=(yx 191 (zgu yz L) (yx 192 (zgv zz L) noC))
def zjD{β:Type}(zz:zdu)(yz:zds)(L:Nat)(A:List (List V))(C:Int)(z:List (List V)→Option β):Option β:=lt (QF .u64 C) fun D=>zz β L D (2:Int) (fun E=>yz β L A E (fun F=>z F))
theorem zsB{β:Type}(zz:zdu)(yz:zds)(L:Nat)(z:List (List V))(A:Int)(k:KK β):xn zip (ziv zz yz L) L zfr [(V.sl 1 z),(Qb A)] [] k=zjD zz yz L z A (fun z=>k (V.gs 1 z) []):=by kernel_rfl
abbrev zfZ:=∀ (β:Type),Nat→List (List V)→Int→(List (List V)→Option β)→Option β
def xK(β:Type)(L:Nat)(A:List (List V))(C:Int)(z:List (List V)→Option β):Option β:=zjD zz yz L A C z
def zfV(xK:zfZ)(L:Nat)(β:Type)(args:List V)(bor:Bor)(k:KK β):Option β:=match args,bor with
 | [a0,a1],[]=>aL 1 a0 fun z=>aI .u16 a1 fun A=>xK β L z A (fun z=>k (V.gs 1 z) [])
 | _,_=>none
theorem zsq(L:Nat)(β:Type)(args:List V)(bor:Bor)(k:KK β)(r:β)(h:zfV xK L β args bor k=some r):xn zip (ziv zz yz L) L zfr args bor k=some r:=by
 unfold zfV at h
 split at h
 ·have q:=zaW h; clear h; obtain ⟨z,rfl,h⟩:=q
  have q:=yw h; clear h; obtain ⟨A,rfl,h⟩:=q
  exact (zsB zz yz L z A k).trans h
 ·cases h
def zc9:CF:=⟨32,[.tmp 4],(.seq (.reg [Qv 2 (tq 0),Qv 3 (tq 1),Qh 4 (Qf 0)]) (.seq (.reg [Qk 8 32 (tq 2),Qs 9 109 [(Qw 8)],oo 5 (.alloc true [(.sc (.int .u64 0)),(.sc (.int .u64 0))]),Qm 2 (tq 5) (tq 9)]) (.seq (.dreg [] [(Qk 10 2 (tq 5),ql 5 [3] [11]),(oo 11 (.buildSlice 1 1 [(.sc (.int .u8 0))] [(0,1,(.const (.sc (.int .u8 4))))]),qn [5,3] []),(Ql 12 0 (tq 3),q0),(Qj 13 1 (tq 12),ql 3 [5] [11]),(Qs 14 157 [(Qw 11),(Qw 13)],qc [5,3] []),(Ql 15 1 (tq 3),q0),(Qj 16 1 (tq 15),ql 3 [5] [11]),(Qs 17 205 [(Qw 14),(Qw 16)],qc [5] []),(Qs 18 105 [(Qw 10),(Qw 17)],q0),(oo 19 (.bin .rem (tq 18) (.const (.sc (.int .u64 4)))),q0),(Qh 6 (tq 19),q0)]) (.seq (.reg [oo 20 (.buildSlice 1 1 [(.sc (.int .u8 0))] [(0,1,(.const (.sc (.int .u8 3))))]),Qk 21 3 (tq 3),Qs 22 269 [(Qw 21)],Qs 23 157 [(Qw 20),(Qw 22)],Qh 24 (tq 6),Qu 25 .u32 (tq 24),Qs 26 157 [(Qw 23),(Qw 25)],Qh 7 (tq 26)]) (.seq (.reg [Qk 27 2 (tq 5),Qh 28 (tq 7),Qs 29 105 [(Qw 27),(Qw 28)],oo 30 (.bin .rem (tq 29) (.const (.sc (.int .u64 64)))),Qu 31 .i64 (tq 30),Qh 4 (tq 31)]) .ret)))))⟩
def zh4:Hint:=⟨[],[],[none],[],[],false,false,[]⟩
def ze4:Nat→Sh:=zU [(13,(.int .u32)),(16,(.int .u16))]
def ze7(zV:ziR)(zp:zca)(xK:zfZ)(yP:zi1)(yh:yZ)(L:Nat):CBC:=(yx 269 (zcz yh L) (yx 105 (znH yP L) (yx 205 (zfV xK L) (yx 157 (zd9 zp L) (yx 109 (znX zV L) noC)))))
def zfI{β:Type}(zV:ziR)(zp:zca)(xK:zfZ)(yP:zi1)(yh:yZ)(L:Nat)(C z:List V)(A:Int→Option β):Option β:=chk (0+32≤(XJ C)) (zV β L (XL 32 C) (fun D=>chk ((XJ D)=2∧0+2≤2) (lt (zg [(Qd (0:Int)),(Qd (0:Int))] 0 D) fun r1=>chk (0+2≤(XJ r1)) (cI .u32 z 0 fun M=>zp β L (xe 1 1 [(Qa (4:Int))]) M (fun N=>cI .u16 z 1 fun O=>xK β L N O (fun P=>yP β L (XL 2 r1) P (fun Q=>lt (XQ Q (4:Int)) fun R=>chk (0+3≤(XJ z)) (yh β L (XL 3 z) (fun S=>zp β L (xe 1 1 [(Qa (3:Int))]) S (fun U=>lt (QF .u32 R) fun E=>zp β L U E (fun F=>chk (0+2≤(XJ r1)) (yP β L (XL 2 r1) F (fun G=>lt (XQ G (64:Int)) fun I=>lt (QF .i64 I) fun J=>A J)))))))))))))
theorem zoS{β:Type}(zV:ziR)(zp:zca)(xK:zfZ)(yP:zi1)(yh:yZ)(L:Nat)(z A:List V)(k:KK β):xn ze4 (ze7 zV zp xK yP yh L) L zc9 [(V.agg z),(V.agg A)] [] k=zfI zV zp xK yP yh L z A (fun z=>k (Qe z) []):=by kernel_rfl
abbrev zaQ:=∀ (β:Type),Nat→List V→List V→(Int→Option β)→Option β
def xm(β:Type)(L:Nat)(A C:List V)(z:Int→Option β):Option β:=zfI zV zp xK yP yh L A C z
def zcq(xm:zaQ)(L:Nat)(β:Type)(args:List V)(bor:Bor)(k:KK β):Option β:=match args,bor with
 | [a0,a1],[]=>aG a0 fun z=>aG a1 fun A=>xm β L z A (fun z=>k (Qe z) [])
 | _,_=>none
theorem zoC(L:Nat)(β:Type)(args:List V)(bor:Bor)(k:KK β)(r:β)(h:zcq xm L β args bor k=some r):xn ze4 (ze7 zV zp xK yP yh L) L zc9 args bor k=some r:=by
 unfold zcq at h
 split at h
 ·have q:=yM h; clear h; obtain ⟨z,rfl,h⟩:=q
  have q:=yM h; clear h; obtain ⟨A,rfl,h⟩:=q
  exact (zoS zV zp xK yP yh L z A k).trans h
 ·cases h
def zeS:CF:=⟨9,[.tmp 3],(.seq (.reg [Qv 2 (tq 0),Qh 3 (Qf 0)]) (.seq (.reg [Ql 4 0 (tq 1),Qk 5 32 (tq 4),Ql 6 1 (tq 2),Qk 7 3 (tq 6),Qs 8 299 [(Qw 5),(Qw 7)],Qh 3 (tq 8)]) .ret))⟩
def zlf:Hint:=⟨[],[],[none],[],[],false,false,[]⟩
def zhL:Nat→Sh:=zU []
def zhK(xm:zaQ)(L:Nat):CBC:=(yx 299 (zcq xm L) noC)
def ziS{β:Type}(xm:zaQ)(L:Nat)(C A:List V)(z:Int→List V→Option β):Option β:=chk (0+32≤(XJ A)) (chk (1+3≤(XJ C)) (xm β L (XL 32 A) (XL 3 (XM 1 C)) (fun D=>z D A)))
theorem zrl{β:Type}(xm:zaQ)(L:Nat)(z A:List V)(k:KK β):xn zhL (zhK xm L) L zeS [(V.agg z),(V.ptr 0 0)] [(.live true A)] k=ziS xm L z A (fun z A=>k (Qe z) [(.live true A)]):=by kernel_rfl
abbrev yT:=∀ (β:Type),Nat→List V→List V→(Int→List V→Option β)→Option β
def yg(β:Type)(L:Nat)(A C:List V)(z:Int→List V→Option β):Option β:=ziS xm L A C z
def zfk(yg:yT)(L:Nat)(β:Type)(args:List V)(bor:Bor)(k:KK β):Option β:=match args,bor with
 | [a0,a1],[(.live true z)]=>aG a0 fun A=>aP 0 0 a1 (yg β L A z (fun A z=>k (Qe A) [(.live true z)]))
 | _,_=>none
theorem zrn(L:Nat)(β:Type)(args:List V)(bor:Bor)(k:KK β)(r:β)(h:zfk yg L β args bor k=some r):xn zhL (zhK xm L) L zeS args bor k=some r:=by
 unfold zfk at h
 split at h
 ·have q:=yM h; clear h; obtain ⟨z,rfl,h⟩:=q
  have q:=znI h; clear h; obtain ⟨rfl,h⟩:=q
  exact (zrl xm L z _ k).trans h
 ·cases h
def zcw:CC:=(.seq (.reg [Qp 18 .lss (tq 17) (tq 16)]) (.seq (.cond (tq 18) .skip (.seq (.mask (bl 0 58) (bl 288230375077966399 58)) (.exit 0))) (.seq (.block 1 (.seq (.reg [Qo 19 5 (tq 15) (tq 17),Qk 20 5 (tq 19),oo 10 (.alloc true [(.sc (.int .i64 0)),(.sc (.int .u32 0)),(.sc (.int .u16 0)),(.sc (.int .u32 0)),(.sc (.int .u32 0))]),Qm 5 (tq 10) (tq 20)]) (.seq (.seq (.dreg [] [(Ql 21 0 (tq 10),q0),(Qj 22 1 (tq 21),q0),(Qh 23 (tq 7),q0),(Qp 24 .lss (tq 22) (tq 23),q0),(Qh 25 (tq 24),q0),(⟨(some 26),false,(some (25,false)),.fieldAddr 0 (tq 10)⟩,q0),(⟨(some 27),false,(some (25,false)),.load false 1 (tq 26) false⟩,ql 10 [] []),(⟨(some 28),false,(some (25,false)),.move (tq 2) false⟩,q0),(⟨(some 29),false,(some (25,false)),.load true 5 (tq 10) false⟩,ql 10 [] []),(⟨(some 30),false,(some (25,false)),.callv (tq 28) [(Qw 29)] []⟩,qc [10] []),(⟨(some 31),false,(some (25,false)),.bin .neq (tq 27) (tq 30)⟩,q0),(oo 32 (.pick (tq 25) (Qg true) (tq 31)),q0)]) (.cond (tq 32) (.seq (.reg [Qh 6 (Qg false)]) (.seq (.mask (bl 64 58) (bl 288230375077966463 58)) .ret)) .skip)) (.seq (.seq (.reg [Ql 33 0 (tq 10),Qj 34 1 (tq 33),Qh 35 (tq 7),Qp 36 .neq (tq 34) (tq 35)]) (.cond (tq 36) (.reg [Ql 37 0 (tq 10),Qj 38 1 (tq 37),Qh 7 (tq 38),Qh 8 (Qf 0)]) .skip)) (.seq (.reg [Qh 39 (tq 8),Qp 40 .add (tq 39) (Qf 1),Qh 8 (tq 40)]) (.seq (.reg [Ql 41 1 (tq 10),Ql 42 0 (tq 41),Qj 43 1 (tq 42),Ql 44 1 (tq 10),Ql 45 1 (tq 44),Qj 46 1 (tq 45),oo 47 (.build [(.sc (.int .u32 0)),(.sc (.int .u16 0))] [(0,1,(tq 43)),(1,1,(tq 46))]),oo 11 (.alloc true [(.sc (.int .u32 0)),(.sc (.int .u16 0))]),Qm 2 (tq 11) (tq 47)]) (.seq (.seq (.reg [Qh 48 (tq 8),Qp 49 .gtr (tq 48) (Qf 8),Qh 50 (tq 49),⟨(some 51),false,(some (50,false)),.move (tq 1) false⟩,⟨(some 52),false,(some (50,false)),.load true 2 (tq 11) false⟩,⟨(some 53),false,(some (50,false)),.mlook 4 false (.sc (.bool false)) (tq 51) (tq 52)⟩,oo 54 (.pick (tq 50) (Qg true) (tq 53))]) (.cond (tq 54) (.seq (.reg [Qh 6 (Qg false)]) (.seq (.mask (bl 64 58) (bl 288230375077966463 58)) .ret)) .skip)) (.reg [Qh 55 (tq 1),Qk 56 2 (tq 11),oz (.mput 4 (tq 55) (tq 56) (Qg true))])))))))) (.reg [Qp 57 .add (tq 17) (Qf 1),Qh 17 (tq 57)]))))
def zfe:CC:=(.seq (.reg [Qh 6 (Qg true)]) .ret)
def zbX:CF:=za0
def zX:Nat→Sh:=zU [(22,(.int .i64)),(27,(.int .i64)),(34,(.int .i64)),(38,(.int .i64)),(43,(.int .u32)),(46,(.int .u16)),(53,.bool)]
def yX(yg:yT)(L:Nat):CBC:=(yx 298 (zfk yg L) noC)
def zcI:St→St:=zbg 2 (bl 229766 58) (bl 288230375077966783 58)
def zb0(D E:Int)(z:List (List V))(A C:Int)(F:List (V × V))(G:List V):St:=⟨(jn 1 ((V.mp 0)::((V.fn 298 [(V.ptr 1 0)])::(jn 4 ((Qe D)::((Qe E)::(jn 6 ((V.sl 5 z)::((Qe A)::((Qe C)::(jn 40 []))))))))))),((.mp F)::((.live true G)::(gn 58 [])))⟩
def zeF(z:Bool)(A:List (V × V))(C:List V):St:=⟨(jn 6 ((V.sc (.bool z))::(jn 51 []))),((.mp A)::((.live true C)::(gn 58 [])))⟩
def ze5(z:List (V × V))(A:List V):St:=⟨(jn 58 []),((.mp z)::((.live true A)::(gn 58 [])))⟩
abbrev zhz(β:Type):Type:=Int→Int→List (List V)→Int→Int→List (V × V)→List V→Option β
def zhG{β:Type}(yg:yT)(L:Nat)(C:List (List V))(D:List (V × V))(E:List V)(A:Bool→List (V × V)→List V→Option β)(z:zhz β):Option β:=ifb (decide (((XJ C:Nat):Int)>(512:Int))) (A false D E) (z (-1:Int) (0:Int) C ((XJ C:Nat):Int) (0:Int) D E)
theorem zqY{β:Type}(yg:yT)(L:Nat)(C:List (List V))(z:List (V × V))(A:List V)(k:KK β):xn zX (yX yg L) L zbX [(V.sl 5 C),(V.mp 0),(V.fn 298 [(V.ptr 1 0)])] [(.mp z),(.live true A)] k=zhG yg L C z A (fun C z A=>k (V.sc (.bool C)) [(.mp z),(.live true A)]) (fun G I D E F z A=>xD (zk zX (yX yg L) 2 L zcw) zcI L (zb0 G I D E F z A) (xE 0 (xR (zk zX (yX yg L) 2 L zfe) (zY 2 (CF.res zbX) k)))):=by kernel_rfl
def zek{β:Type}(yg:yT)(L:Nat)(O p8:Int)(I:List (List V))(J E:Int)(C:List (V × V))(M:List V)(z:Bool→List (V × V)→List V→Option β)(A:zhz β)(P:List (V × V)→List V→Option β):Option β:=ifb (decide (E<J)) (idx I E fun c0=>chk ((XJ (XL 5 c0))=5∧0+5≤5) (lt (zg [(Qe (0:Int)),(Qc (0:Int)),(Qb (0:Int)),(Qc (0:Int)),(Qc (0:Int))] 0 (XL 5 c0)) fun r1=>cI .i64 r1 0 fun v2=>ifb (decide (v2<O)) (z false C M) (cI .i64 r1 0 fun v3=>chk (0+5≤(XJ r1)) (yg β L (XL 5 r1) M (fun v4 D=>chk ([(XJ D)]=[(XJ M)]) (ifb ((v3:Int) != v4) (z false C D) (cI .i64 r1 0 fun v6=>ifb ((v6:Int) != O) (cI .i64 r1 0 fun v7=>lt (QF .i64 (((0:Int):Int)+(1:Int))) fun Q=>cI .u32 r1 1 fun v9=>cI .u16 r1 2 fun R=>lt [(Qc v9),(Qb R)] fun F=>ifb (decide (Q>(8:Int))) (z false C D) (chk (0+2≤(XJ F)) (mAt 4 (V.agg (XL 2 F)) C fun S=>aB (XP S (V.sc (.bool false))) fun U=>ifb U (z false C D) (chk (0+2≤(XJ F)) (zqE 4 (V.agg (XL 2 F)) (V.sc (.bool true)) C fun W=>lt (QF .i64 ((E:Int)+(1:Int))) fun X=>A v7 Q I J X W D))))) (lt (QF .i64 ((p8:Int)+(1:Int))) fun N=>cI .u32 r1 1 fun Y=>cI .u16 r1 2 fun Z=>lt [(Qc Y),(Qb Z)] fun G=>ifb (decide (N>(8:Int))) (z false C D) (chk (0+2≤(XJ G)) (mAt 4 (V.agg (XL 2 G)) C fun aa=>aB (XP aa (V.sc (.bool false))) fun ab=>ifb ab (z false C D) (chk (0+2≤(XJ G)) (zqE 4 (V.agg (XL 2 G)) (V.sc (.bool true)) C fun ac=>lt (QF .i64 ((E:Int)+(1:Int))) fun ad=>A O N I J ad ac D)))))))))))) (P C M)
theorem zm3{β:Type}(yg:yT)(L:Nat)(F G:Int)(C:List (List V))(D E:Int)(z:List (V × V))(A:List V)(X:St→Option β)(K:KT β):zk zX (yX yg L) 2 L zcw (zb0 F G C D E z A) (zcv zcI X K)=zek yg L F G C D E z A (fun I z A=>K .ret (zeF I z A)) (fun F G C D E z A=>X (zb0 F G C D E z A)) (fun z A=>K (.exit 0) (ze5 z A)):=by kernel_rfl
def zdn{β:Type}(yg:yT)(L:Nat)(A:Bool)(C:List (V × V))(D:List V)(z:Bool→List (V × V)→List V→Option β):Option β:=z A C D
theorem zlh{β:Type}(yg:yT)(L:Nat)(C:Bool)(z:List (V × V))(A:List V)(k:KK β):(xE 0 (xR (zk zX (yX yg L) 2 L zfe) (zY 2 (CF.res zbX) k))) .ret (zeF C z A)=zdn yg L C z A (fun D z A=>k (V.sc (.bool D)) [(.mp z),(.live true A)]):=by kernel_rfl
def zdG{β:Type}(yg:yT)(L:Nat)(A:List (V × V))(C:List V)(z:Bool→List (V × V)→List V→Option β):Option β:=z true A C
theorem zmm{β:Type}(yg:yT)(L:Nat)(z:List (V × V))(A:List V)(k:KK β):(xE 0 (xR (zk zX (yX yg L) 2 L zfe) (zY 2 (CF.res zbX) k))) (.exit 0) (ze5 z A)=zdG yg L z A (fun C z A=>k (V.sc (.bool C)) [(.mp z),(.live true A)]):=by kernel_rfl
def zaV{β:Type}(yg:yT)(L:Nat)(z:Bool→List (V × V)→List V→Option β)(A:List (V × V)→List V→Option β):Nat→Int→Int→List (List V)→Int→Int→List (V × V)→List V→Option β
 | 0,_,_,_,_,_,_,_=>none
 | n+1,F,G,C,D,E,I,J=>zek yg L F G C D E I J z (fun F G C D E I J=>zaV yg L z A n F G C D E I J) A
theorem zgc{β:Type}(yg:yT)(L:Nat)(K:KT β):∀ (n:Nat) (F G:Int) (C:List (List V)) (D E:Int) (z:List (V × V)) (A:List V),xD (zk zX (yX yg L) 2 L zcw) zcI n (zb0 F G C D E z A) K=zaV yg L (fun I z A=>K .ret (zeF I z A)) (fun z A=>K (.exit 0) (ze5 z A)) n F G C D E z A:=by
 intro n
 induction n with
 | zero=>intros; rfl
 | succ n ih=>
  intro F G C D E z A
  refine (zm3 yg L F G C D E z A (fun σ=>xD (zk zX (yX yg L) 2 L zcw) zcI n σ K) K).trans ?_
  simp only [ih]
  rfl
def zeZ{β:Type}(yg:yT)(L:Nat)(G:List (List V))(A:List (V × V))(C:List V)(z:Bool→List (V × V)→List V→Option β):Option β:=zhG yg L G A C z (fun I J D E F A C=>zaV yg L (fun M A C=>zdn yg L M A C z) (fun A C=>zdG yg L A C z) L I J D E F A C)
theorem zq3{β:Type}(yg:yT)(L:Nat)(z:List (List V))(A:List (V × V))(C:List V)(k:KK β):xn zX (yX yg L) L zbX [(V.sl 5 z),(V.mp 0),(V.fn 298 [(V.ptr 1 0)])] [(.mp A),(.live true C)] k=zeZ yg L z A C (fun z A C=>k (V.sc (.bool z)) [(.mp A),(.live true C)]):=by
 refine (zqY yg L z A C k).trans ?_
 unfold zeZ
 first
  | (simp only [zgc,zlh,zmm]; done)
  | (simp only [zgc]; rfl)
abbrev ze1:=∀ (β:Type),Nat→List (List V)→List (V × V)→List V→(Bool→List (V × V)→List V→Option β)→Option β
def yG(β:Type)(L:Nat)(A:List (List V))(C:List (V × V))(D:List V)(z:Bool→List (V × V)→List V→Option β):Option β:=zeZ yg L A C D z
def zeR(yG:ze1)(L:Nat)(β:Type)(args:List V)(bor:Bor)(k:KK β):Option β:=match args,bor with
 | [a0,a1,a2],[(.mp z),(.live true A)]=>aL 5 a0 fun C=>aM 0 a1 (aF 298 [(1,0)] a2 (yG β L C z A (fun C z A=>k (V.sc (.bool C)) [(.mp z),(.live true A)])))
 | _,_=>none
theorem zqG(L:Nat)(β:Type)(args:List V)(bor:Bor)(k:KK β)(r:β)(h:zeR yG L β args bor k=some r):xn zX (yX yg L) L zbX args bor k=some r:=by
 unfold zeR at h
 split at h
 ·have q:=zaW h; clear h; obtain ⟨z,rfl,h⟩:=q
  have q:=zDb h; clear h; obtain ⟨rfl,h⟩:=q
  have q:=zzN h; clear h; obtain ⟨rfl,h⟩:=q
  exact (zq3 yg L z _ _ k).trans h
 ·cases h
def zfW:CF:=⟨17,[.tmp 2],(.seq (.reg [Qv 1 (tq 0),Qh 2 (Qg false)]) (.seq (.reg [oo 4 (.makeMap),Qh 3 (tq 4)]) (.seq (.reg [Ql 5 32 (tq 1),Qj 6 1 (tq 5),Qh 7 (tq 3),oo 8 (.makeFunc 296 [(tq 1)]),Qs 9 295 [(Qw 6),(Qw 7),(Qw 8)],Qh 10 (tq 9),⟨(some 11),false,(some (10,true)),.fieldAddr 33 (tq 1)⟩,⟨(some 12),false,(some (10,true)),.load false 1 (tq 11) false⟩,⟨(some 13),false,(some (10,true)),.move (tq 3) false⟩,⟨(some 14),false,(some (10,true)),.makeFunc 298 [(tq 1)]⟩,⟨(some 15),false,(some (10,true)),.call 295 [(Qw 12),(Qw 13),(Qw 14)] []⟩,oo 16 (.pick (tq 10) (tq 15) (Qg false)),Qh 2 (tq 16)]) .ret)))⟩
def zmF:Hint:=⟨[(0,0)],[],[none],[],[],false,false,[]⟩
def zjG:Nat→Sh:=zU [(6,(.sl 5)),(12,(.sl 5))]
def zjC(xM:zgU)(yG:ze1)(L:Nat):CBC:=(zBZ 295 [6,12,398,22,20] (zeR yG L) (zBZ 295 [6,12,396,22,20] (zgZ xM L) noC))
def zkw{β:Type}(xM:zgU)(yG:ze1)(L:Nat)(C:List V)(z:Bool→Option β):Option β:=cLd 5 C 32 fun D=>xM β L D ([]:List (V × V)) C (fun E F A=>chk ([0,(XJ A)]=[0,(XJ C)]) (ifb E (cLd 5 A 33 fun G=>yG β L G F A (fun I M J=>chk ([0,(XJ J)]=[0,(XJ A)]) (z I))) (z false)))
theorem zs3{β:Type}(xM:zgU)(yG:ze1)(L:Nat)(z:List V)(k:KK β):xn zjG (zjC xM yG L) L zfW [(V.agg z)] [] k=zkw xM yG L z (fun z=>k (V.sc (.bool z)) []):=by kernel_rfl
abbrev zcy:=∀ (β:Type),Nat→List V→(Bool→Option β)→Option β
def yu(β:Type)(L:Nat)(A:List V)(z:Bool→Option β):Option β:=zkw xM yG L A z
def zeJ(yu:zcy)(L:Nat)(β:Type)(args:List V)(bor:Bor)(k:KK β):Option β:=match args,bor with
 | [a0],[]=>aG a0 fun z=>yu β L z (fun z=>k (V.sc (.bool z)) [])
 | _,_=>none
theorem zte(L:Nat)(β:Type)(args:List V)(bor:Bor)(k:KK β)(r:β)(h:zeJ yu L β args bor k=some r):xn zjG (zjC xM yG L) L zfW args bor k=some r:=by
 unfold zeJ at h
 split at h
 ·have q:=yM h; clear h; obtain ⟨z,rfl,h⟩:=q
  exact (zs3 xM yG L z k).trans h
 ·cases h
def zaM:CF:=⟨8,[.tmp 2],(.seq (.reg [Qi 2 (.const (.gs 5 []))]) (.fork (.reg [Qh 3 (tq 0),oo 4 (.nilT false (tq 3))]) (tq 4) (.seq (.reg [oo 2 (.nilS 5 7)]) (.seq (.mask (bl 4 8) (bl 128 8)) .ret)) (.seq (.reg [⟨(some 5),true,none,.buildSlice 5 0 [(.sc (.int .i64 0)),(.sc (.int .u32 0)),(.sc (.int .u16 0)),(.sc (.int .u32 0)),(.sc (.int .u32 0))] []⟩,Qh 6 (tq 0),⟨(some 7),true,none,.append 5 24 (tq 5) (tq 6)⟩,Qi 2 (tq 7)]) (.seq (.mask (bl 4 8) (bl 128 8)) .ret))))⟩
def zde:Hint:=⟨[(0,0),(2,0),(3,3)],[(3,0),(3,2)],[none,some ((bl 4 8),(bl 128 8)),some ((bl 4 8),(bl 128 8))],[],[(2,0,[7])],false,false,[]⟩
def zbM:Nat→Sh:=zU []
def zbK(L:Nat):CBC:=noC
def zbY{β:Type}(L:Nat)(C:List (List V))(z:List (List V)→Option β):Option β:=lc C (z ([]:List (List V))) (fun h0 A=>chk ((0+XJ (h0::A))*24≤yn∧0+XJ (h0::A)≤yn) (chk ((XJ (h0::A))≠0∨(XJ (XO (h0::A)))=0) (z (xe 5 (XJ (h0::A)) (XO (h0::A))))))
theorem zhS{β:Type}(L:Nat)(z:List (List V))(k:KK β):xn zbM (zbK L) L zaM [(V.sl 5 z)] [] k=zbY L z (fun z=>k (V.fr 5 z) []):=by kernel_rfl
abbrev zaR:=∀ (β:Type),Nat→List (List V)→(List (List V)→Option β)→Option β
def zl(β:Type)(L:Nat)(A:List (List V))(z:List (List V)→Option β):Option β:=zbY L A z
def zaU(zl:zaR)(L:Nat)(β:Type)(args:List V)(bor:Bor)(k:KK β):Option β:=match args,bor with
 | [a0],[]=>aL 5 a0 fun z=>zl β L z (fun z=>k (V.fr 5 z) [])
 | _,_=>none
theorem zhM(L:Nat)(β:Type)(args:List V)(bor:Bor)(k:KK β)(r:β)(h:zaU zl L β args bor k=some r):xn zbM (zbK L) L zaM args bor k=some r:=by
 unfold zaU at h
 split at h
 ·have q:=zaW h; clear h; obtain ⟨z,rfl,h⟩:=q
  exact (zhS L z k).trans h
 ·cases h
def zfl:CF:=⟨12,[.cellS 2 34 false],(.seq (.reg [oo 1 (.box false (tq 0)),oo 2 (.alloc false (rp 32 (.sc (.int .u8 0)) (rp 2 (.gs 5 []) [])))]) (.seq (.reg [Ql 3 32 (tq 1),Qj 4 1 (tq 3),⟨(some 5),true,none,.call 401 [(Qw 4)] []⟩,Ql 6 32 (tq 1),Qm 1 (tq 6) (tq 5)]) (.seq (.reg [Ql 7 33 (tq 1),Qj 8 1 (tq 7),⟨(some 9),true,none,.call 401 [(Qw 8)] []⟩,Ql 10 33 (tq 1),Qm 1 (tq 10) (tq 9)]) (.seq (.reg [oo 11 (.load true 34 (tq 1) true),Qm 34 (tq 2) (tq 11)]) .ret))))⟩
def zmr:Hint:=⟨[(3,0)],[(1,2),(2,2)],[none],[],[],false,true,[]⟩
def zi7:Nat→Sh:=zU [(1,(.row [(.int .u8),(.int .u8),(.int .u8),(.int .u8),(.int .u8),(.int .u8),(.int .u8),(.int .u8),(.int .u8),(.int .u8),(.int .u8),(.int .u8),(.int .u8),(.int .u8),(.int .u8),(.int .u8),(.int .u8),(.int .u8),(.int .u8),(.int .u8),(.int .u8),(.int .u8),(.int .u8),(.int .u8),(.int .u8),(.int .u8),(.int .u8),(.int .u8),(.int .u8),(.int .u8),(.int .u8),(.int .u8),(.sl 5),(.sl 5)]))]
def ziQ(zl:zaR)(L:Nat):CBC:=(yx 401 (zaU zl L) noC)
abbrev zgL(β:Type):Type:=Int→Int→Int→Int→Int→Int→Int→Int→Int→Int→Int→Int→Int→Int→Int→Int→Int→Int→Int→Int→Int→Int→Int→Int→Int→Int→Int→Int→Int→Int→Int→Int→Nat→Nat→List V→List V→Option β
def zjS{β:Type}(zl:zaR)(L:Nat)(z:List V)(A:zgL β):Option β:=chk (XJ z=34) (cI .u8 z 0 fun v0=>cI .u8 z 1 fun v1=>cI .u8 z 2 fun v2=>cI .u8 z 3 fun v3=>cI .u8 z 4 fun v4=>cI .u8 z 5 fun v5=>cI .u8 z 6 fun v6=>cI .u8 z 7 fun v7=>cI .u8 z 8 fun v8=>cI .u8 z 9 fun v9=>cI .u8 z 10 fun E=>cI .u8 z 11 fun F=>cI .u8 z 12 fun G=>cI .u8 z 13 fun I=>cI .u8 z 14 fun J=>cI .u8 z 15 fun M=>cI .u8 z 16 fun N=>cI .u8 z 17 fun O=>cI .u8 z 18 fun P=>cI .u8 z 19 fun Q=>cI .u8 z 20 fun R=>cI .u8 z 21 fun S=>cI .u8 z 22 fun U=>cI .u8 z 23 fun W=>cI .u8 z 24 fun X=>cI .u8 z 25 fun Y=>cI .u8 z 26 fun Z=>cI .u8 z 27 fun aa=>cI .u8 z 28 fun ab=>cI .u8 z 29 fun ac=>cI .u8 z 30 fun ad=>cI .u8 z 31 fun ae=>cL 5 z 32 fun af=>cL 5 z 33 fun ag=>zl β L af (fun C=>zl β L ag (fun D=>A v0 v1 v2 v3 v4 v5 v6 v7 v8 v9 E F G I J M N O P Q R S U W X Y Z aa ab ac ad ae (XJ C) (XJ D) (XO C) (XO D))))
theorem zr0{β:Type}(zl:zaR)(L:Nat)(p0:List V)(k:KK β):xn zi7 (ziQ zl L) L zfl [(V.agg p0)] [] k=zjS zl L p0 (fun ad ae af ag ah ai aj ak al am C D E F G I J M N O P Q R S U W X Y Z aa ab ac z A b0 b1=>k (V.st [(Qa ad),(Qa ae),(Qa af),(Qa ag),(Qa ah),(Qa ai),(Qa aj),(Qa ak),(Qa al),(Qa am),(Qa C),(Qa D),(Qa E),(Qa F),(Qa G),(Qa I),(Qa J),(Qa M),(Qa N),(Qa O),(Qa P),(Qa Q),(Qa R),(Qa S),(Qa U),(Qa W),(Qa X),(Qa Y),(Qa Z),(Qa aa),(Qa ab),(Qa ac),(V.own 0 0 z 5),(V.own 1 0 A 5)]) [(.live true b0),(.live true b1)]):=by kernel_rfl
abbrev zf8:=∀ (β:Type),Nat→List V→(Int→Int→Int→Int→Int→Int→Int→Int→Int→Int→Int→Int→Int→Int→Int→Int→Int→Int→Int→Int→Int→Int→Int→Int→Int→Int→Int→Int→Int→Int→Int→Int→Nat→Nat→List V→List V→Option β)→Option β
def zK(β:Type)(L:Nat)(A:List V)(z:zgL β):Option β:=zjS zl L A z
def zf9(zK:zf8)(L:Nat)(β:Type)(args:List V)(bor:Bor)(k:KK β):Option β:=match args,bor with
 | [a0],[]=>aG a0 fun p0=>zK β L p0 (fun ad ae af ag ah ai aj ak al am C D E F G I J M N O P Q R S U W X Y Z aa ab ac z A b0 b1=>k (V.st [(Qa ad),(Qa ae),(Qa af),(Qa ag),(Qa ah),(Qa ai),(Qa aj),(Qa ak),(Qa al),(Qa am),(Qa C),(Qa D),(Qa E),(Qa F),(Qa G),(Qa I),(Qa J),(Qa M),(Qa N),(Qa O),(Qa P),(Qa Q),(Qa R),(Qa S),(Qa U),(Qa W),(Qa X),(Qa Y),(Qa Z),(Qa aa),(Qa ab),(Qa ac),(V.own 0 0 z 5),(V.own 1 0 A 5)]) [(.live true b0),(.live true b1)])
 | _,_=>none
theorem zrP(L:Nat)(β:Type)(args:List V)(bor:Bor)(k:KK β)(r:β)(h:zf9 zK L β args bor k=some r):xn zi7 (ziQ zl L) L zfl args bor k=some r:=by
 unfold zf9 at h
 split at h
 ·have q:=yM h; clear h; obtain ⟨z,rfl,h⟩:=q
  exact (zr0 zl L z k).trans h
 ·cases h
def zhn:CF:=⟨17,[.tmp 4],(.seq (.reg [Qv 2 (tq 0),Qv 3 (tq 1),Qh 4 (Qg false)]) (.seq (.reg [Ql 5 0 (tq 2),Qj 6 1 (tq 5),Ql 7 0 (tq 3),Qj 8 1 (tq 7),Qp 9 .eql (tq 6) (tq 8),Qh 10 (tq 9),⟨(some 11),false,(some (10,true)),.fieldAddr 1 (tq 2)⟩,⟨(some 12),false,(some (10,true)),.load false 1 (tq 11) false⟩,⟨(some 13),false,(some (10,true)),.fieldAddr 1 (tq 3)⟩,⟨(some 14),false,(some (10,true)),.load false 1 (tq 13) false⟩,⟨(some 15),false,(some (10,true)),.bin .eql (tq 12) (tq 14)⟩,oo 16 (.pick (tq 10) (tq 15) (Qg false)),Qh 4 (tq 16)]) .ret))⟩
def znK:Hint:=⟨[],[],[none],[],[],false,false,[]⟩
def zkH:Nat→Sh:=zU [(6,(.int .u32)),(8,(.int .u32)),(12,(.int .u16)),(14,(.int .u16))]
def zkN(L:Nat):CBC:=noC
def zlD{β:Type}(L:Nat)(A C:List V)(z:Bool→Option β):Option β:=cI .u32 A 0 fun D=>cI .u32 C 0 fun E=>ifb ((D:Int)==E) (cI .u16 A 1 fun F=>cI .u16 C 1 fun G=>z ((F:Int)==G)) (z false)
theorem ztV{β:Type}(L:Nat)(z A:List V)(k:KK β):xn zkH (zkN L) L zhn [(V.agg z),(V.agg A)] [] k=zlD L z A (fun z=>k (V.sc (.bool z)) []):=by kernel_rfl
abbrev zh2:=∀ (β:Type),Nat→List V→List V→(Bool→Option β)→Option β
def zS(β:Type)(L:Nat)(A C:List V)(z:Bool→Option β):Option β:=zlD L A C z
def zh6(zS:zh2)(L:Nat)(β:Type)(args:List V)(bor:Bor)(k:KK β):Option β:=match args,bor with
 | [a0,a1],[]=>aG a0 fun z=>aG a1 fun A=>zS β L z A (fun z=>k (V.sc (.bool z)) [])
 | _,_=>none
theorem zui(L:Nat)(β:Type)(args:List V)(bor:Bor)(k:KK β)(r:β)(h:zh6 zS L β args bor k=some r):xn zkH (zkN L) L zhn args bor k=some r:=by
 unfold zh6 at h
 split at h
 ·have q:=yM h; clear h; obtain ⟨z,rfl,h⟩:=q
  have q:=yM h; clear h; obtain ⟨A,rfl,h⟩:=q
  exact (ztV L z A k).trans h
 ·cases h
def zfy:CF:=⟨8,[.tmp 3],(.seq (.reg [Qv 2 (tq 0),Qh 3 (Qg false)]) (.seq (.reg [Ql 4 1 (tq 2),Qk 5 3 (tq 4),Qk 6 3 (tq 1),Qs 7 404 [(Qw 5),(Qw 6)],Qh 3 (tq 7)]) .ret))⟩
def zlZ:Hint:=⟨[],[],[none],[],[],false,false,[]⟩
def ziC:Nat→Sh:=zU []
def ziy(zS:zh2)(L:Nat):CBC:=(yx 404 (zh6 zS L) noC)
def zjI{β:Type}(zS:zh2)(L:Nat)(C A:List V)(z:Bool→List V→Option β):Option β:=chk (1+3≤(XJ C)) (chk (0+3≤(XJ A)) (zS β L (XL 3 (XM 1 C)) (XL 3 A) (fun D=>z D A)))
theorem zr2{β:Type}(zS:zh2)(L:Nat)(z A:List V)(k:KK β):xn ziC (ziy zS L) L zfy [(V.agg z),(V.ptr 0 0)] [(.live true A)] k=zjI zS L z A (fun z A=>k (V.sc (.bool z)) [(.live true A)]):=by kernel_rfl
abbrev zW:=∀ (β:Type),Nat→List V→List V→(Bool→List V→Option β)→Option β
def zh(β:Type)(L:Nat)(A C:List V)(z:Bool→List V→Option β):Option β:=zjI zS L A C z
def zga(zh:zW)(L:Nat)(β:Type)(args:List V)(bor:Bor)(k:KK β):Option β:=match args,bor with
 | [a0,a1],[(.live true z)]=>aG a0 fun A=>aP 0 0 a1 (zh β L A z (fun A z=>k (V.sc (.bool A)) [(.live true z)]))
 | _,_=>none
theorem zsd(L:Nat)(β:Type)(args:List V)(bor:Bor)(k:KK β)(r:β)(h:zga zh L β args bor k=some r):xn ziC (ziy zS L) L zfy args bor k=some r:=by
 unfold zga at h
 split at h
 ·have q:=yM h; clear h; obtain ⟨z,rfl,h⟩:=q
  have q:=znI h; clear h; obtain ⟨rfl,h⟩:=q
  exact (zr2 zS L z _ k).trans h
 ·cases h
def yU:CC:=(.seq (.reg [Qp 9 .lss (tq 8) (tq 7)]) (.seq (.cond (tq 9) .skip (.seq (.mask (bl 0 19) (bl 458703 19)) (.exit 0))) (.seq (.block 1 (.seq (.reg [Qh 10 (tq 8),Qh 5 (tq 10)]) (.seq (.reg [Qh 11 (tq 1),Qh 12 (tq 0),Qh 13 (tq 5),Qo 14 5 (tq 12) (tq 13),Qk 15 5 (tq 14),oo 16 (.callv (tq 11) [(Qw 15)] [])]) (.cond (tq 16) (.seq (.reg [Qh 17 (tq 5),Qh 4 (tq 17)]) (.seq (.mask (bl 16 19) (bl 458719 19)) .ret)) .skip)))) (.reg [Qp 18 .add (tq 8) (Qf 1),Qh 8 (tq 18)]))))
def zaf:CC:=(.seq (.reg [Qh 4 (Qf (-1))]) .ret)
def yE:CF:=⟨19,[.tmp 4],(.seq (.reg [Qh 4 (Qf 0)]) (.seq (.seq (.reg [Qh 6 (tq 0),Qr 7 (tq 6),Qh 8 (Qf 0)]) (.block 0 (.loop (bl 387 19) (bl 458703 19) yU))) zaf))⟩
def zcH:Hint:=⟨[],[],[none,some ((bl 387 19),(bl 458703 19)),none,some ((bl 0 19),(bl 458703 19)),none,none,some ((bl 16 19),(bl 458719 19)),none],[],[],false,false,[]⟩
def yv:Nat→Sh:=zU []
def zu(zh:zW)(L:Nat):CBC:=(yx 403 (zga zh L) noC)
def z9:St→St:=zbg 2 (bl 387 19) (bl 458703 19)
def xY(z:Nat)(A C:Int)(D E:List V):St:=⟨((V.own 0 0 z 5)::((V.fn 403 [(V.ptr 1 0)])::(jn 5 ((Qe A)::((Qe C)::(jn 10 [])))))),((.live true D)::((.live true E)::(gn 19 [])))⟩
def zaO(z:Int)(A C:List V):St:=⟨(jn 4 ((Qe z)::(jn 14 []))),((.live true A)::((.live true C)::(gn 19 [])))⟩
def zaZ(z A:List V):St:=⟨(jn 19 []),((.live true z)::((.live true A)::(gn 19 [])))⟩
def zbq{β:Type}(zh:zW)(L:Nat)(A:Nat)(C D:List V)(z:Nat→Int→Int→List V→List V→Option β):Option β:=z A ((A:Nat):Int) (0:Int) C D
theorem zgt{β:Type}(zh:zW)(L:Nat)(z:Nat)(A C:List V)(k:KK β):xn yv (zu zh L) L yE [(V.own 0 0 z 5),(V.fn 403 [(V.ptr 1 0)])] [(.live true A),(.live true C)] k=zbq zh L z A C (fun z D E A C=>xD (zk yv (zu zh L) 2 L yU) z9 L (xY z D E A C) (xE 0 (xR (zk yv (zu zh L) 2 L zaf) (zY 2 (CF.res yE) k)))):=by kernel_rfl
def zaX{β:Type}(zh:zW)(L:Nat)(E:Nat)(J z:Int)(C F:List V)(D:Int→List V→List V→Option β)(A:Nat→Int→Int→List V→List V→Option β)(G:List V→List V→Option β):Option β:=ifb (decide (z<J)) (chk (0≤z∧z<((E:Nat):Int)) (chk ((0+((XK z)*5))+5≤(XJ C)) (zh β L (XL 5 (XM (0+((XK z)*5)) C)) F (fun M I=>chk ([(XJ I)]=[(XJ F)]) (ifb M (D z C I) (lt (QF .i64 ((z:Int)+(1:Int))) fun N=>A E J N C I)))))) (G C F)
theorem ze6{β:Type}(zh:zW)(L:Nat)(C:Nat)(D E:Int)(z A:List V)(X:St→Option β)(K:KT β):zk yv (zu zh L) 2 L yU (xY C D E z A) (zcv z9 X K)=zaX zh L C D E z A (fun F z A=>K .ret (zaO F z A)) (fun C D E z A=>X (xY C D E z A)) (fun z A=>K (.exit 0) (zaZ z A)):=by kernel_rfl
def zb3{β:Type}(zh:zW)(L:Nat)(A:Int)(C D:List V)(z:Int→List V→List V→Option β):Option β:=z A C D
theorem zeu{β:Type}(zh:zW)(L:Nat)(C:Int)(z A:List V)(k:KK β):(xE 0 (xR (zk yv (zu zh L) 2 L zaf) (zY 2 (CF.res yE) k))) .ret (zaO C z A)=zb3 zh L C z A (fun D z A=>k (Qe D) [(.live true z),(.live true A)]):=by kernel_rfl
def zcf{β:Type}(zh:zW)(L:Nat)(A C:List V)(z:Int→List V→List V→Option β):Option β:=z (-1:Int) A C
theorem zeG{β:Type}(zh:zW)(L:Nat)(z A:List V)(k:KK β):(xE 0 (xR (zk yv (zu zh L) 2 L zaf) (zY 2 (CF.res yE) k))) (.exit 0) (zaZ z A)=zcf zh L z A (fun C z A=>k (Qe C) [(.live true z),(.live true A)]):=by kernel_rfl
def xV{β:Type}(zh:zW)(L:Nat)(z:Int→List V→List V→Option β)(A:List V→List V→Option β):Nat→Nat→Int→Int→List V→List V→Option β
 | 0,_,_,_,_,_=>none
 | n+1,C,D,E,F,G=>zaX zh L C D E F G z (fun C D E F G=>xV zh L z A n C D E F G) A
theorem zb7{β:Type}(zh:zW)(L:Nat)(K:KT β):∀ (n:Nat) (C:Nat) (D E:Int) (z A:List V),xD (zk yv (zu zh L) 2 L yU) z9 n (xY C D E z A) K=xV zh L (fun F z A=>K .ret (zaO F z A)) (fun z A=>K (.exit 0) (zaZ z A)) n C D E z A:=by
 intro n
 induction n with
 | zero=>intros; rfl
 | succ n ih=>
  intro C D E z A
  refine (ze6 zh L C D E z A (fun σ=>xD (zk yv (zu zh L) 2 L yU) z9 n σ K) K).trans ?_
  simp only [ih]
  rfl
def zas{β:Type}(zh:zW)(L:Nat)(D:Nat)(z A:List V)(C:Int→List V→List V→Option β):Option β:=zbq zh L D z A (fun D E F z A=>xV zh L (fun G z A=>zb3 zh L G z A C) (fun z A=>zcf zh L z A C) L D E F z A)
theorem zgf{β:Type}(zh:zW)(L:Nat)(z:Nat)(A C:List V)(k:KK β):xn yv (zu zh L) L yE [(V.own 0 0 z 5),(V.fn 403 [(V.ptr 1 0)])] [(.live true A),(.live true C)] k=zas zh L z A C (fun D A C=>k (Qe D) [(.live true A),(.live true C)]):=by
 refine (zgt zh L z A C k).trans ?_
 unfold zas
 first
  | (simp only [zb7,zeu,zeG]; done)
  | (simp only [zb7]; rfl)
abbrev zap:=∀ (β:Type),Nat→Nat→List V→List V→(Int→List V→List V→Option β)→Option β
def xj(β:Type)(L:Nat)(A:Nat)(C D:List V)(z:Int→List V→List V→Option β):Option β:=zas zh L A C D z
def zar(xj:zap)(L:Nat)(β:Type)(args:List V)(bor:Bor)(k:KK β):Option β:=match args,bor with
 | [a0,a1],[(.live true z),(.live true A)]=>aO0 0 5 a0 fun C=>aF 403 [(1,0)] a1 (xj β L C z A (fun D z A=>k (Qe D) [(.live true z),(.live true A)]))
 | _,_=>none
theorem zgz(L:Nat)(β:Type)(args:List V)(bor:Bor)(k:KK β)(r:β)(h:zar xj L β args bor k=some r):xn yv (zu zh L) L yE args bor k=some r:=by
 unfold zar at h
 split at h
 ·have q:=zjj h; clear h; obtain ⟨z,rfl,h⟩:=q
  have q:=zzN h; clear h; obtain ⟨rfl,h⟩:=q
  exact (zgf zh L z _ _ k).trans h
 ·cases h
def zhb:CF:=⟨8,[.tmp 4],(.seq (.reg [Qv 3 (tq 1),Qh 4 (Qf 0)]) (.seq (.reg [Qh 5 (tq 0),oo 6 (.makeFunc 403 [(tq 3)]),Qs 7 402 [((tq 5),2),((tq 6),2)],Qh 4 (tq 7)]) .ret))⟩
def znC:Hint:=⟨[(1,2)],[],[none],[],[],false,false,[]⟩
def zkE:Nat→Sh:=zU []
def zkQ(xj:zap)(L:Nat):CBC:=(yx 402 (zar xj L) noC)
def zlA{β:Type}(xj:zap)(L:Nat)(A:Nat)(C D:List V)(z:Int→List V→Option β):Option β:=xj β L A D C (fun F E G=>chk ([(XJ E),(XJ G)]=[(XJ D),(XJ C)]) (z F E))
theorem ztz{β:Type}(xj:zap)(L:Nat)(A:Nat)(C z:List V)(k:KK β):xn zkE (zkQ xj L) L zhb [(V.own 0 0 A 5),(V.agg C)] [(.live true z)] k=zlA xj L A C z (fun D z=>k (Qe D) [(.live true z)]):=by kernel_rfl
abbrev zh7:=∀ (β:Type),Nat→Nat→List V→List V→(Int→List V→Option β)→Option β
def xO(β:Type)(L:Nat)(A:Nat)(C D:List V)(z:Int→List V→Option β):Option β:=zlA xj L A C D z
def zhX(xO:zh7)(L:Nat)(β:Type)(args:List V)(bor:Bor)(k:KK β):Option β:=match args,bor with
 | [a0,a1],[(.live true z)]=>aO0 0 5 a0 fun A=>aG a1 fun C=>xO β L A C z (fun D z=>k (Qe D) [(.live true z)])
 | _,_=>none
theorem zt3(L:Nat)(β:Type)(args:List V)(bor:Bor)(k:KK β)(r:β)(h:zhX xO L β args bor k=some r):xn zkE (zkQ xj L) L zhb args bor k=some r:=by
 unfold zhX at h
 split at h
 ·have q:=zjj h; clear h; obtain ⟨z,rfl,h⟩:=q
  have q:=yM h; clear h; obtain ⟨A,rfl,h⟩:=q
  exact (ztz xj L z A _ k).trans h
 ·cases h
def zbH:CC:=(.seq (.seq (.reg [Qh 24 (tq 7),Qh 25 (tq 0),Qr 26 (tq 25),Qp 27 .lss (tq 24) (tq 26),Qh 28 (tq 27),⟨(some 29),false,(some (28,true)),.move (tq 0) false⟩,⟨(some 30),false,(some (28,true)),.move (tq 7) false⟩,⟨(some 31),false,(some (28,true)),.indexAddrS 5 (tq 29) (tq 30)⟩,⟨(some 32),false,(some (28,true)),.fieldAddr 0 (tq 31)⟩,⟨(some 33),false,(some (28,true)),.load false 1 (tq 32) false⟩,⟨(some 34),false,(some (28,true)),.move (tq 1) false⟩,⟨(some 35),false,(some (28,true)),.bin .eql (tq 33) (tq 34)⟩,oo 36 (.pick (tq 28) (tq 35) (Qg false))]) (.cond (tq 36) .skip (.seq (.mask (bl 192 41) (bl 2198956146687 41)) (.exit 2)))) (.block 3 (.reg [Qh 37 (tq 7),Qp 38 .add (tq 37) (Qf 1),Qh 7 (tq 38)])))
def zfL:CC:=(.seq (.reg [Qh 39 (tq 6),Qh 40 (tq 7),Qh 4 (tq 39),Qh 5 (tq 40)]) .ret)
def zcn:CC:=(.seq (.seq (.reg [Qh 8 (tq 6),Qh 9 (tq 0),Qr 10 (tq 9),Qp 11 .lss (tq 8) (tq 10),Qh 12 (tq 11),⟨(some 13),false,(some (12,true)),.move (tq 0) false⟩,⟨(some 14),false,(some (12,true)),.move (tq 6) false⟩,⟨(some 15),false,(some (12,true)),.indexAddrS 5 (tq 13) (tq 14)⟩,⟨(some 16),false,(some (12,true)),.fieldAddr 0 (tq 15)⟩,⟨(some 17),false,(some (12,true)),.load false 1 (tq 16) false⟩,⟨(some 18),false,(some (12,true)),.move (tq 1) false⟩,⟨(some 19),false,(some (12,true)),.bin .lss (tq 17) (tq 18)⟩,oo 20 (.pick (tq 12) (tq 19) (Qg false))]) (.cond (tq 20) .skip (.seq (.mask (bl 67 41) (bl 2199023254527 41)) (.exit 0)))) (.block 1 (.reg [Qh 21 (tq 6),Qp 22 .add (tq 21) (Qf 1),Qh 6 (tq 22)])))
def zeo:CC:=(.seq (.reg [Qh 23 (tq 6),Qh 7 (tq 23)]) (.seq (.block 2 (.loop (bl 195 41) (bl 2198956146687 41) zbH)) zfL))
def zan:CF:=⟨41,[.tmp 4,.tmp 5],(.seq (.reg [Qh 4 (Qf 0),Qh 5 (Qf 0)]) (.seq (.reg [Qh 6 (Qf 0)]) (.seq (.block 0 (.loop (bl 67 41) (bl 2199023254527 41) zcn)) zeo)))⟩
def zl4:Hint:=⟨[],[],[none,some ((bl 67 41),(bl 2199023254527 41)),none,some ((bl 67 41),(bl 2199023254527 41)),none,none,some ((bl 195 41),(bl 2198956146687 41)),none,some ((bl 192 41),(bl 2198956146687 41)),none,none],[],[],false,false,[]⟩
def zI:Nat→Sh:=zU [(17,(.int .i64)),(33,(.int .i64))]
def yI(L:Nat):CBC:=noC
def zdW:St→St:=zbg 1 (bl 67 41) (bl 2199023254527 41)
def zc6:St→St:=zbg 1 (bl 195 41) (bl 2198956146687 41)
def zcQ(z:Nat)(A C:Int)(D:List V):St:=⟨((V.own 0 0 z 5)::((Qe A)::(jn 4 ((Qe C)::(jn 34 []))))),((.live true D)::(gn 41 []))⟩
def zdR(z:Nat)(A C:Int)(D:List V):St:=⟨((V.own 0 0 z 5)::((Qe A)::(jn 4 ((Qe C)::(jn 34 []))))),((.live true D)::(gn 41 []))⟩
def zcs(z:Nat)(A C D:Int)(E:List V):St:=⟨((V.own 0 0 z 5)::((Qe A)::(jn 4 ((Qe C)::((Qe D)::(jn 33 [])))))),((.live true E)::(gn 41 []))⟩
def zgx(z A:Int)(C:List V):St:=⟨(jn 6 ((Qe z)::((Qe A)::(jn 33 [])))),((.live true C)::(gn 41 []))⟩
def zjQ{β:Type}(L:Nat)(A:Nat)(C:Int)(D:List V)(z:Nat→Int→Int→List V→Option β):Option β:=z A C (0:Int) D
theorem zss{β:Type}(L:Nat)(z:Nat)(A:Int)(C:List V)(k:KK β):xn zI (yI L) L zan [(V.own 0 0 z 5),(Qe A)] [(.live true C)] k=zjQ L z A C (fun z A D C=>xD (zk zI (yI L) 1 L zcn) zdW L (zcQ z A D C) (xE 0 (xR (zk zI (yI L) 1 L zeo) (zY 1 (CF.res zan) k)))):=by kernel_rfl
def zgg{β:Type}(L:Nat)(z:Nat)(E A:Int)(F:List V)(C:Nat→Int→Int→List V→Option β)(D:Nat→Int→Int→List V→Option β):Option β:=ifb (decide (A<((z:Nat):Int))) (chk (0≤A∧A<((z:Nat):Int)) (cI .i64 F ((0+((XK A)*5))+0) fun G=>ifb (decide (G<E)) (lt (QF .i64 ((A:Int)+(1:Int))) fun I=>C z E I F) (D z E A F))) (D z E A F)
theorem zpX{β:Type}(L:Nat)(z:Nat)(A C:Int)(D:List V)(X:St→Option β)(K:KT β):zk zI (yI L) 1 L zcn (zcQ z A C D) (zcv zdW X K)=zgg L z A C D (fun z A C D=>X (zcQ z A C D)) (fun z A C D=>K (.exit 0) (zdR z A C D)):=by kernel_rfl
def zfc{β:Type}(L:Nat)(A:Nat)(D C:Int)(E:List V)(z:Nat→Int→Int→Int→List V→Option β):Option β:=z A D C C E
theorem zod{β:Type}(L:Nat)(z:Nat)(A C:Int)(D:List V)(k:KK β):(xE 0 (xR (zk zI (yI L) 1 L zeo) (zY 1 (CF.res zan) k))) (.exit 0) (zdR z A C D)=zfc L z A C D (fun z A C E D=>xD (zk zI (yI L) 1 L zbH) zc6 L (zcs z A C E D) (xE 2 (xR (zk zI (yI L) 1 L zfL) (zY 1 (CF.res zan) k)))):=by kernel_rfl
def ze8{β:Type}(L:Nat)(C:Nat)(G F A:Int)(E:List V)(z:Nat→Int→Int→Int→List V→Option β)(D:Int→Int→List V→Option β):Option β:=ifb (decide (A<((C:Nat):Int))) (chk (0≤A∧A<((C:Nat):Int)) (cI .i64 E ((0+((XK A)*5))+0) fun I=>ifb ((I:Int)==G) (lt (QF .i64 ((A:Int)+(1:Int))) fun J=>z C G F J E) (D F A E))) (D F A E)
theorem zol{β:Type}(L:Nat)(z:Nat)(E A C:Int)(D:List V)(X:St→Option β)(K:KT β):zk zI (yI L) 1 L zbH (zcs z E A C D) (zcv zc6 X K)=ze8 L z E A C D (fun z E A C D=>X (zcs z E A C D)) (fun A C D=>K (.exit 2) (zgx A C D)):=by kernel_rfl
def zik{β:Type}(L:Nat)(A C:Int)(D:List V)(z:Int→Int→List V→Option β):Option β:=z A C D
theorem znf{β:Type}(L:Nat)(D E:Int)(z:List V)(k:KK β):(xE 2 (xR (zk zI (yI L) 1 L zfL) (zY 1 (CF.res zan) k))) (.exit 2) (zgx D E z)=zik L D E z (fun A C z=>k (V.tup [(Qe A),(Qe C)]) [(.live true z)]):=by kernel_rfl
def zcB{β:Type}(L:Nat)(z:Nat→Int→Int→List V→Option β):Nat→Nat→Int→Int→List V→Option β
 | 0,_,_,_,_=>none
 | n+1,A,C,D,E=>zgg L A C D E (fun A C D E=>zcB L z n A C D E) z
theorem zir{β:Type}(L:Nat)(K:KT β):∀ (n:Nat) (z:Nat) (A C:Int) (D:List V),xD (zk zI (yI L) 1 L zcn) zdW n (zcQ z A C D) K=zcB L (fun z A C D=>K (.exit 0) (zdR z A C D)) n z A C D:=by
 intro n
 induction n with
 | zero=>intros; rfl
 | succ n ih=>
  intro z A C D
  refine (zpX L z A C D (fun σ=>xD (zk zI (yI L) 1 L zcn) zdW n σ K) K).trans ?_
  simp only [ih]
  rfl
def zb5{β:Type}(L:Nat)(z:Int→Int→List V→Option β):Nat→Nat→Int→Int→Int→List V→Option β
 | 0,_,_,_,_,_=>none
 | n+1,A,C,D,E,F=>ze8 L A C D E F (fun A C D E F=>zb5 L z n A C D E F) z
theorem zhy{β:Type}(L:Nat)(K:KT β):∀ (n:Nat) (z:Nat) (E A C:Int) (D:List V),xD (zk zI (yI L) 1 L zbH) zc6 n (zcs z E A C D) K=zb5 L (fun A C D=>K (.exit 2) (zgx A C D)) n z E A C D:=by
 intro n
 induction n with
 | zero=>intros; rfl
 | succ n ih=>
  intro z E A C D
  refine (zol L z E A C D (fun σ=>xD (zk zI (yI L) 1 L zbH) zc6 n σ K) K).trans ?_
  simp only [ih]
  rfl
def zcX{β:Type}(L:Nat)(z:Nat)(E A:Int)(C:List V)(D:Int→Int→List V→Option β):Option β:=zfc L z E A C (fun z E A F C=>zb5 L (fun A F C=>zik L A F C D) L z E A F C)
theorem znE{β:Type}(L:Nat)(z:Nat)(C D:Int)(A:List V)(k:KK β):(xE 0 (xR (zk zI (yI L) 1 L zeo) (zY 1 (CF.res zan) k))) (.exit 0) (zdR z C D A)=zcX L z C D A (fun E F A=>k (V.tup [(Qe E),(Qe F)]) [(.live true A)]):=by
 refine (zod L z C D A k).trans ?_
 unfold zcX
 first
  | (simp only [zhy,znf]; done)
  | (simp only [zhy]; rfl)
def zfU{β:Type}(L:Nat)(z:Nat)(A:Int)(C:List V)(D:Int→Int→List V→Option β):Option β:=zjQ L z A C (fun z A E C=>zcB L (fun z A E C=>zcX L z A E C D) L z A E C)
theorem zr5{β:Type}(L:Nat)(z:Nat)(C:Int)(A:List V)(k:KK β):xn zI (yI L) L zan [(V.own 0 0 z 5),(Qe C)] [(.live true A)] k=zfU L z C A (fun D E A=>k (V.tup [(Qe D),(Qe E)]) [(.live true A)]):=by
 refine (zss L z C A k).trans ?_
 unfold zfU
 first
  | (simp only [zir,znE]; done)
  | (simp only [zir]; rfl)
abbrev y4:=∀ (β:Type),Nat→Nat→Int→List V→(Int→Int→List V→Option β)→Option β
def zi(β:Type)(L:Nat)(A:Nat)(C:Int)(D:List V)(z:Int→Int→List V→Option β):Option β:=zfU L A C D z
def zf2(zi:y4)(L:Nat)(β:Type)(args:List V)(bor:Bor)(k:KK β):Option β:=match args,bor with
 | [a0,a1],[(.live true z)]=>aO0 0 5 a0 fun D=>aI .i64 a1 fun E=>zi β L D E z (fun A C z=>k (V.tup [(Qe A),(Qe C)]) [(.live true z)])
 | _,_=>none
theorem zrT(L:Nat)(β:Type)(args:List V)(bor:Bor)(k:KK β)(r:β)(h:zf2 zi L β args bor k=some r):xn zI (yI L) L zan args bor k=some r:=by
 unfold zf2 at h
 split at h
 ·have q:=zjj h; clear h; obtain ⟨z,rfl,h⟩:=q
  have q:=yw h; clear h; obtain ⟨A,rfl,h⟩:=q
  exact (zr5 L z A _ k).trans h
 ·cases h
abbrev xv:=∀ (β:Type),Nat→Nat→Int→Nat→List V→List V→(List (List V)→Nat→List V→Option β)→Option β
def xa(β:Type)(L:Nat)(A:Nat)(F:Int)(C:Nat)(D E:List V)(z:List (List V)→Nat→List V→Option β):Option β:=chk (zzy 5 24 A C F D E) (z (zmN 5 A C (XK F) D E) (XJ D) E)
def zaK(xa:xv)(L:Nat)(β:Type)(args:List V)(bor:Bor)(k:KK β):Option β:=match args,bor with
 | [a0,a1,a2],[(.live true C),(.live true D)]=>aO0 0 5 a0 fun z=>aI .i64 a1 fun E=>aO0 1 5 a2 fun A=>xa β L z E A C D (fun rr dd vv=>k (V.fr 5 rr) [.dead dd,.live true vv])
 | _,_=>none
def zaD:CF:=⟨33,[.tmp 6],(.seq (.reg [Qi 6 (.const (.gs 5 []))]) (.seq (.reg [Qh 8 (tq 0),Qh 9 (tq 1),Qh 10 (tq 2),Qh 11 (tq 0),Qr 12 (tq 11),oo 13 (.sliceS 5 (tq 8) (some (tq 9)) (some (tq 10)) (some (tq 12)))]) (.seq (.seq (.reg [Qh 14 (tq 1),Qh 15 (tq 2),Qp 16 .eql (tq 14) (tq 15)]) (.cond (tq 16) (.seq (.reg [Qi 17 (tq 0),Qi 6 (tq 17)]) .ret) .skip)) (.seq (.reg [Qh 18 (tq 0),Qr 19 (tq 18),Qh 7 (tq 19)]) (.seq (.dreg [] [(Qh 20 (tq 0),q0),(Qh 21 (tq 1),q0),(oo 22 (.sliceC 5 (tq 20) (some (tq 21))),q0),(Qh 23 (tq 0),q0),(Qh 24 (tq 2),q0),(oo 25 (.sliceS 5 (tq 23) (some (tq 24)) none none),q0),(oo 26 (.append 5 24 (tq 22) (tq 25)),q0),(Qi 0 (tq 26),q0)]) (.seq (.reg [Qh 27 (tq 0),Qh 28 (tq 0),Qr 29 (tq 28),Qh 30 (tq 7),oo 31 (.sliceS 5 (tq 27) (some (tq 29)) (some (tq 30)) none),oz (.clear 5 [(.sc (.int .i64 0)),(.sc (.int .u32 0)),(.sc (.int .u16 0)),(.sc (.int .u32 0)),(.sc (.int .u32 0))] (tq 31))]) (.seq (.reg [Qi 32 (tq 0),Qi 6 (tq 32)]) .ret)))))))⟩
def zc3:Hint:=⟨[(0,0),(3,0),(3,1),(5,2),(5,7),(7,0),(7,1)],[],[none,none,none],[],[],false,false,[]⟩
def zbB:Nat→Sh:=zU []
def zbC(L:Nat):CBC:=noC
def zbL{β:Type}(L:Nat)(z:Nat)(C A:Int)(D:List V)(E:Nat→List V→Option β):Option β:=chk (0≤((z:Nat):Int)∧((z:Nat):Int)≤((z:Nat):Int)) (chk (0≤A∧A≤(((XK ((z:Nat):Int)):Nat):Int)) (chk (0≤C∧C≤(((XK A):Nat):Int)) (ifb (decide ((XK ((z:Nat):Int))=(XK C))) (ifb ((C:Int)==A) (E z D) (chk (0≤C∧C≤((z:Nat):Int)) (chk (0≤A∧A≤((z:Nat):Int)) (chk ((XK C)+XJ (xe 5 (z-(XK A)) (XM (0+((XK A)*5)) D))≤z) (lt (zg D ((XK C)*5) (XO (xe 5 (z-(XK A)) (XM (0+((XK A)*5)) D)))) fun F=>chk (0≤((z:Nat):Int)∧((z:Nat):Int)≤((z:Nat):Int)) (chk (0≤((((XK C)+XJ (xe 5 (z-(XK A)) (XM (0+((XK A)*5)) D))):Nat):Int)∧((((XK C)+XJ (xe 5 (z-(XK A)) (XM (0+((XK A)*5)) D))):Nat):Int)≤(((XK ((z:Nat):Int)):Nat):Int)) (lt (zg F (0+((XK ((((XK C)+XJ (xe 5 (z-(XK A)) (XM (0+((XK A)*5)) D))):Nat):Int))*5)) (XO (We ((XK ((z:Nat):Int))-(XK ((((XK C)+XJ (xe 5 (z-(XK A)) (XM (0+((XK A)*5)) D))):Nat):Int))) [(Qe (0:Int)),(Qc (0:Int)),(Qb (0:Int)),(Qc (0:Int)),(Qc (0:Int))]))) fun r1=>E ((XK C)+XJ (xe 5 (z-(XK A)) (XM (0+((XK A)*5)) D))) r1))))))) (ifb ((C:Int)==A) (E z D) (chk (0≤C∧C≤((z:Nat):Int)) (chk (0≤A∧A≤((z:Nat):Int)) (chk ((XK C)+XJ (xe 5 (z-(XK A)) (XM (0+((XK A)*5)) D))≤z) (lt (zg D ((XK C)*5) (XO (xe 5 (z-(XK A)) (XM (0+((XK A)*5)) D)))) fun r2=>chk (0≤((z:Nat):Int)∧((z:Nat):Int)≤((z:Nat):Int)) (chk (0≤((((XK C)+XJ (xe 5 (z-(XK A)) (XM (0+((XK A)*5)) D))):Nat):Int)∧((((XK C)+XJ (xe 5 (z-(XK A)) (XM (0+((XK A)*5)) D))):Nat):Int)≤(((XK ((z:Nat):Int)):Nat):Int)) (lt (zg r2 (0+((XK ((((XK C)+XJ (xe 5 (z-(XK A)) (XM (0+((XK A)*5)) D))):Nat):Int))*5)) (XO (We ((XK ((z:Nat):Int))-(XK ((((XK C)+XJ (xe 5 (z-(XK A)) (XM (0+((XK A)*5)) D))):Nat):Int))) [(Qe (0:Int)),(Qc (0:Int)),(Qb (0:Int)),(Qc (0:Int)),(Qc (0:Int))]))) fun r3=>E ((XK C)+XJ (xe 5 (z-(XK A)) (XM (0+((XK A)*5)) D))) r3))))))))))
theorem zhr{β:Type}(L:Nat)(z:Nat)(C D:Int)(A:List V)(k:KK β):xn zbB (zbC L) L zaD [(V.own 0 0 z 5),(Qe C),(Qe D)] [(.live true A)] k=zbL L z C D A (fun z A=>k (V.own 0 0 z 5) [(.live true A)]):=by kernel_rfl
abbrev zw:=∀ (β:Type),Nat→Nat→Int→Int→List V→(Nat→List V→Option β)→Option β
def zb(β:Type)(L:Nat)(A:Nat)(C D:Int)(E:List V)(z:Nat→List V→Option β):Option β:=zbL L A C D E z
def zaL(zb:zw)(L:Nat)(β:Type)(args:List V)(bor:Bor)(k:KK β):Option β:=match args,bor with
 | [a0,a1,a2],[(.live true A)]=>aO0 0 5 a0 fun z=>aI .i64 a1 fun C=>aI .i64 a2 fun D=>zb β L z C D A (fun z A=>k (V.own 0 0 z 5) [(.live true A)])
 | _,_=>none
theorem zht(L:Nat)(β:Type)(args:List V)(bor:Bor)(k:KK β)(r:β)(h:zaL zb L β args bor k=some r):xn zbB (zbC L) L zaD args bor k=some r:=by
 unfold zaL at h
 split at h
 ·have q:=zjj h; clear h; obtain ⟨z,rfl,h⟩:=q
  have q:=yw h; clear h; obtain ⟨A,rfl,h⟩:=q
  have q:=yw h; clear h; obtain ⟨C,rfl,h⟩:=q
  exact (zhr L z A C _ k).trans h
 ·cases h
end
end Go.Proofs.Ytbimgceighecgaa
