/- Part 9 of the proof of TxSpoilt: an abstract machine over plain values, its soundness, and the functions of the program on plain values. -/
import Derived.Test.YtoeobffjdbdpgaaRows
import Derived.Test.YtoeobffjdbdpgaaMTxSpoilt8
namespace Go.Proofs.Ytoeobffjdbdpgaa
set_option linter.unusedVariables false
set_option linter.unusedSimpArgs false
open List renaming length->XM,take->XN,replicate->We,map->Xu
open IntKind renaming wrap->QF
open Int renaming toNat->XO
section
set_option maxRecDepth 100000
def zdA:CC:=(.seq (.reg [Qp 11 .lss (tq 10) (tq 9)]) (.seq (.cond (tq 11) .skip (.seq (.mask (bl 32 23) (bl 8388543 23)) (.exit 0))) (.seq (.block 1 (.seq (.reg [Qh 12 (tq 10),Qh 6 (tq 12)]) (.reg [Qh 13 (tq 5),Qh 14 (tq 6),Qh 15 (tq 0),Qh 16 (tq 6),Qp 17 .mul (Qf 8) (tq 16),Qp 18 .shr (tq 15) (tq 17),Qu 19 .u8 (tq 18),Qo 20 1 (tq 13) (tq 14),Qm 1 (tq 20) (tq 19)]))) (.reg [Qp 21 .add (tq 10) (Qf 1),Qh 10 (tq 21)]))))
def zlW:CC:=(.seq (.reg [Qi 22 (tq 5),Qi 4 (tq 22)]) .ret)
def zdL:CF:=⟨23,[.tmp 4],(.seq (.reg [Qi 4 (.const (.gs 1 []))]) (.seq (.reg [Qh 7 (tq 1),⟨(some 8),true,none,.makeSlice 1 1 [(.sc (.int .u8 0))] (tq 7) (tq 7)⟩,Qi 5 (tq 8)]) (.seq (.seq (.reg [Qh 9 (tq 1),Qh 10 (Qf 0)]) (.block 0 (.loop (bl 1569 23) (bl 8388543 23) zdA))) zlW)))⟩
def zrG:Hint:=⟨[(0,0),(1,2),(7,0),(7,1)],[(1,1)],[none,some ((bl 1569 23),(bl 8388543 23)),none,some ((bl 32 23),(bl 8388543 23)),none,none],[],[],false,false,[]⟩
def zbN:Nat→Sh:=xT []
def zbJ(L:Nat):CBC:=noC
def zgt:St→St:=zab 0 (bl 1569 23) (bl 8388543 23)
def zeq(A:Int)(p:Nat)(C z:Int)(D:List V):St:=⟨((Qd A)::(jn 4 ((V.own 8 0 p 1)::(jn 3 ((Qe C)::((Qe z)::(jn 12 []))))))),(gn 8 ((.live true D)::(gn 14 [])))⟩
def zkF(p:Nat)(z:List V):St:=⟨(jn 5 ((V.own 8 0 p 1)::(jn 17 []))),(gn 8 ((.live true z)::(gn 14 [])))⟩
def zvH{β:Type}(L:Nat)(A p:Int)(z:Int→Nat→Int→Int→List V→Option β):Option β:=chk (0≤p∧p≤p∧(XO p)*1≤yn∧p≤yn) (z A (XO p) p (0:Int) (List.flatten (We (XO p) [(Qa (0:Int))])))
theorem zzx{β:Type}(L:Nat)(p z:Int)(k:KK β):xq zbN (zbJ L) L zdL [(Qd p),(Qe z)] [] k=zvH L p z (fun p A D C E=>zw (xj zbN (zbJ L) 0 L zdA) zgt L (zeq p A D C E) (yo 0 (zE (xj zbN (zbJ L) 0 L zlW) (yQ 0 (CF.res zdL) k)))):=by kernel_rfl
def zpb{β:Type}(L:Nat)(E:Int)(A:Nat)(F p:Int)(C:List V)(z:Int→Nat→Int→Int→List V→Option β)(D:Nat→List V→Option β):Option β:=ifb (decide (p<F)) (lt (QF .i64 (((8:Int):Int)*p)) fun G=>chk (0≤G) (lt (zAA .u64 E G) fun H=>lt (QF .u8 H) fun I=>chk (0≤p∧p<((A:Nat):Int)) (chk (1=1∧(0+((XO p)*1))+1≤(XM C)) (lt (xm C (0+((XO p)*1)) [(Qa I)]) fun J=>lt (QF .i64 ((p:Int)+(1:Int))) fun M=>z E A F M J)))) (D A C)
theorem zuO{β:Type}(L:Nat)(C:Int)(p:Nat)(D z:Int)(A:List V)(X:St→Option β)(K:KT β):xj zbN (zbJ L) 0 L zdA (zeq C p D z A) (zU zgt X K)=zpb L C p D z A (fun C p D z A=>X (zeq C p D z A)) (fun p A=>K (.exit 0) (zkF p A)):=by kernel_rfl
def znm{β:Type}(L:Nat)(z:Nat)(A:List V)(p:List (List V)→Option β):Option β:=chk (z≠0∨(XM A)=0) (p (zl 1 z A))
theorem ztx{β:Type}(L:Nat)(p:Nat)(z:List V)(k:KK β):(yo 0 (zE (xj zbN (zbJ L) 0 L zlW) (yQ 0 (CF.res zdL) k))) (.exit 0) (zkF p z)=znm L p z (fun A=>k (V.fr 1 A) []):=by kernel_rfl
def zjG{β:Type}(L:Nat)(p:Nat→List V→Option β):Nat→Int→Nat→Int→Int→List V→Option β
 | 0,_,_,_,_,_=>none
 | n+1,C,z,D,A,E=>zpb L C z D A E (fun C z D A E=>zjG L p n C z D A E) p
theorem zmk{β:Type}(L:Nat)(K:KT β):∀ (n:Nat) (C:Int) (p:Nat) (D z:Int) (A:List V),zw (xj zbN (zbJ L) 0 L zdA) zgt n (zeq C p D z A) K=zjG L (fun p A=>K (.exit 0) (zkF p A)) n C p D z A:=by
 intro n
 induction n with
 | zero=>intros; rfl
 | succ n ih=>
  intro C p D z A
  refine (zuO L C p D z A (fun σ=>zw (xj zbN (zbJ L) 0 L zdA) zgt n σ K) K).trans ?_
  simp only [ih]
  rfl
def zpP{β:Type}(L:Nat)(A E:Int)(z:List (List V)→Option β):Option β:=zvH L A E (fun A p F D C=>zjG L (fun p C=>znm L p C z) L A p F D C)
theorem zzD{β:Type}(L:Nat)(p z:Int)(k:KK β):xq zbN (zbJ L) L zdL [(Qd p),(Qe z)] [] k=zpP L p z (fun p=>k (V.fr 1 p) []):=by
 refine (zzx L p z k).trans ?_
 unfold zpP
 first
  | (simp only [zmk,ztx]; done)
  | (simp only [zmk]; rfl)
abbrev zch:=∀ (β:Type),Nat→Int→Int→(List (List V)→Option β)→Option β
def xx(β:Type)(L:Nat)(z A:Int)(p:List (List V)→Option β):Option β:=zpP L z A p
def zfM(xx:zch)(L:Nat)(β:Type)(args:List V)(bor:Bor)(k:KK β):Option β:=match args,bor with
 | [a0,a1],[]=>aI .u64 a0 fun p=>aI .i64 a1 fun z=>xx β L p z (fun p=>k (V.fr 1 p) [])
 | _,_=>none
theorem zzN(L:Nat)(β:Type)(args:List V)(bor:Bor)(k:KK β)(r:β)(h:zfM xx L β args bor k=some r):xq zbN (zbJ L) L zdL args bor k=some r:=by
 unfold zfM at h
 split at h
 ·have q:=yy h; clear h; obtain ⟨p,rfl,h⟩:=q
  have q:=yy h; clear h; obtain ⟨z,rfl,h⟩:=q
  exact (zzD L p z k).trans h
 ·cases h
def zkc:CF:=⟨18,[.tmp 4],(.seq (.reg [Qi 4 (.const (.gs 1 []))]) (.seq (.reg [Qh 6 (tq 0),Qr 7 (tq 6),Qh 8 (tq 1),Qr 9 (tq 8),Qp 10 .add (tq 7) (tq 9),oo 11 (.makeSlice 1 1 [(.sc (.int .u8 0))] (Qf 0) (tq 10)),Qi 5 (tq 11)]) (.seq (.reg [Qi 12 (tq 5),Qh 13 (tq 0),oo 14 (.append 1 1 (tq 12) (tq 13)),Qi 5 (tq 14)]) (.seq (.reg [Qi 15 (tq 5),Qh 16 (tq 1),oo 17 (.append 1 1 (tq 15) (tq 16)),Qi 4 (tq 17)]) .ret))))⟩
def zrI:Hint:=⟨[(0,0),(1,6),(2,0),(2,3),(3,0),(3,3)],[],[none],[],[],false,false,[]⟩
def znX:Nat→Sh:=xT []
def znZ(L:Nat):CBC:=noC
def zpG{β:Type}(L:Nat)(p z:List (List V))(A:List (List V)→Option β):Option β:=lt (QF .i64 ((((XM p:Nat):Int):Int)+((XM z:Nat):Int))) fun C=>chk (0≤(0:Int)∧(0:Int)≤C∧(XO C)*1≤yn∧C≤yn) (chk ((XM (We 0 [(Qa (0:Int))])+XM p)*1≤yn∧XM (We 0 [(Qa (0:Int))])+XM p≤yn) (lt ((We 0 [(Qa (0:Int))])++p) fun D=>chk ((XM D+XM z)*1≤yn∧XM D+XM z≤yn) (lt (D++z) fun E=>A E)))
theorem zzF{β:Type}(L:Nat)(p z:List (List V))(k:KK β):xq znX (znZ L) L zkc [(V.sl 1 p),(V.sl 1 z)] [] k=zpG L p z (fun p=>k (V.gs 1 p) []):=by kernel_rfl
abbrev zS:=∀ (β:Type),Nat→List (List V)→List (List V)→(List (List V)→Option β)→Option β
def zi(β:Type)(L:Nat)(z A:List (List V))(p:List (List V)→Option β):Option β:=zpG L z A p
def zcf(zi:zS)(L:Nat)(β:Type)(args:List V)(bor:Bor)(k:KK β):Option β:=match args,bor with
 | [a0,a1],[]=>aL 1 a0 fun p=>aL 1 a1 fun z=>zi β L p z (fun p=>k (V.gs 1 p) [])
 | _,_=>none
theorem zzE(L:Nat)(β:Type)(args:List V)(bor:Bor)(k:KK β)(r:β)(h:zcf zi L β args bor k=some r):xq znX (znZ L) L zkc args bor k=some r:=by
 unfold zcf at h
 split at h
 ·have q:=xL h; clear h; obtain ⟨p,rfl,h⟩:=q
  have q:=xL h; clear h; obtain ⟨z,rfl,h⟩:=q
  exact (zzF L p z k).trans h
 ·cases h
def zg7:CF:=⟨10,[.tmp 4],(.seq (.reg [Qi 4 (.const (.gs 1 []))]) (.seq (.reg [Qh 5 (tq 0),Qh 6 (tq 1),Qu 7 .u64 (tq 6),Qs 8 192 [(Qw 7),((Qf 4),0)],Qs 9 191 [(Qw 5),(Qw 8)],Qi 4 (tq 9)]) .ret))⟩
def zoK:Hint:=⟨[(0,0),(1,5)],[],[none],[],[],false,false,[]⟩
def zku:Nat→Sh:=xT []
def zkh(xx:zch)(zi:zS)(L:Nat):CBC:=(xy 191 (zcf zi L) (xy 192 (zfM xx L) noC))
def zrC{β:Type}(xx:zch)(zi:zS)(L:Nat)(z:List (List V))(A:Int)(p:List (List V)→Option β):Option β:=lt (QF .u64 A) fun C=>xx β L C (4:Int) (fun D=>zi β L z D (fun E=>p E))
theorem zwC{β:Type}(xx:zch)(zi:zS)(L:Nat)(p:List (List V))(z:Int)(k:KK β):xq zku (zkh xx zi L) L zg7 [(V.sl 1 p),(Qc z)] [] k=zrC xx zi L p z (fun p=>k (V.gs 1 p) []):=by kernel_rfl
abbrev xn:=∀ (β:Type),Nat→List (List V)→Int→(List (List V)→Option β)→Option β
def yd(β:Type)(L:Nat)(z:List (List V))(A:Int)(p:List (List V)→Option β):Option β:=zrC xx zi L z A p
def zdV(yd:xn)(L:Nat)(β:Type)(args:List V)(bor:Bor)(k:KK β):Option β:=match args,bor with
 | [a0,a1],[]=>aL 1 a0 fun p=>aI .u32 a1 fun z=>yd β L p z (fun p=>k (V.gs 1 p) [])
 | _,_=>none
theorem zwG(L:Nat)(β:Type)(args:List V)(bor:Bor)(k:KK β)(r:β)(h:zdV yd L β args bor k=some r):xq zku (zkh xx zi L) L zg7 args bor k=some r:=by
 unfold zdV at h
 split at h
 ·have q:=xL h; clear h; obtain ⟨p,rfl,h⟩:=q
  have q:=yy h; clear h; obtain ⟨z,rfl,h⟩:=q
  exact (zwC xx zi L p z k).trans h
 ·cases h
def zhi:CF:=⟨10,[.tmp 4],(.seq (.reg [Qi 4 (.const (.gs 1 []))]) (.seq (.reg [Qh 5 (tq 0),Qh 6 (tq 1),Qu 7 .u64 (tq 6),Qs 8 192 [(Qw 7),((Qf 2),0)],Qs 9 191 [(Qw 5),(Qw 8)],Qi 4 (tq 9)]) .ret))⟩
def zoE:Hint:=⟨[(0,0),(1,5)],[],[none],[],[],false,false,[]⟩
def zkz:Nat→Sh:=xT []
def zkS(xx:zch)(zi:zS)(L:Nat):CBC:=(xy 191 (zcf zi L) (xy 192 (zfM xx L) noC))
def zrt{β:Type}(xx:zch)(zi:zS)(L:Nat)(z:List (List V))(A:Int)(p:List (List V)→Option β):Option β:=lt (QF .u64 A) fun C=>xx β L C (2:Int) (fun D=>zi β L z D (fun E=>p E))
theorem zw3{β:Type}(xx:zch)(zi:zS)(L:Nat)(p:List (List V))(z:Int)(k:KK β):xq zkz (zkS xx zi L) L zhi [(V.sl 1 p),(Qb z)] [] k=zrt xx zi L p z (fun p=>k (V.gs 1 p) []):=by kernel_rfl
abbrev zhV:=∀ (β:Type),Nat→List (List V)→Int→(List (List V)→Option β)→Option β
def z0(β:Type)(L:Nat)(z:List (List V))(A:Int)(p:List (List V)→Option β):Option β:=zrt xx zi L z A p
def zh3(z0:zhV)(L:Nat)(β:Type)(args:List V)(bor:Bor)(k:KK β):Option β:=match args,bor with
 | [a0,a1],[]=>aL 1 a0 fun p=>aI .u16 a1 fun z=>z0 β L p z (fun p=>k (V.gs 1 p) [])
 | _,_=>none
theorem zw2(L:Nat)(β:Type)(args:List V)(bor:Bor)(k:KK β)(r:β)(h:zh3 z0 L β args bor k=some r):xq zkz (zkS xx zi L) L zhi args bor k=some r:=by
 unfold zh3 at h
 split at h
 ·have q:=xL h; clear h; obtain ⟨p,rfl,h⟩:=q
  have q:=yy h; clear h; obtain ⟨z,rfl,h⟩:=q
  exact (zw3 xx zi L p z k).trans h
 ·cases h
def zhd:CF:=⟨9,[.tmp 4],(.seq (.reg [Qi 4 (.const (.gs 1 []))]) (.seq (.reg [Qh 5 (tq 0),Qh 6 (tq 1),Qs 7 192 [(Qw 6),((Qf 8),0)],Qs 8 191 [(Qw 5),(Qw 7)],Qi 4 (tq 8)]) .ret))⟩
def znT:Hint:=⟨[(0,0),(1,4)],[],[none],[],[],false,false,[]⟩
def zk6:Nat→Sh:=xT []
def zkm(xx:zch)(zi:zS)(L:Nat):CBC:=(xy 191 (zcf zi L) (xy 192 (zfM xx L) noC))
def zrs{β:Type}(xx:zch)(zi:zS)(L:Nat)(z:List (List V))(A:Int)(p:List (List V)→Option β):Option β:=xx β L A (8:Int) (fun C=>zi β L z C (fun D=>p D))
theorem zwB{β:Type}(xx:zch)(zi:zS)(L:Nat)(p:List (List V))(z:Int)(k:KK β):xq zk6 (zkm xx zi L) L zhd [(V.sl 1 p),(Qd z)] [] k=zrs xx zi L p z (fun p=>k (V.gs 1 p) []):=by kernel_rfl
abbrev xr:=∀ (β:Type),Nat→List (List V)→Int→(List (List V)→Option β)→Option β
def xe(β:Type)(L:Nat)(z:List (List V))(A:Int)(p:List (List V)→Option β):Option β:=zrs xx zi L z A p
def zfb(xe:xr)(L:Nat)(β:Type)(args:List V)(bor:Bor)(k:KK β):Option β:=match args,bor with
 | [a0,a1],[]=>aL 1 a0 fun p=>aI .u64 a1 fun z=>xe β L p z (fun p=>k (V.gs 1 p) [])
 | _,_=>none
theorem zwA(L:Nat)(β:Type)(args:List V)(bor:Bor)(k:KK β)(r:β)(h:zfb xe L β args bor k=some r):xq zk6 (zkm xx zi L) L zhd args bor k=some r:=by
 unfold zfb at h
 split at h
 ·have q:=xL h; clear h; obtain ⟨p,rfl,h⟩:=q
  have q:=yy h; clear h; obtain ⟨z,rfl,h⟩:=q
  exact (zwB xx zi L p z k).trans h
 ·cases h
def zgI:CF:=⟨36,[.tmp 4],(.seq (.reg [Qi 4 (.const (.gs 1 []))]) (.seq (.block 0 (.seq (.reg [Qh 6 (tq 1),oo 7 (.bin .lss (tq 6) (.const (.sc (.int .u64 253)))),Qh 5 (tq 7)]) (.cond (tq 5) (.seq (.reg [Qh 8 (tq 0),Qh 9 (tq 1),Qu 10 .u8 (tq 9),oo 11 (.buildSlice 1 1 [(.sc (.int .u8 0))] [(0,1,(tq 10))]),Qs 12 191 [(Qw 8),(Qw 11)],Qi 4 (tq 12)]) .ret) (.seq (.reg [Qh 14 (tq 1),oo 15 (.bin .lss (tq 14) (.const (.sc (.int .u64 65536)))),Qh 13 (tq 15)]) (.cond (tq 13) (.seq (.reg [Qh 16 (tq 0),oo 17 (.buildSlice 1 1 [(.sc (.int .u8 0))] [(0,1,(.const (.sc (.int .u8 253))))]),Qs 18 191 [(Qw 16),(Qw 17)],Qh 19 (tq 1),Qu 20 .u16 (tq 19),Qs 21 205 [(Qw 18),(Qw 20)],Qi 4 (tq 21)]) .ret) (.seq (.reg [Qh 23 (tq 1),oo 24 (.bin .lss (tq 23) (.const (.sc (.int .u64 4294967296)))),Qh 22 (tq 24)]) (.cond (tq 22) (.seq (.reg [Qh 25 (tq 0),oo 26 (.buildSlice 1 1 [(.sc (.int .u8 0))] [(0,1,(.const (.sc (.int .u8 254))))]),Qs 27 191 [(Qw 25),(Qw 26)],Qh 28 (tq 1),Qu 29 .u32 (tq 28),Qs 30 157 [(Qw 27),(Qw 29)],Qi 4 (tq 30)]) .ret) .skip))))))) (.seq (.reg [Qh 31 (tq 0),oo 32 (.buildSlice 1 1 [(.sc (.int .u8 0))] [(0,1,(.const (.sc (.int .u8 255))))]),Qs 33 191 [(Qw 31),(Qw 32)],Qh 34 (tq 1),Qs 35 183 [(Qw 33),(Qw 34)],Qi 4 (tq 35)]) .ret)))⟩
def zni:Hint:=⟨[(0,0),(2,5),(4,6),(6,6),(7,5)],[],[none,none,none,none,none,none,none,none],[],[],false,false,[]⟩
def zjL:Nat→Sh:=xT []
def zjz(zi:zS)(z0:zhV)(yd:xn)(xe:xr)(L:Nat):CBC:=(xy 183 (zfb xe L) (xy 157 (zdV yd L) (xy 205 (zh3 z0 L) (xy 191 (zcf zi L) noC))))
def zqp{β:Type}(zi:zS)(z0:zhV)(yd:xn)(xe:xr)(L:Nat)(A:List (List V))(z:Int)(p:List (List V)→Option β):Option β:=ifb (decide (z<(253:Int))) (lt (QF .u8 z) fun C=>zi β L A (zl 1 1 [(Qa C)]) (fun D=>p D)) (ifb (decide (z<(65536:Int))) (zi β L A (zl 1 1 [(Qa (253:Int))]) (fun E=>lt (QF .u16 z) fun F=>z0 β L E F (fun G=>p G))) (ifb (decide (z<(4294967296:Int))) (zi β L A (zl 1 1 [(Qa (254:Int))]) (fun H=>lt (QF .u32 z) fun I=>yd β L H I (fun J=>p J))) (zi β L A (zl 1 1 [(Qa (255:Int))]) (fun M=>xe β L M z (fun N=>p N)))))
theorem zv1{β:Type}(zi:zS)(z0:zhV)(yd:xn)(xe:xr)(L:Nat)(p:List (List V))(z:Int)(k:KK β):xq zjL (zjz zi z0 yd xe L) L zgI [(V.sl 1 p),(Qd z)] [] k=zqp zi z0 yd xe L p z (fun p=>k (V.gs 1 p) []):=by kernel_rfl
abbrev zo:=∀ (β:Type),Nat→List (List V)→Int→(List (List V)→Option β)→Option β
def ze(β:Type)(L:Nat)(z:List (List V))(A:Int)(p:List (List V)→Option β):Option β:=zqp zi z0 yd xe L z A p
def zeE(ze:zo)(L:Nat)(β:Type)(args:List V)(bor:Bor)(k:KK β):Option β:=match args,bor with
 | [a0,a1],[]=>aL 1 a0 fun p=>aI .u64 a1 fun z=>ze β L p z (fun p=>k (V.gs 1 p) [])
 | _,_=>none
theorem zvZ(L:Nat)(β:Type)(args:List V)(bor:Bor)(k:KK β)(r:β)(h:zeE ze L β args bor k=some r):xq zjL (zjz zi z0 yd xe L) L zgI args bor k=some r:=by
 unfold zeE at h
 split at h
 ·have q:=xL h; clear h; obtain ⟨p,rfl,h⟩:=q
  have q:=yy h; clear h; obtain ⟨z,rfl,h⟩:=q
  exact (zv1 zi z0 yd xe L p z k).trans h
 ·cases h
def zgm:CF:=⟨8,[.tmp 4],(.seq (.reg [Qv 3 (tq 1),Qi 4 (.const (.gs 1 []))]) (.seq (.reg [Qh 5 (tq 0),oo 6 (.sliceA 32 1 (tq 3) none none none),Qs 7 191 [(Qw 5),(Qw 6)],Qi 4 (tq 7)]) .ret))⟩
def znq:Hint:=⟨[(0,1),(1,3)],[],[none],[],[],false,false,[]⟩
def zjH:Nat→Sh:=xT []
def zjv(zi:zS)(L:Nat):CBC:=(xy 191 (zcf zi L) noC)
def zqm{β:Type}(zi:zS)(L:Nat)(A:List (List V))(z:List V)(p:List (List V)→Option β):Option β:=chk (0+32*1≤(XM z)) (ifb (List.isEmpty z) (zi β L A (zl 1 32 z) (fun C=>p C)) (zi β L A (zl 1 32 z) (fun D=>p D)))
theorem zv7{β:Type}(zi:zS)(L:Nat)(p:List (List V))(z:List V)(k:KK β):xq zjH (zjv zi L) L zgm [(V.sl 1 p),(V.agg z)] [] k=zqm zi L p z (fun p=>k (V.gs 1 p) []):=by kernel_rfl
abbrev zgW:=∀ (β:Type),Nat→List (List V)→List V→(List (List V)→Option β)→Option β
def zX(β:Type)(L:Nat)(z:List (List V))(A:List V)(p:List (List V)→Option β):Option β:=zqm zi L z A p
def zhk(zX:zgW)(L:Nat)(β:Type)(args:List V)(bor:Bor)(k:KK β):Option β:=match args,bor with
 | [a0,a1],[]=>aL 1 a0 fun p=>aG a1 fun z=>zX β L p z (fun p=>k (V.gs 1 p) [])
 | _,_=>none
theorem zwj(L:Nat)(β:Type)(args:List V)(bor:Bor)(k:KK β)(r:β)(h:zhk zX L β args bor k=some r):xq zjH (zjv zi L) L zgm args bor k=some r:=by
 unfold zhk at h
 split at h
 ·have q:=xL h; clear h; obtain ⟨p,rfl,h⟩:=q
  have q:=zde h; clear h; obtain ⟨z,rfl,h⟩:=q
  exact (zv7 zi L p z k).trans h
 ·cases h
def zp0:CF:=⟨9,[.tmp 2],(.seq (.reg [Qv 1 (tq 0),Qi 2 (.const (.gs 1 []))]) (.seq (.dreg [] [(Ql 3 0 (tq 1),q0),(Qk 4 32 (tq 3),ql 1 [] []),(oo 5 (.call 158 [((.const (.gs 1 [])),0),(Qw 4)] []),qc [1] []),(Ql 6 32 (tq 1),q0),(Qj 7 1 (tq 6),ql 1 [] []),(Qs 8 157 [(Qw 5),(Qw 7)],q0),(Qi 2 (tq 8),q0)]) .ret))⟩
def zxB:Hint:=⟨[(0,1),(1,6)],[],[none],[],[],false,false,[]⟩
def zuQ:Nat→Sh:=xT [(7,(.int .u32))]
def zu6(zX:zgW)(yd:xn)(L:Nat):CBC:=(xy 157 (zdV yd L) (xy 158 (zhk zX L) noC))
def zCa{β:Type}(zX:zgW)(yd:xn)(L:Nat)(z:List V)(p:List (List V)→Option β):Option β:=chk (0+32≤(XM z)) (zX β L ([]:List (List V)) (XN 32 z) (fun A=>cI .u32 z 32 fun C=>yd β L A C (fun D=>p D)))
theorem zEF{β:Type}(zX:zgW)(yd:xn)(L:Nat)(p:List V)(k:KK β):xq zuQ (zu6 zX yd L) L zp0 [(V.agg p)] [] k=zCa zX yd L p (fun p=>k (V.gs 1 p) []):=by kernel_rfl
abbrev zM:=∀ (β:Type),Nat→List V→(List (List V)→Option β)→Option β
def yi(β:Type)(L:Nat)(z:List V)(p:List (List V)→Option β):Option β:=zCa zX yd L z p
def zr6(yi:zM)(L:Nat)(β:Type)(args:List V)(bor:Bor)(k:KK β):Option β:=match args,bor with
 | [a0],[]=>aG a0 fun p=>yi β L p (fun p=>k (V.gs 1 p) [])
 | _,_=>none
theorem zEw(L:Nat)(β:Type)(args:List V)(bor:Bor)(k:KK β)(r:β)(h:zr6 yi L β args bor k=some r):xq zuQ (zu6 zX yd L) L zp0 args bor k=some r:=by
 unfold zr6 at h
 split at h
 ·have q:=zde h; clear h; obtain ⟨p,rfl,h⟩:=q
  exact (zEF zX yd L p k).trans h
 ·cases h
def zfz:CF:=⟨12,[.tmp 4],(.seq (.reg [Qi 4 (.const (.gs 1 []))]) (.seq (.reg [Qh 5 (tq 0),Qh 6 (tq 1),Qr 7 (tq 6),Qu 8 .u64 (tq 7),Qs 9 182 [(Qw 5),(Qw 8)],Qh 10 (tq 1),Qs 11 191 [(Qw 9),(Qw 10)],Qi 4 (tq 11)]) .ret))⟩
def zl6:Hint:=⟨[(0,0),(1,7)],[],[none],[],[],false,false,[]⟩
def ziD:Nat→Sh:=xT []
def ziK(ze:zo)(zi:zS)(L:Nat):CBC:=(xy 191 (zcf zi L) (xy 182 (zeE ze L) noC))
def zo8{β:Type}(ze:zo)(zi:zS)(L:Nat)(A z:List (List V))(p:List (List V)→Option β):Option β:=lt (QF .u64 ((XM z:Nat):Int)) fun C=>ze β L A C (fun D=>zi β L D z (fun E=>p E))
theorem zuR{β:Type}(ze:zo)(zi:zS)(L:Nat)(p z:List (List V))(k:KK β):xq ziD (ziK ze zi L) L zfz [(V.sl 1 p),(V.sl 1 z)] [] k=zo8 ze zi L p z (fun p=>k (V.gs 1 p) []):=by kernel_rfl
abbrev zp:=∀ (β:Type),Nat→List (List V)→List (List V)→(List (List V)→Option β)→Option β
def ye(β:Type)(L:Nat)(z A:List (List V))(p:List (List V)→Option β):Option β:=zo8 ze zi L z A p
def zgu(ye:zp)(L:Nat)(β:Type)(args:List V)(bor:Bor)(k:KK β):Option β:=match args,bor with
 | [a0,a1],[]=>aL 1 a0 fun p=>aL 1 a1 fun z=>ye β L p z (fun p=>k (V.gs 1 p) [])
 | _,_=>none
theorem zuB(L:Nat)(β:Type)(args:List V)(bor:Bor)(k:KK β)(r:β)(h:zgu ye L β args bor k=some r):xq ziD (ziK ze zi L) L zfz args bor k=some r:=by
 unfold zgu at h
 split at h
 ·have q:=xL h; clear h; obtain ⟨p,rfl,h⟩:=q
  have q:=xL h; clear h; obtain ⟨z,rfl,h⟩:=q
  exact (zuR ze zi L p z k).trans h
 ·cases h
def za5:CC:=(.seq (.reg [Qp 94 .lss (tq 93) (tq 92)]) (.seq (.cond (tq 94) .skip (.seq (.mask (bl 1057810092162800527867936 104) (bl 18380933703309326321702196467067 104)) (.exit 6))) (.seq (.block 7 (.seq (.reg [Qo 95 1 (tq 91) (tq 93),Qj 96 1 (tq 95),Qh 13 (tq 96)]) (.reg [Qi 97 (tq 5),Qh 98 (tq 13),oo 99 (.call 184 [((.const (.gs 1 [])),0),(Qw 98)] []),oo 100 (.append 1 1 (tq 97) (tq 99)),Qi 5 (tq 100)]))) (.reg [Qp 101 .add (tq 93) (Qf 1),Qh 93 (tq 101)]))))
def ze6:CC:=(.reg [Qp 102 .add (tq 79) (Qf 1),Qh 79 (tq 102)])
def zbU:CC:=(.seq (.reg [Qp 80 .lss (tq 79) (tq 78)]) (.seq (.cond (tq 80) .skip (.seq (.mask (bl 32 104) (bl 18374976116870265429129244431739 104)) (.exit 4))) (.seq (.block 5 (.seq (.reg [Qo 81 35 (tq 77) (tq 79),Qk 82 35 (tq 81),oo 11 (.alloc true (rp 32 (.sc (.int .u8 0)) (rp 2 (.sc (.int .u32 0)) (rp 1 (.gs 1 []) [])))),Qm 35 (tq 11) (tq 82)]) (.seq (.reg [Qi 83 (tq 5),Ql 84 34 (tq 11),Qj 85 1 (tq 84),Qr 86 (tq 85),Qu 87 .u64 (tq 86),oo 88 (.call 182 [((.const (.gs 1 [])),0),(Qw 87)] []),oo 89 (.append 1 1 (tq 83) (tq 88)),Qi 5 (tq 89)]) (.seq (.reg [Ql 90 34 (tq 11),Qj 91 1 (tq 90),Qr 92 (tq 91),Qh 93 (Qf 0)]) (.block 6 (.loop (bl 17332218360087486649115607072 104) (bl 18380933703309326321702196467067 104) za5)))))) ze6)))
def zdS:CC:=(.seq (.reg [Qp 53 .lss (tq 52) (tq 51)]) (.seq (.cond (tq 53) .skip (.seq (.mask (bl 38 104) (bl 20282409603537531194991173432703 104)) (.exit 2))) (.seq (.block 3 (.seq (.reg [Qo 54 2 (tq 50) (tq 52),Qk 55 2 (tq 54),oo 9 (.alloc true [(.sc (.int .i64 0)),(.gs 1 [])]),Qm 2 (tq 9) (tq 55)]) (.seq (.reg [Qi 56 (tq 5),Ql 57 0 (tq 9),Qj 58 1 (tq 57),Qu 59 .u64 (tq 58),oo 60 (.call 183 [((.const (.gs 1 [])),0),(Qw 59)] []),oo 61 (.append 1 1 (tq 56) (tq 60)),Qi 5 (tq 61)]) (.reg [Qi 62 (tq 5),Ql 63 1 (tq 9),Qj 64 1 (tq 63),oo 65 (.call 184 [((.const (.gs 1 [])),0),(Qw 64)] []),oo 66 (.append 1 1 (tq 62) (tq 65)),Qi 5 (tq 66)])))) (.reg [Qp 67 .add (tq 52) (Qf 1),Qh 52 (tq 67)]))))
def zjg:CC:=(.seq (.reg [Qi 103 (tq 5),Qi 4 (tq 103)]) .ret)
def zeO:CC:=(.seq (.reg [Qp 28 .lss (tq 27) (tq 26)]) (.seq (.cond (tq 28) .skip (.seq (.mask (bl 38 104) (bl 20282409603651670422246444234111 104)) (.exit 0))) (.seq (.block 1 (.seq (.reg [Qo 29 35 (tq 25) (tq 27),Qk 30 35 (tq 29),oo 7 (.alloc true (rp 32 (.sc (.int .u8 0)) (rp 2 (.sc (.int .u32 0)) (rp 1 (.gs 1 []) [])))),Qm 35 (tq 7) (tq 30)]) (.seq (.reg [Qi 31 (tq 5),Ql 32 0 (tq 7),Qk 33 33 (tq 32),Qs 34 137 [(Qw 33)],oo 35 (.append 1 1 (tq 31) (tq 34)),Qi 5 (tq 35)]) (.reg [Qi 36 (tq 5),Ql 37 33 (tq 7),Qj 38 1 (tq 37),oo 39 (.call 157 [((.const (.gs 1 [])),0),(Qw 38)] []),oo 40 (.append 1 1 (tq 36) (tq 39)),Qi 5 (tq 40)])))) (.reg [Qp 41 .add (tq 27) (Qf 1),Qh 27 (tq 41)]))))
def zhW:CC:=(.seq (.reg [Qi 68 (tq 5),Ql 69 3 (tq 2),Qj 70 1 (tq 69),oo 71 (.call 157 [((.const (.gs 1 [])),0),(Qw 70)] []),oo 72 (.append 1 1 (tq 68) (tq 71)),Qi 5 (tq 72)]) (.seq (.seq (.reg [Qh 73 (tq 1),Qt 74 (tq 73)]) (.cond (tq 74) (.seq (.reg [Qi 75 (tq 5),Qi 4 (tq 75)]) .ret) .skip)) (.seq (.seq (.reg [Ql 76 1 (tq 2),Qj 77 1 (tq 76),Qr 78 (tq 77),Qh 79 (Qf 0)]) (.block 4 (.loop (bl 1057810092162800527867936 104) (bl 18374976116870265429129244431739 104) zbU))) zjg)))
def zj6:CC:=(.seq (.reg [Qi 42 (tq 5),Ql 43 2 (tq 2),Qj 44 1 (tq 43),Qr 45 (tq 44),Qu 46 .u64 (tq 45),oo 47 (.call 182 [((.const (.gs 1 [])),0),(Qw 46)] []),oo 48 (.append 1 1 (tq 42) (tq 47)),Qi 5 (tq 48)]) (.seq (.seq (.reg [Ql 49 2 (tq 2),Qj 50 1 (tq 49),Qr 51 (tq 50),Qh 52 (Qf 0)]) (.block 2 (.loop (bl 7881299347898406 104) (bl 20282409603537531194991173432703 104) zdS))) zhW))
def zbE:CF:=⟨104,[.tmp 4],(.seq (.reg [Qv 2 (tq 0),Qi 4 (.const (.gs 1 []))]) (.seq (.reg [Ql 14 0 (tq 2),Qj 15 1 (tq 14),oo 16 (.call 157 [((.const (.gs 1 [])),0),(Qw 15)] []),Qi 5 (tq 16)]) (.seq (.reg [Qi 17 (tq 5),Ql 18 1 (tq 2),Qj 19 1 (tq 18),Qr 20 (tq 19),Qu 21 .u64 (tq 20),oo 22 (.call 182 [((.const (.gs 1 [])),0),(Qw 21)] []),oo 23 (.append 1 1 (tq 17) (tq 22)),Qi 5 (tq 23)]) (.seq (.seq (.reg [Ql 24 1 (tq 2),Qj 25 1 (tq 24),Qr 26 (tq 25),Qh 27 (Qf 0)]) (.block 0 (.loop (bl 234881062 104) (bl 20282409603651670422246444234111 104) zeO))) zj6))))⟩
def zwq:Hint:=⟨[(0,0),(0,1),(1,3),(2,0),(2,7),(5,2),(6,0),(6,5),(7,0),(7,5),(9,0),(9,7),(12,2),(13,0),(13,6),(14,0),(14,5),(16,0),(16,5),(18,0),(18,1),(21,2),(22,0),(22,7),(26,0),(26,4),(29,0),(29,1)],[],[none,some ((bl 234881062 104),(bl 20282409603651670422246444234111 104)),none,some ((bl 38 104),(bl 20282409603651670422246444234111 104)),none,none,some ((bl 7881299347898406 104),(bl 20282409603537531194991173432703 104)),none,some ((bl 38 104),(bl 20282409603537531194991173432703 104)),none,none,none,none,some ((bl 1057810092162800527867936 104),(bl 18374976116870265429129244431739 104)),none,some ((bl 32 104),(bl 18374976116870265429129244431739 104)),none,none,some ((bl 17332218360087486649115607072 104),(bl 18380933703309326321702196467067 104)),none,some ((bl 1057810092162800527867936 104),(bl 18380933703309326321702196467067 104)),none,none],[],[],false,false,[]⟩
def zK:Nat→Sh:=xT [(15,(.int .u32)),(19,(.sl 35)),(25,(.sl 35)),(38,(.int .u32)),(44,(.sl 2)),(50,(.sl 2)),(58,(.int .i64)),(64,(.sl 1)),(70,(.int .u32)),(77,(.sl 35)),(85,(.sl 1)),(91,(.sl 1)),(96,(.sl 1))]
def xJ(yd:xn)(ze:zo)(yi:zM)(xe:xr)(ye:zp)(L:Nat):CBC:=(xy 184 (zgu ye L) (xy 183 (zfb xe L) (xy 137 (zr6 yi L) (xy 182 (zeE ze L) (xy 157 (zdV yd L) noC)))))
def zhP:St→St:=zab 0 (bl 234881062 104) (bl 20282409603651670422246444234111 104)
def zgi:St→St:=zab 0 (bl 7881299347898406 104) (bl 20282409603537531194991173432703 104)
def zbl:St→St:=zab 0 (bl 1057810092162800527867936 104) (bl 18374976116870265429129244431739 104)
def zcc:St→St:=zab 0 (bl 17332218360087486649115607072 104) (bl 18380933703309326321702196467067 104)
def zfp(C:Bool)(D p:List (List V))(z A:Int)(E:List V):St:=⟨(jn 1 ((V.sc (.bool C))::((V.ptr 2 0)::(jn 2 ((V.gs 1 D)::(jn 19 ((V.sl 35 p)::((Qe z)::((Qe A)::(jn 76 [])))))))))),(gn 2 ((.live true E)::(gn 101 [])))⟩
def zjX(p:Bool)(z:List (List V))(A:List V):St:=⟨(jn 1 ((V.sc (.bool p))::((V.ptr 2 0)::(jn 2 ((V.gs 1 z)::(jn 98 [])))))),(gn 2 ((.live true A)::(gn 101 [])))⟩
def zex(C:Bool)(D p:List (List V))(z A:Int)(E:List V):St:=⟨(jn 1 ((V.sc (.bool C))::((V.ptr 2 0)::(jn 2 ((V.gs 1 D)::(jn 44 ((V.sl 2 p)::((Qe z)::((Qe A)::(jn 51 [])))))))))),(gn 2 ((.live true E)::(gn 101 [])))⟩
def zjZ(p:Bool)(z:List (List V))(A:List V):St:=⟨(jn 1 ((V.sc (.bool p))::((V.ptr 2 0)::(jn 2 ((V.gs 1 z)::(jn 98 [])))))),(gn 2 ((.live true A)::(gn 101 [])))⟩
def zbm(C p:List (List V))(z A:Int):St:=⟨(jn 5 ((V.gs 1 C)::(jn 71 ((V.sl 35 p)::((Qe z)::((Qe A)::(jn 24 []))))))),(gn 104 [])⟩
def zbv(F p:List (List V))(z A:Int)(C:List (List V))(D E:Int):St:=⟨(jn 5 ((V.gs 1 F)::(jn 71 ((V.sl 35 p)::((Qe z)::((Qe A)::(jn 11 ((V.sl 1 C)::((Qe D)::((Qe E)::(jn 10 []))))))))))),(gn 104 [])⟩
def zjU(p:List (List V)):St:=⟨(jn 5 ((V.gs 1 p)::(jn 98 []))),(gn 104 [])⟩
def zoI(C p:List (List V))(z A:Int):St:=⟨(jn 5 ((V.gs 1 C)::(jn 71 ((V.sl 35 p)::((Qe z)::((Qe A)::(jn 24 []))))))),(gn 104 [])⟩
abbrev zqR(β:Type):Type:=Bool→List (List V)→List (List V)→Int→Int→List V→Option β
abbrev zn0(β:Type):Type:=Bool→List (List V)→List (List V)→Int→Int→List V→Option β
abbrev zfW(β:Type):Type:=List (List V)→List (List V)→Int→Int→List (List V)→Int→Int→Option β
def zz6{β:Type}(yd:xn)(ze:zo)(yi:zM)(xe:xr)(ye:zp)(L:Nat)(z:List V)(E:Bool)(p:zqR β):Option β:=cI .u32 z 0 fun F=>yd β L ([]:List (List V)) F (fun A=>cLd 35 z 1 fun G=>lt (QF .u64 ((XM G:Nat):Int)) fun H=>ze β L ([]:List (List V)) H (fun C=>chk ((XM A+XM C)*1≤yn∧XM A+XM C≤yn) (lt (A++C) fun I=>cLd 35 z 1 fun D=>p E I D ((XM D:Nat):Int) (0:Int) z)))
theorem zCP{β:Type}(yd:xn)(ze:zo)(yi:zM)(xe:xr)(ye:zp)(L:Nat)(z:List V)(p:Bool)(k:KK β):xq zK (xJ yd ze yi xe ye L) L zbE [(V.agg z),(V.sc (.bool p))] [] k=zz6 yd ze yi xe ye L z p (fun p E A C D F=>zw (xj zK (xJ yd ze yi xe ye L) 0 L zeO) zhP L (zfp p E A C D F) (yo 0 (zE (xj zK (xJ yd ze yi xe ye L) 0 L zj6) (yQ 0 (CF.res zbE) k)))):=by kernel_rfl
def zru{β:Type}(yd:xn)(ze:zo)(yi:zM)(xe:xr)(ye:zp)(L:Nat)(J:Bool)(D E:List (List V))(F z:Int)(M:List V)(p:zqR β)(G:Bool→List (List V)→List V→Option β):Option β:=ifb (decide (z<F)) (idx E z fun N=>chk ((XM (XN 35 N))=35∧0+35≤35) (lt (xm (We 32 (Qa (0:Int))++[(Qc (0:Int)),(Qc (0:Int)),(V.gs 1 ([]:List (List V)))]) 0 (XN 35 N)) fun H=>chk (0+33≤(XM H)) (yi β L (XN 33 H) (fun I=>chk ((XM D+XM I)*1≤yn∧XM D+XM I≤yn) (lt (D++I) fun A=>cI .u32 H 33 fun O=>yd β L ([]:List (List V)) O (fun C=>chk ((XM A+XM C)*1≤yn∧XM A+XM C≤yn) (lt (A++C) fun P=>lt (QF .i64 ((z:Int)+(1:Int))) fun Q=>p J P E F Q M))))))) (G J D M)
theorem zwI{β:Type}(yd:xn)(ze:zo)(yi:zM)(xe:xr)(ye:zp)(L:Nat)(C:Bool)(D p:List (List V))(z A:Int)(E:List V)(X:St→Option β)(K:KT β):xj zK (xJ yd ze yi xe ye L) 0 L zeO (zfp C D p z A E) (zU zhP X K)=zru yd ze yi xe ye L C D p z A E (fun C D p z A E=>X (zfp C D p z A E)) (fun C D E=>K (.exit 0) (zjX C D E)):=by kernel_rfl
def zo7{β:Type}(yd:xn)(ze:zo)(yi:zM)(xe:xr)(ye:zp)(L:Nat)(H:Bool)(C:List (List V))(D:List V)(p:zn0 β):Option β:=cLd 2 D 2 fun E=>lt (QF .u64 ((XM E:Nat):Int)) fun F=>ze β L ([]:List (List V)) F (fun z=>chk ((XM C+XM z)*1≤yn∧XM C+XM z≤yn) (lt (C++z) fun G=>cLd 2 D 2 fun A=>p H G A ((XM A:Nat):Int) (0:Int) D))
theorem zuy{β:Type}(yd:xn)(ze:zo)(yi:zM)(xe:xr)(ye:zp)(L:Nat)(p:Bool)(z:List (List V))(A:List V)(k:KK β):(yo 0 (zE (xj zK (xJ yd ze yi xe ye L) 0 L zj6) (yQ 0 (CF.res zbE) k))) (.exit 0) (zjX p z A)=zo7 yd ze yi xe ye L p z A (fun p z C D E A=>zw (xj zK (xJ yd ze yi xe ye L) 0 L zdS) zgi L (zex p z C D E A) (yo 2 (zE (xj zK (xJ yd ze yi xe ye L) 0 L zhW) (yQ 0 (CF.res zbE) k)))):=by kernel_rfl
def zo4{β:Type}(yd:xn)(ze:zo)(yi:zM)(xe:xr)(ye:zp)(L:Nat)(M:Bool)(E F:List (List V))(G z:Int)(N:List V)(p:zn0 β)(J:Bool→List (List V)→List V→Option β):Option β:=ifb (decide (z<G)) (idx F z fun H=>chk ((XM (XN 2 H))=2∧0+2≤2) (lt (xm [(Qe (0:Int)),(V.gs 1 ([]:List (List V)))] 0 (XN 2 H)) fun I=>cI .i64 I 0 fun O=>lt (QF .u64 O) fun P=>xe β L ([]:List (List V)) P (fun A=>chk ((XM E+XM A)*1≤yn∧XM E+XM A≤yn) (lt (E++A) fun C=>cLd 1 I 1 fun Q=>ye β L ([]:List (List V)) Q (fun D=>chk ((XM C+XM D)*1≤yn∧XM C+XM D≤yn) (lt (C++D) fun R=>lt (QF .i64 ((z:Int)+(1:Int))) fun S=>p M R F G S N)))))) (J M E N)
theorem zux{β:Type}(yd:xn)(ze:zo)(yi:zM)(xe:xr)(ye:zp)(L:Nat)(C:Bool)(D p:List (List V))(z A:Int)(E:List V)(X:St→Option β)(K:KT β):xj zK (xJ yd ze yi xe ye L) 0 L zdS (zex C D p z A E) (zU zgi X K)=zo4 yd ze yi xe ye L C D p z A E (fun C D p z A E=>X (zex C D p z A E)) (fun C D E=>K (.exit 2) (zjZ C D E)):=by kernel_rfl
def znz{β:Type}(yd:xn)(ze:zo)(yi:zM)(xe:xr)(ye:zp)(L:Nat)(H:Bool)(E:List (List V))(F:List V)(A:List (List V)→Option β)(p:List (List V)→List (List V)→Int→Int→Option β):Option β:=cI .u32 F 3 fun G=>yd β L ([]:List (List V)) G (fun z=>chk ((XM E+XM z)*1≤yn∧XM E+XM z≤yn) (lt (E++z) fun C=>ifb (!H) (A C) (cLd 35 F 1 fun D=>p C D ((XM D:Nat):Int) (0:Int))))
theorem zsG{β:Type}(yd:xn)(ze:zo)(yi:zM)(xe:xr)(ye:zp)(L:Nat)(z:Bool)(p:List (List V))(A:List V)(k:KK β):(yo 2 (zE (xj zK (xJ yd ze yi xe ye L) 0 L zhW) (yQ 0 (CF.res zbE) k))) (.exit 2) (zjZ z p A)=znz yd ze yi xe ye L z p A (fun F=>k (V.gs 1 F) []) (fun p C D E=>zw (xj zK (xJ yd ze yi xe ye L) 0 L zbU) zbl L (zbm p C D E) (yo 4 (zE (xj zK (xJ yd ze yi xe ye L) 0 L zjg) (yQ 0 (CF.res zbE) k)))):=by kernel_rfl
def zl2{β:Type}(yd:xn)(ze:zo)(yi:zM)(xe:xr)(ye:zp)(L:Nat)(C D:List (List V))(E z:Int)(p:zfW β)(I:List (List V)→Option β):Option β:=ifb (decide (z<E)) (idx D z fun F=>chk ((XM (XN 35 F))=35∧0+35≤35) (lt (xm (We 32 (Qa (0:Int))++[(Qc (0:Int)),(Qc (0:Int)),(V.gs 1 ([]:List (List V)))]) 0 (XN 35 F)) fun G=>cLd 1 G 34 fun J=>lt (QF .u64 ((XM J:Nat):Int)) fun M=>ze β L ([]:List (List V)) M (fun A=>chk ((XM C+XM A)*1≤yn∧XM C+XM A≤yn) (lt (C++A) fun N=>cLd 1 G 34 fun H=>p N D E z H ((XM H:Nat):Int) (0:Int))))) (I C)
theorem zrT{β:Type}(yd:xn)(ze:zo)(yi:zM)(xe:xr)(ye:zp)(L:Nat)(C p:List (List V))(z A:Int)(X:St→Option β)(K:KT β):xj zK (xJ yd ze yi xe ye L) 0 L zbU (zbm C p z A) (zU zbl X K)=zl2 yd ze yi xe ye L C p z A (fun C p z A D E F=>zw (xj zK (xJ yd ze yi xe ye L) 0 L za5) zcc L (zbv C p z A D E F) (yo 6 (yo 5 (zE (xj zK (xJ yd ze yi xe ye L) 0 L ze6) (zU zbl X K))))) (fun C=>K (.exit 4) (zjU C)):=by kernel_rfl
def zk1{β:Type}(yd:xn)(ze:zo)(yi:zM)(xe:xr)(ye:zp)(L:Nat)(z:List (List V))(p:List (List V)→Option β):Option β:=p z
theorem zqr{β:Type}(yd:xn)(ze:zo)(yi:zM)(xe:xr)(ye:zp)(L:Nat)(p:List (List V))(k:KK β):(yo 4 (zE (xj zK (xJ yd ze yi xe ye L) 0 L zjg) (yQ 0 (CF.res zbE) k))) (.exit 4) (zjU p)=zk1 yd ze yi xe ye L p (fun z=>k (V.gs 1 z) []):=by kernel_rfl
def zgJ{β:Type}(yd:xn)(ze:zo)(yi:zM)(xe:xr)(ye:zp)(L:Nat)(C D:List (List V))(E F:Int)(G:List (List V))(H z:Int)(p:zfW β)(I:List (List V)→List (List V)→Int→Int→Option β):Option β:=ifb (decide (z<H)) (idx G z fun J=>cL 1 J 0 fun M=>ye β L ([]:List (List V)) M (fun A=>chk ((XM C+XM A)*1≤yn∧XM C+XM A≤yn) (lt (C++A) fun N=>lt (QF .i64 ((z:Int)+(1:Int))) fun O=>p N D E F G H O))) (I C D E F)
theorem zlO{β:Type}(yd:xn)(ze:zo)(yi:zM)(xe:xr)(ye:zp)(L:Nat)(F p:List (List V))(z A:Int)(C:List (List V))(D E:Int)(X:St→Option β)(K:KT β):xj zK (xJ yd ze yi xe ye L) 0 L za5 (zbv F p z A C D E) (zU zcc X K)=zgJ yd ze yi xe ye L F p z A C D E (fun F p z A C D E=>X (zbv F p z A C D E)) (fun F p z A=>K (.exit 6) (zoI F p z A)):=by kernel_rfl
def zfJ{β:Type}(yd:xn)(ze:zo)(yi:zM)(xe:xr)(ye:zp)(L:Nat)(E z:List (List V))(A C:Int)(p:List (List V)→List (List V)→Int→Int→Option β):Option β:=lt (QF .i64 ((C:Int)+(1:Int))) fun D=>p E z A D
theorem zk4{β:Type}(yd:xn)(ze:zo)(yi:zM)(xe:xr)(ye:zp)(L:Nat)(C p:List (List V))(z A:Int)(X:St→Option β)(K:KT β):(yo 6 (yo 5 (zE (xj zK (xJ yd ze yi xe ye L) 0 L ze6) (zU zbl X K)))) (.exit 6) (zoI C p z A)=zfJ yd ze yi xe ye L C p z A (fun C p z A=>X (zbm C p z A)):=by kernel_rfl
def zlR{β:Type}(yd:xn)(ze:zo)(yi:zM)(xe:xr)(ye:zp)(L:Nat)(p:Bool→List (List V)→List V→Option β):Nat→Bool→List (List V)→List (List V)→Int→Int→List V→Option β
 | 0,_,_,_,_,_,_=>none
 | n+1,D,E,z,A,C,F=>zru yd ze yi xe ye L D E z A C F (fun D E z A C F=>zlR yd ze yi xe ye L p n D E z A C F) p
theorem zoD{β:Type}(yd:xn)(ze:zo)(yi:zM)(xe:xr)(ye:zp)(L:Nat)(K:KT β):∀ (n:Nat) (C:Bool) (D p:List (List V)) (z A:Int) (E:List V),zw (xj zK (xJ yd ze yi xe ye L) 0 L zeO) zhP n (zfp C D p z A E) K=zlR yd ze yi xe ye L (fun C D E=>K (.exit 0) (zjX C D E)) n C D p z A E:=by
 intro n
 induction n with
 | zero=>intros; rfl
 | succ n ih=>
  intro C D p z A E
  refine (zwI yd ze yi xe ye L C D p z A E (fun σ=>zw (xj zK (xJ yd ze yi xe ye L) 0 L zeO) zhP n σ K) K).trans ?_
  simp only [ih]
  rfl
def zjQ{β:Type}(yd:xn)(ze:zo)(yi:zM)(xe:xr)(ye:zp)(L:Nat)(p:Bool→List (List V)→List V→Option β):Nat→Bool→List (List V)→List (List V)→Int→Int→List V→Option β
 | 0,_,_,_,_,_,_=>none
 | n+1,D,E,z,A,C,F=>zo4 yd ze yi xe ye L D E z A C F (fun D E z A C F=>zjQ yd ze yi xe ye L p n D E z A C F) p
theorem zmn{β:Type}(yd:xn)(ze:zo)(yi:zM)(xe:xr)(ye:zp)(L:Nat)(K:KT β):∀ (n:Nat) (C:Bool) (D p:List (List V)) (z A:Int) (E:List V),zw (xj zK (xJ yd ze yi xe ye L) 0 L zdS) zgi n (zex C D p z A E) K=zjQ yd ze yi xe ye L (fun C D E=>K (.exit 2) (zjZ C D E)) n C D p z A E:=by
 intro n
 induction n with
 | zero=>intros; rfl
 | succ n ih=>
  intro C D p z A E
  refine (zux yd ze yi xe ye L C D p z A E (fun σ=>zw (xj zK (xJ yd ze yi xe ye L) 0 L zdS) zgi n σ K) K).trans ?_
  simp only [ih]
  rfl
def zdw{β:Type}(yd:xn)(ze:zo)(yi:zM)(xe:xr)(ye:zp)(L:Nat)(p:List (List V)→List (List V)→Int→Int→Option β):Nat→List (List V)→List (List V)→Int→Int→List (List V)→Int→Int→Option β
 | 0,_,_,_,_,_,_,_=>none
 | n+1,G,z,A,C,D,E,F=>zgJ yd ze yi xe ye L G z A C D E F (fun G z A C D E F=>zdw yd ze yi xe ye L p n G z A C D E F) p
theorem zfe{β:Type}(yd:xn)(ze:zo)(yi:zM)(xe:xr)(ye:zp)(L:Nat)(K:KT β):∀ (n:Nat) (F p:List (List V)) (z A:Int) (C:List (List V)) (D E:Int),zw (xj zK (xJ yd ze yi xe ye L) 0 L za5) zcc n (zbv F p z A C D E) K=zdw yd ze yi xe ye L (fun F p z A=>K (.exit 6) (zoI F p z A)) n F p z A C D E:=by
 intro n
 induction n with
 | zero=>intros; rfl
 | succ n ih=>
  intro F p z A C D E
  refine (zlO yd ze yi xe ye L F p z A C D E (fun σ=>zw (xj zK (xJ yd ze yi xe ye L) 0 L za5) zcc n σ K) K).trans ?_
  simp only [ih]
  rfl
def zgR{β:Type}(yd:xn)(ze:zo)(yi:zM)(xe:xr)(ye:zp)(L:Nat)(D z:List (List V))(A C:Int)(E:List (List V)→Option β)(p:List (List V)→List (List V)→Int→Int→Option β):Option β:=zl2 yd ze yi xe ye L D z A C (fun D z A C F G H=>zdw yd ze yi xe ye L (fun D z A C=>zfJ yd ze yi xe ye L D z A C p) L D z A C F G H) E
theorem zre{β:Type}(yd:xn)(ze:zo)(yi:zM)(xe:xr)(ye:zp)(L:Nat)(C p:List (List V))(z A:Int)(X:St→Option β)(K:KT β):xj zK (xJ yd ze yi xe ye L) 0 L zbU (zbm C p z A) (zU zbl X K)=zgR yd ze yi xe ye L C p z A (fun C=>K (.exit 4) (zjU C)) (fun C p z A=>X (zbm C p z A)):=by
 refine (zrT yd ze yi xe ye L C p z A X K).trans ?_
 unfold zgR
 first
  | (simp only [zfe,zk4]; done)
  | (simp only [zfe]; rfl)
def zhA{β:Type}(yd:xn)(ze:zo)(yi:zM)(xe:xr)(ye:zp)(L:Nat)(p:List (List V)→Option β):Nat→List (List V)→List (List V)→Int→Int→Option β
 | 0,_,_,_,_=>none
 | n+1,D,z,A,C=>zgR yd ze yi xe ye L D z A C p (fun D z A C=>zhA yd ze yi xe ye L p n D z A C)
theorem zj5{β:Type}(yd:xn)(ze:zo)(yi:zM)(xe:xr)(ye:zp)(L:Nat)(K:KT β):∀ (n:Nat) (C p:List (List V)) (z A:Int),zw (xj zK (xJ yd ze yi xe ye L) 0 L zbU) zbl n (zbm C p z A) K=zhA yd ze yi xe ye L (fun C=>K (.exit 4) (zjU C)) n C p z A:=by
 intro n
 induction n with
 | zero=>intros; rfl
 | succ n ih=>
  intro C p z A
  refine (zre yd ze yi xe ye L C p z A (fun σ=>zw (xj zK (xJ yd ze yi xe ye L) 0 L zbU) zbl n σ K) K).trans ?_
  simp only [ih]
  rfl
def zhF{β:Type}(yd:xn)(ze:zo)(yi:zM)(xe:xr)(ye:zp)(L:Nat)(E:Bool)(z:List (List V))(F:List V)(p:List (List V)→Option β):Option β:=znz yd ze yi xe ye L E z F p (fun z A C D=>zhA yd ze yi xe ye L (fun z=>zk1 yd ze yi xe ye L z p) L z A C D)
theorem zrO{β:Type}(yd:xn)(ze:zo)(yi:zM)(xe:xr)(ye:zp)(L:Nat)(p:Bool)(z:List (List V))(A:List V)(k:KK β):(yo 2 (zE (xj zK (xJ yd ze yi xe ye L) 0 L zhW) (yQ 0 (CF.res zbE) k))) (.exit 2) (zjZ p z A)=zhF yd ze yi xe ye L p z A (fun C=>k (V.gs 1 C) []):=by
 refine (zsG yd ze yi xe ye L p z A k).trans ?_
 unfold zhF
 first
  | (simp only [zj5,zqr]; done)
  | (simp only [zj5]; rfl)
def ziF{β:Type}(yd:xn)(ze:zo)(yi:zM)(xe:xr)(ye:zp)(L:Nat)(p:Bool)(z:List (List V))(A:List V)(C:List (List V)→Option β):Option β:=zo7 yd ze yi xe ye L p z A (fun p z D E F A=>zjQ yd ze yi xe ye L (fun p z A=>zhF yd ze yi xe ye L p z A C) L p z D E F A)
theorem ztJ{β:Type}(yd:xn)(ze:zo)(yi:zM)(xe:xr)(ye:zp)(L:Nat)(p:Bool)(z:List (List V))(A:List V)(k:KK β):(yo 0 (zE (xj zK (xJ yd ze yi xe ye L) 0 L zj6) (yQ 0 (CF.res zbE) k))) (.exit 0) (zjX p z A)=ziF yd ze yi xe ye L p z A (fun C=>k (V.gs 1 C) []):=by
 refine (zuy yd ze yi xe ye L p z A k).trans ?_
 unfold ziF
 first
  | (simp only [zmn,zrO]; done)
  | (simp only [zmn]; rfl)
def zuw{β:Type}(yd:xn)(ze:zo)(yi:zM)(xe:xr)(ye:zp)(L:Nat)(G:List V)(p:Bool)(z:List (List V)→Option β):Option β:=zz6 yd ze yi xe ye L G p (fun p A D E F C=>zlR yd ze yi xe ye L (fun p A C=>ziF yd ze yi xe ye L p A C z) L p A D E F C)
theorem zC6{β:Type}(yd:xn)(ze:zo)(yi:zM)(xe:xr)(ye:zp)(L:Nat)(p:List V)(z:Bool)(k:KK β):xq zK (xJ yd ze yi xe ye L) L zbE [(V.agg p),(V.sc (.bool z))] [] k=zuw yd ze yi xe ye L p z (fun p=>k (V.gs 1 p) []):=by
 refine (zCP yd ze yi xe ye L p z k).trans ?_
 unfold zuw
 first
  | (simp only [zoD,ztJ]; done)
  | (simp only [zoD]; rfl)
abbrev yC:=∀ (β:Type),Nat→List V→Bool→(List (List V)→Option β)→Option β
def yh(β:Type)(L:Nat)(z:List V)(A:Bool)(p:List (List V)→Option β):Option β:=zuw yd ze yi xe ye L z A p
def zjl(yh:yC)(L:Nat)(β:Type)(args:List V)(bor:Bor)(k:KK β):Option β:=match args,bor with
 | [a0,a1],[]=>aG a0 fun p=>aB a1 fun z=>yh β L p z (fun p=>k (V.gs 1 p) [])
 | _,_=>none
theorem zDN(L:Nat)(β:Type)(args:List V)(bor:Bor)(k:KK β)(r:β)(h:zjl yh L β args bor k=some r):xq zK (xJ yd ze yi xe ye L) L zbE args bor k=some r:=by
 unfold zjl at h
 split at h
 ·have q:=zde h; clear h; obtain ⟨p,rfl,h⟩:=q
  have q:=zoH h; clear h; obtain ⟨z,rfl,h⟩:=q
  exact (zC6 yd ze yi xe ye L p z k).trans h
 ·cases h
def zcu:CC:=(.seq (.reg [Qp 51 .lss (tq 50) (tq 49)]) (.seq (.cond (tq 51) .skip (.seq (.mask (bl 962072674306 63) (bl 9187343239835811499 63)) (.exit 4))) (.seq (.block 5 (.seq (.reg [Qo 52 1 (tq 48) (tq 50),Qj 53 1 (tq 52),Qh 8 (tq 53)]) (.seq (.reg [Qh 54 (tq 8),Qr 55 (tq 54),Qp 56 .gtr (tq 55) (Qf 520)]) (.cond (tq 56) (.seq (.reg [Qh 2 (Qg false)]) (.seq (.mask (bl 4 63) (bl 9186745105510301357 63)) .ret)) .skip)))) (.reg [Qp 57 .add (tq 50) (Qf 1),Qh 50 (tq 57)]))))
def zgh:CC:=(.reg [Qp 58 .add (tq 39) (Qf 1),Qh 39 (tq 58)])
def zek:CC:=(.seq (.reg [Qp 40 .lss (tq 39) (tq 38)]) (.seq (.cond (tq 40) .skip (.seq (.mask (bl 2 63) (bl 9186745105510301355 63)) (.exit 2))) (.seq (.block 3 (.seq (.reg [Qo 41 35 (tq 37) (tq 39),Qk 42 35 (tq 41),oo 6 (.alloc true (rp 32 (.sc (.int .u8 0)) (rp 2 (.sc (.int .u32 0)) (rp 1 (.gs 1 []) [])))),Qm 35 (tq 6) (tq 42)]) (.seq (.seq (.reg [Ql 43 34 (tq 6),Qj 44 1 (tq 43),Qr 45 (tq 44),Qp 46 .gtr (tq 45) (Qf 32)]) (.cond (tq 46) (.seq (.reg [Qh 2 (Qg false)]) (.seq (.mask (bl 4 63) (bl 9186745105510301357 63)) .ret)) .skip)) (.seq (.reg [Ql 47 34 (tq 6),Qj 48 1 (tq 47),Qr 49 (tq 48),Qh 50 (Qf 0)]) (.block 4 (.loop (bl 1971286909648898 63) (bl 9187343239835811499 63) zcu)))))) zgh)))
def zgV:CC:=(.seq (.reg [Qp 23 .lss (tq 22) (tq 21)]) (.seq (.cond (tq 23) .skip (.seq (.mask (bl 2 63) (bl 9223372032559808427 63)) (.exit 0))) (.seq (.block 1 (.seq (.reg [Qo 24 2 (tq 20) (tq 22),Qk 25 2 (tq 24),oo 4 (.alloc true [(.sc (.int .i64 0)),(.gs 1 [])]),Qm 2 (tq 4) (tq 25)]) (.seq (.reg [Ql 26 0 (tq 4),Qj 27 1 (tq 26),Qp 28 .lss (tq 27) (Qf 0),Qh 29 (tq 28),⟨(some 30),false,(some (29,false)),.fieldAddr 1 (tq 4)⟩,⟨(some 31),false,(some (29,false)),.load false 1 (tq 30) false⟩,⟨(some 32),false,(some (29,false)),.lenS (tq 31)⟩,⟨(some 33),false,(some (29,false)),.bin .gtr (tq 32) (Qf 520)⟩,oo 34 (.pick (tq 29) (Qg true) (tq 33))]) (.cond (tq 34) (.seq (.reg [Qh 2 (Qg false)]) (.seq (.mask (bl 4 63) (bl 9223372032559808429 63)) .ret)) .skip)))) (.reg [Qp 35 .add (tq 22) (Qf 1),Qh 22 (tq 35)]))))
def zmQ:CC:=(.seq (.reg [Qk 59 4 (tq 1),Qs 60 147 [((tq 59),1),((Qg true),0)],Qr 61 (tq 60),Qp 62 .leq (tq 61) (Qf 20000),Qh 2 (tq 62)]) .ret)
def zks:CC:=(.seq (.seq (.reg [Ql 36 1 (tq 1),Qj 37 1 (tq 36),Qr 38 (tq 37),Qh 39 (Qf 0)]) (.block 2 (.loop (bl 962072674306 63) (bl 9186745105510301355 63) zek))) zmQ)
def zdh:CF:=⟨63,[.tmp 2],(.seq (.reg [Qv 1 (tq 0),Qh 2 (Qg false)]) (.seq (.seq (.reg [Ql 9 1 (tq 1),Qj 10 1 (tq 9),Qr 11 (tq 10),Qp 12 .gtr (tq 11) (Qf 64),Qh 13 (tq 12),⟨(some 14),false,(some (13,false)),.fieldAddr 2 (tq 1)⟩,⟨(some 15),false,(some (13,false)),.load false 1 (tq 14) false⟩,⟨(some 16),false,(some (13,false)),.lenS (tq 15)⟩,⟨(some 17),false,(some (13,false)),.bin .gtr (tq 16) (Qf 64)⟩,oo 18 (.pick (tq 13) (Qg true) (tq 17))]) (.cond (tq 18) (.seq (.reg [Qh 2 (Qg false)]) .ret) .skip)) (.seq (.seq (.reg [Ql 19 2 (tq 1),Qj 20 1 (tq 19),Qr 21 (tq 20),Qh 22 (Qf 0)]) (.block 0 (.loop (bl 7340034 63) (bl 9223372032559808427 63) zgV))) zks)))⟩
def zyi:Hint:=⟨[(0,0),(5,2),(11,2)],[],[none,none,none,some ((bl 7340034 63),(bl 9223372032559808427 63)),none,some ((bl 2 63),(bl 9223372032559808427 63)),none,none,some ((bl 4 63),(bl 9223372032559808429 63)),none,some ((bl 962072674306 63),(bl 9186745105510301355 63)),none,some ((bl 2 63),(bl 9186745105510301355 63)),none,none,some ((bl 4 63),(bl 9186745105510301357 63)),none,some ((bl 1971286909648898 63),(bl 9187343239835811499 63)),none,some ((bl 962072674306 63),(bl 9187343239835811499 63)),none,none,some ((bl 4 63),(bl 9186745105510301357 63)),none],[],[],false,false,[]⟩
def zY:Nat→Sh:=xT [(10,(.sl 35)),(15,(.sl 2)),(20,(.sl 2)),(27,(.int .i64)),(31,(.sl 1)),(37,(.sl 35)),(44,(.sl 1)),(48,(.sl 1)),(53,(.sl 1))]
def xY(yh:yC)(L:Nat):CBC:=(xy 147 (zjl yh L) noC)
def zlh:St→St:=zab 0 (bl 7340034 63) (bl 9223372032559808427 63)
def zcY:St→St:=zab 0 (bl 962072674306 63) (bl 9186745105510301355 63)
def zdR:St→St:=zab 0 (bl 1971286909648898 63) (bl 9187343239835811499 63)
def zhX(p:List (List V))(z A:Int)(C:List V):St:=⟨(jn 1 ((V.ptr 1 0)::(jn 18 ((V.sl 2 p)::((Qe z)::((Qe A)::(jn 40 []))))))),(gn 1 ((.live true C)::(gn 61 [])))⟩
def zbG(p:Bool):St:=⟨(jn 2 ((V.sc (.bool p))::(jn 60 []))),(gn 63 [])⟩
def zmT(p:List V):St:=⟨(jn 1 ((V.ptr 1 0)::(jn 61 []))),(gn 1 ((.live true p)::(gn 61 [])))⟩
def zdl(p:List (List V))(z A:Int)(C:List V):St:=⟨(jn 1 ((V.ptr 1 0)::(jn 35 ((V.sl 35 p)::((Qe z)::((Qe A)::(jn 23 []))))))),(gn 1 ((.live true C)::(gn 61 [])))⟩
def zc2(p:List (List V))(z A:Int)(C:List (List V))(D E:Int)(F:List V):St:=⟨(jn 1 ((V.ptr 1 0)::(jn 35 ((V.sl 35 p)::((Qe z)::((Qe A)::(jn 8 ((V.sl 1 C)::((Qe D)::((Qe E)::(jn 12 []))))))))))),(gn 1 ((.live true F)::(gn 61 [])))⟩
def zmt(p:List V):St:=⟨(jn 1 ((V.ptr 1 0)::(jn 61 []))),(gn 1 ((.live true p)::(gn 61 [])))⟩
def zri(p:List (List V))(z A:Int)(C:List V):St:=⟨(jn 1 ((V.ptr 1 0)::(jn 35 ((V.sl 35 p)::((Qe z)::((Qe A)::(jn 23 []))))))),(gn 1 ((.live true C)::(gn 61 [])))⟩
abbrev zj3(β:Type):Type:=List (List V)→Int→Int→List (List V)→Int→Int→List V→Option β
def zDW{β:Type}(yh:yC)(L:Nat)(A:List V)(z:Bool→Option β)(p:List (List V)→Int→Int→List V→Option β):Option β:=cLd 35 A 1 fun D=>ifb (decide (((XM D:Nat):Int)>(64:Int))) (z false) (cLd 2 A 2 fun E=>ifb (decide (((XM E:Nat):Int)>(64:Int))) (z false) (cLd 2 A 2 fun C=>p C ((XM C:Nat):Int) (0:Int) A))
theorem zGO{β:Type}(yh:yC)(L:Nat)(p:List V)(k:KK β):xq zY (xY yh L) L zdh [(V.agg p)] [] k=zDW yh L p (fun p=>k (V.sc (.bool p)) []) (fun z A C D=>zw (xj zY (xY yh L) 0 L zgV) zlh L (zhX z A C D) (yo 0 (zE (xj zY (xY yh L) 0 L zks) (yQ 0 (CF.res zdh) k)))):=by kernel_rfl
def zvV{β:Type}(yh:yC)(L:Nat)(C:List (List V))(D A:Int)(F:List V)(z:Bool→Option β)(p:List (List V)→Int→Int→List V→Option β)(E:List V→Option β):Option β:=ifb (decide (A<D)) (idx C A fun G=>chk ((XM (XN 2 G))=2∧0+2≤2) (lt (xm [(Qe (0:Int)),(V.gs 1 ([]:List (List V)))] 0 (XN 2 G)) fun H=>cI .i64 H 0 fun I=>ifb (decide (I<(0:Int))) (z false) (cLd 1 H 1 fun J=>ifb (decide (((XM J:Nat):Int)>(520:Int))) (z false) (lt (QF .i64 ((A:Int)+(1:Int))) fun M=>p C D M F)))) (E F)
theorem zzv{β:Type}(yh:yC)(L:Nat)(p:List (List V))(z A:Int)(C:List V)(X:St→Option β)(K:KT β):xj zY (xY yh L) 0 L zgV (zhX p z A C) (zU zlh X K)=zvV yh L p z A C (fun D=>K .ret (zbG D)) (fun p z A C=>X (zhX p z A C)) (fun C=>K (.exit 0) (zmT C)):=by kernel_rfl
def zrx{β:Type}(yh:yC)(L:Nat)(z:Bool)(p:Bool→Option β):Option β:=p z
theorem zxn{β:Type}(yh:yC)(L:Nat)(p:Bool)(k:KK β):(yo 0 (zE (xj zY (xY yh L) 0 L zks) (yQ 0 (CF.res zdh) k))) .ret (zbG p)=zrx yh L p (fun z=>k (V.sc (.bool z)) []):=by kernel_rfl
def zsQ{β:Type}(yh:yC)(L:Nat)(z:List V)(p:List (List V)→Int→Int→List V→Option β):Option β:=cLd 35 z 1 fun A=>p A ((XM A:Nat):Int) (0:Int) z
theorem zxU{β:Type}(yh:yC)(L:Nat)(p:List V)(k:KK β):(yo 0 (zE (xj zY (xY yh L) 0 L zks) (yQ 0 (CF.res zdh) k))) (.exit 0) (zmT p)=zsQ yh L p (fun z A C p=>zw (xj zY (xY yh L) 0 L zek) zcY L (zdl z A C p) (yo 2 (zE (xj zY (xY yh L) 0 L zmQ) (yQ 0 (CF.res zdh) k)))):=by kernel_rfl
def zt3{β:Type}(yh:yC)(L:Nat)(C:List (List V))(D z:Int)(H:List V)(A:Bool→Option β)(p:zj3 β)(G:List V→Option β):Option β:=ifb (decide (z<D)) (idx C z fun I=>chk ((XM (XN 35 I))=35∧0+35≤35) (lt (xm (We 32 (Qa (0:Int))++[(Qc (0:Int)),(Qc (0:Int)),(V.gs 1 ([]:List (List V)))]) 0 (XN 35 I)) fun E=>cLd 1 E 34 fun J=>ifb (decide (((XM J:Nat):Int)>(32:Int))) (A false) (cLd 1 E 34 fun F=>p C D z F ((XM F:Nat):Int) (0:Int) H))) (G H)
theorem zys{β:Type}(yh:yC)(L:Nat)(p:List (List V))(z A:Int)(C:List V)(X:St→Option β)(K:KT β):xj zY (xY yh L) 0 L zek (zdl p z A C) (zU zcY X K)=zt3 yh L p z A C (fun G=>K .ret (zbG G)) (fun p z A D E F C=>zw (xj zY (xY yh L) 0 L zcu) zdR L (zc2 p z A D E F C) (yo 4 (yo 3 (zE (xj zY (xY yh L) 0 L zgh) (zU zcY X K))))) (fun C=>K (.exit 2) (zmt C)):=by kernel_rfl
def zqN{β:Type}(yh:yC)(L:Nat)(z:Bool)(p:Bool→Option β):Option β:=p z
theorem zvx{β:Type}(yh:yC)(L:Nat)(p:Bool)(k:KK β):(yo 2 (zE (xj zY (xY yh L) 0 L zmQ) (yQ 0 (CF.res zdh) k))) .ret (zbG p)=zqN yh L p (fun z=>k (V.sc (.bool z)) []):=by kernel_rfl
def zrv{β:Type}(yh:yC)(L:Nat)(z:List V)(p:Bool→Option β):Option β:=chk (0+4≤(XM z)) (yh β L (Xu V.dem (XN 4 z)) true (fun A=>p (decide (((XM A:Nat):Int)≤(20000:Int)))))
theorem zw7{β:Type}(yh:yC)(L:Nat)(p:List V)(k:KK β):(yo 2 (zE (xj zY (xY yh L) 0 L zmQ) (yQ 0 (CF.res zdh) k))) (.exit 2) (zmt p)=zrv yh L p (fun z=>k (V.sc (.bool z)) []):=by kernel_rfl
def zk3{β:Type}(yh:yC)(L:Nat)(C:List (List V))(D E:Int)(F:List (List V))(G z:Int)(I:List V)(A:Bool→Option β)(p:zj3 β)(H:List (List V)→Int→Int→List V→Option β):Option β:=ifb (decide (z<G)) (idx F z fun J=>cL 1 J 0 fun M=>ifb (decide (((XM M:Nat):Int)>(520:Int))) (A false) (lt (QF .i64 ((z:Int)+(1:Int))) fun N=>p C D E F G N I)) (H C D E I)
theorem zqk{β:Type}(yh:yC)(L:Nat)(p:List (List V))(z A:Int)(C:List (List V))(D E:Int)(F:List V)(X:St→Option β)(K:KT β):xj zY (xY yh L) 0 L zcu (zc2 p z A C D E F) (zU zdR X K)=zk3 yh L p z A C D E F (fun G=>K .ret (zbG G)) (fun p z A C D E F=>X (zc2 p z A C D E F)) (fun p z A F=>K (.exit 4) (zri p z A F)):=by kernel_rfl
def zix{β:Type}(yh:yC)(L:Nat)(z:Bool)(p:Bool→Option β):Option β:=p z
theorem znU{β:Type}(yh:yC)(L:Nat)(p:Bool)(X:St→Option β)(K:KT β):(yo 4 (yo 3 (zE (xj zY (xY yh L) 0 L zgh) (zU zcY X K)))) .ret (zbG p)=zix yh L p (fun p=>K .ret (zbG p)):=by kernel_rfl
def zjk{β:Type}(yh:yC)(L:Nat)(z:List (List V))(A C:Int)(E:List V)(p:List (List V)→Int→Int→List V→Option β):Option β:=lt (QF .i64 ((C:Int)+(1:Int))) fun D=>p z A D E
theorem zo1{β:Type}(yh:yC)(L:Nat)(p:List (List V))(z A:Int)(C:List V)(X:St→Option β)(K:KT β):(yo 4 (yo 3 (zE (xj zY (xY yh L) 0 L zgh) (zU zcY X K)))) (.exit 4) (zri p z A C)=zjk yh L p z A C (fun p z A C=>X (zdl p z A C)):=by kernel_rfl
def zpy{β:Type}(yh:yC)(L:Nat)(p:Bool→Option β)(z:List V→Option β):Nat→List (List V)→Int→Int→List V→Option β
 | 0,_,_,_,_=>none
 | n+1,A,C,D,E=>zvV yh L A C D E p (fun A C D E=>zpy yh L p z n A C D E) z
theorem zrz{β:Type}(yh:yC)(L:Nat)(K:KT β):∀ (n:Nat) (p:List (List V)) (z A:Int) (C:List V),zw (xj zY (xY yh L) 0 L zgV) zlh n (zhX p z A C) K=zpy yh L (fun D=>K .ret (zbG D)) (fun C=>K (.exit 0) (zmT C)) n p z A C:=by
 intro n
 induction n with
 | zero=>intros; rfl
 | succ n ih=>
  intro p z A C
  refine (zzv yh L p z A C (fun σ=>zw (xj zY (xY yh L) 0 L zgV) zlh n σ K) K).trans ?_
  simp only [ih]
  rfl
def zf0{β:Type}(yh:yC)(L:Nat)(p:Bool→Option β)(z:List (List V)→Int→Int→List V→Option β):Nat→List (List V)→Int→Int→List (List V)→Int→Int→List V→Option β
 | 0,_,_,_,_,_,_,_=>none
 | n+1,A,C,D,E,F,G,H=>zk3 yh L A C D E F G H p (fun A C D E F G H=>zf0 yh L p z n A C D E F G H) z
theorem ziz{β:Type}(yh:yC)(L:Nat)(K:KT β):∀ (n:Nat) (p:List (List V)) (z A:Int) (C:List (List V)) (D E:Int) (F:List V),zw (xj zY (xY yh L) 0 L zcu) zdR n (zc2 p z A C D E F) K=zf0 yh L (fun G=>K .ret (zbG G)) (fun p z A F=>K (.exit 4) (zri p z A F)) n p z A C D E F:=by
 intro n
 induction n with
 | zero=>intros; rfl
 | succ n ih=>
  intro p z A C D E F
  refine (zqk yh L p z A C D E F (fun σ=>zw (xj zY (xY yh L) 0 L zcu) zdR n σ K) K).trans ?_
  simp only [ih]
  rfl
def zm4{β:Type}(yh:yC)(L:Nat)(p:List (List V))(z A:Int)(E:List V)(D:Bool→Option β)(F:List V→Option β)(C:List (List V)→Int→Int→List V→Option β):Option β:=zt3 yh L p z A E D (fun p z A G H I E=>zf0 yh L (fun J=>zix yh L J D) (fun p z A E=>zjk yh L p z A E C) L p z A G H I E) F
theorem zx0{β:Type}(yh:yC)(L:Nat)(p:List (List V))(z A:Int)(C:List V)(X:St→Option β)(K:KT β):xj zY (xY yh L) 0 L zek (zdl p z A C) (zU zcY X K)=zm4 yh L p z A C (fun D=>K .ret (zbG D)) (fun C=>K (.exit 2) (zmt C)) (fun p z A C=>X (zdl p z A C)):=by
 refine (zys yh L p z A C X K).trans ?_
 unfold zm4
 first
  | (simp only [ziz,znU,zo1]; done)
  | (simp only [ziz]; rfl)
def zoC{β:Type}(yh:yC)(L:Nat)(p:Bool→Option β)(z:List V→Option β):Nat→List (List V)→Int→Int→List V→Option β
 | 0,_,_,_,_=>none
 | n+1,A,C,D,E=>zm4 yh L A C D E p z (fun A C D E=>zoC yh L p z n A C D E)
theorem zqK{β:Type}(yh:yC)(L:Nat)(K:KT β):∀ (n:Nat) (p:List (List V)) (z A:Int) (C:List V),zw (xj zY (xY yh L) 0 L zek) zcY n (zdl p z A C) K=zoC yh L (fun D=>K .ret (zbG D)) (fun C=>K (.exit 2) (zmt C)) n p z A C:=by
 intro n
 induction n with
 | zero=>intros; rfl
 | succ n ih=>
  intro p z A C
  refine (zx0 yh L p z A C (fun σ=>zw (xj zY (xY yh L) 0 L zek) zcY n σ K) K).trans ?_
  simp only [ih]
  rfl
def zlC{β:Type}(yh:yC)(L:Nat)(z:List V)(p:Bool→Option β):Option β:=zsQ yh L z (fun A C D z=>zoC yh L (fun E=>zqN yh L E p) (fun z=>zrv yh L z p) L A C D z)
theorem zxb{β:Type}(yh:yC)(L:Nat)(p:List V)(k:KK β):(yo 0 (zE (xj zY (xY yh L) 0 L zks) (yQ 0 (CF.res zdh) k))) (.exit 0) (zmT p)=zlC yh L p (fun z=>k (V.sc (.bool z)) []):=by
 refine (zxU yh L p k).trans ?_
 unfold zlC
 first
  | (simp only [zqK,zvx,zw7]; done)
  | (simp only [zqK]; rfl)
def zyM{β:Type}(yh:yC)(L:Nat)(E:List V)(p:Bool→Option β):Option β:=zDW yh L E p (fun A C D z=>zpy yh L (fun F=>zrx yh L F p) (fun z=>zlC yh L z p) L A C D z)
theorem zFk{β:Type}(yh:yC)(L:Nat)(p:List V)(k:KK β):xq zY (xY yh L) L zdh [(V.agg p)] [] k=zyM yh L p (fun p=>k (V.sc (.bool p)) []):=by
 refine (zGO yh L p k).trans ?_
 unfold zyM
 first
  | (simp only [zrz,zxn,zxb]; done)
  | (simp only [zrz]; rfl)
abbrev za7:=∀ (β:Type),Nat→List V→(Bool→Option β)→Option β
def yu(β:Type)(L:Nat)(z:List V)(p:Bool→Option β):Option β:=zyM yh L z p
def znk(yu:za7)(L:Nat)(β:Type)(args:List V)(bor:Bor)(k:KK β):Option β:=match args,bor with
 | [a0],[]=>aG a0 fun p=>yu β L p (fun p=>k (V.sc (.bool p)) [])
 | _,_=>none
theorem zGq(L:Nat)(β:Type)(args:List V)(bor:Bor)(k:KK β)(r:β)(h:znk yu L β args bor k=some r):xq zY (xY yh L) L zdh args bor k=some r:=by
 unfold znk at h
 split at h
 ·have q:=zde h; clear h; obtain ⟨p,rfl,h⟩:=q
  exact (zFk yh L p k).trans h
 ·cases h
def zoS:CF:=⟨12,[.tmp 4,.tmp 5],(.seq (.reg [Qv 2 (tq 0),Qi 4 (.const (.gs 1 [])),Qh 5 (Qf 0)]) (.seq (.seq (.reg [Qk 6 4 (tq 2),Qs 7 146 [((tq 6),1)],Qt 8 (tq 7)]) (.cond (tq 8) (.seq (.reg [Qi 4 (.const (.gs 1 [])),Qh 5 (Qf 4)]) .ret) .skip)) (.seq (.reg [Qk 9 4 (tq 2),Qh 10 (tq 1),Qs 11 147 [((tq 9),1),(Qw 10)],Qi 4 (tq 11),Qh 5 (Qf 0)]) .ret)))⟩
def zvl:Hint:=⟨[(0,0),(0,1),(2,0),(3,3)],[],[none,none,none],[],[],false,false,[]⟩
def ztk:Nat→Sh:=xT []
def zsz(yu:za7)(yh:yC)(L:Nat):CBC:=(xy 147 (zjl yh L) (xy 146 (znk yu L) noC))
def zz1{β:Type}(yu:za7)(yh:yC)(L:Nat)(z:List V)(A:Bool)(p:List (List V)→Int→Option β):Option β:=chk (0+4≤(XM z)) (yu β L (Xu V.dem (XN 4 z)) (fun C=>ifb (!C) (p ([]:List (List V)) (4:Int)) (chk (0+4≤(XM z)) (yh β L (Xu V.dem (XN 4 z)) A (fun D=>p D (0:Int))))))
theorem zDn{β:Type}(yu:za7)(yh:yC)(L:Nat)(A:List V)(C:Bool)(k:KK β):xq ztk (zsz yu yh L) L zoS [(V.agg A),(V.sc (.bool C))] [] k=zz1 yu yh L A C (fun p z=>k (V.tup [(V.gs 1 p),(Qe z)]) []):=by kernel_rfl
abbrev zjm:=∀ (β:Type),Nat→List V→Bool→(List (List V)→Int→Option β)→Option β
def y5(β:Type)(L:Nat)(z:List V)(A:Bool)(p:List (List V)→Int→Option β):Option β:=zz1 yu yh L z A p
def zl8(y5:zjm)(L:Nat)(β:Type)(args:List V)(bor:Bor)(k:KK β):Option β:=match args,bor with
 | [a0,a1],[]=>aG a0 fun A=>aB a1 fun C=>y5 β L A C (fun p z=>k (V.tup [(V.gs 1 p),(Qe z)]) [])
 | _,_=>none
theorem zCL(L:Nat)(β:Type)(args:List V)(bor:Bor)(k:KK β)(r:β)(h:zl8 y5 L β args bor k=some r):xq ztk (zsz yu yh L) L zoS args bor k=some r:=by
 unfold zl8 at h
 split at h
 ·have q:=zde h; clear h; obtain ⟨p,rfl,h⟩:=q
  have q:=zoH h; clear h; obtain ⟨z,rfl,h⟩:=q
  exact (zDn yu yh L p z k).trans h
 ·cases h
def zov:CF:=⟨14,[.tmp 2],(.seq (.reg [Qv 1 (tq 0),Qh 2 (Qf 0)]) (.seq (.seq (.reg [Qk 3 4 (tq 1),Qs 4 146 [((tq 3),1)],Qt 5 (tq 4)]) (.cond (tq 5) (.seq (.reg [Qh 2 (Qf 0)]) .ret) .skip)) (.seq (.dreg [] [(Qk 6 4 (tq 1),ql 1 [] []),(Qs 7 147 [((tq 6),1),((Qg false),0)],qc [1] []),(Qr 8 (tq 7),q0),(Qp 9 .mul (Qf 3) (tq 8),q0),(Qk 10 4 (tq 1),ql 1 [] []),(Qs 11 147 [((tq 10),1),((Qg true),0)],q0),(Qr 12 (tq 11),q0),(Qp 13 .add (tq 9) (tq 12),q0),(Qh 2 (tq 13),q0)]) .ret)))⟩
def zvs:Hint:=⟨[(0,0)],[],[none,none,none],[],[],false,false,[]⟩
def zsK:Nat→Sh:=xT []
def zsl(yu:za7)(yh:yC)(L:Nat):CBC:=(xy 147 (zjl yh L) (xy 146 (znk yu L) noC))
def zz2{β:Type}(yu:za7)(yh:yC)(L:Nat)(z:List V)(p:Int→Option β):Option β:=chk (0+4≤(XM z)) (yu β L (Xu V.dem (XN 4 z)) (fun A=>ifb (!A) (p (0:Int)) (chk (0+4≤(XM z)) (yh β L (Xu V.dem (XN 4 z)) false (fun C=>lt (QF .i64 (((3:Int):Int)*((XM C:Nat):Int))) fun D=>chk (0+4≤(XM z)) (yh β L (Xu V.dem (XN 4 z)) true (fun E=>lt (QF .i64 ((D:Int)+((XM E:Nat):Int))) fun F=>p F)))))))
theorem zDx{β:Type}(yu:za7)(yh:yC)(L:Nat)(p:List V)(k:KK β):xq zsK (zsl yu yh L) L zov [(V.agg p)] [] k=zz2 yu yh L p (fun p=>k (Qe p) []):=by kernel_rfl
abbrev zpV:=∀ (β:Type),Nat→List V→(Int→Option β)→Option β
def zbi(β:Type)(L:Nat)(z:List V)(p:Int→Option β):Option β:=zz2 yu yh L z p
def zqb(zbi:zpV)(L:Nat)(β:Type)(args:List V)(bor:Bor)(k:KK β):Option β:=match args,bor with
 | [a0],[]=>aG a0 fun p=>zbi β L p (fun p=>k (Qe p) [])
 | _,_=>none
theorem zCX(L:Nat)(β:Type)(args:List V)(bor:Bor)(k:KK β)(r:β)(h:zqb zbi L β args bor k=some r):xq zsK (zsl yu yh L) L zov args bor k=some r:=by
 unfold zqb at h
 split at h
 ·have q:=zde h; clear h; obtain ⟨p,rfl,h⟩:=q
  exact (zDx yu yh L p k).trans h
 ·cases h
def zf4:CC:=(.seq (.reg [Qp 9 .lss (tq 8) (tq 7)]) (.seq (.cond (tq 9) .skip (.seq (.mask (bl 0 22) (bl 4194259 22)) (.exit 0))) (.seq (.block 1 (.seq (.reg [Qo 10 2 (tq 6) (tq 8),Qk 11 2 (tq 10),oo 5 (.alloc true [(.sc (.int .i64 0)),(.gs 1 [])]),Qm 2 (tq 5) (tq 11)]) (.seq (.seq (.reg [Ql 12 0 (tq 5),Qj 13 1 (tq 12),Qh 14 (tq 3),Qp 15 .sub (Qf 2100000000000000) (tq 14),Qp 16 .gtr (tq 13) (tq 15)]) (.cond (tq 16) (.seq (.reg [Qh 2 (Qg false)]) (.seq (.mask (bl 4 22) (bl 4194263 22)) .ret)) .skip)) (.reg [Qh 17 (tq 3),Ql 18 0 (tq 5),Qj 19 1 (tq 18),Qp 20 .add (tq 17) (tq 19),Qh 3 (tq 20)])))) (.reg [Qp 21 .add (tq 8) (Qf 1),Qh 8 (tq 21)]))))
def zmy:CC:=(.seq (.reg [Qh 2 (Qg true)]) .ret)
def zfD:CF:=⟨22,[.tmp 2],(.seq (.reg [Qh 2 (Qg false)]) (.seq (.reg [Qh 3 (Qf 0)]) (.seq (.seq (.reg [Qh 6 (tq 0),Qr 7 (tq 6),Qh 8 (Qf 0)]) (.block 0 (.loop (bl 456 22) (bl 4194267 22) zf4))) zmy)))⟩
def zxE:Hint:=⟨[(4,2)],[],[none,some ((bl 456 22),(bl 4194267 22)),none,some ((bl 0 22),(bl 4194259 22)),none,none,some ((bl 4 22),(bl 4194263 22)),none],[],[],false,false,[]⟩
def zc8:Nat→Sh:=xT [(13,(.int .i64)),(19,(.int .i64))]
def zdd(L:Nat):CBC:=noC
def zjT:St→St:=zab 0 (bl 456 22) (bl 4194267 22)
def zg9(p:Int)(z:List (List V))(A C:Int):St:=⟨(jn 3 ((Qe p)::(jn 2 ((V.sl 2 z)::((Qe A)::((Qe C)::(jn 13 []))))))),(gn 22 [])⟩
def zn4(p:Bool):St:=⟨(jn 2 ((V.sc (.bool p))::(jn 19 []))),(gn 22 [])⟩
def zpi:St:=⟨(jn 22 []),(gn 22 [])⟩
def zCt{β:Type}(L:Nat)(z:List (List V))(p:Int→List (List V)→Int→Int→Option β):Option β:=p (0:Int) z ((XM z:Nat):Int) (0:Int)
theorem zEG{β:Type}(L:Nat)(p:List (List V))(k:KK β):xq zc8 (zdd L) L zfD [(V.sl 2 p)] [] k=zCt L p (fun z A C D=>zw (xj zc8 (zdd L) 0 L zf4) zjT L (zg9 z A C D) (yo 0 (zE (xj zc8 (zdd L) 0 L zmy) (yQ 0 (CF.res zfD) k)))):=by kernel_rfl
def zt7{β:Type}(L:Nat)(D:Int)(E:List (List V))(F A:Int)(z:Bool→Option β)(p:Int→List (List V)→Int→Int→Option β)(C:Option β):Option β:=ifb (decide (A<F)) (idx E A fun G=>chk ((XM (XN 2 G))=2∧0+2≤2) (lt (xm [(Qe (0:Int)),(V.gs 1 ([]:List (List V)))] 0 (XN 2 G)) fun H=>cI .i64 H 0 fun I=>lt (QF .i64 (((2100000000000000:Int):Int)-D)) fun J=>ifb (decide (I>J)) (z false) (cI .i64 H 0 fun M=>lt (QF .i64 ((D:Int)+M)) fun N=>lt (QF .i64 ((A:Int)+(1:Int))) fun O=>p N E F O))) (C)
theorem zyP{β:Type}(L:Nat)(p:Int)(z:List (List V))(A C:Int)(X:St→Option β)(K:KT β):xj zc8 (zdd L) 0 L zf4 (zg9 p z A C) (zU zjT X K)=zt7 L p z A C (fun D=>K .ret (zn4 D)) (fun p z A C=>X (zg9 p z A C)) (K (.exit 0) (zpi)):=by kernel_rfl
def zqP{β:Type}(L:Nat)(z:Bool)(p:Bool→Option β):Option β:=p z
theorem zvp{β:Type}(L:Nat)(p:Bool)(k:KK β):(yo 0 (zE (xj zc8 (zdd L) 0 L zmy) (yQ 0 (CF.res zfD) k))) .ret (zn4 p)=zqP L p (fun z=>k (V.sc (.bool z)) []):=by kernel_rfl
def zrF{β:Type}(L:Nat)(p:Bool→Option β):Option β:=p true
theorem zwZ{β:Type}(L:Nat)(k:KK β):(yo 0 (zE (xj zc8 (zdd L) 0 L zmy) (yQ 0 (CF.res zfD) k))) (.exit 0) (zpi)=zrF L (fun p=>k (V.sc (.bool p)) []):=by kernel_rfl
def zof{β:Type}(L:Nat)(p:Bool→Option β)(z:Option β):Nat→Int→List (List V)→Int→Int→Option β
 | 0,_,_,_,_=>none
 | n+1,A,C,D,E=>zt7 L A C D E p (fun A C D E=>zof L p z n A C D E) z
theorem zqO{β:Type}(L:Nat)(K:KT β):∀ (n:Nat) (p:Int) (z:List (List V)) (A C:Int),zw (xj zc8 (zdd L) 0 L zf4) zjT n (zg9 p z A C) K=zof L (fun D=>K .ret (zn4 D)) (K (.exit 0) (zpi)) n p z A C:=by
 intro n
 induction n with
 | zero=>intros; rfl
 | succ n ih=>
  intro p z A C
  refine (zyP L p z A C (fun σ=>zw (xj zc8 (zdd L) 0 L zf4) zjT n σ K) K).trans ?_
  simp only [ih]
  rfl
def zxd{β:Type}(L:Nat)(z:List (List V))(p:Bool→Option β):Option β:=zCt L z (fun A C D E=>zof L (fun F=>zqP L F p) (zrF L p) L A C D E)
theorem zES{β:Type}(L:Nat)(p:List (List V))(k:KK β):xq zc8 (zdd L) L zfD [(V.sl 2 p)] [] k=zxd L p (fun p=>k (V.sc (.bool p)) []):=by
 refine (zEG L p k).trans ?_
 unfold zxd
 first
  | (simp only [zqO,zvp,zwZ]; done)
  | (simp only [zqO]; rfl)
abbrev zcp:=∀ (β:Type),Nat→List (List V)→(Bool→Option β)→Option β
def xB(β:Type)(L:Nat)(z:List (List V))(p:Bool→Option β):Option β:=zxd L z p
def zrZ(xB:zcp)(L:Nat)(β:Type)(args:List V)(bor:Bor)(k:KK β):Option β:=match args,bor with
 | [a0],[]=>aL 2 a0 fun p=>xB β L p (fun p=>k (V.sc (.bool p)) [])
 | _,_=>none
theorem zEv(L:Nat)(β:Type)(args:List V)(bor:Bor)(k:KK β)(r:β)(h:zrZ xB L β args bor k=some r):xq zc8 (zdd L) L zfD args bor k=some r:=by
 unfold zrZ at h
 split at h
 ·have q:=xL h; clear h; obtain ⟨p,rfl,h⟩:=q
  exact (zES L p k).trans h
 ·cases h
def zrS:CF:=⟨6,[.tmp 2],(.seq (.reg [Qv 1 (tq 0),Qh 2 (Qg false)]) (.seq (.reg [Qk 3 33 (tq 1),oo 4 (.build (rp 32 (.sc (.int .u8 0)) (rp 1 (.sc (.int .u32 0)) [])) [(32,1,(.const (.sc (.int .u32 4294967295))))]),oo 5 (.eqAgg false 33 (tq 3) (tq 4)),Qh 2 (tq 5)]) .ret))⟩
def zyG:Hint:=⟨[],[],[none],[],[],false,false,[]⟩
def zww:Nat→Sh:=xT []
def zwx(L:Nat):CBC:=noC
def zEe{β:Type}(L:Nat)(z:List V)(p:Bool→Option β):Option β:=chk (0+33≤(XM z)) (eqC 33 (XN 33 z) (We 32 (Qa (0:Int))++[(Qc (4294967295:Int))]) fun A=>p A)
theorem zFx{β:Type}(L:Nat)(p:List V)(k:KK β):xq zww (zwx L) L zrS [(V.agg p)] [] k=zEe L p (fun p=>k (V.sc (.bool p)) []):=by kernel_rfl
abbrev ztU:=∀ (β:Type),Nat→List V→(Bool→Option β)→Option β
def zcI(β:Type)(L:Nat)(z:List V)(p:Bool→Option β):Option β:=zEe L z p
def zuh(zcI:ztU)(L:Nat)(β:Type)(args:List V)(bor:Bor)(k:KK β):Option β:=match args,bor with
 | [a0],[]=>aG a0 fun p=>zcI β L p (fun p=>k (V.sc (.bool p)) [])
 | _,_=>none
theorem zFu(L:Nat)(β:Type)(args:List V)(bor:Bor)(k:KK β)(r:β)(h:zuh zcI L β args bor k=some r):xq zww (zwx L) L zrS args bor k=some r:=by
 unfold zuh at h
 split at h
 ·have q:=zde h; clear h; obtain ⟨p,rfl,h⟩:=q
  exact (zFx L p k).trans h
 ·cases h
def zlq:CF:=⟨15,[.tmp 2],(.seq (.reg [Qv 1 (tq 0),Qh 2 (Qg false)]) (.seq (.reg [Ql 3 1 (tq 1),Qj 4 1 (tq 3),Qr 5 (tq 4),Qp 6 .eql (tq 5) (Qf 1),Qh 7 (tq 6),⟨(some 8),false,(some (7,true)),.fieldAddr 1 (tq 1)⟩,⟨(some 9),false,(some (7,true)),.load false 1 (tq 8) false⟩,⟨(some 10),false,(some (7,true)),.indexAddrS 35 (tq 9) (Qf 0)⟩,⟨(some 11),false,(some (7,true)),.fieldAddr 0 (tq 10)⟩,⟨(some 12),false,(some (7,true)),.load true 33 (tq 11) false⟩,⟨(some 13),false,(some (7,true)),.call 188 [(Qw 12)] []⟩,oo 14 (.pick (tq 7) (tq 13) (Qg false)),Qh 2 (tq 14)]) .ret))⟩
def zs0:Hint:=⟨[(0,0)],[],[none],[],[],false,false,[]⟩
def zpR:Nat→Sh:=xT [(4,(.sl 35)),(9,(.sl 35))]
def zpm(zcI:ztU)(L:Nat):CBC:=(xy 188 (zuh zcI L) noC)
def zxH{β:Type}(zcI:ztU)(L:Nat)(z:List V)(p:Bool→Option β):Option β:=cLd 35 z 1 fun A=>ifb ((((XM A:Nat):Int):Int)==(1:Int)) (cLd 35 z 1 fun C=>idx C (0:Int) fun D=>zcI β L (XN 33 D) (fun E=>p E)) (p false)
theorem zAK{β:Type}(zcI:ztU)(L:Nat)(p:List V)(k:KK β):xq zpR (zpm zcI L) L zlq [(V.agg p)] [] k=zxH zcI L p (fun p=>k (V.sc (.bool p)) []):=by kernel_rfl
abbrev za2:=∀ (β:Type),Nat→List V→(Bool→Option β)→Option β
def xu(β:Type)(L:Nat)(z:List V)(p:Bool→Option β):Option β:=zxH zcI L z p
def zmU(xu:za2)(L:Nat)(β:Type)(args:List V)(bor:Bor)(k:KK β):Option β:=match args,bor with
 | [a0],[]=>aG a0 fun p=>xu β L p (fun p=>k (V.sc (.bool p)) [])
 | _,_=>none
theorem zAB(L:Nat)(β:Type)(args:List V)(bor:Bor)(k:KK β)(r:β)(h:zmU xu L β args bor k=some r):xq zpR (zpm zcI L) L zlq args bor k=some r:=by
 unfold zmU at h
 split at h
 ·have q:=zde h; clear h; obtain ⟨p,rfl,h⟩:=q
  exact (zAK zcI L p k).trans h
 ·cases h
def zef:CC:=(.seq (.reg [Qp 28 .lss (tq 27) (tq 26)]) (.seq (.cond (tq 28) .skip (.seq (.mask (bl 10 47) (bl 140737488355291 47)) (.exit 0))) (.seq (.block 1 (.seq (.reg [Qo 29 35 (tq 25) (tq 27),Qk 30 35 (tq 29),oo 5 (.alloc true (rp 32 (.sc (.int .u8 0)) (rp 2 (.sc (.int .u32 0)) (rp 1 (.gs 1 []) [])))),Qm 35 (tq 5) (tq 30)]) (.seq (.seq (.reg [Qh 31 (tq 3),Ql 32 0 (tq 5),Qk 33 33 (tq 32),oo 34 (.mlook 35 false (.sc (.bool false)) (tq 31) (tq 33))]) (.cond (tq 34) (.seq (.reg [Qh 2 (Qf 91)]) (.seq (.mask (bl 4 47) (bl 140737488355293 47)) .ret)) .skip)) (.reg [Qh 35 (tq 3),Ql 36 0 (tq 5),Qk 37 33 (tq 36),oz (.mput 35 (tq 35) (tq 37) (Qg true))])))) (.reg [Qp 38 .add (tq 27) (Qf 1),Qh 27 (tq 38)]))))
def ziP:CC:=(.seq (.seq (.reg [Qh 39 (tq 3),oo 40 (.build (rp 32 (.sc (.int .u8 0)) (rp 1 (.sc (.int .u32 0)) [])) [(32,1,(.const (.sc (.int .u32 4294967295))))]),oo 41 (.mlook 35 false (.sc (.bool false)) (tq 39) (tq 40)),Qh 42 (tq 41),⟨(some 43),false,(some (42,true)),.load true 4 (tq 1) false⟩,⟨(some 44),false,(some (42,true)),.call 151 [((tq 43),1)] []⟩,⟨(some 45),false,(some (42,true)),.un .not (tq 44)⟩,oo 46 (.pick (tq 42) (tq 45) (Qg false))]) (.cond (tq 46) (.seq (.reg [Qh 2 (Qf 92)]) .ret) .skip)) (.seq (.reg [Qh 2 (Qf 0)]) .ret))
def zfE:CF:=⟨47,[.tmp 2],(.seq (.reg [Qv 1 (tq 0),Qh 2 (Qf 0)]) (.seq (.seq (.reg [Qk 6 4 (tq 1),Qs 7 146 [((tq 6),1)],Qt 8 (tq 7)]) (.cond (tq 8) (.seq (.reg [Qh 2 (Qf 4)]) .ret) .skip)) (.seq (.seq (.reg [Ql 9 1 (tq 1),Qj 10 1 (tq 9),Qr 11 (tq 10),Qp 12 .eql (tq 11) (Qf 0),Qh 13 (tq 12),⟨(some 14),false,(some (13,false)),.fieldAddr 2 (tq 1)⟩,⟨(some 15),false,(some (13,false)),.load false 1 (tq 14) false⟩,⟨(some 16),false,(some (13,false)),.lenS (tq 15)⟩,⟨(some 17),false,(some (13,false)),.bin .eql (tq 16) (Qf 0)⟩,oo 18 (.pick (tq 13) (Qg true) (tq 17))]) (.cond (tq 18) (.seq (.reg [Qh 2 (Qf 93)]) .ret) .skip)) (.seq (.seq (.reg [Ql 19 2 (tq 1),Qj 20 1 (tq 19),Qs 21 150 [(Qw 20)],Qt 22 (tq 21)]) (.cond (tq 22) (.seq (.reg [Qh 2 (Qf 90)]) .ret) .skip)) (.seq (.reg [oo 23 (.makeMap),Qh 3 (tq 23)]) (.seq (.seq (.reg [Ql 24 1 (tq 1),Qj 25 1 (tq 24),Qr 26 (tq 25),Qh 27 (Qf 0)]) (.block 0 (.loop (bl 234881034 47) (bl 140737488355291 47) zef))) ziP))))))⟩
def zxy:Hint:=⟨[(0,0),(10,2)],[],[none,none,none,none,none,none,none,some ((bl 234881034 47),(bl 140737488355291 47)),none,some ((bl 10 47),(bl 140737488355291 47)),none,none,some ((bl 4 47),(bl 140737488355293 47)),none,none,none],[],[],false,false,[]⟩
def zc6:Nat→Sh:=xT [(10,(.sl 35)),(15,(.sl 2)),(20,(.sl 2)),(25,(.sl 35)),(34,.bool),(41,.bool)]
def zda(yu:za7)(xB:zcp)(xu:za2)(L:Nat):CBC:=(xy 151 (zmU xu L) (xy 150 (zrZ xB L) (xy 146 (znk yu L) noC)))
def zhb:St→St:=zab 0 (bl 234881034 47) (bl 140737488355291 47)
def zeV(p:List (List V))(z A:Int)(D:List V)(C:List (V × V)):St:=⟨(jn 1 ((V.ptr 1 0)::(jn 1 ((V.mp 23)::(jn 21 ((V.sl 35 p)::((Qe z)::((Qe A)::(jn 19 []))))))))),(gn 1 ((.live true D)::(gn 21 ((.mp C)::(gn 23 [])))))⟩
def zn8(z:Int)(p:List (V × V)):St:=⟨(jn 2 ((Qe z)::(jn 44 []))),(gn 23 ((.mp p)::(gn 23 [])))⟩
def zpj(z:List V)(p:List (V × V)):St:=⟨(jn 1 ((V.ptr 1 0)::(jn 1 ((V.mp 23)::(jn 43 []))))),(gn 1 ((.live true z)::(gn 21 ((.mp p)::(gn 23 [])))))⟩
def zCy{β:Type}(yu:za7)(xB:zcp)(xu:za2)(L:Nat)(A:List V)(p:Int→Option β)(z:List (List V)→Int→Int→List V→List (V × V)→Option β):Option β:=chk (0+4≤(XM A)) (yu β L (Xu V.dem (XN 4 A)) (fun D=>ifb (!D) (p (4:Int)) (cLd 35 A 1 fun E=>ifb ((((XM E:Nat):Int):Int)==(0:Int)) (p (93:Int)) (cLd 2 A 2 fun F=>ifb ((((XM F:Nat):Int):Int)==(0:Int)) (p (93:Int)) (cLd 2 A 2 fun G=>xB β L G (fun H=>ifb (!H) (p (90:Int)) (cLd 35 A 1 fun C=>z C ((XM C:Nat):Int) (0:Int) A ([]:List (V × V)))))))))
theorem zEu{β:Type}(yu:za7)(xB:zcp)(xu:za2)(L:Nat)(p:List V)(k:KK β):xq zc6 (zda yu xB xu L) L zfE [(V.agg p)] [] k=zCy yu xB xu L p (fun p=>k (Qe p) []) (fun z A C E D=>zw (xj zc6 (zda yu xB xu L) 0 L zef) zhb L (zeV z A C E D) (yo 0 (zE (xj zc6 (zda yu xB xu L) 0 L ziP) (yQ 0 (CF.res zfE) k)))):=by kernel_rfl
def zqG{β:Type}(yu:za7)(xB:zcp)(xu:za2)(L:Nat)(E:List (List V))(F A:Int)(H:List V)(z:List (V × V))(C:Int→List (V × V)→Option β)(p:List (List V)→Int→Int→List V→List (V × V)→Option β)(G:List V→List (V × V)→Option β):Option β:=ifb (decide (A<F)) (idx E A fun I=>chk ((XM (XN 35 I))=35∧0+35≤35) (lt (xm (We 32 (Qa (0:Int))++[(Qc (0:Int)),(Qc (0:Int)),(V.gs 1 ([]:List (List V)))]) 0 (XN 35 I)) fun D=>chk (0+33≤(XM D)) (mAt 35 (V.agg (XN 33 D)) z fun N=>aB (Option.getD N (V.sc (.bool false))) fun O=>ifb O (C (91:Int) z) (chk (0+33≤(XM D)) (zKq 35 (V.agg (XN 33 D)) (V.sc (.bool true)) z fun J=>lt (QF .i64 ((A:Int)+(1:Int))) fun M=>p E F M H J))))) (G H z)
theorem zwm{β:Type}(yu:za7)(xB:zcp)(xu:za2)(L:Nat)(z:List (List V))(A C:Int)(D:List V)(p:List (V × V))(X:St→Option β)(K:KT β):xj zc6 (zda yu xB xu L) 0 L zef (zeV z A C D p) (zU zhb X K)=zqG yu xB xu L z A C D p (fun E p=>K .ret (zn8 E p)) (fun z A C D p=>X (zeV z A C D p)) (fun D p=>K (.exit 0) (zpj D p)):=by kernel_rfl
def znB{β:Type}(yu:za7)(xB:zcp)(xu:za2)(L:Nat)(z:Int)(A:List (V × V))(p:Int→Option β):Option β:=p z
theorem zsW{β:Type}(yu:za7)(xB:zcp)(xu:za2)(L:Nat)(z:Int)(p:List (V × V))(k:KK β):(yo 0 (zE (xj zc6 (zda yu xB xu L) 0 L ziP) (yQ 0 (CF.res zfE) k))) .ret (zn8 z p)=znB yu xB xu L z p (fun A=>k (Qe A) []):=by kernel_rfl
def zoJ{β:Type}(yu:za7)(xB:zcp)(xu:za2)(L:Nat)(z:List V)(A:List (V × V))(p:Int→Option β):Option β:=mAt 35 (V.agg (We 32 (Qa (0:Int))++[(Qc (4294967295:Int))])) A fun C=>aB (Option.getD C (V.sc (.bool false))) fun D=>ifb D (chk (0+4≤(XM z)) (xu β L (Xu V.dem (XN 4 z)) (fun E=>ifb (!E) (p (92:Int)) (p (0:Int))))) (p (0:Int))
theorem ztG{β:Type}(yu:za7)(xB:zcp)(xu:za2)(L:Nat)(z:List V)(p:List (V × V))(k:KK β):(yo 0 (zE (xj zc6 (zda yu xB xu L) 0 L ziP) (yQ 0 (CF.res zfE) k))) (.exit 0) (zpj z p)=zoJ yu xB xu L z p (fun A=>k (Qe A) []):=by kernel_rfl
def zkC{β:Type}(yu:za7)(xB:zcp)(xu:za2)(L:Nat)(p:Int→List (V × V)→Option β)(z:List V→List (V × V)→Option β):Nat→List (List V)→Int→Int→List V→List (V × V)→Option β
 | 0,_,_,_,_,_=>none
 | n+1,A,C,D,F,E=>zqG yu xB xu L A C D F E p (fun A C D F E=>zkC yu xB xu L p z n A C D F E) z
theorem znE{β:Type}(yu:za7)(xB:zcp)(xu:za2)(L:Nat)(K:KT β):∀ (n:Nat) (z:List (List V)) (A C:Int) (D:List V) (p:List (V × V)),zw (xj zc6 (zda yu xB xu L) 0 L zef) zhb n (zeV z A C D p) K=zkC yu xB xu L (fun E p=>K .ret (zn8 E p)) (fun D p=>K (.exit 0) (zpj D p)) n z A C D p:=by
 intro n
 induction n with
 | zero=>intros; rfl
 | succ n ih=>
  intro z A C D p
  refine (zwm yu xB xu L z A C D p (fun σ=>zw (xj zc6 (zda yu xB xu L) 0 L zef) zhb n σ K) K).trans ?_
  simp only [ih]
  rfl
def zw5{β:Type}(yu:za7)(xB:zcp)(xu:za2)(L:Nat)(F:List V)(p:Int→Option β):Option β:=zCy yu xB xu L F p (fun C D E A z=>zkC yu xB xu L (fun G z=>znB yu xB xu L G z p) (fun A z=>zoJ yu xB xu L A z p) L C D E A z)
theorem zE1{β:Type}(yu:za7)(xB:zcp)(xu:za2)(L:Nat)(p:List V)(k:KK β):xq zc6 (zda yu xB xu L) L zfE [(V.agg p)] [] k=zw5 yu xB xu L p (fun p=>k (Qe p) []):=by
 refine (zEu yu xB xu L p k).trans ?_
 unfold zw5
 first
  | (simp only [znE,zsW,ztG]; done)
  | (simp only [znE]; rfl)
abbrev zr5:=∀ (β:Type),Nat→List V→(Int→Option β)→Option β
def zbZ(β:Type)(L:Nat)(z:List V)(p:Int→Option β):Option β:=zw5 yu xB xu L z p
def zrY(zbZ:zr5)(L:Nat)(β:Type)(args:List V)(bor:Bor)(k:KK β):Option β:=match args,bor with
 | [a0],[]=>aG a0 fun p=>zbZ β L p (fun p=>k (Qe p) [])
 | _,_=>none
theorem zEU(L:Nat)(β:Type)(args:List V)(bor:Bor)(k:KK β)(r:β)(h:zrY zbZ L β args bor k=some r):xq zc6 (zda yu xB xu L) L zfE args bor k=some r:=by
 unfold zrY at h
 split at h
 ·have q:=zde h; clear h; obtain ⟨p,rfl,h⟩:=q
  exact (zE1 yu xB xu L p k).trans h
 ·cases h
def zmE:CF:=⟨36,[.tmp 0],(.seq (.reg [Qh 0 (Qg false)]) (.seq (.reg [oo 6 (.build [(.sc (.int .u32 0)),(.sl 35 []),(.sl 2 []),(.sc (.int .u32 0))] []),Qs 7 128 [((tq 6),1),((Qg false),0)],Qi 5 (tq 7),oo 8 (.extract (tq 5) 0),Qq 9 (tq 5) 1,Qh 1 (tq 8),Qh 2 (tq 9)]) (.seq (.reg [oo 10 (.build (rp 32 (.sc (.int .u8 0)) (rp 1 (.sc (.int .u32 0)) [])) [(32,1,(.const (.sc (.int .u32 3))))]),oo 3 (.alloc true (rp 32 (.sc (.int .u8 0)) (rp 1 (.sc (.int .u32 0)) []))),Qm 33 (tq 3) (tq 10)]) (.seq (.reg [Qk 11 33 (tq 3),oo 12 (.build (rp 32 (.sc (.int .u8 0)) (rp 2 (.sc (.int .u32 0)) (rp 1 (.sl 1 []) []))) [(0,33,(tq 11))]),Qk 13 33 (tq 3),oo 14 (.build (rp 32 (.sc (.int .u8 0)) (rp 2 (.sc (.int .u32 0)) (rp 1 (.sl 1 []) []))) [(0,33,(tq 13))]),oo 15 (.buildSlice 35 2 (rp 32 (.sc (.int .u8 0)) (rp 2 (.sc (.int .u32 0)) (rp 1 (.sl 1 []) []))) [(0,35,(tq 12)),(35,35,(tq 14))]),oo 16 (.build [(.sc (.int .i64 0)),(.sl 1 [])] []),oo 17 (.buildSlice 2 1 [(.sc (.int .i64 0)),(.sl 1 [])] [(0,2,(tq 16))]),oo 18 (.build [(.sc (.int .u32 0)),(.sl 35 []),(.sl 2 []),(.sc (.int .u32 0))] [(1,1,(tq 15)),(2,1,(tq 17))]),oo 4 (.alloc true [(.sc (.int .u32 0)),(.gs 35 []),(.gs 2 []),(.sc (.int .u32 0))]),Qm 4 (tq 4) (tq 18)]) (.seq (.reg [Qh 19 (tq 2),Qp 20 .eql (tq 19) (Qf 0),Qh 21 (tq 20),⟨(some 22),false,(some (21,true)),.move (tq 1) false⟩,⟨(some 23),false,(some (21,true)),.lenS (tq 22)⟩,⟨(some 24),false,(some (21,true)),.bin .eql (tq 23) (Qf 10)⟩,oo 25 (.pick (tq 21) (tq 24) (Qg false)),Qh 26 (tq 25),⟨(some 27),false,(some (26,true)),.build [(.sc (.int .u32 0)),(.sl 35 []),(.sl 2 []),(.sc (.int .u32 0))] []⟩,⟨(some 28),false,(some (26,true)),.call 144 [((tq 27),1)] []⟩,⟨(some 29),false,(some (26,true)),.bin .eql (tq 28) (Qf 40)⟩,oo 30 (.pick (tq 26) (tq 29) (Qg false)),Qh 31 (tq 30),⟨(some 32),false,(some (31,true)),.load true 4 (tq 4) false⟩,⟨(some 33),false,(some (31,true)),.call 131 [((tq 32),1)] []⟩,⟨(some 34),false,(some (31,true)),.bin .eql (tq 33) (Qf 91)⟩,oo 35 (.pick (tq 31) (tq 34) (Qg false)),Qh 0 (tq 35)]) .ret)))))⟩
def zt1:Hint:=⟨[(1,2),(1,3),(3,8)],[],[none],[],[],false,false,[]⟩
def zro:Nat→Sh:=xT []
def zrh(y5:zjm)(zbi:zpV)(zbZ:zr5)(L:Nat):CBC:=(xy 131 (zrY zbZ L) (xy 144 (zqb zbi L) (xy 128 (zl8 y5 L) noC)))
def zyf{β:Type}(y5:zjm)(zbi:zpV)(zbZ:zr5)(L:Nat)(p:Bool→Option β):Option β:=y5 β L [(Qc (0:Int)),(V.sl 35 ([]:List (List V))),(V.sl 2 ([]:List (List V))),(Qc (0:Int))] false (fun C D=>lt (We 32 (Qa (0:Int))++[(Qc (3:Int))]) fun z=>chk (0+33≤(XM z)) (chk ((XM (XN 33 z))=33∧0+33≤35) (chk (0+33≤(XM z)) (chk ((XM (XN 33 z))=33∧0+33≤35) (chk ((XM (xm (We 32 (Qa (0:Int))++[(Qc (0:Int)),(Qc (0:Int)),(V.sl 1 ([]:List (List V)))]) 0 (XN 33 z)))=35∧0+35≤70) (chk ((XM (xm (We 32 (Qa (0:Int))++[(Qc (0:Int)),(Qc (0:Int)),(V.sl 1 ([]:List (List V)))]) 0 (XN 33 z)))=35∧35+35≤(XM (xm (We 32 (Qa (0:Int))++[(Qc (0:Int)),(Qc (0:Int)),(V.sl 1 ([]:List (List V)))]++We 32 (Qa (0:Int))++[(Qc (0:Int)),(Qc (0:Int)),(V.sl 1 ([]:List (List V)))]) 0 (xm (We 32 (Qa (0:Int))++[(Qc (0:Int)),(Qc (0:Int)),(V.sl 1 ([]:List (List V)))]) 0 (XN 33 z))))) (lt [(Qc (0:Int)),(V.sl 35 (zl 35 2 (xm (xm (We 32 (Qa (0:Int))++[(Qc (0:Int)),(Qc (0:Int)),(V.sl 1 ([]:List (List V)))]++We 32 (Qa (0:Int))++[(Qc (0:Int)),(Qc (0:Int)),(V.sl 1 ([]:List (List V)))]) 0 (xm (We 32 (Qa (0:Int))++[(Qc (0:Int)),(Qc (0:Int)),(V.sl 1 ([]:List (List V)))]) 0 (XN 33 z))) 35 (xm (We 32 (Qa (0:Int))++[(Qc (0:Int)),(Qc (0:Int)),(V.sl 1 ([]:List (List V)))]) 0 (XN 33 z))))),(V.sl 2 (zl 2 1 [(Qe (0:Int)),(V.sl 1 ([]:List (List V)))])),(Qc (0:Int))] fun A=>ifb ((D:Int)==(0:Int)) (ifb ((((XM C:Nat):Int):Int)==(10:Int)) (zbi β L [(Qc (0:Int)),(V.sl 35 ([]:List (List V))),(V.sl 2 ([]:List (List V))),(Qc (0:Int))] (fun E=>ifb ((E:Int)==(40:Int)) (chk (0+4≤(XM A)) (zbZ β L (Xu V.dem (XN 4 A)) (fun F=>p ((F:Int)==(91:Int))))) (p false))) (p false)) (p false))))))))
theorem zCh{β:Type}(y5:zjm)(zbi:zpV)(zbZ:zr5)(L:Nat)(k:KK β):xq zro (zrh y5 zbi zbZ L) L zmE [] [] k=zyf y5 zbi zbZ L (fun p=>k (V.sc (.bool p)) []):=by kernel_rfl
abbrev zeB:=∀ (β:Type),Nat→(Bool→Option β)→Option β
def xQ(β:Type)(L:Nat)(p:Bool→Option β):Option β:=zyf y5 zbi zbZ L p
def ziq(xQ:zeB)(L:Nat)(β:Type)(args:List V)(bor:Bor)(k:KK β):Option β:=match args,bor with
 | [],[]=>xQ β L (fun p=>k (V.sc (.bool p)) [])
 | _,_=>none
theorem zBy(L:Nat)(β:Type)(args:List V)(bor:Bor)(k:KK β)(r:β)(h:ziq xQ L β args bor k=some r):xq zro (zrh y5 zbi zbZ L) L zmE args bor k=some r:=by
 unfold ziq at h
 split at h
 ·exact (zCh y5 zbi zbZ L k).trans h
 ·cases h
def zmS:CF:=⟨21,[.tmp 6],(.seq (.reg [Qh 6 (Qf 0)]) (.seq (.seq (.reg [Qh 7 (tq 1),Qp 8 .lss (tq 7) (Qf 0),Qh 9 (tq 8),⟨(some 10),false,(some (9,false)),.move (tq 1) false⟩,⟨(some 11),false,(some (9,false)),.move (tq 0) false⟩,⟨(some 12),false,(some (9,false)),.lenS (tq 11)⟩,⟨(some 13),false,(some (9,false)),.bin .gtr (tq 10) (tq 12)⟩,oo 14 (.pick (tq 9) (Qg true) (tq 13))]) (.cond (tq 14) (.seq (.reg [Qh 6 (Qf 5)]) .ret) .skip)) (.seq (.seq (.reg [Qh 15 (tq 0),Qr 16 (tq 15),Qh 17 (tq 1),Qp 18 .sub (tq 16) (tq 17),Qh 19 (tq 2),Qp 20 .lss (tq 18) (tq 19)]) (.cond (tq 20) (.seq (.reg [Qh 6 (Qf 1)]) .ret) .skip)) (.seq (.reg [Qh 6 (Qf 0)]) .ret))))⟩
def ztY:Hint:=⟨[],[],[none,none,none,none,none],[],[],false,false,[]⟩
def zq2:Nat→Sh:=xT []
def zrm(L:Nat):CBC:=noC
def zol{β:Type}(L:Nat)(A:List (List V))(z C:Int)(p:Int→Option β):Option β:=ifb (decide (z<(0:Int))) (p (5:Int)) (ifb (decide (z>((XM A:Nat):Int))) (p (5:Int)) (lt (QF .i64 ((((XM A:Nat):Int):Int)-z)) fun D=>ifb (decide (D<C)) (p (1:Int)) (p (0:Int))))
theorem zBe{β:Type}(L:Nat)(p:List (List V))(z A:Int)(k:KK β):xq zq2 (zrm L) L zmS [(V.sl 1 p),(Qe z),(Qe A)] [] k=zol L p z A (fun p=>k (Qe p) []):=by kernel_rfl
abbrev xv:=∀ (β:Type),Nat→List (List V)→Int→Int→(Int→Option β)→Option β
def zf(β:Type)(L:Nat)(z:List (List V))(A C:Int)(p:Int→Option β):Option β:=zol L z A C p
def zeG(zf:xv)(L:Nat)(β:Type)(args:List V)(bor:Bor)(k:KK β):Option β:=match args,bor with
 | [a0,a1,a2],[]=>aL 1 a0 fun p=>aI .i64 a1 fun z=>aI .i64 a2 fun A=>zf β L p z A (fun p=>k (Qe p) [])
 | _,_=>none
theorem zB7(L:Nat)(β:Type)(args:List V)(bor:Bor)(k:KK β)(r:β)(h:zeG zf L β args bor k=some r):xq zq2 (zrm L) L zmS args bor k=some r:=by
 unfold zeG at h
 split at h
 ·have q:=xL h; clear h; obtain ⟨p,rfl,h⟩:=q
  have q:=yy h; clear h; obtain ⟨z,rfl,h⟩:=q
  have q:=yy h; clear h; obtain ⟨A,rfl,h⟩:=q
  exact (zBe L p z A k).trans h
 ·cases h
def zca:CC:=(.seq (.reg [Qp 21 .lss (tq 20) (tq 19)]) (.seq (.cond (tq 21) .skip (.seq (.mask (bl 1030 40) (bl 1099511625727 40)) (.exit 0))) (.seq (.block 1 (.seq (.reg [Qh 22 (tq 20),Qh 11 (tq 22)]) (.reg [Qh 23 (tq 10),Qh 24 (tq 0),Qh 25 (tq 1),Qh 26 (tq 11),Qp 27 .add (tq 25) (tq 26),Qo 28 1 (tq 24) (tq 27),Qj 29 1 (tq 28),Qu 30 .u32 (tq 29),Qh 31 (tq 11),Qp 32 .mul (Qf 8) (tq 31),Qp 33 .shl (tq 30) (tq 32),Qp 34 .or (tq 23) (tq 33),Qh 10 (tq 34)]))) (.reg [Qp 35 .add (tq 20) (Qf 1),Qh 20 (tq 35)]))))
def zgL:CC:=(.seq (.reg [Qh 36 (tq 10),Qh 37 (tq 1),Qh 38 (tq 2),Qp 39 .add (tq 37) (tq 38),Qh 6 (tq 36),Qh 7 (tq 39),Qh 8 (Qf 0)]) .ret)
def zb5:CF:=⟨40,[.tmp 6,.tmp 7,.tmp 8],(.seq (.reg [oo 6 (.move (.const (.sc (.int .u32 0))) false),Qh 7 (Qf 0),Qh 8 (Qf 0)]) (.seq (.seq (.reg [Qh 12 (tq 0),Qh 13 (tq 1),Qh 14 (tq 2),Qs 15 198 [(Qw 12),(Qw 13),(Qw 14)],Qh 9 (tq 15)]) (.seq (.reg [Qh 16 (tq 9),Qp 17 .neq (tq 16) (Qf 0)]) (.cond (tq 17) (.seq (.reg [Qh 18 (tq 9),oo 6 (.move (.const (.sc (.int .u32 0))) false),Qh 7 (Qf 0),Qh 8 (tq 18)]) .ret) .skip))) (.seq (.reg [oo 10 (.move (.const (.sc (.int .u32 0))) false)]) (.seq (.seq (.reg [Qh 19 (tq 2),Qh 20 (Qf 0)]) (.block 0 (.loop (bl 1573895 40) (bl 1099511625727 40) zca))) zgL))))⟩
def zmg:Hint:=⟨[],[],[none,none,none,some ((bl 1573895 40),(bl 1099511625727 40)),none,some ((bl 1030 40),(bl 1099511625727 40)),none,none],[],[],false,false,[]⟩
def zaq:Nat→Sh:=xT [(29,(.int .u8))]
def zap(zf:xv)(L:Nat):CBC:=(xy 198 (zeG zf L) noC)
def zds:St→St:=zab 0 (bl 1573895 40) (bl 1099511625727 40)
def zcO(C:List (List V))(D E p z A:Int):St:=⟨((V.sl 1 C)::((Qe D)::((Qe E)::(jn 7 ((Qc p)::(jn 8 ((Qe z)::((Qe A)::(jn 19 []))))))))),(gn 40 [])⟩
def zgK(z A p:Int):St:=⟨(jn 1 ((Qe z)::((Qe A)::(jn 7 ((Qc p)::(jn 29 [])))))),(gn 40 [])⟩
def zgq{β:Type}(zf:xv)(L:Nat)(C:List (List V))(D A:Int)(z:Int→Int→Int→Option β)(p:List (List V)→Int→Int→Int→Int→Int→Option β):Option β:=zf β L C D A (fun E=>ifb ((E:Int) != (0:Int)) (z (0:Int) (0:Int) E) (p C D A (0:Int) A (0:Int)))
theorem zut{β:Type}(zf:xv)(L:Nat)(p:List (List V))(z A:Int)(k:KK β):xq zaq (zap zf L) L zb5 [(V.sl 1 p),(Qe z),(Qe A)] [] k=zgq zf L p z A (fun C D E=>k (V.tup [(Qc C),(Qe D),(Qe E)]) []) (fun p z A F G H=>zw (xj zaq (zap zf L) 0 L zca) zds L (zcO p z A F G H) (yo 0 (zE (xj zaq (zap zf L) 0 L zgL) (yQ 0 (CF.res zb5) k)))):=by kernel_rfl
def zfy{β:Type}(zf:xv)(L:Nat)(F:List (List V))(D G A C z:Int)(p:List (List V)→Int→Int→Int→Int→Int→Option β)(E:Int→Int→Int→Option β):Option β:=ifb (decide (z<C)) (lt (QF .i64 ((D:Int)+z)) fun I=>idx F I fun J=>cI .u8 J 0 fun M=>lt (QF .u32 M) fun N=>lt (QF .i64 (((8:Int):Int)*z)) fun H=>chk (0≤H) (lt (zq5 .u32 N H) fun O=>lt (ior .u32 A O) fun P=>lt (QF .i64 ((z:Int)+(1:Int))) fun Q=>p F D G P C Q)) (E D G A)
theorem zpo{β:Type}(zf:xv)(L:Nat)(E:List (List V))(C D p z A:Int)(X:St→Option β)(K:KT β):xj zaq (zap zf L) 0 L zca (zcO E C D p z A) (zU zds X K)=zfy zf L E C D p z A (fun E C D p z A=>X (zcO E C D p z A)) (fun C D p=>K (.exit 0) (zgK C D p)):=by kernel_rfl
def zeH{β:Type}(zf:xv)(L:Nat)(A C z:Int)(p:Int→Int→Int→Option β):Option β:=lt (QF .i64 ((A:Int)+C)) fun D=>p z D (0:Int)
theorem zos{β:Type}(zf:xv)(L:Nat)(D E p:Int)(k:KK β):(yo 0 (zE (xj zaq (zap zf L) 0 L zgL) (yQ 0 (CF.res zb5) k))) (.exit 0) (zgK D E p)=zeH zf L D E p (fun z A C=>k (V.tup [(Qc z),(Qe A),(Qe C)]) []):=by kernel_rfl
def zcr{β:Type}(zf:xv)(L:Nat)(p:Int→Int→Int→Option β):Nat→List (List V)→Int→Int→Int→Int→Int→Option β
 | 0,_,_,_,_,_,_=>none
 | n+1,D,E,F,z,A,C=>zfy zf L D E F z A C (fun D E F z A C=>zcr zf L p n D E F z A C) p
theorem zig{β:Type}(zf:xv)(L:Nat)(K:KT β):∀ (n:Nat) (E:List (List V)) (C D p z A:Int),zw (xj zaq (zap zf L) 0 L zca) zds n (zcO E C D p z A) K=zcr zf L (fun C D p=>K (.exit 0) (zgK C D p)) n E C D p z A:=by
 intro n
 induction n with
 | zero=>intros; rfl
 | succ n ih=>
  intro E C D p z A
  refine (zpo zf L E C D p z A (fun σ=>zw (xj zaq (zap zf L) 0 L zca) zds n σ K) K).trans ?_
  simp only [ih]
  rfl
def zeh{β:Type}(zf:xv)(L:Nat)(D:List (List V))(z A:Int)(p:Int→Int→Int→Option β):Option β:=zgq zf L D z A p (fun D z A C E F=>zcr zf L (fun z A C=>zeH zf L z A C p) L D z A C E F)
theorem zuG{β:Type}(zf:xv)(L:Nat)(p:List (List V))(z A:Int)(k:KK β):xq zaq (zap zf L) L zb5 [(V.sl 1 p),(Qe z),(Qe A)] [] k=zeh zf L p z A (fun C D E=>k (V.tup [(Qc C),(Qe D),(Qe E)]) []):=by
 refine (zut zf L p z A k).trans ?_
 unfold zeh
 first
  | (simp only [zig,zos]; done)
  | (simp only [zig]; rfl)
abbrev zgy:=∀ (β:Type),Nat→List (List V)→Int→Int→(Int→Int→Int→Option β)→Option β
def zP(β:Type)(L:Nat)(z:List (List V))(A C:Int)(p:Int→Int→Int→Option β):Option β:=zeh zf L z A C p
def zgv(zP:zgy)(L:Nat)(β:Type)(args:List V)(bor:Bor)(k:KK β):Option β:=match args,bor with
 | [a0,a1,a2],[]=>aL 1 a0 fun C=>aI .i64 a1 fun D=>aI .i64 a2 fun E=>zP β L C D E (fun p z A=>k (V.tup [(Qc p),(Qe z),(Qe A)]) [])
 | _,_=>none
theorem zus(L:Nat)(β:Type)(args:List V)(bor:Bor)(k:KK β)(r:β)(h:zgv zP L β args bor k=some r):xq zaq (zap zf L) L zb5 args bor k=some r:=by
 unfold zgv at h
 split at h
 ·have q:=xL h; clear h; obtain ⟨p,rfl,h⟩:=q
  have q:=yy h; clear h; obtain ⟨z,rfl,h⟩:=q
  have q:=yy h; clear h; obtain ⟨A,rfl,h⟩:=q
  exact (zuG zf L p z A k).trans h
 ·cases h
def zoO:CF:=⟨13,[.tmp 4,.tmp 5,.tmp 6],(.seq (.reg [oo 4 (.move (.const (.sc (.int .u32 0))) false),Qh 5 (Qf 0),Qh 6 (Qf 0)]) (.seq (.reg [Qh 7 (tq 0),Qh 8 (tq 1),Qs 9 197 [(Qw 7),(Qw 8),((Qf 4),0)],Qq 10 (tq 9) 0,Qq 11 (tq 9) 1,Qq 12 (tq 9) 2,Qh 4 (tq 10),Qh 5 (tq 11),Qh 6 (tq 12)]) .ret))⟩
def zwi:Hint:=⟨[],[],[none],[],[],false,false,[]⟩
def zsP:Nat→Sh:=xT []
def zsn(zP:zgy)(L:Nat):CBC:=(xy 197 (zgv zP L) noC)
def zpT{β:Type}(zP:zgy)(L:Nat)(z:List (List V))(A:Int)(p:Int→Int→Int→Option β):Option β:=zP β L z A (4:Int) (fun C D E=>p C D E)
theorem zDJ{β:Type}(zP:zgy)(L:Nat)(C:List (List V))(D:Int)(k:KK β):xq zsP (zsn zP L) L zoO [(V.sl 1 C),(Qe D)] [] k=zpT zP L C D (fun p z A=>k (V.tup [(Qc p),(Qe z),(Qe A)]) []):=by kernel_rfl
abbrev zhu:=∀ (β:Type),Nat→List (List V)→Int→(Int→Int→Int→Option β)→Option β
def xP(β:Type)(L:Nat)(z:List (List V))(A:Int)(p:Int→Int→Int→Option β):Option β:=zpT zP L z A p
def zmr(xP:zhu)(L:Nat)(β:Type)(args:List V)(bor:Bor)(k:KK β):Option β:=match args,bor with
 | [a0,a1],[]=>aL 1 a0 fun C=>aI .i64 a1 fun D=>xP β L C D (fun p z A=>k (V.tup [(Qc p),(Qe z),(Qe A)]) [])
 | _,_=>none
theorem zDo(L:Nat)(β:Type)(args:List V)(bor:Bor)(k:KK β)(r:β)(h:zmr xP L β args bor k=some r):xq zsP (zsn zP L) L zoO args bor k=some r:=by
 unfold zmr at h
 split at h
 ·have q:=xL h; clear h; obtain ⟨p,rfl,h⟩:=q
  have q:=yy h; clear h; obtain ⟨z,rfl,h⟩:=q
  exact (zDJ zP L p z k).trans h
 ·cases h
def zhY:CF:=⟨41,[.tmp 4],(.seq (.reg [oo 4 (.move (.const (.sc (.int .u32 0))) false)]) (.seq (.reg [oo 5 (.move (.const (.sc (.int .u32 0))) false)]) (.seq (.seq (.reg [Qh 9 (tq 0),oo 10 (.nilCheck (tq 9)),Ql 11 2 (tq 10),Qj 12 1 (tq 11),Qp 13 .neq (tq 12) (Qf 0)]) (.cond (tq 13) (.seq (.reg [Qh 14 (tq 5),Qh 4 (tq 14)]) .ret) .skip)) (.seq (.dreg [] [(Qh 16 (tq 1),q0),(Qh 17 (tq 0),q0),(oo 18 (.nilCheck (tq 17)),q0),(Ql 19 0 (tq 18),q0),(Qj 20 1 (tq 19),ql 0 [] []),(Qh 21 (tq 0),q0),(oo 22 (.nilCheck (tq 21)),q0),(Ql 23 1 (tq 22),q0),(Qj 24 1 (tq 23),ql 0 [] []),(oo 25 (.callv (tq 16) [(Qw 20),(Qw 24)] []),q0),(Qi 15 (tq 25),q0),(Qq 26 (tq 15) 0,q0),(Qq 27 (tq 15) 1,q0),(Qq 28 (tq 15) 2,q0),(Qh 6 (tq 26),q0),(Qh 7 (tq 27),q0),(Qh 8 (tq 28),q0)]) (.seq (.seq (.reg [Qh 29 (tq 8),Qp 30 .neq (tq 29) (Qf 0)]) (.cond (tq 30) (.seq (.reg [Qh 31 (tq 0),Qh 32 (tq 8),oo 33 (.nilCheck (tq 31)),Ql 34 2 (tq 33),Qm 1 (tq 34) (tq 32)]) (.seq (.reg [Qh 35 (tq 5),Qh 4 (tq 35)]) .ret)) .skip)) (.seq (.reg [Qh 36 (tq 0),Qh 37 (tq 7),oo 38 (.nilCheck (tq 36)),Ql 39 1 (tq 38),Qm 1 (tq 39) (tq 37)]) (.seq (.reg [Qh 40 (tq 6),Qh 4 (tq 40)]) .ret)))))))⟩
def zo6:Hint:=⟨[(4,10)],[],[none,none,none,none,none],[],[],false,false,[]⟩
def zlJ:Nat→Sh:=xT []
def zlD(xP:zhu)(L:Nat):CBC:=(xy 170 (zmr xP L) noC)
def zfZ{β:Type}(xP:zhu)(L:Nat)(p:List (List V))(A C:Int)(z:Int→List (List V)→Int→Int→Option β):Option β:=ifb ((C:Int) != (0:Int)) (z (0:Int) p A C) (xP β L p A (fun E F D=>ifb ((D:Int) != (0:Int)) (z (0:Int) p A D) (z E p F C)))
theorem zxZ{β:Type}(xP:zhu)(L:Nat)(p:List (List V))(z A:Int)(k:KK β):xq zlJ (zlD xP L) L zhY [(V.ptr 0 0),(V.fn 170 [])] [(.live false [(V.sl 1 p),(Qe z),(Qe A)])] k=zfZ xP L p z A (fun C p z A=>k (Qc C) [(.live false [(V.sl 1 p),(Qe z),(Qe A)])]):=by kernel_rfl
abbrev yv:=∀ (β:Type),Nat→List (List V)→Int→Int→(Int→List (List V)→Int→Int→Option β)→Option β
def yc(β:Type)(L:Nat)(z:List (List V))(A C:Int)(p:Int→List (List V)→Int→Int→Option β):Option β:=zfZ xP L z A C p
def zjc(yc:yv)(L:Nat)(β:Type)(args:List V)(bor:Bor)(k:KK β):Option β:=match args,bor with
 | [a0,a1],[(.live false [w0_0,w0_1,w0_2])]=>aP 0 0 a0 (aF 170 [] a1 (aL 1 w0_0 fun p=>aI .i64 w0_1 fun z=>aI .i64 w0_2 fun A=>yc β L p z A (fun C p z A=>k (Qc C) [(.live false [(V.sl 1 p),(Qe z),(Qe A)])])))
 | _,_=>none
theorem zxX(L:Nat)(β:Type)(args:List V)(bor:Bor)(k:KK β)(r:β)(h:zjc yc L β args bor k=some r):xq zlJ (zlD xP L) L zhY args bor k=some r:=by
 unfold zjc at h
 split at h
 ·have q:=zeD h; clear h; obtain ⟨rfl,h⟩:=q
  have q:=zya h; clear h; obtain ⟨rfl,h⟩:=q
  have q:=xL h; clear h; obtain ⟨p,rfl,h⟩:=q
  have q:=yy h; clear h; obtain ⟨z,rfl,h⟩:=q
  have q:=yy h; clear h; obtain ⟨A,rfl,h⟩:=q
  exact (zxZ xP L p z A k).trans h
 ·cases h
def zcq:CC:=(.seq (.reg [Qp 21 .lss (tq 20) (tq 19)]) (.seq (.cond (tq 21) .skip (.seq (.mask (bl 1030 39) (bl 549755811839 39)) (.exit 0))) (.seq (.block 1 (.seq (.reg [Qh 22 (tq 20),Qh 11 (tq 22)]) (.reg [Qh 23 (tq 10),Qh 24 (tq 0),Qh 25 (tq 1),Qh 26 (tq 11),Qp 27 .add (tq 25) (tq 26),Qo 28 1 (tq 24) (tq 27),Qj 29 1 (tq 28),Qh 30 (tq 11),Qp 31 .mul (Qf 8) (tq 30),Qp 32 .shl (tq 29) (tq 31),Qp 33 .or (tq 23) (tq 32),Qh 10 (tq 33)]))) (.reg [Qp 34 .add (tq 20) (Qf 1),Qh 20 (tq 34)]))))
def zhw:CC:=(.seq (.reg [Qh 35 (tq 10),Qh 36 (tq 1),Qh 37 (tq 2),Qp 38 .add (tq 36) (tq 37),Qh 6 (tq 35),Qh 7 (tq 38),Qh 8 (Qf 0)]) .ret)
def zcm:CF:=⟨39,[.tmp 6,.tmp 7,.tmp 8],(.seq (.reg [oo 6 (.move (.const (.sc (.int .u8 0))) false),Qh 7 (Qf 0),Qh 8 (Qf 0)]) (.seq (.seq (.reg [Qh 12 (tq 0),Qh 13 (tq 1),Qh 14 (tq 2),Qs 15 198 [(Qw 12),(Qw 13),(Qw 14)],Qh 9 (tq 15)]) (.seq (.reg [Qh 16 (tq 9),Qp 17 .neq (tq 16) (Qf 0)]) (.cond (tq 17) (.seq (.reg [Qh 18 (tq 9),oo 6 (.move (.const (.sc (.int .u8 0))) false),Qh 7 (Qf 0),Qh 8 (tq 18)]) .ret) .skip))) (.seq (.reg [oo 10 (.move (.const (.sc (.int .u8 0))) false)]) (.seq (.seq (.reg [Qh 19 (tq 2),Qh 20 (Qf 0)]) (.block 0 (.loop (bl 1573895 39) (bl 549755811839 39) zcq))) zhw))))⟩
def znA:Hint:=⟨[],[],[none,none,none,some ((bl 1573895 39),(bl 549755811839 39)),none,some ((bl 1030 39),(bl 549755811839 39)),none,none],[],[],false,false,[]⟩
def zaI:Nat→Sh:=xT [(29,(.int .u8))]
def zaK(zf:xv)(L:Nat):CBC:=(xy 198 (zeG zf L) noC)
def zdP:St→St:=zab 0 (bl 1573895 39) (bl 549755811839 39)
def zc1(C:List (List V))(D E p z A:Int):St:=⟨((V.sl 1 C)::((Qe D)::((Qe E)::(jn 7 ((Qa p)::(jn 8 ((Qe z)::((Qe A)::(jn 18 []))))))))),(gn 39 [])⟩
def zhE(z A p:Int):St:=⟨(jn 1 ((Qe z)::((Qe A)::(jn 7 ((Qa p)::(jn 28 [])))))),(gn 39 [])⟩
def zkD{β:Type}(zf:xv)(L:Nat)(C:List (List V))(D A:Int)(z:Int→Int→Int→Option β)(p:List (List V)→Int→Int→Int→Int→Int→Option β):Option β:=zf β L C D A (fun E=>ifb ((E:Int) != (0:Int)) (z (0:Int) (0:Int) E) (p C D A (0:Int) A (0:Int)))
theorem zwo{β:Type}(zf:xv)(L:Nat)(p:List (List V))(z A:Int)(k:KK β):xq zaI (zaK zf L) L zcm [(V.sl 1 p),(Qe z),(Qe A)] [] k=zkD zf L p z A (fun C D E=>k (V.tup [(Qa C),(Qe D),(Qe E)]) []) (fun p z A F G H=>zw (xj zaI (zaK zf L) 0 L zcq) zdP L (zc1 p z A F G H) (yo 0 (zE (xj zaI (zaK zf L) 0 L zhw) (yQ 0 (CF.res zcm) k)))):=by kernel_rfl
def zf1{β:Type}(zf:xv)(L:Nat)(F:List (List V))(D G A C z:Int)(p:List (List V)→Int→Int→Int→Int→Int→Option β)(E:Int→Int→Int→Option β):Option β:=ifb (decide (z<C)) (lt (QF .i64 ((D:Int)+z)) fun I=>idx F I fun J=>cI .u8 J 0 fun M=>lt (QF .i64 (((8:Int):Int)*z)) fun H=>chk (0≤H) (lt (zq5 .u8 M H) fun N=>lt (ior .u8 A N) fun O=>lt (QF .i64 ((z:Int)+(1:Int))) fun P=>p F D G O C P)) (E D G A)
theorem zqH{β:Type}(zf:xv)(L:Nat)(E:List (List V))(C D p z A:Int)(X:St→Option β)(K:KT β):xj zaI (zaK zf L) 0 L zcq (zc1 E C D p z A) (zU zdP X K)=zf1 zf L E C D p z A (fun E C D p z A=>X (zc1 E C D p z A)) (fun C D p=>K (.exit 0) (zhE C D p)):=by kernel_rfl
def ze2{β:Type}(zf:xv)(L:Nat)(A C z:Int)(p:Int→Int→Int→Option β):Option β:=lt (QF .i64 ((A:Int)+C)) fun D=>p z D (0:Int)
theorem zo2{β:Type}(zf:xv)(L:Nat)(D E p:Int)(k:KK β):(yo 0 (zE (xj zaI (zaK zf L) 0 L zhw) (yQ 0 (CF.res zcm) k))) (.exit 0) (zhE D E p)=ze2 zf L D E p (fun z A C=>k (V.tup [(Qa z),(Qe A),(Qe C)]) []):=by kernel_rfl
def zcG{β:Type}(zf:xv)(L:Nat)(p:Int→Int→Int→Option β):Nat→List (List V)→Int→Int→Int→Int→Int→Option β
 | 0,_,_,_,_,_,_=>none
 | n+1,D,E,F,z,A,C=>zf1 zf L D E F z A C (fun D E F z A C=>zcG zf L p n D E F z A C) p
theorem ziy{β:Type}(zf:xv)(L:Nat)(K:KT β):∀ (n:Nat) (E:List (List V)) (C D p z A:Int),zw (xj zaI (zaK zf L) 0 L zcq) zdP n (zc1 E C D p z A) K=zcG zf L (fun C D p=>K (.exit 0) (zhE C D p)) n E C D p z A:=by
 intro n
 induction n with
 | zero=>intros; rfl
 | succ n ih=>
  intro E C D p z A
  refine (zqH zf L E C D p z A (fun σ=>zw (xj zaI (zaK zf L) 0 L zcq) zdP n σ K) K).trans ?_
  simp only [ih]
  rfl
def zhj{β:Type}(zf:xv)(L:Nat)(D:List (List V))(z A:Int)(p:Int→Int→Int→Option β):Option β:=zkD zf L D z A p (fun D z A C E F=>zcG zf L (fun z A C=>ze2 zf L z A C p) L D z A C E F)
theorem zvS{β:Type}(zf:xv)(L:Nat)(p:List (List V))(z A:Int)(k:KK β):xq zaI (zaK zf L) L zcm [(V.sl 1 p),(Qe z),(Qe A)] [] k=zhj zf L p z A (fun C D E=>k (V.tup [(Qa C),(Qe D),(Qe E)]) []):=by
 refine (zwo zf L p z A k).trans ?_
 unfold zhj
 first
  | (simp only [ziy,zo2]; done)
  | (simp only [ziy]; rfl)
abbrev zhe:=∀ (β:Type),Nat→List (List V)→Int→Int→(Int→Int→Int→Option β)→Option β
def yV(β:Type)(L:Nat)(z:List (List V))(A C:Int)(p:Int→Int→Int→Option β):Option β:=zhj zf L z A C p
def zg8(yV:zhe)(L:Nat)(β:Type)(args:List V)(bor:Bor)(k:KK β):Option β:=match args,bor with
 | [a0,a1,a2],[]=>aL 1 a0 fun C=>aI .i64 a1 fun D=>aI .i64 a2 fun E=>yV β L C D E (fun p z A=>k (V.tup [(Qa p),(Qe z),(Qe A)]) [])
 | _,_=>none
theorem zvw(L:Nat)(β:Type)(args:List V)(bor:Bor)(k:KK β)(r:β)(h:zg8 yV L β args bor k=some r):xq zaI (zaK zf L) L zcm args bor k=some r:=by
 unfold zg8 at h
 split at h
 ·have q:=xL h; clear h; obtain ⟨p,rfl,h⟩:=q
  have q:=yy h; clear h; obtain ⟨z,rfl,h⟩:=q
  have q:=yy h; clear h; obtain ⟨A,rfl,h⟩:=q
  exact (zvS zf L p z A k).trans h
 ·cases h
def zqi:CF:=⟨13,[.tmp 4,.tmp 5,.tmp 6],(.seq (.reg [oo 4 (.move (.const (.sc (.int .u8 0))) false),Qh 5 (Qf 0),Qh 6 (Qf 0)]) (.seq (.reg [Qh 7 (tq 0),Qh 8 (tq 1),Qs 9 207 [(Qw 7),(Qw 8),((Qf 1),0)],Qq 10 (tq 9) 0,Qq 11 (tq 9) 1,Qq 12 (tq 9) 2,Qh 4 (tq 10),Qh 5 (tq 11),Qh 6 (tq 12)]) .ret))⟩
def zxw:Hint:=⟨[],[],[none],[],[],false,false,[]⟩
def zuE:Nat→Sh:=xT []
def zuu(yV:zhe)(L:Nat):CBC:=(xy 207 (zg8 yV L) noC)
def zxm{β:Type}(yV:zhe)(L:Nat)(z:List (List V))(A:Int)(p:Int→Int→Int→Option β):Option β:=yV β L z A (1:Int) (fun C D E=>p C D E)
theorem zEH{β:Type}(yV:zhe)(L:Nat)(C:List (List V))(D:Int)(k:KK β):xq zuE (zuu yV L) L zqi [(V.sl 1 C),(Qe D)] [] k=zxm yV L C D (fun p z A=>k (V.tup [(Qa p),(Qe z),(Qe A)]) []):=by kernel_rfl
abbrev zr7:=∀ (β:Type),Nat→List (List V)→Int→(Int→Int→Int→Option β)→Option β
def zbf(β:Type)(L:Nat)(z:List (List V))(A:Int)(p:Int→Int→Int→Option β):Option β:=zxm yV L z A p
def zr3(zbf:zr7)(L:Nat)(β:Type)(args:List V)(bor:Bor)(k:KK β):Option β:=match args,bor with
 | [a0,a1],[]=>aL 1 a0 fun C=>aI .i64 a1 fun D=>zbf β L C D (fun p z A=>k (V.tup [(Qa p),(Qe z),(Qe A)]) [])
 | _,_=>none
theorem zEA(L:Nat)(β:Type)(args:List V)(bor:Bor)(k:KK β)(r:β)(h:zr3 zbf L β args bor k=some r):xq zuE (zuu yV L) L zqi args bor k=some r:=by
 unfold zr3 at h
 split at h
 ·have q:=xL h; clear h; obtain ⟨p,rfl,h⟩:=q
  have q:=yy h; clear h; obtain ⟨z,rfl,h⟩:=q
  exact (zEH yV L p z k).trans h
 ·cases h
def zb8:CC:=(.seq (.reg [Qp 21 .lss (tq 20) (tq 19)]) (.seq (.cond (tq 21) .skip (.seq (.mask (bl 1030 40) (bl 1099511625727 40)) (.exit 0))) (.seq (.block 1 (.seq (.reg [Qh 22 (tq 20),Qh 11 (tq 22)]) (.reg [Qh 23 (tq 10),Qh 24 (tq 0),Qh 25 (tq 1),Qh 26 (tq 11),Qp 27 .add (tq 25) (tq 26),Qo 28 1 (tq 24) (tq 27),Qj 29 1 (tq 28),Qu 30 .u16 (tq 29),Qh 31 (tq 11),Qp 32 .mul (Qf 8) (tq 31),Qp 33 .shl (tq 30) (tq 32),Qp 34 .or (tq 23) (tq 33),Qh 10 (tq 34)]))) (.reg [Qp 35 .add (tq 20) (Qf 1),Qh 20 (tq 35)]))))
def zgN:CC:=(.seq (.reg [Qh 36 (tq 10),Qh 37 (tq 1),Qh 38 (tq 2),Qp 39 .add (tq 37) (tq 38),Qh 6 (tq 36),Qh 7 (tq 39),Qh 8 (Qf 0)]) .ret)
def zb4:CF:=⟨40,[.tmp 6,.tmp 7,.tmp 8],(.seq (.reg [oo 6 (.move (.const (.sc (.int .u16 0))) false),Qh 7 (Qf 0),Qh 8 (Qf 0)]) (.seq (.seq (.reg [Qh 12 (tq 0),Qh 13 (tq 1),Qh 14 (tq 2),Qs 15 198 [(Qw 12),(Qw 13),(Qw 14)],Qh 9 (tq 15)]) (.seq (.reg [Qh 16 (tq 9),Qp 17 .neq (tq 16) (Qf 0)]) (.cond (tq 17) (.seq (.reg [Qh 18 (tq 9),oo 6 (.move (.const (.sc (.int .u16 0))) false),Qh 7 (Qf 0),Qh 8 (tq 18)]) .ret) .skip))) (.seq (.reg [oo 10 (.move (.const (.sc (.int .u16 0))) false)]) (.seq (.seq (.reg [Qh 19 (tq 2),Qh 20 (Qf 0)]) (.block 0 (.loop (bl 1573895 40) (bl 1099511625727 40) zb8))) zgN))))⟩
def zmi:Hint:=⟨[],[],[none,none,none,some ((bl 1573895 40),(bl 1099511625727 40)),none,some ((bl 1030 40),(bl 1099511625727 40)),none,none],[],[],false,false,[]⟩
def zat:Nat→Sh:=xT [(29,(.int .u8))]
def zau(zf:xv)(L:Nat):CBC:=(xy 198 (zeG zf L) noC)
def zdu:St→St:=zab 0 (bl 1573895 40) (bl 1099511625727 40)
def zcL(C:List (List V))(D E p z A:Int):St:=⟨((V.sl 1 C)::((Qe D)::((Qe E)::(jn 7 ((Qb p)::(jn 8 ((Qe z)::((Qe A)::(jn 19 []))))))))),(gn 40 [])⟩
def zgM(z A p:Int):St:=⟨(jn 1 ((Qe z)::((Qe A)::(jn 7 ((Qb p)::(jn 29 [])))))),(gn 40 [])⟩
def zjB{β:Type}(zf:xv)(L:Nat)(C:List (List V))(D A:Int)(z:Int→Int→Int→Option β)(p:List (List V)→Int→Int→Int→Int→Int→Option β):Option β:=zf β L C D A (fun E=>ifb ((E:Int) != (0:Int)) (z (0:Int) (0:Int) E) (p C D A (0:Int) A (0:Int)))
theorem zu7{β:Type}(zf:xv)(L:Nat)(p:List (List V))(z A:Int)(k:KK β):xq zat (zau zf L) L zb4 [(V.sl 1 p),(Qe z),(Qe A)] [] k=zjB zf L p z A (fun C D E=>k (V.tup [(Qb C),(Qe D),(Qe E)]) []) (fun p z A F G H=>zw (xj zat (zau zf L) 0 L zb8) zdu L (zcL p z A F G H) (yo 0 (zE (xj zat (zau zf L) 0 L zgN) (yQ 0 (CF.res zb4) k)))):=by kernel_rfl
def zfj{β:Type}(zf:xv)(L:Nat)(F:List (List V))(D G A C z:Int)(p:List (List V)→Int→Int→Int→Int→Int→Option β)(E:Int→Int→Int→Option β):Option β:=ifb (decide (z<C)) (lt (QF .i64 ((D:Int)+z)) fun I=>idx F I fun J=>cI .u8 J 0 fun M=>lt (QF .u16 M) fun N=>lt (QF .i64 (((8:Int):Int)*z)) fun H=>chk (0≤H) (lt (zq5 .u16 N H) fun O=>lt (ior .u16 A O) fun P=>lt (QF .i64 ((z:Int)+(1:Int))) fun Q=>p F D G P C Q)) (E D G A)
theorem zpL{β:Type}(zf:xv)(L:Nat)(E:List (List V))(C D p z A:Int)(X:St→Option β)(K:KT β):xj zat (zau zf L) 0 L zb8 (zcL E C D p z A) (zU zdu X K)=zfj zf L E C D p z A (fun E C D p z A=>X (zcL E C D p z A)) (fun C D p=>K (.exit 0) (zgM C D p)):=by kernel_rfl
def zeN{β:Type}(zf:xv)(L:Nat)(A C z:Int)(p:Int→Int→Int→Option β):Option β:=lt (QF .i64 ((A:Int)+C)) fun D=>p z D (0:Int)
theorem znO{β:Type}(zf:xv)(L:Nat)(D E p:Int)(k:KK β):(yo 0 (zE (xj zat (zau zf L) 0 L zgN) (yQ 0 (CF.res zb4) k))) (.exit 0) (zgM D E p)=zeN zf L D E p (fun z A C=>k (V.tup [(Qb z),(Qe A),(Qe C)]) []):=by kernel_rfl
def zcy{β:Type}(zf:xv)(L:Nat)(p:Int→Int→Int→Option β):Nat→List (List V)→Int→Int→Int→Int→Int→Option β
 | 0,_,_,_,_,_,_=>none
 | n+1,D,E,F,z,A,C=>zfj zf L D E F z A C (fun D E F z A C=>zcy zf L p n D E F z A C) p
theorem zh6{β:Type}(zf:xv)(L:Nat)(K:KT β):∀ (n:Nat) (E:List (List V)) (C D p z A:Int),zw (xj zat (zau zf L) 0 L zb8) zdu n (zcL E C D p z A) K=zcy zf L (fun C D p=>K (.exit 0) (zgM C D p)) n E C D p z A:=by
 intro n
 induction n with
 | zero=>intros; rfl
 | succ n ih=>
  intro E C D p z A
  refine (zpL zf L E C D p z A (fun σ=>zw (xj zat (zau zf L) 0 L zb8) zdu n σ K) K).trans ?_
  simp only [ih]
  rfl
def zgH{β:Type}(zf:xv)(L:Nat)(D:List (List V))(z A:Int)(p:Int→Int→Int→Option β):Option β:=zjB zf L D z A p (fun D z A C E F=>zcy zf L (fun z A C=>zeN zf L z A C p) L D z A C E F)
theorem zuz{β:Type}(zf:xv)(L:Nat)(p:List (List V))(z A:Int)(k:KK β):xq zat (zau zf L) L zb4 [(V.sl 1 p),(Qe z),(Qe A)] [] k=zgH zf L p z A (fun C D E=>k (V.tup [(Qb C),(Qe D),(Qe E)]) []):=by
 refine (zu7 zf L p z A k).trans ?_
 unfold zgH
 first
  | (simp only [zh6,znO]; done)
  | (simp only [zh6]; rfl)
abbrev zgz:=∀ (β:Type),Nat→List (List V)→Int→Int→(Int→Int→Int→Option β)→Option β
def xR(β:Type)(L:Nat)(z:List (List V))(A C:Int)(p:Int→Int→Int→Option β):Option β:=zgH zf L z A C p
def zgC(xR:zgz)(L:Nat)(β:Type)(args:List V)(bor:Bor)(k:KK β):Option β:=match args,bor with
 | [a0,a1,a2],[]=>aL 1 a0 fun C=>aI .i64 a1 fun D=>aI .i64 a2 fun E=>xR β L C D E (fun p z A=>k (V.tup [(Qb p),(Qe z),(Qe A)]) [])
 | _,_=>none
theorem zuT(L:Nat)(β:Type)(args:List V)(bor:Bor)(k:KK β)(r:β)(h:zgC xR L β args bor k=some r):xq zat (zau zf L) L zb4 args bor k=some r:=by
 unfold zgC at h
 split at h
 ·have q:=xL h; clear h; obtain ⟨p,rfl,h⟩:=q
  have q:=yy h; clear h; obtain ⟨z,rfl,h⟩:=q
  have q:=yy h; clear h; obtain ⟨A,rfl,h⟩:=q
  exact (zuz zf L p z A k).trans h
 ·cases h
def znN:CF:=⟨13,[.tmp 4,.tmp 5,.tmp 6],(.seq (.reg [oo 4 (.move (.const (.sc (.int .u16 0))) false),Qh 5 (Qf 0),Qh 6 (Qf 0)]) (.seq (.reg [Qh 7 (tq 0),Qh 8 (tq 1),Qs 9 208 [(Qw 7),(Qw 8),((Qf 2),0)],Qq 10 (tq 9) 0,Qq 11 (tq 9) 1,Qq 12 (tq 9) 2,Qh 4 (tq 10),Qh 5 (tq 11),Qh 6 (tq 12)]) .ret))⟩
def zvC:Hint:=⟨[],[],[none],[],[],false,false,[]⟩
def ztb:Nat→Sh:=xT []
def zsH(xR:zgz)(L:Nat):CBC:=(xy 208 (zgC xR L) noC)
def zu4{β:Type}(xR:zgz)(L:Nat)(z:List (List V))(A:Int)(p:Int→Int→Int→Option β):Option β:=xR β L z A (2:Int) (fun C D E=>p C D E)
theorem zDt{β:Type}(xR:zgz)(L:Nat)(C:List (List V))(D:Int)(k:KK β):xq ztb (zsH xR L) L znN [(V.sl 1 C),(Qe D)] [] k=zu4 xR L C D (fun p z A=>k (V.tup [(Qb p),(Qe z),(Qe A)]) []):=by kernel_rfl
abbrev zpU:=∀ (β:Type),Nat→List (List V)→Int→(Int→Int→Int→Option β)→Option β
def zaW(β:Type)(L:Nat)(z:List (List V))(A:Int)(p:Int→Int→Int→Option β):Option β:=zu4 xR L z A p
def zpW(zaW:zpU)(L:Nat)(β:Type)(args:List V)(bor:Bor)(k:KK β):Option β:=match args,bor with
 | [a0,a1],[]=>aL 1 a0 fun C=>aI .i64 a1 fun D=>zaW β L C D (fun p z A=>k (V.tup [(Qb p),(Qe z),(Qe A)]) [])
 | _,_=>none
theorem zDM(L:Nat)(β:Type)(args:List V)(bor:Bor)(k:KK β)(r:β)(h:zpW zaW L β args bor k=some r):xq ztb (zsH xR L) L znN args bor k=some r:=by
 unfold zpW at h
 split at h
 ·have q:=xL h; clear h; obtain ⟨p,rfl,h⟩:=q
  have q:=yy h; clear h; obtain ⟨z,rfl,h⟩:=q
  exact (zDt xR L p z k).trans h
 ·cases h
def zb6:CC:=(.seq (.reg [Qp 21 .lss (tq 20) (tq 19)]) (.seq (.cond (tq 21) .skip (.seq (.mask (bl 1030 40) (bl 1099511625727 40)) (.exit 0))) (.seq (.block 1 (.seq (.reg [Qh 22 (tq 20),Qh 11 (tq 22)]) (.reg [Qh 23 (tq 10),Qh 24 (tq 0),Qh 25 (tq 1),Qh 26 (tq 11),Qp 27 .add (tq 25) (tq 26),Qo 28 1 (tq 24) (tq 27),Qj 29 1 (tq 28),Qu 30 .u64 (tq 29),Qh 31 (tq 11),Qp 32 .mul (Qf 8) (tq 31),Qp 33 .shl (tq 30) (tq 32),Qp 34 .or (tq 23) (tq 33),Qh 10 (tq 34)]))) (.reg [Qp 35 .add (tq 20) (Qf 1),Qh 20 (tq 35)]))))
def zgP:CC:=(.seq (.reg [Qh 36 (tq 10),Qh 37 (tq 1),Qh 38 (tq 2),Qp 39 .add (tq 37) (tq 38),Qh 6 (tq 36),Qh 7 (tq 39),Qh 8 (Qf 0)]) .ret)
def zb3:CF:=⟨40,[.tmp 6,.tmp 7,.tmp 8],(.seq (.reg [oo 6 (.move (.const (.sc (.int .u64 0))) false),Qh 7 (Qf 0),Qh 8 (Qf 0)]) (.seq (.seq (.reg [Qh 12 (tq 0),Qh 13 (tq 1),Qh 14 (tq 2),Qs 15 198 [(Qw 12),(Qw 13),(Qw 14)],Qh 9 (tq 15)]) (.seq (.reg [Qh 16 (tq 9),Qp 17 .neq (tq 16) (Qf 0)]) (.cond (tq 17) (.seq (.reg [Qh 18 (tq 9),oo 6 (.move (.const (.sc (.int .u64 0))) false),Qh 7 (Qf 0),Qh 8 (tq 18)]) .ret) .skip))) (.seq (.reg [oo 10 (.move (.const (.sc (.int .u64 0))) false)]) (.seq (.seq (.reg [Qh 19 (tq 2),Qh 20 (Qf 0)]) (.block 0 (.loop (bl 1573895 40) (bl 1099511625727 40) zb6))) zgP))))⟩
def zme:Hint:=⟨[],[],[none,none,none,some ((bl 1573895 40),(bl 1099511625727 40)),none,some ((bl 1030 40),(bl 1099511625727 40)),none,none],[],[],false,false,[]⟩
def zas:Nat→Sh:=xT [(29,(.int .u8))]
def zao(zf:xv)(L:Nat):CBC:=(xy 198 (zeG zf L) noC)
def zdt:St→St:=zab 0 (bl 1573895 40) (bl 1099511625727 40)
def zcT(C:List (List V))(D E p z A:Int):St:=⟨((V.sl 1 C)::((Qe D)::((Qe E)::(jn 7 ((Qd p)::(jn 8 ((Qe z)::((Qe A)::(jn 19 []))))))))),(gn 40 [])⟩
def zgS(z A p:Int):St:=⟨(jn 1 ((Qe z)::((Qe A)::(jn 7 ((Qd p)::(jn 29 [])))))),(gn 40 [])⟩
def zjA{β:Type}(zf:xv)(L:Nat)(C:List (List V))(D A:Int)(z:Int→Int→Int→Option β)(p:List (List V)→Int→Int→Int→Int→Int→Option β):Option β:=zf β L C D A (fun E=>ifb ((E:Int) != (0:Int)) (z (0:Int) (0:Int) E) (p C D A (0:Int) A (0:Int)))
theorem zuW{β:Type}(zf:xv)(L:Nat)(p:List (List V))(z A:Int)(k:KK β):xq zas (zao zf L) L zb3 [(V.sl 1 p),(Qe z),(Qe A)] [] k=zjA zf L p z A (fun C D E=>k (V.tup [(Qd C),(Qe D),(Qe E)]) []) (fun p z A F G H=>zw (xj zas (zao zf L) 0 L zb6) zdt L (zcT p z A F G H) (yo 0 (zE (xj zas (zao zf L) 0 L zgP) (yQ 0 (CF.res zb3) k)))):=by kernel_rfl
def zfi{β:Type}(zf:xv)(L:Nat)(F:List (List V))(D G A C z:Int)(p:List (List V)→Int→Int→Int→Int→Int→Option β)(E:Int→Int→Int→Option β):Option β:=ifb (decide (z<C)) (lt (QF .i64 ((D:Int)+z)) fun I=>idx F I fun J=>cI .u8 J 0 fun M=>lt (QF .u64 M) fun N=>lt (QF .i64 (((8:Int):Int)*z)) fun H=>chk (0≤H) (lt (zq5 .u64 N H) fun O=>lt (ior .u64 A O) fun P=>lt (QF .i64 ((z:Int)+(1:Int))) fun Q=>p F D G P C Q)) (E D G A)
theorem zpl{β:Type}(zf:xv)(L:Nat)(E:List (List V))(C D p z A:Int)(X:St→Option β)(K:KT β):xj zas (zao zf L) 0 L zb6 (zcT E C D p z A) (zU zdt X K)=zfi zf L E C D p z A (fun E C D p z A=>X (zcT E C D p z A)) (fun C D p=>K (.exit 0) (zgS C D p)):=by kernel_rfl
def zeM{β:Type}(zf:xv)(L:Nat)(A C z:Int)(p:Int→Int→Int→Option β):Option β:=lt (QF .i64 ((A:Int)+C)) fun D=>p z D (0:Int)
theorem znY{β:Type}(zf:xv)(L:Nat)(D E p:Int)(k:KK β):(yo 0 (zE (xj zas (zao zf L) 0 L zgP) (yQ 0 (CF.res zb3) k))) (.exit 0) (zgS D E p)=zeM zf L D E p (fun z A C=>k (V.tup [(Qd z),(Qe A),(Qe C)]) []):=by kernel_rfl
def zcv{β:Type}(zf:xv)(L:Nat)(p:Int→Int→Int→Option β):Nat→List (List V)→Int→Int→Int→Int→Int→Option β
 | 0,_,_,_,_,_,_=>none
 | n+1,D,E,F,z,A,C=>zfi zf L D E F z A C (fun D E F z A C=>zcv zf L p n D E F z A C) p
theorem zii{β:Type}(zf:xv)(L:Nat)(K:KT β):∀ (n:Nat) (E:List (List V)) (C D p z A:Int),zw (xj zas (zao zf L) 0 L zb6) zdt n (zcT E C D p z A) K=zcv zf L (fun C D p=>K (.exit 0) (zgS C D p)) n E C D p z A:=by
 intro n
 induction n with
 | zero=>intros; rfl
 | succ n ih=>
  intro E C D p z A
  refine (zpl zf L E C D p z A (fun σ=>zw (xj zas (zao zf L) 0 L zb6) zdt n σ K) K).trans ?_
  simp only [ih]
  rfl
def zgF{β:Type}(zf:xv)(L:Nat)(D:List (List V))(z A:Int)(p:Int→Int→Int→Option β):Option β:=zjA zf L D z A p (fun D z A C E F=>zcv zf L (fun z A C=>zeM zf L z A C p) L D z A C E F)
theorem zu3{β:Type}(zf:xv)(L:Nat)(p:List (List V))(z A:Int)(k:KK β):xq zas (zao zf L) L zb3 [(V.sl 1 p),(Qe z),(Qe A)] [] k=zgF zf L p z A (fun C D E=>k (V.tup [(Qd C),(Qe D),(Qe E)]) []):=by
 refine (zuW zf L p z A k).trans ?_
 unfold zgF
 first
  | (simp only [zii,znY]; done)
  | (simp only [zii]; rfl)
abbrev zgn:=∀ (β:Type),Nat→List (List V)→Int→Int→(Int→Int→Int→Option β)→Option β
def yR(β:Type)(L:Nat)(z:List (List V))(A C:Int)(p:Int→Int→Int→Option β):Option β:=zgF zf L z A C p
def zgo(yR:zgn)(L:Nat)(β:Type)(args:List V)(bor:Bor)(k:KK β):Option β:=match args,bor with
 | [a0,a1,a2],[]=>aL 1 a0 fun C=>aI .i64 a1 fun D=>aI .i64 a2 fun E=>yR β L C D E (fun p z A=>k (V.tup [(Qd p),(Qe z),(Qe A)]) [])
 | _,_=>none
theorem zva(L:Nat)(β:Type)(args:List V)(bor:Bor)(k:KK β)(r:β)(h:zgo yR L β args bor k=some r):xq zas (zao zf L) L zb3 args bor k=some r:=by
 unfold zgo at h
 split at h
 ·have q:=xL h; clear h; obtain ⟨p,rfl,h⟩:=q
  have q:=yy h; clear h; obtain ⟨z,rfl,h⟩:=q
  have q:=yy h; clear h; obtain ⟨A,rfl,h⟩:=q
  exact (zu3 zf L p z A k).trans h
 ·cases h
def zoX:CF:=⟨13,[.tmp 4,.tmp 5,.tmp 6],(.seq (.reg [oo 4 (.move (.const (.sc (.int .u64 0))) false),Qh 5 (Qf 0),Qh 6 (Qf 0)]) (.seq (.reg [Qh 7 (tq 0),Qh 8 (tq 1),Qs 9 199 [(Qw 7),(Qw 8),((Qf 8),0)],Qq 10 (tq 9) 0,Qq 11 (tq 9) 1,Qq 12 (tq 9) 2,Qh 4 (tq 10),Qh 5 (tq 11),Qh 6 (tq 12)]) .ret))⟩
def zv0:Hint:=⟨[],[],[none],[],[],false,false,[]⟩
def zsu:Nat→Sh:=xT []
def zsC(yR:zgn)(L:Nat):CBC:=(xy 199 (zgo yR L) noC)
def zuC{β:Type}(yR:zgn)(L:Nat)(z:List (List V))(A:Int)(p:Int→Int→Int→Option β):Option β:=yR β L z A (8:Int) (fun C D E=>p C D E)
theorem zDC{β:Type}(yR:zgn)(L:Nat)(C:List (List V))(D:Int)(k:KK β):xq zsu (zsC yR L) L zoX [(V.sl 1 C),(Qe D)] [] k=zuC yR L C D (fun p z A=>k (V.tup [(Qd p),(Qe z),(Qe A)]) []):=by kernel_rfl
abbrev zhs:=∀ (β:Type),Nat→List (List V)→Int→(Int→Int→Int→Option β)→Option β
def yT(β:Type)(L:Nat)(z:List (List V))(A:Int)(p:Int→Int→Int→Option β):Option β:=zuC yR L z A p
def zmh(yT:zhs)(L:Nat)(β:Type)(args:List V)(bor:Bor)(k:KK β):Option β:=match args,bor with
 | [a0,a1],[]=>aL 1 a0 fun C=>aI .i64 a1 fun D=>yT β L C D (fun p z A=>k (V.tup [(Qd p),(Qe z),(Qe A)]) [])
 | _,_=>none
theorem zDk(L:Nat)(β:Type)(args:List V)(bor:Bor)(k:KK β)(r:β)(h:zmh yT L β args bor k=some r):xq zsu (zsC yR L) L zoX args bor k=some r:=by
 unfold zmh at h
 split at h
 ·have q:=xL h; clear h; obtain ⟨p,rfl,h⟩:=q
  have q:=yy h; clear h; obtain ⟨z,rfl,h⟩:=q
  exact (zDC yR L p z k).trans h
 ·cases h
end
end Go.Proofs.Ytoeobffjdbdpgaa
