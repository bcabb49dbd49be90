/- Part 10 of the proof of AddrbookHears: an abstract machine over plain values, its soundness, and the functions of the program on plain values. -/
import Derived.Test.YtbimgceighecgaaRows
import Derived.Test.YtbimgceighecgaaMAddrbookHears9
namespace Go.Proofs.Ytbimgceighecgaa
section
set_option maxRecDepth 100000
set_option linter.unusedVariables false
set_option linter.unusedSimpArgs false
def zfe:CC:=(.seq (.reg [Qp 9 .lss (tq 8) (tq 7)]) (.seq (.cond (tq 9) .skip (.seq (.mask (bl 8 22) (bl 4194255 22)) (.exit 0))) (.seq (.block 1 (.seq (.reg [Qh 10 (tq 8),Qo 11 1 (tq 6) (tq 8),Qj 12 1 (tq 11),Qh 4 (tq 10),Qh 5 (tq 12)]) (.reg [Qh 13 (tq 3),Qh 14 (tq 5),Qu 15 .u64 (tq 14),Qh 16 (tq 4),Qp 17 .mul (Qf 8) (tq 16),Qp 18 .shl (tq 15) (tq 17),Qp 19 .or (tq 13) (tq 18),Qh 3 (tq 19)]))) (.reg [Qp 20 .add (tq 8) (Qf 1),Qh 8 (tq 20)]))))
def zoA:CC:=(.seq (.reg [Qh 21 (tq 3),Qh 2 (tq 21)]) .ret)
def zgo:CF:=⟨22,[.tmp 2],(.seq (.reg [oo 2 (.move (.const (.sc (.int .u64 0))) false)]) (.seq (.reg [oo 3 (.move (.const (.sc (.int .u64 0))) false)]) (.seq (.seq (.reg [Qh 6 (tq 0),Qr 7 (tq 6),Qh 8 (Qf 0)]) (.block 0 (.loop (bl 456 22) (bl 4194255 22) zfe))) zoA)))⟩
def ztn:Hint:=⟨[],[],[none,some ((bl 456 22),(bl 4194255 22)),none,some ((bl 8 22),(bl 4194255 22)),none,none],[],[],false,false,[]⟩
def zc8:Nat→Sh:=zY [(12,(.int .u8))]
def zc7(L:Nat):CBC:=noC
def zir:St→St:=zbn 0 (bl 456 22) (bl 4194255 22)
def zga(z:Int)(A:List (List V))(C D:Int):St:=⟨(jn 3 ((Qd z)::(jn 2 ((V.sl 1 A)::((Qe C)::((Qe D)::(jn 13 []))))))),(gn 22 [])⟩
def znu(z:Int):St:=⟨(jn 3 ((Qd z)::(jn 18 []))),(gn 22 [])⟩
def zsq{β:Type}(L:Nat)(A:List (List V))(z:Int→List (List V)→Int→Int→Option β):Option β:=z (0:Int) A ((List.length A:Nat):Int) (0:Int)
theorem zzD{β:Type}(L:Nat)(z:List (List V))(k:KK β):zq zc8 (zc7 L) L zgo [(V.sl 1 z)] [] k=zsq L z (fun A C D E=>zF (zl zc8 (zc7 L) 0 L zfe) zir L (zga A C D E) (yB 0 (xQ (zl zc8 (zc7 L) 0 L zoA) (y8 0 (CF.res zgo) k)))):=by kernel_rfl
def zlY{β:Type}(L:Nat)(D:Int)(E:List (List V))(F A:Int)(z:Int→List (List V)→Int→Int→Option β)(C:Int→Option β):Option β:=ifb (decide (A<F)) (idx E A fun c0=>cI .u8 c0 0 fun I=>lt (IntKind.wrap .u64 I) fun J=>lt (IntKind.wrap .i64 (((8:Int):Int)*A)) fun G=>chk (0≤G) (lt (zrk .u64 J G) fun M=>lt (ior .u64 D M) fun N=>lt (IntKind.wrap .i64 ((A:Int)+(1:Int))) fun O=>z N E F O)) (C D)
theorem zuD{β:Type}(L:Nat)(z:Int)(A:List (List V))(C D:Int)(X:St→Option β)(K:KT β):zl zc8 (zc7 L) 0 L zfe (zga z A C D) (zbQ zir X K)=zlY L z A C D (fun z A C D=>X (zga z A C D)) (fun z=>K (.exit 0) (znu z)):=by kernel_rfl
def zoT{β:Type}(L:Nat)(A:Int)(z:Int→Option β):Option β:=z A
theorem zsS{β:Type}(L:Nat)(z:Int)(k:KK β):(yB 0 (xQ (zl zc8 (zc7 L) 0 L zoA) (y8 0 (CF.res zgo) k))) (.exit 0) (znu z)=zoT L z (fun A=>k (Qd A) []):=by kernel_rfl
def zfZ{β:Type}(L:Nat)(z:Int→Option β):Nat→Int→List (List V)→Int→Int→Option β
 | 0,_,_,_,_=>none
 | n+1,A,C,D,E=>zlY L A C D E (fun A C D E=>zfZ L z n A C D E) z
theorem zob{β:Type}(L:Nat)(K:KT β):∀ (n:Nat) (z:Int) (A:List (List V)) (C D:Int),zF (zl zc8 (zc7 L) 0 L zfe) zir n (zga z A C D) K=zfZ L (fun z=>K (.exit 0) (znu z)) n z A C D:=by
 intro n
 induction n with
 | zero=>intros; rfl
 | succ n ih=>
  intro z A C D
  refine (zuD L z A C D (fun σ=>zF (zl zc8 (zc7 L) 0 L zfe) zir n σ K) K).trans ?_
  simp only [ih]
  rfl
def zo9{β:Type}(L:Nat)(C:List (List V))(z:Int→Option β):Option β:=zsq L C (fun A D E F=>zfZ L (fun A=>zoT L A z) L A D E F)
theorem zzC{β:Type}(L:Nat)(z:List (List V))(k:KK β):zq zc8 (zc7 L) L zgo [(V.sl 1 z)] [] k=zo9 L z (fun z=>k (Qd z) []):=by
 refine (zzD L z k).trans ?_
 unfold zo9
 first
  | (simp only [zob,zsS]; done)
  | (simp only [zob]; rfl)
abbrev zbG:=∀ (β:Type),Nat→List (List V)→(Int→Option β)→Option β
def zr(β:Type)(L:Nat)(A:List (List V))(z:Int→Option β):Option β:=zo9 L A z
def zmw(zr:zbG)(L:Nat)(β:Type)(args:List V)(bor:Bor)(k:KK β):Option β:=match args,bor with
 | [a0],[]=>aL 1 a0 fun z=>zr β L z (fun z=>k (Qd z) [])
 | _,_=>none
theorem zzO(L:Nat)(β:Type)(args:List V)(bor:Bor)(k:KK β)(r:β)(h:zmw zr L β args bor k=some r):zq zc8 (zc7 L) L zgo args bor k=some r:=by
 unfold zmw at h
 split at h
 ·have q:=zaP h; clear h; obtain ⟨z,rfl,h⟩:=q
  exact (zzC L z k).trans h
 ·cases h
def zo4:CF:=⟨8,[.cell 2 true 2],(.seq (.reg [Qv 1 (tq 0),oo 2 (.alloc true [(.sc (.int .u64 0)),(.sc (.int .u64 0))])]) (.seq (.dreg [1] [(oo 3 (.sliceA 32 1 (tq 1) none (some (Qf 8)) none),q1),(Qs 4 112 [(Qw 3)],q1),(oo 5 (.sliceA 32 1 (tq 1) (some (Qf 8)) (some (Qf 16)) none),q1),(Qs 6 112 [(Qw 5)],q0),(oo 7 (.build [(.sc (.int .u64 0)),(.sc (.int .u64 0))] [(0,1,(tq 4)),(1,1,(tq 6))]),q0),(Qm 2 (tq 2) (tq 7),q0)]) .ret))⟩
def zus:Hint:=⟨[],[],[none],[(1,[1])],[],false,false,[]⟩
def zsJ:Nat→Sh:=zY []
def zsN(zr:zbG)(L:Nat):CBC:=(yA 112 (zmw zr L) noC)
def zu2{β:Type}(zr:zbG)(L:Nat)(C:List V)(z:List V→Option β):Option β:=lc C (none) (fun h0 A=>chk (0+32*1≤(List.length (h0::A))) (zr β L (yf 1 8 (h0::A)) (fun D=>chk (0+32*1≤(List.length (h0::A))) (zr β L (yf 1 8 (List.drop 8 (h0::A))) (fun E=>lt [(Qd D),(Qd E)] fun r4=>chk (0=0∧(List.length r4)=2∧2≠0) (z r4))))))
theorem zAC{β:Type}(zr:zbG)(L:Nat)(z:List V)(k:KK β):zq zsJ (zsN zr L) L zo4 [(V.agg z)] [] k=zu2 zr L z (fun z=>k (V.agg z) []):=by kernel_rfl
abbrev zi9:=∀ (β:Type),Nat→List V→(List V→Option β)→Option β
def xZ(β:Type)(L:Nat)(A:List V)(z:List V→Option β):Option β:=zu2 zr L A z
def zoh(xZ:zi9)(L:Nat)(β:Type)(args:List V)(bor:Bor)(k:KK β):Option β:=match args,bor with
 | [a0],[]=>aG a0 fun z=>xZ β L z (fun z=>k (V.agg z) [])
 | _,_=>none
theorem zAF(L:Nat)(β:Type)(args:List V)(bor:Bor)(k:KK β)(r:β)(h:zoh xZ L β args bor k=some r):zq zsJ (zsN zr L) L zo4 args bor k=some r:=by
 unfold zoh at h
 split at h
 ·have q:=yR h; clear h; obtain ⟨z,rfl,h⟩:=q
  exact (zAC zr L z k).trans h
 ·cases h
def zgD:CF:=⟨6,[.tmp 2],(.seq (.reg [Qv 1 (tq 0),oo 2 (.move (.const (.sc (.int .u32 0))) false)]) (.seq (.reg [Ql 3 0 (tq 1),Qj 4 1 (tq 3),oo 5 (.bin .shr (tq 4) (.const (.sc (.int .u64 16)))),Qh 2 (tq 5)]) .ret))⟩
def zne:Hint:=⟨[],[],[none],[],[],false,false,[]⟩
def zj9:Nat→Sh:=zY [(4,(.int .u32))]
def zj6(L:Nat):CBC:=noC
def zla{β:Type}(L:Nat)(A:List V)(z:Int→Option β):Option β:=cI .u32 A 0 fun C=>lt (znq .u32 C (16:Int)) fun D=>z D
theorem ztK{β:Type}(L:Nat)(z:List V)(k:KK β):zq zj9 (zj6 L) L zgD [(V.agg z)] [] k=zla L z (fun z=>k (Qc z) []):=by kernel_rfl
abbrev zba:=∀ (β:Type),Nat→List V→(Int→Option β)→Option β
def xo(β:Type)(L:Nat)(A:List V)(z:Int→Option β):Option β:=zla L A z
def zdI(xo:zba)(L:Nat)(β:Type)(args:List V)(bor:Bor)(k:KK β):Option β:=match args,bor with
 | [a0],[]=>aG a0 fun z=>xo β L z (fun z=>k (Qc z) [])
 | _,_=>none
theorem ztC(L:Nat)(β:Type)(args:List V)(bor:Bor)(k:KK β)(r:β)(h:zdI xo L β args bor k=some r):zq zj9 (zj6 L) L zgD args bor k=some r:=by
 unfold zdI at h
 split at h
 ·have q:=yR h; clear h; obtain ⟨z,rfl,h⟩:=q
  exact (ztK L z k).trans h
 ·cases h
def zdm:CC:=(.seq (.reg [Qp 11 .lss (tq 10) (tq 9)]) (.seq (.cond (tq 11) .skip (.seq (.mask (bl 32 23) (bl 8388543 23)) (.exit 0))) (.seq (.block 1 (.seq (.reg [Qh 12 (tq 10),Qh 6 (tq 12)]) (.reg [Qh 13 (tq 5),Qh 14 (tq 6),Qh 15 (tq 0),Qh 16 (tq 6),Qp 17 .mul (Qf 8) (tq 16),Qp 18 .shr (tq 15) (tq 17),Qu 19 .u8 (tq 18),Qo 20 1 (tq 13) (tq 14),Qm 1 (tq 20) (tq 19)]))) (.reg [Qp 21 .add (tq 10) (Qf 1),Qh 10 (tq 21)]))))
def zki:CC:=(.seq (.reg [Qi 22 (tq 5),Qi 4 (tq 22)]) .ret)
def zdi:CF:=⟨23,[.tmp 4],(.seq (.reg [Qi 4 (.const (.gs 1 []))]) (.seq (.reg [Qh 7 (tq 1),⟨(some 8),true,none,.makeSlice 1 1 [(.sc (.int .u8 0))] (tq 7) (tq 7)⟩,Qi 5 (tq 8)]) (.seq (.seq (.reg [Qh 9 (tq 1),Qh 10 (Qf 0)]) (.block 0 (.loop (bl 1569 23) (bl 8388543 23) zdm))) zki)))⟩
def zoU:Hint:=⟨[(0,0),(1,2),(7,0),(7,1)],[(1,1)],[none,some ((bl 1569 23),(bl 8388543 23)),none,some ((bl 32 23),(bl 8388543 23)),none,none],[],[],false,false,[]⟩
def zby:Nat→Sh:=zY []
def zbz(L:Nat):CBC:=noC
def zfq:St→St:=zbn 0 (bl 1569 23) (bl 8388543 23)
def zdY(C:Int)(z:Nat)(D A:Int)(E:List V):St:=⟨((Qd C)::(jn 4 ((V.own 8 0 z 1)::(jn 3 ((Qe D)::((Qe A)::(jn 12 []))))))),(gn 8 ((.live true E)::(gn 14 [])))⟩
def zi4(z:Nat)(A:List V):St:=⟨(jn 5 ((V.own 8 0 z 1)::(jn 17 []))),(gn 8 ((.live true A)::(gn 14 [])))⟩
def zrH{β:Type}(L:Nat)(C z:Int)(A:Int→Nat→Int→Int→List V→Option β):Option β:=chk (0≤z∧z≤z∧(Int.toNat z)*1≤xp∧z≤xp) (A C (Int.toNat z) z (0:Int) (List.flatten (List.replicate (Int.toNat z) [(Qa (0:Int))])))
theorem zvq{β:Type}(L:Nat)(z A:Int)(k:KK β):zq zby (zbz L) L zdi [(Qd z),(Qe A)] [] k=zrH L z A (fun z C E D F=>zF (zl zby (zbz L) 0 L zdm) zfq L (zdY z C E D F) (yB 0 (xQ (zl zby (zbz L) 0 L zki) (y8 0 (CF.res zdi) k)))):=by kernel_rfl
def znd{β:Type}(L:Nat)(F:Int)(C:Nat)(G z:Int)(D:List V)(A:Int→Nat→Int→Int→List V→Option β)(E:Nat→List V→Option β):Option β:=ifb (decide (z<G)) (lt (IntKind.wrap .i64 (((8:Int):Int)*z)) fun I=>chk (0≤I) (lt (znq .u64 F I) fun J=>lt (IntKind.wrap .u8 J) fun M=>chk (0≤z∧z<((C:Nat):Int)) (chk (1=1∧(0+((Int.toNat z)*1))+1≤(List.length D)) (lt (zg D (0+((Int.toNat z)*1)) [(Qa M)]) fun r3=>lt (IntKind.wrap .i64 ((z:Int)+(1:Int))) fun N=>A F C G N r3)))) (E C D)
theorem zq5{β:Type}(L:Nat)(D:Int)(z:Nat)(E A:Int)(C:List V)(X:St→Option β)(K:KT β):zl zby (zbz L) 0 L zdm (zdY D z E A C) (zbQ zfq X K)=znd L D z E A C (fun D z E A C=>X (zdY D z E A C)) (fun z C=>K (.exit 0) (zi4 z C)):=by kernel_rfl
def zlt{β:Type}(L:Nat)(A:Nat)(C:List V)(z:List (List V)→Option β):Option β:=chk (A≠0∨(List.length C)=0) (z (yf 1 A C))
theorem zpy{β:Type}(L:Nat)(z:Nat)(A:List V)(k:KK β):(yB 0 (xQ (zl zby (zbz L) 0 L zki) (y8 0 (CF.res zdi) k))) (.exit 0) (zi4 z A)=zlt L z A (fun C=>k (V.fr 1 C) []):=by kernel_rfl
def zic{β:Type}(L:Nat)(z:Nat→List V→Option β):Nat→Int→Nat→Int→Int→List V→Option β
 | 0,_,_,_,_,_=>none
 | n+1,D,A,E,C,F=>znd L D A E C F (fun D A E C F=>zic L z n D A E C F) z
theorem zkF{β:Type}(L:Nat)(K:KT β):∀ (n:Nat) (D:Int) (z:Nat) (E A:Int) (C:List V),zF (zl zby (zbz L) 0 L zdm) zfq n (zdY D z E A C) K=zic L (fun z C=>K (.exit 0) (zi4 z C)) n D z E A C:=by
 intro n
 induction n with
 | zero=>intros; rfl
 | succ n ih=>
  intro D z E A C
  refine (zq5 L D z E A C (fun σ=>zF (zl zby (zbz L) 0 L zdm) zfq n σ K) K).trans ?_
  simp only [ih]
  rfl
def znx{β:Type}(L:Nat)(C F:Int)(A:List (List V)→Option β):Option β:=zrH L C F (fun C z G E D=>zic L (fun z D=>zlt L z D A) L C z G E D)
theorem zvz{β:Type}(L:Nat)(z A:Int)(k:KK β):zq zby (zbz L) L zdi [(Qd z),(Qe A)] [] k=znx L z A (fun z=>k (V.fr 1 z) []):=by
 refine (zvq L z A k).trans ?_
 unfold znx
 first
  | (simp only [zkF,zpy]; done)
  | (simp only [zkF]; rfl)
abbrev zdJ:=∀ (β:Type),Nat→Int→Int→(List (List V)→Option β)→Option β
def yC(β:Type)(L:Nat)(A C:Int)(z:List (List V)→Option β):Option β:=znx L A C z
def zgO(yC:zdJ)(L:Nat)(β:Type)(args:List V)(bor:Bor)(k:KK β):Option β:=match args,bor with
 | [a0,a1],[]=>aI .u64 a0 fun z=>aI .i64 a1 fun A=>yC β L z A (fun z=>k (V.fr 1 z) [])
 | _,_=>none
theorem zvs(L:Nat)(β:Type)(args:List V)(bor:Bor)(k:KK β)(r:β)(h:zgO yC L β args bor k=some r):zq zby (zbz L) L zdi args bor k=some r:=by
 unfold zgO at h
 split at h
 ·have q:=yy h; clear h; obtain ⟨z,rfl,h⟩:=q
  have q:=yy h; clear h; obtain ⟨A,rfl,h⟩:=q
  exact (zvz L z A k).trans h
 ·cases h
def ziK:CF:=⟨18,[.tmp 4],(.seq (.reg [Qi 4 (.const (.gs 1 []))]) (.seq (.reg [Qh 6 (tq 0),Qr 7 (tq 6),Qh 8 (tq 1),Qr 9 (tq 8),Qp 10 .add (tq 7) (tq 9),oo 11 (.makeSlice 1 1 [(.sc (.int .u8 0))] (Qf 0) (tq 10)),Qi 5 (tq 11)]) (.seq (.reg [Qi 12 (tq 5),Qh 13 (tq 0),oo 14 (.append 1 1 (tq 12) (tq 13)),Qi 5 (tq 14)]) (.seq (.reg [Qi 15 (tq 5),Qh 16 (tq 1),oo 17 (.append 1 1 (tq 15) (tq 16)),Qi 4 (tq 17)]) .ret))))⟩
def zo2:Hint:=⟨[(0,0),(1,6),(2,0),(2,3),(3,0),(3,3)],[],[none],[],[],false,false,[]⟩
def zl4:Nat→Sh:=zY []
def zmJ(L:Nat):CBC:=noC
def znr{β:Type}(L:Nat)(z A:List (List V))(C:List (List V)→Option β):Option β:=lt (IntKind.wrap .i64 ((((List.length z:Nat):Int):Int)+((List.length A:Nat):Int))) fun D=>chk (0≤(0:Int)∧(0:Int)≤D∧(Int.toNat D)*1≤xp∧D≤xp) (chk ((List.length (List.replicate 0 [(Qa (0:Int))])+List.length z)*1≤xp∧List.length (List.replicate 0 [(Qa (0:Int))])+List.length z≤xp) (lt ((List.replicate 0 [(Qa (0:Int))])++z) fun E=>chk ((List.length E+List.length A)*1≤xp∧List.length E+List.length A≤xp) (lt (E++A) fun F=>C F)))
theorem zvR{β:Type}(L:Nat)(z A:List (List V))(k:KK β):zq zl4 (zmJ L) L ziK [(V.sl 1 z),(V.sl 1 A)] [] k=znr L z A (fun z=>k (V.gs 1 z) []):=by kernel_rfl
abbrev zdM:=∀ (β:Type),Nat→List (List V)→List (List V)→(List (List V)→Option β)→Option β
def xC(β:Type)(L:Nat)(A C:List (List V))(z:List (List V)→Option β):Option β:=znr L A C z
def zgW(xC:zdM)(L:Nat)(β:Type)(args:List V)(bor:Bor)(k:KK β):Option β:=match args,bor with
 | [a0,a1],[]=>aL 1 a0 fun z=>aL 1 a1 fun A=>xC β L z A (fun z=>k (V.gs 1 z) [])
 | _,_=>none
theorem zvJ(L:Nat)(β:Type)(args:List V)(bor:Bor)(k:KK β)(r:β)(h:zgW xC L β args bor k=some r):zq zl4 (zmJ L) L ziK args bor k=some r:=by
 unfold zgW at h
 split at h
 ·have q:=zaP h; clear h; obtain ⟨z,rfl,h⟩:=q
  have q:=zaP h; clear h; obtain ⟨A,rfl,h⟩:=q
  exact (zvR L z A k).trans h
 ·cases h
def zfW:CF:=⟨10,[.tmp 4],(.seq (.reg [Qi 4 (.const (.gs 1 []))]) (.seq (.reg [Qh 5 (tq 0),Qh 6 (tq 1),Qu 7 .u64 (tq 6),Qs 8 192 [(Qw 7),((Qf 4),0)],Qs 9 191 [(Qw 5),(Qw 8)],Qi 4 (tq 9)]) .ret))⟩
def zlV:Hint:=⟨[(0,0),(1,5)],[],[none],[],[],false,false,[]⟩
def zjo:Nat→Sh:=zY []
def zjc(yC:zdJ)(xC:zdM)(L:Nat):CBC:=(yA 191 (zgW xC L) (yA 192 (zgO yC L) noC))
def zkb{β:Type}(yC:zdJ)(xC:zdM)(L:Nat)(A:List (List V))(C:Int)(z:List (List V)→Option β):Option β:=lt (IntKind.wrap .u64 C) fun D=>yC β L D (4:Int) (fun E=>xC β L A E (fun F=>z F))
theorem zsH{β:Type}(yC:zdJ)(xC:zdM)(L:Nat)(z:List (List V))(A:Int)(k:KK β):zq zjo (zjc yC xC L) L zfW [(V.sl 1 z),(Qc A)] [] k=zkb yC xC L z A (fun z=>k (V.gs 1 z) []):=by kernel_rfl
abbrev zcz:=∀ (β:Type),Nat→List (List V)→Int→(List (List V)→Option β)→Option β
def xr(β:Type)(L:Nat)(A:List (List V))(C:Int)(z:List (List V)→Option β):Option β:=zkb yC xC L A C z
def zeA(xr:zcz)(L:Nat)(β:Type)(args:List V)(bor:Bor)(k:KK β):Option β:=match args,bor with
 | [a0,a1],[]=>aL 1 a0 fun z=>aI .u32 a1 fun A=>xr β L z A (fun z=>k (V.gs 1 z) [])
 | _,_=>none
theorem zsI(L:Nat)(β:Type)(args:List V)(bor:Bor)(k:KK β)(r:β)(h:zeA xr L β args bor k=some r):zq zjo (zjc yC xC L) L zfW args bor k=some r:=by
 unfold zeA at h
 split at h
 ·have q:=zaP h; clear h; obtain ⟨z,rfl,h⟩:=q
  have q:=yy h; clear h; obtain ⟨A,rfl,h⟩:=q
  exact (zsH yC xC L z A k).trans h
 ·cases h
def zc2:CF:=⟨17,[.tmp 4],(.seq (.reg [oo 4 (.move (.const (.sc (.int .u64 0))) false)]) (.seq (.reg [Qh 6 (tq 1),Qu 7 .u64 (tq 6),oo 8 (.bin .and (tq 7) (.const (.sc (.int .u64 63)))),Qh 5 (tq 8)]) (.seq (.reg [Qh 9 (tq 0),Qh 10 (tq 5),Qp 11 .shl (tq 9) (tq 10),Qh 12 (tq 0),Qh 13 (tq 5),oo 14 (.bin .sub (.const (.sc (.int .u64 64))) (tq 13)),Qp 15 .shr (tq 12) (tq 14),Qp 16 .or (tq 11) (tq 15),Qh 4 (tq 16)]) .ret)))⟩
def zg9:Hint:=⟨[],[],[none],[],[],false,false,[]⟩
def zeN:Nat→Sh:=zY []
def zeM(L:Nat):CBC:=noC
def zi3{β:Type}(L:Nat)(C E:Int)(z:Int→Option β):Option β:=lt (IntKind.wrap .u64 E) fun F=>lt (zEY .u64 F (63:Int)) fun A=>chk (0≤A) (lt (zrk .u64 C A) fun G=>lt (IntKind.wrap .u64 (((64:Int):Int)-A)) fun D=>chk (0≤D) (lt (znq .u64 C D) fun I=>lt (ior .u64 G I) fun J=>z J))
theorem zot{β:Type}(L:Nat)(z A:Int)(k:KK β):zq zeN (zeM L) L zc2 [(Qd z),(Qe A)] [] k=zi3 L z A (fun z=>k (Qd z) []):=by kernel_rfl
abbrev yG:=∀ (β:Type),Nat→Int→Int→(Int→Option β)→Option β
def yb(β:Type)(L:Nat)(A C:Int)(z:Int→Option β):Option β:=zi3 L A C z
def zb5(yb:yG)(L:Nat)(β:Type)(args:List V)(bor:Bor)(k:KK β):Option β:=match args,bor with
 | [a0,a1],[]=>aI .u64 a0 fun z=>aI .i64 a1 fun A=>yb β L z A (fun z=>k (Qd z) [])
 | _,_=>none
theorem zon(L:Nat)(β:Type)(args:List V)(bor:Bor)(k:KK β)(r:β)(h:zb5 yb L β args bor k=some r):zq zeN (zeM L) L zc2 args bor k=some r:=by
 unfold zb5 at h
 split at h
 ·have q:=yy h; clear h; obtain ⟨z,rfl,h⟩:=q
  have q:=yy h; clear h; obtain ⟨A,rfl,h⟩:=q
  exact (zot L z A k).trans h
 ·cases h
def zeC:CC:=(.seq (.reg [Qp 7 .lss (tq 6) (tq 5)]) (.seq (.cond (tq 7) .skip (.seq (.mask (bl 20 82) (bl 4533176671146011638300671 82)) (.exit 0))) (.seq (.block 1 (.seq (.reg [Qn 8 4 1 (tq 2) (Qf 0),Qj 9 1 (tq 8),Qn 10 4 1 (tq 2) (Qf 1),Qj 11 1 (tq 10),Qp 12 .add (tq 9) (tq 11),Qn 13 4 1 (tq 2) (Qf 0),Qm 1 (tq 13) (tq 12)]) (.seq (.reg [Qn 14 4 1 (tq 2) (Qf 1),Qj 15 1 (tq 14),Qs 16 118 [(Qw 15),((Qf 13),0)],Qn 17 4 1 (tq 2) (Qf 1),Qm 1 (tq 17) (tq 16)]) (.seq (.reg [Qn 18 4 1 (tq 2) (Qf 1),Qj 19 1 (tq 18),Qn 20 4 1 (tq 2) (Qf 0),Qj 21 1 (tq 20),Qp 22 .xor (tq 19) (tq 21),Qn 23 4 1 (tq 2) (Qf 1),Qm 1 (tq 23) (tq 22)]) (.seq (.reg [Qn 24 4 1 (tq 2) (Qf 0),Qj 25 1 (tq 24),Qs 26 118 [(Qw 25),((Qf 32),0)],Qn 27 4 1 (tq 2) (Qf 0),Qm 1 (tq 27) (tq 26)]) (.seq (.reg [Qn 28 4 1 (tq 2) (Qf 2),Qj 29 1 (tq 28),Qn 30 4 1 (tq 2) (Qf 3),Qj 31 1 (tq 30),Qp 32 .add (tq 29) (tq 31),Qn 33 4 1 (tq 2) (Qf 2),Qm 1 (tq 33) (tq 32)]) (.seq (.reg [Qn 34 4 1 (tq 2) (Qf 3),Qj 35 1 (tq 34),Qs 36 118 [(Qw 35),((Qf 16),0)],Qn 37 4 1 (tq 2) (Qf 3),Qm 1 (tq 37) (tq 36)]) (.seq (.reg [Qn 38 4 1 (tq 2) (Qf 3),Qj 39 1 (tq 38),Qn 40 4 1 (tq 2) (Qf 2),Qj 41 1 (tq 40),Qp 42 .xor (tq 39) (tq 41),Qn 43 4 1 (tq 2) (Qf 3),Qm 1 (tq 43) (tq 42)]) (.seq (.reg [Qn 44 4 1 (tq 2) (Qf 0),Qj 45 1 (tq 44),Qn 46 4 1 (tq 2) (Qf 3),Qj 47 1 (tq 46),Qp 48 .add (tq 45) (tq 47),Qn 49 4 1 (tq 2) (Qf 0),Qm 1 (tq 49) (tq 48)]) (.seq (.reg [Qn 50 4 1 (tq 2) (Qf 3),Qj 51 1 (tq 50),Qs 52 118 [(Qw 51),((Qf 21),0)],Qn 53 4 1 (tq 2) (Qf 3),Qm 1 (tq 53) (tq 52)]) (.seq (.reg [Qn 54 4 1 (tq 2) (Qf 3),Qj 55 1 (tq 54),Qn 56 4 1 (tq 2) (Qf 0),Qj 57 1 (tq 56),Qp 58 .xor (tq 55) (tq 57),Qn 59 4 1 (tq 2) (Qf 3),Qm 1 (tq 59) (tq 58)]) (.seq (.reg [Qn 60 4 1 (tq 2) (Qf 2),Qj 61 1 (tq 60),Qn 62 4 1 (tq 2) (Qf 1),Qj 63 1 (tq 62),Qp 64 .add (tq 61) (tq 63),Qn 65 4 1 (tq 2) (Qf 2),Qm 1 (tq 65) (tq 64)]) (.seq (.reg [Qn 66 4 1 (tq 2) (Qf 1),Qj 67 1 (tq 66),Qs 68 118 [(Qw 67),((Qf 17),0)],Qn 69 4 1 (tq 2) (Qf 1),Qm 1 (tq 69) (tq 68)]) (.seq (.reg [Qn 70 4 1 (tq 2) (Qf 1),Qj 71 1 (tq 70),Qn 72 4 1 (tq 2) (Qf 2),Qj 73 1 (tq 72),Qp 74 .xor (tq 71) (tq 73),Qn 75 4 1 (tq 2) (Qf 1),Qm 1 (tq 75) (tq 74)]) (.reg [Qn 76 4 1 (tq 2) (Qf 2),Qj 77 1 (tq 76),Qs 78 118 [(Qw 77),((Qf 32),0)],Qn 79 4 1 (tq 2) (Qf 2),Qm 1 (tq 79) (tq 78)]))))))))))))))) (.reg [Qp 80 .add (tq 6) (Qf 1),Qh 6 (tq 80)]))))
def znz:CC:=(.seq (.reg [Qk 81 4 (tq 2),Qm 4 (tq 4) (tq 81)]) .ret)
def zev:CF:=⟨82,[.cell 4 true 4],(.seq (.reg [Qv 2 (tq 0),oo 4 (.alloc true [(.sc (.int .u64 0)),(.sc (.int .u64 0)),(.sc (.int .u64 0)),(.sc (.int .u64 0))])]) (.seq (.seq (.reg [Qh 5 (tq 1),Qh 6 (Qf 0)]) (.block 0 (.loop (bl 116 82) (bl 4533176671146011638300671 82) zeC))) znz))⟩
def zqI:Hint:=⟨[],[],[none,some ((bl 116 82),(bl 4533176671146011638300671 82)),none,some ((bl 20 82),(bl 4533176671146011638300671 82)),none,none],[],[],false,false,[]⟩
def zcg:Nat→Sh:=zY [(9,(.int .u64)),(11,(.int .u64)),(15,(.int .u64)),(19,(.int .u64)),(21,(.int .u64)),(25,(.int .u64)),(29,(.int .u64)),(31,(.int .u64)),(35,(.int .u64)),(39,(.int .u64)),(41,(.int .u64)),(45,(.int .u64)),(47,(.int .u64)),(51,(.int .u64)),(55,(.int .u64)),(57,(.int .u64)),(61,(.int .u64)),(63,(.int .u64)),(67,(.int .u64)),(71,(.int .u64)),(73,(.int .u64)),(77,(.int .u64))]
def zcd(yb:yG)(L:Nat):CBC:=(yA 118 (zb5 yb L) noC)
def zhL:St→St:=zbn 0 (bl 116 82) (bl 4533176671146011638300671 82)
def zfm(E F:Int)(G:List V)(z A C D:Int):St:=⟨(jn 2 ((V.ptr 2 0)::(jn 1 ((V.ptr 4 0)::((Qe E)::((Qe F)::(jn 75 []))))))),(gn 2 ((.live true G)::(gn 1 ((.live true [(Qd z),(Qd A),(Qd C),(Qd D)])::(gn 77 [])))))⟩
def zkX(E:List V)(z A C D:Int):St:=⟨(jn 2 ((V.ptr 2 0)::(jn 1 ((V.ptr 4 0)::(jn 77 []))))),(gn 2 ((.live true E)::(gn 1 ((.live true [(Qd z),(Qd A),(Qd C),(Qd D)])::(gn 77 [])))))⟩
def zpD{β:Type}(yb:yG)(L:Nat)(A:List V)(C:Int)(z:Int→Int→List V→Int→Int→Int→Int→Option β):Option β:=z C (0:Int) A (0:Int) (0:Int) (0:Int) (0:Int)
theorem zxF{β:Type}(yb:yG)(L:Nat)(E:List V)(F:Int)(k:KK β):zq zcg (zcd yb L) L zev [(V.agg E),(Qe F)] [] k=zpD yb L E F (fun G I J z A C D=>zF (zl zcg (zcd yb L) 0 L zeC) zhL L (zfm G I J z A C D) (yB 0 (xQ (zl zcg (zcd yb L) 0 L znz) (y8 0 (CF.res zev) k)))):=by kernel_rfl
def ze2{β:Type}(yb:yG)(L:Nat)(W X:Int)(I:List V)(J M N O:Int)(G:Int→Int→List V→Int→Int→Int→Int→Option β)(U:List V→Int→Int→Int→Int→Option β):Option β:=ifb (decide (X<W)) (cI .u64 I 0 fun v0=>cI .u64 I 1 fun v1=>lt (IntKind.wrap .u64 ((v0:Int)+v1)) fun x2=>chk (1=1∧0+1≤(List.length I)) (lt (zg I 0 [(Qd x2)]) fun r3=>cI .u64 r3 1 fun v4=>yb β L v4 (13:Int) (fun v5=>chk (1=1∧1+1≤(List.length r3)) (lt (zg r3 1 [(Qd v5)]) fun r6=>cI .u64 r6 1 fun v7=>cI .u64 r6 0 fun v8=>lt (zaX .u64 v7 v8) fun x9=>chk (1=1∧1+1≤(List.length r6)) (lt (zg r6 1 [(Qd x9)]) fun r10=>cI .u64 r10 0 fun Y=>yb β L Y (32:Int) (fun Z=>chk (1=1∧0+1≤(List.length r10)) (lt (zg r10 0 [(Qd Z)]) fun z=>cI .u64 z 2 fun aa=>cI .u64 z 3 fun ab=>lt (IntKind.wrap .u64 ((aa:Int)+ab)) fun ac=>chk (1=1∧2+1≤(List.length z)) (lt (zg z 2 [(Qd ac)]) fun P=>cI .u64 P 3 fun ad=>yb β L ad (16:Int) (fun ae=>chk (1=1∧3+1≤(List.length P)) (lt (zg P 3 [(Qd ae)]) fun A=>cI .u64 A 3 fun af=>cI .u64 A 2 fun ag=>lt (zaX .u64 af ag) fun ah=>chk (1=1∧3+1≤(List.length A)) (lt (zg A 3 [(Qd ah)]) fun C=>cI .u64 C 0 fun ai=>cI .u64 C 3 fun aj=>lt (IntKind.wrap .u64 ((ai:Int)+aj)) fun ak=>chk (1=1∧0+1≤(List.length C)) (lt (zg C 0 [(Qd ak)]) fun Q=>cI .u64 Q 3 fun al=>yb β L al (21:Int) (fun am=>chk (1=1∧3+1≤(List.length Q)) (lt (zg Q 3 [(Qd am)]) fun D=>cI .u64 D 3 fun an=>cI .u64 D 0 fun ao=>lt (zaX .u64 an ao) fun ap=>chk (1=1∧3+1≤(List.length D)) (lt (zg D 3 [(Qd ap)]) fun E=>cI .u64 E 2 fun aq=>cI .u64 E 1 fun ar=>lt (IntKind.wrap .u64 ((aq:Int)+ar)) fun au=>chk (1=1∧2+1≤(List.length E)) (lt (zg E 2 [(Qd au)]) fun R=>cI .u64 R 1 fun av=>yb β L av (17:Int) (fun aw=>chk (1=1∧1+1≤(List.length R)) (lt (zg R 1 [(Qd aw)]) fun F=>cI .u64 F 1 fun ax=>cI .u64 F 2 fun ay=>lt (zaX .u64 ax ay) fun az=>chk (1=1∧1+1≤(List.length F)) (lt (zg F 1 [(Qd az)]) fun S=>cI .u64 S 2 fun aC=>yb β L aC (32:Int) (fun aD=>chk (1=1∧2+1≤(List.length S)) (lt (zg S 2 [(Qd aD)]) fun aE=>lt (IntKind.wrap .i64 ((X:Int)+(1:Int))) fun aH=>G W aH aE J M N O))))))))))))))))))))) (U I J M N O)
theorem ztx{β:Type}(yb:yG)(L:Nat)(F G:Int)(E:List V)(z A C D:Int)(X:St→Option β)(K:KT β):zl zcg (zcd yb L) 0 L zeC (zfm F G E z A C D) (zbQ zhL X K)=ze2 yb L F G E z A C D (fun F G E z A C D=>X (zfm F G E z A C D)) (fun E z A C D=>K (.exit 0) (zkX E z A C D)):=by kernel_rfl
def zjb{β:Type}(yb:yG)(L:Nat)(C:List V)(D E F G:Int)(z:List V→Option β):Option β:=chk (0+4≤(List.length C)) (chk ((List.length (List.take 4 C))=4∧0+4≤4) (lt (zg [(Qd D),(Qd E),(Qd F),(Qd G)] 0 (List.take 4 C)) fun A=>chk (0=0∧(List.length A)=4∧4≠0) (z A)))
theorem zrK{β:Type}(yb:yG)(L:Nat)(E:List V)(z A C D:Int)(k:KK β):(yB 0 (xQ (zl zcg (zcd yb L) 0 L znz) (y8 0 (CF.res zev) k))) (.exit 0) (zkX E z A C D)=zjb yb L E z A C D (fun F=>k (V.agg F) []):=by kernel_rfl
def ze1{β:Type}(yb:yG)(L:Nat)(E:List V→Int→Int→Int→Int→Option β):Nat→Int→Int→List V→Int→Int→Int→Int→Option β
 | 0,_,_,_,_,_,_,_=>none
 | n+1,F,G,I,z,A,C,D=>ze2 yb L F G I z A C D (fun F G I z A C D=>ze1 yb L E n F G I z A C D) E
theorem znj{β:Type}(yb:yG)(L:Nat)(K:KT β):∀ (n:Nat) (F G:Int) (E:List V) (z A C D:Int),zF (zl zcg (zcd yb L) 0 L zeC) zhL n (zfm F G E z A C D) K=ze1 yb L (fun E z A C D=>K (.exit 0) (zkX E z A C D)) n F G E z A C D:=by
 intro n
 induction n with
 | zero=>intros; rfl
 | succ n ih=>
  intro F G E z A C D
  refine (ztx yb L F G E z A C D (fun σ=>zF (zl zcg (zcd yb L) 0 L zeC) zhL n σ K) K).trans ?_
  simp only [ih]
  rfl
def zmS{β:Type}(yb:yG)(L:Nat)(G:List V)(I:Int)(E:List V→Option β):Option β:=zpD yb L G I (fun J M F z A C D=>ze1 yb L (fun F z A C D=>zjb yb L F z A C D E) L J M F z A C D)
theorem zxU{β:Type}(yb:yG)(L:Nat)(z:List V)(A:Int)(k:KK β):zq zcg (zcd yb L) L zev [(V.agg z),(Qe A)] [] k=zmS yb L z A (fun z=>k (V.agg z) []):=by
 refine (zxF yb L z A k).trans ?_
 unfold zmS
 first
  | (simp only [znj,zrK]; done)
  | (simp only [znj]; rfl)
abbrev zaR:=∀ (β:Type),Nat→List V→Int→(List V→Option β)→Option β
def xm(β:Type)(L:Nat)(A:List V)(C:Int)(z:List V→Option β):Option β:=zmS yb L A C z
def zjv(xm:zaR)(L:Nat)(β:Type)(args:List V)(bor:Bor)(k:KK β):Option β:=match args,bor with
 | [a0,a1],[]=>aG a0 fun z=>aI .i64 a1 fun A=>xm β L z A (fun z=>k (V.agg z) [])
 | _,_=>none
theorem zw4(L:Nat)(β:Type)(args:List V)(bor:Bor)(k:KK β)(r:β)(h:zjv xm L β args bor k=some r):zq zcg (zcd yb L) L zev args bor k=some r:=by
 unfold zjv at h
 split at h
 ·have q:=yR h; clear h; obtain ⟨z,rfl,h⟩:=q
  have q:=yy h; clear h; obtain ⟨A,rfl,h⟩:=q
  exact (zxU yb L z A k).trans h
 ·cases h
def zkM:CF:=⟨18,[.cell 4 true 4],(.seq (.reg [Qv 2 (tq 0),oo 4 (.alloc true [(.sc (.int .u64 0)),(.sc (.int .u64 0)),(.sc (.int .u64 0)),(.sc (.int .u64 0))])]) (.seq (.reg [Qn 5 4 1 (tq 2) (Qf 3),Qj 6 1 (tq 5),Qh 7 (tq 1),Qp 8 .xor (tq 6) (tq 7),Qn 9 4 1 (tq 2) (Qf 3),Qm 1 (tq 9) (tq 8)]) (.seq (.reg [Qk 10 4 (tq 2),Qs 11 113 [(Qw 10),((Qf 2),0)],Qm 4 (tq 2) (tq 11)]) (.seq (.reg [Qn 12 4 1 (tq 2) (Qf 0),Qj 13 1 (tq 12),Qh 14 (tq 1),Qp 15 .xor (tq 13) (tq 14),Qn 16 4 1 (tq 2) (Qf 0),Qm 1 (tq 16) (tq 15)]) (.seq (.reg [Qk 17 4 (tq 2),Qm 4 (tq 4) (tq 17)]) .ret)))))⟩
def zqA:Hint:=⟨[],[],[none],[],[],false,false,[]⟩
def zoF:Nat→Sh:=zY [(6,(.int .u64)),(13,(.int .u64))]
def zoK(xm:zaR)(L:Nat):CBC:=(yA 113 (zjv xm L) noC)
def zpw{β:Type}(xm:zaR)(L:Nat)(A:List V)(C:Int)(z:List V→Option β):Option β:=cI .u64 A 3 fun E=>lt (zaX .u64 E C) fun F=>chk (1=1∧3+1≤(List.length A)) (lt (zg A 3 [(Qd F)]) fun r2=>chk (0+4≤(List.length r2)) (xm β L (List.take 4 r2) (2:Int) (fun D=>chk ((List.length D)=4∧0+4≤(List.length r2)) (lt (zg r2 0 D) fun r4=>cI .u64 r4 0 fun G=>lt (zaX .u64 G C) fun I=>chk (1=1∧0+1≤(List.length r4)) (lt (zg r4 0 [(Qd I)]) fun r7=>chk (0+4≤(List.length r7)) (chk ((List.length (List.take 4 r7))=4∧0+4≤4) (lt (zg [(Qd (0:Int)),(Qd (0:Int)),(Qd (0:Int)),(Qd (0:Int))] 0 (List.take 4 r7)) fun r8=>chk (0=0∧(List.length r8)=4∧4≠0) (z r8))))))))
theorem zxo{β:Type}(xm:zaR)(L:Nat)(z:List V)(A:Int)(k:KK β):zq zoF (zoK xm L) L zkM [(V.agg z),(Qd A)] [] k=zpw xm L z A (fun z=>k (V.agg z) []):=by kernel_rfl
abbrev zbK:=∀ (β:Type),Nat→List V→Int→(List V→Option β)→Option β
def zt(β:Type)(L:Nat)(A:List V)(C:Int)(z:List V→Option β):Option β:=zpw xm L A C z
def zmF(zt:zbK)(L:Nat)(β:Type)(args:List V)(bor:Bor)(k:KK β):Option β:=match args,bor with
 | [a0,a1],[]=>aG a0 fun z=>aI .u64 a1 fun A=>zt β L z A (fun z=>k (V.agg z) [])
 | _,_=>none
theorem zxf(L:Nat)(β:Type)(args:List V)(bor:Bor)(k:KK β)(r:β)(h:zmF zt L β args bor k=some r):zq zoF (zoK xm L) L zkM args bor k=some r:=by
 unfold zmF at h
 split at h
 ·have q:=yR h; clear h; obtain ⟨z,rfl,h⟩:=q
  have q:=yy h; clear h; obtain ⟨A,rfl,h⟩:=q
  exact (zxo xm L z A k).trans h
 ·cases h
def ze4:CC:=(.seq (.reg [Qp 26 .lss (tq 25) (tq 24)]) (.seq (.cond (tq 26) .skip (.seq (.mask (bl 98 69) (bl 590295810152547221371 69)) (.exit 0))) (.seq (.block 1 (.seq (.reg [Qh 27 (tq 25),Qh 7 (tq 27)]) (.dreg [] [(Qk 28 4 (tq 5),ql 5 [] []),(Qh 29 (tq 1),q0),(Qh 30 (tq 7),q0),(Qp 31 .mul (Qf 8) (tq 30),q0),(Qh 32 (tq 7),q0),(Qp 33 .mul (Qf 8) (tq 32),q0),(Qp 34 .add (tq 33) (Qf 8),q0),(oo 35 (.sliceS 1 (tq 29) (some (tq 31)) (some (tq 34)) none),q0),(Qs 36 112 [(Qw 35)],qc [5] []),(Qs 37 111 [(Qw 28),(Qw 36)],q0),(Qm 4 (tq 5) (tq 37),q0)]))) (.reg [Qp 38 .add (tq 25) (Qf 1),Qh 25 (tq 38)]))))
def zoz:CC:=(.seq (.dreg [] [(Qk 39 4 (tq 5),ql 5 [] []),(Qh 40 (tq 1),q0),(Qh 41 (tq 6),q0),(Qp 42 .mul (Qf 8) (tq 41),q0),(oo 43 (.sliceS 1 (tq 40) (some (tq 42)) none none),q0),(Qs 44 112 [(Qw 43)],qc [5] []),(Qh 45 (tq 1),q0),(Qr 46 (tq 45),q0),(Qp 47 .rem (tq 46) (Qf 256),q0),(Qu 48 .u64 (tq 47),q0),(oo 49 (.bin .shl (tq 48) (.const (.sc (.int .u64 56)))),q0),(Qp 50 .or (tq 44) (tq 49),q0),(Qs 51 111 [(Qw 39),(Qw 50)],q0),(Qm 4 (tq 5) (tq 51),q0)]) (.seq (.reg [Qn 52 4 1 (tq 5) (Qf 2),Qj 53 1 (tq 52),oo 54 (.bin .xor (tq 53) (.const (.sc (.int .u64 255)))),Qn 55 4 1 (tq 5) (Qf 2),Qm 1 (tq 55) (tq 54)]) (.seq (.reg [Qk 56 4 (tq 5),Qs 57 113 [(Qw 56),((Qf 4),0)],Qm 4 (tq 5) (tq 57)]) (.seq (.reg [Qn 58 4 1 (tq 5) (Qf 0),Qj 59 1 (tq 58),Qn 60 4 1 (tq 5) (Qf 1),Qj 61 1 (tq 60),Qp 62 .xor (tq 59) (tq 61),Qn 63 4 1 (tq 5) (Qf 2),Qj 64 1 (tq 63),Qp 65 .xor (tq 62) (tq 64),Qn 66 4 1 (tq 5) (Qf 3),Qj 67 1 (tq 66),Qp 68 .xor (tq 65) (tq 67),Qh 4 (tq 68)]) .ret))))
def zhf:CF:=⟨69,[.tmp 4],(.seq (.reg [Qv 2 (tq 0),oo 4 (.move (.const (.sc (.int .u64 0))) false)]) (.seq (.reg [Qn 8 2 1 (tq 2) (Qf 0),Qj 9 1 (tq 8),oo 10 (.bin .xor (tq 9) (.const (.sc (.int .u64 8317987319222330741)))),Qn 11 2 1 (tq 2) (Qf 1),Qj 12 1 (tq 11),oo 13 (.bin .xor (tq 12) (.const (.sc (.int .u64 7237128888997146477)))),Qn 14 2 1 (tq 2) (Qf 0),Qj 15 1 (tq 14),oo 16 (.bin .xor (tq 15) (.const (.sc (.int .u64 7816392313619706465)))),Qn 17 2 1 (tq 2) (Qf 1),Qj 18 1 (tq 17),oo 19 (.bin .xor (tq 18) (.const (.sc (.int .u64 8387220255154660723)))),oo 20 (.build [(.sc (.int .u64 0)),(.sc (.int .u64 0)),(.sc (.int .u64 0)),(.sc (.int .u64 0))] [(0,1,(tq 10)),(1,1,(tq 13)),(2,1,(tq 16)),(3,1,(tq 19))]),oo 5 (.alloc true [(.sc (.int .u64 0)),(.sc (.int .u64 0)),(.sc (.int .u64 0)),(.sc (.int .u64 0))]),Qm 4 (tq 5) (tq 20)]) (.seq (.reg [Qh 21 (tq 1),Qr 22 (tq 21),Qp 23 .quo (tq 22) (Qf 8),Qh 6 (tq 23)]) (.seq (.seq (.reg [Qh 24 (tq 6),Qh 25 (Qf 0)]) (.block 0 (.loop (bl 50331746 69) (bl 590295810152547221371 69) ze4))) zoz))))⟩
def zuv:Hint:=⟨[],[],[none,some ((bl 50331746 69),(bl 590295810152547221371 69)),none,some ((bl 98 69),(bl 590295810152547221371 69)),none,none],[],[],false,false,[]⟩
def zd2:Nat→Sh:=zY [(9,(.int .u64)),(12,(.int .u64)),(15,(.int .u64)),(18,(.int .u64)),(53,(.int .u64)),(59,(.int .u64)),(61,(.int .u64)),(64,(.int .u64)),(67,(.int .u64))]
def zd1(zr:zbG)(zt:zbK)(xm:zaR)(L:Nat):CBC:=(yA 113 (zjv xm L) (yA 111 (zmF zt L) (yA 112 (zmw zr L) noC)))
def ziC:St→St:=zbn 0 (bl 50331746 69) (bl 590295810152547221371 69)
def zf3(C:List (List V))(D z A:Int)(E:List V):St:=⟨(jn 1 ((V.sl 1 C)::(jn 3 ((V.ptr 5 0)::((Qe D)::(jn 17 ((Qe z)::((Qe A)::(jn 43 []))))))))),(gn 5 ((.live true E)::(gn 63 [])))⟩
def zoC(z:List (List V))(A:Int)(C:List V):St:=⟨(jn 1 ((V.sl 1 z)::(jn 3 ((V.ptr 5 0)::((Qe A)::(jn 62 [])))))),(gn 5 ((.live true C)::(gn 63 [])))⟩
def zu8{β:Type}(zr:zbG)(zt:zbK)(xm:zaR)(L:Nat)(A:List V)(C:List (List V))(z:List (List V)→Int→Int→Int→List V→Option β):Option β:=cI .u64 A 0 fun E=>lt (zaX .u64 E (8317987319222330741:Int)) fun F=>cI .u64 A 1 fun G=>lt (zaX .u64 G (7237128888997146477:Int)) fun I=>cI .u64 A 0 fun J=>lt (zaX .u64 J (7816392313619706465:Int)) fun M=>cI .u64 A 1 fun N=>lt (zaX .u64 N (8387220255154660723:Int)) fun O=>lt [(Qd F),(Qd I),(Qd M),(Qd O)] fun r8=>lt (IntKind.wrap .i64 (Int.tdiv ((List.length C:Nat):Int) (8:Int))) fun D=>z C D D (0:Int) r8
theorem zAL{β:Type}(zr:zbG)(zt:zbK)(xm:zaR)(L:Nat)(A:List V)(z:List (List V))(k:KK β):zq zd2 (zd1 zr zt xm L) L zhf [(V.agg A),(V.sl 1 z)] [] k=zu8 zr zt xm L A z (fun z E C D F=>zF (zl zd2 (zd1 zr zt xm L) 0 L ze4) ziC L (zf3 z E C D F) (yB 0 (xQ (zl zd2 (zd1 zr zt xm L) 0 L zoz) (y8 0 (CF.res zhf) k)))):=by kernel_rfl
def zmk{β:Type}(zr:zbG)(zt:zbK)(xm:zaR)(L:Nat)(F:List (List V))(M G A:Int)(E:List V)(z:List (List V)→Int→Int→Int→List V→Option β)(J:List (List V)→Int→List V→Option β):Option β:=ifb (decide (A<G)) (chk (0+4≤(List.length E)) (lt (IntKind.wrap .i64 (((8:Int):Int)*A)) fun C=>lt (IntKind.wrap .i64 (((8:Int):Int)*A)) fun N=>lt (IntKind.wrap .i64 ((N:Int)+(8:Int))) fun D=>chk (0≤D∧D≤(((List.length F):Nat):Int)) (chk (0≤C∧C≤(((Int.toNat D):Nat):Int)) (zr β L (List.take ((Int.toNat D)-(Int.toNat C)) (List.drop (Int.toNat C) F)) (fun O=>zt β L (List.take 4 E) O (fun I=>chk ((List.length I)=4∧0+4≤(List.length E)) (lt (zg E 0 I) fun P=>lt (IntKind.wrap .i64 ((A:Int)+(1:Int))) fun Q=>z F M G Q P))))))) (J F M E)
theorem zuY{β:Type}(zr:zbG)(zt:zbK)(xm:zaR)(L:Nat)(C:List (List V))(D z A:Int)(E:List V)(X:St→Option β)(K:KT β):zl zd2 (zd1 zr zt xm L) 0 L ze4 (zf3 C D z A E) (zbQ ziC X K)=zmk zr zt xm L C D z A E (fun C D z A E=>X (zf3 C D z A E)) (fun C D E=>K (.exit 0) (zoC C D E)):=by kernel_rfl
def zgH{β:Type}(zr:zbG)(zt:zbK)(xm:zaR)(L:Nat)(E:List (List V))(p6:Int)(F:List V)(G:Int→Option β):Option β:=chk (0+4≤(List.length F)) (lt (IntKind.wrap .i64 (((8:Int):Int)*p6)) fun z=>chk (0≤z∧z≤(((List.length E):Nat):Int)) (zr β L (List.take ((List.length E)-(Int.toNat z)) (List.drop (Int.toNat z) E)) (fun M=>lt (Int.tmod ((List.length E:Nat):Int) (256:Int)) fun N=>lt (IntKind.wrap .u64 N) fun O=>lt (zrk .u64 O (56:Int)) fun P=>lt (ior .u64 M P) fun Q=>zt β L (List.take 4 F) Q (fun I=>chk ((List.length I)=4∧0+4≤(List.length F)) (lt (zg F 0 I) fun D=>cI .u64 D 2 fun R=>lt (zaX .u64 R (255:Int)) fun S=>chk (1=1∧2+1≤(List.length D)) (lt (zg D 2 [(Qd S)]) fun A=>chk (0+4≤(List.length A)) (xm β L (List.take 4 A) (4:Int) (fun J=>chk ((List.length J)=4∧0+4≤(List.length A)) (lt (zg A 0 J) fun C=>cI .u64 C 0 fun U=>cI .u64 C 1 fun W=>lt (zaX .u64 U W) fun X=>cI .u64 C 2 fun Y=>lt (zaX .u64 X Y) fun Z=>cI .u64 C 3 fun aa=>lt (zaX .u64 Z aa) fun ab=>G ab)))))))))
theorem zs1{β:Type}(zr:zbG)(zt:zbK)(xm:zaR)(L:Nat)(z:List (List V))(A:Int)(C:List V)(k:KK β):(yB 0 (xQ (zl zd2 (zd1 zr zt xm L) 0 L zoz) (y8 0 (CF.res zhf) k))) (.exit 0) (zoC z A C)=zgH zr zt xm L z A C (fun D=>k (Qd D) []):=by kernel_rfl
def zgd{β:Type}(zr:zbG)(zt:zbK)(xm:zaR)(L:Nat)(z:List (List V)→Int→List V→Option β):Nat→List (List V)→Int→Int→Int→List V→Option β
 | 0,_,_,_,_,_=>none
 | n+1,D,E,A,C,F=>zmk zr zt xm L D E A C F (fun D E A C F=>zgd zr zt xm L z n D E A C F) z
theorem zom{β:Type}(zr:zbG)(zt:zbK)(xm:zaR)(L:Nat)(K:KT β):∀ (n:Nat) (C:List (List V)) (D z A:Int) (E:List V),zF (zl zd2 (zd1 zr zt xm L) 0 L ze4) ziC n (zf3 C D z A E) K=zgd zr zt xm L (fun C D E=>K (.exit 0) (zoC C D E)) n C D z A E:=by
 intro n
 induction n with
 | zero=>intros; rfl
 | succ n ih=>
  intro C D z A E
  refine (zuY zr zt xm L C D z A E (fun σ=>zF (zl zd2 (zd1 zr zt xm L) 0 L ze4) ziC n σ K) K).trans ?_
  simp only [ih]
  rfl
def zqT{β:Type}(zr:zbG)(zt:zbK)(xm:zaR)(L:Nat)(G:List V)(z:List (List V))(A:Int→Option β):Option β:=zu8 zr zt xm L G z (fun z C E F D=>zgd zr zt xm L (fun z C D=>zgH zr zt xm L z C D A) L z C E F D)
theorem zAW{β:Type}(zr:zbG)(zt:zbK)(xm:zaR)(L:Nat)(z:List V)(A:List (List V))(k:KK β):zq zd2 (zd1 zr zt xm L) L zhf [(V.agg z),(V.sl 1 A)] [] k=zqT zr zt xm L z A (fun z=>k (Qd z) []):=by
 refine (zAL zr zt xm L z A k).trans ?_
 unfold zqT
 first
  | (simp only [zom,zs1]; done)
  | (simp only [zom]; rfl)
abbrev ziX:=∀ (β:Type),Nat→List V→List (List V)→(Int→Option β)→Option β
def yU(β:Type)(L:Nat)(A:List V)(C:List (List V))(z:Int→Option β):Option β:=zqT zr zt xm L A C z
def zok(yU:ziX)(L:Nat)(β:Type)(args:List V)(bor:Bor)(k:KK β):Option β:=match args,bor with
 | [a0,a1],[]=>aG a0 fun z=>aL 1 a1 fun A=>yU β L z A (fun z=>k (Qd z) [])
 | _,_=>none
theorem zAY(L:Nat)(β:Type)(args:List V)(bor:Bor)(k:KK β)(r:β)(h:zok yU L β args bor k=some r):zq zd2 (zd1 zr zt xm L) L zhf args bor k=some r:=by
 unfold zok at h
 split at h
 ·have q:=yR h; clear h; obtain ⟨z,rfl,h⟩:=q
  have q:=zaP h; clear h; obtain ⟨A,rfl,h⟩:=q
  exact (zAW zr zt xm L z A k).trans h
 ·cases h
def zdv:CF:=⟨32,[.tmp 6],(.seq (.reg [Qv 3 (tq 0),Qv 4 (tq 1),Qh 6 (Qf 0)]) (.seq (.reg [Qk 10 32 (tq 3),Qs 11 109 [(Qw 10)],oo 7 (.alloc true [(.sc (.int .u64 0)),(.sc (.int .u64 0))]),Qm 2 (tq 7) (tq 11)]) (.seq (.dreg [] [(Qk 12 2 (tq 7),ql 7 [4] [13]),(oo 13 (.buildSlice 1 1 [(.sc (.int .u8 0))] [(0,1,(.const (.sc (.int .u8 2))))]),qn [7,4] []),(Qk 14 3 (tq 4),ql 4 [7] [13]),(Qs 15 269 [(Qw 14)],qc [7] [13]),(Qs 16 157 [(Qw 13),(Qw 15)],qc [7] []),(Qh 17 (tq 2),q0),(Qs 18 157 [(Qw 16),(Qw 17)],qc [7] []),(Qs 19 105 [(Qw 12),(Qw 18)],q0),(oo 20 (.bin .rem (tq 19) (.const (.sc (.int .u64 4)))),q0),(Qh 8 (tq 20),q0)]) (.seq (.reg [oo 21 (.buildSlice 1 1 [(.sc (.int .u8 0))] [(0,1,(.const (.sc (.int .u8 1))))]),Qh 22 (tq 2),Qs 23 157 [(Qw 21),(Qw 22)],Qh 24 (tq 8),Qu 25 .u32 (tq 24),Qs 26 157 [(Qw 23),(Qw 25)],Qh 9 (tq 26)]) (.seq (.reg [Qk 27 2 (tq 7),Qh 28 (tq 9),Qs 29 105 [(Qw 27),(Qw 28)],oo 30 (.bin .rem (tq 29) (.const (.sc (.int .u64 64)))),Qu 31 .i64 (tq 30),Qh 6 (tq 31)]) .ret)))))⟩
def zip:Hint:=⟨[],[],[none],[],[],false,false,[]⟩
def zfx:Nat→Sh:=zY []
def zfF(xZ:zi9)(xo:zba)(xr:zcz)(yU:ziX)(L:Nat):CBC:=(yA 105 (zok yU L) (yA 157 (zeA xr L) (yA 269 (zdI xo L) (yA 109 (zoh xZ L) noC))))
def zgl{β:Type}(xZ:zi9)(xo:zba)(xr:zcz)(yU:ziX)(L:Nat)(A C:List V)(D:Int)(z:Int→Option β):Option β:=chk (0+32≤(List.length A)) (xZ β L (List.take 32 A) (fun E=>chk ((List.length E)=2∧0+2≤2) (lt (zg [(Qd (0:Int)),(Qd (0:Int))] 0 E) fun r1=>chk (0+2≤(List.length r1)) (chk (0+3≤(List.length C)) (xo β L (List.take 3 C) (fun J=>xr β L (yf 1 1 [(Qa (2:Int))]) J (fun M=>xr β L M D (fun N=>yU β L (List.take 2 r1) N (fun O=>lt (Int.tmod O (4:Int)) fun P=>xr β L (yf 1 1 [(Qa (1:Int))]) D (fun Q=>lt (IntKind.wrap .u32 P) fun R=>xr β L Q R (fun S=>chk (0+2≤(List.length r1)) (yU β L (List.take 2 r1) S (fun F=>lt (Int.tmod F (64:Int)) fun G=>lt (IntKind.wrap .i64 G) fun I=>z I)))))))))))))
theorem zpl{β:Type}(xZ:zi9)(xo:zba)(xr:zcz)(yU:ziX)(L:Nat)(z A:List V)(C:Int)(k:KK β):zq zfx (zfF xZ xo xr yU L) L zdv [(V.agg z),(V.agg A),(Qc C)] [] k=zgl xZ xo xr yU L z A C (fun z=>k (Qe z) []):=by kernel_rfl
abbrev zI:=∀ (β:Type),Nat→List V→List V→Int→(Int→Option β)→Option β
def ze(β:Type)(L:Nat)(A C:List V)(D:Int)(z:Int→Option β):Option β:=zgl xZ xo xr yU L A C D z
def zcH(ze:zI)(L:Nat)(β:Type)(args:List V)(bor:Bor)(k:KK β):Option β:=match args,bor with
 | [a0,a1,a2],[]=>aG a0 fun z=>aG a1 fun A=>aI .u32 a2 fun C=>ze β L z A C (fun z=>k (Qe z) [])
 | _,_=>none
theorem zpk(L:Nat)(β:Type)(args:List V)(bor:Bor)(k:KK β)(r:β)(h:zcH ze L β args bor k=some r):zq zfx (zfF xZ xo xr yU L) L zdv args bor k=some r:=by
 unfold zcH at h
 split at h
 ·have q:=yR h; clear h; obtain ⟨z,rfl,h⟩:=q
  have q:=yR h; clear h; obtain ⟨A,rfl,h⟩:=q
  have q:=yy h; clear h; obtain ⟨C,rfl,h⟩:=q
  exact (zpl xZ xo xr yU L z A C k).trans h
 ·cases h
def zfp:CF:=⟨11,[.tmp 3],(.seq (.reg [Qv 2 (tq 0),Qh 3 (Qf 0)]) (.seq (.reg [Ql 4 0 (tq 1),Qk 5 32 (tq 4),Ql 6 1 (tq 2),Qk 7 3 (tq 6),Ql 8 4 (tq 2),Qj 9 1 (tq 8),Qs 10 297 [(Qw 5),(Qw 7),(Qw 9)],Qh 3 (tq 10)]) .ret))⟩
def zlj:Hint:=⟨[],[],[none],[],[],false,false,[]⟩
def zie:Nat→Sh:=zY [(9,(.int .u32))]
def zil(ze:zI)(L:Nat):CBC:=(yA 297 (zcH ze L) noC)
def ziR{β:Type}(ze:zI)(L:Nat)(A C:List V)(z:Int→List V→Option β):Option β:=chk (0+32≤(List.length C)) (chk (1+3≤(List.length A)) (cI .u32 A 4 fun D=>ze β L (List.take 32 C) (List.take 3 (List.drop 1 A)) D (fun E=>z E C)))
theorem zr1{β:Type}(ze:zI)(L:Nat)(z A:List V)(k:KK β):zq zie (zil ze L) L zfp [(V.agg z),(V.ptr 0 0)] [(.live true A)] k=ziR ze L z A (fun z A=>k (Qe z) [(.live true A)]):=by kernel_rfl
abbrev yW:=∀ (β:Type),Nat→List V→List V→(Int→List V→Option β)→Option β
def yi(β:Type)(L:Nat)(A C:List V)(z:Int→List V→Option β):Option β:=ziR ze L A C z
def zgb(yi:yW)(L:Nat)(β:Type)(args:List V)(bor:Bor)(k:KK β):Option β:=match args,bor with
 | [a0,a1],[(.live true z)]=>aG a0 fun A=>aP 0 0 a1 (yi β L A z (fun A z=>k (Qe A) [(.live true z)]))
 | _,_=>none
theorem zsj(L:Nat)(β:Type)(args:List V)(bor:Bor)(k:KK β)(r:β)(h:zgb yi L β args bor k=some r):zq zie (zil ze L) L zfp args bor k=some r:=by
 unfold zgb at h
 split at h
 ·have q:=yR h; clear h; obtain ⟨z,rfl,h⟩:=q
  have q:=zlS h; clear h; obtain ⟨rfl,h⟩:=q
  exact (zr1 ze L z _ k).trans h
 ·cases h
def zcu:CC:=(.seq (.reg [Qp 18 .lss (tq 17) (tq 16)]) (.seq (.cond (tq 18) .skip (.seq (.mask (bl 0 58) (bl 288230375077966399 58)) (.exit 0))) (.seq (.block 1 (.seq (.reg [Qo 19 5 (tq 15) (tq 17),Qk 20 5 (tq 19),oo 10 (.alloc true [(.sc (.int .i64 0)),(.sc (.int .u32 0)),(.sc (.int .u16 0)),(.sc (.int .u32 0)),(.sc (.int .u32 0))]),Qm 5 (tq 10) (tq 20)]) (.seq (.seq (.dreg [] [(Ql 21 0 (tq 10),q0),(Qj 22 1 (tq 21),q0),(Qh 23 (tq 7),q0),(Qp 24 .lss (tq 22) (tq 23),q0),(Qh 25 (tq 24),q0),(⟨(some 26),false,(some (25,false)),.fieldAddr 0 (tq 10)⟩,q0),(⟨(some 27),false,(some (25,false)),.load false 1 (tq 26) false⟩,ql 10 [] []),(⟨(some 28),false,(some (25,false)),.move (tq 2) false⟩,q0),(⟨(some 29),false,(some (25,false)),.load true 5 (tq 10) false⟩,ql 10 [] []),(⟨(some 30),false,(some (25,false)),.callv (tq 28) [(Qw 29)] []⟩,qc [10] []),(⟨(some 31),false,(some (25,false)),.bin .neq (tq 27) (tq 30)⟩,q0),(oo 32 (.pick (tq 25) (Qg true) (tq 31)),q0)]) (.cond (tq 32) (.seq (.reg [Qh 6 (Qg false)]) (.seq (.mask (bl 64 58) (bl 288230375077966463 58)) .ret)) .skip)) (.seq (.seq (.reg [Ql 33 0 (tq 10),Qj 34 1 (tq 33),Qh 35 (tq 7),Qp 36 .neq (tq 34) (tq 35)]) (.cond (tq 36) (.reg [Ql 37 0 (tq 10),Qj 38 1 (tq 37),Qh 7 (tq 38),Qh 8 (Qf 0)]) .skip)) (.seq (.reg [Qh 39 (tq 8),Qp 40 .add (tq 39) (Qf 1),Qh 8 (tq 40)]) (.seq (.reg [Ql 41 1 (tq 10),Ql 42 0 (tq 41),Qj 43 1 (tq 42),Ql 44 1 (tq 10),Ql 45 1 (tq 44),Qj 46 1 (tq 45),oo 47 (.build [(.sc (.int .u32 0)),(.sc (.int .u16 0))] [(0,1,(tq 43)),(1,1,(tq 46))]),oo 11 (.alloc true [(.sc (.int .u32 0)),(.sc (.int .u16 0))]),Qm 2 (tq 11) (tq 47)]) (.seq (.seq (.reg [Qh 48 (tq 8),Qp 49 .gtr (tq 48) (Qf 8),Qh 50 (tq 49),⟨(some 51),false,(some (50,false)),.move (tq 1) false⟩,⟨(some 52),false,(some (50,false)),.load true 2 (tq 11) false⟩,⟨(some 53),false,(some (50,false)),.mlook 4 false (.sc (.bool false)) (tq 51) (tq 52)⟩,oo 54 (.pick (tq 50) (Qg true) (tq 53))]) (.cond (tq 54) (.seq (.reg [Qh 6 (Qg false)]) (.seq (.mask (bl 64 58) (bl 288230375077966463 58)) .ret)) .skip)) (.reg [Qh 55 (tq 1),Qk 56 2 (tq 11),oz (.mput 4 (tq 55) (tq 56) (Qg true))])))))))) (.reg [Qp 57 .add (tq 17) (Qf 1),Qh 17 (tq 57)]))))
def zeF:CC:=(.seq (.reg [Qh 6 (Qg true)]) .ret)
def zbo:CF:=⟨58,[.tmp 6],(.seq (.reg [Qh 6 (Qg false)]) (.seq (.seq (.reg [Qh 12 (tq 0),Qr 13 (tq 12),Qp 14 .gtr (tq 13) (Qf 512)]) (.cond (tq 14) (.seq (.reg [Qh 6 (Qg false)]) .ret) .skip)) (.seq (.reg [Qh 7 (Qf (-1)),Qh 8 (Qf 0)]) (.seq (.seq (.reg [Qh 15 (tq 0),Qr 16 (tq 15),Qh 17 (Qf 0)]) (.block 0 (.loop (bl 229766 58) (bl 288230375077966783 58) zcu))) zeF))))⟩
def zm3:Hint:=⟨[],[],[none,none,none,some ((bl 229766 58),(bl 288230375077966783 58)),none,some ((bl 0 58),(bl 288230375077966399 58)),none,none,some ((bl 64 58),(bl 288230375077966463 58)),none,none,some ((bl 64 58),(bl 288230375077966463 58)),none],[],[],false,false,[]⟩
def zaB:Nat→Sh:=zY [(22,(.int .i64)),(27,(.int .i64)),(34,(.int .i64)),(38,(.int .i64)),(43,(.int .u32)),(46,(.int .u16)),(53,.bool)]
def zaA(yi:yW)(L:Nat):CBC:=(yA 296 (zgb yi L) noC)
def zd0:St→St:=zbn 2 (bl 229766 58) (bl 288230375077966783 58)
def zc3(D E:Int)(z:List (List V))(A C:Int)(F:List (V × V))(G:List V):St:=⟨(jn 1 ((V.mp 0)::((V.fn 296 [(V.ptr 1 0)])::(jn 4 ((Qe D)::((Qe E)::(jn 6 ((V.sl 5 z)::((Qe A)::((Qe C)::(jn 40 []))))))))))),((.mp F)::((.live true G)::(gn 58 [])))⟩
def zg5(z:Bool)(A:List (V × V))(C:List V):St:=⟨(jn 6 ((V.sc (.bool z))::(jn 51 []))),((.mp A)::((.live true C)::(gn 58 [])))⟩
def zhO(z:List (V × V))(A:List V):St:=⟨(jn 58 []),((.mp z)::((.live true A)::(gn 58 [])))⟩
abbrev zjW(β:Type):Type:=Int→Int→List (List V)→Int→Int→List (V × V)→List V→Option β
def zk4{β:Type}(yi:yW)(L:Nat)(C:List (List V))(D:List (V × V))(E:List V)(A:Bool→List (V × V)→List V→Option β)(z:zjW β):Option β:=ifb (decide (((List.length C:Nat):Int)>(512:Int))) (A false D E) (z (-1:Int) (0:Int) C ((List.length C:Nat):Int) (0:Int) D E)
theorem ztU{β:Type}(yi:yW)(L:Nat)(C:List (List V))(z:List (V × V))(A:List V)(k:KK β):zq zaB (zaA yi L) L zbo [(V.sl 5 C),(V.mp 0),(V.fn 296 [(V.ptr 1 0)])] [(.mp z),(.live true A)] k=zk4 yi L C z A (fun C z A=>k (V.sc (.bool C)) [(.mp z),(.live true A)]) (fun G I D E F z A=>zF (zl zaB (zaA yi L) 2 L zcu) zd0 L (zc3 G I D E F z A) (yB 0 (xQ (zl zaB (zaA yi L) 2 L zeF) (y8 2 (CF.res zbo) k)))):=by kernel_rfl
def zgi{β:Type}(yi:yW)(L:Nat)(O p8:Int)(I:List (List V))(J E:Int)(C:List (V × V))(M:List V)(z:Bool→List (V × V)→List V→Option β)(A:zjW β)(P:List (V × V)→List V→Option β):Option β:=ifb (decide (E<J)) (idx I E fun c0=>chk ((List.length (List.take 5 c0))=5∧0+5≤5) (lt (zg [(Qe (0:Int)),(Qc (0:Int)),(Qb (0:Int)),(Qc (0:Int)),(Qc (0:Int))] 0 (List.take 5 c0)) fun r1=>cI .i64 r1 0 fun v2=>ifb (decide (v2<O)) (z false C M) (cI .i64 r1 0 fun v3=>chk (0+5≤(List.length r1)) (yi β L (List.take 5 r1) M (fun v4 D=>chk ([(List.length D)]=[(List.length M)]) (ifb ((v3:Int) != v4) (z false C D) (cI .i64 r1 0 fun v6=>ifb ((v6:Int) != O) (cI .i64 r1 0 fun v7=>lt (IntKind.wrap .i64 (((0:Int):Int)+(1:Int))) fun Q=>cI .u32 r1 1 fun v9=>cI .u16 r1 2 fun R=>lt [(Qc v9),(Qb R)] fun F=>ifb (decide (Q>(8:Int))) (z false C D) (chk (0+2≤(List.length F)) (mAt 4 (V.agg (List.take 2 F)) C fun S=>aB (Option.getD S (V.sc (.bool false))) fun U=>ifb U (z false C D) (chk (0+2≤(List.length F)) (zrd 4 (V.agg (List.take 2 F)) (V.sc (.bool true)) C fun W=>lt (IntKind.wrap .i64 ((E:Int)+(1:Int))) fun X=>A v7 Q I J X W D))))) (lt (IntKind.wrap .i64 ((p8:Int)+(1:Int))) fun N=>cI .u32 r1 1 fun Y=>cI .u16 r1 2 fun Z=>lt [(Qc Y),(Qb Z)] fun G=>ifb (decide (N>(8:Int))) (z false C D) (chk (0+2≤(List.length G)) (mAt 4 (V.agg (List.take 2 G)) C fun aa=>aB (Option.getD aa (V.sc (.bool false))) fun ab=>ifb ab (z false C D) (chk (0+2≤(List.length G)) (zrd 4 (V.agg (List.take 2 G)) (V.sc (.bool true)) C fun ac=>lt (IntKind.wrap .i64 ((E:Int)+(1:Int))) fun ad=>A O N I J ad ac D)))))))))))) (P C M)
theorem zpe{β:Type}(yi:yW)(L:Nat)(F G:Int)(C:List (List V))(D E:Int)(z:List (V × V))(A:List V)(X:St→Option β)(K:KT β):zl zaB (zaA yi L) 2 L zcu (zc3 F G C D E z A) (zbQ zd0 X K)=zgi yi L F G C D E z A (fun I z A=>K .ret (zg5 I z A)) (fun F G C D E z A=>X (zc3 F G C D E z A)) (fun z A=>K (.exit 0) (zhO z A)):=by kernel_rfl
def zeQ{β:Type}(yi:yW)(L:Nat)(A:Bool)(C:List (V × V))(D:List V)(z:Bool→List (V × V)→List V→Option β):Option β:=z A C D
theorem znF{β:Type}(yi:yW)(L:Nat)(C:Bool)(z:List (V × V))(A:List V)(k:KK β):(yB 0 (xQ (zl zaB (zaA yi L) 2 L zeF) (y8 2 (CF.res zbo) k))) .ret (zg5 C z A)=zeQ yi L C z A (fun D z A=>k (V.sc (.bool D)) [(.mp z),(.live true A)]):=by kernel_rfl
def ze3{β:Type}(yi:yW)(L:Nat)(A:List (V × V))(C:List V)(z:Bool→List (V × V)→List V→Option β):Option β:=z true A C
theorem zoi{β:Type}(yi:yW)(L:Nat)(z:List (V × V))(A:List V)(k:KK β):(yB 0 (xQ (zl zaB (zaA yi L) 2 L zeF) (y8 2 (CF.res zbo) k))) (.exit 0) (zhO z A)=ze3 yi L z A (fun C z A=>k (V.sc (.bool C)) [(.mp z),(.live true A)]):=by kernel_rfl
def zbR{β:Type}(yi:yW)(L:Nat)(z:Bool→List (V × V)→List V→Option β)(A:List (V × V)→List V→Option β):Nat→Int→Int→List (List V)→Int→Int→List (V × V)→List V→Option β
 | 0,_,_,_,_,_,_,_=>none
 | n+1,F,G,C,D,E,I,J=>zgi yi L F G C D E I J z (fun F G C D E I J=>zbR yi L z A n F G C D E I J) A
theorem ziL{β:Type}(yi:yW)(L:Nat)(K:KT β):∀ (n:Nat) (F G:Int) (C:List (List V)) (D E:Int) (z:List (V × V)) (A:List V),zF (zl zaB (zaA yi L) 2 L zcu) zd0 n (zc3 F G C D E z A) K=zbR yi L (fun I z A=>K .ret (zg5 I z A)) (fun z A=>K (.exit 0) (zhO z A)) n F G C D E z A:=by
 intro n
 induction n with
 | zero=>intros; rfl
 | succ n ih=>
  intro F G C D E z A
  refine (zpe yi L F G C D E z A (fun σ=>zF (zl zaB (zaA yi L) 2 L zcu) zd0 n σ K) K).trans ?_
  simp only [ih]
  rfl
def zhd{β:Type}(yi:yW)(L:Nat)(G:List (List V))(A:List (V × V))(C:List V)(z:Bool→List (V × V)→List V→Option β):Option β:=zk4 yi L G A C z (fun I J D E F A C=>zbR yi L (fun M A C=>zeQ yi L M A C z) (fun A C=>ze3 yi L A C z) L I J D E F A C)
theorem ztF{β:Type}(yi:yW)(L:Nat)(z:List (List V))(A:List (V × V))(C:List V)(k:KK β):zq zaB (zaA yi L) L zbo [(V.sl 5 z),(V.mp 0),(V.fn 296 [(V.ptr 1 0)])] [(.mp A),(.live true C)] k=zhd yi L z A C (fun z A C=>k (V.sc (.bool z)) [(.mp A),(.live true C)]):=by
 refine (ztU yi L z A C k).trans ?_
 unfold zhd
 first
  | (simp only [ziL,znF,zoi]; done)
  | (simp only [ziL]; rfl)
abbrev zhH:=∀ (β:Type),Nat→List (List V)→List (V × V)→List V→(Bool→List (V × V)→List V→Option β)→Option β
def zS(β:Type)(L:Nat)(A:List (List V))(C:List (V × V))(D:List V)(z:Bool→List (V × V)→List V→Option β):Option β:=zhd yi L A C D z
def zhm(zS:zhH)(L:Nat)(β:Type)(args:List V)(bor:Bor)(k:KK β):Option β:=match args,bor with
 | [a0,a1,a2],[(.mp z),(.live true A)]=>aL 5 a0 fun C=>aM 0 a1 (aF 296 [(1,0)] a2 (zS β L C z A (fun C z A=>k (V.sc (.bool C)) [(.mp z),(.live true A)])))
 | _,_=>none
theorem ztP(L:Nat)(β:Type)(args:List V)(bor:Bor)(k:KK β)(r:β)(h:zhm zS L β args bor k=some r):zq zaB (zaA yi L) L zbo args bor k=some r:=by
 unfold zhm at h
 split at h
 ·have q:=zaP h; clear h; obtain ⟨z,rfl,h⟩:=q
  have q:=zDp h; clear h; obtain ⟨rfl,h⟩:=q
  have q:=zAr h; clear h; obtain ⟨rfl,h⟩:=q
  exact (ztF yi L z _ _ k).trans h
 ·cases h
def zf2:CF:=⟨10,[.tmp 4],(.seq (.reg [Qi 4 (.const (.gs 1 []))]) (.seq (.reg [Qh 5 (tq 0),Qh 6 (tq 1),Qu 7 .u64 (tq 6),Qs 8 192 [(Qw 7),((Qf 2),0)],Qs 9 191 [(Qw 5),(Qw 8)],Qi 4 (tq 9)]) .ret))⟩
def zmt:Hint:=⟨[(0,0),(1,5)],[],[none],[],[],false,false,[]⟩
def zjd:Nat→Sh:=zY []
def zi5(yC:zdJ)(xC:zdM)(L:Nat):CBC:=(yA 191 (zgW xC L) (yA 192 (zgO yC L) noC))
def zka{β:Type}(yC:zdJ)(xC:zdM)(L:Nat)(A:List (List V))(C:Int)(z:List (List V)→Option β):Option β:=lt (IntKind.wrap .u64 C) fun D=>yC β L D (2:Int) (fun E=>xC β L A E (fun F=>z F))
theorem zst{β:Type}(yC:zdJ)(xC:zdM)(L:Nat)(z:List (List V))(A:Int)(k:KK β):zq zjd (zi5 yC xC L) L zf2 [(V.sl 1 z),(Qb A)] [] k=zka yC xC L z A (fun z=>k (V.gs 1 z) []):=by kernel_rfl
abbrev zgt:=∀ (β:Type),Nat→List (List V)→Int→(List (List V)→Option β)→Option β
def zP(β:Type)(L:Nat)(A:List (List V))(C:Int)(z:List (List V)→Option β):Option β:=zka yC xC L A C z
def zgB(zP:zgt)(L:Nat)(β:Type)(args:List V)(bor:Bor)(k:KK β):Option β:=match args,bor with
 | [a0,a1],[]=>aL 1 a0 fun z=>aI .u16 a1 fun A=>zP β L z A (fun z=>k (V.gs 1 z) [])
 | _,_=>none
theorem zsR(L:Nat)(β:Type)(args:List V)(bor:Bor)(k:KK β)(r:β)(h:zgB zP L β args bor k=some r):zq zjd (zi5 yC xC L) L zf2 args bor k=some r:=by
 unfold zgB at h
 split at h
 ·have q:=zaP h; clear h; obtain ⟨z,rfl,h⟩:=q
  have q:=yy h; clear h; obtain ⟨A,rfl,h⟩:=q
  exact (zst yC xC L z A k).trans h
 ·cases h
def zdx:CF:=⟨32,[.tmp 4],(.seq (.reg [Qv 2 (tq 0),Qv 3 (tq 1),Qh 4 (Qf 0)]) (.seq (.reg [Qk 8 32 (tq 2),Qs 9 109 [(Qw 8)],oo 5 (.alloc true [(.sc (.int .u64 0)),(.sc (.int .u64 0))]),Qm 2 (tq 5) (tq 9)]) (.seq (.dreg [] [(Qk 10 2 (tq 5),ql 5 [3] [11]),(oo 11 (.buildSlice 1 1 [(.sc (.int .u8 0))] [(0,1,(.const (.sc (.int .u8 4))))]),qn [5,3] []),(Ql 12 0 (tq 3),q0),(Qj 13 1 (tq 12),ql 3 [5] [11]),(Qs 14 157 [(Qw 11),(Qw 13)],qc [5,3] []),(Ql 15 1 (tq 3),q0),(Qj 16 1 (tq 15),ql 3 [5] [11]),(Qs 17 205 [(Qw 14),(Qw 16)],qc [5] []),(Qs 18 105 [(Qw 10),(Qw 17)],q0),(oo 19 (.bin .rem (tq 18) (.const (.sc (.int .u64 4)))),q0),(Qh 6 (tq 19),q0)]) (.seq (.reg [oo 20 (.buildSlice 1 1 [(.sc (.int .u8 0))] [(0,1,(.const (.sc (.int .u8 3))))]),Qk 21 3 (tq 3),Qs 22 269 [(Qw 21)],Qs 23 157 [(Qw 20),(Qw 22)],Qh 24 (tq 6),Qu 25 .u32 (tq 24),Qs 26 157 [(Qw 23),(Qw 25)],Qh 7 (tq 26)]) (.seq (.reg [Qk 27 2 (tq 5),Qh 28 (tq 7),Qs 29 105 [(Qw 27),(Qw 28)],oo 30 (.bin .rem (tq 29) (.const (.sc (.int .u64 64)))),Qu 31 .i64 (tq 30),Qh 4 (tq 31)]) .ret)))))⟩
def ziM:Hint:=⟨[],[],[none],[],[],false,false,[]⟩
def zfC:Nat→Sh:=zY [(13,(.int .u32)),(16,(.int .u16))]
def zfv(xZ:zi9)(xr:zcz)(zP:zgt)(yU:ziX)(xo:zba)(L:Nat):CBC:=(yA 269 (zdI xo L) (yA 105 (zok yU L) (yA 205 (zgB zP L) (yA 157 (zeA xr L) (yA 109 (zoh xZ L) noC)))))
def zgn{β:Type}(xZ:zi9)(xr:zcz)(zP:zgt)(yU:ziX)(xo:zba)(L:Nat)(C z:List V)(A:Int→Option β):Option β:=chk (0+32≤(List.length C)) (xZ β L (List.take 32 C) (fun D=>chk ((List.length D)=2∧0+2≤2) (lt (zg [(Qd (0:Int)),(Qd (0:Int))] 0 D) fun r1=>chk (0+2≤(List.length r1)) (cI .u32 z 0 fun M=>xr β L (yf 1 1 [(Qa (4:Int))]) M (fun N=>cI .u16 z 1 fun O=>zP β L N O (fun P=>yU β L (List.take 2 r1) P (fun Q=>lt (Int.tmod Q (4:Int)) fun R=>chk (0+3≤(List.length z)) (xo β L (List.take 3 z) (fun S=>xr β L (yf 1 1 [(Qa (3:Int))]) S (fun U=>lt (IntKind.wrap .u32 R) fun E=>xr β L U E (fun F=>chk (0+2≤(List.length r1)) (yU β L (List.take 2 r1) F (fun G=>lt (Int.tmod G (64:Int)) fun I=>lt (IntKind.wrap .i64 I) fun J=>A J)))))))))))))
theorem zpc{β:Type}(xZ:zi9)(xr:zcz)(zP:zgt)(yU:ziX)(xo:zba)(L:Nat)(z A:List V)(k:KK β):zq zfC (zfv xZ xr zP yU xo L) L zdx [(V.agg z),(V.agg A)] [] k=zgn xZ xr zP yU xo L z A (fun z=>k (Qe z) []):=by kernel_rfl
abbrev zdZ:=∀ (β:Type),Nat→List V→List V→(Int→Option β)→Option β
def yE(β:Type)(L:Nat)(A C:List V)(z:Int→Option β):Option β:=zgn xZ xr zP yU xo L A C z
def zdU(yE:zdZ)(L:Nat)(β:Type)(args:List V)(bor:Bor)(k:KK β):Option β:=match args,bor with
 | [a0,a1],[]=>aG a0 fun z=>aG a1 fun A=>yE β L z A (fun z=>k (Qe z) [])
 | _,_=>none
theorem zpg(L:Nat)(β:Type)(args:List V)(bor:Bor)(k:KK β)(r:β)(h:zdU yE L β args bor k=some r):zq zfC (zfv xZ xr zP yU xo L) L zdx args bor k=some r:=by
 unfold zdU at h
 split at h
 ·have q:=yR h; clear h; obtain ⟨z,rfl,h⟩:=q
  have q:=yR h; clear h; obtain ⟨A,rfl,h⟩:=q
  exact (zpc xZ xr zP yU xo L z A k).trans h
 ·cases h
def zfi:CF:=⟨9,[.tmp 3],(.seq (.reg [Qv 2 (tq 0),Qh 3 (Qf 0)]) (.seq (.reg [Ql 4 0 (tq 1),Qk 5 32 (tq 4),Ql 6 1 (tq 2),Qk 7 3 (tq 6),Qs 8 299 [(Qw 5),(Qw 7)],Qh 3 (tq 8)]) .ret))⟩
def zlE:Hint:=⟨[],[],[none],[],[],false,false,[]⟩
def zig:Nat→Sh:=zY []
def zh9(yE:zdZ)(L:Nat):CBC:=(yA 299 (zdU yE L) noC)
def zjx{β:Type}(yE:zdZ)(L:Nat)(C A:List V)(z:Int→List V→Option β):Option β:=chk (0+32≤(List.length A)) (chk (1+3≤(List.length C)) (yE β L (List.take 32 A) (List.take 3 (List.drop 1 C)) (fun D=>z D A)))
theorem zrZ{β:Type}(yE:zdZ)(L:Nat)(z A:List V)(k:KK β):zq zig (zh9 yE L) L zfi [(V.agg z),(V.ptr 0 0)] [(.live true A)] k=zjx yE L z A (fun z A=>k (Qe z) [(.live true A)]):=by kernel_rfl
abbrev xX:=∀ (β:Type),Nat→List V→List V→(Int→List V→Option β)→Option β
def zi(β:Type)(L:Nat)(A C:List V)(z:Int→List V→Option β):Option β:=zjx yE L A C z
def zf1(zi:xX)(L:Nat)(β:Type)(args:List V)(bor:Bor)(k:KK β):Option β:=match args,bor with
 | [a0,a1],[(.live true z)]=>aG a0 fun A=>aP 0 0 a1 (zi β L A z (fun A z=>k (Qe A) [(.live true z)]))
 | _,_=>none
theorem zr8(L:Nat)(β:Type)(args:List V)(bor:Bor)(k:KK β)(r:β)(h:zf1 zi L β args bor k=some r):zq zig (zh9 yE L) L zfi args bor k=some r:=by
 unfold zf1 at h
 split at h
 ·have q:=yR h; clear h; obtain ⟨z,rfl,h⟩:=q
  have q:=zlS h; clear h; obtain ⟨rfl,h⟩:=q
  exact (zrZ yE L z _ k).trans h
 ·cases h
def zcR:CC:=(.seq (.reg [Qp 18 .lss (tq 17) (tq 16)]) (.seq (.cond (tq 18) .skip (.seq (.mask (bl 0 58) (bl 288230375077966399 58)) (.exit 0))) (.seq (.block 1 (.seq (.reg [Qo 19 5 (tq 15) (tq 17),Qk 20 5 (tq 19),oo 10 (.alloc true [(.sc (.int .i64 0)),(.sc (.int .u32 0)),(.sc (.int .u16 0)),(.sc (.int .u32 0)),(.sc (.int .u32 0))]),Qm 5 (tq 10) (tq 20)]) (.seq (.seq (.dreg [] [(Ql 21 0 (tq 10),q0),(Qj 22 1 (tq 21),q0),(Qh 23 (tq 7),q0),(Qp 24 .lss (tq 22) (tq 23),q0),(Qh 25 (tq 24),q0),(⟨(some 26),false,(some (25,false)),.fieldAddr 0 (tq 10)⟩,q0),(⟨(some 27),false,(some (25,false)),.load false 1 (tq 26) false⟩,ql 10 [] []),(⟨(some 28),false,(some (25,false)),.move (tq 2) false⟩,q0),(⟨(some 29),false,(some (25,false)),.load true 5 (tq 10) false⟩,ql 10 [] []),(⟨(some 30),false,(some (25,false)),.callv (tq 28) [(Qw 29)] []⟩,qc [10] []),(⟨(some 31),false,(some (25,false)),.bin .neq (tq 27) (tq 30)⟩,q0),(oo 32 (.pick (tq 25) (Qg true) (tq 31)),q0)]) (.cond (tq 32) (.seq (.reg [Qh 6 (Qg false)]) (.seq (.mask (bl 64 58) (bl 288230375077966463 58)) .ret)) .skip)) (.seq (.seq (.reg [Ql 33 0 (tq 10),Qj 34 1 (tq 33),Qh 35 (tq 7),Qp 36 .neq (tq 34) (tq 35)]) (.cond (tq 36) (.reg [Ql 37 0 (tq 10),Qj 38 1 (tq 37),Qh 7 (tq 38),Qh 8 (Qf 0)]) .skip)) (.seq (.reg [Qh 39 (tq 8),Qp 40 .add (tq 39) (Qf 1),Qh 8 (tq 40)]) (.seq (.reg [Ql 41 1 (tq 10),Ql 42 0 (tq 41),Qj 43 1 (tq 42),Ql 44 1 (tq 10),Ql 45 1 (tq 44),Qj 46 1 (tq 45),oo 47 (.build [(.sc (.int .u32 0)),(.sc (.int .u16 0))] [(0,1,(tq 43)),(1,1,(tq 46))]),oo 11 (.alloc true [(.sc (.int .u32 0)),(.sc (.int .u16 0))]),Qm 2 (tq 11) (tq 47)]) (.seq (.seq (.reg [Qh 48 (tq 8),Qp 49 .gtr (tq 48) (Qf 8),Qh 50 (tq 49),⟨(some 51),false,(some (50,false)),.move (tq 1) false⟩,⟨(some 52),false,(some (50,false)),.load true 2 (tq 11) false⟩,⟨(some 53),false,(some (50,false)),.mlook 4 false (.sc (.bool false)) (tq 51) (tq 52)⟩,oo 54 (.pick (tq 50) (Qg true) (tq 53))]) (.cond (tq 54) (.seq (.reg [Qh 6 (Qg false)]) (.seq (.mask (bl 64 58) (bl 288230375077966463 58)) .ret)) .skip)) (.reg [Qh 55 (tq 1),Qk 56 2 (tq 11),oz (.mput 4 (tq 55) (tq 56) (Qg true))])))))))) (.reg [Qp 57 .add (tq 17) (Qf 1),Qh 17 (tq 57)]))))
def zfy:CC:=(.seq (.reg [Qh 6 (Qg true)]) .ret)
def zcl:CF:=zbo
def y9:Nat→Sh:=zY [(22,(.int .i64)),(27,(.int .i64)),(34,(.int .i64)),(38,(.int .i64)),(43,(.int .u32)),(46,(.int .u16)),(53,.bool)]
def z9(zi:xX)(L:Nat):CBC:=(yA 298 (zf1 zi L) noC)
def zc4:St→St:=zbn 2 (bl 229766 58) (bl 288230375077966783 58)
def zco(D E:Int)(z:List (List V))(A C:Int)(F:List (V × V))(G:List V):St:=⟨(jn 1 ((V.mp 0)::((V.fn 298 [(V.ptr 1 0)])::(jn 4 ((Qe D)::((Qe E)::(jn 6 ((V.sl 5 z)::((Qe A)::((Qe C)::(jn 40 []))))))))))),((.mp F)::((.live true G)::(gn 58 [])))⟩
def zfd(z:Bool)(A:List (V × V))(C:List V):St:=⟨(jn 6 ((V.sc (.bool z))::(jn 51 []))),((.mp A)::((.live true C)::(gn 58 [])))⟩
def zfA(z:List (V × V))(A:List V):St:=⟨(jn 58 []),((.mp z)::((.live true A)::(gn 58 [])))⟩
abbrev zh5(β:Type):Type:=Int→Int→List (List V)→Int→Int→List (V × V)→List V→Option β
def zio{β:Type}(zi:xX)(L:Nat)(C:List (List V))(D:List (V × V))(E:List V)(A:Bool→List (V × V)→List V→Option β)(z:zh5 β):Option β:=ifb (decide (((List.length C:Nat):Int)>(512:Int))) (A false D E) (z (-1:Int) (0:Int) C ((List.length C:Nat):Int) (0:Int) D E)
theorem zry{β:Type}(zi:xX)(L:Nat)(C:List (List V))(z:List (V × V))(A:List V)(k:KK β):zq y9 (z9 zi L) L zcl [(V.sl 5 C),(V.mp 0),(V.fn 298 [(V.ptr 1 0)])] [(.mp z),(.live true A)] k=zio zi L C z A (fun C z A=>k (V.sc (.bool C)) [(.mp z),(.live true A)]) (fun G I D E F z A=>zF (zl y9 (z9 zi L) 2 L zcR) zc4 L (zco G I D E F z A) (yB 0 (xQ (zl y9 (z9 zi L) 2 L zfy) (y8 2 (CF.res zcl) k)))):=by kernel_rfl
def zeP{β:Type}(zi:xX)(L:Nat)(O p8:Int)(I:List (List V))(J E:Int)(C:List (V × V))(M:List V)(z:Bool→List (V × V)→List V→Option β)(A:zh5 β)(P:List (V × V)→List V→Option β):Option β:=ifb (decide (E<J)) (idx I E fun c0=>chk ((List.length (List.take 5 c0))=5∧0+5≤5) (lt (zg [(Qe (0:Int)),(Qc (0:Int)),(Qb (0:Int)),(Qc (0:Int)),(Qc (0:Int))] 0 (List.take 5 c0)) fun r1=>cI .i64 r1 0 fun v2=>ifb (decide (v2<O)) (z false C M) (cI .i64 r1 0 fun v3=>chk (0+5≤(List.length r1)) (zi β L (List.take 5 r1) M (fun v4 D=>chk ([(List.length D)]=[(List.length M)]) (ifb ((v3:Int) != v4) (z false C D) (cI .i64 r1 0 fun v6=>ifb ((v6:Int) != O) (cI .i64 r1 0 fun v7=>lt (IntKind.wrap .i64 (((0:Int):Int)+(1:Int))) fun Q=>cI .u32 r1 1 fun v9=>cI .u16 r1 2 fun R=>lt [(Qc v9),(Qb R)] fun F=>ifb (decide (Q>(8:Int))) (z false C D) (chk (0+2≤(List.length F)) (mAt 4 (V.agg (List.take 2 F)) C fun S=>aB (Option.getD S (V.sc (.bool false))) fun U=>ifb U (z false C D) (chk (0+2≤(List.length F)) (zrd 4 (V.agg (List.take 2 F)) (V.sc (.bool true)) C fun W=>lt (IntKind.wrap .i64 ((E:Int)+(1:Int))) fun X=>A v7 Q I J X W D))))) (lt (IntKind.wrap .i64 ((p8:Int)+(1:Int))) fun N=>cI .u32 r1 1 fun Y=>cI .u16 r1 2 fun Z=>lt [(Qc Y),(Qb Z)] fun G=>ifb (decide (N>(8:Int))) (z false C D) (chk (0+2≤(List.length G)) (mAt 4 (V.agg (List.take 2 G)) C fun aa=>aB (Option.getD aa (V.sc (.bool false))) fun ab=>ifb ab (z false C D) (chk (0+2≤(List.length G)) (zrd 4 (V.agg (List.take 2 G)) (V.sc (.bool true)) C fun ac=>lt (IntKind.wrap .i64 ((E:Int)+(1:Int))) fun ad=>A O N I J ad ac D)))))))))))) (P C M)
theorem znA{β:Type}(zi:xX)(L:Nat)(F G:Int)(C:List (List V))(D E:Int)(z:List (V × V))(A:List V)(X:St→Option β)(K:KT β):zl y9 (z9 zi L) 2 L zcR (zco F G C D E z A) (zbQ zc4 X K)=zeP zi L F G C D E z A (fun I z A=>K .ret (zfd I z A)) (fun F G C D E z A=>X (zco F G C D E z A)) (fun z A=>K (.exit 0) (zfA z A)):=by kernel_rfl
def zdP{β:Type}(zi:xX)(L:Nat)(A:Bool)(C:List (V × V))(D:List V)(z:Bool→List (V × V)→List V→Option β):Option β:=z A C D
theorem zlM{β:Type}(zi:xX)(L:Nat)(C:Bool)(z:List (V × V))(A:List V)(k:KK β):(yB 0 (xQ (zl y9 (z9 zi L) 2 L zfy) (y8 2 (CF.res zcl) k))) .ret (zfd C z A)=zdP zi L C z A (fun D z A=>k (V.sc (.bool D)) [(.mp z),(.live true A)]):=by kernel_rfl
def zd6{β:Type}(zi:xX)(L:Nat)(A:List (V × V))(C:List V)(z:Bool→List (V × V)→List V→Option β):Option β:=z true A C
theorem zl7{β:Type}(zi:xX)(L:Nat)(z:List (V × V))(A:List V)(k:KK β):(yB 0 (xQ (zl y9 (z9 zi L) 2 L zfy) (y8 2 (CF.res zcl) k))) (.exit 0) (zfA z A)=zd6 zi L z A (fun C z A=>k (V.sc (.bool C)) [(.mp z),(.live true A)]):=by kernel_rfl
def zbf{β:Type}(zi:xX)(L:Nat)(z:Bool→List (V × V)→List V→Option β)(A:List (V × V)→List V→Option β):Nat→Int→Int→List (List V)→Int→Int→List (V × V)→List V→Option β
 | 0,_,_,_,_,_,_,_=>none
 | n+1,F,G,C,D,E,I,J=>zeP zi L F G C D E I J z (fun F G C D E I J=>zbf zi L z A n F G C D E I J) A
theorem zg3{β:Type}(zi:xX)(L:Nat)(K:KT β):∀ (n:Nat) (F G:Int) (C:List (List V)) (D E:Int) (z:List (V × V)) (A:List V),zF (zl y9 (z9 zi L) 2 L zcR) zc4 n (zco F G C D E z A) K=zbf zi L (fun I z A=>K .ret (zfd I z A)) (fun z A=>K (.exit 0) (zfA z A)) n F G C D E z A:=by
 intro n
 induction n with
 | zero=>intros; rfl
 | succ n ih=>
  intro F G C D E z A
  refine (znA zi L F G C D E z A (fun σ=>zF (zl y9 (z9 zi L) 2 L zcR) zc4 n σ K) K).trans ?_
  simp only [ih]
  rfl
def zfh{β:Type}(zi:xX)(L:Nat)(G:List (List V))(A:List (V × V))(C:List V)(z:Bool→List (V × V)→List V→Option β):Option β:=zio zi L G A C z (fun I J D E F A C=>zbf zi L (fun M A C=>zdP zi L M A C z) (fun A C=>zd6 zi L A C z) L I J D E F A C)
theorem zrx{β:Type}(zi:xX)(L:Nat)(z:List (List V))(A:List (V × V))(C:List V)(k:KK β):zq y9 (z9 zi L) L zcl [(V.sl 5 z),(V.mp 0),(V.fn 298 [(V.ptr 1 0)])] [(.mp A),(.live true C)] k=zfh zi L z A C (fun z A C=>k (V.sc (.bool z)) [(.mp A),(.live true C)]):=by
 refine (zry zi L z A C k).trans ?_
 unfold zfh
 first
  | (simp only [zg3,zlM,zl7]; done)
  | (simp only [zg3]; rfl)
abbrev zfn:=∀ (β:Type),Nat→List (List V)→List (V × V)→List V→(Bool→List (V × V)→List V→Option β)→Option β
def xJ(β:Type)(L:Nat)(A:List (List V))(C:List (V × V))(D:List V)(z:Bool→List (V × V)→List V→Option β):Option β:=zfh zi L A C D z
def zfk(xJ:zfn)(L:Nat)(β:Type)(args:List V)(bor:Bor)(k:KK β):Option β:=match args,bor with
 | [a0,a1,a2],[(.mp z),(.live true A)]=>aL 5 a0 fun C=>aM 0 a1 (aF 298 [(1,0)] a2 (xJ β L C z A (fun C z A=>k (V.sc (.bool C)) [(.mp z),(.live true A)])))
 | _,_=>none
theorem zrc(L:Nat)(β:Type)(args:List V)(bor:Bor)(k:KK β)(r:β)(h:zfk xJ L β args bor k=some r):zq y9 (z9 zi L) L zcl args bor k=some r:=by
 unfold zfk at h
 split at h
 ·have q:=zaP h; clear h; obtain ⟨z,rfl,h⟩:=q
  have q:=zDp h; clear h; obtain ⟨rfl,h⟩:=q
  have q:=zAr h; clear h; obtain ⟨rfl,h⟩:=q
  exact (zrx zi L z _ _ k).trans h
 ·cases h
def zgw:CF:=⟨17,[.tmp 2],(.seq (.reg [Qv 1 (tq 0),Qh 2 (Qg false)]) (.seq (.reg [oo 4 (.makeMap),Qh 3 (tq 4)]) (.seq (.reg [Ql 5 32 (tq 1),Qj 6 1 (tq 5),Qh 7 (tq 3),oo 8 (.makeFunc 296 [(tq 1)]),Qs 9 295 [(Qw 6),(Qw 7),(Qw 8)],Qh 10 (tq 9),⟨(some 11),false,(some (10,true)),.fieldAddr 33 (tq 1)⟩,⟨(some 12),false,(some (10,true)),.load false 1 (tq 11) false⟩,⟨(some 13),false,(some (10,true)),.move (tq 3) false⟩,⟨(some 14),false,(some (10,true)),.makeFunc 298 [(tq 1)]⟩,⟨(some 15),false,(some (10,true)),.call 295 [(Qw 12),(Qw 13),(Qw 14)] []⟩,oo 16 (.pick (tq 10) (tq 15) (Qg false)),Qh 2 (tq 16)]) .ret)))⟩
def zm8:Hint:=⟨[(0,0)],[],[none],[],[],false,false,[]⟩
def zj4:Nat→Sh:=zY [(6,(.sl 5)),(12,(.sl 5))]
def zkp(zS:zhH)(xJ:zfn)(L:Nat):CBC:=(zDf 295 [6,12,398,22,20] (zfk xJ L) (zDf 295 [6,12,396,22,20] (zhm zS L) noC))
def zlh{β:Type}(zS:zhH)(xJ:zfn)(L:Nat)(C:List V)(z:Bool→Option β):Option β:=cLd 5 C 32 fun D=>zS β L D ([]:List (V × V)) C (fun E F A=>chk ([0,(List.length A)]=[0,(List.length C)]) (ifb E (cLd 5 A 33 fun G=>xJ β L G F A (fun I M J=>chk ([0,(List.length J)]=[0,(List.length A)]) (z I))) (z false)))
theorem ztQ{β:Type}(zS:zhH)(xJ:zfn)(L:Nat)(z:List V)(k:KK β):zq zj4 (zkp zS xJ L) L zgw [(V.agg z)] [] k=zlh zS xJ L z (fun z=>k (V.sc (.bool z)) []):=by kernel_rfl
abbrev zhC:=∀ (β:Type),Nat→List V→(Bool→Option β)→Option β
def zR(β:Type)(L:Nat)(A:List V)(z:Bool→Option β):Option β:=zlh zS xJ L A z
def zhz(zR:zhC)(L:Nat)(β:Type)(args:List V)(bor:Bor)(k:KK β):Option β:=match args,bor with
 | [a0],[]=>aG a0 fun z=>zR β L z (fun z=>k (V.sc (.bool z)) [])
 | _,_=>none
theorem ztO(L:Nat)(β:Type)(args:List V)(bor:Bor)(k:KK β)(r:β)(h:zhz zR L β args bor k=some r):zq zj4 (zkp zS xJ L) L zgw args bor k=some r:=by
 unfold zhz at h
 split at h
 ·have q:=yR h; clear h; obtain ⟨z,rfl,h⟩:=q
  exact (ztQ zS xJ L z k).trans h
 ·cases h
def za4:CF:=⟨8,[.tmp 2],(.seq (.reg [Qi 2 (.const (.gs 5 []))]) (.fork (.reg [Qh 3 (tq 0),oo 4 (.nilT false (tq 3))]) (tq 4) (.seq (.reg [oo 2 (.nilS 5 7)]) (.seq (.mask (bl 4 8) (bl 128 8)) .ret)) (.seq (.reg [⟨(some 5),true,none,.buildSlice 5 0 [(.sc (.int .i64 0)),(.sc (.int .u32 0)),(.sc (.int .u16 0)),(.sc (.int .u32 0)),(.sc (.int .u32 0))] []⟩,Qh 6 (tq 0),⟨(some 7),true,none,.append 5 24 (tq 5) (tq 6)⟩,Qi 2 (tq 7)]) (.seq (.mask (bl 4 8) (bl 128 8)) .ret))))⟩
def zdD:Hint:=⟨[(0,0),(2,0),(3,3)],[(3,0),(3,2)],[none,some ((bl 4 8),(bl 128 8)),some ((bl 4 8),(bl 128 8))],[],[(2,0,[7])],false,false,[]⟩
def zb3:Nat→Sh:=zY []
def zb4(L:Nat):CBC:=noC
def zcn{β:Type}(L:Nat)(C:List (List V))(z:List (List V)→Option β):Option β:=lc C (z ([]:List (List V))) (fun h0 A=>chk ((0+List.length (h0::A))*24≤xp∧0+List.length (h0::A)≤xp) (chk ((List.length (h0::A))≠0∨(List.length (List.flatten (h0::A)))=0) (z (yf 5 (List.length (h0::A)) (List.flatten (h0::A))))))
theorem zib{β:Type}(L:Nat)(z:List (List V))(k:KK β):zq zb3 (zb4 L) L za4 [(V.sl 5 z)] [] k=zcn L z (fun z=>k (V.fr 5 z) []):=by kernel_rfl
abbrev zbd:=∀ (β:Type),Nat→List (List V)→(List (List V)→Option β)→Option β
def yn(β:Type)(L:Nat)(A:List (List V))(z:List (List V)→Option β):Option β:=zcn L A z
def zbg(yn:zbd)(L:Nat)(β:Type)(args:List V)(bor:Bor)(k:KK β):Option β:=match args,bor with
 | [a0],[]=>aL 5 a0 fun z=>yn β L z (fun z=>k (V.fr 5 z) [])
 | _,_=>none
theorem zik(L:Nat)(β:Type)(args:List V)(bor:Bor)(k:KK β)(r:β)(h:zbg yn L β args bor k=some r):zq zb3 (zb4 L) L za4 args bor k=some r:=by
 unfold zbg at h
 split at h
 ·have q:=zaP h; clear h; obtain ⟨z,rfl,h⟩:=q
  exact (zib L z k).trans h
 ·cases h
def zfP:CF:=⟨12,[.cellS 2 34 false],(.seq (.reg [oo 1 (.box false (tq 0)),oo 2 (.alloc false (rp 32 (.sc (.int .u8 0)) (rp 2 (.gs 5 []) [])))]) (.seq (.reg [Ql 3 32 (tq 1),Qj 4 1 (tq 3),⟨(some 5),true,none,.call 401 [(Qw 4)] []⟩,Ql 6 32 (tq 1),Qm 1 (tq 6) (tq 5)]) (.seq (.reg [Ql 7 33 (tq 1),Qj 8 1 (tq 7),⟨(some 9),true,none,.call 401 [(Qw 8)] []⟩,Ql 10 33 (tq 1),Qm 1 (tq 10) (tq 9)]) (.seq (.reg [oo 11 (.load true 34 (tq 1) true),Qm 34 (tq 2) (tq 11)]) .ret))))⟩
def zmB:Hint:=⟨[(3,0)],[(1,2),(2,2)],[none],[],[],false,true,[]⟩
def zjn:Nat→Sh:=zY [(1,(.row [(.int .u8),(.int .u8),(.int .u8),(.int .u8),(.int .u8),(.int .u8),(.int .u8),(.int .u8),(.int .u8),(.int .u8),(.int .u8),(.int .u8),(.int .u8),(.int .u8),(.int .u8),(.int .u8),(.int .u8),(.int .u8),(.int .u8),(.int .u8),(.int .u8),(.int .u8),(.int .u8),(.int .u8),(.int .u8),(.int .u8),(.int .u8),(.int .u8),(.int .u8),(.int .u8),(.int .u8),(.int .u8),(.sl 5),(.sl 5)]))]
def zjD(yn:zbd)(L:Nat):CBC:=(yA 401 (zbg yn L) noC)
abbrev zht(β:Type):Type:=Int→Int→Int→Int→Int→Int→Int→Int→Int→Int→Int→Int→Int→Int→Int→Int→Int→Int→Int→Int→Int→Int→Int→Int→Int→Int→Int→Int→Int→Int→Int→Int→Nat→Nat→List V→List V→Option β
def zkh{β:Type}(yn:zbd)(L:Nat)(z:List V)(A:zht β):Option β:=chk (List.length z=34) (cI .u8 z 0 fun v0=>cI .u8 z 1 fun v1=>cI .u8 z 2 fun v2=>cI .u8 z 3 fun v3=>cI .u8 z 4 fun v4=>cI .u8 z 5 fun v5=>cI .u8 z 6 fun v6=>cI .u8 z 7 fun v7=>cI .u8 z 8 fun v8=>cI .u8 z 9 fun v9=>cI .u8 z 10 fun E=>cI .u8 z 11 fun F=>cI .u8 z 12 fun G=>cI .u8 z 13 fun I=>cI .u8 z 14 fun J=>cI .u8 z 15 fun M=>cI .u8 z 16 fun N=>cI .u8 z 17 fun O=>cI .u8 z 18 fun P=>cI .u8 z 19 fun Q=>cI .u8 z 20 fun R=>cI .u8 z 21 fun S=>cI .u8 z 22 fun U=>cI .u8 z 23 fun W=>cI .u8 z 24 fun X=>cI .u8 z 25 fun Y=>cI .u8 z 26 fun Z=>cI .u8 z 27 fun aa=>cI .u8 z 28 fun ab=>cI .u8 z 29 fun ac=>cI .u8 z 30 fun ad=>cI .u8 z 31 fun ae=>cL 5 z 32 fun af=>cL 5 z 33 fun ag=>yn β L af (fun C=>yn β L ag (fun D=>A v0 v1 v2 v3 v4 v5 v6 v7 v8 v9 E F G I J M N O P Q R S U W X Y Z aa ab ac ad ae (List.length C) (List.length D) (List.flatten C) (List.flatten D))))
theorem zs7{β:Type}(yn:zbd)(L:Nat)(p0:List V)(k:KK β):zq zjn (zjD yn L) L zfP [(V.agg p0)] [] k=zkh yn L p0 (fun ad ae af ag ah ai aj ak al am C D E F G I J M N O P Q R S U W X Y Z aa ab ac z A b0 b1=>k (V.st [(Qa ad),(Qa ae),(Qa af),(Qa ag),(Qa ah),(Qa ai),(Qa aj),(Qa ak),(Qa al),(Qa am),(Qa C),(Qa D),(Qa E),(Qa F),(Qa G),(Qa I),(Qa J),(Qa M),(Qa N),(Qa O),(Qa P),(Qa Q),(Qa R),(Qa S),(Qa U),(Qa W),(Qa X),(Qa Y),(Qa Z),(Qa aa),(Qa ab),(Qa ac),(V.own 0 0 z 5),(V.own 1 0 A 5)]) [(.live true b0),(.live true b1)]):=by kernel_rfl
abbrev zgu:=∀ (β:Type),Nat→List V→(Int→Int→Int→Int→Int→Int→Int→Int→Int→Int→Int→Int→Int→Int→Int→Int→Int→Int→Int→Int→Int→Int→Int→Int→Int→Int→Int→Int→Int→Int→Int→Int→Nat→Nat→List V→List V→Option β)→Option β
def yP(β:Type)(L:Nat)(A:List V)(z:zht β):Option β:=zkh yn L A z
def zgv(yP:zgu)(L:Nat)(β:Type)(args:List V)(bor:Bor)(k:KK β):Option β:=match args,bor with
 | [a0],[]=>aG a0 fun p0=>yP β L p0 (fun ad ae af ag ah ai aj ak al am C D E F G I J M N O P Q R S U W X Y Z aa ab ac z A b0 b1=>k (V.st [(Qa ad),(Qa ae),(Qa af),(Qa ag),(Qa ah),(Qa ai),(Qa aj),(Qa ak),(Qa al),(Qa am),(Qa C),(Qa D),(Qa E),(Qa F),(Qa G),(Qa I),(Qa J),(Qa M),(Qa N),(Qa O),(Qa P),(Qa Q),(Qa R),(Qa S),(Qa U),(Qa W),(Qa X),(Qa Y),(Qa Z),(Qa aa),(Qa ab),(Qa ac),(V.own 0 0 z 5),(V.own 1 0 A 5)]) [(.live true b0),(.live true b1)])
 | _,_=>none
theorem zsO(L:Nat)(β:Type)(args:List V)(bor:Bor)(k:KK β)(r:β)(h:zgv yP L β args bor k=some r):zq zjn (zjD yn L) L zfP args bor k=some r:=by
 unfold zgv at h
 split at h
 ·have q:=yR h; clear h; obtain ⟨z,rfl,h⟩:=q
  exact (zs7 yn L z k).trans h
 ·cases h
def zhy:CF:=⟨17,[.tmp 4],(.seq (.reg [Qv 2 (tq 0),Qv 3 (tq 1),Qh 4 (Qg false)]) (.seq (.reg [Ql 5 0 (tq 2),Qj 6 1 (tq 5),Ql 7 0 (tq 3),Qj 8 1 (tq 7),Qp 9 .eql (tq 6) (tq 8),Qh 10 (tq 9),⟨(some 11),false,(some (10,true)),.fieldAddr 1 (tq 2)⟩,⟨(some 12),false,(some (10,true)),.load false 1 (tq 11) false⟩,⟨(some 13),false,(some (10,true)),.fieldAddr 1 (tq 3)⟩,⟨(some 14),false,(some (10,true)),.load false 1 (tq 13) false⟩,⟨(some 15),false,(some (10,true)),.bin .eql (tq 12) (tq 14)⟩,oo 16 (.pick (tq 10) (tq 15) (Qg false)),Qh 4 (tq 16)]) .ret))⟩
def zoe:Hint:=⟨[],[],[none],[],[],false,false,[]⟩
def zle:Nat→Sh:=zY [(6,(.int .u32)),(8,(.int .u32)),(12,(.int .u16)),(14,(.int .u16))]
def zli(L:Nat):CBC:=noC
def zlT{β:Type}(L:Nat)(A C:List V)(z:Bool→Option β):Option β:=cI .u32 A 0 fun D=>cI .u32 C 0 fun E=>ifb ((D:Int)==E) (cI .u16 A 1 fun F=>cI .u16 C 1 fun G=>z ((F:Int)==G)) (z false)
theorem zuk{β:Type}(L:Nat)(z A:List V)(k:KK β):zq zle (zli L) L zhy [(V.agg z),(V.agg A)] [] k=zlT L z A (fun z=>k (V.sc (.bool z)) []):=by kernel_rfl
abbrev ziE:=∀ (β:Type),Nat→List V→List V→(Bool→Option β)→Option β
def xW(β:Type)(L:Nat)(A C:List V)(z:Bool→Option β):Option β:=zlT L A C z
def ziN(xW:ziE)(L:Nat)(β:Type)(args:List V)(bor:Bor)(k:KK β):Option β:=match args,bor with
 | [a0,a1],[]=>aG a0 fun z=>aG a1 fun A=>xW β L z A (fun z=>k (V.sc (.bool z)) [])
 | _,_=>none
theorem zuF(L:Nat)(β:Type)(args:List V)(bor:Bor)(k:KK β)(r:β)(h:ziN xW L β args bor k=some r):zq zle (zli L) L zhy args bor k=some r:=by
 unfold ziN at h
 split at h
 ·have q:=yR h; clear h; obtain ⟨z,rfl,h⟩:=q
  have q:=yR h; clear h; obtain ⟨A,rfl,h⟩:=q
  exact (zuk L z A k).trans h
 ·cases h
def zf6:CF:=⟨8,[.tmp 3],(.seq (.reg [Qv 2 (tq 0),Qh 3 (Qg false)]) (.seq (.reg [Ql 4 1 (tq 2),Qk 5 3 (tq 4),Qk 6 3 (tq 1),Qs 7 404 [(Qw 5),(Qw 6)],Qh 3 (tq 7)]) .ret))⟩
def zl5:Hint:=⟨[],[],[none],[],[],false,false,[]⟩
def zjj:Nat→Sh:=zY []
def zjy(xW:ziE)(L:Nat):CBC:=(yA 404 (ziN xW L) noC)
def zkj{β:Type}(xW:ziE)(L:Nat)(C A:List V)(z:Bool→List V→Option β):Option β:=chk (1+3≤(List.length C)) (chk (0+3≤(List.length A)) (xW β L (List.take 3 (List.drop 1 C)) (List.take 3 A) (fun D=>z D A)))
theorem zsp{β:Type}(xW:ziE)(L:Nat)(z A:List V)(k:KK β):zq zjj (zjy xW L) L zf6 [(V.agg z),(V.ptr 0 0)] [(.live true A)] k=zkj xW L z A (fun z A=>k (V.sc (.bool z)) [(.live true A)]):=by kernel_rfl
abbrev y6:=∀ (β:Type),Nat→List V→List V→(Bool→List V→Option β)→Option β
def yj(β:Type)(L:Nat)(A C:List V)(z:Bool→List V→Option β):Option β:=zkj xW L A C z
def zgz(yj:y6)(L:Nat)(β:Type)(args:List V)(bor:Bor)(k:KK β):Option β:=match args,bor with
 | [a0,a1],[(.live true z)]=>aG a0 fun A=>aP 0 0 a1 (yj β L A z (fun A z=>k (V.sc (.bool A)) [(.live true z)]))
 | _,_=>none
theorem zsx(L:Nat)(β:Type)(args:List V)(bor:Bor)(k:KK β)(r:β)(h:zgz yj L β args bor k=some r):zq zjj (zjy xW L) L zf6 args bor k=some r:=by
 unfold zgz at h
 split at h
 ·have q:=yR h; clear h; obtain ⟨z,rfl,h⟩:=q
  have q:=zlS h; clear h; obtain ⟨rfl,h⟩:=q
  exact (zsp xW L z _ k).trans h
 ·cases h
def zZ:CC:=(.seq (.reg [Qp 9 .lss (tq 8) (tq 7)]) (.seq (.cond (tq 9) .skip (.seq (.mask (bl 0 19) (bl 458703 19)) (.exit 0))) (.seq (.block 1 (.seq (.reg [Qh 10 (tq 8),Qh 5 (tq 10)]) (.seq (.reg [Qh 11 (tq 1),Qh 12 (tq 0),Qh 13 (tq 5),Qo 14 5 (tq 12) (tq 13),Qk 15 5 (tq 14),oo 16 (.callv (tq 11) [(Qw 15)] [])]) (.cond (tq 16) (.seq (.reg [Qh 17 (tq 5),Qh 4 (tq 17)]) (.seq (.mask (bl 16 19) (bl 458719 19)) .ret)) .skip)))) (.reg [Qp 18 .add (tq 8) (Qf 1),Qh 8 (tq 18)]))))
def zaz:CC:=(.seq (.reg [Qh 4 (Qf (-1))]) .ret)
def yH:CF:=⟨19,[.tmp 4],(.seq (.reg [Qh 4 (Qf 0)]) (.seq (.seq (.reg [Qh 6 (tq 0),Qr 7 (tq 6),Qh 8 (Qf 0)]) (.block 0 (.loop (bl 387 19) (bl 458703 19) zZ))) zaz))⟩
def zcW:Hint:=⟨[],[],[none,some ((bl 387 19),(bl 458703 19)),none,some ((bl 0 19),(bl 458703 19)),none,none,some ((bl 16 19),(bl 458719 19)),none],[],[],false,false,[]⟩
def xw:Nat→Sh:=zY []
def yw(yj:y6)(L:Nat):CBC:=(yA 403 (zgz yj L) noC)
def zaq:St→St:=zbn 2 (bl 387 19) (bl 458703 19)
def zab(z:Nat)(A C:Int)(D E:List V):St:=⟨((V.own 0 0 z 5)::((V.fn 403 [(V.ptr 1 0)])::(jn 5 ((Qe A)::((Qe C)::(jn 10 [])))))),((.live true D)::((.live true E)::(gn 19 [])))⟩
def zbb(z:Int)(A C:List V):St:=⟨(jn 4 ((Qe z)::(jn 14 []))),((.live true A)::((.live true C)::(gn 19 [])))⟩
def zbj(z A:List V):St:=⟨(jn 19 []),((.live true z)::((.live true A)::(gn 19 [])))⟩
def zbJ{β:Type}(yj:y6)(L:Nat)(A:Nat)(C D:List V)(z:Nat→Int→Int→List V→List V→Option β):Option β:=z A ((A:Nat):Int) (0:Int) C D
theorem zgV{β:Type}(yj:y6)(L:Nat)(z:Nat)(A C:List V)(k:KK β):zq xw (yw yj L) L yH [(V.own 0 0 z 5),(V.fn 403 [(V.ptr 1 0)])] [(.live true A),(.live true C)] k=zbJ yj L z A C (fun z D E A C=>zF (zl xw (yw yj L) 2 L zZ) zaq L (zab z D E A C) (yB 0 (xQ (zl xw (yw yj L) 2 L zaz) (y8 2 (CF.res yH) k)))):=by kernel_rfl
def zbk{β:Type}(yj:y6)(L:Nat)(E:Nat)(J z:Int)(C F:List V)(D:Int→List V→List V→Option β)(A:Nat→Int→Int→List V→List V→Option β)(G:List V→List V→Option β):Option β:=ifb (decide (z<J)) (chk (0≤z∧z<((E:Nat):Int)) (chk ((0+((Int.toNat z)*5))+5≤(List.length C)) (yj β L (List.take 5 (List.drop (0+((Int.toNat z)*5)) C)) F (fun M I=>chk ([(List.length I)]=[(List.length F)]) (ifb M (D z C I) (lt (IntKind.wrap .i64 ((z:Int)+(1:Int))) fun N=>A E J N C I)))))) (G C F)
theorem zfB{β:Type}(yj:y6)(L:Nat)(C:Nat)(D E:Int)(z A:List V)(X:St→Option β)(K:KT β):zl xw (yw yj L) 2 L zZ (zab C D E z A) (zbQ zaq X K)=zbk yj L C D E z A (fun F z A=>K .ret (zbb F z A)) (fun C D E z A=>X (zab C D E z A)) (fun z A=>K (.exit 0) (zbj z A)):=by kernel_rfl
def zcv{β:Type}(yj:y6)(L:Nat)(A:Int)(C D:List V)(z:Int→List V→List V→Option β):Option β:=z A C D
theorem zeX{β:Type}(yj:y6)(L:Nat)(C:Int)(z A:List V)(k:KK β):(yB 0 (xQ (zl xw (yw yj L) 2 L zaz) (y8 2 (CF.res yH) k))) .ret (zbb C z A)=zcv yj L C z A (fun D z A=>k (Qe D) [(.live true z),(.live true A)]):=by kernel_rfl
def zcF{β:Type}(yj:y6)(L:Nat)(A C:List V)(z:Int→List V→List V→Option β):Option β:=z (-1:Int) A C
theorem ze9{β:Type}(yj:y6)(L:Nat)(z A:List V)(k:KK β):(yB 0 (xQ (zl xw (yw yj L) 2 L zaz) (y8 2 (CF.res yH) k))) (.exit 0) (zbj z A)=zcF yj L z A (fun C z A=>k (Qe C) [(.live true z),(.live true A)]):=by kernel_rfl
def z6{β:Type}(yj:y6)(L:Nat)(z:Int→List V→List V→Option β)(A:List V→List V→Option β):Nat→Nat→Int→Int→List V→List V→Option β
 | 0,_,_,_,_,_=>none
 | n+1,C,D,E,F,G=>zbk yj L C D E F G z (fun C D E F G=>z6 yj L z A n C D E F G) A
theorem zct{β:Type}(yj:y6)(L:Nat)(K:KT β):∀ (n:Nat) (C:Nat) (D E:Int) (z A:List V),zF (zl xw (yw yj L) 2 L zZ) zaq n (zab C D E z A) K=z6 yj L (fun F z A=>K .ret (zbb F z A)) (fun z A=>K (.exit 0) (zbj z A)) n C D E z A:=by
 intro n
 induction n with
 | zero=>intros; rfl
 | succ n ih=>
  intro C D E z A
  refine (zfB yj L C D E z A (fun σ=>zF (zl xw (yw yj L) 2 L zZ) zaq n σ K) K).trans ?_
  simp only [ih]
  rfl
def zaO{β:Type}(yj:y6)(L:Nat)(D:Nat)(z A:List V)(C:Int→List V→List V→Option β):Option β:=zbJ yj L D z A (fun D E F z A=>z6 yj L (fun G z A=>zcv yj L G z A C) (fun z A=>zcF yj L z A C) L D E F z A)
theorem zgS{β:Type}(yj:y6)(L:Nat)(z:Nat)(A C:List V)(k:KK β):zq xw (yw yj L) L yH [(V.own 0 0 z 5),(V.fn 403 [(V.ptr 1 0)])] [(.live true A),(.live true C)] k=zaO yj L z A C (fun D A C=>k (Qe D) [(.live true A),(.live true C)]):=by
 refine (zgV yj L z A C k).trans ?_
 unfold zaO
 first
  | (simp only [zct,zeX,ze9]; done)
  | (simp only [zct]; rfl)
abbrev zaN:=∀ (β:Type),Nat→Nat→List V→List V→(Int→List V→List V→Option β)→Option β
def zm(β:Type)(L:Nat)(A:Nat)(C D:List V)(z:Int→List V→List V→Option β):Option β:=zaO yj L A C D z
def zaM(zm:zaN)(L:Nat)(β:Type)(args:List V)(bor:Bor)(k:KK β):Option β:=match args,bor with
 | [a0,a1],[(.live true z),(.live true A)]=>aO0 0 5 a0 fun C=>aF 403 [(1,0)] a1 (zm β L C z A (fun D z A=>k (Qe D) [(.live true z),(.live true A)]))
 | _,_=>none
theorem zgT(L:Nat)(β:Type)(args:List V)(bor:Bor)(k:KK β)(r:β)(h:zaM zm L β args bor k=some r):zq xw (yw yj L) L yH args bor k=some r:=by
 unfold zaM at h
 split at h
 ·have q:=zjQ h; clear h; obtain ⟨z,rfl,h⟩:=q
  have q:=zAr h; clear h; obtain ⟨rfl,h⟩:=q
  exact (zgS yj L z _ _ k).trans h
 ·cases h
def zhk:CF:=⟨8,[.tmp 4],(.seq (.reg [Qv 3 (tq 1),Qh 4 (Qf 0)]) (.seq (.reg [Qh 5 (tq 0),oo 6 (.makeFunc 403 [(tq 3)]),Qs 7 402 [((tq 5),2),((tq 6),2)],Qh 4 (tq 7)]) .ret))⟩
def zof:Hint:=⟨[(1,2)],[],[none],[],[],false,false,[]⟩
def zk8:Nat→Sh:=zY []
def zlc(zm:zaN)(L:Nat):CBC:=(yA 402 (zaM zm L) noC)
def zmd{β:Type}(zm:zaN)(L:Nat)(A:Nat)(C D:List V)(z:Int→List V→Option β):Option β:=zm β L A D C (fun F E G=>chk ([(List.length E),(List.length G)]=[(List.length D),(List.length C)]) (z F E))
theorem zu0{β:Type}(zm:zaN)(L:Nat)(A:Nat)(C z:List V)(k:KK β):zq zk8 (zlc zm L) L zhk [(V.own 0 0 A 5),(V.agg C)] [(.live true z)] k=zmd zm L A C z (fun D z=>k (Qe D) [(.live true z)]):=by kernel_rfl
abbrev ziJ:=∀ (β:Type),Nat→Nat→List V→List V→(Int→List V→Option β)→Option β
def zT(β:Type)(L:Nat)(A:Nat)(C D:List V)(z:Int→List V→Option β):Option β:=zmd zm L A C D z
def ziu(zT:ziJ)(L:Nat)(β:Type)(args:List V)(bor:Bor)(k:KK β):Option β:=match args,bor with
 | [a0,a1],[(.live true z)]=>aO0 0 5 a0 fun A=>aG a1 fun C=>zT β L A C z (fun D z=>k (Qe D) [(.live true z)])
 | _,_=>none
theorem zub(L:Nat)(β:Type)(args:List V)(bor:Bor)(k:KK β)(r:β)(h:ziu zT L β args bor k=some r):zq zk8 (zlc zm L) L zhk args bor k=some r:=by
 unfold ziu at h
 split at h
 ·have q:=zjQ h; clear h; obtain ⟨z,rfl,h⟩:=q
  have q:=yR h; clear h; obtain ⟨A,rfl,h⟩:=q
  exact (zu0 zm L z A _ k).trans h
 ·cases h
def zb7:CC:=(.seq (.seq (.reg [Qh 24 (tq 7),Qh 25 (tq 0),Qr 26 (tq 25),Qp 27 .lss (tq 24) (tq 26),Qh 28 (tq 27),⟨(some 29),false,(some (28,true)),.move (tq 0) false⟩,⟨(some 30),false,(some (28,true)),.move (tq 7) false⟩,⟨(some 31),false,(some (28,true)),.indexAddrS 5 (tq 29) (tq 30)⟩,⟨(some 32),false,(some (28,true)),.fieldAddr 0 (tq 31)⟩,⟨(some 33),false,(some (28,true)),.load false 1 (tq 32) false⟩,⟨(some 34),false,(some (28,true)),.move (tq 1) false⟩,⟨(some 35),false,(some (28,true)),.bin .eql (tq 33) (tq 34)⟩,oo 36 (.pick (tq 28) (tq 35) (Qg false))]) (.cond (tq 36) .skip (.seq (.mask (bl 192 41) (bl 2198956146687 41)) (.exit 2)))) (.block 3 (.reg [Qh 37 (tq 7),Qp 38 .add (tq 37) (Qf 1),Qh 7 (tq 38)])))
def zgj:CC:=(.seq (.reg [Qh 39 (tq 6),Qh 40 (tq 7),Qh 4 (tq 39),Qh 5 (tq 40)]) .ret)
def zcK:CC:=(.seq (.seq (.reg [Qh 8 (tq 6),Qh 9 (tq 0),Qr 10 (tq 9),Qp 11 .lss (tq 8) (tq 10),Qh 12 (tq 11),⟨(some 13),false,(some (12,true)),.move (tq 0) false⟩,⟨(some 14),false,(some (12,true)),.move (tq 6) false⟩,⟨(some 15),false,(some (12,true)),.indexAddrS 5 (tq 13) (tq 14)⟩,⟨(some 16),false,(some (12,true)),.fieldAddr 0 (tq 15)⟩,⟨(some 17),false,(some (12,true)),.load false 1 (tq 16) false⟩,⟨(some 18),false,(some (12,true)),.move (tq 1) false⟩,⟨(some 19),false,(some (12,true)),.bin .lss (tq 17) (tq 18)⟩,oo 20 (.pick (tq 12) (tq 19) (Qg false))]) (.cond (tq 20) .skip (.seq (.mask (bl 67 41) (bl 2199023254527 41)) (.exit 0)))) (.block 1 (.reg [Qh 21 (tq 6),Qp 22 .add (tq 21) (Qf 1),Qh 6 (tq 22)])))
def zeR:CC:=(.seq (.reg [Qh 23 (tq 6),Qh 7 (tq 23)]) (.seq (.block 2 (.loop (bl 195 41) (bl 2198956146687 41) zb7)) zgj))
def zaI:CF:=⟨41,[.tmp 4,.tmp 5],(.seq (.reg [Qh 4 (Qf 0),Qh 5 (Qf 0)]) (.seq (.reg [Qh 6 (Qf 0)]) (.seq (.block 0 (.loop (bl 67 41) (bl 2199023254527 41) zcK)) zeR)))⟩
def zmc:Hint:=⟨[],[],[none,some ((bl 67 41),(bl 2199023254527 41)),none,some ((bl 67 41),(bl 2199023254527 41)),none,none,some ((bl 195 41),(bl 2198956146687 41)),none,some ((bl 192 41),(bl 2198956146687 41)),none,none],[],[],false,false,[]⟩
def yM:Nat→Sh:=zY [(17,(.int .i64)),(33,(.int .i64))]
def xM(L:Nat):CBC:=noC
def zec:St→St:=zbn 1 (bl 67 41) (bl 2199023254527 41)
def zdu:St→St:=zbn 1 (bl 195 41) (bl 2198956146687 41)
def zdl(z:Nat)(A C:Int)(D:List V):St:=⟨((V.own 0 0 z 5)::((Qe A)::(jn 4 ((Qe C)::(jn 34 []))))),((.live true D)::(gn 41 []))⟩
def zed(z:Nat)(A C:Int)(D:List V):St:=⟨((V.own 0 0 z 5)::((Qe A)::(jn 4 ((Qe C)::(jn 34 []))))),((.live true D)::(gn 41 []))⟩
def zcS(z:Nat)(A C D:Int)(E:List V):St:=⟨((V.own 0 0 z 5)::((Qe A)::(jn 4 ((Qe C)::((Qe D)::(jn 33 [])))))),((.live true E)::(gn 41 []))⟩
def zgY(z A:Int)(C:List V):St:=⟨(jn 6 ((Qe z)::((Qe A)::(jn 33 [])))),((.live true C)::(gn 41 []))⟩
def zj3{β:Type}(L:Nat)(A:Nat)(C:Int)(D:List V)(z:Nat→Int→Int→List V→Option β):Option β:=z A C (0:Int) D
theorem ztb{β:Type}(L:Nat)(z:Nat)(A:Int)(C:List V)(k:KK β):zq yM (xM L) L zaI [(V.own 0 0 z 5),(Qe A)] [(.live true C)] k=zj3 L z A C (fun z A D C=>zF (zl yM (xM L) 1 L zcK) zec L (zdl z A D C) (yB 0 (xQ (zl yM (xM L) 1 L zeR) (y8 1 (CF.res zaI) k)))):=by kernel_rfl
def zgM{β:Type}(L:Nat)(z:Nat)(E A:Int)(F:List V)(C:Nat→Int→Int→List V→Option β)(D:Nat→Int→Int→List V→Option β):Option β:=ifb (decide (A<((z:Nat):Int))) (chk (0≤A∧A<((z:Nat):Int)) (cI .i64 F ((0+((Int.toNat A)*5))+0) fun G=>ifb (decide (G<E)) (lt (IntKind.wrap .i64 ((A:Int)+(1:Int))) fun I=>C z E I F) (D z E A F))) (D z E A F)
theorem zqn{β:Type}(L:Nat)(z:Nat)(A C:Int)(D:List V)(X:St→Option β)(K:KT β):zl yM (xM L) 1 L zcK (zdl z A C D) (zbQ zec X K)=zgM L z A C D (fun z A C D=>X (zdl z A C D)) (fun z A C D=>K (.exit 0) (zed z A C D)):=by kernel_rfl
def zfG{β:Type}(L:Nat)(A:Nat)(D C:Int)(E:List V)(z:Nat→Int→Int→Int→List V→Option β):Option β:=z A D C C E
theorem zoG{β:Type}(L:Nat)(z:Nat)(A C:Int)(D:List V)(k:KK β):(yB 0 (xQ (zl yM (xM L) 1 L zeR) (y8 1 (CF.res zaI) k))) (.exit 0) (zed z A C D)=zfG L z A C D (fun z A C E D=>zF (zl yM (xM L) 1 L zb7) zdu L (zcS z A C E D) (yB 2 (xQ (zl yM (xM L) 1 L zgj) (y8 1 (CF.res zaI) k)))):=by kernel_rfl
def zfz{β:Type}(L:Nat)(C:Nat)(G F A:Int)(E:List V)(z:Nat→Int→Int→Int→List V→Option β)(D:Int→Int→List V→Option β):Option β:=ifb (decide (A<((C:Nat):Int))) (chk (0≤A∧A<((C:Nat):Int)) (cI .i64 E ((0+((Int.toNat A)*5))+0) fun I=>ifb ((I:Int)==G) (lt (IntKind.wrap .i64 ((A:Int)+(1:Int))) fun J=>z C G F J E) (D F A E))) (D F A E)
theorem zoM{β:Type}(L:Nat)(z:Nat)(E A C:Int)(D:List V)(X:St→Option β)(K:KT β):zl yM (xM L) 1 L zb7 (zcS z E A C D) (zbQ zdu X K)=zfz L z E A C D (fun z E A C D=>X (zcS z E A C D)) (fun A C D=>K (.exit 2) (zgY A C D)):=by kernel_rfl
def zit{β:Type}(L:Nat)(A C:Int)(D:List V)(z:Int→Int→List V→Option β):Option β:=z A C D
theorem znI{β:Type}(L:Nat)(D E:Int)(z:List V)(k:KK β):(yB 2 (xQ (zl yM (xM L) 1 L zgj) (y8 1 (CF.res zaI) k))) (.exit 2) (zgY D E z)=zit L D E z (fun A C z=>k (V.tup [(Qe A),(Qe C)]) [(.live true z)]):=by kernel_rfl
def zc1{β:Type}(L:Nat)(z:Nat→Int→Int→List V→Option β):Nat→Nat→Int→Int→List V→Option β
 | 0,_,_,_,_=>none
 | n+1,A,C,D,E=>zgM L A C D E (fun A C D E=>zc1 L z n A C D E) z
theorem zi7{β:Type}(L:Nat)(K:KT β):∀ (n:Nat) (z:Nat) (A C:Int) (D:List V),zF (zl yM (xM L) 1 L zcK) zec n (zdl z A C D) K=zc1 L (fun z A C D=>K (.exit 0) (zed z A C D)) n z A C D:=by
 intro n
 induction n with
 | zero=>intros; rfl
 | succ n ih=>
  intro z A C D
  refine (zqn L z A C D (fun σ=>zF (zl yM (xM L) 1 L zcK) zec n σ K) K).trans ?_
  simp only [ih]
  rfl
def zcs{β:Type}(L:Nat)(z:Int→Int→List V→Option β):Nat→Nat→Int→Int→Int→List V→Option β
 | 0,_,_,_,_,_=>none
 | n+1,A,C,D,E,F=>zfz L A C D E F (fun A C D E F=>zcs L z n A C D E F) z
theorem zhY{β:Type}(L:Nat)(K:KT β):∀ (n:Nat) (z:Nat) (E A C:Int) (D:List V),zF (zl yM (xM L) 1 L zb7) zdu n (zcS z E A C D) K=zcs L (fun A C D=>K (.exit 2) (zgY A C D)) n z E A C D:=by
 intro n
 induction n with
 | zero=>intros; rfl
 | succ n ih=>
  intro z E A C D
  refine (zoM L z E A C D (fun σ=>zF (zl yM (xM L) 1 L zb7) zdu n σ K) K).trans ?_
  simp only [ih]
  rfl
def zdb{β:Type}(L:Nat)(z:Nat)(E A:Int)(C:List V)(D:Int→Int→List V→Option β):Option β:=zfG L z E A C (fun z E A F C=>zcs L (fun A F C=>zit L A F C D) L z E A F C)
theorem zoa{β:Type}(L:Nat)(z:Nat)(C D:Int)(A:List V)(k:KK β):(yB 0 (xQ (zl yM (xM L) 1 L zeR) (y8 1 (CF.res zaI) k))) (.exit 0) (zed z C D A)=zdb L z C D A (fun E F A=>k (V.tup [(Qe E),(Qe F)]) [(.live true A)]):=by
 refine (zoG L z C D A k).trans ?_
 unfold zdb
 first
  | (simp only [zhY,znI]; done)
  | (simp only [zhY]; rfl)
def zgs{β:Type}(L:Nat)(z:Nat)(A:Int)(C:List V)(D:Int→Int→List V→Option β):Option β:=zj3 L z A C (fun z A E C=>zc1 L (fun z A E C=>zdb L z A E C D) L z A E C)
theorem zsX{β:Type}(L:Nat)(z:Nat)(C:Int)(A:List V)(k:KK β):zq yM (xM L) L zaI [(V.own 0 0 z 5),(Qe C)] [(.live true A)] k=zgs L z C A (fun D E A=>k (V.tup [(Qe D),(Qe E)]) [(.live true A)]):=by
 refine (ztb L z C A k).trans ?_
 unfold zgs
 first
  | (simp only [zi7,zoa]; done)
  | (simp only [zi7]; rfl)
abbrev zak:=∀ (β:Type),Nat→Nat→Int→List V→(Int→Int→List V→Option β)→Option β
def zk(β:Type)(L:Nat)(A:Nat)(C:Int)(D:List V)(z:Int→Int→List V→Option β):Option β:=zgs L A C D z
def zgC(zk:zak)(L:Nat)(β:Type)(args:List V)(bor:Bor)(k:KK β):Option β:=match args,bor with
 | [a0,a1],[(.live true z)]=>aO0 0 5 a0 fun D=>aI .i64 a1 fun E=>zk β L D E z (fun A C z=>k (V.tup [(Qe A),(Qe C)]) [(.live true z)])
 | _,_=>none
theorem zs5(L:Nat)(β:Type)(args:List V)(bor:Bor)(k:KK β)(r:β)(h:zgC zk L β args bor k=some r):zq yM (xM L) L zaI args bor k=some r:=by
 unfold zgC at h
 split at h
 ·have q:=zjQ h; clear h; obtain ⟨z,rfl,h⟩:=q
  have q:=yy h; clear h; obtain ⟨A,rfl,h⟩:=q
  exact (zsX L z A _ k).trans h
 ·cases h
abbrev yx:=∀ (β:Type),Nat→Nat→Int→Nat→List V→List V→(List (List V)→Nat→List V→Option β)→Option β
def xa(β:Type)(L:Nat)(A:Nat)(F:Int)(C:Nat)(D E:List V)(z:List (List V)→Nat→List V→Option β):Option β:=chk (zAc 5 24 A C F D E) (z (znB 5 A C (Int.toNat F) D E) (List.length D) E)
def za5(xa:yx)(L:Nat)(β:Type)(args:List V)(bor:Bor)(k:KK β):Option β:=match args,bor with
 | [a0,a1,a2],[(.live true C),(.live true D)]=>aO0 0 5 a0 fun z=>aI .i64 a1 fun E=>aO0 1 5 a2 fun A=>xa β L z E A C D (fun rr dd vv=>k (V.fr 5 rr) [.dead dd,.live true vv])
 | _,_=>none
def zaZ:CF:=⟨33,[.tmp 6],(.seq (.reg [Qi 6 (.const (.gs 5 []))]) (.seq (.reg [Qh 8 (tq 0),Qh 9 (tq 1),Qh 10 (tq 2),Qh 11 (tq 0),Qr 12 (tq 11),oo 13 (.sliceS 5 (tq 8) (some (tq 9)) (some (tq 10)) (some (tq 12)))]) (.seq (.seq (.reg [Qh 14 (tq 1),Qh 15 (tq 2),Qp 16 .eql (tq 14) (tq 15)]) (.cond (tq 16) (.seq (.reg [Qi 17 (tq 0),Qi 6 (tq 17)]) .ret) .skip)) (.seq (.reg [Qh 18 (tq 0),Qr 19 (tq 18),Qh 7 (tq 19)]) (.seq (.dreg [] [(Qh 20 (tq 0),q0),(Qh 21 (tq 1),q0),(oo 22 (.sliceC 5 (tq 20) (some (tq 21))),q0),(Qh 23 (tq 0),q0),(Qh 24 (tq 2),q0),(oo 25 (.sliceS 5 (tq 23) (some (tq 24)) none none),q0),(oo 26 (.append 5 24 (tq 22) (tq 25)),q0),(Qi 0 (tq 26),q0)]) (.seq (.reg [Qh 27 (tq 0),Qh 28 (tq 0),Qr 29 (tq 28),Qh 30 (tq 7),oo 31 (.sliceS 5 (tq 27) (some (tq 29)) (some (tq 30)) none),oz (.clear 5 [(.sc (.int .i64 0)),(.sc (.int .u32 0)),(.sc (.int .u16 0)),(.sc (.int .u32 0)),(.sc (.int .u32 0))] (tq 31))]) (.seq (.reg [Qi 32 (tq 0),Qi 6 (tq 32)]) .ret)))))))⟩
def zdo:Hint:=⟨[(0,0),(3,0),(3,1),(5,2),(5,7),(7,0),(7,1)],[],[none,none,none],[],[],false,false,[]⟩
def zbY:Nat→Sh:=zY []
def zbZ(L:Nat):CBC:=noC
def zca{β:Type}(L:Nat)(z:Nat)(C A:Int)(D:List V)(E:Nat→List V→Option β):Option β:=chk (0≤((z:Nat):Int)∧((z:Nat):Int)≤((z:Nat):Int)) (chk (0≤A∧A≤(((Int.toNat ((z:Nat):Int)):Nat):Int)) (chk (0≤C∧C≤(((Int.toNat A):Nat):Int)) (ifb (decide ((Int.toNat ((z:Nat):Int))=(Int.toNat C))) (ifb ((C:Int)==A) (E z D) (chk (0≤C∧C≤((z:Nat):Int)) (chk (0≤A∧A≤((z:Nat):Int)) (chk ((Int.toNat C)+List.length (yf 5 (z-(Int.toNat A)) (List.drop (0+((Int.toNat A)*5)) D))≤z) (lt (zg D ((Int.toNat C)*5) (List.flatten (yf 5 (z-(Int.toNat A)) (List.drop (0+((Int.toNat A)*5)) D)))) fun F=>chk (0≤((z:Nat):Int)∧((z:Nat):Int)≤((z:Nat):Int)) (chk (0≤((((Int.toNat C)+List.length (yf 5 (z-(Int.toNat A)) (List.drop (0+((Int.toNat A)*5)) D))):Nat):Int)∧((((Int.toNat C)+List.length (yf 5 (z-(Int.toNat A)) (List.drop (0+((Int.toNat A)*5)) D))):Nat):Int)≤(((Int.toNat ((z:Nat):Int)):Nat):Int)) (lt (zg F (0+((Int.toNat ((((Int.toNat C)+List.length (yf 5 (z-(Int.toNat A)) (List.drop (0+((Int.toNat A)*5)) D))):Nat):Int))*5)) (List.flatten (List.replicate ((Int.toNat ((z:Nat):Int))-(Int.toNat ((((Int.toNat C)+List.length (yf 5 (z-(Int.toNat A)) (List.drop (0+((Int.toNat A)*5)) D))):Nat):Int))) [(Qe (0:Int)),(Qc (0:Int)),(Qb (0:Int)),(Qc (0:Int)),(Qc (0:Int))]))) fun r1=>E ((Int.toNat C)+List.length (yf 5 (z-(Int.toNat A)) (List.drop (0+((Int.toNat A)*5)) D))) r1))))))) (ifb ((C:Int)==A) (E z D) (chk (0≤C∧C≤((z:Nat):Int)) (chk (0≤A∧A≤((z:Nat):Int)) (chk ((Int.toNat C)+List.length (yf 5 (z-(Int.toNat A)) (List.drop (0+((Int.toNat A)*5)) D))≤z) (lt (zg D ((Int.toNat C)*5) (List.flatten (yf 5 (z-(Int.toNat A)) (List.drop (0+((Int.toNat A)*5)) D)))) fun r2=>chk (0≤((z:Nat):Int)∧((z:Nat):Int)≤((z:Nat):Int)) (chk (0≤((((Int.toNat C)+List.length (yf 5 (z-(Int.toNat A)) (List.drop (0+((Int.toNat A)*5)) D))):Nat):Int)∧((((Int.toNat C)+List.length (yf 5 (z-(Int.toNat A)) (List.drop (0+((Int.toNat A)*5)) D))):Nat):Int)≤(((Int.toNat ((z:Nat):Int)):Nat):Int)) (lt (zg r2 (0+((Int.toNat ((((Int.toNat C)+List.length (yf 5 (z-(Int.toNat A)) (List.drop (0+((Int.toNat A)*5)) D))):Nat):Int))*5)) (List.flatten (List.replicate ((Int.toNat ((z:Nat):Int))-(Int.toNat ((((Int.toNat C)+List.length (yf 5 (z-(Int.toNat A)) (List.drop (0+((Int.toNat A)*5)) D))):Nat):Int))) [(Qe (0:Int)),(Qc (0:Int)),(Qb (0:Int)),(Qc (0:Int)),(Qc (0:Int))]))) fun r3=>E ((Int.toNat C)+List.length (yf 5 (z-(Int.toNat A)) (List.drop (0+((Int.toNat A)*5)) D))) r3))))))))))
theorem zhT{β:Type}(L:Nat)(z:Nat)(C D:Int)(A:List V)(k:KK β):zq zbY (zbZ L) L zaZ [(V.own 0 0 z 5),(Qe C),(Qe D)] [(.live true A)] k=zca L z C D A (fun z A=>k (V.own 0 0 z 5) [(.live true A)]):=by kernel_rfl
abbrev zx:=∀ (β:Type),Nat→Nat→Int→Int→List V→(Nat→List V→Option β)→Option β
def zb(β:Type)(L:Nat)(A:Nat)(C D:Int)(E:List V)(z:Nat→List V→Option β):Option β:=zca L A C D E z
def za7(zb:zx)(L:Nat)(β:Type)(args:List V)(bor:Bor)(k:KK β):Option β:=match args,bor with
 | [a0,a1,a2],[(.live true A)]=>aO0 0 5 a0 fun z=>aI .i64 a1 fun C=>aI .i64 a2 fun D=>zb β L z C D A (fun z A=>k (V.own 0 0 z 5) [(.live true A)])
 | _,_=>none
theorem zh1(L:Nat)(β:Type)(args:List V)(bor:Bor)(k:KK β)(r:β)(h:za7 zb L β args bor k=some r):zq zbY (zbZ L) L zaZ args bor k=some r:=by
 unfold za7 at h
 split at h
 ·have q:=zjQ h; clear h; obtain ⟨z,rfl,h⟩:=q
  have q:=yy h; clear h; obtain ⟨A,rfl,h⟩:=q
  have q:=yy h; clear h; obtain ⟨C,rfl,h⟩:=q
  exact (zhT L z A C _ k).trans h
 ·cases h
end
end Go.Proofs.Ytbimgceighecgaa
