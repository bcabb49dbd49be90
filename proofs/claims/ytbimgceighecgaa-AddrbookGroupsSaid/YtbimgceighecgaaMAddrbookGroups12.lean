/- Part 12 of the proof of AddrbookGroups: an abstract machine over plain values, its soundness, and the functions of the program on plain values. -/
import Derived.Test.YtbimgceighecgaaMAddrbookGroups11
namespace Go.Proofs.Ytbimgceighecgaa
set_option linter.unusedVariables false
set_option linter.unusedSimpArgs false
open List renaming length->XG,take->XI,drop->XJ,replicate->We,map->Xt
open Int renaming toNat->XH
open IntKind renaming wrap->QF
section
set_option maxRecDepth 100000
def zkB:CF:=⟨14,[.cellS 2 34 false],(.seq (.reg [oo 1 (.box false (tq 0)),oo 2 (.alloc false (rp 32 (.sc (.int .u8 0)) (rp 2 (.gs 5 []) [])))]) (.seq (.dreg [] [(Ql 3 0 (tq 1),q0),(Qk 4 32 (tq 3),ql 1 [] [5,8,9,12]),(⟨(some 5),true,none,.buildSlice 5 0 [(.sc (.int .i64 0)),(.sc (.int .u32 0)),(.sc (.int .u16 0)),(.sc (.int .u32 0)),(.sc (.int .u32 0))] []⟩,qn [1] [9]),(Ql 6 32 (tq 1),q0),(Qj 7 1 (tq 6),ql 1 [] [5,9]),(⟨(some 8),true,none,.append 5 24 (tq 5) (tq 7)⟩,qn [1] [9]),(⟨(some 9),true,none,.buildSlice 5 0 [(.sc (.int .i64 0)),(.sc (.int .u32 0)),(.sc (.int .u16 0)),(.sc (.int .u32 0)),(.sc (.int .u32 0))] []⟩,qn [1] [5,8]),(Ql 10 33 (tq 1),q0),(Qj 11 1 (tq 10),ql 1 [] [5,8,9]),(⟨(some 12),true,none,.append 5 24 (tq 9) (tq 11)⟩,qn [1] []),(oo 13 (.buildSt (rp 32 (.sc (.int .u8 0)) (rp 2 (.gs 5 []) [])) [(0,32,(tq 4)),(32,1,(tq 8)),(33,1,(tq 12))]),q0),(Qm 34 (tq 2) (tq 13),q0)]) .ret))⟩
def zqP:Hint:=⟨[(1,10)],[(1,2),(1,5),(1,6),(1,9)],[none],[],[],false,true,[]⟩
def znV:Nat→Sh:=xY [(1,(.row [(.int .u8),(.int .u8),(.int .u8),(.int .u8),(.int .u8),(.int .u8),(.int .u8),(.int .u8),(.int .u8),(.int .u8),(.int .u8),(.int .u8),(.int .u8),(.int .u8),(.int .u8),(.int .u8),(.int .u8),(.int .u8),(.int .u8),(.int .u8),(.int .u8),(.int .u8),(.int .u8),(.int .u8),(.int .u8),(.int .u8),(.int .u8),(.int .u8),(.int .u8),(.int .u8),(.int .u8),(.int .u8),(.sl 5),(.sl 5)]))]
def zom(L:Nat):CBC:=noC
abbrev zlV(β:Type):Type:=Int→Int→Int→Int→Int→Int→Int→Int→Int→Int→Int→Int→Int→Int→Int→Int→Int→Int→Int→Int→Int→Int→Int→Int→Int→Int→Int→Int→Int→Int→Int→Int→Nat→Nat→List V→List V→Option β
def zpn{β:Type}(L:Nat)(z:List V)(D:zlV β):Option β:=chk (XG z=34) (cI .u8 z 0 fun v0=>cI .u8 z 1 fun v1=>cI .u8 z 2 fun v2=>cI .u8 z 3 fun v3=>cI .u8 z 4 fun v4=>cI .u8 z 5 fun v5=>cI .u8 z 6 fun v6=>cI .u8 z 7 fun v7=>cI .u8 z 8 fun v8=>cI .u8 z 9 fun v9=>cI .u8 z 10 fun E=>cI .u8 z 11 fun F=>cI .u8 z 12 fun G=>cI .u8 z 13 fun I=>cI .u8 z 14 fun J=>cI .u8 z 15 fun M=>cI .u8 z 16 fun N=>cI .u8 z 17 fun O=>cI .u8 z 18 fun P=>cI .u8 z 19 fun Q=>cI .u8 z 20 fun R=>cI .u8 z 21 fun S=>cI .u8 z 22 fun U=>cI .u8 z 23 fun W=>cI .u8 z 24 fun X=>cI .u8 z 25 fun Y=>cI .u8 z 26 fun Z=>cI .u8 z 27 fun aa=>cI .u8 z 28 fun ab=>cI .u8 z 29 fun ac=>cI .u8 z 30 fun ad=>cI .u8 z 31 fun ae=>cL 5 z 32 fun A=>cL 5 z 33 fun C=>chk ((0+XG A)*24≤xw∧0+XG A≤xw) (chk ((0+XG C)*24≤xw∧0+XG C≤xw) (D v0 v1 v2 v3 v4 v5 v6 v7 v8 v9 E F G I J M N O P Q R S U W X Y Z aa ab ac ad ae (XG A) (XG C) (List.flatten A) (List.flatten C))))
theorem zxG{β:Type}(L:Nat)(p0:List V)(k:KK β):yp znV (zom L) L zkB [(V.agg p0)] [] k=zpn L p0 (fun ad ae af ag ah ai aj ak al am C D E F G I J M N O P Q R S U W X Y Z aa ab ac z A b0 b1=>k (V.st [(Qa ad),(Qa ae),(Qa af),(Qa ag),(Qa ah),(Qa ai),(Qa aj),(Qa ak),(Qa al),(Qa am),(Qa C),(Qa D),(Qa E),(Qa F),(Qa G),(Qa I),(Qa J),(Qa M),(Qa N),(Qa O),(Qa P),(Qa Q),(Qa R),(Qa S),(Qa U),(Qa W),(Qa X),(Qa Y),(Qa Z),(Qa aa),(Qa ab),(Qa ac),(V.own 0 0 z 5),(V.own 1 0 A 5)]) [(.live true b0),(.live true b1)]):=by kernel_rfl
abbrev zav:=∀ (β:Type),Nat→List V→(Int→Int→Int→Int→Int→Int→Int→Int→Int→Int→Int→Int→Int→Int→Int→Int→Int→Int→Int→Int→Int→Int→Int→Int→Int→Int→Int→Int→Int→Int→Int→Int→Nat→Nat→List V→List V→Option β)→Option β
def xk(β:Type)(L:Nat)(A:List V)(z:zlV β):Option β:=zpn L A z
def ziz(xk:zav)(L:Nat)(β:Type)(args:List V)(bor:Bor)(k:KK β):Option β:=match args,bor with
 | [a0],[]=>aG a0 fun p0=>xk β L p0 (fun ad ae af ag ah ai aj ak al am C D E F G I J M N O P Q R S U W X Y Z aa ab ac z A b0 b1=>k (V.st [(Qa ad),(Qa ae),(Qa af),(Qa ag),(Qa ah),(Qa ai),(Qa aj),(Qa ak),(Qa al),(Qa am),(Qa C),(Qa D),(Qa E),(Qa F),(Qa G),(Qa I),(Qa J),(Qa M),(Qa N),(Qa O),(Qa P),(Qa Q),(Qa R),(Qa S),(Qa U),(Qa W),(Qa X),(Qa Y),(Qa Z),(Qa aa),(Qa ab),(Qa ac),(V.own 0 0 z 5),(V.own 1 0 A 5)]) [(.live true b0),(.live true b1)])
 | _,_=>none
theorem zxP(L:Nat)(β:Type)(args:List V)(bor:Bor)(k:KK β)(r:β)(h:ziz xk L β args bor k=some r):yp znV (zom L) L zkB args bor k=some r:=by
 unfold ziz at h
 split at h
 ·have q:=zV h; clear h; obtain ⟨z,rfl,h⟩:=q
  exact (zxG L z k).trans h
 ·cases h
def zkf:CF:=⟨15,[.tmp 4],(.seq (.reg [Qi 4 (.const (.gs 5 []))]) (.seq (.dreg [] [(oo 5 (.buildSlice 5 0 [(.sc (.int .i64 0)),(.sc (.int .u32 0)),(.sc (.int .u16 0)),(.sc (.int .u32 0)),(.sc (.int .u32 0))] []),q0),(Qh 6 (tq 0),q0),(Qh 7 (tq 1),q0),(oo 8 (.sliceS 5 (tq 6) none (some (tq 7)) none),q0),(oo 9 (.append 5 24 (tq 5) (tq 8)),q0),(Qh 10 (tq 0),q0),(Qh 11 (tq 1),q0),(Qp 12 .add (tq 11) (Qf 1),q0),(oo 13 (.sliceS 5 (tq 10) (some (tq 12)) none none),q0),(oo 14 (.append 5 24 (tq 9) (tq 13)),q0),(Qi 4 (tq 14),q0)]) .ret))⟩
def zqL:Hint:=⟨[(0,0),(1,10)],[],[none],[],[],false,false,[]⟩
def znI:Nat→Sh:=xY []
def zon(L:Nat):CBC:=noC
def zpg{β:Type}(L:Nat)(z:Nat)(D:Int)(C:List V)(E:List (List V)→List V→Option β):Option β:=chk (0≤D∧D≤((z:Nat):Int)) (chk ((XG ([]:List (List V))+XG (xh 5 ((XH D)-0) C))*24≤xw∧XG ([]:List (List V))+XG (xh 5 ((XH D)-0) C)≤xw) (lt (([]:List (List V))++(xh 5 ((XH D)-0) C)) fun F=>lt (QF .i64 ((D:Int)+(1:Int))) fun A=>chk (0≤A∧A≤((z:Nat):Int)) (chk ((XG F+XG (xh 5 (z-(XH A)) (XJ (0+((XH A)*5)) C)))*24≤xw∧XG F+XG (xh 5 (z-(XH A)) (XJ (0+((XH A)*5)) C))≤xw) (lt (F++(xh 5 (z-(XH A)) (XJ (0+((XH A)*5)) C))) fun G=>E G C))))
theorem zxx{β:Type}(L:Nat)(A:Nat)(C:Int)(z:List V)(k:KK β):yp znI (zon L) L zkf [(V.own 0 0 A 5),(Qe C)] [(.live true z)] k=zpg L A C z (fun D z=>k (V.gs 5 D) [(.live true z)]):=by kernel_rfl
abbrev zaw:=∀ (β:Type),Nat→Nat→Int→List V→(List (List V)→List V→Option β)→Option β
def zk(β:Type)(L:Nat)(A:Nat)(C:Int)(D:List V)(z:List (List V)→List V→Option β):Option β:=zpg L A C D z
def zit(zk:zaw)(L:Nat)(β:Type)(args:List V)(bor:Bor)(k:KK β):Option β:=match args,bor with
 | [a0,a1],[(.live true z)]=>aO0 0 5 a0 fun A=>aI .i64 a1 fun C=>zk β L A C z (fun D z=>k (V.gs 5 D) [(.live true z)])
 | _,_=>none
theorem zxr(L:Nat)(β:Type)(args:List V)(bor:Bor)(k:KK β)(r:β)(h:zit zk L β args bor k=some r):yp znI (zon L) L zkf args bor k=some r:=by
 unfold zit at h
 split at h
 ·have q:=zg7 h; clear h; obtain ⟨z,rfl,h⟩:=q
  have q:=xr h; clear h; obtain ⟨A,rfl,h⟩:=q
  exact (zxx L z A _ k).trans h
 ·cases h
def zdV:CC:=(.seq (.seq (.reg [Qh 24 (tq 7),Qh 25 (tq 0),Qr 26 (tq 25),Qp 27 .lss (tq 24) (tq 26),Qh 28 (tq 27),⟨(some 29),false,(some (28,true)),.move (tq 0) false⟩,⟨(some 30),false,(some (28,true)),.move (tq 7) false⟩,⟨(some 31),false,(some (28,true)),.indexAddrS 5 (tq 29) (tq 30)⟩,⟨(some 32),false,(some (28,true)),.fieldAddr 0 (tq 31)⟩,⟨(some 33),false,(some (28,true)),.load false 1 (tq 32) false⟩,⟨(some 34),false,(some (28,true)),.move (tq 1) false⟩,⟨(some 35),false,(some (28,true)),.bin .eql (tq 33) (tq 34)⟩,oo 36 (.pick (tq 28) (tq 35) (Qg false))]) (.cond (tq 36) .skip (.seq (.mask (bl 192 41) (bl 2198956146687 41)) (.exit 2)))) (.block 3 (.reg [Qh 37 (tq 7),Qp 38 .add (tq 37) (Qf 1),Qh 7 (tq 38)])))
def zj1:CC:=(.seq (.reg [Qh 39 (tq 6),Qh 40 (tq 7),Qh 4 (tq 39),Qh 5 (tq 40)]) .ret)
def zeC:CC:=(.seq (.seq (.reg [Qh 8 (tq 6),Qh 9 (tq 0),Qr 10 (tq 9),Qp 11 .lss (tq 8) (tq 10),Qh 12 (tq 11),⟨(some 13),false,(some (12,true)),.move (tq 0) false⟩,⟨(some 14),false,(some (12,true)),.move (tq 6) false⟩,⟨(some 15),false,(some (12,true)),.indexAddrS 5 (tq 13) (tq 14)⟩,⟨(some 16),false,(some (12,true)),.fieldAddr 0 (tq 15)⟩,⟨(some 17),false,(some (12,true)),.load false 1 (tq 16) false⟩,⟨(some 18),false,(some (12,true)),.move (tq 1) false⟩,⟨(some 19),false,(some (12,true)),.bin .lss (tq 17) (tq 18)⟩,oo 20 (.pick (tq 12) (tq 19) (Qg false))]) (.cond (tq 20) .skip (.seq (.mask (bl 67 41) (bl 2199023254527 41)) (.exit 0)))) (.block 1 (.reg [Qh 21 (tq 6),Qp 22 .add (tq 21) (Qf 1),Qh 6 (tq 22)])))
def zh3:CC:=(.seq (.reg [Qh 23 (tq 6),Qh 7 (tq 23)]) (.seq (.block 2 (.loop (bl 195 41) (bl 2198956146687 41) zdV)) zj1))
def zbx:CF:=⟨41,[.tmp 4,.tmp 5],(.seq (.reg [Qh 4 (Qf 0),Qh 5 (Qf 0)]) (.seq (.reg [Qh 6 (Qf 0)]) (.seq (.block 0 (.loop (bl 67 41) (bl 2199023254527 41) zeC)) zh3)))⟩
def zqV:Hint:=⟨[],[],[none,some ((bl 67 41),(bl 2199023254527 41)),none,some ((bl 67 41),(bl 2199023254527 41)),none,none,some ((bl 195 41),(bl 2198956146687 41)),none,some ((bl 192 41),(bl 2198956146687 41)),none,none],[],[],false,false,[]⟩
def y6:Nat→Sh:=xY [(17,(.int .i64)),(33,(.int .i64))]
def y7(L:Nat):CBC:=noC
def zhC:St→St:=zaY 1 (bl 67 41) (bl 2199023254527 41)
def zfV:St→St:=zaY 1 (bl 195 41) (bl 2198956146687 41)
def zff(z:Nat)(A C:Int)(D:List V):St:=⟨((V.own 0 0 z 5)::((Qe A)::(jn 4 ((Qe C)::(jn 34 []))))),((.live true D)::(gn 41 []))⟩
def zhw(z:Nat)(A C:Int)(D:List V):St:=⟨((V.own 0 0 z 5)::((Qe A)::(jn 4 ((Qe C)::(jn 34 []))))),((.live true D)::(gn 41 []))⟩
def zev(z:Nat)(A C D:Int)(E:List V):St:=⟨((V.own 0 0 z 5)::((Qe A)::(jn 4 ((Qe C)::((Qe D)::(jn 33 [])))))),((.live true E)::(gn 41 []))⟩
def zla(z A:Int)(C:List V):St:=⟨(jn 6 ((Qe z)::((Qe A)::(jn 33 [])))),((.live true C)::(gn 41 []))⟩
def zpE{β:Type}(L:Nat)(A:Nat)(C:Int)(D:List V)(z:Nat→Int→Int→List V→Option β):Option β:=z A C (0:Int) D
theorem zxk{β:Type}(L:Nat)(z:Nat)(A:Int)(C:List V)(k:KK β):yp y6 (y7 L) L zbx [(V.own 0 0 z 5),(Qe A)] [(.live true C)] k=zpE L z A C (fun z A D C=>yD (zj y6 (y7 L) 1 L zeC) zhC L (zff z A D C) (xB 0 (yN (zj y6 (y7 L) 1 L zh3) (yU 1 (CF.res zbx) k)))):=by kernel_rfl
def zkH{β:Type}(L:Nat)(z:Nat)(E A:Int)(F:List V)(C:Nat→Int→Int→List V→Option β)(D:Nat→Int→Int→List V→Option β):Option β:=ifb (decide (A<((z:Nat):Int))) (chk (0≤A∧A<((z:Nat):Int)) (cI .i64 F ((0+((XH A)*5))+0) fun G=>ifb (decide (G<E)) (lt (QF .i64 ((A:Int)+(1:Int))) fun I=>C z E I F) (D z E A F))) (D z E A F)
theorem ztX{β:Type}(L:Nat)(z:Nat)(A C:Int)(D:List V)(X:St→Option β)(K:KT β):zj y6 (y7 L) 1 L zeC (zff z A C D) (zbt zhC X K)=zkH L z A C D (fun z A C D=>X (zff z A C D)) (fun z A C D=>K (.exit 0) (zhw z A C D)):=by kernel_rfl
def zol{β:Type}(L:Nat)(A:Nat)(D C:Int)(E:List V)(z:Nat→Int→Int→Int→List V→Option β):Option β:=z A D C C E
theorem zss{β:Type}(L:Nat)(z:Nat)(A C:Int)(D:List V)(k:KK β):(xB 0 (yN (zj y6 (y7 L) 1 L zh3) (yU 1 (CF.res zbx) k))) (.exit 0) (zhw z A C D)=zol L z A C D (fun z A C E D=>yD (zj y6 (y7 L) 1 L zdV) zfV L (zev z A C E D) (xB 2 (yN (zj y6 (y7 L) 1 L zj1) (yU 1 (CF.res zbx) k)))):=by kernel_rfl
def zjr{β:Type}(L:Nat)(C:Nat)(G F A:Int)(E:List V)(z:Nat→Int→Int→Int→List V→Option β)(D:Int→Int→List V→Option β):Option β:=ifb (decide (A<((C:Nat):Int))) (chk (0≤A∧A<((C:Nat):Int)) (cI .i64 E ((0+((XH A)*5))+0) fun I=>ifb ((I:Int)==G) (lt (QF .i64 ((A:Int)+(1:Int))) fun J=>z C G F J E) (D F A E))) (D F A E)
theorem zst{β:Type}(L:Nat)(z:Nat)(E A C:Int)(D:List V)(X:St→Option β)(K:KT β):zj y6 (y7 L) 1 L zdV (zev z E A C D) (zbt zfV X K)=zjr L z E A C D (fun z E A C D=>X (zev z E A C D)) (fun A C D=>K (.exit 2) (zla A C D)):=by kernel_rfl
def zmo{β:Type}(L:Nat)(A C:Int)(D:List V)(z:Int→Int→List V→Option β):Option β:=z A C D
theorem zq1{β:Type}(L:Nat)(D E:Int)(z:List V)(k:KK β):(xB 2 (yN (zj y6 (y7 L) 1 L zj1) (yU 1 (CF.res zbx) k))) (.exit 2) (zla D E z)=zmo L D E z (fun A C z=>k (V.tup [(Qe A),(Qe C)]) [(.live true z)]):=by kernel_rfl
def ze7{β:Type}(L:Nat)(z:Nat→Int→Int→List V→Option β):Nat→Nat→Int→Int→List V→Option β
 | 0,_,_,_,_=>none
 | n+1,A,C,D,E=>zkH L A C D E (fun A C D E=>ze7 L z n A C D E) z
theorem znp{β:Type}(L:Nat)(K:KT β):∀ (n:Nat) (z:Nat) (A C:Int) (D:List V),yD (zj y6 (y7 L) 1 L zeC) zhC n (zff z A C D) K=ze7 L (fun z A C D=>K (.exit 0) (zhw z A C D)) n z A C D:=by
 intro n
 induction n with
 | zero=>intros; rfl
 | succ n ih=>
  intro z A C D
  refine (ztX L z A C D (fun σ=>yD (zj y6 (y7 L) 1 L zeC) zhC n σ K) K).trans ?_
  simp only [ih]
  rfl
def zed{β:Type}(L:Nat)(z:Int→Int→List V→Option β):Nat→Nat→Int→Int→Int→List V→Option β
 | 0,_,_,_,_,_=>none
 | n+1,A,C,D,E,F=>zjr L A C D E F (fun A C D E F=>zed L z n A C D E F) z
theorem zlP{β:Type}(L:Nat)(K:KT β):∀ (n:Nat) (z:Nat) (E A C:Int) (D:List V),yD (zj y6 (y7 L) 1 L zdV) zfV n (zev z E A C D) K=zed L (fun A C D=>K (.exit 2) (zla A C D)) n z E A C D:=by
 intro n
 induction n with
 | zero=>intros; rfl
 | succ n ih=>
  intro z E A C D
  refine (zst L z E A C D (fun σ=>yD (zj y6 (y7 L) 1 L zdV) zfV n σ K) K).trans ?_
  simp only [ih]
  rfl
def ziE{β:Type}(L:Nat)(z:Nat)(E A:Int)(C:List V)(D:Int→Int→List V→Option β):Option β:=zol L z E A C (fun z E A F C=>zed L (fun A F C=>zmo L A F C D) L z E A F C)
theorem zrE{β:Type}(L:Nat)(z:Nat)(C D:Int)(A:List V)(k:KK β):(xB 0 (yN (zj y6 (y7 L) 1 L zh3) (yU 1 (CF.res zbx) k))) (.exit 0) (zhw z C D A)=ziE L z C D A (fun E F A=>k (V.tup [(Qe E),(Qe F)]) [(.live true A)]):=by
 refine (zss L z C D A k).trans ?_
 unfold ziE
 first
  | (simp only [zlP,zq1]; done)
  | (simp only [zlP]; rfl)
def zlB{β:Type}(L:Nat)(z:Nat)(A:Int)(C:List V)(D:Int→Int→List V→Option β):Option β:=zpE L z A C (fun z A E C=>ze7 L (fun z A E C=>ziE L z A E C D) L z A E C)
theorem zxN{β:Type}(L:Nat)(z:Nat)(C:Int)(A:List V)(k:KK β):yp y6 (y7 L) L zbx [(V.own 0 0 z 5),(Qe C)] [(.live true A)] k=zlB L z C A (fun D E A=>k (V.tup [(Qe D),(Qe E)]) [(.live true A)]):=by
 refine (zxk L z C A k).trans ?_
 unfold zlB
 first
  | (simp only [znp,zrE]; done)
  | (simp only [znp]; rfl)
abbrev zax:=∀ (β:Type),Nat→Nat→Int→List V→(Int→Int→List V→Option β)→Option β
def yk(β:Type)(L:Nat)(A:Nat)(C:Int)(D:List V)(z:Int→Int→List V→Option β):Option β:=zlB L A C D z
def zik(yk:zax)(L:Nat)(β:Type)(args:List V)(bor:Bor)(k:KK β):Option β:=match args,bor with
 | [a0,a1],[(.live true z)]=>aO0 0 5 a0 fun D=>aI .i64 a1 fun E=>yk β L D E z (fun A C z=>k (V.tup [(Qe A),(Qe C)]) [(.live true z)])
 | _,_=>none
theorem zxI(L:Nat)(β:Type)(args:List V)(bor:Bor)(k:KK β)(r:β)(h:zik yk L β args bor k=some r):yp y6 (y7 L) L zbx args bor k=some r:=by
 unfold zik at h
 split at h
 ·have q:=zg7 h; clear h; obtain ⟨z,rfl,h⟩:=q
  have q:=xr h; clear h; obtain ⟨A,rfl,h⟩:=q
  exact (zxN L z A _ k).trans h
 ·cases h
def zcM:CC:=(.seq (.seq (.reg [Qh 24 (tq 7),Qh 25 (tq 0),Qr 26 (tq 25),Qp 27 .lss (tq 24) (tq 26),Qh 28 (tq 27),⟨(some 29),false,(some (28,true)),.move (tq 0) false⟩,⟨(some 30),false,(some (28,true)),.move (tq 7) false⟩,⟨(some 31),false,(some (28,true)),.indexAddrS 5 (tq 29) (tq 30)⟩,⟨(some 32),false,(some (28,true)),.fieldAddr 0 (tq 31)⟩,⟨(some 33),false,(some (28,true)),.load false 1 (tq 32) false⟩,⟨(some 34),false,(some (28,true)),.move (tq 1) false⟩,⟨(some 35),false,(some (28,true)),.bin .eql (tq 33) (tq 34)⟩,oo 36 (.pick (tq 28) (tq 35) (Qg false))]) (.cond (tq 36) .skip (.seq (.mask (bl 192 41) (bl 2198956146687 41)) (.exit 2)))) (.block 3 (.reg [Qh 37 (tq 7),Qp 38 .add (tq 37) (Qf 1),Qh 7 (tq 38)])))
def zhG:CC:=(.seq (.reg [Qh 39 (tq 6),Qh 40 (tq 7),Qh 4 (tq 39),Qh 5 (tq 40)]) .ret)
def ze2:CC:=(.seq (.seq (.reg [Qh 8 (tq 6),Qh 9 (tq 0),Qr 10 (tq 9),Qp 11 .lss (tq 8) (tq 10),Qh 12 (tq 11),⟨(some 13),false,(some (12,true)),.move (tq 0) false⟩,⟨(some 14),false,(some (12,true)),.move (tq 6) false⟩,⟨(some 15),false,(some (12,true)),.indexAddrS 5 (tq 13) (tq 14)⟩,⟨(some 16),false,(some (12,true)),.fieldAddr 0 (tq 15)⟩,⟨(some 17),false,(some (12,true)),.load false 1 (tq 16) false⟩,⟨(some 18),false,(some (12,true)),.move (tq 1) false⟩,⟨(some 19),false,(some (12,true)),.bin .lss (tq 17) (tq 18)⟩,oo 20 (.pick (tq 12) (tq 19) (Qg false))]) (.cond (tq 20) .skip (.seq (.mask (bl 67 41) (bl 2199023254527 41)) (.exit 0)))) (.block 1 (.reg [Qh 21 (tq 6),Qp 22 .add (tq 21) (Qf 1),Qh 6 (tq 22)])))
def zji:CC:=(.seq (.reg [Qh 23 (tq 6),Qh 7 (tq 23)]) (.seq (.block 2 (.loop (bl 195 41) (bl 2198956146687 41) zcM)) zhG))
def zb9:CF:=zbx
def xQ:Nat→Sh:=xY [(17,(.int .i64)),(33,(.int .i64))]
def yR(L:Nat):CBC:=noC
def zfp:St→St:=zaY 0 (bl 67 41) (bl 2199023254527 41)
def zex:St→St:=zaY 0 (bl 195 41) (bl 2198956146687 41)
def zeb(z:List (List V))(A C:Int):St:=⟨((V.sl 5 z)::((Qe A)::(jn 4 ((Qe C)::(jn 34 []))))),(gn 41 [])⟩
def zfn(z:List (List V))(A C:Int):St:=⟨((V.sl 5 z)::((Qe A)::(jn 4 ((Qe C)::(jn 34 []))))),(gn 41 [])⟩
def zdK(z:List (List V))(A C D:Int):St:=⟨((V.sl 5 z)::((Qe A)::(jn 4 ((Qe C)::((Qe D)::(jn 33 [])))))),(gn 41 [])⟩
def zie(z A:Int):St:=⟨(jn 6 ((Qe z)::((Qe A)::(jn 33 [])))),(gn 41 [])⟩
def zme{β:Type}(L:Nat)(A:List (List V))(C:Int)(z:List (List V)→Int→Int→Option β):Option β:=z A C (0:Int)
theorem zuz{β:Type}(L:Nat)(z:List (List V))(A:Int)(k:KK β):yp xQ (yR L) L zb9 [(V.sl 5 z),(Qe A)] [] k=zme L z A (fun z A C=>yD (zj xQ (yR L) 0 L ze2) zfp L (zeb z A C) (xB 0 (yN (zj xQ (yR L) 0 L zji) (yU 0 (CF.res zb9) k)))):=by kernel_rfl
def ziD{β:Type}(L:Nat)(A:List (List V))(E C:Int)(z:List (List V)→Int→Int→Option β)(D:List (List V)→Int→Int→Option β):Option β:=ifb (decide (C<((XG A:Nat):Int))) (idx A C fun c0=>cI .i64 c0 0 fun F=>ifb (decide (F<E)) (lt (QF .i64 ((C:Int)+(1:Int))) fun G=>z A E G) (D A E C)) (D A E C)
theorem zsm{β:Type}(L:Nat)(z:List (List V))(A C:Int)(X:St→Option β)(K:KT β):zj xQ (yR L) 0 L ze2 (zeb z A C) (zbt zfp X K)=ziD L z A C (fun z A C=>X (zeb z A C)) (fun z A C=>K (.exit 0) (zfn z A C)):=by kernel_rfl
def zlR{β:Type}(L:Nat)(C:List (List V))(D A:Int)(z:List (List V)→Int→Int→Int→Option β):Option β:=z C D A A
theorem zqC{β:Type}(L:Nat)(z:List (List V))(A C:Int)(k:KK β):(xB 0 (yN (zj xQ (yR L) 0 L zji) (yU 0 (CF.res zb9) k))) (.exit 0) (zfn z A C)=zlR L z A C (fun z A C D=>yD (zj xQ (yR L) 0 L zcM) zex L (zdK z A C D) (xB 2 (yN (zj xQ (yR L) 0 L zhG) (yU 0 (CF.res zb9) k)))):=by kernel_rfl
def zgT{β:Type}(L:Nat)(D:List (List V))(F E A:Int)(z:List (List V)→Int→Int→Int→Option β)(C:Int→Int→Option β):Option β:=ifb (decide (A<((XG D:Nat):Int))) (idx D A fun c3=>cI .i64 c3 0 fun G=>ifb ((G:Int)==F) (lt (QF .i64 ((A:Int)+(1:Int))) fun I=>z D F E I) (C E A)) (C E A)
theorem zqE{β:Type}(L:Nat)(C:List (List V))(D z A:Int)(X:St→Option β)(K:KT β):zj xQ (yR L) 0 L zcM (zdK C D z A) (zbt zex X K)=zgT L C D z A (fun C D z A=>X (zdK C D z A)) (fun z A=>K (.exit 2) (zie z A)):=by kernel_rfl
def zke{β:Type}(L:Nat)(A C:Int)(z:Int→Int→Option β):Option β:=z A C
theorem zpB{β:Type}(L:Nat)(C D:Int)(k:KK β):(xB 2 (yN (zj xQ (yR L) 0 L zhG) (yU 0 (CF.res zb9) k))) (.exit 2) (zie C D)=zke L C D (fun z A=>k (V.tup [(Qe z),(Qe A)]) []):=by kernel_rfl
def zdR{β:Type}(L:Nat)(z:List (List V)→Int→Int→Option β):Nat→List (List V)→Int→Int→Option β
 | 0,_,_,_=>none
 | n+1,A,C,D=>ziD L A C D (fun A C D=>zdR L z n A C D) z
theorem zk6{β:Type}(L:Nat)(K:KT β):∀ (n:Nat) (z:List (List V)) (A C:Int),yD (zj xQ (yR L) 0 L ze2) zfp n (zeb z A C) K=zdR L (fun z A C=>K (.exit 0) (zfn z A C)) n z A C:=by
 intro n
 induction n with
 | zero=>intros; rfl
 | succ n ih=>
  intro z A C
  refine (zsm L z A C (fun σ=>yD (zj xQ (yR L) 0 L ze2) zfp n σ K) K).trans ?_
  simp only [ih]
  rfl
def zdf{β:Type}(L:Nat)(z:Int→Int→Option β):Nat→List (List V)→Int→Int→Int→Option β
 | 0,_,_,_,_=>none
 | n+1,A,C,D,E=>zgT L A C D E (fun A C D E=>zdf L z n A C D E) z
theorem zjy{β:Type}(L:Nat)(K:KT β):∀ (n:Nat) (C:List (List V)) (D z A:Int),yD (zj xQ (yR L) 0 L zcM) zex n (zdK C D z A) K=zdf L (fun z A=>K (.exit 2) (zie z A)) n C D z A:=by
 intro n
 induction n with
 | zero=>intros; rfl
 | succ n ih=>
  intro C D z A
  refine (zqE L C D z A (fun σ=>yD (zj xQ (yR L) 0 L zcM) zex n σ K) K).trans ?_
  simp only [ih]
  rfl
def zgr{β:Type}(L:Nat)(C:List (List V))(D z:Int)(A:Int→Int→Option β):Option β:=zlR L C D z (fun C D z E=>zdf L (fun z E=>zke L z E A) L C D z E)
theorem zqd{β:Type}(L:Nat)(z:List (List V))(A C:Int)(k:KK β):(xB 0 (yN (zj xQ (yR L) 0 L zji) (yU 0 (CF.res zb9) k))) (.exit 0) (zfn z A C)=zgr L z A C (fun D E=>k (V.tup [(Qe D),(Qe E)]) []):=by
 refine (zqC L z A C k).trans ?_
 unfold zgr
 first
  | (simp only [zjy,zpB]; done)
  | (simp only [zjy]; rfl)
def zia{β:Type}(L:Nat)(z:List (List V))(A:Int)(C:Int→Int→Option β):Option β:=zme L z A (fun z A D=>zdR L (fun z A D=>zgr L z A D C) L z A D)
theorem zuA{β:Type}(L:Nat)(z:List (List V))(A:Int)(k:KK β):yp xQ (yR L) L zb9 [(V.sl 5 z),(Qe A)] [] k=zia L z A (fun C D=>k (V.tup [(Qe C),(Qe D)]) []):=by
 refine (zuz L z A k).trans ?_
 unfold zia
 first
  | (simp only [zk6,zqd]; done)
  | (simp only [zk6]; rfl)
abbrev zh7:=∀ (β:Type),Nat→List (List V)→Int→(Int→Int→Option β)→Option β
def zT(β:Type)(L:Nat)(A:List (List V))(C:Int)(z:Int→Int→Option β):Option β:=zia L A C z
def zib(zT:zh7)(L:Nat)(β:Type)(args:List V)(bor:Bor)(k:KK β):Option β:=match args,bor with
 | [a0,a1],[]=>aL 5 a0 fun C=>aI .i64 a1 fun D=>zT β L C D (fun z A=>k (V.tup [(Qe z),(Qe A)]) [])
 | _,_=>none
theorem zuV(L:Nat)(β:Type)(args:List V)(bor:Bor)(k:KK β)(r:β)(h:zib zT L β args bor k=some r):yp xQ (yR L) L zb9 args bor k=some r:=by
 unfold zib at h
 split at h
 ·have q:=za1 h; clear h; obtain ⟨z,rfl,h⟩:=q
  have q:=xr h; clear h; obtain ⟨A,rfl,h⟩:=q
  exact (zuA L z A k).trans h
 ·cases h
def zkb:CF:=⟨26,[.tmp 4],(.seq (.reg [Qv 3 (tq 1),Qi 4 (.const (.gs 5 []))]) (.seq (.reg [Qh 8 (tq 0),Ql 9 0 (tq 3),Qj 10 1 (tq 9),Qs 11 291 [((tq 8),2),((tq 10),2)],Qi 7 (tq 11),Qq 12 (tq 7) 0,Qq 13 (tq 7) 1,Qh 5 (tq 12),Qh 6 (tq 13)]) (.seq (.dreg [] [(oo 14 (.buildSlice 5 0 [(.sc (.int .i64 0)),(.sc (.int .u32 0)),(.sc (.int .u16 0)),(.sc (.int .u32 0)),(.sc (.int .u32 0))] []),qn [3] [20]),(Qh 15 (tq 0),q0),(Qh 16 (tq 6),q0),(oo 17 (.sliceS 5 (tq 15) none (some (tq 16)) none),q0),(oo 18 (.append 5 24 (tq 14) (tq 17)),qn [3] [20]),(Qk 19 5 (tq 3),ql 3 [] [14,18]),(oo 20 (.buildSlice 5 1 [(.sc (.int .i64 0)),(.sc (.int .u32 0)),(.sc (.int .u16 0)),(.sc (.int .u32 0)),(.sc (.int .u32 0))] [(0,5,(tq 19))]),qn [] [14,18]),(oo 21 (.append 5 24 (tq 18) (tq 20)),q0),(Qh 22 (tq 0),q0),(Qh 23 (tq 6),q0),(oo 24 (.sliceS 5 (tq 22) (some (tq 23)) none none),q0),(oo 25 (.append 5 24 (tq 21) (tq 24)),q0),(Qi 4 (tq 25),q0)]) .ret)))⟩
def zqS:Hint:=⟨[(0,1),(1,3),(1,4),(2,12)],[],[none],[],[],false,false,[]⟩
def zoa:Nat→Sh:=xY [(10,(.int .i64))]
def zn4(zT:zh7)(L:Nat):CBC:=(xD 291 (zib zT L) noC)
def zpi{β:Type}(zT:zh7)(L:Nat)(A:List (List V))(C:List V)(D:List (List V)→Option β):Option β:=cI .i64 C 0 fun G=>zT β L A G (fun J z=>chk (0≤z∧z≤(((XG A):Nat):Int)) (chk ((XG ([]:List (List V))+XG (XI ((XH z)-0) (XJ 0 A)))*24≤xw∧XG ([]:List (List V))+XG (XI ((XH z)-0) (XJ 0 A))≤xw) (lt (([]:List (List V))++(XI ((XH z)-0) (XJ 0 A))) fun E=>chk (0+5≤(XG C)) (chk ((XG (XI 5 C))=5∧0+5≤5) (chk ((XG E+XG (xh 5 1 (xg [(Qe (0:Int)),(Qc (0:Int)),(Qb (0:Int)),(Qc (0:Int)),(Qc (0:Int))] 0 (XI 5 C))))*24≤xw∧XG E+XG (xh 5 1 (xg [(Qe (0:Int)),(Qc (0:Int)),(Qb (0:Int)),(Qc (0:Int)),(Qc (0:Int))] 0 (XI 5 C)))≤xw) (lt (E++(xh 5 1 (xg [(Qe (0:Int)),(Qc (0:Int)),(Qb (0:Int)),(Qc (0:Int)),(Qc (0:Int))] 0 (XI 5 C)))) fun F=>chk (0≤z∧z≤(((XG A):Nat):Int)) (chk ((XG F+XG (XI ((XG A)-(XH z)) (XJ (XH z) A)))*24≤xw∧XG F+XG (XI ((XG A)-(XH z)) (XJ (XH z) A))≤xw) (lt (F++(XI ((XG A)-(XH z)) (XJ (XH z) A))) fun I=>D I))))))))
theorem zxz{β:Type}(zT:zh7)(L:Nat)(z:List (List V))(A:List V)(k:KK β):yp zoa (zn4 zT L) L zkb [(V.sl 5 z),(V.agg A)] [] k=zpi zT L z A (fun z=>k (V.gs 5 z) []):=by kernel_rfl
abbrev zau:=∀ (β:Type),Nat→List (List V)→List V→(List (List V)→Option β)→Option β
def yj(β:Type)(L:Nat)(A:List (List V))(C:List V)(z:List (List V)→Option β):Option β:=zpi zT L A C z
def zix(yj:zau)(L:Nat)(β:Type)(args:List V)(bor:Bor)(k:KK β):Option β:=match args,bor with
 | [a0,a1],[]=>aL 5 a0 fun z=>aG a1 fun A=>yj β L z A (fun z=>k (V.gs 5 z) [])
 | _,_=>none
theorem zxJ(L:Nat)(β:Type)(args:List V)(bor:Bor)(k:KK β)(r:β)(h:zix yj L β args bor k=some r):yp zoa (zn4 zT L) L zkb args bor k=some r:=by
 unfold zix at h
 split at h
 ·have q:=za1 h; clear h; obtain ⟨z,rfl,h⟩:=q
  have q:=zV h; clear h; obtain ⟨A,rfl,h⟩:=q
  exact (zxz zT L z A k).trans h
 ·cases h
def zfZ:CC:=(.seq (.seq (.reg [Qh 6 (tq 5),Qh 7 (tq 0),Qr 8 (tq 7),Qp 9 .lss (tq 6) (tq 8)]) (.cond (tq 9) .skip (.seq (.mask (bl 0 20) (bl 786119 20)) (.exit 0)))) (.seq (.block 1 (.seq (.dreg [] [(Qh 12 (tq 0),q0),(Qh 13 (tq 5),q0),(Qo 14 5 (tq 12) (tq 13),q0),(Ql 15 1 (tq 14),q0),(Qk 16 3 (tq 15),qc [3] []),(Qk 17 3 (tq 3),ql 3 [] []),(Qs 18 303 [(Qw 16),(Qw 17)],q0)]) (.cond (tq 18) (.seq (.reg [Qh 19 (tq 5),Qh 4 (tq 19)]) (.seq (.mask (bl 16 20) (bl 786135 20)) .ret)) .skip))) (.reg [Qh 10 (tq 5),Qp 11 .add (tq 10) (Qf 1),Qh 5 (tq 11)])))
def zlU:CC:=(.seq (.reg [Qh 4 (Qf (-1))]) .ret)
def zeQ:CF:=zdF
def zbb:Nat→Sh:=xY []
def zbc(zg:zP)(L:Nat):CBC:=(xD 303 (zkM zg L) noC)
def zgL:St→St:=zaY 1 (bl 41 20) (bl 786159 20)
def zeY(z:Nat)(A:Int)(C D:List V):St:=⟨((V.own 0 0 z 5)::(jn 2 ((V.ptr 4 0)::(jn 1 ((Qe A)::(jn 14 [])))))),((.live true C)::(gn 3 ((.live true D)::(gn 16 []))))⟩
def ziY(z:Int)(A:List V):St:=⟨(jn 4 ((Qe z)::(jn 15 []))),((.live true A)::(gn 20 []))⟩
def zjN(z:List V):St:=⟨(jn 20 []),((.live true z)::(gn 20 []))⟩
def znS{β:Type}(zg:zP)(L:Nat)(A:Nat)(C D:List V)(z:Nat→Int→List V→List V→Option β):Option β:=z A (0:Int) D C
theorem zwq{β:Type}(zg:zP)(L:Nat)(z:Nat)(C A:List V)(k:KK β):yp zbb (zbc zg L) L zeQ [(V.own 0 0 z 5),(V.agg C)] [(.live true A)] k=znS zg L z C A (fun z D A E=>yD (zj zbb (zbc zg L) 1 L zfZ) zgL L (zeY z D A E) (xB 0 (yN (zj zbb (zbc zg L) 1 L zlU) (yU 1 (CF.res zeQ) k)))):=by kernel_rfl
def zj3{β:Type}(zg:zP)(L:Nat)(C:Nat)(z:Int)(D F:List V)(E:Int→List V→Option β)(A:Nat→Int→List V→List V→Option β)(G:List V→Option β):Option β:=ifb (decide (z<((C:Nat):Int))) (chk (0≤z∧z<((C:Nat):Int)) (chk (((0+((XH z)*5))+1)+3≤(XG D)) (chk (0+3≤(XG F)) (zg β L (XI 3 (XJ ((0+((XH z)*5))+1) D)) (XI 3 F) (fun I=>ifb I (E z D) (lt (QF .i64 ((z:Int)+(1:Int))) fun J=>A C J D F)))))) (G D)
theorem zty{β:Type}(zg:zP)(L:Nat)(A:Nat)(C:Int)(z D:List V)(X:St→Option β)(K:KT β):zj zbb (zbc zg L) 1 L zfZ (zeY A C z D) (zbt zgL X K)=zj3 zg L A C z D (fun E z=>K .ret (ziY E z)) (fun A C z D=>X (zeY A C z D)) (fun z=>K (.exit 0) (zjN z)):=by kernel_rfl
def zmu{β:Type}(zg:zP)(L:Nat)(A:Int)(C:List V)(z:Int→List V→Option β):Option β:=z A C
theorem zri{β:Type}(zg:zP)(L:Nat)(A:Int)(z:List V)(k:KK β):(xB 0 (yN (zj zbb (zbc zg L) 1 L zlU) (yU 1 (CF.res zeQ) k))) .ret (ziY A z)=zmu zg L A z (fun C z=>k (Qe C) [(.live true z)]):=by kernel_rfl
def zno{β:Type}(zg:zP)(L:Nat)(A:List V)(z:Int→List V→Option β):Option β:=z (-1:Int) A
theorem zsg{β:Type}(zg:zP)(L:Nat)(z:List V)(k:KK β):(xB 0 (yN (zj zbb (zbc zg L) 1 L zlU) (yU 1 (CF.res zeQ) k))) (.exit 0) (zjN z)=zno zg L z (fun A z=>k (Qe A) [(.live true z)]):=by kernel_rfl
def zeE{β:Type}(zg:zP)(L:Nat)(z:Int→List V→Option β)(A:List V→Option β):Nat→Nat→Int→List V→List V→Option β
 | 0,_,_,_,_=>none
 | n+1,C,D,E,F=>zj3 zg L C D E F z (fun C D E F=>zeE zg L z A n C D E F) A
theorem zmk{β:Type}(zg:zP)(L:Nat)(K:KT β):∀ (n:Nat) (A:Nat) (C:Int) (z D:List V),yD (zj zbb (zbc zg L) 1 L zfZ) zgL n (zeY A C z D) K=zeE zg L (fun E z=>K .ret (ziY E z)) (fun z=>K (.exit 0) (zjN z)) n A C z D:=by
 intro n
 induction n with
 | zero=>intros; rfl
 | succ n ih=>
  intro A C z D
  refine (zty zg L A C z D (fun σ=>yD (zj zbb (zbc zg L) 1 L zfZ) zgL n σ K) K).trans ?_
  simp only [ih]
  rfl
def zkd{β:Type}(zg:zP)(L:Nat)(C:Nat)(D z:List V)(A:Int→List V→Option β):Option β:=znS zg L C D z (fun C E z F=>zeE zg L (fun G z=>zmu zg L G z A) (fun z=>zno zg L z A) L C E z F)
theorem zwT{β:Type}(zg:zP)(L:Nat)(z:Nat)(C A:List V)(k:KK β):yp zbb (zbc zg L) L zeQ [(V.own 0 0 z 5),(V.agg C)] [(.live true A)] k=zkd zg L z C A (fun D A=>k (Qe D) [(.live true A)]):=by
 refine (zwq zg L z C A k).trans ?_
 unfold zkd
 first
  | (simp only [zmk,zri,zsg]; done)
  | (simp only [zmk]; rfl)
abbrev zba:=∀ (β:Type),Nat→Nat→List V→List V→(Int→List V→Option β)→Option β
def xm(β:Type)(L:Nat)(A:Nat)(C D:List V)(z:Int→List V→Option β):Option β:=zkd zg L A C D z
def zkv(xm:zba)(L:Nat)(β:Type)(args:List V)(bor:Bor)(k:KK β):Option β:=match args,bor with
 | [a0,a1],[(.live true z)]=>aO0 0 5 a0 fun A=>aG a1 fun C=>xm β L A C z (fun D z=>k (Qe D) [(.live true z)])
 | _,_=>none
theorem zwc(L:Nat)(β:Type)(args:List V)(bor:Bor)(k:KK β)(r:β)(h:zkv xm L β args bor k=some r):yp zbb (zbc zg L) L zeQ args bor k=some r:=by
 unfold zkv at h
 split at h
 ·have q:=zg7 h; clear h; obtain ⟨z,rfl,h⟩:=q
  have q:=zV h; clear h; obtain ⟨A,rfl,h⟩:=q
  exact (zwT zg L z A _ k).trans h
 ·cases h
def zck:CC:=(.seq (.seq (.reg [Qh 86 (tq 15),Qh 87 (tq 13),Qp 88 .lss (tq 86) (tq 87)]) (.cond (tq 88) .skip (.seq (.mask (bl 18768 129) (bl 680564733841876926926749214863536390135 129)) (.exit 0)))) (.seq (.block 1 (.seq (.dreg [] [(Ql 91 32 (tq 8),q0),(Qj 92 1 (tq 91),ql 8 [] []),(Qh 93 (tq 15),q0),(Qo 94 5 (tq 92) (tq 93),q0),(Ql 95 1 (tq 94),q0),(Ql 96 2 (tq 95),q0),(Qj 97 1 (tq 96),qc [8] []),(Ql 98 32 (tq 8),q0),(Qj 99 1 (tq 98),ql 8 [] []),(Qh 100 (tq 14),q0),(Qo 101 5 (tq 99) (tq 100),q0),(Ql 102 1 (tq 101),q0),(Ql 103 2 (tq 102),q0),(Qj 104 1 (tq 103),qc [8] []),(Qp 105 .lss (tq 97) (tq 104),q0)]) (.cond (tq 105) (.reg [Qh 106 (tq 15),Qh 14 (tq 106)]) .skip))) (.reg [Qh 89 (tq 15),Qp 90 .add (tq 89) (Qf 1),Qh 15 (tq 90)])))
def zg0:CC:=(.seq (.seq (.dreg [] [(Ql 107 32 (tq 8),q0),(Qj 108 1 (tq 107),ql 8 [4] []),(Qh 109 (tq 14),q0),(Qo 110 5 (tq 108) (tq 109),q0),(Ql 111 1 (tq 110),q0),(Ql 112 2 (tq 111),q0),(Qj 113 1 (tq 112),qc [4] []),(Ql 114 2 (tq 4),q0),(Qj 115 1 (tq 114),ql 4 [8] []),(Qp 116 .geq (tq 113) (tq 115),q0)]) (.cond (tq 116) (.seq (.reg [oo 117 (.load true 34 (tq 8) true),Qm 34 (tq 6) (tq 117),Qh 7 (Qg false)]) .ret) .skip)) (.reg [Ql 118 32 (tq 8),Qj 119 1 (tq 118),Qh 120 (tq 14),Qs 121 289 [((tq 119),2),((tq 120),2)],Ql 122 32 (tq 8),Qm 1 (tq 122) (tq 121)]))
def zjX:CC:=(.seq (.reg [Ql 123 32 (tq 8),Qj 124 1 (tq 123),Qk 125 5 (tq 11),Qs 126 292 [(Qw 124),(Qw 125)],Ql 127 32 (tq 8),Qm 1 (tq 127) (tq 126)]) (.seq (.reg [oo 128 (.load true 34 (tq 8) true),Qm 34 (tq 6) (tq 128),Qh 7 (Qg true)]) .ret))
def zft:CF:=⟨129,[.cellS 6 34 true,.tmpP 7],(.seq (.reg [Qv 3 (tq 0),Qv 4 (tq 1),oo 6 (.alloc false (rp 32 (.sc (.int .u8 0)) (rp 2 (.gs 5 []) []))),Qh 7 (Qg false)]) (.seq (.reg [Qk 16 34 (tq 3),oo 17 (.call 288 [((tq 16),1)] [18,23]),oo 8 (.alloc false (rp 32 (.sc (.int .u8 0)) (rp 2 (.gs 5 []) []))),Qm 34 (tq 8) (tq 17)]) (.seq (.seq (.reg [Ql 18 33 (tq 8),Qj 19 1 (tq 18),Qk 20 3 (tq 4),Qs 21 287 [((tq 19),2),((tq 20),2)],Qh 9 (tq 21)]) (.seq (.reg [Qh 22 (tq 9),Qp 23 .geq (tq 22) (Qf 0)]) (.cond (tq 23) (.seq (.dreg [] [(Ql 24 33 (tq 8),q0),(Qj 25 1 (tq 24),ql 8 [4] []),(Qh 26 (tq 9),q0),(Ql 27 33 (tq 8),q0),(Qj 28 1 (tq 27),ql 8 [4] []),(Qh 29 (tq 9),q0),(Qo 30 5 (tq 28) (tq 29),q0),(Ql 31 1 (tq 30),q0),(Ql 32 2 (tq 31),q0),(Qj 33 1 (tq 32),qc [8,4] []),(Ql 34 2 (tq 4),q0),(Qj 35 1 (tq 34),ql 4 [8] []),(oo 36 (.mm true (tq 33) (tq 35)),q0),(Qo 37 5 (tq 25) (tq 26),q0),(Ql 38 1 (tq 37),q0),(Ql 39 2 (tq 38),q0),(Qm 1 (tq 39) (tq 36),q0)]) (.seq (.reg [oo 40 (.load true 34 (tq 8) true),Qm 34 (tq 6) (tq 40),Qh 7 (Qg false)]) .ret)) .skip))) (.seq (.seq (.reg [Ql 41 32 (tq 8),Qj 42 1 (tq 41),Qk 43 3 (tq 4),Qs 44 287 [((tq 42),2),((tq 43),2)],Qh 10 (tq 44)]) (.seq (.reg [Qh 45 (tq 10),Qp 46 .geq (tq 45) (Qf 0)]) (.cond (tq 46) (.seq (.dreg [] [(Ql 47 32 (tq 8),q0),(Qj 48 1 (tq 47),ql 8 [4] []),(Qh 49 (tq 10),q0),(Ql 50 32 (tq 8),q0),(Qj 51 1 (tq 50),ql 8 [4] []),(Qh 52 (tq 10),q0),(Qo 53 5 (tq 51) (tq 52),q0),(Ql 54 1 (tq 53),q0),(Ql 55 2 (tq 54),q0),(Qj 56 1 (tq 55),qc [8,4] []),(Ql 57 2 (tq 4),q0),(Qj 58 1 (tq 57),ql 4 [8] []),(oo 59 (.mm true (tq 56) (tq 58)),q0),(Qo 60 5 (tq 48) (tq 49),q0),(Ql 61 1 (tq 60),q0),(Ql 62 2 (tq 61),q0),(Qm 1 (tq 62) (tq 59),q0)]) (.seq (.reg [oo 63 (.load true 34 (tq 8) true),Qm 34 (tq 6) (tq 63),Qh 7 (Qg false)]) .ret)) .skip))) (.seq (.dreg [] [(Ql 64 0 (tq 3),q0),(Qk 65 32 (tq 64),ql 3 [4] [11]),(Qk 66 3 (tq 4),ql 4 [3] [11]),(Qh 67 (tq 2),q0),(Qs 68 305 [(Qw 65),(Qw 66),(Qw 67)],qc [4] [11]),(Qk 69 3 (tq 4),ql 4 [3] [11]),(Qh 70 (tq 2),q0),(oo 71 (.build [(.sc (.int .i64 0)),(.sc (.int .u32 0)),(.sc (.int .u16 0)),(.sc (.int .u32 0)),(.sc (.int .u32 0))] [(0,1,(tq 68)),(1,3,(tq 69)),(4,1,(tq 70))]),q0),(oo 11 (.alloc true [(.sc (.int .i64 0)),(.sc (.int .u32 0)),(.sc (.int .u16 0)),(.sc (.int .u32 0)),(.sc (.int .u32 0))]),qn [3,4] []),(Qm 5 (tq 11) (tq 71),q0)]) (.seq (.reg [Ql 73 32 (tq 8),Qj 74 1 (tq 73),Ql 75 0 (tq 11),Qj 76 1 (tq 75),Qs 77 291 [((tq 74),2),((tq 76),2)],Qi 72 (tq 77),Qq 78 (tq 72) 0,Qq 79 (tq 72) 1,Qh 12 (tq 78),Qh 13 (tq 79)]) (.seq (.seq (.reg [Qh 80 (tq 13),Qh 81 (tq 12),Qp 82 .sub (tq 80) (tq 81),Qp 83 .geq (tq 82) (Qf 8)]) (.cond (tq 83) (.seq (.reg [Qh 84 (tq 12),Qh 14 (tq 84)]) (.seq (.seq (.reg [Qh 85 (tq 12),Qh 15 (tq 85)]) (.block 0 (.loop (bl 59728 129) (bl 680564733841876926926749214863536422903 129) zck))) zg0)) .skip)) zjX)))))))⟩
def zsJ:Hint:=⟨[(0,0),(2,3),(5,0),(6,3),(9,0),(11,4),(11,5),(20,0),(21,3),(23,0)],[],[none,none,none,none,none,none,some ((bl 59728 129),(bl 680564733841876926926749214863536422903 129)),none,some ((bl 18768 129),(bl 680564733841876926926749214863536390135 129)),none,none,none,none,none],[],[(1,1,[18,23])],true,true,[]⟩
def zbO:Nat→Sh:=xY [(33,(.int .u32)),(35,(.int .u32)),(56,(.int .u32)),(58,(.int .u32)),(76,(.int .i64)),(97,(.int .u32)),(104,(.int .u32)),(113,(.int .u32)),(115,(.int .u32))]
def zbQ(xk:zav)(xm:zba)(xc:zB)(yk:zax)(yj:zau)(zk:zaw)(L:Nat):CBC:=(xD 289 (zit zk L) (xD 292 (zix yj L) (xD 291 (zik yk L) (xD 305 (zeB xc L) (xD 287 (zkv xm L) (xD 288 (ziz xk L) noC))))))
def zd0:St→St:=zaY 0 (bl 59728 129) (bl 680564733841876926926749214863536422903 129)
def zc8(p13 a8 a9:Int)(b4:List V)(aH aJ aK aN aQ aR aT aU aW aX C D E F G I J M N O P Q R S U W X Y Z aa ab ac:Int)(ad ae:List (List V))(aY aZ a0 a1 a2 a3 a4 a5 a6 a7 af ag ah ai aj ak al am an ao ap aq ar au av aw ax ay az aC aD aE:Int)(z A:Nat)(ba bb bc:List V):St:=⟨(jn 4 ((V.ptr 4 0)::(jn 1 ((V.ptr 6 0)::(jn 1 ((V.ptr 8 0)::(jn 2 ((V.ptr 11 0)::(jn 1 ((Qe p13)::((Qe a8)::((Qe a9)::(jn 113 []))))))))))))),(gn 4 ((.live true b4)::(gn 1 ((.live false [(Qa aH),(Qa aJ),(Qa aK),(Qa aN),(Qa aQ),(Qa aR),(Qa aT),(Qa aU),(Qa aW),(Qa aX),(Qa C),(Qa D),(Qa E),(Qa F),(Qa G),(Qa I),(Qa J),(Qa M),(Qa N),(Qa O),(Qa P),(Qa Q),(Qa R),(Qa S),(Qa U),(Qa W),(Qa X),(Qa Y),(Qa Z),(Qa aa),(Qa ab),(Qa ac),(V.gs 5 ad),(V.gs 5 ae)])::(gn 1 ((.live false [(Qa aY),(Qa aZ),(Qa a0),(Qa a1),(Qa a2),(Qa a3),(Qa a4),(Qa a5),(Qa a6),(Qa a7),(Qa af),(Qa ag),(Qa ah),(Qa ai),(Qa aj),(Qa ak),(Qa al),(Qa am),(Qa an),(Qa ao),(Qa ap),(Qa aq),(Qa ar),(Qa au),(Qa av),(Qa aw),(Qa ax),(Qa ay),(Qa az),(Qa aC),(Qa aD),(Qa aE),(V.own 18 0 z 5),(V.own 23 0 A 5)])::(gn 2 ((.live true ba)::(gn 6 ((.live true bb)::(gn 4 ((.live true bc)::(gn 105 [])))))))))))))⟩
def zm7(a8:Int)(b4:List V)(aH aJ aK aN aQ aR aT aU aW aX C D E F G I J M N O P Q R S U W X Y Z aa ab ac:Int)(ad ae:List (List V))(aY aZ a0 a1 a2 a3 a4 a5 a6 a7 af ag ah ai aj ak al am an ao ap aq ar au av aw ax ay az aC aD aE:Int)(z A:Nat)(a9 ba bb:List V):St:=⟨(jn 4 ((V.ptr 4 0)::(jn 1 ((V.ptr 6 0)::(jn 1 ((V.ptr 8 0)::(jn 2 ((V.ptr 11 0)::(jn 2 ((Qe a8)::(jn 114 []))))))))))),(gn 4 ((.live true b4)::(gn 1 ((.live false [(Qa aH),(Qa aJ),(Qa aK),(Qa aN),(Qa aQ),(Qa aR),(Qa aT),(Qa aU),(Qa aW),(Qa aX),(Qa C),(Qa D),(Qa E),(Qa F),(Qa G),(Qa I),(Qa J),(Qa M),(Qa N),(Qa O),(Qa P),(Qa Q),(Qa R),(Qa S),(Qa U),(Qa W),(Qa X),(Qa Y),(Qa Z),(Qa aa),(Qa ab),(Qa ac),(V.gs 5 ad),(V.gs 5 ae)])::(gn 1 ((.live false [(Qa aY),(Qa aZ),(Qa a0),(Qa a1),(Qa a2),(Qa a3),(Qa a4),(Qa a5),(Qa a6),(Qa a7),(Qa af),(Qa ag),(Qa ah),(Qa ai),(Qa aj),(Qa ak),(Qa al),(Qa am),(Qa an),(Qa ao),(Qa ap),(Qa aq),(Qa ar),(Qa au),(Qa av),(Qa aw),(Qa ax),(Qa ay),(Qa az),(Qa aC),(Qa aD),(Qa aE),(V.own 18 0 z 5),(V.own 23 0 A 5)])::(gn 2 ((.live true a9)::(gn 6 ((.live true ba)::(gn 4 ((.live true bb)::(gn 105 [])))))))))))))⟩
abbrev zjA(β:Type):Type:=Int→Int→Int→List V→Int→Int→Int→Int→Int→Int→Int→Int→Int→Int→Int→Int→Int→Int→Int→Int→Int→Int→Int→Int→Int→Int→Int→Int→Int→Int→Int→Int→Int→Int→Int→Int→List (List V)→List (List V)→Int→Int→Int→Int→Int→Int→Int→Int→Int→Int→Int→Int→Int→Int→Int→Int→Int→Int→Int→Int→Int→Int→Int→Int→Int→Int→Int→Int→Int→Int→Int→Int→Nat→Nat→List V→List V→List V→Option β
abbrev zpz(β:Type):Type:=Int→List V→Int→Int→Int→Int→Int→Int→Int→Int→Int→Int→Int→Int→Int→Int→Int→Int→Int→Int→Int→Int→Int→Int→Int→Int→Int→Int→Int→Int→Int→Int→Int→Int→List (List V)→List (List V)→Int→Int→Int→Int→Int→Int→Int→Int→Int→Int→Int→Int→Int→Int→Int→Int→Int→Int→Int→Int→Int→Int→Int→Int→Int→Int→Int→Int→Int→Int→Int→Int→Nat→Nat→List V→List V→List V→Option β
def zrx{β:Type}(xk:zav)(xm:zba)(xc:zB)(yk:zax)(yj:zau)(zk:zaw)(L:Nat)(p0 A:List V)(p2:Int)(I:List V→Bool→Option β)(z:zjA β):Option β:=chk (0+34≤(XG p0)) (xk β L (Xt V.dem (XI 34 p0)) (fun v0 v1 v2 v3 v4 v5 v6 v7 v8 v9 M N O P Q R S U W X Y Z aa ab ac ad ae af ag ah ai aj C D ay aE=>chk (0+3≤(XG A)) (xm β L D (XI 3 A) aE (fun E F=>chk ([(XG F)]=[(XG aE)]) (ifb (decide (E≥(0:Int))) (chk (0≤E∧E<((D:Nat):Int)) (cI .u32 F (((0+((XH E)*5))+1)+2) fun aK=>cI .u32 A 2 fun aN=>lt (zAS aK aN) fun aQ=>chk (0≤E∧E<((D:Nat):Int)) (chk (1=1∧(((0+((XH E)*5))+1)+2)+1≤(XG F)) (lt (xg F (((0+((XH E)*5))+1)+2) [(Qc aQ)]) fun aR=>I [(Qa v0),(Qa v1),(Qa v2),(Qa v3),(Qa v4),(Qa v5),(Qa v6),(Qa v7),(Qa v8),(Qa v9),(Qa M),(Qa N),(Qa O),(Qa P),(Qa Q),(Qa R),(Qa S),(Qa U),(Qa W),(Qa X),(Qa Y),(Qa Z),(Qa aa),(Qa ab),(Qa ac),(Qa ad),(Qa ae),(Qa af),(Qa ag),(Qa ah),(Qa ai),(Qa aj),(V.sl 5 (xh 5 C ay)),(V.sl 5 (xh 5 D aR))] false)))) (chk (0+3≤(XG A)) (xm β L C (XI 3 A) ay (fun G J=>chk ([(XG J)]=[(XG ay)]) (ifb (decide (G≥(0:Int))) (chk (0≤G∧G<((C:Nat):Int)) (cI .u32 J (((0+((XH G)*5))+1)+2) fun aT=>cI .u32 A 2 fun aU=>lt (zAS aT aU) fun aW=>chk (0≤G∧G<((C:Nat):Int)) (chk (1=1∧(((0+((XH G)*5))+1)+2)+1≤(XG J)) (lt (xg J (((0+((XH G)*5))+1)+2) [(Qc aW)]) fun aX=>I [(Qa v0),(Qa v1),(Qa v2),(Qa v3),(Qa v4),(Qa v5),(Qa v6),(Qa v7),(Qa v8),(Qa v9),(Qa M),(Qa N),(Qa O),(Qa P),(Qa Q),(Qa R),(Qa S),(Qa U),(Qa W),(Qa X),(Qa Y),(Qa Z),(Qa aa),(Qa ab),(Qa ac),(Qa ad),(Qa ae),(Qa af),(Qa ag),(Qa ah),(Qa ai),(Qa aj),(V.sl 5 (xh 5 C aX)),(V.sl 5 (xh 5 D F))] false)))) (chk (0+32≤(XG p0)) (chk (0+3≤(XG A)) (xc β L (XI 32 p0) (XI 3 A) p2 (fun az=>chk (0+3≤(XG A)) (chk ((XG (XI 3 A))=3∧1+3≤5) (chk (1=1∧4+1≤(XG (xg [(Qe az),(Qc (0:Int)),(Qb (0:Int)),(Qc (0:Int)),(Qc (0:Int))] 1 (XI 3 A)))) (chk ((XG (xg (xg [(Qe az),(Qc (0:Int)),(Qb (0:Int)),(Qc (0:Int)),(Qc (0:Int))] 1 (XI 3 A)) 4 [(Qc p2)]))=5∧0+5≤5) (lt (xg [(Qe (0:Int)),(Qc (0:Int)),(Qb (0:Int)),(Qc (0:Int)),(Qc (0:Int))] 0 (xg (xg [(Qe az),(Qc (0:Int)),(Qb (0:Int)),(Qc (0:Int)),(Qc (0:Int))] 1 (XI 3 A)) 4 [(Qc p2)])) fun ak=>cI .i64 ak 0 fun aY=>yk β L C aY J (fun aC aH al=>chk ([(XG al)]=[(XG J)]) (lt (QF .i64 ((aH:Int)-aC)) fun aZ=>ifb (decide (aZ≥(8:Int))) (z aH aC aC A (0:Int) (0:Int) (0:Int) (0:Int) (0:Int) (0:Int) (0:Int) (0:Int) (0:Int) (0:Int) (0:Int) (0:Int) (0:Int) (0:Int) (0:Int) (0:Int) (0:Int) (0:Int) (0:Int) (0:Int) (0:Int) (0:Int) (0:Int) (0:Int) (0:Int) (0:Int) (0:Int) (0:Int) (0:Int) (0:Int) (0:Int) (0:Int) ([]:List (List V)) ([]:List (List V)) v0 v1 v2 v3 v4 v5 v6 v7 v8 v9 M N O P Q R S U W X Y Z aa ab ac ad ae af ag ah ai aj C D ak al F) (chk (0+5≤(XG ak)) (ifb (List.isEmpty al) (yj β L (xh 5 C al) (XI 5 ak) (fun a0=>I [(Qa v0),(Qa v1),(Qa v2),(Qa v3),(Qa v4),(Qa v5),(Qa v6),(Qa v7),(Qa v8),(Qa v9),(Qa M),(Qa N),(Qa O),(Qa P),(Qa Q),(Qa R),(Qa S),(Qa U),(Qa W),(Qa X),(Qa Y),(Qa Z),(Qa aa),(Qa ab),(Qa ac),(Qa ad),(Qa ae),(Qa af),(Qa ag),(Qa ah),(Qa ai),(Qa aj),(V.sl 5 a0),(V.sl 5 (xh 5 D F))] true)) (yj β L (xh 5 C al) (XI 5 ak) (fun a1=>I [(Qa v0),(Qa v1),(Qa v2),(Qa v3),(Qa v4),(Qa v5),(Qa v6),(Qa v7),(Qa v8),(Qa v9),(Qa M),(Qa N),(Qa O),(Qa P),(Qa Q),(Qa R),(Qa S),(Qa U),(Qa W),(Qa X),(Qa Y),(Qa Z),(Qa aa),(Qa ab),(Qa ac),(Qa ad),(Qa ae),(Qa af),(Qa ag),(Qa ah),(Qa ai),(Qa aj),(V.sl 5 a1),(V.sl 5 (xh 5 D F))] true)))))))))))))))))))))))
theorem zz7{β:Type}(xk:zav)(xm:zba)(xc:zB)(yk:zax)(yj:zau)(zk:zaw)(L:Nat)(p0 p1:List V)(p2:Int)(k:KK β):yp zbO (zbQ xk xm xc yk yj zk L) L zft [(V.agg p0),(V.agg p1),(Qc p2)] [] k=zrx xk xm xc yk yj zk L p0 p1 p2 (fun aH aJ=>k (V.tup [(V.agg aH),(V.sc (.bool aJ))]) []) (fun p13 bd be b4 aK aN aQ aR aT aU aW aX aY aZ C D E F G I J M N O P Q R S U W X Y Z aa ab ac ad ae a0 a1 a2 a3 a4 a5 a6 a7 a8 a9 af ag ah ai aj ak al am an ao ap aq ar au av aw ax ay az aC aD aE z A bf bg bh=>yD (zj zbO (zbQ xk xm xc yk yj zk L) 0 L zck) zd0 L (zc8 p13 bd be b4 aK aN aQ aR aT aU aW aX aY aZ C D E F G I J M N O P Q R S U W X Y Z aa ab ac ad ae a0 a1 a2 a3 a4 a5 a6 a7 a8 a9 af ag ah ai aj ak al am an ao ap aq ar au av aw ax ay az aC aD aE z A bf bg bh) (xB 0 (yN (zj zbO (zbQ xk xm xc yk yj zk L) 0 L zg0) (yN (zj zbO (zbQ xk xm xc yk yj zk L) 0 L zjX) (yU 0 (CF.res zft) k))))):=by kernel_rfl
def zf0{β:Type}(xk:zav)(xm:zba)(xc:zB)(yk:zax)(yj:zau)(zk:zaw)(L:Nat)(p13 aK C:Int)(b4:List V)(aQ aR aT aU aW aX aY aZ a0 a1 E F G I J M N O P Q R S U W X Y Z aa ab ac ad ae:Int)(af ag:List (List V))(a2 a3 a4 a5 a6 a7 a8 a9 ba bb ah ai aj ak al am an ao ap aq ar au av aw ax ay az aC aD aE aH aJ:Int)(A D:Nat)(bc aN bd:List V)(z:zjA β)(bf:zpz β):Option β:=ifb (decide (C<p13)) (chk (0≤C∧C<((A:Nat):Int)) (cI .u32 aN (((0+((XH C)*5))+1)+2) fun bg=>chk (0≤aK∧aK<((A:Nat):Int)) (cI .u32 aN (((0+((XH aK)*5))+1)+2) fun bh=>ifb (decide (bg<bh)) (lt (QF .i64 ((C:Int)+(1:Int))) fun bi=>z p13 C bi b4 aQ aR aT aU aW aX aY aZ a0 a1 E F G I J M N O P Q R S U W X Y Z aa ab ac ad ae af ag a2 a3 a4 a5 a6 a7 a8 a9 ba bb ah ai aj ak al am an ao ap aq ar au av aw ax ay az aC aD aE aH aJ A D bc aN bd) (lt (QF .i64 ((C:Int)+(1:Int))) fun bj=>z p13 aK bj b4 aQ aR aT aU aW aX aY aZ a0 a1 E F G I J M N O P Q R S U W X Y Z aa ab ac ad ae af ag a2 a3 a4 a5 a6 a7 a8 a9 ba bb ah ai aj ak al am an ao ap aq ar au av aw ax ay az aC aD aE aH aJ A D bc aN bd)))) (bf aK b4 aQ aR aT aU aW aX aY aZ a0 a1 E F G I J M N O P Q R S U W X Y Z aa ab ac ad ae af ag a2 a3 a4 a5 a6 a7 a8 a9 ba bb ah ai aj ak al am an ao ap aq ar au av aw ax ay az aC aD aE aH aJ A D bc aN bd)
theorem zo8{β:Type}(xk:zav)(xm:zba)(xc:zB)(yk:zax)(yj:zau)(zk:zaw)(L:Nat)(p13 a9 bd:Int)(b4:List V)(aJ aK aN aQ aR aT aU aW aX aY C D E F G I J M N O P Q R S U W Y Z aa ab ac ad:Int)(ae af:List (List V))(aZ a0 a1 a2 a3 a4 a5 a6 a7 a8 ag ah ai aj ak al am an ao ap aq ar au av aw ax ay az aC aD aE aH:Int)(z A:Nat)(ba bb bc:List V)(X:St→Option β)(K:KT β):zj zbO (zbQ xk xm xc yk yj zk L) 0 L zck (zc8 p13 a9 bd b4 aJ aK aN aQ aR aT aU aW aX aY C D E F G I J M N O P Q R S U W Y Z aa ab ac ad ae af aZ a0 a1 a2 a3 a4 a5 a6 a7 a8 ag ah ai aj ak al am an ao ap aq ar au av aw ax ay az aC aD aE aH z A ba bb bc) (zbt zd0 X K)=zf0 xk xm xc yk yj zk L p13 a9 bd b4 aJ aK aN aQ aR aT aU aW aX aY C D E F G I J M N O P Q R S U W Y Z aa ab ac ad ae af aZ a0 a1 a2 a3 a4 a5 a6 a7 a8 ag ah ai aj ak al am an ao ap aq ar au av aw ax ay az aC aD aE aH z A ba bb bc (fun p13 a9 bd b4 aJ aK aN aQ aR aT aU aW aX aY C D E F G I J M N O P Q R S U W Y Z aa ab ac ad ae af aZ a0 a1 a2 a3 a4 a5 a6 a7 a8 ag ah ai aj ak al am an ao ap aq ar au av aw ax ay az aC aD aE aH z A ba bb bc=>X (zc8 p13 a9 bd b4 aJ aK aN aQ aR aT aU aW aX aY C D E F G I J M N O P Q R S U W Y Z aa ab ac ad ae af aZ a0 a1 a2 a3 a4 a5 a6 a7 a8 ag ah ai aj ak al am an ao ap aq ar au av aw ax ay az aC aD aE aH z A ba bb bc)) (fun a9 b4 aJ aK aN aQ aR aT aU aW aX aY C D E F G I J M N O P Q R S U W Y Z aa ab ac ad ae af aZ a0 a1 a2 a3 a4 a5 a6 a7 a8 ag ah ai aj ak al am an ao ap aq ar au av aw ax ay az aC aD aE aH z A ba bb bc=>K (.exit 0) (zm7 a9 b4 aJ aK aN aQ aR aT aU aW aX aY C D E F G I J M N O P Q R S U W Y Z aa ab ac ad ae af aZ a0 a1 a2 a3 a4 a5 a6 a7 a8 ag ah ai aj ak al am an ao ap aq ar au av aw ax ay az aC aD aE aH z A ba bb bc)):=by kernel_rfl
def zfd{β:Type}(xk:zav)(xm:zba)(xc:zB)(yk:zax)(yj:zau)(zk:zaw)(L:Nat)(C:Int)(b4:List V)(a9 ba bb bc bd be bf bg bh bi az aC aD aE aH aJ aK aN aQ aR aT aU aW aX aY aZ a0 a1 a2 a3 a4 a5:Int)(a6 a7:List (List V))(ag ah ai aj ak al am an ao ap D E F G I J M N O P Q R S U W X Y Z aa ab ac ad:Int)(z A:Nat)(aq ae ar:List V)(af:List V→Bool→Option β):Option β:=chk (0≤C∧C<((z:Nat):Int)) (cI .u32 ae (((0+((XH C)*5))+1)+2) fun au=>cI .u32 b4 2 fun av=>ifb (decide (au≥av)) (af [(Qa ag),(Qa ah),(Qa ai),(Qa aj),(Qa ak),(Qa al),(Qa am),(Qa an),(Qa ao),(Qa ap),(Qa D),(Qa E),(Qa F),(Qa G),(Qa I),(Qa J),(Qa M),(Qa N),(Qa O),(Qa P),(Qa Q),(Qa R),(Qa S),(Qa U),(Qa W),(Qa X),(Qa Y),(Qa Z),(Qa aa),(Qa ab),(Qa ac),(Qa ad),(V.sl 5 (xh 5 z ae)),(V.sl 5 (xh 5 A ar))] false) (zk β L z C ae (fun aw ax=>chk ([(XG ax)]=[(XG ae)]) (chk (0+5≤(XG aq)) (yj β L aw (XI 5 aq) (fun ay=>af [(Qa ag),(Qa ah),(Qa ai),(Qa aj),(Qa ak),(Qa al),(Qa am),(Qa an),(Qa ao),(Qa ap),(Qa D),(Qa E),(Qa F),(Qa G),(Qa I),(Qa J),(Qa M),(Qa N),(Qa O),(Qa P),(Qa Q),(Qa R),(Qa S),(Qa U),(Qa W),(Qa X),(Qa Y),(Qa Z),(Qa aa),(Qa ab),(Qa ac),(Qa ad),(V.sl 5 ay),(V.sl 5 (xh 5 A ar))] true))))))
theorem zn3{β:Type}(xk:zav)(xm:zba)(xc:zB)(yk:zax)(yj:zau)(zk:zaw)(L:Nat)(a8:Int)(b4:List V)(aH aJ aK aN aQ aR aT aU aW aX C D E F G I J M N O P Q R S U W X Y Z aa ab ac:Int)(ad ae:List (List V))(aY aZ a0 a1 a2 a3 a4 a5 a6 a7 af ag ah ai aj ak al am an ao ap aq ar au av aw ax ay az aC aD aE:Int)(z A:Nat)(a9 ba bb:List V)(k:KK β):(xB 0 (yN (zj zbO (zbQ xk xm xc yk yj zk L) 0 L zg0) (yN (zj zbO (zbQ xk xm xc yk yj zk L) 0 L zjX) (yU 0 (CF.res zft) k)))) (.exit 0) (zm7 a8 b4 aH aJ aK aN aQ aR aT aU aW aX C D E F G I J M N O P Q R S U W X Y Z aa ab ac ad ae aY aZ a0 a1 a2 a3 a4 a5 a6 a7 af ag ah ai aj ak al am an ao ap aq ar au av aw ax ay az aC aD aE z A a9 ba bb)=zfd xk xm xc yk yj zk L a8 b4 aH aJ aK aN aQ aR aT aU aW aX C D E F G I J M N O P Q R S U W X Y Z aa ab ac ad ae aY aZ a0 a1 a2 a3 a4 a5 a6 a7 af ag ah ai aj ak al am an ao ap aq ar au av aw ax ay az aC aD aE z A a9 ba bb (fun bc bd=>k (V.tup [(V.agg bc),(V.sc (.bool bd))]) []):=by kernel_rfl
def zcD{β:Type}(xk:zav)(xm:zba)(xc:zB)(yk:zax)(yj:zau)(zk:zaw)(L:Nat)(a8:zpz β):Nat→Int→Int→Int→List V→Int→Int→Int→Int→Int→Int→Int→Int→Int→Int→Int→Int→Int→Int→Int→Int→Int→Int→Int→Int→Int→Int→Int→Int→Int→Int→Int→Int→Int→Int→Int→Int→List (List V)→List (List V)→Int→Int→Int→Int→Int→Int→Int→Int→Int→Int→Int→Int→Int→Int→Int→Int→Int→Int→Int→Int→Int→Int→Int→Int→Int→Int→Int→Int→Int→Int→Int→Int→Nat→Nat→List V→List V→List V→Option β
 | 0,_,_,_,_,_,_,_,_,_,_,_,_,_,_,_,_,_,_,_,_,_,_,_,_,_,_,_,_,_,_,_,_,_,_,_,_,_,_,_,_,_,_,_,_,_,_,_,_,_,_,_,_,_,_,_,_,_,_,_,_,_,_,_,_,_,_,_,_,_,_,_,_,_,_,_=>none
 | n+1,p13,a9,ba,b4,aH,aJ,aK,aN,aQ,aR,aT,aU,aW,aX,C,D,E,F,G,I,J,M,N,O,P,Q,R,S,U,W,X,Y,Z,aa,ab,ac,ad,ae,aY,aZ,a0,a1,a2,a3,a4,a5,a6,a7,af,ag,ah,ai,aj,ak,al,am,an,ao,ap,aq,ar,au,av,aw,ax,ay,az,aC,aD,aE,z,A,bb,bc,bd=>zf0 xk xm xc yk yj zk L p13 a9 ba b4 aH aJ aK aN aQ aR aT aU aW aX C D E F G I J M N O P Q R S U W X Y Z aa ab ac ad ae aY aZ a0 a1 a2 a3 a4 a5 a6 a7 af ag ah ai aj ak al am an ao ap aq ar au av aw ax ay az aC aD aE z A bb bc bd (fun p13 a9 ba b4 aH aJ aK aN aQ aR aT aU aW aX C D E F G I J M N O P Q R S U W X Y Z aa ab ac ad ae aY aZ a0 a1 a2 a3 a4 a5 a6 a7 af ag ah ai aj ak al am an ao ap aq ar au av aw ax ay az aC aD aE z A bb bc bd=>zcD xk xm xc yk yj zk L a8 n p13 a9 ba b4 aH aJ aK aN aQ aR aT aU aW aX C D E F G I J M N O P Q R S U W X Y Z aa ab ac ad ae aY aZ a0 a1 a2 a3 a4 a5 a6 a7 af ag ah ai aj ak al am an ao ap aq ar au av aw ax ay az aC aD aE z A bb bc bd) a8
theorem zij{β:Type}(xk:zav)(xm:zba)(xc:zB)(yk:zax)(yj:zau)(zk:zaw)(L:Nat)(K:KT β):∀ (n:Nat) (p13 a8 bc:Int) (b4:List V) (aH aJ aK aN aQ aR aT aU aW aX C D E F G I J M N O P Q R S U W X Y Z aa ab ac:Int) (ad ae:List (List V)) (aY aZ a0 a1 a2 a3 a4 a5 a6 a7 af ag ah ai aj ak al am an ao ap aq ar au av aw ax ay az aC aD aE:Int) (z A:Nat) (a9 ba bb:List V),yD (zj zbO (zbQ xk xm xc yk yj zk L) 0 L zck) zd0 n (zc8 p13 a8 bc b4 aH aJ aK aN aQ aR aT aU aW aX C D E F G I J M N O P Q R S U W X Y Z aa ab ac ad ae aY aZ a0 a1 a2 a3 a4 a5 a6 a7 af ag ah ai aj ak al am an ao ap aq ar au av aw ax ay az aC aD aE z A a9 ba bb) K=zcD xk xm xc yk yj zk L (fun a8 b4 aH aJ aK aN aQ aR aT aU aW aX C D E F G I J M N O P Q R S U W X Y Z aa ab ac ad ae aY aZ a0 a1 a2 a3 a4 a5 a6 a7 af ag ah ai aj ak al am an ao ap aq ar au av aw ax ay az aC aD aE z A a9 ba bb=>K (.exit 0) (zm7 a8 b4 aH aJ aK aN aQ aR aT aU aW aX C D E F G I J M N O P Q R S U W X Y Z aa ab ac ad ae aY aZ a0 a1 a2 a3 a4 a5 a6 a7 af ag ah ai aj ak al am an ao ap aq ar au av aw ax ay az aC aD aE z A a9 ba bb)) n p13 a8 bc b4 aH aJ aK aN aQ aR aT aU aW aX C D E F G I J M N O P Q R S U W X Y Z aa ab ac ad ae aY aZ a0 a1 a2 a3 a4 a5 a6 a7 af ag ah ai aj ak al am an ao ap aq ar au av aw ax ay az aC aD aE z A a9 ba bb:=by
 intro n
 induction n with
 | zero=>intros; rfl
 | succ n ih=>
  intro p13 a8 bc b4 aH aJ aK aN aQ aR aT aU aW aX C D E F G I J M N O P Q R S U W X Y Z aa ab ac ad ae aY aZ a0 a1 a2 a3 a4 a5 a6 a7 af ag ah ai aj ak al am an ao ap aq ar au av aw ax ay az aC aD aE z A a9 ba bb
  refine (zo8 xk xm xc yk yj zk L p13 a8 bc b4 aH aJ aK aN aQ aR aT aU aW aX C D E F G I J M N O P Q R S U W X Y Z aa ab ac ad ae aY aZ a0 a1 a2 a3 a4 a5 a6 a7 af ag ah ai aj ak al am an ao ap aq ar au av aw ax ay az aC aD aE z A a9 ba bb (fun σ=>yD (zj zbO (zbQ xk xm xc yk yj zk L) 0 L zck) zd0 n σ K) K).trans ?_
  simp only [ih]
  rfl
def zoi{β:Type}(xk:zav)(xm:zba)(xc:zB)(yk:zax)(yj:zau)(zk:zaw)(L:Nat)(p0 p1:List V)(p2:Int)(a8:List V→Bool→Option β):Option β:=zrx xk xm xc yk yj zk L p0 p1 p2 a8 (fun p13 a9 be b4 aH aJ aK aN aQ aR aT aU aW aX C D E F G I J M N O P Q R S U W X Y Z aa ab ac ad ae aY aZ a0 a1 a2 a3 a4 a5 a6 a7 af ag ah ai aj ak al am an ao ap aq ar au av aw ax ay az aC aD aE z A ba bb bc=>zcD xk xm xc yk yj zk L (fun a9 b4 aH aJ aK aN aQ aR aT aU aW aX C D E F G I J M N O P Q R S U W X Y Z aa ab ac ad ae aY aZ a0 a1 a2 a3 a4 a5 a6 a7 af ag ah ai aj ak al am an ao ap aq ar au av aw ax ay az aC aD aE z A ba bb bc=>zfd xk xm xc yk yj zk L a9 b4 aH aJ aK aN aQ aR aT aU aW aX C D E F G I J M N O P Q R S U W X Y Z aa ab ac ad ae aY aZ a0 a1 a2 a3 a4 a5 a6 a7 af ag ah ai aj ak al am an ao ap aq ar au av aw ax ay az aC aD aE z A ba bb bc a8) L p13 a9 be b4 aH aJ aK aN aQ aR aT aU aW aX C D E F G I J M N O P Q R S U W X Y Z aa ab ac ad ae aY aZ a0 a1 a2 a3 a4 a5 a6 a7 af ag ah ai aj ak al am an ao ap aq ar au av aw ax ay az aC aD aE z A ba bb bc)
theorem zzH{β:Type}(xk:zav)(xm:zba)(xc:zB)(yk:zax)(yj:zau)(zk:zaw)(L:Nat)(z A:List V)(C:Int)(k:KK β):yp zbO (zbQ xk xm xc yk yj zk L) L zft [(V.agg z),(V.agg A),(Qc C)] [] k=zoi xk xm xc yk yj zk L z A C (fun D E=>k (V.tup [(V.agg D),(V.sc (.bool E))]) []):=by
 refine (zz7 xk xm xc yk yj zk L z A C k).trans ?_
 unfold zoi
 first
  | (simp only [zij,zn3]; done)
  | (simp only [zij]; rfl)
abbrev zgw:=∀ (β:Type),Nat→List V→List V→Int→(List V→Bool→Option β)→Option β
def zM(β:Type)(L:Nat)(A C:List V)(D:Int)(z:List V→Bool→Option β):Option β:=zoi xk xm xc yk yj zk L A C D z
def zlq(zM:zgw)(L:Nat)(β:Type)(args:List V)(bor:Bor)(k:KK β):Option β:=match args,bor with
 | [a0,a1,a2],[]=>aG a0 fun C=>aG a1 fun D=>aI .u32 a2 fun E=>zM β L C D E (fun z A=>k (V.tup [(V.agg z),(V.sc (.bool A))]) [])
 | _,_=>none
theorem zzt(L:Nat)(β:Type)(args:List V)(bor:Bor)(k:KK β)(r:β)(h:zlq zM L β args bor k=some r):yp zbO (zbQ xk xm xc yk yj zk L) L zft args bor k=some r:=by
 unfold zlq at h
 split at h
 ·have q:=zV h; clear h; obtain ⟨z,rfl,h⟩:=q
  have q:=zV h; clear h; obtain ⟨A,rfl,h⟩:=q
  have q:=xr h; clear h; obtain ⟨C,rfl,h⟩:=q
  exact (zzH xk xm xc yk yj zk L z A C k).trans h
 ·cases h
def zmL:CF:=⟨81,[.cellS 4 34 true,.tmpP 5],(.seq (.reg [Qv 2 (tq 0),Qv 3 (tq 1),oo 4 (.alloc false (rp 32 (.sc (.int .u8 0)) (rp 2 (.gs 5 []) []))),Qh 5 (Qf 0)]) (.seq (.seq (.reg [Qk 13 34 (tq 2),Qs 14 281 [((tq 13),1)],Qt 15 (tq 14)]) (.cond (tq 15) (.seq (.reg [oo 16 (.build (rp 32 (.sc (.int .u8 0)) (rp 2 (.sl 5 []) [])) []),Qm 34 (tq 4) (tq 16),Qh 5 (Qf 6)]) .ret) .skip)) (.seq (.reg [Ql 17 32 (tq 2),Qj 18 1 (tq 17),Qk 19 3 (tq 3),Qs 20 287 [((tq 18),2),((tq 19),2)],Qh 6 (tq 20)]) (.seq (.seq (.reg [Qh 21 (tq 6),Qp 22 .lss (tq 21) (Qf 0)]) (.cond (tq 22) (.seq (.reg [oo 23 (.build (rp 32 (.sc (.int .u8 0)) (rp 2 (.sl 5 []) [])) []),Qm 34 (tq 4) (tq 23),Qh 5 (Qf 9)]) .ret) .skip)) (.seq (.reg [Qk 24 34 (tq 2),oo 25 (.call 288 [((tq 24),1)] [15,17]),oo 7 (.alloc false (rp 32 (.sc (.int .u8 0)) (rp 2 (.gs 5 []) []))),Qm 34 (tq 7) (tq 25)]) (.seq (.reg [Ql 26 32 (tq 7),Qj 27 1 (tq 26),Qh 28 (tq 6),Qo 29 5 (tq 27) (tq 28),Qk 30 5 (tq 29),oo 8 (.alloc true [(.sc (.int .i64 0)),(.sc (.int .u32 0)),(.sc (.int .u16 0)),(.sc (.int .u32 0)),(.sc (.int .u32 0))]),Qm 5 (tq 8) (tq 30)]) (.seq (.reg [Ql 31 32 (tq 7),Qj 32 1 (tq 31),Qh 33 (tq 6),Qs 34 289 [((tq 32),2),((tq 33),2)],Ql 35 32 (tq 7),Qm 1 (tq 35) (tq 34)]) (.seq (.reg [Ql 36 0 (tq 2),Qk 37 32 (tq 36),Ql 38 1 (tq 8),Qk 39 3 (tq 38),Qs 40 290 [(Qw 37),(Qw 39)],Ql 41 0 (tq 8),Qm 1 (tq 41) (tq 40)]) (.seq (.reg [Ql 43 33 (tq 7),Qj 44 1 (tq 43),Ql 45 0 (tq 8),Qj 46 1 (tq 45),Qs 47 291 [((tq 44),2),((tq 46),2)],Qi 42 (tq 47),Qq 48 (tq 42) 0,Qq 49 (tq 42) 1,Qh 9 (tq 48),Qh 10 (tq 49)]) (.seq (.reg [oo 11 (.alloc true [(.sc (.int .u32 0)),(.sc (.int .u16 0)),(.sc (.int .u32 0))])]) (.seq (.reg [Qh 50 (tq 10),Qh 51 (tq 9),Qp 52 .sub (tq 50) (tq 51),Qp 53 .geq (tq 52) (Qf 8),Qh 12 (tq 53)]) (.seq (.seq (.reg [Qh 54 (tq 12)]) (.cond (tq 54) (.seq (.reg [Ql 55 33 (tq 7),Qj 56 1 (tq 55),Qh 57 (tq 9),Qo 58 5 (tq 56) (tq 57),Ql 59 1 (tq 58),Qk 60 3 (tq 59),Qm 3 (tq 11) (tq 60)]) (.reg [Ql 61 33 (tq 7),Qj 62 1 (tq 61),Qh 63 (tq 9),Qs 64 289 [((tq 62),2),((tq 63),2)],Ql 65 33 (tq 7),Qm 1 (tq 65) (tq 64)])) .skip)) (.seq (.reg [Ql 66 33 (tq 7),Qj 67 1 (tq 66),Qk 68 5 (tq 8),Qs 69 292 [(Qw 67),(Qw 68)],Ql 70 33 (tq 7),Qm 1 (tq 70) (tq 69)]) (.seq (.seq (.reg [Qh 71 (tq 12)]) (.cond (tq 71) (.dreg [] [(Qk 73 34 (tq 7),ql 7 [11] []),(Qk 74 3 (tq 11),ql 11 [7] []),(Qk 75 3 (tq 11),ql 11 [7] []),(Qs 76 294 [(Qw 75)],qc [7,11] []),(Qs 77 293 [((tq 73),1),(Qw 74),(Qw 76)],q0),(Qi 72 (tq 77),q0),(Qq 78 (tq 72) 0,q0),(Qq 79 (tq 72) 1,q0),(Qm 34 (tq 7) (tq 78),q0)]) .skip)) (.seq (.reg [oo 80 (.load true 34 (tq 7) true),Qm 34 (tq 4) (tq 80),Qh 5 (Qf 0)]) .ret)))))))))))))))⟩
def zsM:Hint:=⟨[(0,0),(3,3),(8,3),(10,4),(10,5),(15,3),(18,5),(19,0)],[],[none,none,none,none,none,none,none],[],[(6,1,[15,17])],true,true,[]⟩
def zqJ:Nat→Sh:=xY [(18,(.sl 5)),(46,(.int .i64)),(78,(.row [(.int .u8),(.int .u8),(.int .u8),(.int .u8),(.int .u8),(.int .u8),(.int .u8),(.int .u8),(.int .u8),(.int .u8),(.int .u8),(.int .u8),(.int .u8),(.int .u8),(.int .u8),(.int .u8),(.int .u8),(.int .u8),(.int .u8),(.int .u8),(.int .u8),(.int .u8),(.int .u8),(.int .u8),(.int .u8),(.int .u8),(.int .u8),(.int .u8),(.int .u8),(.int .u8),(.int .u8),(.int .u8),(.sl 5),(.sl 5)]))]
def zqq(yL:zfA)(ye:yM)(xk:zav)(zk:zaw)(yf:zO)(yk:zax)(yj:zau)(xx:zc1)(zM:zgw)(L:Nat):CBC:=(xD 293 (zlq zM L) (xD 294 (zg6 xx L) (xD 292 (zix yj L) (xD 291 (zik yk L) (xD 290 (zeD yf L) (xD 289 (zit zk L) (xD 288 (ziz xk L) (xD 287 (zis ye L) (xD 281 (zjx yL L) noC)))))))))
def zrA{β:Type}(yL:zfA)(ye:yM)(xk:zav)(zk:zaw)(yf:zO)(yk:zax)(yj:zau)(xx:zc1)(zM:zgw)(L:Nat)(p0 p1:List V)(D:List V→Int→Option β):Option β:=chk (0+34≤(XG p0)) (yL β L (Xt V.dem (XI 34 p0)) (fun v0=>ifb (!v0) (D (We 32 (Qa (0:Int))++[(V.sl 5 ([]:List (List V))),(V.sl 5 ([]:List (List V)))]) (6:Int)) (cLd 5 p0 32 fun v1=>chk (0+3≤(XG p1)) (ye β L v1 (XI 3 p1) (fun v2=>ifb (decide (v2<(0:Int))) (D (We 32 (Qa (0:Int))++[(V.sl 5 ([]:List (List V))),(V.sl 5 ([]:List (List V)))]) (9:Int)) (chk (0+34≤(XG p0)) (xk β L (Xt V.dem (XI 34 p0)) (fun v3 v4 v5 v6 v7 v8 v9 G I J M N O P Q R S U W X Y Z aa ab ac ad ae af ag ah ai aj aH am an aJ=>chk (0≤v2∧v2<((aH:Nat):Int)) (chk ((0+((XH v2)*5))+5≤(XG an)) (chk ((XG (XI 5 (XJ (0+((XH v2)*5)) an)))=5∧0+5≤5) (lt (xg [(Qe (0:Int)),(Qc (0:Int)),(Qb (0:Int)),(Qc (0:Int)),(Qc (0:Int))] 0 (XI 5 (XJ (0+((XH v2)*5)) an))) fun aq=>zk β L aH v2 an (fun ak b0=>chk ([(XG b0)]=[(XG an)]) (chk (0+32≤(XG p0)) (chk (1+3≤(XG aq)) (yf β L (XI 32 p0) (XI 3 (XJ 1 aq)) (fun b1=>chk (1=1∧0+1≤(XG aq)) (lt (xg aq 0 [(Qe b1)]) fun al=>cI .i64 al 0 fun b2=>yk β L am b2 aJ (fun F b3 E=>chk ([(XG E)]=[(XG aJ)]) (lt (QF .i64 ((b3:Int)-F)) fun ar=>ifb (decide (ar≥(8:Int))) (chk (0≤F∧F<((am:Nat):Int)) (chk (((0+((XH F)*5))+1)+3≤(XG E)) (chk ((XG (XI 3 (XJ ((0+((XH F)*5))+1) E)))=3∧0+3≤3) (lt (xg [(Qc (0:Int)),(Qb (0:Int)),(Qc (0:Int))] 0 (XI 3 (XJ ((0+((XH F)*5))+1) E))) fun au=>zk β L am F E (fun b4 b5=>chk ([(XG b5)]=[(XG E)]) (chk (0+5≤(XG al)) (yj β L b4 (XI 5 al) (fun aK=>ifb (decide (ar≥(8:Int))) (chk (0+3≤(XG au)) (chk (0+3≤(XG au)) (xx β L (XI 3 au) (fun b6=>zM β L [(Qa v3),(Qa v4),(Qa v5),(Qa v6),(Qa v7),(Qa v8),(Qa v9),(Qa G),(Qa I),(Qa J),(Qa M),(Qa N),(Qa O),(Qa P),(Qa Q),(Qa R),(Qa S),(Qa U),(Qa W),(Qa X),(Qa Y),(Qa Z),(Qa aa),(Qa ab),(Qa ac),(Qa ad),(Qa ae),(Qa af),(Qa ag),(Qa ah),(Qa ai),(Qa aj),(V.sl 5 ak),(V.sl 5 aK)] (XI 3 au) b6 (fun A cX=>chk (XG A=34) (cI .u8 A 0 fun b7=>cI .u8 A 1 fun b8=>cI .u8 A 2 fun b9=>cI .u8 A 3 fun ca=>cI .u8 A 4 fun cb=>cI .u8 A 5 fun cc=>cI .u8 A 6 fun cd=>cI .u8 A 7 fun ce=>cI .u8 A 8 fun cf=>cI .u8 A 9 fun cg=>cI .u8 A 10 fun ch=>cI .u8 A 11 fun ci=>cI .u8 A 12 fun cj=>cI .u8 A 13 fun ck=>cI .u8 A 14 fun cl=>cI .u8 A 15 fun cm=>cI .u8 A 16 fun cn=>cI .u8 A 17 fun co=>cI .u8 A 18 fun cp=>cI .u8 A 19 fun cq=>cI .u8 A 20 fun cr=>cI .u8 A 21 fun ct=>cI .u8 A 22 fun cu=>cI .u8 A 23 fun cv=>cI .u8 A 24 fun cw=>cI .u8 A 25 fun cx=>cI .u8 A 26 fun cy=>cI .u8 A 27 fun cz=>cI .u8 A 28 fun cA=>cI .u8 A 29 fun cC=>cI .u8 A 30 fun cD=>cI .u8 A 31 fun cE=>cL 5 A 32 fun cF=>cL 5 A 33 fun cH=>D [(Qa b7),(Qa b8),(Qa b9),(Qa ca),(Qa cb),(Qa cc),(Qa cd),(Qa ce),(Qa cf),(Qa cg),(Qa ch),(Qa ci),(Qa cj),(Qa ck),(Qa cl),(Qa cm),(Qa cn),(Qa co),(Qa cp),(Qa cq),(Qa cr),(Qa ct),(Qa cu),(Qa cv),(Qa cw),(Qa cx),(Qa cy),(Qa cz),(Qa cA),(Qa cC),(Qa cD),(Qa cE),(V.sl 5 cF),(V.sl 5 cH)] (0:Int))))))) (D [(Qa v3),(Qa v4),(Qa v5),(Qa v6),(Qa v7),(Qa v8),(Qa v9),(Qa G),(Qa I),(Qa J),(Qa M),(Qa N),(Qa O),(Qa P),(Qa Q),(Qa R),(Qa S),(Qa U),(Qa W),(Qa X),(Qa Y),(Qa Z),(Qa aa),(Qa ab),(Qa ac),(Qa ad),(Qa ae),(Qa af),(Qa ag),(Qa ah),(Qa ai),(Qa aj),(V.sl 5 ak),(V.sl 5 aK)] (0:Int)))))))))) (chk (0+5≤(XG al)) (ifb (List.isEmpty E) (yj β L (xh 5 am E) (XI 5 al) (fun aN=>ifb (decide (ar≥(8:Int))) (xx β L [(Qc (0:Int)),(Qb (0:Int)),(Qc (0:Int))] (fun cJ=>zM β L [(Qa v3),(Qa v4),(Qa v5),(Qa v6),(Qa v7),(Qa v8),(Qa v9),(Qa G),(Qa I),(Qa J),(Qa M),(Qa N),(Qa O),(Qa P),(Qa Q),(Qa R),(Qa S),(Qa U),(Qa W),(Qa X),(Qa Y),(Qa Z),(Qa aa),(Qa ab),(Qa ac),(Qa ad),(Qa ae),(Qa af),(Qa ag),(Qa ah),(Qa ai),(Qa aj),(V.sl 5 ak),(V.sl 5 aN)] [(Qc (0:Int)),(Qb (0:Int)),(Qc (0:Int))] cJ (fun C cY=>chk (XG C=34) (cI .u8 C 0 fun cM=>cI .u8 C 1 fun cN=>cI .u8 C 2 fun cO=>cI .u8 C 3 fun cP=>cI .u8 C 4 fun cQ=>cI .u8 C 5 fun cR=>cI .u8 C 6 fun aQ=>cI .u8 C 7 fun aR=>cI .u8 C 8 fun aT=>cI .u8 C 9 fun aU=>cI .u8 C 10 fun aW=>cI .u8 C 11 fun aX=>cI .u8 C 12 fun aY=>cI .u8 C 13 fun aZ=>cI .u8 C 14 fun a0=>cI .u8 C 15 fun a1=>cI .u8 C 16 fun a2=>cI .u8 C 17 fun a3=>cI .u8 C 18 fun a4=>cI .u8 C 19 fun a5=>cI .u8 C 20 fun a6=>cI .u8 C 21 fun a7=>cI .u8 C 22 fun a8=>cI .u8 C 23 fun a9=>cI .u8 C 24 fun ba=>cI .u8 C 25 fun bb=>cI .u8 C 26 fun bc=>cI .u8 C 27 fun bd=>cI .u8 C 28 fun be=>cI .u8 C 29 fun bf=>cI .u8 C 30 fun bg=>cI .u8 C 31 fun bh=>cL 5 C 32 fun bi=>cL 5 C 33 fun bj=>D [(Qa cM),(Qa cN),(Qa cO),(Qa cP),(Qa cQ),(Qa cR),(Qa aQ),(Qa aR),(Qa aT),(Qa aU),(Qa aW),(Qa aX),(Qa aY),(Qa aZ),(Qa a0),(Qa a1),(Qa a2),(Qa a3),(Qa a4),(Qa a5),(Qa a6),(Qa a7),(Qa a8),(Qa a9),(Qa ba),(Qa bb),(Qa bc),(Qa bd),(Qa be),(Qa bf),(Qa bg),(Qa bh),(V.sl 5 bi),(V.sl 5 bj)] (0:Int))))) (D [(Qa v3),(Qa v4),(Qa v5),(Qa v6),(Qa v7),(Qa v8),(Qa v9),(Qa G),(Qa I),(Qa J),(Qa M),(Qa N),(Qa O),(Qa P),(Qa Q),(Qa R),(Qa S),(Qa U),(Qa W),(Qa X),(Qa Y),(Qa Z),(Qa aa),(Qa ab),(Qa ac),(Qa ad),(Qa ae),(Qa af),(Qa ag),(Qa ah),(Qa ai),(Qa aj),(V.sl 5 ak),(V.sl 5 aN)] (0:Int)))) (yj β L (xh 5 am E) (XI 5 al) (fun aE=>ifb (decide (ar≥(8:Int))) (xx β L [(Qc (0:Int)),(Qb (0:Int)),(Qc (0:Int))] (fun bk=>zM β L [(Qa v3),(Qa v4),(Qa v5),(Qa v6),(Qa v7),(Qa v8),(Qa v9),(Qa G),(Qa I),(Qa J),(Qa M),(Qa N),(Qa O),(Qa P),(Qa Q),(Qa R),(Qa S),(Qa U),(Qa W),(Qa X),(Qa Y),(Qa Z),(Qa aa),(Qa ab),(Qa ac),(Qa ad),(Qa ae),(Qa af),(Qa ag),(Qa ah),(Qa ai),(Qa aj),(V.sl 5 ak),(V.sl 5 aE)] [(Qc (0:Int)),(Qb (0:Int)),(Qc (0:Int))] bk (fun z cW=>chk (XG z=34) (cI .u8 z 0 fun bm=>cI .u8 z 1 fun bn=>cI .u8 z 2 fun bo=>cI .u8 z 3 fun bp=>cI .u8 z 4 fun bq=>cI .u8 z 5 fun br=>cI .u8 z 6 fun bt=>cI .u8 z 7 fun bu=>cI .u8 z 8 fun bv=>cI .u8 z 9 fun bw=>cI .u8 z 10 fun bz=>cI .u8 z 11 fun bC=>cI .u8 z 12 fun bD=>cI .u8 z 13 fun bE=>cI .u8 z 14 fun bF=>cI .u8 z 15 fun bG=>cI .u8 z 16 fun bH=>cI .u8 z 17 fun bI=>cI .u8 z 18 fun bJ=>cI .u8 z 19 fun bK=>cI .u8 z 20 fun bL=>cI .u8 z 21 fun bM=>cI .u8 z 22 fun bN=>cI .u8 z 23 fun bO=>cI .u8 z 24 fun bP=>cI .u8 z 25 fun bQ=>cI .u8 z 26 fun bR=>cI .u8 z 27 fun bS=>cI .u8 z 28 fun bT=>cI .u8 z 29 fun bU=>cI .u8 z 30 fun bV=>cI .u8 z 31 fun bW=>cL 5 z 32 fun bX=>cL 5 z 33 fun bY=>D [(Qa bm),(Qa bn),(Qa bo),(Qa bp),(Qa bq),(Qa br),(Qa bt),(Qa bu),(Qa bv),(Qa bw),(Qa bz),(Qa bC),(Qa bD),(Qa bE),(Qa bF),(Qa bG),(Qa bH),(Qa bI),(Qa bJ),(Qa bK),(Qa bL),(Qa bM),(Qa bN),(Qa bO),(Qa bP),(Qa bQ),(Qa bR),(Qa bS),(Qa bT),(Qa bU),(Qa bV),(Qa bW),(V.sl 5 bX),(V.sl 5 bY)] (0:Int))))) (D [(Qa v3),(Qa v4),(Qa v5),(Qa v6),(Qa v7),(Qa v8),(Qa v9),(Qa G),(Qa I),(Qa J),(Qa M),(Qa N),(Qa O),(Qa P),(Qa Q),(Qa R),(Qa S),(Qa U),(Qa W),(Qa X),(Qa Y),(Qa Z),(Qa aa),(Qa ab),(Qa ac),(Qa ad),(Qa ae),(Qa af),(Qa ag),(Qa ah),(Qa ai),(Qa aj),(V.sl 5 ak),(V.sl 5 aE)] (0:Int)))))))))))))))))))))))))
theorem zzO{β:Type}(yL:zfA)(ye:yM)(xk:zav)(zk:zaw)(yf:zO)(yk:zax)(yj:zau)(xx:zc1)(zM:zgw)(L:Nat)(C D:List V)(k:KK β):yp zqJ (zqq yL ye xk zk yf yk yj xx zM L) L zmL [(V.agg C),(V.agg D)] [] k=zrA yL ye xk zk yf yk yj xx zM L C D (fun z A=>k (V.tup [(V.agg z),(Qe A)]) []):=by kernel_rfl
abbrev zcm:=∀ (β:Type),Nat→List V→List V→(List V→Int→Option β)→Option β
def zy(β:Type)(L:Nat)(A C:List V)(z:List V→Int→Option β):Option β:=zrA yL ye xk zk yf yk yj xx zM L A C z
def znM(zy:zcm)(L:Nat)(β:Type)(args:List V)(bor:Bor)(k:KK β):Option β:=match args,bor with
 | [a0,a1],[]=>aG a0 fun C=>aG a1 fun D=>zy β L C D (fun z A=>k (V.tup [(V.agg z),(Qe A)]) [])
 | _,_=>none
theorem zAc(L:Nat)(β:Type)(args:List V)(bor:Bor)(k:KK β)(r:β)(h:znM zy L β args bor k=some r):yp zqJ (zqq yL ye xk zk yf yk yj xx zM L) L zmL args bor k=some r:=by
 unfold znM at h
 split at h
 ·have q:=zV h; clear h; obtain ⟨z,rfl,h⟩:=q
  have q:=zV h; clear h; obtain ⟨A,rfl,h⟩:=q
  exact (zzO yL ye xk zk yf yk yj xx zM L z A k).trans h
 ·cases h
def znU:CF:=⟨18,[.cell 2 true 3],(.seq (.reg [oo 2 (.alloc true [(.sc (.int .u32 0)),(.sc (.int .u16 0)),(.sc (.int .u32 0))])]) (.seq (.reg [Qh 3 (tq 0),Qs 4 231 [(Qw 3),((Qf 6),0)],Qu 5 .u32 (tq 4),oo 6 (.bin .shl (tq 5) (.const (.sc (.int .u64 16)))),Qh 7 (tq 0),Qs 8 231 [(Qw 7),((Qf 5),0)],Qu 9 .u32 (tq 8),Qp 10 .add (tq 6) (tq 9),Qh 11 (tq 0),Qs 12 231 [(Qw 11),((Qf 2),0)],Qu 13 .u16 (tq 12),Qh 14 (tq 0),Qs 15 231 [(Qw 14),((Qf 50),0)],Qu 16 .u32 (tq 15),oo 17 (.build [(.sc (.int .u32 0)),(.sc (.int .u16 0)),(.sc (.int .u32 0))] [(0,1,(tq 10)),(1,1,(tq 13)),(2,1,(tq 16))]),Qm 3 (tq 2) (tq 17)]) .ret))⟩
def ztN:Hint:=⟨[],[],[none],[],[],false,false,[]⟩
def zsk:Nat→Sh:=xY []
def zrT(xa:xj)(L:Nat):CBC:=(xD 231 (zdN xa L) noC)
def ztr{β:Type}(xa:xj)(L:Nat)(C:List (List V))(D:Int)(z:List V→List (List V)→Int→Option β):Option β:=xa β L (6:Int) C D (fun P Q R=>lt (QF .u32 P) fun S=>lt (zqw .u32 S (16:Int)) fun U=>xa β L (5:Int) Q R (fun W X Y=>lt (QF .u32 W) fun Z=>lt (QF .u32 ((U:Int)+Z)) fun x9=>xa β L (2:Int) X Y (fun E F G=>lt (QF .u16 E) fun I=>xa β L (50:Int) F G (fun J M N=>lt (QF .u32 J) fun O=>lt [(Qc x9),(Qb I),(Qc O)] fun A=>chk (0=0∧(XG A)=3∧3≠0) (z A M N)))))
theorem zAT{β:Type}(xa:xj)(L:Nat)(z:List (List V))(A:Int)(k:KK β):yp zsk (zrT xa L) L znU [(V.ptr 0 0)] [(.live false [(V.sl 1 z),(Qe A)])] k=ztr xa L z A (fun C z A=>k (V.agg C) [(.live false [(V.sl 1 z),(Qe A)])]):=by kernel_rfl
abbrev zcZ:=∀ (β:Type),Nat→List (List V)→Int→(List V→List (List V)→Int→Option β)→Option β
def yA(β:Type)(L:Nat)(A:List (List V))(C:Int)(z:List V→List (List V)→Int→Option β):Option β:=ztr xa L A C z
def zpP(yA:zcZ)(L:Nat)(β:Type)(args:List V)(bor:Bor)(k:KK β):Option β:=match args,bor with
 | [a0],[(.live false [w0_0,w0_1])]=>aP 0 0 a0 (aL 1 w0_0 fun z=>aI .i64 w0_1 fun A=>yA β L z A (fun C z A=>k (V.agg C) [(.live false [(V.sl 1 z),(Qe A)])]))
 | _,_=>none
theorem zAV(L:Nat)(β:Type)(args:List V)(bor:Bor)(k:KK β)(r:β)(h:zpP yA L β args bor k=some r):yp zsk (zrT xa L) L znU args bor k=some r:=by
 unfold zpP at h
 split at h
 ·have q:=zqe h; clear h; obtain ⟨rfl,h⟩:=q
  have q:=za1 h; clear h; obtain ⟨z,rfl,h⟩:=q
  have q:=xr h; clear h; obtain ⟨A,rfl,h⟩:=q
  exact (zAT xa L z A k).trans h
 ·cases h
def zlz:CF:=⟨24,[.cell 6 true 34,.tmp 7,.tmp 8],(.seq (.reg [Qv 3 (tq 0),Qv 4 (tq 1),oo 6 (.alloc true (rp 32 (.sc (.int .u8 0)) (rp 2 (.gs 5 []) []))),Qh 7 (Qg false),Qh 8 (Qf 0)]) (.seq (.seq (.reg [Qk 11 34 (tq 3),Qs 12 281 [((tq 11),1)],Qt 13 (tq 12)]) (.cond (tq 13) (.seq (.reg [oo 14 (.build (rp 32 (.sc (.int .u8 0)) (rp 2 (.sl 5 []) [])) []),Qm 34 (tq 6) (tq 14),Qh 7 (Qg false),Qh 8 (Qf 6)]) .ret) .skip)) (.seq (.reg [Qk 16 34 (tq 3),Qk 17 3 (tq 4),Qh 18 (tq 2),Qs 19 293 [((tq 16),1),(Qw 17),(Qw 18)],Qi 15 (tq 19),Qq 20 (tq 15) 0,Qq 21 (tq 15) 1,oo 9 (.alloc true (rp 32 (.sc (.int .u8 0)) (rp 2 (.gs 5 []) []))),Qm 34 (tq 9) (tq 20),Qh 10 (tq 21)]) (.seq (.reg [Qk 22 34 (tq 9),Qh 23 (tq 10),Qm 34 (tq 6) (tq 22),Qh 7 (tq 23),Qh 8 (Qf 0)]) .ret))))⟩
def zrS:Hint:=⟨[(0,0),(0,2),(3,4),(3,7)],[],[none,none,none],[],[],false,false,[]⟩
def zpe:Nat→Sh:=xY []
def zpr(yL:zfA)(zM:zgw)(L:Nat):CBC:=(xD 293 (zlq zM L) (xD 281 (zjx yL L) noC))
def zqz{β:Type}(yL:zfA)(zM:zgw)(L:Nat)(A C:List V)(E:Int)(z:List V→Bool→Int→Option β):Option β:=chk (0+34≤(XG A)) (yL β L (Xt V.dem (XI 34 A)) (fun F=>ifb (!F) (lt (We 32 (Qa (0:Int))++[(V.sl 5 ([]:List (List V))),(V.sl 5 ([]:List (List V)))]) fun r1=>chk (0=0∧(XG r1)=34∧34≠0) (z r1 false (6:Int))) (chk (0+34≤(XG A)) (chk (0+3≤(XG C)) (zM β L (Xt V.dem (XI 34 A)) (XI 3 C) E (fun D G=>chk ((XG D)=34∧0+34≤34) (lt (xg (We 32 (Qa (0:Int))++[(V.gs 5 ([]:List (List V))),(V.gs 5 ([]:List (List V)))]) 0 D) fun r4=>chk (0+34≤(XG r4)) (chk ((XG (XI 34 r4))=34∧0+34≤34) (lt (xg (We 32 (Qa (0:Int))++[(V.gs 5 ([]:List (List V))),(V.gs 5 ([]:List (List V)))]) 0 (XI 34 r4)) fun r5=>chk (0=0∧(XG r5)=34∧34≠0) (z r5 G (0:Int)))))))))))
theorem zyn{β:Type}(yL:zfA)(zM:zgw)(L:Nat)(D E:List V)(F:Int)(k:KK β):yp zpe (zpr yL zM L) L zlz [(V.agg D),(V.agg E),(Qc F)] [] k=zqz yL zM L D E F (fun z A C=>k (V.tup [(V.agg z),(V.sc (.bool A)),(Qe C)]) []):=by kernel_rfl
abbrev zbP:=∀ (β:Type),Nat→List V→List V→Int→(List V→Bool→Int→Option β)→Option β
def yv(β:Type)(L:Nat)(A C:List V)(D:Int)(z:List V→Bool→Int→Option β):Option β:=zqz yL zM L A C D z
def zmG(yv:zbP)(L:Nat)(β:Type)(args:List V)(bor:Bor)(k:KK β):Option β:=match args,bor with
 | [a0,a1,a2],[]=>aG a0 fun D=>aG a1 fun E=>aI .u32 a2 fun F=>yv β L D E F (fun z A C=>k (V.tup [(V.agg z),(V.sc (.bool A)),(Qe C)]) [])
 | _,_=>none
theorem zyB(L:Nat)(β:Type)(args:List V)(bor:Bor)(k:KK β)(r:β)(h:zmG yv L β args bor k=some r):yp zpe (zpr yL zM L) L zlz args bor k=some r:=by
 unfold zmG at h
 split at h
 ·have q:=zV h; clear h; obtain ⟨z,rfl,h⟩:=q
  have q:=zV h; clear h; obtain ⟨A,rfl,h⟩:=q
  have q:=xr h; clear h; obtain ⟨C,rfl,h⟩:=q
  exact (zyn yL zM L z A C k).trans h
 ·cases h
def zfM:CC:=(.seq (.seq (.reg [Qh 10 (tq 4),Qp 11 .gtr (tq 10) (Qf 0)]) (.cond (tq 11) .skip (.seq (.mask (bl 12 49) (bl 313358403731439 49)) (.exit 0)))) (.seq (.block 1 (.seq (.reg [Qh 14 (tq 0),Qs 15 231 [(Qw 14),((Qf 4),0)]]) (.block 2 (.seq (.reg [Qp 28 .eql (tq 15) (Qf 0),Qh 27 (tq 28)]) (.cond (tq 27) (.seq (.reg [Ql 29 32 (tq 3),Qj 30 1 (tq 29),Qr 31 (tq 30),Qp 32 .gtr (tq 31) (Qf 0)]) (.cond (tq 32) (.dreg [] [(Qk 34 34 (tq 3),ql 3 [] []),(Ql 35 32 (tq 3),q0),(Qj 36 1 (tq 35),ql 3 [] []),(Qh 37 (tq 0),q0),(Ql 38 32 (tq 3),q0),(Qj 39 1 (tq 38),ql 3 [] []),(Qr 40 (tq 39),q0),(Qs 41 231 [(Qw 37),(Qw 40)],qc [3] []),(Qo 42 5 (tq 36) (tq 41),q0),(Ql 43 1 (tq 42),q0),(Qk 44 3 (tq 43),qc [3] []),(Qs 45 272 [((tq 34),1),(Qw 44)],q0),(Qi 33 (tq 45),q0),(Qq 46 (tq 33) 0,q0),(Qq 47 (tq 33) 1,q0),(Qm 34 (tq 3) (tq 46),q0)]) .skip)) (.dreg [] [(Qk 17 34 (tq 3),ql 3 [] []),(Qh 18 (tq 0),q0),(Qs 19 262 [(Qw 18)],qc [3] []),(Qh 20 (tq 0),q0),(Qs 21 231 [(Qw 20),((Qf 4),0)],qc [3] []),(Qu 22 .u32 (tq 21),q0),(Qs 23 273 [((tq 17),1),(Qw 19),(Qw 22)],q0),(Qi 16 (tq 23),q0),(Qq 24 (tq 16) 0,q0),(Qq 25 (tq 16) 1,q0),(Qq 26 (tq 16) 2,q0),(Qm 34 (tq 3) (tq 24),q0)])))))) (.reg [Qh 12 (tq 4),Qp 13 .sub (tq 12) (Qf 1),Qh 4 (tq 13)])))
def zpa:CC:=(.seq (.reg [Qk 48 34 (tq 3),Qm 34 (tq 2) (tq 48)]) .ret)
def zgu:CF:=⟨49,[.cell 2 true 34],(.seq (.reg [oo 2 (.alloc true (rp 32 (.sc (.int .u8 0)) (rp 2 (.gs 5 []) [])))]) (.seq (.reg [Qh 5 (tq 0),Qs 6 236 [(Qw 5)],oo 7 (.build (rp 32 (.sc (.int .u8 0)) (rp 2 (.sl 5 []) [])) [(0,32,(tq 6))]),oo 3 (.alloc true (rp 32 (.sc (.int .u8 0)) (rp 2 (.gs 5 []) []))),Qm 34 (tq 3) (tq 7)]) (.seq (.seq (.reg [Qh 8 (tq 0),Qs 9 231 [(Qw 8),((Qf 40),0)],Qh 4 (tq 9)]) (.block 0 (.loop (bl 29 49) (bl 313358403731455 49) zfM))) zpa)))⟩
def ztQ:Hint:=⟨[(0,0),(1,3),(9,12),(6,7)],[],[none,some ((bl 29 49),(bl 313358403731455 49)),none,some ((bl 12 49),(bl 313358403731439 49)),none,none,none,none,none],[],[],false,false,[]⟩
def zdB:Nat→Sh:=xY [(30,(.sl 5)),(36,(.sl 5)),(39,(.sl 5))]
def zdy(xA:zcY)(xa:xj)(zy:zcm)(yA:zcZ)(yv:zbP)(L:Nat):CBC:=(xD 273 (zmG yv L) (xD 262 (zpP yA L) (xD 272 (znM zy L) (xD 231 (zdN xa L) (xD 236 (zpT xA L) noC)))))
def ziQ:St→St:=zaY 1 (bl 29 49) (bl 313358403731455 49)
def zgB(C:Int)(z:List (List V))(A:Int)(D E:List V):St:=⟨((V.ptr 0 0)::(jn 1 ((V.ptr 3 0)::((V.ptr 4 0)::((Qe C)::(jn 44 [])))))),((.live false [(V.sl 1 z),(Qe A)])::(gn 2 ((.live true D)::((.live true E)::(gn 45 [])))))⟩
def zn7(z:List (List V))(A:Int)(C D:List V):St:=⟨(jn 2 ((V.ptr 3 0)::((V.ptr 4 0)::(jn 45 [])))),((.live false [(V.sl 1 z),(Qe A)])::(gn 2 ((.live true C)::((.live true D)::(gn 45 [])))))⟩
def ztl{β:Type}(xA:zcY)(xa:xj)(zy:zcm)(yA:zcZ)(yv:zbP)(L:Nat)(A:List (List V))(C:Int)(z:Int→List (List V)→Int→List V→List V→Option β):Option β:=xA β L A C (fun D E F=>chk ((XG D)=32∧0+32≤34) (chk ((XG (xg (We 32 (Qa (0:Int))++[(V.sl 5 ([]:List (List V))),(V.sl 5 ([]:List (List V)))]) 0 D))=34∧0+34≤34) (lt (xg (We 32 (Qa (0:Int))++[(V.gs 5 ([]:List (List V))),(V.gs 5 ([]:List (List V)))]) 0 (xg (We 32 (Qa (0:Int))++[(V.sl 5 ([]:List (List V))),(V.sl 5 ([]:List (List V)))]) 0 D)) fun r3=>xa β L (40:Int) E F (fun G I J=>z G I J (We 32 (Qa (0:Int))++[(V.gs 5 ([]:List (List V))),(V.gs 5 ([]:List (List V)))]) r3))))
theorem zAQ{β:Type}(xA:zcY)(xa:xj)(zy:zcm)(yA:zcZ)(yv:zbP)(L:Nat)(z:List (List V))(A:Int)(k:KK β):yp zdB (zdy xA xa zy yA yv L) L zgu [(V.ptr 0 0)] [(.live false [(V.sl 1 z),(Qe A)])] k=ztl xA xa zy yA yv L z A (fun C z A D E=>yD (zj zdB (zdy xA xa zy yA yv L) 1 L zfM) ziQ L (zgB C z A D E) (xB 0 (yN (zj zdB (zdy xA xa zy yA yv L) 1 L zpa) (yU 1 (CF.res zgu) k)))):=by kernel_rfl
def zeH{β:Type}(xA:zcY)(xa:xj)(zy:zcm)(yA:zcZ)(yv:zbP)(L:Nat)(E:Int)(C:List (List V))(D:Int)(F A:List V)(z:Int→List (List V)→Int→List V→List V→Option β)(J:List (List V)→Int→List V→List V→Option β):Option β:=ifb (decide (E>(0:Int))) (xa β L (4:Int) C D (fun v7 M N=>ifb ((v7:Int)==(0:Int)) (cLd 5 A 32 fun O=>ifb (decide (((XG O:Nat):Int)>(0:Int))) (chk (0+34≤(XG A)) (cLd 5 A 32 fun P=>cLd 5 A 32 fun Q=>xa β L ((XG Q:Nat):Int) M N (fun R S U=>idx P R fun W=>zy β L (Xt V.dem (XI 34 A)) (XI 3 (XJ 1 W)) (fun G ak=>chk ((XG G)=34∧0+34≤(XG A)) (lt (xg A 0 G) fun X=>lt (QF .i64 ((E:Int)-(1:Int))) fun Y=>z Y S U F X))))) (lt (QF .i64 ((E:Int)-(1:Int))) fun Z=>z Z M N F A)) (chk (0+34≤(XG A)) (yA β L M N (fun aa ab ac=>xa β L (4:Int) ab ac (fun ad ae af=>lt (QF .u32 ad) fun ag=>yv β L (Xt V.dem (XI 34 A)) aa ag (fun I al am=>chk ((XG I)=34∧0+34≤(XG A)) (lt (xg A 0 I) fun ah=>lt (QF .i64 ((E:Int)-(1:Int))) fun ai=>z ai ae af F ah)))))))) (J C D F A)
theorem zvq{β:Type}(xA:zcY)(xa:xj)(zy:zcm)(yA:zcZ)(yv:zbP)(L:Nat)(E:Int)(z:List (List V))(A:Int)(C D:List V)(X:St→Option β)(K:KT β):zj zdB (zdy xA xa zy yA yv L) 1 L zfM (zgB E z A C D) (zbt ziQ X K)=zeH xA xa zy yA yv L E z A C D (fun E z A C D=>X (zgB E z A C D)) (fun z A C D=>K (.exit 0) (zn7 z A C D)):=by kernel_rfl
def zk7{β:Type}(xA:zcY)(xa:xj)(zy:zcm)(yA:zcZ)(yv:zbP)(L:Nat)(C:List (List V))(D:Int)(F E:List V)(z:List V→List (List V)→Int→Option β):Option β:=chk (0+34≤(XG E)) (chk ((XG (XI 34 E))=34∧0+34≤(XG F)) (lt (xg F 0 (XI 34 E)) fun A=>chk (0=0∧(XG A)=34∧34≠0) (z A C D)))
theorem ztZ{β:Type}(xA:zcY)(xa:xj)(zy:zcm)(yA:zcZ)(yv:zbP)(L:Nat)(z:List (List V))(A:Int)(C D:List V)(k:KK β):(xB 0 (yN (zj zdB (zdy xA xa zy yA yv L) 1 L zpa) (yU 1 (CF.res zgu) k))) (.exit 0) (zn7 z A C D)=zk7 xA xa zy yA yv L z A C D (fun E z A=>k (V.agg E) [(.live false [(V.sl 1 z),(Qe A)])]):=by kernel_rfl
def zcW{β:Type}(xA:zcY)(xa:xj)(zy:zcm)(yA:zcZ)(yv:zbP)(L:Nat)(C:List (List V)→Int→List V→List V→Option β):Nat→Int→List (List V)→Int→List V→List V→Option β
 | 0,_,_,_,_,_=>none
 | n+1,D,z,A,E,F=>zeH xA xa zy yA yv L D z A E F (fun D z A E F=>zcW xA xa zy yA yv L C n D z A E F) C
theorem zo7{β:Type}(xA:zcY)(xa:xj)(zy:zcm)(yA:zcZ)(yv:zbP)(L:Nat)(K:KT β):∀ (n:Nat) (E:Int) (z:List (List V)) (A:Int) (C D:List V),yD (zj zdB (zdy xA xa zy yA yv L) 1 L zfM) ziQ n (zgB E z A C D) K=zcW xA xa zy yA yv L (fun z A C D=>K (.exit 0) (zn7 z A C D)) n E z A C D:=by
 intro n
 induction n with
 | zero=>intros; rfl
 | succ n ih=>
  intro E z A C D
  refine (zvq xA xa zy yA yv L E z A C D (fun σ=>yD (zj zdB (zdy xA xa zy yA yv L) 1 L zfM) ziQ n σ K) K).trans ?_
  simp only [ih]
  rfl
def zpS{β:Type}(xA:zcY)(xa:xj)(zy:zcm)(yA:zcZ)(yv:zbP)(L:Nat)(z:List (List V))(A:Int)(C:List V→List (List V)→Int→Option β):Option β:=ztl xA xa zy yA yv L z A (fun F z A D E=>zcW xA xa zy yA yv L (fun z A D E=>zk7 xA xa zy yA yv L z A D E C) L F z A D E)
theorem zAD{β:Type}(xA:zcY)(xa:xj)(zy:zcm)(yA:zcZ)(yv:zbP)(L:Nat)(z:List (List V))(A:Int)(k:KK β):yp zdB (zdy xA xa zy yA yv L) L zgu [(V.ptr 0 0)] [(.live false [(V.sl 1 z),(Qe A)])] k=zpS xA xa zy yA yv L z A (fun C z A=>k (V.agg C) [(.live false [(V.sl 1 z),(Qe A)])]):=by
 refine (zAQ xA xa zy yA yv L z A k).trans ?_
 unfold zpS
 first
  | (simp only [zo7,ztZ]; done)
  | (simp only [zo7]; rfl)
abbrev zK:=∀ (β:Type),Nat→List (List V)→Int→(List V→List (List V)→Int→Option β)→Option β
def zf(β:Type)(L:Nat)(A:List (List V))(C:Int)(z:List V→List (List V)→Int→Option β):Option β:=zpS xA xa zy yA yv L A C z
def zpH(zf:zK)(L:Nat)(β:Type)(args:List V)(bor:Bor)(k:KK β):Option β:=match args,bor with
 | [a0],[(.live false [w0_0,w0_1])]=>aP 0 0 a0 (aL 1 w0_0 fun z=>aI .i64 w0_1 fun A=>zf β L z A (fun C z A=>k (V.agg C) [(.live false [(V.sl 1 z),(Qe A)])]))
 | _,_=>none
theorem zAv(L:Nat)(β:Type)(args:List V)(bor:Bor)(k:KK β)(r:β)(h:zpH zf L β args bor k=some r):yp zdB (zdy xA xa zy yA yv L) L zgu args bor k=some r:=by
 unfold zpH at h
 split at h
 ·have q:=zqe h; clear h; obtain ⟨rfl,h⟩:=q
  have q:=za1 h; clear h; obtain ⟨z,rfl,h⟩:=q
  have q:=xr h; clear h; obtain ⟨A,rfl,h⟩:=q
  exact (zAD xA xa zy yA yv L z A k).trans h
 ·cases h
def zaq:CC:=(.seq (.reg [Qp 9 .lss (tq 8) (tq 7)]) (.seq (.cond (tq 9) .skip (.seq (.mask (bl 0 19) (bl 458703 19)) (.exit 0))) (.seq (.block 1 (.seq (.reg [Qh 10 (tq 8),Qh 5 (tq 10)]) (.seq (.reg [Qh 11 (tq 1),Qh 12 (tq 0),Qh 13 (tq 5),Qo 14 5 (tq 12) (tq 13),Qk 15 5 (tq 14),oo 16 (.callv (tq 11) [(Qw 15)] [])]) (.cond (tq 16) (.seq (.reg [Qh 17 (tq 5),Qh 4 (tq 17)]) (.seq (.mask (bl 16 19) (bl 458719 19)) .ret)) .skip)))) (.reg [Qp 18 .add (tq 8) (Qf 1),Qh 8 (tq 18)]))))
def zbB:CC:=(.seq (.reg [Qh 4 (Qf (-1))]) .ret)
def xT:CF:=xI
def xy:Nat→Sh:=xY []
def zz(ze:zD)(L:Nat):CBC:=(xD 403 (zfH ze L) noC)
def zas:St→St:=zaY 1 (bl 387 19) (bl 458703 19)
def zaj(z:List (List V))(A C:Int)(D:List V):St:=⟨((V.sl 5 z)::((V.fn 403 [(V.ptr 0 0)])::(jn 5 ((Qe A)::((Qe C)::(jn 10 [])))))),((.live true D)::(gn 19 []))⟩
def zbl(z:Int)(A:List V):St:=⟨(jn 4 ((Qe z)::(jn 14 []))),((.live true A)::(gn 19 []))⟩
def zbp(z:List V):St:=⟨(jn 19 []),((.live true z)::(gn 19 []))⟩
def zb0{β:Type}(ze:zD)(L:Nat)(A:List (List V))(C:List V)(z:List (List V)→Int→Int→List V→Option β):Option β:=z A ((XG A:Nat):Int) (0:Int) C
theorem zhe{β:Type}(ze:zD)(L:Nat)(z:List (List V))(A:List V)(k:KK β):yp xy (zz ze L) L xT [(V.sl 5 z),(V.fn 403 [(V.ptr 0 0)])] [(.live true A)] k=zb0 ze L z A (fun z C D A=>yD (zj xy (zz ze L) 1 L zaq) zas L (zaj z C D A) (xB 0 (yN (zj xy (zz ze L) 1 L zbB) (yU 1 (CF.res xT) k)))):=by kernel_rfl
def zbo{β:Type}(ze:zD)(L:Nat)(G:List (List V))(I A:Int)(D:List V)(C:Int→List V→Option β)(z:List (List V)→Int→Int→List V→Option β)(E:List V→Option β):Option β:=ifb (decide (A<I)) (idx G A fun c0=>ze β L (XI 5 c0) D (fun J F=>chk ([(XG F)]=[(XG D)]) (ifb J (C A F) (lt (QF .i64 ((A:Int)+(1:Int))) fun M=>z G I M F)))) (E D)
theorem zgc{β:Type}(ze:zD)(L:Nat)(A:List (List V))(C D:Int)(z:List V)(X:St→Option β)(K:KT β):zj xy (zz ze L) 1 L zaq (zaj A C D z) (zbt zas X K)=zbo ze L A C D z (fun E z=>K .ret (zbl E z)) (fun A C D z=>X (zaj A C D z)) (fun z=>K (.exit 0) (zbp z)):=by kernel_rfl
def zcI{β:Type}(ze:zD)(L:Nat)(A:Int)(C:List V)(z:Int→List V→Option β):Option β:=z A C
theorem zfy{β:Type}(ze:zD)(L:Nat)(A:Int)(z:List V)(k:KK β):(xB 0 (yN (zj xy (zz ze L) 1 L zbB) (yU 1 (CF.res xT) k))) .ret (zbl A z)=zcI ze L A z (fun C z=>k (Qe C) [(.live true z)]):=by kernel_rfl
def zcV{β:Type}(ze:zD)(L:Nat)(A:List V)(z:Int→List V→Option β):Option β:=z (-1:Int) A
theorem zfO{β:Type}(ze:zD)(L:Nat)(z:List V)(k:KK β):(xB 0 (yN (zj xy (zz ze L) 1 L zbB) (yU 1 (CF.res xT) k))) (.exit 0) (zbp z)=zcV ze L z (fun A z=>k (Qe A) [(.live true z)]):=by kernel_rfl
def z4{β:Type}(ze:zD)(L:Nat)(z:Int→List V→Option β)(A:List V→Option β):Nat→List (List V)→Int→Int→List V→Option β
 | 0,_,_,_,_=>none
 | n+1,C,D,E,F=>zbo ze L C D E F z (fun C D E F=>z4 ze L z A n C D E F) A
theorem zcH{β:Type}(ze:zD)(L:Nat)(K:KT β):∀ (n:Nat) (A:List (List V)) (C D:Int) (z:List V),yD (zj xy (zz ze L) 1 L zaq) zas n (zaj A C D z) K=z4 ze L (fun E z=>K .ret (zbl E z)) (fun z=>K (.exit 0) (zbp z)) n A C D z:=by
 intro n
 induction n with
 | zero=>intros; rfl
 | succ n ih=>
  intro A C D z
  refine (zgc ze L A C D z (fun σ=>yD (zj xy (zz ze L) 1 L zaq) zas n σ K) K).trans ?_
  simp only [ih]
  rfl
def zaN{β:Type}(ze:zD)(L:Nat)(C:List (List V))(z:List V)(A:Int→List V→Option β):Option β:=zb0 ze L C z (fun C D E z=>z4 ze L (fun F z=>zcI ze L F z A) (fun z=>zcV ze L z A) L C D E z)
theorem zhd{β:Type}(ze:zD)(L:Nat)(z:List (List V))(A:List V)(k:KK β):yp xy (zz ze L) L xT [(V.sl 5 z),(V.fn 403 [(V.ptr 0 0)])] [(.live true A)] k=zaN ze L z A (fun z A=>k (Qe z) [(.live true A)]):=by
 refine (zhe ze L z A k).trans ?_
 unfold zaN
 first
  | (simp only [zcH,zfy,zfO]; done)
  | (simp only [zcH]; rfl)
abbrev zaL:=∀ (β:Type),Nat→List (List V)→List V→(Int→List V→Option β)→Option β
def zn(β:Type)(L:Nat)(A:List (List V))(C:List V)(z:Int→List V→Option β):Option β:=zaN ze L A C z
def zaO(zn:zaL)(L:Nat)(β:Type)(args:List V)(bor:Bor)(k:KK β):Option β:=match args,bor with
 | [a0,a1],[(.live true z)]=>aL 5 a0 fun A=>aF 403 [(0,0)] a1 (zn β L A z (fun A z=>k (Qe A) [(.live true z)]))
 | _,_=>none
theorem zhp(L:Nat)(β:Type)(args:List V)(bor:Bor)(k:KK β)(r:β)(h:zaO zn L β args bor k=some r):yp xy (zz ze L) L xT args bor k=some r:=by
 unfold zaO at h
 split at h
 ·have q:=za1 h; clear h; obtain ⟨z,rfl,h⟩:=q
  have q:=zyX h; clear h; obtain ⟨rfl,h⟩:=q
  exact (zhd ze L z _ k).trans h
 ·cases h
def zoP:CF:=zgh
def zj0:Nat→Sh:=xY []
def zjW(zn:zaL)(L:Nat):CBC:=(xD 402 (zaO zn L) noC)
def zk3{β:Type}(zn:zaL)(L:Nat)(C:List (List V))(A:List V)(z:Int→Option β):Option β:=zn β L C A (fun D E=>chk ([(XG E)]=[(XG A)]) (z D))
theorem ztM{β:Type}(zn:zaL)(L:Nat)(z:List (List V))(A:List V)(k:KK β):yp zj0 (zjW zn L) L zoP [(V.sl 5 z),(V.agg A)] [] k=zk3 zn L z A (fun z=>k (Qe z) []):=by kernel_rfl
abbrev zhx:=∀ (β:Type),Nat→List (List V)→List V→(Int→Option β)→Option β
def yQ(β:Type)(L:Nat)(A:List (List V))(C:List V)(z:Int→Option β):Option β:=zk3 zn L A C z
def zhq(yQ:zhx)(L:Nat)(β:Type)(args:List V)(bor:Bor)(k:KK β):Option β:=match args,bor with
 | [a0,a1],[]=>aL 5 a0 fun z=>aG a1 fun A=>yQ β L z A (fun z=>k (Qe z) [])
 | _,_=>none
theorem zua(L:Nat)(β:Type)(args:List V)(bor:Bor)(k:KK β)(r:β)(h:zhq yQ L β args bor k=some r):yp zj0 (zjW zn L) L zoP args bor k=some r:=by
 unfold zhq at h
 split at h
 ·have q:=za1 h; clear h; obtain ⟨z,rfl,h⟩:=q
  have q:=zV h; clear h; obtain ⟨A,rfl,h⟩:=q
  exact (ztM zn L z A k).trans h
 ·cases h
def zjb:CF:=⟨38,[.cellS 4 34 false,.cellS 5 5 false,.tmp 6],(.seq (.reg [oo 2 (.box false (tq 0)),Qv 3 (tq 1),oo 4 (.alloc false (rp 32 (.sc (.int .u8 0)) (rp 2 (.gs 5 []) []))),oo 5 (.alloc true [(.sc (.int .i64 0)),(.sc (.int .u32 0)),(.sc (.int .u16 0)),(.sc (.int .u32 0)),(.sc (.int .u32 0))]),Qh 6 (Qf 0)]) (.seq (.seq (.reg [Qk 9 34 (tq 2),Qs 10 275 [((tq 9),1)],Qt 11 (tq 10)]) (.cond (tq 11) (.seq (.reg [oo 12 (.buildSt (rp 32 (.sc (.int .u8 0)) (rp 2 (.gs 5 []) [])) []),oo 13 (.build [(.sc (.int .i64 0)),(.sc (.int .u32 0)),(.sc (.int .u16 0)),(.sc (.int .u32 0)),(.sc (.int .u32 0))] []),Qm 34 (tq 4) (tq 12),Qm 5 (tq 5) (tq 13),Qh 6 (Qf 6)]) .ret) .skip)) (.seq (.reg [Ql 14 32 (tq 2),Qj 15 1 (tq 14),Qk 16 3 (tq 3),Qs 17 395 [((tq 15),2),((tq 16),2)],Qh 7 (tq 17)]) (.seq (.seq (.reg [Qh 18 (tq 7),Qp 19 .lss (tq 18) (Qf 0)]) (.cond (tq 19) (.seq (.reg [oo 20 (.buildSt (rp 32 (.sc (.int .u8 0)) (rp 2 (.gs 5 []) [])) []),oo 21 (.build [(.sc (.int .i64 0)),(.sc (.int .u32 0)),(.sc (.int .u16 0)),(.sc (.int .u32 0)),(.sc (.int .u32 0))] []),Qm 34 (tq 4) (tq 20),Qm 5 (tq 5) (tq 21),Qh 6 (Qf 9)]) .ret) .skip)) (.seq (.reg [Ql 22 32 (tq 2),Qj 23 1 (tq 22),Qh 24 (tq 7),Qo 25 5 (tq 23) (tq 24),Qk 26 5 (tq 25),oo 8 (.alloc true [(.sc (.int .i64 0)),(.sc (.int .u32 0)),(.sc (.int .u16 0)),(.sc (.int .u32 0)),(.sc (.int .u32 0))]),Qm 5 (tq 8) (tq 26)]) (.seq (.reg [Qk 27 34 (tq 2),oo 28 (.call 394 [((tq 27),1)] [11,14]),Qm 34 (tq 2) (tq 28)]) (.seq (.reg [Ql 29 32 (tq 2),Qj 30 1 (tq 29),Qh 31 (tq 7),Qh 32 (tq 7),Qp 33 .add (tq 32) (Qf 1),⟨(some 34),true,none,.call 400 [((tq 30),2),((tq 31),2),((tq 33),2)] []⟩,Ql 35 32 (tq 2),Qm 1 (tq 35) (tq 34)]) (.seq (.dreg [] [(oo 36 (.load true 34 (tq 2) true),ql 2 [8] []),(Qk 37 5 (tq 8),ql 8 [2,4] []),(Qm 34 (tq 4) (tq 36),ql 4 [8] []),(Qm 5 (tq 5) (tq 37),q0),(Qh 6 (Qf 0),q0)]) .ret))))))))⟩
def zqj:Hint:=⟨[(2,0),(3,3),(5,0),(8,5),(9,0)],[(8,5)],[none,none,none,none,none],[],[(7,1,[11,14])],false,true,[]⟩
def zm0:Nat→Sh:=xY [(2,(.row [(.int .u8),(.int .u8),(.int .u8),(.int .u8),(.int .u8),(.int .u8),(.int .u8),(.int .u8),(.int .u8),(.int .u8),(.int .u8),(.int .u8),(.int .u8),(.int .u8),(.int .u8),(.int .u8),(.int .u8),(.int .u8),(.int .u8),(.int .u8),(.int .u8),(.int .u8),(.int .u8),(.int .u8),(.int .u8),(.int .u8),(.int .u8),(.int .u8),(.int .u8),(.int .u8),(.int .u8),(.int .u8),(.sl 5),(.sl 5)]))]
def zm6(xb:yq)(yQ:zhx)(yB:zdn)(za:zh)(L:Nat):CBC:=(xD 400 (xX za L) (xD 394 (zfJ yB L) (xD 395 (zhq yQ L) (xD 275 (zeP xb L) noC))))
abbrev zhj(β:Type):Type:=Int→Int→Int→Int→Int→Int→Int→Int→Int→Int→Int→Int→Int→Int→Int→Int→Int→Int→Int→Int→Int→Int→Int→Int→Int→Int→Int→Int→Int→Int→Int→Int→List (List V)→List (List V)→List V→Int→Option β
abbrev zfS(β:Type):Type:=Int→Int→Int→Int→Int→Int→Int→Int→Int→Int→Int→Int→Int→Int→Int→Int→Int→Int→Int→Int→Int→Int→Int→Int→Int→Int→Int→Int→Int→Int→Int→Int→Nat→Nat→List V→Int→List V→List V→Option β
def zkg{β:Type}(xb:yq)(yQ:zhx)(yB:zdn)(za:zh)(L:Nat)(z p1:List V)(A:zhj β)(E:zfS β):Option β:=chk (XG z=34) (cI .u8 z 0 fun v0=>cI .u8 z 1 fun v1=>cI .u8 z 2 fun v2=>cI .u8 z 3 fun v3=>cI .u8 z 4 fun v4=>cI .u8 z 5 fun v5=>cI .u8 z 6 fun v6=>cI .u8 z 7 fun v7=>cI .u8 z 8 fun v8=>cI .u8 z 9 fun v9=>cI .u8 z 10 fun G=>cI .u8 z 11 fun I=>cI .u8 z 12 fun J=>cI .u8 z 13 fun M=>cI .u8 z 14 fun N=>cI .u8 z 15 fun O=>cI .u8 z 16 fun P=>cI .u8 z 17 fun Q=>cI .u8 z 18 fun R=>cI .u8 z 19 fun S=>cI .u8 z 20 fun U=>cI .u8 z 21 fun W=>cI .u8 z 22 fun X=>cI .u8 z 23 fun Y=>cI .u8 z 24 fun Z=>cI .u8 z 25 fun aa=>cI .u8 z 26 fun ab=>cI .u8 z 27 fun ac=>cI .u8 z 28 fun ad=>cI .u8 z 29 fun ae=>cI .u8 z 30 fun af=>cI .u8 z 31 fun ag=>cL 5 z 32 fun C=>cL 5 z 33 fun ah=>xb β L [(Qa v0),(Qa v1),(Qa v2),(Qa v3),(Qa v4),(Qa v5),(Qa v6),(Qa v7),(Qa v8),(Qa v9),(Qa G),(Qa I),(Qa J),(Qa M),(Qa N),(Qa O),(Qa P),(Qa Q),(Qa R),(Qa S),(Qa U),(Qa W),(Qa X),(Qa Y),(Qa Z),(Qa aa),(Qa ab),(Qa ac),(Qa ad),(Qa ae),(Qa af),(Qa ag),(V.sl 5 C),(V.sl 5 ah)] (fun aD=>ifb (!aD) (lt [(Qe (0:Int)),(Qc (0:Int)),(Qb (0:Int)),(Qc (0:Int)),(Qc (0:Int))] fun ai=>chk (0=0∧(XG ai)=5∧5≠0) (A (0:Int) (0:Int) (0:Int) (0:Int) (0:Int) (0:Int) (0:Int) (0:Int) (0:Int) (0:Int) (0:Int) (0:Int) (0:Int) (0:Int) (0:Int) (0:Int) (0:Int) (0:Int) (0:Int) (0:Int) (0:Int) (0:Int) (0:Int) (0:Int) (0:Int) (0:Int) (0:Int) (0:Int) (0:Int) (0:Int) (0:Int) (0:Int) ([]:List (List V)) ([]:List (List V)) ai (6:Int))) (chk (0+3≤(XG p1)) (yQ β L C (XI 3 p1) (fun D=>ifb (decide (D<(0:Int))) (lt [(Qe (0:Int)),(Qc (0:Int)),(Qb (0:Int)),(Qc (0:Int)),(Qc (0:Int))] fun aj=>chk (0=0∧(XG aj)=5∧5≠0) (A (0:Int) (0:Int) (0:Int) (0:Int) (0:Int) (0:Int) (0:Int) (0:Int) (0:Int) (0:Int) (0:Int) (0:Int) (0:Int) (0:Int) (0:Int) (0:Int) (0:Int) (0:Int) (0:Int) (0:Int) (0:Int) (0:Int) (0:Int) (0:Int) (0:Int) (0:Int) (0:Int) (0:Int) (0:Int) (0:Int) (0:Int) (0:Int) ([]:List (List V)) ([]:List (List V)) aj (9:Int))) (idx C D fun ak=>chk ((XG (XI 5 ak))=5∧0+5≤5) (lt (xg [(Qe (0:Int)),(Qc (0:Int)),(Qb (0:Int)),(Qc (0:Int)),(Qc (0:Int))] 0 (XI 5 ak)) fun F=>yB β L [(Qa v0),(Qa v1),(Qa v2),(Qa v3),(Qa v4),(Qa v5),(Qa v6),(Qa v7),(Qa v8),(Qa v9),(Qa G),(Qa I),(Qa J),(Qa M),(Qa N),(Qa O),(Qa P),(Qa Q),(Qa R),(Qa S),(Qa U),(Qa W),(Qa X),(Qa Y),(Qa Z),(Qa aa),(Qa ab),(Qa ac),(Qa ad),(Qa ae),(Qa af),(Qa ag),(V.sl 5 C),(V.sl 5 ah)] (fun aE aH aJ aK aN aQ aR aT aU aW aX aY aZ a0 a1 a2 a3 a4 a5 a6 a7 a8 a9 ba bb bc bd be bf bg bh bi bj bk al bm=>lt (QF .i64 ((D:Int)+(1:Int))) fun bn=>za β L bj D bn al (fun bo am=>chk ([(XG am)]=[(XG al)]) (chk (0+5≤(XG F)) (chk ((XG (XI 5 F))=5∧0+5≤5) (lt (xg [(Qe (0:Int)),(Qc (0:Int)),(Qb (0:Int)),(Qc (0:Int)),(Qc (0:Int))] 0 (XI 5 F)) fun an=>chk (0=0∧(XG an)=5∧5≠0) (E aE aH aJ aK aN aQ aR aT aU aW aX aY aZ a0 a1 a2 a3 a4 a5 a6 a7 a8 a9 ba bb bc bd be bf bg bh bi bo bk an (0:Int) am bm)))))))))))))
theorem zv9{β:Type}(xb:yq)(yQ:zhx)(yB:zdn)(za:zh)(L:Nat)(C D:List V)(k:KK β):yp zm0 (zm6 xb yQ yB za L) L zjb [(V.agg C),(V.agg D)] [] k=zkg xb yQ yB za L C D (fun p0_0_0 p0_0_1 p0_0_2 p0_0_3 p0_0_4 p0_0_5 p0_0_6 p0_0_7 p0_0_8 p0_0_9 p0_0_10 p0_0_11 p0_0_12 p0_0_13 p0_0_14 p0_0_15 p0_0_16 p0_0_17 p0_0_18 p0_0_19 p0_0_20 p0_0_21 p0_0_22 p0_0_23 p0_0_24 p0_0_25 p0_0_26 p0_0_27 p0_0_28 p0_0_29 p0_0_30 p0_0_31 p0_0_32 p0_0_33 z A=>k (V.tup [(V.st [(Qa p0_0_0),(Qa p0_0_1),(Qa p0_0_2),(Qa p0_0_3),(Qa p0_0_4),(Qa p0_0_5),(Qa p0_0_6),(Qa p0_0_7),(Qa p0_0_8),(Qa p0_0_9),(Qa p0_0_10),(Qa p0_0_11),(Qa p0_0_12),(Qa p0_0_13),(Qa p0_0_14),(Qa p0_0_15),(Qa p0_0_16),(Qa p0_0_17),(Qa p0_0_18),(Qa p0_0_19),(Qa p0_0_20),(Qa p0_0_21),(Qa p0_0_22),(Qa p0_0_23),(Qa p0_0_24),(Qa p0_0_25),(Qa p0_0_26),(Qa p0_0_27),(Qa p0_0_28),(Qa p0_0_29),(Qa p0_0_30),(Qa p0_0_31),(V.sl 5 p0_0_32),(V.sl 5 p0_0_33)]),(V.agg z),(Qe A)]) []) (fun p0_0_0 p0_0_1 p0_0_2 p0_0_3 p0_0_4 p0_0_5 p0_0_6 p0_0_7 p0_0_8 p0_0_9 p0_0_10 p0_0_11 p0_0_12 p0_0_13 p0_0_14 p0_0_15 p0_0_16 p0_0_17 p0_0_18 p0_0_19 p0_0_20 p0_0_21 p0_0_22 p0_0_23 p0_0_24 p0_0_25 p0_0_26 p0_0_27 p0_0_28 p0_0_29 p0_0_30 p0_0_31 p0_0_32l p0_0_33l z A E F=>k (V.tup [(V.st [(Qa p0_0_0),(Qa p0_0_1),(Qa p0_0_2),(Qa p0_0_3),(Qa p0_0_4),(Qa p0_0_5),(Qa p0_0_6),(Qa p0_0_7),(Qa p0_0_8),(Qa p0_0_9),(Qa p0_0_10),(Qa p0_0_11),(Qa p0_0_12),(Qa p0_0_13),(Qa p0_0_14),(Qa p0_0_15),(Qa p0_0_16),(Qa p0_0_17),(Qa p0_0_18),(Qa p0_0_19),(Qa p0_0_20),(Qa p0_0_21),(Qa p0_0_22),(Qa p0_0_23),(Qa p0_0_24),(Qa p0_0_25),(Qa p0_0_26),(Qa p0_0_27),(Qa p0_0_28),(Qa p0_0_29),(Qa p0_0_30),(Qa p0_0_31),(V.own 0 0 p0_0_32l 5),(V.own 1 0 p0_0_33l 5)]),(V.agg z),(Qe A)]) [(.live true E),(.live true F)]):=by kernel_rfl
abbrev zkh:=∀ (β:Type),Nat→List V→List V→(Int→Int→Int→Int→Int→Int→Int→Int→Int→Int→Int→Int→Int→Int→Int→Int→Int→Int→Int→Int→Int→Int→Int→Int→Int→Int→Int→Int→Int→Int→Int→Int→List (List V)→List (List V)→List V→Int→Option β)→(Int→Int→Int→Int→Int→Int→Int→Int→Int→Int→Int→Int→Int→Int→Int→Int→Int→Int→Int→Int→Int→Int→Int→Int→Int→Int→Int→Int→Int→Int→Int→Int→Nat→Nat→List V→Int→List V→List V→Option β)→Option β
def yV(β:Type)(L:Nat)(C D:List V)(A:zhj β)(z:zfS β):Option β:=zkg xb yQ yB za L C D A z
def zj5(yV:zkh)(L:Nat)(β:Type)(args:List V)(bor:Bor)(k:KK β):Option β:=match args,bor with
 | [a0,a1],[]=>aG a0 fun C=>aG a1 fun D=>yV β L C D (fun p0_0_0 p0_0_1 p0_0_2 p0_0_3 p0_0_4 p0_0_5 p0_0_6 p0_0_7 p0_0_8 p0_0_9 p0_0_10 p0_0_11 p0_0_12 p0_0_13 p0_0_14 p0_0_15 p0_0_16 p0_0_17 p0_0_18 p0_0_19 p0_0_20 p0_0_21 p0_0_22 p0_0_23 p0_0_24 p0_0_25 p0_0_26 p0_0_27 p0_0_28 p0_0_29 p0_0_30 p0_0_31 p0_0_32 p0_0_33 z A=>k (V.tup [(V.st [(Qa p0_0_0),(Qa p0_0_1),(Qa p0_0_2),(Qa p0_0_3),(Qa p0_0_4),(Qa p0_0_5),(Qa p0_0_6),(Qa p0_0_7),(Qa p0_0_8),(Qa p0_0_9),(Qa p0_0_10),(Qa p0_0_11),(Qa p0_0_12),(Qa p0_0_13),(Qa p0_0_14),(Qa p0_0_15),(Qa p0_0_16),(Qa p0_0_17),(Qa p0_0_18),(Qa p0_0_19),(Qa p0_0_20),(Qa p0_0_21),(Qa p0_0_22),(Qa p0_0_23),(Qa p0_0_24),(Qa p0_0_25),(Qa p0_0_26),(Qa p0_0_27),(Qa p0_0_28),(Qa p0_0_29),(Qa p0_0_30),(Qa p0_0_31),(V.sl 5 p0_0_32),(V.sl 5 p0_0_33)]),(V.agg z),(Qe A)]) []) (fun p0_0_0 p0_0_1 p0_0_2 p0_0_3 p0_0_4 p0_0_5 p0_0_6 p0_0_7 p0_0_8 p0_0_9 p0_0_10 p0_0_11 p0_0_12 p0_0_13 p0_0_14 p0_0_15 p0_0_16 p0_0_17 p0_0_18 p0_0_19 p0_0_20 p0_0_21 p0_0_22 p0_0_23 p0_0_24 p0_0_25 p0_0_26 p0_0_27 p0_0_28 p0_0_29 p0_0_30 p0_0_31 p0_0_32l p0_0_33l z A E F=>k (V.tup [(V.st [(Qa p0_0_0),(Qa p0_0_1),(Qa p0_0_2),(Qa p0_0_3),(Qa p0_0_4),(Qa p0_0_5),(Qa p0_0_6),(Qa p0_0_7),(Qa p0_0_8),(Qa p0_0_9),(Qa p0_0_10),(Qa p0_0_11),(Qa p0_0_12),(Qa p0_0_13),(Qa p0_0_14),(Qa p0_0_15),(Qa p0_0_16),(Qa p0_0_17),(Qa p0_0_18),(Qa p0_0_19),(Qa p0_0_20),(Qa p0_0_21),(Qa p0_0_22),(Qa p0_0_23),(Qa p0_0_24),(Qa p0_0_25),(Qa p0_0_26),(Qa p0_0_27),(Qa p0_0_28),(Qa p0_0_29),(Qa p0_0_30),(Qa p0_0_31),(V.own 0 0 p0_0_32l 5),(V.own 1 0 p0_0_33l 5)]),(V.agg z),(Qe A)]) [(.live true E),(.live true F)])
 | _,_=>none
theorem zwm(L:Nat)(β:Type)(args:List V)(bor:Bor)(k:KK β)(r:β)(h:zj5 yV L β args bor k=some r):yp zm0 (zm6 xb yQ yB za L) L zjb args bor k=some r:=by
 unfold zj5 at h
 split at h
 ·have q:=zV h; clear h; obtain ⟨z,rfl,h⟩:=q
  have q:=zV h; clear h; obtain ⟨A,rfl,h⟩:=q
  exact (zv9 xb yQ yB za L z A k).trans h
 ·cases h
def zca:CC:=(.seq (.seq (.reg [Qh 24 (tq 7),Qh 25 (tq 0),Qr 26 (tq 25),Qp 27 .lss (tq 24) (tq 26),Qh 28 (tq 27),⟨(some 29),false,(some (28,true)),.move (tq 0) false⟩,⟨(some 30),false,(some (28,true)),.move (tq 7) false⟩,⟨(some 31),false,(some (28,true)),.indexAddrS 5 (tq 29) (tq 30)⟩,⟨(some 32),false,(some (28,true)),.fieldAddr 0 (tq 31)⟩,⟨(some 33),false,(some (28,true)),.load false 1 (tq 32) false⟩,⟨(some 34),false,(some (28,true)),.move (tq 1) false⟩,⟨(some 35),false,(some (28,true)),.bin .eql (tq 33) (tq 34)⟩,oo 36 (.pick (tq 28) (tq 35) (Qg false))]) (.cond (tq 36) .skip (.seq (.mask (bl 192 41) (bl 2198956146687 41)) (.exit 2)))) (.block 3 (.reg [Qh 37 (tq 7),Qp 38 .add (tq 37) (Qf 1),Qh 7 (tq 38)])))
def zfW:CC:=(.seq (.reg [Qh 39 (tq 6),Qh 40 (tq 7),Qh 4 (tq 39),Qh 5 (tq 40)]) .ret)
def zdW:CC:=(.seq (.seq (.reg [Qh 8 (tq 6),Qh 9 (tq 0),Qr 10 (tq 9),Qp 11 .lss (tq 8) (tq 10),Qh 12 (tq 11),⟨(some 13),false,(some (12,true)),.move (tq 0) false⟩,⟨(some 14),false,(some (12,true)),.move (tq 6) false⟩,⟨(some 15),false,(some (12,true)),.indexAddrS 5 (tq 13) (tq 14)⟩,⟨(some 16),false,(some (12,true)),.fieldAddr 0 (tq 15)⟩,⟨(some 17),false,(some (12,true)),.load false 1 (tq 16) false⟩,⟨(some 18),false,(some (12,true)),.move (tq 1) false⟩,⟨(some 19),false,(some (12,true)),.bin .lss (tq 17) (tq 18)⟩,oo 20 (.pick (tq 12) (tq 19) (Qg false))]) (.cond (tq 20) .skip (.seq (.mask (bl 67 41) (bl 2199023254527 41)) (.exit 0)))) (.block 1 (.reg [Qh 21 (tq 6),Qp 22 .add (tq 21) (Qf 1),Qh 6 (tq 22)])))
def zg1:CC:=(.seq (.reg [Qh 23 (tq 6),Qh 7 (tq 23)]) (.seq (.block 2 (.loop (bl 195 41) (bl 2198956146687 41) zca)) zfW))
def zbk:CF:=zaE
def zL:Nat→Sh:=xY [(17,(.int .i64)),(33,(.int .i64))]
def xK(L:Nat):CBC:=noC
def zd8:St→St:=zaY 0 (bl 67 41) (bl 2199023254527 41)
def zdI:St→St:=zaY 0 (bl 195 41) (bl 2198956146687 41)
def zdp(z:List (List V))(A C:Int):St:=⟨((V.sl 5 z)::((Qe A)::(jn 4 ((Qe C)::(jn 34 []))))),(gn 41 [])⟩
def zd4(z:List (List V))(A C:Int):St:=⟨((V.sl 5 z)::((Qe A)::(jn 4 ((Qe C)::(jn 34 []))))),(gn 41 [])⟩
def zcJ(z:List (List V))(A C D:Int):St:=⟨((V.sl 5 z)::((Qe A)::(jn 4 ((Qe C)::((Qe D)::(jn 33 [])))))),(gn 41 [])⟩
def zge(z A:Int):St:=⟨(jn 6 ((Qe z)::((Qe A)::(jn 33 [])))),(gn 41 [])⟩
def znA{β:Type}(L:Nat)(A:List (List V))(C:Int)(z:List (List V)→Int→Int→Option β):Option β:=z A C (0:Int)
theorem zsy{β:Type}(L:Nat)(z:List (List V))(A:Int)(k:KK β):yp zL (xK L) L zbk [(V.sl 5 z),(Qe A)] [] k=znA L z A (fun z A C=>yD (zj zL (xK L) 0 L zdW) zd8 L (zdp z A C) (xB 0 (yN (zj zL (xK L) 0 L zg1) (yU 0 (CF.res zbk) k)))):=by kernel_rfl
def zk2{β:Type}(L:Nat)(A:List (List V))(E C:Int)(z:List (List V)→Int→Int→Option β)(D:List (List V)→Int→Int→Option β):Option β:=ifb (decide (C<((XG A:Nat):Int))) (idx A C fun c0=>cI .i64 c0 0 fun F=>ifb (decide (F<E)) (lt (QF .i64 ((C:Int)+(1:Int))) fun G=>z A E G) (D A E C)) (D A E C)
theorem zqg{β:Type}(L:Nat)(z:List (List V))(A C:Int)(X:St→Option β)(K:KT β):zj zL (xK L) 0 L zdW (zdp z A C) (zbt zd8 X K)=zk2 L z A C (fun z A C=>X (zdp z A C)) (fun z A C=>K (.exit 0) (zd4 z A C)):=by kernel_rfl
def zjw{β:Type}(L:Nat)(C:List (List V))(D A:Int)(z:List (List V)→Int→Int→Int→Option β):Option β:=z C D A A
theorem zoL{β:Type}(L:Nat)(z:List (List V))(A C:Int)(k:KK β):(xB 0 (yN (zj zL (xK L) 0 L zg1) (yU 0 (CF.res zbk) k))) (.exit 0) (zd4 z A C)=zjw L z A C (fun z A C D=>yD (zj zL (xK L) 0 L zca) zdI L (zcJ z A C D) (xB 2 (yN (zj zL (xK L) 0 L zfW) (yU 0 (CF.res zbk) k)))):=by kernel_rfl
def zjB{β:Type}(L:Nat)(D:List (List V))(F E A:Int)(z:List (List V)→Int→Int→Int→Option β)(C:Int→Int→Option β):Option β:=ifb (decide (A<((XG D:Nat):Int))) (idx D A fun c3=>cI .i64 c3 0 fun G=>ifb ((G:Int)==F) (lt (QF .i64 ((A:Int)+(1:Int))) fun I=>z D F E I) (C E A)) (C E A)
theorem zoN{β:Type}(L:Nat)(C:List (List V))(D z A:Int)(X:St→Option β)(K:KT β):zj zL (xK L) 0 L zca (zcJ C D z A) (zbt zdI X K)=zjB L C D z A (fun C D z A=>X (zcJ C D z A)) (fun z A=>K (.exit 2) (zge z A)):=by kernel_rfl
def ziH{β:Type}(L:Nat)(A C:Int)(z:Int→Int→Option β):Option β:=z A C
theorem zny{β:Type}(L:Nat)(C D:Int)(k:KK β):(xB 2 (yN (zj zL (xK L) 0 L zfW) (yU 0 (CF.res zbk) k))) (.exit 2) (zge C D)=ziH L C D (fun z A=>k (V.tup [(Qe z),(Qe A)]) []):=by kernel_rfl
def zgx{β:Type}(L:Nat)(z:List (List V)→Int→Int→Option β):Nat→List (List V)→Int→Int→Option β
 | 0,_,_,_=>none
 | n+1,A,C,D=>zk2 L A C D (fun A C D=>zgx L z n A C D) z
theorem ziL{β:Type}(L:Nat)(K:KT β):∀ (n:Nat) (z:List (List V)) (A C:Int),yD (zj zL (xK L) 0 L zdW) zd8 n (zdp z A C) K=zgx L (fun z A C=>K (.exit 0) (zd4 z A C)) n z A C:=by
 intro n
 induction n with
 | zero=>intros; rfl
 | succ n ih=>
  intro z A C
  refine (zqg L z A C (fun σ=>yD (zj zL (xK L) 0 L zdW) zd8 n σ K) K).trans ?_
  simp only [ih]
  rfl
def zfx{β:Type}(L:Nat)(z:Int→Int→Option β):Nat→List (List V)→Int→Int→Int→Option β
 | 0,_,_,_,_=>none
 | n+1,A,C,D,E=>zjB L A C D E (fun A C D E=>zfx L z n A C D E) z
theorem zhV{β:Type}(L:Nat)(K:KT β):∀ (n:Nat) (C:List (List V)) (D z A:Int),yD (zj zL (xK L) 0 L zca) zdI n (zcJ C D z A) K=zfx L (fun z A=>K (.exit 2) (zge z A)) n C D z A:=by
 intro n
 induction n with
 | zero=>intros; rfl
 | succ n ih=>
  intro C D z A
  refine (zoN L C D z A (fun σ=>yD (zj zL (xK L) 0 L zca) zdI n σ K) K).trans ?_
  simp only [ih]
  rfl
def zfe{β:Type}(L:Nat)(C:List (List V))(D z:Int)(A:Int→Int→Option β):Option β:=zjw L C D z (fun C D z E=>zfx L (fun z E=>ziH L z E A) L C D z E)
theorem znT{β:Type}(L:Nat)(z:List (List V))(A C:Int)(k:KK β):(xB 0 (yN (zj zL (xK L) 0 L zg1) (yU 0 (CF.res zbk) k))) (.exit 0) (zd4 z A C)=zfe L z A C (fun D E=>k (V.tup [(Qe D),(Qe E)]) []):=by
 refine (zoL L z A C k).trans ?_
 unfold zfe
 first
  | (simp only [zhV,zny]; done)
  | (simp only [zhV]; rfl)
def ziV{β:Type}(L:Nat)(z:List (List V))(A:Int)(C:Int→Int→Option β):Option β:=znA L z A (fun z A D=>zgx L (fun z A D=>zfe L z A D C) L z A D)
theorem zsv{β:Type}(L:Nat)(z:List (List V))(A:Int)(k:KK β):yp zL (xK L) L zbk [(V.sl 5 z),(Qe A)] [] k=ziV L z A (fun C D=>k (V.tup [(Qe C),(Qe D)]) []):=by
 refine (zsy L z A k).trans ?_
 unfold ziV
 first
  | (simp only [ziL,znT]; done)
  | (simp only [ziL]; rfl)
abbrev zfT:=∀ (β:Type),Nat→List (List V)→Int→(Int→Int→Option β)→Option β
def xR(β:Type)(L:Nat)(A:List (List V))(C:Int)(z:Int→Int→Option β):Option β:=ziV L A C z
def zfR(xR:zfT)(L:Nat)(β:Type)(args:List V)(bor:Bor)(k:KK β):Option β:=match args,bor with
 | [a0,a1],[]=>aL 5 a0 fun C=>aI .i64 a1 fun D=>xR β L C D (fun z A=>k (V.tup [(Qe z),(Qe A)]) [])
 | _,_=>none
theorem zsx(L:Nat)(β:Type)(args:List V)(bor:Bor)(k:KK β)(r:β)(h:zfR xR L β args bor k=some r):yp zL (xK L) L zbk args bor k=some r:=by
 unfold zfR at h
 split at h
 ·have q:=za1 h; clear h; obtain ⟨z,rfl,h⟩:=q
  have q:=xr h; clear h; obtain ⟨A,rfl,h⟩:=q
  exact (zsv L z A k).trans h
 ·cases h
def zee:CF:=zay
def zcj:Nat→Sh:=xY []
def zci(L:Nat):CBC:=noC
def zep{β:Type}(L:Nat)(z:List (List V))(C D:Int)(A:List (List V)→Option β):Option β:=chk (0≤((XG z:Nat):Int)∧((XG z:Nat):Int)≤(((XG z):Nat):Int)) (chk (0≤D∧D≤(((XH ((XG z:Nat):Int)):Nat):Int)) (chk (0≤C∧C≤(((XH D):Nat):Int)) (ifb (decide ((XH ((XG z:Nat):Int))=(XH C))) (ifb ((C:Int)==D) (A z) (none)) (ifb ((C:Int)==D) (A z) (none)))))
theorem zin{β:Type}(L:Nat)(z:List (List V))(A C:Int)(k:KK β):yp zcj (zci L) L zee [(V.sl 5 z),(Qe A),(Qe C)] [] k=zep L z A C (fun z=>k (V.sl 5 z) []):=by kernel_rfl
abbrev za6:=∀ (β:Type),Nat→List (List V)→Int→Int→(List (List V)→Option β)→Option β
def xt(β:Type)(L:Nat)(A:List (List V))(C D:Int)(z:List (List V)→Option β):Option β:=zep L A C D z
def za5(xt:za6)(L:Nat)(β:Type)(args:List V)(bor:Bor)(k:KK β):Option β:=match args,bor with
 | [a0,a1,a2],[]=>aL 5 a0 fun z=>aI .i64 a1 fun A=>aI .i64 a2 fun C=>xt β L z A C (fun z=>k (V.sl 5 z) [])
 | _,_=>none
theorem ziB(L:Nat)(β:Type)(args:List V)(bor:Bor)(k:KK β)(r:β)(h:za5 xt L β args bor k=some r):yp zcj (zci L) L zee args bor k=some r:=by
 unfold za5 at h
 split at h
 ·have q:=za1 h; clear h; obtain ⟨z,rfl,h⟩:=q
  have q:=xr h; clear h; obtain ⟨A,rfl,h⟩:=q
  have q:=xr h; clear h; obtain ⟨C,rfl,h⟩:=q
  exact (zin L z A C k).trans h
 ·cases h
end
end Go.Proofs.Ytbimgceighecgaa
