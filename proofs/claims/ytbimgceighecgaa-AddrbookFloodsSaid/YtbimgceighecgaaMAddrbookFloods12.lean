/- Part 12 of the proof of AddrbookFloods: an abstract machine over plain values, its soundness, and the functions of the program on plain values. -/
import Derived.Test.YtbimgceighecgaaMAddrbookFloods11
namespace Go.Proofs.Ytbimgceighecgaa
set_option linter.unusedVariables false
set_option linter.unusedSimpArgs false
open List renaming length->XG,take->XI,replicate->We,drop->XJ,map->Xt
open IntKind renaming wrap->QF
open Int renaming toNat->XH
section
set_option maxRecDepth 100000
def zjs:CF:=⟨14,[.cellS 2 34 false],(.seq (.reg [oo 1 (.box false (tq 0)),oo 2 (.alloc false (rp 32 (.sc (.int .u8 0)) (rp 2 (.gs 5 []) [])))]) (.seq (.dreg [] [(Ql 3 0 (tq 1),q0),(Qk 4 32 (tq 3),ql 1 [] [5,8,9,12]),(⟨(some 5),true,none,.buildSlice 5 0 [(.sc (.int .i64 0)),(.sc (.int .u32 0)),(.sc (.int .u16 0)),(.sc (.int .u32 0)),(.sc (.int .u32 0))] []⟩,qn [1] [9]),(Ql 6 32 (tq 1),q0),(Qj 7 1 (tq 6),ql 1 [] [5,9]),(⟨(some 8),true,none,.append 5 24 (tq 5) (tq 7)⟩,qn [1] [9]),(⟨(some 9),true,none,.buildSlice 5 0 [(.sc (.int .i64 0)),(.sc (.int .u32 0)),(.sc (.int .u16 0)),(.sc (.int .u32 0)),(.sc (.int .u32 0))] []⟩,qn [1] [5,8]),(Ql 10 33 (tq 1),q0),(Qj 11 1 (tq 10),ql 1 [] [5,8,9]),(⟨(some 12),true,none,.append 5 24 (tq 9) (tq 11)⟩,qn [1] []),(oo 13 (.buildSt (rp 32 (.sc (.int .u8 0)) (rp 2 (.gs 5 []) [])) [(0,32,(tq 4)),(32,1,(tq 8)),(33,1,(tq 12))]),q0),(Qm 34 (tq 2) (tq 13),q0)]) .ret))⟩
def zqe:Hint:=⟨[(1,10)],[(1,2),(1,5),(1,6),(1,9)],[none],[],[],false,true,[]⟩
def znR:Nat→Sh:=xW [(1,(.row [(.int .u8),(.int .u8),(.int .u8),(.int .u8),(.int .u8),(.int .u8),(.int .u8),(.int .u8),(.int .u8),(.int .u8),(.int .u8),(.int .u8),(.int .u8),(.int .u8),(.int .u8),(.int .u8),(.int .u8),(.int .u8),(.int .u8),(.int .u8),(.int .u8),(.int .u8),(.int .u8),(.int .u8),(.int .u8),(.int .u8),(.int .u8),(.int .u8),(.int .u8),(.int .u8),(.int .u8),(.int .u8),(.sl 5),(.sl 5)]))]
def znq(L:Nat):CBC:=noC
abbrev zlc(β:Type):Type:=Int→Int→Int→Int→Int→Int→Int→Int→Int→Int→Int→Int→Int→Int→Int→Int→Int→Int→Int→Int→Int→Int→Int→Int→Int→Int→Int→Int→Int→Int→Int→Int→Nat→Nat→List V→List V→Option β
def zoB{β:Type}(L:Nat)(z:List V)(D:zlc β):Option β:=chk (XG z=34) (cI .u8 z 0 fun v0=>cI .u8 z 1 fun v1=>cI .u8 z 2 fun v2=>cI .u8 z 3 fun v3=>cI .u8 z 4 fun v4=>cI .u8 z 5 fun v5=>cI .u8 z 6 fun v6=>cI .u8 z 7 fun v7=>cI .u8 z 8 fun v8=>cI .u8 z 9 fun v9=>cI .u8 z 10 fun E=>cI .u8 z 11 fun F=>cI .u8 z 12 fun G=>cI .u8 z 13 fun I=>cI .u8 z 14 fun J=>cI .u8 z 15 fun M=>cI .u8 z 16 fun N=>cI .u8 z 17 fun O=>cI .u8 z 18 fun P=>cI .u8 z 19 fun Q=>cI .u8 z 20 fun R=>cI .u8 z 21 fun S=>cI .u8 z 22 fun U=>cI .u8 z 23 fun W=>cI .u8 z 24 fun X=>cI .u8 z 25 fun Y=>cI .u8 z 26 fun Z=>cI .u8 z 27 fun aa=>cI .u8 z 28 fun ab=>cI .u8 z 29 fun ac=>cI .u8 z 30 fun ad=>cI .u8 z 31 fun ae=>cL 5 z 32 fun A=>cL 5 z 33 fun C=>chk ((0+XG A)*24≤xq∧0+XG A≤xq) (chk ((0+XG C)*24≤xq∧0+XG C≤xq) (D v0 v1 v2 v3 v4 v5 v6 v7 v8 v9 E F G I J M N O P Q R S U W X Y Z aa ab ac ad ae (XG A) (XG C) (List.flatten A) (List.flatten C))))
theorem zwR{β:Type}(L:Nat)(p0:List V)(k:KK β):zp znR (znq L) L zjs [(V.agg p0)] [] k=zoB L p0 (fun ad ae af ag ah ai aj ak al am C D E F G I J M N O P Q R S U W X Y Z aa ab ac z A b0 b1=>k (V.st [(Qa ad),(Qa ae),(Qa af),(Qa ag),(Qa ah),(Qa ai),(Qa aj),(Qa ak),(Qa al),(Qa am),(Qa C),(Qa D),(Qa E),(Qa F),(Qa G),(Qa I),(Qa J),(Qa M),(Qa N),(Qa O),(Qa P),(Qa Q),(Qa R),(Qa S),(Qa U),(Qa W),(Qa X),(Qa Y),(Qa Z),(Qa aa),(Qa ab),(Qa ac),(V.own 0 0 z 5),(V.own 1 0 A 5)]) [(.live true b0),(.live true b1)]):=by kernel_rfl
abbrev zai:=∀ (β:Type),Nat→List V→(Int→Int→Int→Int→Int→Int→Int→Int→Int→Int→Int→Int→Int→Int→Int→Int→Int→Int→Int→Int→Int→Int→Int→Int→Int→Int→Int→Int→Int→Int→Int→Int→Nat→Nat→List V→List V→Option β)→Option β
def xj(β:Type)(L:Nat)(A:List V)(z:zlc β):Option β:=zoB L A z
def zhy(xj:zai)(L:Nat)(β:Type)(args:List V)(bor:Bor)(k:KK β):Option β:=match args,bor with
 | [a0],[]=>aG a0 fun p0=>xj β L p0 (fun ad ae af ag ah ai aj ak al am C D E F G I J M N O P Q R S U W X Y Z aa ab ac z A b0 b1=>k (V.st [(Qa ad),(Qa ae),(Qa af),(Qa ag),(Qa ah),(Qa ai),(Qa aj),(Qa ak),(Qa al),(Qa am),(Qa C),(Qa D),(Qa E),(Qa F),(Qa G),(Qa I),(Qa J),(Qa M),(Qa N),(Qa O),(Qa P),(Qa Q),(Qa R),(Qa S),(Qa U),(Qa W),(Qa X),(Qa Y),(Qa Z),(Qa aa),(Qa ab),(Qa ac),(V.own 0 0 z 5),(V.own 1 0 A 5)]) [(.live true b0),(.live true b1)])
 | _,_=>none
theorem zw3(L:Nat)(β:Type)(args:List V)(bor:Bor)(k:KK β)(r:β)(h:zhy xj L β args bor k=some r):zp znR (znq L) L zjs args bor k=some r:=by
 unfold zhy at h
 split at h
 ·have q:=yW h; clear h; obtain ⟨z,rfl,h⟩:=q
  exact (zwR L z k).trans h
 ·cases h
def zjD:CF:=⟨15,[.tmp 4],(.seq (.reg [Qi 4 (.const (.gs 5 []))]) (.seq (.dreg [] [(oo 5 (.buildSlice 5 0 [(.sc (.int .i64 0)),(.sc (.int .u32 0)),(.sc (.int .u16 0)),(.sc (.int .u32 0)),(.sc (.int .u32 0))] []),q0),(Qh 6 (tq 0),q0),(Qh 7 (tq 1),q0),(oo 8 (.sliceS 5 (tq 6) none (some (tq 7)) none),q0),(oo 9 (.append 5 24 (tq 5) (tq 8)),q0),(Qh 10 (tq 0),q0),(Qh 11 (tq 1),q0),(Qp 12 .add (tq 11) (Qf 1),q0),(oo 13 (.sliceS 5 (tq 10) (some (tq 12)) none none),q0),(oo 14 (.append 5 24 (tq 9) (tq 13)),q0),(Qi 4 (tq 14),q0)]) .ret))⟩
def zp4:Hint:=⟨[(0,0),(1,10)],[],[none],[],[],false,false,[]⟩
def zna:Nat→Sh:=xW []
def zm3(L:Nat):CBC:=noC
def zoF{β:Type}(L:Nat)(z:Nat)(D:Int)(C:List V)(E:List (List V)→List V→Option β):Option β:=chk (0≤D∧D≤((z:Nat):Int)) (chk ((XG ([]:List (List V))+XG (xh 5 ((XH D)-0) C))*24≤xq∧XG ([]:List (List V))+XG (xh 5 ((XH D)-0) C)≤xq) (lt (([]:List (List V))++(xh 5 ((XH D)-0) C)) fun F=>lt (QF .i64 ((D:Int)+(1:Int))) fun A=>chk (0≤A∧A≤((z:Nat):Int)) (chk ((XG F+XG (xh 5 (z-(XH A)) (XJ (0+((XH A)*5)) C)))*24≤xq∧XG F+XG (xh 5 (z-(XH A)) (XJ (0+((XH A)*5)) C))≤xq) (lt (F++(xh 5 (z-(XH A)) (XJ (0+((XH A)*5)) C))) fun G=>E G C))))
theorem zxb{β:Type}(L:Nat)(A:Nat)(C:Int)(z:List V)(k:KK β):zp zna (zm3 L) L zjD [(V.own 0 0 A 5),(Qe C)] [(.live true z)] k=zoF L A C z (fun D z=>k (V.gs 5 D) [(.live true z)]):=by kernel_rfl
abbrev zak:=∀ (β:Type),Nat→Nat→Int→List V→(List (List V)→List V→Option β)→Option β
def zj(β:Type)(L:Nat)(A:Nat)(C:Int)(D:List V)(z:List (List V)→List V→Option β):Option β:=zoF L A C D z
def zhY(zj:zak)(L:Nat)(β:Type)(args:List V)(bor:Bor)(k:KK β):Option β:=match args,bor with
 | [a0,a1],[(.live true z)]=>aO0 0 5 a0 fun A=>aI .i64 a1 fun C=>zj β L A C z (fun D z=>k (V.gs 5 D) [(.live true z)])
 | _,_=>none
theorem zw2(L:Nat)(β:Type)(args:List V)(bor:Bor)(k:KK β)(r:β)(h:zhY zj L β args bor k=some r):zp zna (zm3 L) L zjD args bor k=some r:=by
 unfold zhY at h
 split at h
 ·have q:=zhO h; clear h; obtain ⟨z,rfl,h⟩:=q
  have q:=yB h; clear h; obtain ⟨A,rfl,h⟩:=q
  exact (zxb L z A _ k).trans h
 ·cases h
def zdn:CC:=(.seq (.seq (.reg [Qh 24 (tq 7),Qh 25 (tq 0),Qr 26 (tq 25),Qp 27 .lss (tq 24) (tq 26),Qh 28 (tq 27),⟨(some 29),false,(some (28,true)),.move (tq 0) false⟩,⟨(some 30),false,(some (28,true)),.move (tq 7) false⟩,⟨(some 31),false,(some (28,true)),.indexAddrS 5 (tq 29) (tq 30)⟩,⟨(some 32),false,(some (28,true)),.fieldAddr 0 (tq 31)⟩,⟨(some 33),false,(some (28,true)),.load false 1 (tq 32) false⟩,⟨(some 34),false,(some (28,true)),.move (tq 1) false⟩,⟨(some 35),false,(some (28,true)),.bin .eql (tq 33) (tq 34)⟩,oo 36 (.pick (tq 28) (tq 35) (Qg false))]) (.cond (tq 36) .skip (.seq (.mask (bl 192 41) (bl 2198956146687 41)) (.exit 2)))) (.block 3 (.reg [Qh 37 (tq 7),Qp 38 .add (tq 37) (Qf 1),Qh 7 (tq 38)])))
def zi8:CC:=(.seq (.reg [Qh 39 (tq 6),Qh 40 (tq 7),Qh 4 (tq 39),Qh 5 (tq 40)]) .ret)
def zd0:CC:=(.seq (.seq (.reg [Qh 8 (tq 6),Qh 9 (tq 0),Qr 10 (tq 9),Qp 11 .lss (tq 8) (tq 10),Qh 12 (tq 11),⟨(some 13),false,(some (12,true)),.move (tq 0) false⟩,⟨(some 14),false,(some (12,true)),.move (tq 6) false⟩,⟨(some 15),false,(some (12,true)),.indexAddrS 5 (tq 13) (tq 14)⟩,⟨(some 16),false,(some (12,true)),.fieldAddr 0 (tq 15)⟩,⟨(some 17),false,(some (12,true)),.load false 1 (tq 16) false⟩,⟨(some 18),false,(some (12,true)),.move (tq 1) false⟩,⟨(some 19),false,(some (12,true)),.bin .lss (tq 17) (tq 18)⟩,oo 20 (.pick (tq 12) (tq 19) (Qg false))]) (.cond (tq 20) .skip (.seq (.mask (bl 67 41) (bl 2199023254527 41)) (.exit 0)))) (.block 1 (.reg [Qh 21 (tq 6),Qp 22 .add (tq 21) (Qf 1),Qh 6 (tq 22)])))
def zhc:CC:=(.seq (.reg [Qh 23 (tq 6),Qh 7 (tq 23)]) (.seq (.block 2 (.loop (bl 195 41) (bl 2198956146687 41) zdn)) zi8))
def zbf:CF:=⟨41,[.tmp 4,.tmp 5],(.seq (.reg [Qh 4 (Qf 0),Qh 5 (Qf 0)]) (.seq (.reg [Qh 6 (Qf 0)]) (.seq (.block 0 (.loop (bl 67 41) (bl 2199023254527 41) zd0)) zhc)))⟩
def zp9:Hint:=⟨[],[],[none,some ((bl 67 41),(bl 2199023254527 41)),none,some ((bl 67 41),(bl 2199023254527 41)),none,none,some ((bl 195 41),(bl 2198956146687 41)),none,some ((bl 192 41),(bl 2198956146687 41)),none,none],[],[],false,false,[]⟩
def xX:Nat→Sh:=xW [(17,(.int .i64)),(33,(.int .i64))]
def yY(L:Nat):CBC:=noC
def zgr:St→St:=zaH 1 (bl 67 41) (bl 2199023254527 41)
def zfl:St→St:=zaH 1 (bl 195 41) (bl 2198956146687 41)
def zeX(z:Nat)(A C:Int)(D:List V):St:=⟨((V.own 0 0 z 5)::((Qe A)::(jn 4 ((Qe C)::(jn 34 []))))),((.live true D)::(gn 41 []))⟩
def zgy(z:Nat)(A C:Int)(D:List V):St:=⟨((V.own 0 0 z 5)::((Qe A)::(jn 4 ((Qe C)::(jn 34 []))))),((.live true D)::(gn 41 []))⟩
def zdX(z:Nat)(A C D:Int)(E:List V):St:=⟨((V.own 0 0 z 5)::((Qe A)::(jn 4 ((Qe C)::((Qe D)::(jn 33 [])))))),((.live true E)::(gn 41 []))⟩
def zj9(z A:Int)(C:List V):St:=⟨(jn 6 ((Qe z)::((Qe A)::(jn 33 [])))),((.live true C)::(gn 41 []))⟩
def zoG{β:Type}(L:Nat)(A:Nat)(C:Int)(D:List V)(z:Nat→Int→Int→List V→Option β):Option β:=z A C (0:Int) D
theorem zwT{β:Type}(L:Nat)(z:Nat)(A:Int)(C:List V)(k:KK β):zp xX (yY L) L zbf [(V.own 0 0 z 5),(Qe A)] [(.live true C)] k=zoG L z A C (fun z A D C=>xz (yi xX (yY L) 1 L zd0) zgr L (zeX z A D C) (zz 0 (xK (yi xX (yY L) 1 L zhc) (yR 1 (CF.res zbf) k)))):=by kernel_rfl
def zj6{β:Type}(L:Nat)(z:Nat)(E A:Int)(F:List V)(C:Nat→Int→Int→List V→Option β)(D:Nat→Int→Int→List V→Option β):Option β:=ifb (decide (A<((z:Nat):Int))) (chk (0≤A∧A<((z:Nat):Int)) (cI .i64 F ((0+((XH A)*5))+0) fun G=>ifb (decide (G<E)) (lt (QF .i64 ((A:Int)+(1:Int))) fun I=>C z E I F) (D z E A F))) (D z E A F)
theorem ztk{β:Type}(L:Nat)(z:Nat)(A C:Int)(D:List V)(X:St→Option β)(K:KT β):yi xX (yY L) 1 L zd0 (zeX z A C D) (zbo zgr X K)=zj6 L z A C D (fun z A C D=>X (zeX z A C D)) (fun z A C D=>K (.exit 0) (zgy z A C D)):=by kernel_rfl
def znU{β:Type}(L:Nat)(A:Nat)(D C:Int)(E:List V)(z:Nat→Int→Int→Int→List V→Option β):Option β:=z A D C C E
theorem zrN{β:Type}(L:Nat)(z:Nat)(A C:Int)(D:List V)(k:KK β):(zz 0 (xK (yi xX (yY L) 1 L zhc) (yR 1 (CF.res zbf) k))) (.exit 0) (zgy z A C D)=znU L z A C D (fun z A C E D=>xz (yi xX (yY L) 1 L zdn) zfl L (zdX z A C E D) (zz 2 (xK (yi xX (yY L) 1 L zi8) (yR 1 (CF.res zbf) k)))):=by kernel_rfl
def zh7{β:Type}(L:Nat)(C:Nat)(G F A:Int)(E:List V)(z:Nat→Int→Int→Int→List V→Option β)(D:Int→Int→List V→Option β):Option β:=ifb (decide (A<((C:Nat):Int))) (chk (0≤A∧A<((C:Nat):Int)) (cI .i64 E ((0+((XH A)*5))+0) fun I=>ifb ((I:Int)==G) (lt (QF .i64 ((A:Int)+(1:Int))) fun J=>z C G F J E) (D F A E))) (D F A E)
theorem zrJ{β:Type}(L:Nat)(z:Nat)(E A C:Int)(D:List V)(X:St→Option β)(K:KT β):yi xX (yY L) 1 L zdn (zdX z E A C D) (zbo zfl X K)=zh7 L z E A C D (fun z E A C D=>X (zdX z E A C D)) (fun A C D=>K (.exit 2) (zj9 A C D)):=by kernel_rfl
def zlD{β:Type}(L:Nat)(A C:Int)(D:List V)(z:Int→Int→List V→Option β):Option β:=z A C D
theorem zqx{β:Type}(L:Nat)(D E:Int)(z:List V)(k:KK β):(zz 2 (xK (yi xX (yY L) 1 L zi8) (yR 1 (CF.res zbf) k))) (.exit 2) (zj9 D E z)=zlD L D E z (fun A C z=>k (V.tup [(Qe A),(Qe C)]) [(.live true z)]):=by kernel_rfl
def zeF{β:Type}(L:Nat)(z:Nat→Int→Int→List V→Option β):Nat→Nat→Int→Int→List V→Option β
 | 0,_,_,_,_=>none
 | n+1,A,C,D,E=>zj6 L A C D E (fun A C D E=>zeF L z n A C D E) z
theorem zmw{β:Type}(L:Nat)(K:KT β):∀ (n:Nat) (z:Nat) (A C:Int) (D:List V),xz (yi xX (yY L) 1 L zd0) zgr n (zeX z A C D) K=zeF L (fun z A C D=>K (.exit 0) (zgy z A C D)) n z A C D:=by
 intro n
 induction n with
 | zero=>intros; rfl
 | succ n ih=>
  intro z A C D
  refine (ztk L z A C D (fun σ=>xz (yi xX (yY L) 1 L zd0) zgr n σ K) K).trans ?_
  simp only [ih]
  rfl
def zdE{β:Type}(L:Nat)(z:Int→Int→List V→Option β):Nat→Nat→Int→Int→Int→List V→Option β
 | 0,_,_,_,_,_=>none
 | n+1,A,C,D,E,F=>zh7 L A C D E F (fun A C D E F=>zdE L z n A C D E F) z
theorem zk2{β:Type}(L:Nat)(K:KT β):∀ (n:Nat) (z:Nat) (E A C:Int) (D:List V),xz (yi xX (yY L) 1 L zdn) zfl n (zdX z E A C D) K=zdE L (fun A C D=>K (.exit 2) (zj9 A C D)) n z E A C D:=by
 intro n
 induction n with
 | zero=>intros; rfl
 | succ n ih=>
  intro z E A C D
  refine (zrJ L z E A C D (fun σ=>xz (yi xX (yY L) 1 L zdn) zfl n σ K) K).trans ?_
  simp only [ih]
  rfl
def zhP{β:Type}(L:Nat)(z:Nat)(E A:Int)(C:List V)(D:Int→Int→List V→Option β):Option β:=znU L z E A C (fun z E A F C=>zdE L (fun A F C=>zlD L A F C D) L z E A F C)
theorem zrF{β:Type}(L:Nat)(z:Nat)(C D:Int)(A:List V)(k:KK β):(zz 0 (xK (yi xX (yY L) 1 L zhc) (yR 1 (CF.res zbf) k))) (.exit 0) (zgy z C D A)=zhP L z C D A (fun E F A=>k (V.tup [(Qe E),(Qe F)]) [(.live true A)]):=by
 refine (zrN L z C D A k).trans ?_
 unfold zhP
 first
  | (simp only [zk2,zqx]; done)
  | (simp only [zk2]; rfl)
def zkS{β:Type}(L:Nat)(z:Nat)(A:Int)(C:List V)(D:Int→Int→List V→Option β):Option β:=zoG L z A C (fun z A E C=>zeF L (fun z A E C=>zhP L z A E C D) L z A E C)
theorem zwM{β:Type}(L:Nat)(z:Nat)(C:Int)(A:List V)(k:KK β):zp xX (yY L) L zbf [(V.own 0 0 z 5),(Qe C)] [(.live true A)] k=zkS L z C A (fun D E A=>k (V.tup [(Qe D),(Qe E)]) [(.live true A)]):=by
 refine (zwT L z C A k).trans ?_
 unfold zkS
 first
  | (simp only [zmw,zrF]; done)
  | (simp only [zmw]; rfl)
abbrev zam:=∀ (β:Type),Nat→Nat→Int→List V→(Int→Int→List V→Option β)→Option β
def yj(β:Type)(L:Nat)(A:Nat)(C:Int)(D:List V)(z:Int→Int→List V→Option β):Option β:=zkS L A C D z
def zhL(yj:zam)(L:Nat)(β:Type)(args:List V)(bor:Bor)(k:KK β):Option β:=match args,bor with
 | [a0,a1],[(.live true z)]=>aO0 0 5 a0 fun D=>aI .i64 a1 fun E=>yj β L D E z (fun A C z=>k (V.tup [(Qe A),(Qe C)]) [(.live true z)])
 | _,_=>none
theorem zw1(L:Nat)(β:Type)(args:List V)(bor:Bor)(k:KK β)(r:β)(h:zhL yj L β args bor k=some r):zp xX (yY L) L zbf args bor k=some r:=by
 unfold zhL at h
 split at h
 ·have q:=zhO h; clear h; obtain ⟨z,rfl,h⟩:=q
  have q:=yB h; clear h; obtain ⟨A,rfl,h⟩:=q
  exact (zwM L z A _ k).trans h
 ·cases h
def zcm:CC:=(.seq (.seq (.reg [Qh 24 (tq 7),Qh 25 (tq 0),Qr 26 (tq 25),Qp 27 .lss (tq 24) (tq 26),Qh 28 (tq 27),⟨(some 29),false,(some (28,true)),.move (tq 0) false⟩,⟨(some 30),false,(some (28,true)),.move (tq 7) false⟩,⟨(some 31),false,(some (28,true)),.indexAddrS 5 (tq 29) (tq 30)⟩,⟨(some 32),false,(some (28,true)),.fieldAddr 0 (tq 31)⟩,⟨(some 33),false,(some (28,true)),.load false 1 (tq 32) false⟩,⟨(some 34),false,(some (28,true)),.move (tq 1) false⟩,⟨(some 35),false,(some (28,true)),.bin .eql (tq 33) (tq 34)⟩,oo 36 (.pick (tq 28) (tq 35) (Qg false))]) (.cond (tq 36) .skip (.seq (.mask (bl 192 41) (bl 2198956146687 41)) (.exit 2)))) (.block 3 (.reg [Qh 37 (tq 7),Qp 38 .add (tq 37) (Qf 1),Qh 7 (tq 38)])))
def zg5:CC:=(.seq (.reg [Qh 39 (tq 6),Qh 40 (tq 7),Qh 4 (tq 39),Qh 5 (tq 40)]) .ret)
def zeu:CC:=(.seq (.seq (.reg [Qh 8 (tq 6),Qh 9 (tq 0),Qr 10 (tq 9),Qp 11 .lss (tq 8) (tq 10),Qh 12 (tq 11),⟨(some 13),false,(some (12,true)),.move (tq 0) false⟩,⟨(some 14),false,(some (12,true)),.move (tq 6) false⟩,⟨(some 15),false,(some (12,true)),.indexAddrS 5 (tq 13) (tq 14)⟩,⟨(some 16),false,(some (12,true)),.fieldAddr 0 (tq 15)⟩,⟨(some 17),false,(some (12,true)),.load false 1 (tq 16) false⟩,⟨(some 18),false,(some (12,true)),.move (tq 1) false⟩,⟨(some 19),false,(some (12,true)),.bin .lss (tq 17) (tq 18)⟩,oo 20 (.pick (tq 12) (tq 19) (Qg false))]) (.cond (tq 20) .skip (.seq (.mask (bl 67 41) (bl 2199023254527 41)) (.exit 0)))) (.block 1 (.reg [Qh 21 (tq 6),Qp 22 .add (tq 21) (Qf 1),Qh 6 (tq 22)])))
def ziz:CC:=(.seq (.reg [Qh 23 (tq 6),Qh 7 (tq 23)]) (.seq (.block 2 (.loop (bl 195 41) (bl 2198956146687 41) zcm)) zg5))
def zbS:CF:=zbf
def xN:Nat→Sh:=xW [(17,(.int .i64)),(33,(.int .i64))]
def zO(L:Nat):CBC:=noC
def zeT:St→St:=zaH 0 (bl 67 41) (bl 2199023254527 41)
def zdZ:St→St:=zaH 0 (bl 195 41) (bl 2198956146687 41)
def zdL(z:List (List V))(A C:Int):St:=⟨((V.sl 5 z)::((Qe A)::(jn 4 ((Qe C)::(jn 34 []))))),(gn 41 [])⟩
def zeN(z:List (List V))(A C:Int):St:=⟨((V.sl 5 z)::((Qe A)::(jn 4 ((Qe C)::(jn 34 []))))),(gn 41 [])⟩
def zdc(z:List (List V))(A C D:Int):St:=⟨((V.sl 5 z)::((Qe A)::(jn 4 ((Qe C)::((Qe D)::(jn 33 [])))))),(gn 41 [])⟩
def zhT(z A:Int):St:=⟨(jn 6 ((Qe z)::((Qe A)::(jn 33 [])))),(gn 41 [])⟩
def zlr{β:Type}(L:Nat)(A:List (List V))(C:Int)(z:List (List V)→Int→Int→Option β):Option β:=z A C (0:Int)
theorem zt9{β:Type}(L:Nat)(z:List (List V))(A:Int)(k:KK β):zp xN (zO L) L zbS [(V.sl 5 z),(Qe A)] [] k=zlr L z A (fun z A C=>xz (yi xN (zO L) 0 L zeu) zeT L (zdL z A C) (zz 0 (xK (yi xN (zO L) 0 L ziz) (yR 0 (CF.res zbS) k)))):=by kernel_rfl
def zhC{β:Type}(L:Nat)(A:List (List V))(E C:Int)(z:List (List V)→Int→Int→Option β)(D:List (List V)→Int→Int→Option β):Option β:=ifb (decide (C<((XG A:Nat):Int))) (idx A C fun c0=>cI .i64 c0 0 fun F=>ifb (decide (F<E)) (lt (QF .i64 ((C:Int)+(1:Int))) fun G=>z A E G) (D A E C)) (D A E C)
theorem zq9{β:Type}(L:Nat)(z:List (List V))(A C:Int)(X:St→Option β)(K:KT β):yi xN (zO L) 0 L zeu (zdL z A C) (zbo zeT X K)=zhC L z A C (fun z A C=>X (zdL z A C)) (fun z A C=>K (.exit 0) (zeN z A C)):=by kernel_rfl
def zk1{β:Type}(L:Nat)(C:List (List V))(D A:Int)(z:List (List V)→Int→Int→Int→Option β):Option β:=z C D A A
theorem zpZ{β:Type}(L:Nat)(z:List (List V))(A C:Int)(k:KK β):(zz 0 (xK (yi xN (zO L) 0 L ziz) (yR 0 (CF.res zbS) k))) (.exit 0) (zeN z A C)=zk1 L z A C (fun z A C D=>xz (yi xN (zO L) 0 L zcm) zdZ L (zdc z A C D) (zz 2 (xK (yi xN (zO L) 0 L zg5) (yR 0 (CF.res zbS) k)))):=by kernel_rfl
def zgk{β:Type}(L:Nat)(D:List (List V))(F E A:Int)(z:List (List V)→Int→Int→Int→Option β)(C:Int→Int→Option β):Option β:=ifb (decide (A<((XG D:Nat):Int))) (idx D A fun c3=>cI .i64 c3 0 fun G=>ifb ((G:Int)==F) (lt (QF .i64 ((A:Int)+(1:Int))) fun I=>z D F E I) (C E A)) (C E A)
theorem zp2{β:Type}(L:Nat)(C:List (List V))(D z A:Int)(X:St→Option β)(K:KT β):yi xN (zO L) 0 L zcm (zdc C D z A) (zbo zdZ X K)=zgk L C D z A (fun C D z A=>X (zdc C D z A)) (fun z A=>K (.exit 2) (zhT z A)):=by kernel_rfl
def zjM{β:Type}(L:Nat)(A C:Int)(z:Int→Int→Option β):Option β:=z A C
theorem zoI{β:Type}(L:Nat)(C D:Int)(k:KK β):(zz 2 (xK (yi xN (zO L) 0 L zg5) (yR 0 (CF.res zbS) k))) (.exit 2) (zhT C D)=zjM L C D (fun z A=>k (V.tup [(Qe z),(Qe A)]) []):=by kernel_rfl
def zdq{β:Type}(L:Nat)(z:List (List V)→Int→Int→Option β):Nat→List (List V)→Int→Int→Option β
 | 0,_,_,_=>none
 | n+1,A,C,D=>zhC L A C D (fun A C D=>zdq L z n A C D) z
theorem zkj{β:Type}(L:Nat)(K:KT β):∀ (n:Nat) (z:List (List V)) (A C:Int),xz (yi xN (zO L) 0 L zeu) zeT n (zdL z A C) K=zdq L (fun z A C=>K (.exit 0) (zeN z A C)) n z A C:=by
 intro n
 induction n with
 | zero=>intros; rfl
 | succ n ih=>
  intro z A C
  refine (zq9 L z A C (fun σ=>xz (yi xN (zO L) 0 L zeu) zeT n σ K) K).trans ?_
  simp only [ih]
  rfl
def zcQ{β:Type}(L:Nat)(z:Int→Int→Option β):Nat→List (List V)→Int→Int→Int→Option β
 | 0,_,_,_,_=>none
 | n+1,A,C,D,E=>zgk L A C D E (fun A C D E=>zcQ L z n A C D E) z
theorem ziW{β:Type}(L:Nat)(K:KT β):∀ (n:Nat) (C:List (List V)) (D z A:Int),xz (yi xN (zO L) 0 L zcm) zdZ n (zdc C D z A) K=zcQ L (fun z A=>K (.exit 2) (zhT z A)) n C D z A:=by
 intro n
 induction n with
 | zero=>intros; rfl
 | succ n ih=>
  intro C D z A
  refine (zp2 L C D z A (fun σ=>xz (yi xN (zO L) 0 L zcm) zdZ n σ K) K).trans ?_
  simp only [ih]
  rfl
def zfV{β:Type}(L:Nat)(C:List (List V))(D z:Int)(A:Int→Int→Option β):Option β:=zk1 L C D z (fun C D z E=>zcQ L (fun z E=>zjM L z E A) L C D z E)
theorem zps{β:Type}(L:Nat)(z:List (List V))(A C:Int)(k:KK β):(zz 0 (xK (yi xN (zO L) 0 L ziz) (yR 0 (CF.res zbS) k))) (.exit 0) (zeN z A C)=zfV L z A C (fun D E=>k (V.tup [(Qe D),(Qe E)]) []):=by
 refine (zpZ L z A C k).trans ?_
 unfold zfV
 first
  | (simp only [ziW,zoI]; done)
  | (simp only [ziW]; rfl)
def zhl{β:Type}(L:Nat)(z:List (List V))(A:Int)(C:Int→Int→Option β):Option β:=zlr L z A (fun z A D=>zdq L (fun z A D=>zfV L z A D C) L z A D)
theorem ztB{β:Type}(L:Nat)(z:List (List V))(A:Int)(k:KK β):zp xN (zO L) L zbS [(V.sl 5 z),(Qe A)] [] k=zhl L z A (fun C D=>k (V.tup [(Qe C),(Qe D)]) []):=by
 refine (zt9 L z A k).trans ?_
 unfold zhl
 first
  | (simp only [zkj,zps]; done)
  | (simp only [zkj]; rfl)
abbrev zhv:=∀ (β:Type),Nat→List (List V)→Int→(Int→Int→Option β)→Option β
def yQ(β:Type)(L:Nat)(A:List (List V))(C:Int)(z:Int→Int→Option β):Option β:=zhl L A C z
def zhg(yQ:zhv)(L:Nat)(β:Type)(args:List V)(bor:Bor)(k:KK β):Option β:=match args,bor with
 | [a0,a1],[]=>aL 5 a0 fun C=>aI .i64 a1 fun D=>yQ β L C D (fun z A=>k (V.tup [(Qe z),(Qe A)]) [])
 | _,_=>none
theorem ztX(L:Nat)(β:Type)(args:List V)(bor:Bor)(k:KK β)(r:β)(h:zhg yQ L β args bor k=some r):zp xN (zO L) L zbS args bor k=some r:=by
 unfold zhg at h
 split at h
 ·have q:=zaT h; clear h; obtain ⟨z,rfl,h⟩:=q
  have q:=yB h; clear h; obtain ⟨A,rfl,h⟩:=q
  exact (ztB L z A k).trans h
 ·cases h
def zjK:CF:=⟨26,[.tmp 4],(.seq (.reg [Qv 3 (tq 1),Qi 4 (.const (.gs 5 []))]) (.seq (.reg [Qh 8 (tq 0),Ql 9 0 (tq 3),Qj 10 1 (tq 9),Qs 11 291 [((tq 8),2),((tq 10),2)],Qi 7 (tq 11),Qq 12 (tq 7) 0,Qq 13 (tq 7) 1,Qh 5 (tq 12),Qh 6 (tq 13)]) (.seq (.dreg [] [(oo 14 (.buildSlice 5 0 [(.sc (.int .i64 0)),(.sc (.int .u32 0)),(.sc (.int .u16 0)),(.sc (.int .u32 0)),(.sc (.int .u32 0))] []),qn [3] [20]),(Qh 15 (tq 0),q0),(Qh 16 (tq 6),q0),(oo 17 (.sliceS 5 (tq 15) none (some (tq 16)) none),q0),(oo 18 (.append 5 24 (tq 14) (tq 17)),qn [3] [20]),(Qk 19 5 (tq 3),ql 3 [] [14,18]),(oo 20 (.buildSlice 5 1 [(.sc (.int .i64 0)),(.sc (.int .u32 0)),(.sc (.int .u16 0)),(.sc (.int .u32 0)),(.sc (.int .u32 0))] [(0,5,(tq 19))]),qn [] [14,18]),(oo 21 (.append 5 24 (tq 18) (tq 20)),q0),(Qh 22 (tq 0),q0),(Qh 23 (tq 6),q0),(oo 24 (.sliceS 5 (tq 22) (some (tq 23)) none none),q0),(oo 25 (.append 5 24 (tq 21) (tq 24)),q0),(Qi 4 (tq 25),q0)]) .ret)))⟩
def zqb:Hint:=⟨[(0,1),(1,3),(1,4),(2,12)],[],[none],[],[],false,false,[]⟩
def znW:Nat→Sh:=xW [(10,(.int .i64))]
def znC(yQ:zhv)(L:Nat):CBC:=(yD 291 (zhg yQ L) noC)
def zoo{β:Type}(yQ:zhv)(L:Nat)(A:List (List V))(C:List V)(D:List (List V)→Option β):Option β:=cI .i64 C 0 fun G=>yQ β L A G (fun J z=>chk (0≤z∧z≤(((XG A):Nat):Int)) (chk ((XG ([]:List (List V))+XG (XI ((XH z)-0) (XJ 0 A)))*24≤xq∧XG ([]:List (List V))+XG (XI ((XH z)-0) (XJ 0 A))≤xq) (lt (([]:List (List V))++(XI ((XH z)-0) (XJ 0 A))) fun E=>chk (0+5≤(XG C)) (chk ((XG (XI 5 C))=5∧0+5≤5) (chk ((XG E+XG (xh 5 1 (yh [(Qe (0:Int)),(Qc (0:Int)),(Qb (0:Int)),(Qc (0:Int)),(Qc (0:Int))] 0 (XI 5 C))))*24≤xq∧XG E+XG (xh 5 1 (yh [(Qe (0:Int)),(Qc (0:Int)),(Qb (0:Int)),(Qc (0:Int)),(Qc (0:Int))] 0 (XI 5 C)))≤xq) (lt (E++(xh 5 1 (yh [(Qe (0:Int)),(Qc (0:Int)),(Qb (0:Int)),(Qc (0:Int)),(Qc (0:Int))] 0 (XI 5 C)))) fun F=>chk (0≤z∧z≤(((XG A):Nat):Int)) (chk ((XG F+XG (XI ((XG A)-(XH z)) (XJ (XH z) A)))*24≤xq∧XG F+XG (XI ((XG A)-(XH z)) (XJ (XH z) A))≤xq) (lt (F++(XI ((XG A)-(XH z)) (XJ (XH z) A))) fun I=>D I))))))))
theorem zwW{β:Type}(yQ:zhv)(L:Nat)(z:List (List V))(A:List V)(k:KK β):zp znW (znC yQ L) L zjK [(V.sl 5 z),(V.agg A)] [] k=zoo yQ L z A (fun z=>k (V.gs 5 z) []):=by kernel_rfl
abbrev zal:=∀ (β:Type),Nat→List (List V)→List V→(List (List V)→Option β)→Option β
def zi(β:Type)(L:Nat)(A:List (List V))(C:List V)(z:List (List V)→Option β):Option β:=zoo yQ L A C z
def zhR(zi:zal)(L:Nat)(β:Type)(args:List V)(bor:Bor)(k:KK β):Option β:=match args,bor with
 | [a0,a1],[]=>aL 5 a0 fun z=>aG a1 fun A=>zi β L z A (fun z=>k (V.gs 5 z) [])
 | _,_=>none
theorem zxa(L:Nat)(β:Type)(args:List V)(bor:Bor)(k:KK β)(r:β)(h:zhR zi L β args bor k=some r):zp znW (znC yQ L) L zjK args bor k=some r:=by
 unfold zhR at h
 split at h
 ·have q:=zaT h; clear h; obtain ⟨z,rfl,h⟩:=q
  have q:=yW h; clear h; obtain ⟨A,rfl,h⟩:=q
  exact (zwW yQ L z A k).trans h
 ·cases h
def zfr:CC:=(.seq (.seq (.reg [Qh 6 (tq 5),Qh 7 (tq 0),Qr 8 (tq 7),Qp 9 .lss (tq 6) (tq 8)]) (.cond (tq 9) .skip (.seq (.mask (bl 0 20) (bl 786119 20)) (.exit 0)))) (.seq (.block 1 (.seq (.dreg [] [(Qh 12 (tq 0),q0),(Qh 13 (tq 5),q0),(Qo 14 5 (tq 12) (tq 13),q0),(Ql 15 1 (tq 14),q0),(Qk 16 3 (tq 15),qc [3] []),(Qk 17 3 (tq 3),ql 3 [] []),(Qs 18 303 [(Qw 16),(Qw 17)],q0)]) (.cond (tq 18) (.seq (.reg [Qh 19 (tq 5),Qh 4 (tq 19)]) (.seq (.mask (bl 16 20) (bl 786135 20)) .ret)) .skip))) (.reg [Qh 10 (tq 5),Qp 11 .add (tq 10) (Qf 1),Qh 5 (tq 11)])))
def zlh:CC:=(.seq (.reg [Qh 4 (Qf (-1))]) .ret)
def zee:CF:=zdg
def zaX:Nat→Sh:=xW []
def zaS(yf:xM)(L:Nat):CBC:=(yD 303 (zjZ yf L) noC)
def zf0:St→St:=zaH 1 (bl 41 20) (bl 786159 20)
def zes(z:Nat)(A:Int)(C D:List V):St:=⟨((V.own 0 0 z 5)::(jn 2 ((V.ptr 4 0)::(jn 1 ((Qe A)::(jn 14 [])))))),((.live true C)::(gn 3 ((.live true D)::(gn 16 []))))⟩
def ziC(z:Int)(A:List V):St:=⟨(jn 4 ((Qe z)::(jn 15 []))),((.live true A)::(gn 20 []))⟩
def zja(z:List V):St:=⟨(jn 20 []),((.live true z)::(gn 20 []))⟩
def zm9{β:Type}(yf:xM)(L:Nat)(A:Nat)(C D:List V)(z:Nat→Int→List V→List V→Option β):Option β:=z A (0:Int) D C
theorem zwt{β:Type}(yf:xM)(L:Nat)(z:Nat)(C A:List V)(k:KK β):zp zaX (zaS yf L) L zee [(V.own 0 0 z 5),(V.agg C)] [(.live true A)] k=zm9 yf L z C A (fun z D A E=>xz (yi zaX (zaS yf L) 1 L zfr) zf0 L (zes z D A E) (zz 0 (xK (yi zaX (zaS yf L) 1 L zlh) (yR 1 (CF.res zee) k)))):=by kernel_rfl
def zjf{β:Type}(yf:xM)(L:Nat)(C:Nat)(z:Int)(D F:List V)(E:Int→List V→Option β)(A:Nat→Int→List V→List V→Option β)(G:List V→Option β):Option β:=ifb (decide (z<((C:Nat):Int))) (chk (0≤z∧z<((C:Nat):Int)) (chk (((0+((XH z)*5))+1)+3≤(XG D)) (chk (0+3≤(XG F)) (yf β L (XI 3 (XJ ((0+((XH z)*5))+1) D)) (XI 3 F) (fun I=>ifb I (E z D) (lt (QF .i64 ((z:Int)+(1:Int))) fun J=>A C J D F)))))) (G D)
theorem zsL{β:Type}(yf:xM)(L:Nat)(A:Nat)(C:Int)(z D:List V)(X:St→Option β)(K:KT β):yi zaX (zaS yf L) 1 L zfr (zes A C z D) (zbo zf0 X K)=zjf yf L A C z D (fun E z=>K .ret (ziC E z)) (fun A C z D=>X (zes A C z D)) (fun z=>K (.exit 0) (zja z)):=by kernel_rfl
def zlz{β:Type}(yf:xM)(L:Nat)(A:Int)(C:List V)(z:Int→List V→Option β):Option β:=z A C
theorem zqo{β:Type}(yf:xM)(L:Nat)(A:Int)(z:List V)(k:KK β):(zz 0 (xK (yi zaX (zaS yf L) 1 L zlh) (yR 1 (CF.res zee) k))) .ret (ziC A z)=zlz yf L A z (fun C z=>k (Qe C) [(.live true z)]):=by kernel_rfl
def zmo{β:Type}(yf:xM)(L:Nat)(A:List V)(z:Int→List V→Option β):Option β:=z (-1:Int) A
theorem zra{β:Type}(yf:xM)(L:Nat)(z:List V)(k:KK β):(zz 0 (xK (yi zaX (zaS yf L) 1 L zlh) (yR 1 (CF.res zee) k))) (.exit 0) (zja z)=zmo yf L z (fun A z=>k (Qe A) [(.live true z)]):=by kernel_rfl
def zd4{β:Type}(yf:xM)(L:Nat)(z:Int→List V→Option β)(A:List V→Option β):Nat→Nat→Int→List V→List V→Option β
 | 0,_,_,_,_=>none
 | n+1,C,D,E,F=>zjf yf L C D E F z (fun C D E F=>zd4 yf L z A n C D E F) A
theorem zlH{β:Type}(yf:xM)(L:Nat)(K:KT β):∀ (n:Nat) (A:Nat) (C:Int) (z D:List V),xz (yi zaX (zaS yf L) 1 L zfr) zf0 n (zes A C z D) K=zd4 yf L (fun E z=>K .ret (ziC E z)) (fun z=>K (.exit 0) (zja z)) n A C z D:=by
 intro n
 induction n with
 | zero=>intros; rfl
 | succ n ih=>
  intro A C z D
  refine (zsL yf L A C z D (fun σ=>xz (yi zaX (zaS yf L) 1 L zfr) zf0 n σ K) K).trans ?_
  simp only [ih]
  rfl
def zjN{β:Type}(yf:xM)(L:Nat)(C:Nat)(D z:List V)(A:Int→List V→Option β):Option β:=zm9 yf L C D z (fun C E z F=>zd4 yf L (fun G z=>zlz yf L G z A) (fun z=>zmo yf L z A) L C E z F)
theorem zvk{β:Type}(yf:xM)(L:Nat)(z:Nat)(C A:List V)(k:KK β):zp zaX (zaS yf L) L zee [(V.own 0 0 z 5),(V.agg C)] [(.live true A)] k=zjN yf L z C A (fun D A=>k (Qe D) [(.live true A)]):=by
 refine (zwt yf L z C A k).trans ?_
 unfold zjN
 first
  | (simp only [zlH,zqo,zra]; done)
  | (simp only [zlH]; rfl)
abbrev zaO:=∀ (β:Type),Nat→Nat→List V→List V→(Int→List V→Option β)→Option β
def yl(β:Type)(L:Nat)(A:Nat)(C D:List V)(z:Int→List V→Option β):Option β:=zjN yf L A C D z
def zjQ(yl:zaO)(L:Nat)(β:Type)(args:List V)(bor:Bor)(k:KK β):Option β:=match args,bor with
 | [a0,a1],[(.live true z)]=>aO0 0 5 a0 fun A=>aG a1 fun C=>yl β L A C z (fun D z=>k (Qe D) [(.live true z)])
 | _,_=>none
theorem zv8(L:Nat)(β:Type)(args:List V)(bor:Bor)(k:KK β)(r:β)(h:zjQ yl L β args bor k=some r):zp zaX (zaS yf L) L zee args bor k=some r:=by
 unfold zjQ at h
 split at h
 ·have q:=zhO h; clear h; obtain ⟨z,rfl,h⟩:=q
  have q:=yW h; clear h; obtain ⟨A,rfl,h⟩:=q
  exact (zvk yf L z A _ k).trans h
 ·cases h
def zbY:CC:=(.seq (.seq (.reg [Qh 86 (tq 15),Qh 87 (tq 13),Qp 88 .lss (tq 86) (tq 87)]) (.cond (tq 88) .skip (.seq (.mask (bl 18768 129) (bl 680564733841876926926749214863536390135 129)) (.exit 0)))) (.seq (.block 1 (.seq (.dreg [] [(Ql 91 32 (tq 8),q0),(Qj 92 1 (tq 91),ql 8 [] []),(Qh 93 (tq 15),q0),(Qo 94 5 (tq 92) (tq 93),q0),(Ql 95 1 (tq 94),q0),(Ql 96 2 (tq 95),q0),(Qj 97 1 (tq 96),qc [8] []),(Ql 98 32 (tq 8),q0),(Qj 99 1 (tq 98),ql 8 [] []),(Qh 100 (tq 14),q0),(Qo 101 5 (tq 99) (tq 100),q0),(Ql 102 1 (tq 101),q0),(Ql 103 2 (tq 102),q0),(Qj 104 1 (tq 103),qc [8] []),(Qp 105 .lss (tq 97) (tq 104),q0)]) (.cond (tq 105) (.reg [Qh 106 (tq 15),Qh 14 (tq 106)]) .skip))) (.reg [Qh 89 (tq 15),Qp 90 .add (tq 89) (Qf 1),Qh 15 (tq 90)])))
def zgm:CC:=(.seq (.seq (.dreg [] [(Ql 107 32 (tq 8),q0),(Qj 108 1 (tq 107),ql 8 [4] []),(Qh 109 (tq 14),q0),(Qo 110 5 (tq 108) (tq 109),q0),(Ql 111 1 (tq 110),q0),(Ql 112 2 (tq 111),q0),(Qj 113 1 (tq 112),qc [4] []),(Ql 114 2 (tq 4),q0),(Qj 115 1 (tq 114),ql 4 [8] []),(Qp 116 .geq (tq 113) (tq 115),q0)]) (.cond (tq 116) (.seq (.reg [oo 117 (.load true 34 (tq 8) true),Qm 34 (tq 6) (tq 117),Qh 7 (Qg false)]) .ret) .skip)) (.reg [Ql 118 32 (tq 8),Qj 119 1 (tq 118),Qh 120 (tq 14),Qs 121 289 [((tq 119),2),((tq 120),2)],Ql 122 32 (tq 8),Qm 1 (tq 122) (tq 121)]))
def zi9:CC:=(.seq (.reg [Ql 123 32 (tq 8),Qj 124 1 (tq 123),Qk 125 5 (tq 11),Qs 126 292 [(Qw 124),(Qw 125)],Ql 127 32 (tq 8),Qm 1 (tq 127) (tq 126)]) (.seq (.reg [oo 128 (.load true 34 (tq 8) true),Qm 34 (tq 6) (tq 128),Qh 7 (Qg true)]) .ret))
def ze4:CF:=⟨129,[.cellS 6 34 true,.tmpP 7],(.seq (.reg [Qv 3 (tq 0),Qv 4 (tq 1),oo 6 (.alloc false (rp 32 (.sc (.int .u8 0)) (rp 2 (.gs 5 []) []))),Qh 7 (Qg false)]) (.seq (.reg [Qk 16 34 (tq 3),oo 17 (.call 288 [((tq 16),1)] [18,23]),oo 8 (.alloc false (rp 32 (.sc (.int .u8 0)) (rp 2 (.gs 5 []) []))),Qm 34 (tq 8) (tq 17)]) (.seq (.seq (.reg [Ql 18 33 (tq 8),Qj 19 1 (tq 18),Qk 20 3 (tq 4),Qs 21 287 [((tq 19),2),((tq 20),2)],Qh 9 (tq 21)]) (.seq (.reg [Qh 22 (tq 9),Qp 23 .geq (tq 22) (Qf 0)]) (.cond (tq 23) (.seq (.dreg [] [(Ql 24 33 (tq 8),q0),(Qj 25 1 (tq 24),ql 8 [4] []),(Qh 26 (tq 9),q0),(Ql 27 33 (tq 8),q0),(Qj 28 1 (tq 27),ql 8 [4] []),(Qh 29 (tq 9),q0),(Qo 30 5 (tq 28) (tq 29),q0),(Ql 31 1 (tq 30),q0),(Ql 32 2 (tq 31),q0),(Qj 33 1 (tq 32),qc [8,4] []),(Ql 34 2 (tq 4),q0),(Qj 35 1 (tq 34),ql 4 [8] []),(oo 36 (.mm true (tq 33) (tq 35)),q0),(Qo 37 5 (tq 25) (tq 26),q0),(Ql 38 1 (tq 37),q0),(Ql 39 2 (tq 38),q0),(Qm 1 (tq 39) (tq 36),q0)]) (.seq (.reg [oo 40 (.load true 34 (tq 8) true),Qm 34 (tq 6) (tq 40),Qh 7 (Qg false)]) .ret)) .skip))) (.seq (.seq (.reg [Ql 41 32 (tq 8),Qj 42 1 (tq 41),Qk 43 3 (tq 4),Qs 44 287 [((tq 42),2),((tq 43),2)],Qh 10 (tq 44)]) (.seq (.reg [Qh 45 (tq 10),Qp 46 .geq (tq 45) (Qf 0)]) (.cond (tq 46) (.seq (.dreg [] [(Ql 47 32 (tq 8),q0),(Qj 48 1 (tq 47),ql 8 [4] []),(Qh 49 (tq 10),q0),(Ql 50 32 (tq 8),q0),(Qj 51 1 (tq 50),ql 8 [4] []),(Qh 52 (tq 10),q0),(Qo 53 5 (tq 51) (tq 52),q0),(Ql 54 1 (tq 53),q0),(Ql 55 2 (tq 54),q0),(Qj 56 1 (tq 55),qc [8,4] []),(Ql 57 2 (tq 4),q0),(Qj 58 1 (tq 57),ql 4 [8] []),(oo 59 (.mm true (tq 56) (tq 58)),q0),(Qo 60 5 (tq 48) (tq 49),q0),(Ql 61 1 (tq 60),q0),(Ql 62 2 (tq 61),q0),(Qm 1 (tq 62) (tq 59),q0)]) (.seq (.reg [oo 63 (.load true 34 (tq 8) true),Qm 34 (tq 6) (tq 63),Qh 7 (Qg false)]) .ret)) .skip))) (.seq (.dreg [] [(Ql 64 0 (tq 3),q0),(Qk 65 32 (tq 64),ql 3 [4] [11]),(Qk 66 3 (tq 4),ql 4 [3] [11]),(Qh 67 (tq 2),q0),(Qs 68 305 [(Qw 65),(Qw 66),(Qw 67)],qc [4] [11]),(Qk 69 3 (tq 4),ql 4 [3] [11]),(Qh 70 (tq 2),q0),(oo 71 (.build [(.sc (.int .i64 0)),(.sc (.int .u32 0)),(.sc (.int .u16 0)),(.sc (.int .u32 0)),(.sc (.int .u32 0))] [(0,1,(tq 68)),(1,3,(tq 69)),(4,1,(tq 70))]),q0),(oo 11 (.alloc true [(.sc (.int .i64 0)),(.sc (.int .u32 0)),(.sc (.int .u16 0)),(.sc (.int .u32 0)),(.sc (.int .u32 0))]),qn [3,4] []),(Qm 5 (tq 11) (tq 71),q0)]) (.seq (.reg [Ql 73 32 (tq 8),Qj 74 1 (tq 73),Ql 75 0 (tq 11),Qj 76 1 (tq 75),Qs 77 291 [((tq 74),2),((tq 76),2)],Qi 72 (tq 77),Qq 78 (tq 72) 0,Qq 79 (tq 72) 1,Qh 12 (tq 78),Qh 13 (tq 79)]) (.seq (.seq (.reg [Qh 80 (tq 13),Qh 81 (tq 12),Qp 82 .sub (tq 80) (tq 81),Qp 83 .geq (tq 82) (Qf 8)]) (.cond (tq 83) (.seq (.reg [Qh 84 (tq 12),Qh 14 (tq 84)]) (.seq (.seq (.reg [Qh 85 (tq 12),Qh 15 (tq 85)]) (.block 0 (.loop (bl 59728 129) (bl 680564733841876926926749214863536422903 129) zbY))) zgm)) .skip)) zi9)))))))⟩
def zrW:Hint:=⟨[(0,0),(2,3),(5,0),(6,3),(9,0),(11,4),(11,5),(20,0),(21,3),(23,0)],[],[none,none,none,none,none,none,some ((bl 59728 129),(bl 680564733841876926926749214863536422903 129)),none,some ((bl 18768 129),(bl 680564733841876926926749214863536390135 129)),none,none,none,none,none],[],[(1,1,[18,23])],true,true,[]⟩
def zbz:Nat→Sh:=xW [(33,(.int .u32)),(35,(.int .u32)),(56,(.int .u32)),(58,(.int .u32)),(76,(.int .i64)),(97,(.int .u32)),(104,(.int .u32)),(113,(.int .u32)),(115,(.int .u32))]
def zbB(xj:zai)(yl:zaO)(yb:zy)(yj:zam)(zi:zal)(zj:zak)(L:Nat):CBC:=(yD 289 (zhY zj L) (yD 292 (zhR zi L) (yD 291 (zhL yj L) (yD 305 (zd1 yb L) (yD 287 (zjQ yl L) (yD 288 (zhy xj L) noC))))))
def zdw:St→St:=zaH 0 (bl 59728 129) (bl 680564733841876926926749214863536422903 129)
def zcJ(p13 a8 a9:Int)(b4:List V)(aH aJ aK aN aQ aR aT aU aW aX C D E F G I J M N O P Q R S U W X Y Z aa ab ac:Int)(ad ae:List (List V))(aY aZ a0 a1 a2 a3 a4 a5 a6 a7 af ag ah ai aj ak al am an ao ap aq ar au av aw ax ay az aC aD aE:Int)(z A:Nat)(ba bb bc:List V):St:=⟨(jn 4 ((V.ptr 4 0)::(jn 1 ((V.ptr 6 0)::(jn 1 ((V.ptr 8 0)::(jn 2 ((V.ptr 11 0)::(jn 1 ((Qe p13)::((Qe a8)::((Qe a9)::(jn 113 []))))))))))))),(gn 4 ((.live true b4)::(gn 1 ((.live false [(Qa aH),(Qa aJ),(Qa aK),(Qa aN),(Qa aQ),(Qa aR),(Qa aT),(Qa aU),(Qa aW),(Qa aX),(Qa C),(Qa D),(Qa E),(Qa F),(Qa G),(Qa I),(Qa J),(Qa M),(Qa N),(Qa O),(Qa P),(Qa Q),(Qa R),(Qa S),(Qa U),(Qa W),(Qa X),(Qa Y),(Qa Z),(Qa aa),(Qa ab),(Qa ac),(V.gs 5 ad),(V.gs 5 ae)])::(gn 1 ((.live false [(Qa aY),(Qa aZ),(Qa a0),(Qa a1),(Qa a2),(Qa a3),(Qa a4),(Qa a5),(Qa a6),(Qa a7),(Qa af),(Qa ag),(Qa ah),(Qa ai),(Qa aj),(Qa ak),(Qa al),(Qa am),(Qa an),(Qa ao),(Qa ap),(Qa aq),(Qa ar),(Qa au),(Qa av),(Qa aw),(Qa ax),(Qa ay),(Qa az),(Qa aC),(Qa aD),(Qa aE),(V.own 18 0 z 5),(V.own 23 0 A 5)])::(gn 2 ((.live true ba)::(gn 6 ((.live true bb)::(gn 4 ((.live true bc)::(gn 105 [])))))))))))))⟩
def zmj(a8:Int)(b4:List V)(aH aJ aK aN aQ aR aT aU aW aX C D E F G I J M N O P Q R S U W X Y Z aa ab ac:Int)(ad ae:List (List V))(aY aZ a0 a1 a2 a3 a4 a5 a6 a7 af ag ah ai aj ak al am an ao ap aq ar au av aw ax ay az aC aD aE:Int)(z A:Nat)(a9 ba bb:List V):St:=⟨(jn 4 ((V.ptr 4 0)::(jn 1 ((V.ptr 6 0)::(jn 1 ((V.ptr 8 0)::(jn 2 ((V.ptr 11 0)::(jn 2 ((Qe a8)::(jn 114 []))))))))))),(gn 4 ((.live true b4)::(gn 1 ((.live false [(Qa aH),(Qa aJ),(Qa aK),(Qa aN),(Qa aQ),(Qa aR),(Qa aT),(Qa aU),(Qa aW),(Qa aX),(Qa C),(Qa D),(Qa E),(Qa F),(Qa G),(Qa I),(Qa J),(Qa M),(Qa N),(Qa O),(Qa P),(Qa Q),(Qa R),(Qa S),(Qa U),(Qa W),(Qa X),(Qa Y),(Qa Z),(Qa aa),(Qa ab),(Qa ac),(V.gs 5 ad),(V.gs 5 ae)])::(gn 1 ((.live false [(Qa aY),(Qa aZ),(Qa a0),(Qa a1),(Qa a2),(Qa a3),(Qa a4),(Qa a5),(Qa a6),(Qa a7),(Qa af),(Qa ag),(Qa ah),(Qa ai),(Qa aj),(Qa ak),(Qa al),(Qa am),(Qa an),(Qa ao),(Qa ap),(Qa aq),(Qa ar),(Qa au),(Qa av),(Qa aw),(Qa ax),(Qa ay),(Qa az),(Qa aC),(Qa aD),(Qa aE),(V.own 18 0 z 5),(V.own 23 0 A 5)])::(gn 2 ((.live true a9)::(gn 6 ((.live true ba)::(gn 4 ((.live true bb)::(gn 105 [])))))))))))))⟩
abbrev ziP(β:Type):Type:=Int→Int→Int→List V→Int→Int→Int→Int→Int→Int→Int→Int→Int→Int→Int→Int→Int→Int→Int→Int→Int→Int→Int→Int→Int→Int→Int→Int→Int→Int→Int→Int→Int→Int→Int→Int→List (List V)→List (List V)→Int→Int→Int→Int→Int→Int→Int→Int→Int→Int→Int→Int→Int→Int→Int→Int→Int→Int→Int→Int→Int→Int→Int→Int→Int→Int→Int→Int→Int→Int→Int→Int→Nat→Nat→List V→List V→List V→Option β
abbrev zoK(β:Type):Type:=Int→List V→Int→Int→Int→Int→Int→Int→Int→Int→Int→Int→Int→Int→Int→Int→Int→Int→Int→Int→Int→Int→Int→Int→Int→Int→Int→Int→Int→Int→Int→Int→Int→Int→List (List V)→List (List V)→Int→Int→Int→Int→Int→Int→Int→Int→Int→Int→Int→Int→Int→Int→Int→Int→Int→Int→Int→Int→Int→Int→Int→Int→Int→Int→Int→Int→Int→Int→Int→Int→Nat→Nat→List V→List V→List V→Option β
def zru{β:Type}(xj:zai)(yl:zaO)(yb:zy)(yj:zam)(zi:zal)(zj:zak)(L:Nat)(p0 A:List V)(p2:Int)(I:List V→Bool→Option β)(z:ziP β):Option β:=chk (0+34≤(XG p0)) (xj β L (Xt V.dem (XI 34 p0)) (fun v0 v1 v2 v3 v4 v5 v6 v7 v8 v9 M N O P Q R S U W X Y Z aa ab ac ad ae af ag ah ai aj C D ay aE=>chk (0+3≤(XG A)) (yl β L D (XI 3 A) aE (fun E F=>chk ([(XG F)]=[(XG aE)]) (ifb (decide (E≥(0:Int))) (chk (0≤E∧E<((D:Nat):Int)) (cI .u32 F (((0+((XH E)*5))+1)+2) fun aK=>cI .u32 A 2 fun aN=>lt (zz5 aK aN) fun aQ=>chk (0≤E∧E<((D:Nat):Int)) (chk (1=1∧(((0+((XH E)*5))+1)+2)+1≤(XG F)) (lt (yh F (((0+((XH E)*5))+1)+2) [(Qc aQ)]) fun aR=>I [(Qa v0),(Qa v1),(Qa v2),(Qa v3),(Qa v4),(Qa v5),(Qa v6),(Qa v7),(Qa v8),(Qa v9),(Qa M),(Qa N),(Qa O),(Qa P),(Qa Q),(Qa R),(Qa S),(Qa U),(Qa W),(Qa X),(Qa Y),(Qa Z),(Qa aa),(Qa ab),(Qa ac),(Qa ad),(Qa ae),(Qa af),(Qa ag),(Qa ah),(Qa ai),(Qa aj),(V.sl 5 (xh 5 C ay)),(V.sl 5 (xh 5 D aR))] false)))) (chk (0+3≤(XG A)) (yl β L C (XI 3 A) ay (fun G J=>chk ([(XG J)]=[(XG ay)]) (ifb (decide (G≥(0:Int))) (chk (0≤G∧G<((C:Nat):Int)) (cI .u32 J (((0+((XH G)*5))+1)+2) fun aT=>cI .u32 A 2 fun aU=>lt (zz5 aT aU) fun aW=>chk (0≤G∧G<((C:Nat):Int)) (chk (1=1∧(((0+((XH G)*5))+1)+2)+1≤(XG J)) (lt (yh J (((0+((XH G)*5))+1)+2) [(Qc aW)]) fun aX=>I [(Qa v0),(Qa v1),(Qa v2),(Qa v3),(Qa v4),(Qa v5),(Qa v6),(Qa v7),(Qa v8),(Qa v9),(Qa M),(Qa N),(Qa O),(Qa P),(Qa Q),(Qa R),(Qa S),(Qa U),(Qa W),(Qa X),(Qa Y),(Qa Z),(Qa aa),(Qa ab),(Qa ac),(Qa ad),(Qa ae),(Qa af),(Qa ag),(Qa ah),(Qa ai),(Qa aj),(V.sl 5 (xh 5 C aX)),(V.sl 5 (xh 5 D F))] false)))) (chk (0+32≤(XG p0)) (chk (0+3≤(XG A)) (yb β L (XI 32 p0) (XI 3 A) p2 (fun az=>chk (0+3≤(XG A)) (chk ((XG (XI 3 A))=3∧1+3≤5) (chk (1=1∧4+1≤(XG (yh [(Qe az),(Qc (0:Int)),(Qb (0:Int)),(Qc (0:Int)),(Qc (0:Int))] 1 (XI 3 A)))) (chk ((XG (yh (yh [(Qe az),(Qc (0:Int)),(Qb (0:Int)),(Qc (0:Int)),(Qc (0:Int))] 1 (XI 3 A)) 4 [(Qc p2)]))=5∧0+5≤5) (lt (yh [(Qe (0:Int)),(Qc (0:Int)),(Qb (0:Int)),(Qc (0:Int)),(Qc (0:Int))] 0 (yh (yh [(Qe az),(Qc (0:Int)),(Qb (0:Int)),(Qc (0:Int)),(Qc (0:Int))] 1 (XI 3 A)) 4 [(Qc p2)])) fun ak=>cI .i64 ak 0 fun aY=>yj β L C aY J (fun aC aH al=>chk ([(XG al)]=[(XG J)]) (lt (QF .i64 ((aH:Int)-aC)) fun aZ=>ifb (decide (aZ≥(8:Int))) (z aH aC aC A (0:Int) (0:Int) (0:Int) (0:Int) (0:Int) (0:Int) (0:Int) (0:Int) (0:Int) (0:Int) (0:Int) (0:Int) (0:Int) (0:Int) (0:Int) (0:Int) (0:Int) (0:Int) (0:Int) (0:Int) (0:Int) (0:Int) (0:Int) (0:Int) (0:Int) (0:Int) (0:Int) (0:Int) (0:Int) (0:Int) (0:Int) (0:Int) ([]:List (List V)) ([]:List (List V)) v0 v1 v2 v3 v4 v5 v6 v7 v8 v9 M N O P Q R S U W X Y Z aa ab ac ad ae af ag ah ai aj C D ak al F) (chk (0+5≤(XG ak)) (ifb (List.isEmpty al) (zi β L (xh 5 C al) (XI 5 ak) (fun a0=>I [(Qa v0),(Qa v1),(Qa v2),(Qa v3),(Qa v4),(Qa v5),(Qa v6),(Qa v7),(Qa v8),(Qa v9),(Qa M),(Qa N),(Qa O),(Qa P),(Qa Q),(Qa R),(Qa S),(Qa U),(Qa W),(Qa X),(Qa Y),(Qa Z),(Qa aa),(Qa ab),(Qa ac),(Qa ad),(Qa ae),(Qa af),(Qa ag),(Qa ah),(Qa ai),(Qa aj),(V.sl 5 a0),(V.sl 5 (xh 5 D F))] true)) (zi β L (xh 5 C al) (XI 5 ak) (fun a1=>I [(Qa v0),(Qa v1),(Qa v2),(Qa v3),(Qa v4),(Qa v5),(Qa v6),(Qa v7),(Qa v8),(Qa v9),(Qa M),(Qa N),(Qa O),(Qa P),(Qa Q),(Qa R),(Qa S),(Qa U),(Qa W),(Qa X),(Qa Y),(Qa Z),(Qa aa),(Qa ab),(Qa ac),(Qa ad),(Qa ae),(Qa af),(Qa ag),(Qa ah),(Qa ai),(Qa aj),(V.sl 5 a1),(V.sl 5 (xh 5 D F))] true)))))))))))))))))))))))
theorem zza{β:Type}(xj:zai)(yl:zaO)(yb:zy)(yj:zam)(zi:zal)(zj:zak)(L:Nat)(p0 p1:List V)(p2:Int)(k:KK β):zp zbz (zbB xj yl yb yj zi zj L) L ze4 [(V.agg p0),(V.agg p1),(Qc p2)] [] k=zru xj yl yb yj zi zj L p0 p1 p2 (fun aH aJ=>k (V.tup [(V.agg aH),(V.sc (.bool aJ))]) []) (fun p13 bd be b4 aK aN aQ aR aT aU aW aX aY aZ C D E F G I J M N O P Q R S U W X Y Z aa ab ac ad ae a0 a1 a2 a3 a4 a5 a6 a7 a8 a9 af ag ah ai aj ak al am an ao ap aq ar au av aw ax ay az aC aD aE z A bf bg bh=>xz (yi zbz (zbB xj yl yb yj zi zj L) 0 L zbY) zdw L (zcJ p13 bd be b4 aK aN aQ aR aT aU aW aX aY aZ C D E F G I J M N O P Q R S U W X Y Z aa ab ac ad ae a0 a1 a2 a3 a4 a5 a6 a7 a8 a9 af ag ah ai aj ak al am an ao ap aq ar au av aw ax ay az aC aD aE z A bf bg bh) (zz 0 (xK (yi zbz (zbB xj yl yb yj zi zj L) 0 L zgm) (xK (yi zbz (zbB xj yl yb yj zi zj L) 0 L zi9) (yR 0 (CF.res ze4) k))))):=by kernel_rfl
def zfq{β:Type}(xj:zai)(yl:zaO)(yb:zy)(yj:zam)(zi:zal)(zj:zak)(L:Nat)(p13 aK C:Int)(b4:List V)(aQ aR aT aU aW aX aY aZ a0 a1 E F G I J M N O P Q R S U W X Y Z aa ab ac ad ae:Int)(af ag:List (List V))(a2 a3 a4 a5 a6 a7 a8 a9 ba bb ah ai aj ak al am an ao ap aq ar au av aw ax ay az aC aD aE aH aJ:Int)(A D:Nat)(bc aN bd:List V)(z:ziP β)(bf:zoK β):Option β:=ifb (decide (C<p13)) (chk (0≤C∧C<((A:Nat):Int)) (cI .u32 aN (((0+((XH C)*5))+1)+2) fun bg=>chk (0≤aK∧aK<((A:Nat):Int)) (cI .u32 aN (((0+((XH aK)*5))+1)+2) fun bh=>ifb (decide (bg<bh)) (lt (QF .i64 ((C:Int)+(1:Int))) fun bi=>z p13 C bi b4 aQ aR aT aU aW aX aY aZ a0 a1 E F G I J M N O P Q R S U W X Y Z aa ab ac ad ae af ag a2 a3 a4 a5 a6 a7 a8 a9 ba bb ah ai aj ak al am an ao ap aq ar au av aw ax ay az aC aD aE aH aJ A D bc aN bd) (lt (QF .i64 ((C:Int)+(1:Int))) fun bj=>z p13 aK bj b4 aQ aR aT aU aW aX aY aZ a0 a1 E F G I J M N O P Q R S U W X Y Z aa ab ac ad ae af ag a2 a3 a4 a5 a6 a7 a8 a9 ba bb ah ai aj ak al am an ao ap aq ar au av aw ax ay az aC aD aE aH aJ A D bc aN bd)))) (bf aK b4 aQ aR aT aU aW aX aY aZ a0 a1 E F G I J M N O P Q R S U W X Y Z aa ab ac ad ae af ag a2 a3 a4 a5 a6 a7 a8 a9 ba bb ah ai aj ak al am an ao ap aq ar au av aw ax ay az aC aD aE aH aJ A D bc aN bd)
theorem zox{β:Type}(xj:zai)(yl:zaO)(yb:zy)(yj:zam)(zi:zal)(zj:zak)(L:Nat)(p13 a9 bd:Int)(b4:List V)(aJ aK aN aQ aR aT aU aW aX aY C D E F G I J M N O P Q R S U W Y Z aa ab ac ad:Int)(ae af:List (List V))(aZ a0 a1 a2 a3 a4 a5 a6 a7 a8 ag ah ai aj ak al am an ao ap aq ar au av aw ax ay az aC aD aE aH:Int)(z A:Nat)(ba bb bc:List V)(X:St→Option β)(K:KT β):yi zbz (zbB xj yl yb yj zi zj L) 0 L zbY (zcJ p13 a9 bd b4 aJ aK aN aQ aR aT aU aW aX aY C D E F G I J M N O P Q R S U W Y Z aa ab ac ad ae af aZ a0 a1 a2 a3 a4 a5 a6 a7 a8 ag ah ai aj ak al am an ao ap aq ar au av aw ax ay az aC aD aE aH z A ba bb bc) (zbo zdw X K)=zfq xj yl yb yj zi zj L p13 a9 bd b4 aJ aK aN aQ aR aT aU aW aX aY C D E F G I J M N O P Q R S U W Y Z aa ab ac ad ae af aZ a0 a1 a2 a3 a4 a5 a6 a7 a8 ag ah ai aj ak al am an ao ap aq ar au av aw ax ay az aC aD aE aH z A ba bb bc (fun p13 a9 bd b4 aJ aK aN aQ aR aT aU aW aX aY C D E F G I J M N O P Q R S U W Y Z aa ab ac ad ae af aZ a0 a1 a2 a3 a4 a5 a6 a7 a8 ag ah ai aj ak al am an ao ap aq ar au av aw ax ay az aC aD aE aH z A ba bb bc=>X (zcJ p13 a9 bd b4 aJ aK aN aQ aR aT aU aW aX aY C D E F G I J M N O P Q R S U W Y Z aa ab ac ad ae af aZ a0 a1 a2 a3 a4 a5 a6 a7 a8 ag ah ai aj ak al am an ao ap aq ar au av aw ax ay az aC aD aE aH z A ba bb bc)) (fun a9 b4 aJ aK aN aQ aR aT aU aW aX aY C D E F G I J M N O P Q R S U W Y Z aa ab ac ad ae af aZ a0 a1 a2 a3 a4 a5 a6 a7 a8 ag ah ai aj ak al am an ao ap aq ar au av aw ax ay az aC aD aE aH z A ba bb bc=>K (.exit 0) (zmj a9 b4 aJ aK aN aQ aR aT aU aW aX aY C D E F G I J M N O P Q R S U W Y Z aa ab ac ad ae af aZ a0 a1 a2 a3 a4 a5 a6 a7 a8 ag ah ai aj ak al am an ao ap aq ar au av aw ax ay az aC aD aE aH z A ba bb bc)):=by kernel_rfl
def zeC{β:Type}(xj:zai)(yl:zaO)(yb:zy)(yj:zam)(zi:zal)(zj:zak)(L:Nat)(C:Int)(b4:List V)(a9 ba bb bc bd be bf bg bh bi az aC aD aE aH aJ aK aN aQ aR aT aU aW aX aY aZ a0 a1 a2 a3 a4 a5:Int)(a6 a7:List (List V))(ag ah ai aj ak al am an ao ap D E F G I J M N O P Q R S U W X Y Z aa ab ac ad:Int)(z A:Nat)(aq ae ar:List V)(af:List V→Bool→Option β):Option β:=chk (0≤C∧C<((z:Nat):Int)) (cI .u32 ae (((0+((XH C)*5))+1)+2) fun au=>cI .u32 b4 2 fun av=>ifb (decide (au≥av)) (af [(Qa ag),(Qa ah),(Qa ai),(Qa aj),(Qa ak),(Qa al),(Qa am),(Qa an),(Qa ao),(Qa ap),(Qa D),(Qa E),(Qa F),(Qa G),(Qa I),(Qa J),(Qa M),(Qa N),(Qa O),(Qa P),(Qa Q),(Qa R),(Qa S),(Qa U),(Qa W),(Qa X),(Qa Y),(Qa Z),(Qa aa),(Qa ab),(Qa ac),(Qa ad),(V.sl 5 (xh 5 z ae)),(V.sl 5 (xh 5 A ar))] false) (zj β L z C ae (fun aw ax=>chk ([(XG ax)]=[(XG ae)]) (chk (0+5≤(XG aq)) (zi β L aw (XI 5 aq) (fun ay=>af [(Qa ag),(Qa ah),(Qa ai),(Qa aj),(Qa ak),(Qa al),(Qa am),(Qa an),(Qa ao),(Qa ap),(Qa D),(Qa E),(Qa F),(Qa G),(Qa I),(Qa J),(Qa M),(Qa N),(Qa O),(Qa P),(Qa Q),(Qa R),(Qa S),(Qa U),(Qa W),(Qa X),(Qa Y),(Qa Z),(Qa aa),(Qa ab),(Qa ac),(Qa ad),(V.sl 5 ay),(V.sl 5 (xh 5 A ar))] true))))))
theorem zmV{β:Type}(xj:zai)(yl:zaO)(yb:zy)(yj:zam)(zi:zal)(zj:zak)(L:Nat)(a8:Int)(b4:List V)(aH aJ aK aN aQ aR aT aU aW aX C D E F G I J M N O P Q R S U W X Y Z aa ab ac:Int)(ad ae:List (List V))(aY aZ a0 a1 a2 a3 a4 a5 a6 a7 af ag ah ai aj ak al am an ao ap aq ar au av aw ax ay az aC aD aE:Int)(z A:Nat)(a9 ba bb:List V)(k:KK β):(zz 0 (xK (yi zbz (zbB xj yl yb yj zi zj L) 0 L zgm) (xK (yi zbz (zbB xj yl yb yj zi zj L) 0 L zi9) (yR 0 (CF.res ze4) k)))) (.exit 0) (zmj a8 b4 aH aJ aK aN aQ aR aT aU aW aX C D E F G I J M N O P Q R S U W X Y Z aa ab ac ad ae aY aZ a0 a1 a2 a3 a4 a5 a6 a7 af ag ah ai aj ak al am an ao ap aq ar au av aw ax ay az aC aD aE z A a9 ba bb)=zeC xj yl yb yj zi zj L a8 b4 aH aJ aK aN aQ aR aT aU aW aX C D E F G I J M N O P Q R S U W X Y Z aa ab ac ad ae aY aZ a0 a1 a2 a3 a4 a5 a6 a7 af ag ah ai aj ak al am an ao ap aq ar au av aw ax ay az aC aD aE z A a9 ba bb (fun bc bd=>k (V.tup [(V.agg bc),(V.sc (.bool bd))]) []):=by kernel_rfl
def zb9{β:Type}(xj:zai)(yl:zaO)(yb:zy)(yj:zam)(zi:zal)(zj:zak)(L:Nat)(a8:zoK β):Nat→Int→Int→Int→List V→Int→Int→Int→Int→Int→Int→Int→Int→Int→Int→Int→Int→Int→Int→Int→Int→Int→Int→Int→Int→Int→Int→Int→Int→Int→Int→Int→Int→Int→Int→Int→Int→List (List V)→List (List V)→Int→Int→Int→Int→Int→Int→Int→Int→Int→Int→Int→Int→Int→Int→Int→Int→Int→Int→Int→Int→Int→Int→Int→Int→Int→Int→Int→Int→Int→Int→Int→Int→Nat→Nat→List V→List V→List V→Option β
 | 0,_,_,_,_,_,_,_,_,_,_,_,_,_,_,_,_,_,_,_,_,_,_,_,_,_,_,_,_,_,_,_,_,_,_,_,_,_,_,_,_,_,_,_,_,_,_,_,_,_,_,_,_,_,_,_,_,_,_,_,_,_,_,_,_,_,_,_,_,_,_,_,_,_,_,_=>none
 | n+1,p13,a9,ba,b4,aH,aJ,aK,aN,aQ,aR,aT,aU,aW,aX,C,D,E,F,G,I,J,M,N,O,P,Q,R,S,U,W,X,Y,Z,aa,ab,ac,ad,ae,aY,aZ,a0,a1,a2,a3,a4,a5,a6,a7,af,ag,ah,ai,aj,ak,al,am,an,ao,ap,aq,ar,au,av,aw,ax,ay,az,aC,aD,aE,z,A,bb,bc,bd=>zfq xj yl yb yj zi zj L p13 a9 ba b4 aH aJ aK aN aQ aR aT aU aW aX C D E F G I J M N O P Q R S U W X Y Z aa ab ac ad ae aY aZ a0 a1 a2 a3 a4 a5 a6 a7 af ag ah ai aj ak al am an ao ap aq ar au av aw ax ay az aC aD aE z A bb bc bd (fun p13 a9 ba b4 aH aJ aK aN aQ aR aT aU aW aX C D E F G I J M N O P Q R S U W X Y Z aa ab ac ad ae aY aZ a0 a1 a2 a3 a4 a5 a6 a7 af ag ah ai aj ak al am an ao ap aq ar au av aw ax ay az aC aD aE z A bb bc bd=>zb9 xj yl yb yj zi zj L a8 n p13 a9 ba b4 aH aJ aK aN aQ aR aT aU aW aX C D E F G I J M N O P Q R S U W X Y Z aa ab ac ad ae aY aZ a0 a1 a2 a3 a4 a5 a6 a7 af ag ah ai aj ak al am an ao ap aq ar au av aw ax ay az aC aD aE z A bb bc bd) a8
theorem zhW{β:Type}(xj:zai)(yl:zaO)(yb:zy)(yj:zam)(zi:zal)(zj:zak)(L:Nat)(K:KT β):∀ (n:Nat) (p13 a8 bc:Int) (b4:List V) (aH aJ aK aN aQ aR aT aU aW aX C D E F G I J M N O P Q R S U W X Y Z aa ab ac:Int) (ad ae:List (List V)) (aY aZ a0 a1 a2 a3 a4 a5 a6 a7 af ag ah ai aj ak al am an ao ap aq ar au av aw ax ay az aC aD aE:Int) (z A:Nat) (a9 ba bb:List V),xz (yi zbz (zbB xj yl yb yj zi zj L) 0 L zbY) zdw n (zcJ p13 a8 bc b4 aH aJ aK aN aQ aR aT aU aW aX C D E F G I J M N O P Q R S U W X Y Z aa ab ac ad ae aY aZ a0 a1 a2 a3 a4 a5 a6 a7 af ag ah ai aj ak al am an ao ap aq ar au av aw ax ay az aC aD aE z A a9 ba bb) K=zb9 xj yl yb yj zi zj L (fun a8 b4 aH aJ aK aN aQ aR aT aU aW aX C D E F G I J M N O P Q R S U W X Y Z aa ab ac ad ae aY aZ a0 a1 a2 a3 a4 a5 a6 a7 af ag ah ai aj ak al am an ao ap aq ar au av aw ax ay az aC aD aE z A a9 ba bb=>K (.exit 0) (zmj a8 b4 aH aJ aK aN aQ aR aT aU aW aX C D E F G I J M N O P Q R S U W X Y Z aa ab ac ad ae aY aZ a0 a1 a2 a3 a4 a5 a6 a7 af ag ah ai aj ak al am an ao ap aq ar au av aw ax ay az aC aD aE z A a9 ba bb)) n p13 a8 bc b4 aH aJ aK aN aQ aR aT aU aW aX C D E F G I J M N O P Q R S U W X Y Z aa ab ac ad ae aY aZ a0 a1 a2 a3 a4 a5 a6 a7 af ag ah ai aj ak al am an ao ap aq ar au av aw ax ay az aC aD aE z A a9 ba bb:=by
 intro n
 induction n with
 | zero=>intros; rfl
 | succ n ih=>
  intro p13 a8 bc b4 aH aJ aK aN aQ aR aT aU aW aX C D E F G I J M N O P Q R S U W X Y Z aa ab ac ad ae aY aZ a0 a1 a2 a3 a4 a5 a6 a7 af ag ah ai aj ak al am an ao ap aq ar au av aw ax ay az aC aD aE z A a9 ba bb
  refine (zox xj yl yb yj zi zj L p13 a8 bc b4 aH aJ aK aN aQ aR aT aU aW aX C D E F G I J M N O P Q R S U W X Y Z aa ab ac ad ae aY aZ a0 a1 a2 a3 a4 a5 a6 a7 af ag ah ai aj ak al am an ao ap aq ar au av aw ax ay az aC aD aE z A a9 ba bb (fun σ=>xz (yi zbz (zbB xj yl yb yj zi zj L) 0 L zbY) zdw n σ K) K).trans ?_
  simp only [ih]
  rfl
def zny{β:Type}(xj:zai)(yl:zaO)(yb:zy)(yj:zam)(zi:zal)(zj:zak)(L:Nat)(p0 p1:List V)(p2:Int)(a8:List V→Bool→Option β):Option β:=zru xj yl yb yj zi zj L p0 p1 p2 a8 (fun p13 a9 be b4 aH aJ aK aN aQ aR aT aU aW aX C D E F G I J M N O P Q R S U W X Y Z aa ab ac ad ae aY aZ a0 a1 a2 a3 a4 a5 a6 a7 af ag ah ai aj ak al am an ao ap aq ar au av aw ax ay az aC aD aE z A ba bb bc=>zb9 xj yl yb yj zi zj L (fun a9 b4 aH aJ aK aN aQ aR aT aU aW aX C D E F G I J M N O P Q R S U W X Y Z aa ab ac ad ae aY aZ a0 a1 a2 a3 a4 a5 a6 a7 af ag ah ai aj ak al am an ao ap aq ar au av aw ax ay az aC aD aE z A ba bb bc=>zeC xj yl yb yj zi zj L a9 b4 aH aJ aK aN aQ aR aT aU aW aX C D E F G I J M N O P Q R S U W X Y Z aa ab ac ad ae aY aZ a0 a1 a2 a3 a4 a5 a6 a7 af ag ah ai aj ak al am an ao ap aq ar au av aw ax ay az aC aD aE z A ba bb bc a8) L p13 a9 be b4 aH aJ aK aN aQ aR aT aU aW aX C D E F G I J M N O P Q R S U W X Y Z aa ab ac ad ae aY aZ a0 a1 a2 a3 a4 a5 a6 a7 af ag ah ai aj ak al am an ao ap aq ar au av aw ax ay az aC aD aE z A ba bb bc)
theorem zy6{β:Type}(xj:zai)(yl:zaO)(yb:zy)(yj:zam)(zi:zal)(zj:zak)(L:Nat)(z A:List V)(C:Int)(k:KK β):zp zbz (zbB xj yl yb yj zi zj L) L ze4 [(V.agg z),(V.agg A),(Qc C)] [] k=zny xj yl yb yj zi zj L z A C (fun D E=>k (V.tup [(V.agg D),(V.sc (.bool E))]) []):=by
 refine (zza xj yl yb yj zi zj L z A C k).trans ?_
 unfold zny
 first
  | (simp only [zhW,zmV]; done)
  | (simp only [zhW]; rfl)
abbrev zfN:=∀ (β:Type),Nat→List V→List V→Int→(List V→Bool→Option β)→Option β
def yI(β:Type)(L:Nat)(A C:List V)(D:Int)(z:List V→Bool→Option β):Option β:=zny xj yl yb yj zi zj L A C D z
def zkk(yI:zfN)(L:Nat)(β:Type)(args:List V)(bor:Bor)(k:KK β):Option β:=match args,bor with
 | [a0,a1,a2],[]=>aG a0 fun C=>aG a1 fun D=>aI .u32 a2 fun E=>yI β L C D E (fun z A=>k (V.tup [(V.agg z),(V.sc (.bool A))]) [])
 | _,_=>none
theorem zyv(L:Nat)(β:Type)(args:List V)(bor:Bor)(k:KK β)(r:β)(h:zkk yI L β args bor k=some r):zp zbz (zbB xj yl yb yj zi zj L) L ze4 args bor k=some r:=by
 unfold zkk at h
 split at h
 ·have q:=yW h; clear h; obtain ⟨z,rfl,h⟩:=q
  have q:=yW h; clear h; obtain ⟨A,rfl,h⟩:=q
  have q:=yB h; clear h; obtain ⟨C,rfl,h⟩:=q
  exact (zy6 xj yl yb yj zi zj L z A C k).trans h
 ·cases h
def zlO:CF:=⟨81,[.cellS 4 34 true,.tmpP 5],(.seq (.reg [Qv 2 (tq 0),Qv 3 (tq 1),oo 4 (.alloc false (rp 32 (.sc (.int .u8 0)) (rp 2 (.gs 5 []) []))),Qh 5 (Qf 0)]) (.seq (.seq (.reg [Qk 13 34 (tq 2),Qs 14 281 [((tq 13),1)],Qt 15 (tq 14)]) (.cond (tq 15) (.seq (.reg [oo 16 (.build (rp 32 (.sc (.int .u8 0)) (rp 2 (.sl 5 []) [])) []),Qm 34 (tq 4) (tq 16),Qh 5 (Qf 6)]) .ret) .skip)) (.seq (.reg [Ql 17 32 (tq 2),Qj 18 1 (tq 17),Qk 19 3 (tq 3),Qs 20 287 [((tq 18),2),((tq 19),2)],Qh 6 (tq 20)]) (.seq (.seq (.reg [Qh 21 (tq 6),Qp 22 .lss (tq 21) (Qf 0)]) (.cond (tq 22) (.seq (.reg [oo 23 (.build (rp 32 (.sc (.int .u8 0)) (rp 2 (.sl 5 []) [])) []),Qm 34 (tq 4) (tq 23),Qh 5 (Qf 9)]) .ret) .skip)) (.seq (.reg [Qk 24 34 (tq 2),oo 25 (.call 288 [((tq 24),1)] [15,17]),oo 7 (.alloc false (rp 32 (.sc (.int .u8 0)) (rp 2 (.gs 5 []) []))),Qm 34 (tq 7) (tq 25)]) (.seq (.reg [Ql 26 32 (tq 7),Qj 27 1 (tq 26),Qh 28 (tq 6),Qo 29 5 (tq 27) (tq 28),Qk 30 5 (tq 29),oo 8 (.alloc true [(.sc (.int .i64 0)),(.sc (.int .u32 0)),(.sc (.int .u16 0)),(.sc (.int .u32 0)),(.sc (.int .u32 0))]),Qm 5 (tq 8) (tq 30)]) (.seq (.reg [Ql 31 32 (tq 7),Qj 32 1 (tq 31),Qh 33 (tq 6),Qs 34 289 [((tq 32),2),((tq 33),2)],Ql 35 32 (tq 7),Qm 1 (tq 35) (tq 34)]) (.seq (.reg [Ql 36 0 (tq 2),Qk 37 32 (tq 36),Ql 38 1 (tq 8),Qk 39 3 (tq 38),Qs 40 290 [(Qw 37),(Qw 39)],Ql 41 0 (tq 8),Qm 1 (tq 41) (tq 40)]) (.seq (.reg [Ql 43 33 (tq 7),Qj 44 1 (tq 43),Ql 45 0 (tq 8),Qj 46 1 (tq 45),Qs 47 291 [((tq 44),2),((tq 46),2)],Qi 42 (tq 47),Qq 48 (tq 42) 0,Qq 49 (tq 42) 1,Qh 9 (tq 48),Qh 10 (tq 49)]) (.seq (.reg [oo 11 (.alloc true [(.sc (.int .u32 0)),(.sc (.int .u16 0)),(.sc (.int .u32 0))])]) (.seq (.reg [Qh 50 (tq 10),Qh 51 (tq 9),Qp 52 .sub (tq 50) (tq 51),Qp 53 .geq (tq 52) (Qf 8),Qh 12 (tq 53)]) (.seq (.seq (.reg [Qh 54 (tq 12)]) (.cond (tq 54) (.seq (.reg [Ql 55 33 (tq 7),Qj 56 1 (tq 55),Qh 57 (tq 9),Qo 58 5 (tq 56) (tq 57),Ql 59 1 (tq 58),Qk 60 3 (tq 59),Qm 3 (tq 11) (tq 60)]) (.reg [Ql 61 33 (tq 7),Qj 62 1 (tq 61),Qh 63 (tq 9),Qs 64 289 [((tq 62),2),((tq 63),2)],Ql 65 33 (tq 7),Qm 1 (tq 65) (tq 64)])) .skip)) (.seq (.reg [Ql 66 33 (tq 7),Qj 67 1 (tq 66),Qk 68 5 (tq 8),Qs 69 292 [(Qw 67),(Qw 68)],Ql 70 33 (tq 7),Qm 1 (tq 70) (tq 69)]) (.seq (.seq (.reg [Qh 71 (tq 12)]) (.cond (tq 71) (.dreg [] [(Qk 73 34 (tq 7),ql 7 [11] []),(Qk 74 3 (tq 11),ql 11 [7] []),(Qk 75 3 (tq 11),ql 11 [7] []),(Qs 76 294 [(Qw 75)],qc [7,11] []),(Qs 77 293 [((tq 73),1),(Qw 74),(Qw 76)],q0),(Qi 72 (tq 77),q0),(Qq 78 (tq 72) 0,q0),(Qq 79 (tq 72) 1,q0),(Qm 34 (tq 7) (tq 78),q0)]) .skip)) (.seq (.reg [oo 80 (.load true 34 (tq 7) true),Qm 34 (tq 4) (tq 80),Qh 5 (Qf 0)]) .ret)))))))))))))))⟩
def zr3:Hint:=⟨[(0,0),(3,3),(8,3),(10,4),(10,5),(15,3),(18,5),(19,0)],[],[none,none,none,none,none,none,none],[],[(6,1,[15,17])],true,true,[]⟩
def zpK:Nat→Sh:=xW [(18,(.sl 5)),(46,(.int .i64)),(78,(.row [(.int .u8),(.int .u8),(.int .u8),(.int .u8),(.int .u8),(.int .u8),(.int .u8),(.int .u8),(.int .u8),(.int .u8),(.int .u8),(.int .u8),(.int .u8),(.int .u8),(.int .u8),(.int .u8),(.int .u8),(.int .u8),(.int .u8),(.int .u8),(.int .u8),(.int .u8),(.int .u8),(.int .u8),(.int .u8),(.int .u8),(.int .u8),(.int .u8),(.int .u8),(.int .u8),(.int .u8),(.int .u8),(.sl 5),(.sl 5)]))]
def zpS(zI:ze0)(zd:xI)(xj:zai)(zj:zak)(ye:yL)(yj:zam)(zi:zal)(xu:zcz)(yI:zfN)(L:Nat):CBC:=(yD 293 (zkk yI L) (yD 294 (zgq xu L) (yD 292 (zhR zi L) (yD 291 (zhL yj L) (yD 290 (zd5 ye L) (yD 289 (zhY zj L) (yD 288 (zhy xj L) (yD 287 (zhN zd L) (yD 281 (ziV zI L) noC)))))))))
def zrk{β:Type}(zI:ze0)(zd:xI)(xj:zai)(zj:zak)(ye:yL)(yj:zam)(zi:zal)(xu:zcz)(yI:zfN)(L:Nat)(p0 p1:List V)(D:List V→Int→Option β):Option β:=chk (0+34≤(XG p0)) (zI β L (Xt V.dem (XI 34 p0)) (fun v0=>ifb (!v0) (D (We 32 (Qa (0:Int))++[(V.sl 5 ([]:List (List V))),(V.sl 5 ([]:List (List V)))]) (6:Int)) (cLd 5 p0 32 fun v1=>chk (0+3≤(XG p1)) (zd β L v1 (XI 3 p1) (fun v2=>ifb (decide (v2<(0:Int))) (D (We 32 (Qa (0:Int))++[(V.sl 5 ([]:List (List V))),(V.sl 5 ([]:List (List V)))]) (9:Int)) (chk (0+34≤(XG p0)) (xj β L (Xt V.dem (XI 34 p0)) (fun v3 v4 v5 v6 v7 v8 v9 G I J M N O P Q R S U W X Y Z aa ab ac ad ae af ag ah ai aj aH am an aJ=>chk (0≤v2∧v2<((aH:Nat):Int)) (chk ((0+((XH v2)*5))+5≤(XG an)) (chk ((XG (XI 5 (XJ (0+((XH v2)*5)) an)))=5∧0+5≤5) (lt (yh [(Qe (0:Int)),(Qc (0:Int)),(Qb (0:Int)),(Qc (0:Int)),(Qc (0:Int))] 0 (XI 5 (XJ (0+((XH v2)*5)) an))) fun aq=>zj β L aH v2 an (fun ak b0=>chk ([(XG b0)]=[(XG an)]) (chk (0+32≤(XG p0)) (chk (1+3≤(XG aq)) (ye β L (XI 32 p0) (XI 3 (XJ 1 aq)) (fun b1=>chk (1=1∧0+1≤(XG aq)) (lt (yh aq 0 [(Qe b1)]) fun al=>cI .i64 al 0 fun b2=>yj β L am b2 aJ (fun F b3 E=>chk ([(XG E)]=[(XG aJ)]) (lt (QF .i64 ((b3:Int)-F)) fun ar=>ifb (decide (ar≥(8:Int))) (chk (0≤F∧F<((am:Nat):Int)) (chk (((0+((XH F)*5))+1)+3≤(XG E)) (chk ((XG (XI 3 (XJ ((0+((XH F)*5))+1) E)))=3∧0+3≤3) (lt (yh [(Qc (0:Int)),(Qb (0:Int)),(Qc (0:Int))] 0 (XI 3 (XJ ((0+((XH F)*5))+1) E))) fun au=>zj β L am F E (fun b4 b5=>chk ([(XG b5)]=[(XG E)]) (chk (0+5≤(XG al)) (zi β L b4 (XI 5 al) (fun aK=>ifb (decide (ar≥(8:Int))) (chk (0+3≤(XG au)) (chk (0+3≤(XG au)) (xu β L (XI 3 au) (fun b6=>yI β L [(Qa v3),(Qa v4),(Qa v5),(Qa v6),(Qa v7),(Qa v8),(Qa v9),(Qa G),(Qa I),(Qa J),(Qa M),(Qa N),(Qa O),(Qa P),(Qa Q),(Qa R),(Qa S),(Qa U),(Qa W),(Qa X),(Qa Y),(Qa Z),(Qa aa),(Qa ab),(Qa ac),(Qa ad),(Qa ae),(Qa af),(Qa ag),(Qa ah),(Qa ai),(Qa aj),(V.sl 5 ak),(V.sl 5 aK)] (XI 3 au) b6 (fun A cX=>chk (XG A=34) (cI .u8 A 0 fun b7=>cI .u8 A 1 fun b8=>cI .u8 A 2 fun b9=>cI .u8 A 3 fun ca=>cI .u8 A 4 fun cb=>cI .u8 A 5 fun cc=>cI .u8 A 6 fun cd=>cI .u8 A 7 fun ce=>cI .u8 A 8 fun cf=>cI .u8 A 9 fun cg=>cI .u8 A 10 fun ch=>cI .u8 A 11 fun ci=>cI .u8 A 12 fun cj=>cI .u8 A 13 fun ck=>cI .u8 A 14 fun cl=>cI .u8 A 15 fun cm=>cI .u8 A 16 fun cn=>cI .u8 A 17 fun co=>cI .u8 A 18 fun cp=>cI .u8 A 19 fun cq=>cI .u8 A 20 fun cr=>cI .u8 A 21 fun ct=>cI .u8 A 22 fun cu=>cI .u8 A 23 fun cv=>cI .u8 A 24 fun cw=>cI .u8 A 25 fun cx=>cI .u8 A 26 fun cy=>cI .u8 A 27 fun cz=>cI .u8 A 28 fun cA=>cI .u8 A 29 fun cC=>cI .u8 A 30 fun cD=>cI .u8 A 31 fun cE=>cL 5 A 32 fun cF=>cL 5 A 33 fun cH=>D [(Qa b7),(Qa b8),(Qa b9),(Qa ca),(Qa cb),(Qa cc),(Qa cd),(Qa ce),(Qa cf),(Qa cg),(Qa ch),(Qa ci),(Qa cj),(Qa ck),(Qa cl),(Qa cm),(Qa cn),(Qa co),(Qa cp),(Qa cq),(Qa cr),(Qa ct),(Qa cu),(Qa cv),(Qa cw),(Qa cx),(Qa cy),(Qa cz),(Qa cA),(Qa cC),(Qa cD),(Qa cE),(V.sl 5 cF),(V.sl 5 cH)] (0:Int))))))) (D [(Qa v3),(Qa v4),(Qa v5),(Qa v6),(Qa v7),(Qa v8),(Qa v9),(Qa G),(Qa I),(Qa J),(Qa M),(Qa N),(Qa O),(Qa P),(Qa Q),(Qa R),(Qa S),(Qa U),(Qa W),(Qa X),(Qa Y),(Qa Z),(Qa aa),(Qa ab),(Qa ac),(Qa ad),(Qa ae),(Qa af),(Qa ag),(Qa ah),(Qa ai),(Qa aj),(V.sl 5 ak),(V.sl 5 aK)] (0:Int)))))))))) (chk (0+5≤(XG al)) (ifb (List.isEmpty E) (zi β L (xh 5 am E) (XI 5 al) (fun aN=>ifb (decide (ar≥(8:Int))) (xu β L [(Qc (0:Int)),(Qb (0:Int)),(Qc (0:Int))] (fun cJ=>yI β L [(Qa v3),(Qa v4),(Qa v5),(Qa v6),(Qa v7),(Qa v8),(Qa v9),(Qa G),(Qa I),(Qa J),(Qa M),(Qa N),(Qa O),(Qa P),(Qa Q),(Qa R),(Qa S),(Qa U),(Qa W),(Qa X),(Qa Y),(Qa Z),(Qa aa),(Qa ab),(Qa ac),(Qa ad),(Qa ae),(Qa af),(Qa ag),(Qa ah),(Qa ai),(Qa aj),(V.sl 5 ak),(V.sl 5 aN)] [(Qc (0:Int)),(Qb (0:Int)),(Qc (0:Int))] cJ (fun C cY=>chk (XG C=34) (cI .u8 C 0 fun cM=>cI .u8 C 1 fun cN=>cI .u8 C 2 fun cO=>cI .u8 C 3 fun cP=>cI .u8 C 4 fun cQ=>cI .u8 C 5 fun cR=>cI .u8 C 6 fun aQ=>cI .u8 C 7 fun aR=>cI .u8 C 8 fun aT=>cI .u8 C 9 fun aU=>cI .u8 C 10 fun aW=>cI .u8 C 11 fun aX=>cI .u8 C 12 fun aY=>cI .u8 C 13 fun aZ=>cI .u8 C 14 fun a0=>cI .u8 C 15 fun a1=>cI .u8 C 16 fun a2=>cI .u8 C 17 fun a3=>cI .u8 C 18 fun a4=>cI .u8 C 19 fun a5=>cI .u8 C 20 fun a6=>cI .u8 C 21 fun a7=>cI .u8 C 22 fun a8=>cI .u8 C 23 fun a9=>cI .u8 C 24 fun ba=>cI .u8 C 25 fun bb=>cI .u8 C 26 fun bc=>cI .u8 C 27 fun bd=>cI .u8 C 28 fun be=>cI .u8 C 29 fun bf=>cI .u8 C 30 fun bg=>cI .u8 C 31 fun bh=>cL 5 C 32 fun bi=>cL 5 C 33 fun bj=>D [(Qa cM),(Qa cN),(Qa cO),(Qa cP),(Qa cQ),(Qa cR),(Qa aQ),(Qa aR),(Qa aT),(Qa aU),(Qa aW),(Qa aX),(Qa aY),(Qa aZ),(Qa a0),(Qa a1),(Qa a2),(Qa a3),(Qa a4),(Qa a5),(Qa a6),(Qa a7),(Qa a8),(Qa a9),(Qa ba),(Qa bb),(Qa bc),(Qa bd),(Qa be),(Qa bf),(Qa bg),(Qa bh),(V.sl 5 bi),(V.sl 5 bj)] (0:Int))))) (D [(Qa v3),(Qa v4),(Qa v5),(Qa v6),(Qa v7),(Qa v8),(Qa v9),(Qa G),(Qa I),(Qa J),(Qa M),(Qa N),(Qa O),(Qa P),(Qa Q),(Qa R),(Qa S),(Qa U),(Qa W),(Qa X),(Qa Y),(Qa Z),(Qa aa),(Qa ab),(Qa ac),(Qa ad),(Qa ae),(Qa af),(Qa ag),(Qa ah),(Qa ai),(Qa aj),(V.sl 5 ak),(V.sl 5 aN)] (0:Int)))) (zi β L (xh 5 am E) (XI 5 al) (fun aE=>ifb (decide (ar≥(8:Int))) (xu β L [(Qc (0:Int)),(Qb (0:Int)),(Qc (0:Int))] (fun bk=>yI β L [(Qa v3),(Qa v4),(Qa v5),(Qa v6),(Qa v7),(Qa v8),(Qa v9),(Qa G),(Qa I),(Qa J),(Qa M),(Qa N),(Qa O),(Qa P),(Qa Q),(Qa R),(Qa S),(Qa U),(Qa W),(Qa X),(Qa Y),(Qa Z),(Qa aa),(Qa ab),(Qa ac),(Qa ad),(Qa ae),(Qa af),(Qa ag),(Qa ah),(Qa ai),(Qa aj),(V.sl 5 ak),(V.sl 5 aE)] [(Qc (0:Int)),(Qb (0:Int)),(Qc (0:Int))] bk (fun z cW=>chk (XG z=34) (cI .u8 z 0 fun bm=>cI .u8 z 1 fun bn=>cI .u8 z 2 fun bo=>cI .u8 z 3 fun bp=>cI .u8 z 4 fun bq=>cI .u8 z 5 fun br=>cI .u8 z 6 fun bt=>cI .u8 z 7 fun bu=>cI .u8 z 8 fun bv=>cI .u8 z 9 fun bw=>cI .u8 z 10 fun bz=>cI .u8 z 11 fun bC=>cI .u8 z 12 fun bD=>cI .u8 z 13 fun bE=>cI .u8 z 14 fun bF=>cI .u8 z 15 fun bG=>cI .u8 z 16 fun bH=>cI .u8 z 17 fun bI=>cI .u8 z 18 fun bJ=>cI .u8 z 19 fun bK=>cI .u8 z 20 fun bL=>cI .u8 z 21 fun bM=>cI .u8 z 22 fun bN=>cI .u8 z 23 fun bO=>cI .u8 z 24 fun bP=>cI .u8 z 25 fun bQ=>cI .u8 z 26 fun bR=>cI .u8 z 27 fun bS=>cI .u8 z 28 fun bT=>cI .u8 z 29 fun bU=>cI .u8 z 30 fun bV=>cI .u8 z 31 fun bW=>cL 5 z 32 fun bX=>cL 5 z 33 fun bY=>D [(Qa bm),(Qa bn),(Qa bo),(Qa bp),(Qa bq),(Qa br),(Qa bt),(Qa bu),(Qa bv),(Qa bw),(Qa bz),(Qa bC),(Qa bD),(Qa bE),(Qa bF),(Qa bG),(Qa bH),(Qa bI),(Qa bJ),(Qa bK),(Qa bL),(Qa bM),(Qa bN),(Qa bO),(Qa bP),(Qa bQ),(Qa bR),(Qa bS),(Qa bT),(Qa bU),(Qa bV),(Qa bW),(V.sl 5 bX),(V.sl 5 bY)] (0:Int))))) (D [(Qa v3),(Qa v4),(Qa v5),(Qa v6),(Qa v7),(Qa v8),(Qa v9),(Qa G),(Qa I),(Qa J),(Qa M),(Qa N),(Qa O),(Qa P),(Qa Q),(Qa R),(Qa S),(Qa U),(Qa W),(Qa X),(Qa Y),(Qa Z),(Qa aa),(Qa ab),(Qa ac),(Qa ad),(Qa ae),(Qa af),(Qa ag),(Qa ah),(Qa ai),(Qa aj),(V.sl 5 ak),(V.sl 5 aE)] (0:Int)))))))))))))))))))))))))
theorem zzc{β:Type}(zI:ze0)(zd:xI)(xj:zai)(zj:zak)(ye:yL)(yj:zam)(zi:zal)(xu:zcz)(yI:zfN)(L:Nat)(C D:List V)(k:KK β):zp zpK (zpS zI zd xj zj ye yj zi xu yI L) L zlO [(V.agg C),(V.agg D)] [] k=zrk zI zd xj zj ye yj zi xu yI L C D (fun z A=>k (V.tup [(V.agg z),(Qe A)]) []):=by kernel_rfl
abbrev zb3:=∀ (β:Type),Nat→List V→List V→(List V→Int→Option β)→Option β
def xv(β:Type)(L:Nat)(A C:List V)(z:List V→Int→Option β):Option β:=zrk zI zd xj zj ye yj zi xu yI L A C z
def znJ(xv:zb3)(L:Nat)(β:Type)(args:List V)(bor:Bor)(k:KK β):Option β:=match args,bor with
 | [a0,a1],[]=>aG a0 fun C=>aG a1 fun D=>xv β L C D (fun z A=>k (V.tup [(V.agg z),(Qe A)]) [])
 | _,_=>none
theorem zyZ(L:Nat)(β:Type)(args:List V)(bor:Bor)(k:KK β)(r:β)(h:znJ xv L β args bor k=some r):zp zpK (zpS zI zd xj zj ye yj zi xu yI L) L zlO args bor k=some r:=by
 unfold znJ at h
 split at h
 ·have q:=yW h; clear h; obtain ⟨z,rfl,h⟩:=q
  have q:=yW h; clear h; obtain ⟨A,rfl,h⟩:=q
  exact (zzc zI zd xj zj ye yj zi xu yI L z A k).trans h
 ·cases h
def znN:CF:=⟨18,[.cell 2 true 3],(.seq (.reg [oo 2 (.alloc true [(.sc (.int .u32 0)),(.sc (.int .u16 0)),(.sc (.int .u32 0))])]) (.seq (.reg [Qh 3 (tq 0),Qs 4 231 [(Qw 3),((Qf 6),0)],Qu 5 .u32 (tq 4),oo 6 (.bin .shl (tq 5) (.const (.sc (.int .u64 16)))),Qh 7 (tq 0),Qs 8 231 [(Qw 7),((Qf 5),0)],Qu 9 .u32 (tq 8),Qp 10 .add (tq 6) (tq 9),Qh 11 (tq 0),Qs 12 231 [(Qw 11),((Qf 2),0)],Qu 13 .u16 (tq 12),Qh 14 (tq 0),Qs 15 231 [(Qw 14),((Qf 50),0)],Qu 16 .u32 (tq 15),oo 17 (.build [(.sc (.int .u32 0)),(.sc (.int .u16 0)),(.sc (.int .u32 0))] [(0,1,(tq 10)),(1,1,(tq 13)),(2,1,(tq 16))]),Qm 3 (tq 2) (tq 17)]) .ret))⟩
def ztm:Hint:=⟨[],[],[none],[],[],false,false,[]⟩
def zq3:Nat→Sh:=xW []
def zrH(xa:zw)(L:Nat):CBC:=(yD 231 (zdj xa L) noC)
def zsK{β:Type}(xa:zw)(L:Nat)(C:List (List V))(D:Int)(z:List V→List (List V)→Int→Option β):Option β:=xa β L (6:Int) C D (fun P Q R=>lt (QF .u32 P) fun S=>lt (zlp .u32 S (16:Int)) fun U=>xa β L (5:Int) Q R (fun W X Y=>lt (QF .u32 W) fun Z=>lt (QF .u32 ((U:Int)+Z)) fun x9=>xa β L (2:Int) X Y (fun E F G=>lt (QF .u16 E) fun I=>xa β L (50:Int) F G (fun J M N=>lt (QF .u32 J) fun O=>lt [(Qc x9),(Qb I),(Qc O)] fun A=>chk (0=0∧(XG A)=3∧3≠0) (z A M N)))))
theorem zAi{β:Type}(xa:zw)(L:Nat)(z:List (List V))(A:Int)(k:KK β):zp zq3 (zrH xa L) L znN [(V.ptr 0 0)] [(.live false [(V.sl 1 z),(Qe A)])] k=zsK xa L z A (fun C z A=>k (V.agg C) [(.live false [(V.sl 1 z),(Qe A)])]):=by kernel_rfl
abbrev zct:=∀ (β:Type),Nat→List (List V)→Int→(List V→List (List V)→Int→Option β)→Option β
def xx(β:Type)(L:Nat)(A:List (List V))(C:Int)(z:List V→List (List V)→Int→Option β):Option β:=zsK xa L A C z
def zo3(xx:zct)(L:Nat)(β:Type)(args:List V)(bor:Bor)(k:KK β):Option β:=match args,bor with
 | [a0],[(.live false [w0_0,w0_1])]=>aP 0 0 a0 (aL 1 w0_0 fun z=>aI .i64 w0_1 fun A=>xx β L z A (fun C z A=>k (V.agg C) [(.live false [(V.sl 1 z),(Qe A)])]))
 | _,_=>none
theorem zz1(L:Nat)(β:Type)(args:List V)(bor:Bor)(k:KK β)(r:β)(h:zo3 xx L β args bor k=some r):zp zq3 (zrH xa L) L znN args bor k=some r:=by
 unfold zo3 at h
 split at h
 ·have q:=znz h; clear h; obtain ⟨rfl,h⟩:=q
  have q:=zaT h; clear h; obtain ⟨z,rfl,h⟩:=q
  have q:=yB h; clear h; obtain ⟨A,rfl,h⟩:=q
  exact (zAi xa L z A k).trans h
 ·cases h
def zkQ:CF:=⟨24,[.cell 6 true 34,.tmp 7,.tmp 8],(.seq (.reg [Qv 3 (tq 0),Qv 4 (tq 1),oo 6 (.alloc true (rp 32 (.sc (.int .u8 0)) (rp 2 (.gs 5 []) []))),Qh 7 (Qg false),Qh 8 (Qf 0)]) (.seq (.seq (.reg [Qk 11 34 (tq 3),Qs 12 281 [((tq 11),1)],Qt 13 (tq 12)]) (.cond (tq 13) (.seq (.reg [oo 14 (.build (rp 32 (.sc (.int .u8 0)) (rp 2 (.sl 5 []) [])) []),Qm 34 (tq 6) (tq 14),Qh 7 (Qg false),Qh 8 (Qf 6)]) .ret) .skip)) (.seq (.reg [Qk 16 34 (tq 3),Qk 17 3 (tq 4),Qh 18 (tq 2),Qs 19 293 [((tq 16),1),(Qw 17),(Qw 18)],Qi 15 (tq 19),Qq 20 (tq 15) 0,Qq 21 (tq 15) 1,oo 9 (.alloc true (rp 32 (.sc (.int .u8 0)) (rp 2 (.gs 5 []) []))),Qm 34 (tq 9) (tq 20),Qh 10 (tq 21)]) (.seq (.reg [Qk 22 34 (tq 9),Qh 23 (tq 10),Qm 34 (tq 6) (tq 22),Qh 7 (tq 23),Qh 8 (Qf 0)]) .ret))))⟩
def zrl:Hint:=⟨[(0,0),(0,2),(3,4),(3,7)],[],[none,none,none],[],[],false,false,[]⟩
def zoS:Nat→Sh:=xW []
def zos(zI:ze0)(yI:zfN)(L:Nat):CBC:=(yD 293 (zkk yI L) (yD 281 (ziV zI L) noC))
def zpX{β:Type}(zI:ze0)(yI:zfN)(L:Nat)(A C:List V)(E:Int)(z:List V→Bool→Int→Option β):Option β:=chk (0+34≤(XG A)) (zI β L (Xt V.dem (XI 34 A)) (fun F=>ifb (!F) (lt (We 32 (Qa (0:Int))++[(V.sl 5 ([]:List (List V))),(V.sl 5 ([]:List (List V)))]) fun r1=>chk (0=0∧(XG r1)=34∧34≠0) (z r1 false (6:Int))) (chk (0+34≤(XG A)) (chk (0+3≤(XG C)) (yI β L (Xt V.dem (XI 34 A)) (XI 3 C) E (fun D G=>chk ((XG D)=34∧0+34≤34) (lt (yh (We 32 (Qa (0:Int))++[(V.gs 5 ([]:List (List V))),(V.gs 5 ([]:List (List V)))]) 0 D) fun r4=>chk (0+34≤(XG r4)) (chk ((XG (XI 34 r4))=34∧0+34≤34) (lt (yh (We 32 (Qa (0:Int))++[(V.gs 5 ([]:List (List V))),(V.gs 5 ([]:List (List V)))]) 0 (XI 34 r4)) fun r5=>chk (0=0∧(XG r5)=34∧34≠0) (z r5 G (0:Int)))))))))))
theorem zxN{β:Type}(zI:ze0)(yI:zfN)(L:Nat)(D E:List V)(F:Int)(k:KK β):zp zoS (zos zI yI L) L zkQ [(V.agg D),(V.agg E),(Qc F)] [] k=zpX zI yI L D E F (fun z A C=>k (V.tup [(V.agg z),(V.sc (.bool A)),(Qe C)]) []):=by kernel_rfl
abbrev zbA:=∀ (β:Type),Nat→List V→List V→Int→(List V→Bool→Int→Option β)→Option β
def yr(β:Type)(L:Nat)(A C:List V)(D:Int)(z:List V→Bool→Int→Option β):Option β:=zpX zI yI L A C D z
def zlX(yr:zbA)(L:Nat)(β:Type)(args:List V)(bor:Bor)(k:KK β):Option β:=match args,bor with
 | [a0,a1,a2],[]=>aG a0 fun D=>aG a1 fun E=>aI .u32 a2 fun F=>yr β L D E F (fun z A C=>k (V.tup [(V.agg z),(V.sc (.bool A)),(Qe C)]) [])
 | _,_=>none
theorem zyg(L:Nat)(β:Type)(args:List V)(bor:Bor)(k:KK β)(r:β)(h:zlX yr L β args bor k=some r):zp zoS (zos zI yI L) L zkQ args bor k=some r:=by
 unfold zlX at h
 split at h
 ·have q:=yW h; clear h; obtain ⟨z,rfl,h⟩:=q
  have q:=yW h; clear h; obtain ⟨A,rfl,h⟩:=q
  have q:=yB h; clear h; obtain ⟨C,rfl,h⟩:=q
  exact (zxN zI yI L z A C k).trans h
 ·cases h
def zfd:CC:=(.seq (.seq (.reg [Qh 10 (tq 4),Qp 11 .gtr (tq 10) (Qf 0)]) (.cond (tq 11) .skip (.seq (.mask (bl 12 49) (bl 313358403731439 49)) (.exit 0)))) (.seq (.block 1 (.seq (.reg [Qh 14 (tq 0),Qs 15 231 [(Qw 14),((Qf 4),0)]]) (.block 2 (.seq (.reg [Qp 28 .eql (tq 15) (Qf 0),Qh 27 (tq 28)]) (.cond (tq 27) (.seq (.reg [Ql 29 32 (tq 3),Qj 30 1 (tq 29),Qr 31 (tq 30),Qp 32 .gtr (tq 31) (Qf 0)]) (.cond (tq 32) (.dreg [] [(Qk 34 34 (tq 3),ql 3 [] []),(Ql 35 32 (tq 3),q0),(Qj 36 1 (tq 35),ql 3 [] []),(Qh 37 (tq 0),q0),(Ql 38 32 (tq 3),q0),(Qj 39 1 (tq 38),ql 3 [] []),(Qr 40 (tq 39),q0),(Qs 41 231 [(Qw 37),(Qw 40)],qc [3] []),(Qo 42 5 (tq 36) (tq 41),q0),(Ql 43 1 (tq 42),q0),(Qk 44 3 (tq 43),qc [3] []),(Qs 45 272 [((tq 34),1),(Qw 44)],q0),(Qi 33 (tq 45),q0),(Qq 46 (tq 33) 0,q0),(Qq 47 (tq 33) 1,q0),(Qm 34 (tq 3) (tq 46),q0)]) .skip)) (.dreg [] [(Qk 17 34 (tq 3),ql 3 [] []),(Qh 18 (tq 0),q0),(Qs 19 262 [(Qw 18)],qc [3] []),(Qh 20 (tq 0),q0),(Qs 21 231 [(Qw 20),((Qf 4),0)],qc [3] []),(Qu 22 .u32 (tq 21),q0),(Qs 23 273 [((tq 17),1),(Qw 19),(Qw 22)],q0),(Qi 16 (tq 23),q0),(Qq 24 (tq 16) 0,q0),(Qq 25 (tq 16) 1,q0),(Qq 26 (tq 16) 2,q0),(Qm 34 (tq 3) (tq 24),q0)])))))) (.reg [Qh 12 (tq 4),Qp 13 .sub (tq 12) (Qf 1),Qh 4 (tq 13)])))
def zoU:CC:=(.seq (.reg [Qk 48 34 (tq 3),Qm 34 (tq 2) (tq 48)]) .ret)
def zfR:CF:=⟨49,[.cell 2 true 34],(.seq (.reg [oo 2 (.alloc true (rp 32 (.sc (.int .u8 0)) (rp 2 (.gs 5 []) [])))]) (.seq (.reg [Qh 5 (tq 0),Qs 6 236 [(Qw 5)],oo 7 (.build (rp 32 (.sc (.int .u8 0)) (rp 2 (.sl 5 []) [])) [(0,32,(tq 6))]),oo 3 (.alloc true (rp 32 (.sc (.int .u8 0)) (rp 2 (.gs 5 []) []))),Qm 34 (tq 3) (tq 7)]) (.seq (.seq (.reg [Qh 8 (tq 0),Qs 9 231 [(Qw 8),((Qf 40),0)],Qh 4 (tq 9)]) (.block 0 (.loop (bl 29 49) (bl 313358403731455 49) zfd))) zoU)))⟩
def ztx:Hint:=⟨[(0,0),(1,3),(9,12),(6,7)],[],[none,some ((bl 29 49),(bl 313358403731455 49)),none,some ((bl 12 49),(bl 313358403731439 49)),none,none,none,none,none],[],[],false,false,[]⟩
def zc3:Nat→Sh:=xW [(30,(.sl 5)),(36,(.sl 5)),(39,(.sl 5))]
def zc6(yx:zcy)(xa:zw)(xv:zb3)(xx:zct)(yr:zbA)(L:Nat):CBC:=(yD 273 (zlX yr L) (yD 262 (zo3 xx L) (yD 272 (znJ xv L) (yD 231 (zdj xa L) (yD 236 (zo7 yx L) noC)))))
def ziu:St→St:=zaH 1 (bl 29 49) (bl 313358403731455 49)
def zfW(C:Int)(z:List (List V))(A:Int)(D E:List V):St:=⟨((V.ptr 0 0)::(jn 1 ((V.ptr 3 0)::((V.ptr 4 0)::((Qe C)::(jn 44 [])))))),((.live false [(V.sl 1 z),(Qe A)])::(gn 2 ((.live true D)::((.live true E)::(gn 45 [])))))⟩
def znQ(z:List (List V))(A:Int)(C D:List V):St:=⟨(jn 2 ((V.ptr 3 0)::((V.ptr 4 0)::(jn 45 [])))),((.live false [(V.sl 1 z),(Qe A)])::(gn 2 ((.live true C)::((.live true D)::(gn 45 [])))))⟩
def zsE{β:Type}(yx:zcy)(xa:zw)(xv:zb3)(xx:zct)(yr:zbA)(L:Nat)(A:List (List V))(C:Int)(z:Int→List (List V)→Int→List V→List V→Option β):Option β:=yx β L A C (fun D E F=>chk ((XG D)=32∧0+32≤34) (chk ((XG (yh (We 32 (Qa (0:Int))++[(V.sl 5 ([]:List (List V))),(V.sl 5 ([]:List (List V)))]) 0 D))=34∧0+34≤34) (lt (yh (We 32 (Qa (0:Int))++[(V.gs 5 ([]:List (List V))),(V.gs 5 ([]:List (List V)))]) 0 (yh (We 32 (Qa (0:Int))++[(V.sl 5 ([]:List (List V))),(V.sl 5 ([]:List (List V)))]) 0 D)) fun r3=>xa β L (40:Int) E F (fun G I J=>z G I J (We 32 (Qa (0:Int))++[(V.gs 5 ([]:List (List V))),(V.gs 5 ([]:List (List V)))]) r3))))
theorem zz3{β:Type}(yx:zcy)(xa:zw)(xv:zb3)(xx:zct)(yr:zbA)(L:Nat)(z:List (List V))(A:Int)(k:KK β):zp zc3 (zc6 yx xa xv xx yr L) L zfR [(V.ptr 0 0)] [(.live false [(V.sl 1 z),(Qe A)])] k=zsE yx xa xv xx yr L z A (fun C z A D E=>xz (yi zc3 (zc6 yx xa xv xx yr L) 1 L zfd) ziu L (zfW C z A D E) (zz 0 (xK (yi zc3 (zc6 yx xa xv xx yr L) 1 L zoU) (yR 1 (CF.res zfR) k)))):=by kernel_rfl
def zea{β:Type}(yx:zcy)(xa:zw)(xv:zb3)(xx:zct)(yr:zbA)(L:Nat)(E:Int)(C:List (List V))(D:Int)(F A:List V)(z:Int→List (List V)→Int→List V→List V→Option β)(J:List (List V)→Int→List V→List V→Option β):Option β:=ifb (decide (E>(0:Int))) (xa β L (4:Int) C D (fun v7 M N=>ifb ((v7:Int)==(0:Int)) (cLd 5 A 32 fun O=>ifb (decide (((XG O:Nat):Int)>(0:Int))) (chk (0+34≤(XG A)) (cLd 5 A 32 fun P=>cLd 5 A 32 fun Q=>xa β L ((XG Q:Nat):Int) M N (fun R S U=>idx P R fun W=>xv β L (Xt V.dem (XI 34 A)) (XI 3 (XJ 1 W)) (fun G ak=>chk ((XG G)=34∧0+34≤(XG A)) (lt (yh A 0 G) fun X=>lt (QF .i64 ((E:Int)-(1:Int))) fun Y=>z Y S U F X))))) (lt (QF .i64 ((E:Int)-(1:Int))) fun Z=>z Z M N F A)) (chk (0+34≤(XG A)) (xx β L M N (fun aa ab ac=>xa β L (4:Int) ab ac (fun ad ae af=>lt (QF .u32 ad) fun ag=>yr β L (Xt V.dem (XI 34 A)) aa ag (fun I al am=>chk ((XG I)=34∧0+34≤(XG A)) (lt (yh A 0 I) fun ah=>lt (QF .i64 ((E:Int)-(1:Int))) fun ai=>z ai ae af F ah)))))))) (J C D F A)
theorem zvg{β:Type}(yx:zcy)(xa:zw)(xv:zb3)(xx:zct)(yr:zbA)(L:Nat)(E:Int)(z:List (List V))(A:Int)(C D:List V)(X:St→Option β)(K:KT β):yi zc3 (zc6 yx xa xv xx yr L) 1 L zfd (zfW E z A C D) (zbo ziu X K)=zea yx xa xv xx yr L E z A C D (fun E z A C D=>X (zfW E z A C D)) (fun z A C D=>K (.exit 0) (znQ z A C D)):=by kernel_rfl
def zkK{β:Type}(yx:zcy)(xa:zw)(xv:zb3)(xx:zct)(yr:zbA)(L:Nat)(C:List (List V))(D:Int)(F E:List V)(z:List V→List (List V)→Int→Option β):Option β:=chk (0+34≤(XG E)) (chk ((XG (XI 34 E))=34∧0+34≤(XG F)) (lt (yh F 0 (XI 34 E)) fun A=>chk (0=0∧(XG A)=34∧34≠0) (z A C D)))
theorem ztj{β:Type}(yx:zcy)(xa:zw)(xv:zb3)(xx:zct)(yr:zbA)(L:Nat)(z:List (List V))(A:Int)(C D:List V)(k:KK β):(zz 0 (xK (yi zc3 (zc6 yx xa xv xx yr L) 1 L zoU) (yR 1 (CF.res zfR) k))) (.exit 0) (znQ z A C D)=zkK yx xa xv xx yr L z A C D (fun E z A=>k (V.agg E) [(.live false [(V.sl 1 z),(Qe A)])]):=by kernel_rfl
def zcl{β:Type}(yx:zcy)(xa:zw)(xv:zb3)(xx:zct)(yr:zbA)(L:Nat)(C:List (List V)→Int→List V→List V→Option β):Nat→Int→List (List V)→Int→List V→List V→Option β
 | 0,_,_,_,_,_=>none
 | n+1,D,z,A,E,F=>zea yx xa xv xx yr L D z A E F (fun D z A E F=>zcl yx xa xv xx yr L C n D z A E F) C
theorem zok{β:Type}(yx:zcy)(xa:zw)(xv:zb3)(xx:zct)(yr:zbA)(L:Nat)(K:KT β):∀ (n:Nat) (E:Int) (z:List (List V)) (A:Int) (C D:List V),xz (yi zc3 (zc6 yx xa xv xx yr L) 1 L zfd) ziu n (zfW E z A C D) K=zcl yx xa xv xx yr L (fun z A C D=>K (.exit 0) (znQ z A C D)) n E z A C D:=by
 intro n
 induction n with
 | zero=>intros; rfl
 | succ n ih=>
  intro E z A C D
  refine (zvg yx xa xv xx yr L E z A C D (fun σ=>xz (yi zc3 (zc6 yx xa xv xx yr L) 1 L zfd) ziu n σ K) K).trans ?_
  simp only [ih]
  rfl
def zpc{β:Type}(yx:zcy)(xa:zw)(xv:zb3)(xx:zct)(yr:zbA)(L:Nat)(z:List (List V))(A:Int)(C:List V→List (List V)→Int→Option β):Option β:=zsE yx xa xv xx yr L z A (fun F z A D E=>zcl yx xa xv xx yr L (fun z A D E=>zkK yx xa xv xx yr L z A D E C) L F z A D E)
theorem zzZ{β:Type}(yx:zcy)(xa:zw)(xv:zb3)(xx:zct)(yr:zbA)(L:Nat)(z:List (List V))(A:Int)(k:KK β):zp zc3 (zc6 yx xa xv xx yr L) L zfR [(V.ptr 0 0)] [(.live false [(V.sl 1 z),(Qe A)])] k=zpc yx xa xv xx yr L z A (fun C z A=>k (V.agg C) [(.live false [(V.sl 1 z),(Qe A)])]):=by
 refine (zz3 yx xa xv xx yr L z A k).trans ?_
 unfold zpc
 first
  | (simp only [zok,ztj]; done)
  | (simp only [zok]; rfl)
abbrev yM:=∀ (β:Type),Nat→List (List V)→Int→(List V→List (List V)→Int→Option β)→Option β
def zf(β:Type)(L:Nat)(A:List (List V))(C:Int)(z:List V→List (List V)→Int→Option β):Option β:=zpc yx xa xv xx yr L A C z
def zo5(zf:yM)(L:Nat)(β:Type)(args:List V)(bor:Bor)(k:KK β):Option β:=match args,bor with
 | [a0],[(.live false [w0_0,w0_1])]=>aP 0 0 a0 (aL 1 w0_0 fun z=>aI .i64 w0_1 fun A=>zf β L z A (fun C z A=>k (V.agg C) [(.live false [(V.sl 1 z),(Qe A)])]))
 | _,_=>none
theorem zAk(L:Nat)(β:Type)(args:List V)(bor:Bor)(k:KK β)(r:β)(h:zo5 zf L β args bor k=some r):zp zc3 (zc6 yx xa xv xx yr L) L zfR args bor k=some r:=by
 unfold zo5 at h
 split at h
 ·have q:=znz h; clear h; obtain ⟨rfl,h⟩:=q
  have q:=zaT h; clear h; obtain ⟨z,rfl,h⟩:=q
  have q:=yB h; clear h; obtain ⟨A,rfl,h⟩:=q
  exact (zzZ yx xa xv xx yr L z A k).trans h
 ·cases h
def zeI:CC:=(.seq (.seq (.reg [Qh 13 (tq 8),Qp 14 .lss (tq 13) (Qf 60)]) (.cond (tq 14) .skip (.seq (.mask (bl 80 45) (bl 34153311232127 45)) (.exit 0)))) (.seq (.block 1 (.seq (.reg [Qh 17 (tq 0),Qs 18 231 [(Qw 17),((Qf 9),0)],Qu 19 .u32 (tq 18),oo 20 (.bin .shl (tq 19) (.const (.sc (.int .u64 16)))),Qh 21 (tq 8),Qp 22 .add (Qf 100) (tq 21),Qu 23 .u32 (tq 22),Qp 24 .add (tq 20) (tq 23),Qh 25 (tq 8),Qu 26 .u16 (tq 25),Qh 27 (tq 0),Qs 28 231 [(Qw 27),((Qf 9),0)],Qp 29 .add (Qf 60) (tq 28),Qu 30 .u32 (tq 29),oo 31 (.build [(.sc (.int .u32 0)),(.sc (.int .u16 0)),(.sc (.int .u32 0))] [(0,1,(tq 24)),(1,1,(tq 26)),(2,1,(tq 30))]),oo 9 (.alloc true [(.sc (.int .u32 0)),(.sc (.int .u16 0)),(.sc (.int .u32 0))]),Qm 3 (tq 9) (tq 31)]) (.seq (.reg [Qk 33 34 (tq 4),Qk 34 3 (tq 9),Qh 35 (tq 2),Qs 36 382 [((tq 33),1),(Qw 34),(Qw 35)],Qi 32 (tq 36),Qq 37 (tq 32) 0,Qq 38 (tq 32) 1,Qq 39 (tq 32) 2,oo 10 (.alloc true (rp 32 (.sc (.int .u8 0)) (rp 2 (.gs 5 []) []))),Qm 34 (tq 10) (tq 37),Qh 11 (tq 38),Qh 12 (tq 39)]) (.seq (.seq (.reg [Qh 40 (tq 12),Qp 41 .neq (tq 40) (Qf 0)]) (.cond (tq 41) (.seq (.reg [Qk 42 34 (tq 4),Qm 34 (tq 6) (tq 42),Qh 7 (Qg false)]) (.seq (.mask (bl 192 45) (bl 34153311232239 45)) .ret)) .skip)) (.reg [Qk 43 34 (tq 10),Qm 34 (tq 4) (tq 43)]))))) (.reg [Qh 15 (tq 8),Qp 16 .add (tq 15) (Qf 1),Qh 8 (tq 16)])))
def zjL:CC:=(.seq (.reg [Qk 44 34 (tq 4),Qm 34 (tq 6) (tq 44),Qh 7 (Qg true)]) .ret)
def zds:CF:=⟨45,[.cell 6 true 34,.tmp 7],(.seq (.reg [oo 4 (.box false (tq 1)),oo 6 (.alloc true (rp 32 (.sc (.int .u8 0)) (rp 2 (.gs 5 []) []))),Qh 7 (Qg false)]) (.seq (.seq (.reg [Qh 8 (Qf 0)]) (.block 0 (.loop (bl 341 45) (bl 34153311232383 45) zeI))) zjL))⟩
def zrg:Hint:=⟨[(0,1),(5,4),(5,8)],[],[none,some ((bl 341 45),(bl 34153311232383 45)),none,some ((bl 80 45),(bl 34153311232127 45)),none,none,some ((bl 192 45),(bl 34153311232239 45)),none],[],[],false,false,[]⟩
def zbE:Nat→Sh:=xW [(4,(.row [(.int .u8),(.int .u8),(.int .u8),(.int .u8),(.int .u8),(.int .u8),(.int .u8),(.int .u8),(.int .u8),(.int .u8),(.int .u8),(.int .u8),(.int .u8),(.int .u8),(.int .u8),(.int .u8),(.int .u8),(.int .u8),(.int .u8),(.int .u8),(.int .u8),(.int .u8),(.int .u8),(.int .u8),(.int .u8),(.int .u8),(.int .u8),(.int .u8),(.int .u8),(.int .u8),(.int .u8),(.int .u8),(.sl 5),(.sl 5)])),(43,(.row [(.int .u8),(.int .u8),(.int .u8),(.int .u8),(.int .u8),(.int .u8),(.int .u8),(.int .u8),(.int .u8),(.int .u8),(.int .u8),(.int .u8),(.int .u8),(.int .u8),(.int .u8),(.int .u8),(.int .u8),(.int .u8),(.int .u8),(.int .u8),(.int .u8),(.int .u8),(.int .u8),(.int .u8),(.int .u8),(.int .u8),(.int .u8),(.int .u8),(.int .u8),(.int .u8),(.int .u8),(.int .u8),(.sl 5),(.sl 5)]))]
def zbF(xa:zw)(yg:zT)(L:Nat):CBC:=(yD 382 (zfF yg L) (yD 231 (zdj xa L) noC))
def zhf:St→St:=zaH 1 (bl 341 45) (bl 34153311232383 45)
def zfo(p2 p8:Int)(ad:List (List V))(ae af ag ah ai aj ak al am an ao z A C D E F G I J M N O P Q R S U W X Y Z aa:Int)(ab ac:List (List V))(b7:List V):St:=⟨((V.ptr 0 0)::(jn 1 ((Qc p2)::(jn 1 ((V.ptr 5 0)::(jn 1 ((V.ptr 7 0)::(jn 1 ((Qe p8)::(jn 36 [])))))))))),((.live false [(V.sl 1 ad),(Qe ae)])::(gn 4 ((.live false [(Qa af),(Qa ag),(Qa ah),(Qa ai),(Qa aj),(Qa ak),(Qa al),(Qa am),(Qa an),(Qa ao),(Qa z),(Qa A),(Qa C),(Qa D),(Qa E),(Qa F),(Qa G),(Qa I),(Qa J),(Qa M),(Qa N),(Qa O),(Qa P),(Qa Q),(Qa R),(Qa S),(Qa U),(Qa W),(Qa X),(Qa Y),(Qa Z),(Qa aa),(V.sl 5 ab),(V.sl 5 ac)])::(gn 1 ((.live true b7)::(gn 38 []))))))⟩
def zkg(C:Bool)(z:List (List V))(A:Int)(D:List V):St:=⟨(jn 6 ((V.ptr 7 0)::((V.sc (.bool C))::(jn 37 [])))),((.live false [(V.sl 1 z),(Qe A)])::(gn 6 ((.live true D)::(gn 38 []))))⟩
def zlv(ad:List (List V))(ae af ag ah ai aj ak al am an ao z A C D E F G I J M N O P Q R S U W X Y Z aa:Int)(ab ac:List (List V))(b7:List V):St:=⟨(jn 4 ((V.ptr 5 0)::(jn 1 ((V.ptr 7 0)::(jn 38 []))))),((.live false [(V.sl 1 ad),(Qe ae)])::(gn 4 ((.live false [(Qa af),(Qa ag),(Qa ah),(Qa ai),(Qa aj),(Qa ak),(Qa al),(Qa am),(Qa an),(Qa ao),(Qa z),(Qa A),(Qa C),(Qa D),(Qa E),(Qa F),(Qa G),(Qa I),(Qa J),(Qa M),(Qa N),(Qa O),(Qa P),(Qa Q),(Qa R),(Qa S),(Qa U),(Qa W),(Qa X),(Qa Y),(Qa Z),(Qa aa),(V.sl 5 ab),(V.sl 5 ac)])::(gn 1 ((.live true b7)::(gn 38 []))))))⟩
abbrev zpj(β:Type):Type:=Int→Int→List (List V)→Int→Int→Int→Int→Int→Int→Int→Int→Int→Int→Int→Int→Int→Int→Int→Int→Int→Int→Int→Int→Int→Int→Int→Int→Int→Int→Int→Int→Int→Int→Int→Int→Int→List (List V)→List (List V)→List V→Option β
abbrev zne(β:Type):Type:=List (List V)→Int→Int→Int→Int→Int→Int→Int→Int→Int→Int→Int→Int→Int→Int→Int→Int→Int→Int→Int→Int→Int→Int→Int→Int→Int→Int→Int→Int→Int→Int→Int→Int→Int→List (List V)→List (List V)→List V→Option β
def zp1{β:Type}(xa:zw)(yg:zT)(L:Nat)(z:List V)(p2:Int)(C:List (List V))(D:Int)(A:zpj β):Option β:=chk (XG z=34) (cI .u8 z 0 fun v0=>cI .u8 z 1 fun v1=>cI .u8 z 2 fun v2=>cI .u8 z 3 fun v3=>cI .u8 z 4 fun v4=>cI .u8 z 5 fun v5=>cI .u8 z 6 fun v6=>cI .u8 z 7 fun v7=>cI .u8 z 8 fun v8=>cI .u8 z 9 fun v9=>cI .u8 z 10 fun E=>cI .u8 z 11 fun F=>cI .u8 z 12 fun G=>cI .u8 z 13 fun I=>cI .u8 z 14 fun J=>cI .u8 z 15 fun M=>cI .u8 z 16 fun N=>cI .u8 z 17 fun O=>cI .u8 z 18 fun P=>cI .u8 z 19 fun Q=>cI .u8 z 20 fun R=>cI .u8 z 21 fun S=>cI .u8 z 22 fun U=>cI .u8 z 23 fun W=>cI .u8 z 24 fun X=>cI .u8 z 25 fun Y=>cI .u8 z 26 fun Z=>cI .u8 z 27 fun aa=>cI .u8 z 28 fun ab=>cI .u8 z 29 fun ac=>cI .u8 z 30 fun ad=>cI .u8 z 31 fun ae=>cL 5 z 32 fun af=>cL 5 z 33 fun ag=>A p2 (0:Int) C D v0 v1 v2 v3 v4 v5 v6 v7 v8 v9 E F G I J M N O P Q R S U W X Y Z aa ab ac ad ae af ag (We 32 (Qa (0:Int))++[(V.gs 5 ([]:List (List V))),(V.gs 5 ([]:List (List V)))]))
theorem zxZ{β:Type}(xa:zw)(yg:zT)(L:Nat)(p1:List V)(C:Int)(z:List (List V))(A:Int)(k:KK β):zp zbE (zbF xa yg L) L zds [(V.ptr 0 0),(V.agg p1),(Qc C)] [(.live false [(V.sl 1 z),(Qe A)])] k=zp1 xa yg L p1 C z A (fun C p8 z A ag ah ai aj ak al am an ao ap D E F G I J M N O P Q R S U W X Y Z aa ab ac ad ae af b7=>xz (yi zbE (zbF xa yg L) 1 L zeI) zhf L (zfo C p8 z A ag ah ai aj ak al am an ao ap D E F G I J M N O P Q R S U W X Y Z aa ab ac ad ae af b7) (zz 0 (xK (yi zbE (zbF xa yg L) 1 L zjL) (yR 1 (CF.res zds) k)))):=by kernel_rfl
def zht{β:Type}(xa:zw)(yg:zT)(L:Nat)(p2 p8:Int)(ap:List (List V))(aq ae af ag ah ai aj ak al am an A C D E F G I J M N O P Q R S U W X Y Z aa ab:Int)(ac ad:List (List V))(b7:List V)(av:Bool→List (List V)→Int→List V→Option β)(ao:zpj β)(aC:zne β):Option β:=ifb (decide (p8<(60:Int))) (xa β L (9:Int) ap aq (fun aE aH aJ=>lt (QF .u32 aE) fun aK=>lt (zlp .u32 aK (16:Int)) fun aN=>lt (QF .i64 (((100:Int):Int)+p8)) fun aQ=>lt (QF .u32 aQ) fun aR=>lt (QF .u32 ((aN:Int)+aR)) fun aT=>lt (QF .u16 p8) fun aU=>xa β L (9:Int) aH aJ (fun aW aw ax=>lt (QF .i64 (((60:Int):Int)+aW)) fun aX=>lt (QF .u32 aX) fun aY=>lt [(Qc aT),(Qb aU),(Qc aY)] fun ay=>chk (0+3≤(XG ay)) (yg β L [(Qa ae),(Qa af),(Qa ag),(Qa ah),(Qa ai),(Qa aj),(Qa ak),(Qa al),(Qa am),(Qa an),(Qa A),(Qa C),(Qa D),(Qa E),(Qa F),(Qa G),(Qa I),(Qa J),(Qa M),(Qa N),(Qa O),(Qa P),(Qa Q),(Qa R),(Qa S),(Qa U),(Qa W),(Qa X),(Qa Y),(Qa Z),(Qa aa),(Qa ab),(V.sl 5 ac),(V.sl 5 ad)] (XI 3 ay) p2 (fun az bG aZ=>chk ((XG az)=34∧0+34≤34) (lt (yh (We 32 (Qa (0:Int))++[(V.gs 5 ([]:List (List V))),(V.gs 5 ([]:List (List V)))]) 0 az) fun z=>ifb ((aZ:Int) != (0:Int)) (chk (34=34∧0+34≤(XG b7)) (lt (yh b7 0 [(Qa ae),(Qa af),(Qa ag),(Qa ah),(Qa ai),(Qa aj),(Qa ak),(Qa al),(Qa am),(Qa an),(Qa A),(Qa C),(Qa D),(Qa E),(Qa F),(Qa G),(Qa I),(Qa J),(Qa M),(Qa N),(Qa O),(Qa P),(Qa Q),(Qa R),(Qa S),(Qa U),(Qa W),(Qa X),(Qa Y),(Qa Z),(Qa aa),(Qa ab),(V.sl 5 ac),(V.sl 5 ad)]) fun a0=>av false aw ax a0)) (chk (0+34≤(XG z)) (chk (XG (XI 34 z)=34) (cI .u8 (XI 34 z) 0 fun a1=>cI .u8 (XI 34 z) 1 fun a2=>cI .u8 (XI 34 z) 2 fun a3=>cI .u8 (XI 34 z) 3 fun a4=>cI .u8 (XI 34 z) 4 fun a5=>cI .u8 (XI 34 z) 5 fun a6=>cI .u8 (XI 34 z) 6 fun a7=>cI .u8 (XI 34 z) 7 fun a8=>cI .u8 (XI 34 z) 8 fun a9=>cI .u8 (XI 34 z) 9 fun ba=>cI .u8 (XI 34 z) 10 fun bb=>cI .u8 (XI 34 z) 11 fun bc=>cI .u8 (XI 34 z) 12 fun bd=>cI .u8 (XI 34 z) 13 fun be=>cI .u8 (XI 34 z) 14 fun bf=>cI .u8 (XI 34 z) 15 fun bg=>cI .u8 (XI 34 z) 16 fun bh=>cI .u8 (XI 34 z) 17 fun bi=>cI .u8 (XI 34 z) 18 fun bj=>cI .u8 (XI 34 z) 19 fun bk=>cI .u8 (XI 34 z) 20 fun bm=>cI .u8 (XI 34 z) 21 fun bn=>cI .u8 (XI 34 z) 22 fun bo=>cI .u8 (XI 34 z) 23 fun bp=>cI .u8 (XI 34 z) 24 fun bq=>cI .u8 (XI 34 z) 25 fun br=>cI .u8 (XI 34 z) 26 fun bt=>cI .u8 (XI 34 z) 27 fun bu=>cI .u8 (XI 34 z) 28 fun bv=>cI .u8 (XI 34 z) 29 fun bw=>cI .u8 (XI 34 z) 30 fun bz=>cI .u8 (XI 34 z) 31 fun bC=>cL 5 (XI 34 z) 32 fun bD=>cL 5 (XI 34 z) 33 fun bE=>lt (QF .i64 ((p8:Int)+(1:Int))) fun bF=>ao p2 bF aw ax a1 a2 a3 a4 a5 a6 a7 a8 a9 ba bb bc bd be bf bg bh bi bj bk bm bn bo bp bq br bt bu bv bw bz bC bD bE b7))))))))) (aC ap aq ae af ag ah ai aj ak al am an A C D E F G I J M N O P Q R S U W X Y Z aa ab ac ad b7)
theorem ztZ{β:Type}(xa:zw)(yg:zT)(L:Nat)(p2 p8:Int)(z:List (List V))(A ag ah ai aj ak al am an ao ap C D E F G I J M N O P Q R S U W Y Z aa ab ac ad:Int)(ae af:List (List V))(b7:List V)(X:St→Option β)(K:KT β):yi zbE (zbF xa yg L) 1 L zeI (zfo p2 p8 z A ag ah ai aj ak al am an ao ap C D E F G I J M N O P Q R S U W Y Z aa ab ac ad ae af b7) (zbo zhf X K)=zht xa yg L p2 p8 z A ag ah ai aj ak al am an ao ap C D E F G I J M N O P Q R S U W Y Z aa ab ac ad ae af b7 (fun p7 z A b7=>K .ret (zkg p7 z A b7)) (fun p2 p8 z A ag ah ai aj ak al am an ao ap C D E F G I J M N O P Q R S U W Y Z aa ab ac ad ae af b7=>X (zfo p2 p8 z A ag ah ai aj ak al am an ao ap C D E F G I J M N O P Q R S U W Y Z aa ab ac ad ae af b7)) (fun z A ag ah ai aj ak al am an ao ap C D E F G I J M N O P Q R S U W Y Z aa ab ac ad ae af b7=>K (.exit 0) (zlv z A ag ah ai aj ak al am an ao ap C D E F G I J M N O P Q R S U W Y Z aa ab ac ad ae af b7)):=by kernel_rfl
def zmY{β:Type}(xa:zw)(yg:zT)(L:Nat)(E:Bool)(A:List (List V))(C:Int)(D:List V)(z:List V→Bool→List (List V)→Int→Option β):Option β:=chk (0=0∧(XG D)=34∧34≠0) (z D E A C)
theorem zrO{β:Type}(xa:zw)(yg:zT)(L:Nat)(E:Bool)(z:List (List V))(A:Int)(F:List V)(k:KK β):(zz 0 (xK (yi zbE (zbF xa yg L) 1 L zjL) (yR 1 (CF.res zds) k))) .ret (zkg E z A F)=zmY xa yg L E z A F (fun C D z A=>k (V.tup [(V.agg C),(V.sc (.bool D))]) [(.live false [(V.sl 1 z),(Qe A)])]):=by kernel_rfl
def zjl{β:Type}(xa:zw)(yg:zT)(L:Nat)(af:List (List V))(ag ah ai aj ak al am an ao ap aq z A C D E F G I J M N O P Q R S U W X Y Z aa:Int)(ab ac:List (List V))(b7:List V)(ad:List V→Bool→List (List V)→Int→Option β):Option β:=chk (34=34∧0+34≤(XG b7)) (lt (yh b7 0 [(Qa ah),(Qa ai),(Qa aj),(Qa ak),(Qa al),(Qa am),(Qa an),(Qa ao),(Qa ap),(Qa aq),(Qa z),(Qa A),(Qa C),(Qa D),(Qa E),(Qa F),(Qa G),(Qa I),(Qa J),(Qa M),(Qa N),(Qa O),(Qa P),(Qa Q),(Qa R),(Qa S),(Qa U),(Qa W),(Qa X),(Qa Y),(Qa Z),(Qa aa),(V.sl 5 ab),(V.sl 5 ac)]) fun ae=>chk (0=0∧(XG ae)=34∧34≠0) (ad ae true af ag))
theorem zsj{β:Type}(xa:zw)(yg:zT)(L:Nat)(z:List (List V))(A af ag ah ai aj ak al am an ao C D E F G I J M N O P Q R S U W X Y Z aa ab ac:Int)(ad ae:List (List V))(b7:List V)(k:KK β):(zz 0 (xK (yi zbE (zbF xa yg L) 1 L zjL) (yR 1 (CF.res zds) k))) (.exit 0) (zlv z A af ag ah ai aj ak al am an ao C D E F G I J M N O P Q R S U W X Y Z aa ab ac ad ae b7)=zjl xa yg L z A af ag ah ai aj ak al am an ao C D E F G I J M N O P Q R S U W X Y Z aa ab ac ad ae b7 (fun ap aq z A=>k (V.tup [(V.agg ap),(V.sc (.bool aq))]) [(.live false [(V.sl 1 z),(Qe A)])]):=by kernel_rfl
def zdP{β:Type}(xa:zw)(yg:zT)(L:Nat)(ap:Bool→List (List V)→Int→List V→Option β)(aq:zne β):Nat→Int→Int→List (List V)→Int→Int→Int→Int→Int→Int→Int→Int→Int→Int→Int→Int→Int→Int→Int→Int→Int→Int→Int→Int→Int→Int→Int→Int→Int→Int→Int→Int→Int→Int→Int→Int→Int→List (List V)→List (List V)→List V→Option β
 | 0,_,_,_,_,_,_,_,_,_,_,_,_,_,_,_,_,_,_,_,_,_,_,_,_,_,_,_,_,_,_,_,_,_,_,_,_,_,_,_=>none
 | n+1,p2,p8,ad,ae,af,ag,ah,ai,aj,ak,al,am,an,ao,z,A,C,D,E,F,G,I,J,M,N,O,P,Q,R,S,U,W,X,Y,Z,aa,ab,ac,b7=>zht xa yg L p2 p8 ad ae af ag ah ai aj ak al am an ao z A C D E F G I J M N O P Q R S U W X Y Z aa ab ac b7 ap (fun p2 p8 ad ae af ag ah ai aj ak al am an ao z A C D E F G I J M N O P Q R S U W X Y Z aa ab ac b7=>zdP xa yg L ap aq n p2 p8 ad ae af ag ah ai aj ak al am an ao z A C D E F G I J M N O P Q R S U W X Y Z aa ab ac b7) aq
theorem zn1{β:Type}(xa:zw)(yg:zT)(L:Nat)(K:KT β):∀ (n:Nat) (p2 p8:Int) (z:List (List V)) (A af ag ah ai aj ak al am an ao C D E F G I J M N O P Q R S U W X Y Z aa ab ac:Int) (ad ae:List (List V)) (b7:List V),xz (yi zbE (zbF xa yg L) 1 L zeI) zhf n (zfo p2 p8 z A af ag ah ai aj ak al am an ao C D E F G I J M N O P Q R S U W X Y Z aa ab ac ad ae b7) K=zdP xa yg L (fun p7 z A b7=>K .ret (zkg p7 z A b7)) (fun z A af ag ah ai aj ak al am an ao C D E F G I J M N O P Q R S U W X Y Z aa ab ac ad ae b7=>K (.exit 0) (zlv z A af ag ah ai aj ak al am an ao C D E F G I J M N O P Q R S U W X Y Z aa ab ac ad ae b7)) n p2 p8 z A af ag ah ai aj ak al am an ao C D E F G I J M N O P Q R S U W X Y Z aa ab ac ad ae b7:=by
 intro n
 induction n with
 | zero=>intros; rfl
 | succ n ih=>
  intro p2 p8 z A af ag ah ai aj ak al am an ao C D E F G I J M N O P Q R S U W X Y Z aa ab ac ad ae b7
  refine (ztZ xa yg L p2 p8 z A af ag ah ai aj ak al am an ao C D E F G I J M N O P Q R S U W X Y Z aa ab ac ad ae b7 (fun σ=>xz (yi zbE (zbF xa yg L) 1 L zeI) zhf n σ K) K).trans ?_
  simp only [ih]
  rfl
def zlZ{β:Type}(xa:zw)(yg:zT)(L:Nat)(p1:List V)(p2:Int)(z:List (List V))(A:Int)(ap:List V→Bool→List (List V)→Int→Option β):Option β:=zp1 xa yg L p1 p2 z A (fun p2 p8 z A af ag ah ai aj ak al am an ao C D E F G I J M N O P Q R S U W X Y Z aa ab ac ad ae b7=>zdP xa yg L (fun p7 z A b7=>zmY xa yg L p7 z A b7 ap) (fun z A af ag ah ai aj ak al am an ao C D E F G I J M N O P Q R S U W X Y Z aa ab ac ad ae b7=>zjl xa yg L z A af ag ah ai aj ak al am an ao C D E F G I J M N O P Q R S U W X Y Z aa ab ac ad ae b7 ap) L p2 p8 z A af ag ah ai aj ak al am an ao C D E F G I J M N O P Q R S U W X Y Z aa ab ac ad ae b7)
theorem zxO{β:Type}(xa:zw)(yg:zT)(L:Nat)(C:List V)(D:Int)(z:List (List V))(A:Int)(k:KK β):zp zbE (zbF xa yg L) L zds [(V.ptr 0 0),(V.agg C),(Qc D)] [(.live false [(V.sl 1 z),(Qe A)])] k=zlZ xa yg L C D z A (fun E F z A=>k (V.tup [(V.agg E),(V.sc (.bool F))]) [(.live false [(V.sl 1 z),(Qe A)])]):=by
 refine (zxZ xa yg L C D z A k).trans ?_
 unfold zlZ
 first
  | (simp only [zn1,zrO,zsj]; done)
  | (simp only [zn1]; rfl)
abbrev zF:=∀ (β:Type),Nat→List V→Int→List (List V)→Int→(List V→Bool→List (List V)→Int→Option β)→Option β
def yd(β:Type)(L:Nat)(D:List V)(E:Int)(A:List (List V))(C:Int)(z:List V→Bool→List (List V)→Int→Option β):Option β:=zlZ xa yg L D E A C z
def zlN(yd:zF)(L:Nat)(β:Type)(args:List V)(bor:Bor)(k:KK β):Option β:=match args,bor with
 | [a0,a1,a2],[(.live false [w0_0,w0_1])]=>aP 0 0 a0 (aG a1 fun E=>aI .u32 a2 fun F=>aL 1 w0_0 fun z=>aI .i64 w0_1 fun A=>yd β L E F z A (fun C D z A=>k (V.tup [(V.agg C),(V.sc (.bool D))]) [(.live false [(V.sl 1 z),(Qe A)])]))
 | _,_=>none
theorem zxE(L:Nat)(β:Type)(args:List V)(bor:Bor)(k:KK β)(r:β)(h:zlN yd L β args bor k=some r):zp zbE (zbF xa yg L) L zds args bor k=some r:=by
 unfold zlN at h
 split at h
 ·have q:=znz h; clear h; obtain ⟨rfl,h⟩:=q
  have q:=yW h; clear h; obtain ⟨C,rfl,h⟩:=q
  have q:=yB h; clear h; obtain ⟨D,rfl,h⟩:=q
  have q:=zaT h; clear h; obtain ⟨z,rfl,h⟩:=q
  have q:=yB h; clear h; obtain ⟨A,rfl,h⟩:=q
  exact (zxO xa yg L C D z A k).trans h
 ·cases h
def zc5:CC:=(.seq (.reg [Qp 12 .lss (tq 11) (tq 10)]) (.seq (.cond (tq 12) .skip (.seq (.mask (bl 32 23) (bl 8388475 23)) (.exit 0))) (.seq (.block 1 (.seq (.reg [Qo 13 5 (tq 9) (tq 11),Qk 14 5 (tq 13),oo 7 (.alloc true [(.sc (.int .i64 0)),(.sc (.int .u32 0)),(.sc (.int .u16 0)),(.sc (.int .u32 0)),(.sc (.int .u32 0))]),Qm 5 (tq 7) (tq 14)]) (.seq (.reg [Ql 15 4 (tq 7),Qj 16 1 (tq 15),Qh 17 (tq 1),Qp 18 .eql (tq 16) (tq 17)]) (.cond (tq 18) (.reg [Qh 19 (tq 5),Qp 20 .add (tq 19) (Qf 1),Qh 5 (tq 20)]) .skip)))) (.reg [Qp 21 .add (tq 11) (Qf 1),Qh 11 (tq 21)]))))
def zjd:CC:=(.seq (.reg [Qh 22 (tq 5),Qh 4 (tq 22)]) .ret)
def zcW:CF:=⟨23,[.tmp 4],(.seq (.reg [Qv 2 (tq 0),Qh 4 (Qf 0)]) (.seq (.reg [Qh 5 (Qf 0)]) (.seq (.seq (.reg [Ql 8 32 (tq 2),Qj 9 1 (tq 8),Qr 10 (tq 9),Qh 11 (Qf 0)]) (.block 0 (.loop (bl 3618 23) (bl 8388475 23) zc5))) zjd)))⟩
def zom:Hint:=⟨[(0,0)],[],[none,some ((bl 3618 23),(bl 8388475 23)),none,some ((bl 32 23),(bl 8388475 23)),none,none,none],[],[],false,false,[]⟩
def za0:Nat→Sh:=xW [(9,(.sl 5)),(16,(.int .u32))]
def zaZ(L:Nat):CBC:=noC
def zeW:St→St:=zaH 0 (bl 3618 23) (bl 8388475 23)
def zdN(C D:Int)(E:List (List V))(z A:Int):St:=⟨(jn 1 ((Qc C)::(jn 3 ((Qe D)::(jn 3 ((V.sl 5 E)::((Qe z)::((Qe A)::(jn 11 []))))))))),(gn 23 [])⟩
def zia(z:Int):St:=⟨(jn 5 ((Qe z)::(jn 17 []))),(gn 23 [])⟩
def zmg{β:Type}(L:Nat)(C:List V)(D:Int)(z:Int→Int→List (List V)→Int→Int→Option β):Option β:=cLd 5 C 32 fun A=>z D (0:Int) A ((XG A:Nat):Int) (0:Int)
theorem zu2{β:Type}(L:Nat)(A:List V)(z:Int)(k:KK β):zp za0 (zaZ L) L zcW [(V.agg A),(Qc z)] [] k=zmg L A z (fun z E F C D=>xz (yi za0 (zaZ L) 0 L zc5) zeW L (zdN z E F C D) (zz 0 (xK (yi za0 (zaZ L) 0 L zjd) (yR 0 (CF.res zcW) k)))):=by kernel_rfl
def zhD{β:Type}(L:Nat)(D E:Int)(F:List (List V))(C A:Int)(z:Int→Int→List (List V)→Int→Int→Option β)(G:Int→Option β):Option β:=ifb (decide (A<C)) (idx F A fun c1=>chk ((XG (XI 5 c1))=5∧0+5≤5) (lt (yh [(Qe (0:Int)),(Qc (0:Int)),(Qb (0:Int)),(Qc (0:Int)),(Qc (0:Int))] 0 (XI 5 c1)) fun r2=>cI .u32 r2 4 fun I=>ifb ((I:Int)==D) (lt (QF .i64 ((E:Int)+(1:Int))) fun J=>lt (QF .i64 ((A:Int)+(1:Int))) fun M=>z D J F C M) (lt (QF .i64 ((A:Int)+(1:Int))) fun N=>z D E F C N))) (G E)
theorem zrD{β:Type}(L:Nat)(D C:Int)(E:List (List V))(z A:Int)(X:St→Option β)(K:KT β):yi za0 (zaZ L) 0 L zc5 (zdN D C E z A) (zbo zeW X K)=zhD L D C E z A (fun D C E z A=>X (zdN D C E z A)) (fun C=>K (.exit 0) (zia C)):=by kernel_rfl
def zgj{β:Type}(L:Nat)(A:Int)(z:Int→Option β):Option β:=z A
theorem zpJ{β:Type}(L:Nat)(z:Int)(k:KK β):(zz 0 (xK (yi za0 (zaZ L) 0 L zjd) (yR 0 (CF.res zcW) k))) (.exit 0) (zia z)=zgj L z (fun A=>k (Qe A) []):=by kernel_rfl
def zdr{β:Type}(L:Nat)(z:Int→Option β):Nat→Int→Int→List (List V)→Int→Int→Option β
 | 0,_,_,_,_,_=>none
 | n+1,D,E,F,A,C=>zhD L D E F A C (fun D E F A C=>zdr L z n D E F A C) z
theorem zkb{β:Type}(L:Nat)(K:KT β):∀ (n:Nat) (D C:Int) (E:List (List V)) (z A:Int),xz (yi za0 (zaZ L) 0 L zc5) zeW n (zdN D C E z A) K=zdr L (fun C=>K (.exit 0) (zia C)) n D C E z A:=by
 intro n
 induction n with
 | zero=>intros; rfl
 | succ n ih=>
  intro D C E z A
  refine (zrD L D C E z A (fun σ=>xz (yi za0 (zaZ L) 0 L zc5) zeW n σ K) K).trans ?_
  simp only [ih]
  rfl
def zik{β:Type}(L:Nat)(F:List V)(A:Int)(z:Int→Option β):Option β:=zmg L F A (fun A C G D E=>zdr L (fun C=>zgj L C z) L A C G D E)
theorem zve{β:Type}(L:Nat)(z:List V)(A:Int)(k:KK β):zp za0 (zaZ L) L zcW [(V.agg z),(Qc A)] [] k=zik L z A (fun z=>k (Qe z) []):=by
 refine (zu2 L z A k).trans ?_
 unfold zik
 first
  | (simp only [zkb,zpJ]; done)
  | (simp only [zkb]; rfl)
abbrev zx:=∀ (β:Type),Nat→List V→Int→(Int→Option β)→Option β
def zc(β:Type)(L:Nat)(A:List V)(C:Int)(z:Int→Option β):Option β:=zik L A C z
def ziF(zc:zx)(L:Nat)(β:Type)(args:List V)(bor:Bor)(k:KK β):Option β:=match args,bor with
 | [a0,a1],[]=>aG a0 fun z=>aI .u32 a1 fun A=>zc β L z A (fun z=>k (Qe z) [])
 | _,_=>none
theorem zvc(L:Nat)(β:Type)(args:List V)(bor:Bor)(k:KK β)(r:β)(h:ziF zc L β args bor k=some r):zp za0 (zaZ L) L zcW args bor k=some r:=by
 unfold ziF at h
 split at h
 ·have q:=yW h; clear h; obtain ⟨z,rfl,h⟩:=q
  have q:=yB h; clear h; obtain ⟨A,rfl,h⟩:=q
  exact (zve L z A k).trans h
 ·cases h
def zcr:CC:=(.seq (.seq (.reg [Qh 11 (tq 5),Qh 12 (tq 0),Qr 13 (tq 12),Qp 14 .lss (tq 11) (tq 13)]) (.cond (tq 14) .skip (.seq (.mask (bl 0 26) (bl 67100623 26)) (.exit 0)))) (.seq (.block 1 (.seq (.dreg [] [(Qh 17 (tq 0),q0),(Qh 18 (tq 5),q0),(Qo 19 5 (tq 17) (tq 18),q0),(Qk 20 5 (tq 19),qc [] []),(Qh 21 (tq 1),q0),(Qh 22 (tq 5),q0),(Qo 23 5 (tq 21) (tq 22),q0),(Qk 24 5 (tq 23),qc [] []),(oo 25 (.eqAgg true 5 (tq 20) (tq 24)),q0)]) (.cond (tq 25) (.seq (.reg [Qh 4 (Qg false)]) (.seq (.mask (bl 16 26) (bl 67100639 26)) .ret)) .skip))) (.reg [Qh 15 (tq 5),Qp 16 .add (tq 15) (Qf 1),Qh 5 (tq 16)])))
def zeR:CC:=(.seq (.reg [Qh 4 (Qg true)]) .ret)
def zbw:CF:=⟨26,[.tmp 4],(.seq (.reg [Qh 4 (Qg false)]) (.seq (.seq (.reg [Qh 6 (tq 0),Qr 7 (tq 6),Qh 8 (tq 1),Qr 9 (tq 8),Qp 10 .neq (tq 7) (tq 9)]) (.cond (tq 10) (.seq (.reg [Qh 4 (Qg false)]) .ret) .skip)) (.seq (.seq (.reg [Qh 5 (Qf 0)]) (.block 0 (.loop (bl 35 26) (bl 67100655 26) zcr))) zeR)))⟩
def zmD:Hint:=⟨[],[],[none,none,none,some ((bl 35 26),(bl 67100655 26)),none,some ((bl 0 26),(bl 67100623 26)),none,none,some ((bl 16 26),(bl 67100639 26)),none],[],[],false,false,[]⟩
def zaf:Nat→Sh:=xW []
def zag(L:Nat):CBC:=noC
def zdW:St→St:=zaH 0 (bl 35 26) (bl 67100655 26)
def zdh(z A:List (List V))(C:Int):St:=⟨((V.sl 5 z)::((V.sl 5 A)::(jn 3 ((Qe C)::(jn 20 []))))),(gn 26 [])⟩
def zga(z:Bool):St:=⟨(jn 4 ((V.sc (.bool z))::(jn 21 []))),(gn 26 [])⟩
def zg2:St:=⟨(jn 26 []),(gn 26 [])⟩
def zkG{β:Type}(L:Nat)(C D:List (List V))(A:Bool→Option β)(z:List (List V)→List (List V)→Int→Option β):Option β:=ifb ((((XG C:Nat):Int):Int) != ((XG D:Nat):Int)) (A false) (z C D (0:Int))
theorem zsX{β:Type}(L:Nat)(z A:List (List V))(k:KK β):zp zaf (zag L) L zbw [(V.sl 5 z),(V.sl 5 A)] [] k=zkG L z A (fun z=>k (V.sc (.bool z)) []) (fun z A C=>xz (yi zaf (zag L) 0 L zcr) zdW L (zdh z A C) (zz 0 (xK (yi zaf (zag L) 0 L zeR) (yR 0 (CF.res zbw) k)))):=by kernel_rfl
def zgn{β:Type}(L:Nat)(D F:List (List V))(A:Int)(C:Bool→Option β)(z:List (List V)→List (List V)→Int→Option β)(E:Option β):Option β:=ifb (decide (A<((XG D:Nat):Int))) (idx D A fun c0=>idx F A fun c1=>eqC 5 (XI 5 c0) (XI 5 c1) fun G=>ifb (!G) (C false) (lt (QF .i64 ((A:Int)+(1:Int))) fun I=>z D F I)) (E)
theorem zpI{β:Type}(L:Nat)(z A:List (List V))(C:Int)(X:St→Option β)(K:KT β):yi zaf (zag L) 0 L zcr (zdh z A C) (zbo zdW X K)=zgn L z A C (fun D=>K .ret (zga D)) (fun z A C=>X (zdh z A C)) (K (.exit 0) (zg2)):=by kernel_rfl
def ziZ{β:Type}(L:Nat)(A:Bool)(z:Bool→Option β):Option β:=z A
theorem zn4{β:Type}(L:Nat)(z:Bool)(k:KK β):(zz 0 (xK (yi zaf (zag L) 0 L zeR) (yR 0 (CF.res zbw) k))) .ret (zga z)=ziZ L z (fun A=>k (V.sc (.bool A)) []):=by kernel_rfl
def zjt{β:Type}(L:Nat)(z:Bool→Option β):Option β:=z true
theorem zop{β:Type}(L:Nat)(k:KK β):(zz 0 (xK (yi zaf (zag L) 0 L zeR) (yR 0 (CF.res zbw) k))) (.exit 0) (zg2)=zjt L (fun z=>k (V.sc (.bool z)) []):=by kernel_rfl
def zcN{β:Type}(L:Nat)(z:Bool→Option β)(A:Option β):Nat→List (List V)→List (List V)→Int→Option β
 | 0,_,_,_=>none
 | n+1,C,D,E=>zgn L C D E z (fun C D E=>zcN L z A n C D E) A
theorem ziN{β:Type}(L:Nat)(K:KT β):∀ (n:Nat) (z A:List (List V)) (C:Int),xz (yi zaf (zag L) 0 L zcr) zdW n (zdh z A C) K=zcN L (fun D=>K .ret (zga D)) (K (.exit 0) (zg2)) n z A C:=by
 intro n
 induction n with
 | zero=>intros; rfl
 | succ n ih=>
  intro z A C
  refine (zpI L z A C (fun σ=>xz (yi zaf (zag L) 0 L zcr) zdW n σ K) K).trans ?_
  simp only [ih]
  rfl
def zgI{β:Type}(L:Nat)(A C:List (List V))(z:Bool→Option β):Option β:=zkG L A C z (fun A C D=>zcN L (fun E=>ziZ L E z) (zjt L z) L A C D)
theorem zsV{β:Type}(L:Nat)(z A:List (List V))(k:KK β):zp zaf (zag L) L zbw [(V.sl 5 z),(V.sl 5 A)] [] k=zgI L z A (fun z=>k (V.sc (.bool z)) []):=by
 refine (zsX L z A k).trans ?_
 unfold zgI
 first
  | (simp only [ziN,zn4,zop]; done)
  | (simp only [ziN]; rfl)
abbrev zu:=∀ (β:Type),Nat→List (List V)→List (List V)→(Bool→Option β)→Option β
def za(β:Type)(L:Nat)(A C:List (List V))(z:Bool→Option β):Option β:=zgI L A C z
def zgw(za:zu)(L:Nat)(β:Type)(args:List V)(bor:Bor)(k:KK β):Option β:=match args,bor with
 | [a0,a1],[]=>aL 5 a0 fun z=>aL 5 a1 fun A=>za β L z A (fun z=>k (V.sc (.bool z)) [])
 | _,_=>none
theorem zs4(L:Nat)(β:Type)(args:List V)(bor:Bor)(k:KK β)(r:β)(h:zgw za L β args bor k=some r):zp zaf (zag L) L zbw args bor k=some r:=by
 unfold zgw at h
 split at h
 ·have q:=zaT h; clear h; obtain ⟨z,rfl,h⟩:=q
  have q:=zaT h; clear h; obtain ⟨A,rfl,h⟩:=q
  exact (zsV L z A k).trans h
 ·cases h
def zfJ:CC:=(.seq (.reg [Qp 10 .lss (tq 9) (tq 8)]) (.seq (.cond (tq 10) .skip (.seq (.mask (bl 0 17) (bl 130991 17)) (.exit 0))) (.seq (.block 1 (.seq (.reg [Qo 11 1 (tq 7) (tq 9),Qj 12 1 (tq 11),Qh 6 (tq 12)]) (.seq (.reg [Qh 13 (tq 6),Qh 14 (tq 1),Qp 15 .eql (tq 13) (tq 14)]) (.cond (tq 15) (.seq (.reg [Qh 4 (Qg true)]) (.seq (.mask (bl 16 17) (bl 131007 17)) .ret)) .skip)))) (.reg [Qp 16 .add (tq 9) (Qf 1),Qh 9 (tq 16)]))))
def zl0:CC:=(.seq (.reg [Qh 4 (Qg false)]) .ret)
def zeJ:CF:=⟨17,[.tmp 4],(.seq (.reg [Qh 4 (Qg false)]) (.seq (.seq (.reg [Qh 7 (tq 0),Qr 8 (tq 7),Qh 9 (Qf 0)]) (.block 0 (.loop (bl 898 17) (bl 130991 17) zfJ))) zl0))⟩
def ztl:Hint:=⟨[],[],[none,some ((bl 898 17),(bl 130991 17)),none,some ((bl 0 17),(bl 130991 17)),none,none,some ((bl 16 17),(bl 131007 17)),none],[],[],false,false,[]⟩
def zcf:Nat→Sh:=xW [(12,(.int .i64))]
def zcd(L:Nat):CBC:=noC
def zjr:St→St:=zaH 0 (bl 898 17) (bl 130991 17)
def zgE(z:Int)(A:List (List V))(C D:Int):St:=⟨(jn 1 ((Qe z)::(jn 5 ((V.sl 1 A)::((Qe C)::((Qe D)::(jn 7 []))))))),(gn 17 [])⟩
def zl6(z:Bool):St:=⟨(jn 4 ((V.sc (.bool z))::(jn 12 []))),(gn 17 [])⟩
def znK:St:=⟨(jn 17 []),(gn 17 [])⟩
def zsv{β:Type}(L:Nat)(A:List (List V))(C:Int)(z:Int→List (List V)→Int→Int→Option β):Option β:=z C A ((XG A:Nat):Int) (0:Int)
theorem zAl{β:Type}(L:Nat)(A:List (List V))(z:Int)(k:KK β):zp zcf (zcd L) L zeJ [(V.sl 1 A),(Qe z)] [] k=zsv L A z (fun z C D E=>xz (yi zcf (zcd L) 0 L zfJ) zjr L (zgE z C D E) (zz 0 (xK (yi zcf (zcd L) 0 L zl0) (yR 0 (CF.res zeJ) k)))):=by kernel_rfl
def znL{β:Type}(L:Nat)(E:Int)(F:List (List V))(G C:Int)(A:Bool→Option β)(z:Int→List (List V)→Int→Int→Option β)(D:Option β):Option β:=ifb (decide (C<G)) (idx F C fun c0=>cI .i64 c0 0 fun I=>ifb ((I:Int)==E) (A true) (lt (QF .i64 ((C:Int)+(1:Int))) fun J=>z E F G J)) (D)
theorem zwq{β:Type}(L:Nat)(z:Int)(A:List (List V))(C D:Int)(X:St→Option β)(K:KT β):yi zcf (zcd L) 0 L zfJ (zgE z A C D) (zbo zjr X K)=znL L z A C D (fun E=>K .ret (zl6 E)) (fun z A C D=>X (zgE z A C D)) (K (.exit 0) (znK)):=by kernel_rfl
def zpt{β:Type}(L:Nat)(A:Bool)(z:Bool→Option β):Option β:=z A
theorem ztd{β:Type}(L:Nat)(z:Bool)(k:KK β):(zz 0 (xK (yi zcf (zcd L) 0 L zl0) (yR 0 (CF.res zeJ) k))) .ret (zl6 z)=zpt L z (fun A=>k (V.sc (.bool A)) []):=by kernel_rfl
def zp7{β:Type}(L:Nat)(z:Bool→Option β):Option β:=z false
theorem zug{β:Type}(L:Nat)(k:KK β):(zz 0 (xK (yi zcf (zcd L) 0 L zl0) (yR 0 (CF.res zeJ) k))) (.exit 0) (znK)=zp7 L (fun z=>k (V.sc (.bool z)) []):=by kernel_rfl
def zgA{β:Type}(L:Nat)(z:Bool→Option β)(A:Option β):Nat→Int→List (List V)→Int→Int→Option β
 | 0,_,_,_,_=>none
 | n+1,C,D,E,F=>znL L C D E F z (fun C D E F=>zgA L z A n C D E F) A
theorem zpx{β:Type}(L:Nat)(K:KT β):∀ (n:Nat) (z:Int) (A:List (List V)) (C D:Int),xz (yi zcf (zcd L) 0 L zfJ) zjr n (zgE z A C D) K=zgA L (fun E=>K .ret (zl6 E)) (K (.exit 0) (znK)) n z A C D:=by
 intro n
 induction n with
 | zero=>intros; rfl
 | succ n ih=>
  intro z A C D
  refine (zwq L z A C D (fun σ=>xz (yi zcf (zcd L) 0 L zfJ) zjr n σ K) K).trans ?_
  simp only [ih]
  rfl
def zo8{β:Type}(L:Nat)(C:List (List V))(A:Int)(z:Bool→Option β):Option β:=zsv L C A (fun A D E F=>zgA L (fun G=>zpt L G z) (zp7 L z) L A D E F)
theorem zzS{β:Type}(L:Nat)(z:List (List V))(A:Int)(k:KK β):zp zcf (zcd L) L zeJ [(V.sl 1 z),(Qe A)] [] k=zo8 L z A (fun z=>k (V.sc (.bool z)) []):=by
 refine (zAl L z A k).trans ?_
 unfold zo8
 first
  | (simp only [zpx,ztd,zug]; done)
  | (simp only [zpx]; rfl)
abbrev xL:=∀ (β:Type),Nat→List (List V)→Int→(Bool→Option β)→Option β
def xe(β:Type)(L:Nat)(A:List (List V))(C:Int)(z:Bool→Option β):Option β:=zo8 L A C z
def zo9(xe:xL)(L:Nat)(β:Type)(args:List V)(bor:Bor)(k:KK β):Option β:=match args,bor with
 | [a0,a1],[]=>aL 1 a0 fun z=>aI .i64 a1 fun A=>xe β L z A (fun z=>k (V.sc (.bool z)) [])
 | _,_=>none
theorem zzY(L:Nat)(β:Type)(args:List V)(bor:Bor)(k:KK β)(r:β)(h:zo9 xe L β args bor k=some r):zp zcf (zcd L) L zeJ args bor k=some r:=by
 unfold zo9 at h
 split at h
 ·have q:=zaT h; clear h; obtain ⟨z,rfl,h⟩:=q
  have q:=yB h; clear h; obtain ⟨A,rfl,h⟩:=q
  exact (zzS L z A k).trans h
 ·cases h
end
end Go.Proofs.Ytbimgceighecgaa
