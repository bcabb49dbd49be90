/- Part 12 of the proof of AddrbookMoves: an abstract machine over plain values, its soundness, and the functions of the program on plain values. -/
import Derived.Test.YtbimgceighecgaaMAddrbookMoves11
namespace Go.Proofs.Ytbimgceighecgaa
set_option linter.unusedVariables false
set_option linter.unusedSimpArgs false
open List renaming length->XI,take->XK,drop->XL,replicate->We,map->Xt,flatten->XM
open Int renaming toNat->XJ
open IntKind renaming wrap->QF
section
set_option maxRecDepth 100000
def zkz:CF:=⟨14,[.cellS 2 34 false],(.seq (.reg [oo 1 (.box false (tq 0)),oo 2 (.alloc false (rp 32 (.sc (.int .u8 0)) (rp 2 (.gs 5 []) [])))]) (.seq (.dreg [] [(Ql 3 0 (tq 1),q0),(Qk 4 32 (tq 3),ql 1 [] [5,8,9,12]),(⟨(some 5),true,none,.buildSlice 5 0 [(.sc (.int .i64 0)),(.sc (.int .u32 0)),(.sc (.int .u16 0)),(.sc (.int .u32 0)),(.sc (.int .u32 0))] []⟩,qn [1] [9]),(Ql 6 32 (tq 1),q0),(Qj 7 1 (tq 6),ql 1 [] [5,9]),(⟨(some 8),true,none,.append 5 24 (tq 5) (tq 7)⟩,qn [1] [9]),(⟨(some 9),true,none,.buildSlice 5 0 [(.sc (.int .i64 0)),(.sc (.int .u32 0)),(.sc (.int .u16 0)),(.sc (.int .u32 0)),(.sc (.int .u32 0))] []⟩,qn [1] [5,8]),(Ql 10 33 (tq 1),q0),(Qj 11 1 (tq 10),ql 1 [] [5,8,9]),(⟨(some 12),true,none,.append 5 24 (tq 9) (tq 11)⟩,qn [1] []),(oo 13 (.buildSt (rp 32 (.sc (.int .u8 0)) (rp 2 (.gs 5 []) [])) [(0,32,(tq 4)),(32,1,(tq 8)),(33,1,(tq 12))]),q0),(Qm 34 (tq 2) (tq 13),q0)]) .ret))⟩
def zrv:Hint:=⟨[(1,10)],[(1,2),(1,5),(1,6),(1,9)],[none],[],[],false,true,[]⟩
def zod:Nat→Sh:=yT [(1,(.row [(.int .u8),(.int .u8),(.int .u8),(.int .u8),(.int .u8),(.int .u8),(.int .u8),(.int .u8),(.int .u8),(.int .u8),(.int .u8),(.int .u8),(.int .u8),(.int .u8),(.int .u8),(.int .u8),(.int .u8),(.int .u8),(.int .u8),(.int .u8),(.int .u8),(.int .u8),(.int .u8),(.int .u8),(.int .u8),(.int .u8),(.int .u8),(.int .u8),(.int .u8),(.int .u8),(.int .u8),(.int .u8),(.sl 5),(.sl 5)]))]
def zoa(L:Nat):CBC:=noC
abbrev zmu(β:Type):Type:=Int→Int→Int→Int→Int→Int→Int→Int→Int→Int→Int→Int→Int→Int→Int→Int→Int→Int→Int→Int→Int→Int→Int→Int→Int→Int→Int→Int→Int→Int→Int→Int→Nat→Nat→List V→List V→Option β
def zp5{β:Type}(L:Nat)(z:List V)(D:zmu β):Option β:=chk (XI z=34) (cI .u8 z 0 fun v0=>cI .u8 z 1 fun v1=>cI .u8 z 2 fun v2=>cI .u8 z 3 fun v3=>cI .u8 z 4 fun v4=>cI .u8 z 5 fun v5=>cI .u8 z 6 fun v6=>cI .u8 z 7 fun v7=>cI .u8 z 8 fun v8=>cI .u8 z 9 fun v9=>cI .u8 z 10 fun E=>cI .u8 z 11 fun F=>cI .u8 z 12 fun G=>cI .u8 z 13 fun I=>cI .u8 z 14 fun J=>cI .u8 z 15 fun M=>cI .u8 z 16 fun N=>cI .u8 z 17 fun O=>cI .u8 z 18 fun P=>cI .u8 z 19 fun Q=>cI .u8 z 20 fun R=>cI .u8 z 21 fun S=>cI .u8 z 22 fun U=>cI .u8 z 23 fun W=>cI .u8 z 24 fun X=>cI .u8 z 25 fun Y=>cI .u8 z 26 fun Z=>cI .u8 z 27 fun aa=>cI .u8 z 28 fun ab=>cI .u8 z 29 fun ac=>cI .u8 z 30 fun ad=>cI .u8 z 31 fun ae=>cL 5 z 32 fun A=>cL 5 z 33 fun C=>chk ((0+XI A)*24≤yr∧0+XI A≤yr) (chk ((0+XI C)*24≤yr∧0+XI C≤yr) (D v0 v1 v2 v3 v4 v5 v6 v7 v8 v9 E F G I J M N O P Q R S U W X Y Z aa ab ac ad ae (XI A) (XI C) (XM A) (XM C))))
theorem zyD{β:Type}(L:Nat)(p0:List V)(k:KK β):yl zod (zoa L) L zkz [(V.agg p0)] [] k=zp5 L p0 (fun ad ae af ag ah ai aj ak al am C D E F G I J M N O P Q R S U W X Y Z aa ab ac z A b0 b1=>k (V.st [(Qa ad),(Qa ae),(Qa af),(Qa ag),(Qa ah),(Qa ai),(Qa aj),(Qa ak),(Qa al),(Qa am),(Qa C),(Qa D),(Qa E),(Qa F),(Qa G),(Qa I),(Qa J),(Qa M),(Qa N),(Qa O),(Qa P),(Qa Q),(Qa R),(Qa S),(Qa U),(Qa W),(Qa X),(Qa Y),(Qa Z),(Qa aa),(Qa ab),(Qa ac),(V.own 0 0 z 5),(V.own 1 0 A 5)]) [(.live true b0),(.live true b1)]):=by kernel_rfl
abbrev zU:=∀ (β:Type),Nat→List V→(Int→Int→Int→Int→Int→Int→Int→Int→Int→Int→Int→Int→Int→Int→Int→Int→Int→Int→Int→Int→Int→Int→Int→Int→Int→Int→Int→Int→Int→Int→Int→Int→Nat→Nat→List V→List V→Option β)→Option β
def xe(β:Type)(L:Nat)(A:List V)(z:zmu β):Option β:=zp5 L A z
def zeW(xe:zU)(L:Nat)(β:Type)(args:List V)(bor:Bor)(k:KK β):Option β:=match args,bor with
 | [a0],[]=>aG a0 fun p0=>xe β L p0 (fun ad ae af ag ah ai aj ak al am C D E F G I J M N O P Q R S U W X Y Z aa ab ac z A b0 b1=>k (V.st [(Qa ad),(Qa ae),(Qa af),(Qa ag),(Qa ah),(Qa ai),(Qa aj),(Qa ak),(Qa al),(Qa am),(Qa C),(Qa D),(Qa E),(Qa F),(Qa G),(Qa I),(Qa J),(Qa M),(Qa N),(Qa O),(Qa P),(Qa Q),(Qa R),(Qa S),(Qa U),(Qa W),(Qa X),(Qa Y),(Qa Z),(Qa aa),(Qa ab),(Qa ac),(V.own 0 0 z 5),(V.own 1 0 A 5)]) [(.live true b0),(.live true b1)])
 | _,_=>none
theorem zyN(L:Nat)(β:Type)(args:List V)(bor:Bor)(k:KK β)(r:β)(h:zeW xe L β args bor k=some r):yl zod (zoa L) L zkz args bor k=some r:=by
 unfold zeW at h
 split at h
 ·have q:=xM h; clear h; obtain ⟨z,rfl,h⟩:=q
  exact (zyD L z k).trans h
 ·cases h
def zku:CF:=⟨15,[.tmp 4],(.seq (.reg [Qi 4 (.const (.gs 5 []))]) (.seq (.dreg [] [(oo 5 (.buildSlice 5 0 [(.sc (.int .i64 0)),(.sc (.int .u32 0)),(.sc (.int .u16 0)),(.sc (.int .u32 0)),(.sc (.int .u32 0))] []),q0),(Qh 6 (tq 0),q0),(Qh 7 (tq 1),q0),(oo 8 (.sliceS 5 (tq 6) none (some (tq 7)) none),q0),(oo 9 (.append 5 24 (tq 5) (tq 8)),q0),(Qh 10 (tq 0),q0),(Qh 11 (tq 1),q0),(Qp 12 .add (tq 11) (Qf 1),q0),(oo 13 (.sliceS 5 (tq 10) (some (tq 12)) none none),q0),(oo 14 (.append 5 24 (tq 9) (tq 13)),q0),(Qi 4 (tq 14),q0)]) .ret))⟩
def zrr:Hint:=⟨[(0,0),(1,10)],[],[none],[],[],false,false,[]⟩
def zoC:Nat→Sh:=yT []
def zoH(L:Nat):CBC:=noC
def zpM{β:Type}(L:Nat)(z:Nat)(D:Int)(C:List V)(E:List (List V)→List V→Option β):Option β:=chk (0≤D∧D≤((z:Nat):Int)) (chk ((XI ([]:List (List V))+XI (ye 5 ((XJ D)-0) C))*24≤yr∧XI ([]:List (List V))+XI (ye 5 ((XJ D)-0) C)≤yr) (lt (([]:List (List V))++(ye 5 ((XJ D)-0) C)) fun F=>lt (QF .i64 ((D:Int)+(1:Int))) fun A=>chk (0≤A∧A≤((z:Nat):Int)) (chk ((XI F+XI (ye 5 (z-(XJ A)) (XL (0+((XJ A)*5)) C)))*24≤yr∧XI F+XI (ye 5 (z-(XJ A)) (XL (0+((XJ A)*5)) C))≤yr) (lt (F++(ye 5 (z-(XJ A)) (XL (0+((XJ A)*5)) C))) fun G=>E G C))))
theorem zyV{β:Type}(L:Nat)(A:Nat)(C:Int)(z:List V)(k:KK β):yl zoC (zoH L) L zku [(V.own 0 0 A 5),(Qe C)] [(.live true z)] k=zpM L A C z (fun D z=>k (V.gs 5 D) [(.live true z)]):=by kernel_rfl
abbrev y9:=∀ (β:Type),Nat→Nat→Int→List V→(List (List V)→List V→Option β)→Option β
def yg(β:Type)(L:Nat)(A:Nat)(C:Int)(D:List V)(z:List (List V)→List V→Option β):Option β:=zpM L A C D z
def zgg(yg:y9)(L:Nat)(β:Type)(args:List V)(bor:Bor)(k:KK β):Option β:=match args,bor with
 | [a0,a1],[(.live true z)]=>aO0 0 5 a0 fun A=>aI .i64 a1 fun C=>yg β L A C z (fun D z=>k (V.gs 5 D) [(.live true z)])
 | _,_=>none
theorem zyR(L:Nat)(β:Type)(args:List V)(bor:Bor)(k:KK β)(r:β)(h:zgg yg L β args bor k=some r):yl zoC (zoH L) L zku args bor k=some r:=by
 unfold zgg at h
 split at h
 ·have q:=zhd h; clear h; obtain ⟨z,rfl,h⟩:=q
  have q:=yo h; clear h; obtain ⟨A,rfl,h⟩:=q
  exact (zyV L z A _ k).trans h
 ·cases h
def zdV:CC:=(.seq (.seq (.reg [Qh 24 (tq 7),Qh 25 (tq 0),Qr 26 (tq 25),Qp 27 .lss (tq 24) (tq 26),Qh 28 (tq 27),⟨(some 29),false,(some (28,true)),.move (tq 0) false⟩,⟨(some 30),false,(some (28,true)),.move (tq 7) false⟩,⟨(some 31),false,(some (28,true)),.indexAddrS 5 (tq 29) (tq 30)⟩,⟨(some 32),false,(some (28,true)),.fieldAddr 0 (tq 31)⟩,⟨(some 33),false,(some (28,true)),.load false 1 (tq 32) false⟩,⟨(some 34),false,(some (28,true)),.move (tq 1) false⟩,⟨(some 35),false,(some (28,true)),.bin .eql (tq 33) (tq 34)⟩,oo 36 (.pick (tq 28) (tq 35) (Qg false))]) (.cond (tq 36) .skip (.seq (.mask (bl 192 41) (bl 2198956146687 41)) (.exit 2)))) (.block 3 (.reg [Qh 37 (tq 7),Qp 38 .add (tq 37) (Qf 1),Qh 7 (tq 38)])))
def zj5:CC:=(.seq (.reg [Qh 39 (tq 6),Qh 40 (tq 7),Qh 4 (tq 39),Qh 5 (tq 40)]) .ret)
def zeC:CC:=(.seq (.seq (.reg [Qh 8 (tq 6),Qh 9 (tq 0),Qr 10 (tq 9),Qp 11 .lss (tq 8) (tq 10),Qh 12 (tq 11),⟨(some 13),false,(some (12,true)),.move (tq 0) false⟩,⟨(some 14),false,(some (12,true)),.move (tq 6) false⟩,⟨(some 15),false,(some (12,true)),.indexAddrS 5 (tq 13) (tq 14)⟩,⟨(some 16),false,(some (12,true)),.fieldAddr 0 (tq 15)⟩,⟨(some 17),false,(some (12,true)),.load false 1 (tq 16) false⟩,⟨(some 18),false,(some (12,true)),.move (tq 1) false⟩,⟨(some 19),false,(some (12,true)),.bin .lss (tq 17) (tq 18)⟩,oo 20 (.pick (tq 12) (tq 19) (Qg false))]) (.cond (tq 20) .skip (.seq (.mask (bl 67 41) (bl 2199023254527 41)) (.exit 0)))) (.block 1 (.reg [Qh 21 (tq 6),Qp 22 .add (tq 21) (Qf 1),Qh 6 (tq 22)])))
def zii:CC:=(.seq (.reg [Qh 23 (tq 6),Qh 7 (tq 23)]) (.seq (.block 2 (.loop (bl 195 41) (bl 2198956146687 41) zdV)) zj5))
def zbE:CF:=⟨41,[.tmp 4,.tmp 5],(.seq (.reg [Qh 4 (Qf 0),Qh 5 (Qf 0)]) (.seq (.reg [Qh 6 (Qf 0)]) (.seq (.block 0 (.loop (bl 67 41) (bl 2199023254527 41) zeC)) zii)))⟩
def zrx:Hint:=⟨[],[],[none,some ((bl 67 41),(bl 2199023254527 41)),none,some ((bl 67 41),(bl 2199023254527 41)),none,none,some ((bl 195 41),(bl 2198956146687 41)),none,some ((bl 192 41),(bl 2198956146687 41)),none,none],[],[],false,false,[]⟩
def z8:Nat→Sh:=yT [(17,(.int .i64)),(33,(.int .i64))]
def z7(L:Nat):CBC:=noC
def zhh:St→St:=zbd 1 (bl 67 41) (bl 2199023254527 41)
def zfU:St→St:=zbd 1 (bl 195 41) (bl 2198956146687 41)
def zfm(z:Nat)(A C:Int)(D:List V):St:=⟨((V.own 0 0 z 5)::((Qe A)::(jn 4 ((Qe C)::(jn 34 []))))),((.live true D)::(gn 41 []))⟩
def zhn(z:Nat)(A C:Int)(D:List V):St:=⟨((V.own 0 0 z 5)::((Qe A)::(jn 4 ((Qe C)::(jn 34 []))))),((.live true D)::(gn 41 []))⟩
def zez(z:Nat)(A C D:Int)(E:List V):St:=⟨((V.own 0 0 z 5)::((Qe A)::(jn 4 ((Qe C)::((Qe D)::(jn 33 [])))))),((.live true E)::(gn 41 []))⟩
def zli(z A:Int)(C:List V):St:=⟨(jn 6 ((Qe z)::((Qe A)::(jn 33 [])))),((.live true C)::(gn 41 []))⟩
def zpE{β:Type}(L:Nat)(A:Nat)(C:Int)(D:List V)(z:Nat→Int→Int→List V→Option β):Option β:=z A C (0:Int) D
theorem zyY{β:Type}(L:Nat)(z:Nat)(A:Int)(C:List V)(k:KK β):yl z8 (z7 L) L zbE [(V.own 0 0 z 5),(Qe A)] [(.live true C)] k=zpE L z A C (fun z A D C=>xE (xi z8 (z7 L) 1 L zeC) zhh L (zfm z A D C) (zF 0 (zQ (xi z8 (z7 L) 1 L zii) (xW 1 (CF.res zbE) k)))):=by kernel_rfl
def zkY{β:Type}(L:Nat)(z:Nat)(E A:Int)(F:List V)(C:Nat→Int→Int→List V→Option β)(D:Nat→Int→Int→List V→Option β):Option β:=ifb (decide (A<((z:Nat):Int))) (chk (0≤A∧A<((z:Nat):Int)) (cI .i64 F ((0+((XJ A)*5))+0) fun G=>ifb (decide (G<E)) (lt (QF .i64 ((A:Int)+(1:Int))) fun I=>C z E I F) (D z E A F))) (D z E A F)
theorem zuX{β:Type}(L:Nat)(z:Nat)(A C:Int)(D:List V)(X:St→Option β)(K:KT β):xi z8 (z7 L) 1 L zeC (zfm z A C D) (zcz zhh X K)=zkY L z A C D (fun z A C D=>X (zfm z A C D)) (fun z A C D=>K (.exit 0) (zhn z A C D)):=by kernel_rfl
def zoU{β:Type}(L:Nat)(A:Nat)(D C:Int)(E:List V)(z:Nat→Int→Int→Int→List V→Option β):Option β:=z A D C C E
theorem zs9{β:Type}(L:Nat)(z:Nat)(A C:Int)(D:List V)(k:KK β):(zF 0 (zQ (xi z8 (z7 L) 1 L zii) (xW 1 (CF.res zbE) k))) (.exit 0) (zhn z A C D)=zoU L z A C D (fun z A C E D=>xE (xi z8 (z7 L) 1 L zdV) zfU L (zez z A C E D) (zF 2 (zQ (xi z8 (z7 L) 1 L zj5) (xW 1 (CF.res zbE) k)))):=by kernel_rfl
def zjp{β:Type}(L:Nat)(C:Nat)(G F A:Int)(E:List V)(z:Nat→Int→Int→Int→List V→Option β)(D:Int→Int→List V→Option β):Option β:=ifb (decide (A<((C:Nat):Int))) (chk (0≤A∧A<((C:Nat):Int)) (cI .i64 E ((0+((XJ A)*5))+0) fun I=>ifb ((I:Int)==G) (lt (QF .i64 ((A:Int)+(1:Int))) fun J=>z C G F J E) (D F A E))) (D F A E)
theorem ztf{β:Type}(L:Nat)(z:Nat)(E A C:Int)(D:List V)(X:St→Option β)(K:KT β):xi z8 (z7 L) 1 L zdV (zez z E A C D) (zcz zfU X K)=zjp L z E A C D (fun z E A C D=>X (zez z E A C D)) (fun A C D=>K (.exit 2) (zli A C D)):=by kernel_rfl
def zmz{β:Type}(L:Nat)(A C:Int)(D:List V)(z:Int→Int→List V→Option β):Option β:=z A C D
theorem zrK{β:Type}(L:Nat)(D E:Int)(z:List V)(k:KK β):(zF 2 (zQ (xi z8 (z7 L) 1 L zj5) (xW 1 (CF.res zbE) k))) (.exit 2) (zli D E z)=zmz L D E z (fun A C z=>k (V.tup [(Qe A),(Qe C)]) [(.live true z)]):=by kernel_rfl
def ze8{β:Type}(L:Nat)(z:Nat→Int→Int→List V→Option β):Nat→Nat→Int→Int→List V→Option β
 | 0,_,_,_,_=>none
 | n+1,A,C,D,E=>zkY L A C D E (fun A C D E=>ze8 L z n A C D E) z
theorem znO{β:Type}(L:Nat)(K:KT β):∀ (n:Nat) (z:Nat) (A C:Int) (D:List V),xE (xi z8 (z7 L) 1 L zeC) zhh n (zfm z A C D) K=ze8 L (fun z A C D=>K (.exit 0) (zhn z A C D)) n z A C D:=by
 intro n
 induction n with
 | zero=>intros; rfl
 | succ n ih=>
  intro z A C D
  refine (zuX L z A C D (fun σ=>xE (xi z8 (z7 L) 1 L zeC) zhh n σ K) K).trans ?_
  simp only [ih]
  rfl
def zed{β:Type}(L:Nat)(z:Int→Int→List V→Option β):Nat→Nat→Int→Int→Int→List V→Option β
 | 0,_,_,_,_,_=>none
 | n+1,A,C,D,E,F=>zjp L A C D E F (fun A C D E F=>zed L z n A C D E F) z
theorem zl0{β:Type}(L:Nat)(K:KT β):∀ (n:Nat) (z:Nat) (E A C:Int) (D:List V),xE (xi z8 (z7 L) 1 L zdV) zfU n (zez z E A C D) K=zed L (fun A C D=>K (.exit 2) (zli A C D)) n z E A C D:=by
 intro n
 induction n with
 | zero=>intros; rfl
 | succ n ih=>
  intro z E A C D
  refine (ztf L z E A C D (fun σ=>xE (xi z8 (z7 L) 1 L zdV) zfU n σ K) K).trans ?_
  simp only [ih]
  rfl
def ziw{β:Type}(L:Nat)(z:Nat)(E A:Int)(C:List V)(D:Int→Int→List V→Option β):Option β:=zoU L z E A C (fun z E A F C=>zed L (fun A F C=>zmz L A F C D) L z E A F C)
theorem zr9{β:Type}(L:Nat)(z:Nat)(C D:Int)(A:List V)(k:KK β):(zF 0 (zQ (xi z8 (z7 L) 1 L zii) (xW 1 (CF.res zbE) k))) (.exit 0) (zhn z C D A)=ziw L z C D A (fun E F A=>k (V.tup [(Qe E),(Qe F)]) [(.live true A)]):=by
 refine (zs9 L z C D A k).trans ?_
 unfold ziw
 first
  | (simp only [zl0,zrK]; done)
  | (simp only [zl0]; rfl)
def zlZ{β:Type}(L:Nat)(z:Nat)(A:Int)(C:List V)(D:Int→Int→List V→Option β):Option β:=zpE L z A C (fun z A E C=>ze8 L (fun z A E C=>ziw L z A E C D) L z A E C)
theorem zyz{β:Type}(L:Nat)(z:Nat)(C:Int)(A:List V)(k:KK β):yl z8 (z7 L) L zbE [(V.own 0 0 z 5),(Qe C)] [(.live true A)] k=zlZ L z C A (fun D E A=>k (V.tup [(Qe D),(Qe E)]) [(.live true A)]):=by
 refine (zyY L z C A k).trans ?_
 unfold zlZ
 first
  | (simp only [znO,zr9]; done)
  | (simp only [znO]; rfl)
abbrev zax:=∀ (β:Type),Nat→Nat→Int→List V→(Int→Int→List V→Option β)→Option β
def yj(β:Type)(L:Nat)(A:Nat)(C:Int)(D:List V)(z:Int→Int→List V→Option β):Option β:=zlZ L A C D z
def ziq(yj:zax)(L:Nat)(β:Type)(args:List V)(bor:Bor)(k:KK β):Option β:=match args,bor with
 | [a0,a1],[(.live true z)]=>aO0 0 5 a0 fun D=>aI .i64 a1 fun E=>yj β L D E z (fun A C z=>k (V.tup [(Qe A),(Qe C)]) [(.live true z)])
 | _,_=>none
theorem zyM(L:Nat)(β:Type)(args:List V)(bor:Bor)(k:KK β)(r:β)(h:ziq yj L β args bor k=some r):yl z8 (z7 L) L zbE args bor k=some r:=by
 unfold ziq at h
 split at h
 ·have q:=zhd h; clear h; obtain ⟨z,rfl,h⟩:=q
  have q:=yo h; clear h; obtain ⟨A,rfl,h⟩:=q
  exact (zyz L z A _ k).trans h
 ·cases h
def zc4:CC:=(.seq (.seq (.reg [Qh 24 (tq 7),Qh 25 (tq 0),Qr 26 (tq 25),Qp 27 .lss (tq 24) (tq 26),Qh 28 (tq 27),⟨(some 29),false,(some (28,true)),.move (tq 0) false⟩,⟨(some 30),false,(some (28,true)),.move (tq 7) false⟩,⟨(some 31),false,(some (28,true)),.indexAddrS 5 (tq 29) (tq 30)⟩,⟨(some 32),false,(some (28,true)),.fieldAddr 0 (tq 31)⟩,⟨(some 33),false,(some (28,true)),.load false 1 (tq 32) false⟩,⟨(some 34),false,(some (28,true)),.move (tq 1) false⟩,⟨(some 35),false,(some (28,true)),.bin .eql (tq 33) (tq 34)⟩,oo 36 (.pick (tq 28) (tq 35) (Qg false))]) (.cond (tq 36) .skip (.seq (.mask (bl 192 41) (bl 2198956146687 41)) (.exit 2)))) (.block 3 (.reg [Qh 37 (tq 7),Qp 38 .add (tq 37) (Qf 1),Qh 7 (tq 38)])))
def zhV:CC:=(.seq (.reg [Qh 39 (tq 6),Qh 40 (tq 7),Qh 4 (tq 39),Qh 5 (tq 40)]) .ret)
def ze6:CC:=(.seq (.seq (.reg [Qh 8 (tq 6),Qh 9 (tq 0),Qr 10 (tq 9),Qp 11 .lss (tq 8) (tq 10),Qh 12 (tq 11),⟨(some 13),false,(some (12,true)),.move (tq 0) false⟩,⟨(some 14),false,(some (12,true)),.move (tq 6) false⟩,⟨(some 15),false,(some (12,true)),.indexAddrS 5 (tq 13) (tq 14)⟩,⟨(some 16),false,(some (12,true)),.fieldAddr 0 (tq 15)⟩,⟨(some 17),false,(some (12,true)),.load false 1 (tq 16) false⟩,⟨(some 18),false,(some (12,true)),.move (tq 1) false⟩,⟨(some 19),false,(some (12,true)),.bin .lss (tq 17) (tq 18)⟩,oo 20 (.pick (tq 12) (tq 19) (Qg false))]) (.cond (tq 20) .skip (.seq (.mask (bl 67 41) (bl 2199023254527 41)) (.exit 0)))) (.block 1 (.reg [Qh 21 (tq 6),Qp 22 .add (tq 21) (Qf 1),Qh 6 (tq 22)])))
def zjE:CC:=(.seq (.reg [Qh 23 (tq 6),Qh 7 (tq 23)]) (.seq (.block 2 (.loop (bl 195 41) (bl 2198956146687 41) zc4)) zhV))
def zci:CF:=zbE
def yR:Nat→Sh:=yT [(17,(.int .i64)),(33,(.int .i64))]
def zS(L:Nat):CBC:=noC
def zfj:St→St:=zbd 0 (bl 67 41) (bl 2199023254527 41)
def zeA:St→St:=zbd 0 (bl 195 41) (bl 2198956146687 41)
def zea(z:List (List V))(A C:Int):St:=⟨((V.sl 5 z)::((Qe A)::(jn 4 ((Qe C)::(jn 34 []))))),(gn 41 [])⟩
def zft(z:List (List V))(A C:Int):St:=⟨((V.sl 5 z)::((Qe A)::(jn 4 ((Qe C)::(jn 34 []))))),(gn 41 [])⟩
def zdI(z:List (List V))(A C D:Int):St:=⟨((V.sl 5 z)::((Qe A)::(jn 4 ((Qe C)::((Qe D)::(jn 33 [])))))),(gn 41 [])⟩
def ziJ(z A:Int):St:=⟨(jn 6 ((Qe z)::((Qe A)::(jn 33 [])))),(gn 41 [])⟩
def zmw{β:Type}(L:Nat)(A:List (List V))(C:Int)(z:List (List V)→Int→Int→Option β):Option β:=z A C (0:Int)
theorem zvk{β:Type}(L:Nat)(z:List (List V))(A:Int)(k:KK β):yl yR (zS L) L zci [(V.sl 5 z),(Qe A)] [] k=zmw L z A (fun z A C=>xE (xi yR (zS L) 0 L ze6) zfj L (zea z A C) (zF 0 (zQ (xi yR (zS L) 0 L zjE) (xW 0 (CF.res zci) k)))):=by kernel_rfl
def zio{β:Type}(L:Nat)(A:List (List V))(E C:Int)(z:List (List V)→Int→Int→Option β)(D:List (List V)→Int→Int→Option β):Option β:=ifb (decide (C<((XI A:Nat):Int))) (idx A C fun c0=>cI .i64 c0 0 fun F=>ifb (decide (F<E)) (lt (QF .i64 ((C:Int)+(1:Int))) fun G=>z A E G) (D A E C)) (D A E C)
theorem zsj{β:Type}(L:Nat)(z:List (List V))(A C:Int)(X:St→Option β)(K:KT β):xi yR (zS L) 0 L ze6 (zea z A C) (zcz zfj X K)=zio L z A C (fun z A C=>X (zea z A C)) (fun z A C=>K (.exit 0) (zft z A C)):=by kernel_rfl
def zl1{β:Type}(L:Nat)(C:List (List V))(D A:Int)(z:List (List V)→Int→Int→Int→Option β):Option β:=z C D A A
theorem zrf{β:Type}(L:Nat)(z:List (List V))(A C:Int)(k:KK β):(zF 0 (zQ (xi yR (zS L) 0 L zjE) (xW 0 (CF.res zci) k))) (.exit 0) (zft z A C)=zl1 L z A C (fun z A C D=>xE (xi yR (zS L) 0 L zc4) zeA L (zdI z A C D) (zF 2 (zQ (xi yR (zS L) 0 L zhV) (xW 0 (CF.res zci) k)))):=by kernel_rfl
def zg1{β:Type}(L:Nat)(D:List (List V))(F E A:Int)(z:List (List V)→Int→Int→Int→Option β)(C:Int→Int→Option β):Option β:=ifb (decide (A<((XI D:Nat):Int))) (idx D A fun c3=>cI .i64 c3 0 fun G=>ifb ((G:Int)==F) (lt (QF .i64 ((A:Int)+(1:Int))) fun I=>z D F E I) (C E A)) (C E A)
theorem zrh{β:Type}(L:Nat)(C:List (List V))(D z A:Int)(X:St→Option β)(K:KT β):xi yR (zS L) 0 L zc4 (zdI C D z A) (zcz zeA X K)=zg1 L C D z A (fun C D z A=>X (zdI C D z A)) (fun z A=>K (.exit 2) (ziJ z A)):=by kernel_rfl
def zkn{β:Type}(L:Nat)(A C:Int)(z:Int→Int→Option β):Option β:=z A C
theorem zpV{β:Type}(L:Nat)(C D:Int)(k:KK β):(zF 2 (zQ (xi yR (zS L) 0 L zhV) (xW 0 (CF.res zci) k))) (.exit 2) (ziJ C D)=zkn L C D (fun z A=>k (V.tup [(Qe z),(Qe A)]) []):=by kernel_rfl
def zdS{β:Type}(L:Nat)(z:List (List V)→Int→Int→Option β):Nat→List (List V)→Int→Int→Option β
 | 0,_,_,_=>none
 | n+1,A,C,D=>zio L A C D (fun A C D=>zdS L z n A C D) z
theorem zlx{β:Type}(L:Nat)(K:KT β):∀ (n:Nat) (z:List (List V)) (A C:Int),xE (xi yR (zS L) 0 L ze6) zfj n (zea z A C) K=zdS L (fun z A C=>K (.exit 0) (zft z A C)) n z A C:=by
 intro n
 induction n with
 | zero=>intros; rfl
 | succ n ih=>
  intro z A C
  refine (zsj L z A C (fun σ=>xE (xi yR (zS L) 0 L ze6) zfj n σ K) K).trans ?_
  simp only [ih]
  rfl
def zdi{β:Type}(L:Nat)(z:Int→Int→Option β):Nat→List (List V)→Int→Int→Int→Option β
 | 0,_,_,_,_=>none
 | n+1,A,C,D,E=>zg1 L A C D E (fun A C D E=>zdi L z n A C D E) z
theorem zjT{β:Type}(L:Nat)(K:KT β):∀ (n:Nat) (C:List (List V)) (D z A:Int),xE (xi yR (zS L) 0 L zc4) zeA n (zdI C D z A) K=zdi L (fun z A=>K (.exit 2) (ziJ z A)) n C D z A:=by
 intro n
 induction n with
 | zero=>intros; rfl
 | succ n ih=>
  intro C D z A
  refine (zrh L C D z A (fun σ=>xE (xi yR (zS L) 0 L zc4) zeA n σ K) K).trans ?_
  simp only [ih]
  rfl
def zgm{β:Type}(L:Nat)(C:List (List V))(D z:Int)(A:Int→Int→Option β):Option β:=zl1 L C D z (fun C D z E=>zdi L (fun z E=>zkn L z E A) L C D z E)
theorem zqT{β:Type}(L:Nat)(z:List (List V))(A C:Int)(k:KK β):(zF 0 (zQ (xi yR (zS L) 0 L zjE) (xW 0 (CF.res zci) k))) (.exit 0) (zft z A C)=zgm L z A C (fun D E=>k (V.tup [(Qe D),(Qe E)]) []):=by
 refine (zrf L z A C k).trans ?_
 unfold zgm
 first
  | (simp only [zjT,zpV]; done)
  | (simp only [zjT]; rfl)
def zie{β:Type}(L:Nat)(z:List (List V))(A:Int)(C:Int→Int→Option β):Option β:=zmw L z A (fun z A D=>zdS L (fun z A D=>zgm L z A D C) L z A D)
theorem zvJ{β:Type}(L:Nat)(z:List (List V))(A:Int)(k:KK β):yl yR (zS L) L zci [(V.sl 5 z),(Qe A)] [] k=zie L z A (fun C D=>k (V.tup [(Qe C),(Qe D)]) []):=by
 refine (zvk L z A k).trans ?_
 unfold zie
 first
  | (simp only [zlx,zqT]; done)
  | (simp only [zlx]; rfl)
abbrev zil:=∀ (β:Type),Nat→List (List V)→Int→(Int→Int→Option β)→Option β
def yU(β:Type)(L:Nat)(A:List (List V))(C:Int)(z:Int→Int→Option β):Option β:=zie L A C z
def zh8(yU:zil)(L:Nat)(β:Type)(args:List V)(bor:Bor)(k:KK β):Option β:=match args,bor with
 | [a0,a1],[]=>aL 5 a0 fun C=>aI .i64 a1 fun D=>yU β L C D (fun z A=>k (V.tup [(Qe z),(Qe A)]) [])
 | _,_=>none
theorem zvi(L:Nat)(β:Type)(args:List V)(bor:Bor)(k:KK β)(r:β)(h:zh8 yU L β args bor k=some r):yl yR (zS L) L zci args bor k=some r:=by
 unfold zh8 at h
 split at h
 ·have q:=zaF h; clear h; obtain ⟨z,rfl,h⟩:=q
  have q:=yo h; clear h; obtain ⟨A,rfl,h⟩:=q
  exact (zvJ L z A k).trans h
 ·cases h
def zkF:CF:=⟨26,[.tmp 4],(.seq (.reg [Qv 3 (tq 1),Qi 4 (.const (.gs 5 []))]) (.seq (.reg [Qh 8 (tq 0),Ql 9 0 (tq 3),Qj 10 1 (tq 9),Qs 11 291 [((tq 8),2),((tq 10),2)],Qi 7 (tq 11),Qq 12 (tq 7) 0,Qq 13 (tq 7) 1,Qh 5 (tq 12),Qh 6 (tq 13)]) (.seq (.dreg [] [(oo 14 (.buildSlice 5 0 [(.sc (.int .i64 0)),(.sc (.int .u32 0)),(.sc (.int .u16 0)),(.sc (.int .u32 0)),(.sc (.int .u32 0))] []),qn [3] [20]),(Qh 15 (tq 0),q0),(Qh 16 (tq 6),q0),(oo 17 (.sliceS 5 (tq 15) none (some (tq 16)) none),q0),(oo 18 (.append 5 24 (tq 14) (tq 17)),qn [3] [20]),(Qk 19 5 (tq 3),ql 3 [] [14,18]),(oo 20 (.buildSlice 5 1 [(.sc (.int .i64 0)),(.sc (.int .u32 0)),(.sc (.int .u16 0)),(.sc (.int .u32 0)),(.sc (.int .u32 0))] [(0,5,(tq 19))]),qn [] [14,18]),(oo 21 (.append 5 24 (tq 18) (tq 20)),q0),(Qh 22 (tq 0),q0),(Qh 23 (tq 6),q0),(oo 24 (.sliceS 5 (tq 22) (some (tq 23)) none none),q0),(oo 25 (.append 5 24 (tq 21) (tq 24)),q0),(Qi 4 (tq 25),q0)]) .ret)))⟩
def zrw:Hint:=⟨[(0,1),(1,3),(1,4),(2,12)],[],[none],[],[],false,false,[]⟩
def zoI:Nat→Sh:=yT [(10,(.int .i64))]
def zoA(yU:zil)(L:Nat):CBC:=(xy 291 (zh8 yU L) noC)
def zpO{β:Type}(yU:zil)(L:Nat)(A:List (List V))(C:List V)(D:List (List V)→Option β):Option β:=cI .i64 C 0 fun G=>yU β L A G (fun J z=>chk (0≤z∧z≤(((XI A):Nat):Int)) (chk ((XI ([]:List (List V))+XI (XK ((XJ z)-0) (XL 0 A)))*24≤yr∧XI ([]:List (List V))+XI (XK ((XJ z)-0) (XL 0 A))≤yr) (lt (([]:List (List V))++(XK ((XJ z)-0) (XL 0 A))) fun E=>chk (0+5≤(XI C)) (chk ((XI (XK 5 C))=5∧0+5≤5) (chk ((XI E+XI (ye 5 1 (xd [(Qe (0:Int)),(Qc (0:Int)),(Qb (0:Int)),(Qc (0:Int)),(Qc (0:Int))] 0 (XK 5 C))))*24≤yr∧XI E+XI (ye 5 1 (xd [(Qe (0:Int)),(Qc (0:Int)),(Qb (0:Int)),(Qc (0:Int)),(Qc (0:Int))] 0 (XK 5 C)))≤yr) (lt (E++(ye 5 1 (xd [(Qe (0:Int)),(Qc (0:Int)),(Qb (0:Int)),(Qc (0:Int)),(Qc (0:Int))] 0 (XK 5 C)))) fun F=>chk (0≤z∧z≤(((XI A):Nat):Int)) (chk ((XI F+XI (XK ((XI A)-(XJ z)) (XL (XJ z) A)))*24≤yr∧XI F+XI (XK ((XI A)-(XJ z)) (XL (XJ z) A))≤yr) (lt (F++(XK ((XI A)-(XJ z)) (XL (XJ z) A))) fun I=>D I))))))))
theorem zyU{β:Type}(yU:zil)(L:Nat)(z:List (List V))(A:List V)(k:KK β):yl zoI (zoA yU L) L zkF [(V.sl 5 z),(V.agg A)] [] k=zpO yU L z A (fun z=>k (V.gs 5 z) []):=by kernel_rfl
abbrev zay:=∀ (β:Type),Nat→List (List V)→List V→(List (List V)→Option β)→Option β
def zi(β:Type)(L:Nat)(A:List (List V))(C:List V)(z:List (List V)→Option β):Option β:=zpO yU L A C z
def ziy(zi:zay)(L:Nat)(β:Type)(args:List V)(bor:Bor)(k:KK β):Option β:=match args,bor with
 | [a0,a1],[]=>aL 5 a0 fun z=>aG a1 fun A=>zi β L z A (fun z=>k (V.gs 5 z) [])
 | _,_=>none
theorem zyO(L:Nat)(β:Type)(args:List V)(bor:Bor)(k:KK β)(r:β)(h:ziy zi L β args bor k=some r):yl zoI (zoA yU L) L zkF args bor k=some r:=by
 unfold ziy at h
 split at h
 ·have q:=zaF h; clear h; obtain ⟨z,rfl,h⟩:=q
  have q:=xM h; clear h; obtain ⟨A,rfl,h⟩:=q
  exact (zyU yU L z A k).trans h
 ·cases h
def zf6:CC:=(.seq (.seq (.reg [Qh 6 (tq 5),Qh 7 (tq 0),Qr 8 (tq 7),Qp 9 .lss (tq 6) (tq 8)]) (.cond (tq 9) .skip (.seq (.mask (bl 0 20) (bl 786119 20)) (.exit 0)))) (.seq (.block 1 (.seq (.dreg [] [(Qh 12 (tq 0),q0),(Qh 13 (tq 5),q0),(Qo 14 5 (tq 12) (tq 13),q0),(Ql 15 1 (tq 14),q0),(Qk 16 3 (tq 15),qc [3] []),(Qk 17 3 (tq 3),ql 3 [] []),(Qs 18 303 [(Qw 16),(Qw 17)],q0)]) (.cond (tq 18) (.seq (.reg [Qh 19 (tq 5),Qh 4 (tq 19)]) (.seq (.mask (bl 16 20) (bl 786135 20)) .ret)) .skip))) (.reg [Qh 10 (tq 5),Qp 11 .add (tq 10) (Qf 1),Qh 5 (tq 11)])))
def zmi:CC:=(.seq (.reg [Qh 4 (Qf (-1))]) .ret)
def zeL:CF:=zdH
def zbk:Nat→Sh:=yT []
def zbg(zf:xP)(L:Nat):CBC:=(xy 303 (zlf zf L) noC)
def zgJ:St→St:=zbd 1 (bl 41 20) (bl 786159 20)
def ze5(z:Nat)(A:Int)(C D:List V):St:=⟨((V.own 0 0 z 5)::(jn 2 ((V.ptr 4 0)::(jn 1 ((Qe A)::(jn 14 [])))))),((.live true C)::(gn 3 ((.live true D)::(gn 16 []))))⟩
def zjw(z:Int)(A:List V):St:=⟨(jn 4 ((Qe z)::(jn 15 []))),((.live true A)::(gn 20 []))⟩
def zka(z:List V):St:=⟨(jn 20 []),((.live true z)::(gn 20 []))⟩
def zoB{β:Type}(zf:xP)(L:Nat)(A:Nat)(C D:List V)(z:Nat→Int→List V→List V→Option β):Option β:=z A (0:Int) D C
theorem zx0{β:Type}(zf:xP)(L:Nat)(z:Nat)(C A:List V)(k:KK β):yl zbk (zbg zf L) L zeL [(V.own 0 0 z 5),(V.agg C)] [(.live true A)] k=zoB zf L z C A (fun z D A E=>xE (xi zbk (zbg zf L) 1 L zf6) zgJ L (ze5 z D A E) (zF 0 (zQ (xi zbk (zbg zf L) 1 L zmi) (xW 1 (CF.res zeL) k)))):=by kernel_rfl
def zj8{β:Type}(zf:xP)(L:Nat)(C:Nat)(z:Int)(D F:List V)(E:Int→List V→Option β)(A:Nat→Int→List V→List V→Option β)(G:List V→Option β):Option β:=ifb (decide (z<((C:Nat):Int))) (chk (0≤z∧z<((C:Nat):Int)) (chk (((0+((XJ z)*5))+1)+3≤(XI D)) (chk (0+3≤(XI F)) (zf β L (XK 3 (XL ((0+((XJ z)*5))+1) D)) (XK 3 F) (fun I=>ifb I (E z D) (lt (QF .i64 ((z:Int)+(1:Int))) fun J=>A C J D F)))))) (G D)
theorem zud{β:Type}(zf:xP)(L:Nat)(A:Nat)(C:Int)(z D:List V)(X:St→Option β)(K:KT β):xi zbk (zbg zf L) 1 L zf6 (ze5 A C z D) (zcz zgJ X K)=zj8 zf L A C z D (fun E z=>K .ret (zjw E z)) (fun A C z D=>X (ze5 A C z D)) (fun z=>K (.exit 0) (zka z)):=by kernel_rfl
def zmI{β:Type}(zf:xP)(L:Nat)(A:Int)(C:List V)(z:Int→List V→Option β):Option β:=z A C
theorem zrU{β:Type}(zf:xP)(L:Nat)(A:Int)(z:List V)(k:KK β):(zF 0 (zQ (xi zbk (zbg zf L) 1 L zmi) (xW 1 (CF.res zeL) k))) .ret (zjw A z)=zmI zf L A z (fun C z=>k (Qe C) [(.live true z)]):=by kernel_rfl
def znA{β:Type}(zf:xP)(L:Nat)(A:List V)(z:Int→List V→Option β):Option β:=z (-1:Int) A
theorem zsV{β:Type}(zf:xP)(L:Nat)(z:List V)(k:KK β):(zF 0 (zQ (xi zbk (zbg zf L) 1 L zmi) (xW 1 (CF.res zeL) k))) (.exit 0) (zka z)=znA zf L z (fun A z=>k (Qe A) [(.live true z)]):=by kernel_rfl
def zeI{β:Type}(zf:xP)(L:Nat)(z:Int→List V→Option β)(A:List V→Option β):Nat→Nat→Int→List V→List V→Option β
 | 0,_,_,_,_=>none
 | n+1,C,D,E,F=>zj8 zf L C D E F z (fun C D E F=>zeI zf L z A n C D E F) A
theorem zmN{β:Type}(zf:xP)(L:Nat)(K:KT β):∀ (n:Nat) (A:Nat) (C:Int) (z D:List V),xE (xi zbk (zbg zf L) 1 L zf6) zgJ n (ze5 A C z D) K=zeI zf L (fun E z=>K .ret (zjw E z)) (fun z=>K (.exit 0) (zka z)) n A C z D:=by
 intro n
 induction n with
 | zero=>intros; rfl
 | succ n ih=>
  intro A C z D
  refine (zud zf L A C z D (fun σ=>xE (xi zbk (zbg zf L) 1 L zf6) zgJ n σ K) K).trans ?_
  simp only [ih]
  rfl
def zki{β:Type}(zf:xP)(L:Nat)(C:Nat)(D z:List V)(A:Int→List V→Option β):Option β:=zoB zf L C D z (fun C E z F=>zeI zf L (fun G z=>zmI zf L G z A) (fun z=>znA zf L z A) L C E z F)
theorem zxh{β:Type}(zf:xP)(L:Nat)(z:Nat)(C A:List V)(k:KK β):yl zbk (zbg zf L) L zeL [(V.own 0 0 z 5),(V.agg C)] [(.live true A)] k=zki zf L z C A (fun D A=>k (Qe D) [(.live true A)]):=by
 refine (zx0 zf L z C A k).trans ?_
 unfold zki
 first
  | (simp only [zmN,zrU,zsV]; done)
  | (simp only [zmN]; rfl)
abbrev za8:=∀ (β:Type),Nat→Nat→List V→List V→(Int→List V→Option β)→Option β
def zm(β:Type)(L:Nat)(A:Nat)(C D:List V)(z:Int→List V→Option β):Option β:=zki zf L A C D z
def zkx(zm:za8)(L:Nat)(β:Type)(args:List V)(bor:Bor)(k:KK β):Option β:=match args,bor with
 | [a0,a1],[(.live true z)]=>aO0 0 5 a0 fun A=>aG a1 fun C=>zm β L A C z (fun D z=>k (Qe D) [(.live true z)])
 | _,_=>none
theorem zx5(L:Nat)(β:Type)(args:List V)(bor:Bor)(k:KK β)(r:β)(h:zkx zm L β args bor k=some r):yl zbk (zbg zf L) L zeL args bor k=some r:=by
 unfold zkx at h
 split at h
 ·have q:=zhd h; clear h; obtain ⟨z,rfl,h⟩:=q
  have q:=xM h; clear h; obtain ⟨A,rfl,h⟩:=q
  exact (zxh zf L z A _ k).trans h
 ·cases h
def zct:CC:=(.seq (.seq (.reg [Qh 86 (tq 15),Qh 87 (tq 13),Qp 88 .lss (tq 86) (tq 87)]) (.cond (tq 88) .skip (.seq (.mask (bl 18768 129) (bl 680564733841876926926749214863536390135 129)) (.exit 0)))) (.seq (.block 1 (.seq (.dreg [] [(Ql 91 32 (tq 8),q0),(Qj 92 1 (tq 91),ql 8 [] []),(Qh 93 (tq 15),q0),(Qo 94 5 (tq 92) (tq 93),q0),(Ql 95 1 (tq 94),q0),(Ql 96 2 (tq 95),q0),(Qj 97 1 (tq 96),qc [8] []),(Ql 98 32 (tq 8),q0),(Qj 99 1 (tq 98),ql 8 [] []),(Qh 100 (tq 14),q0),(Qo 101 5 (tq 99) (tq 100),q0),(Ql 102 1 (tq 101),q0),(Ql 103 2 (tq 102),q0),(Qj 104 1 (tq 103),qc [8] []),(Qp 105 .lss (tq 97) (tq 104),q0)]) (.cond (tq 105) (.reg [Qh 106 (tq 15),Qh 14 (tq 106)]) .skip))) (.reg [Qh 89 (tq 15),Qp 90 .add (tq 89) (Qf 1),Qh 15 (tq 90)])))
def zg2:CC:=(.seq (.seq (.dreg [] [(Ql 107 32 (tq 8),q0),(Qj 108 1 (tq 107),ql 8 [4] []),(Qh 109 (tq 14),q0),(Qo 110 5 (tq 108) (tq 109),q0),(Ql 111 1 (tq 110),q0),(Ql 112 2 (tq 111),q0),(Qj 113 1 (tq 112),qc [4] []),(Ql 114 2 (tq 4),q0),(Qj 115 1 (tq 114),ql 4 [8] []),(Qp 116 .geq (tq 113) (tq 115),q0)]) (.cond (tq 116) (.seq (.reg [oo 117 (.load true 34 (tq 8) true),Qm 34 (tq 6) (tq 117),Qh 7 (Qg false)]) .ret) .skip)) (.reg [Ql 118 32 (tq 8),Qj 119 1 (tq 118),Qh 120 (tq 14),Qs 121 289 [((tq 119),2),((tq 120),2)],Ql 122 32 (tq 8),Qm 1 (tq 122) (tq 121)]))
def zj6:CC:=(.seq (.reg [Ql 123 32 (tq 8),Qj 124 1 (tq 123),Qk 125 5 (tq 11),Qs 126 292 [(Qw 124),(Qw 125)],Ql 127 32 (tq 8),Qm 1 (tq 127) (tq 126)]) (.seq (.reg [oo 128 (.load true 34 (tq 8) true),Qm 34 (tq 6) (tq 128),Qh 7 (Qg true)]) .ret))
def zfG:CF:=⟨129,[.cellS 6 34 true,.tmpP 7],(.seq (.reg [Qv 3 (tq 0),Qv 4 (tq 1),oo 6 (.alloc false (rp 32 (.sc (.int .u8 0)) (rp 2 (.gs 5 []) []))),Qh 7 (Qg false)]) (.seq (.reg [Qk 16 34 (tq 3),oo 17 (.call 288 [((tq 16),1)] [18,23]),oo 8 (.alloc false (rp 32 (.sc (.int .u8 0)) (rp 2 (.gs 5 []) []))),Qm 34 (tq 8) (tq 17)]) (.seq (.seq (.reg [Ql 18 33 (tq 8),Qj 19 1 (tq 18),Qk 20 3 (tq 4),Qs 21 287 [((tq 19),2),((tq 20),2)],Qh 9 (tq 21)]) (.seq (.reg [Qh 22 (tq 9),Qp 23 .geq (tq 22) (Qf 0)]) (.cond (tq 23) (.seq (.dreg [] [(Ql 24 33 (tq 8),q0),(Qj 25 1 (tq 24),ql 8 [4] []),(Qh 26 (tq 9),q0),(Ql 27 33 (tq 8),q0),(Qj 28 1 (tq 27),ql 8 [4] []),(Qh 29 (tq 9),q0),(Qo 30 5 (tq 28) (tq 29),q0),(Ql 31 1 (tq 30),q0),(Ql 32 2 (tq 31),q0),(Qj 33 1 (tq 32),qc [8,4] []),(Ql 34 2 (tq 4),q0),(Qj 35 1 (tq 34),ql 4 [8] []),(oo 36 (.mm true (tq 33) (tq 35)),q0),(Qo 37 5 (tq 25) (tq 26),q0),(Ql 38 1 (tq 37),q0),(Ql 39 2 (tq 38),q0),(Qm 1 (tq 39) (tq 36),q0)]) (.seq (.reg [oo 40 (.load true 34 (tq 8) true),Qm 34 (tq 6) (tq 40),Qh 7 (Qg false)]) .ret)) .skip))) (.seq (.seq (.reg [Ql 41 32 (tq 8),Qj 42 1 (tq 41),Qk 43 3 (tq 4),Qs 44 287 [((tq 42),2),((tq 43),2)],Qh 10 (tq 44)]) (.seq (.reg [Qh 45 (tq 10),Qp 46 .geq (tq 45) (Qf 0)]) (.cond (tq 46) (.seq (.dreg [] [(Ql 47 32 (tq 8),q0),(Qj 48 1 (tq 47),ql 8 [4] []),(Qh 49 (tq 10),q0),(Ql 50 32 (tq 8),q0),(Qj 51 1 (tq 50),ql 8 [4] []),(Qh 52 (tq 10),q0),(Qo 53 5 (tq 51) (tq 52),q0),(Ql 54 1 (tq 53),q0),(Ql 55 2 (tq 54),q0),(Qj 56 1 (tq 55),qc [8,4] []),(Ql 57 2 (tq 4),q0),(Qj 58 1 (tq 57),ql 4 [8] []),(oo 59 (.mm true (tq 56) (tq 58)),q0),(Qo 60 5 (tq 48) (tq 49),q0),(Ql 61 1 (tq 60),q0),(Ql 62 2 (tq 61),q0),(Qm 1 (tq 62) (tq 59),q0)]) (.seq (.reg [oo 63 (.load true 34 (tq 8) true),Qm 34 (tq 6) (tq 63),Qh 7 (Qg false)]) .ret)) .skip))) (.seq (.dreg [] [(Ql 64 0 (tq 3),q0),(Qk 65 32 (tq 64),ql 3 [4] [11]),(Qk 66 3 (tq 4),ql 4 [3] [11]),(Qh 67 (tq 2),q0),(Qs 68 305 [(Qw 65),(Qw 66),(Qw 67)],qc [4] [11]),(Qk 69 3 (tq 4),ql 4 [3] [11]),(Qh 70 (tq 2),q0),(oo 71 (.build [(.sc (.int .i64 0)),(.sc (.int .u32 0)),(.sc (.int .u16 0)),(.sc (.int .u32 0)),(.sc (.int .u32 0))] [(0,1,(tq 68)),(1,3,(tq 69)),(4,1,(tq 70))]),q0),(oo 11 (.alloc true [(.sc (.int .i64 0)),(.sc (.int .u32 0)),(.sc (.int .u16 0)),(.sc (.int .u32 0)),(.sc (.int .u32 0))]),qn [3,4] []),(Qm 5 (tq 11) (tq 71),q0)]) (.seq (.reg [Ql 73 32 (tq 8),Qj 74 1 (tq 73),Ql 75 0 (tq 11),Qj 76 1 (tq 75),Qs 77 291 [((tq 74),2),((tq 76),2)],Qi 72 (tq 77),Qq 78 (tq 72) 0,Qq 79 (tq 72) 1,Qh 12 (tq 78),Qh 13 (tq 79)]) (.seq (.seq (.reg [Qh 80 (tq 13),Qh 81 (tq 12),Qp 82 .sub (tq 80) (tq 81),Qp 83 .geq (tq 82) (Qf 8)]) (.cond (tq 83) (.seq (.reg [Qh 84 (tq 12),Qh 14 (tq 84)]) (.seq (.seq (.reg [Qh 85 (tq 12),Qh 15 (tq 85)]) (.block 0 (.loop (bl 59728 129) (bl 680564733841876926926749214863536422903 129) zct))) zg2)) .skip)) zj6)))))))⟩
def ztu:Hint:=⟨[(0,0),(2,3),(5,0),(6,3),(9,0),(11,4),(11,5),(20,0),(21,3),(23,0)],[],[none,none,none,none,none,none,some ((bl 59728 129),(bl 680564733841876926926749214863536422903 129)),none,some ((bl 18768 129),(bl 680564733841876926926749214863536390135 129)),none,none,none,none,none],[],[(1,1,[18,23])],true,true,[]⟩
def zb1:Nat→Sh:=yT [(33,(.int .u32)),(35,(.int .u32)),(56,(.int .u32)),(58,(.int .u32)),(76,(.int .i64)),(97,(.int .u32)),(104,(.int .u32)),(113,(.int .u32)),(115,(.int .u32))]
def zb3(xe:zU)(zm:za8)(xb:yB)(yj:zax)(zi:zay)(yg:y9)(L:Nat):CBC:=(xy 289 (zgg yg L) (xy 292 (ziy zi L) (xy 291 (ziq yj L) (xy 305 (zeD xb L) (xy 287 (zkx zm L) (xy 288 (zeW xe L) noC))))))
def zd0:St→St:=zbd 0 (bl 59728 129) (bl 680564733841876926926749214863536422903 129)
def zdc(p13 a8 a9:Int)(b4:List V)(aH aJ aK aN aQ aR aT aU aW aX C D E F G I J M N O P Q R S U W X Y Z aa ab ac:Int)(ad ae:List (List V))(aY aZ a0 a1 a2 a3 a4 a5 a6 a7 af ag ah ai aj ak al am an ao ap aq ar au av aw ax ay az aC aD aE:Int)(z A:Nat)(ba bb bc:List V):St:=⟨(jn 4 ((V.ptr 4 0)::(jn 1 ((V.ptr 6 0)::(jn 1 ((V.ptr 8 0)::(jn 2 ((V.ptr 11 0)::(jn 1 ((Qe p13)::((Qe a8)::((Qe a9)::(jn 113 []))))))))))))),(gn 4 ((.live true b4)::(gn 1 ((.live false [(Qa aH),(Qa aJ),(Qa aK),(Qa aN),(Qa aQ),(Qa aR),(Qa aT),(Qa aU),(Qa aW),(Qa aX),(Qa C),(Qa D),(Qa E),(Qa F),(Qa G),(Qa I),(Qa J),(Qa M),(Qa N),(Qa O),(Qa P),(Qa Q),(Qa R),(Qa S),(Qa U),(Qa W),(Qa X),(Qa Y),(Qa Z),(Qa aa),(Qa ab),(Qa ac),(V.gs 5 ad),(V.gs 5 ae)])::(gn 1 ((.live false [(Qa aY),(Qa aZ),(Qa a0),(Qa a1),(Qa a2),(Qa a3),(Qa a4),(Qa a5),(Qa a6),(Qa a7),(Qa af),(Qa ag),(Qa ah),(Qa ai),(Qa aj),(Qa ak),(Qa al),(Qa am),(Qa an),(Qa ao),(Qa ap),(Qa aq),(Qa ar),(Qa au),(Qa av),(Qa aw),(Qa ax),(Qa ay),(Qa az),(Qa aC),(Qa aD),(Qa aE),(V.own 18 0 z 5),(V.own 23 0 A 5)])::(gn 2 ((.live true ba)::(gn 6 ((.live true bb)::(gn 4 ((.live true bc)::(gn 105 [])))))))))))))⟩
def znp(a8:Int)(b4:List V)(aH aJ aK aN aQ aR aT aU aW aX C D E F G I J M N O P Q R S U W X Y Z aa ab ac:Int)(ad ae:List (List V))(aY aZ a0 a1 a2 a3 a4 a5 a6 a7 af ag ah ai aj ak al am an ao ap aq ar au av aw ax ay az aC aD aE:Int)(z A:Nat)(a9 ba bb:List V):St:=⟨(jn 4 ((V.ptr 4 0)::(jn 1 ((V.ptr 6 0)::(jn 1 ((V.ptr 8 0)::(jn 2 ((V.ptr 11 0)::(jn 2 ((Qe a8)::(jn 114 []))))))))))),(gn 4 ((.live true b4)::(gn 1 ((.live false [(Qa aH),(Qa aJ),(Qa aK),(Qa aN),(Qa aQ),(Qa aR),(Qa aT),(Qa aU),(Qa aW),(Qa aX),(Qa C),(Qa D),(Qa E),(Qa F),(Qa G),(Qa I),(Qa J),(Qa M),(Qa N),(Qa O),(Qa P),(Qa Q),(Qa R),(Qa S),(Qa U),(Qa W),(Qa X),(Qa Y),(Qa Z),(Qa aa),(Qa ab),(Qa ac),(V.gs 5 ad),(V.gs 5 ae)])::(gn 1 ((.live false [(Qa aY),(Qa aZ),(Qa a0),(Qa a1),(Qa a2),(Qa a3),(Qa a4),(Qa a5),(Qa a6),(Qa a7),(Qa af),(Qa ag),(Qa ah),(Qa ai),(Qa aj),(Qa ak),(Qa al),(Qa am),(Qa an),(Qa ao),(Qa ap),(Qa aq),(Qa ar),(Qa au),(Qa av),(Qa aw),(Qa ax),(Qa ay),(Qa az),(Qa aC),(Qa aD),(Qa aE),(V.own 18 0 z 5),(V.own 23 0 A 5)])::(gn 2 ((.live true a9)::(gn 6 ((.live true ba)::(gn 4 ((.live true bb)::(gn 105 [])))))))))))))⟩
abbrev zjM(β:Type):Type:=Int→Int→Int→List V→Int→Int→Int→Int→Int→Int→Int→Int→Int→Int→Int→Int→Int→Int→Int→Int→Int→Int→Int→Int→Int→Int→Int→Int→Int→Int→Int→Int→Int→Int→Int→Int→List (List V)→List (List V)→Int→Int→Int→Int→Int→Int→Int→Int→Int→Int→Int→Int→Int→Int→Int→Int→Int→Int→Int→Int→Int→Int→Int→Int→Int→Int→Int→Int→Int→Int→Int→Int→Nat→Nat→List V→List V→List V→Option β
abbrev zpW(β:Type):Type:=Int→List V→Int→Int→Int→Int→Int→Int→Int→Int→Int→Int→Int→Int→Int→Int→Int→Int→Int→Int→Int→Int→Int→Int→Int→Int→Int→Int→Int→Int→Int→Int→Int→Int→List (List V)→List (List V)→Int→Int→Int→Int→Int→Int→Int→Int→Int→Int→Int→Int→Int→Int→Int→Int→Int→Int→Int→Int→Int→Int→Int→Int→Int→Int→Int→Int→Int→Int→Int→Int→Nat→Nat→List V→List V→List V→Option β
def zsw{β:Type}(xe:zU)(zm:za8)(xb:yB)(yj:zax)(zi:zay)(yg:y9)(L:Nat)(p0 A:List V)(p2:Int)(I:List V→Bool→Option β)(z:zjM β):Option β:=chk (0+34≤(XI p0)) (xe β L (Xt V.dem (XK 34 p0)) (fun v0 v1 v2 v3 v4 v5 v6 v7 v8 v9 M N O P Q R S U W X Y Z aa ab ac ad ae af ag ah ai aj C D ay aE=>chk (0+3≤(XI A)) (zm β L D (XK 3 A) aE (fun E F=>chk ([(XI F)]=[(XI aE)]) (ifb (decide (E≥(0:Int))) (chk (0≤E∧E<((D:Nat):Int)) (cI .u32 F (((0+((XJ E)*5))+1)+2) fun aK=>cI .u32 A 2 fun aN=>lt (zB6 aK aN) fun aQ=>chk (0≤E∧E<((D:Nat):Int)) (chk (1=1∧(((0+((XJ E)*5))+1)+2)+1≤(XI F)) (lt (xd F (((0+((XJ E)*5))+1)+2) [(Qc aQ)]) fun aR=>I [(Qa v0),(Qa v1),(Qa v2),(Qa v3),(Qa v4),(Qa v5),(Qa v6),(Qa v7),(Qa v8),(Qa v9),(Qa M),(Qa N),(Qa O),(Qa P),(Qa Q),(Qa R),(Qa S),(Qa U),(Qa W),(Qa X),(Qa Y),(Qa Z),(Qa aa),(Qa ab),(Qa ac),(Qa ad),(Qa ae),(Qa af),(Qa ag),(Qa ah),(Qa ai),(Qa aj),(V.sl 5 (ye 5 C ay)),(V.sl 5 (ye 5 D aR))] false)))) (chk (0+3≤(XI A)) (zm β L C (XK 3 A) ay (fun G J=>chk ([(XI J)]=[(XI ay)]) (ifb (decide (G≥(0:Int))) (chk (0≤G∧G<((C:Nat):Int)) (cI .u32 J (((0+((XJ G)*5))+1)+2) fun aT=>cI .u32 A 2 fun aU=>lt (zB6 aT aU) fun aW=>chk (0≤G∧G<((C:Nat):Int)) (chk (1=1∧(((0+((XJ G)*5))+1)+2)+1≤(XI J)) (lt (xd J (((0+((XJ G)*5))+1)+2) [(Qc aW)]) fun aX=>I [(Qa v0),(Qa v1),(Qa v2),(Qa v3),(Qa v4),(Qa v5),(Qa v6),(Qa v7),(Qa v8),(Qa v9),(Qa M),(Qa N),(Qa O),(Qa P),(Qa Q),(Qa R),(Qa S),(Qa U),(Qa W),(Qa X),(Qa Y),(Qa Z),(Qa aa),(Qa ab),(Qa ac),(Qa ad),(Qa ae),(Qa af),(Qa ag),(Qa ah),(Qa ai),(Qa aj),(V.sl 5 (ye 5 C aX)),(V.sl 5 (ye 5 D F))] false)))) (chk (0+32≤(XI p0)) (chk (0+3≤(XI A)) (xb β L (XK 32 p0) (XK 3 A) p2 (fun az=>chk (0+3≤(XI A)) (chk ((XI (XK 3 A))=3∧1+3≤5) (chk (1=1∧4+1≤(XI (xd [(Qe az),(Qc (0:Int)),(Qb (0:Int)),(Qc (0:Int)),(Qc (0:Int))] 1 (XK 3 A)))) (chk ((XI (xd (xd [(Qe az),(Qc (0:Int)),(Qb (0:Int)),(Qc (0:Int)),(Qc (0:Int))] 1 (XK 3 A)) 4 [(Qc p2)]))=5∧0+5≤5) (lt (xd [(Qe (0:Int)),(Qc (0:Int)),(Qb (0:Int)),(Qc (0:Int)),(Qc (0:Int))] 0 (xd (xd [(Qe az),(Qc (0:Int)),(Qb (0:Int)),(Qc (0:Int)),(Qc (0:Int))] 1 (XK 3 A)) 4 [(Qc p2)])) fun ak=>cI .i64 ak 0 fun aY=>yj β L C aY J (fun aC aH al=>chk ([(XI al)]=[(XI J)]) (lt (QF .i64 ((aH:Int)-aC)) fun aZ=>ifb (decide (aZ≥(8:Int))) (z aH aC aC A (0:Int) (0:Int) (0:Int) (0:Int) (0:Int) (0:Int) (0:Int) (0:Int) (0:Int) (0:Int) (0:Int) (0:Int) (0:Int) (0:Int) (0:Int) (0:Int) (0:Int) (0:Int) (0:Int) (0:Int) (0:Int) (0:Int) (0:Int) (0:Int) (0:Int) (0:Int) (0:Int) (0:Int) (0:Int) (0:Int) (0:Int) (0:Int) ([]:List (List V)) ([]:List (List V)) v0 v1 v2 v3 v4 v5 v6 v7 v8 v9 M N O P Q R S U W X Y Z aa ab ac ad ae af ag ah ai aj C D ak al F) (chk (0+5≤(XI ak)) (ifb (List.isEmpty al) (zi β L (ye 5 C al) (XK 5 ak) (fun a0=>I [(Qa v0),(Qa v1),(Qa v2),(Qa v3),(Qa v4),(Qa v5),(Qa v6),(Qa v7),(Qa v8),(Qa v9),(Qa M),(Qa N),(Qa O),(Qa P),(Qa Q),(Qa R),(Qa S),(Qa U),(Qa W),(Qa X),(Qa Y),(Qa Z),(Qa aa),(Qa ab),(Qa ac),(Qa ad),(Qa ae),(Qa af),(Qa ag),(Qa ah),(Qa ai),(Qa aj),(V.sl 5 a0),(V.sl 5 (ye 5 D F))] true)) (zi β L (ye 5 C al) (XK 5 ak) (fun a1=>I [(Qa v0),(Qa v1),(Qa v2),(Qa v3),(Qa v4),(Qa v5),(Qa v6),(Qa v7),(Qa v8),(Qa v9),(Qa M),(Qa N),(Qa O),(Qa P),(Qa Q),(Qa R),(Qa S),(Qa U),(Qa W),(Qa X),(Qa Y),(Qa Z),(Qa aa),(Qa ab),(Qa ac),(Qa ad),(Qa ae),(Qa af),(Qa ag),(Qa ah),(Qa ai),(Qa aj),(V.sl 5 a1),(V.sl 5 (ye 5 D F))] true)))))))))))))))))))))))
theorem zA8{β:Type}(xe:zU)(zm:za8)(xb:yB)(yj:zax)(zi:zay)(yg:y9)(L:Nat)(p0 p1:List V)(p2:Int)(k:KK β):yl zb1 (zb3 xe zm xb yj zi yg L) L zfG [(V.agg p0),(V.agg p1),(Qc p2)] [] k=zsw xe zm xb yj zi yg L p0 p1 p2 (fun aH aJ=>k (V.tup [(V.agg aH),(V.sc (.bool aJ))]) []) (fun p13 bd be b4 aK aN aQ aR aT aU aW aX aY aZ C D E F G I J M N O P Q R S U W X Y Z aa ab ac ad ae a0 a1 a2 a3 a4 a5 a6 a7 a8 a9 af ag ah ai aj ak al am an ao ap aq ar au av aw ax ay az aC aD aE z A bf bg bh=>xE (xi zb1 (zb3 xe zm xb yj zi yg L) 0 L zct) zd0 L (zdc p13 bd be b4 aK aN aQ aR aT aU aW aX aY aZ C D E F G I J M N O P Q R S U W X Y Z aa ab ac ad ae a0 a1 a2 a3 a4 a5 a6 a7 a8 a9 af ag ah ai aj ak al am an ao ap aq ar au av aw ax ay az aC aD aE z A bf bg bh) (zF 0 (zQ (xi zb1 (zb3 xe zm xb yj zi yg L) 0 L zg2) (zQ (xi zb1 (zb3 xe zm xb yj zi yg L) 0 L zj6) (xW 0 (CF.res zfG) k))))):=by kernel_rfl
def zf2{β:Type}(xe:zU)(zm:za8)(xb:yB)(yj:zax)(zi:zay)(yg:y9)(L:Nat)(p13 aK C:Int)(b4:List V)(aQ aR aT aU aW aX aY aZ a0 a1 E F G I J M N O P Q R S U W X Y Z aa ab ac ad ae:Int)(af ag:List (List V))(a2 a3 a4 a5 a6 a7 a8 a9 ba bb ah ai aj ak al am an ao ap aq ar au av aw ax ay az aC aD aE aH aJ:Int)(A D:Nat)(bc aN bd:List V)(z:zjM β)(bf:zpW β):Option β:=ifb (decide (C<p13)) (chk (0≤C∧C<((A:Nat):Int)) (cI .u32 aN (((0+((XJ C)*5))+1)+2) fun bg=>chk (0≤aK∧aK<((A:Nat):Int)) (cI .u32 aN (((0+((XJ aK)*5))+1)+2) fun bh=>ifb (decide (bg<bh)) (lt (QF .i64 ((C:Int)+(1:Int))) fun bi=>z p13 C bi b4 aQ aR aT aU aW aX aY aZ a0 a1 E F G I J M N O P Q R S U W X Y Z aa ab ac ad ae af ag a2 a3 a4 a5 a6 a7 a8 a9 ba bb ah ai aj ak al am an ao ap aq ar au av aw ax ay az aC aD aE aH aJ A D bc aN bd) (lt (QF .i64 ((C:Int)+(1:Int))) fun bj=>z p13 aK bj b4 aQ aR aT aU aW aX aY aZ a0 a1 E F G I J M N O P Q R S U W X Y Z aa ab ac ad ae af ag a2 a3 a4 a5 a6 a7 a8 a9 ba bb ah ai aj ak al am an ao ap aq ar au av aw ax ay az aC aD aE aH aJ A D bc aN bd)))) (bf aK b4 aQ aR aT aU aW aX aY aZ a0 a1 E F G I J M N O P Q R S U W X Y Z aa ab ac ad ae af ag a2 a3 a4 a5 a6 a7 a8 a9 ba bb ah ai aj ak al am an ao ap aq ar au av aw ax ay az aC aD aE aH aJ A D bc aN bd)
theorem zpR{β:Type}(xe:zU)(zm:za8)(xb:yB)(yj:zax)(zi:zay)(yg:y9)(L:Nat)(p13 a9 bd:Int)(b4:List V)(aJ aK aN aQ aR aT aU aW aX aY C D E F G I J M N O P Q R S U W Y Z aa ab ac ad:Int)(ae af:List (List V))(aZ a0 a1 a2 a3 a4 a5 a6 a7 a8 ag ah ai aj ak al am an ao ap aq ar au av aw ax ay az aC aD aE aH:Int)(z A:Nat)(ba bb bc:List V)(X:St→Option β)(K:KT β):xi zb1 (zb3 xe zm xb yj zi yg L) 0 L zct (zdc p13 a9 bd b4 aJ aK aN aQ aR aT aU aW aX aY C D E F G I J M N O P Q R S U W Y Z aa ab ac ad ae af aZ a0 a1 a2 a3 a4 a5 a6 a7 a8 ag ah ai aj ak al am an ao ap aq ar au av aw ax ay az aC aD aE aH z A ba bb bc) (zcz zd0 X K)=zf2 xe zm xb yj zi yg L p13 a9 bd b4 aJ aK aN aQ aR aT aU aW aX aY C D E F G I J M N O P Q R S U W Y Z aa ab ac ad ae af aZ a0 a1 a2 a3 a4 a5 a6 a7 a8 ag ah ai aj ak al am an ao ap aq ar au av aw ax ay az aC aD aE aH z A ba bb bc (fun p13 a9 bd b4 aJ aK aN aQ aR aT aU aW aX aY C D E F G I J M N O P Q R S U W Y Z aa ab ac ad ae af aZ a0 a1 a2 a3 a4 a5 a6 a7 a8 ag ah ai aj ak al am an ao ap aq ar au av aw ax ay az aC aD aE aH z A ba bb bc=>X (zdc p13 a9 bd b4 aJ aK aN aQ aR aT aU aW aX aY C D E F G I J M N O P Q R S U W Y Z aa ab ac ad ae af aZ a0 a1 a2 a3 a4 a5 a6 a7 a8 ag ah ai aj ak al am an ao ap aq ar au av aw ax ay az aC aD aE aH z A ba bb bc)) (fun a9 b4 aJ aK aN aQ aR aT aU aW aX aY C D E F G I J M N O P Q R S U W Y Z aa ab ac ad ae af aZ a0 a1 a2 a3 a4 a5 a6 a7 a8 ag ah ai aj ak al am an ao ap aq ar au av aw ax ay az aC aD aE aH z A ba bb bc=>K (.exit 0) (znp a9 b4 aJ aK aN aQ aR aT aU aW aX aY C D E F G I J M N O P Q R S U W Y Z aa ab ac ad ae af aZ a0 a1 a2 a3 a4 a5 a6 a7 a8 ag ah ai aj ak al am an ao ap aq ar au av aw ax ay az aC aD aE aH z A ba bb bc)):=by kernel_rfl
def zff{β:Type}(xe:zU)(zm:za8)(xb:yB)(yj:zax)(zi:zay)(yg:y9)(L:Nat)(C:Int)(b4:List V)(a9 ba bb bc bd be bf bg bh bi az aC aD aE aH aJ aK aN aQ aR aT aU aW aX aY aZ a0 a1 a2 a3 a4 a5:Int)(a6 a7:List (List V))(ag ah ai aj ak al am an ao ap D E F G I J M N O P Q R S U W X Y Z aa ab ac ad:Int)(z A:Nat)(aq ae ar:List V)(af:List V→Bool→Option β):Option β:=chk (0≤C∧C<((z:Nat):Int)) (cI .u32 ae (((0+((XJ C)*5))+1)+2) fun au=>cI .u32 b4 2 fun av=>ifb (decide (au≥av)) (af [(Qa ag),(Qa ah),(Qa ai),(Qa aj),(Qa ak),(Qa al),(Qa am),(Qa an),(Qa ao),(Qa ap),(Qa D),(Qa E),(Qa F),(Qa G),(Qa I),(Qa J),(Qa M),(Qa N),(Qa O),(Qa P),(Qa Q),(Qa R),(Qa S),(Qa U),(Qa W),(Qa X),(Qa Y),(Qa Z),(Qa aa),(Qa ab),(Qa ac),(Qa ad),(V.sl 5 (ye 5 z ae)),(V.sl 5 (ye 5 A ar))] false) (yg β L z C ae (fun aw ax=>chk ([(XI ax)]=[(XI ae)]) (chk (0+5≤(XI aq)) (zi β L aw (XK 5 aq) (fun ay=>af [(Qa ag),(Qa ah),(Qa ai),(Qa aj),(Qa ak),(Qa al),(Qa am),(Qa an),(Qa ao),(Qa ap),(Qa D),(Qa E),(Qa F),(Qa G),(Qa I),(Qa J),(Qa M),(Qa N),(Qa O),(Qa P),(Qa Q),(Qa R),(Qa S),(Qa U),(Qa W),(Qa X),(Qa Y),(Qa Z),(Qa aa),(Qa ab),(Qa ac),(Qa ad),(V.sl 5 ay),(V.sl 5 (ye 5 A ar))] true))))))
theorem zn7{β:Type}(xe:zU)(zm:za8)(xb:yB)(yj:zax)(zi:zay)(yg:y9)(L:Nat)(a8:Int)(b4:List V)(aH aJ aK aN aQ aR aT aU aW aX C D E F G I J M N O P Q R S U W X Y Z aa ab ac:Int)(ad ae:List (List V))(aY aZ a0 a1 a2 a3 a4 a5 a6 a7 af ag ah ai aj ak al am an ao ap aq ar au av aw ax ay az aC aD aE:Int)(z A:Nat)(a9 ba bb:List V)(k:KK β):(zF 0 (zQ (xi zb1 (zb3 xe zm xb yj zi yg L) 0 L zg2) (zQ (xi zb1 (zb3 xe zm xb yj zi yg L) 0 L zj6) (xW 0 (CF.res zfG) k)))) (.exit 0) (znp a8 b4 aH aJ aK aN aQ aR aT aU aW aX C D E F G I J M N O P Q R S U W X Y Z aa ab ac ad ae aY aZ a0 a1 a2 a3 a4 a5 a6 a7 af ag ah ai aj ak al am an ao ap aq ar au av aw ax ay az aC aD aE z A a9 ba bb)=zff xe zm xb yj zi yg L a8 b4 aH aJ aK aN aQ aR aT aU aW aX C D E F G I J M N O P Q R S U W X Y Z aa ab ac ad ae aY aZ a0 a1 a2 a3 a4 a5 a6 a7 af ag ah ai aj ak al am an ao ap aq ar au av aw ax ay az aC aD aE z A a9 ba bb (fun bc bd=>k (V.tup [(V.agg bc),(V.sc (.bool bd))]) []):=by kernel_rfl
def zcH{β:Type}(xe:zU)(zm:za8)(xb:yB)(yj:zax)(zi:zay)(yg:y9)(L:Nat)(a8:zpW β):Nat→Int→Int→Int→List V→Int→Int→Int→Int→Int→Int→Int→Int→Int→Int→Int→Int→Int→Int→Int→Int→Int→Int→Int→Int→Int→Int→Int→Int→Int→Int→Int→Int→Int→Int→Int→Int→List (List V)→List (List V)→Int→Int→Int→Int→Int→Int→Int→Int→Int→Int→Int→Int→Int→Int→Int→Int→Int→Int→Int→Int→Int→Int→Int→Int→Int→Int→Int→Int→Int→Int→Int→Int→Nat→Nat→List V→List V→List V→Option β
 | 0,_,_,_,_,_,_,_,_,_,_,_,_,_,_,_,_,_,_,_,_,_,_,_,_,_,_,_,_,_,_,_,_,_,_,_,_,_,_,_,_,_,_,_,_,_,_,_,_,_,_,_,_,_,_,_,_,_,_,_,_,_,_,_,_,_,_,_,_,_,_,_,_,_,_,_=>none
 | n+1,p13,a9,ba,b4,aH,aJ,aK,aN,aQ,aR,aT,aU,aW,aX,C,D,E,F,G,I,J,M,N,O,P,Q,R,S,U,W,X,Y,Z,aa,ab,ac,ad,ae,aY,aZ,a0,a1,a2,a3,a4,a5,a6,a7,af,ag,ah,ai,aj,ak,al,am,an,ao,ap,aq,ar,au,av,aw,ax,ay,az,aC,aD,aE,z,A,bb,bc,bd=>zf2 xe zm xb yj zi yg L p13 a9 ba b4 aH aJ aK aN aQ aR aT aU aW aX C D E F G I J M N O P Q R S U W X Y Z aa ab ac ad ae aY aZ a0 a1 a2 a3 a4 a5 a6 a7 af ag ah ai aj ak al am an ao ap aq ar au av aw ax ay az aC aD aE z A bb bc bd (fun p13 a9 ba b4 aH aJ aK aN aQ aR aT aU aW aX C D E F G I J M N O P Q R S U W X Y Z aa ab ac ad ae aY aZ a0 a1 a2 a3 a4 a5 a6 a7 af ag ah ai aj ak al am an ao ap aq ar au av aw ax ay az aC aD aE z A bb bc bd=>zcH xe zm xb yj zi yg L a8 n p13 a9 ba b4 aH aJ aK aN aQ aR aT aU aW aX C D E F G I J M N O P Q R S U W X Y Z aa ab ac ad ae aY aZ a0 a1 a2 a3 a4 a5 a6 a7 af ag ah ai aj ak al am an ao ap aq ar au av aw ax ay az aC aD aE z A bb bc bd) a8
theorem ziC{β:Type}(xe:zU)(zm:za8)(xb:yB)(yj:zax)(zi:zay)(yg:y9)(L:Nat)(K:KT β):∀ (n:Nat) (p13 a8 bc:Int) (b4:List V) (aH aJ aK aN aQ aR aT aU aW aX C D E F G I J M N O P Q R S U W X Y Z aa ab ac:Int) (ad ae:List (List V)) (aY aZ a0 a1 a2 a3 a4 a5 a6 a7 af ag ah ai aj ak al am an ao ap aq ar au av aw ax ay az aC aD aE:Int) (z A:Nat) (a9 ba bb:List V),xE (xi zb1 (zb3 xe zm xb yj zi yg L) 0 L zct) zd0 n (zdc p13 a8 bc b4 aH aJ aK aN aQ aR aT aU aW aX C D E F G I J M N O P Q R S U W X Y Z aa ab ac ad ae aY aZ a0 a1 a2 a3 a4 a5 a6 a7 af ag ah ai aj ak al am an ao ap aq ar au av aw ax ay az aC aD aE z A a9 ba bb) K=zcH xe zm xb yj zi yg L (fun a8 b4 aH aJ aK aN aQ aR aT aU aW aX C D E F G I J M N O P Q R S U W X Y Z aa ab ac ad ae aY aZ a0 a1 a2 a3 a4 a5 a6 a7 af ag ah ai aj ak al am an ao ap aq ar au av aw ax ay az aC aD aE z A a9 ba bb=>K (.exit 0) (znp a8 b4 aH aJ aK aN aQ aR aT aU aW aX C D E F G I J M N O P Q R S U W X Y Z aa ab ac ad ae aY aZ a0 a1 a2 a3 a4 a5 a6 a7 af ag ah ai aj ak al am an ao ap aq ar au av aw ax ay az aC aD aE z A a9 ba bb)) n p13 a8 bc b4 aH aJ aK aN aQ aR aT aU aW aX C D E F G I J M N O P Q R S U W X Y Z aa ab ac ad ae aY aZ a0 a1 a2 a3 a4 a5 a6 a7 af ag ah ai aj ak al am an ao ap aq ar au av aw ax ay az aC aD aE z A a9 ba bb:=by
 intro n
 induction n with
 | zero=>intros; rfl
 | succ n ih=>
  intro p13 a8 bc b4 aH aJ aK aN aQ aR aT aU aW aX C D E F G I J M N O P Q R S U W X Y Z aa ab ac ad ae aY aZ a0 a1 a2 a3 a4 a5 a6 a7 af ag ah ai aj ak al am an ao ap aq ar au av aw ax ay az aC aD aE z A a9 ba bb
  refine (zpR xe zm xb yj zi yg L p13 a8 bc b4 aH aJ aK aN aQ aR aT aU aW aX C D E F G I J M N O P Q R S U W X Y Z aa ab ac ad ae aY aZ a0 a1 a2 a3 a4 a5 a6 a7 af ag ah ai aj ak al am an ao ap aq ar au av aw ax ay az aC aD aE z A a9 ba bb (fun σ=>xE (xi zb1 (zb3 xe zm xb yj zi yg L) 0 L zct) zd0 n σ K) K).trans ?_
  simp only [ih]
  rfl
def zoV{β:Type}(xe:zU)(zm:za8)(xb:yB)(yj:zax)(zi:zay)(yg:y9)(L:Nat)(p0 p1:List V)(p2:Int)(a8:List V→Bool→Option β):Option β:=zsw xe zm xb yj zi yg L p0 p1 p2 a8 (fun p13 a9 be b4 aH aJ aK aN aQ aR aT aU aW aX C D E F G I J M N O P Q R S U W X Y Z aa ab ac ad ae aY aZ a0 a1 a2 a3 a4 a5 a6 a7 af ag ah ai aj ak al am an ao ap aq ar au av aw ax ay az aC aD aE z A ba bb bc=>zcH xe zm xb yj zi yg L (fun a9 b4 aH aJ aK aN aQ aR aT aU aW aX C D E F G I J M N O P Q R S U W X Y Z aa ab ac ad ae aY aZ a0 a1 a2 a3 a4 a5 a6 a7 af ag ah ai aj ak al am an ao ap aq ar au av aw ax ay az aC aD aE z A ba bb bc=>zff xe zm xb yj zi yg L a9 b4 aH aJ aK aN aQ aR aT aU aW aX C D E F G I J M N O P Q R S U W X Y Z aa ab ac ad ae aY aZ a0 a1 a2 a3 a4 a5 a6 a7 af ag ah ai aj ak al am an ao ap aq ar au av aw ax ay az aC aD aE z A ba bb bc a8) L p13 a9 be b4 aH aJ aK aN aQ aR aT aU aW aX C D E F G I J M N O P Q R S U W X Y Z aa ab ac ad ae aY aZ a0 a1 a2 a3 a4 a5 a6 a7 af ag ah ai aj ak al am an ao ap aq ar au av aw ax ay az aC aD aE z A ba bb bc)
theorem zAf{β:Type}(xe:zU)(zm:za8)(xb:yB)(yj:zax)(zi:zay)(yg:y9)(L:Nat)(z A:List V)(C:Int)(k:KK β):yl zb1 (zb3 xe zm xb yj zi yg L) L zfG [(V.agg z),(V.agg A),(Qc C)] [] k=zoV xe zm xb yj zi yg L z A C (fun D E=>k (V.tup [(V.agg D),(V.sc (.bool E))]) []):=by
 refine (zA8 xe zm xb yj zi yg L z A C k).trans ?_
 unfold zoV
 first
  | (simp only [ziC,zn7]; done)
  | (simp only [ziC]; rfl)
abbrev zgr:=∀ (β:Type),Nat→List V→List V→Int→(List V→Bool→Option β)→Option β
def zM(β:Type)(L:Nat)(A C:List V)(D:Int)(z:List V→Bool→Option β):Option β:=zoV xe zm xb yj zi yg L A C D z
def zk6(zM:zgr)(L:Nat)(β:Type)(args:List V)(bor:Bor)(k:KK β):Option β:=match args,bor with
 | [a0,a1,a2],[]=>aG a0 fun C=>aG a1 fun D=>aI .u32 a2 fun E=>zM β L C D E (fun z A=>k (V.tup [(V.agg z),(V.sc (.bool A))]) [])
 | _,_=>none
theorem zz3(L:Nat)(β:Type)(args:List V)(bor:Bor)(k:KK β)(r:β)(h:zk6 zM L β args bor k=some r):yl zb1 (zb3 xe zm xb yj zi yg L) L zfG args bor k=some r:=by
 unfold zk6 at h
 split at h
 ·have q:=xM h; clear h; obtain ⟨z,rfl,h⟩:=q
  have q:=xM h; clear h; obtain ⟨A,rfl,h⟩:=q
  have q:=yo h; clear h; obtain ⟨C,rfl,h⟩:=q
  exact (zAf xe zm xb yj zi yg L z A C k).trans h
 ·cases h
def zmY:CF:=⟨81,[.cellS 4 34 true,.tmpP 5],(.seq (.reg [Qv 2 (tq 0),Qv 3 (tq 1),oo 4 (.alloc false (rp 32 (.sc (.int .u8 0)) (rp 2 (.gs 5 []) []))),Qh 5 (Qf 0)]) (.seq (.seq (.reg [Qk 13 34 (tq 2),Qs 14 281 [((tq 13),1)],Qt 15 (tq 14)]) (.cond (tq 15) (.seq (.reg [oo 16 (.build (rp 32 (.sc (.int .u8 0)) (rp 2 (.sl 5 []) [])) []),Qm 34 (tq 4) (tq 16),Qh 5 (Qf 6)]) .ret) .skip)) (.seq (.reg [Ql 17 32 (tq 2),Qj 18 1 (tq 17),Qk 19 3 (tq 3),Qs 20 287 [((tq 18),2),((tq 19),2)],Qh 6 (tq 20)]) (.seq (.seq (.reg [Qh 21 (tq 6),Qp 22 .lss (tq 21) (Qf 0)]) (.cond (tq 22) (.seq (.reg [oo 23 (.build (rp 32 (.sc (.int .u8 0)) (rp 2 (.sl 5 []) [])) []),Qm 34 (tq 4) (tq 23),Qh 5 (Qf 9)]) .ret) .skip)) (.seq (.reg [Qk 24 34 (tq 2),oo 25 (.call 288 [((tq 24),1)] [15,17]),oo 7 (.alloc false (rp 32 (.sc (.int .u8 0)) (rp 2 (.gs 5 []) []))),Qm 34 (tq 7) (tq 25)]) (.seq (.reg [Ql 26 32 (tq 7),Qj 27 1 (tq 26),Qh 28 (tq 6),Qo 29 5 (tq 27) (tq 28),Qk 30 5 (tq 29),oo 8 (.alloc true [(.sc (.int .i64 0)),(.sc (.int .u32 0)),(.sc (.int .u16 0)),(.sc (.int .u32 0)),(.sc (.int .u32 0))]),Qm 5 (tq 8) (tq 30)]) (.seq (.reg [Ql 31 32 (tq 7),Qj 32 1 (tq 31),Qh 33 (tq 6),Qs 34 289 [((tq 32),2),((tq 33),2)],Ql 35 32 (tq 7),Qm 1 (tq 35) (tq 34)]) (.seq (.reg [Ql 36 0 (tq 2),Qk 37 32 (tq 36),Ql 38 1 (tq 8),Qk 39 3 (tq 38),Qs 40 290 [(Qw 37),(Qw 39)],Ql 41 0 (tq 8),Qm 1 (tq 41) (tq 40)]) (.seq (.reg [Ql 43 33 (tq 7),Qj 44 1 (tq 43),Ql 45 0 (tq 8),Qj 46 1 (tq 45),Qs 47 291 [((tq 44),2),((tq 46),2)],Qi 42 (tq 47),Qq 48 (tq 42) 0,Qq 49 (tq 42) 1,Qh 9 (tq 48),Qh 10 (tq 49)]) (.seq (.reg [oo 11 (.alloc true [(.sc (.int .u32 0)),(.sc (.int .u16 0)),(.sc (.int .u32 0))])]) (.seq (.reg [Qh 50 (tq 10),Qh 51 (tq 9),Qp 52 .sub (tq 50) (tq 51),Qp 53 .geq (tq 52) (Qf 8),Qh 12 (tq 53)]) (.seq (.seq (.reg [Qh 54 (tq 12)]) (.cond (tq 54) (.seq (.reg [Ql 55 33 (tq 7),Qj 56 1 (tq 55),Qh 57 (tq 9),Qo 58 5 (tq 56) (tq 57),Ql 59 1 (tq 58),Qk 60 3 (tq 59),Qm 3 (tq 11) (tq 60)]) (.reg [Ql 61 33 (tq 7),Qj 62 1 (tq 61),Qh 63 (tq 9),Qs 64 289 [((tq 62),2),((tq 63),2)],Ql 65 33 (tq 7),Qm 1 (tq 65) (tq 64)])) .skip)) (.seq (.reg [Ql 66 33 (tq 7),Qj 67 1 (tq 66),Qk 68 5 (tq 8),Qs 69 292 [(Qw 67),(Qw 68)],Ql 70 33 (tq 7),Qm 1 (tq 70) (tq 69)]) (.seq (.seq (.reg [Qh 71 (tq 12)]) (.cond (tq 71) (.dreg [] [(Qk 73 34 (tq 7),ql 7 [11] []),(Qk 74 3 (tq 11),ql 11 [7] []),(Qk 75 3 (tq 11),ql 11 [7] []),(Qs 76 294 [(Qw 75)],qc [7,11] []),(Qs 77 293 [((tq 73),1),(Qw 74),(Qw 76)],q0),(Qi 72 (tq 77),q0),(Qq 78 (tq 72) 0,q0),(Qq 79 (tq 72) 1,q0),(Qm 34 (tq 7) (tq 78),q0)]) .skip)) (.seq (.reg [oo 80 (.load true 34 (tq 7) true),Qm 34 (tq 4) (tq 80),Qh 5 (Qf 0)]) .ret)))))))))))))))⟩
def ztI:Hint:=⟨[(0,0),(3,3),(8,3),(10,4),(10,5),(15,3),(18,5),(19,0)],[],[none,none,none,none,none,none,none],[],[(6,1,[15,17])],true,true,[]⟩
def zro:Nat→Sh:=yT [(18,(.sl 5)),(46,(.int .i64)),(78,(.row [(.int .u8),(.int .u8),(.int .u8),(.int .u8),(.int .u8),(.int .u8),(.int .u8),(.int .u8),(.int .u8),(.int .u8),(.int .u8),(.int .u8),(.int .u8),(.int .u8),(.int .u8),(.int .u8),(.int .u8),(.int .u8),(.int .u8),(.int .u8),(.int .u8),(.int .u8),(.int .u8),(.int .u8),(.int .u8),(.int .u8),(.int .u8),(.int .u8),(.int .u8),(.int .u8),(.int .u8),(.int .u8),(.sl 5),(.sl 5)]))]
def zrb(xp:zby)(xc:yH)(xe:zU)(yg:y9)(ze:yO)(yj:zax)(zi:zay)(yy:zda)(zM:zgr)(L:Nat):CBC:=(xy 293 (zk6 zM L) (xy 294 (zhe yy L) (xy 292 (ziy zi L) (xy 291 (ziq yj L) (xy 290 (zeB ze L) (xy 289 (zgg yg L) (xy 288 (zeW xe L) (xy 287 (zgy xc L) (xy 281 (zfz xp L) noC)))))))))
def zoY{β:Type}(xp:zby)(xc:yH)(xe:zU)(yg:y9)(ze:yO)(yj:zax)(zi:zay)(yy:zda)(zM:zgr)(L:Nat)(p0 p1:List V)(D:List V→Int→Option β):Option β:=chk (0+34≤(XI p0)) (xp β L (Xt V.dem (XK 34 p0)) (fun v0=>ifb (!v0) (D (We 32 (Qa (0:Int))++[(V.sl 5 ([]:List (List V))),(V.sl 5 ([]:List (List V)))]) (6:Int)) (cLd 5 p0 32 fun v1=>chk (0+3≤(XI p1)) (xc β L v1 (XK 3 p1) (fun v2=>ifb (decide (v2<(0:Int))) (D (We 32 (Qa (0:Int))++[(V.sl 5 ([]:List (List V))),(V.sl 5 ([]:List (List V)))]) (9:Int)) (chk (0+34≤(XI p0)) (xe β L (Xt V.dem (XK 34 p0)) (fun v3 v4 v5 v6 v7 v8 v9 G I J M N O P Q R S U W X Y Z aa ab ac ad ae af ag ah ai aj aH am an aJ=>chk (0≤v2∧v2<((aH:Nat):Int)) (chk ((0+((XJ v2)*5))+5≤(XI an)) (chk ((XI (XK 5 (XL (0+((XJ v2)*5)) an)))=5∧0+5≤5) (lt (xd [(Qe (0:Int)),(Qc (0:Int)),(Qb (0:Int)),(Qc (0:Int)),(Qc (0:Int))] 0 (XK 5 (XL (0+((XJ v2)*5)) an))) fun aq=>yg β L aH v2 an (fun ak b0=>chk ([(XI b0)]=[(XI an)]) (chk (0+32≤(XI p0)) (chk (1+3≤(XI aq)) (ze β L (XK 32 p0) (XK 3 (XL 1 aq)) (fun b1=>chk (1=1∧0+1≤(XI aq)) (lt (xd aq 0 [(Qe b1)]) fun al=>cI .i64 al 0 fun b2=>yj β L am b2 aJ (fun F b3 E=>chk ([(XI E)]=[(XI aJ)]) (lt (QF .i64 ((b3:Int)-F)) fun ar=>ifb (decide (ar≥(8:Int))) (chk (0≤F∧F<((am:Nat):Int)) (chk (((0+((XJ F)*5))+1)+3≤(XI E)) (chk ((XI (XK 3 (XL ((0+((XJ F)*5))+1) E)))=3∧0+3≤3) (lt (xd [(Qc (0:Int)),(Qb (0:Int)),(Qc (0:Int))] 0 (XK 3 (XL ((0+((XJ F)*5))+1) E))) fun au=>yg β L am F E (fun b4 b5=>chk ([(XI b5)]=[(XI E)]) (chk (0+5≤(XI al)) (zi β L b4 (XK 5 al) (fun aK=>ifb (decide (ar≥(8:Int))) (chk (0+3≤(XI au)) (chk (0+3≤(XI au)) (yy β L (XK 3 au) (fun b6=>zM β L [(Qa v3),(Qa v4),(Qa v5),(Qa v6),(Qa v7),(Qa v8),(Qa v9),(Qa G),(Qa I),(Qa J),(Qa M),(Qa N),(Qa O),(Qa P),(Qa Q),(Qa R),(Qa S),(Qa U),(Qa W),(Qa X),(Qa Y),(Qa Z),(Qa aa),(Qa ab),(Qa ac),(Qa ad),(Qa ae),(Qa af),(Qa ag),(Qa ah),(Qa ai),(Qa aj),(V.sl 5 ak),(V.sl 5 aK)] (XK 3 au) b6 (fun A cX=>chk (XI A=34) (cI .u8 A 0 fun b7=>cI .u8 A 1 fun b8=>cI .u8 A 2 fun b9=>cI .u8 A 3 fun ca=>cI .u8 A 4 fun cb=>cI .u8 A 5 fun cc=>cI .u8 A 6 fun cd=>cI .u8 A 7 fun ce=>cI .u8 A 8 fun cf=>cI .u8 A 9 fun cg=>cI .u8 A 10 fun ch=>cI .u8 A 11 fun ci=>cI .u8 A 12 fun cj=>cI .u8 A 13 fun ck=>cI .u8 A 14 fun cl=>cI .u8 A 15 fun cm=>cI .u8 A 16 fun cn=>cI .u8 A 17 fun co=>cI .u8 A 18 fun cp=>cI .u8 A 19 fun cq=>cI .u8 A 20 fun cr=>cI .u8 A 21 fun ct=>cI .u8 A 22 fun cu=>cI .u8 A 23 fun cv=>cI .u8 A 24 fun cw=>cI .u8 A 25 fun cx=>cI .u8 A 26 fun cy=>cI .u8 A 27 fun cz=>cI .u8 A 28 fun cA=>cI .u8 A 29 fun cC=>cI .u8 A 30 fun cD=>cI .u8 A 31 fun cE=>cL 5 A 32 fun cF=>cL 5 A 33 fun cH=>D [(Qa b7),(Qa b8),(Qa b9),(Qa ca),(Qa cb),(Qa cc),(Qa cd),(Qa ce),(Qa cf),(Qa cg),(Qa ch),(Qa ci),(Qa cj),(Qa ck),(Qa cl),(Qa cm),(Qa cn),(Qa co),(Qa cp),(Qa cq),(Qa cr),(Qa ct),(Qa cu),(Qa cv),(Qa cw),(Qa cx),(Qa cy),(Qa cz),(Qa cA),(Qa cC),(Qa cD),(Qa cE),(V.sl 5 cF),(V.sl 5 cH)] (0:Int))))))) (D [(Qa v3),(Qa v4),(Qa v5),(Qa v6),(Qa v7),(Qa v8),(Qa v9),(Qa G),(Qa I),(Qa J),(Qa M),(Qa N),(Qa O),(Qa P),(Qa Q),(Qa R),(Qa S),(Qa U),(Qa W),(Qa X),(Qa Y),(Qa Z),(Qa aa),(Qa ab),(Qa ac),(Qa ad),(Qa ae),(Qa af),(Qa ag),(Qa ah),(Qa ai),(Qa aj),(V.sl 5 ak),(V.sl 5 aK)] (0:Int)))))))))) (chk (0+5≤(XI al)) (ifb (List.isEmpty E) (zi β L (ye 5 am E) (XK 5 al) (fun aN=>ifb (decide (ar≥(8:Int))) (yy β L [(Qc (0:Int)),(Qb (0:Int)),(Qc (0:Int))] (fun cJ=>zM β L [(Qa v3),(Qa v4),(Qa v5),(Qa v6),(Qa v7),(Qa v8),(Qa v9),(Qa G),(Qa I),(Qa J),(Qa M),(Qa N),(Qa O),(Qa P),(Qa Q),(Qa R),(Qa S),(Qa U),(Qa W),(Qa X),(Qa Y),(Qa Z),(Qa aa),(Qa ab),(Qa ac),(Qa ad),(Qa ae),(Qa af),(Qa ag),(Qa ah),(Qa ai),(Qa aj),(V.sl 5 ak),(V.sl 5 aN)] [(Qc (0:Int)),(Qb (0:Int)),(Qc (0:Int))] cJ (fun C cY=>chk (XI C=34) (cI .u8 C 0 fun cM=>cI .u8 C 1 fun cN=>cI .u8 C 2 fun cO=>cI .u8 C 3 fun cP=>cI .u8 C 4 fun cQ=>cI .u8 C 5 fun cR=>cI .u8 C 6 fun aQ=>cI .u8 C 7 fun aR=>cI .u8 C 8 fun aT=>cI .u8 C 9 fun aU=>cI .u8 C 10 fun aW=>cI .u8 C 11 fun aX=>cI .u8 C 12 fun aY=>cI .u8 C 13 fun aZ=>cI .u8 C 14 fun a0=>cI .u8 C 15 fun a1=>cI .u8 C 16 fun a2=>cI .u8 C 17 fun a3=>cI .u8 C 18 fun a4=>cI .u8 C 19 fun a5=>cI .u8 C 20 fun a6=>cI .u8 C 21 fun a7=>cI .u8 C 22 fun a8=>cI .u8 C 23 fun a9=>cI .u8 C 24 fun ba=>cI .u8 C 25 fun bb=>cI .u8 C 26 fun bc=>cI .u8 C 27 fun bd=>cI .u8 C 28 fun be=>cI .u8 C 29 fun bf=>cI .u8 C 30 fun bg=>cI .u8 C 31 fun bh=>cL 5 C 32 fun bi=>cL 5 C 33 fun bj=>D [(Qa cM),(Qa cN),(Qa cO),(Qa cP),(Qa cQ),(Qa cR),(Qa aQ),(Qa aR),(Qa aT),(Qa aU),(Qa aW),(Qa aX),(Qa aY),(Qa aZ),(Qa a0),(Qa a1),(Qa a2),(Qa a3),(Qa a4),(Qa a5),(Qa a6),(Qa a7),(Qa a8),(Qa a9),(Qa ba),(Qa bb),(Qa bc),(Qa bd),(Qa be),(Qa bf),(Qa bg),(Qa bh),(V.sl 5 bi),(V.sl 5 bj)] (0:Int))))) (D [(Qa v3),(Qa v4),(Qa v5),(Qa v6),(Qa v7),(Qa v8),(Qa v9),(Qa G),(Qa I),(Qa J),(Qa M),(Qa N),(Qa O),(Qa P),(Qa Q),(Qa R),(Qa S),(Qa U),(Qa W),(Qa X),(Qa Y),(Qa Z),(Qa aa),(Qa ab),(Qa ac),(Qa ad),(Qa ae),(Qa af),(Qa ag),(Qa ah),(Qa ai),(Qa aj),(V.sl 5 ak),(V.sl 5 aN)] (0:Int)))) (zi β L (ye 5 am E) (XK 5 al) (fun aE=>ifb (decide (ar≥(8:Int))) (yy β L [(Qc (0:Int)),(Qb (0:Int)),(Qc (0:Int))] (fun bk=>zM β L [(Qa v3),(Qa v4),(Qa v5),(Qa v6),(Qa v7),(Qa v8),(Qa v9),(Qa G),(Qa I),(Qa J),(Qa M),(Qa N),(Qa O),(Qa P),(Qa Q),(Qa R),(Qa S),(Qa U),(Qa W),(Qa X),(Qa Y),(Qa Z),(Qa aa),(Qa ab),(Qa ac),(Qa ad),(Qa ae),(Qa af),(Qa ag),(Qa ah),(Qa ai),(Qa aj),(V.sl 5 ak),(V.sl 5 aE)] [(Qc (0:Int)),(Qb (0:Int)),(Qc (0:Int))] bk (fun z cW=>chk (XI z=34) (cI .u8 z 0 fun bm=>cI .u8 z 1 fun bn=>cI .u8 z 2 fun bo=>cI .u8 z 3 fun bp=>cI .u8 z 4 fun bq=>cI .u8 z 5 fun br=>cI .u8 z 6 fun bt=>cI .u8 z 7 fun bu=>cI .u8 z 8 fun bv=>cI .u8 z 9 fun bw=>cI .u8 z 10 fun bz=>cI .u8 z 11 fun bC=>cI .u8 z 12 fun bD=>cI .u8 z 13 fun bE=>cI .u8 z 14 fun bF=>cI .u8 z 15 fun bG=>cI .u8 z 16 fun bH=>cI .u8 z 17 fun bI=>cI .u8 z 18 fun bJ=>cI .u8 z 19 fun bK=>cI .u8 z 20 fun bL=>cI .u8 z 21 fun bM=>cI .u8 z 22 fun bN=>cI .u8 z 23 fun bO=>cI .u8 z 24 fun bP=>cI .u8 z 25 fun bQ=>cI .u8 z 26 fun bR=>cI .u8 z 27 fun bS=>cI .u8 z 28 fun bT=>cI .u8 z 29 fun bU=>cI .u8 z 30 fun bV=>cI .u8 z 31 fun bW=>cL 5 z 32 fun bX=>cL 5 z 33 fun bY=>D [(Qa bm),(Qa bn),(Qa bo),(Qa bp),(Qa bq),(Qa br),(Qa bt),(Qa bu),(Qa bv),(Qa bw),(Qa bz),(Qa bC),(Qa bD),(Qa bE),(Qa bF),(Qa bG),(Qa bH),(Qa bI),(Qa bJ),(Qa bK),(Qa bL),(Qa bM),(Qa bN),(Qa bO),(Qa bP),(Qa bQ),(Qa bR),(Qa bS),(Qa bT),(Qa bU),(Qa bV),(Qa bW),(V.sl 5 bX),(V.sl 5 bY)] (0:Int))))) (D [(Qa v3),(Qa v4),(Qa v5),(Qa v6),(Qa v7),(Qa v8),(Qa v9),(Qa G),(Qa I),(Qa J),(Qa M),(Qa N),(Qa O),(Qa P),(Qa Q),(Qa R),(Qa S),(Qa U),(Qa W),(Qa X),(Qa Y),(Qa Z),(Qa aa),(Qa ab),(Qa ac),(Qa ad),(Qa ae),(Qa af),(Qa ag),(Qa ah),(Qa ai),(Qa aj),(V.sl 5 ak),(V.sl 5 aE)] (0:Int)))))))))))))))))))))))))
theorem zAv{β:Type}(xp:zby)(xc:yH)(xe:zU)(yg:y9)(ze:yO)(yj:zax)(zi:zay)(yy:zda)(zM:zgr)(L:Nat)(C D:List V)(k:KK β):yl zro (zrb xp xc xe yg ze yj zi yy zM L) L zmY [(V.agg C),(V.agg D)] [] k=zoY xp xc xe yg ze yj zi yy zM L C D (fun z A=>k (V.tup [(V.agg z),(Qe A)]) []):=by kernel_rfl
abbrev xT:=∀ (β:Type),Nat→List V→List V→(List V→Int→Option β)→Option β
def xf(β:Type)(L:Nat)(A C:List V)(z:List V→Int→Option β):Option β:=zoY xp xc xe yg ze yj zi yy zM L A C z
def zlD(xf:xT)(L:Nat)(β:Type)(args:List V)(bor:Bor)(k:KK β):Option β:=match args,bor with
 | [a0,a1],[]=>aG a0 fun C=>aG a1 fun D=>xf β L C D (fun z A=>k (V.tup [(V.agg z),(Qe A)]) [])
 | _,_=>none
theorem zAC(L:Nat)(β:Type)(args:List V)(bor:Bor)(k:KK β)(r:β)(h:zlD xf L β args bor k=some r):yl zro (zrb xp xc xe yg ze yj zi yy zM L) L zmY args bor k=some r:=by
 unfold zlD at h
 split at h
 ·have q:=xM h; clear h; obtain ⟨z,rfl,h⟩:=q
  have q:=xM h; clear h; obtain ⟨A,rfl,h⟩:=q
  exact (zAv xp xc xe yg ze yj zi yy zM L z A k).trans h
 ·cases h
def zoZ:CF:=⟨18,[.cell 2 true 3],(.seq (.reg [oo 2 (.alloc true [(.sc (.int .u32 0)),(.sc (.int .u16 0)),(.sc (.int .u32 0))])]) (.seq (.reg [Qh 3 (tq 0),Qs 4 231 [(Qw 3),((Qf 6),0)],Qu 5 .u32 (tq 4),oo 6 (.bin .shl (tq 5) (.const (.sc (.int .u64 16)))),Qh 7 (tq 0),Qs 8 231 [(Qw 7),((Qf 5),0)],Qu 9 .u32 (tq 8),Qp 10 .add (tq 6) (tq 9),Qh 11 (tq 0),Qs 12 231 [(Qw 11),((Qf 2),0)],Qu 13 .u16 (tq 12),Qh 14 (tq 0),Qs 15 231 [(Qw 14),((Qf 50),0)],Qu 16 .u32 (tq 15),oo 17 (.build [(.sc (.int .u32 0)),(.sc (.int .u16 0)),(.sc (.int .u32 0))] [(0,1,(tq 10)),(1,1,(tq 13)),(2,1,(tq 16))]),Qm 3 (tq 2) (tq 17)]) .ret))⟩
def zu5:Hint:=⟨[],[],[none],[],[],false,false,[]⟩
def zsc:Nat→Sh:=yT []
def zs0(yd:yN)(L:Nat):CBC:=(xy 231 (zdN yd L) noC)
def zue{β:Type}(yd:yN)(L:Nat)(C:List (List V))(D:Int)(z:List V→List (List V)→Int→Option β):Option β:=yd β L (6:Int) C D (fun P Q R=>lt (QF .u32 P) fun S=>lt (zuk .u32 S (16:Int)) fun U=>yd β L (5:Int) Q R (fun W X Y=>lt (QF .u32 W) fun Z=>lt (QF .u32 ((U:Int)+Z)) fun x9=>yd β L (2:Int) X Y (fun E F G=>lt (QF .u16 E) fun I=>yd β L (50:Int) F G (fun J M N=>lt (QF .u32 J) fun O=>lt [(Qc x9),(Qb I),(Qc O)] fun A=>chk (0=0∧(XI A)=3∧3≠0) (z A M N)))))
theorem zBO{β:Type}(yd:yN)(L:Nat)(z:List (List V))(A:Int)(k:KK β):yl zsc (zs0 yd L) L zoZ [(V.ptr 0 0)] [(.live false [(V.sl 1 z),(Qe A)])] k=zue yd L z A (fun C z A=>k (V.agg C) [(.live false [(V.sl 1 z),(Qe A)])]):=by kernel_rfl
abbrev zbK:=∀ (β:Type),Nat→List (List V)→Int→(List V→List (List V)→Int→Option β)→Option β
def xo(β:Type)(L:Nat)(A:List (List V))(C:Int)(z:List V→List (List V)→Int→Option β):Option β:=zue yd L A C z
def zmG(xo:zbK)(L:Nat)(β:Type)(args:List V)(bor:Bor)(k:KK β):Option β:=match args,bor with
 | [a0],[(.live false [w0_0,w0_1])]=>aP 0 0 a0 (aL 1 w0_0 fun z=>aI .i64 w0_1 fun A=>xo β L z A (fun C z A=>k (V.agg C) [(.live false [(V.sl 1 z),(Qe A)])]))
 | _,_=>none
theorem zBG(L:Nat)(β:Type)(args:List V)(bor:Bor)(k:KK β)(r:β)(h:zmG xo L β args bor k=some r):yl zsc (zs0 yd L) L zoZ args bor k=some r:=by
 unfold zmG at h
 split at h
 ·have q:=zoD h; clear h; obtain ⟨rfl,h⟩:=q
  have q:=zaF h; clear h; obtain ⟨z,rfl,h⟩:=q
  have q:=yo h; clear h; obtain ⟨A,rfl,h⟩:=q
  exact (zBO yd L z A k).trans h
 ·cases h
def zlY:CF:=⟨24,[.cell 6 true 34,.tmp 7,.tmp 8],(.seq (.reg [Qv 3 (tq 0),Qv 4 (tq 1),oo 6 (.alloc true (rp 32 (.sc (.int .u8 0)) (rp 2 (.gs 5 []) []))),Qh 7 (Qg false),Qh 8 (Qf 0)]) (.seq (.seq (.reg [Qk 11 34 (tq 3),Qs 12 281 [((tq 11),1)],Qt 13 (tq 12)]) (.cond (tq 13) (.seq (.reg [oo 14 (.build (rp 32 (.sc (.int .u8 0)) (rp 2 (.sl 5 []) [])) []),Qm 34 (tq 6) (tq 14),Qh 7 (Qg false),Qh 8 (Qf 6)]) .ret) .skip)) (.seq (.reg [Qk 16 34 (tq 3),Qk 17 3 (tq 4),Qh 18 (tq 2),Qs 19 293 [((tq 16),1),(Qw 17),(Qw 18)],Qi 15 (tq 19),Qq 20 (tq 15) 0,Qq 21 (tq 15) 1,oo 9 (.alloc true (rp 32 (.sc (.int .u8 0)) (rp 2 (.gs 5 []) []))),Qm 34 (tq 9) (tq 20),Qh 10 (tq 21)]) (.seq (.reg [Qk 22 34 (tq 9),Qh 23 (tq 10),Qm 34 (tq 6) (tq 22),Qh 7 (tq 23),Qh 8 (Qf 0)]) .ret))))⟩
def zsU:Hint:=⟨[(0,0),(0,2),(3,4),(3,7)],[],[none,none,none],[],[],false,false,[]⟩
def zp2:Nat→Sh:=yT []
def zqd(xp:zby)(zM:zgr)(L:Nat):CBC:=(xy 293 (zk6 zM L) (xy 281 (zfz xp L) noC))
def zrg{β:Type}(xp:zby)(zM:zgr)(L:Nat)(A C:List V)(E:Int)(z:List V→Bool→Int→Option β):Option β:=chk (0+34≤(XI A)) (xp β L (Xt V.dem (XK 34 A)) (fun F=>ifb (!F) (lt (We 32 (Qa (0:Int))++[(V.sl 5 ([]:List (List V))),(V.sl 5 ([]:List (List V)))]) fun r1=>chk (0=0∧(XI r1)=34∧34≠0) (z r1 false (6:Int))) (chk (0+34≤(XI A)) (chk (0+3≤(XI C)) (zM β L (Xt V.dem (XK 34 A)) (XK 3 C) E (fun D G=>chk ((XI D)=34∧0+34≤34) (lt (xd (We 32 (Qa (0:Int))++[(V.gs 5 ([]:List (List V))),(V.gs 5 ([]:List (List V)))]) 0 D) fun r4=>chk (0+34≤(XI r4)) (chk ((XI (XK 34 r4))=34∧0+34≤34) (lt (xd (We 32 (Qa (0:Int))++[(V.gs 5 ([]:List (List V))),(V.gs 5 ([]:List (List V)))]) 0 (XK 34 r4)) fun r5=>chk (0=0∧(XI r5)=34∧34≠0) (z r5 G (0:Int)))))))))))
theorem zzW{β:Type}(xp:zby)(zM:zgr)(L:Nat)(D E:List V)(F:Int)(k:KK β):yl zp2 (zqd xp zM L) L zlY [(V.agg D),(V.agg E),(Qc F)] [] k=zrg xp zM L D E F (fun z A C=>k (V.tup [(V.agg z),(V.sc (.bool A)),(Qe C)]) []):=by kernel_rfl
abbrev zb4:=∀ (β:Type),Nat→List V→List V→Int→(List V→Bool→Int→Option β)→Option β
def yv(β:Type)(L:Nat)(A C:List V)(D:Int)(z:List V→Bool→Int→Option β):Option β:=zrg xp zM L A C D z
def zm1(yv:zb4)(L:Nat)(β:Type)(args:List V)(bor:Bor)(k:KK β):Option β:=match args,bor with
 | [a0,a1,a2],[]=>aG a0 fun D=>aG a1 fun E=>aI .u32 a2 fun F=>yv β L D E F (fun z A C=>k (V.tup [(V.agg z),(V.sc (.bool A)),(Qe C)]) [])
 | _,_=>none
theorem zzz(L:Nat)(β:Type)(args:List V)(bor:Bor)(k:KK β)(r:β)(h:zm1 yv L β args bor k=some r):yl zp2 (zqd xp zM L) L zlY args bor k=some r:=by
 unfold zm1 at h
 split at h
 ·have q:=xM h; clear h; obtain ⟨z,rfl,h⟩:=q
  have q:=xM h; clear h; obtain ⟨A,rfl,h⟩:=q
  have q:=yo h; clear h; obtain ⟨C,rfl,h⟩:=q
  exact (zzW xp zM L z A C k).trans h
 ·cases h
def zfS:CC:=(.seq (.seq (.reg [Qh 10 (tq 4),Qp 11 .gtr (tq 10) (Qf 0)]) (.cond (tq 11) .skip (.seq (.mask (bl 12 49) (bl 313358403731439 49)) (.exit 0)))) (.seq (.block 1 (.seq (.reg [Qh 14 (tq 0),Qs 15 231 [(Qw 14),((Qf 4),0)]]) (.block 2 (.seq (.reg [Qp 28 .eql (tq 15) (Qf 0),Qh 27 (tq 28)]) (.cond (tq 27) (.seq (.reg [Ql 29 32 (tq 3),Qj 30 1 (tq 29),Qr 31 (tq 30),Qp 32 .gtr (tq 31) (Qf 0)]) (.cond (tq 32) (.dreg [] [(Qk 34 34 (tq 3),ql 3 [] []),(Ql 35 32 (tq 3),q0),(Qj 36 1 (tq 35),ql 3 [] []),(Qh 37 (tq 0),q0),(Ql 38 32 (tq 3),q0),(Qj 39 1 (tq 38),ql 3 [] []),(Qr 40 (tq 39),q0),(Qs 41 231 [(Qw 37),(Qw 40)],qc [3] []),(Qo 42 5 (tq 36) (tq 41),q0),(Ql 43 1 (tq 42),q0),(Qk 44 3 (tq 43),qc [3] []),(Qs 45 272 [((tq 34),1),(Qw 44)],q0),(Qi 33 (tq 45),q0),(Qq 46 (tq 33) 0,q0),(Qq 47 (tq 33) 1,q0),(Qm 34 (tq 3) (tq 46),q0)]) .skip)) (.dreg [] [(Qk 17 34 (tq 3),ql 3 [] []),(Qh 18 (tq 0),q0),(Qs 19 262 [(Qw 18)],qc [3] []),(Qh 20 (tq 0),q0),(Qs 21 231 [(Qw 20),((Qf 4),0)],qc [3] []),(Qu 22 .u32 (tq 21),q0),(Qs 23 273 [((tq 17),1),(Qw 19),(Qw 22)],q0),(Qi 16 (tq 23),q0),(Qq 24 (tq 16) 0,q0),(Qq 25 (tq 16) 1,q0),(Qq 26 (tq 16) 2,q0),(Qm 34 (tq 3) (tq 24),q0)])))))) (.reg [Qh 12 (tq 4),Qp 13 .sub (tq 12) (Qf 1),Qh 4 (tq 13)])))
def zqc:CC:=(.seq (.reg [Qk 48 34 (tq 3),Qm 34 (tq 2) (tq 48)]) .ret)
def zgv:CF:=⟨49,[.cell 2 true 34],(.seq (.reg [oo 2 (.alloc true (rp 32 (.sc (.int .u8 0)) (rp 2 (.gs 5 []) [])))]) (.seq (.reg [Qh 5 (tq 0),Qs 6 236 [(Qw 5)],oo 7 (.build (rp 32 (.sc (.int .u8 0)) (rp 2 (.sl 5 []) [])) [(0,32,(tq 6))]),oo 3 (.alloc true (rp 32 (.sc (.int .u8 0)) (rp 2 (.gs 5 []) []))),Qm 34 (tq 3) (tq 7)]) (.seq (.seq (.reg [Qh 8 (tq 0),Qs 9 231 [(Qw 8),((Qf 40),0)],Qh 4 (tq 9)]) (.block 0 (.loop (bl 29 49) (bl 313358403731455 49) zfS))) zqc)))⟩
def zu4:Hint:=⟨[(0,0),(1,3),(9,12),(6,7)],[],[none,some ((bl 29 49),(bl 313358403731455 49)),none,some ((bl 12 49),(bl 313358403731439 49)),none,none,none,none,none],[],[],false,false,[]⟩
def zdB:Nat→Sh:=yT [(30,(.sl 5)),(36,(.sl 5)),(39,(.sl 5))]
def zdz(zB:zdb)(yd:yN)(xf:xT)(xo:zbK)(yv:zb4)(L:Nat):CBC:=(xy 273 (zm1 yv L) (xy 262 (zmG xo L) (xy 272 (zlD xf L) (xy 231 (zdN yd L) (xy 236 (zqj zB L) noC)))))
def zjo:St→St:=zbd 1 (bl 29 49) (bl 313358403731455 49)
def zgP(C:Int)(z:List (List V))(A:Int)(D E:List V):St:=⟨((V.ptr 0 0)::(jn 1 ((V.ptr 3 0)::((V.ptr 4 0)::((Qe C)::(jn 44 [])))))),((.live false [(V.sl 1 z),(Qe A)])::(gn 2 ((.live true D)::((.live true E)::(gn 45 [])))))⟩
def zoK(z:List (List V))(A:Int)(C D:List V):St:=⟨(jn 2 ((V.ptr 3 0)::((V.ptr 4 0)::(jn 45 [])))),((.live false [(V.sl 1 z),(Qe A)])::(gn 2 ((.live true C)::((.live true D)::(gn 45 [])))))⟩
def zt5{β:Type}(zB:zdb)(yd:yN)(xf:xT)(xo:zbK)(yv:zb4)(L:Nat)(A:List (List V))(C:Int)(z:Int→List (List V)→Int→List V→List V→Option β):Option β:=zB β L A C (fun D E F=>chk ((XI D)=32∧0+32≤34) (chk ((XI (xd (We 32 (Qa (0:Int))++[(V.sl 5 ([]:List (List V))),(V.sl 5 ([]:List (List V)))]) 0 D))=34∧0+34≤34) (lt (xd (We 32 (Qa (0:Int))++[(V.gs 5 ([]:List (List V))),(V.gs 5 ([]:List (List V)))]) 0 (xd (We 32 (Qa (0:Int))++[(V.sl 5 ([]:List (List V))),(V.sl 5 ([]:List (List V)))]) 0 D)) fun r3=>yd β L (40:Int) E F (fun G I J=>z G I J (We 32 (Qa (0:Int))++[(V.gs 5 ([]:List (List V))),(V.gs 5 ([]:List (List V)))]) r3))))
theorem zBL{β:Type}(zB:zdb)(yd:yN)(xf:xT)(xo:zbK)(yv:zb4)(L:Nat)(z:List (List V))(A:Int)(k:KK β):yl zdB (zdz zB yd xf xo yv L) L zgv [(V.ptr 0 0)] [(.live false [(V.sl 1 z),(Qe A)])] k=zt5 zB yd xf xo yv L z A (fun C z A D E=>xE (xi zdB (zdz zB yd xf xo yv L) 1 L zfS) zjo L (zgP C z A D E) (zF 0 (zQ (xi zdB (zdz zB yd xf xo yv L) 1 L zqc) (xW 1 (CF.res zgv) k)))):=by kernel_rfl
def zeV{β:Type}(zB:zdb)(yd:yN)(xf:xT)(xo:zbK)(yv:zb4)(L:Nat)(E:Int)(C:List (List V))(D:Int)(F A:List V)(z:Int→List (List V)→Int→List V→List V→Option β)(J:List (List V)→Int→List V→List V→Option β):Option β:=ifb (decide (E>(0:Int))) (yd β L (4:Int) C D (fun v7 M N=>ifb ((v7:Int)==(0:Int)) (cLd 5 A 32 fun O=>ifb (decide (((XI O:Nat):Int)>(0:Int))) (chk (0+34≤(XI A)) (cLd 5 A 32 fun P=>cLd 5 A 32 fun Q=>yd β L ((XI Q:Nat):Int) M N (fun R S U=>idx P R fun W=>xf β L (Xt V.dem (XK 34 A)) (XK 3 (XL 1 W)) (fun G ak=>chk ((XI G)=34∧0+34≤(XI A)) (lt (xd A 0 G) fun X=>lt (QF .i64 ((E:Int)-(1:Int))) fun Y=>z Y S U F X))))) (lt (QF .i64 ((E:Int)-(1:Int))) fun Z=>z Z M N F A)) (chk (0+34≤(XI A)) (xo β L M N (fun aa ab ac=>yd β L (4:Int) ab ac (fun ad ae af=>lt (QF .u32 ad) fun ag=>yv β L (Xt V.dem (XK 34 A)) aa ag (fun I al am=>chk ((XI I)=34∧0+34≤(XI A)) (lt (xd A 0 I) fun ah=>lt (QF .i64 ((E:Int)-(1:Int))) fun ai=>z ai ae af F ah)))))))) (J C D F A)
theorem zwN{β:Type}(zB:zdb)(yd:yN)(xf:xT)(xo:zbK)(yv:zb4)(L:Nat)(E:Int)(z:List (List V))(A:Int)(C D:List V)(X:St→Option β)(K:KT β):xi zdB (zdz zB yd xf xo yv L) 1 L zfS (zgP E z A C D) (zcz zjo X K)=zeV zB yd xf xo yv L E z A C D (fun E z A C D=>X (zgP E z A C D)) (fun z A C D=>K (.exit 0) (zoK z A C D)):=by kernel_rfl
def zlv{β:Type}(zB:zdb)(yd:yN)(xf:xT)(xo:zbK)(yv:zb4)(L:Nat)(C:List (List V))(D:Int)(F E:List V)(z:List V→List (List V)→Int→Option β):Option β:=chk (0+34≤(XI E)) (chk ((XI (XK 34 E))=34∧0+34≤(XI F)) (lt (xd F 0 (XK 34 E)) fun A=>chk (0=0∧(XI A)=34∧34≠0) (z A C D)))
theorem zuO{β:Type}(zB:zdb)(yd:yN)(xf:xT)(xo:zbK)(yv:zb4)(L:Nat)(z:List (List V))(A:Int)(C D:List V)(k:KK β):(zF 0 (zQ (xi zdB (zdz zB yd xf xo yv L) 1 L zqc) (xW 1 (CF.res zgv) k))) (.exit 0) (zoK z A C D)=zlv zB yd xf xo yv L z A C D (fun E z A=>k (V.agg E) [(.live false [(V.sl 1 z),(Qe A)])]):=by kernel_rfl
def zcZ{β:Type}(zB:zdb)(yd:yN)(xf:xT)(xo:zbK)(yv:zb4)(L:Nat)(C:List (List V)→Int→List V→List V→Option β):Nat→Int→List (List V)→Int→List V→List V→Option β
 | 0,_,_,_,_,_=>none
 | n+1,D,z,A,E,F=>zeV zB yd xf xo yv L D z A E F (fun D z A E F=>zcZ zB yd xf xo yv L C n D z A E F) C
theorem zpk{β:Type}(zB:zdb)(yd:yN)(xf:xT)(xo:zbK)(yv:zb4)(L:Nat)(K:KT β):∀ (n:Nat) (E:Int) (z:List (List V)) (A:Int) (C D:List V),xE (xi zdB (zdz zB yd xf xo yv L) 1 L zfS) zjo n (zgP E z A C D) K=zcZ zB yd xf xo yv L (fun z A C D=>K (.exit 0) (zoK z A C D)) n E z A C D:=by
 intro n
 induction n with
 | zero=>intros; rfl
 | succ n ih=>
  intro E z A C D
  refine (zwN zB yd xf xo yv L E z A C D (fun σ=>xE (xi zdB (zdz zB yd xf xo yv L) 1 L zfS) zjo n σ K) K).trans ?_
  simp only [ih]
  rfl
def zqp{β:Type}(zB:zdb)(yd:yN)(xf:xT)(xo:zbK)(yv:zb4)(L:Nat)(z:List (List V))(A:Int)(C:List V→List (List V)→Int→Option β):Option β:=zt5 zB yd xf xo yv L z A (fun F z A D E=>zcZ zB yd xf xo yv L (fun z A D E=>zlv zB yd xf xo yv L z A D E C) L F z A D E)
theorem zB8{β:Type}(zB:zdb)(yd:yN)(xf:xT)(xo:zbK)(yv:zb4)(L:Nat)(z:List (List V))(A:Int)(k:KK β):yl zdB (zdz zB yd xf xo yv L) L zgv [(V.ptr 0 0)] [(.live false [(V.sl 1 z),(Qe A)])] k=zqp zB yd xf xo yv L z A (fun C z A=>k (V.agg C) [(.live false [(V.sl 1 z),(Qe A)])]):=by
 refine (zBL zB yd xf xo yv L z A k).trans ?_
 unfold zqp
 first
  | (simp only [zpk,zuO]; done)
  | (simp only [zpk]; rfl)
abbrev zcc:=∀ (β:Type),Nat→List (List V)→Int→(List V→List (List V)→Int→Option β)→Option β
def zy(β:Type)(L:Nat)(A:List (List V))(C:Int)(z:List V→List (List V)→Int→Option β):Option β:=zqp zB yd xf xo yv L A C z
def zqk(zy:zcc)(L:Nat)(β:Type)(args:List V)(bor:Bor)(k:KK β):Option β:=match args,bor with
 | [a0],[(.live false [w0_0,w0_1])]=>aP 0 0 a0 (aL 1 w0_0 fun z=>aI .i64 w0_1 fun A=>zy β L z A (fun C z A=>k (V.agg C) [(.live false [(V.sl 1 z),(Qe A)])]))
 | _,_=>none
theorem zBX(L:Nat)(β:Type)(args:List V)(bor:Bor)(k:KK β)(r:β)(h:zqk zy L β args bor k=some r):yl zdB (zdz zB yd xf xo yv L) L zgv args bor k=some r:=by
 unfold zqk at h
 split at h
 ·have q:=zoD h; clear h; obtain ⟨rfl,h⟩:=q
  have q:=zaF h; clear h; obtain ⟨z,rfl,h⟩:=q
  have q:=yo h; clear h; obtain ⟨A,rfl,h⟩:=q
  exact (zB8 zB yd xf xo yv L z A k).trans h
 ·cases h
def zoL:CF:=⟨45,[.cell 4 true 3],(.seq (.reg [Qv 3 (tq 1),oo 4 (.alloc true [(.sc (.int .u32 0)),(.sc (.int .u16 0)),(.sc (.int .u32 0))])]) (.seq (.seq (.reg [Ql 7 32 (tq 3),Qj 8 1 (tq 7),Qr 9 (tq 8),Qh 5 (tq 9)]) (.seq (.reg [Qh 10 (tq 5),Qp 11 .gtr (tq 10) (Qf 0),Qh 12 (tq 11),⟨(some 13),false,(some (12,true)),.move (tq 0) false⟩,⟨(some 14),false,(some (12,true)),.call 231 [(Qw 13),((Qf 2),0)] []⟩,⟨(some 15),false,(some (12,true)),.bin .eql (tq 14) (Qf 0)⟩,oo 16 (.pick (tq 12) (tq 15) (Qg false))]) (.cond (tq 16) (.seq (.dreg [] [(Ql 17 32 (tq 3),q0),(Qj 18 1 (tq 17),ql 3 [] []),(Qh 19 (tq 0),q0),(Qh 20 (tq 5),q0),(Qs 21 231 [(Qw 19),(Qw 20)],qc [3] []),(Qo 22 5 (tq 18) (tq 21),q0),(Ql 23 1 (tq 22),q0),(Qk 24 3 (tq 23),q0),(Qm 3 (tq 4) (tq 24),q0)]) .ret) .skip))) (.seq (.seq (.reg [Ql 25 33 (tq 3),Qj 26 1 (tq 25),Qr 27 (tq 26),Qh 6 (tq 27)]) (.seq (.reg [Qh 28 (tq 6),Qp 29 .gtr (tq 28) (Qf 0),Qh 30 (tq 29),⟨(some 31),false,(some (30,true)),.move (tq 0) false⟩,⟨(some 32),false,(some (30,true)),.call 231 [(Qw 31),((Qf 2),0)] []⟩,⟨(some 33),false,(some (30,true)),.bin .eql (tq 32) (Qf 0)⟩,oo 34 (.pick (tq 30) (tq 33) (Qg false))]) (.cond (tq 34) (.seq (.dreg [] [(Ql 35 33 (tq 3),q0),(Qj 36 1 (tq 35),ql 3 [] []),(Qh 37 (tq 0),q0),(Qh 38 (tq 6),q0),(Qs 39 231 [(Qw 37),(Qw 38)],qc [3] []),(Qo 40 5 (tq 36) (tq 39),q0),(Ql 41 1 (tq 40),q0),(Qk 42 3 (tq 41),q0),(Qm 3 (tq 4) (tq 42),q0)]) .ret) .skip))) (.seq (.reg [Qh 43 (tq 0),Qs 44 262 [(Qw 43)],Qm 3 (tq 4) (tq 44)]) .ret))))⟩
def zuL:Hint:=⟨[(0,0)],[],[none,none,none,none,none],[],[],false,false,[]⟩
def zsL:Nat→Sh:=yT [(8,(.sl 5)),(18,(.sl 5)),(26,(.sl 5)),(36,(.sl 5))]
def zs1(yd:yN)(xo:zbK)(L:Nat):CBC:=(xy 262 (zmG xo L) (xy 231 (zdN yd L) noC))
def zmJ{β:Type}(yd:yN)(xo:zbK)(L:Nat)(D:List V)(A:List (List V))(C:Int)(z:List V→List (List V)→Int→Option β):Option β:=cLd 5 D 32 fun v0=>ifb (decide (((XI v0:Nat):Int)>(0:Int))) (yd β L (2:Int) A C (fun v1 v2 v3=>ifb ((v1:Int)==(0:Int)) (cLd 5 D 32 fun v4=>yd β L ((XI v0:Nat):Int) v2 v3 (fun v5 v6 v7=>idx v4 v5 fun c8=>chk ((XI (XK 3 (XL 1 c8)))=3∧0+3≤3) (lt (xd [(Qc (0:Int)),(Qb (0:Int)),(Qc (0:Int))] 0 (XK 3 (XL 1 c8))) fun r9=>chk (0=0∧(XI r9)=3∧3≠0) (z r9 v6 v7)))) (cLd 5 D 33 fun E=>ifb (decide (((XI E:Nat):Int)>(0:Int))) (yd β L (2:Int) v2 v3 (fun af F G=>ifb ((af:Int)==(0:Int)) (cLd 5 D 33 fun ag=>yd β L ((XI E:Nat):Int) F G (fun ah ai aj=>idx ag ah fun I=>chk ((XI (XK 3 (XL 1 I)))=3∧0+3≤3) (lt (xd [(Qc (0:Int)),(Qb (0:Int)),(Qc (0:Int))] 0 (XK 3 (XL 1 I))) fun J=>chk (0=0∧(XI J)=3∧3≠0) (z J ai aj)))) (xo β L F G (fun M ak al=>chk ((XI M)=3∧0+3≤3) (lt (xd [(Qc (0:Int)),(Qb (0:Int)),(Qc (0:Int))] 0 M) fun N=>chk (0=0∧(XI N)=3∧3≠0) (z N ak al)))))) (xo β L v2 v3 (fun O am an=>chk ((XI O)=3∧0+3≤3) (lt (xd [(Qc (0:Int)),(Qb (0:Int)),(Qc (0:Int))] 0 O) fun P=>chk (0=0∧(XI P)=3∧3≠0) (z P am an))))))) (cLd 5 D 33 fun Q=>ifb (decide (((XI Q:Nat):Int)>(0:Int))) (yd β L (2:Int) A C (fun ao R S=>ifb ((ao:Int)==(0:Int)) (cLd 5 D 33 fun ap=>yd β L ((XI Q:Nat):Int) R S (fun aq ar au=>idx ap aq fun U=>chk ((XI (XK 3 (XL 1 U)))=3∧0+3≤3) (lt (xd [(Qc (0:Int)),(Qb (0:Int)),(Qc (0:Int))] 0 (XK 3 (XL 1 U))) fun W=>chk (0=0∧(XI W)=3∧3≠0) (z W ar au)))) (xo β L R S (fun X av aw=>chk ((XI X)=3∧0+3≤3) (lt (xd [(Qc (0:Int)),(Qb (0:Int)),(Qc (0:Int))] 0 X) fun Y=>chk (0=0∧(XI Y)=3∧3≠0) (z Y av aw)))))) (xo β L A C (fun Z ax ay=>chk ((XI Z)=3∧0+3≤3) (lt (xd [(Qc (0:Int)),(Qb (0:Int)),(Qc (0:Int))] 0 Z) fun aa=>chk (0=0∧(XI aa)=3∧3≠0) (z aa ax ay)))))
theorem zCc{β:Type}(yd:yN)(xo:zbK)(L:Nat)(C:List V)(z:List (List V))(A:Int)(k:KK β):yl zsL (zs1 yd xo L) L zoL [(V.ptr 0 0),(V.agg C)] [(.live false [(V.sl 1 z),(Qe A)])] k=zmJ yd xo L C z A (fun D z A=>k (V.agg D) [(.live false [(V.sl 1 z),(Qe A)])]):=by kernel_rfl
abbrev zcf:=∀ (β:Type),Nat→List V→List (List V)→Int→(List V→List (List V)→Int→Option β)→Option β
def xw(β:Type)(L:Nat)(D:List V)(A:List (List V))(C:Int)(z:List V→List (List V)→Int→Option β):Option β:=zmJ yd xo L D A C z
def zqv(xw:zcf)(L:Nat)(β:Type)(args:List V)(bor:Bor)(k:KK β):Option β:=match args,bor with
 | [a0,a1],[(.live false [w0_0,w0_1])]=>aP 0 0 a0 (aG a1 fun C=>aL 1 w0_0 fun z=>aI .i64 w0_1 fun A=>xw β L C z A (fun D z A=>k (V.agg D) [(.live false [(V.sl 1 z),(Qe A)])]))
 | _,_=>none
theorem zCe(L:Nat)(β:Type)(args:List V)(bor:Bor)(k:KK β)(r:β)(h:zqv xw L β args bor k=some r):yl zsL (zs1 yd xo L) L zoL args bor k=some r:=by
 unfold zqv at h
 split at h
 ·have q:=zoD h; clear h; obtain ⟨rfl,h⟩:=q
  have q:=xM h; clear h; obtain ⟨C,rfl,h⟩:=q
  have q:=zaF h; clear h; obtain ⟨z,rfl,h⟩:=q
  have q:=yo h; clear h; obtain ⟨A,rfl,h⟩:=q
  exact (zCc yd xo L C z A k).trans h
 ·cases h
def zlS:CF:=⟨73,[.cellS 6 34 true],(.seq (.reg [oo 3 (.box false (tq 0)),oo 6 (.alloc false (rp 32 (.sc (.int .u8 0)) (rp 2 (.gs 5 []) [])))]) (.seq (.reg [Qk 8 34 (tq 3),oo 9 (.call 288 [((tq 8),1)] [10,13]),Qm 34 (tq 3) (tq 9)]) (.seq (.seq (.reg [Ql 10 32 (tq 3),Qj 11 1 (tq 10),Qr 12 (tq 11),Qp 13 .gtr (tq 12) (Qf 0)]) (.cond (tq 13) (.seq (.dreg [] [(Ql 14 32 (tq 3),q0),(Qj 15 1 (tq 14),ql 3 [] []),(Qh 16 (tq 2),q0),(Ql 17 32 (tq 3),q0),(Qj 18 1 (tq 17),ql 3 [] []),(Qr 19 (tq 18),q0),(Qs 20 217 [(Qw 16),(Qw 19)],qc [3] []),(Qo 21 5 (tq 15) (tq 20),q0),(Qh 7 (tq 21),q0)]) (.seq (.reg [Qh 22 (tq 1),Qs 23 217 [(Qw 22),((Qf 6),0)]]) (.block 0 (.seq (.reg [Qp 25 .eql (tq 23) (Qf 0),Qh 24 (tq 25)]) (.cond (tq 24) (.reg [Qh 26 (tq 7),Qh 27 (tq 2),Qs 28 217 [(Qw 27),((Qf 70),0)],Qp 29 .sub (tq 28) (Qf 3),oo 30 (.nilCheck (tq 26)),Ql 31 0 (tq 30),Qm 1 (tq 31) (tq 29)]) (.seq (.reg [Qp 33 .eql (tq 23) (Qf 1),Qh 32 (tq 33)]) (.cond (tq 32) (.reg [Qh 34 (tq 7),oo 35 (.nilCheck (tq 34)),Ql 36 1 (tq 35),Ql 37 0 (tq 36),Qj 38 1 (tq 37),oo 39 (.bin .add (tq 38) (.const (.sc (.int .u32 1)))),oo 40 (.nilCheck (tq 34)),Ql 41 1 (tq 40),Ql 42 0 (tq 41),Qm 1 (tq 42) (tq 39)]) (.seq (.reg [Qp 44 .eql (tq 23) (Qf 2),Qh 43 (tq 44)]) (.cond (tq 43) (.reg [Qh 45 (tq 7),oo 46 (.nilCheck (tq 45)),Ql 47 4 (tq 46),Qj 48 1 (tq 47),oo 49 (.bin .add (tq 48) (.const (.sc (.int .u32 1)))),oo 50 (.nilCheck (tq 45)),Ql 51 4 (tq 50),Qm 1 (tq 51) (tq 49)]) (.seq (.reg [Qp 53 .eql (tq 23) (Qf 3),Qh 52 (tq 53)]) (.cond (tq 52) (.dreg [] [(Ql 54 33 (tq 3),q0),(oo 55 (.load false 1 (tq 54) true),ql 3 [7] [59]),(Qh 56 (tq 7),q0),(oo 57 (.nilCheck (tq 56)),q0),(Qk 58 5 (tq 57),ql 7 [3] []),(oo 59 (.buildSlice 5 1 [(.sc (.int .i64 0)),(.sc (.int .u32 0)),(.sc (.int .u16 0)),(.sc (.int .u32 0)),(.sc (.int .u32 0))] [(0,5,(tq 58))]),qn [3] []),(oo 60 (.append 5 24 (tq 55) (tq 59)),q0),(Ql 61 33 (tq 3),q0),(Qm 1 (tq 61) (tq 60),q0)]) (.seq (.reg [Qp 63 .eql (tq 23) (Qf 4),Qh 62 (tq 63)]) (.cond (tq 62) (.dreg [] [(Ql 64 32 (tq 3),q0),(oo 65 (.load false 1 (tq 64) true),ql 3 [7] [69]),(Qh 66 (tq 7),q0),(oo 67 (.nilCheck (tq 66)),q0),(Qk 68 5 (tq 67),ql 7 [3] []),(oo 69 (.buildSlice 5 1 [(.sc (.int .i64 0)),(.sc (.int .u32 0)),(.sc (.int .u16 0)),(.sc (.int .u32 0)),(.sc (.int .u32 0))] [(0,5,(tq 68))]),qn [3] []),(oo 70 (.append 5 24 (tq 65) (tq 69)),q0),(Ql 71 32 (tq 3),q0),(Qm 1 (tq 71) (tq 70),q0)]) .skip))))))))))))) .skip)) (.seq (.reg [oo 72 (.load true 34 (tq 3) true),Qm 34 (tq 6) (tq 72)]) .ret))))⟩
def zse:Hint:=⟨[(12,1),(14,1),(15,0)],[],[none,none,none,none,none,none,none,none],[],[(1,1,[10,13])],true,true,[]⟩
def zpP:Nat→Sh:=yT [(3,(.row [(.int .u8),(.int .u8),(.int .u8),(.int .u8),(.int .u8),(.int .u8),(.int .u8),(.int .u8),(.int .u8),(.int .u8),(.int .u8),(.int .u8),(.int .u8),(.int .u8),(.int .u8),(.int .u8),(.int .u8),(.int .u8),(.int .u8),(.int .u8),(.int .u8),(.int .u8),(.int .u8),(.int .u8),(.int .u8),(.int .u8),(.int .u8),(.int .u8),(.int .u8),(.int .u8),(.int .u8),(.int .u8),(.sl 5),(.sl 5)])),(38,(.int .u32)),(48,(.int .u32))]
def zpG(xe:zU)(xS:zjF)(L:Nat):CBC:=(xy 217 (zoz xS L) (xy 288 (zeW xe L) noC))
def zdG{β:Type}(xe:zU)(xS:zjF)(L:Nat)(C:List V)(p1 p2:Int)(E:List V→Option β):Option β:=chk (XI C=34) (cI .u8 C 0 fun v0=>cI .u8 C 1 fun v1=>cI .u8 C 2 fun v2=>cI .u8 C 3 fun v3=>cI .u8 C 4 fun v4=>cI .u8 C 5 fun v5=>cI .u8 C 6 fun v6=>cI .u8 C 7 fun v7=>cI .u8 C 8 fun v8=>cI .u8 C 9 fun v9=>cI .u8 C 10 fun aw=>cI .u8 C 11 fun ax=>cI .u8 C 12 fun ay=>cI .u8 C 13 fun az=>cI .u8 C 14 fun aC=>cI .u8 C 15 fun aD=>cI .u8 C 16 fun aE=>cI .u8 C 17 fun aH=>cI .u8 C 18 fun aJ=>cI .u8 C 19 fun aK=>cI .u8 C 20 fun aN=>cI .u8 C 21 fun aQ=>cI .u8 C 22 fun aR=>cI .u8 C 23 fun aT=>cI .u8 C 24 fun aU=>cI .u8 C 25 fun aW=>cI .u8 C 26 fun aX=>cI .u8 C 27 fun aY=>cI .u8 C 28 fun aZ=>cI .u8 C 29 fun a0=>cI .u8 C 30 fun a1=>cI .u8 C 31 fun a2=>cL 5 C 32 fun a3=>cL 5 C 33 fun a4=>xe β L [(Qa v0),(Qa v1),(Qa v2),(Qa v3),(Qa v4),(Qa v5),(Qa v6),(Qa v7),(Qa v8),(Qa v9),(Qa aw),(Qa ax),(Qa ay),(Qa az),(Qa aC),(Qa aD),(Qa aE),(Qa aH),(Qa aJ),(Qa aK),(Qa aN),(Qa aQ),(Qa aR),(Qa aT),(Qa aU),(Qa aW),(Qa aX),(Qa aY),(Qa aZ),(Qa a0),(Qa a1),(Qa a2),(V.sl 5 a3),(V.sl 5 a4)] (fun I J M N O P Q R S U W X Y Z aa ab ac ad ae af ag ah ai aj ak al am an ao ap aq ar D F z G=>ifb (decide (((D:Nat):Int)>(0:Int))) (xS β L p2 ((D:Nat):Int) (fun A=>chk (0≤A∧A<((D:Nat):Int)) (xS β L p1 (6:Int) (fun au=>ifb ((au:Int)==(0:Int)) (xS β L p2 (70:Int) (fun a5=>lt (QF .i64 ((a5:Int)-(3:Int))) fun a6=>chk (1=1∧((0+((XJ A)*5))+0)+1≤(XI z)) (lt (xd z ((0+((XJ A)*5))+0) [(Qe a6)]) fun a7=>E [(Qa I),(Qa J),(Qa M),(Qa N),(Qa O),(Qa P),(Qa Q),(Qa R),(Qa S),(Qa U),(Qa W),(Qa X),(Qa Y),(Qa Z),(Qa aa),(Qa ab),(Qa ac),(Qa ad),(Qa ae),(Qa af),(Qa ag),(Qa ah),(Qa ai),(Qa aj),(Qa ak),(Qa al),(Qa am),(Qa an),(Qa ao),(Qa ap),(Qa aq),(Qa ar),(V.sl 5 (ye 5 D a7)),(V.sl 5 (ye 5 F G))]))) (ifb ((au:Int)==(1:Int)) (cI .u32 z (((0+((XJ A)*5))+1)+0) fun a8=>lt (QF .u32 ((a8:Int)+(1:Int))) fun a9=>chk (1=1∧(((0+((XJ A)*5))+1)+0)+1≤(XI z)) (lt (xd z (((0+((XJ A)*5))+1)+0) [(Qc a9)]) fun ba=>E [(Qa I),(Qa J),(Qa M),(Qa N),(Qa O),(Qa P),(Qa Q),(Qa R),(Qa S),(Qa U),(Qa W),(Qa X),(Qa Y),(Qa Z),(Qa aa),(Qa ab),(Qa ac),(Qa ad),(Qa ae),(Qa af),(Qa ag),(Qa ah),(Qa ai),(Qa aj),(Qa ak),(Qa al),(Qa am),(Qa an),(Qa ao),(Qa ap),(Qa aq),(Qa ar),(V.sl 5 (ye 5 D ba)),(V.sl 5 (ye 5 F G))])) (ifb ((au:Int)==(2:Int)) (cI .u32 z ((0+((XJ A)*5))+4) fun bb=>lt (QF .u32 ((bb:Int)+(1:Int))) fun bc=>chk (1=1∧((0+((XJ A)*5))+4)+1≤(XI z)) (lt (xd z ((0+((XJ A)*5))+4) [(Qc bc)]) fun bd=>E [(Qa I),(Qa J),(Qa M),(Qa N),(Qa O),(Qa P),(Qa Q),(Qa R),(Qa S),(Qa U),(Qa W),(Qa X),(Qa Y),(Qa Z),(Qa aa),(Qa ab),(Qa ac),(Qa ad),(Qa ae),(Qa af),(Qa ag),(Qa ah),(Qa ai),(Qa aj),(Qa ak),(Qa al),(Qa am),(Qa an),(Qa ao),(Qa ap),(Qa aq),(Qa ar),(V.sl 5 (ye 5 D bd)),(V.sl 5 (ye 5 F G))])) (ifb ((au:Int)==(3:Int)) (chk ((0+((XJ A)*5))+5≤(XI z)) (chk ((XI (XK 5 (XL (0+((XJ A)*5)) z)))=5∧0+5≤5) (chk ((F+XI (ye 5 1 (xd [(Qe (0:Int)),(Qc (0:Int)),(Qb (0:Int)),(Qc (0:Int)),(Qc (0:Int))] 0 (XK 5 (XL (0+((XJ A)*5)) z)))))*24≤yr∧(F+XI (ye 5 1 (xd [(Qe (0:Int)),(Qc (0:Int)),(Qb (0:Int)),(Qc (0:Int)),(Qc (0:Int))] 0 (XK 5 (XL (0+((XJ A)*5)) z)))))≤yr∧((F+XI (ye 5 1 (xd [(Qe (0:Int)),(Qc (0:Int)),(Qb (0:Int)),(Qc (0:Int)),(Qc (0:Int))] 0 (XK 5 (XL (0+((XJ A)*5)) z)))))≠0∨(XI G)=0)) (lt (XK (F*5) G++XM (ye 5 1 (xd [(Qe (0:Int)),(Qc (0:Int)),(Qb (0:Int)),(Qc (0:Int)),(Qc (0:Int))] 0 (XK 5 (XL (0+((XJ A)*5)) z))))) fun be=>E [(Qa I),(Qa J),(Qa M),(Qa N),(Qa O),(Qa P),(Qa Q),(Qa R),(Qa S),(Qa U),(Qa W),(Qa X),(Qa Y),(Qa Z),(Qa aa),(Qa ab),(Qa ac),(Qa ad),(Qa ae),(Qa af),(Qa ag),(Qa ah),(Qa ai),(Qa aj),(Qa ak),(Qa al),(Qa am),(Qa an),(Qa ao),(Qa ap),(Qa aq),(Qa ar),(V.sl 5 (ye 5 D z)),(V.sl 5 (ye 5 (F+XI (ye 5 1 (xd [(Qe (0:Int)),(Qc (0:Int)),(Qb (0:Int)),(Qc (0:Int)),(Qc (0:Int))] 0 (XK 5 (XL (0+((XJ A)*5)) z))))) be))])))) (ifb ((au:Int)==(4:Int)) (chk ((0+((XJ A)*5))+5≤(XI z)) (chk ((XI (XK 5 (XL (0+((XJ A)*5)) z)))=5∧0+5≤5) (chk ((D+XI (ye 5 1 (xd [(Qe (0:Int)),(Qc (0:Int)),(Qb (0:Int)),(Qc (0:Int)),(Qc (0:Int))] 0 (XK 5 (XL (0+((XJ A)*5)) z)))))*24≤yr∧(D+XI (ye 5 1 (xd [(Qe (0:Int)),(Qc (0:Int)),(Qb (0:Int)),(Qc (0:Int)),(Qc (0:Int))] 0 (XK 5 (XL (0+((XJ A)*5)) z)))))≤yr∧((D+XI (ye 5 1 (xd [(Qe (0:Int)),(Qc (0:Int)),(Qb (0:Int)),(Qc (0:Int)),(Qc (0:Int))] 0 (XK 5 (XL (0+((XJ A)*5)) z)))))≠0∨(XI z)=0)) (lt (XK (D*5) z++XM (ye 5 1 (xd [(Qe (0:Int)),(Qc (0:Int)),(Qb (0:Int)),(Qc (0:Int)),(Qc (0:Int))] 0 (XK 5 (XL (0+((XJ A)*5)) z))))) fun bf=>E [(Qa I),(Qa J),(Qa M),(Qa N),(Qa O),(Qa P),(Qa Q),(Qa R),(Qa S),(Qa U),(Qa W),(Qa X),(Qa Y),(Qa Z),(Qa aa),(Qa ab),(Qa ac),(Qa ad),(Qa ae),(Qa af),(Qa ag),(Qa ah),(Qa ai),(Qa aj),(Qa ak),(Qa al),(Qa am),(Qa an),(Qa ao),(Qa ap),(Qa aq),(Qa ar),(V.sl 5 (ye 5 (D+XI (ye 5 1 (xd [(Qe (0:Int)),(Qc (0:Int)),(Qb (0:Int)),(Qc (0:Int)),(Qc (0:Int))] 0 (XK 5 (XL (0+((XJ A)*5)) z))))) bf)),(V.sl 5 (ye 5 F G))])))) (E [(Qa I),(Qa J),(Qa M),(Qa N),(Qa O),(Qa P),(Qa Q),(Qa R),(Qa S),(Qa U),(Qa W),(Qa X),(Qa Y),(Qa Z),(Qa aa),(Qa ab),(Qa ac),(Qa ad),(Qa ae),(Qa af),(Qa ag),(Qa ah),(Qa ai),(Qa aj),(Qa ak),(Qa al),(Qa am),(Qa an),(Qa ao),(Qa ap),(Qa aq),(Qa ar),(V.sl 5 (ye 5 D z)),(V.sl 5 (ye 5 F G))]))))))))) (E [(Qa I),(Qa J),(Qa M),(Qa N),(Qa O),(Qa P),(Qa Q),(Qa R),(Qa S),(Qa U),(Qa W),(Qa X),(Qa Y),(Qa Z),(Qa aa),(Qa ab),(Qa ac),(Qa ad),(Qa ae),(Qa af),(Qa ag),(Qa ah),(Qa ai),(Qa aj),(Qa ak),(Qa al),(Qa am),(Qa an),(Qa ao),(Qa ap),(Qa aq),(Qa ar),(V.sl 5 (ye 5 D z)),(V.sl 5 (ye 5 F G))])))
theorem zzq{β:Type}(xe:zU)(xS:zjF)(L:Nat)(z:List V)(A C:Int)(k:KK β):yl zpP (zpG xe xS L) L zlS [(V.agg z),(Qe A),(Qe C)] [] k=zdG xe xS L z A C (fun z=>k (V.agg z) []):=by kernel_rfl
abbrev za9:=∀ (β:Type),Nat→List V→Int→Int→(List V→Option β)→Option β
def xk(β:Type)(L:Nat)(A:List V)(C D:Int)(z:List V→Option β):Option β:=zdG xe xS L A C D z
def zmV(xk:za9)(L:Nat)(β:Type)(args:List V)(bor:Bor)(k:KK β):Option β:=match args,bor with
 | [a0,a1,a2],[]=>aG a0 fun z=>aI .i64 a1 fun A=>aI .i64 a2 fun C=>xk β L z A C (fun z=>k (V.agg z) [])
 | _,_=>none
theorem zzF(L:Nat)(β:Type)(args:List V)(bor:Bor)(k:KK β)(r:β)(h:zmV xk L β args bor k=some r):yl zpP (zpG xe xS L) L zlS args bor k=some r:=by
 unfold zmV at h
 split at h
 ·have q:=xM h; clear h; obtain ⟨z,rfl,h⟩:=q
  have q:=yo h; clear h; obtain ⟨A,rfl,h⟩:=q
  have q:=yo h; clear h; obtain ⟨C,rfl,h⟩:=q
  exact (zzq xe xS L z A C k).trans h
 ·cases h
def zaq:CC:=(.seq (.reg [Qp 9 .lss (tq 8) (tq 7)]) (.seq (.cond (tq 9) .skip (.seq (.mask (bl 0 19) (bl 458703 19)) (.exit 0))) (.seq (.block 1 (.seq (.reg [Qh 10 (tq 8),Qh 5 (tq 10)]) (.seq (.reg [Qh 11 (tq 1),Qh 12 (tq 0),Qh 13 (tq 5),Qo 14 5 (tq 12) (tq 13),Qk 15 5 (tq 14),oo 16 (.callv (tq 11) [(Qw 15)] [])]) (.cond (tq 16) (.seq (.reg [Qh 17 (tq 5),Qh 4 (tq 17)]) (.seq (.mask (bl 16 19) (bl 458719 19)) .ret)) .skip)))) (.reg [Qp 18 .add (tq 8) (Qf 1),Qh 8 (tq 18)]))))
def zbI:CC:=(.seq (.reg [Qh 4 (Qf (-1))]) .ret)
def zW:CF:=yJ
def zz:Nat→Sh:=yT []
def yz(zd:zD)(L:Nat):CBC:=(xy 403 (zfK zd L) noC)
def zas:St→St:=zbd 1 (bl 387 19) (bl 458703 19)
def zam(z:List (List V))(A C:Int)(D:List V):St:=⟨((V.sl 5 z)::((V.fn 403 [(V.ptr 0 0)])::(jn 5 ((Qe A)::((Qe C)::(jn 10 [])))))),((.live true D)::(gn 19 []))⟩
def zbr(z:Int)(A:List V):St:=⟨(jn 4 ((Qe z)::(jn 14 []))),((.live true A)::(gn 19 []))⟩
def zbu(z:List V):St:=⟨(jn 19 []),((.live true z)::(gn 19 []))⟩
def zca{β:Type}(zd:zD)(L:Nat)(A:List (List V))(C:List V)(z:List (List V)→Int→Int→List V→Option β):Option β:=z A ((XI A:Nat):Int) (0:Int) C
theorem zhF{β:Type}(zd:zD)(L:Nat)(z:List (List V))(A:List V)(k:KK β):yl zz (yz zd L) L zW [(V.sl 5 z),(V.fn 403 [(V.ptr 0 0)])] [(.live true A)] k=zca zd L z A (fun z C D A=>xE (xi zz (yz zd L) 1 L zaq) zas L (zam z C D A) (zF 0 (zQ (xi zz (yz zd L) 1 L zbI) (xW 1 (CF.res zW) k)))):=by kernel_rfl
def zbv{β:Type}(zd:zD)(L:Nat)(G:List (List V))(I A:Int)(D:List V)(C:Int→List V→Option β)(z:List (List V)→Int→Int→List V→Option β)(E:List V→Option β):Option β:=ifb (decide (A<I)) (idx G A fun c0=>zd β L (XK 5 c0) D (fun J F=>chk ([(XI F)]=[(XI D)]) (ifb J (C A F) (lt (QF .i64 ((A:Int)+(1:Int))) fun M=>z G I M F)))) (E D)
theorem zgf{β:Type}(zd:zD)(L:Nat)(A:List (List V))(C D:Int)(z:List V)(X:St→Option β)(K:KT β):xi zz (yz zd L) 1 L zaq (zam A C D z) (zcz zas X K)=zbv zd L A C D z (fun E z=>K .ret (zbr E z)) (fun A C D z=>X (zam A C D z)) (fun z=>K (.exit 0) (zbu z)):=by kernel_rfl
def zcM{β:Type}(zd:zD)(L:Nat)(A:Int)(C:List V)(z:Int→List V→Option β):Option β:=z A C
theorem zfH{β:Type}(zd:zD)(L:Nat)(A:Int)(z:List V)(k:KK β):(zF 0 (zQ (xi zz (yz zd L) 1 L zbI) (xW 1 (CF.res zW) k))) .ret (zbr A z)=zcM zd L A z (fun C z=>k (Qe C) [(.live true z)]):=by kernel_rfl
def zcT{β:Type}(zd:zD)(L:Nat)(A:List V)(z:Int→List V→Option β):Option β:=z (-1:Int) A
theorem zfR{β:Type}(zd:zD)(L:Nat)(z:List V)(k:KK β):(zF 0 (zQ (xi zz (yz zd L) 1 L zbI) (xW 1 (CF.res zW) k))) (.exit 0) (zbu z)=zcT zd L z (fun A z=>k (Qe A) [(.live true z)]):=by kernel_rfl
def z6{β:Type}(zd:zD)(L:Nat)(z:Int→List V→Option β)(A:List V→Option β):Nat→List (List V)→Int→Int→List V→Option β
 | 0,_,_,_,_=>none
 | n+1,C,D,E,F=>zbv zd L C D E F z (fun C D E F=>z6 zd L z A n C D E F) A
theorem zcN{β:Type}(zd:zD)(L:Nat)(K:KT β):∀ (n:Nat) (A:List (List V)) (C D:Int) (z:List V),xE (xi zz (yz zd L) 1 L zaq) zas n (zam A C D z) K=z6 zd L (fun E z=>K .ret (zbr E z)) (fun z=>K (.exit 0) (zbu z)) n A C D z:=by
 intro n
 induction n with
 | zero=>intros; rfl
 | succ n ih=>
  intro A C D z
  refine (zgf zd L A C D z (fun σ=>xE (xi zz (yz zd L) 1 L zaq) zas n σ K) K).trans ?_
  simp only [ih]
  rfl
def zaN{β:Type}(zd:zD)(L:Nat)(C:List (List V))(z:List V)(A:Int→List V→Option β):Option β:=zca zd L C z (fun C D E z=>z6 zd L (fun F z=>zcM zd L F z A) (fun z=>zcT zd L z A) L C D E z)
theorem zhj{β:Type}(zd:zD)(L:Nat)(z:List (List V))(A:List V)(k:KK β):yl zz (yz zd L) L zW [(V.sl 5 z),(V.fn 403 [(V.ptr 0 0)])] [(.live true A)] k=zaN zd L z A (fun z A=>k (Qe z) [(.live true A)]):=by
 refine (zhF zd L z A k).trans ?_
 unfold zaN
 first
  | (simp only [zcN,zfH,zfR]; done)
  | (simp only [zcN]; rfl)
abbrev zaM:=∀ (β:Type),Nat→List (List V)→List V→(Int→List V→Option β)→Option β
def ym(β:Type)(L:Nat)(A:List (List V))(C:List V)(z:Int→List V→Option β):Option β:=zaN zd L A C z
def zaR(ym:zaM)(L:Nat)(β:Type)(args:List V)(bor:Bor)(k:KK β):Option β:=match args,bor with
 | [a0,a1],[(.live true z)]=>aL 5 a0 fun A=>aF 403 [(0,0)] a1 (ym β L A z (fun A z=>k (Qe A) [(.live true z)]))
 | _,_=>none
theorem zhp(L:Nat)(β:Type)(args:List V)(bor:Bor)(k:KK β)(r:β)(h:zaR ym L β args bor k=some r):yl zz (yz zd L) L zW args bor k=some r:=by
 unfold zaR at h
 split at h
 ·have q:=zaF h; clear h; obtain ⟨z,rfl,h⟩:=q
  have q:=zBj h; clear h; obtain ⟨rfl,h⟩:=q
  exact (zhj zd L z _ k).trans h
 ·cases h
def zpr:CF:=zgl
def zj2:Nat→Sh:=yT []
def zkd(ym:zaM)(L:Nat):CBC:=(xy 402 (zaR ym L) noC)
def zlw{β:Type}(ym:zaM)(L:Nat)(C:List (List V))(A:List V)(z:Int→Option β):Option β:=ym β L C A (fun D E=>chk ([(XI E)]=[(XI A)]) (z D))
theorem zu1{β:Type}(ym:zaM)(L:Nat)(z:List (List V))(A:List V)(k:KK β):yl zj2 (zkd ym L) L zpr [(V.sl 5 z),(V.agg A)] [] k=zlw ym L z A (fun z=>k (Qe z) []):=by kernel_rfl
abbrev zhL:=∀ (β:Type),Nat→List (List V)→List V→(Int→Option β)→Option β
def xQ(β:Type)(L:Nat)(A:List (List V))(C:List V)(z:Int→Option β):Option β:=zlw ym L A C z
def zhO(xQ:zhL)(L:Nat)(β:Type)(args:List V)(bor:Bor)(k:KK β):Option β:=match args,bor with
 | [a0,a1],[]=>aL 5 a0 fun z=>aG a1 fun A=>xQ β L z A (fun z=>k (Qe z) [])
 | _,_=>none
theorem zuV(L:Nat)(β:Type)(args:List V)(bor:Bor)(k:KK β)(r:β)(h:zhO xQ L β args bor k=some r):yl zj2 (zkd ym L) L zpr args bor k=some r:=by
 unfold zhO at h
 split at h
 ·have q:=zaF h; clear h; obtain ⟨z,rfl,h⟩:=q
  have q:=xM h; clear h; obtain ⟨A,rfl,h⟩:=q
  exact (zu1 ym L z A k).trans h
 ·cases h
def zjb:CF:=⟨38,[.cellS 4 34 false,.cellS 5 5 false,.tmp 6],(.seq (.reg [oo 2 (.box false (tq 0)),Qv 3 (tq 1),oo 4 (.alloc false (rp 32 (.sc (.int .u8 0)) (rp 2 (.gs 5 []) []))),oo 5 (.alloc true [(.sc (.int .i64 0)),(.sc (.int .u32 0)),(.sc (.int .u16 0)),(.sc (.int .u32 0)),(.sc (.int .u32 0))]),Qh 6 (Qf 0)]) (.seq (.seq (.reg [Qk 9 34 (tq 2),Qs 10 275 [((tq 9),1)],Qt 11 (tq 10)]) (.cond (tq 11) (.seq (.reg [oo 12 (.buildSt (rp 32 (.sc (.int .u8 0)) (rp 2 (.gs 5 []) [])) []),oo 13 (.build [(.sc (.int .i64 0)),(.sc (.int .u32 0)),(.sc (.int .u16 0)),(.sc (.int .u32 0)),(.sc (.int .u32 0))] []),Qm 34 (tq 4) (tq 12),Qm 5 (tq 5) (tq 13),Qh 6 (Qf 6)]) .ret) .skip)) (.seq (.reg [Ql 14 32 (tq 2),Qj 15 1 (tq 14),Qk 16 3 (tq 3),Qs 17 395 [((tq 15),2),((tq 16),2)],Qh 7 (tq 17)]) (.seq (.seq (.reg [Qh 18 (tq 7),Qp 19 .lss (tq 18) (Qf 0)]) (.cond (tq 19) (.seq (.reg [oo 20 (.buildSt (rp 32 (.sc (.int .u8 0)) (rp 2 (.gs 5 []) [])) []),oo 21 (.build [(.sc (.int .i64 0)),(.sc (.int .u32 0)),(.sc (.int .u16 0)),(.sc (.int .u32 0)),(.sc (.int .u32 0))] []),Qm 34 (tq 4) (tq 20),Qm 5 (tq 5) (tq 21),Qh 6 (Qf 9)]) .ret) .skip)) (.seq (.reg [Ql 22 32 (tq 2),Qj 23 1 (tq 22),Qh 24 (tq 7),Qo 25 5 (tq 23) (tq 24),Qk 26 5 (tq 25),oo 8 (.alloc true [(.sc (.int .i64 0)),(.sc (.int .u32 0)),(.sc (.int .u16 0)),(.sc (.int .u32 0)),(.sc (.int .u32 0))]),Qm 5 (tq 8) (tq 26)]) (.seq (.reg [Qk 27 34 (tq 2),oo 28 (.call 394 [((tq 27),1)] [11,14]),Qm 34 (tq 2) (tq 28)]) (.seq (.reg [Ql 29 32 (tq 2),Qj 30 1 (tq 29),Qh 31 (tq 7),Qh 32 (tq 7),Qp 33 .add (tq 32) (Qf 1),⟨(some 34),true,none,.call 400 [((tq 30),2),((tq 31),2),((tq 33),2)] []⟩,Ql 35 32 (tq 2),Qm 1 (tq 35) (tq 34)]) (.seq (.dreg [] [(oo 36 (.load true 34 (tq 2) true),ql 2 [8] []),(Qk 37 5 (tq 8),ql 8 [2,4] []),(Qm 34 (tq 4) (tq 36),ql 4 [8] []),(Qm 5 (tq 5) (tq 37),q0),(Qh 6 (Qf 0),q0)]) .ret))))))))⟩
def zqP:Hint:=⟨[(2,0),(3,3),(5,0),(8,5),(9,0)],[(8,5)],[none,none,none,none,none],[],[(7,1,[11,14])],false,true,[]⟩
def znj:Nat→Sh:=yT [(2,(.row [(.int .u8),(.int .u8),(.int .u8),(.int .u8),(.int .u8),(.int .u8),(.int .u8),(.int .u8),(.int .u8),(.int .u8),(.int .u8),(.int .u8),(.int .u8),(.int .u8),(.int .u8),(.int .u8),(.int .u8),(.int .u8),(.int .u8),(.int .u8),(.int .u8),(.int .u8),(.int .u8),(.int .u8),(.int .u8),(.int .u8),(.int .u8),(.int .u8),(.int .u8),(.int .u8),(.int .u8),(.int .u8),(.sl 5),(.sl 5)]))]
def zm5(xq:zbH)(xQ:zhL)(xB:zdr)(za:zg)(L:Nat):CBC:=(xy 400 (zZ za L) (xy 394 (zfQ xB L) (xy 395 (zhO xQ L) (xy 275 (zeR xq L) noC))))
abbrev zhQ(β:Type):Type:=Int→Int→Int→Int→Int→Int→Int→Int→Int→Int→Int→Int→Int→Int→Int→Int→Int→Int→Int→Int→Int→Int→Int→Int→Int→Int→Int→Int→Int→Int→Int→Int→List (List V)→List (List V)→List V→Int→Option β
abbrev zgb(β:Type):Type:=Int→Int→Int→Int→Int→Int→Int→Int→Int→Int→Int→Int→Int→Int→Int→Int→Int→Int→Int→Int→Int→Int→Int→Int→Int→Int→Int→Int→Int→Int→Int→Int→Nat→Nat→List V→Int→List V→List V→Option β
def zkh{β:Type}(xq:zbH)(xQ:zhL)(xB:zdr)(za:zg)(L:Nat)(z p1:List V)(A:zhQ β)(E:zgb β):Option β:=chk (XI z=34) (cI .u8 z 0 fun v0=>cI .u8 z 1 fun v1=>cI .u8 z 2 fun v2=>cI .u8 z 3 fun v3=>cI .u8 z 4 fun v4=>cI .u8 z 5 fun v5=>cI .u8 z 6 fun v6=>cI .u8 z 7 fun v7=>cI .u8 z 8 fun v8=>cI .u8 z 9 fun v9=>cI .u8 z 10 fun G=>cI .u8 z 11 fun I=>cI .u8 z 12 fun J=>cI .u8 z 13 fun M=>cI .u8 z 14 fun N=>cI .u8 z 15 fun O=>cI .u8 z 16 fun P=>cI .u8 z 17 fun Q=>cI .u8 z 18 fun R=>cI .u8 z 19 fun S=>cI .u8 z 20 fun U=>cI .u8 z 21 fun W=>cI .u8 z 22 fun X=>cI .u8 z 23 fun Y=>cI .u8 z 24 fun Z=>cI .u8 z 25 fun aa=>cI .u8 z 26 fun ab=>cI .u8 z 27 fun ac=>cI .u8 z 28 fun ad=>cI .u8 z 29 fun ae=>cI .u8 z 30 fun af=>cI .u8 z 31 fun ag=>cL 5 z 32 fun C=>cL 5 z 33 fun ah=>xq β L [(Qa v0),(Qa v1),(Qa v2),(Qa v3),(Qa v4),(Qa v5),(Qa v6),(Qa v7),(Qa v8),(Qa v9),(Qa G),(Qa I),(Qa J),(Qa M),(Qa N),(Qa O),(Qa P),(Qa Q),(Qa R),(Qa S),(Qa U),(Qa W),(Qa X),(Qa Y),(Qa Z),(Qa aa),(Qa ab),(Qa ac),(Qa ad),(Qa ae),(Qa af),(Qa ag),(V.sl 5 C),(V.sl 5 ah)] (fun aD=>ifb (!aD) (lt [(Qe (0:Int)),(Qc (0:Int)),(Qb (0:Int)),(Qc (0:Int)),(Qc (0:Int))] fun ai=>chk (0=0∧(XI ai)=5∧5≠0) (A (0:Int) (0:Int) (0:Int) (0:Int) (0:Int) (0:Int) (0:Int) (0:Int) (0:Int) (0:Int) (0:Int) (0:Int) (0:Int) (0:Int) (0:Int) (0:Int) (0:Int) (0:Int) (0:Int) (0:Int) (0:Int) (0:Int) (0:Int) (0:Int) (0:Int) (0:Int) (0:Int) (0:Int) (0:Int) (0:Int) (0:Int) (0:Int) ([]:List (List V)) ([]:List (List V)) ai (6:Int))) (chk (0+3≤(XI p1)) (xQ β L C (XK 3 p1) (fun D=>ifb (decide (D<(0:Int))) (lt [(Qe (0:Int)),(Qc (0:Int)),(Qb (0:Int)),(Qc (0:Int)),(Qc (0:Int))] fun aj=>chk (0=0∧(XI aj)=5∧5≠0) (A (0:Int) (0:Int) (0:Int) (0:Int) (0:Int) (0:Int) (0:Int) (0:Int) (0:Int) (0:Int) (0:Int) (0:Int) (0:Int) (0:Int) (0:Int) (0:Int) (0:Int) (0:Int) (0:Int) (0:Int) (0:Int) (0:Int) (0:Int) (0:Int) (0:Int) (0:Int) (0:Int) (0:Int) (0:Int) (0:Int) (0:Int) (0:Int) ([]:List (List V)) ([]:List (List V)) aj (9:Int))) (idx C D fun ak=>chk ((XI (XK 5 ak))=5∧0+5≤5) (lt (xd [(Qe (0:Int)),(Qc (0:Int)),(Qb (0:Int)),(Qc (0:Int)),(Qc (0:Int))] 0 (XK 5 ak)) fun F=>xB β L [(Qa v0),(Qa v1),(Qa v2),(Qa v3),(Qa v4),(Qa v5),(Qa v6),(Qa v7),(Qa v8),(Qa v9),(Qa G),(Qa I),(Qa J),(Qa M),(Qa N),(Qa O),(Qa P),(Qa Q),(Qa R),(Qa S),(Qa U),(Qa W),(Qa X),(Qa Y),(Qa Z),(Qa aa),(Qa ab),(Qa ac),(Qa ad),(Qa ae),(Qa af),(Qa ag),(V.sl 5 C),(V.sl 5 ah)] (fun aE aH aJ aK aN aQ aR aT aU aW aX aY aZ a0 a1 a2 a3 a4 a5 a6 a7 a8 a9 ba bb bc bd be bf bg bh bi bj bk al bm=>lt (QF .i64 ((D:Int)+(1:Int))) fun bn=>za β L bj D bn al (fun bo am=>chk ([(XI am)]=[(XI al)]) (chk (0+5≤(XI F)) (chk ((XI (XK 5 F))=5∧0+5≤5) (lt (xd [(Qe (0:Int)),(Qc (0:Int)),(Qb (0:Int)),(Qc (0:Int)),(Qc (0:Int))] 0 (XK 5 F)) fun an=>chk (0=0∧(XI an)=5∧5≠0) (E aE aH aJ aK aN aQ aR aT aU aW aX aY aZ a0 a1 a2 a3 a4 a5 a6 a7 a8 a9 ba bb bc bd be bf bg bh bi bo bk an (0:Int) am bm)))))))))))))
theorem zwS{β:Type}(xq:zbH)(xQ:zhL)(xB:zdr)(za:zg)(L:Nat)(C D:List V)(k:KK β):yl znj (zm5 xq xQ xB za L) L zjb [(V.agg C),(V.agg D)] [] k=zkh xq xQ xB za L C D (fun p0_0_0 p0_0_1 p0_0_2 p0_0_3 p0_0_4 p0_0_5 p0_0_6 p0_0_7 p0_0_8 p0_0_9 p0_0_10 p0_0_11 p0_0_12 p0_0_13 p0_0_14 p0_0_15 p0_0_16 p0_0_17 p0_0_18 p0_0_19 p0_0_20 p0_0_21 p0_0_22 p0_0_23 p0_0_24 p0_0_25 p0_0_26 p0_0_27 p0_0_28 p0_0_29 p0_0_30 p0_0_31 p0_0_32 p0_0_33 z A=>k (V.tup [(V.st [(Qa p0_0_0),(Qa p0_0_1),(Qa p0_0_2),(Qa p0_0_3),(Qa p0_0_4),(Qa p0_0_5),(Qa p0_0_6),(Qa p0_0_7),(Qa p0_0_8),(Qa p0_0_9),(Qa p0_0_10),(Qa p0_0_11),(Qa p0_0_12),(Qa p0_0_13),(Qa p0_0_14),(Qa p0_0_15),(Qa p0_0_16),(Qa p0_0_17),(Qa p0_0_18),(Qa p0_0_19),(Qa p0_0_20),(Qa p0_0_21),(Qa p0_0_22),(Qa p0_0_23),(Qa p0_0_24),(Qa p0_0_25),(Qa p0_0_26),(Qa p0_0_27),(Qa p0_0_28),(Qa p0_0_29),(Qa p0_0_30),(Qa p0_0_31),(V.sl 5 p0_0_32),(V.sl 5 p0_0_33)]),(V.agg z),(Qe A)]) []) (fun p0_0_0 p0_0_1 p0_0_2 p0_0_3 p0_0_4 p0_0_5 p0_0_6 p0_0_7 p0_0_8 p0_0_9 p0_0_10 p0_0_11 p0_0_12 p0_0_13 p0_0_14 p0_0_15 p0_0_16 p0_0_17 p0_0_18 p0_0_19 p0_0_20 p0_0_21 p0_0_22 p0_0_23 p0_0_24 p0_0_25 p0_0_26 p0_0_27 p0_0_28 p0_0_29 p0_0_30 p0_0_31 p0_0_32l p0_0_33l z A E F=>k (V.tup [(V.st [(Qa p0_0_0),(Qa p0_0_1),(Qa p0_0_2),(Qa p0_0_3),(Qa p0_0_4),(Qa p0_0_5),(Qa p0_0_6),(Qa p0_0_7),(Qa p0_0_8),(Qa p0_0_9),(Qa p0_0_10),(Qa p0_0_11),(Qa p0_0_12),(Qa p0_0_13),(Qa p0_0_14),(Qa p0_0_15),(Qa p0_0_16),(Qa p0_0_17),(Qa p0_0_18),(Qa p0_0_19),(Qa p0_0_20),(Qa p0_0_21),(Qa p0_0_22),(Qa p0_0_23),(Qa p0_0_24),(Qa p0_0_25),(Qa p0_0_26),(Qa p0_0_27),(Qa p0_0_28),(Qa p0_0_29),(Qa p0_0_30),(Qa p0_0_31),(V.own 0 0 p0_0_32l 5),(V.own 1 0 p0_0_33l 5)]),(V.agg z),(Qe A)]) [(.live true E),(.live true F)]):=by kernel_rfl
abbrev zeb:=∀ (β:Type),Nat→List V→List V→(Int→Int→Int→Int→Int→Int→Int→Int→Int→Int→Int→Int→Int→Int→Int→Int→Int→Int→Int→Int→Int→Int→Int→Int→Int→Int→Int→Int→Int→Int→Int→Int→List (List V)→List (List V)→List V→Int→Option β)→(Int→Int→Int→Int→Int→Int→Int→Int→Int→Int→Int→Int→Int→Int→Int→Int→Int→Int→Int→Int→Int→Int→Int→Int→Int→Int→Int→Int→Int→Int→Int→Int→Nat→Nat→List V→Int→List V→List V→Option β)→Option β
def zE(β:Type)(L:Nat)(C D:List V)(A:zhQ β)(z:zgb β):Option β:=zkh xq xQ xB za L C D A z
def zhE(zE:zeb)(L:Nat)(β:Type)(args:List V)(bor:Bor)(k:KK β):Option β:=match args,bor with
 | [a0,a1],[]=>aG a0 fun C=>aG a1 fun D=>zE β L C D (fun p0_0_0 p0_0_1 p0_0_2 p0_0_3 p0_0_4 p0_0_5 p0_0_6 p0_0_7 p0_0_8 p0_0_9 p0_0_10 p0_0_11 p0_0_12 p0_0_13 p0_0_14 p0_0_15 p0_0_16 p0_0_17 p0_0_18 p0_0_19 p0_0_20 p0_0_21 p0_0_22 p0_0_23 p0_0_24 p0_0_25 p0_0_26 p0_0_27 p0_0_28 p0_0_29 p0_0_30 p0_0_31 p0_0_32 p0_0_33 z A=>k (V.tup [(V.st [(Qa p0_0_0),(Qa p0_0_1),(Qa p0_0_2),(Qa p0_0_3),(Qa p0_0_4),(Qa p0_0_5),(Qa p0_0_6),(Qa p0_0_7),(Qa p0_0_8),(Qa p0_0_9),(Qa p0_0_10),(Qa p0_0_11),(Qa p0_0_12),(Qa p0_0_13),(Qa p0_0_14),(Qa p0_0_15),(Qa p0_0_16),(Qa p0_0_17),(Qa p0_0_18),(Qa p0_0_19),(Qa p0_0_20),(Qa p0_0_21),(Qa p0_0_22),(Qa p0_0_23),(Qa p0_0_24),(Qa p0_0_25),(Qa p0_0_26),(Qa p0_0_27),(Qa p0_0_28),(Qa p0_0_29),(Qa p0_0_30),(Qa p0_0_31),(V.sl 5 p0_0_32),(V.sl 5 p0_0_33)]),(V.agg z),(Qe A)]) []) (fun p0_0_0 p0_0_1 p0_0_2 p0_0_3 p0_0_4 p0_0_5 p0_0_6 p0_0_7 p0_0_8 p0_0_9 p0_0_10 p0_0_11 p0_0_12 p0_0_13 p0_0_14 p0_0_15 p0_0_16 p0_0_17 p0_0_18 p0_0_19 p0_0_20 p0_0_21 p0_0_22 p0_0_23 p0_0_24 p0_0_25 p0_0_26 p0_0_27 p0_0_28 p0_0_29 p0_0_30 p0_0_31 p0_0_32l p0_0_33l z A E F=>k (V.tup [(V.st [(Qa p0_0_0),(Qa p0_0_1),(Qa p0_0_2),(Qa p0_0_3),(Qa p0_0_4),(Qa p0_0_5),(Qa p0_0_6),(Qa p0_0_7),(Qa p0_0_8),(Qa p0_0_9),(Qa p0_0_10),(Qa p0_0_11),(Qa p0_0_12),(Qa p0_0_13),(Qa p0_0_14),(Qa p0_0_15),(Qa p0_0_16),(Qa p0_0_17),(Qa p0_0_18),(Qa p0_0_19),(Qa p0_0_20),(Qa p0_0_21),(Qa p0_0_22),(Qa p0_0_23),(Qa p0_0_24),(Qa p0_0_25),(Qa p0_0_26),(Qa p0_0_27),(Qa p0_0_28),(Qa p0_0_29),(Qa p0_0_30),(Qa p0_0_31),(V.own 0 0 p0_0_32l 5),(V.own 1 0 p0_0_33l 5)]),(V.agg z),(Qe A)]) [(.live true E),(.live true F)])
 | _,_=>none
theorem zx4(L:Nat)(β:Type)(args:List V)(bor:Bor)(k:KK β)(r:β)(h:zhE zE L β args bor k=some r):yl znj (zm5 xq xQ xB za L) L zjb args bor k=some r:=by
 unfold zhE at h
 split at h
 ·have q:=xM h; clear h; obtain ⟨z,rfl,h⟩:=q
  have q:=xM h; clear h; obtain ⟨A,rfl,h⟩:=q
  exact (zwS xq xQ xB za L z A k).trans h
 ·cases h
end
end Go.Proofs.Ytbimgceighecgaa
