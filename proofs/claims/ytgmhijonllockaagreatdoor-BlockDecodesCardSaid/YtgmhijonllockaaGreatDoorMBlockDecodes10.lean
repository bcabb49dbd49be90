/- Part 10 of the proof of BlockDecodes: an abstract machine over plain values, its soundness, and the functions of the program on plain values. -/
import Derived.Test.YtgmhijonllockaaGreatDoorMBlockDecodes9
namespace Go.Proofs.YtgmhijonllockaaGreatDoor
set_option maxRecDepth 100000
set_option linter.unusedVariables false
set_option linter.unusedSimpArgs false
open List renaming length->XI,replicate->We,take->XK,set->XO,flatten->XM,drop->XL
open IntKind renaming wrap->QG
open Int renaming toNat->XJ
section
noncomputable section
def zqJ:Hint:=⟨[(0,0),(1,0),(3,0),(3,1),(4,10),(4,14),(7,0),(7,1),(9,0),(9,1)],[],[none,none,none,none,none],[],[],false,false,[]⟩
def zsT:CF:=cfD zqJ 114
def zmP:Nat→Sh:=yD []
def zmN(y9:zi6)(L:Nat):CBC:=(zq 167 (zmp y9 L) noC)
def zj2{β:Type}(y9:zi6)(L:Nat)(z:Ls)(A C F:Int)(D:Ls→Ls→Int→Int→Int→Ob β)(E:Ls→Ls→Int→Int→Int→Ob β):Ob β:=ifb ((C:Int) != (0:Int)) (D ([]:Ls) z A C F) (y9 β L z A F (fun I J G H=>ifb ((G:Int) != (0:Int)) (D ([]:Ls) z A G H) (E I z J C H)))
theorem zBd{β:Type}(y9:zi6)(L:Nat)(z:Ls)(A C D:Int)(k:KK β):zj zmP (zmN y9 L) L zsT [(V.ptr 0 0),(V.fn 167 [(V.ptr 1 0)])] [(.live false [(V.sl 1 z),(Qe A),(Qe C)]),(.live true [(Qe D)])] k=zj2 y9 L z A C D (fun E z A C D=>k (V.gs 1 E) [(.live false [(V.sl 1 z),(Qe A),(Qe C)]),(.live true [(Qe D)])]) (fun E z A C D=>k (V.sl 1 E) [(.live false [(V.sl 1 z),(Qe A),(Qe C)]),(.live true [(Qe D)])]):=by kernel_rfl
abbrev zgR:=∀ (β:Type),Nat→Ls→Int→Int→Int→(Ls→Ls→Int→Int→Int→Ob β)→(Ls→Ls→Int→Int→Int→Ob β)→Ob β
def yS:zgR:=fun β=>@zj2 β y9
def zjR(yS:zgR)(L:Nat)(β:Type)(args:List V)(bor:Bor)(k:KK β):Ob β:=match args,bor with
 | [a0,a1],[(.live false [w0_0,w0_1,w0_2]),(.live true [w1_0])]=>aP 0 0 a0 (aF 167 [(1,0)] a1 (aL 1 w0_0 fun z=>aI .i64 w0_1 fun A=>aI .i64 w0_2 fun C=>aI .i64 w1_0 fun D=>yS β L z A C D (fun E z A C D=>k (V.gs 1 E) [(.live false [(V.sl 1 z),(Qe A),(Qe C)]),(.live true [(Qe D)])]) (fun E z A C D=>k (V.sl 1 E) [(.live false [(V.sl 1 z),(Qe A),(Qe C)]),(.live true [(Qe D)])])))
 | _,_=>none
theorem zAq(L:Nat)(β:Type)(args:List V)(bor:Bor)(k:KK β)(r:β)(h:zjR yS L β args bor k=some r):zj zmP (zmN y9 L) L zsT args bor k=some r:=by
 unfold zjR at h
 split at h
 ·have q:=zeV h; clear h; obtain ⟨rfl,h⟩:=q
  have q:=zBu h; clear h; obtain ⟨rfl,h⟩:=q
  have q:=zeO h; clear h; obtain ⟨z,rfl,h⟩:=q
  have q:=zY h; clear h; obtain ⟨A,rfl,h⟩:=q
  have q:=zY h; clear h; obtain ⟨C,rfl,h⟩:=q
  have q:=zY h; clear h; obtain ⟨D,rfl,h⟩:=q
  exact (zBd y9 L z A C D k).trans h
 ·cases h
def zwx:Hint:=⟨[(0,1),(1,3)],[],[none],[],[],false,false,[]⟩
def zz2:CF:=cfD zwx 113
def zs1:Nat→Sh:=yD []
def ztf(yS:zgR)(L:Nat):CBC:=(zq 166 (zjR yS L) noC)
def zp7{β:Type}(yS:zgR)(L:Nat)(F:Int)(C:Ls)(D E:Int)(A:Ls→Ls→Int→Int→Ob β)(z:Ls→Ls→Int→Int→Ob β):Ob β:=yS β L C D E F (fun G H I J Q=>A G H I J) (fun M N O P R=>z M N O P)
theorem zHn{β:Type}(yS:zgR)(L:Nat)(D:Int)(z:Ls)(A C:Int)(k:KK β):zj zs1 (ztf yS L) L zz2 [(Qe D),(V.ptr 0 0)] [(.live false [(V.ptr 1 0)]),(.live false [(V.sl 1 z),(Qe A),(Qe C)])] k=zp7 yS L D z A C (fun D z A C=>k (V.gs 1 D) [(.live false [(V.ptr 1 0)]),(.live false [(V.sl 1 z),(Qe A),(Qe C)])]) (fun D z A C=>k (V.sl 1 D) [(.live false [(V.ptr 1 0)]),(.live false [(V.sl 1 z),(Qe A),(Qe C)])]):=by kernel_rfl
abbrev zjd:=∀ (β:Type),Nat→Int→Ls→Int→Int→(Ls→Ls→Int→Int→Ob β)→(Ls→Ls→Int→Int→Ob β)→Ob β
def ye:zjd:=fun β=>@zp7 β yS
def zpS(ye:zjd)(L:Nat)(β:Type)(args:List V)(bor:Bor)(k:KK β):Ob β:=match args,bor with
 | [a0,a1],[(.live false [w0_0]),(.live false [w1_0,w1_1,w1_2])]=>aI .i64 a0 fun D=>aP 0 0 a1 (aP 1 0 w0_0 (aL 1 w1_0 fun z=>aI .i64 w1_1 fun A=>aI .i64 w1_2 fun C=>ye β L D z A C (fun D z A C=>k (V.gs 1 D) [(.live false [(V.ptr 1 0)]),(.live false [(V.sl 1 z),(Qe A),(Qe C)])]) (fun D z A C=>k (V.sl 1 D) [(.live false [(V.ptr 1 0)]),(.live false [(V.sl 1 z),(Qe A),(Qe C)])])))
 | _,_=>none
theorem zIq(L:Nat)(β:Type)(args:List V)(bor:Bor)(k:KK β)(r:β)(h:zpS ye L β args bor k=some r):zj zs1 (ztf yS L) L zz2 args bor k=some r:=by
 unfold zpS at h
 split at h
 ·have q:=zY h; clear h; obtain ⟨D,rfl,h⟩:=q
  have q:=zeV h; clear h; obtain ⟨rfl,h⟩:=q
  have q:=zeV h; clear h; obtain ⟨rfl,h⟩:=q
  have q:=zeO h; clear h; obtain ⟨z,rfl,h⟩:=q
  have q:=zY h; clear h; obtain ⟨A,rfl,h⟩:=q
  have q:=zY h; clear h; obtain ⟨C,rfl,h⟩:=q
  exact (zHn yS L D z A C k).trans h
 ·cases h
def zAx:Hint:=⟨[(0,0),(8,0),(12,1),(19,1),(27,8)],[],[none,some ((bl 50333586 129),(bl 680564733841876926926749208193183774719 129)),none,some ((bl 1938 129),(bl 680564733841876926926749208193183774719 129)),none,none,some ((bl 211106232534930 129),(bl 680564733841876926896772129843851552767 129)),none,some ((bl 1938 129),(bl 680564733841876926896772129843851552767 129)),none,none,none,some ((bl 16528282690043758249874 129),(bl 680564733833211195536024101110595704831 129)),none,some ((bl 2361183241434822608018 129),(bl 680564733833211195536024101110595704831 129)),none,none,some ((bl 469875465045529698772882 129),(bl 680564733833211346651751552939242551295 129)),none,some ((bl 16528282690043758249874 129),(bl 680564733833211346651751552939242551295 129)),none,none,none,none,none],[(34,[100071])],[(1,2,[0]),(19,6,[0]),(4,0,[1]),(12,4,[0]),(22,1,[1]),(34,0,[1,1])],false,false,[(27,71)]⟩
def cf_tx_Read:CF:=cfD zAx 67
def zdz:CC:=yw [1,1,1,1,1,1,1,1,1,0,1,0,0,1,1,0,0,1,1,0,0] cf_tx_Read.body
def zjO:CC:=yw [1,1,1,1,1,1,1,1,1,0,1,0,0,1,1,1] cf_tx_Read.body
def zet:CC:=yw [1,1,1,1,1,1,1,1,1,0,1,0,0] cf_tx_Read.body
def zip:CC:=yw [1,1,1,1,1,1,1,0,1,0,0] cf_tx_Read.body
def zjC:CC:=yw [1,1,1,1,1,1,0,1,0,0] cf_tx_Read.body
def zoY:CC:=yw [1,1,1,1,1,1,1,1,1,1] cf_tx_Read.body
def zlI:CC:=yw [1,1,1,1,1,1,1,1] cf_tx_Read.body
def zmW:CC:=yw [1,1,1,1,1,1,1] cf_tx_Read.body
def xQ:Nat→Sh:=yD [(88,(.gs 1))]
def zQ(zc:zeq)(yg:zje)(zf:zc2)(xc:zcE)(ye:zjd)(L:Nat):CBC:=(zq 165 (zpS ye L) (zq 162 (zgn xc L) (zq 171 (zg1 zf L) (zq 161 (zp4 yg L) (zq 169 (ziv zc L) noC)))))
def zkE:St→St:=zN 0 (bl 50333586 129) (bl 680564733841876926926749208193183774719 129)
def zjo:St→St:=zN 0 (bl 211106232534930 129) (bl 680564733841876926896772129843851552767 129)
def zb2:St→St:=zN 0 (bl 16528282690043758249874 129) (bl 680564733833211195536024101110595704831 129)
def zdV:St→St:=zN 0 (bl 469875465045529698772882 129) (bl 680564733833211346651751552939242551295 129)
def ze4(P N O H:Int)(I J:Ls)(M z:Int)(A C:Ls)(D:Int)(E:Ls)(F G:Int):St:=⟨(jn 1 ((Qe P)::(jn 2 ((V.ptr 4 0)::(jn 2 ((V.ptr 7 0)::((V.fn 161 [(V.ptr 7 0)])::((V.fn 165 [(V.ptr 7 0)])::((V.ptr 10 0)::(jn 13 ((Qe N)::((Qe O)::(jn 103 []))))))))))))),(gn 4 ((.live true [(Qc H),(V.gs 35 I),(V.gs 2 J),(Qc M)])::(gn 2 ((.live false [(V.ptr 17 0)])::(gn 2 ((.live false [(Qc z),(V.fr 35 A),(V.gs 2 C),(Qc D)])::(gn 6 ((.live false [(V.sl 1 E),(Qe F),(Qe G)])::(gn 111 [])))))))))⟩
def zmv(N H:Int)(I J:Ls)(M z:Int)(A C:Ls)(D:Int)(E:Ls)(F G:Int):St:=⟨(jn 1 ((Qe N)::(jn 2 ((V.ptr 4 0)::(jn 2 ((V.ptr 7 0)::((V.fn 161 [(V.ptr 7 0)])::((V.fn 165 [(V.ptr 7 0)])::((V.ptr 10 0)::(jn 118 [])))))))))),(gn 4 ((.live true [(Qc H),(V.gs 35 I),(V.gs 2 J),(Qc M)])::(gn 2 ((.live false [(V.ptr 17 0)])::(gn 2 ((.live false [(Qc z),(V.fr 35 A),(V.gs 2 C),(Qc D)])::(gn 6 ((.live false [(V.sl 1 E),(Qe F),(Qe G)])::(gn 111 [])))))))))⟩
def zeD(P N O H:Int)(I J:Ls)(M z:Int)(A C:Ls)(D:Int)(E:Ls)(F G:Int):St:=⟨(jn 1 ((Qe P)::(jn 2 ((V.ptr 4 0)::(jn 2 ((V.ptr 7 0)::((V.fn 161 [(V.ptr 7 0)])::((V.fn 165 [(V.ptr 7 0)])::((V.ptr 10 0)::(jn 35 ((Qe N)::((Qe O)::(jn 81 []))))))))))))),(gn 4 ((.live true [(Qc H),(V.gs 35 I),(V.gs 2 J),(Qc M)])::(gn 2 ((.live false [(V.ptr 17 0)])::(gn 2 ((.live false [(Qc z),(V.fr 35 A),(V.gs 2 C),(Qc D)])::(gn 6 ((.live false [(V.sl 1 E),(Qe F),(Qe G)])::(gn 111 [])))))))))⟩
def zmr(N H:Int)(I J:Ls)(M z:Int)(A C:Ls)(D:Int)(E:Ls)(F G:Int):St:=⟨(jn 1 ((Qe N)::(jn 2 ((V.ptr 4 0)::(jn 2 ((V.ptr 7 0)::((V.fn 161 [(V.ptr 7 0)])::((V.fn 165 [(V.ptr 7 0)])::((V.ptr 10 0)::(jn 118 [])))))))))),(gn 4 ((.live true [(Qc H),(V.gs 35 I),(V.gs 2 J),(Qc M)])::(gn 2 ((.live false [(V.ptr 17 0)])::(gn 2 ((.live false [(Qc z),(V.fr 35 A),(V.gs 2 C),(Qc D)])::(gn 6 ((.live false [(V.sl 1 E),(Qe F),(Qe G)])::(gn 111 [])))))))))⟩
def zbj(R:Int)(H:Nat)(O P I:Int)(J M:Ls)(N A:Int)(z:Nat)(C:Ls)(D:Int)(E:Ls)(F G:Int)(Q:List V):St:=⟨(jn 1 ((Qe R)::(jn 2 ((V.ptr 4 0)::(jn 2 ((V.ptr 7 0)::((V.fn 161 [(V.ptr 7 0)])::((V.fn 165 [(V.ptr 7 0)])::((V.ptr 10 0)::(jn 60 ((V.own 71 0 H 35)::((Qe O)::((Qe P)::(jn 55 [])))))))))))))),(gn 4 ((.live true [(Qc I),(V.gs 35 J),(V.gs 2 M),(Qc N)])::(gn 2 ((.live false [(V.ptr 17 0)])::(gn 2 ((.live false [(Qc A),(V.own 71 0 z 35),(V.gs 2 C),(Qc D)])::(gn 6 ((.live false [(V.sl 1 E),(Qe F),(Qe G)])::(gn 53 ((.live false Q)::(gn 57 [])))))))))))⟩
def zbx(U O:Int)(H:Nat)(P Q R S I:Int)(J M:Ls)(N A:Int)(z:Nat)(C:Ls)(D:Int)(E:Ls)(F G:Int)(T:List V):St:=⟨(jn 1 ((Qe U)::(jn 2 ((V.ptr 4 0)::(jn 2 ((V.ptr 7 0)::((V.fn 161 [(V.ptr 7 0)])::((V.fn 165 [(V.ptr 7 0)])::((V.ptr 10 0)::(jn 2 ((Qe O)::(jn 57 ((V.own 71 0 H 35)::((Qe P)::((Qe Q)::(jn 3 ((Qe R)::((Qe S)::(jn 50 []))))))))))))))))))),(gn 4 ((.live true [(Qc I),(V.gs 35 J),(V.gs 2 M),(Qc N)])::(gn 2 ((.live false [(V.ptr 17 0)])::(gn 2 ((.live false [(Qc A),(V.own 71 0 z 35),(V.gs 2 C),(Qc D)])::(gn 6 ((.live false [(V.sl 1 E),(Qe F),(Qe G)])::(gn 53 ((.live false T)::(gn 57 [])))))))))))⟩
def zmq(P:Int)(H:Nat)(I:Int)(J M:Ls)(N A:Int)(z:Nat)(C:Ls)(D:Int)(E:Ls)(F G:Int)(O:List V):St:=⟨(jn 1 ((Qe P)::(jn 2 ((V.ptr 4 0)::(jn 2 ((V.ptr 7 0)::(jn 2 ((V.ptr 10 0)::(jn 60 ((V.own 71 0 H 35)::(jn 57 []))))))))))),(gn 4 ((.live true [(Qc I),(V.gs 35 J),(V.gs 2 M),(Qc N)])::(gn 2 ((.live false [(V.ptr 17 0)])::(gn 2 ((.live false [(Qc A),(V.own 71 0 z 35),(V.gs 2 C),(Qc D)])::(gn 6 ((.live false [(V.sl 1 E),(Qe F),(Qe G)])::(gn 53 ((.live false O)::(gn 57 [])))))))))))⟩
def zq7(R:Int)(H:Nat)(O P I:Int)(J M:Ls)(N A:Int)(z:Nat)(C:Ls)(D:Int)(E:Ls)(F G:Int)(Q:List V):St:=⟨(jn 1 ((Qe R)::(jn 2 ((V.ptr 4 0)::(jn 2 ((V.ptr 7 0)::((V.fn 161 [(V.ptr 7 0)])::((V.fn 165 [(V.ptr 7 0)])::((V.ptr 10 0)::(jn 60 ((V.own 71 0 H 35)::((Qe O)::((Qe P)::(jn 55 [])))))))))))))),(gn 4 ((.live true [(Qc I),(V.gs 35 J),(V.gs 2 M),(Qc N)])::(gn 2 ((.live false [(V.ptr 17 0)])::(gn 2 ((.live false [(Qc A),(V.own 71 0 z 35),(V.gs 2 C),(Qc D)])::(gn 6 ((.live false [(V.sl 1 E),(Qe F),(Qe G)])::(gn 53 ((.live false Q)::(gn 57 [])))))))))))⟩
abbrev zgo(β:Type):Type:=Int→Int→Int→Int→Ls→Ls→Int→Int→Ls→Ls→Int→Ls→Int→Int→Ob β
abbrev zjl(β:Type):Type:=Int→Int→Ls→Ls→Int→Int→Ls→Ls→Int→Ls→Int→Int→Ob β
abbrev zfw(β:Type):Type:=Int→Int→Int→Int→Ls→Ls→Int→Int→Ls→Ls→Int→Ls→Int→Int→Ob β
abbrev zjc(β:Type):Type:=Int→Int→Ls→Ls→Int→Int→Ls→Ls→Int→Ls→Int→Int→Ob β
abbrev zhC(β:Type):Type:=Int→Nat→Int→Int→Int→Ls→Ls→Int→Int→Nat→Ls→Int→Ls→Int→Int→List V→Ob β
abbrev zbW(β:Type):Type:=Int→Int→Nat→Int→Int→Int→Int→Int→Ls→Ls→Int→Int→Nat→Ls→Int→Ls→Int→Int→List V→Ob β
abbrev zmc(β:Type):Type:=Int→Nat→Int→Ls→Ls→Int→Int→Nat→Ls→Int→Ls→Int→Int→List V→Ob β
abbrev zhv(β:Type):Type:=Int→Nat→Int→Int→Int→Ls→Ls→Int→Int→Nat→Ls→Int→Ls→Int→Int→List V→Ob β
section
variable {β:Type} (zc:zeq) (yg:zje) (zf:zc2) (xc:zcE) (ye:zjd)
def zAB(L:Nat)(C:Ls)(A:Int)(z:zgo β):Ob β:=zc β L C A (0:Int) (fun D E F G=>yg β L (64:Int) E F G (fun H I J M=>z A H (0:Int) (0:Int) ([]:Ls) ([]:Ls) (0:Int) D ([]:Ls) ([]:Ls) (0:Int) I J M))
theorem zLe(L:Nat)(O:Ls)(z:Int)(k:KK β):zj xQ (zQ zc yg zf xc ye L) L cf_tx_Read [(V.sl 1 O),(Qe z)] [] k=zAB zc yg L O z (fun z P Q I J M N A C D E F G H=>yx (xf xQ (zQ zc yg zf xc ye L) 0 L zjC) zkE L (ze4 z P Q I J M N A C D E F G H) (zl 0 (zy (xf xQ (zQ zc yg zf xc ye L) 0 L zmW) (zG 0 (CF.res cf_tx_Read) k)))):=by kernel_rfl
def zc1(L:Nat)(U P Q J:Int)(M N:Ls)(O D:Int)(z E:Ls)(F:Int)(G:Ls)(H I:Int)(A:zgo β)(T:zjl β):Ob β:=ifb (decide (Q<P)) (zf β L G H I (fun W v9 X Y=>chk ((XI W)=32∧0+32≤35) (lt (xd (We 32 (Qa (0:Int))++[(Qc (0:Int)),(Qc (0:Int)),(V.gs 1 ([]:Ls))]) 0 W) fun R=>zc β L v9 X Y (fun Z aa ab ac=>chk (1=1∧32+1≤(XI R)) (lt (xd R 32 [(Qc Z)]) fun S=>zc β L aa ab ac (fun ad ae af ag=>chk (1=1∧33+1≤(XI S)) (lt (xd S 33 [(Qc ad)]) fun C=>chk (0+35≤(XI C)) (chk ((XI (XK 35 C))=35∧0+35≤35) (chk ((XI z+XI (yf 35 1 (xd (We 32 (Qa (0:Int))++[(Qc (0:Int)),(Qc (0:Int)),(V.sl 1 ([]:Ls))]) 0 (XK 35 C))))*64≤zg∧XI z+XI (yf 35 1 (xd (We 32 (Qa (0:Int))++[(Qc (0:Int)),(Qc (0:Int)),(V.sl 1 ([]:Ls))]) 0 (XK 35 C)))≤zg∧XI z+XI (yf 35 1 (xd (We 32 (Qa (0:Int))++[(Qc (0:Int)),(Qc (0:Int)),(V.sl 1 ([]:Ls))]) 0 (XK 35 C)))≠0) (lt (z++(yf 35 1 (xd (We 32 (Qa (0:Int))++[(Qc (0:Int)),(Qc (0:Int)),(V.sl 1 ([]:Ls))]) 0 (XK 35 C)))) fun ah=>lt (QG .i64 ((Q:Int)+(1:Int))) fun ai=>A U P ai J M N O D ah E F ae af ag)))))))))) (T U J M N O D z E F G H I)
theorem zwk(L:Nat)(P N O H:Int)(I J:Ls)(M z:Int)(A C:Ls)(D:Int)(E:Ls)(F G:Int)(X:St→Ob β)(K:KT β):xf xQ (zQ zc yg zf xc ye L) 0 L zjC (ze4 P N O H I J M z A C D E F G) (xS zkE X K)=zc1 zc zf L P N O H I J M z A C D E F G (fun P N O H I J M z A C D E F G=>X (ze4 P N O H I J M z A C D E F G)) (fun P H I J M z A C D E F G=>K (.exit 0) (zmv P H I J M z A C D E F G)):=by kernel_rfl
def zfQ(L:Nat)(S I:Int)(J M:Ls)(N A:Int)(C D:Ls)(E:Int)(F:Ls)(G H:Int)(z:zfw β):Ob β:=yg β L (64:Int) F G H (fun O P Q R=>z S O (0:Int) I J M N A C D E P Q R)
theorem zt0(L:Nat)(N H:Int)(I J:Ls)(M z:Int)(A C:Ls)(D:Int)(E:Ls)(F G:Int)(k:KK β):(zl 0 (zy (xf xQ (zQ zc yg zf xc ye L) 0 L zmW) (zG 0 (CF.res cf_tx_Read) k))) (.exit 0) (zmv N H I J M z A C D E F G)=zfQ yg L N H I J M z A C D E F G (fun N O P H I J M z A C D E F G=>yx (xf xQ (zQ zc yg zf xc ye L) 0 L zip) zjo L (zeD N O P H I J M z A C D E F G) (zl 2 (zy (xf xQ (zQ zc yg zf xc ye L) 0 L zlI) (zG 0 (CF.res cf_tx_Read) k)))):=by kernel_rfl
def zcJ(L:Nat)(S N O F:Int)(G H:Ls)(I C:Int)(D z:Ls)(E:Int)(P:Ls)(Q R:Int)(A:zfw β)(ab:zjc β):Ob β:=ifb (decide (O<N)) (xc β L P Q R (fun T Z aa ac=>ifb (decide (T≥(9223372036854775808:Int))) (lt (QG .i64 T) fun J=>ye β L (520:Int) Z aa (90:Int) (fun U ad ae af=>chk ((XI z+XI (yf 2 1 [(Qe J),(V.sl 1 U)]))*32≤zg∧XI z+XI (yf 2 1 [(Qe J),(V.sl 1 U)])≤zg) (lt (z++(yf 2 1 [(Qe J),(V.sl 1 U)])) fun ag=>lt (QG .i64 ((O:Int)+(1:Int))) fun ah=>A S N ah F G H I C D ag E ad ae af)) (fun W ai aj ak=>chk ((XI z+XI (yf 2 1 [(Qe J),(V.sl 1 W)]))*32≤zg∧XI z+XI (yf 2 1 [(Qe J),(V.sl 1 W)])≤zg) (lt (z++(yf 2 1 [(Qe J),(V.sl 1 W)])) fun al=>lt (QG .i64 ((O:Int)+(1:Int))) fun am=>A S N am F G H I C D al E ai aj ak))) (lt (QG .i64 T) fun M=>ye β L (520:Int) Z aa ac (fun X an ao ap=>chk ((XI z+XI (yf 2 1 [(Qe M),(V.sl 1 X)]))*32≤zg∧XI z+XI (yf 2 1 [(Qe M),(V.sl 1 X)])≤zg) (lt (z++(yf 2 1 [(Qe M),(V.sl 1 X)])) fun aq=>lt (QG .i64 ((O:Int)+(1:Int))) fun ar=>A S N ar F G H I C D aq E an ao ap)) (fun Y au av aw=>chk ((XI z+XI (yf 2 1 [(Qe M),(V.sl 1 Y)]))*32≤zg∧XI z+XI (yf 2 1 [(Qe M),(V.sl 1 Y)])≤zg) (lt (z++(yf 2 1 [(Qe M),(V.sl 1 Y)])) fun ax=>lt (QG .i64 ((O:Int)+(1:Int))) fun ay=>A S N ay F G H I C D ax E au av aw))))) (ab S F G H I C D z E P Q R)
theorem zvC(L:Nat)(P N O H:Int)(I J:Ls)(M z:Int)(A C:Ls)(D:Int)(E:Ls)(F G:Int)(X:St→Ob β)(K:KT β):xf xQ (zQ zc yg zf xc ye L) 0 L zip (zeD P N O H I J M z A C D E F G) (xS zjo X K)=zcJ xc ye L P N O H I J M z A C D E F G (fun P N O H I J M z A C D E F G=>X (zeD P N O H I J M z A C D E F G)) (fun P H I J M z A C D E F G=>K (.exit 2) (zmr P H I J M z A C D E F G)):=by kernel_rfl
def ze6(L:Nat)(T H:Int)(I J:Ls)(M C:Int)(A D:Ls)(S:Int)(E:Ls)(F G:Int)(z:zhC β):Ob β:=zc β L E F G (fun N O P Q=>lt (XM A) fun R=>z T (XI A) (((XI A):Nat):Int) (0:Int) H I J M C (XI A) D N O P Q (xU (bl 680564733833211195536024101110595704831 129) R))
theorem zsS(L:Nat)(O G:Int)(H I:Ls)(J z:Int)(M A:Ls)(C:Int)(D:Ls)(E F:Int)(k:KK β):(zl 2 (zy (xf xQ (zQ zc yg zf xc ye L) 0 L zlI) (zG 0 (CF.res cf_tx_Read) k))) (.exit 2) (zmr O G H I J z M A C D E F)=ze6 zc L O G H I J z M A C D E F (fun O P Q R G H I J z N A C D E F S=>yx (xf xQ (zQ zc yg zf xc ye L) 0 L zet) zb2 L (zbj O P Q R G H I J z N A C D E F S) (zl 4 (zy (xf xQ (zQ zc yg zf xc ye L) 0 L zoY) (zG 0 (CF.res cf_tx_Read) k)))):=by kernel_rfl
def zc3(L:Nat)(T:Int)(I:Nat)(Q J M:Int)(N O:Ls)(P C:Int)(A:Nat)(D:Ls)(E:Int)(F:Ls)(G H:Int)(R:List V)(z:zbW β)(S:zmc β):Ob β:=ifb (decide (J<Q)) (yg β L (32:Int) F G H (fun U W X Y=>z T J I Q J U (0:Int) M N O P C A D E W X Y (xU (bl 680564733833211346651751552939242551295 129) R))) (S T I M N O P C A D E F G H (xU (bl 680564733833211195536024101110595704831 129) R))
theorem zsY(L:Nat)(R:Int)(H:Nat)(P Q I:Int)(J M:Ls)(N A:Int)(z:Nat)(C:Ls)(D:Int)(E:Ls)(F G:Int)(O:List V)(X:St→Ob β)(K:KT β):xf xQ (zQ zc yg zf xc ye L) 0 L zet (zbj R H P Q I J M N A z C D E F G O) (xS zb2 X K)=zc3 yg L R H P Q I J M N A z C D E F G O (fun R S H P Q T U I J M N A z C D E F G O=>yx (xf xQ (zQ zc yg zf xc ye L) 0 L zdz) zdV L (zbx R S H P Q T U I J M N A z C D E F G O) (zl 6 (zl 5 (zy (xf xQ (zQ zc yg zf xc ye L) 0 L zjO) (xS zb2 X K))))) (fun R H I J M N A z C D E F G O=>K (.exit 4) (zmq R H I J M N A z C D E F G O)):=by kernel_rfl
def y5(L:Nat)(p1:Int)(ab:Nat)(ac:Int)(ad ae:Ls)(af E:Int)(A:Nat)(F:Ls)(G:Int)(Z:Ls)(C D:Int)(H:List V)(z:List V→Int→Int→Ob β):Ob β:=ifb ((D:Int)==(0:Int)) (lt (QG .i64 ((C:Int)-p1)) fun R=>ifb (decide (R>(20000:Int))) (lt [(Qc (0:Int)),(V.sl 35 ([]:Ls)),(V.sl 2 ([]:Ls)),(Qc (0:Int))] fun I=>chk (0=0∧(XI I)=4∧4≠0) (z I (0:Int) (4:Int))) (ifb ((D:Int) != (0:Int)) (lt [(Qc (0:Int)),(V.sl 35 ([]:Ls)),(V.sl 2 ([]:Ls)),(Qc (0:Int))] fun J=>chk (0=0∧(XI J)=4∧4≠0) (z J (0:Int) D)) (lc H (chk (A=0) (lt [(Qc E),(V.sl 35 ([]:Ls)),(V.sl 2 F),(Qc G)] fun M=>chk (0=0∧(XI M)=4∧4≠0) (z M C (0:Int)))) (fun S T=>zb4 (S::T) fun U=>lt [(Qc E),(V.sl 35 (yf 35 A U)),(V.sl 2 F),(Qc G)] fun N=>chk (0=0∧(XI N)=4∧4≠0) (z N C (0:Int)))))) (ifb ((D:Int) != (0:Int)) (lt [(Qc (0:Int)),(V.sl 35 ([]:Ls)),(V.sl 2 ([]:Ls)),(Qc (0:Int))] fun O=>chk (0=0∧(XI O)=4∧4≠0) (z O (0:Int) D)) (lc H (chk (A=0) (lt [(Qc E),(V.sl 35 ([]:Ls)),(V.sl 2 F),(Qc G)] fun P=>chk (0=0∧(XI P)=4∧4≠0) (z P C (0:Int)))) (fun W X=>zb4 (W::X) fun Y=>lt [(Qc E),(V.sl 35 (yf 35 A Y)),(V.sl 2 F),(Qc G)] fun Q=>chk (0=0∧(XI Q)=4∧4≠0) (z Q C (0:Int)))))
theorem zq6(L:Nat)(S:Int)(H:Nat)(I:Int)(J M:Ls)(N A:Int)(z:Nat)(C:Ls)(D:Int)(E:Ls)(F G:Int)(O:List V)(k:KK β):(zl 4 (zy (xf xQ (zQ zc yg zf xc ye L) 0 L zoY) (zG 0 (CF.res cf_tx_Read) k))) (.exit 4) (zmq S H I J M N A z C D E F G O)=y5 L S H I J M N A z C D E F G O (fun P Q R=>k (V.tup [(V.agg P),(Qe Q),(Qe R)]) []):=by kernel_rfl
def y4(L:Nat)(Z A:Int)(I:Nat)(S T U W J:Int)(M N:Ls)(O F:Int)(C:Nat)(G:Ls)(H:Int)(P:Ls)(Q R:Int)(E:List V)(z:zbW β)(aa:zhv β):Ob β:=ifb (decide (W<U)) (chk (0≤A∧A<((C:Nat):Int)) (cG 1 E ((0+((XJ A)*35))+34) fun D=>ye β L (520:Int) P Q R (fun X ab ac ad=>chk ((XI D+XI (yf 1 1 [(V.sl 1 X)]))*24≤zg∧XI D+XI (yf 1 1 [(V.sl 1 X)])≤zg) (lt (D++(yf 1 1 [(V.sl 1 X)])) fun ae=>chk (0≤A∧A<((C:Nat):Int)) (chk (1=1∧((0+((XJ A)*35))+34)<(XI (XO E ((0+((XJ A)*35))+34) (V.sl 1 D)))) (lt (QG .i64 ((W:Int)+(1:Int))) fun af=>z Z A I S T U af J M N O F C G H ab ac ad (xU (bl 680564733833211346651751552939242551295 129) (XO (XO E ((0+((XJ A)*35))+34) (V.sl 1 D)) ((0+((XJ A)*35))+34) (V.gs 1 ae))))))) (fun Y ag ah ai=>chk ((XI D+XI (yf 1 1 [(V.sl 1 Y)]))*24≤zg∧XI D+XI (yf 1 1 [(V.sl 1 Y)])≤zg) (lt (D++(yf 1 1 [(V.sl 1 Y)])) fun aj=>chk (0≤A∧A<((C:Nat):Int)) (chk (1=1∧((0+((XJ A)*35))+34)<(XI (XO E ((0+((XJ A)*35))+34) (V.sl 1 D)))) (lt (QG .i64 ((W:Int)+(1:Int))) fun ak=>z Z A I S T U ak J M N O F C G H ag ah ai (xU (bl 680564733833211346651751552939242551295 129) (XO (XO E ((0+((XJ A)*35))+34) (V.sl 1 D)) ((0+((XJ A)*35))+34) (V.gs 1 aj))))))))) (aa Z I S T J M N O F C G H P Q R (xU (bl 680564733833211346651751552939242551295 129) E))
theorem zmJ(L:Nat)(U R:Int)(H:Nat)(O P S T I:Int)(J M:Ls)(N A:Int)(z:Nat)(C:Ls)(D:Int)(E:Ls)(F G:Int)(Q:List V)(X:St→Ob β)(K:KT β):xf xQ (zQ zc yg zf xc ye L) 0 L zdz (zbx U R H O P S T I J M N A z C D E F G Q) (xS zdV X K)=y4 ye L U R H O P S T I J M N A z C D E F G Q (fun U R H O P S T I J M N A z C D E F G Q=>X (zbx U R H O P S T I J M N A z C D E F G Q)) (fun U H O P I J M N A z C D E F G Q=>K (.exit 6) (zq7 U H O P I J M N A z C D E F G Q)):=by kernel_rfl
def zD(L:Nat)(T:Int)(I:Nat)(P Q J:Int)(M N:Ls)(O C:Int)(A:Nat)(D:Ls)(E:Int)(F:Ls)(G H:Int)(R:List V)(z:zhC β):Ob β:=lt (QG .i64 ((Q:Int)+(1:Int))) fun S=>z T I P S J M N O C A D E F G H (xU (bl 680564733833211195536024101110595704831 129) R)
theorem zlq(L:Nat)(R:Int)(H:Nat)(O P I:Int)(J M:Ls)(N A:Int)(z:Nat)(C:Ls)(D:Int)(E:Ls)(F G:Int)(Q:List V)(X:St→Ob β)(K:KT β):(zl 6 (zl 5 (zy (xf xQ (zQ zc yg zf xc ye L) 0 L zjO) (xS zb2 X K)))) (.exit 6) (zq7 R H O P I J M N A z C D E F G Q)=zD L R H O P I J M N A z C D E F G Q (fun R H O P I J M N A z C D E F G Q=>X (zbj R H O P I J M N A z C D E F G Q)):=by kernel_rfl
def zZ(L:Nat)(N:zjl β):Nat→Int→Int→Int→Int→Ls→Ls→Int→Int→Ls→Ls→Int→Ls→Int→Int→Ob β
 | 0,_,_,_,_,_,_,_,_,_,_,_,_,_,_=>none
 | n+1,Q,O,P,H,I,J,M,z,A,C,D,E,F,G=>zc1 zc zf L Q O P H I J M z A C D E F G (fun Q O P H I J M z A C D E F G=>zZ L N n Q O P H I J M z A C D E F G) N
theorem znm(L:Nat)(K:KT β):∀ (n:Nat) (N O P H:Int) (I J:Ls) (M z:Int) (A C:Ls) (D:Int) (E:Ls) (F G:Int),yx (xf xQ (zQ zc yg zf xc ye L) 0 L zjC) zkE n (ze4 N O P H I J M z A C D E F G) K=zZ zc zf L (fun N H I J M z A C D E F G=>K (.exit 0) (zmv N H I J M z A C D E F G)) n N O P H I J M z A C D E F G:=by
 intro n; induction n <;> intros
 ·rfl
 ·exact (zwk ..).trans (by simp only [*]; rfl)
def z8(L:Nat)(N:zjc β):Nat→Int→Int→Int→Int→Ls→Ls→Int→Int→Ls→Ls→Int→Ls→Int→Int→Ob β
 | 0,_,_,_,_,_,_,_,_,_,_,_,_,_,_=>none
 | n+1,Q,O,P,H,I,J,M,z,A,C,D,E,F,G=>zcJ xc ye L Q O P H I J M z A C D E F G (fun Q O P H I J M z A C D E F G=>z8 L N n Q O P H I J M z A C D E F G) N
theorem zlR(L:Nat)(K:KT β):∀ (n:Nat) (N O P H:Int) (I J:Ls) (M z:Int) (A C:Ls) (D:Int) (E:Ls) (F G:Int),yx (xf xQ (zQ zc yg zf xc ye L) 0 L zip) zjo n (zeD N O P H I J M z A C D E F G) K=z8 xc ye L (fun N H I J M z A C D E F G=>K (.exit 2) (zmr N H I J M z A C D E F G)) n N O P H I J M z A C D E F G:=by
 intro n; induction n <;> intros
 ·rfl
 ·exact (zvC ..).trans (by simp only [*]; rfl)
def xB(L:Nat)(O:zhv β):Nat→Int→Int→Nat→Int→Int→Int→Int→Int→Ls→Ls→Int→Int→Nat→Ls→Int→Ls→Int→Int→List V→Ob β
 | 0,_,_,_,_,_,_,_,_,_,_,_,_,_,_,_,_,_,_,_=>none
 | n+1,W,P,H,Q,R,S,T,I,J,M,N,A,z,C,D,E,F,G,U=>y4 ye L W P H Q R S T I J M N A z C D E F G U (fun W P H Q R S T I J M N A z C D E F G U=>xB L O n W P H Q R S T I J M N A z C D E F G U) O
theorem zgh(L:Nat)(K:KT β):∀ (n:Nat) (R S:Int) (H:Nat) (O P T U I:Int) (J M:Ls) (N A:Int) (z:Nat) (C:Ls) (D:Int) (E:Ls) (F G:Int) (Q:List V),yx (xf xQ (zQ zc yg zf xc ye L) 0 L zdz) zdV n (zbx R S H O P T U I J M N A z C D E F G Q) K=xB ye L (fun R H O P I J M N A z C D E F G Q=>K (.exit 6) (zq7 R H O P I J M N A z C D E F G Q)) n R S H O P T U I J M N A z C D E F G Q:=by
 intro n; induction n <;> intros
 ·rfl
 ·exact (zmJ ..).trans (by simp only [*]; rfl)
def zbH(L:Nat)(S:Int)(I:Nat)(P Q J:Int)(M N:Ls)(O A:Int)(z:Nat)(C:Ls)(D:Int)(E:Ls)(F G:Int)(R:List V)(T:zmc β)(H:zhC β):Ob β:=zc3 yg L S I P Q J M N O A z C D E F G R (fun S U I P Q W X J M N O A z C D E F G R=>xB ye L (fun S I P Q J M N O A z C D E F G R=>zD L S I P Q J M N O A z C D E F G R H) L S U I P Q W X J M N O A z C D E F G R) T
theorem zsc(L:Nat)(R:Int)(H:Nat)(P Q I:Int)(J M:Ls)(N A:Int)(z:Nat)(C:Ls)(D:Int)(E:Ls)(F G:Int)(O:List V)(X:St→Ob β)(K:KT β):xf xQ (zQ zc yg zf xc ye L) 0 L zet (zbj R H P Q I J M N A z C D E F G O) (xS zb2 X K)=zbH yg ye L R H P Q I J M N A z C D E F G O (fun R H I J M N A z C D E F G O=>K (.exit 4) (zmq R H I J M N A z C D E F G O)) (fun R H P Q I J M N A z C D E F G O=>X (zbj R H P Q I J M N A z C D E F G O)):=by
 refine (zsY ..).trans ?_
 unfold zbH
 first
  | (simp only [zgh,zlq]; done)
  | (simp only [zgh]; rfl)
def zI(L:Nat)(O:zmc β):Nat→Int→Nat→Int→Int→Int→Ls→Ls→Int→Int→Nat→Ls→Int→Ls→Int→Int→List V→Ob β
 | 0,_,_,_,_,_,_,_,_,_,_,_,_,_,_,_,_=>none
 | n+1,S,H,P,Q,I,J,M,N,A,z,C,D,E,F,G,R=>zbH yg ye L S H P Q I J M N A z C D E F G R O (fun S H P Q I J M N A z C D E F G R=>zI L O n S H P Q I J M N A z C D E F G R)
theorem zkB(L:Nat)(K:KT β):∀ (n:Nat) (P:Int) (H:Nat) (Q R I:Int) (J M:Ls) (N A:Int) (z:Nat) (C:Ls) (D:Int) (E:Ls) (F G:Int) (O:List V),yx (xf xQ (zQ zc yg zf xc ye L) 0 L zet) zb2 n (zbj P H Q R I J M N A z C D E F G O) K=zI yg ye L (fun P H I J M N A z C D E F G O=>K (.exit 4) (zmq P H I J M N A z C D E F G O)) n P H Q R I J M N A z C D E F G O:=by
 intro n; induction n <;> intros
 ·rfl
 ·exact (zsc ..).trans (by simp only [*]; rfl)
def zac(L:Nat)(O G:Int)(H I:Ls)(J z:Int)(Q A:Ls)(C:Int)(D:Ls)(E F:Int)(R:List V→Int→Int→Ob β):Ob β:=ze6 zc L O G H I J z Q A C D E F (fun O N S T G H I J z M A C D E F P=>zI yg ye L (fun O N G H I J z M A C D E F P=>y5 L O N G H I J z M A C D E F P R) L O N S T G H I J z M A C D E F P)
theorem zr3(L:Nat)(Q H:Int)(I J:Ls)(M z:Int)(A C:Ls)(D:Int)(E:Ls)(F G:Int)(k:KK β):(zl 2 (zy (xf xQ (zQ zc yg zf xc ye L) 0 L zlI) (zG 0 (CF.res cf_tx_Read) k))) (.exit 2) (zmr Q H I J M z A C D E F G)=zac zc yg ye L Q H I J M z A C D E F G (fun N O P=>k (V.tup [(V.agg N),(Qe O),(Qe P)]) []):=by
 refine (zsS ..).trans ?_
 unfold zac
 first
  | (simp only [zkB,zq6]; done)
  | (simp only [zkB]; rfl)
def zak(L:Nat)(N H:Int)(I J:Ls)(M z:Int)(A C:Ls)(D:Int)(E:Ls)(F G:Int)(O:List V→Int→Int→Ob β):Ob β:=zfQ yg L N H I J M z A C D E F G (fun N P Q H I J M z A C D E F G=>z8 xc ye L (fun N H I J M z A C D E F G=>zac zc yg ye L N H I J M z A C D E F G O) L N P Q H I J M z A C D E F G)
theorem ztr(L:Nat)(Q H:Int)(I J:Ls)(M z:Int)(A C:Ls)(D:Int)(E:Ls)(F G:Int)(k:KK β):(zl 0 (zy (xf xQ (zQ zc yg zf xc ye L) 0 L zmW) (zG 0 (CF.res cf_tx_Read) k))) (.exit 0) (zmv Q H I J M z A C D E F G)=zak zc yg xc ye L Q H I J M z A C D E F G (fun N O P=>k (V.tup [(V.agg N),(Qe O),(Qe P)]) []):=by
 refine (zt0 ..).trans ?_
 unfold zak
 first
  | (simp only [zlR,zr3]; done)
  | (simp only [zlR]; rfl)
end
def zuS{β:Type}(zc:zeq)(yg:zje)(zf:zc2)(xc:zcE)(ye:zjd)(L:Nat)(R:Ls)(N:Int)(O:List V→Int→Int→Ob β):Ob β:=zAB zc yg L R N (fun N P Q H I J M z A C D E F G=>zZ zc zf L (fun N H I J M z A C D E F G=>zak zc yg xc ye L N H I J M z A C D E F G O) L N P Q H I J M z A C D E F G)
theorem zMe{β:Type}(zc:zeq)(yg:zje)(zf:zc2)(xc:zcE)(ye:zjd)(L:Nat)(z:Ls)(A:Int)(k:KK β):zj xQ (zQ zc yg zf xc ye L) L cf_tx_Read [(V.sl 1 z),(Qe A)] [] k=zuS zc yg zf xc ye L z A (fun C D E=>k (V.tup [(V.agg C),(Qe D),(Qe E)]) []):=by
 refine (zLe zc yg zf xc ye L z A k).trans ?_
 unfold zuS
 first
  | (simp only [znm,ztr]; done)
  | (simp only [znm]; rfl)
abbrev zm3:=∀ (β:Type),Nat→Ls→Int→(List V→Int→Int→Ob β)→Ob β
def yP:zm3:=fun β=>@zuS β zc yg zf xc ye
def zAH(yP:zm3)(L:Nat):Dk:=dA (AL 1) fun D=>dA (AI .i64) fun E=>d0 fun β k=>yP β L D E (fun z A C=>k (V.tup [(V.agg z),(Qe A),(Qe C)]) [])
theorem zLb(L:Nat):DK (zAH yP L) (fun _=>zj xQ (zQ zc yg zf xc ye L) L cf_tx_Read):=xp zaL fun z=>xp xY fun A=>xO fun _ k=>zMe zc yg zf xc ye L z A k
def zxl:Hint:=⟨[],[],[none,none,none,none,none,none],[],[],false,false,[]⟩
def zz8:CF:=cfD zxl 68
def zsD:Nat→Sh:=yD []
def zsz(L:Nat):CBC:=noC
def zpR{β:Type}(L:Nat)(C:Ls)(A:Int)(z:Int→Ob β):Ob β:=ifb (decide (A<(0:Int))) (z (5:Int)) (ifb (decide (A>((XI C:Nat):Int))) (z (5:Int)) (ifb (decide (A<((XI C:Nat):Int))) (z (2:Int)) (z (0:Int))))
theorem zH9{β:Type}(L:Nat)(z:Ls)(A:Int)(k:KK β):zj zsD (zsz L) L zz8 [(V.sl 1 z),(Qe A)] [] k=zpR L z A (fun z=>k (Qe z) []):=by kernel_rfl
abbrev zjf:=∀ (β:Type),Nat→Ls→Int→(Int→Ob β)→Ob β
def zJ:zjf:=fun β=>@zpR β
def zu5(zJ:zjf)(L:Nat):Dk:=dA (AL 1) fun z=>dA (AI .i64) fun A=>d0 fun β k=>zJ β L z A (fun z=>k (Qe z) [])
theorem zHE(L:Nat):DK (zu5 zJ L) (fun _=>zj zsD (zsz L) L zz8):=xp zaL fun z=>xp xY fun A=>xO fun _ k=>zH9 L z A k
def zrI:Hint:=⟨[(0,0),(5,3),(8,2),(11,1),(14,3),(14,7),(17,1)],[],[none,none,none,none,none,none,none,none,none,some ((bl 26388279067013 73),(bl 9441265756976168563175 73)),none,some ((bl 389 73),(bl 9441265756976168563175 73)),none,none,some ((bl 12 73),(bl 9441265756976168562799 73)),none,none,none],[],[],false,false,[]⟩
def cf_block_Decode:CF:=cfD zrI 32
def zfg:CC:=yw [1,1,1,1,1,1,1,1,0,1,0,0] cf_block_Decode.body
def zgL:CC:=yw [1,1,1,1,1,1,1,1,1] cf_block_Decode.body
def zbt:Nat→Sh:=yD [(58,(.gs 4))]
def zbs(xn:zcn)(xl:zbD)(yP:zm3)(zJ:zjf)(L:Nat):CBC:=(zq 179 (zu5 zJ L) (zq 139 (zAH yP L) (zq 164 (zj9 xl L) (zq 503 (ziq xn L) noC))))
def zfE:St→St:=zN 0 (bl 26388279067013 73) (bl 9441265756976168563175 73)
def zck(C:Ls)(D z A:Int)(E F:List V):St:=⟨((V.sl 1 C)::(jn 1 ((V.ptr 2 0)::(jn 4 ((Qe D)::((V.ptr 8 0)::(jn 34 ((Qd z)::((Qd A)::(jn 28 [])))))))))),(gn 2 ((.live true E)::(gn 5 ((.live false F)::(gn 64 [])))))⟩
def zjF(z:Int)(A:List V):St:=⟨(jn 2 ((V.ptr 2 0)::((Qe z)::(jn 69 [])))),(gn 2 ((.live true A)::(gn 70 [])))⟩
def zky(z:Ls)(A:Int)(C D:List V):St:=⟨((V.sl 1 z)::(jn 1 ((V.ptr 2 0)::(jn 4 ((Qe A)::((V.ptr 8 0)::(jn 64 []))))))),(gn 2 ((.live true C)::(gn 5 ((.live false D)::(gn 64 [])))))⟩
section
variable {β:Type} (xn:zcn) (xl:zbD) (yP:zm3) (zJ:zjf)
def zpv(L:Nat)(C:Ls)(A:List V→Int→Ob β)(z:Ls→Int→Int→Int→List V→List V→Ob β):Ob β:=ifb (decide (((XI C:Nat):Int)>(100000:Int))) (lt ([(Qc (0:Int))]++We 64 (Qa (0:Int))++[(Qc (0:Int)),(Qc (0:Int)),(Qc (0:Int)),(V.sl 4 ([]:Ls))]) fun E=>chk (0=0∧(XI E)=69∧69≠0) (A E (4:Int))) (ifb (decide (((XI C:Nat):Int)<(80:Int))) (lt ([(Qc (0:Int))]++We 64 (Qa (0:Int))++[(Qc (0:Int)),(Qc (0:Int)),(Qc (0:Int)),(V.sl 4 ([]:Ls))]) fun F=>chk (0=0∧(XI F)=69∧69≠0) (A F (1:Int))) (chk (0≤(80:Int)∧(80:Int)≤(((XI C):Nat):Int)) (xn β L (XK 80 (XL 0 C)) (fun G H=>chk ((XI G)=68∧0+68≤68) (lt (xd ([(Qc (0:Int))]++We 64 (Qa (0:Int))++[(Qc (0:Int)),(Qc (0:Int)),(Qc (0:Int))]) 0 G) fun D=>ifb ((H:Int) != (0:Int)) (lt ([(Qc (0:Int))]++We 64 (Qa (0:Int))++[(Qc (0:Int)),(Qc (0:Int)),(Qc (0:Int)),(V.sl 4 ([]:Ls))]) fun I=>chk (0=0∧(XI I)=69∧69≠0) (A I H)) (xl β L C (80:Int) (256:Int) (fun N O J=>ifb ((J:Int) != (0:Int)) (lt ([(Qc (0:Int))]++We 64 (Qa (0:Int))++[(Qc (0:Int)),(Qc (0:Int)),(Qc (0:Int)),(V.sl 4 ([]:Ls))]) fun M=>chk (0=0∧(XI M)=69∧69≠0) (A M J)) (chk (0+68≤(XI D)) (chk ((XI (XK 68 D))=68∧0+68≤69) (chk ((XI (xd ([(Qc (0:Int))]++We 64 (Qa (0:Int))++[(Qc (0:Int)),(Qc (0:Int)),(Qc (0:Int)),(V.gs 4 ([]:Ls))]) 0 (XK 68 D)))=69∧0+69≤69) (z C O N (0:Int) ([(Qc (0:Int))]++We 64 (Qa (0:Int))++[(Qc (0:Int)),(Qc (0:Int)),(Qc (0:Int)),(V.gs 4 ([]:Ls))]) (xU (bl 9441265756976168563175 73) (xd ([(Qc (0:Int))]++We 64 (Qa (0:Int))++[(Qc (0:Int)),(Qc (0:Int)),(Qc (0:Int)),(V.gs 4 ([]:Ls))]) 0 (xd ([(Qc (0:Int))]++We 64 (Qa (0:Int))++[(Qc (0:Int)),(Qc (0:Int)),(Qc (0:Int)),(V.gs 4 ([]:Ls))]) 0 (XK 68 D)))))))))))))))
theorem zCL(L:Nat)(z:Ls)(k:KK β):zj zbt (zbs xn xl yP zJ L) L cf_block_Decode [(V.sl 1 z)] [] k=zpv xn xl L z (fun A C=>k (V.tup [(V.agg A),(Qe C)]) []) (fun z F D E G H=>yx (xf zbt (zbs xn xl yP zJ L) 0 L zfg) zfE L (zck z F D E G H) (zl 0 (zy (xf zbt (zbs xn xl yP zJ L) 0 L zgL) (zG 0 (CF.res cf_block_Decode) k)))):=by kernel_rfl
def zc9(L:Nat)(M:Ls)(O G H:Int)(D E:List V)(F:Int→List V→Ob β)(z:Ls→Int→Int→Int→List V→List V→Ob β)(N:Ls→Int→List V→List V→Ob β):Ob β:=ifb (decide (H<G)) (yP β L M O (fun I P J=>chk ((XI I)=4∧0+4≤4) (lt (xd [(Qc (0:Int)),(V.gs 35 ([]:Ls)),(V.gs 2 ([]:Ls)),(Qc (0:Int))] 0 I) fun A=>ifb ((J:Int) != (0:Int)) (chk (69=69∧0+69≤(XI D)) (lt (xd D 0 ([(Qc (0:Int))]++We 64 (Qa (0:Int))++[(Qc (0:Int)),(Qc (0:Int)),(Qc (0:Int)),(V.sl 4 ([]:Ls))])) fun Q=>F J Q)) (cG 4 E 68 fun C=>chk (0+4≤(XI A)) (chk ((XI (XK 4 A))=4∧0+4≤4) (chk ((XI C+XI (yf 4 1 (xd [(Qc (0:Int)),(V.sl 35 ([]:Ls)),(V.sl 2 ([]:Ls)),(Qc (0:Int))] 0 (XK 4 A))))*64≤zg∧XI C+XI (yf 4 1 (xd [(Qc (0:Int)),(V.sl 35 ([]:Ls)),(V.sl 2 ([]:Ls)),(Qc (0:Int))] 0 (XK 4 A)))≤zg) (lt (C++(yf 4 1 (xd [(Qc (0:Int)),(V.sl 35 ([]:Ls)),(V.sl 2 ([]:Ls)),(Qc (0:Int))] 0 (XK 4 A)))) fun R=>chk (1=1∧68<(XI (XO E 68 (V.sl 4 C)))) (lt (QG .u64 ((H:Int)+(1:Int))) fun S=>z M P G S D (xU (bl 9441265756976168563175 73) (XO (XO E 68 (V.sl 4 C)) 68 (V.gs 4 R))))))))))) (N M O D (xU (bl 9441265756976168563175 73) E))
theorem zo3(L:Nat)(D:Ls)(E A C:Int)(z F:List V)(X:St→Ob β)(K:KT β):xf zbt (zbs xn xl yP zJ L) 0 L zfg (zck D E A C z F) (xS zfE X K)=zc9 yP L D E A C z F (fun G z=>K .ret (zjF G z)) (fun D E A C z F=>X (zck D E A C z F)) (fun D E z F=>K (.exit 0) (zky D E z F)):=by kernel_rfl
def zer(L:Nat)(C:Int)(A:List V)(z:List V→Int→Ob β):Ob β:=chk (0=0∧(XI A)=69∧69≠0) (z A C)
theorem znp(L:Nat)(C:Int)(D:List V)(k:KK β):(zl 0 (zy (xf zbt (zbs xn xl yP zJ L) 0 L zgL) (zG 0 (CF.res cf_block_Decode) k))) .ret (zjF C D)=zer L C D (fun z A=>k (V.tup [(V.agg z),(Qe A)]) []):=by kernel_rfl
def zeJ(L:Nat)(H:Ls)(I:Int)(A G:List V)(z:List V→Int→Ob β):Ob β:=zJ β L H I (fun C=>ifb ((C:Int) != (0:Int)) (chk (69=69∧0+69≤(XI A)) (lt (xd A 0 ([(Qc (0:Int))]++We 64 (Qa (0:Int))++[(Qc (0:Int)),(Qc (0:Int)),(Qc (0:Int)),(V.sl 4 ([]:Ls))])) fun D=>chk (0=0∧(XI D)=69∧69≠0) (z D C))) (chk (0+69≤(XI G)) (zb4 (XK 69 G) fun E=>chk ((XI E)=69∧0+69≤(XI A)) (lt (xd A 0 E) fun F=>chk (0=0∧(XI F)=69∧69≠0) (z F (0:Int))))))
theorem zoy(L:Nat)(C:Ls)(D:Int)(E F:List V)(k:KK β):(zl 0 (zy (xf zbt (zbs xn xl yP zJ L) 0 L zgL) (zG 0 (CF.res cf_block_Decode) k))) (.exit 0) (zky C D E F)=zeJ zJ L C D E F (fun z A=>k (V.tup [(V.agg z),(Qe A)]) []):=by kernel_rfl
def za7(L:Nat)(z:Int→List V→Ob β)(A:Ls→Int→List V→List V→Ob β):Nat→Ls→Int→Int→Int→List V→List V→Ob β
 | 0,_,_,_,_,_,_=>none
 | n+1,E,F,C,D,G,H=>zc9 yP L E F C D G H z (fun E F C D G H=>za7 L z A n E F C D G H) A
theorem zhK(L:Nat)(K:KT β):∀ (n:Nat) (A:Ls) (C E F:Int) (z D:List V),yx (xf zbt (zbs xn xl yP zJ L) 0 L zfg) zfE n (zck A C E F z D) K=za7 yP L (fun G z=>K .ret (zjF G z)) (fun A C z D=>K (.exit 0) (zky A C z D)) n A C E F z D:=by
 intro n; induction n <;> intros
 ·rfl
 ·exact (zo3 ..).trans (by simp only [*]; rfl)
end
def zk1{β:Type}(xn:zcn)(xl:zbD)(yP:zm3)(zJ:zjf)(L:Nat)(A:Ls)(z:List V→Int→Ob β):Ob β:=zpv xn xl L A z (fun A D F G C E=>za7 yP L (fun H C=>zer L H C z) (fun A D C E=>zeJ zJ L A D C E z) L A D F G C E)
theorem zB3{β:Type}(xn:zcn)(xl:zbD)(yP:zm3)(zJ:zjf)(L:Nat)(z:Ls)(k:KK β):zj zbt (zbs xn xl yP zJ L) L cf_block_Decode [(V.sl 1 z)] [] k=zk1 xn xl yP zJ L z (fun A C=>k (V.tup [(V.agg A),(Qe C)]) []):=by
 refine (zCL xn xl yP zJ L z k).trans ?_
 unfold zk1
 first
  | (simp only [zhK,znp,zoy]; done)
  | (simp only [zhK]; rfl)
abbrev zem:=∀ (β:Type),Nat→Ls→(List V→Int→Ob β)→Ob β
def zz:zem:=fun β=>@zk1 β xn xl yP zJ
def zk6(zz:zem)(L:Nat):Dk:=dA (AL 1) fun C=>d0 fun β k=>zz β L C (fun z A=>k (V.tup [(V.agg z),(Qe A)]) [])
theorem zCZ(L:Nat):DK (zk6 zz L) (fun _=>zj zbt (zbs xn xl yP zJ L) L cf_block_Decode):=xp zaL fun z=>xO fun _ k=>zB3 xn xl yP zJ L z k
def zry:Hint:=⟨[],[],[none,none,none,none,none,some ((bl 1543 45),(bl 35184372088831 45)),none,some ((bl 518 45),(bl 35184372087807 45)),none,none],[],[],false,false,[]⟩
def cf_ref01_number:CF:=cfD zry 119
def zhj:CC:=yw [1,1,1,1,0,1,0,0] cf_ref01_number.body
def zoS:CC:=yw [1,1,1,1,1] cf_ref01_number.body
def zbQ:Nat→Sh:=yD [(38,(.int .u8))]
def zbV(L:Nat):CBC:=noC
def zic:St→St:=zN 0 (bl 1543 45) (bl 35184372088831 45)
def zdF(A:Ls)(C D E z:Int):St:=⟨((V.sl 1 A)::((Qe C)::((Qe D)::(jn 6 ((Qd E)::((Qe z)::(jn 34 []))))))),(gn 45 [])⟩
def zkv(z A C:Int):St:=⟨(jn 1 ((Qe z)::((Qe A)::(jn 6 ((Qd C)::(jn 35 [])))))),(gn 45 [])⟩
section
variable {β:Type}
def zpf(L:Nat)(D:Ls)(C E:Int)(z:Int→Int→Int→Ob β)(A:Ls→Int→Int→Int→Int→Ob β):Ob β:=ifb (decide (C<(0:Int))) (z (0:Int) (0:Int) (5:Int)) (ifb (decide (C>((XI D:Nat):Int))) (z (0:Int) (0:Int) (5:Int)) (lt (QG .i64 ((((XI D:Nat):Int):Int)-C)) fun F=>ifb (decide (F<E)) (z (0:Int) (0:Int) (1:Int)) (lt (QG .i64 ((E:Int)-(1:Int))) fun G=>A D C E (0:Int) G)))
theorem zCg(L:Nat)(z:Ls)(A C:Int)(k:KK β):zj zbQ (zbV L) L cf_ref01_number [(V.sl 1 z),(Qe A),(Qe C)] [] k=zpf L z A C (fun D E F=>k (V.tup [(Qd D),(Qe E),(Qe F)]) []) (fun z A C H G=>yx (xf zbQ (zbV L) 0 L zhj) zic L (zdF z A C H G) (zl 0 (zy (xf zbQ (zbV L) 0 L zoS) (zG 0 (CF.res cf_ref01_number) k)))):=by kernel_rfl
def zeX(L:Nat)(E:Ls)(C F G A:Int)(z:Ls→Int→Int→Int→Int→Ob β)(D:Int→Int→Int→Ob β):Ob β:=ifb (decide (A≥(0:Int))) (lt (zct .u64 G (8:Int)) fun H=>lt (QG .i64 ((C:Int)+A)) fun I=>idx E I fun J=>cI .u8 J 0 fun M=>lt (QG .u64 M) fun N=>lt (ior .u64 H N) fun O=>lt (QG .i64 ((A:Int)-(1:Int))) fun P=>z E C F O P) (D C F G)
theorem zs3(L:Nat)(E:Ls)(A C D z:Int)(X:St→Ob β)(K:KT β):xf zbQ (zbV L) 0 L zhj (zdF E A C D z) (xS zic X K)=zeX L E A C D z (fun E A C D z=>X (zdF E A C D z)) (fun A C D=>K (.exit 0) (zkv A C D)):=by kernel_rfl
def zdZ(L:Nat)(A C D:Int)(z:Int→Int→Int→Ob β):Ob β:=lt (QG .i64 ((A:Int)+C)) fun E=>z D E (0:Int)
theorem zqX(L:Nat)(D E F:Int)(k:KK β):(zl 0 (zy (xf zbQ (zbV L) 0 L zoS) (zG 0 (CF.res cf_ref01_number) k))) (.exit 0) (zkv D E F)=zdZ L D E F (fun z A C=>k (V.tup [(Qd z),(Qe A),(Qe C)]) []):=by kernel_rfl
def zb3(L:Nat)(z:Int→Int→Int→Ob β):Nat→Ls→Int→Int→Int→Int→Ob β
 | 0,_,_,_,_,_=>none
 | n+1,C,D,E,F,A=>zeX L C D E F A (fun C D E F A=>zb3 L z n C D E F A) z
theorem zko(L:Nat)(K:KT β):∀ (n:Nat) (E:Ls) (z A C D:Int),yx (xf zbQ (zbV L) 0 L zhj) zic n (zdF E z A C D) K=zb3 L (fun z A C=>K (.exit 0) (zkv z A C)) n E z A C D:=by
 intro n; induction n <;> intros
 ·rfl
 ·exact (zs3 ..).trans (by simp only [*]; rfl)
end
def zk0{β:Type}(L:Nat)(D:Ls)(A C:Int)(z:Int→Int→Int→Ob β):Ob β:=zpf L D A C z (fun D A C E F=>zb3 L (fun A C E=>zdZ L A C E z) L D A C E F)
theorem zC2{β:Type}(L:Nat)(z:Ls)(A C:Int)(k:KK β):zj zbQ (zbV L) L cf_ref01_number [(V.sl 1 z),(Qe A),(Qe C)] [] k=zk0 L z A C (fun D E F=>k (V.tup [(Qd D),(Qe E),(Qe F)]) []):=by
 refine (zCg L z A C k).trans ?_
 unfold zk0
 first
  | (simp only [zko,zqX]; done)
  | (simp only [zko]; rfl)
abbrev zbk:=∀ (β:Type),Nat→Ls→Int→Int→(Int→Int→Int→Ob β)→Ob β
def zo:zbk:=fun β=>@zk0 β
def zig(zo:zbk)(L:Nat):Dk:=dA (AL 1) fun D=>dA (AI .i64) fun E=>dA (AI .i64) fun F=>d0 fun β k=>zo β L D E F (fun z A C=>k (V.tup [(Qd z),(Qe A),(Qe C)]) [])
theorem zCO(L:Nat):DK (zig zo L) (fun _=>zj zbQ (zbV L) L cf_ref01_number):=xp zaL fun z=>xp xY fun A=>xp xY fun C=>xO fun _ k=>zC2 L z A C k
def zxf:Hint:=⟨[(1,3)],[],[none],[],[],false,false,[]⟩
def zzK:CF:=cfD zxf 101
def ztt:Nat→Sh:=yD []
def zsU(zo:zbk)(L:Nat):CBC:=(zq 209 (zig zo L) noC)
def zvq{β:Type}(zo:zbk)(L:Nat)(A:Ls)(C:Int)(z:Int→Int→Int→Ob β):Ob β:=zo β L A C (4:Int) (fun D E F=>lt (QG .u32 D) fun G=>z G E F)
theorem zHk{β:Type}(zo:zbk)(L:Nat)(D:Ls)(E:Int)(k:KK β):zj ztt (zsU zo L) L zzK [(V.sl 1 D),(Qe E)] [] k=zvq zo L D E (fun z A C=>k (V.tup [(Qc z),(Qe A),(Qe C)]) []):=by kernel_rfl
abbrev zfT:=∀ (β:Type),Nat→Ls→Int→(Int→Int→Int→Ob β)→Ob β
def xF:zfT:=fun β=>@zvq β zo
def zp5(xF:zfT)(L:Nat):Dk:=dA (AL 1) fun D=>dA (AI .i64) fun E=>d0 fun β k=>xF β L D E (fun z A C=>k (V.tup [(Qc z),(Qe A),(Qe C)]) [])
theorem zHh(L:Nat):DK (zp5 xF L) (fun _=>zj ztt (zsU zo L) L zzK):=xp zaL fun z=>xp xY fun A=>xO fun _ k=>zHk zo L z A k
def zuo:Hint:=⟨[(6,1)],[],[none,none,none,none,none],[],[],false,false,[]⟩
def zyV:CF:=cfD zuo 102
def zq8:Nat→Sh:=yD []
def zru(L:Nat):CBC:=noC
def ztM{β:Type}(L:Nat)(C:Ls)(A:Int)(z:List V→Int→Int→Ob β):Ob β:=ifb (decide (A<(0:Int))) (lt (We 32 (Qa (0:Int))) fun E=>chk (0=0∧(XI E)=32∧32≠0) (z E (0:Int) (5:Int))) (ifb (decide (A>((XI C:Nat):Int))) (lt (We 32 (Qa (0:Int))) fun F=>chk (0=0∧(XI F)=32∧32≠0) (z F (0:Int) (5:Int))) (lt (QG .i64 ((((XI C:Nat):Int):Int)-A)) fun I=>ifb (decide (I<(32:Int))) (lt (We 32 (Qa (0:Int))) fun G=>chk (0=0∧(XI G)=32∧32≠0) (z G (0:Int) (1:Int))) (chk (0≤A∧A≤(((XI C):Nat):Int)) (lt (xd (We 32 (Qa (0:Int))) 0 (XM (XK (min (XI (XK ((XI C)-(XJ A)) (XL (XJ A) C))) 32) (XK ((XI C)-(XJ A)) (XL (XJ A) C))))) fun D=>chk (0+32≤(XI D)) (lt (QG .i64 ((A:Int)+(32:Int))) fun J=>chk ((XI (XK 32 D))=32∧0+32≤32) (lt (xd (We 32 (Qa (0:Int))) 0 (XK 32 D)) fun H=>chk (0=0∧(XI H)=32∧32≠0) (z H J (0:Int))))))))
theorem zFD{β:Type}(L:Nat)(D:Ls)(E:Int)(k:KK β):zj zq8 (zru L) L zyV [(V.sl 1 D),(Qe E)] [] k=ztM L D E (fun z A C=>k (V.tup [(V.agg z),(Qe A),(Qe C)]) []):=by kernel_rfl
abbrev zeW:=∀ (β:Type),Nat→Ls→Int→(List V→Int→Int→Ob β)→Ob β
def xE:zeW:=fun β=>@ztM β
def zoD(xE:zeW)(L:Nat):Dk:=dA (AL 1) fun D=>dA (AI .i64) fun E=>d0 fun β k=>xE β L D E (fun z A C=>k (V.tup [(V.agg z),(Qe A),(Qe C)]) [])
theorem zFv(L:Nat):DK (zoD xE L) (fun _=>zj zq8 (zru L) L zyV):=xp zaL fun z=>xp xY fun A=>xO fun _ k=>zFD L z A k
def zrE:Hint:=⟨[(2,2),(3,2),(4,2),(5,2),(6,2),(7,2)],[],[none],[],[],false,false,[]⟩
def zuB:CF:=cfD zrE 60
def znW:Nat→Sh:=yD []
def zoH(xF:zfT)(xE:zeW)(L:Nat):CBC:=(zq 202 (zoD xE L) (zq 200 (zp5 xF L) noC))
def zpm{β:Type}(xF:zfT)(xE:zeW)(L:Nat)(z:Ls)(C:List V→Ob β):Ob β:=xF β L z (0:Int) (fun Q Z v2=>lt ([(Qc Q)]++We 64 (Qa (0:Int))++[(Qc (0:Int)),(Qc (0:Int)),(Qc (0:Int))]) fun H=>xE β L z (4:Int) (fun I v5 v6=>chk ((XI I)=32∧1+32≤(XI H)) (lt (xd H 1 I) fun J=>xE β L z (36:Int) (fun M v9 R=>chk ((XI M)=32∧33+32≤(XI J)) (lt (xd J 33 M) fun D=>xF β L z (68:Int) (fun N S T=>chk (1=1∧65+1≤(XI D)) (lt (xd D 65 [(Qc N)]) fun E=>xF β L z (72:Int) (fun O U W=>chk (1=1∧66+1≤(XI E)) (lt (xd E 66 [(Qc O)]) fun F=>xF β L z (76:Int) (fun P X Y=>chk (1=1∧67+1≤(XI F)) (lt (xd F 67 [(Qc P)]) fun A=>chk (0+68≤(XI A)) (chk ((XI (XK 68 A))=68∧0+68≤68) (lt (xd ([(Qc (0:Int))]++We 64 (Qa (0:Int))++[(Qc (0:Int)),(Qc (0:Int)),(Qc (0:Int))]) 0 (XK 68 A)) fun G=>chk (0=0∧(XI G)=68∧68≠0) (C G))))))))))))))
theorem zCP{β:Type}(xF:zfT)(xE:zeW)(L:Nat)(z:Ls)(k:KK β):zj znW (zoH xF xE L) L zuB [(V.sl 1 z)] [] k=zpm xF xE L z (fun z=>k (V.agg z) []):=by kernel_rfl
abbrev zf1:=∀ (β:Type),Nat→Ls→(List V→Ob β)→Ob β
def zx:zf1:=fun β=>@zpm β xF xE
def zpx(zx:zf1)(L:Nat):Dk:=dA (AL 1) fun z=>d0 fun β k=>zx β L z (fun z=>k (V.agg z) [])
theorem zCe(L:Nat):DK (zpx zx L) (fun _=>zj znW (zoH xF xE L) L zuB):=xp zaL fun z=>xO fun _ k=>zCP xF xE L z k
def zuy:Hint:=⟨[(1,3),(7,4)],[],[none,none,none,none,none,none,none,none,none,none],[],[],false,false,[]⟩
def zyR:CF:=cfD zuy 69
def zrp:Nat→Sh:=yD []
def zqR(zo:zbk)(L:Nat):CBC:=(zq 209 (zig zo L) noC)
def zs9{β:Type}(zo:zbk)(L:Nat)(F:Ls)(M D:Int)(z:Int→Int→Int→Ob β):Ob β:=zo β L F M (1:Int) (fun C G H=>ifb ((H:Int) != (0:Int)) (z (0:Int) (0:Int) H) (ifb (decide (C≥(253:Int))) (lt (QG .u64 ((C:Int)-(253:Int))) fun I=>chk (0≤I) (lt (zct .i64 (2:Int) I) fun N=>zo β L F G N (fun A E J=>ifb ((J:Int) != (0:Int)) (z (0:Int) (0:Int) J) (ifb ((C:Int)==(253:Int)) (ifb (decide (A<(253:Int))) (z (0:Int) (0:Int) (3:Int)) (ifb ((C:Int)==(254:Int)) (ifb (decide (A<(65536:Int))) (z (0:Int) (0:Int) (3:Int)) (ifb ((C:Int)==(255:Int)) (ifb (decide (A<(4294967296:Int))) (z (0:Int) (0:Int) (3:Int)) (ifb (decide (A>D)) (z (0:Int) (0:Int) (4:Int)) (z A E (0:Int)))) (ifb (decide (A>D)) (z (0:Int) (0:Int) (4:Int)) (z A E (0:Int))))) (ifb ((C:Int)==(255:Int)) (ifb (decide (A<(4294967296:Int))) (z (0:Int) (0:Int) (3:Int)) (ifb (decide (A>D)) (z (0:Int) (0:Int) (4:Int)) (z A E (0:Int)))) (ifb (decide (A>D)) (z (0:Int) (0:Int) (4:Int)) (z A E (0:Int)))))) (ifb ((C:Int)==(254:Int)) (ifb (decide (A<(65536:Int))) (z (0:Int) (0:Int) (3:Int)) (ifb ((C:Int)==(255:Int)) (ifb (decide (A<(4294967296:Int))) (z (0:Int) (0:Int) (3:Int)) (ifb (decide (A>D)) (z (0:Int) (0:Int) (4:Int)) (z A E (0:Int)))) (ifb (decide (A>D)) (z (0:Int) (0:Int) (4:Int)) (z A E (0:Int))))) (ifb ((C:Int)==(255:Int)) (ifb (decide (A<(4294967296:Int))) (z (0:Int) (0:Int) (3:Int)) (ifb (decide (A>D)) (z (0:Int) (0:Int) (4:Int)) (z A E (0:Int)))) (ifb (decide (A>D)) (z (0:Int) (0:Int) (4:Int)) (z A E (0:Int))))))))) (ifb (decide (C>D)) (z (0:Int) (0:Int) (4:Int)) (z C G (0:Int)))))
theorem zG8{β:Type}(zo:zbk)(L:Nat)(D:Ls)(E F:Int)(k:KK β):zj zrp (zqR zo L) L zyR [(V.sl 1 D),(Qe E),(Qd F)] [] k=zs9 zo L D E F (fun z A C=>k (V.tup [(Qd z),(Qe A),(Qe C)]) []):=by kernel_rfl
abbrev zbE:=∀ (β:Type),Nat→Ls→Int→Int→(Int→Int→Int→Ob β)→Ob β
def zm:zbE:=fun β=>@zs9 β zo
def zkn(zm:zbE)(L:Nat):Dk:=dA (AL 1) fun D=>dA (AI .i64) fun E=>dA (AI .u64) fun F=>d0 fun β k=>zm β L D E F (fun z A C=>k (V.tup [(Qd z),(Qe A),(Qe C)]) [])
theorem zGF(L:Nat):DK (zkn zm L) (fun _=>zj zrp (zqR zo L) L zyR):=xp zaL fun z=>xp xY fun A=>xp xY fun C=>xO fun _ k=>zG8 zo L z A C k
def zl2:Hint:=⟨[(3,9)],[],[none,none,none],[],[],false,false,[]⟩
def zoj:CF:=cfD zl2 120
def ziI:Nat→Sh:=yD []
def ziy(xF:zfT)(L:Nat):CBC:=(zq 200 (zp5 xF L) noC)
def zgq{β:Type}(xF:zfT)(L:Nat)(z:Ls)(C D:Int)(A:Int→Ls→Int→Int→Ob β):Ob β:=ifb ((D:Int) != (0:Int)) (A (0:Int) z C D) (xF β L z C (fun E F G=>A E z F G))
theorem zvr{β:Type}(xF:zfT)(L:Nat)(z:Ls)(A C:Int)(k:KK β):zj ziI (ziy xF L) L zoj [(V.ptr 0 0)] [(.live false [(V.sl 1 z),(Qe A),(Qe C)])] k=zgq xF L z A C (fun D z A C=>k (Qc D) [(.live false [(V.sl 1 z),(Qe A),(Qe C)])]):=by kernel_rfl
abbrev zcD:=∀ (β:Type),Nat→Ls→Int→Int→(Int→Ls→Int→Int→Ob β)→Ob β
def yb:zcD:=fun β=>@zgq β xF
def zgz(yb:zcD)(L:Nat)(β:Type)(args:List V)(bor:Bor)(k:KK β):Ob β:=match args,bor with
 | [a0],[(.live false [w0_0,w0_1,w0_2])]=>aP 0 0 a0 (aL 1 w0_0 fun z=>aI .i64 w0_1 fun A=>aI .i64 w0_2 fun C=>yb β L z A C (fun D z A C=>k (Qc D) [(.live false [(V.sl 1 z),(Qe A),(Qe C)])]))
 | _,_=>none
theorem zvF(L:Nat)(β:Type)(args:List V)(bor:Bor)(k:KK β)(r:β)(h:zgz yb L β args bor k=some r):zj ziI (ziy xF L) L zoj args bor k=some r:=by
 unfold zgz at h
 split at h
 ·have q:=zeV h; clear h; obtain ⟨rfl,h⟩:=q
  have q:=zeO h; clear h; obtain ⟨z,rfl,h⟩:=q
  have q:=zY h; clear h; obtain ⟨A,rfl,h⟩:=q
  have q:=zY h; clear h; obtain ⟨C,rfl,h⟩:=q
  exact (zvr xF L z A C k).trans h
 ·cases h
def zml:Hint:=⟨[(3,11)],[],[none,none,none],[],[],false,false,[]⟩
def zns:CF:=cfD zml 121
def zix:Nat→Sh:=yD []
def zit(zm:zbE)(L:Nat):CBC:=(zq 201 (zkn zm L) noC)
def zgy{β:Type}(zm:zbE)(L:Nat)(E:Int)(z:Ls)(C D:Int)(A:Int→Ls→Int→Int→Ob β):Ob β:=ifb ((D:Int) != (0:Int)) (A (0:Int) z C D) (lt (QG .u64 E) fun F=>zm β L z C F (fun G H I=>lt (QG .i64 G) fun J=>A J z H I))
theorem zvc{β:Type}(zm:zbE)(L:Nat)(D:Int)(z:Ls)(A C:Int)(k:KK β):zj zix (zit zm L) L zns [(V.ptr 0 0),(Qe D)] [(.live false [(V.sl 1 z),(Qe A),(Qe C)])] k=zgy zm L D z A C (fun E z A C=>k (Qe E) [(.live false [(V.sl 1 z),(Qe A),(Qe C)])]):=by kernel_rfl
abbrev zcL:=∀ (β:Type),Nat→Int→Ls→Int→Int→(Int→Ls→Int→Int→Ob β)→Ob β
def zb:zcL:=fun β=>@zgy β zm
def zgB(zb:zcL)(L:Nat)(β:Type)(args:List V)(bor:Bor)(k:KK β):Ob β:=match args,bor with
 | [a0,a1],[(.live false [w0_0,w0_1,w0_2])]=>aP 0 0 a0 (aI .i64 a1 fun D=>aL 1 w0_0 fun z=>aI .i64 w0_1 fun A=>aI .i64 w0_2 fun C=>zb β L D z A C (fun E z A C=>k (Qe E) [(.live false [(V.sl 1 z),(Qe A),(Qe C)])]))
 | _,_=>none
theorem zvA(L:Nat)(β:Type)(args:List V)(bor:Bor)(k:KK β)(r:β)(h:zgB zb L β args bor k=some r):zj zix (zit zm L) L zns args bor k=some r:=by
 unfold zgB at h
 split at h
 ·have q:=zeV h; clear h; obtain ⟨rfl,h⟩:=q
  have q:=zY h; clear h; obtain ⟨D,rfl,h⟩:=q
  have q:=zeO h; clear h; obtain ⟨z,rfl,h⟩:=q
  have q:=zY h; clear h; obtain ⟨A,rfl,h⟩:=q
  have q:=zY h; clear h; obtain ⟨C,rfl,h⟩:=q
  exact (zvc zm L D z A C k).trans h
 ·cases h
def zlU:Hint:=⟨[(3,9)],[],[none,none,none],[],[],false,false,[]⟩
def zoF:CF:=cfD zlU 122
def ziu:Nat→Sh:=yD []
def ziT(xE:zeW)(L:Nat):CBC:=(zq 202 (zoD xE L) noC)
def zjr{β:Type}(xE:zeW)(L:Nat)(z:Ls)(C D:Int)(A:List V→Ls→Int→Int→Ob β):Ob β:=ifb ((D:Int) != (0:Int)) (lt (We 32 (Qa (0:Int))) fun F=>chk (0=0∧(XI F)=32∧32≠0) (A F z C D)) (xE β L z C (fun G I J=>chk ((XI G)=32∧0+32≤32) (lt (xd (We 32 (Qa (0:Int))) 0 G) fun E=>chk (0+32≤(XI E)) (chk ((XI (XK 32 E))=32∧0+32≤32) (lt (xd (We 32 (Qa (0:Int))) 0 (XK 32 E)) fun H=>chk (0=0∧(XI H)=32∧32≠0) (A H z I J))))))
theorem zvG{β:Type}(xE:zeW)(L:Nat)(z:Ls)(A C:Int)(k:KK β):zj ziu (ziT xE L) L zoF [(V.ptr 0 0)] [(.live false [(V.sl 1 z),(Qe A),(Qe C)])] k=zjr xE L z A C (fun D z A C=>k (V.agg D) [(.live false [(V.sl 1 z),(Qe A),(Qe C)])]):=by kernel_rfl
abbrev zcH:=∀ (β:Type),Nat→Ls→Int→Int→(List V→Ls→Int→Int→Ob β)→Ob β
def xe:zcH:=fun β=>@zjr β xE
def zgp(xe:zcH)(L:Nat)(β:Type)(args:List V)(bor:Bor)(k:KK β):Ob β:=match args,bor with
 | [a0],[(.live false [w0_0,w0_1,w0_2])]=>aP 0 0 a0 (aL 1 w0_0 fun z=>aI .i64 w0_1 fun A=>aI .i64 w0_2 fun C=>xe β L z A C (fun D z A C=>k (V.agg D) [(.live false [(V.sl 1 z),(Qe A),(Qe C)])]))
 | _,_=>none
theorem zvN(L:Nat)(β:Type)(args:List V)(bor:Bor)(k:KK β)(r:β)(h:zgp xe L β args bor k=some r):zj ziu (ziT xE L) L zoF args bor k=some r:=by
 unfold zgp at h
 split at h
 ·have q:=zeV h; clear h; obtain ⟨rfl,h⟩:=q
  have q:=zeO h; clear h; obtain ⟨z,rfl,h⟩:=q
  have q:=zY h; clear h; obtain ⟨A,rfl,h⟩:=q
  have q:=zY h; clear h; obtain ⟨C,rfl,h⟩:=q
  exact (zvG xE L z A C k).trans h
 ·cases h
def zv3:Hint:=⟨[],[],[none],[],[],false,false,[]⟩
def zz7:CF:=cfD zv3 181
def ztp:Nat→Sh:=yD []
def zsB(zo:zbk)(L:Nat):CBC:=(zq 209 (zig zo L) noC)
def zvE{β:Type}(zo:zbk)(L:Nat)(A:Ls)(C:Int)(z:Int→Int→Int→Ob β):Ob β:=zo β L A C (8:Int) (fun D E F=>z D E F)
theorem zIr{β:Type}(zo:zbk)(L:Nat)(D:Ls)(E:Int)(k:KK β):zj ztp (zsB zo L) L zz7 [(V.sl 1 D),(Qe E)] [] k=zvE zo L D E (fun z A C=>k (V.tup [(Qd z),(Qe A),(Qe C)]) []):=by kernel_rfl
abbrev zmg:=∀ (β:Type),Nat→Ls→Int→(Int→Int→Int→Ob β)→Ob β
def zaH:zmg:=fun β=>@zvE β zo
def zvm(zaH:zmg)(L:Nat):Dk:=dA (AL 1) fun D=>dA (AI .i64) fun E=>d0 fun β k=>zaH β L D E (fun z A C=>k (V.tup [(Qd z),(Qe A),(Qe C)]) [])
theorem zHM(L:Nat):DK (zvm zaH L) (fun _=>zj ztp (zsB zo L) L zz7):=xp zaL fun z=>xp xY fun A=>xO fun _ k=>zIr zo L z A k
def zmj:Hint:=⟨[(3,9)],[],[none,none,none],[],[],false,false,[]⟩
def znx:CF:=cfD zmj 160
def ziR:Nat→Sh:=yD []
def zir(zaH:zmg)(L:Nat):CBC:=(zq 210 (zvm zaH L) noC)
def zjB{β:Type}(zaH:zmg)(L:Nat)(z:Ls)(C D:Int)(A:Int→Ls→Int→Int→Ob β):Ob β:=ifb ((D:Int) != (0:Int)) (A (0:Int) z C D) (zaH β L z C (fun E F G=>A E z F G))
theorem zvl{β:Type}(zaH:zmg)(L:Nat)(z:Ls)(A C:Int)(k:KK β):zj ziR (zir zaH L) L znx [(V.ptr 0 0)] [(.live false [(V.sl 1 z),(Qe A),(Qe C)])] k=zjB zaH L z A C (fun D z A C=>k (Qd D) [(.live false [(V.sl 1 z),(Qe A),(Qe C)])]):=by kernel_rfl
abbrev zd6:=∀ (β:Type),Nat→Ls→Int→Int→(Int→Ls→Int→Int→Ob β)→Ob β
def zH:zd6:=fun β=>@zjB β zaH
def zgu(zH:zd6)(L:Nat)(β:Type)(args:List V)(bor:Bor)(k:KK β):Ob β:=match args,bor with
 | [a0],[(.live false [w0_0,w0_1,w0_2])]=>aP 0 0 a0 (aL 1 w0_0 fun z=>aI .i64 w0_1 fun A=>aI .i64 w0_2 fun C=>zH β L z A C (fun D z A C=>k (Qd D) [(.live false [(V.sl 1 z),(Qe A),(Qe C)])]))
 | _,_=>none
theorem zvM(L:Nat)(β:Type)(args:List V)(bor:Bor)(k:KK β)(r:β)(h:zgu zH L β args bor k=some r):zj ziR (zir zaH L) L znx args bor k=some r:=by
 unfold zgu at h
 split at h
 ·have q:=zeV h; clear h; obtain ⟨rfl,h⟩:=q
  have q:=zeO h; clear h; obtain ⟨z,rfl,h⟩:=q
  have q:=zY h; clear h; obtain ⟨A,rfl,h⟩:=q
  have q:=zY h; clear h; obtain ⟨C,rfl,h⟩:=q
  exact (zvl zaH L z A C k).trans h
 ·cases h
def zrQ:Hint:=⟨[(0,0),(1,6),(2,0),(2,5)],[],[none],[],[],false,false,[]⟩
def zui:CF:=cfD zrQ 105
def zok:Nat→Sh:=yD []
def zoz(L:Nat):CBC:=noC
def zpJ{β:Type}(L:Nat)(z A:Ls)(C:Ls→Ob β):Ob β:=lt (QG .i64 ((((XI z:Nat):Int):Int)+((XI A:Nat):Int))) fun D=>chk (0≤(0:Int)∧(0:Int)≤D∧(XJ D)*1≤zg∧D≤zg) (chk ((XI (We 0 [(Qa (0:Int))])+XI z)*1≤zg∧XI (We 0 [(Qa (0:Int))])+XI z≤zg) (lt ((We 0 [(Qa (0:Int))])++z) fun E=>chk ((XI E+XI A)*1≤zg∧XI E+XI A≤zg) (lt (E++A) fun F=>C F)))
theorem zDb{β:Type}(L:Nat)(z A:Ls)(k:KK β):zj zok (zoz L) L zui [(V.sl 1 z),(V.sl 1 A)] [] k=zpJ L z A (fun z=>k (V.gs 1 z) []):=by kernel_rfl
abbrev zh7:=∀ (β:Type),Nat→Ls→Ls→(Ls→Ob β)→Ob β
def xW:zh7:=fun β=>@zpJ β
def zpA(xW:zh7)(L:Nat):Dk:=dA (AL 1) fun z=>dA (AL 1) fun A=>d0 fun β k=>xW β L z A (fun z=>k (V.gs 1 z) [])
theorem zC9(L:Nat):DK (zpA xW L) (fun _=>zj zok (zoz L) L zui):=xp zaL fun z=>xp zaL fun A=>xO fun _ k=>zDb L z A k
def ztB:Hint:=⟨[(0,0),(2,0),(3,5),(5,1),(7,0),(8,0),(8,12)],[],[none,none,none,none,none,none,none],[],[],false,false,[]⟩
def zxd:CF:=cfD ztB 161
def zpl:Nat→Sh:=yD []
def zpt(zm:zbE)(xW:zh7)(L:Nat):CBC:=(zq 193 (zpA xW L) (zq 201 (zkn zm L) noC))
def zra{β:Type}(zm:zbE)(xW:zh7)(L:Nat)(C:Ls)(I F:Int)(z:Ls→Int→Int→Ob β):Ob β:=ifb (decide (F<(0:Int))) (z ([]:Ls) (0:Int) (5:Int)) (lt (QG .u64 F) fun J=>zm β L C I J (fun E A G=>ifb ((G:Int) != (0:Int)) (z ([]:Ls) (0:Int) G) (lt (QG .i64 ((((XI C:Nat):Int):Int)-A)) fun M=>lt (QG .u64 M) fun N=>ifb (decide (N<E)) (z ([]:Ls) (0:Int) (1:Int)) (lt (QG .i64 E) fun O=>lt (QG .i64 ((A:Int)+O)) fun D=>chk (0≤D∧D≤(((XI C):Nat):Int)) (chk (0≤A∧A≤(((XJ D):Nat):Int)) (xW β L ([]:Ls) (XK ((XJ D)-(XJ A)) (XL (XJ A) C)) (fun P=>lt (QG .i64 E) fun Q=>lt (QG .i64 ((A:Int)+Q)) fun H=>z P H (0:Int))))))))
theorem zEy{β:Type}(zm:zbE)(xW:zh7)(L:Nat)(D:Ls)(E F:Int)(k:KK β):zj zpl (zpt zm xW L) L zxd [(V.sl 1 D),(Qe E),(Qe F)] [] k=zra zm xW L D E F (fun z A C=>k (V.tup [(V.gs 1 z),(Qe A),(Qe C)]) []):=by kernel_rfl
abbrev zi7:=∀ (β:Type),Nat→Ls→Int→Int→(Ls→Int→Int→Ob β)→Ob β
def yZ:zi7:=fun β=>@zra β zm xW
def zqP(yZ:zi7)(L:Nat):Dk:=dA (AL 1) fun D=>dA (AI .i64) fun E=>dA (AI .i64) fun F=>d0 fun β k=>yZ β L D E F (fun z A C=>k (V.tup [(V.gs 1 z),(Qe A),(Qe C)]) [])
theorem zEI(L:Nat):DK (zqP yZ L) (fun _=>zj zpl (zpt zm xW L) L zxd):=xp zaL fun z=>xp xY fun A=>xp xY fun C=>xO fun _ k=>zEy zm xW L z A C k
def zln:Hint:=⟨[(0,0),(2,0),(3,10),(3,14),(5,0),(5,1)],[],[none,none,none],[],[],false,false,[]⟩
def znc:CF:=cfD zln 124
def zif:Nat→Sh:=yD []
def zh2(yZ:zi7)(L:Nat):CBC:=(zq 204 (zqP yZ L) noC)
def zfL{β:Type}(yZ:zi7)(L:Nat)(F:Int)(z:Ls)(C D:Int)(E:Ls→Ls→Int→Int→Ob β)(A:Ls→Ls→Int→Int→Ob β):Ob β:=ifb ((D:Int) != (0:Int)) (E ([]:Ls) z C D) (yZ β L z C F (fun G H I=>A G z H I))
theorem ztX{β:Type}(yZ:zi7)(L:Nat)(E:Int)(z:Ls)(A C:Int)(k:KK β):zj zif (zh2 yZ L) L znc [(V.ptr 0 0),(Qe E)] [(.live false [(V.sl 1 z),(Qe A),(Qe C)])] k=zfL yZ L E z A C (fun D z A C=>k (V.gs 1 D) [(.live false [(V.sl 1 z),(Qe A),(Qe C)])]) (fun D z A C=>k (V.sl 1 D) [(.live false [(V.sl 1 z),(Qe A),(Qe C)])]):=by kernel_rfl
abbrev zaw:=∀ (β:Type),Nat→Int→Ls→Int→Int→(Ls→Ls→Int→Int→Ob β)→(Ls→Ls→Int→Int→Ob β)→Ob β
def za:zaw:=fun β=>@zfL β yZ
def zdy(za:zaw)(L:Nat)(β:Type)(args:List V)(bor:Bor)(k:KK β):Ob β:=match args,bor with
 | [a0,a1],[(.live false [w0_0,w0_1,w0_2])]=>aP 0 0 a0 (aI .i64 a1 fun E=>aL 1 w0_0 fun z=>aI .i64 w0_1 fun A=>aI .i64 w0_2 fun C=>za β L E z A C (fun D z A C=>k (V.gs 1 D) [(.live false [(V.sl 1 z),(Qe A),(Qe C)])]) (fun D z A C=>k (V.sl 1 D) [(.live false [(V.sl 1 z),(Qe A),(Qe C)])]))
 | _,_=>none
theorem zt4(L:Nat)(β:Type)(args:List V)(bor:Bor)(k:KK β)(r:β)(h:zdy za L β args bor k=some r):zj zif (zh2 yZ L) L znc args bor k=some r:=by
 unfold zdy at h
 split at h
 ·have q:=zeV h; clear h; obtain ⟨rfl,h⟩:=q
  have q:=zY h; clear h; obtain ⟨D,rfl,h⟩:=q
  have q:=zeO h; clear h; obtain ⟨z,rfl,h⟩:=q
  have q:=zY h; clear h; obtain ⟨A,rfl,h⟩:=q
  have q:=zY h; clear h; obtain ⟨C,rfl,h⟩:=q
  exact (ztX yZ L D z A C k).trans h
 ·cases h
def zkx:Hint:=⟨[(0,0)],[],[none,none],[],[],false,false,[]⟩
def zl4:CF:=cfD zkx 123
def zhx:Nat→Sh:=yD []
def zho(zH:zd6)(za:zaw)(L:Nat):CBC:=(zq 178 (zdy za L) (zq 203 (zgu zH L) noC))
def zhO{β:Type}(zH:zd6)(za:zaw)(L:Nat)(J:Ls)(M N:Int)(z:List V→Ls→Int→Int→Ob β):Ob β:=zH β L J M N (fun A O P Q=>ifb ((Q:Int)==(0:Int)) (ifb (decide (A≥(9223372036854775808:Int))) (lt (QG .i64 A) fun R=>za β L (520:Int) O P (90:Int) (fun v5 v6 v7 v8=>lt [(Qe R),(V.sl 1 v5)] fun S=>chk (0=0∧(XI S)=2∧2≠0) (z S v6 v7 v8)) (fun T U W X=>lt [(Qe R),(V.sl 1 T)] fun C=>chk (0=0∧(XI C)=2∧2≠0) (z C U W X))) (lt (QG .i64 A) fun D=>za β L (520:Int) O P Q (fun Y Z aa ab=>lt [(Qe D),(V.sl 1 Y)] fun E=>chk (0=0∧(XI E)=2∧2≠0) (z E Z aa ab)) (fun ac ad ae af=>lt [(Qe D),(V.sl 1 ac)] fun F=>chk (0=0∧(XI F)=2∧2≠0) (z F ad ae af)))) (lt (QG .i64 A) fun G=>za β L (520:Int) O P Q (fun ag ah ai aj=>lt [(Qe G),(V.sl 1 ag)] fun H=>chk (0=0∧(XI H)=2∧2≠0) (z H ah ai aj)) (fun ak al am an=>lt [(Qe G),(V.sl 1 ak)] fun I=>chk (0=0∧(XI I)=2∧2≠0) (z I al am an))))
theorem zsN{β:Type}(zH:zd6)(za:zaw)(L:Nat)(z:Ls)(A C:Int)(k:KK β):zj zhx (zho zH za L) L zl4 [(V.ptr 0 0)] [(.live false [(V.sl 1 z),(Qe A),(Qe C)])] k=zhO zH za L z A C (fun D z A C=>k (V.agg D) [(.live false [(V.sl 1 z),(Qe A),(Qe C)])]):=by kernel_rfl
abbrev zb6:=∀ (β:Type),Nat→Ls→Int→Int→(List V→Ls→Int→Int→Ob β)→Ob β
def xb:zb6:=fun β=>@zhO β zH za
def zfa(xb:zb6)(L:Nat)(β:Type)(args:List V)(bor:Bor)(k:KK β):Ob β:=match args,bor with
 | [a0],[(.live false [w0_0,w0_1,w0_2])]=>aP 0 0 a0 (aL 1 w0_0 fun z=>aI .i64 w0_1 fun A=>aI .i64 w0_2 fun C=>xb β L z A C (fun D z A C=>k (V.agg D) [(.live false [(V.sl 1 z),(Qe A),(Qe C)])]))
 | _,_=>none
theorem zs8(L:Nat)(β:Type)(args:List V)(bor:Bor)(k:KK β)(r:β)(h:zfa xb L β args bor k=some r):zj zhx (zho zH za L) L zl4 args bor k=some r:=by
 unfold zfa at h
 split at h
 ·have q:=zeV h; clear h; obtain ⟨rfl,h⟩:=q
  have q:=zeO h; clear h; obtain ⟨z,rfl,h⟩:=q
  have q:=zY h; clear h; obtain ⟨A,rfl,h⟩:=q
  have q:=zY h; clear h; obtain ⟨C,rfl,h⟩:=q
  exact (zsN zH za L z A C k).trans h
 ·cases h
def zug:Hint:=⟨[(0,0),(8,6),(10,1),(14,1),(22,8),(4,2)],[],[none,none,none,some ((bl 914 148),(bl 356811923176489970264571492253073532201729023 148)),none,some ((bl 402 148),(bl 356811923176489970264571492253073532201728511 148)),none,none,some ((bl 2450 148),(bl 356811923176489970264439266100853434029702143 148)),none,some ((bl 402 148),(bl 356811923176489970264439266100853434029700095 148)),none,none,some ((bl 33849922949209616891773330 148),(bl 356811923167403450452650534191100346794757119 148)),none,some ((bl 4835703278458516698825106 148),(bl 356811923167403450452650534191100346794757119 148)),none,none,some ((bl 33849922949209616891785618 148),(bl 356811923167403450762135544012445415519550463 148)),none,some ((bl 33849922949209616891773330 148),(bl 356811923167403450762135544012445415519542271 148)),none,none,none,none,none],[(28,[100082])],[(3,2,[0]),(4,2,[0]),(8,5,[0]),(4,3,[1]),(4,4,[1]),(10,4,[0]),(16,1,[1]),(28,0,[1,1])],false,false,[(22,82)]⟩
def cf_ref09_Read:CF:=cfD zug 70
def zdg:CC:=yw [1,1,1,1,1,1,1,0,1,0,0,1,1,0,0,1,1,0,0] cf_ref09_Read.body
def zja:CC:=yw [1,1,1,1,1,1,1,0,1,0,0,1,1,1] cf_ref09_Read.body
def zd2:CC:=yw [1,1,1,1,1,1,1,0,1,0,0] cf_ref09_Read.body
def zhX:CC:=yw [1,1,1,1,1,0,1,0,0] cf_ref09_Read.body
def ziU:CC:=yw [1,1,1,1,0,1,0,0] cf_ref09_Read.body
def znr:CC:=yw [1,1,1,1,1,1,1,1] cf_ref09_Read.body
def zku:CC:=yw [1,1,1,1,1,1] cf_ref09_Read.body
def zlx:CC:=yw [1,1,1,1,1] cf_ref09_Read.body
def zE:Nat→Sh:=yD [(108,(.gs 1))]
def xD(yb:zcD)(zb:zcL)(xe:zcH)(xb:zb6)(za:zaw)(L:Nat):CBC:=(zq 178 (zdy za L) (zq 177 (zfa xb L) (zq 176 (zgp xe L) (zq 175 (zgB zb L) (zq 174 (zgz yb L) noC)))))
def zjI:St→St:=zN 0 (bl 914 148) (bl 356811923176489970264571492253073532201729023 148)
def ziJ:St→St:=zN 0 (bl 2450 148) (bl 356811923176489970264439266100853434029702143 148)
def zbM:St→St:=zN 0 (bl 33849922949209616891773330 148) (bl 356811923167403450452650534191100346794757119 148)
def zdq:St→St:=zN 0 (bl 33849922949209616891785618 148) (bl 356811923167403450762135544012445415519550463 148)
def zez(N O D:Int)(E F:Ls)(G H:Int)(I J:Ls)(M:Int)(z:Ls)(A C:Int):St:=⟨(jn 1 ((Qe N)::(jn 2 ((V.ptr 4 0)::(jn 2 ((V.ptr 26 0)::((V.ptr 8 0)::((Qe O)::(jn 138 []))))))))),(gn 4 ((.live true [(Qc D),(V.gs 35 E),(V.gs 2 F),(Qc G)])::(gn 3 ((.live false [(Qc H),(V.fr 35 I),(V.gs 2 J),(Qc M)])::(gn 17 ((.live false [(V.sl 1 z),(Qe A),(Qe C)])::(gn 121 [])))))))⟩
def ziX(N D:Int)(E F:Ls)(G H:Int)(I J:Ls)(M:Int)(z:Ls)(A C:Int):St:=⟨(jn 1 ((Qe N)::(jn 2 ((V.ptr 4 0)::(jn 2 ((V.ptr 26 0)::((V.ptr 8 0)::(jn 139 [])))))))),(gn 4 ((.live true [(Qc D),(V.gs 35 E),(V.gs 2 F),(Qc G)])::(gn 3 ((.live false [(Qc H),(V.fr 35 I),(V.gs 2 J),(Qc M)])::(gn 17 ((.live false [(V.sl 1 z),(Qe A),(Qe C)])::(gn 121 [])))))))⟩
def zd1(O N D:Int)(E F:Ls)(G H:Int)(I J:Ls)(M:Int)(z:Ls)(A C:Int):St:=⟨(jn 1 ((Qe O)::(jn 2 ((V.ptr 4 0)::(jn 2 ((V.ptr 26 0)::((V.ptr 8 0)::(jn 2 ((Qe N)::(jn 136 [])))))))))),(gn 4 ((.live true [(Qc D),(V.gs 35 E),(V.gs 2 F),(Qc G)])::(gn 3 ((.live false [(Qc H),(V.fr 35 I),(V.gs 2 J),(Qc M)])::(gn 17 ((.live false [(V.sl 1 z),(Qe A),(Qe C)])::(gn 121 [])))))))⟩
def ziN(N D:Int)(E F:Ls)(G H:Int)(I J:Ls)(M:Int)(z:Ls)(A C:Int):St:=⟨(jn 1 ((Qe N)::(jn 2 ((V.ptr 4 0)::(jn 2 ((V.ptr 26 0)::((V.ptr 8 0)::(jn 139 [])))))))),(gn 4 ((.live true [(Qc D),(V.gs 35 E),(V.gs 2 F),(Qc G)])::(gn 3 ((.live false [(Qc H),(V.fr 35 I),(V.gs 2 J),(Qc M)])::(gn 17 ((.live false [(V.sl 1 z),(Qe A),(Qe C)])::(gn 121 [])))))))⟩
def za8(R:Int)(E:Nat)(O P F:Int)(G H:Ls)(I J:Int)(z:Nat)(M:Ls)(N:Int)(A:Ls)(C D:Int)(Q:List V):St:=⟨(jn 1 ((Qe R)::(jn 2 ((V.ptr 4 0)::(jn 2 ((V.ptr 26 0)::((V.ptr 8 0)::(jn 73 ((V.own 82 0 E 35)::((Qe O)::((Qe P)::(jn 63 [])))))))))))),(gn 4 ((.live true [(Qc F),(V.gs 35 G),(V.gs 2 H),(Qc I)])::(gn 3 ((.live false [(Qc J),(V.own 82 0 z 35),(V.gs 2 M),(Qc N)])::(gn 17 ((.live false [(V.sl 1 A),(Qe C),(Qe D)])::(gn 55 ((.live false Q)::(gn 65 [])))))))))⟩
def zbp(T O P:Int)(E:Nat)(Q R F:Int)(G H:Ls)(I J:Int)(z:Nat)(M:Ls)(N:Int)(A:Ls)(C D:Int)(S:List V):St:=⟨(jn 1 ((Qe T)::(jn 2 ((V.ptr 4 0)::(jn 2 ((V.ptr 26 0)::((V.ptr 8 0)::(jn 3 ((Qe O)::((Qe P)::(jn 68 ((V.own 82 0 E 35)::((Qe Q)::((Qe R)::(jn 63 []))))))))))))))),(gn 4 ((.live true [(Qc F),(V.gs 35 G),(V.gs 2 H),(Qc I)])::(gn 3 ((.live false [(Qc J),(V.own 82 0 z 35),(V.gs 2 M),(Qc N)])::(gn 17 ((.live false [(V.sl 1 A),(Qe C),(Qe D)])::(gn 55 ((.live false S)::(gn 65 [])))))))))⟩
def zio(P:Int)(E:Nat)(F:Int)(G H:Ls)(I J:Int)(z:Nat)(M:Ls)(N:Int)(A:Ls)(C D:Int)(O:List V):St:=⟨(jn 1 ((Qe P)::(jn 2 ((V.ptr 4 0)::(jn 2 ((V.ptr 26 0)::((V.ptr 8 0)::(jn 73 ((V.own 82 0 E 35)::(jn 65 [])))))))))),(gn 4 ((.live true [(Qc F),(V.gs 35 G),(V.gs 2 H),(Qc I)])::(gn 3 ((.live false [(Qc J),(V.own 82 0 z 35),(V.gs 2 M),(Qc N)])::(gn 17 ((.live false [(V.sl 1 A),(Qe C),(Qe D)])::(gn 55 ((.live false O)::(gn 65 [])))))))))⟩
def zmY(R:Int)(E:Nat)(O P F:Int)(G H:Ls)(I J:Int)(z:Nat)(M:Ls)(N:Int)(A:Ls)(C D:Int)(Q:List V):St:=⟨(jn 1 ((Qe R)::(jn 2 ((V.ptr 4 0)::(jn 2 ((V.ptr 26 0)::((V.ptr 8 0)::(jn 73 ((V.own 82 0 E 35)::((Qe O)::((Qe P)::(jn 63 [])))))))))))),(gn 4 ((.live true [(Qc F),(V.gs 35 G),(V.gs 2 H),(Qc I)])::(gn 3 ((.live false [(Qc J),(V.own 82 0 z 35),(V.gs 2 M),(Qc N)])::(gn 17 ((.live false [(V.sl 1 A),(Qe C),(Qe D)])::(gn 55 ((.live false Q)::(gn 65 [])))))))))⟩
abbrev zfq(β:Type):Type:=Int→Int→Int→Ls→Ls→Int→Int→Ls→Ls→Int→Ls→Int→Int→Ob β
abbrev zhW(β:Type):Type:=Int→Int→Ls→Ls→Int→Int→Ls→Ls→Int→Ls→Int→Int→Ob β
abbrev ze3(β:Type):Type:=Int→Int→Int→Ls→Ls→Int→Int→Ls→Ls→Int→Ls→Int→Int→Ob β
abbrev zh9(β:Type):Type:=Int→Int→Ls→Ls→Int→Int→Ls→Ls→Int→Ls→Int→Int→Ob β
abbrev zgH(β:Type):Type:=Int→Nat→Int→Int→Int→Ls→Ls→Int→Int→Nat→Ls→Int→Ls→Int→Int→List V→Ob β
abbrev zbF(β:Type):Type:=Int→Int→Int→Nat→Int→Int→Int→Ls→Ls→Int→Int→Nat→Ls→Int→Ls→Int→Int→List V→Ob β
abbrev zhY(β:Type):Type:=Int→Nat→Int→Ls→Ls→Int→Int→Nat→Ls→Int→Ls→Int→Int→List V→Ob β
abbrev zec(β:Type):Type:=Int→Nat→Int→Int→Int→Ls→Ls→Int→Int→Nat→Ls→Int→Ls→Int→Int→List V→Ob β
section
variable {β:Type} (yb:zcD) (zb:zcL) (xe:zcH) (xb:zb6) (za:zaw)
def ztc(L:Nat)(D:Ls)(C:Int)(A:List V→Int→Int→Ob β)(z:zfq β):Ob β:=ifb (decide (C<(0:Int))) (lt [(Qc (0:Int)),(V.sl 35 ([]:Ls)),(V.sl 2 ([]:Ls)),(Qc (0:Int))] fun E=>chk (0=0∧(XI E)=4∧4≠0) (A E (0:Int) (5:Int))) (ifb (decide (C>((XI D:Nat):Int))) (lt [(Qc (0:Int)),(V.sl 35 ([]:Ls)),(V.sl 2 ([]:Ls)),(Qc (0:Int))] fun F=>chk (0=0∧(XI F)=4∧4≠0) (A F (0:Int) (5:Int))) (yb β L D C (0:Int) (fun G H I J=>zb β L (64:Int) H I J (fun M N O P=>z C M (0:Int) ([]:Ls) ([]:Ls) (0:Int) G ([]:Ls) ([]:Ls) (0:Int) N O P))))
theorem zFM(L:Nat)(R:Ls)(z:Int)(k:KK β):zj zE (xD yb zb xe xb za L) L cf_ref09_Read [(V.sl 1 R),(Qe z)] [] k=ztc yb zb L R z (fun E F G=>k (V.tup [(V.agg E),(Qe F),(Qe G)]) []) (fun z S H I J M N O P Q A C D=>yx (xf zE (xD yb zb xe xb za L) 0 L ziU) zjI L (zez z S H I J M N O P Q A C D) (zl 0 (zy (xf zE (xD yb zb xe xb za L) 0 L zlx) (zG 0 (CF.res cf_ref09_Read) k)))):=by kernel_rfl
def zcC(L:Nat)(T U H:Int)(I J:Ls)(M N:Int)(z O:Ls)(P:Int)(D:Ls)(E A:Int)(F:zfq β)(Q:zhW β):Ob β:=ifb (decide (U>(0:Int))) (ifb ((A:Int)==(0:Int)) (xe β L D E A (fun G W X Y=>yb β L W X Y (fun R Z aa ab=>chk ((XI G)=32∧0+32≤33) (chk (1=1∧32+1≤(XI (xd (We 32 (Qa (0:Int))++[(Qc (0:Int))]) 0 G))) (chk ((XI (xd (xd (We 32 (Qa (0:Int))++[(Qc (0:Int))]) 0 G) 32 [(Qc R)]))=33∧0+33≤35) (chk ((XI (xd (We 32 (Qa (0:Int))++[(Qc (0:Int)),(Qc (0:Int)),(V.gs 1 ([]:Ls))]) 0 (xd (xd (We 32 (Qa (0:Int))++[(Qc (0:Int))]) 0 G) 32 [(Qc R)])))=35∧0+35≤35) (lt (xd (We 32 (Qa (0:Int))++[(Qc (0:Int)),(Qc (0:Int)),(V.gs 1 ([]:Ls))]) 0 (xd (We 32 (Qa (0:Int))++[(Qc (0:Int)),(Qc (0:Int)),(V.gs 1 ([]:Ls))]) 0 (xd (xd (We 32 (Qa (0:Int))++[(Qc (0:Int))]) 0 G) 32 [(Qc R)]))) fun S=>yb β L Z aa ab (fun ac ad ae af=>chk (1=1∧33+1≤(XI S)) (lt (xd S 33 [(Qc ac)]) fun C=>chk (0+35≤(XI C)) (chk ((XI (XK 35 C))=35∧0+35≤35) (chk ((XI z+XI (yf 35 1 (xd (We 32 (Qa (0:Int))++[(Qc (0:Int)),(Qc (0:Int)),(V.sl 1 ([]:Ls))]) 0 (XK 35 C))))*64≤zg∧XI z+XI (yf 35 1 (xd (We 32 (Qa (0:Int))++[(Qc (0:Int)),(Qc (0:Int)),(V.sl 1 ([]:Ls))]) 0 (XK 35 C)))≤zg∧XI z+XI (yf 35 1 (xd (We 32 (Qa (0:Int))++[(Qc (0:Int)),(Qc (0:Int)),(V.sl 1 ([]:Ls))]) 0 (XK 35 C)))≠0) (lt (z++(yf 35 1 (xd (We 32 (Qa (0:Int))++[(Qc (0:Int)),(Qc (0:Int)),(V.sl 1 ([]:Ls))]) 0 (XK 35 C)))) fun ag=>lt (QG .i64 ((U:Int)-(1:Int))) fun ah=>F T ah H I J M N ag O P ad ae af)))))))))))) (Q T H I J M N z O P D E A)) (Q T H I J M N z O P D E A)
theorem zvi(L:Nat)(N O D:Int)(E F:Ls)(G H:Int)(I J:Ls)(M:Int)(z:Ls)(A C:Int)(X:St→Ob β)(K:KT β):xf zE (xD yb zb xe xb za L) 0 L ziU (zez N O D E F G H I J M z A C) (xS zjI X K)=zcC yb xe L N O D E F G H I J M z A C (fun N O D E F G H I J M z A C=>X (zez N O D E F G H I J M z A C)) (fun N D E F G H I J M z A C=>K (.exit 0) (ziX N D E F G H I J M z A C)):=by kernel_rfl
def ze1(L:Nat)(S E:Int)(F G:Ls)(H I:Int)(J M:Ls)(N:Int)(A:Ls)(C D:Int)(z:ze3 β):Ob β:=zb β L (64:Int) A C D (fun O P Q R=>z S O E F G H I J M N P Q R)
theorem zth(L:Nat)(N D:Int)(E F:Ls)(G H:Int)(I J:Ls)(M:Int)(z:Ls)(A C:Int)(k:KK β):(zl 0 (zy (xf zE (xD yb zb xe xb za L) 0 L zlx) (zG 0 (CF.res cf_ref09_Read) k))) (.exit 0) (ziX N D E F G H I J M z A C)=ze1 zb L N D E F G H I J M z A C (fun N O D E F G H I J M z A C=>yx (xf zE (xD yb zb xe xb za L) 0 L zhX) ziJ L (zd1 N O D E F G H I J M z A C) (zl 2 (zy (xf zE (xD yb zb xe xb za L) 0 L zku) (zG 0 (CF.res cf_ref09_Read) k)))):=by kernel_rfl
def zcq(L:Nat)(R Q F:Int)(G H:Ls)(I J:Int)(M A:Ls)(N:Int)(D:Ls)(E z:Int)(C:ze3 β)(P:zh9 β):Ob β:=ifb (decide (Q>(0:Int))) (ifb ((z:Int)==(0:Int)) (xb β L D E z (fun O S T U=>chk ((XI O)=2∧0+2≤2) (chk ((XI A+XI (yf 2 1 (xd [(Qe (0:Int)),(V.sl 1 ([]:Ls))] 0 O)))*32≤zg∧XI A+XI (yf 2 1 (xd [(Qe (0:Int)),(V.sl 1 ([]:Ls))] 0 O))≤zg) (lt (A++(yf 2 1 (xd [(Qe (0:Int)),(V.sl 1 ([]:Ls))] 0 O))) fun W=>lt (QG .i64 ((Q:Int)-(1:Int))) fun X=>C R X F G H I J M W N S T U)))) (P R F G H I J M A N D E z)) (P R F G H I J M A N D E z)
theorem ztU(L:Nat)(O N D:Int)(E F:Ls)(G H:Int)(I J:Ls)(M:Int)(z:Ls)(A C:Int)(X:St→Ob β)(K:KT β):xf zE (xD yb zb xe xb za L) 0 L zhX (zd1 O N D E F G H I J M z A C) (xS ziJ X K)=zcq xb L O N D E F G H I J M z A C (fun O N D E F G H I J M z A C=>X (zd1 O N D E F G H I J M z A C)) (fun O D E F G H I J M z A C=>K (.exit 2) (ziN O D E F G H I J M z A C)):=by kernel_rfl
def zew(L:Nat)(S F:Int)(G H:Ls)(I J:Int)(A M:Ls)(T:Int)(C:Ls)(D E:Int)(z:zgH β):Ob β:=yb β L C D E (fun N O P Q=>lt (XM A) fun R=>z S (XI A) (((XI A):Nat):Int) (0:Int) F G H I J (XI A) M N O P Q (xU (bl 356811923167403450452650534191100346794757119 148) R))
theorem zrW(L:Nat)(N D:Int)(E F:Ls)(G H:Int)(M I:Ls)(J:Int)(z:Ls)(A C:Int)(k:KK β):(zl 2 (zy (xf zE (xD yb zb xe xb za L) 0 L zku) (zG 0 (CF.res cf_ref09_Read) k))) (.exit 2) (ziN N D E F G H M I J z A C)=zew yb L N D E F G H M I J z A C (fun N P Q R D E F G H O I J z A C S=>yx (xf zE (xD yb zb xe xb za L) 0 L zd2) zbM L (za8 N P Q R D E F G H O I J z A C S) (zl 4 (zy (xf zE (xD yb zb xe xb za L) 0 L znr) (zG 0 (CF.res cf_ref09_Read) k)))):=by kernel_rfl
def zcU(L:Nat)(T:Int)(F:Nat)(Q G H:Int)(I J:Ls)(M N:Int)(A:Nat)(O:Ls)(P:Int)(C:Ls)(D E:Int)(R:List V)(z:zbF β)(S:zhY β):Ob β:=ifb (decide (G<Q)) (zb β L (32:Int) C D E (fun U W X Y=>z T G U F Q G H I J M N A O P W X Y (xU (bl 356811923167403450762135544012445415519550463 148) R))) (S T F H I J M N A O P C D E (xU (bl 356811923167403450452650534191100346794757119 148) R))
theorem zsh(L:Nat)(R:Int)(E:Nat)(P Q F:Int)(G H:Ls)(I J:Int)(z:Nat)(M:Ls)(N:Int)(A:Ls)(C D:Int)(O:List V)(X:St→Ob β)(K:KT β):xf zE (xD yb zb xe xb za L) 0 L zd2 (za8 R E P Q F G H I J z M N A C D O) (xS zbM X K)=zcU zb L R E P Q F G H I J z M N A C D O (fun R S T E P Q F G H I J z M N A C D O=>yx (xf zE (xD yb zb xe xb za L) 0 L zdg) zdq L (zbp R S T E P Q F G H I J z M N A C D O) (zl 6 (zl 5 (zy (xf zE (xD yb zb xe xb za L) 0 L zja) (xS zbM X K))))) (fun R E F G H I J z M N A C D O=>K (.exit 4) (zio R E F G H I J z M N A C D O)):=by kernel_rfl
def yY(L:Nat)(p1:Int)(ab:Nat)(ac:Int)(ad ae:Ls)(af E:Int)(D:Nat)(F:Ls)(G:Int)(Z:Ls)(A C:Int)(H:List V)(z:List V→Int→Int→Ob β):Ob β:=ifb ((C:Int)==(0:Int)) (lt (QG .i64 ((A:Int)-p1)) fun R=>ifb (decide (R>(20000:Int))) (lt [(Qc (0:Int)),(V.sl 35 ([]:Ls)),(V.sl 2 ([]:Ls)),(Qc (0:Int))] fun I=>chk (0=0∧(XI I)=4∧4≠0) (z I (0:Int) (4:Int))) (ifb ((C:Int) != (0:Int)) (lt [(Qc (0:Int)),(V.sl 35 ([]:Ls)),(V.sl 2 ([]:Ls)),(Qc (0:Int))] fun J=>chk (0=0∧(XI J)=4∧4≠0) (z J (0:Int) C)) (lc H (chk (D=0) (lt [(Qc E),(V.sl 35 ([]:Ls)),(V.sl 2 F),(Qc G)] fun M=>chk (0=0∧(XI M)=4∧4≠0) (z M A (0:Int)))) (fun S T=>zb4 (S::T) fun U=>lt [(Qc E),(V.sl 35 (yf 35 D U)),(V.sl 2 F),(Qc G)] fun N=>chk (0=0∧(XI N)=4∧4≠0) (z N A (0:Int)))))) (ifb ((C:Int) != (0:Int)) (lt [(Qc (0:Int)),(V.sl 35 ([]:Ls)),(V.sl 2 ([]:Ls)),(Qc (0:Int))] fun O=>chk (0=0∧(XI O)=4∧4≠0) (z O (0:Int) C)) (lc H (chk (D=0) (lt [(Qc E),(V.sl 35 ([]:Ls)),(V.sl 2 F),(Qc G)] fun P=>chk (0=0∧(XI P)=4∧4≠0) (z P A (0:Int)))) (fun W X=>zb4 (W::X) fun Y=>lt [(Qc E),(V.sl 35 (yf 35 D Y)),(V.sl 2 F),(Qc G)] fun Q=>chk (0=0∧(XI Q)=4∧4≠0) (z Q A (0:Int)))))
theorem zqn(L:Nat)(S:Int)(E:Nat)(F:Int)(G H:Ls)(I J:Int)(z:Nat)(M:Ls)(N:Int)(A:Ls)(C D:Int)(O:List V)(k:KK β):(zl 4 (zy (xf zE (xD yb zb xe xb za L) 0 L znr) (zG 0 (CF.res cf_ref09_Read) k))) (.exit 4) (zio S E F G H I J z M N A C D O)=yY L S E F G H I J z M N A C D O (fun P Q R=>k (V.tup [(V.agg P),(Qe Q),(Qe R)]) []):=by kernel_rfl
def zal(L:Nat)(Z A U:Int)(G:Nat)(S T H:Int)(I J:Ls)(M N:Int)(C:Nat)(O:Ls)(P:Int)(Q:Ls)(R E:Int)(F:List V)(z:zbF β)(W:zec β):Ob β:=ifb (decide (U>(0:Int))) (ifb ((E:Int)==(0:Int)) (chk (0≤A∧A<((C:Nat):Int)) (cG 1 F ((0+((XJ A)*35))+34) fun D=>za β L (520:Int) Q R E (fun X aa ab ac=>chk ((XI D+XI (yf 1 1 [(V.sl 1 X)]))*24≤zg∧XI D+XI (yf 1 1 [(V.sl 1 X)])≤zg) (lt (D++(yf 1 1 [(V.sl 1 X)])) fun ad=>chk (0≤A∧A<((C:Nat):Int)) (chk (1=1∧((0+((XJ A)*35))+34)<(XI (XO F ((0+((XJ A)*35))+34) (V.sl 1 D)))) (lt (QG .i64 ((U:Int)-(1:Int))) fun ae=>z Z A ae G S T H I J M N C O P aa ab ac (xU (bl 356811923167403450762135544012445415519550463 148) (XO (XO F ((0+((XJ A)*35))+34) (V.sl 1 D)) ((0+((XJ A)*35))+34) (V.gs 1 ad))))))) (fun Y af ag ah=>chk ((XI D+XI (yf 1 1 [(V.sl 1 Y)]))*24≤zg∧XI D+XI (yf 1 1 [(V.sl 1 Y)])≤zg) (lt (D++(yf 1 1 [(V.sl 1 Y)])) fun ai=>chk (0≤A∧A<((C:Nat):Int)) (chk (1=1∧((0+((XJ A)*35))+34)<(XI (XO F ((0+((XJ A)*35))+34) (V.sl 1 D)))) (lt (QG .i64 ((U:Int)-(1:Int))) fun aj=>z Z A aj G S T H I J M N C O P af ag ah (xU (bl 356811923167403450762135544012445415519550463 148) (XO (XO F ((0+((XJ A)*35))+34) (V.sl 1 D)) ((0+((XJ A)*35))+34) (V.gs 1 ai))))))))) (W Z G S T H I J M N C O P Q R E (xU (bl 356811923167403450762135544012445415519542271 148) F))) (W Z G S T H I J M N C O P Q R E (xU (bl 356811923167403450762135544012445415519542271 148) F))
theorem zmi(L:Nat)(T R S:Int)(E:Nat)(O P F:Int)(G H:Ls)(I J:Int)(z:Nat)(M:Ls)(N:Int)(A:Ls)(C D:Int)(Q:List V)(X:St→Ob β)(K:KT β):xf zE (xD yb zb xe xb za L) 0 L zdg (zbp T R S E O P F G H I J z M N A C D Q) (xS zdq X K)=zal za L T R S E O P F G H I J z M N A C D Q (fun T R S E O P F G H I J z M N A C D Q=>X (zbp T R S E O P F G H I J z M N A C D Q)) (fun T E O P F G H I J z M N A C D Q=>K (.exit 6) (zmY T E O P F G H I J z M N A C D Q)):=by kernel_rfl
def yB(L:Nat)(T:Int)(F:Nat)(P Q G:Int)(H I:Ls)(J M:Int)(A:Nat)(N:Ls)(O:Int)(C:Ls)(D E:Int)(R:List V)(z:zgH β):Ob β:=lt (QG .i64 ((Q:Int)+(1:Int))) fun S=>z T F P S G H I J M A N O C D E (xU (bl 356811923167403450452650534191100346794757119 148) R)
theorem zlc(L:Nat)(R:Int)(E:Nat)(O P F:Int)(G H:Ls)(I J:Int)(z:Nat)(M:Ls)(N:Int)(A:Ls)(C D:Int)(Q:List V)(X:St→Ob β)(K:KT β):(zl 6 (zl 5 (zy (xf zE (xD yb zb xe xb za L) 0 L zja) (xS zbM X K)))) (.exit 6) (zmY R E O P F G H I J z M N A C D Q)=yB L R E O P F G H I J z M N A C D Q (fun R E O P F G H I J z M N A C D Q=>X (za8 R E O P F G H I J z M N A C D Q)):=by kernel_rfl
def y6(L:Nat)(N:zhW β):Nat→Int→Int→Int→Ls→Ls→Int→Int→Ls→Ls→Int→Ls→Int→Int→Ob β
 | 0,_,_,_,_,_,_,_,_,_,_,_,_,_=>none
 | n+1,O,P,D,E,F,G,H,I,J,M,z,A,C=>zcC yb xe L O P D E F G H I J M z A C (fun O P D E F G H I J M z A C=>y6 L N n O P D E F G H I J M z A C) N
theorem zl5(L:Nat)(K:KT β):∀ (n:Nat) (N O D:Int) (E F:Ls) (G H:Int) (I J:Ls) (M:Int) (z:Ls) (A C:Int),yx (xf zE (xD yb zb xe xb za L) 0 L ziU) zjI n (zez N O D E F G H I J M z A C) K=y6 yb xe L (fun N D E F G H I J M z A C=>K (.exit 0) (ziX N D E F G H I J M z A C)) n N O D E F G H I J M z A C:=by
 intro n; induction n <;> intros
 ·rfl
 ·exact (zvi ..).trans (by simp only [*]; rfl)
def yU(L:Nat)(N:zh9 β):Nat→Int→Int→Int→Ls→Ls→Int→Int→Ls→Ls→Int→Ls→Int→Int→Ob β
 | 0,_,_,_,_,_,_,_,_,_,_,_,_,_=>none
 | n+1,P,O,D,E,F,G,H,I,J,M,z,A,C=>zcq xb L P O D E F G H I J M z A C (fun P O D E F G H I J M z A C=>yU L N n P O D E F G H I J M z A C) N
theorem zlg(L:Nat)(K:KT β):∀ (n:Nat) (N O D:Int) (E F:Ls) (G H:Int) (I J:Ls) (M:Int) (z:Ls) (A C:Int),yx (xf zE (xD yb zb xe xb za L) 0 L zhX) ziJ n (zd1 N O D E F G H I J M z A C) K=yU xb L (fun N D E F G H I J M z A C=>K (.exit 2) (ziN N D E F G H I J M z A C)) n N O D E F G H I J M z A C:=by
 intro n; induction n <;> intros
 ·rfl
 ·exact (ztU ..).trans (by simp only [*]; rfl)
def yz(L:Nat)(O:zec β):Nat→Int→Int→Int→Nat→Int→Int→Int→Ls→Ls→Int→Int→Nat→Ls→Int→Ls→Int→Int→List V→Ob β
 | 0,_,_,_,_,_,_,_,_,_,_,_,_,_,_,_,_,_,_=>none
 | n+1,U,P,Q,E,R,S,F,G,H,I,J,z,M,N,A,C,D,T=>zal za L U P Q E R S F G H I J z M N A C D T (fun U P Q E R S F G H I J z M N A C D T=>yz L O n U P Q E R S F G H I J z M N A C D T) O
theorem zfV(L:Nat)(K:KT β):∀ (n:Nat) (R S T:Int) (E:Nat) (O P F:Int) (G H:Ls) (I J:Int) (z:Nat) (M:Ls) (N:Int) (A:Ls) (C D:Int) (Q:List V),yx (xf zE (xD yb zb xe xb za L) 0 L zdg) zdq n (zbp R S T E O P F G H I J z M N A C D Q) K=yz za L (fun R E O P F G H I J z M N A C D Q=>K (.exit 6) (zmY R E O P F G H I J z M N A C D Q)) n R S T E O P F G H I J z M N A C D Q:=by
 intro n; induction n <;> intros
 ·rfl
 ·exact (zmi ..).trans (by simp only [*]; rfl)
def zbw(L:Nat)(S:Int)(F:Nat)(P Q G:Int)(H I:Ls)(J M:Int)(z:Nat)(N:Ls)(O:Int)(A:Ls)(C D:Int)(R:List V)(T:zhY β)(E:zgH β):Ob β:=zcU zb L S F P Q G H I J M z N O A C D R (fun S U W F P Q G H I J M z N O A C D R=>yz za L (fun S F P Q G H I J M z N O A C D R=>yB L S F P Q G H I J M z N O A C D R E) L S U W F P Q G H I J M z N O A C D R) T
theorem zqM(L:Nat)(R:Int)(E:Nat)(P Q F:Int)(G H:Ls)(I J:Int)(z:Nat)(M:Ls)(N:Int)(A:Ls)(C D:Int)(O:List V)(X:St→Ob β)(K:KT β):xf zE (xD yb zb xe xb za L) 0 L zd2 (za8 R E P Q F G H I J z M N A C D O) (xS zbM X K)=zbw zb za L R E P Q F G H I J z M N A C D O (fun R E F G H I J z M N A C D O=>K (.exit 4) (zio R E F G H I J z M N A C D O)) (fun R E P Q F G H I J z M N A C D O=>X (za8 R E P Q F G H I J z M N A C D O)):=by
 refine (zsh ..).trans ?_
 unfold zbw
 first
  | (simp only [zfV,zlc]; done)
  | (simp only [zfV]; rfl)
def yF(L:Nat)(O:zhY β):Nat→Int→Nat→Int→Int→Int→Ls→Ls→Int→Int→Nat→Ls→Int→Ls→Int→Int→List V→Ob β
 | 0,_,_,_,_,_,_,_,_,_,_,_,_,_,_,_,_=>none
 | n+1,S,E,P,Q,F,G,H,I,J,z,M,N,A,C,D,R=>zbw zb za L S E P Q F G H I J z M N A C D R O (fun S E P Q F G H I J z M N A C D R=>yF L O n S E P Q F G H I J z M N A C D R)
theorem zjZ(L:Nat)(K:KT β):∀ (n:Nat) (P:Int) (E:Nat) (Q R F:Int) (G H:Ls) (I J:Int) (z:Nat) (M:Ls) (N:Int) (A:Ls) (C D:Int) (O:List V),yx (xf zE (xD yb zb xe xb za L) 0 L zd2) zbM n (za8 P E Q R F G H I J z M N A C D O) K=yF zb za L (fun P E F G H I J z M N A C D O=>K (.exit 4) (zio P E F G H I J z M N A C D O)) n P E Q R F G H I J z M N A C D O:=by
 intro n; induction n <;> intros
 ·rfl
 ·exact (zqM ..).trans (by simp only [*]; rfl)
def zR(L:Nat)(O D:Int)(E F:Ls)(G H:Int)(R I:Ls)(J:Int)(z:Ls)(A C:Int)(Q:List V→Int→Int→Ob β):Ob β:=zew yb L O D E F G H R I J z A C (fun O N S T D E F G H M I J z A C P=>yF zb za L (fun O N D E F G H M I J z A C P=>yY L O N D E F G H M I J z A C P Q) L O N S T D E F G H M I J z A C P)
theorem zq3(L:Nat)(Q D:Int)(E F:Ls)(G H:Int)(I J:Ls)(M:Int)(z:Ls)(A C:Int)(k:KK β):(zl 2 (zy (xf zE (xD yb zb xe xb za L) 0 L zku) (zG 0 (CF.res cf_ref09_Read) k))) (.exit 2) (ziN Q D E F G H I J M z A C)=zR yb zb za L Q D E F G H I J M z A C (fun N O P=>k (V.tup [(V.agg N),(Qe O),(Qe P)]) []):=by
 refine (zrW ..).trans ?_
 unfold zR
 first
  | (simp only [zjZ,zqn]; done)
  | (simp only [zjZ]; rfl)
def zaJ(L:Nat)(N D:Int)(E F:Ls)(G H:Int)(I J:Ls)(M:Int)(z:Ls)(A C:Int)(O:List V→Int→Int→Ob β):Ob β:=ze1 zb L N D E F G H I J M z A C (fun N P D E F G H I J M z A C=>yU xb L (fun N D E F G H I J M z A C=>zR yb zb za L N D E F G H I J M z A C O) L N P D E F G H I J M z A C)
theorem zr8(L:Nat)(Q D:Int)(E F:Ls)(G H:Int)(I J:Ls)(M:Int)(z:Ls)(A C:Int)(k:KK β):(zl 0 (zy (xf zE (xD yb zb xe xb za L) 0 L zlx) (zG 0 (CF.res cf_ref09_Read) k))) (.exit 0) (ziX Q D E F G H I J M z A C)=zaJ yb zb xb za L Q D E F G H I J M z A C (fun N O P=>k (V.tup [(V.agg N),(Qe O),(Qe P)]) []):=by
 refine (zth ..).trans ?_
 unfold zaJ
 first
  | (simp only [zlg,zq3]; done)
  | (simp only [zlg]; rfl)
end
def zoc{β:Type}(yb:zcD)(zb:zcL)(xe:zcH)(xb:zb6)(za:zaw)(L:Nat)(P:Ls)(O:Int)(N:List V→Int→Int→Ob β):Ob β:=ztc yb zb L P O N (fun O Q D E F G H I J M z A C=>y6 yb xe L (fun O D E F G H I J M z A C=>zaJ yb zb xb za L O D E F G H I J M z A C N) L O Q D E F G H I J M z A C)
theorem zFU{β:Type}(yb:zcD)(zb:zcL)(xe:zcH)(xb:zb6)(za:zaw)(L:Nat)(z:Ls)(A:Int)(k:KK β):zj zE (xD yb zb xe xb za L) L cf_ref09_Read [(V.sl 1 z),(Qe A)] [] k=zoc yb zb xe xb za L z A (fun C D E=>k (V.tup [(V.agg C),(Qe D),(Qe E)]) []):=by
 refine (zFM yb zb xe xb za L z A k).trans ?_
 unfold zoc
 first
  | (simp only [zl5,zr8]; done)
  | (simp only [zl5]; rfl)
abbrev zh0:=∀ (β:Type),Nat→Ls→Int→(List V→Int→Int→Ob β)→Ob β
def xA:zh0:=fun β=>@zoc β yb zb xe xb za
def zte(xA:zh0)(L:Nat):Dk:=dA (AL 1) fun D=>dA (AI .i64) fun E=>d0 fun β k=>xA β L D E (fun z A C=>k (V.tup [(V.agg z),(Qe A),(Qe C)]) [])
theorem zF2(L:Nat):DK (zte xA L) (fun _=>zj zE (xD yb zb xe xb za L) L cf_ref09_Read):=xp zaL fun z=>xp xY fun A=>xO fun _ k=>zFU yb zb xe xb za L z A k
def zwQ:Hint:=⟨[],[],[none,none,none,none,none,none],[],[],false,false,[]⟩
def zzN:CF:=cfD zwQ 71
def zty:Nat→Sh:=yD []
def ztP(L:Nat):CBC:=noC
def zp2{β:Type}(L:Nat)(C:Ls)(A:Int)(z:Int→Ob β):Ob β:=ifb (decide (A<(0:Int))) (z (5:Int)) (ifb (decide (A>((XI C:Nat):Int))) (z (5:Int)) (ifb (decide (A<((XI C:Nat):Int))) (z (2:Int)) (z (0:Int))))
theorem zHx{β:Type}(L:Nat)(z:Ls)(A:Int)(k:KK β):zj zty (ztP L) L zzN [(V.sl 1 z),(Qe A)] [] k=zp2 L z A (fun z=>k (Qe z) []):=by kernel_rfl
abbrev zjn:=∀ (β:Type),Nat→Ls→Int→(Int→Ob β)→Ob β
def yJ:zjn:=fun β=>@zp2 β
def zvn(yJ:zjn)(L:Nat):Dk:=dA (AL 1) fun z=>dA (AI .i64) fun A=>d0 fun β k=>yJ β L z A (fun z=>k (Qe z) [])
theorem zIp(L:Nat):DK (zvn yJ L) (fun _=>zj zty (ztP L) L zzN):=xp zaL fun z=>xp xY fun A=>xO fun _ k=>zHx L z A k
def zrU:Hint:=⟨[(0,0),(5,2),(6,2),(11,3),(11,7),(14,1)],[],[none,none,none,none,none,none,none,some ((bl 117 63),(bl 9216600144739301623 63)),none,some ((bl 85 63),(bl 9216600144739301591 63)),none,none,some ((bl 12 63),(bl 9216600144739301519 63)),none,none,none],[],[],false,false,[]⟩
def cf_ref11_Decode:CF:=cfD zrU 33
def zgM:CC:=yw [1,1,1,1,1,1,0,0,0] cf_ref11_Decode.body
def zhL:CC:=yw [1,1,1,1,1,1,1] cf_ref11_Decode.body
def zbr:Nat→Sh:=yD [(49,(.gs 4))]
def zbo(zx:zf1)(zm:zbE)(xA:zh0)(yJ:zjn)(L:Nat):CBC:=(zq 180 (zvn yJ L) (zq 140 (zte xA L) (zq 201 (zkn zm L) (zq 676 (zpx zx L) noC))))
def zhz:St→St:=zN 0 (bl 117 63) (bl 9216600144739301623 63)
def zda(z:Ls)(A C:Int)(D E:List V):St:=⟨((V.sl 1 z)::(jn 1 ((V.ptr 2 0)::(jn 1 ((V.ptr 4 0)::((Qd A)::((Qe C)::(jn 56 [])))))))),(gn 2 ((.live true D)::(gn 1 ((.live false E)::(gn 58 [])))))⟩
def zjp(z:Int)(A:List V):St:=⟨(jn 2 ((V.ptr 2 0)::((Qe z)::(jn 59 [])))),(gn 2 ((.live true A)::(gn 60 [])))⟩
def zka(z:Ls)(A:Int)(C D:List V):St:=⟨((V.sl 1 z)::(jn 1 ((V.ptr 2 0)::(jn 1 ((V.ptr 4 0)::(jn 1 ((Qe A)::(jn 56 [])))))))),(gn 2 ((.live true C)::(gn 1 ((.live false D)::(gn 58 [])))))⟩
section
variable {β:Type} (zx:zf1) (zm:zbE) (xA:zh0) (yJ:zjn)
def zpa(L:Nat)(C:Ls)(A:List V→Int→Ob β)(z:Ls→Int→Int→List V→List V→Ob β):Ob β:=ifb (decide (((XI C:Nat):Int)>(100000:Int))) (lt ([(Qc (0:Int))]++We 64 (Qa (0:Int))++[(Qc (0:Int)),(Qc (0:Int)),(Qc (0:Int)),(V.sl 4 ([]:Ls))]) fun E=>chk (0=0∧(XI E)=69∧69≠0) (A E (4:Int))) (ifb (decide (((XI C:Nat):Int)<(80:Int))) (lt ([(Qc (0:Int))]++We 64 (Qa (0:Int))++[(Qc (0:Int)),(Qc (0:Int)),(Qc (0:Int)),(V.sl 4 ([]:Ls))]) fun F=>chk (0=0∧(XI F)=69∧69≠0) (A F (1:Int))) (zx β L C (fun D=>chk ((XI D)=68∧0+68≤69) (chk ((XI (xd ([(Qc (0:Int))]++We 64 (Qa (0:Int))++[(Qc (0:Int)),(Qc (0:Int)),(Qc (0:Int)),(V.gs 4 ([]:Ls))]) 0 D))=69∧0+69≤69) (zm β L C (80:Int) (256:Int) (fun I J G=>ifb ((G:Int) != (0:Int)) (lt ([(Qc (0:Int))]++We 64 (Qa (0:Int))++[(Qc (0:Int)),(Qc (0:Int)),(Qc (0:Int)),(V.sl 4 ([]:Ls))]) fun H=>chk (0=0∧(XI H)=69∧69≠0) (A H G)) (z C I J ([(Qc (0:Int))]++We 64 (Qa (0:Int))++[(Qc (0:Int)),(Qc (0:Int)),(Qc (0:Int)),(V.gs 4 ([]:Ls))]) (xU (bl 9216600144739301623 63) (xd ([(Qc (0:Int))]++We 64 (Qa (0:Int))++[(Qc (0:Int)),(Qc (0:Int)),(Qc (0:Int)),(V.gs 4 ([]:Ls))]) 0 (xd ([(Qc (0:Int))]++We 64 (Qa (0:Int))++[(Qc (0:Int)),(Qc (0:Int)),(Qc (0:Int)),(V.gs 4 ([]:Ls))]) 0 D))))))))))
theorem zCk(L:Nat)(z:Ls)(k:KK β):zj zbr (zbo zx zm xA yJ L) L cf_ref11_Decode [(V.sl 1 z)] [] k=zpa zx zm L z (fun A C=>k (V.tup [(V.agg A),(Qe C)]) []) (fun z D E F G=>yx (xf zbr (zbo zx zm xA yJ L) 0 L zgM) zhz L (zda z D E F G) (zl 0 (zy (xf zbr (zbo zx zm xA yJ L) 0 L zhL) (zG 0 (CF.res cf_ref11_Decode) k)))):=by kernel_rfl
def zeA(L:Nat)(G:Ls)(I J:Int)(D E:List V)(F:Int→List V→Ob β)(z:Ls→Int→Int→List V→List V→Ob β)(H:Ls→Int→List V→List V→Ob β):Ob β:=ifb (decide (I>(0:Int))) (xA β L G J (fun M R N=>chk ((XI M)=4∧0+4≤4) (lt (xd [(Qc (0:Int)),(V.gs 35 ([]:Ls)),(V.gs 2 ([]:Ls)),(Qc (0:Int))] 0 M) fun A=>ifb ((N:Int) != (0:Int)) (chk (69=69∧0+69≤(XI D)) (lt (xd D 0 ([(Qc (0:Int))]++We 64 (Qa (0:Int))++[(Qc (0:Int)),(Qc (0:Int)),(Qc (0:Int)),(V.sl 4 ([]:Ls))])) fun O=>F N O)) (cG 4 E 68 fun C=>chk (0+4≤(XI A)) (chk ((XI (XK 4 A))=4∧0+4≤4) (chk ((XI C+XI (yf 4 1 (xd [(Qc (0:Int)),(V.sl 35 ([]:Ls)),(V.sl 2 ([]:Ls)),(Qc (0:Int))] 0 (XK 4 A))))*64≤zg∧XI C+XI (yf 4 1 (xd [(Qc (0:Int)),(V.sl 35 ([]:Ls)),(V.sl 2 ([]:Ls)),(Qc (0:Int))] 0 (XK 4 A)))≤zg) (lt (C++(yf 4 1 (xd [(Qc (0:Int)),(V.sl 35 ([]:Ls)),(V.sl 2 ([]:Ls)),(Qc (0:Int))] 0 (XK 4 A)))) fun P=>chk (1=1∧68<(XI (XO E 68 (V.sl 4 C)))) (lt (QG .u64 ((I:Int)-(1:Int))) fun Q=>z G Q R D (xU (bl 9216600144739301623 63) (XO (XO E 68 (V.sl 4 C)) 68 (V.gs 4 P))))))))))) (H G J D (xU (bl 9216600144739301591 63) E))
theorem zsb(L:Nat)(A:Ls)(E C:Int)(z D:List V)(X:St→Ob β)(K:KT β):xf zbr (zbo zx zm xA yJ L) 0 L zgM (zda A E C z D) (xS zhz X K)=zeA xA L A E C z D (fun F z=>K .ret (zjp F z)) (fun A E C z D=>X (zda A E C z D)) (fun A C z D=>K (.exit 0) (zka A C z D)):=by kernel_rfl
def zfO(L:Nat)(C:Int)(A:List V)(z:List V→Int→Ob β):Ob β:=chk (0=0∧(XI A)=69∧69≠0) (z A C)
theorem zpy(L:Nat)(C:Int)(D:List V)(k:KK β):(zl 0 (zy (xf zbr (zbo zx zm xA yJ L) 0 L zhL) (zG 0 (CF.res cf_ref11_Decode) k))) .ret (zjp C D)=zfO L C D (fun z A=>k (V.tup [(V.agg z),(Qe A)]) []):=by kernel_rfl
def zgg(L:Nat)(H:Ls)(I:Int)(A G:List V)(z:List V→Int→Ob β):Ob β:=yJ β L H I (fun C=>ifb ((C:Int) != (0:Int)) (chk (69=69∧0+69≤(XI A)) (lt (xd A 0 ([(Qc (0:Int))]++We 64 (Qa (0:Int))++[(Qc (0:Int)),(Qc (0:Int)),(Qc (0:Int)),(V.sl 4 ([]:Ls))])) fun D=>chk (0=0∧(XI D)=69∧69≠0) (z D C))) (chk (0+69≤(XI G)) (zb4 (XK 69 G) fun E=>chk ((XI E)=69∧0+69≤(XI A)) (lt (xd A 0 E) fun F=>chk (0=0∧(XI F)=69∧69≠0) (z F (0:Int))))))
theorem zqv(L:Nat)(C:Ls)(D:Int)(E F:List V)(k:KK β):(zl 0 (zy (xf zbr (zbo zx zm xA yJ L) 0 L zhL) (zG 0 (CF.res cf_ref11_Decode) k))) (.exit 0) (zka C D E F)=zgg yJ L C D E F (fun z A=>k (V.tup [(V.agg z),(Qe A)]) []):=by kernel_rfl
def zbG(L:Nat)(z:Int→List V→Ob β)(A:Ls→Int→List V→List V→Ob β):Nat→Ls→Int→Int→List V→List V→Ob β
 | 0,_,_,_,_,_=>none
 | n+1,C,D,E,F,G=>zeA xA L C D E F G z (fun C D E F G=>zbG L z A n C D E F G) A
theorem zjW(L:Nat)(K:KT β):∀ (n:Nat) (A:Ls) (E C:Int) (z D:List V),yx (xf zbr (zbo zx zm xA yJ L) 0 L zgM) zhz n (zda A E C z D) K=zbG xA L (fun F z=>K .ret (zjp F z)) (fun A C z D=>K (.exit 0) (zka A C z D)) n A E C z D:=by
 intro n; induction n <;> intros
 ·rfl
 ·exact (zsb ..).trans (by simp only [*]; rfl)
end
def zk2{β:Type}(zx:zf1)(zm:zbE)(xA:zh0)(yJ:zjn)(L:Nat)(A:Ls)(z:List V→Int→Ob β):Ob β:=zpa zx zm L A z (fun A F D C E=>zbG xA L (fun G C=>zfO L G C z) (fun A D C E=>zgg yJ L A D C E z) L A F D C E)
theorem zCW{β:Type}(zx:zf1)(zm:zbE)(xA:zh0)(yJ:zjn)(L:Nat)(z:Ls)(k:KK β):zj zbr (zbo zx zm xA yJ L) L cf_ref11_Decode [(V.sl 1 z)] [] k=zk2 zx zm xA yJ L z (fun A C=>k (V.tup [(V.agg A),(Qe C)]) []):=by
 refine (zCk zx zm xA yJ L z k).trans ?_
 unfold zk2
 first
  | (simp only [zjW,zpy,zqv]; done)
  | (simp only [zjW]; rfl)
abbrev zh6:=∀ (β:Type),Nat→Ls→(List V→Int→Ob β)→Ob β
def zO:zh6:=fun β=>@zk2 β zx zm xA yJ
def zo5(zO:zh6)(L:Nat):Dk:=dA (AL 1) fun C=>d0 fun β k=>zO β L C (fun z A=>k (V.tup [(V.agg z),(Qe A)]) [])
theorem zCj(L:Nat):DK (zo5 zO L) (fun _=>zj zbr (zbo zx zm xA yJ L) L cf_ref11_Decode):=xp zaL fun z=>xO fun _ k=>zCW zx zm xA yJ L z k
def zuI:Hint:=⟨[],[],[none],[],[],false,false,[]⟩
def zyH:CF:=cfD zuI 15
def zq0:Nat→Sh:=yD []
def zrt(L:Nat):CBC:=noC
def zsH{β:Type}(L:Nat)(A C:Ls)(z:Bool→Ob β):Ob β:=zIx A fun D=>zIx C fun E=>z (ByteArray.toList D==ByteArray.toList E)
theorem zF9{β:Type}(L:Nat)(z A:Ls)(k:KK β):zj zq0 (zrt L) L zyH [(V.sl 1 z),(V.sl 1 A)] [] k=zsH L z A (fun z=>k (V.sc (.bool z)) []):=by kernel_rfl
abbrev zcb:=∀ (β:Type),Nat→Ls→Ls→(Bool→Ob β)→Ob β
def yh:zcb:=fun β=>@zsH β
def zkC(yh:zcb)(L:Nat):Dk:=dA (AL 1) fun z=>dA (AL 1) fun A=>d0 fun β k=>yh β L z A (fun z=>k (V.sc (.bool z)) [])
theorem zFx(L:Nat):DK (zkC yh L) (fun _=>zj zq0 (zrt L) L zyH):=xp zaL fun z=>xp zaL fun A=>xO fun _ k=>zF9 L z A k
end
end
end Go.Proofs.YtgmhijonllockaaGreatDoor
