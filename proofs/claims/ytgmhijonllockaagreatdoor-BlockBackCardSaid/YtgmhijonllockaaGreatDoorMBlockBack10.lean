/- Part 10 of the proof of BlockBack: an abstract machine over plain values, its soundness, and the functions of the program on plain values. -/
import Derived.Test.YtgmhijonllockaaGreatDoorMBlockBack9
namespace Go.Proofs.YtgmhijonllockaaGreatDoor
set_option maxRecDepth 100000
set_option linter.unusedVariables false
set_option linter.unusedSimpArgs false
open List renaming length->XK,replicate->We,take->XM,set->XR,flatten->XP,drop->XN
open IntKind renaming wrap->QG
open Int renaming toNat->XL
section
noncomputable section
def zsh:Hint:=⟨[(0,0),(1,0),(3,0),(3,1),(4,10),(4,14),(7,0),(7,1),(9,0),(9,1)],[],[none,none,none,none,none],[],[],false,false,[]⟩
def zuX:CF:=cfD zsh 114
def zn1:Nat→Sh:=xC []
def znO(y5:zjf)(L:Nat):CBC:=(xp 167 (znu y5 L) noC)
def zkc{β:Type}(y5:zjf)(L:Nat)(z:Ls)(A C F:Int)(D:Ls→Ls→Int→Int→Int→Ob β)(E:Ls→Ls→Int→Int→Int→Ob β):Ob β:=ifb ((C:Int) != (0:Int)) (D ([]:Ls) z A C F) (y5 β L z A F (fun I J G H=>ifb ((G:Int) != (0:Int)) (D ([]:Ls) z A G H) (E I z J C H)))
theorem zCp{β:Type}(y5:zjf)(L:Nat)(z:Ls)(A C D:Int)(k:KK β):zj zn1 (znO y5 L) L zuX [(V.ptr 0 0),(V.fn 167 [(V.ptr 1 0)])] [(.live false [(V.sl 1 z),(Qe A),(Qe C)]),(.live true [(Qe D)])] k=zkc y5 L z A C D (fun E z A C D=>k (V.gs 1 E) [(.live false [(V.sl 1 z),(Qe A),(Qe C)]),(.live true [(Qe D)])]) (fun E z A C D=>k (V.sl 1 E) [(.live false [(V.sl 1 z),(Qe A),(Qe C)]),(.live true [(Qe D)])]):=by kernel_rfl
abbrev zhl:=∀ (β:Type),Nat→Ls→Int→Int→Int→(Ls→Ls→Int→Int→Int→Ob β)→(Ls→Ls→Int→Int→Int→Ob β)→Ob β
def yR:zhl:=fun β=>@zkc β y5
def zkn(yR:zhl)(L:Nat)(β:Type)(args:List V)(bor:Bor)(k:KK β):Ob β:=match args,bor with
 | [a0,a1],[(.live false [w0_0,w0_1,w0_2]),(.live true [w1_0])]=>aP 0 0 a0 (aF 167 [(1,0)] a1 (aL 1 w0_0 fun z=>aI .i64 w0_1 fun A=>aI .i64 w0_2 fun C=>aI .i64 w1_0 fun D=>yR β L z A C D (fun E z A C D=>k (V.gs 1 E) [(.live false [(V.sl 1 z),(Qe A),(Qe C)]),(.live true [(Qe D)])]) (fun E z A C D=>k (V.sl 1 E) [(.live false [(V.sl 1 z),(Qe A),(Qe C)]),(.live true [(Qe D)])])))
 | _,_=>none
theorem zDh(L:Nat)(β:Type)(args:List V)(bor:Bor)(k:KK β)(r:β)(h:zkn yR L β args bor k=some r):zj zn1 (znO y5 L) L zuX args bor k=some r:=by
 unfold zkn at h
 split at h
 ·have q:=zkP h; clear h; obtain ⟨rfl,h⟩:=q
  have q:=zCl h; clear h; obtain ⟨rfl,h⟩:=q
  have q:=zlA h; clear h; obtain ⟨z,rfl,h⟩:=q
  have q:=zbv h; clear h; obtain ⟨A,rfl,h⟩:=q
  have q:=zbv h; clear h; obtain ⟨C,rfl,h⟩:=q
  have q:=zbv h; clear h; obtain ⟨D,rfl,h⟩:=q
  exact (zCp y5 L z A C D k).trans h
 ·cases h
def zyH:Hint:=⟨[(0,1),(1,3)],[],[none],[],[],false,false,[]⟩
def zCW:CF:=cfD zyH 113
def zu7:Nat→Sh:=xC []
def zvb(yR:zhl)(L:Nat):CBC:=(xp 166 (zkn yR L) noC)
def zrC{β:Type}(yR:zhl)(L:Nat)(F:Int)(C:Ls)(D E:Int)(A:Ls→Ls→Int→Int→Ob β)(z:Ls→Ls→Int→Int→Ob β):Ob β:=yR β L C D E F (fun G H I J Q=>A G H I J) (fun M N O P R=>z M N O P)
theorem zJM{β:Type}(yR:zhl)(L:Nat)(D:Int)(z:Ls)(A C:Int)(k:KK β):zj zu7 (zvb yR L) L zCW [(Qe D),(V.ptr 0 0)] [(.live false [(V.ptr 1 0)]),(.live false [(V.sl 1 z),(Qe A),(Qe C)])] k=zrC yR L D z A C (fun D z A C=>k (V.gs 1 D) [(.live false [(V.ptr 1 0)]),(.live false [(V.sl 1 z),(Qe A),(Qe C)])]) (fun D z A C=>k (V.sl 1 D) [(.live false [(V.ptr 1 0)]),(.live false [(V.sl 1 z),(Qe A),(Qe C)])]):=by kernel_rfl
abbrev zjr:=∀ (β:Type),Nat→Int→Ls→Int→Int→(Ls→Ls→Int→Int→Ob β)→(Ls→Ls→Int→Int→Ob β)→Ob β
def ze:zjr:=fun β=>@zrC β yR
def zrF(ze:zjr)(L:Nat)(β:Type)(args:List V)(bor:Bor)(k:KK β):Ob β:=match args,bor with
 | [a0,a1],[(.live false [w0_0]),(.live false [w1_0,w1_1,w1_2])]=>aI .i64 a0 fun D=>aP 0 0 a1 (aP 1 0 w0_0 (aL 1 w1_0 fun z=>aI .i64 w1_1 fun A=>aI .i64 w1_2 fun C=>ze β L D z A C (fun D z A C=>k (V.gs 1 D) [(.live false [(V.ptr 1 0)]),(.live false [(V.sl 1 z),(Qe A),(Qe C)])]) (fun D z A C=>k (V.sl 1 D) [(.live false [(V.ptr 1 0)]),(.live false [(V.sl 1 z),(Qe A),(Qe C)])])))
 | _,_=>none
theorem zJC(L:Nat)(β:Type)(args:List V)(bor:Bor)(k:KK β)(r:β)(h:zrF ze L β args bor k=some r):zj zu7 (zvb yR L) L zCW args bor k=some r:=by
 unfold zrF at h
 split at h
 ·have q:=zbv h; clear h; obtain ⟨D,rfl,h⟩:=q
  have q:=zkP h; clear h; obtain ⟨rfl,h⟩:=q
  have q:=zkP h; clear h; obtain ⟨rfl,h⟩:=q
  have q:=zlA h; clear h; obtain ⟨z,rfl,h⟩:=q
  have q:=zbv h; clear h; obtain ⟨A,rfl,h⟩:=q
  have q:=zbv h; clear h; obtain ⟨C,rfl,h⟩:=q
  exact (zJM yR L D z A C k).trans h
 ·cases h
def zCH:Hint:=⟨[(0,0),(8,0),(12,1),(19,1),(27,8)],[],[none,some ((bl 50333586 129),(bl 680564733841876926926749208193183774719 129)),none,some ((bl 1938 129),(bl 680564733841876926926749208193183774719 129)),none,none,some ((bl 211106232534930 129),(bl 680564733841876926896772129843851552767 129)),none,some ((bl 1938 129),(bl 680564733841876926896772129843851552767 129)),none,none,none,some ((bl 16528282690043758249874 129),(bl 680564733833211195536024101110595704831 129)),none,some ((bl 2361183241434822608018 129),(bl 680564733833211195536024101110595704831 129)),none,none,some ((bl 469875465045529698772882 129),(bl 680564733833211346651751552939242551295 129)),none,some ((bl 16528282690043758249874 129),(bl 680564733833211346651751552939242551295 129)),none,none,none,none,none],[(34,[100071])],[(1,2,[0]),(19,6,[0]),(4,0,[1]),(12,4,[0]),(22,1,[1]),(34,0,[1,1])],false,false,[(27,71)]⟩
def cf_tx_Read:CF:=cfD zCH 67
def zdw:CC:=yy [1,1,1,1,1,1,1,1,1,0,1,0,0,1,1,0,0,1,1,0,0] cf_tx_Read.body
def zks:CC:=yy [1,1,1,1,1,1,1,1,1,0,1,0,0,1,1,1] cf_tx_Read.body
def zev:CC:=yy [1,1,1,1,1,1,1,1,1,0,1,0,0] cf_tx_Read.body
def ziJ:CC:=yy [1,1,1,1,1,1,1,0,1,0,0] cf_tx_Read.body
def zjS:CC:=yy [1,1,1,1,1,1,0,1,0,0] cf_tx_Read.body
def zqs:CC:=yy [1,1,1,1,1,1,1,1,1,1] cf_tx_Read.body
def zmE:CC:=yy [1,1,1,1,1,1,1,1] cf_tx_Read.body
def znW:CC:=yy [1,1,1,1,1,1,1] cf_tx_Read.body
def zP:Nat→Sh:=xC [(88,(.gs 1))]
def yP(xb:zek)(xg:zjn)(xe:zcZ)(xc:zcC)(ze:zjr)(L:Nat):CBC:=(xp 165 (zrF ze L) (xp 162 (zgv xc L) (xp 171 (zhi xe L) (xp 161 (zru xg L) (xp 169 (ziY xb L) noC)))))
def zkL:St→St:=zM 0 (bl 50333586 129) (bl 680564733841876926926749208193183774719 129)
def zj3:St→St:=zM 0 (bl 211106232534930 129) (bl 680564733841876926896772129843851552767 129)
def zbU:St→St:=zM 0 (bl 16528282690043758249874 129) (bl 680564733833211195536024101110595704831 129)
def zdT:St→St:=zM 0 (bl 469875465045529698772882 129) (bl 680564733833211346651751552939242551295 129)
def ze4(P N O H:Int)(I J:Ls)(M z:Int)(A C:Ls)(D:Int)(E:Ls)(F G:Int):St:=⟨(jn 1 ((Qe P)::(jn 2 ((V.ptr 4 0)::(jn 2 ((V.ptr 7 0)::((V.fn 161 [(V.ptr 7 0)])::((V.fn 165 [(V.ptr 7 0)])::((V.ptr 10 0)::(jn 13 ((Qe N)::((Qe O)::(jn 103 []))))))))))))),(gn 4 ((.live true [(Qc H),(V.gs 35 I),(V.gs 2 J),(Qc M)])::(gn 2 ((.live false [(V.ptr 17 0)])::(gn 2 ((.live false [(Qc z),(V.fr 35 A),(V.gs 2 C),(Qc D)])::(gn 6 ((.live false [(V.sl 1 E),(Qe F),(Qe G)])::(gn 111 [])))))))))⟩
def znC(N H:Int)(I J:Ls)(M z:Int)(A C:Ls)(D:Int)(E:Ls)(F G:Int):St:=⟨(jn 1 ((Qe N)::(jn 2 ((V.ptr 4 0)::(jn 2 ((V.ptr 7 0)::((V.fn 161 [(V.ptr 7 0)])::((V.fn 165 [(V.ptr 7 0)])::((V.ptr 10 0)::(jn 118 [])))))))))),(gn 4 ((.live true [(Qc H),(V.gs 35 I),(V.gs 2 J),(Qc M)])::(gn 2 ((.live false [(V.ptr 17 0)])::(gn 2 ((.live false [(Qc z),(V.fr 35 A),(V.gs 2 C),(Qc D)])::(gn 6 ((.live false [(V.sl 1 E),(Qe F),(Qe G)])::(gn 111 [])))))))))⟩
def zeD(P N O H:Int)(I J:Ls)(M z:Int)(A C:Ls)(D:Int)(E:Ls)(F G:Int):St:=⟨(jn 1 ((Qe P)::(jn 2 ((V.ptr 4 0)::(jn 2 ((V.ptr 7 0)::((V.fn 161 [(V.ptr 7 0)])::((V.fn 165 [(V.ptr 7 0)])::((V.ptr 10 0)::(jn 35 ((Qe N)::((Qe O)::(jn 81 []))))))))))))),(gn 4 ((.live true [(Qc H),(V.gs 35 I),(V.gs 2 J),(Qc M)])::(gn 2 ((.live false [(V.ptr 17 0)])::(gn 2 ((.live false [(Qc z),(V.fr 35 A),(V.gs 2 C),(Qc D)])::(gn 6 ((.live false [(V.sl 1 E),(Qe F),(Qe G)])::(gn 111 [])))))))))⟩
def znr(N H:Int)(I J:Ls)(M z:Int)(A C:Ls)(D:Int)(E:Ls)(F G:Int):St:=⟨(jn 1 ((Qe N)::(jn 2 ((V.ptr 4 0)::(jn 2 ((V.ptr 7 0)::((V.fn 161 [(V.ptr 7 0)])::((V.fn 165 [(V.ptr 7 0)])::((V.ptr 10 0)::(jn 118 [])))))))))),(gn 4 ((.live true [(Qc H),(V.gs 35 I),(V.gs 2 J),(Qc M)])::(gn 2 ((.live false [(V.ptr 17 0)])::(gn 2 ((.live false [(Qc z),(V.fr 35 A),(V.gs 2 C),(Qc D)])::(gn 6 ((.live false [(V.sl 1 E),(Qe F),(Qe G)])::(gn 111 [])))))))))⟩
def zbd(R:Int)(H:Nat)(O P I:Int)(J M:Ls)(N A:Int)(z:Nat)(C:Ls)(D:Int)(E:Ls)(F G:Int)(Q:List V):St:=⟨(jn 1 ((Qe R)::(jn 2 ((V.ptr 4 0)::(jn 2 ((V.ptr 7 0)::((V.fn 161 [(V.ptr 7 0)])::((V.fn 165 [(V.ptr 7 0)])::((V.ptr 10 0)::(jn 60 ((V.own 71 0 H 35)::((Qe O)::((Qe P)::(jn 55 [])))))))))))))),(gn 4 ((.live true [(Qc I),(V.gs 35 J),(V.gs 2 M),(Qc N)])::(gn 2 ((.live false [(V.ptr 17 0)])::(gn 2 ((.live false [(Qc A),(V.own 71 0 z 35),(V.gs 2 C),(Qc D)])::(gn 6 ((.live false [(V.sl 1 E),(Qe F),(Qe G)])::(gn 53 ((.live false Q)::(gn 57 [])))))))))))⟩
def zbn(U O:Int)(H:Nat)(P Q R S I:Int)(J M:Ls)(N A:Int)(z:Nat)(C:Ls)(D:Int)(E:Ls)(F G:Int)(T:List V):St:=⟨(jn 1 ((Qe U)::(jn 2 ((V.ptr 4 0)::(jn 2 ((V.ptr 7 0)::((V.fn 161 [(V.ptr 7 0)])::((V.fn 165 [(V.ptr 7 0)])::((V.ptr 10 0)::(jn 2 ((Qe O)::(jn 57 ((V.own 71 0 H 35)::((Qe P)::((Qe Q)::(jn 3 ((Qe R)::((Qe S)::(jn 50 []))))))))))))))))))),(gn 4 ((.live true [(Qc I),(V.gs 35 J),(V.gs 2 M),(Qc N)])::(gn 2 ((.live false [(V.ptr 17 0)])::(gn 2 ((.live false [(Qc A),(V.own 71 0 z 35),(V.gs 2 C),(Qc D)])::(gn 6 ((.live false [(V.sl 1 E),(Qe F),(Qe G)])::(gn 53 ((.live false T)::(gn 57 [])))))))))))⟩
def znG(P:Int)(H:Nat)(I:Int)(J M:Ls)(N A:Int)(z:Nat)(C:Ls)(D:Int)(E:Ls)(F G:Int)(O:List V):St:=⟨(jn 1 ((Qe P)::(jn 2 ((V.ptr 4 0)::(jn 2 ((V.ptr 7 0)::(jn 2 ((V.ptr 10 0)::(jn 60 ((V.own 71 0 H 35)::(jn 57 []))))))))))),(gn 4 ((.live true [(Qc I),(V.gs 35 J),(V.gs 2 M),(Qc N)])::(gn 2 ((.live false [(V.ptr 17 0)])::(gn 2 ((.live false [(Qc A),(V.own 71 0 z 35),(V.gs 2 C),(Qc D)])::(gn 6 ((.live false [(V.sl 1 E),(Qe F),(Qe G)])::(gn 53 ((.live false O)::(gn 57 [])))))))))))⟩
def zst(R:Int)(H:Nat)(O P I:Int)(J M:Ls)(N A:Int)(z:Nat)(C:Ls)(D:Int)(E:Ls)(F G:Int)(Q:List V):St:=⟨(jn 1 ((Qe R)::(jn 2 ((V.ptr 4 0)::(jn 2 ((V.ptr 7 0)::((V.fn 161 [(V.ptr 7 0)])::((V.fn 165 [(V.ptr 7 0)])::((V.ptr 10 0)::(jn 60 ((V.own 71 0 H 35)::((Qe O)::((Qe P)::(jn 55 [])))))))))))))),(gn 4 ((.live true [(Qc I),(V.gs 35 J),(V.gs 2 M),(Qc N)])::(gn 2 ((.live false [(V.ptr 17 0)])::(gn 2 ((.live false [(Qc A),(V.own 71 0 z 35),(V.gs 2 C),(Qc D)])::(gn 6 ((.live false [(V.sl 1 E),(Qe F),(Qe G)])::(gn 53 ((.live false Q)::(gn 57 [])))))))))))⟩
abbrev zgD(β:Type):Type:=Int→Int→Int→Int→Ls→Ls→Int→Int→Ls→Ls→Int→Ls→Int→Int→Ob β
abbrev zjo(β:Type):Type:=Int→Int→Ls→Ls→Int→Int→Ls→Ls→Int→Ls→Int→Int→Ob β
abbrev zfC(β:Type):Type:=Int→Int→Int→Int→Ls→Ls→Int→Int→Ls→Ls→Int→Ls→Int→Int→Ob β
abbrev zjp(β:Type):Type:=Int→Int→Ls→Ls→Int→Int→Ls→Ls→Int→Ls→Int→Int→Ob β
abbrev zhF(β:Type):Type:=Int→Nat→Int→Int→Int→Ls→Ls→Int→Int→Nat→Ls→Int→Ls→Int→Int→List V→Ob β
abbrev zbG(β:Type):Type:=Int→Int→Nat→Int→Int→Int→Int→Int→Ls→Ls→Int→Int→Nat→Ls→Int→Ls→Int→Int→List V→Ob β
abbrev zm2(β:Type):Type:=Int→Nat→Int→Ls→Ls→Int→Int→Nat→Ls→Int→Ls→Int→Int→List V→Ob β
abbrev zho(β:Type):Type:=Int→Nat→Int→Int→Int→Ls→Ls→Int→Int→Nat→Ls→Int→Ls→Int→Int→List V→Ob β
section
variable {β:Type} (xb:zek) (xg:zjn) (xe:zcZ) (xc:zcC) (ze:zjr)
def zDg(L:Nat)(C:Ls)(A:Int)(z:zgD β):Ob β:=xb β L C A (0:Int) (fun D E F G=>xg β L (64:Int) E F G (fun H I J M=>z A H (0:Int) (0:Int) ([]:Ls) ([]:Ls) (0:Int) D ([]:Ls) ([]:Ls) (0:Int) I J M))
theorem zM5(L:Nat)(O:Ls)(z:Int)(k:KK β):zj zP (yP xb xg xe xc ze L) L cf_tx_Read [(V.sl 1 O),(Qe z)] [] k=zDg xb xg L O z (fun z P Q I J M N A C D E F G H=>yt (xd zP (yP xb xg xe xc ze L) 0 L zjS) zkL L (ze4 z P Q I J M N A C D E F G H) (zi 0 (yr (xd zP (yP xb xg xe xc ze L) 0 L znW) (zy 0 (CF.res cf_tx_Read) k)))):=by kernel_rfl
def zc1(L:Nat)(U P Q J:Int)(M N:Ls)(O D:Int)(z E:Ls)(F:Int)(G:Ls)(H I:Int)(A:zgD β)(T:zjo β):Ob β:=ifb (decide (Q<P)) (xe β L G H I (fun W v9 X Y=>chk ((XK W)=32∧0+32≤35) (lt (yd (We 32 (Qa (0:Int))++[(Qc (0:Int)),(Qc (0:Int)),(V.gs 1 ([]:Ls))]) 0 W) fun R=>xb β L v9 X Y (fun Z aa ab ac=>chk (1=1∧32+1≤(XK R)) (lt (yd R 32 [(Qc Z)]) fun S=>xb β L aa ab ac (fun ad ae af ag=>chk (1=1∧33+1≤(XK S)) (lt (yd S 33 [(Qc ad)]) fun C=>chk (0+35≤(XK C)) (chk ((XK (XM 35 C))=35∧0+35≤35) (chk ((XK z+XK (zf 35 1 (yd (We 32 (Qa (0:Int))++[(Qc (0:Int)),(Qc (0:Int)),(V.sl 1 ([]:Ls))]) 0 (XM 35 C))))*64≤xf∧XK z+XK (zf 35 1 (yd (We 32 (Qa (0:Int))++[(Qc (0:Int)),(Qc (0:Int)),(V.sl 1 ([]:Ls))]) 0 (XM 35 C)))≤xf∧XK z+XK (zf 35 1 (yd (We 32 (Qa (0:Int))++[(Qc (0:Int)),(Qc (0:Int)),(V.sl 1 ([]:Ls))]) 0 (XM 35 C)))≠0) (lt (z++(zf 35 1 (yd (We 32 (Qa (0:Int))++[(Qc (0:Int)),(Qc (0:Int)),(V.sl 1 ([]:Ls))]) 0 (XM 35 C)))) fun ah=>lt (QG .i64 ((Q:Int)+(1:Int))) fun ai=>A U P ai J M N O D ah E F ae af ag)))))))))) (T U J M N O D z E F G H I)
theorem zxJ(L:Nat)(P N O H:Int)(I J:Ls)(M z:Int)(A C:Ls)(D:Int)(E:Ls)(F G:Int)(X:St→Ob β)(K:KT β):xd zP (yP xb xg xe xc ze L) 0 L zjS (ze4 P N O H I J M z A C D E F G) (zI zkL X K)=zc1 xb xe L P N O H I J M z A C D E F G (fun P N O H I J M z A C D E F G=>X (ze4 P N O H I J M z A C D E F G)) (fun P H I J M z A C D E F G=>K (.exit 0) (znC P H I J M z A C D E F G)):=by kernel_rfl
def zfK(L:Nat)(S I:Int)(J M:Ls)(N A:Int)(C D:Ls)(E:Int)(F:Ls)(G H:Int)(z:zfC β):Ob β:=xg β L (64:Int) F G H (fun O P Q R=>z S O (0:Int) I J M N A C D E P Q R)
theorem zvr(L:Nat)(N H:Int)(I J:Ls)(M z:Int)(A C:Ls)(D:Int)(E:Ls)(F G:Int)(k:KK β):(zi 0 (yr (xd zP (yP xb xg xe xc ze L) 0 L znW) (zy 0 (CF.res cf_tx_Read) k))) (.exit 0) (znC N H I J M z A C D E F G)=zfK xg L N H I J M z A C D E F G (fun N O P H I J M z A C D E F G=>yt (xd zP (yP xb xg xe xc ze L) 0 L ziJ) zj3 L (zeD N O P H I J M z A C D E F G) (zi 2 (yr (xd zP (yP xb xg xe xc ze L) 0 L zmE) (zy 0 (CF.res cf_tx_Read) k)))):=by kernel_rfl
def zcz(L:Nat)(S N O F:Int)(G H:Ls)(I C:Int)(D z:Ls)(E:Int)(P:Ls)(Q R:Int)(A:zfC β)(ab:zjp β):Ob β:=ifb (decide (O<N)) (xc β L P Q R (fun T Z aa ac=>ifb (decide (T≥(9223372036854775808:Int))) (lt (QG .i64 T) fun J=>ze β L (520:Int) Z aa (90:Int) (fun U ad ae af=>chk ((XK z+XK (zf 2 1 [(Qe J),(V.sl 1 U)]))*32≤xf∧XK z+XK (zf 2 1 [(Qe J),(V.sl 1 U)])≤xf) (lt (z++(zf 2 1 [(Qe J),(V.sl 1 U)])) fun ag=>lt (QG .i64 ((O:Int)+(1:Int))) fun ah=>A S N ah F G H I C D ag E ad ae af)) (fun W ai aj ak=>chk ((XK z+XK (zf 2 1 [(Qe J),(V.sl 1 W)]))*32≤xf∧XK z+XK (zf 2 1 [(Qe J),(V.sl 1 W)])≤xf) (lt (z++(zf 2 1 [(Qe J),(V.sl 1 W)])) fun al=>lt (QG .i64 ((O:Int)+(1:Int))) fun am=>A S N am F G H I C D al E ai aj ak))) (lt (QG .i64 T) fun M=>ze β L (520:Int) Z aa ac (fun X an ao ap=>chk ((XK z+XK (zf 2 1 [(Qe M),(V.sl 1 X)]))*32≤xf∧XK z+XK (zf 2 1 [(Qe M),(V.sl 1 X)])≤xf) (lt (z++(zf 2 1 [(Qe M),(V.sl 1 X)])) fun aq=>lt (QG .i64 ((O:Int)+(1:Int))) fun ar=>A S N ar F G H I C D aq E an ao ap)) (fun Y au av aw=>chk ((XK z+XK (zf 2 1 [(Qe M),(V.sl 1 Y)]))*32≤xf∧XK z+XK (zf 2 1 [(Qe M),(V.sl 1 Y)])≤xf) (lt (z++(zf 2 1 [(Qe M),(V.sl 1 Y)])) fun ax=>lt (QG .i64 ((O:Int)+(1:Int))) fun ay=>A S N ay F G H I C D ax E au av aw))))) (ab S F G H I C D z E P Q R)
theorem zxg(L:Nat)(P N O H:Int)(I J:Ls)(M z:Int)(A C:Ls)(D:Int)(E:Ls)(F G:Int)(X:St→Ob β)(K:KT β):xd zP (yP xb xg xe xc ze L) 0 L ziJ (zeD P N O H I J M z A C D E F G) (zI zj3 X K)=zcz xc ze L P N O H I J M z A C D E F G (fun P N O H I J M z A C D E F G=>X (zeD P N O H I J M z A C D E F G)) (fun P H I J M z A C D E F G=>K (.exit 2) (znr P H I J M z A C D E F G)):=by kernel_rfl
def ze8(L:Nat)(T H:Int)(I J:Ls)(M C:Int)(A D:Ls)(S:Int)(E:Ls)(F G:Int)(z:zhF β):Ob β:=xb β L E F G (fun N O P Q=>lt (XP A) fun R=>z T (XK A) (((XK A):Nat):Int) (0:Int) H I J M C (XK A) D N O P Q (zX (bl 680564733833211195536024101110595704831 129) R))
theorem zuS(L:Nat)(O G:Int)(H I:Ls)(J z:Int)(M A:Ls)(C:Int)(D:Ls)(E F:Int)(k:KK β):(zi 2 (yr (xd zP (yP xb xg xe xc ze L) 0 L zmE) (zy 0 (CF.res cf_tx_Read) k))) (.exit 2) (znr O G H I J z M A C D E F)=ze8 xb L O G H I J z M A C D E F (fun O P Q R G H I J z N A C D E F S=>yt (xd zP (yP xb xg xe xc ze L) 0 L zev) zbU L (zbd O P Q R G H I J z N A C D E F S) (zi 4 (yr (xd zP (yP xb xg xe xc ze L) 0 L zqs) (zy 0 (CF.res cf_tx_Read) k)))):=by kernel_rfl
def zc4(L:Nat)(T:Int)(I:Nat)(Q J M:Int)(N O:Ls)(P C:Int)(A:Nat)(D:Ls)(E:Int)(F:Ls)(G H:Int)(R:List V)(z:zbG β)(S:zm2 β):Ob β:=ifb (decide (J<Q)) (xg β L (32:Int) F G H (fun U W X Y=>z T J I Q J U (0:Int) M N O P C A D E W X Y (zX (bl 680564733833211346651751552939242551295 129) R))) (S T I M N O P C A D E F G H (zX (bl 680564733833211195536024101110595704831 129) R))
theorem zuq(L:Nat)(R:Int)(H:Nat)(P Q I:Int)(J M:Ls)(N A:Int)(z:Nat)(C:Ls)(D:Int)(E:Ls)(F G:Int)(O:List V)(X:St→Ob β)(K:KT β):xd zP (yP xb xg xe xc ze L) 0 L zev (zbd R H P Q I J M N A z C D E F G O) (zI zbU X K)=zc4 xg L R H P Q I J M N A z C D E F G O (fun R S H P Q T U I J M N A z C D E F G O=>yt (xd zP (yP xb xg xe xc ze L) 0 L zdw) zdT L (zbn R S H P Q T U I J M N A z C D E F G O) (zi 6 (zi 5 (yr (xd zP (yP xb xg xe xc ze L) 0 L zks) (zI zbU X K))))) (fun R H I J M N A z C D E F G O=>K (.exit 4) (znG R H I J M N A z C D E F G O)):=by kernel_rfl
def yY(L:Nat)(p1:Int)(ab:Nat)(ac:Int)(ad ae:Ls)(af E:Int)(A:Nat)(F:Ls)(G:Int)(Z:Ls)(C D:Int)(H:List V)(z:List V→Int→Int→Ob β):Ob β:=ifb ((D:Int)==(0:Int)) (lt (QG .i64 ((C:Int)-p1)) fun R=>ifb (decide (R>(20000:Int))) (lt [(Qc (0:Int)),(V.sl 35 ([]:Ls)),(V.sl 2 ([]:Ls)),(Qc (0:Int))] fun I=>chk (0=0∧(XK I)=4∧4≠0) (z I (0:Int) (4:Int))) (ifb ((D:Int) != (0:Int)) (lt [(Qc (0:Int)),(V.sl 35 ([]:Ls)),(V.sl 2 ([]:Ls)),(Qc (0:Int))] fun J=>chk (0=0∧(XK J)=4∧4≠0) (z J (0:Int) D)) (lc H (chk (A=0) (lt [(Qc E),(V.sl 35 ([]:Ls)),(V.sl 2 F),(Qc G)] fun M=>chk (0=0∧(XK M)=4∧4≠0) (z M C (0:Int)))) (fun S T=>zcy (S::T) fun U=>lt [(Qc E),(V.sl 35 (zf 35 A U)),(V.sl 2 F),(Qc G)] fun N=>chk (0=0∧(XK N)=4∧4≠0) (z N C (0:Int)))))) (ifb ((D:Int) != (0:Int)) (lt [(Qc (0:Int)),(V.sl 35 ([]:Ls)),(V.sl 2 ([]:Ls)),(Qc (0:Int))] fun O=>chk (0=0∧(XK O)=4∧4≠0) (z O (0:Int) D)) (lc H (chk (A=0) (lt [(Qc E),(V.sl 35 ([]:Ls)),(V.sl 2 F),(Qc G)] fun P=>chk (0=0∧(XK P)=4∧4≠0) (z P C (0:Int)))) (fun W X=>zcy (W::X) fun Y=>lt [(Qc E),(V.sl 35 (zf 35 A Y)),(V.sl 2 F),(Qc G)] fun Q=>chk (0=0∧(XK Q)=4∧4≠0) (z Q C (0:Int)))))
theorem zs5(L:Nat)(S:Int)(H:Nat)(I:Int)(J M:Ls)(N A:Int)(z:Nat)(C:Ls)(D:Int)(E:Ls)(F G:Int)(O:List V)(k:KK β):(zi 4 (yr (xd zP (yP xb xg xe xc ze L) 0 L zqs) (zy 0 (CF.res cf_tx_Read) k))) (.exit 4) (znG S H I J M N A z C D E F G O)=yY L S H I J M N A z C D E F G O (fun P Q R=>k (V.tup [(V.agg P),(Qe Q),(Qe R)]) []):=by kernel_rfl
def zY(L:Nat)(Z A:Int)(I:Nat)(S T U W J:Int)(M N:Ls)(O F:Int)(C:Nat)(G:Ls)(H:Int)(P:Ls)(Q R:Int)(E:List V)(z:zbG β)(aa:zho β):Ob β:=ifb (decide (W<U)) (chk (0≤A∧A<((C:Nat):Int)) (cG 1 E ((0+((XL A)*35))+34) fun D=>ze β L (520:Int) P Q R (fun X ab ac ad=>chk ((XK D+XK (zf 1 1 [(V.sl 1 X)]))*24≤xf∧XK D+XK (zf 1 1 [(V.sl 1 X)])≤xf) (lt (D++(zf 1 1 [(V.sl 1 X)])) fun ae=>chk (0≤A∧A<((C:Nat):Int)) (chk (1=1∧((0+((XL A)*35))+34)<(XK (XR E ((0+((XL A)*35))+34) (V.sl 1 D)))) (lt (QG .i64 ((W:Int)+(1:Int))) fun af=>z Z A I S T U af J M N O F C G H ab ac ad (zX (bl 680564733833211346651751552939242551295 129) (XR (XR E ((0+((XL A)*35))+34) (V.sl 1 D)) ((0+((XL A)*35))+34) (V.gs 1 ae))))))) (fun Y ag ah ai=>chk ((XK D+XK (zf 1 1 [(V.sl 1 Y)]))*24≤xf∧XK D+XK (zf 1 1 [(V.sl 1 Y)])≤xf) (lt (D++(zf 1 1 [(V.sl 1 Y)])) fun aj=>chk (0≤A∧A<((C:Nat):Int)) (chk (1=1∧((0+((XL A)*35))+34)<(XK (XR E ((0+((XL A)*35))+34) (V.sl 1 D)))) (lt (QG .i64 ((W:Int)+(1:Int))) fun ak=>z Z A I S T U ak J M N O F C G H ag ah ai (zX (bl 680564733833211346651751552939242551295 129) (XR (XR E ((0+((XL A)*35))+34) (V.sl 1 D)) ((0+((XL A)*35))+34) (V.gs 1 aj))))))))) (aa Z I S T J M N O F C G H P Q R (zX (bl 680564733833211346651751552939242551295 129) E))
theorem znT(L:Nat)(U R:Int)(H:Nat)(O P S T I:Int)(J M:Ls)(N A:Int)(z:Nat)(C:Ls)(D:Int)(E:Ls)(F G:Int)(Q:List V)(X:St→Ob β)(K:KT β):xd zP (yP xb xg xe xc ze L) 0 L zdw (zbn U R H O P S T I J M N A z C D E F G Q) (zI zdT X K)=zY ze L U R H O P S T I J M N A z C D E F G Q (fun U R H O P S T I J M N A z C D E F G Q=>X (zbn U R H O P S T I J M N A z C D E F G Q)) (fun U H O P I J M N A z C D E F G Q=>K (.exit 6) (zst U H O P I J M N A z C D E F G Q)):=by kernel_rfl
def yC(L:Nat)(T:Int)(I:Nat)(P Q J:Int)(M N:Ls)(O C:Int)(A:Nat)(D:Ls)(E:Int)(F:Ls)(G H:Int)(R:List V)(z:zhF β):Ob β:=lt (QG .i64 ((Q:Int)+(1:Int))) fun S=>z T I P S J M N O C A D E F G H (zX (bl 680564733833211195536024101110595704831 129) R)
theorem zmK(L:Nat)(R:Int)(H:Nat)(O P I:Int)(J M:Ls)(N A:Int)(z:Nat)(C:Ls)(D:Int)(E:Ls)(F G:Int)(Q:List V)(X:St→Ob β)(K:KT β):(zi 6 (zi 5 (yr (xd zP (yP xb xg xe xc ze L) 0 L zks) (zI zbU X K)))) (.exit 6) (zst R H O P I J M N A z C D E F G Q)=yC L R H O P I J M N A z C D E F G Q (fun R H O P I J M N A z C D E F G Q=>X (zbd R H O P I J M N A z C D E F G Q)):=by kernel_rfl
def xX(L:Nat)(N:zjo β):Nat→Int→Int→Int→Int→Ls→Ls→Int→Int→Ls→Ls→Int→Ls→Int→Int→Ob β
 | 0,_,_,_,_,_,_,_,_,_,_,_,_,_,_=>none
 | n+1,Q,O,P,H,I,J,M,z,A,C,D,E,F,G=>zc1 xb xe L Q O P H I J M z A C D E F G (fun Q O P H I J M z A C D E F G=>xX L N n Q O P H I J M z A C D E F G) N
theorem zoA(L:Nat)(K:KT β):∀ (n:Nat) (N O P H:Int) (I J:Ls) (M z:Int) (A C:Ls) (D:Int) (E:Ls) (F G:Int),yt (xd zP (yP xb xg xe xc ze L) 0 L zjS) zkL n (ze4 N O P H I J M z A C D E F G) K=xX xb xe L (fun N H I J M z A C D E F G=>K (.exit 0) (znC N H I J M z A C D E F G)) n N O P H I J M z A C D E F G:=by
 intro n; induction n <;> intros
 ·rfl
 ·exact (zxJ ..).trans (by simp only [*]; rfl)
def zZ(L:Nat)(N:zjp β):Nat→Int→Int→Int→Int→Ls→Ls→Int→Int→Ls→Ls→Int→Ls→Int→Int→Ob β
 | 0,_,_,_,_,_,_,_,_,_,_,_,_,_,_=>none
 | n+1,Q,O,P,H,I,J,M,z,A,C,D,E,F,G=>zcz xc ze L Q O P H I J M z A C D E F G (fun Q O P H I J M z A C D E F G=>zZ L N n Q O P H I J M z A C D E F G) N
theorem zmY(L:Nat)(K:KT β):∀ (n:Nat) (N O P H:Int) (I J:Ls) (M z:Int) (A C:Ls) (D:Int) (E:Ls) (F G:Int),yt (xd zP (yP xb xg xe xc ze L) 0 L ziJ) zj3 n (zeD N O P H I J M z A C D E F G) K=zZ xc ze L (fun N H I J M z A C D E F G=>K (.exit 2) (znr N H I J M z A C D E F G)) n N O P H I J M z A C D E F G:=by
 intro n; induction n <;> intros
 ·rfl
 ·exact (zxg ..).trans (by simp only [*]; rfl)
def xA(L:Nat)(O:zho β):Nat→Int→Int→Nat→Int→Int→Int→Int→Int→Ls→Ls→Int→Int→Nat→Ls→Int→Ls→Int→Int→List V→Ob β
 | 0,_,_,_,_,_,_,_,_,_,_,_,_,_,_,_,_,_,_,_=>none
 | n+1,W,P,H,Q,R,S,T,I,J,M,N,A,z,C,D,E,F,G,U=>zY ze L W P H Q R S T I J M N A z C D E F G U (fun W P H Q R S T I J M N A z C D E F G U=>xA L O n W P H Q R S T I J M N A z C D E F G U) O
theorem zgk(L:Nat)(K:KT β):∀ (n:Nat) (R S:Int) (H:Nat) (O P T U I:Int) (J M:Ls) (N A:Int) (z:Nat) (C:Ls) (D:Int) (E:Ls) (F G:Int) (Q:List V),yt (xd zP (yP xb xg xe xc ze L) 0 L zdw) zdT n (zbn R S H O P T U I J M N A z C D E F G Q) K=xA ze L (fun R H O P I J M N A z C D E F G Q=>K (.exit 6) (zst R H O P I J M N A z C D E F G Q)) n R S H O P T U I J M N A z C D E F G Q:=by
 intro n; induction n <;> intros
 ·rfl
 ·exact (znT ..).trans (by simp only [*]; rfl)
def zbB(L:Nat)(S:Int)(I:Nat)(P Q J:Int)(M N:Ls)(O A:Int)(z:Nat)(C:Ls)(D:Int)(E:Ls)(F G:Int)(R:List V)(T:zm2 β)(H:zhF β):Ob β:=zc4 xg L S I P Q J M N O A z C D E F G R (fun S U I P Q W X J M N O A z C D E F G R=>xA ze L (fun S I P Q J M N O A z C D E F G R=>yC L S I P Q J M N O A z C D E F G R H) L S U I P Q W X J M N O A z C D E F G R) T
theorem ztF(L:Nat)(R:Int)(H:Nat)(P Q I:Int)(J M:Ls)(N A:Int)(z:Nat)(C:Ls)(D:Int)(E:Ls)(F G:Int)(O:List V)(X:St→Ob β)(K:KT β):xd zP (yP xb xg xe xc ze L) 0 L zev (zbd R H P Q I J M N A z C D E F G O) (zI zbU X K)=zbB xg ze L R H P Q I J M N A z C D E F G O (fun R H I J M N A z C D E F G O=>K (.exit 4) (znG R H I J M N A z C D E F G O)) (fun R H P Q I J M N A z C D E F G O=>X (zbd R H P Q I J M N A z C D E F G O)):=by
 refine (zuq ..).trans ?_
 unfold zbB
 first
  | (simp only [zgk,zmK]; done)
  | (simp only [zgk]; rfl)
def xF(L:Nat)(O:zm2 β):Nat→Int→Nat→Int→Int→Int→Ls→Ls→Int→Int→Nat→Ls→Int→Ls→Int→Int→List V→Ob β
 | 0,_,_,_,_,_,_,_,_,_,_,_,_,_,_,_,_=>none
 | n+1,S,H,P,Q,I,J,M,N,A,z,C,D,E,F,G,R=>zbB xg ze L S H P Q I J M N A z C D E F G R O (fun S H P Q I J M N A z C D E F G R=>xF L O n S H P Q I J M N A z C D E F G R)
theorem zkB(L:Nat)(K:KT β):∀ (n:Nat) (P:Int) (H:Nat) (Q R I:Int) (J M:Ls) (N A:Int) (z:Nat) (C:Ls) (D:Int) (E:Ls) (F G:Int) (O:List V),yt (xd zP (yP xb xg xe xc ze L) 0 L zev) zbU n (zbd P H Q R I J M N A z C D E F G O) K=xF xg ze L (fun P H I J M N A z C D E F G O=>K (.exit 4) (znG P H I J M N A z C D E F G O)) n P H Q R I J M N A z C D E F G O:=by
 intro n; induction n <;> intros
 ·rfl
 ·exact (ztF ..).trans (by simp only [*]; rfl)
def y6(L:Nat)(O G:Int)(H I:Ls)(J z:Int)(Q A:Ls)(C:Int)(D:Ls)(E F:Int)(R:List V→Int→Int→Ob β):Ob β:=ze8 xb L O G H I J z Q A C D E F (fun O N S T G H I J z M A C D E F P=>xF xg ze L (fun O N G H I J z M A C D E F P=>yY L O N G H I J z M A C D E F P R) L O N S T G H I J z M A C D E F P)
theorem ztU(L:Nat)(Q H:Int)(I J:Ls)(M z:Int)(A C:Ls)(D:Int)(E:Ls)(F G:Int)(k:KK β):(zi 2 (yr (xd zP (yP xb xg xe xc ze L) 0 L zmE) (zy 0 (CF.res cf_tx_Read) k))) (.exit 2) (znr Q H I J M z A C D E F G)=y6 xb xg ze L Q H I J M z A C D E F G (fun N O P=>k (V.tup [(V.agg N),(Qe O),(Qe P)]) []):=by
 refine (zuS ..).trans ?_
 unfold y6
 first
  | (simp only [zkB,zs5]; done)
  | (simp only [zkB]; rfl)
def zah(L:Nat)(N H:Int)(I J:Ls)(M z:Int)(A C:Ls)(D:Int)(E:Ls)(F G:Int)(O:List V→Int→Int→Ob β):Ob β:=zfK xg L N H I J M z A C D E F G (fun N P Q H I J M z A C D E F G=>zZ xc ze L (fun N H I J M z A C D E F G=>y6 xb xg ze L N H I J M z A C D E F G O) L N P Q H I J M z A C D E F G)
theorem zuT(L:Nat)(Q H:Int)(I J:Ls)(M z:Int)(A C:Ls)(D:Int)(E:Ls)(F G:Int)(k:KK β):(zi 0 (yr (xd zP (yP xb xg xe xc ze L) 0 L znW) (zy 0 (CF.res cf_tx_Read) k))) (.exit 0) (znC Q H I J M z A C D E F G)=zah xb xg xc ze L Q H I J M z A C D E F G (fun N O P=>k (V.tup [(V.agg N),(Qe O),(Qe P)]) []):=by
 refine (zvr ..).trans ?_
 unfold zah
 first
  | (simp only [zmY,ztU]; done)
  | (simp only [zmY]; rfl)
end
def zvF{β:Type}(xb:zek)(xg:zjn)(xe:zcZ)(xc:zcC)(ze:zjr)(L:Nat)(R:Ls)(N:Int)(O:List V→Int→Int→Ob β):Ob β:=zDg xb xg L R N (fun N P Q H I J M z A C D E F G=>xX xb xe L (fun N H I J M z A C D E F G=>zah xb xg xc ze L N H I J M z A C D E F G O) L N P Q H I J M z A C D E F G)
theorem zMK{β:Type}(xb:zek)(xg:zjn)(xe:zcZ)(xc:zcC)(ze:zjr)(L:Nat)(z:Ls)(A:Int)(k:KK β):zj zP (yP xb xg xe xc ze L) L cf_tx_Read [(V.sl 1 z),(Qe A)] [] k=zvF xb xg xe xc ze L z A (fun C D E=>k (V.tup [(V.agg C),(Qe D),(Qe E)]) []):=by
 refine (zM5 xb xg xe xc ze L z A k).trans ?_
 unfold zvF
 first
  | (simp only [zoA,zuT]; done)
  | (simp only [zoA]; rfl)
abbrev zog:=∀ (β:Type),Nat→Ls→Int→(List V→Int→Int→Ob β)→Ob β
def yO:zog:=fun β=>@zvF β xb xg xe xc ze
def zBA(yO:zog)(L:Nat):Dk:=dA (AL 1) fun D=>dA (AI .i64) fun E=>d0 fun β k=>yO β L D E (fun z A C=>k (V.tup [(V.agg z),(Qe A),(Qe C)]) [])
theorem zM6(L:Nat):DK (zBA yO L) (fun _=>zj zP (yP xb xg xe xc ze L) L cf_tx_Read):=xo zaV fun z=>xo z8 fun A=>zK fun _ k=>zMK xb xg xe xc ze L z A k
def zxT:Hint:=⟨[],[],[none,none,none,none,none,none],[],[],false,false,[]⟩
def zCy:CF:=cfD zxT 68
def zuZ:Nat→Sh:=xC []
def zvf(L:Nat):CBC:=noC
def zrJ{β:Type}(L:Nat)(C:Ls)(A:Int)(z:Int→Ob β):Ob β:=ifb (decide (A<(0:Int))) (z (5:Int)) (ifb (decide (A>((XK C:Nat):Int))) (z (5:Int)) (ifb (decide (A<((XK C:Nat):Int))) (z (2:Int)) (z (0:Int))))
theorem zKf{β:Type}(L:Nat)(z:Ls)(A:Int)(k:KK β):zj zuZ (zvf L) L zCy [(V.sl 1 z),(Qe A)] [] k=zrJ L z A (fun z=>k (Qe z) []):=by kernel_rfl
abbrev zjm:=∀ (β:Type),Nat→Ls→Int→(Int→Ob β)→Ob β
def xG:zjm:=fun β=>@zrJ β
def zwB(xG:zjm)(L:Nat):Dk:=dA (AL 1) fun z=>dA (AI .i64) fun A=>d0 fun β k=>xG β L z A (fun z=>k (Qe z) [])
theorem zI6(L:Nat):DK (zwB xG L) (fun _=>zj zuZ (zvf L) L zCy):=xo zaV fun z=>xo z8 fun A=>zK fun _ k=>zKf L z A k
def ztu:Hint:=⟨[(0,0),(5,3),(8,2),(11,1),(14,3),(14,7),(17,1)],[],[none,none,none,none,none,none,none,none,none,some ((bl 26388279067013 73),(bl 9441265756976168563175 73)),none,some ((bl 389 73),(bl 9441265756976168563175 73)),none,none,some ((bl 12 73),(bl 9441265756976168562799 73)),none,none,none],[],[],false,false,[]⟩
def cf_block_Decode:CF:=cfD ztu 32
def zfb:CC:=yy [1,1,1,1,1,1,1,1,0,1,0,0] cf_block_Decode.body
def zgG:CC:=yy [1,1,1,1,1,1,1,1,1] cf_block_Decode.body
def zbj:Nat→Sh:=xC [(58,(.gs 4))]
def zbh(zn:zcg)(zm:zbt)(yO:zog)(xG:zjm)(L:Nat):CBC:=(xp 179 (zwB xG L) (xp 139 (zBA yO L) (xp 164 (zkO zm L) (xp 503 (zjd zn L) noC))))
def zfT:St→St:=zM 0 (bl 26388279067013 73) (bl 9441265756976168563175 73)
def zcj(C:Ls)(D z A:Int)(E F:List V):St:=⟨((V.sl 1 C)::(jn 1 ((V.ptr 2 0)::(jn 4 ((Qe D)::((V.ptr 8 0)::(jn 34 ((Qd z)::((Qd A)::(jn 28 [])))))))))),(gn 2 ((.live true E)::(gn 5 ((.live false F)::(gn 64 [])))))⟩
def zjQ(z:Int)(A:List V):St:=⟨(jn 2 ((V.ptr 2 0)::((Qe z)::(jn 69 [])))),(gn 2 ((.live true A)::(gn 70 [])))⟩
def zk8(z:Ls)(A:Int)(C D:List V):St:=⟨((V.sl 1 z)::(jn 1 ((V.ptr 2 0)::(jn 4 ((Qe A)::((V.ptr 8 0)::(jn 64 []))))))),(gn 2 ((.live true C)::(gn 5 ((.live false D)::(gn 64 [])))))⟩
section
variable {β:Type} (zn:zcg) (zm:zbt) (yO:zog) (xG:zjm)
def zrj(L:Nat)(C:Ls)(A:List V→Int→Ob β)(z:Ls→Int→Int→Int→List V→List V→Ob β):Ob β:=ifb (decide (((XK C:Nat):Int)>(100000:Int))) (lt ([(Qc (0:Int))]++We 64 (Qa (0:Int))++[(Qc (0:Int)),(Qc (0:Int)),(Qc (0:Int)),(V.sl 4 ([]:Ls))]) fun E=>chk (0=0∧(XK E)=69∧69≠0) (A E (4:Int))) (ifb (decide (((XK C:Nat):Int)<(80:Int))) (lt ([(Qc (0:Int))]++We 64 (Qa (0:Int))++[(Qc (0:Int)),(Qc (0:Int)),(Qc (0:Int)),(V.sl 4 ([]:Ls))]) fun F=>chk (0=0∧(XK F)=69∧69≠0) (A F (1:Int))) (chk (0≤(80:Int)∧(80:Int)≤(((XK C):Nat):Int)) (zn β L (XM 80 (XN 0 C)) (fun G H=>chk ((XK G)=68∧0+68≤68) (lt (yd ([(Qc (0:Int))]++We 64 (Qa (0:Int))++[(Qc (0:Int)),(Qc (0:Int)),(Qc (0:Int))]) 0 G) fun D=>ifb ((H:Int) != (0:Int)) (lt ([(Qc (0:Int))]++We 64 (Qa (0:Int))++[(Qc (0:Int)),(Qc (0:Int)),(Qc (0:Int)),(V.sl 4 ([]:Ls))]) fun I=>chk (0=0∧(XK I)=69∧69≠0) (A I H)) (zm β L C (80:Int) (256:Int) (fun N O J=>ifb ((J:Int) != (0:Int)) (lt ([(Qc (0:Int))]++We 64 (Qa (0:Int))++[(Qc (0:Int)),(Qc (0:Int)),(Qc (0:Int)),(V.sl 4 ([]:Ls))]) fun M=>chk (0=0∧(XK M)=69∧69≠0) (A M J)) (chk (0+68≤(XK D)) (chk ((XK (XM 68 D))=68∧0+68≤69) (chk ((XK (yd ([(Qc (0:Int))]++We 64 (Qa (0:Int))++[(Qc (0:Int)),(Qc (0:Int)),(Qc (0:Int)),(V.gs 4 ([]:Ls))]) 0 (XM 68 D)))=69∧0+69≤69) (z C O N (0:Int) ([(Qc (0:Int))]++We 64 (Qa (0:Int))++[(Qc (0:Int)),(Qc (0:Int)),(Qc (0:Int)),(V.gs 4 ([]:Ls))]) (zX (bl 9441265756976168563175 73) (yd ([(Qc (0:Int))]++We 64 (Qa (0:Int))++[(Qc (0:Int)),(Qc (0:Int)),(Qc (0:Int)),(V.gs 4 ([]:Ls))]) 0 (yd ([(Qc (0:Int))]++We 64 (Qa (0:Int))++[(Qc (0:Int)),(Qc (0:Int)),(Qc (0:Int)),(V.gs 4 ([]:Ls))]) 0 (XM 68 D)))))))))))))))
theorem zEY(L:Nat)(z:Ls)(k:KK β):zj zbj (zbh zn zm yO xG L) L cf_block_Decode [(V.sl 1 z)] [] k=zrj zn zm L z (fun A C=>k (V.tup [(V.agg A),(Qe C)]) []) (fun z F D E G H=>yt (xd zbj (zbh zn zm yO xG L) 0 L zfb) zfT L (zcj z F D E G H) (zi 0 (yr (xd zbj (zbh zn zm yO xG L) 0 L zgG) (zy 0 (CF.res cf_block_Decode) k)))):=by kernel_rfl
def zdd(L:Nat)(M:Ls)(O G H:Int)(D E:List V)(F:Int→List V→Ob β)(z:Ls→Int→Int→Int→List V→List V→Ob β)(N:Ls→Int→List V→List V→Ob β):Ob β:=ifb (decide (H<G)) (yO β L M O (fun I P J=>chk ((XK I)=4∧0+4≤4) (lt (yd [(Qc (0:Int)),(V.gs 35 ([]:Ls)),(V.gs 2 ([]:Ls)),(Qc (0:Int))] 0 I) fun A=>ifb ((J:Int) != (0:Int)) (chk (69=69∧0+69≤(XK D)) (lt (yd D 0 ([(Qc (0:Int))]++We 64 (Qa (0:Int))++[(Qc (0:Int)),(Qc (0:Int)),(Qc (0:Int)),(V.sl 4 ([]:Ls))])) fun Q=>F J Q)) (cG 4 E 68 fun C=>chk (0+4≤(XK A)) (chk ((XK (XM 4 A))=4∧0+4≤4) (chk ((XK C+XK (zf 4 1 (yd [(Qc (0:Int)),(V.sl 35 ([]:Ls)),(V.sl 2 ([]:Ls)),(Qc (0:Int))] 0 (XM 4 A))))*64≤xf∧XK C+XK (zf 4 1 (yd [(Qc (0:Int)),(V.sl 35 ([]:Ls)),(V.sl 2 ([]:Ls)),(Qc (0:Int))] 0 (XM 4 A)))≤xf) (lt (C++(zf 4 1 (yd [(Qc (0:Int)),(V.sl 35 ([]:Ls)),(V.sl 2 ([]:Ls)),(Qc (0:Int))] 0 (XM 4 A)))) fun R=>chk (1=1∧68<(XK (XR E 68 (V.sl 4 C)))) (lt (QG .u64 ((H:Int)+(1:Int))) fun S=>z M P G S D (zX (bl 9441265756976168563175 73) (XR (XR E 68 (V.sl 4 C)) 68 (V.gs 4 R))))))))))) (N M O D (zX (bl 9441265756976168563175 73) E))
theorem zq4(L:Nat)(D:Ls)(E A C:Int)(z F:List V)(X:St→Ob β)(K:KT β):xd zbj (zbh zn zm yO xG L) 0 L zfb (zcj D E A C z F) (zI zfT X K)=zdd yO L D E A C z F (fun G z=>K .ret (zjQ G z)) (fun D E A C z F=>X (zcj D E A C z F)) (fun D E z F=>K (.exit 0) (zk8 D E z F)):=by kernel_rfl
def zer(L:Nat)(C:Int)(A:List V)(z:List V→Int→Ob β):Ob β:=chk (0=0∧(XK A)=69∧69≠0) (z A C)
theorem zoF(L:Nat)(C:Int)(D:List V)(k:KK β):(zi 0 (yr (xd zbj (zbh zn zm yO xG L) 0 L zgG) (zy 0 (CF.res cf_block_Decode) k))) .ret (zjQ C D)=zer L C D (fun z A=>k (V.tup [(V.agg z),(Qe A)]) []):=by kernel_rfl
def zeK(L:Nat)(H:Ls)(I:Int)(A G:List V)(z:List V→Int→Ob β):Ob β:=xG β L H I (fun C=>ifb ((C:Int) != (0:Int)) (chk (69=69∧0+69≤(XK A)) (lt (yd A 0 ([(Qc (0:Int))]++We 64 (Qa (0:Int))++[(Qc (0:Int)),(Qc (0:Int)),(Qc (0:Int)),(V.sl 4 ([]:Ls))])) fun D=>chk (0=0∧(XK D)=69∧69≠0) (z D C))) (chk (0+69≤(XK G)) (zcy (XM 69 G) fun E=>chk ((XK E)=69∧0+69≤(XK A)) (lt (yd A 0 E) fun F=>chk (0=0∧(XK F)=69∧69≠0) (z F (0:Int))))))
theorem zpi(L:Nat)(C:Ls)(D:Int)(E F:List V)(k:KK β):(zi 0 (yr (xd zbj (zbh zn zm yO xG L) 0 L zgG) (zy 0 (CF.res cf_block_Decode) k))) (.exit 0) (zk8 C D E F)=zeK xG L C D E F (fun z A=>k (V.tup [(V.agg z),(Qe A)]) []):=by kernel_rfl
def zaS(L:Nat)(z:Int→List V→Ob β)(A:Ls→Int→List V→List V→Ob β):Nat→Ls→Int→Int→Int→List V→List V→Ob β
 | 0,_,_,_,_,_,_=>none
 | n+1,E,F,C,D,G,H=>zdd yO L E F C D G H z (fun E F C D G H=>zaS L z A n E F C D G H) A
theorem zhY(L:Nat)(K:KT β):∀ (n:Nat) (A:Ls) (C E F:Int) (z D:List V),yt (xd zbj (zbh zn zm yO xG L) 0 L zfb) zfT n (zcj A C E F z D) K=zaS yO L (fun G z=>K .ret (zjQ G z)) (fun A C z D=>K (.exit 0) (zk8 A C z D)) n A C E F z D:=by
 intro n; induction n <;> intros
 ·rfl
 ·exact (zq4 ..).trans (by simp only [*]; rfl)
end
def zlU{β:Type}(zn:zcg)(zm:zbt)(yO:zog)(xG:zjm)(L:Nat)(A:Ls)(z:List V→Int→Ob β):Ob β:=zrj zn zm L A z (fun A D F G C E=>zaS yO L (fun H C=>zer L H C z) (fun A D C E=>zeK xG L A D C E z) L A D F G C E)
theorem zEu{β:Type}(zn:zcg)(zm:zbt)(yO:zog)(xG:zjm)(L:Nat)(z:Ls)(k:KK β):zj zbj (zbh zn zm yO xG L) L cf_block_Decode [(V.sl 1 z)] [] k=zlU zn zm yO xG L z (fun A C=>k (V.tup [(V.agg A),(Qe C)]) []):=by
 refine (zEY zn zm yO xG L z k).trans ?_
 unfold zlU
 first
  | (simp only [zhY,zoF,zpi]; done)
  | (simp only [zhY]; rfl)
abbrev zei:=∀ (β:Type),Nat→Ls→(List V→Int→Ob β)→Ob β
def zD:zei:=fun β=>@zlU β zn zm yO xG
def zlP(zD:zei)(L:Nat):Dk:=dA (AL 1) fun C=>d0 fun β k=>zD β L C (fun z A=>k (V.tup [(V.agg z),(Qe A)]) [])
theorem zEI(L:Nat):DK (zlP zD L) (fun _=>zj zbj (zbh zn zm yO xG L) L cf_block_Decode):=xo zaV fun z=>zK fun _ k=>zEu zn zm yO xG L z k
def ztl:Hint:=⟨[],[],[none,none,none,none,none,some ((bl 1543 45),(bl 35184372088831 45)),none,some ((bl 518 45),(bl 35184372087807 45)),none,none],[],[],false,false,[]⟩
def cf_ref01_number:CF:=cfD ztl 119
def zOL:CC:=yy [1,1,1,1,0,1,0,0] cf_ref01_number.body
def zRL:CC:=yy [1,1,1,1,1] cf_ref01_number.body
def zVe:Nat→Sh:=xC [(38,(.int .u8))]
def zVz(L:Nat):CBC:=noC
def zPI:St→St:=zM 0 (bl 1543 45) (bl 35184372088831 45)
def zNe(A:Ls)(C D E z:Int):St:=⟨((V.sl 1 A)::((Qe C)::((Qe D)::(jn 6 ((Qd E)::((Qe z)::(jn 34 []))))))),(gn 45 [])⟩
def zSn(z A C:Int):St:=⟨(jn 1 ((Qe z)::((Qe A)::(jn 6 ((Qd C)::(jn 35 [])))))),(gn 45 [])⟩
section
variable {β:Type}
def zJb(L:Nat)(D:Ls)(C E:Int)(z:Int→Int→Int→Ob β)(A:Ls→Int→Int→Int→Int→Ob β):Ob β:=ifb (decide (C<(0:Int))) (z (0:Int) (0:Int) (5:Int)) (ifb (decide (C>((XK D:Nat):Int))) (z (0:Int) (0:Int) (5:Int)) (lt (QG .i64 ((((XK D:Nat):Int):Int)-C)) fun F=>ifb (decide (F<E)) (z (0:Int) (0:Int) (1:Int)) (lt (QG .i64 ((E:Int)-(1:Int))) fun G=>A D C E (0:Int) G)))
def zxU(L:Nat)(E:Ls)(C F G A:Int)(z:Ls→Int→Int→Int→Int→Ob β)(D:Int→Int→Int→Ob β):Ob β:=ifb (decide (A≥(0:Int))) (lt (zde .u64 G (8:Int)) fun H=>lt (QG .i64 ((C:Int)+A)) fun I=>idx E I fun J=>cI .u8 J 0 fun M=>lt (QG .u64 M) fun N=>lt (ior .u64 H N) fun O=>lt (QG .i64 ((A:Int)-(1:Int))) fun P=>z E C F O P) (D C F G)
def zvt(L:Nat)(A C D:Int)(z:Int→Int→Int→Ob β):Ob β:=lt (QG .i64 ((A:Int)+C)) fun E=>z D E (0:Int)
def zok(L:Nat)(z:Int→Int→Int→Ob β):Nat→Ls→Int→Int→Int→Int→Ob β
 | 0,_,_,_,_,_=>none
 | n+1,C,D,E,F,A=>zxU L C D E F A (fun C D E F A=>zok L z n C D E F A) z
end
def zKF{β:Type}(L:Nat)(D:Ls)(A C:Int)(z:Int→Int→Int→Ob β):Ob β:=zJb L D A C z (fun D A C E F=>zok L (fun A C E=>zvt L A C E z) L D A C E F)
abbrev zcY:=∀ (β:Type),Nat→Ls→Int→Int→(Int→Int→Int→Ob β)→Ob β
def zS:zcY:=fun β=>@zKF β
def zqN(zS:zcY)(L:Nat):Dk:=dA (AL 1) fun D=>dA (AI .i64) fun E=>dA (AI .i64) fun F=>d0 fun β k=>zS β L D E F (fun z A C=>k (V.tup [(Qd z),(Qe A),(Qe C)]) [])
def zyj:Hint:=⟨[(1,3)],[],[none],[],[],false,false,[]⟩
def zXF:CF:=cfD zyj 101
def zXI:Nat→Sh:=xC []
def zXv(zS:zcY)(L:Nat):CBC:=(xp 209 (zqN zS L) noC)
def zOE{β:Type}(zS:zcY)(L:Nat)(A:Ls)(C:Int)(z:Int→Int→Int→Ob β):Ob β:=zS β L A C (4:Int) (fun D E F=>lt (QG .u32 D) fun G=>z G E F)
abbrev zjq:=∀ (β:Type),Nat→Ls→Int→(Int→Int→Int→Ob β)→Ob β
def zaQ:zjq:=fun β=>@zOE β zS
def zFo(zaQ:zjq)(L:Nat):Dk:=dA (AL 1) fun D=>dA (AI .i64) fun E=>d0 fun β k=>zaQ β L D E (fun z A C=>k (V.tup [(Qc z),(Qe A),(Qe C)]) [])
def zwa:Hint:=⟨[(6,1)],[],[none,none,none,none,none],[],[],false,false,[]⟩
def zXa:CF:=cfD zwa 102
def zW3:Nat→Sh:=xC []
def zW4(L:Nat):CBC:=noC
def zNU{β:Type}(L:Nat)(C:Ls)(A:Int)(z:List V→Int→Int→Ob β):Ob β:=ifb (decide (A<(0:Int))) (lt (We 32 (Qa (0:Int))) fun E=>chk (0=0∧(XK E)=32∧32≠0) (z E (0:Int) (5:Int))) (ifb (decide (A>((XK C:Nat):Int))) (lt (We 32 (Qa (0:Int))) fun F=>chk (0=0∧(XK F)=32∧32≠0) (z F (0:Int) (5:Int))) (lt (QG .i64 ((((XK C:Nat):Int):Int)-A)) fun I=>ifb (decide (I<(32:Int))) (lt (We 32 (Qa (0:Int))) fun G=>chk (0=0∧(XK G)=32∧32≠0) (z G (0:Int) (1:Int))) (chk (0≤A∧A≤(((XK C):Nat):Int)) (lt (yd (We 32 (Qa (0:Int))) 0 (XP (XM (min (XK (XM ((XK C)-(XL A)) (XN (XL A) C))) 32) (XM ((XK C)-(XL A)) (XN (XL A) C))))) fun D=>chk (0+32≤(XK D)) (lt (QG .i64 ((A:Int)+(32:Int))) fun J=>chk ((XK (XM 32 D))=32∧0+32≤32) (lt (yd (We 32 (Qa (0:Int))) 0 (XM 32 D)) fun H=>chk (0=0∧(XK H)=32∧32≠0) (z H J (0:Int))))))))
abbrev zil:=∀ (β:Type),Nat→Ls→Int→(List V→Int→Int→Ob β)→Ob β
def zba:zil:=fun β=>@zNU β
def zBO(zba:zil)(L:Nat):Dk:=dA (AL 1) fun D=>dA (AI .i64) fun E=>d0 fun β k=>zba β L D E (fun z A C=>k (V.tup [(V.agg z),(Qe A),(Qe C)]) [])
def ztc:Hint:=⟨[(2,2),(3,2),(4,2),(5,2),(6,2),(7,2)],[],[none],[],[],false,false,[]⟩
def zVh:CF:=cfD ztc 60
def zVB:Nat→Sh:=xC []
def zVq(zaQ:zjq)(zba:zil)(L:Nat):CBC:=(xp 202 (zBO zba L) (xp 200 (zFo zaQ L) noC))
def zJz{β:Type}(zaQ:zjq)(zba:zil)(L:Nat)(z:Ls)(C:List V→Ob β):Ob β:=zaQ β L z (0:Int) (fun Q Z v2=>lt ([(Qc Q)]++We 64 (Qa (0:Int))++[(Qc (0:Int)),(Qc (0:Int)),(Qc (0:Int))]) fun H=>zba β L z (4:Int) (fun I v5 v6=>chk ((XK I)=32∧1+32≤(XK H)) (lt (yd H 1 I) fun J=>zba β L z (36:Int) (fun M v9 R=>chk ((XK M)=32∧33+32≤(XK J)) (lt (yd J 33 M) fun D=>zaQ β L z (68:Int) (fun N S T=>chk (1=1∧65+1≤(XK D)) (lt (yd D 65 [(Qc N)]) fun E=>zaQ β L z (72:Int) (fun O U W=>chk (1=1∧66+1≤(XK E)) (lt (yd E 66 [(Qc O)]) fun F=>zaQ β L z (76:Int) (fun P X Y=>chk (1=1∧67+1≤(XK F)) (lt (yd F 67 [(Qc P)]) fun A=>chk (0+68≤(XK A)) (chk ((XK (XM 68 A))=68∧0+68≤68) (lt (yd ([(Qc (0:Int))]++We 64 (Qa (0:Int))++[(Qc (0:Int)),(Qc (0:Int)),(Qc (0:Int))]) 0 (XM 68 A)) fun G=>chk (0=0∧(XK G)=68∧68≠0) (C G))))))))))))))
abbrev zh5:=∀ (β:Type),Nat→Ls→(List V→Ob β)→Ob β
def zcb:zh5:=fun β=>@zJz β zaQ zba
def zJ4(zcb:zh5)(L:Nat):Dk:=dA (AL 1) fun z=>d0 fun β k=>zcb β L z (fun z=>k (V.agg z) [])
def zwe:Hint:=⟨[(1,3),(7,4)],[],[none,none,none,none,none,none,none,none,none,none],[],[],false,false,[]⟩
def zW5:CF:=cfD zwe 69
def zW9:Nat→Sh:=xC []
def zW8(zS:zcY)(L:Nat):CBC:=(xp 209 (zqN zS L) noC)
def zM1{β:Type}(zS:zcY)(L:Nat)(F:Ls)(M D:Int)(z:Int→Int→Int→Ob β):Ob β:=zS β L F M (1:Int) (fun C G H=>ifb ((H:Int) != (0:Int)) (z (0:Int) (0:Int) H) (ifb (decide (C≥(253:Int))) (lt (QG .u64 ((C:Int)-(253:Int))) fun I=>chk (0≤I) (lt (zde .i64 (2:Int) I) fun N=>zS β L F G N (fun A E J=>ifb ((J:Int) != (0:Int)) (z (0:Int) (0:Int) J) (ifb ((C:Int)==(253:Int)) (ifb (decide (A<(253:Int))) (z (0:Int) (0:Int) (3:Int)) (ifb ((C:Int)==(254:Int)) (ifb (decide (A<(65536:Int))) (z (0:Int) (0:Int) (3:Int)) (ifb ((C:Int)==(255:Int)) (ifb (decide (A<(4294967296:Int))) (z (0:Int) (0:Int) (3:Int)) (ifb (decide (A>D)) (z (0:Int) (0:Int) (4:Int)) (z A E (0:Int)))) (ifb (decide (A>D)) (z (0:Int) (0:Int) (4:Int)) (z A E (0:Int))))) (ifb ((C:Int)==(255:Int)) (ifb (decide (A<(4294967296:Int))) (z (0:Int) (0:Int) (3:Int)) (ifb (decide (A>D)) (z (0:Int) (0:Int) (4:Int)) (z A E (0:Int)))) (ifb (decide (A>D)) (z (0:Int) (0:Int) (4:Int)) (z A E (0:Int)))))) (ifb ((C:Int)==(254:Int)) (ifb (decide (A<(65536:Int))) (z (0:Int) (0:Int) (3:Int)) (ifb ((C:Int)==(255:Int)) (ifb (decide (A<(4294967296:Int))) (z (0:Int) (0:Int) (3:Int)) (ifb (decide (A>D)) (z (0:Int) (0:Int) (4:Int)) (z A E (0:Int)))) (ifb (decide (A>D)) (z (0:Int) (0:Int) (4:Int)) (z A E (0:Int))))) (ifb ((C:Int)==(255:Int)) (ifb (decide (A<(4294967296:Int))) (z (0:Int) (0:Int) (3:Int)) (ifb (decide (A>D)) (z (0:Int) (0:Int) (4:Int)) (z A E (0:Int)))) (ifb (decide (A>D)) (z (0:Int) (0:Int) (4:Int)) (z A E (0:Int))))))))) (ifb (decide (C>D)) (z (0:Int) (0:Int) (4:Int)) (z C G (0:Int)))))
abbrev zdC:=∀ (β:Type),Nat→Ls→Int→Int→(Int→Int→Int→Ob β)→Ob β
def yW:zdC:=fun β=>@zM1 β zS
def zuR(yW:zdC)(L:Nat):Dk:=dA (AL 1) fun D=>dA (AI .i64) fun E=>dA (AI .u64) fun F=>d0 fun β k=>yW β L D E F (fun z A C=>k (V.tup [(Qd z),(Qe A),(Qe C)]) [])
def znk:Hint:=⟨[(3,9)],[],[none,none,none],[],[],false,false,[]⟩
def zQ7:CF:=cfD znk 120
def zQB:Nat→Sh:=xC []
def zRn(zaQ:zjq)(L:Nat):CBC:=(xp 200 (zFo zaQ L) noC)
def zBn{β:Type}(zaQ:zjq)(L:Nat)(z:Ls)(C D:Int)(A:Int→Ls→Int→Int→Ob β):Ob β:=ifb ((D:Int) != (0:Int)) (A (0:Int) z C D) (zaQ β L z C (fun E F G=>A E z F G))
abbrev zd9:=∀ (β:Type),Nat→Ls→Int→Int→(Int→Ls→Int→Int→Ob β)→Ob β
def zF:zd9:=fun β=>@zBn β zaQ
def zBh(zF:zd9)(L:Nat)(β:Type)(args:List V)(bor:Bor)(k:KK β):Ob β:=match args,bor with
 | [a0],[(.live false [w0_0,w0_1,w0_2])]=>aP 0 0 a0 (aL 1 w0_0 fun z=>aI .i64 w0_1 fun A=>aI .i64 w0_2 fun C=>zF β L z A C (fun D z A C=>k (Qc D) [(.live false [(V.sl 1 z),(Qe A),(Qe C)])]))
 | _,_=>none
def zmT:Hint:=⟨[(3,11)],[],[none,none,none],[],[],false,false,[]⟩
def zQ4:CF:=cfD zmT 121
def zRI:Nat→Sh:=xC []
def zRE(yW:zdC)(L:Nat):CBC:=(xp 201 (zuR yW L) noC)
def zBp{β:Type}(yW:zdC)(L:Nat)(E:Int)(z:Ls)(C D:Int)(A:Int→Ls→Int→Int→Ob β):Ob β:=ifb ((D:Int) != (0:Int)) (A (0:Int) z C D) (lt (QG .u64 E) fun F=>yW β L z C F (fun G H I=>lt (QG .i64 G) fun J=>A J z H I))
abbrev zd7:=∀ (β:Type),Nat→Int→Ls→Int→Int→(Int→Ls→Int→Int→Ob β)→Ob β
def xE:zd7:=fun β=>@zBp β yW
def zBs(xE:zd7)(L:Nat)(β:Type)(args:List V)(bor:Bor)(k:KK β):Ob β:=match args,bor with
 | [a0,a1],[(.live false [w0_0,w0_1,w0_2])]=>aP 0 0 a0 (aI .i64 a1 fun D=>aL 1 w0_0 fun z=>aI .i64 w0_1 fun A=>aI .i64 w0_2 fun C=>xE β L D z A C (fun E z A C=>k (Qe E) [(.live false [(V.sl 1 z),(Qe A),(Qe C)])]))
 | _,_=>none
def zni:Hint:=⟨[(3,9)],[],[none,none,none],[],[],false,false,[]⟩
def zRg:CF:=cfD zni 122
def zQg:Nat→Sh:=xC []
def zQk(zba:zil)(L:Nat):CBC:=(xp 202 (zBO zba L) noC)
def zBw{β:Type}(zba:zil)(L:Nat)(z:Ls)(C D:Int)(A:List V→Ls→Int→Int→Ob β):Ob β:=ifb ((D:Int) != (0:Int)) (lt (We 32 (Qa (0:Int))) fun F=>chk (0=0∧(XK F)=32∧32≠0) (A F z C D)) (zba β L z C (fun G I J=>chk ((XK G)=32∧0+32≤32) (lt (yd (We 32 (Qa (0:Int))) 0 G) fun E=>chk (0+32≤(XK E)) (chk ((XK (XM 32 E))=32∧0+32≤32) (lt (yd (We 32 (Qa (0:Int))) 0 (XM 32 E)) fun H=>chk (0=0∧(XK H)=32∧32≠0) (A H z I J))))))
abbrev zd5:=∀ (β:Type),Nat→Ls→Int→Int→(List V→Ls→Int→Int→Ob β)→Ob β
def zai:zd5:=fun β=>@zBw β zba
def zBr(zai:zd5)(L:Nat)(β:Type)(args:List V)(bor:Bor)(k:KK β):Ob β:=match args,bor with
 | [a0],[(.live false [w0_0,w0_1,w0_2])]=>aP 0 0 a0 (aL 1 w0_0 fun z=>aI .i64 w0_1 fun A=>aI .i64 w0_2 fun C=>zai β L z A C (fun D z A C=>k (V.agg D) [(.live false [(V.sl 1 z),(Qe A),(Qe C)])]))
 | _,_=>none
def zxO:Hint:=⟨[],[],[none],[],[],false,false,[]⟩
def zXE:CF:=cfD zxO 181
def zXU:Nat→Sh:=xC []
def zYL(zS:zcY)(L:Nat):CBC:=(xp 209 (zqN zS L) noC)
def zOA{β:Type}(zS:zcY)(L:Nat)(A:Ls)(C:Int)(z:Int→Int→Int→Ob β):Ob β:=zS β L A C (8:Int) (fun D E F=>z D E F)
abbrev zrH:=∀ (β:Type),Nat→Ls→Int→(Int→Int→Int→Ob β)→Ob β
def zhA:zrH:=fun β=>@zOA β zS
def zOS(zhA:zrH)(L:Nat):Dk:=dA (AL 1) fun D=>dA (AI .i64) fun E=>d0 fun β k=>zhA β L D E (fun z A C=>k (V.tup [(Qd z),(Qe A),(Qe C)]) [])
def zm4:Hint:=⟨[(3,9)],[],[none,none,none],[],[],false,false,[]⟩
def zQs:CF:=cfD zm4 160
def zQP:Nat→Sh:=xC []
def zQQ(zhA:zrH)(L:Nat):CBC:=(xp 210 (zOS zhA L) noC)
def zA9{β:Type}(zhA:zrH)(L:Nat)(z:Ls)(C D:Int)(A:Int→Ls→Int→Int→Ob β):Ob β:=ifb ((D:Int) != (0:Int)) (A (0:Int) z C D) (zhA β L z C (fun E F G=>A E z F G))
abbrev zgA:=∀ (β:Type),Nat→Ls→Int→Int→(Int→Ls→Int→Int→Ob β)→Ob β
def zbE:zgA:=fun β=>@zA9 β zhA
def zBq(zbE:zgA)(L:Nat)(β:Type)(args:List V)(bor:Bor)(k:KK β):Ob β:=match args,bor with
 | [a0],[(.live false [w0_0,w0_1,w0_2])]=>aP 0 0 a0 (aL 1 w0_0 fun z=>aI .i64 w0_1 fun A=>aI .i64 w0_2 fun C=>zbE β L z A C (fun D z A C=>k (Qd D) [(.live false [(V.sl 1 z),(Qe A),(Qe C)])]))
 | _,_=>none
def ztt:Hint:=⟨[(0,0),(1,6),(2,0),(2,5)],[],[none],[],[],false,false,[]⟩
def zVd:CF:=cfD ztt 105
def zVk:Nat→Sh:=xC []
def zVy(L:Nat):CBC:=noC
def zJw{β:Type}(L:Nat)(z A:Ls)(C:Ls→Ob β):Ob β:=lt (QG .i64 ((((XK z:Nat):Int):Int)+((XK A:Nat):Int))) fun D=>chk (0≤(0:Int)∧(0:Int)≤D∧(XL D)*1≤xf∧D≤xf) (chk ((XK (We 0 [(Qa (0:Int))])+XK z)*1≤xf∧XK (We 0 [(Qa (0:Int))])+XK z≤xf) (lt ((We 0 [(Qa (0:Int))])++z) fun E=>chk ((XK E+XK A)*1≤xf∧XK E+XK A≤xf) (lt (E++A) fun F=>C F)))
abbrev zlR:=∀ (β:Type),Nat→Ls→Ls→(Ls→Ob β)→Ob β
def zeh:zlR:=fun β=>@zJw β
def zJ2(zeh:zlR)(L:Nat):Dk:=dA (AL 1) fun z=>dA (AL 1) fun A=>d0 fun β k=>zeh β L z A (fun z=>k (V.gs 1 z) [])
def zu4:Hint:=⟨[(0,0),(2,0),(3,5),(5,1),(7,0),(8,0),(8,12)],[],[none,none,none,none,none,none,none],[],[],false,false,[]⟩
def zWp:CF:=cfD zu4 161
def zV5:Nat→Sh:=xC []
def zV9(yW:zdC)(zeh:zlR)(L:Nat):CBC:=(xp 193 (zJ2 zeh L) (xp 201 (zuR yW L) noC))
def zMa{β:Type}(yW:zdC)(zeh:zlR)(L:Nat)(C:Ls)(I F:Int)(z:Ls→Int→Int→Ob β):Ob β:=ifb (decide (F<(0:Int))) (z ([]:Ls) (0:Int) (5:Int)) (lt (QG .u64 F) fun J=>yW β L C I J (fun E A G=>ifb ((G:Int) != (0:Int)) (z ([]:Ls) (0:Int) G) (lt (QG .i64 ((((XK C:Nat):Int):Int)-A)) fun M=>lt (QG .u64 M) fun N=>ifb (decide (N<E)) (z ([]:Ls) (0:Int) (1:Int)) (lt (QG .i64 E) fun O=>lt (QG .i64 ((A:Int)+O)) fun D=>chk (0≤D∧D≤(((XK C):Nat):Int)) (chk (0≤A∧A≤(((XL D):Nat):Int)) (zeh β L ([]:Ls) (XM ((XL D)-(XL A)) (XN (XL A) C)) (fun P=>lt (QG .i64 E) fun Q=>lt (QG .i64 ((A:Int)+Q)) fun H=>z P H (0:Int))))))))
abbrev znJ:=∀ (β:Type),Nat→Ls→Int→Int→(Ls→Int→Int→Ob β)→Ob β
def ze9:znJ:=fun β=>@zMa β yW zeh
def zL4(ze9:znJ)(L:Nat):Dk:=dA (AL 1) fun D=>dA (AI .i64) fun E=>dA (AI .i64) fun F=>d0 fun β k=>ze9 β L D E F (fun z A C=>k (V.tup [(V.gs 1 z),(Qe A),(Qe C)]) [])
def zl5:Hint:=⟨[(0,0),(2,0),(3,10),(3,14),(5,0),(5,1)],[],[none,none,none],[],[],false,false,[]⟩
def zPF:CF:=cfD zl5 124
def zP4:Nat→Sh:=xC []
def zPL(ze9:znJ)(L:Nat):CBC:=(xp 204 (zL4 ze9 L) noC)
def zAj{β:Type}(ze9:znJ)(L:Nat)(F:Int)(z:Ls)(C D:Int)(E:Ls→Ls→Int→Int→Ob β)(A:Ls→Ls→Int→Int→Ob β):Ob β:=ifb ((D:Int) != (0:Int)) (E ([]:Ls) z C D) (ze9 β L z C F (fun G H I=>A G z H I))
abbrev zbq:=∀ (β:Type),Nat→Int→Ls→Int→Int→(Ls→Ls→Int→Int→Ob β)→(Ls→Ls→Int→Int→Ob β)→Ob β
def yw:zbq:=fun β=>@zAj β ze9
def zpw(yw:zbq)(L:Nat)(β:Type)(args:List V)(bor:Bor)(k:KK β):Ob β:=match args,bor with
 | [a0,a1],[(.live false [w0_0,w0_1,w0_2])]=>aP 0 0 a0 (aI .i64 a1 fun E=>aL 1 w0_0 fun z=>aI .i64 w0_1 fun A=>aI .i64 w0_2 fun C=>yw β L E z A C (fun D z A C=>k (V.gs 1 D) [(.live false [(V.sl 1 z),(Qe A),(Qe C)])]) (fun D z A C=>k (V.sl 1 D) [(.live false [(V.sl 1 z),(Qe A),(Qe C)])]))
 | _,_=>none
def zli:Hint:=⟨[(0,0)],[],[none,none],[],[],false,false,[]⟩
def zOP:CF:=cfD zli 123
def zOZ:Nat→Sh:=xC []
def zOJ(zbE:zgA)(yw:zbq)(L:Nat):CBC:=(xp 178 (zpw yw L) (xp 203 (zBq zbE L) noC))
def zy4{β:Type}(zbE:zgA)(yw:zbq)(L:Nat)(J:Ls)(M N:Int)(z:List V→Ls→Int→Int→Ob β):Ob β:=zbE β L J M N (fun A O P Q=>ifb ((Q:Int)==(0:Int)) (ifb (decide (A≥(9223372036854775808:Int))) (lt (QG .i64 A) fun R=>yw β L (520:Int) O P (90:Int) (fun v5 v6 v7 v8=>lt [(Qe R),(V.sl 1 v5)] fun S=>chk (0=0∧(XK S)=2∧2≠0) (z S v6 v7 v8)) (fun T U W X=>lt [(Qe R),(V.sl 1 T)] fun C=>chk (0=0∧(XK C)=2∧2≠0) (z C U W X))) (lt (QG .i64 A) fun D=>yw β L (520:Int) O P Q (fun Y Z aa ab=>lt [(Qe D),(V.sl 1 Y)] fun E=>chk (0=0∧(XK E)=2∧2≠0) (z E Z aa ab)) (fun ac ad ae af=>lt [(Qe D),(V.sl 1 ac)] fun F=>chk (0=0∧(XK F)=2∧2≠0) (z F ad ae af)))) (lt (QG .i64 A) fun G=>yw β L (520:Int) O P Q (fun ag ah ai aj=>lt [(Qe G),(V.sl 1 ag)] fun H=>chk (0=0∧(XK H)=2∧2≠0) (z H ah ai aj)) (fun ak al am an=>lt [(Qe G),(V.sl 1 ak)] fun I=>chk (0=0∧(XK I)=2∧2≠0) (z I al am an))))
abbrev zc0:=∀ (β:Type),Nat→Ls→Int→Int→(List V→Ls→Int→Int→Ob β)→Ob β
def xT:zc0:=fun β=>@zy4 β zbE yw
def zys(xT:zc0)(L:Nat)(β:Type)(args:List V)(bor:Bor)(k:KK β):Ob β:=match args,bor with
 | [a0],[(.live false [w0_0,w0_1,w0_2])]=>aP 0 0 a0 (aL 1 w0_0 fun z=>aI .i64 w0_1 fun A=>aI .i64 w0_2 fun C=>xT β L z A C (fun D z A C=>k (V.agg D) [(.live false [(V.sl 1 z),(Qe A),(Qe C)])]))
 | _,_=>none
def zvG:Hint:=⟨[(0,0),(8,6),(10,1),(14,1),(22,8),(4,2)],[],[none,none,none,some ((bl 914 148),(bl 356811923176489970264571492253073532201729023 148)),none,some ((bl 402 148),(bl 356811923176489970264571492253073532201728511 148)),none,none,some ((bl 2450 148),(bl 356811923176489970264439266100853434029702143 148)),none,some ((bl 402 148),(bl 356811923176489970264439266100853434029700095 148)),none,none,some ((bl 33849922949209616891773330 148),(bl 356811923167403450452650534191100346794757119 148)),none,some ((bl 4835703278458516698825106 148),(bl 356811923167403450452650534191100346794757119 148)),none,none,some ((bl 33849922949209616891785618 148),(bl 356811923167403450762135544012445415519550463 148)),none,some ((bl 33849922949209616891773330 148),(bl 356811923167403450762135544012445415519542271 148)),none,none,none,none,none],[(28,[100082])],[(3,2,[0]),(4,2,[0]),(8,5,[0]),(4,3,[1]),(4,4,[1]),(10,4,[0]),(16,1,[1]),(28,0,[1,1])],false,false,[(22,82)]⟩
def cf_ref09_Read:CF:=cfD zvG 70
def zGZ:CC:=yy [1,1,1,1,1,1,1,0,1,0,0,1,1,0,0,1,1,0,0] cf_ref09_Read.body
def zLP:CC:=yy [1,1,1,1,1,1,1,0,1,0,0,1,1,1] cf_ref09_Read.body
def zOy:CC:=yy [1,1,1,1,1,1,1,0,1,0,0] cf_ref09_Read.body
def zQf:CC:=yy [1,1,1,1,1,0,1,0,0] cf_ref09_Read.body
def zRf:CC:=yy [1,1,1,1,0,1,0,0] cf_ref09_Read.body
def zQH:CC:=yy [1,1,1,1,1,1,1,1] cf_ref09_Read.body
def zS9:CC:=yy [1,1,1,1,1,1] cf_ref09_Read.body
def zTt:CC:=yy [1,1,1,1,1] cf_ref09_Read.body
def zW7:Nat→Sh:=xC [(108,(.gs 1))]
def zW6(zF:zd9)(xE:zd7)(zai:zd5)(xT:zc0)(yw:zbq)(L:Nat):CBC:=(xp 178 (zpw yw L) (xp 177 (zys xT L) (xp 176 (zBr zai L) (xp 175 (zBs xE L) (xp 174 (zBh zF L) noC)))))
def zRM:St→St:=zM 0 (bl 914 148) (bl 356811923176489970264571492253073532201729023 148)
def zQn:St→St:=zM 0 (bl 2450 148) (bl 356811923176489970264439266100853434029702143 148)
def zOW:St→St:=zM 0 (bl 33849922949209616891773330 148) (bl 356811923167403450452650534191100346794757119 148)
def zG7:St→St:=zM 0 (bl 33849922949209616891785618 148) (bl 356811923167403450762135544012445415519550463 148)
def zON(N O D:Int)(E F:Ls)(G H:Int)(I J:Ls)(M:Int)(z:Ls)(A C:Int):St:=⟨(jn 1 ((Qe N)::(jn 2 ((V.ptr 4 0)::(jn 2 ((V.ptr 26 0)::((V.ptr 8 0)::((Qe O)::(jn 138 []))))))))),(gn 4 ((.live true [(Qc D),(V.gs 35 E),(V.gs 2 F),(Qc G)])::(gn 3 ((.live false [(Qc H),(V.fr 35 I),(V.gs 2 J),(Qc M)])::(gn 17 ((.live false [(V.sl 1 z),(Qe A),(Qe C)])::(gn 121 [])))))))⟩
def zUo(N D:Int)(E F:Ls)(G H:Int)(I J:Ls)(M:Int)(z:Ls)(A C:Int):St:=⟨(jn 1 ((Qe N)::(jn 2 ((V.ptr 4 0)::(jn 2 ((V.ptr 26 0)::((V.ptr 8 0)::(jn 139 [])))))))),(gn 4 ((.live true [(Qc D),(V.gs 35 E),(V.gs 2 F),(Qc G)])::(gn 3 ((.live false [(Qc H),(V.fr 35 I),(V.gs 2 J),(Qc M)])::(gn 17 ((.live false [(V.sl 1 z),(Qe A),(Qe C)])::(gn 121 [])))))))⟩
def zOw(O N D:Int)(E F:Ls)(G H:Int)(I J:Ls)(M:Int)(z:Ls)(A C:Int):St:=⟨(jn 1 ((Qe O)::(jn 2 ((V.ptr 4 0)::(jn 2 ((V.ptr 26 0)::((V.ptr 8 0)::(jn 2 ((Qe N)::(jn 136 [])))))))))),(gn 4 ((.live true [(Qc D),(V.gs 35 E),(V.gs 2 F),(Qc G)])::(gn 3 ((.live false [(Qc H),(V.fr 35 I),(V.gs 2 J),(Qc M)])::(gn 17 ((.live false [(V.sl 1 z),(Qe A),(Qe C)])::(gn 121 [])))))))⟩
def zT9(N D:Int)(E F:Ls)(G H:Int)(I J:Ls)(M:Int)(z:Ls)(A C:Int):St:=⟨(jn 1 ((Qe N)::(jn 2 ((V.ptr 4 0)::(jn 2 ((V.ptr 26 0)::((V.ptr 8 0)::(jn 139 [])))))))),(gn 4 ((.live true [(Qc D),(V.gs 35 E),(V.gs 2 F),(Qc G)])::(gn 3 ((.live false [(Qc H),(V.fr 35 I),(V.gs 2 J),(Qc M)])::(gn 17 ((.live false [(V.sl 1 z),(Qe A),(Qe C)])::(gn 121 [])))))))⟩
def zMo(R:Int)(E:Nat)(O P F:Int)(G H:Ls)(I J:Int)(z:Nat)(M:Ls)(N:Int)(A:Ls)(C D:Int)(Q:List V):St:=⟨(jn 1 ((Qe R)::(jn 2 ((V.ptr 4 0)::(jn 2 ((V.ptr 26 0)::((V.ptr 8 0)::(jn 73 ((V.own 82 0 E 35)::((Qe O)::((Qe P)::(jn 63 [])))))))))))),(gn 4 ((.live true [(Qc F),(V.gs 35 G),(V.gs 2 H),(Qc I)])::(gn 3 ((.live false [(Qc J),(V.own 82 0 z 35),(V.gs 2 M),(Qc N)])::(gn 17 ((.live false [(V.sl 1 A),(Qe C),(Qe D)])::(gn 55 ((.live false Q)::(gn 65 [])))))))))⟩
def zFq(T O P:Int)(E:Nat)(Q R F:Int)(G H:Ls)(I J:Int)(z:Nat)(M:Ls)(N:Int)(A:Ls)(C D:Int)(S:List V):St:=⟨(jn 1 ((Qe T)::(jn 2 ((V.ptr 4 0)::(jn 2 ((V.ptr 26 0)::((V.ptr 8 0)::(jn 3 ((Qe O)::((Qe P)::(jn 68 ((V.own 82 0 E 35)::((Qe Q)::((Qe R)::(jn 63 []))))))))))))))),(gn 4 ((.live true [(Qc F),(V.gs 35 G),(V.gs 2 H),(Qc I)])::(gn 3 ((.live false [(Qc J),(V.own 82 0 z 35),(V.gs 2 M),(Qc N)])::(gn 17 ((.live false [(V.sl 1 A),(Qe C),(Qe D)])::(gn 55 ((.live false S)::(gn 65 [])))))))))⟩
def zUD(P:Int)(E:Nat)(F:Int)(G H:Ls)(I J:Int)(z:Nat)(M:Ls)(N:Int)(A:Ls)(C D:Int)(O:List V):St:=⟨(jn 1 ((Qe P)::(jn 2 ((V.ptr 4 0)::(jn 2 ((V.ptr 26 0)::((V.ptr 8 0)::(jn 73 ((V.own 82 0 E 35)::(jn 65 [])))))))))),(gn 4 ((.live true [(Qc F),(V.gs 35 G),(V.gs 2 H),(Qc I)])::(gn 3 ((.live false [(Qc J),(V.own 82 0 z 35),(V.gs 2 M),(Qc N)])::(gn 17 ((.live false [(V.sl 1 A),(Qe C),(Qe D)])::(gn 55 ((.live false O)::(gn 65 [])))))))))⟩
def zT6(R:Int)(E:Nat)(O P F:Int)(G H:Ls)(I J:Int)(z:Nat)(M:Ls)(N:Int)(A:Ls)(C D:Int)(Q:List V):St:=⟨(jn 1 ((Qe R)::(jn 2 ((V.ptr 4 0)::(jn 2 ((V.ptr 26 0)::((V.ptr 8 0)::(jn 73 ((V.own 82 0 E 35)::((Qe O)::((Qe P)::(jn 63 [])))))))))))),(gn 4 ((.live true [(Qc F),(V.gs 35 G),(V.gs 2 H),(Qc I)])::(gn 3 ((.live false [(Qc J),(V.own 82 0 z 35),(V.gs 2 M),(Qc N)])::(gn 17 ((.live false [(V.sl 1 A),(Qe C),(Qe D)])::(gn 55 ((.live false Q)::(gn 65 [])))))))))⟩
abbrev zps(β:Type):Type:=Int→Int→Int→Ls→Ls→Int→Int→Ls→Ls→Int→Ls→Int→Int→Ob β
abbrev zxI(β:Type):Type:=Int→Int→Ls→Ls→Int→Int→Ls→Ls→Int→Ls→Int→Int→Ob β
abbrev zoy(β:Type):Type:=Int→Int→Int→Ls→Ls→Int→Int→Ls→Ls→Int→Ls→Int→Int→Ob β
abbrev zxH(β:Type):Type:=Int→Int→Ls→Ls→Int→Int→Ls→Ls→Int→Ls→Int→Int→Ob β
abbrev zgQ(β:Type):Type:=Int→Nat→Int→Int→Int→Ls→Ls→Int→Int→Nat→Ls→Int→Ls→Int→Int→List V→Ob β
abbrev zgF(β:Type):Type:=Int→Int→Int→Nat→Int→Int→Int→Ls→Ls→Int→Int→Nat→Ls→Int→Ls→Int→Int→List V→Ob β
abbrev zq3(β:Type):Type:=Int→Nat→Int→Ls→Ls→Int→Int→Nat→Ls→Int→Ls→Int→Int→List V→Ob β
abbrev zxS(β:Type):Type:=Int→Nat→Int→Int→Int→Ls→Ls→Int→Int→Nat→Ls→Int→Ls→Int→Int→List V→Ob β
section
variable {β:Type} (zF:zd9) (xE:zd7) (zai:zd5) (xT:zc0) (yw:zbq)
def zNI(L:Nat)(D:Ls)(C:Int)(A:List V→Int→Int→Ob β)(z:zps β):Ob β:=ifb (decide (C<(0:Int))) (lt [(Qc (0:Int)),(V.sl 35 ([]:Ls)),(V.sl 2 ([]:Ls)),(Qc (0:Int))] fun E=>chk (0=0∧(XK E)=4∧4≠0) (A E (0:Int) (5:Int))) (ifb (decide (C>((XK D:Nat):Int))) (lt [(Qc (0:Int)),(V.sl 35 ([]:Ls)),(V.sl 2 ([]:Ls)),(Qc (0:Int))] fun F=>chk (0=0∧(XK F)=4∧4≠0) (A F (0:Int) (5:Int))) (zF β L D C (0:Int) (fun G H I J=>xE β L (64:Int) H I J (fun M N O P=>z C M (0:Int) ([]:Ls) ([]:Ls) (0:Int) G ([]:Ls) ([]:Ls) (0:Int) N O P))))
def zBx(L:Nat)(T U H:Int)(I J:Ls)(M N:Int)(z O:Ls)(P:Int)(D:Ls)(E A:Int)(F:zps β)(Q:zxI β):Ob β:=ifb (decide (U>(0:Int))) (ifb ((A:Int)==(0:Int)) (zai β L D E A (fun G W X Y=>zF β L W X Y (fun R Z aa ab=>chk ((XK G)=32∧0+32≤33) (chk (1=1∧32+1≤(XK (yd (We 32 (Qa (0:Int))++[(Qc (0:Int))]) 0 G))) (chk ((XK (yd (yd (We 32 (Qa (0:Int))++[(Qc (0:Int))]) 0 G) 32 [(Qc R)]))=33∧0+33≤35) (chk ((XK (yd (We 32 (Qa (0:Int))++[(Qc (0:Int)),(Qc (0:Int)),(V.gs 1 ([]:Ls))]) 0 (yd (yd (We 32 (Qa (0:Int))++[(Qc (0:Int))]) 0 G) 32 [(Qc R)])))=35∧0+35≤35) (lt (yd (We 32 (Qa (0:Int))++[(Qc (0:Int)),(Qc (0:Int)),(V.gs 1 ([]:Ls))]) 0 (yd (We 32 (Qa (0:Int))++[(Qc (0:Int)),(Qc (0:Int)),(V.gs 1 ([]:Ls))]) 0 (yd (yd (We 32 (Qa (0:Int))++[(Qc (0:Int))]) 0 G) 32 [(Qc R)]))) fun S=>zF β L Z aa ab (fun ac ad ae af=>chk (1=1∧33+1≤(XK S)) (lt (yd S 33 [(Qc ac)]) fun C=>chk (0+35≤(XK C)) (chk ((XK (XM 35 C))=35∧0+35≤35) (chk ((XK z+XK (zf 35 1 (yd (We 32 (Qa (0:Int))++[(Qc (0:Int)),(Qc (0:Int)),(V.sl 1 ([]:Ls))]) 0 (XM 35 C))))*64≤xf∧XK z+XK (zf 35 1 (yd (We 32 (Qa (0:Int))++[(Qc (0:Int)),(Qc (0:Int)),(V.sl 1 ([]:Ls))]) 0 (XM 35 C)))≤xf∧XK z+XK (zf 35 1 (yd (We 32 (Qa (0:Int))++[(Qc (0:Int)),(Qc (0:Int)),(V.sl 1 ([]:Ls))]) 0 (XM 35 C)))≠0) (lt (z++(zf 35 1 (yd (We 32 (Qa (0:Int))++[(Qc (0:Int)),(Qc (0:Int)),(V.sl 1 ([]:Ls))]) 0 (XM 35 C)))) fun ag=>lt (QG .i64 ((U:Int)-(1:Int))) fun ah=>F T ah H I J M N ag O P ad ae af)))))))))))) (Q T H I J M N z O P D E A)) (Q T H I J M N z O P D E A)
def zyR(L:Nat)(S E:Int)(F G:Ls)(H I:Int)(J M:Ls)(N:Int)(A:Ls)(C D:Int)(z:zoy β):Ob β:=xE β L (64:Int) A C D (fun O P Q R=>z S O E F G H I J M N P Q R)
def zz8(L:Nat)(R Q F:Int)(G H:Ls)(I J:Int)(M A:Ls)(N:Int)(D:Ls)(E z:Int)(C:zoy β)(P:zxH β):Ob β:=ifb (decide (Q>(0:Int))) (ifb ((z:Int)==(0:Int)) (xT β L D E z (fun O S T U=>chk ((XK O)=2∧0+2≤2) (chk ((XK A+XK (zf 2 1 (yd [(Qe (0:Int)),(V.sl 1 ([]:Ls))] 0 O)))*32≤xf∧XK A+XK (zf 2 1 (yd [(Qe (0:Int)),(V.sl 1 ([]:Ls))] 0 O))≤xf) (lt (A++(zf 2 1 (yd [(Qe (0:Int)),(V.sl 1 ([]:Ls))] 0 O))) fun W=>lt (QG .i64 ((Q:Int)-(1:Int))) fun X=>C R X F G H I J M W N S T U)))) (P R F G H I J M A N D E z)) (P R F G H I J M A N D E z)
def zwx(L:Nat)(S F:Int)(G H:Ls)(I J:Int)(A M:Ls)(T:Int)(C:Ls)(D E:Int)(z:zgQ β):Ob β:=zF β L C D E (fun N O P Q=>lt (XP A) fun R=>z S (XK A) (((XK A):Nat):Int) (0:Int) F G H I J (XK A) M N O P Q (zX (bl 356811923167403450452650534191100346794757119 148) R))
def zw8(L:Nat)(T:Int)(F:Nat)(Q G H:Int)(I J:Ls)(M N:Int)(A:Nat)(O:Ls)(P:Int)(C:Ls)(D E:Int)(R:List V)(z:zgF β)(S:zq3 β):Ob β:=ifb (decide (G<Q)) (xE β L (32:Int) C D E (fun U W X Y=>z T G U F Q G H I J M N A O P W X Y (zX (bl 356811923167403450762135544012445415519550463 148) R))) (S T F H I J M N A O P C D E (zX (bl 356811923167403450452650534191100346794757119 148) R))
def zui(L:Nat)(p1:Int)(ab:Nat)(ac:Int)(ad ae:Ls)(af E:Int)(D:Nat)(F:Ls)(G:Int)(Z:Ls)(A C:Int)(H:List V)(z:List V→Int→Int→Ob β):Ob β:=ifb ((C:Int)==(0:Int)) (lt (QG .i64 ((A:Int)-p1)) fun R=>ifb (decide (R>(20000:Int))) (lt [(Qc (0:Int)),(V.sl 35 ([]:Ls)),(V.sl 2 ([]:Ls)),(Qc (0:Int))] fun I=>chk (0=0∧(XK I)=4∧4≠0) (z I (0:Int) (4:Int))) (ifb ((C:Int) != (0:Int)) (lt [(Qc (0:Int)),(V.sl 35 ([]:Ls)),(V.sl 2 ([]:Ls)),(Qc (0:Int))] fun J=>chk (0=0∧(XK J)=4∧4≠0) (z J (0:Int) C)) (lc H (chk (D=0) (lt [(Qc E),(V.sl 35 ([]:Ls)),(V.sl 2 F),(Qc G)] fun M=>chk (0=0∧(XK M)=4∧4≠0) (z M A (0:Int)))) (fun S T=>zcy (S::T) fun U=>lt [(Qc E),(V.sl 35 (zf 35 D U)),(V.sl 2 F),(Qc G)] fun N=>chk (0=0∧(XK N)=4∧4≠0) (z N A (0:Int)))))) (ifb ((C:Int) != (0:Int)) (lt [(Qc (0:Int)),(V.sl 35 ([]:Ls)),(V.sl 2 ([]:Ls)),(Qc (0:Int))] fun O=>chk (0=0∧(XK O)=4∧4≠0) (z O (0:Int) C)) (lc H (chk (D=0) (lt [(Qc E),(V.sl 35 ([]:Ls)),(V.sl 2 F),(Qc G)] fun P=>chk (0=0∧(XK P)=4∧4≠0) (z P A (0:Int)))) (fun W X=>zcy (W::X) fun Y=>lt [(Qc E),(V.sl 35 (zf 35 D Y)),(V.sl 2 F),(Qc G)] fun Q=>chk (0=0∧(XK Q)=4∧4≠0) (z Q A (0:Int)))))
def zqc(L:Nat)(Z A U:Int)(G:Nat)(S T H:Int)(I J:Ls)(M N:Int)(C:Nat)(O:Ls)(P:Int)(Q:Ls)(R E:Int)(F:List V)(z:zgF β)(W:zxS β):Ob β:=ifb (decide (U>(0:Int))) (ifb ((E:Int)==(0:Int)) (chk (0≤A∧A<((C:Nat):Int)) (cG 1 F ((0+((XL A)*35))+34) fun D=>yw β L (520:Int) Q R E (fun X aa ab ac=>chk ((XK D+XK (zf 1 1 [(V.sl 1 X)]))*24≤xf∧XK D+XK (zf 1 1 [(V.sl 1 X)])≤xf) (lt (D++(zf 1 1 [(V.sl 1 X)])) fun ad=>chk (0≤A∧A<((C:Nat):Int)) (chk (1=1∧((0+((XL A)*35))+34)<(XK (XR F ((0+((XL A)*35))+34) (V.sl 1 D)))) (lt (QG .i64 ((U:Int)-(1:Int))) fun ae=>z Z A ae G S T H I J M N C O P aa ab ac (zX (bl 356811923167403450762135544012445415519550463 148) (XR (XR F ((0+((XL A)*35))+34) (V.sl 1 D)) ((0+((XL A)*35))+34) (V.gs 1 ad))))))) (fun Y af ag ah=>chk ((XK D+XK (zf 1 1 [(V.sl 1 Y)]))*24≤xf∧XK D+XK (zf 1 1 [(V.sl 1 Y)])≤xf) (lt (D++(zf 1 1 [(V.sl 1 Y)])) fun ai=>chk (0≤A∧A<((C:Nat):Int)) (chk (1=1∧((0+((XL A)*35))+34)<(XK (XR F ((0+((XL A)*35))+34) (V.sl 1 D)))) (lt (QG .i64 ((U:Int)-(1:Int))) fun aj=>z Z A aj G S T H I J M N C O P af ag ah (zX (bl 356811923167403450762135544012445415519550463 148) (XR (XR F ((0+((XL A)*35))+34) (V.sl 1 D)) ((0+((XL A)*35))+34) (V.gs 1 ai))))))))) (W Z G S T H I J M N C O P Q R E (zX (bl 356811923167403450762135544012445415519542271 148) F))) (W Z G S T H I J M N C O P Q R E (zX (bl 356811923167403450762135544012445415519542271 148) F))
def znS(L:Nat)(T:Int)(F:Nat)(P Q G:Int)(H I:Ls)(J M:Int)(A:Nat)(N:Ls)(O:Int)(C:Ls)(D E:Int)(R:List V)(z:zgQ β):Ob β:=lt (QG .i64 ((Q:Int)+(1:Int))) fun S=>z T F P S G H I J M A N O C D E (zX (bl 356811923167403450452650534191100346794757119 148) R)
def zqv(L:Nat)(N:zxI β):Nat→Int→Int→Int→Ls→Ls→Int→Int→Ls→Ls→Int→Ls→Int→Int→Ob β
 | 0,_,_,_,_,_,_,_,_,_,_,_,_,_=>none
 | n+1,O,P,D,E,F,G,H,I,J,M,z,A,C=>zBx zF zai L O P D E F G H I J M z A C (fun O P D E F G H I J M z A C=>zqv L N n O P D E F G H I J M z A C) N
def zo3(L:Nat)(N:zxH β):Nat→Int→Int→Int→Ls→Ls→Int→Int→Ls→Ls→Int→Ls→Int→Int→Ob β
 | 0,_,_,_,_,_,_,_,_,_,_,_,_,_=>none
 | n+1,P,O,D,E,F,G,H,I,J,M,z,A,C=>zz8 xT L P O D E F G H I J M z A C (fun P O D E F G H I J M z A C=>zo3 L N n P O D E F G H I J M z A C) N
def zha(L:Nat)(O:zxS β):Nat→Int→Int→Int→Nat→Int→Int→Int→Ls→Ls→Int→Int→Nat→Ls→Int→Ls→Int→Int→List V→Ob β
 | 0,_,_,_,_,_,_,_,_,_,_,_,_,_,_,_,_,_,_=>none
 | n+1,U,P,Q,E,R,S,F,G,H,I,J,z,M,N,A,C,D,T=>zqc yw L U P Q E R S F G H I J z M N A C D T (fun U P Q E R S F G H I J z M N A C D T=>zha L O n U P Q E R S F G H I J z M N A C D T) O
def zvs(L:Nat)(S:Int)(F:Nat)(P Q G:Int)(H I:Ls)(J M:Int)(z:Nat)(N:Ls)(O:Int)(A:Ls)(C D:Int)(R:List V)(T:zq3 β)(E:zgQ β):Ob β:=zw8 xE L S F P Q G H I J M z N O A C D R (fun S U W F P Q G H I J M z N O A C D R=>zha yw L (fun S F P Q G H I J M z N O A C D R=>znS L S F P Q G H I J M z N O A C D R E) L S U W F P Q G H I J M z N O A C D R) T
def zm6(L:Nat)(O:zq3 β):Nat→Int→Nat→Int→Int→Int→Ls→Ls→Int→Int→Nat→Ls→Int→Ls→Int→Int→List V→Ob β
 | 0,_,_,_,_,_,_,_,_,_,_,_,_,_,_,_,_=>none
 | n+1,S,E,P,Q,F,G,H,I,J,z,M,N,A,C,D,R=>zvs xE yw L S E P Q F G H I J z M N A C D R O (fun S E P Q F G H I J z M N A C D R=>zm6 L O n S E P Q F G H I J z M N A C D R)
def zvv(L:Nat)(O D:Int)(E F:Ls)(G H:Int)(R I:Ls)(J:Int)(z:Ls)(A C:Int)(Q:List V→Int→Int→Ob β):Ob β:=zwx zF L O D E F G H R I J z A C (fun O N S T D E F G H M I J z A C P=>zm6 xE yw L (fun O N D E F G H M I J z A C P=>zui L O N D E F G H M I J z A C P Q) L O N S T D E F G H M I J z A C P)
def zwt(L:Nat)(N D:Int)(E F:Ls)(G H:Int)(I J:Ls)(M:Int)(z:Ls)(A C:Int)(O:List V→Int→Int→Ob β):Ob β:=zyR xE L N D E F G H I J M z A C (fun N P D E F G H I J M z A C=>zo3 xT L (fun N D E F G H I J M z A C=>zvv zF xE yw L N D E F G H I J M z A C O) L N P D E F G H I J M z A C)
end
def zOr{β:Type}(zF:zd9)(xE:zd7)(zai:zd5)(xT:zc0)(yw:zbq)(L:Nat)(P:Ls)(O:Int)(N:List V→Int→Int→Ob β):Ob β:=zNI zF xE L P O N (fun O Q D E F G H I J M z A C=>zqv zF zai L (fun O D E F G H I J M z A C=>zwt zF xE xT yw L O D E F G H I J M z A C N) L O Q D E F G H I J M z A C)
abbrev zlk:=∀ (β:Type),Nat→Ls→Int→(List V→Int→Int→Ob β)→Ob β
def zcJ:zlk:=fun β=>@zOr β zF xE zai xT yw
def zNL(zcJ:zlk)(L:Nat):Dk:=dA (AL 1) fun D=>dA (AI .i64) fun E=>d0 fun β k=>zcJ β L D E (fun z A C=>k (V.tup [(V.agg z),(Qe A),(Qe C)]) [])
def zyu:Hint:=⟨[],[],[none,none,none,none,none,none],[],[],false,false,[]⟩
def zYe:CF:=cfD zyu 71
def zY1:Nat→Sh:=xC []
def zYn(L:Nat):CBC:=noC
def zFg{β:Type}(L:Nat)(C:Ls)(A:Int)(z:Int→Ob β):Ob β:=ifb (decide (A<(0:Int))) (z (5:Int)) (ifb (decide (A>((XK C:Nat):Int))) (z (5:Int)) (ifb (decide (A<((XK C:Nat):Int))) (z (2:Int)) (z (0:Int))))
abbrev zmX:=∀ (β:Type),Nat→Ls→Int→(Int→Ob β)→Ob β
def zcI:zmX:=fun β=>@zFg β
def zOU(zcI:zmX)(L:Nat):Dk:=dA (AL 1) fun z=>dA (AI .i64) fun A=>d0 fun β k=>zcI β L z A (fun z=>k (Qe z) [])
def ztg:Hint:=⟨[(0,0),(5,2),(6,2),(11,3),(11,7),(14,1)],[],[none,none,none,none,none,none,none,some ((bl 117 63),(bl 9216600144739301623 63)),none,some ((bl 85 63),(bl 9216600144739301591 63)),none,none,some ((bl 12 63),(bl 9216600144739301519 63)),none,none,none],[],[],false,false,[]⟩
def cf_ref11_Decode:CF:=cfD ztg 33
def zOx:CC:=yy [1,1,1,1,1,1,0,0,0] cf_ref11_Decode.body
def zPd:CC:=yy [1,1,1,1,1,1,1] cf_ref11_Decode.body
def zVt:Nat→Sh:=xC [(49,(.gs 4))]
def zVC(zcb:zh5)(yW:zdC)(zcJ:zlk)(zcI:zmX)(L:Nat):CBC:=(xp 180 (zOU zcI L) (xp 140 (zNL zcJ L) (xp 201 (zuR yW L) (xp 676 (zJ4 zcb L) noC))))
def zOH:St→St:=zM 0 (bl 117 63) (bl 9216600144739301623 63)
def zMd(z:Ls)(A C:Int)(D E:List V):St:=⟨((V.sl 1 z)::(jn 1 ((V.ptr 2 0)::(jn 1 ((V.ptr 4 0)::((Qd A)::((Qe C)::(jn 56 [])))))))),(gn 2 ((.live true D)::(gn 1 ((.live false E)::(gn 58 [])))))⟩
def zRN(z:Int)(A:List V):St:=⟨(jn 2 ((V.ptr 2 0)::((Qe z)::(jn 59 [])))),(gn 2 ((.live true A)::(gn 60 [])))⟩
def zRX(z:Ls)(A:Int)(C D:List V):St:=⟨((V.sl 1 z)::(jn 1 ((V.ptr 2 0)::(jn 1 ((V.ptr 4 0)::(jn 1 ((Qe A)::(jn 56 [])))))))),(gn 2 ((.live true C)::(gn 1 ((.live false D)::(gn 58 [])))))⟩
section
variable {β:Type} (zcb:zh5) (yW:zdC) (zcJ:zlk) (zcI:zmX)
def zJQ(L:Nat)(C:Ls)(A:List V→Int→Ob β)(z:Ls→Int→Int→List V→List V→Ob β):Ob β:=ifb (decide (((XK C:Nat):Int)>(100000:Int))) (lt ([(Qc (0:Int))]++We 64 (Qa (0:Int))++[(Qc (0:Int)),(Qc (0:Int)),(Qc (0:Int)),(V.sl 4 ([]:Ls))]) fun E=>chk (0=0∧(XK E)=69∧69≠0) (A E (4:Int))) (ifb (decide (((XK C:Nat):Int)<(80:Int))) (lt ([(Qc (0:Int))]++We 64 (Qa (0:Int))++[(Qc (0:Int)),(Qc (0:Int)),(Qc (0:Int)),(V.sl 4 ([]:Ls))]) fun F=>chk (0=0∧(XK F)=69∧69≠0) (A F (1:Int))) (zcb β L C (fun D=>chk ((XK D)=68∧0+68≤69) (chk ((XK (yd ([(Qc (0:Int))]++We 64 (Qa (0:Int))++[(Qc (0:Int)),(Qc (0:Int)),(Qc (0:Int)),(V.gs 4 ([]:Ls))]) 0 D))=69∧0+69≤69) (yW β L C (80:Int) (256:Int) (fun I J G=>ifb ((G:Int) != (0:Int)) (lt ([(Qc (0:Int))]++We 64 (Qa (0:Int))++[(Qc (0:Int)),(Qc (0:Int)),(Qc (0:Int)),(V.sl 4 ([]:Ls))]) fun H=>chk (0=0∧(XK H)=69∧69≠0) (A H G)) (z C I J ([(Qc (0:Int))]++We 64 (Qa (0:Int))++[(Qc (0:Int)),(Qc (0:Int)),(Qc (0:Int)),(V.gs 4 ([]:Ls))]) (zX (bl 9216600144739301623 63) (yd ([(Qc (0:Int))]++We 64 (Qa (0:Int))++[(Qc (0:Int)),(Qc (0:Int)),(Qc (0:Int)),(V.gs 4 ([]:Ls))]) 0 (yd ([(Qc (0:Int))]++We 64 (Qa (0:Int))++[(Qc (0:Int)),(Qc (0:Int)),(Qc (0:Int)),(V.gs 4 ([]:Ls))]) 0 D))))))))))
def zwX(L:Nat)(G:Ls)(I J:Int)(D E:List V)(F:Int→List V→Ob β)(z:Ls→Int→Int→List V→List V→Ob β)(H:Ls→Int→List V→List V→Ob β):Ob β:=ifb (decide (I>(0:Int))) (zcJ β L G J (fun M R N=>chk ((XK M)=4∧0+4≤4) (lt (yd [(Qc (0:Int)),(V.gs 35 ([]:Ls)),(V.gs 2 ([]:Ls)),(Qc (0:Int))] 0 M) fun A=>ifb ((N:Int) != (0:Int)) (chk (69=69∧0+69≤(XK D)) (lt (yd D 0 ([(Qc (0:Int))]++We 64 (Qa (0:Int))++[(Qc (0:Int)),(Qc (0:Int)),(Qc (0:Int)),(V.sl 4 ([]:Ls))])) fun O=>F N O)) (cG 4 E 68 fun C=>chk (0+4≤(XK A)) (chk ((XK (XM 4 A))=4∧0+4≤4) (chk ((XK C+XK (zf 4 1 (yd [(Qc (0:Int)),(V.sl 35 ([]:Ls)),(V.sl 2 ([]:Ls)),(Qc (0:Int))] 0 (XM 4 A))))*64≤xf∧XK C+XK (zf 4 1 (yd [(Qc (0:Int)),(V.sl 35 ([]:Ls)),(V.sl 2 ([]:Ls)),(Qc (0:Int))] 0 (XM 4 A)))≤xf) (lt (C++(zf 4 1 (yd [(Qc (0:Int)),(V.sl 35 ([]:Ls)),(V.sl 2 ([]:Ls)),(Qc (0:Int))] 0 (XM 4 A)))) fun P=>chk (1=1∧68<(XK (XR E 68 (V.sl 4 C)))) (lt (QG .u64 ((I:Int)-(1:Int))) fun Q=>z G Q R D (zX (bl 9216600144739301623 63) (XR (XR E 68 (V.sl 4 C)) 68 (V.gs 4 P))))))))))) (H G J D (zX (bl 9216600144739301591 63) E))
def ztK(L:Nat)(C:Int)(A:List V)(z:List V→Int→Ob β):Ob β:=chk (0=0∧(XK A)=69∧69≠0) (z A C)
def zup(L:Nat)(H:Ls)(I:Int)(A G:List V)(z:List V→Int→Ob β):Ob β:=zcI β L H I (fun C=>ifb ((C:Int) != (0:Int)) (chk (69=69∧0+69≤(XK A)) (lt (yd A 0 ([(Qc (0:Int))]++We 64 (Qa (0:Int))++[(Qc (0:Int)),(Qc (0:Int)),(Qc (0:Int)),(V.sl 4 ([]:Ls))])) fun D=>chk (0=0∧(XK D)=69∧69≠0) (z D C))) (chk (0+69≤(XK G)) (zcy (XM 69 G) fun E=>chk ((XK E)=69∧0+69≤(XK A)) (lt (yd A 0 E) fun F=>chk (0=0∧(XK F)=69∧69≠0) (z F (0:Int))))))
def zm3(L:Nat)(z:Int→List V→Ob β)(A:Ls→Int→List V→List V→Ob β):Nat→Ls→Int→Int→List V→List V→Ob β
 | 0,_,_,_,_,_=>none
 | n+1,C,D,E,F,G=>zwX zcJ L C D E F G z (fun C D E F G=>zm3 L z A n C D E F G) A
end
def zJU{β:Type}(zcb:zh5)(yW:zdC)(zcJ:zlk)(zcI:zmX)(L:Nat)(A:Ls)(z:List V→Int→Ob β):Ob β:=zJQ zcb yW L A z (fun A F D C E=>zm3 zcJ L (fun G C=>ztK L G C z) (fun A D C E=>zup zcI L A D C E z) L A F D C E)
abbrev zlL:=∀ (β:Type),Nat→Ls→(List V→Int→Ob β)→Ob β
def zen:zlL:=fun β=>@zJU β zcb yW zcJ zcI
def zJA(zen:zlL)(L:Nat):Dk:=dA (AL 1) fun C=>d0 fun β k=>zen β L C (fun z A=>k (V.tup [(V.agg z),(Qe A)]) [])
def zwk:Hint:=⟨[],[],[none],[],[],false,false,[]⟩
def zAV:CF:=cfD zwk 15
def zsG:Nat→Sh:=xC []
def zs0(L:Nat):CBC:=noC
def zuf{β:Type}(L:Nat)(A C:Ls)(z:Bool→Ob β):Ob β:=zJs A fun D=>zJs C fun E=>z (ByteArray.toList D==ByteArray.toList E)
theorem zIo{β:Type}(L:Nat)(z A:Ls)(k:KK β):zj zsG (zs0 L) L zAV [(V.sl 1 z),(V.sl 1 A)] [] k=zuf L z A (fun z=>k (V.sc (.bool z)) []):=by kernel_rfl
abbrev zbu:=∀ (β:Type),Nat→Ls→Ls→(Bool→Ob β)→Ob β
def yg:zbu:=fun β=>@zuf β
def zlc(yg:zbu)(L:Nat):Dk:=dA (AL 1) fun z=>dA (AL 1) fun A=>d0 fun β k=>yg β L z A (fun z=>k (V.sc (.bool z)) [])
theorem zHa(L:Nat):DK (zlc yg L) (fun _=>zj zsG (zs0 L) L zAV):=xo zaV fun z=>xo zaV fun A=>zK fun _ k=>zIo L z A k
end
end
end Go.Proofs.YtgmhijonllockaaGreatDoor
