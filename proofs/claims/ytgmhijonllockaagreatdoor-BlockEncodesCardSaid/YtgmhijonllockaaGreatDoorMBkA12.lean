/- Part 12 of the proof of BkA: an abstract machine over plain values, its soundness, and the functions of the program on plain values. -/
import Derived.Test.YtgmhijonllockaaGreatDoorMBkA11
namespace Go.Proofs.YtgmhijonllockaaGreatDoor
set_option maxRecDepth 100000
set_option linter.unusedVariables false
set_option linter.unusedSimpArgs false
open IntKind renaming wrap->QG,bits->XH
open List renaming length->XK,take->XL,replicate->We,take_of_length_le->XE,getD_eq_getElem?_getD->Ws,length_replicate->XR,length_set->QI,length_drop->XS,getElem?_eq_getElem->Wc,length_append->Wm,append_assoc->Wu,map->Xv,drop->XO,set_set->XZ
open Int renaming toNat_natCast->XQ,toNat->XM,ofNat_tmod->XV,tdiv->XW,tmod->XX,eq_ofNat_of_zero_le->XY
open Nat renaming zero_add->WB,mul_one->XT,exists_eq_add_of_le->XU
open Bool renaming false_eq_true->WP
section
noncomputable section
def zCS:Hint:=⟨[(0,0),(7,3),(11,0),(14,2),(21,2),(25,0),(25,4)],[],[none,none,none,none,none,some ((bl 7340034 79),(bl 604462909807314318914403 79)),none,some ((bl 2 79),(bl 604462909807314318914403 79)),none,none,some ((bl 4 79),(bl 604462909807314318914405 79)),none,some ((bl 120259084322 79),(bl 604462909805115564094059 79)),none,some ((bl 34 79),(bl 604462909805115564094059 79)),none,none,some ((bl 4 79),(bl 604462909805115564094061 79)),none,some ((bl 985162418487330 79),(bl 604455830148700360930155 79)),none,some ((bl 34 79),(bl 604455830148700360930155 79)),none,none,some ((bl 4 79),(bl 604455830148700360930125 79)),none,none,none,none,none,none,none,none],[],[],false,false,[]⟩
def cf_ref11_Check:CF:=cfD zCS 19
def z3a:CC:=xz [1,1,1,1,1,1,0,1,0,0] cf_ref11_Check.body
def z3q:CC:=xz [1,1,1,1,1,0,1,0,0] cf_ref11_Check.body
def z5F:CC:=xz [1,1,1,1,1,1,1] cf_ref11_Check.body
def z40:CC:=xz [1,1,1,0,1,0,0] cf_ref11_Check.body
def z58:CC:=xz [1,1,1,1,1,1] cf_ref11_Check.body
def z7Q:CC:=xz [1,1,1,1] cf_ref11_Check.body
def z9Z:Nat→Sh:=zj [(16,(.sl 4)),(20,(.sl 4)),(34,(.sl 4)),(47,(.sl 4)),(73,(.sl 4))]
def yaQ(zz:zau)(zb:zn)(xE:zaF)(zR:zbG)(xg:xG)(zA:zaj)(xF:zaE)(zw:zag)(L:Nat):CBC:=(xe 474 (zpo zw L) (xe 558 (zsw xF L) (xe 557 (zn9 zA L) (xe 556 (zmZ xg L) (xe 517 (z5Q zR L) (xe 132 (zm6 xE L) (xe 153 (zeQ zb L) (xe 449 (zoN zz L) noC))))))))
def z54:St→St:=yM 0 (bl 7340034 79) (bl 604462909807314318914403 79)
def z4z:St→St:=yM 0 (bl 120259084322 79) (bl 604462909805115564094059 79)
def z3D:St→St:=yM 0 (bl 985162418487330 79) (bl 604455830148700360930155 79)
def z3n(z:Ls)(A C:Int)(D:List V):St:=⟨(jn 1 ((V.ptr 1 0)::(jn 18 ((V.sl 4 z)::((Qe A)::((Qe C)::(jn 56 []))))))),(gn 1 ((.live true D)::(gn 77 [])))⟩
def z6t(z:Int):St:=⟨(jn 2 ((Qe z)::(jn 76 []))),(gn 79 [])⟩
def z72(z:List V):St:=⟨(jn 1 ((V.ptr 1 0)::(jn 77 []))),(gn 1 ((.live true z)::(gn 77 [])))⟩
def z0R(D z:Ls)(A C:Int)(E:List V):St:=⟨(jn 1 ((V.ptr 1 0)::(jn 3 ((V.gs 32 D)::(jn 28 ((V.sl 4 z)::((Qe A)::((Qe C)::(jn 42 []))))))))),(gn 1 ((.live true E)::(gn 77 [])))⟩
def z7W(z:Ls)(A:List V):St:=⟨(jn 1 ((V.ptr 1 0)::(jn 3 ((V.gs 32 z)::(jn 73 []))))),(gn 1 ((.live true A)::(gn 77 [])))⟩
def z0y(D z:Ls)(A C:Int)(E:List V):St:=⟨(jn 1 ((V.ptr 1 0)::(jn 3 ((V.gs 32 D)::(jn 41 ((V.sl 4 z)::((Qe A)::((Qe C)::(jn 29 []))))))))),(gn 1 ((.live true E)::(gn 77 [])))⟩
def z71(z:Ls)(A:List V):St:=⟨(jn 1 ((V.ptr 1 0)::(jn 3 ((V.gs 32 z)::(jn 73 []))))),(gn 1 ((.live true A)::(gn 77 [])))⟩
abbrev zr3(β:Type):Type:=Ls→Ls→Int→Int→List V→Ob β
abbrev zqu(β:Type):Type:=Ls→Ls→Int→Int→List V→Ob β
def zZX{β:Type}(zz:zau)(zb:zn)(xE:zaF)(zR:zbG)(xg:xG)(zA:zaj)(xF:zaE)(zw:zag)(L:Nat)(C:List V)(A:Int→Ob β)(z:Ls→Int→Int→List V→Ob β):Ob β:=chk (0+69≤(XK C)) (zz β L (Xv V.dem (XL 69 C)) (fun E=>ifb (!E) (A (4:Int)) (cLd 4 C 68 fun F=>ifb ((((XK F:Nat):Int):Int)==(0:Int)) (A (93:Int)) (cLd 4 C 68 fun D=>z D ((XK D:Nat):Int) (0:Int) C))))
def zOr{β:Type}(zz:zau)(zb:zn)(xE:zaF)(zR:zbG)(xg:xG)(zA:zaj)(xF:zaE)(zw:zag)(L:Nat)(D:Ls)(E A:Int)(G:List V)(C:Int→Ob β)(z:Ls→Int→Int→List V→Ob β)(F:List V→Ob β):Ob β:=ifb (decide (A<E)) (idx D A fun H=>chk ((XK (XL 4 H))=4∧0+4≤4) (lt (zk [(Qc (0:Int)),(V.gs 35 ([]:Ls)),(V.gs 2 ([]:Ls)),(Qc (0:Int))] 0 (XL 4 H)) fun I=>chk (0+4≤(XK I)) (zb β L (Xv V.dem (XL 4 I)) (fun J=>ifb (!(J==((A:Int)==(0:Int)))) (C (111:Int)) (lt (QG .i64 ((A:Int)+(1:Int))) fun M=>z D E M G))))) (F G)
def zIu{β:Type}(zz:zau)(zb:zn)(xE:zaF)(zR:zbG)(xg:xG)(zA:zaj)(xF:zaE)(zw:zag)(L:Nat)(A:Int)(z:Int→Ob β):Ob β:=z A
def zLl{β:Type}(zz:zau)(zb:zn)(xE:zaF)(zR:zbG)(xg:xG)(zA:zaj)(xF:zaE)(zw:zag)(L:Nat)(A:List V)(z:zr3 β):Ob β:=cLd 4 A 68 fun C=>z ([]:Ls) C ((XK C:Nat):Int) (0:Int) A
def zJt{β:Type}(zz:zau)(zb:zn)(xE:zaF)(zR:zbG)(xg:xG)(zA:zaj)(xF:zaE)(zw:zag)(L:Nat)(H D:Ls)(E A:Int)(I:List V)(C:Int→Ob β)(z:zr3 β)(G:Ls→List V→Ob β):Ob β:=ifb (decide (A<E)) (idx D A fun J=>chk ((XK (XL 4 J))=4∧0+4≤4) (lt (zk [(Qc (0:Int)),(V.gs 35 ([]:Ls)),(V.gs 2 ([]:Ls)),(Qc (0:Int))] 0 (XL 4 J)) fun M=>chk (0+4≤(XK M)) (xE β L (Xv V.dem (XL 4 M)) (fun F=>ifb ((F:Int) != (0:Int)) (C F) (lt (QG .i64 ((A:Int)+(1:Int))) fun N=>z H D E N I))))) (G H I)
def zE0{β:Type}(zz:zau)(zb:zn)(xE:zaF)(zR:zbG)(xg:xG)(zA:zaj)(xF:zaE)(zw:zag)(L:Nat)(A:Int)(z:Int→Ob β):Ob β:=z A
def zFc{β:Type}(zz:zau)(zb:zn)(xE:zaF)(zR:zbG)(xg:xG)(zA:zaj)(xF:zaE)(zw:zag)(L:Nat)(D:Ls)(C:List V)(z:zqu β):Ob β:=cLd 4 C 68 fun A=>z D A ((XK A:Nat):Int) (0:Int) C
def zIi{β:Type}(zz:zau)(zb:zn)(xE:zaF)(zR:zbG)(xg:xG)(zA:zaj)(xF:zaE)(zw:zag)(L:Nat)(C F:Ls)(G D:Int)(N:List V)(E:Int→Ob β)(z:zqu β)(M:Ls→List V→Ob β):Ob β:=ifb (decide (D<G)) (idx F D fun H=>chk ((XK (XL 4 H))=4∧0+4≤4) (lt (zk [(Qc (0:Int)),(V.gs 35 ([]:Ls)),(V.gs 2 ([]:Ls)),(Qc (0:Int))] 0 (XL 4 H)) fun I=>chk (0+4≤(XK I)) (zR β L (Xv V.dem (XL 4 I)) (fun J=>chk ((XK J)=32∧0+32≤32) (lt (zk (We 32 (Qa (0:Int))) 0 J) fun A=>chk (0+32≤(XK A)) (xg β L C (XL 32 A) (fun O=>ifb (decide (O≥(0:Int))) (E (91:Int)) (chk (0+32≤(XK A)) (chk ((XK (XL 32 A))=32∧0+32≤32) (chk ((XK C+XK (yl 32 1 (zk (We 32 (Qa (0:Int))) 0 (XL 32 A))))*32≤xm∧XK C+XK (yl 32 1 (zk (We 32 (Qa (0:Int))) 0 (XL 32 A)))≤xm) (lt (C++(yl 32 1 (zk (We 32 (Qa (0:Int))) 0 (XL 32 A)))) fun P=>lt (QG .i64 ((D:Int)+(1:Int))) fun Q=>z P F G Q N))))))))))) (M C N)
def zB9{β:Type}(zz:zau)(zb:zn)(xE:zaF)(zR:zbG)(xg:xG)(zA:zaj)(xF:zaE)(zw:zag)(L:Nat)(A:Int)(z:Int→Ob β):Ob β:=z A
def zEO{β:Type}(zz:zau)(zb:zn)(xE:zaF)(zR:zbG)(xg:xG)(zA:zaj)(xF:zaE)(zw:zag)(L:Nat)(H:Ls)(A:List V)(z:Int→Ob β):Ob β:=chk (0+69≤(XK A)) (zA β L (Xv V.dem (XL 69 A)) H (fun C=>ifb C (z (101:Int)) (chk (0+69≤(XK A)) (xF β L (Xv V.dem (XL 69 A)) (fun D=>ifb D (z (91:Int)) (cLd 4 A 68 fun E=>zw β L E (fun F=>chk (33+32≤(XK A)) (eqC 32 F (XL 32 (XO 33 A)) fun G=>ifb (!G) (z (110:Int)) (z (0:Int))))))))))
def zw2{β:Type}(zz:zau)(zb:zn)(xE:zaF)(zR:zbG)(xg:xG)(zA:zaj)(xF:zaE)(zw:zag)(L:Nat)(z:Int→Ob β)(A:List V→Ob β):Nat→Ls→Int→Int→List V→Ob β
 | 0,_,_,_,_=>none
 | n+1,C,D,E,F=>zOr zz zb xE zR xg zA xF zw L C D E F z (fun C D E F=>zw2 zz zb xE zR xg zA xF zw L z A n C D E F) A
def ztA{β:Type}(zz:zau)(zb:zn)(xE:zaF)(zR:zbG)(xg:xG)(zA:zaj)(xF:zaE)(zw:zag)(L:Nat)(z:Int→Ob β)(A:Ls→List V→Ob β):Nat→Ls→Ls→Int→Int→List V→Ob β
 | 0,_,_,_,_,_=>none
 | n+1,F,C,D,E,G=>zJt zz zb xE zR xg zA xF zw L F C D E G z (fun F C D E G=>ztA zz zb xE zR xg zA xF zw L z A n F C D E G) A
def zrJ{β:Type}(zz:zau)(zb:zn)(xE:zaF)(zR:zbG)(xg:xG)(zA:zaj)(xF:zaE)(zw:zag)(L:Nat)(z:Int→Ob β)(A:Ls→List V→Ob β):Nat→Ls→Ls→Int→Int→List V→Ob β
 | 0,_,_,_,_,_=>none
 | n+1,F,C,D,E,G=>zIi zz zb xE zR xg zA xF zw L F C D E G z (fun F C D E G=>zrJ zz zb xE zR xg zA xF zw L z A n F C D E G) A
def zDC{β:Type}(zz:zau)(zb:zn)(xE:zaF)(zR:zbG)(xg:xG)(zA:zaj)(xF:zaE)(zw:zag)(L:Nat)(A:Ls)(C:List V)(z:Int→Ob β):Ob β:=zFc zz zb xE zR xg zA xF zw L A C (fun A D E F C=>zrJ zz zb xE zR xg zA xF zw L (fun G=>zB9 zz zb xE zR xg zA xF zw L G z) (fun A C=>zEO zz zb xE zR xg zA xF zw L A C z) L A D E F C)
def zIr{β:Type}(zz:zau)(zb:zn)(xE:zaF)(zR:zbG)(xg:xG)(zA:zaj)(xF:zaE)(zw:zag)(L:Nat)(A:List V)(z:Int→Ob β):Ob β:=zLl zz zb xE zR xg zA xF zw L A (fun C D E F A=>ztA zz zb xE zR xg zA xF zw L (fun G=>zE0 zz zb xE zR xg zA xF zw L G z) (fun C A=>zDC zz zb xE zR xg zA xF zw L C A z) L C D E F A)
def z0a{β:Type}(zz:zau)(zb:zn)(xE:zaF)(zR:zbG)(xg:xG)(zA:zaj)(xF:zaE)(zw:zag)(L:Nat)(F:List V)(z:Int→Ob β):Ob β:=zZX zz zb xE zR xg zA xF zw L F z (fun C D E A=>zw2 zz zb xE zR xg zA xF zw L (fun G=>zIu zz zb xE zR xg zA xF zw L G z) (fun A=>zIr zz zb xE zR xg zA xF zw L A z) L C D E A)
abbrev zsA:=∀ (β:Type),Nat→List V→(Int→Ob β)→Ob β
def zfP:zsA:=fun β=>@z0a β zz zb xE zR xg zA xF zw
def zZI(zfP:zsA)(L:Nat):Dk:=dA AG fun z=>d0 fun β k=>zfP β L z (fun z=>k (Qe z) [])
def zwU:Hint:=⟨[],[],[none],[],[],false,false,[]⟩
def zBu:CF:=cfD zwU 187
def zrs:Nat→Sh:=zj []
def zqV(L:Nat):CBC:=noC
def zDZ{β:Type}(L:Nat)(C:Int)(z:List V→Ob β):Ob β:=lt [(Qd C),(Qd (0:Int)),(Qd (0:Int)),(Qd (0:Int))] fun A=>chk (0=0∧(XK A)=4∧4≠0) (z A)
theorem zOm{β:Type}(L:Nat)(z:Int)(k:KK β):zh zrs (zqV L) L zBu [(Qd z)] [] k=zDZ L z (fun z=>k (V.agg z) []):=by kernel_rfl
abbrev ziK:=∀ (β:Type),Nat→Int→(List V→Ob β)→Ob β
def zZ:ziK:=fun β=>@zDZ β
def zcF(zZ:ziK)(L:Nat):Dk:=dA (AI .u64) fun z=>d0 fun β k=>zZ β L z (fun z=>k (V.agg z) [])
theorem zOl(L:Nat):DK (zcF zZ L) (fun _=>zh zrs (zqV L) L zBu):=xv zbN fun z=>yK fun _ k=>zOm L z k
def zJl:Hint:=⟨[],[],[none],[],[],false,false,[]⟩
def zPh:CF:=cfD zJl 174
def zC8:Nat→Sh:=zj [(8,(.int .u64))]
def zC6(L:Nat):CBC:=noC
def zSu{β:Type}(L:Nat)(E:List V)(C:Int)(z:Bool→Ob β):Ob β:=lt (QG .i64 (XW C (64:Int))) fun A=>chk (0≤A∧A<((4:Nat):Int)) (cI .u64 E (0+((XM A)*1)) fun F=>lt (XX C (64:Int)) fun D=>chk (0≤D) (lt (zcM .u64 F D) fun G=>lt (zgv .u64 G (1:Int)) fun H=>z ((H:Int)==(1:Int))))
theorem zW3{β:Type}(L:Nat)(z:List V)(A:Int)(k:KK β):zh zC8 (zC6 L) L zPh [(V.agg z),(Qe A)] [] k=zSu L z A (fun z=>k (V.sc (.bool z)) []):=by kernel_rfl
abbrev zal:=∀ (β:Type),Nat→List V→Int→(Bool→Ob β)→Ob β
def xp:zal:=fun β=>@zSu β
def znd(xp:zal)(L:Nat):Dk:=dA AG fun z=>dA (AI .i64) fun A=>d0 fun β k=>xp β L z A (fun z=>k (V.sc (.bool z)) [])
theorem zYb(L:Nat):DK (znd xp L) (fun _=>zh zC8 (zC6 L) L zPh):=xv zak fun z=>xv zbN fun A=>yK fun _ k=>zW3 L z A k
def zKf:Hint:=⟨[],[],[none,none,none,none,none,some ((bl 118 34),(bl 17171480575 34)),none,some ((bl 48 34),(bl 17171480507 34)),none,none,none],[],[],false,false,[]⟩
def cf_ref02_Shr:CF:=cfD zKf 147
def zn4:CC:=xz [1,1,1,1,0,1,0,0] cf_ref02_Shr.body
def zDA:CC:=xz [1,1,1,1,1] cf_ref02_Shr.body
def zfq:Nat→Sh:=zj [(27,(.int .u64))]
def zff(xp:zal)(L:Nat):CBC:=(xe 552 (znd xp L) noC)
def zpf:St→St:=yM 0 (bl 118 34) (bl 17171480575 34)
def zhj(E F:Int)(G:List V)(z A C D:Int)(H:List V):St:=⟨(jn 1 ((Qe E)::((V.ptr 2 0)::(jn 1 ((V.ptr 4 0)::((V.ptr 5 0)::((Qe F)::(jn 27 [])))))))),(gn 2 ((.live true G)::(gn 1 ((.live true [(Qd z),(Qd A),(Qd C),(Qd D)])::((.live true H)::(gn 28 []))))))⟩
def zuv(z A C D:Int)(E:List V):St:=⟨(jn 4 ((V.ptr 4 0)::((V.ptr 5 0)::(jn 28 [])))),(gn 4 ((.live true [(Qd z),(Qd A),(Qd C),(Qd D)])::((.live true E)::(gn 28 []))))⟩
abbrev zwC(β:Type):Type:=Int→Int→List V→Int→Int→Int→Int→List V→Ob β
def zSG{β:Type}(xp:zal)(L:Nat)(C:List V)(D:Int)(A:List V→Ob β)(z:zwC β):Ob β:=ifb (decide (D≤(0:Int))) (chk (0+4≤(XK C)) (chk ((XK (XL 4 C))=4∧0+4≤4) (lt (zk [(Qd (0:Int)),(Qd (0:Int)),(Qd (0:Int)),(Qd (0:Int))] 0 (XL 4 C)) fun E=>chk (0=0∧(XK E)=4∧4≠0) (A E)))) (ifb (decide (D≥(256:Int))) (lt [(Qd (0:Int)),(Qd (0:Int)),(Qd (0:Int)),(Qd (0:Int))] fun F=>chk (0=0∧(XK F)=4∧4≠0) (A F)) (z D (0:Int) C (0:Int) (0:Int) (0:Int) (0:Int) [(Qd (0:Int)),(Qd (0:Int)),(Qd (0:Int)),(Qd (0:Int))]))
theorem zYu{β:Type}(xp:zal)(L:Nat)(z:List V)(A:Int)(k:KK β):zh zfq (zff xp L) L cf_ref02_Shr [(V.agg z),(Qe A)] [] k=zSG xp L z A (fun z=>k (V.agg z) []) (fun A G H C D E F I=>zx (ze zfq (zff xp L) 0 L zn4) zpf L (zhj A G H C D E F I) (xi 0 (yv (ze zfq (zff xp L) 0 L zDA) (zD 0 (CF.res cf_ref02_Shr) k)))):=by kernel_rfl
def zyD{β:Type}(xp:zal)(L:Nat)(I G:Int)(J:List V)(A C D E:Int)(H:List V)(z:zwC β)(M:Int→Int→Int→Int→List V→Ob β):Ob β:=lt (QG .i64 ((G:Int)+I)) fun R=>ifb (decide (R<(256:Int))) (chk (0+4≤(XK J)) (lt (QG .i64 ((G:Int)+I)) fun S=>xp β L (XL 4 J) S (fun T=>ifb T (lt (QG .i64 (XW G (64:Int))) fun F=>chk (0≤F∧F<((4:Nat):Int)) (cI .u64 H (0+((XM F)*1)) fun U=>lt (XX G (64:Int)) fun N=>chk (0≤N) (lt (zgp .u64 (1:Int) N) fun W=>lt (ior .u64 U W) fun X=>chk (0≤F∧F<((4:Nat):Int)) (chk (1=1∧(0+((XM F)*1))+1≤(XK H)) (lt (zk H (0+((XM F)*1)) [(Qd X)]) fun O=>lt (QG .i64 ((G:Int)+(1:Int))) fun P=>z I P J A C D E O))))) (lt (QG .i64 ((G:Int)+(1:Int))) fun Q=>z I Q J A C D E H)))) (M A C D E H)
theorem zJZ{β:Type}(xp:zal)(L:Nat)(F G:Int)(H:List V)(z A C D:Int)(E:List V)(X:St→Ob β)(K:KT β):ze zfq (zff xp L) 0 L zn4 (zhj F G H z A C D E) (yH zpf X K)=zyD xp L F G H z A C D E (fun F G H z A C D E=>X (zhj F G H z A C D E)) (fun z A C D E=>K (.exit 0) (zuv z A C D E)):=by kernel_rfl
def zvT{β:Type}(xp:zal)(L:Nat)(C D E F:Int)(G:List V)(z:List V→Ob β):Ob β:=chk (0+4≤(XK G)) (chk ((XK (XL 4 G))=4∧0+4≤4) (lt (zk [(Qd C),(Qd D),(Qd E),(Qd F)] 0 (XL 4 G)) fun A=>chk (0=0∧(XK A)=4∧4≠0) (z A)))
theorem zE8{β:Type}(xp:zal)(L:Nat)(z A C D:Int)(E:List V)(k:KK β):(xi 0 (yv (ze zfq (zff xp L) 0 L zDA) (zD 0 (CF.res cf_ref02_Shr) k))) (.exit 0) (zuv z A C D E)=zvT xp L z A C D E (fun F=>k (V.agg F) []):=by kernel_rfl
def zo8{β:Type}(xp:zal)(L:Nat)(E:Int→Int→Int→Int→List V→Ob β):Nat→Int→Int→List V→Int→Int→Int→Int→List V→Ob β
 | 0,_,_,_,_,_,_,_,_=>none
 | n+1,F,G,H,z,A,C,D,I=>zyD xp L F G H z A C D I (fun F G H z A C D I=>zo8 xp L E n F G H z A C D I) E
theorem ztX{β:Type}(xp:zal)(L:Nat)(K:KT β):∀ (n:Nat) (F G:Int) (H:List V) (z A C D:Int) (E:List V),zx (ze zfq (zff xp L) 0 L zn4) zpf n (zhj F G H z A C D E) K=zo8 xp L (fun z A C D E=>K (.exit 0) (zuv z A C D E)) n F G H z A C D E:=by
 intro n; induction n <;> intros
 ·rfl
 ·exact (zJZ ..).trans (by simp only [*]; rfl)
def zIk{β:Type}(xp:zal)(L:Nat)(H:List V)(F:Int)(E:List V→Ob β):Ob β:=zSG xp L H F E (fun F I J z A C D G=>zo8 xp L (fun z A C D G=>zvT xp L z A C D G E) L F I J z A C D G)
theorem zXi{β:Type}(xp:zal)(L:Nat)(z:List V)(A:Int)(k:KK β):zh zfq (zff xp L) L cf_ref02_Shr [(V.agg z),(Qe A)] [] k=zIk xp L z A (fun z=>k (V.agg z) []):=by
 refine (zYu xp L z A k).trans ?_
 unfold zIk
 first
  | (simp only [ztX,zE8]; done)
  | (simp only [ztX]; rfl)
abbrev zsh:=∀ (β:Type),Nat→List V→Int→(List V→Ob β)→Ob β
def zbr:zsh:=fun β=>@zIk β xp
def znf(zbr:zsh)(L:Nat):Dk:=dA AG fun z=>dA (AI .i64) fun A=>d0 fun β k=>zbr β L z A (fun z=>k (V.agg z) [])
theorem zXY(L:Nat):DK (znf zbr L) (fun _=>zh zfq (zff xp L) L cf_ref02_Shr):=xv zak fun z=>xv zbN fun A=>yK fun _ k=>zXi xp L z A k
def zGF:Hint:=⟨[],[],[none],[],[],false,false,[]⟩
def zNo:CF:=cfD zGF 175
def zAM:Nat→Sh:=zj []
def zzY(L:Nat):CBC:=noC
def zPJ{β:Type}(L:Nat)(A:List V)(z:Bool→Ob β):Ob β:=chk (0+4≤(XK A)) (eqC 4 (XL 4 A) [(Qd (0:Int)),(Qd (0:Int)),(Qd (0:Int)),(Qd (0:Int))] fun C=>z C)
theorem zWz{β:Type}(L:Nat)(z:List V)(k:KK β):zh zAM (zzY L) L zNo [(V.agg z)] [] k=zPJ L z (fun z=>k (V.sc (.bool z)) []):=by kernel_rfl
abbrev zcN:=∀ (β:Type),Nat→List V→(Bool→Ob β)→Ob β
def zK:zcN:=fun β=>@zPJ β
def zdK(zK:zcN)(L:Nat):Dk:=dA AG fun z=>d0 fun β k=>zK β L z (fun z=>k (V.sc (.bool z)) [])
theorem zVf(L:Nat):DK (zdK zK L) (fun _=>zh zAM (zzY L) L zNo):=xv zak fun z=>yK fun _ k=>zWz L z k
def zKg:Hint:=⟨[],[],[none,some ((bl 10 13),(bl 7163 13)),none,some ((bl 0 13),(bl 7153 13)),none,none,some ((bl 4 13),(bl 7157 13)),none],[],[],false,false,[]⟩
def cf_ref02_Len:CF:=cfD zKg 190
def zs9:CC:=xz [1,0,1,0,0] cf_ref02_Len.body
def zAq:CC:=xz [1,1] cf_ref02_Len.body
def zeB:Nat→Sh:=zj []
def zev(xp:zal)(L:Nat):CBC:=(xe 552 (znd xp L) noC)
def zt5:St→St:=yM 0 (bl 10 13) (bl 7163 13)
def zjQ(z:Int)(A:List V):St:=⟨(jn 1 ((V.ptr 1 0)::(jn 1 ((Qe z)::(jn 9 []))))),(gn 1 ((.live true A)::(gn 11 [])))⟩
def zsZ(z:Int):St:=⟨(jn 2 ((Qe z)::(jn 10 []))),(gn 13 [])⟩
def zvq:St:=⟨(jn 13 []),(gn 13 [])⟩
def zSe{β:Type}(xp:zal)(L:Nat)(A:List V)(z:Int→List V→Ob β):Ob β:=z (255:Int) A
theorem zXz{β:Type}(xp:zal)(L:Nat)(z:List V)(k:KK β):zh zeB (zev xp L) L cf_ref02_Len [(V.agg z)] [] k=zSe xp L z (fun A C=>zx (ze zeB (zev xp L) 0 L zs9) zt5 L (zjQ A C) (xi 0 (yv (ze zeB (zev xp L) 0 L zAq) (zD 0 (CF.res cf_ref02_Len) k)))):=by kernel_rfl
def zHa{β:Type}(xp:zal)(L:Nat)(A:Int)(D:List V)(C:Int→Ob β)(z:Int→List V→Ob β)(E:Ob β):Ob β:=ifb (decide (A≥(0:Int))) (chk (0+4≤(XK D)) (xp β L (XL 4 D) A (fun F=>ifb F (lt (QG .i64 ((A:Int)+(1:Int))) fun G=>C G) (lt (QG .i64 ((A:Int)-(1:Int))) fun H=>z H D)))) (E)
theorem zPS{β:Type}(xp:zal)(L:Nat)(z:Int)(A:List V)(X:St→Ob β)(K:KT β):ze zeB (zev xp L) 0 L zs9 (zjQ z A) (yH zt5 X K)=zHa xp L z A (fun C=>K .ret (zsZ C)) (fun z A=>X (zjQ z A)) (K (.exit 0) (zvq)):=by kernel_rfl
def zze{β:Type}(xp:zal)(L:Nat)(A:Int)(z:Int→Ob β):Ob β:=z A
theorem zKi{β:Type}(xp:zal)(L:Nat)(z:Int)(k:KK β):(xi 0 (yv (ze zeB (zev xp L) 0 L zAq) (zD 0 (CF.res cf_ref02_Len) k))) .ret (zsZ z)=zze xp L z (fun A=>k (Qe A) []):=by kernel_rfl
def zBD{β:Type}(xp:zal)(L:Nat)(z:Int→Ob β):Ob β:=z (0:Int)
theorem zLE{β:Type}(xp:zal)(L:Nat)(k:KK β):(xi 0 (yv (ze zeB (zev xp L) 0 L zAq) (zD 0 (CF.res cf_ref02_Len) k))) (.exit 0) (zvq)=zBD xp L (fun z=>k (Qe z) []):=by kernel_rfl
def zuN{β:Type}(xp:zal)(L:Nat)(z:Int→Ob β)(A:Ob β):Nat→Int→List V→Ob β
 | 0,_,_=>none
 | n+1,C,D=>zHa xp L C D z (fun C D=>zuN xp L z A n C D) A
theorem zzr{β:Type}(xp:zal)(L:Nat)(K:KT β):∀ (n:Nat) (z:Int) (A:List V),zx (ze zeB (zev xp L) 0 L zs9) zt5 n (zjQ z A) K=zuN xp L (fun C=>K .ret (zsZ C)) (K (.exit 0) (zvq)) n z A:=by
 intro n; induction n <;> intros
 ·rfl
 ·exact (zPS ..).trans (by simp only [*]; rfl)
def zI1{β:Type}(xp:zal)(L:Nat)(A:List V)(z:Int→Ob β):Ob β:=zSe xp L A (fun C D=>zuN xp L (fun E=>zze xp L E z) (zBD xp L z) L C D)
theorem zX5{β:Type}(xp:zal)(L:Nat)(z:List V)(k:KK β):zh zeB (zev xp L) L cf_ref02_Len [(V.agg z)] [] k=zI1 xp L z (fun z=>k (Qe z) []):=by
 refine (zXz xp L z k).trans ?_
 unfold zI1
 first
  | (simp only [zzr,zKi,zLE]; done)
  | (simp only [zzr]; rfl)
abbrev zrX:=∀ (β:Type),Nat→List V→(Int→Ob β)→Ob β
def zbJ:zrX:=fun β=>@zI1 β xp
def zsc(zbJ:zrX)(L:Nat):Dk:=dA AG fun z=>d0 fun β k=>zbJ β L z (fun z=>k (Qe z) [])
theorem zYG(L:Nat):DK (zsc zbJ L) (fun _=>zh zeB (zev xp L) L cf_ref02_Len):=xv zak fun z=>yK fun _ k=>zX5 xp L z k
def zJ3:Hint:=⟨[(6,9)],[],[none,some ((bl 732 29),(bl 522190591 29)),none,some ((bl 208 29),(bl 522190579 29)),none,none],[],[],false,false,[]⟩
def cf_ref02_Add:CF:=cfD zJ3 198
def zoI:CC:=xz [1,1,1,0,1,0,0] cf_ref02_Add.body
def zHJ:CC:=xz [1,1,1,1] cf_ref02_Add.body
def zfy:Nat→Sh:=zj [(16,(.int .u64)),(19,(.int .u64))]
def zfk(L:Nat):CBC:=noC
def zqG:St→St:=yM 0 (bl 732 29) (bl 522190591 29)
def zh8(E F:Int)(G H:List V)(z A C D:Int)(I:List V):St:=⟨(jn 2 ((V.ptr 2 0)::((V.ptr 3 0)::((V.ptr 4 0)::(jn 1 ((V.ptr 6 0)::((Qd E)::(jn 1 ((Qe F)::(jn 19 [])))))))))),(gn 2 ((.live true G)::((.live true H)::((.live true [(Qd z),(Qd A),(Qd C),(Qd D)])::(gn 1 ((.live true I)::(gn 22 [])))))))⟩
def zuq(E z A C D:Int)(F:List V):St:=⟨(jn 4 ((V.ptr 4 0)::(jn 1 ((V.ptr 6 0)::((Qd E)::(jn 21 [])))))),(gn 4 ((.live true [(Qd z),(Qd A),(Qd C),(Qd D)])::(gn 1 ((.live true F)::(gn 22 [])))))⟩
abbrev zyF(β:Type):Type:=Int→Int→List V→List V→Int→Int→Int→Int→List V→Ob β
def zSl{β:Type}(L:Nat)(A C:List V)(z:zyF β):Ob β:=z (0:Int) (0:Int) A C (0:Int) (0:Int) (0:Int) (0:Int) [(Qd (0:Int)),(Qd (0:Int)),(Qd (0:Int)),(Qd (0:Int))]
theorem zXX{β:Type}(L:Nat)(E F:List V)(k:KK β):zh zfy (zfk L) L cf_ref02_Add [(V.agg E),(V.agg F)] [] k=zSl L E F (fun G H I J z A C D M=>zx (ze zfy (zfk L) 0 L zoI) zqG L (zh8 G H I J z A C D M) (xi 0 (yv (ze zfy (zfk L) 0 L zHJ) (zD 0 (CF.res cf_ref02_Add) k)))):=by kernel_rfl
def zBU{β:Type}(L:Nat)(C z:Int)(J M:List V)(D E F G:Int)(H:List V)(A:zyF β)(I:Int→Int→Int→Int→Int→List V→Ob β):Ob β:=ifb (decide (z<(4:Int))) (chk (0≤z∧z<((4:Nat):Int)) (cI .u64 J (0+((XM z)*1)) fun N=>chk (0≤z∧z<((4:Nat):Int)) (cI .u64 M (0+((XM z)*1)) fun O=>chk (C=0∨C=1) (lt (zXI false N O C) fun P=>lt (zYm false N O C) fun Q=>chk (0≤z∧z<((4:Nat):Int)) (chk (1=1∧(0+((XM z)*1))+1≤(XK H)) (lt (zk H (0+((XM z)*1)) [(Qd P)]) fun R=>lt (QG .i64 ((z:Int)+(1:Int))) fun S=>A Q S J M D E F G R)))))) (I C D E F G H)
theorem zL5{β:Type}(L:Nat)(E G:Int)(H I:List V)(z A C D:Int)(F:List V)(X:St→Ob β)(K:KT β):ze zfy (zfk L) 0 L zoI (zh8 E G H I z A C D F) (yH zqG X K)=zBU L E G H I z A C D F (fun E G H I z A C D F=>X (zh8 E G H I z A C D F)) (fun E z A C D F=>K (.exit 0) (zuq E z A C D F)):=by kernel_rfl
def zwQ{β:Type}(L:Nat)(H A C D E:Int)(F:List V)(z:List V→Bool→Ob β):Ob β:=chk (0+4≤(XK F)) (chk ((XK (XL 4 F))=4∧0+4≤4) (lt (zk [(Qd A),(Qd C),(Qd D),(Qd E)] 0 (XL 4 F)) fun G=>chk (0=0∧(XK G)=4∧4≠0) (z G ((H:Int)==(1:Int)))))
theorem zH8{β:Type}(L:Nat)(G z A C D:Int)(H:List V)(k:KK β):(xi 0 (yv (ze zfy (zfk L) 0 L zHJ) (zD 0 (CF.res cf_ref02_Add) k))) (.exit 0) (zuq G z A C D H)=zwQ L G z A C D H (fun E F=>k (V.tup [(V.agg E),(V.sc (.bool F))]) []):=by kernel_rfl
def zq3{β:Type}(L:Nat)(E:Int→Int→Int→Int→Int→List V→Ob β):Nat→Int→Int→List V→List V→Int→Int→Int→Int→List V→Ob β
 | 0,_,_,_,_,_,_,_,_,_=>none
 | n+1,F,G,H,I,z,A,C,D,J=>zBU L F G H I z A C D J (fun F G H I z A C D J=>zq3 L E n F G H I z A C D J) E
theorem zvZ{β:Type}(L:Nat)(K:KT β):∀ (n:Nat) (E G:Int) (H I:List V) (z A C D:Int) (F:List V),zx (ze zfy (zfk L) 0 L zoI) zqG n (zh8 E G H I z A C D F) K=zq3 L (fun E z A C D F=>K (.exit 0) (zuq E z A C D F)) n E G H I z A C D F:=by
 intro n; induction n <;> intros
 ·rfl
 ·exact (zL5 ..).trans (by simp only [*]; rfl)
def zIC{β:Type}(L:Nat)(H I:List V)(E:List V→Bool→Ob β):Ob β:=zSl L H I (fun F J M N z A C D G=>zq3 L (fun F z A C D G=>zwQ L F z A C D G E) L F J M N z A C D G)
theorem zXM{β:Type}(L:Nat)(z A:List V)(k:KK β):zh zfy (zfk L) L cf_ref02_Add [(V.agg z),(V.agg A)] [] k=zIC L z A (fun C D=>k (V.tup [(V.agg C),(V.sc (.bool D))]) []):=by
 refine (zXX L z A k).trans ?_
 unfold zIC
 first
  | (simp only [zvZ,zH8]; done)
  | (simp only [zvZ]; rfl)
abbrev zcW:=∀ (β:Type),Nat→List V→List V→(List V→Bool→Ob β)→Ob β
def yL:zcW:=fun β=>@zIC β
def zr7(yL:zcW)(L:Nat):Dk:=dA AG fun C=>dA AG fun D=>d0 fun β k=>yL β L C D (fun z A=>k (V.tup [(V.agg z),(V.sc (.bool A))]) [])
theorem zXf(L:Nat):DK (zr7 yL L) (fun _=>zh zfy (zfk L) L cf_ref02_Add):=xv zak fun z=>xv zak fun A=>yK fun _ k=>zXM L z A k
def zJf:Hint:=⟨[(5,3)],[],[none,none,none,some ((bl 22 19),(bl 294911 19)),none,some ((bl 20 19),(bl 294909 19)),none,none],[],[],false,false,[]⟩
def cf_ref02_Shl:CF:=cfD zJf 191
def ztj:CC:=xz [1,1,0,0,0] cf_ref02_Shl.body
def zKJ:CC:=xz [1,1,1] cf_ref02_Shl.body
def zfB:Nat→Sh:=zj []
def zfz(yL:zcW)(L:Nat):CBC:=(xe 593 (zr7 yL L) noC)
def zvb:St→St:=yM 0 (bl 22 19) (bl 294911 19)
def zjY(E:Int)(F:List V)(z A C D:Int):St:=⟨(jn 1 ((Qe E)::((V.ptr 2 0)::(jn 1 ((V.ptr 4 0)::(jn 14 [])))))),(gn 2 ((.live true F)::(gn 1 ((.live true [(Qd z),(Qd A),(Qd C),(Qd D)])::(gn 14 [])))))⟩
def zuR(E:List V)(z A C D:Int):St:=⟨(jn 2 ((V.ptr 2 0)::(jn 1 ((V.ptr 4 0)::(jn 14 []))))),(gn 2 ((.live true E)::(gn 1 ((.live true [(Qd z),(Qd A),(Qd C),(Qd D)])::(gn 14 [])))))⟩
def zSy{β:Type}(yL:zcW)(L:Nat)(E:List V)(C:Int)(A:List V→Ob β)(z:Int→List V→Int→Int→Int→Int→Ob β):Ob β:=ifb (decide (C≥(256:Int))) (lt [(Qd (0:Int)),(Qd (0:Int)),(Qd (0:Int)),(Qd (0:Int))] fun D=>chk (0=0∧(XK D)=4∧4≠0) (A D)) (z C E (0:Int) (0:Int) (0:Int) (0:Int))
theorem zX7{β:Type}(yL:zcW)(L:Nat)(z:List V)(A:Int)(k:KK β):zh zfB (zfz yL L) L cf_ref02_Shl [(V.agg z),(Qe A)] [] k=zSy yL L z A (fun z=>k (V.agg z) []) (fun A G C D E F=>zx (ze zfB (zfz yL L) 0 L ztj) zvb L (zjY A G C D E F) (xi 0 (yv (ze zfB (zfz yL L) 0 L zKJ) (zD 0 (CF.res cf_ref02_Shl) k)))):=by kernel_rfl
def zHl{β:Type}(yL:zcW)(L:Nat)(H:Int)(z:List V)(C D E F:Int)(A:Int→List V→Int→Int→Int→Int→Ob β)(G:List V→Int→Int→Int→Int→Ob β):Ob β:=ifb (decide (H>(0:Int))) (chk (0+4≤(XK z)) (chk (0+4≤(XK z)) (yL β L (XL 4 z) (XL 4 z) (fun I N=>chk ((XK I)=4∧0+4≤(XK z)) (lt (zk z 0 I) fun J=>lt (QG .i64 ((H:Int)-(1:Int))) fun M=>A M J C D E F))))) (G z C D E F)
theorem zPa{β:Type}(yL:zcW)(L:Nat)(F:Int)(E:List V)(z A C D:Int)(X:St→Ob β)(K:KT β):ze zfB (zfz yL L) 0 L ztj (zjY F E z A C D) (yH zvb X K)=zHl yL L F E z A C D (fun F E z A C D=>X (zjY F E z A C D)) (fun E z A C D=>K (.exit 0) (zuR E z A C D)):=by kernel_rfl
def zBN{β:Type}(yL:zcW)(L:Nat)(A:List V)(C D E F:Int)(z:List V→Ob β):Ob β:=chk (0+4≤(XK A)) (chk ((XK (XL 4 A))=4∧0+4≤4) (lt (zk [(Qd C),(Qd D),(Qd E),(Qd F)] 0 (XL 4 A)) fun G=>chk (0=0∧(XK G)=4∧4≠0) (z G)))
theorem zMI{β:Type}(yL:zcW)(L:Nat)(E:List V)(z A C D:Int)(k:KK β):(xi 0 (yv (ze zfB (zfz yL L) 0 L zKJ) (zD 0 (CF.res cf_ref02_Shl) k))) (.exit 0) (zuR E z A C D)=zBN yL L E z A C D (fun F=>k (V.agg F) []):=by kernel_rfl
def zvE{β:Type}(yL:zcW)(L:Nat)(E:List V→Int→Int→Int→Int→Ob β):Nat→Int→List V→Int→Int→Int→Int→Ob β
 | 0,_,_,_,_,_,_=>none
 | n+1,F,G,z,A,C,D=>zHl yL L F G z A C D (fun F G z A C D=>zvE yL L E n F G z A C D) E
theorem zy4{β:Type}(yL:zcW)(L:Nat)(K:KT β):∀ (n:Nat) (F:Int) (E:List V) (z A C D:Int),zx (ze zfB (zfz yL L) 0 L ztj) zvb n (zjY F E z A C D) K=zvE yL L (fun E z A C D=>K (.exit 0) (zuR E z A C D)) n F E z A C D:=by
 intro n; induction n <;> intros
 ·rfl
 ·exact (zPa ..).trans (by simp only [*]; rfl)
def zIl{β:Type}(yL:zcW)(L:Nat)(H:List V)(F:Int)(E:List V→Ob β):Ob β:=zSy yL L H F E (fun F G z A C D=>zvE yL L (fun G z A C D=>zBN yL L G z A C D E) L F G z A C D)
theorem zXs{β:Type}(yL:zcW)(L:Nat)(z:List V)(A:Int)(k:KK β):zh zfB (zfz yL L) L cf_ref02_Shl [(V.agg z),(Qe A)] [] k=zIl yL L z A (fun z=>k (V.agg z) []):=by
 refine (zX7 yL L z A k).trans ?_
 unfold zIl
 first
  | (simp only [zy4,zMI]; done)
  | (simp only [zy4]; rfl)
abbrev zsg:=∀ (β:Type),Nat→List V→Int→(List V→Ob β)→Ob β
def zbK:zsg:=fun β=>@zIl β yL
def zyp(zbK:zsg)(L:Nat):Dk:=dA AG fun z=>dA (AI .i64) fun A=>d0 fun β k=>zbK β L z A (fun z=>k (V.agg z) [])
theorem zWX(L:Nat):DK (zyp zbK L) (fun _=>zh zfB (zfz yL L) L cf_ref02_Shl):=xv zak fun z=>xv zbN fun A=>yK fun _ k=>zXs yL L z A k
def zBA:Hint:=⟨[],[],[none,none,none,none,none,none,none,none],[],[],false,false,[]⟩
def zFU:CF:=cfD zBA 171
def zwf:Nat→Sh:=zj []
def zuE(zZ:ziK)(zbr:zsh)(zK:zcN)(zbJ:zrX)(zbK:zsg)(L:Nat):CBC:=(xe 566 (zyp zbK L) (xe 565 (zsc zbJ L) (xe 553 (zdK zK L) (xe 513 (znf zbr L) (xe 562 (zcF zZ L) noC)))))
def zK7{β:Type}(zZ:ziK)(zbr:zsh)(zK:zcN)(zbJ:zrX)(zbK:zsg)(L:Nat)(T:Int)(z:List V→Int→Ob β):Ob β:=lt (zcM .u32 T (24:Int)) fun x0=>lt (QG .i64 x0) fun G=>lt (zgv .u32 T (16777215:Int)) fun x2=>lt (QG .u64 x2) fun x3=>zZ β L x3 (fun U=>chk ((XK U)=4∧0+4≤4) (lt (zk [(Qd (0:Int)),(Qd (0:Int)),(Qd (0:Int)),(Qd (0:Int))] 0 U) fun A=>lt (zgv .u32 T (8388608:Int)) fun x6=>ifb ((x6:Int) != (0:Int)) (lt [(Qd (0:Int)),(Qd (0:Int)),(Qd (0:Int)),(Qd (0:Int))] fun W=>chk (0=0∧(XK W)=4∧4≠0) (z W (120:Int))) (chk (0+4≤(XK A)) (chk ((XK (XL 4 A))=4∧0+4≤4) (lt (zk [(Qd (0:Int)),(Qd (0:Int)),(Qd (0:Int)),(Qd (0:Int))] 0 (XL 4 A)) fun F=>ifb (decide (G<(3:Int))) (chk (0+4≤(XK A)) (lt (QG .i64 (((3:Int):Int)-G)) fun x9=>lt (QG .i64 (((8:Int):Int)*x9)) fun X=>zbr β L (XL 4 A) X (fun H=>chk ((XK H)=4∧0+4≤(XK F)) (lt (zk F 0 H) fun C=>chk (0+4≤(XK C)) (zK β L (XL 4 C) (fun Y=>ifb Y (lt [(Qd (0:Int)),(Qd (0:Int)),(Qd (0:Int)),(Qd (0:Int))] fun I=>chk (0=0∧(XK I)=4∧4≠0) (z I (120:Int))) (chk (0+4≤(XK C)) (chk ((XK (XL 4 C))=4∧0+4≤4) (lt (zk [(Qd (0:Int)),(Qd (0:Int)),(Qd (0:Int)),(Qd (0:Int))] 0 (XL 4 C)) fun J=>chk (0=0∧(XK J)=4∧4≠0) (z J (0:Int))))))))))) (chk (0+4≤(XK A)) (zK β L (XL 4 A) (fun Z=>ifb (!Z) (chk (0+4≤(XK A)) (zbJ β L (XL 4 A) (fun aa=>lt (QG .i64 ((G:Int)-(3:Int))) fun ab=>lt (QG .i64 (((8:Int):Int)*ab)) fun ac=>lt (QG .i64 ((aa:Int)+ac)) fun ad=>ifb (decide (ad>(256:Int))) (lt [(Qd (0:Int)),(Qd (0:Int)),(Qd (0:Int)),(Qd (0:Int))] fun M=>chk (0=0∧(XK M)=4∧4≠0) (z M (120:Int))) (chk (0+4≤(XK A)) (lt (QG .i64 ((G:Int)-(3:Int))) fun ae=>lt (QG .i64 (((8:Int):Int)*ae)) fun af=>zbK β L (XL 4 A) af (fun N=>chk ((XK N)=4∧0+4≤(XK F)) (lt (zk F 0 N) fun D=>chk (0+4≤(XK D)) (zK β L (XL 4 D) (fun ag=>ifb ag (lt [(Qd (0:Int)),(Qd (0:Int)),(Qd (0:Int)),(Qd (0:Int))] fun O=>chk (0=0∧(XK O)=4∧4≠0) (z O (120:Int))) (chk (0+4≤(XK D)) (chk ((XK (XL 4 D))=4∧0+4≤4) (lt (zk [(Qd (0:Int)),(Qd (0:Int)),(Qd (0:Int)),(Qd (0:Int))] 0 (XL 4 D)) fun P=>chk (0=0∧(XK P)=4∧4≠0) (z P (0:Int)))))))))))))) (chk (0+4≤(XK A)) (lt (QG .i64 ((G:Int)-(3:Int))) fun ah=>lt (QG .i64 (((8:Int):Int)*ah)) fun ai=>zbK β L (XL 4 A) ai (fun Q=>chk ((XK Q)=4∧0+4≤(XK F)) (lt (zk F 0 Q) fun E=>chk (0+4≤(XK E)) (zK β L (XL 4 E) (fun aj=>ifb aj (lt [(Qd (0:Int)),(Qd (0:Int)),(Qd (0:Int)),(Qd (0:Int))] fun R=>chk (0=0∧(XK R)=4∧4≠0) (z R (120:Int))) (chk (0+4≤(XK E)) (chk ((XK (XL 4 E))=4∧0+4≤4) (lt (zk [(Qd (0:Int)),(Qd (0:Int)),(Qd (0:Int)),(Qd (0:Int))] 0 (XL 4 E)) fun S=>chk (0=0∧(XK S)=4∧4≠0) (z S (0:Int)))))))))))))))))))
theorem zRn{β:Type}(zZ:ziK)(zbr:zsh)(zK:zcN)(zbJ:zrX)(zbK:zsg)(L:Nat)(C:Int)(k:KK β):zh zwf (zuE zZ zbr zK zbJ zbK L) L zFU [(Qc C)] [] k=zK7 zZ zbr zK zbJ zbK L C (fun z A=>k (V.tup [(V.agg z),(Qe A)]) []):=by kernel_rfl
abbrev zcw:=∀ (β:Type),Nat→Int→(List V→Int→Ob β)→Ob β
def zS:zcw:=fun β=>@zK7 β zZ zbr zK zbJ zbK
def zlM(zS:zcw)(L:Nat):Dk:=dA (AI .u32) fun C=>d0 fun β k=>zS β L C (fun z A=>k (V.tup [(V.agg z),(Qe A)]) [])
theorem zRw(L:Nat):DK (zlM zS L) (fun _=>zh zwf (zuE zZ zbr zK zbJ zbK L) L zFU):=xv zbN fun z=>yK fun _ k=>zRn zZ zbr zK zbJ zbK L z k
def zuQ:Hint:=⟨[],[],[none,some ((bl 78 27),(bl 134217679 27)),none,some ((bl 12 27),(bl 134217677 27)),none,none],[],[],false,false,[]⟩
def cf_ref02_FromBytes:CF:=cfD zuQ 173
def zjo:CC:=xz [1,1,0,1,0,0] cf_ref02_FromBytes.body
def zv2:CC:=xz [1,1,1] cf_ref02_FromBytes.body
def zb8:Nat→Sh:=zj [(14,(.int .u64)),(17,(.int .u8))]
def zb5(L:Nat):CBC:=noC
def zku:St→St:=yM 0 (bl 78 27) (bl 134217679 27)
def ze5(E:Int)(F:List V)(z A C D:Int)(G:List V):St:=⟨(jn 1 ((V.ptr 1 0)::((V.ptr 2 0)::((V.ptr 3 0)::(jn 2 ((Qe E)::(jn 20 []))))))),(gn 1 ((.live true F)::((.live true [(Qd z),(Qd A),(Qd C),(Qd D)])::((.live true G)::(gn 23 [])))))⟩
def zlb(z A C D:Int)(E:List V):St:=⟨(jn 2 ((V.ptr 2 0)::((V.ptr 3 0)::(jn 23 [])))),(gn 2 ((.live true [(Qd z),(Qd A),(Qd C),(Qd D)])::((.live true E)::(gn 23 []))))⟩
def zBM{β:Type}(L:Nat)(A:List V)(z:Int→List V→Int→Int→Int→Int→List V→Ob β):Ob β:=z (0:Int) A (0:Int) (0:Int) (0:Int) (0:Int) [(Qd (0:Int)),(Qd (0:Int)),(Qd (0:Int)),(Qd (0:Int))]
theorem zMc{β:Type}(L:Nat)(E:List V)(k:KK β):zh zb8 (zb5 L) L cf_ref02_FromBytes [(V.agg E)] [] k=zBM L E (fun F G z A C D H=>zx (ze zb8 (zb5 L) 0 L zjo) zku L (ze5 F G z A C D H) (xi 0 (yv (ze zb8 (zb5 L) 0 L zv2) (zD 0 (CF.res cf_ref02_FromBytes) k)))):=by kernel_rfl
def zr4{β:Type}(L:Nat)(C:Int)(J:List V)(D E F G:Int)(H:List V)(z:Int→List V→Int→Int→Int→Int→List V→Ob β)(I:Int→Int→Int→Int→List V→Ob β):Ob β:=ifb (decide (C<(32:Int))) (lt (QG .i64 (((31:Int):Int)-C)) fun M=>lt (QG .i64 (XW M (8:Int))) fun A=>chk (0≤A∧A<((4:Nat):Int)) (cI .u64 H (0+((XM A)*1)) fun P=>chk (0≤C∧C<((32:Nat):Int)) (cI .u8 J (0+((XM C)*1)) fun Q=>lt (QG .u64 Q) fun R=>lt (XX M (8:Int)) fun S=>lt (QG .i64 (((8:Int):Int)*S)) fun N=>chk (0≤N) (lt (zgp .u64 R N) fun T=>lt (ior .u64 P T) fun U=>chk (0≤A∧A<((4:Nat):Int)) (chk (1=1∧(0+((XM A)*1))+1≤(XK H)) (lt (zk H (0+((XM A)*1)) [(Qd U)]) fun W=>lt (QG .i64 ((C:Int)+(1:Int))) fun O=>z O J D E F G W)))))) (I D E F G H)
theorem zCm{β:Type}(L:Nat)(F:Int)(G:List V)(z A C D:Int)(E:List V)(X:St→Ob β)(K:KT β):ze zb8 (zb5 L) 0 L zjo (ze5 F G z A C D E) (yH zku X K)=zr4 L F G z A C D E (fun F G z A C D E=>X (ze5 F G z A C D E)) (fun z A C D E=>K (.exit 0) (zlb z A C D E)):=by kernel_rfl
def zoD{β:Type}(L:Nat)(C D E F:Int)(G:List V)(z:List V→Ob β):Ob β:=chk (0+4≤(XK G)) (chk ((XK (XL 4 G))=4∧0+4≤4) (lt (zk [(Qd C),(Qd D),(Qd E),(Qd F)] 0 (XL 4 G)) fun A=>chk (0=0∧(XK A)=4∧4≠0) (z A)))
theorem zy9{β:Type}(L:Nat)(z A C D:Int)(E:List V)(k:KK β):(xi 0 (yv (ze zb8 (zb5 L) 0 L zv2) (zD 0 (CF.res cf_ref02_FromBytes) k))) (.exit 0) (zlb z A C D E)=zoD L z A C D E (fun F=>k (V.agg F) []):=by kernel_rfl
def zkh{β:Type}(L:Nat)(E:Int→Int→Int→Int→List V→Ob β):Nat→Int→List V→Int→Int→Int→Int→List V→Ob β
 | 0,_,_,_,_,_,_,_=>none
 | n+1,F,G,z,A,C,D,H=>zr4 L F G z A C D H (fun F G z A C D H=>zkh L E n F G z A C D H) E
theorem zot{β:Type}(L:Nat)(K:KT β):∀ (n:Nat) (F:Int) (G:List V) (z A C D:Int) (E:List V),zx (ze zb8 (zb5 L) 0 L zjo) zku n (ze5 F G z A C D E) K=zkh L (fun z A C D E=>K (.exit 0) (zlb z A C D E)) n F G z A C D E:=by
 intro n; induction n <;> intros
 ·rfl
 ·exact (zCm ..).trans (by simp only [*]; rfl)
def zqE{β:Type}(L:Nat)(G:List V)(E:List V→Ob β):Ob β:=zBM L G (fun H I z A C D F=>zkh L (fun z A C D F=>zoD L z A C D F E) L H I z A C D F)
theorem zLt{β:Type}(L:Nat)(z:List V)(k:KK β):zh zb8 (zb5 L) L cf_ref02_FromBytes [(V.agg z)] [] k=zqE L z (fun z=>k (V.agg z) []):=by
 refine (zMc L z k).trans ?_
 unfold zqE
 first
  | (simp only [zot,zy9]; done)
  | (simp only [zot]; rfl)
abbrev zkN:=∀ (β:Type),Nat→List V→(List V→Ob β)→Ob β
def zaW:zkN:=fun β=>@zqE β
def zed(zaW:zkN)(L:Nat):Dk:=dA AG fun z=>d0 fun β k=>zaW β L z (fun z=>k (V.agg z) [])
theorem zMR(L:Nat):DK (zed zaW L) (fun _=>zh zb8 (zb5 L) L cf_ref02_FromBytes):=xv zak fun z=>yK fun _ k=>zLt L z k
def zKR:Hint:=⟨[],[],[none,some ((bl 44 24),(bl 16777199 24)),none,some ((bl 0 24),(bl 16777155 24)),none,none,some ((bl 16 24),(bl 16777171 24)),none,some ((bl 16 24),(bl 16777171 24)),none],[],[],false,false,[]⟩
def cf_ref02_Cmp:CF:=cfD zKR 172
def zsR:CC:=xz [1,0,1,0,0] cf_ref02_Cmp.body
def zAj:CC:=xz [1,1] cf_ref02_Cmp.body
def zez:Nat→Sh:=zj [(12,(.int .u64)),(15,(.int .u64)),(19,(.int .u64)),(22,(.int .u64))]
def zeD(L:Nat):CBC:=noC
def zt8:St→St:=yM 0 (bl 44 24) (bl 16777199 24)
def zjM(z:Int)(A C:List V):St:=⟨(jn 2 ((V.ptr 2 0)::((V.ptr 3 0)::(jn 1 ((Qe z)::(jn 18 [])))))),(gn 2 ((.live true A)::((.live true C)::(gn 20 []))))⟩
def zsW(z:Int):St:=⟨(jn 4 ((Qe z)::(jn 19 []))),(gn 24 [])⟩
def zve:St:=⟨(jn 24 []),(gn 24 [])⟩
def zSa{β:Type}(L:Nat)(A C:List V)(z:Int→List V→List V→Ob β):Ob β:=z (3:Int) A C
theorem zXJ{β:Type}(L:Nat)(z A:List V)(k:KK β):zh zez (zeD L) L cf_ref02_Cmp [(V.agg z),(V.agg A)] [] k=zSa L z A (fun C D E=>zx (ze zez (zeD L) 0 L zsR) zt8 L (zjM C D E) (xi 0 (yv (ze zez (zeD L) 0 L zAj) (zD 0 (CF.res cf_ref02_Cmp) k)))):=by kernel_rfl
def zHD{β:Type}(L:Nat)(z:Int)(D E:List V)(A:Int→Ob β)(C:Int→List V→List V→Ob β)(F:Ob β):Ob β:=ifb (decide (z≥(0:Int))) (chk (0≤z∧z<((4:Nat):Int)) (cI .u64 D (0+((XM z)*1)) fun G=>chk (0≤z∧z<((4:Nat):Int)) (cI .u64 E (0+((XM z)*1)) fun H=>ifb (decide (G<H)) (A (-1:Int)) (chk (0≤z∧z<((4:Nat):Int)) (cI .u64 D (0+((XM z)*1)) fun I=>chk (0≤z∧z<((4:Nat):Int)) (cI .u64 E (0+((XM z)*1)) fun J=>ifb (decide (I>J)) (A (1:Int)) (lt (QG .i64 ((z:Int)-(1:Int))) fun M=>C M D E))))))) (F)
theorem zQf{β:Type}(L:Nat)(z:Int)(A C:List V)(X:St→Ob β)(K:KT β):ze zez (zeD L) 0 L zsR (zjM z A C) (yH zt8 X K)=zHD L z A C (fun D=>K .ret (zsW D)) (fun z A C=>X (zjM z A C)) (K (.exit 0) (zve)):=by kernel_rfl
def zzc{β:Type}(L:Nat)(A:Int)(z:Int→Ob β):Ob β:=z A
theorem zJd{β:Type}(L:Nat)(z:Int)(k:KK β):(xi 0 (yv (ze zez (zeD L) 0 L zAj) (zD 0 (CF.res cf_ref02_Cmp) k))) .ret (zsW z)=zzc L z (fun A=>k (Qe A) []):=by kernel_rfl
def zB3{β:Type}(L:Nat)(z:Int→Ob β):Ob β:=z (0:Int)
theorem zMp{β:Type}(L:Nat)(k:KK β):(xi 0 (yv (ze zez (zeD L) 0 L zAj) (zD 0 (CF.res cf_ref02_Cmp) k))) (.exit 0) (zve)=zB3 L (fun z=>k (Qe z) []):=by kernel_rfl
def zuP{β:Type}(L:Nat)(z:Int→Ob β)(A:Ob β):Nat→Int→List V→List V→Ob β
 | 0,_,_,_=>none
 | n+1,C,D,E=>zHD L C D E z (fun C D E=>zuP L z A n C D E) A
theorem zzh{β:Type}(L:Nat)(K:KT β):∀ (n:Nat) (z:Int) (A C:List V),zx (ze zez (zeD L) 0 L zsR) zt8 n (zjM z A C) K=zuP L (fun D=>K .ret (zsW D)) (K (.exit 0) (zve)) n z A C:=by
 intro n; induction n <;> intros
 ·rfl
 ·exact (zQf ..).trans (by simp only [*]; rfl)
def zIx{β:Type}(L:Nat)(A C:List V)(z:Int→Ob β):Ob β:=zSa L A C (fun D E F=>zuP L (fun G=>zzc L G z) (zB3 L z) L D E F)
theorem zXj{β:Type}(L:Nat)(z A:List V)(k:KK β):zh zez (zeD L) L cf_ref02_Cmp [(V.agg z),(V.agg A)] [] k=zIx L z A (fun z=>k (Qe z) []):=by
 refine (zXJ L z A k).trans ?_
 unfold zIx
 first
  | (simp only [zzh,zJd,zMp]; done)
  | (simp only [zzh]; rfl)
abbrev zer:=∀ (β:Type),Nat→List V→List V→(Int→Ob β)→Ob β
def zX:zer:=fun β=>@zIx β
def zdS(zX:zer)(L:Nat):Dk:=dA AG fun z=>dA AG fun A=>d0 fun β k=>zX β L z A (fun z=>k (Qe z) [])
theorem zWV(L:Nat):DK (zdS zX L) (fun _=>zh zez (zeD L) L cf_ref02_Cmp):=xv zak fun z=>xv zak fun A=>yK fun _ k=>zXj L z A k
def zEB:Hint:=⟨[(1,2)],[],[none],[],[],false,false,[]⟩
def zXm:CF:=cfD zEB 144
def z9T:Nat→Sh:=zj []
def yaG(zS:zcw)(zaW:zkN)(zX:zer)(L:Nat):CBC:=(xe 528 (zdS zX L) (xe 529 (zed zaW L) (xe 527 (zlM zS L) noC)))
def zZD{β:Type}(zS:zcw)(zaW:zkN)(zX:zer)(L:Nat)(A:List V)(E:Int)(z:Bool→Ob β):Ob β:=zS β L E (fun C F=>chk ((XK C)=4∧0+4≤4) (lt (zk [(Qd (0:Int)),(Qd (0:Int)),(Qd (0:Int)),(Qd (0:Int))] 0 C) fun D=>ifb ((F:Int)==(0:Int)) (chk (0+32≤(XK A)) (zaW β L (XL 32 A) (fun G=>chk (0+4≤(XK D)) (zX β L G (XL 4 D) (fun H=>z (decide (H≤(0:Int)))))))) (z false)))
abbrev zM2:=∀ (β:Type),Nat→List V→Int→(Bool→Ob β)→Ob β
def zNw:zM2:=fun β=>@zZD β zS zaW zX
def yaT(zNw:zM2)(L:Nat):Dk:=dA AG fun z=>dA (AI .u32) fun A=>d0 fun β k=>zNw β L z A (fun z=>k (V.sc (.bool z)) [])
def zDy:Hint:=⟨[(0,0),(11,4)],[],[none,none,none,none,none,some ((bl 4035225266123964418 107),(bl 162259276829213363391578010288067 107)),none,some ((bl 2 107),(bl 162259276829213363391578010288067 107)),none,none,some ((bl 4 107),(bl 162259276829213363391578010288069 107)),none],[],[],false,false,[]⟩
def cf_ref13_Valid:CF:=cfD zDy 149
def z4Y:CC:=xz [1,1,1,0,1,0,0] cf_ref13_Valid.body
def z73:CC:=xz [1,1,1,1] cf_ref13_Valid.body
def yaz:Nat→Sh:=zj [(12,(.int .i64)),(17,(.int .i64)),(22,(.int .u32)),(27,(.int .u32)),(31,(.int .i64)),(35,(.int .i64)),(40,(.int .i64)),(45,(.int .i64)),(50,(.int .i64)),(55,(.int .i64)),(59,(.sl 33)),(67,(.int .i64)),(71,(.int .i64)),(79,(.sl 33)),(84,(.int .i64)),(86,(.int .i64)),(94,(.int .u32))]
def z9I(zK:zcN)(zS:zcw)(zX:zer)(L:Nat):CBC:=(xe 528 (zdS zX L) (xe 527 (zlM zS L) (xe 553 (zdK zK L) noC)))
def z53:St→St:=yM 0 (bl 4035225266123964418 107) (bl 162259276829213363391578010288067 107)
def z3C(z:Ls)(A C:Int)(D:List V):St:=⟨(jn 1 ((V.ptr 1 0)::(jn 57 ((V.sl 33 z)::((Qe A)::((Qe C)::(jn 45 []))))))),(gn 1 ((.live true D)::(gn 105 [])))⟩
def z6b(z:Bool):St:=⟨(jn 2 ((V.sc (.bool z))::(jn 104 []))),(gn 107 [])⟩
def z74(z:List V):St:=⟨(jn 1 ((V.ptr 1 0)::(jn 105 []))),(gn 1 ((.live true z)::(gn 105 [])))⟩
def zZ8{β:Type}(zK:zcN)(zS:zcw)(zX:zer)(L:Nat)(A:List V)(z:Bool→Ob β)(C:Ls→Int→Int→List V→Ob β):Ob β:=chk (68+4≤(XK A)) (zK β L (XL 4 (XO 68 A)) (fun F=>ifb F (z false) (cI .i64 A 72 fun G=>ifb (decide (G<(1:Int))) (z false) (cI .i64 A 72 fun H=>ifb (decide (H>(4096:Int))) (z false) (cI .u32 A 73 fun I=>ifb (decide (I<(1:Int))) (z false) (cI .u32 A 73 fun J=>ifb (decide (J>(1048576:Int))) (z false) (cI .i64 A 77 fun M=>ifb (decide (M<(0:Int))) (z false) (cI .i64 A 77 fun N=>ifb (decide (N>(2100000000000000:Int))) (z false) (cI .i64 A 78 fun O=>ifb (decide (O<(1:Int))) (z false) (cI .i64 A 78 fun P=>ifb (decide (P>(16777216:Int))) (z false) (cI .i64 A 79 fun Q=>ifb (decide (Q<(0:Int))) (z false) (cI .i64 A 79 fun E=>ifb (decide (E>(16777216:Int))) (z false) (cLd 33 A 76 fun D=>C D ((XK D:Nat):Int) (0:Int) A)))))))))))))
def zOu{β:Type}(zK:zcN)(zS:zcw)(zX:zer)(L:Nat)(D:Ls)(E A:Int)(G:List V)(C:Bool→Ob β)(z:Ls→Int→Int→List V→Ob β)(I:List V→Ob β):Ob β:=ifb (decide (A<E)) (idx D A fun H=>chk ((XK (XL 33 H))=33∧0+33≤33) (lt (zk ([(Qe (0:Int))]++We 32 (Qa (0:Int))) 0 (XL 33 H)) fun F=>cI .i64 F 0 fun J=>ifb (decide (J<(1:Int))) (C false) (cI .i64 F 0 fun M=>ifb (decide (M>(16777216:Int))) (C false) (ifb (decide (A>(0:Int))) (cLd 33 G 76 fun N=>lt (QG .i64 ((A:Int)-(1:Int))) fun O=>idx N O fun P=>cI .i64 P 0 fun Q=>cI .i64 F 0 fun R=>ifb (decide (Q≥R)) (C false) (lt (QG .i64 ((A:Int)+(1:Int))) fun S=>z D E S G)) (lt (QG .i64 ((A:Int)+(1:Int))) fun T=>z D E T G))))) (I G)
def zIY{β:Type}(zK:zcN)(zS:zcw)(zX:zer)(L:Nat)(A:Bool)(z:Bool→Ob β):Ob β:=z A
def zI8{β:Type}(zK:zcN)(zS:zcw)(zX:zer)(L:Nat)(D:List V)(z:Bool→Ob β):Ob β:=cI .u32 D 66 fun E=>zS β L E (fun A F=>chk ((XK A)=4∧0+4≤4) (lt (zk [(Qd (0:Int)),(Qd (0:Int)),(Qd (0:Int)),(Qd (0:Int))] 0 A) fun C=>ifb ((F:Int)==(0:Int)) (chk (0+4≤(XK C)) (chk (68+4≤(XK D)) (zX β L (XL 4 C) (XL 4 (XO 68 D)) (fun G=>z (decide (G≤(0:Int))))))) (z false)))
def zwB{β:Type}(zK:zcN)(zS:zcw)(zX:zer)(L:Nat)(z:Bool→Ob β)(A:List V→Ob β):Nat→Ls→Int→Int→List V→Ob β
 | 0,_,_,_,_=>none
 | n+1,C,D,E,F=>zOu zK zS zX L C D E F z (fun C D E F=>zwB zK zS zX L z A n C D E F) A
def zZ7{β:Type}(zK:zcN)(zS:zcw)(zX:zer)(L:Nat)(F:List V)(z:Bool→Ob β):Ob β:=zZ8 zK zS zX L F z (fun C D E A=>zwB zK zS zX L (fun G=>zIY zK zS zX L G z) (fun A=>zI8 zK zS zX L A z) L C D E A)
abbrev zNM:=∀ (β:Type),Nat→List V→(Bool→Ob β)→Ob β
def zMV:zNM:=fun β=>@zZ7 β zK zS zX
def yaU(zMV:zNM)(L:Nat):Dk:=dA AG fun z=>d0 fun β k=>zMV β L z (fun z=>k (V.sc (.bool z)) [])
def zzw:Hint:=⟨[],[],[none,some ((bl 76 40),(bl 1099511627727 40)),none,some ((bl 12 40),(bl 1099511627727 40)),none,none,some ((bl 16 40),(bl 1099511627731 40)),none,some ((bl 16 40),(bl 1099511627731 40)),none,none,none,none,none,none],[],[],false,false,[]⟩
def cf_ref09_Compare:CF:=cfD zzw 183
def zmz:CC:=xz [1,0,1,0,0] cf_ref09_Compare.body
def zqP:CC:=xz [1,1] cf_ref09_Compare.body
def zcc:Nat→Sh:=zj [(12,(.int .u8)),(16,(.int .u8)),(21,(.int .u8)),(25,(.int .u8)),(30,(.int .u32)),(32,(.int .u32)),(36,(.int .u32)),(38,(.int .u32))]
def zcb(L:Nat):CBC:=noC
def znq:St→St:=yM 0 (bl 76 40) (bl 1099511627727 40)
def zgB(z:Int)(A C:List V):St:=⟨(jn 2 ((V.ptr 2 0)::((V.ptr 3 0)::(jn 2 ((Qe z)::(jn 33 [])))))),(gn 2 ((.live true A)::((.live true C)::(gn 36 []))))⟩
def zl7(z:Int):St:=⟨(jn 4 ((Qe z)::(jn 35 []))),(gn 40 [])⟩
def znu(z A:List V):St:=⟨(jn 2 ((V.ptr 2 0)::((V.ptr 3 0)::(jn 36 [])))),(gn 2 ((.live true z)::((.live true A)::(gn 36 []))))⟩
def zG0{β:Type}(L:Nat)(A C:List V)(z:Int→List V→List V→Ob β):Ob β:=z (0:Int) A C
theorem zPK{β:Type}(L:Nat)(z A:List V)(k:KK β):zh zcc (zcb L) L cf_ref09_Compare [(V.agg z),(V.agg A)] [] k=zG0 L z A (fun C D E=>zx (ze zcc (zcb L) 0 L zmz) znq L (zgB C D E) (xi 0 (yv (ze zcc (zcb L) 0 L zqP) (zD 0 (CF.res cf_ref09_Compare) k)))):=by kernel_rfl
def zw1{β:Type}(L:Nat)(z:Int)(D E:List V)(A:Int→Ob β)(C:Int→List V→List V→Ob β)(F:List V→List V→Ob β):Ob β:=ifb (decide (z<(32:Int))) (chk (0≤z∧z<((32:Nat):Int)) (cI .u8 D (0+((XM z)*1)) fun G=>chk (0≤z∧z<((32:Nat):Int)) (cI .u8 E (0+((XM z)*1)) fun H=>ifb (decide (G<H)) (A (-1:Int)) (chk (0≤z∧z<((32:Nat):Int)) (cI .u8 D (0+((XM z)*1)) fun I=>chk (0≤z∧z<((32:Nat):Int)) (cI .u8 E (0+((XM z)*1)) fun J=>ifb (decide (I>J)) (A (1:Int)) (lt (QG .i64 ((z:Int)+(1:Int))) fun M=>C M D E))))))) (F D E)
theorem zIn{β:Type}(L:Nat)(C:Int)(z A:List V)(X:St→Ob β)(K:KT β):ze zcc (zcb L) 0 L zmz (zgB C z A) (yH znq X K)=zw1 L C z A (fun D=>K .ret (zl7 D)) (fun C z A=>X (zgB C z A)) (fun z A=>K (.exit 0) (znu z A)):=by kernel_rfl
def zrQ{β:Type}(L:Nat)(A:Int)(z:Int→Ob β):Ob β:=z A
theorem zCs{β:Type}(L:Nat)(z:Int)(k:KK β):(xi 0 (yv (ze zcc (zcb L) 0 L zqP) (zD 0 (CF.res cf_ref09_Compare) k))) .ret (zl7 z)=zrQ L z (fun A=>k (Qe A) []):=by kernel_rfl
def ztE{β:Type}(L:Nat)(A C:List V)(z:Int→Ob β):Ob β:=cI .u32 A 32 fun D=>cI .u32 C 32 fun E=>ifb (decide (D<E)) (z (-1:Int)) (cI .u32 A 32 fun F=>cI .u32 C 32 fun G=>ifb (decide (F>G)) (z (1:Int)) (z (0:Int)))
theorem zD4{β:Type}(L:Nat)(z A:List V)(k:KK β):(xi 0 (yv (ze zcc (zcb L) 0 L zqP) (zD 0 (CF.res cf_ref09_Compare) k))) (.exit 0) (znu z A)=ztE L z A (fun C=>k (Qe C) []):=by kernel_rfl
def znE{β:Type}(L:Nat)(z:Int→Ob β)(A:List V→List V→Ob β):Nat→Int→List V→List V→Ob β
 | 0,_,_,_=>none
 | n+1,C,D,E=>zw1 L C D E z (fun C D E=>znE L z A n C D E) A
theorem zrB{β:Type}(L:Nat)(K:KT β):∀ (n:Nat) (C:Int) (z A:List V),zx (ze zcc (zcb L) 0 L zmz) znq n (zgB C z A) K=znE L (fun D=>K .ret (zl7 D)) (fun z A=>K (.exit 0) (znu z A)) n C z A:=by
 intro n; induction n <;> intros
 ·rfl
 ·exact (zIn ..).trans (by simp only [*]; rfl)
def zv8{β:Type}(L:Nat)(D E:List V)(z:Int→Ob β):Ob β:=zG0 L D E (fun F A C=>znE L (fun G=>zrQ L G z) (fun A C=>ztE L A C z) L F A C)
theorem zPm{β:Type}(L:Nat)(z A:List V)(k:KK β):zh zcc (zcb L) L cf_ref09_Compare [(V.agg z),(V.agg A)] [] k=zv8 L z A (fun z=>k (Qe z) []):=by
 refine (zPK L z A k).trans ?_
 unfold zv8
 first
  | (simp only [zrB,zCs,zD4]; done)
  | (simp only [zrB]; rfl)
abbrev zaT:=∀ (β:Type),Nat→List V→List V→(Int→Ob β)→Ob β
def zy:zaT:=fun β=>@zv8 β
def zok(zy:zaT)(L:Nat):Dk:=dA AG fun z=>dA AG fun A=>d0 fun β k=>zy β L z A (fun z=>k (Qe z) [])
theorem zOE(L:Nat):DK (zok zy L) (fun _=>zh zcc (zcb L) L cf_ref09_Compare):=xv zak fun z=>xv zak fun A=>yK fun _ k=>zPm L z A k
def zEg:Hint:=⟨[(0,0),(6,3)],[],[none,none,none,some ((bl 14680074 80),(bl 1208335523803170957426635 80)),none,some ((bl 0 80),(bl 1208335523803170957426625 80)),none,none,some ((bl 4 80),(bl 1208335523803170957426629 80)),none,some ((bl 4 80),(bl 1208335523803170957426629 80)),none,some ((bl 4 80),(bl 1208335523803170957426629 80)),none],[],[],false,false,[]⟩
def cf_ref23_Sound:CF:=cfD zEg 164
def zmd:CC:=xz [1,1,1,0,1,0,0] cf_ref23_Sound.body
def zqW:CC:=xz [1,1,1,1] cf_ref23_Sound.body
def zcT:Nat→Sh:=zj [(7,(.int .i64)),(11,(.int .i64)),(16,(.sl 37)),(21,(.sl 37)),(32,(.sl 37)),(45,(.int .i64)),(50,(.int .i64)),(52,(.int .i64)),(57,(.int .i64)),(62,(.int .i64)),(68,(.sl 1)),(75,(.int .i64))]
def zcR(zy:zaT)(L:Nat):CBC:=(xe 136 (zok zy L) noC)
def zn3:St→St:=yM 0 (bl 14680074 80) (bl 1208335523803170957426635 80)
def zgP(D:Int)(z:Ls)(A C:Int)(E:List V):St:=⟨(jn 1 ((V.ptr 1 0)::(jn 1 ((Qe D)::(jn 17 ((V.sl 37 z)::((Qe A)::((Qe C)::(jn 56 []))))))))),(gn 1 ((.live true E)::(gn 78 [])))⟩
def zpk(z:Bool):St:=⟨(jn 2 ((V.sc (.bool z))::(jn 77 []))),(gn 80 [])⟩
def zre:St:=⟨(jn 80 []),(gn 80 [])⟩
def zNh{β:Type}(zy:zaT)(L:Nat)(C:List V)(z:Bool→Ob β)(A:Int→Ls→Int→Int→List V→Ob β):Ob β:=cI .i64 C 0 fun E=>ifb (decide (E<(0:Int))) (z false) (cI .i64 C 0 fun F=>ifb (decide (F>(16777216:Int))) (z false) (cLd 37 C 33 fun G=>ifb (decide (((XK G:Nat):Int)>(100000:Int))) (z false) (cLd 37 C 33 fun D=>A (0:Int) D ((XK D:Nat):Int) (0:Int) C)))
theorem zTk{β:Type}(zy:zaT)(L:Nat)(z:List V)(k:KK β):zh zcT (zcR zy L) L cf_ref23_Sound [(V.agg z)] [] k=zNh zy L z (fun z=>k (V.sc (.bool z)) []) (fun E A C D F=>zx (ze zcT (zcR zy L) 0 L zmd) zn3 L (zgP E A C D F) (xi 0 (yv (ze zcT (zcR zy L) 0 L zqW) (zD 0 (CF.res cf_ref23_Sound) k)))):=by kernel_rfl
def zwX{β:Type}(zy:zaT)(L:Nat)(M:Int)(E:Ls)(F D:Int)(G:List V)(z:Bool→Ob β)(C:Int→Ls→Int→Int→List V→Ob β)(J:Ob β):Ob β:=ifb (decide (D<F)) (idx E D fun N=>chk ((XK (XL 37 N))=37∧0+37≤37) (lt (zk (We 32 (Qa (0:Int))++[(Qc (0:Int)),(Qe (0:Int)),(V.gs 1 ([]:Ls)),(Qe (0:Int)),(V.sc (.bool false))]) 0 (XL 37 N)) fun A=>ifb (decide (D>(0:Int))) (cLd 37 G 33 fun v6=>lt (QG .i64 ((D:Int)-(1:Int))) fun x7=>idx v6 x7 fun c8=>chk (0+33≤(XK A)) (zy β L (XL 33 c8) (XL 33 A) (fun v9=>ifb (decide (v9≥(0:Int))) (z false) (cI .i64 A 35 fun O=>ifb (decide (O<(1:Int))) (z false) (cI .i64 A 35 fun P=>cI .i64 G 0 fun Q=>ifb (decide (P>Q)) (z false) (cI .i64 A 33 fun R=>ifb (decide (R<(0:Int))) (z false) (cI .i64 A 33 fun S=>ifb (decide (S>(2100000000000000:Int))) (z false) (cLd 1 A 34 fun T=>ifb (decide (((XK T:Nat):Int)>(520:Int))) (z false) (cI .i64 A 33 fun U=>lt (QG .i64 ((M:Int)+U)) fun H=>ifb (decide (H>(2100000000000000:Int))) (z false) (lt (QG .i64 ((D:Int)+(1:Int))) fun W=>C H E F W G)))))))))) (cI .i64 A 35 fun X=>ifb (decide (X<(1:Int))) (z false) (cI .i64 A 35 fun Y=>cI .i64 G 0 fun Z=>ifb (decide (Y>Z)) (z false) (cI .i64 A 33 fun aa=>ifb (decide (aa<(0:Int))) (z false) (cI .i64 A 33 fun ab=>ifb (decide (ab>(2100000000000000:Int))) (z false) (cLd 1 A 34 fun ac=>ifb (decide (((XK ac:Nat):Int)>(520:Int))) (z false) (cI .i64 A 33 fun ad=>lt (QG .i64 ((M:Int)+ad)) fun I=>ifb (decide (I>(2100000000000000:Int))) (z false) (lt (QG .i64 ((D:Int)+(1:Int))) fun ae=>C I E F ae G))))))))) (J)
theorem zIe{β:Type}(zy:zaT)(L:Nat)(D:Int)(z:Ls)(A C:Int)(E:List V)(X:St→Ob β)(K:KT β):ze zcT (zcR zy L) 0 L zmd (zgP D z A C E) (yH zn3 X K)=zwX zy L D z A C E (fun F=>K .ret (zpk F)) (fun D z A C E=>X (zgP D z A C E)) (K (.exit 0) (zre)):=by kernel_rfl
def zrE{β:Type}(zy:zaT)(L:Nat)(A:Bool)(z:Bool→Ob β):Ob β:=z A
theorem zCa{β:Type}(zy:zaT)(L:Nat)(z:Bool)(k:KK β):(xi 0 (yv (ze zcT (zcR zy L) 0 L zqW) (zD 0 (CF.res cf_ref23_Sound) k))) .ret (zpk z)=zrE zy L z (fun A=>k (V.sc (.bool A)) []):=by kernel_rfl
def ztz{β:Type}(zy:zaT)(L:Nat)(z:Bool→Ob β):Ob β:=z true
theorem zDM{β:Type}(zy:zaT)(L:Nat)(k:KK β):(xi 0 (yv (ze zcT (zcR zy L) 0 L zqW) (zD 0 (CF.res cf_ref23_Sound) k))) (.exit 0) (zre)=ztz zy L (fun z=>k (V.sc (.bool z)) []):=by kernel_rfl
def znp{β:Type}(zy:zaT)(L:Nat)(z:Bool→Ob β)(A:Ob β):Nat→Int→Ls→Int→Int→List V→Ob β
 | 0,_,_,_,_,_=>none
 | n+1,F,C,D,E,G=>zwX zy L F C D E G z (fun F C D E G=>znp zy L z A n F C D E G) A
theorem zr5{β:Type}(zy:zaT)(L:Nat)(K:KT β):∀ (n:Nat) (D:Int) (z:Ls) (A C:Int) (E:List V),zx (ze zcT (zcR zy L) 0 L zmd) zn3 n (zgP D z A C E) K=znp zy L (fun F=>K .ret (zpk F)) (K (.exit 0) (zre)) n D z A C E:=by
 intro n; induction n <;> intros
 ·rfl
 ·exact (zIe ..).trans (by simp only [*]; rfl)
def zAi{β:Type}(zy:zaT)(L:Nat)(E:List V)(z:Bool→Ob β):Ob β:=zNh zy L E z (fun F A C D G=>znp zy L (fun H=>zrE zy L H z) (ztz zy L z) L F A C D G)
theorem zTy{β:Type}(zy:zaT)(L:Nat)(z:List V)(k:KK β):zh zcT (zcR zy L) L cf_ref23_Sound [(V.agg z)] [] k=zAi zy L z (fun z=>k (V.sc (.bool z)) []):=by
 refine (zTk zy L z k).trans ?_
 unfold zAi
 first
  | (simp only [zr5,zCa,zDM]; done)
  | (simp only [zr5]; rfl)
abbrev zM8:=∀ (β:Type),Nat→List V→(Bool→Ob β)→Ob β
def zm3:zM8:=fun β=>@zAi β zy
def zAd(zm3:zM8)(L:Nat):Dk:=dA AG fun z=>d0 fun β k=>zm3 β L z (fun z=>k (V.sc (.bool z)) [])
theorem zS6(L:Nat):DK (zAd zm3 L) (fun _=>zh zcT (zcR zy L) L cf_ref23_Sound):=xv zak fun z=>yK fun _ k=>zTy zy L z k
def zDd:Hint:=⟨[(0,0),(5,2)],[],[none,none,none,some ((bl 57344 23),(bl 8388523 23)),none,some ((bl 0 23),(bl 8388523 23)),none,none,some ((bl 16 23),(bl 8388539 23)),none],[],[],false,false,[]⟩
def cf_ref09_Final:CF:=cfD zDd 165
def znR:CC:=xz [1,1,0,1,0,0] cf_ref09_Final.body
def ztf:CC:=xz [1,1,1] cf_ref09_Final.body
def zcZ:Nat→Sh:=zj [(8,(.int .u32)),(13,(.sl 35)),(20,(.int .u32))]
def zcO(L:Nat):CBC:=noC
def zoZ:St→St:=yM 0 (bl 57344 23) (bl 8388523 23)
def zhh(z:Ls)(A C:Int):St:=⟨(jn 13 ((V.sl 35 z)::((Qe A)::((Qe C)::(jn 7 []))))),(gn 23 [])⟩
def zox(z:Bool):St:=⟨(jn 4 ((V.sc (.bool z))::(jn 18 []))),(gn 23 [])⟩
def zrb:St:=⟨(jn 23 []),(gn 23 [])⟩
def zMZ{β:Type}(L:Nat)(C:List V)(E:Int)(A:Bool→Ob β)(z:Ls→Int→Int→Ob β):Ob β:=cI .u32 C 3 fun F=>lt (QG .i64 F) fun G=>ifb (decide (G≤E)) (A true) (cLd 35 C 1 fun D=>z D ((XK D:Nat):Int) (0:Int))
theorem zS1{β:Type}(L:Nat)(z:List V)(A:Int)(k:KK β):zh zcZ (zcO L) L cf_ref09_Final [(V.agg z),(Qe A)] [] k=zMZ L z A (fun z=>k (V.sc (.bool z)) []) (fun C D E=>zx (ze zcZ (zcO L) 0 L znR) zoZ L (zhh C D E) (xi 0 (yv (ze zcZ (zcO L) 0 L ztf) (zD 0 (CF.res cf_ref09_Final) k)))):=by kernel_rfl
def zzs{β:Type}(L:Nat)(D:Ls)(E A:Int)(C:Bool→Ob β)(z:Ls→Int→Int→Ob β)(F:Ob β):Ob β:=ifb (decide (A<E)) (idx D A fun G=>chk ((XK (XL 35 G))=35∧0+35≤35) (lt (zk (We 32 (Qa (0:Int))++[(Qc (0:Int)),(Qc (0:Int)),(V.gs 1 ([]:Ls))]) 0 (XL 35 G)) fun H=>cI .u32 H 33 fun I=>ifb ((I:Int) != (4294967295:Int)) (C false) (lt (QG .i64 ((A:Int)+(1:Int))) fun J=>z D E J))) (F)
theorem zJ1{β:Type}(L:Nat)(z:Ls)(A C:Int)(X:St→Ob β)(K:KT β):ze zcZ (zcO L) 0 L znR (zhh z A C) (yH zoZ X K)=zzs L z A C (fun D=>K .ret (zox D)) (fun z A C=>X (zhh z A C)) (K (.exit 0) (zrb)):=by kernel_rfl
def ztt{β:Type}(L:Nat)(A:Bool)(z:Bool→Ob β):Ob β:=z A
theorem zEZ{β:Type}(L:Nat)(z:Bool)(k:KK β):(xi 0 (yv (ze zcZ (zcO L) 0 L ztf) (zD 0 (CF.res cf_ref09_Final) k))) .ret (zox z)=ztt L z (fun A=>k (V.sc (.bool A)) []):=by kernel_rfl
def zuU{β:Type}(L:Nat)(z:Bool→Ob β):Ob β:=z true
theorem zFt{β:Type}(L:Nat)(k:KK β):(xi 0 (yv (ze zcZ (zcO L) 0 L ztf) (zD 0 (CF.res cf_ref09_Final) k))) (.exit 0) (zrb)=zuU L (fun z=>k (V.sc (.bool z)) []):=by kernel_rfl
def zoy{β:Type}(L:Nat)(z:Bool→Ob β)(A:Ob β):Nat→Ls→Int→Int→Ob β
 | 0,_,_,_=>none
 | n+1,C,D,E=>zzs L C D E z (fun C D E=>zoy L z A n C D E) A
theorem ztD{β:Type}(L:Nat)(K:KT β):∀ (n:Nat) (z:Ls) (A C:Int),zx (ze zcZ (zcO L) 0 L znR) zoZ n (zhh z A C) K=zoy L (fun D=>K .ret (zox D)) (K (.exit 0) (zrb)) n z A C:=by
 intro n; induction n <;> intros
 ·rfl
 ·exact (zJ1 ..).trans (by simp only [*]; rfl)
def zAL{β:Type}(L:Nat)(E:List V)(F:Int)(z:Bool→Ob β):Ob β:=zMZ L E F z (fun A C D=>zoy L (fun G=>ztt L G z) (zuU L z) L A C D)
theorem zSW{β:Type}(L:Nat)(z:List V)(A:Int)(k:KK β):zh zcZ (zcO L) L cf_ref09_Final [(V.agg z),(Qe A)] [] k=zAL L z A (fun z=>k (V.sc (.bool z)) []):=by
 refine (zS1 L z A k).trans ?_
 unfold zAL
 first
  | (simp only [ztD,zEZ,zFt]; done)
  | (simp only [ztD]; rfl)
abbrev zNm:=∀ (β:Type),Nat→List V→Int→(Bool→Ob β)→Ob β
def zjx:zNm:=fun β=>@zAL β
def zsD(zjx:zNm)(L:Nat):Dk:=dA AG fun z=>dA (AI .i64) fun A=>d0 fun β k=>zjx β L z A (fun z=>k (V.sc (.bool z)) [])
theorem zS3(L:Nat):DK (zsD zjx L) (fun _=>zh zcZ (zcO L) L cf_ref09_Final):=xv zak fun z=>xv zbN fun A=>yK fun _ k=>zSW L z A k
def zGz:Hint:=⟨[],[],[none],[],[],false,false,[]⟩
def zM1:CF:=cfD zGz 15
def zAe:Nat→Sh:=zj []
def zAU(L:Nat):CBC:=noC
def zEL{β:Type}(L:Nat)(A C:Ls)(z:Bool→Ob β):Ob β:=zXt A fun D=>zXt C fun E=>z (ByteArray.toList D==ByteArray.toList E)
theorem zUs{β:Type}(L:Nat)(z A:Ls)(k:KK β):zh zAe (zAU L) L zM1 [(V.sl 1 z),(V.sl 1 A)] [] k=zEL L z A (fun z=>k (V.sc (.bool z)) []):=by kernel_rfl
abbrev zgZ:=∀ (β:Type),Nat→Ls→Ls→(Bool→Ob β)→Ob β
def zW:zgZ:=fun β=>@zEL β
def zpQ(zW:zgZ)(L:Nat):Dk:=dA (AL 1) fun z=>dA (AL 1) fun A=>d0 fun β k=>zW β L z A (fun z=>k (V.sc (.bool z)) [])
theorem zUy(L:Nat):DK (zpQ zW L) (fun _=>zh zAe (zAU L) L zM1):=xv zaZ fun z=>xv zaZ fun A=>yK fun _ k=>zUs L z A k
def zFJ:Hint:=⟨[],[],[none],[],[],false,false,[]⟩
def zAZ:CF:=cfD zFJ 30
def zAv:Nat→Sh:=zj []
def zAm(xh:zT)(xJ:zcQ)(L:Nat):CBC:=(xe 454 (ziC xJ L) (xe 455 (zdX xh L) noC))
def zC1{β:Type}(xh:zT)(xJ:zcQ)(L:Nat)(A:List V)(z:List V→Ob β):Ob β:=chk (0+68≤(XK A)) (xh β L (XL 68 A) (fun E=>xJ β L E (fun C=>chk ((XK C)=32∧0+32≤32) (lt (zk (We 32 (Qa (0:Int))) 0 C) fun D=>chk (0=0∧(XK D)=32∧32≠0) (z D)))))
theorem zUG{β:Type}(xh:zT)(xJ:zcQ)(L:Nat)(z:List V)(k:KK β):zh zAv (zAm xh xJ L) L zAZ [(V.agg z)] [] k=zC1 xh xJ L z (fun z=>k (V.agg z) []):=by kernel_rfl
abbrev zpw:=∀ (β:Type),Nat→List V→(List V→Ob β)→Ob β
def za6:zpw:=fun β=>@zC1 β xh xJ
def zEN(za6:zpw)(L:Nat):Dk:=dA AG fun z=>d0 fun β k=>za6 β L z (fun z=>k (V.agg z) [])
theorem zVV(L:Nat):DK (zEN za6 L) (fun _=>zh zAv (zAm xh xJ L) L zAZ):=xv zak fun z=>yK fun _ k=>zUG xh xJ L z k
end
end
section
theorem zHA(n:Int):0≤QG .u64 n:=by
 unfold QG
 simp only [IntKind.signed,Bool.false_and,WP,if_false]
 exact Int.emod_nonneg _ (by decide)
def zgs(p n:Int):Int:=
 ior .u32 (zgp .u32 p (zgv .u64 (QG .u64 (QG .i64 (0-n))) 31)) (zcM .u32 p (QG .u64 (32-(zgv .u64 (QG .u64 (QG .i64 (0-n))) 31))))
theorem z4G{β:Type}(L:Nat)(p n:Int)(k:Int→Option β):xx β L p n k=k (ior .u32 (zgp .u32 p (zgv .u64 (QG .u64 n) 31)) (zcM .u32 p (QG .u64 (32-(zgv .u64 (QG .u64 n) 31))))):=by
 unfold xx ziP
 simp only [yt]
 rw [yf (show 0≤zgv .u64 (QG .u64 n) 31 from zHA _),yf (zHA _)]
theorem z4u{β:Type}(L:Nat)(p n:Int)(k:Int→Option β):xf β L p n k=k (zgs p n):=by
 unfold xf zMK
 simp only [yt]
 rw [z4G]; exact Eq.trans rfl rfl
theorem z8j{β:Type}(L:Nat)(p n:Int)(k:Int→Option β):yh β L p n k=k (zgs p n):=by
 unfold yh zDY
 simp only [yt]
 rw [z4G]; exact Eq.trans rfl rfl
theorem zao{β:Type}{k:IntKind}{l:List Int}{j:Nat}(h:j<l.length)(κ:Int→Option β):cI k (row k l) j κ=κ (l.getD j 0):=
 zhi (by simp [row,h]) κ
theorem zj6{k:IntKind}{w:List Int}{j:Nat}(h:j<w.length)(x:Int):zk (row k w) j [V.sc (.int k x)]=row k (w.set j x):=by
 rw [z6i (by rw [xr]; exact h)]
 simp [row]
theorem z5O{t c:Nat}(h:c≤t)(h2:t≤1000000):QG .i64 ((t:Int)-(c:Int))=((t-c:Nat):Int):=by
 rw [zas (by omega) (by omega)]; omega
def s2(w:List Int)(t:Nat):Int:=
 QG .u32 (QG .u32 (QG .u32 (w.getD (t-16) 0+zdH .u32 (zdH .u32 (zgs (w.getD (t-15) 0) 7) (zgs (w.getD (t-15) 0) 18)) (zcM .u32 (w.getD (t-15) 0) 3))+w.getD (t-7) 0)+zdH .u32 (zdH .u32 (zgs (w.getD (t-2) 0) 17) (zgs (w.getD (t-2) 0) 19)) (zcM .u32 (w.getD (t-2) 0) 10))
def zPN:Nat→Nat→List Int→List Int
 | 0,_,w=>w
 | m+1,t,w=>zPN m (t+1) (w.set t (s2 w t))
theorem z1K:∀ (m t:Nat) (w:List Int),(zPN m t w).length=w.length
 | 0,_,_=>rfl
 | m+1,t,w=>by rw [zPN,z1K m]; simp
theorem zZd{β:Type}(L:Nat){t:Nat}(h1:16≤t)(h2:t<64)(b2:List V){w:List Int}(hw:w.length=64)(kh:Int→List V→List V→Option β)(kx:List V→List V→Option β):zd1 xf L (t:Int) b2 (row .u32 w) kh kx=kh ((t+1:Nat):Int) b2 (row .u32 (w.set t (s2 w t))):=by
 unfold zd1
 have e15:QG .i64 ((t:Int)-(15:Int))=((t-15:Nat):Int):=z5O (c:=15) (by omega) (by omega)
 have e2:QG .i64 ((t:Int)-(2:Int))=((t-2:Nat):Int):=z5O (c:=2) (by omega) (by omega)
 have e16:QG .i64 ((t:Int)-(16:Int))=((t-16:Nat):Int):=z5O (c:=16) (by omega) (by omega)
 have e7:QG .i64 ((t:Int)-(7:Int))=((t-7:Nat):Int):=z5O (c:=7) (by omega) (by omega)
 have c15:0≤((t-15:Nat):Int)∧((t-15:Nat):Int)<((64:Nat):Int):=by omega
 have c2:0≤((t-2:Nat):Int)∧((t-2:Nat):Int)<((64:Nat):Int):=by omega
 have c16:0≤((t-16:Nat):Int)∧((t-16:Nat):Int)<((64:Nat):Int):=by omega
 have c7:0≤((t-7:Nat):Int)∧((t-7:Nat):Int)<((64:Nat):Int):=by omega
 have c0:0≤(t:Int)∧(t:Int)<((64:Nat):Int):=by omega
 have cl:True∧t+1≤64:=⟨trivial,by omega⟩
 rw [zI (by omega:(t:Int)<64)]
 simp only [yt,e15,e2,e16,e7,yf c15,yf c2,yf c16,yf c7,yf c0,XQ,XT,WB,z4u,zao (show t-15<w.length by omega),zao (show t-2<w.length by omega),zao (show t-16<w.length by omega),zao (show t-7<w.length by omega),xr,hw,zj6 (show t<w.length by omega),zeh (show t≤1000000000 by omega)]
 rw [yf cl]
 exact Eq.trans rfl rfl
theorem z5m{β:Type}(L:Nat){t:Nat}(h1:16≤t)(h2:t<64)(b2:List V){w:List Int}(hw:w.length=64)(kh:Int→List V→List V→Option β)(kx:List V→List V→Option β):zeA yh L (t:Int) b2 (row .u32 w) kh kx=kh ((t+1:Nat):Int) b2 (row .u32 (w.set t (s2 w t))):=
 (show zeA yh L (t:Int) b2 (row .u32 w) kh kx=zd1 xf L (t:Int) b2 (row .u32 w) kh kx from rfl).trans (zZd L h1 h2 b2 hw kh kx)
theorem zZw{β:Type}(L:Nat)(b2:List V)(kx:List V→List V→Option β):∀ (n m t:Nat) (w:List Int),w.length=64→16≤t→t+m=64→m<n→zd3 xf L kx n (t:Int) b2 (row .u32 w)=kx b2 (row .u32 (zPN m t w))
 | 0,m,t,w,_,_,_,h=>by omega
 | n+1,0,t,w,hw,h1,h2,h=>by
  unfold zd3 zd1
  rw [zG (by omega)]; exact Eq.trans rfl rfl
 | n+1,m+1,t,w,hw,h1,h2,h=>by
  unfold zd3
  rw [zZd L h1 (by omega) b2 hw]
  exact zZw L b2 kx n m (t+1) _ (by simpa using hw) (by omega) (by omega) (by omega)
theorem zU0{β:Type}(L:Nat)(b2:List V)(kx:List V→List V→Option β):∀ (n m t:Nat) (w:List Int),w.length=64→16≤t→t+m=64→m<n→zcY yh L kx n (t:Int) b2 (row .u32 w)=kx b2 (row .u32 (zPN m t w))
 | 0,m,t,w,_,_,_,h=>by omega
 | n+1,0,t,w,hw,h1,h2,h=>by
  unfold zcY zeA
  rw [zG (by omega)]; exact Eq.trans rfl rfl
 | n+1,m+1,t,w,hw,h1,h2,h=>by
  unfold zcY
  rw [z5m L h1 (by omega) b2 hw]
  exact zU0 L b2 kx n m (t+1) _ (by simpa using hw) (by omega) (by omega) (by omega)
theorem zSp{n:Int}(h1:0≤n)(h2:n<4294967296):QG .u32 n=n:=zkx h1 (by omega)
theorem zQ0{a b:Int}{n:Nat}(ha:0≤a)(hb:0≤b)(hb2:b<2 ^ n)(hs:a*2 ^ n+b<4294967296):ior .u32 (a*2 ^ n) b=a*2 ^ n+b:=by
 obtain ⟨x,rfl⟩:=XY ha
 obtain ⟨y,rfl⟩:=XY hb
 have hy:y<2 ^ n:=by exact_mod_cast hb2
 have e:((x:Int)*2 ^ n)=((x*2 ^ n:Nat):Int):=by rw [Int.natCast_mul,Int.natCast_pow]; rfl
 rw [e] at hs ⊢
 have hxy:x*2 ^ n+y<4294967296:=by omega
 unfold ior
 have q1:(BitVec.ofInt (XH .u32) ((x*2 ^ n:Nat):Int)).toNat=x*2 ^ n:=by
  rw [BitVec.toNat_ofInt]
  show (((x*2 ^ n:Nat):Int) % ((2 ^ 32:Nat):Int)).toNat=_
  rw [← Int.natCast_emod,XQ,Nat.mod_eq_of_lt (by omega)]
 have q2:(BitVec.ofInt (XH .u32) (y:Int)).toNat=y:=by
  rw [BitVec.toNat_ofInt]
  show ((y:Int) % ((2 ^ 32:Nat):Int)).toNat=_
  rw [← Int.natCast_emod,XQ,Nat.mod_eq_of_lt (by omega)]
 rw [BitVec.toNat_or,q1,q2,← Nat.shiftLeft_eq,← Nat.shiftLeft_add_eq_or_of_lt hy,Nat.shiftLeft_eq]
 rw [zSp (by omega) (by omega),Int.natCast_add]
theorem zLy{a:Int}(n:Nat)(hn:n≤32)(ha:0≤a)(hs:a*2 ^ n<4294967296):zgp .u32 a (n:Int)=a*2 ^ n:=by
 unfold zgp
 have:min (XM (n:Int)) (XH .u32)=n:=by
  rw [XQ]; exact Nat.min_eq_left hn
 rw [this]
 have h0:0≤a*2 ^ n:=Int.mul_nonneg ha (Int.le_of_lt (Int.pow_pos (by decide)))
 exact zSp h0 hs
theorem zj3{l:List Int}(h:∀ x∈l,0≤x∧x≤255)(i:Nat):0≤l.getD i 0∧l.getD i 0≤255:=by
 rw [Ws]
 by_cases hi:i<l.length
 ·rw [Wc hi]; exact h _ (List.getElem_mem hi)
 ·rw [List.getElem?_eq_none (by omega)]; simp
theorem zix{w:List Int}{t:Nat}(h:t<w.length)(x:Int):(w.set t x).getD t 0=x:=by
 simp [Ws,h]
theorem getD_set_ne{w:List Int}{t i:Nat}(h:t≠i)(x:Int):(w.set t x).getD i 0=w.getD i 0:=by
 simp [Ws,List.getElem?_set_ne h]
def zMC(l:List Int)(t:Nat):Int:=
 ((l.getD (4*t) 0*256+l.getD (4*t+1) 0)*256+l.getD (4*t+2) 0)*256+l.getD (4*t+3) 0
theorem z9U{x y:Int}(h0:0≤x)(h1:x<16777216)(b0:0≤y)(b1:y≤255):ior .u32 (zgp .u32 x (8:Int)) y=x*256+y:=by
 have e1:zgp .u32 x (8:Int)=x*2 ^ 8:=zLy 8 (by decide) h0 (by omega)
 rw [e1,zQ0 (n:=8) h0 b0 (by omega) (by omega)]; exact Eq.trans rfl rfl
theorem yb2{a b c d:Int}(ha:0≤a∧a≤255)(hb:0≤b∧b≤255)(hc:0≤c∧c≤255)(hd:0≤d∧d≤255):ior .u32 (ior .u32 (ior .u32 (zgp .u32 a (24:Int)) (zgp .u32 b (16:Int))) (zgp .u32 c (8:Int))) d=((a*256+b)*256+c)*256+d:=by
 have e1:zgp .u32 a (24:Int)=a*2 ^ 24:=zLy 24 (by decide) ha.1 (by omega)
 have e2:zgp .u32 b (16:Int)=b*2 ^ 16:=zLy 16 (by decide) hb.1 (by omega)
 have e3:zgp .u32 c (8:Int)=c*2 ^ 8:=zLy 8 (by decide) hc.1 (by omega)
 rw [e1,e2,e3,zQ0 (n:=24) ha.1 (by omega) (by omega) (by omega)]
 rw [show a*2 ^ 24+b*2 ^ 16=(a*256+b)*2 ^ 16 by omega,zQ0 (n:=16) (by omega) (by omega) (by omega) (by omega)]
 rw [show (a*256+b)*2 ^ 16+c*2 ^ 8=((a*256+b)*256+c)*2 ^ 8 by omega,zQ0 (n:=8) (by omega) (by omega) (by omega) (by omega)]
 omega
theorem z5Z{t:Nat}(h:t≤1000000):QG .i64 ((4:Int)*(t:Int))=((4*t:Nat):Int):=by
 rw [zas (by omega) (by omega)]; omega
theorem zTJ{a b:Nat}(h:a≤1000000000)(h2:b≤1000000000):QG .i64 ((a:Int)+(b:Int))=((a+b:Nat):Int):=by
 rw [zas (by omega) (by omega)]; omega
theorem yaM{β:Type}(L:Nat){t j:Nat}(ht:t<16)(hj:j<4)(b2:List V){l w:List Int}(hl:l.length=64)(hb:∀ x∈l,0≤x∧x≤255)(hw:w.length=64){x:Int}(hx:w.getD t 0=x)(h0:0≤x)(h1:x<16777216)(kh:Int→Int→Int→List V→List V→List V→Option β)(kx:Int→List V→List V→List V→Option β):zbi xf L (t:Int) (t:Int) (j:Int) (row .u8 l) b2 (row .u32 w) kh kx=kh (t:Int) (t:Int) ((j+1:Nat):Int) (row .u8 l) b2 (row .u32 (w.set t (x*256+l.getD (4*t+j) 0))):=by
 unfold zbi
 have bb:=zj3 hb (4*t+j)
 have e4:QG .i64 ((4:Int)*(t:Int))=((4*t:Nat):Int):=z5Z (by omega)
 have e5:QG .i64 (((4*t:Nat):Int)+(j:Int))=((4*t+j:Nat):Int):=zTJ (by omega) (by omega)
 have e6:QG .u32 (l.getD (4*t+j) 0)=l.getD (4*t+j) 0:=zkx bb.1 (by omega)
 have e7:ior .u32 (zgp .u32 x (8:Int)) (l.getD (4*t+j) 0)=x*256+l.getD (4*t+j) 0:=z9U h0 h1 bb.1 bb.2
 have c0:0≤(t:Int)∧(t:Int)<((64:Nat):Int):=by omega
 have c5:0≤((4*t+j:Nat):Int)∧((4*t+j:Nat):Int)<((64:Nat):Int):=by omega
 have cl:True∧t+1≤64:=⟨trivial,by omega⟩
 rw [zI (by omega:(j:Int)<4)]
 simp only [yt,e4,e5,yf c0,yf c5,XQ,XT,WB,zao (show t<w.length by omega),zao (show 4*t+j<l.length by omega),hx,e6,e7,xr,hw,zj6 (show t<w.length by omega),zeh (show j≤1000000000 by omega)]
 rw [yf cl]
theorem zLW{β:Type}(L n:Nat){t j:Nat}(ht:t<16)(hj:j<4)(b2:List V){l w:List Int}(hl:l.length=64)(hb:∀ x∈l,0≤x∧x≤255)(hw:w.length=64){x:Int}(hx:w.getD t 0=x)(h0:0≤x)(h1:x<16777216)(kx:Int→List V→List V→List V→Option β):zaz xf L kx (n+1) (t:Int) (t:Int) (j:Int) (row .u8 l) b2 (row .u32 w)=zaz xf L kx n (t:Int) (t:Int) ((j+1:Nat):Int) (row .u8 l) b2 (row .u32 (w.set t (x*256+l.getD (4*t+j) 0))):=
 (show zaz xf L kx (n+1) (t:Int) (t:Int) (j:Int) (row .u8 l) b2 (row .u32 w)=zbi xf L (t:Int) (t:Int) (j:Int) (row .u8 l) b2 (row .u32 w) (fun p4 p9 p12 b1 b2 b3=>zaz xf L kx n p4 p9 p12 b1 b2 b3) kx from rfl).trans (yaM L ht hj b2 hl hb hw hx h0 h1 _ _)
theorem z9J{β:Type}(L n:Nat){t:Nat}(ht:t<16)(b2:List V){l w:List Int}(hl:l.length=64)(hb:∀ x∈l,0≤x∧x≤255)(hw:w.length=64)(hx:w.getD t 0=0)(kx:Int→List V→List V→List V→Option β):zaz xf L kx (n+5) (t:Int) (t:Int) ((0:Nat):Int) (row .u8 l) b2 (row .u32 w)=kx (t:Int) (row .u8 l) b2 (row .u32 (w.set t (zMC l t))):=by
 have htw:t<w.length:=by omega
 have a0:=zj3 hb (4*t+0)
 have a1:=zj3 hb (4*t+1)
 have a2:=zj3 hb (4*t+2)
 have a3:=zj3 hb (4*t+3)
 refine (zLW L (n+4) ht (j:=0) (by decide) b2 hl hb hw hx (by decide) (by decide) kx).trans ?_
 refine (zLW L (n+3) ht (j:=1) (by decide) b2 hl hb (by simpa using hw) (zix htw _) (by omega) (by omega) kx).trans ?_
 rw [XZ]
 refine (zLW L (n+2) ht (j:=2) (by decide) b2 hl hb (by simpa using hw) (zix htw _) (by omega) (by omega) kx).trans ?_
 rw [XZ]
 refine (zLW L (n+1) ht (j:=3) (by decide) b2 hl hb (by simpa using hw) (zix htw _) (by omega) (by omega) kx).trans ?_
 rw [XZ]
 have e:(((0*256+l.getD (4*t+0) 0)*256+l.getD (4*t+1) 0)*256+l.getD (4*t+2) 0)*256+l.getD (4*t+3) 0=zMC l t:=by
  unfold zMC; rw [Nat.add_zero,Int.zero_mul,Int.zero_add]
 rw [e]
 refine (show _=zbi xf L (t:Int) (t:Int) ((3+1:Nat):Int) (row .u8 l) b2 (row .u32 (w.set t (zMC l t))) (fun p4 p9 p12 b1 b2 b3=>zaz xf L kx n p4 p9 p12 b1 b2 b3) kx from rfl).trans ?_
 unfold zbi
 rw [zG (by omega)]
def zOK:Nat→Nat→List Int→List Int→List Int
 | 0,_,_,w=>w
 | m+1,t,l,w=>zOK m (t+1) l (w.set t (zMC l t))
theorem zLF:∀ (m t:Nat) (l w:List Int),(zOK m t l w).length=w.length
 | 0,_,_,_=>rfl
 | m+1,t,l,w=>by rw [zOK,zLF m]; simp
theorem z79{β:Type}{L:Nat}(hL:5≤L){t:Nat}(ht:t<16)(b2:List V){l w:List Int}(hl:l.length=64)(hb:∀ x∈l,0≤x∧x≤255)(hw:w.length=64)(hx:w.getD t 0=0)(k0:List V→List V→Option β)(kh:Int→List V→List V→List V→Option β):zdY xf L (t:Int) (row .u8 l) b2 (row .u32 w) k0 kh=kh ((t+1:Nat):Int) (row .u8 l) b2 (row .u32 (w.set t (zMC l t))):=by
 obtain ⟨n,rfl⟩:=XU hL
 unfold zdY zja
 rw [zI (by omega:(t:Int)<16)]
 rw [Nat.add_comm 5 n]
 refine (z9J (n+5) n ht b2 hl hb hw hx _).trans ?_
 unfold zfX
 rw [yt,zeh (by omega)]
theorem z2h{β:Type}{L:Nat}(hL:5≤L)(b2:List V){l:List Int}(hl:l.length=64)(hb:∀ x∈l,0≤x∧x≤255)(k0:List V→List V→Option β):∀ (n m t:Nat) (w:List Int),w.length=64→(∀ i,t≤i→w.getD i 0=0)→t+m=16→m<n→zen xf L k0 n (t:Int) (row .u8 l) b2 (row .u32 w)=k0 b2 (row .u32 (zOK m t l w))
 | 0,m,t,w,_,_,_,h=>by omega
 | n+1,0,t,w,hw,hz,h1,h=>by
  unfold zen zdY zja
  rw [zG (by omega)]; exact Eq.trans rfl rfl
 | n+1,m+1,t,w,hw,hz,h1,h=>by
  unfold zen
  rw [z79 hL (by omega) b2 hl hb hw (hz t (Nat.le_refl t))]
  exact z2h hL b2 hl hb k0 n m (t+1) _ (by simpa using hw) (fun i hi=>by rw [getD_set_ne (by omega)]; exact hz i (by omega)) (by omega) (by omega)
theorem z7m{β:Type}(L:Nat){t:Nat}(ht:t<16)(b2:List V){l w:List Int}(hl:l.length=64)(hb:∀ x∈l,0≤x∧x≤255)(hw:w.length=64)(kh:Int→List V→List V→List V→Option β)(k0:List V→List V→Option β):zeU yh L (t:Int) (row .u8 l) b2 (row .u32 w) kh k0=kh ((t+1:Nat):Int) (row .u8 l) b2 (row .u32 (w.set t (zMC l t))):=by
 unfold zeU
 have a0:=zj3 hb (4*t)
 have a1:=zj3 hb (4*t+1)
 have a2:=zj3 hb (4*t+2)
 have a3:=zj3 hb (4*t+3)
 have e4:QG .i64 ((4:Int)*(t:Int))=((4*t:Nat):Int):=z5Z (by omega)
 have e1:QG .i64 (((4*t:Nat):Int)+(1:Int))=((4*t+1:Nat):Int):=zTJ (b:=1) (by omega) (by omega)
 have e2:QG .i64 (((4*t:Nat):Int)+(2:Int))=((4*t+2:Nat):Int):=zTJ (b:=2) (by omega) (by omega)
 have e3:QG .i64 (((4*t:Nat):Int)+(3:Int))=((4*t+3:Nat):Int):=zTJ (b:=3) (by omega) (by omega)
 have c0:0≤(t:Int)∧(t:Int)<((64:Nat):Int):=by omega
 have c4:0≤((4*t:Nat):Int)∧((4*t:Nat):Int)<((64:Nat):Int):=by omega
 have c1:0≤((4*t+1:Nat):Int)∧((4*t+1:Nat):Int)<((64:Nat):Int):=by omega
 have c2:0≤((4*t+2:Nat):Int)∧((4*t+2:Nat):Int)<((64:Nat):Int):=by omega
 have c3:0≤((4*t+3:Nat):Int)∧((4*t+3:Nat):Int)<((64:Nat):Int):=by omega
 have cl:True∧t+1≤64:=⟨trivial,by omega⟩
 rw [zI (by omega:(t:Int)<16)]
 simp only [yt,e4,e1,e2,e3,yf c0,yf c4,yf c1,yf c2,yf c3,XQ,XT,WB,zao (show 4*t<l.length by omega),zao (show 4*t+1<l.length by omega),zao (show 4*t+2<l.length by omega),zao (show 4*t+3<l.length by omega),zkx a0.1 (show l.getD (4*t) 0≤4294967295 by omega),zkx a1.1 (show l.getD (4*t+1) 0≤4294967295 by omega),zkx a2.1 (show l.getD (4*t+2) 0≤4294967295 by omega),zkx a3.1 (show l.getD (4*t+3) 0≤4294967295 by omega),yb2 a0 a1 a2 a3,xr,hw,zj6 (show t<w.length by omega),zeh (show t≤1000000000 by omega)]
 rw [yf cl]
 exact Eq.trans rfl rfl
theorem zZu{β:Type}(L:Nat)(b2:List V){l:List Int}(hl:l.length=64)(hb:∀ x∈l,0≤x∧x≤255)(k0:List V→List V→Option β):∀ (n m t:Nat) (w:List Int),w.length=64→t+m=16→m<n→zdr yh L k0 n (t:Int) (row .u8 l) b2 (row .u32 w)=k0 b2 (row .u32 (zOK m t l w))
 | 0,m,t,w,_,_,h=>by omega
 | n+1,0,t,w,hw,h1,h=>by
  unfold zdr zeU
  rw [zG (by omega)]; exact Eq.trans rfl rfl
 | n+1,m+1,t,w,hw,h1,h=>by
  unfold zdr
  rw [z7m L (by omega) b2 hl hb hw]
  exact zZu L b2 hl hb k0 n m (t+1) _ (by simpa using hw) (by omega) (by omega)
def zsE(l:List Int):List Int:=zPN 48 16 (zOK 16 0 l (We 64 0))
theorem zlT(l:List Int):(zsE l).length=64:=by
 unfold zsE; rw [z1K,zLF]; rfl
theorem zxL(n:Nat)(k:IntKind)(x:Int):We n (V.sc (.int k x))=row k (We n x):=by simp [row]
theorem z8m(n i:Nat):(We n (0:Int)).getD i 0=0:=by
 rw [Ws]
 by_cases hi:i<n
 ·simp [hi]
 ·simp [hi]
theorem zY0{β:Type}{w:List Int}(hw:w.length=64)(z:List Int)(hz:z.length=64)(k:List V→Option β) :
  chk (0+64≤(XK (row .u32 w))) (chk ((XK (XL 64 (row .u32 w)))=64∧0+64≤(XK (row .u32 z))) (
   lt (zk (row .u32 z) 0 (XL 64 (row .u32 w))) fun r41=>chk (0=0∧(XK r41)=64∧64≠0) (k r41)))=k (row .u32 w):=by
 have e:XL 64 (row .u32 w)=row .u32 w:=XE (by rw [xr]; omega)
 rw [yt,e,zc3 (by rw [xr,xr]; omega)]
 rw [yf (by rw [xr]; omega),yf ⟨by rw [xr]; omega,by rw [xr]; omega⟩,yf ⟨rfl,by rw [xr]; omega,by decide⟩]
theorem z3H{β:Type}{L:Nat}(hL:100≤L){l:List Int}(hl:l.length=64)(hb:∀ x∈l,0≤x∧x≤255)(k:List V→Option β):zC β L (row .u8 l) k=k (row .u32 (zsE l)):=by
 unfold zC zqj zyc
 rw [zxL]
 refine (z2h (by omega) _ hl hb _ L 16 0 _ rfl (fun i _=>?_) rfl (by omega)).trans ?_
 ·exact z8m 64 i
 unfold zgR zlf
 refine (zZw L _ _ L 48 16 _ (by rw [zLF]; rfl) (by omega) rfl (by omega)).trans ?_
 unfold zkg
 exact zY0 (zlT l) _ rfl k
theorem z2F{β:Type}{L:Nat}(hL:100≤L){l:List Int}(hl:l.length=64)(hb:∀ x∈l,0≤x∧x≤255)(k:List V→Option β):xw β L (row .u8 l) k=k (row .u32 (zsE l)):=by
 unfold xw zmv zs8
 rw [zxL]
 refine (zZu L _ hl hb _ L 16 0 _ rfl rfl (by omega)).trans ?_
 unfold zfJ zjt
 refine (zU0 L _ _ L 48 16 _ (by rw [zLF]; rfl) (by omega) rfl (by omega)).trans ?_
 unfold ziS
 exact zY0 (zlT l) _ rfl k
end
section
def kc:List Int:=gk_sha_k.map fun v=>match v with | .sc (.int _ n)=>n | _=>0
theorem z7D:gk_sha_k=row .u32 kc:=rfl
theorem z6V:kc.length=64:=rfl
def t1(e f g h kk ww:Int):Int:=
 QG .u32 (QG .u32 (QG .u32 (QG .u32 (h+zdH .u32 (zdH .u32 (zgs e 6) (zgs e 11)) (zgs e 25))+zdH .u32 (zgv .u32 e f) (zgv .u32 (z1v .u32 e) g))+kk)+ww)
def t2(a b c:Int):Int:=
 QG .u32 (zdH .u32 (zdH .u32 (zgs a 2) (zgs a 13)) (zgs a 22)+zdH .u32 (zdH .u32 (zgv .u32 a b) (zgv .u32 a c)) (zgv .u32 b c))
def zB8{γ:Type}(w:List Int)(κ:Int→Int→Int→Int→Int→Int→Int→Int→γ):Nat→Nat→Int→Int→Int→Int→Int→Int→Int→Int→γ
 | 0,_,a,b,c,d,e,f,g,h=>κ a b c d e f g h
 | m+1,t,a,b,c,d,e,f,g,h=>zB8 w κ m (t+1) (QG .u32 (t1 e f g h (kc.getD t 0) (w.getD t 0)+t2 a b c)) a b c (QG .u32 (d+t1 e f g h (kc.getD t 0) (w.getD t 0))) e f g
theorem zHb{γ δ:Type}(u:γ→δ)(w:List Int)(κ:Int→Int→Int→Int→Int→Int→Int→Int→γ):∀ (m t:Nat) (a b c d e f g h:Int),zB8 w (fun a b c d e f g h=>u (κ a b c d e f g h)) m t a b c d e f g h=u (zB8 w κ m t a b c d e f g h)
 | 0,_,_,_,_,_,_,_,_,_=>rfl
 | m+1,t,a,b,c,d,e,f,g,h=>zHb u w κ m (t+1) _ _ _ _ _ _ _ _
theorem zSP{γ:Type}(u:γ)(w:List Int):∀ (m t:Nat) (a b c d e f g h:Int),zB8 w (fun _ _ _ _ _ _ _ _=>u) m t a b c d e f g h=u
 | 0,_,_,_,_,_,_,_,_,_=>rfl
 | m+1,t,a,b,c,d,e,f,g,h=>zSP u w m (t+1) _ _ _ _ _ _ _ _
theorem z7s{β:Type}(L:Nat){t:Nat}(ht:t<64)(a b c d e f g h:Int)(b2:List V)(z0 z1 z2 z3 z4 z5 z6 z7:Int){w:List Int}(hw:w.length=64)(kh:zkz β)(kx:zmA β):zeY zC xf L a b c d e f g h (t:Int) b2 z0 z1 z2 z3 z4 z5 z6 z7 (row .u32 w) kh kx=kh (QG .u32 (t1 e f g h (kc.getD t 0) (w.getD t 0)+t2 a b c)) a b c (QG .u32 (d+t1 e f g h (kc.getD t 0) (w.getD t 0))) e f g ((t+1:Nat):Int) b2 z0 z1 z2 z3 z4 z5 z6 z7 (row .u32 w):=by
 unfold zeY
 have c0:0≤(t:Int)∧(t:Int)<((64:Nat):Int):=by omega
 have ek:∀ κ:Int→Option β,cI .u32 (XO t gk_sha_k) 0 κ=κ (kc.getD t 0):=by
  intro κ
  rw [z7D,z9d,zao (by rw [XS,z6V]; omega)]
  simp [Ws]
 rw [zI (by omega:(t:Int)<64)]
 simp only [yt,yf c0,z4u,XQ,XT,WB,ek,zao (show t<w.length by omega),zeh (show t≤1000000000 by omega)]
 exact Eq.trans rfl rfl
theorem z5h{β:Type}(L:Nat){t:Nat}(ht:t<64)(a b c d e f g h:Int)(b2:List V)(z0 z1 z2 z3 z4 z5 z6 z7:Int){w:List Int}(hw:w.length=64)(kh:zju β)(kx:zj5 β):zeu xw xu yh L a b c d e f g h (t:Int) b2 z0 z1 z2 z3 z4 z5 z6 z7 (row .u32 w) gk_sha_k kh kx=kh (QG .u32 (t1 e f g h (kc.getD t 0) (w.getD t 0)+t2 a b c)) a b c (QG .u32 (d+t1 e f g h (kc.getD t 0) (w.getD t 0))) e f g ((t+1:Nat):Int) b2 z0 z1 z2 z3 z4 z5 z6 z7 (row .u32 w) gk_sha_k:=by
 unfold zeu
 have c0:0≤(t:Int)∧(t:Int)<((64:Nat):Int):=by omega
 have ek:∀ κ:Int→Option β,cI .u32 gk_sha_k t κ=κ (kc.getD t 0):=by
  intro κ
  rw [z7D,zao (by rw [z6V]; omega)]
 rw [zI (by omega:(t:Int)<64)]
 simp only [yt,yf c0,z8j,XQ,XT,WB,ek,zao (show t<w.length by omega),zeh (show t≤1000000000 by omega)]
 exact Eq.trans rfl rfl
theorem zZy{β:Type}(L:Nat)(b2:List V)(z0 z1 z2 z3 z4 z5 z6 z7:Int){w:List Int}(hw:w.length=64)(kx:zmA β):∀ (n m t:Nat) (a b c d e f g h:Int),t+m=64→m<n→zdq zC xf L kx n a b c d e f g h (t:Int) b2 z0 z1 z2 z3 z4 z5 z6 z7 (row .u32 w)=zB8 w (fun a b c d e f g h=>kx a b c d e f g h b2 z0 z1 z2 z3 z4 z5 z6 z7) m t a b c d e f g h
 | 0,m,t,_,_,_,_,_,_,_,_,_,h=>by omega
 | n+1,0,t,a,b,c,d,e,f,g,h,h1,h2=>by
  unfold zdq zeY
  rw [zG (by omega)]; exact Eq.trans rfl rfl
 | n+1,m+1,t,a,b,c,d,e,f,g,h,h1,h2=>by
  unfold zdq
  rw [z7s L (by omega) a b c d e f g h b2 z0 z1 z2 z3 z4 z5 z6 z7 hw]
  exact zZy L b2 z0 z1 z2 z3 z4 z5 z6 z7 hw kx n m (t+1) _ _ _ _ _ _ _ _ (by omega) (by omega)
theorem zUI{β:Type}(L:Nat)(b2:List V)(z0 z1 z2 z3 z4 z5 z6 z7:Int){w:List Int}(hw:w.length=64)(kx:zj5 β):∀ (n m t:Nat) (a b c d e f g h:Int),t+m=64→m<n→zcX xw xu yh L kx n a b c d e f g h (t:Int) b2 z0 z1 z2 z3 z4 z5 z6 z7 (row .u32 w) gk_sha_k=zB8 w (fun a b c d e f g h=>kx a b c d e f g h b2 z0 z1 z2 z3 z4 z5 z6 z7) m t a b c d e f g h
 | 0,m,t,_,_,_,_,_,_,_,_,_,h=>by omega
 | n+1,0,t,a,b,c,d,e,f,g,h,h1,h2=>by
  unfold zcX zeu
  rw [zG (by omega)]; exact Eq.trans rfl rfl
 | n+1,m+1,t,a,b,c,d,e,f,g,h,h1,h2=>by
  unfold zcX
  rw [z5h L (by omega) a b c d e f g h b2 z0 z1 z2 z3 z4 z5 z6 z7 hw]
  exact zUI L b2 z0 z1 z2 z3 z4 z5 z6 z7 hw kx n m (t+1) _ _ _ _ _ _ _ _ (by omega) (by omega)
def zB5(hs:List Int)(a b c d e f g h:Int):List Int:=
 [QG .u32 (hs.getD 0 0+a),QG .u32 (hs.getD 1 0+b),QG .u32 (hs.getD 2 0+c),QG .u32 (hs.getD 3 0+d),QG .u32 (hs.getD 4 0+e),QG .u32 (hs.getD 5 0+f),QG .u32 (hs.getD 6 0+g),QG .u32 (hs.getD 7 0+h)]
def zL9(hs l:List Int):List Int:=
 zB8 (zsE l) (zB5 hs) 64 0 (hs.getD 0 0) (hs.getD 1 0) (hs.getD 2 0) (hs.getD 3 0) (hs.getD 4 0) (hs.getD 5 0) (hs.getD 6 0) (hs.getD 7 0)
theorem zsF(hs l:List Int):(zL9 hs l).length=8:=
 ((zHb XK (zsE l) (zB5 hs) 64 0 _ _ _ _ _ _ _ _).symm).trans (zSP 8 (zsE l) 64 0 _ _ _ _ _ _ _ _)
theorem z8H{β:Type}(L:Nat){hs:List Int}(hh:hs.length=8)(k:List V→Option β)(a b c d e f g h z0 z1 z2 z3 z4 z5 z6 z7:Int):zf0 zC xf L a b c d e f g h (row .u32 hs) z0 z1 z2 z3 z4 z5 z6 z7 k=k (row .u32 (zB5 hs a b c d e f g h)):=by
 unfold zf0
 simp only [yt,zao (show 0<hs.length by omega),zao (show 1<hs.length by omega),zao (show 2<hs.length by omega),zao (show 3<hs.length by omega),zao (show 4<hs.length by omega),zao (show 5<hs.length by omega),zao (show 6<hs.length by omega),zao (show 7<hs.length by omega)]
 exact (yf ⟨trivial,rfl,by decide⟩ _).trans rfl
theorem z7u{β:Type}(L:Nat){hs:List Int}(hh:hs.length=8)(k:List V→Option β)(a b c d e f g h z0 z1 z2 z3 z4 z5 z6 z7:Int):zfE xw xu yh L a b c d e f g h (row .u32 hs) z0 z1 z2 z3 z4 z5 z6 z7 k=k (row .u32 (zB5 hs a b c d e f g h)):=by
 unfold zfE
 simp only [yt,zao (show 0<hs.length by omega),zao (show 1<hs.length by omega),zao (show 2<hs.length by omega),zao (show 3<hs.length by omega),zao (show 4<hs.length by omega),zao (show 5<hs.length by omega),zao (show 6<hs.length by omega),zao (show 7<hs.length by omega)]
 exact (yf ⟨trivial,rfl,by decide⟩ _).trans rfl
theorem z3A{β:Type}{L:Nat}(hL:100≤L){hs l:List Int}(hh:hs.length=8)(hl:l.length=64)(hb:∀ x∈l,0≤x∧x≤255)(k:List V→Option β):xn β L (row .u32 hs) (row .u8 l) k=k (row .u32 (zL9 hs l)):=by
 unfold xn zqc zxH
 have e1:XL 64 (row .u8 l)=row .u8 l:=XE (by rw [xr]; omega)
 rw [yf (by rw [xr]; omega),e1]
 refine (z3H hL hl hb _).trans ?_
 rw [yf ⟨by rw [xr,zlT],by decide⟩,yt,zc3 (by rw [xr,zlT]; rfl)]
 rw [zao (show 0<hs.length by omega),zao (show 1<hs.length by omega),zao (show 2<hs.length by omega),zao (show 3<hs.length by omega),zao (show 4<hs.length by omega),zao (show 5<hs.length by omega),zao (show 6<hs.length by omega),zao (show 7<hs.length by omega)]
 refine (zZy L (row .u32 hs) 0 0 0 0 0 0 0 0 (zlT l) _ L 64 0 _ _ _ _ _ _ _ _ rfl (by omega)).trans ?_
 simp only [z8H L hh]
 exact zHb (fun r=>k (row .u32 r)) (zsE l) (zB5 hs) 64 0 _ _ _ _ _ _ _ _
theorem z1C{β:Type}(L:Nat)(k:List V→Option β):xu β L k=k gk_sha_k:=by
 unfold xu zrp
 rw [yt]
 exact (yf ⟨rfl,rfl,by decide⟩ _).trans rfl
theorem z2C{β:Type}{L:Nat}(hL:100≤L){hs l:List Int}(hh:hs.length=8)(hl:l.length=64)(hb:∀ x∈l,0≤x∧x≤255)(k:List V→Option β):zl β L (row .u32 hs) (row .u8 l) k=k (row .u32 (zL9 hs l)):=by
 unfold zl zmT zs3
 have e1:XL 64 (row .u8 l)=row .u8 l:=XE (by rw [xr]; omega)
 rw [yf (by rw [xr]; omega),e1]
 refine (z2F hL hl hb _).trans ?_
 refine (z1C L _).trans ?_
 rw [yf ⟨by rw [xr,zlT],by decide⟩,yt,zc3 (cs:=We 64 (Qc (0:Int))) (new:=row .u32 (zsE l)) (by rw [xr,zlT]; rfl)]
 rw [yf ⟨rfl,by decide⟩,yt,zc3 (cs:=We 64 (Qc (0:Int))) (new:=gk_sha_k) rfl]
 rw [zao (show 0<hs.length by omega),zao (show 1<hs.length by omega),zao (show 2<hs.length by omega),zao (show 3<hs.length by omega),zao (show 4<hs.length by omega),zao (show 5<hs.length by omega),zao (show 6<hs.length by omega),zao (show 7<hs.length by omega)]
 refine (zUI L (row .u32 hs) 0 0 0 0 0 0 0 0 (zlT l) _ L 64 0 _ _ _ _ _ _ _ _ rfl (by omega)).trans ?_
 simp only [z7u L hh]
 exact zHb (fun r=>k (row .u32 r)) (zsE l) (zB5 hs) 64 0 _ _ _ _ _ _ _ _
end
section
def zs(n:Nat):Nat:=(64-(n+9) % 64) % 64
def pb(n i:Nat):Int:=QG .u8 (zcM .u64 (QG .u64 ((8:Int)*(n:Int))) ((56-8*i:Nat):Int))
def pbs(n:Nat):Nat→Nat→List Int
 | 0,_=>[]
 | m+1,i=>pb n i::pbs n m (i+1)
theorem z4H(n:Nat):∀ m i:Nat,(pbs n m i).length=m
 | 0,_=>rfl
 | m+1,i=>by rw [pbs,List.length_cons,z4H n m]
theorem zsn(n:Int):0≤QG .u8 n∧QG .u8 n≤255:=by
 unfold QG
 simp only [IntKind.signed,Bool.false_and,WP,if_false]
 have h1:=Int.emod_nonneg n (show (2:Int) ^ XH .u8≠0 by decide)
 have h2:=Int.emod_lt_of_pos n (show (0:Int)<2 ^ XH .u8 by decide)
 exact ⟨h1,Int.le_of_lt_add_one h2⟩
theorem z7E(n:Nat):∀ m i:Nat,∀ x∈pbs n m i,0≤x∧x≤255
 | 0,_=>fun x h=>by simp [pbs] at h
 | m+1,i=>fun x h=>by
  rw [pbs,List.mem_cons] at h
  rcases h with rfl | h
  ·exact zsn _
  ·exact z7E n m (i+1) x h
def zgU(n:Nat):List Int:=(128::We (zs n) 0)++pbs n 8 0
theorem zDc(n:Nat):(zgU n).length=9+zs n:=by simp [zgU,z4H]; omega
theorem z91(n:Nat):∀ x∈zgU n,0≤x∧x≤255:=by
 intro x hx
 rw [zgU,List.mem_append,List.mem_cons] at hx
 rcases hx with (rfl | hx) | hx
 ·exact ⟨by decide,by decide⟩
 ·rw [List.eq_of_mem_replicate hx]; exact ⟨by decide,by decide⟩
 ·exact z7E n 8 0 x hx
theorem zUb(n:Nat):zs n<64:=Nat.mod_lt _ (by decide)
theorem z7j(n:Nat):(n+9+zs n) % 64=0:=by unfold zs; omega
theorem ybY(n k:Nat)(h:k<zs n):(n+9+k) % 64≠0:=by unfold zs at h; omega
theorem zLK(x:Int):yl 1 1 [V.sc (.int .u8 x)]=yq .u8 [x]:=rfl
theorem z8F{β:Type}(L:Nat){n i:Nat}(hi:i<8)(b:Nat){acc:List Int}(ha:acc.length≤1000000)(kh:Int→Ls→Int→Nat→Option β)(kx:Ls→Nat→Option β):zha L (n:Int) (yq .u8 acc) (i:Int) b kh kx=kh (n:Int) (yq .u8 (acc++[pb n i])) ((i+1:Nat):Int) b:=by
 unfold zha
 have e8:QG .i64 ((8:Int)*(i:Int))=((8*i:Nat):Int):=by rw [zas (by omega) (by omega)]; omega
 have e56:QG .i64 ((56:Int)-((8*i:Nat):Int))=((56-8*i:Nat):Int):=by rw [zas (by omega) (by omega)]; omega
 rw [zI (by omega:(i:Int)<8)]
 simp only [yt,e8,e56,zLK,zbQ,zeh (show i≤1000000000 by omega)]
 rw [yf (by omega),yf (by simp [zF,xm]; omega)]
 exact Eq.trans rfl rfl
theorem z0Y{β:Type}(L n b:Nat)(kx:Ls→Nat→Option β):∀ (f m i:Nat) (acc:List Int),i+m=8→m<f→acc.length≤900000+i→zdF L kx f (n:Int) (yq .u8 acc) (i:Int) b=kx (yq .u8 (acc++pbs n m i)) b
 | 0,m,i,acc,_,h,_=>by omega
 | f+1,0,i,acc,h1,h2,h3=>by
  unfold zdF zha
  rw [zG (by omega),pbs,List.append_nil]
 | f+1,m+1,i,acc,h1,h2,h3=>by
  unfold zdF
  rw [z8F L (by omega) b (by omega)]
  refine (z0Y L n b kx f m (i+1) _ (by omega) (by omega) (by simp; omega)).trans ?_
  rw [pbs,Wu]; exact Eq.trans rfl rfl
theorem yaX{β:Type}{L:Nat}(hL:100≤L){n:Nat}(hn:n≤100000000)(k k1:Ls→Option β):xC β L (n:Int) k k1=k1 (yq .u8 (zgU n)):=by
 unfold xC zHO zOA
 have z64:=zUb n
 have e0:QG .u64 ((n:Int)+(9:Int))=((n+9:Nat):Int):=by rw [zbV (by omega) (by omega)]; omega
 have e1:XX ((n+9:Nat):Int) (64:Int)=(((n+9) % 64:Nat):Int):=(XV (n+9) 64).symm
 have e2:QG .u64 ((64:Int)-(((n+9) % 64:Nat):Int))=((64-(n+9) % 64:Nat):Int):=by rw [zbV (by omega) (by omega)]; omega
 have e3:XX ((64-(n+9) % 64:Nat):Int) (64:Int)=((zs n:Nat):Int):=(XV (64-(n+9) % 64) 64).symm
 have e4:QG .u64 ((1:Int)+((zs n:Nat):Int))=((1+zs n:Nat):Int):=by rw [zbV (by omega) (by omega)]; omega
 have e5:QG .u64 ((9:Int)+((zs n:Nat):Int))=((9+zs n:Nat):Int):=by rw [zbV (by omega) (by omega)]; omega
 have e6:List.flatten (We (9+zs n) [V.sc (.int .u8 (0:Int))])=row .u8 (We (9+zs n) 0):=by
  rw [List.flatten_replicate_singleton,zxL]
 have e7:zk (row .u8 (We (9+zs n) 0)) 0 [V.sc (.int .u8 (128:Int))]=row .u8 (128::We (8+zs n) 0):=by
  rw [zj6 (by simp; omega),show 9+zs n=(8+zs n)+1 by omega,List.replicate_succ,List.set_cons_zero]
 simp only [yt,e0,e1,e2,e3,e4,e5,XQ,e6,e7]
 rw [yf ⟨by omega,by omega,by simp [xm]; omega,by simp [xm]; omega⟩,yf ⟨by omega,by omega⟩,yf ⟨trivial,by simp [xr]; omega⟩]
 obtain ⟨L',rfl⟩:=XU hL
 rw [show 100+L'=(99+L')+1 by omega]
 refine (show _=zl2 (99+L'+1) (n:Int) (1+zs n) (0:Int) (row .u8 (128::We (8+zs n) 0)) (fun p0 p4 p18 b15=>zdF (99+L'+1) (fun p4 b15=>zgF (99+L'+1) p4 b15 k1) (99+L') p0 p4 p18 b15) (fun p4l b15=>zoC (99+L'+1) p4l b15 k) from rfl).trans ?_
 unfold zl2
 have e8:QG .i64 ((8:Int)*(0:Int))=((8*0:Nat):Int):=by rw [zas (by omega) (by omega)]; omega
 have e56:QG .i64 ((56:Int)-((8*0:Nat):Int))=((56-8*0:Nat):Int):=by rw [zas (by omega) (by omega)]; omega
 have e9:QG .i64 ((0:Int)+(1:Int))=((1:Nat):Int):=zeh (i:=0) (by omega)
 have ec:yl 1 (1+zs n) (row .u8 (128::We (8+zs n) 0))=yq .u8 (128::We (zs n) 0):=by
  rw [zCr _ _ _ (by simp; omega),show 1+zs n=zs n+1 by omega,List.take_succ_cons,List.take_replicate,show min (zs n) (8+zs n)=zs n by omega]
 rw [zI (by decide:(0:Int)<8)]
 simp only [yt,e8,e56,e9,zLK,ec,zbQ]
 rw [yf ⟨trivial,by simp [xr]; omega,by simp [xr]⟩,yf (by omega),yf (by simp [zF,xm]; omega)]
 refine (z0Y _ n _ _ (99+L') 7 1 _ rfl (by omega) (by simp; omega)).trans ?_
 unfold zgF zgU
 rw [pbs,Wu]; exact Eq.trans rfl rfl
theorem zWm{β:Type}(L:Nat){n:Nat}(hn:n≤100000000)(kx:Int→Ls→Option β):∀ (f m k:Nat),k+m=zs n→m<f→zjT L kx f (n:Int) (yq .u8 (128::We k 0))=kx (n:Int) (yq .u8 (128::We (zs n) 0))
 | 0,m,k,_,h=>by omega
 | f+1,m,k,h1,h2=>by
  have z64:=zUb n
  unfold zjT zul
  have e0:QG .u64 (((yq .u8 (128::We k 0)).length:Nat):Int)=((k+1:Nat):Int):=by
   rw [zF,List.length_cons,XR,zbV (by omega) (by omega)]
  have e1:QG .u64 ((n:Int)+((k+1:Nat):Int))=((n+(k+1):Nat):Int):=by rw [zbV (by omega) (by omega)]; omega
  have e2:QG .u64 (((n+(k+1):Nat):Int)+(8:Int))=((n+9+k:Nat):Int):=by rw [zbV (by omega) (by omega)]; omega
  have e3:XX ((n+9+k:Nat):Int) (64:Int)=(((n+9+k) % 64:Nat):Int):=(XV (n+9+k) 64).symm
  simp only [yt,e0,e1,e2,e3]
  rw [zlg]
  match m,h1,h2 with
  | 0,h1,h2=>
   have:k=zs n:=by omega
   subst this
   rw [if_pos (by rw [z7j]; rfl)]
  | m+1,h1,h2=>
   have hz:=ybY n k (by omega)
   rw [if_neg (by omega)]
   rw [zLK,zbQ]
   rw [yf (by simp [zF,xm]; omega)]
   have e4:(128::We k (0:Int))++[0]=128::We (k+1) 0:=by
    rw [List.cons_append,List.replicate_succ']
   rw [e4]
   exact zWm L hn kx f m (k+1) (by omega) (by omega)
theorem z6H{β:Type}(L:Nat){n i:Nat}(hi:i<8){acc:List Int}(ha:acc.length≤1000000)(kh:Int→Ls→Int→Option β)(kx:Ls→Option β):zhH L (n:Int) (yq .u8 acc) ((7:Int)-(i:Int)) kh kx=kh (n:Int) (yq .u8 (acc++[pb n i])) ((7:Int)-((i+1:Nat):Int)):=by
 unfold zhH
 have e8:QG .i64 ((8:Int)*((7:Int)-(i:Int)))=((56-8*i:Nat):Int):=by rw [zas (by omega) (by omega)]; omega
 have e1:QG .i64 (((7:Int)-(i:Int))-(1:Int))=(7:Int)-((i+1:Nat):Int):=by rw [zas (by omega) (by omega)]; omega
 rw [zI (by omega:(7:Int)-(i:Int)≥0)]
 simp only [yt,e8,e1,zLK,zbQ]
 rw [yf (by omega),yf (by simp [zF,xm]; omega)]
 exact Eq.trans rfl rfl
theorem zZh{β:Type}(L n:Nat)(kx:Ls→Option β):∀ (f m i:Nat) (acc:List Int),i+m=8→m<f→acc.length≤900000+i→zfL L kx f (n:Int) (yq .u8 acc) ((7:Int)-(i:Int))=kx (yq .u8 (acc++pbs n m i))
 | 0,m,i,acc,_,h,_=>by omega
 | f+1,0,i,acc,h1,h2,h3=>by
  unfold zfL zhH
  rw [zG (by omega),pbs,List.append_nil]
 | f+1,m+1,i,acc,h1,h2,h3=>by
  unfold zfL
  rw [z6H L (by omega) (by omega)]
  refine (zZh L n kx f m (i+1) _ (by omega) (by omega) (by simp; omega)).trans ?_
  rw [pbs,Wu]; exact Eq.trans rfl rfl
theorem z96{β:Type}{L:Nat}(hL:100≤L){n:Nat}(hn:n≤100000000)(k:Ls→Option β):yu β L (n:Int) k=k (yq .u8 (zgU n)):=by
 unfold yu zyj zI2
 have z64:=zUb n
 refine (zWm L hn _ L (zs n) 0 (by omega) (by omega)).trans ?_
 unfold zjA zro
 refine (zZh L n _ L 8 0 _ rfl (by omega) (by simp; omega)).trans ?_
 unfold znV zgU
 exact Eq.trans rfl rfl
theorem z6x{β:Type}{L:Nat}(hL:100≤L){a b:List Int}(ha:a.length≤1000000000)(hb:b.length≤1000000000)(k:Ls→Option β):xB β L (yl 1 2 [V.sl 1 (yq .u8 a),V.sl 1 (yq .u8 b)]) k=k (yq .u8 (a++b)):=by
 unfold xB zGa zP5
 obtain ⟨L',rfl⟩:=XU hL
 have es:yl 1 2 [V.sl 1 (yq .u8 a),V.sl 1 (yq .u8 b)]=[[V.sl 1 (yq .u8 a)],[V.sl 1 (yq .u8 b)]]:=rfl
 rw [es,show 100+L'=(97+L')+1+1+1 by omega]
 refine (show _=ze1 (97+L'+1+1+1) [] [[V.sl 1 (yq .u8 a)],[V.sl 1 (yq .u8 b)]] ((2:Nat):Int) ((0:Nat):Int) (fun p3 p6 p7 p8=>ziG (97+L'+1+1+1) _ (97+L'+1+1) p3 p6 p7 p8) (fun p3=>zgu (97+L'+1+1+1) p3 k) from rfl).trans ?_
 unfold ze1
 rw [zI (by decide),zaC (c:=[V.sl 1 (yq .u8 a)]) rfl,znb (sz:=1) (es:=yq .u8 a) rfl,yf (by simp [zF,xm]; omega),yt,List.nil_append,yt,zeh (i:=0) (by omega)]
 refine (show _=ze1 (97+L'+1+1+1) (yq .u8 a) [[V.sl 1 (yq .u8 a)],[V.sl 1 (yq .u8 b)]] ((2:Nat):Int) ((1:Nat):Int) (fun p3 p6 p7 p8=>ziG (97+L'+1+1+1) _ (97+L'+1) p3 p6 p7 p8) (fun p3=>zgu (97+L'+1+1+1) p3 k) from rfl).trans ?_
 unfold ze1
 rw [zI (by decide),zaC (c:=[V.sl 1 (yq .u8 b)]) rfl,znb (sz:=1) (es:=yq .u8 b) rfl,yf (by simp [zF,xm]; omega),yt,zbQ,yt,zeh (i:=1) (by omega)]
 refine (show _=ze1 (97+L'+1+1+1) (yq .u8 (a++b)) [[V.sl 1 (yq .u8 a)],[V.sl 1 (yq .u8 b)]] ((2:Nat):Int) ((2:Nat):Int) (fun p3 p6 p7 p8=>ziG (97+L'+1+1+1) _ (97+L') p3 p6 p7 p8) (fun p3=>zgu (97+L'+1+1+1) p3 k) from rfl).trans ?_
 unfold ze1
 rw [zG (by decide)]
 unfold zgu
 exact Eq.trans rfl rfl
end
section
def init0:List Int:=gk_sha_initial.map fun v=>match v with | .sc (.int _ n)=>n | _=>0
theorem zHm:init0.length=8:=rfl
def zPW:Nat→Nat→List Int→List Int→List Int
 | 0,_,_,h=>h
 | m+1,i,p,h=>zPW m (i+1) p (zL9 h ((p.drop (64*i)).take 64))
theorem zTm:∀ (m i:Nat) (p h:List Int),h.length=8→(zPW m i p h).length=8
 | 0,_,_,_,hh=>hh
 | m+1,i,p,h,hh=>by rw [zPW]; exact zTm m _ _ _ (zsF _ _)
theorem zPV(k:IntKind):∀ l:List Int,List.flatten (yq k l)=row k l
 | []=>rfl
 | x::l=>by
  have:=zPV k l
  simp only [yq,row] at this
  simp only [yq,row,List.map_cons,List.flatten_cons,this,List.singleton_append]
theorem zCA{p:List Int}{i:Nat}(h:64*(i+1)≤p.length):((p.drop (64*i)).take 64).length=64:=by
 rw [List.length_take,XS]; omega
theorem z7r{p:List Int}(hp:∀ x∈p,0≤x∧x≤255)(i:Nat):∀ x∈(p.drop (64*i)).take 64,0≤x∧x≤255:=
 fun x hx=>hp x (List.mem_of_mem_drop (List.mem_of_mem_take hx))
theorem z3Y(p:List Int)(n:Nat):XL ((yq .u8 p).length-n) (XO n (yq .u8 p))=yq .u8 (p.drop n):=by
 rw [zY8,XE (by rw [zF,zF,XS]; omega)]
theorem z8G{β:Type}{L:Nat}(hL:100≤L){p:List Int}(hp:∀ x∈p,0≤x∧x≤255)(hs:p.length≤1000000000){N i:Nat}(hi:i<N)(hN:64*(i+1)≤p.length)(b2:List V){h:List Int}(hh:h.length=8)(kh:Ls→Int→Int→List V→List V→Option β)(kx:List V→List V→Option β):zjV xC xB xn L (yq .u8 p) (N:Int) (i:Int) b2 (row .u32 h) kh kx=kh (yq .u8 p) (N:Int) ((i+1:Nat):Int) b2 (row .u32 (zL9 h ((p.drop (64*i)).take 64))):=by
 unfold zjV
 have e9:QG .i64 ((64:Int)*(i:Int))=((64*i:Nat):Int):=by rw [zas (by omega) (by omega)]; omega
 have e8:XL 8 (row .u32 h)=row .u32 h:=XE (by rw [xr]; omega)
 have ec:XL 64 (row .u8 ((p.drop (64*i)).take 64))=row .u8 ((p.drop (64*i)).take 64):=XE (by rw [xr,zCA hN]; omega)
 rw [zI (by omega:(i:Int)<(N:Int)),yf (by rw [xr]; omega),yt,e9,XQ,z3Y,zHs,zPV,e8,ec]
 rw [yf ⟨by omega,by rw [zF]; omega⟩,yf (by rw [zF,XS]; omega)]
 refine (z3A hL hh (zCA hN) (z7r hp i) _).trans ?_
 rw [yf ⟨by rw [xr,zsF],by rw [xr]; omega⟩,yt,yt,zc3 (by rw [xr,xr,zsF,hh]),zeh (by omega)]
theorem z22{β:Type}{L:Nat}(hL:100≤L){p:List Int}(hp:∀ x∈p,0≤x∧x≤255)(hs:p.length≤1000000000){N:Nat}(hN:64*N≤p.length)(b2:List V)(kx:List V→List V→Option β):∀ (f m i:Nat) (h:List Int),h.length=8→i+m=N→m<f→zhk xC xB xn L kx f (yq .u8 p) (N:Int) (i:Int) b2 (row .u32 h)=kx b2 (row .u32 (zPW m i p h))
 | 0,m,i,h,_,_,hf=>by omega
 | f+1,0,i,h,hh,h1,h2=>by
  unfold zhk zjV
  rw [zG (by omega)]; exact Eq.trans rfl rfl
 | f+1,m+1,i,h,hh,h1,h2=>by
  unfold zhk
  rw [z8G hL hp hs (by omega) (by omega) b2 hh]
  exact z22 hL hp hs hN b2 kx f m (i+1) _ (zsF _ _) (by omega) (by omega)
theorem z6W{β:Type}{L:Nat}(hL:100≤L){p:List Int}(hp:∀ x∈p,0≤x∧x≤255)(hs:p.length≤1000000000){i:Nat}(hN:64*(i+1)≤p.length)(b2:List V){h:List Int}(hh:h.length=8)(kh:Ls→Int→List V→List V→Option β)(kx:List V→List V→Option β):zhE yu ym zl L (yq .u8 p) ((64*i:Nat):Int) b2 (row .u32 h) kh kx=kh (yq .u8 p) ((64*(i+1):Nat):Int) b2 (row .u32 (zL9 h ((p.drop (64*i)).take 64))):=by
 unfold zhE
 have e9:QG .i64 (((64*i:Nat):Int)+(64:Int))=((64*(i+1):Nat):Int):=by rw [zas (by omega) (by omega)]; omega
 have e8:XL 8 (row .u32 h)=row .u32 h:=XE (by rw [xr]; omega)
 have em:min (yq .u8 (p.drop (64*i))).length 64=64:=by rw [zF,XS]; omega
 have er:zk (We 64 (Qa (0:Int))) 0 (row .u8 ((p.drop (64*i)).take 64))=row .u8 ((p.drop (64*i)).take 64):=zc3 (by rw [xr,zCA hN,XR])
 have ec:XL 64 (row .u8 ((p.drop (64*i)).take 64))=row .u8 ((p.drop (64*i)).take 64):=XE (by rw [xr,zCA hN]; omega)
 rw [yt,e9,zI (by rw [zF]; omega),XQ,z3Y,em,zHs,zPV,er,e8,yt,ec]
 rw [yf ⟨by omega,by rw [zF]; omega⟩,yf (by rw [xr]; omega),yf (by rw [xr,zCA hN]; omega)]
 refine (z2C hL hh (zCA hN) (z7r hp i) _).trans ?_
 rw [yf ⟨by rw [xr,zsF],by rw [xr]; omega⟩,yt,yt,zc3 (by rw [xr,xr,zsF,hh])]
theorem zZA{β:Type}{L:Nat}(hL:100≤L){p:List Int}(hp:∀ x∈p,0≤x∧x≤255)(hs:p.length≤1000000000){N:Nat}(hN:64*N=p.length)(b2:List V)(kx:List V→List V→Option β):∀ (f m i:Nat) (h:List Int),h.length=8→i+m=N→m<f→zfO yu ym zl L kx f (yq .u8 p) ((64*i:Nat):Int) b2 (row .u32 h)=kx b2 (row .u32 (zPW m i p h))
 | 0,m,i,h,_,_,hf=>by omega
 | f+1,0,i,h,hh,h1,h2=>by
  unfold zfO zhE
  have e9:QG .i64 (((64*i:Nat):Int)+(64:Int))=((64*(i+1):Nat):Int):=by rw [zas (by omega) (by omega)]; omega
  rw [yt,e9,zG (by rw [zF]; omega)]; exact Eq.trans rfl rfl
 | f+1,m+1,i,h,hh,h1,h2=>by
  unfold zfO
  rw [z6W hL hp hs (by omega) b2 hh]
  exact zZA hL hp hs hN b2 kx f m (i+1) _ (zsF _ _) (by omega) (by omega)
def ob(h:List Int)(i:Nat):Int:=QG .u8 (zcM .u32 (h.getD (i / 4) 0) ((24-i % 4*8:Nat):Int))
def zz5(h:List Int):List Int:=(List.range 32).map (ob h)
theorem zMO(h:List Int):(zz5 h).length=32:=by simp [zz5]
theorem z8h(h:List Int){i:Nat}(hi:i<32):(zz5 h).getD i 0=ob h i:=by
 simp [zz5,Ws,hi]
theorem z92(h:List Int):∀ x∈zz5 h,0≤x∧x≤255:=by
 intro x hx
 rw [zz5,List.mem_map] at hx
 obtain ⟨i,_,rfl⟩:=hx
 exact zsn _
theorem z8w{l m:List Int}(h:l.length=m.length)(hg:∀ i,i<l.length→l.getD i 0=m.getD i 0):l=m:=by
 apply List.ext_getElem h
 intro i h1 h2
 have:=hg i h1
 rwa [Ws,Ws,Wc h1,Wc h2] at this
theorem z31{h z:List Int}(hz:z.length=32)(hg:∀ j,j<32→z.getD j 0=ob h j):z=zz5 h:=
 z8w (by rw [hz,zMO]) fun i hi=>by rw [z8h h (by omega)]; exact hg i (by omega)
theorem z6I{β:Type}(L:Nat){i:Nat}(hi:i<32)(b2:List V){h z:List Int}(hh:h.length=8)(hz:z.length=32)(kh:Int→List V→List V→List V→Option β)(kx:List V→List V→Option β):zhJ xC xB xn L (i:Int) b2 (row .u32 h) (row .u8 z) kh kx=kh ((i+1:Nat):Int) b2 (row .u32 h) (row .u8 (z.set i (ob h i))):=by
 unfold zhJ
 have e1:QG .i64 (XW (i:Int) (4:Int))=((i / 4:Nat):Int):=by
  rw [show XW (i:Int) (4:Int)=((i / 4:Nat):Int) from (Int.ofNat_tdiv i 4).symm,zas (by omega) (by omega)]
 have e2:XX (i:Int) (4:Int)=((i % 4:Nat):Int):=(XV i 4).symm
 have e3:QG .i64 (((i % 4:Nat):Int)*(8:Int))=((i % 4*8:Nat):Int):=by rw [zas (by omega) (by omega)]; omega
 have e4:QG .i64 ((24:Int)-((i % 4*8:Nat):Int))=((24-i % 4*8:Nat):Int):=by rw [zas (by omega) (by omega)]; omega
 have c1:0≤((i / 4:Nat):Int)∧((i / 4:Nat):Int)<((8:Nat):Int):=by omega
 have c2:0≤(i:Int)∧(i:Int)<((32:Nat):Int):=by omega
 have c3:0≤((24-i % 4*8:Nat):Int):=by omega
 have cl:True∧i+1≤32:=⟨trivial,by omega⟩
 rw [zI (by omega:(i:Int)<32)]
 simp only [yt,e1,e2,e3,e4,yf c1,yf c2,yf c3,XQ,XT,WB,zao (show i / 4<h.length by omega),xr,hz,zj6 (show i<z.length by omega),zeh (show i≤1000000000 by omega)]
 rw [yf cl]
 exact Eq.trans rfl rfl
theorem zY7{β:Type}(L:Nat)(b2:List V){h:List Int}(hh:h.length=8)(kx:List V→List V→Option β):∀ (f m i:Nat) (z:List Int),z.length=32→i+m=32→m<f→(∀ j,j<i→z.getD j 0=ob h j)→zfM xC xB xn L kx f (i:Int) b2 (row .u32 h) (row .u8 z)=kx b2 (row .u8 (zz5 h))
 | 0,m,i,z,_,_,hf,_=>by omega
 | f+1,0,i,z,hz,h1,h2,hg=>by
  unfold zfM zhJ
  rw [zG (by omega),z31 hz fun j hj=>hg j (by omega)]
 | f+1,m+1,i,z,hz,h1,h2,hg=>by
  unfold zfM
  rw [z6I L (by omega) b2 hh hz]
  refine zY7 L b2 hh kx f m (i+1) _ (by simpa using hz) (by omega) (by omega) fun j hj=>?_
  by_cases he:i=j
  ·subst he; exact zix (by omega) _
  ·rw [getD_set_ne he]; exact hg j (by omega)
theorem yco(v:Int):zcM .u32 v ((0:Nat):Int)=v:=by
 unfold zcM
 rw [show min (XM ((0:Nat):Int)) (XH .u32)=0 from rfl,show (2:Int) ^ 0=1 from rfl,Int.fdiv_one]
theorem z5o{β:Type}(L:Nat){i:Nat}(hi:i<8)(b2:List V){h z:List Int}(hh:h.length=8)(hz:z.length=32)(kh:List V→Int→List V→List V→Option β)(kx:List V→List V→Option β):zga yu ym zl L (row .u32 h) (i:Int) b2 (row .u8 z) kh kx=kh (row .u32 h) ((i+1:Nat):Int) b2 (row .u8 ((((z.set (4*i) (ob h (4*i))).set (4*i+1) (ob h (4*i+1))).set (4*i+2) (ob h (4*i+2))).set (4*i+3) (ob h (4*i+3)))):=by
 unfold zga
 have e4:QG .i64 ((4:Int)*(i:Int))=((4*i:Nat):Int):=z5Z (by omega)
 have e1:QG .i64 (((4*i:Nat):Int)+(1:Int))=((4*i+1:Nat):Int):=zTJ (b:=1) (by omega) (by omega)
 have e2:QG .i64 (((4*i:Nat):Int)+(2:Int))=((4*i+2:Nat):Int):=zTJ (b:=2) (by omega) (by omega)
 have e3:QG .i64 (((4*i:Nat):Int)+(3:Int))=((4*i+3:Nat):Int):=zTJ (b:=3) (by omega) (by omega)
 have c0:0≤(i:Int)∧(i:Int)<((8:Nat):Int):=by omega
 have c4:0≤((4*i:Nat):Int)∧((4*i:Nat):Int)<((32:Nat):Int):=by omega
 have c1:0≤((4*i+1:Nat):Int)∧((4*i+1:Nat):Int)<((32:Nat):Int):=by omega
 have c2:0≤((4*i+2:Nat):Int)∧((4*i+2:Nat):Int)<((32:Nat):Int):=by omega
 have c3:0≤((4*i+3:Nat):Int)∧((4*i+3:Nat):Int)<((32:Nat):Int):=by omega
 have l0:True∧4*i+1≤32:=⟨trivial,by omega⟩
 have l1:True∧4*i+1+1≤32:=⟨trivial,by omega⟩
 have l2:True∧4*i+2+1≤32:=⟨trivial,by omega⟩
 have l3:True∧4*i+3+1≤32:=⟨trivial,by omega⟩
 have o0:QG .u8 (zcM .u32 (h.getD i 0) (24:Int))=ob h (4*i):=by
  unfold ob; rw [show 4*i / 4=i by omega,show 24-4*i % 4*8=24 by omega]; exact Eq.trans rfl rfl
 have o1:QG .u8 (zcM .u32 (h.getD i 0) (16:Int))=ob h (4*i+1):=by
  unfold ob; rw [show (4*i+1) / 4=i by omega,show 24-(4*i+1) % 4*8=16 by omega]; exact Eq.trans rfl rfl
 have o2:QG .u8 (zcM .u32 (h.getD i 0) (8:Int))=ob h (4*i+2):=by
  unfold ob; rw [show (4*i+2) / 4=i by omega,show 24-(4*i+2) % 4*8=8 by omega]; exact Eq.trans rfl rfl
 have o3:QG .u8 (h.getD i 0)=ob h (4*i+3):=by
  unfold ob; rw [show (4*i+3) / 4=i by omega,show 24-(4*i+3) % 4*8=0 by omega,yco]
 rw [zI (by omega:(i:Int)<8)]
 simp only [yt,e4,e1,e2,e3,yf c0,yf c4,yf c1,yf c2,yf c3,XQ,XT,WB,zao (show i<h.length by omega),o0,o1,o2,o3,xr]
 rw [zj6 (by omega),zj6 (by rw [QI]; omega),zj6 (by rw [QI,QI]; omega),zj6 (by rw [QI,QI,QI]; omega)]
 simp only [xr,QI,hz,zeh (show i≤1000000000 by omega)]
 rw [yf l0,yf l1,yf l2,yf l3]
theorem zVn{β:Type}(L:Nat)(b2:List V){h:List Int}(hh:h.length=8)(kx:List V→List V→Option β):∀ (f m i:Nat) (z:List Int),z.length=32→i+m=8→m<f→(∀ j,j<4*i→z.getD j 0=ob h j)→zeq yu ym zl L kx f (row .u32 h) (i:Int) b2 (row .u8 z)=kx b2 (row .u8 (zz5 h))
 | 0,m,i,z,_,_,hf,_=>by omega
 | f+1,0,i,z,hz,h1,h2,hg=>by
  unfold zeq zga
  rw [zG (by omega),z31 hz fun j hj=>hg j (by omega)]
 | f+1,m+1,i,z,hz,h1,h2,hg=>by
  unfold zeq
  rw [z5o L (by omega) b2 hh hz]
  refine zVn L b2 hh kx f m (i+1) _ (by simpa using hz) (by omega) (by omega) fun j hj=>?_
  by_cases h3:4*i+3=j
  ·subst h3; exact zix (by simp; omega) _
  rw [getD_set_ne h3]
  by_cases h2:4*i+2=j
  ·subst h2; exact zix (by simp; omega) _
  rw [getD_set_ne h2]
  by_cases h1:4*i+1=j
  ·subst h1; exact zix (by simp; omega) _
  rw [getD_set_ne h1]
  by_cases h0:4*i=j
  ·subst h0; exact zix (by omega) _
  rw [getD_set_ne h0]
  exact hg j (by omega)
def zxd(l:List Int):List Int:=zz5 (zPW ((l++zgU l.length).length / 64) 0 (l++zgU l.length) init0)
theorem zbs(l:List Int):(zxd l).length=32:=zMO _
theorem zQR(l:List Int):∀ x∈zxd l,0≤x∧x≤255:=z92 _
theorem z4q(l:List Int):64*((l++zgU l.length).length / 64)=(l++zgU l.length).length:=by
 have:=z7j l.length
 rw [Wm,zDc]; omega
theorem z6l{l:List Int}(h:∀ x∈l,0≤x∧x≤255):∀ x∈l++zgU l.length,0≤x∧x≤255:=by
 intro x hx
 rcases List.mem_append.1 hx with hx | hx
 ·exact h x hx
 ·exact z91 _ x hx
theorem z4o{β:Type}{w:List Int}(hw:w.length=32)(z:List Int)(hz:z.length=32)(k:List V→Option β) :
  chk (0+32≤(XK (row .u8 w))) (chk ((XK (XL 32 (row .u8 w)))=32∧0+32≤(XK (row .u8 z))) (
   lt (zk (row .u8 z) 0 (XL 32 (row .u8 w))) fun r41=>chk (0=0∧(XK r41)=32∧32≠0) (k r41)))=k (row .u8 w):=by
 have e:XL 32 (row .u8 w)=row .u8 w:=XE (by rw [xr]; omega)
 rw [yt,e,zc3 (by rw [xr,xr]; omega)]
 rw [yf (by rw [xr]; omega),yf ⟨by rw [xr]; omega,by rw [xr]; omega⟩,yf ⟨rfl,by rw [xr]; omega,by decide⟩]
theorem zWO{β:Type}{L:Nat}{l:List Int}(hL:l.length+200≤L)(hl:l.length≤100000000)(hb:∀ x∈l,0≤x∧x≤255)(k:List V→Option β):zam β L (yq .u8 l) k=k (row .u8 (zxd l)):=by
 unfold zam zGT zPk
 have z64:=zUb l.length
 have hm:=z4q l
 have hlen:(l++zgU l.length).length=l.length+(9+zs l.length):=by rw [Wm,zDc]
 have e0:QG .u64 (((yq .u8 l).length:Nat):Int)=(l.length:Int):=by rw [zF,zbV (by omega) (by omega)]
 rw [yt,e0]
 refine (yaX (by omega) hl _ _).trans ?_
 refine (z6x (by omega) (by omega) (by rw [zDc]; omega) _).trans ?_
 have e1:zk [V.sc (.int .u32 (0:Int)),V.sc (.int .u32 (0:Int)),V.sc (.int .u32 (0:Int)),V.sc (.int .u32 (0:Int)),V.sc (.int .u32 (0:Int)),V.sc (.int .u32 (0:Int)),V.sc (.int .u32 (0:Int)),V.sc (.int .u32 (0:Int))] 0 (XL 8 gk_sha_initial)=row .u32 init0:=(zc3 rfl).trans rfl
 have e2:QG .i64 (XW (((yq .u8 (l++zgU l.length)).length:Nat):Int) (64:Int))=(((l++zgU l.length).length / 64:Nat):Int):=by
  rw [zF,show XW (((l++zgU l.length).length:Nat):Int) (64:Int)=(((l++zgU l.length).length / 64:Nat):Int) from (Int.ofNat_tdiv _ 64).symm,zas (by omega) (by omega)]
 rw [yf ⟨rfl,by decide⟩,yt,e1,yt,e2]
 refine (z22 (by omega) (z6l hb) (by omega) (by omega) _ _ L ((l++zgU l.length).length / 64) 0 _ zHm (by omega) (by omega)).trans ?_
 unfold zjZ zrk
 rw [zxL]
 refine (zY7 L _ (zTm _ _ _ _ zHm) _ L 32 0 _ XR rfl (by omega) (fun j hj=>by omega)).trans ?_
 unfold znF
 exact z4o (zMO _) _ XR k
theorem z4Z{β:Type}(L:Nat)(k:List V→Option β):ym β L k=k (row .u32 init0):=by
 unfold ym zvM
 rw [yt]
 exact (yf ⟨rfl,rfl,by decide⟩ _).trans rfl
theorem zQJ{β:Type}{L:Nat}{l:List Int}(hL:l.length+200≤L)(hl:l.length≤100000000)(hb:∀ x∈l,0≤x∧x≤255)(k:List V→Option β):yX β L (yq .u8 l) k=k (row .u8 (zxd l)):=by
 unfold yX zyt zIm
 have z64:=zUb l.length
 have hm:=z4q l
 have hlen:(l++zgU l.length).length=l.length+(9+zs l.length):=by rw [Wm,zDc]
 have e0:QG .u64 (((yq .u8 l).length:Nat):Int)=(l.length:Int):=by rw [zF,zbV (by omega) (by omega)]
 rw [yf (by simp [zF,xm]; omega),yt,List.nil_append,yt,e0]
 refine (z96 (by omega) hl _).trans ?_
 rw [yf (by simp [zF,zDc,xm]; omega),yt,zbQ]
 refine (z4Z L _).trans ?_
 have e1:zk [V.sc (.int .u32 (0:Int)),V.sc (.int .u32 (0:Int)),V.sc (.int .u32 (0:Int)),V.sc (.int .u32 (0:Int)),V.sc (.int .u32 (0:Int)),V.sc (.int .u32 (0:Int)),V.sc (.int .u32 (0:Int)),V.sc (.int .u32 (0:Int))] 0 (row .u32 init0)=row .u32 init0:=zc3 rfl
 rw [yf ⟨rfl,by decide⟩,yt,e1]
 refine (zZA (by omega) (z6l hb) (by omega) hm _ _ L ((l++zgU l.length).length / 64) 0 _ zHm (by omega) (by omega)).trans ?_
 unfold zig znG
 have hb8:=zTm ((l++zgU l.length).length / 64) 0 (l++zgU l.length) init0 zHm
 rw [yf (by rw [xr,hb8]; omega),XE (by rw [xr,hb8]; omega),zxL]
 refine (zVn L _ hb8 _ L 8 0 _ XR rfl (by omega) (fun j hj=>by omega)).trans ?_
 unfold zlE
 exact z4o (zMO _) _ XR k
def zIO(l:List Int):List Int:=zxd (zxd l)
theorem zs0(l:List Int):(zIO l).length=32:=zbs _
theorem z9O(l:List Int):∀ x∈zIO l,0≤x∧x≤255:=zQR _
theorem zws{w:List Int}(hw:w.length=32):zk (We 32 (Qa (0:Int))) 0 (row .u8 w)=row .u8 w:=zc3 (by rw [xr,hw,XR])
theorem z4F{w:List Int}(hw:w.length=32):List.isEmpty (row .u8 w)=false:=by
 rw [List.isEmpty_eq_false_iff]; intro h
 have:=congrArg XK h
 rw [xr,hw] at this; cases this
theorem zO9{β:Type}{L:Nat}{l:List Int}(hL:l.length+300≤L)(hl:l.length≤100000000)(hb:∀ x∈l,0≤x∧x≤255)(k:List V→Option β):xX β L (yq .u8 l) k=k (row .u8 (zIO l)):=by
 unfold xX zE2
 have ec:yl 1 32 (row .u8 (zxd l))=yq .u8 (zxd l):=by
  rw [zCr _ _ _ (by rw [zbs]; omega),XE (by rw [zbs]; omega)]
 refine (zWO (by omega) hl hb _).trans ?_
 rw [yf ⟨by rw [xr,zbs],by decide⟩,yt,zws (zbs l),yf (by rw [xr,zbs]; omega),z4F (zbs l),zeR,ec]
 refine (zWO (by rw [zbs]; omega) (by rw [zbs]; omega) (zQR l) _).trans ?_
 rw [yf ⟨by rw [xr,zbs],by decide⟩,yt,zws (zbs _),yf ⟨rfl,by rw [xr,zbs],by decide⟩]
 exact Eq.trans rfl rfl
theorem zLG{β:Type}{L:Nat}{l:List Int}(hL:l.length+300≤L)(hl:l.length≤100000000)(hb:∀ x∈l,0≤x∧x≤255)(k:List V→Option β):xJ β L (yq .u8 l) k=k (row .u8 (zIO l)):=by
 unfold xJ zx8
 have ec:yl 1 32 (row .u8 (zxd l))=yq .u8 (zxd l):=by
  rw [zCr _ _ _ (by rw [zbs]; omega),XE (by rw [zbs]; omega)]
 refine (zQJ (by omega) hl hb _).trans ?_
 rw [yf ⟨by rw [xr,zbs],by decide⟩,yt,zws (zbs l),yf (by rw [xr,zbs]; omega),z4F (zbs l),zeR,ec]
 refine (zQJ (by rw [zbs]; omega) (by rw [zbs]; omega) (zQR l) _).trans ?_
 rw [yf ⟨by rw [xr,zbs],by decide⟩,yt,zws (zbs _),yf ⟨rfl,by rw [xr,zbs],by decide⟩]
 exact Eq.trans rfl rfl
end
end Go.Proofs.YtgmhijonllockaaGreatDoor
