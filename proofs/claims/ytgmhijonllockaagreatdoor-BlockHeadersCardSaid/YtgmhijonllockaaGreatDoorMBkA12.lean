/- Part 12 of the proof of BkA: an abstract machine over plain values, its soundness, and the functions of the program on plain values. -/
import Derived.Test.YtgmhijonllockaaGreatDoorMBkA11
namespace Go.Proofs.YtgmhijonllockaaGreatDoor
set_option maxRecDepth 100000
set_option linter.unusedVariables false
set_option linter.unusedSimpArgs false
open IntKind renaming wrap->QG,bits->XH
open List renaming length->XK,take->XL,replicate->We,take_of_length_le->XE,getD_eq_getElem?_getD->Ws,length_replicate->XR,length_set->QI,length_drop->XS,getElem?_eq_getElem->Wc,length_append->Wm,append_assoc->Wu,map->Xv,drop->XO,set_set->XZ
open Int renaming toNat_natCast->XQ,toNat->XM,ofNat_tmod->XV,tdiv->XW,tmod->XX,eq_ofNat_of_zero_le->XY
open Nat renaming zero_add->WB,mul_one->XT,exists_eq_add_of_le->XU
open Bool renaming false_eq_true->WP
section
noncomputable section
def zEc:Hint:=⟨[(0,0),(7,3),(11,0),(14,2),(21,2),(25,0),(25,4)],[],[none,none,none,none,none,some ((bl 7340034 79),(bl 604462909807314318914403 79)),none,some ((bl 2 79),(bl 604462909807314318914403 79)),none,none,some ((bl 4 79),(bl 604462909807314318914405 79)),none,some ((bl 120259084322 79),(bl 604462909805115564094059 79)),none,some ((bl 34 79),(bl 604462909805115564094059 79)),none,none,some ((bl 4 79),(bl 604462909805115564094061 79)),none,some ((bl 985162418487330 79),(bl 604455830148700360930155 79)),none,some ((bl 34 79),(bl 604455830148700360930155 79)),none,none,some ((bl 4 79),(bl 604455830148700360930125 79)),none,none,none,none,none,none,none,none],[],[],false,false,[]⟩
def cf_ref11_Check:CF:=cfD zEc 19
def z3a:CC:=yz [1,1,1,1,1,1,0,1,0,0] cf_ref11_Check.body
def z3v:CC:=yz [1,1,1,1,1,0,1,0,0] cf_ref11_Check.body
def z5f:CC:=yz [1,1,1,1,1,1,1] cf_ref11_Check.body
def z4X:CC:=yz [1,1,1,0,1,0,0] cf_ref11_Check.body
def z55:CC:=yz [1,1,1,1,1,1] cf_ref11_Check.body
def z7Z:CC:=yz [1,1,1,1] cf_ref11_Check.body
def yai:Nat→Sh:=zj [(16,(.sl 4)),(20,(.sl 4)),(34,(.sl 4)),(47,(.sl 4)),(73,(.sl 4))]
def yav(zz:zau)(zb:yn)(xE:zaF)(zR:zbE)(xg:xG)(zA:zah)(xF:zaE)(zw:zaj)(L:Nat):CBC:=(xe 474 (zpy zw L) (xe 558 (zsA xF L) (xe 557 (zn9 zA L) (xe 556 (zmY xg L) (xe 517 (z5N zR L) (xe 132 (zm5 xE L) (xe 153 (zeO zb L) (xe 449 (zpz zz L) noC))))))))
def z57:St→St:=yM 0 (bl 7340034 79) (bl 604462909807314318914403 79)
def z4d:St→St:=yM 0 (bl 120259084322 79) (bl 604462909805115564094059 79)
def z3f:St→St:=yM 0 (bl 985162418487330 79) (bl 604455830148700360930155 79)
def z3j(z:Ls)(A C:Int)(D:List V):St:=⟨(jn 1 ((V.ptr 1 0)::(jn 18 ((V.sl 4 z)::((Qe A)::((Qe C)::(jn 56 []))))))),(gn 1 ((.live true D)::(gn 77 [])))⟩
def z7m(z:Int):St:=⟨(jn 2 ((Qe z)::(jn 76 []))),(gn 79 [])⟩
def z70(z:List V):St:=⟨(jn 1 ((V.ptr 1 0)::(jn 77 []))),(gn 1 ((.live true z)::(gn 77 [])))⟩
def z1A(D z:Ls)(A C:Int)(E:List V):St:=⟨(jn 1 ((V.ptr 1 0)::(jn 3 ((V.gs 32 D)::(jn 28 ((V.sl 4 z)::((Qe A)::((Qe C)::(jn 42 []))))))))),(gn 1 ((.live true E)::(gn 77 [])))⟩
def z7R(z:Ls)(A:List V):St:=⟨(jn 1 ((V.ptr 1 0)::(jn 3 ((V.gs 32 z)::(jn 73 []))))),(gn 1 ((.live true A)::(gn 77 [])))⟩
def z0I(D z:Ls)(A C:Int)(E:List V):St:=⟨(jn 1 ((V.ptr 1 0)::(jn 3 ((V.gs 32 D)::(jn 41 ((V.sl 4 z)::((Qe A)::((Qe C)::(jn 29 []))))))))),(gn 1 ((.live true E)::(gn 77 [])))⟩
def z71(z:Ls)(A:List V):St:=⟨(jn 1 ((V.ptr 1 0)::(jn 3 ((V.gs 32 z)::(jn 73 []))))),(gn 1 ((.live true A)::(gn 77 [])))⟩
abbrev zrE(β:Type):Type:=Ls→Ls→Int→Int→List V→Ob β
abbrev zqt(β:Type):Type:=Ls→Ls→Int→Int→List V→Ob β
def zZ7{β:Type}(zz:zau)(zb:yn)(xE:zaF)(zR:zbE)(xg:xG)(zA:zah)(xF:zaE)(zw:zaj)(L:Nat)(C:List V)(A:Int→Ob β)(z:Ls→Int→Int→List V→Ob β):Ob β:=chk (0+69≤(XK C)) (zz β L (Xv V.dem (XL 69 C)) (fun E=>ifb (!E) (A (4:Int)) (cLd 4 C 68 fun F=>ifb ((((XK F:Nat):Int):Int)==(0:Int)) (A (93:Int)) (cLd 4 C 68 fun D=>z D ((XK D:Nat):Int) (0:Int) C))))
def zOo{β:Type}(zz:zau)(zb:yn)(xE:zaF)(zR:zbE)(xg:xG)(zA:zah)(xF:zaE)(zw:zaj)(L:Nat)(D:Ls)(E A:Int)(G:List V)(C:Int→Ob β)(z:Ls→Int→Int→List V→Ob β)(F:List V→Ob β):Ob β:=ifb (decide (A<E)) (idx D A fun H=>chk ((XK (XL 4 H))=4∧0+4≤4) (lt (zk [(Qc (0:Int)),(V.gs 35 ([]:Ls)),(V.gs 2 ([]:Ls)),(Qc (0:Int))] 0 (XL 4 H)) fun I=>chk (0+4≤(XK I)) (zb β L (Xv V.dem (XL 4 I)) (fun J=>ifb (!(J==((A:Int)==(0:Int)))) (C (111:Int)) (lt (QG .i64 ((A:Int)+(1:Int))) fun M=>z D E M G))))) (F G)
def zI3{β:Type}(zz:zau)(zb:yn)(xE:zaF)(zR:zbE)(xg:xG)(zA:zah)(xF:zaE)(zw:zaj)(L:Nat)(A:Int)(z:Int→Ob β):Ob β:=z A
def zJb{β:Type}(zz:zau)(zb:yn)(xE:zaF)(zR:zbE)(xg:xG)(zA:zah)(xF:zaE)(zw:zaj)(L:Nat)(A:List V)(z:zrE β):Ob β:=cLd 4 A 68 fun C=>z ([]:Ls) C ((XK C:Nat):Int) (0:Int) A
def zJY{β:Type}(zz:zau)(zb:yn)(xE:zaF)(zR:zbE)(xg:xG)(zA:zah)(xF:zaE)(zw:zaj)(L:Nat)(H D:Ls)(E A:Int)(I:List V)(C:Int→Ob β)(z:zrE β)(G:Ls→List V→Ob β):Ob β:=ifb (decide (A<E)) (idx D A fun J=>chk ((XK (XL 4 J))=4∧0+4≤4) (lt (zk [(Qc (0:Int)),(V.gs 35 ([]:Ls)),(V.gs 2 ([]:Ls)),(Qc (0:Int))] 0 (XL 4 J)) fun M=>chk (0+4≤(XK M)) (xE β L (Xv V.dem (XL 4 M)) (fun F=>ifb ((F:Int) != (0:Int)) (C F) (lt (QG .i64 ((A:Int)+(1:Int))) fun N=>z H D E N I))))) (G H I)
def zC1{β:Type}(zz:zau)(zb:yn)(xE:zaF)(zR:zbE)(xg:xG)(zA:zah)(xF:zaE)(zw:zaj)(L:Nat)(A:Int)(z:Int→Ob β):Ob β:=z A
def zFI{β:Type}(zz:zau)(zb:yn)(xE:zaF)(zR:zbE)(xg:xG)(zA:zah)(xF:zaE)(zw:zaj)(L:Nat)(D:Ls)(C:List V)(z:zqt β):Ob β:=cLd 4 C 68 fun A=>z D A ((XK A:Nat):Int) (0:Int) C
def zIG{β:Type}(zz:zau)(zb:yn)(xE:zaF)(zR:zbE)(xg:xG)(zA:zah)(xF:zaE)(zw:zaj)(L:Nat)(C F:Ls)(G D:Int)(N:List V)(E:Int→Ob β)(z:zqt β)(M:Ls→List V→Ob β):Ob β:=ifb (decide (D<G)) (idx F D fun H=>chk ((XK (XL 4 H))=4∧0+4≤4) (lt (zk [(Qc (0:Int)),(V.gs 35 ([]:Ls)),(V.gs 2 ([]:Ls)),(Qc (0:Int))] 0 (XL 4 H)) fun I=>chk (0+4≤(XK I)) (zR β L (Xv V.dem (XL 4 I)) (fun J=>chk ((XK J)=32∧0+32≤32) (lt (zk (We 32 (Qa (0:Int))) 0 J) fun A=>chk (0+32≤(XK A)) (xg β L C (XL 32 A) (fun O=>ifb (decide (O≥(0:Int))) (E (91:Int)) (chk (0+32≤(XK A)) (chk ((XK (XL 32 A))=32∧0+32≤32) (chk ((XK C+XK (yl 32 1 (zk (We 32 (Qa (0:Int))) 0 (XL 32 A))))*32≤xm∧XK C+XK (yl 32 1 (zk (We 32 (Qa (0:Int))) 0 (XL 32 A)))≤xm) (lt (C++(yl 32 1 (zk (We 32 (Qa (0:Int))) 0 (XL 32 A)))) fun P=>lt (QG .i64 ((D:Int)+(1:Int))) fun Q=>z P F G Q N))))))))))) (M C N)
def zCf{β:Type}(zz:zau)(zb:yn)(xE:zaF)(zR:zbE)(xg:xG)(zA:zah)(xF:zaE)(zw:zaj)(L:Nat)(A:Int)(z:Int→Ob β):Ob β:=z A
def zE1{β:Type}(zz:zau)(zb:yn)(xE:zaF)(zR:zbE)(xg:xG)(zA:zah)(xF:zaE)(zw:zaj)(L:Nat)(H:Ls)(A:List V)(z:Int→Ob β):Ob β:=chk (0+69≤(XK A)) (zA β L (Xv V.dem (XL 69 A)) H (fun C=>ifb C (z (101:Int)) (chk (0+69≤(XK A)) (xF β L (Xv V.dem (XL 69 A)) (fun D=>ifb D (z (91:Int)) (cLd 4 A 68 fun E=>zw β L E (fun F=>chk (33+32≤(XK A)) (eqC 32 F (XL 32 (XO 33 A)) fun G=>ifb (!G) (z (110:Int)) (z (0:Int))))))))))
def zwL{β:Type}(zz:zau)(zb:yn)(xE:zaF)(zR:zbE)(xg:xG)(zA:zah)(xF:zaE)(zw:zaj)(L:Nat)(z:Int→Ob β)(A:List V→Ob β):Nat→Ls→Int→Int→List V→Ob β
 | 0,_,_,_,_=>none
 | n+1,C,D,E,F=>zOo zz zb xE zR xg zA xF zw L C D E F z (fun C D E F=>zwL zz zb xE zR xg zA xF zw L z A n C D E F) A
def ztV{β:Type}(zz:zau)(zb:yn)(xE:zaF)(zR:zbE)(xg:xG)(zA:zah)(xF:zaE)(zw:zaj)(L:Nat)(z:Int→Ob β)(A:Ls→List V→Ob β):Nat→Ls→Ls→Int→Int→List V→Ob β
 | 0,_,_,_,_,_=>none
 | n+1,F,C,D,E,G=>zJY zz zb xE zR xg zA xF zw L F C D E G z (fun F C D E G=>ztV zz zb xE zR xg zA xF zw L z A n F C D E G) A
def zr7{β:Type}(zz:zau)(zb:yn)(xE:zaF)(zR:zbE)(xg:xG)(zA:zah)(xF:zaE)(zw:zaj)(L:Nat)(z:Int→Ob β)(A:Ls→List V→Ob β):Nat→Ls→Ls→Int→Int→List V→Ob β
 | 0,_,_,_,_,_=>none
 | n+1,F,C,D,E,G=>zIG zz zb xE zR xg zA xF zw L F C D E G z (fun F C D E G=>zr7 zz zb xE zR xg zA xF zw L z A n F C D E G) A
def zC0{β:Type}(zz:zau)(zb:yn)(xE:zaF)(zR:zbE)(xg:xG)(zA:zah)(xF:zaE)(zw:zaj)(L:Nat)(A:Ls)(C:List V)(z:Int→Ob β):Ob β:=zFI zz zb xE zR xg zA xF zw L A C (fun A D E F C=>zr7 zz zb xE zR xg zA xF zw L (fun G=>zCf zz zb xE zR xg zA xF zw L G z) (fun A C=>zE1 zz zb xE zR xg zA xF zw L A C z) L A D E F C)
def zIE{β:Type}(zz:zau)(zb:yn)(xE:zaF)(zR:zbE)(xg:xG)(zA:zah)(xF:zaE)(zw:zaj)(L:Nat)(A:List V)(z:Int→Ob β):Ob β:=zJb zz zb xE zR xg zA xF zw L A (fun C D E F A=>ztV zz zb xE zR xg zA xF zw L (fun G=>zC1 zz zb xE zR xg zA xF zw L G z) (fun C A=>zC0 zz zb xE zR xg zA xF zw L C A z) L C D E F A)
def z0i{β:Type}(zz:zau)(zb:yn)(xE:zaF)(zR:zbE)(xg:xG)(zA:zah)(xF:zaE)(zw:zaj)(L:Nat)(F:List V)(z:Int→Ob β):Ob β:=zZ7 zz zb xE zR xg zA xF zw L F z (fun C D E A=>zwL zz zb xE zR xg zA xF zw L (fun G=>zI3 zz zb xE zR xg zA xF zw L G z) (fun A=>zIE zz zb xE zR xg zA xF zw L A z) L C D E A)
abbrev zsC:=∀ (β:Type),Nat→List V→(Int→Ob β)→Ob β
def zfR:zsC:=fun β=>@z0i β zz zb xE zR xg zA xF zw
def z0c(zfR:zsC)(L:Nat):Dk:=dA AG fun z=>d0 fun β k=>zfR β L z (fun z=>k (Qe z) [])
def zwS:Hint:=⟨[],[],[none],[],[],false,false,[]⟩
def zBo:CF:=cfD zwS 187
def zqT:Nat→Sh:=zj []
def zqR(L:Nat):CBC:=noC
def zD9{β:Type}(L:Nat)(C:Int)(z:List V→Ob β):Ob β:=lt [(Qd C),(Qd (0:Int)),(Qd (0:Int)),(Qd (0:Int))] fun A=>chk (0=0∧(XK A)=4∧4≠0) (z A)
theorem zOh{β:Type}(L:Nat)(z:Int)(k:KK β):yh zqT (zqR L) L zBo [(Qd z)] [] k=zD9 L z (fun z=>k (V.agg z) []):=by kernel_rfl
abbrev ziX:=∀ (β:Type),Nat→Int→(List V→Ob β)→Ob β
def xY:ziX:=fun β=>@zD9 β
def zcJ(xY:ziX)(L:Nat):Dk:=dA (AI .u64) fun z=>d0 fun β k=>xY β L z (fun z=>k (V.agg z) [])
theorem zN3(L:Nat):DK (zcJ xY L) (fun _=>yh zqT (zqR L) L zBo):=xv zbN fun z=>yK fun _ k=>zOh L z k
def zJZ:Hint:=⟨[],[],[none],[],[],false,false,[]⟩
def zPX:CF:=cfD zJZ 174
def zEe:Nat→Sh:=zj [(8,(.int .u64))]
def zCJ(L:Nat):CBC:=noC
def zSs{β:Type}(L:Nat)(E:List V)(C:Int)(z:Bool→Ob β):Ob β:=lt (QG .i64 (XW C (64:Int))) fun A=>chk (0≤A∧A<((4:Nat):Int)) (cI .u64 E (0+((XM A)*1)) fun F=>lt (XX C (64:Int)) fun D=>chk (0≤D) (lt (zcN .u64 F D) fun G=>lt (zgx .u64 G (1:Int)) fun H=>z ((H:Int)==(1:Int))))
theorem zXu{β:Type}(L:Nat)(z:List V)(A:Int)(k:KK β):yh zEe (zCJ L) L zPX [(V.agg z),(Qe A)] [] k=zSs L z A (fun z=>k (V.sc (.bool z)) []):=by kernel_rfl
abbrev zal:=∀ (β:Type),Nat→List V→Int→(Bool→Ob β)→Ob β
def xp:zal:=fun β=>@zSs β
def znf(xp:zal)(L:Nat):Dk:=dA AG fun z=>dA (AI .i64) fun A=>d0 fun β k=>xp β L z A (fun z=>k (V.sc (.bool z)) [])
theorem zYi(L:Nat):DK (znf xp L) (fun _=>yh zEe (zCJ L) L zPX):=xv zak fun z=>xv zbN fun A=>yK fun _ k=>zXu L z A k
def zLq:Hint:=⟨[],[],[none,none,none,none,none,some ((bl 118 34),(bl 17171480575 34)),none,some ((bl 48 34),(bl 17171480507 34)),none,none,none],[],[],false,false,[]⟩
def cf_ref02_Shr:CF:=cfD zLq 147
def znq:CC:=yz [1,1,1,1,0,1,0,0] cf_ref02_Shr.body
def zDT:CC:=yz [1,1,1,1,1] cf_ref02_Shr.body
def zff:Nat→Sh:=zj [(27,(.int .u64))]
def zfC(xp:zal)(L:Nat):CBC:=(xe 552 (znf xp L) noC)
def zo8:St→St:=yM 0 (bl 118 34) (bl 17171480575 34)
def zhi(E F:Int)(G:List V)(z A C D:Int)(H:List V):St:=⟨(jn 1 ((Qe E)::((V.ptr 2 0)::(jn 1 ((V.ptr 4 0)::((V.ptr 5 0)::((Qe F)::(jn 27 [])))))))),(gn 2 ((.live true G)::(gn 1 ((.live true [(Qd z),(Qd A),(Qd C),(Qd D)])::((.live true H)::(gn 28 []))))))⟩
def zva(z A C D:Int)(E:List V):St:=⟨(jn 4 ((V.ptr 4 0)::((V.ptr 5 0)::(jn 28 [])))),(gn 4 ((.live true [(Qd z),(Qd A),(Qd C),(Qd D)])::((.live true E)::(gn 28 []))))⟩
abbrev zw4(β:Type):Type:=Int→Int→List V→Int→Int→Int→Int→List V→Ob β
def zSy{β:Type}(xp:zal)(L:Nat)(C:List V)(D:Int)(A:List V→Ob β)(z:zw4 β):Ob β:=ifb (decide (D≤(0:Int))) (chk (0+4≤(XK C)) (chk ((XK (XL 4 C))=4∧0+4≤4) (lt (zk [(Qd (0:Int)),(Qd (0:Int)),(Qd (0:Int)),(Qd (0:Int))] 0 (XL 4 C)) fun E=>chk (0=0∧(XK E)=4∧4≠0) (A E)))) (ifb (decide (D≥(256:Int))) (lt [(Qd (0:Int)),(Qd (0:Int)),(Qd (0:Int)),(Qd (0:Int))] fun F=>chk (0=0∧(XK F)=4∧4≠0) (A F)) (z D (0:Int) C (0:Int) (0:Int) (0:Int) (0:Int) [(Qd (0:Int)),(Qd (0:Int)),(Qd (0:Int)),(Qd (0:Int))]))
theorem zXg{β:Type}(xp:zal)(L:Nat)(z:List V)(A:Int)(k:KK β):yh zff (zfC xp L) L cf_ref02_Shr [(V.agg z),(Qe A)] [] k=zSy xp L z A (fun z=>k (V.agg z) []) (fun A G H C D E F I=>zx (ze zff (zfC xp L) 0 L znq) zo8 L (zhi A G H C D E F I) (xi 0 (yv (ze zff (zfC xp L) 0 L zDT) (zD 0 (CF.res cf_ref02_Shr) k)))):=by kernel_rfl
def zyN{β:Type}(xp:zal)(L:Nat)(I G:Int)(J:List V)(A C D E:Int)(H:List V)(z:zw4 β)(M:Int→Int→Int→Int→List V→Ob β):Ob β:=lt (QG .i64 ((G:Int)+I)) fun R=>ifb (decide (R<(256:Int))) (chk (0+4≤(XK J)) (lt (QG .i64 ((G:Int)+I)) fun S=>xp β L (XL 4 J) S (fun T=>ifb T (lt (QG .i64 (XW G (64:Int))) fun F=>chk (0≤F∧F<((4:Nat):Int)) (cI .u64 H (0+((XM F)*1)) fun U=>lt (XX G (64:Int)) fun N=>chk (0≤N) (lt (zgr .u64 (1:Int) N) fun W=>lt (ior .u64 U W) fun X=>chk (0≤F∧F<((4:Nat):Int)) (chk (1=1∧(0+((XM F)*1))+1≤(XK H)) (lt (zk H (0+((XM F)*1)) [(Qd X)]) fun O=>lt (QG .i64 ((G:Int)+(1:Int))) fun P=>z I P J A C D E O))))) (lt (QG .i64 ((G:Int)+(1:Int))) fun Q=>z I Q J A C D E H)))) (M A C D E H)
theorem zJn{β:Type}(xp:zal)(L:Nat)(F G:Int)(H:List V)(z A C D:Int)(E:List V)(X:St→Ob β)(K:KT β):ze zff (zfC xp L) 0 L znq (zhi F G H z A C D E) (yH zo8 X K)=zyN xp L F G H z A C D E (fun F G H z A C D E=>X (zhi F G H z A C D E)) (fun z A C D E=>K (.exit 0) (zva z A C D E)):=by kernel_rfl
def zv5{β:Type}(xp:zal)(L:Nat)(C D E F:Int)(G:List V)(z:List V→Ob β):Ob β:=chk (0+4≤(XK G)) (chk ((XK (XL 4 G))=4∧0+4≤4) (lt (zk [(Qd C),(Qd D),(Qd E),(Qd F)] 0 (XL 4 G)) fun A=>chk (0=0∧(XK A)=4∧4≠0) (z A)))
theorem zFH{β:Type}(xp:zal)(L:Nat)(z A C D:Int)(E:List V)(k:KK β):(xi 0 (yv (ze zff (zfC xp L) 0 L zDT) (zD 0 (CF.res cf_ref02_Shr) k))) (.exit 0) (zva z A C D E)=zv5 xp L z A C D E (fun F=>k (V.agg F) []):=by kernel_rfl
def zo7{β:Type}(xp:zal)(L:Nat)(E:Int→Int→Int→Int→List V→Ob β):Nat→Int→Int→List V→Int→Int→Int→Int→List V→Ob β
 | 0,_,_,_,_,_,_,_,_=>none
 | n+1,F,G,H,z,A,C,D,I=>zyN xp L F G H z A C D I (fun F G H z A C D I=>zo7 xp L E n F G H z A C D I) E
theorem ztH{β:Type}(xp:zal)(L:Nat)(K:KT β):∀ (n:Nat) (F G:Int) (H:List V) (z A C D:Int) (E:List V),zx (ze zff (zfC xp L) 0 L znq) zo8 n (zhi F G H z A C D E) K=zo7 xp L (fun z A C D E=>K (.exit 0) (zva z A C D E)) n F G H z A C D E:=by
 intro n; induction n <;> intros
 ·rfl
 ·exact (zJn ..).trans (by simp only [*]; rfl)
def zII{β:Type}(xp:zal)(L:Nat)(H:List V)(F:Int)(E:List V→Ob β):Ob β:=zSy xp L H F E (fun F I J z A C D G=>zo7 xp L (fun z A C D G=>zv5 xp L z A C D G E) L F I J z A C D G)
theorem zYc{β:Type}(xp:zal)(L:Nat)(z:List V)(A:Int)(k:KK β):yh zff (zfC xp L) L cf_ref02_Shr [(V.agg z),(Qe A)] [] k=zII xp L z A (fun z=>k (V.agg z) []):=by
 refine (zXg xp L z A k).trans ?_
 unfold zII
 first
  | (simp only [ztH,zFH]; done)
  | (simp only [ztH]; rfl)
abbrev zr8:=∀ (β:Type),Nat→List V→Int→(List V→Ob β)→Ob β
def zbq:zr8:=fun β=>@zII β xp
def zna(zbq:zr8)(L:Nat):Dk:=dA AG fun z=>dA (AI .i64) fun A=>d0 fun β k=>zbq β L z A (fun z=>k (V.agg z) [])
theorem zXQ(L:Nat):DK (zna zbq L) (fun _=>yh zff (zfC xp L) L cf_ref02_Shr):=xv zak fun z=>xv zbN fun A=>yK fun _ k=>zYc xp L z A k
def zGk:Hint:=⟨[],[],[none],[],[],false,false,[]⟩
def zNj:CF:=cfD zGk 175
def zAg:Nat→Sh:=zj []
def zzN(L:Nat):CBC:=noC
def zOB{β:Type}(L:Nat)(A:List V)(z:Bool→Ob β):Ob β:=chk (0+4≤(XK A)) (eqC 4 (XL 4 A) [(Qd (0:Int)),(Qd (0:Int)),(Qd (0:Int)),(Qd (0:Int))] fun C=>z C)
theorem zWI{β:Type}(L:Nat)(z:List V)(k:KK β):yh zAg (zzN L) L zNj [(V.agg z)] [] k=zOB L z (fun z=>k (V.sc (.bool z)) []):=by kernel_rfl
abbrev zcM:=∀ (β:Type),Nat→List V→(Bool→Ob β)→Ob β
def xJ:zcM:=fun β=>@zOB β
def zdJ(xJ:zcM)(L:Nat):Dk:=dA AG fun z=>d0 fun β k=>xJ β L z (fun z=>k (V.sc (.bool z)) [])
theorem zWw(L:Nat):DK (zdJ xJ L) (fun _=>yh zAg (zzN L) L zNj):=xv zak fun z=>yK fun _ k=>zWI L z k
def zJD:Hint:=⟨[],[],[none,some ((bl 10 13),(bl 7163 13)),none,some ((bl 0 13),(bl 7153 13)),none,none,some ((bl 4 13),(bl 7157 13)),none],[],[],false,false,[]⟩
def cf_ref02_Len:CF:=cfD zJD 190
def zsU:CC:=yz [1,0,1,0,0] cf_ref02_Len.body
def zz1:CC:=yz [1,1] cf_ref02_Len.body
def zeB:Nat→Sh:=zj []
def zew(xp:zal)(L:Nat):CBC:=(xe 552 (znf xp L) noC)
def zvL:St→St:=yM 0 (bl 10 13) (bl 7163 13)
def zjV(z:Int)(A:List V):St:=⟨(jn 1 ((V.ptr 1 0)::(jn 1 ((Qe z)::(jn 9 []))))),(gn 1 ((.live true A)::(gn 11 [])))⟩
def zsG(z:Int):St:=⟨(jn 2 ((Qe z)::(jn 10 []))),(gn 13 [])⟩
def zuo:St:=⟨(jn 13 []),(gn 13 [])⟩
def zSh{β:Type}(xp:zal)(L:Nat)(A:List V)(z:Int→List V→Ob β):Ob β:=z (255:Int) A
theorem zXX{β:Type}(xp:zal)(L:Nat)(z:List V)(k:KK β):yh zeB (zew xp L) L cf_ref02_Len [(V.agg z)] [] k=zSh xp L z (fun A C=>zx (ze zeB (zew xp L) 0 L zsU) zvL L (zjV A C) (xi 0 (yv (ze zeB (zew xp L) 0 L zz1) (zD 0 (CF.res cf_ref02_Len) k)))):=by kernel_rfl
def zHu{β:Type}(xp:zal)(L:Nat)(A:Int)(D:List V)(C:Int→Ob β)(z:Int→List V→Ob β)(E:Ob β):Ob β:=ifb (decide (A≥(0:Int))) (chk (0+4≤(XK D)) (xp β L (XL 4 D) A (fun F=>ifb F (lt (QG .i64 ((A:Int)+(1:Int))) fun G=>C G) (lt (QG .i64 ((A:Int)-(1:Int))) fun H=>z H D)))) (E)
theorem zO6{β:Type}(xp:zal)(L:Nat)(z:Int)(A:List V)(X:St→Ob β)(K:KT β):ze zeB (zew xp L) 0 L zsU (zjV z A) (yH zvL X K)=zHu xp L z A (fun C=>K .ret (zsG C)) (fun z A=>X (zjV z A)) (K (.exit 0) (zuo)):=by kernel_rfl
def zzy{β:Type}(xp:zal)(L:Nat)(A:Int)(z:Int→Ob β):Ob β:=z A
theorem zJc{β:Type}(xp:zal)(L:Nat)(z:Int)(k:KK β):(xi 0 (yv (ze zeB (zew xp L) 0 L zz1) (zD 0 (CF.res cf_ref02_Len) k))) .ret (zsG z)=zzy xp L z (fun A=>k (Qe A) []):=by kernel_rfl
def zB1{β:Type}(xp:zal)(L:Nat)(z:Int→Ob β):Ob β:=z (0:Int)
theorem zMd{β:Type}(xp:zal)(L:Nat)(k:KK β):(xi 0 (yv (ze zeB (zew xp L) 0 L zz1) (zD 0 (CF.res cf_ref02_Len) k))) (.exit 0) (zuo)=zB1 xp L (fun z=>k (Qe z) []):=by kernel_rfl
def zu1{β:Type}(xp:zal)(L:Nat)(z:Int→Ob β)(A:Ob β):Nat→Int→List V→Ob β
 | 0,_,_=>none
 | n+1,C,D=>zHu xp L C D z (fun C D=>zu1 xp L z A n C D) A
theorem zzn{β:Type}(xp:zal)(L:Nat)(K:KT β):∀ (n:Nat) (z:Int) (A:List V),zx (ze zeB (zew xp L) 0 L zsU) zvL n (zjV z A) K=zu1 xp L (fun C=>K .ret (zsG C)) (K (.exit 0) (zuo)) n z A:=by
 intro n; induction n <;> intros
 ·rfl
 ·exact (zO6 ..).trans (by simp only [*]; rfl)
def zH2{β:Type}(xp:zal)(L:Nat)(A:List V)(z:Int→Ob β):Ob β:=zSh xp L A (fun C D=>zu1 xp L (fun E=>zzy xp L E z) (zB1 xp L z) L C D)
theorem zXj{β:Type}(xp:zal)(L:Nat)(z:List V)(k:KK β):yh zeB (zew xp L) L cf_ref02_Len [(V.agg z)] [] k=zH2 xp L z (fun z=>k (Qe z) []):=by
 refine (zXX xp L z k).trans ?_
 unfold zH2
 first
  | (simp only [zzn,zJc,zMd]; done)
  | (simp only [zzn]; rfl)
abbrev zsh:=∀ (β:Type),Nat→List V→(Int→Ob β)→Ob β
def zbJ:zsh:=fun β=>@zH2 β xp
def zrP(zbJ:zsh)(L:Nat):Dk:=dA AG fun z=>d0 fun β k=>zbJ β L z (fun z=>k (Qe z) [])
theorem zXO(L:Nat):DK (zrP zbJ L) (fun _=>yh zeB (zew xp L) L cf_ref02_Len):=xv zak fun z=>yK fun _ k=>zXj xp L z k
def zKa:Hint:=⟨[(6,9)],[],[none,some ((bl 732 29),(bl 522190591 29)),none,some ((bl 208 29),(bl 522190579 29)),none,none],[],[],false,false,[]⟩
def cf_ref02_Add:CF:=cfD zKa 198
def zoV:CC:=yz [1,1,1,0,1,0,0] cf_ref02_Add.body
def zGK:CC:=yz [1,1,1,1] cf_ref02_Add.body
def zfH:Nat→Sh:=zj [(16,(.int .u64)),(19,(.int .u64))]
def zfJ(L:Nat):CBC:=noC
def zrf:St→St:=yM 0 (bl 732 29) (bl 522190591 29)
def zie(E F:Int)(G H:List V)(z A C D:Int)(I:List V):St:=⟨(jn 2 ((V.ptr 2 0)::((V.ptr 3 0)::((V.ptr 4 0)::(jn 1 ((V.ptr 6 0)::((Qd E)::(jn 1 ((Qe F)::(jn 19 [])))))))))),(gn 2 ((.live true G)::((.live true H)::((.live true [(Qd z),(Qd A),(Qd C),(Qd D)])::(gn 1 ((.live true I)::(gn 22 [])))))))⟩
def zvr(E z A C D:Int)(F:List V):St:=⟨(jn 4 ((V.ptr 4 0)::(jn 1 ((V.ptr 6 0)::((Qd E)::(jn 21 [])))))),(gn 4 ((.live true [(Qd z),(Qd A),(Qd C),(Qd D)])::(gn 1 ((.live true F)::(gn 22 [])))))⟩
abbrev zyA(β:Type):Type:=Int→Int→List V→List V→Int→Int→Int→Int→List V→Ob β
def zSp{β:Type}(L:Nat)(A C:List V)(z:zyA β):Ob β:=z (0:Int) (0:Int) A C (0:Int) (0:Int) (0:Int) (0:Int) [(Qd (0:Int)),(Qd (0:Int)),(Qd (0:Int)),(Qd (0:Int))]
theorem zXC{β:Type}(L:Nat)(E F:List V)(k:KK β):yh zfH (zfJ L) L cf_ref02_Add [(V.agg E),(V.agg F)] [] k=zSp L E F (fun G H I J z A C D M=>zx (ze zfH (zfJ L) 0 L zoV) zrf L (zie G H I J z A C D M) (xi 0 (yv (ze zfH (zfJ L) 0 L zGK) (zD 0 (CF.res cf_ref02_Add) k)))):=by kernel_rfl
def zBB{β:Type}(L:Nat)(C z:Int)(J M:List V)(D E F G:Int)(H:List V)(A:zyA β)(I:Int→Int→Int→Int→Int→List V→Ob β):Ob β:=ifb (decide (z<(4:Int))) (chk (0≤z∧z<((4:Nat):Int)) (cI .u64 J (0+((XM z)*1)) fun N=>chk (0≤z∧z<((4:Nat):Int)) (cI .u64 M (0+((XM z)*1)) fun O=>chk (C=0∨C=1) (lt (zXk false N O C) fun P=>lt (zXS false N O C) fun Q=>chk (0≤z∧z<((4:Nat):Int)) (chk (1=1∧(0+((XM z)*1))+1≤(XK H)) (lt (zk H (0+((XM z)*1)) [(Qd P)]) fun R=>lt (QG .i64 ((z:Int)+(1:Int))) fun S=>A Q S J M D E F G R)))))) (I C D E F G H)
theorem zMm{β:Type}(L:Nat)(E G:Int)(H I:List V)(z A C D:Int)(F:List V)(X:St→Ob β)(K:KT β):ze zfH (zfJ L) 0 L zoV (zie E G H I z A C D F) (yH zrf X K)=zBB L E G H I z A C D F (fun E G H I z A C D F=>X (zie E G H I z A C D F)) (fun E z A C D F=>K (.exit 0) (zvr E z A C D F)):=by kernel_rfl
def zwV{β:Type}(L:Nat)(H A C D E:Int)(F:List V)(z:List V→Bool→Ob β):Ob β:=chk (0+4≤(XK F)) (chk ((XK (XL 4 F))=4∧0+4≤4) (lt (zk [(Qd A),(Qd C),(Qd D),(Qd E)] 0 (XL 4 F)) fun G=>chk (0=0∧(XK G)=4∧4≠0) (z G ((H:Int)==(1:Int)))))
theorem zId{β:Type}(L:Nat)(G z A C D:Int)(H:List V)(k:KK β):(xi 0 (yv (ze zfH (zfJ L) 0 L zGK) (zD 0 (CF.res cf_ref02_Add) k))) (.exit 0) (zvr G z A C D H)=zwV L G z A C D H (fun E F=>k (V.tup [(V.agg E),(V.sc (.bool F))]) []):=by kernel_rfl
def zqU{β:Type}(L:Nat)(E:Int→Int→Int→Int→Int→List V→Ob β):Nat→Int→Int→List V→List V→Int→Int→Int→Int→List V→Ob β
 | 0,_,_,_,_,_,_,_,_,_=>none
 | n+1,F,G,H,I,z,A,C,D,J=>zBB L F G H I z A C D J (fun F G H I z A C D J=>zqU L E n F G H I z A C D J) E
theorem zwl{β:Type}(L:Nat)(K:KT β):∀ (n:Nat) (E G:Int) (H I:List V) (z A C D:Int) (F:List V),zx (ze zfH (zfJ L) 0 L zoV) zrf n (zie E G H I z A C D F) K=zqU L (fun E z A C D F=>K (.exit 0) (zvr E z A C D F)) n E G H I z A C D F:=by
 intro n; induction n <;> intros
 ·rfl
 ·exact (zMm ..).trans (by simp only [*]; rfl)
def zIX{β:Type}(L:Nat)(H I:List V)(E:List V→Bool→Ob β):Ob β:=zSp L H I (fun F J M N z A C D G=>zqU L (fun F z A C D G=>zwV L F z A C D G E) L F J M N z A C D G)
theorem zYr{β:Type}(L:Nat)(z A:List V)(k:KK β):yh zfH (zfJ L) L cf_ref02_Add [(V.agg z),(V.agg A)] [] k=zIX L z A (fun C D=>k (V.tup [(V.agg C),(V.sc (.bool D))]) []):=by
 refine (zXC L z A k).trans ?_
 unfold zIX
 first
  | (simp only [zwl,zId]; done)
  | (simp only [zwl]; rfl)
abbrev zcR:=∀ (β:Type),Nat→List V→List V→(List V→Bool→Ob β)→Ob β
def xL:zcR:=fun β=>@zIX β
def zrK(xL:zcR)(L:Nat):Dk:=dA AG fun C=>dA AG fun D=>d0 fun β k=>xL β L C D (fun z A=>k (V.tup [(V.agg z),(V.sc (.bool A))]) [])
theorem zW3(L:Nat):DK (zrK xL L) (fun _=>yh zfH (zfJ L) L cf_ref02_Add):=xv zak fun z=>xv zak fun A=>yK fun _ k=>zYr L z A k
def zJ1:Hint:=⟨[(5,3)],[],[none,none,none,some ((bl 22 19),(bl 294911 19)),none,some ((bl 20 19),(bl 294909 19)),none,none],[],[],false,false,[]⟩
def cf_ref02_Shl:CF:=cfD zJ1 191
def zsM:CC:=yz [1,1,0,0,0] cf_ref02_Shl.body
def zKh:CC:=yz [1,1,1] cf_ref02_Shl.body
def zfv:Nat→Sh:=zj []
def zfj(xL:zcR)(L:Nat):CBC:=(xe 593 (zrK xL L) noC)
def zun:St→St:=yM 0 (bl 22 19) (bl 294911 19)
def zjD(E:Int)(F:List V)(z A C D:Int):St:=⟨(jn 1 ((Qe E)::((V.ptr 2 0)::(jn 1 ((V.ptr 4 0)::(jn 14 [])))))),(gn 2 ((.live true F)::(gn 1 ((.live true [(Qd z),(Qd A),(Qd C),(Qd D)])::(gn 14 [])))))⟩
def zum(E:List V)(z A C D:Int):St:=⟨(jn 2 ((V.ptr 2 0)::(jn 1 ((V.ptr 4 0)::(jn 14 []))))),(gn 2 ((.live true E)::(gn 1 ((.live true [(Qd z),(Qd A),(Qd C),(Qd D)])::(gn 14 [])))))⟩
def zSK{β:Type}(xL:zcR)(L:Nat)(E:List V)(C:Int)(A:List V→Ob β)(z:Int→List V→Int→Int→Int→Int→Ob β):Ob β:=ifb (decide (C≥(256:Int))) (lt [(Qd (0:Int)),(Qd (0:Int)),(Qd (0:Int)),(Qd (0:Int))] fun D=>chk (0=0∧(XK D)=4∧4≠0) (A D)) (z C E (0:Int) (0:Int) (0:Int) (0:Int))
theorem zYx{β:Type}(xL:zcR)(L:Nat)(z:List V)(A:Int)(k:KK β):yh zfv (zfj xL L) L cf_ref02_Shl [(V.agg z),(Qe A)] [] k=zSK xL L z A (fun z=>k (V.agg z) []) (fun A G C D E F=>zx (ze zfv (zfj xL L) 0 L zsM) zun L (zjD A G C D E F) (xi 0 (yv (ze zfv (zfj xL L) 0 L zKh) (zD 0 (CF.res cf_ref02_Shl) k)))):=by kernel_rfl
def zGn{β:Type}(xL:zcR)(L:Nat)(H:Int)(z:List V)(C D E F:Int)(A:Int→List V→Int→Int→Int→Int→Ob β)(G:List V→Int→Int→Int→Int→Ob β):Ob β:=ifb (decide (H>(0:Int))) (chk (0+4≤(XK z)) (chk (0+4≤(XK z)) (xL β L (XL 4 z) (XL 4 z) (fun I N=>chk ((XK I)=4∧0+4≤(XK z)) (lt (zk z 0 I) fun J=>lt (QG .i64 ((H:Int)-(1:Int))) fun M=>A M J C D E F))))) (G z C D E F)
theorem zOO{β:Type}(xL:zcR)(L:Nat)(F:Int)(E:List V)(z A C D:Int)(X:St→Ob β)(K:KT β):ze zfv (zfj xL L) 0 L zsM (zjD F E z A C D) (yH zun X K)=zGn xL L F E z A C D (fun F E z A C D=>X (zjD F E z A C D)) (fun E z A C D=>K (.exit 0) (zum E z A C D)):=by kernel_rfl
def zA6{β:Type}(xL:zcR)(L:Nat)(A:List V)(C D E F:Int)(z:List V→Ob β):Ob β:=chk (0+4≤(XK A)) (chk ((XK (XL 4 A))=4∧0+4≤4) (lt (zk [(Qd C),(Qd D),(Qd E),(Qd F)] 0 (XL 4 A)) fun G=>chk (0=0∧(XK G)=4∧4≠0) (z G)))
theorem zMx{β:Type}(xL:zcR)(L:Nat)(E:List V)(z A C D:Int)(k:KK β):(xi 0 (yv (ze zfv (zfj xL L) 0 L zKh) (zD 0 (CF.res cf_ref02_Shl) k))) (.exit 0) (zum E z A C D)=zA6 xL L E z A C D (fun F=>k (V.agg F) []):=by kernel_rfl
def zuJ{β:Type}(xL:zcR)(L:Nat)(E:List V→Int→Int→Int→Int→Ob β):Nat→Int→List V→Int→Int→Int→Int→Ob β
 | 0,_,_,_,_,_,_=>none
 | n+1,F,G,z,A,C,D=>zGn xL L F G z A C D (fun F G z A C D=>zuJ xL L E n F G z A C D) E
theorem zyO{β:Type}(xL:zcR)(L:Nat)(K:KT β):∀ (n:Nat) (F:Int) (E:List V) (z A C D:Int),zx (ze zfv (zfj xL L) 0 L zsM) zun n (zjD F E z A C D) K=zuJ xL L (fun E z A C D=>K (.exit 0) (zum E z A C D)) n F E z A C D:=by
 intro n; induction n <;> intros
 ·rfl
 ·exact (zOO ..).trans (by simp only [*]; rfl)
def zH7{β:Type}(xL:zcR)(L:Nat)(H:List V)(F:Int)(E:List V→Ob β):Ob β:=zSK xL L H F E (fun F G z A C D=>zuJ xL L (fun G z A C D=>zA6 xL L G z A C D E) L F G z A C D)
theorem zYj{β:Type}(xL:zcR)(L:Nat)(z:List V)(A:Int)(k:KK β):yh zfv (zfj xL L) L cf_ref02_Shl [(V.agg z),(Qe A)] [] k=zH7 xL L z A (fun z=>k (V.agg z) []):=by
 refine (zYx xL L z A k).trans ?_
 unfold zH7
 first
  | (simp only [zyO,zMx]; done)
  | (simp only [zyO]; rfl)
abbrev zsa:=∀ (β:Type),Nat→List V→Int→(List V→Ob β)→Ob β
def zbK:zsa:=fun β=>@zH7 β xL
def zym(zbK:zsa)(L:Nat):Dk:=dA AG fun z=>dA (AI .i64) fun A=>d0 fun β k=>zbK β L z A (fun z=>k (V.agg z) [])
theorem zYk(L:Nat):DK (zym zbK L) (fun _=>yh zfv (zfj xL L) L cf_ref02_Shl):=xv zak fun z=>xv zbN fun A=>yK fun _ k=>zYj xL L z A k
def zBL:Hint:=⟨[],[],[none,none,none,none,none,none,none,none],[],[],false,false,[]⟩
def zFU:CF:=cfD zBL 171
def zuc:Nat→Sh:=zj []
def zu0(xY:ziX)(zbq:zr8)(xJ:zcM)(zbJ:zsh)(zbK:zsa)(L:Nat):CBC:=(xe 566 (zym zbK L) (xe 565 (zrP zbJ L) (xe 553 (zdJ xJ L) (xe 513 (zna zbq L) (xe 562 (zcJ xY L) noC)))))
def zJa{β:Type}(xY:ziX)(zbq:zr8)(xJ:zcM)(zbJ:zsh)(zbK:zsa)(L:Nat)(T:Int)(z:List V→Int→Ob β):Ob β:=lt (zcN .u32 T (24:Int)) fun x0=>lt (QG .i64 x0) fun G=>lt (zgx .u32 T (16777215:Int)) fun x2=>lt (QG .u64 x2) fun x3=>xY β L x3 (fun U=>chk ((XK U)=4∧0+4≤4) (lt (zk [(Qd (0:Int)),(Qd (0:Int)),(Qd (0:Int)),(Qd (0:Int))] 0 U) fun A=>lt (zgx .u32 T (8388608:Int)) fun x6=>ifb ((x6:Int) != (0:Int)) (lt [(Qd (0:Int)),(Qd (0:Int)),(Qd (0:Int)),(Qd (0:Int))] fun W=>chk (0=0∧(XK W)=4∧4≠0) (z W (120:Int))) (chk (0+4≤(XK A)) (chk ((XK (XL 4 A))=4∧0+4≤4) (lt (zk [(Qd (0:Int)),(Qd (0:Int)),(Qd (0:Int)),(Qd (0:Int))] 0 (XL 4 A)) fun F=>ifb (decide (G<(3:Int))) (chk (0+4≤(XK A)) (lt (QG .i64 (((3:Int):Int)-G)) fun x9=>lt (QG .i64 (((8:Int):Int)*x9)) fun X=>zbq β L (XL 4 A) X (fun H=>chk ((XK H)=4∧0+4≤(XK F)) (lt (zk F 0 H) fun C=>chk (0+4≤(XK C)) (xJ β L (XL 4 C) (fun Y=>ifb Y (lt [(Qd (0:Int)),(Qd (0:Int)),(Qd (0:Int)),(Qd (0:Int))] fun I=>chk (0=0∧(XK I)=4∧4≠0) (z I (120:Int))) (chk (0+4≤(XK C)) (chk ((XK (XL 4 C))=4∧0+4≤4) (lt (zk [(Qd (0:Int)),(Qd (0:Int)),(Qd (0:Int)),(Qd (0:Int))] 0 (XL 4 C)) fun J=>chk (0=0∧(XK J)=4∧4≠0) (z J (0:Int))))))))))) (chk (0+4≤(XK A)) (xJ β L (XL 4 A) (fun Z=>ifb (!Z) (chk (0+4≤(XK A)) (zbJ β L (XL 4 A) (fun aa=>lt (QG .i64 ((G:Int)-(3:Int))) fun ab=>lt (QG .i64 (((8:Int):Int)*ab)) fun ac=>lt (QG .i64 ((aa:Int)+ac)) fun ad=>ifb (decide (ad>(256:Int))) (lt [(Qd (0:Int)),(Qd (0:Int)),(Qd (0:Int)),(Qd (0:Int))] fun M=>chk (0=0∧(XK M)=4∧4≠0) (z M (120:Int))) (chk (0+4≤(XK A)) (lt (QG .i64 ((G:Int)-(3:Int))) fun ae=>lt (QG .i64 (((8:Int):Int)*ae)) fun af=>zbK β L (XL 4 A) af (fun N=>chk ((XK N)=4∧0+4≤(XK F)) (lt (zk F 0 N) fun D=>chk (0+4≤(XK D)) (xJ β L (XL 4 D) (fun ag=>ifb ag (lt [(Qd (0:Int)),(Qd (0:Int)),(Qd (0:Int)),(Qd (0:Int))] fun O=>chk (0=0∧(XK O)=4∧4≠0) (z O (120:Int))) (chk (0+4≤(XK D)) (chk ((XK (XL 4 D))=4∧0+4≤4) (lt (zk [(Qd (0:Int)),(Qd (0:Int)),(Qd (0:Int)),(Qd (0:Int))] 0 (XL 4 D)) fun P=>chk (0=0∧(XK P)=4∧4≠0) (z P (0:Int)))))))))))))) (chk (0+4≤(XK A)) (lt (QG .i64 ((G:Int)-(3:Int))) fun ah=>lt (QG .i64 (((8:Int):Int)*ah)) fun ai=>zbK β L (XL 4 A) ai (fun Q=>chk ((XK Q)=4∧0+4≤(XK F)) (lt (zk F 0 Q) fun E=>chk (0+4≤(XK E)) (xJ β L (XL 4 E) (fun aj=>ifb aj (lt [(Qd (0:Int)),(Qd (0:Int)),(Qd (0:Int)),(Qd (0:Int))] fun R=>chk (0=0∧(XK R)=4∧4≠0) (z R (120:Int))) (chk (0+4≤(XK E)) (chk ((XK (XL 4 E))=4∧0+4≤4) (lt (zk [(Qd (0:Int)),(Qd (0:Int)),(Qd (0:Int)),(Qd (0:Int))] 0 (XL 4 E)) fun S=>chk (0=0∧(XK S)=4∧4≠0) (z S (0:Int)))))))))))))))))))
theorem zRQ{β:Type}(xY:ziX)(zbq:zr8)(xJ:zcM)(zbJ:zsh)(zbK:zsa)(L:Nat)(C:Int)(k:KK β):yh zuc (zu0 xY zbq xJ zbJ zbK L) L zFU [(Qc C)] [] k=zJa xY zbq xJ zbJ zbK L C (fun z A=>k (V.tup [(V.agg z),(Qe A)]) []):=by kernel_rfl
abbrev zcq:=∀ (β:Type),Nat→Int→(List V→Int→Ob β)→Ob β
def zS:zcq:=fun β=>@zJa β xY zbq xJ zbJ zbK
def zk3(zS:zcq)(L:Nat):Dk:=dA (AI .u32) fun C=>d0 fun β k=>zS β L C (fun z A=>k (V.tup [(V.agg z),(Qe A)]) [])
theorem zRY(L:Nat):DK (zk3 zS L) (fun _=>yh zuc (zu0 xY zbq xJ zbJ zbK L) L zFU):=xv zbN fun z=>yK fun _ k=>zRQ xY zbq xJ zbJ zbK L z k
def zuP:Hint:=⟨[],[],[none,some ((bl 78 27),(bl 134217679 27)),none,some ((bl 12 27),(bl 134217677 27)),none,none],[],[],false,false,[]⟩
def cf_ref02_FromBytes:CF:=cfD zuP 173
def zjm:CC:=yz [1,1,0,1,0,0] cf_ref02_FromBytes.body
def zvV:CC:=yz [1,1,1] cf_ref02_FromBytes.body
def zb5:Nat→Sh:=zj [(14,(.int .u64)),(17,(.int .u8))]
def zb6(L:Nat):CBC:=noC
def zkC:St→St:=yM 0 (bl 78 27) (bl 134217679 27)
def ze3(E:Int)(F:List V)(z A C D:Int)(G:List V):St:=⟨(jn 1 ((V.ptr 1 0)::((V.ptr 2 0)::((V.ptr 3 0)::(jn 2 ((Qe E)::(jn 20 []))))))),(gn 1 ((.live true F)::((.live true [(Qd z),(Qd A),(Qd C),(Qd D)])::((.live true G)::(gn 23 [])))))⟩
def zly(z A C D:Int)(E:List V):St:=⟨(jn 2 ((V.ptr 2 0)::((V.ptr 3 0)::(jn 23 [])))),(gn 2 ((.live true [(Qd z),(Qd A),(Qd C),(Qd D)])::((.live true E)::(gn 23 []))))⟩
def zBk{β:Type}(L:Nat)(A:List V)(z:Int→List V→Int→Int→Int→Int→List V→Ob β):Ob β:=z (0:Int) A (0:Int) (0:Int) (0:Int) (0:Int) [(Qd (0:Int)),(Qd (0:Int)),(Qd (0:Int)),(Qd (0:Int))]
theorem zMp{β:Type}(L:Nat)(E:List V)(k:KK β):yh zb5 (zb6 L) L cf_ref02_FromBytes [(V.agg E)] [] k=zBk L E (fun F G z A C D H=>zx (ze zb5 (zb6 L) 0 L zjm) zkC L (ze3 F G z A C D H) (xi 0 (yv (ze zb5 (zb6 L) 0 L zvV) (zD 0 (CF.res cf_ref02_FromBytes) k)))):=by kernel_rfl
def zrT{β:Type}(L:Nat)(C:Int)(J:List V)(D E F G:Int)(H:List V)(z:Int→List V→Int→Int→Int→Int→List V→Ob β)(I:Int→Int→Int→Int→List V→Ob β):Ob β:=ifb (decide (C<(32:Int))) (lt (QG .i64 (((31:Int):Int)-C)) fun M=>lt (QG .i64 (XW M (8:Int))) fun A=>chk (0≤A∧A<((4:Nat):Int)) (cI .u64 H (0+((XM A)*1)) fun P=>chk (0≤C∧C<((32:Nat):Int)) (cI .u8 J (0+((XM C)*1)) fun Q=>lt (QG .u64 Q) fun R=>lt (XX M (8:Int)) fun S=>lt (QG .i64 (((8:Int):Int)*S)) fun N=>chk (0≤N) (lt (zgr .u64 R N) fun T=>lt (ior .u64 P T) fun U=>chk (0≤A∧A<((4:Nat):Int)) (chk (1=1∧(0+((XM A)*1))+1≤(XK H)) (lt (zk H (0+((XM A)*1)) [(Qd U)]) fun W=>lt (QG .i64 ((C:Int)+(1:Int))) fun O=>z O J D E F G W)))))) (I D E F G H)
theorem zB9{β:Type}(L:Nat)(F:Int)(G:List V)(z A C D:Int)(E:List V)(X:St→Ob β)(K:KT β):ze zb5 (zb6 L) 0 L zjm (ze3 F G z A C D E) (yH zkC X K)=zrT L F G z A C D E (fun F G z A C D E=>X (ze3 F G z A C D E)) (fun z A C D E=>K (.exit 0) (zly z A C D E)):=by kernel_rfl
def zoF{β:Type}(L:Nat)(C D E F:Int)(G:List V)(z:List V→Ob β):Ob β:=chk (0+4≤(XK G)) (chk ((XK (XL 4 G))=4∧0+4≤4) (lt (zk [(Qd C),(Qd D),(Qd E),(Qd F)] 0 (XL 4 G)) fun A=>chk (0=0∧(XK A)=4∧4≠0) (z A)))
theorem zyD{β:Type}(L:Nat)(z A C D:Int)(E:List V)(k:KK β):(xi 0 (yv (ze zb5 (zb6 L) 0 L zvV) (zD 0 (CF.res cf_ref02_FromBytes) k))) (.exit 0) (zly z A C D E)=zoF L z A C D E (fun F=>k (V.agg F) []):=by kernel_rfl
def zki{β:Type}(L:Nat)(E:Int→Int→Int→Int→List V→Ob β):Nat→Int→List V→Int→Int→Int→Int→List V→Ob β
 | 0,_,_,_,_,_,_,_=>none
 | n+1,F,G,z,A,C,D,H=>zrT L F G z A C D H (fun F G z A C D H=>zki L E n F G z A C D H) E
theorem zob{β:Type}(L:Nat)(K:KT β):∀ (n:Nat) (F:Int) (G:List V) (z A C D:Int) (E:List V),zx (ze zb5 (zb6 L) 0 L zjm) zkC n (ze3 F G z A C D E) K=zki L (fun z A C D E=>K (.exit 0) (zly z A C D E)) n F G z A C D E:=by
 intro n; induction n <;> intros
 ·rfl
 ·exact (zB9 ..).trans (by simp only [*]; rfl)
def zqH{β:Type}(L:Nat)(G:List V)(E:List V→Ob β):Ob β:=zBk L G (fun H I z A C D F=>zki L (fun z A C D F=>zoF L z A C D F E) L H I z A C D F)
theorem zLF{β:Type}(L:Nat)(z:List V)(k:KK β):yh zb5 (zb6 L) L cf_ref02_FromBytes [(V.agg z)] [] k=zqH L z (fun z=>k (V.agg z) []):=by
 refine (zMp L z k).trans ?_
 unfold zqH
 first
  | (simp only [zob,zyD]; done)
  | (simp only [zob]; rfl)
abbrev zkL:=∀ (β:Type),Nat→List V→(List V→Ob β)→Ob β
def zaY:zkL:=fun β=>@zqH β
def zee(zaY:zkL)(L:Nat):Dk:=dA AG fun z=>d0 fun β k=>zaY β L z (fun z=>k (V.agg z) [])
theorem zLO(L:Nat):DK (zee zaY L) (fun _=>yh zb5 (zb6 L) L cf_ref02_FromBytes):=xv zak fun z=>yK fun _ k=>zLF L z k
def zLn:Hint:=⟨[],[],[none,some ((bl 44 24),(bl 16777199 24)),none,some ((bl 0 24),(bl 16777155 24)),none,none,some ((bl 16 24),(bl 16777171 24)),none,some ((bl 16 24),(bl 16777171 24)),none],[],[],false,false,[]⟩
def cf_ref02_Cmp:CF:=cfD zLn 172
def zsR:CC:=yz [1,0,1,0,0] cf_ref02_Cmp.body
def zAK:CC:=yz [1,1] cf_ref02_Cmp.body
def zey:Nat→Sh:=zj [(12,(.int .u64)),(15,(.int .u64)),(19,(.int .u64)),(22,(.int .u64))]
def zeD(L:Nat):CBC:=noC
def zwd:St→St:=yM 0 (bl 44 24) (bl 16777199 24)
def zj0(z:Int)(A C:List V):St:=⟨(jn 2 ((V.ptr 2 0)::((V.ptr 3 0)::(jn 1 ((Qe z)::(jn 18 [])))))),(gn 2 ((.live true A)::((.live true C)::(gn 20 []))))⟩
def zsK(z:Int):St:=⟨(jn 4 ((Qe z)::(jn 19 []))),(gn 24 [])⟩
def zvS:St:=⟨(jn 24 []),(gn 24 [])⟩
def zSG{β:Type}(L:Nat)(A C:List V)(z:Int→List V→List V→Ob β):Ob β:=z (3:Int) A C
theorem zXa{β:Type}(L:Nat)(z A:List V)(k:KK β):yh zey (zeD L) L cf_ref02_Cmp [(V.agg z),(V.agg A)] [] k=zSG L z A (fun C D E=>zx (ze zey (zeD L) 0 L zsR) zwd L (zj0 C D E) (xi 0 (yv (ze zey (zeD L) 0 L zAK) (zD 0 (CF.res cf_ref02_Cmp) k)))):=by kernel_rfl
def zF8{β:Type}(L:Nat)(z:Int)(D E:List V)(A:Int→Ob β)(C:Int→List V→List V→Ob β)(F:Ob β):Ob β:=ifb (decide (z≥(0:Int))) (chk (0≤z∧z<((4:Nat):Int)) (cI .u64 D (0+((XM z)*1)) fun G=>chk (0≤z∧z<((4:Nat):Int)) (cI .u64 E (0+((XM z)*1)) fun H=>ifb (decide (G<H)) (A (-1:Int)) (chk (0≤z∧z<((4:Nat):Int)) (cI .u64 D (0+((XM z)*1)) fun I=>chk (0≤z∧z<((4:Nat):Int)) (cI .u64 E (0+((XM z)*1)) fun J=>ifb (decide (I>J)) (A (1:Int)) (lt (QG .i64 ((z:Int)-(1:Int))) fun M=>C M D E))))))) (F)
theorem zP0{β:Type}(L:Nat)(z:Int)(A C:List V)(X:St→Ob β)(K:KT β):ze zey (zeD L) 0 L zsR (zj0 z A C) (yH zwd X K)=zF8 L z A C (fun D=>K .ret (zsK D)) (fun z A C=>X (zj0 z A C)) (K (.exit 0) (zvS)):=by kernel_rfl
def zzz{β:Type}(L:Nat)(A:Int)(z:Int→Ob β):Ob β:=z A
theorem zLg{β:Type}(L:Nat)(z:Int)(k:KK β):(xi 0 (yv (ze zey (zeD L) 0 L zAK) (zD 0 (CF.res cf_ref02_Cmp) k))) .ret (zsK z)=zzz L z (fun A=>k (Qe A) []):=by kernel_rfl
def zBb{β:Type}(L:Nat)(z:Int→Ob β):Ob β:=z (0:Int)
theorem zMF{β:Type}(L:Nat)(k:KK β):(xi 0 (yv (ze zey (zeD L) 0 L zAK) (zD 0 (CF.res cf_ref02_Cmp) k))) (.exit 0) (zvS)=zBb L (fun z=>k (Qe z) []):=by kernel_rfl
def zu3{β:Type}(L:Nat)(z:Int→Ob β)(A:Ob β):Nat→Int→List V→List V→Ob β
 | 0,_,_,_=>none
 | n+1,C,D,E=>zF8 L C D E z (fun C D E=>zu3 L z A n C D E) A
theorem zyQ{β:Type}(L:Nat)(K:KT β):∀ (n:Nat) (z:Int) (A C:List V),zx (ze zey (zeD L) 0 L zsR) zwd n (zj0 z A C) K=zu3 L (fun D=>K .ret (zsK D)) (K (.exit 0) (zvS)) n z A C:=by
 intro n; induction n <;> intros
 ·rfl
 ·exact (zP0 ..).trans (by simp only [*]; rfl)
def zIV{β:Type}(L:Nat)(A C:List V)(z:Int→Ob β):Ob β:=zSG L A C (fun D E F=>zu3 L (fun G=>zzz L G z) (zBb L z) L D E F)
theorem zX6{β:Type}(L:Nat)(z A:List V)(k:KK β):yh zey (zeD L) L cf_ref02_Cmp [(V.agg z),(V.agg A)] [] k=zIV L z A (fun z=>k (Qe z) []):=by
 refine (zXa L z A k).trans ?_
 unfold zIV
 first
  | (simp only [zyQ,zLg,zMF]; done)
  | (simp only [zyQ]; rfl)
abbrev zex:=∀ (β:Type),Nat→List V→List V→(Int→Ob β)→Ob β
def yX:zex:=fun β=>@zIV β
def zdS(yX:zex)(L:Nat):Dk:=dA AG fun z=>dA AG fun A=>d0 fun β k=>yX β L z A (fun z=>k (Qe z) [])
theorem zYs(L:Nat):DK (zdS yX L) (fun _=>yh zey (zeD L) L cf_ref02_Cmp):=xv zak fun z=>xv zak fun A=>yK fun _ k=>zX6 L z A k
def zE5:Hint:=⟨[(1,2)],[],[none],[],[],false,false,[]⟩
def zXs:CF:=cfD zE5 144
def yaQ:Nat→Sh:=zj []
def z9P(zS:zcq)(zaY:zkL)(yX:zex)(L:Nat):CBC:=(xe 528 (zdS yX L) (xe 529 (zee zaY L) (xe 527 (zk3 zS L) noC)))
def zZX{β:Type}(zS:zcq)(zaY:zkL)(yX:zex)(L:Nat)(A:List V)(E:Int)(z:Bool→Ob β):Ob β:=zS β L E (fun C F=>chk ((XK C)=4∧0+4≤4) (lt (zk [(Qd (0:Int)),(Qd (0:Int)),(Qd (0:Int)),(Qd (0:Int))] 0 C) fun D=>ifb ((F:Int)==(0:Int)) (chk (0+32≤(XK A)) (zaY β L (XL 32 A) (fun G=>chk (0+4≤(XK D)) (yX β L G (XL 4 D) (fun H=>z (decide (H≤(0:Int)))))))) (z false)))
abbrev zNJ:=∀ (β:Type),Nat→List V→Int→(Bool→Ob β)→Ob β
def zM9:zNJ:=fun β=>@zZX β zS zaY yX
def yaU(zM9:zNJ)(L:Nat):Dk:=dA AG fun z=>dA (AI .u32) fun A=>d0 fun β k=>zM9 β L z A (fun z=>k (V.sc (.bool z)) [])
def zD8:Hint:=⟨[(0,0),(11,4)],[],[none,none,none,none,none,some ((bl 4035225266123964418 107),(bl 162259276829213363391578010288067 107)),none,some ((bl 2 107),(bl 162259276829213363391578010288067 107)),none,none,some ((bl 4 107),(bl 162259276829213363391578010288069 107)),none],[],[],false,false,[]⟩
def cf_ref13_Valid:CF:=cfD zD8 149
def z5a:CC:=yz [1,1,1,0,1,0,0] cf_ref13_Valid.body
def z73:CC:=yz [1,1,1,1] cf_ref13_Valid.body
def z95:Nat→Sh:=zj [(12,(.int .i64)),(17,(.int .i64)),(22,(.int .u32)),(27,(.int .u32)),(31,(.int .i64)),(35,(.int .i64)),(40,(.int .i64)),(45,(.int .i64)),(50,(.int .i64)),(55,(.int .i64)),(59,(.sl 33)),(67,(.int .i64)),(71,(.int .i64)),(79,(.sl 33)),(84,(.int .i64)),(86,(.int .i64)),(94,(.int .u32))]
def yax(xJ:zcM)(zS:zcq)(yX:zex)(L:Nat):CBC:=(xe 528 (zdS yX L) (xe 527 (zk3 zS L) (xe 553 (zdJ xJ L) noC)))
def z58:St→St:=yM 0 (bl 4035225266123964418 107) (bl 162259276829213363391578010288067 107)
def z3M(z:Ls)(A C:Int)(D:List V):St:=⟨(jn 1 ((V.ptr 1 0)::(jn 57 ((V.sl 33 z)::((Qe A)::((Qe C)::(jn 45 []))))))),(gn 1 ((.live true D)::(gn 105 [])))⟩
def z7N(z:Bool):St:=⟨(jn 2 ((V.sc (.bool z))::(jn 104 []))),(gn 107 [])⟩
def z7Y(z:List V):St:=⟨(jn 1 ((V.ptr 1 0)::(jn 105 []))),(gn 1 ((.live true z)::(gn 105 [])))⟩
def zZ5{β:Type}(xJ:zcM)(zS:zcq)(yX:zex)(L:Nat)(A:List V)(z:Bool→Ob β)(C:Ls→Int→Int→List V→Ob β):Ob β:=chk (68+4≤(XK A)) (xJ β L (XL 4 (XO 68 A)) (fun F=>ifb F (z false) (cI .i64 A 72 fun G=>ifb (decide (G<(1:Int))) (z false) (cI .i64 A 72 fun H=>ifb (decide (H>(4096:Int))) (z false) (cI .u32 A 73 fun I=>ifb (decide (I<(1:Int))) (z false) (cI .u32 A 73 fun J=>ifb (decide (J>(1048576:Int))) (z false) (cI .i64 A 77 fun M=>ifb (decide (M<(0:Int))) (z false) (cI .i64 A 77 fun N=>ifb (decide (N>(2100000000000000:Int))) (z false) (cI .i64 A 78 fun O=>ifb (decide (O<(1:Int))) (z false) (cI .i64 A 78 fun P=>ifb (decide (P>(16777216:Int))) (z false) (cI .i64 A 79 fun Q=>ifb (decide (Q<(0:Int))) (z false) (cI .i64 A 79 fun E=>ifb (decide (E>(16777216:Int))) (z false) (cLd 33 A 76 fun D=>C D ((XK D:Nat):Int) (0:Int) A)))))))))))))
def zN7{β:Type}(xJ:zcM)(zS:zcq)(yX:zex)(L:Nat)(D:Ls)(E A:Int)(G:List V)(C:Bool→Ob β)(z:Ls→Int→Int→List V→Ob β)(I:List V→Ob β):Ob β:=ifb (decide (A<E)) (idx D A fun H=>chk ((XK (XL 33 H))=33∧0+33≤33) (lt (zk ([(Qe (0:Int))]++We 32 (Qa (0:Int))) 0 (XL 33 H)) fun F=>cI .i64 F 0 fun J=>ifb (decide (J<(1:Int))) (C false) (cI .i64 F 0 fun M=>ifb (decide (M>(16777216:Int))) (C false) (ifb (decide (A>(0:Int))) (cLd 33 G 76 fun N=>lt (QG .i64 ((A:Int)-(1:Int))) fun O=>idx N O fun P=>cI .i64 P 0 fun Q=>cI .i64 F 0 fun R=>ifb (decide (Q≥R)) (C false) (lt (QG .i64 ((A:Int)+(1:Int))) fun S=>z D E S G)) (lt (QG .i64 ((A:Int)+(1:Int))) fun T=>z D E T G))))) (I G)
def zIH{β:Type}(xJ:zcM)(zS:zcq)(yX:zex)(L:Nat)(A:Bool)(z:Bool→Ob β):Ob β:=z A
def zKw{β:Type}(xJ:zcM)(zS:zcq)(yX:zex)(L:Nat)(D:List V)(z:Bool→Ob β):Ob β:=cI .u32 D 66 fun E=>zS β L E (fun A F=>chk ((XK A)=4∧0+4≤4) (lt (zk [(Qd (0:Int)),(Qd (0:Int)),(Qd (0:Int)),(Qd (0:Int))] 0 A) fun C=>ifb ((F:Int)==(0:Int)) (chk (0+4≤(XK C)) (chk (68+4≤(XK D)) (yX β L (XL 4 C) (XL 4 (XO 68 D)) (fun G=>z (decide (G≤(0:Int))))))) (z false)))
def zwB{β:Type}(xJ:zcM)(zS:zcq)(yX:zex)(L:Nat)(z:Bool→Ob β)(A:List V→Ob β):Nat→Ls→Int→Int→List V→Ob β
 | 0,_,_,_,_=>none
 | n+1,C,D,E,F=>zN7 xJ zS yX L C D E F z (fun C D E F=>zwB xJ zS yX L z A n C D E F) A
def z0l{β:Type}(xJ:zcM)(zS:zcq)(yX:zex)(L:Nat)(F:List V)(z:Bool→Ob β):Ob β:=zZ5 xJ zS yX L F z (fun C D E A=>zwB xJ zS yX L (fun G=>zIH xJ zS yX L G z) (fun A=>zKw xJ zS yX L A z) L C D E A)
abbrev zM7:=∀ (β:Type),Nat→List V→(Bool→Ob β)→Ob β
def zNN:zM7:=fun β=>@z0l β xJ zS yX
def yaT(zNN:zM7)(L:Nat):Dk:=dA AG fun z=>d0 fun β k=>zNN β L z (fun z=>k (V.sc (.bool z)) [])
def zzc:Hint:=⟨[],[],[none,some ((bl 76 40),(bl 1099511627727 40)),none,some ((bl 12 40),(bl 1099511627727 40)),none,none,some ((bl 16 40),(bl 1099511627731 40)),none,some ((bl 16 40),(bl 1099511627731 40)),none,none,none,none,none,none],[],[],false,false,[]⟩
def cf_ref09_Compare:CF:=cfD zzc 183
def zms:CC:=yz [1,0,1,0,0] cf_ref09_Compare.body
def zrh:CC:=yz [1,1] cf_ref09_Compare.body
def zca:Nat→Sh:=zj [(12,(.int .u8)),(16,(.int .u8)),(21,(.int .u8)),(25,(.int .u8)),(30,(.int .u32)),(32,(.int .u32)),(36,(.int .u32)),(38,(.int .u32))]
def zcc(L:Nat):CBC:=noC
def znS:St→St:=yM 0 (bl 76 40) (bl 1099511627727 40)
def zgO(z:Int)(A C:List V):St:=⟨(jn 2 ((V.ptr 2 0)::((V.ptr 3 0)::(jn 2 ((Qe z)::(jn 33 [])))))),(gn 2 ((.live true A)::((.live true C)::(gn 36 []))))⟩
def zmo(z:Int):St:=⟨(jn 4 ((Qe z)::(jn 35 []))),(gn 40 [])⟩
def znm(z A:List V):St:=⟨(jn 2 ((V.ptr 2 0)::((V.ptr 3 0)::(jn 36 [])))),(gn 2 ((.live true z)::((.live true A)::(gn 36 []))))⟩
def zHM{β:Type}(L:Nat)(A C:List V)(z:Int→List V→List V→Ob β):Ob β:=z (0:Int) A C
theorem zOw{β:Type}(L:Nat)(z A:List V)(k:KK β):yh zca (zcc L) L cf_ref09_Compare [(V.agg z),(V.agg A)] [] k=zHM L z A (fun C D E=>zx (ze zca (zcc L) 0 L zms) znS L (zgO C D E) (xi 0 (yv (ze zca (zcc L) 0 L zrh) (zD 0 (CF.res cf_ref09_Compare) k)))):=by kernel_rfl
def zwP{β:Type}(L:Nat)(z:Int)(D E:List V)(A:Int→Ob β)(C:Int→List V→List V→Ob β)(F:List V→List V→Ob β):Ob β:=ifb (decide (z<(32:Int))) (chk (0≤z∧z<((32:Nat):Int)) (cI .u8 D (0+((XM z)*1)) fun G=>chk (0≤z∧z<((32:Nat):Int)) (cI .u8 E (0+((XM z)*1)) fun H=>ifb (decide (G<H)) (A (-1:Int)) (chk (0≤z∧z<((32:Nat):Int)) (cI .u8 D (0+((XM z)*1)) fun I=>chk (0≤z∧z<((32:Nat):Int)) (cI .u8 E (0+((XM z)*1)) fun J=>ifb (decide (I>J)) (A (1:Int)) (lt (QG .i64 ((z:Int)+(1:Int))) fun M=>C M D E))))))) (F D E)
theorem zI5{β:Type}(L:Nat)(C:Int)(z A:List V)(X:St→Ob β)(K:KT β):ze zca (zcc L) 0 L zms (zgO C z A) (yH znS X K)=zwP L C z A (fun D=>K .ret (zmo D)) (fun C z A=>X (zgO C z A)) (fun z A=>K (.exit 0) (znm z A)):=by kernel_rfl
def zrR{β:Type}(L:Nat)(A:Int)(z:Int→Ob β):Ob β:=z A
theorem zB5{β:Type}(L:Nat)(z:Int)(k:KK β):(xi 0 (yv (ze zca (zcc L) 0 L zrh) (zD 0 (CF.res cf_ref09_Compare) k))) .ret (zmo z)=zrR L z (fun A=>k (Qe A) []):=by kernel_rfl
def ztP{β:Type}(L:Nat)(A C:List V)(z:Int→Ob β):Ob β:=cI .u32 A 32 fun D=>cI .u32 C 32 fun E=>ifb (decide (D<E)) (z (-1:Int)) (cI .u32 A 32 fun F=>cI .u32 C 32 fun G=>ifb (decide (F>G)) (z (1:Int)) (z (0:Int)))
theorem zDR{β:Type}(L:Nat)(z A:List V)(k:KK β):(xi 0 (yv (ze zca (zcc L) 0 L zrh) (zD 0 (CF.res cf_ref09_Compare) k))) (.exit 0) (znm z A)=ztP L z A (fun C=>k (Qe C) []):=by kernel_rfl
def znj{β:Type}(L:Nat)(z:Int→Ob β)(A:List V→List V→Ob β):Nat→Int→List V→List V→Ob β
 | 0,_,_,_=>none
 | n+1,C,D,E=>zwP L C D E z (fun C D E=>znj L z A n C D E) A
theorem zr2{β:Type}(L:Nat)(K:KT β):∀ (n:Nat) (C:Int) (z A:List V),zx (ze zca (zcc L) 0 L zms) znS n (zgO C z A) K=znj L (fun D=>K .ret (zmo D)) (fun z A=>K (.exit 0) (znm z A)) n C z A:=by
 intro n; induction n <;> intros
 ·rfl
 ·exact (zI5 ..).trans (by simp only [*]; rfl)
def zvy{β:Type}(L:Nat)(D E:List V)(z:Int→Ob β):Ob β:=zHM L D E (fun F A C=>znj L (fun G=>zrR L G z) (fun A C=>ztP L A C z) L F A C)
theorem zOS{β:Type}(L:Nat)(z A:List V)(k:KK β):yh zca (zcc L) L cf_ref09_Compare [(V.agg z),(V.agg A)] [] k=zvy L z A (fun z=>k (Qe z) []):=by
 refine (zOw L z A k).trans ?_
 unfold zvy
 first
  | (simp only [zr2,zB5,zDR]; done)
  | (simp only [zr2]; rfl)
abbrev zaV:=∀ (β:Type),Nat→List V→List V→(Int→Ob β)→Ob β
def zy:zaV:=fun β=>@zvy β
def zod(zy:zaV)(L:Nat):Dk:=dA AG fun z=>dA AG fun A=>d0 fun β k=>zy β L z A (fun z=>k (Qe z) [])
theorem zOI(L:Nat):DK (zod zy L) (fun _=>yh zca (zcc L) L cf_ref09_Compare):=xv zak fun z=>xv zak fun A=>yK fun _ k=>zOS L z A k
def zDQ:Hint:=⟨[(0,0),(6,3)],[],[none,none,none,some ((bl 14680074 80),(bl 1208335523803170957426635 80)),none,some ((bl 0 80),(bl 1208335523803170957426625 80)),none,none,some ((bl 4 80),(bl 1208335523803170957426629 80)),none,some ((bl 4 80),(bl 1208335523803170957426629 80)),none,some ((bl 4 80),(bl 1208335523803170957426629 80)),none],[],[],false,false,[]⟩
def cf_ref23_Sound:CF:=cfD zDQ 164
def zmx:CC:=yz [1,1,1,0,1,0,0] cf_ref23_Sound.body
def zqZ:CC:=yz [1,1,1,1] cf_ref23_Sound.body
def zc1:Nat→Sh:=zj [(7,(.int .i64)),(11,(.int .i64)),(16,(.sl 37)),(21,(.sl 37)),(32,(.sl 37)),(45,(.int .i64)),(50,(.int .i64)),(52,(.int .i64)),(57,(.int .i64)),(62,(.int .i64)),(68,(.sl 1)),(75,(.int .i64))]
def zcV(zy:zaV)(L:Nat):CBC:=(xe 136 (zod zy L) noC)
def znB:St→St:=yM 0 (bl 14680074 80) (bl 1208335523803170957426635 80)
def zgK(D:Int)(z:Ls)(A C:Int)(E:List V):St:=⟨(jn 1 ((V.ptr 1 0)::(jn 1 ((Qe D)::(jn 17 ((V.sl 37 z)::((Qe A)::((Qe C)::(jn 56 []))))))))),(gn 1 ((.live true E)::(gn 78 [])))⟩
def zoS(z:Bool):St:=⟨(jn 2 ((V.sc (.bool z))::(jn 77 []))),(gn 80 [])⟩
def zqE:St:=⟨(jn 80 []),(gn 80 [])⟩
def zNY{β:Type}(zy:zaV)(L:Nat)(C:List V)(z:Bool→Ob β)(A:Int→Ls→Int→Int→List V→Ob β):Ob β:=cI .i64 C 0 fun E=>ifb (decide (E<(0:Int))) (z false) (cI .i64 C 0 fun F=>ifb (decide (F>(16777216:Int))) (z false) (cLd 37 C 33 fun G=>ifb (decide (((XK G:Nat):Int)>(100000:Int))) (z false) (cLd 37 C 33 fun D=>A (0:Int) D ((XK D:Nat):Int) (0:Int) C)))
theorem zTn{β:Type}(zy:zaV)(L:Nat)(z:List V)(k:KK β):yh zc1 (zcV zy L) L cf_ref23_Sound [(V.agg z)] [] k=zNY zy L z (fun z=>k (V.sc (.bool z)) []) (fun E A C D F=>zx (ze zc1 (zcV zy L) 0 L zmx) znB L (zgK E A C D F) (xi 0 (yv (ze zc1 (zcV zy L) 0 L zqZ) (zD 0 (CF.res cf_ref23_Sound) k)))):=by kernel_rfl
def zwY{β:Type}(zy:zaV)(L:Nat)(M:Int)(E:Ls)(F D:Int)(G:List V)(z:Bool→Ob β)(C:Int→Ls→Int→Int→List V→Ob β)(J:Ob β):Ob β:=ifb (decide (D<F)) (idx E D fun N=>chk ((XK (XL 37 N))=37∧0+37≤37) (lt (zk (We 32 (Qa (0:Int))++[(Qc (0:Int)),(Qe (0:Int)),(V.gs 1 ([]:Ls)),(Qe (0:Int)),(V.sc (.bool false))]) 0 (XL 37 N)) fun A=>ifb (decide (D>(0:Int))) (cLd 37 G 33 fun v6=>lt (QG .i64 ((D:Int)-(1:Int))) fun x7=>idx v6 x7 fun c8=>chk (0+33≤(XK A)) (zy β L (XL 33 c8) (XL 33 A) (fun v9=>ifb (decide (v9≥(0:Int))) (z false) (cI .i64 A 35 fun O=>ifb (decide (O<(1:Int))) (z false) (cI .i64 A 35 fun P=>cI .i64 G 0 fun Q=>ifb (decide (P>Q)) (z false) (cI .i64 A 33 fun R=>ifb (decide (R<(0:Int))) (z false) (cI .i64 A 33 fun S=>ifb (decide (S>(2100000000000000:Int))) (z false) (cLd 1 A 34 fun T=>ifb (decide (((XK T:Nat):Int)>(520:Int))) (z false) (cI .i64 A 33 fun U=>lt (QG .i64 ((M:Int)+U)) fun H=>ifb (decide (H>(2100000000000000:Int))) (z false) (lt (QG .i64 ((D:Int)+(1:Int))) fun W=>C H E F W G)))))))))) (cI .i64 A 35 fun X=>ifb (decide (X<(1:Int))) (z false) (cI .i64 A 35 fun Y=>cI .i64 G 0 fun Z=>ifb (decide (Y>Z)) (z false) (cI .i64 A 33 fun aa=>ifb (decide (aa<(0:Int))) (z false) (cI .i64 A 33 fun ab=>ifb (decide (ab>(2100000000000000:Int))) (z false) (cLd 1 A 34 fun ac=>ifb (decide (((XK ac:Nat):Int)>(520:Int))) (z false) (cI .i64 A 33 fun ad=>lt (QG .i64 ((M:Int)+ad)) fun I=>ifb (decide (I>(2100000000000000:Int))) (z false) (lt (QG .i64 ((D:Int)+(1:Int))) fun ae=>C I E F ae G))))))))) (J)
theorem zIN{β:Type}(zy:zaV)(L:Nat)(D:Int)(z:Ls)(A C:Int)(E:List V)(X:St→Ob β)(K:KT β):ze zc1 (zcV zy L) 0 L zmx (zgK D z A C E) (yH znB X K)=zwY zy L D z A C E (fun F=>K .ret (zoS F)) (fun D z A C E=>X (zgK D z A C E)) (K (.exit 0) (zqE)):=by kernel_rfl
def zrQ{β:Type}(zy:zaV)(L:Nat)(A:Bool)(z:Bool→Ob β):Ob β:=z A
theorem zCt{β:Type}(zy:zaV)(L:Nat)(z:Bool)(k:KK β):(xi 0 (yv (ze zc1 (zcV zy L) 0 L zqZ) (zD 0 (CF.res cf_ref23_Sound) k))) .ret (zoS z)=zrQ zy L z (fun A=>k (V.sc (.bool A)) []):=by kernel_rfl
def ztD{β:Type}(zy:zaV)(L:Nat)(z:Bool→Ob β):Ob β:=z true
theorem zER{β:Type}(zy:zaV)(L:Nat)(k:KK β):(xi 0 (yv (ze zc1 (zcV zy L) 0 L zqZ) (zD 0 (CF.res cf_ref23_Sound) k))) (.exit 0) (zqE)=ztD zy L (fun z=>k (V.sc (.bool z)) []):=by kernel_rfl
def znv{β:Type}(zy:zaV)(L:Nat)(z:Bool→Ob β)(A:Ob β):Nat→Int→Ls→Int→Int→List V→Ob β
 | 0,_,_,_,_,_=>none
 | n+1,F,C,D,E,G=>zwY zy L F C D E G z (fun F C D E G=>znv zy L z A n F C D E G) A
theorem zrO{β:Type}(zy:zaV)(L:Nat)(K:KT β):∀ (n:Nat) (D:Int) (z:Ls) (A C:Int) (E:List V),zx (ze zc1 (zcV zy L) 0 L zmx) znB n (zgK D z A C E) K=znv zy L (fun F=>K .ret (zoS F)) (K (.exit 0) (zqE)) n D z A C E:=by
 intro n; induction n <;> intros
 ·rfl
 ·exact (zIN ..).trans (by simp only [*]; rfl)
def zAd{β:Type}(zy:zaV)(L:Nat)(E:List V)(z:Bool→Ob β):Ob β:=zNY zy L E z (fun F A C D G=>znv zy L (fun H=>zrQ zy L H z) (ztD zy L z) L F A C D G)
theorem zTt{β:Type}(zy:zaV)(L:Nat)(z:List V)(k:KK β):yh zc1 (zcV zy L) L cf_ref23_Sound [(V.agg z)] [] k=zAd zy L z (fun z=>k (V.sc (.bool z)) []):=by
 refine (zTn zy L z k).trans ?_
 unfold zAd
 first
  | (simp only [zrO,zCt,zER]; done)
  | (simp only [zrO]; rfl)
abbrev zNd:=∀ (β:Type),Nat→List V→(Bool→Ob β)→Ob β
def zm0:zNd:=fun β=>@zAd β zy
def zAi(zm0:zNd)(L:Nat):Dk:=dA AG fun z=>d0 fun β k=>zm0 β L z (fun z=>k (V.sc (.bool z)) [])
theorem zS3(L:Nat):DK (zAi zm0 L) (fun _=>yh zc1 (zcV zy L) L cf_ref23_Sound):=xv zak fun z=>yK fun _ k=>zTt zy L z k
def zEG:Hint:=⟨[(0,0),(5,2)],[],[none,none,none,some ((bl 57344 23),(bl 8388523 23)),none,some ((bl 0 23),(bl 8388523 23)),none,none,some ((bl 16 23),(bl 8388539 23)),none],[],[],false,false,[]⟩
def cf_ref09_Final:CF:=cfD zEG 165
def znk:CC:=yz [1,1,0,1,0,0] cf_ref09_Final.body
def zs8:CC:=yz [1,1,1] cf_ref09_Final.body
def zcS:Nat→Sh:=zj [(8,(.int .u32)),(13,(.sl 35)),(20,(.int .u32))]
def zc0(L:Nat):CBC:=noC
def zoB:St→St:=yM 0 (bl 57344 23) (bl 8388523 23)
def zho(z:Ls)(A C:Int):St:=⟨(jn 13 ((V.sl 35 z)::((Qe A)::((Qe C)::(jn 7 []))))),(gn 23 [])⟩
def zo2(z:Bool):St:=⟨(jn 4 ((V.sc (.bool z))::(jn 18 []))),(gn 23 [])⟩
def zqP:St:=⟨(jn 23 []),(gn 23 [])⟩
def zNK{β:Type}(L:Nat)(C:List V)(E:Int)(A:Bool→Ob β)(z:Ls→Int→Int→Ob β):Ob β:=cI .u32 C 3 fun F=>lt (QG .i64 F) fun G=>ifb (decide (G≤E)) (A true) (cLd 35 C 1 fun D=>z D ((XK D:Nat):Int) (0:Int))
theorem zTv{β:Type}(L:Nat)(z:List V)(A:Int)(k:KK β):yh zcS (zc0 L) L cf_ref09_Final [(V.agg z),(Qe A)] [] k=zNK L z A (fun z=>k (V.sc (.bool z)) []) (fun C D E=>zx (ze zcS (zc0 L) 0 L znk) zoB L (zho C D E) (xi 0 (yv (ze zcS (zc0 L) 0 L zs8) (zD 0 (CF.res cf_ref09_Final) k)))):=by kernel_rfl
def zzJ{β:Type}(L:Nat)(D:Ls)(E A:Int)(C:Bool→Ob β)(z:Ls→Int→Int→Ob β)(F:Ob β):Ob β:=ifb (decide (A<E)) (idx D A fun G=>chk ((XK (XL 35 G))=35∧0+35≤35) (lt (zk (We 32 (Qa (0:Int))++[(Qc (0:Int)),(Qc (0:Int)),(V.gs 1 ([]:Ls))]) 0 (XL 35 G)) fun H=>cI .u32 H 33 fun I=>ifb ((I:Int) != (4294967295:Int)) (C false) (lt (QG .i64 ((A:Int)+(1:Int))) fun J=>z D E J))) (F)
theorem zLk{β:Type}(L:Nat)(z:Ls)(A C:Int)(X:St→Ob β)(K:KT β):ze zcS (zc0 L) 0 L znk (zho z A C) (yH zoB X K)=zzJ L z A C (fun D=>K .ret (zo2 D)) (fun z A C=>X (zho z A C)) (K (.exit 0) (zqP)):=by kernel_rfl
def zto{β:Type}(L:Nat)(A:Bool)(z:Bool→Ob β):Ob β:=z A
theorem zDy{β:Type}(L:Nat)(z:Bool)(k:KK β):(xi 0 (yv (ze zcS (zc0 L) 0 L zs8) (zD 0 (CF.res cf_ref09_Final) k))) .ret (zo2 z)=zto L z (fun A=>k (V.sc (.bool A)) []):=by kernel_rfl
def zwh{β:Type}(L:Nat)(z:Bool→Ob β):Ob β:=z true
theorem zFw{β:Type}(L:Nat)(k:KK β):(xi 0 (yv (ze zcS (zc0 L) 0 L zs8) (zD 0 (CF.res cf_ref09_Final) k))) (.exit 0) (zqP)=zwh L (fun z=>k (V.sc (.bool z)) []):=by kernel_rfl
def zpW{β:Type}(L:Nat)(z:Bool→Ob β)(A:Ob β):Nat→Ls→Int→Int→Ob β
 | 0,_,_,_=>none
 | n+1,C,D,E=>zzJ L C D E z (fun C D E=>zpW L z A n C D E) A
theorem zty{β:Type}(L:Nat)(K:KT β):∀ (n:Nat) (z:Ls) (A C:Int),zx (ze zcS (zc0 L) 0 L znk) zoB n (zho z A C) K=zpW L (fun D=>K .ret (zo2 D)) (K (.exit 0) (zqP)) n z A C:=by
 intro n; induction n <;> intros
 ·rfl
 ·exact (zLk ..).trans (by simp only [*]; rfl)
def zAh{β:Type}(L:Nat)(E:List V)(F:Int)(z:Bool→Ob β):Ob β:=zNK L E F z (fun A C D=>zpW L (fun G=>zto L G z) (zwh L z) L A C D)
theorem zTa{β:Type}(L:Nat)(z:List V)(A:Int)(k:KK β):yh zcS (zc0 L) L cf_ref09_Final [(V.agg z),(Qe A)] [] k=zAh L z A (fun z=>k (V.sc (.bool z)) []):=by
 refine (zTv L z A k).trans ?_
 unfold zAh
 first
  | (simp only [zty,zDy,zFw]; done)
  | (simp only [zty]; rfl)
abbrev zNg:=∀ (β:Type),Nat→List V→Int→(Bool→Ob β)→Ob β
def zjx:zNg:=fun β=>@zAh β
def zsi(zjx:zNg)(L:Nat):Dk:=dA AG fun z=>dA (AI .i64) fun A=>d0 fun β k=>zjx β L z A (fun z=>k (V.sc (.bool z)) [])
theorem zTO(L:Nat):DK (zsi zjx L) (fun _=>yh zcS (zc0 L) L cf_ref09_Final):=xv zak fun z=>xv zbN fun A=>yK fun _ k=>zTa L z A k
def zGy:Hint:=⟨[],[],[none],[],[],false,false,[]⟩
def zNb:CF:=cfD zGy 15
def zAz:Nat→Sh:=zj []
def zAy(L:Nat):CBC:=noC
def zEd{β:Type}(L:Nat)(A C:Ls)(z:Bool→Ob β):Ob β:=zX4 A fun D=>zX4 C fun E=>z (ByteArray.toList D==ByteArray.toList E)
theorem zV2{β:Type}(L:Nat)(z A:Ls)(k:KK β):yh zAz (zAy L) L zNb [(V.sl 1 z),(V.sl 1 A)] [] k=zEd L z A (fun z=>k (V.sc (.bool z)) []):=by kernel_rfl
abbrev zha:=∀ (β:Type),Nat→Ls→Ls→(Bool→Ob β)→Ob β
def zW:zha:=fun β=>@zEd β
def zo6(zW:zha)(L:Nat):Dk:=dA (AL 1) fun z=>dA (AL 1) fun A=>d0 fun β k=>zW β L z A (fun z=>k (V.sc (.bool z)) [])
theorem zUE(L:Nat):DK (zo6 zW L) (fun _=>yh zAz (zAy L) L zNb):=xv zaZ fun z=>xv zaZ fun A=>yK fun _ k=>zV2 L z A k
def zGO:Hint:=⟨[],[],[none],[],[],false,false,[]⟩
def zz0:CF:=cfD zGO 30
def zAY:Nat→Sh:=zj []
def zAI(xh:xS)(yJ:zcP)(L:Nat):CBC:=(xe 454 (ziJ yJ L) (xe 455 (zdY xh L) noC))
def zEL{β:Type}(xh:xS)(yJ:zcP)(L:Nat)(A:List V)(z:List V→Ob β):Ob β:=chk (0+68≤(XK A)) (xh β L (XL 68 A) (fun E=>yJ β L E (fun C=>chk ((XK C)=32∧0+32≤32) (lt (zk (We 32 (Qa (0:Int))) 0 C) fun D=>chk (0=0∧(XK D)=32∧32≠0) (z D)))))
theorem zWa{β:Type}(xh:xS)(yJ:zcP)(L:Nat)(z:List V)(k:KK β):yh zAY (zAI xh yJ L) L zz0 [(V.agg z)] [] k=zEL xh yJ L z (fun z=>k (V.agg z) []):=by kernel_rfl
abbrev zo9:=∀ (β:Type),Nat→List V→(List V→Ob β)→Ob β
def za4:zo9:=fun β=>@zEL β xh yJ
def zEW(za4:zo9)(L:Nat):Dk:=dA AG fun z=>d0 fun β k=>za4 β L z (fun z=>k (V.agg z) [])
theorem zWd(L:Nat):DK (zEW za4 L) (fun _=>yh zAY (zAI xh yJ L) L zz0):=xv zak fun z=>yK fun _ k=>zWa xh yJ L z k
end
end
section
theorem zGR(n:Int):0≤QG .u64 n:=by
 unfold QG
 simp only [IntKind.signed,Bool.false_and,WP,if_false]
 exact Int.emod_nonneg _ (by decide)
def zgq(p n:Int):Int:=
 ior .u32 (zgr .u32 p (zgx .u64 (QG .u64 (QG .i64 (0-n))) 31)) (zcN .u32 p (QG .u64 (32-(zgx .u64 (QG .u64 (QG .i64 (0-n))) 31))))
theorem z3V{β:Type}(L:Nat)(p n:Int)(k:Int→Option β):xx β L p n k=k (ior .u32 (zgr .u32 p (zgx .u64 (QG .u64 n) 31)) (zcN .u32 p (QG .u64 (32-(zgx .u64 (QG .u64 n) 31))))):=by
 unfold xx ziP
 simp only [yt]
 rw [yf (show 0≤zgx .u64 (QG .u64 n) 31 from zGR _),yf (zGR _)]
theorem z3T{β:Type}(L:Nat)(p n:Int)(k:Int→Option β):xf β L p n k=k (zgq p n):=by
 unfold xf zMC
 simp only [yt]
 rw [z3V]; exact Eq.trans rfl rfl
theorem z8n{β:Type}(L:Nat)(p n:Int)(k:Int→Option β):zh β L p n k=k (zgq p n):=by
 unfold zh zDs
 simp only [yt]
 rw [z3V]; exact Eq.trans rfl rfl
theorem zao{β:Type}{k:IntKind}{l:List Int}{j:Nat}(h:j<l.length)(κ:Int→Option β):cI k (row k l) j κ=κ (l.getD j 0):=
 zhl (by simp [row,h]) κ
theorem zkd{k:IntKind}{w:List Int}{j:Nat}(h:j<w.length)(x:Int):zk (row k w) j [V.sc (.int k x)]=row k (w.set j x):=by
 rw [z68 (by rw [xr]; exact h)]
 simp [row]
theorem z42{t c:Nat}(h:c≤t)(h2:t≤1000000):QG .i64 ((t:Int)-(c:Int))=((t-c:Nat):Int):=by
 rw [zas (by omega) (by omega)]; omega
def s2(w:List Int)(t:Nat):Int:=
 QG .u32 (QG .u32 (QG .u32 (w.getD (t-16) 0+zdL .u32 (zdL .u32 (zgq (w.getD (t-15) 0) 7) (zgq (w.getD (t-15) 0) 18)) (zcN .u32 (w.getD (t-15) 0) 3))+w.getD (t-7) 0)+zdL .u32 (zdL .u32 (zgq (w.getD (t-2) 0) 17) (zgq (w.getD (t-2) 0) 19)) (zcN .u32 (w.getD (t-2) 0) 10))
def zOL:Nat→Nat→List Int→List Int
 | 0,_,w=>w
 | m+1,t,w=>zOL m (t+1) (w.set t (s2 w t))
theorem z2R:∀ (m t:Nat) (w:List Int),(zOL m t w).length=w.length
 | 0,_,_=>rfl
 | m+1,t,w=>by rw [zOL,z2R m]; simp
theorem zZr{β:Type}(L:Nat){t:Nat}(h1:16≤t)(h2:t<64)(b2:List V){w:List Int}(hw:w.length=64)(kh:Int→List V→List V→Option β)(kx:List V→List V→Option β):zd1 xf L (t:Int) b2 (row .u32 w) kh kx=kh ((t+1:Nat):Int) b2 (row .u32 (w.set t (s2 w t))):=by
 unfold zd1
 have e15:QG .i64 ((t:Int)-(15:Int))=((t-15:Nat):Int):=z42 (c:=15) (by omega) (by omega)
 have e2:QG .i64 ((t:Int)-(2:Int))=((t-2:Nat):Int):=z42 (c:=2) (by omega) (by omega)
 have e16:QG .i64 ((t:Int)-(16:Int))=((t-16:Nat):Int):=z42 (c:=16) (by omega) (by omega)
 have e7:QG .i64 ((t:Int)-(7:Int))=((t-7:Nat):Int):=z42 (c:=7) (by omega) (by omega)
 have c15:0≤((t-15:Nat):Int)∧((t-15:Nat):Int)<((64:Nat):Int):=by omega
 have c2:0≤((t-2:Nat):Int)∧((t-2:Nat):Int)<((64:Nat):Int):=by omega
 have c16:0≤((t-16:Nat):Int)∧((t-16:Nat):Int)<((64:Nat):Int):=by omega
 have c7:0≤((t-7:Nat):Int)∧((t-7:Nat):Int)<((64:Nat):Int):=by omega
 have c0:0≤(t:Int)∧(t:Int)<((64:Nat):Int):=by omega
 have cl:True∧t+1≤64:=⟨trivial,by omega⟩
 rw [zI (by omega:(t:Int)<64)]
 simp only [yt,e15,e2,e16,e7,yf c15,yf c2,yf c16,yf c7,yf c0,XQ,XT,WB,z3T,zao (show t-15<w.length by omega),zao (show t-2<w.length by omega),zao (show t-16<w.length by omega),zao (show t-7<w.length by omega),xr,hw,zkd (show t<w.length by omega),zek (show t≤1000000000 by omega)]
 rw [yf cl]
 exact Eq.trans rfl rfl
theorem z48{β:Type}(L:Nat){t:Nat}(h1:16≤t)(h2:t<64)(b2:List V){w:List Int}(hw:w.length=64)(kh:Int→List V→List V→Option β)(kx:List V→List V→Option β):zev zh L (t:Int) b2 (row .u32 w) kh kx=kh ((t+1:Nat):Int) b2 (row .u32 (w.set t (s2 w t))):=
 (show zev zh L (t:Int) b2 (row .u32 w) kh kx=zd1 xf L (t:Int) b2 (row .u32 w) kh kx from rfl).trans (zZr L h1 h2 b2 hw kh kx)
theorem zZh{β:Type}(L:Nat)(b2:List V)(kx:List V→List V→Option β):∀ (n m t:Nat) (w:List Int),w.length=64→16≤t→t+m=64→m<n→zd6 xf L kx n (t:Int) b2 (row .u32 w)=kx b2 (row .u32 (zOL m t w))
 | 0,m,t,w,_,_,_,h=>by omega
 | n+1,0,t,w,hw,h1,h2,h=>by
  unfold zd6 zd1
  rw [zG (by omega)]; exact Eq.trans rfl rfl
 | n+1,m+1,t,w,hw,h1,h2,h=>by
  unfold zd6
  rw [zZr L h1 (by omega) b2 hw]
  exact zZh L b2 kx n m (t+1) _ (by simpa using hw) (by omega) (by omega) (by omega)
theorem zWR{β:Type}(L:Nat)(b2:List V)(kx:List V→List V→Option β):∀ (n m t:Nat) (w:List Int),w.length=64→16≤t→t+m=64→m<n→zc2 zh L kx n (t:Int) b2 (row .u32 w)=kx b2 (row .u32 (zOL m t w))
 | 0,m,t,w,_,_,_,h=>by omega
 | n+1,0,t,w,hw,h1,h2,h=>by
  unfold zc2 zev
  rw [zG (by omega)]; exact Eq.trans rfl rfl
 | n+1,m+1,t,w,hw,h1,h2,h=>by
  unfold zc2
  rw [z48 L h1 (by omega) b2 hw]
  exact zWR L b2 kx n m (t+1) _ (by simpa using hw) (by omega) (by omega) (by omega)
theorem zSC{n:Int}(h1:0≤n)(h2:n<4294967296):QG .u32 n=n:=zkq h1 (by omega)
theorem zQU{a b:Int}{n:Nat}(ha:0≤a)(hb:0≤b)(hb2:b<2 ^ n)(hs:a*2 ^ n+b<4294967296):ior .u32 (a*2 ^ n) b=a*2 ^ n+b:=by
 obtain ⟨x,rfl⟩:=XY ha
 obtain ⟨y,rfl⟩:=XY hb
 have hy:y<2 ^ n:=by exact_mod_cast hb2
 have e:((x:Int)*2 ^ n)=((x*2 ^ n:Nat):Int):=by rw [Int.natCast_mul,Int.natCast_pow]; rfl
 rw [e] at hs ⊢
 have hxy:x*2 ^ n+y<4294967296:=by omega
 unfold ior
 have q1:(BitVec.ofInt (XH .u32) ((x*2 ^ n:Nat):Int)).toNat=x*2 ^ n:=by
  rw [BitVec.toNat_ofInt]
  show (((x*2 ^ n:Nat):Int) % ((2 ^ 32:Nat):Int)).toNat=_
  rw [← Int.natCast_emod,XQ,Nat.mod_eq_of_lt (by omega)]
 have q2:(BitVec.ofInt (XH .u32) (y:Int)).toNat=y:=by
  rw [BitVec.toNat_ofInt]
  show ((y:Int) % ((2 ^ 32:Nat):Int)).toNat=_
  rw [← Int.natCast_emod,XQ,Nat.mod_eq_of_lt (by omega)]
 rw [BitVec.toNat_or,q1,q2,← Nat.shiftLeft_eq,← Nat.shiftLeft_add_eq_or_of_lt hy,Nat.shiftLeft_eq]
 rw [zSC (by omega) (by omega),Int.natCast_add]
theorem zMM{a:Int}(n:Nat)(hn:n≤32)(ha:0≤a)(hs:a*2 ^ n<4294967296):zgr .u32 a (n:Int)=a*2 ^ n:=by
 unfold zgr
 have:min (XM (n:Int)) (XH .u32)=n:=by
  rw [XQ]; exact Nat.min_eq_left hn
 rw [this]
 have h0:0≤a*2 ^ n:=Int.mul_nonneg ha (Int.le_of_lt (Int.pow_pos (by decide)))
 exact zSC h0 hs
theorem zj1{l:List Int}(h:∀ x∈l,0≤x∧x≤255)(i:Nat):0≤l.getD i 0∧l.getD i 0≤255:=by
 rw [Ws]
 by_cases hi:i<l.length
 ·rw [Wc hi]; exact h _ (List.getElem_mem hi)
 ·rw [List.getElem?_eq_none (by omega)]; simp
theorem ziB{w:List Int}{t:Nat}(h:t<w.length)(x:Int):(w.set t x).getD t 0=x:=by
 simp [Ws,h]
theorem getD_set_ne{w:List Int}{t i:Nat}(h:t≠i)(x:Int):(w.set t x).getD i 0=w.getD i 0:=by
 simp [Ws,List.getElem?_set_ne h]
def zMU(l:List Int)(t:Nat):Int:=
 ((l.getD (4*t) 0*256+l.getD (4*t+1) 0)*256+l.getD (4*t+2) 0)*256+l.getD (4*t+3) 0
theorem z9E{x y:Int}(h0:0≤x)(h1:x<16777216)(b0:0≤y)(b1:y≤255):ior .u32 (zgr .u32 x (8:Int)) y=x*256+y:=by
 have e1:zgr .u32 x (8:Int)=x*2 ^ 8:=zMM 8 (by decide) h0 (by omega)
 rw [e1,zQU (n:=8) h0 b0 (by omega) (by omega)]; exact Eq.trans rfl rfl
theorem yca{a b c d:Int}(ha:0≤a∧a≤255)(hb:0≤b∧b≤255)(hc:0≤c∧c≤255)(hd:0≤d∧d≤255):ior .u32 (ior .u32 (ior .u32 (zgr .u32 a (24:Int)) (zgr .u32 b (16:Int))) (zgr .u32 c (8:Int))) d=((a*256+b)*256+c)*256+d:=by
 have e1:zgr .u32 a (24:Int)=a*2 ^ 24:=zMM 24 (by decide) ha.1 (by omega)
 have e2:zgr .u32 b (16:Int)=b*2 ^ 16:=zMM 16 (by decide) hb.1 (by omega)
 have e3:zgr .u32 c (8:Int)=c*2 ^ 8:=zMM 8 (by decide) hc.1 (by omega)
 rw [e1,e2,e3,zQU (n:=24) ha.1 (by omega) (by omega) (by omega)]
 rw [show a*2 ^ 24+b*2 ^ 16=(a*256+b)*2 ^ 16 by omega,zQU (n:=16) (by omega) (by omega) (by omega) (by omega)]
 rw [show (a*256+b)*2 ^ 16+c*2 ^ 8=((a*256+b)*256+c)*2 ^ 8 by omega,zQU (n:=8) (by omega) (by omega) (by omega) (by omega)]
 omega
theorem z5R{t:Nat}(h:t≤1000000):QG .i64 ((4:Int)*(t:Int))=((4*t:Nat):Int):=by
 rw [zas (by omega) (by omega)]; omega
theorem zSW{a b:Nat}(h:a≤1000000000)(h2:b≤1000000000):QG .i64 ((a:Int)+(b:Int))=((a+b:Nat):Int):=by
 rw [zas (by omega) (by omega)]; omega
theorem z9K{β:Type}(L:Nat){t j:Nat}(ht:t<16)(hj:j<4)(b2:List V){l w:List Int}(hl:l.length=64)(hb:∀ x∈l,0≤x∧x≤255)(hw:w.length=64){x:Int}(hx:w.getD t 0=x)(h0:0≤x)(h1:x<16777216)(kh:Int→Int→Int→List V→List V→List V→Option β)(kx:Int→List V→List V→List V→Option β):zbe xf L (t:Int) (t:Int) (j:Int) (row .u8 l) b2 (row .u32 w) kh kx=kh (t:Int) (t:Int) ((j+1:Nat):Int) (row .u8 l) b2 (row .u32 (w.set t (x*256+l.getD (4*t+j) 0))):=by
 unfold zbe
 have bb:=zj1 hb (4*t+j)
 have e4:QG .i64 ((4:Int)*(t:Int))=((4*t:Nat):Int):=z5R (by omega)
 have e5:QG .i64 (((4*t:Nat):Int)+(j:Int))=((4*t+j:Nat):Int):=zSW (by omega) (by omega)
 have e6:QG .u32 (l.getD (4*t+j) 0)=l.getD (4*t+j) 0:=zkq bb.1 (by omega)
 have e7:ior .u32 (zgr .u32 x (8:Int)) (l.getD (4*t+j) 0)=x*256+l.getD (4*t+j) 0:=z9E h0 h1 bb.1 bb.2
 have c0:0≤(t:Int)∧(t:Int)<((64:Nat):Int):=by omega
 have c5:0≤((4*t+j:Nat):Int)∧((4*t+j:Nat):Int)<((64:Nat):Int):=by omega
 have cl:True∧t+1≤64:=⟨trivial,by omega⟩
 rw [zI (by omega:(j:Int)<4)]
 simp only [yt,e4,e5,yf c0,yf c5,XQ,XT,WB,zao (show t<w.length by omega),zao (show 4*t+j<l.length by omega),hx,e6,e7,xr,hw,zkd (show t<w.length by omega),zek (show j≤1000000000 by omega)]
 rw [yf cl]
theorem zMS{β:Type}(L n:Nat){t j:Nat}(ht:t<16)(hj:j<4)(b2:List V){l w:List Int}(hl:l.length=64)(hb:∀ x∈l,0≤x∧x≤255)(hw:w.length=64){x:Int}(hx:w.getD t 0=x)(h0:0≤x)(h1:x<16777216)(kx:Int→List V→List V→List V→Option β):zaz xf L kx (n+1) (t:Int) (t:Int) (j:Int) (row .u8 l) b2 (row .u32 w)=zaz xf L kx n (t:Int) (t:Int) ((j+1:Nat):Int) (row .u8 l) b2 (row .u32 (w.set t (x*256+l.getD (4*t+j) 0))):=
 (show zaz xf L kx (n+1) (t:Int) (t:Int) (j:Int) (row .u8 l) b2 (row .u32 w)=zbe xf L (t:Int) (t:Int) (j:Int) (row .u8 l) b2 (row .u32 w) (fun p4 p9 p12 b1 b2 b3=>zaz xf L kx n p4 p9 p12 b1 b2 b3) kx from rfl).trans (z9K L ht hj b2 hl hb hw hx h0 h1 _ _)
theorem yak{β:Type}(L n:Nat){t:Nat}(ht:t<16)(b2:List V){l w:List Int}(hl:l.length=64)(hb:∀ x∈l,0≤x∧x≤255)(hw:w.length=64)(hx:w.getD t 0=0)(kx:Int→List V→List V→List V→Option β):zaz xf L kx (n+5) (t:Int) (t:Int) ((0:Nat):Int) (row .u8 l) b2 (row .u32 w)=kx (t:Int) (row .u8 l) b2 (row .u32 (w.set t (zMU l t))):=by
 have htw:t<w.length:=by omega
 have a0:=zj1 hb (4*t+0)
 have a1:=zj1 hb (4*t+1)
 have a2:=zj1 hb (4*t+2)
 have a3:=zj1 hb (4*t+3)
 refine (zMS L (n+4) ht (j:=0) (by decide) b2 hl hb hw hx (by decide) (by decide) kx).trans ?_
 refine (zMS L (n+3) ht (j:=1) (by decide) b2 hl hb (by simpa using hw) (ziB htw _) (by omega) (by omega) kx).trans ?_
 rw [XZ]
 refine (zMS L (n+2) ht (j:=2) (by decide) b2 hl hb (by simpa using hw) (ziB htw _) (by omega) (by omega) kx).trans ?_
 rw [XZ]
 refine (zMS L (n+1) ht (j:=3) (by decide) b2 hl hb (by simpa using hw) (ziB htw _) (by omega) (by omega) kx).trans ?_
 rw [XZ]
 have e:(((0*256+l.getD (4*t+0) 0)*256+l.getD (4*t+1) 0)*256+l.getD (4*t+2) 0)*256+l.getD (4*t+3) 0=zMU l t:=by
  unfold zMU; rw [Nat.add_zero,Int.zero_mul,Int.zero_add]
 rw [e]
 refine (show _=zbe xf L (t:Int) (t:Int) ((3+1:Nat):Int) (row .u8 l) b2 (row .u32 (w.set t (zMU l t))) (fun p4 p9 p12 b1 b2 b3=>zaz xf L kx n p4 p9 p12 b1 b2 b3) kx from rfl).trans ?_
 unfold zbe
 rw [zG (by omega)]
def zQA:Nat→Nat→List Int→List Int→List Int
 | 0,_,_,w=>w
 | m+1,t,l,w=>zQA m (t+1) l (w.set t (zMU l t))
theorem zMT:∀ (m t:Nat) (l w:List Int),(zQA m t l w).length=w.length
 | 0,_,_,_=>rfl
 | m+1,t,l,w=>by rw [zQA,zMT m]; simp
theorem z8a{β:Type}{L:Nat}(hL:5≤L){t:Nat}(ht:t<16)(b2:List V){l w:List Int}(hl:l.length=64)(hb:∀ x∈l,0≤x∧x≤255)(hw:w.length=64)(hx:w.getD t 0=0)(k0:List V→List V→Option β)(kh:Int→List V→List V→List V→Option β):zdX xf L (t:Int) (row .u8 l) b2 (row .u32 w) k0 kh=kh ((t+1:Nat):Int) (row .u8 l) b2 (row .u32 (w.set t (zMU l t))):=by
 obtain ⟨n,rfl⟩:=XU hL
 unfold zdX zi3
 rw [zI (by omega:(t:Int)<16)]
 rw [Nat.add_comm 5 n]
 refine (yak (n+5) n ht b2 hl hb hw hx _).trans ?_
 unfold zfX
 rw [yt,zek (by omega)]
theorem z2m{β:Type}{L:Nat}(hL:5≤L)(b2:List V){l:List Int}(hl:l.length=64)(hb:∀ x∈l,0≤x∧x≤255)(k0:List V→List V→Option β):∀ (n m t:Nat) (w:List Int),w.length=64→(∀ i,t≤i→w.getD i 0=0)→t+m=16→m<n→zep xf L k0 n (t:Int) (row .u8 l) b2 (row .u32 w)=k0 b2 (row .u32 (zQA m t l w))
 | 0,m,t,w,_,_,_,h=>by omega
 | n+1,0,t,w,hw,hz,h1,h=>by
  unfold zep zdX zi3
  rw [zG (by omega)]; exact Eq.trans rfl rfl
 | n+1,m+1,t,w,hw,hz,h1,h=>by
  unfold zep
  rw [z8a hL (by omega) b2 hl hb hw (hz t (Nat.le_refl t))]
  exact z2m hL b2 hl hb k0 n m (t+1) _ (by simpa using hw) (fun i hi=>by rw [getD_set_ne (by omega)]; exact hz i (by omega)) (by omega) (by omega)
theorem z6k{β:Type}(L:Nat){t:Nat}(ht:t<16)(b2:List V){l w:List Int}(hl:l.length=64)(hb:∀ x∈l,0≤x∧x≤255)(hw:w.length=64)(kh:Int→List V→List V→List V→Option β)(k0:List V→List V→Option β):zeT zh L (t:Int) (row .u8 l) b2 (row .u32 w) kh k0=kh ((t+1:Nat):Int) (row .u8 l) b2 (row .u32 (w.set t (zMU l t))):=by
 unfold zeT
 have a0:=zj1 hb (4*t)
 have a1:=zj1 hb (4*t+1)
 have a2:=zj1 hb (4*t+2)
 have a3:=zj1 hb (4*t+3)
 have e4:QG .i64 ((4:Int)*(t:Int))=((4*t:Nat):Int):=z5R (by omega)
 have e1:QG .i64 (((4*t:Nat):Int)+(1:Int))=((4*t+1:Nat):Int):=zSW (b:=1) (by omega) (by omega)
 have e2:QG .i64 (((4*t:Nat):Int)+(2:Int))=((4*t+2:Nat):Int):=zSW (b:=2) (by omega) (by omega)
 have e3:QG .i64 (((4*t:Nat):Int)+(3:Int))=((4*t+3:Nat):Int):=zSW (b:=3) (by omega) (by omega)
 have c0:0≤(t:Int)∧(t:Int)<((64:Nat):Int):=by omega
 have c4:0≤((4*t:Nat):Int)∧((4*t:Nat):Int)<((64:Nat):Int):=by omega
 have c1:0≤((4*t+1:Nat):Int)∧((4*t+1:Nat):Int)<((64:Nat):Int):=by omega
 have c2:0≤((4*t+2:Nat):Int)∧((4*t+2:Nat):Int)<((64:Nat):Int):=by omega
 have c3:0≤((4*t+3:Nat):Int)∧((4*t+3:Nat):Int)<((64:Nat):Int):=by omega
 have cl:True∧t+1≤64:=⟨trivial,by omega⟩
 rw [zI (by omega:(t:Int)<16)]
 simp only [yt,e4,e1,e2,e3,yf c0,yf c4,yf c1,yf c2,yf c3,XQ,XT,WB,zao (show 4*t<l.length by omega),zao (show 4*t+1<l.length by omega),zao (show 4*t+2<l.length by omega),zao (show 4*t+3<l.length by omega),zkq a0.1 (show l.getD (4*t) 0≤4294967295 by omega),zkq a1.1 (show l.getD (4*t+1) 0≤4294967295 by omega),zkq a2.1 (show l.getD (4*t+2) 0≤4294967295 by omega),zkq a3.1 (show l.getD (4*t+3) 0≤4294967295 by omega),yca a0 a1 a2 a3,xr,hw,zkd (show t<w.length by omega),zek (show t≤1000000000 by omega)]
 rw [yf cl]
 exact Eq.trans rfl rfl
theorem zZz{β:Type}(L:Nat)(b2:List V){l:List Int}(hl:l.length=64)(hb:∀ x∈l,0≤x∧x≤255)(k0:List V→List V→Option β):∀ (n m t:Nat) (w:List Int),w.length=64→t+m=16→m<n→zdq zh L k0 n (t:Int) (row .u8 l) b2 (row .u32 w)=k0 b2 (row .u32 (zQA m t l w))
 | 0,m,t,w,_,_,h=>by omega
 | n+1,0,t,w,hw,h1,h=>by
  unfold zdq zeT
  rw [zG (by omega)]; exact Eq.trans rfl rfl
 | n+1,m+1,t,w,hw,h1,h=>by
  unfold zdq
  rw [z6k L (by omega) b2 hl hb hw]
  exact zZz L b2 hl hb k0 n m (t+1) _ (by simpa using hw) (by omega) (by omega)
def zsm(l:List Int):List Int:=zOL 48 16 (zQA 16 0 l (We 64 0))
theorem zlQ(l:List Int):(zsm l).length=64:=by
 unfold zsm; rw [z2R,zMT]; rfl
theorem zx3(n:Nat)(k:IntKind)(x:Int):We n (V.sc (.int k x))=row k (We n x):=by simp [row]
theorem z77(n i:Nat):(We n (0:Int)).getD i 0=0:=by
 rw [Ws]
 by_cases hi:i<n
 ·simp [hi]
 ·simp [hi]
theorem zYO{β:Type}{w:List Int}(hw:w.length=64)(z:List Int)(hz:z.length=64)(k:List V→Option β) :
  chk (0+64≤(XK (row .u32 w))) (chk ((XK (XL 64 (row .u32 w)))=64∧0+64≤(XK (row .u32 z))) (
   lt (zk (row .u32 z) 0 (XL 64 (row .u32 w))) fun r41=>chk (0=0∧(XK r41)=64∧64≠0) (k r41)))=k (row .u32 w):=by
 have e:XL 64 (row .u32 w)=row .u32 w:=XE (by rw [xr]; omega)
 rw [yt,e,zc3 (by rw [xr,xr]; omega)]
 rw [yf (by rw [xr]; omega),yf ⟨by rw [xr]; omega,by rw [xr]; omega⟩,yf ⟨rfl,by rw [xr]; omega,by decide⟩]
theorem z3H{β:Type}{L:Nat}(hL:100≤L){l:List Int}(hl:l.length=64)(hb:∀ x∈l,0≤x∧x≤255)(k:List V→Option β):zC β L (row .u8 l) k=k (row .u32 (zsm l)):=by
 unfold zC zqf zyg
 rw [zx3]
 refine (z2m (by omega) _ hl hb _ L 16 0 _ rfl (fun i _=>?_) rfl (by omega)).trans ?_
 ·exact z77 64 i
 unfold zgN zkV
 refine (zZh L _ _ L 48 16 _ (by rw [zMT]; rfl) (by omega) rfl (by omega)).trans ?_
 unfold zkf
 exact zYO (zlQ l) _ rfl k
theorem z2I{β:Type}{L:Nat}(hL:100≤L){l:List Int}(hl:l.length=64)(hb:∀ x∈l,0≤x∧x≤255)(k:List V→Option β):xw β L (row .u8 l) k=k (row .u32 (zsm l)):=by
 unfold xw zmC zsH
 rw [zx3]
 refine (zZz L _ hl hb _ L 16 0 _ rfl rfl (by omega)).trans ?_
 unfold zfk zjs
 refine (zWR L _ _ L 48 16 _ (by rw [zMT]; rfl) (by omega) rfl (by omega)).trans ?_
 unfold ziR
 exact zYO (zlQ l) _ rfl k
end
section
def kc:List Int:=gk_sha_k.map fun v=>match v with | .sc (.int _ n)=>n | _=>0
theorem z6I:gk_sha_k=row .u32 kc:=rfl
theorem z6c:kc.length=64:=rfl
def t1(e f g h kk ww:Int):Int:=
 QG .u32 (QG .u32 (QG .u32 (QG .u32 (h+zdL .u32 (zdL .u32 (zgq e 6) (zgq e 11)) (zgq e 25))+zdL .u32 (zgx .u32 e f) (zgx .u32 (z1F .u32 e) g))+kk)+ww)
def t2(a b c:Int):Int:=
 QG .u32 (zdL .u32 (zdL .u32 (zgq a 2) (zgq a 13)) (zgq a 22)+zdL .u32 (zdL .u32 (zgx .u32 a b) (zgx .u32 a c)) (zgx .u32 b c))
def zCj{γ:Type}(w:List Int)(κ:Int→Int→Int→Int→Int→Int→Int→Int→γ):Nat→Nat→Int→Int→Int→Int→Int→Int→Int→Int→γ
 | 0,_,a,b,c,d,e,f,g,h=>κ a b c d e f g h
 | m+1,t,a,b,c,d,e,f,g,h=>zCj w κ m (t+1) (QG .u32 (t1 e f g h (kc.getD t 0) (w.getD t 0)+t2 a b c)) a b c (QG .u32 (d+t1 e f g h (kc.getD t 0) (w.getD t 0))) e f g
theorem zGH{γ δ:Type}(u:γ→δ)(w:List Int)(κ:Int→Int→Int→Int→Int→Int→Int→Int→γ):∀ (m t:Nat) (a b c d e f g h:Int),zCj w (fun a b c d e f g h=>u (κ a b c d e f g h)) m t a b c d e f g h=u (zCj w κ m t a b c d e f g h)
 | 0,_,_,_,_,_,_,_,_,_=>rfl
 | m+1,t,a,b,c,d,e,f,g,h=>zGH u w κ m (t+1) _ _ _ _ _ _ _ _
theorem zSg{γ:Type}(u:γ)(w:List Int):∀ (m t:Nat) (a b c d e f g h:Int),zCj w (fun _ _ _ _ _ _ _ _=>u) m t a b c d e f g h=u
 | 0,_,_,_,_,_,_,_,_,_=>rfl
 | m+1,t,a,b,c,d,e,f,g,h=>zSg u w m (t+1) _ _ _ _ _ _ _ _
theorem z6R{β:Type}(L:Nat){t:Nat}(ht:t<64)(a b c d e f g h:Int)(b2:List V)(z0 z1 z2 z3 z4 z5 z6 z7:Int){w:List Int}(hw:w.length=64)(kh:zkt β)(kx:zmj β):zeX zC xf L a b c d e f g h (t:Int) b2 z0 z1 z2 z3 z4 z5 z6 z7 (row .u32 w) kh kx=kh (QG .u32 (t1 e f g h (kc.getD t 0) (w.getD t 0)+t2 a b c)) a b c (QG .u32 (d+t1 e f g h (kc.getD t 0) (w.getD t 0))) e f g ((t+1:Nat):Int) b2 z0 z1 z2 z3 z4 z5 z6 z7 (row .u32 w):=by
 unfold zeX
 have c0:0≤(t:Int)∧(t:Int)<((64:Nat):Int):=by omega
 have ek:∀ κ:Int→Option β,cI .u32 (XO t gk_sha_k) 0 κ=κ (kc.getD t 0):=by
  intro κ
  rw [z6I,z8Y,zao (by rw [XS,z6c]; omega)]
  simp [Ws]
 rw [zI (by omega:(t:Int)<64)]
 simp only [yt,yf c0,z3T,XQ,XT,WB,ek,zao (show t<w.length by omega),zek (show t≤1000000000 by omega)]
 exact Eq.trans rfl rfl
theorem z43{β:Type}(L:Nat){t:Nat}(ht:t<64)(a b c d e f g h:Int)(b2:List V)(z0 z1 z2 z3 z4 z5 z6 z7:Int){w:List Int}(hw:w.length=64)(kh:zjv β)(kx:zjQ β):zet xw xu zh L a b c d e f g h (t:Int) b2 z0 z1 z2 z3 z4 z5 z6 z7 (row .u32 w) gk_sha_k kh kx=kh (QG .u32 (t1 e f g h (kc.getD t 0) (w.getD t 0)+t2 a b c)) a b c (QG .u32 (d+t1 e f g h (kc.getD t 0) (w.getD t 0))) e f g ((t+1:Nat):Int) b2 z0 z1 z2 z3 z4 z5 z6 z7 (row .u32 w) gk_sha_k:=by
 unfold zet
 have c0:0≤(t:Int)∧(t:Int)<((64:Nat):Int):=by omega
 have ek:∀ κ:Int→Option β,cI .u32 gk_sha_k t κ=κ (kc.getD t 0):=by
  intro κ
  rw [z6I,zao (by rw [z6c]; omega)]
 rw [zI (by omega:(t:Int)<64)]
 simp only [yt,yf c0,z8n,XQ,XT,WB,ek,zao (show t<w.length by omega),zek (show t≤1000000000 by omega)]
 exact Eq.trans rfl rfl
theorem zZt{β:Type}(L:Nat)(b2:List V)(z0 z1 z2 z3 z4 z5 z6 z7:Int){w:List Int}(hw:w.length=64)(kx:zmj β):∀ (n m t:Nat) (a b c d e f g h:Int),t+m=64→m<n→zdt zC xf L kx n a b c d e f g h (t:Int) b2 z0 z1 z2 z3 z4 z5 z6 z7 (row .u32 w)=zCj w (fun a b c d e f g h=>kx a b c d e f g h b2 z0 z1 z2 z3 z4 z5 z6 z7) m t a b c d e f g h
 | 0,m,t,_,_,_,_,_,_,_,_,_,h=>by omega
 | n+1,0,t,a,b,c,d,e,f,g,h,h1,h2=>by
  unfold zdt zeX
  rw [zG (by omega)]; exact Eq.trans rfl rfl
 | n+1,m+1,t,a,b,c,d,e,f,g,h,h1,h2=>by
  unfold zdt
  rw [z6R L (by omega) a b c d e f g h b2 z0 z1 z2 z3 z4 z5 z6 z7 hw]
  exact zZt L b2 z0 z1 z2 z3 z4 z5 z6 z7 hw kx n m (t+1) _ _ _ _ _ _ _ _ (by omega) (by omega)
theorem zVh{β:Type}(L:Nat)(b2:List V)(z0 z1 z2 z3 z4 z5 z6 z7:Int){w:List Int}(hw:w.length=64)(kx:zjQ β):∀ (n m t:Nat) (a b c d e f g h:Int),t+m=64→m<n→zcO xw xu zh L kx n a b c d e f g h (t:Int) b2 z0 z1 z2 z3 z4 z5 z6 z7 (row .u32 w) gk_sha_k=zCj w (fun a b c d e f g h=>kx a b c d e f g h b2 z0 z1 z2 z3 z4 z5 z6 z7) m t a b c d e f g h
 | 0,m,t,_,_,_,_,_,_,_,_,_,h=>by omega
 | n+1,0,t,a,b,c,d,e,f,g,h,h1,h2=>by
  unfold zcO zet
  rw [zG (by omega)]; exact Eq.trans rfl rfl
 | n+1,m+1,t,a,b,c,d,e,f,g,h,h1,h2=>by
  unfold zcO
  rw [z43 L (by omega) a b c d e f g h b2 z0 z1 z2 z3 z4 z5 z6 z7 hw]
  exact zVh L b2 z0 z1 z2 z3 z4 z5 z6 z7 hw kx n m (t+1) _ _ _ _ _ _ _ _ (by omega) (by omega)
def zCc(hs:List Int)(a b c d e f g h:Int):List Int:=
 [QG .u32 (hs.getD 0 0+a),QG .u32 (hs.getD 1 0+b),QG .u32 (hs.getD 2 0+c),QG .u32 (hs.getD 3 0+d),QG .u32 (hs.getD 4 0+e),QG .u32 (hs.getD 5 0+f),QG .u32 (hs.getD 6 0+g),QG .u32 (hs.getD 7 0+h)]
def zLu(hs l:List Int):List Int:=
 zCj (zsm l) (zCc hs) 64 0 (hs.getD 0 0) (hs.getD 1 0) (hs.getD 2 0) (hs.getD 3 0) (hs.getD 4 0) (hs.getD 5 0) (hs.getD 6 0) (hs.getD 7 0)
theorem zs9(hs l:List Int):(zLu hs l).length=8:=
 ((zGH XK (zsm l) (zCc hs) 64 0 _ _ _ _ _ _ _ _).symm).trans (zSg 8 (zsm l) 64 0 _ _ _ _ _ _ _ _)
theorem z8I{β:Type}(L:Nat){hs:List Int}(hh:hs.length=8)(k:List V→Option β)(a b c d e f g h z0 z1 z2 z3 z4 z5 z6 z7:Int):zfY zC xf L a b c d e f g h (row .u32 hs) z0 z1 z2 z3 z4 z5 z6 z7 k=k (row .u32 (zCc hs a b c d e f g h)):=by
 unfold zfY
 simp only [yt,zao (show 0<hs.length by omega),zao (show 1<hs.length by omega),zao (show 2<hs.length by omega),zao (show 3<hs.length by omega),zao (show 4<hs.length by omega),zao (show 5<hs.length by omega),zao (show 6<hs.length by omega),zao (show 7<hs.length by omega)]
 exact (yf ⟨trivial,rfl,by decide⟩ _).trans rfl
theorem z6U{β:Type}(L:Nat){hs:List Int}(hh:hs.length=8)(k:List V→Option β)(a b c d e f g h z0 z1 z2 z3 z4 z5 z6 z7:Int):zfp xw xu zh L a b c d e f g h (row .u32 hs) z0 z1 z2 z3 z4 z5 z6 z7 k=k (row .u32 (zCc hs a b c d e f g h)):=by
 unfold zfp
 simp only [yt,zao (show 0<hs.length by omega),zao (show 1<hs.length by omega),zao (show 2<hs.length by omega),zao (show 3<hs.length by omega),zao (show 4<hs.length by omega),zao (show 5<hs.length by omega),zao (show 6<hs.length by omega),zao (show 7<hs.length by omega)]
 exact (yf ⟨trivial,rfl,by decide⟩ _).trans rfl
theorem z3i{β:Type}{L:Nat}(hL:100≤L){hs l:List Int}(hh:hs.length=8)(hl:l.length=64)(hb:∀ x∈l,0≤x∧x≤255)(k:List V→Option β):xn β L (row .u32 hs) (row .u8 l) k=k (row .u32 (zLu hs l)):=by
 unfold xn zqj zxD
 have e1:XL 64 (row .u8 l)=row .u8 l:=XE (by rw [xr]; omega)
 rw [yf (by rw [xr]; omega),e1]
 refine (z3H hL hl hb _).trans ?_
 rw [yf ⟨by rw [xr,zlQ],by decide⟩,yt,zc3 (by rw [xr,zlQ]; rfl)]
 rw [zao (show 0<hs.length by omega),zao (show 1<hs.length by omega),zao (show 2<hs.length by omega),zao (show 3<hs.length by omega),zao (show 4<hs.length by omega),zao (show 5<hs.length by omega),zao (show 6<hs.length by omega),zao (show 7<hs.length by omega)]
 refine (zZt L (row .u32 hs) 0 0 0 0 0 0 0 0 (zlQ l) _ L 64 0 _ _ _ _ _ _ _ _ rfl (by omega)).trans ?_
 simp only [z8I L hh]
 exact zGH (fun r=>k (row .u32 r)) (zsm l) (zCc hs) 64 0 _ _ _ _ _ _ _ _
theorem z2a{β:Type}(L:Nat)(k:List V→Option β):xu β L k=k gk_sha_k:=by
 unfold xu zq3
 rw [yt]
 exact (yf ⟨rfl,rfl,by decide⟩ _).trans rfl
theorem z1b{β:Type}{L:Nat}(hL:100≤L){hs l:List Int}(hh:hs.length=8)(hl:l.length=64)(hb:∀ x∈l,0≤x∧x≤255)(k:List V→Option β):zl β L (row .u32 hs) (row .u8 l) k=k (row .u32 (zLu hs l)):=by
 unfold zl zmP zs6
 have e1:XL 64 (row .u8 l)=row .u8 l:=XE (by rw [xr]; omega)
 rw [yf (by rw [xr]; omega),e1]
 refine (z2I hL hl hb _).trans ?_
 refine (z2a L _).trans ?_
 rw [yf ⟨by rw [xr,zlQ],by decide⟩,yt,zc3 (cs:=We 64 (Qc (0:Int))) (new:=row .u32 (zsm l)) (by rw [xr,zlQ]; rfl)]
 rw [yf ⟨rfl,by decide⟩,yt,zc3 (cs:=We 64 (Qc (0:Int))) (new:=gk_sha_k) rfl]
 rw [zao (show 0<hs.length by omega),zao (show 1<hs.length by omega),zao (show 2<hs.length by omega),zao (show 3<hs.length by omega),zao (show 4<hs.length by omega),zao (show 5<hs.length by omega),zao (show 6<hs.length by omega),zao (show 7<hs.length by omega)]
 refine (zVh L (row .u32 hs) 0 0 0 0 0 0 0 0 (zlQ l) _ L 64 0 _ _ _ _ _ _ _ _ rfl (by omega)).trans ?_
 simp only [z6U L hh]
 exact zGH (fun r=>k (row .u32 r)) (zsm l) (zCc hs) 64 0 _ _ _ _ _ _ _ _
end
section
def zs(n:Nat):Nat:=(64-(n+9) % 64) % 64
def pb(n i:Nat):Int:=QG .u8 (zcN .u64 (QG .u64 ((8:Int)*(n:Int))) ((56-8*i:Nat):Int))
def pbs(n:Nat):Nat→Nat→List Int
 | 0,_=>[]
 | m+1,i=>pb n i::pbs n m (i+1)
theorem z4e(n:Nat):∀ m i:Nat,(pbs n m i).length=m
 | 0,_=>rfl
 | m+1,i=>by rw [pbs,List.length_cons,z4e n m]
theorem zsv(n:Int):0≤QG .u8 n∧QG .u8 n≤255:=by
 unfold QG
 simp only [IntKind.signed,Bool.false_and,WP,if_false]
 have h1:=Int.emod_nonneg n (show (2:Int) ^ XH .u8≠0 by decide)
 have h2:=Int.emod_lt_of_pos n (show (0:Int)<2 ^ XH .u8 by decide)
 exact ⟨h1,Int.le_of_lt_add_one h2⟩
theorem z66(n:Nat):∀ m i:Nat,∀ x∈pbs n m i,0≤x∧x≤255
 | 0,_=>fun x h=>by simp [pbs] at h
 | m+1,i=>fun x h=>by
  rw [pbs,List.mem_cons] at h
  rcases h with rfl | h
  ·exact zsv _
  ·exact z66 n m (i+1) x h
def zgT(n:Nat):List Int:=(128::We (zs n) 0)++pbs n 8 0
theorem zDC(n:Nat):(zgT n).length=9+zs n:=by simp [zgT,z4e]; omega
theorem z9G(n:Nat):∀ x∈zgT n,0≤x∧x≤255:=by
 intro x hx
 rw [zgT,List.mem_append,List.mem_cons] at hx
 rcases hx with (rfl | hx) | hx
 ·exact ⟨by decide,by decide⟩
 ·rw [List.eq_of_mem_replicate hx]; exact ⟨by decide,by decide⟩
 ·exact z66 n 8 0 x hx
theorem zVm(n:Nat):zs n<64:=Nat.mod_lt _ (by decide)
theorem z6a(n:Nat):(n+9+zs n) % 64=0:=by unfold zs; omega
theorem ya1(n k:Nat)(h:k<zs n):(n+9+k) % 64≠0:=by unfold zs at h; omega
theorem zL5(x:Int):yl 1 1 [V.sc (.int .u8 x)]=yq .u8 [x]:=rfl
theorem z8W{β:Type}(L:Nat){n i:Nat}(hi:i<8)(b:Nat){acc:List Int}(ha:acc.length≤1000000)(kh:Int→Ls→Int→Nat→Option β)(kx:Ls→Nat→Option β):zgU L (n:Int) (yq .u8 acc) (i:Int) b kh kx=kh (n:Int) (yq .u8 (acc++[pb n i])) ((i+1:Nat):Int) b:=by
 unfold zgU
 have e8:QG .i64 ((8:Int)*(i:Int))=((8*i:Nat):Int):=by rw [zas (by omega) (by omega)]; omega
 have e56:QG .i64 ((56:Int)-((8*i:Nat):Int))=((56-8*i:Nat):Int):=by rw [zas (by omega) (by omega)]; omega
 rw [zI (by omega:(i:Int)<8)]
 simp only [yt,e8,e56,zL5,zbR,zek (show i≤1000000000 by omega)]
 rw [yf (by omega),yf (by simp [zF,xm]; omega)]
 exact Eq.trans rfl rfl
theorem z15{β:Type}(L n b:Nat)(kx:Ls→Nat→Option β):∀ (f m i:Nat) (acc:List Int),i+m=8→m<f→acc.length≤900000+i→zdH L kx f (n:Int) (yq .u8 acc) (i:Int) b=kx (yq .u8 (acc++pbs n m i)) b
 | 0,m,i,acc,_,h,_=>by omega
 | f+1,0,i,acc,h1,h2,h3=>by
  unfold zdH zgU
  rw [zG (by omega),pbs,List.append_nil]
 | f+1,m+1,i,acc,h1,h2,h3=>by
  unfold zdH
  rw [z8W L (by omega) b (by omega)]
  refine (z15 L n b kx f m (i+1) _ (by omega) (by omega) (by simp; omega)).trans ?_
  rw [pbs,Wu]; exact Eq.trans rfl rfl
theorem ybf{β:Type}{L:Nat}(hL:100≤L){n:Nat}(hn:n≤100000000)(k k1:Ls→Option β):xC β L (n:Int) k k1=k1 (yq .u8 (zgT n)):=by
 unfold xC zG8 zO8
 have z64:=zVm n
 have e0:QG .u64 ((n:Int)+(9:Int))=((n+9:Nat):Int):=by rw [zbQ (by omega) (by omega)]; omega
 have e1:XX ((n+9:Nat):Int) (64:Int)=(((n+9) % 64:Nat):Int):=(XV (n+9) 64).symm
 have e2:QG .u64 ((64:Int)-(((n+9) % 64:Nat):Int))=((64-(n+9) % 64:Nat):Int):=by rw [zbQ (by omega) (by omega)]; omega
 have e3:XX ((64-(n+9) % 64:Nat):Int) (64:Int)=((zs n:Nat):Int):=(XV (64-(n+9) % 64) 64).symm
 have e4:QG .u64 ((1:Int)+((zs n:Nat):Int))=((1+zs n:Nat):Int):=by rw [zbQ (by omega) (by omega)]; omega
 have e5:QG .u64 ((9:Int)+((zs n:Nat):Int))=((9+zs n:Nat):Int):=by rw [zbQ (by omega) (by omega)]; omega
 have e6:List.flatten (We (9+zs n) [V.sc (.int .u8 (0:Int))])=row .u8 (We (9+zs n) 0):=by
  rw [List.flatten_replicate_singleton,zx3]
 have e7:zk (row .u8 (We (9+zs n) 0)) 0 [V.sc (.int .u8 (128:Int))]=row .u8 (128::We (8+zs n) 0):=by
  rw [zkd (by simp; omega),show 9+zs n=(8+zs n)+1 by omega,List.replicate_succ,List.set_cons_zero]
 simp only [yt,e0,e1,e2,e3,e4,e5,XQ,e6,e7]
 rw [yf ⟨by omega,by omega,by simp [xm]; omega,by simp [xm]; omega⟩,yf ⟨by omega,by omega⟩,yf ⟨trivial,by simp [xr]; omega⟩]
 obtain ⟨L',rfl⟩:=XU hL
 rw [show 100+L'=(99+L')+1 by omega]
 refine (show _=zmd (99+L'+1) (n:Int) (1+zs n) (0:Int) (row .u8 (128::We (8+zs n) 0)) (fun p0 p4 p18 b15=>zdH (99+L'+1) (fun p4 b15=>zgI (99+L'+1) p4 b15 k1) (99+L') p0 p4 p18 b15) (fun p4l b15=>zoz (99+L'+1) p4l b15 k) from rfl).trans ?_
 unfold zmd
 have e8:QG .i64 ((8:Int)*(0:Int))=((8*0:Nat):Int):=by rw [zas (by omega) (by omega)]; omega
 have e56:QG .i64 ((56:Int)-((8*0:Nat):Int))=((56-8*0:Nat):Int):=by rw [zas (by omega) (by omega)]; omega
 have e9:QG .i64 ((0:Int)+(1:Int))=((1:Nat):Int):=zek (i:=0) (by omega)
 have ec:yl 1 (1+zs n) (row .u8 (128::We (8+zs n) 0))=yq .u8 (128::We (zs n) 0):=by
  rw [zCx _ _ _ (by simp; omega),show 1+zs n=zs n+1 by omega,List.take_succ_cons,List.take_replicate,show min (zs n) (8+zs n)=zs n by omega]
 rw [zI (by decide:(0:Int)<8)]
 simp only [yt,e8,e56,e9,zL5,ec,zbR]
 rw [yf ⟨trivial,by simp [xr]; omega,by simp [xr]⟩,yf (by omega),yf (by simp [zF,xm]; omega)]
 refine (z15 _ n _ _ (99+L') 7 1 _ rfl (by omega) (by simp; omega)).trans ?_
 unfold zgI zgT
 rw [pbs,Wu]; exact Eq.trans rfl rfl
theorem zUc{β:Type}(L:Nat){n:Nat}(hn:n≤100000000)(kx:Int→Ls→Option β):∀ (f m k:Nat),k+m=zs n→m<f→zka L kx f (n:Int) (yq .u8 (128::We k 0))=kx (n:Int) (yq .u8 (128::We (zs n) 0))
 | 0,m,k,_,h=>by omega
 | f+1,m,k,h1,h2=>by
  have z64:=zVm n
  unfold zka zux
  have e0:QG .u64 (((yq .u8 (128::We k 0)).length:Nat):Int)=((k+1:Nat):Int):=by
   rw [zF,List.length_cons,XR,zbQ (by omega) (by omega)]
  have e1:QG .u64 ((n:Int)+((k+1:Nat):Int))=((n+(k+1):Nat):Int):=by rw [zbQ (by omega) (by omega)]; omega
  have e2:QG .u64 (((n+(k+1):Nat):Int)+(8:Int))=((n+9+k:Nat):Int):=by rw [zbQ (by omega) (by omega)]; omega
  have e3:XX ((n+9+k:Nat):Int) (64:Int)=(((n+9+k) % 64:Nat):Int):=(XV (n+9+k) 64).symm
  simp only [yt,e0,e1,e2,e3]
  rw [zlv]
  match m,h1,h2 with
  | 0,h1,h2=>
   have:k=zs n:=by omega
   subst this
   rw [if_pos (by rw [z6a]; rfl)]
  | m+1,h1,h2=>
   have hz:=ya1 n k (by omega)
   rw [if_neg (by omega)]
   rw [zL5,zbR]
   rw [yf (by simp [zF,xm]; omega)]
   have e4:(128::We k (0:Int))++[0]=128::We (k+1) 0:=by
    rw [List.cons_append,List.replicate_succ']
   rw [e4]
   exact zUc L hn kx f m (k+1) (by omega) (by omega)
theorem z7a{β:Type}(L:Nat){n i:Nat}(hi:i<8){acc:List Int}(ha:acc.length≤1000000)(kh:Int→Ls→Int→Option β)(kx:Ls→Option β):zhG L (n:Int) (yq .u8 acc) ((7:Int)-(i:Int)) kh kx=kh (n:Int) (yq .u8 (acc++[pb n i])) ((7:Int)-((i+1:Nat):Int)):=by
 unfold zhG
 have e8:QG .i64 ((8:Int)*((7:Int)-(i:Int)))=((56-8*i:Nat):Int):=by rw [zas (by omega) (by omega)]; omega
 have e1:QG .i64 (((7:Int)-(i:Int))-(1:Int))=(7:Int)-((i+1:Nat):Int):=by rw [zas (by omega) (by omega)]; omega
 rw [zI (by omega:(7:Int)-(i:Int)≥0)]
 simp only [yt,e8,e1,zL5,zbR]
 rw [yf (by omega),yf (by simp [zF,xm]; omega)]
 exact Eq.trans rfl rfl
theorem zZu{β:Type}(L n:Nat)(kx:Ls→Option β):∀ (f m i:Nat) (acc:List Int),i+m=8→m<f→acc.length≤900000+i→zfM L kx f (n:Int) (yq .u8 acc) ((7:Int)-(i:Int))=kx (yq .u8 (acc++pbs n m i))
 | 0,m,i,acc,_,h,_=>by omega
 | f+1,0,i,acc,h1,h2,h3=>by
  unfold zfM zhG
  rw [zG (by omega),pbs,List.append_nil]
 | f+1,m+1,i,acc,h1,h2,h3=>by
  unfold zfM
  rw [z7a L (by omega) (by omega)]
  refine (zZu L n kx f m (i+1) _ (by omega) (by omega) (by simp; omega)).trans ?_
  rw [pbs,Wu]; exact Eq.trans rfl rfl
theorem z9I{β:Type}{L:Nat}(hL:100≤L){n:Nat}(hn:n≤100000000)(k:Ls→Option β):yu β L (n:Int) k=k (yq .u8 (zgT n)):=by
 unfold yu zyr zH8
 have z64:=zVm n
 refine (zUc L hn _ L (zs n) 0 (by omega) (by omega)).trans ?_
 unfold zj7 zqK
 refine (zZu L n _ L 8 0 _ rfl (by omega) (by simp; omega)).trans ?_
 unfold znp zgT
 exact Eq.trans rfl rfl
theorem z7l{β:Type}{L:Nat}(hL:100≤L){a b:List Int}(ha:a.length≤1000000000)(hb:b.length≤1000000000)(k:Ls→Option β):xB β L (yl 1 2 [V.sl 1 (yq .u8 a),V.sl 1 (yq .u8 b)]) k=k (yq .u8 (a++b)):=by
 unfold xB zHh zP5
 obtain ⟨L',rfl⟩:=XU hL
 have es:yl 1 2 [V.sl 1 (yq .u8 a),V.sl 1 (yq .u8 b)]=[[V.sl 1 (yq .u8 a)],[V.sl 1 (yq .u8 b)]]:=rfl
 rw [es,show 100+L'=(97+L')+1+1+1 by omega]
 refine (show _=zeU (97+L'+1+1+1) [] [[V.sl 1 (yq .u8 a)],[V.sl 1 (yq .u8 b)]] ((2:Nat):Int) ((0:Nat):Int) (fun p3 p6 p7 p8=>ziH (97+L'+1+1+1) _ (97+L'+1+1) p3 p6 p7 p8) (fun p3=>zgh (97+L'+1+1+1) p3 k) from rfl).trans ?_
 unfold zeU
 rw [zI (by decide),zaA (c:=[V.sl 1 (yq .u8 a)]) rfl,znh (sz:=1) (es:=yq .u8 a) rfl,yf (by simp [zF,xm]; omega),yt,List.nil_append,yt,zek (i:=0) (by omega)]
 refine (show _=zeU (97+L'+1+1+1) (yq .u8 a) [[V.sl 1 (yq .u8 a)],[V.sl 1 (yq .u8 b)]] ((2:Nat):Int) ((1:Nat):Int) (fun p3 p6 p7 p8=>ziH (97+L'+1+1+1) _ (97+L'+1) p3 p6 p7 p8) (fun p3=>zgh (97+L'+1+1+1) p3 k) from rfl).trans ?_
 unfold zeU
 rw [zI (by decide),zaA (c:=[V.sl 1 (yq .u8 b)]) rfl,znh (sz:=1) (es:=yq .u8 b) rfl,yf (by simp [zF,xm]; omega),yt,zbR,yt,zek (i:=1) (by omega)]
 refine (show _=zeU (97+L'+1+1+1) (yq .u8 (a++b)) [[V.sl 1 (yq .u8 a)],[V.sl 1 (yq .u8 b)]] ((2:Nat):Int) ((2:Nat):Int) (fun p3 p6 p7 p8=>ziH (97+L'+1+1+1) _ (97+L') p3 p6 p7 p8) (fun p3=>zgh (97+L'+1+1+1) p3 k) from rfl).trans ?_
 unfold zeU
 rw [zG (by decide)]
 unfold zgh
 exact Eq.trans rfl rfl
end
section
def init0:List Int:=gk_sha_initial.map fun v=>match v with | .sc (.int _ n)=>n | _=>0
theorem zFJ:init0.length=8:=rfl
def zPn:Nat→Nat→List Int→List Int→List Int
 | 0,_,_,h=>h
 | m+1,i,p,h=>zPn m (i+1) p (zLu h ((p.drop (64*i)).take 64))
theorem zT4:∀ (m i:Nat) (p h:List Int),h.length=8→(zPn m i p h).length=8
 | 0,_,_,_,hh=>hh
 | m+1,i,p,h,hh=>by rw [zPn]; exact zT4 m _ _ _ (zs9 _ _)
theorem zPW(k:IntKind):∀ l:List Int,List.flatten (yq k l)=row k l
 | []=>rfl
 | x::l=>by
  have:=zPW k l
  simp only [yq,row] at this
  simp only [yq,row,List.map_cons,List.flatten_cons,this,List.singleton_append]
theorem zCD{p:List Int}{i:Nat}(h:64*(i+1)≤p.length):((p.drop (64*i)).take 64).length=64:=by
 rw [List.length_take,XS]; omega
theorem z7z{p:List Int}(hp:∀ x∈p,0≤x∧x≤255)(i:Nat):∀ x∈(p.drop (64*i)).take 64,0≤x∧x≤255:=
 fun x hx=>hp x (List.mem_of_mem_drop (List.mem_of_mem_take hx))
theorem z4t(p:List Int)(n:Nat):XL ((yq .u8 p).length-n) (XO n (yq .u8 p))=yq .u8 (p.drop n):=by
 rw [zYH,XE (by rw [zF,zF,XS]; omega)]
theorem z8w{β:Type}{L:Nat}(hL:100≤L){p:List Int}(hp:∀ x∈p,0≤x∧x≤255)(hs:p.length≤1000000000){N i:Nat}(hi:i<N)(hN:64*(i+1)≤p.length)(b2:List V){h:List Int}(hh:h.length=8)(kh:Ls→Int→Int→List V→List V→Option β)(kx:List V→List V→Option β):zjP xC xB xn L (yq .u8 p) (N:Int) (i:Int) b2 (row .u32 h) kh kx=kh (yq .u8 p) (N:Int) ((i+1:Nat):Int) b2 (row .u32 (zLu h ((p.drop (64*i)).take 64))):=by
 unfold zjP
 have e9:QG .i64 ((64:Int)*(i:Int))=((64*i:Nat):Int):=by rw [zas (by omega) (by omega)]; omega
 have e8:XL 8 (row .u32 h)=row .u32 h:=XE (by rw [xr]; omega)
 have ec:XL 64 (row .u8 ((p.drop (64*i)).take 64))=row .u8 ((p.drop (64*i)).take 64):=XE (by rw [xr,zCD hN]; omega)
 rw [zI (by omega:(i:Int)<(N:Int)),yf (by rw [xr]; omega),yt,e9,XQ,z4t,zHx,zPW,e8,ec]
 rw [yf ⟨by omega,by rw [zF]; omega⟩,yf (by rw [zF,XS]; omega)]
 refine (z3i hL hh (zCD hN) (z7z hp i) _).trans ?_
 rw [yf ⟨by rw [xr,zs9],by rw [xr]; omega⟩,yt,yt,zc3 (by rw [xr,xr,zs9,hh]),zek (by omega)]
theorem z1O{β:Type}{L:Nat}(hL:100≤L){p:List Int}(hp:∀ x∈p,0≤x∧x≤255)(hs:p.length≤1000000000){N:Nat}(hN:64*N≤p.length)(b2:List V)(kx:List V→List V→Option β):∀ (f m i:Nat) (h:List Int),h.length=8→i+m=N→m<f→zhf xC xB xn L kx f (yq .u8 p) (N:Int) (i:Int) b2 (row .u32 h)=kx b2 (row .u32 (zPn m i p h))
 | 0,m,i,h,_,_,hf=>by omega
 | f+1,0,i,h,hh,h1,h2=>by
  unfold zhf zjP
  rw [zG (by omega)]; exact Eq.trans rfl rfl
 | f+1,m+1,i,h,hh,h1,h2=>by
  unfold zhf
  rw [z8w hL hp hs (by omega) (by omega) b2 hh]
  exact z1O hL hp hs hN b2 kx f m (i+1) _ (zs9 _ _) (by omega) (by omega)
theorem z7K{β:Type}{L:Nat}(hL:100≤L){p:List Int}(hp:∀ x∈p,0≤x∧x≤255)(hs:p.length≤1000000000){i:Nat}(hN:64*(i+1)≤p.length)(b2:List V){h:List Int}(hh:h.length=8)(kh:Ls→Int→List V→List V→Option β)(kx:List V→List V→Option β):zhS yu ym zl L (yq .u8 p) ((64*i:Nat):Int) b2 (row .u32 h) kh kx=kh (yq .u8 p) ((64*(i+1):Nat):Int) b2 (row .u32 (zLu h ((p.drop (64*i)).take 64))):=by
 unfold zhS
 have e9:QG .i64 (((64*i:Nat):Int)+(64:Int))=((64*(i+1):Nat):Int):=by rw [zas (by omega) (by omega)]; omega
 have e8:XL 8 (row .u32 h)=row .u32 h:=XE (by rw [xr]; omega)
 have em:min (yq .u8 (p.drop (64*i))).length 64=64:=by rw [zF,XS]; omega
 have er:zk (We 64 (Qa (0:Int))) 0 (row .u8 ((p.drop (64*i)).take 64))=row .u8 ((p.drop (64*i)).take 64):=zc3 (by rw [xr,zCD hN,XR])
 have ec:XL 64 (row .u8 ((p.drop (64*i)).take 64))=row .u8 ((p.drop (64*i)).take 64):=XE (by rw [xr,zCD hN]; omega)
 rw [yt,e9,zI (by rw [zF]; omega),XQ,z4t,em,zHx,zPW,er,e8,yt,ec]
 rw [yf ⟨by omega,by rw [zF]; omega⟩,yf (by rw [xr]; omega),yf (by rw [xr,zCD hN]; omega)]
 refine (z1b hL hh (zCD hN) (z7z hp i) _).trans ?_
 rw [yf ⟨by rw [xr,zs9],by rw [xr]; omega⟩,yt,yt,zc3 (by rw [xr,xr,zs9,hh])]
theorem zY8{β:Type}{L:Nat}(hL:100≤L){p:List Int}(hp:∀ x∈p,0≤x∧x≤255)(hs:p.length≤1000000000){N:Nat}(hN:64*N=p.length)(b2:List V)(kx:List V→List V→Option β):∀ (f m i:Nat) (h:List Int),h.length=8→i+m=N→m<f→zfK yu ym zl L kx f (yq .u8 p) ((64*i:Nat):Int) b2 (row .u32 h)=kx b2 (row .u32 (zPn m i p h))
 | 0,m,i,h,_,_,hf=>by omega
 | f+1,0,i,h,hh,h1,h2=>by
  unfold zfK zhS
  have e9:QG .i64 (((64*i:Nat):Int)+(64:Int))=((64*(i+1):Nat):Int):=by rw [zas (by omega) (by omega)]; omega
  rw [yt,e9,zG (by rw [zF]; omega)]; exact Eq.trans rfl rfl
 | f+1,m+1,i,h,hh,h1,h2=>by
  unfold zfK
  rw [z7K hL hp hs (by omega) b2 hh]
  exact zY8 hL hp hs hN b2 kx f m (i+1) _ (zs9 _ _) (by omega) (by omega)
def ob(h:List Int)(i:Nat):Int:=QG .u8 (zcN .u32 (h.getD (i / 4) 0) ((24-i % 4*8:Nat):Int))
def zAb(h:List Int):List Int:=(List.range 32).map (ob h)
theorem zLt(h:List Int):(zAb h).length=32:=by simp [zAb]
theorem z8D(h:List Int){i:Nat}(hi:i<32):(zAb h).getD i 0=ob h i:=by
 simp [zAb,Ws,hi]
theorem yaS(h:List Int):∀ x∈zAb h,0≤x∧x≤255:=by
 intro x hx
 rw [zAb,List.mem_map] at hx
 obtain ⟨i,_,rfl⟩:=hx
 exact zsv _
theorem z86{l m:List Int}(h:l.length=m.length)(hg:∀ i,i<l.length→l.getD i 0=m.getD i 0):l=m:=by
 apply List.ext_getElem h
 intro i h1 h2
 have:=hg i h1
 rwa [Ws,Ws,Wc h1,Wc h2] at this
theorem z4J{h z:List Int}(hz:z.length=32)(hg:∀ j,j<32→z.getD j 0=ob h j):z=zAb h:=
 z86 (by rw [hz,zLt]) fun i hi=>by rw [z8D h (by omega)]; exact hg i (by omega)
theorem z6f{β:Type}(L:Nat){i:Nat}(hi:i<32)(b2:List V){h z:List Int}(hh:h.length=8)(hz:z.length=32)(kh:Int→List V→List V→List V→Option β)(kx:List V→List V→Option β):zhE xC xB xn L (i:Int) b2 (row .u32 h) (row .u8 z) kh kx=kh ((i+1:Nat):Int) b2 (row .u32 h) (row .u8 (z.set i (ob h i))):=by
 unfold zhE
 have e1:QG .i64 (XW (i:Int) (4:Int))=((i / 4:Nat):Int):=by
  rw [show XW (i:Int) (4:Int)=((i / 4:Nat):Int) from (Int.ofNat_tdiv i 4).symm,zas (by omega) (by omega)]
 have e2:XX (i:Int) (4:Int)=((i % 4:Nat):Int):=(XV i 4).symm
 have e3:QG .i64 (((i % 4:Nat):Int)*(8:Int))=((i % 4*8:Nat):Int):=by rw [zas (by omega) (by omega)]; omega
 have e4:QG .i64 ((24:Int)-((i % 4*8:Nat):Int))=((24-i % 4*8:Nat):Int):=by rw [zas (by omega) (by omega)]; omega
 have c1:0≤((i / 4:Nat):Int)∧((i / 4:Nat):Int)<((8:Nat):Int):=by omega
 have c2:0≤(i:Int)∧(i:Int)<((32:Nat):Int):=by omega
 have c3:0≤((24-i % 4*8:Nat):Int):=by omega
 have cl:True∧i+1≤32:=⟨trivial,by omega⟩
 rw [zI (by omega:(i:Int)<32)]
 simp only [yt,e1,e2,e3,e4,yf c1,yf c2,yf c3,XQ,XT,WB,zao (show i / 4<h.length by omega),xr,hz,zkd (show i<z.length by omega),zek (show i≤1000000000 by omega)]
 rw [yf cl]
 exact Eq.trans rfl rfl
theorem zZl{β:Type}(L:Nat)(b2:List V){h:List Int}(hh:h.length=8)(kx:List V→List V→Option β):∀ (f m i:Nat) (z:List Int),z.length=32→i+m=32→m<f→(∀ j,j<i→z.getD j 0=ob h j)→zfO xC xB xn L kx f (i:Int) b2 (row .u32 h) (row .u8 z)=kx b2 (row .u8 (zAb h))
 | 0,m,i,z,_,_,hf,_=>by omega
 | f+1,0,i,z,hz,h1,h2,hg=>by
  unfold zfO zhE
  rw [zG (by omega),z4J hz fun j hj=>hg j (by omega)]
 | f+1,m+1,i,z,hz,h1,h2,hg=>by
  unfold zfO
  rw [z6f L (by omega) b2 hh hz]
  refine zZl L b2 hh kx f m (i+1) _ (by simpa using hz) (by omega) (by omega) fun j hj=>?_
  by_cases he:i=j
  ·subst he; exact ziB (by omega) _
  ·rw [getD_set_ne he]; exact hg j (by omega)
theorem ycp(v:Int):zcN .u32 v ((0:Nat):Int)=v:=by
 unfold zcN
 rw [show min (XM ((0:Nat):Int)) (XH .u32)=0 from rfl,show (2:Int) ^ 0=1 from rfl,Int.fdiv_one]
theorem z5b{β:Type}(L:Nat){i:Nat}(hi:i<8)(b2:List V){h z:List Int}(hh:h.length=8)(hz:z.length=32)(kh:List V→Int→List V→List V→Option β)(kx:List V→List V→Option β):zf9 yu ym zl L (row .u32 h) (i:Int) b2 (row .u8 z) kh kx=kh (row .u32 h) ((i+1:Nat):Int) b2 (row .u8 ((((z.set (4*i) (ob h (4*i))).set (4*i+1) (ob h (4*i+1))).set (4*i+2) (ob h (4*i+2))).set (4*i+3) (ob h (4*i+3)))):=by
 unfold zf9
 have e4:QG .i64 ((4:Int)*(i:Int))=((4*i:Nat):Int):=z5R (by omega)
 have e1:QG .i64 (((4*i:Nat):Int)+(1:Int))=((4*i+1:Nat):Int):=zSW (b:=1) (by omega) (by omega)
 have e2:QG .i64 (((4*i:Nat):Int)+(2:Int))=((4*i+2:Nat):Int):=zSW (b:=2) (by omega) (by omega)
 have e3:QG .i64 (((4*i:Nat):Int)+(3:Int))=((4*i+3:Nat):Int):=zSW (b:=3) (by omega) (by omega)
 have c0:0≤(i:Int)∧(i:Int)<((8:Nat):Int):=by omega
 have c4:0≤((4*i:Nat):Int)∧((4*i:Nat):Int)<((32:Nat):Int):=by omega
 have c1:0≤((4*i+1:Nat):Int)∧((4*i+1:Nat):Int)<((32:Nat):Int):=by omega
 have c2:0≤((4*i+2:Nat):Int)∧((4*i+2:Nat):Int)<((32:Nat):Int):=by omega
 have c3:0≤((4*i+3:Nat):Int)∧((4*i+3:Nat):Int)<((32:Nat):Int):=by omega
 have l0:True∧4*i+1≤32:=⟨trivial,by omega⟩
 have l1:True∧4*i+1+1≤32:=⟨trivial,by omega⟩
 have l2:True∧4*i+2+1≤32:=⟨trivial,by omega⟩
 have l3:True∧4*i+3+1≤32:=⟨trivial,by omega⟩
 have o0:QG .u8 (zcN .u32 (h.getD i 0) (24:Int))=ob h (4*i):=by
  unfold ob; rw [show 4*i / 4=i by omega,show 24-4*i % 4*8=24 by omega]; exact Eq.trans rfl rfl
 have o1:QG .u8 (zcN .u32 (h.getD i 0) (16:Int))=ob h (4*i+1):=by
  unfold ob; rw [show (4*i+1) / 4=i by omega,show 24-(4*i+1) % 4*8=16 by omega]; exact Eq.trans rfl rfl
 have o2:QG .u8 (zcN .u32 (h.getD i 0) (8:Int))=ob h (4*i+2):=by
  unfold ob; rw [show (4*i+2) / 4=i by omega,show 24-(4*i+2) % 4*8=8 by omega]; exact Eq.trans rfl rfl
 have o3:QG .u8 (h.getD i 0)=ob h (4*i+3):=by
  unfold ob; rw [show (4*i+3) / 4=i by omega,show 24-(4*i+3) % 4*8=0 by omega,ycp]
 rw [zI (by omega:(i:Int)<8)]
 simp only [yt,e4,e1,e2,e3,yf c0,yf c4,yf c1,yf c2,yf c3,XQ,XT,WB,zao (show i<h.length by omega),o0,o1,o2,o3,xr]
 rw [zkd (by omega),zkd (by rw [QI]; omega),zkd (by rw [QI,QI]; omega),zkd (by rw [QI,QI,QI]; omega)]
 simp only [xr,QI,hz,zek (show i≤1000000000 by omega)]
 rw [yf l0,yf l1,yf l2,yf l3]
theorem zWi{β:Type}(L:Nat)(b2:List V){h:List Int}(hh:h.length=8)(kx:List V→List V→Option β):∀ (f m i:Nat) (z:List Int),z.length=32→i+m=8→m<f→(∀ j,j<4*i→z.getD j 0=ob h j)→zeq yu ym zl L kx f (row .u32 h) (i:Int) b2 (row .u8 z)=kx b2 (row .u8 (zAb h))
 | 0,m,i,z,_,_,hf,_=>by omega
 | f+1,0,i,z,hz,h1,h2,hg=>by
  unfold zeq zf9
  rw [zG (by omega),z4J hz fun j hj=>hg j (by omega)]
 | f+1,m+1,i,z,hz,h1,h2,hg=>by
  unfold zeq
  rw [z5b L (by omega) b2 hh hz]
  refine zWi L b2 hh kx f m (i+1) _ (by simpa using hz) (by omega) (by omega) fun j hj=>?_
  by_cases h3:4*i+3=j
  ·subst h3; exact ziB (by simp; omega) _
  rw [getD_set_ne h3]
  by_cases h2:4*i+2=j
  ·subst h2; exact ziB (by simp; omega) _
  rw [getD_set_ne h2]
  by_cases h1:4*i+1=j
  ·subst h1; exact ziB (by simp; omega) _
  rw [getD_set_ne h1]
  by_cases h0:4*i=j
  ·subst h0; exact ziB (by omega) _
  rw [getD_set_ne h0]
  exact hg j (by omega)
def zxB(l:List Int):List Int:=zAb (zPn ((l++zgT l.length).length / 64) 0 (l++zgT l.length) init0)
theorem zbt(l:List Int):(zxB l).length=32:=zLt _
theorem zQX(l:List Int):∀ x∈zxB l,0≤x∧x≤255:=yaS _
theorem z3R(l:List Int):64*((l++zgT l.length).length / 64)=(l++zgT l.length).length:=by
 have:=z6a l.length
 rw [Wm,zDC]; omega
theorem z7f{l:List Int}(h:∀ x∈l,0≤x∧x≤255):∀ x∈l++zgT l.length,0≤x∧x≤255:=by
 intro x hx
 rcases List.mem_append.1 hx with hx | hx
 ·exact h x hx
 ·exact z9G _ x hx
theorem z38{β:Type}{w:List Int}(hw:w.length=32)(z:List Int)(hz:z.length=32)(k:List V→Option β) :
  chk (0+32≤(XK (row .u8 w))) (chk ((XK (XL 32 (row .u8 w)))=32∧0+32≤(XK (row .u8 z))) (
   lt (zk (row .u8 z) 0 (XL 32 (row .u8 w))) fun r41=>chk (0=0∧(XK r41)=32∧32≠0) (k r41)))=k (row .u8 w):=by
 have e:XL 32 (row .u8 w)=row .u8 w:=XE (by rw [xr]; omega)
 rw [yt,e,zc3 (by rw [xr,xr]; omega)]
 rw [yf (by rw [xr]; omega),yf ⟨by rw [xr]; omega,by rw [xr]; omega⟩,yf ⟨rfl,by rw [xr]; omega,by decide⟩]
theorem zVd{β:Type}{L:Nat}{l:List Int}(hL:l.length+200≤L)(hl:l.length≤100000000)(hb:∀ x∈l,0≤x∧x≤255)(k:List V→Option β):zam β L (yq .u8 l) k=k (row .u8 (zxB l)):=by
 unfold zam zG1 zP1
 have z64:=zVm l.length
 have hm:=z3R l
 have hlen:(l++zgT l.length).length=l.length+(9+zs l.length):=by rw [Wm,zDC]
 have e0:QG .u64 (((yq .u8 l).length:Nat):Int)=(l.length:Int):=by rw [zF,zbQ (by omega) (by omega)]
 rw [yt,e0]
 refine (ybf (by omega) hl _ _).trans ?_
 refine (z7l (by omega) (by omega) (by rw [zDC]; omega) _).trans ?_
 have e1:zk [V.sc (.int .u32 (0:Int)),V.sc (.int .u32 (0:Int)),V.sc (.int .u32 (0:Int)),V.sc (.int .u32 (0:Int)),V.sc (.int .u32 (0:Int)),V.sc (.int .u32 (0:Int)),V.sc (.int .u32 (0:Int)),V.sc (.int .u32 (0:Int))] 0 (XL 8 gk_sha_initial)=row .u32 init0:=(zc3 rfl).trans rfl
 have e2:QG .i64 (XW (((yq .u8 (l++zgT l.length)).length:Nat):Int) (64:Int))=(((l++zgT l.length).length / 64:Nat):Int):=by
  rw [zF,show XW (((l++zgT l.length).length:Nat):Int) (64:Int)=(((l++zgT l.length).length / 64:Nat):Int) from (Int.ofNat_tdiv _ 64).symm,zas (by omega) (by omega)]
 rw [yf ⟨rfl,by decide⟩,yt,e1,yt,e2]
 refine (z1O (by omega) (z7f hb) (by omega) (by omega) _ _ L ((l++zgT l.length).length / 64) 0 _ zFJ (by omega) (by omega)).trans ?_
 unfold zj5 zrb
 rw [zx3]
 refine (zZl L _ (zT4 _ _ _ _ zFJ) _ L 32 0 _ XR rfl (by omega) (fun j hj=>by omega)).trans ?_
 unfold znA
 exact z38 (zLt _) _ XR k
theorem z5V{β:Type}(L:Nat)(k:List V→Option β):ym β L k=k (row .u32 init0):=by
 unfold ym zwk
 rw [yt]
 exact (yf ⟨rfl,rfl,by decide⟩ _).trans rfl
theorem zQ1{β:Type}{L:Nat}{l:List Int}(hL:l.length+200≤L)(hl:l.length≤100000000)(hb:∀ x∈l,0≤x∧x≤255)(k:List V→Option β):zX β L (yq .u8 l) k=k (row .u8 (zxB l)):=by
 unfold zX zyj zI1
 have z64:=zVm l.length
 have hm:=z3R l
 have hlen:(l++zgT l.length).length=l.length+(9+zs l.length):=by rw [Wm,zDC]
 have e0:QG .u64 (((yq .u8 l).length:Nat):Int)=(l.length:Int):=by rw [zF,zbQ (by omega) (by omega)]
 rw [yf (by simp [zF,xm]; omega),yt,List.nil_append,yt,e0]
 refine (z9I (by omega) hl _).trans ?_
 rw [yf (by simp [zF,zDC,xm]; omega),yt,zbR]
 refine (z5V L _).trans ?_
 have e1:zk [V.sc (.int .u32 (0:Int)),V.sc (.int .u32 (0:Int)),V.sc (.int .u32 (0:Int)),V.sc (.int .u32 (0:Int)),V.sc (.int .u32 (0:Int)),V.sc (.int .u32 (0:Int)),V.sc (.int .u32 (0:Int)),V.sc (.int .u32 (0:Int))] 0 (row .u32 init0)=row .u32 init0:=zc3 rfl
 rw [yf ⟨rfl,by decide⟩,yt,e1]
 refine (zY8 (by omega) (z7f hb) (by omega) hm _ _ L ((l++zgT l.length).length / 64) 0 _ zFJ (by omega) (by omega)).trans ?_
 unfold zhX znQ
 have hb8:=zT4 ((l++zgT l.length).length / 64) 0 (l++zgT l.length) init0 zFJ
 rw [yf (by rw [xr,hb8]; omega),XE (by rw [xr,hb8]; omega),zx3]
 refine (zWi L _ hb8 _ L 8 0 _ XR rfl (by omega) (fun j hj=>by omega)).trans ?_
 unfold zlI
 exact z38 (zLt _) _ XR k
def zIF(l:List Int):List Int:=zxB (zxB l)
theorem zs1(l:List Int):(zIF l).length=32:=zbt _
theorem yag(l:List Int):∀ x∈zIF l,0≤x∧x≤255:=zQX _
theorem zu2{w:List Int}(hw:w.length=32):zk (We 32 (Qa (0:Int))) 0 (row .u8 w)=row .u8 w:=zc3 (by rw [xr,hw,XR])
theorem z4v{w:List Int}(hw:w.length=32):List.isEmpty (row .u8 w)=false:=by
 rw [List.isEmpty_eq_false_iff]; intro h
 have:=congrArg XK h
 rw [xr,hw] at this; cases this
theorem zOC{β:Type}{L:Nat}{l:List Int}(hL:l.length+300≤L)(hl:l.length≤100000000)(hb:∀ x∈l,0≤x∧x≤255)(k:List V→Option β):xX β L (yq .u8 l) k=k (row .u8 (zIF l)):=by
 unfold xX zCQ
 have ec:yl 1 32 (row .u8 (zxB l))=yq .u8 (zxB l):=by
  rw [zCx _ _ _ (by rw [zbt]; omega),XE (by rw [zbt]; omega)]
 refine (zVd (by omega) hl hb _).trans ?_
 rw [yf ⟨by rw [xr,zbt],by decide⟩,yt,zu2 (zbt l),yf (by rw [xr,zbt]; omega),z4v (zbt l),zeY,ec]
 refine (zVd (by rw [zbt]; omega) (by rw [zbt]; omega) (zQX l) _).trans ?_
 rw [yf ⟨by rw [xr,zbt],by decide⟩,yt,zu2 (zbt _),yf ⟨rfl,by rw [xr,zbt],by decide⟩]
 exact Eq.trans rfl rfl
theorem zLZ{β:Type}{L:Nat}{l:List Int}(hL:l.length+300≤L)(hl:l.length≤100000000)(hb:∀ x∈l,0≤x∧x≤255)(k:List V→Option β):yJ β L (yq .u8 l) k=k (row .u8 (zIF l)):=by
 unfold yJ zxY
 have ec:yl 1 32 (row .u8 (zxB l))=yq .u8 (zxB l):=by
  rw [zCx _ _ _ (by rw [zbt]; omega),XE (by rw [zbt]; omega)]
 refine (zQ1 (by omega) hl hb _).trans ?_
 rw [yf ⟨by rw [xr,zbt],by decide⟩,yt,zu2 (zbt l),yf (by rw [xr,zbt]; omega),z4v (zbt l),zeY,ec]
 refine (zQ1 (by rw [zbt]; omega) (by rw [zbt]; omega) (zQX l) _).trans ?_
 rw [yf ⟨by rw [xr,zbt],by decide⟩,yt,zu2 (zbt _),yf ⟨rfl,by rw [xr,zbt],by decide⟩]
 exact Eq.trans rfl rfl
end
end Go.Proofs.YtgmhijonllockaaGreatDoor
