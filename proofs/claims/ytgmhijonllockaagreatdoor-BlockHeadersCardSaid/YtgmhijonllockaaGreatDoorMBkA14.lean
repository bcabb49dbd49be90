/- Part 14 of the proof of BkA: an abstract machine over plain values, its soundness, and the functions of the program on plain values. -/
import Derived.Test.YtgmhijonllockaaGreatDoorMBkA13
namespace Go.Proofs.YtgmhijonllockaaGreatDoor
set_option maxRecDepth 100000
set_option linter.unusedVariables false
set_option linter.unusedSimpArgs false
open List renaming length->XK,length_append->Wm,take->XL,replicate->We,drop_zero->Yd,drop_of_length_le->WK,nil_append->Ye,getElem_mem->W2,length_map->QB,map->Xv,getD_eq_getElem?_getD->Ws,getElem?_append_right->Wt,getElem?_append_left->Wv,drop_eq_getElem_cons->WQ,getElem?_eq_getElem->Wc,mem_cons->Q9,replicate_zero->Yg,drop->XO
open IntKind renaming wrap->QG
open Nat renaming mul_le_mul_right->WI,pow_le_pow_right->Yf
open Int renaming toNat->XM
open Bool renaming false_eq_true->WP
section
noncomputable section
def zrA:Hint:=⟨[(0,0),(5,1)],[],[none,none,none,none,none],[],[],false,false,[]⟩
def z5F:CF:=cfD zrA 4
def z5d:Nat→Sh:=zj [(11,(.sl 4))]
def z4T(yR:zes)(zav:zi1)(zw:zaj)(zfP:zso)(zfR:zsC)(L:Nat):CBC:=(xe 522 (z0c zfR L) (xe 542 (z0p zfP L) (xe 474 (zpy zw L) (xe 670 (zvG zav L) (xe 669 (zpx yR L) noC)))))
def zN5{β:Type}(yR:zes)(zav:zi1)(zw:zaj)(zfP:zso)(zfR:zsC)(L:Nat)(z:List V)(A:Bool→Ob β):Ob β:=yR β L  (chk (0+69≤(XK z)) (zav β L (Xv V.dem (XL 69 z)) (fun F=>ifb (!F) (A true) (chk (0+69≤(XK z)) (chk ((XK (XL 69 z))=69∧0+69≤69) (lt (zk ([(Qc (0:Int))]++We 64 (Qa (0:Int))++[(Qc (0:Int)),(Qc (0:Int)),(Qc (0:Int)),(V.gs 4 ([]:Ls))]) 0 (XL 69 z)) fun D=>cLd 4 z 68 fun G=>zw β L G (fun E=>chk ((XK E)=32∧33+32≤(XK D)) (lt (zk D 33 E) fun C=>chk (0+69≤(XK z)) (zfP β L (Xv V.dem (XL 69 z)) (fun H=>chk (0+69≤(XK z)) (zfR β L (Xv V.dem (XL 69 z)) (fun I=>ifb ((H:Int)==I) (chk (0+69≤(XK C)) (zfP β L (Xv V.dem (XL 69 C)) (fun J=>chk (0+69≤(XK C)) (zfR β L (Xv V.dem (XL 69 C)) (fun M=>A ((J:Int)==M)))))) (A false)))))))))))))
abbrev zwC:=∀ (β:Type),Nat→List V→(Bool→Ob β)→Ob β
def zwJ:zwC:=fun β=>@zN5 β yR zav zw zfP zfR
def z52(zwJ:zwC)(L:Nat):Dk:=dA AG fun z=>d0 fun β k=>zwJ β L z (fun z=>k (V.sc (.bool z)) [])
def zBN:Hint:=⟨[(0,0),(0,1),(2,0),(3,2)],[],[none,none,none],[],[],false,false,[]⟩
def zHm:CF:=cfD zBN 14
def zwi:Nat→Sh:=zj []
def zvK(zz:zau)(yr:zaC)(L:Nat):CBC:=(xe 488 (zp5 yr L) (xe 449 (zpz zz L) noC))
def zxq{β:Type}(zz:zau)(yr:zaC)(L:Nat)(A:List V)(z:Ls→Int→Ob β):Ob β:=chk (0+69≤(XK A)) (zz β L (Xv V.dem (XL 69 A)) (fun C=>ifb (!C) (z ([]:Ls) (4:Int)) (chk (0+69≤(XK A)) (yr β L (Xv V.dem (XL 69 A)) (fun D=>z D (0:Int))))))
theorem zRc{β:Type}(zz:zau)(yr:zaC)(L:Nat)(C:List V)(k:KK β):yh zwi (zvK zz yr L) L zHm [(V.agg C)] [] k=zxq zz yr L C (fun z A=>k (V.tup [(V.gs 1 z),(Qe A)]) []):=by kernel_rfl
abbrev zlf:=∀ (β:Type),Nat→List V→(Ls→Int→Ob β)→Ob β
def zaK:zlf:=fun β=>@zxq β zz yr
def zxj(zaK:zlf)(L:Nat):Dk:=dA AG fun C=>d0 fun β k=>zaK β L C (fun z A=>k (V.tup [(V.gs 1 z),(Qe A)]) [])
theorem zRe(L:Nat):DK (zxj zaK L) (fun _=>yh zwi (zvK zz yr L) L zHm):=xv zak fun z=>yK fun _ k=>zRc zz yr L z k
def zqA:Hint:=⟨[(0,0),(5,2),(5,3),(6,2),(6,3)],[],[none,none,none,none,none],[],[],false,false,[]⟩
def ztp:CF:=cfD zqA 3
def zlE:Nat→Sh:=zj [(32,(.sl 4)),(35,(.sl 4))]
def zle(yR:zes)(zav:zi1)(zB:zaN)(zaK:zlf)(zW:zha)(xH:zbj)(zw:zaj)(L:Nat):CBC:=(xe 474 (zpy zw L) (xe 579 (zvQ xH L) (xe 130 (zo6 zW L) (xe 456 (zxj zaK L) (xe 577 (zlA zB L) (xe 670 (zvG zav L) (xe 669 (zpx yR L) noC)))))))
def zmt{β:Type}(yR:zes)(zav:zi1)(zB:zaN)(zaK:zlf)(zW:zha)(xH:zbj)(zw:zaj)(L:Nat)(A:List V)(z:Bool→Ob β):Ob β:=yR β L  (chk (0+69≤(XK A)) (zav β L (Xv V.dem (XL 69 A)) (fun D=>ifb (!D) (z true) (chk (0+69≤(XK A)) (zB β L (Xv V.dem (XL 69 A)) (fun E F=>chk (0+69≤(XK A)) (zaK β L (Xv V.dem (XL 69 A)) (fun G H=>ifb ((F:Int)==H) (zW β L E G (fun I=>ifb I (cLd 4 A 68 fun J=>xH β L J (fun M=>cLd 4 A 68 fun N=>zw β L N (fun O=>eqC 32 M O fun C=>z C))) (z false))) (z false)))))))))
theorem zFv{β:Type}(yR:zes)(zav:zi1)(zB:zaN)(zaK:zlf)(zW:zha)(xH:zbj)(zw:zaj)(L:Nat)(z:List V)(k:KK β):yh zlE (zle yR zav zB zaK zW xH zw L) L ztp [(V.agg z)] [] k=zmt yR zav zB zaK zW xH zw L z (fun z=>k (V.sc (.bool z)) []):=by kernel_rfl
abbrev zvg:=∀ (β:Type),Nat→List V→(Bool→Ob β)→Ob β
def zb7:zvg:=fun β=>@zmt β yR zav zB zaK zW xH zw
def zmT(zb7:zvg)(L:Nat):Dk:=dA AG fun z=>d0 fun β k=>zb7 β L z (fun z=>k (V.sc (.bool z)) [])
theorem zFk(L:Nat):DK (zmT zb7 L) (fun _=>yh zlE (zle yR zav zB zaK zW xH zw L) L ztp):=xv zak fun z=>yK fun _ k=>zFv yR zav zB zaK zW xH zw L z k
def zGf:Hint:=⟨[],[],[none,none,none,none,none],[],[],false,false,[]⟩
def zNV:CF:=cfD zGf 100
def zAv:Nat→Sh:=zj []
def zAw(L:Nat):CBC:=noC
def zEQ{β:Type}(L:Nat)(C:Ls)(A D:Int)(z:Int→Ob β):Ob β:=ifb (decide (A<(0:Int))) (z (5:Int)) (ifb (decide (A>((XK C:Nat):Int))) (z (5:Int)) (lt (QG .i64 ((((XK C:Nat):Int):Int)-A)) fun E=>ifb (decide (E<D)) (z (1:Int)) (z (0:Int))))
theorem zWO{β:Type}(L:Nat)(z:Ls)(A C:Int)(k:KK β):yh zAv (zAw L) L zNV [(V.sl 1 z),(Qe A),(Qe C)] [] k=zEQ L z A C (fun z=>k (Qe z) []):=by kernel_rfl
abbrev zby:=∀ (β:Type),Nat→Ls→Int→Int→(Int→Ob β)→Ob β
def xA:zby:=fun β=>@zEQ β
def zt4(xA:zby)(L:Nat):Dk:=dA (AL 1) fun z=>dA (AI .i64) fun A=>dA (AI .i64) fun C=>d0 fun β k=>xA β L z A C (fun z=>k (Qe z) [])
theorem zVS(L:Nat):DK (zt4 xA L) (fun _=>yh zAv (zAw L) L zNV):=xv zaZ fun z=>xv zbN fun A=>xv zbN fun C=>yK fun _ k=>zWO L z A C k
def zrD:Hint:=⟨[],[],[none,none,none,some ((bl 1573895 40),(bl 1099511625727 40)),none,some ((bl 1030 40),(bl 1099511625727 40)),none,none],[],[],false,false,[]⟩
def cf_codec_read_uint32:CF:=cfD zrD 99
def zhw:CC:=yz [1,1,1,0,1,0,0] cf_codec_read_uint32.body
def zqr:CC:=yz [1,1,1,1] cf_codec_read_uint32.body
def zbB:Nat→Sh:=zj [(29,(.int .u8))]
def zbD(xA:zby)(L:Nat):CBC:=(xe 198 (zt4 xA L) noC)
def zii:St→St:=yM 0 (bl 1573895 40) (bl 1099511625727 40)
def zdZ(D:Ls)(E F z A C:Int):St:=⟨((V.sl 1 D)::((Qe E)::((Qe F)::(jn 7 ((Qc z)::(jn 8 ((Qe A)::((Qe C)::(jn 19 []))))))))),(gn 40 [])⟩
def zjn(A C z:Int):St:=⟨(jn 1 ((Qe A)::((Qe C)::(jn 7 ((Qc z)::(jn 29 [])))))),(gn 40 [])⟩
def znu{β:Type}(xA:zby)(L:Nat)(D:Ls)(E C:Int)(A:Int→Int→Int→Ob β)(z:Ls→Int→Int→Int→Int→Int→Ob β):Ob β:=xA β L D E C (fun F=>ifb ((F:Int) != (0:Int)) (A (0:Int) (0:Int) F) (z D E C (0:Int) C (0:Int)))
theorem zIU{β:Type}(xA:zby)(L:Nat)(z:Ls)(A C:Int)(k:KK β):yh zbB (zbD xA L) L cf_codec_read_uint32 [(V.sl 1 z),(Qe A),(Qe C)] [] k=znu xA L z A C (fun D E F=>k (V.tup [(Qc D),(Qe E),(Qe F)]) []) (fun z A C G H I=>zx (ze zbB (zbD xA L) 0 L zhw) zii L (zdZ z A C G H I) (xi 0 (yv (ze zbB (zbD xA L) 0 L zqr) (zD 0 (CF.res cf_codec_read_uint32) k)))):=by kernel_rfl
def zit{β:Type}(xA:zby)(L:Nat)(G:Ls)(E H C D A:Int)(z:Ls→Int→Int→Int→Int→Int→Ob β)(F:Int→Int→Int→Ob β):Ob β:=ifb (decide (A<D)) (lt (QG .i64 ((E:Int)+A)) fun J=>idx G J fun M=>cI .u8 M 0 fun N=>lt (QG .u32 N) fun O=>lt (QG .i64 (((8:Int):Int)*A)) fun I=>chk (0≤I) (lt (zgr .u32 O I) fun P=>lt (ior .u32 C P) fun Q=>lt (QG .i64 ((A:Int)+(1:Int))) fun R=>z G E H Q D R)) (F E H C)
theorem zw6{β:Type}(xA:zby)(L:Nat)(F:Ls)(D E z A C:Int)(X:St→Ob β)(K:KT β):ze zbB (zbD xA L) 0 L zhw (zdZ F D E z A C) (yH zii X K)=zit xA L F D E z A C (fun F D E z A C=>X (zdZ F D E z A C)) (fun D E z=>K (.exit 0) (zjn D E z)):=by kernel_rfl
def zgW{β:Type}(xA:zby)(L:Nat)(C D A:Int)(z:Int→Int→Int→Ob β):Ob β:=lt (QG .i64 ((C:Int)+D)) fun E=>z A E (0:Int)
theorem zwe{β:Type}(xA:zby)(L:Nat)(E F z:Int)(k:KK β):(xi 0 (yv (ze zbB (zbD xA L) 0 L zqr) (zD 0 (CF.res cf_codec_read_uint32) k))) (.exit 0) (zjn E F z)=zgW xA L E F z (fun A C D=>k (V.tup [(Qc A),(Qe C),(Qe D)]) []):=by kernel_rfl
def zde{β:Type}(xA:zby)(L:Nat)(z:Int→Int→Int→Ob β):Nat→Ls→Int→Int→Int→Int→Int→Ob β
 | 0,_,_,_,_,_,_=>none
 | n+1,E,F,G,A,C,D=>zit xA L E F G A C D (fun E F G A C D=>zde xA L z n E F G A C D) z
theorem zkW{β:Type}(xA:zby)(L:Nat)(K:KT β):∀ (n:Nat) (F:Ls) (A C z D E:Int),zx (ze zbB (zbD xA L) 0 L zhw) zii n (zdZ F A C z D E) K=zde xA L (fun A C z=>K (.exit 0) (zjn A C z)) n F A C z D E:=by
 intro n; induction n <;> intros
 ·rfl
 ·exact (zw6 ..).trans (by simp only [*]; rfl)
def zi9{β:Type}(xA:zby)(L:Nat)(E:Ls)(A C:Int)(z:Int→Int→Int→Ob β):Ob β:=znu xA L E A C z (fun E A C D F G=>zde xA L (fun A C D=>zgW xA L A C D z) L E A C D F G)
theorem zH0{β:Type}(xA:zby)(L:Nat)(z:Ls)(A C:Int)(k:KK β):yh zbB (zbD xA L) L cf_codec_read_uint32 [(V.sl 1 z),(Qe A),(Qe C)] [] k=zi9 xA L z A C (fun D E F=>k (V.tup [(Qc D),(Qe E),(Qe F)]) []):=by
 refine (zIU xA L z A C k).trans ?_
 unfold zi9
 first
  | (simp only [zkW,zwe]; done)
  | (simp only [zkW]; rfl)
abbrev zgc:=∀ (β:Type),Nat→Ls→Int→Int→(Int→Int→Int→Ob β)→Ob β
def y9:zgc:=fun β=>@zi9 β xA
def znE(y9:zgc)(L:Nat):Dk:=dA (AL 1) fun D=>dA (AI .i64) fun E=>dA (AI .i64) fun F=>d0 fun β k=>y9 β L D E F (fun z A C=>k (V.tup [(Qc z),(Qe A),(Qe C)]) [])
theorem zIb(L:Nat):DK (znE y9 L) (fun _=>yh zbB (zbD xA L) L cf_codec_read_uint32):=xv zaZ fun z=>xv zbN fun A=>xv zbN fun C=>yK fun _ k=>zH0 xA L z A C k
def zJG:Hint:=⟨[],[],[none],[],[],false,false,[]⟩
def zPO:CF:=cfD zJG 58
def zEH:Nat→Sh:=zj []
def zEE(y9:zgc)(L:Nat):CBC:=(xe 197 (znE y9 L) noC)
def zH3{β:Type}(y9:zgc)(L:Nat)(A:Ls)(C:Int)(z:Int→Int→Int→Ob β):Ob β:=y9 β L A C (4:Int) (fun D E F=>z D E F)
theorem zYE{β:Type}(y9:zgc)(L:Nat)(D:Ls)(E:Int)(k:KK β):yh zEH (zEE y9 L) L zPO [(V.sl 1 D),(Qe E)] [] k=zH3 y9 L D E (fun z A C=>k (V.tup [(Qc z),(Qe A),(Qe C)]) []):=by kernel_rfl
abbrev zrM:=∀ (β:Type),Nat→Ls→Int→(Int→Int→Int→Ob β)→Ob β
def za0:zrM:=fun β=>@zH3 β y9
def zIM(za0:zrM)(L:Nat):Dk:=dA (AL 1) fun D=>dA (AI .i64) fun E=>d0 fun β k=>za0 β L D E (fun z A C=>k (V.tup [(Qc z),(Qe A),(Qe C)]) [])
theorem zX9(L:Nat):DK (zIM za0 L) (fun _=>yh zEH (zEE y9 L) L zPO):=xv zaZ fun z=>xv zbN fun A=>yK fun _ k=>zYE y9 L z A k
def zGs:Hint:=⟨[(5,1)],[],[none,none,none],[],[],false,false,[]⟩
def zNT:CF:=cfD zGs 59
def zz6:Nat→Sh:=zj []
def zAp(xA:zby)(L:Nat):CBC:=(xe 198 (zt4 xA L) noC)
def zC7{β:Type}(xA:zby)(L:Nat)(C:Ls)(z:Int)(A:List V→Int→Int→Ob β):Ob β:=xA β L C z (32:Int) (fun E=>ifb ((E:Int) != (0:Int)) (lt (We 32 (Qa (0:Int))) fun F=>chk (0=0∧(XK F)=32∧32≠0) (A F (0:Int) E)) (chk (0≤z∧z≤(((XK C):Nat):Int)) (lt (zk (We 32 (Qa (0:Int))) 0 (List.flatten (XL (min (XK (XL ((XK C)-(XM z)) (XO (XM z) C))) 32) (XL ((XK C)-(XM z)) (XO (XM z) C))))) fun D=>chk (0+32≤(XK D)) (lt (QG .i64 ((z:Int)+(32:Int))) fun H=>chk ((XK (XL 32 D))=32∧0+32≤32) (lt (zk (We 32 (Qa (0:Int))) 0 (XL 32 D)) fun G=>chk (0=0∧(XK G)=32∧32≠0) (A G H (0:Int)))))))
theorem zUt{β:Type}(xA:zby)(L:Nat)(D:Ls)(E:Int)(k:KK β):yh zz6 (zAp xA L) L zNT [(V.sl 1 D),(Qe E)] [] k=zC7 xA L D E (fun z A C=>k (V.tup [(V.agg z),(Qe A),(Qe C)]) []):=by kernel_rfl
abbrev zpl:=∀ (β:Type),Nat→Ls→Int→(List V→Int→Int→Ob β)→Ob β
def za6:zpl:=fun β=>@zC7 β xA
def zDp(za6:zpl)(L:Nat):Dk:=dA (AL 1) fun D=>dA (AI .i64) fun E=>d0 fun β k=>za6 β L D E (fun z A C=>k (V.tup [(V.agg z),(Qe A),(Qe C)]) [])
theorem zVc(L:Nat):DK (zDp za6 L) (fun _=>yh zz6 (zAp xA L) L zNT):=xv zaZ fun z=>xv zbN fun A=>yK fun _ k=>zUt xA L z A k
def zqm:Hint:=⟨[(5,3),(6,3),(7,3),(8,3),(9,3),(10,3)],[],[none,none,none],[],[],false,false,[]⟩
def ztN:CF:=cfD zqm 26
def zk7:Nat→Sh:=zj []
def zlm(za0:zrM)(za6:zpl)(L:Nat):CBC:=(xe 172 (zDp za6 L) (xe 170 (zIM za0 L) noC))
def zl6{β:Type}(za0:zrM)(za6:zpl)(L:Nat)(z:Ls)(A:List V→Int→Ob β):Ob β:=ifb ((((XK z:Nat):Int):Int) != (80:Int)) (lt ([(Qc (0:Int))]++We 64 (Qa (0:Int))++[(Qc (0:Int)),(Qc (0:Int)),(Qc (0:Int))]) fun H=>chk (0=0∧(XK H)=68∧68≠0) (A H (8:Int))) (za0 β L z (0:Int) (fun U W v3=>lt ([(Qc U)]++We 64 (Qa (0:Int))++[(Qc (0:Int)),(Qc (0:Int)),(Qc (0:Int))]) fun I=>za6 β L z W (fun J X v7=>chk ((XK J)=32∧1+32≤(XK I)) (lt (zk I 1 J) fun M=>za6 β L z X (fun N O Y=>chk ((XK N)=32∧33+32≤(XK M)) (lt (zk M 33 N) fun D=>za0 β L z O (fun P Q Z=>chk (1=1∧65+1≤(XK D)) (lt (zk D 65 [(Qc P)]) fun E=>za0 β L z Q (fun R S aa=>chk (1=1∧66+1≤(XK E)) (lt (zk E 66 [(Qc R)]) fun F=>za0 β L z S (fun T ab ac=>chk (1=1∧67+1≤(XK F)) (lt (zk F 67 [(Qc T)]) fun C=>chk (0+68≤(XK C)) (chk ((XK (XL 68 C))=68∧0+68≤68) (lt (zk ([(Qc (0:Int))]++We 64 (Qa (0:Int))++[(Qc (0:Int)),(Qc (0:Int)),(Qc (0:Int))]) 0 (XL 68 C)) fun G=>chk (0=0∧(XK G)=68∧68≠0) (A G (0:Int))))))))))))))))
theorem zFd{β:Type}(za0:zrM)(za6:zpl)(L:Nat)(C:Ls)(k:KK β):yh zk7 (zlm za0 za6 L) L ztN [(V.sl 1 C)] [] k=zl6 za0 za6 L C (fun z A=>k (V.tup [(V.agg z),(Qe A)]) []):=by kernel_rfl
abbrev zfE:=∀ (β:Type),Nat→Ls→(List V→Int→Ob β)→Ob β
def zM:zfE:=fun β=>@zl6 β za0 za6
def zmF(zM:zfE)(L:Nat):Dk:=dA (AL 1) fun C=>d0 fun β k=>zM β L C (fun z A=>k (V.tup [(V.agg z),(Qe A)]) [])
theorem zFc(L:Nat):DK (zmF zM L) (fun _=>yh zk7 (zlm za0 za6 L) L ztN):=xv zaZ fun z=>yK fun _ k=>zFd za0 za6 L z k
def zB0:Hint:=⟨[],[],[none,none,none,none,none,some ((bl 1543 45),(bl 35184372088831 45)),none,some ((bl 518 45),(bl 35184372087807 45)),none,none],[],[],false,false,[]⟩
def cf_ref01_number:CF:=cfD zB0 119
def zkD:CC:=yz [1,1,1,1,0,1,0,0] cf_ref01_number.body
def zw1:CC:=yz [1,1,1,1,1] cf_ref01_number.body
def zc9:Nat→Sh:=zj [(38,(.int .u8))]
def zdg(L:Nat):CBC:=noC
def zlM:St→St:=yM 0 (bl 1543 45) (bl 35184372088831 45)
def zfB(A:Ls)(C D E z:Int):St:=⟨((V.sl 1 A)::((Qe C)::((Qe D)::(jn 6 ((Qd E)::((Qe z)::(jn 34 []))))))),(gn 45 [])⟩
def zpq(z A C:Int):St:=⟨(jn 1 ((Qe z)::((Qe A)::(jn 6 ((Qd C)::(jn 35 [])))))),(gn 45 [])⟩
def zxy{β:Type}(L:Nat)(D:Ls)(C E:Int)(z:Int→Int→Int→Ob β)(A:Ls→Int→Int→Int→Int→Ob β):Ob β:=ifb (decide (C<(0:Int))) (z (0:Int) (0:Int) (5:Int)) (ifb (decide (C>((XK D:Nat):Int))) (z (0:Int) (0:Int) (5:Int)) (lt (QG .i64 ((((XK D:Nat):Int):Int)-C)) fun F=>ifb (decide (F<E)) (z (0:Int) (0:Int) (1:Int)) (lt (QG .i64 ((E:Int)-(1:Int))) fun G=>A D C E (0:Int) G)))
theorem zRn{β:Type}(L:Nat)(z:Ls)(A C:Int)(k:KK β):yh zc9 (zdg L) L cf_ref01_number [(V.sl 1 z),(Qe A),(Qe C)] [] k=zxy L z A C (fun D E F=>k (V.tup [(Qd D),(Qe E),(Qe F)]) []) (fun z A C H G=>zx (ze zc9 (zdg L) 0 L zkD) zlM L (zfB z A C H G) (xi 0 (yv (ze zc9 (zdg L) 0 L zw1) (zD 0 (CF.res cf_ref01_number) k)))):=by kernel_rfl
def zhg{β:Type}(L:Nat)(E:Ls)(C F G A:Int)(z:Ls→Int→Int→Int→Int→Ob β)(D:Int→Int→Int→Ob β):Ob β:=ifb (decide (A≥(0:Int))) (lt (zgr .u64 G (8:Int)) fun H=>lt (QG .i64 ((C:Int)+A)) fun I=>idx E I fun J=>cI .u8 J 0 fun M=>lt (QG .u64 M) fun N=>lt (ior .u64 H N) fun O=>lt (QG .i64 ((A:Int)-(1:Int))) fun P=>z E C F O P) (D C F G)
theorem zE6{β:Type}(L:Nat)(E:Ls)(A C D z:Int)(X:St→Ob β)(K:KT β):ze zc9 (zdg L) 0 L zkD (zfB E A C D z) (yH zlM X K)=zhg L E A C D z (fun E A C D z=>X (zfB E A C D z)) (fun A C D=>K (.exit 0) (zpq A C D)):=by kernel_rfl
def zf8{β:Type}(L:Nat)(A C D:Int)(z:Int→Int→Int→Ob β):Ob β:=lt (QG .i64 ((A:Int)+C)) fun E=>z D E (0:Int)
theorem zAG{β:Type}(L:Nat)(D E F:Int)(k:KK β):(xi 0 (yv (ze zc9 (zdg L) 0 L zw1) (zD 0 (CF.res cf_ref01_number) k))) (.exit 0) (zpq D E F)=zf8 L D E F (fun z A C=>k (V.tup [(Qd z),(Qe A),(Qe C)]) []):=by kernel_rfl
def zdv{β:Type}(L:Nat)(z:Int→Int→Int→Ob β):Nat→Ls→Int→Int→Int→Int→Ob β
 | 0,_,_,_,_,_=>none
 | n+1,C,D,E,F,A=>zhg L C D E F A (fun C D E F A=>zdv L z n C D E F A) z
theorem zpU{β:Type}(L:Nat)(K:KT β):∀ (n:Nat) (E:Ls) (z A C D:Int),zx (ze zc9 (zdg L) 0 L zkD) zlM n (zfB E z A C D) K=zdv L (fun z A C=>K (.exit 0) (zpq z A C)) n E z A C D:=by
 intro n; induction n <;> intros
 ·rfl
 ·exact (zE6 ..).trans (by simp only [*]; rfl)
def zqh{β:Type}(L:Nat)(D:Ls)(A C:Int)(z:Int→Int→Int→Ob β):Ob β:=zxy L D A C z (fun D A C E F=>zdv L (fun A C E=>zf8 L A C E z) L D A C E F)
theorem zRu{β:Type}(L:Nat)(z:Ls)(A C:Int)(k:KK β):yh zc9 (zdg L) L cf_ref01_number [(V.sl 1 z),(Qe A),(Qe C)] [] k=zqh L z A C (fun D E F=>k (V.tup [(Qd D),(Qe E),(Qe F)]) []):=by
 refine (zRn L z A C k).trans ?_
 unfold zqh
 first
  | (simp only [zpU,zAG]; done)
  | (simp only [zpU]; rfl)
abbrev zk8:=∀ (β:Type),Nat→Ls→Int→Int→(Int→Int→Int→Ob β)→Ob β
def zaM:zk8:=fun β=>@zqh β
def zxl(zaM:zk8)(L:Nat):Dk:=dA (AL 1) fun D=>dA (AI .i64) fun E=>dA (AI .i64) fun F=>d0 fun β k=>zaM β L D E F (fun z A C=>k (V.tup [(Qd z),(Qe A),(Qe C)]) [])
theorem zRl(L:Nat):DK (zxl zaM L) (fun _=>yh zc9 (zdg L) L cf_ref01_number):=xv zaZ fun z=>xv zbN fun A=>xv zbN fun C=>yK fun _ k=>zRu L z A C k
def zJm:Hint:=⟨[(1,3)],[],[none],[],[],false,false,[]⟩
def zOA:CF:=cfD zJm 101
def zCK:Nat→Sh:=zj []
def zC9(zaM:zk8)(L:Nat):CBC:=(xe 209 (zxl zaM L) noC)
def zIJ{β:Type}(zaM:zk8)(L:Nat)(A:Ls)(C:Int)(z:Int→Int→Int→Ob β):Ob β:=zaM β L A C (4:Int) (fun D E F=>lt (QG .u32 D) fun G=>z G E F)
theorem zYm{β:Type}(zaM:zk8)(L:Nat)(D:Ls)(E:Int)(k:KK β):yh zCK (zC9 zaM L) L zOA [(V.sl 1 D),(Qe E)] [] k=zIJ zaM L D E (fun z A C=>k (V.tup [(Qc z),(Qe A),(Qe C)]) []):=by kernel_rfl
abbrev zrX:=∀ (β:Type),Nat→Ls→Int→(Int→Int→Int→Ob β)→Ob β
def za1:zrX:=fun β=>@zIJ β zaM
def zHV(za1:zrX)(L:Nat):Dk:=dA (AL 1) fun D=>dA (AI .i64) fun E=>d0 fun β k=>za1 β L D E (fun z A C=>k (V.tup [(Qc z),(Qe A),(Qe C)]) [])
theorem zYw(L:Nat):DK (zHV za1 L) (fun _=>yh zCK (zC9 zaM L) L zOA):=xv zaZ fun z=>xv zbN fun A=>yK fun _ k=>zYm zaM L z A k
def zHJ:Hint:=⟨[(6,1)],[],[none,none,none,none,none],[],[],false,false,[]⟩
def zNZ:CF:=cfD zHJ 102
def zAm:Nat→Sh:=zj []
def zzT(L:Nat):CBC:=noC
def zC5{β:Type}(L:Nat)(C:Ls)(A:Int)(z:List V→Int→Int→Ob β):Ob β:=ifb (decide (A<(0:Int))) (lt (We 32 (Qa (0:Int))) fun E=>chk (0=0∧(XK E)=32∧32≠0) (z E (0:Int) (5:Int))) (ifb (decide (A>((XK C:Nat):Int))) (lt (We 32 (Qa (0:Int))) fun F=>chk (0=0∧(XK F)=32∧32≠0) (z F (0:Int) (5:Int))) (lt (QG .i64 ((((XK C:Nat):Int):Int)-A)) fun I=>ifb (decide (I<(32:Int))) (lt (We 32 (Qa (0:Int))) fun G=>chk (0=0∧(XK G)=32∧32≠0) (z G (0:Int) (1:Int))) (chk (0≤A∧A≤(((XK C):Nat):Int)) (lt (zk (We 32 (Qa (0:Int))) 0 (List.flatten (XL (min (XK (XL ((XK C)-(XM A)) (XO (XM A) C))) 32) (XL ((XK C)-(XM A)) (XO (XM A) C))))) fun D=>chk (0+32≤(XK D)) (lt (QG .i64 ((A:Int)+(32:Int))) fun J=>chk ((XK (XL 32 D))=32∧0+32≤32) (lt (zk (We 32 (Qa (0:Int))) 0 (XL 32 D)) fun H=>chk (0=0∧(XK H)=32∧32≠0) (z H J (0:Int))))))))
theorem zVY{β:Type}(L:Nat)(D:Ls)(E:Int)(k:KK β):yh zAm (zzT L) L zNZ [(V.sl 1 D),(Qe E)] [] k=zC5 L D E (fun z A C=>k (V.tup [(V.agg z),(Qe A),(Qe C)]) []):=by kernel_rfl
abbrev zps:=∀ (β:Type),Nat→Ls→Int→(List V→Int→Int→Ob β)→Ob β
def za7:zps:=fun β=>@zC5 β
def zDt(za7:zps)(L:Nat):Dk:=dA (AL 1) fun D=>dA (AI .i64) fun E=>d0 fun β k=>za7 β L D E (fun z A C=>k (V.tup [(V.agg z),(Qe A),(Qe C)]) [])
theorem zVJ(L:Nat):DK (zDt za7 L) (fun _=>yh zAm (zzT L) L zNZ):=xv zaZ fun z=>xv zbN fun A=>yK fun _ k=>zVY L z A k
def zBu:Hint:=⟨[(2,2),(3,2),(4,2),(5,2),(6,2),(7,2)],[],[none],[],[],false,false,[]⟩
def zGm:CF:=cfD zBu 60
def zt8:Nat→Sh:=zj []
def zv1(za1:zrX)(za7:zps)(L:Nat):CBC:=(xe 202 (zDt za7 L) (xe 200 (zHV za1 L) noC))
def zxk{β:Type}(za1:zrX)(za7:zps)(L:Nat)(z:Ls)(C:List V→Ob β):Ob β:=za1 β L z (0:Int) (fun Q Z v2=>lt ([(Qc Q)]++We 64 (Qa (0:Int))++[(Qc (0:Int)),(Qc (0:Int)),(Qc (0:Int))]) fun H=>za7 β L z (4:Int) (fun I v5 v6=>chk ((XK I)=32∧1+32≤(XK H)) (lt (zk H 1 I) fun J=>za7 β L z (36:Int) (fun M v9 R=>chk ((XK M)=32∧33+32≤(XK J)) (lt (zk J 33 M) fun D=>za1 β L z (68:Int) (fun N S T=>chk (1=1∧65+1≤(XK D)) (lt (zk D 65 [(Qc N)]) fun E=>za1 β L z (72:Int) (fun O U W=>chk (1=1∧66+1≤(XK E)) (lt (zk E 66 [(Qc O)]) fun F=>za1 β L z (76:Int) (fun P X Y=>chk (1=1∧67+1≤(XK F)) (lt (zk F 67 [(Qc P)]) fun A=>chk (0+68≤(XK A)) (chk ((XK (XL 68 A))=68∧0+68≤68) (lt (zk ([(Qc (0:Int))]++We 64 (Qa (0:Int))++[(Qc (0:Int)),(Qc (0:Int)),(Qc (0:Int))]) 0 (XL 68 A)) fun G=>chk (0=0∧(XK G)=68∧68≠0) (C G))))))))))))))
theorem zR7{β:Type}(za1:zrX)(za7:zps)(L:Nat)(z:Ls)(k:KK β):yh zt8 (zv1 za1 za7 L) L zGm [(V.sl 1 z)] [] k=zxk za1 za7 L z (fun z=>k (V.agg z) []):=by kernel_rfl
abbrev zlq:=∀ (β:Type),Nat→Ls→(List V→Ob β)→Ob β
def zaO:zlq:=fun β=>@zxk β za1 za7
def zx9(zaO:zlq)(L:Nat):Dk:=dA (AL 1) fun z=>d0 fun β k=>zaO β L z (fun z=>k (V.agg z) [])
theorem zRK(L:Nat):DK (zx9 zaO L) (fun _=>yh zt8 (zv1 za1 za7 L) L zGm):=xv zaZ fun z=>yK fun _ k=>zR7 za1 za7 L z k
def zqp:Hint:=⟨[],[],[none,none,none],[],[],false,false,[]⟩
def ztX:CF:=cfD zqp 27
def zlB:Nat→Sh:=zj []
def zlu(zaO:zlq)(L:Nat):CBC:=(xe 676 (zx9 zaO L) noC)
def zl3{β:Type}(zaO:zlq)(L:Nat)(A:Ls)(z:List V→Int→Ob β):Ob β:=ifb ((((XK A:Nat):Int):Int) != (80:Int)) (lt ([(Qc (0:Int))]++We 64 (Qa (0:Int))++[(Qc (0:Int)),(Qc (0:Int)),(Qc (0:Int))]) fun C=>chk (0=0∧(XK C)=68∧68≠0) (z C (8:Int))) (zaO β L A (fun D=>chk ((XK D)=68∧0+68≤68) (lt (zk ([(Qc (0:Int))]++We 64 (Qa (0:Int))++[(Qc (0:Int)),(Qc (0:Int)),(Qc (0:Int))]) 0 D) fun E=>chk (0=0∧(XK E)=68∧68≠0) (z E (0:Int)))))
theorem zFl{β:Type}(zaO:zlq)(L:Nat)(C:Ls)(k:KK β):yh zlB (zlu zaO L) L ztX [(V.sl 1 C)] [] k=zl3 zaO L C (fun z A=>k (V.tup [(V.agg z),(Qe A)]) []):=by kernel_rfl
abbrev zfn:=∀ (β:Type),Nat→Ls→(List V→Int→Ob β)→Ob β
def zT:zfn:=fun β=>@zl3 β zaO
def zl0(zT:zfn)(L:Nat):Dk:=dA (AL 1) fun C=>d0 fun β k=>zT β L C (fun z A=>k (V.tup [(V.agg z),(Qe A)]) [])
theorem zFq(L:Nat):DK (zl0 zT L) (fun _=>yh zlB (zlu zaO L) L ztX):=xv zaZ fun z=>yK fun _ k=>zFl zaO L z k
def zGi:Hint:=⟨[],[],[none],[],[],false,false,[]⟩
def zNt:CF:=cfD zGi 29
def zAQ:Nat→Sh:=zj []
def zAN(zg:zO)(xX:zg4)(L:Nat):CBC:=(xe 501 (zoU xX L) (xe 502 (zd0 zg L) noC))
def zE7{β:Type}(zg:zO)(xX:zg4)(L:Nat)(A:List V)(z:List V→Ob β):Ob β:=chk (0+68≤(XK A)) (zg β L (XL 68 A) (fun E=>xX β L E (fun C=>chk ((XK C)=32∧0+32≤32) (lt (zk (We 32 (Qa (0:Int))) 0 C) fun D=>chk (0=0∧(XK D)=32∧32≠0) (z D)))))
theorem zWP{β:Type}(zg:zO)(xX:zg4)(L:Nat)(z:List V)(k:KK β):yh zAQ (zAN zg xX L) L zNt [(V.agg z)] [] k=zE7 zg xX L z (fun z=>k (V.agg z) []):=by kernel_rfl
abbrev zpj:=∀ (β:Type),Nat→List V→(List V→Ob β)→Ob β
def za5:zpj:=fun β=>@zE7 β zg xX
def zED(za5:zpj)(L:Nat):Dk:=dA AG fun z=>d0 fun β k=>za5 β L z (fun z=>k (V.agg z) [])
theorem zUM(L:Nat):DK (zED za5 L) (fun _=>yh zAQ (zAN zg xX L) L zNt):=xv zak fun z=>yK fun _ k=>zWP zg xX L z k
def zqo:Hint:=⟨[(5,2),(6,2),(7,3)],[],[none,none,none,none,none],[],[],false,false,[]⟩
def ztJ:CF:=cfD zqo 7
def zk6:Nat→Sh:=zj []
def zlz(yR:zes)(zM:zfE)(zT:zfn)(zg:zO)(za5:zpj)(za4:zo9)(xh:xS)(zW:zha)(L:Nat):CBC:=(xe 130 (zo6 zW L) (xe 455 (zdY xh L) (xe 429 (zEW za4 L) (xe 461 (zED za5 L) (xe 502 (zd0 zg L) (xe 674 (zl0 zT L) (xe 503 (zmF zM L) (xe 669 (zpx yR L) noC))))))))
def zmq{β:Type}(yR:zes)(zM:zfE)(zT:zfn)(zg:zO)(za5:zpj)(za4:zo9)(xh:xS)(zW:zha)(L:Nat)(A:List V)(C:Ls)(z:Bool→Ob β):Ob β:=yR β L  (ifb (decide (((XK C:Nat):Int)>(200:Int))) (z true) (zM β L C (fun D T=>chk ((XK D)=68∧0+68≤68) (lt (zk ([(Qc (0:Int))]++We 64 (Qa (0:Int))++[(Qc (0:Int)),(Qc (0:Int)),(Qc (0:Int))]) 0 D) fun E=>zT β L C (fun F U=>chk ((XK F)=68∧0+68≤68) (lt (zk ([(Qc (0:Int))]++We 64 (Qa (0:Int))++[(Qc (0:Int)),(Qc (0:Int)),(Qc (0:Int))]) 0 F) fun G=>chk (0+68≤(XK A)) (zg β L (XL 68 A) (fun W=>zM β L W (fun H X=>chk ((XK H)=68∧0+68≤68) (lt (zk ([(Qc (0:Int))]++We 64 (Qa (0:Int))++[(Qc (0:Int)),(Qc (0:Int)),(Qc (0:Int))]) 0 H) fun I=>chk (0+68≤(XK E)) (chk (0+68≤(XK G)) (eqC 68 (XL 68 E) (XL 68 G) fun J=>ifb J (ifb ((T:Int)==U) (chk (0+68≤(XK I)) (chk (0+68≤(XK A)) (eqC 68 (XL 68 I) (XL 68 A) fun M=>ifb M (ifb ((X:Int)==(0:Int)) (chk (0+68≤(XK A)) (za5 β L (XL 68 A) (fun N=>chk (0+68≤(XK A)) (za4 β L (XL 68 A) (fun O=>eqC 32 N O fun P=>ifb P (chk (0+68≤(XK A)) (zg β L (XL 68 A) (fun Q=>chk (0+68≤(XK A)) (xh β L (XL 68 A) (fun R=>zW β L Q R (fun S=>z S)))))) (z false)))))) (z false)) (z false)))) (z false)) (z false)))))))))))))
theorem zFr{β:Type}(yR:zes)(zM:zfE)(zT:zfn)(zg:zO)(za5:zpj)(za4:zo9)(xh:xS)(zW:zha)(L:Nat)(z:List V)(A:Ls)(k:KK β):yh zk6 (zlz yR zM zT zg za5 za4 xh zW L) L ztJ [(V.agg z),(V.sl 1 A)] [] k=zmq yR zM zT zg za5 za4 xh zW L z A (fun z=>k (V.sc (.bool z)) []):=by kernel_rfl
abbrev zvp:=∀ (β:Type),Nat→List V→Ls→(Bool→Ob β)→Ob β
def zb8:zvp:=fun β=>@zmq β yR zM zT zg za5 za4 xh zW
def zmz(zb8:zvp)(L:Nat):Dk:=dA AG fun z=>dA (AL 1) fun A=>d0 fun β k=>zb8 β L z A (fun z=>k (V.sc (.bool z)) [])
theorem zFn(L:Nat):DK (zmz zb8 L) (fun _=>yh zk6 (zlz yR zM zT zg za5 za4 xh zW L) L ztJ):=xv zak fun z=>xv zaZ fun A=>yK fun _ k=>zFr yR zM zT zg za5 za4 xh zW L z A k
theorem zdG{P:Program}{ren:Rn}{fg:List (Nat × Nat)}{l m:List (Nat × Nat × Hint)}(z:zgP P ren fg l=true)(A:zgP P ren fg m=true):zgP P ren fg (l++m)=true:=by
 unfold zgP at *
 rw [List.all_append,z,A]; rfl
def rh0:List (Nat × Nat × Hint):=[(73,145,zF5),(35,127,zOZ),(12,670,zGM),(106,194,zA7),(105,193,zBD),(64,159,zuV),(79,185,ztI),(65,160,ztu),(95,138,zDL),(153,206,zuN),(97,187,zrZ),(96,186,zK9)]
theorem ybh:zgP Tryz.prog (zcK fg gls) fg rh0=true:=by kernel_rfl
def rh1:List (Nat × Nat × Hint):=[(55,149,zBh),(53,148,zF7),(150,531,zJ7),(151,532,zyL),(192,572,zlY),(178,571,zHl),(176,569,zwX),(177,570,zu6),(152,533,zw0),(94,494,zKs),(54,454,zBA),(22,519,zFN)]
theorem ybp:zgP Tryz.prog (zcK fg gls) fg rh1=true:=by kernel_rfl
def rh2:List (Nat × Nat × Hint):=[(98,453,zG2),(57,588,zHD),(56,555,zBd),(42,520,zG9),(17,474,zG7),(103,192,zBY),(74,191,zBM),(61,157,zvI),(62,158,ztA),(28,502,zqw),(75,205,zuh),(76,183,zwm)]
theorem yaX:zgP Tryz.prog (zcK fg gls) fg rh2=true:=by kernel_rfl
def rh3:List (Nat × Nat × Hint):=[(36,182,ztB),(126,137,zNM),(127,184,zrH),(78,147,zJo),(77,146,zOW),(37,128,zJK),(13,577,zBQ),(83,188,zPa),(43,151,zE3),(84,150,zNe),(44,131,zMY),(155,497,zQc)]
theorem ybS:zgP Tryz.prog (zcK fg gls) fg rh3=true:=by kernel_rfl
def rh4:List (Nat × Nat × Hint):=[(154,496,zPm),(180,535,zNl),(179,534,zBe),(156,498,zBq),(104,458,zPy),(63,501,zF0),(81,583,zJ3),(85,548,zUl),(45,578,zDx),(40,596,zPR),(128,617,zDq),(82,608,zzK)]
theorem ybk:zgP Tryz.prog (zcK fg gls) fg rh4=true:=by kernel_rfl
def rh5:List (Nat × Nat × Hint):=[(41,597,zEB),(16,579,zHC),(18,542,zCN),(31,455,zqk),(80,129,zBl),(39,488,zBW),(38,449,zF2),(86,152,zGj),(46,153,zwO),(47,132,zEF),(25,517,zM0),(48,556,zEC)]
theorem ybX:zgP Tryz.prog (zcK fg gls) fg rh5=true:=by kernel_rfl
def rh6:List (Nat × Nat × Hint):=[(49,557,zyW),(50,558,zEZ),(19,522,zEc),(187,562,zwS),(174,552,zJZ),(147,513,zLq),(175,553,zGk),(190,565,zJD),(198,593,zKa),(191,566,zJ1),(171,527,zBL),(173,529,zuP)]
theorem ybi:zgP Tryz.prog (zcK fg gls) fg rh6=true:=by kernel_rfl
def rh7:List (Nat × Nat × Hint):=[(172,528,zLn),(144,485,zE5),(149,515,zD8),(183,136,zzc),(164,521,zDQ),(165,134,zEG),(15,130,zGy),(30,429,zGO),(148,514,zJW),(91,467,zE0),(92,468,zDW),(93,469,zCS)]
theorem ybj:zgP Tryz.prog (zcK fg gls) fg rh7=true:=by kernel_rfl
def rh8:List (Nat × Nat × Hint):=[(52,442,zGu),(182,554,zMX),(132,448,zDA),(162,516,zFM),(129,470,zr6),(131,472,zzl),(163,518,zJt),(130,471,zy3),(134,475,zBP),(196,117,zvF),(186,561,zKQ),(199,594,zKq)]
theorem ya9:zgP Tryz.prog (zcK fg gls) fg rh8=true:=by kernel_rfl
def rh9:List (Nat × Nat × Hint):=[(188,563,zJp),(189,564,zy4),(170,526,zBX),(143,484,zHi),(145,486,zA8),(133,473,zKN),(87,443,zF3),(135,476,zCO),(139,480,zFR),(166,441,zwU),(136,477,zD3),(167,523,zJ6)]
theorem ybt:zgP Tryz.prog (zcK fg gls) fg rh9=true:=by kernel_rfl
def ya2:List (Nat × Nat × Hint):=[(193,589,zBE),(184,559,zyG),(216,618,zEl),(209,610,zKL),(200,599,zEf),(201,600,zBs),(202,601,zGl),(203,602,zBK),(204,603,zBz),(205,604,zDO),(206,605,zCU),(195,591,zHq)]
theorem z94:zgP Tryz.prog (zcK fg gls) fg ya2=true:=by kernel_rfl
def yaW:List (Nat × Nat × Hint):=[(210,611,zA4),(212,613,zHz),(211,612,zCT),(228,630,zyJ),(223,625,zEa),(234,636,zBO),(230,632,zBa),(231,633,zBn),(226,628,zLj),(229,631,zLl),(221,623,zBI),(217,619,zEi)]
theorem yaG:zgP Tryz.prog (zcK fg gls) fg yaW=true:=by kernel_rfl
def ybL:List (Nat × Nat × Hint):=[(222,624,zDD),(218,620,zA5),(225,627,zCP),(224,626,zKR),(236,638,zEo),(233,635,zBp),(237,639,zBt),(235,637,zvB),(232,634,zBV),(227,629,zvn),(219,621,zB3),(213,614,zBv)]
theorem z9J:zgP Tryz.prog (zcK fg gls) fg ybL=true:=by kernel_rfl
def ybs:List (Nat × Nat × Hint):=[(214,615,zDF),(220,622,zBm),(215,616,zA9),(207,606,zHg),(194,590,zJV),(185,560,zwg),(168,524,zDl),(137,478,zEA),(138,479,zzj),(142,483,zyU),(169,525,zGY),(140,481,zKI)]
theorem z90:zgP Tryz.prog (zcK fg gls) fg ybs=true:=by kernel_rfl
def ybe:List (Nat × Nat × Hint):=[(141,482,zDj),(88,444,zyI),(146,487,zGo),(90,446,zyM),(89,445,zDm),(51,424,zK2),(20,422,zGC),(11,669,zGa),(4,662,zrA),(14,456,zBN),(3,661,zqA),(100,198,zGf)]
theorem yan:zgP Tryz.prog (zcK fg gls) fg ybe=true:=by kernel_rfl
def ybv:List (Nat × Nat × Hint):=[(99,197,zrD),(58,170,zJG),(59,172,zGs),(26,503,zqm),(119,209,zB0),(101,200,zJm),(102,202,zHJ),(60,676,zBu),(27,674,zqp),(29,461,zGi),(7,665,zqo)]
theorem z9Q:zgP Tryz.prog (zcK fg gls) fg ybv=true:=by kernel_rfl
noncomputable def rows:List Row:=z9v Tryz.prog (zcK fg gls) (rh0++(rh1++(rh2++(rh3++(rh4++(rh5++(rh6++(rh7++(rh8++(rh9++(ya2++(yaW++(ybL++(ybs++(ybe++(ybv))))))))))))))))
theorem yaw:∀ r∈rows,(r.f,r.g)∈fg∧zgv Tryz.prog r.f=true∧zIm Tryz.prog (zcK fg gls) r.h r.f=some r.c:=z80 (zdG ybh (zdG ybp (zdG yaX (zdG ybS (zdG ybk (zdG ybX (zdG ybi (zdG ybj (zdG ya9 (zdG ybt (zdG z94 (zdG yaG (zdG z9J (zdG z90 (zdG yan (z9Q))))))))))))))))
theorem yco:Tryz.prog.follows .mixedOrders=true:=by kernel_rfl
theorem yb4:z82 fg=true:=by kernel_rfl
theorem ycq:zku Tryz.prog (zcK fg gls) zPS:=z99 (yaH (by kernel_rfl)) (yaV (by kernel_rfl))
theorem z9y(L d:Nat):zku Tryz.prog (zcK fg gls) (zCV (evF (zm rows) zPS L d)):=yac yco yb4 ycq yaw L d
theorem zXz(L:Nat):FOk (zm rows) L 145 (zD5 xo L) 1:=xj (D:=0) (by kernel_rfl) fun m hm=>⟨zdT,zdR L,yj,zVX L⟩
theorem z3g(L:Nat):FOk (zm rows) L 127 (zOG yO L) 2:=xj (D:=1) (by kernel_rfl) fun m hm=>⟨zb4,zb3 xo L,(xb yj (zXz L m (by omega))),z2M L⟩
theorem zXU(L:Nat):FOk (zm rows) L 670 (zvG zav L) 3:=xj (D:=2) (by kernel_rfl) fun m hm=>⟨zdW,zdP yO L,(xb yj (z3g L m (by omega))),zUD L⟩
theorem zs3(L:Nat):FOk (zm rows) L 194 (zln xy L) 1:=xj (D:=0) (by kernel_rfl) fun m hm=>⟨zdj,zdo L,yj,zRa L⟩
theorem zgu(L:Nat):FOk (zm rows) L 193 (zeS yg L) 1:=xj (D:=0) (by kernel_rfl) fun m hm=>⟨zur,zuD L,yj,zR3 L⟩
theorem zi2(L:Nat):FOk (zm rows) L 159 (zfN xa L) 2:=xj (D:=1) (by kernel_rfl) fun m hm=>⟨zoH,zov xy yg L,(xb (xb yj (zs3 L m (by omega))) (zgu L m (by omega))),zLK L⟩
theorem zmN(L:Nat):FOk (zm rows) L 185 (zgX ya L) 2:=xj (D:=1) (by kernel_rfl) fun m hm=>⟨znO,zn4 xy yg L,(xb (xb yj (zs3 L m (by omega))) (zgu L m (by omega))),zKD L⟩
theorem zmM(L:Nat):FOk (zm rows) L 160 (zg1 zn L) 2:=xj (D:=1) (by kernel_rfl) fun m hm=>⟨znW,znR yg L,(xb yj (zgu L m (by omega))),zKU L⟩
theorem zGg(L:Nat):FOk (zm rows) L 138 (zsD zf L) 3:=xj (D:=2) (by kernel_rfl) fun m hm=>⟨zxf,zyc zn xa L,(xb (xb yj (zmM L m (by omega))) (zi2 L m (by omega))),zTq L⟩
theorem zOt(L:Nat):FOk (zm rows) L 206 (zrt zaf L) 2:=xj (D:=1) (by kernel_rfl) fun m hm=>⟨zph,zpm xy yg L,(xb (xb yj (zs3 L m (by omega))) (zgu L m (by omega))),zMy L⟩
theorem ztR(L:Nat):FOk (zm rows) L 187 (zjg zc L) 3:=xj (D:=2) (by kernel_rfl) fun m hm=>⟨zl1,zmA ya yg L,(xb (xb yj (zmN L m (by omega))) (zgu L m (by omega))),zIz L⟩
theorem zNs(L:Nat):FOk (zm rows) L 186 (zyp zi L) 4:=xj (D:=3) (by kernel_rfl) fun m hm=>⟨zD6,zDw zaf zc L,(xb (xb yj (zOt L m (by omega))) (ztR L m (by omega))),zXn L⟩
theorem ziY(L:Nat):FOk (zm rows) L 149 (zeR yd L) 5:=xj (D:=4) (by kernel_rfl) fun m hm=>⟨zQ,xP xa ya zf zi zc L,(xb (xb (xb (xb (xb yj (zi2 L m (by omega))) (zmN L m (by omega))) (zGg L m (by omega))) (zNs L m (by omega))) (ztR L m (by omega))),zRX L⟩
theorem zgt(L:Nat):FOk (zm rows) L 148 (zeC yc L) 6:=xj (D:=5) (by kernel_rfl) fun m hm=>⟨y8,z9 yd L,(xb yj (ziY L m (by omega))),zVf L⟩
theorem zZQ(L:Nat):FOk (zm rows) L 531 (zH9 yu L) 1:=xj (D:=0) (by kernel_rfl) fun m hm=>⟨zbV,zbS L,yj,zW0 L⟩
theorem zR1(L:Nat):FOk (zm rows) L 532 (zvM ym L) 1:=xj (D:=0) (by kernel_rfl) fun m hm=>⟨zsS,zsI L,yj,zO5 L⟩
theorem zmZ(L:Nat):FOk (zm rows) L 572 (zfs xx L) 1:=xj (D:=0) (by kernel_rfl) fun m hm=>⟨zif,zh5 L,yj,zyE L⟩
theorem zJs(L:Nat):FOk (zm rows) L 571 (zvz zh L) 2:=xj (D:=1) (by kernel_rfl) fun m hm=>⟨zAT,zz4 xx L,(xb yj (zmZ L m (by omega))),zVs L⟩
theorem zP7(L:Nat):FOk (zm rows) L 569 (zsL xw L) 3:=xj (D:=2) (by kernel_rfl) fun m hm=>⟨zax,zay zh L,(xb yj (zJs L m (by omega))),zOc L⟩
theorem zOn(L:Nat):FOk (zm rows) L 570 (zro xu L) 1:=xj (D:=0) (by kernel_rfl) fun m hm=>⟨zoy,zpo L,yj,zMn L⟩
theorem zP2(L:Nat):FOk (zm rows) L 533 (zs0 zl L) 4:=xj (D:=3) (by kernel_rfl) fun m hm=>⟨zck,zcm xw xu zh L,(xb (xb (xb yj (zP7 L m (by omega))) (zOn L m (by omega))) (zJs L m (by omega))),zOb L⟩
theorem zz2(L:Nat):FOk (zm rows) L 494 (zr0 zX L) 5:=xj (D:=4) (by kernel_rfl) fun m hm=>⟨zbP,zbT yu ym zl L,(xb (xb (xb yj (zZQ L m (by omega))) (zR1 L m (by omega))) (zP2 L m (by omega))),zW9 L⟩
theorem zjW(L:Nat):FOk (zm rows) L 494 (zis zs5 L) 5:=zD4 (zz2 L) (zW2 L)
theorem zsZ(L:Nat):FOk (zm rows) L 454 (ziJ yJ L) 6:=xj (D:=5) (by kernel_rfl) fun m hm=>⟨zuf,zup zX L,(xb yj (zz2 L m (by omega))),zRb L⟩
theorem zlx(L:Nat):FOk (zm rows) L 454 (zis zDu L) 6:=zD4 (zsZ L) (zRV L)
theorem zXx(L:Nat):FOk (zm rows) L 519 (zEN yI L) 7:=xj (D:=6) (by kernel_rfl) fun m hm=>⟨zA0,zAP yc yd yJ L,(xb (xb (xb yj (zgt L m (by omega))) (ziY L m (by omega))) (zsZ L m (by omega))),zUR L⟩
theorem zgo(L:Nat):FOk (zm rows) L 453 (zfy zai L) 2:=xj (D:=1) (by kernel_rfl) fun m hm=>⟨zeK,zeG yg L,(xb yj (zgu L m (by omega))),zUB L⟩
theorem zYy(L:Nat):FOk (zm rows) L 588 (zEq xq L) 6:=xj (D:=5) (by kernel_rfl) fun m hm=>⟨zAa,zAF zai zX L,(xb (xb yj (zgo L m (by omega))) (zz2 L m (by omega))),zUs L⟩
theorem zT6(L:Nat):FOk (zm rows) L 555 (zxp zaX L) 7:=xj (D:=6) (by kernel_rfl) fun m hm=>⟨zaT,zaU xq L,(xb yj (zYy L m (by omega))),zRI L⟩
theorem zXh(L:Nat):FOk (zm rows) L 520 (zEy xI L) 8:=xj (D:=7) (by kernel_rfl) fun m hm=>⟨zzO,zzU zaX L,(xb yj (zT6 L m (by omega))),zWn L⟩
theorem zYF(L:Nat):FOk (zm rows) L 474 (zpy zw L) 9:=xj (D:=8) (by kernel_rfl) fun m hm=>⟨zeM,zeI yI xI L,(xb (xb yj (zXx L m (by omega))) (zXh L m (by omega))),zVv L⟩
theorem zsJ(L:Nat):FOk (zm rows) L 192 (zkY yD L) 1:=xj (D:=0) (by kernel_rfl) fun m hm=>⟨zc7,zdk L,yj,zRS L⟩
theorem zgy(L:Nat):FOk (zm rows) L 191 (ze1 xl L) 1:=xj (D:=0) (by kernel_rfl) fun m hm=>⟨zuB,zwp L,yj,zRT L⟩
theorem zjh(L:Nat):FOk (zm rows) L 157 (zfL yb L) 2:=xj (D:=1) (by kernel_rfl) fun m hm=>⟨zpD,zpG yD xl L,(xb (xb yj (zsJ L m (by omega))) (zgy L m (by omega))),zMB L⟩
theorem zvT(L:Nat):FOk (zm rows) L 158 (zkb zH L) 2:=xj (D:=1) (by kernel_rfl) fun m hm=>⟨znT,znD xl L,(xb yj (zgy L m (by omega))),zI8 L⟩
theorem zgJ(L:Nat):FOk (zm rows) L 502 (zd0 zg L) 3:=xj (D:=2) (by kernel_rfl) fun m hm=>⟨zli,zld yb zH L,(xb (xb yj (zjh L m (by omega))) (zvT L m (by omega))),zFe L⟩
theorem zN4(L:Nat):FOk (zm rows) L 205 (zq8 zae L) 2:=xj (D:=1) (by kernel_rfl) fun m hm=>⟨zo3,zpB yD xl L,(xb (xb yj (zsJ L m (by omega))) (zgy L m (by omega))),zLP L⟩
theorem zwH(L:Nat):FOk (zm rows) L 183 (zkO zd L) 2:=xj (D:=1) (by kernel_rfl) fun m hm=>⟨zpc,zpE yD xl L,(xb (xb yj (zsJ L m (by omega))) (zgy L m (by omega))),zMD L⟩
theorem zl5(L:Nat):FOk (zm rows) L 182 (zg8 za L) 3:=xj (D:=2) (by kernel_rfl) fun m hm=>⟨znK,znI xl zae yb zd L,(xb (xb (xb (xb yj (zgy L m (by omega))) (zN4 L m (by omega))) (zjh L m (by omega))) (zwH L m (by omega))),zJT L⟩
theorem z1m(L:Nat):FOk (zm rows) L 137 (zLQ yk L) 3:=xj (D:=2) (by kernel_rfl) fun m hm=>⟨zIW,zH4 zH yb L,(xb (xb yj (zvT L m (by omega))) (zjh L m (by omega))),z0s L⟩
theorem zKH(L:Nat):FOk (zm rows) L 184 (znH xc L) 4:=xj (D:=3) (by kernel_rfl) fun m hm=>⟨zmm,zmh za xl L,(xb (xb yj (zl5 L m (by omega))) (zgy L m (by omega))),zIc L⟩
theorem zNn(L:Nat):FOk (zm rows) L 147 (zyz yi L) 5:=xj (D:=4) (by kernel_rfl) fun m hm=>⟨y4,xZ yb za yk zd xc L,(xb (xb (xb (xb (xb yj (zjh L m (by omega))) (zl5 L m (by omega))) (z1m L m (by omega))) (zwH L m (by omega))) (zKH L m (by omega))),zXl L⟩
theorem zSD(L:Nat):FOk (zm rows) L 146 (zGr zJ L) 6:=xj (D:=5) (by kernel_rfl) fun m hm=>⟨zaQ,zaP yi L,(xb yj (zNn L m (by omega))),z27 L⟩
theorem zAR(L:Nat):FOk (zm rows) L 128 (zrL yA L) 7:=xj (D:=6) (by kernel_rfl) fun m hm=>⟨zDZ,zDX zJ yi L,(xb (xb yj (zSD L m (by omega))) (zNn L m (by omega))),zXf L⟩
theorem zC2(L:Nat):FOk (zm rows) L 577 (zlA zB L) 8:=xj (D:=7) (by kernel_rfl) fun m hm=>⟨zcz,zcx zg za yA L,(xb (xb (xb yj (zgJ L m (by omega))) (zl5 L m (by omega))) (zAR L m (by omega))),zRw L⟩
theorem z3J(L:Nat):FOk (zm rows) L 188 (zQx zdA L) 1:=xj (D:=0) (by kernel_rfl) fun m hm=>⟨zL9,zMu L,yj,z0K L⟩
theorem zGx(L:Nat):FOk (zm rows) L 151 (zm7 yo L) 2:=xj (D:=1) (by kernel_rfl) fun m hm=>⟨zxJ,zxW zdA L,(xb yj (z3J L m (by omega))),zT9 L⟩
theorem z2q(L:Nat):FOk (zm rows) L 150 (zMI xM L) 1:=xj (D:=0) (by kernel_rfl) fun m hm=>⟨zfc,zfe L,yj,zZ9 L⟩
theorem z1n(L:Nat):FOk (zm rows) L 131 (zCo y5 L) 7:=xj (D:=6) (by kernel_rfl) fun m hm=>⟨zfb,zfd zJ xM yo L,(xb (xb (xb yj (zSD L m (by omega))) (z2q L m (by omega))) (zGx L m (by omega))),zZO L⟩
theorem z3w(L:Nat):FOk (zm rows) L 497 (zPb xC L) 1:=xj (D:=0) (by kernel_rfl) fun m hm=>⟨zeL,zeJ L,yj,z0Q L⟩
theorem z3t(L:Nat):FOk (zm rows) L 496 (zOR xB L) 1:=xj (D:=0) (by kernel_rfl) fun m hm=>⟨zh0,zia L,yj,z18 L⟩
theorem zPp(L:Nat):FOk (zm rows) L 535 (zCs xf L) 2:=xj (D:=1) (by kernel_rfl) fun m hm=>⟨zIT,zIv xx L,(xb yj (zmZ L m (by omega))),z0o L⟩
theorem zTR(L:Nat):FOk (zm rows) L 534 (zxO zC L) 3:=xj (D:=2) (by kernel_rfl) fun m hm=>⟨z8,y6 xf L,(xb yj (zPp L m (by omega))),zRz L⟩
theorem zT5(L:Nat):FOk (zm rows) L 498 (zxg xn L) 4:=xj (D:=3) (by kernel_rfl) fun m hm=>⟨zdh,zdd zC xf L,(xb (xb yj (zTR L m (by omega))) (zPp L m (by omega))),zRm L⟩
theorem zIP(L:Nat):FOk (zm rows) L 458 (zy7 zam L) 5:=xj (D:=4) (by kernel_rfl) fun m hm=>⟨zcF,zcH xC xB xn L,(xb (xb (xb yj (z3w L m (by omega))) (z3t L m (by omega))) (zT5 L m (by omega))),z2D L⟩
theorem zTe(L:Nat):FOk (zm rows) L 458 (zis zs5 L) 5:=zD4 (zIP L) (z1V L)
theorem zxS(L:Nat):FOk (zm rows) L 501 (zoU xX L) 6:=xj (D:=5) (by kernel_rfl) fun m hm=>⟨zzP,zAC zam L,(xb yj (zIP L m (by omega))),zVk L⟩
theorem zOa(L:Nat):FOk (zm rows) L 501 (zis zDu L) 6:=zD4 (zxS L) (zVM L)
theorem z0k(L:Nat):FOk (zm rows) L 583 (zyk zaJ L) 8:=xj (D:=7) (by kernel_rfl) fun m hm=>⟨zC6,zEM yA xX L,(xb (xb yj (zAR L m (by omega))) (zxS L m (by omega))),zYb L⟩
theorem z3F(L:Nat):FOk (zm rows) L 596 (zPh xT L) 9:=xj (D:=8) (by kernel_rfl) fun m hm=>⟨zLB,zMl zaJ L,(xb yj (z0k L m (by omega))),z01 L⟩
theorem zVe(L:Nat):FOk (zm rows) L 617 (zAH yp L) 6:=xj (D:=5) (by kernel_rfl) fun m hm=>⟨zxH,zya zam L,(xb yj (zIP L m (by omega))),zTB L⟩
theorem zRk(L:Nat):FOk (zm rows) L 608 (zuq zaI L) 7:=xj (D:=6) (by kernel_rfl) fun m hm=>⟨zaG,zaH yp L,(xb yj (zVe L m (by omega))),zOE L⟩
theorem zUY(L:Nat):FOk (zm rows) L 597 (zAr yF L) 8:=xj (D:=7) (by kernel_rfl) fun m hm=>⟨zxV,zx6 zaI L,(xb yj (zRk L m (by omega))),zTP L⟩
theorem zYD(L:Nat):FOk (zm rows) L 579 (zvQ xH L) 10:=xj (D:=9) (by kernel_rfl) fun m hm=>⟨zeH,zeN xT yF L,(xb (xb yj (z3F L m (by omega))) (zUY L m (by omega))),zVZ L⟩
theorem zgL(L:Nat):FOk (zm rows) L 455 (zdY xh L) 3:=xj (D:=2) (by kernel_rfl) fun m hm=>⟨zbl,zbo xa zn L,(xb (xb yj (zi2 L m (by omega))) (zmM L m (by omega))),zFi L⟩
theorem zSU(L:Nat):FOk (zm rows) L 129 (zxX zE L) 7:=xj (D:=6) (by kernel_rfl) fun m hm=>⟨zwc,zua yc yd L,(xb (xb yj (zgt L m (by omega))) (ziY L m (by omega))),zRv L⟩
theorem zDd(L:Nat):FOk (zm rows) L 488 (zp5 yr L) 8:=xj (D:=7) (by kernel_rfl) fun m hm=>⟨zdp,zdm xh ya zE L,(xb (xb (xb yj (zgL L m (by omega))) (zmN L m (by omega))) (zSU L m (by omega))),zRM L⟩
theorem zKu(L:Nat):FOk (zm rows) L 449 (zpz zz L) 9:=xj (D:=8) (by kernel_rfl) fun m hm=>⟨zdQ,zdV yc yr L,(xb (xb yj (zgt L m (by omega))) (zDd L m (by omega))),zU2 L⟩
theorem zK3(L:Nat):FOk (zm rows) L 152 (zv4 xd L) 1:=xj (D:=0) (by kernel_rfl) fun m hm=>⟨zAO,zzM L,yj,zVL L⟩
theorem zjJ(L:Nat):FOk (zm rows) L 153 (zeO zb L) 2:=xj (D:=1) (by kernel_rfl) fun m hm=>⟨zqC,zq9 xd L,(xb yj (zK3 L m (by omega))),zOd L⟩
theorem zFL(L:Nat):FOk (zm rows) L 132 (zm5 xE L) 7:=xj (D:=6) (by kernel_rfl) fun m hm=>⟨yN,zN yc xd zb L,(xb (xb (xb yj (zgt L m (by omega))) (zK3 L m (by omega))) (zjJ L m (by omega))),zTb L⟩
theorem zFT(L:Nat):FOk (zm rows) L 556 (zmY xg L) 1:=xj (D:=0) (by kernel_rfl) fun m hm=>⟨zcU,zcZ L,yj,zTG L⟩
theorem zRN(L:Nat):FOk (zm rows) L 557 (zn9 zA L) 2:=xj (D:=1) (by kernel_rfl) fun m hm=>⟨zaq,zar xg L,(xb yj (zFT L m (by omega))),zOQ L⟩
theorem zVB(L:Nat):FOk (zm rows) L 558 (zsA xF L) 1:=xj (D:=0) (by kernel_rfl) fun m hm=>⟨yU,zU L,yj,zS9 L⟩
theorem zdO(L:Nat):FOk (zm rows) L 562 (zcJ xY L) 1:=xj (D:=0) (by kernel_rfl) fun m hm=>⟨zqT,zqR L,yj,zN3 L⟩
theorem zsp(L:Nat):FOk (zm rows) L 552 (znf xp L) 1:=xj (D:=0) (by kernel_rfl) fun m hm=>⟨zEe,zCJ L,yj,zYi L⟩
theorem zsw(L:Nat):FOk (zm rows) L 513 (zna zbq L) 2:=xj (D:=1) (by kernel_rfl) fun m hm=>⟨zff,zfC xp L,(xb yj (zsp L m (by omega))),zXQ L⟩
theorem zeV(L:Nat):FOk (zm rows) L 553 (zdJ xJ L) 1:=xj (D:=0) (by kernel_rfl) fun m hm=>⟨zAg,zzN L,yj,zWw L⟩
theorem zz3(L:Nat):FOk (zm rows) L 565 (zrP zbJ L) 2:=xj (D:=1) (by kernel_rfl) fun m hm=>⟨zeB,zew xp L,(xb yj (zsp L m (by omega))),zXO L⟩
theorem zAe(L:Nat):FOk (zm rows) L 593 (zrK xL L) 1:=xj (D:=0) (by kernel_rfl) fun m hm=>⟨zfH,zfJ L,yj,zW3 L⟩
theorem zNH(L:Nat):FOk (zm rows) L 566 (zym zbK L) 2:=xj (D:=1) (by kernel_rfl) fun m hm=>⟨zfv,zfj xL L,(xb yj (zAe L m (by omega))),zYk L⟩
theorem zTN(L:Nat):FOk (zm rows) L 527 (zk3 zS L) 3:=xj (D:=2) (by kernel_rfl) fun m hm=>⟨zuc,zu0 xY zbq xJ zbJ zbK L,(xb (xb (xb (xb (xb yj (zdO L m (by omega))) (zsw L m (by omega))) (zeV L m (by omega))) (zz3 L m (by omega))) (zNH L m (by omega))),zRY L⟩
theorem zk4(L:Nat):FOk (zm rows) L 527 (zVC L) 3:=zD4 (zTN L) (zRp L)
theorem zi8(L:Nat):FOk (zm rows) L 529 (zee zaY L) 1:=xj (D:=0) (by kernel_rfl) fun m hm=>⟨zb5,zb6 L,yj,zLO L⟩
theorem zfT(L:Nat):FOk (zm rows) L 528 (zdS yX L) 1:=xj (D:=0) (by kernel_rfl) fun m hm=>⟨zey,zeD L,yj,zYs L⟩
theorem zBj(L:Nat):FOk (zm rows) L 136 (zod zy L) 1:=xj (D:=0) (by kernel_rfl) fun m hm=>⟨zca,zcc L,yj,zOI L⟩
theorem zVE(L:Nat):FOk (zm rows) L 521 (zAi zm0 L) 2:=xj (D:=1) (by kernel_rfl) fun m hm=>⟨zc1,zcV zy L,(xb yj (zBj L m (by omega))),zS3 L⟩
theorem zFO(L:Nat):FOk (zm rows) L 134 (zsi zjx L) 1:=xj (D:=0) (by kernel_rfl) fun m hm=>⟨zcS,zc0 L,yj,zTO L⟩
theorem zxe(L:Nat):FOk (zm rows) L 130 (zo6 zW L) 1:=xj (D:=0) (by kernel_rfl) fun m hm=>⟨zAz,zAy L,yj,zUE L⟩
theorem zXN(L:Nat):FOk (zm rows) L 429 (zEW za4 L) 7:=xj (D:=6) (by kernel_rfl) fun m hm=>⟨zAY,zAI xh yJ L,(xb (xb yj (zgL L m (by omega))) (zsZ L m (by omega))),zWd L⟩
theorem zZJ(L:Nat):FOk (zm rows) L 514 (zSt L) 1:=xj (D:=0) (by kernel_rfl) fun m hm=>⟨zj [],zQF L,yj,fun _ _ _ _ _ h=>h⟩
theorem zVA(L:Nat):FOk (zm rows) L 467 (zNp L) 3:=xj (D:=2) (by kernel_rfl) fun m hm=>⟨zj [],zKx L,(xb (xb yj (zZJ L m (by omega))) (zsw L m (by omega))),fun _ _ _ _ _ h=>h⟩
theorem zed(L:Nat):FOk (zm rows) L 515 (zej L) 4:=xj (D:=3) (by kernel_rfl) fun m hm=>⟨zj [],zDS L,(xb (xb (xb yj (zeV L m (by omega))) (zk4 L m (by omega))) (zfT L m (by omega))),fun _ _ _ _ _ h=>h⟩
theorem ziZ(L:Nat):FOk (zm rows) L 429 (ziC L) 7:=xj (D:=6) (by kernel_rfl) fun m hm=>⟨zj [],zHO L,(xb (xb yj (zgL L m (by omega))) (zlx L m (by omega))),fun _ _ _ _ _ h=>h⟩
theorem zUC(L:Nat):FOk (zm rows) L 468 (zNw L) 8:=xj (D:=7) (by kernel_rfl) fun m hm=>⟨zj [],zLh L,(xb (xb yj (zed L m (by omega))) (ziZ L m (by omega))),fun _ _ _ _ _ h=>h⟩
theorem zWE(L:Nat):FOk (zm rows) L 469 (zND L) 8:=xj (D:=7) (by kernel_rfl) fun m hm=>⟨zj [],zLa L,(xb (xb yj (zed L m (by omega))) (ziZ L m (by omega))),fun _ _ _ _ _ h=>h⟩
theorem zYv(L:Nat):FOk (zm rows) L 442 (zPD L) 9:=xj (D:=8) (by kernel_rfl) fun m hm=>⟨zj [],zNO L,(xb (xb (xb yj (zVA L m (by omega))) (zUC L m (by omega))) (zWE L m (by omega))),fun _ _ _ _ _ h=>h⟩
theorem z2h(L:Nat):FOk (zm rows) L 554 (zVy L) 1:=xj (D:=0) (by kernel_rfl) fun m hm=>⟨zj [],zSJ L,yj,fun _ _ _ _ _ h=>h⟩
theorem zFX(L:Nat):FOk (zm rows) L 448 (zzY L) 1:=xj (D:=0) (by kernel_rfl) fun m hm=>⟨zj [],zKA L,yj,fun _ _ _ _ _ h=>h⟩
theorem zYd(L:Nat):FOk (zm rows) L 516 (zOM L) 2:=xj (D:=1) (by kernel_rfl) fun m hm=>⟨zj [],zNP L,(xb (xb yj (z2h L m (by omega))) (zFX L m (by omega))),fun _ _ _ _ _ h=>h⟩
theorem zxr(L:Nat):FOk (zm rows) L 517 (zvq L) 7:=xj (D:=6) (by kernel_rfl) fun m hm=>⟨zj [],zN0 L,(xb (xb (xb yj (zgt L m (by omega))) (ziY L m (by omega))) (zlx L m (by omega))),fun _ _ _ _ _ h=>h⟩
theorem zJA(L:Nat):FOk (zm rows) L 470 (zwN L) 8:=xj (D:=7) (by kernel_rfl) fun m hm=>⟨zj [],zvo L,(xb (xb yj (zYd L m (by omega))) (zxr L m (by omega))),fun _ _ _ _ _ h=>h⟩
theorem zBx(L:Nat):FOk (zm rows) L 472 (zus L) 5:=xj (D:=4) (by kernel_rfl) fun m hm=>⟨zj [],zEJ L,(xb yj (zed L m (by omega))),fun _ _ _ _ _ h=>h⟩
theorem zZ2(L:Nat):FOk (zm rows) L 518 (zSF L) 1:=xj (D:=0) (by kernel_rfl) fun m hm=>⟨zj [],zPt L,yj,fun _ _ _ _ _ h=>h⟩
theorem zR5(L:Nat):FOk (zm rows) L 471 (zGN L) 2:=xj (D:=1) (by kernel_rfl) fun m hm=>⟨zj [],zDJ L,(xb yj (zZ2 L m (by omega))),fun _ _ _ _ _ h=>h⟩
theorem zTc(L:Nat):FOk (zm rows) L 519 (zKe L) 7:=xj (D:=6) (by kernel_rfl) fun m hm=>⟨zj [],zFW L,(xb (xb (xb yj (zgt L m (by omega))) (ziY L m (by omega))) (zlx L m (by omega))),fun _ _ _ _ _ h=>h⟩
theorem zSS(L:Nat):FOk (zm rows) L 588 (zKP L) 6:=xj (D:=5) (by kernel_rfl) fun m hm=>⟨zj [],zGI L,(xb (xb yj (zgo L m (by omega))) (zjW L m (by omega))),fun _ _ _ _ _ h=>h⟩
theorem zPL(L:Nat):FOk (zm rows) L 555 (zDe L) 7:=xj (D:=6) (by kernel_rfl) fun m hm=>⟨zj [],zA3 L,(xb yj (zSS L m (by omega))),fun _ _ _ _ _ h=>h⟩
theorem zTh(L:Nat):FOk (zm rows) L 520 (zJE L) 8:=xj (D:=7) (by kernel_rfl) fun m hm=>⟨zj [],zF9 L,(xb yj (zPL L m (by omega))),fun _ _ _ _ _ h=>h⟩
theorem zEm(L:Nat):FOk (zm rows) L 474 (zye L) 9:=xj (D:=8) (by kernel_rfl) fun m hm=>⟨zj [],zHG L,(xb (xb yj (zTc L m (by omega))) (zTh L m (by omega))),fun _ _ _ _ _ h=>h⟩
theorem zTm(L:Nat):FOk (zm rows) L 475 (zKK L) 1:=xj (D:=0) (by kernel_rfl) fun m hm=>⟨zj [],zGd L,yj,fun _ _ _ _ _ h=>h⟩
theorem zN6(L:Nat):FOk (zm rows) L 117 (zBU L) 1:=xj (D:=0) (by kernel_rfl) fun m hm=>⟨zj [],zyS L,yj,fun _ _ _ _ _ h=>h⟩
theorem zNf(L:Nat):FOk (zm rows) L 561 (zIR L) 2:=xj (D:=1) (by kernel_rfl) fun m hm=>⟨zj [],zQt L,(xb yj (zN6 L m (by omega))),fun _ _ _ _ _ h=>h⟩
theorem zsz(L:Nat):FOk (zm rows) L 594 (zse L) 1:=xj (D:=0) (by kernel_rfl) fun m hm=>⟨zj [],zQs L,yj,fun _ _ _ _ _ h=>h⟩
theorem zAE(L:Nat):FOk (zm rows) L 563 (zyw L) 2:=xj (D:=1) (by kernel_rfl) fun m hm=>⟨zj [],zQn L,(xb (xb (xb (xb yj (zfT L m (by omega))) (zsp L m (by omega))) (zAe L m (by omega))) (zsz L m (by omega))),fun _ _ _ _ _ h=>h⟩
theorem zRP(L:Nat):FOk (zm rows) L 564 (zG3 L) 3:=xj (D:=2) (by kernel_rfl) fun m hm=>⟨zj [],zDa L,(xb (xb (xb (xb (xb yj (zeV L m (by omega))) (zNH L m (by omega))) (zsw L m (by omega))) (zfT L m (by omega))) (zz3 L m (by omega))),fun _ _ _ _ _ h=>h⟩
theorem zSX(L:Nat):FOk (zm rows) L 526 (zKg L) 5:=xj (D:=4) (by kernel_rfl) fun m hm=>⟨zj [],zFS L,(xb (xb (xb (xb (xb (xb (xb (xb yj (zed L m (by omega))) (zk4 L m (by omega))) (zdO L m (by omega))) (zNf L m (by omega))) (zAE L m (by omega))) (zfT L m (by omega))) (zeV L m (by omega))) (zRP L m (by omega))),fun _ _ _ _ _ h=>h⟩
theorem zKk(L:Nat):FOk (zm rows) L 484 (zEk L) 6:=xj (D:=5) (by kernel_rfl) fun m hm=>⟨zj [],zM6 L,(xb (xb yj (zed L m (by omega))) (zSX L m (by omega))),fun _ _ _ _ _ h=>h⟩
theorem zDV(L:Nat):FOk (zm rows) L 486 (zx4 L) 1:=xj (D:=0) (by kernel_rfl) fun m hm=>⟨zj [],zGb L,yj,fun _ _ _ _ _ h=>h⟩
theorem zBw(L:Nat):FOk (zm rows) L 485 (zvX L) 4:=xj (D:=3) (by kernel_rfl) fun m hm=>⟨zj [],zCX L,(xb (xb (xb yj (zk4 L m (by omega))) (zi8 L m (by omega))) (zfT L m (by omega))),fun _ _ _ _ _ h=>h⟩
theorem zZS(L:Nat):FOk (zm rows) L 473 (zSr L) 8:=xj (D:=7) (by kernel_rfl) fun m hm=>⟨zj [],zPK L,(xb (xb (xb (xb yj (zKk L m (by omega))) (zDV L m (by omega))) (ziZ L m (by omega))) (zBw L m (by omega))),fun _ _ _ _ _ h=>h⟩
theorem zYt(L:Nat):FOk (zm rows) L 443 (zOH L) 10:=xj (D:=9) (by kernel_rfl) fun m hm=>⟨zj [],zNS L,(xb (xb (xb (xb (xb (xb (xb yj (zJA L m (by omega))) (zBx L m (by omega))) (zFX L m (by omega))) (zR5 L m (by omega))) (zEm L m (by omega))) (zTm L m (by omega))) (zZS L m (by omega))),fun _ _ _ _ _ h=>h⟩
theorem zRr(L:Nat):FOk (zm rows) L 522 (zHe L) 10:=xj (D:=9) (by kernel_rfl) fun m hm=>⟨zj [],zCR L,(xb (xb (xb (xb (xb (xb (xb (xb yj (zKu L m (by omega))) (zjJ L m (by omega))) (zFL L m (by omega))) (zxr L m (by omega))) (zFT L m (by omega))) (zRN L m (by omega))) (zVB L m (by omega))) (zEm L m (by omega))),fun _ _ _ _ _ h=>h⟩
theorem zVi(L:Nat):FOk (zm rows) L 476 (zNR L) 11:=xj (D:=10) (by kernel_rfl) fun m hm=>⟨zj [],zI9 L,(xb (xb (xb (xb yj (zed L m (by omega))) (zVE L m (by omega))) (zRr L m (by omega))) (zFO L m (by omega))),fun _ _ _ _ _ h=>h⟩
theorem zxG(L:Nat):FOk (zm rows) L 480 (zvR L) 1:=xj (D:=0) (by kernel_rfl) fun m hm=>⟨zj [],zNu L,yj,fun _ _ _ _ _ h=>h⟩
theorem zzi(L:Nat):FOk (zm rows) L 441 (zta L) 3:=xj (D:=2) (by kernel_rfl) fun m hm=>⟨zj [],zBZ L,(xb yj (zgo L m (by omega))),fun _ _ _ _ _ h=>h⟩
theorem zUN(L:Nat):FOk (zm rows) L 477 (zM3 L) 4:=xj (D:=3) (by kernel_rfl) fun m hm=>⟨zj [],zKB L,(xb (xb yj (zxG L m (by omega))) (zzi L m (by omega))),fun _ _ _ _ _ h=>h⟩
theorem z0b(L:Nat):FOk (zm rows) L 523 (zSL L) 8:=xj (D:=7) (by kernel_rfl) fun m hm=>⟨zj [],zQe L,(xb yj (zFL L m (by omega))),fun _ _ _ _ _ h=>h⟩
theorem zDP(L:Nat):FOk (zm rows) L 589 (zw9 L) 6:=xj (D:=5) (by kernel_rfl) fun m hm=>⟨zj [],zHk L,(xb yj (zjW L m (by omega))),fun _ _ _ _ _ h=>h⟩
theorem zRJ(L:Nat):FOk (zm rows) L 559 (zGP L) 7:=xj (D:=6) (by kernel_rfl) fun m hm=>⟨zj [],zC3 L,(xb (xb (xb (xb (xb (xb (xb yj (zgt L m (by omega))) (zGg L m (by omega))) (zi2 L m (by omega))) (zNs L m (by omega))) (zjW L m (by omega))) (zmM L m (by omega))) (zDP L m (by omega))),fun _ _ _ _ _ h=>h⟩
theorem zU3(L:Nat):FOk (zm rows) L 618 (zM4 L) 1:=xj (D:=0) (by kernel_rfl) fun m hm=>⟨zj [],zKM L,yj,fun _ _ _ _ _ h=>h⟩
theorem zZY(L:Nat):FOk (zm rows) L 610 (zSa L) 3:=xj (D:=2) (by kernel_rfl) fun m hm=>⟨zj [],zQb L,(xb (xb yj (zgo L m (by omega))) (zU3 L m (by omega))),fun _ _ _ _ _ h=>h⟩
theorem zWt(L:Nat):FOk (zm rows) L 599 (zNL L) 4:=xj (D:=3) (by kernel_rfl) fun m hm=>⟨zj [],zJ0 L,(xb yj (zZY L m (by omega))),fun _ _ _ _ _ h=>h⟩
theorem zT7(L:Nat):FOk (zm rows) L 600 (zLi L) 1:=xj (D:=0) (by kernel_rfl) fun m hm=>⟨zj [],zHp L,yj,fun _ _ _ _ _ h=>h⟩
theorem zW8(L:Nat):FOk (zm rows) L 601 (zQa L) 1:=xj (D:=0) (by kernel_rfl) fun m hm=>⟨zj [],zNq L,yj,fun _ _ _ _ _ h=>h⟩
theorem zTU(L:Nat):FOk (zm rows) L 602 (zJF L) 3:=xj (D:=2) (by kernel_rfl) fun m hm=>⟨zj [],zG4 L,(xb yj (zgo L m (by omega))),fun _ _ _ _ _ h=>h⟩
theorem zTf(L:Nat):FOk (zm rows) L 603 (zK6 L) 1:=xj (D:=0) (by kernel_rfl) fun m hm=>⟨zj [],zFV L,yj,fun _ _ _ _ _ h=>h⟩
theorem zVt(L:Nat):FOk (zm rows) L 604 (zNc L) 1:=xj (D:=0) (by kernel_rfl) fun m hm=>⟨zj [],zK1 L,yj,fun _ _ _ _ _ h=>h⟩
theorem zVK(L:Nat):FOk (zm rows) L 605 (zNU L) 1:=xj (D:=0) (by kernel_rfl) fun m hm=>⟨zj [],zJg L,yj,fun _ _ _ _ _ h=>h⟩
theorem zyb(L:Nat):FOk (zm rows) L 591 (zuz L) 1:=xj (D:=0) (by kernel_rfl) fun m hm=>⟨zj [],zNI L,yj,fun _ _ _ _ _ h=>h⟩
theorem zTx(L:Nat):FOk (zm rows) L 611 (zK7 L) 1:=xj (D:=0) (by kernel_rfl) fun m hm=>⟨zj [],zGF L,yj,fun _ _ _ _ _ h=>h⟩
theorem zJP(L:Nat):FOk (zm rows) L 613 (zEu L) 1:=xj (D:=0) (by kernel_rfl) fun m hm=>⟨zj [],zNW L,yj,fun _ _ _ _ _ h=>h⟩
theorem zWs(L:Nat):FOk (zm rows) L 612 (zMV L) 2:=xj (D:=1) (by kernel_rfl) fun m hm=>⟨zj [],zJB L,(xb yj (zJP L m (by omega))),fun _ _ _ _ _ h=>h⟩
theorem zkS(L:Nat):FOk (zm rows) L 630 (zjC L) 2:=xj (D:=1) (by kernel_rfl) fun m hm=>⟨zj [],zES L,(xb (xb yj (zdO L m (by omega))) (zsz L m (by omega))),fun _ _ _ _ _ h=>h⟩
theorem zn8(L:Nat):FOk (zm rows) L 625 (zmX L) 3:=xj (D:=2) (by kernel_rfl) fun m hm=>⟨zj [],zJ9 L,(xb (xb yj (zkS L m (by omega))) (zsw L m (by omega))),fun _ _ _ _ _ h=>h⟩
theorem ztc(L:Nat):FOk (zm rows) L 636 (zqe L) 3:=xj (D:=2) (by kernel_rfl) fun m hm=>⟨zj [],zHo L,(xb yj (zAE L m (by omega))),fun _ _ _ _ _ h=>h⟩
theorem zEV(L:Nat):FOk (zm rows) L 632 (zxo L) 4:=xj (D:=3) (by kernel_rfl) fun m hm=>⟨zj [],zHy L,(xb (xb (xb (xb yj (zeV L m (by omega))) (ztc L m (by omega))) (zNf L m (by omega))) (zAE L m (by omega))),fun _ _ _ _ _ h=>h⟩
theorem zS4(L:Nat):FOk (zm rows) L 633 (zJe L) 5:=xj (D:=4) (by kernel_rfl) fun m hm=>⟨zj [],zHt L,(xb (xb (xb (xb (xb (xb yj (zeV L m (by omega))) (zdO L m (by omega))) (ztc L m (by omega))) (zz3 L m (by omega))) (zEV L m (by omega))) (zsp L m (by omega))),fun _ _ _ _ _ h=>h⟩
theorem zAU(L:Nat):FOk (zm rows) L 628 (zyq L) 6:=xj (D:=5) (by kernel_rfl) fun m hm=>⟨zj [],zQu L,(xb (xb yj (zkS L m (by omega))) (zS4 L m (by omega))),fun _ _ _ _ _ h=>h⟩
theorem zZK(L:Nat):FOk (zm rows) L 631 (zSw L) 2:=xj (D:=1) (by kernel_rfl) fun m hm=>⟨zj [],zPQ L,(xb yj (zdO L m (by omega))),fun _ _ _ _ _ h=>h⟩
theorem zT8(L:Nat):FOk (zm rows) L 623 (zJQ L) 7:=xj (D:=6) (by kernel_rfl) fun m hm=>⟨zj [],zGW L,(xb (xb (xb (xb (xb (xb yj (zeV L m (by omega))) (zkS L m (by omega))) (zfT L m (by omega))) (zn8 L m (by omega))) (zAU L m (by omega))) (zZK L m (by omega))),fun _ _ _ _ _ h=>h⟩
theorem zGq(L:Nat):FOk (zm rows) L 619 (zz8 L) 8:=xj (D:=7) (by kernel_rfl) fun m hm=>⟨zj [],zJq L,(xb (xb yj (zdO L m (by omega))) (zT8 L m (by omega))),fun _ _ _ _ _ h=>h⟩
theorem zGe(L:Nat):FOk (zm rows) L 624 (zAX L) 4:=xj (D:=3) (by kernel_rfl) fun m hm=>⟨zj [],zJf L,(xb (xb yj (zn8 L m (by omega))) (zfT L m (by omega))),fun _ _ _ _ _ h=>h⟩
theorem zTE(L:Nat):FOk (zm rows) L 620 (zK5 L) 5:=xj (D:=4) (by kernel_rfl) fun m hm=>⟨zj [],zHN L,(xb (xb yj (zi8 L m (by omega))) (zGe L m (by omega))),fun _ _ _ _ _ h=>h⟩
theorem zUT(L:Nat):FOk (zm rows) L 627 (zM5 L) 7:=xj (D:=6) (by kernel_rfl) fun m hm=>⟨zj [],zJ5 L,(xb (xb yj (zdO L m (by omega))) (zAU L m (by omega))),fun _ _ _ _ _ h=>h⟩
theorem z0h(L:Nat):FOk (zm rows) L 626 (zSn L) 5:=xj (D:=4) (by kernel_rfl) fun m hm=>⟨zj [],zOz L,(xb (xb yj (zkS L m (by omega))) (zEV L m (by omega))),fun _ _ _ _ _ h=>h⟩
theorem zU4(L:Nat):FOk (zm rows) L 638 (zM8 L) 1:=xj (D:=0) (by kernel_rfl) fun m hm=>⟨zj [],zKb L,yj,fun _ _ _ _ _ h=>h⟩
theorem zTZ(L:Nat):FOk (zm rows) L 635 (zJ4 L) 2:=xj (D:=1) (by kernel_rfl) fun m hm=>⟨zj [],zGQ L,(xb yj (zU4 L m (by omega))),fun _ _ _ _ _ h=>h⟩
theorem zTM(L:Nat):FOk (zm rows) L 639 (zKG L) 4:=xj (D:=3) (by kernel_rfl) fun m hm=>⟨zj [],zGt L,(xb (xb (xb (xb (xb yj (zeV L m (by omega))) (ztc L m (by omega))) (zAe L m (by omega))) (zfT L m (by omega))) (zsz L m (by omega))),fun _ _ _ _ _ h=>h⟩
theorem zOf(L:Nat):FOk (zm rows) L 637 (zBJ L) 5:=xj (D:=4) (by kernel_rfl) fun m hm=>⟨zj [],zzg L,(xb (xb yj (zn8 L m (by omega))) (zTM L m (by omega))),fun _ _ _ _ _ h=>h⟩
theorem zT0(L:Nat):FOk (zm rows) L 634 (zKV L) 6:=xj (D:=5) (by kernel_rfl) fun m hm=>⟨zj [],zHv L,(xb (xb yj (zi8 L m (by omega))) (zOf L m (by omega))),fun _ _ _ _ _ h=>h⟩
theorem zOj(L:Nat):FOk (zm rows) L 629 (zBf L) 7:=xj (D:=6) (by kernel_rfl) fun m hm=>⟨zj [],zyH L,(xb (xb (xb (xb yj (zTZ L m (by omega))) (zgo L m (by omega))) (zDP L m (by omega))) (zT0 L m (by omega))),fun _ _ _ _ _ h=>h⟩
theorem zT1(L:Nat):FOk (zm rows) L 621 (zKv L) 9:=xj (D:=8) (by kernel_rfl) fun m hm=>⟨zj [],zHw L,(xb (xb (xb (xb (xb (xb (xb (xb yj (zGq L m (by omega))) (zGe L m (by omega))) (zn8 L m (by omega))) (zsz L m (by omega))) (zUT L m (by omega))) (zAU L m (by omega))) (z0h L m (by omega))) (zOj L m (by omega))),fun _ _ _ _ _ h=>h⟩
theorem zEn(L:Nat):FOk (zm rows) L 614 (zxn L) 10:=xj (D:=9) (by kernel_rfl) fun m hm=>⟨zj [],zGv L,(xb (xb (xb (xb yj (zi8 L m (by omega))) (zGq L m (by omega))) (zTE L m (by omega))) (zT1 L m (by omega))),fun _ _ _ _ _ h=>h⟩
theorem zWL(L:Nat):FOk (zm rows) L 615 (zNx L) 11:=xj (D:=10) (by kernel_rfl) fun m hm=>⟨zj [],zKl L,(xb yj (zEn L m (by omega))),fun _ _ _ _ _ h=>h⟩
theorem zSV(L:Nat):FOk (zm rows) L 622 (zLp L) 1:=xj (D:=0) (by kernel_rfl) fun m hm=>⟨zj [],zHB L,yj,fun _ _ _ _ _ h=>h⟩
theorem zT3(L:Nat):FOk (zm rows) L 616 (zKz L) 2:=xj (D:=1) (by kernel_rfl) fun m hm=>⟨zj [],zGX L,(xb yj (zSV L m (by omega))),fun _ _ _ _ _ h=>h⟩
theorem zYf(L:Nat):FOk (zm rows) L 606 (zQk L) 12:=xj (D:=11) (by kernel_rfl) fun m hm=>⟨zj [],zNh L,(xb (xb (xb (xb (xb (xb (xb (xb (xb (xb yj (zgo L m (by omega))) (zTx L m (by omega))) (zxe L m (by omega))) (zWs L m (by omega))) (zyb L m (by omega))) (zjW L m (by omega))) (zJP L m (by omega))) (zEn L m (by omega))) (zWL L m (by omega))) (zT3 L m (by omega))),fun _ _ _ _ _ h=>h⟩
theorem zZI(L:Nat):FOk (zm rows) L 590 (zR8 L) 13:=xj (D:=12) (by kernel_rfl) fun m hm=>⟨zj [],zPf L,(xb (xb (xb (xb (xb (xb (xb (xb (xb yj (zWt L m (by omega))) (zT7 L m (by omega))) (zW8 L m (by omega))) (zTU L m (by omega))) (zTf L m (by omega))) (zVt L m (by omega))) (zVK L m (by omega))) (zyb L m (by omega))) (zYf L m (by omega))),fun _ _ _ _ _ h=>h⟩
theorem zOq(L:Nat):FOk (zm rows) L 560 (zB2 L) 14:=xj (D:=13) (by kernel_rfl) fun m hm=>⟨zj [],zzk L,(xb (xb yj (zZI L m (by omega))) (zyb L m (by omega))),fun _ _ _ _ _ h=>h⟩
theorem zVW(L:Nat):FOk (zm rows) L 524 (zNQ L) 15:=xj (D:=14) (by kernel_rfl) fun m hm=>⟨zj [],zJR L,(xb (xb yj (zRJ L m (by omega))) (zOq L m (by omega))),fun _ _ _ _ _ h=>h⟩
theorem zWf(L:Nat):FOk (zm rows) L 478 (zNz L) 16:=xj (D:=15) (by kernel_rfl) fun m hm=>⟨zj [],zKr L,(xb (xb (xb (xb yj (zjJ L m (by omega))) (z0b L m (by omega))) (zFO L m (by omega))) (zVW L m (by omega))),fun _ _ _ _ _ h=>h⟩
theorem zRi(L:Nat):FOk (zm rows) L 479 (zGG L) 1:=xj (D:=0) (by kernel_rfl) fun m hm=>⟨zj [],zDg L,yj,fun _ _ _ _ _ h=>h⟩
theorem zBi(L:Nat):FOk (zm rows) L 483 (zvD L) 8:=xj (D:=7) (by kernel_rfl) fun m hm=>⟨zj [],zCY L,(xb (xb yj (zxr L m (by omega))) (zjJ L m (by omega))),fun _ _ _ _ _ h=>h⟩
theorem zXL(L:Nat):FOk (zm rows) L 525 (zQm L) 4:=xj (D:=3) (by kernel_rfl) fun m hm=>⟨zj [],zN1 L,(xb (xb yj (zBj L m (by omega))) (zzi L m (by omega))),fun _ _ _ _ _ h=>h⟩
theorem zZP(L:Nat):FOk (zm rows) L 481 (zSE L) 9:=xj (D:=8) (by kernel_rfl) fun m hm=>⟨zj [],zPq L,(xb (xb (xb yj (zBi L m (by omega))) (zxG L m (by omega))) (zXL L m (by omega))),fun _ _ _ _ _ h=>h⟩
theorem zWz(L:Nat):FOk (zm rows) L 482 (zNG L) 1:=xj (D:=0) (by kernel_rfl) fun m hm=>⟨zj [],zLb L,yj,fun _ _ _ _ _ h=>h⟩
theorem zRh(L:Nat):FOk (zm rows) L 444 (zFK L) 17:=xj (D:=16) (by kernel_rfl) fun m hm=>⟨zj [],zC8 L,(xb (xb (xb (xb (xb (xb (xb (xb (xb (xb yj (zVi L m (by omega))) (ziZ L m (by omega))) (zBx L m (by omega))) (zUN L m (by omega))) (zWf L m (by omega))) (zxG L m (by omega))) (zRi L m (by omega))) (zZP L m (by omega))) (zBi L m (by omega))) (zWz L m (by omega))),fun _ _ _ _ _ h=>h⟩
theorem zXG(L:Nat):FOk (zm rows) L 487 (zOT L) 5:=xj (D:=4) (by kernel_rfl) fun m hm=>⟨zj [],zNm L,(xb yj (zed L m (by omega))),fun _ _ _ _ _ h=>h⟩
theorem zA2(L:Nat):FOk (zm rows) L 446 (zvJ L) 8:=xj (D:=7) (by kernel_rfl) fun m hm=>⟨zj [],zDG L,(xb (xb yj (zXG L m (by omega))) (ziZ L m (by omega))),fun _ _ _ _ _ h=>h⟩
theorem zWD(L:Nat):FOk (zm rows) L 445 (zNE L) 9:=xj (D:=8) (by kernel_rfl) fun m hm=>⟨zj [],zLd L,(xb (xb (xb (xb yj (zA2 L m (by omega))) (zKk L m (by omega))) (zBw L m (by omega))) (zDV L m (by omega))),fun _ _ _ _ _ h=>h⟩
theorem z0n(L:Nat):FOk (zm rows) L 424 (zSu L) 18:=xj (D:=17) (by kernel_rfl) fun m hm=>⟨zj [],zOv L,(xb (xb (xb (xb yj (zYt L m (by omega))) (zRh L m (by omega))) (zWD L m (by omega))) (zA2 L m (by omega))),fun _ _ _ _ _ h=>h⟩
theorem zXV(L:Nat):FOk (zm rows) L 422 (zOy L) 19:=xj (D:=18) (by kernel_rfl) fun m hm=>⟨zj [],zMW L,(xb (xb yj (zYv L m (by omega))) (z0n L m (by omega))),fun _ _ _ _ _ h=>h⟩
theorem zFZ(L:Nat):FOk (zm rows) L 583 (zAS L) 8:=xj (D:=7) (by kernel_rfl) fun m hm=>⟨zj [],zJH L,(xb (xb yj (zAR L m (by omega))) (zOa L m (by omega))),fun _ _ _ _ _ h=>h⟩
theorem z3N(L:Nat):FOk (zm rows) L 548 (zY4 L) 9:=xj (D:=8) (by kernel_rfl) fun m hm=>⟨zj [],zV4 L,(xb yj (zFZ L m (by omega))),fun _ _ _ _ _ h=>h⟩
theorem zRj(L:Nat):FOk (zm rows) L 578 (zHI L) 10:=xj (D:=9) (by kernel_rfl) fun m hm=>⟨zj [],zDN L,(xb yj (z3N L m (by omega))),fun _ _ _ _ _ h=>h⟩
theorem zZW(L:Nat):FOk (zm rows) L 596 (zSd L) 9:=xj (D:=8) (by kernel_rfl) fun m hm=>⟨zj [],zOF L,(xb yj (zFZ L m (by omega))),fun _ _ _ _ _ h=>h⟩
theorem zR2(L:Nat):FOk (zm rows) L 617 (zF4 L) 6:=xj (D:=5) (by kernel_rfl) fun m hm=>⟨zj [],zDM L,(xb yj (zTe L m (by omega))),fun _ _ _ _ _ h=>h⟩
theorem zOe(L:Nat):FOk (zm rows) L 608 (zBR L) 7:=xj (D:=6) (by kernel_rfl) fun m hm=>⟨zj [],zyT L,(xb yj (zR2 L m (by omega))),fun _ _ _ _ _ h=>h⟩
theorem zRG(L:Nat):FOk (zm rows) L 597 (zHf L) 8:=xj (D:=7) (by kernel_rfl) fun m hm=>⟨zj [],zEw L,(xb yj (zOe L m (by omega))),fun _ _ _ _ _ h=>h⟩
theorem zTY(L:Nat):FOk (zm rows) L 579 (zKY L) 10:=xj (D:=9) (by kernel_rfl) fun m hm=>⟨zj [],zGS L,(xb (xb yj (zZW L m (by omega))) (zRG L m (by omega))),fun _ _ _ _ _ h=>h⟩
theorem zRW(L:Nat):FOk (zm rows) L 542 (zGE L) 11:=xj (D:=10) (by kernel_rfl) fun m hm=>⟨zj [],zEx L,(xb (xb (xb (xb (xb yj (zC2 L m (by omega))) (zGx L m (by omega))) (z1n L m (by omega))) (zRj L m (by omega))) (zTY L m (by omega))),fun _ _ _ _ _ h=>h⟩
theorem zK8(L:Nat):FOk (zm rows) L 669 (zpx yR L) 20:=xj (D:=19) (by kernel_rfl) fun m hm=>⟨zj [],zsq L,(xb (xb (xb yj (zXV L m (by omega))) (zgJ L m (by omega))) (zRW L m (by omega))),zWQ L⟩
theorem zTK(L:Nat):FOk (zm rows) L 456 (zxj zaK L) 10:=xj (D:=9) (by kernel_rfl) fun m hm=>⟨zwi,zvK zz yr L,(xb (xb yj (zKu L m (by omega))) (zDd L m (by omega))),zRe L⟩
theorem zIj(L:Nat):FOk (zm rows) L 661 (zmT zb7 L) 21:=xj (D:=20) (by kernel_rfl) fun m hm=>⟨zlE,zle yR zav zB zaK zW xH zw L,(xb (xb (xb (xb (xb (xb (xb yj (zK8 L m (by omega))) (zXU L m (by omega))) (zC2 L m (by omega))) (zTK L m (by omega))) (zxe L m (by omega))) (zYD L m (by omega))) (zYF L m (by omega))),zFk L⟩
theorem zK4(L:Nat):FOk (zm rows) L 198 (zt4 xA L) 1:=xj (D:=0) (by kernel_rfl) fun m hm=>⟨zAv,zAw L,yj,zVS L⟩
theorem zKc(L:Nat):FOk (zm rows) L 197 (znE y9 L) 2:=xj (D:=1) (by kernel_rfl) fun m hm=>⟨zbB,zbD xA L,(xb yj (zK4 L m (by omega))),zIb L⟩
theorem z0j(L:Nat):FOk (zm rows) L 170 (zIM za0 L) 3:=xj (D:=2) (by kernel_rfl) fun m hm=>⟨zEH,zEE y9 L,(xb yj (zKc L m (by omega))),zX9 L⟩
theorem zXW(L:Nat):FOk (zm rows) L 172 (zDp za6 L) 2:=xj (D:=1) (by kernel_rfl) fun m hm=>⟨zz6,zAp xA L,(xb yj (zK4 L m (by omega))),zVc L⟩
theorem zHP(L:Nat):FOk (zm rows) L 503 (zmF zM L) 4:=xj (D:=3) (by kernel_rfl) fun m hm=>⟨zk7,zlm za0 za6 L,(xb (xb yj (z0j L m (by omega))) (zXW L m (by omega))),zFc L⟩
theorem zTF(L:Nat):FOk (zm rows) L 209 (zxl zaM L) 1:=xj (D:=0) (by kernel_rfl) fun m hm=>⟨zc9,zdg L,yj,zRl L⟩
theorem zZ4(L:Nat):FOk (zm rows) L 200 (zHV za1 L) 2:=xj (D:=1) (by kernel_rfl) fun m hm=>⟨zCK,zC9 zaM L,(xb yj (zTF L m (by omega))),zYw L⟩
theorem zXE(L:Nat):FOk (zm rows) L 202 (zDt za7 L) 1:=xj (D:=0) (by kernel_rfl) fun m hm=>⟨zAm,zzT L,yj,zVJ L⟩
theorem zTS(L:Nat):FOk (zm rows) L 676 (zx9 zaO L) 3:=xj (D:=2) (by kernel_rfl) fun m hm=>⟨zt8,zv1 za1 za7 L,(xb (xb yj (zZ4 L m (by omega))) (zXE L m (by omega))),zRK L⟩
theorem zHR(L:Nat):FOk (zm rows) L 674 (zl0 zT L) 4:=xj (D:=3) (by kernel_rfl) fun m hm=>⟨zlB,zlu zaO L,(xb yj (zTS L m (by omega))),zFq L⟩
theorem zYu(L:Nat):FOk (zm rows) L 461 (zED za5 L) 7:=xj (D:=6) (by kernel_rfl) fun m hm=>⟨zAQ,zAN zg xX L,(xb (xb yj (zgJ L m (by omega))) (zxS L m (by omega))),zUM L⟩
theorem zIi(L:Nat):FOk (zm rows) L 665 (zmz zb8 L) 21:=xj (D:=20) (by kernel_rfl) fun m hm=>⟨zk6,zlz yR zM zT zg za5 za4 xh zW L,(xb (xb (xb (xb (xb (xb (xb (xb yj (zK8 L m (by omega))) (zHP L m (by omega))) (zHR L m (by omega))) (zgJ L m (by omega))) (zYu L m (by omega))) (zXN L m (by omega))) (zgL L m (by omega))) (zxe L m (by omega))),zFn L⟩
end
end
section
variable {β:Type}
def Byt(l:List Int):Prop:=∀ x∈l,0≤x∧x≤255
theorem ybT{l:List Int}(h:∀ x∈l,(Lit.int .u8 x).wf=true):Byt l:=fun x hx=>zQ3 (h x hx)
def zvZ(j:List Int)(i:Nat):Nat:=(j.getD i 0).toNat
theorem zQY{j:List Int}(hb:Byt j)(i:Nat):zvZ j i≤255∧j.getD i 0=((zvZ j i:Nat):Int):=by
 have:0≤j.getD i 0∧j.getD i 0≤255:=by
  rw [Ws]
  by_cases hi:i<j.length
  ·rw [Wc hi]; exact hb _ (W2 hi)
  ·rw [List.getElem?_eq_none (by omega)]; simp
 unfold zvZ
 omega
def le(j:List Int)(a:Nat):Nat→Nat
 | 0=>0
 | n+1=>le j a n+zvZ j (a+n)*256 ^ n
theorem z0z{j:List Int}(hb:Byt j)(a:Nat):∀ n,le j a n<256 ^ n
 | 0=>by simp [le]
 | n+1=>by
  have h1:=z0z hb a n
  have h2:=WI (256 ^ n) (zQY hb (a+n)).1
  rw [le,Nat.pow_succ]
  omega
theorem zXb(j:List Int)(a:Nat):∀ n,le j a (n+1)=zvZ j a+256*le j (a+1) n
 | 0=>by simp [le]
 | n+1=>by
  rw [le,zXb j a n,le,Nat.pow_succ,show a+1+n=a+(n+1) by omega,Nat.mul_add]
  have:zvZ j (a+(n+1))*(256 ^ n*256)=256*(zvZ j (a+(n+1))*256 ^ n):=by
   rw [Nat.mul_comm (256 ^ n) 256,← Nat.mul_assoc,← Nat.mul_assoc,Nat.mul_comm 256]
  omega
theorem z1p(i:Nat):256 ^ i=2 ^ (8*i):=by rw [Nat.pow_mul]
theorem zY1(n x:Nat)(h:x<2 ^ n):(BitVec.ofInt n (x:Int)).toNat=x:=by
 rw [BitVec.toNat_ofInt,← Int.natCast_emod,Int.toNat_natCast,Nat.mod_eq_of_lt h]
theorem z6B{x n:Nat}(h:x<2 ^ n):((x:Nat):Int)<2 ^ n:=by
 have:((x:Nat):Int)<((2 ^ n:Nat):Int):=by omega
 rwa [Int.natCast_pow] at this
theorem z4r(kd:IntKind)(hk:kd.signed=false){a m y:Nat}(hy:y<2 ^ m)(hs:a*2 ^ m+y<2 ^ kd.bits):ior kd ((a*2 ^ m:Nat):Int) ((y:Nat):Int)=((a*2 ^ m+y:Nat):Int):=by
 unfold ior
 rw [BitVec.toNat_or,zY1 _ _ (by omega),zY1 _ _ (by omega),← Nat.shiftLeft_eq,← Nat.shiftLeft_add_eq_or_of_lt hy,Nat.shiftLeft_eq]
 exact zKn hk (by omega) (z6B hs)
theorem z7o(k:IntKind)(a b:Int):ior k a b=ior k b a:=by unfold ior; rw [BitVec.or_comm]
theorem z1j(kd:IntKind)(hk:kd.signed=false){a m:Nat}(hm:m≤kd.bits)(hs:a*2 ^ m<2 ^ kd.bits):zgr kd ((a:Nat):Int) ((m:Nat):Int)=((a*2 ^ m:Nat):Int):=by
 unfold zgr
 rw [Int.toNat_natCast,Nat.min_eq_left hm]
 have e:((a:Nat):Int)*2 ^ m=((a*2 ^ m:Nat):Int):=by rw [Int.natCast_mul,Int.natCast_pow]; rfl
 rw [e]
 exact zKn hk (by omega) (z6B hs)
theorem z6b(kd:IntKind)(hk:kd.signed=false){j:List Int}(hb:Byt j)(a i:Nat)(hi:8*i+8≤kd.bits):ior kd ((le j a i:Nat):Int) (zgr kd (j.getD (a+i) 0) ((8*i:Nat):Int))=((le j a (i+1):Nat):Int):=by
 obtain ⟨b1,b2⟩:=zQY hb (a+i)
 have h1:=z0z hb a i
 have hp:2 ^ (8*i+8)≤2 ^ kd.bits:=Yf (by decide) hi
 have hq:2 ^ (8*i+8)=2 ^ (8*i)*256:=by rw [Nat.pow_add]
 have h2:=WI (2 ^ (8*i)) b1
 have h3:0<2 ^ (8*i):=Nat.pow_pos (by decide)
 rw [z1p] at h1
 rw [b2,z1j kd hk (by omega) (by omega),z7o,z4r kd hk h1 (by omega),le,z1p,Nat.add_comm]
theorem z39{l:List Int}{i:Nat}(h:i<l.length):(yq .u8 l)[i]?=some [.sc (.int .u8 (l.getD i 0))]:=by rw [z76 _ h]; simp [h]
theorem cI8(n:Int)(k:Int→Option β):cI .u8 [V.sc (.int .u8 n)] 0 k=k n:=zhl rfl k
theorem z31(L:Nat)(j:List Int){a w:Nat}(ha:a≤j.length)(hj:j.length≤100000000)(hw:w≤100)(k:Int→Option β):xA β L (yq .u8 j) (a:Int) (w:Int) k=if a+w≤j.length then k 0 else k 1:=by
 unfold xA zEQ
 rw [zG (by omega),zF,zG (by omega),zas (by omega) (by omega),yt,zLo]
 by_cases h:a+w≤j.length
 ·rw [if_neg (by omega),if_pos h]
 ·rw [if_pos (by omega),if_neg h]
theorem zY3(L:Nat){j:List Int}(hb:Byt j)(hj:j.length≤100000000){a:Nat}(h:a+4≤j.length)(kx:Int→Int→Int→Option β):∀ (n i:Nat),i≤4→4-i<n →
  zde xA L kx n (yq .u8 j) (a:Int) 4 ((le j a i:Nat):Int) 4 (i:Int)=kx a 4 ((le j a 4:Nat):Int)
 | 0,i,h1,h2=>by omega
 | n+1,i,h1,h2=>by
  rw [zde]
  unfold zit
  by_cases hi:i<4
  ·have w1:QG .i64 ((a:Int)+i)=((a+i:Nat):Int):=by rw [zas (by omega) (by omega)]; omega
   have w2:QG .i64 ((8:Int)*i)=((8*i:Nat):Int):=by rw [zas (by omega) (by omega)]; omega
   have hg:=zQY hb (a+i)
   rw [zI (by omega),w1,yt,zaA (z39 (by omega)),cI8,zkq (by omega) (by omega),yt,w2,yt,yf (by omega),yt,z6b .u32 rfl hb a i (by show 8*i+8≤32; omega),yt,zek (by omega),yt]
   exact zY3 L hb hj h kx n (i+1) (by omega) (by omega)
  ·have hi:i=4:=by omega
   subst hi
   rw [zG (by omega)]
theorem zUF{L:Nat}(hL:20≤L){j:List Int}(hb:Byt j)(hj:j.length≤100000000){a:Nat}(ha:a≤j.length)(k:Int→Int→Int→Option β):za0 β L (yq .u8 j) (a:Int) k=if a+4≤j.length then k ((le j a 4:Nat):Int) ((a+4:Nat):Int) 0 else k 0 0 1:=by
 unfold za0 zH3 y9 zi9 znu
 rw [show (4:Int)=((4:Nat):Int) from rfl,z31 L j ha hj (by decide)]
 by_cases h:a+4≤j.length
 ·rw [if_pos h,if_pos h,zlv,if_pos rfl]
  refine (zY3 L hb hj h _ L 0 (by omega) (by omega)).trans ?_
  unfold zgW
  rw [zas (by omega) (by omega),yt]
  congr 1
 ·rw [if_neg h,if_neg h,zlv,if_neg (by decide)]
theorem z1u(L:Nat){j:List Int}(hb:Byt j)(hj:j.length≤100000000){a w:Nat}(hw:w≤8)(h:a+w≤j.length)(kx:Int→Int→Int→Option β):∀ (n i:Nat),i≤w→i<n →
  zdv L kx n (yq .u8 j) (a:Int) (w:Int) ((le j (a+i) (w-i):Nat):Int) ((i:Int)-1)=kx a w ((le j a w:Nat):Int)
 | 0,i,h1,h2=>by omega
 | n+1,0,h1,h2=>by
  rw [zdv]
  unfold zhg
  rw [zG (by omega)]; rfl
 | n+1,i+1,h1,h2=>by
  have e0:((i+1:Nat):Int)-1=(i:Int):=by omega
  have w1:QG .i64 ((a:Int)+i)=((a+i:Nat):Int):=by rw [zas (by omega) (by omega)]; omega
  have w3:QG .i64 ((i:Int)-1)=(i:Int)-1:=zas (by omega) (by omega)
  have hl:=z0z hb (a+(i+1)) (w-(i+1))
  have hp:256 ^ (w-(i+1))≤256 ^ 7:=Yf (by decide) (by omega)
  have hg:=zQY hb (a+i)
  have e1:le j (a+i) (w-i)=le j (a+(i+1)) (w-(i+1))*2 ^ 8+zvZ j (a+i):=by
   rw [show w-i=(w-(i+1))+1 by omega,zXb,show a+i+1=a+(i+1) by omega]; omega
  have hx:le j (a+(i+1)) (w-(i+1))*2 ^ 8+zvZ j (a+i)<2 ^ (IntKind.bits .u64):=by
   show _<2 ^ 64
   have:(256:Nat) ^ 7=72057594037927936:=by decide
   have:(2:Nat) ^ 64=18446744073709551616:=by decide
   omega
  rw [zdv]
  unfold zhg
  rw [e0,zI (by omega),show (8:Int)=((8:Nat):Int) from rfl,z1j .u64 rfl (by decide) (by omega),yt,w1,yt,zaA (z39 (by omega)),cI8,zbQ (by omega) (by omega),yt,hg.2,z4r .u64 rfl (by omega) hx,yt,w3,yt,← e1]
  exact z1u L hb hj hw h kx n i (by omega) (by omega)
theorem ybJ{L:Nat}(hL:20≤L){j:List Int}(hb:Byt j)(hj:j.length≤100000000){a w:Nat}(ha:a≤j.length)(hw:w≤8)(k:Int→Int→Int→Option β):zaM β L (yq .u8 j) (a:Int) (w:Int) k=if a+w≤j.length then k ((le j a w:Nat):Int) ((a+w:Nat):Int) 0 else k 0 0 1:=by
 unfold zaM zqh zxy
 rw [zG (by omega),zF,zG (by omega),zas (by omega) (by omega),yt]
 by_cases h:a+w≤j.length
 ·rw [if_pos h,zG (by omega),zas (by omega) (by omega),yt]
  have key:=z1u L hb hj hw h (fun p1 p2 p9=>zf8 L p1 p2 p9 k) L w (Nat.le_refl _) (by omega)
  rw [Nat.sub_self] at key
  refine key.trans ?_
  unfold zf8
  rw [zas (by omega) (by omega),yt]
  congr 1
 ·rw [if_neg h,zI (by omega)]
theorem zQ2{L:Nat}(hL:20≤L){j:List Int}(hb:Byt j)(hj:j.length≤100000000){a:Nat}(ha:a≤j.length)(k:Int→Int→Int→Option β):za1 β L (yq .u8 j) (a:Int) k=if a+4≤j.length then k ((le j a 4:Nat):Int) ((a+4:Nat):Int) 0 else k 0 0 1:=by
 unfold za1 zIJ
 rw [show (4:Int)=((4:Nat):Int) from rfl,ybJ hL hb hj ha (by decide)]
 have h4:=z0z hb a 4
 have:(256:Nat) ^ 4=4294967296:=by decide
 by_cases h:a+4≤j.length
 ·rw [if_pos h,if_pos h,zkq (by omega) (by omega),yt]
 ·rw [if_neg h,if_neg h,zkq (by decide) (by decide),yt]
end
section
def zjd(w:List (List Int)):Ls:=w.map fun b=>[V.sl 1 (yq .u8 b)]
structure Inp where
 pv:List Int
 seq:Int
 wit:List (List Int)
structure Outp where
 val:Int
 scr:List Int
structure TxT where
 ver:Int
 ins:List Inp
 outs:List Outp
 lock:Int
def zgi(x:Inp):List V:=[V.sc (.int .u8 (x.pv.getD 0 0)),V.sc (.int .u8 (x.pv.getD 1 0)),V.sc (.int .u8 (x.pv.getD 2 0)),V.sc (.int .u8 (x.pv.getD 3 0)),V.sc (.int .u8 (x.pv.getD 4 0)),V.sc (.int .u8 (x.pv.getD 5 0)),V.sc (.int .u8 (x.pv.getD 6 0)),V.sc (.int .u8 (x.pv.getD 7 0)),V.sc (.int .u8 (x.pv.getD 8 0)),V.sc (.int .u8 (x.pv.getD 9 0)),V.sc (.int .u8 (x.pv.getD 10 0)),V.sc (.int .u8 (x.pv.getD 11 0)),V.sc (.int .u8 (x.pv.getD 12 0)),V.sc (.int .u8 (x.pv.getD 13 0)),V.sc (.int .u8 (x.pv.getD 14 0)),V.sc (.int .u8 (x.pv.getD 15 0)),V.sc (.int .u8 (x.pv.getD 16 0)),V.sc (.int .u8 (x.pv.getD 17 0)),V.sc (.int .u8 (x.pv.getD 18 0)),V.sc (.int .u8 (x.pv.getD 19 0)),V.sc (.int .u8 (x.pv.getD 20 0)),V.sc (.int .u8 (x.pv.getD 21 0)),V.sc (.int .u8 (x.pv.getD 22 0)),V.sc (.int .u8 (x.pv.getD 23 0)),V.sc (.int .u8 (x.pv.getD 24 0)),V.sc (.int .u8 (x.pv.getD 25 0)),V.sc (.int .u8 (x.pv.getD 26 0)),V.sc (.int .u8 (x.pv.getD 27 0)),V.sc (.int .u8 (x.pv.getD 28 0)),V.sc (.int .u8 (x.pv.getD 29 0)),V.sc (.int .u8 (x.pv.getD 30 0)),V.sc (.int .u8 (x.pv.getD 31 0)),V.sc (.int .u32 (x.pv.getD 32 0)),V.sc (.int .u32 x.seq),V.sl 1 (zjd x.wit)]
def zhv(o:Outp):List V:=[V.sc (.int .i64 o.val),V.sl 1 (yq .u8 o.scr)]
def zcA(t:TxT):List V:=[V.sc (.int .u32 t.ver),V.sl 35 (t.ins.map zgi),V.sl 2 (t.outs.map zhv),V.sc (.int .u32 t.lock)]
section
variable {β:Type}
theorem zpA(x:Inp)(k:Int→Option β):cI .u32 (zgi x) 33 k=k x.seq:=zhl rfl k
theorem zKi(x:Outp)(k:Int→Option β):cI .i64 (zhv x) 0 k=k x.val:=zhl rfl k
theorem zKJ(x:TxT)(k:Int→Option β):cI .u32 (zcA x) 0 k=k x.ver:=zhl rfl k
theorem zp9(x:TxT)(k:Int→Option β):cI .u32 (zcA x) 3 k=k x.lock:=zhl rfl k
end
theorem zTV(x:Inp):(zgi x).length=35:=by simp [zgi]
theorem zjz(x:Inp):XL 35 (zgi x)=zgi x:=by simp [zgi]
theorem zMa(x:Outp):(zhv x).length=2:=by simp [zhv]
theorem ztU(x:Outp):XL 2 (zhv x)=zhv x:=by simp [zhv]
theorem zmk(x:TxT):(zcA x).length=4:=by simp [zcA]
def zcW(l:List Int):Prop:=∀ n∈l,0≤n∧n≤255
structure InpOk (x:Inp):Prop where
 pv:x.pv.length=33
 by_:∀ j,j<32→0≤x.pv.getD j 0∧x.pv.getD j 0≤255
 ix:0≤x.pv.getD 32 0∧x.pv.getD 32 0≤4294967295
 seq:0≤x.seq∧x.seq≤4294967295
 wit:∀ b∈x.wit,zcW b∧b.length≤maxLen
 wl:x.wit.length≤maxLen
structure OutpOk (x:Outp):Prop where
 val:-9223372036854775808≤x.val∧x.val≤9223372036854775807
 scr:zcW x.scr
 sl:x.scr.length≤maxLen
structure TxOk (t:TxT):Prop where
 ver:0≤t.ver∧t.ver≤4294967295
 lock:0≤t.lock∧t.lock≤4294967295
 ins:∀ x∈t.ins,InpOk x
 outs:∀ x∈t.outs,OutpOk x
 il:t.ins.length≤maxLen
 ol:t.outs.length≤maxLen
theorem HasRow.tail{ct:CT}{cts:List CT}{vs:List V}(h:HasRow (ct::cts) vs):∃ v r,vs=v::r∧HasC ct v∧HasRow cts r:=by
 cases vs with
 | nil=>have:=h.1; simp at this
 | cons v r=>exact ⟨v,r,rfl,h.2 0 v ct rfl rfl,⟨by simpa using h.1,fun i c ct hc hct=>h.2 (i+1) c ct (by simpa using hc) (by simpa using hct)⟩⟩
theorem HasRow.nil{vs:List V}(h:HasRow [] vs):vs=[]:=List.length_eq_zero_iff.1 (by simpa using h.1)
theorem z2z:∀ {es:Ls},(∀ e∈es,HasRow [.sl [.int .u8]] e)→∃ w:List (List Int),es=zjd w∧∀ b∈w,zcW b∧b.length≤maxLen
 | [],_=>⟨[],rfl,by simp⟩
 | e::es,h=>by
  obtain ⟨v,r,rfl,h1,h2⟩:=(h e (by simp)).tail
  obtain rfl:=h2.nil
  obtain ⟨xs,rfl,hl,hx⟩:=h1.sl_inv
  obtain ⟨l,rfl,hw⟩:=zQS hx
  obtain ⟨w,rfl,hw'⟩:=z2z (es:=es) (fun x hx=>h x (by simp [hx]))
  refine ⟨l::w,rfl,fun b hb=>?_⟩
  rcases Q9.1 hb with rfl | hb
  ·exact ⟨fun n hn=>zQ3 (hw n hn),by simpa [yq] using hl⟩
  ·exact hw' b hb
theorem z4M:∀ {es:Ls},(∀ e∈es,HasRow [.int .i64,.sl [.int .u8]] e)→∃ w:List Outp,es=w.map zhv∧∀ b∈w,OutpOk b
 | [],_=>⟨[],rfl,by simp⟩
 | e::es,h=>by
  obtain ⟨v,r,rfl,h1,h2⟩:=(h e (by simp)).tail
  obtain ⟨v2,r2,rfl,h3,h4⟩:=h2.tail
  obtain rfl:=h4.nil
  obtain ⟨n,rfl,hn⟩:=h1.int_inv
  obtain ⟨xs,rfl,hl,hx⟩:=h3.sl_inv
  obtain ⟨l,rfl,hw⟩:=zQS hx
  obtain ⟨w,rfl,hw'⟩:=z4M (es:=es) (fun x hx=>h x (by simp [hx]))
  refine ⟨⟨n,l⟩::w,rfl,fun b hb=>?_⟩
  rcases Q9.1 hb with rfl | hb
  ·exact ⟨ybb hn,fun n hn=>zQ3 (hw n hn),by simpa [yq] using hl⟩
  ·exact hw' b hb
theorem zGp{a b:List CT}{vs:List V}(h:HasRow (a++b) vs):∃ r s,vs=r++s∧HasRow a r∧HasRow b s:=by
 refine ⟨vs.take a.length,vs.drop a.length,(List.take_append_drop _ _).symm,⟨?_,fun i c ct hc hct=>?_⟩,⟨?_,fun i c ct hc hct=>?_⟩⟩
 ·have:=h.1; simp at this ⊢; omega
 ·have hi:i<a.length:=(List.getElem?_eq_some_iff.1 hct).1
  refine h.2 i c ct ?_ (by rw [Wv hi]; exact hct)
  rw [List.getElem?_take,if_pos hi] at hc; exact hc
 ·have:=h.1; simp at this ⊢; omega
 ·refine h.2 (a.length+i) c ct (by rw [List.getElem?_drop] at hc; exact hc) ?_
  rw [Wt (by omega)]; simpa using hct
theorem z3E{l:List Int}(hl:l.length=32)(i s:Int)(w:List (List Int)):row .u8 l++[V.sc (.int .u32 i),V.sc (.int .u32 s),V.sl 1 (zjd w)]=zgi ⟨l++[i],s,w⟩:=by
 match l,hl with
 | [x0,x1,x2,x3,x4,x5,x6,x7,x8,x9,x10,x11,x12,x13,x14,x15,x16,x17,x18,x19,x20,x21,x22,x23,x24,x25,x26,x27,x28,x29,x30,x31],_=>rfl
theorem z6t:∀ {es:Ls},(∀ e∈es,HasRow (We 32 (.int .u8)++[.int .u32,.int .u32,.sl [.sl [.int .u8]]]) e)→∃ w:List Inp,es=w.map zgi∧∀ b∈w,InpOk b
 | [],_=>⟨[],rfl,by simp⟩
 | e::es,h=>by
  obtain ⟨r,s,rfl,h1,h2⟩:=zGp (h e (by simp))
  obtain ⟨l,rfl,hl,hw⟩:=zVx h1
  obtain ⟨v1,r1,rfl,g1,h2⟩:=h2.tail
  obtain ⟨v2,r2,rfl,g2,h2⟩:=h2.tail
  obtain ⟨v3,r3,rfl,g3,h2⟩:=h2.tail
  obtain rfl:=h2.nil
  obtain ⟨i,rfl,hi⟩:=g1.int_inv
  obtain ⟨q,rfl,hq⟩:=g2.int_inv
  obtain ⟨xs,rfl,hxl,hx⟩:=g3.sl_inv
  obtain ⟨wt,rfl,hwt⟩:=z2z hx
  obtain ⟨w,rfl,hw'⟩:=z6t (es:=es) (fun x hx=>h x (by simp [hx]))
  refine ⟨⟨l++[i],q,wt⟩::w,by rw [List.map_cons,← z3E hl]; rfl,fun b hb=>?_⟩
  rcases Q9.1 hb with rfl | hb
  ·refine ⟨by simp [hl],fun j hj=>?_,?_,zzG hq,hwt,by simpa [zjd] using hxl⟩
   ·have:(l++[i]).getD j 0=l[j]'(by omega):=by
     rw [Ws,Wv (by omega),Wc (by omega)]; rfl
    show 0≤(l++[i]).getD j 0∧(l++[i]).getD j 0≤255
    rw [this]; exact zQ3 (hw _ (W2 _))
   ·have:(l++[i]).getD 32 0=i:=by
     rw [Ws,Wt (by omega),hl]; rfl
    show 0≤(l++[i]).getD 32 0∧(l++[i]).getD 32 0≤4294967295
    rw [this]; exact zzG hi
  ·exact hw' b hb
theorem yb5{a:List V}(h:HasRow ([.int .u32]++[.sl (We 32 (.int .u8)++We 2 (.int .u32)++[.sl ([.sl ([.int .u8])])])]++[.sl ([.int .i64]++[.sl ([.int .u8])])]++[.int .u32]) a):∃ t,a=zcA t∧TxOk t:=by
 obtain ⟨v1,r1,rfl,g1,h⟩:=h.tail
 obtain ⟨v2,r2,rfl,g2,h⟩:=h.tail
 obtain ⟨v3,r3,rfl,g3,h⟩:=h.tail
 obtain ⟨v4,r4,rfl,g4,h⟩:=h.tail
 obtain rfl:=h.nil
 obtain ⟨n,rfl,hn⟩:=g1.int_inv
 obtain ⟨m,rfl,hm⟩:=g4.int_inv
 obtain ⟨xs,rfl,hxl,hx⟩:=g2.sl_inv
 obtain ⟨ys,rfl,hyl,hy⟩:=g3.sl_inv
 obtain ⟨is,rfl,his⟩:=z6t (fun e he=>by
  have:=hx e he
  rw [List.append_assoc] at this
  exact this)
 obtain ⟨os,rfl,hos⟩:=z4M (fun e he=>hy e he)
 exact ⟨⟨n,is,os,m⟩,rfl,⟨zzG hn,zzG hm,his,hos,by simpa using hxl,by simpa using hyl⟩⟩
end
section
variable {β:Type}
theorem zpe(x:Inp):zk (We 32 (Qa (0:Int))++[(Qc (0:Int)),(Qc (0:Int)),(V.gs 1 ([]:Ls))]) 0 (zgi x)=zgi x:=zc3 (by rw [zTV]; rfl)
theorem zET(x:Outp):zk [(Qe (0:Int)),(V.gs 1 ([]:Ls))] 0 (zhv x)=zhv x:=zc3 (by rw [zMa]; rfl)
theorem zlV(x:Inp)(k:Option β):chk ((XK (XL 35 (zgi x)))=35∧0+35≤35) k=k:=yf ⟨by rw [zjz,zTV],by decide⟩ k
theorem zDI(x:Outp)(k:Option β):chk ((XK (XL 2 (zhv x)))=2∧0+2≤2) k=k:=yf ⟨by rw [ztU,zMa],by decide⟩ k
theorem zpi(x:Inp)(k:Ls→Option β):cLd 1 (zgi x) 34 k=k (zjd x.wit):=zDH rfl k
theorem zKt(x:Outp)(k:Ls→Option β):cLd 1 (zhv x) 1 k=k (yq .u8 x.scr):=zDH rfl k
theorem ziE(x:TxT)(k:Ls→Option β):cLd 35 (zcA x) 1 k=k (x.ins.map zgi):=zDH rfl k
theorem zhp(x:TxT)(k:Ls→Option β):cLd 2 (zcA x) 2 k=k (x.outs.map zhv):=zDH rfl k
theorem zgm(x:TxT):Xv V.dem (XL 4 (zcA x))=zcA x:=Eq.trans rfl rfl
theorem z8O(x:Outp):Xv V.dem (XL 2 (zhv x))=zhv x:=Eq.trans rfl rfl
theorem up{i:Nat}(h:i≤1000000000):QG .i64 ((i:Int)+1)=((i+1:Nat):Int):=by
 rw [zas (by omega) (by omega)]; omega
theorem zza(w:List (List Int)):(zjd w).length=w.length:=by simp [zjd]
theorem ztF{w:List (List Int)}{i:Nat}(h:i<w.length):(zjd w)[i]?=some [V.sl 1 (yq .u8 w[i])]:=by simp [zjd,h]
theorem zhy{α:Type}{l:List α}{p:α→Bool}{i:Nat}(h:i<l.length):(l.drop i).all p=(p l[i]&&(l.drop (i+1)).all p):=by
 rw [WQ h]; rfl
theorem zJu(L:Nat)(b:Int)(kr:Bool→Option β)(kx:Option β)(w:List (List Int))(hw:w.length≤1000000):∀ (n i:Nat),i≤w.length→w.length-i<n →
  zhU L kr kx n b (zjd w) (w.length:Int) (i:Int)=ifb ((w.drop i).all fun x=>decide ((x.length:Int)≤b)) kx (kr false)
 | 0,i,h1,h2=>by omega
 | n+1,i,h1,h2=>by
  simp only [zhU,zqN,yt]
  by_cases h:i<w.length
  ·rw [zI (by omega),zaA (ztF h),znh rfl,up (by omega),zJu L b kr kx w hw n (i+1) (by omega) (by omega),zhy h]
   simp only [zF]
   by_cases hb:((w[i].length:Nat):Int)≤b
   ·rw [zG (by omega)]; simp [hb]
   ·rw [zI (by omega)]; simp [hb,ifb]
  ·rw [zG (by omega),WK (by omega)]; rfl
theorem z7F{L:Nat}(hL:2000≤L){a b:Int}(ha:a≤1000)(w:List (List Int))(k:Bool→Option β):xo β L (zjd w) a b k=k (decide ((w.length:Int)≤a)&&w.all fun x=>decide ((x.length:Int)≤b)):=by
 simp only [xo,zt5,zC4,zza,zmJ,znn]
 by_cases h:(w.length:Int)≤a
 ·rw [zG (by omega),show ((0:Int))=((0:Nat):Int) from rfl,zJu L b _ _ w (by omega) L 0 (by omega) (by omega)]
  simp only [Yd,h,decide_true,Bool.true_and]
  cases w.all fun x=>decide ((x.length:Int)≤b) <;> rfl
 ·rw [zI (by omega)]; simp [h]
theorem ztQ{l:List Inp}{i:Nat}(h:i<l.length):(l.map zgi)[i]?=some (zgi l[i]):=by simp [h]
theorem zEb{l:List Outp}{i:Nat}(h:i<l.length):(l.map zhv)[i]?=some (zhv l[i]):=by simp [h]
def zQ5(x:Inp):Bool:=decide ((x.wit.length:Int)≤40)&&x.wit.all fun y=>decide ((y.length:Int)≤600)
theorem zZx{L:Nat}(hL:2000≤L)(kr:Bool→Option β)(kx:List V→Option β)(l:List Inp)(hl:l.length≤1000000)(b1:List V):∀ (n i:Nat),i≤l.length→l.length-i<n →
  zlH xo L kr kx n (l.map zgi) (l.length:Int) (i:Int) b1=ifb ((l.drop i).all zQ5) (kx b1) (kr false)
 | 0,i,h1,h2=>by omega
 | n+1,i,h1,h2=>by
  simp only [zlH,zxu,yt]
  by_cases h:i<l.length
  ·rw [zI (by omega),zaA (ztQ h)]
   rw [zlV,zjz,zpe]
   simp only [zpi,zpA]
   rw [z7F hL (by omega),up (by omega),zZx hL kr kx l hl b1 n (i+1) (by omega) (by omega),zhy h]
   show ifb (!(zQ5 l[i])) _ _=_
   cases zQ5 l[i] <;> rfl
  ·rw [zG (by omega),WK (by omega)]; rfl
def zQ6(x:Outp):Bool:=decide ((x.scr.length:Int)≤600)
theorem zVr{L:Nat}(kr:Bool→Option β)(kx:Option β)(l:List Outp)(hl:l.length≤1000000):∀ (n i:Nat),i≤l.length→l.length-i<n →
  zjG xo L kr kx n (l.map zhv) (l.length:Int) (i:Int)=ifb ((l.drop i).all zQ6) kx (kr false)
 | 0,i,h1,h2=>by omega
 | n+1,i,h1,h2=>by
  simp only [zjG,zuT,yt]
  by_cases h:i<l.length
  ·rw [zI (by omega),zaA (zEb h)]
   rw [zDI,ztU,zET]
   simp only [zKt,zKi,zF]
   rw [up (by omega),zVr kr kx l hl n (i+1) (by omega) (by omega),zhy h]
   by_cases hb:((l[i].scr.length:Nat):Int)≤600
   ·rw [zG (by omega)]; simp [zQ6,hb]
   ·rw [zI (by omega)]; simp [zQ6,hb,ifb]
  ·rw [zG (by omega),WK (by omega)]; rfl
def zIu(t:TxT):Bool:=decide (t.ins.length≤70)&&decide (t.outs.length≤70)&&t.ins.all zQ5&&t.outs.all zQ6
theorem ybU{L:Nat}(hL:2000≤L)(t:TxT)(k:Bool→Option β):yO β L (zcA t) k=k (zIu t):=by
 simp only [yO,zGA,zPF,zmk,zsE]
 simp only [ziE,zhp,zKJ,zp9,QB,zrc,zkK,ztd,zpL,zrr]
 by_cases h1:t.ins.length≤70
 ·rw [zG (by omega)]
  by_cases h2:t.outs.length≤70
  ·rw [zG (by omega),show ((0:Int))=((0:Nat):Int) from rfl,zZx hL _ _ _ (by omega) _ L 0 (by omega) (by omega)]
   simp only [zhp,QB]
   rw [zVr _ _ _ (by omega) L 0 (by omega) (by omega)]
   simp only [Yd,zIu,h1,h2,decide_true,Bool.true_and]
   cases t.ins.all zQ5 <;> cases t.outs.all zQ6 <;> rfl
  ·rw [zI (by omega)]; simp [zIu,h2]
 ·rw [zI (by omega)]; simp [zIu,h1]
structure KeptP (t:TxT):Prop where
 ni:t.ins.length≤70
 no:t.outs.length≤70
 wl:∀ x∈t.ins,x.wit.length≤40
 wi:∀ x∈t.ins,∀ y∈x.wit,y.length≤600
 sl:∀ x∈t.outs,x.scr.length≤600
theorem ybD{t:TxT}(h:zIu t=true):KeptP t:=by
 simp only [zIu,zQ5,zQ6,Bool.and_eq_true,decide_eq_true_eq,List.all_eq_true] at h
 exact ⟨h.1.1.1,h.1.1.2,fun x hx=>by have:=(h.1.2 x hx).1; omega,fun x hx y hy=>by have:=(h.1.2 x hx).2 y hy; omega,fun x hx=>by have:=h.2 x hx; omega⟩
end
section
variable {β:Type}
theorem zlg{a b:Nat}(h:a+b≤1000000000000):(a+b)*1≤xm∧a+b≤xm:=by
 unfold xm; omega
def zfW(n:Int)(w:Nat):List Int:=(List.range w).map fun (i:Nat)=>QG .u8 (zcN .u64 n (8*(i:Int)))
theorem zeP(n:Int)(w:Nat):(zfW n w).length=w:=by simp [zfW]
def zsN(n:Int):List Int:=zfW (QG .u64 n) 4
def z1Z(n:Int):List Int:=zfW n 8
theorem zbv(n:Int):(zsN n).length=4:=zeP _ _
theorem zmc(n:Int):(z1Z n).length=8:=zeP _ _
def szB(n:Int):List Int:=if n<253 then [QG .u8 n] else if n<65536 then 253::zfW n 2 else if n<4294967296 then 254::zfW n 4 else 255::zfW n 8
theorem zhm(n:Int):(szB n).length≤9:=by
 unfold szB; repeat' split
 all_goals simp [zeP]
def bsB(s:List Int):List Int:=szB (s.length:Int)++s
def zve(x:Inp):List V:=[V.sc (.int .u8 (x.pv.getD 0 0)),V.sc (.int .u8 (x.pv.getD 1 0)),V.sc (.int .u8 (x.pv.getD 2 0)),V.sc (.int .u8 (x.pv.getD 3 0)),V.sc (.int .u8 (x.pv.getD 4 0)),V.sc (.int .u8 (x.pv.getD 5 0)),V.sc (.int .u8 (x.pv.getD 6 0)),V.sc (.int .u8 (x.pv.getD 7 0)),V.sc (.int .u8 (x.pv.getD 8 0)),V.sc (.int .u8 (x.pv.getD 9 0)),V.sc (.int .u8 (x.pv.getD 10 0)),V.sc (.int .u8 (x.pv.getD 11 0)),V.sc (.int .u8 (x.pv.getD 12 0)),V.sc (.int .u8 (x.pv.getD 13 0)),V.sc (.int .u8 (x.pv.getD 14 0)),V.sc (.int .u8 (x.pv.getD 15 0)),V.sc (.int .u8 (x.pv.getD 16 0)),V.sc (.int .u8 (x.pv.getD 17 0)),V.sc (.int .u8 (x.pv.getD 18 0)),V.sc (.int .u8 (x.pv.getD 19 0)),V.sc (.int .u8 (x.pv.getD 20 0)),V.sc (.int .u8 (x.pv.getD 21 0)),V.sc (.int .u8 (x.pv.getD 22 0)),V.sc (.int .u8 (x.pv.getD 23 0)),V.sc (.int .u8 (x.pv.getD 24 0)),V.sc (.int .u8 (x.pv.getD 25 0)),V.sc (.int .u8 (x.pv.getD 26 0)),V.sc (.int .u8 (x.pv.getD 27 0)),V.sc (.int .u8 (x.pv.getD 28 0)),V.sc (.int .u8 (x.pv.getD 29 0)),V.sc (.int .u8 (x.pv.getD 30 0)),V.sc (.int .u8 (x.pv.getD 31 0)),V.sc (.int .u32 (x.pv.getD 32 0))]
def zMq(x:Inp):List Int:=[x.pv.getD 0 0,x.pv.getD 1 0,x.pv.getD 2 0,x.pv.getD 3 0,x.pv.getD 4 0,x.pv.getD 5 0,x.pv.getD 6 0,x.pv.getD 7 0,x.pv.getD 8 0,x.pv.getD 9 0,x.pv.getD 10 0,x.pv.getD 11 0,x.pv.getD 12 0,x.pv.getD 13 0,x.pv.getD 14 0,x.pv.getD 15 0,x.pv.getD 16 0,x.pv.getD 17 0,x.pv.getD 18 0,x.pv.getD 19 0,x.pv.getD 20 0,x.pv.getD 21 0,x.pv.getD 22 0,x.pv.getD 23 0,x.pv.getD 24 0,x.pv.getD 25 0,x.pv.getD 26 0,x.pv.getD 27 0,x.pv.getD 28 0,x.pv.getD 29 0,x.pv.getD 30 0,x.pv.getD 31 0]
def ptB(x:Inp):List Int:=zMq x++zsN (x.pv.getD 32 0)
theorem z2k(x:Inp):(zve x).length=33:=by simp [zve]
theorem zYK(x:Inp):(XL 32 (zve x)).length=32:=by simp [zve]
theorem zSx(x:Inp):yl 1 32 (XL 32 (zve x))=yq .u8 (zMq x):=by rfl
theorem z60(x:Inp)(k:Int→Option β):cI .u32 (zve x) 32 k=k (x.pv.getD 32 0):=zhl rfl k
theorem zyP(x:Inp):(zMq x).length=32:=by simp [zMq]
theorem zxI(x:Inp):(ptB x).length=36:=by simp [ptB,zyP,zbv]
theorem zgw(k:IntKind):([]:Ls)=yq k []:=rfl
theorem z6Y(k:IntKind)(n:Int):zcN k n 0=n:=by
 simp [zcN,Int.fdiv_one]
theorem z8C(n:Int):zfW n 1=[QG .u8 n]:=by
 simp [zfW,List.range_succ,z6Y]
theorem z6Z(x:Inp):XL 33 (zgi x)=zve x:=by rfl
theorem z34(x:Inp)(k:Option β):chk (0+33≤(XK (zgi x))) k=k:=yf (by rw [zTV]; omega) k
theorem z9i(x:Outp)(k:Option β):chk (0+2≤(XK (zhv x))) k=k:=yf (by rw [zMa]; omega) k
theorem zgl(x:TxT)(k:Option β):chk (0+4≤(XK (zcA x))) k=k:=yf (by rw [zmk]; omega) k
theorem zrI{L:Nat}{b s:List Int}(h:b.length+s.length≤1000000000000)(k:Ls→Option β):xl β L (yq .u8 b) (yq .u8 s) k=k (yq .u8 (b++s)):=by
 simp only [xl,zxz,yt,zF,Yg,List.length_nil,Ye]
 rw [zas (by omega) (by omega),yf (by unfold xm; omega),yf (by unfold xm; omega),yf (zlg h),zbR]
theorem ycV(L:Nat)(n:Int)(k:Ls→Option β):yD β (L+20) n 2 k=k (yq .u8 (zfW n 2)):=by kernel_rfl
theorem ycu(L:Nat)(n:Int)(k:Ls→Option β):yD β (L+20) n 4 k=k (yq .u8 (zfW n 4)):=by kernel_rfl
theorem ycO(L:Nat)(n:Int)(k:Ls→Option β):yD β (L+20) n 8 k=k (yq .u8 (zfW n 8)):=by kernel_rfl
theorem z02{L:Nat}(hL:20≤L)(n:Int)(k:Ls→Option β):yD β L n 2 k=k (yq .u8 (zfW n 2))∧yD β L n 4 k=k (yq .u8 (zfW n 4))∧yD β L n 8 k=k (yq .u8 (zfW n 8)):=by
 obtain ⟨m,rfl⟩:∃ m,L=m+20:=⟨L-20,by omega⟩
 exact ⟨ycV m n k,ycu m n k,ycO m n k⟩
theorem ycn{L:Nat}(hL:20≤L){b:List Int}(h:b.length≤900000000000)(n:Int)(k:Ls→Option β):zae β L (yq .u8 b) n k=k (yq .u8 (b++zfW (QG .u64 n) 2)):=by
 simp only [zae,zrm,yt]
 rw [(z02 hL _ _).1,zrI (by rw [zeP]; omega)]
theorem zCu{L:Nat}(hL:20≤L){b:List Int}(h:b.length≤900000000000)(n:Int)(k:Ls→Option β):yb β L (yq .u8 b) n k=k (yq .u8 (b++zsN n)):=by
 simp only [yb,zqB,yt]
 rw [(z02 hL _ _).2.1,zrI (by rw [zeP]; omega)]; rfl
theorem z9o{L:Nat}(hL:20≤L){b:List Int}(h:b.length≤900000000000)(n:Int)(k:Ls→Option β):zd β L (yq .u8 b) n k=k (yq .u8 (b++z1Z n)):=by
 simp only [zd,zq2,yt]
 rw [(z02 hL _ _).2.2,zrI (by rw [zeP]; omega)]; rfl
theorem z4n(n:Int):yl 1 1 [V.sc (.int .u8 n)]=yq .u8 [n]:=rfl
theorem zJd{L:Nat}(hL:20≤L){b:List Int}(h:b.length≤800000000000){n:Int}(h0:0≤n)(k:Ls→Option β):za β L (yq .u8 b) n k=k (yq .u8 (b++szB n)):=by
 simp only [za,zpr,yt,z4n,zLo]
 unfold szB
 split
 ·rw [zrI (by simp; omega)]
 ·split
  ·rw [zrI (by simp; omega),ycn hL (by simp; omega),z8c (by omega) (by omega),zbQ (by omega) (by omega)]
   simp
  ·split
   ·rw [zrI (by simp; omega),zCu hL (by simp; omega),zsN,zkq (by omega) (by omega),zbQ (by omega) (by omega)]
    simp
   ·rw [zrI (by simp; omega),z9o hL (by simp; omega),z1Z]
    simp
theorem z0S{L:Nat}(hL:20≤L){b s:List Int}(h:b.length≤700000000000)(hs:s.length≤10000000)(k:Ls→Option β):xc β L (yq .u8 b) (yq .u8 s) k=k (yq .u8 (b++bsB s)):=by
 simp only [xc,znF,yt,zF]
 have:=zhm (s.length:Int)
 rw [zbQ (by omega) (by omega),zJd hL (by omega) (by omega),zrI (by simp; omega)]
 simp [bsB]
theorem yaK{L:Nat}(hL:20≤L)(x:Inp)(k:Ls→Option β):yk β L (zve x) k=k (yq .u8 (ptB x)):=by
 simp only [yk,zMf,zH,zjY]
 rw [yf (by rw [z2k]; omega),yf (by rw [zYK]; omega),zSx,zgw .u8,zrI (by simp [zyP]),z60,zCu hL (by simp [zyP])]
 rfl
theorem ziG{L:Nat}{b s:List Int}(h:b.length+s.length≤1000000000000)(k:Ls→Option β):yg β L (yq .u8 b) (yq .u8 s) k=k (yq .u8 (b++s)):=by
 simp only [yg,zw7,yt,zF,Yg,List.length_nil,Ye]
 rw [zas (by omega) (by omega),yf (by unfold xm; omega),yf (by unfold xm; omega),yf (zlg h),zbR]
theorem ycd(L:Nat)(n:Int)(k:Ls→Option β):xy β (L+20) n 1 k=k (yq .u8 (zfW n 1)):=by kernel_rfl
theorem yci(L:Nat)(n:Int)(k:Ls→Option β):xy β (L+20) n 2 k=k (yq .u8 (zfW n 2)):=by kernel_rfl
theorem ycr(L:Nat)(n:Int)(k:Ls→Option β):xy β (L+20) n 4 k=k (yq .u8 (zfW n 4)):=by kernel_rfl
theorem ycg(L:Nat)(n:Int)(k:Ls→Option β):xy β (L+20) n 8 k=k (yq .u8 (zfW n 8)):=by kernel_rfl
theorem zCH{L:Nat}(hL:20≤L)(n:Int)(k:Ls→Option β):xy β L n 1 k=k (yq .u8 (zfW n 1))∧xy β L n 2 k=k (yq .u8 (zfW n 2))∧xy β L n 4 k=k (yq .u8 (zfW n 4))∧xy β L n 8 k=k (yq .u8 (zfW n 8)):=by
 obtain ⟨m,rfl⟩:∃ m,L=m+20:=⟨L-20,by omega⟩
 exact ⟨ycd m n k,yci m n k,ycr m n k,ycg m n k⟩
theorem zyX{L:Nat}(hL:20≤L){b:List Int}(h:b.length≤900000000000)(n:Int)(k:Ls→Option β):xa β L (yq .u8 b) n k=k (yq .u8 (b++zsN n)):=by
 simp only [xa,zq5,yt]
 rw [(zCH hL _ _).2.2.1,ziG (by rw [zeP]; omega)]; rfl
theorem ybE{L:Nat}(hL:20≤L){b:List Int}(h:b.length≤900000000000)(n:Int)(k:Ls→Option β):zaf β L (yq .u8 b) n k=k (yq .u8 (b++z1Z n)):=by
 simp only [zaf,zqV,yt]
 rw [(zCH hL _ _).2.2.2,ziG (by rw [zeP]; omega)]; rfl
theorem zDf{L:Nat}(hL:20≤L){b:List Int}(h:b.length≤800000000000){n:Int}(h0:0≤n)(k:Ls→Option β):ya β L (yq .u8 b) n k=k (yq .u8 (b++szB n)):=by
 simp only [ya,zpO,yt,z4n,zLo]
 unfold szB
 split
 ·rw [(zCH hL _ _).1,ziG (by rw [zeP]; omega),z8C]
 ·split
  ·rw [(zCH hL _ _).2.1,ziG (by simp [zeP]),ziG (by simp [zeP]; omega)]
   simp
  ·split
   ·rw [(zCH hL _ _).2.2.1,ziG (by simp [zeP]),ziG (by simp [zeP]; omega)]
    simp
   ·rw [(zCH hL _ _).2.2.2,ziG (by simp [zeP]),ziG (by simp [zeP]; omega)]
    simp
theorem zYS{L:Nat}(hL:20≤L){b s:List Int}(h:b.length≤700000000000)(hs:s.length≤10000000)(k:Ls→Option β):zc β L (yq .u8 b) (yq .u8 s) k=k (yq .u8 (b++bsB s)):=by
 simp only [zc,znJ,yt,zF]
 have:=zhm (s.length:Int)
 rw [zbQ (by omega) (by omega),zDf hL (by omega) (by omega),ziG (by simp; omega)]
 simp [bsB]
theorem z8g{L:Nat}(hL:20≤L)(x:Inp)(k:Ls→Option β):zf β L (zve x) k=k (yq .u8 (ptB x)):=by
 simp only [zf,zAB,zn,zjU]
 rw [yf (by rw [z2k]; omega),yf (by rw [zYK]; omega),zSx,zgw .u8,ziG (by simp [zyP]),z60,zyX hL (by simp [zyP])]
 rfl
end
section
variable {β:Type}
def inB(x:Inp):List Int:=ptB x++zsN x.seq
def znM(o:Outp):List Int:=z1Z (QG .u64 o.val)++bsB o.scr
def ztj(x:Inp):List Int:=szB (x.wit.length:Int)++x.wit.flatMap bsB
def zlo(t:TxT)(w:Bool):List Int:=zsN t.ver++szB (t.ins.length:Int)++t.ins.flatMap inB++szB (t.outs.length:Int)++t.outs.flatMap znM++zsN t.lock++(if w then t.ins.flatMap ztj else [])
theorem zeo{α:Type}{l:List α}{f:α→List Int}{i:Nat}(h:i<l.length):(l.drop i).flatMap f=f l[i]++(l.drop (i+1)).flatMap f:=by
 rw [WQ h,List.flatMap_cons]
theorem zOP{α:Type}{f:α→List Int}{c:Nat}:∀ {l:List α},(∀ x∈l,(f x).length≤c)→(l.flatMap f).length≤l.length*c
 | [],_=>by simp
 | x::l,h=>by
  have h1:=h x (by simp)
  have h2:=zOP (l:=l) (fun y hy=>h y (by simp [hy]))
  rw [List.flatMap_cons,Wm,List.length_cons,Nat.add_mul]; omega
theorem zXR(x:Inp):(inB x).length=40:=by simp [inB,zxI,zbv]
theorem z4F(s:List Int):(bsB s).length≤9+s.length:=by have:=zhm (s.length:Int); simp [bsB]; omega
theorem z8m(o:Outp):(znM o).length≤17+o.scr.length:=by have:=z4F o.scr; simp [znM,zmc]; omega
theorem z9k{x:Inp}(h1:x.wit.length≤40)(h2:∀ y∈x.wit,y.length≤600):(ztj x).length≤30000:=by
 have h3:=zOP (f:=bsB) (c:=609) (l:=x.wit) (fun y hy=>by have:=z4F y; have:=h2 y hy; omega)
 have h4:=zhm (x.wit.length:Int)
 have h5:x.wit.length*609≤40*609:=WI _ h1
 simp only [ztj,Wm]; omega
theorem z8S(x:Outp):[V.sc (.int .i64 x.val),V.sl 1 (yq .u8 x.scr)]=zhv x:=Eq.trans rfl rfl
theorem ybC{L:Nat}(hL:20≤L){x:Outp}(hs:x.scr.length≤600)(k:Ls→Option β):zi β L (zhv x) k=k (yq .u8 (znM x)):=by
 simp only [zi,zIA,zMa,zsE,yt]
 simp only [zKt,zKi]
 rw [zgw .u8,ybE hL (by simp),zYS hL (by simp [zmc]) (by omega)]
 simp [znM]
theorem z4m{L:Nat}(hL:20≤L)(kx:Bool→Ls→List V→Option β)(l:List Inp)(hl:l.length≤1000000)(w:Bool)(b1:List V):∀ (n i:Nat) (acc:List Int),i≤l.length→l.length-i<n→acc.length+((l.drop i).flatMap inB).length≤500000000000 →
  zhM yb za yk zd xc L kx n w (yq .u8 acc) (l.map zgi) (l.length:Int) (i:Int) b1=kx w (yq .u8 (acc++(l.drop i).flatMap inB)) b1
 | 0,i,acc,h1,h2,h3=>by omega
 | n+1,i,acc,h1,h2,h3=>by
  simp only [zhM,zrn,yt]
  by_cases h:i<l.length
  ·rw [zeo h] at h3
   simp only [Wm,zXR] at h3
   rw [zI (by omega),zaA (ztQ h)]
   rw [zlV,zjz,zpe]
   simp only [zpi,zpA,z34,z6Z]
   rw [yaK hL,zF,zF,yf (zlg (by rw [zxI]; omega)),zbR]
   rw [zgw .u8,zCu hL (by simp),zF,zF,yf (zlg (by simp [zxI,zbv]; omega)),zbR,Ye]
   rw [up (by omega),z4m hL kx l hl w b1 n (i+1) _ (by omega) (by omega) (by simp only [Wm,zxI,zbv]; omega),zeo h]
   simp [inB]
  ·rw [zG (by omega),WK (by omega)]
   simp
theorem z1E{L:Nat}(hL:20≤L)(kx:Bool→Ls→List V→Option β)(l:List Outp)(hl:l.length≤1000000)(hs:∀ x∈l,x.scr.length≤600)(w:Bool)(b1:List V):∀ (n i:Nat) (acc:List Int),i≤l.length→l.length-i<n→acc.length+((l.drop i).flatMap znM).length≤500000000000 →
  zgb yb za yk zd xc L kx n w (yq .u8 acc) (l.map zhv) (l.length:Int) (i:Int) b1=kx w (yq .u8 (acc++(l.drop i).flatMap znM)) b1
 | 0,i,acc,h1,h2,h3=>by omega
 | n+1,i,acc,h1,h2,h3=>by
  simp only [zgb,znC,yt]
  by_cases h:i<l.length
  ·have h4:=hs l[i] (W2 h)
   rw [zeo h] at h3
   simp only [Wm,znM,zmc] at h3
   rw [zI (by omega),zaA (zEb h)]
   rw [zDI,ztU,zET]
   simp only [zKt,zKi,z8S]
   rw [zgw .u8,z9o hL (by simp),zF,zF,yf (zlg (by simp [zmc]; omega)),zbR,Ye,z0S hL (by simp) (by omega),zF,zF,yf (zlg (by simp [zmc]; omega)),zbR,Ye]
   rw [up (by omega),z1E hL kx l hl hs w b1 n (i+1) _ (by omega) (by omega) (by simp only [Wm,zmc,znM]; omega),zeo h]
   simp [znM]
  ·rw [zG (by omega),WK (by omega)]
   simp
theorem zZv{L:Nat}(hL:20≤L)(kx:Ls→Ls→Int→Int→Option β)(wt:List (List Int))(hw:wt.length≤1000000)(hs:∀ y∈wt,y.length≤600)(p77:Ls)(p78 p79:Int):∀ (n i:Nat) (acc:List Int),i≤wt.length→wt.length-i<n→acc.length+((wt.drop i).flatMap bsB).length≤500000000000 →
  zbY yb za yk zd xc L kx n (yq .u8 acc) p77 p78 p79 (zjd wt) (wt.length:Int) (i:Int)=kx (yq .u8 (acc++(wt.drop i).flatMap bsB)) p77 p78 p79
 | 0,i,acc,h1,h2,h3=>by omega
 | n+1,i,acc,h1,h2,h3=>by
  simp only [zbY,zfa,yt]
  by_cases h:i<wt.length
  ·have h4:=hs wt[i] (W2 h)
   rw [zeo h] at h3
   simp only [Wm] at h3
   rw [zI (by omega),zaA (ztF h),znh rfl]
   rw [zgw .u8,z0S hL (by simp) (by omega),Ye,zF,zF,yf (zlg (by omega)),zbR]
   rw [up (by omega),zZv hL kx wt hw hs p77 p78 p79 n (i+1) _ (by omega) (by omega) (by simp only [Wm]; omega),zeo h]
   simp
  ·rw [zG (by omega),WK (by omega)]
   simp
theorem z4B{L:Nat}(hL:20≤L)(kx:Bool→Ls→List V→Option β)(l:List Inp)(hl:l.length≤1000000)(w:Bool)(b1:List V):∀ (n i:Nat) (acc:List Int),i≤l.length→l.length-i<n→acc.length+((l.drop i).flatMap inB).length≤500000000000 →
  zfA xa ya zf zi zc L kx n w (yq .u8 acc) (l.map zgi) (l.length:Int) (i:Int) b1=kx w (yq .u8 (acc++(l.drop i).flatMap inB)) b1
 | 0,i,acc,h1,h2,h3=>by omega
 | n+1,i,acc,h1,h2,h3=>by
  simp only [zfA,zmr,yt]
  by_cases h:i<l.length
  ·rw [zeo h] at h3
   simp only [Wm,zXR] at h3
   rw [zI (by omega),zaA (ztQ h)]
   rw [zlV,zjz,zpe]
   simp only [zpi,zpA,z34,z6Z]
   rw [z8g hL,zF,zF,yf (zlg (by rw [zxI]; omega)),zbR]
   rw [zyX hL (by simp only [Wm,zxI]; omega)]
   rw [up (by omega),z4B hL kx l hl w b1 n (i+1) _ (by omega) (by omega) (by simp only [Wm,zxI,zbv]; omega),zeo h]
   simp [inB]
  ·rw [zG (by omega),WK (by omega)]
   simp
theorem z2v{L:Nat}(hL:20≤L)(kx:Bool→Ls→List V→Option β)(l:List Outp)(hl:l.length≤1000000)(hs:∀ x∈l,x.scr.length≤600)(w:Bool)(b1:List V):∀ (n i:Nat) (acc:List Int),i≤l.length→l.length-i<n→acc.length+((l.drop i).flatMap znM).length≤500000000000 →
  zeA xa ya zf zi zc L kx n w (yq .u8 acc) (l.map zhv) (l.length:Int) (i:Int) b1=kx w (yq .u8 (acc++(l.drop i).flatMap znM)) b1
 | 0,i,acc,h1,h2,h3=>by omega
 | n+1,i,acc,h1,h2,h3=>by
  simp only [zeA,zkB,yt]
  by_cases h:i<l.length
  ·have h4:=hs l[i] (W2 h)
   rw [zeo h] at h3
   simp only [Wm,znM,zmc] at h3
   rw [zI (by omega),zaA (zEb h)]
   rw [zDI,ztU,zET]
   simp only [z9i,z8O]
   rw [ybC hL h4,zF,zF,yf (zlg (by simp only [znM,Wm,zmc]; omega)),zbR]
   rw [up (by omega),z2v hL kx l hl hs w b1 n (i+1) _ (by omega) (by omega) (by simp only [Wm,zmc,znM]; omega),zeo h]
   simp [znM]
  ·rw [zG (by omega),WK (by omega)]
   simp
theorem zZg{L:Nat}(hL:20≤L)(kx:Bool→Ls→Ls→Int→Int→Option β)(wt:List (List Int))(hw:wt.length≤1000000)(hs:∀ y∈wt,y.length≤600)(w:Bool)(p77:Ls)(p78 p79:Int):∀ (n i:Nat) (acc:List Int),i≤wt.length→wt.length-i<n→acc.length+((wt.drop i).flatMap bsB).length≤500000000000 →
  zbx xa ya zf zi zc L kx n w (yq .u8 acc) p77 p78 p79 (zjd wt) (wt.length:Int) (i:Int)=kx w (yq .u8 (acc++(wt.drop i).flatMap bsB)) p77 p78 p79
 | 0,i,acc,h1,h2,h3=>by omega
 | n+1,i,acc,h1,h2,h3=>by
  simp only [zbx,zea,yt]
  by_cases h:i<wt.length
  ·have h4:=hs wt[i] (W2 h)
   rw [zeo h] at h3
   simp only [Wm] at h3
   rw [zI (by omega),zaA (ztF h),znh rfl]
   rw [zYS hL (by omega) (by omega)]
   rw [up (by omega),zZg hL kx wt hw hs w p77 p78 p79 n (i+1) _ (by omega) (by omega) (by simp only [Wm]; omega),zeo h]
   simp
  ·rw [zG (by omega),WK (by omega)]
   simp
end
section
variable {β:Type}
theorem ybo(a b:Option β):ifb (!true) a b=b:=rfl
theorem ybd(a b:Option β):ifb (!false) a b=a:=rfl
theorem z00{L:Nat}(hL:2000≤L)(kx:Ls→Option β)(l:List Inp)(hl:l.length≤1000000)(hw:∀ x∈l,x.wit.length≤40)(hs:∀ x∈l,∀ y∈x.wit,y.length≤600):∀ (n i:Nat) (acc:List Int),i≤l.length→l.length-i<n→acc.length+((l.drop i).flatMap ztj).length≤400000000000 →
  zez yb za yk zd xc L kx n (yq .u8 acc) (l.map zgi) (l.length:Int) (i:Int)=kx (yq .u8 (acc++(l.drop i).flatMap ztj))
 | 0,i,acc,h1,h2,h3=>by omega
 | n+1,i,acc,h1,h2,h3=>by
  simp only [zez,zfZ,zks,yt]
  by_cases h:i<l.length
  ·have h4:=hw l[i] (W2 h)
   have h5:=hs l[i] (W2 h)
   have h6:=zhm (l[i].wit.length:Int)
   rw [zeo h] at h3
   simp only [Wm,ztj] at h3
   rw [zI (by omega),zaA (ztQ h)]
   rw [zlV,zjz,zpe]
   simp only [zpi,zpA,zza]
   rw [zbQ (by omega) (by omega),zgw .u8,zJd (by omega) (by simp) (by omega),Ye,zF,zF,yf (zlg (by omega)),zbR]
   rw [show ((0:Int))=((0:Nat):Int) from rfl,zZv (by omega) _ _ (by omega) h5 _ _ _ L 0 _ (by omega) (by omega) (by simp only [Yd,Wm]; omega)]
   simp only [zeu,yt,Yd]
   rw [up (by omega),z00 hL kx l hl hw hs n (i+1) _ (by omega) (by omega) (by simp only [Wm,ztj]; omega),zeo h]
   simp [ztj]
  ·rw [zG (by omega),WK (by omega)]
   simp
theorem z89{L:Nat}(hL:2000≤L)(kx:Ls→Option β)(l:List Inp)(hl:l.length≤1000000)(hw:∀ x∈l,x.wit.length≤40)(hs:∀ x∈l,∀ y∈x.wit,y.length≤600):∀ (n i:Nat) (acc:List Int),i≤l.length→l.length-i<n→acc.length+((l.drop i).flatMap ztj).length≤400000000000 →
  zbd xa ya zf zi zc L kx n true (yq .u8 acc) (l.map zgi) (l.length:Int) (i:Int)=kx (yq .u8 (acc++(l.drop i).flatMap ztj)):=by
 intro n
 induction n with
 | zero=>intro i acc h1 h2 h3; omega
 | succ n ih=>
  intro i acc h1 h2 h3
  simp only [zbd,zc8,zfh,yt]
  by_cases h:i<l.length
  ·have h4:=hw l[i] (W2 h)
   have h5:=hs l[i] (W2 h)
   have h6:=zhm (l[i].wit.length:Int)
   rw [zeo h] at h3
   simp only [Wm,ztj] at h3
   rw [zI (by omega),zaA (ztQ h)]
   rw [zlV,zjz,zpe]
   simp only [zpi,zpA,zza]
   rw [ybo]
   rw [zbQ (by omega) (by omega),zDf (by omega) (by omega) (by omega)]
   rw [show ((0:Int))=((0:Nat):Int) from rfl,zZg (by omega) _ _ (by omega) h5 _ _ _ _ L 0 _ (by omega) (by omega) (by simp only [Yd,Wm]; omega)]
   simp only [zdM,yt,Yd]
   rw [up (by omega),ih (i+1) _ (by omega) (by omega) (by simp only [Wm,ztj]; omega),zeo h]
   simp [ztj]
  ·rw [zG (by omega),WK (by omega)]
   simp
theorem z9b{L:Nat}(hL:0<L)(kx:Ls→Option β)(l:List Inp)(p5:Ls) :
  zbd xa ya zf zi zc L kx L false p5 (l.map zgi) (l.length:Int) ((0:Nat):Int)=kx p5:=by
 have key:∀ (n:Nat),0<n→zbd xa ya zf zi zc L kx n false p5 (l.map zgi) (l.length:Int) ((0:Nat):Int)=kx p5:=by
  intro n hn
  obtain ⟨m,rfl⟩:∃ m,n=m+1:=⟨n-1,by omega⟩
  simp only [zbd,zc8,zfh,yt]
  by_cases h:0<l.length
  ·rw [zI (by omega),zaA (ztQ h)]
   rw [zlV,zjz,zpe]
   simp only [zpi,zpA]
   rw [ybd]
  ·rw [zG (by omega)]
 exact key L hL
structure Lens (t:TxT):Prop where
 a:(t.ins.flatMap inB).length≤70*40
 b:(t.outs.flatMap znM).length≤70*617
 c:(t.ins.flatMap ztj).length≤70*30000
theorem KeptP.lens{t:TxT}(h:KeptP t):Lens t:=by
 have hi:=h.ni
 have ho:=h.no
 have h1:=zOP (f:=inB) (c:=40) (l:=t.ins) (fun x _=>by rw [zXR]; omega)
 have h2:=zOP (f:=znM) (c:=617) (l:=t.outs) (fun x hx=>by have:=z8m x; have:=h.sl x hx; omega)
 have h3:=zOP (f:=ztj) (c:=30000) (l:=t.ins) (fun x hx=>z9k (h.wl x hx) (h.wi x hx))
 have e1:t.ins.length*40≤70*40:=WI _ hi
 have e2:t.outs.length*617≤70*617:=WI _ ho
 have e3:t.ins.length*30000≤70*30000:=WI _ hi
 exact ⟨by omega,by omega,by omega⟩
theorem zZe{L:Nat}(hL:2000≤L){t:TxT}(h:KeptP t)(w:Bool)(k:Ls→Option β):yi β L (zcA t) w k=k (yq .u8 (zlo t w)):=by
 obtain ⟨q1,q2,q3⟩:=h.lens
 have hi:=h.ni
 have ho:=h.no
 have s1:=zhm (t.ins.length:Int)
 have s2:=zhm (t.outs.length:Int)
 simp only [yi,zys,zIs,zmk,zsE,yt]
 simp only [ziE,zhp,zKJ,zp9,QB]
 rw [zgw .u8,zCu (by omega) (by simp),zbQ (by omega) (by omega),zJd (by omega) (by simp) (by omega),zF,zF,Ye,Ye,yf (zlg (by rw [zbv]; omega)),zbR]
 rw [show ((0:Int))=((0:Nat):Int) from rfl,z4m (by omega) _ _ (by omega) _ _ L 0 _ (by omega) (by omega) (by simp only [Yd,Wm,zbv]; omega)]
 simp only [zic,zns,yt,ziE,zhp,zp9,QB,Yd]
 rw [zgw .u8,zbQ (by omega) (by omega),zJd (by omega) (by simp) (by omega),zF,zF,Ye,yf (zlg (by simp only [Wm,zbv]; omega)),zbR]
 rw [show ((0:Int))=((0:Nat):Int) from rfl,z1E (by omega) _ _ (by omega) h.sl _ _ L 0 _ (by omega) (by omega) (by simp only [Yd,Wm,zbv]; omega)]
 simp only [zgH,zlF,yt,ziE,zhp,zp9,QB,Yd]
 rw [zgw .u8,zCu (by omega) (by simp),zF,zF,Ye,yf (zlg (by simp only [Wm,zbv]; omega)),zbR]
 cases w with
 | false=>
  simp only [Bool.not_false,zhs,zlo,WP,if_false,List.append_nil]
 | true=>
  simp only [Bool.not_true,zeY]
  rw [show ((0:Int))=((0:Nat):Int) from rfl,z00 hL _ _ (by omega) h.wl h.wi L 0 _ (by omega) (by omega) (by simp only [Yd,Wm,zbv]; omega)]
  simp only [ziM,Yd,zlo,if_true]
theorem zMh{L:Nat}(hL:2000≤L){t:TxT}(h:KeptP t)(w:Bool)(k:Ls→Option β):yd β L (zcA t) w k=k (yq .u8 (zlo t w)):=by
 obtain ⟨q1,q2,q3⟩:=h.lens
 have hi:=h.ni
 have ho:=h.no
 have s1:=zhm (t.ins.length:Int)
 have s2:=zhm (t.outs.length:Int)
 simp only [yd,zqb,zxP,zmk,zsE,yt]
 simp only [ziE,zhp,zKJ,zp9,QB]
 rw [zgw .u8,zyX (by omega) (by simp),zbQ (by omega) (by omega),zDf (by omega) (by simp [zbv]) (by omega),Ye]
 rw [show ((0:Int))=((0:Nat):Int) from rfl,z4B (by omega) _ _ (by omega) _ _ L 0 _ (by omega) (by omega) (by simp only [Yd,Wm,zbv]; omega)]
 simp only [zf5,zkl,yt,ziE,zhp,zp9,QB,Yd]
 rw [zbQ (by omega) (by omega),zDf (by omega) (by simp only [Wm,zbv]; omega) (by omega)]
 rw [show ((0:Int))=((0:Nat):Int) from rfl,z2v (by omega) _ _ (by omega) h.sl _ _ L 0 _ (by omega) (by omega) (by simp only [Yd,Wm,zbv]; omega)]
 simp only [ze7,ziL,yt,ziE,zhp,zp9,QB,Yd]
 rw [zyX (by omega) (by simp only [Wm,zbv]; omega),show ((0:Int))=((0:Nat):Int) from rfl]
 cases w with
 | false=>
  rw [z9b (by omega)]
  simp only [zeE,zlo,WP,if_false,List.append_nil]
 | true=>
  rw [z89 hL _ _ (by omega) h.wl h.wi L 0 _ (by omega) (by omega) (by simp only [Yd,Wm,zbv]; omega)]
  simp only [zeE,Yd,zlo,if_true]
end
end Go.Proofs.YtgmhijonllockaaGreatDoor
