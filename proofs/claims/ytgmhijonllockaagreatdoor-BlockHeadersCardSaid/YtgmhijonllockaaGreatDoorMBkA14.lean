/- Part 14 of the proof of BkA: an abstract machine over plain values, its soundness, and the functions of the program on plain values. -/
import Derived.Test.YtgmhijonllockaaGreatDoorMBkA13
namespace Go.Proofs.YtgmhijonllockaaGreatDoor
set_option maxRecDepth 100000
set_option linter.unusedVariables false
set_option linter.unusedSimpArgs false
open List renaming length->XK,length_append->Wm,take->XL,replicate->We,drop_zero->Yd,drop_of_length_le->WK,nil_append->Ye,getElem_mem->W2,length_map->QB,map->Xv,getD_eq_getElem?_getD->Ws,getElem?_append_right->Wt,getElem?_append_left->Wv,drop_eq_getElem_cons->WQ,getElem?_eq_getElem->Wc,mem_cons->Q9,replicate_zero->Yg,drop->XO
open IntKind renaming wrap->QG
open Nat renaming mul_le_mul_right->WI,pow_le_pow_right->Yf
open Int renaming toNat->XM
open Bool renaming false_eq_true->WP
section
noncomputable section
def zrW:Hint:=⟨[(0,0),(5,1)],[],[none,none,none,none,none],[],[],false,false,[]⟩
def z45:CF:=cfD zrW 4
def z4X:Nat→Sh:=zj [(11,(.sl 4))]
def z5Y(yR:zes)(zav:ziU)(zw:zag)(zfR:zsj)(zfP:zsA)(L:Nat):CBC:=(xe 522 (zZI zfP L) (xe 542 (zZU zfR L) (xe 474 (zpo zw L) (xe 670 (zvX zav L) (xe 669 (zpe yR L) noC)))))
def zN4{β:Type}(yR:zes)(zav:ziU)(zw:zag)(zfR:zsj)(zfP:zsA)(L:Nat)(z:List V)(A:Bool→Ob β):Ob β:=yR β L  (chk (0+69≤(XK z)) (zav β L (Xv V.dem (XL 69 z)) (fun F=>ifb (!F) (A true) (chk (0+69≤(XK z)) (chk ((XK (XL 69 z))=69∧0+69≤69) (lt (zk ([(Qc (0:Int))]++We 64 (Qa (0:Int))++[(Qc (0:Int)),(Qc (0:Int)),(Qc (0:Int)),(V.gs 4 ([]:Ls))]) 0 (XL 69 z)) fun D=>cLd 4 z 68 fun G=>zw β L G (fun E=>chk ((XK E)=32∧33+32≤(XK D)) (lt (zk D 33 E) fun C=>chk (0+69≤(XK z)) (zfR β L (Xv V.dem (XL 69 z)) (fun H=>chk (0+69≤(XK z)) (zfP β L (Xv V.dem (XL 69 z)) (fun I=>ifb ((H:Int)==I) (chk (0+69≤(XK C)) (zfR β L (Xv V.dem (XL 69 C)) (fun J=>chk (0+69≤(XK C)) (zfP β L (Xv V.dem (XL 69 C)) (fun M=>A ((J:Int)==M)))))) (A false)))))))))))))
abbrev zwP:=∀ (β:Type),Nat→List V→(Bool→Ob β)→Ob β
def zwZ:zwP:=fun β=>@zN4 β yR zav zw zfR zfP
def z59(zwZ:zwP)(L:Nat):Dk:=dA AG fun z=>d0 fun β k=>zwZ β L z (fun z=>k (V.sc (.bool z)) [])
def zBZ:Hint:=⟨[(0,0),(0,1),(2,0),(3,2)],[],[none,none,none],[],[],false,false,[]⟩
def zF8:CF:=cfD zBZ 14
def zun:Nat→Sh:=zj []
def zvH(zz:zau)(yr:zaB)(L:Nat):CBC:=(xe 488 (zqf yr L) (xe 449 (zoN zz L) noC))
def zxT{β:Type}(zz:zau)(yr:zaB)(L:Nat)(A:List V)(z:Ls→Int→Ob β):Ob β:=chk (0+69≤(XK A)) (zz β L (Xv V.dem (XL 69 A)) (fun C=>ifb (!C) (z ([]:Ls) (4:Int)) (chk (0+69≤(XK A)) (yr β L (Xv V.dem (XL 69 A)) (fun D=>z D (0:Int))))))
theorem zRY{β:Type}(zz:zau)(yr:zaB)(L:Nat)(C:List V)(k:KK β):zh zun (zvH zz yr L) L zF8 [(V.agg C)] [] k=zxT zz yr L C (fun z A=>k (V.tup [(V.gs 1 z),(Qe A)]) []):=by kernel_rfl
abbrev zlk:=∀ (β:Type),Nat→List V→(Ls→Int→Ob β)→Ob β
def zaO:zlk:=fun β=>@zxT β zz yr
def zyg(zaO:zlk)(L:Nat):Dk:=dA AG fun C=>d0 fun β k=>zaO β L C (fun z A=>k (V.tup [(V.gs 1 z),(Qe A)]) [])
theorem zQ9(L:Nat):DK (zyg zaO L) (fun _=>zh zun (zvH zz yr L) L zF8):=xv zak fun z=>yK fun _ k=>zRY zz yr L z k
def zqk:Hint:=⟨[(0,0),(5,2),(5,3),(6,2),(6,3)],[],[none,none,none,none,none],[],[],false,false,[]⟩
def zto:CF:=cfD zqk 3
def zlC:Nat→Sh:=zj [(32,(.sl 4)),(35,(.sl 4))]
def zkZ(yR:zes)(zav:ziU)(zB:zaL)(zaO:zlk)(zW:zgZ)(xH:zbg)(zw:zag)(L:Nat):CBC:=(xe 474 (zpo zw L) (xe 579 (zu5 xH L) (xe 130 (zpQ zW L) (xe 456 (zyg zaO L) (xe 577 (zls zB L) (xe 670 (zvX zav L) (xe 669 (zpe yR L) noC)))))))
def zmj{β:Type}(yR:zes)(zav:ziU)(zB:zaL)(zaO:zlk)(zW:zgZ)(xH:zbg)(zw:zag)(L:Nat)(A:List V)(z:Bool→Ob β):Ob β:=yR β L  (chk (0+69≤(XK A)) (zav β L (Xv V.dem (XL 69 A)) (fun D=>ifb (!D) (z true) (chk (0+69≤(XK A)) (zB β L (Xv V.dem (XL 69 A)) (fun E F=>chk (0+69≤(XK A)) (zaO β L (Xv V.dem (XL 69 A)) (fun G H=>ifb ((F:Int)==H) (zW β L E G (fun I=>ifb I (cLd 4 A 68 fun J=>xH β L J (fun M=>cLd 4 A 68 fun N=>zw β L N (fun O=>eqC 32 M O fun C=>z C))) (z false))) (z false)))))))))
theorem zFf{β:Type}(yR:zes)(zav:ziU)(zB:zaL)(zaO:zlk)(zW:zgZ)(xH:zbg)(zw:zag)(L:Nat)(z:List V)(k:KK β):zh zlC (zkZ yR zav zB zaO zW xH zw L) L zto [(V.agg z)] [] k=zmj yR zav zB zaO zW xH zw L z (fun z=>k (V.sc (.bool z)) []):=by kernel_rfl
abbrev zwn:=∀ (β:Type),Nat→List V→(Bool→Ob β)→Ob β
def zb3:zwn:=fun β=>@zmj β yR zav zB zaO zW xH zw
def zl8(zb3:zwn)(L:Nat):Dk:=dA AG fun z=>d0 fun β k=>zb3 β L z (fun z=>k (V.sc (.bool z)) [])
theorem zFF(L:Nat):DK (zl8 zb3 L) (fun _=>zh zlC (zkZ yR zav zB zaO zW xH zw L) L zto):=xv zak fun z=>yK fun _ k=>zFf yR zav zB zaO zW xH zw L z k
def zGu:Hint:=⟨[],[],[none,none,none,none,none],[],[],false,false,[]⟩
def zNH:CF:=cfD zGu 100
def zAk:Nat→Sh:=zj []
def zAO(L:Nat):CBC:=noC
def zDj{β:Type}(L:Nat)(C:Ls)(A D:Int)(z:Int→Ob β):Ob β:=ifb (decide (A<(0:Int))) (z (5:Int)) (ifb (decide (A>((XK C:Nat):Int))) (z (5:Int)) (lt (QG .i64 ((((XK C:Nat):Int):Int)-A)) fun E=>ifb (decide (E<D)) (z (1:Int)) (z (0:Int))))
theorem zUB{β:Type}(L:Nat)(z:Ls)(A C:Int)(k:KK β):zh zAk (zAO L) L zNH [(V.sl 1 z),(Qe A),(Qe C)] [] k=zDj L z A C (fun z=>k (Qe z) []):=by kernel_rfl
abbrev zby:=∀ (β:Type),Nat→Ls→Int→Int→(Int→Ob β)→Ob β
def xA:zby:=fun β=>@zDj β
def zwb(xA:zby)(L:Nat):Dk:=dA (AL 1) fun z=>dA (AI .i64) fun A=>dA (AI .i64) fun C=>d0 fun β k=>xA β L z A C (fun z=>k (Qe z) [])
theorem zUk(L:Nat):DK (zwb xA L) (fun _=>zh zAk (zAO L) L zNH):=xv zaZ fun z=>xv zbN fun A=>xv zbN fun C=>yK fun _ k=>zUB L z A C k
def zrO:Hint:=⟨[],[],[none,none,none,some ((bl 1573895 40),(bl 1099511625727 40)),none,some ((bl 1030 40),(bl 1099511625727 40)),none,none],[],[],false,false,[]⟩
def cf_codec_read_uint32:CF:=cfD zrO 99
def zhr:CC:=xz [1,1,1,0,1,0,0] cf_codec_read_uint32.body
def zqz:CC:=xz [1,1,1,1] cf_codec_read_uint32.body
def zbC:Nat→Sh:=zj [(29,(.int .u8))]
def zbE(xA:zby)(L:Nat):CBC:=(xe 198 (zwb xA L) noC)
def zhZ:St→St:=yM 0 (bl 1573895 40) (bl 1099511625727 40)
def zd6(D:Ls)(E F z A C:Int):St:=⟨((V.sl 1 D)::((Qe E)::((Qe F)::(jn 7 ((Qc z)::(jn 8 ((Qe A)::((Qe C)::(jn 19 []))))))))),(gn 40 [])⟩
def zjp(A C z:Int):St:=⟨(jn 1 ((Qe A)::((Qe C)::(jn 7 ((Qc z)::(jn 29 [])))))),(gn 40 [])⟩
def znl{β:Type}(xA:zby)(L:Nat)(D:Ls)(E C:Int)(A:Int→Int→Int→Ob β)(z:Ls→Int→Int→Int→Int→Int→Ob β):Ob β:=xA β L D E C (fun F=>ifb ((F:Int) != (0:Int)) (A (0:Int) (0:Int) F) (z D E C (0:Int) C (0:Int)))
theorem zIj{β:Type}(xA:zby)(L:Nat)(z:Ls)(A C:Int)(k:KK β):zh zbC (zbE xA L) L cf_codec_read_uint32 [(V.sl 1 z),(Qe A),(Qe C)] [] k=znl xA L z A C (fun D E F=>k (V.tup [(Qc D),(Qe E),(Qe F)]) []) (fun z A C G H I=>zx (ze zbC (zbE xA L) 0 L zhr) zhZ L (zd6 z A C G H I) (xi 0 (yv (ze zbC (zbE xA L) 0 L zqz) (zD 0 (CF.res cf_codec_read_uint32) k)))):=by kernel_rfl
def zio{β:Type}(xA:zby)(L:Nat)(G:Ls)(E H C D A:Int)(z:Ls→Int→Int→Int→Int→Int→Ob β)(F:Int→Int→Int→Ob β):Ob β:=ifb (decide (A<D)) (lt (QG .i64 ((E:Int)+A)) fun J=>idx G J fun M=>cI .u8 M 0 fun N=>lt (QG .u32 N) fun O=>lt (QG .i64 (((8:Int):Int)*A)) fun I=>chk (0≤I) (lt (zgp .u32 O I) fun P=>lt (ior .u32 C P) fun Q=>lt (QG .i64 ((A:Int)+(1:Int))) fun R=>z G E H Q D R)) (F E H C)
theorem zw8{β:Type}(xA:zby)(L:Nat)(F:Ls)(D E z A C:Int)(X:St→Ob β)(K:KT β):ze zbC (zbE xA L) 0 L zhr (zd6 F D E z A C) (yH zhZ X K)=zio xA L F D E z A C (fun F D E z A C=>X (zd6 F D E z A C)) (fun D E z=>K (.exit 0) (zjp D E z)):=by kernel_rfl
def zgY{β:Type}(xA:zby)(L:Nat)(C D A:Int)(z:Int→Int→Int→Ob β):Ob β:=lt (QG .i64 ((C:Int)+D)) fun E=>z A E (0:Int)
theorem zuJ{β:Type}(xA:zby)(L:Nat)(E F z:Int)(k:KK β):(xi 0 (yv (ze zbC (zbE xA L) 0 L zqz) (zD 0 (CF.res cf_codec_read_uint32) k))) (.exit 0) (zjp E F z)=zgY xA L E F z (fun A C D=>k (V.tup [(Qc A),(Qe C),(Qe D)]) []):=by kernel_rfl
def zdc{β:Type}(xA:zby)(L:Nat)(z:Int→Int→Int→Ob β):Nat→Ls→Int→Int→Int→Int→Int→Ob β
 | 0,_,_,_,_,_,_=>none
 | n+1,E,F,G,A,C,D=>zio xA L E F G A C D (fun E F G A C D=>zdc xA L z n E F G A C D) z
theorem zlN{β:Type}(xA:zby)(L:Nat)(K:KT β):∀ (n:Nat) (F:Ls) (A C z D E:Int),zx (ze zbC (zbE xA L) 0 L zhr) zhZ n (zd6 F A C z D E) K=zdc xA L (fun A C z=>K (.exit 0) (zjp A C z)) n F A C z D E:=by
 intro n; induction n <;> intros
 ·rfl
 ·exact (zw8 ..).trans (by simp only [*]; rfl)
def zi9{β:Type}(xA:zby)(L:Nat)(E:Ls)(A C:Int)(z:Int→Int→Int→Ob β):Ob β:=znl xA L E A C z (fun E A C D F G=>zdc xA L (fun A C D=>zgY xA L A C D z) L E A C D F G)
theorem zH1{β:Type}(xA:zby)(L:Nat)(z:Ls)(A C:Int)(k:KK β):zh zbC (zbE xA L) L cf_codec_read_uint32 [(V.sl 1 z),(Qe A),(Qe C)] [] k=zi9 xA L z A C (fun D E F=>k (V.tup [(Qc D),(Qe E),(Qe F)]) []):=by
 refine (zIj xA L z A C k).trans ?_
 unfold zi9
 first
  | (simp only [zlN,zuJ]; done)
  | (simp only [zlN]; rfl)
abbrev zgd:=∀ (β:Type),Nat→Ls→Int→Int→(Int→Int→Int→Ob β)→Ob β
def y9:zgd:=fun β=>@zi9 β xA
def zn1(y9:zgd)(L:Nat):Dk:=dA (AL 1) fun D=>dA (AI .i64) fun E=>dA (AI .i64) fun F=>d0 fun β k=>y9 β L D E F (fun z A C=>k (V.tup [(Qc z),(Qe A),(Qe C)]) [])
theorem zH6(L:Nat):DK (zn1 y9 L) (fun _=>zh zbC (zbE xA L) L cf_codec_read_uint32):=xv zaZ fun z=>xv zbN fun A=>xv zbN fun C=>yK fun _ k=>zH1 xA L z A C k
def zJe:Hint:=⟨[],[],[none],[],[],false,false,[]⟩
def zQm:CF:=cfD zJe 58
def zEt:Nat→Sh:=zj []
def zCL(y9:zgd)(L:Nat):CBC:=(xe 197 (zn1 y9 L) noC)
def zIp{β:Type}(y9:zgd)(L:Nat)(A:Ls)(C:Int)(z:Int→Int→Int→Ob β):Ob β:=y9 β L A C (4:Int) (fun D E F=>z D E F)
theorem zYz{β:Type}(y9:zgd)(L:Nat)(D:Ls)(E:Int)(k:KK β):zh zEt (zCL y9 L) L zQm [(V.sl 1 D),(Qe E)] [] k=zIp y9 L D E (fun z A C=>k (V.tup [(Qc z),(Qe A),(Qe C)]) []):=by kernel_rfl
abbrev zrA:=∀ (β:Type),Nat→Ls→Int→(Int→Int→Int→Ob β)→Ob β
def za2:zrA:=fun β=>@zIp β y9
def zIf(za2:zrA)(L:Nat):Dk:=dA (AL 1) fun D=>dA (AI .i64) fun E=>d0 fun β k=>za2 β L D E (fun z A C=>k (V.tup [(Qc z),(Qe A),(Qe C)]) [])
theorem zYB(L:Nat):DK (zIf za2 L) (fun _=>zh zEt (zCL y9 L) L zQm):=xv zaZ fun z=>xv zbN fun A=>yK fun _ k=>zYz y9 L z A k
def zG5:Hint:=⟨[(5,1)],[],[none,none,none],[],[],false,false,[]⟩
def zMX:CF:=cfD zG5 59
def zz0:Nat→Sh:=zj []
def zAH(xA:zby)(L:Nat):CBC:=(xe 198 (zwb xA L) noC)
def zEh{β:Type}(xA:zby)(L:Nat)(C:Ls)(z:Int)(A:List V→Int→Int→Ob β):Ob β:=xA β L C z (32:Int) (fun E=>ifb ((E:Int) != (0:Int)) (lt (We 32 (Qa (0:Int))) fun F=>chk (0=0∧(XK F)=32∧32≠0) (A F (0:Int) E)) (chk (0≤z∧z≤(((XK C):Nat):Int)) (lt (zk (We 32 (Qa (0:Int))) 0 (List.flatten (XL (min (XK (XL ((XK C)-(XM z)) (XO (XM z) C))) 32) (XL ((XK C)-(XM z)) (XO (XM z) C))))) fun D=>chk (0+32≤(XK D)) (lt (QG .i64 ((z:Int)+(32:Int))) fun H=>chk ((XK (XL 32 D))=32∧0+32≤32) (lt (zk (We 32 (Qa (0:Int))) 0 (XL 32 D)) fun G=>chk (0=0∧(XK G)=32∧32≠0) (A G H (0:Int)))))))
theorem zU6{β:Type}(xA:zby)(L:Nat)(D:Ls)(E:Int)(k:KK β):zh zz0 (zAH xA L) L zMX [(V.sl 1 D),(Qe E)] [] k=zEh xA L D E (fun z A C=>k (V.tup [(V.agg z),(Qe A),(Qe C)]) []):=by kernel_rfl
abbrev zpC:=∀ (β:Type),Nat→Ls→Int→(List V→Int→Int→Ob β)→Ob β
def za5:zpC:=fun β=>@zEh β xA
def zDG(za5:zpC)(L:Nat):Dk:=dA (AL 1) fun D=>dA (AI .i64) fun E=>d0 fun β k=>za5 β L D E (fun z A C=>k (V.tup [(V.agg z),(Qe A),(Qe C)]) [])
theorem zVu(L:Nat):DK (zDG za5 L) (fun _=>zh zz0 (zAH xA L) L zMX):=xv zaZ fun z=>xv zbN fun A=>yK fun _ k=>zU6 xA L z A k
def zqs:Hint:=⟨[(5,3),(6,3),(7,3),(8,3),(9,3),(10,3)],[],[none,none,none],[],[],false,false,[]⟩
def ztx:CF:=cfD zqs 26
def zlz:Nat→Sh:=zj []
def zk5(za2:zrA)(za5:zpC)(L:Nat):CBC:=(xe 172 (zDG za5 L) (xe 170 (zIf za2 L) noC))
def zmo{β:Type}(za2:zrA)(za5:zpC)(L:Nat)(z:Ls)(A:List V→Int→Ob β):Ob β:=ifb ((((XK z:Nat):Int):Int) != (80:Int)) (lt ([(Qc (0:Int))]++We 64 (Qa (0:Int))++[(Qc (0:Int)),(Qc (0:Int)),(Qc (0:Int))]) fun H=>chk (0=0∧(XK H)=68∧68≠0) (A H (8:Int))) (za2 β L z (0:Int) (fun U W v3=>lt ([(Qc U)]++We 64 (Qa (0:Int))++[(Qc (0:Int)),(Qc (0:Int)),(Qc (0:Int))]) fun I=>za5 β L z W (fun J X v7=>chk ((XK J)=32∧1+32≤(XK I)) (lt (zk I 1 J) fun M=>za5 β L z X (fun N O Y=>chk ((XK N)=32∧33+32≤(XK M)) (lt (zk M 33 N) fun D=>za2 β L z O (fun P Q Z=>chk (1=1∧65+1≤(XK D)) (lt (zk D 65 [(Qc P)]) fun E=>za2 β L z Q (fun R S aa=>chk (1=1∧66+1≤(XK E)) (lt (zk E 66 [(Qc R)]) fun F=>za2 β L z S (fun T ab ac=>chk (1=1∧67+1≤(XK F)) (lt (zk F 67 [(Qc T)]) fun C=>chk (0+68≤(XK C)) (chk ((XK (XL 68 C))=68∧0+68≤68) (lt (zk ([(Qc (0:Int))]++We 64 (Qa (0:Int))++[(Qc (0:Int)),(Qc (0:Int)),(Qc (0:Int))]) 0 (XL 68 C)) fun G=>chk (0=0∧(XK G)=68∧68≠0) (A G (0:Int))))))))))))))))
theorem zFe{β:Type}(za2:zrA)(za5:zpC)(L:Nat)(C:Ls)(k:KK β):zh zlz (zk5 za2 za5 L) L ztx [(V.sl 1 C)] [] k=zmo za2 za5 L C (fun z A=>k (V.tup [(V.agg z),(Qe A)]) []):=by kernel_rfl
abbrev zfv:=∀ (β:Type),Nat→Ls→(List V→Int→Ob β)→Ob β
def zM:zfv:=fun β=>@zmo β za2 za5
def zmf(zM:zfv)(L:Nat):Dk:=dA (AL 1) fun C=>d0 fun β k=>zM β L C (fun z A=>k (V.tup [(V.agg z),(Qe A)]) [])
theorem zFA(L:Nat):DK (zmf zM L) (fun _=>zh zlz (zk5 za2 za5 L) L ztx):=xv zaZ fun z=>yK fun _ k=>zFe za2 za5 L z k
def zBm:Hint:=⟨[],[],[none,none,none,none,none,some ((bl 1543 45),(bl 35184372088831 45)),none,some ((bl 518 45),(bl 35184372087807 45)),none,none],[],[],false,false,[]⟩
def cf_ref01_number:CF:=cfD zBm 119
def zks:CC:=xz [1,1,1,1,0,1,0,0] cf_ref01_number.body
def zwN:CC:=xz [1,1,1,1,1] cf_ref01_number.body
def zdm:Nat→Sh:=zj [(38,(.int .u8))]
def zdb(L:Nat):CBC:=noC
def zk9:St→St:=yM 0 (bl 1543 45) (bl 35184372088831 45)
def zfs(A:Ls)(C D E z:Int):St:=⟨((V.sl 1 A)::((Qe C)::((Qe D)::(jn 6 ((Qd E)::((Qe z)::(jn 34 []))))))),(gn 45 [])⟩
def zpB(z A C:Int):St:=⟨(jn 1 ((Qe z)::((Qe A)::(jn 6 ((Qd C)::(jn 35 [])))))),(gn 45 [])⟩
def zx7{β:Type}(L:Nat)(D:Ls)(C E:Int)(z:Int→Int→Int→Ob β)(A:Ls→Int→Int→Int→Int→Ob β):Ob β:=ifb (decide (C<(0:Int))) (z (0:Int) (0:Int) (5:Int)) (ifb (decide (C>((XK D:Nat):Int))) (z (0:Int) (0:Int) (5:Int)) (lt (QG .i64 ((((XK D:Nat):Int):Int)-C)) fun F=>ifb (decide (F<E)) (z (0:Int) (0:Int) (1:Int)) (lt (QG .i64 ((E:Int)-(1:Int))) fun G=>A D C E (0:Int) G)))
theorem zRX{β:Type}(L:Nat)(z:Ls)(A C:Int)(k:KK β):zh zdm (zdb L) L cf_ref01_number [(V.sl 1 z),(Qe A),(Qe C)] [] k=zx7 L z A C (fun D E F=>k (V.tup [(Qd D),(Qe E),(Qe F)]) []) (fun z A C H G=>zx (ze zdm (zdb L) 0 L zks) zk9 L (zfs z A C H G) (xi 0 (yv (ze zdm (zdb L) 0 L zwN) (zD 0 (CF.res cf_ref01_number) k)))):=by kernel_rfl
def zhn{β:Type}(L:Nat)(E:Ls)(C F G A:Int)(z:Ls→Int→Int→Int→Int→Ob β)(D:Int→Int→Int→Ob β):Ob β:=ifb (decide (A≥(0:Int))) (lt (zgp .u64 G (8:Int)) fun H=>lt (QG .i64 ((C:Int)+A)) fun I=>idx E I fun J=>cI .u8 J 0 fun M=>lt (QG .u64 M) fun N=>lt (ior .u64 H N) fun O=>lt (QG .i64 ((A:Int)-(1:Int))) fun P=>z E C F O P) (D C F G)
theorem zEf{β:Type}(L:Nat)(E:Ls)(A C D z:Int)(X:St→Ob β)(K:KT β):ze zdm (zdb L) 0 L zks (zfs E A C D z) (yH zk9 X K)=zhn L E A C D z (fun E A C D z=>X (zfs E A C D z)) (fun A C D=>K (.exit 0) (zpB A C D)):=by kernel_rfl
def zfZ{β:Type}(L:Nat)(A C D:Int)(z:Int→Int→Int→Ob β):Ob β:=lt (QG .i64 ((A:Int)+C)) fun E=>z D E (0:Int)
theorem zAo{β:Type}(L:Nat)(D E F:Int)(k:KK β):(xi 0 (yv (ze zdm (zdb L) 0 L zwN) (zD 0 (CF.res cf_ref01_number) k))) (.exit 0) (zpB D E F)=zfZ L D E F (fun z A C=>k (V.tup [(Qd z),(Qe A),(Qe C)]) []):=by kernel_rfl
def zdu{β:Type}(L:Nat)(z:Int→Int→Int→Ob β):Nat→Ls→Int→Int→Int→Int→Ob β
 | 0,_,_,_,_,_=>none
 | n+1,C,D,E,F,A=>zhn L C D E F A (fun C D E F A=>zdu L z n C D E F A) z
theorem zoQ{β:Type}(L:Nat)(K:KT β):∀ (n:Nat) (E:Ls) (z A C D:Int),zx (ze zdm (zdb L) 0 L zks) zk9 n (zfs E z A C D) K=zdu L (fun z A C=>K (.exit 0) (zpB z A C)) n E z A C D:=by
 intro n; induction n <;> intros
 ·rfl
 ·exact (zEf ..).trans (by simp only [*]; rfl)
def zpZ{β:Type}(L:Nat)(D:Ls)(A C:Int)(z:Int→Int→Int→Ob β):Ob β:=zx7 L D A C z (fun D A C E F=>zdu L (fun A C E=>zfZ L A C E z) L D A C E F)
theorem zRh{β:Type}(L:Nat)(z:Ls)(A C:Int)(k:KK β):zh zdm (zdb L) L cf_ref01_number [(V.sl 1 z),(Qe A),(Qe C)] [] k=zpZ L z A C (fun D E F=>k (V.tup [(Qd D),(Qe E),(Qe F)]) []):=by
 refine (zRX L z A C k).trans ?_
 unfold zpZ
 first
  | (simp only [zoQ,zAo]; done)
  | (simp only [zoQ]; rfl)
abbrev zlj:=∀ (β:Type),Nat→Ls→Int→Int→(Int→Int→Int→Ob β)→Ob β
def zaM:zlj:=fun β=>@zpZ β
def zyb(zaM:zlj)(L:Nat):Dk:=dA (AL 1) fun D=>dA (AI .i64) fun E=>dA (AI .i64) fun F=>d0 fun β k=>zaM β L D E F (fun z A C=>k (V.tup [(Qd z),(Qe A),(Qe C)]) [])
theorem zRx(L:Nat):DK (zyb zaM L) (fun _=>zh zdm (zdb L) L cf_ref01_number):=xv zaZ fun z=>xv zbN fun A=>xv zbN fun C=>yK fun _ k=>zRh L z A C k
def zLn:Hint:=⟨[(1,3)],[],[none],[],[],false,false,[]⟩
def zQh:CF:=cfD zLn 101
def zEp:Nat→Sh:=zj []
def zCV(zaM:zlj)(L:Nat):CBC:=(xe 209 (zyb zaM L) noC)
def zH3{β:Type}(zaM:zlj)(L:Nat)(A:Ls)(C:Int)(z:Int→Int→Int→Ob β):Ob β:=zaM β L A C (4:Int) (fun D E F=>lt (QG .u32 D) fun G=>z G E F)
theorem zX8{β:Type}(zaM:zlj)(L:Nat)(D:Ls)(E:Int)(k:KK β):zh zEp (zCV zaM L) L zQh [(V.sl 1 D),(Qe E)] [] k=zH3 zaM L D E (fun z A C=>k (V.tup [(Qc z),(Qe A),(Qe C)]) []):=by kernel_rfl
abbrev zrM:=∀ (β:Type),Nat→Ls→Int→(Int→Int→Int→Ob β)→Ob β
def za1:zrM:=fun β=>@zH3 β zaM
def zHT(za1:zrM)(L:Nat):Dk:=dA (AL 1) fun D=>dA (AI .i64) fun E=>d0 fun β k=>za1 β L D E (fun z A C=>k (V.tup [(Qc z),(Qe A),(Qe C)]) [])
theorem zXZ(L:Nat):DK (zHT za1 L) (fun _=>zh zEp (zCV zaM L) L zQh):=xv zaZ fun z=>xv zbN fun A=>yK fun _ k=>zX8 zaM L z A k
def zGE:Hint:=⟨[(6,1)],[],[none,none,none,none,none],[],[],false,false,[]⟩
def zM9:CF:=cfD zGE 102
def zz3:Nat→Sh:=zj []
def zAK(L:Nat):CBC:=noC
def zCZ{β:Type}(L:Nat)(C:Ls)(A:Int)(z:List V→Int→Int→Ob β):Ob β:=ifb (decide (A<(0:Int))) (lt (We 32 (Qa (0:Int))) fun E=>chk (0=0∧(XK E)=32∧32≠0) (z E (0:Int) (5:Int))) (ifb (decide (A>((XK C:Nat):Int))) (lt (We 32 (Qa (0:Int))) fun F=>chk (0=0∧(XK F)=32∧32≠0) (z F (0:Int) (5:Int))) (lt (QG .i64 ((((XK C:Nat):Int):Int)-A)) fun I=>ifb (decide (I<(32:Int))) (lt (We 32 (Qa (0:Int))) fun G=>chk (0=0∧(XK G)=32∧32≠0) (z G (0:Int) (1:Int))) (chk (0≤A∧A≤(((XK C):Nat):Int)) (lt (zk (We 32 (Qa (0:Int))) 0 (List.flatten (XL (min (XK (XL ((XK C)-(XM A)) (XO (XM A) C))) 32) (XL ((XK C)-(XM A)) (XO (XM A) C))))) fun D=>chk (0+32≤(XK D)) (lt (QG .i64 ((A:Int)+(32:Int))) fun J=>chk ((XK (XL 32 D))=32∧0+32≤32) (lt (zk (We 32 (Qa (0:Int))) 0 (XL 32 D)) fun H=>chk (0=0∧(XK H)=32∧32≠0) (z H J (0:Int))))))))
theorem zVJ{β:Type}(L:Nat)(D:Ls)(E:Int)(k:KK β):zh zz3 (zAK L) L zM9 [(V.sl 1 D),(Qe E)] [] k=zCZ L D E (fun z A C=>k (V.tup [(V.agg z),(Qe A),(Qe C)]) []):=by kernel_rfl
abbrev zoz:=∀ (β:Type),Nat→Ls→Int→(List V→Int→Int→Ob β)→Ob β
def za7:zoz:=fun β=>@zCZ β
def zDq(za7:zoz)(L:Nat):Dk:=dA (AL 1) fun D=>dA (AI .i64) fun E=>d0 fun β k=>za7 β L D E (fun z A C=>k (V.tup [(V.agg z),(Qe A),(Qe C)]) [])
theorem zVL(L:Nat):DK (zDq za7 L) (fun _=>zh zz3 (zAK L) L zM9):=xv zaZ fun z=>xv zbN fun A=>yK fun _ k=>zVJ L z A k
def zBL:Hint:=⟨[(2,2),(3,2),(4,2),(5,2),(6,2),(7,2)],[],[none],[],[],false,false,[]⟩
def zFL:CF:=cfD zBL 60
def zvf:Nat→Sh:=zj []
def zvY(za1:zrM)(za7:zoz)(L:Nat):CBC:=(xe 202 (zDq za7 L) (xe 200 (zHT za1 L) noC))
def zyd{β:Type}(za1:zrM)(za7:zoz)(L:Nat)(z:Ls)(C:List V→Ob β):Ob β:=za1 β L z (0:Int) (fun Q Z v2=>lt ([(Qc Q)]++We 64 (Qa (0:Int))++[(Qc (0:Int)),(Qc (0:Int)),(Qc (0:Int))]) fun H=>za7 β L z (4:Int) (fun I v5 v6=>chk ((XK I)=32∧1+32≤(XK H)) (lt (zk H 1 I) fun J=>za7 β L z (36:Int) (fun M v9 R=>chk ((XK M)=32∧33+32≤(XK J)) (lt (zk J 33 M) fun D=>za1 β L z (68:Int) (fun N S T=>chk (1=1∧65+1≤(XK D)) (lt (zk D 65 [(Qc N)]) fun E=>za1 β L z (72:Int) (fun O U W=>chk (1=1∧66+1≤(XK E)) (lt (zk E 66 [(Qc O)]) fun F=>za1 β L z (76:Int) (fun P X Y=>chk (1=1∧67+1≤(XK F)) (lt (zk F 67 [(Qc P)]) fun A=>chk (0+68≤(XK A)) (chk ((XK (XL 68 A))=68∧0+68≤68) (lt (zk ([(Qc (0:Int))]++We 64 (Qa (0:Int))++[(Qc (0:Int)),(Qc (0:Int)),(Qc (0:Int))]) 0 (XL 68 A)) fun G=>chk (0=0∧(XK G)=68∧68≠0) (C G))))))))))))))
theorem zRI{β:Type}(za1:zrM)(za7:zoz)(L:Nat)(z:Ls)(k:KK β):zh zvf (zvY za1 za7 L) L zFL [(V.sl 1 z)] [] k=zyd za1 za7 L z (fun z=>k (V.agg z) []):=by kernel_rfl
abbrev zlH:=∀ (β:Type),Nat→Ls→(List V→Ob β)→Ob β
def zaN:zlH:=fun β=>@zyd β za1 za7
def zw5(zaN:zlH)(L:Nat):Dk:=dA (AL 1) fun z=>d0 fun β k=>zaN β L z (fun z=>k (V.agg z) [])
theorem zRq(L:Nat):DK (zw5 zaN L) (fun _=>zh zvf (zvY za1 za7 L) L zFL):=xv zaZ fun z=>yK fun _ k=>zRI za1 za7 L z k
def zqv:Hint:=⟨[],[],[none,none,none],[],[],false,false,[]⟩
def zty:CF:=cfD zqv 27
def zlc:Nat→Sh:=zj []
def zlu(zaN:zlH)(L:Nat):CBC:=(xe 676 (zw5 zaN L) noC)
def zmR{β:Type}(zaN:zlH)(L:Nat)(A:Ls)(z:List V→Int→Ob β):Ob β:=ifb ((((XK A:Nat):Int):Int) != (80:Int)) (lt ([(Qc (0:Int))]++We 64 (Qa (0:Int))++[(Qc (0:Int)),(Qc (0:Int)),(Qc (0:Int))]) fun C=>chk (0=0∧(XK C)=68∧68≠0) (z C (8:Int))) (zaN β L A (fun D=>chk ((XK D)=68∧0+68≤68) (lt (zk ([(Qc (0:Int))]++We 64 (Qa (0:Int))++[(Qc (0:Int)),(Qc (0:Int)),(Qc (0:Int))]) 0 D) fun E=>chk (0=0∧(XK E)=68∧68≠0) (z E (0:Int)))))
theorem zFd{β:Type}(zaN:zlH)(L:Nat)(C:Ls)(k:KK β):zh zlc (zlu zaN L) L zty [(V.sl 1 C)] [] k=zmR zaN L C (fun z A=>k (V.tup [(V.agg z),(Qe A)]) []):=by kernel_rfl
abbrev zfA:=∀ (β:Type),Nat→Ls→(List V→Int→Ob β)→Ob β
def yS:zfA:=fun β=>@zmR β zaN
def zmq(yS:zfA)(L:Nat):Dk:=dA (AL 1) fun C=>d0 fun β k=>yS β L C (fun z A=>k (V.tup [(V.agg z),(Qe A)]) [])
theorem zFb(L:Nat):DK (zmq yS L) (fun _=>zh zlc (zlu zaN L) L zty):=xv zaZ fun z=>yK fun _ k=>zFd zaN L z k
def zGN:Hint:=⟨[],[],[none],[],[],false,false,[]⟩
def zM7:CF:=cfD zGN 29
def zAA:Nat→Sh:=zj []
def zAt(zg:zO)(xX:zg3)(L:Nat):CBC:=(xe 501 (zpK xX L) (xe 502 (zd0 zg L) noC))
def zEk{β:Type}(zg:zO)(xX:zg3)(L:Nat)(A:List V)(z:List V→Ob β):Ob β:=chk (0+68≤(XK A)) (zg β L (XL 68 A) (fun E=>xX β L E (fun C=>chk ((XK C)=32∧0+32≤32) (lt (zk (We 32 (Qa (0:Int))) 0 C) fun D=>chk (0=0∧(XK D)=32∧32≠0) (z D)))))
theorem zWh{β:Type}(zg:zO)(xX:zg3)(L:Nat)(z:List V)(k:KK β):zh zAA (zAt zg xX L) L zM7 [(V.agg z)] [] k=zEk zg xX L z (fun z=>k (V.agg z) []):=by kernel_rfl
abbrev zoS:=∀ (β:Type),Nat→List V→(List V→Ob β)→Ob β
def za3:zoS:=fun β=>@zEk β zg xX
def zDB(za3:zoS)(L:Nat):Dk:=dA AG fun z=>d0 fun β k=>za3 β L z (fun z=>k (V.agg z) [])
theorem zUC(L:Nat):DK (zDB za3 L) (fun _=>zh zAA (zAt zg xX L) L zM7):=xv zak fun z=>yK fun _ k=>zWh zg xX L z k
def zqq:Hint:=⟨[(5,2),(6,2),(7,3)],[],[none,none,none,none,none],[],[],false,false,[]⟩
def ztB:CF:=cfD zqq 7
def zlh:Nat→Sh:=zj []
def zk3(yR:zes)(zM:zfv)(yS:zfA)(zg:zO)(za3:zoS)(za6:zpw)(xh:zT)(zW:zgZ)(L:Nat):CBC:=(xe 130 (zpQ zW L) (xe 455 (zdX xh L) (xe 429 (zEN za6 L) (xe 461 (zDB za3 L) (xe 502 (zd0 zg L) (xe 674 (zmq yS L) (xe 503 (zmf zM L) (xe 669 (zpe yR L) noC))))))))
def zl1{β:Type}(yR:zes)(zM:zfv)(yS:zfA)(zg:zO)(za3:zoS)(za6:zpw)(xh:zT)(zW:zgZ)(L:Nat)(A:List V)(C:Ls)(z:Bool→Ob β):Ob β:=yR β L  (ifb (decide (((XK C:Nat):Int)>(200:Int))) (z true) (zM β L C (fun D T=>chk ((XK D)=68∧0+68≤68) (lt (zk ([(Qc (0:Int))]++We 64 (Qa (0:Int))++[(Qc (0:Int)),(Qc (0:Int)),(Qc (0:Int))]) 0 D) fun E=>yS β L C (fun F U=>chk ((XK F)=68∧0+68≤68) (lt (zk ([(Qc (0:Int))]++We 64 (Qa (0:Int))++[(Qc (0:Int)),(Qc (0:Int)),(Qc (0:Int))]) 0 F) fun G=>chk (0+68≤(XK A)) (zg β L (XL 68 A) (fun W=>zM β L W (fun H X=>chk ((XK H)=68∧0+68≤68) (lt (zk ([(Qc (0:Int))]++We 64 (Qa (0:Int))++[(Qc (0:Int)),(Qc (0:Int)),(Qc (0:Int))]) 0 H) fun I=>chk (0+68≤(XK E)) (chk (0+68≤(XK G)) (eqC 68 (XL 68 E) (XL 68 G) fun J=>ifb J (ifb ((T:Int)==U) (chk (0+68≤(XK I)) (chk (0+68≤(XK A)) (eqC 68 (XL 68 I) (XL 68 A) fun M=>ifb M (ifb ((X:Int)==(0:Int)) (chk (0+68≤(XK A)) (za3 β L (XL 68 A) (fun N=>chk (0+68≤(XK A)) (za6 β L (XL 68 A) (fun O=>eqC 32 N O fun P=>ifb P (chk (0+68≤(XK A)) (zg β L (XL 68 A) (fun Q=>chk (0+68≤(XK A)) (xh β L (XL 68 A) (fun R=>zW β L Q R (fun S=>z S)))))) (z false)))))) (z false)) (z false)))) (z false)) (z false)))))))))))))
theorem zFH{β:Type}(yR:zes)(zM:zfv)(yS:zfA)(zg:zO)(za3:zoS)(za6:zpw)(xh:zT)(zW:zgZ)(L:Nat)(z:List V)(A:Ls)(k:KK β):zh zlh (zk3 yR zM yS zg za3 za6 xh zW L) L ztB [(V.agg z),(V.sl 1 A)] [] k=zl1 yR zM yS zg za3 za6 xh zW L z A (fun z=>k (V.sc (.bool z)) []):=by kernel_rfl
abbrev zuh:=∀ (β:Type),Nat→List V→Ls→(Bool→Ob β)→Ob β
def zb7:zuh:=fun β=>@zl1 β yR zM yS zg za3 za6 xh zW
def zmQ(zb7:zuh)(L:Nat):Dk:=dA AG fun z=>dA (AL 1) fun A=>d0 fun β k=>zb7 β L z A (fun z=>k (V.sc (.bool z)) [])
theorem zFq(L:Nat):DK (zmQ zb7 L) (fun _=>zh zlh (zk3 yR zM yS zg za3 za6 xh zW L) L ztB):=xv zak fun z=>xv zaZ fun A=>yK fun _ k=>zFH yR zM yS zg za3 za6 xh zW L z A k
theorem zdO{P:Program}{ren:Rn}{fg:List (Nat × Nat)}{l m:List (Nat × Nat × Hint)}(z:zgI P ren fg l=true)(A:zgI P ren fg m=true):zgI P ren fg (l++m)=true:=by
 unfold zgI at *
 rw [List.all_append,z,A]; rfl
def rh0:List (Nat × Nat × Hint):=[(73,145,zGm),(35,127,zQs),(12,670,zGs),(106,194,zBB),(105,193,zBI),(64,159,zvW),(79,185,ztq),(65,160,ztm),(95,138,zCO),(153,206,zvS),(97,187,zsa),(96,186,zJs)]
theorem ybg:zgI Tryz.prog (zcI fg gls) fg rh0=true:=by kernel_rfl
def rh1:List (Nat × Nat × Hint):=[(55,149,zBn),(53,148,zGQ),(150,531,zJJ),(151,532,zyU),(192,572,zlW),(178,571,zGv),(176,569,zwM),(177,570,zvp),(152,533,zwG),(94,494,zKs),(54,454,zBR),(22,519,zGB)]
theorem ybl:zgI Tryz.prog (zcI fg gls) fg rh1=true:=by kernel_rfl
def rh2:List (Nat × Nat × Hint):=[(98,453,zF5),(57,588,zF3),(56,555,zBY),(42,520,zHK),(17,474,zHH),(103,192,zB1),(74,191,zA4),(61,157,zut),(62,158,zts),(28,502,zqA),(75,205,zvK),(76,183,zvQ)]
theorem ybt:zgI Tryz.prog (zcI fg gls) fg rh2=true:=by kernel_rfl
def rh3:List (Nat × Nat × Hint):=[(36,182,ztI),(126,137,zM3),(127,184,zrK),(78,147,zLb),(77,146,zP8),(37,128,zKF),(13,577,zBk),(83,188,zOI),(43,151,zEU),(84,150,zNu),(44,131,zNJ),(155,497,zQF)]
theorem ya0:zgI Tryz.prog (zcI fg gls) fg rh3=true:=by kernel_rfl
def rh4:List (Nat × Nat × Hint):=[(154,496,zP9),(180,535,zNk),(179,534,zA6),(156,498,zBS),(104,458,zPd),(63,501,zGR),(81,583,zKd),(85,548,zV5),(45,578,zDt),(40,596,zQc),(128,617,zDz),(82,608,zzg)]
theorem ybh:zgI Tryz.prog (zcI fg gls) fg rh4=true:=by kernel_rfl
def rh5:List (Nat × Nat × Hint):=[(41,597,zEY),(16,579,zF2),(18,542,zC2),(31,455,zqo),(80,129,zBi),(39,488,zBv),(38,449,zFO),(86,152,zHN),(46,153,zwV),(47,132,zDm),(25,517,zNe),(48,556,zDJ)]
theorem ya3:zgI Tryz.prog (zcI fg gls) fg rh5=true:=by kernel_rfl
def rh6:List (Nat × Nat × Hint):=[(49,557,zzk),(50,558,zDs),(19,522,zCS),(187,562,zwU),(174,552,zJl),(147,513,zKf),(175,553,zGF),(190,565,zKg),(198,593,zJ3),(191,566,zJf),(171,527,zBA),(173,529,zuQ)]
theorem ybR:zgI Tryz.prog (zcI fg gls) fg rh6=true:=by kernel_rfl
def rh7:List (Nat × Nat × Hint):=[(172,528,zKR),(144,485,zEB),(149,515,zDy),(183,136,zzw),(164,521,zEg),(165,134,zDd),(15,130,zGz),(30,429,zFJ),(148,514,zJI),(91,467,zEu),(92,468,zCN),(93,469,zE6)]
theorem ybB:zgI Tryz.prog (zcI fg gls) fg rh7=true:=by kernel_rfl
def rh8:List (Nat × Nat × Hint):=[(52,442,zHB),(182,554,zNl),(132,448,zDO),(162,516,zG1),(129,470,zr6),(131,472,zy5),(163,518,zJV),(130,471,zzx),(134,475,zBq),(196,117,zv5),(186,561,zKe),(199,594,zKa)]
theorem ybm:zgI Tryz.prog (zcI fg gls) fg rh8=true:=by kernel_rfl
def rh9:List (Nat × Nat × Hint):=[(188,563,zKK),(189,564,zyY),(170,526,zBF),(143,484,zF7),(145,486,zBs),(133,473,zKW),(87,443,zHt),(135,476,zEr),(139,480,zHC),(166,441,zw4),(136,477,zDX),(167,523,zJ7)]
theorem ya9:zgI Tryz.prog (zcI fg gls) fg rh9=true:=by kernel_rfl
def ybS:List (Nat × Nat × Hint):=[(193,589,zB2),(184,559,zy1),(216,618,zEw),(209,610,zLa),(200,599,zCU),(201,600,zBO),(202,601,zF6),(203,602,zBX),(204,603,zBK),(205,604,zD5),(206,605,zE4),(195,591,zF4)]
theorem yar:zgI Tryz.prog (zcI fg gls) fg ybS=true:=by kernel_rfl
def ybT:List (Nat × Nat × Hint):=[(210,611,zBr),(212,613,zHu),(211,612,zDN),(228,630,zyC),(223,625,zDS),(234,636,zBH),(230,632,zBJ),(231,633,zBf),(226,628,zJW),(229,631,zKz),(221,623,zBa),(217,619,zC3)]
theorem yai:zgI Tryz.prog (zcI fg gls) fg ybT=true:=by kernel_rfl
def ybe:List (Nat × Nat × Hint):=[(222,624,zEn),(218,620,zA5),(225,627,zED),(224,626,zJA),(236,638,zDE),(233,635,zA3),(237,639,zA7),(235,637,zwe),(232,634,zA9),(227,629,zuj),(219,621,zBl),(213,614,zBt)]
theorem yae:zgI Tryz.prog (zcI fg gls) fg ybe=true:=by kernel_rfl
def ybc:List (Nat × Nat × Hint):=[(214,615,zEX),(220,622,zBg),(215,616,zBd),(207,606,zHr),(194,590,zKO),(185,560,zwq),(168,524,zDL),(137,478,zEj),(138,479,zzI),(142,483,zyR),(169,525,zHv),(140,481,zKI)]
theorem z95:zgI Tryz.prog (zcI fg gls) fg ybc=true:=by kernel_rfl
def ybP:List (Nat × Nat × Hint):=[(141,482,zDV),(88,444,zyP),(146,487,zGp),(90,446,zyB),(89,445,zDv),(51,424,zKq),(20,422,zGl),(11,669,zGe),(4,662,zrW),(14,456,zBZ),(3,661,zqk),(100,198,zGu)]
theorem yav:zgI Tryz.prog (zcI fg gls) fg ybP=true:=by kernel_rfl
def ybM:List (Nat × Nat × Hint):=[(99,197,zrO),(58,170,zJe),(59,172,zG5),(26,503,zqs),(119,209,zBm),(101,200,zLn),(102,202,zGE),(60,676,zBL),(27,674,zqv),(29,461,zGN),(7,665,zqq)]
theorem z90:zgI Tryz.prog (zcI fg gls) fg ybM=true:=by kernel_rfl
noncomputable def rows:List Row:=z9t Tryz.prog (zcI fg gls) (rh0++(rh1++(rh2++(rh3++(rh4++(rh5++(rh6++(rh7++(rh8++(rh9++(ybS++(ybT++(ybe++(ybc++(ybP++(ybM))))))))))))))))
theorem z93:∀ r∈rows,(r.f,r.g)∈fg∧zgw Tryz.prog r.f=true∧zI7 Tryz.prog (zcI fg gls) r.h r.f=some r.c:=z8P (zdO ybg (zdO ybl (zdO ybt (zdO ya0 (zdO ybh (zdO ya3 (zdO ybR (zdO ybB (zdO ybm (zdO ya9 (zdO yar (zdO yai (zdO yae (zdO z95 (zdO yav (z90))))))))))))))))
theorem yb7:Tryz.prog.follows .mixedOrders=true:=by kernel_rfl
theorem yb6:z8C fg=true:=by kernel_rfl
theorem ycc:zkq Tryz.prog (zcI fg gls) zOY:=yaf (z9E (by kernel_rfl)) (ybC (by kernel_rfl))
theorem z9A(L d:Nat):zkq Tryz.prog (zcI fg gls) (zER (evF (zm rows) zOY L d)):=yaj yb7 yb6 ycc z93 L d
theorem zW1(L:Nat):FOk (zm rows) L 145 (zDD zp L) 1:=yj (D:=0) (by kernel_rfl) fun m hm=>⟨zdW,zdT L,xj,zWa L⟩
theorem z3K(L:Nat):FOk (zm rows) L 127 (zOy xO L) 2:=yj (D:=1) (by kernel_rfl) fun m hm=>⟨zb4,zb9 zp L,(xb xj (zW1 L m (by omega))),z1G L⟩
theorem zXv(L:Nat):FOk (zm rows) L 670 (zvX zav L) 3:=yj (D:=2) (by kernel_rfl) fun m hm=>⟨zdU,zdP xO L,(xb xj (z3K L m (by omega))),zUX L⟩
theorem zsT(L:Nat):FOk (zm rows) L 194 (zla xy L) 1:=yj (D:=0) (by kernel_rfl) fun m hm=>⟨zdk,zdh L,xj,zRb L⟩
theorem zgo(L:Nat):FOk (zm rows) L 193 (ze0 yg L) 1:=yj (D:=0) (by kernel_rfl) fun m hm=>⟨zvw,zv6 L,xj,zRF L⟩
theorem zje(L:Nat):FOk (zm rows) L 159 (zfN xa L) 2:=yj (D:=1) (by kernel_rfl) fun m hm=>⟨zpl,zpO xy yg L,(xb (xb xj (zsT L m (by omega))) (zgo L m (by omega))),zLw L⟩
theorem zme(L:Nat):FOk (zm rows) L 185 (zgV ya L) 2:=yj (D:=1) (by kernel_rfl) fun m hm=>⟨znt,znk xy yg L,(xb (xb xj (zsT L m (by omega))) (zgo L m (by omega))),zJP L⟩
theorem zmW(L:Nat):FOk (zm rows) L 160 (zhc yn L) 2:=yj (D:=1) (by kernel_rfl) fun m hm=>⟨znH,znT yg L,(xb xj (zgo L m (by omega))),zLe L⟩
theorem zGK(L:Nat):FOk (zm rows) L 138 (zss zf L) 3:=yj (D:=2) (by kernel_rfl) fun m hm=>⟨zw9,zxS yn xa L,(xb (xb xj (zmW L m (by omega))) (zje L m (by omega))),zTa L⟩
theorem zN9(L:Nat):FOk (zm rows) L 206 (zrf zad L) 2:=yj (D:=1) (by kernel_rfl) fun m hm=>⟨zpV,zpd xy yg L,(xb (xb xj (zsT L m (by omega))) (zgo L m (by omega))),zMS L⟩
theorem ztr(L:Nat):FOk (zm rows) L 187 (zi6 zc L) 3:=yj (D:=2) (by kernel_rfl) fun m hm=>⟨zmD,zmM ya yg L,(xb (xb xj (zme L m (by omega))) (zgo L m (by omega))),zIN L⟩
theorem zN1(L:Nat):FOk (zm rows) L 186 (zyn zi L) 4:=yj (D:=3) (by kernel_rfl) fun m hm=>⟨zDr,zDU zad zc L,(xb (xb xj (zN9 L m (by omega))) (ztr L m (by omega))),zXS L⟩
theorem ziQ(L:Nat):FOk (zm rows) L 149 (zeS yd L) 5:=yj (D:=4) (by kernel_rfl) fun m hm=>⟨xP,zQ xa ya zf zi zc L,(xb (xb (xb (xb (xb xj (zje L m (by omega))) (zme L m (by omega))) (zGK L m (by omega))) (zN1 L m (by omega))) (ztr L m (by omega))),zRM L⟩
theorem zgm(L:Nat):FOk (zm rows) L 148 (zeC yc L) 6:=yj (D:=5) (by kernel_rfl) fun m hm=>⟨z9,y8 yd L,(xb xj (ziQ L m (by omega))),zVB L⟩
theorem zZ2(L:Nat):FOk (zm rows) L 531 (zH2 yu L) 1:=yj (D:=0) (by kernel_rfl) fun m hm=>⟨zbU,zbT L,xj,zXn L⟩
theorem zRO(L:Nat):FOk (zm rows) L 532 (zuB ym L) 1:=yj (D:=0) (by kernel_rfl) fun m hm=>⟨ztc,zti L,xj,zPz L⟩
theorem zm4(L:Nat):FOk (zm rows) L 572 (zfF xx L) 1:=yj (D:=0) (by kernel_rfl) fun m hm=>⟨zik,ziv L,xj,zzp L⟩
theorem zLc(L:Nat):FOk (zm rows) L 571 (zwc yh L) 2:=yj (D:=1) (by kernel_rfl) fun m hm=>⟨zzR,zAa xx L,(xb xj (zm4 L m (by omega))),zWg L⟩
theorem zOF(L:Nat):FOk (zm rows) L 569 (zsM xw L) 3:=yj (D:=2) (by kernel_rfl) fun m hm=>⟨zay,zax yh L,(xb xj (zLc L m (by omega))),zOo L⟩
theorem zOt(L:Nat):FOk (zm rows) L 570 (zqN xu L) 1:=yj (D:=0) (by kernel_rfl) fun m hm=>⟨zoR,zpS L,xj,zMa L⟩
theorem zOO(L:Nat):FOk (zm rows) L 533 (zs7 zl L) 4:=yj (D:=3) (by kernel_rfl) fun m hm=>⟨zcm,zcl xw xu yh L,(xb (xb (xb xj (zOF L m (by omega))) (zOt L m (by omega))) (zLc L m (by omega))),zOn L⟩
theorem zAu(L:Nat):FOk (zm rows) L 494 (zrI yX L) 5:=yj (D:=4) (by kernel_rfl) fun m hm=>⟨zbS,zbP yu ym zl L,(xb (xb (xb xj (zZ2 L m (by omega))) (zRO L m (by omega))) (zOO L m (by omega))),zXD L⟩
theorem zjS(L:Nat):FOk (zm rows) L 494 (zim zth L) 5:=zD6 (zAu L) (zXk L)
theorem zsG(L:Nat):FOk (zm rows) L 454 (ziC xJ L) 6:=yj (D:=5) (by kernel_rfl) fun m hm=>⟨zvh,zvI yX L,(xb xj (zAu L m (by omega))),zRd L⟩
theorem zle(L:Nat):FOk (zm rows) L 454 (zim zE5 L) 6:=zD6 (zsG L) (zRz L)
theorem zXg(L:Nat):FOk (zm rows) L 519 (zCP yI L) 7:=yj (D:=6) (by kernel_rfl) fun m hm=>⟨zzS,zzN yc yd xJ L,(xb (xb (xb xj (zgm L m (by omega))) (ziQ L m (by omega))) (zsG L m (by omega))),zU2 L⟩
theorem zgx(L:Nat):FOk (zm rows) L 453 (zfh zai L) 2:=yj (D:=1) (by kernel_rfl) fun m hm=>⟨zeE,zeK yg L,(xb xj (zgo L m (by omega))),zU9 L⟩
theorem zXO(L:Nat):FOk (zm rows) L 588 (zC4 xq L) 6:=yj (D:=5) (by kernel_rfl) fun m hm=>⟨zAb,zAn zai yX L,(xb (xb xj (zgx L m (by omega))) (zAu L m (by omega))),zUD L⟩
theorem zTU(L:Nat):FOk (zm rows) L 555 (zxs zaY L) 7:=yj (D:=6) (by kernel_rfl) fun m hm=>⟨zaU,zaV xq L,(xb xj (zXO L m (by omega))),zRA L⟩
theorem zW5(L:Nat):FOk (zm rows) L 520 (zEH xI L) 8:=yj (D:=7) (by kernel_rfl) fun m hm=>⟨zAR,zz9 zaY L,(xb xj (zTU L m (by omega))),zWt L⟩
theorem zYn(L:Nat):FOk (zm rows) L 474 (zpo zw L) 9:=yj (D:=8) (by kernel_rfl) fun m hm=>⟨zeM,zeL yI xI L,(xb (xb xj (zXg L m (by omega))) (zW5 L m (by omega))),zVS L⟩
theorem zsQ(L:Nat):FOk (zm rows) L 192 (zlm xD L) 1:=yj (D:=0) (by kernel_rfl) fun m hm=>⟨zdn,zdj L,xj,zRo L⟩
theorem zgn(L:Nat):FOk (zm rows) L 191 (zeW xl L) 1:=yj (D:=0) (by kernel_rfl) fun m hm=>⟨zvx,zuC L,xj,zRE L⟩
theorem zi8(L:Nat):FOk (zm rows) L 157 (zfK yb L) 2:=yj (D:=1) (by kernel_rfl) fun m hm=>⟨zpU,zoW xD xl L,(xb (xb xj (zsQ L m (by omega))) (zgn L m (by omega))),zMQ L⟩
theorem zvu(L:Nat):FOk (zm rows) L 158 (zjH zH L) 2:=yj (D:=1) (by kernel_rfl) fun m hm=>⟨znN,zns xl L,(xb xj (zgn L m (by omega))),zKP L⟩
theorem zgL(L:Nat):FOk (zm rows) L 502 (zd0 zg L) 3:=yj (D:=2) (by kernel_rfl) fun m hm=>⟨zkX,zk8 yb zH L,(xb (xb xj (zi8 L m (by omega))) (zvu L m (by omega))),zFp L⟩
theorem zOs(L:Nat):FOk (zm rows) L 205 (zqB zae L) 2:=yj (D:=1) (by kernel_rfl) fun m hm=>⟨zo4,zpn xD xl L,(xb (xb xj (zsQ L m (by omega))) (zgn L m (by omega))),zMu L⟩
theorem zw0(L:Nat):FOk (zm rows) L 183 (zkS zd L) 2:=yj (D:=1) (by kernel_rfl) fun m hm=>⟨zpb,zpc xD xl L,(xb (xb xj (zsQ L m (by omega))) (zgn L m (by omega))),zML L⟩
theorem zl6(L:Nat):FOk (zm rows) L 182 (zg7 za L) 3:=yj (D:=2) (by kernel_rfl) fun m hm=>⟨znS,znC xl zae yb zd L,(xb (xb (xb (xb xj (zgn L m (by omega))) (zOs L m (by omega))) (zi8 L m (by omega))) (zw0 L m (by omega))),zKB L⟩
theorem z2g(L:Nat):FOk (zm rows) L 137 (zLr yk L) 3:=yj (D:=2) (by kernel_rfl) fun m hm=>⟨zIE,zIg zH yb L,(xb (xb xj (zvu L m (by omega))) (zi8 L m (by omega))),zZ0 L⟩
theorem zJn(L:Nat):FOk (zm rows) L 184 (znz xc L) 4:=yj (D:=3) (by kernel_rfl) fun m hm=>⟨zma,zmu za xl L,(xb (xb xj (zl6 L m (by omega))) (zgn L m (by omega))),zIX L⟩
theorem zNW(L:Nat):FOk (zm rows) L 147 (zyi yi L) 5:=yj (D:=4) (by kernel_rfl) fun m hm=>⟨xZ,y4 yb za yk zd xc L,(xb (xb (xb (xb (xb xj (zi8 L m (by omega))) (zl6 L m (by omega))) (z2g L m (by omega))) (zw0 L m (by omega))) (zJn L m (by omega))),zX0 L⟩
theorem zSk(L:Nat):FOk (zm rows) L 146 (zGA zJ L) 6:=yj (D:=5) (by kernel_rfl) fun m hm=>⟨zaP,zaQ yi L,(xb xj (zNW L m (by omega))),z1B L⟩
theorem zzL(L:Nat):FOk (zm rows) L 128 (zrL yA L) 7:=yj (D:=6) (by kernel_rfl) fun m hm=>⟨zDi,zD8 zJ yi L,(xb (xb xj (zSk L m (by omega))) (zNW L m (by omega))),zYC L⟩
theorem zC0(L:Nat):FOk (zm rows) L 577 (zls zB L) 8:=yj (D:=7) (by kernel_rfl) fun m hm=>⟨zcy,zcx zg za yA L,(xb (xb (xb xj (zgL L m (by omega))) (zl6 L m (by omega))) (zzL L m (by omega))),zRt L⟩
theorem z3z(L:Nat):FOk (zm rows) L 188 (zPG zdz L) 1:=yj (D:=0) (by kernel_rfl) fun m hm=>⟨zL2,zLX L,xj,z1I L⟩
theorem zGV(L:Nat):FOk (zm rows) L 151 (zmX yo L) 2:=yj (D:=1) (by kernel_rfl) fun m hm=>⟨zye,zxf zdz L,(xb xj (z3z L m (by omega))),zTt L⟩
theorem z1E(L:Nat):FOk (zm rows) L 150 (zMk xM L) 1:=yj (D:=0) (by kernel_rfl) fun m hm=>⟨zfb,zfe L,xj,zZN L⟩
theorem z27(L:Nat):FOk (zm rows) L 131 (zCv y5 L) 7:=yj (D:=6) (by kernel_rfl) fun m hm=>⟨zfc,zfd zJ xM yo L,(xb (xb (xb xj (zSk L m (by omega))) (z1E L m (by omega))) (zGV L m (by omega))),zZV L⟩
theorem z3L(L:Nat):FOk (zm rows) L 497 (zP3 xC L) 1:=yj (D:=0) (by kernel_rfl) fun m hm=>⟨zeJ,zeH L,xj,z2Q L⟩
theorem z3M(L:Nat):FOk (zm rows) L 496 (zO1 xB L) 1:=yj (D:=0) (by kernel_rfl) fun m hm=>⟨zib,zh3 L,xj,z1y L⟩
theorem zQz(L:Nat):FOk (zm rows) L 535 (zCu xf L) 2:=yj (D:=1) (by kernel_rfl) fun m hm=>⟨zHP,zIJ xx L,(xb xj (zm4 L m (by omega))),zZQ L⟩
theorem zT1(L:Nat):FOk (zm rows) L 534 (zx0 zC L) 3:=yj (D:=2) (by kernel_rfl) fun m hm=>⟨y6,y7 xf L,(xb xj (zQz L m (by omega))),zR0 L⟩
theorem zTq(L:Nat):FOk (zm rows) L 498 (zxP xn L) 4:=yj (D:=3) (by kernel_rfl) fun m hm=>⟨zdg,zc7 zC xf L,(xb (xb xj (zT1 L m (by omega))) (zQz L m (by omega))),zRS L⟩
theorem zIo(L:Nat):FOk (zm rows) L 458 (zyE zam L) 5:=yj (D:=4) (by kernel_rfl) fun m hm=>⟨zcG,zcH xC xB xn L,(xb (xb (xb xj (z3L L m (by omega))) (z3M L m (by omega))) (zTq L m (by omega))),z2O L⟩
theorem zTO(L:Nat):FOk (zm rows) L 458 (zim zth L) 5:=zD6 (zIo L) (z0L L)
theorem zx5(L:Nat):FOk (zm rows) L 501 (zpK xX L) 6:=yj (D:=5) (by kernel_rfl) fun m hm=>⟨zz2,zAD zam L,(xb xj (zIo L m (by omega))),zWw L⟩
theorem zN2(L:Nat):FOk (zm rows) L 501 (zim zE5 L) 6:=zD6 (zx5 L) (zUJ L)
theorem z0e(L:Nat):FOk (zm rows) L 583 (zyu zaJ L) 8:=yj (D:=7) (by kernel_rfl) fun m hm=>⟨zEs,zEJ yA xX L,(xb (xb xj (zzL L m (by omega))) (zx5 L m (by omega))),zXG L⟩
theorem z3m(L:Nat):FOk (zm rows) L 596 (zOz xT L) 9:=yj (D:=8) (by kernel_rfl) fun m hm=>⟨zLM,zMw zaJ L,(xb xj (z0e L m (by omega))),z0M L⟩
theorem zV7(L:Nat):FOk (zm rows) L 617 (zzM yp L) 6:=yj (D:=5) (by kernel_rfl) fun m hm=>⟨zxt,zxB zam L,(xb xj (zIo L m (by omega))),zTK L⟩
theorem zRm(L:Nat):FOk (zm rows) L 608 (zuu zaI L) 7:=yj (D:=6) (by kernel_rfl) fun m hm=>⟨zaG,zaH yp L,(xb xj (zV7 L m (by omega))),zQA L⟩
theorem zUl(L:Nat):FOk (zm rows) L 597 (zz4 yF L) 8:=yj (D:=7) (by kernel_rfl) fun m hm=>⟨zx2,zxJ zaI L,(xb xj (zRm L m (by omega))),zTu L⟩
theorem zXo(L:Nat):FOk (zm rows) L 579 (zu5 xH L) 10:=yj (D:=9) (by kernel_rfl) fun m hm=>⟨zeI,zeF xT yF L,(xb (xb xj (z3m L m (by omega))) (zUl L m (by omega))),zUp L⟩
theorem zgE(L:Nat):FOk (zm rows) L 455 (zdX xh L) 3:=yj (D:=2) (by kernel_rfl) fun m hm=>⟨zbm,zbl xa yn L,(xb (xb xj (zje L m (by omega))) (zmW L m (by omega))),zFo L⟩
theorem zTs(L:Nat):FOk (zm rows) L 129 (zxw zE L) 7:=yj (D:=6) (by kernel_rfl) fun m hm=>⟨zu2,zvj yc yd L,(xb (xb xj (zgm L m (by omega))) (ziQ L m (by omega))),zRp L⟩
theorem zES(L:Nat):FOk (zm rows) L 488 (zqf yr L) 8:=yj (D:=7) (by kernel_rfl) fun m hm=>⟨zdf,zdd xh ya zE L,(xb (xb (xb xj (zgE L m (by omega))) (zme L m (by omega))) (zTs L m (by omega))),zRi L⟩
theorem zK3(L:Nat):FOk (zm rows) L 449 (zoN zz L) 9:=yj (D:=8) (by kernel_rfl) fun m hm=>⟨zdR,zdQ yc yr L,(xb (xb xj (zgm L m (by omega))) (zES L m (by omega))),zUg L⟩
theorem zLo(L:Nat):FOk (zm rows) L 152 (zuS xd L) 1:=yj (D:=0) (by kernel_rfl) fun m hm=>⟨zAx,zzP L,xj,zVP L⟩
theorem zjX(L:Nat):FOk (zm rows) L 153 (zeQ zb L) 2:=yj (D:=1) (by kernel_rfl) fun m hm=>⟨zrj,zrq xd L,(xb xj (zLo L m (by omega))),zOe L⟩
theorem zFW(L:Nat):FOk (zm rows) L 132 (zm6 xE L) 7:=yj (D:=6) (by kernel_rfl) fun m hm=>⟨zN,yN yc xd zb L,(xb (xb (xb xj (zgm L m (by omega))) (zLo L m (by omega))) (zjX L m (by omega))),zS9 L⟩
theorem zGM(L:Nat):FOk (zm rows) L 556 (zmZ xg L) 1:=yj (D:=0) (by kernel_rfl) fun m hm=>⟨zcP,zc2 L,xj,zTn L⟩
theorem zR6(L:Nat):FOk (zm rows) L 557 (zn9 zA L) 2:=yj (D:=1) (by kernel_rfl) fun m hm=>⟨zaq,zar xg L,(xb xj (zGM L m (by omega))),zOw L⟩
theorem zWu(L:Nat):FOk (zm rows) L 558 (zsw xF L) 1:=yj (D:=0) (by kernel_rfl) fun m hm=>⟨zU,xU L,xj,zTE L⟩
theorem zdJ(L:Nat):FOk (zm rows) L 562 (zcF zZ L) 1:=yj (D:=0) (by kernel_rfl) fun m hm=>⟨zrs,zqV L,xj,zOl L⟩
theorem zsl(L:Nat):FOk (zm rows) L 552 (znd xp L) 1:=yj (D:=0) (by kernel_rfl) fun m hm=>⟨zC8,zC6 L,xj,zYb L⟩
theorem zsq(L:Nat):FOk (zm rows) L 513 (znf zbr L) 2:=yj (D:=1) (by kernel_rfl) fun m hm=>⟨zfq,zff xp L,(xb xj (zsl L m (by omega))),zXY L⟩
theorem zeX(L:Nat):FOk (zm rows) L 553 (zdK zK L) 1:=yj (D:=0) (by kernel_rfl) fun m hm=>⟨zAM,zzY L,xj,zVf L⟩
theorem zAh(L:Nat):FOk (zm rows) L 565 (zsc zbJ L) 2:=yj (D:=1) (by kernel_rfl) fun m hm=>⟨zeB,zev xp L,(xb xj (zsl L m (by omega))),zYG L⟩
theorem zzW(L:Nat):FOk (zm rows) L 593 (zr7 yL L) 1:=yj (D:=0) (by kernel_rfl) fun m hm=>⟨zfy,zfk L,xj,zXf L⟩
theorem zNf(L:Nat):FOk (zm rows) L 566 (zyp zbK L) 2:=yj (D:=1) (by kernel_rfl) fun m hm=>⟨zfB,zfz yL L,(xb xj (zzW L m (by omega))),zWX L⟩
theorem zTg(L:Nat):FOk (zm rows) L 527 (zlM zS L) 3:=yj (D:=2) (by kernel_rfl) fun m hm=>⟨zwf,zuE zZ zbr zK zbJ zbK L,(xb (xb (xb (xb (xb xj (zdJ L m (by omega))) (zsq L m (by omega))) (zeX L m (by omega))) (zAh L m (by omega))) (zNf L m (by omega))),zRw L⟩
theorem zk0(L:Nat):FOk (zm rows) L 527 (zVH L) 3:=zD6 (zTg L) (zRr L)
theorem zi7(L:Nat):FOk (zm rows) L 529 (zed zaW L) 1:=yj (D:=0) (by kernel_rfl) fun m hm=>⟨zb8,zb5 L,xj,zMR L⟩
theorem zfQ(L:Nat):FOk (zm rows) L 528 (zdS zX L) 1:=yj (D:=0) (by kernel_rfl) fun m hm=>⟨zez,zeD L,xj,zWV L⟩
theorem zBC(L:Nat):FOk (zm rows) L 136 (zok zy L) 1:=yj (D:=0) (by kernel_rfl) fun m hm=>⟨zcc,zcb L,xj,zOE L⟩
theorem zVh(L:Nat):FOk (zm rows) L 521 (zAd zm3 L) 2:=yj (D:=1) (by kernel_rfl) fun m hm=>⟨zcT,zcR zy L,(xb xj (zBC L m (by omega))),zS6 L⟩
theorem zHM(L:Nat):FOk (zm rows) L 134 (zsD zjx L) 1:=yj (D:=0) (by kernel_rfl) fun m hm=>⟨zcZ,zcO L,xj,zS3 L⟩
theorem zxn(L:Nat):FOk (zm rows) L 130 (zpQ zW L) 1:=yj (D:=0) (by kernel_rfl) fun m hm=>⟨zAe,zAU L,xj,zUy L⟩
theorem zXp(L:Nat):FOk (zm rows) L 429 (zEN za6 L) 7:=yj (D:=6) (by kernel_rfl) fun m hm=>⟨zAv,zAm xh xJ L,(xb (xb xj (zgE L m (by omega))) (zsG L m (by omega))),zVV L⟩
theorem zZL(L:Nat):FOk (zm rows) L 514 (zSE L) 1:=yj (D:=0) (by kernel_rfl) fun m hm=>⟨zj [],zP4 L,xj,fun _ _ _ _ _ h=>h⟩
theorem zWI(L:Nat):FOk (zm rows) L 467 (zNF L) 3:=yj (D:=2) (by kernel_rfl) fun m hm=>⟨zj [],zK1 L,(xb (xb xj (zZL L m (by omega))) (zsq L m (by omega))),fun _ _ _ _ _ h=>h⟩
theorem zeb(L:Nat):FOk (zm rows) L 515 (zef L) 4:=yj (D:=3) (by kernel_rfl) fun m hm=>⟨zj [],zDu L,(xb (xb (xb xj (zeX L m (by omega))) (zk0 L m (by omega))) (zfQ L m (by omega))),fun _ _ _ _ _ h=>h⟩
theorem zi0(L:Nat):FOk (zm rows) L 429 (ziE L) 7:=yj (D:=6) (by kernel_rfl) fun m hm=>⟨zj [],zG8 L,(xb (xb xj (zgE L m (by omega))) (zle L m (by omega))),fun _ _ _ _ _ h=>h⟩
theorem zUq(L:Nat):FOk (zm rows) L 468 (zNL L) 8:=yj (D:=7) (by kernel_rfl) fun m hm=>⟨zj [],zLg L,(xb (xb xj (zeb L m (by omega))) (zi0 L m (by omega))),fun _ _ _ _ _ h=>h⟩
theorem zWv(L:Nat):FOk (zm rows) L 469 (zNV L) 8:=yj (D:=7) (by kernel_rfl) fun m hm=>⟨zj [],zJo L,(xb (xb xj (zeb L m (by omega))) (zi0 L m (by omega))),fun _ _ _ _ _ h=>h⟩
theorem zXH(L:Nat):FOk (zm rows) L 442 (zO5 L) 9:=yj (D:=8) (by kernel_rfl) fun m hm=>⟨zj [],zNr L,(xb (xb (xb xj (zWI L m (by omega))) (zUq L m (by omega))) (zWv L m (by omega))),fun _ _ _ _ _ h=>h⟩
theorem z07(L:Nat):FOk (zm rows) L 554 (zVQ L) 1:=yj (D:=0) (by kernel_rfl) fun m hm=>⟨zj [],zSH L,xj,fun _ _ _ _ _ h=>h⟩
theorem zHg(L:Nat):FOk (zm rows) L 448 (zAE L) 1:=yj (D:=0) (by kernel_rfl) fun m hm=>⟨zj [],zJ2 L,xj,fun _ _ _ _ _ h=>h⟩
theorem zYq(L:Nat):FOk (zm rows) L 516 (zOQ L) 2:=yj (D:=1) (by kernel_rfl) fun m hm=>⟨zj [],zM4 L,(xb (xb xj (z07 L m (by omega))) (zHg L m (by omega))),fun _ _ _ _ _ h=>h⟩
theorem zx6(L:Nat):FOk (zm rows) L 517 (zum L) 7:=yj (D:=6) (by kernel_rfl) fun m hm=>⟨zj [],zNy L,(xb (xb (xb xj (zgm L m (by omega))) (ziQ L m (by omega))) (zle L m (by omega))),fun _ _ _ _ _ h=>h⟩
theorem zKl(L:Nat):FOk (zm rows) L 470 (zwY L) 8:=yj (D:=7) (by kernel_rfl) fun m hm=>⟨zj [],zu3 L,(xb (xb xj (zYq L m (by omega))) (zx6 L m (by omega))),fun _ _ _ _ _ h=>h⟩
theorem zBE(L:Nat):FOk (zm rows) L 472 (zud L) 5:=yj (D:=4) (by kernel_rfl) fun m hm=>⟨zj [],zEy L,(xb xj (zeb L m (by omega))),fun _ _ _ _ _ h=>h⟩
theorem z0d(L:Nat):FOk (zm rows) L 518 (zSO L) 1:=yj (D:=0) (by kernel_rfl) fun m hm=>⟨zj [],zPw L,xj,fun _ _ _ _ _ h=>h⟩
theorem zRZ(L:Nat):FOk (zm rows) L 471 (zGn L) 2:=yj (D:=1) (by kernel_rfl) fun m hm=>⟨zj [],zDa L,(xb xj (z0d L m (by omega))),fun _ _ _ _ _ h=>h⟩
theorem zTL(L:Nat):FOk (zm rows) L 519 (zJq L) 7:=yj (D:=6) (by kernel_rfl) fun m hm=>⟨zj [],zGZ L,(xb (xb (xb xj (zgm L m (by omega))) (ziQ L m (by omega))) (zle L m (by omega))),fun _ _ _ _ _ h=>h⟩
theorem zTc(L:Nat):FOk (zm rows) L 588 (zK9 L) 6:=yj (D:=5) (by kernel_rfl) fun m hm=>⟨zj [],zFK L,(xb (xb xj (zgx L m (by omega))) (zjS L m (by omega))),fun _ _ _ _ _ h=>h⟩
theorem zP7(L:Nat):FOk (zm rows) L 555 (zDn L) 7:=yj (D:=6) (by kernel_rfl) fun m hm=>⟨zj [],zBV L,(xb xj (zTc L m (by omega))),fun _ _ _ _ _ h=>h⟩
theorem zSR(L:Nat):FOk (zm rows) L 520 (zKx L) 8:=yj (D:=7) (by kernel_rfl) fun m hm=>⟨zj [],zGC L,(xb xj (zP7 L m (by omega))),fun _ _ _ _ _ h=>h⟩
theorem zDP(L:Nat):FOk (zm rows) L 474 (zxI L) 9:=yj (D:=8) (by kernel_rfl) fun m hm=>⟨zj [],zGL L,(xb (xb xj (zTL L m (by omega))) (zSR L m (by omega))),fun _ _ _ _ _ h=>h⟩
theorem zT8(L:Nat):FOk (zm rows) L 475 (zKD L) 1:=yj (D:=0) (by kernel_rfl) fun m hm=>⟨zj [],zGb L,xj,fun _ _ _ _ _ h=>h⟩
theorem zOa(L:Nat):FOk (zm rows) L 117 (zBT L) 1:=yj (D:=0) (by kernel_rfl) fun m hm=>⟨zj [],zzj L,xj,fun _ _ _ _ _ h=>h⟩
theorem zNE(L:Nat):FOk (zm rows) L 561 (zH5 L) 2:=yj (D:=1) (by kernel_rfl) fun m hm=>⟨zj [],zQe L,(xb xj (zOa L m (by omega))),fun _ _ _ _ _ h=>h⟩
theorem zsx(L:Nat):FOk (zm rows) L 594 (zrC L) 1:=yj (D:=0) (by kernel_rfl) fun m hm=>⟨zj [],zPU L,xj,fun _ _ _ _ _ h=>h⟩
theorem zAF(L:Nat):FOk (zm rows) L 563 (zys L) 2:=yj (D:=1) (by kernel_rfl) fun m hm=>⟨zj [],zPO L,(xb (xb (xb (xb xj (zfQ L m (by omega))) (zsl L m (by omega))) (zzW L m (by omega))) (zsx L m (by omega))),fun _ _ _ _ _ h=>h⟩
theorem zRN(L:Nat):FOk (zm rows) L 564 (zGH L) 3:=yj (D:=2) (by kernel_rfl) fun m hm=>⟨zj [],zC5 L,(xb (xb (xb (xb (xb xj (zeX L m (by omega))) (zNf L m (by omega))) (zsq L m (by omega))) (zfQ L m (by omega))) (zAh L m (by omega))),fun _ _ _ _ _ h=>h⟩
theorem zSZ(L:Nat):FOk (zm rows) L 526 (zJz L) 5:=yj (D:=4) (by kernel_rfl) fun m hm=>⟨zj [],zG9 L,(xb (xb (xb (xb (xb (xb (xb (xb xj (zeb L m (by omega))) (zk0 L m (by omega))) (zdJ L m (by omega))) (zNE L m (by omega))) (zAF L m (by omega))) (zfQ L m (by omega))) (zeX L m (by omega))) (zRN L m (by omega))),fun _ _ _ _ _ h=>h⟩
theorem zJQ(L:Nat):FOk (zm rows) L 484 (zCT L) 6:=yj (D:=5) (by kernel_rfl) fun m hm=>⟨zj [],zMY L,(xb (xb xj (zeb L m (by omega))) (zSZ L m (by omega))),fun _ _ _ _ _ h=>h⟩
theorem zCW(L:Nat):FOk (zm rows) L 486 (zxk L) 1:=yj (D:=0) (by kernel_rfl) fun m hm=>⟨zj [],zGX L,xj,fun _ _ _ _ _ h=>h⟩
theorem zBb(L:Nat):FOk (zm rows) L 485 (zu7 L) 4:=yj (D:=3) (by kernel_rfl) fun m hm=>⟨zj [],zDf L,(xb (xb (xb xj (zk0 L m (by omega))) (zi7 L m (by omega))) (zfQ L m (by omega))),fun _ _ _ _ _ h=>h⟩
theorem z0u(L:Nat):FOk (zm rows) L 473 (zSD L) 8:=yj (D:=7) (by kernel_rfl) fun m hm=>⟨zj [],zO2 L,(xb (xb (xb (xb xj (zJQ L m (by omega))) (zCW L m (by omega))) (zi0 L m (by omega))) (zBb L m (by omega))),fun _ _ _ _ _ h=>h⟩
theorem zXh(L:Nat):FOk (zm rows) L 443 (zPi L) 10:=yj (D:=9) (by kernel_rfl) fun m hm=>⟨zj [],zM0 L,(xb (xb (xb (xb (xb (xb (xb xj (zKl L m (by omega))) (zBE L m (by omega))) (zHg L m (by omega))) (zRZ L m (by omega))) (zDP L m (by omega))) (zT8 L m (by omega))) (z0u L m (by omega))),fun _ _ _ _ _ h=>h⟩
theorem zRH(L:Nat):FOk (zm rows) L 522 (zGt L) 10:=yj (D:=9) (by kernel_rfl) fun m hm=>⟨zj [],zEV L,(xb (xb (xb (xb (xb (xb (xb (xb xj (zK3 L m (by omega))) (zjX L m (by omega))) (zFW L m (by omega))) (zx6 L m (by omega))) (zGM L m (by omega))) (zR6 L m (by omega))) (zWu L m (by omega))) (zDP L m (by omega))),fun _ _ _ _ _ h=>h⟩
theorem zUj(L:Nat):FOk (zm rows) L 476 (zNQ L) 11:=yj (D:=10) (by kernel_rfl) fun m hm=>⟨zj [],zK8 L,(xb (xb (xb (xb xj (zeb L m (by omega))) (zVh L m (by omega))) (zRH L m (by omega))) (zHM L m (by omega))),fun _ _ _ _ _ h=>h⟩
theorem zxl(L:Nat):FOk (zm rows) L 480 (zvU L) 1:=yj (D:=0) (by kernel_rfl) fun m hm=>⟨zj [],zNR L,xj,fun _ _ _ _ _ h=>h⟩
theorem zy2(L:Nat):FOk (zm rows) L 441 (zs5 L) 3:=yj (D:=2) (by kernel_rfl) fun m hm=>⟨zj [],zBe L,(xb xj (zgx L m (by omega))),fun _ _ _ _ _ h=>h⟩
theorem zVb(L:Nat):FOk (zm rows) L 477 (zNB L) 4:=yj (D:=3) (by kernel_rfl) fun m hm=>⟨zj [],zJk L,(xb (xb xj (zxl L m (by omega))) (zy2 L m (by omega))),fun _ _ _ _ _ h=>h⟩
theorem z0h(L:Nat):FOk (zm rows) L 523 (zSt L) 8:=yj (D:=7) (by kernel_rfl) fun m hm=>⟨zj [],zQt L,(xb xj (zFW L m (by omega))),fun _ _ _ _ _ h=>h⟩
theorem zCQ(L:Nat):FOk (zm rows) L 589 (zxU L) 6:=yj (D:=5) (by kernel_rfl) fun m hm=>⟨zj [],zFX L,(xb xj (zjS L m (by omega))),fun _ _ _ _ _ h=>h⟩
theorem zRT(L:Nat):FOk (zm rows) L 559 (zFN L) 7:=yj (D:=6) (by kernel_rfl) fun m hm=>⟨zj [],zEI L,(xb (xb (xb (xb (xb (xb (xb xj (zgm L m (by omega))) (zGK L m (by omega))) (zje L m (by omega))) (zN1 L m (by omega))) (zjS L m (by omega))) (zmW L m (by omega))) (zCQ L m (by omega))),fun _ _ _ _ _ h=>h⟩
theorem zVs(L:Nat):FOk (zm rows) L 618 (zNc L) 1:=yj (D:=0) (by kernel_rfl) fun m hm=>⟨zj [],zKT L,xj,fun _ _ _ _ _ h=>h⟩
theorem z0t(L:Nat):FOk (zm rows) L 610 (zSB L) 3:=yj (D:=2) (by kernel_rfl) fun m hm=>⟨zj [],zOD L,(xb (xb xj (zgx L m (by omega))) (zVs L m (by omega))),fun _ _ _ _ _ h=>h⟩
theorem zV2(L:Nat):FOk (zm rows) L 599 (zNn L) 4:=yj (D:=3) (by kernel_rfl) fun m hm=>⟨zj [],zKQ L,(xb xj (z0t L m (by omega))),fun _ _ _ _ _ h=>h⟩
theorem zTW(L:Nat):FOk (zm rows) L 600 (zKk L) 1:=yj (D:=0) (by kernel_rfl) fun m hm=>⟨zj [],zGw L,xj,fun _ _ _ _ _ h=>h⟩
theorem zXd(L:Nat):FOk (zm rows) L 601 (zPu L) 1:=yj (D:=0) (by kernel_rfl) fun m hm=>⟨zj [],zNG L,xj,fun _ _ _ _ _ h=>h⟩
theorem zTl(L:Nat):FOk (zm rows) L 602 (zJy L) 3:=yj (D:=2) (by kernel_rfl) fun m hm=>⟨zj [],zGG L,(xb xj (zgx L m (by omega))),fun _ _ _ _ _ h=>h⟩
theorem zT3(L:Nat):FOk (zm rows) L 603 (zJO L) 1:=yj (D:=0) (by kernel_rfl) fun m hm=>⟨zj [],zFT L,xj,fun _ _ _ _ _ h=>h⟩
theorem zVW(L:Nat):FOk (zm rows) L 604 (zNY L) 1:=yj (D:=0) (by kernel_rfl) fun m hm=>⟨zj [],zKn L,xj,fun _ _ _ _ _ h=>h⟩
theorem zUo(L:Nat):FOk (zm rows) L 605 (zNK L) 1:=yj (D:=0) (by kernel_rfl) fun m hm=>⟨zj [],zJL L,xj,fun _ _ _ _ _ h=>h⟩
theorem zxh(L:Nat):FOk (zm rows) L 591 (zuV L) 1:=yj (D:=0) (by kernel_rfl) fun m hm=>⟨zj [],zNI L,xj,fun _ _ _ _ _ h=>h⟩
theorem zTP(L:Nat):FOk (zm rows) L 611 (zJi L) 1:=yj (D:=0) (by kernel_rfl) fun m hm=>⟨zj [],zG2 L,xj,fun _ _ _ _ _ h=>h⟩
theorem zJp(L:Nat):FOk (zm rows) L 613 (zDQ L) 1:=yj (D:=0) (by kernel_rfl) fun m hm=>⟨zj [],zN0 L,xj,fun _ _ _ _ _ h=>h⟩
theorem zU7(L:Nat):FOk (zm rows) L 612 (zNs L) 2:=yj (D:=1) (by kernel_rfl) fun m hm=>⟨zj [],zKC L,(xb xj (zJp L m (by omega))),fun _ _ _ _ _ h=>h⟩
theorem zkU(L:Nat):FOk (zm rows) L 630 (zjJ L) 2:=yj (D:=1) (by kernel_rfl) fun m hm=>⟨zj [],zCY L,(xb (xb xj (zdJ L m (by omega))) (zsx L m (by omega))),fun _ _ _ _ _ h=>h⟩
theorem zn5(L:Nat):FOk (zm rows) L 625 (zm7 L) 3:=yj (D:=2) (by kernel_rfl) fun m hm=>⟨zj [],zJB L,(xb (xb xj (zkU L m (by omega))) (zsq L m (by omega))),fun _ _ _ _ _ h=>h⟩
theorem zsK(L:Nat):FOk (zm rows) L 636 (zpY L) 3:=yj (D:=2) (by kernel_rfl) fun m hm=>⟨zj [],zFY L,(xb xj (zAF L m (by omega))),fun _ _ _ _ _ h=>h⟩
theorem zEq(L:Nat):FOk (zm rows) L 632 (zxK L) 4:=yj (D:=3) (by kernel_rfl) fun m hm=>⟨zj [],zHp L,(xb (xb (xb (xb xj (zeX L m (by omega))) (zsK L m (by omega))) (zNE L m (by omega))) (zAF L m (by omega))),fun _ _ _ _ _ h=>h⟩
theorem zTo(L:Nat):FOk (zm rows) L 633 (zLq L) 5:=yj (D:=4) (by kernel_rfl) fun m hm=>⟨zj [],zHe L,(xb (xb (xb (xb (xb (xb xj (zeX L m (by omega))) (zdJ L m (by omega))) (zsK L m (by omega))) (zAh L m (by omega))) (zEq L m (by omega))) (zsl L m (by omega))),fun _ _ _ _ _ h=>h⟩
theorem zzQ(L:Nat):FOk (zm rows) L 628 (zyw L) 6:=yj (D:=5) (by kernel_rfl) fun m hm=>⟨zj [],zPc L,(xb (xb xj (zkU L m (by omega))) (zTo L m (by omega))),fun _ _ _ _ _ h=>h⟩
theorem z0s(L:Nat):FOk (zm rows) L 631 (zSJ L) 2:=yj (D:=1) (by kernel_rfl) fun m hm=>⟨zj [],zPs L,(xb xj (zdJ L m (by omega))),fun _ _ _ _ _ h=>h⟩
theorem zS0(L:Nat):FOk (zm rows) L 623 (zJa L) 7:=yj (D:=6) (by kernel_rfl) fun m hm=>⟨zj [],zFS L,(xb (xb (xb (xb (xb (xb xj (zeX L m (by omega))) (zkU L m (by omega))) (zfQ L m (by omega))) (zn5 L m (by omega))) (zzQ L m (by omega))) (z0s L m (by omega))),fun _ _ _ _ _ h=>h⟩
theorem zF9(L:Nat):FOk (zm rows) L 619 (zAz L) 8:=yj (D:=7) (by kernel_rfl) fun m hm=>⟨zj [],zJb L,(xb (xb xj (zdJ L m (by omega))) (zS0 L m (by omega))),fun _ _ _ _ _ h=>h⟩
theorem zHq(L:Nat):FOk (zm rows) L 624 (zAs L) 4:=yj (D:=3) (by kernel_rfl) fun m hm=>⟨zj [],zK2 L,(xb (xb xj (zn5 L m (by omega))) (zfQ L m (by omega))),fun _ _ _ _ _ h=>h⟩
theorem zTN(L:Nat):FOk (zm rows) L 620 (zKv L) 5:=yj (D:=4) (by kernel_rfl) fun m hm=>⟨zj [],zHF L,(xb (xb xj (zi7 L m (by omega))) (zHq L m (by omega))),fun _ _ _ _ _ h=>h⟩
theorem zWF(L:Nat):FOk (zm rows) L 627 (zNS L) 7:=yj (D:=6) (by kernel_rfl) fun m hm=>⟨zj [],zKy L,(xb (xb xj (zdJ L m (by omega))) (zzQ L m (by omega))),fun _ _ _ _ _ h=>h⟩
theorem zZE(L:Nat):FOk (zm rows) L 626 (zSm L) 5:=yj (D:=4) (by kernel_rfl) fun m hm=>⟨zj [],zQy L,(xb (xb xj (zkU L m (by omega))) (zEq L m (by omega))),fun _ _ _ _ _ h=>h⟩
theorem zU8(L:Nat):FOk (zm rows) L 638 (zNt L) 1:=yj (D:=0) (by kernel_rfl) fun m hm=>⟨zj [],zJ4 L,xj,fun _ _ _ _ _ h=>h⟩
theorem zTd(L:Nat):FOk (zm rows) L 635 (zKE L) 2:=yj (D:=1) (by kernel_rfl) fun m hm=>⟨zj [],zHk L,(xb xj (zU8 L m (by omega))),fun _ _ _ _ _ h=>h⟩
theorem zT4(L:Nat):FOk (zm rows) L 639 (zLm L) 4:=yj (D:=3) (by kernel_rfl) fun m hm=>⟨zj [],zGI L,(xb (xb (xb (xb (xb xj (zeX L m (by omega))) (zsK L m (by omega))) (zzW L m (by omega))) (zfQ L m (by omega))) (zsx L m (by omega))),fun _ _ _ _ _ h=>h⟩
theorem zN5(L:Nat):FOk (zm rows) L 637 (zBj L) 5:=yj (D:=4) (by kernel_rfl) fun m hm=>⟨zj [],zzi L,(xb (xb xj (zn5 L m (by omega))) (zT4 L m (by omega))),fun _ _ _ _ _ h=>h⟩
theorem zTD(L:Nat):FOk (zm rows) L 634 (zLp L) 6:=yj (D:=5) (by kernel_rfl) fun m hm=>⟨zj [],zHo L,(xb (xb xj (zi7 L m (by omega))) (zN5 L m (by omega))),fun _ _ _ _ _ h=>h⟩
theorem zOf(L:Nat):FOk (zm rows) L 629 (zBG L) 7:=yj (D:=6) (by kernel_rfl) fun m hm=>⟨zj [],zzl L,(xb (xb (xb (xb xj (zTd L m (by omega))) (zgx L m (by omega))) (zCQ L m (by omega))) (zTD L m (by omega))),fun _ _ _ _ _ h=>h⟩
theorem zTX(L:Nat):FOk (zm rows) L 621 (zLj L) 9:=yj (D:=8) (by kernel_rfl) fun m hm=>⟨zj [],zGY L,(xb (xb (xb (xb (xb (xb (xb (xb xj (zF9 L m (by omega))) (zHq L m (by omega))) (zn5 L m (by omega))) (zsx L m (by omega))) (zWF L m (by omega))) (zzQ L m (by omega))) (zZE L m (by omega))) (zOf L m (by omega))),fun _ _ _ _ _ h=>h⟩
theorem zEa(L:Nat):FOk (zm rows) L 614 (zxr L) 10:=yj (D:=9) (by kernel_rfl) fun m hm=>⟨zj [],zGf L,(xb (xb (xb (xb xj (zi7 L m (by omega))) (zF9 L m (by omega))) (zTN L m (by omega))) (zTX L m (by omega))),fun _ _ _ _ _ h=>h⟩
theorem zUQ(L:Nat):FOk (zm rows) L 615 (zNp L) 11:=yj (D:=10) (by kernel_rfl) fun m hm=>⟨zj [],zJu L,(xb xj (zEa L m (by omega))),fun _ _ _ _ _ h=>h⟩
theorem zTV(L:Nat):FOk (zm rows) L 622 (zJ0 L) 1:=yj (D:=0) (by kernel_rfl) fun m hm=>⟨zj [],zGO L,xj,fun _ _ _ _ _ h=>h⟩
theorem zT6(L:Nat):FOk (zm rows) L 616 (zJC L) 2:=yj (D:=1) (by kernel_rfl) fun m hm=>⟨zj [],zFV L,(xb xj (zTV L m (by omega))),fun _ _ _ _ _ h=>h⟩
theorem zXV(L:Nat):FOk (zm rows) L 606 (zPC L) 12:=yj (D:=11) (by kernel_rfl) fun m hm=>⟨zj [],zNP L,(xb (xb (xb (xb (xb (xb (xb (xb (xb (xb xj (zgx L m (by omega))) (zTP L m (by omega))) (zxn L m (by omega))) (zU7 L m (by omega))) (zxh L m (by omega))) (zjS L m (by omega))) (zJp L m (by omega))) (zEa L m (by omega))) (zUQ L m (by omega))) (zT6 L m (by omega))),fun _ _ _ _ _ h=>h⟩
theorem z0l(L:Nat):FOk (zm rows) L 590 (zSh L) 13:=yj (D:=12) (by kernel_rfl) fun m hm=>⟨zj [],zQi L,(xb (xb (xb (xb (xb (xb (xb (xb (xb xj (zV2 L m (by omega))) (zTW L m (by omega))) (zXd L m (by omega))) (zTl L m (by omega))) (zT3 L m (by omega))) (zVW L m (by omega))) (zUo L m (by omega))) (zxh L m (by omega))) (zXV L m (by omega))),fun _ _ _ _ _ h=>h⟩
theorem zOq(L:Nat):FOk (zm rows) L 560 (zBw L) 14:=yj (D:=13) (by kernel_rfl) fun m hm=>⟨zj [],zzD L,(xb (xb xj (z0l L m (by omega))) (zxh L m (by omega))),fun _ _ _ _ _ h=>h⟩
theorem zUd(L:Nat):FOk (zm rows) L 524 (zNN L) 15:=yj (D:=14) (by kernel_rfl) fun m hm=>⟨zj [],zJD L,(xb (xb xj (zRT L m (by omega))) (zOq L m (by omega))),fun _ _ _ _ _ h=>h⟩
theorem zVo(L:Nat):FOk (zm rows) L 478 (zNx L) 16:=yj (D:=15) (by kernel_rfl) fun m hm=>⟨zj [],zJx L,(xb (xb (xb (xb xj (zjX L m (by omega))) (z0h L m (by omega))) (zHM L m (by omega))) (zUd L m (by omega))),fun _ _ _ _ _ h=>h⟩
theorem zRQ(L:Nat):FOk (zm rows) L 479 (zGU L) 1:=yj (D:=0) (by kernel_rfl) fun m hm=>⟨zj [],zDF L,xj,fun _ _ _ _ _ h=>h⟩
theorem zA8(L:Nat):FOk (zm rows) L 483 (zwg L) 8:=yj (D:=7) (by kernel_rfl) fun m hm=>⟨zj [],zDl L,(xb (xb xj (zx6 L m (by omega))) (zjX L m (by omega))),fun _ _ _ _ _ h=>h⟩
theorem zWW(L:Nat):FOk (zm rows) L 525 (zPq L) 4:=yj (D:=3) (by kernel_rfl) fun m hm=>⟨zj [],zM6 L,(xb (xb xj (zBC L m (by omega))) (zy2 L m (by omega))),fun _ _ _ _ _ h=>h⟩
theorem zZS(L:Nat):FOk (zm rows) L 481 (zSo L) 9:=yj (D:=8) (by kernel_rfl) fun m hm=>⟨zj [],zQa L,(xb (xb (xb xj (zA8 L m (by omega))) (zxl L m (by omega))) (zWW L m (by omega))),fun _ _ _ _ _ h=>h⟩
theorem zUR(L:Nat):FOk (zm rows) L 482 (zNj L) 1:=yj (D:=0) (by kernel_rfl) fun m hm=>⟨zj [],zJm L,xj,fun _ _ _ _ _ h=>h⟩
theorem zRl(L:Nat):FOk (zm rows) L 444 (zGj L) 17:=yj (D:=16) (by kernel_rfl) fun m hm=>⟨zj [],zCX L,(xb (xb (xb (xb (xb (xb (xb (xb (xb (xb xj (zUj L m (by omega))) (zi0 L m (by omega))) (zBE L m (by omega))) (zVb L m (by omega))) (zVo L m (by omega))) (zxl L m (by omega))) (zRQ L m (by omega))) (zZS L m (by omega))) (zA8 L m (by omega))) (zUR L m (by omega))),fun _ _ _ _ _ h=>h⟩
theorem zWZ(L:Nat):FOk (zm rows) L 487 (zQw L) 5:=yj (D:=4) (by kernel_rfl) fun m hm=>⟨zj [],zNO L,(xb xj (zeb L m (by omega))),fun _ _ _ _ _ h=>h⟩
theorem zA2(L:Nat):FOk (zm rows) L 446 (zuL L) 8:=yj (D:=7) (by kernel_rfl) fun m hm=>⟨zj [],zEv L,(xb (xb xj (zWZ L m (by omega))) (zi0 L m (by omega))),fun _ _ _ _ _ h=>h⟩
theorem zVa(L:Nat):FOk (zm rows) L 445 (zNi L) 9:=yj (D:=8) (by kernel_rfl) fun m hm=>⟨zj [],zJT L,(xb (xb (xb (xb xj (zA2 L m (by omega))) (zJQ L m (by omega))) (zBb L m (by omega))) (zCW L m (by omega))),fun _ _ _ _ _ h=>h⟩
theorem z0n(L:Nat):FOk (zm rows) L 424 (zSr L) 18:=yj (D:=17) (by kernel_rfl) fun m hm=>⟨zj [],zPr L,(xb (xb (xb (xb xj (zXh L m (by omega))) (zRl L m (by omega))) (zVa L m (by omega))) (zA2 L m (by omega))),fun _ _ _ _ _ h=>h⟩
theorem zYg(L:Nat):FOk (zm rows) L 422 (zPp L) 19:=yj (D:=18) (by kernel_rfl) fun m hm=>⟨zj [],zNX L,(xb (xb xj (zXH L m (by omega))) (z0n L m (by omega))),fun _ _ _ _ _ h=>h⟩
theorem zHn(L:Nat):FOk (zm rows) L 583 (zAV L) 8:=yj (D:=7) (by kernel_rfl) fun m hm=>⟨zj [],zK4 L,(xb (xb xj (zzL L m (by omega))) (zN2 L m (by omega))),fun _ _ _ _ _ h=>h⟩
theorem z3x(L:Nat):FOk (zm rows) L 548 (zZk L) 9:=yj (D:=8) (by kernel_rfl) fun m hm=>⟨zj [],zVm L,(xb xj (zHn L m (by omega))),fun _ _ _ _ _ h=>h⟩
theorem zR7(L:Nat):FOk (zm rows) L 578 (zGW L) 10:=yj (D:=9) (by kernel_rfl) fun m hm=>⟨zj [],zD0 L,(xb xj (z3x L m (by omega))),fun _ _ _ _ _ h=>h⟩
theorem zZO(L:Nat):FOk (zm rows) L 596 (zSg L) 9:=yj (D:=8) (by kernel_rfl) fun m hm=>⟨zj [],zQr L,(xb xj (zHn L m (by omega))),fun _ _ _ _ _ h=>h⟩
theorem zR1(L:Nat):FOk (zm rows) L 617 (zHI L) 6:=yj (D:=5) (by kernel_rfl) fun m hm=>⟨zj [],zEG L,(xb xj (zTO L m (by omega))),fun _ _ _ _ _ h=>h⟩
theorem zOh(L:Nat):FOk (zm rows) L 608 (zB0 L) 7:=yj (D:=6) (by kernel_rfl) fun m hm=>⟨zj [],zza L,(xb xj (zR1 L m (by omega))),fun _ _ _ _ _ h=>h⟩
theorem zRj(L:Nat):FOk (zm rows) L 597 (zGr L) 8:=yj (D:=7) (by kernel_rfl) fun m hm=>⟨zj [],zEW L,(xb xj (zOh L m (by omega))),fun _ _ _ _ _ h=>h⟩
theorem zS5(L:Nat):FOk (zm rows) L 579 (zK0 L) 10:=yj (D:=9) (by kernel_rfl) fun m hm=>⟨zj [],zHw L,(xb (xb xj (zZO L m (by omega))) (zRj L m (by omega))),fun _ _ _ _ _ h=>h⟩
theorem zRf(L:Nat):FOk (zm rows) L 542 (zGg L) 11:=yj (D:=10) (by kernel_rfl) fun m hm=>⟨zj [],zEM L,(xb (xb (xb (xb (xb xj (zC0 L m (by omega))) (zGV L m (by omega))) (z27 L m (by omega))) (zR7 L m (by omega))) (zS5 L m (by omega))),fun _ _ _ _ _ h=>h⟩
theorem zK5(L:Nat):FOk (zm rows) L 669 (zpe yR L) 20:=yj (D:=19) (by kernel_rfl) fun m hm=>⟨zj [],zsu L,(xb (xb (xb xj (zYg L m (by omega))) (zgL L m (by omega))) (zRf L m (by omega))),zUi L⟩
theorem zTZ(L:Nat):FOk (zm rows) L 456 (zyg zaO L) 10:=yj (D:=9) (by kernel_rfl) fun m hm=>⟨zun,zvH zz yr L,(xb (xb xj (zK3 L m (by omega))) (zES L m (by omega))),zQ9 L⟩
theorem zIU(L:Nat):FOk (zm rows) L 661 (zl8 zb3 L) 21:=yj (D:=20) (by kernel_rfl) fun m hm=>⟨zlC,zkZ yR zav zB zaO zW xH zw L,(xb (xb (xb (xb (xb (xb (xb xj (zK5 L m (by omega))) (zXv L m (by omega))) (zC0 L m (by omega))) (zTZ L m (by omega))) (zxn L m (by omega))) (zXo L m (by omega))) (zYn L m (by omega))),zFF L⟩
theorem zJv(L:Nat):FOk (zm rows) L 198 (zwb xA L) 1:=yj (D:=0) (by kernel_rfl) fun m hm=>⟨zAk,zAO L,xj,zUk L⟩
theorem zKN(L:Nat):FOk (zm rows) L 197 (zn1 y9 L) 2:=yj (D:=1) (by kernel_rfl) fun m hm=>⟨zbC,zbE xA L,(xb xj (zJv L m (by omega))),zH6 L⟩
theorem zZ6(L:Nat):FOk (zm rows) L 170 (zIf za2 L) 3:=yj (D:=2) (by kernel_rfl) fun m hm=>⟨zEt,zCL y9 L,(xb xj (zKN L m (by omega))),zYB L⟩
theorem zXc(L:Nat):FOk (zm rows) L 172 (zDG za5 L) 2:=yj (D:=1) (by kernel_rfl) fun m hm=>⟨zz0,zAH xA L,(xb xj (zJv L m (by omega))),zVu L⟩
theorem zId(L:Nat):FOk (zm rows) L 503 (zmf zM L) 4:=yj (D:=3) (by kernel_rfl) fun m hm=>⟨zlz,zk5 za2 za5 L,(xb (xb xj (zZ6 L m (by omega))) (zXc L m (by omega))),zFA L⟩
theorem zTT(L:Nat):FOk (zm rows) L 209 (zyb zaM L) 1:=yj (D:=0) (by kernel_rfl) fun m hm=>⟨zdm,zdb L,xj,zRx L⟩
theorem z0q(L:Nat):FOk (zm rows) L 200 (zHT za1 L) 2:=yj (D:=1) (by kernel_rfl) fun m hm=>⟨zEp,zCV zaM L,(xb xj (zTT L m (by omega))),zXZ L⟩
theorem zYj(L:Nat):FOk (zm rows) L 202 (zDq za7 L) 1:=yj (D:=0) (by kernel_rfl) fun m hm=>⟨zz3,zAK L,xj,zVL L⟩
theorem zT5(L:Nat):FOk (zm rows) L 676 (zw5 zaN L) 3:=yj (D:=2) (by kernel_rfl) fun m hm=>⟨zvf,zvY za1 za7 L,(xb (xb xj (z0q L m (by omega))) (zYj L m (by omega))),zRq L⟩
theorem zIT(L:Nat):FOk (zm rows) L 674 (zmq yS L) 4:=yj (D:=3) (by kernel_rfl) fun m hm=>⟨zlc,zlu zaN L,(xb xj (zT5 L m (by omega))),zFb L⟩
theorem zYr(L:Nat):FOk (zm rows) L 461 (zDB za3 L) 7:=yj (D:=6) (by kernel_rfl) fun m hm=>⟨zAA,zAt zg xX L,(xb (xb xj (zgL L m (by omega))) (zx5 L m (by omega))),zUC L⟩
theorem zIh(L:Nat):FOk (zm rows) L 665 (zmQ zb7 L) 21:=yj (D:=20) (by kernel_rfl) fun m hm=>⟨zlh,zk3 yR zM yS zg za3 za6 xh zW L,(xb (xb (xb (xb (xb (xb (xb (xb xj (zK5 L m (by omega))) (zId L m (by omega))) (zIT L m (by omega))) (zgL L m (by omega))) (zYr L m (by omega))) (zXp L m (by omega))) (zgE L m (by omega))) (zxn L m (by omega))),zFq L⟩
end
end
section
variable {β:Type}
def Byt(l:List Int):Prop:=∀ x∈l,0≤x∧x≤255
theorem ybk{l:List Int}(h:∀ x∈l,(Lit.int .u8 x).wf=true):Byt l:=fun x hx=>zQM (h x hx)
def zv4(j:List Int)(i:Nat):Nat:=(j.getD i 0).toNat
theorem zQV{j:List Int}(hb:Byt j)(i:Nat):zv4 j i≤255∧j.getD i 0=((zv4 j i:Nat):Int):=by
 have:0≤j.getD i 0∧j.getD i 0≤255:=by
  rw [Ws]
  by_cases hi:i<j.length
  ·rw [Wc hi]; exact hb _ (W2 hi)
  ·rw [List.getElem?_eq_none (by omega)]; simp
 unfold zv4
 omega
def le(j:List Int)(a:Nat):Nat→Nat
 | 0=>0
 | n+1=>le j a n+zv4 j (a+n)*256 ^ n
theorem z0J{j:List Int}(hb:Byt j)(a:Nat):∀ n,le j a n<256 ^ n
 | 0=>by simp [le]
 | n+1=>by
  have h1:=z0J hb a n
  have h2:=WI (256 ^ n) (zQV hb (a+n)).1
  rw [le,Nat.pow_succ]
  omega
theorem zX3(j:List Int)(a:Nat):∀ n,le j a (n+1)=zv4 j a+256*le j (a+1) n
 | 0=>by simp [le]
 | n+1=>by
  rw [le,zX3 j a n,le,Nat.pow_succ,show a+1+n=a+(n+1) by omega,Nat.mul_add]
  have:zv4 j (a+(n+1))*(256 ^ n*256)=256*(zv4 j (a+(n+1))*256 ^ n):=by
   rw [Nat.mul_comm (256 ^ n) 256,← Nat.mul_assoc,← Nat.mul_assoc,Nat.mul_comm 256]
  omega
theorem z2r(i:Nat):256 ^ i=2 ^ (8*i):=by rw [Nat.pow_mul]
theorem zZa(n x:Nat)(h:x<2 ^ n):(BitVec.ofInt n (x:Int)).toNat=x:=by
 rw [BitVec.toNat_ofInt,← Int.natCast_emod,Int.toNat_natCast,Nat.mod_eq_of_lt h]
theorem z6f{x n:Nat}(h:x<2 ^ n):((x:Nat):Int)<2 ^ n:=by
 have:((x:Nat):Int)<((2 ^ n:Nat):Int):=by omega
 rwa [Int.natCast_pow] at this
theorem z4h(kd:IntKind)(hk:kd.signed=false){a m y:Nat}(hy:y<2 ^ m)(hs:a*2 ^ m+y<2 ^ kd.bits):ior kd ((a*2 ^ m:Nat):Int) ((y:Nat):Int)=((a*2 ^ m+y:Nat):Int):=by
 unfold ior
 rw [BitVec.toNat_or,zZa _ _ (by omega),zZa _ _ (by omega),← Nat.shiftLeft_eq,← Nat.shiftLeft_add_eq_or_of_lt hy,Nat.shiftLeft_eq]
 exact zJU hk (by omega) (z6f hs)
theorem z6J(k:IntKind)(a b:Int):ior k a b=ior k b a:=by unfold ior; rw [BitVec.or_comm]
theorem z00(kd:IntKind)(hk:kd.signed=false){a m:Nat}(hm:m≤kd.bits)(hs:a*2 ^ m<2 ^ kd.bits):zgp kd ((a:Nat):Int) ((m:Nat):Int)=((a*2 ^ m:Nat):Int):=by
 unfold zgp
 rw [Int.toNat_natCast,Nat.min_eq_left hm]
 have e:((a:Nat):Int)*2 ^ m=((a*2 ^ m:Nat):Int):=by rw [Int.natCast_mul,Int.natCast_pow]; rfl
 rw [e]
 exact zJU hk (by omega) (z6f hs)
theorem z6F(kd:IntKind)(hk:kd.signed=false){j:List Int}(hb:Byt j)(a i:Nat)(hi:8*i+8≤kd.bits):ior kd ((le j a i:Nat):Int) (zgp kd (j.getD (a+i) 0) ((8*i:Nat):Int))=((le j a (i+1):Nat):Int):=by
 obtain ⟨b1,b2⟩:=zQV hb (a+i)
 have h1:=z0J hb a i
 have hp:2 ^ (8*i+8)≤2 ^ kd.bits:=Yf (by decide) hi
 have hq:2 ^ (8*i+8)=2 ^ (8*i)*256:=by rw [Nat.pow_add]
 have h2:=WI (2 ^ (8*i)) b1
 have h3:0<2 ^ (8*i):=Nat.pow_pos (by decide)
 rw [z2r] at h1
 rw [b2,z00 kd hk (by omega) (by omega),z6J,z4h kd hk h1 (by omega),le,z2r,Nat.add_comm]
theorem z36{l:List Int}{i:Nat}(h:i<l.length):(yq .u8 l)[i]?=some [.sc (.int .u8 (l.getD i 0))]:=by rw [z8Y _ h]; simp [h]
theorem cI8(n:Int)(k:Int→Option β):cI .u8 [V.sc (.int .u8 n)] 0 k=k n:=zhi rfl k
theorem z4b(L:Nat)(j:List Int){a w:Nat}(ha:a≤j.length)(hj:j.length≤100000000)(hw:w≤100)(k:Int→Option β):xA β L (yq .u8 j) (a:Int) (w:Int) k=if a+w≤j.length then k 0 else k 1:=by
 unfold xA zDj
 rw [zG (by omega),zF,zG (by omega),zas (by omega) (by omega),yt,zJF]
 by_cases h:a+w≤j.length
 ·rw [if_neg (by omega),if_pos h]
 ·rw [if_pos (by omega),if_neg h]
theorem zYV(L:Nat){j:List Int}(hb:Byt j)(hj:j.length≤100000000){a:Nat}(h:a+4≤j.length)(kx:Int→Int→Int→Option β):∀ (n i:Nat),i≤4→4-i<n →
  zdc xA L kx n (yq .u8 j) (a:Int) 4 ((le j a i:Nat):Int) 4 (i:Int)=kx a 4 ((le j a 4:Nat):Int)
 | 0,i,h1,h2=>by omega
 | n+1,i,h1,h2=>by
  rw [zdc]
  unfold zio
  by_cases hi:i<4
  ·have w1:QG .i64 ((a:Int)+i)=((a+i:Nat):Int):=by rw [zas (by omega) (by omega)]; omega
   have w2:QG .i64 ((8:Int)*i)=((8*i:Nat):Int):=by rw [zas (by omega) (by omega)]; omega
   have hg:=zQV hb (a+i)
   rw [zI (by omega),w1,yt,zaC (z36 (by omega)),cI8,zkx (by omega) (by omega),yt,w2,yt,yf (by omega),yt,z6F .u32 rfl hb a i (by show 8*i+8≤32; omega),yt,zeh (by omega),yt]
   exact zYV L hb hj h kx n (i+1) (by omega) (by omega)
  ·have hi:i=4:=by omega
   subst hi
   rw [zG (by omega)]
theorem zWJ{L:Nat}(hL:20≤L){j:List Int}(hb:Byt j)(hj:j.length≤100000000){a:Nat}(ha:a≤j.length)(k:Int→Int→Int→Option β):za2 β L (yq .u8 j) (a:Int) k=if a+4≤j.length then k ((le j a 4:Nat):Int) ((a+4:Nat):Int) 0 else k 0 0 1:=by
 unfold za2 zIp y9 zi9 znl
 rw [show (4:Int)=((4:Nat):Int) from rfl,z4b L j ha hj (by decide)]
 by_cases h:a+4≤j.length
 ·rw [if_pos h,if_pos h,zlg,if_pos rfl]
  refine (zYV L hb hj h _ L 0 (by omega) (by omega)).trans ?_
  unfold zgY
  rw [zas (by omega) (by omega),yt]
  congr 1
 ·rw [if_neg h,if_neg h,zlg,if_neg (by decide)]
theorem z2Z(L:Nat){j:List Int}(hb:Byt j)(hj:j.length≤100000000){a w:Nat}(hw:w≤8)(h:a+w≤j.length)(kx:Int→Int→Int→Option β):∀ (n i:Nat),i≤w→i<n →
  zdu L kx n (yq .u8 j) (a:Int) (w:Int) ((le j (a+i) (w-i):Nat):Int) ((i:Int)-1)=kx a w ((le j a w:Nat):Int)
 | 0,i,h1,h2=>by omega
 | n+1,0,h1,h2=>by
  rw [zdu]
  unfold zhn
  rw [zG (by omega)]; rfl
 | n+1,i+1,h1,h2=>by
  have e0:((i+1:Nat):Int)-1=(i:Int):=by omega
  have w1:QG .i64 ((a:Int)+i)=((a+i:Nat):Int):=by rw [zas (by omega) (by omega)]; omega
  have w3:QG .i64 ((i:Int)-1)=(i:Int)-1:=zas (by omega) (by omega)
  have hl:=z0J hb (a+(i+1)) (w-(i+1))
  have hp:256 ^ (w-(i+1))≤256 ^ 7:=Yf (by decide) (by omega)
  have hg:=zQV hb (a+i)
  have e1:le j (a+i) (w-i)=le j (a+(i+1)) (w-(i+1))*2 ^ 8+zv4 j (a+i):=by
   rw [show w-i=(w-(i+1))+1 by omega,zX3,show a+i+1=a+(i+1) by omega]; omega
  have hx:le j (a+(i+1)) (w-(i+1))*2 ^ 8+zv4 j (a+i)<2 ^ (IntKind.bits .u64):=by
   show _<2 ^ 64
   have:(256:Nat) ^ 7=72057594037927936:=by decide
   have:(2:Nat) ^ 64=18446744073709551616:=by decide
   omega
  rw [zdu]
  unfold zhn
  rw [e0,zI (by omega),show (8:Int)=((8:Nat):Int) from rfl,z00 .u64 rfl (by decide) (by omega),yt,w1,yt,zaC (z36 (by omega)),cI8,zbV (by omega) (by omega),yt,hg.2,z4h .u64 rfl (by omega) hx,yt,w3,yt,← e1]
  exact z2Z L hb hj hw h kx n i (by omega) (by omega)
theorem yaV{L:Nat}(hL:20≤L){j:List Int}(hb:Byt j)(hj:j.length≤100000000){a w:Nat}(ha:a≤j.length)(hw:w≤8)(k:Int→Int→Int→Option β):zaM β L (yq .u8 j) (a:Int) (w:Int) k=if a+w≤j.length then k ((le j a w:Nat):Int) ((a+w:Nat):Int) 0 else k 0 0 1:=by
 unfold zaM zpZ zx7
 rw [zG (by omega),zF,zG (by omega),zas (by omega) (by omega),yt]
 by_cases h:a+w≤j.length
 ·rw [if_pos h,zG (by omega),zas (by omega) (by omega),yt]
  have key:=z2Z L hb hj hw h (fun p1 p2 p9=>zfZ L p1 p2 p9 k) L w (Nat.le_refl _) (by omega)
  rw [Nat.sub_self] at key
  refine key.trans ?_
  unfold zfZ
  rw [zas (by omega) (by omega),yt]
  congr 1
 ·rw [if_neg h,zI (by omega)]
theorem zQQ{L:Nat}(hL:20≤L){j:List Int}(hb:Byt j)(hj:j.length≤100000000){a:Nat}(ha:a≤j.length)(k:Int→Int→Int→Option β):za1 β L (yq .u8 j) (a:Int) k=if a+4≤j.length then k ((le j a 4:Nat):Int) ((a+4:Nat):Int) 0 else k 0 0 1:=by
 unfold za1 zH3
 rw [show (4:Int)=((4:Nat):Int) from rfl,yaV hL hb hj ha (by decide)]
 have h4:=z0J hb a 4
 have:(256:Nat) ^ 4=4294967296:=by decide
 by_cases h:a+4≤j.length
 ·rw [if_pos h,if_pos h,zkx (by omega) (by omega),yt]
 ·rw [if_neg h,if_neg h,zkx (by decide) (by decide),yt]
end
section
def zjh(w:List (List Int)):Ls:=w.map fun b=>[V.sl 1 (yq .u8 b)]
structure Inp where
 pv:List Int
 seq:Int
 wit:List (List Int)
structure Outp where
 val:Int
 scr:List Int
structure TxT where
 ver:Int
 ins:List Inp
 outs:List Outp
 lock:Int
def zgq(x:Inp):List V:=[V.sc (.int .u8 (x.pv.getD 0 0)),V.sc (.int .u8 (x.pv.getD 1 0)),V.sc (.int .u8 (x.pv.getD 2 0)),V.sc (.int .u8 (x.pv.getD 3 0)),V.sc (.int .u8 (x.pv.getD 4 0)),V.sc (.int .u8 (x.pv.getD 5 0)),V.sc (.int .u8 (x.pv.getD 6 0)),V.sc (.int .u8 (x.pv.getD 7 0)),V.sc (.int .u8 (x.pv.getD 8 0)),V.sc (.int .u8 (x.pv.getD 9 0)),V.sc (.int .u8 (x.pv.getD 10 0)),V.sc (.int .u8 (x.pv.getD 11 0)),V.sc (.int .u8 (x.pv.getD 12 0)),V.sc (.int .u8 (x.pv.getD 13 0)),V.sc (.int .u8 (x.pv.getD 14 0)),V.sc (.int .u8 (x.pv.getD 15 0)),V.sc (.int .u8 (x.pv.getD 16 0)),V.sc (.int .u8 (x.pv.getD 17 0)),V.sc (.int .u8 (x.pv.getD 18 0)),V.sc (.int .u8 (x.pv.getD 19 0)),V.sc (.int .u8 (x.pv.getD 20 0)),V.sc (.int .u8 (x.pv.getD 21 0)),V.sc (.int .u8 (x.pv.getD 22 0)),V.sc (.int .u8 (x.pv.getD 23 0)),V.sc (.int .u8 (x.pv.getD 24 0)),V.sc (.int .u8 (x.pv.getD 25 0)),V.sc (.int .u8 (x.pv.getD 26 0)),V.sc (.int .u8 (x.pv.getD 27 0)),V.sc (.int .u8 (x.pv.getD 28 0)),V.sc (.int .u8 (x.pv.getD 29 0)),V.sc (.int .u8 (x.pv.getD 30 0)),V.sc (.int .u8 (x.pv.getD 31 0)),V.sc (.int .u32 (x.pv.getD 32 0)),V.sc (.int .u32 x.seq),V.sl 1 (zjh x.wit)]
def zhD(o:Outp):List V:=[V.sc (.int .i64 o.val),V.sl 1 (yq .u8 o.scr)]
def zcA(t:TxT):List V:=[V.sc (.int .u32 t.ver),V.sl 35 (t.ins.map zgq),V.sl 2 (t.outs.map zhD),V.sc (.int .u32 t.lock)]
section
variable {β:Type}
theorem zpp(x:Inp)(k:Int→Option β):cI .u32 (zgq x) 33 k=k x.seq:=zhi rfl k
theorem zJY(x:Outp)(k:Int→Option β):cI .i64 (zhD x) 0 k=k x.val:=zhi rfl k
theorem zKG(x:TxT)(k:Int→Option β):cI .u32 (zcA x) 0 k=k x.ver:=zhi rfl k
theorem zqa(x:TxT)(k:Int→Option β):cI .u32 (zcA x) 3 k=k x.lock:=zhi rfl k
end
theorem zTj(x:Inp):(zgq x).length=35:=by simp [zgq]
theorem zjF(x:Inp):XL 35 (zgq x)=zgq x:=by simp [zgq]
theorem zL1(x:Outp):(zhD x).length=2:=by simp [zhD]
theorem ztU(x:Outp):XL 2 (zhD x)=zhD x:=by simp [zhD]
theorem zmC(x:TxT):(zcA x).length=4:=by simp [zcA]
def zcV(l:List Int):Prop:=∀ n∈l,0≤n∧n≤255
structure InpOk (x:Inp):Prop where
 pv:x.pv.length=33
 by_:∀ j,j<32→0≤x.pv.getD j 0∧x.pv.getD j 0≤255
 ix:0≤x.pv.getD 32 0∧x.pv.getD 32 0≤4294967295
 seq:0≤x.seq∧x.seq≤4294967295
 wit:∀ b∈x.wit,zcV b∧b.length≤maxLen
 wl:x.wit.length≤maxLen
structure OutpOk (x:Outp):Prop where
 val:-9223372036854775808≤x.val∧x.val≤9223372036854775807
 scr:zcV x.scr
 sl:x.scr.length≤maxLen
structure TxOk (t:TxT):Prop where
 ver:0≤t.ver∧t.ver≤4294967295
 lock:0≤t.lock∧t.lock≤4294967295
 ins:∀ x∈t.ins,InpOk x
 outs:∀ x∈t.outs,OutpOk x
 il:t.ins.length≤maxLen
 ol:t.outs.length≤maxLen
theorem HasRow.tail{ct:CT}{cts:List CT}{vs:List V}(h:HasRow (ct::cts) vs):∃ v r,vs=v::r∧HasC ct v∧HasRow cts r:=by
 cases vs with
 | nil=>have:=h.1; simp at this
 | cons v r=>exact ⟨v,r,rfl,h.2 0 v ct rfl rfl,⟨by simpa using h.1,fun i c ct hc hct=>h.2 (i+1) c ct (by simpa using hc) (by simpa using hct)⟩⟩
theorem HasRow.nil{vs:List V}(h:HasRow [] vs):vs=[]:=List.length_eq_zero_iff.1 (by simpa using h.1)
theorem z1k:∀ {es:Ls},(∀ e∈es,HasRow [.sl [.int .u8]] e)→∃ w:List (List Int),es=zjh w∧∀ b∈w,zcV b∧b.length≤maxLen
 | [],_=>⟨[],rfl,by simp⟩
 | e::es,h=>by
  obtain ⟨v,r,rfl,h1,h2⟩:=(h e (by simp)).tail
  obtain rfl:=h2.nil
  obtain ⟨xs,rfl,hl,hx⟩:=h1.sl_inv
  obtain ⟨l,rfl,hw⟩:=zQS hx
  obtain ⟨w,rfl,hw'⟩:=z1k (es:=es) (fun x hx=>h x (by simp [hx]))
  refine ⟨l::w,rfl,fun b hb=>?_⟩
  rcases Q9.1 hb with rfl | hb
  ·exact ⟨fun n hn=>zQM (hw n hn),by simpa [yq] using hl⟩
  ·exact hw' b hb
theorem z4J:∀ {es:Ls},(∀ e∈es,HasRow [.int .i64,.sl [.int .u8]] e)→∃ w:List Outp,es=w.map zhD∧∀ b∈w,OutpOk b
 | [],_=>⟨[],rfl,by simp⟩
 | e::es,h=>by
  obtain ⟨v,r,rfl,h1,h2⟩:=(h e (by simp)).tail
  obtain ⟨v2,r2,rfl,h3,h4⟩:=h2.tail
  obtain rfl:=h4.nil
  obtain ⟨n,rfl,hn⟩:=h1.int_inv
  obtain ⟨xs,rfl,hl,hx⟩:=h3.sl_inv
  obtain ⟨l,rfl,hw⟩:=zQS hx
  obtain ⟨w,rfl,hw'⟩:=z4J (es:=es) (fun x hx=>h x (by simp [hx]))
  refine ⟨⟨n,l⟩::w,rfl,fun b hb=>?_⟩
  rcases Q9.1 hb with rfl | hb
  ·exact ⟨ybI hn,fun n hn=>zQM (hw n hn),by simpa [yq] using hl⟩
  ·exact hw' b hb
theorem zG3{a b:List CT}{vs:List V}(h:HasRow (a++b) vs):∃ r s,vs=r++s∧HasRow a r∧HasRow b s:=by
 refine ⟨vs.take a.length,vs.drop a.length,(List.take_append_drop _ _).symm,⟨?_,fun i c ct hc hct=>?_⟩,⟨?_,fun i c ct hc hct=>?_⟩⟩
 ·have:=h.1; simp at this ⊢; omega
 ·have hi:i<a.length:=(List.getElem?_eq_some_iff.1 hct).1
  refine h.2 i c ct ?_ (by rw [Wv hi]; exact hct)
  rw [List.getElem?_take,if_pos hi] at hc; exact hc
 ·have:=h.1; simp at this ⊢; omega
 ·refine h.2 (a.length+i) c ct (by rw [List.getElem?_drop] at hc; exact hc) ?_
  rw [Wt (by omega)]; simpa using hct
theorem z3i{l:List Int}(hl:l.length=32)(i s:Int)(w:List (List Int)):row .u8 l++[V.sc (.int .u32 i),V.sc (.int .u32 s),V.sl 1 (zjh w)]=zgq ⟨l++[i],s,w⟩:=by
 match l,hl with
 | [x0,x1,x2,x3,x4,x5,x6,x7,x8,x9,x10,x11,x12,x13,x14,x15,x16,x17,x18,x19,x20,x21,x22,x23,x24,x25,x26,x27,x28,x29,x30,x31],_=>rfl
theorem z7l:∀ {es:Ls},(∀ e∈es,HasRow (We 32 (.int .u8)++[.int .u32,.int .u32,.sl [.sl [.int .u8]]]) e)→∃ w:List Inp,es=w.map zgq∧∀ b∈w,InpOk b
 | [],_=>⟨[],rfl,by simp⟩
 | e::es,h=>by
  obtain ⟨r,s,rfl,h1,h2⟩:=zG3 (h e (by simp))
  obtain ⟨l,rfl,hl,hw⟩:=zWn h1
  obtain ⟨v1,r1,rfl,g1,h2⟩:=h2.tail
  obtain ⟨v2,r2,rfl,g2,h2⟩:=h2.tail
  obtain ⟨v3,r3,rfl,g3,h2⟩:=h2.tail
  obtain rfl:=h2.nil
  obtain ⟨i,rfl,hi⟩:=g1.int_inv
  obtain ⟨q,rfl,hq⟩:=g2.int_inv
  obtain ⟨xs,rfl,hxl,hx⟩:=g3.sl_inv
  obtain ⟨wt,rfl,hwt⟩:=z1k hx
  obtain ⟨w,rfl,hw'⟩:=z7l (es:=es) (fun x hx=>h x (by simp [hx]))
  refine ⟨⟨l++[i],q,wt⟩::w,by rw [List.map_cons,← z3i hl]; rfl,fun b hb=>?_⟩
  rcases Q9.1 hb with rfl | hb
  ·refine ⟨by simp [hl],fun j hj=>?_,?_,zzz hq,hwt,by simpa [zjh] using hxl⟩
   ·have:(l++[i]).getD j 0=l[j]'(by omega):=by
     rw [Ws,Wv (by omega),Wc (by omega)]; rfl
    show 0≤(l++[i]).getD j 0∧(l++[i]).getD j 0≤255
    rw [this]; exact zQM (hw _ (W2 _))
   ·have:(l++[i]).getD 32 0=i:=by
     rw [Ws,Wt (by omega),hl]; rfl
    show 0≤(l++[i]).getD 32 0∧(l++[i]).getD 32 0≤4294967295
    rw [this]; exact zzz hi
  ·exact hw' b hb
theorem yca{a:List V}(h:HasRow ([.int .u32]++[.sl (We 32 (.int .u8)++We 2 (.int .u32)++[.sl ([.sl ([.int .u8])])])]++[.sl ([.int .i64]++[.sl ([.int .u8])])]++[.int .u32]) a):∃ t,a=zcA t∧TxOk t:=by
 obtain ⟨v1,r1,rfl,g1,h⟩:=h.tail
 obtain ⟨v2,r2,rfl,g2,h⟩:=h.tail
 obtain ⟨v3,r3,rfl,g3,h⟩:=h.tail
 obtain ⟨v4,r4,rfl,g4,h⟩:=h.tail
 obtain rfl:=h.nil
 obtain ⟨n,rfl,hn⟩:=g1.int_inv
 obtain ⟨m,rfl,hm⟩:=g4.int_inv
 obtain ⟨xs,rfl,hxl,hx⟩:=g2.sl_inv
 obtain ⟨ys,rfl,hyl,hy⟩:=g3.sl_inv
 obtain ⟨is,rfl,his⟩:=z7l (fun e he=>by
  have:=hx e he
  rw [List.append_assoc] at this
  exact this)
 obtain ⟨os,rfl,hos⟩:=z4J (fun e he=>hy e he)
 exact ⟨⟨n,is,os,m⟩,rfl,⟨zzz hn,zzz hm,his,hos,by simpa using hxl,by simpa using hyl⟩⟩
end
section
variable {β:Type}
theorem zo2(x:Inp):zk (We 32 (Qa (0:Int))++[(Qc (0:Int)),(Qc (0:Int)),(V.gs 1 ([]:Ls))]) 0 (zgq x)=zgq x:=zc3 (by rw [zTj]; rfl)
theorem zDw(x:Outp):zk [(Qe (0:Int)),(V.gs 1 ([]:Ls))] 0 (zhD x)=zhD x:=zc3 (by rw [zL1]; rfl)
theorem zlV(x:Inp)(k:Option β):chk ((XK (XL 35 (zgq x)))=35∧0+35≤35) k=k:=yf ⟨by rw [zjF,zTj],by decide⟩ k
theorem zDR(x:Outp)(k:Option β):chk ((XK (XL 2 (zhD x)))=2∧0+2≤2) k=k:=yf ⟨by rw [ztU,zL1],by decide⟩ k
theorem zow(x:Inp)(k:Ls→Option β):cLd 1 (zgq x) 34 k=k (zjh x.wit):=zD3 rfl k
theorem zLi(x:Outp)(k:Ls→Option β):cLd 1 (zhD x) 1 k=k (yq .u8 x.scr):=zD3 rfl k
theorem ziJ(x:TxT)(k:Ls→Option β):cLd 35 (zcA x) 1 k=k (x.ins.map zgq):=zD3 rfl k
theorem zho(x:TxT)(k:Ls→Option β):cLd 2 (zcA x) 2 k=k (x.outs.map zhD):=zD3 rfl k
theorem zgh(x:TxT):Xv V.dem (XL 4 (zcA x))=zcA x:=Eq.trans rfl rfl
theorem z8Z(x:Outp):Xv V.dem (XL 2 (zhD x))=zhD x:=Eq.trans rfl rfl
theorem up{i:Nat}(h:i≤1000000000):QG .i64 ((i:Int)+1)=((i+1:Nat):Int):=by
 rw [zas (by omega) (by omega)]; omega
theorem zyM(w:List (List Int)):(zjh w).length=w.length:=by simp [zjh]
theorem ztM{w:List (List Int)}{i:Nat}(h:i<w.length):(zjh w)[i]?=some [V.sl 1 (yq .u8 w[i])]:=by simp [zjh,h]
theorem zhy{α:Type}{l:List α}{p:α→Bool}{i:Nat}(h:i<l.length):(l.drop i).all p=(p l[i]&&(l.drop (i+1)).all p):=by
 rw [WQ h]; rfl
theorem zKS(L:Nat)(b:Int)(kr:Bool→Option β)(kx:Option β)(w:List (List Int))(hw:w.length≤1000000):∀ (n i:Nat),i≤w.length→w.length-i<n →
  zhS L kr kx n b (zjh w) (w.length:Int) (i:Int)=ifb ((w.drop i).all fun x=>decide ((x.length:Int)≤b)) kx (kr false)
 | 0,i,h1,h2=>by omega
 | n+1,i,h1,h2=>by
  simp only [zhS,zrc,yt]
  by_cases h:i<w.length
  ·rw [zI (by omega),zaC (ztM h),znb rfl,up (by omega),zKS L b kr kx w hw n (i+1) (by omega) (by omega),zhy h]
   simp only [zF]
   by_cases hb:((w[i].length:Nat):Int)≤b
   ·rw [zG (by omega)]; simp [hb]
   ·rw [zI (by omega)]; simp [hb,ifb]
  ·rw [zG (by omega),WK (by omega)]; rfl
theorem z7K{L:Nat}(hL:2000≤L){a b:Int}(ha:a≤1000)(w:List (List Int))(k:Bool→Option β):zp β L (zjh w) a b k=k (decide ((w.length:Int)≤a)&&w.all fun x=>decide ((x.length:Int)≤b)):=by
 simp only [zp,zvD,zE7,zyM,zmb,znQ]
 by_cases h:(w.length:Int)≤a
 ·rw [zG (by omega),show ((0:Int))=((0:Nat):Int) from rfl,zKS L b _ _ w (by omega) L 0 (by omega) (by omega)]
  simp only [Yd,h,decide_true,Bool.true_and]
  cases w.all fun x=>decide ((x.length:Int)≤b) <;> rfl
 ·rw [zI (by omega)]; simp [h]
theorem ztv{l:List Inp}{i:Nat}(h:i<l.length):(l.map zgq)[i]?=some (zgq l[i]):=by simp [h]
theorem zD9{l:List Outp}{i:Nat}(h:i<l.length):(l.map zhD)[i]?=some (zhD l[i]):=by simp [h]
def zQ3(x:Inp):Bool:=decide ((x.wit.length:Int)≤40)&&x.wit.all fun y=>decide ((y.length:Int)≤600)
theorem zZo{L:Nat}(hL:2000≤L)(kr:Bool→Option β)(kx:List V→Option β)(l:List Inp)(hl:l.length≤1000000)(b1:List V):∀ (n i:Nat),i≤l.length→l.length-i<n →
  zk1 zp L kr kx n (l.map zgq) (l.length:Int) (i:Int) b1=ifb ((l.drop i).all zQ3) (kx b1) (kr false)
 | 0,i,h1,h2=>by omega
 | n+1,i,h1,h2=>by
  simp only [zk1,zxD,yt]
  by_cases h:i<l.length
  ·rw [zI (by omega),zaC (ztv h)]
   rw [zlV,zjF,zo2]
   simp only [zow,zpp]
   rw [z7K hL (by omega),up (by omega),zZo hL kr kx l hl b1 n (i+1) (by omega) (by omega),zhy h]
   show ifb (!(zQ3 l[i])) _ _=_
   cases zQ3 l[i] <;> rfl
  ·rw [zG (by omega),WK (by omega)]; rfl
def zQZ(x:Outp):Bool:=decide ((x.scr.length:Int)≤600)
theorem zWi{L:Nat}(kr:Bool→Option β)(kx:Option β)(l:List Outp)(hl:l.length≤1000000):∀ (n i:Nat),i≤l.length→l.length-i<n →
  zj7 zp L kr kx n (l.map zhD) (l.length:Int) (i:Int)=ifb ((l.drop i).all zQZ) kx (kr false)
 | 0,i,h1,h2=>by omega
 | n+1,i,h1,h2=>by
  simp only [zj7,zvJ,yt]
  by_cases h:i<l.length
  ·rw [zI (by omega),zaC (zD9 h)]
   rw [zDR,ztU,zDw]
   simp only [zLi,zJY,zF]
   rw [up (by omega),zWi kr kx l hl n (i+1) (by omega) (by omega),zhy h]
   by_cases hb:((l[i].scr.length:Nat):Int)≤600
   ·rw [zG (by omega)]; simp [zQZ,hb]
   ·rw [zI (by omega)]; simp [zQZ,hb,ifb]
  ·rw [zG (by omega),WK (by omega)]; rfl
def zIa(t:TxT):Bool:=decide (t.ins.length≤70)&&decide (t.outs.length≤70)&&t.ins.all zQ3&&t.outs.all zQZ
theorem yaY{L:Nat}(hL:2000≤L)(t:TxT)(k:Bool→Option β):xO β L (zcA t) k=k (zIa t):=by
 simp only [xO,zGS,zQb,zmC,zsv]
 simp only [ziJ,zho,zKG,zqa,QB,zqJ,zkL,zs1,zoH,zqK]
 by_cases h1:t.ins.length≤70
 ·rw [zG (by omega)]
  by_cases h2:t.outs.length≤70
  ·rw [zG (by omega),show ((0:Int))=((0:Nat):Int) from rfl,zZo hL _ _ _ (by omega) _ L 0 (by omega) (by omega)]
   simp only [zho,QB]
   rw [zWi _ _ _ (by omega) L 0 (by omega) (by omega)]
   simp only [Yd,zIa,h1,h2,decide_true,Bool.true_and]
   cases t.ins.all zQ3 <;> cases t.outs.all zQZ <;> rfl
  ·rw [zI (by omega)]; simp [zIa,h2]
 ·rw [zI (by omega)]; simp [zIa,h1]
structure KeptP (t:TxT):Prop where
 ni:t.ins.length≤70
 no:t.outs.length≤70
 wl:∀ x∈t.ins,x.wit.length≤40
 wi:∀ x∈t.ins,∀ y∈x.wit,y.length≤600
 sl:∀ x∈t.outs,x.scr.length≤600
theorem ybW{t:TxT}(h:zIa t=true):KeptP t:=by
 simp only [zIa,zQ3,zQZ,Bool.and_eq_true,decide_eq_true_eq,List.all_eq_true] at h
 exact ⟨h.1.1.1,h.1.1.2,fun x hx=>by have:=(h.1.2 x hx).1; omega,fun x hx y hy=>by have:=(h.1.2 x hx).2 y hy; omega,fun x hx=>by have:=h.2 x hx; omega⟩
end
section
variable {β:Type}
theorem zlJ{a b:Nat}(h:a+b≤1000000000000):(a+b)*1≤xm∧a+b≤xm:=by
 unfold xm; omega
def zfW(n:Int)(w:Nat):List Int:=(List.range w).map fun (i:Nat)=>QG .u8 (zcM .u64 n (8*(i:Int)))
theorem zeP(n:Int)(w:Nat):(zfW n w).length=w:=by simp [zfW]
def zsV(n:Int):List Int:=zfW (QG .u64 n) 4
def z2p(n:Int):List Int:=zfW n 8
theorem zbu(n:Int):(zsV n).length=4:=zeP _ _
theorem zmc(n:Int):(z2p n).length=8:=zeP _ _
def szB(n:Int):List Int:=if n<253 then [QG .u8 n] else if n<65536 then 253::zfW n 2 else if n<4294967296 then 254::zfW n 4 else 255::zfW n 8
theorem zhp(n:Int):(szB n).length≤9:=by
 unfold szB; repeat' split
 all_goals simp [zeP]
def bsB(s:List Int):List Int:=szB (s.length:Int)++s
def zuA(x:Inp):List V:=[V.sc (.int .u8 (x.pv.getD 0 0)),V.sc (.int .u8 (x.pv.getD 1 0)),V.sc (.int .u8 (x.pv.getD 2 0)),V.sc (.int .u8 (x.pv.getD 3 0)),V.sc (.int .u8 (x.pv.getD 4 0)),V.sc (.int .u8 (x.pv.getD 5 0)),V.sc (.int .u8 (x.pv.getD 6 0)),V.sc (.int .u8 (x.pv.getD 7 0)),V.sc (.int .u8 (x.pv.getD 8 0)),V.sc (.int .u8 (x.pv.getD 9 0)),V.sc (.int .u8 (x.pv.getD 10 0)),V.sc (.int .u8 (x.pv.getD 11 0)),V.sc (.int .u8 (x.pv.getD 12 0)),V.sc (.int .u8 (x.pv.getD 13 0)),V.sc (.int .u8 (x.pv.getD 14 0)),V.sc (.int .u8 (x.pv.getD 15 0)),V.sc (.int .u8 (x.pv.getD 16 0)),V.sc (.int .u8 (x.pv.getD 17 0)),V.sc (.int .u8 (x.pv.getD 18 0)),V.sc (.int .u8 (x.pv.getD 19 0)),V.sc (.int .u8 (x.pv.getD 20 0)),V.sc (.int .u8 (x.pv.getD 21 0)),V.sc (.int .u8 (x.pv.getD 22 0)),V.sc (.int .u8 (x.pv.getD 23 0)),V.sc (.int .u8 (x.pv.getD 24 0)),V.sc (.int .u8 (x.pv.getD 25 0)),V.sc (.int .u8 (x.pv.getD 26 0)),V.sc (.int .u8 (x.pv.getD 27 0)),V.sc (.int .u8 (x.pv.getD 28 0)),V.sc (.int .u8 (x.pv.getD 29 0)),V.sc (.int .u8 (x.pv.getD 30 0)),V.sc (.int .u8 (x.pv.getD 31 0)),V.sc (.int .u32 (x.pv.getD 32 0))]
def zMP(x:Inp):List Int:=[x.pv.getD 0 0,x.pv.getD 1 0,x.pv.getD 2 0,x.pv.getD 3 0,x.pv.getD 4 0,x.pv.getD 5 0,x.pv.getD 6 0,x.pv.getD 7 0,x.pv.getD 8 0,x.pv.getD 9 0,x.pv.getD 10 0,x.pv.getD 11 0,x.pv.getD 12 0,x.pv.getD 13 0,x.pv.getD 14 0,x.pv.getD 15 0,x.pv.getD 16 0,x.pv.getD 17 0,x.pv.getD 18 0,x.pv.getD 19 0,x.pv.getD 20 0,x.pv.getD 21 0,x.pv.getD 22 0,x.pv.getD 23 0,x.pv.getD 24 0,x.pv.getD 25 0,x.pv.getD 26 0,x.pv.getD 27 0,x.pv.getD 28 0,x.pv.getD 29 0,x.pv.getD 30 0,x.pv.getD 31 0]
def ptB(x:Inp):List Int:=zMP x++zsV (x.pv.getD 32 0)
theorem z0K(x:Inp):(zuA x).length=33:=by simp [zuA]
theorem zZc(x:Inp):(XL 32 (zuA x)).length=32:=by simp [zuA]
theorem zR9(x:Inp):yl 1 32 (XL 32 (zuA x))=yq .u8 (zMP x):=by rfl
theorem z62(x:Inp)(k:Int→Option β):cI .u32 (zuA x) 32 k=k (x.pv.getD 32 0):=zhi rfl k
theorem zyH(x:Inp):(zMP x).length=32:=by simp [zMP]
theorem zxV(x:Inp):(ptB x).length=36:=by simp [ptB,zyH,zbu]
theorem zgr(k:IntKind):([]:Ls)=yq k []:=rfl
theorem z7e(k:IntKind)(n:Int):zcM k n 0=n:=by
 simp [zcM,Int.fdiv_one]
theorem z8p(n:Int):zfW n 1=[QG .u8 n]:=by
 simp [zfW,List.range_succ,z7e]
theorem z6n(x:Inp):XL 33 (zgq x)=zuA x:=by rfl
theorem z37(x:Inp)(k:Option β):chk (0+33≤(XK (zgq x))) k=k:=yf (by rw [zTj]; omega) k
theorem z75(x:Outp)(k:Option β):chk (0+2≤(XK (zhD x))) k=k:=yf (by rw [zL1]; omega) k
theorem zgk(x:TxT)(k:Option β):chk (0+4≤(XK (zcA x))) k=k:=yf (by rw [zmC]; omega) k
theorem zrS{L:Nat}{b s:List Int}(h:b.length+s.length≤1000000000000)(k:Ls→Option β):xl β L (yq .u8 b) (yq .u8 s) k=k (yq .u8 (b++s)):=by
 simp only [xl,zxO,yt,zF,Yg,List.length_nil,Ye]
 rw [zas (by omega) (by omega),yf (by unfold xm; omega),yf (by unfold xm; omega),yf (zlJ h),zbQ]
theorem ycu(L:Nat)(n:Int)(k:Ls→Option β):xD β (L+20) n 2 k=k (yq .u8 (zfW n 2)):=by kernel_rfl
theorem yc1(L:Nat)(n:Int)(k:Ls→Option β):xD β (L+20) n 4 k=k (yq .u8 (zfW n 4)):=by kernel_rfl
theorem ycy(L:Nat)(n:Int)(k:Ls→Option β):xD β (L+20) n 8 k=k (yq .u8 (zfW n 8)):=by kernel_rfl
theorem z1D{L:Nat}(hL:20≤L)(n:Int)(k:Ls→Option β):xD β L n 2 k=k (yq .u8 (zfW n 2))∧xD β L n 4 k=k (yq .u8 (zfW n 4))∧xD β L n 8 k=k (yq .u8 (zfW n 8)):=by
 obtain ⟨m,rfl⟩:∃ m,L=m+20:=⟨L-20,by omega⟩
 exact ⟨ycu m n k,yc1 m n k,ycy m n k⟩
theorem ycd{L:Nat}(hL:20≤L){b:List Int}(h:b.length≤900000000000)(n:Int)(k:Ls→Option β):zae β L (yq .u8 b) n k=k (yq .u8 (b++zfW (QG .u64 n) 2)):=by
 simp only [zae,zqZ,yt]
 rw [(z1D hL _ _).1,zrS (by rw [zeP]; omega)]
theorem zCi{L:Nat}(hL:20≤L){b:List Int}(h:b.length≤900000000000)(n:Int)(k:Ls→Option β):yb β L (yq .u8 b) n k=k (yq .u8 (b++zsV n)):=by
 simp only [yb,zq1,yt]
 rw [(z1D hL _ _).2.1,zrS (by rw [zeP]; omega)]; rfl
theorem z9o{L:Nat}(hL:20≤L){b:List Int}(h:b.length≤900000000000)(n:Int)(k:Ls→Option β):zd β L (yq .u8 b) n k=k (yq .u8 (b++z2p n)):=by
 simp only [zd,zru,yt]
 rw [(z1D hL _ _).2.2,zrS (by rw [zeP]; omega)]; rfl
theorem z3V(n:Int):yl 1 1 [V.sc (.int .u8 n)]=yq .u8 [n]:=rfl
theorem zKU{L:Nat}(hL:20≤L){b:List Int}(h:b.length≤800000000000){n:Int}(h0:0≤n)(k:Ls→Option β):za β L (yq .u8 b) n k=k (yq .u8 (b++szB n)):=by
 simp only [za,zov,yt,z3V,zJF]
 unfold szB
 split
 ·rw [zrS (by simp; omega)]
 ·split
  ·rw [zrS (by simp; omega),ycd hL (by simp; omega),z8O (by omega) (by omega),zbV (by omega) (by omega)]
   simp
  ·split
   ·rw [zrS (by simp; omega),zCi hL (by simp; omega),zsV,zkx (by omega) (by omega),zbV (by omega) (by omega)]
    simp
   ·rw [zrS (by simp; omega),z9o hL (by simp; omega),z2p]
    simp
theorem z1a{L:Nat}(hL:20≤L){b s:List Int}(h:b.length≤700000000000)(hs:s.length≤10000000)(k:Ls→Option β):xc β L (yq .u8 b) (yq .u8 s) k=k (yq .u8 (b++bsB s)):=by
 simp only [xc,znA,yt,zF]
 have:=zhp (s.length:Int)
 rw [zbV (by omega) (by omega),zKU hL (by omega) (by omega),zrS (by simp; omega)]
 simp [bsB]
theorem yaN{L:Nat}(hL:20≤L)(x:Inp)(k:Ls→Option β):yk β L (zuA x) k=k (yq .u8 (ptB x)):=by
 simp only [yk,zMz,zH,zke]
 rw [yf (by rw [z0K]; omega),yf (by rw [zZc]; omega),zR9,zgr .u8,zrS (by simp [zyH]),z62,zCi hL (by simp [zyH])]
 rfl
theorem ziH{L:Nat}{b s:List Int}(h:b.length+s.length≤1000000000000)(k:Ls→Option β):yg β L (yq .u8 b) (yq .u8 s) k=k (yq .u8 (b++s)):=by
 simp only [yg,zx9,yt,zF,Yg,List.length_nil,Ye]
 rw [zas (by omega) (by omega),yf (by unfold xm; omega),yf (by unfold xm; omega),yf (zlJ h),zbQ]
theorem yce(L:Nat)(n:Int)(k:Ls→Option β):xy β (L+20) n 1 k=k (yq .u8 (zfW n 1)):=by kernel_rfl
theorem yb1(L:Nat)(n:Int)(k:Ls→Option β):xy β (L+20) n 2 k=k (yq .u8 (zfW n 2)):=by kernel_rfl
theorem ycm(L:Nat)(n:Int)(k:Ls→Option β):xy β (L+20) n 4 k=k (yq .u8 (zfW n 4)):=by kernel_rfl
theorem yck(L:Nat)(n:Int)(k:Ls→Option β):xy β (L+20) n 8 k=k (yq .u8 (zfW n 8)):=by kernel_rfl
theorem zCC{L:Nat}(hL:20≤L)(n:Int)(k:Ls→Option β):xy β L n 1 k=k (yq .u8 (zfW n 1))∧xy β L n 2 k=k (yq .u8 (zfW n 2))∧xy β L n 4 k=k (yq .u8 (zfW n 4))∧xy β L n 8 k=k (yq .u8 (zfW n 8)):=by
 obtain ⟨m,rfl⟩:∃ m,L=m+20:=⟨L-20,by omega⟩
 exact ⟨yce m n k,yb1 m n k,ycm m n k,yck m n k⟩
theorem zyZ{L:Nat}(hL:20≤L){b:List Int}(h:b.length≤900000000000)(n:Int)(k:Ls→Option β):xa β L (yq .u8 b) n k=k (yq .u8 (b++zsV n)):=by
 simp only [xa,zqY,yt]
 rw [(zCC hL _ _).2.2.1,ziH (by rw [zeP]; omega)]; rfl
theorem ybH{L:Nat}(hL:20≤L){b:List Int}(h:b.length≤900000000000)(n:Int)(k:Ls→Option β):zad β L (yq .u8 b) n k=k (yq .u8 (b++z2p n)):=by
 simp only [zad,zqQ,yt]
 rw [(zCC hL _ _).2.2.2,ziH (by rw [zeP]; omega)]; rfl
theorem zC7{L:Nat}(hL:20≤L){b:List Int}(h:b.length≤800000000000){n:Int}(h0:0≤n)(k:Ls→Option β):ya β L (yq .u8 b) n k=k (yq .u8 (b++szB n)):=by
 simp only [ya,zo1,yt,z3V,zJF]
 unfold szB
 split
 ·rw [(zCC hL _ _).1,ziH (by rw [zeP]; omega),z8p]
 ·split
  ·rw [(zCC hL _ _).2.1,ziH (by simp [zeP]),ziH (by simp [zeP]; omega)]
   simp
  ·split
   ·rw [(zCC hL _ _).2.2.1,ziH (by simp [zeP]),ziH (by simp [zeP]; omega)]
    simp
   ·rw [(zCC hL _ _).2.2.2,ziH (by simp [zeP]),ziH (by simp [zeP]; omega)]
    simp
theorem zZl{L:Nat}(hL:20≤L){b s:List Int}(h:b.length≤700000000000)(hs:s.length≤10000000)(k:Ls→Option β):zc β L (yq .u8 b) (yq .u8 s) k=k (yq .u8 (b++bsB s)):=by
 simp only [zc,znJ,yt,zF]
 have:=zhp (s.length:Int)
 rw [zbV (by omega) (by omega),zC7 hL (by omega) (by omega),ziH (by simp; omega)]
 simp [bsB]
theorem z8o{L:Nat}(hL:20≤L)(x:Inp)(k:Ls→Option β):zf β L (zuA x) k=k (yq .u8 (ptB x)):=by
 simp only [zf,zzV,yn,zjy]
 rw [yf (by rw [z0K]; omega),yf (by rw [zZc]; omega),zR9,zgr .u8,ziH (by simp [zyH]),z62,zyZ hL (by simp [zyH])]
 rfl
end
section
variable {β:Type}
def inB(x:Inp):List Int:=ptB x++zsV x.seq
def znm(o:Outp):List Int:=z2p (QG .u64 o.val)++bsB o.scr
def zs2(x:Inp):List Int:=szB (x.wit.length:Int)++x.wit.flatMap bsB
def zlG(t:TxT)(w:Bool):List Int:=zsV t.ver++szB (t.ins.length:Int)++t.ins.flatMap inB++szB (t.outs.length:Int)++t.outs.flatMap znm++zsV t.lock++(if w then t.ins.flatMap zs2 else [])
theorem zep{α:Type}{l:List α}{f:α→List Int}{i:Nat}(h:i<l.length):(l.drop i).flatMap f=f l[i]++(l.drop (i+1)).flatMap f:=by
 rw [WQ h,List.flatMap_cons]
theorem zQu{α:Type}{f:α→List Int}{c:Nat}:∀ {l:List α},(∀ x∈l,(f x).length≤c)→(l.flatMap f).length≤l.length*c
 | [],_=>by simp
 | x::l,h=>by
  have h1:=h x (by simp)
  have h2:=zQu (l:=l) (fun y hy=>h y (by simp [hy]))
  rw [List.flatMap_cons,Wm,List.length_cons,Nat.add_mul]; omega
theorem zYy(x:Inp):(inB x).length=40:=by simp [inB,zxV,zbu]
theorem z34(s:List Int):(bsB s).length≤9+s.length:=by have:=zhp (s.length:Int); simp [bsB]; omega
theorem z8c(o:Outp):(znm o).length≤17+o.scr.length:=by have:=z34 o.scr; simp [znm,zmc]; omega
theorem z9b{x:Inp}(h1:x.wit.length≤40)(h2:∀ y∈x.wit,y.length≤600):(zs2 x).length≤30000:=by
 have h3:=zQu (f:=bsB) (c:=609) (l:=x.wit) (fun y hy=>by have:=z34 y; have:=h2 y hy; omega)
 have h4:=zhp (x.wit.length:Int)
 have h5:x.wit.length*609≤40*609:=WI _ h1
 simp only [zs2,Wm]; omega
theorem z8t(x:Outp):[V.sc (.int .i64 x.val),V.sl 1 (yq .u8 x.scr)]=zhD x:=Eq.trans rfl rfl
theorem ybN{L:Nat}(hL:20≤L){x:Outp}(hs:x.scr.length≤600)(k:Ls→Option β):zi β L (zhD x) k=k (yq .u8 (znm x)):=by
 simp only [zi,zH9,zL1,zsv,yt]
 simp only [zLi,zJY]
 rw [zgr .u8,ybH hL (by simp),zZl hL (by simp [zmc]) (by omega)]
 simp [znm]
theorem z4y{L:Nat}(hL:20≤L)(kx:Bool→Ls→List V→Option β)(l:List Inp)(hl:l.length≤1000000)(w:Bool)(b1:List V):∀ (n i:Nat) (acc:List Int),i≤l.length→l.length-i<n→acc.length+((l.drop i).flatMap inB).length≤500000000000 →
  zhV yb za yk zd xc L kx n w (yq .u8 acc) (l.map zgq) (l.length:Int) (i:Int) b1=kx w (yq .u8 (acc++(l.drop i).flatMap inB)) b1
 | 0,i,acc,h1,h2,h3=>by omega
 | n+1,i,acc,h1,h2,h3=>by
  simp only [zhV,zq4,yt]
  by_cases h:i<l.length
  ·rw [zep h] at h3
   simp only [Wm,zYy] at h3
   rw [zI (by omega),zaC (ztv h)]
   rw [zlV,zjF,zo2]
   simp only [zow,zpp,z37,z6n]
   rw [yaN hL,zF,zF,yf (zlJ (by rw [zxV]; omega)),zbQ]
   rw [zgr .u8,zCi hL (by simp),zF,zF,yf (zlJ (by simp [zxV,zbu]; omega)),zbQ,Ye]
   rw [up (by omega),z4y hL kx l hl w b1 n (i+1) _ (by omega) (by omega) (by simp only [Wm,zxV,zbu]; omega),zep h]
   simp [inB]
  ·rw [zG (by omega),WK (by omega)]
   simp
theorem z2R{L:Nat}(hL:20≤L)(kx:Bool→Ls→List V→Option β)(l:List Outp)(hl:l.length≤1000000)(hs:∀ x∈l,x.scr.length≤600)(w:Bool)(b1:List V):∀ (n i:Nat) (acc:List Int),i≤l.length→l.length-i<n→acc.length+((l.drop i).flatMap znm).length≤500000000000 →
  zgc yb za yk zd xc L kx n w (yq .u8 acc) (l.map zhD) (l.length:Int) (i:Int) b1=kx w (yq .u8 (acc++(l.drop i).flatMap znm)) b1
 | 0,i,acc,h1,h2,h3=>by omega
 | n+1,i,acc,h1,h2,h3=>by
  simp only [zgc,znU,yt]
  by_cases h:i<l.length
  ·have h4:=hs l[i] (W2 h)
   rw [zep h] at h3
   simp only [Wm,znm,zmc] at h3
   rw [zI (by omega),zaC (zD9 h)]
   rw [zDR,ztU,zDw]
   simp only [zLi,zJY,z8t]
   rw [zgr .u8,z9o hL (by simp),zF,zF,yf (zlJ (by simp [zmc]; omega)),zbQ,Ye,z1a hL (by simp) (by omega),zF,zF,yf (zlJ (by simp [zmc]; omega)),zbQ,Ye]
   rw [up (by omega),z2R hL kx l hl hs w b1 n (i+1) _ (by omega) (by omega) (by simp only [Wm,zmc,znm]; omega),zep h]
   simp [znm]
  ·rw [zG (by omega),WK (by omega)]
   simp
theorem zZz{L:Nat}(hL:20≤L)(kx:Ls→Ls→Int→Int→Option β)(wt:List (List Int))(hw:wt.length≤1000000)(hs:∀ y∈wt,y.length≤600)(p77:Ls)(p78 p79:Int):∀ (n i:Nat) (acc:List Int),i≤wt.length→wt.length-i<n→acc.length+((wt.drop i).flatMap bsB).length≤500000000000 →
  zbY yb za yk zd xc L kx n (yq .u8 acc) p77 p78 p79 (zjh wt) (wt.length:Int) (i:Int)=kx (yq .u8 (acc++(wt.drop i).flatMap bsB)) p77 p78 p79
 | 0,i,acc,h1,h2,h3=>by omega
 | n+1,i,acc,h1,h2,h3=>by
  simp only [zbY,ze8,yt]
  by_cases h:i<wt.length
  ·have h4:=hs wt[i] (W2 h)
   rw [zep h] at h3
   simp only [Wm] at h3
   rw [zI (by omega),zaC (ztM h),znb rfl]
   rw [zgr .u8,z1a hL (by simp) (by omega),Ye,zF,zF,yf (zlJ (by omega)),zbQ]
   rw [up (by omega),zZz hL kx wt hw hs p77 p78 p79 n (i+1) _ (by omega) (by omega) (by simp only [Wm]; omega),zep h]
   simp
  ·rw [zG (by omega),WK (by omega)]
   simp
theorem z4K{L:Nat}(hL:20≤L)(kx:Bool→Ls→List V→Option β)(l:List Inp)(hl:l.length≤1000000)(w:Bool)(b1:List V):∀ (n i:Nat) (acc:List Int),i≤l.length→l.length-i<n→acc.length+((l.drop i).flatMap inB).length≤500000000000 →
  zfG xa ya zf zi zc L kx n w (yq .u8 acc) (l.map zgq) (l.length:Int) (i:Int) b1=kx w (yq .u8 (acc++(l.drop i).flatMap inB)) b1
 | 0,i,acc,h1,h2,h3=>by omega
 | n+1,i,acc,h1,h2,h3=>by
  simp only [zfG,zmK,yt]
  by_cases h:i<l.length
  ·rw [zep h] at h3
   simp only [Wm,zYy] at h3
   rw [zI (by omega),zaC (ztv h)]
   rw [zlV,zjF,zo2]
   simp only [zow,zpp,z37,z6n]
   rw [z8o hL,zF,zF,yf (zlJ (by rw [zxV]; omega)),zbQ]
   rw [zyZ hL (by simp only [Wm,zxV]; omega)]
   rw [up (by omega),z4K hL kx l hl w b1 n (i+1) _ (by omega) (by omega) (by simp only [Wm,zxV,zbu]; omega),zep h]
   simp [inB]
  ·rw [zG (by omega),WK (by omega)]
   simp
theorem z2J{L:Nat}(hL:20≤L)(kx:Bool→Ls→List V→Option β)(l:List Outp)(hl:l.length≤1000000)(hs:∀ x∈l,x.scr.length≤600)(w:Bool)(b1:List V):∀ (n i:Nat) (acc:List Int),i≤l.length→l.length-i<n→acc.length+((l.drop i).flatMap znm).length≤500000000000 →
  zex xa ya zf zi zc L kx n w (yq .u8 acc) (l.map zhD) (l.length:Int) (i:Int) b1=kx w (yq .u8 (acc++(l.drop i).flatMap znm)) b1
 | 0,i,acc,h1,h2,h3=>by omega
 | n+1,i,acc,h1,h2,h3=>by
  simp only [zex,zkp,yt]
  by_cases h:i<l.length
  ·have h4:=hs l[i] (W2 h)
   rw [zep h] at h3
   simp only [Wm,znm,zmc] at h3
   rw [zI (by omega),zaC (zD9 h)]
   rw [zDR,ztU,zDw]
   simp only [z75,z8Z]
   rw [ybN hL h4,zF,zF,yf (zlJ (by simp only [znm,Wm,zmc]; omega)),zbQ]
   rw [up (by omega),z2J hL kx l hl hs w b1 n (i+1) _ (by omega) (by omega) (by simp only [Wm,zmc,znm]; omega),zep h]
   simp [znm]
  ·rw [zG (by omega),WK (by omega)]
   simp
theorem zY6{L:Nat}(hL:20≤L)(kx:Bool→Ls→Ls→Int→Int→Option β)(wt:List (List Int))(hw:wt.length≤1000000)(hs:∀ y∈wt,y.length≤600)(w:Bool)(p77:Ls)(p78 p79:Int):∀ (n i:Nat) (acc:List Int),i≤wt.length→wt.length-i<n→acc.length+((wt.drop i).flatMap bsB).length≤500000000000 →
  zbx xa ya zf zi zc L kx n w (yq .u8 acc) p77 p78 p79 (zjh wt) (wt.length:Int) (i:Int)=kx w (yq .u8 (acc++(wt.drop i).flatMap bsB)) p77 p78 p79
 | 0,i,acc,h1,h2,h3=>by omega
 | n+1,i,acc,h1,h2,h3=>by
  simp only [zbx,zee,yt]
  by_cases h:i<wt.length
  ·have h4:=hs wt[i] (W2 h)
   rw [zep h] at h3
   simp only [Wm] at h3
   rw [zI (by omega),zaC (ztM h),znb rfl]
   rw [zZl hL (by omega) (by omega)]
   rw [up (by omega),zY6 hL kx wt hw hs w p77 p78 p79 n (i+1) _ (by omega) (by omega) (by simp only [Wm]; omega),zep h]
   simp
  ·rw [zG (by omega),WK (by omega)]
   simp
end
section
variable {β:Type}
theorem yby(a b:Option β):ifb (!true) a b=b:=rfl
theorem ybu(a b:Option β):ifb (!false) a b=a:=rfl
theorem z1S{L:Nat}(hL:2000≤L)(kx:Ls→Option β)(l:List Inp)(hl:l.length≤1000000)(hw:∀ x∈l,x.wit.length≤40)(hs:∀ x∈l,∀ y∈x.wit,y.length≤600):∀ (n i:Nat) (acc:List Int),i≤l.length→l.length-i<n→acc.length+((l.drop i).flatMap zs2).length≤400000000000 →
  zet yb za yk zd xc L kx n (yq .u8 acc) (l.map zgq) (l.length:Int) (i:Int)=kx (yq .u8 (acc++(l.drop i).flatMap zs2))
 | 0,i,acc,h1,h2,h3=>by omega
 | n+1,i,acc,h1,h2,h3=>by
  simp only [zet,zf8,zkm,yt]
  by_cases h:i<l.length
  ·have h4:=hw l[i] (W2 h)
   have h5:=hs l[i] (W2 h)
   have h6:=zhp (l[i].wit.length:Int)
   rw [zep h] at h3
   simp only [Wm,zs2] at h3
   rw [zI (by omega),zaC (ztv h)]
   rw [zlV,zjF,zo2]
   simp only [zow,zpp,zyM]
   rw [zbV (by omega) (by omega),zgr .u8,zKU (by omega) (by simp) (by omega),Ye,zF,zF,yf (zlJ (by omega)),zbQ]
   rw [show ((0:Int))=((0:Nat):Int) from rfl,zZz (by omega) _ _ (by omega) h5 _ _ _ L 0 _ (by omega) (by omega) (by simp only [Yd,Wm]; omega)]
   simp only [zew,yt,Yd]
   rw [up (by omega),z1S hL kx l hl hw hs n (i+1) _ (by omega) (by omega) (by simp only [Wm,zs2]; omega),zep h]
   simp [zs2]
  ·rw [zG (by omega),WK (by omega)]
   simp
theorem z8g{L:Nat}(hL:2000≤L)(kx:Ls→Option β)(l:List Inp)(hl:l.length≤1000000)(hw:∀ x∈l,x.wit.length≤40)(hs:∀ x∈l,∀ y∈x.wit,y.length≤600):∀ (n i:Nat) (acc:List Int),i≤l.length→l.length-i<n→acc.length+((l.drop i).flatMap zs2).length≤400000000000 →
  zbk xa ya zf zi zc L kx n true (yq .u8 acc) (l.map zgq) (l.length:Int) (i:Int)=kx (yq .u8 (acc++(l.drop i).flatMap zs2)):=by
 intro n
 induction n with
 | zero=>intro i acc h1 h2 h3; omega
 | succ n ih=>
  intro i acc h1 h2 h3
  simp only [zbk,zdp,zfr,yt]
  by_cases h:i<l.length
  ·have h4:=hw l[i] (W2 h)
   have h5:=hs l[i] (W2 h)
   have h6:=zhp (l[i].wit.length:Int)
   rw [zep h] at h3
   simp only [Wm,zs2] at h3
   rw [zI (by omega),zaC (ztv h)]
   rw [zlV,zjF,zo2]
   simp only [zow,zpp,zyM]
   rw [yby]
   rw [zbV (by omega) (by omega),zC7 (by omega) (by omega) (by omega)]
   rw [show ((0:Int))=((0:Nat):Int) from rfl,zY6 (by omega) _ _ (by omega) h5 _ _ _ _ L 0 _ (by omega) (by omega) (by simp only [Yd,Wm]; omega)]
   simp only [zdD,yt,Yd]
   rw [up (by omega),ih (i+1) _ (by omega) (by omega) (by simp only [Wm,zs2]; omega),zep h]
   simp [zs2]
  ·rw [zG (by omega),WK (by omega)]
   simp
theorem z83{L:Nat}(hL:0<L)(kx:Ls→Option β)(l:List Inp)(p5:Ls) :
  zbk xa ya zf zi zc L kx L false p5 (l.map zgq) (l.length:Int) ((0:Nat):Int)=kx p5:=by
 have key:∀ (n:Nat),0<n→zbk xa ya zf zi zc L kx n false p5 (l.map zgq) (l.length:Int) ((0:Nat):Int)=kx p5:=by
  intro n hn
  obtain ⟨m,rfl⟩:∃ m,n=m+1:=⟨n-1,by omega⟩
  simp only [zbk,zdp,zfr,yt]
  by_cases h:0<l.length
  ·rw [zI (by omega),zaC (ztv h)]
   rw [zlV,zjF,zo2]
   simp only [zow,zpp]
   rw [ybu]
  ·rw [zG (by omega)]
 exact key L hL
structure Lens (t:TxT):Prop where
 a:(t.ins.flatMap inB).length≤70*40
 b:(t.outs.flatMap znm).length≤70*617
 c:(t.ins.flatMap zs2).length≤70*30000
theorem KeptP.lens{t:TxT}(h:KeptP t):Lens t:=by
 have hi:=h.ni
 have ho:=h.no
 have h1:=zQu (f:=inB) (c:=40) (l:=t.ins) (fun x _=>by rw [zYy]; omega)
 have h2:=zQu (f:=znm) (c:=617) (l:=t.outs) (fun x hx=>by have:=z8c x; have:=h.sl x hx; omega)
 have h3:=zQu (f:=zs2) (c:=30000) (l:=t.ins) (fun x hx=>z9b (h.wl x hx) (h.wi x hx))
 have e1:t.ins.length*40≤70*40:=WI _ hi
 have e2:t.outs.length*617≤70*617:=WI _ ho
 have e3:t.ins.length*30000≤70*30000:=WI _ hi
 exact ⟨by omega,by omega,by omega⟩
theorem zZe{L:Nat}(hL:2000≤L){t:TxT}(h:KeptP t)(w:Bool)(k:Ls→Option β):yi β L (zcA t) w k=k (yq .u8 (zlG t w)):=by
 obtain ⟨q1,q2,q3⟩:=h.lens
 have hi:=h.ni
 have ho:=h.no
 have s1:=zhp (t.ins.length:Int)
 have s2:=zhp (t.outs.length:Int)
 simp only [yi,zyx,zIc,zmC,zsv,yt]
 simp only [ziJ,zho,zKG,zqa,QB]
 rw [zgr .u8,zCi (by omega) (by simp),zbV (by omega) (by omega),zKU (by omega) (by simp) (by omega),zF,zF,Ye,Ye,yf (zlJ (by rw [zbu]; omega)),zbQ]
 rw [show ((0:Int))=((0:Nat):Int) from rfl,z4y (by omega) _ _ (by omega) _ _ L 0 _ (by omega) (by omega) (by simp only [Yd,Wm,zbu]; omega)]
 simp only [zia,znO,yt,ziJ,zho,zqa,QB,Yd]
 rw [zgr .u8,zbV (by omega) (by omega),zKU (by omega) (by simp) (by omega),zF,zF,Ye,yf (zlJ (by simp only [Wm,zbu]; omega)),zbQ]
 rw [show ((0:Int))=((0:Nat):Int) from rfl,z2R (by omega) _ _ (by omega) h.sl _ _ L 0 _ (by omega) (by omega) (by simp only [Yd,Wm,zbu]; omega)]
 simp only [zgG,zkY,yt,ziJ,zho,zqa,QB,Yd]
 rw [zgr .u8,zCi (by omega) (by simp),zF,zF,Ye,yf (zlJ (by simp only [Wm,zbu]; omega)),zbQ]
 cases w with
 | false=>
  simp only [Bool.not_false,zhB,zlG,WP,if_false,List.append_nil]
 | true=>
  simp only [Bool.not_true,zeR]
  rw [show ((0:Int))=((0:Nat):Int) from rfl,z1S hL _ _ (by omega) h.wl h.wi L 0 _ (by omega) (by omega) (by simp only [Yd,Wm,zbu]; omega)]
  simp only [ziY,Yd,zlG,if_true]
theorem zL0{L:Nat}(hL:2000≤L){t:TxT}(h:KeptP t)(w:Bool)(k:Ls→Option β):yd β L (zcA t) w k=k (yq .u8 (zlG t w)):=by
 obtain ⟨q1,q2,q3⟩:=h.lens
 have hi:=h.ni
 have ho:=h.no
 have s1:=zhp (t.ins.length:Int)
 have s2:=zhp (t.outs.length:Int)
 simp only [yd,zp0,zxC,zmC,zsv,yt]
 simp only [ziJ,zho,zKG,zqa,QB]
 rw [zgr .u8,zyZ (by omega) (by simp),zbV (by omega) (by omega),zC7 (by omega) (by simp [zbu]) (by omega),Ye]
 rw [show ((0:Int))=((0:Nat):Int) from rfl,z4K (by omega) _ _ (by omega) _ _ L 0 _ (by omega) (by omega) (by simp only [Yd,Wm,zbu]; omega)]
 simp only [zf4,zkt,yt,ziJ,zho,zqa,QB,Yd]
 rw [zbV (by omega) (by omega),zC7 (by omega) (by simp only [Wm,zbu]; omega) (by omega)]
 rw [show ((0:Int))=((0:Nat):Int) from rfl,z2J (by omega) _ _ (by omega) h.sl _ _ L 0 _ (by omega) (by omega) (by simp only [Yd,Wm,zbu]; omega)]
 simp only [ze7,ziM,yt,ziJ,zho,zqa,QB,Yd]
 rw [zyZ (by omega) (by simp only [Wm,zbu]; omega),show ((0:Int))=((0:Nat):Int) from rfl]
 cases w with
 | false=>
  rw [z83 (by omega)]
  simp only [zeG,zlG,WP,if_false,List.append_nil]
 | true=>
  rw [z8g hL _ _ (by omega) h.wl h.wi L 0 _ (by omega) (by omega) (by simp only [Yd,Wm,zbu]; omega)]
  simp only [zeG,Yd,zlG,if_true]
end
end Go.Proofs.YtgmhijonllockaaGreatDoor
