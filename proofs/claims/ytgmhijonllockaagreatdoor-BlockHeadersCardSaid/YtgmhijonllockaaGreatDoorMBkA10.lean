/- Part 10 of the proof of BkA: an abstract machine over plain values, its soundness, and the functions of the program on plain values. -/
import Derived.Test.YtgmhijonllockaaGreatDoorMBkA9
namespace Go.Proofs.YtgmhijonllockaaGreatDoor
set_option maxRecDepth 100000
set_option linter.unusedVariables false
set_option linter.unusedSimpArgs false
open List renaming length->XK,take->XL,replicate->We,map->Xv,drop->XO,flatten->XN
open IntKind renaming wrap->QG
open Int renaming toNat->XM
section
noncomputable section
def zA4:Hint:=⟨[(0,0),(1,6),(2,0),(2,3),(3,0),(3,3)],[],[none],[],[],false,false,[]⟩
def zHc:CF:=cfD zA4 74
def zvx:Nat→Sh:=zj []
def zuC(L:Nat):CBC:=noC
def zxO{β:Type}(L:Nat)(z A:Ls)(C:Ls→Ob β):Ob β:=lt (QG .i64 ((((XK z:Nat):Int):Int)+((XK A:Nat):Int))) fun D=>chk (0≤(0:Int)∧(0:Int)≤D∧(XM D)*1≤xm∧D≤xm) (chk ((XK (We 0 [(Qa (0:Int))])+XK z)*1≤xm∧XK (We 0 [(Qa (0:Int))])+XK z≤xm) (lt ((We 0 [(Qa (0:Int))])++z) fun E=>chk ((XK E+XK A)*1≤xm∧XK E+XK A≤xm) (lt (E++A) fun F=>C F)))
theorem zRg{β:Type}(L:Nat)(z A:Ls)(k:KK β):zh zvx (zuC L) L zHc [(V.sl 1 z),(V.sl 1 A)] [] k=zxO L z A (fun z=>k (V.gs 1 z) []):=by kernel_rfl
abbrev zan:=∀ (β:Type),Nat→Ls→Ls→(Ls→Ob β)→Ob β
def xl:zan:=fun β=>@zxO β
def zeW(xl:zan)(L:Nat):Dk:=dA (AL 1) fun z=>dA (AL 1) fun A=>d0 fun β k=>xl β L z A (fun z=>k (V.gs 1 z) [])
theorem zRE(L:Nat):DK (zeW xl L) (fun _=>zh zvx (zuC L) L zHc):=xv zaZ fun z=>xv zaZ fun A=>yK fun _ k=>zRg L z A k
def zut:Hint:=⟨[(0,0),(1,5)],[],[none],[],[],false,false,[]⟩
def zzq:CF:=cfD zut 61
def zpU:Nat→Sh:=zj []
def zoW(xD:zcs)(xl:zan)(L:Nat):CBC:=(xe 191 (zeW xl L) (xe 192 (zlm xD L) noC))
def zq1{β:Type}(xD:zcs)(xl:zan)(L:Nat)(A:Ls)(C:Int)(z:Ls→Ob β):Ob β:=lt (QG .u64 C) fun D=>xD β L D (4:Int) (fun E=>xl β L A E (fun F=>z F))
theorem zMx{β:Type}(xD:zcs)(xl:zan)(L:Nat)(z:Ls)(A:Int)(k:KK β):zh zpU (zoW xD xl L) L zzq [(V.sl 1 z),(Qc A)] [] k=zq1 xD xl L z A (fun z=>k (V.gs 1 z) []):=by kernel_rfl
abbrev xt:=∀ (β:Type),Nat→Ls→Int→(Ls→Ob β)→Ob β
def yb:xt:=fun β=>@zq1 β xD xl
def zfK(yb:xt)(L:Nat):Dk:=dA (AL 1) fun z=>dA (AI .u32) fun A=>d0 fun β k=>yb β L z A (fun z=>k (V.gs 1 z) [])
theorem zMQ(L:Nat):DK (zfK yb L) (fun _=>zh zpU (zoW xD xl L) L zzq):=xv zaZ fun z=>xv zbN fun A=>yK fun _ k=>zMx xD xl L z A k
def zts:Hint:=⟨[(0,1),(1,3)],[],[none],[],[],false,false,[]⟩
def zw3:CF:=cfD zts 62
def znN:Nat→Sh:=zj []
def zns(xl:zan)(L:Nat):CBC:=(xe 191 (zeW xl L) noC)
def zke{β:Type}(xl:zan)(L:Nat)(C:Ls)(A:List V)(z:Ls→Ob β):Ob β:=chk (0+32*1≤(XK A)) (ifb (List.isEmpty A) (xl β L C (yl 1 32 A) (fun D=>z D)) (xl β L C (yl 1 32 A) (fun E=>z E)))
theorem zJX{β:Type}(xl:zan)(L:Nat)(z:Ls)(A:List V)(k:KK β):zh znN (zns xl L) L zw3 [(V.sl 1 z),(V.agg A)] [] k=zke xl L z A (fun z=>k (V.gs 1 z) []):=by kernel_rfl
abbrev zcC:=∀ (β:Type),Nat→Ls→List V→(Ls→Ob β)→Ob β
def zH:zcC:=fun β=>@zke β xl
def zjH(zH:zcC)(L:Nat):Dk:=dA (AL 1) fun z=>dA AG fun A=>d0 fun β k=>zH β L z A (fun z=>k (V.gs 1 z) [])
theorem zKP(L:Nat):DK (zjH zH L) (fun _=>zh znN (zns xl L) L zw3):=xv zaZ fun z=>xv zak fun A=>yK fun _ k=>zJX xl L z A k
def zqA:Hint:=⟨[(0,1),(6,4)],[],[none],[],[],false,false,[]⟩
def ztP:CF:=cfD zqA 28
def zkX:Nat→Sh:=zj [(5,(.int .u32)),(17,(.int .u32)),(21,(.int .u32)),(25,(.int .u32))]
def zk8(yb:xt)(zH:zcC)(L:Nat):CBC:=(xe 158 (zjH zH L) (xe 157 (zfK yb L) noC))
def zl5{β:Type}(yb:xt)(zH:zcC)(L:Nat)(z:List V)(A:Ls→Ob β):Ob β:=cI .u32 z 0 fun C=>yb β L ([]:Ls) C (fun D=>chk (1+32≤(XK z)) (zH β L D (XL 32 (XO 1 z)) (fun E=>chk (33+32≤(XK z)) (zH β L E (XL 32 (XO 33 z)) (fun F=>cI .u32 z 65 fun G=>yb β L F G (fun H=>cI .u32 z 66 fun I=>yb β L H I (fun J=>cI .u32 z 67 fun M=>yb β L J M (fun N=>A N))))))))
theorem zFI{β:Type}(yb:xt)(zH:zcC)(L:Nat)(z:List V)(k:KK β):zh zkX (zk8 yb zH L) L ztP [(V.agg z)] [] k=zl5 yb zH L z (fun z=>k (V.gs 1 z) []):=by kernel_rfl
abbrev zO:=∀ (β:Type),Nat→List V→(Ls→Ob β)→Ob β
def zg:zO:=fun β=>@zl5 β yb zH
def zd0(zg:zO)(L:Nat):Dk:=dA AG fun z=>d0 fun β k=>zg β L z (fun z=>k (V.gs 1 z) [])
theorem zFp(L:Nat):DK (zd0 zg L) (fun _=>zh zkX (zk8 yb zH L) L ztP):=xv zak fun z=>yK fun _ k=>zFI yb zH L z k
def zvK:Hint:=⟨[(0,0),(1,5)],[],[none],[],[],false,false,[]⟩
def zzJ:CF:=cfD zvK 75
def zo4:Nat→Sh:=zj []
def zpn(xD:zcs)(xl:zan)(L:Nat):CBC:=(xe 191 (zeW xl L) (xe 192 (zlm xD L) noC))
def zqZ{β:Type}(xD:zcs)(xl:zan)(L:Nat)(A:Ls)(C:Int)(z:Ls→Ob β):Ob β:=lt (QG .u64 C) fun D=>xD β L D (2:Int) (fun E=>xl β L A E (fun F=>z F))
theorem zMB{β:Type}(xD:zcs)(xl:zan)(L:Nat)(z:Ls)(A:Int)(k:KK β):zh zo4 (zpn xD xl L) L zzJ [(V.sl 1 z),(Qb A)] [] k=zqZ xD xl L z A (fun z=>k (V.gs 1 z) []):=by kernel_rfl
abbrev zhN:=∀ (β:Type),Nat→Ls→Int→(Ls→Ob β)→Ob β
def zae:zhN:=fun β=>@zqZ β xD xl
def zqB(zae:zhN)(L:Nat):Dk:=dA (AL 1) fun z=>dA (AI .u16) fun A=>d0 fun β k=>zae β L z A (fun z=>k (V.gs 1 z) [])
theorem zMu(L:Nat):DK (zqB zae L) (fun _=>zh zo4 (zpn xD xl L) L zzJ):=xv zaZ fun z=>xv zbN fun A=>yK fun _ k=>zMB xD xl L z A k
def zvQ:Hint:=⟨[(0,0),(1,4)],[],[none],[],[],false,false,[]⟩
def zzb:CF:=cfD zvQ 76
def zpb:Nat→Sh:=zj []
def zpc(xD:zcs)(xl:zan)(L:Nat):CBC:=(xe 191 (zeW xl L) (xe 192 (zlm xD L) noC))
def zru{β:Type}(xD:zcs)(xl:zan)(L:Nat)(A:Ls)(C:Int)(z:Ls→Ob β):Ob β:=xD β L C (8:Int) (fun D=>xl β L A D (fun E=>z E))
theorem zLY{β:Type}(xD:zcs)(xl:zan)(L:Nat)(z:Ls)(A:Int)(k:KK β):zh zpb (zpc xD xl L) L zzb [(V.sl 1 z),(Qd A)] [] k=zru xD xl L z A (fun z=>k (V.gs 1 z) []):=by kernel_rfl
abbrev yx:=∀ (β:Type),Nat→Ls→Int→(Ls→Ob β)→Ob β
def zd:yx:=fun β=>@zru β xD xl
def zkS(zd:yx)(L:Nat):Dk:=dA (AL 1) fun z=>dA (AI .u64) fun A=>d0 fun β k=>zd β L z A (fun z=>k (V.gs 1 z) [])
theorem zML(L:Nat):DK (zkS zd L) (fun _=>zh zpb (zpc xD xl L) L zzb):=xv zaZ fun z=>xv zbN fun A=>yK fun _ k=>zLY xD xl L z A k
def ztI:Hint:=⟨[(0,0),(2,5),(4,6),(6,6),(7,5)],[],[none,none,none,none,none,none,none,none],[],[],false,false,[]⟩
def zwK:CF:=cfD ztI 36
def znS:Nat→Sh:=zj []
def znC(xl:zan)(zae:zhN)(yb:xt)(zd:yx)(L:Nat):CBC:=(xe 183 (zkS zd L) (xe 157 (zfK yb L) (xe 205 (zqB zae L) (xe 191 (zeW xl L) noC))))
def zov{β:Type}(xl:zan)(zae:zhN)(yb:xt)(zd:yx)(L:Nat)(C:Ls)(A:Int)(z:Ls→Ob β):Ob β:=ifb (decide (A<(253:Int))) (lt (QG .u8 A) fun D=>xl β L C (yl 1 1 [(Qa D)]) (fun E=>z E)) (ifb (decide (A<(65536:Int))) (xl β L C (yl 1 1 [(Qa (253:Int))]) (fun F=>lt (QG .u16 A) fun G=>zae β L F G (fun H=>z H))) (ifb (decide (A<(4294967296:Int))) (xl β L C (yl 1 1 [(Qa (254:Int))]) (fun I=>lt (QG .u32 A) fun J=>yb β L I J (fun M=>z M))) (xl β L C (yl 1 1 [(Qa (255:Int))]) (fun N=>zd β L N A (fun O=>z O)))))
theorem zJ8{β:Type}(xl:zan)(zae:zhN)(yb:xt)(zd:yx)(L:Nat)(z:Ls)(A:Int)(k:KK β):zh znS (znC xl zae yb zd L) L zwK [(V.sl 1 z),(Qd A)] [] k=zov xl zae yb zd L z A (fun z=>k (V.gs 1 z) []):=by kernel_rfl
abbrev zo:=∀ (β:Type),Nat→Ls→Int→(Ls→Ob β)→Ob β
def za:zo:=fun β=>@zov β xl zae yb zd
def zg7(za:zo)(L:Nat):Dk:=dA (AL 1) fun z=>dA (AI .u64) fun A=>d0 fun β k=>za β L z A (fun z=>k (V.gs 1 z) [])
theorem zKB(L:Nat):DK (zg7 za L) (fun _=>zh znS (znC xl zae yb zd L) L zwK):=xv zaZ fun z=>xv zbN fun A=>yK fun _ k=>zJ8 xl zae yb zd L z A k
def zM3:Hint:=⟨[(0,1),(1,6)],[],[none],[],[],false,false,[]⟩
def zSN:CF:=cfD zM3 126
def zIE:Nat→Sh:=zj [(7,(.int .u32))]
def zIg(zH:zcC)(yb:xt)(L:Nat):CBC:=(xe 157 (zfK yb L) (xe 158 (zjH zH L) noC))
def zMz{β:Type}(zH:zcC)(yb:xt)(L:Nat)(A:List V)(z:Ls→Ob β):Ob β:=chk (0+32≤(XK A)) (zH β L ([]:Ls) (XL 32 A) (fun C=>cI .u32 A 32 fun D=>yb β L C D (fun E=>z E)))
theorem zZH{β:Type}(zH:zcC)(yb:xt)(L:Nat)(z:List V)(k:KK β):zh zIE (zIg zH yb L) L zSN [(V.agg z)] [] k=zMz zH yb L z (fun z=>k (V.gs 1 z) []):=by kernel_rfl
abbrev yW:=∀ (β:Type),Nat→List V→(Ls→Ob β)→Ob β
def yk:yW:=fun β=>@zMz β zH yb
def zLr(yk:yW)(L:Nat):Dk:=dA AG fun z=>d0 fun β k=>yk β L z (fun z=>k (V.gs 1 z) [])
theorem zZ0(L:Nat):DK (zLr yk L) (fun _=>zh zIE (zIg zH yb L) L zSN):=xv zak fun z=>yK fun _ k=>zZH zH yb L z k
def zrK:Hint:=⟨[(0,0),(1,7)],[],[none],[],[],false,false,[]⟩
def zu0:CF:=cfD zrK 127
def zma:Nat→Sh:=zj []
def zmu(za:zo)(xl:zan)(L:Nat):CBC:=(xe 191 (zeW xl L) (xe 182 (zg7 za L) noC))
def znA{β:Type}(za:zo)(xl:zan)(L:Nat)(C A:Ls)(z:Ls→Ob β):Ob β:=lt (QG .u64 ((XK A:Nat):Int)) fun D=>za β L C D (fun E=>xl β L E A (fun F=>z F))
theorem zHZ{β:Type}(za:zo)(xl:zan)(L:Nat)(z A:Ls)(k:KK β):zh zma (zmu za xl L) L zu0 [(V.sl 1 z),(V.sl 1 A)] [] k=znA za xl L z A (fun z=>k (V.gs 1 z) []):=by kernel_rfl
abbrev yw:=∀ (β:Type),Nat→Ls→Ls→(Ls→Ob β)→Ob β
def xc:yw:=fun β=>@znA β za xl
def znz(xc:yw)(L:Nat):Dk:=dA (AL 1) fun z=>dA (AL 1) fun A=>d0 fun β k=>xc β L z A (fun z=>k (V.gs 1 z) [])
theorem zIX(L:Nat):DK (znz xc L) (fun _=>zh zma (zmu za xl L) L zu0):=xv zaZ fun z=>xv zaZ fun A=>yK fun _ k=>zHZ za xl L z A k
def zLb:Hint:=⟨[(0,0),(0,1),(1,3),(2,0),(2,7),(5,2),(6,0),(6,5),(7,0),(7,5),(9,0),(9,7),(12,2),(13,0),(13,6),(14,0),(14,5),(16,0),(16,5),(18,0),(18,1),(21,2),(22,0),(22,7),(26,0),(26,4),(29,0),(29,1)],[],[none,some ((bl 234881062 104),(bl 20282409603651670422246444234111 104)),none,some ((bl 38 104),(bl 20282409603651670422246444234111 104)),none,none,some ((bl 7881299347898406 104),(bl 20282409603537531194991173432703 104)),none,some ((bl 38 104),(bl 20282409603537531194991173432703 104)),none,none,none,none,some ((bl 1057810092162800527867936 104),(bl 18374976116870265429129244431739 104)),none,some ((bl 32 104),(bl 18374976116870265429129244431739 104)),none,none,some ((bl 17332218360087486649115607072 104),(bl 18380933703309326321702196467067 104)),none,some ((bl 1057810092162800527867936 104),(bl 18380933703309326321702196467067 104)),none,none],[],[],false,false,[]⟩
def cf_tx_encode:CF:=cfD zLb 78
def zeO:CC:=xz [1,1,1,1,1,1,1,1,0,1,0,0,1,1,0,0,1,1,1,0,0] cf_tx_encode.body
def zm0:CC:=xz [1,1,1,1,1,1,1,1,0,1,0,0,1,1,1] cf_tx_encode.body
def zf2:CC:=xz [1,1,1,1,1,1,1,1,0,1,0,0] cf_tx_encode.body
def zmP:CC:=xz [1,1,1,1,1,0,1,0,0] cf_tx_encode.body
def zus:CC:=xz [1,1,1,1,1,1,1,1,1] cf_tx_encode.body
def zo0:CC:=xz [1,1,1,0,1,0,0] cf_tx_encode.body
def zqC:CC:=xz [1,1,1,1,1,1] cf_tx_encode.body
def zwr:CC:=xz [1,1,1,1] cf_tx_encode.body
def xZ:Nat→Sh:=zj [(15,(.int .u32)),(19,(.sl 35)),(25,(.sl 35)),(38,(.int .u32)),(44,(.sl 2)),(50,(.sl 2)),(58,(.int .i64)),(64,(.sl 1)),(70,(.int .u32)),(77,(.sl 35)),(85,(.sl 1)),(91,(.sl 1)),(96,(.sl 1))]
def y4(yb:xt)(za:zo)(yk:yW)(zd:yx)(xc:yw)(L:Nat):CBC:=(xe 184 (znz xc L) (xe 183 (zkS zd L) (xe 137 (zLr yk L) (xe 182 (zg7 za L) (xe 157 (zfK yb L) noC)))))
def zri:St→St:=yM 0 (bl 234881062 104) (bl 20282409603651670422246444234111 104)
def znM:St→St:=yM 0 (bl 7881299347898406 104) (bl 20282409603537531194991173432703 104)
def zcS:St→St:=yM 0 (bl 1057810092162800527867936 104) (bl 18374976116870265429129244431739 104)
def ze9:St→St:=yM 0 (bl 17332218360087486649115607072 104) (bl 18380933703309326321702196467067 104)
def zil(D:Bool)(E z:Ls)(A C:Int)(F:List V):St:=⟨(jn 1 ((V.sc (.bool D))::((V.ptr 2 0)::(jn 2 ((V.gs 1 E)::(jn 19 ((V.sl 35 z)::((Qe A)::((Qe C)::(jn 76 [])))))))))),(gn 2 ((.live true F)::(gn 101 [])))⟩
def zn8(z:Bool)(A:Ls)(C:List V):St:=⟨(jn 1 ((V.sc (.bool z))::((V.ptr 2 0)::(jn 2 ((V.gs 1 A)::(jn 98 [])))))),(gn 2 ((.live true C)::(gn 101 [])))⟩
def zgN(D:Bool)(E z:Ls)(A C:Int)(F:List V):St:=⟨(jn 1 ((V.sc (.bool D))::((V.ptr 2 0)::(jn 2 ((V.gs 1 E)::(jn 44 ((V.sl 2 z)::((Qe A)::((Qe C)::(jn 51 [])))))))))),(gn 2 ((.live true F)::(gn 101 [])))⟩
def zoe(z:Bool)(A:Ls)(C:List V):St:=⟨(jn 1 ((V.sc (.bool z))::((V.ptr 2 0)::(jn 2 ((V.gs 1 A)::(jn 98 [])))))),(gn 2 ((.live true C)::(gn 101 [])))⟩
def zcg(D z:Ls)(A C:Int):St:=⟨(jn 5 ((V.gs 1 D)::(jn 71 ((V.sl 35 z)::((Qe A)::((Qe C)::(jn 24 []))))))),(gn 104 [])⟩
def zck(G z:Ls)(A C:Int)(D:Ls)(E F:Int):St:=⟨(jn 5 ((V.gs 1 G)::(jn 71 ((V.sl 35 z)::((Qe A)::((Qe C)::(jn 11 ((V.sl 1 D)::((Qe E)::((Qe F)::(jn 10 []))))))))))),(gn 104 [])⟩
def zoa(z:Ls):St:=⟨(jn 5 ((V.gs 1 z)::(jn 98 []))),(gn 104 [])⟩
def zuG(D z:Ls)(A C:Int):St:=⟨(jn 5 ((V.gs 1 D)::(jn 71 ((V.sl 35 z)::((Qe A)::((Qe C)::(jn 24 []))))))),(gn 104 [])⟩
abbrev zy8(β:Type):Type:=Bool→Ls→Ls→Int→Int→List V→Ob β
abbrev zwo(β:Type):Type:=Bool→Ls→Ls→Int→Int→List V→Ob β
abbrev zi1(β:Type):Type:=Ls→Ls→Int→Int→Ls→Int→Int→Ob β
def zIc{β:Type}(yb:xt)(za:zo)(yk:yW)(zd:yx)(xc:yw)(L:Nat)(A:List V)(F:Bool)(z:zy8 β):Ob β:=cI .u32 A 0 fun G=>yb β L ([]:Ls) G (fun C=>cLd 35 A 1 fun H=>lt (QG .u64 ((XK H:Nat):Int)) fun I=>za β L ([]:Ls) I (fun D=>chk ((XK C+XK D)*1≤xm∧XK C+XK D≤xm) (lt (C++D) fun J=>cLd 35 A 1 fun E=>z F J E ((XK E:Nat):Int) (0:Int) A)))
theorem zXu{β:Type}(yb:xt)(za:zo)(yk:yW)(zd:yx)(xc:yw)(L:Nat)(A:List V)(z:Bool)(k:KK β):zh xZ (y4 yb za yk zd xc L) L cf_tx_encode [(V.agg A),(V.sc (.bool z))] [] k=zIc yb za yk zd xc L A z (fun z F C D E G=>zx (ze xZ (y4 yb za yk zd xc L) 0 L zo0) zri L (zil z F C D E G) (xi 0 (yv (ze xZ (y4 yb za yk zd xc L) 0 L zwr) (zD 0 (CF.res cf_tx_encode) k)))):=by kernel_rfl
def zq4{β:Type}(yb:xt)(za:zo)(yk:yW)(zd:yx)(xc:yw)(L:Nat)(M:Bool)(E F:Ls)(G A:Int)(N:List V)(z:zy8 β)(H:Bool→Ls→List V→Ob β):Ob β:=ifb (decide (A<G)) (idx F A fun O=>chk ((XK (XL 35 O))=35∧0+35≤35) (lt (zk (We 32 (Qa (0:Int))++[(Qc (0:Int)),(Qc (0:Int)),(V.gs 1 ([]:Ls))]) 0 (XL 35 O)) fun I=>chk (0+33≤(XK I)) (yk β L (XL 33 I) (fun J=>chk ((XK E+XK J)*1≤xm∧XK E+XK J≤xm) (lt (E++J) fun C=>cI .u32 I 33 fun P=>yb β L ([]:Ls) P (fun D=>chk ((XK C+XK D)*1≤xm∧XK C+XK D≤xm) (lt (C++D) fun Q=>lt (QG .i64 ((A:Int)+(1:Int))) fun R=>z M Q F G R N))))))) (H M E N)
theorem zMf{β:Type}(yb:xt)(za:zo)(yk:yW)(zd:yx)(xc:yw)(L:Nat)(D:Bool)(E z:Ls)(A C:Int)(F:List V)(X:St→Ob β)(K:KT β):ze xZ (y4 yb za yk zd xc L) 0 L zo0 (zil D E z A C F) (yH zri X K)=zq4 yb za yk zd xc L D E z A C F (fun D E z A C F=>X (zil D E z A C F)) (fun D E F=>K (.exit 0) (zn8 D E F)):=by kernel_rfl
def znO{β:Type}(yb:xt)(za:zo)(yk:yW)(zd:yx)(xc:yw)(L:Nat)(I:Bool)(D:Ls)(E:List V)(z:zwo β):Ob β:=cLd 2 E 2 fun F=>lt (QG .u64 ((XK F:Nat):Int)) fun G=>za β L ([]:Ls) G (fun A=>chk ((XK D+XK A)*1≤xm∧XK D+XK A≤xm) (lt (D++A) fun H=>cLd 2 E 2 fun C=>z I H C ((XK C:Nat):Int) (0:Int) E))
theorem zH0{β:Type}(yb:xt)(za:zo)(yk:yW)(zd:yx)(xc:yw)(L:Nat)(z:Bool)(A:Ls)(C:List V)(k:KK β):(xi 0 (yv (ze xZ (y4 yb za yk zd xc L) 0 L zwr) (zD 0 (CF.res cf_tx_encode) k))) (.exit 0) (zn8 z A C)=znO yb za yk zd xc L z A C (fun z A D E F C=>zx (ze xZ (y4 yb za yk zd xc L) 0 L zmP) znM L (zgN z A D E F C) (xi 2 (yv (ze xZ (y4 yb za yk zd xc L) 0 L zqC) (zD 0 (CF.res cf_tx_encode) k)))):=by kernel_rfl
def znU{β:Type}(yb:xt)(za:zo)(yk:yW)(zd:yx)(xc:yw)(L:Nat)(N:Bool)(F G:Ls)(H A:Int)(O:List V)(z:zwo β)(M:Bool→Ls→List V→Ob β):Ob β:=ifb (decide (A<H)) (idx G A fun I=>chk ((XK (XL 2 I))=2∧0+2≤2) (lt (zk [(Qe (0:Int)),(V.gs 1 ([]:Ls))] 0 (XL 2 I)) fun J=>cI .i64 J 0 fun P=>lt (QG .u64 P) fun Q=>zd β L ([]:Ls) Q (fun C=>chk ((XK F+XK C)*1≤xm∧XK F+XK C≤xm) (lt (F++C) fun D=>cLd 1 J 1 fun R=>xc β L ([]:Ls) R (fun E=>chk ((XK D+XK E)*1≤xm∧XK D+XK E≤xm) (lt (D++E) fun S=>lt (QG .i64 ((A:Int)+(1:Int))) fun T=>z N S G H T O)))))) (M N F O)
theorem zIq{β:Type}(yb:xt)(za:zo)(yk:yW)(zd:yx)(xc:yw)(L:Nat)(D:Bool)(E z:Ls)(A C:Int)(F:List V)(X:St→Ob β)(K:KT β):ze xZ (y4 yb za yk zd xc L) 0 L zmP (zgN D E z A C F) (yH znM X K)=znU yb za yk zd xc L D E z A C F (fun D E z A C F=>X (zgN D E z A C F)) (fun D E F=>K (.exit 2) (zoe D E F)):=by kernel_rfl
def zkY{β:Type}(yb:xt)(za:zo)(yk:yW)(zd:yx)(xc:yw)(L:Nat)(I:Bool)(F:Ls)(G:List V)(C:Ls→Ob β)(z:Ls→Ls→Int→Int→Ob β):Ob β:=cI .u32 G 3 fun H=>yb β L ([]:Ls) H (fun A=>chk ((XK F+XK A)*1≤xm∧XK F+XK A≤xm) (lt (F++A) fun D=>ifb (!I) (C D) (cLd 35 G 1 fun E=>z D E ((XK E:Nat):Int) (0:Int))))
theorem zDW{β:Type}(yb:xt)(za:zo)(yk:yW)(zd:yx)(xc:yw)(L:Nat)(A:Bool)(z:Ls)(C:List V)(k:KK β):(xi 2 (yv (ze xZ (y4 yb za yk zd xc L) 0 L zqC) (zD 0 (CF.res cf_tx_encode) k))) (.exit 2) (zoe A z C)=zkY yb za yk zd xc L A z C (fun G=>k (V.gs 1 G) []) (fun z D E F=>zx (ze xZ (y4 yb za yk zd xc L) 0 L zf2) zcS L (zcg z D E F) (xi 4 (yv (ze xZ (y4 yb za yk zd xc L) 0 L zus) (zD 0 (CF.res cf_tx_encode) k)))):=by kernel_rfl
def zkm{β:Type}(yb:xt)(za:zo)(yk:yW)(zd:yx)(xc:yw)(L:Nat)(D E:Ls)(F A:Int)(z:zi1 β)(J:Ls→Ob β):Ob β:=ifb (decide (A<F)) (idx E A fun G=>chk ((XK (XL 35 G))=35∧0+35≤35) (lt (zk (We 32 (Qa (0:Int))++[(Qc (0:Int)),(Qc (0:Int)),(V.gs 1 ([]:Ls))]) 0 (XL 35 G)) fun H=>cLd 1 H 34 fun M=>lt (QG .u64 ((XK M:Nat):Int)) fun N=>za β L ([]:Ls) N (fun C=>chk ((XK D+XK C)*1≤xm∧XK D+XK C≤xm) (lt (D++C) fun O=>cLd 1 H 34 fun I=>z O E F A I ((XK I:Nat):Int) (0:Int))))) (J D)
theorem zCp{β:Type}(yb:xt)(za:zo)(yk:yW)(zd:yx)(xc:yw)(L:Nat)(D z:Ls)(A C:Int)(X:St→Ob β)(K:KT β):ze xZ (y4 yb za yk zd xc L) 0 L zf2 (zcg D z A C) (yH zcS X K)=zkm yb za yk zd xc L D z A C (fun D z A C E F G=>zx (ze xZ (y4 yb za yk zd xc L) 0 L zeO) ze9 L (zck D z A C E F G) (xi 6 (xi 5 (yv (ze xZ (y4 yb za yk zd xc L) 0 L zm0) (yH zcS X K))))) (fun D=>K (.exit 4) (zoa D)):=by kernel_rfl
def ziY{β:Type}(yb:xt)(za:zo)(yk:yW)(zd:yx)(xc:yw)(L:Nat)(A:Ls)(z:Ls→Ob β):Ob β:=z A
theorem zyQ{β:Type}(yb:xt)(za:zo)(yk:yW)(zd:yx)(xc:yw)(L:Nat)(z:Ls)(k:KK β):(xi 4 (yv (ze xZ (y4 yb za yk zd xc L) 0 L zus) (zD 0 (CF.res cf_tx_encode) k))) (.exit 4) (zoa z)=ziY yb za yk zd xc L z (fun A=>k (V.gs 1 A) []):=by kernel_rfl
def ze8{β:Type}(yb:xt)(za:zo)(yk:yW)(zd:yx)(xc:yw)(L:Nat)(D E:Ls)(F G:Int)(H:Ls)(I A:Int)(z:zi1 β)(J:Ls→Ls→Int→Int→Ob β):Ob β:=ifb (decide (A<I)) (idx H A fun M=>cL 1 M 0 fun N=>xc β L ([]:Ls) N (fun C=>chk ((XK D+XK C)*1≤xm∧XK D+XK C≤xm) (lt (D++C) fun O=>lt (QG .i64 ((A:Int)+(1:Int))) fun P=>z O E F G H I P))) (J D E F G)
theorem zrg{β:Type}(yb:xt)(za:zo)(yk:yW)(zd:yx)(xc:yw)(L:Nat)(G z:Ls)(A C:Int)(D:Ls)(E F:Int)(X:St→Ob β)(K:KT β):ze xZ (y4 yb za yk zd xc L) 0 L zeO (zck G z A C D E F) (yH ze9 X K)=ze8 yb za yk zd xc L G z A C D E F (fun G z A C D E F=>X (zck G z A C D E F)) (fun G z A C=>K (.exit 6) (zuG G z A C)):=by kernel_rfl
def zew{β:Type}(yb:xt)(za:zo)(yk:yW)(zd:yx)(xc:yw)(L:Nat)(F A:Ls)(C D:Int)(z:Ls→Ls→Int→Int→Ob β):Ob β:=lt (QG .i64 ((D:Int)+(1:Int))) fun E=>z F A C E
theorem zpR{β:Type}(yb:xt)(za:zo)(yk:yW)(zd:yx)(xc:yw)(L:Nat)(D z:Ls)(A C:Int)(X:St→Ob β)(K:KT β):(xi 6 (xi 5 (yv (ze xZ (y4 yb za yk zd xc L) 0 L zm0) (yH zcS X K)))) (.exit 6) (zuG D z A C)=zew yb za yk zd xc L D z A C (fun D z A C=>X (zcg D z A C)):=by kernel_rfl
def zhV{β:Type}(yb:xt)(za:zo)(yk:yW)(zd:yx)(xc:yw)(L:Nat)(z:Bool→Ls→List V→Ob β):Nat→Bool→Ls→Ls→Int→Int→List V→Ob β
 | 0,_,_,_,_,_,_=>none
 | n+1,E,F,A,C,D,G=>zq4 yb za yk zd xc L E F A C D G (fun E F A C D G=>zhV yb za yk zd xc L z n E F A C D G) z
theorem zu4{β:Type}(yb:xt)(za:zo)(yk:yW)(zd:yx)(xc:yw)(L:Nat)(K:KT β):∀ (n:Nat) (z:Bool) (A D:Ls) (E F:Int) (C:List V),zx (ze xZ (y4 yb za yk zd xc L) 0 L zo0) zri n (zil z A D E F C) K=zhV yb za yk zd xc L (fun z A C=>K (.exit 0) (zn8 z A C)) n z A D E F C:=by
 intro n; induction n <;> intros
 ·rfl
 ·exact (zMf ..).trans (by simp only [*]; rfl)
def zgc{β:Type}(yb:xt)(za:zo)(yk:yW)(zd:yx)(xc:yw)(L:Nat)(z:Bool→Ls→List V→Ob β):Nat→Bool→Ls→Ls→Int→Int→List V→Ob β
 | 0,_,_,_,_,_,_=>none
 | n+1,E,F,A,C,D,G=>znU yb za yk zd xc L E F A C D G (fun E F A C D G=>zgc yb za yk zd xc L z n E F A C D G) z
theorem zr0{β:Type}(yb:xt)(za:zo)(yk:yW)(zd:yx)(xc:yw)(L:Nat)(K:KT β):∀ (n:Nat) (z:Bool) (A D:Ls) (E F:Int) (C:List V),zx (ze xZ (y4 yb za yk zd xc L) 0 L zmP) znM n (zgN z A D E F C) K=zgc yb za yk zd xc L (fun z A C=>K (.exit 2) (zoe z A C)) n z A D E F C:=by
 intro n; induction n <;> intros
 ·rfl
 ·exact (zIq ..).trans (by simp only [*]; rfl)
def zbY{β:Type}(yb:xt)(za:zo)(yk:yW)(zd:yx)(xc:yw)(L:Nat)(z:Ls→Ls→Int→Int→Ob β):Nat→Ls→Ls→Int→Int→Ls→Int→Int→Ob β
 | 0,_,_,_,_,_,_,_=>none
 | n+1,H,A,C,D,E,F,G=>ze8 yb za yk zd xc L H A C D E F G (fun H A C D E F G=>zbY yb za yk zd xc L z n H A C D E F G) z
theorem zhF{β:Type}(yb:xt)(za:zo)(yk:yW)(zd:yx)(xc:yw)(L:Nat)(K:KT β):∀ (n:Nat) (D z:Ls) (A C:Int) (E:Ls) (F G:Int),zx (ze xZ (y4 yb za yk zd xc L) 0 L zeO) ze9 n (zck D z A C E F G) K=zbY yb za yk zd xc L (fun D z A C=>K (.exit 6) (zuG D z A C)) n D z A C E F G:=by
 intro n; induction n <;> intros
 ·rfl
 ·exact (zrg ..).trans (by simp only [*]; rfl)
def zf8{β:Type}(yb:xt)(za:zo)(yk:yW)(zd:yx)(xc:yw)(L:Nat)(E A:Ls)(C D:Int)(F:Ls→Ob β)(z:Ls→Ls→Int→Int→Ob β):Ob β:=zkm yb za yk zd xc L E A C D (fun E A C D G H I=>zbY yb za yk zd xc L (fun E A C D=>zew yb za yk zd xc L E A C D z) L E A C D G H I) F
theorem zz1{β:Type}(yb:xt)(za:zo)(yk:yW)(zd:yx)(xc:yw)(L:Nat)(D z:Ls)(A C:Int)(X:St→Ob β)(K:KT β):ze xZ (y4 yb za yk zd xc L) 0 L zf2 (zcg D z A C) (yH zcS X K)=zf8 yb za yk zd xc L D z A C (fun D=>K (.exit 4) (zoa D)) (fun D z A C=>X (zcg D z A C)):=by
 refine (zCp yb za yk zd xc L D z A C X K).trans ?_
 unfold zf8
 first
  | (simp only [zhF,zpR]; done)
  | (simp only [zhF]; rfl)
def zet{β:Type}(yb:xt)(za:zo)(yk:yW)(zd:yx)(xc:yw)(L:Nat)(z:Ls→Ob β):Nat→Ls→Ls→Int→Int→Ob β
 | 0,_,_,_,_=>none
 | n+1,E,A,C,D=>zf8 yb za yk zd xc L E A C D z (fun E A C D=>zet yb za yk zd xc L z n E A C D)
theorem zoq{β:Type}(yb:xt)(za:zo)(yk:yW)(zd:yx)(xc:yw)(L:Nat)(K:KT β):∀ (n:Nat) (z A:Ls) (C D:Int),zx (ze xZ (y4 yb za yk zd xc L) 0 L zf2) zcS n (zcg z A C D) K=zet yb za yk zd xc L (fun z=>K (.exit 4) (zoa z)) n z A C D:=by
 intro n; induction n <;> intros
 ·rfl
 ·exact (zz1 ..).trans (by simp only [*]; rfl)
def zgG{β:Type}(yb:xt)(za:zo)(yk:yW)(zd:yx)(xc:yw)(L:Nat)(F:Bool)(A:Ls)(G:List V)(z:Ls→Ob β):Ob β:=zkY yb za yk zd xc L F A G z (fun A C D E=>zet yb za yk zd xc L (fun A=>ziY yb za yk zd xc L A z) L A C D E)
theorem zCh{β:Type}(yb:xt)(za:zo)(yk:yW)(zd:yx)(xc:yw)(L:Nat)(z:Bool)(A:Ls)(C:List V)(k:KK β):(xi 2 (yv (ze xZ (y4 yb za yk zd xc L) 0 L zqC) (zD 0 (CF.res cf_tx_encode) k))) (.exit 2) (zoe z A C)=zgG yb za yk zd xc L z A C (fun D=>k (V.gs 1 D) []):=by
 refine (zDW yb za yk zd xc L z A C k).trans ?_
 unfold zgG
 first
  | (simp only [zoq,zyQ]; done)
  | (simp only [zoq]; rfl)
def zia{β:Type}(yb:xt)(za:zo)(yk:yW)(zd:yx)(xc:yw)(L:Nat)(z:Bool)(A:Ls)(C:List V)(D:Ls→Ob β):Ob β:=znO yb za yk zd xc L z A C (fun z A E F G C=>zgc yb za yk zd xc L (fun z A C=>zgG yb za yk zd xc L z A C D) L z A E F G C)
theorem zFG{β:Type}(yb:xt)(za:zo)(yk:yW)(zd:yx)(xc:yw)(L:Nat)(z:Bool)(A:Ls)(C:List V)(k:KK β):(xi 0 (yv (ze xZ (y4 yb za yk zd xc L) 0 L zwr) (zD 0 (CF.res cf_tx_encode) k))) (.exit 0) (zn8 z A C)=zia yb za yk zd xc L z A C (fun D=>k (V.gs 1 D) []):=by
 refine (zH0 yb za yk zd xc L z A C k).trans ?_
 unfold zia
 first
  | (simp only [zr0,zCh]; done)
  | (simp only [zr0]; rfl)
def zyx{β:Type}(yb:xt)(za:zo)(yk:yW)(zd:yx)(xc:yw)(L:Nat)(H:List V)(z:Bool)(A:Ls→Ob β):Ob β:=zIc yb za yk zd xc L H z (fun z C E F G D=>zhV yb za yk zd xc L (fun z C D=>zia yb za yk zd xc L z C D A) L z C E F G D)
theorem zYo{β:Type}(yb:xt)(za:zo)(yk:yW)(zd:yx)(xc:yw)(L:Nat)(z:List V)(A:Bool)(k:KK β):zh xZ (y4 yb za yk zd xc L) L cf_tx_encode [(V.agg z),(V.sc (.bool A))] [] k=zyx yb za yk zd xc L z A (fun z=>k (V.gs 1 z) []):=by
 refine (zXu yb za yk zd xc L z A k).trans ?_
 unfold zyx
 first
  | (simp only [zu4,zFG]; done)
  | (simp only [zu4]; rfl)
abbrev zP:=∀ (β:Type),Nat→List V→Bool→(Ls→Ob β)→Ob β
def yi:zP:=fun β=>@zyx β yb za yk zd xc
def zyi(yi:zP)(L:Nat):Dk:=dA AG fun z=>dA AB fun A=>d0 fun β k=>yi β L z A (fun z=>k (V.gs 1 z) [])
theorem zX0(L:Nat):DK (zyi yi L) (fun _=>zh xZ (y4 yb za yk zd xc L) L cf_tx_encode):=xv zak fun z=>xv zUm fun A=>yK fun _ k=>zYo yb za yk zd xc L z A k
def zP8:Hint:=⟨[(0,0),(5,2),(11,2)],[],[none,none,none,some ((bl 7340034 63),(bl 9223372032559808427 63)),none,some ((bl 2 63),(bl 9223372032559808427 63)),none,none,some ((bl 4 63),(bl 9223372032559808429 63)),none,some ((bl 962072674306 63),(bl 9186745105510301355 63)),none,some ((bl 2 63),(bl 9186745105510301355 63)),none,none,some ((bl 4 63),(bl 9186745105510301357 63)),none,some ((bl 1971286909648898 63),(bl 9187343239835811499 63)),none,some ((bl 962072674306 63),(bl 9187343239835811499 63)),none,none,some ((bl 4 63),(bl 9186745105510301357 63)),none],[],[],false,false,[]⟩
def cf_tx_fits:CF:=cfD zP8 77
def zhW:CC:=xz [1,1,1,0,1,0,0,1,1,0,0,1,1,1,0,0] cf_tx_fits.body
def znI:CC:=xz [1,1,1,0,1,0,0,1,1,1] cf_tx_fits.body
def zmr:CC:=xz [1,1,1,0,1,0,0] cf_tx_fits.body
def zu6:CC:=xz [1,1,0,1,0,0] cf_tx_fits.body
def zAT:CC:=xz [1,1,1,1] cf_tx_fits.body
def zuD:CC:=xz [1,1,1] cf_tx_fits.body
def zaP:Nat→Sh:=zj [(10,(.sl 35)),(15,(.sl 2)),(20,(.sl 2)),(27,(.int .i64)),(31,(.sl 1)),(37,(.sl 35)),(44,(.sl 1)),(48,(.sl 1)),(53,(.sl 1))]
def zaQ(yi:zP)(L:Nat):CBC:=(xe 147 (zyi yi L) noC)
def zxW:St→St:=yM 0 (bl 7340034 63) (bl 9223372032559808427 63)
def zfm:St→St:=yM 0 (bl 962072674306 63) (bl 9186745105510301355 63)
def ziT:St→St:=yM 0 (bl 1971286909648898 63) (bl 9187343239835811499 63)
def zkP(z:Ls)(A C:Int)(D:List V):St:=⟨(jn 1 ((V.ptr 1 0)::(jn 18 ((V.sl 2 z)::((Qe A)::((Qe C)::(jn 40 []))))))),(gn 1 ((.live true D)::(gn 61 [])))⟩
def zct(z:Bool):St:=⟨(jn 2 ((V.sc (.bool z))::(jn 60 []))),(gn 63 [])⟩
def zst(z:List V):St:=⟨(jn 1 ((V.ptr 1 0)::(jn 61 []))),(gn 1 ((.live true z)::(gn 61 [])))⟩
def zeZ(z:Ls)(A C:Int)(D:List V):St:=⟨(jn 1 ((V.ptr 1 0)::(jn 35 ((V.sl 35 z)::((Qe A)::((Qe C)::(jn 23 []))))))),(gn 1 ((.live true D)::(gn 61 [])))⟩
def zeg(z:Ls)(A C:Int)(D:Ls)(E F:Int)(G:List V):St:=⟨(jn 1 ((V.ptr 1 0)::(jn 35 ((V.sl 35 z)::((Qe A)::((Qe C)::(jn 8 ((V.sl 1 D)::((Qe E)::((Qe F)::(jn 12 []))))))))))),(gn 1 ((.live true G)::(gn 61 [])))⟩
def zsp(z:List V):St:=⟨(jn 1 ((V.ptr 1 0)::(jn 61 []))),(gn 1 ((.live true z)::(gn 61 [])))⟩
def zz7(z:Ls)(A C:Int)(D:List V):St:=⟨(jn 1 ((V.ptr 1 0)::(jn 35 ((V.sl 35 z)::((Qe A)::((Qe C)::(jn 23 []))))))),(gn 1 ((.live true D)::(gn 61 [])))⟩
abbrev zoc(β:Type):Type:=Ls→Int→Int→Ls→Int→Int→List V→Ob β
def zOU{β:Type}(yi:zP)(L:Nat)(C:List V)(A:Bool→Ob β)(z:Ls→Int→Int→List V→Ob β):Ob β:=cLd 35 C 1 fun E=>ifb (decide (((XK E:Nat):Int)>(64:Int))) (A false) (cLd 2 C 2 fun F=>ifb (decide (((XK F:Nat):Int)>(64:Int))) (A false) (cLd 2 C 2 fun D=>z D ((XK D:Nat):Int) (0:Int) C))
theorem z29{β:Type}(yi:zP)(L:Nat)(z:List V)(k:KK β):zh zaP (zaQ yi L) L cf_tx_fits [(V.agg z)] [] k=zOU yi L z (fun z=>k (V.sc (.bool z)) []) (fun A C D E=>zx (ze zaP (zaQ yi L) 0 L zu6) zxW L (zkP A C D E) (xi 0 (yv (ze zaP (zaQ yi L) 0 L zuD) (zD 0 (CF.res cf_tx_fits) k)))):=by kernel_rfl
def zxb{β:Type}(yi:zP)(L:Nat)(D:Ls)(E C:Int)(G:List V)(A:Bool→Ob β)(z:Ls→Int→Int→List V→Ob β)(F:List V→Ob β):Ob β:=ifb (decide (C<E)) (idx D C fun H=>chk ((XK (XL 2 H))=2∧0+2≤2) (lt (zk [(Qe (0:Int)),(V.gs 1 ([]:Ls))] 0 (XL 2 H)) fun I=>cI .i64 I 0 fun J=>ifb (decide (J<(0:Int))) (A false) (cLd 1 I 1 fun M=>ifb (decide (((XK M:Nat):Int)>(520:Int))) (A false) (lt (QG .i64 ((C:Int)+(1:Int))) fun N=>z D E N G)))) (F G)
theorem zRU{β:Type}(yi:zP)(L:Nat)(z:Ls)(A C:Int)(D:List V)(X:St→Ob β)(K:KT β):ze zaP (zaQ yi L) 0 L zu6 (zkP z A C D) (yH zxW X K)=zxb yi L z A C D (fun E=>K .ret (zct E)) (fun z A C D=>X (zkP z A C D)) (fun D=>K (.exit 0) (zst D)):=by kernel_rfl
def zq2{β:Type}(yi:zP)(L:Nat)(A:Bool)(z:Bool→Ob β):Ob β:=z A
theorem zLZ{β:Type}(yi:zP)(L:Nat)(z:Bool)(k:KK β):(xi 0 (yv (ze zaP (zaQ yi L) 0 L zuD) (zD 0 (CF.res cf_tx_fits) k))) .ret (zct z)=zq2 yi L z (fun A=>k (V.sc (.bool A)) []):=by kernel_rfl
def zs4{β:Type}(yi:zP)(L:Nat)(A:List V)(z:Ls→Int→Int→List V→Ob β):Ob β:=cLd 35 A 1 fun C=>z C ((XK C:Nat):Int) (0:Int) A
theorem zOd{β:Type}(yi:zP)(L:Nat)(z:List V)(k:KK β):(xi 0 (yv (ze zaP (zaQ yi L) 0 L zuD) (zD 0 (CF.res cf_tx_fits) k))) (.exit 0) (zst z)=zs4 yi L z (fun A C D z=>zx (ze zaP (zaQ yi L) 0 L zmr) zfm L (zeZ A C D z) (xi 2 (yv (ze zaP (zaQ yi L) 0 L zAT) (zD 0 (CF.res cf_tx_fits) k)))):=by kernel_rfl
def zup{β:Type}(yi:zP)(L:Nat)(D:Ls)(E A:Int)(I:List V)(C:Bool→Ob β)(z:zoc β)(H:List V→Ob β):Ob β:=ifb (decide (A<E)) (idx D A fun J=>chk ((XK (XL 35 J))=35∧0+35≤35) (lt (zk (We 32 (Qa (0:Int))++[(Qc (0:Int)),(Qc (0:Int)),(V.gs 1 ([]:Ls))]) 0 (XL 35 J)) fun F=>cLd 1 F 34 fun M=>ifb (decide (((XK M:Nat):Int)>(32:Int))) (C false) (cLd 1 F 34 fun G=>z D E A G ((XK G:Nat):Int) (0:Int) I))) (H I)
theorem zPv{β:Type}(yi:zP)(L:Nat)(z:Ls)(A C:Int)(D:List V)(X:St→Ob β)(K:KT β):ze zaP (zaQ yi L) 0 L zmr (zeZ z A C D) (yH zfm X K)=zup yi L z A C D (fun H=>K .ret (zct H)) (fun z A C E F G D=>zx (ze zaP (zaQ yi L) 0 L zhW) ziT L (zeg z A C E F G D) (xi 4 (xi 3 (yv (ze zaP (zaQ yi L) 0 L znI) (yH zfm X K))))) (fun D=>K (.exit 2) (zsp D)):=by kernel_rfl
def zoT{β:Type}(yi:zP)(L:Nat)(A:Bool)(z:Bool→Ob β):Ob β:=z A
theorem zKc{β:Type}(yi:zP)(L:Nat)(z:Bool)(k:KK β):(xi 2 (yv (ze zaP (zaQ yi L) 0 L zAT) (zD 0 (CF.res cf_tx_fits) k))) .ret (zct z)=zoT yi L z (fun A=>k (V.sc (.bool A)) []):=by kernel_rfl
def zqU{β:Type}(yi:zP)(L:Nat)(A:List V)(z:Bool→Ob β):Ob β:=chk (0+4≤(XK A)) (yi β L (Xv V.dem (XL 4 A)) true (fun C=>z (decide (((XK C:Nat):Int)≤(20000:Int)))))
theorem zLL{β:Type}(yi:zP)(L:Nat)(z:List V)(k:KK β):(xi 2 (yv (ze zaP (zaQ yi L) 0 L zAT) (zD 0 (CF.res cf_tx_fits) k))) (.exit 2) (zsp z)=zqU yi L z (fun A=>k (V.sc (.bool A)) []):=by kernel_rfl
def ziN{β:Type}(yi:zP)(L:Nat)(D:Ls)(E F:Int)(G:Ls)(H A:Int)(J:List V)(C:Bool→Ob β)(z:zoc β)(I:Ls→Int→Int→List V→Ob β):Ob β:=ifb (decide (A<H)) (idx G A fun M=>cL 1 M 0 fun N=>ifb (decide (((XK N:Nat):Int)>(520:Int))) (C false) (lt (QG .i64 ((A:Int)+(1:Int))) fun O=>z D E F G H O J)) (I D E F J)
theorem zyG{β:Type}(yi:zP)(L:Nat)(z:Ls)(A C:Int)(D:Ls)(E F:Int)(G:List V)(X:St→Ob β)(K:KT β):ze zaP (zaQ yi L) 0 L zhW (zeg z A C D E F G) (yH ziT X K)=ziN yi L z A C D E F G (fun H=>K .ret (zct H)) (fun z A C D E F G=>X (zeg z A C D E F G)) (fun z A C G=>K (.exit 4) (zz7 z A C G)):=by kernel_rfl
def zg0{β:Type}(yi:zP)(L:Nat)(A:Bool)(z:Bool→Ob β):Ob β:=z A
theorem zvo{β:Type}(yi:zP)(L:Nat)(z:Bool)(X:St→Ob β)(K:KT β):(xi 4 (xi 3 (yv (ze zaP (zaQ yi L) 0 L znI) (yH zfm X K)))) .ret (zct z)=zg0 yi L z (fun z=>K .ret (zct z)):=by kernel_rfl
def zhx{β:Type}(yi:zP)(L:Nat)(A:Ls)(C D:Int)(F:List V)(z:Ls→Int→Int→List V→Ob β):Ob β:=lt (QG .i64 ((D:Int)+(1:Int))) fun E=>z A C E F
theorem zwx{β:Type}(yi:zP)(L:Nat)(z:Ls)(A C:Int)(D:List V)(X:St→Ob β)(K:KT β):(xi 4 (xi 3 (yv (ze zaP (zaQ yi L) 0 L znI) (yH zfm X K)))) (.exit 4) (zz7 z A C D)=zhx yi L z A C D (fun z A C D=>X (zeZ z A C D)):=by kernel_rfl
def zlx{β:Type}(yi:zP)(L:Nat)(z:Bool→Ob β)(A:List V→Ob β):Nat→Ls→Int→Int→List V→Ob β
 | 0,_,_,_,_=>none
 | n+1,C,D,E,F=>zxb yi L C D E F z (fun C D E F=>zlx yi L z A n C D E F) A
theorem zBc{β:Type}(yi:zP)(L:Nat)(K:KT β):∀ (n:Nat) (A:Ls) (C D:Int) (z:List V),zx (ze zaP (zaQ yi L) 0 L zu6) zxW n (zkP A C D z) K=zlx yi L (fun E=>K .ret (zct E)) (fun z=>K (.exit 0) (zst z)) n A C D z:=by
 intro n; induction n <;> intros
 ·rfl
 ·exact (zRU ..).trans (by simp only [*]; rfl)
def zdE{β:Type}(yi:zP)(L:Nat)(z:Bool→Ob β)(A:Ls→Int→Int→List V→Ob β):Nat→Ls→Int→Int→Ls→Int→Int→List V→Ob β
 | 0,_,_,_,_,_,_,_=>none
 | n+1,C,D,E,F,G,H,I=>ziN yi L C D E F G H I z (fun C D E F G H I=>zdE yi L z A n C D E F G H I) A
theorem zlY{β:Type}(yi:zP)(L:Nat)(K:KT β):∀ (n:Nat) (z:Ls) (A C:Int) (E:Ls) (F G:Int) (D:List V),zx (ze zaP (zaQ yi L) 0 L zhW) ziT n (zeg z A C E F G D) K=zdE yi L (fun H=>K .ret (zct H)) (fun z A C D=>K (.exit 4) (zz7 z A C D)) n z A C E F G D:=by
 intro n; induction n <;> intros
 ·rfl
 ·exact (zyG ..).trans (by simp only [*]; rfl)
def zl0{β:Type}(yi:zP)(L:Nat)(z:Ls)(A C:Int)(F:List V)(E:Bool→Ob β)(G:List V→Ob β)(D:Ls→Int→Int→List V→Ob β):Ob β:=zup yi L z A C F E (fun z A C H I J F=>zdE yi L (fun M=>zg0 yi L M E) (fun z A C F=>zhx yi L z A C F D) L z A C H I J F) G
theorem zOi{β:Type}(yi:zP)(L:Nat)(z:Ls)(A C:Int)(D:List V)(X:St→Ob β)(K:KT β):ze zaP (zaQ yi L) 0 L zmr (zeZ z A C D) (yH zfm X K)=zl0 yi L z A C D (fun E=>K .ret (zct E)) (fun D=>K (.exit 2) (zsp D)) (fun z A C D=>X (zeZ z A C D)):=by
 refine (zPv yi L z A C D X K).trans ?_
 unfold zl0
 first
  | (simp only [zlY,zvo,zwx]; done)
  | (simp only [zlY]; rfl)
def zjP{β:Type}(yi:zP)(L:Nat)(z:Bool→Ob β)(A:List V→Ob β):Nat→Ls→Int→Int→List V→Ob β
 | 0,_,_,_,_=>none
 | n+1,C,D,E,F=>zl0 yi L C D E F z A (fun C D E F=>zjP yi L z A n C D E F)
theorem zzG{β:Type}(yi:zP)(L:Nat)(K:KT β):∀ (n:Nat) (A:Ls) (C D:Int) (z:List V),zx (ze zaP (zaQ yi L) 0 L zmr) zfm n (zeZ A C D z) K=zjP yi L (fun E=>K .ret (zct E)) (fun z=>K (.exit 2) (zsp z)) n A C D z:=by
 intro n; induction n <;> intros
 ·rfl
 ·exact (zOi ..).trans (by simp only [*]; rfl)
def zkR{β:Type}(yi:zP)(L:Nat)(A:List V)(z:Bool→Ob β):Ob β:=zs4 yi L A (fun C D E A=>zjP yi L (fun F=>zoT yi L F z) (fun A=>zqU yi L A z) L C D E A)
theorem zMF{β:Type}(yi:zP)(L:Nat)(z:List V)(k:KK β):(xi 0 (yv (ze zaP (zaQ yi L) 0 L zuD) (zD 0 (CF.res cf_tx_fits) k))) (.exit 0) (zst z)=zkR yi L z (fun A=>k (V.sc (.bool A)) []):=by
 refine (zOd yi L z k).trans ?_
 unfold zkR
 first
  | (simp only [zzG,zKc,zLL]; done)
  | (simp only [zzG]; rfl)
def zFR{β:Type}(yi:zP)(L:Nat)(F:List V)(z:Bool→Ob β):Ob β:=zOU yi L F z (fun C D E A=>zlx yi L (fun G=>zq2 yi L G z) (fun A=>zkR yi L A z) L C D E A)
theorem z2P{β:Type}(yi:zP)(L:Nat)(z:List V)(k:KK β):zh zaP (zaQ yi L) L cf_tx_fits [(V.agg z)] [] k=zFR yi L z (fun z=>k (V.sc (.bool z)) []):=by
 refine (z29 yi L z k).trans ?_
 unfold zFR
 first
  | (simp only [zBc,zLZ,zMF]; done)
  | (simp only [zBc]; rfl)
abbrev zcj:=∀ (β:Type),Nat→List V→(Bool→Ob β)→Ob β
def zJ:zcj:=fun β=>@zFR β yi
def zGA(zJ:zcj)(L:Nat):Dk:=dA AG fun z=>d0 fun β k=>zJ β L z (fun z=>k (V.sc (.bool z)) [])
theorem z1B(L:Nat):DK (zGA zJ L) (fun _=>zh zaP (zaQ yi L) L cf_tx_fits):=xv zak fun z=>yK fun _ k=>z2P yi L z k
def zKF:Hint:=⟨[(0,0),(0,1),(2,0),(3,3)],[],[none,none,none],[],[],false,false,[]⟩
def zOC:CF:=cfD zKF 37
def zDi:Nat→Sh:=zj []
def zD8(zJ:zcj)(yi:zP)(L:Nat):CBC:=(xe 147 (zyi yi L) (xe 146 (zGA zJ L) noC))
def zIW{β:Type}(zJ:zcj)(yi:zP)(L:Nat)(A:List V)(C:Bool)(z:Ls→Int→Ob β):Ob β:=chk (0+4≤(XK A)) (zJ β L (Xv V.dem (XL 4 A)) (fun D=>ifb (!D) (z ([]:Ls) (4:Int)) (chk (0+4≤(XK A)) (yi β L (Xv V.dem (XL 4 A)) C (fun E=>z E (0:Int))))))
theorem zXa{β:Type}(zJ:zcj)(yi:zP)(L:Nat)(C:List V)(D:Bool)(k:KK β):zh zDi (zD8 zJ yi L) L zOC [(V.agg C),(V.sc (.bool D))] [] k=zIW zJ yi L C D (fun z A=>k (V.tup [(V.gs 1 z),(Qe A)]) []):=by kernel_rfl
abbrev zbq:=∀ (β:Type),Nat→List V→Bool→(Ls→Int→Ob β)→Ob β
def yA:zbq:=fun β=>@zIW β zJ yi
def zrL(yA:zbq)(L:Nat):Dk:=dA AG fun C=>dA AB fun D=>d0 fun β k=>yA β L C D (fun z A=>k (V.tup [(V.gs 1 z),(Qe A)]) [])
theorem zYC(L:Nat):DK (zrL yA L) (fun _=>zh zDi (zD8 zJ yi L) L zOC):=xv zak fun z=>xv zUm fun A=>yK fun _ k=>zXa zJ yi L z A k
def zBk:Hint:=⟨[(0,0),(0,1),(2,0),(3,8),(6,2),(7,2),(7,3),(9,0),(10,0),(10,3),(13,0),(14,0),(14,1)],[],[none,none,none,some ((bl 29360144 43),(bl 8651137875505 43)),none,some ((bl 16 43),(bl 8651137875505 43)),none,none,some ((bl 12 43),(bl 8651137875501 43)),none,none,none],[],[],false,false,[]⟩
def cf_block_Encode:CF:=cfD zBk 13
def zld:CC:=xz [1,1,1,0,1,0,0] cf_block_Encode.body
def zpr:CC:=xz [1,1,1,1] cf_block_Encode.body
def zcy:Nat→Sh:=zj [(10,(.sl 4)),(17,(.sl 4)),(22,(.sl 4))]
def zcx(zg:zO)(za:zo)(yA:zbq)(L:Nat):CBC:=(xe 128 (zrL yA L) (xe 182 (zg7 za L) (xe 502 (zd0 zg L) noC)))
def zmJ:St→St:=yM 0 (bl 29360144 43) (bl 8651137875505 43)
def zf7(D z:Ls)(A C:Int):St:=⟨(jn 4 ((V.gs 1 D)::(jn 17 ((V.sl 4 z)::((Qe A)::((Qe C)::(jn 18 []))))))),(gn 43 [])⟩
def zny(z:Ls)(A:Int):St:=⟨(jn 2 ((V.gs 1 z)::((Qe A)::(jn 39 [])))),(gn 43 [])⟩
def zpg(z:Ls):St:=⟨(jn 4 ((V.gs 1 z)::(jn 38 []))),(gn 43 [])⟩
def zxX{β:Type}(zg:zO)(za:zo)(yA:zbq)(L:Nat)(A:List V)(C:Ls→Int→Ob β)(z:Ls→Ls→Int→Int→Ob β):Ob β:=cLd 4 A 68 fun E=>ifb (decide (((XK E:Nat):Int)>(256:Int))) (C ([]:Ls) (4:Int)) (chk (0+68≤(XK A)) (zg β L (XL 68 A) (fun F=>cLd 4 A 68 fun G=>lt (QG .u64 ((XK G:Nat):Int)) fun H=>za β L F H (fun I=>cLd 4 A 68 fun D=>z I D ((XK D:Nat):Int) (0:Int)))))
theorem zRG{β:Type}(zg:zO)(za:zo)(yA:zbq)(L:Nat)(C:List V)(k:KK β):zh zcy (zcx zg za yA L) L cf_block_Encode [(V.agg C)] [] k=zxX zg za yA L C (fun z A=>k (V.tup [(V.gs 1 z),(Qe A)]) []) (fun G D E F=>zx (ze zcy (zcx zg za yA L) 0 L zld) zmJ L (zf7 G D E F) (xi 0 (yv (ze zcy (zcx zg za yA L) 0 L zpr) (zD 0 (CF.res cf_block_Encode) k)))):=by kernel_rfl
def zmG{β:Type}(zg:zO)(za:zo)(yA:zbq)(L:Nat)(C E:Ls)(F A:Int)(D:Ls→Int→Ob β)(z:Ls→Ls→Int→Int→Ob β)(G:Ls→Ob β):Ob β:=ifb (decide (A<F)) (idx E A fun I=>chk ((XK (XL 4 I))=4∧0+4≤4) (lt (zk [(Qc (0:Int)),(V.gs 35 ([]:Ls)),(V.gs 2 ([]:Ls)),(Qc (0:Int))] 0 (XL 4 I)) fun J=>chk (0+4≤(XK J)) (yA β L (Xv V.dem (XL 4 J)) true (fun H O=>ifb ((O:Int) != (0:Int)) (D ([]:Ls) (4:Int)) (chk ((XK C+XK H)*1≤xm∧XK C+XK H≤xm) (lt (C++H) fun M=>lt (QG .i64 ((A:Int)+(1:Int))) fun N=>z M E F N)))))) (G C)
theorem zFy{β:Type}(zg:zO)(za:zo)(yA:zbq)(L:Nat)(D z:Ls)(A C:Int)(X:St→Ob β)(K:KT β):ze zcy (zcx zg za yA L) 0 L zld (zf7 D z A C) (yH zmJ X K)=zmG zg za yA L D z A C (fun E F=>K .ret (zny E F)) (fun D z A C=>X (zf7 D z A C)) (fun D=>K (.exit 0) (zpg D)):=by kernel_rfl
def zjk{β:Type}(zg:zO)(za:zo)(yA:zbq)(L:Nat)(A:Ls)(C:Int)(z:Ls→Int→Ob β):Ob β:=z A C
theorem zAf{β:Type}(zg:zO)(za:zo)(yA:zbq)(L:Nat)(C:Ls)(D:Int)(k:KK β):(xi 0 (yv (ze zcy (zcx zg za yA L) 0 L zpr) (zD 0 (CF.res cf_block_Encode) k))) .ret (zny C D)=zjk zg za yA L C D (fun z A=>k (V.tup [(V.gs 1 z),(Qe A)]) []):=by kernel_rfl
def zkD{β:Type}(zg:zO)(za:zo)(yA:zbq)(L:Nat)(A:Ls)(z:Ls→Int→Ob β):Ob β:=ifb (decide (((XK A:Nat):Int)>(100000:Int))) (z ([]:Ls) (4:Int)) (z A (0:Int))
theorem zB7{β:Type}(zg:zO)(za:zo)(yA:zbq)(L:Nat)(C:Ls)(k:KK β):(xi 0 (yv (ze zcy (zcx zg za yA L) 0 L zpr) (zD 0 (CF.res cf_block_Encode) k))) (.exit 0) (zpg C)=zkD zg za yA L C (fun z A=>k (V.tup [(V.gs 1 z),(Qe A)]) []):=by kernel_rfl
def zfC{β:Type}(zg:zO)(za:zo)(yA:zbq)(L:Nat)(z:Ls→Int→Ob β)(A:Ls→Ob β):Nat→Ls→Ls→Int→Int→Ob β
 | 0,_,_,_,_=>none
 | n+1,F,C,D,E=>zmG zg za yA L F C D E z (fun F C D E=>zfC zg za yA L z A n F C D E) A
theorem zqw{β:Type}(zg:zO)(za:zo)(yA:zbq)(L:Nat)(K:KT β):∀ (n:Nat) (z A:Ls) (C D:Int),zx (ze zcy (zcx zg za yA L) 0 L zld) zmJ n (zf7 z A C D) K=zfC zg za yA L (fun E F=>K .ret (zny E F)) (fun z=>K (.exit 0) (zpg z)) n z A C D:=by
 intro n; induction n <;> intros
 ·rfl
 ·exact (zFy ..).trans (by simp only [*]; rfl)
def zp6{β:Type}(zg:zO)(za:zo)(yA:zbq)(L:Nat)(F:List V)(z:Ls→Int→Ob β):Ob β:=zxX zg za yA L F z (fun A C D E=>zfC zg za yA L (fun G H=>zjk zg za yA L G H z) (fun A=>zkD zg za yA L A z) L A C D E)
theorem zRD{β:Type}(zg:zO)(za:zo)(yA:zbq)(L:Nat)(z:List V)(k:KK β):zh zcy (zcx zg za yA L) L cf_block_Encode [(V.agg z)] [] k=zp6 zg za yA L z (fun A C=>k (V.tup [(V.gs 1 A),(Qe C)]) []):=by
 refine (zRG zg za yA L z k).trans ?_
 unfold zp6
 first
  | (simp only [zqw,zAf,zB7]; done)
  | (simp only [zqw]; rfl)
abbrev zaL:=∀ (β:Type),Nat→List V→(Ls→Int→Ob β)→Ob β
def zB:zaL:=fun β=>@zp6 β zg za yA
def zls(zB:zaL)(L:Nat):Dk:=dA AG fun C=>d0 fun β k=>zB β L C (fun z A=>k (V.tup [(V.gs 1 z),(Qe A)]) [])
theorem zRt(L:Nat):DK (zls zB L) (fun _=>zh zcy (zcx zg za yA L) L cf_block_Encode):=xv zak fun z=>yK fun _ k=>zRD zg za yA L z k
def zOI:Hint:=⟨[],[],[none],[],[],false,false,[]⟩
def zUZ:CF:=cfD zOI 83
def zL2:Nat→Sh:=zj []
def zLX(L:Nat):CBC:=noC
def zYN{β:Type}(L:Nat)(A:List V)(z:Bool→Ob β):Ob β:=chk (0+33≤(XK A)) (eqC 33 (XL 33 A) (We 32 (Qa (0:Int))++[(Qc (4294967295:Int))]) fun C=>z C)
theorem z05{β:Type}(L:Nat)(z:List V)(k:KK β):zh zL2 (zLX L) L zUZ [(V.agg z)] [] k=zYN L z (fun z=>k (V.sc (.bool z)) []):=by kernel_rfl
abbrev zyO:=∀ (β:Type),Nat→List V→(Bool→Ob β)→Ob β
def zdz:zyO:=fun β=>@zYN β
def zPG(zdz:zyO)(L:Nat):Dk:=dA AG fun z=>d0 fun β k=>zdz β L z (fun z=>k (V.sc (.bool z)) [])
theorem z1I(L:Nat):DK (zPG zdz L) (fun _=>zh zL2 (zLX L) L zUZ):=xv zak fun z=>yK fun _ k=>z05 L z k
def zEU:Hint:=⟨[(0,0)],[],[none],[],[],false,false,[]⟩
def zJ9:CF:=cfD zEU 43
def zye:Nat→Sh:=zj [(4,(.sl 35)),(9,(.sl 35))]
def zxf(zdz:zyO)(L:Nat):CBC:=(xe 188 (zPG zdz L) noC)
def zM5{β:Type}(zdz:zyO)(L:Nat)(A:List V)(z:Bool→Ob β):Ob β:=cLd 35 A 1 fun C=>ifb ((((XK C:Nat):Int):Int)==(1:Int)) (cLd 35 A 1 fun D=>idx D (0:Int) fun E=>zdz β L (XL 33 E) (fun F=>z F)) (z false)
theorem zS7{β:Type}(zdz:zyO)(L:Nat)(z:List V)(k:KK β):zh zye (zxf zdz L) L zJ9 [(V.agg z)] [] k=zM5 zdz L z (fun z=>k (V.sc (.bool z)) []):=by kernel_rfl
abbrev zY:=∀ (β:Type),Nat→List V→(Bool→Ob β)→Ob β
def yo:zY:=fun β=>@zM5 β zdz
def zmX(yo:zY)(L:Nat):Dk:=dA AG fun z=>d0 fun β k=>yo β L z (fun z=>k (V.sc (.bool z)) [])
theorem zTt(L:Nat):DK (zmX yo L) (fun _=>zh zye (zxf zdz L) L zJ9):=xv zak fun z=>yK fun _ k=>zS7 zdz L z k
def zNu:Hint:=⟨[(4,2)],[],[none,some ((bl 456 22),(bl 4194267 22)),none,some ((bl 0 22),(bl 4194259 22)),none,none,some ((bl 4 22),(bl 4194263 22)),none],[],[],false,false,[]⟩
def cf_tx_money:CF:=cfD zNu 84
def zsL:CC:=xz [1,1,0,1,0,0] cf_tx_money.body
def zAG:CC:=xz [1,1,1] cf_tx_money.body
def zfb:Nat→Sh:=zj [(13,(.int .i64)),(19,(.int .i64))]
def zfe(L:Nat):CBC:=noC
def zui:St→St:=yM 0 (bl 456 22) (bl 4194267 22)
def zjR(z:Int)(A:Ls)(C D:Int):St:=⟨(jn 3 ((Qe z)::(jn 2 ((V.sl 2 A)::((Qe C)::((Qe D)::(jn 13 []))))))),(gn 22 [])⟩
def zwp(z:Bool):St:=⟨(jn 2 ((V.sc (.bool z))::(jn 19 []))),(gn 22 [])⟩
def zxv:St:=⟨(jn 22 []),(gn 22 [])⟩
def zUf{β:Type}(L:Nat)(A:Ls)(z:Int→Ls→Int→Int→Ob β):Ob β:=z (0:Int) A ((XK A:Nat):Int) (0:Int)
theorem zZC{β:Type}(L:Nat)(z:Ls)(k:KK β):zh zfb (zfe L) L cf_tx_money [(V.sl 2 z)] [] k=zUf L z (fun A C D E=>zx (ze zfb (zfe L) 0 L zsL) zui L (zjR A C D E) (xi 0 (yv (ze zfb (zfe L) 0 L zAG) (zD 0 (CF.res cf_tx_money) k)))):=by kernel_rfl
def zGq{β:Type}(L:Nat)(E:Int)(F:Ls)(G C:Int)(A:Bool→Ob β)(z:Int→Ls→Int→Int→Ob β)(D:Ob β):Ob β:=ifb (decide (C<G)) (idx F C fun H=>chk ((XK (XL 2 H))=2∧0+2≤2) (lt (zk [(Qe (0:Int)),(V.gs 1 ([]:Ls))] 0 (XL 2 H)) fun I=>cI .i64 I 0 fun J=>lt (QG .i64 (((2100000000000000:Int):Int)-E)) fun M=>ifb (decide (J>M)) (A false) (cI .i64 I 0 fun N=>lt (QG .i64 ((E:Int)+N)) fun O=>lt (QG .i64 ((C:Int)+(1:Int))) fun P=>z O F G P))) (D)
theorem zOR{β:Type}(L:Nat)(z:Int)(A:Ls)(C D:Int)(X:St→Ob β)(K:KT β):ze zfb (zfe L) 0 L zsL (zjR z A C D) (yH zui X K)=zGq L z A C D (fun E=>K .ret (zwp E)) (fun z A C D=>X (zjR z A C D)) (K (.exit 0) (zxv)):=by kernel_rfl
def zyS{β:Type}(L:Nat)(A:Bool)(z:Bool→Ob β):Ob β:=z A
theorem zJ6{β:Type}(L:Nat)(z:Bool)(k:KK β):(xi 0 (yv (ze zfb (zfe L) 0 L zAG) (zD 0 (CF.res cf_tx_money) k))) .ret (zwp z)=zyS L z (fun A=>k (V.sc (.bool A)) []):=by kernel_rfl
def zBW{β:Type}(L:Nat)(z:Bool→Ob β):Ob β:=z true
theorem zLH{β:Type}(L:Nat)(k:KK β):(xi 0 (yv (ze zfb (zfe L) 0 L zAG) (zD 0 (CF.res cf_tx_money) k))) (.exit 0) (zxv)=zBW L (fun z=>k (V.sc (.bool z)) []):=by kernel_rfl
def zuZ{β:Type}(L:Nat)(z:Bool→Ob β)(A:Ob β):Nat→Int→Ls→Int→Int→Ob β
 | 0,_,_,_,_=>none
 | n+1,C,D,E,F=>zGq L C D E F z (fun C D E F=>zuZ L z A n C D E F) A
theorem zzB{β:Type}(L:Nat)(K:KT β):∀ (n:Nat) (z:Int) (A:Ls) (C D:Int),zx (ze zfb (zfe L) 0 L zsL) zui n (zjR z A C D) K=zuZ L (fun E=>K .ret (zwp E)) (K (.exit 0) (zxv)) n z A C D:=by
 intro n; induction n <;> intros
 ·rfl
 ·exact (zOR ..).trans (by simp only [*]; rfl)
def zMA{β:Type}(L:Nat)(A:Ls)(z:Bool→Ob β):Ob β:=zUf L A (fun C D E F=>zuZ L (fun G=>zyS L G z) (zBW L z) L C D E F)
theorem zZG{β:Type}(L:Nat)(z:Ls)(k:KK β):zh zfb (zfe L) L cf_tx_money [(V.sl 2 z)] [] k=zMA L z (fun z=>k (V.sc (.bool z)) []):=by
 refine (zZC L z k).trans ?_
 unfold zMA
 first
  | (simp only [zzB,zJ6,zLH]; done)
  | (simp only [zzB]; rfl)
abbrev zcE:=∀ (β:Type),Nat→Ls→(Bool→Ob β)→Ob β
def xM:zcE:=fun β=>@zMA β
def zMk(xM:zcE)(L:Nat):Dk:=dA (AL 2) fun z=>d0 fun β k=>xM β L z (fun z=>k (V.sc (.bool z)) [])
theorem zZN(L:Nat):DK (zMk xM L) (fun _=>zh zfb (zfe L) L cf_tx_money):=xv zaZ fun z=>yK fun _ k=>zZG L z k
def zNJ:Hint:=⟨[(0,0),(10,2)],[],[none,none,none,none,none,none,none,some ((bl 234881034 47),(bl 140737488355291 47)),none,some ((bl 10 47),(bl 140737488355291 47)),none,none,some ((bl 4 47),(bl 140737488355293 47)),none,none,none],[],[],false,false,[]⟩
def cf_tx_Check:CF:=cfD zNJ 44
def znY:CC:=xz [1,1,1,1,1,0,1,0,0] cf_tx_Check.body
def zta:CC:=xz [1,1,1,1,1,1] cf_tx_Check.body
def zfc:Nat→Sh:=zj [(10,(.sl 35)),(15,(.sl 2)),(20,(.sl 2)),(25,(.sl 35)),(34,.bool),(41,.bool)]
def zfd(zJ:zcj)(xM:zcE)(yo:zY)(L:Nat):CBC:=(xe 151 (zmX yo L) (xe 150 (zMk xM L) (xe 146 (zGA zJ L) noC)))
def zoU:St→St:=yM 0 (bl 234881034 47) (bl 140737488355291 47)
def zhl(z:Ls)(A C:Int)(E:List V)(D:Lm):St:=⟨(jn 1 ((V.ptr 1 0)::(jn 1 ((V.mp 23)::(jn 21 ((V.sl 35 z)::((Qe A)::((Qe C)::(jn 19 []))))))))),(gn 1 ((.live true E)::(gn 21 ((.mp D)::(gn 23 [])))))⟩
def zuf(A:Int)(z:Lm):St:=⟨(jn 2 ((Qe A)::(jn 44 []))),(gn 23 ((.mp z)::(gn 23 [])))⟩
def zxM(A:List V)(z:Lm):St:=⟨(jn 1 ((V.ptr 1 0)::(jn 1 ((V.mp 23)::(jn 43 []))))),(gn 1 ((.live true A)::(gn 21 ((.mp z)::(gn 23 [])))))⟩
def zWx{β:Type}(zJ:zcj)(xM:zcE)(yo:zY)(L:Nat)(C:List V)(z:Int→Ob β)(A:Ls→Int→Int→List V→Lm→Ob β):Ob β:=chk (0+4≤(XK C)) (zJ β L (Xv V.dem (XL 4 C)) (fun E=>ifb (!E) (z (4:Int)) (cLd 35 C 1 fun F=>ifb ((((XK F:Nat):Int):Int)==(0:Int)) (z (93:Int)) (cLd 2 C 2 fun G=>ifb ((((XK G:Nat):Int):Int)==(0:Int)) (z (93:Int)) (cLd 2 C 2 fun H=>xM β L H (fun I=>ifb (!I) (z (90:Int)) (cLd 35 C 1 fun D=>A D ((XK D:Nat):Int) (0:Int) C ([]:Lm))))))))
theorem z0w{β:Type}(zJ:zcj)(xM:zcE)(yo:zY)(L:Nat)(z:List V)(k:KK β):zh zfc (zfd zJ xM yo L) L cf_tx_Check [(V.agg z)] [] k=zWx zJ xM yo L z (fun z=>k (Qe z) []) (fun A C D F E=>zx (ze zfc (zfd zJ xM yo L) 0 L znY) zoU L (zhl A C D F E) (xi 0 (yv (ze zfc (zfd zJ xM yo L) 0 L zta) (zD 0 (CF.res cf_tx_Check) k)))):=by kernel_rfl
def zzE{β:Type}(zJ:zcj)(xM:zcE)(yo:zY)(L:Nat)(F:Ls)(G C:Int)(I:List V)(A:Lm)(D:Int→Lm→Ob β)(z:Ls→Int→Int→List V→Lm→Ob β)(H:List V→Lm→Ob β):Ob β:=ifb (decide (C<G)) (idx F C fun J=>chk ((XK (XL 35 J))=35∧0+35≤35) (lt (zk (We 32 (Qa (0:Int))++[(Qc (0:Int)),(Qc (0:Int)),(V.gs 1 ([]:Ls))]) 0 (XL 35 J)) fun E=>chk (0+33≤(XK E)) (mAt 35 (V.agg (XL 33 E)) A fun O=>aB (Option.getD O (V.sc (.bool false))) fun P=>ifb P (D (91:Int) A) (chk (0+33≤(XK E)) (z03 35 (V.agg (XL 33 E)) (V.sc (.bool true)) A fun M=>lt (QG .i64 ((C:Int)+(1:Int))) fun N=>z F G N I M))))) (H I A)
theorem zKo{β:Type}(zJ:zcj)(xM:zcE)(yo:zY)(L:Nat)(A:Ls)(C D:Int)(E:List V)(z:Lm)(X:St→Ob β)(K:KT β):ze zfc (zfd zJ xM yo L) 0 L znY (zhl A C D E z) (yH zoU X K)=zzE zJ xM yo L A C D E z (fun F z=>K .ret (zuf F z)) (fun A C D E z=>X (zhl A C D E z)) (fun E z=>K (.exit 0) (zxM E z)):=by kernel_rfl
def ztO{β:Type}(zJ:zcj)(xM:zcE)(yo:zY)(L:Nat)(A:Int)(C:Lm)(z:Int→Ob β):Ob β:=z A
theorem zEK{β:Type}(zJ:zcj)(xM:zcE)(yo:zY)(L:Nat)(A:Int)(z:Lm)(k:KK β):(xi 0 (yv (ze zfc (zfd zJ xM yo L) 0 L zta) (zD 0 (CF.res cf_tx_Check) k))) .ret (zuf A z)=ztO zJ xM yo L A z (fun C=>k (Qe C) []):=by kernel_rfl
def zub{β:Type}(zJ:zcj)(xM:zcE)(yo:zY)(L:Nat)(A:List V)(C:Lm)(z:Int→Ob β):Ob β:=mAt 35 (V.agg (We 32 (Qa (0:Int))++[(Qc (4294967295:Int))])) C fun D=>aB (Option.getD D (V.sc (.bool false))) fun E=>ifb E (chk (0+4≤(XK A)) (yo β L (Xv V.dem (XL 4 A)) (fun F=>ifb (!F) (z (92:Int)) (z (0:Int))))) (z (0:Int))
theorem zFB{β:Type}(zJ:zcj)(xM:zcE)(yo:zY)(L:Nat)(A:List V)(z:Lm)(k:KK β):(xi 0 (yv (ze zfc (zfd zJ xM yo L) 0 L zta) (zD 0 (CF.res cf_tx_Check) k))) (.exit 0) (zxM A z)=zub zJ xM yo L A z (fun C=>k (Qe C) []):=by kernel_rfl
def zoM{β:Type}(zJ:zcj)(xM:zcE)(yo:zY)(L:Nat)(z:Int→Lm→Ob β)(A:List V→Lm→Ob β):Nat→Ls→Int→Int→List V→Lm→Ob β
 | 0,_,_,_,_,_=>none
 | n+1,C,D,E,G,F=>zzE zJ xM yo L C D E G F z (fun C D E G F=>zoM zJ xM yo L z A n C D E G F) A
theorem ztG{β:Type}(zJ:zcj)(xM:zcE)(yo:zY)(L:Nat)(K:KT β):∀ (n:Nat) (C:Ls) (D E:Int) (A:List V) (z:Lm),zx (ze zfc (zfd zJ xM yo L) 0 L znY) zoU n (zhl C D E A z) K=zoM zJ xM yo L (fun F z=>K .ret (zuf F z)) (fun A z=>K (.exit 0) (zxM A z)) n C D E A z:=by
 intro n; induction n <;> intros
 ·rfl
 ·exact (zKo ..).trans (by simp only [*]; rfl)
def zL4{β:Type}(zJ:zcj)(xM:zcE)(yo:zY)(L:Nat)(G:List V)(z:Int→Ob β):Ob β:=zWx zJ xM yo L G z (fun D E F C A=>zoM zJ xM yo L (fun H A=>ztO zJ xM yo L H A z) (fun C A=>zub zJ xM yo L C A z) L D E F C A)
theorem z0m{β:Type}(zJ:zcj)(xM:zcE)(yo:zY)(L:Nat)(z:List V)(k:KK β):zh zfc (zfd zJ xM yo L) L cf_tx_Check [(V.agg z)] [] k=zL4 zJ xM yo L z (fun z=>k (Qe z) []):=by
 refine (z0w zJ xM yo L z k).trans ?_
 unfold zL4
 first
  | (simp only [ztG,zEK,zFB]; done)
  | (simp only [ztG]; rfl)
abbrev zc8:=∀ (β:Type),Nat→List V→(Int→Ob β)→Ob β
def y5:zc8:=fun β=>@zL4 β zJ xM yo
def zCv(y5:zc8)(L:Nat):Dk:=dA AG fun z=>d0 fun β k=>y5 β L z (fun z=>k (Qe z) [])
theorem zZV(L:Nat):DK (zCv y5 L) (fun _=>zh zfc (zfd zJ xM yo L) L cf_tx_Check):=xv zak fun z=>yK fun _ k=>z0m zJ xM yo L z k
def zQF:Hint:=⟨[(0,0),(2,5),(7,10),(9,0),(9,1)],[(2,4)],[none,some ((bl 262161 33),(bl 6979321823 33)),none,some ((bl 16 33),(bl 6979321823 33)),none,none],[],[(7,0,[0])],false,false,[]⟩
def cf_sha_Pad:CF:=cfD zQF 155
def zhG:CC:=xz [1,1,1,1,0,1,0,0] cf_sha_Pad.body
def zxx:CC:=xz [1,1,1,1,1] cf_sha_Pad.body
def zeJ:Nat→Sh:=zj []
def zeH(L:Nat):CBC:=noC
def ziL:St→St:=yM 0 (bl 262161 33) (bl 6979321823 33)
def znx(D:Int)(z:Nat)(A:Int)(C:List V):St:=⟨((Qd D)::(jn 3 ((V.own 15 0 z 1)::(jn 13 ((Qe A)::(jn 14 [])))))),(gn 15 ((.live true C)::(gn 17 [])))⟩
def zhg(C:Int)(D:Ls)(z:Int)(A:Nat):St:=⟨((Qd C)::(jn 3 ((V.gs 1 D)::(jn 13 ((Qe z)::(jn 14 [])))))),(gn 15 ((.dead A)::(gn 17 [])))⟩
def zzU(z:Nat)(A:List V):St:=⟨(jn 4 ((V.own 15 0 z 1)::(jn 28 []))),(gn 15 ((.live true A)::(gn 17 [])))⟩
def zn6(A:Ls)(z:Nat):St:=⟨(jn 4 ((V.gs 1 A)::(jn 28 []))),(gn 15 ((.dead z)::(gn 17 [])))⟩
def zOA{β:Type}(L:Nat)(D:Int)(z:Int→Nat→Int→List V→Ob β):Ob β:=lt (QG .u64 ((D:Int)+(9:Int))) fun F=>lt (Int.tmod F (64:Int)) fun G=>lt (QG .u64 (((64:Int):Int)-G)) fun H=>lt (Int.tmod H (64:Int)) fun E=>lt (QG .u64 (((1:Int):Int)+E)) fun C=>lt (QG .u64 (((9:Int):Int)+E)) fun A=>chk (0≤C∧C≤A∧(XM A)*1≤xm∧A≤xm) (chk (0≤(0:Int)∧(0:Int)<(((XM C):Nat):Int)) (chk (1=1∧0+1≤(XK (XN (We (XM A) [(Qa (0:Int))])))) (lt (zk (XN (We (XM A) [(Qa (0:Int))])) 0 [(Qa (128:Int))]) fun I=>z D (XM C) (0:Int) I)))
theorem z1T{β:Type}(L:Nat)(z:Int)(k:KK β):zh zeJ (zeH L) L cf_sha_Pad [(Qd z)] [] k=zOA L z (fun z A C D=>zx (ze zeJ (zeH L) 0 L zhG) ziL L (znx z A C D) (xi 0 (yv (ze zeJ (zeH L) 0 L zxx) (zD 0 (CF.res cf_sha_Pad) k)))):=by kernel_rfl
def zl2{β:Type}(L:Nat)(G:Int)(C:Nat)(D:Int)(z:List V)(A:Int→Ls→Int→Nat→Ob β)(F:Nat→List V→Ob β):Ob β:=ifb (decide (D<(8:Int))) (chk (0=0∧C*1≤(XK z)∧(XK z)≠0) (lt (QG .u64 (((8:Int):Int)*G)) fun N=>lt (QG .i64 (((8:Int):Int)*D)) fun O=>lt (QG .i64 (((56:Int):Int)-O)) fun H=>chk (0≤H) (lt (zcM .u64 N H) fun I=>lt (QG .u8 I) fun E=>chk ((XK (yl 1 C z)+XK (yl 1 1 [(Qa E)]))*1≤xm∧XK (yl 1 C z)+XK (yl 1 1 [(Qa E)])≤xm) (lt ((yl 1 C z)++(yl 1 1 [(Qa E)])) fun J=>lt (QG .i64 ((D:Int)+(1:Int))) fun M=>A G J M (XK z))))) (F C z)
theorem zOc{β:Type}(L:Nat)(D:Int)(A:Nat)(C:Int)(z:List V)(X:St→Ob β)(K:KT β):ze zeJ (zeH L) 0 L zhG (znx D A C z) (yH ziL X K)=zl2 L D A C z (fun D E C z=>X (zhg D E C z)) (fun A z=>K (.exit 0) (zzU A z)):=by kernel_rfl
def zoC{β:Type}(L:Nat)(A:Nat)(C:List V)(z:Ls→Ob β):Ob β:=chk (A≠0∨(XK C)=0) (z (yl 1 A C))
theorem zJE{β:Type}(L:Nat)(z:Nat)(A:List V)(k:KK β):(xi 0 (yv (ze zeJ (zeH L) 0 L zxx) (zD 0 (CF.res cf_sha_Pad) k))) (.exit 0) (zzU z A)=zoC L z A (fun C=>k (V.fr 1 C) []):=by kernel_rfl
def zha{β:Type}(L:Nat)(H:Int)(E:Ls)(A:Int)(F:Nat)(z:Int→Ls→Int→Nat→Ob β)(C:Ls→Nat→Ob β):Ob β:=ifb (decide (A<(8:Int))) (lt (QG .u64 (((8:Int):Int)*H)) fun I=>lt (QG .i64 (((8:Int):Int)*A)) fun J=>lt (QG .i64 (((56:Int):Int)-J)) fun G=>chk (0≤G) (lt (zcM .u64 I G) fun M=>lt (QG .u8 M) fun D=>chk ((XK E+XK (yl 1 1 [(Qa D)]))*1≤xm∧XK E+XK (yl 1 1 [(Qa D)])≤xm) (lt (E++(yl 1 1 [(Qa D)])) fun N=>lt (QG .i64 ((A:Int)+(1:Int))) fun O=>z H N O F))) (C E F)
theorem zJH{β:Type}(L:Nat)(D:Int)(C:Ls)(A:Int)(z:Nat)(X:St→Ob β)(K:KT β):ze zeJ (zeH L) 0 L zhG (zhg D C A z) (yH ziL X K)=zha L D C A z (fun D C A z=>X (zhg D C A z)) (fun C z=>K (.exit 0) (zn6 C z)):=by kernel_rfl
def zgF{β:Type}(L:Nat)(A:Ls)(C:Nat)(z:Ls→Ob β):Ob β:=z A
theorem zCx{β:Type}(L:Nat)(A:Ls)(z:Nat)(k:KK β):(xi 0 (yv (ze zeJ (zeH L) 0 L zxx) (zD 0 (CF.res cf_sha_Pad) k))) (.exit 0) (zn6 A z)=zgF L A z (fun C=>k (V.gs 1 C) []):=by kernel_rfl
def zdF{β:Type}(L:Nat)(z:Ls→Nat→Ob β):Nat→Int→Ls→Int→Nat→Ob β
 | 0,_,_,_,_=>none
 | n+1,D,E,A,C=>zha L D E A C (fun D E A C=>zdF L z n D E A C) z
theorem zJ5{β:Type}(L:Nat)(K:KT β):∀ (n:Nat) (D:Int) (A:Ls) (C:Int) (z:Nat),zx (ze zeJ (zeH L) 0 L zhG) ziL n (zhg D A C z) K=zdF L (fun A z=>K (.exit 0) (zn6 A z)) n D A C z:=by
 intro n; induction n <;> intros
 ·rfl
 ·exact (zJH ..).trans (by simp only [*]; rfl)
def zEd{β:Type}(L:Nat)(D:Nat→List V→Ob β)(z:Ls→Nat→Ob β):Nat→Int→Nat→Int→List V→Ob β
 | 0,_,_,_,_=>none
 | n+1,E,F,A,C=>zl2 L E F A C (fun E G A C=>zdF L z n E G A C) D
theorem zwT{β:Type}(L:Nat)(K:KT β):∀ (n:Nat) (D:Int) (A:Nat) (C:Int) (z:List V),zx (ze zeJ (zeH L) 0 L zhG) ziL n (znx D A C z) K=zEd L (fun A z=>K (.exit 0) (zzU A z)) (fun E z=>K (.exit 0) (zn6 E z)) n D A C z:=by
 intro n; induction n <;> intros
 ·rfl
 ·exact (zOc ..).trans (by simp only [zJ5]; rfl)
def zHO{β:Type}(L:Nat)(E:Int)(D:Ls→Ob β)(A:Ls→Ob β):Ob β:=zOA L E (fun E C F z=>zEd L (fun C z=>zoC L C z D) (fun G z=>zgF L G z A) L E C F z)
theorem z2I{β:Type}(L:Nat)(z:Int)(k:KK β):zh zeJ (zeH L) L cf_sha_Pad [(Qd z)] [] k=zHO L z (fun z=>k (V.fr 1 z) []) (fun z=>k (V.gs 1 z) []):=by
 refine (z1T L z k).trans ?_
 unfold zHO
 first
  | (simp only [zwT,zJE,zCx]; done)
  | (simp only [zwT]; rfl)
abbrev zbH:=∀ (β:Type),Nat→Int→(Ls→Ob β)→(Ls→Ob β)→Ob β
def xC:zbH:=fun β=>@zHO β
def zP3(xC:zbH)(L:Nat):Dk:=dA (AI .u64) fun z=>d0 fun β k=>xC β L z (fun z=>k (V.fr 1 z) []) (fun z=>k (V.gs 1 z) [])
theorem z2Q(L:Nat):DK (zP3 xC L) (fun _=>zh zeJ (zeH L) L cf_sha_Pad):=xv zbN fun z=>yK fun _ k=>z2I L z k
def zP9:Hint:=⟨[(0,0),(1,0),(5,0),(5,3),(7,0),(7,1)],[],[none,some ((bl 456 17),(bl 114655 17)),none,some ((bl 8 17),(bl 114655 17)),none,none],[],[],false,false,[]⟩
def cf_sha_row:CF:=cfD zP9 154
def zuF:CC:=xz [1,1,0,1,0,0] cf_sha_row.body
def zQl:CC:=xz [1,1,1] cf_sha_row.body
def zib:Nat→Sh:=zj [(11,(.sl 1))]
def zh3(L:Nat):CBC:=noC
def zyf:St→St:=yM 0 (bl 456 17) (bl 114655 17)
def zkK(z A:Ls)(C D:Int):St:=⟨(jn 3 ((V.gs 1 z)::(jn 2 ((V.sl 1 A)::((Qe C)::((Qe D)::(jn 8 []))))))),(gn 17 [])⟩
def zAP(z:Ls):St:=⟨(jn 3 ((V.gs 1 z)::(jn 13 []))),(gn 17 [])⟩
def zP5{β:Type}(L:Nat)(A:Ls)(z:Ls→Ls→Int→Int→Ob β):Ob β:=z ([]:Ls) A ((XK A:Nat):Int) (0:Int)
theorem z0P{β:Type}(L:Nat)(z:Ls)(k:KK β):zh zib (zh3 L) L cf_sha_row [(V.sl 1 z)] [] k=zP5 L z (fun A C D E=>zx (ze zib (zh3 L) 0 L zuF) zyf L (zkK A C D E) (xi 0 (yv (ze zib (zh3 L) 0 L zQl) (zD 0 (CF.res cf_sha_row) k)))):=by kernel_rfl
def ze1{β:Type}(L:Nat)(A F:Ls)(G C:Int)(z:Ls→Ls→Int→Int→Ob β)(D:Ls→Ob β):Ob β:=ifb (decide (C<G)) (idx F C fun H=>cL 1 H 0 fun E=>chk ((XK A+XK E)*1≤xm∧XK A+XK E≤xm) (lt (A++E) fun I=>lt (QG .i64 ((C:Int)+(1:Int))) fun J=>z I F G J)) (D A)
theorem zRL{β:Type}(L:Nat)(z A:Ls)(C D:Int)(X:St→Ob β)(K:KT β):ze zib (zh3 L) 0 L zuF (zkK z A C D) (yH zyf X K)=ze1 L z A C D (fun z A C D=>X (zkK z A C D)) (fun z=>K (.exit 0) (zAP z)):=by kernel_rfl
def zgu{β:Type}(L:Nat)(A:Ls)(z:Ls→Ob β):Ob β:=z A
theorem zOk{β:Type}(L:Nat)(z:Ls)(k:KK β):(xi 0 (yv (ze zib (zh3 L) 0 L zQl) (zD 0 (CF.res cf_sha_row) k))) (.exit 0) (zAP z)=zgu L z (fun A=>k (V.gs 1 A) []):=by kernel_rfl
def ziG{β:Type}(L:Nat)(z:Ls→Ob β):Nat→Ls→Ls→Int→Int→Ob β
 | 0,_,_,_,_=>none
 | n+1,A,C,D,E=>ze1 L A C D E (fun A C D E=>ziG L z n A C D E) z
theorem zBQ{β:Type}(L:Nat)(K:KT β):∀ (n:Nat) (z A:Ls) (C D:Int),zx (ze zib (zh3 L) 0 L zuF) zyf n (zkK z A C D) K=ziG L (fun z=>K (.exit 0) (zAP z)) n z A C D:=by
 intro n; induction n <;> intros
 ·rfl
 ·exact (zRL ..).trans (by simp only [*]; rfl)
def zGa{β:Type}(L:Nat)(C:Ls)(z:Ls→Ob β):Ob β:=zP5 L C (fun A D E F=>ziG L (fun A=>zgu L A z) L A D E F)
theorem z2X{β:Type}(L:Nat)(z:Ls)(k:KK β):zh zib (zh3 L) L cf_sha_row [(V.sl 1 z)] [] k=zGa L z (fun z=>k (V.gs 1 z) []):=by
 refine (z0P L z k).trans ?_
 unfold zGa
 first
  | (simp only [zBQ,zOk]; done)
  | (simp only [zBQ]; rfl)
abbrev zbI:=∀ (β:Type),Nat→Ls→(Ls→Ob β)→Ob β
def xB:zbI:=fun β=>@zGa β
def zO1(xB:zbI)(L:Nat):Dk:=dA (AL 1) fun z=>d0 fun β k=>xB β L z (fun z=>k (V.gs 1 z) [])
theorem z1y(L:Nat):DK (zO1 xB L) (fun _=>zh zib (zh3 L) L cf_sha_row):=xv zaZ fun z=>yK fun _ k=>z2X L z k
def zNk:Hint:=⟨[],[],[none],[],[],false,false,[]⟩
def zR8:CF:=cfD zNk 180
def zHP:Nat→Sh:=zj []
def zIJ(xx:zbj)(L:Nat):CBC:=(xe 572 (zfF xx L) noC)
def zMK{β:Type}(xx:zbj)(L:Nat)(A C:Int)(z:Int→Ob β):Ob β:=lt (QG .i64 (0-C)) fun D=>xx β L A D (fun E=>z E)
theorem z0v{β:Type}(xx:zbj)(L:Nat)(z A:Int)(k:KK β):zh zHP (zIJ xx L) L zR8 [(Qc z),(Qe A)] [] k=zMK xx L z A (fun z=>k (Qc z) []):=by kernel_rfl
abbrev xQ:=∀ (β:Type),Nat→Int→Int→(Int→Ob β)→Ob β
def xf:xQ:=fun β=>@zMK β xx
def zCu(xf:xQ)(L:Nat):Dk:=dA (AI .u32) fun z=>dA (AI .i64) fun A=>d0 fun β k=>xf β L z A (fun z=>k (Qc z) [])
theorem zZQ(L:Nat):DK (zCu xf L) (fun _=>zh zHP (zIJ xx L) L zR8):=xv zbN fun z=>xv zbN fun A=>yK fun _ k=>z0v xx L z A k
def zA6:Hint:=⟨[],[],[none,some ((bl 526 85),(bl 38685626227668133590597583 85)),none,some ((bl 12 85),(bl 38685626227668133590597581 85)),none,none,some ((bl 4638 85),(bl 38685626227668133590597599 85)),none,some ((bl 526 85),(bl 38685626227668133590597599 85)),none,none,some ((bl 76 85),(bl 38685623849749388397117053 85)),none,some ((bl 12 85),(bl 38685623849749388397116989 85)),none,none],[],[],false,false,[]⟩
def cf_sha_schedule:CF:=cfD zA6 179
def zgt:CC:=xz [1,1,0,1,0,0,1,1,0,0,1,1,0,0] cf_sha_schedule.body
def zqy:CC:=xz [1,1,0,1,0,0,1,1,1] cf_sha_schedule.body
def zli:CC:=xz [1,1,1,0,1,0,0] cf_sha_schedule.body
def ziu:CC:=xz [1,1,0,1,0,0] cf_sha_schedule.body
def zyV:CC:=xz [1,1,1,1] cf_sha_schedule.body
def zrv:CC:=xz [1,1,1] cf_sha_schedule.body
def y6:Nat→Sh:=zj [(18,(.int .u32)),(25,(.int .u8)),(38,(.int .u32)),(43,(.int .u32)),(49,(.int .u32)),(55,(.int .u32)),(60,(.int .u32)),(66,(.int .u32)),(73,(.int .u32)),(79,(.int .u32))]
def y7(xf:xQ)(L:Nat):CBC:=(xe 535 (zCu xf L) noC)
def zem:St→St:=yM 0 (bl 526 85) (bl 38685626227668133590597583 85)
def zg8:St→St:=yM 0 (bl 4638 85) (bl 38685626227668133590597599 85)
def zl3:St→St:=yM 0 (bl 76 85) (bl 38685623849749388397117053 85)
def zc0(z:Int)(A C D:List V):St:=⟨(jn 1 ((V.ptr 1 0)::((V.ptr 2 0)::((V.ptr 3 0)::(jn 5 ((Qe z)::(jn 75 []))))))),(gn 1 ((.live true A)::((.live true C)::((.live true D)::(gn 81 [])))))⟩
def zdi(A C z:Int)(D E F:List V):St:=⟨(jn 1 ((V.ptr 1 0)::((V.ptr 2 0)::((V.ptr 3 0)::((Qe A)::(jn 4 ((Qe C)::(jn 2 ((Qe z)::(jn 72 [])))))))))),(gn 1 ((.live true D)::((.live true E)::((.live true F)::(gn 81 [])))))⟩
def zg4(z A:List V):St:=⟨(jn 2 ((V.ptr 2 0)::((V.ptr 3 0)::(jn 81 [])))),(gn 2 ((.live true z)::((.live true A)::(gn 81 []))))⟩
def zf6(z:Int)(A C:List V):St:=⟨(jn 2 ((V.ptr 2 0)::((V.ptr 3 0)::(jn 2 ((Qe z)::(jn 78 [])))))),(gn 2 ((.live true A)::((.live true C)::(gn 81 []))))⟩
def zpF(z:Int)(A C D:List V):St:=⟨(jn 1 ((V.ptr 1 0)::((V.ptr 2 0)::((V.ptr 3 0)::(jn 5 ((Qe z)::(jn 75 []))))))),(gn 1 ((.live true A)::((.live true C)::((.live true D)::(gn 81 [])))))⟩
def zpi(z A:List V):St:=⟨(jn 2 ((V.ptr 2 0)::((V.ptr 3 0)::(jn 81 [])))),(gn 2 ((.live true z)::((.live true A)::(gn 81 []))))⟩
def zyc{β:Type}(xf:xQ)(L:Nat)(A:List V)(z:Int→List V→List V→List V→Ob β):Ob β:=z (0:Int) A (We 64 (Qc (0:Int))) (We 64 (Qc (0:Int)))
theorem zR5{β:Type}(xf:xQ)(L:Nat)(z:List V)(k:KK β):zh y6 (y7 xf L) L cf_sha_schedule [(V.agg z)] [] k=zyc xf L z (fun A C D E=>zx (ze y6 (y7 xf L) 0 L ziu) zem L (zc0 A C D E) (xi 0 (yv (ze y6 (y7 xf L) 0 L zrv) (zD 0 (CF.res cf_sha_schedule) k)))):=by kernel_rfl
def zja{β:Type}(xf:xQ)(L:Nat)(A:Int)(F D E:List V)(z:Int→Int→Int→List V→List V→List V→Ob β)(C:List V→List V→Ob β):Ob β:=ifb (decide (A<(16:Int))) (z A A (0:Int) F D E) (C D E)
theorem zHU{β:Type}(xf:xQ)(L:Nat)(C:Int)(D z A:List V)(X:St→Ob β)(K:KT β):ze y6 (y7 xf L) 0 L ziu (zc0 C D z A) (yH zem X K)=zja xf L C D z A (fun F C E D z A=>zx (ze y6 (y7 xf L) 0 L zgt) zg8 L (zdi F C E D z A) (xi 2 (xi 1 (yv (ze y6 (y7 xf L) 0 L zqy) (yH zem X K))))) (fun z A=>K (.exit 0) (zg4 z A)):=by kernel_rfl
def zlf{β:Type}(xf:xQ)(L:Nat)(A C:List V)(z:Int→List V→List V→Ob β):Ob β:=z (16:Int) A C
theorem zDo{β:Type}(xf:xQ)(L:Nat)(z A:List V)(k:KK β):(xi 0 (yv (ze y6 (y7 xf L) 0 L zrv) (zD 0 (CF.res cf_sha_schedule) k))) (.exit 0) (zg4 z A)=zlf xf L z A (fun C z A=>zx (ze y6 (y7 xf L) 0 L zli) zl3 L (zf6 C z A) (xi 4 (yv (ze y6 (y7 xf L) 0 L zyV) (zD 0 (CF.res cf_sha_schedule) k)))):=by kernel_rfl
def zbi{β:Type}(xf:xQ)(L:Nat)(A H C:Int)(E I D:List V)(z:Int→Int→Int→List V→List V→List V→Ob β)(F:Int→List V→List V→List V→Ob β):Ob β:=ifb (decide (C<(4:Int))) (chk (0≤A∧A<((64:Nat):Int)) (cI .u32 D (0+((XM A)*1)) fun J=>lt (zgp .u32 J (8:Int)) fun M=>lt (QG .i64 (((4:Int):Int)*A)) fun N=>lt (QG .i64 ((N:Int)+C)) fun G=>chk (0≤G∧G<((64:Nat):Int)) (cI .u8 E (0+((XM G)*1)) fun O=>lt (QG .u32 O) fun P=>lt (ior .u32 M P) fun Q=>chk (0≤A∧A<((64:Nat):Int)) (chk (1=1∧(0+((XM A)*1))+1≤(XK D)) (lt (zk D (0+((XM A)*1)) [(Qc Q)]) fun R=>lt (QG .i64 ((C:Int)+(1:Int))) fun S=>z A H S E I R))))) (F H E I D)
theorem zuW{β:Type}(xf:xQ)(L:Nat)(F A z:Int)(C D E:List V)(X:St→Ob β)(K:KT β):ze y6 (y7 xf L) 0 L zgt (zdi F A z C D E) (yH zg8 X K)=zbi xf L F A z C D E (fun F A z C D E=>X (zdi F A z C D E)) (fun A C D E=>K (.exit 2) (zpF A C D E)):=by kernel_rfl
def zd1{β:Type}(xf:xQ)(L:Nat)(z:Int)(O A:List V)(C:Int→List V→List V→Ob β)(M:List V→List V→Ob β):Ob β:=ifb (decide (z<(64:Int))) (lt (QG .i64 ((z:Int)-(15:Int))) fun N=>chk (0≤N∧N<((64:Nat):Int)) (cI .u32 A (0+((XM N)*1)) fun P=>xf β L P (7:Int) (fun Q=>lt (QG .i64 ((z:Int)-(15:Int))) fun D=>chk (0≤D∧D<((64:Nat):Int)) (cI .u32 A (0+((XM D)*1)) fun R=>xf β L R (18:Int) (fun S=>lt (zdH .u32 Q S) fun T=>lt (QG .i64 ((z:Int)-(15:Int))) fun E=>chk (0≤E∧E<((64:Nat):Int)) (cI .u32 A (0+((XM E)*1)) fun U=>lt (zcM .u32 U (3:Int)) fun W=>lt (zdH .u32 T W) fun X=>lt (QG .i64 ((z:Int)-(2:Int))) fun F=>chk (0≤F∧F<((64:Nat):Int)) (cI .u32 A (0+((XM F)*1)) fun Y=>xf β L Y (17:Int) (fun Z=>lt (QG .i64 ((z:Int)-(2:Int))) fun G=>chk (0≤G∧G<((64:Nat):Int)) (cI .u32 A (0+((XM G)*1)) fun aa=>xf β L aa (19:Int) (fun ab=>lt (zdH .u32 Z ab) fun ac=>lt (QG .i64 ((z:Int)-(2:Int))) fun H=>chk (0≤H∧H<((64:Nat):Int)) (cI .u32 A (0+((XM H)*1)) fun ad=>lt (zcM .u32 ad (10:Int)) fun ae=>lt (zdH .u32 ac ae) fun af=>lt (QG .i64 ((z:Int)-(16:Int))) fun I=>chk (0≤I∧I<((64:Nat):Int)) (cI .u32 A (0+((XM I)*1)) fun ag=>lt (QG .u32 ((ag:Int)+X)) fun ah=>lt (QG .i64 ((z:Int)-(7:Int))) fun J=>chk (0≤J∧J<((64:Nat):Int)) (cI .u32 A (0+((XM J)*1)) fun ai=>lt (QG .u32 ((ah:Int)+ai)) fun aj=>lt (QG .u32 ((aj:Int)+af)) fun ak=>chk (0≤z∧z<((64:Nat):Int)) (chk (1=1∧(0+((XM z)*1))+1≤(XK A)) (lt (zk A (0+((XM z)*1)) [(Qc ak)]) fun al=>lt (QG .i64 ((z:Int)+(1:Int))) fun am=>C am O al))))))))))))))) (M O A)
theorem zFh{β:Type}(xf:xQ)(L:Nat)(C:Int)(z A:List V)(X:St→Ob β)(K:KT β):ze y6 (y7 xf L) 0 L zli (zf6 C z A) (yH zl3 X K)=zd1 xf L C z A (fun C z A=>X (zf6 C z A)) (fun z A=>K (.exit 4) (zpi z A)):=by kernel_rfl
def zfX{β:Type}(xf:xQ)(L:Nat)(C:Int)(D E F:List V)(z:Int→List V→List V→List V→Ob β):Ob β:=lt (QG .i64 ((C:Int)+(1:Int))) fun A=>z A D E F
theorem zsU{β:Type}(xf:xQ)(L:Nat)(z:Int)(A C D:List V)(X:St→Ob β)(K:KT β):(xi 2 (xi 1 (yv (ze y6 (y7 xf L) 0 L zqy) (yH zem X K)))) (.exit 2) (zpF z A C D)=zfX xf L z A C D (fun z A C D=>X (zc0 z A C D)):=by kernel_rfl
def zkg{β:Type}(xf:xQ)(L:Nat)(D C:List V)(z:List V→Ob β):Ob β:=chk (0+64≤(XK C)) (chk ((XK (XL 64 C))=64∧0+64≤(XK D)) (lt (zk D 0 (XL 64 C)) fun A=>chk (0=0∧(XK A)=64∧64≠0) (z A)))
theorem zB6{β:Type}(xf:xQ)(L:Nat)(z A:List V)(k:KK β):(xi 4 (yv (ze y6 (y7 xf L) 0 L zyV) (zD 0 (CF.res cf_sha_schedule) k))) (.exit 4) (zpi z A)=zkg xf L z A (fun C=>k (V.agg C) []):=by kernel_rfl
def zaz{β:Type}(xf:xQ)(L:Nat)(z:Int→List V→List V→List V→Ob β):Nat→Int→Int→Int→List V→List V→List V→Ob β
 | 0,_,_,_,_,_,_=>none
 | n+1,C,D,A,E,F,G=>zbi xf L C D A E F G (fun C D A E F G=>zaz xf L z n C D A E F G) z
theorem zkb{β:Type}(xf:xQ)(L:Nat)(K:KT β):∀ (n:Nat) (F z E:Int) (A C D:List V),zx (ze y6 (y7 xf L) 0 L zgt) zg8 n (zdi F z E A C D) K=zaz xf L (fun z A C D=>K (.exit 2) (zpF z A C D)) n F z E A C D:=by
 intro n; induction n <;> intros
 ·rfl
 ·exact (zuW ..).trans (by simp only [*]; rfl)
def zdY{β:Type}(xf:xQ)(L:Nat)(A:Int)(C D E:List V)(F:List V→List V→Ob β)(z:Int→List V→List V→List V→Ob β):Ob β:=zja xf L A C D E (fun H A G C D E=>zaz xf L (fun A C D E=>zfX xf L A C D E z) L H A G C D E) F
theorem zFs{β:Type}(xf:xQ)(L:Nat)(C:Int)(D z A:List V)(X:St→Ob β)(K:KT β):ze y6 (y7 xf L) 0 L ziu (zc0 C D z A) (yH zem X K)=zdY xf L C D z A (fun z A=>K (.exit 0) (zg4 z A)) (fun C D z A=>X (zc0 C D z A)):=by
 refine (zHU xf L C D z A X K).trans ?_
 unfold zdY
 first
  | (simp only [zkb,zsU]; done)
  | (simp only [zkb]; rfl)
def zen{β:Type}(xf:xQ)(L:Nat)(z:List V→List V→Ob β):Nat→Int→List V→List V→List V→Ob β
 | 0,_,_,_,_=>none
 | n+1,A,C,D,E=>zdY xf L A C D E z (fun A C D E=>zen xf L z n A C D E)
theorem zrD{β:Type}(xf:xQ)(L:Nat)(K:KT β):∀ (n:Nat) (C:Int) (D z A:List V),zx (ze y6 (y7 xf L) 0 L ziu) zem n (zc0 C D z A) K=zen xf L (fun z A=>K (.exit 0) (zg4 z A)) n C D z A:=by
 intro n; induction n <;> intros
 ·rfl
 ·exact (zFs ..).trans (by simp only [*]; rfl)
def zd3{β:Type}(xf:xQ)(L:Nat)(z:List V→List V→Ob β):Nat→Int→List V→List V→Ob β
 | 0,_,_,_=>none
 | n+1,A,C,D=>zd1 xf L A C D (fun A C D=>zd3 xf L z n A C D) z
theorem zqx{β:Type}(xf:xQ)(L:Nat)(K:KT β):∀ (n:Nat) (C:Int) (z A:List V),zx (ze y6 (y7 xf L) 0 L zli) zl3 n (zf6 C z A) K=zd3 xf L (fun z A=>K (.exit 4) (zpi z A)) n C z A:=by
 intro n; induction n <;> intros
 ·rfl
 ·exact (zFh ..).trans (by simp only [*]; rfl)
def zgR{β:Type}(xf:xQ)(L:Nat)(z A:List V)(C:List V→Ob β):Ob β:=zlf xf L z A (fun D z A=>zd3 xf L (fun z A=>zkg xf L z A C) L D z A)
theorem zCn{β:Type}(xf:xQ)(L:Nat)(z A:List V)(k:KK β):(xi 0 (yv (ze y6 (y7 xf L) 0 L zrv) (zD 0 (CF.res cf_sha_schedule) k))) (.exit 0) (zg4 z A)=zgR xf L z A (fun C=>k (V.agg C) []):=by
 refine (zDo xf L z A k).trans ?_
 unfold zgR
 first
  | (simp only [zqx,zB6]; done)
  | (simp only [zqx]; rfl)
def zqj{β:Type}(xf:xQ)(L:Nat)(D:List V)(z:List V→Ob β):Ob β:=zyc xf L D (fun E F A C=>zen xf L (fun A C=>zgR xf L A C z) L E F A C)
theorem zRV{β:Type}(xf:xQ)(L:Nat)(z:List V)(k:KK β):zh y6 (y7 xf L) L cf_sha_schedule [(V.agg z)] [] k=zqj xf L z (fun z=>k (V.agg z) []):=by
 refine (zR5 xf L z k).trans ?_
 unfold zqj
 first
  | (simp only [zrD,zCn]; done)
  | (simp only [zrD]; rfl)
abbrev zbL:=∀ (β:Type),Nat→List V→(List V→Ob β)→Ob β
def zC:zbL:=fun β=>@zqj β xf
def zx0(zC:zbL)(L:Nat):Dk:=dA AG fun z=>d0 fun β k=>zC β L z (fun z=>k (V.agg z) [])
theorem zR0(L:Nat):DK (zx0 zC L) (fun _=>zh y6 (y7 xf L) L cf_sha_schedule):=xv zak fun z=>yK fun _ k=>zRV xf L z k
def zBS:Hint:=⟨[],[],[none,some ((bl 34359754740 131),(bl 2722258935367507704976878695863201710071 131)),none,some ((bl 16340 131),(bl 2722258935367507704976878695863201710039 131)),none,none],[],[],false,false,[]⟩
def cf_sha_Compress:CF:=cfD zBS 156
def zkA:CC:=xz [1,1,1,1,0,1,0,0] cf_sha_Compress.body
def zwD:CC:=xz [1,1,1,1,1] cf_sha_Compress.body
def zdg:Nat→Sh:=zj [(20,(.int .u32)),(22,(.int .u32)),(24,(.int .u32)),(26,(.int .u32)),(28,(.int .u32)),(30,(.int .u32)),(32,(.int .u32)),(34,(.int .u32)),(59,(.int .u32)),(63,(.int .u32)),(99,(.int .u32)),(103,(.int .u32)),(107,(.int .u32)),(111,(.int .u32)),(115,(.int .u32)),(119,(.int .u32)),(123,(.int .u32)),(127,(.int .u32))]
def zc7(zC:zbL)(xf:xQ)(L:Nat):CBC:=(xe 535 (zCu xf L) (xe 534 (zx0 zC L) noC))
def zly:St→St:=yM 0 (bl 34359754740 131) (bl 2722258935367507704976878695863201710071 131)
def zfi(P Q R S I J M N O:Int)(T:List V)(z A C D E F G H:Int)(U:List V):St:=⟨(jn 2 ((V.ptr 2 0)::(jn 1 ((V.ptr 4 0)::((V.ptr 5 0)::((Qc P)::((Qc Q)::((Qc R)::((Qc S)::((Qc I)::((Qc J)::((Qc M)::((Qc N)::(jn 21 ((Qe O)::(jn 95 [])))))))))))))))),(gn 2 ((.live true T)::(gn 1 ((.live true [(Qc z),(Qc A),(Qc C),(Qc D),(Qc E),(Qc F),(Qc G),(Qc H)])::((.live true U)::(gn 125 []))))))⟩
def zoB(O P Q R I J M N:Int)(S:List V)(z A C D E F G H:Int):St:=⟨(jn 2 ((V.ptr 2 0)::(jn 1 ((V.ptr 4 0)::(jn 1 ((Qc O)::((Qc P)::((Qc Q)::((Qc R)::((Qc I)::((Qc J)::((Qc M)::((Qc N)::(jn 117 [])))))))))))))),(gn 2 ((.live true S)::(gn 1 ((.live true [(Qc z),(Qc A),(Qc C),(Qc D),(Qc E),(Qc F),(Qc G),(Qc H)])::(gn 126 [])))))⟩
abbrev zkz(β:Type):Type:=Int→Int→Int→Int→Int→Int→Int→Int→Int→List V→Int→Int→Int→Int→Int→Int→Int→Int→List V→Ob β
abbrev zmA(β:Type):Type:=Int→Int→Int→Int→Int→Int→Int→Int→List V→Int→Int→Int→Int→Int→Int→Int→Int→Ob β
def zxH{β:Type}(zC:zbL)(xf:xQ)(L:Nat)(z C:List V)(A:zkz β):Ob β:=chk (0+64≤(XK C)) (zC β L (XL 64 C) (fun D=>chk ((XK D)=64∧0+64≤64) (lt (zk (We 64 (Qc (0:Int))) 0 D) fun E=>cI .u32 z 0 fun F=>cI .u32 z 1 fun G=>cI .u32 z 2 fun H=>cI .u32 z 3 fun I=>cI .u32 z 4 fun J=>cI .u32 z 5 fun M=>cI .u32 z 6 fun N=>cI .u32 z 7 fun O=>A F G H I J M N O (0:Int) z (0:Int) (0:Int) (0:Int) (0:Int) (0:Int) (0:Int) (0:Int) (0:Int) E)))
theorem zRy{β:Type}(zC:zbL)(xf:xQ)(L:Nat)(I J:List V)(k:KK β):zh zdg (zc7 zC xf L) L cf_sha_Compress [(V.agg I),(V.agg J)] [] k=zxH zC xf L I J (fun R S T U M N O P Q W z A C D E F G H X=>zx (ze zdg (zc7 zC xf L) 0 L zkA) zly L (zfi R S T U M N O P Q W z A C D E F G H X) (xi 0 (yv (ze zdg (zc7 zC xf L) 0 L zwD) (zD 0 (CF.res cf_sha_Compress) k)))):=by kernel_rfl
def zeY{β:Type}(zC:zbL)(xf:xQ)(L:Nat)(D Q R W A E F S z:Int)(X:List V)(G H I J M N O P:Int)(Y:List V)(C:zkz β)(U:zmA β):Ob β:=ifb (decide (z<(64:Int))) (xf β L A (6:Int) (fun Z=>xf β L A (11:Int) (fun aa=>lt (zdH .u32 Z aa) fun ab=>xf β L A (25:Int) (fun ac=>lt (zdH .u32 ab ac) fun ad=>lt (QG .u32 ((S:Int)+ad)) fun ae=>lt (zgv .u32 A E) fun af=>lt (z1v .u32 A) fun ag=>lt (zgv .u32 ag F) fun ah=>lt (zdH .u32 af ah) fun ai=>lt (QG .u32 ((ae:Int)+ai)) fun aj=>chk (0≤z∧z<((64:Nat):Int)) (cI .u32 (XO ((XM z)*1) gk_sha_k) 0 fun ak=>lt (QG .u32 ((aj:Int)+ak)) fun al=>chk (0≤z∧z<((64:Nat):Int)) (cI .u32 Y (0+((XM z)*1)) fun am=>lt (QG .u32 ((al:Int)+am)) fun T=>xf β L D (2:Int) (fun an=>xf β L D (13:Int) (fun ao=>lt (zdH .u32 an ao) fun ap=>xf β L D (22:Int) (fun aq=>lt (zdH .u32 ap aq) fun ar=>lt (zgv .u32 D Q) fun au=>lt (zgv .u32 D R) fun av=>lt (zdH .u32 au av) fun aw=>lt (zgv .u32 Q R) fun ax=>lt (zdH .u32 aw ax) fun ay=>lt (QG .u32 ((ar:Int)+ay)) fun az=>lt (QG .u32 ((T:Int)+az)) fun aC=>lt (QG .u32 ((W:Int)+T)) fun aD=>lt (QG .i64 ((z:Int)+(1:Int))) fun aE=>C aC D Q R aD A E F aE X G H I J M N O P Y))))))))) (U D Q R W A E F S X G H I J M N O P)
theorem zEm{β:Type}(zC:zbL)(xf:xQ)(L:Nat)(P Q R S I J M N O:Int)(T:List V)(z A C D E F G H:Int)(U:List V)(X:St→Ob β)(K:KT β):ze zdg (zc7 zC xf L) 0 L zkA (zfi P Q R S I J M N O T z A C D E F G H U) (yH zly X K)=zeY zC xf L P Q R S I J M N O T z A C D E F G H U (fun P Q R S I J M N O T z A C D E F G H U=>X (zfi P Q R S I J M N O T z A C D E F G H U)) (fun P Q R S I J M N T z A C D E F G H=>K (.exit 0) (zoB P Q R S I J M N T z A C D E F G H)):=by kernel_rfl
def zf0{β:Type}(zC:zbL)(xf:xQ)(L:Nat)(p6 p7 p8 p9 D E F G:Int)(z:List V)(ae af ag ah ai aj ak al:Int)(A:List V→Ob β):Ob β:=cI .u32 z 0 fun H=>lt (QG .u32 ((H:Int)+p6)) fun I=>cI .u32 z 1 fun J=>lt (QG .u32 ((J:Int)+p7)) fun M=>cI .u32 z 2 fun N=>lt (QG .u32 ((N:Int)+p8)) fun O=>cI .u32 z 3 fun P=>lt (QG .u32 ((P:Int)+p9)) fun Q=>cI .u32 z 4 fun R=>lt (QG .u32 ((R:Int)+D)) fun S=>cI .u32 z 5 fun T=>lt (QG .u32 ((T:Int)+E)) fun U=>cI .u32 z 6 fun W=>lt (QG .u32 ((W:Int)+F)) fun X=>cI .u32 z 7 fun Y=>lt (QG .u32 ((Y:Int)+G)) fun Z=>lt [(Qc I),(Qc M),(Qc O),(Qc Q),(Qc S),(Qc U),(Qc X),(Qc Z)] fun C=>chk (0=0∧(XK C)=8∧8≠0) (A C)
theorem zAg{β:Type}(zC:zbL)(xf:xQ)(L:Nat)(O P Q R I J M N:Int)(S:List V)(z A C D E F G H:Int)(k:KK β):(xi 0 (yv (ze zdg (zc7 zC xf L) 0 L zwD) (zD 0 (CF.res cf_sha_Compress) k))) (.exit 0) (zoB O P Q R I J M N S z A C D E F G H)=zf0 zC xf L O P Q R I J M N S z A C D E F G H (fun T=>k (V.agg T) []):=by kernel_rfl
def zdq{β:Type}(zC:zbL)(xf:xQ)(L:Nat)(I:zmA β):Nat→Int→Int→Int→Int→Int→Int→Int→Int→Int→List V→Int→Int→Int→Int→Int→Int→Int→Int→List V→Ob β
 | 0,_,_,_,_,_,_,_,_,_,_,_,_,_,_,_,_,_,_,_=>none
 | n+1,Q,R,S,T,J,M,N,O,P,U,z,A,C,D,E,F,G,H,W=>zeY zC xf L Q R S T J M N O P U z A C D E F G H W (fun Q R S T J M N O P U z A C D E F G H W=>zdq zC xf L I n Q R S T J M N O P U z A C D E F G H W) I
theorem zoK{β:Type}(zC:zbL)(xf:xQ)(L:Nat)(K:KT β):∀ (n:Nat) (O P Q R I J M N T:Int) (S:List V) (z A C D E F G H:Int) (U:List V),zx (ze zdg (zc7 zC xf L) 0 L zkA) zly n (zfi O P Q R I J M N T S z A C D E F G H U) K=zdq zC xf L (fun O P Q R I J M N S z A C D E F G H=>K (.exit 0) (zoB O P Q R I J M N S z A C D E F G H)) n O P Q R I J M N T S z A C D E F G H U:=by
 intro n; induction n <;> intros
 ·rfl
 ·exact (zEm ..).trans (by simp only [*]; rfl)
def zqc{β:Type}(zC:zbL)(xf:xQ)(L:Nat)(W X:List V)(O:List V→Ob β):Ob β:=zxH zC xf L W X (fun P Q R S I J M N U T z A C D E F G H Y=>zdq zC xf L (fun P Q R S I J M N T z A C D E F G H=>zf0 zC xf L P Q R S I J M N T z A C D E F G H O) L P Q R S I J M N U T z A C D E F G H Y)
theorem zRv{β:Type}(zC:zbL)(xf:xQ)(L:Nat)(z A:List V)(k:KK β):zh zdg (zc7 zC xf L) L cf_sha_Compress [(V.agg z),(V.agg A)] [] k=zqc zC xf L z A (fun z=>k (V.agg z) []):=by
 refine (zRy zC xf L z A k).trans ?_
 unfold zqc
 first
  | (simp only [zoK,zAg]; done)
  | (simp only [zoK]; rfl)
abbrev zac:=∀ (β:Type),Nat→List V→List V→(List V→Ob β)→Ob β
def xn:zac:=fun β=>@zqc β zC xf
def zxP(xn:zac)(L:Nat):Dk:=dA AG fun z=>dA AG fun A=>d0 fun β k=>xn β L z A (fun z=>k (V.agg z) [])
theorem zRS(L:Nat):DK (zxP xn L) (fun _=>zh zdg (zc7 zC xf L) L cf_sha_Compress):=xv zak fun z=>xv zak fun A=>yK fun _ k=>zRv zC xf L z A k
def zPd:Hint:=⟨[(1,7)],[],[none,some ((bl 786460 48),(bl 281474439839647 48)),none,some ((bl 20 48),(bl 281474439839647 48)),none,none,some ((bl 2147483732 48),(bl 281474976710527 48)),none,some ((bl 68 48),(bl 281474976710511 48)),none,none],[],[],false,false,[]⟩
def cf_sha_Sum:CF:=cfD zPd 104
def zpx:CC:=xz [1,1,1,1,1,0,1,0,0] cf_sha_Sum.body
def zsN:CC:=xz [1,1,1,0,1,0,0] cf_sha_Sum.body
def zG6:CC:=xz [1,1,1,1,1,1] cf_sha_Sum.body
def zAN:CC:=xz [1,1,1,1] cf_sha_Sum.body
def zcG:Nat→Sh:=zj [(38,(.int .u32))]
def zcH(xC:zbH)(xB:zbI)(xn:zac)(L:Nat):CBC:=(xe 498 (zxP xn L) (xe 496 (zO1 xB L) (xe 497 (zP3 xC L) noC)))
def zvv:St→St:=yM 0 (bl 786460 48) (bl 281474439839647 48)
def zrh:St→St:=yM 0 (bl 2147483732 48) (bl 281474976710527 48)
def zkc(C:Ls)(z A:Int)(D E:List V):St:=⟨(jn 2 ((V.ptr 2 0)::((V.gs 1 C)::((V.ptr 4 0)::(jn 13 ((Qe z)::((Qe A)::(jn 28 [])))))))),(gn 2 ((.live true D)::(gn 1 ((.live true E)::(gn 43 [])))))⟩
def zsm(z A:List V):St:=⟨(jn 2 ((V.ptr 2 0)::(jn 1 ((V.ptr 4 0)::(jn 43 []))))),(gn 2 ((.live true z)::(gn 1 ((.live true A)::(gn 43 [])))))⟩
def zit(z:Int)(A C D:List V):St:=⟨(jn 2 ((V.ptr 2 0)::(jn 1 ((V.ptr 4 0)::(jn 1 ((V.ptr 6 0)::(jn 24 ((Qe z)::(jn 16 []))))))))),(gn 2 ((.live true A)::(gn 1 ((.live true C)::(gn 1 ((.live true D)::(gn 41 [])))))))⟩
def zA1(z A:List V):St:=⟨(jn 2 ((V.ptr 2 0)::(jn 3 ((V.ptr 6 0)::(jn 41 []))))),(gn 2 ((.live true z)::(gn 3 ((.live true A)::(gn 41 [])))))⟩
def zPk{β:Type}(xC:zbH)(xB:zbI)(xn:zac)(L:Nat)(A:Ls)(z:Ls→Int→Int→List V→List V→Ob β):Ob β:=lt (QG .u64 ((XK A:Nat):Int)) fun E=>xC β L E (fun F=>xB β L (yl 1 2 [(V.sl 1 A),(V.sl 1 F)]) (fun C=>chk ((XK (XL 8 gk_sha_initial))=8∧0+8≤8) (lt (zk [(Qc (0:Int)),(Qc (0:Int)),(Qc (0:Int)),(Qc (0:Int)),(Qc (0:Int)),(Qc (0:Int)),(Qc (0:Int)),(Qc (0:Int))] 0 (XL 8 gk_sha_initial)) fun G=>lt (QG .i64 (Int.tdiv ((XK C:Nat):Int) (64:Int))) fun H=>z C H (0:Int) (We 32 (Qa (0:Int))) G))) (fun I=>xB β L (yl 1 2 [(V.sl 1 A),(V.sl 1 I)]) (fun D=>chk ((XK (XL 8 gk_sha_initial))=8∧0+8≤8) (lt (zk [(Qc (0:Int)),(Qc (0:Int)),(Qc (0:Int)),(Qc (0:Int)),(Qc (0:Int)),(Qc (0:Int)),(Qc (0:Int)),(Qc (0:Int))] 0 (XL 8 gk_sha_initial)) fun J=>lt (QG .i64 (Int.tdiv ((XK D:Nat):Int) (64:Int))) fun M=>z D M (0:Int) (We 32 (Qa (0:Int))) J)))
theorem z2j{β:Type}(xC:zbH)(xB:zbI)(xn:zac)(L:Nat)(z:Ls)(k:KK β):zh zcG (zcH xC xB xn L) L cf_sha_Sum [(V.sl 1 z)] [] k=zPk xC xB xn L z (fun D A C E F=>zx (ze zcG (zcH xC xB xn L) 0 L zsN) zvv L (zkc D A C E F) (xi 0 (yv (ze zcG (zcH xC xB xn L) 0 L zAN) (zD 0 (CF.res cf_sha_Sum) k)))):=by kernel_rfl
def zjV{β:Type}(xC:zbH)(xB:zbI)(xn:zac)(L:Nat)(A:Ls)(F D:Int)(I E:List V)(z:Ls→Int→Int→List V→List V→Ob β)(H:List V→List V→Ob β):Ob β:=ifb (decide (D<F)) (chk (0+8≤(XK E)) (lt (QG .i64 (((64:Int):Int)*D)) fun C=>chk (0≤C∧C≤(((XK A):Nat):Int)) (chk (64≤(XK (XL ((XK A)-(XM C)) (XO (XM C) A)))) (xn β L (XL 8 E) (XL 64 (XN (XL 64 (XL ((XK A)-(XM C)) (XO (XM C) A))))) (fun G=>chk ((XK G)=8∧0+8≤(XK E)) (lt (zk E 0 G) fun J=>lt (QG .i64 ((D:Int)+(1:Int))) fun M=>z A F M I J)))))) (H I E)
theorem zQo{β:Type}(xC:zbH)(xB:zbI)(xn:zac)(L:Nat)(E:Ls)(z A:Int)(C D:List V)(X:St→Ob β)(K:KT β):ze zcG (zcH xC xB xn L) 0 L zsN (zkc E z A C D) (yH zvv X K)=zjV xC xB xn L E z A C D (fun E z A C D=>X (zkc E z A C D)) (fun C D=>K (.exit 0) (zsm C D)):=by kernel_rfl
def zrk{β:Type}(xC:zbH)(xB:zbI)(xn:zac)(L:Nat)(A C:List V)(z:Int→List V→List V→List V→Ob β):Ob β:=z (0:Int) A C (We 32 (Qa (0:Int)))
theorem zMG{β:Type}(xC:zbH)(xB:zbI)(xn:zac)(L:Nat)(z A:List V)(k:KK β):(xi 0 (yv (ze zcG (zcH xC xB xn L) 0 L zAN) (zD 0 (CF.res cf_sha_Sum) k))) (.exit 0) (zsm z A)=zrk xC xB xn L z A (fun C z A D=>zx (ze zcG (zcH xC xB xn L) 0 L zpx) zrh L (zit C z A D) (xi 2 (yv (ze zcG (zcH xC xB xn L) 0 L zG6) (zD 0 (CF.res cf_sha_Sum) k)))):=by kernel_rfl
def zhJ{β:Type}(xC:zbH)(xB:zbI)(xn:zac)(L:Nat)(z:Int)(G H E:List V)(A:Int→List V→List V→List V→Ob β)(F:List V→List V→Ob β):Ob β:=ifb (decide (z<(32:Int))) (lt (QG .i64 (Int.tdiv z (4:Int))) fun C=>chk (0≤C∧C<((8:Nat):Int)) (cI .u32 H (0+((XM C)*1)) fun I=>lt (Int.tmod z (4:Int)) fun J=>lt (QG .i64 ((J:Int)*(8:Int))) fun M=>lt (QG .i64 (((24:Int):Int)-M)) fun D=>chk (0≤D) (lt (zcM .u32 I D) fun N=>lt (QG .u8 N) fun O=>chk (0≤z∧z<((32:Nat):Int)) (chk (1=1∧(0+((XM z)*1))+1≤(XK E)) (lt (zk E (0+((XM z)*1)) [(Qa O)]) fun P=>lt (QG .i64 ((z:Int)+(1:Int))) fun Q=>A Q G H P))))) (F G E)
theorem zMi{β:Type}(xC:zbH)(xB:zbI)(xn:zac)(L:Nat)(z:Int)(A D C:List V)(X:St→Ob β)(K:KT β):ze zcG (zcH xC xB xn L) 0 L zpx (zit z A D C) (yH zrh X K)=zhJ xC xB xn L z A D C (fun z A D C=>X (zit z A D C)) (fun A C=>K (.exit 2) (zA1 A C)):=by kernel_rfl
def znF{β:Type}(xC:zbH)(xB:zbI)(xn:zac)(L:Nat)(D C:List V)(z:List V→Ob β):Ob β:=chk (0+32≤(XK C)) (chk ((XK (XL 32 C))=32∧0+32≤(XK D)) (lt (zk D 0 (XL 32 C)) fun A=>chk (0=0∧(XK A)=32∧32≠0) (z A)))
theorem zIz{β:Type}(xC:zbH)(xB:zbI)(xn:zac)(L:Nat)(z A:List V)(k:KK β):(xi 2 (yv (ze zcG (zcH xC xB xn L) 0 L zG6) (zD 0 (CF.res cf_sha_Sum) k))) (.exit 2) (zA1 z A)=znF xC xB xn L z A (fun C=>k (V.agg C) []):=by kernel_rfl
def zhk{β:Type}(xC:zbH)(xB:zbI)(xn:zac)(L:Nat)(z:List V→List V→Ob β):Nat→Ls→Int→Int→List V→List V→Ob β
 | 0,_,_,_,_,_=>none
 | n+1,D,A,C,E,F=>zjV xC xB xn L D A C E F (fun D A C E F=>zhk xC xB xn L z n D A C E F) z
theorem zzm{β:Type}(xC:zbH)(xB:zbI)(xn:zac)(L:Nat)(K:KT β):∀ (n:Nat) (E:Ls) (C D:Int) (z A:List V),zx (ze zcG (zcH xC xB xn L) 0 L zsN) zvv n (zkc E C D z A) K=zhk xC xB xn L (fun z A=>K (.exit 0) (zsm z A)) n E C D z A:=by
 intro n; induction n <;> intros
 ·rfl
 ·exact (zQo ..).trans (by simp only [*]; rfl)
def zfM{β:Type}(xC:zbH)(xB:zbI)(xn:zac)(L:Nat)(z:List V→List V→Ob β):Nat→Int→List V→List V→List V→Ob β
 | 0,_,_,_,_=>none
 | n+1,A,C,D,E=>zhJ xC xB xn L A C D E (fun A C D E=>zfM xC xB xn L z n A C D E) z
theorem zuz{β:Type}(xC:zbH)(xB:zbI)(xn:zac)(L:Nat)(K:KT β):∀ (n:Nat) (C:Int) (z D A:List V),zx (ze zcG (zcH xC xB xn L) 0 L zpx) zrh n (zit C z D A) K=zfM xC xB xn L (fun z A=>K (.exit 2) (zA1 z A)) n C z D A:=by
 intro n; induction n <;> intros
 ·rfl
 ·exact (zMi ..).trans (by simp only [*]; rfl)
def zjZ{β:Type}(xC:zbH)(xB:zbI)(xn:zac)(L:Nat)(z C:List V)(A:List V→Ob β):Ob β:=zrk xC xB xn L z C (fun E z C D=>zfM xC xB xn L (fun z D=>znF xC xB xn L z D A) L E z C D)
theorem zKw{β:Type}(xC:zbH)(xB:zbI)(xn:zac)(L:Nat)(z A:List V)(k:KK β):(xi 0 (yv (ze zcG (zcH xC xB xn L) 0 L zAN) (zD 0 (CF.res cf_sha_Sum) k))) (.exit 0) (zsm z A)=zjZ xC xB xn L z A (fun C=>k (V.agg C) []):=by
 refine (zMG xC xB xn L z A k).trans ?_
 unfold zjZ
 first
  | (simp only [zuz,zIz]; done)
  | (simp only [zuz]; rfl)
def zGT{β:Type}(xC:zbH)(xB:zbI)(xn:zac)(L:Nat)(F:Ls)(z:List V→Ob β):Ob β:=zPk xC xB xn L F (fun G D E A C=>zhk xC xB xn L (fun A C=>zjZ xC xB xn L A C z) L G D E A C)
theorem z1m{β:Type}(xC:zbH)(xB:zbI)(xn:zac)(L:Nat)(z:Ls)(k:KK β):zh zcG (zcH xC xB xn L) L cf_sha_Sum [(V.sl 1 z)] [] k=zGT xC xB xn L z (fun z=>k (V.agg z) []):=by
 refine (z2j xC xB xn L z k).trans ?_
 unfold zGT
 first
  | (simp only [zzm,zKw]; done)
  | (simp only [zzm]; rfl)
abbrev zlU:=∀ (β:Type),Nat→Ls→(List V→Ob β)→Ob β
def zam:zlU:=fun β=>@zGT β xC xB xn
def zyE(zam:zlU)(L:Nat):Dk:=dA (AL 1) fun z=>d0 fun β k=>zam β L z (fun z=>k (V.agg z) [])
theorem z2O(L:Nat):DK (zyE zam L) (fun _=>zh zcG (zcH xC xB xn L) L cf_sha_Sum):=xv zaZ fun z=>yK fun _ k=>z1m xC xB xn L z k
def zGR:Hint:=⟨[],[],[none],[],[],false,false,[]⟩
def zNU:CF:=cfD zGR 63
def zz2:Nat→Sh:=zj []
def zAD(zam:zlU)(L:Nat):CBC:=(xe 458 (zyE zam L) noC)
def zE2{β:Type}(zam:zlU)(L:Nat)(H:Ls)(z:List V→Ob β):Ob β:=zam β L H (fun C=>chk ((XK C)=32∧0+32≤32) (lt (zk (We 32 (Qa (0:Int))) 0 C) fun A=>chk (0+32*1≤(XK A)) (ifb (List.isEmpty A) (zam β L (yl 1 32 A) (fun D=>chk ((XK D)=32∧0+32≤32) (lt (zk (We 32 (Qa (0:Int))) 0 D) fun E=>chk (0=0∧(XK E)=32∧32≠0) (z E)))) (zam β L (yl 1 32 A) (fun F=>chk ((XK F)=32∧0+32≤32) (lt (zk (We 32 (Qa (0:Int))) 0 F) fun G=>chk (0=0∧(XK G)=32∧32≠0) (z G)))))))
theorem zV4{β:Type}(zam:zlU)(L:Nat)(z:Ls)(k:KK β):zh zz2 (zAD zam L) L zNU [(V.sl 1 z)] [] k=zE2 zam L z (fun z=>k (V.agg z) []):=by kernel_rfl
abbrev zg3:=∀ (β:Type),Nat→Ls→(List V→Ob β)→Ob β
def xX:zg3:=fun β=>@zE2 β zam
def zpK(xX:zg3)(L:Nat):Dk:=dA (AL 1) fun z=>d0 fun β k=>xX β L z (fun z=>k (V.agg z) [])
theorem zWw(L:Nat):DK (zpK xX L) (fun _=>zh zz2 (zAD zam L) L zNU):=xv zaZ fun z=>yK fun _ k=>zV4 zam L z k
def zKd:Hint:=⟨[(0,0),(1,3),(1,4)],[],[none,none,none],[],[],false,false,[]⟩
def zDp:CF:=cfD zKd 81
def zEs:Nat→Sh:=zj []
def zEJ(yA:zbq)(xX:zg3)(L:Nat):CBC:=(xe 501 (zpK xX L) (xe 128 (zrL yA L) noC))
def zH7{β:Type}(yA:zbq)(xX:zg3)(L:Nat)(A:List V)(F:Bool)(z:List V→Ob β):Ob β:=chk (0+4≤(XK A)) (yA β L (Xv V.dem (XL 4 A)) F (fun G H=>ifb ((H:Int) != (0:Int)) (lt (We 32 (Qa (0:Int))) fun C=>chk (0=0∧(XK C)=32∧32≠0) (z C)) (xX β L G (fun D=>chk ((XK D)=32∧0+32≤32) (lt (zk (We 32 (Qa (0:Int))) 0 D) fun E=>chk (0=0∧(XK E)=32∧32≠0) (z E))))))
theorem zW2{β:Type}(yA:zbq)(xX:zg3)(L:Nat)(z:List V)(A:Bool)(k:KK β):zh zEs (zEJ yA xX L) L zDp [(V.agg z),(V.sc (.bool A))] [] k=zH7 yA xX L z A (fun z=>k (V.agg z) []):=by kernel_rfl
abbrev zkl:=∀ (β:Type),Nat→List V→Bool→(List V→Ob β)→Ob β
def zaJ:zkl:=fun β=>@zH7 β yA xX
def zyu(zaJ:zkl)(L:Nat):Dk:=dA AG fun z=>dA AB fun A=>d0 fun β k=>zaJ β L z A (fun z=>k (V.agg z) [])
theorem zXG(L:Nat):DK (zyu zaJ L) (fun _=>zh zEs (zEJ yA xX L) L zDp):=xv zak fun z=>xv zUm fun A=>yK fun _ k=>zW2 yA xX L z A k
def zV5:Hint:=⟨[(0,0)],[],[none],[],[],false,false,[]⟩
def z76:CF:=cfD zV5 85
def ycG:Nat→Sh:=zj []
def ycB(zaJ:zkl)(L:Nat):CBC:=(xe 583 (zyu zaJ L) noC)
def z9R{β:Type}(zaJ:zkl)(L:Nat)(A:List V)(z:List V→Ob β):Ob β:=chk (0+4≤(XK A)) (zaJ β L (Xv V.dem (XL 4 A)) false (fun C=>chk ((XK C)=32∧0+32≤32) (lt (zk (We 32 (Qa (0:Int))) 0 C) fun D=>chk (0=0∧(XK D)=32∧32≠0) (z D))))
abbrev zbo:=∀ (β:Type),Nat→List V→(List V→Ob β)→Ob β
def xN:zbo:=fun β=>@z9R β zaJ
def yaI(xN:zbo)(L:Nat):Dk:=dA AG fun z=>d0 fun β k=>xN β L z (fun z=>k (V.agg z) [])
end
end
end Go.Proofs.YtgmhijonllockaaGreatDoor
