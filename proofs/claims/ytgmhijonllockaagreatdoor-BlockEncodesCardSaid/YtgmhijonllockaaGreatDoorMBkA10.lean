/- Part 10 of the proof of BkA: an abstract machine over plain values, its soundness, and the functions of the program on plain values. -/
import Derived.Test.YtgmhijonllockaaGreatDoorMBkA9
namespace Go.Proofs.YtgmhijonllockaaGreatDoor
set_option maxRecDepth 100000
set_option linter.unusedVariables false
set_option linter.unusedSimpArgs false
open List renaming length->XK,take->XL,replicate->We,map->Xv,drop->XO,flatten->XN
open IntKind renaming wrap->QG
open Int renaming toNat->XM
section
noncomputable section
def zBM:Hint:=⟨[(0,0),(1,6),(2,0),(2,3),(3,0),(3,3)],[],[none],[],[],false,false,[]⟩
def zGU:CF:=cfD zBM 74
def zuB:Nat→Sh:=zj []
def zwp(L:Nat):CBC:=noC
def zxz{β:Type}(L:Nat)(z A:Ls)(C:Ls→Ob β):Ob β:=lt (QG .i64 ((((XK z:Nat):Int):Int)+((XK A:Nat):Int))) fun D=>chk (0≤(0:Int)∧(0:Int)≤D∧(XM D)*1≤xm∧D≤xm) (chk ((XK (We 0 [(Qa (0:Int))])+XK z)*1≤xm∧XK (We 0 [(Qa (0:Int))])+XK z≤xm) (lt ((We 0 [(Qa (0:Int))])++z) fun E=>chk ((XK E+XK A)*1≤xm∧XK E+XK A≤xm) (lt (E++A) fun F=>C F)))
theorem zRO{β:Type}(L:Nat)(z A:Ls)(k:KK β):yh zuB (zwp L) L zGU [(V.sl 1 z),(V.sl 1 A)] [] k=zxz L z A (fun z=>k (V.gs 1 z) []):=by kernel_rfl
abbrev zan:=∀ (β:Type),Nat→Ls→Ls→(Ls→Ob β)→Ob β
def xl:zan:=fun β=>@zxz β
def ze1(xl:zan)(L:Nat):Dk:=dA (AL 1) fun z=>dA (AL 1) fun A=>d0 fun β k=>xl β L z A (fun z=>k (V.gs 1 z) [])
theorem zRT(L:Nat):DK (ze1 xl L) (fun _=>yh zuB (zwp L) L zGU):=xv zaZ fun z=>xv zaZ fun A=>yK fun _ k=>zRO L z A k
def zvI:Hint:=⟨[(0,0),(1,5)],[],[none],[],[],false,false,[]⟩
def zy6:CF:=cfD zvI 61
def zpD:Nat→Sh:=zj []
def zpG(yD:zcp)(xl:zan)(L:Nat):CBC:=(xe 191 (ze1 xl L) (xe 192 (zkY yD L) noC))
def zqB{β:Type}(yD:zcp)(xl:zan)(L:Nat)(A:Ls)(C:Int)(z:Ls→Ob β):Ob β:=lt (QG .u64 C) fun D=>yD β L D (4:Int) (fun E=>xl β L A E (fun F=>z F))
theorem zMJ{β:Type}(yD:zcp)(xl:zan)(L:Nat)(z:Ls)(A:Int)(k:KK β):yh zpD (zpG yD xl L) L zy6 [(V.sl 1 z),(Qc A)] [] k=zqB yD xl L z A (fun z=>k (V.gs 1 z) []):=by kernel_rfl
abbrev xt:=∀ (β:Type),Nat→Ls→Int→(Ls→Ob β)→Ob β
def yb:xt:=fun β=>@zqB β yD xl
def zfL(yb:xt)(L:Nat):Dk:=dA (AL 1) fun z=>dA (AI .u32) fun A=>d0 fun β k=>yb β L z A (fun z=>k (V.gs 1 z) [])
theorem zMB(L:Nat):DK (zfL yb L) (fun _=>yh zpD (zpG yD xl L) L zy6):=xv zaZ fun z=>xv zbN fun A=>yK fun _ k=>zMJ yD xl L z A k
def ztA:Hint:=⟨[(0,1),(1,3)],[],[none],[],[],false,false,[]⟩
def zwR:CF:=cfD ztA 62
def znT:Nat→Sh:=zj []
def znD(xl:zan)(L:Nat):CBC:=(xe 191 (ze1 xl L) noC)
def zjY{β:Type}(xl:zan)(L:Nat)(C:Ls)(A:List V)(z:Ls→Ob β):Ob β:=chk (0+32*1≤(XK A)) (ifb (List.isEmpty A) (xl β L C (yl 1 32 A) (fun D=>z D)) (xl β L C (yl 1 32 A) (fun E=>z E)))
theorem zJr{β:Type}(xl:zan)(L:Nat)(z:Ls)(A:List V)(k:KK β):yh znT (znD xl L) L zwR [(V.sl 1 z),(V.agg A)] [] k=zjY xl L z A (fun z=>k (V.gs 1 z) []):=by kernel_rfl
abbrev zcB:=∀ (β:Type),Nat→Ls→List V→(Ls→Ob β)→Ob β
def zH:zcB:=fun β=>@zjY β xl
def zkb(zH:zcB)(L:Nat):Dk:=dA (AL 1) fun z=>dA AG fun A=>d0 fun β k=>zH β L z A (fun z=>k (V.gs 1 z) [])
theorem zI8(L:Nat):DK (zkb zH L) (fun _=>yh znT (znD xl L) L zwR):=xv zaZ fun z=>xv zak fun A=>yK fun _ k=>zJr xl L z A k
def zqw:Hint:=⟨[(0,1),(6,4)],[],[none],[],[],false,false,[]⟩
def ztl:CF:=cfD zqw 28
def zli:Nat→Sh:=zj [(5,(.int .u32)),(17,(.int .u32)),(21,(.int .u32)),(25,(.int .u32))]
def zld(yb:xt)(zH:zcB)(L:Nat):CBC:=(xe 158 (zkb zH L) (xe 157 (zfL yb L) noC))
def zmW{β:Type}(yb:xt)(zH:zcB)(L:Nat)(z:List V)(A:Ls→Ob β):Ob β:=cI .u32 z 0 fun C=>yb β L ([]:Ls) C (fun D=>chk (1+32≤(XK z)) (zH β L D (XL 32 (XO 1 z)) (fun E=>chk (33+32≤(XK z)) (zH β L E (XL 32 (XO 33 z)) (fun F=>cI .u32 z 65 fun G=>yb β L F G (fun H=>cI .u32 z 66 fun I=>yb β L H I (fun J=>cI .u32 z 67 fun M=>yb β L J M (fun N=>A N))))))))
theorem zFm{β:Type}(yb:xt)(zH:zcB)(L:Nat)(z:List V)(k:KK β):yh zli (zld yb zH L) L ztl [(V.agg z)] [] k=zmW yb zH L z (fun z=>k (V.gs 1 z) []):=by kernel_rfl
abbrev zO:=∀ (β:Type),Nat→List V→(Ls→Ob β)→Ob β
def zg:zO:=fun β=>@zmW β yb zH
def zd0(zg:zO)(L:Nat):Dk:=dA AG fun z=>d0 fun β k=>zg β L z (fun z=>k (V.gs 1 z) [])
theorem zFe(L:Nat):DK (zd0 zg L) (fun _=>yh zli (zld yb zH L) L ztl):=xv zak fun z=>yK fun _ k=>zFm yb zH L z k
def zuh:Hint:=⟨[(0,0),(1,5)],[],[none],[],[],false,false,[]⟩
def zzB:CF:=cfD zuh 75
def zo3:Nat→Sh:=zj []
def zpB(yD:zcp)(xl:zan)(L:Nat):CBC:=(xe 191 (ze1 xl L) (xe 192 (zkY yD L) noC))
def zrm{β:Type}(yD:zcp)(xl:zan)(L:Nat)(A:Ls)(C:Int)(z:Ls→Ob β):Ob β:=lt (QG .u64 C) fun D=>yD β L D (2:Int) (fun E=>xl β L A E (fun F=>z F))
theorem zLV{β:Type}(yD:zcp)(xl:zan)(L:Nat)(z:Ls)(A:Int)(k:KK β):yh zo3 (zpB yD xl L) L zzB [(V.sl 1 z),(Qb A)] [] k=zrm yD xl L z A (fun z=>k (V.gs 1 z) []):=by kernel_rfl
abbrev zhF:=∀ (β:Type),Nat→Ls→Int→(Ls→Ob β)→Ob β
def zae:zhF:=fun β=>@zrm β yD xl
def zq8(zae:zhF)(L:Nat):Dk:=dA (AL 1) fun z=>dA (AI .u16) fun A=>d0 fun β k=>zae β L z A (fun z=>k (V.gs 1 z) [])
theorem zLP(L:Nat):DK (zq8 zae L) (fun _=>yh zo3 (zpB yD xl L) L zzB):=xv zaZ fun z=>xv zbN fun A=>yK fun _ k=>zLV yD xl L z A k
def zwm:Hint:=⟨[(0,0),(1,4)],[],[none],[],[],false,false,[]⟩
def zyF:CF:=cfD zwm 76
def zpc:Nat→Sh:=zj []
def zpE(yD:zcp)(xl:zan)(L:Nat):CBC:=(xe 191 (ze1 xl L) (xe 192 (zkY yD L) noC))
def zq2{β:Type}(yD:zcp)(xl:zan)(L:Nat)(A:Ls)(C:Int)(z:Ls→Ob β):Ob β:=yD β L C (8:Int) (fun D=>xl β L A D (fun E=>z E))
theorem zLx{β:Type}(yD:zcp)(xl:zan)(L:Nat)(z:Ls)(A:Int)(k:KK β):yh zpc (zpE yD xl L) L zyF [(V.sl 1 z),(Qd A)] [] k=zq2 yD xl L z A (fun z=>k (V.gs 1 z) []):=by kernel_rfl
abbrev yx:=∀ (β:Type),Nat→Ls→Int→(Ls→Ob β)→Ob β
def zd:yx:=fun β=>@zq2 β yD xl
def zkO(zd:yx)(L:Nat):Dk:=dA (AL 1) fun z=>dA (AI .u64) fun A=>d0 fun β k=>zd β L z A (fun z=>k (V.gs 1 z) [])
theorem zMD(L:Nat):DK (zkO zd L) (fun _=>yh zpc (zpE yD xl L) L zyF):=xv zaZ fun z=>xv zbN fun A=>yK fun _ k=>zLx yD xl L z A k
def ztB:Hint:=⟨[(0,0),(2,5),(4,6),(6,6),(7,5)],[],[none,none,none,none,none,none,none,none],[],[],false,false,[]⟩
def zwK:CF:=cfD ztB 36
def znK:Nat→Sh:=zj []
def znI(xl:zan)(zae:zhF)(yb:xt)(zd:yx)(L:Nat):CBC:=(xe 183 (zkO zd L) (xe 157 (zfL yb L) (xe 205 (zq8 zae L) (xe 191 (ze1 xl L) noC))))
def zpr{β:Type}(xl:zan)(zae:zhF)(yb:xt)(zd:yx)(L:Nat)(C:Ls)(A:Int)(z:Ls→Ob β):Ob β:=ifb (decide (A<(253:Int))) (lt (QG .u8 A) fun D=>xl β L C (yl 1 1 [(Qa D)]) (fun E=>z E)) (ifb (decide (A<(65536:Int))) (xl β L C (yl 1 1 [(Qa (253:Int))]) (fun F=>lt (QG .u16 A) fun G=>zae β L F G (fun H=>z H))) (ifb (decide (A<(4294967296:Int))) (xl β L C (yl 1 1 [(Qa (254:Int))]) (fun I=>lt (QG .u32 A) fun J=>yb β L I J (fun M=>z M))) (xl β L C (yl 1 1 [(Qa (255:Int))]) (fun N=>zd β L N A (fun O=>z O)))))
theorem zJX{β:Type}(xl:zan)(zae:zhF)(yb:xt)(zd:yx)(L:Nat)(z:Ls)(A:Int)(k:KK β):yh znK (znI xl zae yb zd L) L zwK [(V.sl 1 z),(Qd A)] [] k=zpr xl zae yb zd L z A (fun z=>k (V.gs 1 z) []):=by kernel_rfl
abbrev zo:=∀ (β:Type),Nat→Ls→Int→(Ls→Ob β)→Ob β
def za:zo:=fun β=>@zpr β xl zae yb zd
def zg8(za:zo)(L:Nat):Dk:=dA (AL 1) fun z=>dA (AI .u64) fun A=>d0 fun β k=>za β L z A (fun z=>k (V.gs 1 z) [])
theorem zJT(L:Nat):DK (zg8 za L) (fun _=>yh znK (znI xl zae yb zd L) L zwK):=xv zaZ fun z=>xv zbN fun A=>yK fun _ k=>zJX xl zae yb zd L z A k
def zNM:Hint:=⟨[(0,1),(1,6)],[],[none],[],[],false,false,[]⟩
def zSH:CF:=cfD zNM 126
def zIW:Nat→Sh:=zj [(7,(.int .u32))]
def zH4(zH:zcB)(yb:xt)(L:Nat):CBC:=(xe 157 (zfL yb L) (xe 158 (zkb zH L) noC))
def zMf{β:Type}(zH:zcB)(yb:xt)(L:Nat)(A:List V)(z:Ls→Ob β):Ob β:=chk (0+32≤(XK A)) (zH β L ([]:Ls) (XL 32 A) (fun C=>cI .u32 A 32 fun D=>yb β L C D (fun E=>z E)))
theorem z0t{β:Type}(zH:zcB)(yb:xt)(L:Nat)(z:List V)(k:KK β):yh zIW (zH4 zH yb L) L zSH [(V.agg z)] [] k=zMf zH yb L z (fun z=>k (V.gs 1 z) []):=by kernel_rfl
abbrev yW:=∀ (β:Type),Nat→List V→(Ls→Ob β)→Ob β
def yk:yW:=fun β=>@zMf β zH yb
def zLQ(yk:yW)(L:Nat):Dk:=dA AG fun z=>d0 fun β k=>yk β L z (fun z=>k (V.gs 1 z) [])
theorem z0s(L:Nat):DK (zLQ yk L) (fun _=>yh zIW (zH4 zH yb L) L zSH):=xv zak fun z=>yK fun _ k=>z0t zH yb L z k
def zrH:Hint:=⟨[(0,0),(1,7)],[],[none],[],[],false,false,[]⟩
def zt3:CF:=cfD zrH 127
def zmm:Nat→Sh:=zj []
def zmh(za:zo)(xl:zan)(L:Nat):CBC:=(xe 191 (ze1 xl L) (xe 182 (zg8 za L) noC))
def znF{β:Type}(za:zo)(xl:zan)(L:Nat)(C A:Ls)(z:Ls→Ob β):Ob β:=lt (QG .u64 ((XK A:Nat):Int)) fun D=>za β L C D (fun E=>xl β L E A (fun F=>z F))
theorem zIQ{β:Type}(za:zo)(xl:zan)(L:Nat)(z A:Ls)(k:KK β):yh zmm (zmh za xl L) L zt3 [(V.sl 1 z),(V.sl 1 A)] [] k=znF za xl L z A (fun z=>k (V.gs 1 z) []):=by kernel_rfl
abbrev yw:=∀ (β:Type),Nat→Ls→Ls→(Ls→Ob β)→Ob β
def xc:yw:=fun β=>@znF β za xl
def znH(xc:yw)(L:Nat):Dk:=dA (AL 1) fun z=>dA (AL 1) fun A=>d0 fun β k=>xc β L z A (fun z=>k (V.gs 1 z) [])
theorem zIc(L:Nat):DK (znH xc L) (fun _=>yh zmm (zmh za xl L) L zt3):=xv zaZ fun z=>xv zaZ fun A=>yK fun _ k=>zIQ za xl L z A k
def zJo:Hint:=⟨[(0,0),(0,1),(1,3),(2,0),(2,7),(5,2),(6,0),(6,5),(7,0),(7,5),(9,0),(9,7),(12,2),(13,0),(13,6),(14,0),(14,5),(16,0),(16,5),(18,0),(18,1),(21,2),(22,0),(22,7),(26,0),(26,4),(29,0),(29,1)],[],[none,some ((bl 234881062 104),(bl 20282409603651670422246444234111 104)),none,some ((bl 38 104),(bl 20282409603651670422246444234111 104)),none,none,some ((bl 7881299347898406 104),(bl 20282409603537531194991173432703 104)),none,some ((bl 38 104),(bl 20282409603537531194991173432703 104)),none,none,none,none,some ((bl 1057810092162800527867936 104),(bl 18374976116870265429129244431739 104)),none,some ((bl 32 104),(bl 18374976116870265429129244431739 104)),none,none,some ((bl 17332218360087486649115607072 104),(bl 18380933703309326321702196467067 104)),none,some ((bl 1057810092162800527867936 104),(bl 18380933703309326321702196467067 104)),none,none],[],[],false,false,[]⟩
def cf_tx_encode:CF:=cfD zJo 78
def zeQ:CC:=yz [1,1,1,1,1,1,1,1,0,1,0,0,1,1,0,0,1,1,1,0,0] cf_tx_encode.body
def zm6:CC:=yz [1,1,1,1,1,1,1,1,0,1,0,0,1,1,1] cf_tx_encode.body
def zf0:CC:=yz [1,1,1,1,1,1,1,1,0,1,0,0] cf_tx_encode.body
def zmD:CC:=yz [1,1,1,1,1,0,1,0,0] cf_tx_encode.body
def zue:CC:=yz [1,1,1,1,1,1,1,1,1] cf_tx_encode.body
def zoE:CC:=yz [1,1,1,0,1,0,0] cf_tx_encode.body
def zq0:CC:=yz [1,1,1,1,1,1] cf_tx_encode.body
def zt9:CC:=yz [1,1,1,1] cf_tx_encode.body
def y4:Nat→Sh:=zj [(15,(.int .u32)),(19,(.sl 35)),(25,(.sl 35)),(38,(.int .u32)),(44,(.sl 2)),(50,(.sl 2)),(58,(.int .i64)),(64,(.sl 1)),(70,(.int .u32)),(77,(.sl 35)),(85,(.sl 1)),(91,(.sl 1)),(96,(.sl 1))]
def xZ(yb:xt)(za:zo)(yk:yW)(zd:yx)(xc:yw)(L:Nat):CBC:=(xe 184 (znH xc L) (xe 183 (zkO zd L) (xe 137 (zLQ yk L) (xe 182 (zg8 za L) (xe 157 (zfL yb L) noC)))))
def zrd:St→St:=yM 0 (bl 234881062 104) (bl 20282409603651670422246444234111 104)
def znr:St→St:=yM 0 (bl 7881299347898406 104) (bl 20282409603537531194991173432703 104)
def zcQ:St→St:=yM 0 (bl 1057810092162800527867936 104) (bl 18374976116870265429129244431739 104)
def ze9:St→St:=yM 0 (bl 17332218360087486649115607072 104) (bl 18380933703309326321702196467067 104)
def zid(D:Bool)(E z:Ls)(A C:Int)(F:List V):St:=⟨(jn 1 ((V.sc (.bool D))::((V.ptr 2 0)::(jn 2 ((V.gs 1 E)::(jn 19 ((V.sl 35 z)::((Qe A)::((Qe C)::(jn 76 [])))))))))),(gn 2 ((.live true F)::(gn 101 [])))⟩
def zoh(z:Bool)(A:Ls)(C:List V):St:=⟨(jn 1 ((V.sc (.bool z))::((V.ptr 2 0)::(jn 2 ((V.gs 1 A)::(jn 98 [])))))),(gn 2 ((.live true C)::(gn 101 [])))⟩
def zgM(D:Bool)(E z:Ls)(A C:Int)(F:List V):St:=⟨(jn 1 ((V.sc (.bool D))::((V.ptr 2 0)::(jn 2 ((V.gs 1 E)::(jn 44 ((V.sl 2 z)::((Qe A)::((Qe C)::(jn 51 [])))))))))),(gn 2 ((.live true F)::(gn 101 [])))⟩
def zog(z:Bool)(A:Ls)(C:List V):St:=⟨(jn 1 ((V.sc (.bool z))::((V.ptr 2 0)::(jn 2 ((V.gs 1 A)::(jn 98 [])))))),(gn 2 ((.live true C)::(gn 101 [])))⟩
def zcg(D z:Ls)(A C:Int):St:=⟨(jn 5 ((V.gs 1 D)::(jn 71 ((V.sl 35 z)::((Qe A)::((Qe C)::(jn 24 []))))))),(gn 104 [])⟩
def zcl(G z:Ls)(A C:Int)(D:Ls)(E F:Int):St:=⟨(jn 5 ((V.gs 1 G)::(jn 71 ((V.sl 35 z)::((Qe A)::((Qe C)::(jn 11 ((V.sl 1 D)::((Qe E)::((Qe F)::(jn 10 []))))))))))),(gn 104 [])⟩
def zoc(z:Ls):St:=⟨(jn 5 ((V.gs 1 z)::(jn 98 []))),(gn 104 [])⟩
def zwf(D z:Ls)(A C:Int):St:=⟨(jn 5 ((V.gs 1 D)::(jn 71 ((V.sl 35 z)::((Qe A)::((Qe C)::(jn 24 []))))))),(gn 104 [])⟩
abbrev zzF(β:Type):Type:=Bool→Ls→Ls→Int→Int→List V→Ob β
abbrev zvE(β:Type):Type:=Bool→Ls→Ls→Int→Int→List V→Ob β
abbrev ziQ(β:Type):Type:=Ls→Ls→Int→Int→Ls→Int→Int→Ob β
def zIs{β:Type}(yb:xt)(za:zo)(yk:yW)(zd:yx)(xc:yw)(L:Nat)(A:List V)(F:Bool)(z:zzF β):Ob β:=cI .u32 A 0 fun G=>yb β L ([]:Ls) G (fun C=>cLd 35 A 1 fun H=>lt (QG .u64 ((XK H:Nat):Int)) fun I=>za β L ([]:Ls) I (fun D=>chk ((XK C+XK D)*1≤xm∧XK C+XK D≤xm) (lt (C++D) fun J=>cLd 35 A 1 fun E=>z F J E ((XK E:Nat):Int) (0:Int) A)))
theorem zX2{β:Type}(yb:xt)(za:zo)(yk:yW)(zd:yx)(xc:yw)(L:Nat)(A:List V)(z:Bool)(k:KK β):yh y4 (xZ yb za yk zd xc L) L cf_tx_encode [(V.agg A),(V.sc (.bool z))] [] k=zIs yb za yk zd xc L A z (fun z F C D E G=>zx (ze y4 (xZ yb za yk zd xc L) 0 L zoE) zrd L (zid z F C D E G) (xi 0 (yv (ze y4 (xZ yb za yk zd xc L) 0 L zt9) (zD 0 (CF.res cf_tx_encode) k)))):=by kernel_rfl
def zrn{β:Type}(yb:xt)(za:zo)(yk:yW)(zd:yx)(xc:yw)(L:Nat)(M:Bool)(E F:Ls)(G A:Int)(N:List V)(z:zzF β)(H:Bool→Ls→List V→Ob β):Ob β:=ifb (decide (A<G)) (idx F A fun O=>chk ((XK (XL 35 O))=35∧0+35≤35) (lt (zk (We 32 (Qa (0:Int))++[(Qc (0:Int)),(Qc (0:Int)),(V.gs 1 ([]:Ls))]) 0 (XL 35 O)) fun I=>chk (0+33≤(XK I)) (yk β L (XL 33 I) (fun J=>chk ((XK E+XK J)*1≤xm∧XK E+XK J≤xm) (lt (E++J) fun C=>cI .u32 I 33 fun P=>yb β L ([]:Ls) P (fun D=>chk ((XK C+XK D)*1≤xm∧XK C+XK D≤xm) (lt (C++D) fun Q=>lt (QG .i64 ((A:Int)+(1:Int))) fun R=>z M Q F G R N))))))) (H M E N)
theorem zLY{β:Type}(yb:xt)(za:zo)(yk:yW)(zd:yx)(xc:yw)(L:Nat)(D:Bool)(E z:Ls)(A C:Int)(F:List V)(X:St→Ob β)(K:KT β):ze y4 (xZ yb za yk zd xc L) 0 L zoE (zid D E z A C F) (yH zrd X K)=zrn yb za yk zd xc L D E z A C F (fun D E z A C F=>X (zid D E z A C F)) (fun D E F=>K (.exit 0) (zoh D E F)):=by kernel_rfl
def zns{β:Type}(yb:xt)(za:zo)(yk:yW)(zd:yx)(xc:yw)(L:Nat)(I:Bool)(D:Ls)(E:List V)(z:zvE β):Ob β:=cLd 2 E 2 fun F=>lt (QG .u64 ((XK F:Nat):Int)) fun G=>za β L ([]:Ls) G (fun A=>chk ((XK D+XK A)*1≤xm∧XK D+XK A≤xm) (lt (D++A) fun H=>cLd 2 E 2 fun C=>z I H C ((XK C:Nat):Int) (0:Int) E))
theorem zIC{β:Type}(yb:xt)(za:zo)(yk:yW)(zd:yx)(xc:yw)(L:Nat)(z:Bool)(A:Ls)(C:List V)(k:KK β):(xi 0 (yv (ze y4 (xZ yb za yk zd xc L) 0 L zt9) (zD 0 (CF.res cf_tx_encode) k))) (.exit 0) (zoh z A C)=zns yb za yk zd xc L z A C (fun z A D E F C=>zx (ze y4 (xZ yb za yk zd xc L) 0 L zmD) znr L (zgM z A D E F C) (xi 2 (yv (ze y4 (xZ yb za yk zd xc L) 0 L zq0) (zD 0 (CF.res cf_tx_encode) k)))):=by kernel_rfl
def znC{β:Type}(yb:xt)(za:zo)(yk:yW)(zd:yx)(xc:yw)(L:Nat)(N:Bool)(F G:Ls)(H A:Int)(O:List V)(z:zvE β)(M:Bool→Ls→List V→Ob β):Ob β:=ifb (decide (A<H)) (idx G A fun I=>chk ((XK (XL 2 I))=2∧0+2≤2) (lt (zk [(Qe (0:Int)),(V.gs 1 ([]:Ls))] 0 (XL 2 I)) fun J=>cI .i64 J 0 fun P=>lt (QG .u64 P) fun Q=>zd β L ([]:Ls) Q (fun C=>chk ((XK F+XK C)*1≤xm∧XK F+XK C≤xm) (lt (F++C) fun D=>cLd 1 J 1 fun R=>xc β L ([]:Ls) R (fun E=>chk ((XK D+XK E)*1≤xm∧XK D+XK E≤xm) (lt (D++E) fun S=>lt (QG .i64 ((A:Int)+(1:Int))) fun T=>z N S G H T O)))))) (M N F O)
theorem zHU{β:Type}(yb:xt)(za:zo)(yk:yW)(zd:yx)(xc:yw)(L:Nat)(D:Bool)(E z:Ls)(A C:Int)(F:List V)(X:St→Ob β)(K:KT β):ze y4 (xZ yb za yk zd xc L) 0 L zmD (zgM D E z A C F) (yH znr X K)=znC yb za yk zd xc L D E z A C F (fun D E z A C F=>X (zgM D E z A C F)) (fun D E F=>K (.exit 2) (zog D E F)):=by kernel_rfl
def zlF{β:Type}(yb:xt)(za:zo)(yk:yW)(zd:yx)(xc:yw)(L:Nat)(I:Bool)(F:Ls)(G:List V)(C:Ls→Ob β)(z:Ls→Ls→Int→Int→Ob β):Ob β:=cI .u32 G 3 fun H=>yb β L ([]:Ls) H (fun A=>chk ((XK F+XK A)*1≤xm∧XK F+XK A≤xm) (lt (F++A) fun D=>ifb (!I) (C D) (cLd 35 G 1 fun E=>z D E ((XK E:Nat):Int) (0:Int))))
theorem zD1{β:Type}(yb:xt)(za:zo)(yk:yW)(zd:yx)(xc:yw)(L:Nat)(A:Bool)(z:Ls)(C:List V)(k:KK β):(xi 2 (yv (ze y4 (xZ yb za yk zd xc L) 0 L zq0) (zD 0 (CF.res cf_tx_encode) k))) (.exit 2) (zog A z C)=zlF yb za yk zd xc L A z C (fun G=>k (V.gs 1 G) []) (fun z D E F=>zx (ze y4 (xZ yb za yk zd xc L) 0 L zf0) zcQ L (zcg z D E F) (xi 4 (yv (ze y4 (xZ yb za yk zd xc L) 0 L zue) (zD 0 (CF.res cf_tx_encode) k)))):=by kernel_rfl
def zks{β:Type}(yb:xt)(za:zo)(yk:yW)(zd:yx)(xc:yw)(L:Nat)(D E:Ls)(F A:Int)(z:ziQ β)(J:Ls→Ob β):Ob β:=ifb (decide (A<F)) (idx E A fun G=>chk ((XK (XL 35 G))=35∧0+35≤35) (lt (zk (We 32 (Qa (0:Int))++[(Qc (0:Int)),(Qc (0:Int)),(V.gs 1 ([]:Ls))]) 0 (XL 35 G)) fun H=>cLd 1 H 34 fun M=>lt (QG .u64 ((XK M:Nat):Int)) fun N=>za β L ([]:Ls) N (fun C=>chk ((XK D+XK C)*1≤xm∧XK D+XK C≤xm) (lt (D++C) fun O=>cLd 1 H 34 fun I=>z O E F A I ((XK I:Nat):Int) (0:Int))))) (J D)
theorem zCd{β:Type}(yb:xt)(za:zo)(yk:yW)(zd:yx)(xc:yw)(L:Nat)(D z:Ls)(A C:Int)(X:St→Ob β)(K:KT β):ze y4 (xZ yb za yk zd xc L) 0 L zf0 (zcg D z A C) (yH zcQ X K)=zks yb za yk zd xc L D z A C (fun D z A C E F G=>zx (ze y4 (xZ yb za yk zd xc L) 0 L zeQ) ze9 L (zcl D z A C E F G) (xi 6 (xi 5 (yv (ze y4 (xZ yb za yk zd xc L) 0 L zm6) (yH zcQ X K))))) (fun D=>K (.exit 4) (zoc D)):=by kernel_rfl
def ziM{β:Type}(yb:xt)(za:zo)(yk:yW)(zd:yx)(xc:yw)(L:Nat)(A:Ls)(z:Ls→Ob β):Ob β:=z A
theorem zyZ{β:Type}(yb:xt)(za:zo)(yk:yW)(zd:yx)(xc:yw)(L:Nat)(z:Ls)(k:KK β):(xi 4 (yv (ze y4 (xZ yb za yk zd xc L) 0 L zue) (zD 0 (CF.res cf_tx_encode) k))) (.exit 4) (zoc z)=ziM yb za yk zd xc L z (fun A=>k (V.gs 1 A) []):=by kernel_rfl
def zfa{β:Type}(yb:xt)(za:zo)(yk:yW)(zd:yx)(xc:yw)(L:Nat)(D E:Ls)(F G:Int)(H:Ls)(I A:Int)(z:ziQ β)(J:Ls→Ls→Int→Int→Ob β):Ob β:=ifb (decide (A<I)) (idx H A fun M=>cL 1 M 0 fun N=>xc β L ([]:Ls) N (fun C=>chk ((XK D+XK C)*1≤xm∧XK D+XK C≤xm) (lt (D++C) fun O=>lt (QG .i64 ((A:Int)+(1:Int))) fun P=>z O E F G H I P))) (J D E F G)
theorem zrv{β:Type}(yb:xt)(za:zo)(yk:yW)(zd:yx)(xc:yw)(L:Nat)(G z:Ls)(A C:Int)(D:Ls)(E F:Int)(X:St→Ob β)(K:KT β):ze y4 (xZ yb za yk zd xc L) 0 L zeQ (zcl G z A C D E F) (yH ze9 X K)=zfa yb za yk zd xc L G z A C D E F (fun G z A C D E F=>X (zcl G z A C D E F)) (fun G z A C=>K (.exit 6) (zwf G z A C)):=by kernel_rfl
def zeu{β:Type}(yb:xt)(za:zo)(yk:yW)(zd:yx)(xc:yw)(L:Nat)(F A:Ls)(C D:Int)(z:Ls→Ls→Int→Int→Ob β):Ob β:=lt (QG .i64 ((D:Int)+(1:Int))) fun E=>z F A C E
theorem zpk{β:Type}(yb:xt)(za:zo)(yk:yW)(zd:yx)(xc:yw)(L:Nat)(D z:Ls)(A C:Int)(X:St→Ob β)(K:KT β):(xi 6 (xi 5 (yv (ze y4 (xZ yb za yk zd xc L) 0 L zm6) (yH zcQ X K)))) (.exit 6) (zwf D z A C)=zeu yb za yk zd xc L D z A C (fun D z A C=>X (zcg D z A C)):=by kernel_rfl
def zhM{β:Type}(yb:xt)(za:zo)(yk:yW)(zd:yx)(xc:yw)(L:Nat)(z:Bool→Ls→List V→Ob β):Nat→Bool→Ls→Ls→Int→Int→List V→Ob β
 | 0,_,_,_,_,_,_=>none
 | n+1,E,F,A,C,D,G=>zrn yb za yk zd xc L E F A C D G (fun E F A C D G=>zhM yb za yk zd xc L z n E F A C D G) z
theorem zwb{β:Type}(yb:xt)(za:zo)(yk:yW)(zd:yx)(xc:yw)(L:Nat)(K:KT β):∀ (n:Nat) (z:Bool) (A D:Ls) (E F:Int) (C:List V),zx (ze y4 (xZ yb za yk zd xc L) 0 L zoE) zrd n (zid z A D E F C) K=zhM yb za yk zd xc L (fun z A C=>K (.exit 0) (zoh z A C)) n z A D E F C:=by
 intro n; induction n <;> intros
 ·rfl
 ·exact (zLY ..).trans (by simp only [*]; rfl)
def zgb{β:Type}(yb:xt)(za:zo)(yk:yW)(zd:yx)(xc:yw)(L:Nat)(z:Bool→Ls→List V→Ob β):Nat→Bool→Ls→Ls→Int→Int→List V→Ob β
 | 0,_,_,_,_,_,_=>none
 | n+1,E,F,A,C,D,G=>znC yb za yk zd xc L E F A C D G (fun E F A C D G=>zgb yb za yk zd xc L z n E F A C D G) z
theorem zrB{β:Type}(yb:xt)(za:zo)(yk:yW)(zd:yx)(xc:yw)(L:Nat)(K:KT β):∀ (n:Nat) (z:Bool) (A D:Ls) (E F:Int) (C:List V),zx (ze y4 (xZ yb za yk zd xc L) 0 L zmD) znr n (zgM z A D E F C) K=zgb yb za yk zd xc L (fun z A C=>K (.exit 2) (zog z A C)) n z A D E F C:=by
 intro n; induction n <;> intros
 ·rfl
 ·exact (zHU ..).trans (by simp only [*]; rfl)
def zbY{β:Type}(yb:xt)(za:zo)(yk:yW)(zd:yx)(xc:yw)(L:Nat)(z:Ls→Ls→Int→Int→Ob β):Nat→Ls→Ls→Int→Int→Ls→Int→Int→Ob β
 | 0,_,_,_,_,_,_,_=>none
 | n+1,H,A,C,D,E,F,G=>zfa yb za yk zd xc L H A C D E F G (fun H A C D E F G=>zbY yb za yk zd xc L z n H A C D E F G) z
theorem zhO{β:Type}(yb:xt)(za:zo)(yk:yW)(zd:yx)(xc:yw)(L:Nat)(K:KT β):∀ (n:Nat) (D z:Ls) (A C:Int) (E:Ls) (F G:Int),zx (ze y4 (xZ yb za yk zd xc L) 0 L zeQ) ze9 n (zcl D z A C E F G) K=zbY yb za yk zd xc L (fun D z A C=>K (.exit 6) (zwf D z A C)) n D z A C E F G:=by
 intro n; induction n <;> intros
 ·rfl
 ·exact (zrv ..).trans (by simp only [*]; rfl)
def zfZ{β:Type}(yb:xt)(za:zo)(yk:yW)(zd:yx)(xc:yw)(L:Nat)(E A:Ls)(C D:Int)(F:Ls→Ob β)(z:Ls→Ls→Int→Int→Ob β):Ob β:=zks yb za yk zd xc L E A C D (fun E A C D G H I=>zbY yb za yk zd xc L (fun E A C D=>zeu yb za yk zd xc L E A C D z) L E A C D G H I) F
theorem zAJ{β:Type}(yb:xt)(za:zo)(yk:yW)(zd:yx)(xc:yw)(L:Nat)(D z:Ls)(A C:Int)(X:St→Ob β)(K:KT β):ze y4 (xZ yb za yk zd xc L) 0 L zf0 (zcg D z A C) (yH zcQ X K)=zfZ yb za yk zd xc L D z A C (fun D=>K (.exit 4) (zoc D)) (fun D z A C=>X (zcg D z A C)):=by
 refine (zCd yb za yk zd xc L D z A C X K).trans ?_
 unfold zfZ
 first
  | (simp only [zhO,zpk]; done)
  | (simp only [zhO]; rfl)
def zez{β:Type}(yb:xt)(za:zo)(yk:yW)(zd:yx)(xc:yw)(L:Nat)(z:Ls→Ob β):Nat→Ls→Ls→Int→Int→Ob β
 | 0,_,_,_,_=>none
 | n+1,E,A,C,D=>zfZ yb za yk zd xc L E A C D z (fun E A C D=>zez yb za yk zd xc L z n E A C D)
theorem zoq{β:Type}(yb:xt)(za:zo)(yk:yW)(zd:yx)(xc:yw)(L:Nat)(K:KT β):∀ (n:Nat) (z A:Ls) (C D:Int),zx (ze y4 (xZ yb za yk zd xc L) 0 L zf0) zcQ n (zcg z A C D) K=zez yb za yk zd xc L (fun z=>K (.exit 4) (zoc z)) n z A C D:=by
 intro n; induction n <;> intros
 ·rfl
 ·exact (zAJ ..).trans (by simp only [*]; rfl)
def zgH{β:Type}(yb:xt)(za:zo)(yk:yW)(zd:yx)(xc:yw)(L:Nat)(F:Bool)(A:Ls)(G:List V)(z:Ls→Ob β):Ob β:=zlF yb za yk zd xc L F A G z (fun A C D E=>zez yb za yk zd xc L (fun A=>ziM yb za yk zd xc L A z) L A C D E)
theorem zCw{β:Type}(yb:xt)(za:zo)(yk:yW)(zd:yx)(xc:yw)(L:Nat)(z:Bool)(A:Ls)(C:List V)(k:KK β):(xi 2 (yv (ze y4 (xZ yb za yk zd xc L) 0 L zq0) (zD 0 (CF.res cf_tx_encode) k))) (.exit 2) (zog z A C)=zgH yb za yk zd xc L z A C (fun D=>k (V.gs 1 D) []):=by
 refine (zD1 yb za yk zd xc L z A C k).trans ?_
 unfold zgH
 first
  | (simp only [zoq,zyZ]; done)
  | (simp only [zoq]; rfl)
def zic{β:Type}(yb:xt)(za:zo)(yk:yW)(zd:yx)(xc:yw)(L:Nat)(z:Bool)(A:Ls)(C:List V)(D:Ls→Ob β):Ob β:=zns yb za yk zd xc L z A C (fun z A E F G C=>zgb yb za yk zd xc L (fun z A C=>zgH yb za yk zd xc L z A C D) L z A E F G C)
theorem zFA{β:Type}(yb:xt)(za:zo)(yk:yW)(zd:yx)(xc:yw)(L:Nat)(z:Bool)(A:Ls)(C:List V)(k:KK β):(xi 0 (yv (ze y4 (xZ yb za yk zd xc L) 0 L zt9) (zD 0 (CF.res cf_tx_encode) k))) (.exit 0) (zoh z A C)=zic yb za yk zd xc L z A C (fun D=>k (V.gs 1 D) []):=by
 refine (zIC yb za yk zd xc L z A C k).trans ?_
 unfold zic
 first
  | (simp only [zrB,zCw]; done)
  | (simp only [zrB]; rfl)
def zys{β:Type}(yb:xt)(za:zo)(yk:yW)(zd:yx)(xc:yw)(L:Nat)(H:List V)(z:Bool)(A:Ls→Ob β):Ob β:=zIs yb za yk zd xc L H z (fun z C E F G D=>zhM yb za yk zd xc L (fun z C D=>zic yb za yk zd xc L z C D A) L z C E F G D)
theorem zXZ{β:Type}(yb:xt)(za:zo)(yk:yW)(zd:yx)(xc:yw)(L:Nat)(z:List V)(A:Bool)(k:KK β):yh y4 (xZ yb za yk zd xc L) L cf_tx_encode [(V.agg z),(V.sc (.bool A))] [] k=zys yb za yk zd xc L z A (fun z=>k (V.gs 1 z) []):=by
 refine (zX2 yb za yk zd xc L z A k).trans ?_
 unfold zys
 first
  | (simp only [zwb,zFA]; done)
  | (simp only [zwb]; rfl)
abbrev zP:=∀ (β:Type),Nat→List V→Bool→(Ls→Ob β)→Ob β
def yi:zP:=fun β=>@zys β yb za yk zd xc
def zyz(yi:zP)(L:Nat):Dk:=dA AG fun z=>dA AB fun A=>d0 fun β k=>yi β L z A (fun z=>k (V.gs 1 z) [])
theorem zXl(L:Nat):DK (zyz yi L) (fun _=>yh y4 (xZ yb za yk zd xc L) L cf_tx_encode):=xv zak fun z=>xv zWo fun A=>yK fun _ k=>zXZ yb za yk zd xc L z A k
def zOW:Hint:=⟨[(0,0),(5,2),(11,2)],[],[none,none,none,some ((bl 7340034 63),(bl 9223372032559808427 63)),none,some ((bl 2 63),(bl 9223372032559808427 63)),none,none,some ((bl 4 63),(bl 9223372032559808429 63)),none,some ((bl 962072674306 63),(bl 9186745105510301355 63)),none,some ((bl 2 63),(bl 9186745105510301355 63)),none,none,some ((bl 4 63),(bl 9186745105510301357 63)),none,some ((bl 1971286909648898 63),(bl 9187343239835811499 63)),none,some ((bl 962072674306 63),(bl 9187343239835811499 63)),none,none,some ((bl 4 63),(bl 9186745105510301357 63)),none],[],[],false,false,[]⟩
def cf_tx_fits:CF:=cfD zOW 77
def zhZ:CC:=yz [1,1,1,0,1,0,0,1,1,0,0,1,1,1,0,0] cf_tx_fits.body
def znU:CC:=yz [1,1,1,0,1,0,0,1,1,1] cf_tx_fits.body
def zmi:CC:=yz [1,1,1,0,1,0,0] cf_tx_fits.body
def zu7:CC:=yz [1,1,0,1,0,0] cf_tx_fits.body
def zA1:CC:=yz [1,1,1,1] cf_tx_fits.body
def zuM:CC:=yz [1,1,1] cf_tx_fits.body
def zaQ:Nat→Sh:=zj [(10,(.sl 35)),(15,(.sl 2)),(20,(.sl 2)),(27,(.int .i64)),(31,(.sl 1)),(37,(.sl 35)),(44,(.sl 1)),(48,(.sl 1)),(53,(.sl 1))]
def zaP(yi:zP)(L:Nat):CBC:=(xe 147 (zyz yi L) noC)
def zxx:St→St:=yM 0 (bl 7340034 63) (bl 9223372032559808427 63)
def zfo:St→St:=yM 0 (bl 962072674306 63) (bl 9186745105510301355 63)
def ziT:St→St:=yM 0 (bl 1971286909648898 63) (bl 9187343239835811499 63)
def zkP(z:Ls)(A C:Int)(D:List V):St:=⟨(jn 1 ((V.ptr 1 0)::(jn 18 ((V.sl 2 z)::((Qe A)::((Qe C)::(jn 40 []))))))),(gn 1 ((.live true D)::(gn 61 [])))⟩
def zcs(z:Bool):St:=⟨(jn 2 ((V.sc (.bool z))::(jn 60 []))),(gn 63 [])⟩
def zsj(z:List V):St:=⟨(jn 1 ((V.ptr 1 0)::(jn 61 []))),(gn 1 ((.live true z)::(gn 61 [])))⟩
def zeW(z:Ls)(A C:Int)(D:List V):St:=⟨(jn 1 ((V.ptr 1 0)::(jn 35 ((V.sl 35 z)::((Qe A)::((Qe C)::(jn 23 []))))))),(gn 1 ((.live true D)::(gn 61 [])))⟩
def zei(z:Ls)(A C:Int)(D:Ls)(E F:Int)(G:List V):St:=⟨(jn 1 ((V.ptr 1 0)::(jn 35 ((V.sl 35 z)::((Qe A)::((Qe C)::(jn 8 ((V.sl 1 D)::((Qe E)::((Qe F)::(jn 12 []))))))))))),(gn 1 ((.live true G)::(gn 61 [])))⟩
def zsl(z:List V):St:=⟨(jn 1 ((V.ptr 1 0)::(jn 61 []))),(gn 1 ((.live true z)::(gn 61 [])))⟩
def zAL(z:Ls)(A C:Int)(D:List V):St:=⟨(jn 1 ((V.ptr 1 0)::(jn 35 ((V.sl 35 z)::((Qe A)::((Qe C)::(jn 23 []))))))),(gn 1 ((.live true D)::(gn 61 [])))⟩
abbrev zof(β:Type):Type:=Ls→Int→Int→Ls→Int→Int→List V→Ob β
def zQr{β:Type}(yi:zP)(L:Nat)(C:List V)(A:Bool→Ob β)(z:Ls→Int→Int→List V→Ob β):Ob β:=cLd 35 C 1 fun E=>ifb (decide (((XK E:Nat):Int)>(64:Int))) (A false) (cLd 2 C 2 fun F=>ifb (decide (((XK F:Nat):Int)>(64:Int))) (A false) (cLd 2 C 2 fun D=>z D ((XK D:Nat):Int) (0:Int) C))
theorem z2j{β:Type}(yi:zP)(L:Nat)(z:List V)(k:KK β):yh zaQ (zaP yi L) L cf_tx_fits [(V.agg z)] [] k=zQr yi L z (fun z=>k (V.sc (.bool z)) []) (fun A C D E=>zx (ze zaQ (zaP yi L) 0 L zu7) zxx L (zkP A C D E) (xi 0 (yv (ze zaQ (zaP yi L) 0 L zuM) (zD 0 (CF.res cf_tx_fits) k)))):=by kernel_rfl
def zxE{β:Type}(yi:zP)(L:Nat)(D:Ls)(E C:Int)(G:List V)(A:Bool→Ob β)(z:Ls→Int→Int→List V→Ob β)(F:List V→Ob β):Ob β:=ifb (decide (C<E)) (idx D C fun H=>chk ((XK (XL 2 H))=2∧0+2≤2) (lt (zk [(Qe (0:Int)),(V.gs 1 ([]:Ls))] 0 (XL 2 H)) fun I=>cI .i64 I 0 fun J=>ifb (decide (J<(0:Int))) (A false) (cLd 1 I 1 fun M=>ifb (decide (((XK M:Nat):Int)>(520:Int))) (A false) (lt (QG .i64 ((C:Int)+(1:Int))) fun N=>z D E N G)))) (F G)
theorem zRt{β:Type}(yi:zP)(L:Nat)(z:Ls)(A C:Int)(D:List V)(X:St→Ob β)(K:KT β):ze zaQ (zaP yi L) 0 L zu7 (zkP z A C D) (yH zxx X K)=zxE yi L z A C D (fun E=>K .ret (zcs E)) (fun z A C D=>X (zkP z A C D)) (fun D=>K (.exit 0) (zsj D)):=by kernel_rfl
def zq4{β:Type}(yi:zP)(L:Nat)(A:Bool)(z:Bool→Ob β):Ob β:=z A
theorem zL3{β:Type}(yi:zP)(L:Nat)(z:Bool)(k:KK β):(xi 0 (yv (ze zaQ (zaP yi L) 0 L zuM) (zD 0 (CF.res cf_tx_fits) k))) .ret (zcs z)=zq4 yi L z (fun A=>k (V.sc (.bool A)) []):=by kernel_rfl
def zs4{β:Type}(yi:zP)(L:Nat)(A:List V)(z:Ls→Int→Int→List V→Ob β):Ob β:=cLd 35 A 1 fun C=>z C ((XK C:Nat):Int) (0:Int) A
theorem zOk{β:Type}(yi:zP)(L:Nat)(z:List V)(k:KK β):(xi 0 (yv (ze zaQ (zaP yi L) 0 L zuM) (zD 0 (CF.res cf_tx_fits) k))) (.exit 0) (zsj z)=zs4 yi L z (fun A C D z=>zx (ze zaQ (zaP yi L) 0 L zmi) zfo L (zeW A C D z) (xi 2 (yv (ze zaQ (zaP yi L) 0 L zA1) (zD 0 (CF.res cf_tx_fits) k)))):=by kernel_rfl
def zuH{β:Type}(yi:zP)(L:Nat)(D:Ls)(E A:Int)(I:List V)(C:Bool→Ob β)(z:zof β)(H:List V→Ob β):Ob β:=ifb (decide (A<E)) (idx D A fun J=>chk ((XK (XL 35 J))=35∧0+35≤35) (lt (zk (We 32 (Qa (0:Int))++[(Qc (0:Int)),(Qc (0:Int)),(V.gs 1 ([]:Ls))]) 0 (XL 35 J)) fun F=>cLd 1 F 34 fun M=>ifb (decide (((XK M:Nat):Int)>(32:Int))) (C false) (cLd 1 F 34 fun G=>z D E A G ((XK G:Nat):Int) (0:Int) I))) (H I)
theorem zOx{β:Type}(yi:zP)(L:Nat)(z:Ls)(A C:Int)(D:List V)(X:St→Ob β)(K:KT β):ze zaQ (zaP yi L) 0 L zmi (zeW z A C D) (yH zfo X K)=zuH yi L z A C D (fun H=>K .ret (zcs H)) (fun z A C E F G D=>zx (ze zaQ (zaP yi L) 0 L zhZ) ziT L (zei z A C E F G D) (xi 4 (xi 3 (yv (ze zaQ (zaP yi L) 0 L znU) (yH zfo X K))))) (fun D=>K (.exit 2) (zsl D)):=by kernel_rfl
def zpt{β:Type}(yi:zP)(L:Nat)(A:Bool)(z:Bool→Ob β):Ob β:=z A
theorem zKW{β:Type}(yi:zP)(L:Nat)(z:Bool)(k:KK β):(xi 2 (yv (ze zaQ (zaP yi L) 0 L zA1) (zD 0 (CF.res cf_tx_fits) k))) .ret (zcs z)=zpt yi L z (fun A=>k (V.sc (.bool A)) []):=by kernel_rfl
def zrs{β:Type}(yi:zP)(L:Nat)(A:List V)(z:Bool→Ob β):Ob β:=chk (0+4≤(XK A)) (yi β L (Xv V.dem (XL 4 A)) true (fun C=>z (decide (((XK C:Nat):Int)≤(20000:Int)))))
theorem zL6{β:Type}(yi:zP)(L:Nat)(z:List V)(k:KK β):(xi 2 (yv (ze zaQ (zaP yi L) 0 L zA1) (zD 0 (CF.res cf_tx_fits) k))) (.exit 2) (zsl z)=zrs yi L z (fun A=>k (V.sc (.bool A)) []):=by kernel_rfl
def ziK{β:Type}(yi:zP)(L:Nat)(D:Ls)(E F:Int)(G:Ls)(H A:Int)(J:List V)(C:Bool→Ob β)(z:zof β)(I:Ls→Int→Int→List V→Ob β):Ob β:=ifb (decide (A<H)) (idx G A fun M=>cL 1 M 0 fun N=>ifb (decide (((XK N:Nat):Int)>(520:Int))) (C false) (lt (QG .i64 ((A:Int)+(1:Int))) fun O=>z D E F G H O J)) (I D E F J)
theorem zzt{β:Type}(yi:zP)(L:Nat)(z:Ls)(A C:Int)(D:Ls)(E F:Int)(G:List V)(X:St→Ob β)(K:KT β):ze zaQ (zaP yi L) 0 L zhZ (zei z A C D E F G) (yH ziT X K)=ziK yi L z A C D E F G (fun H=>K .ret (zcs H)) (fun z A C D E F G=>X (zei z A C D E F G)) (fun z A C G=>K (.exit 4) (zAL z A C G)):=by kernel_rfl
def zg3{β:Type}(yi:zP)(L:Nat)(A:Bool)(z:Bool→Ob β):Ob β:=z A
theorem zuK{β:Type}(yi:zP)(L:Nat)(z:Bool)(X:St→Ob β)(K:KT β):(xi 4 (xi 3 (yv (ze zaQ (zaP yi L) 0 L znU) (yH zfo X K)))) .ret (zcs z)=zg3 yi L z (fun z=>K .ret (zcs z)):=by kernel_rfl
def zhA{β:Type}(yi:zP)(L:Nat)(A:Ls)(C D:Int)(F:List V)(z:Ls→Int→Int→List V→Ob β):Ob β:=lt (QG .i64 ((D:Int)+(1:Int))) fun E=>z A C E F
theorem zwt{β:Type}(yi:zP)(L:Nat)(z:Ls)(A C:Int)(D:List V)(X:St→Ob β)(K:KT β):(xi 4 (xi 3 (yv (ze zaQ (zaP yi L) 0 L znU) (yH zfo X K)))) (.exit 4) (zAL z A C D)=zhA yi L z A C D (fun z A C D=>X (zeW z A C D)):=by kernel_rfl
def zlt{β:Type}(yi:zP)(L:Nat)(z:Bool→Ob β)(A:List V→Ob β):Nat→Ls→Int→Int→List V→Ob β
 | 0,_,_,_,_=>none
 | n+1,C,D,E,F=>zxE yi L C D E F z (fun C D E F=>zlt yi L z A n C D E F) A
theorem zBC{β:Type}(yi:zP)(L:Nat)(K:KT β):∀ (n:Nat) (A:Ls) (C D:Int) (z:List V),zx (ze zaQ (zaP yi L) 0 L zu7) zxx n (zkP A C D z) K=zlt yi L (fun E=>K .ret (zcs E)) (fun z=>K (.exit 0) (zsj z)) n A C D z:=by
 intro n; induction n <;> intros
 ·rfl
 ·exact (zRt ..).trans (by simp only [*]; rfl)
def zdI{β:Type}(yi:zP)(L:Nat)(z:Bool→Ob β)(A:Ls→Int→Int→List V→Ob β):Nat→Ls→Int→Int→Ls→Int→Int→List V→Ob β
 | 0,_,_,_,_,_,_,_=>none
 | n+1,C,D,E,F,G,H,I=>ziK yi L C D E F G H I z (fun C D E F G H I=>zdI yi L z A n C D E F G H I) A
theorem zlX{β:Type}(yi:zP)(L:Nat)(K:KT β):∀ (n:Nat) (z:Ls) (A C:Int) (E:Ls) (F G:Int) (D:List V),zx (ze zaQ (zaP yi L) 0 L zhZ) ziT n (zei z A C E F G D) K=zdI yi L (fun H=>K .ret (zcs H)) (fun z A C D=>K (.exit 4) (zAL z A C D)) n z A C E F G D:=by
 intro n; induction n <;> intros
 ·rfl
 ·exact (zzt ..).trans (by simp only [*]; rfl)
def zl8{β:Type}(yi:zP)(L:Nat)(z:Ls)(A C:Int)(F:List V)(E:Bool→Ob β)(G:List V→Ob β)(D:Ls→Int→Int→List V→Ob β):Ob β:=zuH yi L z A C F E (fun z A C H I J F=>zdI yi L (fun M=>zg3 yi L M E) (fun z A C F=>zhA yi L z A C F D) L z A C H I J F) G
theorem zOg{β:Type}(yi:zP)(L:Nat)(z:Ls)(A C:Int)(D:List V)(X:St→Ob β)(K:KT β):ze zaQ (zaP yi L) 0 L zmi (zeW z A C D) (yH zfo X K)=zl8 yi L z A C D (fun E=>K .ret (zcs E)) (fun D=>K (.exit 2) (zsl D)) (fun z A C D=>X (zeW z A C D)):=by
 refine (zOx yi L z A C D X K).trans ?_
 unfold zl8
 first
  | (simp only [zlX,zuK,zwt]; done)
  | (simp only [zlX]; rfl)
def zj8{β:Type}(yi:zP)(L:Nat)(z:Bool→Ob β)(A:List V→Ob β):Nat→Ls→Int→Int→List V→Ob β
 | 0,_,_,_,_=>none
 | n+1,C,D,E,F=>zl8 yi L C D E F z A (fun C D E F=>zj8 yi L z A n C D E F)
theorem zzH{β:Type}(yi:zP)(L:Nat)(K:KT β):∀ (n:Nat) (A:Ls) (C D:Int) (z:List V),zx (ze zaQ (zaP yi L) 0 L zmi) zfo n (zeW A C D z) K=zj8 yi L (fun E=>K .ret (zcs E)) (fun z=>K (.exit 2) (zsl z)) n A C D z:=by
 intro n; induction n <;> intros
 ·rfl
 ·exact (zOg ..).trans (by simp only [*]; rfl)
def zkM{β:Type}(yi:zP)(L:Nat)(A:List V)(z:Bool→Ob β):Ob β:=zs4 yi L A (fun C D E A=>zj8 yi L (fun F=>zpt yi L F z) (fun A=>zrs yi L A z) L C D E A)
theorem zLW{β:Type}(yi:zP)(L:Nat)(z:List V)(k:KK β):(xi 0 (yv (ze zaQ (zaP yi L) 0 L zuM) (zD 0 (CF.res cf_tx_fits) k))) (.exit 0) (zsj z)=zkM yi L z (fun A=>k (V.sc (.bool A)) []):=by
 refine (zOk yi L z k).trans ?_
 unfold zkM
 first
  | (simp only [zzH,zKW,zL6]; done)
  | (simp only [zzH]; rfl)
def zHb{β:Type}(yi:zP)(L:Nat)(F:List V)(z:Bool→Ob β):Ob β:=zQr yi L F z (fun C D E A=>zlt yi L (fun G=>zq4 yi L G z) (fun A=>zkM yi L A z) L C D E A)
theorem z2l{β:Type}(yi:zP)(L:Nat)(z:List V)(k:KK β):yh zaQ (zaP yi L) L cf_tx_fits [(V.agg z)] [] k=zHb yi L z (fun z=>k (V.sc (.bool z)) []):=by
 refine (z2j yi L z k).trans ?_
 unfold zHb
 first
  | (simp only [zBC,zL3,zLW]; done)
  | (simp only [zBC]; rfl)
abbrev zcj:=∀ (β:Type),Nat→List V→(Bool→Ob β)→Ob β
def zJ:zcj:=fun β=>@zHb β yi
def zGr(zJ:zcj)(L:Nat):Dk:=dA AG fun z=>d0 fun β k=>zJ β L z (fun z=>k (V.sc (.bool z)) [])
theorem z27(L:Nat):DK (zGr zJ L) (fun _=>yh zaQ (zaP yi L) L cf_tx_fits):=xv zak fun z=>yK fun _ k=>z2l yi L z k
def zJK:Hint:=⟨[(0,0),(0,1),(2,0),(3,3)],[],[none,none,none],[],[],false,false,[]⟩
def zP8:CF:=cfD zJK 37
def zDZ:Nat→Sh:=zj []
def zDX(zJ:zcj)(yi:zP)(L:Nat):CBC:=(xe 147 (zyz yi L) (xe 146 (zGr zJ L) noC))
def zH1{β:Type}(zJ:zcj)(yi:zP)(L:Nat)(A:List V)(C:Bool)(z:Ls→Int→Ob β):Ob β:=chk (0+4≤(XK A)) (zJ β L (Xv V.dem (XL 4 A)) (fun D=>ifb (!D) (z ([]:Ls) (4:Int)) (chk (0+4≤(XK A)) (yi β L (Xv V.dem (XL 4 A)) C (fun E=>z E (0:Int))))))
theorem zXy{β:Type}(zJ:zcj)(yi:zP)(L:Nat)(C:List V)(D:Bool)(k:KK β):yh zDZ (zDX zJ yi L) L zP8 [(V.agg C),(V.sc (.bool D))] [] k=zH1 zJ yi L C D (fun z A=>k (V.tup [(V.gs 1 z),(Qe A)]) []):=by kernel_rfl
abbrev zbr:=∀ (β:Type),Nat→List V→Bool→(Ls→Int→Ob β)→Ob β
def yA:zbr:=fun β=>@zH1 β zJ yi
def zrL(yA:zbr)(L:Nat):Dk:=dA AG fun C=>dA AB fun D=>d0 fun β k=>yA β L C D (fun z A=>k (V.tup [(V.gs 1 z),(Qe A)]) [])
theorem zXf(L:Nat):DK (zrL yA L) (fun _=>yh zDZ (zDX zJ yi L) L zP8):=xv zak fun z=>xv zWo fun A=>yK fun _ k=>zXy zJ yi L z A k
def zBQ:Hint:=⟨[(0,0),(0,1),(2,0),(3,8),(6,2),(7,2),(7,3),(9,0),(10,0),(10,3),(13,0),(14,0),(14,1)],[],[none,none,none,some ((bl 29360144 43),(bl 8651137875505 43)),none,some ((bl 16 43),(bl 8651137875505 43)),none,none,some ((bl 12 43),(bl 8651137875501 43)),none,none,none],[],[],false,false,[]⟩
def cf_block_Encode:CF:=cfD zBQ 13
def zla:CC:=yz [1,1,1,0,1,0,0] cf_block_Encode.body
def zoM:CC:=yz [1,1,1,1] cf_block_Encode.body
def zcz:Nat→Sh:=zj [(10,(.sl 4)),(17,(.sl 4)),(22,(.sl 4))]
def zcx(zg:zO)(za:zo)(yA:zbr)(L:Nat):CBC:=(xe 128 (zrL yA L) (xe 182 (zg8 za L) (xe 502 (zd0 zg L) noC)))
def zmI:St→St:=yM 0 (bl 29360144 43) (bl 8651137875505 43)
def zf3(D z:Ls)(A C:Int):St:=⟨(jn 4 ((V.gs 1 D)::(jn 17 ((V.sl 4 z)::((Qe A)::((Qe C)::(jn 18 []))))))),(gn 43 [])⟩
def znP(z:Ls)(A:Int):St:=⟨(jn 2 ((V.gs 1 z)::((Qe A)::(jn 39 [])))),(gn 43 [])⟩
def zpn(z:Ls):St:=⟨(jn 4 ((V.gs 1 z)::(jn 38 []))),(gn 43 [])⟩
def zxQ{β:Type}(zg:zO)(za:zo)(yA:zbr)(L:Nat)(A:List V)(C:Ls→Int→Ob β)(z:Ls→Ls→Int→Int→Ob β):Ob β:=cLd 4 A 68 fun E=>ifb (decide (((XK E:Nat):Int)>(256:Int))) (C ([]:Ls) (4:Int)) (chk (0+68≤(XK A)) (zg β L (XL 68 A) (fun F=>cLd 4 A 68 fun G=>lt (QG .u64 ((XK G:Nat):Int)) fun H=>za β L F H (fun I=>cLd 4 A 68 fun D=>z I D ((XK D:Nat):Int) (0:Int)))))
theorem zRE{β:Type}(zg:zO)(za:zo)(yA:zbr)(L:Nat)(C:List V)(k:KK β):yh zcz (zcx zg za yA L) L cf_block_Encode [(V.agg C)] [] k=zxQ zg za yA L C (fun z A=>k (V.tup [(V.gs 1 z),(Qe A)]) []) (fun G D E F=>zx (ze zcz (zcx zg za yA L) 0 L zla) zmI L (zf3 G D E F) (xi 0 (yv (ze zcz (zcx zg za yA L) 0 L zoM) (zD 0 (CF.res cf_block_Encode) k)))):=by kernel_rfl
def zmw{β:Type}(zg:zO)(za:zo)(yA:zbr)(L:Nat)(C E:Ls)(F A:Int)(D:Ls→Int→Ob β)(z:Ls→Ls→Int→Int→Ob β)(G:Ls→Ob β):Ob β:=ifb (decide (A<F)) (idx E A fun I=>chk ((XK (XL 4 I))=4∧0+4≤4) (lt (zk [(Qc (0:Int)),(V.gs 35 ([]:Ls)),(V.gs 2 ([]:Ls)),(Qc (0:Int))] 0 (XL 4 I)) fun J=>chk (0+4≤(XK J)) (yA β L (Xv V.dem (XL 4 J)) true (fun H O=>ifb ((O:Int) != (0:Int)) (D ([]:Ls) (4:Int)) (chk ((XK C+XK H)*1≤xm∧XK C+XK H≤xm) (lt (C++H) fun M=>lt (QG .i64 ((A:Int)+(1:Int))) fun N=>z M E F N)))))) (G C)
theorem zFx{β:Type}(zg:zO)(za:zo)(yA:zbr)(L:Nat)(D z:Ls)(A C:Int)(X:St→Ob β)(K:KT β):ze zcz (zcx zg za yA L) 0 L zla (zf3 D z A C) (yH zmI X K)=zmw zg za yA L D z A C (fun E F=>K .ret (znP E F)) (fun D z A C=>X (zf3 D z A C)) (fun D=>K (.exit 0) (zpn D)):=by kernel_rfl
def zjp{β:Type}(zg:zO)(za:zo)(yA:zbr)(L:Nat)(A:Ls)(C:Int)(z:Ls→Int→Ob β):Ob β:=z A C
theorem zAW{β:Type}(zg:zO)(za:zo)(yA:zbr)(L:Nat)(C:Ls)(D:Int)(k:KK β):(xi 0 (yv (ze zcz (zcx zg za yA L) 0 L zoM) (zD 0 (CF.res cf_block_Encode) k))) .ret (znP C D)=zjp zg za yA L C D (fun z A=>k (V.tup [(V.gs 1 z),(Qe A)]) []):=by kernel_rfl
def zkg{β:Type}(zg:zO)(za:zo)(yA:zbr)(L:Nat)(A:Ls)(z:Ls→Int→Ob β):Ob β:=ifb (decide (((XK A:Nat):Int)>(100000:Int))) (z ([]:Ls) (4:Int)) (z A (0:Int))
theorem zCi{β:Type}(zg:zO)(za:zo)(yA:zbr)(L:Nat)(C:Ls)(k:KK β):(xi 0 (yv (ze zcz (zcx zg za yA L) 0 L zoM) (zD 0 (CF.res cf_block_Encode) k))) (.exit 0) (zpn C)=zkg zg za yA L C (fun z A=>k (V.tup [(V.gs 1 z),(Qe A)]) []):=by kernel_rfl
def zfF{β:Type}(zg:zO)(za:zo)(yA:zbr)(L:Nat)(z:Ls→Int→Ob β)(A:Ls→Ob β):Nat→Ls→Ls→Int→Int→Ob β
 | 0,_,_,_,_=>none
 | n+1,F,C,D,E=>zmw zg za yA L F C D E z (fun F C D E=>zfF zg za yA L z A n F C D E) A
theorem zqx{β:Type}(zg:zO)(za:zo)(yA:zbr)(L:Nat)(K:KT β):∀ (n:Nat) (z A:Ls) (C D:Int),zx (ze zcz (zcx zg za yA L) 0 L zla) zmI n (zf3 z A C D) K=zfF zg za yA L (fun E F=>K .ret (znP E F)) (fun z=>K (.exit 0) (zpn z)) n z A C D:=by
 intro n; induction n <;> intros
 ·rfl
 ·exact (zFx ..).trans (by simp only [*]; rfl)
def zpZ{β:Type}(zg:zO)(za:zo)(yA:zbr)(L:Nat)(F:List V)(z:Ls→Int→Ob β):Ob β:=zxQ zg za yA L F z (fun A C D E=>zfF zg za yA L (fun G H=>zjp zg za yA L G H z) (fun A=>zkg zg za yA L A z) L A C D E)
theorem zRq{β:Type}(zg:zO)(za:zo)(yA:zbr)(L:Nat)(z:List V)(k:KK β):yh zcz (zcx zg za yA L) L cf_block_Encode [(V.agg z)] [] k=zpZ zg za yA L z (fun A C=>k (V.tup [(V.gs 1 A),(Qe C)]) []):=by
 refine (zRE zg za yA L z k).trans ?_
 unfold zpZ
 first
  | (simp only [zqx,zAW,zCi]; done)
  | (simp only [zqx]; rfl)
abbrev zaN:=∀ (β:Type),Nat→List V→(Ls→Int→Ob β)→Ob β
def zB:zaN:=fun β=>@zpZ β zg za yA
def zlA(zB:zaN)(L:Nat):Dk:=dA AG fun C=>d0 fun β k=>zB β L C (fun z A=>k (V.tup [(V.gs 1 z),(Qe A)]) [])
theorem zRw(L:Nat):DK (zlA zB L) (fun _=>yh zcz (zcx zg za yA L) L cf_block_Encode):=xv zak fun z=>yK fun _ k=>zRq zg za yA L z k
def zPa:Hint:=⟨[],[],[none],[],[],false,false,[]⟩
def zWm:CF:=cfD zPa 83
def zL9:Nat→Sh:=zj []
def zMu(L:Nat):CBC:=noC
def zY2{β:Type}(L:Nat)(A:List V)(z:Bool→Ob β):Ob β:=chk (0+33≤(XK A)) (eqC 33 (XL 33 A) (We 32 (Qa (0:Int))++[(Qc (4294967295:Int))]) fun C=>z C)
theorem z0M{β:Type}(L:Nat)(z:List V)(k:KK β):yh zL9 (zMu L) L zWm [(V.agg z)] [] k=zY2 L z (fun z=>k (V.sc (.bool z)) []):=by kernel_rfl
abbrev zzC:=∀ (β:Type),Nat→List V→(Bool→Ob β)→Ob β
def zdA:zzC:=fun β=>@zY2 β
def zQx(zdA:zzC)(L:Nat):Dk:=dA AG fun z=>d0 fun β k=>zdA β L z (fun z=>k (V.sc (.bool z)) [])
theorem z0K(L:Nat):DK (zQx zdA L) (fun _=>yh zL9 (zMu L) L zWm):=xv zak fun z=>yK fun _ k=>z0M L z k
def zE3:Hint:=⟨[(0,0)],[],[none],[],[],false,false,[]⟩
def zLf:CF:=cfD zE3 43
def zxJ:Nat→Sh:=zj [(4,(.sl 35)),(9,(.sl 35))]
def zxW(zdA:zzC)(L:Nat):CBC:=(xe 188 (zQx zdA L) noC)
def zNy{β:Type}(zdA:zzC)(L:Nat)(A:List V)(z:Bool→Ob β):Ob β:=cLd 35 A 1 fun C=>ifb ((((XK C:Nat):Int):Int)==(1:Int)) (cLd 35 A 1 fun D=>idx D (0:Int) fun E=>zdA β L (XL 33 E) (fun F=>z F)) (z false)
theorem zTD{β:Type}(zdA:zzC)(L:Nat)(z:List V)(k:KK β):yh zxJ (zxW zdA L) L zLf [(V.agg z)] [] k=zNy zdA L z (fun z=>k (V.sc (.bool z)) []):=by kernel_rfl
abbrev zY:=∀ (β:Type),Nat→List V→(Bool→Ob β)→Ob β
def yo:zY:=fun β=>@zNy β zdA
def zm7(yo:zY)(L:Nat):Dk:=dA AG fun z=>d0 fun β k=>yo β L z (fun z=>k (V.sc (.bool z)) [])
theorem zT9(L:Nat):DK (zm7 yo L) (fun _=>yh zxJ (zxW zdA L) L zLf):=xv zak fun z=>yK fun _ k=>zTD zdA L z k
def zNe:Hint:=⟨[(4,2)],[],[none,some ((bl 456 22),(bl 4194267 22)),none,some ((bl 0 22),(bl 4194259 22)),none,none,some ((bl 4 22),(bl 4194263 22)),none],[],[],false,false,[]⟩
def cf_tx_money:CF:=cfD zNe 84
def zth:CC:=yz [1,1,0,1,0,0] cf_tx_money.body
def zAM:CC:=yz [1,1,1] cf_tx_money.body
def zfc:Nat→Sh:=zj [(13,(.int .i64)),(19,(.int .i64))]
def zfe(L:Nat):CBC:=noC
def zub:St→St:=yM 0 (bl 456 22) (bl 4194267 22)
def zkc(z:Int)(A:Ls)(C D:Int):St:=⟨(jn 3 ((Qe z)::(jn 2 ((V.sl 2 A)::((Qe C)::((Qe D)::(jn 13 []))))))),(gn 22 [])⟩
def zuv(z:Bool):St:=⟨(jn 2 ((V.sc (.bool z))::(jn 19 []))),(gn 22 [])⟩
def zx0:St:=⟨(jn 22 []),(gn 22 [])⟩
def zVV{β:Type}(L:Nat)(A:Ls)(z:Int→Ls→Int→Int→Ob β):Ob β:=z (0:Int) A ((XK A:Nat):Int) (0:Int)
theorem zZB{β:Type}(L:Nat)(z:Ls)(k:KK β):yh zfc (zfe L) L cf_tx_money [(V.sl 2 z)] [] k=zVV L z (fun A C D E=>zx (ze zfc (zfe L) 0 L zth) zub L (zkc A C D E) (xi 0 (yv (ze zfc (zfe L) 0 L zAM) (zD 0 (CF.res cf_tx_money) k)))):=by kernel_rfl
def zGc{β:Type}(L:Nat)(E:Int)(F:Ls)(G C:Int)(A:Bool→Ob β)(z:Int→Ls→Int→Int→Ob β)(D:Ob β):Ob β:=ifb (decide (C<G)) (idx F C fun H=>chk ((XK (XL 2 H))=2∧0+2≤2) (lt (zk [(Qe (0:Int)),(V.gs 1 ([]:Ls))] 0 (XL 2 H)) fun I=>cI .i64 I 0 fun J=>lt (QG .i64 (((2100000000000000:Int):Int)-E)) fun M=>ifb (decide (J>M)) (A false) (cI .i64 I 0 fun N=>lt (QG .i64 ((E:Int)+N)) fun O=>lt (QG .i64 ((C:Int)+(1:Int))) fun P=>z O F G P))) (D)
theorem zPB{β:Type}(L:Nat)(z:Int)(A:Ls)(C D:Int)(X:St→Ob β)(K:KT β):ze zfc (zfe L) 0 L zth (zkc z A C D) (yH zub X K)=zGc L z A C D (fun E=>K .ret (zuv E)) (fun z A C D=>X (zkc z A C D)) (K (.exit 0) (zx0)):=by kernel_rfl
def zy2{β:Type}(L:Nat)(A:Bool)(z:Bool→Ob β):Ob β:=z A
theorem zKO{β:Type}(L:Nat)(z:Bool)(k:KK β):(xi 0 (yv (ze zfc (zfe L) 0 L zAM) (zD 0 (CF.res cf_tx_money) k))) .ret (zuv z)=zy2 L z (fun A=>k (V.sc (.bool A)) []):=by kernel_rfl
def zBS{β:Type}(L:Nat)(z:Bool→Ob β):Ob β:=z true
theorem zMe{β:Type}(L:Nat)(k:KK β):(xi 0 (yv (ze zfc (zfe L) 0 L zAM) (zD 0 (CF.res cf_tx_money) k))) (.exit 0) (zx0)=zBS L (fun z=>k (V.sc (.bool z)) []):=by kernel_rfl
def zt7{β:Type}(L:Nat)(z:Bool→Ob β)(A:Ob β):Nat→Int→Ls→Int→Int→Ob β
 | 0,_,_,_,_=>none
 | n+1,C,D,E,F=>zGc L C D E F z (fun C D E F=>zt7 L z A n C D E F) A
theorem zzA{β:Type}(L:Nat)(K:KT β):∀ (n:Nat) (z:Int) (A:Ls) (C D:Int),zx (ze zfc (zfe L) 0 L zth) zub n (zkc z A C D) K=zt7 L (fun E=>K .ret (zuv E)) (K (.exit 0) (zx0)) n z A C D:=by
 intro n; induction n <;> intros
 ·rfl
 ·exact (zPB ..).trans (by simp only [*]; rfl)
def zLr{β:Type}(L:Nat)(A:Ls)(z:Bool→Ob β):Ob β:=zVV L A (fun C D E F=>zt7 L (fun G=>zy2 L G z) (zBS L z) L C D E F)
theorem z0q{β:Type}(L:Nat)(z:Ls)(k:KK β):yh zfc (zfe L) L cf_tx_money [(V.sl 2 z)] [] k=zLr L z (fun z=>k (V.sc (.bool z)) []):=by
 refine (zZB L z k).trans ?_
 unfold zLr
 first
  | (simp only [zzA,zKO,zMe]; done)
  | (simp only [zzA]; rfl)
abbrev zcG:=∀ (β:Type),Nat→Ls→(Bool→Ob β)→Ob β
def xM:zcG:=fun β=>@zLr β
def zMI(xM:zcG)(L:Nat):Dk:=dA (AL 2) fun z=>d0 fun β k=>xM β L z (fun z=>k (V.sc (.bool z)) [])
theorem zZ9(L:Nat):DK (zMI xM L) (fun _=>yh zfc (zfe L) L cf_tx_money):=xv zaZ fun z=>yK fun _ k=>z0q L z k
def zMY:Hint:=⟨[(0,0),(10,2)],[],[none,none,none,none,none,none,none,some ((bl 234881034 47),(bl 140737488355291 47)),none,some ((bl 10 47),(bl 140737488355291 47)),none,none,some ((bl 4 47),(bl 140737488355293 47)),none,none,none],[],[],false,false,[]⟩
def cf_tx_Check:CF:=cfD zMY 44
def zni:CC:=yz [1,1,1,1,1,0,1,0,0] cf_tx_Check.body
def zsF:CC:=yz [1,1,1,1,1,1] cf_tx_Check.body
def zfb:Nat→Sh:=zj [(10,(.sl 35)),(15,(.sl 2)),(20,(.sl 2)),(25,(.sl 35)),(34,.bool),(41,.bool)]
def zfd(zJ:zcj)(xM:zcG)(yo:zY)(L:Nat):CBC:=(xe 151 (zm7 yo L) (xe 150 (zMI xM L) (xe 146 (zGr zJ L) noC)))
def zox:St→St:=yM 0 (bl 234881034 47) (bl 140737488355291 47)
def zhj(z:Ls)(A C:Int)(E:List V)(D:Lm):St:=⟨(jn 1 ((V.ptr 1 0)::(jn 1 ((V.mp 23)::(jn 21 ((V.sl 35 z)::((Qe A)::((Qe C)::(jn 19 []))))))))),(gn 1 ((.live true E)::(gn 21 ((.mp D)::(gn 23 [])))))⟩
def zut(A:Int)(z:Lm):St:=⟨(jn 2 ((Qe A)::(jn 44 []))),(gn 23 ((.mp z)::(gn 23 [])))⟩
def zx7(A:List V)(z:Lm):St:=⟨(jn 1 ((V.ptr 1 0)::(jn 1 ((V.mp 23)::(jn 43 []))))),(gn 1 ((.live true A)::(gn 21 ((.mp z)::(gn 23 [])))))⟩
def zWJ{β:Type}(zJ:zcj)(xM:zcG)(yo:zY)(L:Nat)(C:List V)(z:Int→Ob β)(A:Ls→Int→Int→List V→Lm→Ob β):Ob β:=chk (0+4≤(XK C)) (zJ β L (Xv V.dem (XL 4 C)) (fun E=>ifb (!E) (z (4:Int)) (cLd 35 C 1 fun F=>ifb ((((XK F:Nat):Int):Int)==(0:Int)) (z (93:Int)) (cLd 2 C 2 fun G=>ifb ((((XK G:Nat):Int):Int)==(0:Int)) (z (93:Int)) (cLd 2 C 2 fun H=>xM β L H (fun I=>ifb (!I) (z (90:Int)) (cLd 35 C 1 fun D=>A D ((XK D:Nat):Int) (0:Int) C ([]:Lm))))))))
theorem zZR{β:Type}(zJ:zcj)(xM:zcG)(yo:zY)(L:Nat)(z:List V)(k:KK β):yh zfb (zfd zJ xM yo L) L cf_tx_Check [(V.agg z)] [] k=zWJ zJ xM yo L z (fun z=>k (Qe z) []) (fun A C D F E=>zx (ze zfb (zfd zJ xM yo L) 0 L zni) zox L (zhj A C D F E) (xi 0 (yv (ze zfb (zfd zJ xM yo L) 0 L zsF) (zD 0 (CF.res cf_tx_Check) k)))):=by kernel_rfl
def zzq{β:Type}(zJ:zcj)(xM:zcG)(yo:zY)(L:Nat)(F:Ls)(G C:Int)(I:List V)(A:Lm)(D:Int→Lm→Ob β)(z:Ls→Int→Int→List V→Lm→Ob β)(H:List V→Lm→Ob β):Ob β:=ifb (decide (C<G)) (idx F C fun J=>chk ((XK (XL 35 J))=35∧0+35≤35) (lt (zk (We 32 (Qa (0:Int))++[(Qc (0:Int)),(Qc (0:Int)),(V.gs 1 ([]:Ls))]) 0 (XL 35 J)) fun E=>chk (0+33≤(XK E)) (mAt 35 (V.agg (XL 33 E)) A fun O=>aB (Option.getD O (V.sc (.bool false))) fun P=>ifb P (D (91:Int) A) (chk (0+33≤(XK E)) (z2L 35 (V.agg (XL 33 E)) (V.sc (.bool true)) A fun M=>lt (QG .i64 ((C:Int)+(1:Int))) fun N=>z F G N I M))))) (H I A)
theorem zLc{β:Type}(zJ:zcj)(xM:zcG)(yo:zY)(L:Nat)(A:Ls)(C D:Int)(E:List V)(z:Lm)(X:St→Ob β)(K:KT β):ze zfb (zfd zJ xM yo L) 0 L zni (zhj A C D E z) (yH zox X K)=zzq zJ xM yo L A C D E z (fun F z=>K .ret (zut F z)) (fun A C D E z=>X (zhj A C D E z)) (fun E z=>K (.exit 0) (zx7 E z)):=by kernel_rfl
def ztW{β:Type}(zJ:zcj)(xM:zcG)(yo:zY)(L:Nat)(A:Int)(C:Lm)(z:Int→Ob β):Ob β:=z A
theorem zDz{β:Type}(zJ:zcj)(xM:zcG)(yo:zY)(L:Nat)(A:Int)(z:Lm)(k:KK β):(xi 0 (yv (ze zfb (zfd zJ xM yo L) 0 L zsF) (zD 0 (CF.res cf_tx_Check) k))) .ret (zut A z)=ztW zJ xM yo L A z (fun C=>k (Qe C) []):=by kernel_rfl
def zws{β:Type}(zJ:zcj)(xM:zcG)(yo:zY)(L:Nat)(A:List V)(C:Lm)(z:Int→Ob β):Ob β:=mAt 35 (V.agg (We 32 (Qa (0:Int))++[(Qc (4294967295:Int))])) C fun D=>aB (Option.getD D (V.sc (.bool false))) fun E=>ifb E (chk (0+4≤(XK A)) (yo β L (Xv V.dem (XL 4 A)) (fun F=>ifb (!F) (z (92:Int)) (z (0:Int))))) (z (0:Int))
theorem zFF{β:Type}(zJ:zcj)(xM:zcG)(yo:zY)(L:Nat)(A:List V)(z:Lm)(k:KK β):(xi 0 (yv (ze zfb (zfd zJ xM yo L) 0 L zsF) (zD 0 (CF.res cf_tx_Check) k))) (.exit 0) (zx7 A z)=zws zJ xM yo L A z (fun C=>k (Qe C) []):=by kernel_rfl
def zoY{β:Type}(zJ:zcj)(xM:zcG)(yo:zY)(L:Nat)(z:Int→Lm→Ob β)(A:List V→Lm→Ob β):Nat→Ls→Int→Int→List V→Lm→Ob β
 | 0,_,_,_,_,_=>none
 | n+1,C,D,E,G,F=>zzq zJ xM yo L C D E G F z (fun C D E G F=>zoY zJ xM yo L z A n C D E G F) A
theorem ztt{β:Type}(zJ:zcj)(xM:zcG)(yo:zY)(L:Nat)(K:KT β):∀ (n:Nat) (C:Ls) (D E:Int) (A:List V) (z:Lm),zx (ze zfb (zfd zJ xM yo L) 0 L zni) zox n (zhj C D E A z) K=zoY zJ xM yo L (fun F z=>K .ret (zut F z)) (fun A z=>K (.exit 0) (zx7 A z)) n C D E A z:=by
 intro n; induction n <;> intros
 ·rfl
 ·exact (zLc ..).trans (by simp only [*]; rfl)
def zMO{β:Type}(zJ:zcj)(xM:zcG)(yo:zY)(L:Nat)(G:List V)(z:Int→Ob β):Ob β:=zWJ zJ xM yo L G z (fun D E F C A=>zoY zJ xM yo L (fun H A=>ztW zJ xM yo L H A z) (fun C A=>zws zJ xM yo L C A z) L D E F C A)
theorem zZC{β:Type}(zJ:zcj)(xM:zcG)(yo:zY)(L:Nat)(z:List V)(k:KK β):yh zfb (zfd zJ xM yo L) L cf_tx_Check [(V.agg z)] [] k=zMO zJ xM yo L z (fun z=>k (Qe z) []):=by
 refine (zZR zJ xM yo L z k).trans ?_
 unfold zMO
 first
  | (simp only [ztt,zDz,zFF]; done)
  | (simp only [ztt]; rfl)
abbrev zdb:=∀ (β:Type),Nat→List V→(Int→Ob β)→Ob β
def y5:zdb:=fun β=>@zMO β zJ xM yo
def zCo(y5:zdb)(L:Nat):Dk:=dA AG fun z=>d0 fun β k=>y5 β L z (fun z=>k (Qe z) [])
theorem zZO(L:Nat):DK (zCo y5 L) (fun _=>yh zfb (zfd zJ xM yo L) L cf_tx_Check):=xv zak fun z=>yK fun _ k=>zZC zJ xM yo L z k
def zQc:Hint:=⟨[(0,0),(2,5),(7,10),(9,0),(9,1)],[(2,4)],[none,some ((bl 262161 33),(bl 6979321823 33)),none,some ((bl 16 33),(bl 6979321823 33)),none,none],[],[(7,0,[0])],false,false,[]⟩
def cf_sha_Pad:CF:=cfD zQc 155
def zhT:CC:=yz [1,1,1,1,0,1,0,0] cf_sha_Pad.body
def zxT:CC:=yz [1,1,1,1,1] cf_sha_Pad.body
def zeL:Nat→Sh:=zj []
def zeJ(L:Nat):CBC:=noC
def ziW:St→St:=yM 0 (bl 262161 33) (bl 6979321823 33)
def znN(D:Int)(z:Nat)(A:Int)(C:List V):St:=⟨((Qd D)::(jn 3 ((V.own 15 0 z 1)::(jn 13 ((Qe A)::(jn 14 [])))))),(gn 15 ((.live true C)::(gn 17 [])))⟩
def zhn(C:Int)(D:Ls)(z:Int)(A:Nat):St:=⟨((Qd C)::(jn 3 ((V.gs 1 D)::(jn 13 ((Qe z)::(jn 14 [])))))),(gn 15 ((.dead A)::(gn 17 [])))⟩
def zz7(z:Nat)(A:List V):St:=⟨(jn 4 ((V.own 15 0 z 1)::(jn 28 []))),(gn 15 ((.live true A)::(gn 17 [])))⟩
def zok(A:Ls)(z:Nat):St:=⟨(jn 4 ((V.gs 1 A)::(jn 28 []))),(gn 15 ((.dead z)::(gn 17 [])))⟩
def zO8{β:Type}(L:Nat)(D:Int)(z:Int→Nat→Int→List V→Ob β):Ob β:=lt (QG .u64 ((D:Int)+(9:Int))) fun F=>lt (Int.tmod F (64:Int)) fun G=>lt (QG .u64 (((64:Int):Int)-G)) fun H=>lt (Int.tmod H (64:Int)) fun E=>lt (QG .u64 (((1:Int):Int)+E)) fun C=>lt (QG .u64 (((9:Int):Int)+E)) fun A=>chk (0≤C∧C≤A∧(XM A)*1≤xm∧A≤xm) (chk (0≤(0:Int)∧(0:Int)<(((XM C):Nat):Int)) (chk (1=1∧0+1≤(XK (XN (We (XM A) [(Qa (0:Int))])))) (lt (zk (XN (We (XM A) [(Qa (0:Int))])) 0 [(Qa (128:Int))]) fun I=>z D (XM C) (0:Int) I)))
theorem z11{β:Type}(L:Nat)(z:Int)(k:KK β):yh zeL (zeJ L) L cf_sha_Pad [(Qd z)] [] k=zO8 L z (fun z A C D=>zx (ze zeL (zeJ L) 0 L zhT) ziW L (znN z A C D) (xi 0 (yv (ze zeL (zeJ L) 0 L zxT) (zD 0 (CF.res cf_sha_Pad) k)))):=by kernel_rfl
def zmd{β:Type}(L:Nat)(G:Int)(C:Nat)(D:Int)(z:List V)(A:Int→Ls→Int→Nat→Ob β)(F:Nat→List V→Ob β):Ob β:=ifb (decide (D<(8:Int))) (chk (0=0∧C*1≤(XK z)∧(XK z)≠0) (lt (QG .u64 (((8:Int):Int)*G)) fun N=>lt (QG .i64 (((8:Int):Int)*D)) fun O=>lt (QG .i64 (((56:Int):Int)-O)) fun H=>chk (0≤H) (lt (zcN .u64 N H) fun I=>lt (QG .u8 I) fun E=>chk ((XK (yl 1 C z)+XK (yl 1 1 [(Qa E)]))*1≤xm∧XK (yl 1 C z)+XK (yl 1 1 [(Qa E)])≤xm) (lt ((yl 1 C z)++(yl 1 1 [(Qa E)])) fun J=>lt (QG .i64 ((D:Int)+(1:Int))) fun M=>A G J M (XK z))))) (F C z)
theorem zOm{β:Type}(L:Nat)(D:Int)(A:Nat)(C:Int)(z:List V)(X:St→Ob β)(K:KT β):ze zeL (zeJ L) 0 L zhT (znN D A C z) (yH ziW X K)=zmd L D A C z (fun D E C z=>X (zhn D E C z)) (fun A z=>K (.exit 0) (zz7 A z)):=by kernel_rfl
def zoz{β:Type}(L:Nat)(A:Nat)(C:List V)(z:Ls→Ob β):Ob β:=chk (A≠0∨(XK C)=0) (z (yl 1 A C))
theorem zJ2{β:Type}(L:Nat)(z:Nat)(A:List V)(k:KK β):(xi 0 (yv (ze zeL (zeJ L) 0 L zxT) (zD 0 (CF.res cf_sha_Pad) k))) (.exit 0) (zz7 z A)=zoz L z A (fun C=>k (V.fr 1 C) []):=by kernel_rfl
def zgU{β:Type}(L:Nat)(H:Int)(E:Ls)(A:Int)(F:Nat)(z:Int→Ls→Int→Nat→Ob β)(C:Ls→Nat→Ob β):Ob β:=ifb (decide (A<(8:Int))) (lt (QG .u64 (((8:Int):Int)*H)) fun I=>lt (QG .i64 (((8:Int):Int)*A)) fun J=>lt (QG .i64 (((56:Int):Int)-J)) fun G=>chk (0≤G) (lt (zcN .u64 I G) fun M=>lt (QG .u8 M) fun D=>chk ((XK E+XK (yl 1 1 [(Qa D)]))*1≤xm∧XK E+XK (yl 1 1 [(Qa D)])≤xm) (lt (E++(yl 1 1 [(Qa D)])) fun N=>lt (QG .i64 ((A:Int)+(1:Int))) fun O=>z H N O F))) (C E F)
theorem zJO{β:Type}(L:Nat)(D:Int)(C:Ls)(A:Int)(z:Nat)(X:St→Ob β)(K:KT β):ze zeL (zeJ L) 0 L zhT (zhn D C A z) (yH ziW X K)=zgU L D C A z (fun D C A z=>X (zhn D C A z)) (fun C z=>K (.exit 0) (zok C z)):=by kernel_rfl
def zgI{β:Type}(L:Nat)(A:Ls)(C:Nat)(z:Ls→Ob β):Ob β:=z A
theorem zCn{β:Type}(L:Nat)(A:Ls)(z:Nat)(k:KK β):(xi 0 (yv (ze zeL (zeJ L) 0 L zxT) (zD 0 (CF.res cf_sha_Pad) k))) (.exit 0) (zok A z)=zgI L A z (fun C=>k (V.gs 1 C) []):=by kernel_rfl
def zdH{β:Type}(L:Nat)(z:Ls→Nat→Ob β):Nat→Int→Ls→Int→Nat→Ob β
 | 0,_,_,_,_=>none
 | n+1,D,E,A,C=>zgU L D E A C (fun D E A C=>zdH L z n D E A C) z
theorem zJJ{β:Type}(L:Nat)(K:KT β):∀ (n:Nat) (D:Int) (A:Ls) (C:Int) (z:Nat),zx (ze zeL (zeJ L) 0 L zhT) ziW n (zhn D A C z) K=zdH L (fun A z=>K (.exit 0) (zok A z)) n D A C z:=by
 intro n; induction n <;> intros
 ·rfl
 ·exact (zJO ..).trans (by simp only [*]; rfl)
def zDK{β:Type}(L:Nat)(D:Nat→List V→Ob β)(z:Ls→Nat→Ob β):Nat→Int→Nat→Int→List V→Ob β
 | 0,_,_,_,_=>none
 | n+1,E,F,A,C=>zmd L E F A C (fun E G A C=>zdH L z n E G A C) D
theorem zwM{β:Type}(L:Nat)(K:KT β):∀ (n:Nat) (D:Int) (A:Nat) (C:Int) (z:List V),zx (ze zeL (zeJ L) 0 L zhT) ziW n (znN D A C z) K=zDK L (fun A z=>K (.exit 0) (zz7 A z)) (fun E z=>K (.exit 0) (zok E z)) n D A C z:=by
 intro n; induction n <;> intros
 ·rfl
 ·exact (zOm ..).trans (by simp only [zJJ]; rfl)
def zG8{β:Type}(L:Nat)(E:Int)(D:Ls→Ob β)(A:Ls→Ob β):Ob β:=zO8 L E (fun E C F z=>zDK L (fun C z=>zoz L C z D) (fun G z=>zgI L G z A) L E C F z)
theorem z2C{β:Type}(L:Nat)(z:Int)(k:KK β):yh zeL (zeJ L) L cf_sha_Pad [(Qd z)] [] k=zG8 L z (fun z=>k (V.fr 1 z) []) (fun z=>k (V.gs 1 z) []):=by
 refine (z11 L z k).trans ?_
 unfold zG8
 first
  | (simp only [zwM,zJ2,zCn]; done)
  | (simp only [zwM]; rfl)
abbrev zbH:=∀ (β:Type),Nat→Int→(Ls→Ob β)→(Ls→Ob β)→Ob β
def xC:zbH:=fun β=>@zG8 β
def zPb(xC:zbH)(L:Nat):Dk:=dA (AI .u64) fun z=>d0 fun β k=>xC β L z (fun z=>k (V.fr 1 z) []) (fun z=>k (V.gs 1 z) [])
theorem z0Q(L:Nat):DK (zPb xC L) (fun _=>yh zeL (zeJ L) L cf_sha_Pad):=xv zbN fun z=>yK fun _ k=>z2C L z k
def zPm:Hint:=⟨[(0,0),(1,0),(5,0),(5,3),(7,0),(7,1)],[],[none,some ((bl 456 17),(bl 114655 17)),none,some ((bl 8 17),(bl 114655 17)),none,none],[],[],false,false,[]⟩
def cf_sha_row:CF:=cfD zPm 154
def zvk:CC:=yz [1,1,0,1,0,0] cf_sha_row.body
def zPw:CC:=yz [1,1,1] cf_sha_row.body
def zh0:Nat→Sh:=zj [(11,(.sl 1))]
def zia(L:Nat):CBC:=noC
def zxi:St→St:=yM 0 (bl 456 17) (bl 114655 17)
def zkQ(z A:Ls)(C D:Int):St:=⟨(jn 3 ((V.gs 1 z)::(jn 2 ((V.sl 1 A)::((Qe C)::((Qe D)::(jn 8 []))))))),(gn 17 [])⟩
def zAc(z:Ls):St:=⟨(jn 3 ((V.gs 1 z)::(jn 13 []))),(gn 17 [])⟩
def zP5{β:Type}(L:Nat)(A:Ls)(z:Ls→Ls→Int→Int→Ob β):Ob β:=z ([]:Ls) A ((XK A:Nat):Int) (0:Int)
theorem z1J{β:Type}(L:Nat)(z:Ls)(k:KK β):yh zh0 (zia L) L cf_sha_row [(V.sl 1 z)] [] k=zP5 L z (fun A C D E=>zx (ze zh0 (zia L) 0 L zvk) zxi L (zkQ A C D E) (xi 0 (yv (ze zh0 (zia L) 0 L zPw) (zD 0 (CF.res cf_sha_row) k)))):=by kernel_rfl
def zeU{β:Type}(L:Nat)(A F:Ls)(G C:Int)(z:Ls→Ls→Int→Int→Ob β)(D:Ls→Ob β):Ob β:=ifb (decide (C<G)) (idx F C fun H=>cL 1 H 0 fun E=>chk ((XK A+XK E)*1≤xm∧XK A+XK E≤xm) (lt (A++E) fun I=>lt (QG .i64 ((C:Int)+(1:Int))) fun J=>z I F G J)) (D A)
theorem zRx{β:Type}(L:Nat)(z A:Ls)(C D:Int)(X:St→Ob β)(K:KT β):ze zh0 (zia L) 0 L zvk (zkQ z A C D) (yH zxi X K)=zeU L z A C D (fun z A C D=>X (zkQ z A C D)) (fun z=>K (.exit 0) (zAc z)):=by kernel_rfl
def zgh{β:Type}(L:Nat)(A:Ls)(z:Ls→Ob β):Ob β:=z A
theorem zOl{β:Type}(L:Nat)(z:Ls)(k:KK β):(xi 0 (yv (ze zh0 (zia L) 0 L zPw) (zD 0 (CF.res cf_sha_row) k))) (.exit 0) (zAc z)=zgh L z (fun A=>k (V.gs 1 A) []):=by kernel_rfl
def ziH{β:Type}(L:Nat)(z:Ls→Ob β):Nat→Ls→Ls→Int→Int→Ob β
 | 0,_,_,_,_=>none
 | n+1,A,C,D,E=>zeU L A C D E (fun A C D E=>ziH L z n A C D E) z
theorem zBr{β:Type}(L:Nat)(K:KT β):∀ (n:Nat) (z A:Ls) (C D:Int),zx (ze zh0 (zia L) 0 L zvk) zxi n (zkQ z A C D) K=ziH L (fun z=>K (.exit 0) (zAc z)) n z A C D:=by
 intro n; induction n <;> intros
 ·rfl
 ·exact (zRx ..).trans (by simp only [*]; rfl)
def zHh{β:Type}(L:Nat)(C:Ls)(z:Ls→Ob β):Ob β:=zP5 L C (fun A D E F=>ziH L (fun A=>zgh L A z) L A D E F)
theorem z1c{β:Type}(L:Nat)(z:Ls)(k:KK β):yh zh0 (zia L) L cf_sha_row [(V.sl 1 z)] [] k=zHh L z (fun z=>k (V.gs 1 z) []):=by
 refine (z1J L z k).trans ?_
 unfold zHh
 first
  | (simp only [zBr,zOl]; done)
  | (simp only [zBr]; rfl)
abbrev zbI:=∀ (β:Type),Nat→Ls→(Ls→Ob β)→Ob β
def xB:zbI:=fun β=>@zHh β
def zOR(xB:zbI)(L:Nat):Dk:=dA (AL 1) fun z=>d0 fun β k=>xB β L z (fun z=>k (V.gs 1 z) [])
theorem z18(L:Nat):DK (zOR xB L) (fun _=>yh zh0 (zia L) L cf_sha_row):=xv zaZ fun z=>yK fun _ k=>z1c L z k
def zNl:Hint:=⟨[],[],[none],[],[],false,false,[]⟩
def zSN:CF:=cfD zNl 180
def zIT:Nat→Sh:=zj []
def zIv(xx:zbk)(L:Nat):CBC:=(xe 572 (zfs xx L) noC)
def zMC{β:Type}(xx:zbk)(L:Nat)(A C:Int)(z:Int→Ob β):Ob β:=lt (QG .i64 (0-C)) fun D=>xx β L A D (fun E=>z E)
theorem z0m{β:Type}(xx:zbk)(L:Nat)(z A:Int)(k:KK β):yh zIT (zIv xx L) L zSN [(Qc z),(Qe A)] [] k=zMC xx L z A (fun z=>k (Qc z) []):=by kernel_rfl
abbrev xQ:=∀ (β:Type),Nat→Int→Int→(Int→Ob β)→Ob β
def xf:xQ:=fun β=>@zMC β xx
def zCs(xf:xQ)(L:Nat):Dk:=dA (AI .u32) fun z=>dA (AI .i64) fun A=>d0 fun β k=>xf β L z A (fun z=>k (Qc z) [])
theorem z0o(L:Nat):DK (zCs xf L) (fun _=>yh zIT (zIv xx L) L zSN):=xv zbN fun z=>xv zbN fun A=>yK fun _ k=>z0m xx L z A k
def zBe:Hint:=⟨[],[],[none,some ((bl 526 85),(bl 38685626227668133590597583 85)),none,some ((bl 12 85),(bl 38685626227668133590597581 85)),none,none,some ((bl 4638 85),(bl 38685626227668133590597599 85)),none,some ((bl 526 85),(bl 38685626227668133590597599 85)),none,none,some ((bl 76 85),(bl 38685623849749388397117053 85)),none,some ((bl 12 85),(bl 38685623849749388397116989 85)),none,none],[],[],false,false,[]⟩
def cf_sha_schedule:CF:=cfD zBe 179
def zgj:CC:=yz [1,1,0,1,0,0,1,1,0,0,1,1,0,0] cf_sha_schedule.body
def zqy:CC:=yz [1,1,0,1,0,0,1,1,1] cf_sha_schedule.body
def zk5:CC:=yz [1,1,1,0,1,0,0] cf_sha_schedule.body
def zin:CC:=yz [1,1,0,1,0,0] cf_sha_schedule.body
def zyB:CC:=yz [1,1,1,1] cf_sha_schedule.body
def zqD:CC:=yz [1,1,1] cf_sha_schedule.body
def z8:Nat→Sh:=zj [(18,(.int .u32)),(25,(.int .u8)),(38,(.int .u32)),(43,(.int .u32)),(49,(.int .u32)),(55,(.int .u32)),(60,(.int .u32)),(66,(.int .u32)),(73,(.int .u32)),(79,(.int .u32))]
def y6(xf:xQ)(L:Nat):CBC:=(xe 535 (zCs xf L) noC)
def zel:St→St:=yM 0 (bl 526 85) (bl 38685626227668133590597583 85)
def zhc:St→St:=yM 0 (bl 4638 85) (bl 38685626227668133590597599 85)
def zmv:St→St:=yM 0 (bl 76 85) (bl 38685623849749388397117053 85)
def zcY(z:Int)(A C D:List V):St:=⟨(jn 1 ((V.ptr 1 0)::((V.ptr 2 0)::((V.ptr 3 0)::(jn 5 ((Qe z)::(jn 75 []))))))),(gn 1 ((.live true A)::((.live true C)::((.live true D)::(gn 81 [])))))⟩
def zda(A C z:Int)(D E F:List V):St:=⟨(jn 1 ((V.ptr 1 0)::((V.ptr 2 0)::((V.ptr 3 0)::((Qe A)::(jn 4 ((Qe C)::(jn 2 ((Qe z)::(jn 72 [])))))))))),(gn 1 ((.live true D)::((.live true E)::((.live true F)::(gn 81 [])))))⟩
def zgZ(z A:List V):St:=⟨(jn 2 ((V.ptr 2 0)::((V.ptr 3 0)::(jn 81 [])))),(gn 2 ((.live true z)::((.live true A)::(gn 81 []))))⟩
def zf6(z:Int)(A C:List V):St:=⟨(jn 2 ((V.ptr 2 0)::((V.ptr 3 0)::(jn 2 ((Qe z)::(jn 78 [])))))),(gn 2 ((.live true A)::((.live true C)::(gn 81 []))))⟩
def zo4(z:Int)(A C D:List V):St:=⟨(jn 1 ((V.ptr 1 0)::((V.ptr 2 0)::((V.ptr 3 0)::(jn 5 ((Qe z)::(jn 75 []))))))),(gn 1 ((.live true A)::((.live true C)::((.live true D)::(gn 81 [])))))⟩
def zoD(z A:List V):St:=⟨(jn 2 ((V.ptr 2 0)::((V.ptr 3 0)::(jn 81 [])))),(gn 2 ((.live true z)::((.live true A)::(gn 81 []))))⟩
def zyg{β:Type}(xf:xQ)(L:Nat)(A:List V)(z:Int→List V→List V→List V→Ob β):Ob β:=z (0:Int) A (We 64 (Qc (0:Int))) (We 64 (Qc (0:Int)))
theorem zRy{β:Type}(xf:xQ)(L:Nat)(z:List V)(k:KK β):yh z8 (y6 xf L) L cf_sha_schedule [(V.agg z)] [] k=zyg xf L z (fun A C D E=>zx (ze z8 (y6 xf L) 0 L zin) zel L (zcY A C D E) (xi 0 (yv (ze z8 (y6 xf L) 0 L zqD) (zD 0 (CF.res cf_sha_schedule) k)))):=by kernel_rfl
def zi3{β:Type}(xf:xQ)(L:Nat)(A:Int)(F D E:List V)(z:Int→Int→Int→List V→List V→List V→Ob β)(C:List V→List V→Ob β):Ob β:=ifb (decide (A<(16:Int))) (z A A (0:Int) F D E) (C D E)
theorem zHQ{β:Type}(xf:xQ)(L:Nat)(C:Int)(D z A:List V)(X:St→Ob β)(K:KT β):ze z8 (y6 xf L) 0 L zin (zcY C D z A) (yH zel X K)=zi3 xf L C D z A (fun F C E D z A=>zx (ze z8 (y6 xf L) 0 L zgj) zhc L (zda F C E D z A) (xi 2 (xi 1 (yv (ze z8 (y6 xf L) 0 L zqy) (yH zel X K))))) (fun z A=>K (.exit 0) (zgZ z A)):=by kernel_rfl
def zkV{β:Type}(xf:xQ)(L:Nat)(A C:List V)(z:Int→List V→List V→Ob β):Ob β:=z (16:Int) A C
theorem zDE{β:Type}(xf:xQ)(L:Nat)(z A:List V)(k:KK β):(xi 0 (yv (ze z8 (y6 xf L) 0 L zqD) (zD 0 (CF.res cf_sha_schedule) k))) (.exit 0) (zgZ z A)=zkV xf L z A (fun C z A=>zx (ze z8 (y6 xf L) 0 L zk5) zmv L (zf6 C z A) (xi 4 (yv (ze z8 (y6 xf L) 0 L zyB) (zD 0 (CF.res cf_sha_schedule) k)))):=by kernel_rfl
def zbe{β:Type}(xf:xQ)(L:Nat)(A H C:Int)(E I D:List V)(z:Int→Int→Int→List V→List V→List V→Ob β)(F:Int→List V→List V→List V→Ob β):Ob β:=ifb (decide (C<(4:Int))) (chk (0≤A∧A<((64:Nat):Int)) (cI .u32 D (0+((XM A)*1)) fun J=>lt (zgr .u32 J (8:Int)) fun M=>lt (QG .i64 (((4:Int):Int)*A)) fun N=>lt (QG .i64 ((N:Int)+C)) fun G=>chk (0≤G∧G<((64:Nat):Int)) (cI .u8 E (0+((XM G)*1)) fun O=>lt (QG .u32 O) fun P=>lt (ior .u32 M P) fun Q=>chk (0≤A∧A<((64:Nat):Int)) (chk (1=1∧(0+((XM A)*1))+1≤(XK D)) (lt (zk D (0+((XM A)*1)) [(Qc Q)]) fun R=>lt (QG .i64 ((C:Int)+(1:Int))) fun S=>z A H S E I R))))) (F H E I D)
theorem zuE{β:Type}(xf:xQ)(L:Nat)(F A z:Int)(C D E:List V)(X:St→Ob β)(K:KT β):ze z8 (y6 xf L) 0 L zgj (zda F A z C D E) (yH zhc X K)=zbe xf L F A z C D E (fun F A z C D E=>X (zda F A z C D E)) (fun A C D E=>K (.exit 2) (zo4 A C D E)):=by kernel_rfl
def zd1{β:Type}(xf:xQ)(L:Nat)(z:Int)(O A:List V)(C:Int→List V→List V→Ob β)(M:List V→List V→Ob β):Ob β:=ifb (decide (z<(64:Int))) (lt (QG .i64 ((z:Int)-(15:Int))) fun N=>chk (0≤N∧N<((64:Nat):Int)) (cI .u32 A (0+((XM N)*1)) fun P=>xf β L P (7:Int) (fun Q=>lt (QG .i64 ((z:Int)-(15:Int))) fun D=>chk (0≤D∧D<((64:Nat):Int)) (cI .u32 A (0+((XM D)*1)) fun R=>xf β L R (18:Int) (fun S=>lt (zdL .u32 Q S) fun T=>lt (QG .i64 ((z:Int)-(15:Int))) fun E=>chk (0≤E∧E<((64:Nat):Int)) (cI .u32 A (0+((XM E)*1)) fun U=>lt (zcN .u32 U (3:Int)) fun W=>lt (zdL .u32 T W) fun X=>lt (QG .i64 ((z:Int)-(2:Int))) fun F=>chk (0≤F∧F<((64:Nat):Int)) (cI .u32 A (0+((XM F)*1)) fun Y=>xf β L Y (17:Int) (fun Z=>lt (QG .i64 ((z:Int)-(2:Int))) fun G=>chk (0≤G∧G<((64:Nat):Int)) (cI .u32 A (0+((XM G)*1)) fun aa=>xf β L aa (19:Int) (fun ab=>lt (zdL .u32 Z ab) fun ac=>lt (QG .i64 ((z:Int)-(2:Int))) fun H=>chk (0≤H∧H<((64:Nat):Int)) (cI .u32 A (0+((XM H)*1)) fun ad=>lt (zcN .u32 ad (10:Int)) fun ae=>lt (zdL .u32 ac ae) fun af=>lt (QG .i64 ((z:Int)-(16:Int))) fun I=>chk (0≤I∧I<((64:Nat):Int)) (cI .u32 A (0+((XM I)*1)) fun ag=>lt (QG .u32 ((ag:Int)+X)) fun ah=>lt (QG .i64 ((z:Int)-(7:Int))) fun J=>chk (0≤J∧J<((64:Nat):Int)) (cI .u32 A (0+((XM J)*1)) fun ai=>lt (QG .u32 ((ah:Int)+ai)) fun aj=>lt (QG .u32 ((aj:Int)+af)) fun ak=>chk (0≤z∧z<((64:Nat):Int)) (chk (1=1∧(0+((XM z)*1))+1≤(XK A)) (lt (zk A (0+((XM z)*1)) [(Qc ak)]) fun al=>lt (QG .i64 ((z:Int)+(1:Int))) fun am=>C am O al))))))))))))))) (M O A)
theorem zFo{β:Type}(xf:xQ)(L:Nat)(C:Int)(z A:List V)(X:St→Ob β)(K:KT β):ze z8 (y6 xf L) 0 L zk5 (zf6 C z A) (yH zmv X K)=zd1 xf L C z A (fun C z A=>X (zf6 C z A)) (fun z A=>K (.exit 4) (zoD z A)):=by kernel_rfl
def zfX{β:Type}(xf:xQ)(L:Nat)(C:Int)(D E F:List V)(z:Int→List V→List V→List V→Ob β):Ob β:=lt (QG .i64 ((C:Int)+(1:Int))) fun A=>z A D E F
theorem zsP{β:Type}(xf:xQ)(L:Nat)(z:Int)(A C D:List V)(X:St→Ob β)(K:KT β):(xi 2 (xi 1 (yv (ze z8 (y6 xf L) 0 L zqy) (yH zel X K)))) (.exit 2) (zo4 z A C D)=zfX xf L z A C D (fun z A C D=>X (zcY z A C D)):=by kernel_rfl
def zkf{β:Type}(xf:xQ)(L:Nat)(D C:List V)(z:List V→Ob β):Ob β:=chk (0+64≤(XK C)) (chk ((XK (XL 64 C))=64∧0+64≤(XK D)) (lt (zk D 0 (XL 64 C)) fun A=>chk (0=0∧(XK A)=64∧64≠0) (z A)))
theorem zCr{β:Type}(xf:xQ)(L:Nat)(z A:List V)(k:KK β):(xi 4 (yv (ze z8 (y6 xf L) 0 L zyB) (zD 0 (CF.res cf_sha_schedule) k))) (.exit 4) (zoD z A)=zkf xf L z A (fun C=>k (V.agg C) []):=by kernel_rfl
def zaz{β:Type}(xf:xQ)(L:Nat)(z:Int→List V→List V→List V→Ob β):Nat→Int→Int→Int→List V→List V→List V→Ob β
 | 0,_,_,_,_,_,_=>none
 | n+1,C,D,A,E,F,G=>zbe xf L C D A E F G (fun C D A E F G=>zaz xf L z n C D A E F G) z
theorem zj4{β:Type}(xf:xQ)(L:Nat)(K:KT β):∀ (n:Nat) (F z E:Int) (A C D:List V),zx (ze z8 (y6 xf L) 0 L zgj) zhc n (zda F z E A C D) K=zaz xf L (fun z A C D=>K (.exit 2) (zo4 z A C D)) n F z E A C D:=by
 intro n; induction n <;> intros
 ·rfl
 ·exact (zuE ..).trans (by simp only [*]; rfl)
def zdX{β:Type}(xf:xQ)(L:Nat)(A:Int)(C D E:List V)(F:List V→List V→Ob β)(z:Int→List V→List V→List V→Ob β):Ob β:=zi3 xf L A C D E (fun H A G C D E=>zaz xf L (fun A C D E=>zfX xf L A C D E z) L H A G C D E) F
theorem zE9{β:Type}(xf:xQ)(L:Nat)(C:Int)(D z A:List V)(X:St→Ob β)(K:KT β):ze z8 (y6 xf L) 0 L zin (zcY C D z A) (yH zel X K)=zdX xf L C D z A (fun z A=>K (.exit 0) (zgZ z A)) (fun C D z A=>X (zcY C D z A)):=by
 refine (zHQ xf L C D z A X K).trans ?_
 unfold zdX
 first
  | (simp only [zj4,zsP]; done)
  | (simp only [zj4]; rfl)
def zep{β:Type}(xf:xQ)(L:Nat)(z:List V→List V→Ob β):Nat→Int→List V→List V→List V→Ob β
 | 0,_,_,_,_=>none
 | n+1,A,C,D,E=>zdX xf L A C D E z (fun A C D E=>zep xf L z n A C D E)
theorem zrG{β:Type}(xf:xQ)(L:Nat)(K:KT β):∀ (n:Nat) (C:Int) (D z A:List V),zx (ze z8 (y6 xf L) 0 L zin) zel n (zcY C D z A) K=zep xf L (fun z A=>K (.exit 0) (zgZ z A)) n C D z A:=by
 intro n; induction n <;> intros
 ·rfl
 ·exact (zE9 ..).trans (by simp only [*]; rfl)
def zd6{β:Type}(xf:xQ)(L:Nat)(z:List V→List V→Ob β):Nat→Int→List V→List V→Ob β
 | 0,_,_,_=>none
 | n+1,A,C,D=>zd1 xf L A C D (fun A C D=>zd6 xf L z n A C D) z
theorem zqn{β:Type}(xf:xQ)(L:Nat)(K:KT β):∀ (n:Nat) (C:Int) (z A:List V),zx (ze z8 (y6 xf L) 0 L zk5) zmv n (zf6 C z A) K=zd6 xf L (fun z A=>K (.exit 4) (zoD z A)) n C z A:=by
 intro n; induction n <;> intros
 ·rfl
 ·exact (zFo ..).trans (by simp only [*]; rfl)
def zgN{β:Type}(xf:xQ)(L:Nat)(z A:List V)(C:List V→Ob β):Ob β:=zkV xf L z A (fun D z A=>zd6 xf L (fun z A=>zkf xf L z A C) L D z A)
theorem zCp{β:Type}(xf:xQ)(L:Nat)(z A:List V)(k:KK β):(xi 0 (yv (ze z8 (y6 xf L) 0 L zqD) (zD 0 (CF.res cf_sha_schedule) k))) (.exit 0) (zgZ z A)=zgN xf L z A (fun C=>k (V.agg C) []):=by
 refine (zDE xf L z A k).trans ?_
 unfold zgN
 first
  | (simp only [zqn,zCr]; done)
  | (simp only [zqn]; rfl)
def zqf{β:Type}(xf:xQ)(L:Nat)(D:List V)(z:List V→Ob β):Ob β:=zyg xf L D (fun E F A C=>zep xf L (fun A C=>zgN xf L A C z) L E F A C)
theorem zRB{β:Type}(xf:xQ)(L:Nat)(z:List V)(k:KK β):yh z8 (y6 xf L) L cf_sha_schedule [(V.agg z)] [] k=zqf xf L z (fun z=>k (V.agg z) []):=by
 refine (zRy xf L z k).trans ?_
 unfold zqf
 first
  | (simp only [zrG,zCp]; done)
  | (simp only [zrG]; rfl)
abbrev zbL:=∀ (β:Type),Nat→List V→(List V→Ob β)→Ob β
def zC:zbL:=fun β=>@zqf β xf
def zxO(zC:zbL)(L:Nat):Dk:=dA AG fun z=>d0 fun β k=>zC β L z (fun z=>k (V.agg z) [])
theorem zRz(L:Nat):DK (zxO zC L) (fun _=>yh z8 (y6 xf L) L cf_sha_schedule):=xv zak fun z=>yK fun _ k=>zRB xf L z k
def zBq:Hint:=⟨[],[],[none,some ((bl 34359754740 131),(bl 2722258935367507704976878695863201710071 131)),none,some ((bl 16340 131),(bl 2722258935367507704976878695863201710039 131)),none,none],[],[],false,false,[]⟩
def cf_sha_Compress:CF:=cfD zBq 156
def zkx:CC:=yz [1,1,1,1,0,1,0,0] cf_sha_Compress.body
def zwQ:CC:=yz [1,1,1,1,1] cf_sha_Compress.body
def zdh:Nat→Sh:=zj [(20,(.int .u32)),(22,(.int .u32)),(24,(.int .u32)),(26,(.int .u32)),(28,(.int .u32)),(30,(.int .u32)),(32,(.int .u32)),(34,(.int .u32)),(59,(.int .u32)),(63,(.int .u32)),(99,(.int .u32)),(103,(.int .u32)),(107,(.int .u32)),(111,(.int .u32)),(115,(.int .u32)),(119,(.int .u32)),(123,(.int .u32)),(127,(.int .u32))]
def zdd(zC:zbL)(xf:xQ)(L:Nat):CBC:=(xe 535 (zCs xf L) (xe 534 (zxO zC L) noC))
def zkZ:St→St:=yM 0 (bl 34359754740 131) (bl 2722258935367507704976878695863201710071 131)
def zfI(P Q R S I J M N O:Int)(T:List V)(z A C D E F G H:Int)(U:List V):St:=⟨(jn 2 ((V.ptr 2 0)::(jn 1 ((V.ptr 4 0)::((V.ptr 5 0)::((Qc P)::((Qc Q)::((Qc R)::((Qc S)::((Qc I)::((Qc J)::((Qc M)::((Qc N)::(jn 21 ((Qe O)::(jn 95 [])))))))))))))))),(gn 2 ((.live true T)::(gn 1 ((.live true [(Qc z),(Qc A),(Qc C),(Qc D),(Qc E),(Qc F),(Qc G),(Qc H)])::((.live true U)::(gn 125 []))))))⟩
def zpT(O P Q R I J M N:Int)(S:List V)(z A C D E F G H:Int):St:=⟨(jn 2 ((V.ptr 2 0)::(jn 1 ((V.ptr 4 0)::(jn 1 ((Qc O)::((Qc P)::((Qc Q)::((Qc R)::((Qc I)::((Qc J)::((Qc M)::((Qc N)::(jn 117 [])))))))))))))),(gn 2 ((.live true S)::(gn 1 ((.live true [(Qc z),(Qc A),(Qc C),(Qc D),(Qc E),(Qc F),(Qc G),(Qc H)])::(gn 126 [])))))⟩
abbrev zkt(β:Type):Type:=Int→Int→Int→Int→Int→Int→Int→Int→Int→List V→Int→Int→Int→Int→Int→Int→Int→Int→List V→Ob β
abbrev zmj(β:Type):Type:=Int→Int→Int→Int→Int→Int→Int→Int→List V→Int→Int→Int→Int→Int→Int→Int→Int→Ob β
def zxD{β:Type}(zC:zbL)(xf:xQ)(L:Nat)(z C:List V)(A:zkt β):Ob β:=chk (0+64≤(XK C)) (zC β L (XL 64 C) (fun D=>chk ((XK D)=64∧0+64≤64) (lt (zk (We 64 (Qc (0:Int))) 0 D) fun E=>cI .u32 z 0 fun F=>cI .u32 z 1 fun G=>cI .u32 z 2 fun H=>cI .u32 z 3 fun I=>cI .u32 z 4 fun J=>cI .u32 z 5 fun M=>cI .u32 z 6 fun N=>cI .u32 z 7 fun O=>A F G H I J M N O (0:Int) z (0:Int) (0:Int) (0:Int) (0:Int) (0:Int) (0:Int) (0:Int) (0:Int) E)))
theorem zQ9{β:Type}(zC:zbL)(xf:xQ)(L:Nat)(I J:List V)(k:KK β):yh zdh (zdd zC xf L) L cf_sha_Compress [(V.agg I),(V.agg J)] [] k=zxD zC xf L I J (fun R S T U M N O P Q W z A C D E F G H X=>zx (ze zdh (zdd zC xf L) 0 L zkx) zkZ L (zfI R S T U M N O P Q W z A C D E F G H X) (xi 0 (yv (ze zdh (zdd zC xf L) 0 L zwQ) (zD 0 (CF.res cf_sha_Compress) k)))):=by kernel_rfl
def zeX{β:Type}(zC:zbL)(xf:xQ)(L:Nat)(D Q R W A E F S z:Int)(X:List V)(G H I J M N O P:Int)(Y:List V)(C:zkt β)(U:zmj β):Ob β:=ifb (decide (z<(64:Int))) (xf β L A (6:Int) (fun Z=>xf β L A (11:Int) (fun aa=>lt (zdL .u32 Z aa) fun ab=>xf β L A (25:Int) (fun ac=>lt (zdL .u32 ab ac) fun ad=>lt (QG .u32 ((S:Int)+ad)) fun ae=>lt (zgx .u32 A E) fun af=>lt (z1F .u32 A) fun ag=>lt (zgx .u32 ag F) fun ah=>lt (zdL .u32 af ah) fun ai=>lt (QG .u32 ((ae:Int)+ai)) fun aj=>chk (0≤z∧z<((64:Nat):Int)) (cI .u32 (XO ((XM z)*1) gk_sha_k) 0 fun ak=>lt (QG .u32 ((aj:Int)+ak)) fun al=>chk (0≤z∧z<((64:Nat):Int)) (cI .u32 Y (0+((XM z)*1)) fun am=>lt (QG .u32 ((al:Int)+am)) fun T=>xf β L D (2:Int) (fun an=>xf β L D (13:Int) (fun ao=>lt (zdL .u32 an ao) fun ap=>xf β L D (22:Int) (fun aq=>lt (zdL .u32 ap aq) fun ar=>lt (zgx .u32 D Q) fun au=>lt (zgx .u32 D R) fun av=>lt (zdL .u32 au av) fun aw=>lt (zgx .u32 Q R) fun ax=>lt (zdL .u32 aw ax) fun ay=>lt (QG .u32 ((ar:Int)+ay)) fun az=>lt (QG .u32 ((T:Int)+az)) fun aC=>lt (QG .u32 ((W:Int)+T)) fun aD=>lt (QG .i64 ((z:Int)+(1:Int))) fun aE=>C aC D Q R aD A E F aE X G H I J M N O P Y))))))))) (U D Q R W A E F S X G H I J M N O P)
theorem zE2{β:Type}(zC:zbL)(xf:xQ)(L:Nat)(P Q R S I J M N O:Int)(T:List V)(z A C D E F G H:Int)(U:List V)(X:St→Ob β)(K:KT β):ze zdh (zdd zC xf L) 0 L zkx (zfI P Q R S I J M N O T z A C D E F G H U) (yH zkZ X K)=zeX zC xf L P Q R S I J M N O T z A C D E F G H U (fun P Q R S I J M N O T z A C D E F G H U=>X (zfI P Q R S I J M N O T z A C D E F G H U)) (fun P Q R S I J M N T z A C D E F G H=>K (.exit 0) (zpT P Q R S I J M N T z A C D E F G H)):=by kernel_rfl
def zfY{β:Type}(zC:zbL)(xf:xQ)(L:Nat)(p6 p7 p8 p9 D E F G:Int)(z:List V)(ae af ag ah ai aj ak al:Int)(A:List V→Ob β):Ob β:=cI .u32 z 0 fun H=>lt (QG .u32 ((H:Int)+p6)) fun I=>cI .u32 z 1 fun J=>lt (QG .u32 ((J:Int)+p7)) fun M=>cI .u32 z 2 fun N=>lt (QG .u32 ((N:Int)+p8)) fun O=>cI .u32 z 3 fun P=>lt (QG .u32 ((P:Int)+p9)) fun Q=>cI .u32 z 4 fun R=>lt (QG .u32 ((R:Int)+D)) fun S=>cI .u32 z 5 fun T=>lt (QG .u32 ((T:Int)+E)) fun U=>cI .u32 z 6 fun W=>lt (QG .u32 ((W:Int)+F)) fun X=>cI .u32 z 7 fun Y=>lt (QG .u32 ((Y:Int)+G)) fun Z=>lt [(Qc I),(Qc M),(Qc O),(Qc Q),(Qc S),(Qc U),(Qc X),(Qc Z)] fun C=>chk (0=0∧(XK C)=8∧8≠0) (A C)
theorem zzV{β:Type}(zC:zbL)(xf:xQ)(L:Nat)(O P Q R I J M N:Int)(S:List V)(z A C D E F G H:Int)(k:KK β):(xi 0 (yv (ze zdh (zdd zC xf L) 0 L zwQ) (zD 0 (CF.res cf_sha_Compress) k))) (.exit 0) (zpT O P Q R I J M N S z A C D E F G H)=zfY zC xf L O P Q R I J M N S z A C D E F G H (fun T=>k (V.agg T) []):=by kernel_rfl
def zdt{β:Type}(zC:zbL)(xf:xQ)(L:Nat)(I:zmj β):Nat→Int→Int→Int→Int→Int→Int→Int→Int→Int→List V→Int→Int→Int→Int→Int→Int→Int→Int→List V→Ob β
 | 0,_,_,_,_,_,_,_,_,_,_,_,_,_,_,_,_,_,_,_=>none
 | n+1,Q,R,S,T,J,M,N,O,P,U,z,A,C,D,E,F,G,H,W=>zeX zC xf L Q R S T J M N O P U z A C D E F G H W (fun Q R S T J M N O P U z A C D E F G H W=>zdt zC xf L I n Q R S T J M N O P U z A C D E F G H W) I
theorem zpd{β:Type}(zC:zbL)(xf:xQ)(L:Nat)(K:KT β):∀ (n:Nat) (O P Q R I J M N T:Int) (S:List V) (z A C D E F G H:Int) (U:List V),zx (ze zdh (zdd zC xf L) 0 L zkx) zkZ n (zfI O P Q R I J M N T S z A C D E F G H U) K=zdt zC xf L (fun O P Q R I J M N S z A C D E F G H=>K (.exit 0) (zpT O P Q R I J M N S z A C D E F G H)) n O P Q R I J M N T S z A C D E F G H U:=by
 intro n; induction n <;> intros
 ·rfl
 ·exact (zE2 ..).trans (by simp only [*]; rfl)
def zqj{β:Type}(zC:zbL)(xf:xQ)(L:Nat)(W X:List V)(O:List V→Ob β):Ob β:=zxD zC xf L W X (fun P Q R S I J M N U T z A C D E F G H Y=>zdt zC xf L (fun P Q R S I J M N T z A C D E F G H=>zfY zC xf L P Q R S I J M N T z A C D E F G H O) L P Q R S I J M N U T z A C D E F G H Y)
theorem zRF{β:Type}(zC:zbL)(xf:xQ)(L:Nat)(z A:List V)(k:KK β):yh zdh (zdd zC xf L) L cf_sha_Compress [(V.agg z),(V.agg A)] [] k=zqj zC xf L z A (fun z=>k (V.agg z) []):=by
 refine (zQ9 zC xf L z A k).trans ?_
 unfold zqj
 first
  | (simp only [zpd,zzV]; done)
  | (simp only [zpd]; rfl)
abbrev zac:=∀ (β:Type),Nat→List V→List V→(List V→Ob β)→Ob β
def xn:zac:=fun β=>@zqj β zC xf
def zxg(xn:zac)(L:Nat):Dk:=dA AG fun z=>dA AG fun A=>d0 fun β k=>xn β L z A (fun z=>k (V.agg z) [])
theorem zRm(L:Nat):DK (zxg xn L) (fun _=>yh zdh (zdd zC xf L) L cf_sha_Compress):=xv zak fun z=>xv zak fun A=>yK fun _ k=>zRF zC xf L z A k
def zPy:Hint:=⟨[(1,7)],[],[none,some ((bl 786460 48),(bl 281474439839647 48)),none,some ((bl 20 48),(bl 281474439839647 48)),none,none,some ((bl 2147483732 48),(bl 281474976710527 48)),none,some ((bl 68 48),(bl 281474976710511 48)),none,none],[],[],false,false,[]⟩
def cf_sha_Sum:CF:=cfD zPy 104
def zpg:CC:=yz [1,1,1,1,1,0,1,0,0] cf_sha_Sum.body
def zte:CC:=yz [1,1,1,0,1,0,0] cf_sha_Sum.body
def zFY:CC:=yz [1,1,1,1,1,1] cf_sha_Sum.body
def zAu:CC:=yz [1,1,1,1] cf_sha_Sum.body
def zcF:Nat→Sh:=zj [(38,(.int .u32))]
def zcH(xC:zbH)(xB:zbI)(xn:zac)(L:Nat):CBC:=(xe 498 (zxg xn L) (xe 496 (zOR xB L) (xe 497 (zPb xC L) noC)))
def zv3:St→St:=yM 0 (bl 786460 48) (bl 281474439839647 48)
def zru:St→St:=yM 0 (bl 2147483732 48) (bl 281474976710527 48)
def zjS(C:Ls)(z A:Int)(D E:List V):St:=⟨(jn 2 ((V.ptr 2 0)::((V.gs 1 C)::((V.ptr 4 0)::(jn 13 ((Qe z)::((Qe A)::(jn 28 [])))))))),(gn 2 ((.live true D)::(gn 1 ((.live true E)::(gn 43 [])))))⟩
def zsy(z A:List V):St:=⟨(jn 2 ((V.ptr 2 0)::(jn 1 ((V.ptr 4 0)::(jn 43 []))))),(gn 2 ((.live true z)::(gn 1 ((.live true A)::(gn 43 [])))))⟩
def zil(z:Int)(A C D:List V):St:=⟨(jn 2 ((V.ptr 2 0)::(jn 1 ((V.ptr 4 0)::(jn 1 ((V.ptr 6 0)::(jn 24 ((Qe z)::(jn 16 []))))))))),(gn 2 ((.live true A)::(gn 1 ((.live true C)::(gn 1 ((.live true D)::(gn 41 [])))))))⟩
def zz9(z A:List V):St:=⟨(jn 2 ((V.ptr 2 0)::(jn 3 ((V.ptr 6 0)::(jn 41 []))))),(gn 2 ((.live true z)::(gn 3 ((.live true A)::(gn 41 [])))))⟩
def zP1{β:Type}(xC:zbH)(xB:zbI)(xn:zac)(L:Nat)(A:Ls)(z:Ls→Int→Int→List V→List V→Ob β):Ob β:=lt (QG .u64 ((XK A:Nat):Int)) fun E=>xC β L E (fun F=>xB β L (yl 1 2 [(V.sl 1 A),(V.sl 1 F)]) (fun C=>chk ((XK (XL 8 gk_sha_initial))=8∧0+8≤8) (lt (zk [(Qc (0:Int)),(Qc (0:Int)),(Qc (0:Int)),(Qc (0:Int)),(Qc (0:Int)),(Qc (0:Int)),(Qc (0:Int)),(Qc (0:Int))] 0 (XL 8 gk_sha_initial)) fun G=>lt (QG .i64 (Int.tdiv ((XK C:Nat):Int) (64:Int))) fun H=>z C H (0:Int) (We 32 (Qa (0:Int))) G))) (fun I=>xB β L (yl 1 2 [(V.sl 1 A),(V.sl 1 I)]) (fun D=>chk ((XK (XL 8 gk_sha_initial))=8∧0+8≤8) (lt (zk [(Qc (0:Int)),(Qc (0:Int)),(Qc (0:Int)),(Qc (0:Int)),(Qc (0:Int)),(Qc (0:Int)),(Qc (0:Int)),(Qc (0:Int))] 0 (XL 8 gk_sha_initial)) fun J=>lt (QG .i64 (Int.tdiv ((XK D:Nat):Int) (64:Int))) fun M=>z D M (0:Int) (We 32 (Qa (0:Int))) J)))
theorem z23{β:Type}(xC:zbH)(xB:zbI)(xn:zac)(L:Nat)(z:Ls)(k:KK β):yh zcF (zcH xC xB xn L) L cf_sha_Sum [(V.sl 1 z)] [] k=zP1 xC xB xn L z (fun D A C E F=>zx (ze zcF (zcH xC xB xn L) 0 L zte) zv3 L (zjS D A C E F) (xi 0 (yv (ze zcF (zcH xC xB xn L) 0 L zAu) (zD 0 (CF.res cf_sha_Sum) k)))):=by kernel_rfl
def zjP{β:Type}(xC:zbH)(xB:zbI)(xn:zac)(L:Nat)(A:Ls)(F D:Int)(I E:List V)(z:Ls→Int→Int→List V→List V→Ob β)(H:List V→List V→Ob β):Ob β:=ifb (decide (D<F)) (chk (0+8≤(XK E)) (lt (QG .i64 (((64:Int):Int)*D)) fun C=>chk (0≤C∧C≤(((XK A):Nat):Int)) (chk (64≤(XK (XL ((XK A)-(XM C)) (XO (XM C) A)))) (xn β L (XL 8 E) (XL 64 (XN (XL 64 (XL ((XK A)-(XM C)) (XO (XM C) A))))) (fun G=>chk ((XK G)=8∧0+8≤(XK E)) (lt (zk E 0 G) fun J=>lt (QG .i64 ((D:Int)+(1:Int))) fun M=>z A F M I J)))))) (H I E)
theorem zOK{β:Type}(xC:zbH)(xB:zbI)(xn:zac)(L:Nat)(E:Ls)(z A:Int)(C D:List V)(X:St→Ob β)(K:KT β):ze zcF (zcH xC xB xn L) 0 L zte (zjS E z A C D) (yH zv3 X K)=zjP xC xB xn L E z A C D (fun E z A C D=>X (zjS E z A C D)) (fun C D=>K (.exit 0) (zsy C D)):=by kernel_rfl
def zrb{β:Type}(xC:zbH)(xB:zbI)(xn:zac)(L:Nat)(A C:List V)(z:Int→List V→List V→List V→Ob β):Ob β:=z (0:Int) A C (We 32 (Qa (0:Int)))
theorem zMj{β:Type}(xC:zbH)(xB:zbI)(xn:zac)(L:Nat)(z A:List V)(k:KK β):(xi 0 (yv (ze zcF (zcH xC xB xn L) 0 L zAu) (zD 0 (CF.res cf_sha_Sum) k))) (.exit 0) (zsy z A)=zrb xC xB xn L z A (fun C z A D=>zx (ze zcF (zcH xC xB xn L) 0 L zpg) zru L (zil C z A D) (xi 2 (yv (ze zcF (zcH xC xB xn L) 0 L zFY) (zD 0 (CF.res cf_sha_Sum) k)))):=by kernel_rfl
def zhE{β:Type}(xC:zbH)(xB:zbI)(xn:zac)(L:Nat)(z:Int)(G H E:List V)(A:Int→List V→List V→List V→Ob β)(F:List V→List V→Ob β):Ob β:=ifb (decide (z<(32:Int))) (lt (QG .i64 (Int.tdiv z (4:Int))) fun C=>chk (0≤C∧C<((8:Nat):Int)) (cI .u32 H (0+((XM C)*1)) fun I=>lt (Int.tmod z (4:Int)) fun J=>lt (QG .i64 ((J:Int)*(8:Int))) fun M=>lt (QG .i64 (((24:Int):Int)-M)) fun D=>chk (0≤D) (lt (zcN .u32 I D) fun N=>lt (QG .u8 N) fun O=>chk (0≤z∧z<((32:Nat):Int)) (chk (1=1∧(0+((XM z)*1))+1≤(XK E)) (lt (zk E (0+((XM z)*1)) [(Qa O)]) fun P=>lt (QG .i64 ((z:Int)+(1:Int))) fun Q=>A Q G H P))))) (F G E)
theorem zLy{β:Type}(xC:zbH)(xB:zbI)(xn:zac)(L:Nat)(z:Int)(A D C:List V)(X:St→Ob β)(K:KT β):ze zcF (zcH xC xB xn L) 0 L zpg (zil z A D C) (yH zru X K)=zhE xC xB xn L z A D C (fun z A D C=>X (zil z A D C)) (fun A C=>K (.exit 2) (zz9 A C)):=by kernel_rfl
def znA{β:Type}(xC:zbH)(xB:zbI)(xn:zac)(L:Nat)(D C:List V)(z:List V→Ob β):Ob β:=chk (0+32≤(XK C)) (chk ((XK (XL 32 C))=32∧0+32≤(XK D)) (lt (zk D 0 (XL 32 C)) fun A=>chk (0=0∧(XK A)=32∧32≠0) (z A)))
theorem zHZ{β:Type}(xC:zbH)(xB:zbI)(xn:zac)(L:Nat)(z A:List V)(k:KK β):(xi 2 (yv (ze zcF (zcH xC xB xn L) 0 L zFY) (zD 0 (CF.res cf_sha_Sum) k))) (.exit 2) (zz9 z A)=znA xC xB xn L z A (fun C=>k (V.agg C) []):=by kernel_rfl
def zhf{β:Type}(xC:zbH)(xB:zbI)(xn:zac)(L:Nat)(z:List V→List V→Ob β):Nat→Ls→Int→Int→List V→List V→Ob β
 | 0,_,_,_,_,_=>none
 | n+1,D,A,C,E,F=>zjP xC xB xn L D A C E F (fun D A C E F=>zhf xC xB xn L z n D A C E F) z
theorem zzh{β:Type}(xC:zbH)(xB:zbI)(xn:zac)(L:Nat)(K:KT β):∀ (n:Nat) (E:Ls) (C D:Int) (z A:List V),zx (ze zcF (zcH xC xB xn L) 0 L zte) zv3 n (zjS E C D z A) K=zhf xC xB xn L (fun z A=>K (.exit 0) (zsy z A)) n E C D z A:=by
 intro n; induction n <;> intros
 ·rfl
 ·exact (zOK ..).trans (by simp only [*]; rfl)
def zfO{β:Type}(xC:zbH)(xB:zbI)(xn:zac)(L:Nat)(z:List V→List V→Ob β):Nat→Int→List V→List V→List V→Ob β
 | 0,_,_,_,_=>none
 | n+1,A,C,D,E=>zhE xC xB xn L A C D E (fun A C D E=>zfO xC xB xn L z n A C D E) z
theorem zvi{β:Type}(xC:zbH)(xB:zbI)(xn:zac)(L:Nat)(K:KT β):∀ (n:Nat) (C:Int) (z D A:List V),zx (ze zcF (zcH xC xB xn L) 0 L zpg) zru n (zil C z D A) K=zfO xC xB xn L (fun z A=>K (.exit 2) (zz9 z A)) n C z D A:=by
 intro n; induction n <;> intros
 ·rfl
 ·exact (zLy ..).trans (by simp only [*]; rfl)
def zj5{β:Type}(xC:zbH)(xB:zbI)(xn:zac)(L:Nat)(z C:List V)(A:List V→Ob β):Ob β:=zrb xC xB xn L z C (fun E z C D=>zfO xC xB xn L (fun z D=>znA xC xB xn L z D A) L E z C D)
theorem zJi{β:Type}(xC:zbH)(xB:zbI)(xn:zac)(L:Nat)(z A:List V)(k:KK β):(xi 0 (yv (ze zcF (zcH xC xB xn L) 0 L zAu) (zD 0 (CF.res cf_sha_Sum) k))) (.exit 0) (zsy z A)=zj5 xC xB xn L z A (fun C=>k (V.agg C) []):=by
 refine (zMj xC xB xn L z A k).trans ?_
 unfold zj5
 first
  | (simp only [zvi,zHZ]; done)
  | (simp only [zvi]; rfl)
def zG1{β:Type}(xC:zbH)(xB:zbI)(xn:zac)(L:Nat)(F:Ls)(z:List V→Ob β):Ob β:=zP1 xC xB xn L F (fun G D E A C=>zhf xC xB xn L (fun A C=>zj5 xC xB xn L A C z) L G D E A C)
theorem z2N{β:Type}(xC:zbH)(xB:zbI)(xn:zac)(L:Nat)(z:Ls)(k:KK β):yh zcF (zcH xC xB xn L) L cf_sha_Sum [(V.sl 1 z)] [] k=zG1 xC xB xn L z (fun z=>k (V.agg z) []):=by
 refine (z23 xC xB xn L z k).trans ?_
 unfold zG1
 first
  | (simp only [zzh,zJi]; done)
  | (simp only [zzh]; rfl)
abbrev zlW:=∀ (β:Type),Nat→Ls→(List V→Ob β)→Ob β
def zam:zlW:=fun β=>@zG1 β xC xB xn
def zy7(zam:zlW)(L:Nat):Dk:=dA (AL 1) fun z=>d0 fun β k=>zam β L z (fun z=>k (V.agg z) [])
theorem z2D(L:Nat):DK (zy7 zam L) (fun _=>yh zcF (zcH xC xB xn L) L cf_sha_Sum):=xv zaZ fun z=>yK fun _ k=>z2N xC xB xn L z k
def zF0:Hint:=⟨[],[],[none],[],[],false,false,[]⟩
def zNF:CF:=cfD zF0 63
def zzP:Nat→Sh:=zj []
def zAC(zam:zlW)(L:Nat):CBC:=(xe 458 (zy7 zam L) noC)
def zCQ{β:Type}(zam:zlW)(L:Nat)(H:Ls)(z:List V→Ob β):Ob β:=zam β L H (fun C=>chk ((XK C)=32∧0+32≤32) (lt (zk (We 32 (Qa (0:Int))) 0 C) fun A=>chk (0+32*1≤(XK A)) (ifb (List.isEmpty A) (zam β L (yl 1 32 A) (fun D=>chk ((XK D)=32∧0+32≤32) (lt (zk (We 32 (Qa (0:Int))) 0 D) fun E=>chk (0=0∧(XK E)=32∧32≠0) (z E)))) (zam β L (yl 1 32 A) (fun F=>chk ((XK F)=32∧0+32≤32) (lt (zk (We 32 (Qa (0:Int))) 0 F) fun G=>chk (0=0∧(XK G)=32∧32≠0) (z G)))))))
theorem zVD{β:Type}(zam:zlW)(L:Nat)(z:Ls)(k:KK β):yh zzP (zAC zam L) L zNF [(V.sl 1 z)] [] k=zCQ zam L z (fun z=>k (V.agg z) []):=by kernel_rfl
abbrev zg4:=∀ (β:Type),Nat→Ls→(List V→Ob β)→Ob β
def xX:zg4:=fun β=>@zCQ β zam
def zoU(xX:zg4)(L:Nat):Dk:=dA (AL 1) fun z=>d0 fun β k=>xX β L z (fun z=>k (V.agg z) [])
theorem zVk(L:Nat):DK (zoU xX L) (fun _=>yh zzP (zAC zam L) L zNF):=xv zaZ fun z=>yK fun _ k=>zVD zam L z k
def zJ3:Hint:=⟨[(0,0),(1,3),(1,4)],[],[none,none,none],[],[],false,false,[]⟩
def zCM:CF:=cfD zJ3 81
def zC6:Nat→Sh:=zj []
def zEM(yA:zbr)(xX:zg4)(L:Nat):CBC:=(xe 501 (zoU xX L) (xe 128 (zrL yA L) noC))
def zIB{β:Type}(yA:zbr)(xX:zg4)(L:Nat)(A:List V)(F:Bool)(z:List V→Ob β):Ob β:=chk (0+4≤(XK A)) (yA β L (Xv V.dem (XL 4 A)) F (fun G H=>ifb ((H:Int) != (0:Int)) (lt (We 32 (Qa (0:Int))) fun C=>chk (0=0∧(XK C)=32∧32≠0) (z C)) (xX β L G (fun D=>chk ((XK D)=32∧0+32≤32) (lt (zk (We 32 (Qa (0:Int))) 0 D) fun E=>chk (0=0∧(XK E)=32∧32≠0) (z E))))))
theorem zXw{β:Type}(yA:zbr)(xX:zg4)(L:Nat)(z:List V)(A:Bool)(k:KK β):yh zC6 (zEM yA xX L) L zCM [(V.agg z),(V.sc (.bool A))] [] k=zIB yA xX L z A (fun z=>k (V.agg z) []):=by kernel_rfl
abbrev zky:=∀ (β:Type),Nat→List V→Bool→(List V→Ob β)→Ob β
def zaJ:zky:=fun β=>@zIB β yA xX
def zyk(zaJ:zky)(L:Nat):Dk:=dA AG fun z=>dA AB fun A=>d0 fun β k=>zaJ β L z A (fun z=>k (V.agg z) [])
theorem zYb(L:Nat):DK (zyk zaJ L) (fun _=>yh zC6 (zEM yA xX L) L zCM):=xv zak fun z=>xv zWo fun A=>yK fun _ k=>zXw yA xX L z A k
def zUl:Hint:=⟨[(0,0)],[],[none],[],[],false,false,[]⟩
def z8v:CF:=cfD zUl 85
def ycw:Nat→Sh:=zj []
def yc0(zaJ:zky)(L:Nat):CBC:=(xe 583 (zyk zaJ L) noC)
def z9X{β:Type}(zaJ:zky)(L:Nat)(A:List V)(z:List V→Ob β):Ob β:=chk (0+4≤(XK A)) (zaJ β L (Xv V.dem (XL 4 A)) false (fun C=>chk ((XK C)=32∧0+32≤32) (lt (zk (We 32 (Qa (0:Int))) 0 C) fun D=>chk (0=0∧(XK D)=32∧32≠0) (z D))))
abbrev zbm:=∀ (β:Type),Nat→List V→(List V→Ob β)→Ob β
def xN:zbm:=fun β=>@z9X β zaJ
def yaP(xN:zbm)(L:Nat):Dk:=dA AG fun z=>d0 fun β k=>xN β L z (fun z=>k (V.agg z) [])
end
end
end Go.Proofs.YtgmhijonllockaaGreatDoor
