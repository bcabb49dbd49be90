/- Part 11 of the proof of BlockChecks: an abstract machine over plain values, its soundness, and the functions of the program on plain values. -/
import Derived.Test.YtgmhijonllockaaGreatDoorMBlockChecks10
namespace Go.Proofs.YtgmhijonllockaaGreatDoor
set_option maxRecDepth 100000
set_option linter.unusedVariables false
set_option linter.unusedSimpArgs false
open List renaming length->XK,take->XL,replicate->We,map->Xv,drop->XO,flatten->XN
open IntKind renaming wrap->QG
open Int renaming toNat->XM
section
noncomputable section
def zBV:Hint:=⟨[(0,0),(1,6),(2,0),(2,3),(3,0),(3,3)],[],[none],[],[],false,false,[]⟩
def zGT:CF:=cfD zBV 74
def zxn:Nat→Sh:=zl []
def zwz(L:Nat):CBC:=noC
def zyc{β:Type}(L:Nat)(p z:Ls)(A:Ls→Ob β):Ob β:=lt (QG .i64 ((((XK p:Nat):Int):Int)+((XK z:Nat):Int))) fun C=>chk (0≤(0:Int)∧(0:Int)≤C∧(XM C)*1≤xo∧C≤xo) (chk ((XK (We 0 [(Qa (0:Int))])+XK p)*1≤xo∧XK (We 0 [(Qa (0:Int))])+XK p≤xo) (lt ((We 0 [(Qa (0:Int))])++p) fun D=>chk ((XK D+XK z)*1≤xo∧XK D+XK z≤xo) (lt (D++z) fun E=>A E)))
theorem zRD{β:Type}(L:Nat)(p z:Ls)(k:KK β):yj zxn (zwz L) L zGT [(V.sl 1 p),(V.sl 1 z)] [] k=zyc L p z (fun p=>k (V.gs 1 p) []):=by kernel_rfl
abbrev zat:=∀ (β:Type),Nat→Ls→Ls→(Ls→Ob β)→Ob β
def zo:zat:=fun β=>@zyc β
def zfu(zo:zat)(L:Nat):Dk:=dA (AL 1) fun p=>dA (AL 1) fun z=>d0 fun β k=>zo β L p z (fun p=>k (V.gs 1 p) [])
theorem zRg(L:Nat):DK (zfu zo L) (fun _=>yj zxn (zwz L) L zGT):=zF zcd fun p=>zF zcd fun z=>zP fun _ k=>zRD L p z k
def zws:Hint:=⟨[(0,0),(1,5)],[],[none],[],[],false,false,[]⟩
def zzW:CF:=cfD zws 61
def zqf:Nat→Sh:=zl []
def zqP(zH:zcv)(zo:zat)(L:Nat):CBC:=(xg 191 (zfu zo L) (xg 192 (zm0 zH L) noC))
def zr5{β:Type}(zH:zcv)(zo:zat)(L:Nat)(z:Ls)(A:Int)(p:Ls→Ob β):Ob β:=lt (QG .u64 A) fun C=>zH β L C (4:Int) (fun D=>zo β L z D (fun E=>p E))
theorem zMO{β:Type}(zH:zcv)(zo:zat)(L:Nat)(p:Ls)(z:Int)(k:KK β):yj zqf (zqP zH zo L) L zzW [(V.sl 1 p),(Qc z)] [] k=zr5 zH zo L p z (fun p=>k (V.gs 1 p) []):=by kernel_rfl
abbrev yw:=∀ (β:Type),Nat→Ls→Int→(Ls→Ob β)→Ob β
def yb:yw:=fun β=>@zr5 β zH zo
def zgB(yb:yw)(L:Nat):Dk:=dA (AL 1) fun p=>dA (AI .u32) fun z=>d0 fun β k=>yb β L p z (fun p=>k (V.gs 1 p) [])
theorem zLB(L:Nat):DK (zgB yb L) (fun _=>yj zqf (zqP zH zo L) L zzW):=zF zcd fun p=>zF zdJ fun z=>zP fun _ k=>zMO zH zo L p z k
def zu3:Hint:=⟨[(0,1),(1,3)],[],[none],[],[],false,false,[]⟩
def zxL:CF:=cfD zu3 62
def zoy:Nat→Sh:=zl []
def zoY(zo:zat)(L:Nat):CBC:=(xg 191 (zfu zo L) noC)
def zk4{β:Type}(zo:zat)(L:Nat)(A:Ls)(z:List V)(p:Ls→Ob β):Ob β:=chk (0+32*1≤(XK z)) (ifb (List.isEmpty z) (zo β L A (xn 1 32 z) (fun C=>p C)) (zo β L A (xn 1 32 z) (fun D=>p D)))
theorem zKa{β:Type}(zo:zat)(L:Nat)(p:Ls)(z:List V)(k:KK β):yj zoy (zoY zo L) L zxL [(V.sl 1 p),(V.agg z)] [] k=zk4 zo L p z (fun p=>k (V.gs 1 p) []):=by kernel_rfl
abbrev zcJ:=∀ (β:Type),Nat→Ls→List V→(Ls→Ob β)→Ob β
def xI:zcJ:=fun β=>@zk4 β zo
def zkF(xI:zcJ)(L:Nat):Dk:=dA (AL 1) fun p=>dA AG fun z=>d0 fun β k=>xI β L p z (fun p=>k (V.gs 1 p) [])
theorem zKp(L:Nat):DK (zkF xI L) (fun _=>yj zoy (zoY zo L) L zxL):=zF zcd fun p=>zF zap fun z=>zP fun _ k=>zKa zo L p z k
def zrJ:Hint:=⟨[(0,1),(6,4)],[],[none],[],[],false,false,[]⟩
def zuZ:CF:=cfD zrJ 28
def zmk:Nat→Sh:=zl [(5,(.int .u32)),(17,(.int .u32)),(21,(.int .u32)),(25,(.int .u32))]
def zmp(yb:yw)(xI:zcJ)(L:Nat):CBC:=(xg 158 (zkF xI L) (xg 157 (zgB yb L) noC))
def znO{β:Type}(yb:yw)(xI:zcJ)(L:Nat)(p:List V)(z:Ls→Ob β):Ob β:=cI .u32 p 0 fun A=>yb β L ([]:Ls) A (fun C=>chk (1+32≤(XK p)) (xI β L C (XL 32 (XO 1 p)) (fun D=>chk (33+32≤(XK p)) (xI β L D (XL 32 (XO 33 p)) (fun E=>cI .u32 p 65 fun F=>yb β L E F (fun G=>cI .u32 p 66 fun H=>yb β L G H (fun I=>cI .u32 p 67 fun J=>yb β L I J (fun M=>z M))))))))
theorem zGj{β:Type}(yb:yw)(xI:zcJ)(L:Nat)(p:List V)(k:KK β):yj zmk (zmp yb xI L) L zuZ [(V.agg p)] [] k=znO yb xI L p (fun p=>k (V.gs 1 p) []):=by kernel_rfl
abbrev zaf:=∀ (β:Type),Nat→List V→(Ls→Ob β)→Ob β
def yq:zaf:=fun β=>@znO β yb xI
def zi3(yq:zaf)(L:Nat):Dk:=dA AG fun p=>d0 fun β k=>yq β L p (fun p=>k (V.gs 1 p) [])
theorem zF9(L:Nat):DK (zi3 yq L) (fun _=>yj zmk (zmp yb xI L) L zuZ):=zF zap fun p=>zP fun _ k=>zGj yb xI L p k
def zwl:Hint:=⟨[(0,0),(1,5)],[],[none],[],[],false,false,[]⟩
def zzZ:CF:=cfD zwl 75
def zqk:Nat→Sh:=zl []
def zqE(zH:zcv)(zo:zat)(L:Nat):CBC:=(xg 191 (zfu zo L) (xg 192 (zm0 zH L) noC))
def zsy{β:Type}(zH:zcv)(zo:zat)(L:Nat)(z:Ls)(A:Int)(p:Ls→Ob β):Ob β:=lt (QG .u64 A) fun C=>zH β L C (2:Int) (fun D=>zo β L z D (fun E=>p E))
theorem zLy{β:Type}(zH:zcv)(zo:zat)(L:Nat)(p:Ls)(z:Int)(k:KK β):yj zqk (zqE zH zo L) L zzZ [(V.sl 1 p),(Qb z)] [] k=zsy zH zo L p z (fun p=>k (V.gs 1 p) []):=by kernel_rfl
abbrev ziz:=∀ (β:Type),Nat→Ls→Int→(Ls→Ob β)→Ob β
def zal:ziz:=fun β=>@zsy β zH zo
def zsP(zal:ziz)(L:Nat):Dk:=dA (AL 1) fun p=>dA (AI .u16) fun z=>d0 fun β k=>zal β L p z (fun p=>k (V.gs 1 p) [])
theorem zMC(L:Nat):DK (zsP zal L) (fun _=>yj zqk (zqE zH zo L) L zzZ):=zF zcd fun p=>zF zdJ fun z=>zP fun _ k=>zLy zH zo L p z k
def zxB:Hint:=⟨[(0,0),(1,4)],[],[none],[],[],false,false,[]⟩
def zzx:CF:=cfD zxB 76
def zq4:Nat→Sh:=zl []
def zp1(zH:zcv)(zo:zat)(L:Nat):CBC:=(xg 191 (zfu zo L) (xg 192 (zm0 zH L) noC))
def zsO{β:Type}(zH:zcv)(zo:zat)(L:Nat)(z:Ls)(A:Int)(p:Ls→Ob β):Ob β:=zH β L A (8:Int) (fun C=>zo β L z C (fun D=>p D))
theorem zL2{β:Type}(zH:zcv)(zo:zat)(L:Nat)(p:Ls)(z:Int)(k:KK β):yj zq4 (zp1 zH zo L) L zzx [(V.sl 1 p),(Qd z)] [] k=zsO zH zo L p z (fun p=>k (V.gs 1 p) []):=by kernel_rfl
abbrev zB:=∀ (β:Type),Nat→Ls→Int→(Ls→Ob β)→Ob β
def yd:zB:=fun β=>@zsO β zH zo
def zl0(yd:zB)(L:Nat):Dk:=dA (AL 1) fun p=>dA (AI .u64) fun z=>d0 fun β k=>yd β L p z (fun p=>k (V.gs 1 p) [])
theorem zMG(L:Nat):DK (zl0 yd L) (fun _=>yj zq4 (zp1 zH zo L) L zzx):=zF zcd fun p=>zF zdJ fun z=>zP fun _ k=>zL2 zH zo L p z k
def zu2:Hint:=⟨[(0,0),(2,5),(4,6),(6,6),(7,5)],[],[none,none,none,none,none,none,none,none],[],[],false,false,[]⟩
def zxY:CF:=cfD zu2 36
def zoF:Nat→Sh:=zl []
def zpg(zo:zat)(zal:ziz)(yb:yw)(yd:zB)(L:Nat):CBC:=(xg 183 (zl0 yd L) (xg 157 (zgB yb L) (xg 205 (zsP zal L) (xg 191 (zfu zo L) noC))))
def zq5{β:Type}(zo:zat)(zal:ziz)(yb:yw)(yd:zB)(L:Nat)(A:Ls)(z:Int)(p:Ls→Ob β):Ob β:=ifb (decide (z<(253:Int))) (lt (QG .u8 z) fun C=>zo β L A (xn 1 1 [(Qa C)]) (fun D=>p D)) (ifb (decide (z<(65536:Int))) (zo β L A (xn 1 1 [(Qa (253:Int))]) (fun E=>lt (QG .u16 z) fun F=>zal β L E F (fun G=>p G))) (ifb (decide (z<(4294967296:Int))) (zo β L A (xn 1 1 [(Qa (254:Int))]) (fun H=>lt (QG .u32 z) fun I=>yb β L H I (fun J=>p J))) (zo β L A (xn 1 1 [(Qa (255:Int))]) (fun M=>yd β L M z (fun N=>p N)))))
theorem zJ9{β:Type}(zo:zat)(zal:ziz)(yb:yw)(yd:zB)(L:Nat)(p:Ls)(z:Int)(k:KK β):yj zoF (zpg zo zal yb yd L) L zxY [(V.sl 1 p),(Qd z)] [] k=zq5 zo zal yb yd L p z (fun p=>k (V.gs 1 p) []):=by kernel_rfl
abbrev zr:=∀ (β:Type),Nat→Ls→Int→(Ls→Ob β)→Ob β
def ya:zr:=fun β=>@zq5 β zo zal yb yd
def zhP(ya:zr)(L:Nat):Dk:=dA (AL 1) fun p=>dA (AI .u64) fun z=>d0 fun β k=>ya β L p z (fun p=>k (V.gs 1 p) [])
theorem zJ7(L:Nat):DK (zhP ya L) (fun _=>yj zoF (zpg zo zal yb yd L) L zxY):=zF zcd fun p=>zF zdJ fun z=>zP fun _ k=>zJ9 zo zal yb yd L p z k
def zMQ:Hint:=⟨[(0,1),(1,6)],[],[none],[],[],false,false,[]⟩
def zRL:CF:=cfD zMQ 126
def zIv:Nat→Sh:=zl [(7,(.int .u32))]
def zI7(xI:zcJ)(yb:yw)(L:Nat):CBC:=(xg 157 (zgB yb L) (xg 158 (zkF xI L) noC))
def zLP{β:Type}(xI:zcJ)(yb:yw)(L:Nat)(z:List V)(p:Ls→Ob β):Ob β:=chk (0+32≤(XK z)) (xI β L ([]:Ls) (XL 32 z) (fun A=>cI .u32 z 32 fun C=>yb β L A C (fun D=>p D)))
theorem zZd{β:Type}(xI:zcJ)(yb:yw)(L:Nat)(p:List V)(k:KK β):yj zIv (zI7 xI yb L) L zRL [(V.agg p)] [] k=zLP xI yb L p (fun p=>k (V.gs 1 p) []):=by kernel_rfl
abbrev xX:=∀ (β:Type),Nat→List V→(Ls→Ob β)→Ob β
def yl:xX:=fun β=>@zLP β xI yb
def zLH(yl:xX)(L:Nat):Dk:=dA AG fun p=>d0 fun β k=>yl β L p (fun p=>k (V.gs 1 p) [])
theorem zYV(L:Nat):DK (zLH yl L) (fun _=>yj zIv (zI7 xI yb L) L zRL):=zF zap fun p=>zP fun _ k=>zZd xI yb L p k
def zte:Hint:=⟨[(0,0),(1,7)],[],[none],[],[],false,false,[]⟩
def zwU:CF:=cfD zte 127
def zn7:Nat→Sh:=zl []
def znU(ya:zr)(zo:zat)(L:Nat):CBC:=(xg 191 (zfu zo L) (xg 182 (zhP ya L) noC))
def zpf{β:Type}(ya:zr)(zo:zat)(L:Nat)(A z:Ls)(p:Ls→Ob β):Ob β:=lt (QG .u64 ((XK z:Nat):Int)) fun C=>ya β L A C (fun D=>zo β L D z (fun E=>p E))
theorem zIr{β:Type}(ya:zr)(zo:zat)(L:Nat)(p z:Ls)(k:KK β):yj zn7 (znU ya zo L) L zwU [(V.sl 1 p),(V.sl 1 z)] [] k=zpf ya zo L p z (fun p=>k (V.gs 1 p) []):=by kernel_rfl
abbrev xz:=∀ (β:Type),Nat→Ls→Ls→(Ls→Ob β)→Ob β
def zd:xz:=fun β=>@zpf β ya zo
def zpe(zd:xz)(L:Nat):Dk:=dA (AL 1) fun p=>dA (AL 1) fun z=>d0 fun β k=>zd β L p z (fun p=>k (V.gs 1 p) [])
theorem zIX(L:Nat):DK (zpe zd L) (fun _=>yj zn7 (znU ya zo L) L zwU):=zF zcd fun p=>zF zcd fun z=>zP fun _ k=>zIr ya zo L p z k
def zK6:Hint:=⟨[(0,0),(0,1),(1,3),(2,0),(2,7),(5,2),(6,0),(6,5),(7,0),(7,5),(9,0),(9,7),(12,2),(13,0),(13,6),(14,0),(14,5),(16,0),(16,5),(18,0),(18,1),(21,2),(22,0),(22,7),(26,0),(26,4),(29,0),(29,1)],[],[none,some ((bl 234881062 104),(bl 20282409603651670422246444234111 104)),none,some ((bl 38 104),(bl 20282409603651670422246444234111 104)),none,none,some ((bl 7881299347898406 104),(bl 20282409603537531194991173432703 104)),none,some ((bl 38 104),(bl 20282409603537531194991173432703 104)),none,none,none,none,some ((bl 1057810092162800527867936 104),(bl 18374976116870265429129244431739 104)),none,some ((bl 32 104),(bl 18374976116870265429129244431739 104)),none,none,some ((bl 17332218360087486649115607072 104),(bl 18380933703309326321702196467067 104)),none,some ((bl 1057810092162800527867936 104),(bl 18380933703309326321702196467067 104)),none,none],[],[],false,false,[]⟩
def cf_tx_encode:CF:=cfD zK6 78
def zfi:CC:=zE [1,1,1,1,1,1,1,1,0,1,0,0,1,1,0,0,1,1,1,0,0] cf_tx_encode.body
def zoj:CC:=zE [1,1,1,1,1,1,1,1,0,1,0,0,1,1,1] cf_tx_encode.body
def zg1:CC:=zE [1,1,1,1,1,1,1,1,0,1,0,0] cf_tx_encode.body
def znp:CC:=zE [1,1,1,1,1,0,1,0,0] cf_tx_encode.body
def zvN:CC:=zE [1,1,1,1,1,1,1,1,1] cf_tx_encode.body
def zp4:CC:=zE [1,1,1,0,1,0,0] cf_tx_encode.body
def zrT:CC:=zE [1,1,1,1,1,1] cf_tx_encode.body
def zwP:CC:=zE [1,1,1,1] cf_tx_encode.body
def z9:Nat→Sh:=zl [(15,(.int .u32)),(19,(.sl 35)),(25,(.sl 35)),(38,(.int .u32)),(44,(.sl 2)),(50,(.sl 2)),(58,(.int .i64)),(64,(.sl 1)),(70,(.int .u32)),(77,(.sl 35)),(85,(.sl 1)),(91,(.sl 1)),(96,(.sl 1))]
def y8(yb:yw)(ya:zr)(yl:xX)(yd:zB)(zd:xz)(L:Nat):CBC:=(xg 184 (zpe zd L) (xg 183 (zl0 yd L) (xg 137 (zLH yl L) (xg 182 (zhP ya L) (xg 157 (zgB yb L) noC)))))
def zsG:St→St:=zQ 0 (bl 234881062 104) (bl 20282409603651670422246444234111 104)
def zoU:St→St:=zQ 0 (bl 7881299347898406 104) (bl 20282409603537531194991173432703 104)
def zc7:St→St:=zQ 0 (bl 1057810092162800527867936 104) (bl 18374976116870265429129244431739 104)
def zfO:St→St:=zQ 0 (bl 17332218360087486649115607072 104) (bl 18380933703309326321702196467067 104)
def zi9(C:Bool)(D p:Ls)(z A:Int)(E:List V):St:=⟨(jn 1 ((V.sc (.bool C))::((V.ptr 2 0)::(jn 2 ((V.gs 1 D)::(jn 19 ((V.sl 35 p)::((Qe z)::((Qe A)::(jn 76 [])))))))))),(gn 2 ((.live true E)::(gn 101 [])))⟩
def zpp(p:Bool)(z:Ls)(A:List V):St:=⟨(jn 1 ((V.sc (.bool p))::((V.ptr 2 0)::(jn 2 ((V.gs 1 z)::(jn 98 [])))))),(gn 2 ((.live true A)::(gn 101 [])))⟩
def zhG(C:Bool)(D p:Ls)(z A:Int)(E:List V):St:=⟨(jn 1 ((V.sc (.bool C))::((V.ptr 2 0)::(jn 2 ((V.gs 1 D)::(jn 44 ((V.sl 2 p)::((Qe z)::((Qe A)::(jn 51 [])))))))))),(gn 2 ((.live true E)::(gn 101 [])))⟩
def zpD(p:Bool)(z:Ls)(A:List V):St:=⟨(jn 1 ((V.sc (.bool p))::((V.ptr 2 0)::(jn 2 ((V.gs 1 z)::(jn 98 [])))))),(gn 2 ((.live true A)::(gn 101 [])))⟩
def zcf(C p:Ls)(z A:Int):St:=⟨(jn 5 ((V.gs 1 C)::(jn 71 ((V.sl 35 p)::((Qe z)::((Qe A)::(jn 24 []))))))),(gn 104 [])⟩
def zco(F p:Ls)(z A:Int)(C:Ls)(D E:Int):St:=⟨(jn 5 ((V.gs 1 F)::(jn 71 ((V.sl 35 p)::((Qe z)::((Qe A)::(jn 11 ((V.sl 1 C)::((Qe D)::((Qe E)::(jn 10 []))))))))))),(gn 104 [])⟩
def zpA(p:Ls):St:=⟨(jn 5 ((V.gs 1 p)::(jn 98 []))),(gn 104 [])⟩
def zvT(C p:Ls)(z A:Int):St:=⟨(jn 5 ((V.gs 1 C)::(jn 71 ((V.sl 35 p)::((Qe z)::((Qe A)::(jn 24 []))))))),(gn 104 [])⟩
abbrev zAs(β:Type):Type:=Bool→Ls→Ls→Int→Int→List V→Ob β
abbrev zvR(β:Type):Type:=Bool→Ls→Ls→Int→Int→List V→Ob β
abbrev zjJ(β:Type):Type:=Ls→Ls→Int→Int→Ls→Int→Int→Ob β
def zIp{β:Type}(yb:yw)(ya:zr)(yl:xX)(yd:zB)(zd:xz)(L:Nat)(z:List V)(E:Bool)(p:zAs β):Ob β:=cI .u32 z 0 fun F=>yb β L ([]:Ls) F (fun A=>cLd 35 z 1 fun G=>lt (QG .u64 ((XK G:Nat):Int)) fun H=>ya β L ([]:Ls) H (fun C=>chk ((XK A+XK C)*1≤xo∧XK A+XK C≤xo) (lt (A++C) fun I=>cLd 35 z 1 fun D=>p E I D ((XK D:Nat):Int) (0:Int) z)))
theorem zXO{β:Type}(yb:yw)(ya:zr)(yl:xX)(yd:zB)(zd:xz)(L:Nat)(z:List V)(p:Bool)(k:KK β):yj z9 (y8 yb ya yl yd zd L) L cf_tx_encode [(V.agg z),(V.sc (.bool p))] [] k=zIp yb ya yl yd zd L z p (fun p E A C D F=>xw (ze z9 (y8 yb ya yl yd zd L) 0 L zp4) zsG L (zi9 p E A C D F) (zg 0 (zu (ze z9 (y8 yb ya yl yd zd L) 0 L zwP) (yz 0 (CF.res cf_tx_encode) k)))):=by kernel_rfl
def zsv{β:Type}(yb:yw)(ya:zr)(yl:xX)(yd:zB)(zd:xz)(L:Nat)(J:Bool)(D E:Ls)(F z:Int)(M:List V)(p:zAs β)(G:Bool→Ls→List V→Ob β):Ob β:=ifb (decide (z<F)) (idx E z fun N=>chk ((XK (XL 35 N))=35∧0+35≤35) (lt (zq (We 32 (Qa (0:Int))++[(Qc (0:Int)),(Qc (0:Int)),(V.gs 1 ([]:Ls))]) 0 (XL 35 N)) fun H=>chk (0+33≤(XK H)) (yl β L (XL 33 H) (fun I=>chk ((XK D+XK I)*1≤xo∧XK D+XK I≤xo) (lt (D++I) fun A=>cI .u32 H 33 fun O=>yb β L ([]:Ls) O (fun C=>chk ((XK A+XK C)*1≤xo∧XK A+XK C≤xo) (lt (A++C) fun P=>lt (QG .i64 ((z:Int)+(1:Int))) fun Q=>p J P E F Q M))))))) (G J D M)
theorem zMD{β:Type}(yb:yw)(ya:zr)(yl:xX)(yd:zB)(zd:xz)(L:Nat)(C:Bool)(D p:Ls)(z A:Int)(E:List V)(X:St→Ob β)(K:KT β):ze z9 (y8 yb ya yl yd zd L) 0 L zp4 (zi9 C D p z A E) (yF zsG X K)=zsv yb ya yl yd zd L C D p z A E (fun C D p z A E=>X (zi9 C D p z A E)) (fun C D E=>K (.exit 0) (zpp C D E)):=by kernel_rfl
def zph{β:Type}(yb:yw)(ya:zr)(yl:xX)(yd:zB)(zd:xz)(L:Nat)(H:Bool)(C:Ls)(D:List V)(p:zvR β):Ob β:=cLd 2 D 2 fun E=>lt (QG .u64 ((XK E:Nat):Int)) fun F=>ya β L ([]:Ls) F (fun z=>chk ((XK C+XK z)*1≤xo∧XK C+XK z≤xo) (lt (C++z) fun G=>cLd 2 D 2 fun A=>p H G A ((XK A:Nat):Int) (0:Int) D))
theorem zIs{β:Type}(yb:yw)(ya:zr)(yl:xX)(yd:zB)(zd:xz)(L:Nat)(p:Bool)(z:Ls)(A:List V)(k:KK β):(zg 0 (zu (ze z9 (y8 yb ya yl yd zd L) 0 L zwP) (yz 0 (CF.res cf_tx_encode) k))) (.exit 0) (zpp p z A)=zph yb ya yl yd zd L p z A (fun p z C D E A=>xw (ze z9 (y8 yb ya yl yd zd L) 0 L znp) zoU L (zhG p z C D E A) (zg 2 (zu (ze z9 (y8 yb ya yl yd zd L) 0 L zrT) (yz 0 (CF.res cf_tx_encode) k)))):=by kernel_rfl
def zoH{β:Type}(yb:yw)(ya:zr)(yl:xX)(yd:zB)(zd:xz)(L:Nat)(M:Bool)(E F:Ls)(G z:Int)(N:List V)(p:zvR β)(J:Bool→Ls→List V→Ob β):Ob β:=ifb (decide (z<G)) (idx F z fun H=>chk ((XK (XL 2 H))=2∧0+2≤2) (lt (zq [(Qe (0:Int)),(V.gs 1 ([]:Ls))] 0 (XL 2 H)) fun I=>cI .i64 I 0 fun O=>lt (QG .u64 O) fun P=>yd β L ([]:Ls) P (fun A=>chk ((XK E+XK A)*1≤xo∧XK E+XK A≤xo) (lt (E++A) fun C=>cLd 1 I 1 fun Q=>zd β L ([]:Ls) Q (fun D=>chk ((XK C+XK D)*1≤xo∧XK C+XK D≤xo) (lt (C++D) fun R=>lt (QG .i64 ((z:Int)+(1:Int))) fun S=>p M R F G S N)))))) (J M E N)
theorem zI4{β:Type}(yb:yw)(ya:zr)(yl:xX)(yd:zB)(zd:xz)(L:Nat)(C:Bool)(D p:Ls)(z A:Int)(E:List V)(X:St→Ob β)(K:KT β):ze z9 (y8 yb ya yl yd zd L) 0 L znp (zhG C D p z A E) (yF zoU X K)=zoH yb ya yl yd zd L C D p z A E (fun C D p z A E=>X (zhG C D p z A E)) (fun C D E=>K (.exit 2) (zpD C D E)):=by kernel_rfl
def zms{β:Type}(yb:yw)(ya:zr)(yl:xX)(yd:zB)(zd:xz)(L:Nat)(H:Bool)(E:Ls)(F:List V)(A:Ls→Ob β)(p:Ls→Ls→Int→Int→Ob β):Ob β:=cI .u32 F 3 fun G=>yb β L ([]:Ls) G (fun z=>chk ((XK E+XK z)*1≤xo∧XK E+XK z≤xo) (lt (E++z) fun C=>ifb (!H) (A C) (cLd 35 F 1 fun D=>p C D ((XK D:Nat):Int) (0:Int))))
theorem zDY{β:Type}(yb:yw)(ya:zr)(yl:xX)(yd:zB)(zd:xz)(L:Nat)(z:Bool)(p:Ls)(A:List V)(k:KK β):(zg 2 (zu (ze z9 (y8 yb ya yl yd zd L) 0 L zrT) (yz 0 (CF.res cf_tx_encode) k))) (.exit 2) (zpD z p A)=zms yb ya yl yd zd L z p A (fun F=>k (V.gs 1 F) []) (fun p C D E=>xw (ze z9 (y8 yb ya yl yd zd L) 0 L zg1) zc7 L (zcf p C D E) (zg 4 (zu (ze z9 (y8 yb ya yl yd zd L) 0 L zvN) (yz 0 (CF.res cf_tx_encode) k)))):=by kernel_rfl
def zlo{β:Type}(yb:yw)(ya:zr)(yl:xX)(yd:zB)(zd:xz)(L:Nat)(C D:Ls)(E z:Int)(p:zjJ β)(I:Ls→Ob β):Ob β:=ifb (decide (z<E)) (idx D z fun F=>chk ((XK (XL 35 F))=35∧0+35≤35) (lt (zq (We 32 (Qa (0:Int))++[(Qc (0:Int)),(Qc (0:Int)),(V.gs 1 ([]:Ls))]) 0 (XL 35 F)) fun G=>cLd 1 G 34 fun J=>lt (QG .u64 ((XK J:Nat):Int)) fun M=>ya β L ([]:Ls) M (fun A=>chk ((XK C+XK A)*1≤xo∧XK C+XK A≤xo) (lt (C++A) fun N=>cLd 1 G 34 fun H=>p N D E z H ((XK H:Nat):Int) (0:Int))))) (I C)
theorem zDb{β:Type}(yb:yw)(ya:zr)(yl:xX)(yd:zB)(zd:xz)(L:Nat)(C p:Ls)(z A:Int)(X:St→Ob β)(K:KT β):ze z9 (y8 yb ya yl yd zd L) 0 L zg1 (zcf C p z A) (yF zc7 X K)=zlo yb ya yl yd zd L C p z A (fun C p z A D E F=>xw (ze z9 (y8 yb ya yl yd zd L) 0 L zfi) zfO L (zco C p z A D E F) (zg 6 (zg 5 (zu (ze z9 (y8 yb ya yl yd zd L) 0 L zoj) (yF zc7 X K))))) (fun C=>K (.exit 4) (zpA C)):=by kernel_rfl
def zjZ{β:Type}(yb:yw)(ya:zr)(yl:xX)(yd:zB)(zd:xz)(L:Nat)(z:Ls)(p:Ls→Ob β):Ob β:=p z
theorem zAb{β:Type}(yb:yw)(ya:zr)(yl:xX)(yd:zB)(zd:xz)(L:Nat)(p:Ls)(k:KK β):(zg 4 (zu (ze z9 (y8 yb ya yl yd zd L) 0 L zvN) (yz 0 (CF.res cf_tx_encode) k))) (.exit 4) (zpA p)=zjZ yb ya yl yd zd L p (fun z=>k (V.gs 1 z) []):=by kernel_rfl
def zfP{β:Type}(yb:yw)(ya:zr)(yl:xX)(yd:zB)(zd:xz)(L:Nat)(C D:Ls)(E F:Int)(G:Ls)(H z:Int)(p:zjJ β)(I:Ls→Ls→Int→Int→Ob β):Ob β:=ifb (decide (z<H)) (idx G z fun J=>cL 1 J 0 fun M=>zd β L ([]:Ls) M (fun A=>chk ((XK C+XK A)*1≤xo∧XK C+XK A≤xo) (lt (C++A) fun N=>lt (QG .i64 ((z:Int)+(1:Int))) fun O=>p N D E F G H O))) (I C D E F)
theorem zsB{β:Type}(yb:yw)(ya:zr)(yl:xX)(yd:zB)(zd:xz)(L:Nat)(F p:Ls)(z A:Int)(C:Ls)(D E:Int)(X:St→Ob β)(K:KT β):ze z9 (y8 yb ya yl yd zd L) 0 L zfi (zco F p z A C D E) (yF zfO X K)=zfP yb ya yl yd zd L F p z A C D E (fun F p z A C D E=>X (zco F p z A C D E)) (fun F p z A=>K (.exit 6) (zvT F p z A)):=by kernel_rfl
def zeO{β:Type}(yb:yw)(ya:zr)(yl:xX)(yd:zB)(zd:xz)(L:Nat)(E z:Ls)(A C:Int)(p:Ls→Ls→Int→Int→Ob β):Ob β:=lt (QG .i64 ((C:Int)+(1:Int))) fun D=>p E z A D
theorem zq7{β:Type}(yb:yw)(ya:zr)(yl:xX)(yd:zB)(zd:xz)(L:Nat)(C p:Ls)(z A:Int)(X:St→Ob β)(K:KT β):(zg 6 (zg 5 (zu (ze z9 (y8 yb ya yl yd zd L) 0 L zoj) (yF zc7 X K)))) (.exit 6) (zvT C p z A)=zeO yb ya yl yd zd L C p z A (fun C p z A=>X (zcf C p z A)):=by kernel_rfl
def ziJ{β:Type}(yb:yw)(ya:zr)(yl:xX)(yd:zB)(zd:xz)(L:Nat)(p:Bool→Ls→List V→Ob β):Nat→Bool→Ls→Ls→Int→Int→List V→Ob β
 | 0,_,_,_,_,_,_=>none
 | n+1,D,E,z,A,C,F=>zsv yb ya yl yd zd L D E z A C F (fun D E z A C F=>ziJ yb ya yl yd zd L p n D E z A C F) p
theorem zwE{β:Type}(yb:yw)(ya:zr)(yl:xX)(yd:zB)(zd:xz)(L:Nat)(K:KT β):∀ (n:Nat) (p:Bool) (z C:Ls) (D E:Int) (A:List V),xw (ze z9 (y8 yb ya yl yd zd L) 0 L zp4) zsG n (zi9 p z C D E A) K=ziJ yb ya yl yd zd L (fun p z A=>K (.exit 0) (zpp p z A)) n p z C D E A:=by
 intro n; induction n <;> intros
 ·rfl
 ·exact (zMD ..).trans (by simp only [*]; rfl)
def zg6{β:Type}(yb:yw)(ya:zr)(yl:xX)(yd:zB)(zd:xz)(L:Nat)(p:Bool→Ls→List V→Ob β):Nat→Bool→Ls→Ls→Int→Int→List V→Ob β
 | 0,_,_,_,_,_,_=>none
 | n+1,D,E,z,A,C,F=>zoH yb ya yl yd zd L D E z A C F (fun D E z A C F=>zg6 yb ya yl yd zd L p n D E z A C F) p
theorem zsX{β:Type}(yb:yw)(ya:zr)(yl:xX)(yd:zB)(zd:xz)(L:Nat)(K:KT β):∀ (n:Nat) (p:Bool) (z C:Ls) (D E:Int) (A:List V),xw (ze z9 (y8 yb ya yl yd zd L) 0 L znp) zoU n (zhG p z C D E A) K=zg6 yb ya yl yd zd L (fun p z A=>K (.exit 2) (zpD p z A)) n p z C D E A:=by
 intro n; induction n <;> intros
 ·rfl
 ·exact (zI4 ..).trans (by simp only [*]; rfl)
def zbV{β:Type}(yb:yw)(ya:zr)(yl:xX)(yd:zB)(zd:xz)(L:Nat)(p:Ls→Ls→Int→Int→Ob β):Nat→Ls→Ls→Int→Int→Ls→Int→Int→Ob β
 | 0,_,_,_,_,_,_,_=>none
 | n+1,G,z,A,C,D,E,F=>zfP yb ya yl yd zd L G z A C D E F (fun G z A C D E F=>zbV yb ya yl yd zd L p n G z A C D E F) p
theorem ziH{β:Type}(yb:yw)(ya:zr)(yl:xX)(yd:zB)(zd:xz)(L:Nat)(K:KT β):∀ (n:Nat) (C p:Ls) (z A:Int) (D:Ls) (E F:Int),xw (ze z9 (y8 yb ya yl yd zd L) 0 L zfi) zfO n (zco C p z A D E F) K=zbV yb ya yl yd zd L (fun C p z A=>K (.exit 6) (zvT C p z A)) n C p z A D E F:=by
 intro n; induction n <;> intros
 ·rfl
 ·exact (zsB ..).trans (by simp only [*]; rfl)
def zgV{β:Type}(yb:yw)(ya:zr)(yl:xX)(yd:zB)(zd:xz)(L:Nat)(D z:Ls)(A C:Int)(E:Ls→Ob β)(p:Ls→Ls→Int→Int→Ob β):Ob β:=zlo yb ya yl yd zd L D z A C (fun D z A C F G H=>zbV yb ya yl yd zd L (fun D z A C=>zeO yb ya yl yd zd L D z A C p) L D z A C F G H) E
theorem zAX{β:Type}(yb:yw)(ya:zr)(yl:xX)(yd:zB)(zd:xz)(L:Nat)(C p:Ls)(z A:Int)(X:St→Ob β)(K:KT β):ze z9 (y8 yb ya yl yd zd L) 0 L zg1 (zcf C p z A) (yF zc7 X K)=zgV yb ya yl yd zd L C p z A (fun C=>K (.exit 4) (zpA C)) (fun C p z A=>X (zcf C p z A)):=by
 refine (zDb yb ya yl yd zd L C p z A X K).trans ?_
 unfold zgV
 first
  | (simp only [ziH,zq7]; done)
  | (simp only [ziH]; rfl)
def zeS{β:Type}(yb:yw)(ya:zr)(yl:xX)(yd:zB)(zd:xz)(L:Nat)(p:Ls→Ob β):Nat→Ls→Ls→Int→Int→Ob β
 | 0,_,_,_,_=>none
 | n+1,D,z,A,C=>zgV yb ya yl yd zd L D z A C p (fun D z A C=>zeS yb ya yl yd zd L p n D z A C)
theorem zpy{β:Type}(yb:yw)(ya:zr)(yl:xX)(yd:zB)(zd:xz)(L:Nat)(K:KT β):∀ (n:Nat) (p z:Ls) (A C:Int),xw (ze z9 (y8 yb ya yl yd zd L) 0 L zg1) zc7 n (zcf p z A C) K=zeS yb ya yl yd zd L (fun p=>K (.exit 4) (zpA p)) n p z A C:=by
 intro n; induction n <;> intros
 ·rfl
 ·exact (zAX ..).trans (by simp only [*]; rfl)
def zhH{β:Type}(yb:yw)(ya:zr)(yl:xX)(yd:zB)(zd:xz)(L:Nat)(E:Bool)(z:Ls)(F:List V)(p:Ls→Ob β):Ob β:=zms yb ya yl yd zd L E z F p (fun z A C D=>zeS yb ya yl yd zd L (fun z=>zjZ yb ya yl yd zd L z p) L z A C D)
theorem zCZ{β:Type}(yb:yw)(ya:zr)(yl:xX)(yd:zB)(zd:xz)(L:Nat)(p:Bool)(z:Ls)(A:List V)(k:KK β):(zg 2 (zu (ze z9 (y8 yb ya yl yd zd L) 0 L zrT) (yz 0 (CF.res cf_tx_encode) k))) (.exit 2) (zpD p z A)=zhH yb ya yl yd zd L p z A (fun C=>k (V.gs 1 C) []):=by
 refine (zDY yb ya yl yd zd L p z A k).trans ?_
 unfold zhH
 first
  | (simp only [zpy,zAb]; done)
  | (simp only [zpy]; rfl)
def zjs{β:Type}(yb:yw)(ya:zr)(yl:xX)(yd:zB)(zd:xz)(L:Nat)(p:Bool)(z:Ls)(A:List V)(C:Ls→Ob β):Ob β:=zph yb ya yl yd zd L p z A (fun p z D E F A=>zg6 yb ya yl yd zd L (fun p z A=>zhH yb ya yl yd zd L p z A C) L p z D E F A)
theorem zGb{β:Type}(yb:yw)(ya:zr)(yl:xX)(yd:zB)(zd:xz)(L:Nat)(p:Bool)(z:Ls)(A:List V)(k:KK β):(zg 0 (zu (ze z9 (y8 yb ya yl yd zd L) 0 L zwP) (yz 0 (CF.res cf_tx_encode) k))) (.exit 0) (zpp p z A)=zjs yb ya yl yd zd L p z A (fun C=>k (V.gs 1 C) []):=by
 refine (zIs yb ya yl yd zd L p z A k).trans ?_
 unfold zjs
 first
  | (simp only [zsX,zCZ]; done)
  | (simp only [zsX]; rfl)
def zzs{β:Type}(yb:yw)(ya:zr)(yl:xX)(yd:zB)(zd:xz)(L:Nat)(G:List V)(p:Bool)(z:Ls→Ob β):Ob β:=zIp yb ya yl yd zd L G p (fun p A D E F C=>ziJ yb ya yl yd zd L (fun p A C=>zjs yb ya yl yd zd L p A C z) L p A D E F C)
theorem zXy{β:Type}(yb:yw)(ya:zr)(yl:xX)(yd:zB)(zd:xz)(L:Nat)(p:List V)(z:Bool)(k:KK β):yj z9 (y8 yb ya yl yd zd L) L cf_tx_encode [(V.agg p),(V.sc (.bool z))] [] k=zzs yb ya yl yd zd L p z (fun p=>k (V.gs 1 p) []):=by
 refine (zXO yb ya yl yd zd L p z k).trans ?_
 unfold zzs
 first
  | (simp only [zwE,zGb]; done)
  | (simp only [zwE]; rfl)
abbrev zS:=∀ (β:Type),Nat→List V→Bool→(Ls→Ob β)→Ob β
def zk:zS:=fun β=>@zzs β yb ya yl yd zd
def zzd(zk:zS)(L:Nat):Dk:=dA AG fun p=>dA AB fun z=>d0 fun β k=>zk β L p z (fun p=>k (V.gs 1 p) [])
theorem zXh(L:Nat):DK (zzd zk L) (fun _=>yj z9 (y8 yb ya yl yd zd L) L cf_tx_encode):=zF zap fun p=>zF zVU fun z=>zP fun _ k=>zXy yb ya yl yd zd L p z k
def zQm:Hint:=⟨[(0,0),(5,2),(11,2)],[],[none,none,none,some ((bl 7340034 63),(bl 9223372032559808427 63)),none,some ((bl 2 63),(bl 9223372032559808427 63)),none,none,some ((bl 4 63),(bl 9223372032559808429 63)),none,some ((bl 962072674306 63),(bl 9186745105510301355 63)),none,some ((bl 2 63),(bl 9186745105510301355 63)),none,none,some ((bl 4 63),(bl 9186745105510301357 63)),none,some ((bl 1971286909648898 63),(bl 9187343239835811499 63)),none,some ((bl 962072674306 63),(bl 9187343239835811499 63)),none,none,some ((bl 4 63),(bl 9186745105510301357 63)),none],[],[],false,false,[]⟩
def cf_tx_fits:CF:=cfD zQm 77
def ziT:CC:=zE [1,1,1,0,1,0,0,1,1,0,0,1,1,1,0,0] cf_tx_fits.body
def zoN:CC:=zE [1,1,1,0,1,0,0,1,1,1] cf_tx_fits.body
def znK:CC:=zE [1,1,1,0,1,0,0] cf_tx_fits.body
def zxu:CC:=zE [1,1,0,1,0,0] cf_tx_fits.body
def zA2:CC:=zE [1,1,1,1] cf_tx_fits.body
def zwI:CC:=zE [1,1,1] cf_tx_fits.body
def zaP:Nat→Sh:=zl [(10,(.sl 35)),(15,(.sl 2)),(20,(.sl 2)),(27,(.int .i64)),(31,(.sl 1)),(37,(.sl 35)),(44,(.sl 1)),(48,(.sl 1)),(53,(.sl 1))]
def zaO(zk:zS)(L:Nat):CBC:=(xg 147 (zzd zk L) noC)
def zyP:St→St:=zQ 0 (bl 7340034 63) (bl 9223372032559808427 63)
def zgo:St→St:=zQ 0 (bl 962072674306 63) (bl 9186745105510301355 63)
def zjY:St→St:=zQ 0 (bl 1971286909648898 63) (bl 9187343239835811499 63)
def zlT(p:Ls)(z A:Int)(C:List V):St:=⟨(jn 1 ((V.ptr 1 0)::(jn 18 ((V.sl 2 p)::((Qe z)::((Qe A)::(jn 40 []))))))),(gn 1 ((.live true C)::(gn 61 [])))⟩
def zcy(p:Bool):St:=⟨(jn 2 ((V.sc (.bool p))::(jn 60 []))),(gn 63 [])⟩
def ztG(p:List V):St:=⟨(jn 1 ((V.ptr 1 0)::(jn 61 []))),(gn 1 ((.live true p)::(gn 61 [])))⟩
def zfz(p:Ls)(z A:Int)(C:List V):St:=⟨(jn 1 ((V.ptr 1 0)::(jn 35 ((V.sl 35 p)::((Qe z)::((Qe A)::(jn 23 []))))))),(gn 1 ((.live true C)::(gn 61 [])))⟩
def zeA(p:Ls)(z A:Int)(C:Ls)(D E:Int)(F:List V):St:=⟨(jn 1 ((V.ptr 1 0)::(jn 35 ((V.sl 35 p)::((Qe z)::((Qe A)::(jn 8 ((V.sl 1 C)::((Qe D)::((Qe E)::(jn 12 []))))))))))),(gn 1 ((.live true F)::(gn 61 [])))⟩
def ztV(p:List V):St:=⟨(jn 1 ((V.ptr 1 0)::(jn 61 []))),(gn 1 ((.live true p)::(gn 61 [])))⟩
def zBN(p:Ls)(z A:Int)(C:List V):St:=⟨(jn 1 ((V.ptr 1 0)::(jn 35 ((V.sl 35 p)::((Qe z)::((Qe A)::(jn 23 []))))))),(gn 1 ((.live true C)::(gn 61 [])))⟩
abbrev zpH(β:Type):Type:=Ls→Int→Int→Ls→Int→Int→List V→Ob β
def zO1{β:Type}(zk:zS)(L:Nat)(A:List V)(z:Bool→Ob β)(p:Ls→Int→Int→List V→Ob β):Ob β:=cLd 35 A 1 fun D=>ifb (decide (((XK D:Nat):Int)>(64:Int))) (z false) (cLd 2 A 2 fun E=>ifb (decide (((XK E:Nat):Int)>(64:Int))) (z false) (cLd 2 A 2 fun C=>p C ((XK C:Nat):Int) (0:Int) A))
theorem z0R{β:Type}(zk:zS)(L:Nat)(p:List V)(k:KK β):yj zaP (zaO zk L) L cf_tx_fits [(V.agg p)] [] k=zO1 zk L p (fun p=>k (V.sc (.bool p)) []) (fun z A C D=>xw (ze zaP (zaO zk L) 0 L zxu) zyP L (zlT z A C D) (zg 0 (zu (ze zaP (zaO zk L) 0 L zwI) (yz 0 (CF.res cf_tx_fits) k)))):=by kernel_rfl
def zyk{β:Type}(zk:zS)(L:Nat)(C:Ls)(D A:Int)(F:List V)(z:Bool→Ob β)(p:Ls→Int→Int→List V→Ob β)(E:List V→Ob β):Ob β:=ifb (decide (A<D)) (idx C A fun G=>chk ((XK (XL 2 G))=2∧0+2≤2) (lt (zq [(Qe (0:Int)),(V.gs 1 ([]:Ls))] 0 (XL 2 G)) fun H=>cI .i64 H 0 fun I=>ifb (decide (I<(0:Int))) (z false) (cLd 1 H 1 fun J=>ifb (decide (((XK J:Nat):Int)>(520:Int))) (z false) (lt (QG .i64 ((A:Int)+(1:Int))) fun M=>p C D M F)))) (E F)
theorem zRx{β:Type}(zk:zS)(L:Nat)(p:Ls)(z A:Int)(C:List V)(X:St→Ob β)(K:KT β):ze zaP (zaO zk L) 0 L zxu (zlT p z A C) (yF zyP X K)=zyk zk L p z A C (fun D=>K .ret (zcy D)) (fun p z A C=>X (zlT p z A C)) (fun C=>K (.exit 0) (ztG C)):=by kernel_rfl
def zsQ{β:Type}(zk:zS)(L:Nat)(z:Bool)(p:Bool→Ob β):Ob β:=p z
theorem zL6{β:Type}(zk:zS)(L:Nat)(p:Bool)(k:KK β):(zg 0 (zu (ze zaP (zaO zk L) 0 L zwI) (yz 0 (CF.res cf_tx_fits) k))) .ret (zcy p)=zsQ zk L p (fun z=>k (V.sc (.bool z)) []):=by kernel_rfl
def zuc{β:Type}(zk:zS)(L:Nat)(z:List V)(p:Ls→Int→Int→List V→Ob β):Ob β:=cLd 35 z 1 fun A=>p A ((XK A:Nat):Int) (0:Int) z
theorem zN5{β:Type}(zk:zS)(L:Nat)(p:List V)(k:KK β):(zg 0 (zu (ze zaP (zaO zk L) 0 L zwI) (yz 0 (CF.res cf_tx_fits) k))) (.exit 0) (ztG p)=zuc zk L p (fun z A C p=>xw (ze zaP (zaO zk L) 0 L znK) zgo L (zfz z A C p) (zg 2 (zu (ze zaP (zaO zk L) 0 L zA2) (yz 0 (CF.res cf_tx_fits) k)))):=by kernel_rfl
def zwx{β:Type}(zk:zS)(L:Nat)(C:Ls)(D z:Int)(H:List V)(A:Bool→Ob β)(p:zpH β)(G:List V→Ob β):Ob β:=ifb (decide (z<D)) (idx C z fun I=>chk ((XK (XL 35 I))=35∧0+35≤35) (lt (zq (We 32 (Qa (0:Int))++[(Qc (0:Int)),(Qc (0:Int)),(V.gs 1 ([]:Ls))]) 0 (XL 35 I)) fun E=>cLd 1 E 34 fun J=>ifb (decide (((XK J:Nat):Int)>(32:Int))) (A false) (cLd 1 E 34 fun F=>p C D z F ((XK F:Nat):Int) (0:Int) H))) (G H)
theorem zPo{β:Type}(zk:zS)(L:Nat)(p:Ls)(z A:Int)(C:List V)(X:St→Ob β)(K:KT β):ze zaP (zaO zk L) 0 L znK (zfz p z A C) (yF zgo X K)=zwx zk L p z A C (fun G=>K .ret (zcy G)) (fun p z A D E F C=>xw (ze zaP (zaO zk L) 0 L ziT) zjY L (zeA p z A D E F C) (zg 4 (zg 3 (zu (ze zaP (zaO zk L) 0 L zoN) (yF zgo X K))))) (fun C=>K (.exit 2) (ztV C)):=by kernel_rfl
def zqB{β:Type}(zk:zS)(L:Nat)(z:Bool)(p:Bool→Ob β):Ob β:=p z
theorem zKe{β:Type}(zk:zS)(L:Nat)(p:Bool)(k:KK β):(zg 2 (zu (ze zaP (zaO zk L) 0 L zA2) (yz 0 (CF.res cf_tx_fits) k))) .ret (zcy p)=zqB zk L p (fun z=>k (V.sc (.bool z)) []):=by kernel_rfl
def zr2{β:Type}(zk:zS)(L:Nat)(z:List V)(p:Bool→Ob β):Ob β:=chk (0+4≤(XK z)) (zk β L (Xv V.dem (XL 4 z)) true (fun A=>p (decide (((XK A:Nat):Int)≤(20000:Int)))))
theorem zMy{β:Type}(zk:zS)(L:Nat)(p:List V)(k:KK β):(zg 2 (zu (ze zaP (zaO zk L) 0 L zA2) (yz 0 (CF.res cf_tx_fits) k))) (.exit 2) (ztV p)=zr2 zk L p (fun z=>k (V.sc (.bool z)) []):=by kernel_rfl
def zjT{β:Type}(zk:zS)(L:Nat)(C:Ls)(D E:Int)(F:Ls)(G z:Int)(I:List V)(A:Bool→Ob β)(p:zpH β)(H:Ls→Int→Int→List V→Ob β):Ob β:=ifb (decide (z<G)) (idx F z fun J=>cL 1 J 0 fun M=>ifb (decide (((XK M:Nat):Int)>(520:Int))) (A false) (lt (QG .i64 ((z:Int)+(1:Int))) fun N=>p C D E F G N I)) (H C D E I)
theorem zzC{β:Type}(zk:zS)(L:Nat)(p:Ls)(z A:Int)(C:Ls)(D E:Int)(F:List V)(X:St→Ob β)(K:KT β):ze zaP (zaO zk L) 0 L ziT (zeA p z A C D E F) (yF zjY X K)=zjT zk L p z A C D E F (fun G=>K .ret (zcy G)) (fun p z A C D E F=>X (zeA p z A C D E F)) (fun p z A F=>K (.exit 4) (zBN p z A F)):=by kernel_rfl
def zhW{β:Type}(zk:zS)(L:Nat)(z:Bool)(p:Bool→Ob β):Ob β:=p z
theorem zxk{β:Type}(zk:zS)(L:Nat)(p:Bool)(X:St→Ob β)(K:KT β):(zg 4 (zg 3 (zu (ze zaP (zaO zk L) 0 L zoN) (yF zgo X K)))) .ret (zcy p)=zhW zk L p (fun p=>K .ret (zcy p)):=by kernel_rfl
def zil{β:Type}(zk:zS)(L:Nat)(z:Ls)(A C:Int)(E:List V)(p:Ls→Int→Int→List V→Ob β):Ob β:=lt (QG .i64 ((C:Int)+(1:Int))) fun D=>p z A D E
theorem zxC{β:Type}(zk:zS)(L:Nat)(p:Ls)(z A:Int)(C:List V)(X:St→Ob β)(K:KT β):(zg 4 (zg 3 (zu (ze zaP (zaO zk L) 0 L zoN) (yF zgo X K)))) (.exit 4) (zBN p z A C)=zil zk L p z A C (fun p z A C=>X (zfz p z A C)):=by kernel_rfl
def zmY{β:Type}(zk:zS)(L:Nat)(p:Bool→Ob β)(z:List V→Ob β):Nat→Ls→Int→Int→List V→Ob β
 | 0,_,_,_,_=>none
 | n+1,A,C,D,E=>zyk zk L A C D E p (fun A C D E=>zmY zk L p z n A C D E) z
theorem zCw{β:Type}(zk:zS)(L:Nat)(K:KT β):∀ (n:Nat) (z:Ls) (A C:Int) (p:List V),xw (ze zaP (zaO zk L) 0 L zxu) zyP n (zlT z A C p) K=zmY zk L (fun D=>K .ret (zcy D)) (fun p=>K (.exit 0) (ztG p)) n z A C p:=by
 intro n; induction n <;> intros
 ·rfl
 ·exact (zRx ..).trans (by simp only [*]; rfl)
def zdW{β:Type}(zk:zS)(L:Nat)(p:Bool→Ob β)(z:Ls→Int→Int→List V→Ob β):Nat→Ls→Int→Int→Ls→Int→Int→List V→Ob β
 | 0,_,_,_,_,_,_,_=>none
 | n+1,A,C,D,E,F,G,H=>zjT zk L A C D E F G H p (fun A C D E F G H=>zdW zk L p z n A C D E F G H) z
theorem zm9{β:Type}(zk:zS)(L:Nat)(K:KT β):∀ (n:Nat) (p:Ls) (z A:Int) (D:Ls) (E F:Int) (C:List V),xw (ze zaP (zaO zk L) 0 L ziT) zjY n (zeA p z A D E F C) K=zdW zk L (fun G=>K .ret (zcy G)) (fun p z A C=>K (.exit 4) (zBN p z A C)) n p z A D E F C:=by
 intro n; induction n <;> intros
 ·rfl
 ·exact (zzC ..).trans (by simp only [*]; rfl)
def znZ{β:Type}(zk:zS)(L:Nat)(p:Ls)(z A:Int)(E:List V)(D:Bool→Ob β)(F:List V→Ob β)(C:Ls→Int→Int→List V→Ob β):Ob β:=zwx zk L p z A E D (fun p z A G H I E=>zdW zk L (fun J=>zhW zk L J D) (fun p z A E=>zil zk L p z A E C) L p z A G H I E) F
theorem zN1{β:Type}(zk:zS)(L:Nat)(p:Ls)(z A:Int)(C:List V)(X:St→Ob β)(K:KT β):ze zaP (zaO zk L) 0 L znK (zfz p z A C) (yF zgo X K)=znZ zk L p z A C (fun D=>K .ret (zcy D)) (fun C=>K (.exit 2) (ztV C)) (fun p z A C=>X (zfz p z A C)):=by
 refine (zPo zk L p z A C X K).trans ?_
 unfold znZ
 first
  | (simp only [zm9,zxk,zxC]; done)
  | (simp only [zm9]; rfl)
def zkT{β:Type}(zk:zS)(L:Nat)(p:Bool→Ob β)(z:List V→Ob β):Nat→Ls→Int→Int→List V→Ob β
 | 0,_,_,_,_=>none
 | n+1,A,C,D,E=>znZ zk L A C D E p z (fun A C D E=>zkT zk L p z n A C D E)
theorem zzD{β:Type}(zk:zS)(L:Nat)(K:KT β):∀ (n:Nat) (z:Ls) (A C:Int) (p:List V),xw (ze zaP (zaO zk L) 0 L znK) zgo n (zfz z A C p) K=zkT zk L (fun D=>K .ret (zcy D)) (fun p=>K (.exit 2) (ztV p)) n z A C p:=by
 intro n; induction n <;> intros
 ·rfl
 ·exact (zN1 ..).trans (by simp only [*]; rfl)
def zl4{β:Type}(zk:zS)(L:Nat)(z:List V)(p:Bool→Ob β):Ob β:=zuc zk L z (fun A C D z=>zkT zk L (fun E=>zqB zk L E p) (fun z=>zr2 zk L z p) L A C D z)
theorem zLL{β:Type}(zk:zS)(L:Nat)(p:List V)(k:KK β):(zg 0 (zu (ze zaP (zaO zk L) 0 L zwI) (yz 0 (CF.res cf_tx_fits) k))) (.exit 0) (ztG p)=zl4 zk L p (fun z=>k (V.sc (.bool z)) []):=by
 refine (zN5 zk L p k).trans ?_
 unfold zl4
 first
  | (simp only [zzD,zKe,zMy]; done)
  | (simp only [zzD]; rfl)
def zHt{β:Type}(zk:zS)(L:Nat)(E:List V)(p:Bool→Ob β):Ob β:=zO1 zk L E p (fun A C D z=>zmY zk L (fun F=>zsQ zk L F p) (fun z=>zl4 zk L z p) L A C D z)
theorem zZ7{β:Type}(zk:zS)(L:Nat)(p:List V)(k:KK β):yj zaP (zaO zk L) L cf_tx_fits [(V.agg p)] [] k=zHt zk L p (fun p=>k (V.sc (.bool p)) []):=by
 refine (z0R zk L p k).trans ?_
 unfold zHt
 first
  | (simp only [zCw,zL6,zLL]; done)
  | (simp only [zCw]; rfl)
abbrev zcl:=∀ (β:Type),Nat→List V→(Bool→Ob β)→Ob β
def zJ:zcl:=fun β=>@zHt β zk
def zGv(zJ:zcl)(L:Nat):Dk:=dA AG fun p=>d0 fun β k=>zJ β L p (fun p=>k (V.sc (.bool p)) [])
theorem z0F(L:Nat):DK (zGv zJ L) (fun _=>yj zaP (zaO zk L) L cf_tx_fits):=zF zap fun p=>zP fun _ k=>zZ7 zk L p k
def zKN:Hint:=⟨[(0,0),(0,1),(2,0),(3,3)],[],[none,none,none],[],[],false,false,[]⟩
def zO3:CF:=cfD zKN 37
def zDQ:Nat→Sh:=zl []
def zE3(zJ:zcl)(zk:zS)(L:Nat):CBC:=(xg 147 (zzd zk L) (xg 146 (zGv zJ L) noC))
def zJd{β:Type}(zJ:zcl)(zk:zS)(L:Nat)(z:List V)(A:Bool)(p:Ls→Int→Ob β):Ob β:=chk (0+4≤(XK z)) (zJ β L (Xv V.dem (XL 4 z)) (fun C=>ifb (!C) (p ([]:Ls) (4:Int)) (chk (0+4≤(XK z)) (zk β L (Xv V.dem (XL 4 z)) A (fun D=>p D (0:Int))))))
theorem zWx{β:Type}(zJ:zcl)(zk:zS)(L:Nat)(A:List V)(C:Bool)(k:KK β):yj zDQ (zE3 zJ zk L) L zO3 [(V.agg A),(V.sc (.bool C))] [] k=zJd zJ zk L A C (fun p z=>k (V.tup [(V.gs 1 p),(Qe z)]) []):=by kernel_rfl
abbrev zbr:=∀ (β:Type),Nat→List V→Bool→(Ls→Int→Ob β)→Ob β
def xD:zbr:=fun β=>@zJd β zJ zk
def zsV(xD:zbr)(L:Nat):Dk:=dA AG fun A=>dA AB fun C=>d0 fun β k=>xD β L A C (fun p z=>k (V.tup [(V.gs 1 p),(Qe z)]) [])
theorem zXs(L:Nat):DK (zsV xD L) (fun _=>yj zDQ (zE3 zJ zk L) L zO3):=zF zap fun p=>zF zVU fun z=>zP fun _ k=>zWx zJ zk L p z k
def zCz:Hint:=⟨[(0,0),(0,1),(2,0),(3,8),(6,2),(7,2),(7,3),(9,0),(10,0),(10,3),(13,0),(14,0),(14,1)],[],[none,none,none,some ((bl 29360144 43),(bl 8651137875505 43)),none,some ((bl 16 43),(bl 8651137875505 43)),none,none,some ((bl 12 43),(bl 8651137875501 43)),none,none,none],[],[],false,false,[]⟩
def cf_block_Encode:CF:=cfD zCz 13
def zmU:CC:=zE [1,1,1,0,1,0,0] cf_block_Encode.body
def zqo:CC:=zE [1,1,1,1] cf_block_Encode.body
def zcD:Nat→Sh:=zl [(10,(.sl 4)),(17,(.sl 4)),(22,(.sl 4))]
def zcC(yq:zaf)(ya:zr)(xD:zbr)(L:Nat):CBC:=(xg 128 (zsV xD L) (xg 182 (zhP ya L) (xg 502 (zi3 yq L) noC)))
def znx:St→St:=zQ 0 (bl 29360144 43) (bl 8651137875505 43)
def zgR(C p:Ls)(z A:Int):St:=⟨(jn 4 ((V.gs 1 C)::(jn 17 ((V.sl 4 p)::((Qe z)::((Qe A)::(jn 18 []))))))),(gn 43 [])⟩
def zoM(p:Ls)(z:Int):St:=⟨(jn 2 ((V.gs 1 p)::((Qe z)::(jn 39 [])))),(gn 43 [])⟩
def zqX(p:Ls):St:=⟨(jn 4 ((V.gs 1 p)::(jn 38 []))),(gn 43 [])⟩
def zyW{β:Type}(yq:zaf)(ya:zr)(xD:zbr)(L:Nat)(z:List V)(A:Ls→Int→Ob β)(p:Ls→Ls→Int→Int→Ob β):Ob β:=cLd 4 z 68 fun D=>ifb (decide (((XK D:Nat):Int)>(256:Int))) (A ([]:Ls) (4:Int)) (chk (0+68≤(XK z)) (yq β L (XL 68 z) (fun E=>cLd 4 z 68 fun F=>lt (QG .u64 ((XK F:Nat):Int)) fun G=>ya β L E G (fun H=>cLd 4 z 68 fun C=>p H C ((XK C:Nat):Int) (0:Int)))))
theorem zQ3{β:Type}(yq:zaf)(ya:zr)(xD:zbr)(L:Nat)(A:List V)(k:KK β):yj zcD (zcC yq ya xD L) L cf_block_Encode [(V.agg A)] [] k=zyW yq ya xD L A (fun p z=>k (V.tup [(V.gs 1 p),(Qe z)]) []) (fun F C D E=>xw (ze zcD (zcC yq ya xD L) 0 L zmU) znx L (zgR F C D E) (zg 0 (zu (ze zcD (zcC yq ya xD L) 0 L zqo) (yz 0 (CF.res cf_block_Encode) k)))):=by kernel_rfl
def zns{β:Type}(yq:zaf)(ya:zr)(xD:zbr)(L:Nat)(A D:Ls)(E z:Int)(C:Ls→Int→Ob β)(p:Ls→Ls→Int→Int→Ob β)(F:Ls→Ob β):Ob β:=ifb (decide (z<E)) (idx D z fun H=>chk ((XK (XL 4 H))=4∧0+4≤4) (lt (zq [(Qc (0:Int)),(V.gs 35 ([]:Ls)),(V.gs 2 ([]:Ls)),(Qc (0:Int))] 0 (XL 4 H)) fun I=>chk (0+4≤(XK I)) (xD β L (Xv V.dem (XL 4 I)) true (fun G N=>ifb ((N:Int) != (0:Int)) (C ([]:Ls) (4:Int)) (chk ((XK A+XK G)*1≤xo∧XK A+XK G≤xo) (lt (A++G) fun J=>lt (QG .i64 ((z:Int)+(1:Int))) fun M=>p J D E M)))))) (F A)
theorem zGe{β:Type}(yq:zaf)(ya:zr)(xD:zbr)(L:Nat)(C p:Ls)(z A:Int)(X:St→Ob β)(K:KT β):ze zcD (zcC yq ya xD L) 0 L zmU (zgR C p z A) (yF znx X K)=zns yq ya xD L C p z A (fun D E=>K .ret (zoM D E)) (fun C p z A=>X (zgR C p z A)) (fun C=>K (.exit 0) (zqX C)):=by kernel_rfl
def zku{β:Type}(yq:zaf)(ya:zr)(xD:zbr)(L:Nat)(z:Ls)(A:Int)(p:Ls→Int→Ob β):Ob β:=p z A
theorem zBp{β:Type}(yq:zaf)(ya:zr)(xD:zbr)(L:Nat)(A:Ls)(C:Int)(k:KK β):(zg 0 (zu (ze zcD (zcC yq ya xD L) 0 L zqo) (yz 0 (CF.res cf_block_Encode) k))) .ret (zoM A C)=zku yq ya xD L A C (fun p z=>k (V.tup [(V.gs 1 p),(Qe z)]) []):=by kernel_rfl
def zll{β:Type}(yq:zaf)(ya:zr)(xD:zbr)(L:Nat)(z:Ls)(p:Ls→Int→Ob β):Ob β:=ifb (decide (((XK z:Nat):Int)>(100000:Int))) (p ([]:Ls) (4:Int)) (p z (0:Int))
theorem zCO{β:Type}(yq:zaf)(ya:zr)(xD:zbr)(L:Nat)(A:Ls)(k:KK β):(zg 0 (zu (ze zcD (zcC yq ya xD L) 0 L zqo) (yz 0 (CF.res cf_block_Encode) k))) (.exit 0) (zqX A)=zll yq ya xD L A (fun p z=>k (V.tup [(V.gs 1 p),(Qe z)]) []):=by kernel_rfl
def zgg{β:Type}(yq:zaf)(ya:zr)(xD:zbr)(L:Nat)(p:Ls→Int→Ob β)(z:Ls→Ob β):Nat→Ls→Ls→Int→Int→Ob β
 | 0,_,_,_,_=>none
 | n+1,E,A,C,D=>zns yq ya xD L E A C D p (fun E A C D=>zgg yq ya xD L p z n E A C D) z
theorem zrN{β:Type}(yq:zaf)(ya:zr)(xD:zbr)(L:Nat)(K:KT β):∀ (n:Nat) (p z:Ls) (A C:Int),xw (ze zcD (zcC yq ya xD L) 0 L zmU) znx n (zgR p z A C) K=zgg yq ya xD L (fun D E=>K .ret (zoM D E)) (fun p=>K (.exit 0) (zqX p)) n p z A C:=by
 intro n; induction n <;> intros
 ·rfl
 ·exact (zGe ..).trans (by simp only [*]; rfl)
def zrB{β:Type}(yq:zaf)(ya:zr)(xD:zbr)(L:Nat)(E:List V)(p:Ls→Int→Ob β):Ob β:=zyW yq ya xD L E p (fun z A C D=>zgg yq ya xD L (fun F G=>zku yq ya xD L F G p) (fun z=>zll yq ya xD L z p) L z A C D)
theorem zRn{β:Type}(yq:zaf)(ya:zr)(xD:zbr)(L:Nat)(p:List V)(k:KK β):yj zcD (zcC yq ya xD L) L cf_block_Encode [(V.agg p)] [] k=zrB yq ya xD L p (fun z A=>k (V.tup [(V.gs 1 z),(Qe A)]) []):=by
 refine (zQ3 yq ya xD L p k).trans ?_
 unfold zrB
 first
  | (simp only [zrN,zBp,zCO]; done)
  | (simp only [zrN]; rfl)
abbrev xY:=∀ (β:Type),Nat→List V→(Ls→Int→Ob β)→Ob β
def zn:xY:=fun β=>@zrB β yq ya xD
def zro(zn:xY)(L:Nat):Dk:=dA AG fun A=>d0 fun β k=>zn β L A (fun p z=>k (V.tup [(V.gs 1 p),(Qe z)]) [])
theorem zRw(L:Nat):DK (zro zn L) (fun _=>yj zcD (zcC yq ya xD L) L cf_block_Encode):=zF zap fun p=>zP fun _ k=>zRn yq ya xD L p k
def zOK:Hint:=⟨[],[],[none],[],[],false,false,[]⟩
def zUh:CF:=cfD zOK 83
def zLG:Nat→Sh:=zl []
def zLU(L:Nat):CBC:=noC
def zPY{β:Type}(L:Nat)(z:List V)(p:Bool→Ob β):Ob β:=chk (0+33≤(XK z)) (eqC 33 (XL 33 z) (We 32 (Qa (0:Int))++[(Qc (4294967295:Int))]) fun A=>p A)
theorem z0u{β:Type}(L:Nat)(p:List V)(k:KK β):yj zLG (zLU L) L zUh [(V.agg p)] [] k=zPY L p (fun p=>k (V.sc (.bool p)) []):=by kernel_rfl
abbrev zAk:=∀ (β:Type),Nat→List V→(Bool→Ob β)→Ob β
def zcI:zAk:=fun β=>@zPY β
def zPj(zcI:zAk)(L:Nat):Dk:=dA AG fun p=>d0 fun β k=>zcI β L p (fun p=>k (V.sc (.bool p)) [])
theorem z0I(L:Nat):DK (zPj zcI L) (fun _=>yj zLG (zLU L) L zUh):=zF zap fun p=>zP fun _ k=>z0u L p k
def zD0:Hint:=⟨[(0,0)],[],[none],[],[],false,false,[]⟩
def zKU:CF:=cfD zD0 43
def zyY:Nat→Sh:=zl [(4,(.sl 35)),(9,(.sl 35))]
def zym(zcI:zAk)(L:Nat):CBC:=(xg 188 (zPj zcI L) noC)
def zBF{β:Type}(zcI:zAk)(L:Nat)(z:List V)(p:Bool→Ob β):Ob β:=cLd 35 z 1 fun A=>ifb ((((XK A:Nat):Int):Int)==(1:Int)) (cLd 35 z 1 fun C=>idx C (0:Int) fun D=>zcI β L (XL 33 D) (fun E=>p E)) (p false)
theorem zTy{β:Type}(zcI:zAk)(L:Nat)(p:List V)(k:KK β):yj zyY (zym zcI L) L zKU [(V.agg p)] [] k=zBF zcI L p (fun p=>k (V.sc (.bool p)) []):=by kernel_rfl
abbrev zL:=∀ (β:Type),Nat→List V→(Bool→Ob β)→Ob β
def zf:zL:=fun β=>@zBF β zcI
def zoi(zf:zL)(L:Nat):Dk:=dA AG fun p=>d0 fun β k=>zf β L p (fun p=>k (V.sc (.bool p)) [])
theorem zSR(L:Nat):DK (zoi zf L) (fun _=>yj zyY (zym zcI L) L zKU):=zF zap fun p=>zP fun _ k=>zTy zcI L p k
def zNm:Hint:=⟨[(4,2)],[],[none,some ((bl 456 22),(bl 4194267 22)),none,some ((bl 0 22),(bl 4194259 22)),none,none,some ((bl 4 22),(bl 4194263 22)),none],[],[],false,false,[]⟩
def cf_tx_money:CF:=cfD zNm 84
def zt0:CC:=zE [1,1,0,1,0,0] cf_tx_money.body
def zBe:CC:=zE [1,1,1] cf_tx_money.body
def zfS:Nat→Sh:=zl [(13,(.int .i64)),(19,(.int .i64))]
def zfR(L:Nat):CBC:=noC
def zvy:St→St:=zQ 0 (bl 456 22) (bl 4194267 22)
def zlg(p:Int)(z:Ls)(A C:Int):St:=⟨(jn 3 ((Qe p)::(jn 2 ((V.sl 2 z)::((Qe A)::((Qe C)::(jn 13 []))))))),(gn 22 [])⟩
def zxj(p:Bool):St:=⟨(jn 2 ((V.sc (.bool p))::(jn 19 []))),(gn 22 [])⟩
def zyp:St:=⟨(jn 22 []),(gn 22 [])⟩
def zLw{β:Type}(L:Nat)(z:Ls)(p:Int→Ls→Int→Int→Ob β):Ob β:=p (0:Int) z ((XK z:Nat):Int) (0:Int)
theorem zYW{β:Type}(L:Nat)(p:Ls)(k:KK β):yj zfS (zfR L) L cf_tx_money [(V.sl 2 p)] [] k=zLw L p (fun z A C D=>xw (ze zfS (zfR L) 0 L zt0) zvy L (zlg z A C D) (zg 0 (zu (ze zfS (zfR L) 0 L zBe) (yz 0 (CF.res cf_tx_money) k)))):=by kernel_rfl
def zxi{β:Type}(L:Nat)(D:Int)(E:Ls)(F A:Int)(z:Bool→Ob β)(p:Int→Ls→Int→Int→Ob β)(C:Ob β):Ob β:=ifb (decide (A<F)) (idx E A fun G=>chk ((XK (XL 2 G))=2∧0+2≤2) (lt (zq [(Qe (0:Int)),(V.gs 1 ([]:Ls))] 0 (XL 2 G)) fun H=>cI .i64 H 0 fun I=>lt (QG .i64 (((2100000000000000:Int):Int)-D)) fun J=>ifb (decide (I>J)) (z false) (cI .i64 H 0 fun M=>lt (QG .i64 ((D:Int)+M)) fun N=>lt (QG .i64 ((A:Int)+(1:Int))) fun O=>p N E F O))) (C)
theorem zQg{β:Type}(L:Nat)(p:Int)(z:Ls)(A C:Int)(X:St→Ob β)(K:KT β):ze zfS (zfR L) 0 L zt0 (zlg p z A C) (yF zvy X K)=zxi L p z A C (fun D=>K .ret (zxj D)) (fun p z A C=>X (zlg p z A C)) (K (.exit 0) (zyp)):=by kernel_rfl
def zqq{β:Type}(L:Nat)(z:Bool)(p:Bool→Ob β):Ob β:=p z
theorem zKw{β:Type}(L:Nat)(p:Bool)(k:KK β):(zg 0 (zu (ze zfS (zfR L) 0 L zBe) (yz 0 (CF.res cf_tx_money) k))) .ret (zxj p)=zqq L p (fun z=>k (V.sc (.bool z)) []):=by kernel_rfl
def zr3{β:Type}(L:Nat)(p:Bool→Ob β):Ob β:=p true
theorem zLT{β:Type}(L:Nat)(k:KK β):(zg 0 (zu (ze zfS (zfR L) 0 L zBe) (yz 0 (CF.res cf_tx_money) k))) (.exit 0) (zyp)=zr3 L (fun p=>k (V.sc (.bool p)) []):=by kernel_rfl
def zk3{β:Type}(L:Nat)(p:Bool→Ob β)(z:Ob β):Nat→Int→Ls→Int→Int→Ob β
 | 0,_,_,_,_=>none
 | n+1,A,C,D,E=>zxi L A C D E p (fun A C D E=>zk3 L p z n A C D E) z
theorem zAa{β:Type}(L:Nat)(K:KT β):∀ (n:Nat) (p:Int) (z:Ls) (A C:Int),xw (ze zfS (zfR L) 0 L zt0) zvy n (zlg p z A C) K=zk3 L (fun D=>K .ret (zxj D)) (K (.exit 0) (zyp)) n p z A C:=by
 intro n; induction n <;> intros
 ·rfl
 ·exact (zQg ..).trans (by simp only [*]; rfl)
def zDf{β:Type}(L:Nat)(z:Ls)(p:Bool→Ob β):Ob β:=zLw L z (fun A C D E=>zk3 L (fun F=>zqq L F p) (zr3 L p) L A C D E)
theorem zY1{β:Type}(L:Nat)(p:Ls)(k:KK β):yj zfS (zfR L) L cf_tx_money [(V.sl 2 p)] [] k=zDf L p (fun p=>k (V.sc (.bool p)) []):=by
 refine (zYW L p k).trans ?_
 unfold zDf
 first
  | (simp only [zAa,zKw,zLT]; done)
  | (simp only [zAa]; rfl)
abbrev zcM:=∀ (β:Type),Nat→Ls→(Bool→Ob β)→Ob β
def zM:zcM:=fun β=>@zDf β
def zLS(zM:zcM)(L:Nat):Dk:=dA (AL 2) fun p=>d0 fun β k=>zM β L p (fun p=>k (V.sc (.bool p)) [])
theorem zZg(L:Nat):DK (zLS zM L) (fun _=>yj zfS (zfR L) L cf_tx_money):=zF zcd fun p=>zP fun _ k=>zY1 L p k
def zNo:Hint:=⟨[(0,0),(10,2)],[],[none,none,none,none,none,none,none,some ((bl 234881034 47),(bl 140737488355291 47)),none,some ((bl 10 47),(bl 140737488355291 47)),none,none,some ((bl 4 47),(bl 140737488355293 47)),none,none,none],[],[],false,false,[]⟩
def cf_tx_Check:CF:=cfD zNo 44
def zpa:CC:=zE [1,1,1,1,1,0,1,0,0] cf_tx_Check.body
def zuu:CC:=zE [1,1,1,1,1,1] cf_tx_Check.body
def zfT:Nat→Sh:=zl [(10,(.sl 35)),(15,(.sl 2)),(20,(.sl 2)),(25,(.sl 35)),(34,.bool),(41,.bool)]
def zfQ(zJ:zcl)(zM:zcM)(zf:zL)(L:Nat):CBC:=(xg 151 (zoi zf L) (xg 150 (zLS zM L) (xg 146 (zGv zJ L) noC)))
def zpV:St→St:=zQ 0 (bl 234881034 47) (bl 140737488355291 47)
def zib(p:Ls)(z A:Int)(D:List V)(C:Lm):St:=⟨(jn 1 ((V.ptr 1 0)::(jn 1 ((V.mp 23)::(jn 21 ((V.sl 35 p)::((Qe z)::((Qe A)::(jn 19 []))))))))),(gn 1 ((.live true D)::(gn 21 ((.mp C)::(gn 23 [])))))⟩
def zxv(z:Int)(p:Lm):St:=⟨(jn 2 ((Qe z)::(jn 44 []))),(gn 23 ((.mp p)::(gn 23 [])))⟩
def zyA(z:List V)(p:Lm):St:=⟨(jn 1 ((V.ptr 1 0)::(jn 1 ((V.mp 23)::(jn 43 []))))),(gn 1 ((.live true z)::(gn 21 ((.mp p)::(gn 23 [])))))⟩
def zMt{β:Type}(zJ:zcl)(zM:zcM)(zf:zL)(L:Nat)(A:List V)(p:Int→Ob β)(z:Ls→Int→Int→List V→Lm→Ob β):Ob β:=chk (0+4≤(XK A)) (zJ β L (Xv V.dem (XL 4 A)) (fun D=>ifb (!D) (p (4:Int)) (cLd 35 A 1 fun E=>ifb ((((XK E:Nat):Int):Int)==(0:Int)) (p (93:Int)) (cLd 2 A 2 fun F=>ifb ((((XK F:Nat):Int):Int)==(0:Int)) (p (93:Int)) (cLd 2 A 2 fun G=>zM β L G (fun H=>ifb (!H) (p (90:Int)) (cLd 35 A 1 fun C=>z C ((XK C:Nat):Int) (0:Int) A ([]:Lm))))))))
theorem zY2{β:Type}(zJ:zcl)(zM:zcM)(zf:zL)(L:Nat)(p:List V)(k:KK β):yj zfT (zfQ zJ zM zf L) L cf_tx_Check [(V.agg p)] [] k=zMt zJ zM zf L p (fun p=>k (Qe p) []) (fun z A C E D=>xw (ze zfT (zfQ zJ zM zf L) 0 L zpa) zpV L (zib z A C E D) (zg 0 (zu (ze zfT (zfQ zJ zM zf L) 0 L zuu) (yz 0 (CF.res cf_tx_Check) k)))):=by kernel_rfl
def zrh{β:Type}(zJ:zcl)(zM:zcM)(zf:zL)(L:Nat)(E:Ls)(F A:Int)(H:List V)(z:Lm)(C:Int→Lm→Ob β)(p:Ls→Int→Int→List V→Lm→Ob β)(G:List V→Lm→Ob β):Ob β:=ifb (decide (A<F)) (idx E A fun I=>chk ((XK (XL 35 I))=35∧0+35≤35) (lt (zq (We 32 (Qa (0:Int))++[(Qc (0:Int)),(Qc (0:Int)),(V.gs 1 ([]:Ls))]) 0 (XL 35 I)) fun D=>chk (0+33≤(XK D)) (mAt 35 (V.agg (XL 33 D)) z fun N=>aB (Option.getD N (V.sc (.bool false))) fun O=>ifb O (C (91:Int) z) (chk (0+33≤(XK D)) (zI1 35 (V.agg (XL 33 D)) (V.sc (.bool true)) z fun J=>lt (QG .i64 ((A:Int)+(1:Int))) fun M=>p E F M H J))))) (G H z)
theorem zKS{β:Type}(zJ:zcl)(zM:zcM)(zf:zL)(L:Nat)(z:Ls)(A C:Int)(D:List V)(p:Lm)(X:St→Ob β)(K:KT β):ze zfT (zfQ zJ zM zf L) 0 L zpa (zib z A C D p) (yF zpV X K)=zrh zJ zM zf L z A C D p (fun E p=>K .ret (zxv E p)) (fun z A C D p=>X (zib z A C D p)) (fun D p=>K (.exit 0) (zyA D p)):=by kernel_rfl
def zmE{β:Type}(zJ:zcl)(zM:zcM)(zf:zL)(L:Nat)(z:Int)(A:Lm)(p:Int→Ob β):Ob β:=p z
theorem zFa{β:Type}(zJ:zcl)(zM:zcM)(zf:zL)(L:Nat)(z:Int)(p:Lm)(k:KK β):(zg 0 (zu (ze zfT (zfQ zJ zM zf L) 0 L zuu) (yz 0 (CF.res cf_tx_Check) k))) .ret (zxv z p)=zmE zJ zM zf L z p (fun A=>k (Qe A) []):=by kernel_rfl
def ziV{β:Type}(zJ:zcl)(zM:zcM)(zf:zL)(L:Nat)(z:List V)(A:Lm)(p:Int→Ob β):Ob β:=mAt 35 (V.agg (We 32 (Qa (0:Int))++[(Qc (4294967295:Int))])) A fun C=>aB (Option.getD C (V.sc (.bool false))) fun D=>ifb D (chk (0+4≤(XK z)) (zf β L (Xv V.dem (XL 4 z)) (fun E=>ifb (!E) (p (92:Int)) (p (0:Int))))) (p (0:Int))
theorem zF8{β:Type}(zJ:zcl)(zM:zcM)(zf:zL)(L:Nat)(z:List V)(p:Lm)(k:KK β):(zg 0 (zu (ze zfT (zfQ zJ zM zf L) 0 L zuu) (yz 0 (CF.res cf_tx_Check) k))) (.exit 0) (zyA z p)=ziV zJ zM zf L z p (fun A=>k (Qe A) []):=by kernel_rfl
def zh7{β:Type}(zJ:zcl)(zM:zcM)(zf:zL)(L:Nat)(p:Int→Lm→Ob β)(z:List V→Lm→Ob β):Nat→Ls→Int→Int→List V→Lm→Ob β
 | 0,_,_,_,_,_=>none
 | n+1,A,C,D,F,E=>zrh zJ zM zf L A C D F E p (fun A C D F E=>zh7 zJ zM zf L p z n A C D F E) z
theorem zve{β:Type}(zJ:zcl)(zM:zcM)(zf:zL)(L:Nat)(K:KT β):∀ (n:Nat) (A:Ls) (C D:Int) (z:List V) (p:Lm),xw (ze zfT (zfQ zJ zM zf L) 0 L zpa) zpV n (zib A C D z p) K=zh7 zJ zM zf L (fun E p=>K .ret (zxv E p)) (fun z p=>K (.exit 0) (zyA z p)) n A C D z p:=by
 intro n; induction n <;> intros
 ·rfl
 ·exact (zKS ..).trans (by simp only [*]; rfl)
def zDq{β:Type}(zJ:zcl)(zM:zcM)(zf:zL)(L:Nat)(F:List V)(p:Int→Ob β):Ob β:=zMt zJ zM zf L F p (fun C D E A z=>zh7 zJ zM zf L (fun G z=>zmE zJ zM zf L G z p) (fun A z=>ziV zJ zM zf L A z p) L C D E A z)
theorem zZB{β:Type}(zJ:zcl)(zM:zcM)(zf:zL)(L:Nat)(p:List V)(k:KK β):yj zfT (zfQ zJ zM zf L) L cf_tx_Check [(V.agg p)] [] k=zDq zJ zM zf L p (fun p=>k (Qe p) []):=by
 refine (zY2 zJ zM zf L p k).trans ?_
 unfold zDq
 first
  | (simp only [zve,zFa,zF8]; done)
  | (simp only [zve]; rfl)
abbrev zaH:=∀ (β:Type),Nat→List V→(Int→Ob β)→Ob β
def zx:zaH:=fun β=>@zDq β zJ zM zf
def zDl(zx:zaH)(L:Nat):Dk:=dA AG fun p=>d0 fun β k=>zx β L p (fun p=>k (Qe p) [])
theorem zY8(L:Nat):DK (zDl zx L) (fun _=>yj zfT (zfQ zJ zM zf L) L cf_tx_Check):=zF zap fun p=>zP fun _ k=>zZB zJ zM zf L p k
def zOn:Hint:=⟨[(0,0),(2,5),(7,10),(9,0),(9,1)],[(2,4)],[none,some ((bl 262161 33),(bl 6979321823 33)),none,some ((bl 16 33),(bl 6979321823 33)),none,none],[],[(7,0,[0])],false,false,[]⟩
def cf_sha_Pad:CF:=cfD zOn 155
def ziF:CC:=zE [1,1,1,1,0,1,0,0] cf_sha_Pad.body
def zy1:CC:=zE [1,1,1,1,1] cf_sha_Pad.body
def zfb:Nat→Sh:=zl []
def ze9(L:Nat):CBC:=noC
def zjM:St→St:=zQ 0 (bl 262161 33) (bl 6979321823 33)
def zoJ(C:Int)(p:Nat)(z:Int)(A:List V):St:=⟨((Qd C)::(jn 3 ((V.own 15 0 p 1)::(jn 13 ((Qe z)::(jn 14 [])))))),(gn 15 ((.live true A)::(gn 17 [])))⟩
def zic(A:Int)(C:Ls)(p:Int)(z:Nat):St:=⟨((Qd A)::(jn 3 ((V.gs 1 C)::(jn 13 ((Qe p)::(jn 14 [])))))),(gn 15 ((.dead z)::(gn 17 [])))⟩
def zA1(p:Nat)(z:List V):St:=⟨(jn 4 ((V.own 15 0 p 1)::(jn 28 []))),(gn 15 ((.live true z)::(gn 17 [])))⟩
def zpL(z:Ls)(p:Nat):St:=⟨(jn 4 ((V.gs 1 z)::(jn 28 []))),(gn 15 ((.dead p)::(gn 17 [])))⟩
def zOI{β:Type}(L:Nat)(C:Int)(p:Int→Nat→Int→List V→Ob β):Ob β:=lt (QG .u64 ((C:Int)+(9:Int))) fun E=>lt (Int.tmod E (64:Int)) fun F=>lt (QG .u64 (((64:Int):Int)-F)) fun G=>lt (Int.tmod G (64:Int)) fun D=>lt (QG .u64 (((1:Int):Int)+D)) fun A=>lt (QG .u64 (((9:Int):Int)+D)) fun z=>chk (0≤A∧A≤z∧(XM z)*1≤xo∧z≤xo) (chk (0≤(0:Int)∧(0:Int)<(((XM A):Nat):Int)) (chk (1=1∧0+1≤(XK (XN (We (XM z) [(Qa (0:Int))])))) (lt (zq (XN (We (XM z) [(Qa (0:Int))])) 0 [(Qa (128:Int))]) fun H=>p C (XM A) (0:Int) H)))
theorem z0a{β:Type}(L:Nat)(p:Int)(k:KK β):yj zfb (ze9 L) L cf_sha_Pad [(Qd p)] [] k=zOI L p (fun p z A C=>xw (ze zfb (ze9 L) 0 L ziF) zjM L (zoJ p z A C) (zg 0 (zu (ze zfb (ze9 L) 0 L zy1) (yz 0 (CF.res cf_sha_Pad) k)))):=by kernel_rfl
def zny{β:Type}(L:Nat)(F:Int)(A:Nat)(C:Int)(p:List V)(z:Int→Ls→Int→Nat→Ob β)(E:Nat→List V→Ob β):Ob β:=ifb (decide (C<(8:Int))) (chk (0=0∧A*1≤(XK p)∧(XK p)≠0) (lt (QG .u64 (((8:Int):Int)*F)) fun M=>lt (QG .i64 (((8:Int):Int)*C)) fun N=>lt (QG .i64 (((56:Int):Int)-N)) fun G=>chk (0≤G) (lt (zdB .u64 M G) fun H=>lt (QG .u8 H) fun D=>chk ((XK (xn 1 A p)+XK (xn 1 1 [(Qa D)]))*1≤xo∧XK (xn 1 A p)+XK (xn 1 1 [(Qa D)])≤xo) (lt ((xn 1 A p)++(xn 1 1 [(Qa D)])) fun I=>lt (QG .i64 ((C:Int)+(1:Int))) fun J=>z F I J (XK p))))) (E A p)
theorem zN6{β:Type}(L:Nat)(C:Int)(z:Nat)(A:Int)(p:List V)(X:St→Ob β)(K:KT β):ze zfb (ze9 L) 0 L ziF (zoJ C z A p) (yF zjM X K)=zny L C z A p (fun C D A p=>X (zic C D A p)) (fun z p=>K (.exit 0) (zA1 z p)):=by kernel_rfl
def zrc{β:Type}(L:Nat)(z:Nat)(A:List V)(p:Ls→Ob β):Ob β:=chk (z≠0∨(XK A)=0) (p (xn 1 z A))
theorem zKu{β:Type}(L:Nat)(p:Nat)(z:List V)(k:KK β):(zg 0 (zu (ze zfb (ze9 L) 0 L zy1) (yz 0 (CF.res cf_sha_Pad) k))) (.exit 0) (zA1 p z)=zrc L p z (fun A=>k (V.fr 1 A) []):=by kernel_rfl
def zhR{β:Type}(L:Nat)(G:Int)(D:Ls)(z:Int)(E:Nat)(p:Int→Ls→Int→Nat→Ob β)(A:Ls→Nat→Ob β):Ob β:=ifb (decide (z<(8:Int))) (lt (QG .u64 (((8:Int):Int)*G)) fun H=>lt (QG .i64 (((8:Int):Int)*z)) fun I=>lt (QG .i64 (((56:Int):Int)-I)) fun F=>chk (0≤F) (lt (zdB .u64 H F) fun J=>lt (QG .u8 J) fun C=>chk ((XK D+XK (xn 1 1 [(Qa C)]))*1≤xo∧XK D+XK (xn 1 1 [(Qa C)])≤xo) (lt (D++(xn 1 1 [(Qa C)])) fun M=>lt (QG .i64 ((z:Int)+(1:Int))) fun N=>p G M N E))) (A D E)
theorem zKh{β:Type}(L:Nat)(C:Int)(A:Ls)(z:Int)(p:Nat)(X:St→Ob β)(K:KT β):ze zfb (ze9 L) 0 L ziF (zic C A z p) (yF zjM X K)=zhR L C A z p (fun C A z p=>X (zic C A z p)) (fun A p=>K (.exit 0) (zpL A p)):=by kernel_rfl
def zhu{β:Type}(L:Nat)(z:Ls)(A:Nat)(p:Ls→Ob β):Ob β:=p z
theorem zC6{β:Type}(L:Nat)(z:Ls)(p:Nat)(k:KK β):(zg 0 (zu (ze zfb (ze9 L) 0 L zy1) (yz 0 (CF.res cf_sha_Pad) k))) (.exit 0) (zpL z p)=zhu L z p (fun A=>k (V.gs 1 A) []):=by kernel_rfl
def zdU{β:Type}(L:Nat)(p:Ls→Nat→Ob β):Nat→Int→Ls→Int→Nat→Ob β
 | 0,_,_,_,_=>none
 | n+1,C,D,z,A=>zhR L C D z A (fun C D z A=>zdU L p n C D z A) p
theorem zK1{β:Type}(L:Nat)(K:KT β):∀ (n:Nat) (C:Int) (z:Ls) (A:Int) (p:Nat),xw (ze zfb (ze9 L) 0 L ziF) zjM n (zic C z A p) K=zdU L (fun z p=>K (.exit 0) (zpL z p)) n C z A p:=by
 intro n; induction n <;> intros
 ·rfl
 ·exact (zKh ..).trans (by simp only [*]; rfl)
def zFD{β:Type}(L:Nat)(C:Nat→List V→Ob β)(p:Ls→Nat→Ob β):Nat→Int→Nat→Int→List V→Ob β
 | 0,_,_,_,_=>none
 | n+1,D,E,z,A=>zny L D E z A (fun D F z A=>zdU L p n D F z A) C
theorem zxN{β:Type}(L:Nat)(K:KT β):∀ (n:Nat) (C:Int) (z:Nat) (A:Int) (p:List V),xw (ze zfb (ze9 L) 0 L ziF) zjM n (zoJ C z A p) K=zFD L (fun z p=>K (.exit 0) (zA1 z p)) (fun D p=>K (.exit 0) (zpL D p)) n C z A p:=by
 intro n; induction n <;> intros
 ·rfl
 ·exact (zN6 ..).trans (by simp only [zK1]; rfl)
def zGy{β:Type}(L:Nat)(D:Int)(C:Ls→Ob β)(z:Ls→Ob β):Ob β:=zOI L D (fun D A E p=>zFD L (fun A p=>zrc L A p C) (fun F p=>zhu L F p z) L D A E p)
theorem z0g{β:Type}(L:Nat)(p:Int)(k:KK β):yj zfb (ze9 L) L cf_sha_Pad [(Qd p)] [] k=zGy L p (fun p=>k (V.fr 1 p) []) (fun p=>k (V.gs 1 p) []):=by
 refine (z0a L p k).trans ?_
 unfold zGy
 first
  | (simp only [zxN,zKu,zC6]; done)
  | (simp only [zxN]; rfl)
abbrev zbG:=∀ (β:Type),Nat→Int→(Ls→Ob β)→(Ls→Ob β)→Ob β
def zG:zbG:=fun β=>@zGy β
def zPh(zG:zbG)(L:Nat):Dk:=dA (AI .u64) fun p=>d0 fun β k=>zG β L p (fun p=>k (V.fr 1 p) []) (fun p=>k (V.gs 1 p) [])
theorem z1f(L:Nat):DK (zPh zG L) (fun _=>yj zfb (ze9 L) L cf_sha_Pad):=zF zdJ fun p=>zP fun _ k=>z0g L p k
def zOO:Hint:=⟨[(0,0),(1,0),(5,0),(5,3),(7,0),(7,1)],[],[none,some ((bl 456 17),(bl 114655 17)),none,some ((bl 8 17),(bl 114655 17)),none,none],[],[],false,false,[]⟩
def cf_sha_row:CF:=cfD zOO 154
def zw0:CC:=zE [1,1,0,1,0,0] cf_sha_row.body
def zQj:CC:=zE [1,1,1] cf_sha_row.body
def zje:Nat→Sh:=zl [(11,(.sl 1))]
def zjf(L:Nat):CBC:=noC
def zyj:St→St:=zQ 0 (bl 456 17) (bl 114655 17)
def zlR(p z:Ls)(A C:Int):St:=⟨(jn 3 ((V.gs 1 p)::(jn 2 ((V.sl 1 z)::((Qe A)::((Qe C)::(jn 8 []))))))),(gn 17 [])⟩
def zBd(p:Ls):St:=⟨(jn 3 ((V.gs 1 p)::(jn 13 []))),(gn 17 [])⟩
def zP5{β:Type}(L:Nat)(z:Ls)(p:Ls→Ls→Int→Int→Ob β):Ob β:=p ([]:Ls) z ((XK z:Nat):Int) (0:Int)
theorem z1x{β:Type}(L:Nat)(p:Ls)(k:KK β):yj zje (zjf L) L cf_sha_row [(V.sl 1 p)] [] k=zP5 L p (fun z A C D=>xw (ze zje (zjf L) 0 L zw0) zyj L (zlR z A C D) (zg 0 (zu (ze zje (zjf L) 0 L zQj) (yz 0 (CF.res cf_sha_row) k)))):=by kernel_rfl
def zfm{β:Type}(L:Nat)(z E:Ls)(F A:Int)(p:Ls→Ls→Int→Int→Ob β)(C:Ls→Ob β):Ob β:=ifb (decide (A<F)) (idx E A fun G=>cL 1 G 0 fun D=>chk ((XK z+XK D)*1≤xo∧XK z+XK D≤xo) (lt (z++D) fun H=>lt (QG .i64 ((A:Int)+(1:Int))) fun I=>p H E F I)) (C z)
theorem zQV{β:Type}(L:Nat)(p z:Ls)(A C:Int)(X:St→Ob β)(K:KT β):ze zje (zjf L) 0 L zw0 (zlR p z A C) (yF zyj X K)=zfm L p z A C (fun p z A C=>X (zlR p z A C)) (fun p=>K (.exit 0) (zBd p)):=by kernel_rfl
def zhq{β:Type}(L:Nat)(z:Ls)(p:Ls→Ob β):Ob β:=p z
theorem zN2{β:Type}(L:Nat)(p:Ls)(k:KK β):(zg 0 (zu (ze zje (zjf L) 0 L zQj) (yz 0 (CF.res cf_sha_row) k))) (.exit 0) (zBd p)=zhq L p (fun z=>k (V.gs 1 z) []):=by kernel_rfl
def zjF{β:Type}(L:Nat)(p:Ls→Ob β):Nat→Ls→Ls→Int→Int→Ob β
 | 0,_,_,_,_=>none
 | n+1,z,A,C,D=>zfm L z A C D (fun z A C D=>zjF L p n z A C D) p
theorem zCo{β:Type}(L:Nat)(K:KT β):∀ (n:Nat) (p z:Ls) (A C:Int),xw (ze zje (zjf L) 0 L zw0) zyj n (zlR p z A C) K=zjF L (fun p=>K (.exit 0) (zBd p)) n p z A C:=by
 intro n; induction n <;> intros
 ·rfl
 ·exact (zQV ..).trans (by simp only [*]; rfl)
def zH1{β:Type}(L:Nat)(A:Ls)(p:Ls→Ob β):Ob β:=zP5 L A (fun z C D E=>zjF L (fun z=>zhq L z p) L z C D E)
theorem z1z{β:Type}(L:Nat)(p:Ls)(k:KK β):yj zje (zjf L) L cf_sha_row [(V.sl 1 p)] [] k=zH1 L p (fun p=>k (V.gs 1 p) []):=by
 refine (z1x L p k).trans ?_
 unfold zH1
 first
  | (simp only [zCo,zN2]; done)
  | (simp only [zCo]; rfl)
abbrev zbJ:=∀ (β:Type),Nat→Ls→(Ls→Ob β)→Ob β
def xE:zbJ:=fun β=>@zH1 β
def zP8(xE:zbJ)(L:Nat):Dk:=dA (AL 1) fun p=>d0 fun β k=>xE β L p (fun p=>k (V.gs 1 p) [])
theorem z0b(L:Nat):DK (zP8 xE L) (fun _=>yj zje (zjf L) L cf_sha_row):=zF zcd fun p=>zP fun _ k=>z1z L p k
def zNp:Hint:=⟨[],[],[none],[],[],false,false,[]⟩
def zR4:CF:=cfD zNp 180
def zJh:Nat→Sh:=zl []
def zIB(yB:zbb)(L:Nat):CBC:=(xg 572 (zfW yB L) noC)
def zLI{β:Type}(yB:zbb)(L:Nat)(z A:Int)(p:Int→Ob β):Ob β:=lt (QG .i64 (0-A)) fun C=>yB β L z C (fun D=>p D)
theorem zZq{β:Type}(yB:zbb)(L:Nat)(p z:Int)(k:KK β):yj zJh (zIB yB L) L zR4 [(Qc p),(Qe z)] [] k=zLI yB L p z (fun p=>k (Qc p) []):=by kernel_rfl
abbrev yT:=∀ (β:Type),Nat→Int→Int→(Int→Ob β)→Ob β
def yg:yT:=fun β=>@zLI β yB
def zDh(yg:yT)(L:Nat):Dk:=dA (AI .u32) fun p=>dA (AI .i64) fun z=>d0 fun β k=>yg β L p z (fun p=>k (Qc p) [])
theorem zZD(L:Nat):DK (zDh yg L) (fun _=>yj zJh (zIB yB L) L zR4):=zF zdJ fun p=>zF zdJ fun z=>zP fun _ k=>zZq yB L p z k
def zCC:Hint:=⟨[],[],[none,some ((bl 526 85),(bl 38685626227668133590597583 85)),none,some ((bl 12 85),(bl 38685626227668133590597581 85)),none,none,some ((bl 4638 85),(bl 38685626227668133590597599 85)),none,some ((bl 526 85),(bl 38685626227668133590597599 85)),none,none,some ((bl 76 85),(bl 38685623849749388397117053 85)),none,some ((bl 12 85),(bl 38685623849749388397116989 85)),none,none],[],[],false,false,[]⟩
def cf_sha_schedule:CF:=cfD zCC 179
def zho:CC:=zE [1,1,0,1,0,0,1,1,0,0,1,1,0,0] cf_sha_schedule.body
def zrM:CC:=zE [1,1,0,1,0,0,1,1,1] cf_sha_schedule.body
def zmw:CC:=zE [1,1,1,0,1,0,0] cf_sha_schedule.body
def ziR:CC:=zE [1,1,0,1,0,0] cf_sha_schedule.body
def zzY:CC:=zE [1,1,1,1] cf_sha_schedule.body
def zrZ:CC:=zE [1,1,1] cf_sha_schedule.body
def zaa:Nat→Sh:=zl [(18,(.int .u32)),(25,(.int .u8)),(38,(.int .u32)),(43,(.int .u32)),(49,(.int .u32)),(55,(.int .u32)),(60,(.int .u32)),(66,(.int .u32)),(73,(.int .u32)),(79,(.int .u32))]
def y9(yg:yT)(L:Nat):CBC:=(xg 535 (zDh yg L) noC)
def zeM:St→St:=zQ 0 (bl 526 85) (bl 38685626227668133590597583 85)
def zh4:St→St:=zQ 0 (bl 4638 85) (bl 38685626227668133590597599 85)
def zoa:St→St:=zQ 0 (bl 76 85) (bl 38685623849749388397117053 85)
def zc6(p:Int)(z A C:List V):St:=⟨(jn 1 ((V.ptr 1 0)::((V.ptr 2 0)::((V.ptr 3 0)::(jn 5 ((Qe p)::(jn 75 []))))))),(gn 1 ((.live true z)::((.live true A)::((.live true C)::(gn 81 [])))))⟩
def zdz(z A p:Int)(C D E:List V):St:=⟨(jn 1 ((V.ptr 1 0)::((V.ptr 2 0)::((V.ptr 3 0)::((Qe z)::(jn 4 ((Qe A)::(jn 2 ((Qe p)::(jn 72 [])))))))))),(gn 1 ((.live true C)::((.live true D)::((.live true E)::(gn 81 [])))))⟩
def zhX(p z:List V):St:=⟨(jn 2 ((V.ptr 2 0)::((V.ptr 3 0)::(jn 81 [])))),(gn 2 ((.live true p)::((.live true z)::(gn 81 []))))⟩
def zgX(p:Int)(z A:List V):St:=⟨(jn 2 ((V.ptr 2 0)::((V.ptr 3 0)::(jn 2 ((Qe p)::(jn 78 [])))))),(gn 2 ((.live true z)::((.live true A)::(gn 81 []))))⟩
def zpX(p:Int)(z A C:List V):St:=⟨(jn 1 ((V.ptr 1 0)::((V.ptr 2 0)::((V.ptr 3 0)::(jn 5 ((Qe p)::(jn 75 []))))))),(gn 1 ((.live true z)::((.live true A)::((.live true C)::(gn 81 [])))))⟩
def zqU(p z:List V):St:=⟨(jn 2 ((V.ptr 2 0)::((V.ptr 3 0)::(jn 81 [])))),(gn 2 ((.live true p)::((.live true z)::(gn 81 []))))⟩
def zye{β:Type}(yg:yT)(L:Nat)(z:List V)(p:Int→List V→List V→List V→Ob β):Ob β:=p (0:Int) z (We 64 (Qc (0:Int))) (We 64 (Qc (0:Int)))
theorem zQT{β:Type}(yg:yT)(L:Nat)(p:List V)(k:KK β):yj zaa (y9 yg L) L cf_sha_schedule [(V.agg p)] [] k=zye yg L p (fun z A C D=>xw (ze zaa (y9 yg L) 0 L ziR) zeM L (zc6 z A C D) (zg 0 (zu (ze zaa (y9 yg L) 0 L zrZ) (yz 0 (CF.res cf_sha_schedule) k)))):=by kernel_rfl
def zkf{β:Type}(yg:yT)(L:Nat)(z:Int)(E C D:List V)(p:Int→Int→Int→List V→List V→List V→Ob β)(A:List V→List V→Ob β):Ob β:=ifb (decide (z<(16:Int))) (p z z (0:Int) E C D) (A C D)
theorem zI8{β:Type}(yg:yT)(L:Nat)(A:Int)(C p z:List V)(X:St→Ob β)(K:KT β):ze zaa (y9 yg L) 0 L ziR (zc6 A C p z) (yF zeM X K)=zkf yg L A C p z (fun E A D C p z=>xw (ze zaa (y9 yg L) 0 L zho) zh4 L (zdz E A D C p z) (zg 2 (zg 1 (zu (ze zaa (y9 yg L) 0 L zrM) (yF zeM X K))))) (fun p z=>K (.exit 0) (zhX p z)):=by kernel_rfl
def zmP{β:Type}(yg:yT)(L:Nat)(z A:List V)(p:Int→List V→List V→Ob β):Ob β:=p (16:Int) z A
theorem zED{β:Type}(yg:yT)(L:Nat)(p z:List V)(k:KK β):(zg 0 (zu (ze zaa (y9 yg L) 0 L zrZ) (yz 0 (CF.res cf_sha_schedule) k))) (.exit 0) (zhX p z)=zmP yg L p z (fun A p z=>xw (ze zaa (y9 yg L) 0 L zmw) zoa L (zgX A p z) (zg 4 (zu (ze zaa (y9 yg L) 0 L zzY) (yz 0 (CF.res cf_sha_schedule) k)))):=by kernel_rfl
def zbi{β:Type}(yg:yT)(L:Nat)(z G A:Int)(D H C:List V)(p:Int→Int→Int→List V→List V→List V→Ob β)(E:Int→List V→List V→List V→Ob β):Ob β:=ifb (decide (A<(4:Int))) (chk (0≤z∧z<((64:Nat):Int)) (cI .u32 C (0+((XM z)*1)) fun I=>lt (zkq .u32 I (8:Int)) fun J=>lt (QG .i64 (((4:Int):Int)*z)) fun M=>lt (QG .i64 ((M:Int)+A)) fun F=>chk (0≤F∧F<((64:Nat):Int)) (cI .u8 D (0+((XM F)*1)) fun N=>lt (QG .u32 N) fun O=>lt (ior .u32 J O) fun P=>chk (0≤z∧z<((64:Nat):Int)) (chk (1=1∧(0+((XM z)*1))+1≤(XK C)) (lt (zq C (0+((XM z)*1)) [(Qc P)]) fun Q=>lt (QG .i64 ((A:Int)+(1:Int))) fun R=>p z G R D H Q))))) (E G D H C)
theorem zwL{β:Type}(yg:yT)(L:Nat)(E z p:Int)(A C D:List V)(X:St→Ob β)(K:KT β):ze zaa (y9 yg L) 0 L zho (zdz E z p A C D) (yF zh4 X K)=zbi yg L E z p A C D (fun E z p A C D=>X (zdz E z p A C D)) (fun z A C D=>K (.exit 2) (zpX z A C D)):=by kernel_rfl
def zei{β:Type}(yg:yT)(L:Nat)(p:Int)(N z:List V)(A:Int→List V→List V→Ob β)(J:List V→List V→Ob β):Ob β:=ifb (decide (p<(64:Int))) (lt (QG .i64 ((p:Int)-(15:Int))) fun M=>chk (0≤M∧M<((64:Nat):Int)) (cI .u32 z (0+((XM M)*1)) fun O=>yg β L O (7:Int) (fun P=>lt (QG .i64 ((p:Int)-(15:Int))) fun C=>chk (0≤C∧C<((64:Nat):Int)) (cI .u32 z (0+((XM C)*1)) fun Q=>yg β L Q (18:Int) (fun R=>lt (zdR .u32 P R) fun S=>lt (QG .i64 ((p:Int)-(15:Int))) fun D=>chk (0≤D∧D<((64:Nat):Int)) (cI .u32 z (0+((XM D)*1)) fun T=>lt (zdB .u32 T (3:Int)) fun U=>lt (zdR .u32 S U) fun W=>lt (QG .i64 ((p:Int)-(2:Int))) fun E=>chk (0≤E∧E<((64:Nat):Int)) (cI .u32 z (0+((XM E)*1)) fun X=>yg β L X (17:Int) (fun Y=>lt (QG .i64 ((p:Int)-(2:Int))) fun F=>chk (0≤F∧F<((64:Nat):Int)) (cI .u32 z (0+((XM F)*1)) fun Z=>yg β L Z (19:Int) (fun aa=>lt (zdR .u32 Y aa) fun ab=>lt (QG .i64 ((p:Int)-(2:Int))) fun G=>chk (0≤G∧G<((64:Nat):Int)) (cI .u32 z (0+((XM G)*1)) fun ac=>lt (zdB .u32 ac (10:Int)) fun ad=>lt (zdR .u32 ab ad) fun ae=>lt (QG .i64 ((p:Int)-(16:Int))) fun H=>chk (0≤H∧H<((64:Nat):Int)) (cI .u32 z (0+((XM H)*1)) fun af=>lt (QG .u32 ((af:Int)+W)) fun ag=>lt (QG .i64 ((p:Int)-(7:Int))) fun I=>chk (0≤I∧I<((64:Nat):Int)) (cI .u32 z (0+((XM I)*1)) fun ah=>lt (QG .u32 ((ag:Int)+ah)) fun ai=>lt (QG .u32 ((ai:Int)+ae)) fun aj=>chk (0≤p∧p<((64:Nat):Int)) (chk (1=1∧(0+((XM p)*1))+1≤(XK z)) (lt (zq z (0+((XM p)*1)) [(Qc aj)]) fun ak=>lt (QG .i64 ((p:Int)+(1:Int))) fun al=>A al N ak))))))))))))))) (J N z)
theorem zF1{β:Type}(yg:yT)(L:Nat)(A:Int)(p z:List V)(X:St→Ob β)(K:KT β):ze zaa (y9 yg L) 0 L zmw (zgX A p z) (yF zoa X K)=zei yg L A p z (fun A p z=>X (zgX A p z)) (fun p z=>K (.exit 4) (zqU p z)):=by kernel_rfl
def zgN{β:Type}(yg:yT)(L:Nat)(A:Int)(C D E:List V)(p:Int→List V→List V→List V→Ob β):Ob β:=lt (QG .i64 ((A:Int)+(1:Int))) fun z=>p z C D E
theorem zt4{β:Type}(yg:yT)(L:Nat)(p:Int)(z A C:List V)(X:St→Ob β)(K:KT β):(zg 2 (zg 1 (zu (ze zaa (y9 yg L) 0 L zrM) (yF zeM X K)))) (.exit 2) (zpX p z A C)=zgN yg L p z A C (fun p z A C=>X (zc6 p z A C)):=by kernel_rfl
def zlv{β:Type}(yg:yT)(L:Nat)(C A:List V)(p:List V→Ob β):Ob β:=chk (0+64≤(XK A)) (chk ((XK (XL 64 A))=64∧0+64≤(XK C)) (lt (zq C 0 (XL 64 A)) fun z=>chk (0=0∧(XK z)=64∧64≠0) (p z)))
theorem zDo{β:Type}(yg:yT)(L:Nat)(p z:List V)(k:KK β):(zg 4 (zu (ze zaa (y9 yg L) 0 L zzY) (yz 0 (CF.res cf_sha_schedule) k))) (.exit 4) (zqU p z)=zlv yg L p z (fun A=>k (V.agg A) []):=by kernel_rfl
def zaE{β:Type}(yg:yT)(L:Nat)(p:Int→List V→List V→List V→Ob β):Nat→Int→Int→Int→List V→List V→List V→Ob β
 | 0,_,_,_,_,_,_=>none
 | n+1,A,C,z,D,E,F=>zbi yg L A C z D E F (fun A C z D E F=>zaE yg L p n A C z D E F) p
theorem zk9{β:Type}(yg:yT)(L:Nat)(K:KT β):∀ (n:Nat) (E p D:Int) (z A C:List V),xw (ze zaa (y9 yg L) 0 L zho) zh4 n (zdz E p D z A C) K=zaE yg L (fun p z A C=>K (.exit 2) (zpX p z A C)) n E p D z A C:=by
 intro n; induction n <;> intros
 ·rfl
 ·exact (zwL ..).trans (by simp only [*]; rfl)
def zel{β:Type}(yg:yT)(L:Nat)(z:Int)(A C D:List V)(E:List V→List V→Ob β)(p:Int→List V→List V→List V→Ob β):Ob β:=zkf yg L z A C D (fun G z F A C D=>zaE yg L (fun z A C D=>zgN yg L z A C D p) L G z F A C D) E
theorem zFU{β:Type}(yg:yT)(L:Nat)(A:Int)(C p z:List V)(X:St→Ob β)(K:KT β):ze zaa (y9 yg L) 0 L ziR (zc6 A C p z) (yF zeM X K)=zel yg L A C p z (fun p z=>K (.exit 0) (zhX p z)) (fun A C p z=>X (zc6 A C p z)):=by
 refine (zI8 yg L A C p z X K).trans ?_
 unfold zel
 first
  | (simp only [zk9,zt4]; done)
  | (simp only [zk9]; rfl)
def zeL{β:Type}(yg:yT)(L:Nat)(p:List V→List V→Ob β):Nat→Int→List V→List V→List V→Ob β
 | 0,_,_,_,_=>none
 | n+1,z,A,C,D=>zel yg L z A C D p (fun z A C D=>zeL yg L p n z A C D)
theorem zsW{β:Type}(yg:yT)(L:Nat)(K:KT β):∀ (n:Nat) (A:Int) (C p z:List V),xw (ze zaa (y9 yg L) 0 L ziR) zeM n (zc6 A C p z) K=zeL yg L (fun p z=>K (.exit 0) (zhX p z)) n A C p z:=by
 intro n; induction n <;> intros
 ·rfl
 ·exact (zFU ..).trans (by simp only [*]; rfl)
def zeh{β:Type}(yg:yT)(L:Nat)(p:List V→List V→Ob β):Nat→Int→List V→List V→Ob β
 | 0,_,_,_=>none
 | n+1,z,A,C=>zei yg L z A C (fun z A C=>zeh yg L p n z A C) p
theorem zrH{β:Type}(yg:yT)(L:Nat)(K:KT β):∀ (n:Nat) (A:Int) (p z:List V),xw (ze zaa (y9 yg L) 0 L zmw) zoa n (zgX A p z) K=zeh yg L (fun p z=>K (.exit 4) (zqU p z)) n A p z:=by
 intro n; induction n <;> intros
 ·rfl
 ·exact (zF1 ..).trans (by simp only [*]; rfl)
def zhx{β:Type}(yg:yT)(L:Nat)(p z:List V)(A:List V→Ob β):Ob β:=zmP yg L p z (fun C p z=>zeh yg L (fun p z=>zlv yg L p z A) L C p z)
theorem zDg{β:Type}(yg:yT)(L:Nat)(p z:List V)(k:KK β):(zg 0 (zu (ze zaa (y9 yg L) 0 L zrZ) (yz 0 (CF.res cf_sha_schedule) k))) (.exit 0) (zhX p z)=zhx yg L p z (fun A=>k (V.agg A) []):=by
 refine (zED yg L p z k).trans ?_
 unfold zhx
 first
  | (simp only [zrH,zDo]; done)
  | (simp only [zrH]; rfl)
def zrr{β:Type}(yg:yT)(L:Nat)(C:List V)(p:List V→Ob β):Ob β:=zye yg L C (fun D E z A=>zeL yg L (fun z A=>zhx yg L z A p) L D E z A)
theorem zRB{β:Type}(yg:yT)(L:Nat)(p:List V)(k:KK β):yj zaa (y9 yg L) L cf_sha_schedule [(V.agg p)] [] k=zrr yg L p (fun p=>k (V.agg p) []):=by
 refine (zQT yg L p k).trans ?_
 unfold zrr
 first
  | (simp only [zsW,zDg]; done)
  | (simp only [zsW]; rfl)
abbrev zbL:=∀ (β:Type),Nat→List V→(List V→Ob β)→Ob β
def xG:zbL:=fun β=>@zrr β yg
def zx6(xG:zbL)(L:Nat):Dk:=dA AG fun p=>d0 fun β k=>xG β L p (fun p=>k (V.agg p) [])
theorem zRh(L:Nat):DK (zx6 xG L) (fun _=>yj zaa (y9 yg L) L cf_sha_schedule):=zF zap fun p=>zP fun _ k=>zRB yg L p k
def zCy:Hint:=⟨[],[],[none,some ((bl 34359754740 131),(bl 2722258935367507704976878695863201710071 131)),none,some ((bl 16340 131),(bl 2722258935367507704976878695863201710039 131)),none,none],[],[],false,false,[]⟩
def cf_sha_Compress:CF:=cfD zCy 156
def zlF:CC:=zE [1,1,1,1,0,1,0,0] cf_sha_Compress.body
def zx4:CC:=zE [1,1,1,1,1] cf_sha_Compress.body
def zds:Nat→Sh:=zl [(20,(.int .u32)),(22,(.int .u32)),(24,(.int .u32)),(26,(.int .u32)),(28,(.int .u32)),(30,(.int .u32)),(32,(.int .u32)),(34,(.int .u32)),(59,(.int .u32)),(63,(.int .u32)),(99,(.int .u32)),(103,(.int .u32)),(107,(.int .u32)),(111,(.int .u32)),(115,(.int .u32)),(119,(.int .u32)),(123,(.int .u32)),(127,(.int .u32))]
def zdp(xG:zbL)(yg:yT)(L:Nat):CBC:=(xg 535 (zDh yg L) (xg 534 (zx6 xG L) noC))
def zmx:St→St:=zQ 0 (bl 34359754740 131) (bl 2722258935367507704976878695863201710071 131)
def zgt(O P Q R H I J M N:Int)(S:List V)(p z A C D E F G:Int)(T:List V):St:=⟨(jn 2 ((V.ptr 2 0)::(jn 1 ((V.ptr 4 0)::((V.ptr 5 0)::((Qc O)::((Qc P)::((Qc Q)::((Qc R)::((Qc H)::((Qc I)::((Qc J)::((Qc M)::(jn 21 ((Qe N)::(jn 95 [])))))))))))))))),(gn 2 ((.live true S)::(gn 1 ((.live true [(Qc p),(Qc z),(Qc A),(Qc C),(Qc D),(Qc E),(Qc F),(Qc G)])::((.live true T)::(gn 125 []))))))⟩
def zqY(N O P Q H I J M:Int)(R:List V)(p z A C D E F G:Int):St:=⟨(jn 2 ((V.ptr 2 0)::(jn 1 ((V.ptr 4 0)::(jn 1 ((Qc N)::((Qc O)::((Qc P)::((Qc Q)::((Qc H)::((Qc I)::((Qc J)::((Qc M)::(jn 117 [])))))))))))))),(gn 2 ((.live true R)::(gn 1 ((.live true [(Qc p),(Qc z),(Qc A),(Qc C),(Qc D),(Qc E),(Qc F),(Qc G)])::(gn 126 [])))))⟩
abbrev zlq(β:Type):Type:=Int→Int→Int→Int→Int→Int→Int→Int→Int→List V→Int→Int→Int→Int→Int→Int→Int→Int→List V→Ob β
abbrev zna(β:Type):Type:=Int→Int→Int→Int→Int→Int→Int→Int→List V→Int→Int→Int→Int→Int→Int→Int→Int→Ob β
def zyq{β:Type}(xG:zbL)(yg:yT)(L:Nat)(p A:List V)(z:zlq β):Ob β:=chk (0+64≤(XK A)) (xG β L (XL 64 A) (fun C=>chk ((XK C)=64∧0+64≤64) (lt (zq (We 64 (Qc (0:Int))) 0 C) fun D=>cI .u32 p 0 fun E=>cI .u32 p 1 fun F=>cI .u32 p 2 fun G=>cI .u32 p 3 fun H=>cI .u32 p 4 fun I=>cI .u32 p 5 fun J=>cI .u32 p 6 fun M=>cI .u32 p 7 fun N=>z E F G H I J M N (0:Int) p (0:Int) (0:Int) (0:Int) (0:Int) (0:Int) (0:Int) (0:Int) (0:Int) D)))
theorem zQ8{β:Type}(xG:zbL)(yg:yT)(L:Nat)(H I:List V)(k:KK β):yj zds (zdp xG yg L) L cf_sha_Compress [(V.agg H),(V.agg I)] [] k=zyq xG yg L H I (fun Q R S T J M N O P U p z A C D E F G W=>xw (ze zds (zdp xG yg L) 0 L zlF) zmx L (zgt Q R S T J M N O P U p z A C D E F G W) (zg 0 (zu (ze zds (zdp xG yg L) 0 L zx4) (yz 0 (CF.res cf_sha_Compress) k)))):=by kernel_rfl
def zfo{β:Type}(xG:zbL)(yg:yT)(L:Nat)(C P Q U z D E R p:Int)(W:List V)(F G H I J M N O:Int)(X:List V)(A:zlq β)(T:zna β):Ob β:=ifb (decide (p<(64:Int))) (yg β L z (6:Int) (fun Y=>yg β L z (11:Int) (fun Z=>lt (zdR .u32 Y Z) fun aa=>yg β L z (25:Int) (fun ab=>lt (zdR .u32 aa ab) fun ac=>lt (QG .u32 ((R:Int)+ac)) fun ad=>lt (zhm .u32 z D) fun ae=>lt (z0Y .u32 z) fun af=>lt (zhm .u32 af E) fun ag=>lt (zdR .u32 ae ag) fun ah=>lt (QG .u32 ((ad:Int)+ah)) fun ai=>chk (0≤p∧p<((64:Nat):Int)) (cI .u32 (XO ((XM p)*1) gk_sha_k) 0 fun aj=>lt (QG .u32 ((ai:Int)+aj)) fun ak=>chk (0≤p∧p<((64:Nat):Int)) (cI .u32 X (0+((XM p)*1)) fun al=>lt (QG .u32 ((ak:Int)+al)) fun S=>yg β L C (2:Int) (fun am=>yg β L C (13:Int) (fun an=>lt (zdR .u32 am an) fun ao=>yg β L C (22:Int) (fun ap=>lt (zdR .u32 ao ap) fun aq=>lt (zhm .u32 C P) fun ar=>lt (zhm .u32 C Q) fun au=>lt (zdR .u32 ar au) fun av=>lt (zhm .u32 P Q) fun aw=>lt (zdR .u32 av aw) fun ax=>lt (QG .u32 ((aq:Int)+ax)) fun ay=>lt (QG .u32 ((S:Int)+ay)) fun az=>lt (QG .u32 ((U:Int)+S)) fun aC=>lt (QG .i64 ((p:Int)+(1:Int))) fun aD=>A az C P Q aC z D E aD W F G H I J M N O X))))))))) (T C P Q U z D E R W F G H I J M N O)
theorem zDC{β:Type}(xG:zbL)(yg:yT)(L:Nat)(O P Q R H I J M N:Int)(S:List V)(p z A C D E F G:Int)(T:List V)(X:St→Ob β)(K:KT β):ze zds (zdp xG yg L) 0 L zlF (zgt O P Q R H I J M N S p z A C D E F G T) (yF zmx X K)=zfo xG yg L O P Q R H I J M N S p z A C D E F G T (fun O P Q R H I J M N S p z A C D E F G T=>X (zgt O P Q R H I J M N S p z A C D E F G T)) (fun O P Q R H I J M S p z A C D E F G=>K (.exit 0) (zqY O P Q R H I J M S p z A C D E F G)):=by kernel_rfl
def zgT{β:Type}(xG:zbL)(yg:yT)(L:Nat)(Z p7 p8 p9 C D E F:Int)(p:List V)(ad ae af ag ah ai aj ak:Int)(z:List V→Ob β):Ob β:=cI .u32 p 0 fun G=>lt (QG .u32 ((G:Int)+Z)) fun H=>cI .u32 p 1 fun I=>lt (QG .u32 ((I:Int)+p7)) fun J=>cI .u32 p 2 fun M=>lt (QG .u32 ((M:Int)+p8)) fun N=>cI .u32 p 3 fun O=>lt (QG .u32 ((O:Int)+p9)) fun P=>cI .u32 p 4 fun Q=>lt (QG .u32 ((Q:Int)+C)) fun R=>cI .u32 p 5 fun S=>lt (QG .u32 ((S:Int)+D)) fun T=>cI .u32 p 6 fun U=>lt (QG .u32 ((U:Int)+E)) fun W=>cI .u32 p 7 fun X=>lt (QG .u32 ((X:Int)+F)) fun Y=>lt [(Qc H),(Qc J),(Qc N),(Qc P),(Qc R),(Qc T),(Qc W),(Qc Y)] fun A=>chk (0=0∧(XK A)=8∧8≠0) (z A)
theorem zAO{β:Type}(xG:zbL)(yg:yT)(L:Nat)(N O P Q H I J M:Int)(R:List V)(p z A C D E F G:Int)(k:KK β):(zg 0 (zu (ze zds (zdp xG yg L) 0 L zx4) (yz 0 (CF.res cf_sha_Compress) k))) (.exit 0) (zqY N O P Q H I J M R p z A C D E F G)=zgT xG yg L N O P Q H I J M R p z A C D E F G (fun S=>k (V.agg S) []):=by kernel_rfl
def zdI{β:Type}(xG:zbL)(yg:yT)(L:Nat)(H:zna β):Nat→Int→Int→Int→Int→Int→Int→Int→Int→Int→List V→Int→Int→Int→Int→Int→Int→Int→Int→List V→Ob β
 | 0,_,_,_,_,_,_,_,_,_,_,_,_,_,_,_,_,_,_,_=>none
 | n+1,P,Q,R,S,I,J,M,N,O,T,p,z,A,C,D,E,F,G,U=>zfo xG yg L P Q R S I J M N O T p z A C D E F G U (fun P Q R S I J M N O T p z A C D E F G U=>zdI xG yg L H n P Q R S I J M N O T p z A C D E F G U) H
theorem zqy{β:Type}(xG:zbL)(yg:yT)(L:Nat)(K:KT β):∀ (n:Nat) (N O P Q H I J M S:Int) (R:List V) (p z A C D E F G:Int) (T:List V),xw (ze zds (zdp xG yg L) 0 L zlF) zmx n (zgt N O P Q H I J M S R p z A C D E F G T) K=zdI xG yg L (fun N O P Q H I J M R p z A C D E F G=>K (.exit 0) (zqY N O P Q H I J M R p z A C D E F G)) n N O P Q H I J M S R p z A C D E F G T:=by
 intro n; induction n <;> intros
 ·rfl
 ·exact (zDC ..).trans (by simp only [*]; rfl)
def zri{β:Type}(xG:zbL)(yg:yT)(L:Nat)(U W:List V)(N:List V→Ob β):Ob β:=zyq xG yg L U W (fun O P Q R H I J M T S p z A C D E F G X=>zdI xG yg L (fun O P Q R H I J M S p z A C D E F G=>zgT xG yg L O P Q R H I J M S p z A C D E F G N) L O P Q R H I J M T S p z A C D E F G X)
theorem zRo{β:Type}(xG:zbL)(yg:yT)(L:Nat)(p z:List V)(k:KK β):yj zds (zdp xG yg L) L cf_sha_Compress [(V.agg p),(V.agg z)] [] k=zri xG yg L p z (fun p=>k (V.agg p) []):=by
 refine (zQ8 xG yg L p z k).trans ?_
 unfold zri
 first
  | (simp only [zqy,zAO]; done)
  | (simp only [zqy]; rfl)
abbrev zaj:=∀ (β:Type),Nat→List V→List V→(List V→Ob β)→Ob β
def xq:zaj:=fun β=>@zri β xG yg
def zx8(xq:zaj)(L:Nat):Dk:=dA AG fun p=>dA AG fun z=>d0 fun β k=>xq β L p z (fun p=>k (V.agg p) [])
theorem zRy(L:Nat):DK (zx8 xq L) (fun _=>yj zds (zdp xG yg L) L cf_sha_Compress):=zF zap fun p=>zF zap fun z=>zP fun _ k=>zRo xG yg L p z k
def zPd:Hint:=⟨[(1,7)],[],[none,some ((bl 786460 48),(bl 281474439839647 48)),none,some ((bl 20 48),(bl 281474439839647 48)),none,none,some ((bl 2147483732 48),(bl 281474976710527 48)),none,some ((bl 68 48),(bl 281474976710511 48)),none,none],[],[],false,false,[]⟩
def cf_sha_Sum:CF:=cfD zPd 104
def zqt:CC:=zE [1,1,1,1,1,0,1,0,0] cf_sha_Sum.body
def zup:CC:=zE [1,1,1,0,1,0,0] cf_sha_Sum.body
def zGt:CC:=zE [1,1,1,1,1,1] cf_sha_Sum.body
def zBc:CC:=zE [1,1,1,1] cf_sha_Sum.body
def zcL:Nat→Sh:=zl [(38,(.int .u32))]
def zcP(zG:zbG)(xE:zbJ)(xq:zaj)(L:Nat):CBC:=(xg 498 (zx8 xq L) (xg 496 (zP8 xE L) (xg 497 (zPh zG L) noC)))
def zwj:St→St:=zQ 0 (bl 786460 48) (bl 281474439839647 48)
def zsA:St→St:=zQ 0 (bl 2147483732 48) (bl 281474976710527 48)
def zk8(A:Ls)(p z:Int)(C D:List V):St:=⟨(jn 2 ((V.ptr 2 0)::((V.gs 1 A)::((V.ptr 4 0)::(jn 13 ((Qe p)::((Qe z)::(jn 28 [])))))))),(gn 2 ((.live true C)::(gn 1 ((.live true D)::(gn 43 [])))))⟩
def ztP(p z:List V):St:=⟨(jn 2 ((V.ptr 2 0)::(jn 1 ((V.ptr 4 0)::(jn 43 []))))),(gn 2 ((.live true p)::(gn 1 ((.live true z)::(gn 43 [])))))⟩
def zjr(p:Int)(z A C:List V):St:=⟨(jn 2 ((V.ptr 2 0)::(jn 1 ((V.ptr 4 0)::(jn 1 ((V.ptr 6 0)::(jn 24 ((Qe p)::(jn 16 []))))))))),(gn 2 ((.live true z)::(gn 1 ((.live true A)::(gn 1 ((.live true C)::(gn 41 [])))))))⟩
def zAC(p z:List V):St:=⟨(jn 2 ((V.ptr 2 0)::(jn 3 ((V.ptr 6 0)::(jn 41 []))))),(gn 2 ((.live true p)::(gn 3 ((.live true z)::(gn 41 [])))))⟩
def zOQ{β:Type}(zG:zbG)(xE:zbJ)(xq:zaj)(L:Nat)(z:Ls)(p:Ls→Int→Int→List V→List V→Ob β):Ob β:=lt (QG .u64 ((XK z:Nat):Int)) fun D=>zG β L D (fun E=>xE β L (xn 1 2 [(V.sl 1 z),(V.sl 1 E)]) (fun A=>chk ((XK (XL 8 gk_sha_initial))=8∧0+8≤8) (lt (zq [(Qc (0:Int)),(Qc (0:Int)),(Qc (0:Int)),(Qc (0:Int)),(Qc (0:Int)),(Qc (0:Int)),(Qc (0:Int)),(Qc (0:Int))] 0 (XL 8 gk_sha_initial)) fun F=>lt (QG .i64 (Int.tdiv ((XK A:Nat):Int) (64:Int))) fun G=>p A G (0:Int) (We 32 (Qa (0:Int))) F))) (fun H=>xE β L (xn 1 2 [(V.sl 1 z),(V.sl 1 H)]) (fun C=>chk ((XK (XL 8 gk_sha_initial))=8∧0+8≤8) (lt (zq [(Qc (0:Int)),(Qc (0:Int)),(Qc (0:Int)),(Qc (0:Int)),(Qc (0:Int)),(Qc (0:Int)),(Qc (0:Int)),(Qc (0:Int))] 0 (XL 8 gk_sha_initial)) fun I=>lt (QG .i64 (Int.tdiv ((XK C:Nat):Int) (64:Int))) fun J=>p C J (0:Int) (We 32 (Qa (0:Int))) I)))
theorem z0W{β:Type}(zG:zbG)(xE:zbJ)(xq:zaj)(L:Nat)(p:Ls)(k:KK β):yj zcL (zcP zG xE xq L) L cf_sha_Sum [(V.sl 1 p)] [] k=zOQ zG xE xq L p (fun C z A D E=>xw (ze zcL (zcP zG xE xq L) 0 L zup) zwj L (zk8 C z A D E) (zg 0 (zu (ze zcL (zcP zG xE xq L) 0 L zBc) (yz 0 (CF.res cf_sha_Sum) k)))):=by kernel_rfl
def zkI{β:Type}(zG:zbG)(xE:zbJ)(xq:zaj)(L:Nat)(z:Ls)(E C:Int)(H D:List V)(p:Ls→Int→Int→List V→List V→Ob β)(G:List V→List V→Ob β):Ob β:=ifb (decide (C<E)) (chk (0+8≤(XK D)) (lt (QG .i64 (((64:Int):Int)*C)) fun A=>chk (0≤A∧A≤(((XK z):Nat):Int)) (chk (64≤(XK (XL ((XK z)-(XM A)) (XO (XM A) z)))) (xq β L (XL 8 D) (XL 64 (XN (XL 64 (XL ((XK z)-(XM A)) (XO (XM A) z))))) (fun F=>chk ((XK F)=8∧0+8≤(XK D)) (lt (zq D 0 F) fun I=>lt (QG .i64 ((C:Int)+(1:Int))) fun J=>p z E J H I)))))) (G H D)
theorem zO7{β:Type}(zG:zbG)(xE:zbJ)(xq:zaj)(L:Nat)(D:Ls)(p z:Int)(A C:List V)(X:St→Ob β)(K:KT β):ze zcL (zcP zG xE xq L) 0 L zup (zk8 D p z A C) (yF zwj X K)=zkI zG xE xq L D p z A C (fun D p z A C=>X (zk8 D p z A C)) (fun A C=>K (.exit 0) (ztP A C)):=by kernel_rfl
def zsK{β:Type}(zG:zbG)(xE:zbJ)(xq:zaj)(L:Nat)(z A:List V)(p:Int→List V→List V→List V→Ob β):Ob β:=p (0:Int) z A (We 32 (Qa (0:Int)))
theorem zMl{β:Type}(zG:zbG)(xE:zbJ)(xq:zaj)(L:Nat)(p z:List V)(k:KK β):(zg 0 (zu (ze zcL (zcP zG xE xq L) 0 L zBc) (yz 0 (CF.res cf_sha_Sum) k))) (.exit 0) (ztP p z)=zsK zG xE xq L p z (fun A p z C=>xw (ze zcL (zcP zG xE xq L) 0 L zqt) zsA L (zjr A p z C) (zg 2 (zu (ze zcL (zcP zG xE xq L) 0 L zGt) (yz 0 (CF.res cf_sha_Sum) k)))):=by kernel_rfl
def ziC{β:Type}(zG:zbG)(xE:zbJ)(xq:zaj)(L:Nat)(p:Int)(F G D:List V)(z:Int→List V→List V→List V→Ob β)(E:List V→List V→Ob β):Ob β:=ifb (decide (p<(32:Int))) (lt (QG .i64 (Int.tdiv p (4:Int))) fun A=>chk (0≤A∧A<((8:Nat):Int)) (cI .u32 G (0+((XM A)*1)) fun H=>lt (Int.tmod p (4:Int)) fun I=>lt (QG .i64 ((I:Int)*(8:Int))) fun J=>lt (QG .i64 (((24:Int):Int)-J)) fun C=>chk (0≤C) (lt (zdB .u32 H C) fun M=>lt (QG .u8 M) fun N=>chk (0≤p∧p<((32:Nat):Int)) (chk (1=1∧(0+((XM p)*1))+1≤(XK D)) (lt (zq D (0+((XM p)*1)) [(Qa N)]) fun O=>lt (QG .i64 ((p:Int)+(1:Int))) fun P=>z P F G O))))) (E F D)
theorem zL8{β:Type}(zG:zbG)(xE:zbJ)(xq:zaj)(L:Nat)(p:Int)(z C A:List V)(X:St→Ob β)(K:KT β):ze zcL (zcP zG xE xq L) 0 L zqt (zjr p z C A) (yF zsA X K)=ziC zG xE xq L p z C A (fun p z C A=>X (zjr p z C A)) (fun z A=>K (.exit 2) (zAC z A)):=by kernel_rfl
def zo0{β:Type}(zG:zbG)(xE:zbJ)(xq:zaj)(L:Nat)(C A:List V)(p:List V→Ob β):Ob β:=chk (0+32≤(XK A)) (chk ((XK (XL 32 A))=32∧0+32≤(XK C)) (lt (zq C 0 (XL 32 A)) fun z=>chk (0=0∧(XK z)=32∧32≠0) (p z)))
theorem zIh{β:Type}(zG:zbG)(xE:zbJ)(xq:zaj)(L:Nat)(p z:List V)(k:KK β):(zg 2 (zu (ze zcL (zcP zG xE xq L) 0 L zGt) (yz 0 (CF.res cf_sha_Sum) k))) (.exit 2) (zAC p z)=zo0 zG xE xq L p z (fun A=>k (V.agg A) []):=by kernel_rfl
def zii{β:Type}(zG:zbG)(xE:zbJ)(xq:zaj)(L:Nat)(p:List V→List V→Ob β):Nat→Ls→Int→Int→List V→List V→Ob β
 | 0,_,_,_,_,_=>none
 | n+1,C,z,A,D,E=>zkI zG xE xq L C z A D E (fun C z A D E=>zii zG xE xq L p n C z A D E) p
theorem zzu{β:Type}(zG:zbG)(xE:zbJ)(xq:zaj)(L:Nat)(K:KT β):∀ (n:Nat) (D:Ls) (A C:Int) (p z:List V),xw (ze zcL (zcP zG xE xq L) 0 L zup) zwj n (zk8 D A C p z) K=zii zG xE xq L (fun p z=>K (.exit 0) (ztP p z)) n D A C p z:=by
 intro n; induction n <;> intros
 ·rfl
 ·exact (zO7 ..).trans (by simp only [*]; rfl)
def zgx{β:Type}(zG:zbG)(xE:zbJ)(xq:zaj)(L:Nat)(p:List V→List V→Ob β):Nat→Int→List V→List V→List V→Ob β
 | 0,_,_,_,_=>none
 | n+1,z,A,C,D=>ziC zG xE xq L z A C D (fun z A C D=>zgx zG xE xq L p n z A C D) p
theorem zw3{β:Type}(zG:zbG)(xE:zbJ)(xq:zaj)(L:Nat)(K:KT β):∀ (n:Nat) (A:Int) (p C z:List V),xw (ze zcL (zcP zG xE xq L) 0 L zqt) zsA n (zjr A p C z) K=zgx zG xE xq L (fun p z=>K (.exit 2) (zAC p z)) n A p C z:=by
 intro n; induction n <;> intros
 ·rfl
 ·exact (zL8 ..).trans (by simp only [*]; rfl)
def zkB{β:Type}(zG:zbG)(xE:zbJ)(xq:zaj)(L:Nat)(p A:List V)(z:List V→Ob β):Ob β:=zsK zG xE xq L p A (fun D p A C=>zgx zG xE xq L (fun p C=>zo0 zG xE xq L p C z) L D p A C)
theorem zJ8{β:Type}(zG:zbG)(xE:zbJ)(xq:zaj)(L:Nat)(p z:List V)(k:KK β):(zg 0 (zu (ze zcL (zcP zG xE xq L) 0 L zBc) (yz 0 (CF.res cf_sha_Sum) k))) (.exit 0) (ztP p z)=zkB zG xE xq L p z (fun A=>k (V.agg A) []):=by
 refine (zMl zG xE xq L p z k).trans ?_
 unfold zkB
 first
  | (simp only [zw3,zIh]; done)
  | (simp only [zw3]; rfl)
def zHR{β:Type}(zG:zbG)(xE:zbJ)(xq:zaj)(L:Nat)(E:Ls)(p:List V→Ob β):Ob β:=zOQ zG xE xq L E (fun F C D z A=>zii zG xE xq L (fun z A=>zkB zG xE xq L z A p) L F C D z A)
theorem z0L{β:Type}(zG:zbG)(xE:zbJ)(xq:zaj)(L:Nat)(p:Ls)(k:KK β):yj zcL (zcP zG xE xq L) L cf_sha_Sum [(V.sl 1 p)] [] k=zHR zG xE xq L p (fun p=>k (V.agg p) []):=by
 refine (z0W zG xE xq L p k).trans ?_
 unfold zHR
 first
  | (simp only [zzu,zJ8]; done)
  | (simp only [zzu]; rfl)
abbrev zm4:=∀ (β:Type),Nat→Ls→(List V→Ob β)→Ob β
def zaq:zm4:=fun β=>@zHR β zG xE xq
def zzM(zaq:zm4)(L:Nat):Dk:=dA (AL 1) fun p=>d0 fun β k=>zaq β L p (fun p=>k (V.agg p) [])
theorem z1J(L:Nat):DK (zzM zaq L) (fun _=>yj zcL (zcP zG xE xq L) L cf_sha_Sum):=zF zcd fun p=>zP fun _ k=>z0L zG xE xq L p k
def zGH:Hint:=⟨[],[],[none],[],[],false,false,[]⟩
def zM2:CF:=cfD zGH 63
def zBh:Nat→Sh:=zl []
def zBg(zaq:zm4)(L:Nat):CBC:=(xg 458 (zzM zaq L) noC)
def zEB{β:Type}(zaq:zm4)(L:Nat)(G:Ls)(p:List V→Ob β):Ob β:=zaq β L G (fun A=>chk ((XK A)=32∧0+32≤32) (lt (zq (We 32 (Qa (0:Int))) 0 A) fun z=>chk (0+32*1≤(XK z)) (ifb (List.isEmpty z) (zaq β L (xn 1 32 z) (fun C=>chk ((XK C)=32∧0+32≤32) (lt (zq (We 32 (Qa (0:Int))) 0 C) fun D=>chk (0=0∧(XK D)=32∧32≠0) (p D)))) (zaq β L (xn 1 32 z) (fun E=>chk ((XK E)=32∧0+32≤32) (lt (zq (We 32 (Qa (0:Int))) 0 E) fun F=>chk (0=0∧(XK F)=32∧32≠0) (p F)))))))
theorem zV4{β:Type}(zaq:zm4)(L:Nat)(p:Ls)(k:KK β):yj zBh (zBg zaq L) L zM2 [(V.sl 1 p)] [] k=zEB zaq L p (fun p=>k (V.agg p) []):=by kernel_rfl
abbrev zqh:=∀ (β:Type),Nat→Ls→(List V→Ob β)→Ob β
def zaU:zqh:=fun β=>@zEB β zaq
def zxc(zaU:zqh)(L:Nat):Dk:=dA (AL 1) fun p=>d0 fun β k=>zaU β L p (fun p=>k (V.agg p) [])
theorem zT2(L:Nat):DK (zxc zaU L) (fun _=>yj zBh (zBg zaq L) L zM2):=zF zcd fun p=>zP fun _ k=>zV4 zaq L p k
def zLi:Hint:=⟨[(0,0),(1,3),(1,4)],[],[none,none,none],[],[],false,false,[]⟩
def zFv:CF:=cfD zLi 81
def zEv:Nat→Sh:=zl []
def zE6(xD:zbr)(zaU:zqh)(L:Nat):CBC:=(xg 501 (zxc zaU L) (xg 128 (zsV xD L) noC))
def zI2{β:Type}(xD:zbr)(zaU:zqh)(L:Nat)(z:List V)(E:Bool)(p:List V→Ob β):Ob β:=chk (0+4≤(XK z)) (xD β L (Xv V.dem (XL 4 z)) E (fun F G=>ifb ((G:Int) != (0:Int)) (lt (We 32 (Qa (0:Int))) fun A=>chk (0=0∧(XK A)=32∧32≠0) (p A)) (zaU β L F (fun C=>chk ((XK C)=32∧0+32≤32) (lt (zq (We 32 (Qa (0:Int))) 0 C) fun D=>chk (0=0∧(XK D)=32∧32≠0) (p D))))))
theorem zWq{β:Type}(xD:zbr)(zaU:zqh)(L:Nat)(p:List V)(z:Bool)(k:KK β):yj zEv (zE6 xD zaU L) L zFv [(V.agg p),(V.sc (.bool z))] [] k=zI2 xD zaU L p z (fun p=>k (V.agg p) []):=by kernel_rfl
abbrev zjz:=∀ (β:Type),Nat→List V→Bool→(List V→Ob β)→Ob β
def zag:zjz:=fun β=>@zI2 β xD zaU
def zzp(zag:zjz)(L:Nat):Dk:=dA AG fun p=>dA AB fun z=>d0 fun β k=>zag β L p z (fun p=>k (V.agg p) [])
theorem zWA(L:Nat):DK (zzp zag L) (fun _=>yj zEv (zE6 xD zaU L) L zFv):=zF zap fun p=>zF zVU fun z=>zP fun _ k=>zWq xD zaU L p z k
def zVT:Hint:=⟨[(0,0)],[],[none],[],[],false,false,[]⟩
def zTL:CF:=cfD zVT 85
def zTO:Nat→Sh:=zl []
def zTf(zag:zjz)(L:Nat):CBC:=(xg 583 (zzp zag L) noC)
def zW2{β:Type}(zag:zjz)(L:Nat)(z:List V)(p:List V→Ob β):Ob β:=chk (0+4≤(XK z)) (zag β L (Xv V.dem (XL 4 z)) false (fun A=>chk ((XK A)=32∧0+32≤32) (lt (zq (We 32 (Qa (0:Int))) 0 A) fun C=>chk (0=0∧(XK C)=32∧32≠0) (p C))))
theorem z3k{β:Type}(zag:zjz)(L:Nat)(p:List V)(k:KK β):yj zTO (zTf zag L) L zTL [(V.agg p)] [] k=zW2 zag L p (fun p=>k (V.agg p) []):=by kernel_rfl
abbrev xV:=∀ (β:Type),Nat→List V→(List V→Ob β)→Ob β
def xk:xV:=fun β=>@zW2 β zag
def zXv(xk:xV)(L:Nat):Dk:=dA AG fun p=>d0 fun β k=>xk β L p (fun p=>k (V.agg p) [])
theorem z4i(L:Nat):DK (zXv xk L) (fun _=>yj zTO (zTf zag L) L zTL):=zF zap fun p=>zP fun _ k=>z3k zag L p k
end
end
end Go.Proofs.YtgmhijonllockaaGreatDoor
