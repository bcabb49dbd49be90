/- Part 14 of the proof of ScanRewinds: an abstract machine over plain values, its soundness, and the functions of the program on plain values. -/
import Derived.Test.YtipklgbboecciaaGreatMScanRewinds13
namespace Go.Proofs.YtipklgbboecciaaGreat
set_option maxRecDepth 100000
set_option linter.unusedVariables false
set_option linter.unusedSimpArgs false
open List renaming take->WcL,length->WcK,drop->WcN,replicate->Wad,map->WbO,flatten->WcO,getElem?_append_right->Wal,append_assoc->WcH,length_cons->WcW,take_of_length_le->WbR,map_append->WcU,mem_cons->WbL,mem_map->WbX
open Int renaming toNat->WcM
open IntKind renaming wrap->Wbf,u8->WcX
section
noncomputable section
variable {Y:Type}
def CG:CF:=cfD Ab 150
def uM:Nat->Sh:=f9 []
def uP(L:Nat):CBC:=noC
def ED(L:Nat)(C:Int)(z:Bool->Ob Y):Ob Y:=z ((C:Int) != C)
theorem Ld(L:Nat)(z:Int)(k:KK Y):dx uM (uP L) L CG [(QQc z)] [] k=ED L z (λz=>k (V.sc (.bool z)) []):=by kernel_rfl
abbrev oT:=∀ (Y:Type),Nat->Int->(Bool->Ob Y)->Ob Y
def fy:oT:=λY=>@ED Y
def vE(fy:oT)(L:Nat):Dk:=dA (AI .u32) λz=>d0 λY k=>fy Y L z (λz=>k (V.sc (.bool z)) [])
theorem KP(L:Nat):DK (vE fy L) (λ_=>dx uM (uP L) L CG):=dy gX λz=>fS λ_ k=>Ld L z k
def Ae:CF:=cfD xt 127
def sY:Nat->Sh:=f9 []
def sI(fy:oT)(L:Nat):CBC:=(eL 190 (vE fy L) noC)
def tT(fy:oT)(L:Nat)(C D:Int)(z:Int->Ob Y):Ob Y:=fy Y L C (λF=>fy Y L D (λE=>ifb F (ifb E (z (0:Int)) (z (-1:Int))) (ifb E (z (1:Int)) (ifb (decide (C<D)) (z (-1:Int)) (ifb (decide (C>D)) (z (1:Int)) (z (0:Int)))))))
theorem Ih(fy:oT)(L:Nat)(z C:Int)(k:KK Y):dx sY (sI fy L) L Ae [(QQc z),(QQc C)] [] k=tT fy L z C (λz=>k (QQe z) []):=by kernel_rfl
abbrev nD:=∀ (Y:Type),Nat->Int->Int->(Int->Ob Y)->Ob Y
def eX:nD:=λY=>@tT Y fy
def t9(eX:nD)(L:Nat):Dk:=dA (AI .u32) λz=>dA (AI .u32) λC=>d0 λY k=>eX Y L z C (λz=>k (QQe z) [])
theorem Ik(L:Nat):DK (t9 eX L) (λ_=>dx sY (sI fy L) L Ae):=dy gX λz=>dy gX λC=>fS λ_ k=>Ih fy L z C k
def cf_cmp_Or_int:CF:=cfD IB 125
def vx:CC:=eT [1,1,0,1,0,0] cf_cmp_Or_int.body
def B0:CC:=eT [1,1,1] cf_cmp_Or_int.body
def lz:Nat->Sh:=f9 [(11,(.int .i64))]
def lG(L:Nat):CBC:=noC
def yb:St->St:=f4 0 (bl 456 18) (bl 262107 18)
def pF(z:Int)(C:Ls)(D E:Int):St:=⟨(jn 3 ((QQe z)::(jn 2 ((V.sl 1 C)::((QQe D)::((QQe E)::(jn 9 []))))))),(gn 18 [])⟩
def yh(z:Int):St:=⟨(jn 2 ((QQe z)::(jn 15 []))),(gn 18 [])⟩
def zg(z:Int):St:=⟨(jn 3 ((QQe z)::(jn 14 []))),(gn 18 [])⟩
def OS(L:Nat)(C:Ls)(z:Int->Ls->Int->Int->Ob Y):Ob Y:=z (0:Int) C ((WcK C:Nat):Int) (0:Int)
theorem Vb(L:Nat)(z:Ls)(k:KK Y):dx lz (lG L) L cf_cmp_Or_int [(V.sl 1 z)] [] k=OS L z (λC D E F=>dW (cz lz (lG L) 0 L vx) yb L (pF C D E F) (dk 0 (dN (cz lz (lG L) 0 L B0) (dX 0 (CF.res cf_cmp_Or_int) k)))):=by kernel_rfl
def FW(L:Nat)(D:Int)(H:Ls)(I E:Int)(C:Int->Ob Y)(z:Int->Ls->Int->Int->Ob Y)(F:Int->Ob Y):Ob Y:=ifb (decide (E<I)) (idx H E λM=>cI .i64 M 0 λJ=>ifb ((J:Int) != D) (C J) (lt (Wbf .i64 ((E:Int)+(1:Int))) λN=>z D H I N)) (F D)
theorem Mj(L:Nat)(z:Int)(C:Ls)(D E:Int)(X:St->Ob Y)(K:KT Y):cz lz (lG L) 0 L vx (pF z C D E) (fR yb X K)=FW L z C D E (λF=>K .ret (yh F)) (λz C D E=>X (pF z C D E)) (λz=>K (.exit 0) (zg z)):=by kernel_rfl
def B3(L:Nat)(C:Int)(z:Int->Ob Y):Ob Y:=z C
theorem Ib(L:Nat)(z:Int)(k:KK Y):(dk 0 (dN (cz lz (lG L) 0 L B0) (dX 0 (CF.res cf_cmp_Or_int) k))) .ret (yh z)=B3 L z (λC=>k (QQe C) []):=by kernel_rfl
def CL(L:Nat)(C:Int)(z:Int->Ob Y):Ob Y:=z C
theorem Jm(L:Nat)(z:Int)(k:KK Y):(dk 0 (dN (cz lz (lG L) 0 L B0) (dX 0 (CF.res cf_cmp_Or_int) k))) (.exit 0) (zg z)=CL L z (λC=>k (QQe C) []):=by kernel_rfl
def yk(L:Nat)(z:Int->Ob Y)(C:Int->Ob Y):Nat->Int->Ls->Int->Int->Ob Y
 | 0,_,_,_,_=>none
 | n+1,D,E,F,H=>FW L D E F H z (λD E F H=>yk L z C n D E F H) C
theorem Bm(L:Nat)(K:KT Y):∀ (n:Nat) (z:Int) (C:Ls) (D E:Int),dW (cz lz (lG L) 0 L vx) yb n (pF z C D E) K=yk L (λF=>K .ret (yh F)) (λz=>K (.exit 0) (zg z)) n z C D E:=by
 intro n; induction n <;> intros
 ·rfl
 ·exact (Mj ..).trans (by simp only [*]; rfl)
def HG(L:Nat)(D:Ls)(z:Int->Ob Y):Ob Y:=OS L D (λC E F H=>yk L (λI=>B3 L I z) (λC=>CL L C z) L C E F H)
theorem T3(L:Nat)(z:Ls)(k:KK Y):dx lz (lG L) L cf_cmp_Or_int [(V.sl 1 z)] [] k=HG L z (λz=>k (QQe z) []):=by
 refine (Vb L z k).trans ?_
 unfold HG
 first
  | (simp only [Bm,Ib,Jm]; done)
  | (simp only [Bm]; rfl)
abbrev wl:=∀ (Y:Type),Nat->Ls->(Int->Ob Y)->Ob Y
def iu:wl:=λY=>@HG Y
def H8(iu:wl)(L:Nat):Dk:=dA (AL 1) λz=>d0 λY k=>iu Y L z (λz=>k (QQe z) [])
theorem Vs(L:Nat):DK (H8 iu L) (λ_=>dx lz (lG L) L cf_cmp_Or_int):=dy ji λz=>fS λ_ k=>T3 L z k
def MS:CF:=cfD IE 90
def Fg:Nat->Sh:=f9 [(11,(.int .u32)),(13,(.int .u32))]
def EV(gk:qX)(eX:nD)(iu:wl)(L:Nat):CBC:=(eL 154 (H8 iu L) (eL 156 (t9 eX L) (eL 155 (Ck gk L) noC)))
def G7(gk:qX)(eX:nD)(iu:wl)(L:Nat)(I F:List V)(z:Int->Ob Y):Ob Y:=lc I (lc F (none) (λP Q=>none)) (λh0 C=>lc F (chk (0+32*1<=(WcK (h0::C))) (none)) (λD E=>chk (0+32*1<=(WcK (h0::C))) (chk (0+32*1<=(WcK (D::E))) (gk Y L (bY 1 32 (h0::C)) (bY 1 32 (D::E)) (λJ=>cI .u32 (h0::C) 32 λM=>cI .u32 (D::E) 32 λN=>eX Y L M N (λO=>iu Y L (bY 1 2 [(QQe J),(QQe O)]) (λH=>z H)))))))
theorem T1(gk:qX)(eX:nD)(iu:wl)(L:Nat)(z C:List V)(k:KK Y):dx Fg (EV gk eX iu L) L MS [(V.agg z),(V.agg C)] [] k=G7 gk eX iu L z C (λz=>k (QQe z) []):=by kernel_rfl
abbrev wi:=∀ (Y:Type),Nat->List V->List V->(Int->Ob Y)->Ob Y
def iq:wi:=λY=>@G7 Y gk eX iu
def Hg(iq:wi)(L:Nat):Dk:=dA AG λz=>dA AG λC=>d0 λY k=>iq Y L z C (λz=>k (QQe z) [])
theorem Tw(L:Nat):DK (Hg iq L) (λ_=>dx Fg (EV gk eX iu L) L MS):=dy fT λz=>dy fT λC=>fS λ_ k=>T1 gk eX iu L z C k
def GR:CF:=cfD Er 58
def zP:Nat->Sh:=f9 [(22,(.int .i64)),(25,(.int .i64)),(29,(.int .i64)),(34,(.int .i64)),(37,(.int .i64))]
def z4(iq:wi)(L:Nat):CBC:=(eL 135 (Hg iq L) noC)
def AW(iq:wi)(L:Nat)(C D:List V)(z:Bool->Ob Y):Ob Y:=chk (0+33<=(WcK C)) (chk (0+33<=(WcK D)) (eqC 33 (WcL 33 C) (WcL 33 D) λE=>ifb (!E) (chk (0+33<=(WcK C)) (chk (0+33<=(WcK D)) (iq Y L (WcL 33 C) (WcL 33 D) (λF=>z (decide (F<(0:Int))))))) (cI .i64 C 35 λH=>cI .i64 D 35 λI=>ifb (decide (H<I)) (cI .i64 C 37 λJ=>ifb ((J:Int) != (0:Int)) (cI .i64 C 37 λM=>cI .i64 D 35 λN=>z (decide (M<=N))) (z false)) (z false))))
theorem N5(iq:wi)(L:Nat)(z C:List V)(k:KK Y):dx zP (z4 iq L) L GR [(V.agg z),(V.agg C)] [] k=AW iq L z C (λz=>k (V.sc (.bool z)) []):=by kernel_rfl
abbrev gU:=∀ (Y:Type),Nat->List V->List V->(Bool->Ob Y)->Ob Y
def dq:gU:=λY=>@AW Y iq
def B9(dq:gU)(L:Nat):Dk:=dA AG λz=>dA AG λC=>d0 λY k=>dq Y L z C (λz=>k (V.sc (.bool z)) [])
theorem Nv(L:Nat):DK (B9 dq L) (λ_=>dx zP (z4 iq L) L GR):=dy fT λz=>dy fT λC=>fS λ_ k=>N5 iq L z C k
def cf_coins_Sound:CF:=cfD HE 31
def uL:CC:=eT [1,1,0,1,0,0] cf_coins_Sound.body
def zG:CC:=eT [1,1,1] cf_coins_Sound.body
def ku:Nat->Sh:=f9 [(7,(.int .i64)),(11,(.int .i64)),(16,(.sl 38)),(21,(.sl 38)),(33,(.int .i64)),(38,(.int .i64)),(44,(.sl 1)),(49,(.int .i64)),(53,(.int .i64)),(55,(.int .i64)),(60,(.int .i64)),(64,(.int .i64)),(66,(.int .i64)),(70,(.int .i64)),(72,(.int .i64)),(81,(.sl 38))]
def kE(dq:gU)(L:Nat):CBC:=(eL 587 (B9 dq L) noC)
def wq:St->St:=f4 0 (bl 14680066 91) (bl 2321062015507953603003285443 91)
def oZ(z:Ls)(C D:Int)(E:List V):St:=⟨(jn 1 ((V.ptr 1 0)::(jn 19 ((V.sl 38 z)::((QQe C)::((QQe D)::(jn 67 []))))))),(gn 1 ((.live true E)::(gn 89 [])))⟩
def wG(z:Bool):St:=⟨(jn 2 ((V.sc (.bool z))::(jn 88 []))),(gn 91 [])⟩
def xz:St:=⟨(jn 91 []),(gn 91 [])⟩
def Fo(dq:gU)(L:Nat)(D:List V)(z:Bool->Ob Y)(C:Ls->Int->Int->List V->Ob Y):Ob Y:=cI .i64 D 0 λF=>ifb (decide (F<(0:Int))) (z false) (cI .i64 D 0 λH=>ifb (decide (H>(16777216:Int))) (z false) (cLd 38 D 33 λI=>ifb (decide (((WcK I:Nat):Int)>(4096:Int))) (z false) (cLd 38 D 33 λE=>C E ((WcK E:Nat):Int) (0:Int) D)))
theorem Sx(dq:gU)(L:Nat)(z:List V)(k:KK Y):dx ku (kE dq L) L cf_coins_Sound [(V.agg z)] [] k=Fo dq L z (λz=>k (V.sc (.bool z)) []) (λC D E F=>dW (cz ku (kE dq L) 0 L uL) wq L (oZ C D E F) (dk 0 (dN (cz ku (kE dq L) 0 L zG) (dX 0 (CF.res cf_coins_Sound) k)))):=by kernel_rfl
def ru(dq:gU)(L:Nat)(F:Ls)(H D:Int)(I:List V)(z:Bool->Ob Y)(C:Ls->Int->Int->List V->Ob Y)(M:Ob Y):Ob Y:=ifb (decide (D<H)) (idx F D λN=>chk ((WcK (WcL 38 N))=38/\0+38<=38) (lt (cq (Wad 32 (QQa (0:Int))++[(QQc (0:Int)),(QQe (0:Int)),(V.gs 1 ([]:Ls)),(QQe (0:Int)),(V.sc (.bool false)),(QQe (0:Int))]) 0 (WcL 38 N)) λE=>chk (0+37<=(WcK E)) (chk ((WcK (WcL 37 E))=37/\0+37<=37) (lt (cq (Wad 32 (QQa (0:Int))++[(QQc (0:Int)),(QQe (0:Int)),(V.gs 1 ([]:Ls)),(QQe (0:Int)),(V.sc (.bool false))]) 0 (WcL 37 E)) λJ=>cI .i64 J 33 λv7=>ifb (decide (v7<(0:Int))) (z false) (cI .i64 J 33 λv8=>ifb (decide (v8>(2100000000000000:Int))) (z false) (cLd 1 J 34 λv9=>ifb (decide (((WcK v9:Nat):Int)>(520:Int))) (z false) (cI .i64 J 35 λO=>ifb (decide (O<(1:Int))) (z false) (cI .i64 J 35 λP=>cI .i64 I 0 λQ=>ifb (decide (P>Q)) (z false) (cI .i64 E 37 λR=>ifb ((R:Int) != (0:Int)) (cI .i64 E 37 λS=>cI .i64 J 35 λT=>ifb (decide (S<T)) (z false) (cI .i64 E 37 λU=>cI .i64 I 0 λd4=>ifb (decide (U>d4)) (z false) (ifb (decide (D>(0:Int))) (cLd 38 I 33 λX=>lt (Wbf .i64 ((D:Int)-(1:Int))) λb9=>idx X b9 λc9=>chk (0+38<=(WcK E)) (dq Y L (WbO V.ag (WcL 38 c9)) (WbO V.ag (WcL 38 E)) (λaa=>ifb (!aa) (z false) (lt (Wbf .i64 ((D:Int)+(1:Int))) λab=>C F H ab I)))) (lt (Wbf .i64 ((D:Int)+(1:Int))) λac=>C F H ac I)))) (ifb (decide (D>(0:Int))) (cLd 38 I 33 λad=>lt (Wbf .i64 ((D:Int)-(1:Int))) λao=>idx ad ao λap=>chk (0+38<=(WcK E)) (dq Y L (WbO V.ag (WcL 38 ap)) (WbO V.ag (WcL 38 E)) (λaq=>ifb (!aq) (z false) (lt (Wbf .i64 ((D:Int)+(1:Int))) λar=>C F H ar I)))) (lt (Wbf .i64 ((D:Int)+(1:Int))) λau=>C F H au I))))))))))) (M)
theorem Ku(dq:gU)(L:Nat)(z:Ls)(C D:Int)(E:List V)(X:St->Ob Y)(K:KT Y):cz ku (kE dq L) 0 L uL (oZ z C D E) (fR wq X K)=ru dq L z C D E (λF=>K .ret (wG F)) (λz C D E=>X (oZ z C D E)) (K (.exit 0) (xz)):=by kernel_rfl
def Af(dq:gU)(L:Nat)(C:Bool)(z:Bool->Ob Y):Ob Y:=z C
theorem GJ(dq:gU)(L:Nat)(z:Bool)(k:KK Y):(dk 0 (dN (cz ku (kE dq L) 0 L zG) (dX 0 (CF.res cf_coins_Sound) k))) .ret (wG z)=Af dq L z (λC=>k (V.sc (.bool C)) []):=by kernel_rfl
def B2(dq:gU)(L:Nat)(z:Bool->Ob Y):Ob Y:=z true
theorem Ie(dq:gU)(L:Nat)(k:KK Y):(dk 0 (dN (cz ku (kE dq L) 0 L zG) (dX 0 (CF.res cf_coins_Sound) k))) (.exit 0) (xz)=B2 dq L (λz=>k (V.sc (.bool z)) []):=by kernel_rfl
def mU(dq:gU)(L:Nat)(z:Bool->Ob Y)(C:Ob Y):Nat->Ls->Int->Int->List V->Ob Y
 | 0,_,_,_,_=>none
 | n+1,D,E,F,H=>ru dq L D E F H z (λD E F H=>mU dq L z C n D E F H) C
theorem Al(dq:gU)(L:Nat)(K:KT Y):∀ (n:Nat) (z:Ls) (C D:Int) (E:List V),dW (cz ku (kE dq L) 0 L uL) wq n (oZ z C D E) K=mU dq L (λF=>K .ret (wG F)) (K (.exit 0) (xz)) n z C D E:=by
 intro n; induction n <;> intros
 ·rfl
 ·exact (Ku ..).trans (by simp only [*]; rfl)
def yZ(dq:gU)(L:Nat)(F:List V)(z:Bool->Ob Y):Ob Y:=Fo dq L F z (λC D E H=>mU dq L (λI=>Af dq L I z) (B2 dq L z) L C D E H)
theorem SC(dq:gU)(L:Nat)(z:List V)(k:KK Y):dx ku (kE dq L) L cf_coins_Sound [(V.agg z)] [] k=yZ dq L z (λz=>k (V.sc (.bool z)) []):=by
 refine (Sx dq L z k).trans ?_
 unfold yZ
 first
  | (simp only [Al,GJ,Ie]; done)
  | (simp only [Al]; rfl)
abbrev f0:=∀ (Y:Type),Nat->List V->(Bool->Ob Y)->Ob Y
def cX:f0:=λY=>@yZ Y dq
def ET(cX:f0)(L:Nat):Dk:=dA AG λz=>d0 λY k=>cX Y L z (λz=>k (V.sc (.bool z)) [])
theorem SZ(L:Nat):DK (ET cX L) (λ_=>dx ku (kE dq L) L cf_coins_Sound):=dy fT λz=>fS λ_ k=>SC dq L z k
def cf_scan_Sound:CF:=cfD IZ 11
def ml:CC:=eT [1,1,1,0,1,0,0] cf_scan_Sound.body
def qg:CC:=eT [1,1,1,1] cf_scan_Sound.body
def iI:Nat->Sh:=f9 [(12,(.sl 3)),(20,(.sl 38)),(26,(.sl 38)),(37,(.sl 1)),(39,(.int .i64)),(45,(.sl 3)),(51,(.int .i64)),(53,(.int .i64)),(58,(.int .i64)),(60,(.int .i64)),(65,(.int .i64)),(67,(.int .i64))]
def iG(de:fZ)(cX:f0)(L:Nat):CBC:=(eL 551 (ET cX L) (eL 830 (E9 de L) noC))
def mX:St->St:=f4 0 (bl 469762058 71) (bl 2361183238136287722555 71)
def s7(z:Ls)(C D:Int)(E:List V):St:=⟨(jn 1 ((V.ptr 1 0)::(jn 1 ((V.sc (.map none))::(jn 22 ((V.sl 38 z)::((QQe C)::((QQe D)::(jn 42 []))))))))),(gn 1 ((.live true E)::(gn 69 [])))⟩
def nQ(z:Ls)(C D:Int)(F:List V)(E:Lm):St:=⟨(jn 1 ((V.ptr 1 0)::(jn 1 ((V.mp 11)::(jn 22 ((V.sl 38 z)::((QQe C)::((QQe D)::(jn 42 []))))))))),(gn 1 ((.live true F)::(gn 9 ((.mp E)::(gn 59 [])))))⟩
def zz:St:=⟨(jn 71 []),(gn 71 [])⟩
def xX(C:Bool)(z:Lm):St:=⟨(jn 2 ((V.sc (.bool C))::(jn 68 []))),(gn 11 ((.mp z)::(gn 59 [])))⟩
def wm(z:Lm):St:=⟨(jn 71 []),(gn 11 ((.mp z)::(gn 59 [])))⟩
def HN(de:fZ)(cX:f0)(L:Nat)(E:List V)(z:Bool->Ob Y)(D:Ls->Int->Int->List V->Ob Y)(C:Ls->Int->Int->List V->Lm->Ob Y):Ob Y:=cLd 3 E 0 λI=>de Y L I (λJ=>ifb (!J) (z false) (cLd 38 E 1 λM=>cX Y L ([(QQe (16777216:Int))]++Wad 32 (QQa (0:Int))++[(V.sl 38 M)]) (λN=>ifb (!N) (z false) (cLd 38 E 1 λF=>D F ((WcK F:Nat):Int) (0:Int) E)))) (λO P=>ifb (!O) (z false) (cLd 38 E 1 λQ=>cX Y L ([(QQe (16777216:Int))]++Wad 32 (QQa (0:Int))++[(V.sl 38 Q)]) (λR=>ifb (!R) (z false) (cLd 38 E 1 λH=>C H ((WcK H:Nat):Int) (0:Int) E P))))
theorem VW(de:fZ)(cX:f0)(L:Nat)(E:List V)(k:KK Y):dx iI (iG de cX L) L cf_scan_Sound [(V.agg E)] [] k=HN de cX L E (λE=>k (V.sc (.bool E)) []) (λz C D F=>dW (cz iI (iG de cX L) 0 L ml) mX L (s7 z C D F) (dk 0 (dN (cz iI (iG de cX L) 0 L qg) (dX 0 (CF.res cf_scan_Sound) k)))) (λz C D F H=>dW (cz iI (iG de cX L) 0 L ml) mX L (nQ z C D F H) (dk 0 (dN (cz iI (iG de cX L) 0 L qg) (dX 0 (CF.res cf_scan_Sound) k)))):=by kernel_rfl
def EK(de:fZ)(cX:f0)(L:Nat)(E:Ls)(F z:Int)(M:List V)(D:Ob Y):Ob Y:=ifb (decide (z<F)) (idx E z λC=>chk ((WcK (WcL 38 C))=38/\0+38<=38) (lt (cq (Wad 32 (QQa (0:Int))++[(QQc (0:Int)),(QQe (0:Int)),(V.gs 1 ([]:Ls)),(QQe (0:Int)),(V.sc (.bool false)),(QQe (0:Int))]) 0 (WcL 38 C)) λH=>cLd 1 H 34 λI=>yp I λJ=>none)) (D)
theorem Kp(de:fZ)(cX:f0)(L:Nat)(z:Ls)(C D:Int)(E:List V)(X:St->Ob Y)(K:KT Y):cz iI (iG de cX L) 0 L ml (s7 z C D E) (fR mX X K)=EK de cX L z C D E (K (.exit 0) (zz)):=by kernel_rfl
def pw(de:fZ)(cX:f0)(L:Nat)(J:Ls)(M F:Int)(Q:List V)(C:Lm)(z:Bool->Lm->Ob Y)(D:Ls->Int->Int->List V->Lm->Ob Y)(H:Lm->Ob Y):Ob Y:=ifb (decide (F<M)) (idx J F λN=>chk ((WcK (WcL 38 N))=38/\0+38<=38) (lt (cq (Wad 32 (QQa (0:Int))++[(QQc (0:Int)),(QQe (0:Int)),(V.gs 1 ([]:Ls)),(QQe (0:Int)),(V.sc (.bool false)),(QQe (0:Int))]) 0 (WcL 38 N)) λE=>cLd 1 E 34 λR=>yp R λS=>mAt 1 (V.sc (.string S)) C λO=>aI .i64 (Option.getD O (QQe (0:Int))) λT=>ifb (!(Option.isSome O)) (z false C) (cLd 3 Q 0 λU=>idx U T λP=>chk ((WcK (WcL 3 P))=3/\0+3<=3) (lt (cq [(V.gs 1 ([]:Ls)),(QQe (0:Int)),(QQe (0:Int))] 0 (WcL 3 P)) λI=>cI .i64 E 35 λd4=>cI .i64 I 1 λX=>ifb (decide (d4<X)) (z false C) (cI .i64 E 35 λb9=>cI .i64 I 2 λc9=>ifb (decide (b9>c9)) (z false C) (cI .i64 E 37 λaa=>cI .i64 I 2 λab=>ifb (decide (aa>ab)) (z false C) (lt (Wbf .i64 ((F:Int)+(1:Int))) λac=>D J M ac Q C))))))) (H C)
theorem Im(de:fZ)(cX:f0)(L:Nat)(C:Ls)(D E:Int)(F:List V)(z:Lm)(X:St->Ob Y)(K:KT Y):cz iI (iG de cX L) 0 L ml (nQ C D E F z) (fR mX X K)=pw de cX L C D E F z (λH z=>K .ret (xX H z)) (λC D E F z=>X (nQ C D E F z)) (λz=>K (.exit 0) (wm z)):=by kernel_rfl
def Cq(de:fZ)(cX:f0)(L:Nat)(z:Bool->Ob Y):Ob Y:=z true
theorem It(de:fZ)(cX:f0)(L:Nat)(k:KK Y):(dk 0 (dN (cz iI (iG de cX L) 0 L qg) (dX 0 (CF.res cf_scan_Sound) k))) (.exit 0) (zz)=Cq de cX L (λz=>k (V.sc (.bool z)) []):=by kernel_rfl
def xq(de:fZ)(cX:f0)(L:Nat)(C:Bool)(D:Lm)(z:Bool->Ob Y):Ob Y:=z C
theorem FA(de:fZ)(cX:f0)(L:Nat)(C:Bool)(z:Lm)(k:KK Y):(dk 0 (dN (cz iI (iG de cX L) 0 L qg) (dX 0 (CF.res cf_scan_Sound) k))) .ret (xX C z)=xq de cX L C z (λD=>k (V.sc (.bool D)) []):=by kernel_rfl
def wh(de:fZ)(cX:f0)(L:Nat)(C:Lm)(z:Bool->Ob Y):Ob Y:=z true
theorem Eh(de:fZ)(cX:f0)(L:Nat)(z:Lm)(k:KK Y):(dk 0 (dN (cz iI (iG de cX L) 0 L qg) (dX 0 (CF.res cf_scan_Sound) k))) (.exit 0) (wm z)=wh de cX L z (λC=>k (V.sc (.bool C)) []):=by kernel_rfl
def Em(de:fZ)(cX:f0)(L:Nat)(z:Ob Y):Nat->Ls->Int->Int->List V->Ob Y
 | 0,_,_,_,_=>none
 | n+1,C,D,E,F=>EK de cX L C D E F z
theorem z9(de:fZ)(cX:f0)(L:Nat)(K:KT Y):∀ (n:Nat) (z:Ls) (C D:Int) (E:List V),dW (cz iI (iG de cX L) 0 L ml) mX n (s7 z C D E) K=Em de cX L (K (.exit 0) (zz)) n z C D E:=by
 intro n; induction n <;> intros
 ·rfl
 ·exact (Kp ..).trans (by rfl)
def lK(de:fZ)(cX:f0)(L:Nat)(C:Bool->Lm->Ob Y)(z:Lm->Ob Y):Nat->Ls->Int->Int->List V->Lm->Ob Y
 | 0,_,_,_,_,_=>none
 | n+1,D,E,F,I,H=>pw de cX L D E F I H C (λD E F I H=>lK de cX L C z n D E F I H) z
theorem xp(de:fZ)(cX:f0)(L:Nat)(K:KT Y):∀ (n:Nat) (C:Ls) (D E:Int) (F:List V) (z:Lm),dW (cz iI (iG de cX L) 0 L ml) mX n (nQ C D E F z) K=lK de cX L (λH z=>K .ret (xX H z)) (λz=>K (.exit 0) (wm z)) n C D E F z:=by
 intro n; induction n <;> intros
 ·rfl
 ·exact (Im ..).trans (by simp only [*]; rfl)
def Bu(de:fZ)(cX:f0)(L:Nat)(I:List V)(z:Bool->Ob Y):Ob Y:=HN de cX L I z (λD E F H=>Em de cX L (Cq de cX L z) L D E F H) (λD E F H C=>lK de cX L (λJ C=>xq de cX L J C z) (λC=>wh de cX L C z) L D E F H C)
theorem Vj(de:fZ)(cX:f0)(L:Nat)(z:List V)(k:KK Y):dx iI (iG de cX L) L cf_scan_Sound [(V.agg z)] [] k=Bu de cX L z (λz=>k (V.sc (.bool z)) []):=by
 refine (VW de cX L z k).trans ?_
 unfold Bu
 first
  | (simp only [z9,It,xp,FA,Eh]; done)
  | (simp only [z9,xp]; rfl)
abbrev gA:=∀ (Y:Type),Nat->List V->(Bool->Ob Y)->Ob Y
def cZ:gA:=λY=>@Bu Y de cX
def GZ(cZ:gA)(L:Nat):Dk:=dA AG λz=>d0 λY k=>cZ Y L z (λz=>k (V.sc (.bool z)) [])
theorem V7(L:Nat):DK (GZ cZ L) (λ_=>dx iI (iG de cX L) L cf_scan_Sound):=dy fT λz=>fS λ_ k=>Vj de cX L z k
def pg:CF:=cfD oR 62
def lU:Nat->Sh:=f9 []
def lX(L:Nat):CBC:=noC
def mt(L:Nat)(D:Ls)(z:Ls->Ob Y):Ob Y:=lc D (z ([]:Ls)) (λh0 C=>chk ((0+WcK (h0::C))*40<=cN/\0+WcK (h0::C)<=cN) (chk ((WcK (h0::C))≠0∨(WcK (WcO (h0::C)))=0) (z (bY 3 (WcK (h0::C)) (WcO (h0::C))))))
theorem vN(L:Nat)(z:Ls)(k:KK Y):dx lU (lX L) L pg [(V.sl 3 z)] [] k=mt L z (λz=>k (V.fr 3 z) []):=by kernel_rfl
abbrev dt:=∀ (Y:Type),Nat->Ls->(Ls->Ob Y)->Ob Y
def bO:dt:=λY=>@mt Y
def mC(bO:dt)(L:Nat):Dk:=dA (AL 3) λz=>d0 λY k=>bO Y L z (λz=>k (V.fr 3 z) [])
theorem vF(L:Nat):DK (mC bO L) (λ_=>dx lU (lX L) L pg):=dy ji λz=>fS λ_ k=>vN L z k
def oM:CF:=cfD nY 63
def lk:Nat->Sh:=f9 []
def lj(L:Nat):CBC:=noC
def lN(L:Nat)(D:Ls)(z:Ls->Ob Y):Ob Y:=lc D (z ([]:Ls)) (λh0 C=>chk ((0+WcK (h0::C))*96<=cN/\0+WcK (h0::C)<=cN) (chk ((WcK (h0::C))≠0∨(WcK (WcO (h0::C)))=0) (z (bY 38 (WcK (h0::C)) (WcO (h0::C))))))
theorem uJ(L:Nat)(z:Ls)(k:KK Y):dx lk (lj L) L oM [(V.sl 38 z)] [] k=lN L z (λz=>k (V.fr 38 z) []):=by kernel_rfl
abbrev dn:=∀ (Y:Type),Nat->Ls->(Ls->Ob Y)->Ob Y
def bN:dn:=λY=>@lN Y
def lM(bN:dn)(L:Nat):Dk:=dA (AL 38) λz=>d0 λY k=>bN Y L z (λz=>k (V.fr 38 z) [])
theorem uX(L:Nat):DK (lM bN L) (λ_=>dx lk (lj L) L oM):=dy ji λz=>fS λ_ k=>uJ L z k
def cf_scan_clone:CF:=cfD I8 39
def u9:CC:=eT [1,1,1,0,1,0,0] cf_scan_clone.body
def wQ:CC:=eT [1,1,0,1,0,0] cf_scan_clone.body
def HH:CC:=eT [1,1,1,1] cf_scan_clone.body
def Ce:CC:=eT [1,1,1] cf_scan_clone.body
def iD:Nat->Sh:=f9 [(1,(.row [(.sl 3),(.sl 38)])),(22,(.row [(.sl 1),(.int .i64),(.int .i64)])),(39,(.row [(.int .u8),(.int .u8),(.int .u8),(.int .u8),(.int .u8),(.int .u8),(.int .u8),(.int .u8),(.int .u8),(.int .u8),(.int .u8),(.int .u8),(.int .u8),(.int .u8),(.int .u8),(.int .u8),(.int .u8),(.int .u8),(.int .u8),(.int .u8),(.int .u8),(.int .u8),(.int .u8),(.int .u8),(.int .u8),(.int .u8),(.int .u8),(.int .u8),(.int .u8),(.int .u8),(.int .u8),(.int .u8),(.int .u32),(.int .i64),(.sl 1),(.int .i64),.bool,(.int .i64)]))]
def iH(bO:dt)(bN:dn)(cU:fY)(L:Nat):CBC:=(eL 584 (FE cU L) (eL 576 (lM bN L) (eL 843 (mC bO L) noC)))
def ym:St->St:=f4 0 (bl 458758 54) (bl 18014398241046439 54)
def wJ:St->St:=f4 0 (bl 60129542150 54) (bl 17873661021126543 54)
def pC(D:Nat)(H I:Int)(z C:Nat)(E F:Ls)(M J:List V):St:=⟨(jn 1 ((V.ptr 1 0)::((V.ptr 2 0)::(jn 13 ((V.own 9 0 D 3)::((QQe H)::((QQe I)::(jn 35 [])))))))),(gn 1 ((.live false [(V.own 9 0 z 3),(V.own 12 0 C 38)])::((.live false [(V.gs 3 E),(V.gs 38 F)])::(gn 6 ((.live true M)::(gn 2 ((.live true J)::(gn 41 []))))))))⟩
def tJ(z C:Nat)(D E:Ls)(H F:List V):St:=⟨(jn 1 ((V.ptr 1 0)::((V.ptr 2 0)::(jn 51 [])))),(gn 1 ((.live false [(V.own 9 0 z 3),(V.own 12 0 C 38)])::((.live false [(V.gs 3 D),(V.gs 38 E)])::(gn 6 ((.live true H)::(gn 2 ((.live true F)::(gn 41 []))))))))⟩
def oX(D:Nat)(H I:Int)(z C:Nat)(E F:Ls)(M J:List V):St:=⟨(jn 1 ((V.ptr 1 0)::((V.ptr 2 0)::(jn 30 ((V.own 12 0 D 38)::((QQe H)::((QQe I)::(jn 18 [])))))))),(gn 1 ((.live false [(V.own 9 0 z 3),(V.own 12 0 C 38)])::((.live false [(V.gs 3 E),(V.gs 38 F)])::(gn 6 ((.live true M)::(gn 2 ((.live true J)::(gn 41 []))))))))⟩
def zk(z C:Nat)(D E:Ls)(H F:List V):St:=⟨(jn 1 ((V.ptr 1 0)::((V.ptr 2 0)::(jn 51 [])))),(gn 1 ((.live false [(V.own 9 0 z 3),(V.own 12 0 C 38)])::((.live false [(V.gs 3 D),(V.gs 38 E)])::(gn 6 ((.live true H)::(gn 2 ((.live true F)::(gn 41 []))))))))⟩
abbrev Ev(Y:Type):Type:=Nat->Int->Int->Nat->Nat->Ls->Ls->List V->List V->Ob Y
abbrev Du(Y:Type):Type:=Nat->Nat->Ls->Ls->List V->List V->Ob Y
abbrev CS(Y:Type):Type:=Nat->Int->Int->Nat->Nat->Ls->Ls->List V->List V->Ob Y
abbrev DD(Y:Type):Type:=Nat->Nat->Ls->Ls->List V->List V->Ob Y
def GN(bO:dt)(bN:dn)(cU:fY)(L:Nat)(D:List V)(z:Ev Y):Ob Y:=chk (WcK D=2) (cL 3 D 0 λF=>cL 38 D 1 λH=>bO Y L F (λC=>bN Y L H (λE=>z (WcK C) (((WcK C):Nat):Int) (0:Int) (WcK C) (WcK E) ([]:Ls) ([]:Ls) (WcO C) (WcO E))))
theorem UM(bO:dt)(bN:dn)(cU:fY)(L:Nat)(H:List V)(k:KK Y):dx iD (iH bO bN cU L) L cf_scan_clone [(V.agg H)] [] k=GN bO bN cU L H (λD I J z C E F N M=>dW (cz iD (iH bO bN cU L) 0 L wQ) ym L (pC D I J z C E F N M) (dk 0 (dN (cz iD (iH bO bN cU L) 0 L Ce) (dX 0 (CF.res cf_scan_clone) k)))):=by kernel_rfl
def sC(bO:dt)(bN:dn)(cU:fY)(L:Nat)(H:Nat)(M z:Int)(C F:Nat)(I J:Ls)(D N:List V)(E:Ev Y)(O:Du Y):Ob Y:=ifb (decide (z<M)) (chk (0<=z/\z<((H:Nat):Int)) (chk ((0+((WcM z)*3))+3<=(WcK D)) (chk (WcK (WcL 3 (WcN (0+((WcM z)*3)) D))=3) (cL 1 (WcL 3 (WcN (0+((WcM z)*3)) D)) 0 λP=>cI .i64 (WcL 3 (WcN (0+((WcM z)*3)) D)) 1 λT=>cI .i64 (WcL 3 (WcN (0+((WcM z)*3)) D)) 2 λU=>cU Y L P (λQ=>chk (0<=z/\z<((C:Nat):Int)) (chk (1=1/\((0+((WcM z)*3))+0)+1<=(WcK D)) (lt (cq D ((0+((WcM z)*3))+0) [(V.sl 1 Q)]) λR=>lt (Wbf .i64 ((z:Int)+(1:Int))) λS=>E H M S C F I J R N))))))) (O C F I J D N)
theorem LX(bO:dt)(bN:dn)(cU:fY)(L:Nat)(H:Nat)(I J:Int)(z C:Nat)(D E:Ls)(M F:List V)(X:St->Ob Y)(K:KT Y):cz iD (iH bO bN cU L) 0 L wQ (pC H I J z C D E M F) (fR ym X K)=sC bO bN cU L H I J z C D E M F (λH I J z C D E M F=>X (pC H I J z C D E M F)) (λz C D E M F=>K (.exit 0) (tJ z C D E M F)):=by kernel_rfl
def uK(bO:dt)(bN:dn)(cU:fY)(L:Nat)(D z:Nat)(E F:Ls)(I H:List V)(C:CS Y):Ob Y:=C z ((z:Nat):Int) (0:Int) D z E F I H
theorem JT(bO:dt)(bN:dn)(cU:fY)(L:Nat)(z C:Nat)(D E:Ls)(H F:List V)(k:KK Y):(dk 0 (dN (cz iD (iH bO bN cU L) 0 L Ce) (dX 0 (CF.res cf_scan_clone) k))) (.exit 0) (tJ z C D E H F)=uK bO bN cU L z C D E H F (λI J M z C D E H F=>dW (cz iD (iH bO bN cU L) 0 L u9) wJ L (oX I J M z C D E H F) (dk 2 (dN (cz iD (iH bO bN cU L) 0 L HH) (dX 0 (CF.res cf_scan_clone) k)))):=by kernel_rfl
def q9(bO:dt)(bN:dn)(cU:fY)(L:Nat)(H:Nat)(M z:Int)(F D:Nat)(I J:Ls)(O C:List V)(E:CS Y)(N:DD Y):Ob Y:=ifb (decide (z<M)) (chk (0<=z/\z<((H:Nat):Int)) (chk ((0+((WcM z)*38))+38<=(WcK C)) (chk (WcK (WcL 38 (WcN (0+((WcM z)*38)) C))=38) (cI .u8 (WcL 38 (WcN (0+((WcM z)*38)) C)) 0 λT=>cI .u8 (WcL 38 (WcN (0+((WcM z)*38)) C)) 1 λU=>cI .u8 (WcL 38 (WcN (0+((WcM z)*38)) C)) 2 λd4=>cI .u8 (WcL 38 (WcN (0+((WcM z)*38)) C)) 3 λX=>cI .u8 (WcL 38 (WcN (0+((WcM z)*38)) C)) 4 λb9=>cI .u8 (WcL 38 (WcN (0+((WcM z)*38)) C)) 5 λc9=>cI .u8 (WcL 38 (WcN (0+((WcM z)*38)) C)) 6 λaa=>cI .u8 (WcL 38 (WcN (0+((WcM z)*38)) C)) 7 λab=>cI .u8 (WcL 38 (WcN (0+((WcM z)*38)) C)) 8 λac=>cI .u8 (WcL 38 (WcN (0+((WcM z)*38)) C)) 9 λad=>cI .u8 (WcL 38 (WcN (0+((WcM z)*38)) C)) 10 λag=>cI .u8 (WcL 38 (WcN (0+((WcM z)*38)) C)) 11 λao=>cI .u8 (WcL 38 (WcN (0+((WcM z)*38)) C)) 12 λap=>cI .u8 (WcL 38 (WcN (0+((WcM z)*38)) C)) 13 λaq=>cI .u8 (WcL 38 (WcN (0+((WcM z)*38)) C)) 14 λar=>cI .u8 (WcL 38 (WcN (0+((WcM z)*38)) C)) 15 λau=>cI .u8 (WcL 38 (WcN (0+((WcM z)*38)) C)) 16 λav=>cI .u8 (WcL 38 (WcN (0+((WcM z)*38)) C)) 17 λaw=>cI .u8 (WcL 38 (WcN (0+((WcM z)*38)) C)) 18 λaA=>cI .u8 (WcL 38 (WcN (0+((WcM z)*38)) C)) 19 λaK=>cI .u8 (WcL 38 (WcN (0+((WcM z)*38)) C)) 20 λaN=>cI .u8 (WcL 38 (WcN (0+((WcM z)*38)) C)) 21 λaV=>cI .u8 (WcL 38 (WcN (0+((WcM z)*38)) C)) 22 λaZ=>cI .u8 (WcL 38 (WcN (0+((WcM z)*38)) C)) 23 λa0=>cI .u8 (WcL 38 (WcN (0+((WcM z)*38)) C)) 24 λa1=>cI .u8 (WcL 38 (WcN (0+((WcM z)*38)) C)) 25 λa2=>cI .u8 (WcL 38 (WcN (0+((WcM z)*38)) C)) 26 λa3=>cI .u8 (WcL 38 (WcN (0+((WcM z)*38)) C)) 27 λa4=>cI .u8 (WcL 38 (WcN (0+((WcM z)*38)) C)) 28 λa5=>cI .u8 (WcL 38 (WcN (0+((WcM z)*38)) C)) 29 λa6=>cI .u8 (WcL 38 (WcN (0+((WcM z)*38)) C)) 30 λa7=>cI .u8 (WcL 38 (WcN (0+((WcM z)*38)) C)) 31 λba=>cI .u32 (WcL 38 (WcN (0+((WcM z)*38)) C)) 32 λbb=>cI .i64 (WcL 38 (WcN (0+((WcM z)*38)) C)) 33 λbc=>cL 1 (WcL 38 (WcN (0+((WcM z)*38)) C)) 34 λP=>cI .i64 (WcL 38 (WcN (0+((WcM z)*38)) C)) 35 λbe=>cB (WcL 38 (WcN (0+((WcM z)*38)) C)) 36 λbf=>cI .i64 (WcL 38 (WcN (0+((WcM z)*38)) C)) 37 λbg=>cU Y L P (λQ=>chk (0<=z/\z<((D:Nat):Int)) (chk (1=1/\((((0+((WcM z)*38))+0)+33)+1)+1<=(WcK C)) (lt (cq C ((((0+((WcM z)*38))+0)+33)+1) [(V.sl 1 Q)]) λR=>lt (Wbf .i64 ((z:Int)+(1:Int))) λS=>E H M S F D I J O R))))))) (N F D I J O C)
theorem KC(bO:dt)(bN:dn)(cU:fY)(L:Nat)(H:Nat)(I J:Int)(z C:Nat)(D E:Ls)(M F:List V)(X:St->Ob Y)(K:KT Y):cz iD (iH bO bN cU L) 0 L u9 (oX H I J z C D E M F) (fR wJ X K)=q9 bO bN cU L H I J z C D E M F (λH I J z C D E M F=>X (oX H I J z C D E M F)) (λz C D E M F=>K (.exit 2) (zk z C D E M F)):=by kernel_rfl
def Bs(bO:dt)(bN:dn)(cU:fY)(L:Nat)(z C:Nat)(F H:Ls)(I E:List V)(D:Nat->Nat->List V->List V->Ob Y):Ob Y:=D z C I E
theorem Ig(bO:dt)(bN:dn)(cU:fY)(L:Nat)(z C:Nat)(D E:Ls)(J I:List V)(k:KK Y):(dk 2 (dN (cz iD (iH bO bN cU L) 0 L HH) (dX 0 (CF.res cf_scan_clone) k))) (.exit 2) (zk z C D E J I)=Bs bO bN cU L z C D E J I (λF H M N=>k (V.st [(V.own 0 0 F 3),(V.own 1 0 H 38)]) [(.live true M),(.live true N)]):=by kernel_rfl
def nE(bO:dt)(bN:dn)(cU:fY)(L:Nat)(H:Du Y):Nat->Nat->Int->Int->Nat->Nat->Ls->Ls->List V->List V->Ob Y
 | 0,_,_,_,_,_,_,_,_,_=>none
 | n+1,D,I,J,z,C,E,F,N,M=>sC bO bN cU L D I J z C E F N M (λD I J z C E F N M=>nE bO bN cU L H n D I J z C E F N M) H
theorem Bc(bO:dt)(bN:dn)(cU:fY)(L:Nat)(K:KT Y):∀ (n:Nat) (H:Nat) (J M:Int) (z C:Nat) (D E:Ls) (I F:List V),dW (cz iD (iH bO bN cU L) 0 L wQ) ym n (pC H J M z C D E I F) K=nE bO bN cU L (λz C D E I F=>K (.exit 0) (tJ z C D E I F)) n H J M z C D E I F:=by
 intro n; induction n <;> intros
 ·rfl
 ·exact (LX ..).trans (by simp only [*]; rfl)
def mS(bO:dt)(bN:dn)(cU:fY)(L:Nat)(H:DD Y):Nat->Nat->Int->Int->Nat->Nat->Ls->Ls->List V->List V->Ob Y
 | 0,_,_,_,_,_,_,_,_,_=>none
 | n+1,D,I,J,z,C,E,F,N,M=>q9 bO bN cU L D I J z C E F N M (λD I J z C E F N M=>mS bO bN cU L H n D I J z C E F N M) H
theorem As(bO:dt)(bN:dn)(cU:fY)(L:Nat)(K:KT Y):∀ (n:Nat) (H:Nat) (J M:Int) (z C:Nat) (D E:Ls) (I F:List V),dW (cz iD (iH bO bN cU L) 0 L u9) wJ n (oX H J M z C D E I F) K=mS bO bN cU L (λz C D E I F=>K (.exit 2) (zk z C D E I F)) n H J M z C D E I F:=by
 intro n; induction n <;> intros
 ·rfl
 ·exact (KC ..).trans (by simp only [*]; rfl)
def pt(bO:dt)(bN:dn)(cU:fY)(L:Nat)(z C:Nat)(D E:Ls)(H F:List V)(I:Nat->Nat->List V->List V->Ob Y):Ob Y:=uK bO bN cU L z C D E H F (λJ M N z C D E H F=>mS bO bN cU L (λz C D E H F=>Bs bO bN cU L z C D E H F I) L J M N z C D E H F)
theorem In(bO:dt)(bN:dn)(cU:fY)(L:Nat)(z C:Nat)(D E:Ls)(J F:List V)(k:KK Y):(dk 0 (dN (cz iD (iH bO bN cU L) 0 L Ce) (dX 0 (CF.res cf_scan_clone) k))) (.exit 0) (tJ z C D E J F)=pt bO bN cU L z C D E J F (λH I M N=>k (V.st [(V.own 0 0 H 3),(V.own 1 0 I 38)]) [(.live true M),(.live true N)]):=by
 refine (JT bO bN cU L z C D E J F k).trans ?_
 unfold pt
 first
  | (simp only [As,Ig]; done)
  | (simp only [As]; rfl)
def Cg(bO:dt)(bN:dn)(cU:fY)(L:Nat)(O:List V)(H:Nat->Nat->List V->List V->Ob Y):Ob Y:=GN bO bN cU L O (λI M N z C D E J F=>nE bO bN cU L (λz C D E J F=>pt bO bN cU L z C D E J F H) L I M N z C D E J F)
theorem T9(bO:dt)(bN:dn)(cU:fY)(L:Nat)(D:List V)(k:KK Y):dx iD (iH bO bN cU L) L cf_scan_clone [(V.agg D)] [] k=Cg bO bN cU L D (λz C E F=>k (V.st [(V.own 0 0 z 3),(V.own 1 0 C 38)]) [(.live true E),(.live true F)]):=by
 refine (UM bO bN cU L D k).trans ?_
 unfold Cg
 first
  | (simp only [Bc,In]; done)
  | (simp only [Bc]; rfl)
abbrev gC:=∀ (Y:Type),Nat->List V->(Nat->Nat->List V->List V->Ob Y)->Ob Y
def dc:gC:=λY=>@Cg Y bO bN cU
def HF(dc:gC)(L:Nat):Dk:=dA AG λD=>d0 λY k=>dc Y L D (λz C E F=>k (V.st [(V.own 0 0 z 3),(V.own 1 0 C 38)]) [(.live true E),(.live true F)])
theorem VK(L:Nat):DK (HF dc L) (λ_=>dx iD (iH bO bN cU L) L cf_scan_clone):=dy fT λz=>fS λ_ k=>T9 bO bN cU L z k
def G3:CF:=cfD Ek 49
def zX:Nat->Sh:=f9 [(6,(.int .i64))]
def zh(L:Nat):CBC:=noC
def Bf(L:Nat)(D:List V)(z:Int)(C:Bool->Int->Ob Y):Ob Y:=cI .i64 D 35 λE=>C (decide (E>z)) z
theorem Oh(L:Nat)(C:List V)(z:Int)(k:KK Y):dx zX (zh L) L G3 [(V.agg C),(V.ptr 0 0)] [(.live true [(QQe z)])] k=Bf L C z (λC z=>k (V.sc (.bool C)) [(.live true [(QQe z)])]):=by kernel_rfl
abbrev eK:=∀ (Y:Type),Nat->List V->Int->(Bool->Int->Ob Y)->Ob Y
def ch:eK:=λY=>@Bf Y
def qN(ch:eK)(L:Nat)(Y:Type)(args:List V)(bor:Bor)(k:KK Y):Ob Y:=match args,bor with
 | [a0,a1],[(.live true [w0_0])]=>aG a0 λC=>aP 0 0 a1 (aI .i64 w0_0 λz=>ch Y L C z (λC z=>k (V.sc (.bool C)) [(.live true [(QQe z)])]))
 | _,_=>none
theorem Pj(L:Nat)(Y:Type)(args:List V)(bor:Bor)(k:KK Y)(r:Y)(h:qN ch L Y args bor k=some r):dx zX (zh L) L G3 args bor k=some r:=by
 unfold qN at h
 split at h
 ·have q:=zbk h; clear h; obtain ⟨C,rfl,h⟩:=q
  have q:=K5 h; clear h; obtain ⟨rfl,h⟩:=q
  have q:=rc h; clear h; obtain ⟨z,rfl,h⟩:=q
  exact (Oh L C z k).trans h
 ·cases h
def cf_slices_IndexFunc_Lapi_Owned_api_Owned:CF:=cfD mW 72
def jL:CC:=eT [1,0,1,0,0] cf_slices_IndexFunc_Lapi_Owned_api_Owned.body
def j2:CC:=eT [1,1] cf_slices_IndexFunc_Lapi_Owned_api_Owned.body
def d6:Nat->Sh:=f9 []
def d9(ch:eK)(L:Nat):CBC:=(eL 839 (qN ch L) noC)
def jO:St->St:=f4 2 (bl 387 19) (bl 458703 19)
def g7(C:Nat)(D E:Int)(F:List V)(z:Int):St:=⟨((V.own 0 0 C 38)::((V.fn 839 [(V.ptr 1 0)])::(jn 5 ((QQe D)::((QQe E)::(jn 10 [])))))),((.live true F)::((.live true [(QQe z)])::(gn 19 [])))⟩
def jE(C:Int)(D:List V)(z:Int):St:=⟨(jn 4 ((QQe C)::(jn 14 []))),((.live true D)::((.live true [(QQe z)])::(gn 19 [])))⟩
def jP(C:List V)(z:Int):St:=⟨(jn 19 []),((.live true C)::((.live true [(QQe z)])::(gn 19 [])))⟩
def kj(ch:eK)(L:Nat)(C:Nat)(E:List V)(D:Int)(z:Nat->Int->Int->List V->Int->Ob Y):Ob Y:=z C ((C:Nat):Int) (0:Int) E D
theorem td(ch:eK)(L:Nat)(C:Nat)(D:List V)(z:Int)(k:KK Y):dx d6 (d9 ch L) L cf_slices_IndexFunc_Lapi_Owned_api_Owned [(V.own 0 0 C 38),(V.fn 839 [(V.ptr 1 0)])] [(.live true D),(.live true [(QQe z)])] k=kj ch L C D z (λC E F D z=>dW (cz d6 (d9 ch L) 2 L jL) jO L (g7 C E F D z) (dk 0 (dN (cz d6 (d9 ch L) 2 L j2) (dX 2 (CF.res cf_slices_IndexFunc_Lapi_Owned_api_Owned) k)))):=by kernel_rfl
def iw(ch:eK)(L:Nat)(H:Nat)(J z:Int)(D:List V)(E:Int)(F:Int->List V->Int->Ob Y)(C:Nat->Int->Int->List V->Int->Ob Y)(I:List V->Int->Ob Y):Ob Y:=ifb (decide (z<J)) (chk (0<=z/\z<((H:Nat):Int)) (chk ((0+((WcM z)*38))+38<=(WcK D)) (ch Y L (WbO V.ag (WcL 38 (WcN (0+((WcM z)*38)) D))) E (λN M=>ifb N (F z D M) (lt (Wbf .i64 ((z:Int)+(1:Int))) λO=>C H J O D M))))) (I D E)
theorem qJ(ch:eK)(L:Nat)(D:Nat)(E F:Int)(C:List V)(z:Int)(X:St->Ob Y)(K:KT Y):cz d6 (d9 ch L) 2 L jL (g7 D E F C z) (fR jO X K)=iw ch L D E F C z (λH C z=>K .ret (jE H C z)) (λD E F C z=>X (g7 D E F C z)) (λC z=>K (.exit 0) (jP C z)):=by kernel_rfl
def lS(ch:eK)(L:Nat)(D:Int)(E:List V)(C:Int)(z:Int->List V->Int->Ob Y):Ob Y:=z D E C
theorem pM(ch:eK)(L:Nat)(D:Int)(C:List V)(z:Int)(k:KK Y):(dk 0 (dN (cz d6 (d9 ch L) 2 L j2) (dX 2 (CF.res cf_slices_IndexFunc_Lapi_Owned_api_Owned) k))) .ret (jE D C z)=lS ch L D C z (λE C z=>k (QQe E) [(.live true C),(.live true [(QQe z)])]):=by kernel_rfl
def me(ch:eK)(L:Nat)(D:List V)(C:Int)(z:Int->List V->Int->Ob Y):Ob Y:=z (-1:Int) D C
theorem qi(ch:eK)(L:Nat)(C:List V)(z:Int)(k:KK Y):(dk 0 (dN (cz d6 (d9 ch L) 2 L j2) (dX 2 (CF.res cf_slices_IndexFunc_Lapi_Owned_api_Owned) k))) (.exit 0) (jP C z)=me ch L C z (λD C z=>k (QQe D) [(.live true C),(.live true [(QQe z)])]):=by kernel_rfl
def fP(ch:eK)(L:Nat)(C:Int->List V->Int->Ob Y)(D:List V->Int->Ob Y):Nat->Nat->Int->Int->List V->Int->Ob Y
 | 0,_,_,_,_,_=>none
 | n+1,E,F,H,I,z=>iw ch L E F H I z C (λE F H I z=>fP ch L C D n E F H I z) D
theorem lT(ch:eK)(L:Nat)(K:KT Y):∀ (n:Nat) (D:Nat) (E F:Int) (C:List V) (z:Int),dW (cz d6 (d9 ch L) 2 L jL) jO n (g7 D E F C z) K=fP ch L (λH C z=>K .ret (jE H C z)) (λC z=>K (.exit 0) (jP C z)) n D E F C z:=by
 intro n; induction n <;> intros
 ·rfl
 ·exact (qJ ..).trans (by simp only [*]; rfl)
def i7(ch:eK)(L:Nat)(E:Nat)(C:List V)(z:Int)(D:Int->List V->Int->Ob Y):Ob Y:=kj ch L E C z (λE F H C z=>fP ch L (λI C z=>lS ch L I C z D) (λC z=>me ch L C z D) L E F H C z)
theorem sM(ch:eK)(L:Nat)(C:Nat)(D:List V)(z:Int)(k:KK Y):dx d6 (d9 ch L) L cf_slices_IndexFunc_Lapi_Owned_api_Owned [(V.own 0 0 C 38),(V.fn 839 [(V.ptr 1 0)])] [(.live true D),(.live true [(QQe z)])] k=i7 ch L C D z (λE D z=>k (QQe E) [(.live true D),(.live true [(QQe z)])]):=by
 refine (td ch L C D z k).trans ?_
 unfold i7
 first
  | (simp only [lT,pM,qi]; done)
  | (simp only [lT]; rfl)
abbrev dM:=∀ (Y:Type),Nat->Nat->List V->Int->(Int->List V->Int->Ob Y)->Ob Y
def bS:dM:=λY=>@i7 Y ch
def i6(bS:dM)(L:Nat)(Y:Type)(args:List V)(bor:Bor)(k:KK Y):Ob Y:=match args,bor with
 | [a0,a1],[(.live true C),(.live true [w1_0])]=>aO0 0 38 a0 λD=>aF 839 [(1,0)] a1 (aI .i64 w1_0 λz=>bS Y L D C z (λE C z=>k (QQe E) [(.live true C),(.live true [(QQe z)])]))
 | _,_=>none
theorem sT(L:Nat)(Y:Type)(args:List V)(bor:Bor)(k:KK Y)(r:Y)(h:i6 bS L Y args bor k=some r):dx d6 (d9 ch L) L cf_slices_IndexFunc_Lapi_Owned_api_Owned args bor k=some r:=by
 unfold i6 at h
 split at h
 ·have q:=zca h; clear h; obtain ⟨C,rfl,h⟩:=q
  have q:=zgf h; clear h; obtain ⟨rfl,h⟩:=q
  have q:=rc h; clear h; obtain ⟨z,rfl,h⟩:=q
  exact (sM ch L C _ z k).trans h
 ·cases h
def cf_slices_DeleteFunc_Lapi_Owned_api_Owned:CF:=cfD mP 48
def jl:CC:=eT [1,1,1,0,1,0,0] cf_slices_DeleteFunc_Lapi_Owned_api_Owned.body
def mz:CC:=eT [1,1,1,1] cf_slices_DeleteFunc_Lapi_Owned_api_Owned.body
def eE:Nat->Sh:=f9 []
def eD(bS:dM)(ch:eK)(L:Nat):CBC:=(eL 839 (qN ch L) (eL 845 (i6 bS L) noC))
def jt:St->St:=f4 2 (bl 99 42) (bl 4397777813375 42)
def gQ(C:Nat)(D E:Int)(F:List V)(z:Int):St:=⟨((V.own 0 0 C 38)::((V.fn 839 [(V.ptr 1 0)])::(jn 3 ((QQe D)::((QQe E)::(jn 35 [])))))),((.live true F)::((.live true [(QQe z)])::(gn 42 [])))⟩
def jH(C:Nat)(D:Int)(E:List V)(z:Int):St:=⟨((V.own 0 0 C 38)::(jn 4 ((QQe D)::(jn 36 [])))),((.live true E)::((.live true [(QQe z)])::(gn 42 [])))⟩
def kg(bS:dM)(ch:eK)(L:Nat)(C:Nat)(I:List V)(E:Int)(D:Nat->List V->Int->Ob Y)(z:Nat->Int->Int->List V->Int->Ob Y):Ob Y:=bS Y L C I E (λF H J=>chk ([(WcK H),1]=[(WcK I),1]) (ifb ((F:Int)==(-1:Int)) (D C H J) (lt (Wbf .i64 ((F:Int)+(1:Int))) λM=>z C F M H J)))
theorem sf(bS:dM)(ch:eK)(L:Nat)(C:Nat)(D:List V)(z:Int)(k:KK Y):dx eE (eD bS ch L) L cf_slices_DeleteFunc_Lapi_Owned_api_Owned [(V.own 0 0 C 38),(V.fn 839 [(V.ptr 1 0)])] [(.live true D),(.live true [(QQe z)])] k=kg bS ch L C D z (λC D z=>k (V.own 0 0 C 38) [(.live true D),(.live true [(QQe z)])]) (λC E F D z=>dW (cz eE (eD bS ch L) 2 L jl) jt L (gQ C E F D z) (dk 0 (dN (cz eE (eD bS ch L) 2 L mz) (dX 2 (CF.res cf_slices_DeleteFunc_Lapi_Owned_api_Owned) k)))):=by kernel_rfl
def hF(bS:dM)(ch:eK)(L:Nat)(C:Nat)(E D:Int)(F:List V)(H:Int)(z:Nat->Int->Int->List V->Int->Ob Y)(J:Nat->Int->List V->Int->Ob Y):Ob Y:=ifb (decide (D<((C:Nat):Int))) (chk (0<=D/\D<((C:Nat):Int)) (chk ((0+((WcM D)*38))+38<=(WcK F)) (chk ((WcK (WcL 38 (WcN (0+((WcM D)*38)) F)))=38/\0+38<=38) (lt (cq (Wad 32 (QQa (0:Int))++[(QQc (0:Int)),(QQe (0:Int)),(V.gs 1 ([]:Ls)),(QQe (0:Int)),(V.sc (.bool false)),(QQe (0:Int))]) 0 (WcL 38 (WcN (0+((WcM D)*38)) F))) λI=>chk (0+38<=(WcK I)) (ch Y L (WbO V.ag (WcL 38 I)) H (λO M=>ifb (!O) (chk (0+38<=(WcK I)) (chk (0<=E/\E<((C:Nat):Int)) (chk ((WcK (WcL 38 I))=38/\(0+((WcM E)*38))+38<=(WcK F)) (lt (cq F (0+((WcM E)*38)) (WcL 38 I)) λP=>lt (Wbf .i64 ((E:Int)+(1:Int))) λQ=>lt (Wbf .i64 ((D:Int)+(1:Int))) λR=>z C Q R P M)))) (lt (Wbf .i64 ((D:Int)+(1:Int))) λN=>z C E N F M))))))) (J C E F H)
theorem pR(bS:dM)(ch:eK)(L:Nat)(C:Nat)(D F:Int)(E:List V)(z:Int)(X:St->Ob Y)(K:KT Y):cz eE (eD bS ch L) 2 L jl (gQ C D F E z) (fR jt X K)=hF bS ch L C D F E z (λC D F E z=>X (gQ C D F E z)) (λC D E z=>K (.exit 0) (jH C D E z)):=by kernel_rfl
def gR(bS:dM)(ch:eK)(L:Nat)(C:Nat)(z:Int)(H:List V)(E:Int)(D:Nat->List V->Int->Ob Y):Ob Y:=chk (0<=z/\z<=((C:Nat):Int)) (lt (cq H (0+((WcM z)*38)) (WcO (Wad (C-(WcM z)) (Wad 32 (QQa (0:Int))++[(QQc (0:Int)),(QQe (0:Int)),(V.sl 1 ([]:Ls)),(QQe (0:Int)),(V.sc (.bool false)),(QQe (0:Int))])))) λF=>chk (0<=z/\z<=((C:Nat):Int)) (D ((WcM z)-0) F E))
theorem pc(bS:dM)(ch:eK)(L:Nat)(C:Nat)(E:Int)(D:List V)(z:Int)(k:KK Y):(dk 0 (dN (cz eE (eD bS ch L) 2 L mz) (dX 2 (CF.res cf_slices_DeleteFunc_Lapi_Owned_api_Owned) k))) (.exit 0) (jH C E D z)=gR bS ch L C E D z (λC D z=>k (V.own 0 0 C 38) [(.live true D),(.live true [(QQe z)])]):=by kernel_rfl
def dV(bS:dM)(ch:eK)(L:Nat)(C:Nat->Int->List V->Int->Ob Y):Nat->Nat->Int->Int->List V->Int->Ob Y
 | 0,_,_,_,_,_=>none
 | n+1,D,E,F,H,z=>hF bS ch L D E F H z (λD E F H z=>dV bS ch L C n D E F H z) C
theorem kZ(bS:dM)(ch:eK)(L:Nat)(K:KT Y):∀ (n:Nat) (C:Nat) (D F:Int) (E:List V) (z:Int),dW (cz eE (eD bS ch L) 2 L jl) jt n (gQ C D F E z) K=dV bS ch L (λC D E z=>K (.exit 0) (jH C D E z)) n C D F E z:=by
 intro n; induction n <;> intros
 ·rfl
 ·exact (pR ..).trans (by simp only [*]; rfl)
def iW(bS:dM)(ch:eK)(L:Nat)(C:Nat)(E:List V)(z:Int)(D:Nat->List V->Int->Ob Y):Ob Y:=kg bS ch L C E z D (λC F H E z=>dV bS ch L (λC F E z=>gR bS ch L C F E z D) L C F H E z)
theorem rY(bS:dM)(ch:eK)(L:Nat)(C:Nat)(D:List V)(z:Int)(k:KK Y):dx eE (eD bS ch L) L cf_slices_DeleteFunc_Lapi_Owned_api_Owned [(V.own 0 0 C 38),(V.fn 839 [(V.ptr 1 0)])] [(.live true D),(.live true [(QQe z)])] k=iW bS ch L C D z (λC D z=>k (V.own 0 0 C 38) [(.live true D),(.live true [(QQe z)])]):=by
 refine (sf bS ch L C D z k).trans ?_
 unfold iW
 first
  | (simp only [kZ,pc]; done)
  | (simp only [kZ]; rfl)
abbrev cV:=∀ (Y:Type),Nat->Nat->List V->Int->(Nat->List V->Int->Ob Y)->Ob Y
def bM:cV:=λY=>@iW Y bS ch
def iX(bM:cV)(L:Nat)(Y:Type)(args:List V)(bor:Bor)(k:KK Y):Ob Y:=match args,bor with
 | [a0,a1],[(.live true D),(.live true [w1_0])]=>aO0 0 38 a0 λC=>aF 839 [(1,0)] a1 (aI .i64 w1_0 λz=>bM Y L C D z (λC D z=>k (V.own 0 0 C 38) [(.live true D),(.live true [(QQe z)])]))
 | _,_=>none
theorem se(L:Nat)(Y:Type)(args:List V)(bor:Bor)(k:KK Y)(r:Y)(h:iX bM L Y args bor k=some r):dx eE (eD bS ch L) L cf_slices_DeleteFunc_Lapi_Owned_api_Owned args bor k=some r:=by
 unfold iX at h
 split at h
 ·have q:=zca h; clear h; obtain ⟨C,rfl,h⟩:=q
  have q:=zgf h; clear h; obtain ⟨rfl,h⟩:=q
  have q:=rc h; clear h; obtain ⟨z,rfl,h⟩:=q
  exact (rY bS ch L C _ z k).trans h
 ·cases h
def cf_scan_Rewind:CF:=cfD Hc 23
def qF:CC:=eT [1,1,1,1,1,1,0,1,0,0] cf_scan_Rewind.body
def sO:CC:=eT [1,1,1,1,0,1,0,0] cf_scan_Rewind.body
def Bz:CC:=eT [1,1,1,1,1,1,1] cf_scan_Rewind.body
def wL:CC:=eT [1,1,1,1,1] cf_scan_Rewind.body
def ij:Nat->Sh:=f9 [(2,(.row [(.sl 3),(.sl 38)])),(30,(.row [(.sl 1),(.int .i64),(.int .i64)])),(58,(.row [(.int .u8),(.int .u8),(.int .u8),(.int .u8),(.int .u8),(.int .u8),(.int .u8),(.int .u8),(.int .u8),(.int .u8),(.int .u8),(.int .u8),(.int .u8),(.int .u8),(.int .u8),(.int .u8),(.int .u8),(.int .u8),(.int .u8),(.int .u8),(.int .u8),(.int .u8),(.int .u8),(.int .u8),(.int .u8),(.int .u8),(.int .u8),(.int .u8),(.int .u8),(.int .u8),(.int .u8),(.int .u8),(.int .u32),(.int .i64),(.sl 1),(.int .i64),.bool,(.int .i64)]))]
def ik(cZ:gA)(dc:gC)(bM:cV)(L:Nat):CBC:=(eL 838 (iX bM L) (eL 835 (HF dc L) (eL 816 (GZ cZ L) noC)))
def tB:St->St:=f4 0 (bl 117440540 70) (bl 1180591616319364791615 70)
def rS:St->St:=f4 0 (bl 31525197391593500 70) (bl 1180591620717411302527 70)
def nO(D:Nat)(I J:Int)(z C:Nat)(E:Int)(F H:Ls)(M N:List V):St:=⟨(jn 2 ((V.ptr 2 0)::((V.ptr 3 0)::((V.ptr 4 0)::(jn 19 ((V.own 12 0 D 3)::((QQe I)::((QQe J)::(jn 43 []))))))))),(gn 2 ((.live false [(V.own 12 0 z 3),(V.own 15 0 C 38)])::((.live true [(QQe E)])::((.live false [(V.gs 3 F),(V.gs 38 H)])::(gn 7 ((.live true M)::(gn 2 ((.live true N)::(gn 54 [])))))))))⟩
def sD(z C:Nat)(D:Int)(E F:Ls)(H I:List V):St:=⟨(jn 2 ((V.ptr 2 0)::((V.ptr 3 0)::((V.ptr 4 0)::(jn 65 []))))),(gn 2 ((.live false [(V.own 12 0 z 3),(V.own 15 0 C 38)])::((.live true [(QQe D)])::((.live false [(V.gs 3 E),(V.gs 38 F)])::(gn 7 ((.live true H)::(gn 2 ((.live true I)::(gn 54 [])))))))))⟩
def m5(D:Nat)(I J:Int)(z C:Nat)(E:Int)(F H:Ls)(M N:List V):St:=⟨(jn 2 ((V.ptr 2 0)::((V.ptr 3 0)::((V.ptr 4 0)::(jn 47 ((V.own 15 0 D 38)::((QQe I)::((QQe J)::(jn 15 []))))))))),(gn 2 ((.live false [(V.own 12 0 z 3),(V.own 15 0 C 38)])::((.live true [(QQe E)])::((.live false [(V.gs 3 F),(V.gs 38 H)])::(gn 7 ((.live true M)::(gn 2 ((.live true N)::(gn 54 [])))))))))⟩
def xL(z C:Nat)(D:Int)(E F:Ls)(H I:List V):St:=⟨(jn 2 ((V.ptr 2 0)::(jn 1 ((V.ptr 4 0)::(jn 65 []))))),(gn 2 ((.live false [(V.own 12 0 z 3),(V.own 15 0 C 38)])::((.live true [(QQe D)])::((.live false [(V.gs 3 E),(V.gs 38 F)])::(gn 7 ((.live true H)::(gn 2 ((.live true I)::(gn 54 [])))))))))⟩
abbrev Az(Y:Type):Type:=Nat->Int->Int->Nat->Nat->Int->Ls->Ls->List V->List V->Ob Y
abbrev Bo(Y:Type):Type:=Nat->Nat->Int->Ls->Ls->List V->List V->Ob Y
abbrev xu(Y:Type):Type:=Nat->Int->Int->Nat->Nat->Int->Ls->Ls->List V->List V->Ob Y
abbrev BS(Y:Type):Type:=Nat->Nat->Int->Ls->Ls->List V->List V->Ob Y
def EY(cZ:gA)(dc:gC)(bM:cV)(L:Nat)(D:List V)(E:Int)(z:List V->Int->Ob Y)(C:Az Y):Ob Y:=chk (WcK D=2) (cL 3 D 0 λH=>cL 38 D 1 λI=>cZ Y L [(V.sl 3 H),(V.sl 38 I)] (λJ=>ifb (!J) (z [(V.sl 3 ([]:Ls)),(V.sl 38 ([]:Ls))] (6:Int)) (ifb (decide (E<(0:Int))) (z [(V.sl 3 ([]:Ls)),(V.sl 38 ([]:Ls))] (5:Int)) (ifb (decide (E>(16777216:Int))) (z [(V.sl 3 ([]:Ls)),(V.sl 38 ([]:Ls))] (5:Int)) (dc Y L [(V.sl 3 H),(V.sl 38 I)] (λF M N O=>C F ((F:Nat):Int) (0:Int) F M E ([]:Ls) ([]:Ls) N O))))))
theorem R7(cZ:gA)(dc:gC)(bM:cV)(L:Nat)(M:List V)(N:Int)(k:KK Y):dx ij (ik cZ dc bM L) L cf_scan_Rewind [(V.agg M),(QQe N)] [] k=EY cZ dc bM L M N (λD E=>k (V.ae [(V.agg D),(QQe E)]) []) (λF O P z C H I J Q R=>dW (cz ij (ik cZ dc bM L) 0 L sO) tB L (nO F O P z C H I J Q R) (dk 0 (dN (cz ij (ik cZ dc bM L) 0 L wL) (dX 0 (CF.res cf_scan_Rewind) k)))):=by kernel_rfl
def pu(cZ:gA)(dc:gC)(bM:cV)(L:Nat)(I:Nat)(N z:Int)(E H:Nat)(F:Int)(J M:Ls)(C O:List V)(D:Az Y)(P:Bo Y):Ob Y:=ifb (decide (z<N)) (chk (0<=z/\z<((I:Nat):Int)) (chk ((0+((WcM z)*3))+3<=(WcK C)) (chk (WcK (WcL 3 (WcN (0+((WcM z)*3)) C))=3) (cL 1 (WcL 3 (WcN (0+((WcM z)*3)) C)) 0 λb9=>cI .i64 (WcL 3 (WcN (0+((WcM z)*3)) C)) 1 λd4=>cI .i64 (WcL 3 (WcN (0+((WcM z)*3)) C)) 2 λX=>ifb (decide (X>F)) (lt (Wbf .i64 ((d4:Int)-(1:Int))) λQ=>lt (HK F Q) λR=>chk (0<=z/\z<((E:Nat):Int)) (chk (1=1/\((0+((WcM z)*3))+2)+1<=(WcK C)) (lt (cq C ((0+((WcM z)*3))+2) [(QQe R)]) λS=>lt (Wbf .i64 ((z:Int)+(1:Int))) λT=>D I N T E H F J M S O))) (lt (Wbf .i64 ((z:Int)+(1:Int))) λU=>D I N U E H F J M C O))))) (P E H F J M C O)
theorem Id(cZ:gA)(dc:gC)(bM:cV)(L:Nat)(J:Nat)(M N:Int)(z C:Nat)(D:Int)(E F:Ls)(H I:List V)(X:St->Ob Y)(K:KT Y):cz ij (ik cZ dc bM L) 0 L sO (nO J M N z C D E F H I) (fR tB X K)=pu cZ dc bM L J M N z C D E F H I (λJ M N z C D E F H I=>X (nO J M N z C D E F H I)) (λz C D E F H I=>K (.exit 0) (sD z C D E F H I)):=by kernel_rfl
def rO(cZ:gA)(dc:gC)(bM:cV)(L:Nat)(D E:Nat)(I:Int)(J M:Ls)(N F:List V)(z:xu Y):Ob Y:=bM Y L E F I (λC H O=>chk ([(WcK H),1]=[(WcK F),1]) (z C ((C:Nat):Int) (0:Int) D C O J M N H))
theorem Ge(cZ:gA)(dc:gC)(bM:cV)(L:Nat)(z C:Nat)(D:Int)(E F:Ls)(H I:List V)(k:KK Y):(dk 0 (dN (cz ij (ik cZ dc bM L) 0 L wL) (dX 0 (CF.res cf_scan_Rewind) k))) (.exit 0) (sD z C D E F H I)=rO cZ dc bM L z C D E F H I (λJ M N z C D E F H I=>dW (cz ij (ik cZ dc bM L) 0 L qF) rS L (m5 J M N z C D E F H I) (dk 2 (dN (cz ij (ik cZ dc bM L) 0 L Bz) (dX 0 (CF.res cf_scan_Rewind) k)))):=by kernel_rfl
def oF(cZ:gA)(dc:gC)(bM:cV)(L:Nat)(I:Nat)(N z:Int)(F E:Nat)(H:Int)(J M:Ls)(O C:List V)(D:xu Y)(P:BS Y):Ob Y:=ifb (decide (z<N)) (chk (0<=z/\z<((I:Nat):Int)) (chk ((0+((WcM z)*38))+38<=(WcK C)) (chk (WcK (WcL 38 (WcN (0+((WcM z)*38)) C))=38) (cI .u8 (WcL 38 (WcN (0+((WcM z)*38)) C)) 0 λU=>cI .u8 (WcL 38 (WcN (0+((WcM z)*38)) C)) 1 λd4=>cI .u8 (WcL 38 (WcN (0+((WcM z)*38)) C)) 2 λX=>cI .u8 (WcL 38 (WcN (0+((WcM z)*38)) C)) 3 λb9=>cI .u8 (WcL 38 (WcN (0+((WcM z)*38)) C)) 4 λc9=>cI .u8 (WcL 38 (WcN (0+((WcM z)*38)) C)) 5 λaa=>cI .u8 (WcL 38 (WcN (0+((WcM z)*38)) C)) 6 λab=>cI .u8 (WcL 38 (WcN (0+((WcM z)*38)) C)) 7 λac=>cI .u8 (WcL 38 (WcN (0+((WcM z)*38)) C)) 8 λad=>cI .u8 (WcL 38 (WcN (0+((WcM z)*38)) C)) 9 λag=>cI .u8 (WcL 38 (WcN (0+((WcM z)*38)) C)) 10 λao=>cI .u8 (WcL 38 (WcN (0+((WcM z)*38)) C)) 11 λap=>cI .u8 (WcL 38 (WcN (0+((WcM z)*38)) C)) 12 λaq=>cI .u8 (WcL 38 (WcN (0+((WcM z)*38)) C)) 13 λar=>cI .u8 (WcL 38 (WcN (0+((WcM z)*38)) C)) 14 λau=>cI .u8 (WcL 38 (WcN (0+((WcM z)*38)) C)) 15 λav=>cI .u8 (WcL 38 (WcN (0+((WcM z)*38)) C)) 16 λaw=>cI .u8 (WcL 38 (WcN (0+((WcM z)*38)) C)) 17 λaA=>cI .u8 (WcL 38 (WcN (0+((WcM z)*38)) C)) 18 λaK=>cI .u8 (WcL 38 (WcN (0+((WcM z)*38)) C)) 19 λaN=>cI .u8 (WcL 38 (WcN (0+((WcM z)*38)) C)) 20 λaV=>cI .u8 (WcL 38 (WcN (0+((WcM z)*38)) C)) 21 λaZ=>cI .u8 (WcL 38 (WcN (0+((WcM z)*38)) C)) 22 λa0=>cI .u8 (WcL 38 (WcN (0+((WcM z)*38)) C)) 23 λa1=>cI .u8 (WcL 38 (WcN (0+((WcM z)*38)) C)) 24 λa2=>cI .u8 (WcL 38 (WcN (0+((WcM z)*38)) C)) 25 λa3=>cI .u8 (WcL 38 (WcN (0+((WcM z)*38)) C)) 26 λa4=>cI .u8 (WcL 38 (WcN (0+((WcM z)*38)) C)) 27 λa5=>cI .u8 (WcL 38 (WcN (0+((WcM z)*38)) C)) 28 λa6=>cI .u8 (WcL 38 (WcN (0+((WcM z)*38)) C)) 29 λa7=>cI .u8 (WcL 38 (WcN (0+((WcM z)*38)) C)) 30 λba=>cI .u8 (WcL 38 (WcN (0+((WcM z)*38)) C)) 31 λbb=>cI .u32 (WcL 38 (WcN (0+((WcM z)*38)) C)) 32 λbc=>cI .i64 (WcL 38 (WcN (0+((WcM z)*38)) C)) 33 λbe=>cL 1 (WcL 38 (WcN (0+((WcM z)*38)) C)) 34 λbf=>cI .i64 (WcL 38 (WcN (0+((WcM z)*38)) C)) 35 λbg=>cB (WcL 38 (WcN (0+((WcM z)*38)) C)) 36 λbm=>cI .i64 (WcL 38 (WcN (0+((WcM z)*38)) C)) 37 λQ=>ifb (decide (Q>H)) (chk (0<=z/\z<((E:Nat):Int)) (chk (1=1/\((0+((WcM z)*38))+37)+1<=(WcK C)) (lt (cq C ((0+((WcM z)*38))+37) [(QQe (0:Int))]) λR=>lt (Wbf .i64 ((z:Int)+(1:Int))) λS=>D I N S F E H J M O R))) (lt (Wbf .i64 ((z:Int)+(1:Int))) λT=>D I N T F E H J M O C))))) (P F E H J M O C)
theorem Gs(cZ:gA)(dc:gC)(bM:cV)(L:Nat)(J:Nat)(M N:Int)(z C:Nat)(D:Int)(E F:Ls)(H I:List V)(X:St->Ob Y)(K:KT Y):cz ij (ik cZ dc bM L) 0 L qF (m5 J M N z C D E F H I) (fR rS X K)=oF cZ dc bM L J M N z C D E F H I (λJ M N z C D E F H I=>X (m5 J M N z C D E F H I)) (λz C D E F H I=>K (.exit 2) (xL z C D E F H I)):=by kernel_rfl
def nx(cZ:gA)(dc:gC)(bM:cV)(L:Nat)(z C:Nat)(H:Int)(I J:Ls)(E F:List V)(D:List V->Int->Ob Y):Ob Y:=D [(V.sl 3 (bY 3 z E)),(V.sl 38 (bY 38 C F))] (0:Int)
theorem EC(cZ:gA)(dc:gC)(bM:cV)(L:Nat)(z C:Nat)(D:Int)(E F:Ls)(H I:List V)(k:KK Y):(dk 2 (dN (cz ij (ik cZ dc bM L) 0 L Bz) (dX 0 (CF.res cf_scan_Rewind) k))) (.exit 2) (xL z C D E F H I)=nx cZ dc bM L z C D E F H I (λJ M=>k (V.ae [(V.agg J),(QQe M)]) []):=by kernel_rfl
def lP(cZ:gA)(dc:gC)(bM:cV)(L:Nat)(I:Bo Y):Nat->Nat->Int->Int->Nat->Nat->Int->Ls->Ls->List V->List V->Ob Y
 | 0,_,_,_,_,_,_,_,_,_,_=>none
 | n+1,D,J,M,z,C,E,F,H,N,O=>pu cZ dc bM L D J M z C E F H N O (λD J M z C E F H N O=>lP cZ dc bM L I n D J M z C E F H N O) I
theorem xr(cZ:gA)(dc:gC)(bM:cV)(L:Nat)(K:KT Y):∀ (n:Nat) (J:Nat) (M N:Int) (z C:Nat) (D:Int) (E F:Ls) (H I:List V),dW (cz ij (ik cZ dc bM L) 0 L sO) tB n (nO J M N z C D E F H I) K=lP cZ dc bM L (λz C D E F H I=>K (.exit 0) (sD z C D E F H I)) n J M N z C D E F H I:=by
 intro n; induction n <;> intros
 ·rfl
 ·exact (Id ..).trans (by simp only [*]; rfl)
def jI(cZ:gA)(dc:gC)(bM:cV)(L:Nat)(I:BS Y):Nat->Nat->Int->Int->Nat->Nat->Int->Ls->Ls->List V->List V->Ob Y
 | 0,_,_,_,_,_,_,_,_,_,_=>none
 | n+1,D,J,M,z,C,E,F,H,N,O=>oF cZ dc bM L D J M z C E F H N O (λD J M z C E F H N O=>jI cZ dc bM L I n D J M z C E F H N O) I
theorem vq(cZ:gA)(dc:gC)(bM:cV)(L:Nat)(K:KT Y):∀ (n:Nat) (J:Nat) (M N:Int) (z C:Nat) (D:Int) (E F:Ls) (H I:List V),dW (cz ij (ik cZ dc bM L) 0 L qF) rS n (m5 J M N z C D E F H I) K=jI cZ dc bM L (λz C D E F H I=>K (.exit 2) (xL z C D E F H I)) n J M N z C D E F H I:=by
 intro n; induction n <;> intros
 ·rfl
 ·exact (Gs ..).trans (by simp only [*]; rfl)
def nT(cZ:gA)(dc:gC)(bM:cV)(L:Nat)(z C:Nat)(D:Int)(E F:Ls)(H I:List V)(J:List V->Int->Ob Y):Ob Y:=rO cZ dc bM L z C D E F H I (λM N O z C D E F H I=>jI cZ dc bM L (λz C D E F H I=>nx cZ dc bM L z C D E F H I J) L M N O z C D E F H I)
theorem Fb(cZ:gA)(dc:gC)(bM:cV)(L:Nat)(z C:Nat)(D:Int)(E F:Ls)(H I:List V)(k:KK Y):(dk 0 (dN (cz ij (ik cZ dc bM L) 0 L wL) (dX 0 (CF.res cf_scan_Rewind) k))) (.exit 0) (sD z C D E F H I)=nT cZ dc bM L z C D E F H I (λJ M=>k (V.ae [(V.agg J),(QQe M)]) []):=by
 refine (Ge cZ dc bM L z C D E F H I k).trans ?_
 unfold nT
 first
  | (simp only [vq,EC]; done)
  | (simp only [vq]; rfl)
def zc(cZ:gA)(dc:gC)(bM:cV)(L:Nat)(P:List V)(Q:Int)(H:List V->Int->Ob Y):Ob Y:=EY cZ dc bM L P Q H (λM N O z C D E F I J=>lP cZ dc bM L (λz C D E F I J=>nT cZ dc bM L z C D E F I J H) L M N O z C D E F I J)
theorem SN(cZ:gA)(dc:gC)(bM:cV)(L:Nat)(z:List V)(C:Int)(k:KK Y):dx ij (ik cZ dc bM L) L cf_scan_Rewind [(V.agg z),(QQe C)] [] k=zc cZ dc bM L z C (λD E=>k (V.ae [(V.agg D),(QQe E)]) []):=by
 refine (R7 cZ dc bM L z C k).trans ?_
 unfold zc
 first
  | (simp only [xr,Fb]; done)
  | (simp only [xr]; rfl)
abbrev fv:=∀ (Y:Type),Nat->List V->Int->(List V->Int->Ob Y)->Ob Y
def cF:fv:=λY=>@zc Y cZ dc bM
def Fi(cF:fv)(L:Nat):Dk:=dA AG λD=>dA (AI .i64) λE=>d0 λY k=>cF Y L D E (λz C=>k (V.ae [(V.agg z),(QQe C)]) [])
theorem RQ(L:Nat):DK (Fi cF L) (λ_=>dx ij (ik cZ dc bM L) L cf_scan_Rewind):=dy fT λz=>dy gX λC=>fS λ_ k=>SN cZ dc bM L z C k
def Hu:CF:=cfD EA 92
def zt:Nat->Sh:=f9 [(6,(.int .i64)),(8,(.int .i64)),(12,(.sl 1)),(14,(.sl 1))]
def zV(dv:hP)(L:Nat):CBC:=(eL 130 (AB dv L) noC)
def AK(dv:hP)(L:Nat)(C D:List V)(z:Bool->Ob Y):Ob Y:=cI .i64 C 0 λE=>cI .i64 D 0 λF=>ifb ((E:Int)==F) (cLd 1 C 1 λH=>cLd 1 D 1 λI=>dv Y L H I (λJ=>z J)) (z false)
theorem N6(dv:hP)(L:Nat)(z C:List V)(k:KK Y):dx zt (zV dv L) L Hu [(V.agg z),(V.agg C)] [] k=AK dv L z C (λz=>k (V.sc (.bool z)) []):=by kernel_rfl
abbrev qM:=∀ (Y:Type),Nat->List V->List V->(Bool->Ob Y)->Ob Y
def gK:qM:=λY=>@AK Y dv
def BZ(gK:qM)(L:Nat):Dk:=dA AG λz=>dA AG λC=>d0 λY k=>gK Y L z C (λz=>k (V.sc (.bool z)) [])
theorem N1(L:Nat):DK (BZ gK L) (λ_=>dx zt (zV dv L) L Hu):=dy fT λz=>dy fT λC=>fS λ_ k=>N6 dv L z C k
def FS:CF:=cfD CI 64
def yl:Nat->Sh:=f9 [(19,(.int .i64)),(21,(.int .i64)),(26,.bool),(28,.bool)]
def xC(gK:qM)(L:Nat):CBC:=(eL 181 (BZ gK L) noC)
def zO(gK:qM)(L:Nat)(C D:List V)(z:Bool->Ob Y):Ob Y:=chk (0+33<=(WcK C)) (chk (0+33<=(WcK D)) (eqC 33 (WcL 33 C) (WcL 33 D) λE=>ifb E (chk (33+2<=(WcK C)) (chk (33+2<=(WcK D)) (gK Y L (WbO V.ag (WcL 2 (WcN 33 C))) (WbO V.ag (WcL 2 (WcN 33 D))) (λF=>ifb F (cI .i64 C 35 λH=>cI .i64 D 35 λI=>ifb ((H:Int)==I) (cB C 36 λJ=>cB D 36 λM=>z (J==M)) (z false)) (z false))))) (z false)))
theorem M8(gK:qM)(L:Nat)(z C:List V)(k:KK Y):dx yl (xC gK L) L FS [(V.agg z),(V.agg C)] [] k=zO gK L z C (λz=>k (V.sc (.bool z)) []):=by kernel_rfl
abbrev gI:=∀ (Y:Type),Nat->List V->List V->(Bool->Ob Y)->Ob Y
def dp:gI:=λY=>@zO Y gK
def zT(dp:gI)(L:Nat):Dk:=dA AG λz=>dA AG λC=>d0 λY k=>dp Y L z C (λz=>k (V.sc (.bool z)) [])
theorem M5(L:Nat):DK (zT dp L) (λ_=>dx yl (xC gK L) L FS):=dy fT λz=>dy fT λC=>fS λ_ k=>M8 gK L z C k
def cf_ref29_SameOwned:CF:=cfD AN 41
def qC:CC:=eT [1,1,0,1,0,0] cf_ref29_SameOwned.body
def tF:CC:=eT [1,1,1] cf_ref29_SameOwned.body
def iZ:Nat->Sh:=f9 [(21,(.int .i64)),(26,(.int .i64))]
def i3(dp:gI)(L:Nat):CBC:=(eL 440 (zT dp L) noC)
def rz:St->St:=f4 0 (bl 35 42) (bl 3848290689007 42)
def mZ(z C:Ls)(D:Int):St:=⟨((V.sl 38 z)::((V.sl 38 C)::(jn 3 ((QQe D)::(jn 36 []))))),(gn 42 [])⟩
def rR(z:Bool):St:=⟨(jn 4 ((V.sc (.bool z))::(jn 37 []))),(gn 42 [])⟩
def sN:St:=⟨(jn 42 []),(gn 42 [])⟩
def yu(dp:gI)(L:Nat)(D E:Ls)(C:Bool->Ob Y)(z:Ls->Ls->Int->Ob Y):Ob Y:=ifb ((((WcK D:Nat):Int):Int) != ((WcK E:Nat):Int)) (C false) (z D E (0:Int))
theorem LR(dp:gI)(L:Nat)(z C:Ls)(k:KK Y):dx iZ (i3 dp L) L cf_ref29_SameOwned [(V.sl 38 z),(V.sl 38 C)] [] k=yu dp L z C (λz=>k (V.sc (.bool z)) []) (λz C D=>dW (cz iZ (i3 dp L) 0 L qC) rz L (mZ z C D) (dk 0 (dN (cz iZ (i3 dp L) 0 L tF) (dX 0 (CF.res cf_ref29_SameOwned) k)))):=by kernel_rfl
def oG(dp:gI)(L:Nat)(E F:Ls)(D:Int)(C:Bool->Ob Y)(z:Ls->Ls->Int->Ob Y)(H:Ob Y):Ob Y:=ifb (decide (D<((WcK E:Nat):Int))) (idx E D λI=>cI .i64 (WcN 37 I) 0 λJ=>idx F D λM=>cI .i64 (WcN 37 M) 0 λN=>ifb ((J:Int) != N) (C false) (idx E D λO=>idx F D λP=>dp Y L (WbO V.ag (WcL 37 O)) (WbO V.ag (WcL 37 P)) (λQ=>ifb (!Q) (C false) (lt (Wbf .i64 ((D:Int)+(1:Int))) λR=>z E F R)))) (H)
theorem Gi(dp:gI)(L:Nat)(z C:Ls)(D:Int)(X:St->Ob Y)(K:KT Y):cz iZ (i3 dp L) 0 L qC (mZ z C D) (fR rz X K)=oG dp L z C D (λE=>K .ret (rR E)) (λz C D=>X (mZ z C D)) (K (.exit 0) (sN)):=by kernel_rfl
def vt(dp:gI)(L:Nat)(C:Bool)(z:Bool->Ob Y):Ob Y:=z C
theorem Dn(dp:gI)(L:Nat)(z:Bool)(k:KK Y):(dk 0 (dN (cz iZ (i3 dp L) 0 L tF) (dX 0 (CF.res cf_ref29_SameOwned) k))) .ret (rR z)=vt dp L z (λC=>k (V.sc (.bool C)) []):=by kernel_rfl
def wv(dp:gI)(L:Nat)(z:Bool->Ob Y):Ob Y:=z true
theorem Ey(dp:gI)(L:Nat)(k:KK Y):(dk 0 (dN (cz iZ (i3 dp L) 0 L tF) (dX 0 (CF.res cf_ref29_SameOwned) k))) (.exit 0) (sN)=wv dp L (λz=>k (V.sc (.bool z)) []):=by kernel_rfl
def kn(dp:gI)(L:Nat)(z:Bool->Ob Y)(C:Ob Y):Nat->Ls->Ls->Int->Ob Y
 | 0,_,_,_=>none
 | n+1,D,E,F=>oG dp L D E F z (λD E F=>kn dp L z C n D E F) C
theorem vj(dp:gI)(L:Nat)(K:KT Y):∀ (n:Nat) (z C:Ls) (D:Int),dW (cz iZ (i3 dp L) 0 L qC) rz n (mZ z C D) K=kn dp L (λE=>K .ret (rR E)) (K (.exit 0) (sN)) n z C D:=by
 intro n; induction n <;> intros
 ·rfl
 ·exact (Gi ..).trans (by simp only [*]; rfl)
def sr(dp:gI)(L:Nat)(C D:Ls)(z:Bool->Ob Y):Ob Y:=yu dp L C D z (λC D E=>kn dp L (λF=>vt dp L F z) (wv dp L z) L C D E)
theorem LJ(dp:gI)(L:Nat)(z C:Ls)(k:KK Y):dx iZ (i3 dp L) L cf_ref29_SameOwned [(V.sl 38 z),(V.sl 38 C)] [] k=sr dp L z C (λz=>k (V.sc (.bool z)) []):=by
 refine (LR dp L z C k).trans ?_
 unfold sr
 first
  | (simp only [vj,Dn,Ey]; done)
  | (simp only [vj]; rfl)
abbrev gf:=∀ (Y:Type),Nat->Ls->Ls->(Bool->Ob Y)->Ob Y
def dh:gf:=λY=>@sr Y dp
def yd(dh:gf)(L:Nat):Dk:=dA (AL 38) λz=>dA (AL 38) λC=>d0 λY k=>dh Y L z C (λz=>k (V.sc (.bool z)) [])
theorem Ly(L:Nat):DK (yd dh L) (λ_=>dx iZ (i3 dp L) L cf_ref29_SameOwned):=dy ji λz=>dy ji λC=>fS λ_ k=>LJ dp L z C k
def cf_ref30_Same:CF:=cfD II 17
def wc:CC:=eT [1,1,0,1,0,0] cf_ref30_Same.body
def AE:CC:=eT [1,1,1] cf_ref30_Same.body
def lw:Nat->Sh:=f9 [(7,(.sl 3)),(10,(.sl 3)),(15,(.sl 38)),(17,(.sl 38)),(23,(.sl 3)),(29,(.sl 3)),(33,(.sl 1)),(36,(.sl 3)),(40,(.sl 1)),(45,(.sl 3)),(49,(.int .i64)),(51,(.sl 3)),(55,(.int .i64)),(60,(.sl 3)),(64,(.int .i64)),(66,(.sl 3)),(70,(.int .i64))]
def lF(dh:gf)(L:Nat):CBC:=(eL 438 (yd dh L) noC)
def xJ:St->St:=f4 0 (bl 44 73) (bl 9444732965739273650159 73)
def pG(z:Int)(C D:List V):St:=⟨(jn 2 ((V.ptr 2 0)::((V.ptr 3 0)::(jn 1 ((QQe z)::(jn 67 [])))))),(gn 2 ((.live true C)::((.live true D)::(gn 69 []))))⟩
def xV(z:Bool):St:=⟨(jn 4 ((V.sc (.bool z))::(jn 68 []))),(gn 73 [])⟩
def zq:St:=⟨(jn 73 []),(gn 73 [])⟩
def GX(dh:gf)(L:Nat)(D E:List V)(C:Bool->Ob Y)(z:Int->List V->List V->Ob Y):Ob Y:=cLd 3 D 0 λF=>cLd 3 E 0 λH=>ifb ((((WcK F:Nat):Int):Int) != ((WcK H:Nat):Int)) (C false) (cLd 38 D 1 λI=>cLd 38 E 1 λJ=>dh Y L I J (λM=>ifb (!M) (C false) (z (0:Int) D E)))
theorem Uc(dh:gf)(L:Nat)(z C:List V)(k:KK Y):dx lw (lF dh L) L cf_ref30_Same [(V.agg z),(V.agg C)] [] k=GX dh L z C (λz=>k (V.sc (.bool z)) []) (λD E F=>dW (cz lw (lF dh L) 0 L wc) xJ L (pG D E F) (dk 0 (dN (cz lw (lF dh L) 0 L AE) (dX 0 (CF.res cf_ref30_Same) k)))):=by kernel_rfl
def sE(dh:gf)(L:Nat)(C:Int)(E F:List V)(z:Bool->Ob Y)(D:Int->List V->List V->Ob Y)(H:Ob Y):Ob Y:=cLd 3 E 0 λv5=>ifb (decide (C<((WcK v5:Nat):Int))) (cLd 3 E 0 λv6=>idx v6 C λc7=>cL 1 c7 0 λv8=>yp v8 λv9=>cLd 3 F 0 λI=>idx I C λJ=>cL 1 J 0 λM=>yp M λN=>ifb (!(ByteArray.toList v9==ByteArray.toList N)) (z false) (cLd 3 E 0 λO=>idx O C λP=>cI .i64 (WcN 1 P) 0 λQ=>cLd 3 F 0 λR=>idx R C λS=>cI .i64 (WcN 1 S) 0 λT=>ifb ((Q:Int) != T) (z false) (cLd 3 E 0 λU=>idx U C λd4=>cI .i64 (WcN 2 d4) 0 λX=>cLd 3 F 0 λb9=>idx b9 C λc9=>cI .i64 (WcN 2 c9) 0 λaa=>ifb ((X:Int) != aa) (z false) (lt (Wbf .i64 ((C:Int)+(1:Int))) λab=>D ab E F)))) (H)
theorem L9(dh:gf)(L:Nat)(z:Int)(C D:List V)(X:St->Ob Y)(K:KT Y):cz lw (lF dh L) 0 L wc (pG z C D) (fR xJ X K)=sE dh L z C D (λE=>K .ret (xV E)) (λz C D=>X (pG z C D)) (K (.exit 0) (zq)):=by kernel_rfl
def AP(dh:gf)(L:Nat)(C:Bool)(z:Bool->Ob Y):Ob Y:=z C
theorem Is(dh:gf)(L:Nat)(z:Bool)(k:KK Y):(dk 0 (dN (cz lw (lF dh L) 0 L AE) (dX 0 (CF.res cf_ref30_Same) k))) .ret (xV z)=AP dh L z (λC=>k (V.sc (.bool C)) []):=by kernel_rfl
def CW(dh:gf)(L:Nat)(z:Bool->Ob Y):Ob Y:=z true
theorem JL(dh:gf)(L:Nat)(k:KK Y):(dk 0 (dN (cz lw (lF dh L) 0 L AE) (dX 0 (CF.res cf_ref30_Same) k))) (.exit 0) (zq)=CW dh L (λz=>k (V.sc (.bool z)) []):=by kernel_rfl
def nF(dh:gf)(L:Nat)(z:Bool->Ob Y)(C:Ob Y):Nat->Int->List V->List V->Ob Y
 | 0,_,_,_=>none
 | n+1,D,E,F=>sE dh L D E F z (λD E F=>nF dh L z C n D E F) C
theorem Cc(dh:gf)(L:Nat)(K:KT Y):∀ (n:Nat) (z:Int) (C D:List V),dW (cz lw (lF dh L) 0 L wc) xJ n (pG z C D) K=nF dh L (λE=>K .ret (xV E)) (K (.exit 0) (zq)) n z C D:=by
 intro n; induction n <;> intros
 ·rfl
 ·exact (L9 ..).trans (by simp only [*]; rfl)
def A6(dh:gf)(L:Nat)(C D:List V)(z:Bool->Ob Y):Ob Y:=GX dh L C D z (λE F H=>nF dh L (λI=>AP dh L I z) (CW dh L z) L E F H)
theorem V8(dh:gf)(L:Nat)(z C:List V)(k:KK Y):dx lw (lF dh L) L cf_ref30_Same [(V.agg z),(V.agg C)] [] k=A6 dh L z C (λz=>k (V.sc (.bool z)) []):=by
 refine (Uc dh L z C k).trans ?_
 unfold A6
 first
  | (simp only [Cc,Is,JL]; done)
  | (simp only [Cc]; rfl)
abbrev fI:=∀ (Y:Type),Nat->List V->List V->(Bool->Ob Y)->Ob Y
def cS:fI:=λY=>@A6 Y dh
def HU(cS:fI)(L:Nat):Dk:=dA AG λz=>dA AG λC=>d0 λY k=>cS Y L z C (λz=>k (V.sc (.bool z)) [])
theorem Vi(L:Nat):DK (HU cS L) (λ_=>dx lw (lF dh L) L cf_ref30_Same):=dy fT λz=>dy fT λC=>fS λ_ k=>V8 dh L z C k
def cf_law30_ScanRewinds:CF:=cfD yT 5
def lO:CC:=eT [1,1,1,1,0,1,0,0,1,1,0,0,1,1,0,0] cf_law30_ScanRewinds.body
def nm:CC:=eT [1,1,1,1,0,1,0,0,1,1,1] cf_law30_ScanRewinds.body
def mh:CC:=eT [1,1,1,1,0,1,0,0] cf_law30_ScanRewinds.body
def qf:CC:=eT [1,1,1,1,1] cf_law30_ScanRewinds.body
def fc:Nat->Sh:=f9 [(47,(.int .i64))]
def eZ(cT:fL)(dm:gE)(cP:fK)(cR:fJ)(cy:ft)(ca:eB)(cF:fv)(bU:dQ)(cS:fI)(L:Nat):CBC:=(eL 820 (HU cS L) (eL 827 (xo bU L) (eL 826 (Fi cF L) (eL 217 (AC ca L) (eL 815 (Fa cy L) (eL 814 (Bx cR L) (eL 411 (A1 cP L) (eL 225 (Lj dm L) (eL 813 (NN cT L) noC)))))))))
def iE:St->St:=f4 0 (bl 30064771074 71) (bl 2286371681931105938175 71)
def lZ:St->St:=f4 0 (bl 30816390352898 71) (bl 2286371696224757103359 71)
def iR(H:Int)(D:Ls)(E F:Int)(z:Ls)(C:Int):St:=⟨(jn 1 ((QQe H)::(jn 30 ((V.gs 2 D)::((QQe E)::((QQe F)::(jn 36 []))))))),(gn 22 ((.live false [(V.sl 1 z),(QQe C)])::(gn 48 [])))⟩
def jq(N:Int)(D:Ls)(E F:Int)(H:Ls)(I J:Int)(M:List V)(z:Ls)(C:Int):St:=⟨(jn 1 ((QQe N)::(jn 10 ((V.ptr 12 0)::(jn 19 ((V.gs 2 D)::((QQe E)::((QQe F)::(jn 7 ((V.gs 1 H)::((QQe I)::((QQe J)::(jn 26 []))))))))))))),(gn 12 ((.live true M)::(gn 9 ((.live false [(V.sl 1 z),(QQe C)])::(gn 48 [])))))⟩
def nU(z:Ls)(C:Int):St:=⟨(jn 71 []),(gn 22 ((.live false [(V.sl 1 z),(QQe C)])::(gn 48 [])))⟩
def je(D:Bool)(z:Ls)(C:Int):St:=⟨(jn 8 ((V.sc (.bool D))::(jn 62 []))),(gn 22 ((.live false [(V.sl 1 z),(QQe C)])::(gn 48 [])))⟩
def qG(H:Int)(D:Ls)(E F:Int)(z:Ls)(C:Int):St:=⟨(jn 1 ((QQe H)::(jn 30 ((V.gs 2 D)::((QQe E)::((QQe F)::(jn 36 []))))))),(gn 22 ((.live false [(V.sl 1 z),(QQe C)])::(gn 48 [])))⟩
abbrev oS(Y:Type):Type:=Int->Ls->Int->Int->Ls->Int->Ob Y
abbrev oV(Y:Type):Type:=Int->Ls->Int->Int->Ls->Int->Int->List V->Ls->Int->Ob Y
abbrev sJ(Y:Type):Type:=Int->Ls->Int->Int->Ls->Int->Ob Y
def uG(cT:fL)(dm:gE)(cP:fK)(cR:fJ)(cy:ft)(ca:eB)(cF:fv)(bU:dQ)(cS:fI)(L:Nat)(F:Ls)(H I J:Int)(z:oS Y):Ob Y:=cT Y L  (dm Y L F (λM N=>cP Y L (6:Int) M N (λO P Q=>cR Y L (WbO V.ag O) P Q (λE R S=>chk ((WcK E)=2/\0+2<=2) (lt (cq [(V.gs 3 ([]:Ls)),(V.gs 38 ([]:Ls))] 0 E) λC=>chk (0+2<=(WcK C)) (chk (0+2<=(WcK C)) (cy Y L (WbO V.ag (WcL 2 C)) I J (λD=>chk ((WcK (WcL 2 C))=2/\0+2<=4) (chk ((WcK D)=2/\2+2<=(WcK (cq [(V.sl 3 ([]:Ls)),(V.sl 38 ([]:Ls)),(V.sl 3 ([]:Ls)),(V.sl 38 ([]:Ls))] 0 (WcL 2 C)))) (z H (bY 2 2 (cq (cq [(V.sl 3 ([]:Ls)),(V.sl 38 ([]:Ls)),(V.sl 3 ([]:Ls)),(V.sl 38 ([]:Ls))] 0 (WcL 2 C)) 2 D)) ((WcK (bY 2 2 (cq (cq [(V.sl 3 ([]:Ls)),(V.sl 38 ([]:Ls)),(V.sl 3 ([]:Ls)),(V.sl 38 ([]:Ls))] 0 (WcL 2 C)) 2 D)):Nat):Int) (0:Int) R S))))))))))
theorem Jy(cT:fL)(dm:gE)(cP:fK)(cR:fJ)(cy:ft)(ca:eB)(cF:fv)(bU:dQ)(cS:fI)(L:Nat)(E:Ls)(z F H:Int)(k:KK Y):dx fc (eZ cT dm cP cR cy ca cF bU cS L) L cf_law30_ScanRewinds [(V.sl 1 E),(QQe z),(QQe F),(QQe H)] [] k=uG cT dm cP cR cy ca cF bU cS L E z F H (λz I J M C D=>dW (cz fc (eZ cT dm cP cR cy ca cF bU cS L) 0 L mh) iE L (iR z I J M C D) (dk 0 (dN (cz fc (eZ cT dm cP cR cy ca cF bU cS L) 0 L qf) (dX 0 (CF.res cf_law30_ScanRewinds) k)))):=by kernel_rfl
def mJ(cT:fL)(dm:gE)(cP:fK)(cR:fJ)(cy:ft)(ca:eB)(cF:fv)(bU:dQ)(cS:fI)(L:Nat)(F:Int)(H:Ls)(I E:Int)(C:Ls)(D:Int)(z:oV Y)(N:Ls->Int->Ob Y):Ob Y:=ifb (decide (E<I)) (idx H E λJ=>chk ((WcK (WcL 2 J))=2/\0+2<=2) (lt (cq [(V.gs 3 ([]:Ls)),(V.gs 38 ([]:Ls))] 0 (WcL 2 J)) λO=>ca Y L F (8:Int) (λP=>lt (Wbf .i64 ((P:Int)-(1:Int))) λM=>z F H I E (bY 1 2 [(QQe F),(QQe M)]) ((WcK (bY 1 2 [(QQe F),(QQe M)]):Nat):Int) (0:Int) O C D))) (N C D)
theorem Cw(cT:fL)(dm:gE)(cP:fK)(cR:fJ)(cy:ft)(ca:eB)(cF:fv)(bU:dQ)(cS:fI)(L:Nat)(H:Int)(D:Ls)(E F:Int)(z:Ls)(C:Int)(X:St->Ob Y)(K:KT Y):cz fc (eZ cT dm cP cR cy ca cF bU cS L) 0 L mh (iR H D E F z C) (fR iE X K)=mJ cT dm cP cR cy ca cF bU cS L H D E F z C (λH D E F I J M N z C=>dW (cz fc (eZ cT dm cP cR cy ca cF bU cS L) 0 L lO) lZ L (jq H D E F I J M N z C) (dk 2 (dk 1 (dN (cz fc (eZ cT dm cP cR cy ca cF bU cS L) 0 L nm) (fR iE X K))))) (λz C=>K (.exit 0) (nU z C)):=by kernel_rfl
def sX(cT:fL)(dm:gE)(cP:fK)(cR:fJ)(cy:ft)(ca:eB)(cF:fv)(bU:dQ)(cS:fI)(L:Nat)(C:Ls)(D:Int)(z:Bool->Ob Y):Ob Y:=z true
theorem AA(cT:fL)(dm:gE)(cP:fK)(cR:fJ)(cy:ft)(ca:eB)(cF:fv)(bU:dQ)(cS:fI)(L:Nat)(z:Ls)(C:Int)(k:KK Y):(dk 0 (dN (cz fc (eZ cT dm cP cR cy ca cF bU cS L) 0 L qf) (dX 0 (CF.res cf_law30_ScanRewinds) k))) (.exit 0) (nU z C)=sX cT dm cP cR cy ca cF bU cS L z C (λD=>k (V.sc (.bool D)) []):=by kernel_rfl
def jR(cT:fL)(dm:gE)(cP:fK)(cR:fJ)(cy:ft)(ca:eB)(cF:fv)(bU:dQ)(cS:fI)(L:Nat)(d4:Int)(I:Ls)(J M:Int)(N:Ls)(O H:Int)(E:List V)(C:Ls)(D:Int)(F:Bool->Ls->Int->Ob Y)(z:oV Y)(U:sJ Y):Ob Y:=ifb (decide (H<O)) (idx N H λX=>cI .i64 X 0 λP=>chk (0+2<=(WcK E)) (cF Y L (WbO V.ag (WcL 2 E)) P (λQ b9=>chk ((WcK Q)=2/\0+2<=2) (lt (cq [(V.gs 3 ([]:Ls)),(V.gs 38 ([]:Ls))] 0 Q) λR=>chk (0+2<=(WcK E)) (bU Y L (WbO V.ag (WcL 2 E)) P (λS c9=>chk ((WcK S)=2/\0+2<=2) (lt (cq [(V.gs 3 ([]:Ls)),(V.gs 38 ([]:Ls))] 0 S) λT=>ifb ((b9:Int) != c9) (F false C D) (chk (0+2<=(WcK R)) (chk (0+2<=(WcK T)) (cS Y L (WbO V.ag (WcL 2 R)) (WbO V.ag (WcL 2 T)) (λaa=>ifb (!aa) (F false C D) (lt (Wbf .i64 ((H:Int)+(1:Int))) λab=>z d4 I J M N O ab E C D)))))))))))) (U d4 I J M C D)
theorem vu(cT:fL)(dm:gE)(cP:fK)(cR:fJ)(cy:ft)(ca:eB)(cF:fv)(bU:dQ)(cS:fI)(L:Nat)(N:Int)(D:Ls)(E F:Int)(H:Ls)(I J:Int)(M:List V)(z:Ls)(C:Int)(X:St->Ob Y)(K:KT Y):cz fc (eZ cT dm cP cR cy ca cF bU cS L) 0 L lO (jq N D E F H I J M z C) (fR lZ X K)=jR cT dm cP cR cy ca cF bU cS L N D E F H I J M z C (λO z C=>K .ret (je O z C)) (λN D E F H I J M z C=>X (jq N D E F H I J M z C)) (λN D E F z C=>K (.exit 2) (qG N D E F z C)):=by kernel_rfl
def oq(cT:fL)(dm:gE)(cP:fK)(cR:fJ)(cy:ft)(ca:eB)(cF:fv)(bU:dQ)(cS:fI)(L:Nat)(E:Bool)(z:Ls)(C:Int)(D:Bool->Ls->Int->Ob Y):Ob Y:=D E z C
theorem tZ(cT:fL)(dm:gE)(cP:fK)(cR:fJ)(cy:ft)(ca:eB)(cF:fv)(bU:dQ)(cS:fI)(L:Nat)(D:Bool)(z:Ls)(C:Int)(X:St->Ob Y)(K:KT Y):(dk 2 (dk 1 (dN (cz fc (eZ cT dm cP cR cy ca cF bU cS L) 0 L nm) (fR iE X K)))) .ret (je D z C)=oq cT dm cP cR cy ca cF bU cS L D z C (λD z C=>K .ret (je D z C)):=by kernel_rfl
def li(cT:fL)(dm:gE)(cP:fK)(cR:fJ)(cy:ft)(ca:eB)(cF:fv)(bU:dQ)(cS:fI)(L:Nat)(J:Int)(E:Ls)(F H:Int)(C:Ls)(D:Int)(z:oS Y):Ob Y:=lt (Wbf .i64 ((H:Int)+(1:Int))) λI=>z J E F I C D
theorem ur(cT:fL)(dm:gE)(cP:fK)(cR:fJ)(cy:ft)(ca:eB)(cF:fv)(bU:dQ)(cS:fI)(L:Nat)(H:Int)(D:Ls)(E F:Int)(z:Ls)(C:Int)(X:St->Ob Y)(K:KT Y):(dk 2 (dk 1 (dN (cz fc (eZ cT dm cP cR cy ca cF bU cS L) 0 L nm) (fR iE X K)))) (.exit 2) (qG H D E F z C)=li cT dm cP cR cy ca cF bU cS L H D E F z C (λH D E F z C=>X (iR H D E F z C)):=by kernel_rfl
def rV(cT:fL)(dm:gE)(cP:fK)(cR:fJ)(cy:ft)(ca:eB)(cF:fv)(bU:dQ)(cS:fI)(L:Nat)(E:Bool)(C:Ls)(D:Int)(z:Bool->Ob Y):Ob Y:=z E
theorem zY(cT:fL)(dm:gE)(cP:fK)(cR:fJ)(cy:ft)(ca:eB)(cF:fv)(bU:dQ)(cS:fI)(L:Nat)(D:Bool)(z:Ls)(C:Int)(k:KK Y):(dk 0 (dN (cz fc (eZ cT dm cP cR cy ca cF bU cS L) 0 L qf) (dX 0 (CF.res cf_law30_ScanRewinds) k))) .ret (je D z C)=rV cT dm cP cR cy ca cF bU cS L D z C (λE=>k (V.sc (.bool E)) []):=by kernel_rfl
def gV(cT:fL)(dm:gE)(cP:fK)(cR:fJ)(cy:ft)(ca:eB)(cF:fv)(bU:dQ)(cS:fI)(L:Nat)(D:Bool->Ls->Int->Ob Y)(E:sJ Y):Nat->Int->Ls->Int->Int->Ls->Int->Int->List V->Ls->Int->Ob Y
 | 0,_,_,_,_,_,_,_,_,_,_=>none
 | n+1,P,F,H,I,J,M,N,O,z,C=>jR cT dm cP cR cy ca cF bU cS L P F H I J M N O z C D (λP F H I J M N O z C=>gV cT dm cP cR cy ca cF bU cS L D E n P F H I J M N O z C) E
theorem oo(cT:fL)(dm:gE)(cP:fK)(cR:fJ)(cy:ft)(ca:eB)(cF:fv)(bU:dQ)(cS:fI)(L:Nat)(K:KT Y):∀ (n:Nat) (H:Int) (D:Ls) (E F:Int) (I:Ls) (J M:Int) (N:List V) (z:Ls) (C:Int),dW (cz fc (eZ cT dm cP cR cy ca cF bU cS L) 0 L lO) lZ n (jq H D E F I J M N z C) K=gV cT dm cP cR cy ca cF bU cS L (λO z C=>K .ret (je O z C)) (λH D E F z C=>K (.exit 2) (qG H D E F z C)) n H D E F I J M N z C:=by
 intro n; induction n <;> intros
 ·rfl
 ·exact (vu ..).trans (by simp only [*]; rfl)
def j4(cT:fL)(dm:gE)(cP:fK)(cR:fJ)(cy:ft)(ca:eB)(cF:fv)(bU:dQ)(cS:fI)(L:Nat)(I:Int)(E:Ls)(F H:Int)(z:Ls)(C:Int)(M:Ls->Int->Ob Y)(J:Bool->Ls->Int->Ob Y)(D:oS Y):Ob Y:=mJ cT dm cP cR cy ca cF bU cS L I E F H z C (λI E F H N O P Q z C=>gV cT dm cP cR cy ca cF bU cS L (λR z C=>oq cT dm cP cR cy ca cF bU cS L R z C J) (λI E F H z C=>li cT dm cP cR cy ca cF bU cS L I E F H z C D) L I E F H N O P Q z C) M
theorem Br(cT:fL)(dm:gE)(cP:fK)(cR:fJ)(cy:ft)(ca:eB)(cF:fv)(bU:dQ)(cS:fI)(L:Nat)(H:Int)(D:Ls)(E F:Int)(z:Ls)(C:Int)(X:St->Ob Y)(K:KT Y):cz fc (eZ cT dm cP cR cy ca cF bU cS L) 0 L mh (iR H D E F z C) (fR iE X K)=j4 cT dm cP cR cy ca cF bU cS L H D E F z C (λz C=>K (.exit 0) (nU z C)) (λI z C=>K .ret (je I z C)) (λH D E F z C=>X (iR H D E F z C)):=by
 refine (Cw cT dm cP cR cy ca cF bU cS L H D E F z C X K).trans ?_
 unfold j4
 first
  | (simp only [oo,tZ,ur]; done)
  | (simp only [oo]; rfl)
def jy(cT:fL)(dm:gE)(cP:fK)(cR:fJ)(cy:ft)(ca:eB)(cF:fv)(bU:dQ)(cS:fI)(L:Nat)(E:Ls->Int->Ob Y)(D:Bool->Ls->Int->Ob Y):Nat->Int->Ls->Int->Int->Ls->Int->Ob Y
 | 0,_,_,_,_,_,_=>none
 | n+1,J,F,H,I,z,C=>j4 cT dm cP cR cy ca cF bU cS L J F H I z C E D (λJ F H I z C=>jy cT dm cP cR cy ca cF bU cS L E D n J F H I z C)
theorem rX(cT:fL)(dm:gE)(cP:fK)(cR:fJ)(cy:ft)(ca:eB)(cF:fv)(bU:dQ)(cS:fI)(L:Nat)(K:KT Y):∀ (n:Nat) (H:Int) (D:Ls) (E F:Int) (z:Ls) (C:Int),dW (cz fc (eZ cT dm cP cR cy ca cF bU cS L) 0 L mh) iE n (iR H D E F z C) K=jy cT dm cP cR cy ca cF bU cS L (λz C=>K (.exit 0) (nU z C)) (λI z C=>K .ret (je I z C)) n H D E F z C:=by
 intro n; induction n <;> intros
 ·rfl
 ·exact (Br ..).trans (by simp only [*]; rfl)
def qq(cT:fL)(dm:gE)(cP:fK)(cR:fJ)(cy:ft)(ca:eB)(cF:fv)(bU:dQ)(cS:fI)(L:Nat)(J:Ls)(E M N:Int)(D:Bool->Ob Y):Ob Y:=uG cT dm cP cR cy ca cF bU cS L J E M N (λE F H I z C=>jy cT dm cP cR cy ca cF bU cS L (λz C=>sX cT dm cP cR cy ca cF bU cS L z C D) (λO z C=>rV cT dm cP cR cy ca cF bU cS L O z C D) L E F H I z C)
theorem JF(cT:fL)(dm:gE)(cP:fK)(cR:fJ)(cy:ft)(ca:eB)(cF:fv)(bU:dQ)(cS:fI)(L:Nat)(z:Ls)(C D E:Int)(k:KK Y):dx fc (eZ cT dm cP cR cy ca cF bU cS L) L cf_law30_ScanRewinds [(V.sl 1 z),(QQe C),(QQe D),(QQe E)] [] k=qq cT dm cP cR cy ca cF bU cS L z C D E (λz=>k (V.sc (.bool z)) []):=by
 refine (Jy cT dm cP cR cy ca cF bU cS L z C D E k).trans ?_
 unfold qq
 first
  | (simp only [rX,AA,zY]; done)
  | (simp only [rX]; rfl)
abbrev CA:=∀ (Y:Type),Nat->Ls->Int->Int->Int->(Bool->Ob Y)->Ob Y
def jQ:CA:=λY=>@qq Y cT dm cP cR cy ca cF bU cS
def u1(jQ:CA)(L:Nat):Dk:=dA (AL 1) λz=>dA (AI .i64) λC=>dA (AI .i64) λD=>dA (AI .i64) λE=>d0 λY k=>jQ Y L z C D E (λz=>k (V.sc (.bool z)) [])
theorem Ju(L:Nat):DK (u1 jQ L) (λ_=>dx fc (eZ cT dm cP cR cy ca cF bU cS L) L cf_law30_ScanRewinds):=dy ji λz=>dy gX λC=>dy gX λD=>dy gX λE=>fS λ_ k=>JF cT dm cP cR cy ca cF bU cS L z C D E k
theorem Zj(L:Nat):FOk (dl rows) L 531 (Q1 rC L) 1:=eM (D:=0) (by kernel_rfl) λm hm=>⟨i9,jc L,eF,WY L⟩
theorem UG(L:Nat):FOk (dl rows) L 476 (Fe cv L) 300:=uF (yX 476 L) (SX L)
theorem XN(L:Nat):FOk (dl rows) L 429 (GH cD L) 300:=uF (yX 429 L) (TX L)
theorem Qd(L:Nat):FOk (dl rows) L 472 (B4 cg L) 300:=uF (yX 472 L) (Nz L)
theorem K4(L:Nat):FOk (dl rows) L 480 (Ct bR L) 1:=eM (D:=0) (by kernel_rfl) λm hm=>⟨lH,lx L,eF,UJ L⟩
theorem zu(L:Nat):FOk (dl rows) L 193 (tb cQ L) 1:=eM (D:=0) (by kernel_rfl) λm hm=>⟨Cn,A5 L,eF,Qi L⟩
theorem Xq(L:Nat):FOk (dl rows) L 453 (Ht hY L) 2:=eM (D:=1) (by kernel_rfl) λm hm=>⟨mK,mF cQ L,(dw eF (zu L m (by omega))),TH L⟩
theorem NZ(L:Nat):FOk (dl rows) L 441 (zw ci L) 3:=eM (D:=2) (by kernel_rfl) λm hm=>⟨xZ,xB hY L,(dw eF (Xq L m (by omega))),Nm L⟩
theorem UN(L:Nat):FOk (dl rows) L 477 (FL co L) 4:=eM (D:=3) (by kernel_rfl) λm hm=>⟨gL,gM bR ci L,(dw (dw eF (K4 L m (by omega))) (NZ L m (by omega))),Rz L⟩
theorem Wg(L:Nat):FOk (dl rows) L 478 (ES cr L) 300:=uF (yX 478 L) (S5 L)
theorem Zd(L:Nat):FOk (dl rows) L 481 (Jo cG L) 300:=uF (yX 481 L) (Xd L)
theorem QO(L:Nat):FOk (dl rows) L 483 (AQ ce L) 300:=uF (yX 483 L) (Ou L)
theorem Wi(L:Nat):FOk (dl rows) L 482 (FK cu L) 300:=uF (yX 482 L) (SU L)
theorem QE(L:Nat):FOk (dl rows) L 479 (B5 cd L) 1:=eM (D:=0) (by kernel_rfl) λm hm=>⟨zN,zR L,eF,NT L⟩
theorem P3(L:Nat):FOk (dl rows) L 444 (I6 l5 L) 301:=eM (D:=300) (by kernel_rfl) λm hm=>⟨fx,fw cv cD cg co cr cG ce cu bR cd L,(dw (dw (dw (dw (dw (dw (dw (dw (dw (dw eF (UG L m (by omega))) (XN L m (by omega))) (Qd L m (by omega))) (UN L m (by omega))) (Wg L m (by omega))) (Zd L m (by omega))) (QO L m (by omega))) (Wi L m (by omega))) (K4 L m (by omega))) (QE L m (by omega))),Pt L⟩
theorem ZY(L:Nat):FOk (dl rows) L 225 (Lj dm L) 1:=eM (D:=0) (by kernel_rfl) λm hm=>⟨Jt,JY L,eF,Y2 L⟩
theorem Pi(L:Nat):FOk (dl rows) L 247 (uh fW L) 1:=eM (D:=0) (by kernel_rfl) λm hm=>⟨yz,yw L,eF,Nf L⟩
theorem HJ(L:Nat):FOk (dl rows) L 217 (AC ca L) 1:=eM (D:=0) (by kernel_rfl) λm hm=>⟨Jp,J1 L,eF,YX L⟩
theorem vO(L:Nat):FOk (dl rows) L 231 (oi bW L) 2:=eM (D:=1) (by kernel_rfl) λm hm=>⟨yx,xQ fW ca L,(dw (dw eF (Pi L m (by omega))) (HJ L m (by omega))),Nk L⟩
theorem Np(L:Nat):FOk (dl rows) L 423 (sA fM L) 3:=eM (D:=2) (by kernel_rfl) λm hm=>⟨jD,jB bW L,(dw eF (vO L m (by omega))),Ma L⟩
theorem Xa(L:Nat):FOk (dl rows) L 422 (G0 iP L) 400:=uF (yX 422 L) (VX L)
theorem Xv(L:Nat):FOk (dl rows) L 411 (A1 cP L) 401:=eM (D:=400) (by kernel_rfl) λm hm=>⟨Fn,Fx bW fM iP L,(dw (dw (dw eF (vO L m (by omega))) (Np L m (by omega))) (Xa L m (by omega))),UE L⟩
theorem US(L:Nat):FOk (dl rows) L 448 (Fy dH L) 1:=eM (D:=0) (by kernel_rfl) λm hm=>⟨Df,C8 L,eF,RA L⟩
theorem Qp(L:Nat):FOk (dl rows) L 136 (BH gm L) 1:=eM (D:=0) (by kernel_rfl) λm hm=>⟨jG,jJ L,eF,O1 L⟩
theorem HD(L:Nat):FOk (dl rows) L 800 (w8 bV L) 2:=eM (D:=1) (by kernel_rfl) λm hm=>⟨Bb,BI gm L,(dw eF (Qp L m (by omega))),P5 L⟩
theorem TT(L:Nat):FOk (dl rows) L 792 (E8 cE L) 3:=eM (D:=2) (by kernel_rfl) λm hm=>⟨km,kl bV L,(dw eF (HD L m (by omega))),SR L⟩
theorem GU(L:Nat):FOk (dl rows) L 831 (BC cm L) 1:=eM (D:=0) (by kernel_rfl) λm hm=>⟨JQ,JP L,eF,Y0 L⟩
theorem Kg(L:Nat):FOk (dl rows) L 832 (Bd cA L) 1:=eM (D:=0) (by kernel_rfl) λm hm=>⟨lC,lE L,eF,Vz L⟩
theorem zaR(L:Nat):FOk (dl rows) L 791 (LY jg L) 1:=eM (D:=0) (by kernel_rfl) λm hm=>⟨JG,J0 L,eF,Za L⟩
theorem Sl(L:Nat):FOk (dl rows) L 793 (Dy cC L) 2:=eM (D:=1) (by kernel_rfl) λm hm=>⟨Bn,Bh jg L,(dw eF (zaR L m (by omega))),Qc L⟩
theorem BR(L:Nat):FOk (dl rows) L 817 (uw cW L) 4:=eM (D:=3) (by kernel_rfl) λm hm=>⟨gN,gO cE cm cA cC L,(dw (dw (dw (dw eF (TT L m (by omega))) (GU L m (by omega))) (Kg L m (by omega))) (Sl L m (by omega))),RJ L⟩
theorem tO(L:Nat):FOk (dl rows) L 829 (pN bT L) 1:=eM (D:=0) (by kernel_rfl) λm hm=>⟨Bg,AF L,eF,Qq L⟩
theorem Y4(L:Nat):FOk (dl rows) L 819 (JB dR L) 5:=eM (D:=4) (by kernel_rfl) λm hm=>⟨Hh,HR cW cm cA bT L,(dw (dw (dw (dw eF (BR L m (by omega))) (GU L m (by omega))) (Kg L m (by omega))) (tO L m (by omega))),WS L⟩
theorem XG(L:Nat):FOk (dl rows) L 797 (GP dL L) 1:=eM (D:=0) (by kernel_rfl) λm hm=>⟨mO,mL L,eF,Ua L⟩
theorem HX(L:Nat):FOk (dl rows) L 827 (xo bU L) 5:=eM (D:=4) (by kernel_rfl) λm hm=>⟨kS,kR cW cm bT dL L,(dw (dw (dw (dw eF (BR L m (by omega))) (GU L m (by omega))) (tO L m (by omega))) (XG L m (by omega))),P6 L⟩
theorem yi(L:Nat):FOk (dl rows) L 825 (re bZ L) 1:=eM (D:=0) (by kernel_rfl) λm hm=>⟨ka,j9 L,eF,Of L⟩
theorem MX(L:Nat):FOk (dl rows) L 837 (DM dF L) 2:=eM (D:=1) (by kernel_rfl) λm hm=>⟨nh,nz bZ L,(dw eF (yi L m (by omega))),Xk L⟩
theorem KN(L:Nat):FOk (dl rows) L 130 (AB dv L) 1:=eM (D:=0) (by kernel_rfl) λm hm=>⟨Ff,EX L,eF,VR L⟩
theorem E6(L:Nat):FOk (dl rows) L 802 (yH bP L) 2:=eM (D:=1) (by kernel_rfl) λm hm=>⟨mw,mA dv L,(dw eF (KN L m (by omega))),XP L⟩
theorem LQ(L:Nat):FOk (dl rows) L 160 (vT fN L) 2:=eM (D:=1) (by kernel_rfl) λm hm=>⟨uU,uZ cQ L,(dw eF (zu L m (by omega))),KZ L⟩
theorem RU(L:Nat):FOk (dl rows) L 194 (DA gW L) 1:=eM (D:=0) (by kernel_rfl) λm hm=>⟨kQ,kU L,eF,Qz L⟩
theorem Ni(L:Nat):FOk (dl rows) L 159 (yf fU L) 2:=eM (D:=1) (by kernel_rfl) λm hm=>⟨wC,wA gW cQ L,(dw (dw eF (RU L m (by omega))) (zu L m (by omega))),Mo L⟩
theorem V2(L:Nat):FOk (dl rows) L 138 (Fq dJ L) 3:=eM (D:=2) (by kernel_rfl) λm hm=>⟨DJ,Db fN fU L,(dw (dw eF (LQ L m (by omega))) (Ni L m (by omega))),R9 L⟩
theorem Xo(L:Nat):FOk (dl rows) L 822 (Hl dO L) 4:=eM (D:=3) (by kernel_rfl) λm hm=>⟨mN,mD bZ dF bP dJ L,(dw (dw (dw (dw eF (yi L m (by omega))) (MX L m (by omega))) (E6 L m (by omega))) (V2 L m (by omega))),UL L⟩
theorem Xe(L:Nat):FOk (dl rows) L 840 (G4 hS L) 5:=eM (D:=4) (by kernel_rfl) λm hm=>⟨E5,Fc cW bZ L,(dw (dw eF (BR L m (by omega))) (yi L m (by omega))),Tu L⟩
theorem VD(L:Nat):FOk (dl rows) L 522 (Fs io L) 300:=uF (yX 522 L) (Sk L)
theorem TW(L:Nat):FOk (dl rows) L 801 (E7 bX L) 3:=eM (D:=2) (by kernel_rfl) λm hm=>⟨lI,lJ bP L,(dw eF (E6 L m (by omega))),Tp L⟩
theorem zay(L:Nat):FOk (dl rows) L 517 (Mi cx L) 300:=uF (yX 517 L) (YZ L)
theorem YQ(L:Nat):FOk (dl rows) L 803 (Kb cj L) 3:=eM (D:=2) (by kernel_rfl) λm hm=>⟨iL,iM bV L,(dw eF (HD L m (by omega))),Ww L⟩
theorem W4(L:Nat):FOk (dl rows) L 795 (HC gT L) 301:=eM (D:=300) (by kernel_rfl) λm hm=>⟨ff,fh bX bP cx cj L,(dw (dw (dw (dw eF (TW L m (by omega))) (E6 L m (by omega))) (zay L m (by omega))) (YQ L m (by omega))),TB L⟩
theorem Qa(L:Nat):FOk (dl rows) L 841 (Cm gq L) 2:=eM (D:=1) (by kernel_rfl) λm hm=>⟨kc,ke bT L,(dw eF (tO L m (by omega))),Pf L⟩
theorem Vu(L:Nat):FOk (dl rows) L 828 (EZ dD L) 302:=eM (D:=301) (by kernel_rfl) λm hm=>⟨DG,C3 hS io dF gT gq L,(dw (dw (dw (dw (dw eF (Xe L m (by omega))) (VD L m (by omega))) (MX L m (by omega))) (W4 L m (by omega))) (Qa L m (by omega))),To L⟩
theorem WA(L:Nat):FOk (dl rows) L 814 (Bx cR L) 303:=eM (D:=302) (by kernel_rfl) λm hm=>⟨mM,mH bW dH dR bU dO dD L,(dw (dw (dw (dw (dw (dw eF (vO L m (by omega))) (US L m (by omega))) (Y4 L m (by omega))) (HX L m (by omega))) (Xo L m (by omega))) (Vu L m (by omega))),TJ L⟩
theorem TA(L:Nat):FOk (dl rows) L 584 (FE cU L) 1:=eM (D:=0) (by kernel_rfl) λm hm=>⟨Dq,Dh L,eF,Tr L⟩
theorem UB(L:Nat):FOk (dl rows) L 815 (Fa cy L) 2:=eM (D:=1) (by kernel_rfl) λm hm=>⟨kC,ky bT ca L,(dw (dw eF (tO L m (by omega))) (HJ L m (by omega))),Sa L⟩
theorem Wj(L:Nat):FOk (dl rows) L 830 (E9 de L) 1:=eM (D:=0) (by kernel_rfl) λm hm=>⟨kq,kv L,eF,Tc L⟩
theorem QG(L:Nat):FOk (dl rows) L 155 (Ck gk L) 1:=eM (D:=0) (by kernel_rfl) λm hm=>⟨zn,zJ L,eF,NA L⟩
theorem Lk(L:Nat):FOk (dl rows) L 190 (vE fy L) 1:=eM (D:=0) (by kernel_rfl) λm hm=>⟨uM,uP L,eF,KP L⟩
theorem Jv(L:Nat):FOk (dl rows) L 156 (t9 eX L) 2:=eM (D:=1) (by kernel_rfl) λm hm=>⟨sY,sI fy L,(dw eF (Lk L m (by omega))),Ik L⟩
theorem XK(L:Nat):FOk (dl rows) L 154 (H8 iu L) 1:=eM (D:=0) (by kernel_rfl) λm hm=>⟨lz,lG L,eF,Vs L⟩
theorem WJ(L:Nat):FOk (dl rows) L 135 (Hg iq L) 3:=eM (D:=2) (by kernel_rfl) λm hm=>⟨Fg,EV gk eX iu L,(dw (dw (dw eF (QG L m (by omega))) (Jv L m (by omega))) (XK L m (by omega))),Tw L⟩
theorem QL(L:Nat):FOk (dl rows) L 587 (B9 dq L) 4:=eM (D:=3) (by kernel_rfl) λm hm=>⟨zP,z4 iq L,(dw eF (WJ L m (by omega))),Nv L⟩
theorem Ub(L:Nat):FOk (dl rows) L 551 (ET cX L) 5:=eM (D:=4) (by kernel_rfl) λm hm=>⟨ku,kE dq L,(dw eF (QL L m (by omega))),SZ L⟩
theorem Ws(L:Nat):FOk (dl rows) L 816 (GZ cZ L) 6:=eM (D:=5) (by kernel_rfl) λm hm=>⟨iI,iG de cX L,(dw (dw eF (Wj L m (by omega))) (Ub L m (by omega))),V7 L⟩
theorem wW(L:Nat):FOk (dl rows) L 843 (mC bO L) 1:=eM (D:=0) (by kernel_rfl) λm hm=>⟨lU,lX L,eF,vF L⟩
theorem vv(L:Nat):FOk (dl rows) L 576 (lM bN L) 1:=eM (D:=0) (by kernel_rfl) λm hm=>⟨lk,lj L,eF,uX L⟩
theorem Wp(L:Nat):FOk (dl rows) L 835 (HF dc L) 2:=eM (D:=1) (by kernel_rfl) λm hm=>⟨iD,iH bO bN cU L,(dw (dw (dw eF (wW L m (by omega))) (vv L m (by omega))) (TA L m (by omega))),VK L⟩
theorem FR(L:Nat):FOk (dl rows) L 839 (qN ch L) 1:=eM (D:=0) (by kernel_rfl) λm hm=>⟨zX,zh L,eF,Pj L⟩
theorem tg(L:Nat):FOk (dl rows) L 845 (i6 bS L) 2:=eM (D:=1) (by kernel_rfl) λm hm=>⟨d6,d9 ch L,(dw eF (FR L m (by omega))),sT L⟩
theorem sP(L:Nat):FOk (dl rows) L 838 (iX bM L) 3:=eM (D:=2) (by kernel_rfl) λm hm=>⟨eE,eD bS ch L,(dw (dw eF (tg L m (by omega))) (FR L m (by omega))),se L⟩
theorem TZ(L:Nat):FOk (dl rows) L 826 (Fi cF L) 7:=eM (D:=6) (by kernel_rfl) λm hm=>⟨ij,ik cZ dc bM L,(dw (dw (dw eF (Ws L m (by omega))) (Wp L m (by omega))) (sP L m (by omega))),RQ L⟩
theorem Qu(L:Nat):FOk (dl rows) L 181 (BZ gK L) 2:=eM (D:=1) (by kernel_rfl) λm hm=>⟨zt,zV dv L,(dw eF (KN L m (by omega))),N1 L⟩
theorem Ok(L:Nat):FOk (dl rows) L 440 (zT dp L) 3:=eM (D:=2) (by kernel_rfl) λm hm=>⟨yl,xC gK L,(dw eF (Qu L m (by omega))),M5 L⟩
theorem M9(L:Nat):FOk (dl rows) L 438 (yd dh L) 4:=eM (D:=3) (by kernel_rfl) λm hm=>⟨iZ,i3 dp L,(dw eF (Ok L m (by omega))),Ly L⟩
theorem WM(L:Nat):FOk (dl rows) L 820 (HU cS L) 5:=eM (D:=4) (by kernel_rfl) λm hm=>⟨lw,lF dh L,(dw eF (M9 L m (by omega))),Vi L⟩
end
end
section
variable {N L:Nat}{W:Nat->Int}{v:V}{r:List V}{es cs:Ls}{ht ix:Int}{h:List Int}
variable {Y:Type}
theorem zmn{q sz:Nat}{rows:List (List A)}(h:G N W (.am q sz rows) v):∃ es,v=mkL q sz es/\rows.length=es.length:=by
 generalize ha:A.am q sz rows=a at h;cases h <;> first | (cases ha; done) | skip
 rename_i es hl hr hh;cases ha;exact ⟨es,rfl,hl⟩
theorem zku(h:G N W .bool v):∃ b,v=.sc (.bool b):=by
 cases h with
 | bool b=>exact ⟨b,rfl⟩
structure CoT where
 h:List Int
 ix:Int
 val:Int
 s:Ls
 ht:Int
 cb:Bool
variable {c:CoT}{l:List CoT}
def cpt(c:CoT):List V:=row .u8 c.h++[V.sc (.int .u32 c.ix)]
def d8(c:CoT):List V:=cpt c++[V.sc (.int .i64 c.val),V.sl 1 c.s,V.sc (.int .i64 c.ht),V.sc (.bool c.cb)]
structure CoOk (c:CoT):Prop where
 hl:c.h.length=32
 sl:c.s.length=4
 g:∀ N W,GL N W qV (d8 c)
theorem KR(h:c.h.length=32):(cpt c).length=33:=by simp [cpt,iQ,h]
theorem zo(h:c.h.length=32):(d8 c).length=37:=by simp [d8,KR h]
theorem YF(h:c.h.length=32):WcL 33 (d8 c)=cpt c:=by unfold d8; rw [<- KR h,List.take_left]
theorem Mt(h:c.h.length=32):WcL 37 (d8 c)=d8 c:=WbR (by rw [zo h]; omega)
theorem zj0(c:CoT):(cpt c).map V.ag=cpt c:=by simp only [cpt,WcU,XJ]; rfl
theorem zhv(c:CoT):(d8 c).map V.ag=d8 c:=by simp only [d8,WcU,zj0]; rfl
theorem zcZ(h:c.h.length=32)(j:Nat):(d8 c)[33+j]?=[V.sc (.int .i64 c.val),V.sl 1 c.s,V.sc (.int .i64 c.ht),V.sc (.bool c.cb)][j]?:=by
 unfold d8;rw [Wal (by rw [KR h]; omega),KR h];congr 1; omega
theorem zjy(h:∀ N W,GL N W qV r):∃ c,r=d8 c/\CoOk c:=by
 have key:∃ c,r=d8 c/\c.h.length=32/\c.s.length=4:=by
  obtain ⟨a,r,rfl,h1,h2⟩:=Kk (h 0 (λ_=>0));obtain ⟨l,rfl,hl,_⟩:=NS h1;obtain ⟨v1,r,rfl,g1,h2⟩:=jk h2;obtain ⟨v2,r,rfl,g2,h2⟩:=jk h2;obtain ⟨v3,r,rfl,g3,h2⟩:=jk h2;obtain ⟨v4,r,rfl,g4,h2⟩:=jk h2;obtain ⟨v5,r,rfl,g5,h2⟩:=jk h2;obtain rfl:=wB h2;obtain ⟨n1,rfl,_⟩:=tu g1;obtain ⟨n2,rfl,_⟩:=tu g2;obtain ⟨s,rfl,hs⟩:=zmn g3;obtain ⟨n4,rfl,_⟩:=tu g4;obtain ⟨b,rfl⟩:=zku g5;exact ⟨⟨l,n1,n2,s,n4,b⟩,by simp only [d8,cpt,WcH]; rfl,hl,hs.symm⟩
 obtain ⟨c,rfl,h1,h2⟩:=key;exact ⟨c,rfl,h1,h2,h⟩
theorem Ss(h:∀ r∈es,∀ N W,GL N W qV r):∃ l:List CoT,es=l.map d8/\∀ c∈l,CoOk c:=by
 induction es with
 | nil=>exact ⟨[],rfl,by simp⟩
 | cons e es ih=>
  obtain ⟨c,rfl,hc⟩:=zjy (h _ (List.mem_cons_self ..));obtain ⟨l,rfl,hl⟩:=ih λr hr=>h r (List.mem_cons_of_mem _ hr);exact ⟨c::l,rfl,λx hx=>(WbL.1 hx).elim (λe=>e ▸ hc) (hl x)⟩
theorem Oj{q sz:Nat}{lo hi:Int}{row:List A}(hq:q<2)(h:∀ N W,G N W (.ai q sz lo hi row) v):∃ es,v=mkL q sz es/\lo<=(es.length:Int)/\(es.length:Int)<=hi/\∀ r∈es,∀ N W,GL N W row r:=by
 obtain ⟨es,rfl,h1,h2,_⟩:=U9 (h 0 (λ_=>0));refine ⟨es,rfl,h1,h2,λr hr N W=>?_⟩;obtain ⟨es',e,_,_,h3⟩:=U9 (h N W);have:es=es':=by
  match q,hq with
  | 0,_=>simpa [mkL] using e
  | 1,_=>simpa [mkL] using e
 subst this; exact h3 r hr
theorem Tg{q sz:Nat}{lo hi:Int}{row:List A}(h1:lo<=(es.length:Int))(h2:(es.length:Int)<=hi)(h:∀ r∈es,GL N W row r):G N W (.ai q sz lo hi row) (mkL q sz es):=
 .ai q sz lo hi row es ⟨h1,h2⟩ (λr hr=>(h r hr).1) (λr hr=>(h r hr).2)
theorem P0{n:Int}(hl:∀ c∈l,CoOk c)(h:(l.length:Int)<=n):G N W (um n) (.sl 37 (l.map d8)):=by
 refine Tg (q:=0) (by simp) (by simpa using h) (λr hr=>?_);obtain ⟨c,hc,rfl⟩:=WbX.1 hr;exact (hl c hc).g N W
def lW(ht:Int)(h:List Int)(cs:Ls):List V:=V.sc (.int .i64 ht)::(row .u8 h++[V.sl 37 cs])
theorem ny(hl:h.length=32):(lW ht h cs).length=34:=by simp [lW,iQ,hl]
theorem EF(hl:h.length=32)(k:Ls->Option Y):cLd 37 (lW ht h cs) 33 k=k cs:=by
 refine jZ ?_ k;unfold lW;rw [show 33=32+1 by rfl,List.getElem?_cons_succ,Wal (by rw [iQ]; omega),iQ,hl]; rfl
theorem GW(k:Int->Option Y):cI .i64 (lW ht h cs) 0 k=k ht:=dg rfl k
theorem Sv{cs':Ls}(hl:h.length=32):cq (lW ht h cs) 33 [V.sl 37 cs']=lW ht h cs':=by
 unfold cq lW;have e:(row WcX h).length=32:=by rw [iQ,hl]
 rw [show (33:Nat)=32+1 by rfl,List.take_succ_cons,List.take_left' e];simp only [WcW,List.length_nil];rw [show (32+1+(0+1):Nat)=33+1 by rfl,List.drop_succ_cons,show (33:Nat)=(row WcX h).length+1 by rw [e],List.drop_append];simp
theorem za7:(lW ht h cs).map V.ag=lW ht h cs:=by
 simp only [lW,List.map_cons,WcU,XJ]; rfl
theorem ziJ{N:Nat}{W:Nat->Int}{k:IntKind}{lo hi:Int}:∀ {l:List Int},(∀ x∈l,lo<=x/\x<=hi)->GL N W (Wad l.length (.iv k lo hi)) (row k l)
 | [],_=>All2.nil
 | x::l,h=>.cons (.iv k lo hi x (h x (by simp))) (ziJ λy hy=>h y (by simp [hy]))
theorem ZN{cs:List CoT}(h1:-9223372036854775808<=ht/\ht<=9223372036854775807)(hl:h.length=32)(hb:ed h)(hc:∀ c∈cs,CoOk c)(hn:cs.length<=100000):G N W sZ (.agg (lW ht h (cs.map d8))):=by
 have:GL N W vP (lW ht h (cs.map d8)):=by
  refine .cons (.iv .i64 _ _ ht h1) (All2.append ?_ (.cons (P0 hc (by omega)) .nil));have:=ziJ (N:=N) (W:=W) (k:=.u8) (lo:=0) (hi:=255) (l:=h) hb;rw [hl] at this; exact this
 exact .agg _ _ this.1 this.2
theorem zfD{cs:List CoT}(hc:∀ c∈cs,CoOk c)(hn:cs.length<=3):G N W UC (.agg [V.sl 37 (cs.map d8)]):=by
 have:GL N W N2 [V.sl 37 (cs.map d8)]:=.cons (P0 hc (by omega)) .nil;exact .agg _ _ this.1 this.2
theorem gl1{a:A}(h:G N W a v):GL N W [a] [v]:=.cons h .nil
structure TxS where
 n:Int
 h:List Int
 ix:Int
 r:List V
 outs:Ls
 m:Int
def ipt(t:TxS):List V:=row .u8 t.h++[V.sc (.int .u32 t.ix)]
def txr(t:TxS):List V:=[V.sc (.int .u32 t.n),V.sl 35 [ipt t++t.r],V.sl 2 t.outs,V.sc (.int .u32 t.m)]
structure TxSOk (t:TxS):Prop where
 hl:t.h.length=32
 rl:t.r.length=2
 g:∀ N W,GL N W aTx (txr t)
theorem zlq(h:∀ N W,GL N W aTx r):∃ t,r=txr t/\TxSOk t:=by
 have key:∃ t,r=txr t/\t.h.length=32/\t.r.length=2:=by
  obtain ⟨v1,r,rfl,g1,h⟩:=jk (h 0 (λ_=>0));obtain ⟨v2,r,rfl,g2,h⟩:=jk h;obtain ⟨v3,r,rfl,g3,h⟩:=jk h;obtain ⟨v4,r,rfl,g4,h⟩:=jk h;obtain rfl:=wB h;obtain ⟨n,rfl,_⟩:=tu g1;obtain ⟨m,rfl,_⟩:=tu g4;obtain ⟨es,rfl,e1,e2,e3⟩:=U9 g2;obtain ⟨fs,rfl,_⟩:=U9 g3;obtain ⟨i,rfl⟩:∃ i,es=[i]:=List.length_eq_one_iff.1 (by omega);obtain ⟨a,r,rfl,h1,h2⟩:=Kk (e3 i (by simp));obtain ⟨l,rfl,hl,_⟩:=NS h1;obtain ⟨w1,r,e4,q1,h3⟩:=jk h2;subst e4;obtain ⟨ix,rfl,_⟩:=tu q1;exact ⟨⟨n,l,ix,r,fs,m⟩,by simp only [txr,ipt,WcH]; rfl,hl,h3.1.symm⟩
 obtain ⟨t,rfl,h1,h2⟩:=key;exact ⟨t,rfl,h1,h2,h⟩
theorem zcT{t:TxS}(h:t.h.length=32):(ipt t).length=33:=by simp [ipt,iQ,h]
def sj(c:CoT)(h:List Int)(ix:Int):Bool:=decide (c.h=h)&&decide (c.ix=ix)
theorem ziV(hc:c.h.length=32)(hh:h.length=32)(k:Bool->Option Y):eqC 33 (cpt c) (row .u8 h++[V.sc (.int .u32 ix)]) k=k (sj c h ix):=by
 unfold eqC;rw [bQ ⟨KR hc,by simp [iQ,hh]⟩];have:j5 (cpt c) (row .u8 h++[V.sc (.int .u32 ix)])=some (sj c h ix):=by
  refine Jz (by rw [iQ,iQ,hc,hh]) (HY .u8 _ _ (by rw [hc,hh])) ?_;simp only [j5,if_pos,Option.map_some,Bool.and_true];rfl
 rw [this]
theorem zf3(l:List CoT)(hl:∀ c∈l,c.h.length=32)(hn:l.length<=1000000)(hh:h.length=32)(kr:Int->Option Y)(kx:Option Y):∀ (n i:Nat),i<=l.length->l.length-i<n ->
  pW L kr kx n (l.map d8) (l.length:Int) (i:Int) (row .u8 h++[V.sc (.int .u32 ix)])=ifb (decide (gF (λc=>sj c h ix) (l.drop i) i>=0)) (kr (gF (λc=>sj c h ix) (l.drop i) i)) kx:=by
 intro n
 induction n with
 | zero=>intro i h1 h2; omega
 | succ n ih=>
  intro i h1 h2;simp only [pW,zD,cM];by_cases hi:i<l.length
  ·have hc:=hl _ (List.getElem_mem hi);rw [cY (by omega),fj (eH hi),bQ (by simp [iQ,hh]),YF hc,WbR (show (row WcX h++[V.sc (.int .u32 ix)]).length<=33 by simp [iQ,hh]),ziV hc hh,up (by omega),ih (i+1) (by omega) (by omega),List.drop_eq_getElem_cons hi];rw [show gF (λc=>sj c h ix) (l[i]::WcN (i+1) l) i=if sj l[i] h ix=true then (i:Int) else gF (λc=>sj c h ix) (WcN (i+1) l) (i+1) from rfl];cases sj l[i] h ix with
   | true=>rw [ii,if_pos rfl,cY (by omega)]
   | false=>rw [eI,if_neg (by simp)]
  ·rw [di (by omega),List.drop_of_length_le (by omega)];rw [di (by simp [gF])]
theorem zcj(hL:2000000<=L)(hl:∀ c∈l,c.h.length=32)(hn:l.length<=1000000)(hh:h.length=32)(k:Int->Option Y):bR Y L (l.map d8) (row .u8 h++[V.sc (.int .u32 ix)]) k=k (gF (λc=>sj c h ix) l 0):=by
 simp only [bR,Be,HZ,List.length_map];have:=zf3 (L:=L) l hl hn (ix:=ix) hh (λp4=>qo L p4 k) (qO L k) L 0 (by omega) (by omega);rw [show ((0:Int))=((0:Nat):Int) from rfl,this,List.drop_zero];simp only [qo,qO];rcases qW (λc=>sj c h ix) l 0 with ⟨e,_⟩ | ⟨i,hi,e,_⟩
 ·rw [e,di (by omega)]
 ·rw [e,cY (by omega)]
end
section
variable {Y:Type}
def zs(n:Nat):Nat:=(64-(n+9) % 64) % 64
def pb(n i:Nat):Int:=Wbf .u8 (SG .u64 (Wbf .u64 ((8:Int)*(n:Int))) ((56-8*i:Nat):Int))
def pbs(n:Nat):Nat->Nat->List Int
 | 0,_=>[]
 | m+1,i=>pb n i::pbs n m (i+1)
theorem zb0(n:Nat):∀ m i:Nat,(pbs n m i).length=m
 | 0,_=>rfl
 | m+1,i=>by rw [pbs,WcW,zb0 n m]
theorem Zg(n:Int):0<=Wbf .u8 n/\Wbf .u8 n<=255:=by
 unfold Wbf;simp only [IntKind.signed,Bool.false_and,Bool.false_eq_true,if_false];have h1:=Int.emod_nonneg n (show (2:Int) ^ IntKind.bits .u8≠0 by decide);have h2:=Int.emod_lt_of_pos n (show (0:Int)<2 ^ IntKind.bits .u8 by decide);exact ⟨h1,Int.le_of_lt_add_one h2⟩
theorem zfg(n:Nat):∀ m i:Nat,∀ x∈pbs n m i,0<=x/\x<=255
 | 0,_=>λx h=>by simp [pbs] at h
 | m+1,i=>λx h=>by
  rw [pbs,WbL] at h;rcases h with rfl | h
  ·exact Zg _
  ·exact zfg n m (i+1) x h
def RF(n:Nat):List Int:=(128::Wad (zs n) 0)++pbs n 8 0
theorem zaP(n:Nat):(RF n).length=9+zs n:=by simp [RF,zb0]; omega
theorem ziW(n:Nat):∀ x∈RF n,0<=x/\x<=255:=by
 intro x hx;rw [RF,List.mem_append,WbL] at hx;rcases hx with (rfl | hx) | hx
 ·exact ⟨by decide,by decide⟩
 ·rw [List.eq_of_mem_replicate hx]; exact ⟨by decide,by decide⟩
 ·exact zfg n 8 0 x hx
theorem zdX(n:Nat):zs n<64:=Nat.mod_lt _ (by decide)
theorem zlz(n:Nat):(n+9+zs n) % 64=0:=by unfold zs; omega
theorem zkD(n k:Nat)(h:k<zs n):(n+9+k) % 64≠0:=by unfold zs at h; omega
theorem zaE(x:Int):bY 1 1 [V.sc (.int .u8 x)]=eQ .u8 [x]:=rfl
theorem Um{Y:Type}(L:Nat){n:Nat}(hn:n<=100000000)(kx:Int->Ls->Option Y):∀ (f m k:Nat),k+m=zs n->m<f->rh L kx f (n:Int) (eQ .u8 (128::Wad k 0))=kx (n:Int) (eQ .u8 (128::Wad (zs n) 0))
 | 0,m,k,_,h=>by omega
 | f+1,m,k,h1,h2=>by
  have z64:=zdX n;unfold rh BL;have e0:Wbf .u64 (((eQ .u8 (128::Wad k 0)).length:Nat):Int)=((k+1:Nat):Int):=by
   rw [kL,WcW,List.length_replicate,RC (by omega) (by omega)]
  have e1:Wbf .u64 ((n:Int)+((k+1:Nat):Int))=((n+(k+1):Nat):Int):=by rw [RC (by omega) (by omega)]; omega
  have e2:Wbf .u64 (((n+(k+1):Nat):Int)+(8:Int))=((n+9+k:Nat):Int):=by rw [RC (by omega) (by omega)]; omega
  have e3:Int.tmod ((n+9+k:Nat):Int) (64:Int)=(((n+9+k) % 64:Nat):Int):=(Int.ofNat_tmod (n+9+k) 64).symm;simp only [cM,e0,e1,e2,e3];rw [ip]
  match m,h1,h2 with
  | 0,h1,h2=>
   have:k=zs n:=by omega
   subst this;rw [if_pos (by rw [zlz]; rfl)]
  | m+1,h1,h2=>
   have hz:=zkD n k (by omega);rw [if_neg (by omega)];rw [zaE,Lp];rw [bQ (by simp [kL,cN]; omega)];have e4:(128::Wad k (0:Int))++[0]=128::Wad (k+1) 0:=by
    rw [List.cons_append,List.replicate_succ']
   rw [e4];exact Um L hn kx f m (k+1) (by omega) (by omega)
theorem zfq(L:Nat){n i:Nat}(hi:i<8){acc:List Int}(ha:acc.length<=1000000)(kh:Int->Ls->Int->Option Y)(kx:Ls->Option Y):pi L (n:Int) (eQ .u8 acc) ((7:Int)-(i:Int)) kh kx=kh (n:Int) (eQ .u8 (acc++[pb n i])) ((7:Int)-((i+1:Nat):Int)):=by
 unfold pi;have e8:Wbf .i64 ((8:Int)*((7:Int)-(i:Int)))=((56-8*i:Nat):Int):=by rw [lp (by omega) (by omega)]; omega
 have e1:Wbf .i64 (((7:Int)-(i:Int))-(1:Int))=(7:Int)-((i+1:Nat):Int):=by rw [lp (by omega) (by omega)]; omega
 rw [cY (by omega:(7:Int)-(i:Int)>=0)];simp only [cM,e8,e1,zaE,Lp];rw [bQ (by omega),bQ (by simp [kL,cN]; omega)];exact Eq.trans rfl rfl
theorem Yk{Y:Type}(L n:Nat)(kx:Ls->Option Y):∀ (f m i:Nat) (acc:List Int),i+m=8->m<f->acc.length<=900000+i->nH L kx f (n:Int) (eQ .u8 acc) ((7:Int)-(i:Int))=kx (eQ .u8 (acc++pbs n m i))
 | 0,m,i,acc,_,h,_=>by omega
 | f+1,0,i,acc,h1,h2,h3=>by
  unfold nH pi;rw [di (by omega),pbs,List.append_nil]
 | f+1,m+1,i,acc,h1,h2,h3=>by
  unfold nH;rw [zfq L (by omega) (by omega)];refine (Yk L n kx f m (i+1) _ (by omega) (by omega) (by simp; omega)).trans ?_;rw [pbs,WcH]; exact Eq.trans rfl rfl
theorem zi4{L:Nat}(hL:100<=L){n:Nat}(hn:n<=100000000)(k:Ls->Option Y):rC Y L (n:Int) k=k (eQ .u8 (RF n)):=by
 unfold rC DT JU;have z64:=zdX n;refine (Um L hn _ L (zs n) 0 (by omega) (by omega)).trans ?_;unfold qU yc;refine (Yk L n _ L 8 0 _ rfl (by omega) (by simp; omega)).trans ?_;unfold u7 RF;exact Eq.trans rfl rfl
theorem zhr{N:Nat}{W:Nat->Int}{l:List Int}{lo hi:Int}(hb:ed l)(h1:lo<=(l.length:Int))(h2:(l.length:Int)<=hi):G N W (.ai 1 1 lo hi [.iv .u8 0 255]) (.gs 1 (eQ .u8 l)):=by
 refine .ai 1 1 lo hi [.iv .u8 0 255] (eQ .u8 l) (by rw [kL]; exact ⟨h1,h2⟩) (λr hr=>?_) (λr hr i a v ha hv=>?_)
 ·obtain ⟨x,_,rfl⟩:=WbX.1 hr; rfl
 ·obtain ⟨x,hx,rfl⟩:=WbX.1 hr;cases i with
  | zero=>cases ha; cases hv; exact .iv .u8 0 255 x (hb x hx)
  | succ i=>cases ha
theorem zhN:eY (dl rows) 20 ziK:=by
 refine zcw (D':=1) (by decide) (λL=>Zj L) (λws hw=>?_);have h0:=hw 0 (λ_=>0);obtain ⟨v,r,rfl,g,h0⟩:=jk h0;obtain rfl:=wB h0;obtain ⟨n,rfl,h1,h2⟩:=tu g;obtain ⟨m,rfl⟩:∃ m:Nat,n=(m:Int):=⟨n.toNat,by omega⟩;refine ⟨.gs 1 (eQ .u8 (RF m)),λN W=>zhr (ziW m) (by rw [zaP]; omega) (by rw [zaP]; have:=zdX m; omega),100,λL hL=>?_⟩;show aI .u64 (.sc (.int .u64 (m:Int))) (λp0=>rC (V × Bor) L p0 λq=>some (V.gs 1 q,[]))=_;rw [DR,zi4 hL (by omega)]
end
end Go.Proofs.YtipklgbboecciaaGreat
