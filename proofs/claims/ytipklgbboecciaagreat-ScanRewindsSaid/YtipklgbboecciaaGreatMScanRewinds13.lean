/- Part 13 of the proof of ScanRewinds: an abstract machine over plain values, its soundness, and the functions of the program on plain values. -/
import Derived.Test.YtipklgbboecciaaGreatMScanRewinds12
namespace Go.Proofs.YtipklgbboecciaaGreat
set_option maxRecDepth 100000
set_option linter.unusedVariables false
set_option linter.unusedSimpArgs false
open List renaming length->WcK,take->WcL,replicate->Wad,drop->WcN,length_map->WcP,drop_eq_getElem_cons->WaM,getElem_mem->WaV,drop_of_length_le->WaD,map->WbO,drop_zero->WcR,flatten->WcO,take_of_length_le->WbR,nil_append->WcS,getElem?_append_right->Wal,mem_or_eq_of_mem_set->WcT,map_append->WcU,mem_singleton->WcG
open Int renaming toNat->WcM
open IntKind renaming wrap->Wbf
open Bool renaming not_true->WcQ,true_and->WcV
section
noncomputable section
variable {Y:Type}
def Kn:CF:=cfD Ia 47
def DJ:Nat->Sh:=f9 [(7,(.int .u32))]
def Db(fN:oN)(fU:pa)(L:Nat):CBC:=(eL 159 (yf fU L) (eL 160 (vT fN L) noC))
def Fz(fN:oN)(fU:pa)(L:Nat)(C:List V)(z:Ls->Ob Y):Ob Y:=chk (0+32<=(WcK C)) (fN Y L ([]:Ls) (WcL 32 C) (λD=>cI .u32 C 32 λE=>fU Y L D E (λF=>z F)))
theorem RR(fN:oN)(fU:pa)(L:Nat)(z:List V)(k:KK Y):dx DJ (Db fN fU L) L Kn [(V.agg z)] [] k=Fz fN fU L z (λz=>k (V.gs 1 z) []):=by kernel_rfl
abbrev jx:=∀ (Y:Type),Nat->List V->(Ls->Ob Y)->Ob Y
def dJ:jx:=λY=>@Fz Y fN fU
def Fq(dJ:jx)(L:Nat):Dk:=dA AG λz=>d0 λY k=>dJ Y L z (λz=>k (V.gs 1 z) [])
theorem R9(L:Nat):DK (Fq dJ L) (λ_=>dx DJ (Db fN fU L) L Kn):=dy fT λz=>fS λ_ k=>RR fN fU L z k
def cf_ref30_Next:CF:=cfD Iy 19
def tR:CC:=eT [1,1,1,1,0,1,0,0] cf_ref30_Next.body
def FN:CC:=eT [1,1,1,1,1] cf_ref30_Next.body
def mN:Nat->Sh:=f9 [(11,(.sl 3)),(26,(.sl 38)),(32,(.sl 38)),(36,(.int .i64)),(43,(.sl 38)),(49,(.sl 1)),(54,(.sl 38))]
def mD(bZ:eA)(dF:jm)(bP:dE)(dJ:jx)(L:Nat):CBC:=(eL 138 (Fq dJ L) (eL 802 (yH bP L) (eL 837 (DM dF L) (eL 825 (re bZ L) noC))))
def uN:St->St:=f4 0 (bl 900 67) (bl 139502376157387423743 67)
def ou(z:Ls)(C D:Int)(E:List V):St:=⟨(jn 2 ((V.ptr 2 0)::(jn 4 ((V.gs 1 z)::((QQe C)::((QQe D)::(jn 57 []))))))),(gn 2 ((.live true E)::(gn 64 [])))⟩
def zB(z:Ls)(C:List V):St:=⟨(jn 2 ((V.ptr 2 0)::(jn 4 ((V.gs 1 z)::(jn 59 []))))),(gn 2 ((.live true C)::(gn 64 [])))⟩
def Ho(bZ:eA)(dF:jm)(bP:dE)(dJ:jx)(L:Nat)(D:List V)(F:Int)(C:Int->Ls->Bool->Ob Y)(z:Ls->Int->Int->List V->Ob Y):Ob Y:=cLd 3 D 0 λH=>ifb ((((WcK H:Nat):Int):Int)==(0:Int)) (C (0:Int) ([]:Ls) false) (chk (0+2<=(WcK D)) (bZ Y L (WbO V.ag (WcL 2 D)) (λI=>ifb (decide (I>=F)) (C (0:Int) ([]:Ls) false) (chk (0+2<=(WcK D)) (dF Y L (WbO V.ag (WcL 2 D)) (λE=>z E ((WcK E:Nat):Int) (0:Int) D))))))
theorem TK(bZ:eA)(dF:jm)(bP:dE)(dJ:jx)(L:Nat)(E:List V)(F:Int)(k:KK Y):dx mN (mD bZ dF bP dJ L) L cf_ref30_Next [(V.agg E),(QQe F)] [] k=Ho bZ dF bP dJ L E F (λz C D=>k (V.ae [(QQe z),(V.gs 1 C),(V.sc (.bool D))]) []) (λH I J M=>dW (cz mN (mD bZ dF bP dJ L) 0 L tR) uN L (ou H I J M) (dk 0 (dN (cz mN (mD bZ dF bP dJ L) 0 L FN) (dX 0 (CF.res cf_ref30_Next) k)))):=by kernel_rfl
def qt(bZ:eA)(dF:jm)(bP:dE)(dJ:jx)(L:Nat)(C:Ls)(F E:Int)(D:List V)(z:Ls->Int->Int->List V->Ob Y)(I:Ls->List V->Ob Y):Ob Y:=cLd 38 D 1 λS=>ifb (decide (E<((WcK S:Nat):Int))) (cLd 38 D 1 λT=>idx T E λU=>cI .i64 (WcN 37 U) 0 λd4=>ifb ((d4:Int)==(0:Int)) (chk (0<=F/\F<=(((WcK C):Nat):Int)) (cLd 38 D 1 λX=>idx X E λb9=>cL 1 (WcN 1 (WcN 33 b9)) 0 λc9=>bP Y L (WcL ((WcM F)-0) (WcN 0 C)) c9 (λJ=>ifb J (cLd 38 D 1 λM=>idx M E λN=>dJ Y L (WcL 33 N) (λH=>chk ((WcK C+WcK (bY 1 1 [(V.sl 1 H)]))*24<=cN/\WcK C+WcK (bY 1 1 [(V.sl 1 H)])<=cN) (lt (C++(bY 1 1 [(V.sl 1 H)])) λO=>lt (Wbf .i64 ((E:Int)+(1:Int))) λP=>z O F P D))) (lt (Wbf .i64 ((E:Int)+(1:Int))) λQ=>z C F Q D)))) (lt (Wbf .i64 ((E:Int)+(1:Int))) λR=>z C F R D)) (I C D)
theorem JS(bZ:eA)(dF:jm)(bP:dE)(dJ:jx)(L:Nat)(z:Ls)(D E:Int)(C:List V)(X:St->Ob Y)(K:KT Y):cz mN (mD bZ dF bP dJ L) 0 L tR (ou z D E C) (fR uN X K)=qt bZ dF bP dJ L z D E C (λz D E C=>X (ou z D E C)) (λz C=>K (.exit 0) (zB z C)):=by kernel_rfl
def oW(bZ:eA)(dF:jm)(bP:dE)(dJ:jx)(L:Nat)(F:Ls)(C:List V)(z:Int->Ls->Bool->Ob Y):Ob Y:=chk (0+2<=(WcK C)) (bZ Y L (WbO V.ag (WcL 2 C)) (λD=>lt (Wbf .i64 ((D:Int)+(1:Int))) λE=>z E F true))
theorem Hq(bZ:eA)(dF:jm)(bP:dE)(dJ:jx)(L:Nat)(E:Ls)(F:List V)(k:KK Y):(dk 0 (dN (cz mN (mD bZ dF bP dJ L) 0 L FN) (dX 0 (CF.res cf_ref30_Next) k))) (.exit 0) (zB E F)=oW bZ dF bP dJ L E F (λz C D=>k (V.ae [(QQe z),(V.gs 1 C),(V.sc (.bool D))]) []):=by kernel_rfl
def mo(bZ:eA)(dF:jm)(bP:dE)(dJ:jx)(L:Nat)(z:Ls->List V->Ob Y):Nat->Ls->Int->Int->List V->Ob Y
 | 0,_,_,_,_=>none
 | n+1,C,D,E,F=>qt bZ dF bP dJ L C D E F (λC D E F=>mo bZ dF bP dJ L z n C D E F) z
theorem yE(bZ:eA)(dF:jm)(bP:dE)(dJ:jx)(L:Nat)(K:KT Y):∀ (n:Nat) (z:Ls) (D E:Int) (C:List V),dW (cz mN (mD bZ dF bP dJ L) 0 L tR) uN n (ou z D E C) K=mo bZ dF bP dJ L (λz C=>K (.exit 0) (zB z C)) n z D E C:=by
 intro n; induction n <;> intros
 ·rfl
 ·exact (JS ..).trans (by simp only [*]; rfl)
def AX(bZ:eA)(dF:jm)(bP:dE)(dJ:jx)(L:Nat)(E:List V)(F:Int)(z:Int->Ls->Bool->Ob Y):Ob Y:=Ho bZ dF bP dJ L E F z (λC H I D=>mo bZ dF bP dJ L (λC D=>oW bZ dF bP dJ L C D z) L C H I D)
theorem Wd(bZ:eA)(dF:jm)(bP:dE)(dJ:jx)(L:Nat)(z:List V)(C:Int)(k:KK Y):dx mN (mD bZ dF bP dJ L) L cf_ref30_Next [(V.agg z),(QQe C)] [] k=AX bZ dF bP dJ L z C (λD E F=>k (V.ae [(QQe D),(V.gs 1 E),(V.sc (.bool F))]) []):=by
 refine (TK bZ dF bP dJ L z C k).trans ?_
 unfold AX
 first
  | (simp only [yE,Hq]; done)
  | (simp only [yE]; rfl)
abbrev jW:=∀ (Y:Type),Nat->List V->Int->(Int->Ls->Bool->Ob Y)->Ob Y
def dO:jW:=λY=>@AX Y bZ dF bP dJ
def Hl(dO:jW)(L:Nat):Dk:=dA AG λE=>dA (AI .i64) λF=>d0 λY k=>dO Y L E F (λz C D=>k (V.ae [(QQe z),(V.gs 1 C),(V.sc (.bool D))]) [])
theorem UL(L:Nat):DK (Hl dO L) (λ_=>dx mN (mD bZ dF bP dJ L) L cf_ref30_Next):=dy fT λz=>dy gX λC=>fS λ_ k=>Wd bZ dF bP dJ L z C k
def MZ:CF:=cfD Iv 52
def E5:Nat->Sh:=f9 [(9,(.sl 3))]
def Fc(cW:gG)(bZ:eA)(L:Nat):CBC:=(eL 825 (re bZ L) (eL 817 (uw cW L) noC))
def Hy(cW:gG)(bZ:eA)(L:Nat)(C:List V)(D:Int)(z:Int->Ob Y):Ob Y:=chk (0+2<=(WcK C)) (cW Y L (WbO V.ag (WcL 2 C)) (λE=>ifb (!E) (z (6:Int)) (cLd 3 C 0 λF=>ifb ((((WcK F:Nat):Int):Int)==(0:Int)) (z (300:Int)) (chk (0+2<=(WcK C)) (bZ Y L (WbO V.ag (WcL 2 C)) (λH=>lt (Wbf .i64 ((H:Int)+(1:Int))) λI=>ifb ((D:Int) != I) (z (300:Int)) (ifb (decide (D>(16777216:Int))) (z (300:Int)) (z (0:Int)))))))))
theorem U2(cW:gG)(bZ:eA)(L:Nat)(z:List V)(C:Int)(k:KK Y):dx E5 (Fc cW bZ L) L MZ [(V.agg z),(QQe C)] [] k=Hy cW bZ L z C (λz=>k (QQe z) []):=by kernel_rfl
abbrev vW:=∀ (Y:Type),Nat->List V->Int->(Int->Ob Y)->Ob Y
def hS:vW:=λY=>@Hy Y cW bZ
def G4(hS:vW)(L:Nat):Dk:=dA AG λz=>dA (AI .i64) λC=>d0 λY k=>hS Y L z C (λz=>k (QQe z) [])
theorem Tu(L:Nat):DK (G4 hS L) (λ_=>dx E5 (Fc cW bZ L) L MZ):=dy fT λz=>dy gX λC=>fS λ_ k=>U2 cW bZ L z C k
abbrev uj:=∀ (Y:Type),Nat->List V->(Int->Ob Y)->Ob Y
def io:uj:=λY L z kf=>opD (dl rows) 300 522 L Y [(V.agg z)] [] λv _=>(AI .i64) Y v λp=>kf p
def Fs(io:uj)(L:Nat):Dk:=dA AG λz=>d0 λY k=>io Y L z (λC=>k (QQe C) [])
theorem Sk(L:Nat):DK (Fs io L) (opD (dl rows) 300 522 L):=dy fT λz=>D4 gX [(V.agg z)] λ_ _ _=>rfl
def cf_ref29_spend:CF:=cfD Hk 81
def uV:CC:=eT [1,1,0,1,0,0] cf_ref29_spend.body
def Hp:CC:=eT [1,1,1] cf_ref29_spend.body
def lI:Nat->Sh:=f9 [(33,(.int .i64)),(48,(.sl 1))]
def lJ(bP:dE)(L:Nat):CBC:=(eL 802 (yH bP L) noC)
def vy:St->St:=f4 0 (bl 1580 58) (bl 287667151320317951 58)
def o6(E:Ls)(F:Int)(z:Nat)(C:Int)(H D:List V):St:=⟨(jn 2 ((V.sl 1 E)::((QQe F)::(jn 1 ((V.ptr 5 0)::(jn 3 ((V.own 13 0 z 38)::((QQe C)::(jn 47 []))))))))),(gn 5 ((.live true H)::(gn 7 ((.live true D)::(gn 44 [])))))⟩
def xN(z:Nat)(C:List V):St:=⟨(jn 9 ((V.own 13 0 z 38)::(jn 48 []))),(gn 13 ((.live true C)::(gn 44 [])))⟩
def Fh(bP:dE)(L:Nat)(C:Ls)(D:List V)(E:Ls)(F:Int)(z:Ls->Int->Nat->Int->List V->List V->Ob Y):Ob Y:=chk ((0+WcK C)*96<=cN/\0+WcK C<=cN) (z E F (WcK C) (0:Int) D (WcO C))
theorem Sc(bP:dE)(L:Nat)(D:Ls)(E:List V)(z:Ls)(C:Int)(k:KK Y):dx lI (lJ bP L) L cf_ref29_spend [(V.sl 38 D),(V.agg E),(V.sl 1 z),(QQe C)] [] k=Fh bP L D E z C (λz C F H J I=>dW (cz lI (lJ bP L) 0 L uV) vy L (o6 z C F H J I) (dk 0 (dN (cz lI (lJ bP L) 0 L Hp) (dX 0 (CF.res cf_ref29_spend) k)))):=by kernel_rfl
def rk(bP:dE)(L:Nat)(F:Ls)(H:Int)(D:Nat)(z:Int)(I E:List V)(C:Ls->Int->Nat->Int->List V->List V->Ob Y)(J:Nat->List V->Ob Y):Ob Y:=ifb (decide (z<((D:Nat):Int))) (chk (0<=z/\z<((D:Nat):Int)) (chk ((((0+((WcM z)*38))+0)+0)+33<=(WcK E)) (chk (0+33<=(WcK I)) (eqC 33 (WcL 33 (WcN (((0+((WcM z)*38))+0)+0) E)) (WcL 33 I) λN=>ifb N (chk (0<=z/\z<((D:Nat):Int)) (cI .i64 E ((0+((WcM z)*38))+37) λO=>ifb ((O:Int)==(0:Int)) (ifb ((((WcK F:Nat):Int):Int)==(0:Int)) (chk (0<=z/\z<((D:Nat):Int)) (chk (1=1/\((0+((WcM z)*38))+37)+1<=(WcK E)) (lt (cq E ((0+((WcM z)*38))+37) [(QQe H)]) λP=>lt (Wbf .i64 ((z:Int)+(1:Int))) λQ=>C F H D Q I P))) (chk (0<=z/\z<((D:Nat):Int)) (cLd 1 E ((((0+((WcM z)*38))+0)+33)+1) λR=>bP Y L F R (λS=>ifb S (chk (0<=z/\z<((D:Nat):Int)) (chk (1=1/\((0+((WcM z)*38))+37)+1<=(WcK E)) (lt (cq E ((0+((WcM z)*38))+37) [(QQe H)]) λT=>lt (Wbf .i64 ((z:Int)+(1:Int))) λU=>C F H D U I T))) (lt (Wbf .i64 ((z:Int)+(1:Int))) λd4=>C F H D d4 I E))))) (lt (Wbf .i64 ((z:Int)+(1:Int))) λX=>C F H D X I E))) (lt (Wbf .i64 ((z:Int)+(1:Int))) λM=>C F H D M I E))))) (J D E)
theorem KE(bP:dE)(L:Nat)(E:Ls)(F:Int)(z:Nat)(D:Int)(H C:List V)(X:St->Ob Y)(K:KT Y):cz lI (lJ bP L) 0 L uV (o6 E F z D H C) (fR vy X K)=rk bP L E F z D H C (λE F z D H C=>X (o6 E F z D H C)) (λz C=>K (.exit 0) (xN z C)):=by kernel_rfl
def tV(bP:dE)(L:Nat)(C:Nat)(D:List V)(z:Ls->Ob Y):Ob Y:=chk (C≠0∨(WcK D)=0) (z (bY 38 C D))
theorem Ic(bP:dE)(L:Nat)(z:Nat)(C:List V)(k:KK Y):(dk 0 (dN (cz lI (lJ bP L) 0 L Hp) (dX 0 (CF.res cf_ref29_spend) k))) (.exit 0) (xN z C)=tV bP L z C (λD=>k (V.fr 38 D) []):=by kernel_rfl
def fo(bP:dE)(L:Nat)(z:Nat->List V->Ob Y):Nat->Ls->Int->Nat->Int->List V->List V->Ob Y
 | 0,_,_,_,_,_,_=>none
 | n+1,F,H,C,D,I,E=>rk bP L F H C D I E (λF H C D I E=>fo bP L z n F H C D I E) z
theorem Ah(bP:dE)(L:Nat)(K:KT Y):∀ (n:Nat) (E:Ls) (F:Int) (z:Nat) (D:Int) (H C:List V),dW (cz lI (lJ bP L) 0 L uV) vy n (o6 E F z D H C) K=fo bP L (λz C=>K (.exit 0) (xN z C)) n E F z D H C:=by
 intro n; induction n <;> intros
 ·rfl
 ·exact (KE ..).trans (by simp only [*]; rfl)
def y7(bP:dE)(L:Nat)(I:Ls)(J:List V)(E:Ls)(F:Int)(D:Ls->Ob Y):Ob Y:=Fh bP L I J E F (λE F z H M C=>fo bP L (λz C=>tV bP L z C D) L E F z H M C)
theorem R4(bP:dE)(L:Nat)(z:Ls)(C:List V)(D:Ls)(E:Int)(k:KK Y):dx lI (lJ bP L) L cf_ref29_spend [(V.sl 38 z),(V.agg C),(V.sl 1 D),(QQe E)] [] k=y7 bP L z C D E (λz=>k (V.fr 38 z) []):=by
 refine (Sc bP L z C D E k).trans ?_
 unfold y7
 first
  | (simp only [Ah,Ic]; done)
  | (simp only [Ah]; rfl)
abbrev dZ:=∀ (Y:Type),Nat->Ls->List V->Ls->Int->(Ls->Ob Y)->Ob Y
def bX:dZ:=λY=>@y7 Y bP
def E7(bX:dZ)(L:Nat):Dk:=dA (AL 38) λz=>dA AG λC=>dA (AL 1) λD=>dA (AI .i64) λE=>d0 λY k=>bX Y L z C D E (λz=>k (V.fr 38 z) [])
theorem Tp(L:Nat):DK (E7 bX L) (λ_=>dx lI (lJ bP L) L cf_ref29_spend):=dy ji λz=>dy fT λC=>dy ji λD=>dy gX λE=>fS λ_ k=>R4 bP L z C D E k
abbrev fq:=∀ (Y:Type),Nat->List V->(List V->Ob Y)->Ob Y
def cx:fq:=λY L z kf=>opD (dl rows) 300 517 L Y [(V.agg z)] [] λv _=>AG Y v λp=>kf p
def Mi(cx:fq)(L:Nat):Dk:=dA AG λz=>d0 λY k=>cx Y L z (λC=>k (V.agg C) [])
theorem YZ(L:Nat):DK (Mi cx L) (opD (dl rows) 300 517 L):=dy fT λz=>D4 fT [(V.agg z)] λ_ _ _=>rfl
def cf_ref29_put:CF:=cfD K6 82
def vH:CC:=eT [1,1,1,0,1,0,0] cf_ref29_put.body
def zM:CC:=eT [1,1,0,0,0] cf_ref29_put.body
def BK:CC:=eT [1,1,1,1] cf_ref29_put.body
def Ds:CC:=eT [1,1,1] cf_ref29_put.body
def iL:Nat->Sh:=f9 [(43,(.int .i64))]
def iM(bV:dP)(L:Nat):CBC:=(eL 800 (w8 bV L) noC)
def Bi:St->St:=f4 0 (bl 73 58) (bl 288230376151448575 58)
def xU:St->St:=f4 0 (bl 201 58) (bl 288230376134934479 58)
def qZ(z:Ls)(C:Int)(D:List V):St:=⟨((V.sl 38 z)::(jn 2 ((V.ptr 3 0)::(jn 2 ((QQe C)::(jn 51 [])))))),(gn 3 ((.live true D)::(gn 54 [])))⟩
def ve(z:Ls)(C:Int)(D:List V):St:=⟨((V.sl 38 z)::(jn 2 ((V.ptr 3 0)::(jn 2 ((QQe C)::(jn 51 [])))))),(gn 3 ((.live true D)::(gn 54 [])))⟩
def pH(z:Ls)(C D:Int)(E:List V):St:=⟨((V.sl 38 z)::(jn 2 ((V.ptr 3 0)::(jn 2 ((QQe C)::((QQe D)::(jn 50 []))))))),(gn 3 ((.live true E)::(gn 54 [])))⟩
def zC(z:Ls)(C:Int):St:=⟨(jn 4 ((V.gs 38 z)::((QQe C)::(jn 52 [])))),(gn 58 [])⟩
def Cb(z:Ls)(C:Int)(D:List V):St:=⟨((V.sl 38 z)::(jn 2 ((V.ptr 3 0)::(jn 2 ((QQe C)::(jn 51 [])))))),(gn 3 ((.live true D)::(gn 54 [])))⟩
def Jl(bV:dP)(L:Nat)(C:Ls)(D:List V)(z:Ls->Int->List V->Ob Y):Ob Y:=z C (0:Int) D
theorem W5(bV:dP)(L:Nat)(z:Ls)(C:List V)(k:KK Y):dx iL (iM bV L) L cf_ref29_put [(V.sl 38 z),(V.agg C)] [] k=Jl bV L z C (λz D E=>dW (cz iL (iM bV L) 0 L zM) Bi L (qZ z D E) (dk 0 (dN (cz iL (iM bV L) 0 L Ds) (dX 0 (CF.res cf_ref29_put) k)))):=by kernel_rfl
def vd(bV:dP)(L:Nat)(C:Ls)(D:Int)(E:List V)(z:Ls->Int->List V->Ob Y)(F:Ls->Int->List V->Ob Y):Ob Y:=ifb (decide (D<((WcK C:Nat):Int))) (idx C D λH=>chk (0+38<=(WcK E)) (bV Y L (WbO V.ag (WcL 38 H)) (WbO V.ag (WcL 38 E)) (λI=>ifb I (lt (Wbf .i64 ((D:Int)+(1:Int))) λJ=>z C J E) (F C D E)))) (F C D E)
theorem OM(bV:dP)(L:Nat)(z:Ls)(C:Int)(D:List V)(X:St->Ob Y)(K:KT Y):cz iL (iM bV L) 0 L zM (qZ z C D) (fR Bi X K)=vd bV L z C D (λz C D=>X (qZ z C D)) (λz C D=>K (.exit 0) (ve z C D)):=by kernel_rfl
def yn(bV:dP)(L:Nat)(C:Ls)(D:Int)(E:List V)(z:Ls->Int->Int->List V->Ob Y):Ob Y:=z C D (0:Int) E
theorem Lz(bV:dP)(L:Nat)(z:Ls)(C:Int)(D:List V)(k:KK Y):(dk 0 (dN (cz iL (iM bV L) 0 L Ds) (dX 0 (CF.res cf_ref29_put) k))) (.exit 0) (ve z C D)=yn bV L z C D (λz C E D=>dW (cz iL (iM bV L) 0 L vH) xU L (pH z C E D) (dk 2 (dN (cz iL (iM bV L) 0 L BK) (dX 0 (CF.res cf_ref29_put) k)))):=by kernel_rfl
def sB(bV:dP)(L:Nat)(C:Ls)(H D:Int)(E:List V)(F:Ls->Int->Ob Y)(z:Ls->Int->Int->List V->Ob Y)(I:Ls->Int->List V->Ob Y):Ob Y:=ifb (decide (D<((WcK C:Nat):Int))) (idx C D λJ=>chk (0+33<=(WcK E)) (eqC 33 (WcL 33 J) (WcL 33 E) λM=>ifb M (idx C D λN=>cI .i64 (WcN 37 N) 0 λO=>ifb ((O:Int)==(0:Int)) (F ([]:Ls) (91:Int)) (lt (Wbf .i64 ((D:Int)+(1:Int))) λP=>z C H P E)) (lt (Wbf .i64 ((D:Int)+(1:Int))) λQ=>z C H Q E))) (I C H E)
theorem LN(bV:dP)(L:Nat)(z:Ls)(C E:Int)(D:List V)(X:St->Ob Y)(K:KT Y):cz iL (iM bV L) 0 L vH (pH z C E D) (fR xU X K)=sB bV L z C E D (λF H=>K .ret (zC F H)) (λz C E D=>X (pH z C E D)) (λz C D=>K (.exit 2) (Cb z C D)):=by kernel_rfl
def tI(bV:dP)(L:Nat)(C:Ls)(D:Int)(z:Ls->Int->Ob Y):Ob Y:=z C D
theorem Io(bV:dP)(L:Nat)(D:Ls)(E:Int)(k:KK Y):(dk 2 (dN (cz iL (iM bV L) 0 L BK) (dX 0 (CF.res cf_ref29_put) k))) .ret (zC D E)=tI bV L D E (λz C=>k (V.ae [(V.gs 38 z),(QQe C)]) []):=by kernel_rfl
def uW(bV:dP)(L:Nat)(C:Ls)(z:Int)(D:List V)(F:Ls->Int->Ob Y):Ob Y:=chk (0<=z/\z<=(((WcK C):Nat):Int)) (chk ((WcK ([]:Ls)+WcK (WcL ((WcM z)-0) (WcN 0 C)))*96<=cN/\WcK ([]:Ls)+WcK (WcL ((WcM z)-0) (WcN 0 C))<=cN) (lt (([]:Ls)++(WcL ((WcM z)-0) (WcN 0 C))) λH=>chk (0+38<=(WcK D)) (chk ((WcK (WcL 38 D))=38/\0+38<=38) (chk ((WcK H+WcK (bY 38 1 (cq (Wad 32 (QQa (0:Int))++[(QQc (0:Int)),(QQe (0:Int)),(V.sl 1 ([]:Ls)),(QQe (0:Int)),(V.sc (.bool false)),(QQe (0:Int))]) 0 (WcL 38 D))))*96<=cN/\WcK H+WcK (bY 38 1 (cq (Wad 32 (QQa (0:Int))++[(QQc (0:Int)),(QQe (0:Int)),(V.sl 1 ([]:Ls)),(QQe (0:Int)),(V.sc (.bool false)),(QQe (0:Int))]) 0 (WcL 38 D)))<=cN) (lt (H++(bY 38 1 (cq (Wad 32 (QQa (0:Int))++[(QQc (0:Int)),(QQe (0:Int)),(V.sl 1 ([]:Ls)),(QQe (0:Int)),(V.sc (.bool false)),(QQe (0:Int))]) 0 (WcL 38 D)))) λE=>chk (0<=z/\z<=(((WcK C):Nat):Int)) (chk ((WcK E+WcK (WcL ((WcK C)-(WcM z)) (WcN (WcM z) C)))*96<=cN/\WcK E+WcK (WcL ((WcK C)-(WcM z)) (WcN (WcM z) C))<=cN) (lt (E++(WcL ((WcK C)-(WcM z)) (WcN (WcM z) C))) λI=>F I (0:Int))))))))
theorem J4(bV:dP)(L:Nat)(D:Ls)(E:Int)(F:List V)(k:KK Y):(dk 2 (dN (cz iL (iM bV L) 0 L BK) (dX 0 (CF.res cf_ref29_put) k))) (.exit 2) (Cb D E F)=uW bV L D E F (λz C=>k (V.ae [(V.gs 38 z),(QQe C)]) []):=by kernel_rfl
def mg(bV:dP)(L:Nat)(z:Ls->Int->List V->Ob Y):Nat->Ls->Int->List V->Ob Y
 | 0,_,_,_=>none
 | n+1,C,D,E=>vd bV L C D E (λC D E=>mg bV L z n C D E) z
theorem Ei(bV:dP)(L:Nat)(K:KT Y):∀ (n:Nat) (z:Ls) (C:Int) (D:List V),dW (cz iL (iM bV L) 0 L zM) Bi n (qZ z C D) K=mg bV L (λz C D=>K (.exit 0) (ve z C D)) n z C D:=by
 intro n; induction n <;> intros
 ·rfl
 ·exact (OM ..).trans (by simp only [*]; rfl)
def nG(bV:dP)(L:Nat)(z:Ls->Int->Ob Y)(C:Ls->Int->List V->Ob Y):Nat->Ls->Int->Int->List V->Ob Y
 | 0,_,_,_,_=>none
 | n+1,D,E,F,H=>sB bV L D E F H z (λD E F H=>nG bV L z C n D E F H) C
theorem A7(bV:dP)(L:Nat)(K:KT Y):∀ (n:Nat) (z:Ls) (C E:Int) (D:List V),dW (cz iL (iM bV L) 0 L vH) xU n (pH z C E D) K=nG bV L (λF H=>K .ret (zC F H)) (λz C D=>K (.exit 2) (Cb z C D)) n z C E D:=by
 intro n; induction n <;> intros
 ·rfl
 ·exact (LN ..).trans (by simp only [*]; rfl)
def qT(bV:dP)(L:Nat)(C:Ls)(D:Int)(E:List V)(z:Ls->Int->Ob Y):Ob Y:=yn bV L C D E (λC D F E=>nG bV L (λH I=>tI bV L H I z) (λC D E=>uW bV L C D E z) L C D F E)
theorem Lg(bV:dP)(L:Nat)(z:Ls)(C:Int)(D:List V)(k:KK Y):(dk 0 (dN (cz iL (iM bV L) 0 L Ds) (dX 0 (CF.res cf_ref29_put) k))) (.exit 0) (ve z C D)=qT bV L z C D (λE F=>k (V.ae [(V.gs 38 E),(QQe F)]) []):=by
 refine (Lz bV L z C D k).trans ?_
 unfold qT
 first
  | (simp only [A7,Io,J4]; done)
  | (simp only [A7]; rfl)
def DV(bV:dP)(L:Nat)(z:Ls)(F:List V)(C:Ls->Int->Ob Y):Ob Y:=Jl bV L z F (λz D E=>mg bV L (λz D E=>qT bV L z D E C) L z D E)
theorem WR(bV:dP)(L:Nat)(z:Ls)(C:List V)(k:KK Y):dx iL (iM bV L) L cf_ref29_put [(V.sl 38 z),(V.agg C)] [] k=DV bV L z C (λD E=>k (V.ae [(V.gs 38 D),(QQe E)]) []):=by
 refine (W5 bV L z C k).trans ?_
 unfold DV
 first
  | (simp only [Ei,Lg]; done)
  | (simp only [Ei]; rfl)
abbrev eS:=∀ (Y:Type),Nat->Ls->List V->(Ls->Int->Ob Y)->Ob Y
def cj:eS:=λY=>@DV Y bV
def Kb(cj:eS)(L:Nat):Dk:=dA (AL 38) λD=>dA AG λE=>d0 λY k=>cj Y L D E (λz C=>k (V.ae [(V.gs 38 z),(QQe C)]) [])
theorem Ww(L:Nat):DK (Kb cj L) (λ_=>dx iL (iM bV L) L cf_ref29_put):=dy ji λz=>dy fT λC=>fS λ_ k=>WR bV L z C k
def cf_ref29_Take:CF:=cfD Ja 54
def pA:CC:=eT [1,0,1,0,0,1,0,0,1,0,1,0,0] cf_ref29_Take.body
def pD:CC:=eT [1,0,1,0,0,1,0,0,1,1,1,0,0] cf_ref29_Take.body
def rM:CC:=eT [1,0,1,0,0,1,0,0,1,1] cf_ref29_Take.body
def mr:CC:=eT [1,0,1,0,0,1,1] cf_ref29_Take.body
def sq:CC:=eT [1,0,1,0,0] cf_ref29_Take.body
def Dc:CC:=eT [1,1] cf_ref29_Take.body
def ff:Nat->Sh:=f9 [(21,(.sl 4)),(27,(.sl 4)),(33,(.sl 35)),(44,(.sl 35)),(54,(.sl 2)),(61,(.sl 2)),(65,(.sl 1)),(74,(.sl 2))]
def fh(bX:dZ)(bP:dE)(cx:fq)(cj:eS)(L:Nat):CBC:=(eL 803 (Kb cj L) (eL 517 (Mi cx L) (eL 802 (yH bP L) (eL 801 (E7 bX L) noC))))
def jK:St->St:=f4 0 (bl 4375 99) (bl 633283700682806279610522145791 99)
def qm:St->St:=f4 0 (bl 28951 99) (bl 633825300114112448931357982719 99)
def pX:St->St:=f4 0 (bl 45335 99) (bl 633283700682808531427519951871 99)
def kJ(C D E:Ls)(F z:Int)(H:List V):St:=⟨((V.sl 38 C)::((V.sl 1 D)::((V.sl 1 E)::(jn 1 ((QQe F)::(jn 3 ((V.ptr 8 0)::(jn 3 ((QQe z)::(jn 86 [])))))))))),(gn 8 ((.live true H)::(gn 90 [])))⟩
def l7(E F H:Ls)(I z C:Int)(J D:List V):St:=⟨((V.sl 38 E)::((V.sl 1 F)::((V.sl 1 H)::(jn 1 ((QQe I)::(jn 3 ((V.ptr 8 0)::(jn 3 ((QQe z)::((V.ptr 13 0)::((QQe C)::(jn 84 [])))))))))))),(gn 8 ((.live true J)::(gn 4 ((.live true D)::(gn 85 [])))))⟩
def tL(z:Ls):St:=⟨((V.sl 38 z)::(jn 98 [])),(gn 99 [])⟩
def tW(D E F:Ls)(H z:Int)(I C:List V):St:=⟨((V.sl 38 D)::((V.sl 1 E)::((V.sl 1 F)::(jn 1 ((QQe H)::(jn 3 ((V.ptr 8 0)::(jn 3 ((QQe z)::((V.ptr 13 0)::(jn 85 []))))))))))),(gn 8 ((.live true I)::(gn 4 ((.live true C)::(gn 85 [])))))⟩
def mi(E F H:Ls)(I z C:Int)(J D:List V):St:=⟨((V.sl 38 E)::((V.sl 1 F)::((V.sl 1 H)::(jn 1 ((QQe I)::(jn 3 ((V.ptr 8 0)::(jn 3 ((QQe z)::((V.ptr 13 0)::(jn 1 ((QQe C)::(jn 83 []))))))))))))),(gn 8 ((.live true J)::(gn 4 ((.live true D)::(gn 85 [])))))⟩
def kI(z:Ls)(C:Int):St:=⟨(jn 10 ((V.gs 38 z)::((QQe C)::(jn 87 [])))),(gn 99 [])⟩
def zx(C D E:Ls)(F z:Int)(H:List V):St:=⟨((V.sl 38 C)::((V.sl 1 D)::((V.sl 1 E)::(jn 1 ((QQe F)::(jn 3 ((V.ptr 8 0)::(jn 3 ((QQe z)::(jn 86 [])))))))))),(gn 8 ((.live true H)::(gn 90 [])))⟩
abbrev sm(Y:Type):Type:=Ls->Ls->Ls->Int->Int->List V->Ob Y
abbrev va(Y:Type):Type:=Ls->Ls->Ls->Int->Int->Int->List V->List V->Ob Y
abbrev Dd(Y:Type):Type:=Ls->Ls->Ls->Int->Int->List V->List V->Ob Y
abbrev vm(Y:Type):Type:=Ls->Ls->Ls->Int->Int->Int->List V->List V->Ob Y
abbrev s6(Y:Type):Type:=Ls->Ls->Ls->Int->Int->List V->Ob Y
def wz(bX:dZ)(bP:dE)(cx:fq)(cj:eS)(L:Nat)(C D E:Ls)(F:List V)(H:Int)(z:sm Y):Ob Y:=z C D E H (0:Int) F
theorem V0(bX:dZ)(bP:dE)(cx:fq)(cj:eS)(L:Nat)(z C D:Ls)(F:List V)(E:Int)(k:KK Y):dx ff (fh bX bP cx cj L) L cf_ref29_Take [(V.sl 38 z),(V.sl 1 C),(V.sl 1 D),(V.agg F),(QQe E)] [] k=wz bX bP cx cj L z C D F E (λz C D E H I=>dW (cz ff (fh bX bP cx cj L) 0 L sq) jK L (kJ z C D E H I) (dk 0 (dN (cz ff (fh bX bP cx cj L) 0 L Dc) (dX 0 (CF.res cf_ref29_Take) k)))):=by kernel_rfl
def tM(bX:dZ)(bP:dE)(cx:fq)(cj:eS)(L:Nat)(F I J:Ls)(M C:Int)(D:List V)(z:va Y)(E:Ls->Ob Y):Ob Y:=cLd 4 D 68 λN=>ifb (decide (C<((WcK N:Nat):Int))) (cLd 4 D 68 λO=>idx O C λH=>chk ((WcK (WcL 4 H))=4/\0+4<=4) (lt (cq [(QQc (0:Int)),(V.gs 35 ([]:Ls)),(V.gs 2 ([]:Ls)),(QQc (0:Int))] 0 (WcL 4 H)) λP=>z F I J M C (0:Int) D P)) (E F)
theorem Ng(bX:dZ)(bP:dE)(cx:fq)(cj:eS)(L:Nat)(C D E:Ls)(F z:Int)(H:List V)(X:St->Ob Y)(K:KT Y):cz ff (fh bX bP cx cj L) 0 L sq (kJ C D E F z H) (fR jK X K)=tM bX bP cx cj L C D E F z H (λC D E F z I H J=>dW (cz ff (fh bX bP cx cj L) 0 L pA) qm L (l7 C D E F z I H J) (dk 2 (dN (cz ff (fh bX bP cx cj L) 0 L rM) (dk 1 (dN (cz ff (fh bX bP cx cj L) 0 L mr) (fR jK X K)))))) (λC=>K (.exit 0) (tL C)):=by kernel_rfl
def rq(bX:dZ)(bP:dE)(cx:fq)(cj:eS)(L:Nat)(C:Ls)(z:Ls->Int->Ob Y):Ob Y:=ifb (decide (((WcK C:Nat):Int)>(4096:Int))) (z ([]:Ls) (380:Int)) (chk ((WcK ([]:Ls)+WcK C)*96<=cN/\WcK ([]:Ls)+WcK C<=cN) (lt (([]:Ls)++C) λD=>z D (0:Int)))
theorem KS(bX:dZ)(bP:dE)(cx:fq)(cj:eS)(L:Nat)(D:Ls)(k:KK Y):(dk 0 (dN (cz ff (fh bX bP cx cj L) 0 L Dc) (dX 0 (CF.res cf_ref29_Take) k))) (.exit 0) (tL D)=rq bX bP cx cj L D (λz C=>k (V.ae [(V.gs 38 z),(QQe C)]) []):=by kernel_rfl
def lu(bX:dZ)(bP:dE)(cx:fq)(cj:eS)(L:Nat)(J H M:Ls)(I D E:Int)(N C:List V)(z:va Y)(F:Dd Y):Ob Y:=cLd 35 C 1 λO=>ifb (decide (E<((WcK O:Nat):Int))) (ifb (decide (D>(0:Int))) (cLd 35 C 1 λP=>idx P E λQ=>bX Y L J (WcL 33 Q) H I (λR=>lt (Wbf .i64 ((E:Int)+(1:Int))) λS=>z R H M I D S N C)) (F J H M I D N C)) (F J H M I D N C)
theorem EO(bX:dZ)(bP:dE)(cx:fq)(cj:eS)(L:Nat)(E F H:Ls)(I z D:Int)(J C:List V)(X:St->Ob Y)(K:KT Y):cz ff (fh bX bP cx cj L) 0 L pA (l7 E F H I z D J C) (fR qm X K)=lu bX bP cx cj L E F H I z D J C (λE F H I z D J C=>X (l7 E F H I z D J C)) (λE F H I z J C=>K (.exit 2) (tW E F H I z J C)):=by kernel_rfl
def uu(bX:dZ)(bP:dE)(cx:fq)(cj:eS)(L:Nat)(E F H:Ls)(I C:Int)(J D:List V)(z:vm Y):Ob Y:=z E F H I C (0:Int) J D
theorem Cx(bX:dZ)(bP:dE)(cx:fq)(cj:eS)(L:Nat)(D E F:Ls)(H z:Int)(I C:List V)(X:St->Ob Y)(K:KT Y):(dk 2 (dN (cz ff (fh bX bP cx cj L) 0 L rM) (dk 1 (dN (cz ff (fh bX bP cx cj L) 0 L mr) (fR jK X K))))) (.exit 2) (tW D E F H z I C)=uu bX bP cx cj L D E F H z I C (λD E F H z J I C=>dW (cz ff (fh bX bP cx cj L) 0 L pD) pX L (mi D E F H z J I C) (dk 4 (dk 1 (dN (cz ff (fh bX bP cx cj L) 0 L mr) (fR jK X K))))):=by kernel_rfl
def nr(bX:dZ)(bP:dE)(cx:fq)(cj:eS)(L:Nat)(R S N:Ls)(I F D:Int)(T C:List V)(z:vm Y)(O:Ls->Int->Ob Y)(U:s6 Y):Ob Y:=cLd 2 C 2 λd4=>ifb (decide (D<((WcK d4:Nat):Int))) (cLd 2 C 2 λX=>idx X D λb9=>cL 1 (WcN 1 b9) 0 λc9=>bP Y L N c9 (λaa=>ifb (!aa) (lt (Wbf .i64 ((D:Int)+(1:Int))) λab=>z R S N I F ab T C) (chk (0+4<=(WcK C)) (cx Y L (WbO V.ag (WcL 4 C)) (λJ=>lt (Wbf .u32 D) λac=>chk ((WcK J)=32/\0+32<=33) (chk (1=1/\32+1<=(WcK (cq (Wad 32 (QQa (0:Int))++[(QQc (0:Int))]) 0 J))) (lt (cq (cq (Wad 32 (QQa (0:Int))++[(QQc (0:Int))]) 0 J) 32 [(QQc ac)]) λE=>cLd 2 C 2 λad=>idx ad D λH=>chk ((WcK E)=33/\0+33<=37) (chk ((WcK (WcL 2 H))=2/\33+2<=(WcK (cq (Wad 32 (QQa (0:Int))++[(QQc (0:Int)),(QQe (0:Int)),(V.sl 1 ([]:Ls)),(QQe (0:Int)),(V.sc (.bool false))]) 0 E))) (chk (1=1/\35+1<=(WcK (cq (cq (Wad 32 (QQa (0:Int))++[(QQc (0:Int)),(QQe (0:Int)),(V.sl 1 ([]:Ls)),(QQe (0:Int)),(V.sc (.bool false))]) 0 E) 33 (WcL 2 H)))) (chk (1=1/\36+1<=(WcK (cq (cq (cq (Wad 32 (QQa (0:Int))++[(QQc (0:Int)),(QQe (0:Int)),(V.sl 1 ([]:Ls)),(QQe (0:Int)),(V.sc (.bool false))]) 0 E) 33 (WcL 2 H)) 35 [(QQe I)]))) (lt (cq (cq (cq (cq (Wad 32 (QQa (0:Int))++[(QQc (0:Int)),(QQe (0:Int)),(V.sl 1 ([]:Ls)),(QQe (0:Int)),(V.sc (.bool false))]) 0 E) 33 (WcL 2 H)) 35 [(QQe I)]) 36 [(V.sc (.bool ((F:Int)==(0:Int))))]) λP=>chk ((WcK P)=37/\0+37<=37) (lt (cq (Wad 32 (QQa (0:Int))++[(QQc (0:Int)),(QQe (0:Int)),(V.gs 1 ([]:Ls)),(QQe (0:Int)),(V.sc (.bool false))]) 0 P) λM=>chk (0+37<=(WcK M)) (chk ((WcK (WcL 37 M))=37/\0+37<=38) (lt (cq (Wad 32 (QQa (0:Int))++[(QQc (0:Int)),(QQe (0:Int)),(V.sl 1 ([]:Ls)),(QQe (0:Int)),(V.sc (.bool false)),(QQe (0:Int))]) 0 (WcL 37 M)) λao=>cj Y L R (WbO V.ag ao) (λap Q=>ifb ((Q:Int) != (0:Int)) (O ([]:Ls) Q) (lt (Wbf .i64 ((D:Int)+(1:Int))) λaq=>z ap S N I F aq T C)))))))))))))))) (U R S N I F T)
theorem EL(bX:dZ)(bP:dE)(cx:fq)(cj:eS)(L:Nat)(E F H:Ls)(I z C:Int)(J D:List V)(X:St->Ob Y)(K:KT Y):cz ff (fh bX bP cx cj L) 0 L pD (mi E F H I z C J D) (fR pX X K)=nr bX bP cx cj L E F H I z C J D (λE F H I z C J D=>X (mi E F H I z C J D)) (λM N=>K .ret (kI M N)) (λE F H I z J=>K (.exit 4) (zx E F H I z J)):=by kernel_rfl
def oL(bX:dZ)(bP:dE)(cx:fq)(cj:eS)(L:Nat)(C:Ls)(D:Int)(z:Ls->Int->Ob Y):Ob Y:=z C D
theorem BQ(bX:dZ)(bP:dE)(cx:fq)(cj:eS)(L:Nat)(z:Ls)(C:Int)(X:St->Ob Y)(K:KT Y):(dk 4 (dk 1 (dN (cz ff (fh bX bP cx cj L) 0 L mr) (fR jK X K)))) .ret (kI z C)=oL bX bP cx cj L z C (λz C=>K .ret (kI z C)):=by kernel_rfl
def mG(bX:dZ)(bP:dE)(cx:fq)(cj:eS)(L:Nat)(E F H:Ls)(I C:Int)(J:List V)(z:sm Y):Ob Y:=lt (Wbf .i64 ((C:Int)+(1:Int))) λD=>z E F H I D J
theorem Cy(bX:dZ)(bP:dE)(cx:fq)(cj:eS)(L:Nat)(C D E:Ls)(F z:Int)(H:List V)(X:St->Ob Y)(K:KT Y):(dk 4 (dk 1 (dN (cz ff (fh bX bP cx cj L) 0 L mr) (fR jK X K)))) (.exit 4) (zx C D E F z H)=mG bX bP cx cj L C D E F z H (λC D E F z H=>X (kJ C D E F z H)):=by kernel_rfl
def CH(bX:dZ)(bP:dE)(cx:fq)(cj:eS)(L:Nat)(C:Ls)(D:Int)(z:Ls->Int->Ob Y):Ob Y:=z C D
theorem Js(bX:dZ)(bP:dE)(cx:fq)(cj:eS)(L:Nat)(z:Ls)(C:Int)(k:KK Y):(dk 0 (dN (cz ff (fh bX bP cx cj L) 0 L Dc) (dX 0 (CF.res cf_ref29_Take) k))) .ret (kI z C)=CH bX bP cx cj L z C (λD E=>k (V.ae [(V.gs 38 D),(QQe E)]) []):=by kernel_rfl
def jb(bX:dZ)(bP:dE)(cx:fq)(cj:eS)(L:Nat)(z:Dd Y):Nat->Ls->Ls->Ls->Int->Int->Int->List V->List V->Ob Y
 | 0,_,_,_,_,_,_,_,_=>none
 | n+1,F,H,I,J,C,D,M,E=>lu bX bP cx cj L F H I J C D M E (λF H I J C D M E=>jb bX bP cx cj L z n F H I J C D M E) z
theorem tj(bX:dZ)(bP:dE)(cx:fq)(cj:eS)(L:Nat)(K:KT Y):∀ (n:Nat) (D E F:Ls) (H z J:Int) (I C:List V),dW (cz ff (fh bX bP cx cj L) 0 L pA) qm n (l7 D E F H z J I C) K=jb bX bP cx cj L (λD E F H z I C=>K (.exit 2) (tW D E F H z I C)) n D E F H z J I C:=by
 intro n; induction n <;> intros
 ·rfl
 ·exact (EO ..).trans (by simp only [*]; rfl)
def fX(bX:dZ)(bP:dE)(cx:fq)(cj:eS)(L:Nat)(z:Ls->Int->Ob Y)(C:s6 Y):Nat->Ls->Ls->Ls->Int->Int->Int->List V->List V->Ob Y
 | 0,_,_,_,_,_,_,_,_=>none
 | n+1,H,I,J,M,D,E,N,F=>nr bX bP cx cj L H I J M D E N F (λH I J M D E N F=>fX bX bP cx cj L z C n H I J M D E N F) z C
theorem tq(bX:dZ)(bP:dE)(cx:fq)(cj:eS)(L:Nat)(K:KT Y):∀ (n:Nat) (C D E:Ls) (F z I:Int) (H J:List V),dW (cz ff (fh bX bP cx cj L) 0 L pD) pX n (mi C D E F z I H J) K=fX bX bP cx cj L (λM N=>K .ret (kI M N)) (λC D E F z H=>K (.exit 4) (zx C D E F z H)) n C D E F z I H J:=by
 intro n; induction n <;> intros
 ·rfl
 ·exact (EL ..).trans (by simp only [*]; rfl)
def oO(bX:dZ)(bP:dE)(cx:fq)(cj:eS)(L:Nat)(D E F:Ls)(H z:Int)(I J:List V)(M:Ls->Int->Ob Y)(C:sm Y):Ob Y:=uu bX bP cx cj L D E F H z I J (λD E F H z N I J=>fX bX bP cx cj L (λO P=>oL bX bP cx cj L O P M) (λD E F H z I=>mG bX bP cx cj L D E F H z I C) L D E F H z N I J)
theorem Cp(bX:dZ)(bP:dE)(cx:fq)(cj:eS)(L:Nat)(C D E:Ls)(F z:Int)(H I:List V)(X:St->Ob Y)(K:KT Y):(dk 2 (dN (cz ff (fh bX bP cx cj L) 0 L rM) (dk 1 (dN (cz ff (fh bX bP cx cj L) 0 L mr) (fR jK X K))))) (.exit 2) (tW C D E F z H I)=oO bX bP cx cj L C D E F z H I (λJ M=>K .ret (kI J M)) (λC D E F z H=>X (kJ C D E F z H)):=by
 refine (Cx bX bP cx cj L C D E F z H I X K).trans ?_
 unfold oO
 first
  | (simp only [tq,BQ,Cy]; done)
  | (simp only [tq]; rfl)
def ph(bX:dZ)(bP:dE)(cx:fq)(cj:eS)(L:Nat)(D E F:Ls)(H z:Int)(I:List V)(N:Ls->Ob Y)(M:Ls->Int->Ob Y)(C:sm Y):Ob Y:=tM bX bP cx cj L D E F H z I (λD E F H z O I J=>jb bX bP cx cj L (λD E F H z I J=>oO bX bP cx cj L D E F H z I J M C) L D E F H z O I J) N
theorem MJ(bX:dZ)(bP:dE)(cx:fq)(cj:eS)(L:Nat)(C D E:Ls)(F z:Int)(H:List V)(X:St->Ob Y)(K:KT Y):cz ff (fh bX bP cx cj L) 0 L sq (kJ C D E F z H) (fR jK X K)=ph bX bP cx cj L C D E F z H (λC=>K (.exit 0) (tL C)) (λI J=>K .ret (kI I J)) (λC D E F z H=>X (kJ C D E F z H)):=by
 refine (Ng bX bP cx cj L C D E F z H X K).trans ?_
 unfold ph
 first
  | (simp only [tj,Cp]; done)
  | (simp only [tj]; rfl)
def i8(bX:dZ)(bP:dE)(cx:fq)(cj:eS)(L:Nat)(C:Ls->Ob Y)(z:Ls->Int->Ob Y):Nat->Ls->Ls->Ls->Int->Int->List V->Ob Y
 | 0,_,_,_,_,_,_=>none
 | n+1,E,F,H,I,D,J=>ph bX bP cx cj L E F H I D J C z (λE F H I D J=>i8 bX bP cx cj L C z n E F H I D J)
theorem CK(bX:dZ)(bP:dE)(cx:fq)(cj:eS)(L:Nat)(K:KT Y):∀ (n:Nat) (z D E:Ls) (F C:Int) (H:List V),dW (cz ff (fh bX bP cx cj L) 0 L sq) jK n (kJ z D E F C H) K=i8 bX bP cx cj L (λz=>K (.exit 0) (tL z)) (λI J=>K .ret (kI I J)) n z D E F C H:=by
 intro n; induction n <;> intros
 ·rfl
 ·exact (MJ ..).trans (by simp only [*]; rfl)
def te(bX:dZ)(bP:dE)(cx:fq)(cj:eS)(L:Nat)(C D E:Ls)(M:List V)(F:Int)(z:Ls->Int->Ob Y):Ob Y:=wz bX bP cx cj L C D E M F (λC D E F H N=>i8 bX bP cx cj L (λC=>rq bX bP cx cj L C z) (λI J=>CH bX bP cx cj L I J z) L C D E F H N)
theorem VY(bX:dZ)(bP:dE)(cx:fq)(cj:eS)(L:Nat)(z C D:Ls)(E:List V)(F:Int)(k:KK Y):dx ff (fh bX bP cx cj L) L cf_ref29_Take [(V.sl 38 z),(V.sl 1 C),(V.sl 1 D),(V.agg E),(QQe F)] [] k=te bX bP cx cj L z C D E F (λH I=>k (V.ae [(V.gs 38 H),(QQe I)]) []):=by
 refine (V0 bX bP cx cj L z C D E F k).trans ?_
 unfold te
 first
  | (simp only [CK,KS,Js]; done)
  | (simp only [CK]; rfl)
abbrev wo:=∀ (Y:Type),Nat->Ls->Ls->Ls->List V->Int->(Ls->Int->Ob Y)->Ob Y
def gT:wo:=λY=>@te Y bX bP cx cj
def HC(gT:wo)(L:Nat):Dk:=dA (AL 38) λD=>dA (AL 1) λE=>dA (AL 1) λF=>dA AG λH=>dA (AI .i64) λI=>d0 λY k=>gT Y L D E F H I (λz C=>k (V.ae [(V.gs 38 z),(QQe C)]) [])
theorem TB(L:Nat):DK (HC gT L) (λ_=>dx ff (fh bX bP cx cj L) L cf_ref29_Take):=dy ji λz=>dy ji λC=>dy ji λD=>dy fT λE=>dy gX λF=>fS λ_ k=>VY bX bP cx cj L z C D E F k
def cf_ref30_advance:CF:=cfD Eo 55
def sU:CC:=eT [1,1,0,1,0,0] cf_ref30_advance.body
def EN:CC:=eT [1,1,1] cf_ref30_advance.body
def kc:Nat->Sh:=f9 [(21,(.int .i64))]
def ke(bT:dI)(L:Nat):CBC:=(eL 829 (pN bT L) noC)
def tQ:St->St:=f4 0 (bl 114 32) (bl 4294963195 32)
def nP(I J:Int)(D E:Ls)(z C:Nat)(F H:List V):St:=⟨(jn 1 ((QQe I)::(jn 2 ((V.ptr 4 0)::((V.ptr 5 0)::((QQe J)::(jn 25 []))))))),(gn 4 ((.live false [(V.gs 3 D),(V.gs 38 E)])::((.live false [(V.own 10 0 z 3),(V.own 13 0 C 38)])::(gn 4 ((.live true F)::(gn 2 ((.live true H)::(gn 18 []))))))))⟩
def u4(D E:Ls)(z C:Nat)(F H:List V):St:=⟨(jn 4 ((V.ptr 4 0)::((V.ptr 5 0)::(jn 26 [])))),(gn 4 ((.live false [(V.gs 3 D),(V.gs 38 E)])::((.live false [(V.own 10 0 z 3),(V.own 13 0 C 38)])::(gn 4 ((.live true F)::(gn 2 ((.live true H)::(gn 18 []))))))))⟩
abbrev Ar(Y:Type):Type:=Int->Int->Ls->Ls->Nat->Nat->List V->List V->Ob Y
abbrev xY(Y:Type):Type:=Ls->Ls->Nat->Nat->List V->List V->Ob Y
def A9(bT:dI)(L:Nat)(C:List V)(D:Int)(z:Ar Y):Ob Y:=chk (0+2<=(WcK C)) (bT Y L (WbO V.ag (WcL 2 C)) (λE F H I=>z D (0:Int) ([]:Ls) ([]:Ls) E F H I))
theorem O3(bT:dI)(L:Nat)(H:List V)(z:Int)(k:KK Y):dx kc (ke bT L) L cf_ref30_advance [(V.agg H),(QQe z)] [] k=A9 bT L H z (λz M E F C D I J=>dW (cz kc (ke bT L) 0 L sU) tQ L (nP z M E F C D I J) (dk 0 (dN (cz kc (ke bT L) 0 L EN) (dX 0 (CF.res cf_ref30_advance) k)))):=by kernel_rfl
def nf(bT:dI)(L:Nat)(M D:Int)(H I:Ls)(z E:Nat)(F J:List V)(C:Ar Y)(N:xY Y):Ob Y:=ifb (decide (D<((z:Nat):Int))) (chk (0<=D/\D<((z:Nat):Int)) (cI .i64 F ((0+((WcM D)*3))+2) λO=>lt (Wbf .i64 ((M:Int)-(1:Int))) λP=>ifb ((O:Int)==P) (chk (0<=D/\D<((z:Nat):Int)) (chk (1=1/\((0+((WcM D)*3))+2)+1<=(WcK F)) (lt (cq F ((0+((WcM D)*3))+2) [(QQe M)]) λQ=>lt (Wbf .i64 ((D:Int)+(1:Int))) λR=>C M R H I z E Q J))) (lt (Wbf .i64 ((D:Int)+(1:Int))) λS=>C M S H I z E F J))) (N H I z E F J)
theorem Iq(bT:dI)(L:Nat)(I J:Int)(D E:Ls)(z C:Nat)(F H:List V)(X:St->Ob Y)(K:KT Y):cz kc (ke bT L) 0 L sU (nP I J D E z C F H) (fR tQ X K)=nf bT L I J D E z C F H (λI J D E z C F H=>X (nP I J D E z C F H)) (λD E z C F H=>K (.exit 0) (u4 D E z C F H)):=by kernel_rfl
def rT(bT:dI)(L:Nat)(H I:Ls)(z C:Nat)(E F:List V)(D:List V->Ob Y):Ob Y:=D [(V.sl 3 (bY 3 z E)),(V.sl 38 (bY 38 C F))]
theorem Gq(bT:dI)(L:Nat)(D E:Ls)(z C:Nat)(F H:List V)(k:KK Y):(dk 0 (dN (cz kc (ke bT L) 0 L EN) (dX 0 (CF.res cf_ref30_advance) k))) (.exit 0) (u4 D E z C F H)=rT bT L D E z C F H (λI=>k (V.agg I) []):=by kernel_rfl
def ki(bT:dI)(L:Nat)(F:xY Y):Nat->Int->Int->Ls->Ls->Nat->Nat->List V->List V->Ob Y
 | 0,_,_,_,_,_,_,_,_=>none
 | n+1,J,M,D,E,z,C,H,I=>nf bT L J M D E z C H I (λJ M D E z C H I=>ki bT L F n J M D E z C H I) F
theorem xw(bT:dI)(L:Nat)(K:KT Y):∀ (n:Nat) (I J:Int) (D E:Ls) (z C:Nat) (F H:List V),dW (cz kc (ke bT L) 0 L sU) tQ n (nP I J D E z C F H) K=ki bT L (λD E z C F H=>K (.exit 0) (u4 D E z C F H)) n I J D E z C F H:=by
 intro n; induction n <;> intros
 ·rfl
 ·exact (Iq ..).trans (by simp only [*]; rfl)
def vp(bT:dI)(L:Nat)(M:List V)(J:Int)(I:List V->Ob Y):Ob Y:=A9 bT L M J (λJ N D E z C F H=>ki bT L (λD E z C F H=>rT bT L D E z C F H I) L J N D E z C F H)
theorem NB(bT:dI)(L:Nat)(z:List V)(C:Int)(k:KK Y):dx kc (ke bT L) L cf_ref30_advance [(V.agg z),(QQe C)] [] k=vp bT L z C (λz=>k (V.agg z) []):=by
 refine (O3 bT L z C k).trans ?_
 unfold vp
 first
  | (simp only [xw,Gq]; done)
  | (simp only [xw]; rfl)
abbrev qR:=∀ (Y:Type),Nat->List V->Int->(List V->Ob Y)->Ob Y
def gq:qR:=λY=>@vp Y bT
def Cm(gq:qR)(L:Nat):Dk:=dA AG λz=>dA (AI .i64) λC=>d0 λY k=>gq Y L z C (λz=>k (V.agg z) [])
theorem Pf(L:Nat):DK (Cm gq L) (λ_=>dx kc (ke bT L) L cf_ref30_advance):=dy fT λz=>dy gX λC=>fS λ_ k=>NB bT L z C k
def Kf:CF:=cfD HW 26
def DG:Nat->Sh:=f9 [(28,(.sl 38)),(44,(.row [(.sl 3),(.sl 38)]))]
def C3(hS:vW)(io:uj)(dF:jm)(gT:wo)(gq:qR)(L:Nat):CBC:=(eL 841 (Cm gq L) (eL 795 (HC gT L) (eL 837 (DM dF L) (eL 522 (Fs io L) (eL 840 (G4 hS L) noC)))))
def qK(hS:vW)(io:uj)(dF:jm)(gT:wo)(gq:qR)(L:Nat)(C:List V)(H:Int)(E:List V)(z:List V->Int->Ob Y):Ob Y:=chk (0+2<=(WcK C)) (hS Y L (WbO V.ag (WcL 2 C)) H (λI=>ifb ((I:Int) != (0:Int)) (lt [(V.sl 3 ([]:Ls)),(V.sl 38 ([]:Ls))] λJ=>chk (0=0/\(WcK J)=2/\2≠0) (z J I)) (chk (0+69<=(WcK E)) (io Y L (WbO V.ag (WcL 69 E)) (λM=>ifb ((M:Int) != (0:Int)) (lt [(V.sl 3 ([]:Ls)),(V.sl 38 ([]:Ls))] λN=>chk (0=0/\(WcK N)=2/\2≠0) (z N M)) (cLd 38 C 1 λR=>chk (0+2<=(WcK C)) (dF Y L (WbO V.ag (WcL 2 C)) (λS=>chk (0+2<=(WcK C)) (dF Y L (WbO V.ag (WcL 2 C)) (λT=>chk (0+69<=(WcK E)) (gT Y L R S T (WbO V.ag (WcL 69 E)) H (λU O=>ifb ((O:Int) != (0:Int)) (lt [(V.sl 3 ([]:Ls)),(V.sl 38 ([]:Ls))] λP=>chk (0=0/\(WcK P)=2/\2≠0) (z P O)) (chk (0+2<=(WcK C)) (gq Y L (WbO V.ag (WcL 2 C)) H (λD=>chk (WcK D=2) (cL 3 D 0 λQ=>cL 38 D 1 λd4=>lt [(V.sl 3 Q),(V.sl 38 U)] λF=>chk (0=0/\(WcK F)=2/\2≠0) (z F (0:Int))))))))))))))))))
theorem RK(hS:vW)(io:uj)(dF:jm)(gT:wo)(gq:qR)(L:Nat)(D:List V)(E:Int)(F:List V)(k:KK Y):dx DG (C3 hS io dF gT gq L) L Kf [(V.agg D),(QQe E),(V.agg F)] [] k=qK hS io dF gT gq L D E F (λz C=>k (V.ae [(V.agg z),(QQe C)]) []):=by kernel_rfl
abbrev ju:=∀ (Y:Type),Nat->List V->Int->List V->(List V->Int->Ob Y)->Ob Y
def dD:ju:=λY=>@qK Y hS io dF gT gq
def EZ(dD:ju)(L:Nat):Dk:=dA AG λD=>dA (AI .i64) λE=>dA AG λF=>d0 λY k=>dD Y L D E F (λz C=>k (V.ae [(V.agg z),(QQe C)]) [])
theorem To(L:Nat):DK (EZ dD L) (λ_=>dx DG (C3 hS io dF gT gq L) L Kf):=dy fT λz=>dy gX λC=>dy fT λD=>fS λ_ k=>RK hS io dF gT gq L z C D k
def cf_law30_made:CF:=cfD Iz 8
def vU:CC:=eT [1,1,0,1,0,0] cf_law30_made.body
def I3:CC:=eT [1,1,1] cf_law30_made.body
def mM:Nat->Sh:=f9 [(67,(.sl 69)),(25,(.sl 69)),(36,(.sl 69))]
def mH(bW:dY)(dH:jz)(dR:kw)(bU:dQ)(dO:jW)(dD:ju)(L:Nat):CBC:=(eL 828 (EZ dD L) (eL 822 (Hl dO L) (eL 827 (xo bU L) (eL 819 (JB dR L) (eL 448 (Fy dH L) (eL 231 (oi bW L) noC))))))
def yt:St->St:=f4 1 (bl 121 83) (bl 9351168509897910781984895 83)
def pj(F:Int)(z:Ls)(C:Int)(H:List V)(D E:Ls)(I:List V):St:=⟨((V.ptr 0 0)::(jn 2 ((V.ptr 4 0)::((V.ptr 5 0)::((V.ptr 6 0)::((QQe F)::(jn 76 []))))))),((.live false [(V.sl 1 z),(QQe C)])::(gn 3 ((.live true H)::((.live true [(V.gs 3 D),(V.gs 38 E)])::((.live true I)::(gn 77 []))))))⟩
def zK(z:Ls)(C:Int)(D E:Ls)(F:List V):St:=⟨(jn 4 ((V.ptr 5 0)::((V.ptr 6 0)::(jn 77 [])))),((.live false [(V.sl 1 z),(QQe C)])::(gn 4 ((.live true [(V.gs 3 D),(V.gs 38 E)])::((.live true F)::(gn 77 [])))))⟩
abbrev Ed(Y:Type):Type:=Int->Ls->Int->List V->Ls->Ls->List V->Ob Y
abbrev wV(Y:Type):Type:=Ls->Int->Ls->Ls->List V->Ob Y
def Hm(bW:dY)(dH:jz)(dR:kw)(bU:dQ)(dO:jW)(dD:ju)(L:Nat)(E:List V)(C:Ls)(D:Int)(z:Ed Y):Ob Y:=bW Y L (24:Int) C D (λF H I=>z F H I E ([]:Ls) ([]:Ls) [(V.gs 3 ([]:Ls)),(V.gs 38 ([]:Ls))])
theorem Vo(bW:dY)(dH:jz)(dR:kw)(bU:dQ)(dO:jW)(dD:ju)(L:Nat)(F:List V)(z:Ls)(C:Int)(k:KK Y):dx mM (mH bW dH dR bU dO dD L) L cf_law30_made [(V.ptr 0 0),(V.agg F)] [(.live false [(V.sl 1 z),(QQe C)])] k=Hm bW dH dR bU dO dD L F z C (λH z C I D E J=>dW (cz mM (mH bW dH dR bU dO dD L) 1 L vU) yt L (pj H z C I D E J) (dk 0 (dN (cz mM (mH bW dH dR bU dO dD L) 1 L I3) (dX 1 (CF.res cf_law30_made) k)))):=by kernel_rfl
def jo(bW:dY)(dH:jz)(dR:kw)(bU:dQ)(dO:jW)(dD:ju)(L:Nat)(H:Int)(I:Ls)(J:Int)(F:List V)(D E:Ls)(C:List V)(z:Ed Y)(ab:wV Y):Ob Y:=ifb (decide (H>(0:Int))) (bW Y L (4:Int) I J (λv3 O P=>ifb ((v3:Int)==(0:Int)) (chk (0+2<=(WcK C)) (bW Y L (6:Int) O P (λv6 v7 v8=>lt (Wbf .u8 v6) λx9=>dH Y L x9 (λad=>bW Y L (3:Int) v7 v8 (λao Q R=>lt (Wbf .i64 (((1:Int):Int)+ao)) λap=>dR Y L (WbO V.ag (WcL 2 C)) ad ap (λS aq=>chk ((WcK S)=2/\0+2<=2) (lt (cq [(V.gs 3 ([]:Ls)),(V.gs 38 ([]:Ls))] 0 S) λM=>ifb ((aq:Int)==(0:Int)) (chk (0+2<=(WcK M)) (chk ((WcK (WcL 2 M))=2/\0+2<=(WcK C)) (lt (cq C 0 (WcL 2 M)) λar=>lt (Wbf .i64 ((H:Int)-(1:Int))) λau=>z au Q R F D E ar))) (lt (Wbf .i64 ((H:Int)-(1:Int))) λav=>z av Q R F D E C)))))))) (ifb ((v3:Int)==(1:Int)) (chk (0+2<=(WcK C)) (cLd 69 F 80 λaw=>lt (Wbf .i64 ((((WcK aw:Nat):Int):Int)+(1:Int))) λaA=>bW Y L aA O P (λaK T U=>bU Y L (WbO V.ag (WcL 2 C)) aK (λd4 aN=>chk ((WcK d4)=2/\0+2<=2) (lt (cq [(V.gs 3 ([]:Ls)),(V.gs 38 ([]:Ls))] 0 d4) λN=>ifb ((aN:Int)==(0:Int)) (bW Y L (4:Int) T U (λaV X b9=>ifb ((aV:Int)==(0:Int)) (chk (0+2<=(WcK N)) (chk ((WcK (WcL 2 N))=2/\0+2<=(WcK C)) (lt (cq C 0 (WcL 2 N)) λaZ=>lt (Wbf .i64 ((H:Int)-(1:Int))) λa0=>z a0 X b9 F D E aZ))) (lt (Wbf .i64 ((H:Int)-(1:Int))) λa1=>z a1 X b9 F D E C))) (lt (Wbf .i64 ((H:Int)-(1:Int))) λa2=>z a2 T U F D E C)))))) (chk (0+2<=(WcK C)) (cLd 69 F 80 λa3=>dO Y L (WbO V.ag (WcL 2 C)) ((WcK a3:Nat):Int) (λc9 bn a4=>ifb a4 (chk (0+2<=(WcK C)) (cLd 69 F 80 λa5=>lt (Wbf .i64 ((c9:Int)-(1:Int))) λa6=>idx a5 a6 λa7=>dD Y L (WbO V.ag (WcL 2 C)) c9 (WbO V.ag (WcL 69 a7)) (λaa bp=>chk ((WcK aa)=2/\0+2<=(WcK C)) (lt (cq C 0 aa) λba=>lt (Wbf .i64 ((H:Int)-(1:Int))) λbb=>z bb O P F D E ba)))) (lt (Wbf .i64 ((H:Int)-(1:Int))) λbc=>z bc O P F D E C))))))) (ab I J D E C)
theorem MH(bW:dY)(dH:jz)(dR:kw)(bU:dQ)(dO:jW)(dD:ju)(L:Nat)(H:Int)(z:Ls)(C:Int)(I:List V)(D E:Ls)(F:List V)(X:St->Ob Y)(K:KT Y):cz mM (mH bW dH dR bU dO dD L) 1 L vU (pj H z C I D E F) (fR yt X K)=jo bW dH dR bU dO dD L H z C I D E F (λH z C I D E F=>X (pj H z C I D E F)) (λz C D E F=>K (.exit 0) (zK z C D E F)):=by kernel_rfl
def uI(bW:dY)(dH:jz)(dR:kw)(bU:dQ)(dO:jW)(dD:ju)(L:Nat)(D:Ls)(E:Int)(F H:Ls)(I:List V)(z:List V->Ls->Int->Ob Y):Ob Y:=chk (0+2<=(WcK I)) (chk ((WcK (WcL 2 I))=2/\0+2<=2) (lt (cq [(V.gs 3 F),(V.gs 38 H)] 0 (WcL 2 I)) λC=>chk (0=0/\(WcK C)=2/\2≠0) (z C D E)))
theorem JC(bW:dY)(dH:jz)(dR:kw)(bU:dQ)(dO:jW)(dD:ju)(L:Nat)(z:Ls)(C:Int)(D E:Ls)(F:List V)(k:KK Y):(dk 0 (dN (cz mM (mH bW dH dR bU dO dD L) 1 L I3) (dX 1 (CF.res cf_law30_made) k))) (.exit 0) (zK z C D E F)=uI bW dH dR bU dO dD L z C D E F (λH z C=>k (V.agg H) [(.live false [(V.sl 1 z),(QQe C)])]):=by kernel_rfl
def gJ(bW:dY)(dH:jz)(dR:kw)(bU:dQ)(dO:jW)(dD:ju)(L:Nat)(F:wV Y):Nat->Int->Ls->Int->List V->Ls->Ls->List V->Ob Y
 | 0,_,_,_,_,_,_,_=>none
 | n+1,H,z,C,I,D,E,J=>jo bW dH dR bU dO dD L H z C I D E J (λH z C I D E J=>gJ bW dH dR bU dO dD L F n H z C I D E J) F
theorem Cl(bW:dY)(dH:jz)(dR:kw)(bU:dQ)(dO:jW)(dD:ju)(L:Nat)(K:KT Y):∀ (n:Nat) (H:Int) (z:Ls) (C:Int) (I:List V) (D E:Ls) (F:List V),dW (cz mM (mH bW dH dR bU dO dD L) 1 L vU) yt n (pj H z C I D E F) K=gJ bW dH dR bU dO dD L (λz C D E F=>K (.exit 0) (zK z C D E F)) n H z C I D E F:=by
 intro n; induction n <;> intros
 ·rfl
 ·exact (MH ..).trans (by simp only [*]; rfl)
def BF(bW:dY)(dH:jz)(dR:kw)(bU:dQ)(dO:jW)(dD:ju)(L:Nat)(I:List V)(z:Ls)(C:Int)(F:List V->Ls->Int->Ob Y):Ob Y:=Hm bW dH dR bU dO dD L I z C (λJ z C M D E H=>gJ bW dH dR bU dO dD L (λz C D E H=>uI bW dH dR bU dO dD L z C D E H F) L J z C M D E H)
theorem VU(bW:dY)(dH:jz)(dR:kw)(bU:dQ)(dO:jW)(dD:ju)(L:Nat)(D:List V)(z:Ls)(C:Int)(k:KK Y):dx mM (mH bW dH dR bU dO dD L) L cf_law30_made [(V.ptr 0 0),(V.agg D)] [(.live false [(V.sl 1 z),(QQe C)])] k=BF bW dH dR bU dO dD L D z C (λE z C=>k (V.agg E) [(.live false [(V.sl 1 z),(QQe C)])]):=by
 refine (Vo bW dH dR bU dO dD L D z C k).trans ?_
 unfold BF
 first
  | (simp only [Cl,JC]; done)
  | (simp only [Cl]; rfl)
abbrev fJ:=∀ (Y:Type),Nat->List V->Ls->Int->(List V->Ls->Int->Ob Y)->Ob Y
def cR:fJ:=λY=>@BF Y bW dH dR bU dO dD
def Bx(cR:fJ)(L:Nat)(Y:Type)(args:List V)(bor:Bor)(k:KK Y):Ob Y:=match args,bor with
 | [a0,a1],[(.live false [w0_0,w0_1])]=>aP 0 0 a0 (aG a1 λD=>aL 1 w0_0 λz=>aI .i64 w0_1 λC=>cR Y L D z C (λE z C=>k (V.agg E) [(.live false [(V.sl 1 z),(QQe C)])]))
 | _,_=>none
theorem TJ(L:Nat)(Y:Type)(args:List V)(bor:Bor)(k:KK Y)(r:Y)(h:Bx cR L Y args bor k=some r):dx mM (mH bW dH dR bU dO dD L) L cf_law30_made args bor k=some r:=by
 unfold Bx at h
 split at h
 ·have q:=K5 h; clear h; obtain ⟨rfl,h⟩:=q
  have q:=zbk h; clear h; obtain ⟨D,rfl,h⟩:=q
  have q:=H5 h; clear h; obtain ⟨z,rfl,h⟩:=q
  have q:=rc h; clear h; obtain ⟨C,rfl,h⟩:=q
  exact (VU bW dH dR bU dO dD L D z C k).trans h
 ·cases h
def KV:CF:=cfD HI 40
def Dq:Nat->Sh:=f9 []
def Dh(L:Nat):CBC:=noC
def EW(L:Nat)(D:Ls)(z:Ls->Ob Y):Ob Y:=lc D (z ([]:Ls)) (λh0 C=>chk ((0+WcK (h0::C))*1<=cN/\0+WcK (h0::C)<=cN) (chk ((WcK (h0::C))≠0∨(WcK (WcO (h0::C)))=0) (z (bY 1 (WcK (h0::C)) (WcO (h0::C))))))
theorem RI(L:Nat)(z:Ls)(k:KK Y):dx Dq (Dh L) L KV [(V.sl 1 z)] [] k=EW L z (λz=>k (V.fr 1 z) []):=by kernel_rfl
abbrev fY:=∀ (Y:Type),Nat->Ls->(Ls->Ob Y)->Ob Y
def cU:fY:=λY=>@EW Y
def FE(cU:fY)(L:Nat):Dk:=dA (AL 1) λz=>d0 λY k=>cU Y L z (λz=>k (V.fr 1 z) [])
theorem Tr(L:Nat):DK (FE cU L) (λ_=>dx Dq (Dh L) L KV):=dy ji λz=>fS λ_ k=>RI L z k
def cf_law30_spoil:CF:=cfD GT 10
def oc:CC:=eT [1,1,1] cf_law30_spoil.body
def kC:Nat->Sh:=f9 [(3,(.row [(.sl 3),(.sl 38)])),(31,(.int .i64))]
def ky(bT:dI)(ca:eB)(L:Nat):CBC:=(eL 217 (AC ca L) (eL 829 (pN bT L) noC))
def D8(I J:Int)(z C:Nat)(D E:Ls)(F H:List V):St:=⟨(jn 1 ((QQe I)::((QQe J)::((V.ptr 3 0)::(jn 2 ((V.ptr 6 0)::(jn 95 []))))))),(gn 3 ((.live false [(V.own 11 0 z 3),(V.own 14 0 C 38)])::(gn 2 ((.live false [(V.gs 3 D),(V.gs 38 E)])::(gn 4 ((.live true F)::(gn 2 ((.live true H)::(gn 87 [])))))))))⟩
def BV(J M:Int)(z C:Nat)(D E:Ls)(F:Nat)(H I:List V):St:=⟨(jn 1 ((QQe J)::((QQe M)::((V.ptr 3 0)::(jn 2 ((V.ptr 6 0)::(jn 95 []))))))),(gn 3 ((.live false [(V.own 53 0 z 3),(V.own 14 0 C 38)])::(gn 2 ((.live false [(V.gs 3 D),(V.gs 38 E)])::(gn 4 ((.dead F)::(gn 2 ((.live true H)::(gn 38 ((.live true I)::(gn 48 [])))))))))))⟩
def A8(P:List V)(Q R:Int)(S:List V)(z C F:Nat)(J:Int)(M:Bool)(D E:Nat)(H I:Ls)(N O:List V):St:=⟨((V.agg P)::((QQe Q)::((QQe R)::((V.ptr 3 0)::((V.ae [])::((V.ae [])::((V.ptr 6 0)::((V.ae [])::((V.ae [])::((V.agg S)::((V.st [(V.own 11 0 z 3),(V.own 14 0 C 38)])::((V.ptr 3 0)::((V.own 11 0 F 3)::((QQe J)::((V.sc (.bool M))::((V.ae [])::((V.ae [])::((V.ae [])::((V.ae [])::((V.ae [])::((V.ae [])::((V.ae [])::((V.ae [])::((V.ae [])::((V.ae [])::((V.ae [])::((V.ae [])::((V.ae [])::((V.ae [])::((V.ae [])::((V.ae [])::((V.ae [])::((V.ae [])::((V.ae [])::((V.ae [])::((V.ae [])::((V.ae [])::((V.ae [])::((V.ae [])::((V.ae [])::((V.ae [])::((V.ae [])::((V.ae [])::((V.ae [])::((V.ae [])::((V.ae [])::((V.ae [])::((V.ae [])::((V.ae [])::((V.ae [])::((V.ae [])::((V.ae [])::((V.ae [])::((V.ae [])::((V.ae [])::((V.ae [])::((V.ae [])::((V.ae [])::((V.ae [])::((V.ae [])::((V.ae [])::((V.ae [])::((V.ae [])::((V.ae [])::((V.ae [])::((V.ae [])::((V.ae [])::((V.ae [])::((V.ae [])::((V.ae [])::((V.ae [])::((V.ae [])::((V.ae [])::((V.ae [])::((V.ae [])::((V.ae [])::((V.ae [])::((V.ae [])::((V.ae [])::((V.ae [])::((V.ae [])::((V.ae [])::((V.ae [])::((V.ae [])::((V.ae [])::((V.ae [])::((V.ae [])::((V.ae [])::((V.ae [])::((V.ae [])::((V.ae [])::((V.ae [])::((V.ae [])::((V.ae [])::((V.ae [])::((V.ae [])::((V.ae [])::((V.ae [])::((V.ae [])::((V.ae [])::((V.ae [])::((V.ae [])::[])))))))))))))))))))))))))))))))))))))))))))))))))))))))))))))))))))))))))))))))))))))))))))))))))))))),(gn 3 ((.live false [(V.own 11 0 D 3),(V.own 14 0 E 38)])::(gn 2 ((.live false [(V.gs 3 H),(V.gs 38 I)])::(gn 4 ((.live true N)::(gn 2 ((.live true O)::(gn 87 [])))))))))⟩
abbrev SY(Y:Type):Type:=Int->Int->Nat->Nat->Ls->Ls->List V->List V->Ob Y
abbrev N4(Y:Type):Type:=Int->Int->Nat->Nat->Ls->Ls->Nat->List V->List V->Ob Y
abbrev Oa(Y:Type):Type:=List V->Int->Int->List V->Nat->Nat->Nat->Int->Bool->Nat->Nat->Ls->Ls->List V->List V->Ob Y
def nL(bT:dI)(ca:eB)(L:Nat)(O:List V)(F H:Int)(E:SY Y)(J:N4 Y)(M:Oa Y):Ob Y:=chk (WcK O=2) (cL 3 O 0 λQ=>cL 38 O 1 λR=>bT Y L [(V.sl 3 Q),(V.sl 38 R)] (λC I z N=>ifb (decide (((C:Nat):Int)>(0:Int))) (ca Y L H ((C:Nat):Int) (λD=>chk (0<=D/\D<((C:Nat):Int)) (ca Y L F (6:Int) (λP=>ifb ((P:Int)==(0:Int)) (cI .i64 z ((0+((WcM D)*3))+1) λX=>lt (Wbf .i64 ((X:Int)-(2:Int))) λb9=>chk (1=1/\((0+((WcM D)*3))+2)+1<=(WcK z)) (lt (cq z ((0+((WcM D)*3))+2) [(QQe b9)]) λS=>E F H C I ([]:Ls) ([]:Ls) S N)) (ifb ((P:Int)==(1:Int)) (chk (1=1/\((0+((WcM D)*3))+1)+1<=(WcK z)) (lt (cq z ((0+((WcM D)*3))+1) [(QQe (0:Int))]) λT=>E F H C I ([]:Ls) ([]:Ls) T N)) (ifb ((P:Int)==(2:Int)) (chk (1=1/\((0+((WcM D)*3))+0)+1<=(WcK z)) (lt (cq z ((0+((WcM D)*3))+0) [(V.sl 1 ([]:Ls))]) λU=>E F H C I ([]:Ls) ([]:Ls) U N)) (ifb ((P:Int)==(3:Int)) (chk ((0+((WcM D)*3))+3<=(WcK z)) (chk ((WcK (WcL 3 (WcN (0+((WcM D)*3)) z)))=3/\0+3<=3) (chk ((C+WcK (bY 3 1 (cq [(V.sl 1 ([]:Ls)),(QQe (0:Int)),(QQe (0:Int))] 0 (WcL 3 (WcN (0+((WcM D)*3)) z)))))*40<=cN/\(C+WcK (bY 3 1 (cq [(V.sl 1 ([]:Ls)),(QQe (0:Int)),(QQe (0:Int))] 0 (WcL 3 (WcN (0+((WcM D)*3)) z)))))<=cN/\((C+WcK (bY 3 1 (cq [(V.sl 1 ([]:Ls)),(QQe (0:Int)),(QQe (0:Int))] 0 (WcL 3 (WcN (0+((WcM D)*3)) z)))))≠0∨(WcK z)=0)) (lt (WcL (C*3) z++WcO (bY 3 1 (cq [(V.sl 1 ([]:Ls)),(QQe (0:Int)),(QQe (0:Int))] 0 (WcL 3 (WcN (0+((WcM D)*3)) z))))) λd4=>J F H (C+WcK (bY 3 1 (cq [(V.sl 1 ([]:Ls)),(QQe (0:Int)),(QQe (0:Int))] 0 (WcL 3 (WcN (0+((WcM D)*3)) z))))) I ([]:Ls) ([]:Ls) (WcK z) N d4)))) (E F H C I ([]:Ls) ([]:Ls) z N)))))))) (M O F H [(V.sl 3 Q),(V.sl 38 R)] C I C ((C:Nat):Int) (decide (((C:Nat):Int)>(0:Int))) C I ([]:Ls) ([]:Ls) z N)))
theorem SJ(bT:dI)(ca:eB)(L:Nat)(O:List V)(F H:Int)(k:KK Y):dx kC (ky bT ca L) L cf_law30_spoil [(V.agg O),(QQe F),(QQe H)] [] k=nL bT ca L O F H (λF H z C D E I J=>(dN (cz kC (ky bT ca L) 0 L oc) (dX 0 (CF.res cf_law30_spoil) k)) .normal (D8 F H z C D E I J)) (λF H z C D E I J Q=>(dN (cz kC (ky bT ca L) 0 L oc) (dX 0 (CF.res cf_law30_spoil) k)) .normal (BV F H z C D E I J Q)) (λO F H T M N P R S z C D E I J=>(dN (cz kC (ky bT ca L) 0 L oc) (dX 0 (CF.res cf_law30_spoil) k)) .normal (A8 O F H T M N P R S z C D E I J)):=by kernel_rfl
def i5(bT:dI)(ca:eB)(L:Nat)(R J:Int)(E z:Nat)(S T:Ls)(H C:List V)(F:List V->Ob Y):Ob Y:=ifb (decide (((z:Nat):Int)>(0:Int))) (ca Y L R (6:Int) (λM=>ifb (decide (M>(3:Int))) (ca Y L J ((z:Nat):Int) (λD=>chk (0<=D/\D<((z:Nat):Int)) (ca Y L J (4:Int) (λI=>ifb ((I:Int)==(0:Int)) (chk (1=1/\(((0+((WcM D)*38))+0)+35)+1<=(WcK C)) (lt (cq C (((0+((WcM D)*38))+0)+35) [(QQe (99:Int))]) λN=>F [(V.sl 3 (bY 3 E H)),(V.sl 38 (bY 38 z N))])) (ifb ((I:Int)==(1:Int)) (chk (1=1/\((0+((WcM D)*38))+37)+1<=(WcK C)) (lt (cq C ((0+((WcM D)*38))+37) [(QQe (99:Int))]) λO=>F [(V.sl 3 (bY 3 E H)),(V.sl 38 (bY 38 z O))])) (ifb ((I:Int)==(2:Int)) (chk (1=1/\((((0+((WcM D)*38))+0)+33)+1)+1<=(WcK C)) (lt (cq C ((((0+((WcM D)*38))+0)+33)+1) [(V.sl 1 (bY 1 2 [(QQa (9:Int)),(QQa (9:Int))]))]) λP=>F [(V.sl 3 (bY 3 E H)),(V.sl 38 (bY 38 z P))])) (chk ((0+((WcM D)*38))+38<=(WcK C)) (chk ((WcK (WcL 38 (WcN (0+((WcM D)*38)) C)))=38/\0+38<=38) (chk ((z+WcK (bY 38 1 (cq (Wad 32 (QQa (0:Int))++[(QQc (0:Int)),(QQe (0:Int)),(V.sl 1 ([]:Ls)),(QQe (0:Int)),(V.sc (.bool false)),(QQe (0:Int))]) 0 (WcL 38 (WcN (0+((WcM D)*38)) C)))))*96<=cN/\(z+WcK (bY 38 1 (cq (Wad 32 (QQa (0:Int))++[(QQc (0:Int)),(QQe (0:Int)),(V.sl 1 ([]:Ls)),(QQe (0:Int)),(V.sc (.bool false)),(QQe (0:Int))]) 0 (WcL 38 (WcN (0+((WcM D)*38)) C)))))<=cN/\((z+WcK (bY 38 1 (cq (Wad 32 (QQa (0:Int))++[(QQc (0:Int)),(QQe (0:Int)),(V.sl 1 ([]:Ls)),(QQe (0:Int)),(V.sc (.bool false)),(QQe (0:Int))]) 0 (WcL 38 (WcN (0+((WcM D)*38)) C)))))≠0∨(WcK C)=0)) (lt (WcL (z*38) C++WcO (bY 38 1 (cq (Wad 32 (QQa (0:Int))++[(QQc (0:Int)),(QQe (0:Int)),(V.sl 1 ([]:Ls)),(QQe (0:Int)),(V.sc (.bool false)),(QQe (0:Int))]) 0 (WcL 38 (WcN (0+((WcM D)*38)) C))))) λQ=>F [(V.sl 3 (bY 3 E H)),(V.sl 38 (bY 38 (z+WcK (bY 38 1 (cq (Wad 32 (QQa (0:Int))++[(QQc (0:Int)),(QQe (0:Int)),(V.sl 1 ([]:Ls)),(QQe (0:Int)),(V.sc (.bool false)),(QQe (0:Int))]) 0 (WcL 38 (WcN (0+((WcM D)*38)) C))))) Q))])))))))))) (F [(V.sl 3 (bY 3 E H)),(V.sl 38 (bY 38 z C))]))) (F [(V.sl 3 (bY 3 E H)),(V.sl 38 (bY 38 z C))])
theorem OQ(bT:dI)(ca:eB)(L:Nat)(I J:Int)(z C:Nat)(D E:Ls)(F H:List V)(k:KK Y):(dN (cz kC (ky bT ca L) 0 L oc) (dX 0 (CF.res cf_law30_spoil) k)) .normal (D8 I J z C D E F H)=i5 bT ca L I J z C D E F H (λM=>k (V.agg M) []):=by kernel_rfl
def yA(bT:dI)(ca:eB)(L:Nat)(R J:Int)(E z:Nat)(S T:Ls)(U:Nat)(C H:List V)(F:List V->Ob Y):Ob Y:=ifb (decide (((z:Nat):Int)>(0:Int))) (ca Y L R (6:Int) (λM=>ifb (decide (M>(3:Int))) (ca Y L J ((z:Nat):Int) (λD=>chk (0<=D/\D<((z:Nat):Int)) (ca Y L J (4:Int) (λI=>ifb ((I:Int)==(0:Int)) (chk (1=1/\(((0+((WcM D)*38))+0)+35)+1<=(WcK C)) (lt (cq C (((0+((WcM D)*38))+0)+35) [(QQe (99:Int))]) λN=>F [(V.sl 3 (bY 3 E H)),(V.sl 38 (bY 38 z N))])) (ifb ((I:Int)==(1:Int)) (chk (1=1/\((0+((WcM D)*38))+37)+1<=(WcK C)) (lt (cq C ((0+((WcM D)*38))+37) [(QQe (99:Int))]) λO=>F [(V.sl 3 (bY 3 E H)),(V.sl 38 (bY 38 z O))])) (ifb ((I:Int)==(2:Int)) (chk (1=1/\((((0+((WcM D)*38))+0)+33)+1)+1<=(WcK C)) (lt (cq C ((((0+((WcM D)*38))+0)+33)+1) [(V.sl 1 (bY 1 2 [(QQa (9:Int)),(QQa (9:Int))]))]) λP=>F [(V.sl 3 (bY 3 E H)),(V.sl 38 (bY 38 z P))])) (chk ((0+((WcM D)*38))+38<=(WcK C)) (chk ((WcK (WcL 38 (WcN (0+((WcM D)*38)) C)))=38/\0+38<=38) (chk ((z+WcK (bY 38 1 (cq (Wad 32 (QQa (0:Int))++[(QQc (0:Int)),(QQe (0:Int)),(V.sl 1 ([]:Ls)),(QQe (0:Int)),(V.sc (.bool false)),(QQe (0:Int))]) 0 (WcL 38 (WcN (0+((WcM D)*38)) C)))))*96<=cN/\(z+WcK (bY 38 1 (cq (Wad 32 (QQa (0:Int))++[(QQc (0:Int)),(QQe (0:Int)),(V.sl 1 ([]:Ls)),(QQe (0:Int)),(V.sc (.bool false)),(QQe (0:Int))]) 0 (WcL 38 (WcN (0+((WcM D)*38)) C)))))<=cN/\((z+WcK (bY 38 1 (cq (Wad 32 (QQa (0:Int))++[(QQc (0:Int)),(QQe (0:Int)),(V.sl 1 ([]:Ls)),(QQe (0:Int)),(V.sc (.bool false)),(QQe (0:Int))]) 0 (WcL 38 (WcN (0+((WcM D)*38)) C)))))≠0∨(WcK C)=0)) (lt (WcL (z*38) C++WcO (bY 38 1 (cq (Wad 32 (QQa (0:Int))++[(QQc (0:Int)),(QQe (0:Int)),(V.sl 1 ([]:Ls)),(QQe (0:Int)),(V.sc (.bool false)),(QQe (0:Int))]) 0 (WcL 38 (WcN (0+((WcM D)*38)) C))))) λQ=>F [(V.sl 3 (bY 3 E H)),(V.sl 38 (bY 38 (z+WcK (bY 38 1 (cq (Wad 32 (QQa (0:Int))++[(QQc (0:Int)),(QQe (0:Int)),(V.sl 1 ([]:Ls)),(QQe (0:Int)),(V.sc (.bool false)),(QQe (0:Int))]) 0 (WcL 38 (WcN (0+((WcM D)*38)) C))))) Q))])))))))))) (F [(V.sl 3 (bY 3 E H)),(V.sl 38 (bY 38 z C))]))) (F [(V.sl 3 (bY 3 E H)),(V.sl 38 (bY 38 z C))])
theorem Mv(bT:dI)(ca:eB)(L:Nat)(J M:Int)(z C:Nat)(D E:Ls)(F:Nat)(H I:List V)(k:KK Y):(dN (cz kC (ky bT ca L) 0 L oc) (dX 0 (CF.res cf_law30_spoil) k)) .normal (BV J M z C D E F H I)=yA bT ca L J M z C D E F H I (λN=>k (V.agg N) []):=by kernel_rfl
def xS(bT:dI)(ca:eB)(L:Nat)(p0:List V)(T J:Int)(p9:List V)(M N U:Nat)(b9:Int)(c9:Bool)(E z:Nat)(d4 X:Ls)(H C:List V)(F:List V->Ob Y):Ob Y:=ifb (decide (((z:Nat):Int)>(0:Int))) (ca Y L T (6:Int) (λO=>ifb (decide (O>(3:Int))) (ca Y L J ((z:Nat):Int) (λD=>chk (0<=D/\D<((z:Nat):Int)) (ca Y L J (4:Int) (λI=>ifb ((I:Int)==(0:Int)) (chk (1=1/\(((0+((WcM D)*38))+0)+35)+1<=(WcK C)) (lt (cq C (((0+((WcM D)*38))+0)+35) [(QQe (99:Int))]) λP=>F [(V.sl 3 (bY 3 E H)),(V.sl 38 (bY 38 z P))])) (ifb ((I:Int)==(1:Int)) (chk (1=1/\((0+((WcM D)*38))+37)+1<=(WcK C)) (lt (cq C ((0+((WcM D)*38))+37) [(QQe (99:Int))]) λQ=>F [(V.sl 3 (bY 3 E H)),(V.sl 38 (bY 38 z Q))])) (ifb ((I:Int)==(2:Int)) (chk (1=1/\((((0+((WcM D)*38))+0)+33)+1)+1<=(WcK C)) (lt (cq C ((((0+((WcM D)*38))+0)+33)+1) [(V.sl 1 (bY 1 2 [(QQa (9:Int)),(QQa (9:Int))]))]) λR=>F [(V.sl 3 (bY 3 E H)),(V.sl 38 (bY 38 z R))])) (chk ((0+((WcM D)*38))+38<=(WcK C)) (chk ((WcK (WcL 38 (WcN (0+((WcM D)*38)) C)))=38/\0+38<=38) (chk ((z+WcK (bY 38 1 (cq (Wad 32 (QQa (0:Int))++[(QQc (0:Int)),(QQe (0:Int)),(V.sl 1 ([]:Ls)),(QQe (0:Int)),(V.sc (.bool false)),(QQe (0:Int))]) 0 (WcL 38 (WcN (0+((WcM D)*38)) C)))))*96<=cN/\(z+WcK (bY 38 1 (cq (Wad 32 (QQa (0:Int))++[(QQc (0:Int)),(QQe (0:Int)),(V.sl 1 ([]:Ls)),(QQe (0:Int)),(V.sc (.bool false)),(QQe (0:Int))]) 0 (WcL 38 (WcN (0+((WcM D)*38)) C)))))<=cN/\((z+WcK (bY 38 1 (cq (Wad 32 (QQa (0:Int))++[(QQc (0:Int)),(QQe (0:Int)),(V.sl 1 ([]:Ls)),(QQe (0:Int)),(V.sc (.bool false)),(QQe (0:Int))]) 0 (WcL 38 (WcN (0+((WcM D)*38)) C)))))≠0∨(WcK C)=0)) (lt (WcL (z*38) C++WcO (bY 38 1 (cq (Wad 32 (QQa (0:Int))++[(QQc (0:Int)),(QQe (0:Int)),(V.sl 1 ([]:Ls)),(QQe (0:Int)),(V.sc (.bool false)),(QQe (0:Int))]) 0 (WcL 38 (WcN (0+((WcM D)*38)) C))))) λS=>F [(V.sl 3 (bY 3 E H)),(V.sl 38 (bY 38 (z+WcK (bY 38 1 (cq (Wad 32 (QQa (0:Int))++[(QQc (0:Int)),(QQe (0:Int)),(V.sl 1 ([]:Ls)),(QQe (0:Int)),(V.sc (.bool false)),(QQe (0:Int))]) 0 (WcL 38 (WcN (0+((WcM D)*38)) C))))) S))])))))))))) (F [(V.sl 3 (bY 3 E H)),(V.sl 38 (bY 38 z C))]))) (F [(V.sl 3 (bY 3 E H)),(V.sl 38 (bY 38 z C))])
theorem MI(bT:dI)(ca:eB)(L:Nat)(J:List V)(Q R:Int)(S:List V)(z C F:Nat)(M:Int)(N:Bool)(D E:Nat)(H I:Ls)(O P:List V)(k:KK Y):(dN (cz kC (ky bT ca L) 0 L oc) (dX 0 (CF.res cf_law30_spoil) k)) .normal (A8 J Q R S z C F M N D E H I O P)=xS bT ca L J Q R S z C F M N D E H I O P (λJ=>k (V.agg J) []):=by kernel_rfl
def mE(bT:dI)(ca:eB)(L:Nat)(P:List V)(J M:Int)(F:List V->Ob Y):Ob Y:=nL bT ca L P J M (λJ M z C D E H I=>i5 bT ca L J M z C D E H I F) (λJ M z C D E H I R=>yA bT ca L J M z C D E H I R F) (λP J M U N O Q S T z C D E H I=>xS bT ca L P J M U N O Q S T z C D E H I F)
theorem Sy(bT:dI)(ca:eB)(L:Nat)(z:List V)(C D:Int)(k:KK Y):dx kC (ky bT ca L) L cf_law30_spoil [(V.agg z),(QQe C),(QQe D)] [] k=mE bT ca L z C D (λz=>k (V.agg z) []):=by
 refine (SJ bT ca L z C D k).trans ?_
 unfold mE
 first
  | (simp only [OQ,Mv,MI]; done)
  | (simp only []; rfl)
abbrev ft:=∀ (Y:Type),Nat->List V->Int->Int->(List V->Ob Y)->Ob Y
def cy:ft:=λY=>@mE Y bT ca
def Fa(cy:ft)(L:Nat):Dk:=dA AG λz=>dA (AI .i64) λC=>dA (AI .i64) λD=>d0 λY k=>cy Y L z C D (λz=>k (V.agg z) [])
theorem Sa(L:Nat):DK (Fa cy L) (λ_=>dx kC (ky bT ca L) L cf_law30_spoil):=dy fT λz=>dy gX λC=>dy gX λD=>fS λ_ k=>Sy bT ca L z C D k
def cf_scan_places:CF:=cfD GS 30
def tt:CC:=eT [1,1,1,0,1,0,0] cf_scan_places.body
def xA:CC:=eT [1,1,1,1] cf_scan_places.body
def kq:Nat->Sh:=f9 [(23,(.sl 1)),(25,(.int .i64)),(32,(.sl 1)),(38,(.sl 1)),(44,(.int .i64)),(48,(.int .i64)),(53,(.int .i64)),(55,(.int .i64)),(60,(.int .i64)),(65,(.sl 1))]
def kv(L:Nat):CBC:=noC
def u5:St->St:=f4 0 (bl 57360 70) (bl 1180589363960735596051 70)
def oI(z:Ls)(C D:Int)(E:Lm):St:=⟨(jn 4 ((V.mp 12)::(jn 8 ((V.sl 3 z)::((QQe C)::((QQe D)::(jn 54 []))))))),(gn 12 ((.mp E)::(gn 57 [])))⟩
def vA(C:Bool)(z:Lm):St:=⟨(jn 2 ((V.sc (.map none))::((V.sc (.bool C))::(jn 66 [])))),(gn 12 ((.mp z)::(gn 57 [])))⟩
def xD(z:Lm):St:=⟨(jn 4 ((V.mp 12)::(jn 65 []))),(gn 12 ((.mp z)::(gn 57 [])))⟩
def Ft(L:Nat)(D:Ls)(C:Bool->Ob Y)(z:Ls->Int->Int->Lm->Ob Y):Ob Y:=ifb (decide (((WcK D:Nat):Int)>(1000:Int))) (C false) (z D ((WcK D:Nat):Int) (0:Int) ([]:Lm))
theorem R5(L:Nat)(C:Ls)(k:KK Y):dx kq (kv L) L cf_scan_places [(V.sl 3 C)] [] k=Ft L C (λz=>k (V.ae [(V.sc (.map none)),(V.sc (.bool z))]) []) (λD E F H=>dW (cz kq (kv L) 0 L tt) u5 L (oI D E F H) (dk 0 (dN (cz kq (kv L) 0 L xA) (dX 0 (CF.res cf_scan_places) k)))):=by kernel_rfl
def qu(L:Nat)(H:Ls)(I F:Int)(C:Lm)(z:Bool->Lm->Ob Y)(E:Ls->Int->Int->Lm->Ob Y)(J:Lm->Ob Y):Ob Y:=ifb (decide (F<I)) (idx H F λM=>chk ((WcK (WcL 3 M))=3/\0+3<=3) (lt (cq [(V.gs 1 ([]:Ls)),(QQe (0:Int)),(QQe (0:Int))] 0 (WcL 3 M)) λD=>cLd 1 D 0 λX=>yp X λb9=>mAt 1 (V.sc (.string b9)) C λN=>aI .i64 (Option.getD N (QQe (0:Int))) λv5=>ifb (Option.isSome N) (z false C) (cLd 1 D 0 λc9=>ifb ((((WcK c9:Nat):Int):Int)==(0:Int)) (z false C) (cLd 1 D 0 λv7=>ifb (decide (((WcK v7:Nat):Int)>(520:Int))) (z false C) (cI .i64 D 1 λv8=>ifb (decide (v8<(1:Int))) (z false C) (cI .i64 D 1 λv9=>ifb (decide (v9>(16777216:Int))) (z false C) (cI .i64 D 2 λO=>cI .i64 D 1 λP=>lt (Wbf .i64 ((P:Int)-(1:Int))) λQ=>ifb (decide (O<Q)) (z false C) (cI .i64 D 2 λR=>ifb (decide (R>(16777216:Int))) (z false C) (cLd 1 D 0 λS=>yp S λT=>zbc 1 (V.sc (.string T)) (QQe F) C λU=>lt (Wbf .i64 ((F:Int)+(1:Int))) λd4=>E H I d4 U))))))))) (J C)
theorem Jw(L:Nat)(C:Ls)(D E:Int)(z:Lm)(X:St->Ob Y)(K:KT Y):cz kq (kv L) 0 L tt (oI C D E z) (fR u5 X K)=qu L C D E z (λF z=>K .ret (vA F z)) (λC D E z=>X (oI C D E z)) (λz=>K (.exit 0) (xD z)):=by kernel_rfl
def yR(L:Nat)(C:Bool)(D:Lm)(z:Bool->Ob Y):Ob Y:=z C
theorem Gp(L:Nat)(D:Bool)(z:Lm)(k:KK Y):(dk 0 (dN (cz kq (kv L) 0 L xA) (dX 0 (CF.res cf_scan_places) k))) .ret (vA D z)=yR L D z (λC=>k (V.ae [(V.sc (.map none)),(V.sc (.bool C))]) []):=by kernel_rfl
def Aw(L:Nat)(C:Lm)(z:Bool->Lm->Ob Y):Ob Y:=z true C
theorem HO(L:Nat)(z:Lm)(k:KK Y):(dk 0 (dN (cz kq (kv L) 0 L xA) (dX 0 (CF.res cf_scan_places) k))) (.exit 0) (xD z)=Aw L z (λC D=>k (V.ae [(V.mp 0),(V.sc (.bool C))]) [(.mp D)]):=by kernel_rfl
def mj(L:Nat)(z:Bool->Lm->Ob Y)(C:Lm->Ob Y):Nat->Ls->Int->Int->Lm->Ob Y
 | 0,_,_,_,_=>none
 | n+1,D,E,F,H=>qu L D E F H z (λD E F H=>mj L z C n D E F H) C
theorem yL(L:Nat)(K:KT Y):∀ (n:Nat) (C:Ls) (D E:Int) (z:Lm),dW (cz kq (kv L) 0 L tt) u5 n (oI C D E z) K=mj L (λF z=>K .ret (vA F z)) (λz=>K (.exit 0) (xD z)) n C D E z:=by
 intro n; induction n <;> intros
 ·rfl
 ·exact (Jw ..).trans (by simp only [*]; rfl)
def y6(L:Nat)(I:Ls)(C:Bool->Ob Y)(D:Bool->Lm->Ob Y):Ob Y:=Ft L I C (λE F H z=>mj L (λJ z=>yR L J z C) (λz=>Aw L z D) L E F H z)
theorem Tk(L:Nat)(C:Ls)(k:KK Y):dx kq (kv L) L cf_scan_places [(V.sl 3 C)] [] k=y6 L C (λz=>k (V.ae [(V.sc (.map none)),(V.sc (.bool z))]) []) (λz D=>k (V.ae [(V.mp 0),(V.sc (.bool z))]) [(.mp D)]):=by
 refine (R5 L C k).trans ?_
 unfold y6
 first
  | (simp only [yL,Gp,HO]; done)
  | (simp only [yL]; rfl)
abbrev fZ:=∀ (Y:Type),Nat->Ls->(Bool->Ob Y)->(Bool->Lm->Ob Y)->Ob Y
def de:fZ:=λY=>@y6 Y
def E9(de:fZ)(L:Nat):Dk:=dA (AL 3) λC=>d0 λY k=>de Y L C (λz=>k (V.ae [(V.sc (.map none)),(V.sc (.bool z))]) []) (λz D=>k (V.ae [(V.mp 0),(V.sc (.bool z))]) [(.mp D)])
theorem Tc(L:Nat):DK (E9 de L) (λ_=>dx kq (kv L) L cf_scan_places):=dy ji λz=>fS λ_ k=>Tk L z k
def HS:CF:=cfD Ez 126
def zn:Nat->Sh:=f9 []
def zJ(L:Nat):CBC:=noC
def BX(L:Nat)(C D:Ls)(z:Int->Ob Y):Ob Y:=zdW C D λE=>lt E λF=>z F
theorem Oi(L:Nat)(z C:Ls)(k:KK Y):dx zn (zJ L) L HS [(V.sl 1 z),(V.sl 1 C)] [] k=BX L z C (λz=>k (QQe z) []):=by kernel_rfl
abbrev qX:=∀ (Y:Type),Nat->Ls->Ls->(Int->Ob Y)->Ob Y
def gk:qX:=λY=>@BX Y
def Ck(gk:qX)(L:Nat):Dk:=dA (AL 1) λz=>dA (AL 1) λC=>d0 λY k=>gk Y L z C (λz=>k (QQe z) [])
theorem NA(L:Nat):DK (Ck gk L) (λ_=>dx zn (zJ L) L HS):=dy ji λz=>dy ji λC=>fS λ_ k=>Oi L z C k
end
end
section
variable {L:Nat}{s:ScT}{l:List (List Int)}{b:List Int}
variable {Y:Type}
theorem s_0(s:ScT)(k:Ls->Option Y):cLd 3 (eU s) 0 k=k (s.tk.map f6):=jZ rfl k
theorem s_1(s:ScT)(k:Ls->Option Y):cLd 38 (eU s) 1 k=k (s.ow.map cH):=jZ rfl k
theorem s_c(s:ScT)(k:Option Y):chk (0+2<=(WcK (eU s))) k=k:=bQ (by simp [eU]) k
theorem s_d(s:ScT):WbO V.ag (WcL 2 (eU s))=eU s:=rfl
theorem k_r(t:TkT)(k:Int->Option Y):cI .i64 (WcN 2 (f6 t)) 0 k=k t.r:=dg rfl k
theorem RS(t:TkT)(k:Int->Option Y):cI .i64 (f6 t) 2 k=k t.r:=dg rfl k
theorem k_s(t:TkT)(k:Ls->Option Y):cL 1 (f6 t) 0 k=k (eQ .u8 t.an):=uD rfl k
theorem Tb(t:TkT)(k:Ls->Option Y):cLd 1 (f6 t) 0 k=k (eQ .u8 t.an):=jZ rfl k
theorem k_c(t:TkT)(k:Option Y):chk ((WcK (WcL 3 (f6 t)))=3/\0+3<=3) k=k:=bQ ⟨rfl,by omega⟩ k
theorem zdt(t:TkT):cq [(V.gs 1 ([]:Ls)),(QQe (0:Int)),(QQe (0:Int))] 0 (WcL 3 (f6 t))=f6 t:=rfl
def Ll(o:Int)(t:TkT):Int:=if o<0 then t.r else if t.r<o then t.r else o
def nX(l:List TkT):Int:=l.foldl Ll (-1)
theorem Xs(L:Nat)(s:ScT)(hn:s.tk.length<=1000000)(kx:Int->Option Y):∀ (n i:Nat) (o:Int),i<=s.tk.length->s.tk.length-i<n ->
  nB L kx n o (i:Int) (eU s)=kx ((s.tk.drop i).foldl Ll o):=by
 intro n
 induction n with
 | zero=>intro i o h1 h2; omega
 | succ n ih=>
  intro i o h1 h2;simp only [nB,tN,s_0,WcP,cM];by_cases h:i<s.tk.length
  ·rw [cY (by omega)];simp only [fj (eH h),k_r,up (show i<=1000000000 by omega)];rw [WaM h,List.foldl_cons];by_cases ho:o<0
   ·rw [cY ho,ih (i+1) _ (by omega) (by omega)];simp only [Ll,if_pos ho]
   ·rw [di ho];by_cases hr:s.tk[i].r<o
    ·rw [cY hr,ih (i+1) _ (by omega) (by omega)];simp only [Ll,if_neg ho,if_pos hr]
    ·rw [di hr,ih (i+1) _ (by omega) (by omega)];simp only [Ll,if_neg ho,if_neg hr]
  ·rw [di (by omega),WaD (by omega)]; rfl
theorem Gn(hL:2000000<=L)(hn:s.tk.length<=1000000)(k:Int->Option Y):bZ Y L (eU s) k=k (nX s.tk):=by
 simp only [bZ,vf,Bw];rw [show (0:Int)=((0:Nat):Int) from rfl,Xs L s hn _ L 0 _ (by omega) (by omega),WcR];rfl
theorem zbg:∀ (l:List TkT) (o:Int),(∀ t∈l,0<=t.r)->(0<=o∨l≠[])->0<=l.foldl Ll o
 | [],o,_,h=>by simpa using h
 | t::l,o,hp,_=>by
  have h0:=hp t (by simp);refine zbg l _ (λx hx=>hp x (by simp [hx])) (.inl ?_);unfold Ll; split
  ·exact h0
  ·split <;> omega
def fi(l:List (List Int)):Ls:=l.map λb=>[V.sl 1 (eQ .u8 b)]
theorem EI(l:List (List Int)):(fi l).length=l.length:=by simp [fi]
theorem zfc{i:Nat}(h:i<l.length):(fi l)[i]?=some [V.sl 1 (eQ .u8 l[i])]:=by simp [fi,h]
theorem XS(b:List Int):bY 1 1 [(V.sl 1 (eQ .u8 b))]=fi [b]:=rfl
theorem Yz(l:List (List Int))(b:List Int):fi l++fi [b]=fi (l++[b]):=by simp [fi]
theorem Yl(h:l.length<=10000000)(b:List Int)(k:Option Y):chk ((WcK (fi l)+WcK (fi [b]))*24<=cN/\WcK (fi l)+WcK (fi [b])<=cN) k=k:=
 bQ (by simp only [EI,List.length_cons,List.length_nil,cN]; omega) k
def B7(r:Int)(l:List TkT):List (List Int):=(l.filter λt=>t.r==r).map (·.an)
theorem zgU(r:Int)(l:List TkT):(B7 r l).length<=l.length:=by simp only [B7,WcP]; exact List.length_filter_le _ _
theorem zgn(r:Int)(t:TkT)(l:List TkT):B7 r (t::l)=if t.r=r then t.an::B7 r l else B7 r l:=by
 simp only [B7,List.filter_cons];by_cases h:t.r=r
 ·simp [h]
 ·simp [h,beq_eq_false_iff_ne.2 h]
theorem zbq(hL:2000000<=L)(s:ScT)(hn:s.tk.length<=1000000)(kx:Ls->Option Y):∀ (n i:Nat) (a:List (List Int)),i<=s.tk.length->s.tk.length-i<n->a.length<=i ->
  pU bZ L kx n (fi a) (i:Int) (eU s)=kx (fi (a++B7 (nX s.tk) (s.tk.drop i))):=by
 intro n
 induction n with
 | zero=>intro i o h1 h2; omega
 | succ n ih=>
  intro i a h1 h2 h3;simp only [pU,zL,s_0,WcP,cM,s_c,s_d];by_cases h:i<s.tk.length
  ·rw [cY (by omega)];simp only [fj (eH h),k_r,k_s,Gn hL hn,up (show i<=1000000000 by omega),XS,Yl (show a.length<=10000000 by omega),Yz];rw [WaM h,zgn];by_cases hr:s.tk[i].r=nX s.tk
   ·rw [eW hr,ih (i+1) _ (by omega) (by omega) (by simp; omega),if_pos hr,List.append_assoc]; rfl
   ·rw [dT hr,ih (i+1) _ (by omega) (by omega) (by omega),if_neg hr]
  ·rw [di (by omega),WaD (by omega)];simp [B7]
theorem Ov(hL:2000000<=L)(hn:s.tk.length<=1000000)(k:Ls->Option Y):dF Y L (eU s) k=k (fi (B7 (nX s.tk) s.tk)):=by
 simp only [dF,DN,JZ];have:=zbq hL s hn (λp3=>wx bZ L p3 k) L 0 [] (by omega) (by omega) (by simp);rw [show fi []=([]:Ls) from rfl,WcR,WcS] at this;exact this
theorem zbM(l:List (List Int))(hn:l.length<=10000000)(hl:∀ b∈l,ed b)(hb:ed b)(kr:Bool->Option Y)(kx:Option Y):∀ (n i:Nat),i<=l.length->l.length-i<n ->
  qY dv L kr kx n (fi l) (eQ .u8 b) (i:Int)=ifb ((l.drop i).any λx=>decide (x=b)) (kr true) kx:=by
 intro n
 induction n with
 | zero=>intro i h1 h2; omega
 | succ n ih=>
  intro i h1 h2;simp only [qY,Co,EI,cM,dv,AY];by_cases h:i<l.length
  ·rw [cY (by omega),fj (zfc h),uD rfl,qP,qP,VE (hl _ (WaV h)) hb,up (by omega),zgQ h,ih (i+1) (by omega) (by omega)];by_cases hx:l[i]=b
   ·rw [cY hx,decide_eq_true hx,Bool.true_or]; rfl
   ·rw [di hx,decide_eq_false hx,Bool.false_or]
  ·rw [di (by omega),WaD (by omega)]; rfl
def ME(l:List (List Int))(b:List Int):Bool:=l.any λx=>decide (x=b)
theorem zaX(hL:20000000<=L)(hn:l.length<=10000000)(hl:∀ b∈l,ed b)(hb:ed b)(k:Bool->Option Y):bP Y L (fi l) (eQ .u8 b) k=k (ME l b):=by
 simp only [bP,D5,JO];rw [show (0:Int)=((0:Nat):Int) from rfl,zbM l hn hl hb _ _ L 0 (by omega) (by omega),WcR];simp only [wu,yq,ME];cases l.any _ <;> rfl
def le4(x:Int):List Int:=[Wbf .u8 (SG .u64 x 0),Wbf .u8 (SG .u64 x 8),Wbf .u8 (SG .u64 x 16),Wbf .u8 (SG .u64 x 24)]
theorem zjo(n:Nat)(x:Int)(k:Ls->Option Y):gW Y (n+6) x 4 k=k (eQ .u8 (le4 x)):=by kernel_rfl
def TG(w:OwT):List Int:=w.h++le4 (Wbf .u64 w.ix)
theorem Z2(L:Nat)(a b:List Int)(h:a.length+b.length<=1000000)(k:Ls->Option Y):cQ Y L (eQ .u8 a) (eQ .u8 b) k=k (eQ .u8 (a++b)):=by
 simp only [cQ,xn,kL,cM];rw [lp (by omega) (by omega),bQ (by simp only [cN]; omega),bQ (by simp only [cN,Wad,List.length_nil]; omega),
  List.replicate_zero,WcS,bQ (by rw [kL]; simp only [cN]; omega),Lp]
theorem zkq{kd:IntKind}{l:List Int}(h:l≠[]):(row kd l).isEmpty=false:=by
 cases l with
 | nil=>exact absurd rfl h
 | cons x l=>rfl
theorem zh7(hL:6<=L){w:OwT}(h:w.h.length=32)(k:Ls->Option Y):dJ Y L (ic w) k=k (eQ .u8 (TG w)):=by
 obtain ⟨n,rfl⟩:∃ n,L=n+6:=⟨L-6,by omega⟩;simp only [dJ,Fz];have ht:WcL 32 (ic w)=row .u8 w.h:=by unfold ic; exact List.take_left' (by rw [iQ,h])
 have hi:(ic w)[32]?=some (QQc w.ix):=by
  unfold ic; rw [Wal (by rw [iQ]; omega),iQ,h]; rfl
 rw [bQ (by rw [im h]; omega),ht];simp only [fN,vw];rw [bQ (by rw [iQ]; omega),zkq (by intro e; rw [e] at h; simp at h),eI,TS .u8 32 w.h (by omega),WbR (by omega),
  show ([]:Ls)=eQ .u8 [] from rfl,Z2 _ _ _ (by simp [h]),WcS,dg hi]
 simp only [fU,xH,cM,zjo];rw [Z2 _ _ _ (by simp [h,le4])]; rfl
end
section
variable {b:List Int}{L:Nat}{s:ScT}{w:OwT}
variable {Y:Type}
def sk(b:List Int):V:=.sc (.string ⟨(bts b).toArray⟩)
theorem Xm{a:List Int}(ha:ed a)(hb:ed b):xb (sk a) (sk b)=some (decide (a=b)):=by
 show some ((⟨(bts a).toArray⟩:ByteArray)==⟨(bts b).toArray⟩)=_;have e:((⟨(bts a).toArray⟩:ByteArray)==⟨(bts b).toArray⟩)=((bts a).toArray==(bts b).toArray):=rfl;rw [e];by_cases h:a=b
 ·subst h; simp
 ·rw [decide_eq_false h];congr 1;refine beq_eq_false_iff_ne.2 λe=>h ((XO ha hb).1 ?_);simpa using congrArg Array.toList e
structure ScOk (s:ScT):Prop where
 tk:∀ t∈s.tk,TkOk t
 tl:s.tk.length<=1000
 ow:∀ w∈s.ow,OwOk w
 ol:s.ow.length<=4096
theorem zbR(s:ScT)(hs:∀ t∈s.tk,ed t.an)(hn:s.tk.length<=1000000)(hb:ed b)(kr:Int->Option Y)(kx:Option Y):∀ (n i:Nat),i<=s.tk.length->s.tk.length-i<n ->
  pY L kr kx n (eQ .u8 b) (i:Int) (eU s)=ifb (decide (gF (λt:TkT=>decide (t.an=b)) (s.tk.drop i) i>=0)) (kr (gF (λt:TkT=>decide (t.an=b)) (s.tk.drop i) i)) kx:=by
 intro n
 induction n with
 | zero=>intro i h1 h2; omega
 | succ n ih=>
  intro i h1 h2;simp only [pY,zS,s_0,WcP,cM];by_cases h:i<s.tk.length
  ·rw [cY (by omega),fj (eH h),k_s,qP,qP,VE (hs _ (WaV h)) hb,up (by omega),ih (i+1) (by omega) (by omega),WaM h];rw [show gF (λt:TkT=>decide (t.an=b)) (s.tk[i]::WcN (i+1) s.tk) i=if decide (s.tk[i].an=b)=true then (i:Int) else gF (λt:TkT=>decide (t.an=b)) (WcN (i+1) s.tk) (i+1) from rfl];by_cases hx:s.tk[i].an=b
   ·rw [cY hx,if_pos (by simp [hx]),cY (by omega)]
   ·rw [di hx,if_neg (by simp [hx])]
  ·rw [di (by omega),WaD (by omega),di (by simp [gF])]
theorem PH(hL:2000000<=L)(hs:∀ t∈s.tk,ed t.an)(hn:s.tk.length<=1000000)(hb:ed b)(k:Int->Option Y):cA Y L (eU s) (eQ .u8 b) k=k (gF (λt:TkT=>decide (t.an=b)) s.tk 0):=by
 simp only [cA,Cs,Hz];rw [show (0:Int)=((0:Nat):Int) from rfl,zbR s hs hn hb _ _ L 0 (by omega) (by omega),WcR];rcases qW (λt:TkT=>decide (t.an=b)) s.tk 0 with ⟨e,_⟩ | ⟨i,hi,e,_⟩
 ·rw [e,di (by omega)]; rfl
 ·rw [e,cY (by omega)]; rfl
theorem zlu(hL:2000000<=L)(hs:ScOk s)(hb:ed b)(k:Int->Option Y):cA Y L (eU s) (eQ .u8 b) k=k (gF (λt:TkT=>decide (t.an=b)) s.tk 0):=
 PH hL (λt ht=>(hs.tk t ht).s) (by have:=hs.tl; omega) hb k
theorem zbo(h:w.h.length=32){i:Nat}(hi:i<32):(ic w)[i]?=some (QQa w.h[i]):=by
 unfold ic;rw [List.getElem?_append_left (by rw [iQ]; omega)];simp [row,h,hi]
theorem C2(h:w.h.length=32):(ic w)[32]?=some (QQc w.ix):=by
 unfold ic;rw [Wal (by rw [iQ]; omega),iQ,h]; rfl
def m7:List Int->List Int->Int
 | x::l,y::m=>if x<y then -1 else if y<x then 1 else m7 l m
 | _,_=>0
theorem zb2:∀ (l m:List Int),l.length=m.length->(m7 l m=0↔l=m)
 | [],[],_=>by simp [m7]
 | x::l,y::m,h=>by
  have:=zb2 l m (by simpa using h);unfold m7;by_cases h1:x<y
  ·rw [if_pos h1]; simp; omega
  ·rw [if_neg h1];by_cases h2:y<x
   ·rw [if_pos h2]; simp; omega
   ·rw [if_neg h2,this];have:x=y:=by omega
    simp [this]
theorem Tf:∀ (l m:List Int) (i j:Int),l.length=m.length->m7 (l++[i]) (m++[j])=if m7 l m=0 then (if i<j then -1 else if j<i then 1 else 0) else m7 l m
 | [],[],i,j,_=>by simp [m7]
 | x::l,y::m,i,j,h=>by
  have ih:=Tf l m i j (by simpa using h);simp only [List.cons_append,m7];by_cases h1:x<y
  ·simp [h1]
  ·by_cases h2:y<x
   ·simp [h1,h2]
   ·simp only [h1,h2,if_false,ih]
def ptL(w:OwT):List Int:=w.h++[w.ix]
theorem Yi{L:Nat}{w v:OwT}(hw:w.h.length=32)(hv:v.h.length=32)(kr:Int->Option Y)(kx:List V->List V->Option Y):∀ (n i:Nat),i<=32->32-i<n ->
  mn L kr kx n (i:Int) (ic w) (ic v)=if m7 (w.h.drop i) (v.h.drop i)=0 then kx (ic w) (ic v) else kr (m7 (w.h.drop i) (v.h.drop i))
 | 0,i,h1,h2=>by omega
 | n+1,i,h1,h2=>by
  by_cases h:i<32
  ·have hb:0+(WcM (i:Int))*1=i:=by simp
   have h32:(0:Int)<=(i:Int)/\(i:Int)<((32:Nat):Int):=by omega
   have hwi:=zbo hw (show i<32 by omega);have hvi:=zbo hv (show i<32 by omega);rw [mn,qB,cY (by omega),bQ h32,hb,dg hwi,bQ h32,dg hvi,bQ h32,dg hwi,bQ h32,dg hvi,cM,up (by omega),Yi hw hv kr kx n (i+1) (by omega) (by omega),WaM (by omega:i<w.h.length),WaM (by omega:i<v.h.length)];by_cases c1:w.h[i]<v.h[i]
   ·have ec:m7 (w.h[i]::WcN (i+1) w.h) (v.h[i]::WcN (i+1) v.h)=-1:=by simp only [m7,if_pos c1]
    rw [cY c1,ec,if_neg (by omega)]
   by_cases c2:w.h[i]>v.h[i]
   ·have ec:m7 (w.h[i]::WcN (i+1) w.h) (v.h[i]::WcN (i+1) v.h)=1:=by simp only [m7,if_neg c1]; rw [if_pos c2]
    rw [di c1,cY c2,ec,if_neg (by omega)]
   ·have ec:m7 (w.h[i]::WcN (i+1) w.h) (v.h[i]::WcN (i+1) v.h)=m7 (WcN (i+1) w.h) (WcN (i+1) v.h):=by simp only [m7,if_neg c1]; rw [if_neg c2]
    rw [di c1,di c2,ec]
  ·rw [mn,qB,di (by omega),WaD (by omega),WaD (by omega)]; rfl
theorem zeB(hL:40<=L){v:OwT}(hw:w.h.length=32)(hv:v.h.length=32)(k:Int->Option Y):gm Y L (ic w) (ic v) k=k (m7 (ptL w) (ptL v)):=by
 simp only [gm,vh,BO];refine (Yi hw hv _ _ L 0 (by omega) (by omega)).trans ?_;unfold ptL;rw [Tf _ _ _ _ (by omega),WcR,WcR];split
 ·rename_i h;rw [sQ,dg (C2 hw),dg (C2 hv),dg (C2 hw),dg (C2 hv)];by_cases h1:w.ix<v.ix
  ·rw [cY h1,if_pos h1]
  by_cases h2:w.ix>v.ix
  ·rw [di h1,cY h2,if_neg h1,if_pos h2]
  ·rw [di h1,di h2,if_neg h1,if_neg h2]
 ·rfl
def Li(w v:OwT):Bool:=decide (m7 (ptL w) (ptL v)<0)||(decide (m7 (ptL w) (ptL v)=0)&&decide (w.ht<v.ht))
theorem XY(hL:40<=L){v:OwT}(hw:w.h.length=32)(hv:v.h.length=32)(k:Bool->Option Y):bV Y L (cH w) (cH v) k=k (Li w v):=by
 simp only [bV,C6];rw [bQ (by rw [eG hw]; omega),bQ (by rw [eG hv]; omega),pI hw,pI hv,zeB hL hw hv,dg (f8 hw 2),dg (f8 hv 2)];unfold Li;by_cases h1:m7 (ptL w) (ptL v)<0
 ·rw [cY h1,decide_eq_true h1,Bool.true_or]
 by_cases h2:m7 (ptL w) (ptL v)=0
 ·rw [di h1,eW h2,decide_eq_false h1,decide_eq_true h2,Bool.false_or,WcV]
 ·rw [di h1,dT h2,decide_eq_false h1,decide_eq_false h2]; rfl
theorem zf5{v:OwT}(hw:w.h.length=32)(hv:v.h.length=32):∃ b:Bool,∀ (L:Nat),40<=L->∀ (Y:Type) (k:Bool->Option Y),bV Y L (cH w) (cH v) k=k b:=⟨_,λL hL Y k=>XY hL hw hv k⟩
theorem Gg(h:w.h.length=32):cq (Wad 32 (QQa (0:Int))++[(QQc (0:Int)),(QQe (0:Int)),(V.gs 1 ([]:Ls)),(QQe (0:Int)),(V.sc (.bool false)),(QQe (0:Int))]) 0 (cH w)=cH w:=mc (by rw [eG h]; rfl)
theorem KY(h:w.h.length=32):cq (Wad 32 (QQa (0:Int))++[(QQc (0:Int)),(QQe (0:Int)),(V.sl 1 ([]:Ls)),(QQe (0:Int)),(V.sc (.bool false)),(QQe (0:Int))]) 0 (cH w)=cH w:=mc (by rw [eG h]; rfl)
def NC(w v:OwT):Bool:=Li w v&&(!xa w v||(!(w.sp==0)&&!decide (w.sp>v.ht)))
def nV:List OwT->Bool
 | a::b::l=>NC a b&&nV (b::l)
 | _=>true
theorem TI{l:List OwT}(hl:∀ w∈l,w.h.length=32)(hn:l.length<=1000000){L:Nat}(hL:40<=L)(kr:Bool->Option Y)(kx:Option Y):∀ (n i:Nat),1<=i->l.length-i<n ->
  nI bV L kr kx n (l.map cH) (i:Int)=ifb (nV (l.drop (i-1))) kx (kr false)
 | 0,i,h0,hi=>by omega
 | n+1,i,h0,hi=>by
  by_cases hil:i<l.length
  ·have hj:i-1<l.length:=by omega
   have ha:=hl _ (WaV hj);have hb:=hl _ (WaV hil);have e1:Wbf .i64 ((i:Int)-1)=((i-1:Nat):Int):=by rw [lp (by omega) (by omega)]; omega
   rw [nI,so,WcP,cY (by omega),e1,cM,fj (eH hj),fj (eH hil),jd ha,jd hb,bQ ⟨eG ha,by omega⟩,Gg ha,cM,bQ ⟨eG hb,by omega⟩,Gg hb,cM,bQ (by rw [eG ha]; omega),bQ (by rw [eG hb]; omega),jd ha,jd hb,rL,rL,XY hL ha hb,
    bQ (by rw [eG ha]; omega),bQ (by rw [eG hb]; omega),pI ha,pI hb,Ha ha hb,dg (f8 ha 4),dg (f8 ha 4),dg (f8 hb 2),cM,up (by omega),TI hl hn hL kr kx n (i+1) (by omega) (by omega)]
   rw [Nat.add_sub_cancel,WaM hj,show i-1+1=i by omega,WaM hil,nV,NC];cases Li l[i-1] l[i] with
   | false=>rfl
   | true=>
    cases xa l[i-1] l[i] with
    | false=>rfl
    | true=>
     by_cases h1:l[i-1].sp=0
     ·rw [WcQ,eI,ii,eW h1,beq_iff_eq.2 h1]; rfl
     by_cases h2:l[i-1].sp>l[i].ht
     ·rw [WcQ,eI,ii,dT h1,cY h2,decide_eq_true h2]; simp only [WcQ,Bool.and_false,Bool.or_false,Bool.false_and]; rfl
     ·rw [WcQ,eI,ii,dT h1,di h2,decide_eq_false h2,beq_eq_false_iff_ne.2 h1]; rfl
  ·rw [nI,so,WcP,di (by omega)];have:nV (l.drop (i-1))=true:=by
    match h:l.drop (i-1) with
    | []=>rfl
    | [_]=>rfl
    | _::_::_=>have:=congrArg WcK h; simp at this; omega
   rw [this,ii]
theorem zg0{l:List OwT}(hl:∀ w∈l,w.h.length=32)(hn:l.length<=1000000)(hL:2000000<=L)(k:Bool->Option Y):cE Y L (l.map cH) k=k (nV l):=by
 simp only [cE,y4,Fu];refine (TI hl hn (by omega) _ _ L 1 (by omega) (by omega)).trans ?_;rw [show (1:Nat)-1=0 from rfl,WcR];cases nV l <;> rfl
end
section
variable {w:OwT}{s:ScT}
variable {Y:Type}
theorem zdS{γ:Type}(c:Bool)(k:γ->Option Y)(a b:γ):ifb c (k a) (k b)=k (cond c a b):=by cases c <;> rfl
theorem zlI(a b:Bool)(x y:Option Y):ifb a x (ifb b x y)=ifb (a||b) x y:=by cases a <;> cases b <;> rfl
theorem W7(L:Nat)(a b c:Int)(k:Bool->Option Y):cm Y L a b c k=k (cond (decide (a>=b)) (decide (a<=c)) false):=by
 simp only [cm,Mx,zdS]
theorem zmL(L:Nat)(a b c:Int)(k:Bool->Option Y):jg Y L a b c k=k (cond (decide (a>=b)) (decide (a<=c)) false):=by
 simp only [jg,LC,zdS]
theorem zbY{a b c:Int}(h:(cond (decide (a>=b)) (decide (a<=c)) false)=true):b<=a/\a<=c:=by
 by_cases h1:a>=b
 ·rw [decide_eq_true h1] at h; exact ⟨h1,of_decide_eq_true h⟩
 ·rw [decide_eq_false h1] at h; cases h
theorem vK(h:w.h.length=32)(j:Nat)(hj:j<4):(WcL 37 (cH w))[33+j]?=(Gj w)[j]?:=by
 rw [List.getElem?_take_of_lt (by omega),f8 h]
theorem PG(h:w.h.length=32):(WcL 37 (cH w)).length=37:=by rw [List.length_take,eG h]; rfl
def lf(w:OwT)(x:Int):Bool:=cond (decide (w.val>=0)) (cond (decide (w.val<=2100000000000000)) (cond (decide (((w.an.length:Nat):Int)<=520)) (cond (cond (decide (w.ht>=1)) (decide (w.ht<=x)) false) (cond (w.sp==0) true (cond (decide (w.sp>=w.ht)) (decide (w.sp<=x)) false)) false) false) false) false
theorem zgo(hw:w.h.length=32)(x:Int)(L:Nat)(k:Bool->Option Y):cC Y L (cH w) x k=k (lf w x):=by
 simp only [cC,DE,zmL,lf];rw [bQ (by rw [eG hw]; omega),bQ ⟨PG hw,by omega⟩,mc (by rw [PG hw]; rfl),cM,dg (vK hw 0 (by omega)),dg (vK hw 0 (by omega)),jZ (vK hw 1 (by omega)),dg (vK hw 2 (by omega)),dg (f8 hw 4),dg (f8 hw 4),dg (vK hw 2 (by omega)),kL];simp only [zdS]
structure ScW (s:ScT):Prop where
 tk:∀ t∈s.tk,ed t.an
 tl:s.tk.length<=100000
 ow:∀ w∈s.ow,OwOk w
 ol:s.ow.length<=90000
theorem ScOk.weak(h:ScOk s):ScW s:=⟨λt ht=>(h.tk t ht).s,by have:=h.tl; omega,h.ow,by have:=h.ol; omega⟩
theorem YO{α:Type}(p:α->Bool)(l:List α):(gF p l 0=-1/\l.find? p=none)∨∃ (j:Nat),∃ h:j<l.length,gF p l 0=(j:Int)/\l.find? p=some l[j]:=by
 rcases qW p l 0 with ⟨e,h⟩ | ⟨i,hi,e,h1,h2⟩
 ·exact .inl ⟨e,List.find?_eq_none.2 λx hx=>by simp [h x hx]⟩
 ·refine .inr ⟨i,hi,by simpa using e,List.find?_eq_some_iff_getElem.2 ⟨h2,i,hi,rfl,λj hj=>?_⟩⟩;have:l[j]∈l.take i:=List.mem_take_iff_getElem.2 ⟨j,by omega,rfl⟩;simp [h1 _ this]
def J5(s:ScT)(w:OwT):Bool:=match s.tk.find? (λt=>decide (t.an=w.an)) with
 | none=>false
 | some t=>!decide (w.ht<t.b)&&lf w t.r
theorem zcX{s:ScT}(hs:ScW s){L:Nat}(hL:2000000<=L)(kr:Bool->Option Y)(kx:Option Y):∀ (n i:Nat),s.ow.length-i<n ->
  kM cE cm cA cC L kr kx n (i:Int) (eU s)=ifb ((s.ow.drop i).all (J5 s)) kx (kr false)
 | 0,i,hi=>by omega
 | n+1,i,hi=>by
  by_cases hil:i<s.ow.length
  ·have hol:=hs.ol;have hw:=hs.ow _ (WaV hil);have hsc:(WcN 1 (WcN 33 (cH s.ow[i])))[0]?=some (V.sl 1 (eQ .u8 s.ow[i].an)):=by rw [Yx hw.hl]; rfl
   have h35:(WcN 35 (cH s.ow[i]))[0]?=some (QQe s.ow[i].ht):=by rw [List.getElem?_drop]; exact f8 hw.hl 2
   rw [Tl hil];have htl:=hs.tl;rcases YO (λt:TkT=>decide (t.an=s.ow[i].an)) s.tk with ⟨e,e2⟩ | ⟨j,hj,e,e2⟩
   ·have:J5 s s.ow[i]=false:=by simp only [J5,e2]
    rw [kM,n7,s_1,WcP,cY (by omega),s_c,s_1,fj (eH hil),uD hsc,s_d,PH hL hs.tk (by omega) hw.s,e,cY (by omega),this]; rfl
   ·have:J5 s s.ow[i]=(!decide (s.ow[i].ht<s.tk[j].b)&&lf s.ow[i] s.tk[j].r):=by simp only [J5,e2]
    rw [kM,n7,s_1,WcP,cY (by omega),s_c,s_1,fj (eH hil),uD hsc,s_d,PH hL hs.tk (by omega) hw.s,e,di (by omega),s_1,fj (eH hil),dg h35,s_0,fj (eH hj),dg (n:=s.tk[j].b) rfl,s_1,fj (eH hil),s_0,fj (eH hj),k_r,jd hw.hl,rL,zgo hw.hl,cM,up (by omega),zcX hs hL kr kx n (i+1) (by omega),this];cases decide (s.ow[i].ht<s.tk[j].b) <;> cases lf s.ow[i] s.tk[j].r <;> rfl
  ·rw [kM,n7,s_1,WcP,di (by omega),WaD (by omega)]; rfl
def zag(s:ScT)(t:TkT)(i:Nat):Bool:=(((t.an.length:Nat):Int)==0)||(decide (((t.an.length:Nat):Int)>520)||((!cond (decide (t.b>=1)) (decide (t.b<=16777216)) false)||((!cond (decide (t.r>=Wbf .i64 (t.b-1))) (decide (t.r<=16777216)) false)||(gF (λu:TkT=>decide (u.an=t.an)) s.tk 0 != (i:Int)))))
def vV(s:ScT):List TkT->Nat->Bool
 | [],_=>true
 | t::l,i=>!zag s t i&&vV s l (i+1)
theorem zc7{s:ScT}(hs:ScW s){L:Nat}(hL:2000000<=L)(kr:Bool->Option Y)(kx:List V->Option Y):∀ (n i:Nat),s.tk.length-i<n ->
  mV cE cm cA cC L kr kx n (i:Int) (eU s)=ifb (vV s (s.tk.drop i) i) (kx (eU s)) (kr false)
 | 0,i,hi=>by omega
 | n+1,i,hi=>by
  by_cases hil:i<s.tk.length
  ·have htl:=hs.tl;have ht:=hs.tk _ (WaV hil);have hb1:(f6 s.tk[i])[1]?=some (QQe s.tk[i].b):=rfl;rw [mV,rj,s_0,WcP,cY (by omega),s_0,fj (eH hil),k_c,zdt,cM,Tb,Tb,dg hb1,W7,RS,dg hb1,cM,W7,s_c,Tb,s_d,PH hL hs.tk (by omega) ht,cM,up (by omega),kL,WaM hil,zc7 hs hL kr kx n (i+1) (by omega)];simp only [zlI];rw [vV,zag];generalize ((((s.tk[i].an.length:Nat):Int)==0)||(decide (((s.tk[i].an.length:Nat):Int)>520)||((!cond (decide (s.tk[i].b>=1)) (decide (s.tk[i].b<=16777216)) false)||((!cond (decide (s.tk[i].r>=Wbf .i64 (s.tk[i].b-1))) (decide (s.tk[i].r<=16777216)) false)||(gF (λu:TkT=>decide (u.an=s.tk[i].an)) s.tk 0 != (i:Int))))))=c;cases c <;> rfl
  ·rw [mV,rj,s_0,WcP,di (by omega),WaD (by omega)]; rfl
def vJ(s:ScT):Bool:=!decide (((s.tk.length:Nat):Int)>1000)&&(!decide (((s.ow.length:Nat):Int)>4096)&&(nV s.ow&&(vV s s.tk 0&&s.ow.all (J5 s))))
theorem zaV(hs:ScW s){L:Nat}(hL:2000000<=L)(k:Bool->Option Y):cW Y L (eU s) k=k (vJ s):=by
 have htl:=hs.tl;have hol:=hs.ol;simp only [cW,zf,Fk,vJ];rw [s_0,WcP,s_1,WcP,s_1,zg0 (λw hw=>(hs.ow w hw).hl) (by omega) hL];cases decide (((s.tk.length:Nat):Int)>1000);rotate_left
 ·rfl
 cases decide (((s.ow.length:Nat):Int)>4096);rotate_left
 ·rfl
 cases nV s.ow
 ·rfl
 simp only [WcQ,Bool.not_false,eI,WcV];refine (zc7 hs hL _ _ L 0 (by omega)).trans ?_;rw [WcR];cases vV s s.tk 0
 ·rfl
 rw [ii,WcV];refine (zcX hs hL _ _ L 0 (by omega)).trans ?_;rw [WcR];cases s.ow.all (J5 s) <;> rfl
theorem RB(hs:ScOk s):∃ b:Bool,∀ (L:Nat),2000000<=L->∀ (Y:Type) (k:Bool->Option Y),cW Y L (eU s) k=k b:=⟨_,λL hL Y k=>zaV hs.weak hL k⟩
end
section
variable {s:ScT}{l:List OwT}{i:Nat}{x:Int}{w:OwT}
variable {Y:Type}
theorem uq:ScOk ⟨[],[]⟩:=⟨by simp,by simp,by simp,by simp⟩
theorem D6(s:ScT)(k:Ls->Option Y):cL 3 (eU s) 0 k=k (s.tk.map f6):=uD rfl k
theorem DP(s:ScT)(k:Ls->Option Y):cL 38 (eU s) 1 k=k (s.ow.map cH):=uD rfl k
theorem Ai(L:Nat)(h1:s.tk.length<=1000000)(h2:s.ow.length<=1000000)(k:Nat->Nat->List V->List V->Option Y):bT Y L (eU s) k=k s.tk.length s.ow.length (s.tk.map f6).flatten (s.ow.map cH).flatten:=by
 simp only [bT,DF,D6,DP,WcP];rw [bQ (show (eU s).length=2 from rfl),bQ (by simp only [cN]; omega),bQ (by simp only [cN]; omega)]
theorem DH(l:List TkT):bY 3 l.length (l.map f6).flatten=l.map f6:=by
 have:=DQ (tA l)
 rwa [WcP] at this
theorem Ap(h:∀ w∈l,w.h.length=32):bY 38 l.length (l.map cH).flatten=l.map cH:=by
 have:=DQ (o9 h)
 rwa [WcP] at this
theorem zld(hs:ScOk s){b:List Int}(hb:ed b)(hl:b.length<=1000)(x:Int):∃ (s':ScT) (e:Int),ScOk s'/\∀ (L:Nat),2000000<=L->∀ (Y:Type) (k:List V->Int->Option Y),dR Y L (eU s) (eQ .u8 b) x k=k (eU s') e:=by
 obtain ⟨v,hv⟩:=RB hs;have htl:=hs.tl;have hol:=hs.ol;have z:([(V.sl 3 ([]:Ls)),(V.sl 38 ([]:Ls))]:List V)=eU ⟨[],[]⟩:=rfl;have e:∀ (L:Nat),2000000<=L->∀ (Y:Type) (k:List V->Int->Option Y),dR Y L (eU s) (eQ .u8 b) x k =
   ifb (!v) (k (eU ⟨[],[]⟩) 6) (ifb (decide (((s.tk.length:Nat):Int)>=1000)) (k (eU ⟨[],[]⟩) 4) (ifb (decide (((b.length:Nat):Int)>520)) (k (eU ⟨[],[]⟩) 4) (ifb (((b.length:Nat):Int)==0) (k (eU ⟨[],[]⟩) 93) (ifb (!cond (decide (x>=1)) (decide (x<=16777216)) false) (k (eU ⟨[],[]⟩) 5) (ifb (decide (gF (λt:TkT=>decide (t.an=b)) s.tk 0>=0)) (k (eU ⟨[],[]⟩) 150) (k (eU ⟨s.tk++[⟨b,x,Wbf .i64 (x-1)⟩],s.ow⟩) 0)))))):=by
  intro L hL Y k;simp only [dR,JW,s_c,s_d,z];rw [hv L hL,s_0,WcP,kL,W7,zlu hL hs hb,Ai L (by omega) (by omega),WcS,cM,cM];have h1:bY 3 1 [(V.sl 1 (eQ .u8 b)),(QQe x),(QQe (Wbf .i64 (x-1)))]=[f6 ⟨b,x,Wbf .i64 (x-1)⟩]:=rfl;rw [h1,bQ (by simp [kL,cN]; omega),bQ (by simp [cN]; omega),cM];have h2:WcL (s.tk.length*3) (s.tk.map f6).flatten=(s.tk.map f6).flatten:=WbR (by rw [LV (tA _),WcP]; omega);rw [h2,show (s.tk.map f6).flatten++[f6 ⟨b,x,Wbf .i64 (x-1)⟩].flatten=((s.tk++[(⟨b,x,Wbf .i64 (x-1)⟩:TkT)]).map f6).flatten by simp,
   show s.tk.length+WcK [f6 ⟨b,x,Wbf .i64 (x-1)⟩]=(s.tk++[(⟨b,x,Wbf .i64 (x-1)⟩:TkT)]).length by simp,DH,Ap λw hw=>(hs.ow w hw).hl]
  rfl
 cases v with
 | false=>exact ⟨⟨[],[]⟩,6,uq,λL hL Y k=>by rw [e L hL]; rfl⟩
 | true=>
 by_cases c1:((s.tk.length:Nat):Int)>=1000
 ·exact ⟨⟨[],[]⟩,4,uq,λL hL Y k=>by rw [e L hL,WcQ,eI,cY c1]⟩
 by_cases c2:((b.length:Nat):Int)>520
 ·exact ⟨⟨[],[]⟩,4,uq,λL hL Y k=>by rw [e L hL,WcQ,eI,di c1,cY c2]⟩
 by_cases c3:((b.length:Nat):Int)=0
 ·exact ⟨⟨[],[]⟩,93,uq,λL hL Y k=>by rw [e L hL,WcQ,eI,di c1,di c2,eW c3]⟩
 cases c4:cond (decide (x>=1)) (decide (x<=16777216)) false with
 | false=>exact ⟨⟨[],[]⟩,5,uq,λL hL Y k=>by rw [e L hL,WcQ,eI,di c1,di c2,dT c3,c4]; rfl⟩
 | true=>
 by_cases c5:gF (λt:TkT=>decide (t.an=b)) s.tk 0>=0
 ·exact ⟨⟨[],[]⟩,150,uq,λL hL Y k=>by rw [e L hL,WcQ,eI,di c1,di c2,dT c3,c4,WcQ,eI,cY c5]⟩
 ·refine ⟨⟨s.tk++[⟨b,x,Wbf .i64 (x-1)⟩],s.ow⟩,0,⟨λt ht=>?_,by simp; omega,hs.ow,hol⟩,λL hL Y k=>by rw [e L hL,WcQ,eI,di c1,di c2,dT c3,c4,WcQ,eI,di c5]⟩;rcases List.mem_append.1 ht with h | h
  ·exact hs.tk t h
  ·obtain rfl:=WcG.1 h;have hx:=zbY c4;refine ⟨hb,hl,by omega,?_⟩;show 0<=Wbf .i64 (x-1)/\Wbf .i64 (x-1)<=16777216;rw [lp (by omega) (by omega)]; omega
theorem zjw(hs:ScOk s)(x:Int):∃ e:Int,(e=0->x<=16777216)/\∀ (L:Nat),2000000<=L->∀ (Y:Type) (k:Int->Option Y),hS Y L (eU s) x k=k e:=by
 obtain ⟨v,hv⟩:=RB hs;have htl:=hs.tl;have e:∀ (L:Nat),2000000<=L->∀ (Y:Type) (k:Int->Option Y),hS Y L (eU s) x k=ifb (!v) (k 6) (ifb (((s.tk.length:Nat):Int)==0) (k 300) (ifb (x != Wbf .i64 (nX s.tk+1)) (k 300) (ifb (decide (x>16777216)) (k 300) (k 0)))):=by
  intro L hL Y k;simp only [hS,Hy,s_c,s_d];rw [hv L hL,s_0,WcP,Gn hL (by omega),cM]
 cases v with
 | false=>exact ⟨6,by omega,λL hL Y k=>by rw [e L hL]; rfl⟩
 | true=>
 by_cases c1:((s.tk.length:Nat):Int)=0
 ·exact ⟨300,by omega,λL hL Y k=>by rw [e L hL,WcQ,eI,eW c1]⟩
 by_cases c2:x=Wbf .i64 (nX s.tk+1);rotate_left
 ·exact ⟨300,by omega,λL hL Y k=>by rw [e L hL,WcQ,eI,dT c1,ip,if_neg c2]⟩
 by_cases c3:x>16777216
 ·exact ⟨300,by omega,λL hL Y k=>by rw [e L hL,WcQ,eI,dT c1,ip,if_pos c2,cY c3]⟩
 ·exact ⟨0,by omega,λL hL Y k=>by rw [e L hL,WcQ,eI,dT c1,ip,if_pos c2,di c3]⟩
theorem zeo{l:List TkT}(h:i<l.length):(l.map f6).flatten[0+((WcM (i:Int))*3)+2]?=some (QQe l[i].r):=by
 rw [show 0+((WcM (i:Int))*3)+2=i*3+2 by simp,SB (by omega) (tA l) (by omega) (eH h)]; rfl
theorem zdy{l:List TkT}(h:i<l.length):(l.map f6).flatten[0+((WcM (i:Int))*3)+1]?=some (QQe l[i].b):=by
 rw [show 0+((WcM (i:Int))*3)+1=i*3+1 by simp,SB (by omega) (tA l) (by omega) (eH h)]; rfl
theorem Vq{l:List TkT}(h:i<l.length)(x:Int):cq (l.map f6).flatten (0+((WcM (i:Int))*3)+2) [V.sc (.int .i64 x)]=((l.set i { l[i] with r:=x }).map f6).flatten:=by
 rw [show 0+((WcM (i:Int))*3)+2=i*3+2 by simp,Dr (by omega) (tA l) (by omega) (eH h),List.map_set]; rfl
theorem KQ(l:List TkT):(l.map f6).flatten.length=l.length*3:=by rw [LV (tA l),WcP]
theorem zct{l:List TkT}(hl:∀ t∈l,TkOk t)(h:i<l.length)(hx:0<=x/\x<=16777216):∀ t∈l.set i { l[i] with r:=x },TkOk t:=by
 intro t ht;rcases WcT ht with h1 | rfl
 ·exact hl t h1
 ·have:=hl _ (WaV h);exact ⟨this.s,this.l,this.b,hx⟩
theorem Sz{x:Int}(hx:0<=x/\x<=16777216):∀ (m i:Nat) (l:List TkT),(∀ t∈l,TkOk t)->l.length<=1000000->l.length-i=m->∃ l':List TkT,(∀ t∈l',TkOk t)/\l'.length=l.length/\∀ (L n:Nat),m<n->∀ (Y:Type) (kx:xY Y) (a b:Ls) (q:Nat) (c:List V),
  ki bT L kx n x (i:Int) a b l.length q (l.map f6).flatten c=kx a b l'.length q (l'.map f6).flatten c
 | 0,i,l,hl,hn,hi=>⟨l,hl,rfl,λL n hn Y kx a b q c=>by
  obtain ⟨n,rfl⟩:∃ k,n=k+1:=⟨n-1,by omega⟩;rw [ki,nf,di (by omega)]⟩
 | m+1,i,l,hl,hn,hi=>by
  have h:i<l.length:=by omega
  have h2:(0:Int)<=(i:Int)/\(i:Int)<((l.length:Nat):Int):=by omega
  by_cases hr:l[i].r=Wbf .i64 (x-1)
  ·obtain ⟨l',g1,g2,g3⟩:=Sz hx m (i+1) (l.set i { l[i] with r:=x }) (zct hl h hx) (by simpa using hn) (by simp; omega);refine ⟨l',g1,by simpa using g2,λL n hn Y kx a b q c=>?_⟩;obtain ⟨n,rfl⟩:∃ k,n=k+1:=⟨n-1,by omega⟩;have:=g3 L n (by omega) Y kx a b q c;rw [List.length_set] at this;rw [ki,nf,cY h2.2,bQ h2,dg (zeo h),cM,eW hr,bQ h2,bQ ⟨rfl,by rw [KQ]; simp; omega⟩,Vq h,cM,cM,up (by omega),this]
  ·obtain ⟨l',g1,g2,g3⟩:=Sz hx m (i+1) l hl hn (by omega);refine ⟨l',g1,g2,λL n hn Y kx a b q c=>?_⟩;obtain ⟨n,rfl⟩:∃ k,n=k+1:=⟨n-1,by omega⟩;rw [ki,nf,cY h2.2,bQ h2,dg (zeo h),cM,dT hr,cM,up (by omega),g3 L n (by omega)]
theorem zk5(hs:ScOk s)(hx:0<=x/\x<=16777216):∃ tk:List TkT,(∀ t∈tk,TkOk t)/\tk.length=s.tk.length/\∀ (L:Nat),2000000<=L->∀ (Y:Type) (k:List V->Option Y),gq Y L (eU s) x k=k (eU ⟨tk,s.ow⟩):=by
 have htl:=hs.tl;have hol:=hs.ol;obtain ⟨tk,g1,g2,g3⟩:=Sz hx _ 0 s.tk hs.tk (by omega) rfl;refine ⟨tk,g1,g2,λL hL Y k=>?_⟩;simp only [gq,vp,A9,s_c,s_d];rw [Ai L (by omega) (by omega)];refine (g3 L L (by omega) Y _ _ _ _ _).trans ?_;rw [rT,DH,Ap λw hw=>(hs.ow w hw).hl];rfl
theorem zhg(h:w.h.length=32)(x:Int):cq (cH w) 37 [V.sc (.int .i64 x)]=cH { w with sp:=x }:=by
 rw [Pc (by rw [eG h]; omega)];unfold cH;rw [List.set_append_right _ _ (by rw [im h]; omega),im h];rfl
theorem PS(h:w.h.length=32):bY 38 1 (cH w)=[cH w]:=by
 simp only [bY,jd h]
theorem IP{l:List OwT}(hl:∀ w∈l,OwOk w)(hn:l.length<=100000)(x:Int):∀ (m i:Nat) (acc:List OwT),(∀ w∈acc,OwOk w)->acc.length<=i->l.length-i=m->i<=l.length->∃ l':List OwT,(∀ w∈l',OwOk w)/\l'.length<=l.length/\∀ (L n:Nat),m<n->∀ (Y:Type) (kx:Ls->Option Y),
  iN L kx n (l.map cH) x (acc.map cH) (i:Int)=kx (l'.map cH)
 | 0,i,acc,ha,hal,hi,hil=>⟨acc,ha,by omega,λL n hn Y kx=>by
  obtain ⟨n,rfl⟩:∃ k,n=k+1:=⟨n-1,by omega⟩;rw [iN,kG,WcP,di (by omega)]⟩
 | m+1,i,acc,ha,hal,hi,hil=>by
  have h:i<l.length:=by omega
  have hw:=hl _ (WaV h);have app:∀ w:OwT,OwOk w->∀ v∈acc++[w],OwOk v:=λw hw v hv=>(List.mem_append.1 hv).elim (ha v) λh=>(WcG.1 h) ▸ hw;by_cases c1:l[i].ht>x
  ·obtain ⟨l',g1,g2,g3⟩:=IP hl hn x m (i+1) acc ha (by omega) (by omega) (by omega);refine ⟨l',g1,g2,λL n hn Y kx=>?_⟩;obtain ⟨n,rfl⟩:∃ k,n=k+1:=⟨n-1,by omega⟩;rw [iN,kG,WcP,cY (by omega),fj (eH h),jd hw.hl,bQ ⟨eG hw.hl,by omega⟩,Gg hw.hl,cM,dg (f8 hw.hl 2),cY c1,cM,up (by omega),g3 L n (by omega)]
  by_cases c2:l[i].sp>x
  ·have hw2:OwOk { l[i] with sp:=0 }:=⟨hw.hl,hw.hb,hw.ix,hw.s,hw.l⟩;obtain ⟨l',g1,g2,g3⟩:=IP hl hn x m (i+1) (acc++[{ l[i] with sp:=0 }]) (app _ hw2) (by simp; omega) (by omega) (by omega);refine ⟨l',g1,g2,λL n hn Y kx=>?_⟩;obtain ⟨n,rfl⟩:∃ k,n=k+1:=⟨n-1,by omega⟩;have:=g3 L n (by omega) Y kx;rw [WcU] at this;rw [iN,kG,WcP,cY (by omega),fj (eH h),jd hw.hl,bQ ⟨eG hw.hl,by omega⟩,Gg hw.hl,cM,dg (f8 hw.hl 2),di c1,dg (f8 hw.hl 4),cY c2,bQ ⟨rfl,by rw [eG hw.hl]; omega⟩,zhg hw.hl,cM,bQ (by rw [eG hw2.hl]; omega),jd hw2.hl,bQ ⟨eG hw2.hl,by omega⟩,KY hw2.hl,PS hw2.hl,bQ (by simp [cN]; omega),cM,cM,up (by omega)];exact this
  ·obtain ⟨l',g1,g2,g3⟩:=IP hl hn x m (i+1) (acc++[l[i]]) (app _ hw) (by simp; omega) (by omega) (by omega);refine ⟨l',g1,g2,λL n hn Y kx=>?_⟩;obtain ⟨n,rfl⟩:∃ k,n=k+1:=⟨n-1,by omega⟩;have:=g3 L n (by omega) Y kx;rw [WcU] at this;rw [iN,kG,WcP,cY (by omega),fj (eH h),jd hw.hl,bQ ⟨eG hw.hl,by omega⟩,Gg hw.hl,cM,dg (f8 hw.hl 2),di c1,dg (f8 hw.hl 4),di c2,bQ (by rw [eG hw.hl]; omega),jd hw.hl,bQ ⟨eG hw.hl,by omega⟩,KY hw.hl,PS hw.hl,bQ (by simp [cN]; omega),cM,cM,up (by omega)];exact this
theorem zjP(hl:∀ w∈l,OwOk w)(hn:l.length<=100000)(x:Int):∃ l':List OwT,(∀ w∈l',OwOk w)/\l'.length<=l.length/\∀ (L:Nat),2000000<=L->∀ (Y:Type) (k:Ls->Option Y),dL Y L (l.map cH) x k=k (l'.map cH):=by
 obtain ⟨l',g1,g2,g3⟩:=IP hl hn x _ 0 [] (by simp) (by simp) rfl (by omega);refine ⟨l',g1,g2,λL hL Y k=>?_⟩;simp only [dL,wD,BW];exact (g3 L L (by omega) Y _).trans rfl
theorem ZW{x:Int}(hx:0<=x/\x<=16777216):∀ (m i:Nat) (l:List TkT),(∀ t∈l,TkOk t)->l.length<=1000000->l.length-i=m->∃ l':List TkT,(∀ t∈l',TkOk t)/\l'.length=l.length/\∀ (L n:Nat),m<n->∀ (Y:Type) (kx:tU Y) (d:List V) (a b:Ls) (q:Nat) (c:List V),
  iB cW cm bT dL L kx n x (i:Int) d a b l.length q (l.map f6).flatten c=kx x d a b l'.length q (l'.map f6).flatten c
 | 0,i,l,hl,hn,hi=>⟨l,hl,rfl,λL n hn Y kx d a b q c=>by
  obtain ⟨n,rfl⟩:∃ k,n=k+1:=⟨n-1,by omega⟩;rw [iB,kX,di (by omega)]⟩
 | m+1,i,l,hl,hn,hi=>by
  have h:i<l.length:=by omega
  have h2:(0:Int)<=(i:Int)/\(i:Int)<((l.length:Nat):Int):=by omega
  have ht:=hl _ (WaV h);have hb:=ht.b;have hr:=ht.r;have hv:0<=HK (Hr l[i].r x) (Wbf .i64 (l[i].b-1))/\HK (Hr l[i].r x) (Wbf .i64 (l[i].b-1))<=16777216:=by
   rw [lp (by omega) (by omega)];unfold HK Hr;split <;> split <;> omega
  obtain ⟨l',g1,g2,g3⟩:=ZW hx m (i+1) (l.set i { l[i] with r:=HK (Hr l[i].r x) (Wbf .i64 (l[i].b-1)) }) (zct hl h hv) (by simpa using hn) (by simp; omega);refine ⟨l',g1,by simpa using g2,λL n hn Y kx d a b q c=>?_⟩;obtain ⟨n,rfl⟩:∃ k,n=k+1:=⟨n-1,by omega⟩;have:=g3 L n (by omega) Y kx d a b q c;rw [List.length_set] at this;rw [iB,kX,cY h2.2,bQ h2,dg (zeo h),cM,bQ h2,dg (zdy h),cM,cM,bQ h2,bQ ⟨rfl,by rw [KQ]; simp; omega⟩,Vq h,cM,cM,up (by omega),this]
theorem zkW(hs:ScOk s)(x:Int):∃ (s':ScT) (e:Int),ScOk s'/\∀ (L:Nat),2000000<=L->∀ (Y:Type) (k:List V->Int->Option Y),bU Y L (eU s) x k=k (eU s') e:=by
 obtain ⟨v,hv⟩:=RB hs;have htl:=hs.tl;have hol:=hs.ol;have z:([(V.sl 3 ([]:Ls)),(V.sl 38 ([]:Ls))]:List V)=eU ⟨[],[]⟩:=rfl;cases v with
 | false=>
  refine ⟨⟨[],[]⟩,6,uq,λL hL Y k=>?_⟩;simp only [bU,n9,pS,s_c,s_d,z];rw [hv L hL]; rfl
 | true=>
 cases c4:cond (decide (x>=0)) (decide (x<=16777216)) false with
 | false=>
  refine ⟨⟨[],[]⟩,5,uq,λL hL Y k=>?_⟩;simp only [bU,n9,pS,s_c,s_d,z];rw [hv L hL,WcQ,eI,W7,c4]; rfl
 | true=>
  obtain ⟨tk,g1,g2,g3⟩:=ZW (zbY c4) _ 0 s.tk hs.tk (by omega) rfl;obtain ⟨ow,g4,g5,g6⟩:=zjP hs.ow (by omega) x;refine ⟨⟨tk,ow⟩,0,⟨g1,by show tk.length<=1000; omega,g4,by show ow.length<=4096; omega⟩,λL hL Y k=>?_⟩;simp only [bU,n9,pS,s_c,s_d,z];rw [hv L hL,WcQ,eI,W7,c4,WcQ,eI,Ai L (by omega) (by omega)];refine (g3 L L (by omega) Y _ _ _ _ _ _).trans ?_;rw [nS,s_1,g6 L hL,DH];rfl
def spd(w:OwT)(x:Int):OwT:={ w with sp:=x }
theorem zff(hl:∀ w∈l,w.h.length=32)(h:i<l.length){j:Nat}(hj:j<5):(l.map cH).flatten[i*38+(33+j)]?=(Gj l[i])[j]?:=by
 rw [SB (by omega) (o9 hl) (by omega) (eH h),f8 (hl _ (WaV h))]
theorem zgz(hl:∀ w∈l,w.h.length=32)(h:i<l.length)(x:Int):cq (l.map cH).flatten ((0+(WcM (i:Int))*38)+37) [V.sc (.int .i64 x)]=((l.set i (spd l[i] x)).map cH).flatten:=by
 have hw:=hl _ (WaV h);have e:=zhg hw x;rw [Pc (by rw [eG hw]; omega)] at e;rw [show ((0+(WcM (i:Int))*38)+37)=i*38+37 by simp,Dr (by omega) (o9 hl) (by omega) (eH h),e,List.map_set]; rfl
theorem s8(hl:∀ w∈l,w.h.length=32):(l.map cH).flatten.length=l.length*38:=by rw [LV (o9 hl),WcP]
theorem zbd(hl:∀ w∈l,OwOk w)(h:i<l.length)(x:Int):∀ w∈l.set i (spd l[i] x),OwOk w:=by
 intro t ht;rcases WcT ht with h1 | rfl
 ·exact hl t h1
 ·have hw:=hl _ (WaV h);exact ⟨hw.hl,hw.hb,hw.ix,hw.s,hw.l⟩
theorem zkX(L:Nat)(v n:Int)(hn:1<=n)(hn2:n<=1000000000000):∃ r,0<=r/\r<n/\∀ (Y:Type) (k:Int->Option Y),ca Y L v n k=k r:=by
 by_cases h:Int.tmod v n<0
 ·have h1:=Int.lt_tmod_of_pos v (show 0<n by omega);refine ⟨Int.tmod v n+n,by omega,by omega,λY k=>?_⟩;simp only [ca,F8,cM];rw [bQ (by omega),cY h,lp (by omega) (by omega)]
 ·have h1:=Int.tmod_lt_of_pos v (show 0<n by omega);refine ⟨Int.tmod v n,by omega,h1,λY k=>?_⟩;simp only [ca,F8,cM];rw [bQ (by omega),di h]
theorem Da(v n:Int)(hn:1<=n)(hn2:n<=1000000000000):∃ r,0<=r/\r<n/\∀ (L:Nat) (Y:Type) (k:Int->Option Y),ca Y L v n k=k r:=by
 obtain ⟨r,h1,h2,h3⟩:=zkX 0 v n hn hn2;exact ⟨r,h1,h2,λL Y k=>h3 Y k⟩
def crw(w:OwT):List V:=ic w++[V.sc (.int .i64 w.val),V.sl 1 (eQ .u8 w.an),V.sc (.int .i64 w.ht),V.sc (.bool w.cb)]
theorem zj6(h:w.h.length=32):(crw w).length=37:=by simp [crw,im h]
theorem zkn(h:w.h.length=32):WcL 37 (cH w)=crw w:=by
 unfold cH crw Gj;rw [List.take_append,im h,WbR (by rw [im h]; omega)]; rfl
theorem zjl(w:OwT):(crw w).map V.ag=crw w:=by simp only [crw,WcU,ZS]; rfl
theorem zgZ(h:w.h.length=32):WcL 33 (crw w)=ic w:=by unfold crw; rw [<- im h,List.take_left]
end
section
noncomputable section
def aU8:A:=.iv .u8 0 255
def nA:A:=.iv .u32 0 4294967295
def ZO:A:=.iv .u64 0 18446744073709551615
def rQ:A:=.iv .i64 (-9223372036854775808) 9223372036854775807
def vS:A:=.iv .i64 0 999
def ze:List A:=Wad 32 aU8
def yO:A:=.agg ze
def zd:A:=.agg (Wad 4 ZO)
def KG:A:=.am 0 1 [[.int .u8 ⟨1,[]⟩],[.int .u8 ⟨1,[]⟩],[.iv .u8 1 6],[.int .u8 ⟨5,[]⟩]]
def zmI:A:=.ai 0 1 0 1 [.am 0 1 [[.iv .u8 1 6]]]
def GD:List A:=nA::(ze++(ze++[nA,nA,nA]))
def H7:A:=.agg GD
def vI:List A:=GD++[ZO,ZO,ZO,ZO,.iv .i64 3 7,.int .u32 ⟨5,[]⟩,nA,nA,.am 0 33 [],.int .i64 ⟨1000,[]⟩,.iv .i64 4 6,.iv .i64 0 2]
def o5:A:=.agg vI
def zeJ:A:=.ai 0 1 0 11 [nA]
def IU:List A:=rQ::(ze++[nA,nA,zeJ])
def De:A:=.agg IU
def zmo:List A:=ze++[nA]
def ZM:A:=.agg zmo
def zk8:List A:=ze++[nA,nA,zmI]
def Xj:List A:=[rQ,KG]
def aTx:List A:=[nA,.ai 0 35 1 1 zk8,.ai 0 2 1 2 Xj,nA]
def zr:A:=.agg aTx
def vB:List A:=GD++[.ai 0 4 1 4 aTx]
def Dg:A:=.agg vB
def qV:List A:=ze++[nA,rQ,KG,rQ,.bool]
def zlR:A:=.agg qV
def um:Int->A:=λn=>.ai 0 37 0 n qV
def vP:List A:=rQ::(ze++[um 100000])
def sZ:A:=.agg vP
def N2:List A:=[um 3]
def UC:A:=.agg N2
def ze8:Int->Int->A:=λn m=>.agg (vI++[.ai 0 69 0 n vB,.ai 0 34 1 m vP,.ai 0 36 1 m IU,.ai 0 1 0 n N2])
def zmw:SS:=⟨[(0,3),(-9223372036854775808,9223372036854775807),(0,100003),(0,3),(0,100000)],[⟨0,[(0,1),(3,-1)]⟩,⟨-100000,[(2,1),(3,-1)]⟩],rA 2 (.ex .af) (aU8::.ptr 3 ⟨0,[]⟩::.ptr 4 ⟨0,[]⟩::rA 3 (.ex .af) (.ak 1 4 ⟨0,[(0,1)]⟩ aTx::.int .i64 ⟨0,[(1,1)]⟩::.ak 1 37 ⟨0,[(2,1)]⟩ qV::.int .u8 ⟨0,[(3,1)]⟩::rA 101 (.ex .af) [])),rA 3 .gone (.live true vI::.live true (rQ::(ze++[.ak 0 37 ⟨0,[(4,1)]⟩ qV]))::rA 108 .gone [])⟩
def zmy:SS:=⟨[(0,3),(-9223372036854775808,9223372036854775807),(0,100003),(0,3),(0,100000),(0,255),(0,100003)],[⟨0,[(2,-1),(6,1)]⟩,⟨0,[(0,1),(3,-1)]⟩,⟨-100000,[(2,1),(3,-1)]⟩,⟨-2,[(3,1)]⟩],rA 2 (.ex .af) (.int .u8 ⟨0,[(5,1)]⟩::.ptr 3 ⟨0,[]⟩::.ptr 4 ⟨0,[]⟩::rA 3 (.ex .af) (.ak 1 4 ⟨0,[(0,1)]⟩ aTx::.int .i64 ⟨0,[(1,1)]⟩::.ak 1 37 ⟨0,[(2,1)]⟩ qV::.int .u8 ⟨0,[(3,1)]⟩::.int .i64 ⟨0,[(2,1)]⟩::.int .i64 ⟨0,[(6,1)]⟩::rA 99 (.ex .af) [])),rA 3 .gone (.live true vI::.live true (rQ::(ze++[.ak 0 37 ⟨0,[(4,1)]⟩ qV]))::rA 108 .gone [])⟩
def mdL:List (Nat × MD):=[(513,[(0,none)]),(566,[(0,none)]),(565,[(0,none)]),(563,[(0,none)]),(533,[(0,none)]),(569,[(0,none),(1,none)]),(473,[(0,none)]),(521,[(0,none)]),(482,[(0,none)]),(470,[(0,some zmw),(1,some zmy)]),(480,[(0,none)]),(525,[(0,none)])]
def mdI(g:Nat):MD:=zkH g mdL
def ziK:Inst:=⟨531,[.iv .u64 0 1000000],.ai 1 1 9 72 [aU8]⟩
def Vt:Inst:=⟨569,[.agg (Wad 64 aU8)],.agg (Wad 64 nA)⟩
def UU:Inst:=⟨533,[.agg (Wad 8 nA),.agg (Wad 64 aU8)],.agg (Wad 8 nA)⟩
def Zr:Inst:=⟨494,[.ai 0 1 0 1000 [aU8]],yO⟩
def LL:Inst:=⟨454,[.ai 0 1 0 1000 [aU8]],yO⟩
def UW:Inst:=⟨429,[H7],yO⟩
def zdJ:Inst:=⟨563,[zd,zd,zd],.ae [zd,zd,.bool]⟩
def Pq:Inst:=⟨565,[.agg (Wad 4 (.int .u64 ⟨0,[]⟩))],.int .i64 ⟨0,[]⟩⟩
def Zm:Inst:=⟨565,[zd],.iv .i64 0 256⟩
def U0:Inst:=⟨513,[zd,.iv .i64 0 255],zd⟩
def zdc:Inst:=⟨566,[zd,.iv .i64 0 255],zd⟩
def Ml:Inst:=⟨527,[nA],.ae [zd,vS]⟩
def Yq:Inst:=⟨564,[zd],nA⟩
def Xz:Inst:=⟨485,[yO,nA],.bool⟩
def Dx:Inst:=⟨515,[o5],.bool⟩
def Sr:Inst:=⟨486,[zeJ],nA⟩
def ZF:Inst:=⟨526,[o5,nA,nA,nA],.ae [nA,vS]⟩
def zaZ:Inst:=⟨484,[o5,De],.ae [nA,vS]⟩
def zeS:Inst:=⟨473,[o5,De,yO,nA],H7⟩
def N8:Inst:=⟨446,[o5,De,H7],.ae [De,vS]⟩
def Yg:Inst:=⟨445,[o5,De,H7,nA],vS⟩
def KJ:Inst:=⟨149,[zr,.ex (.sc (.bool true))],.ai 1 1 0 500 [aU8]⟩
def OP:Inst:=⟨149,[zr,.ex (.sc (.bool false))],.ai 1 1 0 500 [aU8]⟩
def HV:Inst:=⟨148,[zr],.bool⟩
def Oe:Inst:=⟨132,[zr],vS⟩
def Uv:Inst:=⟨488,[Dg],.ai 1 1 0 5000 [aU8]⟩
def zcN:Inst:=⟨558,[Dg],.bool⟩
def zdv:Inst:=⟨517,[zr],yO⟩
def zfr:Inst:=⟨519,[zr],yO⟩
def zbj:Inst:=⟨520,[.ai 0 32 0 4 ze],yO⟩
def zbp:Inst:=⟨474,[.ai 0 4 1 4 aTx],yO⟩
def zcl:Inst:=⟨522,[Dg],vS⟩
def zfB:Inst:=⟨478,[zr,.ai 0 37 0 1 qV,rQ],.ae [rQ,vS]⟩
def Ax:Inst:=⟨136,[ZM,ZM],.iv .i64 (-1) 1⟩
def zcA:Inst:=⟨521,[sZ],.bool⟩
def X1:Inst:=⟨472,[o5,rQ],rQ⟩
def zjm:Inst:=⟨476,[o5,sZ,Dg],vS⟩
def Et:Inst:=⟨483,[zr,rQ],.ai 1 37 1 2 qV⟩
def Nt:Inst:=⟨480,[um 100008,ZM],.iv .i64 (-1) 100008⟩
def ziU:Inst:=⟨482,[um 100008],rQ⟩
def Wl:Inst:=⟨481,[um 100000,zr,rQ],.ae [.ai 1 37 0 100002 qV,vS]⟩
def zaM:Inst:=⟨481,[um 100002,zr,rQ],.ae [.ai 1 37 0 100004 qV,vS]⟩
def zfA:Inst:=⟨481,[um 100004,zr,rQ],.ae [.ai 1 37 0 100006 qV,vS]⟩
def zks:Inst:=⟨481,[um 100006,zr,rQ],.ae [.ai 1 37 0 100008 qV,vS]⟩
def zcn:Inst:=⟨516,[zlR,aU8],.ae [zr,rQ]⟩
def Ko:Inst:=⟨470,[o5,sZ,aU8],.ae [.ai 1 4 0 3 aTx,rQ]⟩
def zcF:Inst:=⟨443,[o5,sZ,De,aU8],Dg⟩
def X8:Inst:=⟨444,[o5,sZ,Dg],.ae [sZ,UC,vS]⟩
def zcd:Inst:=⟨442,[aU8],ze8 0 1⟩
def zj2:Inst:=⟨422,[aU8,.ai 0 1 0 6 [aU8]],ze8 6 7⟩
end
end
end Go.Proofs.YtipklgbboecciaaGreat
