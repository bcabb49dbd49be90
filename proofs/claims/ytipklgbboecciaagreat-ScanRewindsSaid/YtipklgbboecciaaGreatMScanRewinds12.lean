/- Part 12 of the proof of ScanRewinds: an abstract machine over plain values, its soundness, and the functions of the program on plain values. -/
import Derived.Test.YtipklgbboecciaaGreatMScanRewinds11
namespace Go.Proofs.YtipklgbboecciaaGreat
set_option maxRecDepth 100000
set_option linter.unusedVariables false
set_option linter.unusedSimpArgs false
open List renaming length->WcK,take->WcL,replicate->Wad,map->WbO,drop->WcN,flatten->WcO
open IntKind renaming wrap->Wbf
open Int renaming toNat->WcM
section
noncomputable section
variable {Y:Type}
def cf_ref03_Pad:CF:=cfD Le 151
def wH:CC:=eT [1,1,1,0,1,0,0] cf_ref03_Pad.body
def zI:CC:=eT [1,1,0,0,0] cf_ref03_Pad.body
def IX:CC:=eT [1,1,1,1] cf_ref03_Pad.body
def Dz:CC:=eT [1,1,1] cf_ref03_Pad.body
def i9:Nat->Sh:=f9 []
def jc(L:Nat):CBC:=noC
def BM:St->St:=f4 0 (bl 9 31) (bl 2147385087 31)
def yj:St->St:=f4 0 (bl 25 31) (bl 1342177279 31)
def ro(z:Int)(C:Ls):St:=⟨((QQd z)::(jn 2 ((V.gs 1 C)::(jn 27 [])))),(gn 31 [])⟩
def vk(z:Int)(C:Ls):St:=⟨((QQd z)::(jn 2 ((V.gs 1 C)::(jn 27 [])))),(gn 31 [])⟩
def pq(z:Int)(C:Ls)(D:Int):St:=⟨((QQd z)::(jn 2 ((V.gs 1 C)::((QQe D)::(jn 26 []))))),(gn 31 [])⟩
def BP(z:Ls):St:=⟨(jn 3 ((V.gs 1 z)::(jn 27 []))),(gn 31 [])⟩
def JU(L:Nat)(C:Int)(z:Int->Ls->Ob Y):Ob Y:=z C (bY 1 1 [(QQa (128:Int))])
theorem XI(L:Nat)(z:Int)(k:KK Y):dx i9 (jc L) L cf_ref03_Pad [(QQd z)] [] k=JU L z (λz C=>dW (cz i9 (jc L) 0 L zI) BM L (ro z C) (dk 0 (dN (cz i9 (jc L) 0 L Dz) (dX 0 (CF.res cf_ref03_Pad) k)))):=by kernel_rfl
def BL(L:Nat)(D:Int)(C:Ls)(z:Int->Ls->Ob Y)(E:Int->Ls->Ob Y):Ob Y:=lt (Wbf .u64 ((WcK C:Nat):Int)) λF=>lt (Wbf .u64 ((D:Int)+F)) λH=>lt (Wbf .u64 ((H:Int)+(8:Int))) λI=>lt (Int.tmod I (64:Int)) λJ=>ifb ((J:Int) != (0:Int)) (chk ((WcK C+WcK (bY 1 1 [(QQa (0:Int))]))*1<=cN/\WcK C+WcK (bY 1 1 [(QQa (0:Int))])<=cN) (lt (C++(bY 1 1 [(QQa (0:Int))])) λM=>z D M)) (E D C)
theorem OK(L:Nat)(z:Int)(C:Ls)(X:St->Ob Y)(K:KT Y):cz i9 (jc L) 0 L zI (ro z C) (fR BM X K)=BL L z C (λz C=>X (ro z C)) (λz C=>K (.exit 0) (vk z C)):=by kernel_rfl
def yc(L:Nat)(C:Int)(D:Ls)(z:Int->Ls->Int->Ob Y):Ob Y:=z C D (7:Int)
theorem LG(L:Nat)(z:Int)(C:Ls)(k:KK Y):(dk 0 (dN (cz i9 (jc L) 0 L Dz) (dX 0 (CF.res cf_ref03_Pad) k))) (.exit 0) (vk z C)=yc L z C (λz C D=>dW (cz i9 (jc L) 0 L wH) yj L (pq z C D) (dk 2 (dN (cz i9 (jc L) 0 L IX) (dX 0 (CF.res cf_ref03_Pad) k)))):=by kernel_rfl
def pi(L:Nat)(H:Int)(C:Ls)(D:Int)(z:Int->Ls->Int->Ob Y)(E:Ls->Ob Y):Ob Y:=ifb (decide (D>=(0:Int))) (lt (Wbf .u64 (((8:Int):Int)*H)) λM=>lt (Wbf .i64 (((8:Int):Int)*D)) λI=>chk (0<=I) (lt (SG .u64 M I) λN=>lt (Wbf .u8 N) λF=>chk ((WcK C+WcK (bY 1 1 [(QQa F)]))*1<=cN/\WcK C+WcK (bY 1 1 [(QQa F)])<=cN) (lt (C++(bY 1 1 [(QQa F)])) λO=>lt (Wbf .i64 ((D:Int)-(1:Int))) λJ=>z H O J))) (E C)
theorem MF(L:Nat)(C:Int)(z:Ls)(D:Int)(X:St->Ob Y)(K:KT Y):cz i9 (jc L) 0 L wH (pq C z D) (fR yj X K)=pi L C z D (λC z D=>X (pq C z D)) (λz=>K (.exit 2) (BP z)):=by kernel_rfl
def u7(L:Nat)(C:Ls)(z:Ls->Ob Y):Ob Y:=z C
theorem JD(L:Nat)(z:Ls)(k:KK Y):(dk 2 (dN (cz i9 (jc L) 0 L IX) (dX 0 (CF.res cf_ref03_Pad) k))) (.exit 2) (BP z)=u7 L z (λC=>k (V.gs 1 C) []):=by kernel_rfl
def rh(L:Nat)(z:Int->Ls->Ob Y):Nat->Int->Ls->Ob Y
 | 0,_,_=>none
 | n+1,C,D=>BL L C D (λC D=>rh L z n C D) z
theorem Ew(L:Nat)(K:KT Y):∀ (n:Nat) (z:Int) (C:Ls),dW (cz i9 (jc L) 0 L zI) BM n (ro z C) K=rh L (λz C=>K (.exit 0) (vk z C)) n z C:=by
 intro n; induction n <;> intros
 ·rfl
 ·exact (OK ..).trans (by simp only [*]; rfl)
def nH(L:Nat)(z:Ls->Ob Y):Nat->Int->Ls->Int->Ob Y
 | 0,_,_,_=>none
 | n+1,C,D,E=>pi L C D E (λC D E=>nH L z n C D E) z
theorem Bt(L:Nat)(K:KT Y):∀ (n:Nat) (C:Int) (z:Ls) (D:Int),dW (cz i9 (jc L) 0 L wH) yj n (pq C z D) K=nH L (λz=>K (.exit 2) (BP z)) n C z D:=by
 intro n; induction n <;> intros
 ·rfl
 ·exact (MF ..).trans (by simp only [*]; rfl)
def qU(L:Nat)(D:Int)(z:Ls)(C:Ls->Ob Y):Ob Y:=yc L D z (λD z E=>nH L (λz=>u7 L z C) L D z E)
theorem K9(L:Nat)(z:Int)(C:Ls)(k:KK Y):(dk 0 (dN (cz i9 (jc L) 0 L Dz) (dX 0 (CF.res cf_ref03_Pad) k))) (.exit 0) (vk z C)=qU L z C (λz=>k (V.gs 1 z) []):=by
 refine (LG L z C k).trans ?_
 unfold qU
 first
  | (simp only [Bt,JD]; done)
  | (simp only [Bt]; rfl)
def DT(L:Nat)(z:Int)(C:Ls->Ob Y):Ob Y:=JU L z (λz D=>rh L (λz D=>qU L z D C) L z D)
theorem XD(L:Nat)(z:Int)(k:KK Y):dx i9 (jc L) L cf_ref03_Pad [(QQd z)] [] k=DT L z (λz=>k (V.gs 1 z) []):=by
 refine (XI L z k).trans ?_
 unfold DT
 first
  | (simp only [Ew,K9]; done)
  | (simp only [Ew]; rfl)
abbrev Rk:=∀ (Y:Type),Nat->Int->(Ls->Ob Y)->Ob Y
def rC:Rk:=λY=>@DT Y
def Q1(rC:Rk)(L:Nat):Dk:=dA (AI .u64) λz=>d0 λY k=>rC Y L z (λz=>k (V.gs 1 z) [])
theorem WY(L:Nat):DK (Q1 rC L) (λ_=>dx i9 (jc L) L cf_ref03_Pad):=dy gX λz=>fS λ_ k=>XD L z k
abbrev fH:=∀ (Y:Type),Nat->List V->List V->List V->(Int->Ob Y)->Ob Y
def cv:fH:=λY L z C D kf=>opD (dl rows) 300 476 L Y [(V.agg z),(V.agg C),(V.agg D)] [] λv _=>(AI .i64) Y v λp=>kf p
def Fe(cv:fH)(L:Nat):Dk:=dA AG λz=>dA AG λC=>dA AG λD=>d0 λY k=>cv Y L z C D (λE=>k (QQe E) [])
theorem SX(L:Nat):DK (Fe cv L) (opD (dl rows) 300 476 L):=dy fT λz=>dy fT λC=>dy fT λD=>D4 gX [(V.agg z),(V.agg C),(V.agg D)] λ_ _ _=>rfl
abbrev fV:=∀ (Y:Type),Nat->List V->(List V->Ob Y)->Ob Y
def cD:fV:=λY L z kf=>opD (dl rows) 300 429 L Y [(V.agg z)] [] λv _=>AG Y v λp=>kf p
def GH(cD:fV)(L:Nat):Dk:=dA AG λz=>d0 λY k=>cD Y L z (λC=>k (V.agg C) [])
theorem TX(L:Nat):DK (GH cD L) (opD (dl rows) 300 429 L):=dy fT λz=>D4 fT [(V.agg z)] λ_ _ _=>rfl
abbrev fd:=∀ (Y:Type),Nat->List V->Int->(Int->Ob Y)->Ob Y
def cg:fd:=λY L z C kf=>opD (dl rows) 300 472 L Y [(V.agg z),(QQe C)] [] λv _=>(AI .i64) Y v λp=>kf p
def B4(cg:fd)(L:Nat):Dk:=dA AG λz=>dA (AI .i64) λC=>d0 λY k=>cg Y L z C (λD=>k (QQe D) [])
theorem Nz(L:Nat):DK (B4 cg L) (opD (dl rows) 300 472 L):=dy fT λz=>dy gX λC=>D4 gX [(V.agg z),(QQe C)] λ_ _ _=>rfl
def cf_ref23_find:CF:=cfD I4 114
def yr:CC:=eT [1,0,1,0,0] cf_ref23_find.body
def DC:CC:=eT [1,1] cf_ref23_find.body
def lH:Nat->Sh:=f9 []
def lx(L:Nat):CBC:=noC
def zQ:St->St:=f4 0 (bl 393 20) (bl 1048527 20)
def qA(z:Ls)(C D:Int)(E:List V):St:=⟨((V.sl 37 z)::(jn 2 ((V.ptr 3 0)::(jn 3 ((QQe C)::((QQe D)::(jn 11 []))))))),(gn 3 ((.live true E)::(gn 16 [])))⟩
def xT(z:Int):St:=⟨(jn 4 ((QQe z)::(jn 15 []))),(gn 20 [])⟩
def z5:St:=⟨(jn 20 []),(gn 20 [])⟩
def HZ(L:Nat)(C:Ls)(D:List V)(z:Ls->Int->Int->List V->Ob Y):Ob Y:=z C ((WcK C:Nat):Int) (0:Int) D
theorem Uz(L:Nat)(z:Ls)(C:List V)(k:KK Y):dx lH (lx L) L cf_ref23_find [(V.sl 37 z),(V.agg C)] [] k=HZ L z C (λz D E F=>dW (cz lH (lx L) 0 L yr) zQ L (qA z D E F) (dk 0 (dN (cz lH (lx L) 0 L DC) (dX 0 (CF.res cf_ref23_find) k)))):=by kernel_rfl
def zD(L:Nat)(H:Ls)(I C:Int)(E:List V)(D:Int->Ob Y)(z:Ls->Int->Int->List V->Ob Y)(F:Ob Y):Ob Y:=ifb (decide (C<I)) (idx H C λJ=>chk (0+33<=(WcK E)) (eqC 33 (WcL 33 J) (WcL 33 E) λM=>ifb M (D C) (lt (Wbf .i64 ((C:Int)+(1:Int))) λN=>z H I N E))) (F)
theorem M6(L:Nat)(z:Ls)(C D:Int)(E:List V)(X:St->Ob Y)(K:KT Y):cz lH (lx L) 0 L yr (qA z C D E) (fR zQ X K)=zD L z C D E (λF=>K .ret (xT F)) (λz C D E=>X (qA z C D E)) (K (.exit 0) (z5)):=by kernel_rfl
def qo(L:Nat)(C:Int)(z:Int->Ob Y):Ob Y:=z C
theorem Kc(L:Nat)(z:Int)(k:KK Y):(dk 0 (dN (cz lH (lx L) 0 L DC) (dX 0 (CF.res cf_ref23_find) k))) .ret (xT z)=qo L z (λC=>k (QQe C) []):=by kernel_rfl
def qO(L:Nat)(z:Int->Ob Y):Ob Y:=z (-1:Int)
theorem Kw(L:Nat)(k:KK Y):(dk 0 (dN (cz lH (lx L) 0 L DC) (dX 0 (CF.res cf_ref23_find) k))) (.exit 0) (z5)=qO L (λz=>k (QQe z) []):=by kernel_rfl
def pW(L:Nat)(z:Int->Ob Y)(C:Ob Y):Nat->Ls->Int->Int->List V->Ob Y
 | 0,_,_,_,_=>none
 | n+1,D,E,F,H=>zD L D E F H z (λD E F H=>pW L z C n D E F H) C
theorem CN(L:Nat)(K:KT Y):∀ (n:Nat) (z:Ls) (C D:Int) (E:List V),dW (cz lH (lx L) 0 L yr) zQ n (qA z C D E) K=pW L (λF=>K .ret (xT F)) (K (.exit 0) (z5)) n z C D E:=by
 intro n; induction n <;> intros
 ·rfl
 ·exact (M6 ..).trans (by simp only [*]; rfl)
def Be(L:Nat)(C:Ls)(D:List V)(z:Int->Ob Y):Ob Y:=HZ L C D (λC E F H=>pW L (λI=>qo L I z) (qO L z) L C E F H)
theorem Wb(L:Nat)(z:Ls)(C:List V)(k:KK Y):dx lH (lx L) L cf_ref23_find [(V.sl 37 z),(V.agg C)] [] k=Be L z C (λz=>k (QQe z) []):=by
 refine (Uz L z C k).trans ?_
 unfold Be
 first
  | (simp only [CN,Kc,Kw]; done)
  | (simp only [CN]; rfl)
abbrev dK:=∀ (Y:Type),Nat->Ls->List V->(Int->Ob Y)->Ob Y
def bR:dK:=λY=>@Be Y
def Ct(bR:dK)(L:Nat):Dk:=dA (AL 37) λz=>dA AG λC=>d0 λY k=>bR Y L z C (λz=>k (QQe z) [])
theorem UJ(L:Nat):DK (Ct bR L) (λ_=>dx lH (lx L) L cf_ref23_find):=dy ji λz=>dy fT λC=>fS λ_ k=>Wb L z C k
def IQ:CF:=cfD FP 95
def Cn:Nat->Sh:=f9 []
def A5(L:Nat):CBC:=noC
def xn(L:Nat)(z C:Ls)(D:Ls->Ob Y):Ob Y:=lt (Wbf .i64 ((((WcK z:Nat):Int):Int)+((WcK C:Nat):Int))) λE=>chk (0<=(0:Int)/\(0:Int)<=E/\(WcM E)*1<=cN/\E<=cN) (chk ((WcK (Wad 0 [(QQa (0:Int))])+WcK z)*1<=cN/\WcK (Wad 0 [(QQa (0:Int))])+WcK z<=cN) (lt ((Wad 0 [(QQa (0:Int))])++z) λF=>chk ((WcK F+WcK C)*1<=cN/\WcK F+WcK C<=cN) (lt (F++C) λH=>D H)))
theorem P8(L:Nat)(z C:Ls)(k:KK Y):dx Cn (A5 L) L IQ [(V.sl 1 z),(V.sl 1 C)] [] k=xn L z C (λz=>k (V.gs 1 z) []):=by kernel_rfl
abbrev f7:=∀ (Y:Type),Nat->Ls->Ls->(Ls->Ob Y)->Ob Y
def cQ:f7:=λY=>@xn Y
def tb(cQ:f7)(L:Nat):Dk:=dA (AL 1) λz=>dA (AL 1) λC=>d0 λY k=>cQ Y L z C (λz=>k (V.gs 1 z) [])
theorem Qi(L:Nat):DK (tb cQ L) (λ_=>dx Cn (A5 L) L IQ):=dy ji λz=>dy ji λC=>fS λ_ k=>P8 L z C k
def cf_ref01_Join:CF:=cfD I2 157
def vR:CC:=eT [1,1,0,1,0,0] cf_ref01_Join.body
def IF:CC:=eT [1,1,1] cf_ref01_Join.body
def mK:Nat->Sh:=f9 [(11,(.sl 1))]
def mF(cQ:f7)(L:Nat):CBC:=(eL 193 (tb cQ L) noC)
def xE:St->St:=f4 0 (bl 456 17) (bl 114655 17)
def pB(z C:Ls)(D E:Int):St:=⟨(jn 3 ((V.gs 1 z)::(jn 2 ((V.sl 1 C)::((QQe D)::((QQe E)::(jn 8 []))))))),(gn 17 [])⟩
def zU(z:Ls):St:=⟨(jn 3 ((V.gs 1 z)::(jn 13 []))),(gn 17 [])⟩
def Hs(cQ:f7)(L:Nat)(C:Ls)(z:Ls->Ls->Int->Int->Ob Y):Ob Y:=z ([]:Ls) C ((WcK C:Nat):Int) (0:Int)
theorem Vk(cQ:f7)(L:Nat)(z:Ls)(k:KK Y):dx mK (mF cQ L) L cf_ref01_Join [(V.sl 1 z)] [] k=Hs cQ L z (λC D E F=>dW (cz mK (mF cQ L) 0 L vR) xE L (pB C D E F) (dk 0 (dN (cz mK (mF cQ L) 0 L IF) (dX 0 (CF.res cf_ref01_Join) k)))):=by kernel_rfl
def xI(cQ:f7)(L:Nat)(E F:Ls)(H C:Int)(z:Ls->Ls->Int->Int->Ob Y)(D:Ls->Ob Y):Ob Y:=ifb (decide (C<H)) (idx F C λI=>cL 1 I 0 λJ=>cQ Y L E J (λM=>lt (Wbf .i64 ((C:Int)+(1:Int))) λN=>z M F H N)) (D E)
theorem LK(cQ:f7)(L:Nat)(z C:Ls)(D E:Int)(X:St->Ob Y)(K:KT Y):cz mK (mF cQ L) 0 L vR (pB z C D E) (fR xE X K)=xI cQ L z C D E (λz C D E=>X (pB z C D E)) (λz=>K (.exit 0) (zU z)):=by kernel_rfl
def CM(cQ:f7)(L:Nat)(C:Ls)(z:Ls->Ob Y):Ob Y:=z C
theorem JV(cQ:f7)(L:Nat)(z:Ls)(k:KK Y):(dk 0 (dN (cz mK (mF cQ L) 0 L IF) (dX 0 (CF.res cf_ref01_Join) k))) (.exit 0) (zU z)=CM cQ L z (λC=>k (V.gs 1 C) []):=by kernel_rfl
def sF(cQ:f7)(L:Nat)(z:Ls->Ob Y):Nat->Ls->Ls->Int->Int->Ob Y
 | 0,_,_,_,_=>none
 | n+1,C,D,E,F=>xI cQ L C D E F (λC D E F=>sF cQ L z n C D E F) z
theorem Bq(cQ:f7)(L:Nat)(K:KT Y):∀ (n:Nat) (z C:Ls) (D E:Int),dW (cz mK (mF cQ L) 0 L vR) xE n (pB z C D E) K=sF cQ L (λz=>K (.exit 0) (zU z)) n z C D E:=by
 intro n; induction n <;> intros
 ·rfl
 ·exact (LK ..).trans (by simp only [*]; rfl)
def Cr(cQ:f7)(L:Nat)(D:Ls)(z:Ls->Ob Y):Ob Y:=Hs cQ L D (λC E F H=>sF cQ L (λC=>CM cQ L C z) L C E F H)
theorem UA(cQ:f7)(L:Nat)(z:Ls)(k:KK Y):dx mK (mF cQ L) L cf_ref01_Join [(V.sl 1 z)] [] k=Cr cQ L z (λz=>k (V.gs 1 z) []):=by
 refine (Vk cQ L z k).trans ?_
 unfold Cr
 first
  | (simp only [Bq,JV]; done)
  | (simp only [Bq]; rfl)
abbrev wg:=∀ (Y:Type),Nat->Ls->(Ls->Ob Y)->Ob Y
def hY:wg:=λY=>@Cr Y cQ
def Ht(hY:wg)(L:Nat):Dk:=dA (AL 1) λz=>d0 λY k=>hY Y L z (λz=>k (V.gs 1 z) [])
theorem TH(L:Nat):DK (Ht hY L) (λ_=>dx mK (mF cQ L) L cf_ref01_Join):=dy ji λz=>fS λ_ k=>UA cQ L z k
def FV:CF:=cfD CU 139
def xZ:Nat->Sh:=f9 [(1,(.row [(.int .u8),(.int .u8),(.int .u8),(.int .u8),(.int .u8),(.int .u8),(.int .u8),(.int .u8),(.int .u8),(.int .u8),(.int .u8),(.int .u8),(.int .u8),(.int .u8),(.int .u8),(.int .u8),(.int .u8),(.int .u8),(.int .u8),(.int .u8),(.int .u8),(.int .u8),(.int .u8),(.int .u8),(.int .u8),(.int .u8),(.int .u8),(.int .u8),(.int .u8),(.int .u8),(.int .u8),(.int .u8),(.int .u32),(.int .i64),(.sl 1),(.int .i64),.bool]))]
def xB(hY:wg)(L:Nat):CBC:=(eL 453 (Ht hY L) noC)
def GQ(hY:wg)(L:Nat)(z:List V)(C:List V->Ob Y):Ob Y:=chk (WcK z=37) (cI .u8 z 0 λv0=>cI .u8 z 1 λv1=>cI .u8 z 2 λv2=>cI .u8 z 3 λv3=>cI .u8 z 4 λv4=>cI .u8 z 5 λv5=>cI .u8 z 6 λv6=>cI .u8 z 7 λv7=>cI .u8 z 8 λv8=>cI .u8 z 9 λv9=>cI .u8 z 10 λE=>cI .u8 z 11 λF=>cI .u8 z 12 λH=>cI .u8 z 13 λI=>cI .u8 z 14 λJ=>cI .u8 z 15 λM=>cI .u8 z 16 λN=>cI .u8 z 17 λO=>cI .u8 z 18 λP=>cI .u8 z 19 λQ=>cI .u8 z 20 λR=>cI .u8 z 21 λS=>cI .u8 z 22 λT=>cI .u8 z 23 λU=>cI .u8 z 24 λd4=>cI .u8 z 25 λX=>cI .u8 z 26 λb9=>cI .u8 z 27 λc9=>cI .u8 z 28 λaa=>cI .u8 z 29 λab=>cI .u8 z 30 λac=>cI .u8 z 31 λad=>cI .u32 z 32 λag=>cI .i64 z 33 λao=>cL 1 z 34 λap=>cI .i64 z 35 λaq=>cB z 36 λar=>hY Y L (bY 1 1 [(V.sl 1 ap)]) (λau=>lt [(QQa v0),(QQa v1),(QQa v2),(QQa v3),(QQa v4),(QQa v5),(QQa v6),(QQa v7),(QQa v8),(QQa v9),(QQa E),(QQa F),(QQa H),(QQa I),(QQa J),(QQa M),(QQa N),(QQa O),(QQa P),(QQa Q),(QQa R),(QQa S),(QQa T),(QQa U),(QQa d4),(QQa X),(QQa b9),(QQa c9),(QQa aa),(QQa ab),(QQa ac),(QQa ad),(QQc ag),(QQe ao),(V.sl 1 au),(QQe aq),(V.sc (.bool ar))] λD=>chk (0=0/\(WcK D)=37/\37≠0) (C D)))
theorem Na(hY:wg)(L:Nat)(z:List V)(k:KK Y):dx xZ (xB hY L) L FV [(V.agg z)] [] k=GQ hY L z (λz=>k (V.agg z) []):=by kernel_rfl
abbrev eC:=∀ (Y:Type),Nat->List V->(List V->Ob Y)->Ob Y
def ci:eC:=λY=>@GQ Y hY
def zw(ci:eC)(L:Nat):Dk:=dA AG λz=>d0 λY k=>ci Y L z (λz=>k (V.agg z) [])
theorem Nm(L:Nat):DK (zw ci L) (λ_=>dx xZ (xB hY L) L FV):=dy fT λz=>fS λ_ k=>Na hY L z k
def cf_ref23_spent:CF:=cfD HT 111
def tr:CC:=eT [1,1,1,0,1,0,0] cf_ref23_spent.body
def uS:CC:=eT [1,1,0,1,0,0] cf_ref23_spent.body
def xO:CC:=eT [1,1,1,1] cf_ref23_spent.body
def uc:CC:=eT [1,1,1] cf_ref23_spent.body
def gL:Nat->Sh:=f9 [(17,(.sl 35)),(45,.bool),(49,(.int .i64)),(52,(.int .i64))]
def gM(bR:dK)(ci:eC)(L:Nat):CBC:=(eL 441 (zw ci L) (eL 480 (Ct bR L) noC))
def wP:St->St:=f4 0 (bl 918554 57) (bl 144115067749616831 57)
def uR:St->St:=f4 0 (bl 1924145349656 57) (bl 144115188075818175 57)
def oY(F:Ls)(H:Int)(z C:Ls)(D E:Int)(I:List V):St:=⟨(jn 1 ((V.sl 37 F)::(jn 1 ((QQe H)::((V.ptr 4 0)::(jn 5 ((V.gs 37 z)::(jn 6 ((V.sl 35 C)::((QQe D)::((QQe E)::(jn 37 [])))))))))))),(gn 4 ((.live true I)::(gn 52 [])))⟩
def mR(z:Ls)(C:Int):St:=⟨(jn 8 ((V.gs 37 z)::((QQe C)::(jn 47 [])))),(gn 57 [])⟩
def su(C:Int)(z:Ls)(D:List V):St:=⟨(jn 3 ((QQe C)::((V.ptr 4 0)::(jn 5 ((V.gs 37 z)::(jn 46 [])))))),(gn 4 ((.live true D)::(gn 52 [])))⟩
def oC(F:Int)(z C:Ls)(D E:Int)(H:List V):St:=⟨(jn 3 ((QQe F)::((V.ptr 4 0)::(jn 5 ((V.gs 37 z)::(jn 27 ((V.sl 37 C)::((QQe D)::((QQe E)::(jn 16 [])))))))))),(gn 4 ((.live true H)::(gn 52 [])))⟩
def ye(z:Ls):St:=⟨(jn 10 ((V.gs 37 z)::(jn 46 []))),(gn 57 [])⟩
abbrev CD(Y:Type):Type:=Ls->Int->Ls->Ls->Int->Int->List V->Ob Y
abbrev AM(Y:Type):Type:=Int->Ls->Ls->Int->Int->List V->Ob Y
def FF(bR:dK)(ci:eC)(L:Nat)(D:List V)(E:Ls)(F:List V)(H:Int)(z:CD Y):Ob Y:=cLd 35 F 1 λC=>z E H ([]:Ls) C ((WcK C:Nat):Int) (0:Int) D
theorem SV(bR:dK)(ci:eC)(L:Nat)(D:List V)(z:Ls)(E:List V)(C:Int)(k:KK Y):dx gL (gM bR ci L) L cf_ref23_spent [(V.agg D),(V.sl 37 z),(V.agg E),(QQe C)] [] k=FF bR ci L D z E C (λz C F H I J M=>dW (cz gL (gM bR ci L) 0 L uS) wP L (oY z C F H I J M) (dk 0 (dN (cz gL (gM bR ci L) 0 L uc) (dX 0 (CF.res cf_ref23_spent) k)))):=by kernel_rfl
def wO(bR:dK)(ci:eC)(L:Nat)(J:Ls)(N:Int)(C H:Ls)(I D:Int)(O:List V)(E:Ls->Int->Ob Y)(z:CD Y)(M:Int->Ls->List V->Ob Y):Ob Y:=ifb (decide (D<I)) (idx H D λP=>chk ((WcK (WcL 35 P))=35/\0+35<=35) (lt (cq (Wad 32 (QQa (0:Int))++[(QQc (0:Int)),(QQc (0:Int)),(V.gs 1 ([]:Ls))]) 0 (WcL 35 P)) λQ=>chk (0+33<=(WcK Q)) (bR Y L J (WcL 33 Q) (λR=>ifb (decide (R<(0:Int))) (E ([]:Ls) (101:Int)) (idx J R λS=>ci Y L (WbO V.ag (WcL 37 S)) (λF=>chk ((WcK F)=37/\0+37<=37) (chk ((WcK C+WcK (bY 37 1 (cq (Wad 32 (QQa (0:Int))++[(QQc (0:Int)),(QQe (0:Int)),(V.sl 1 ([]:Ls)),(QQe (0:Int)),(V.sc (.bool false))]) 0 F)))*88<=cN/\WcK C+WcK (bY 37 1 (cq (Wad 32 (QQa (0:Int))++[(QQc (0:Int)),(QQe (0:Int)),(V.sl 1 ([]:Ls)),(QQe (0:Int)),(V.sc (.bool false))]) 0 F))<=cN) (lt (C++(bY 37 1 (cq (Wad 32 (QQa (0:Int))++[(QQc (0:Int)),(QQe (0:Int)),(V.sl 1 ([]:Ls)),(QQe (0:Int)),(V.sc (.bool false))]) 0 F))) λT=>lt (Wbf .i64 ((D:Int)+(1:Int))) λU=>z J N T H I U O)))))))) (M N C O)
theorem K3(bR:dK)(ci:eC)(L:Nat)(I:Ls)(F:Int)(z C:Ls)(D E:Int)(H:List V)(X:St->Ob Y)(K:KT Y):cz gL (gM bR ci L) 0 L uS (oY I F z C D E H) (fR wP X K)=wO bR ci L I F z C D E H (λJ M=>K .ret (mR J M)) (λI F z C D E H=>X (oY I F z C D E H)) (λF z H=>K (.exit 0) (su F z H)):=by kernel_rfl
def Ad(bR:dK)(ci:eC)(L:Nat)(C:Ls)(D:Int)(z:Ls->Int->Ob Y):Ob Y:=z C D
theorem Hi(bR:dK)(ci:eC)(L:Nat)(D:Ls)(E:Int)(k:KK Y):(dk 0 (dN (cz gL (gM bR ci L) 0 L uc) (dX 0 (CF.res cf_ref23_spent) k))) .ret (mR D E)=Ad bR ci L D E (λz C=>k (V.ae [(V.gs 37 z),(QQe C)]) []):=by kernel_rfl
def tY(bR:dK)(ci:eC)(L:Nat)(D:Int)(C:Ls)(E:List V)(z:AM Y):Ob Y:=z D C C ((WcK C:Nat):Int) (0:Int) E
theorem Ij(bR:dK)(ci:eC)(L:Nat)(C:Int)(z:Ls)(D:List V)(k:KK Y):(dk 0 (dN (cz gL (gM bR ci L) 0 L uc) (dX 0 (CF.res cf_ref23_spent) k))) (.exit 0) (su C z D)=tY bR ci L C z D (λC z E F H D=>dW (cz gL (gM bR ci L) 0 L tr) uR L (oC C z E F H D) (dk 2 (dN (cz gL (gM bR ci L) 0 L xO) (dX 0 (CF.res cf_ref23_spent) k)))):=by kernel_rfl
def qy(bR:dK)(ci:eC)(L:Nat)(I:Int)(D E:Ls)(F C:Int)(J:List V)(H:Ls->Int->Ob Y)(z:AM Y)(M:Ls->Ob Y):Ob Y:=ifb (decide (C<F)) (idx E C λN=>chk ((WcK (WcL 37 N))=37/\0+37<=37) (lt (cq (Wad 32 (QQa (0:Int))++[(QQc (0:Int)),(QQe (0:Int)),(V.gs 1 ([]:Ls)),(QQe (0:Int)),(V.sc (.bool false))]) 0 (WcL 37 N)) λO=>cB O 36 λP=>ifb P (cI .i64 O 35 λQ=>lt (Wbf .i64 ((I:Int)-Q)) λR=>cI .i64 J 79 λS=>ifb (decide (R<S)) (H ([]:Ls) (230:Int)) (lt (Wbf .i64 ((C:Int)+(1:Int))) λT=>z I D E F T J)) (lt (Wbf .i64 ((C:Int)+(1:Int))) λU=>z I D E F U J))) (M D)
theorem JJ(bR:dK)(ci:eC)(L:Nat)(F:Int)(z C:Ls)(D E:Int)(H:List V)(X:St->Ob Y)(K:KT Y):cz gL (gM bR ci L) 0 L tr (oC F z C D E H) (fR uR X K)=qy bR ci L F z C D E H (λI J=>K .ret (mR I J)) (λF z C D E H=>X (oC F z C D E H)) (λz=>K (.exit 2) (ye z)):=by kernel_rfl
def rI(bR:dK)(ci:eC)(L:Nat)(C:Ls)(D:Int)(z:Ls->Int->Ob Y):Ob Y:=z C D
theorem Gk(bR:dK)(ci:eC)(L:Nat)(D:Ls)(E:Int)(k:KK Y):(dk 2 (dN (cz gL (gM bR ci L) 0 L xO) (dX 0 (CF.res cf_ref23_spent) k))) .ret (mR D E)=rI bR ci L D E (λz C=>k (V.ae [(V.gs 37 z),(QQe C)]) []):=by kernel_rfl
def sG(bR:dK)(ci:eC)(L:Nat)(C:Ls)(z:Ls->Int->Ob Y):Ob Y:=z C (0:Int)
theorem He(bR:dK)(ci:eC)(L:Nat)(z:Ls)(k:KK Y):(dk 2 (dN (cz gL (gM bR ci L) 0 L xO) (dX 0 (CF.res cf_ref23_spent) k))) (.exit 2) (ye z)=sG bR ci L z (λC D=>k (V.ae [(V.gs 37 C),(QQe D)]) []):=by kernel_rfl
def rm(bR:dK)(ci:eC)(L:Nat)(z:Ls->Int->Ob Y)(C:Int->Ls->List V->Ob Y):Nat->Ls->Int->Ls->Ls->Int->Int->List V->Ob Y
 | 0,_,_,_,_,_,_,_=>none
 | n+1,I,J,D,E,F,H,M=>wO bR ci L I J D E F H M z (λI J D E F H M=>rm bR ci L z C n I J D E F H M) C
theorem Au(bR:dK)(ci:eC)(L:Nat)(K:KT Y):∀ (n:Nat) (I:Ls) (C:Int) (z E:Ls) (F H:Int) (D:List V),dW (cz gL (gM bR ci L) 0 L uS) wP n (oY I C z E F H D) K=rm bR ci L (λJ M=>K .ret (mR J M)) (λC z D=>K (.exit 0) (su C z D)) n I C z E F H D:=by
 intro n; induction n <;> intros
 ·rfl
 ·exact (K3 ..).trans (by simp only [*]; rfl)
def mq(bR:dK)(ci:eC)(L:Nat)(z:Ls->Int->Ob Y)(C:Ls->Ob Y):Nat->Int->Ls->Ls->Int->Int->List V->Ob Y
 | 0,_,_,_,_,_,_=>none
 | n+1,I,D,E,F,H,J=>qy bR ci L I D E F H J z (λI D E F H J=>mq bR ci L z C n I D E F H J) C
theorem yV(bR:dK)(ci:eC)(L:Nat)(K:KT Y):∀ (n:Nat) (F:Int) (z C:Ls) (D E:Int) (H:List V),dW (cz gL (gM bR ci L) 0 L tr) uR n (oC F z C D E H) K=mq bR ci L (λI J=>K .ret (mR I J)) (λz=>K (.exit 2) (ye z)) n F z C D E H:=by
 intro n; induction n <;> intros
 ·rfl
 ·exact (JJ ..).trans (by simp only [*]; rfl)
def kY(bR:dK)(ci:eC)(L:Nat)(D:Int)(z:Ls)(E:List V)(C:Ls->Int->Ob Y):Ob Y:=tY bR ci L D z E (λD z F H I E=>mq bR ci L (λJ M=>rI bR ci L J M C) (λz=>sG bR ci L z C) L D z F H I E)
theorem GY(bR:dK)(ci:eC)(L:Nat)(C:Int)(z:Ls)(D:List V)(k:KK Y):(dk 0 (dN (cz gL (gM bR ci L) 0 L uc) (dX 0 (CF.res cf_ref23_spent) k))) (.exit 0) (su C z D)=kY bR ci L C z D (λE F=>k (V.ae [(V.gs 37 E),(QQe F)]) []):=by
 refine (Ij bR ci L C z D k).trans ?_
 unfold kY
 first
  | (simp only [yV,Gk,He]; done)
  | (simp only [yV]; rfl)
def y5(bR:dK)(ci:eC)(L:Nat)(M:List V)(E:Ls)(N:List V)(C:Int)(z:Ls->Int->Ob Y):Ob Y:=FF bR ci L M E N C (λE C D H I J F=>rm bR ci L (λO P=>Ad bR ci L O P z) (λC D F=>kY bR ci L C D F z) L E C D H I J F)
theorem SD(bR:dK)(ci:eC)(L:Nat)(z:List V)(C:Ls)(D:List V)(E:Int)(k:KK Y):dx gL (gM bR ci L) L cf_ref23_spent [(V.agg z),(V.sl 37 C),(V.agg D),(QQe E)] [] k=y5 bR ci L z C D E (λF H=>k (V.ae [(V.gs 37 F),(QQe H)]) []):=by
 refine (SV bR ci L z C D E k).trans ?_
 unfold y5
 first
  | (simp only [Au,Hi,GY]; done)
  | (simp only [Au]; rfl)
abbrev fF:=∀ (Y:Type),Nat->List V->Ls->List V->Int->(Ls->Int->Ob Y)->Ob Y
def co:fF:=λY=>@y5 Y bR ci
def FL(co:fF)(L:Nat):Dk:=dA AG λD=>dA (AL 37) λE=>dA AG λF=>dA (AI .i64) λH=>d0 λY k=>co Y L D E F H (λz C=>k (V.ae [(V.gs 37 z),(QQe C)]) [])
theorem Rz(L:Nat):DK (FL co L) (λ_=>dx gL (gM bR ci L) L cf_ref23_spent):=dy fT λz=>dy ji λC=>dy fT λD=>dy gX λE=>fS λ_ k=>SD bR ci L z C D E k
abbrev fE:=∀ (Y:Type),Nat->List V->Ls->Int->(Int->Int->Ob Y)->Ob Y
def cr:fE:=λY L z C D kf=>opD (dl rows) 300 478 L Y [(V.agg z),(V.sl 37 C),(QQe D)] [] λv _=>(AT2 (AI .i64) (AI .i64)) Y v λp=>kf p.1 p.2
def ES(cr:fE)(L:Nat):Dk:=dA AG λz=>dA (AL 37) λC=>dA (AI .i64) λD=>d0 λY k=>cr Y L z C D (λE F=>k (V.ae [(QQe E),(QQe F)]) [])
theorem S5(L:Nat):DK (ES cr L) (opD (dl rows) 300 478 L):=dy fT λz=>dy ji λC=>dy gX λD=>D4 (zgq gX gX) [(V.agg z),(V.sl 37 C),(QQe D)] λ_ _ _=>rfl
abbrev gD:=∀ (Y:Type),Nat->Ls->List V->Int->(Ls->Int->Ob Y)->Ob Y
def cG:gD:=λY L z C D kf=>opD (dl rows) 300 481 L Y [(V.sl 37 z),(V.agg C),(QQe D)] [] λv _=>(AT2 (AGs 37) (AI .i64)) Y v λp=>kf p.1 p.2
def Jo(cG:gD)(L:Nat):Dk:=dA (AL 37) λz=>dA AG λC=>dA (AI .i64) λD=>d0 λY k=>cG Y L z C D (λE F=>k (V.ae [(V.gs 37 E),(QQe F)]) [])
theorem Xd(L:Nat):DK (Jo cG L) (opD (dl rows) 300 481 L):=dy ji λz=>dy fT λC=>dy gX λD=>D4 (zgq zf6 gX) [(V.sl 37 z),(V.agg C),(QQe D)] λ_ _ _=>rfl
abbrev e9:=∀ (Y:Type),Nat->List V->Int->(Ls->Ob Y)->Ob Y
def ce:e9:=λY L z C kf=>opD (dl rows) 300 483 L Y [(V.agg z),(QQe C)] [] λv _=>(AGs 37) Y v λp=>kf p
def AQ(ce:e9)(L:Nat):Dk:=dA AG λz=>dA (AI .i64) λC=>d0 λY k=>ce Y L z C (λD=>k (V.gs 37 D) [])
theorem Ou(L:Nat):DK (AQ ce L) (opD (dl rows) 300 483 L):=dy fT λz=>dy gX λC=>D4 zf6 [(V.agg z),(QQe C)] λ_ _ _=>rfl
abbrev fG:=∀ (Y:Type),Nat->Ls->(Int->Ob Y)->Ob Y
def cu:fG:=λY L z kf=>opD (dl rows) 300 482 L Y [(V.sl 37 z)] [] λv _=>(AI .i64) Y v λp=>kf p
def FK(cu:fG)(L:Nat):Dk:=dA (AL 37) λz=>d0 λY k=>cu Y L z (λC=>k (QQe C) [])
theorem SU(L:Nat):DK (FK cu L) (opD (dl rows) 300 482 L):=dy ji λz=>D4 gX [(V.sl 37 z)] λ_ _ _=>rfl
def H9:CF:=cfD Eg 113
def zN:Nat->Sh:=f9 []
def zR(L:Nat):CBC:=noC
def Cu(L:Nat)(z:Ls)(D:Int)(E:Ls->Ob Y):Ob Y:=chk (0<=D/\D<=(((WcK z):Nat):Int)) (chk ((WcK ([]:Ls)+WcK (WcL ((WcM D)-0) (WcN 0 z)))*88<=cN/\WcK ([]:Ls)+WcK (WcL ((WcM D)-0) (WcN 0 z))<=cN) (lt (([]:Ls)++(WcL ((WcM D)-0) (WcN 0 z))) λF=>lt (Wbf .i64 ((D:Int)+(1:Int))) λC=>chk (0<=C/\C<=(((WcK z):Nat):Int)) (chk ((WcK F+WcK (WcL ((WcK z)-(WcM C)) (WcN (WcM C) z)))*88<=cN/\WcK F+WcK (WcL ((WcK z)-(WcM C)) (WcN (WcM C) z))<=cN) (lt (F++(WcL ((WcK z)-(WcM C)) (WcN (WcM C) z))) λH=>E H))))
theorem Pe(L:Nat)(z:Ls)(C:Int)(k:KK Y):dx zN (zR L) L H9 [(V.sl 37 z),(QQe C)] [] k=Cu L z C (λz=>k (V.gs 37 z) []):=by kernel_rfl
abbrev e7:=∀ (Y:Type),Nat->Ls->Int->(Ls->Ob Y)->Ob Y
def cd:e7:=λY=>@Cu Y
def B5(cd:e7)(L:Nat):Dk:=dA (AL 37) λz=>dA (AI .i64) λC=>d0 λY k=>cd Y L z C (λz=>k (V.gs 37 z) [])
theorem NT(L:Nat):DK (B5 cd L) (λ_=>dx zN (zR L) L H9):=dy ji λz=>dy gX λC=>fS λ_ k=>Pe L z C k
def cf_ref23_Connect:CF:=cfD EG 84
def kk:CC:=eT [1,1,1,1,0,1,0,0,1,1,0,0,1,0,1,0,1,1,1,1,0,1,0,0] cf_ref23_Connect.body
def oQ:CC:=eT [1,1,1,1,0,1,0,0,1,1,0,0,1,0,1,0,1,1,1,1,1] cf_ref23_Connect.body
def rW:CC:=eT [1,1,1,1,0,1,0,0,1,1,0,0,1,1] cf_ref23_Connect.body
def ut:CC:=eT [1,1,1,1,0,1,0,0,1,1,1] cf_ref23_Connect.body
def nM:CC:=eT [1,1,1,1,0,1,0,0] cf_ref23_Connect.body
def tE:CC:=eT [1,1,1,1,1] cf_ref23_Connect.body
def fx:Nat->Sh:=f9 [(32,(.int .i64)),(38,(.sl 37)),(43,(.int .i64)),(46,(.sl 4)),(58,(.sl 37)),(61,(.int .i64)),(74,(.int .i64)),(109,(.sl 37)),(112,(.int .i64)),(126,(.sl 4)),(130,(.int .i64)),(139,(.sl 37)),(146,(.sl 37)),(90,(.sl 37)),(92,(.sl 37))]
def fw(cv:fH)(cD:fV)(cg:fd)(co:fF)(cr:fE)(cG:gD)(ce:e9)(cu:fG)(bR:dK)(cd:e7)(L:Nat):CBC:=(eL 479 (B5 cd L) (eL 480 (Ct bR L) (eL 482 (FK cu L) (eL 483 (AQ ce L) (eL 481 (Jo cG L) (eL 478 (ES cr L) (eL 477 (FL co L) (eL 472 (B4 cg L) (eL 429 (GH cD L) (eL 476 (Fe cv L) noC))))))))))
def kz:St->St:=f4 0 (bl 492581209251048 153) (bl 11417981541574946208765741796140502961711488751 153)
def kK:St->St:=f4 0 (bl 67699845898911814992977128 153) (bl 11417981541647678929624043984199454700745523183 153)
def iV(D:Int)(E:Ls)(F H:Int)(J M N:List V)(C:Ls)(I:List V)(z:Ls):St:=⟨(jn 3 ((V.ptr 3 0)::(jn 1 ((V.ptr 5 0)::((V.ptr 6 0)::((V.ptr 7 0)::(jn 2 ((V.ptr 10 0)::((V.ptr 11 0)::((QQe D)::(jn 33 ((V.sl 4 E)::((QQe F)::((QQe H)::(jn 104 []))))))))))))))),(gn 3 ((.live true J)::(gn 1 ((.live true M)::((.live true N)::((.live true [(V.gs 37 C)])::(gn 2 ((.live true I)::((.live false [(V.gs 37 z)])::(gn 141 []))))))))))⟩
def ni(z:Int)(C D:List V):St:=⟨(jn 6 ((V.ptr 6 0)::((V.ptr 7 0)::((QQe z)::(jn 144 []))))),(gn 6 ((.live true C)::((.live true D)::(gn 145 []))))⟩
def iK(D:Int)(E:Ls)(F:Int)(H:Ls)(I J:Int)(M:Ls)(N O:Int)(R S T:List V)(C:Ls)(P:List V)(z:Ls)(Q:List V):St:=⟨(jn 3 ((V.ptr 3 0)::(jn 1 ((V.ptr 5 0)::((V.ptr 6 0)::((V.ptr 7 0)::(jn 2 ((V.ptr 10 0)::((V.ptr 11 0)::((QQe D)::(jn 1 ((V.ptr 14 0)::((V.sl 37 E)::(jn 1 ((QQe F)::(jn 28 ((V.sl 4 H)::((QQe I)::((QQe J)::(jn 34 ((V.sl 37 M)::((QQe N)::((QQe O)::(jn 67 [])))))))))))))))))))))))),(gn 3 ((.live true R)::(gn 1 ((.live true S)::((.live true T)::((.live true [(V.gs 37 C)])::(gn 2 ((.live true P)::((.live false [(V.gs 37 z)])::(gn 2 ((.live true Q)::(gn 138 []))))))))))))⟩
def qw(D:Int)(F H:List V)(C:Ls)(E:List V)(z:Ls):St:=⟨(jn 5 ((V.ptr 5 0)::((V.ptr 6 0)::((V.ptr 7 0)::(jn 2 ((V.ptr 10 0)::((V.ptr 11 0)::((QQe D)::(jn 140 []))))))))),(gn 5 ((.live true F)::((.live true H)::((.live true [(V.gs 37 C)])::(gn 2 ((.live true E)::((.live false [(V.gs 37 z)])::(gn 141 []))))))))⟩
def u3(D:Int)(E:Ls)(F:Int)(H:Ls)(I J:Int)(O P Q:List V)(C:Ls)(M:List V)(z:Ls)(N:List V):St:=⟨(jn 3 ((V.ptr 3 0)::(jn 1 ((V.ptr 5 0)::((V.ptr 6 0)::((V.ptr 7 0)::(jn 2 ((V.ptr 10 0)::((V.ptr 11 0)::((QQe D)::(jn 1 ((V.ptr 14 0)::((V.sl 37 E)::(jn 1 ((QQe F)::(jn 28 ((V.sl 4 H)::((QQe I)::((QQe J)::(jn 104 [])))))))))))))))))))),(gn 3 ((.live true O)::(gn 1 ((.live true P)::((.live true Q)::((.live true [(V.gs 37 C)])::(gn 2 ((.live true M)::((.live false [(V.gs 37 z)])::(gn 2 ((.live true N)::(gn 138 []))))))))))))⟩
abbrev nR(Y:Type):Type:=Int->Ls->Int->Int->List V->List V->List V->Ls->List V->Ls->Ob Y
abbrev nK(Y:Type):Type:=Int->Ls->Int->Ls->Int->Int->Ls->Int->Int->List V->List V->List V->Ls->List V->Ls->List V->Ob Y
abbrev kH(Y:Type):Type:=Int->List V->List V->Ls->List V->Ls->Ob Y
abbrev yg(Y:Type):Type:=Int->Ls->Int->Ls->Int->Int->List V->List V->List V->Ls->List V->Ls->List V->Ob Y
def vb(cv:fH)(cD:fV)(cg:fd)(co:fF)(cr:fE)(cG:gD)(ce:e9)(cu:fG)(bR:dK)(cd:e7)(L:Nat)(D E C:List V)(F:List V->List V->Int->Ob Y)(z:nR Y):Ob Y:=chk (0+80<=(WcK D)) (chk (0+34<=(WcK E)) (chk (0+69<=(WcK C)) (cv Y L (WbO V.ag (WcL 80 D)) (WbO V.ag (WcL 34 E)) (WbO V.ag (WcL 69 C)) (λJ=>ifb ((J:Int) != (0:Int)) (lt ([(QQe (0:Int))]++Wad 32 (QQa (0:Int))++[(V.sl 37 ([]:Ls))]) λM=>lt [(V.sl 37 ([]:Ls))] λN=>chk (0=0/\(WcK M)=34/\34≠0) (chk (0=0/\(WcK N)=1/\1≠0) (F M N J))) (cI .i64 E 0 λS=>lt (Wbf .i64 ((S:Int)+(1:Int))) λO=>chk (0+68<=(WcK C)) (cD Y L (WcL 68 C) (λI=>cLd 37 E 33 λT=>chk ((WcK I)=32/\1+32<=34) (chk (1=1/\33+1<=(WcK (cq ([(QQe O)]++Wad 32 (QQa (0:Int))++[(V.sl 37 ([]:Ls))]) 1 I))) (lt (cq (cq ([(QQe O)]++Wad 32 (QQa (0:Int))++[(V.sl 37 ([]:Ls))]) 1 I) 33 [(V.sl 37 T)]) λP=>chk ((WcK P)=34/\0+34<=34) (lt (cq ([(QQe (0:Int))]++Wad 32 (QQa (0:Int))++[(V.gs 37 ([]:Ls))]) 0 P) λQ=>chk (0+80<=(WcK D)) (cI .i64 Q 0 λU=>cg Y L (WbO V.ag (WcL 80 D)) U (λR=>cLd 4 C 68 λH=>z R H ((WcK H:Nat):Int) (0:Int) D C ([(QQe (0:Int))]++Wad 32 (QQa (0:Int))++[(V.gs 37 ([]:Ls))]) ([]:Ls) Q ([]:Ls)))))))))))))
theorem NE(cv:fH)(cD:fV)(cg:fd)(co:fF)(cr:fE)(cG:gD)(ce:e9)(cu:fG)(bR:dK)(cd:e7)(L:Nat)(H I J:List V)(k:KK Y):dx fx (fw cv cD cg co cr cG ce cu bR cd L) L cf_ref23_Connect [(V.agg H),(V.agg I),(V.agg J)] [] k=vb cv cD cg co cr cG ce cu bR cd L H I J (λC D E=>k (V.ae [(V.agg C),(V.agg D),(QQe E)]) []) (λM N O P R S T F Q z=>dW (cz fx (fw cv cD cg co cr cG ce cu bR cd L) 0 L nM) kz L (iV M N O P R S T F Q z) (dk 0 (dN (cz fx (fw cv cD cg co cr cG ce cu bR cd L) 0 L tE) (dX 0 (CF.res cf_ref23_Connect) k)))):=by kernel_rfl
def mu(cv:fH)(cD:fV)(cg:fd)(co:fF)(cr:fE)(cG:gD)(ce:e9)(cu:fG)(bR:dK)(cd:e7)(L:Nat)(O:Int)(P:Ls)(Q J:Int)(R X E:List V)(M:Ls)(C:List V)(F:Ls)(H:Int->List V->List V->Ob Y)(z:nK Y)(I:nR Y)(b9:kH Y):Ob Y:=ifb (decide (J<Q)) (idx P J λS=>chk ((WcK (WcL 4 S))=4/\0+4<=4) (lt (cq [(QQc (0:Int)),(V.gs 35 ([]:Ls)),(V.gs 2 ([]:Ls)),(QQc (0:Int))] 0 (WcL 4 S)) λD=>ifb (decide (J>(0:Int))) (chk (0+80<=(WcK R)) (cLd 37 C 33 λc9=>chk (0+4<=(WcK D)) (cI .i64 C 0 λaa=>co Y L (WbO V.ag (WcL 80 R)) c9 (WbO V.ag (WcL 4 D)) aa (λN T=>ifb ((T:Int) != (0:Int)) (chk (34=34/\0+34<=(WcK E)) (lt (cq E 0 ([(QQe (0:Int))]++Wad 32 (QQa (0:Int))++[(V.sl 37 ([]:Ls))])) λab=>lt [(V.sl 37 ([]:Ls))] λac=>H T ab ac)) (chk (0+4<=(WcK D)) (cI .i64 C 0 λad=>cr Y L (WbO V.ag (WcL 4 D)) N ad (λao U=>ifb ((U:Int) != (0:Int)) (chk (34=34/\0+34<=(WcK E)) (lt (cq E 0 ([(QQe (0:Int))]++Wad 32 (QQa (0:Int))++[(V.sl 37 ([]:Ls))])) λap=>lt [(V.sl 37 ([]:Ls))] λaq=>H U ap aq)) (z O N ao P Q J N ((WcK N:Nat):Int) (0:Int) R X E M C F D)))))))) (cLd 37 C 33 λar=>chk (0+4<=(WcK D)) (cI .i64 C 0 λau=>cG Y L ar (WbO V.ag (WcL 4 D)) au (λav d4=>ifb ((d4:Int) != (0:Int)) (chk (34=34/\0+34<=(WcK E)) (lt (cq E 0 ([(QQe (0:Int))]++Wad 32 (QQa (0:Int))++[(V.sl 37 ([]:Ls))])) λaw=>lt [(V.sl 37 ([]:Ls))] λaA=>H d4 aw aA)) (chk (1=1/\33+1<=(WcK C)) (lt (cq C 33 [(V.sl 37 av)]) λaK=>lt (Wbf .i64 ((J:Int)+(1:Int))) λaN=>I O P Q aN R X E M aK F))))))) (b9 O X E M C F)
theorem F7(cv:fH)(cD:fV)(cg:fd)(co:fF)(cr:fE)(cG:gD)(ce:e9)(cu:fG)(bR:dK)(cd:e7)(L:Nat)(D:Int)(H:Ls)(I J:Int)(N M F:List V)(C:Ls)(E:List V)(z:Ls)(X:St->Ob Y)(K:KT Y):cz fx (fw cv cD cg co cr cG ce cu bR cd L) 0 L nM (iV D H I J N M F C E z) (fR kz X K)=mu cv cD cg co cr cG ce cu bR cd L D H I J N M F C E z (λU F d4=>K .ret (ni U F d4)) (λD O P H I J Q R S N M F C E z T=>dW (cz fx (fw cv cD cg co cr cG ce cu bR cd L) 0 L kk) kK L (iK D O P H I J Q R S N M F C E z T) (dk 2 (dN (cz fx (fw cv cD cg co cr cG ce cu bR cd L) 0 L oQ) (dN (cz fx (fw cv cD cg co cr cG ce cu bR cd L) 0 L rW) (dk 1 (dN (cz fx (fw cv cD cg co cr cG ce cu bR cd L) 0 L ut) (fR kz X K))))))) (λD H I J N M F C E z=>X (iV D H I J N M F C E z)) (λD M F C E z=>K (.exit 0) (qw D M F C E z)):=by kernel_rfl
def m6(cv:fH)(cD:fV)(cg:fd)(co:fF)(cr:fE)(cG:gD)(ce:e9)(cu:fG)(bR:dK)(cd:e7)(L:Nat)(E:Int)(C D:List V)(z:List V->List V->Int->Ob Y):Ob Y:=chk (0=0/\(WcK C)=34/\34≠0) (chk (0=0/\(WcK D)=1/\1≠0) (z C D E))
theorem C1(cv:fH)(cD:fV)(cg:fd)(co:fF)(cr:fE)(cG:gD)(ce:e9)(cu:fG)(bR:dK)(cd:e7)(L:Nat)(E:Int)(F H:List V)(k:KK Y):(dk 0 (dN (cz fx (fw cv cD cg co cr cG ce cu bR cd L) 0 L tE) (dX 0 (CF.res cf_ref23_Connect) k))) .ret (ni E F H)=m6 cv cD cg co cr cG ce cu bR cd L E F H (λz C D=>k (V.ae [(V.agg z),(V.agg C),(QQe D)]) []):=by kernel_rfl
def jY(cv:fH)(cD:fV)(cg:fd)(co:fF)(cr:fE)(cG:gD)(ce:e9)(cu:fG)(bR:dK)(cd:e7)(L:Nat)(Q:Int)(b5 D:List V)(ab:Ls)(C:List V)(E:Ls)(z:List V->List V->Int->Ob Y):Ob Y:=cLd 4 b5 68 λR=>idx R (0:Int) λS=>cI .i64 C 0 λT=>ce Y L (WbO V.ag (WcL 4 S)) T (λU=>cu Y L U (λd4=>ifb (decide (d4>Q)) (chk (34=34/\0+34<=(WcK D)) (lt (cq D 0 ([(QQe (0:Int))]++Wad 32 (QQa (0:Int))++[(V.sl 37 ([]:Ls))])) λF=>lt [(V.sl 37 ([]:Ls))] λH=>chk (0=0/\(WcK F)=34/\34≠0) (chk (0=0/\(WcK H)=1/\1≠0) (z F H (231:Int))))) (cLd 37 C 33 λX=>cu Y L X (λb9=>ifb (decide (b9>(2100000000000000:Int))) (chk (34=34/\0+34<=(WcK D)) (lt (cq D 0 ([(QQe (0:Int))]++Wad 32 (QQa (0:Int))++[(V.sl 37 ([]:Ls))])) λI=>lt [(V.sl 37 ([]:Ls))] λJ=>chk (0=0/\(WcK I)=34/\34≠0) (chk (0=0/\(WcK J)=1/\1≠0) (z I J (90:Int))))) (cLd 37 C 33 λc9=>ifb (decide (((WcK c9:Nat):Int)>(100000:Int))) (chk (34=34/\0+34<=(WcK D)) (lt (cq D 0 ([(QQe (0:Int))]++Wad 32 (QQa (0:Int))++[(V.sl 37 ([]:Ls))])) λM=>lt [(V.sl 37 ([]:Ls))] λN=>chk (0=0/\(WcK M)=34/\34≠0) (chk (0=0/\(WcK N)=1/\1≠0) (z M N (4:Int))))) (chk (0+34<=(WcK C)) (chk ((WcK (WcL 34 C))=34/\0+34<=(WcK D)) (lt (cq D 0 (WcL 34 C)) λO=>lt [(V.sl 37 E)] λP=>chk (0=0/\(WcK O)=34/\34≠0) (chk (0=0/\(WcK P)=1/\1≠0) (z O P (0:Int)))))))))))
theorem Ej(cv:fH)(cD:fV)(cg:fd)(co:fF)(cr:fE)(cG:gD)(ce:e9)(cu:fG)(bR:dK)(cd:e7)(L:Nat)(D:Int)(J M:List V)(C:Ls)(E:List V)(z:Ls)(k:KK Y):(dk 0 (dN (cz fx (fw cv cD cg co cr cG ce cu bR cd L) 0 L tE) (dX 0 (CF.res cf_ref23_Connect) k))) (.exit 0) (qw D J M C E z)=jY cv cD cg co cr cG ce cu bR cd L D J M C E z (λF H I=>k (V.ae [(V.agg F),(V.agg H),(QQe I)]) []):=by kernel_rfl
def jj(cv:fH)(cD:fV)(cg:fd)(co:fF)(cr:fE)(cG:gD)(ce:e9)(cu:fG)(bR:dK)(cd:e7)(L:Nat)(H:Int)(I:Ls)(J:Int)(M:Ls)(N O:Int)(P:Ls)(Q E:Int)(d4 X b9:List V)(F:Ls)(C:List V)(D:Ls)(R:List V)(z:nK Y)(U:yg Y):Ob Y:=ifb (decide (E<Q)) (idx P E λS=>chk ((WcK (WcL 37 S))=37/\0+37<=37) (lt (cq (Wad 32 (QQa (0:Int))++[(QQc (0:Int)),(QQe (0:Int)),(V.gs 1 ([]:Ls)),(QQe (0:Int)),(V.sc (.bool false))]) 0 (WcL 37 S)) λT=>cLd 37 C 33 λc9=>cLd 37 C 33 λaa=>chk (0+33<=(WcK T)) (bR Y L aa (WcL 33 T) (λab=>cd Y L c9 ab (λac=>chk (1=1/\33+1<=(WcK C)) (lt (cq C 33 [(V.sl 37 ac)]) λad=>lt (Wbf .i64 ((E:Int)+(1:Int))) λag=>z H I J M N O P Q ag d4 X b9 F ad D R)))))) (U H I J M N O d4 X b9 F C D R)
theorem tf(cv:fH)(cD:fV)(cg:fd)(co:fF)(cr:fE)(cG:gD)(ce:e9)(cu:fG)(bR:dK)(cd:e7)(L:Nat)(D:Int)(E:Ls)(F:Int)(H:Ls)(I J:Int)(O:Ls)(P Q:Int)(R S T:List V)(C:Ls)(M:List V)(z:Ls)(N:List V)(X:St->Ob Y)(K:KT Y):cz fx (fw cv cD cg co cr cG ce cu bR cd L) 0 L kk (iK D E F H I J O P Q R S T C M z N) (fR kK X K)=jj cv cD cg co cr cG ce cu bR cd L D E F H I J O P Q R S T C M z N (λD E F H I J O P Q R S T C M z N=>X (iK D E F H I J O P Q R S T C M z N)) (λD E F H I J R S T C M z N=>K (.exit 2) (u3 D E F H I J R S T C M z N)):=by kernel_rfl
def iU(cv:fH)(cD:fV)(cg:fd)(co:fF)(cr:fE)(cG:gD)(ce:e9)(cu:fG)(bR:dK)(cd:e7)(L:Nat)(N:Int)(E:Ls)(O:Int)(P:Ls)(Q R:Int)(b3 b5 J:List V)(M:Ls)(D:List V)(z:Ls)(H:List V)(F:Int->List V->List V->Ob Y)(C:nR Y):Ob Y:=lt (Wbf .i64 ((N:Int)+O)) λS=>chk ((WcK z+WcK E)*88<=cN/\WcK z+WcK E<=cN) (lt (z++E) λT=>cLd 37 D 33 λU=>chk (0+4<=(WcK H)) (cI .i64 D 0 λd4=>cG Y L U (WbO V.ag (WcL 4 H)) d4 (λX I=>ifb ((I:Int) != (0:Int)) (chk (34=34/\0+34<=(WcK J)) (lt (cq J 0 ([(QQe (0:Int))]++Wad 32 (QQa (0:Int))++[(V.sl 37 ([]:Ls))])) λb9=>lt [(V.sl 37 ([]:Ls))] λc9=>F I b9 c9)) (chk (1=1/\33+1<=(WcK D)) (lt (cq D 33 [(V.sl 37 X)]) λaa=>lt (Wbf .i64 ((R:Int)+(1:Int))) λab=>C S P Q ab b3 b5 J M aa T)))))
theorem sg(cv:fH)(cD:fV)(cg:fd)(co:fF)(cr:fE)(cG:gD)(ce:e9)(cu:fG)(bR:dK)(cd:e7)(L:Nat)(D:Int)(O:Ls)(P:Int)(E:Ls)(F H:Int)(M N J:List V)(C:Ls)(I:List V)(z:Ls)(Q:List V)(X:St->Ob Y)(K:KT Y):(dk 2 (dN (cz fx (fw cv cD cg co cr cG ce cu bR cd L) 0 L oQ) (dN (cz fx (fw cv cD cg co cr cG ce cu bR cd L) 0 L rW) (dk 1 (dN (cz fx (fw cv cD cg co cr cG ce cu bR cd L) 0 L ut) (fR kz X K)))))) (.exit 2) (u3 D O P E F H M N J C I z Q)=iU cv cD cg co cr cG ce cu bR cd L D O P E F H M N J C I z Q (λR J S=>K .ret (ni R J S)) (λD E F H M N J C I z=>X (iV D E F H M N J C I z)):=by kernel_rfl
def fO(cv:fH)(cD:fV)(cg:fd)(co:fF)(cr:fE)(cG:gD)(ce:e9)(cu:fG)(bR:dK)(cd:e7)(L:Nat)(D:yg Y):Nat->Int->Ls->Int->Ls->Int->Int->Ls->Int->Int->List V->List V->List V->Ls->List V->Ls->List V->Ob Y
 | 0,_,_,_,_,_,_,_,_,_,_,_,_,_,_,_,_=>none
 | n+1,E,F,H,I,J,M,N,O,P,S,T,U,C,Q,z,R=>jj cv cD cg co cr cG ce cu bR cd L E F H I J M N O P S T U C Q z R (λE F H I J M N O P S T U C Q z R=>fO cv cD cg co cr cG ce cu bR cd L D n E F H I J M N O P S T U C Q z R) D
theorem nc(cv:fH)(cD:fV)(cg:fd)(co:fF)(cr:fE)(cG:gD)(ce:e9)(cu:fG)(bR:dK)(cd:e7)(L:Nat)(K:KT Y):∀ (n:Nat) (D:Int) (E:Ls) (F:Int) (H:Ls) (I J:Int) (R:Ls) (S T:Int) (O P Q:List V) (C:Ls) (M:List V) (z:Ls) (N:List V),dW (cz fx (fw cv cD cg co cr cG ce cu bR cd L) 0 L kk) kK n (iK D E F H I J R S T O P Q C M z N) K=fO cv cD cg co cr cG ce cu bR cd L (λD E F H I J O P Q C M z N=>K (.exit 2) (u3 D E F H I J O P Q C M z N)) n D E F H I J R S T O P Q C M z N:=by
 intro n; induction n <;> intros
 ·rfl
 ·exact (tf ..).trans (by simp only [*]; rfl)
def j6(cv:fH)(cD:fV)(cg:fd)(co:fF)(cr:fE)(cG:gD)(ce:e9)(cu:fG)(bR:dK)(cd:e7)(L:Nat)(E:Int)(F:Ls)(H I:Int)(N O P:List V)(D:Ls)(J:List V)(z:Ls)(M:Int->List V->List V->Ob Y)(C:nR Y)(T:kH Y):Ob Y:=mu cv cD cg co cr cG ce cu bR cd L E F H I N O P D J z M (λE Q R F H I U d4 X N O P D J z S=>fO cv cD cg co cr cG ce cu bR cd L (λE Q R F H I N O P D J z S=>iU cv cD cg co cr cG ce cu bR cd L E Q R F H I N O P D J z S M C) L E Q R F H I U d4 X N O P D J z S) C T
theorem Fp(cv:fH)(cD:fV)(cg:fd)(co:fF)(cr:fE)(cG:gD)(ce:e9)(cu:fG)(bR:dK)(cd:e7)(L:Nat)(D:Int)(H:Ls)(I J:Int)(N M F:List V)(C:Ls)(E:List V)(z:Ls)(X:St->Ob Y)(K:KT Y):cz fx (fw cv cD cg co cr cG ce cu bR cd L) 0 L nM (iV D H I J N M F C E z) (fR kz X K)=j6 cv cD cg co cr cG ce cu bR cd L D H I J N M F C E z (λO F P=>K .ret (ni O F P)) (λD H I J N M F C E z=>X (iV D H I J N M F C E z)) (λD M F C E z=>K (.exit 0) (qw D M F C E z)):=by
 refine (F7 cv cD cg co cr cG ce cu bR cd L D H I J N M F C E z X K).trans ?_
 unfold j6
 first
  | (simp only [nc,sg]; done)
  | (simp only [nc]; rfl)
def fe(cv:fH)(cD:fV)(cg:fd)(co:fF)(cr:fE)(cG:gD)(ce:e9)(cu:fG)(bR:dK)(cd:e7)(L:Nat)(D:Int->List V->List V->Ob Y)(E:kH Y):Nat->Int->Ls->Int->Int->List V->List V->List V->Ls->List V->Ls->Ob Y
 | 0,_,_,_,_,_,_,_,_,_,_=>none
 | n+1,F,H,I,J,N,O,P,C,M,z=>j6 cv cD cg co cr cG ce cu bR cd L F H I J N O P C M z D (λF H I J N O P C M z=>fe cv cD cg co cr cG ce cu bR cd L D E n F H I J N O P C M z) E
theorem vg(cv:fH)(cD:fV)(cg:fd)(co:fF)(cr:fE)(cG:gD)(ce:e9)(cu:fG)(bR:dK)(cd:e7)(L:Nat)(K:KT Y):∀ (n:Nat) (D:Int) (I:Ls) (J M:Int) (N H F:List V) (C:Ls) (E:List V) (z:Ls),dW (cz fx (fw cv cD cg co cr cG ce cu bR cd L) 0 L nM) kz n (iV D I J M N H F C E z) K=fe cv cD cg co cr cG ce cu bR cd L (λO F P=>K .ret (ni O F P)) (λD H F C E z=>K (.exit 0) (qw D H F C E z)) n D I J M N H F C E z:=by
 intro n; induction n <;> intros
 ·rfl
 ·exact (Fp ..).trans (by simp only [*]; rfl)
def q6(cv:fH)(cD:fV)(cg:fd)(co:fF)(cr:fE)(cG:gD)(ce:e9)(cu:fG)(bR:dK)(cd:e7)(L:Nat)(O P Q:List V)(z:List V->List V->Int->Ob Y):Ob Y:=vb cv cD cg co cr cG ce cu bR cd L O P Q z (λE J M N R I F D H C=>fe cv cD cg co cr cG ce cu bR cd L (λS F T=>m6 cv cD cg co cr cG ce cu bR cd L S F T z) (λE I F D H C=>jY cv cD cg co cr cG ce cu bR cd L E I F D H C z) L E J M N R I F D H C)
theorem Nx(cv:fH)(cD:fV)(cg:fd)(co:fF)(cr:fE)(cG:gD)(ce:e9)(cu:fG)(bR:dK)(cd:e7)(L:Nat)(z C D:List V)(k:KK Y):dx fx (fw cv cD cg co cr cG ce cu bR cd L) L cf_ref23_Connect [(V.agg z),(V.agg C),(V.agg D)] [] k=q6 cv cD cg co cr cG ce cu bR cd L z C D (λE F H=>k (V.ae [(V.agg E),(V.agg F),(QQe H)]) []):=by
 refine (NE cv cD cg co cr cG ce cu bR cd L z C D k).trans ?_
 unfold q6
 first
  | (simp only [vg,C1,Ej]; done)
  | (simp only [vg]; rfl)
abbrev Jj:=∀ (Y:Type),Nat->List V->List V->List V->(List V->List V->Int->Ob Y)->Ob Y
def l5:Jj:=λY=>@q6 Y cv cD cg co cr cG ce cu bR cd
def I6(l5:Jj)(L:Nat):Dk:=dA AG λE=>dA AG λF=>dA AG λH=>d0 λY k=>l5 Y L E F H (λz C D=>k (V.ae [(V.agg z),(V.agg C),(QQe D)]) [])
theorem Pt(L:Nat):DK (I6 l5 L) (λ_=>dx fx (fw cv cD cg co cr cG ce cu bR cd L) L cf_ref23_Connect):=dy fT λz=>dy fT λC=>dy fT λD=>fS λ_ k=>Nx cv cD cg co cr cG ce cu bR cd L z C D k
abbrev fL:=∀ (Y:Type),Nat->Ob Y->Ob Y
def cT:fL:=λY L k=>chk (30000<=L) k
def NN(cT:fL)(L:Nat):Dk:=d0 λY k=>cT Y L (k (.sc (.bool true)) [])
def Q0:CF:=cfD M2 7
def Jt:Nat->Sh:=f9 []
def JY(L:Nat):CBC:=noC
def LU(L:Nat)(C:Ls)(z:Ls->Int->Ob Y):Ob Y:=z C (0:Int)
theorem YW(L:Nat)(D:Ls)(k:KK Y):dx Jt (JY L) L Q0 [(V.sl 1 D)] [] k=LU L D (λz C=>k (V.bx false [(V.sl 1 z),(QQe C)]) []):=by kernel_rfl
abbrev gE:=∀ (Y:Type),Nat->Ls->(Ls->Int->Ob Y)->Ob Y
def dm:gE:=λY=>@LU Y
def Lj(dm:gE)(L:Nat):Dk:=dA (AL 1) λD=>d0 λY k=>dm Y L D (λz C=>k (V.bx false [(V.sl 1 z),(QQe C)]) [])
theorem Y2(L:Nat):DK (Lj dm L) (λ_=>dx Jt (JY L) L Q0):=dy ji λz=>fS λ_ k=>YW L z k
def F0:CF:=cfD CQ 51
def yz:Nat->Sh:=f9 []
def yw(L:Nat):CBC:=noC
def ug(L:Nat)(z:Ls)(C:Int)(D:Bool->Ls->Int->Ob Y):Ob Y:=D (decide (C<((WcK z:Nat):Int))) z C
theorem Nr(L:Nat)(z:Ls)(C:Int)(k:KK Y):dx yz (yw L) L F0 [(V.ptr 0 0)] [(.live false [(V.sl 1 z),(QQe C)])] k=ug L z C (λD z C=>k (V.sc (.bool D)) [(.live false [(V.sl 1 z),(QQe C)])]):=by kernel_rfl
abbrev qe:=∀ (Y:Type),Nat->Ls->Int->(Bool->Ls->Int->Ob Y)->Ob Y
def fW:qe:=λY=>@ug Y
def uh(fW:qe)(L:Nat)(Y:Type)(args:List V)(bor:Bor)(k:KK Y):Ob Y:=match args,bor with
 | [a0],[(.live false [w0_0,w0_1])]=>aP 0 0 a0 (aL 1 w0_0 λz=>aI .i64 w0_1 λC=>fW Y L z C (λD z C=>k (V.sc (.bool D)) [(.live false [(V.sl 1 z),(QQe C)])]))
 | _,_=>none
theorem Nf(L:Nat)(Y:Type)(args:List V)(bor:Bor)(k:KK Y)(r:Y)(h:uh fW L Y args bor k=some r):dx yz (yw L) L F0 args bor k=some r:=by
 unfold uh at h
 split at h
 ·have q:=K5 h; clear h; obtain ⟨rfl,h⟩:=q
  have q:=H5 h; clear h; obtain ⟨z,rfl,h⟩:=q
  have q:=rc h; clear h; obtain ⟨C,rfl,h⟩:=q
  exact (Nr L z C k).trans h
 ·cases h
def Q2:CF:=cfD MU 14
def Jp:Nat->Sh:=f9 []
def J1(L:Nat):CBC:=noC
def F8(L:Nat)(E C:Int)(z:Int->Ob Y):Ob Y:=chk (C≠0) (lt (Int.tmod E C) λD=>ifb (decide (D<(0:Int))) (lt (Wbf .i64 ((D:Int)+C)) λF=>z F) (z D))
theorem Y6(L:Nat)(z C:Int)(k:KK Y):dx Jp (J1 L) L Q2 [(QQe z),(QQe C)] [] k=F8 L z C (λz=>k (QQe z) []):=by kernel_rfl
abbrev eB:=∀ (Y:Type),Nat->Int->Int->(Int->Ob Y)->Ob Y
def ca:eB:=λY=>@F8 Y
def AC(ca:eB)(L:Nat):Dk:=dA (AI .i64) λz=>dA (AI .i64) λC=>d0 λY k=>ca Y L z C (λz=>k (QQe z) [])
theorem YX(L:Nat):DK (AC ca L) (λ_=>dx Jp (J1 L) L Q2):=dy gX λz=>dy gX λC=>fS λ_ k=>Y6 L z C k
def FY:CF:=cfD CR 25
def yx:Nat->Sh:=f9 [(25,(.int .i64))]
def xQ(fW:qe)(ca:eB)(L:Nat):CBC:=(eL 217 (AC ca L) (eL 247 (uh fW L) noC))
def tG(fW:qe)(ca:eB)(L:Nat)(I:Int)(C:Ls)(D:Int)(z:Int->Ls->Int->Ob Y):Ob Y:=fW Y L C D (λJ E F=>ifb (!J) (z (0:Int) E F) (lt (Wbf .i64 ((F:Int)+(1:Int))) λH=>lt (Wbf .i64 ((H:Int)-(1:Int))) λM=>idx E M λN=>cI .i64 N 0 λO=>ca Y L O I (λP=>z P E H)))
theorem Nh(fW:qe)(ca:eB)(L:Nat)(D:Int)(z:Ls)(C:Int)(k:KK Y):dx yx (xQ fW ca L) L FY [(V.ptr 0 0),(QQe D)] [(.live false [(V.sl 1 z),(QQe C)])] k=tG fW ca L D z C (λE z C=>k (QQe E) [(.live false [(V.sl 1 z),(QQe C)])]):=by kernel_rfl
abbrev dY:=∀ (Y:Type),Nat->Int->Ls->Int->(Int->Ls->Int->Ob Y)->Ob Y
def bW:dY:=λY=>@tG Y fW ca
def oi(bW:dY)(L:Nat)(Y:Type)(args:List V)(bor:Bor)(k:KK Y):Ob Y:=match args,bor with
 | [a0,a1],[(.live false [w0_0,w0_1])]=>aP 0 0 a0 (aI .i64 a1 λD=>aL 1 w0_0 λz=>aI .i64 w0_1 λC=>bW Y L D z C (λE z C=>k (QQe E) [(.live false [(V.sl 1 z),(QQe C)])]))
 | _,_=>none
theorem Nk(L:Nat)(Y:Type)(args:List V)(bor:Bor)(k:KK Y)(r:Y)(h:oi bW L Y args bor k=some r):dx yx (xQ fW ca L) L FY args bor k=some r:=by
 unfold oi at h
 split at h
 ·have q:=K5 h; clear h; obtain ⟨rfl,h⟩:=q
  have q:=rc h; clear h; obtain ⟨D,rfl,h⟩:=q
  have q:=H5 h; clear h; obtain ⟨z,rfl,h⟩:=q
  have q:=rc h; clear h; obtain ⟨C,rfl,h⟩:=q
  exact (Nh fW ca L D z C k).trans h
 ·cases h
def cf_mill_Deck_Seeds:CF:=cfD Bp 28
def qD:CC:=eT [1,1,0,1,0,0] cf_mill_Deck_Seeds.body
def Ch:CC:=eT [1,1,1] cf_mill_Deck_Seeds.body
def jD:Nat->Sh:=f9 []
def jB(bW:dY)(L:Nat):CBC:=(eL 231 (oi bW L) noC)
def rE:St->St:=f4 1 (bl 97 22) (bl 2490367 22)
def mY(D:Ls)(E:Int)(z:Ls)(C:Int):St:=⟨((V.ptr 0 0)::(jn 4 ((V.gs 1 D)::((QQe E)::(jn 15 []))))),((.live false [(V.sl 1 z),(QQe C)])::(gn 22 []))⟩
def s9(D z:Ls)(C:Int):St:=⟨(jn 5 ((V.gs 1 D)::(jn 16 []))),((.live false [(V.sl 1 z),(QQe C)])::(gn 22 []))⟩
def ya(bW:dY)(L:Nat)(E:Int)(C:Ls)(D:Int)(z:Ls->Int->Ls->Int->Ob Y):Ob Y:=lt (Wbf .i64 ((E:Int)+(1:Int))) λF=>bW Y L F C D (λH I J=>z ([]:Ls) H I J)
theorem Mc(bW:dY)(L:Nat)(D:Int)(z:Ls)(C:Int)(k:KK Y):dx jD (jB bW L) L cf_mill_Deck_Seeds [(V.ptr 0 0),(QQe D)] [(.live false [(V.sl 1 z),(QQe C)])] k=ya bW L D z C (λE F z C=>dW (cz jD (jB bW L) 1 L qD) rE L (mY E F z C) (dk 0 (dN (cz jD (jB bW L) 1 L Ch) (dX 1 (CF.res cf_mill_Deck_Seeds) k)))):=by kernel_rfl
def oE(bW:dY)(L:Nat)(E:Ls)(I:Int)(C:Ls)(D:Int)(z:Ls->Int->Ls->Int->Ob Y)(F:Ls->Ls->Int->Ob Y):Ob Y:=ifb (decide (I>(0:Int))) (bW Y L (256:Int) C D (λJ M N=>lt (Wbf .u8 J) λH=>chk ((WcK E+WcK (bY 1 1 [(QQa H)]))*1<=cN/\WcK E+WcK (bY 1 1 [(QQa H)])<=cN) (lt (E++(bY 1 1 [(QQa H)])) λO=>lt (Wbf .i64 ((I:Int)-(1:Int))) λP=>z O P M N))) (F E C D)
theorem Gb(bW:dY)(L:Nat)(D:Ls)(E:Int)(z:Ls)(C:Int)(X:St->Ob Y)(K:KT Y):cz jD (jB bW L) 1 L qD (mY D E z C) (fR rE X K)=oE bW L D E z C (λD E z C=>X (mY D E z C)) (λD z C=>K (.exit 0) (s9 D z C)):=by kernel_rfl
def vL(bW:dY)(L:Nat)(E C:Ls)(D:Int)(z:Ls->Ls->Int->Ob Y):Ob Y:=z E C D
theorem EQ(bW:dY)(L:Nat)(D z:Ls)(C:Int)(k:KK Y):(dk 0 (dN (cz jD (jB bW L) 1 L Ch) (dX 1 (CF.res cf_mill_Deck_Seeds) k))) (.exit 0) (s9 D z C)=vL bW L D z C (λE z C=>k (V.gs 1 E) [(.live false [(V.sl 1 z),(QQe C)])]):=by kernel_rfl
def kD(bW:dY)(L:Nat)(D:Ls->Ls->Int->Ob Y):Nat->Ls->Int->Ls->Int->Ob Y
 | 0,_,_,_,_=>none
 | n+1,E,F,z,C=>oE bW L E F z C (λE F z C=>kD bW L D n E F z C) D
theorem vi(bW:dY)(L:Nat)(K:KT Y):∀ (n:Nat) (D:Ls) (E:Int) (z:Ls) (C:Int),dW (cz jD (jB bW L) 1 L qD) rE n (mY D E z C) K=kD bW L (λD z C=>K (.exit 0) (s9 D z C)) n D E z C:=by
 intro n; induction n <;> intros
 ·rfl
 ·exact (Gb ..).trans (by simp only [*]; rfl)
def sn(bW:dY)(L:Nat)(F:Int)(z:Ls)(C:Int)(D:Ls->Ls->Int->Ob Y):Ob Y:=ya bW L F z C (λE H z C=>kD bW L (λE z C=>vL bW L E z C D) L E H z C)
theorem MB(bW:dY)(L:Nat)(D:Int)(z:Ls)(C:Int)(k:KK Y):dx jD (jB bW L) L cf_mill_Deck_Seeds [(V.ptr 0 0),(QQe D)] [(.live false [(V.sl 1 z),(QQe C)])] k=sn bW L D z C (λE z C=>k (V.gs 1 E) [(.live false [(V.sl 1 z),(QQe C)])]):=by
 refine (Mc bW L D z C k).trans ?_
 unfold sn
 first
  | (simp only [vi,EQ]; done)
  | (simp only [vi]; rfl)
abbrev pe:=∀ (Y:Type),Nat->Int->Ls->Int->(Ls->Ls->Int->Ob Y)->Ob Y
def fM:pe:=λY=>@sn Y bW
def sA(fM:pe)(L:Nat)(Y:Type)(args:List V)(bor:Bor)(k:KK Y):Ob Y:=match args,bor with
 | [a0,a1],[(.live false [w0_0,w0_1])]=>aP 0 0 a0 (aI .i64 a1 λD=>aL 1 w0_0 λz=>aI .i64 w0_1 λC=>fM Y L D z C (λE z C=>k (V.gs 1 E) [(.live false [(V.sl 1 z),(QQe C)])]))
 | _,_=>none
theorem Ma(L:Nat)(Y:Type)(args:List V)(bor:Bor)(k:KK Y)(r:Y)(h:sA fM L Y args bor k=some r):dx jD (jB bW L) L cf_mill_Deck_Seeds args bor k=some r:=by
 unfold sA at h
 split at h
 ·have q:=K5 h; clear h; obtain ⟨rfl,h⟩:=q
  have q:=rc h; clear h; obtain ⟨D,rfl,h⟩:=q
  have q:=H5 h; clear h; obtain ⟨z,rfl,h⟩:=q
  have q:=rc h; clear h; obtain ⟨C,rfl,h⟩:=q
  exact (MB bW L D z C k).trans h
 ·cases h
abbrev wt:=∀ (Y:Type),Nat->Int->Ls->(List V->Ob Y)->Ob Y
def iP:wt:=λY L z C kf=>opD (dl rows) 400 422 L Y [(QQa z),(V.sl 1 C)] [] λv _=>AG Y v λp=>kf p
def G0(iP:wt)(L:Nat):Dk:=dA (AI .u8) λz=>dA (AL 1) λC=>d0 λY k=>iP Y L z C (λD=>k (V.agg D) [])
theorem VX(L:Nat):DK (G0 iP L) (opD (dl rows) 400 422 L):=dy gX λz=>dy ji λC=>D4 fT [(QQa z),(V.sl 1 C)] λ_ _ _=>rfl
def MQ:CF:=cfD IW 9
def Fn:Nat->Sh:=f9 []
def Fx(bW:dY)(fM:pe)(iP:wt)(L:Nat):CBC:=(eL 422 (G0 iP L) (eL 423 (sA fM L) (eL 231 (oi bW L) noC)))
def G6(bW:dY)(fM:pe)(iP:wt)(L:Nat)(H:Int)(C:Ls)(D:Int)(z:List V->Ls->Int->Ob Y):Ob Y:=bW Y L (256:Int) C D (λI J M=>lt (Wbf .u8 I) λN=>fM Y L H J M (λO P Q=>iP Y L N O (λE=>chk ((WcK E)=84/\0+84<=84) (lt (cq ([(QQc (0:Int))]++Wad 64 (QQa (0:Int))++[(QQc (0:Int)),(QQc (0:Int)),(QQc (0:Int)),(QQd (0:Int)),(QQd (0:Int)),(QQd (0:Int)),(QQd (0:Int)),(QQe (0:Int)),(QQc (0:Int)),(QQc (0:Int)),(QQc (0:Int)),(V.gs 33 ([]:Ls)),(QQe (0:Int)),(QQe (0:Int)),(QQe (0:Int)),(V.gs 69 ([]:Ls)),(V.gs 34 ([]:Ls)),(V.gs 36 ([]:Ls)),(V.gs 1 ([]:Ls))]) 0 E) λF=>chk (0=0/\(WcK F)=84/\84≠0) (z F P Q)))))
theorem V4(bW:dY)(fM:pe)(iP:wt)(L:Nat)(D:Int)(z:Ls)(C:Int)(k:KK Y):dx Fn (Fx bW fM iP L) L MQ [(V.ptr 0 0),(QQe D)] [(.live false [(V.sl 1 z),(QQe C)])] k=G6 bW fM iP L D z C (λE z C=>k (V.agg E) [(.live false [(V.sl 1 z),(QQe C)])]):=by kernel_rfl
abbrev fK:=∀ (Y:Type),Nat->Int->Ls->Int->(List V->Ls->Int->Ob Y)->Ob Y
def cP:fK:=λY=>@G6 Y bW fM iP
def A1(cP:fK)(L:Nat)(Y:Type)(args:List V)(bor:Bor)(k:KK Y):Ob Y:=match args,bor with
 | [a0,a1],[(.live false [w0_0,w0_1])]=>aP 0 0 a0 (aI .i64 a1 λD=>aL 1 w0_0 λz=>aI .i64 w0_1 λC=>cP Y L D z C (λE z C=>k (V.agg E) [(.live false [(V.sl 1 z),(QQe C)])]))
 | _,_=>none
theorem UE(L:Nat)(Y:Type)(args:List V)(bor:Bor)(k:KK Y)(r:Y)(h:A1 cP L Y args bor k=some r):dx Fn (Fx bW fM iP L) L MQ args bor k=some r:=by
 unfold A1 at h
 split at h
 ·have q:=K5 h; clear h; obtain ⟨rfl,h⟩:=q
  have q:=rc h; clear h; obtain ⟨D,rfl,h⟩:=q
  have q:=H5 h; clear h; obtain ⟨z,rfl,h⟩:=q
  have q:=rc h; clear h; obtain ⟨C,rfl,h⟩:=q
  exact (V4 bW fM iP L D z C k).trans h
 ·cases h
def K8:CF:=cfD H6 13
def Df:Nat->Sh:=f9 []
def C8(L:Nat):CBC:=noC
def FM(L:Nat)(C:Int)(z:Ls->Ob Y):Ob Y:=lt (Int.tmod C (6:Int)) λD=>lt (Wbf .u8 (((1:Int):Int)+D)) λE=>z (bY 1 4 [(QQa (1:Int)),(QQa (1:Int)),(QQa E),(QQa (5:Int))])
theorem RY(L:Nat)(z:Int)(k:KK Y):dx Df (C8 L) L K8 [(QQa z)] [] k=FM L z (λz=>k (V.gs 1 z) []):=by kernel_rfl
abbrev jz:=∀ (Y:Type),Nat->Int->(Ls->Ob Y)->Ob Y
def dH:jz:=λY=>@FM Y
def Fy(dH:jz)(L:Nat):Dk:=dA (AI .u8) λz=>d0 λY k=>dH Y L z (λz=>k (V.gs 1 z) [])
theorem RA(L:Nat):DK (Fy dH L) (λ_=>dx Df (C8 L) L K8):=dy gX λz=>fS λ_ k=>RY L z k
def cf_ref09_Compare:CF:=cfD EP 91
def tx:CC:=eT [1,0,1,0,0] cf_ref09_Compare.body
def xR:CC:=eT [1,1] cf_ref09_Compare.body
def jG:Nat->Sh:=f9 [(12,(.int .u8)),(16,(.int .u8)),(21,(.int .u8)),(25,(.int .u8)),(30,(.int .u32)),(32,(.int .u32)),(36,(.int .u32)),(38,(.int .u32))]
def jJ(L:Nat):CBC:=noC
def uT:St->St:=f4 0 (bl 76 40) (bl 1099511627727 40)
def ot(z:Int)(C D:List V):St:=⟨(jn 2 ((V.ptr 2 0)::((V.ptr 3 0)::(jn 2 ((QQe z)::(jn 33 [])))))),(gn 2 ((.live true C)::((.live true D)::(gn 36 []))))⟩
def tC(z:Int):St:=⟨(jn 4 ((QQe z)::(jn 35 []))),(gn 40 [])⟩
def uY(z C:List V):St:=⟨(jn 2 ((V.ptr 2 0)::((V.ptr 3 0)::(jn 36 [])))),(gn 2 ((.live true z)::((.live true C)::(gn 36 []))))⟩
def BO(L:Nat)(C D:List V)(z:Int->List V->List V->Ob Y):Ob Y:=z (0:Int) C D
theorem NR(L:Nat)(z C:List V)(k:KK Y):dx jG (jJ L) L cf_ref09_Compare [(V.agg z),(V.agg C)] [] k=BO L z C (λD E F=>dW (cz jG (jJ L) 0 L tx) uT L (ot D E F) (dk 0 (dN (cz jG (jJ L) 0 L xR) (dX 0 (CF.res cf_ref09_Compare) k)))):=by kernel_rfl
def qB(L:Nat)(z:Int)(E F:List V)(C:Int->Ob Y)(D:Int->List V->List V->Ob Y)(H:List V->List V->Ob Y):Ob Y:=ifb (decide (z<(32:Int))) (chk (0<=z/\z<((32:Nat):Int)) (cI .u8 E (0+((WcM z)*1)) λI=>chk (0<=z/\z<((32:Nat):Int)) (cI .u8 F (0+((WcM z)*1)) λJ=>ifb (decide (I<J)) (C (-1:Int)) (chk (0<=z/\z<((32:Nat):Int)) (cI .u8 E (0+((WcM z)*1)) λM=>chk (0<=z/\z<((32:Nat):Int)) (cI .u8 F (0+((WcM z)*1)) λN=>ifb (decide (M>N)) (C (1:Int)) (lt (Wbf .i64 ((z:Int)+(1:Int))) λO=>D O E F))))))) (H E F)
theorem J6(L:Nat)(D:Int)(z C:List V)(X:St->Ob Y)(K:KT Y):cz jG (jJ L) 0 L tx (ot D z C) (fR uT X K)=qB L D z C (λE=>K .ret (tC E)) (λD z C=>X (ot D z C)) (λz C=>K (.exit 0) (uY z C)):=by kernel_rfl
def yM(L:Nat)(C:Int)(z:Int->Ob Y):Ob Y:=z C
theorem F4(L:Nat)(z:Int)(k:KK Y):(dk 0 (dN (cz jG (jJ L) 0 L xR) (dX 0 (CF.res cf_ref09_Compare) k))) .ret (tC z)=yM L z (λC=>k (QQe C) []):=by kernel_rfl
def sQ(L:Nat)(C D:List V)(z:Int->Ob Y):Ob Y:=cI .u32 C 32 λE=>cI .u32 D 32 λF=>ifb (decide (E<F)) (z (-1:Int)) (cI .u32 C 32 λH=>cI .u32 D 32 λI=>ifb (decide (H>I)) (z (1:Int)) (z (0:Int)))
theorem HQ(L:Nat)(z C:List V)(k:KK Y):(dk 0 (dN (cz jG (jJ L) 0 L xR) (dX 0 (CF.res cf_ref09_Compare) k))) (.exit 0) (uY z C)=sQ L z C (λD=>k (QQe D) []):=by kernel_rfl
def mn(L:Nat)(z:Int->Ob Y)(C:List V->List V->Ob Y):Nat->Int->List V->List V->Ob Y
 | 0,_,_,_=>none
 | n+1,D,E,F=>qB L D E F z (λD E F=>mn L z C n D E F) C
theorem yQ(L:Nat)(K:KT Y):∀ (n:Nat) (D:Int) (z C:List V),dW (cz jG (jJ L) 0 L tx) uT n (ot D z C) K=mn L (λE=>K .ret (tC E)) (λz C=>K (.exit 0) (uY z C)) n D z C:=by
 intro n; induction n <;> intros
 ·rfl
 ·exact (J6 ..).trans (by simp only [*]; rfl)
def vh(L:Nat)(E F:List V)(z:Int->Ob Y):Ob Y:=BO L E F (λH C D=>mn L (λI=>yM L I z) (λC D=>sQ L C D z) L H C D)
theorem O6(L:Nat)(z C:List V)(k:KK Y):dx jG (jJ L) L cf_ref09_Compare [(V.agg z),(V.agg C)] [] k=vh L z C (λz=>k (QQe z) []):=by
 refine (NR L z C k).trans ?_
 unfold vh
 first
  | (simp only [yQ,F4,HQ]; done)
  | (simp only [yQ]; rfl)
abbrev rf:=∀ (Y:Type),Nat->List V->List V->(Int->Ob Y)->Ob Y
def gm:rf:=λY=>@vh Y
def BH(gm:rf)(L:Nat):Dk:=dA AG λz=>dA AG λC=>d0 λY k=>gm Y L z C (λz=>k (QQe z) [])
theorem O1(L:Nat):DK (BH gm L) (λ_=>dx jG (jJ L) L cf_ref09_Compare):=dy fT λz=>dy fT λC=>fS λ_ k=>O6 L z C k
def Jh:CF:=cfD FT 59
def Bb:Nat->Sh:=f9 [(21,(.int .i64)),(24,(.int .i64))]
def BI(gm:rf)(L:Nat):CBC:=(eL 136 (BH gm L) noC)
def C6(gm:rf)(L:Nat)(C D:List V)(z:Bool->Ob Y):Ob Y:=chk (0+33<=(WcK C)) (chk (0+33<=(WcK D)) (gm Y L (WcL 33 C) (WcL 33 D) (λE=>ifb (decide (E<(0:Int))) (z true) (ifb ((E:Int)==(0:Int)) (cI .i64 C 35 λF=>cI .i64 D 35 λH=>z (decide (F<H))) (z false)))))
theorem Qv(gm:rf)(L:Nat)(z C:List V)(k:KK Y):dx Bb (BI gm L) L Jh [(V.agg z),(V.agg C)] [] k=C6 gm L z C (λz=>k (V.sc (.bool z)) []):=by kernel_rfl
abbrev dP:=∀ (Y:Type),Nat->List V->List V->(Bool->Ob Y)->Ob Y
def bV:dP:=λY=>@C6 Y gm
def w8(bV:dP)(L:Nat):Dk:=dA AG λz=>dA AG λC=>d0 λY k=>bV Y L z C (λz=>k (V.sc (.bool z)) [])
theorem P5(L:Nat):DK (w8 bV L) (λ_=>dx Bb (BI gm L) L Jh):=dy fT λz=>dy fT λC=>fS λ_ k=>Qv gm L z C k
def cf_ref29_Right:CF:=cfD Hw 32
def wI:CC:=eT [1,0,1,0,0] cf_ref29_Right.body
def Bk:CC:=eT [1,1] cf_ref29_Right.body
def km:Nat->Sh:=f9 [(35,(.int .i64)),(39,(.int .i64)),(42,(.int .i64))]
def kl(bV:dP)(L:Nat):CBC:=(eL 800 (w8 bV L) noC)
def xM:St->St:=f4 0 (bl 9 47) (bl 140737479966411 47)
def pn(z:Ls)(C:Int):St:=⟨((V.sl 38 z)::(jn 2 ((QQe C)::(jn 43 [])))),(gn 47 [])⟩
def vX(z:Bool):St:=⟨(jn 2 ((V.sc (.bool z))::(jn 44 []))),(gn 47 [])⟩
def xW:St:=⟨(jn 47 []),(gn 47 [])⟩
def Fu(bV:dP)(L:Nat)(C:Ls)(z:Ls->Int->Ob Y):Ob Y:=z C (1:Int)
theorem Rv(bV:dP)(L:Nat)(z:Ls)(k:KK Y):dx km (kl bV L) L cf_ref29_Right [(V.sl 38 z)] [] k=Fu bV L z (λz C=>dW (cz km (kl bV L) 0 L wI) xM L (pn z C) (dk 0 (dN (cz km (kl bV L) 0 L Bk) (dX 0 (CF.res cf_ref29_Right) k)))):=by kernel_rfl
def so(bV:dP)(L:Nat)(E:Ls)(F:Int)(C:Bool->Ob Y)(z:Ls->Int->Ob Y)(I:Ob Y):Ob Y:=ifb (decide (F<((WcK E:Nat):Int))) (lt (Wbf .i64 ((F:Int)-(1:Int))) λP=>idx E P λJ=>idx E F λM=>chk ((WcK (WcL 38 J))=38/\0+38<=38) (lt (cq (Wad 32 (QQa (0:Int))++[(QQc (0:Int)),(QQe (0:Int)),(V.gs 1 ([]:Ls)),(QQe (0:Int)),(V.sc (.bool false)),(QQe (0:Int))]) 0 (WcL 38 J)) λD=>chk ((WcK (WcL 38 M))=38/\0+38<=38) (lt (cq (Wad 32 (QQa (0:Int))++[(QQc (0:Int)),(QQe (0:Int)),(V.gs 1 ([]:Ls)),(QQe (0:Int)),(V.sc (.bool false)),(QQe (0:Int))]) 0 (WcL 38 M)) λH=>chk (0+38<=(WcK D)) (chk (0+38<=(WcK H)) (bV Y L (WbO V.ag (WcL 38 D)) (WbO V.ag (WcL 38 H)) (λQ=>ifb (!Q) (C false) (chk (0+33<=(WcK D)) (chk (0+33<=(WcK H)) (eqC 33 (WcL 33 D) (WcL 33 H) λR=>ifb R (cI .i64 D 37 λS=>ifb ((S:Int)==(0:Int)) (C false) (cI .i64 D 37 λT=>cI .i64 H 35 λU=>ifb (decide (T>U)) (C false) (lt (Wbf .i64 ((F:Int)+(1:Int))) λN=>z E N))) (lt (Wbf .i64 ((F:Int)+(1:Int))) λO=>z E O)))))))))) (I)
theorem Mp(bV:dP)(L:Nat)(z:Ls)(C:Int)(X:St->Ob Y)(K:KT Y):cz km (kl bV L) 0 L wI (pn z C) (fR xM X K)=so bV L z C (λD=>K .ret (vX D)) (λz C=>X (pn z C)) (K (.exit 0) (xW)):=by kernel_rfl
def BD(bV:dP)(L:Nat)(C:Bool)(z:Bool->Ob Y):Ob Y:=z C
theorem Ii(bV:dP)(L:Nat)(z:Bool)(k:KK Y):(dk 0 (dN (cz km (kl bV L) 0 L Bk) (dX 0 (CF.res cf_ref29_Right) k))) .ret (vX z)=BD bV L z (λC=>k (V.sc (.bool C)) []):=by kernel_rfl
def CY(bV:dP)(L:Nat)(z:Bool->Ob Y):Ob Y:=z true
theorem JH(bV:dP)(L:Nat)(k:KK Y):(dk 0 (dN (cz km (kl bV L) 0 L Bk) (dX 0 (CF.res cf_ref29_Right) k))) (.exit 0) (xW)=CY bV L (λz=>k (V.sc (.bool z)) []):=by kernel_rfl
def nI(bV:dP)(L:Nat)(z:Bool->Ob Y)(C:Ob Y):Nat->Ls->Int->Ob Y
 | 0,_,_=>none
 | n+1,D,E=>so bV L D E z (λD E=>nI bV L z C n D E) C
theorem BG(bV:dP)(L:Nat)(K:KT Y):∀ (n:Nat) (z:Ls) (C:Int),dW (cz km (kl bV L) 0 L wI) xM n (pn z C) K=nI bV L (λD=>K .ret (vX D)) (K (.exit 0) (xW)) n z C:=by
 intro n; induction n <;> intros
 ·rfl
 ·exact (Mp ..).trans (by simp only [*]; rfl)
def y4(bV:dP)(L:Nat)(C:Ls)(z:Bool->Ob Y):Ob Y:=Fu bV L C (λC D=>nI bV L (λE=>BD bV L E z) (CY bV L z) L C D)
theorem RM(bV:dP)(L:Nat)(z:Ls)(k:KK Y):dx km (kl bV L) L cf_ref29_Right [(V.sl 38 z)] [] k=y4 bV L z (λz=>k (V.sc (.bool z)) []):=by
 refine (Rv bV L z k).trans ?_
 unfold y4
 first
  | (simp only [BG,Ii,JH]; done)
  | (simp only [BG]; rfl)
abbrev fu:=∀ (Y:Type),Nat->Ls->(Bool->Ob Y)->Ob Y
def cE:fu:=λY=>@y4 Y bV
def E8(cE:fu)(L:Nat):Dk:=dA (AL 38) λz=>d0 λY k=>cE Y L z (λz=>k (V.sc (.bool z)) [])
theorem SR(L:Nat):DK (E8 cE L) (λ_=>dx km (kl bV L) L cf_ref29_Right):=dy ji λz=>fS λ_ k=>RM bV L z k
def Ri:CF:=cfD M0 33
def JQ:Nat->Sh:=f9 []
def JP(L:Nat):CBC:=noC
def Mx(L:Nat)(C D E:Int)(z:Bool->Ob Y):Ob Y:=ifb (decide (C>=D)) (z (decide (C<=E))) (z false)
theorem YY(L:Nat)(z C D:Int)(k:KK Y):dx JQ (JP L) L Ri [(QQe z),(QQe C),(QQe D)] [] k=Mx L z C D (λz=>k (V.sc (.bool z)) []):=by kernel_rfl
abbrev eO:=∀ (Y:Type),Nat->Int->Int->Int->(Bool->Ob Y)->Ob Y
def cm:eO:=λY=>@Mx Y
def BC(cm:eO)(L:Nat):Dk:=dA (AI .i64) λz=>dA (AI .i64) λC=>dA (AI .i64) λD=>d0 λY k=>cm Y L z C D (λz=>k (V.sc (.bool z)) [])
theorem Y0(L:Nat):DK (BC cm L) (λ_=>dx JQ (JP L) L Ri):=dy gX λz=>dy gX λC=>dy gX λD=>fS λ_ k=>YY L z C D k
def cf_ref30_find:CF:=cfD I1 34
def xK:CC:=eT [1,0,1,0,0] cf_ref30_find.body
def Dw:CC:=eT [1,1] cf_ref30_find.body
def lC:Nat->Sh:=f9 [(8,(.sl 3)),(14,(.sl 3)),(18,(.sl 1))]
def lE(L:Nat):CBC:=noC
def zl:St->St:=f4 0 (bl 38 24) (bl 16776687 24)
def qz(z:Ls)(C:Int)(D:List V):St:=⟨(jn 1 ((V.sl 1 z)::((V.ptr 2 0)::(jn 2 ((QQe C)::(jn 18 [])))))),(gn 2 ((.live true D)::(gn 21 [])))⟩
def xG(z:Int):St:=⟨(jn 4 ((QQe z)::(jn 19 []))),(gn 24 [])⟩
def zi:St:=⟨(jn 24 []),(gn 24 [])⟩
def Hz(L:Nat)(C:List V)(D:Ls)(z:Ls->Int->List V->Ob Y):Ob Y:=z D (0:Int) C
theorem Vc(L:Nat)(C:List V)(z:Ls)(k:KK Y):dx lC (lE L) L cf_ref30_find [(V.agg C),(V.sl 1 z)] [] k=Hz L C z (λz D E=>dW (cz lC (lE L) 0 L xK) zl L (qz z D E) (dk 0 (dN (cz lC (lE L) 0 L Dw) (dX 0 (CF.res cf_ref30_find) k)))):=by kernel_rfl
def zS(L:Nat)(H:Ls)(C:Int)(E:List V)(D:Int->Ob Y)(z:Ls->Int->List V->Ob Y)(F:Ob Y):Ob Y:=cLd 3 E 0 λI=>ifb (decide (C<((WcK I:Nat):Int))) (cLd 3 E 0 λJ=>idx J C λM=>cL 1 M 0 λN=>yp N λO=>yp H λP=>ifb (ByteArray.toList O==ByteArray.toList P) (D C) (lt (Wbf .i64 ((C:Int)+(1:Int))) λQ=>z H Q E)) (F)
theorem Nn(L:Nat)(z:Ls)(C:Int)(D:List V)(X:St->Ob Y)(K:KT Y):cz lC (lE L) 0 L xK (qz z C D) (fR zl X K)=zS L z C D (λE=>K .ret (xG E)) (λz C D=>X (qz z C D)) (K (.exit 0) (zi)):=by kernel_rfl
def CO(L:Nat)(C:Int)(z:Int->Ob Y):Ob Y:=z C
theorem JE(L:Nat)(z:Int)(k:KK Y):(dk 0 (dN (cz lC (lE L) 0 L Dw) (dX 0 (CF.res cf_ref30_find) k))) .ret (xG z)=CO L z (λC=>k (QQe C) []):=by kernel_rfl
def EB(L:Nat)(z:Int->Ob Y):Ob Y:=z (-1:Int)
theorem Lf(L:Nat)(k:KK Y):(dk 0 (dN (cz lC (lE L) 0 L Dw) (dX 0 (CF.res cf_ref30_find) k))) (.exit 0) (zi)=EB L (λz=>k (QQe z) []):=by kernel_rfl
def pY(L:Nat)(z:Int->Ob Y)(C:Ob Y):Nat->Ls->Int->List V->Ob Y
 | 0,_,_,_=>none
 | n+1,D,E,F=>zS L D E F z (λD E F=>pY L z C n D E F) C
theorem CE(L:Nat)(K:KT Y):∀ (n:Nat) (z:Ls) (C:Int) (D:List V),dW (cz lC (lE L) 0 L xK) zl n (qz z C D) K=pY L (λE=>K .ret (xG E)) (K (.exit 0) (zi)) n z C D:=by
 intro n; induction n <;> intros
 ·rfl
 ·exact (Nn ..).trans (by simp only [*]; rfl)
def Cs(L:Nat)(D:List V)(C:Ls)(z:Int->Ob Y):Ob Y:=Hz L D C (λC E F=>pY L (λH=>CO L H z) (EB L z) L C E F)
theorem VM(L:Nat)(z:List V)(C:Ls)(k:KK Y):dx lC (lE L) L cf_ref30_find [(V.agg z),(V.sl 1 C)] [] k=Cs L z C (λz=>k (QQe z) []):=by
 refine (Vc L z C k).trans ?_
 unfold Cs
 first
  | (simp only [CE,JE,Lf]; done)
  | (simp only [CE]; rfl)
abbrev fk:=∀ (Y:Type),Nat->List V->Ls->(Int->Ob Y)->Ob Y
def cA:fk:=λY=>@Cs Y
def Bd(cA:fk)(L:Nat):Dk:=dA AG λz=>dA (AL 1) λC=>d0 λY k=>cA Y L z C (λz=>k (QQe z) [])
theorem Vz(L:Nat):DK (Bd cA L) (λ_=>dx lC (lE L) L cf_ref30_find):=dy fT λz=>dy ji λC=>fS λ_ k=>VM L z C k
def Rg:CF:=cfD MY 60
def JG:Nat->Sh:=f9 []
def J0(L:Nat):CBC:=noC
def LC(L:Nat)(C D E:Int)(z:Bool->Ob Y):Ob Y:=ifb (decide (C>=D)) (z (decide (C<=E))) (z false)
theorem Zb(L:Nat)(z C D:Int)(k:KK Y):dx JG (J0 L) L Rg [(QQe z),(QQe C),(QQe D)] [] k=LC L z C D (λz=>k (V.sc (.bool z)) []):=by kernel_rfl
abbrev Bl:=∀ (Y:Type),Nat->Int->Int->Int->(Bool->Ob Y)->Ob Y
def jg:Bl:=λY=>@LC Y
def LY(jg:Bl)(L:Nat):Dk:=dA (AI .i64) λz=>dA (AI .i64) λC=>dA (AI .i64) λD=>d0 λY k=>jg Y L z C D (λz=>k (V.sc (.bool z)) [])
theorem Za(L:Nat):DK (LY jg L) (λ_=>dx JG (J0 L) L Rg):=dy gX λz=>dy gX λC=>dy gX λD=>fS λ_ k=>Zb L z C D k
def IG:CF:=cfD FX 35
def Bn:Nat->Sh:=f9 [(10,(.int .i64)),(15,(.int .i64)),(21,(.sl 1)),(27,(.int .i64)),(33,(.int .i64)),(37,(.int .i64)),(39,(.int .i64))]
def Bh(jg:Bl)(L:Nat):CBC:=(eL 791 (LY jg L) noC)
def DE(jg:Bl)(L:Nat)(C:List V)(E:Int)(z:Bool->Ob Y):Ob Y:=chk (0+37<=(WcK C)) (chk ((WcK (WcL 37 C))=37/\0+37<=37) (lt (cq (Wad 32 (QQa (0:Int))++[(QQc (0:Int)),(QQe (0:Int)),(V.gs 1 ([]:Ls)),(QQe (0:Int)),(V.sc (.bool false))]) 0 (WcL 37 C)) λD=>cI .i64 D 33 λF=>ifb (decide (F>=(0:Int))) (cI .i64 D 33 λH=>ifb (decide (H<=(2100000000000000:Int))) (cLd 1 D 34 λI=>ifb (decide (((WcK I:Nat):Int)<=(520:Int))) (cI .i64 D 35 λJ=>jg Y L J (1:Int) E (λM=>ifb M (cI .i64 C 37 λN=>ifb ((N:Int)==(0:Int)) (z true) (cI .i64 C 37 λO=>cI .i64 D 35 λP=>jg Y L O P E (λQ=>z Q))) (z false))) (z false)) (z false)) (z false)))
theorem QB(jg:Bl)(L:Nat)(z:List V)(C:Int)(k:KK Y):dx Bn (Bh jg L) L IG [(V.agg z),(QQe C)] [] k=DE jg L z C (λz=>k (V.sc (.bool z)) []):=by kernel_rfl
abbrev eV:=∀ (Y:Type),Nat->List V->Int->(Bool->Ob Y)->Ob Y
def cC:eV:=λY=>@DE Y jg
def Dy(cC:eV)(L:Nat):Dk:=dA AG λz=>dA (AI .i64) λC=>d0 λY k=>cC Y L z C (λz=>k (V.sc (.bool z)) [])
theorem Qc(L:Nat):DK (Dy cC L) (λ_=>dx Bn (Bh jg L) L IG):=dy fT λz=>dy gX λC=>fS λ_ k=>QB jg L z C k
def cf_ref30_Sound:CF:=cfD H3 12
def tS:CC:=eT [1,1,1,0,1,0,0] cf_ref30_Sound.body
def uQ:CC:=eT [1,1,0,1,0,0] cf_ref30_Sound.body
def xF:CC:=eT [1,1,1,1] cf_ref30_Sound.body
def uf:CC:=eT [1,1,1] cf_ref30_Sound.body
def gN:Nat->Sh:=f9 [(8,(.sl 3)),(13,(.sl 38)),(19,(.sl 38)),(25,(.sl 3)),(31,(.sl 3)),(36,(.sl 1)),(41,(.sl 1)),(47,(.int .i64)),(53,(.int .i64)),(55,(.int .i64)),(63,(.sl 1)),(70,(.sl 38)),(77,(.sl 38)),(83,(.sl 1)),(89,(.sl 38)),(94,(.int .i64)),(96,(.sl 3)),(100,(.int .i64)),(105,(.sl 38)),(110,(.sl 3)),(114,(.int .i64))]
def gO(cE:fu)(cm:eO)(cA:fk)(cC:eV)(L:Nat):CBC:=(eL 793 (Dy cC L) (eL 832 (Bd cA L) (eL 831 (BC cm L) (eL 792 (E8 cE L) noC))))
def vZ:St->St:=f4 0 (bl 10 118) (bl 332306998946228949634806492755394539 118)
def uO:St->St:=f4 0 (bl 34 118) (bl 290768624058605172900632292818419627 118)
def oU(z:Int)(C:List V):St:=⟨(jn 1 ((V.ptr 1 0)::(jn 1 ((QQe z)::(jn 114 []))))),(gn 1 ((.live true C)::(gn 116 [])))⟩
def mT(z:Bool):St:=⟨(jn 2 ((V.sc (.bool z))::(jn 115 []))),(gn 118 [])⟩
def sv(z:List V):St:=⟨(jn 1 ((V.ptr 1 0)::(jn 116 []))),(gn 1 ((.live true z)::(gn 116 [])))⟩
def oD(z:Int)(C:List V):St:=⟨(jn 1 ((V.ptr 1 0)::(jn 3 ((QQe z)::(jn 112 []))))),(gn 1 ((.live true C)::(gn 116 [])))⟩
def xy:St:=⟨(jn 118 []),(gn 118 [])⟩
def Fk(cE:fu)(cm:eO)(cA:fk)(cC:eV)(L:Nat)(D:List V)(z:Bool->Ob Y)(C:Int->List V->Ob Y):Ob Y:=cLd 3 D 0 λE=>ifb (decide (((WcK E:Nat):Int)>(1000:Int))) (z false) (cLd 38 D 1 λF=>ifb (decide (((WcK F:Nat):Int)>(4096:Int))) (z false) (cLd 38 D 1 λH=>cE Y L H (λI=>ifb (!I) (z false) (C (0:Int) D))))
theorem SF(cE:fu)(cm:eO)(cA:fk)(cC:eV)(L:Nat)(z:List V)(k:KK Y):dx gN (gO cE cm cA cC L) L cf_ref30_Sound [(V.agg z)] [] k=Fk cE cm cA cC L z (λz=>k (V.sc (.bool z)) []) (λC D=>dW (cz gN (gO cE cm cA cC L) 0 L uQ) vZ L (oU C D) (dk 0 (dN (cz gN (gO cE cm cA cC L) 0 L uf) (dX 0 (CF.res cf_ref30_Sound) k)))):=by kernel_rfl
def rj(cE:fu)(cm:eO)(cA:fk)(cC:eV)(L:Nat)(F:Int)(D:List V)(z:Bool->Ob Y)(C:Int->List V->Ob Y)(H:List V->Ob Y):Ob Y:=cLd 3 D 0 λU=>ifb (decide (F<((WcK U:Nat):Int))) (cLd 3 D 0 λd4=>idx d4 F λI=>chk ((WcK (WcL 3 I))=3/\0+3<=3) (lt (cq [(V.gs 1 ([]:Ls)),(QQe (0:Int)),(QQe (0:Int))] 0 (WcL 3 I)) λE=>cLd 1 E 0 λX=>ifb ((((WcK X:Nat):Int):Int)==(0:Int)) (z false) (cLd 1 E 0 λb9=>ifb (decide (((WcK b9:Nat):Int)>(520:Int))) (z false) (cI .i64 E 1 λJ=>cm Y L J (1:Int) (16777216:Int) (λM=>ifb (!M) (z false) (cI .i64 E 2 λN=>cI .i64 E 1 λO=>lt (Wbf .i64 ((O:Int)-(1:Int))) λP=>cm Y L N P (16777216:Int) (λQ=>ifb (!Q) (z false) (chk (0+2<=(WcK D)) (cLd 1 E 0 λR=>cA Y L (WbO V.ag (WcL 2 D)) R (λS=>ifb ((S:Int) != F) (z false) (lt (Wbf .i64 ((F:Int)+(1:Int))) λT=>C T D))))))))))) (H D)
theorem KH(cE:fu)(cm:eO)(cA:fk)(cC:eV)(L:Nat)(C:Int)(z:List V)(X:St->Ob Y)(K:KT Y):cz gN (gO cE cm cA cC L) 0 L uQ (oU C z) (fR vZ X K)=rj cE cm cA cC L C z (λD=>K .ret (mT D)) (λC z=>X (oU C z)) (λz=>K (.exit 0) (sv z)):=by kernel_rfl
def Aq(cE:fu)(cm:eO)(cA:fk)(cC:eV)(L:Nat)(C:Bool)(z:Bool->Ob Y):Ob Y:=z C
theorem Hj(cE:fu)(cm:eO)(cA:fk)(cC:eV)(L:Nat)(z:Bool)(k:KK Y):(dk 0 (dN (cz gN (gO cE cm cA cC L) 0 L uf) (dX 0 (CF.res cf_ref30_Sound) k))) .ret (mT z)=Aq cE cm cA cC L z (λC=>k (V.sc (.bool C)) []):=by kernel_rfl
def B6(cE:fu)(cm:eO)(cA:fk)(cC:eV)(L:Nat)(C:List V)(z:Int->List V->Ob Y):Ob Y:=z (0:Int) C
theorem Il(cE:fu)(cm:eO)(cA:fk)(cC:eV)(L:Nat)(z:List V)(k:KK Y):(dk 0 (dN (cz gN (gO cE cm cA cC L) 0 L uf) (dX 0 (CF.res cf_ref30_Sound) k))) (.exit 0) (sv z)=B6 cE cm cA cC L z (λC z=>dW (cz gN (gO cE cm cA cC L) 0 L tS) uO L (oD C z) (dk 2 (dN (cz gN (gO cE cm cA cC L) 0 L xF) (dX 0 (CF.res cf_ref30_Sound) k)))):=by kernel_rfl
def n7(cE:fu)(cm:eO)(cA:fk)(cC:eV)(L:Nat)(E:Int)(z:List V)(C:Bool->Ob Y)(D:Int->List V->Ob Y)(H:Ob Y):Ob Y:=cLd 38 z 1 λI=>ifb (decide (E<((WcK I:Nat):Int))) (chk (0+2<=(WcK z)) (cLd 38 z 1 λJ=>idx J E λM=>cL 1 (WcN 1 (WcN 33 M)) 0 λN=>cA Y L (WbO V.ag (WcL 2 z)) N (λF=>ifb (decide (F<(0:Int))) (C false) (cLd 38 z 1 λO=>idx O E λP=>cI .i64 (WcN 35 P) 0 λQ=>cLd 3 z 0 λR=>idx R F λS=>cI .i64 (WcN 1 S) 0 λT=>ifb (decide (Q<T)) (C false) (cLd 38 z 1 λU=>idx U E λd4=>cLd 3 z 0 λX=>idx X F λb9=>cI .i64 (WcN 2 b9) 0 λc9=>cC Y L (WbO V.ag (WcL 38 d4)) c9 (λaa=>ifb (!aa) (C false) (lt (Wbf .i64 ((E:Int)+(1:Int))) λab=>D ab z))))))) (H)
theorem Kd(cE:fu)(cm:eO)(cA:fk)(cC:eV)(L:Nat)(z:Int)(C:List V)(X:St->Ob Y)(K:KT Y):cz gN (gO cE cm cA cC L) 0 L tS (oD z C) (fR uO X K)=n7 cE cm cA cC L z C (λD=>K .ret (mT D)) (λz C=>X (oD z C)) (K (.exit 2) (xy)):=by kernel_rfl
def yS(cE:fu)(cm:eO)(cA:fk)(cC:eV)(L:Nat)(C:Bool)(z:Bool->Ob Y):Ob Y:=z C
theorem Ga(cE:fu)(cm:eO)(cA:fk)(cC:eV)(L:Nat)(z:Bool)(k:KK Y):(dk 2 (dN (cz gN (gO cE cm cA cC L) 0 L xF) (dX 0 (CF.res cf_ref30_Sound) k))) .ret (mT z)=yS cE cm cA cC L z (λC=>k (V.sc (.bool C)) []):=by kernel_rfl
def z7(cE:fu)(cm:eO)(cA:fk)(cC:eV)(L:Nat)(z:Bool->Ob Y):Ob Y:=z true
theorem G5(cE:fu)(cm:eO)(cA:fk)(cC:eV)(L:Nat)(k:KK Y):(dk 2 (dN (cz gN (gO cE cm cA cC L) 0 L xF) (dX 0 (CF.res cf_ref30_Sound) k))) (.exit 2) (xy)=z7 cE cm cA cC L (λz=>k (V.sc (.bool z)) []):=by kernel_rfl
def mV(cE:fu)(cm:eO)(cA:fk)(cC:eV)(L:Nat)(z:Bool->Ob Y)(C:List V->Ob Y):Nat->Int->List V->Ob Y
 | 0,_,_=>none
 | n+1,D,E=>rj cE cm cA cC L D E z (λD E=>mV cE cm cA cC L z C n D E) C
theorem Ao(cE:fu)(cm:eO)(cA:fk)(cC:eV)(L:Nat)(K:KT Y):∀ (n:Nat) (C:Int) (z:List V),dW (cz gN (gO cE cm cA cC L) 0 L uQ) vZ n (oU C z) K=mV cE cm cA cC L (λD=>K .ret (mT D)) (λz=>K (.exit 0) (sv z)) n C z:=by
 intro n; induction n <;> intros
 ·rfl
 ·exact (KH ..).trans (by simp only [*]; rfl)
def kM(cE:fu)(cm:eO)(cA:fk)(cC:eV)(L:Nat)(z:Bool->Ob Y)(C:Ob Y):Nat->Int->List V->Ob Y
 | 0,_,_=>none
 | n+1,D,E=>n7 cE cm cA cC L D E z (λD E=>kM cE cm cA cC L z C n D E) C
theorem yW(cE:fu)(cm:eO)(cA:fk)(cC:eV)(L:Nat)(K:KT Y):∀ (n:Nat) (z:Int) (C:List V),dW (cz gN (gO cE cm cA cC L) 0 L tS) uO n (oD z C) K=kM cE cm cA cC L (λD=>K .ret (mT D)) (K (.exit 2) (xy)) n z C:=by
 intro n; induction n <;> intros
 ·rfl
 ·exact (Kd ..).trans (by simp only [*]; rfl)
def sH(cE:fu)(cm:eO)(cA:fk)(cC:eV)(L:Nat)(C:List V)(z:Bool->Ob Y):Ob Y:=B6 cE cm cA cC L C (λD C=>kM cE cm cA cC L (λE=>yS cE cm cA cC L E z) (z7 cE cm cA cC L z) L D C)
theorem G8(cE:fu)(cm:eO)(cA:fk)(cC:eV)(L:Nat)(z:List V)(k:KK Y):(dk 0 (dN (cz gN (gO cE cm cA cC L) 0 L uf) (dX 0 (CF.res cf_ref30_Sound) k))) (.exit 0) (sv z)=sH cE cm cA cC L z (λC=>k (V.sc (.bool C)) []):=by
 refine (Il cE cm cA cC L z k).trans ?_
 unfold sH
 first
  | (simp only [yW,Ga,G5]; done)
  | (simp only [yW]; rfl)
def zf(cE:fu)(cm:eO)(cA:fk)(cC:eV)(L:Nat)(D:List V)(z:Bool->Ob Y):Ob Y:=Fk cE cm cA cC L D z (λE C=>mV cE cm cA cC L (λF=>Aq cE cm cA cC L F z) (λC=>sH cE cm cA cC L C z) L E C)
theorem RT(cE:fu)(cm:eO)(cA:fk)(cC:eV)(L:Nat)(z:List V)(k:KK Y):dx gN (gO cE cm cA cC L) L cf_ref30_Sound [(V.agg z)] [] k=zf cE cm cA cC L z (λz=>k (V.sc (.bool z)) []):=by
 refine (SF cE cm cA cC L z k).trans ?_
 unfold zf
 first
  | (simp only [Ao,Hj,G8]; done)
  | (simp only [Ao]; rfl)
abbrev gG:=∀ (Y:Type),Nat->List V->(Bool->Ob Y)->Ob Y
def cW:gG:=λY=>@zf Y cE cm cA cC
def uw(cW:gG)(L:Nat):Dk:=dA AG λz=>d0 λY k=>cW Y L z (λz=>k (V.sc (.bool z)) [])
theorem RJ(L:Nat):DK (uw cW L) (λ_=>dx gN (gO cE cm cA cC L) L cf_ref30_Sound):=dy fT λz=>fS λ_ k=>RT cE cm cA cC L z k
def IJ:CF:=cfD FU 29
def Bg:Nat->Sh:=f9 [(1,(.row [(.sl 3),(.sl 38)]))]
def AF(L:Nat):CBC:=noC
def DF(L:Nat)(E:List V)(z:Nat->Nat->List V->List V->Ob Y):Ob Y:=chk (WcK E=2) (cL 3 E 0 λC=>cL 38 E 1 λD=>chk ((0+WcK C)*40<=cN/\0+WcK C<=cN) (chk ((0+WcK D)*96<=cN/\0+WcK D<=cN) (z (WcK C) (WcK D) (WcO C) (WcO D))))
theorem Qo(L:Nat)(D:List V)(k:KK Y):dx Bg (AF L) L IJ [(V.agg D)] [] k=DF L D (λz C E F=>k (V.st [(V.own 0 0 z 3),(V.own 1 0 C 38)]) [(.live true E),(.live true F)]):=by kernel_rfl
abbrev dI:=∀ (Y:Type),Nat->List V->(Nat->Nat->List V->List V->Ob Y)->Ob Y
def bT:dI:=λY=>@DF Y
def pN(bT:dI)(L:Nat):Dk:=dA AG λD=>d0 λY k=>bT Y L D (λz C E F=>k (V.st [(V.own 0 0 z 3),(V.own 1 0 C 38)]) [(.live true E),(.live true F)])
theorem Qq(L:Nat):DK (pN bT L) (λ_=>dx Bg (AF L) L IJ):=dy fT λz=>fS λ_ k=>Qo L z k
def OX:CF:=cfD Kz 16
def Hh:Nat->Sh:=f9 [(16,(.sl 3))]
def HR(cW:gG)(cm:eO)(cA:fk)(bT:dI)(L:Nat):CBC:=(eL 829 (pN bT L) (eL 832 (Bd cA L) (eL 831 (BC cm L) (eL 817 (uw cW L) noC))))
def JW(cW:gG)(cm:eO)(cA:fk)(bT:dI)(L:Nat)(C:List V)(E:Ls)(D:Int)(z:List V->Int->Ob Y):Ob Y:=chk (0+2<=(WcK C)) (cW Y L (WbO V.ag (WcL 2 C)) (λN=>ifb (!N) (z [(V.sl 3 ([]:Ls)),(V.sl 38 ([]:Ls))] (6:Int)) (cLd 3 C 0 λO=>ifb (decide (((WcK O:Nat):Int)>=(1000:Int))) (z [(V.sl 3 ([]:Ls)),(V.sl 38 ([]:Ls))] (4:Int)) (ifb (decide (((WcK E:Nat):Int)>(520:Int))) (z [(V.sl 3 ([]:Ls)),(V.sl 38 ([]:Ls))] (4:Int)) (ifb ((((WcK E:Nat):Int):Int)==(0:Int)) (z [(V.sl 3 ([]:Ls)),(V.sl 38 ([]:Ls))] (93:Int)) (cm Y L D (1:Int) (16777216:Int) (λP=>ifb (!P) (z [(V.sl 3 ([]:Ls)),(V.sl 38 ([]:Ls))] (5:Int)) (chk (0+2<=(WcK C)) (cA Y L (WbO V.ag (WcL 2 C)) E (λQ=>ifb (decide (Q>=(0:Int))) (z [(V.sl 3 ([]:Ls)),(V.sl 38 ([]:Ls))] (150:Int)) (chk (0+2<=(WcK C)) (bT Y L (WbO V.ag (WcL 2 C)) (λF R J S=>chk ((WcK ([]:Ls)+WcK E)*1<=cN/\WcK ([]:Ls)+WcK E<=cN) (lt (([]:Ls)++E) λH=>lt (Wbf .i64 ((D:Int)-(1:Int))) λI=>chk ((F+WcK (bY 3 1 [(V.sl 1 H),(QQe D),(QQe I)]))*40<=cN/\(F+WcK (bY 3 1 [(V.sl 1 H),(QQe D),(QQe I)]))<=cN/\((F+WcK (bY 3 1 [(V.sl 1 H),(QQe D),(QQe I)]))≠0∨(WcK J)=0)) (lt (WcL (F*3) J++WcO (bY 3 1 [(V.sl 1 H),(QQe D),(QQe I)])) λM=>z [(V.sl 3 (bY 3 (F+WcK (bY 3 1 [(V.sl 1 H),(QQe D),(QQe I)])) M)),(V.sl 38 (bY 38 R S))] (0:Int))))))))))))))))
theorem XQ(cW:gG)(cm:eO)(cA:fk)(bT:dI)(L:Nat)(D:List V)(E:Ls)(F:Int)(k:KK Y):dx Hh (HR cW cm cA bT L) L OX [(V.agg D),(V.sl 1 E),(QQe F)] [] k=JW cW cm cA bT L D E F (λz C=>k (V.ae [(V.agg z),(QQe C)]) []):=by kernel_rfl
abbrev kw:=∀ (Y:Type),Nat->List V->Ls->Int->(List V->Int->Ob Y)->Ob Y
def dR:kw:=λY=>@JW Y cW cm cA bT
def JB(dR:kw)(L:Nat):Dk:=dA AG λD=>dA (AL 1) λE=>dA (AI .i64) λF=>d0 λY k=>dR Y L D E F (λz C=>k (V.ae [(V.agg z),(QQe C)]) [])
theorem WS(L:Nat):DK (JB dR L) (λ_=>dx Hh (HR cW cm cA bT L) L OX):=dy fT λz=>dy ji λC=>dy gX λD=>fS λ_ k=>XQ cW cm cA bT L z C D k
def cf_ref29_Back:CF:=cfD ID 50
def wd:CC:=eT [1,1,0,1,0,0] cf_ref29_Back.body
def IL:CC:=eT [1,1,1] cf_ref29_Back.body
def mO:Nat->Sh:=f9 [(20,(.int .i64)),(24,(.int .i64))]
def mL(L:Nat):CBC:=noC
def yy:St->St:=f4 0 (bl 99 33) (bl 5368707967 33)
def pz(z:Ls)(C:Int)(D:Ls)(E:Int):St:=⟨((V.sl 38 z)::((QQe C)::(jn 3 ((V.gs 38 D)::((QQe E)::(jn 26 [])))))),(gn 33 [])⟩
def zA(z:Ls):St:=⟨(jn 5 ((V.gs 38 z)::(jn 27 []))),(gn 33 [])⟩
def BW(L:Nat)(C:Ls)(D:Int)(z:Ls->Int->Ls->Int->Ob Y):Ob Y:=z C D ([]:Ls) (0:Int)
theorem UD(L:Nat)(z:Ls)(C:Int)(k:KK Y):dx mO (mL L) L cf_ref29_Back [(V.sl 38 z),(QQe C)] [] k=BW L z C (λz C D E=>dW (cz mO (mL L) 0 L wd) yy L (pz z C D E) (dk 0 (dN (cz mO (mL L) 0 L IL) (dX 0 (CF.res cf_ref29_Back) k)))):=by kernel_rfl
def kG(L:Nat)(E:Ls)(F:Int)(D:Ls)(H:Int)(z:Ls->Int->Ls->Int->Ob Y)(J:Ls->Ob Y):Ob Y:=ifb (decide (H<((WcK E:Nat):Int))) (idx E H λM=>chk ((WcK (WcL 38 M))=38/\0+38<=38) (lt (cq (Wad 32 (QQa (0:Int))++[(QQc (0:Int)),(QQe (0:Int)),(V.gs 1 ([]:Ls)),(QQe (0:Int)),(V.sc (.bool false)),(QQe (0:Int))]) 0 (WcL 38 M)) λC=>cI .i64 C 35 λN=>ifb (decide (N>F)) (lt (Wbf .i64 ((H:Int)+(1:Int))) λO=>z E F D O) (cI .i64 C 37 λP=>ifb (decide (P>F)) (chk (1=1/\37+1<=(WcK C)) (lt (cq C 37 [(QQe (0:Int))]) λI=>chk (0+38<=(WcK I)) (chk ((WcK (WcL 38 I))=38/\0+38<=38) (chk ((WcK D+WcK (bY 38 1 (cq (Wad 32 (QQa (0:Int))++[(QQc (0:Int)),(QQe (0:Int)),(V.sl 1 ([]:Ls)),(QQe (0:Int)),(V.sc (.bool false)),(QQe (0:Int))]) 0 (WcL 38 I))))*96<=cN/\WcK D+WcK (bY 38 1 (cq (Wad 32 (QQa (0:Int))++[(QQc (0:Int)),(QQe (0:Int)),(V.sl 1 ([]:Ls)),(QQe (0:Int)),(V.sc (.bool false)),(QQe (0:Int))]) 0 (WcL 38 I)))<=cN) (lt (D++(bY 38 1 (cq (Wad 32 (QQa (0:Int))++[(QQc (0:Int)),(QQe (0:Int)),(V.sl 1 ([]:Ls)),(QQe (0:Int)),(V.sc (.bool false)),(QQe (0:Int))]) 0 (WcL 38 I)))) λQ=>lt (Wbf .i64 ((H:Int)+(1:Int))) λR=>z E F Q R))))) (chk (0+38<=(WcK C)) (chk ((WcK (WcL 38 C))=38/\0+38<=38) (chk ((WcK D+WcK (bY 38 1 (cq (Wad 32 (QQa (0:Int))++[(QQc (0:Int)),(QQe (0:Int)),(V.sl 1 ([]:Ls)),(QQe (0:Int)),(V.sc (.bool false)),(QQe (0:Int))]) 0 (WcL 38 C))))*96<=cN/\WcK D+WcK (bY 38 1 (cq (Wad 32 (QQa (0:Int))++[(QQc (0:Int)),(QQe (0:Int)),(V.sl 1 ([]:Ls)),(QQe (0:Int)),(V.sc (.bool false)),(QQe (0:Int))]) 0 (WcL 38 C)))<=cN) (lt (D++(bY 38 1 (cq (Wad 32 (QQa (0:Int))++[(QQc (0:Int)),(QQe (0:Int)),(V.sl 1 ([]:Ls)),(QQe (0:Int)),(V.sc (.bool false)),(QQe (0:Int))]) 0 (WcL 38 C)))) λS=>lt (Wbf .i64 ((H:Int)+(1:Int))) λT=>z E F S T))))))) (J D)
theorem LI(L:Nat)(C:Ls)(D:Int)(z:Ls)(E:Int)(X:St->Ob Y)(K:KT Y):cz mO (mL L) 0 L wd (pz C D z E) (fR yy X K)=kG L C D z E (λC D z E=>X (pz C D z E)) (λz=>K (.exit 0) (zA z)):=by kernel_rfl
def CX(L:Nat)(C:Ls)(z:Ls->Ob Y):Ob Y:=z C
theorem J9(L:Nat)(z:Ls)(k:KK Y):(dk 0 (dN (cz mO (mL L) 0 L IL) (dX 0 (CF.res cf_ref29_Back) k))) (.exit 0) (zA z)=CX L z (λC=>k (V.gs 38 C) []):=by kernel_rfl
def iN(L:Nat)(z:Ls->Ob Y):Nat->Ls->Int->Ls->Int->Ob Y
 | 0,_,_,_,_=>none
 | n+1,C,D,E,F=>kG L C D E F (λC D E F=>iN L z n C D E F) z
theorem AS(L:Nat)(K:KT Y):∀ (n:Nat) (C:Ls) (D:Int) (z:Ls) (E:Int),dW (cz mO (mL L) 0 L wd) yy n (pz C D z E) K=iN L (λz=>K (.exit 0) (zA z)) n C D z E:=by
 intro n; induction n <;> intros
 ·rfl
 ·exact (LI ..).trans (by simp only [*]; rfl)
def wD(L:Nat)(C:Ls)(D:Int)(z:Ls->Ob Y):Ob Y:=BW L C D (λC D E F=>iN L (λE=>CX L E z) L C D E F)
theorem Ul(L:Nat)(z:Ls)(C:Int)(k:KK Y):dx mO (mL L) L cf_ref29_Back [(V.sl 38 z),(QQe C)] [] k=wD L z C (λz=>k (V.gs 38 z) []):=by
 refine (UD L z C k).trans ?_
 unfold wD
 first
  | (simp only [AS,J9]; done)
  | (simp only [AS]; rfl)
abbrev jV:=∀ (Y:Type),Nat->Ls->Int->(Ls->Ob Y)->Ob Y
def dL:jV:=λY=>@wD Y
def GP(dL:jV)(L:Nat):Dk:=dA (AL 38) λz=>dA (AI .i64) λC=>d0 λY k=>dL Y L z C (λz=>k (V.gs 38 z) [])
theorem Ua(L:Nat):DK (GP dL L) (λ_=>dx mO (mL L) L cf_ref29_Back):=dy ji λz=>dy gX λC=>fS λ_ k=>Ul L z C k
def cf_ref30_Rewind:CF:=cfD FZ 24
def rH:CC:=eT [1,1,1,1,0,1,0,0] cf_ref30_Rewind.body
def CP:CC:=eT [1,1,1,1,1] cf_ref30_Rewind.body
def kS:Nat->Sh:=f9 [(33,(.int .i64)),(41,(.int .i64)),(47,(.sl 38))]
def kR(cW:gG)(cm:eO)(bT:dI)(dL:jV)(L:Nat):CBC:=(eL 797 (GP dL L) (eL 829 (pN bT L) (eL 831 (BC cm L) (eL 817 (uw cW L) noC))))
def sS:St->St:=f4 0 (bl 214 52) (bl 4494769172512767 52)
def nq(I J:Int)(M:List V)(D E:Ls)(z C:Nat)(F H:List V):St:=⟨(jn 1 ((QQe I)::((V.ptr 2 0)::(jn 1 ((V.ptr 4 0)::(jn 1 ((V.ptr 6 0)::((QQe J)::(jn 44 []))))))))),(gn 2 ((.live true M)::(gn 1 ((.live false [(V.gs 3 D),(V.gs 38 E)])::(gn 1 ((.live false [(V.own 10 0 z 3),(V.own 14 0 C 38)])::(gn 3 ((.live true F)::(gn 3 ((.live true H)::(gn 37 [])))))))))))⟩
def ww(I:Int)(J:List V)(D E:Ls)(z C:Nat)(F H:List V):St:=⟨(jn 1 ((QQe I)::((V.ptr 2 0)::(jn 1 ((V.ptr 4 0)::(jn 1 ((V.ptr 6 0)::(jn 45 [])))))))),(gn 2 ((.live true J)::(gn 1 ((.live false [(V.gs 3 D),(V.gs 38 E)])::(gn 1 ((.live false [(V.own 10 0 z 3),(V.own 14 0 C 38)])::(gn 3 ((.live true F)::(gn 3 ((.live true H)::(gn 37 [])))))))))))⟩
abbrev yF(Y:Type):Type:=Int->Int->List V->Ls->Ls->Nat->Nat->List V->List V->Ob Y
abbrev tU(Y:Type):Type:=Int->List V->Ls->Ls->Nat->Nat->List V->List V->Ob Y
def pS(cW:gG)(cm:eO)(bT:dI)(dL:jV)(L:Nat)(D:List V)(E:Int)(C:List V->Int->Ob Y)(z:yF Y):Ob Y:=chk (0+2<=(WcK D)) (cW Y L (WbO V.ag (WcL 2 D)) (λF=>ifb (!F) (C [(V.sl 3 ([]:Ls)),(V.sl 38 ([]:Ls))] (6:Int)) (cm Y L E (0:Int) (16777216:Int) (λH=>ifb (!H) (C [(V.sl 3 ([]:Ls)),(V.sl 38 ([]:Ls))] (5:Int)) (chk (0+2<=(WcK D)) (bT Y L (WbO V.ag (WcL 2 D)) (λI J M N=>z E (0:Int) D ([]:Ls) ([]:Ls) I J M N)))))))
theorem Qe(cW:gG)(cm:eO)(bT:dI)(dL:jV)(L:Nat)(J:List V)(z:Int)(k:KK Y):dx kS (kR cW cm bT dL L) L cf_ref30_Rewind [(V.agg J),(QQe z)] [] k=pS cW cm bT dL L J z (λE F=>k (V.ae [(V.agg E),(QQe F)]) []) (λz O P H I C D M N=>dW (cz kS (kR cW cm bT dL L) 0 L rH) sS L (nq z O P H I C D M N) (dk 0 (dN (cz kS (kR cW cm bT dL L) 0 L CP) (dX 0 (CF.res cf_ref30_Rewind) k)))):=by kernel_rfl
def kX(cW:gG)(cm:eO)(bT:dI)(dL:jV)(L:Nat)(M C:Int)(O:List V)(H I:Ls)(z F:Nat)(E J:List V)(D:yF Y)(N:tU Y):Ob Y:=ifb (decide (C<((z:Nat):Int))) (chk (0<=C/\C<((z:Nat):Int)) (cI .i64 E ((0+((WcM C)*3))+2) λS=>lt (Hr S M) λT=>chk (0<=C/\C<((z:Nat):Int)) (cI .i64 E ((0+((WcM C)*3))+1) λU=>lt (Wbf .i64 ((U:Int)-(1:Int))) λd4=>lt (HK T d4) λP=>chk (0<=C/\C<((z:Nat):Int)) (chk (1=1/\((0+((WcM C)*3))+2)+1<=(WcK E)) (lt (cq E ((0+((WcM C)*3))+2) [(QQe P)]) λQ=>lt (Wbf .i64 ((C:Int)+(1:Int))) λR=>D M R O H I z F Q J))))) (N M O H I z F E J)
theorem Hx(cW:gG)(cm:eO)(bT:dI)(dL:jV)(L:Nat)(I M:Int)(J:List V)(D E:Ls)(z C:Nat)(F H:List V)(X:St->Ob Y)(K:KT Y):cz kS (kR cW cm bT dL L) 0 L rH (nq I M J D E z C F H) (fR sS X K)=kX cW cm bT dL L I M J D E z C F H (λI M J D E z C F H=>X (nq I M J D E z C F H)) (λI J D E z C F H=>K (.exit 0) (ww I J D E z C F H)):=by kernel_rfl
def nS(cW:gG)(cm:eO)(bT:dI)(dL:jV)(L:Nat)(I:Int)(J:List V)(M N:Ls)(z H:Nat)(D O:List V)(C:List V->Int->Ob Y):Ob Y:=cLd 38 J 1 λE=>dL Y L E I (λF=>C [(V.sl 3 (bY 3 z D)),(V.sl 38 F)] (0:Int))
theorem FH(cW:gG)(cm:eO)(bT:dI)(dL:jV)(L:Nat)(M:Int)(N:List V)(D E:Ls)(z C:Nat)(F H:List V)(k:KK Y):(dk 0 (dN (cz kS (kR cW cm bT dL L) 0 L CP) (dX 0 (CF.res cf_ref30_Rewind) k))) (.exit 0) (ww M N D E z C F H)=nS cW cm bT dL L M N D E z C F H (λI J=>k (V.ae [(V.agg I),(QQe J)]) []):=by kernel_rfl
def iB(cW:gG)(cm:eO)(bT:dI)(dL:jV)(L:Nat)(F:tU Y):Nat->Int->Int->List V->Ls->Ls->Nat->Nat->List V->List V->Ob Y
 | 0,_,_,_,_,_,_,_,_,_=>none
 | n+1,J,M,N,D,E,z,C,H,I=>kX cW cm bT dL L J M N D E z C H I (λJ M N D E z C H I=>iB cW cm bT dL L F n J M N D E z C H I) F
theorem wk(cW:gG)(cm:eO)(bT:dI)(dL:jV)(L:Nat)(K:KT Y):∀ (n:Nat) (I M:Int) (J:List V) (D E:Ls) (z C:Nat) (F H:List V),dW (cz kS (kR cW cm bT dL L) 0 L rH) sS n (nq I M J D E z C F H) K=iB cW cm bT dL L (λI J D E z C F H=>K (.exit 0) (ww I J D E z C F H)) n I M J D E z C F H:=by
 intro n; induction n <;> intros
 ·rfl
 ·exact (Hx ..).trans (by simp only [*]; rfl)
def n9(cW:gG)(cm:eO)(bT:dI)(dL:jV)(L:Nat)(N:List V)(H:Int)(F:List V->Int->Ob Y):Ob Y:=pS cW cm bT dL L N H F (λH O M D E z C I J=>iB cW cm bT dL L (λH M D E z C I J=>nS cW cm bT dL L H M D E z C I J F) L H O M D E z C I J)
theorem QF(cW:gG)(cm:eO)(bT:dI)(dL:jV)(L:Nat)(z:List V)(C:Int)(k:KK Y):dx kS (kR cW cm bT dL L) L cf_ref30_Rewind [(V.agg z),(QQe C)] [] k=n9 cW cm bT dL L z C (λD E=>k (V.ae [(V.agg D),(QQe E)]) []):=by
 refine (Qe cW cm bT dL L z C k).trans ?_
 unfold n9
 first
  | (simp only [wk,FH]; done)
  | (simp only [wk]; rfl)
abbrev dQ:=∀ (Y:Type),Nat->List V->Int->(List V->Int->Ob Y)->Ob Y
def bU:dQ:=λY=>@n9 Y cW cm bT dL
def xo(bU:dQ)(L:Nat):Dk:=dA AG λD=>dA (AI .i64) λE=>d0 λY k=>bU Y L D E (λz C=>k (V.ae [(V.agg z),(QQe C)]) [])
theorem P6(L:Nat):DK (xo bU L) (λ_=>dx kS (kR cW cm bT dL L) L cf_ref30_Rewind):=dy fT λz=>dy gX λC=>fS λ_ k=>QF cW cm bT dL L z C k
def cf_ref30_Reached:CF:=cfD Eu 22
def sL:CC:=eT [1,1,0,1,0,0] cf_ref30_Reached.body
def Es:CC:=eT [1,1,1] cf_ref30_Reached.body
def ka:Nat->Sh:=f9 [(7,(.sl 3)),(25,(.sl 3)),(29,(.int .i64)),(16,(.sl 3)),(20,(.int .i64))]
def j9(L:Nat):CBC:=noC
def tw:St->St:=f4 0 (bl 26 31) (bl 2147483391 31)
def nN(z C:Int)(D:List V):St:=⟨(jn 1 ((V.ptr 1 0)::(jn 1 ((QQe z)::((QQe C)::(jn 26 [])))))),(gn 1 ((.live true D)::(gn 29 [])))⟩
def uH(z:Int):St:=⟨(jn 3 ((QQe z)::(jn 27 []))),(gn 31 [])⟩
def Bw(L:Nat)(C:List V)(z:Int->Int->List V->Ob Y):Ob Y:=z (-1:Int) (0:Int) C
theorem NV(L:Nat)(z:List V)(k:KK Y):dx ka (j9 L) L cf_ref30_Reached [(V.agg z)] [] k=Bw L z (λC D E=>dW (cz ka (j9 L) 0 L sL) tw L (nN C D E) (dk 0 (dN (cz ka (j9 L) 0 L Es) (dX 0 (CF.res cf_ref30_Reached) k)))):=by kernel_rfl
def tN(L:Nat)(E C:Int)(D:List V)(z:Int->Int->List V->Ob Y)(F:Int->Ob Y):Ob Y:=cLd 3 D 0 λM=>ifb (decide (C<((WcK M:Nat):Int))) (ifb (decide (E<(0:Int))) (cLd 3 D 0 λN=>idx N C λO=>cI .i64 (WcN 2 O) 0 λP=>lt (Wbf .i64 ((C:Int)+(1:Int))) λQ=>z P Q D) (cLd 3 D 0 λR=>idx R C λS=>cI .i64 (WcN 2 S) 0 λT=>ifb (decide (T<E)) (cLd 3 D 0 λU=>idx U C λd4=>cI .i64 (WcN 2 d4) 0 λH=>lt (Wbf .i64 ((C:Int)+(1:Int))) λI=>z H I D) (lt (Wbf .i64 ((C:Int)+(1:Int))) λJ=>z E J D))) (F E)
theorem Ir(L:Nat)(z C:Int)(D:List V)(X:St->Ob Y)(K:KT Y):cz ka (j9 L) 0 L sL (nN z C D) (fR tw X K)=tN L z C D (λz C D=>X (nN z C D)) (λz=>K (.exit 0) (uH z)):=by kernel_rfl
def yP(L:Nat)(C:Int)(z:Int->Ob Y):Ob Y:=z C
theorem F6(L:Nat)(z:Int)(k:KK Y):(dk 0 (dN (cz ka (j9 L) 0 L Es) (dX 0 (CF.res cf_ref30_Reached) k))) (.exit 0) (uH z)=yP L z (λC=>k (QQe C) []):=by kernel_rfl
def nB(L:Nat)(z:Int->Ob Y):Nat->Int->Int->List V->Ob Y
 | 0,_,_,_=>none
 | n+1,C,D,E=>tN L C D E (λC D E=>nB L z n C D E) z
theorem xv(L:Nat)(K:KT Y):∀ (n:Nat) (z C:Int) (D:List V),dW (cz ka (j9 L) 0 L sL) tw n (nN z C D) K=nB L (λz=>K (.exit 0) (uH z)) n z C D:=by
 intro n; induction n <;> intros
 ·rfl
 ·exact (Ir ..).trans (by simp only [*]; rfl)
def vf(L:Nat)(D:List V)(z:Int->Ob Y):Ob Y:=Bw L D (λC E F=>nB L (λC=>yP L C z) L C E F)
theorem OC(L:Nat)(z:List V)(k:KK Y):dx ka (j9 L) L cf_ref30_Reached [(V.agg z)] [] k=vf L z (λz=>k (QQe z) []):=by
 refine (NV L z k).trans ?_
 unfold vf
 first
  | (simp only [xv,F6]; done)
  | (simp only [xv]; rfl)
abbrev eA:=∀ (Y:Type),Nat->List V->(Int->Ob Y)->Ob Y
def bZ:eA:=λY=>@vf Y
def re(bZ:eA)(L:Nat):Dk:=dA AG λz=>d0 λY k=>bZ Y L z (λz=>k (QQe z) [])
theorem Of(L:Nat):DK (re bZ L) (λ_=>dx ka (j9 L) L cf_ref30_Reached):=dy fT λz=>fS λ_ k=>OC L z k
def cf_ref30_due:CF:=cfD Lc 45
def yo:CC:=eT [1,1,0,1,0,0] cf_ref30_due.body
def KX:CC:=eT [1,1,1] cf_ref30_due.body
def nh:Nat->Sh:=f9 [(7,(.sl 3)),(13,(.sl 3)),(17,(.int .i64)),(23,(.sl 3)),(27,(.sl 1))]
def nz(bZ:eA)(L:Nat):CBC:=(eL 825 (re bZ L) noC)
def zZ:St->St:=f4 0 (bl 26 31) (bl 1341652735 31)
def qr(z:Ls)(C:Int)(D:List V):St:=⟨(jn 1 ((V.ptr 1 0)::(jn 1 ((V.gs 1 z)::((QQe C)::(jn 26 [])))))),(gn 1 ((.live true D)::(gn 29 [])))⟩
def B1(z:Ls):St:=⟨(jn 3 ((V.gs 1 z)::(jn 27 []))),(gn 31 [])⟩
def JZ(bZ:eA)(L:Nat)(C:List V)(z:Ls->Int->List V->Ob Y):Ob Y:=z ([]:Ls) (0:Int) C
theorem Xn(bZ:eA)(L:Nat)(z:List V)(k:KK Y):dx nh (nz bZ L) L cf_ref30_due [(V.agg z)] [] k=JZ bZ L z (λC D E=>dW (cz nh (nz bZ L) 0 L yo) zZ L (qr C D E) (dk 0 (dN (cz nh (nz bZ L) 0 L KX) (dX 0 (CF.res cf_ref30_due) k)))):=by kernel_rfl
def zL(bZ:eA)(L:Nat)(D:Ls)(E:Int)(C:List V)(z:Ls->Int->List V->Ob Y)(F:Ls->Ob Y):Ob Y:=cLd 3 C 0 λJ=>ifb (decide (E<((WcK J:Nat):Int))) (cLd 3 C 0 λM=>idx M E λN=>cI .i64 (WcN 2 N) 0 λO=>chk (0+2<=(WcK C)) (bZ Y L (WbO V.ag (WcL 2 C)) (λP=>ifb ((O:Int)==P) (cLd 3 C 0 λQ=>idx Q E λR=>cL 1 R 0 λH=>chk ((WcK D+WcK (bY 1 1 [(V.sl 1 H)]))*24<=cN/\WcK D+WcK (bY 1 1 [(V.sl 1 H)])<=cN) (lt (D++(bY 1 1 [(V.sl 1 H)])) λS=>lt (Wbf .i64 ((E:Int)+(1:Int))) λT=>z S T C)) (lt (Wbf .i64 ((E:Int)+(1:Int))) λI=>z D I C)))) (F D)
theorem Nl(bZ:eA)(L:Nat)(z:Ls)(C:Int)(D:List V)(X:St->Ob Y)(K:KT Y):cz nh (nz bZ L) 0 L yo (qr z C D) (fR zZ X K)=zL bZ L z C D (λz C D=>X (qr z C D)) (λz=>K (.exit 0) (B1 z)):=by kernel_rfl
def wx(bZ:eA)(L:Nat)(C:Ls)(z:Ls->Ob Y):Ob Y:=z C
theorem Kx(bZ:eA)(L:Nat)(z:Ls)(k:KK Y):(dk 0 (dN (cz nh (nz bZ L) 0 L KX) (dX 0 (CF.res cf_ref30_due) k))) (.exit 0) (B1 z)=wx bZ L z (λC=>k (V.gs 1 C) []):=by kernel_rfl
def pU(bZ:eA)(L:Nat)(z:Ls->Ob Y):Nat->Ls->Int->List V->Ob Y
 | 0,_,_,_=>none
 | n+1,C,D,E=>zL bZ L C D E (λC D E=>pU bZ L z n C D E) z
theorem CJ(bZ:eA)(L:Nat)(K:KT Y):∀ (n:Nat) (z:Ls) (C:Int) (D:List V),dW (cz nh (nz bZ L) 0 L yo) zZ n (qr z C D) K=pU bZ L (λz=>K (.exit 0) (B1 z)) n z C D:=by
 intro n; induction n <;> intros
 ·rfl
 ·exact (Nl ..).trans (by simp only [*]; rfl)
def DN(bZ:eA)(L:Nat)(D:List V)(z:Ls->Ob Y):Ob Y:=JZ bZ L D (λC E F=>pU bZ L (λC=>wx bZ L C z) L C E F)
theorem Wx(bZ:eA)(L:Nat)(z:List V)(k:KK Y):dx nh (nz bZ L) L cf_ref30_due [(V.agg z)] [] k=DN bZ L z (λz=>k (V.gs 1 z) []):=by
 refine (Xn bZ L z k).trans ?_
 unfold DN
 first
  | (simp only [CJ,Kx]; done)
  | (simp only [CJ]; rfl)
abbrev jm:=∀ (Y:Type),Nat->List V->(Ls->Ob Y)->Ob Y
def dF:jm:=λY=>@DN Y bZ
def DM(dF:jm)(L:Nat):Dk:=dA AG λz=>d0 λY k=>dF Y L z (λz=>k (V.gs 1 z) [])
theorem Xk(L:Nat):DK (DM dF L) (λ_=>dx nh (nz bZ L) L cf_ref30_due):=dy fT λz=>fS λ_ k=>Wx bZ L z k
def MR:CF:=cfD IC 69
def Ff:Nat->Sh:=f9 []
def EX(L:Nat):CBC:=noC
def AY(L:Nat)(C D:Ls)(z:Bool->Ob Y):Ob Y:=yp C λE=>yp D λF=>z (ByteArray.toList E==ByteArray.toList F)
theorem U5(L:Nat)(z C:Ls)(k:KK Y):dx Ff (EX L) L MR [(V.sl 1 z),(V.sl 1 C)] [] k=AY L z C (λz=>k (V.sc (.bool z)) []):=by kernel_rfl
abbrev hP:=∀ (Y:Type),Nat->Ls->Ls->(Bool->Ob Y)->Ob Y
def dv:hP:=λY=>@AY Y
def AB(dv:hP)(L:Nat):Dk:=dA (AL 1) λz=>dA (AL 1) λC=>d0 λY k=>dv Y L z C (λz=>k (V.sc (.bool z)) [])
theorem VR(L:Nat):DK (AB dv L) (λ_=>dx Ff (EX L) L MR):=dy ji λz=>dy ji λC=>fS λ_ k=>U5 L z C k
def cf_ref29_Has:CF:=cfD Kr 46
def zH:CC:=eT [1,0,1,0,0] cf_ref29_Has.body
def FG:CC:=eT [1,1] cf_ref29_Has.body
def mw:Nat->Sh:=f9 [(15,(.sl 1))]
def mA(dv:hP)(L:Nat):CBC:=(eL 130 (AB dv L) noC)
def Cf:St->St:=f4 0 (bl 35 18) (bl 130799 18)
def qL(z C:Ls)(D:Int):St:=⟨((V.sl 1 z)::((V.sl 1 C)::(jn 3 ((QQe D)::(jn 12 []))))),(gn 18 [])⟩
def zE(z:Bool):St:=⟨(jn 4 ((V.sc (.bool z))::(jn 13 []))),(gn 18 [])⟩
def AO:St:=⟨(jn 18 []),(gn 18 [])⟩
def JO(dv:hP)(L:Nat)(C D:Ls)(z:Ls->Ls->Int->Ob Y):Ob Y:=z C D (0:Int)
theorem WH(dv:hP)(L:Nat)(z C:Ls)(k:KK Y):dx mw (mA dv L) L cf_ref29_Has [(V.sl 1 z),(V.sl 1 C)] [] k=JO dv L z C (λz C D=>dW (cz mw (mA dv L) 0 L zH) Cf L (qL z C D) (dk 0 (dN (cz mw (mA dv L) 0 L FG) (dX 0 (CF.res cf_ref29_Has) k)))):=by kernel_rfl
def Co(dv:hP)(L:Nat)(D H:Ls)(E:Int)(C:Bool->Ob Y)(z:Ls->Ls->Int->Ob Y)(F:Ob Y):Ob Y:=ifb (decide (E<((WcK D:Nat):Int))) (idx D E λI=>cL 1 I 0 λJ=>dv Y L J H (λM=>ifb M (C true) (lt (Wbf .i64 ((E:Int)+(1:Int))) λN=>z D H N))) (F)
theorem Pr(dv:hP)(L:Nat)(z C:Ls)(D:Int)(X:St->Ob Y)(K:KT Y):cz mw (mA dv L) 0 L zH (qL z C D) (fR Cf X K)=Co dv L z C D (λE=>K .ret (zE E)) (λz C D=>X (qL z C D)) (K (.exit 0) (AO)):=by kernel_rfl
def wu(dv:hP)(L:Nat)(C:Bool)(z:Bool->Ob Y):Ob Y:=z C
theorem Ki(dv:hP)(L:Nat)(z:Bool)(k:KK Y):(dk 0 (dN (cz mw (mA dv L) 0 L FG) (dX 0 (CF.res cf_ref29_Has) k))) .ret (zE z)=wu dv L z (λC=>k (V.sc (.bool C)) []):=by kernel_rfl
def yq(dv:hP)(L:Nat)(z:Bool->Ob Y):Ob Y:=z false
theorem My(dv:hP)(L:Nat)(k:KK Y):(dk 0 (dN (cz mw (mA dv L) 0 L FG) (dX 0 (CF.res cf_ref29_Has) k))) (.exit 0) (AO)=yq dv L (λz=>k (V.sc (.bool z)) []):=by kernel_rfl
def qY(dv:hP)(L:Nat)(z:Bool->Ob Y)(C:Ob Y):Nat->Ls->Ls->Int->Ob Y
 | 0,_,_,_=>none
 | n+1,D,E,F=>Co dv L D E F z (λD E F=>qY dv L z C n D E F) C
theorem Ep(dv:hP)(L:Nat)(K:KT Y):∀ (n:Nat) (z C:Ls) (D:Int),dW (cz mw (mA dv L) 0 L zH) Cf n (qL z C D) K=qY dv L (λE=>K .ret (zE E)) (K (.exit 0) (AO)) n z C D:=by
 intro n; induction n <;> intros
 ·rfl
 ·exact (Pr ..).trans (by simp only [*]; rfl)
def D5(dv:hP)(L:Nat)(C D:Ls)(z:Bool->Ob Y):Ob Y:=JO dv L C D (λC D E=>qY dv L (λF=>wu dv L F z) (yq dv L z) L C D E)
theorem W6(dv:hP)(L:Nat)(z C:Ls)(k:KK Y):dx mw (mA dv L) L cf_ref29_Has [(V.sl 1 z),(V.sl 1 C)] [] k=D5 dv L z C (λz=>k (V.sc (.bool z)) []):=by
 refine (WH dv L z C k).trans ?_
 unfold D5
 first
  | (simp only [Ep,Ki,My]; done)
  | (simp only [Ep]; rfl)
abbrev dE:=∀ (Y:Type),Nat->Ls->Ls->(Bool->Ob Y)->Ob Y
def bP:dE:=λY=>@D5 Y dv
def yH(bP:dE)(L:Nat):Dk:=dA (AL 1) λz=>dA (AL 1) λC=>d0 λY k=>bP Y L z C (λz=>k (V.sc (.bool z)) [])
theorem XP(L:Nat):DK (yH bP L) (λ_=>dx mw (mA dv L) L cf_ref29_Has):=dy ji λz=>dy ji λC=>fS λ_ k=>W6 dv L z C k
def CV:CF:=cfD Ag 71
def uU:Nat->Sh:=f9 []
def uZ(cQ:f7)(L:Nat):CBC:=(eL 193 (tb cQ L) noC)
def vw(cQ:f7)(L:Nat)(D:Ls)(C:List V)(z:Ls->Ob Y):Ob Y:=chk (0+32*1<=(WcK C)) (ifb (List.isEmpty C) (cQ Y L D (bY 1 32 C) (λE=>z E)) (cQ Y L D (bY 1 32 C) (λF=>z F)))
theorem K0(cQ:f7)(L:Nat)(z:Ls)(C:List V)(k:KK Y):dx uU (uZ cQ L) L CV [(V.sl 1 z),(V.agg C)] [] k=vw cQ L z C (λz=>k (V.gs 1 z) []):=by kernel_rfl
abbrev oN:=∀ (Y:Type),Nat->Ls->List V->(Ls->Ob Y)->Ob Y
def fN:oN:=λY=>@vw Y cQ
def vT(fN:oN)(L:Nat):Dk:=dA (AL 1) λz=>dA AG λC=>d0 λY k=>fN Y L z C (λz=>k (V.gs 1 z) [])
theorem KZ(L:Nat):DK (vT fN L) (λ_=>dx uU (uZ cQ L) L CV):=dy ji λz=>dy fT λC=>fS λ_ k=>K0 cQ L z C k
def cf_ref01_little:CF:=cfD FQ 96
def tK:CC:=eT [1,1,0,1,0,0] cf_ref01_little.body
def FO:CC:=eT [1,1,1] cf_ref01_little.body
def kQ:Nat->Sh:=f9 []
def kU(L:Nat):CBC:=noC
def u2:St->St:=f4 0 (bl 3105 24) (bl 16777151 24)
def oz(E:Int)(z:Nat)(C D:Int)(F:List V):St:=⟨((QQd E)::(jn 4 ((V.own 8 0 z 1)::(jn 4 ((QQe C)::((QQe D)::(jn 12 []))))))),(gn 8 ((.live true F)::(gn 15 [])))⟩
def wE(z:Nat)(C:List V):St:=⟨(jn 5 ((V.own 8 0 z 1)::(jn 18 []))),(gn 8 ((.live true C)::(gn 15 [])))⟩
def KI(L:Nat)(D z:Int)(C:Int->Nat->Int->Int->List V->Ob Y):Ob Y:=chk (0<=z/\z<=z/\(WcM z)*1<=cN/\z<=cN) (C D (WcM z) (((WcM z):Nat):Int) (0:Int) (WcO (Wad (WcM z) [(QQa (0:Int))])))
theorem QI(L:Nat)(z C:Int)(k:KK Y):dx kQ (kU L) L cf_ref01_little [(QQd z),(QQe C)] [] k=KI L z C (λz D E F H=>dW (cz kQ (kU L) 0 L tK) u2 L (oz z D E F H) (dk 0 (dN (cz kQ (kU L) 0 L FO) (dX 0 (CF.res cf_ref01_little) k)))):=by kernel_rfl
def Cz(L:Nat)(I:Int)(D:Nat)(E z:Int)(F:List V)(C:Int->Nat->Int->Int->List V->Ob Y)(H:Nat->List V->Ob Y):Ob Y:=ifb (decide (z<E)) (lt (Wbf .i64 (((8:Int):Int)*z)) λJ=>chk (0<=J) (lt (SG .u64 I J) λM=>lt (Wbf .u8 M) λN=>chk (0<=z/\z<((D:Nat):Int)) (chk (1=1/\(0+((WcM z)*1))+1<=(WcK F)) (lt (cq F (0+((WcM z)*1)) [(QQa N)]) λO=>lt (Wbf .i64 ((z:Int)+(1:Int))) λP=>C I D E P O)))) (H D F)
theorem J3(L:Nat)(F:Int)(z:Nat)(C D:Int)(E:List V)(X:St->Ob Y)(K:KT Y):cz kQ (kU L) 0 L tK (oz F z C D E) (fR u2 X K)=Cz L F z C D E (λF z C D E=>X (oz F z C D E)) (λz E=>K (.exit 0) (wE z E)):=by kernel_rfl
def Aj(L:Nat)(C:Nat)(D:List V)(z:Ls->Ob Y):Ob Y:=chk (C≠0∨(WcK D)=0) (z (bY 1 C D))
theorem Hb(L:Nat)(z:Nat)(C:List V)(k:KK Y):(dk 0 (dN (cz kQ (kU L) 0 L FO) (dX 0 (CF.res cf_ref01_little) k))) (.exit 0) (wE z C)=Aj L z C (λD=>k (V.fr 1 D) []):=by kernel_rfl
def u6(L:Nat)(z:Nat->List V->Ob Y):Nat->Int->Nat->Int->Int->List V->Ob Y
 | 0,_,_,_,_,_=>none
 | n+1,F,C,D,E,H=>Cz L F C D E H (λF C D E H=>u6 L z n F C D E H) z
theorem yC(L:Nat)(K:KT Y):∀ (n:Nat) (F:Int) (z:Nat) (D E:Int) (C:List V),dW (cz kQ (kU L) 0 L tK) u2 n (oz F z D E C) K=u6 L (λz C=>K (.exit 0) (wE z C)) n F z D E C:=by
 intro n; induction n <;> intros
 ·rfl
 ·exact (J3 ..).trans (by simp only [*]; rfl)
def DI(L:Nat)(D I:Int)(C:Ls->Ob Y):Ob Y:=KI L D I (λD z F H E=>u6 L (λz E=>Aj L z E C) L D z F H E)
theorem Qr(L:Nat)(z C:Int)(k:KK Y):dx kQ (kU L) L cf_ref01_little [(QQd z),(QQe C)] [] k=DI L z C (λz=>k (V.fr 1 z) []):=by
 refine (QI L z C k).trans ?_
 unfold DI
 first
  | (simp only [yC,Hb]; done)
  | (simp only [yC]; rfl)
abbrev sR:=∀ (Y:Type),Nat->Int->Int->(Ls->Ob Y)->Ob Y
def gW:sR:=λY=>@DI Y
def DA(gW:sR)(L:Nat):Dk:=dA (AI .u64) λz=>dA (AI .i64) λC=>d0 λY k=>gW Y L z C (λz=>k (V.fr 1 z) [])
theorem Qz(L:Nat):DK (DA gW L) (λ_=>dx kQ (kU L) L cf_ref01_little):=dy gX λz=>dy gX λC=>fS λ_ k=>Qr L z C k
def EH:CF:=cfD B8 70
def wC:Nat->Sh:=f9 []
def wA(gW:sR)(cQ:f7)(L:Nat):CBC:=(eL 193 (tb cQ L) (eL 194 (DA gW L) noC))
def xH(gW:sR)(cQ:f7)(L:Nat)(C:Ls)(D:Int)(z:Ls->Ob Y):Ob Y:=lt (Wbf .u64 D) λE=>gW Y L E (4:Int) (λF=>cQ Y L C F (λH=>z H))
theorem LO(gW:sR)(cQ:f7)(L:Nat)(z:Ls)(C:Int)(k:KK Y):dx wC (wA gW cQ L) L EH [(V.sl 1 z),(QQc C)] [] k=xH gW cQ L z C (λz=>k (V.gs 1 z) []):=by kernel_rfl
abbrev pa:=∀ (Y:Type),Nat->Ls->Int->(Ls->Ob Y)->Ob Y
def fU:pa:=λY=>@xH Y gW cQ
def yf(fU:pa)(L:Nat):Dk:=dA (AL 1) λz=>dA (AI .u32) λC=>d0 λY k=>fU Y L z C (λz=>k (V.gs 1 z) [])
theorem Mo(L:Nat):DK (yf fU L) (λ_=>dx wC (wA gW cQ L) L EH):=dy ji λz=>dy gX λC=>fS λ_ k=>LO gW cQ L z C k
end
end
end Go.Proofs.YtipklgbboecciaaGreat
