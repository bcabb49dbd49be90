/- Part 12 of the proof of ScanNext: an abstract machine over plain values, its soundness, and the functions of the program on plain values. -/
import Derived.Test.YtipklgbboecciaaGreatMScanNext11
namespace Go.Proofs.YtipklgbboecciaaGreat
set_option maxRecDepth 100000
set_option linter.unusedVariables false
set_option linter.unusedSimpArgs false
open List renaming length->WcJ,take->WcK,replicate->Wad,map->WbO,drop->WcM,flatten->WcN
open IntKind renaming wrap->Wbf
open Int renaming toNat->WcL
section
noncomputable section
variable {Y:Type}
def cf_ref03_Pad:CF:=cfD GX 151
def tD:CC:=eS [1,1,1,0,1,0,0] cf_ref03_Pad.body
def wH:CC:=eS [1,1,0,0,0] cf_ref03_Pad.body
def EJ:CC:=eS [1,1,1,1] cf_ref03_Pad.body
def z9:CC:=eS [1,1,1] cf_ref03_Pad.body
def gP:Nat->Sh:=fR []
def gS(L:Nat):CBC:=noC
def yw:St->St:=fF 0 (bl 9 31) (bl 2147385087 31)
def uK:St->St:=fF 0 (bl 25 31) (bl 1342177279 31)
def ou(z:Int)(C:Ls):St:=⟨((QQd z)::(jn 2 ((V.gs 1 C)::(jn 27 [])))),(gn 31 [])⟩
def sE(z:Int)(C:Ls):St:=⟨((QQd z)::(jn 2 ((V.gs 1 C)::(jn 27 [])))),(gn 31 [])⟩
def m6(z:Int)(C:Ls)(D:Int):St:=⟨((QQd z)::(jn 2 ((V.gs 1 C)::((QQe D)::(jn 26 []))))),(gn 31 [])⟩
def yI(z:Ls):St:=⟨(jn 3 ((V.gs 1 z)::(jn 27 []))),(gn 31 [])⟩
def FR(L:Nat)(C:Int)(z:Int->Ls->Ob Y):Ob Y:=z C (cz 1 1 [(QQa (128:Int))])
theorem Se(L:Nat)(z:Int)(k:KK Y):dj gP (gS L) L cf_ref03_Pad [(QQd z)] [] k=FR L z (λz C=>dX (cC gP (gS L) 0 L wH) yw L (ou z C) (cV 0 (dN (cC gP (gS L) 0 L z9) (eo 0 (CF.res cf_ref03_Pad) k)))):=by kernel_rfl
def xH(L:Nat)(D:Int)(C:Ls)(z:Int->Ls->Ob Y)(E:Int->Ls->Ob Y):Ob Y:=lt (Wbf .u64 ((WcJ C:Nat):Int)) λF=>lt (Wbf .u64 ((D:Int)+F)) λH=>lt (Wbf .u64 ((H:Int)+(8:Int))) λI=>lt (Int.tmod I (64:Int)) λJ=>ifb ((J:Int) != (0:Int)) (chk ((WcJ C+WcJ (cz 1 1 [(QQa (0:Int))]))*1<=cy/\WcJ C+WcJ (cz 1 1 [(QQa (0:Int))])<=cy) (lt (C++(cz 1 1 [(QQa (0:Int))])) λM=>z D M)) (E D C)
theorem JU(L:Nat)(z:Int)(C:Ls)(X:St->Ob Y)(K:KT Y):cC gP (gS L) 0 L wH (ou z C) (fN yw X K)=xH L z C (λz C=>X (ou z C)) (λz C=>K (.exit 0) (sE z C)):=by kernel_rfl
def vp(L:Nat)(C:Int)(D:Ls)(z:Int->Ls->Int->Ob Y):Ob Y:=z C D (7:Int)
theorem Hp(L:Nat)(z:Int)(C:Ls)(k:KK Y):(cV 0 (dN (cC gP (gS L) 0 L z9) (eo 0 (CF.res cf_ref03_Pad) k))) (.exit 0) (sE z C)=vp L z C (λz C D=>dX (cC gP (gS L) 0 L tD) uK L (m6 z C D) (cV 2 (dN (cC gP (gS L) 0 L EJ) (eo 0 (CF.res cf_ref03_Pad) k)))):=by kernel_rfl
def mR(L:Nat)(H:Int)(C:Ls)(D:Int)(z:Int->Ls->Int->Ob Y)(E:Ls->Ob Y):Ob Y:=ifb (decide (D>=(0:Int))) (lt (Wbf .u64 (((8:Int):Int)*H)) λM=>lt (Wbf .i64 (((8:Int):Int)*D)) λI=>chk (0<=I) (lt (Kd .u64 M I) λN=>lt (Wbf .u8 N) λF=>chk ((WcJ C+WcJ (cz 1 1 [(QQa F)]))*1<=cy/\WcJ C+WcJ (cz 1 1 [(QQa F)])<=cy) (lt (C++(cz 1 1 [(QQa F)])) λO=>lt (Wbf .i64 ((D:Int)-(1:Int))) λJ=>z H O J))) (E C)
theorem HR(L:Nat)(C:Int)(z:Ls)(D:Int)(X:St->Ob Y)(K:KT Y):cC gP (gS L) 0 L tD (m6 C z D) (fN uK X K)=mR L C z D (λC z D=>X (m6 C z D)) (λz=>K (.exit 2) (yI z)):=by kernel_rfl
def rT(L:Nat)(C:Ls)(z:Ls->Ob Y):Ob Y:=z C
theorem FW(L:Nat)(z:Ls)(k:KK Y):(cV 2 (dN (cC gP (gS L) 0 L EJ) (eo 0 (CF.res cf_ref03_Pad) k))) (.exit 2) (yI z)=rT L z (λC=>k (V.gs 1 C) []):=by kernel_rfl
def oK(L:Nat)(z:Int->Ls->Ob Y):Nat->Int->Ls->Ob Y
 | 0,_,_=>none
 | n+1,C,D=>xH L C D (λC D=>oK L z n C D) z
theorem AP(L:Nat)(K:KT Y):∀ (n:Nat) (z:Int) (C:Ls),dX (cC gP (gS L) 0 L wH) yw n (ou z C) K=oK L (λz C=>K (.exit 0) (sE z C)) n z C:=by
 intro n; induction n <;> intros
 ·rfl
 ·exact (JU ..).trans (by simp only [*]; rfl)
def lz(L:Nat)(z:Ls->Ob Y):Nat->Int->Ls->Int->Ob Y
 | 0,_,_,_=>none
 | n+1,C,D,E=>mR L C D E (λC D E=>lz L z n C D E) z
theorem yC(L:Nat)(K:KT Y):∀ (n:Nat) (C:Int) (z:Ls) (D:Int),dX (cC gP (gS L) 0 L tD) uK n (m6 C z D) K=lz L (λz=>K (.exit 2) (yI z)) n C z D:=by
 intro n; induction n <;> intros
 ·rfl
 ·exact (HR ..).trans (by simp only [*]; rfl)
def oA(L:Nat)(D:Int)(z:Ls)(C:Ls->Ob Y):Ob Y:=vp L D z (λD z E=>lz L (λz=>rT L z C) L D z E)
theorem Gs(L:Nat)(z:Int)(C:Ls)(k:KK Y):(cV 0 (dN (cC gP (gS L) 0 L z9) (eo 0 (CF.res cf_ref03_Pad) k))) (.exit 0) (sE z C)=oA L z C (λz=>k (V.gs 1 z) []):=by
 refine (Hp L z C k).trans ?_
 unfold oA
 first
  | (simp only [yC,FW]; done)
  | (simp only [yC]; rfl)
def AF(L:Nat)(z:Int)(C:Ls->Ob Y):Ob Y:=FR L z (λz D=>oK L (λz D=>oA L z D C) L z D)
theorem RX(L:Nat)(z:Int)(k:KK Y):dj gP (gS L) L cf_ref03_Pad [(QQd z)] [] k=AF L z (λz=>k (V.gs 1 z) []):=by
 refine (Se L z k).trans ?_
 unfold AF
 first
  | (simp only [AP,Gs]; done)
  | (simp only [AP]; rfl)
abbrev Nk:=∀ (Y:Type),Nat->Int->(Ls->Ob Y)->Ob Y
def oX:Nk:=λY=>@AF Y
def M5(oX:Nk)(L:Nat):Dk:=dA (AI .u64) λz=>d0 λY k=>oX Y L z (λz=>k (V.gs 1 z) [])
theorem Sx(L:Nat):DK (M5 oX L) (λ_=>dj gP (gS L) L cf_ref03_Pad):=dk gm λz=>fC λ_ k=>RX L z k
abbrev eW:=∀ (Y:Type),Nat->List V->List V->List V->(Int->Ob Y)->Ob Y
def cj:eW:=λY L z C D kf=>opD (cN rows) 300 476 L Y [(V.agg z),(V.agg C),(V.agg D)] [] λv _=>(AI .i64) Y v λp=>kf p
def BI(cj:eW)(L:Nat):Dk:=dA AG λz=>dA AG λC=>dA AG λD=>d0 λY k=>cj Y L z C D (λE=>k (QQe E) [])
theorem N7(L:Nat):DK (BI cj L) (opD (cN rows) 300 476 L):=dk fO λz=>dk fO λC=>dk fO λD=>As gm [(V.agg z),(V.agg C),(V.agg D)] λ_ _ _=>rfl
abbrev fk:=∀ (Y:Type),Nat->List V->(List V->Ob Y)->Ob Y
def co:fk:=λY L z kf=>opD (cN rows) 300 429 L Y [(V.agg z)] [] λv _=>AG Y v λp=>kf p
def CZ(co:fk)(L:Nat):Dk:=dA AG λz=>d0 λY k=>co Y L z (λC=>k (V.agg C) [])
theorem PW(L:Nat):DK (CZ co L) (opD (cN rows) 300 429 L):=dk fO λz=>As fO [(V.agg z)] λ_ _ _=>rfl
abbrev eg:=∀ (Y:Type),Nat->List V->Int->(Int->Ob Y)->Ob Y
def bV:eg:=λY L z C kf=>opD (cN rows) 300 472 L Y [(V.agg z),(QQe C)] [] λv _=>(AI .i64) Y v λp=>kf p
def xG(bV:eg)(L:Nat):Dk:=dA AG λz=>dA (AI .i64) λC=>d0 λY k=>bV Y L z C (λD=>k (QQe D) [])
theorem JW(L:Nat):DK (xG bV L) (opD (cN rows) 300 472 L):=dk fO λz=>dk gm λC=>As gm [(V.agg z),(QQe C)] λ_ _ _=>rfl
def cf_ref23_find:CF:=cfD ER 114
def uP:CC:=eS [1,0,1,0,0] cf_ref23_find.body
def z5:CC:=eS [1,1] cf_ref23_find.body
def jT:Nat->Sh:=fR []
def jS(L:Nat):CBC:=noC
def wM:St->St:=fF 0 (bl 393 20) (bl 1048527 20)
def nP(z:Ls)(C D:Int)(E:List V):St:=⟨((V.sl 37 z)::(jn 2 ((V.ptr 3 0)::(jn 3 ((QQe C)::((QQe D)::(jn 11 []))))))),(gn 3 ((.live true E)::(gn 16 [])))⟩
def u1(z:Int):St:=⟨(jn 4 ((QQe z)::(jn 15 []))),(gn 20 [])⟩
def wI:St:=⟨(jn 20 []),(gn 20 [])⟩
def Du(L:Nat)(C:Ls)(D:List V)(z:Ls->Int->Int->List V->Ob Y):Ob Y:=z C ((WcJ C:Nat):Int) (0:Int) D
theorem Qj(L:Nat)(z:Ls)(C:List V)(k:KK Y):dj jT (jS L) L cf_ref23_find [(V.sl 37 z),(V.agg C)] [] k=Du L z C (λz D E F=>dX (cC jT (jS L) 0 L uP) wM L (nP z D E F) (cV 0 (dN (cC jT (jS L) 0 L z5) (eo 0 (CF.res cf_ref23_find) k)))):=by kernel_rfl
def wD(L:Nat)(H:Ls)(I C:Int)(E:List V)(D:Int->Ob Y)(z:Ls->Int->Int->List V->Ob Y)(F:Ob Y):Ob Y:=ifb (decide (C<I)) (idx H C λJ=>chk (0+33<=(WcJ E)) (eqC 33 (WcK 33 J) (WcK 33 E) λM=>ifb M (D C) (lt (Wbf .i64 ((C:Int)+(1:Int))) λN=>z H I N E))) (F)
theorem Jn(L:Nat)(z:Ls)(C D:Int)(E:List V)(X:St->Ob Y)(K:KT Y):cC jT (jS L) 0 L uP (nP z C D E) (fN wM X K)=wD L z C D E (λF=>K .ret (u1 F)) (λz C D E=>X (nP z C D E)) (K (.exit 0) (wI)):=by kernel_rfl
def nY(L:Nat)(C:Int)(z:Int->Ob Y):Ob Y:=z C
theorem Gd(L:Nat)(z:Int)(k:KK Y):(cV 0 (dN (cC jT (jS L) 0 L z5) (eo 0 (CF.res cf_ref23_find) k))) .ret (u1 z)=nY L z (λC=>k (QQe C) []):=by kernel_rfl
def ot(L:Nat)(z:Int->Ob Y):Ob Y:=z (-1:Int)
theorem G3(L:Nat)(k:KK Y):(cV 0 (dN (cC jT (jS L) 0 L z5) (eo 0 (CF.res cf_ref23_find) k))) (.exit 0) (wI)=ot L (λz=>k (QQe z) []):=by kernel_rfl
def nG(L:Nat)(z:Int->Ob Y)(C:Ob Y):Nat->Ls->Int->Int->List V->Ob Y
 | 0,_,_,_,_=>none
 | n+1,D,E,F,H=>wD L D E F H z (λD E F H=>nG L z C n D E F H) C
theorem zb(L:Nat)(K:KT Y):∀ (n:Nat) (z:Ls) (C D:Int) (E:List V),dX (cC jT (jS L) 0 L uP) wM n (nP z C D E) K=nG L (λF=>K .ret (u1 F)) (K (.exit 0) (wI)) n z C D E:=by
 intro n; induction n <;> intros
 ·rfl
 ·exact (Jn ..).trans (by simp only [*]; rfl)
def yF(L:Nat)(C:Ls)(D:List V)(z:Int->Ob Y):Ob Y:=Du L C D (λC E F H=>nG L (λI=>nY L I z) (ot L z) L C E F H)
theorem Rk(L:Nat)(z:Ls)(C:List V)(k:KK Y):dj jT (jS L) L cf_ref23_find [(V.sl 37 z),(V.agg C)] [] k=yF L z C (λz=>k (QQe z) []):=by
 refine (Qj L z C k).trans ?_
 unfold yF
 first
  | (simp only [zb,Gd,G3]; done)
  | (simp only [zb]; rfl)
abbrev dr:=∀ (Y:Type),Nat->Ls->List V->(Int->Ob Y)->Ob Y
def bP:dr:=λY=>@yF Y
def yf(bP:dr)(L:Nat):Dk:=dA (AL 37) λz=>dA AG λC=>d0 λY k=>bP Y L z C (λz=>k (QQe z) [])
theorem Q4(L:Nat):DK (yf bP L) (λ_=>dj jT (jS L) L cf_ref23_find):=dk ik λz=>dk fO λC=>fC λ_ k=>Rk L z C k
def Eu:CF:=cfD Cl 95
def yH:Nat->Sh:=fR []
def xz(L:Nat):CBC:=noC
def ue(L:Nat)(z C:Ls)(D:Ls->Ob Y):Ob Y:=lt (Wbf .i64 ((((WcJ z:Nat):Int):Int)+((WcJ C:Nat):Int))) λE=>chk (0<=(0:Int)/\(0:Int)<=E/\(WcL E)*1<=cy/\E<=cy) (chk ((WcJ (Wad 0 [(QQa (0:Int))])+WcJ z)*1<=cy/\WcJ (Wad 0 [(QQa (0:Int))])+WcJ z<=cy) (lt ((Wad 0 [(QQa (0:Int))])++z) λF=>chk ((WcJ F+WcJ C)*1<=cy/\WcJ F+WcJ C<=cy) (lt (F++C) λH=>D H)))
theorem Mp(L:Nat)(z C:Ls)(k:KK Y):dj yH (xz L) L Eu [(V.sl 1 z),(V.sl 1 C)] [] k=ue L z C (λz=>k (V.gs 1 z) []):=by kernel_rfl
abbrev fo:=∀ (Y:Type),Nat->Ls->Ls->(Ls->Ob Y)->Ob Y
def cA:fo:=λY=>@ue Y
def pz(cA:fo)(L:Nat):Dk:=dA (AL 1) λz=>dA (AL 1) λC=>d0 λY k=>cA Y L z C (λz=>k (V.gs 1 z) [])
theorem MR(L:Nat):DK (pz cA L) (λ_=>dj yH (xz L) L Eu):=dk ik λz=>dk ik λC=>fC λ_ k=>Mp L z C k
def cf_ref01_Join:CF:=cfD Fb 157
def tx:CC:=eS [1,1,0,1,0,0] cf_ref01_Join.body
def EB:CC:=eS [1,1,1] cf_ref01_Join.body
def kD:Nat->Sh:=fR [(11,(.sl 1))]
def kC(cA:fo)(L:Nat):CBC:=(d6 193 (pz cA L) noC)
def ve:St->St:=fF 0 (bl 456 17) (bl 114655 17)
def mW(z C:Ls)(D E:Int):St:=⟨(jn 3 ((V.gs 1 z)::(jn 2 ((V.sl 1 C)::((QQe D)::((QQe E)::(jn 8 []))))))),(gn 17 [])⟩
def wk(z:Ls):St:=⟨(jn 3 ((V.gs 1 z)::(jn 13 []))),(gn 17 [])⟩
def Dx(cA:fo)(L:Nat)(C:Ls)(z:Ls->Ls->Int->Int->Ob Y):Ob Y:=z ([]:Ls) C ((WcJ C:Nat):Int) (0:Int)
theorem PO(cA:fo)(L:Nat)(z:Ls)(k:KK Y):dj kD (kC cA L) L cf_ref01_Join [(V.sl 1 z)] [] k=Dx cA L z (λC D E F=>dX (cC kD (kC cA L) 0 L tx) ve L (mW C D E F) (cV 0 (dN (cC kD (kC cA L) 0 L EB) (eo 0 (CF.res cf_ref01_Join) k)))):=by kernel_rfl
def u7(cA:fo)(L:Nat)(E F:Ls)(H C:Int)(z:Ls->Ls->Int->Int->Ob Y)(D:Ls->Ob Y):Ob Y:=ifb (decide (C<H)) (idx F C λI=>cL 1 I 0 λJ=>cA Y L E J (λM=>lt (Wbf .i64 ((C:Int)+(1:Int))) λN=>z M F H N)) (D E)
theorem Im(cA:fo)(L:Nat)(z C:Ls)(D E:Int)(X:St->Ob Y)(K:KT Y):cC kD (kC cA L) 0 L tx (mW z C D E) (fN ve X K)=u7 cA L z C D E (λz C D E=>X (mW z C D E)) (λz=>K (.exit 0) (wk z)):=by kernel_rfl
def zj(cA:fo)(L:Nat)(C:Ls)(z:Ls->Ob Y):Ob Y:=z C
theorem F6(cA:fo)(L:Nat)(z:Ls)(k:KK Y):(cV 0 (dN (cC kD (kC cA L) 0 L EB) (eo 0 (CF.res cf_ref01_Join) k))) (.exit 0) (wk z)=zj cA L z (λC=>k (V.gs 1 C) []):=by kernel_rfl
def o9(cA:fo)(L:Nat)(z:Ls->Ob Y):Nat->Ls->Ls->Int->Int->Ob Y
 | 0,_,_,_,_=>none
 | n+1,C,D,E,F=>u7 cA L C D E F (λC D E F=>o9 cA L z n C D E F) z
theorem xZ(cA:fo)(L:Nat)(K:KT Y):∀ (n:Nat) (z C:Ls) (D E:Int),dX (cC kD (kC cA L) 0 L tx) ve n (mW z C D E) K=o9 cA L (λz=>K (.exit 0) (wk z)) n z C D E:=by
 intro n; induction n <;> intros
 ·rfl
 ·exact (Im ..).trans (by simp only [*]; rfl)
def yG(cA:fo)(L:Nat)(D:Ls)(z:Ls->Ob Y):Ob Y:=Dx cA L D (λC E F H=>o9 cA L (λC=>zj cA L C z) L C E F H)
theorem Po(cA:fo)(L:Nat)(z:Ls)(k:KK Y):dj kD (kC cA L) L cf_ref01_Join [(V.sl 1 z)] [] k=yG cA L z (λz=>k (V.gs 1 z) []):=by
 refine (PO cA L z k).trans ?_
 unfold yG
 first
  | (simp only [xZ,F6]; done)
  | (simp only [xZ]; rfl)
abbrev sQ:=∀ (Y:Type),Nat->Ls->(Ls->Ob Y)->Ob Y
def f0:sQ:=λY=>@yG Y cA
def DG(f0:sQ)(L:Nat):Dk:=dA (AL 1) λz=>d0 λY k=>f0 Y L z (λz=>k (V.gs 1 z) [])
theorem O5(L:Nat):DK (DG f0 L) (λ_=>dj kD (kC cA L) L cf_ref01_Join):=dk ik λz=>fC λ_ k=>Po cA L z k
def Cc:CF:=cfD zm 139
def uL:Nat->Sh:=fR [(1,(.row [(.int .u8),(.int .u8),(.int .u8),(.int .u8),(.int .u8),(.int .u8),(.int .u8),(.int .u8),(.int .u8),(.int .u8),(.int .u8),(.int .u8),(.int .u8),(.int .u8),(.int .u8),(.int .u8),(.int .u8),(.int .u8),(.int .u8),(.int .u8),(.int .u8),(.int .u8),(.int .u8),(.int .u8),(.int .u8),(.int .u8),(.int .u8),(.int .u8),(.int .u8),(.int .u8),(.int .u8),(.int .u8),(.int .u32),(.int .i64),(.sl 1),(.int .i64),.bool]))]
def uM(f0:sQ)(L:Nat):CBC:=(d6 453 (DG f0 L) noC)
def D1(f0:sQ)(L:Nat)(z:List V)(C:List V->Ob Y):Ob Y:=chk (WcJ z=37) (cI .u8 z 0 λv0=>cI .u8 z 1 λv1=>cI .u8 z 2 λv2=>cI .u8 z 3 λv3=>cI .u8 z 4 λv4=>cI .u8 z 5 λv5=>cI .u8 z 6 λv6=>cI .u8 z 7 λv7=>cI .u8 z 8 λv8=>cI .u8 z 9 λv9=>cI .u8 z 10 λE=>cI .u8 z 11 λF=>cI .u8 z 12 λH=>cI .u8 z 13 λI=>cI .u8 z 14 λJ=>cI .u8 z 15 λM=>cI .u8 z 16 λN=>cI .u8 z 17 λO=>cI .u8 z 18 λP=>cI .u8 z 19 λQ=>cI .u8 z 20 λR=>cI .u8 z 21 λS=>cI .u8 z 22 λT=>cI .u8 z 23 λU=>cI .u8 z 24 λc9=>cI .u8 z 25 λX=>cI .u8 z 26 λc8=>cI .u8 z 27 λb9=>cI .u8 z 28 λaa=>cI .u8 z 29 λab=>cI .u8 z 30 λac=>cI .u8 z 31 λad=>cI .u32 z 32 λag=>cI .i64 z 33 λan=>cL 1 z 34 λao=>cI .i64 z 35 λap=>cB z 36 λaq=>f0 Y L (cz 1 1 [(V.sl 1 ao)]) (λar=>lt [(QQa v0),(QQa v1),(QQa v2),(QQa v3),(QQa v4),(QQa v5),(QQa v6),(QQa v7),(QQa v8),(QQa v9),(QQa E),(QQa F),(QQa H),(QQa I),(QQa J),(QQa M),(QQa N),(QQa O),(QQa P),(QQa Q),(QQa R),(QQa S),(QQa T),(QQa U),(QQa c9),(QQa X),(QQa c8),(QQa b9),(QQa aa),(QQa ab),(QQa ac),(QQa ad),(QQc ag),(QQe an),(V.sl 1 ar),(QQe ap),(V.sc (.bool aq))] λD=>chk (0=0/\(WcJ D)=37/\37≠0) (C D)))
theorem Jk(f0:sQ)(L:Nat)(z:List V)(k:KK Y):dj uL (uM f0 L) L Cc [(V.agg z)] [] k=D1 f0 L z (λz=>k (V.agg z) []):=by kernel_rfl
abbrev dQ:=∀ (Y:Type),Nat->List V->(List V->Ob Y)->Ob Y
def bX:dQ:=λY=>@D1 Y f0
def wS(bX:dQ)(L:Nat):Dk:=dA AG λz=>d0 λY k=>bX Y L z (λz=>k (V.agg z) [])
theorem Jc(L:Nat):DK (wS bX L) (λ_=>dj uL (uM f0 L) L Cc):=dk fO λz=>fC λ_ k=>Jk f0 L z k
def cf_ref23_spent:CF:=cfD DU 111
def qD:CC:=eS [1,1,1,0,1,0,0] cf_ref23_spent.body
def rR:CC:=eS [1,1,0,1,0,0] cf_ref23_spent.body
def uZ:CC:=eS [1,1,1,1] cf_ref23_spent.body
def qo:CC:=eS [1,1,1] cf_ref23_spent.body
def fH:Nat->Sh:=fR [(17,(.sl 35)),(45,.bool),(49,(.int .i64)),(52,(.int .i64))]
def fL(bP:dr)(bX:dQ)(L:Nat):CBC:=(d6 441 (wS bX L) (d6 480 (yf bP L) noC))
def tN:St->St:=fF 0 (bl 918554 57) (bl 144115067749616831 57)
def rK:St->St:=fF 0 (bl 1924145349656 57) (bl 144115188075818175 57)
def mH(F:Ls)(H:Int)(z C:Ls)(D E:Int)(I:List V):St:=⟨(jn 1 ((V.sl 37 F)::(jn 1 ((QQe H)::((V.ptr 4 0)::(jn 5 ((V.gs 37 z)::(jn 6 ((V.sl 35 C)::((QQe D)::((QQe E)::(jn 37 [])))))))))))),(gn 4 ((.live true I)::(gn 52 [])))⟩
def kM(z:Ls)(C:Int):St:=⟨(jn 8 ((V.gs 37 z)::((QQe C)::(jn 47 [])))),(gn 57 [])⟩
def pe(C:Int)(z:Ls)(D:List V):St:=⟨(jn 3 ((QQe C)::((V.ptr 4 0)::(jn 5 ((V.gs 37 z)::(jn 46 [])))))),(gn 4 ((.live true D)::(gn 52 [])))⟩
def mg(F:Int)(z C:Ls)(D E:Int)(H:List V):St:=⟨(jn 3 ((QQe F)::((V.ptr 4 0)::(jn 5 ((V.gs 37 z)::(jn 27 ((V.sl 37 C)::((QQe D)::((QQe E)::(jn 16 [])))))))))),(gn 4 ((.live true H)::(gn 52 [])))⟩
def vb(z:Ls):St:=⟨(jn 10 ((V.gs 37 z)::(jn 46 []))),(gn 57 [])⟩
abbrev za(Y:Type):Type:=Ls->Int->Ls->Ls->Int->Int->List V->Ob Y
abbrev yu(Y:Type):Type:=Int->Ls->Ls->Int->Int->List V->Ob Y
def BT(bP:dr)(bX:dQ)(L:Nat)(D:List V)(E:Ls)(F:List V)(H:Int)(z:za Y):Ob Y:=cLd 35 F 1 λC=>z E H ([]:Ls) C ((WcJ C:Nat):Int) (0:Int) D
theorem OM(bP:dr)(bX:dQ)(L:Nat)(D:List V)(z:Ls)(E:List V)(C:Int)(k:KK Y):dj fH (fL bP bX L) L cf_ref23_spent [(V.agg D),(V.sl 37 z),(V.agg E),(QQe C)] [] k=BT bP bX L D z E C (λz C F H I J M=>dX (cC fH (fL bP bX L) 0 L rR) tN L (mH z C F H I J M) (cV 0 (dN (cC fH (fL bP bX L) 0 L qo) (eo 0 (CF.res cf_ref23_spent) k)))):=by kernel_rfl
def sU(bP:dr)(bX:dQ)(L:Nat)(J:Ls)(N:Int)(C H:Ls)(I D:Int)(O:List V)(E:Ls->Int->Ob Y)(z:za Y)(M:Int->Ls->List V->Ob Y):Ob Y:=ifb (decide (D<I)) (idx H D λP=>chk ((WcJ (WcK 35 P))=35/\0+35<=35) (lt (cD (Wad 32 (QQa (0:Int))++[(QQc (0:Int)),(QQc (0:Int)),(V.gs 1 ([]:Ls))]) 0 (WcK 35 P)) λQ=>chk (0+33<=(WcJ Q)) (bP Y L J (WcK 33 Q) (λR=>ifb (decide (R<(0:Int))) (E ([]:Ls) (101:Int)) (idx J R λS=>bX Y L (WbO V.ag (WcK 37 S)) (λF=>chk ((WcJ F)=37/\0+37<=37) (chk ((WcJ C+WcJ (cz 37 1 (cD (Wad 32 (QQa (0:Int))++[(QQc (0:Int)),(QQe (0:Int)),(V.sl 1 ([]:Ls)),(QQe (0:Int)),(V.sc (.bool false))]) 0 F)))*88<=cy/\WcJ C+WcJ (cz 37 1 (cD (Wad 32 (QQa (0:Int))++[(QQc (0:Int)),(QQe (0:Int)),(V.sl 1 ([]:Ls)),(QQe (0:Int)),(V.sc (.bool false))]) 0 F))<=cy) (lt (C++(cz 37 1 (cD (Wad 32 (QQa (0:Int))++[(QQc (0:Int)),(QQe (0:Int)),(V.sl 1 ([]:Ls)),(QQe (0:Int)),(V.sc (.bool false))]) 0 F))) λT=>lt (Wbf .i64 ((D:Int)+(1:Int))) λU=>z J N T H I U O)))))))) (M N C O)
theorem Hc(bP:dr)(bX:dQ)(L:Nat)(I:Ls)(F:Int)(z C:Ls)(D E:Int)(H:List V)(X:St->Ob Y)(K:KT Y):cC fH (fL bP bX L) 0 L rR (mH I F z C D E H) (fN tN X K)=sU bP bX L I F z C D E H (λJ M=>K .ret (kM J M)) (λI F z C D E H=>X (mH I F z C D E H)) (λF z H=>K (.exit 0) (pe F z H)):=by kernel_rfl
def wW(bP:dr)(bX:dQ)(L:Nat)(C:Ls)(D:Int)(z:Ls->Int->Ob Y):Ob Y:=z C D
theorem DX(bP:dr)(bX:dQ)(L:Nat)(D:Ls)(E:Int)(k:KK Y):(cV 0 (dN (cC fH (fL bP bX L) 0 L qo) (eo 0 (CF.res cf_ref23_spent) k))) .ret (kM D E)=wW bP bX L D E (λz C=>k (V.ah [(V.gs 37 z),(QQe C)]) []):=by kernel_rfl
def qV(bP:dr)(bX:dQ)(L:Nat)(D:Int)(C:Ls)(E:List V)(z:yu Y):Ob Y:=z D C C ((WcJ C:Nat):Int) (0:Int) E
theorem Eb(bP:dr)(bX:dQ)(L:Nat)(C:Int)(z:Ls)(D:List V)(k:KK Y):(cV 0 (dN (cC fH (fL bP bX L) 0 L qo) (eo 0 (CF.res cf_ref23_spent) k))) (.exit 0) (pe C z D)=qV bP bX L C z D (λC z E F H D=>dX (cC fH (fL bP bX L) 0 L qD) rK L (mg C z E F H D) (cV 2 (dN (cC fH (fL bP bX L) 0 L uZ) (eo 0 (CF.res cf_ref23_spent) k)))):=by kernel_rfl
def nV(bP:dr)(bX:dQ)(L:Nat)(I:Int)(D E:Ls)(F C:Int)(J:List V)(H:Ls->Int->Ob Y)(z:yu Y)(M:Ls->Ob Y):Ob Y:=ifb (decide (C<F)) (idx E C λN=>chk ((WcJ (WcK 37 N))=37/\0+37<=37) (lt (cD (Wad 32 (QQa (0:Int))++[(QQc (0:Int)),(QQe (0:Int)),(V.gs 1 ([]:Ls)),(QQe (0:Int)),(V.sc (.bool false))]) 0 (WcK 37 N)) λO=>cB O 36 λP=>ifb P (cI .i64 O 35 λQ=>lt (Wbf .i64 ((I:Int)-Q)) λR=>cI .i64 J 79 λS=>ifb (decide (R<S)) (H ([]:Ls) (230:Int)) (lt (Wbf .i64 ((C:Int)+(1:Int))) λT=>z I D E F T J)) (lt (Wbf .i64 ((C:Int)+(1:Int))) λU=>z I D E F U J))) (M D)
theorem F0(bP:dr)(bX:dQ)(L:Nat)(F:Int)(z C:Ls)(D E:Int)(H:List V)(X:St->Ob Y)(K:KT Y):cC fH (fL bP bX L) 0 L qD (mg F z C D E H) (fN rK X K)=nV bP bX L F z C D E H (λI J=>K .ret (kM I J)) (λF z C D E H=>X (mg F z C D E H)) (λz=>K (.exit 2) (vb z)):=by kernel_rfl
def oY(bP:dr)(bX:dQ)(L:Nat)(C:Ls)(D:Int)(z:Ls->Int->Ob Y):Ob Y:=z C D
theorem CM(bP:dr)(bX:dQ)(L:Nat)(D:Ls)(E:Int)(k:KK Y):(cV 2 (dN (cC fH (fL bP bX L) 0 L uZ) (eo 0 (CF.res cf_ref23_spent) k))) .ret (kM D E)=oY bP bX L D E (λz C=>k (V.ah [(V.gs 37 z),(QQe C)]) []):=by kernel_rfl
def pR(bP:dr)(bX:dQ)(L:Nat)(C:Ls)(z:Ls->Int->Ob Y):Ob Y:=z C (0:Int)
theorem Dd(bP:dr)(bX:dQ)(L:Nat)(z:Ls)(k:KK Y):(cV 2 (dN (cC fH (fL bP bX L) 0 L uZ) (eo 0 (CF.res cf_ref23_spent) k))) (.exit 2) (vb z)=pR bP bX L z (λC D=>k (V.ah [(V.gs 37 C),(QQe D)]) []):=by kernel_rfl
def oF(bP:dr)(bX:dQ)(L:Nat)(z:Ls->Int->Ob Y)(C:Int->Ls->List V->Ob Y):Nat->Ls->Int->Ls->Ls->Int->Int->List V->Ob Y
 | 0,_,_,_,_,_,_,_=>none
 | n+1,I,J,D,E,F,H,M=>sU bP bX L I J D E F H M z (λI J D E F H M=>oF bP bX L z C n I J D E F H M) C
theorem xc(bP:dr)(bX:dQ)(L:Nat)(K:KT Y):∀ (n:Nat) (I:Ls) (C:Int) (z E:Ls) (F H:Int) (D:List V),dX (cC fH (fL bP bX L) 0 L rR) tN n (mH I C z E F H D) K=oF bP bX L (λJ M=>K .ret (kM J M)) (λC z D=>K (.exit 0) (pe C z D)) n I C z E F H D:=by
 intro n; induction n <;> intros
 ·rfl
 ·exact (Hc ..).trans (by simp only [*]; rfl)
def kl(bP:dr)(bX:dQ)(L:Nat)(z:Ls->Int->Ob Y)(C:Ls->Ob Y):Nat->Int->Ls->Ls->Int->Int->List V->Ob Y
 | 0,_,_,_,_,_,_=>none
 | n+1,I,D,E,F,H,J=>nV bP bX L I D E F H J z (λI D E F H J=>kl bP bX L z C n I D E F H J) C
theorem vC(bP:dr)(bX:dQ)(L:Nat)(K:KT Y):∀ (n:Nat) (F:Int) (z C:Ls) (D E:Int) (H:List V),dX (cC fH (fL bP bX L) 0 L qD) rK n (mg F z C D E H) K=kl bP bX L (λI J=>K .ret (kM I J)) (λz=>K (.exit 2) (vb z)) n F z C D E H:=by
 intro n; induction n <;> intros
 ·rfl
 ·exact (F0 ..).trans (by simp only [*]; rfl)
def jE(bP:dr)(bX:dQ)(L:Nat)(D:Int)(z:Ls)(E:List V)(C:Ls->Int->Ob Y):Ob Y:=qV bP bX L D z E (λD z F H I E=>kl bP bX L (λJ M=>oY bP bX L J M C) (λz=>pR bP bX L z C) L D z F H I E)
theorem C6(bP:dr)(bX:dQ)(L:Nat)(C:Int)(z:Ls)(D:List V)(k:KK Y):(cV 0 (dN (cC fH (fL bP bX L) 0 L qo) (eo 0 (CF.res cf_ref23_spent) k))) (.exit 0) (pe C z D)=jE bP bX L C z D (λE F=>k (V.ah [(V.gs 37 E),(QQe F)]) []):=by
 refine (Eb bP bX L C z D k).trans ?_
 unfold jE
 first
  | (simp only [vC,CM,Dd]; done)
  | (simp only [vC]; rfl)
def vQ(bP:dr)(bX:dQ)(L:Nat)(M:List V)(E:Ls)(N:List V)(C:Int)(z:Ls->Int->Ob Y):Ob Y:=BT bP bX L M E N C (λE C D H I J F=>oF bP bX L (λO P=>wW bP bX L O P z) (λC D F=>jE bP bX L C D F z) L E C D H I J F)
theorem Ok(bP:dr)(bX:dQ)(L:Nat)(z:List V)(C:Ls)(D:List V)(E:Int)(k:KK Y):dj fH (fL bP bX L) L cf_ref23_spent [(V.agg z),(V.sl 37 C),(V.agg D),(QQe E)] [] k=vQ bP bX L z C D E (λF H=>k (V.ah [(V.gs 37 F),(QQe H)]) []):=by
 refine (OM bP bX L z C D E k).trans ?_
 unfold vQ
 first
  | (simp only [xc,DX,C6]; done)
  | (simp only [xc]; rfl)
abbrev eU:=∀ (Y:Type),Nat->List V->Ls->List V->Int->(Ls->Int->Ob Y)->Ob Y
def ce:eU:=λY=>@vQ Y bP bX
def BS(ce:eU)(L:Nat):Dk:=dA AG λD=>dA (AL 37) λE=>dA AG λF=>dA (AI .i64) λH=>d0 λY k=>ce Y L D E F H (λz C=>k (V.ah [(V.gs 37 z),(QQe C)]) [])
theorem Nx(L:Nat):DK (BS ce L) (λ_=>dj fH (fL bP bX L) L cf_ref23_spent):=dk fO λz=>dk ik λC=>dk fO λD=>dk gm λE=>fC λ_ k=>Ok bP bX L z C D E k
abbrev eX:=∀ (Y:Type),Nat->List V->Ls->Int->(Int->Int->Ob Y)->Ob Y
def cg:eX:=λY L z C D kf=>opD (cN rows) 300 478 L Y [(V.agg z),(V.sl 37 C),(QQe D)] [] λv _=>(AT2 (AI .i64) (AI .i64)) Y v λp=>kf p.1 p.2
def BD(cg:eX)(L:Nat):Dk:=dA AG λz=>dA (AL 37) λC=>dA (AI .i64) λD=>d0 λY k=>cg Y L z C D (λE F=>k (V.ah [(QQe E),(QQe F)]) [])
theorem Ov(L:Nat):DK (BD cg L) (opD (cN rows) 300 478 L):=dk fO λz=>dk ik λC=>dk gm λD=>As (zaF gm gm) [(V.agg z),(V.sl 37 C),(QQe D)] λ_ _ _=>rfl
abbrev fx:=∀ (Y:Type),Nat->Ls->List V->Int->(Ls->Int->Ob Y)->Ob Y
def cw:fx:=λY L z C D kf=>opD (cN rows) 300 481 L Y [(V.sl 37 z),(V.agg C),(QQe D)] [] λv _=>(AT2 (AGs 37) (AI .i64)) Y v λp=>kf p.1 p.2
def FL(cw:fx)(L:Nat):Dk:=dA (AL 37) λz=>dA AG λC=>dA (AI .i64) λD=>d0 λY k=>cw Y L z C D (λE F=>k (V.ah [(V.gs 37 E),(QQe F)]) [])
theorem RS(L:Nat):DK (FL cw L) (opD (cN rows) 300 481 L):=dk ik λz=>dk fO λC=>dk gm λD=>As (zaF zbt gm) [(V.sl 37 z),(V.agg C),(QQe D)] λ_ _ _=>rfl
abbrev d8:=∀ (Y:Type),Nat->List V->Int->(Ls->Ob Y)->Ob Y
def bW:d8:=λY L z C kf=>opD (cN rows) 300 483 L Y [(V.agg z),(QQe C)] [] λv _=>(AGs 37) Y v λp=>kf p
def yS(bW:d8)(L:Nat):Dk:=dA AG λz=>dA (AI .i64) λC=>d0 λY k=>bW Y L z C (λD=>k (V.gs 37 D) [])
theorem J8(L:Nat):DK (yS bW L) (opD (cN rows) 300 483 L):=dk fO λz=>dk gm λC=>As zbt [(V.agg z),(QQe C)] λ_ _ _=>rfl
abbrev eV:=∀ (Y:Type),Nat->Ls->(Int->Ob Y)->Ob Y
def ch:eV:=λY L z kf=>opD (cN rows) 300 482 L Y [(V.sl 37 z)] [] λv _=>(AI .i64) Y v λp=>kf p
def BQ(ch:eV)(L:Nat):Dk:=dA (AL 37) λz=>d0 λY k=>ch Y L z (λC=>k (QQe C) [])
theorem N1(L:Nat):DK (BQ ch L) (opD (cN rows) 300 482 L):=dk ik λz=>As gm [(V.sl 37 z)] λ_ _ _=>rfl
def Di:CF:=cfD Bp 113
def ww:Nat->Sh:=fR []
def wo(L:Nat):CBC:=noC
def xC(L:Nat)(z:Ls)(D:Int)(E:Ls->Ob Y):Ob Y:=chk (0<=D/\D<=(((WcJ z):Nat):Int)) (chk ((WcJ ([]:Ls)+WcJ (WcK ((WcL D)-0) (WcM 0 z)))*88<=cy/\WcJ ([]:Ls)+WcJ (WcK ((WcL D)-0) (WcM 0 z))<=cy) (lt (([]:Ls)++(WcK ((WcL D)-0) (WcM 0 z))) λF=>lt (Wbf .i64 ((D:Int)+(1:Int))) λC=>chk (0<=C/\C<=(((WcJ z):Nat):Int)) (chk ((WcJ F+WcJ (WcK ((WcJ z)-(WcL C)) (WcM (WcL C) z)))*88<=cy/\WcJ F+WcJ (WcK ((WcJ z)-(WcL C)) (WcM (WcL C) z))<=cy) (lt (F++(WcK ((WcJ z)-(WcL C)) (WcM (WcL C) z))) λH=>E H))))
theorem Kl(L:Nat)(z:Ls)(C:Int)(k:KK Y):dj ww (wo L) L Di [(V.sl 37 z),(QQe C)] [] k=xC L z C (λz=>k (V.gs 37 z) []):=by kernel_rfl
abbrev ed:=∀ (Y:Type),Nat->Ls->Int->(Ls->Ob Y)->Ob Y
def bU:ed:=λY=>@xC Y
def yA(bU:ed)(L:Nat):Dk:=dA (AL 37) λz=>dA (AI .i64) λC=>d0 λY k=>bU Y L z C (λz=>k (V.gs 37 z) [])
theorem K6(L:Nat):DK (yA bU L) (λ_=>dj ww (wo L) L Di):=dk ik λz=>dk gm λC=>fC λ_ k=>Kl L z C k
def cf_ref23_Connect:CF:=cfD A7 84
def i7:CC:=eS [1,1,1,1,0,1,0,0,1,1,0,0,1,0,1,0,1,1,1,1,0,1,0,0] cf_ref23_Connect.body
def mt:CC:=eS [1,1,1,1,0,1,0,0,1,1,0,0,1,0,1,0,1,1,1,1,1] cf_ref23_Connect.body
def o5:CC:=eS [1,1,1,1,0,1,0,0,1,1,0,0,1,1] cf_ref23_Connect.body
def q8:CC:=eS [1,1,1,1,0,1,0,0,1,1,1] cf_ref23_Connect.body
def lM:CC:=eS [1,1,1,1,0,1,0,0] cf_ref23_Connect.body
def qR:CC:=eS [1,1,1,1,1] cf_ref23_Connect.body
def eL:Nat->Sh:=fR [(32,(.int .i64)),(38,(.sl 37)),(43,(.int .i64)),(46,(.sl 4)),(58,(.sl 37)),(61,(.int .i64)),(74,(.int .i64)),(109,(.sl 37)),(112,(.int .i64)),(126,(.sl 4)),(130,(.int .i64)),(139,(.sl 37)),(146,(.sl 37)),(90,(.sl 37)),(92,(.sl 37))]
def eM(cj:eW)(co:fk)(bV:eg)(ce:eU)(cg:eX)(cw:fx)(bW:d8)(ch:eV)(bP:dr)(bU:ed)(L:Nat):CBC:=(d6 479 (yA bU L) (d6 480 (yf bP L) (d6 482 (BQ ch L) (d6 483 (yS bW L) (d6 481 (FL cw L) (d6 478 (BD cg L) (d6 477 (BS ce L) (d6 472 (xG bV L) (d6 429 (CZ co L) (d6 476 (BI cj L) noC))))))))))
def ja:St->St:=fF 0 (bl 492581209251048 153) (bl 11417981541574946208765741796140502961711488751 153)
def jo:St->St:=fF 0 (bl 67699845898911814992977128 153) (bl 11417981541647678929624043984199454700745523183 153)
def gL(D:Int)(E:Ls)(F H:Int)(J M N:List V)(C:Ls)(I:List V)(z:Ls):St:=⟨(jn 3 ((V.ptr 3 0)::(jn 1 ((V.ptr 5 0)::((V.ptr 6 0)::((V.ptr 7 0)::(jn 2 ((V.ptr 10 0)::((V.ptr 11 0)::((QQe D)::(jn 33 ((V.sl 4 E)::((QQe F)::((QQe H)::(jn 104 []))))))))))))))),(gn 3 ((.live true J)::(gn 1 ((.live true M)::((.live true N)::((.live true [(V.gs 37 C)])::(gn 2 ((.live true I)::((.live false [(V.gs 37 z)])::(gn 141 []))))))))))⟩
def lw(z:Int)(C D:List V):St:=⟨(jn 6 ((V.ptr 6 0)::((V.ptr 7 0)::((QQe z)::(jn 144 []))))),(gn 6 ((.live true C)::((.live true D)::(gn 145 []))))⟩
def gD(D:Int)(E:Ls)(F:Int)(H:Ls)(I J:Int)(M:Ls)(N O:Int)(R S T:List V)(C:Ls)(P:List V)(z:Ls)(Q:List V):St:=⟨(jn 3 ((V.ptr 3 0)::(jn 1 ((V.ptr 5 0)::((V.ptr 6 0)::((V.ptr 7 0)::(jn 2 ((V.ptr 10 0)::((V.ptr 11 0)::((QQe D)::(jn 1 ((V.ptr 14 0)::((V.sl 37 E)::(jn 1 ((QQe F)::(jn 28 ((V.sl 4 H)::((QQe I)::((QQe J)::(jn 34 ((V.sl 37 M)::((QQe N)::((QQe O)::(jn 67 [])))))))))))))))))))))))),(gn 3 ((.live true R)::(gn 1 ((.live true S)::((.live true T)::((.live true [(V.gs 37 C)])::(gn 2 ((.live true P)::((.live false [(V.gs 37 z)])::(gn 2 ((.live true Q)::(gn 138 []))))))))))))⟩
def nR(D:Int)(F H:List V)(C:Ls)(E:List V)(z:Ls):St:=⟨(jn 5 ((V.ptr 5 0)::((V.ptr 6 0)::((V.ptr 7 0)::(jn 2 ((V.ptr 10 0)::((V.ptr 11 0)::((QQe D)::(jn 140 []))))))))),(gn 5 ((.live true F)::((.live true H)::((.live true [(V.gs 37 C)])::(gn 2 ((.live true E)::((.live false [(V.gs 37 z)])::(gn 141 []))))))))⟩
def rH(D:Int)(E:Ls)(F:Int)(H:Ls)(I J:Int)(O P Q:List V)(C:Ls)(M:List V)(z:Ls)(N:List V):St:=⟨(jn 3 ((V.ptr 3 0)::(jn 1 ((V.ptr 5 0)::((V.ptr 6 0)::((V.ptr 7 0)::(jn 2 ((V.ptr 10 0)::((V.ptr 11 0)::((QQe D)::(jn 1 ((V.ptr 14 0)::((V.sl 37 E)::(jn 1 ((QQe F)::(jn 28 ((V.sl 4 H)::((QQe I)::((QQe J)::(jn 104 [])))))))))))))))))))),(gn 3 ((.live true O)::(gn 1 ((.live true P)::((.live true Q)::((.live true [(V.gs 37 C)])::(gn 2 ((.live true M)::((.live false [(V.gs 37 z)])::(gn 2 ((.live true N)::(gn 138 []))))))))))))⟩
abbrev lO(Y:Type):Type:=Int->Ls->Int->Int->List V->List V->List V->Ls->List V->Ls->Ob Y
abbrev lF(Y:Type):Type:=Int->Ls->Int->Ls->Int->Int->Ls->Int->Int->List V->List V->List V->Ls->List V->Ls->List V->Ob Y
abbrev jf(Y:Type):Type:=Int->List V->List V->Ls->List V->Ls->Ob Y
abbrev u6(Y:Type):Type:=Int->Ls->Int->Ls->Int->Int->List V->List V->List V->Ls->List V->Ls->List V->Ob Y
def so(cj:eW)(co:fk)(bV:eg)(ce:eU)(cg:eX)(cw:fx)(bW:d8)(ch:eV)(bP:dr)(bU:ed)(L:Nat)(D E C:List V)(F:List V->List V->Int->Ob Y)(z:lO Y):Ob Y:=chk (0+80<=(WcJ D)) (chk (0+34<=(WcJ E)) (chk (0+69<=(WcJ C)) (cj Y L (WbO V.ag (WcK 80 D)) (WbO V.ag (WcK 34 E)) (WbO V.ag (WcK 69 C)) (λJ=>ifb ((J:Int) != (0:Int)) (lt ([(QQe (0:Int))]++Wad 32 (QQa (0:Int))++[(V.sl 37 ([]:Ls))]) λM=>lt [(V.sl 37 ([]:Ls))] λN=>chk (0=0/\(WcJ M)=34/\34≠0) (chk (0=0/\(WcJ N)=1/\1≠0) (F M N J))) (cI .i64 E 0 λS=>lt (Wbf .i64 ((S:Int)+(1:Int))) λO=>chk (0+68<=(WcJ C)) (co Y L (WcK 68 C) (λI=>cLd 37 E 33 λT=>chk ((WcJ I)=32/\1+32<=34) (chk (1=1/\33+1<=(WcJ (cD ([(QQe O)]++Wad 32 (QQa (0:Int))++[(V.sl 37 ([]:Ls))]) 1 I))) (lt (cD (cD ([(QQe O)]++Wad 32 (QQa (0:Int))++[(V.sl 37 ([]:Ls))]) 1 I) 33 [(V.sl 37 T)]) λP=>chk ((WcJ P)=34/\0+34<=34) (lt (cD ([(QQe (0:Int))]++Wad 32 (QQa (0:Int))++[(V.gs 37 ([]:Ls))]) 0 P) λQ=>chk (0+80<=(WcJ D)) (cI .i64 Q 0 λU=>bV Y L (WbO V.ag (WcK 80 D)) U (λR=>cLd 4 C 68 λH=>z R H ((WcJ H:Nat):Int) (0:Int) D C ([(QQe (0:Int))]++Wad 32 (QQa (0:Int))++[(V.gs 37 ([]:Ls))]) ([]:Ls) Q ([]:Ls)))))))))))))
theorem Ke(cj:eW)(co:fk)(bV:eg)(ce:eU)(cg:eX)(cw:fx)(bW:d8)(ch:eV)(bP:dr)(bU:ed)(L:Nat)(H I J:List V)(k:KK Y):dj eL (eM cj co bV ce cg cw bW ch bP bU L) L cf_ref23_Connect [(V.agg H),(V.agg I),(V.agg J)] [] k=so cj co bV ce cg cw bW ch bP bU L H I J (λC D E=>k (V.ah [(V.agg C),(V.agg D),(QQe E)]) []) (λM N O P R S T F Q z=>dX (cC eL (eM cj co bV ce cg cw bW ch bP bU L) 0 L lM) ja L (gL M N O P R S T F Q z) (cV 0 (dN (cC eL (eM cj co bV ce cg cw bW ch bP bU L) 0 L qR) (eo 0 (CF.res cf_ref23_Connect) k)))):=by kernel_rfl
def kn(cj:eW)(co:fk)(bV:eg)(ce:eU)(cg:eX)(cw:fx)(bW:d8)(ch:eV)(bP:dr)(bU:ed)(L:Nat)(O:Int)(P:Ls)(Q J:Int)(R X E:List V)(M:Ls)(C:List V)(F:Ls)(H:Int->List V->List V->Ob Y)(z:lF Y)(I:lO Y)(c8:jf Y):Ob Y:=ifb (decide (J<Q)) (idx P J λS=>chk ((WcJ (WcK 4 S))=4/\0+4<=4) (lt (cD [(QQc (0:Int)),(V.gs 35 ([]:Ls)),(V.gs 2 ([]:Ls)),(QQc (0:Int))] 0 (WcK 4 S)) λD=>ifb (decide (J>(0:Int))) (chk (0+80<=(WcJ R)) (cLd 37 C 33 λb9=>chk (0+4<=(WcJ D)) (cI .i64 C 0 λaa=>ce Y L (WbO V.ag (WcK 80 R)) b9 (WbO V.ag (WcK 4 D)) aa (λN T=>ifb ((T:Int) != (0:Int)) (chk (34=34/\0+34<=(WcJ E)) (lt (cD E 0 ([(QQe (0:Int))]++Wad 32 (QQa (0:Int))++[(V.sl 37 ([]:Ls))])) λab=>lt [(V.sl 37 ([]:Ls))] λac=>H T ab ac)) (chk (0+4<=(WcJ D)) (cI .i64 C 0 λad=>cg Y L (WbO V.ag (WcK 4 D)) N ad (λan U=>ifb ((U:Int) != (0:Int)) (chk (34=34/\0+34<=(WcJ E)) (lt (cD E 0 ([(QQe (0:Int))]++Wad 32 (QQa (0:Int))++[(V.sl 37 ([]:Ls))])) λao=>lt [(V.sl 37 ([]:Ls))] λap=>H U ao ap)) (z O N an P Q J N ((WcJ N:Nat):Int) (0:Int) R X E M C F D)))))))) (cLd 37 C 33 λaq=>chk (0+4<=(WcJ D)) (cI .i64 C 0 λar=>cw Y L aq (WbO V.ag (WcK 4 D)) ar (λau c9=>ifb ((c9:Int) != (0:Int)) (chk (34=34/\0+34<=(WcJ E)) (lt (cD E 0 ([(QQe (0:Int))]++Wad 32 (QQa (0:Int))++[(V.sl 37 ([]:Ls))])) λav=>lt [(V.sl 37 ([]:Ls))] λaz=>H c9 av az)) (chk (1=1/\33+1<=(WcJ C)) (lt (cD C 33 [(V.sl 37 au)]) λaH=>lt (Wbf .i64 ((J:Int)+(1:Int))) λaK=>I O P Q aK R X E M aH F))))))) (c8 O X E M C F)
theorem CG(cj:eW)(co:fk)(bV:eg)(ce:eU)(cg:eX)(cw:fx)(bW:d8)(ch:eV)(bP:dr)(bU:ed)(L:Nat)(D:Int)(H:Ls)(I J:Int)(N M F:List V)(C:Ls)(E:List V)(z:Ls)(X:St->Ob Y)(K:KT Y):cC eL (eM cj co bV ce cg cw bW ch bP bU L) 0 L lM (gL D H I J N M F C E z) (fN ja X K)=kn cj co bV ce cg cw bW ch bP bU L D H I J N M F C E z (λU F c9=>K .ret (lw U F c9)) (λD O P H I J Q R S N M F C E z T=>dX (cC eL (eM cj co bV ce cg cw bW ch bP bU L) 0 L i7) jo L (gD D O P H I J Q R S N M F C E z T) (cV 2 (dN (cC eL (eM cj co bV ce cg cw bW ch bP bU L) 0 L mt) (dN (cC eL (eM cj co bV ce cg cw bW ch bP bU L) 0 L o5) (cV 1 (dN (cC eL (eM cj co bV ce cg cw bW ch bP bU L) 0 L q8) (fN ja X K))))))) (λD H I J N M F C E z=>X (gL D H I J N M F C E z)) (λD M F C E z=>K (.exit 0) (nR D M F C E z)):=by kernel_rfl
def kS(cj:eW)(co:fk)(bV:eg)(ce:eU)(cg:eX)(cw:fx)(bW:d8)(ch:eV)(bP:dr)(bU:ed)(L:Nat)(E:Int)(C D:List V)(z:List V->List V->Int->Ob Y):Ob Y:=chk (0=0/\(WcJ C)=34/\34≠0) (chk (0=0/\(WcJ D)=1/\1≠0) (z C D E))
theorem zN(cj:eW)(co:fk)(bV:eg)(ce:eU)(cg:eX)(cw:fx)(bW:d8)(ch:eV)(bP:dr)(bU:ed)(L:Nat)(E:Int)(F H:List V)(k:KK Y):(cV 0 (dN (cC eL (eM cj co bV ce cg cw bW ch bP bU L) 0 L qR) (eo 0 (CF.res cf_ref23_Connect) k))) .ret (lw E F H)=kS cj co bV ce cg cw bW ch bP bU L E F H (λz C D=>k (V.ah [(V.agg z),(V.agg C),(QQe D)]) []):=by kernel_rfl
def iK(cj:eW)(co:fk)(bV:eg)(ce:eU)(cg:eX)(cw:fx)(bW:d8)(ch:eV)(bP:dr)(bU:ed)(L:Nat)(Q:Int)(b5 D:List V)(ab:Ls)(C:List V)(E:Ls)(z:List V->List V->Int->Ob Y):Ob Y:=cLd 4 b5 68 λR=>idx R (0:Int) λS=>cI .i64 C 0 λT=>bW Y L (WbO V.ag (WcK 4 S)) T (λU=>ch Y L U (λc9=>ifb (decide (c9>Q)) (chk (34=34/\0+34<=(WcJ D)) (lt (cD D 0 ([(QQe (0:Int))]++Wad 32 (QQa (0:Int))++[(V.sl 37 ([]:Ls))])) λF=>lt [(V.sl 37 ([]:Ls))] λH=>chk (0=0/\(WcJ F)=34/\34≠0) (chk (0=0/\(WcJ H)=1/\1≠0) (z F H (231:Int))))) (cLd 37 C 33 λX=>ch Y L X (λc8=>ifb (decide (c8>(2100000000000000:Int))) (chk (34=34/\0+34<=(WcJ D)) (lt (cD D 0 ([(QQe (0:Int))]++Wad 32 (QQa (0:Int))++[(V.sl 37 ([]:Ls))])) λI=>lt [(V.sl 37 ([]:Ls))] λJ=>chk (0=0/\(WcJ I)=34/\34≠0) (chk (0=0/\(WcJ J)=1/\1≠0) (z I J (90:Int))))) (cLd 37 C 33 λb9=>ifb (decide (((WcJ b9:Nat):Int)>(100000:Int))) (chk (34=34/\0+34<=(WcJ D)) (lt (cD D 0 ([(QQe (0:Int))]++Wad 32 (QQa (0:Int))++[(V.sl 37 ([]:Ls))])) λM=>lt [(V.sl 37 ([]:Ls))] λN=>chk (0=0/\(WcJ M)=34/\34≠0) (chk (0=0/\(WcJ N)=1/\1≠0) (z M N (4:Int))))) (chk (0+34<=(WcJ C)) (chk ((WcJ (WcK 34 C))=34/\0+34<=(WcJ D)) (lt (cD D 0 (WcK 34 C)) λO=>lt [(V.sl 37 E)] λP=>chk (0=0/\(WcJ O)=34/\34≠0) (chk (0=0/\(WcJ P)=1/\1≠0) (z O P (0:Int)))))))))))
theorem AY(cj:eW)(co:fk)(bV:eg)(ce:eU)(cg:eX)(cw:fx)(bW:d8)(ch:eV)(bP:dr)(bU:ed)(L:Nat)(D:Int)(J M:List V)(C:Ls)(E:List V)(z:Ls)(k:KK Y):(cV 0 (dN (cC eL (eM cj co bV ce cg cw bW ch bP bU L) 0 L qR) (eo 0 (CF.res cf_ref23_Connect) k))) (.exit 0) (nR D J M C E z)=iK cj co bV ce cg cw bW ch bP bU L D J M C E z (λF H I=>k (V.ah [(V.agg F),(V.agg H),(QQe I)]) []):=by kernel_rfl
def hP(cj:eW)(co:fk)(bV:eg)(ce:eU)(cg:eX)(cw:fx)(bW:d8)(ch:eV)(bP:dr)(bU:ed)(L:Nat)(H:Int)(I:Ls)(J:Int)(M:Ls)(N O:Int)(P:Ls)(Q E:Int)(c9 X c8:List V)(F:Ls)(C:List V)(D:Ls)(R:List V)(z:lF Y)(U:u6 Y):Ob Y:=ifb (decide (E<Q)) (idx P E λS=>chk ((WcJ (WcK 37 S))=37/\0+37<=37) (lt (cD (Wad 32 (QQa (0:Int))++[(QQc (0:Int)),(QQe (0:Int)),(V.gs 1 ([]:Ls)),(QQe (0:Int)),(V.sc (.bool false))]) 0 (WcK 37 S)) λT=>cLd 37 C 33 λb9=>cLd 37 C 33 λaa=>chk (0+33<=(WcJ T)) (bP Y L aa (WcK 33 T) (λab=>bU Y L b9 ab (λac=>chk (1=1/\33+1<=(WcJ C)) (lt (cD C 33 [(V.sl 37 ac)]) λad=>lt (Wbf .i64 ((E:Int)+(1:Int))) λag=>z H I J M N O P Q ag c9 X c8 F ad D R)))))) (U H I J M N O c9 X c8 F C D R)
theorem pW(cj:eW)(co:fk)(bV:eg)(ce:eU)(cg:eX)(cw:fx)(bW:d8)(ch:eV)(bP:dr)(bU:ed)(L:Nat)(D:Int)(E:Ls)(F:Int)(H:Ls)(I J:Int)(O:Ls)(P Q:Int)(R S T:List V)(C:Ls)(M:List V)(z:Ls)(N:List V)(X:St->Ob Y)(K:KT Y):cC eL (eM cj co bV ce cg cw bW ch bP bU L) 0 L i7 (gD D E F H I J O P Q R S T C M z N) (fN jo X K)=hP cj co bV ce cg cw bW ch bP bU L D E F H I J O P Q R S T C M z N (λD E F H I J O P Q R S T C M z N=>X (gD D E F H I J O P Q R S T C M z N)) (λD E F H I J R S T C M z N=>K (.exit 2) (rH D E F H I J R S T C M z N)):=by kernel_rfl
def gK(cj:eW)(co:fk)(bV:eg)(ce:eU)(cg:eX)(cw:fx)(bW:d8)(ch:eV)(bP:dr)(bU:ed)(L:Nat)(N:Int)(E:Ls)(O:Int)(P:Ls)(Q R:Int)(b3 b5 J:List V)(M:Ls)(D:List V)(z:Ls)(H:List V)(F:Int->List V->List V->Ob Y)(C:lO Y):Ob Y:=lt (Wbf .i64 ((N:Int)+O)) λS=>chk ((WcJ z+WcJ E)*88<=cy/\WcJ z+WcJ E<=cy) (lt (z++E) λT=>cLd 37 D 33 λU=>chk (0+4<=(WcJ H)) (cI .i64 D 0 λc9=>cw Y L U (WbO V.ag (WcK 4 H)) c9 (λX I=>ifb ((I:Int) != (0:Int)) (chk (34=34/\0+34<=(WcJ J)) (lt (cD J 0 ([(QQe (0:Int))]++Wad 32 (QQa (0:Int))++[(V.sl 37 ([]:Ls))])) λc8=>lt [(V.sl 37 ([]:Ls))] λb9=>F I c8 b9)) (chk (1=1/\33+1<=(WcJ D)) (lt (cD D 33 [(V.sl 37 X)]) λaa=>lt (Wbf .i64 ((R:Int)+(1:Int))) λab=>C S P Q ab b3 b5 J M aa T)))))
theorem o7(cj:eW)(co:fk)(bV:eg)(ce:eU)(cg:eX)(cw:fx)(bW:d8)(ch:eV)(bP:dr)(bU:ed)(L:Nat)(D:Int)(O:Ls)(P:Int)(E:Ls)(F H:Int)(M N J:List V)(C:Ls)(I:List V)(z:Ls)(Q:List V)(X:St->Ob Y)(K:KT Y):(cV 2 (dN (cC eL (eM cj co bV ce cg cw bW ch bP bU L) 0 L mt) (dN (cC eL (eM cj co bV ce cg cw bW ch bP bU L) 0 L o5) (cV 1 (dN (cC eL (eM cj co bV ce cg cw bW ch bP bU L) 0 L q8) (fN ja X K)))))) (.exit 2) (rH D O P E F H M N J C I z Q)=gK cj co bV ce cg cw bW ch bP bU L D O P E F H M N J C I z Q (λR J S=>K .ret (lw R J S)) (λD E F H M N J C I z=>X (gL D E F H M N J C I z)):=by kernel_rfl
def e9(cj:eW)(co:fk)(bV:eg)(ce:eU)(cg:eX)(cw:fx)(bW:d8)(ch:eV)(bP:dr)(bU:ed)(L:Nat)(D:u6 Y):Nat->Int->Ls->Int->Ls->Int->Int->Ls->Int->Int->List V->List V->List V->Ls->List V->Ls->List V->Ob Y
 | 0,_,_,_,_,_,_,_,_,_,_,_,_,_,_,_,_=>none
 | n+1,E,F,H,I,J,M,N,O,P,S,T,U,C,Q,z,R=>hP cj co bV ce cg cw bW ch bP bU L E F H I J M N O P S T U C Q z R (λE F H I J M N O P S T U C Q z R=>e9 cj co bV ce cg cw bW ch bP bU L D n E F H I J M N O P S T U C Q z R) D
theorem kV(cj:eW)(co:fk)(bV:eg)(ce:eU)(cg:eX)(cw:fx)(bW:d8)(ch:eV)(bP:dr)(bU:ed)(L:Nat)(K:KT Y):∀ (n:Nat) (D:Int) (E:Ls) (F:Int) (H:Ls) (I J:Int) (R:Ls) (S T:Int) (O P Q:List V) (C:Ls) (M:List V) (z:Ls) (N:List V),dX (cC eL (eM cj co bV ce cg cw bW ch bP bU L) 0 L i7) jo n (gD D E F H I J R S T O P Q C M z N) K=e9 cj co bV ce cg cw bW ch bP bU L (λD E F H I J O P Q C M z N=>K (.exit 2) (rH D E F H I J O P Q C M z N)) n D E F H I J R S T O P Q C M z N:=by
 intro n; induction n <;> intros
 ·rfl
 ·exact (pW ..).trans (by simp only [*]; rfl)
def iQ(cj:eW)(co:fk)(bV:eg)(ce:eU)(cg:eX)(cw:fx)(bW:d8)(ch:eV)(bP:dr)(bU:ed)(L:Nat)(E:Int)(F:Ls)(H I:Int)(N O P:List V)(D:Ls)(J:List V)(z:Ls)(M:Int->List V->List V->Ob Y)(C:lO Y)(T:jf Y):Ob Y:=kn cj co bV ce cg cw bW ch bP bU L E F H I N O P D J z M (λE Q R F H I U c9 X N O P D J z S=>e9 cj co bV ce cg cw bW ch bP bU L (λE Q R F H I N O P D J z S=>gK cj co bV ce cg cw bW ch bP bU L E Q R F H I N O P D J z S M C) L E Q R F H I U c9 X N O P D J z S) C T
theorem Bx(cj:eW)(co:fk)(bV:eg)(ce:eU)(cg:eX)(cw:fx)(bW:d8)(ch:eV)(bP:dr)(bU:ed)(L:Nat)(D:Int)(H:Ls)(I J:Int)(N M F:List V)(C:Ls)(E:List V)(z:Ls)(X:St->Ob Y)(K:KT Y):cC eL (eM cj co bV ce cg cw bW ch bP bU L) 0 L lM (gL D H I J N M F C E z) (fN ja X K)=iQ cj co bV ce cg cw bW ch bP bU L D H I J N M F C E z (λO F P=>K .ret (lw O F P)) (λD H I J N M F C E z=>X (gL D H I J N M F C E z)) (λD M F C E z=>K (.exit 0) (nR D M F C E z)):=by
 refine (CG cj co bV ce cg cw bW ch bP bU L D H I J N M F C E z X K).trans ?_
 unfold iQ
 first
  | (simp only [kV,o7]; done)
  | (simp only [kV]; rfl)
def eB(cj:eW)(co:fk)(bV:eg)(ce:eU)(cg:eX)(cw:fx)(bW:d8)(ch:eV)(bP:dr)(bU:ed)(L:Nat)(D:Int->List V->List V->Ob Y)(E:jf Y):Nat->Int->Ls->Int->Int->List V->List V->List V->Ls->List V->Ls->Ob Y
 | 0,_,_,_,_,_,_,_,_,_,_=>none
 | n+1,F,H,I,J,N,O,P,C,M,z=>iQ cj co bV ce cg cw bW ch bP bU L F H I J N O P C M z D (λF H I J N O P C M z=>eB cj co bV ce cg cw bW ch bP bU L D E n F H I J N O P C M z) E
theorem sq(cj:eW)(co:fk)(bV:eg)(ce:eU)(cg:eX)(cw:fx)(bW:d8)(ch:eV)(bP:dr)(bU:ed)(L:Nat)(K:KT Y):∀ (n:Nat) (D:Int) (I:Ls) (J M:Int) (N H F:List V) (C:Ls) (E:List V) (z:Ls),dX (cC eL (eM cj co bV ce cg cw bW ch bP bU L) 0 L lM) ja n (gL D I J M N H F C E z) K=eB cj co bV ce cg cw bW ch bP bU L (λO F P=>K .ret (lw O F P)) (λD H F C E z=>K (.exit 0) (nR D H F C E z)) n D I J M N H F C E z:=by
 intro n; induction n <;> intros
 ·rfl
 ·exact (Bx ..).trans (by simp only [*]; rfl)
def oI(cj:eW)(co:fk)(bV:eg)(ce:eU)(cg:eX)(cw:fx)(bW:d8)(ch:eV)(bP:dr)(bU:ed)(L:Nat)(O P Q:List V)(z:List V->List V->Int->Ob Y):Ob Y:=so cj co bV ce cg cw bW ch bP bU L O P Q z (λE J M N R I F D H C=>eB cj co bV ce cg cw bW ch bP bU L (λS F T=>kS cj co bV ce cg cw bW ch bP bU L S F T z) (λE I F D H C=>iK cj co bV ce cg cw bW ch bP bU L E I F D H C z) L E J M N R I F D H C)
theorem KJ(cj:eW)(co:fk)(bV:eg)(ce:eU)(cg:eX)(cw:fx)(bW:d8)(ch:eV)(bP:dr)(bU:ed)(L:Nat)(z C D:List V)(k:KK Y):dj eL (eM cj co bV ce cg cw bW ch bP bU L) L cf_ref23_Connect [(V.agg z),(V.agg C),(V.agg D)] [] k=oI cj co bV ce cg cw bW ch bP bU L z C D (λE F H=>k (V.ah [(V.agg E),(V.agg F),(QQe H)]) []):=by
 refine (Ke cj co bV ce cg cw bW ch bP bU L z C D k).trans ?_
 unfold oI
 first
  | (simp only [sq,zN,AY]; done)
  | (simp only [sq]; rfl)
abbrev Ey:=∀ (Y:Type),Nat->List V->List V->List V->(List V->List V->Int->Ob Y)->Ob Y
def j8:Ey:=λY=>@oI Y cj co bV ce cg cw bW ch bP bU
def Fa(j8:Ey)(L:Nat):Dk:=dA AG λE=>dA AG λF=>dA AG λH=>d0 λY k=>j8 Y L E F H (λz C D=>k (V.ah [(V.agg z),(V.agg C),(QQe D)]) [])
theorem J9(L:Nat):DK (Fa j8 L) (λ_=>dj eL (eM cj co bV ce cg cw bW ch bP bU L) L cf_ref23_Connect):=dk fO λz=>dk fO λC=>dk fO λD=>fC λ_ k=>KJ cj co bV ce cg cw bW ch bP bU L z C D k
abbrev g8:=∀ (Y:Type),Nat->Ob Y->Ob Y
def dv:g8:=λY L k=>chk (30000<=L) k
def JN(dv:g8)(L:Nat):Dk:=d0 λY k=>dv Y L (k (.sc (.bool true)) [])
def Nc:CF:=cfD IE 7
def Fm:Nat->Sh:=fR []
def Fu(L:Nat):CBC:=noC
def Ix(L:Nat)(C:Ls)(z:Ls->Int->Ob Y):Ob Y:=z C (0:Int)
theorem UK(L:Nat)(D:Ls)(k:KK Y):dj Fm (Fu L) L Nc [(V.sl 1 D)] [] k=Ix L D (λz C=>k (V.bx false [(V.sl 1 z),(QQe C)]) []):=by kernel_rfl
abbrev iX:=∀ (Y:Type),Nat->Ls->(Ls->Int->Ob Y)->Ob Y
def dF:iX:=λY=>@Ix Y
def Hr(dF:iX)(L:Nat):Dk:=dA (AL 1) λD=>d0 λY k=>dF Y L D (λz C=>k (V.bx false [(V.sl 1 z),(QQe C)]) [])
theorem UX(L:Nat):DK (Hr dF L) (λ_=>dj Fm (Fu L) L Nc):=dk ik λz=>fC λ_ k=>UK L z k
def B9:CF:=cfD zq 51
def vh:Nat->Sh:=fR []
def vd(L:Nat):CBC:=noC
def qw(L:Nat)(z:Ls)(C:Int)(D:Bool->Ls->Int->Ob Y):Ob Y:=D (decide (C<((WcJ z:Nat):Int))) z C
theorem I4(L:Nat)(z:Ls)(C:Int)(k:KK Y):dj vh (vd L) L B9 [(V.ptr 0 0)] [(.live false [(V.sl 1 z),(QQe C)])] k=qw L z C (λD z C=>k (V.sc (.bool D)) [(.live false [(V.sl 1 z),(QQe C)])]):=by kernel_rfl
abbrev nE:=∀ (Y:Type),Nat->Ls->Int->(Bool->Ls->Int->Ob Y)->Ob Y
def fi:nE:=λY=>@qw Y
def qt(fi:nE)(L:Nat)(Y:Type)(args:List V)(bor:Bor)(k:KK Y):Ob Y:=match args,bor with
 | [a0],[(.live false [w0_0,w0_1])]=>aP 0 0 a0 (aL 1 w0_0 λz=>aI .i64 w0_1 λC=>fi Y L z C (λD z C=>k (V.sc (.bool D)) [(.live false [(V.sl 1 z),(QQe C)])]))
 | _,_=>none
theorem Jl(L:Nat)(Y:Type)(args:List V)(bor:Bor)(k:KK Y)(r:Y)(h:qt fi L Y args bor k=some r):dj vh (vd L) L B9 args bor k=some r:=by
 unfold qt at h
 split at h
 ·have q:=Gh h; clear h; obtain ⟨rfl,h⟩:=q
  have q:=Bi h; clear h; obtain ⟨z,rfl,h⟩:=q
  have q:=tK h; clear h; obtain ⟨C,rfl,h⟩:=q
  exact (I4 L z C k).trans h
 ·cases h
def MW:CF:=cfD IZ 14
def F7:Nat->Sh:=fR []
def FE(L:Nat):CBC:=noC
def Cv(L:Nat)(E C:Int)(z:Int->Ob Y):Ob Y:=chk (C≠0) (lt (Int.tmod E C) λD=>ifb (decide (D<(0:Int))) (lt (Wbf .i64 ((D:Int)+C)) λF=>z F) (z D))
theorem Ux(L:Nat)(z C:Int)(k:KK Y):dj F7 (FE L) L MW [(QQe z),(QQe C)] [] k=Cv L z C (λz=>k (QQe z) []):=by kernel_rfl
abbrev hJ:=∀ (Y:Type),Nat->Int->Int->(Int->Ob Y)->Ob Y
def dg:hJ:=λY=>@Cv Y
def Cr(dg:hJ)(L:Nat):Dk:=dA (AI .i64) λz=>dA (AI .i64) λC=>d0 λY k=>dg Y L z C (λz=>k (QQe z) [])
theorem Up(L:Nat):DK (Cr dg L) (λ_=>dj F7 (FE L) L MW):=dk gm λz=>dk gm λC=>fC λ_ k=>Ux L z C k
def Ca:CF:=cfD zt 25
def uS:Nat->Sh:=fR [(25,(.int .i64))]
def u5(fi:nE)(dg:hJ)(L:Nat):CBC:=(d6 217 (Cr dg L) (d6 247 (qt fi L) noC))
def qF(fi:nE)(dg:hJ)(L:Nat)(I:Int)(C:Ls)(D:Int)(z:Int->Ls->Int->Ob Y):Ob Y:=fi Y L C D (λJ E F=>ifb (!J) (z (0:Int) E F) (lt (Wbf .i64 ((F:Int)+(1:Int))) λH=>lt (Wbf .i64 ((H:Int)-(1:Int))) λM=>idx E M λN=>cI .i64 N 0 λO=>dg Y L O I (λP=>z P E H)))
theorem Jp(fi:nE)(dg:hJ)(L:Nat)(D:Int)(z:Ls)(C:Int)(k:KK Y):dj uS (u5 fi dg L) L Ca [(V.ptr 0 0),(QQe D)] [(.live false [(V.sl 1 z),(QQe C)])] k=qF fi dg L D z C (λE z C=>k (QQe E) [(.live false [(V.sl 1 z),(QQe C)])]):=by kernel_rfl
abbrev dH:=∀ (Y:Type),Nat->Int->Ls->Int->(Int->Ls->Int->Ob Y)->Ob Y
def bR:dH:=λY=>@qF Y fi dg
def lY(bR:dH)(L:Nat)(Y:Type)(args:List V)(bor:Bor)(k:KK Y):Ob Y:=match args,bor with
 | [a0,a1],[(.live false [w0_0,w0_1])]=>aP 0 0 a0 (aI .i64 a1 λD=>aL 1 w0_0 λz=>aI .i64 w0_1 λC=>bR Y L D z C (λE z C=>k (QQe E) [(.live false [(V.sl 1 z),(QQe C)])]))
 | _,_=>none
theorem Jf(L:Nat)(Y:Type)(args:List V)(bor:Bor)(k:KK Y)(r:Y)(h:lY bR L Y args bor k=some r):dj uS (u5 fi dg L) L Ca args bor k=some r:=by
 unfold lY at h
 split at h
 ·have q:=Gh h; clear h; obtain ⟨rfl,h⟩:=q
  have q:=tK h; clear h; obtain ⟨D,rfl,h⟩:=q
  have q:=Bi h; clear h; obtain ⟨z,rfl,h⟩:=q
  have q:=tK h; clear h; obtain ⟨C,rfl,h⟩:=q
  exact (Jp fi dg L D z C k).trans h
 ·cases h
def cf_mill_Deck_Seeds:CF:=cfD yv 28
def od:CC:=eS [1,1,0,1,0,0] cf_mill_Deck_Seeds.body
def yL:CC:=eS [1,1,1] cf_mill_Deck_Seeds.body
def iw:Nat->Sh:=fR []
def iy(bR:dH)(L:Nat):CBC:=(d6 231 (lY bR L) noC)
def oW:St->St:=fF 1 (bl 97 22) (bl 2490367 22)
def kR(D:Ls)(E:Int)(z:Ls)(C:Int):St:=⟨((V.ptr 0 0)::(jn 4 ((V.gs 1 D)::((QQe E)::(jn 15 []))))),((.live false [(V.sl 1 z),(QQe C)])::(gn 22 []))⟩
def pp(D z:Ls)(C:Int):St:=⟨(jn 5 ((V.gs 1 D)::(jn 16 []))),((.live false [(V.sl 1 z),(QQe C)])::(gn 22 []))⟩
def u2(bR:dH)(L:Nat)(E:Int)(C:Ls)(D:Int)(z:Ls->Int->Ls->Int->Ob Y):Ob Y:=lt (Wbf .i64 ((E:Int)+(1:Int))) λF=>bR Y L F C D (λH I J=>z ([]:Ls) H I J)
theorem HG(bR:dH)(L:Nat)(D:Int)(z:Ls)(C:Int)(k:KK Y):dj iw (iy bR L) L cf_mill_Deck_Seeds [(V.ptr 0 0),(QQe D)] [(.live false [(V.sl 1 z),(QQe C)])] k=u2 bR L D z C (λE F z C=>dX (cC iw (iy bR L) 1 L od) oW L (kR E F z C) (cV 0 (dN (cC iw (iy bR L) 1 L yL) (eo 1 (CF.res cf_mill_Deck_Seeds) k)))):=by kernel_rfl
def mo(bR:dH)(L:Nat)(E:Ls)(I:Int)(C:Ls)(D:Int)(z:Ls->Int->Ls->Int->Ob Y)(F:Ls->Ls->Int->Ob Y):Ob Y:=ifb (decide (I>(0:Int))) (bR Y L (256:Int) C D (λJ M N=>lt (Wbf .u8 J) λH=>chk ((WcJ E+WcJ (cz 1 1 [(QQa H)]))*1<=cy/\WcJ E+WcJ (cz 1 1 [(QQa H)])<=cy) (lt (E++(cz 1 1 [(QQa H)])) λO=>lt (Wbf .i64 ((I:Int)-(1:Int))) λP=>z O P M N))) (F E C D)
theorem Cw(bR:dH)(L:Nat)(D:Ls)(E:Int)(z:Ls)(C:Int)(X:St->Ob Y)(K:KT Y):cC iw (iy bR L) 1 L od (kR D E z C) (fN oW X K)=mo bR L D E z C (λD E z C=>X (kR D E z C)) (λD z C=>K (.exit 0) (pp D z C)):=by kernel_rfl
def tL(bR:dH)(L:Nat)(E C:Ls)(D:Int)(z:Ls->Ls->Int->Ob Y):Ob Y:=z E C D
theorem Bn(bR:dH)(L:Nat)(D z:Ls)(C:Int)(k:KK Y):(cV 0 (dN (cC iw (iy bR L) 1 L yL) (eo 1 (CF.res cf_mill_Deck_Seeds) k))) (.exit 0) (pp D z C)=tL bR L D z C (λE z C=>k (V.gs 1 E) [(.live false [(V.sl 1 z),(QQe C)])]):=by kernel_rfl
def i9(bR:dH)(L:Nat)(D:Ls->Ls->Int->Ob Y):Nat->Ls->Int->Ls->Int->Ob Y
 | 0,_,_,_,_=>none
 | n+1,E,F,z,C=>mo bR L E F z C (λE F z C=>i9 bR L D n E F z C) D
theorem sM(bR:dH)(L:Nat)(K:KT Y):∀ (n:Nat) (D:Ls) (E:Int) (z:Ls) (C:Int),dX (cC iw (iy bR L) 1 L od) oW n (kR D E z C) K=i9 bR L (λD z C=>K (.exit 0) (pp D z C)) n D E z C:=by
 intro n; induction n <;> intros
 ·rfl
 ·exact (Cw ..).trans (by simp only [*]; rfl)
def pg(bR:dH)(L:Nat)(F:Int)(z:Ls)(C:Int)(D:Ls->Ls->Int->Ob Y):Ob Y:=u2 bR L F z C (λE H z C=>i9 bR L (λE z C=>tL bR L E z C D) L E H z C)
theorem Hs(bR:dH)(L:Nat)(D:Int)(z:Ls)(C:Int)(k:KK Y):dj iw (iy bR L) L cf_mill_Deck_Seeds [(V.ptr 0 0),(QQe D)] [(.live false [(V.sl 1 z),(QQe C)])] k=pg bR L D z C (λE z C=>k (V.gs 1 E) [(.live false [(V.sl 1 z),(QQe C)])]):=by
 refine (HG bR L D z C k).trans ?_
 unfold pg
 first
  | (simp only [sM,Bn]; done)
  | (simp only [sM]; rfl)
abbrev mP:=∀ (Y:Type),Nat->Int->Ls->Int->(Ls->Ls->Int->Ob Y)->Ob Y
def e7:mP:=λY=>@pg Y bR
def pc(e7:mP)(L:Nat)(Y:Type)(args:List V)(bor:Bor)(k:KK Y):Ob Y:=match args,bor with
 | [a0,a1],[(.live false [w0_0,w0_1])]=>aP 0 0 a0 (aI .i64 a1 λD=>aL 1 w0_0 λz=>aI .i64 w0_1 λC=>e7 Y L D z C (λE z C=>k (V.gs 1 E) [(.live false [(V.sl 1 z),(QQe C)])]))
 | _,_=>none
theorem IB(L:Nat)(Y:Type)(args:List V)(bor:Bor)(k:KK Y)(r:Y)(h:pc e7 L Y args bor k=some r):dj iw (iy bR L) L cf_mill_Deck_Seeds args bor k=some r:=by
 unfold pc at h
 split at h
 ·have q:=Gh h; clear h; obtain ⟨rfl,h⟩:=q
  have q:=tK h; clear h; obtain ⟨D,rfl,h⟩:=q
  have q:=Bi h; clear h; obtain ⟨z,rfl,h⟩:=q
  have q:=tK h; clear h; obtain ⟨C,rfl,h⟩:=q
  exact (Hs bR L D z C k).trans h
 ·cases h
abbrev sP:=∀ (Y:Type),Nat->Int->Ls->(List V->Ob Y)->Ob Y
def gF:sP:=λY L z C kf=>opD (cN rows) 400 422 L Y [(QQa z),(V.sl 1 C)] [] λv _=>AG Y v λp=>kf p
def Df(gF:sP)(L:Nat):Dk:=dA (AI .u8) λz=>dA (AL 1) λC=>d0 λY k=>gF Y L z C (λD=>k (V.agg D) [])
theorem Q7(L:Nat):DK (Df gF L) (opD (cN rows) 400 422 L):=dk gm λz=>dk ik λC=>As fO [(QQa z),(V.sl 1 C)] λ_ _ _=>rfl
def IU:CF:=cfD Er 9
def BP:Nat->Sh:=fR []
def BA(bR:dH)(e7:mP)(gF:sP)(L:Nat):CBC:=(d6 422 (Df gF L) (d6 423 (pc e7 L) (d6 231 (lY bR L) noC)))
def DZ(bR:dH)(e7:mP)(gF:sP)(L:Nat)(H:Int)(C:Ls)(D:Int)(z:List V->Ls->Int->Ob Y):Ob Y:=bR Y L (256:Int) C D (λI J M=>lt (Wbf .u8 I) λN=>e7 Y L H J M (λO P Q=>gF Y L N O (λE=>chk ((WcJ E)=84/\0+84<=84) (lt (cD ([(QQc (0:Int))]++Wad 64 (QQa (0:Int))++[(QQc (0:Int)),(QQc (0:Int)),(QQc (0:Int)),(QQd (0:Int)),(QQd (0:Int)),(QQd (0:Int)),(QQd (0:Int)),(QQe (0:Int)),(QQc (0:Int)),(QQc (0:Int)),(QQc (0:Int)),(V.gs 33 ([]:Ls)),(QQe (0:Int)),(QQe (0:Int)),(QQe (0:Int)),(V.gs 69 ([]:Ls)),(V.gs 34 ([]:Ls)),(V.gs 36 ([]:Ls)),(V.gs 1 ([]:Ls))]) 0 E) λF=>chk (0=0/\(WcJ F)=84/\84≠0) (z F P Q)))))
theorem Pd(bR:dH)(e7:mP)(gF:sP)(L:Nat)(D:Int)(z:Ls)(C:Int)(k:KK Y):dj BP (BA bR e7 gF L) L IU [(V.ptr 0 0),(QQe D)] [(.live false [(V.sl 1 z),(QQe C)])] k=DZ bR e7 gF L D z C (λE z C=>k (V.agg E) [(.live false [(V.sl 1 z),(QQe C)])]):=by kernel_rfl
abbrev gU:=∀ (Y:Type),Nat->Int->Ls->Int->(List V->Ls->Int->Ob Y)->Ob Y
def dh:gU:=λY=>@DZ Y bR e7 gF
def yZ(dh:gU)(L:Nat)(Y:Type)(args:List V)(bor:Bor)(k:KK Y):Ob Y:=match args,bor with
 | [a0,a1],[(.live false [w0_0,w0_1])]=>aP 0 0 a0 (aI .i64 a1 λD=>aL 1 w0_0 λz=>aI .i64 w0_1 λC=>dh Y L D z C (λE z C=>k (V.agg E) [(.live false [(V.sl 1 z),(QQe C)])]))
 | _,_=>none
theorem Rm(L:Nat)(Y:Type)(args:List V)(bor:Bor)(k:KK Y)(r:Y)(h:yZ dh L Y args bor k=some r):dj BP (BA bR e7 gF L) L IU args bor k=some r:=by
 unfold yZ at h
 split at h
 ·have q:=Gh h; clear h; obtain ⟨rfl,h⟩:=q
  have q:=tK h; clear h; obtain ⟨D,rfl,h⟩:=q
  have q:=Bi h; clear h; obtain ⟨z,rfl,h⟩:=q
  have q:=tK h; clear h; obtain ⟨C,rfl,h⟩:=q
  exact (Pd bR e7 gF L D z C k).trans h
 ·cases h
def GH:CF:=cfD DA 13
def z7:Nat->Sh:=fR []
def zI(L:Nat):CBC:=noC
def Bz(L:Nat)(C:Int)(z:Ls->Ob Y):Ob Y:=lt (Int.tmod C (6:Int)) λD=>lt (Wbf .u8 (((1:Int):Int)+D)) λE=>z (cz 1 4 [(QQa (1:Int)),(QQa (1:Int)),(QQa E),(QQa (5:Int))])
theorem Nq(L:Nat)(z:Int)(k:KK Y):dj z7 (zI L) L GH [(QQa z)] [] k=Bz L z (λz=>k (V.gs 1 z) []):=by kernel_rfl
abbrev ir:=∀ (Y:Type),Nat->Int->(Ls->Ob Y)->Ob Y
def dl:ir:=λY=>@Bz Y
def BM(dl:ir)(L:Nat):Dk:=dA (AI .u8) λz=>d0 λY k=>dl Y L z (λz=>k (V.gs 1 z) [])
theorem N5(L:Nat):DK (BM dl L) (λ_=>dj z7 (zI L) L GH):=dk gm λz=>fC λ_ k=>Nq L z k
def cf_ref09_Compare:CF:=cfD AV 91
def qW:CC:=eS [1,0,1,0,0] cf_ref09_Compare.body
def uW:CC:=eS [1,1] cf_ref09_Compare.body
def iD:Nat->Sh:=fR [(12,(.int .u8)),(16,(.int .u8)),(21,(.int .u8)),(25,(.int .u8)),(30,(.int .u32)),(32,(.int .u32)),(36,(.int .u32)),(38,(.int .u32))]
def iF(L:Nat):CBC:=noC
def rQ:St->St:=fF 0 (bl 76 40) (bl 1099511627727 40)
def mh(z:Int)(C D:List V):St:=⟨(jn 2 ((V.ptr 2 0)::((V.ptr 3 0)::(jn 2 ((QQe z)::(jn 33 [])))))),(gn 2 ((.live true C)::((.live true D)::(gn 36 []))))⟩
def qL(z:Int):St:=⟨(jn 4 ((QQe z)::(jn 35 []))),(gn 40 [])⟩
def rX(z C:List V):St:=⟨(jn 2 ((V.ptr 2 0)::((V.ptr 3 0)::(jn 36 [])))),(gn 2 ((.live true z)::((.live true C)::(gn 36 []))))⟩
def xo(L:Nat)(C D:List V)(z:Int->List V->List V->Ob Y):Ob Y:=z (0:Int) C D
theorem J4(L:Nat)(z C:List V)(k:KK Y):dj iD (iF L) L cf_ref09_Compare [(V.agg z),(V.agg C)] [] k=xo L z C (λD E F=>dX (cC iD (iF L) 0 L qW) rQ L (mh D E F) (cV 0 (dN (cC iD (iF L) 0 L uW) (eo 0 (CF.res cf_ref09_Compare) k)))):=by kernel_rfl
def nW(L:Nat)(z:Int)(E F:List V)(C:Int->Ob Y)(D:Int->List V->List V->Ob Y)(H:List V->List V->Ob Y):Ob Y:=ifb (decide (z<(32:Int))) (chk (0<=z/\z<((32:Nat):Int)) (cI .u8 E (0+((WcL z)*1)) λI=>chk (0<=z/\z<((32:Nat):Int)) (cI .u8 F (0+((WcL z)*1)) λJ=>ifb (decide (I<J)) (C (-1:Int)) (chk (0<=z/\z<((32:Nat):Int)) (cI .u8 E (0+((WcL z)*1)) λM=>chk (0<=z/\z<((32:Nat):Int)) (cI .u8 F (0+((WcL z)*1)) λN=>ifb (decide (M>N)) (C (1:Int)) (lt (Wbf .i64 ((z:Int)+(1:Int))) λO=>D O E F))))))) (H E F)
theorem Gf(L:Nat)(D:Int)(z C:List V)(X:St->Ob Y)(K:KT Y):cC iD (iF L) 0 L qW (mh D z C) (fN rQ X K)=nW L D z C (λE=>K .ret (qL E)) (λD z C=>X (mh D z C)) (λz C=>K (.exit 0) (rX z C)):=by kernel_rfl
def vD(L:Nat)(C:Int)(z:Int->Ob Y):Ob Y:=z C
theorem CA(L:Nat)(z:Int)(k:KK Y):(cV 0 (dN (cC iD (iF L) 0 L uW) (eo 0 (CF.res cf_ref09_Compare) k))) .ret (qL z)=vD L z (λC=>k (QQe C) []):=by kernel_rfl
def pw(L:Nat)(C D:List V)(z:Int->Ob Y):Ob Y:=cI .u32 C 32 λE=>cI .u32 D 32 λF=>ifb (decide (E<F)) (z (-1:Int)) (cI .u32 C 32 λH=>cI .u32 D 32 λI=>ifb (decide (H>I)) (z (1:Int)) (z (0:Int)))
theorem DJ(L:Nat)(z C:List V)(k:KK Y):(cV 0 (dN (cC iD (iF L) 0 L uW) (eo 0 (CF.res cf_ref09_Compare) k))) (.exit 0) (rX z C)=pw L z C (λD=>k (QQe D) []):=by kernel_rfl
def ki(L:Nat)(z:Int->Ob Y)(C:List V->List V->Ob Y):Nat->Int->List V->List V->Ob Y
 | 0,_,_,_=>none
 | n+1,D,E,F=>nW L D E F z (λD E F=>ki L z C n D E F) C
theorem vF(L:Nat)(K:KT Y):∀ (n:Nat) (D:Int) (z C:List V),dX (cC iD (iF L) 0 L qW) rQ n (mh D z C) K=ki L (λE=>K .ret (qL E)) (λz C=>K (.exit 0) (rX z C)) n D z C:=by
 intro n; induction n <;> intros
 ·rfl
 ·exact (Gf ..).trans (by simp only [*]; rfl)
def sG(L:Nat)(E F:List V)(z:Int->Ob Y):Ob Y:=xo L E F (λH C D=>ki L (λI=>vD L I z) (λC D=>pw L C D z) L H C D)
theorem Lb(L:Nat)(z C:List V)(k:KK Y):dj iD (iF L) L cf_ref09_Compare [(V.agg z),(V.agg C)] [] k=sG L z C (λz=>k (QQe z) []):=by
 refine (J4 L z C k).trans ?_
 unfold sG
 first
  | (simp only [vF,CA,DJ]; done)
  | (simp only [vF]; rfl)
abbrev oJ:=∀ (Y:Type),Nat->List V->List V->(Int->Ob Y)->Ob Y
def fu:oJ:=λY=>@sG Y
def xS(fu:oJ)(L:Nat):Dk:=dA AG λz=>dA AG λC=>d0 λY k=>fu Y L z C (λz=>k (QQe z) [])
theorem KQ(L:Nat):DK (xS fu L) (λ_=>dj iD (iF L) L cf_ref09_Compare):=dk fO λz=>dk fO λC=>fC λ_ k=>Lb L z C k
def EV:CF:=cfD B7 59
def ya:Nat->Sh:=fR [(21,(.int .i64)),(24,(.int .i64))]
def yp(fu:oJ)(L:Nat):CBC:=(d6 136 (xS fu L) noC)
def zY(fu:oJ)(L:Nat)(C D:List V)(z:Bool->Ob Y):Ob Y:=chk (0+33<=(WcJ C)) (chk (0+33<=(WcJ D)) (fu Y L (WcK 33 C) (WcK 33 D) (λE=>ifb (decide (E<(0:Int))) (z true) (ifb ((E:Int)==(0:Int)) (cI .i64 C 35 λF=>cI .i64 D 35 λH=>z (decide (F<H))) (z false)))))
theorem L5(fu:oJ)(L:Nat)(z C:List V)(k:KK Y):dj ya (yp fu L) L EV [(V.agg z),(V.agg C)] [] k=zY fu L z C (λz=>k (V.sc (.bool z)) []):=by kernel_rfl
abbrev dx:=∀ (Y:Type),Nat->List V->List V->(Bool->Ob Y)->Ob Y
def bQ:dx:=λY=>@zY Y fu
def uw(bQ:dx)(L:Nat):Dk:=dA AG λz=>dA AG λC=>d0 λY k=>bQ Y L z C (λz=>k (V.sc (.bool z)) [])
theorem My(L:Nat):DK (uw bQ L) (λ_=>dj ya (yp fu L) L EV):=dk fO λz=>dk fO λC=>fC λ_ k=>L5 fu L z C k
def cf_ref29_Right:CF:=cfD Dh 32
def tR:CC:=eS [1,0,1,0,0] cf_ref29_Right.body
def yV:CC:=eS [1,1] cf_ref29_Right.body
def jc:Nat->Sh:=fR [(35,(.int .i64)),(39,(.int .i64)),(42,(.int .i64))]
def jb(bQ:dx)(L:Nat):CBC:=(d6 800 (uw bQ L) noC)
def va:St->St:=fF 0 (bl 9 47) (bl 140737479966411 47)
def ni(z:Ls)(C:Int):St:=⟨((V.sl 38 z)::(jn 2 ((QQe C)::(jn 43 [])))),(gn 47 [])⟩
def tH(z:Bool):St:=⟨(jn 2 ((V.sc (.bool z))::(jn 44 []))),(gn 47 [])⟩
def uV:St:=⟨(jn 47 []),(gn 47 [])⟩
def BC(bQ:dx)(L:Nat)(C:Ls)(z:Ls->Int->Ob Y):Ob Y:=z C (1:Int)
theorem OJ(bQ:dx)(L:Nat)(z:Ls)(k:KK Y):dj jc (jb bQ L) L cf_ref29_Right [(V.sl 38 z)] [] k=BC bQ L z (λz C=>dX (cC jc (jb bQ L) 0 L tR) va L (ni z C) (cV 0 (dN (cC jc (jb bQ L) 0 L yV) (eo 0 (CF.res cf_ref29_Right) k)))):=by kernel_rfl
def pn(bQ:dx)(L:Nat)(E:Ls)(F:Int)(C:Bool->Ob Y)(z:Ls->Int->Ob Y)(I:Ob Y):Ob Y:=ifb (decide (F<((WcJ E:Nat):Int))) (lt (Wbf .i64 ((F:Int)-(1:Int))) λP=>idx E P λJ=>idx E F λM=>chk ((WcJ (WcK 38 J))=38/\0+38<=38) (lt (cD (Wad 32 (QQa (0:Int))++[(QQc (0:Int)),(QQe (0:Int)),(V.gs 1 ([]:Ls)),(QQe (0:Int)),(V.sc (.bool false)),(QQe (0:Int))]) 0 (WcK 38 J)) λD=>chk ((WcJ (WcK 38 M))=38/\0+38<=38) (lt (cD (Wad 32 (QQa (0:Int))++[(QQc (0:Int)),(QQe (0:Int)),(V.gs 1 ([]:Ls)),(QQe (0:Int)),(V.sc (.bool false)),(QQe (0:Int))]) 0 (WcK 38 M)) λH=>chk (0+38<=(WcJ D)) (chk (0+38<=(WcJ H)) (bQ Y L (WbO V.ag (WcK 38 D)) (WbO V.ag (WcK 38 H)) (λQ=>ifb (!Q) (C false) (chk (0+33<=(WcJ D)) (chk (0+33<=(WcJ H)) (eqC 33 (WcK 33 D) (WcK 33 H) λR=>ifb R (cI .i64 D 37 λS=>ifb ((S:Int)==(0:Int)) (C false) (cI .i64 D 37 λT=>cI .i64 H 35 λU=>ifb (decide (T>U)) (C false) (lt (Wbf .i64 ((F:Int)+(1:Int))) λN=>z E N))) (lt (Wbf .i64 ((F:Int)+(1:Int))) λO=>z E O)))))))))) (I)
theorem Ie(bQ:dx)(L:Nat)(z:Ls)(C:Int)(X:St->Ob Y)(K:KT Y):cC jc (jb bQ L) 0 L tR (ni z C) (fN va X K)=pn bQ L z C (λD=>K .ret (tH D)) (λz C=>X (ni z C)) (K (.exit 0) (uV)):=by kernel_rfl
def y4(bQ:dx)(L:Nat)(C:Bool)(z:Bool->Ob Y):Ob Y:=z C
theorem Ec(bQ:dx)(L:Nat)(z:Bool)(k:KK Y):(cV 0 (dN (cC jc (jb bQ L) 0 L yV) (eo 0 (CF.res cf_ref29_Right) k))) .ret (tH z)=y4 bQ L z (λC=>k (V.sc (.bool C)) []):=by kernel_rfl
def zl(bQ:dx)(L:Nat)(z:Bool->Ob Y):Ob Y:=z true
theorem Fp(bQ:dx)(L:Nat)(k:KK Y):(cV 0 (dN (cC jc (jb bQ L) 0 L yV) (eo 0 (CF.res cf_ref29_Right) k))) (.exit 0) (uV)=zl bQ L (λz=>k (V.sc (.bool z)) []):=by kernel_rfl
def lx(bQ:dx)(L:Nat)(z:Bool->Ob Y)(C:Ob Y):Nat->Ls->Int->Ob Y
 | 0,_,_=>none
 | n+1,D,E=>pn bQ L D E z (λD E=>lx bQ L z C n D E) C
theorem yy(bQ:dx)(L:Nat)(K:KT Y):∀ (n:Nat) (z:Ls) (C:Int),dX (cC jc (jb bQ L) 0 L tR) va n (ni z C) K=lx bQ L (λD=>K .ret (tH D)) (K (.exit 0) (uV)) n z C:=by
 intro n; induction n <;> intros
 ·rfl
 ·exact (Ie ..).trans (by simp only [*]; rfl)
def vY(bQ:dx)(L:Nat)(C:Ls)(z:Bool->Ob Y):Ob Y:=BC bQ L C (λC D=>lx bQ L (λE=>y4 bQ L E z) (zl bQ L z) L C D)
theorem O1(bQ:dx)(L:Nat)(z:Ls)(k:KK Y):dj jc (jb bQ L) L cf_ref29_Right [(V.sl 38 z)] [] k=vY bQ L z (λz=>k (V.sc (.bool z)) []):=by
 refine (OJ bQ L z k).trans ?_
 unfold vY
 first
  | (simp only [yy,Ec,Fp]; done)
  | (simp only [yy]; rfl)
abbrev eK:=∀ (Y:Type),Nat->Ls->(Bool->Ob Y)->Ob Y
def cv:eK:=λY=>@vY Y bQ
def Bs(cv:eK)(L:Nat):Dk:=dA (AL 38) λz=>d0 λY k=>cv Y L z (λz=>k (V.sc (.bool z)) [])
theorem NZ(L:Nat):DK (Bs cv L) (λ_=>dj jc (jb bQ L) L cf_ref29_Right):=dk ik λz=>fC λ_ k=>O1 bQ L z k
def M3:CF:=cfD IJ 33
def Ft:Nat->Sh:=fR []
def F4(L:Nat):CBC:=noC
def HW(L:Nat)(C D E:Int)(z:Bool->Ob Y):Ob Y:=ifb (decide (C>=D)) (z (decide (C<=E))) (z false)
theorem Ur(L:Nat)(z C D:Int)(k:KK Y):dj Ft (F4 L) L M3 [(QQe z),(QQe C),(QQe D)] [] k=HW L z C D (λz=>k (V.sc (.bool z)) []):=by kernel_rfl
abbrev dU:=∀ (Y:Type),Nat->Int->Int->Int->(Bool->Ob Y)->Ob Y
def cd:dU:=λY=>@HW Y
def yj(cd:dU)(L:Nat):Dk:=dA (AI .i64) λz=>dA (AI .i64) λC=>dA (AI .i64) λD=>d0 λY k=>cd Y L z C D (λz=>k (V.sc (.bool z)) [])
theorem UE(L:Nat):DK (yj cd L) (λ_=>dj Ft (F4 L) L M3):=dk gm λz=>dk gm λC=>dk gm λD=>fC λ_ k=>Ur L z C D k
def cf_ref30_find:CF:=cfD Ez 34
def vm:CC:=eS [1,0,1,0,0] cf_ref30_find.body
def zS:CC:=eS [1,1] cf_ref30_find.body
def jR:Nat->Sh:=fR [(8,(.sl 3)),(14,(.sl 3)),(18,(.sl 1))]
def jQ(L:Nat):CBC:=noC
def wq:St->St:=fF 0 (bl 38 24) (bl 16776687 24)
def nT(z:Ls)(C:Int)(D:List V):St:=⟨(jn 1 ((V.sl 1 z)::((V.ptr 2 0)::(jn 2 ((QQe C)::(jn 18 [])))))),(gn 2 ((.live true D)::(gn 21 [])))⟩
def uU(z:Int):St:=⟨(jn 4 ((QQe z)::(jn 19 []))),(gn 24 [])⟩
def wy:St:=⟨(jn 24 []),(gn 24 [])⟩
def D2(L:Nat)(C:List V)(D:Ls)(z:Ls->Int->List V->Ob Y):Ob Y:=z D (0:Int) C
theorem RE(L:Nat)(C:List V)(z:Ls)(k:KK Y):dj jR (jQ L) L cf_ref30_find [(V.agg C),(V.sl 1 z)] [] k=D2 L C z (λz D E=>dX (cC jR (jQ L) 0 L vm) wq L (nT z D E) (cV 0 (dN (cC jR (jQ L) 0 L zS) (eo 0 (CF.res cf_ref30_find) k)))):=by kernel_rfl
def wd(L:Nat)(H:Ls)(C:Int)(E:List V)(D:Int->Ob Y)(z:Ls->Int->List V->Ob Y)(F:Ob Y):Ob Y:=cLd 3 E 0 λI=>ifb (decide (C<((WcJ I:Nat):Int))) (cLd 3 E 0 λJ=>idx J C λM=>cL 1 M 0 λN=>zX N λO=>zX H λP=>ifb (ByteArray.toList O==ByteArray.toList P) (D C) (lt (Wbf .i64 ((C:Int)+(1:Int))) λQ=>z H Q E)) (F)
theorem Ja(L:Nat)(z:Ls)(C:Int)(D:List V)(X:St->Ob Y)(K:KT Y):cC jR (jQ L) 0 L vm (nT z C D) (fN wq X K)=wd L z C D (λE=>K .ret (uU E)) (λz C D=>X (nT z C D)) (K (.exit 0) (wy)):=by kernel_rfl
def zr(L:Nat)(C:Int)(z:Int->Ob Y):Ob Y:=z C
theorem Gc(L:Nat)(z:Int)(k:KK Y):(cV 0 (dN (cC jR (jQ L) 0 L zS) (eo 0 (CF.res cf_ref30_find) k))) .ret (uU z)=zr L z (λC=>k (QQe C) []):=by kernel_rfl
def A6(L:Nat)(z:Int->Ob Y):Ob Y:=z (-1:Int)
theorem Gz(L:Nat)(k:KK Y):(cV 0 (dN (cC jR (jQ L) 0 L zS) (eo 0 (CF.res cf_ref30_find) k))) (.exit 0) (wy)=A6 L (λz=>k (QQe z) []):=by kernel_rfl
def nI(L:Nat)(z:Int->Ob Y)(C:Ob Y):Nat->Ls->Int->List V->Ob Y
 | 0,_,_,_=>none
 | n+1,D,E,F=>wd L D E F z (λD E F=>nI L z C n D E F) C
theorem zg(L:Nat)(K:KT Y):∀ (n:Nat) (z:Ls) (C:Int) (D:List V),dX (cC jR (jQ L) 0 L vm) wq n (nT z C D) K=nI L (λE=>K .ret (uU E)) (K (.exit 0) (wy)) n z C D:=by
 intro n; induction n <;> intros
 ·rfl
 ·exact (Ja ..).trans (by simp only [*]; rfl)
def xA(L:Nat)(D:List V)(C:Ls)(z:Int->Ob Y):Ob Y:=D2 L D C (λC E F=>nI L (λH=>zr L H z) (A6 L z) L C E F)
theorem Qf(L:Nat)(z:List V)(C:Ls)(k:KK Y):dj jR (jQ L) L cf_ref30_find [(V.agg z),(V.sl 1 C)] [] k=xA L z C (λz=>k (QQe z) []):=by
 refine (RE L z C k).trans ?_
 unfold xA
 first
  | (simp only [zg,Gc,Gz]; done)
  | (simp only [zg]; rfl)
abbrev eF:=∀ (Y:Type),Nat->List V->Ls->(Int->Ob Y)->Ob Y
def cm:eF:=λY=>@xA Y
def ye(cm:eF)(L:Nat):Dk:=dA AG λz=>dA (AL 1) λC=>d0 λY k=>cm Y L z C (λz=>k (QQe z) [])
theorem PA(L:Nat):DK (ye cm L) (λ_=>dj jR (jQ L) L cf_ref30_find):=dk fO λz=>dk ik λC=>fC λ_ k=>Qf L z C k
def M7:CF:=cfD IF 60
def Fx:Nat->Sh:=fR []
def FU(L:Nat):CBC:=noC
def Iz(L:Nat)(C D E:Int)(z:Bool->Ob Y):Ob Y:=ifb (decide (C>=D)) (z (decide (C<=E))) (z false)
theorem Uy(L:Nat)(z C D:Int)(k:KK Y):dj Fx (FU L) L M7 [(QQe z),(QQe C),(QQe D)] [] k=Iz L z C D (λz=>k (V.sc (.bool z)) []):=by kernel_rfl
abbrev xF:=∀ (Y:Type),Nat->Int->Int->Int->(Bool->Ob Y)->Ob Y
def hI:xF:=λY=>@Iz Y
def IA(hI:xF)(L:Nat):Dk:=dA (AI .i64) λz=>dA (AI .i64) λC=>dA (AI .i64) λD=>d0 λY k=>hI Y L z C D (λz=>k (V.sc (.bool z)) [])
theorem Uu(L:Nat):DK (IA hI L) (λ_=>dj Fx (FU L) L M7):=dk gm λz=>dk gm λC=>dk gm λD=>fC λ_ k=>Uy L z C D k
def EF:CF:=cfD Cb 35
def xx:Nat->Sh:=fR [(10,(.int .i64)),(15,(.int .i64)),(21,(.sl 1)),(27,(.int .i64)),(33,(.int .i64)),(37,(.int .i64)),(39,(.int .i64))]
def xU(hI:xF)(L:Nat):CBC:=(d6 791 (IA hI L) noC)
def zx(hI:xF)(L:Nat)(C:List V)(E:Int)(z:Bool->Ob Y):Ob Y:=chk (0+37<=(WcJ C)) (chk ((WcJ (WcK 37 C))=37/\0+37<=37) (lt (cD (Wad 32 (QQa (0:Int))++[(QQc (0:Int)),(QQe (0:Int)),(V.gs 1 ([]:Ls)),(QQe (0:Int)),(V.sc (.bool false))]) 0 (WcK 37 C)) λD=>cI .i64 D 33 λF=>ifb (decide (F>=(0:Int))) (cI .i64 D 33 λH=>ifb (decide (H<=(2100000000000000:Int))) (cLd 1 D 34 λI=>ifb (decide (((WcJ I:Nat):Int)<=(520:Int))) (cI .i64 D 35 λJ=>hI Y L J (1:Int) E (λM=>ifb M (cI .i64 C 37 λN=>ifb ((N:Int)==(0:Int)) (z true) (cI .i64 C 37 λO=>cI .i64 D 35 λP=>hI Y L O P E (λQ=>z Q))) (z false))) (z false)) (z false)) (z false)))
theorem Mg(hI:xF)(L:Nat)(z:List V)(C:Int)(k:KK Y):dj xx (xU hI L) L EF [(V.agg z),(QQe C)] [] k=zx hI L z C (λz=>k (V.sc (.bool z)) []):=by kernel_rfl
abbrev d7:=∀ (Y:Type),Nat->List V->Int->(Bool->Ob Y)->Ob Y
def ck:d7:=λY=>@zx Y hI
def zC(ck:d7)(L:Nat):Dk:=dA AG λz=>dA (AI .i64) λC=>d0 λY k=>ck Y L z C (λz=>k (V.sc (.bool z)) [])
theorem ME(L:Nat):DK (zC ck L) (λ_=>dj xx (xU hI L) L EF):=dk fO λz=>dk gm λC=>fC λ_ k=>Mg hI L z C k
def cf_ref30_Sound:CF:=cfD DV 12
def qQ:CC:=eS [1,1,1,0,1,0,0] cf_ref30_Sound.body
def sf:CC:=eS [1,1,0,1,0,0] cf_ref30_Sound.body
def vg:CC:=eS [1,1,1,1] cf_ref30_Sound.body
def qU:CC:=eS [1,1,1] cf_ref30_Sound.body
def fK:Nat->Sh:=fR [(8,(.sl 3)),(13,(.sl 38)),(19,(.sl 38)),(25,(.sl 3)),(31,(.sl 3)),(36,(.sl 1)),(41,(.sl 1)),(47,(.int .i64)),(53,(.int .i64)),(55,(.int .i64)),(63,(.sl 1)),(70,(.sl 38)),(77,(.sl 38)),(83,(.sl 1)),(89,(.sl 38)),(94,(.int .i64)),(96,(.sl 3)),(100,(.int .i64)),(105,(.sl 38)),(110,(.sl 3)),(114,(.int .i64))]
def fI(cv:eK)(cd:dU)(cm:eF)(ck:d7)(L:Nat):CBC:=(d6 793 (zC ck L) (d6 832 (ye cm L) (d6 831 (yj cd L) (d6 792 (Bs cv L) noC))))
def te:St->St:=fF 0 (bl 10 118) (bl 332306998946228949634806492755394539 118)
def rM:St->St:=fF 0 (bl 34 118) (bl 290768624058605172900632292818419627 118)
def mI(z:Int)(C:List V):St:=⟨(jn 1 ((V.ptr 1 0)::(jn 1 ((QQe z)::(jn 114 []))))),(gn 1 ((.live true C)::(gn 116 [])))⟩
def kL(z:Bool):St:=⟨(jn 2 ((V.sc (.bool z))::(jn 115 []))),(gn 118 [])⟩
def ph(z:List V):St:=⟨(jn 1 ((V.ptr 1 0)::(jn 116 []))),(gn 1 ((.live true z)::(gn 116 [])))⟩
def l7(z:Int)(C:List V):St:=⟨(jn 1 ((V.ptr 1 0)::(jn 3 ((QQe z)::(jn 112 []))))),(gn 1 ((.live true C)::(gn 116 [])))⟩
def uI:St:=⟨(jn 118 []),(gn 118 [])⟩
def B1(cv:eK)(cd:dU)(cm:eF)(ck:d7)(L:Nat)(D:List V)(z:Bool->Ob Y)(C:Int->List V->Ob Y):Ob Y:=cLd 3 D 0 λE=>ifb (decide (((WcJ E:Nat):Int)>(1000:Int))) (z false) (cLd 38 D 1 λF=>ifb (decide (((WcJ F:Nat):Int)>(4096:Int))) (z false) (cLd 38 D 1 λH=>cv Y L H (λI=>ifb (!I) (z false) (C (0:Int) D))))
theorem OO(cv:eK)(cd:dU)(cm:eF)(ck:d7)(L:Nat)(z:List V)(k:KK Y):dj fK (fI cv cd cm ck L) L cf_ref30_Sound [(V.agg z)] [] k=B1 cv cd cm ck L z (λz=>k (V.sc (.bool z)) []) (λC D=>dX (cC fK (fI cv cd cm ck L) 0 L sf) te L (mI C D) (cV 0 (dN (cC fK (fI cv cd cm ck L) 0 L qU) (eo 0 (CF.res cf_ref30_Sound) k)))):=by kernel_rfl
def oo(cv:eK)(cd:dU)(cm:eF)(ck:d7)(L:Nat)(F:Int)(D:List V)(z:Bool->Ob Y)(C:Int->List V->Ob Y)(H:List V->Ob Y):Ob Y:=cLd 3 D 0 λU=>ifb (decide (F<((WcJ U:Nat):Int))) (cLd 3 D 0 λc9=>idx c9 F λI=>chk ((WcJ (WcK 3 I))=3/\0+3<=3) (lt (cD [(V.gs 1 ([]:Ls)),(QQe (0:Int)),(QQe (0:Int))] 0 (WcK 3 I)) λE=>cLd 1 E 0 λX=>ifb ((((WcJ X:Nat):Int):Int)==(0:Int)) (z false) (cLd 1 E 0 λc8=>ifb (decide (((WcJ c8:Nat):Int)>(520:Int))) (z false) (cI .i64 E 1 λJ=>cd Y L J (1:Int) (16777216:Int) (λM=>ifb (!M) (z false) (cI .i64 E 2 λN=>cI .i64 E 1 λO=>lt (Wbf .i64 ((O:Int)-(1:Int))) λP=>cd Y L N P (16777216:Int) (λQ=>ifb (!Q) (z false) (chk (0+2<=(WcJ D)) (cLd 1 E 0 λR=>cm Y L (WbO V.ag (WcK 2 D)) R (λS=>ifb ((S:Int) != F) (z false) (lt (Wbf .i64 ((F:Int)+(1:Int))) λT=>C T D))))))))))) (H D)
theorem Hi(cv:eK)(cd:dU)(cm:eF)(ck:d7)(L:Nat)(C:Int)(z:List V)(X:St->Ob Y)(K:KT Y):cC fK (fI cv cd cm ck L) 0 L sf (mI C z) (fN te X K)=oo cv cd cm ck L C z (λD=>K .ret (kL D)) (λC z=>X (mI C z)) (λz=>K (.exit 0) (ph z)):=by kernel_rfl
def wX(cv:eK)(cd:dU)(cm:eF)(ck:d7)(L:Nat)(C:Bool)(z:Bool->Ob Y):Ob Y:=z C
theorem D0(cv:eK)(cd:dU)(cm:eF)(ck:d7)(L:Nat)(z:Bool)(k:KK Y):(cV 0 (dN (cC fK (fI cv cd cm ck L) 0 L qU) (eo 0 (CF.res cf_ref30_Sound) k))) .ret (kL z)=wX cv cd cm ck L z (λC=>k (V.sc (.bool C)) []):=by kernel_rfl
def xL(cv:eK)(cd:dU)(cm:eF)(ck:d7)(L:Nat)(C:List V)(z:Int->List V->Ob Y):Ob Y:=z (0:Int) C
theorem Ed(cv:eK)(cd:dU)(cm:eF)(ck:d7)(L:Nat)(z:List V)(k:KK Y):(cV 0 (dN (cC fK (fI cv cd cm ck L) 0 L qU) (eo 0 (CF.res cf_ref30_Sound) k))) (.exit 0) (ph z)=xL cv cd cm ck L z (λC z=>dX (cC fK (fI cv cd cm ck L) 0 L qQ) rM L (l7 C z) (cV 2 (dN (cC fK (fI cv cd cm ck L) 0 L vg) (eo 0 (CF.res cf_ref30_Sound) k)))):=by kernel_rfl
def lR(cv:eK)(cd:dU)(cm:eF)(ck:d7)(L:Nat)(E:Int)(z:List V)(C:Bool->Ob Y)(D:Int->List V->Ob Y)(H:Ob Y):Ob Y:=cLd 38 z 1 λI=>ifb (decide (E<((WcJ I:Nat):Int))) (chk (0+2<=(WcJ z)) (cLd 38 z 1 λJ=>idx J E λM=>cL 1 (WcM 1 (WcM 33 M)) 0 λN=>cm Y L (WbO V.ag (WcK 2 z)) N (λF=>ifb (decide (F<(0:Int))) (C false) (cLd 38 z 1 λO=>idx O E λP=>cI .i64 (WcM 35 P) 0 λQ=>cLd 3 z 0 λR=>idx R F λS=>cI .i64 (WcM 1 S) 0 λT=>ifb (decide (Q<T)) (C false) (cLd 38 z 1 λU=>idx U E λc9=>cLd 3 z 0 λX=>idx X F λc8=>cI .i64 (WcM 2 c8) 0 λb9=>ck Y L (WbO V.ag (WcK 38 c9)) b9 (λaa=>ifb (!aa) (C false) (lt (Wbf .i64 ((E:Int)+(1:Int))) λab=>D ab z))))))) (H)
theorem FA(cv:eK)(cd:dU)(cm:eF)(ck:d7)(L:Nat)(z:Int)(C:List V)(X:St->Ob Y)(K:KT Y):cC fK (fI cv cd cm ck L) 0 L qQ (l7 z C) (fN rM X K)=lR cv cd cm ck L z C (λD=>K .ret (kL D)) (λz C=>X (l7 z C)) (K (.exit 2) (uI)):=by kernel_rfl
def vA(cv:eK)(cd:dU)(cm:eF)(ck:d7)(L:Nat)(C:Bool)(z:Bool->Ob Y):Ob Y:=z C
theorem CJ(cv:eK)(cd:dU)(cm:eF)(ck:d7)(L:Nat)(z:Bool)(k:KK Y):(cV 2 (dN (cC fK (fI cv cd cm ck L) 0 L vg) (eo 0 (CF.res cf_ref30_Sound) k))) .ret (kL z)=vA cv cd cm ck L z (λC=>k (V.sc (.bool C)) []):=by kernel_rfl
def wU(cv:eK)(cd:dU)(cm:eF)(ck:d7)(L:Nat)(z:Bool->Ob Y):Ob Y:=z true
theorem Dv(cv:eK)(cd:dU)(cm:eF)(ck:d7)(L:Nat)(k:KK Y):(cV 2 (dN (cC fK (fI cv cd cm ck L) 0 L vg) (eo 0 (CF.res cf_ref30_Sound) k))) (.exit 2) (uI)=wU cv cd cm ck L (λz=>k (V.sc (.bool z)) []):=by kernel_rfl
def kQ(cv:eK)(cd:dU)(cm:eF)(ck:d7)(L:Nat)(z:Bool->Ob Y)(C:List V->Ob Y):Nat->Int->List V->Ob Y
 | 0,_,_=>none
 | n+1,D,E=>oo cv cd cm ck L D E z (λD E=>kQ cv cd cm ck L z C n D E) C
theorem w9(cv:eK)(cd:dU)(cm:eF)(ck:d7)(L:Nat)(K:KT Y):∀ (n:Nat) (C:Int) (z:List V),dX (cC fK (fI cv cd cm ck L) 0 L sf) te n (mI C z) K=kQ cv cd cm ck L (λD=>K .ret (kL D)) (λz=>K (.exit 0) (ph z)) n C z:=by
 intro n; induction n <;> intros
 ·rfl
 ·exact (Hi ..).trans (by simp only [*]; rfl)
def jp(cv:eK)(cd:dU)(cm:eF)(ck:d7)(L:Nat)(z:Bool->Ob Y)(C:Ob Y):Nat->Int->List V->Ob Y
 | 0,_,_=>none
 | n+1,D,E=>lR cv cd cm ck L D E z (λD E=>jp cv cd cm ck L z C n D E) C
theorem vH(cv:eK)(cd:dU)(cm:eF)(ck:d7)(L:Nat)(K:KT Y):∀ (n:Nat) (z:Int) (C:List V),dX (cC fK (fI cv cd cm ck L) 0 L qQ) rM n (l7 z C) K=jp cv cd cm ck L (λD=>K .ret (kL D)) (K (.exit 2) (uI)) n z C:=by
 intro n; induction n <;> intros
 ·rfl
 ·exact (FA ..).trans (by simp only [*]; rfl)
def pG(cv:eK)(cd:dU)(cm:eF)(ck:d7)(L:Nat)(C:List V)(z:Bool->Ob Y):Ob Y:=xL cv cd cm ck L C (λD C=>jp cv cd cm ck L (λE=>vA cv cd cm ck L E z) (wU cv cd cm ck L z) L D C)
theorem D3(cv:eK)(cd:dU)(cm:eF)(ck:d7)(L:Nat)(z:List V)(k:KK Y):(cV 0 (dN (cC fK (fI cv cd cm ck L) 0 L qU) (eo 0 (CF.res cf_ref30_Sound) k))) (.exit 0) (ph z)=pG cv cd cm ck L z (λC=>k (V.sc (.bool C)) []):=by
 refine (Ed cv cd cm ck L z k).trans ?_
 unfold pG
 first
  | (simp only [vH,CJ,Dv]; done)
  | (simp only [vH]; rfl)
def vZ(cv:eK)(cd:dU)(cm:eF)(ck:d7)(L:Nat)(D:List V)(z:Bool->Ob Y):Ob Y:=B1 cv cd cm ck L D z (λE C=>kQ cv cd cm ck L (λF=>wX cv cd cm ck L F z) (λC=>pG cv cd cm ck L C z) L E C)
theorem OA(cv:eK)(cd:dU)(cm:eF)(ck:d7)(L:Nat)(z:List V)(k:KK Y):dj fK (fI cv cd cm ck L) L cf_ref30_Sound [(V.agg z)] [] k=vZ cv cd cm ck L z (λz=>k (V.sc (.bool z)) []):=by
 refine (OO cv cd cm ck L z k).trans ?_
 unfold vZ
 first
  | (simp only [w9,D0,D3]; done)
  | (simp only [w9]; rfl)
abbrev fy:=∀ (Y:Type),Nat->List V->(Bool->Ob Y)->Ob Y
def cF:fy:=λY=>@vZ Y cv cd cm ck
def q9(cF:fy)(L:Nat):Dk:=dA AG λz=>d0 λY k=>cF Y L z (λz=>k (V.sc (.bool z)) [])
theorem NS(L:Nat):DK (q9 cF L) (λ_=>dj fK (fI cv cd cm ck L) L cf_ref30_Sound):=dk fO λz=>fC λ_ k=>OA cv cd cm ck L z k
def Fe:CF:=cfD B6 29
def yx:Nat->Sh:=fR [(1,(.row [(.sl 3),(.sl 38)]))]
def yb(L:Nat):CBC:=noC
def zK(L:Nat)(E:List V)(z:Nat->Nat->List V->List V->Ob Y):Ob Y:=chk (WcJ E=2) (cL 3 E 0 λC=>cL 38 E 1 λD=>chk ((0+WcJ C)*40<=cy/\0+WcJ C<=cy) (chk ((0+WcJ D)*96<=cy/\0+WcJ D<=cy) (z (WcJ C) (WcJ D) (WcN C) (WcN D))))
theorem ML(L:Nat)(D:List V)(k:KK Y):dj yx (yb L) L Fe [(V.agg D)] [] k=zK L D (λz C E F=>k (V.st [(V.own 0 0 z 3),(V.own 1 0 C 38)]) [(.live true E),(.live true F)]):=by kernel_rfl
abbrev dW:=∀ (Y:Type),Nat->List V->(Nat->Nat->List V->List V->Ob Y)->Ob Y
def ca:dW:=λY=>@zK Y
def pF(ca:dW)(L:Nat):Dk:=dA AG λD=>d0 λY k=>ca Y L D (λz C E F=>k (V.st [(V.own 0 0 z 3),(V.own 1 0 C 38)]) [(.live true E),(.live true F)])
theorem Mr(L:Nat):DK (pF ca L) (λ_=>dj yx (yb L) L Fe):=dk fO λz=>fC λ_ k=>ML L z k
def Ks:CF:=cfD G8 16
def Dp:Nat->Sh:=fR [(16,(.sl 3))]
def DO(cF:fy)(cd:dU)(cm:eF)(ca:dW)(L:Nat):CBC:=(d6 829 (pF ca L) (d6 832 (ye cm L) (d6 831 (yj cd L) (d6 817 (q9 cF L) noC))))
def FD(cF:fy)(cd:dU)(cm:eF)(ca:dW)(L:Nat)(C:List V)(E:Ls)(D:Int)(z:List V->Int->Ob Y):Ob Y:=chk (0+2<=(WcJ C)) (cF Y L (WbO V.ag (WcK 2 C)) (λN=>ifb (!N) (z [(V.sl 3 ([]:Ls)),(V.sl 38 ([]:Ls))] (6:Int)) (cLd 3 C 0 λO=>ifb (decide (((WcJ O:Nat):Int)>=(1000:Int))) (z [(V.sl 3 ([]:Ls)),(V.sl 38 ([]:Ls))] (4:Int)) (ifb (decide (((WcJ E:Nat):Int)>(520:Int))) (z [(V.sl 3 ([]:Ls)),(V.sl 38 ([]:Ls))] (4:Int)) (ifb ((((WcJ E:Nat):Int):Int)==(0:Int)) (z [(V.sl 3 ([]:Ls)),(V.sl 38 ([]:Ls))] (93:Int)) (cd Y L D (1:Int) (16777216:Int) (λP=>ifb (!P) (z [(V.sl 3 ([]:Ls)),(V.sl 38 ([]:Ls))] (5:Int)) (chk (0+2<=(WcJ C)) (cm Y L (WbO V.ag (WcK 2 C)) E (λQ=>ifb (decide (Q>=(0:Int))) (z [(V.sl 3 ([]:Ls)),(V.sl 38 ([]:Ls))] (150:Int)) (chk (0+2<=(WcJ C)) (ca Y L (WbO V.ag (WcK 2 C)) (λF R J S=>chk ((WcJ ([]:Ls)+WcJ E)*1<=cy/\WcJ ([]:Ls)+WcJ E<=cy) (lt (([]:Ls)++E) λH=>lt (Wbf .i64 ((D:Int)-(1:Int))) λI=>chk ((F+WcJ (cz 3 1 [(V.sl 1 H),(QQe D),(QQe I)]))*40<=cy/\(F+WcJ (cz 3 1 [(V.sl 1 H),(QQe D),(QQe I)]))<=cy/\((F+WcJ (cz 3 1 [(V.sl 1 H),(QQe D),(QQe I)]))≠0∨(WcJ J)=0)) (lt (WcK (F*3) J++WcN (cz 3 1 [(V.sl 1 H),(QQe D),(QQe I)])) λM=>z [(V.sl 3 (cz 3 (F+WcJ (cz 3 1 [(V.sl 1 H),(QQe D),(QQe I)])) M)),(V.sl 38 (cz 38 R S))] (0:Int))))))))))))))))
theorem Ti(cF:fy)(cd:dU)(cm:eF)(ca:dW)(L:Nat)(D:List V)(E:Ls)(F:Int)(k:KK Y):dj Dp (DO cF cd cm ca L) L Ks [(V.agg D),(V.sl 1 E),(QQe F)] [] k=FD cF cd cm ca L D E F (λz C=>k (V.ah [(V.agg z),(QQe C)]) []):=by kernel_rfl
abbrev jd:=∀ (Y:Type),Nat->List V->Ls->Int->(List V->Int->Ob Y)->Ob Y
def dz:jd:=λY=>@FD Y cF cd cm ca
def Fq(dz:jd)(L:Nat):Dk:=dA AG λD=>dA (AL 1) λE=>dA (AI .i64) λF=>d0 λY k=>dz Y L D E F (λz C=>k (V.ah [(V.agg z),(QQe C)]) [])
theorem SZ(L:Nat):DK (Fq dz L) (λ_=>dj Dp (DO cF cd cm ca L) L Ks):=dk fO λz=>dk ik λC=>dk gm λD=>fC λ_ k=>Ti cF cd cm ca L z C D k
def cf_ref29_Back:CF:=cfD Ff 50
def s5:CC:=eS [1,1,0,1,0,0] cf_ref29_Back.body
def EL:CC:=eS [1,1,1] cf_ref29_Back.body
def kE:Nat->Sh:=fR [(20,(.int .i64)),(24,(.int .i64))]
def kF(L:Nat):CBC:=noC
def vl:St->St:=fF 0 (bl 99 33) (bl 5368707967 33)
def m8(z:Ls)(C:Int)(D:Ls)(E:Int):St:=⟨((V.sl 38 z)::((QQe C)::(jn 3 ((V.gs 38 D)::((QQe E)::(jn 26 [])))))),(gn 33 [])⟩
def wx(z:Ls):St:=⟨(jn 5 ((V.gs 38 z)::(jn 27 []))),(gn 33 [])⟩
def Dn(L:Nat)(C:Ls)(D:Int)(z:Ls->Int->Ls->Int->Ob Y):Ob Y:=z C D ([]:Ls) (0:Int)
theorem PY(L:Nat)(z:Ls)(C:Int)(k:KK Y):dj kE (kF L) L cf_ref29_Back [(V.sl 38 z),(QQe C)] [] k=Dn L z C (λz C D E=>dX (cC kE (kF L) 0 L s5) vl L (m8 z C D E) (cV 0 (dN (cC kE (kF L) 0 L EL) (eo 0 (CF.res cf_ref29_Back) k)))):=by kernel_rfl
def lD(L:Nat)(E:Ls)(F:Int)(D:Ls)(H:Int)(z:Ls->Int->Ls->Int->Ob Y)(J:Ls->Ob Y):Ob Y:=ifb (decide (H<((WcJ E:Nat):Int))) (idx E H λM=>chk ((WcJ (WcK 38 M))=38/\0+38<=38) (lt (cD (Wad 32 (QQa (0:Int))++[(QQc (0:Int)),(QQe (0:Int)),(V.gs 1 ([]:Ls)),(QQe (0:Int)),(V.sc (.bool false)),(QQe (0:Int))]) 0 (WcK 38 M)) λC=>cI .i64 C 35 λN=>ifb (decide (N>F)) (lt (Wbf .i64 ((H:Int)+(1:Int))) λO=>z E F D O) (cI .i64 C 37 λP=>ifb (decide (P>F)) (chk (1=1/\37+1<=(WcJ C)) (lt (cD C 37 [(QQe (0:Int))]) λI=>chk (0+38<=(WcJ I)) (chk ((WcJ (WcK 38 I))=38/\0+38<=38) (chk ((WcJ D+WcJ (cz 38 1 (cD (Wad 32 (QQa (0:Int))++[(QQc (0:Int)),(QQe (0:Int)),(V.sl 1 ([]:Ls)),(QQe (0:Int)),(V.sc (.bool false)),(QQe (0:Int))]) 0 (WcK 38 I))))*96<=cy/\WcJ D+WcJ (cz 38 1 (cD (Wad 32 (QQa (0:Int))++[(QQc (0:Int)),(QQe (0:Int)),(V.sl 1 ([]:Ls)),(QQe (0:Int)),(V.sc (.bool false)),(QQe (0:Int))]) 0 (WcK 38 I)))<=cy) (lt (D++(cz 38 1 (cD (Wad 32 (QQa (0:Int))++[(QQc (0:Int)),(QQe (0:Int)),(V.sl 1 ([]:Ls)),(QQe (0:Int)),(V.sc (.bool false)),(QQe (0:Int))]) 0 (WcK 38 I)))) λQ=>lt (Wbf .i64 ((H:Int)+(1:Int))) λR=>z E F Q R))))) (chk (0+38<=(WcJ C)) (chk ((WcJ (WcK 38 C))=38/\0+38<=38) (chk ((WcJ D+WcJ (cz 38 1 (cD (Wad 32 (QQa (0:Int))++[(QQc (0:Int)),(QQe (0:Int)),(V.sl 1 ([]:Ls)),(QQe (0:Int)),(V.sc (.bool false)),(QQe (0:Int))]) 0 (WcK 38 C))))*96<=cy/\WcJ D+WcJ (cz 38 1 (cD (Wad 32 (QQa (0:Int))++[(QQc (0:Int)),(QQe (0:Int)),(V.sl 1 ([]:Ls)),(QQe (0:Int)),(V.sc (.bool false)),(QQe (0:Int))]) 0 (WcK 38 C)))<=cy) (lt (D++(cz 38 1 (cD (Wad 32 (QQa (0:Int))++[(QQc (0:Int)),(QQe (0:Int)),(V.sl 1 ([]:Ls)),(QQe (0:Int)),(V.sc (.bool false)),(QQe (0:Int))]) 0 (WcK 38 C)))) λS=>lt (Wbf .i64 ((H:Int)+(1:Int))) λT=>z E F S T))))))) (J D)
theorem H5(L:Nat)(C:Ls)(D:Int)(z:Ls)(E:Int)(X:St->Ob Y)(K:KT Y):cC kE (kF L) 0 L s5 (m8 C D z E) (fN vl X K)=lD L C D z E (λC D z E=>X (m8 C D z E)) (λz=>K (.exit 0) (wx z)):=by kernel_rfl
def zp(L:Nat)(C:Ls)(z:Ls->Ob Y):Ob Y:=z C
theorem FP(L:Nat)(z:Ls)(k:KK Y):(cV 0 (dN (cC kE (kF L) 0 L EL) (eo 0 (CF.res cf_ref29_Back) k))) (.exit 0) (wx z)=zp L z (λC=>k (V.gs 38 C) []):=by kernel_rfl
def jg(L:Nat)(z:Ls->Ob Y):Nat->Ls->Int->Ls->Int->Ob Y
 | 0,_,_,_,_=>none
 | n+1,C,D,E,F=>lD L C D E F (λC D E F=>jg L z n C D E F) z
theorem yz(L:Nat)(K:KT Y):∀ (n:Nat) (C:Ls) (D:Int) (z:Ls) (E:Int),dX (cC kE (kF L) 0 L s5) vl n (m8 C D z E) K=jg L (λz=>K (.exit 0) (wx z)) n C D z E:=by
 intro n; induction n <;> intros
 ·rfl
 ·exact (H5 ..).trans (by simp only [*]; rfl)
def xB(L:Nat)(C:Ls)(D:Int)(z:Ls->Ob Y):Ob Y:=Dn L C D (λC D E F=>jg L (λE=>zp L E z) L C D E F)
theorem Q1(L:Nat)(z:Ls)(C:Int)(k:KK Y):dj kE (kF L) L cf_ref29_Back [(V.sl 38 z),(QQe C)] [] k=xB L z C (λz=>k (V.gs 38 z) []):=by
 refine (PY L z C k).trans ?_
 unfold xB
 first
  | (simp only [yz,FP]; done)
  | (simp only [yz]; rfl)
abbrev iO:=∀ (Y:Type),Nat->Ls->Int->(Ls->Ob Y)->Ob Y
def dy:iO:=λY=>@xB Y
def CX(dy:iO)(L:Nat):Dk:=dA (AL 38) λz=>dA (AI .i64) λC=>d0 λY k=>dy Y L z C (λz=>k (V.gs 38 z) [])
theorem Qq(L:Nat):DK (CX dy L) (λ_=>dj kE (kF L) L cf_ref29_Back):=dk ik λz=>dk gm λC=>fC λ_ k=>Q1 L z C k
def cf_ref30_Rewind:CF:=cfD Ck 24
def oR:CC:=eS [1,1,1,1,0,1,0,0] cf_ref30_Rewind.body
def zi:CC:=eS [1,1,1,1,1] cf_ref30_Rewind.body
def ju:Nat->Sh:=fR [(33,(.int .i64)),(41,(.int .i64)),(47,(.sl 38))]
def jB(cF:fy)(cd:dU)(ca:dW)(dy:iO)(L:Nat):CBC:=(d6 797 (CX dy L) (d6 829 (pF ca L) (d6 831 (yj cd L) (d6 817 (q9 cF L) noC))))
def pH:St->St:=fF 0 (bl 214 52) (bl 4494769172512767 52)
def lq(I J:Int)(M:List V)(D E:Ls)(z C:Nat)(F H:List V):St:=⟨(jn 1 ((QQe I)::((V.ptr 2 0)::(jn 1 ((V.ptr 4 0)::(jn 1 ((V.ptr 6 0)::((QQe J)::(jn 44 []))))))))),(gn 2 ((.live true M)::(gn 1 ((.live false [(V.gs 3 D),(V.gs 38 E)])::(gn 1 ((.live false [(V.own 10 0 z 3),(V.own 14 0 C 38)])::(gn 3 ((.live true F)::(gn 3 ((.live true H)::(gn 37 [])))))))))))⟩
def sO(I:Int)(J:List V)(D E:Ls)(z C:Nat)(F H:List V):St:=⟨(jn 1 ((QQe I)::((V.ptr 2 0)::(jn 1 ((V.ptr 4 0)::(jn 1 ((V.ptr 6 0)::(jn 45 [])))))))),(gn 2 ((.live true J)::(gn 1 ((.live false [(V.gs 3 D),(V.gs 38 E)])::(gn 1 ((.live false [(V.own 10 0 z 3),(V.own 14 0 C 38)])::(gn 3 ((.live true F)::(gn 3 ((.live true H)::(gn 37 [])))))))))))⟩
abbrev vL(Y:Type):Type:=Int->Int->List V->Ls->Ls->Nat->Nat->List V->List V->Ob Y
abbrev wR(Y:Type):Type:=Int->List V->Ls->Ls->Nat->Nat->List V->List V->Ob Y
def pN(cF:fy)(cd:dU)(ca:dW)(dy:iO)(L:Nat)(D:List V)(E:Int)(C:List V->Int->Ob Y)(z:vL Y):Ob Y:=chk (0+2<=(WcJ D)) (cF Y L (WbO V.ag (WcK 2 D)) (λF=>ifb (!F) (C [(V.sl 3 ([]:Ls)),(V.sl 38 ([]:Ls))] (6:Int)) (cd Y L E (0:Int) (16777216:Int) (λH=>ifb (!H) (C [(V.sl 3 ([]:Ls)),(V.sl 38 ([]:Ls))] (5:Int)) (chk (0+2<=(WcJ D)) (ca Y L (WbO V.ag (WcK 2 D)) (λI J M N=>z E (0:Int) D ([]:Ls) ([]:Ls) I J M N)))))))
theorem LX(cF:fy)(cd:dU)(ca:dW)(dy:iO)(L:Nat)(J:List V)(z:Int)(k:KK Y):dj ju (jB cF cd ca dy L) L cf_ref30_Rewind [(V.agg J),(QQe z)] [] k=pN cF cd ca dy L J z (λE F=>k (V.ah [(V.agg E),(QQe F)]) []) (λz O P H I C D M N=>dX (cC ju (jB cF cd ca dy L) 0 L oR) pH L (lq z O P H I C D M N) (cV 0 (dN (cC ju (jB cF cd ca dy L) 0 L zi) (eo 0 (CF.res cf_ref30_Rewind) k)))):=by kernel_rfl
def mG(cF:fy)(cd:dU)(ca:dW)(dy:iO)(L:Nat)(M C:Int)(O:List V)(H I:Ls)(z F:Nat)(E J:List V)(D:vL Y)(N:wR Y):Ob Y:=ifb (decide (C<((z:Nat):Int))) (chk (0<=C/\C<((z:Nat):Int)) (cI .i64 E ((0+((WcL C)*3))+2) λS=>lt (Kc S M) λT=>chk (0<=C/\C<((z:Nat):Int)) (cI .i64 E ((0+((WcL C)*3))+1) λU=>lt (Wbf .i64 ((U:Int)-(1:Int))) λc9=>lt (W6 T c9) λP=>chk (0<=C/\C<((z:Nat):Int)) (chk (1=1/\((0+((WcL C)*3))+2)+1<=(WcJ E)) (lt (cD E ((0+((WcL C)*3))+2) [(QQe P)]) λQ=>lt (Wbf .i64 ((C:Int)+(1:Int))) λR=>D M R O H I z F Q J))))) (N M O H I z F E J)
theorem DE(cF:fy)(cd:dU)(ca:dW)(dy:iO)(L:Nat)(I M:Int)(J:List V)(D E:Ls)(z C:Nat)(F H:List V)(X:St->Ob Y)(K:KT Y):cC ju (jB cF cd ca dy L) 0 L oR (lq I M J D E z C F H) (fN pH X K)=mG cF cd ca dy L I M J D E z C F H (λI M J D E z C F H=>X (lq I M J D E z C F H)) (λI J D E z C F H=>K (.exit 0) (sO I J D E z C F H)):=by kernel_rfl
def oc(cF:fy)(cd:dU)(ca:dW)(dy:iO)(L:Nat)(I:Int)(J:List V)(M N:Ls)(z H:Nat)(D O:List V)(C:List V->Int->Ob Y):Ob Y:=cLd 38 J 1 λE=>dy Y L E I (λF=>C [(V.sl 3 (cz 3 z D)),(V.sl 38 F)] (0:Int))
theorem Bt(cF:fy)(cd:dU)(ca:dW)(dy:iO)(L:Nat)(M:Int)(N:List V)(D E:Ls)(z C:Nat)(F H:List V)(k:KK Y):(cV 0 (dN (cC ju (jB cF cd ca dy L) 0 L zi) (eo 0 (CF.res cf_ref30_Rewind) k))) (.exit 0) (sO M N D E z C F H)=oc cF cd ca dy L M N D E z C F H (λI J=>k (V.ah [(V.agg I),(QQe J)]) []):=by kernel_rfl
def jF(cF:fy)(cd:dU)(ca:dW)(dy:iO)(L:Nat)(F:wR Y):Nat->Int->Int->List V->Ls->Ls->Nat->Nat->List V->List V->Ob Y
 | 0,_,_,_,_,_,_,_,_,_=>none
 | n+1,J,M,N,D,E,z,C,H,I=>mG cF cd ca dy L J M N D E z C H I (λJ M N D E z C H I=>jF cF cd ca dy L F n J M N D E z C H I) F
theorem ti(cF:fy)(cd:dU)(ca:dW)(dy:iO)(L:Nat)(K:KT Y):∀ (n:Nat) (I M:Int) (J:List V) (D E:Ls) (z C:Nat) (F H:List V),dX (cC ju (jB cF cd ca dy L) 0 L oR) pH n (lq I M J D E z C F H) K=jF cF cd ca dy L (λI J D E z C F H=>K (.exit 0) (sO I J D E z C F H)) n I M J D E z C F H:=by
 intro n; induction n <;> intros
 ·rfl
 ·exact (DE ..).trans (by simp only [*]; rfl)
def nu(cF:fy)(cd:dU)(ca:dW)(dy:iO)(L:Nat)(N:List V)(H:Int)(F:List V->Int->Ob Y):Ob Y:=pN cF cd ca dy L N H F (λH O M D E z C I J=>jF cF cd ca dy L (λH M D E z C I J=>oc cF cd ca dy L H M D E z C I J F) L H O M D E z C I J)
theorem LY(cF:fy)(cd:dU)(ca:dW)(dy:iO)(L:Nat)(z:List V)(C:Int)(k:KK Y):dj ju (jB cF cd ca dy L) L cf_ref30_Rewind [(V.agg z),(QQe C)] [] k=nu cF cd ca dy L z C (λD E=>k (V.ah [(V.agg D),(QQe E)]) []):=by
 refine (LX cF cd ca dy L z C k).trans ?_
 unfold nu
 first
  | (simp only [ti,Bt]; done)
  | (simp only [ti]; rfl)
abbrev gO:=∀ (Y:Type),Nat->List V->Int->(List V->Int->Ob Y)->Ob Y
def cS:gO:=λY=>@nu Y cF cd ca dy
def Ab(cS:gO)(L:Nat):Dk:=dA AG λD=>dA (AI .i64) λE=>d0 λY k=>cS Y L D E (λz C=>k (V.ah [(V.agg z),(QQe C)]) [])
theorem LV(L:Nat):DK (Ab cS L) (λ_=>dj ju (jB cF cd ca dy L) L cf_ref30_Rewind):=dk fO λz=>dk gm λC=>fC λ_ k=>LY cF cd ca dy L z C k
def cf_ref30_Reached:CF:=cfD A1 22
def pL:CC:=eS [1,1,0,1,0,0] cf_ref30_Reached.body
def Bc:CC:=eS [1,1,1] cf_ref30_Reached.body
def iZ:Nat->Sh:=fR [(7,(.sl 3)),(25,(.sl 3)),(29,(.int .i64)),(16,(.sl 3)),(20,(.int .i64))]
def iT(L:Nat):CBC:=noC
def qI:St->St:=fF 0 (bl 26 31) (bl 2147483391 31)
def lI(z C:Int)(D:List V):St:=⟨(jn 1 ((V.ptr 1 0)::(jn 1 ((QQe z)::((QQe C)::(jn 26 [])))))),(gn 1 ((.live true D)::(gn 29 [])))⟩
def rV(z:Int):St:=⟨(jn 3 ((QQe z)::(jn 27 []))),(gn 31 [])⟩
def xr(L:Nat)(C:List V)(z:Int->Int->List V->Ob Y):Ob Y:=z (-1:Int) (0:Int) C
theorem Jx(L:Nat)(z:List V)(k:KK Y):dj iZ (iT L) L cf_ref30_Reached [(V.agg z)] [] k=xr L z (λC D E=>dX (cC iZ (iT L) 0 L pL) qI L (lI C D E) (cV 0 (dN (cC iZ (iT L) 0 L Bc) (eo 0 (CF.res cf_ref30_Reached) k)))):=by kernel_rfl
def qX(L:Nat)(E C:Int)(D:List V)(z:Int->Int->List V->Ob Y)(F:Int->Ob Y):Ob Y:=cLd 3 D 0 λM=>ifb (decide (C<((WcJ M:Nat):Int))) (ifb (decide (E<(0:Int))) (cLd 3 D 0 λN=>idx N C λO=>cI .i64 (WcM 2 O) 0 λP=>lt (Wbf .i64 ((C:Int)+(1:Int))) λQ=>z P Q D) (cLd 3 D 0 λR=>idx R C λS=>cI .i64 (WcM 2 S) 0 λT=>ifb (decide (T<E)) (cLd 3 D 0 λU=>idx U C λc9=>cI .i64 (WcM 2 c9) 0 λH=>lt (Wbf .i64 ((C:Int)+(1:Int))) λI=>z H I D) (lt (Wbf .i64 ((C:Int)+(1:Int))) λJ=>z E J D))) (F E)
theorem Eg(L:Nat)(z C:Int)(D:List V)(X:St->Ob Y)(K:KT Y):cC iZ (iT L) 0 L pL (lI z C D) (fN qI X K)=qX L z C D (λz C D=>X (lI z C D)) (λz=>K (.exit 0) (rV z)):=by kernel_rfl
def vu(L:Nat)(C:Int)(z:Int->Ob Y):Ob Y:=z C
theorem Cz(L:Nat)(z:Int)(k:KK Y):(cV 0 (dN (cC iZ (iT L) 0 L Bc) (eo 0 (CF.res cf_ref30_Reached) k))) (.exit 0) (rV z)=vu L z (λC=>k (QQe C) []):=by kernel_rfl
def lp(L:Nat)(z:Int->Ob Y):Nat->Int->Int->List V->Ob Y
 | 0,_,_,_=>none
 | n+1,C,D,E=>qX L C D E (λC D E=>lp L z n C D E) z
theorem uD(L:Nat)(K:KT Y):∀ (n:Nat) (z C:Int) (D:List V),dX (cC iZ (iT L) 0 L pL) qI n (lI z C D) K=lp L (λz=>K (.exit 0) (rV z)) n z C D:=by
 intro n; induction n <;> intros
 ·rfl
 ·exact (Eg ..).trans (by simp only [*]; rfl)
def sH(L:Nat)(D:List V)(z:Int->Ob Y):Ob Y:=xr L D (λC E F=>lp L (λC=>vu L C z) L C E F)
theorem K3(L:Nat)(z:List V)(k:KK Y):dj iZ (iT L) L cf_ref30_Reached [(V.agg z)] [] k=sH L z (λz=>k (QQe z) []):=by
 refine (Jx L z k).trans ?_
 unfold sH
 first
  | (simp only [uD,Cz]; done)
  | (simp only [uD]; rfl)
abbrev de:=∀ (Y:Type),Nat->List V->(Int->Ob Y)->Ob Y
def bO:de:=λY=>@sH Y
def mK(bO:de)(L:Nat):Dk:=dA AG λz=>d0 λY k=>bO Y L z (λz=>k (QQe z) [])
theorem Kj(L:Nat):DK (mK bO L) (λ_=>dj iZ (iT L) L cf_ref30_Reached):=dk fO λz=>fC λ_ k=>K3 L z k
def cf_ref30_due:CF:=cfD GD 45
def uY:CC:=eS [1,1,0,1,0,0] cf_ref30_due.body
def Hf:CC:=eS [1,1,1] cf_ref30_due.body
def kX:Nat->Sh:=fR [(7,(.sl 3)),(13,(.sl 3)),(17,(.int .i64)),(23,(.sl 3)),(27,(.sl 1))]
def kW(bO:de)(L:Nat):CBC:=(d6 825 (mK bO L) noC)
def wv:St->St:=fF 0 (bl 26 31) (bl 1341652735 31)
def nN(z:Ls)(C:Int)(D:List V):St:=⟨(jn 1 ((V.ptr 1 0)::(jn 1 ((V.gs 1 z)::((QQe C)::(jn 26 [])))))),(gn 1 ((.live true D)::(gn 29 [])))⟩
def xp(z:Ls):St:=⟨(jn 3 ((V.gs 1 z)::(jn 27 []))),(gn 31 [])⟩
def FY(bO:de)(L:Nat)(C:List V)(z:Ls->Int->List V->Ob Y):Ob Y:=z ([]:Ls) (0:Int) C
theorem SG(bO:de)(L:Nat)(z:List V)(k:KK Y):dj kX (kW bO L) L cf_ref30_due [(V.agg z)] [] k=FY bO L z (λC D E=>dX (cC kX (kW bO L) 0 L uY) wv L (nN C D E) (cV 0 (dN (cC kX (kW bO L) 0 L Hf) (eo 0 (CF.res cf_ref30_due) k)))):=by kernel_rfl
def wJ(bO:de)(L:Nat)(D:Ls)(E:Int)(C:List V)(z:Ls->Int->List V->Ob Y)(F:Ls->Ob Y):Ob Y:=cLd 3 C 0 λJ=>ifb (decide (E<((WcJ J:Nat):Int))) (cLd 3 C 0 λM=>idx M E λN=>cI .i64 (WcM 2 N) 0 λO=>chk (0+2<=(WcJ C)) (bO Y L (WbO V.ag (WcK 2 C)) (λP=>ifb ((O:Int)==P) (cLd 3 C 0 λQ=>idx Q E λR=>cL 1 R 0 λH=>chk ((WcJ D+WcJ (cz 1 1 [(V.sl 1 H)]))*24<=cy/\WcJ D+WcJ (cz 1 1 [(V.sl 1 H)])<=cy) (lt (D++(cz 1 1 [(V.sl 1 H)])) λS=>lt (Wbf .i64 ((E:Int)+(1:Int))) λT=>z S T C)) (lt (Wbf .i64 ((E:Int)+(1:Int))) λI=>z D I C)))) (F D)
theorem Ji(bO:de)(L:Nat)(z:Ls)(C:Int)(D:List V)(X:St->Ob Y)(K:KT Y):cC kX (kW bO L) 0 L uY (nN z C D) (fN wv X K)=wJ bO L z C D (λz C D=>X (nN z C D)) (λz=>K (.exit 0) (xp z)):=by kernel_rfl
def tt(bO:de)(L:Nat)(C:Ls)(z:Ls->Ob Y):Ob Y:=z C
theorem GI(bO:de)(L:Nat)(z:Ls)(k:KK Y):(cV 0 (dN (cC kX (kW bO L) 0 L Hf) (eo 0 (CF.res cf_ref30_due) k))) (.exit 0) (xp z)=tt bO L z (λC=>k (V.gs 1 C) []):=by kernel_rfl
def nB(bO:de)(L:Nat)(z:Ls->Ob Y):Nat->Ls->Int->List V->Ob Y
 | 0,_,_,_=>none
 | n+1,C,D,E=>wJ bO L C D E (λC D E=>nB bO L z n C D E) z
theorem zw(bO:de)(L:Nat)(K:KT Y):∀ (n:Nat) (z:Ls) (C:Int) (D:List V),dX (cC kX (kW bO L) 0 L uY) wv n (nN z C D) K=nB bO L (λz=>K (.exit 0) (xp z)) n z C D:=by
 intro n; induction n <;> intros
 ·rfl
 ·exact (Ji ..).trans (by simp only [*]; rfl)
def Ax(bO:de)(L:Nat)(D:List V)(z:Ls->Ob Y):Ob Y:=FY bO L D (λC E F=>nB bO L (λC=>tt bO L C z) L C E F)
theorem Tk(bO:de)(L:Nat)(z:List V)(k:KK Y):dj kX (kW bO L) L cf_ref30_due [(V.agg z)] [] k=Ax bO L z (λz=>k (V.gs 1 z) []):=by
 refine (SG bO L z k).trans ?_
 unfold Ax
 first
  | (simp only [zw,GI]; done)
  | (simp only [zw]; rfl)
abbrev hZ:=∀ (Y:Type),Nat->List V->(Ls->Ob Y)->Ob Y
def dc:hZ:=λY=>@Ax Y bO
def Av(dc:hZ)(L:Nat):Dk:=dA AG λz=>d0 λY k=>dc Y L z (λz=>k (V.gs 1 z) [])
theorem SK(L:Nat):DK (Av dc L) (λ_=>dj kX (kW bO L) L cf_ref30_due):=dk fO λz=>fC λ_ k=>Tk bO L z k
def I1:CF:=cfD E7 69
def B0:Nat->Sh:=fR []
def BG(L:Nat):CBC:=noC
def Do(L:Nat)(C D:Ls)(z:Bool->Ob Y):Ob Y:=zX C λE=>zX D λF=>z (ByteArray.toList E==ByteArray.toList F)
theorem Ql(L:Nat)(z C:Ls)(k:KK Y):dj B0 (BG L) L I1 [(V.sl 1 z),(V.sl 1 C)] [] k=Do L z C (λz=>k (V.sc (.bool z)) []):=by kernel_rfl
abbrev hF:=∀ (Y:Type),Nat->Ls->Ls->(Bool->Ob Y)->Ob Y
def dq:hF:=λY=>@Do Y
def Dj(dq:hF)(L:Nat):Dk:=dA (AL 1) λz=>dA (AL 1) λC=>d0 λY k=>dq Y L z C (λz=>k (V.sc (.bool z)) [])
theorem Pu(L:Nat):DK (Dj dq L) (λ_=>dj B0 (BG L) L I1):=dk ik λz=>dk ik λC=>fC λ_ k=>Ql L z C k
def cf_ref29_Has:CF:=cfD Gw 46
def wB:CC:=eS [1,0,1,0,0] cf_ref29_Has.body
def BJ:CC:=eS [1,1] cf_ref29_Has.body
def km:Nat->Sh:=fR [(15,(.sl 1))]
def ko(dq:hF)(L:Nat):CBC:=(d6 130 (Dj dq L) noC)
def yQ:St->St:=fF 0 (bl 35 18) (bl 130799 18)
def oi(z C:Ls)(D:Int):St:=⟨((V.sl 1 z)::((V.sl 1 C)::(jn 3 ((QQe D)::(jn 12 []))))),(gn 18 [])⟩
def wF(z:Bool):St:=⟨(jn 4 ((V.sc (.bool z))::(jn 13 []))),(gn 18 [])⟩
def yM:St:=⟨(jn 18 []),(gn 18 [])⟩
def FZ(dq:hF)(L:Nat)(C D:Ls)(z:Ls->Ls->Int->Ob Y):Ob Y:=z C D (0:Int)
theorem RT(dq:hF)(L:Nat)(z C:Ls)(k:KK Y):dj km (ko dq L) L cf_ref29_Has [(V.sl 1 z),(V.sl 1 C)] [] k=FZ dq L z C (λz C D=>dX (cC km (ko dq L) 0 L wB) yQ L (oi z C D) (cV 0 (dN (cC km (ko dq L) 0 L BJ) (eo 0 (CF.res cf_ref29_Has) k)))):=by kernel_rfl
def yT(dq:hF)(L:Nat)(D H:Ls)(E:Int)(C:Bool->Ob Y)(z:Ls->Ls->Int->Ob Y)(F:Ob Y):Ob Y:=ifb (decide (E<((WcJ D:Nat):Int))) (idx D E λI=>cL 1 I 0 λJ=>dq Y L J H (λM=>ifb M (C true) (lt (Wbf .i64 ((E:Int)+(1:Int))) λN=>z D H N))) (F)
theorem Kx(dq:hF)(L:Nat)(z C:Ls)(D:Int)(X:St->Ob Y)(K:KT Y):cC km (ko dq L) 0 L wB (oi z C D) (fN yQ X K)=yT dq L z C D (λE=>K .ret (wF E)) (λz C D=>X (oi z C D)) (K (.exit 0) (yM)):=by kernel_rfl
def tm(dq:hF)(L:Nat)(C:Bool)(z:Bool->Ob Y):Ob Y:=z C
theorem GF(dq:hF)(L:Nat)(z:Bool)(k:KK Y):(cV 0 (dN (cC km (ko dq L) 0 L BJ) (eo 0 (CF.res cf_ref29_Has) k))) .ret (wF z)=tm dq L z (λC=>k (V.sc (.bool C)) []):=by kernel_rfl
def uN(dq:hF)(L:Nat)(z:Bool->Ob Y):Ob Y:=z false
theorem Ik(dq:hF)(L:Nat)(k:KK Y):(cV 0 (dN (cC km (ko dq L) 0 L BJ) (eo 0 (CF.res cf_ref29_Has) k))) (.exit 0) (yM)=uN dq L (λz=>k (V.sc (.bool z)) []):=by kernel_rfl
def oE(dq:hF)(L:Nat)(z:Bool->Ob Y)(C:Ob Y):Nat->Ls->Ls->Int->Ob Y
 | 0,_,_,_=>none
 | n+1,D,E,F=>yT dq L D E F z (λD E F=>oE dq L z C n D E F) C
theorem AN(dq:hF)(L:Nat)(K:KT Y):∀ (n:Nat) (z C:Ls) (D:Int),dX (cC km (ko dq L) 0 L wB) yQ n (oi z C D) K=oE dq L (λE=>K .ret (wF E)) (K (.exit 0) (yM)) n z C D:=by
 intro n; induction n <;> intros
 ·rfl
 ·exact (Kx ..).trans (by simp only [*]; rfl)
def AE(dq:hF)(L:Nat)(C D:Ls)(z:Bool->Ob Y):Ob Y:=FZ dq L C D (λC D E=>oE dq L (λF=>tm dq L F z) (uN dq L z) L C D E)
theorem Sc(dq:hF)(L:Nat)(z C:Ls)(k:KK Y):dj km (ko dq L) L cf_ref29_Has [(V.sl 1 z),(V.sl 1 C)] [] k=AE dq L z C (λz=>k (V.sc (.bool z)) []):=by
 refine (RT dq L z C k).trans ?_
 unfold AE
 first
  | (simp only [AN,GF,Ik]; done)
  | (simp only [AN]; rfl)
abbrev cZ:=∀ (Y:Type),Nat->Ls->Ls->(Bool->Ob Y)->Ob Y
def bM:cZ:=λY=>@AE Y dq
def vJ(bM:cZ)(L:Nat):Dk:=dA (AL 1) λz=>dA (AL 1) λC=>d0 λY k=>bM Y L z C (λz=>k (V.sc (.bool z)) [])
theorem Sg(L:Nat):DK (vJ bM L) (λ_=>dj km (ko dq L) L cf_ref29_Has):=dk ik λz=>dk ik λC=>fC λ_ k=>Sc dq L z C k
def zc:CF:=cfD wZ 71
def rE:Nat->Sh:=fR []
def rP(cA:fo)(L:Nat):CBC:=(d6 193 (pz cA L) noC)
def sV(cA:fo)(L:Nat)(D:Ls)(C:List V)(z:Ls->Ob Y):Ob Y:=chk (0+32*1<=(WcJ C)) (ifb (List.isEmpty C) (cA Y L D (cz 1 32 C) (λE=>z E)) (cA Y L D (cz 1 32 C) (λF=>z F)))
theorem Gn(cA:fo)(L:Nat)(z:Ls)(C:List V)(k:KK Y):dj rE (rP cA L) L zc [(V.sl 1 z),(V.agg C)] [] k=sV cA L z C (λz=>k (V.gs 1 z) []):=by kernel_rfl
abbrev mw:=∀ (Y:Type),Nat->Ls->List V->(Ls->Ob Y)->Ob Y
def eY:mw:=λY=>@sV Y cA
def tj(eY:mw)(L:Nat):Dk:=dA (AL 1) λz=>dA AG λC=>d0 λY k=>eY Y L z C (λz=>k (V.gs 1 z) [])
theorem G5(L:Nat):DK (tj eY L) (λ_=>dj rE (rP cA L) L zc):=dk ik λz=>dk fO λC=>fC λ_ k=>Gn cA L z C k
def cf_ref01_little:CF:=cfD B8 96
def qM:CC:=eS [1,1,0,1,0,0] cf_ref01_little.body
def Ci:CC:=eS [1,1,1] cf_ref01_little.body
def jx:Nat->Sh:=fR []
def jz(L:Nat):CBC:=noC
def rO:St->St:=fF 0 (bl 3105 24) (bl 16777151 24)
def l5(E:Int)(z:Nat)(C D:Int)(F:List V):St:=⟨((QQd E)::(jn 4 ((V.own 8 0 z 1)::(jn 4 ((QQe C)::((QQe D)::(jn 12 []))))))),(gn 8 ((.live true F)::(gn 15 [])))⟩
def tT(z:Nat)(C:List V):St:=⟨(jn 5 ((V.own 8 0 z 1)::(jn 18 []))),(gn 8 ((.live true C)::(gn 15 [])))⟩
def Hk(L:Nat)(D z:Int)(C:Int->Nat->Int->Int->List V->Ob Y):Ob Y:=chk (0<=z/\z<=z/\(WcL z)*1<=cy/\z<=cy) (C D (WcL z) (((WcL z):Nat):Int) (0:Int) (WcN (Wad (WcL z) [(QQa (0:Int))])))
theorem L8(L:Nat)(z C:Int)(k:KK Y):dj jx (jz L) L cf_ref01_little [(QQd z),(QQe C)] [] k=Hk L z C (λz D E F H=>dX (cC jx (jz L) 0 L qM) rO L (l5 z D E F H) (cV 0 (dN (cC jx (jz L) 0 L Ci) (eo 0 (CF.res cf_ref01_little) k)))):=by kernel_rfl
def ze(L:Nat)(I:Int)(D:Nat)(E z:Int)(F:List V)(C:Int->Nat->Int->Int->List V->Ob Y)(H:Nat->List V->Ob Y):Ob Y:=ifb (decide (z<E)) (lt (Wbf .i64 (((8:Int):Int)*z)) λJ=>chk (0<=J) (lt (Kd .u64 I J) λM=>lt (Wbf .u8 M) λN=>chk (0<=z/\z<((D:Nat):Int)) (chk (1=1/\(0+((WcL z)*1))+1<=(WcJ F)) (lt (cD F (0+((WcL z)*1)) [(QQa N)]) λO=>lt (Wbf .i64 ((z:Int)+(1:Int))) λP=>C I D E P O)))) (H D F)
theorem FG(L:Nat)(F:Int)(z:Nat)(C D:Int)(E:List V)(X:St->Ob Y)(K:KT Y):cC jx (jz L) 0 L qM (l5 F z C D E) (fN rO X K)=ze L F z C D E (λF z C D E=>X (l5 F z C D E)) (λz E=>K (.exit 0) (tT z E)):=by kernel_rfl
def xa(L:Nat)(C:Nat)(D:List V)(z:Ls->Ob Y):Ob Y:=chk (C≠0∨(WcJ D)=0) (z (cz 1 C D))
theorem Dc(L:Nat)(z:Nat)(C:List V)(k:KK Y):(cV 0 (dN (cC jx (jz L) 0 L Ci) (eo 0 (CF.res cf_ref01_little) k))) (.exit 0) (tT z C)=xa L z C (λD=>k (V.fr 1 D) []):=by kernel_rfl
def se(L:Nat)(z:Nat->List V->Ob Y):Nat->Int->Nat->Int->Int->List V->Ob Y
 | 0,_,_,_,_,_=>none
 | n+1,F,C,D,E,H=>ze L F C D E H (λF C D E H=>se L z n F C D E H) z
theorem vx(L:Nat)(K:KT Y):∀ (n:Nat) (F:Int) (z:Nat) (D E:Int) (C:List V),dX (cC jx (jz L) 0 L qM) rO n (l5 F z D E C) K=se L (λz C=>K (.exit 0) (tT z C)) n F z D E C:=by
 intro n; induction n <;> intros
 ·rfl
 ·exact (FG ..).trans (by simp only [*]; rfl)
def zH(L:Nat)(D I:Int)(C:Ls->Ob Y):Ob Y:=Hk L D I (λD z F H E=>se L (λz E=>xa L z E C) L D z F H E)
theorem MA(L:Nat)(z C:Int)(k:KK Y):dj jx (jz L) L cf_ref01_little [(QQd z),(QQe C)] [] k=zH L z C (λz=>k (V.fr 1 z) []):=by
 refine (L8 L z C k).trans ?_
 unfold zH
 first
  | (simp only [vx,Dc]; done)
  | (simp only [vx]; rfl)
abbrev pI:=∀ (Y:Type),Nat->Int->Int->(Ls->Ob Y)->Ob Y
def fT:pI:=λY=>@zH Y
def zO(fT:pI)(L:Nat):Dk:=dA (AI .u64) λz=>dA (AI .i64) λC=>d0 λY k=>fT Y L z C (λz=>k (V.fr 1 z) [])
theorem Mn(L:Nat):DK (zO fT L) (λ_=>dj jx (jz L) L cf_ref01_little):=dk gm λz=>dk gm λC=>fC λ_ k=>MA L z C k
def Bk:CF:=cfD xX 70
def sW:Nat->Sh:=fR []
def sY(fT:pI)(cA:fo)(L:Nat):CBC:=(d6 193 (pz cA L) (d6 194 (zO fT L) noC))
def vk(fT:pI)(cA:fo)(L:Nat)(C:Ls)(D:Int)(z:Ls->Ob Y):Ob Y:=lt (Wbf .u64 D) λE=>fT Y L E (4:Int) (λF=>cA Y L C F (λH=>z H))
theorem H6(fT:pI)(cA:fo)(L:Nat)(z:Ls)(C:Int)(k:KK Y):dj sW (sY fT cA L) L Bk [(V.sl 1 z),(QQc C)] [] k=vk fT cA L z C (λz=>k (V.gs 1 z) []):=by kernel_rfl
abbrev mU:=∀ (Y:Type),Nat->Ls->Int->(Ls->Ob Y)->Ob Y
def ff:mU:=λY=>@vk Y fT cA
def vc(ff:mU)(L:Nat):Dk:=dA (AL 1) λz=>dA (AI .u32) λC=>d0 λY k=>ff Y L z C (λz=>k (V.gs 1 z) [])
theorem HK(L:Nat):DK (vc ff L) (λ_=>dj sW (sY fT cA L) L Bk):=dk ik λz=>dk gm λC=>fC λ_ k=>H6 fT cA L z C k
end
end
end Go.Proofs.YtipklgbboecciaaGreat
