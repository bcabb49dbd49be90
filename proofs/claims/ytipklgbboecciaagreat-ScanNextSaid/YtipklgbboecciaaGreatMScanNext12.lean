/- Part 12 of the proof of ScanNext: an abstract machine over plain values, its soundness, and the functions of the program on plain values. -/
import Derived.Test.YtipklgbboecciaaGreatMScanNext11
namespace Go.Proofs.YtipklgbboecciaaGreat
set_option maxRecDepth 100000
set_option linter.unusedVariables false
set_option linter.unusedSimpArgs false
open List renaming length->WcJ,take->WcK,replicate->Wad,map->WbO,drop->WcM,flatten->WcN
open IntKind renaming wrap->Wbf
open Int renaming toNat->WcL
section
noncomputable section
variable {Y:Type}
def cf_ref03_Pad:CF:=cfD G6 151
def tU:CC:=eS [1,1,1,0,1,0,0] cf_ref03_Pad.body
def wl:CC:=eS [1,1,0,0,0] cf_ref03_Pad.body
def Fg:CC:=eS [1,1,1,1] cf_ref03_Pad.body
def zy:CC:=eS [1,1,1] cf_ref03_Pad.body
def gS:Nat->Sh:=fP []
def gW(L:Nat):CBC:=noC
def xK:St->St:=fF 0 (bl 9 31) (bl 2147385087 31)
def u3:St->St:=fF 0 (bl 25 31) (bl 1342177279 31)
def oq(z:Int)(C:Ls):St:=⟨((QQd z)::(jn 2 ((V.gs 1 C)::(jn 27 [])))),(gn 31 [])⟩
def sq(z:Int)(C:Ls):St:=⟨((QQd z)::(jn 2 ((V.gs 1 C)::(jn 27 [])))),(gn 31 [])⟩
def nh(z:Int)(C:Ls)(D:Int):St:=⟨((QQd z)::(jn 2 ((V.gs 1 C)::((QQe D)::(jn 26 []))))),(gn 31 [])⟩
def xX(z:Ls):St:=⟨(jn 3 ((V.gs 1 z)::(jn 27 []))),(gn 31 [])⟩
def Fq(L:Nat)(C:Int)(z:Int->Ls->Ob Y):Ob Y:=z C (cz 1 1 [(QQa (128:Int))])
theorem Sm(L:Nat)(z:Int)(k:KK Y):dj gS (gW L) L cf_ref03_Pad [(QQd z)] [] k=Fq L z (λz C=>dX (cC gS (gW L) 0 L wl) xK L (oq z C) (cW 0 (dN (cC gS (gW L) 0 L zy) (eo 0 (CF.res cf_ref03_Pad) k)))):=by kernel_rfl
def yn(L:Nat)(D:Int)(C:Ls)(z:Int->Ls->Ob Y)(E:Int->Ls->Ob Y):Ob Y:=lt (Wbf .u64 ((WcJ C:Nat):Int)) λF=>lt (Wbf .u64 ((D:Int)+F)) λH=>lt (Wbf .u64 ((H:Int)+(8:Int))) λI=>lt (Int.tmod I (64:Int)) λJ=>ifb ((J:Int) != (0:Int)) (chk ((WcJ C+WcJ (cz 1 1 [(QQa (0:Int))]))*1<=cy/\WcJ C+WcJ (cz 1 1 [(QQa (0:Int))])<=cy) (lt (C++(cz 1 1 [(QQa (0:Int))])) λM=>z D M)) (E D C)
theorem Kc(L:Nat)(z:Int)(C:Ls)(X:St->Ob Y)(K:KT Y):cC gS (gW L) 0 L wl (oq z C) (fO xK X K)=yn L z C (λz C=>X (oq z C)) (λz C=>K (.exit 0) (sq z C)):=by kernel_rfl
def uT(L:Nat)(C:Int)(D:Ls)(z:Int->Ls->Int->Ob Y):Ob Y:=z C D (7:Int)
theorem HW(L:Nat)(z:Int)(C:Ls)(k:KK Y):(cW 0 (dN (cC gS (gW L) 0 L zy) (eo 0 (CF.res cf_ref03_Pad) k))) (.exit 0) (sq z C)=uT L z C (λz C D=>dX (cC gS (gW L) 0 L tU) u3 L (nh z C D) (cW 2 (dN (cC gS (gW L) 0 L Fg) (eo 0 (CF.res cf_ref03_Pad) k)))):=by kernel_rfl
def mR(L:Nat)(H:Int)(C:Ls)(D:Int)(z:Int->Ls->Int->Ob Y)(E:Ls->Ob Y):Ob Y:=ifb (decide (D>=(0:Int))) (lt (Wbf .u64 (((8:Int):Int)*H)) λM=>lt (Wbf .i64 (((8:Int):Int)*D)) λI=>chk (0<=I) (lt (JV .u64 M I) λN=>lt (Wbf .u8 N) λF=>chk ((WcJ C+WcJ (cz 1 1 [(QQa F)]))*1<=cy/\WcJ C+WcJ (cz 1 1 [(QQa F)])<=cy) (lt (C++(cz 1 1 [(QQa F)])) λO=>lt (Wbf .i64 ((D:Int)-(1:Int))) λJ=>z H O J))) (E C)
theorem HV(L:Nat)(C:Int)(z:Ls)(D:Int)(X:St->Ob Y)(K:KT Y):cC gS (gW L) 0 L tU (nh C z D) (fO u3 X K)=mR L C z D (λC z D=>X (nh C z D)) (λz=>K (.exit 2) (xX z)):=by kernel_rfl
def rS(L:Nat)(C:Ls)(z:Ls->Ob Y):Ob Y:=z C
theorem Gb(L:Nat)(z:Ls)(k:KK Y):(cW 2 (dN (cC gS (gW L) 0 L Fg) (eo 0 (CF.res cf_ref03_Pad) k))) (.exit 2) (xX z)=rS L z (λC=>k (V.gs 1 C) []):=by kernel_rfl
def oG(L:Nat)(z:Int->Ls->Ob Y):Nat->Int->Ls->Ob Y
 | 0,_,_=>none
 | n+1,C,D=>yn L C D (λC D=>oG L z n C D) z
theorem Bk(L:Nat)(K:KT Y):∀ (n:Nat) (z:Int) (C:Ls),dX (cC gS (gW L) 0 L wl) xK n (oq z C) K=oG L (λz C=>K (.exit 0) (sq z C)) n z C:=by
 intro n; induction n <;> intros
 ·rfl
 ·exact (Kc ..).trans (by simp only [*]; rfl)
def lE(L:Nat)(z:Ls->Ob Y):Nat->Int->Ls->Int->Ob Y
 | 0,_,_,_=>none
 | n+1,C,D,E=>mR L C D E (λC D E=>lE L z n C D E) z
theorem yG(L:Nat)(K:KT Y):∀ (n:Nat) (C:Int) (z:Ls) (D:Int),dX (cC gS (gW L) 0 L tU) u3 n (nh C z D) K=lE L (λz=>K (.exit 2) (xX z)) n C z D:=by
 intro n; induction n <;> intros
 ·rfl
 ·exact (HV ..).trans (by simp only [*]; rfl)
def oi(L:Nat)(D:Int)(z:Ls)(C:Ls->Ob Y):Ob Y:=uT L D z (λD z E=>lE L (λz=>rS L z C) L D z E)
theorem GH(L:Nat)(z:Int)(C:Ls)(k:KK Y):(cW 0 (dN (cC gS (gW L) 0 L zy) (eo 0 (CF.res cf_ref03_Pad) k))) (.exit 0) (sq z C)=oi L z C (λz=>k (V.gs 1 z) []):=by
 refine (HW L z C k).trans ?_
 unfold oi
 first
  | (simp only [yG,Gb]; done)
  | (simp only [yG]; rfl)
def Aq(L:Nat)(z:Int)(C:Ls->Ob Y):Ob Y:=Fq L z (λz D=>oG L (λz D=>oi L z D C) L z D)
theorem RN(L:Nat)(z:Int)(k:KK Y):dj gS (gW L) L cf_ref03_Pad [(QQd z)] [] k=Aq L z (λz=>k (V.gs 1 z) []):=by
 refine (Sm L z k).trans ?_
 unfold Aq
 first
  | (simp only [Bk,GH]; done)
  | (simp only [Bk]; rfl)
abbrev Na:=∀ (Y:Type),Nat->Int->(Ls->Ob Y)->Ob Y
def oY:Na:=λY=>@Aq Y
def M5(oY:Na)(L:Nat):Dk:=dA (AI .u64) λz=>d0 λY k=>oY Y L z (λz=>k (V.gs 1 z) [])
theorem SO(L:Nat):DK (M5 oY L) (λ_=>dj gS (gW L) L cf_ref03_Pad):=dk gm λz=>fC λ_ k=>RN L z k
abbrev eV:=∀ (Y:Type),Nat->List V->List V->List V->(Int->Ob Y)->Ob Y
def cj:eV:=λY L z C D kf=>opD (cN rows) 300 476 L Y [(V.agg z),(V.agg C),(V.agg D)] [] λv _=>(AI .i64) Y v λp=>kf p
def Bu(cj:eV)(L:Nat):Dk:=dA AG λz=>dA AG λC=>dA AG λD=>d0 λY k=>cj Y L z C D (λE=>k (QQe E) [])
theorem NQ(L:Nat):DK (Bu cj L) (opD (cN rows) 300 476 L):=dk fN λz=>dk fN λC=>dk fN λD=>Ap gm [(V.agg z),(V.agg C),(V.agg D)] λ_ _ _=>rfl
abbrev fk:=∀ (Y:Type),Nat->List V->(List V->Ob Y)->Ob Y
def co:fk:=λY L z kf=>opD (cN rows) 300 429 L Y [(V.agg z)] [] λv _=>AG Y v λp=>kf p
def C5(co:fk)(L:Nat):Dk:=dA AG λz=>d0 λY k=>co Y L z (λC=>k (V.agg C) [])
theorem Rl(L:Nat):DK (C5 co L) (opD (cN rows) 300 429 L):=dk fN λz=>Ap fN [(V.agg z)] λ_ _ _=>rfl
abbrev d9:=∀ (Y:Type),Nat->List V->Int->(Int->Ob Y)->Ob Y
def bW:d9:=λY L z C kf=>opD (cN rows) 300 472 L Y [(V.agg z),(QQe C)] [] λv _=>(AI .i64) Y v λp=>kf p
def xn(bW:d9)(L:Nat):Dk:=dA AG λz=>dA (AI .i64) λC=>d0 λY k=>bW Y L z C (λD=>k (QQe D) [])
theorem Ln(L:Nat):DK (xn bW L) (opD (cN rows) 300 472 L):=dk fN λz=>dk gm λC=>Ap gm [(V.agg z),(QQe C)] λ_ _ _=>rfl
def cf_ref23_find:CF:=cfD EB 114
def vd:CC:=eS [1,0,1,0,0] cf_ref23_find.body
def zz:CC:=eS [1,1] cf_ref23_find.body
def jR:Nat->Sh:=fP []
def jO(L:Nat):CBC:=noC
def wy:St->St:=fF 0 (bl 393 20) (bl 1048527 20)
def nU(z:Ls)(C D:Int)(E:List V):St:=⟨((V.sl 37 z)::(jn 2 ((V.ptr 3 0)::(jn 3 ((QQe C)::((QQe D)::(jn 11 []))))))),(gn 3 ((.live true E)::(gn 16 [])))⟩
def vp(z:Int):St:=⟨(jn 4 ((QQe z)::(jn 15 []))),(gn 20 [])⟩
def wo:St:=⟨(jn 20 []),(gn 20 [])⟩
def C7(L:Nat)(C:Ls)(D:List V)(z:Ls->Int->Int->List V->Ob Y):Ob Y:=z C ((WcJ C:Nat):Int) (0:Int) D
theorem PU(L:Nat)(z:Ls)(C:List V)(k:KK Y):dj jR (jO L) L cf_ref23_find [(V.sl 37 z),(V.agg C)] [] k=C7 L z C (λz D E F=>dX (cC jR (jO L) 0 L vd) wy L (nU z D E F) (cW 0 (dN (cC jR (jO L) 0 L zz) (eo 0 (CF.res cf_ref23_find) k)))):=by kernel_rfl
def wI(L:Nat)(H:Ls)(I C:Int)(E:List V)(D:Int->Ob Y)(z:Ls->Int->Int->List V->Ob Y)(F:Ob Y):Ob Y:=ifb (decide (C<I)) (idx H C λJ=>chk (0+33<=(WcJ E)) (eqC 33 (WcK 33 J) (WcK 33 E) λM=>ifb M (D C) (lt (Wbf .i64 ((C:Int)+(1:Int))) λN=>z H I N E))) (F)
theorem Jd(L:Nat)(z:Ls)(C D:Int)(E:List V)(X:St->Ob Y)(K:KT Y):cC jR (jO L) 0 L vd (nU z C D E) (fO wy X K)=wI L z C D E (λF=>K .ret (vp F)) (λz C D E=>X (nU z C D E)) (K (.exit 0) (wo)):=by kernel_rfl
def nV(L:Nat)(C:Int)(z:Int->Ob Y):Ob Y:=z C
theorem Fz(L:Nat)(z:Int)(k:KK Y):(cW 0 (dN (cC jR (jO L) 0 L zz) (eo 0 (CF.res cf_ref23_find) k))) .ret (vp z)=nV L z (λC=>k (QQe C) []):=by kernel_rfl
def oh(L:Nat)(z:Int->Ob Y):Ob Y:=z (-1:Int)
theorem GO(L:Nat)(k:KK Y):(cW 0 (dN (cC jR (jO L) 0 L zz) (eo 0 (CF.res cf_ref23_find) k))) (.exit 0) (wo)=oh L (λz=>k (QQe z) []):=by kernel_rfl
def nB(L:Nat)(z:Int->Ob Y)(C:Ob Y):Nat->Ls->Int->Int->List V->Ob Y
 | 0,_,_,_,_=>none
 | n+1,D,E,F,H=>wI L D E F H z (λD E F H=>nB L z C n D E F H) C
theorem zf(L:Nat)(K:KT Y):∀ (n:Nat) (z:Ls) (C D:Int) (E:List V),dX (cC jR (jO L) 0 L vd) wy n (nU z C D E) K=nB L (λF=>K .ret (vp F)) (K (.exit 0) (wo)) n z C D E:=by
 intro n; induction n <;> intros
 ·rfl
 ·exact (Jd ..).trans (by simp only [*]; rfl)
def yY(L:Nat)(C:Ls)(D:List V)(z:Int->Ob Y):Ob Y:=C7 L C D (λC E F H=>nB L (λI=>nV L I z) (oh L z) L C E F H)
theorem QR(L:Nat)(z:Ls)(C:List V)(k:KK Y):dj jR (jO L) L cf_ref23_find [(V.sl 37 z),(V.agg C)] [] k=yY L z C (λz=>k (QQe z) []):=by
 refine (PU L z C k).trans ?_
 unfold yY
 first
  | (simp only [zf,Fz,GO]; done)
  | (simp only [zf]; rfl)
abbrev dr:=∀ (Y:Type),Nat->Ls->List V->(Int->Ob Y)->Ob Y
def bP:dr:=λY=>@yY Y
def xY(bP:dr)(L:Nat):Dk:=dA (AL 37) λz=>dA AG λC=>d0 λY k=>bP Y L z C (λz=>k (QQe z) [])
theorem QG(L:Nat):DK (xY bP L) (λ_=>dj jR (jO L) L cf_ref23_find):=dk ik λz=>dk fN λC=>fC λ_ k=>QR L z C k
def Eu:CF:=cfD Cb 95
def yy:Nat->Sh:=fP []
def yE(L:Nat):CBC:=noC
def ud(L:Nat)(z C:Ls)(D:Ls->Ob Y):Ob Y:=lt (Wbf .i64 ((((WcJ z:Nat):Int):Int)+((WcJ C:Nat):Int))) λE=>chk (0<=(0:Int)/\(0:Int)<=E/\(WcL E)*1<=cy/\E<=cy) (chk ((WcJ (Wad 0 [(QQa (0:Int))])+WcJ z)*1<=cy/\WcJ (Wad 0 [(QQa (0:Int))])+WcJ z<=cy) (lt ((Wad 0 [(QQa (0:Int))])++z) λF=>chk ((WcJ F+WcJ C)*1<=cy/\WcJ F+WcJ C<=cy) (lt (F++C) λH=>D H)))
theorem LY(L:Nat)(z C:Ls)(k:KK Y):dj yy (yE L) L Eu [(V.sl 1 z),(V.sl 1 C)] [] k=ud L z C (λz=>k (V.gs 1 z) []):=by kernel_rfl
abbrev fo:=∀ (Y:Type),Nat->Ls->Ls->(Ls->Ob Y)->Ob Y
def cA:fo:=λY=>@ud Y
def pT(cA:fo)(L:Nat):Dk:=dA (AL 1) λz=>dA (AL 1) λC=>d0 λY k=>cA Y L z C (λz=>k (V.gs 1 z) [])
theorem LW(L:Nat):DK (pT cA L) (λ_=>dj yy (yE L) L Eu):=dk ik λz=>dk ik λC=>fC λ_ k=>LY L z C k
def cf_ref01_Join:CF:=cfD E6 157
def tJ:CC:=eS [1,1,0,1,0,0] cf_ref01_Join.body
def Fh:CC:=eS [1,1,1] cf_ref01_Join.body
def kz:Nat->Sh:=fP [(11,(.sl 1))]
def kH(cA:fo)(L:Nat):CBC:=(d6 193 (pT cA L) noC)
def uS:St->St:=fF 0 (bl 456 17) (bl 114655 17)
def nf(z C:Ls)(D E:Int):St:=⟨(jn 3 ((V.gs 1 z)::(jn 2 ((V.sl 1 C)::((QQe D)::((QQe E)::(jn 8 []))))))),(gn 17 [])⟩
def wK(z:Ls):St:=⟨(jn 3 ((V.gs 1 z)::(jn 13 []))),(gn 17 [])⟩
def D3(cA:fo)(L:Nat)(C:Ls)(z:Ls->Ls->Int->Int->Ob Y):Ob Y:=z ([]:Ls) C ((WcJ C:Nat):Int) (0:Int)
theorem Qq(cA:fo)(L:Nat)(z:Ls)(k:KK Y):dj kz (kH cA L) L cf_ref01_Join [(V.sl 1 z)] [] k=D3 cA L z (λC D E F=>dX (cC kz (kH cA L) 0 L tJ) uS L (nf C D E F) (cW 0 (dN (cC kz (kH cA L) 0 L Fh) (eo 0 (CF.res cf_ref01_Join) k)))):=by kernel_rfl
def uP(cA:fo)(L:Nat)(E F:Ls)(H C:Int)(z:Ls->Ls->Int->Int->Ob Y)(D:Ls->Ob Y):Ob Y:=ifb (decide (C<H)) (idx F C λI=>cL 1 I 0 λJ=>cA Y L E J (λM=>lt (Wbf .i64 ((C:Int)+(1:Int))) λN=>z M F H N)) (D E)
theorem Ii(cA:fo)(L:Nat)(z C:Ls)(D E:Int)(X:St->Ob Y)(K:KT Y):cC kz (kH cA L) 0 L tJ (nf z C D E) (fO uS X K)=uP cA L z C D E (λz C D E=>X (nf z C D E)) (λz=>K (.exit 0) (wK z)):=by kernel_rfl
def zp(cA:fo)(L:Nat)(C:Ls)(z:Ls->Ob Y):Ob Y:=z C
theorem Fx(cA:fo)(L:Nat)(z:Ls)(k:KK Y):(cW 0 (dN (cC kz (kH cA L) 0 L Fh) (eo 0 (CF.res cf_ref01_Join) k))) (.exit 0) (wK z)=zp cA L z (λC=>k (V.gs 1 C) []):=by kernel_rfl
def pj(cA:fo)(L:Nat)(z:Ls->Ob Y):Nat->Ls->Ls->Int->Int->Ob Y
 | 0,_,_,_,_=>none
 | n+1,C,D,E,F=>uP cA L C D E F (λC D E F=>pj cA L z n C D E F) z
theorem xo(cA:fo)(L:Nat)(K:KT Y):∀ (n:Nat) (z C:Ls) (D E:Int),dX (cC kz (kH cA L) 0 L tJ) uS n (nf z C D E) K=pj cA L (λz=>K (.exit 0) (wK z)) n z C D E:=by
 intro n; induction n <;> intros
 ·rfl
 ·exact (Ii ..).trans (by simp only [*]; rfl)
def xW(cA:fo)(L:Nat)(D:Ls)(z:Ls->Ob Y):Ob Y:=D3 cA L D (λC E F H=>pj cA L (λC=>zp cA L C z) L C E F H)
theorem PV(cA:fo)(L:Nat)(z:Ls)(k:KK Y):dj kz (kH cA L) L cf_ref01_Join [(V.sl 1 z)] [] k=xW cA L z (λz=>k (V.gs 1 z) []):=by
 refine (Qq cA L z k).trans ?_
 unfold xW
 first
  | (simp only [xo,Fx]; done)
  | (simp only [xo]; rfl)
abbrev tD:=∀ (Y:Type),Nat->Ls->(Ls->Ob Y)->Ob Y
def f6:tD:=λY=>@xW Y cA
def CY(f6:tD)(L:Nat):Dk:=dA (AL 1) λz=>d0 λY k=>f6 Y L z (λz=>k (V.gs 1 z) [])
theorem QA(L:Nat):DK (CY f6 L) (λ_=>dj kz (kH cA L) L cf_ref01_Join):=dk ik λz=>fC λ_ k=>PV cA L z k
def Cg:CF:=cfD za 139
def uX:Nat->Sh:=fP [(1,(.row [(.int .u8),(.int .u8),(.int .u8),(.int .u8),(.int .u8),(.int .u8),(.int .u8),(.int .u8),(.int .u8),(.int .u8),(.int .u8),(.int .u8),(.int .u8),(.int .u8),(.int .u8),(.int .u8),(.int .u8),(.int .u8),(.int .u8),(.int .u8),(.int .u8),(.int .u8),(.int .u8),(.int .u8),(.int .u8),(.int .u8),(.int .u8),(.int .u8),(.int .u8),(.int .u8),(.int .u8),(.int .u8),(.int .u32),(.int .i64),(.sl 1),(.int .i64),.bool]))]
def uN(f6:tD)(L:Nat):CBC:=(d6 453 (CY f6 L) noC)
def DY(f6:tD)(L:Nat)(z:List V)(C:List V->Ob Y):Ob Y:=chk (WcJ z=37) (cI .u8 z 0 λv0=>cI .u8 z 1 λv1=>cI .u8 z 2 λv2=>cI .u8 z 3 λv3=>cI .u8 z 4 λv4=>cI .u8 z 5 λv5=>cI .u8 z 6 λv6=>cI .u8 z 7 λv7=>cI .u8 z 8 λv8=>cI .u8 z 9 λv9=>cI .u8 z 10 λE=>cI .u8 z 11 λF=>cI .u8 z 12 λH=>cI .u8 z 13 λI=>cI .u8 z 14 λJ=>cI .u8 z 15 λM=>cI .u8 z 16 λN=>cI .u8 z 17 λO=>cI .u8 z 18 λP=>cI .u8 z 19 λQ=>cI .u8 z 20 λR=>cI .u8 z 21 λS=>cI .u8 z 22 λT=>cI .u8 z 23 λU=>cI .u8 z 24 λc9=>cI .u8 z 25 λX=>cI .u8 z 26 λc8=>cI .u8 z 27 λb9=>cI .u8 z 28 λaa=>cI .u8 z 29 λab=>cI .u8 z 30 λac=>cI .u8 z 31 λad=>cI .u32 z 32 λag=>cI .i64 z 33 λan=>cL 1 z 34 λao=>cI .i64 z 35 λap=>cB z 36 λaq=>f6 Y L (cz 1 1 [(V.sl 1 ao)]) (λar=>lt [(QQa v0),(QQa v1),(QQa v2),(QQa v3),(QQa v4),(QQa v5),(QQa v6),(QQa v7),(QQa v8),(QQa v9),(QQa E),(QQa F),(QQa H),(QQa I),(QQa J),(QQa M),(QQa N),(QQa O),(QQa P),(QQa Q),(QQa R),(QQa S),(QQa T),(QQa U),(QQa c9),(QQa X),(QQa c8),(QQa b9),(QQa aa),(QQa ab),(QQa ac),(QQa ad),(QQc ag),(QQe an),(V.sl 1 ar),(QQe ap),(V.sc (.bool aq))] λD=>chk (0=0/\(WcJ D)=37/\37≠0) (C D)))
theorem Jf(f6:tD)(L:Nat)(z:List V)(k:KK Y):dj uX (uN f6 L) L Cg [(V.agg z)] [] k=DY f6 L z (λz=>k (V.agg z) []):=by kernel_rfl
abbrev dQ:=∀ (Y:Type),Nat->List V->(List V->Ob Y)->Ob Y
def bX:dQ:=λY=>@DY Y f6
def wM(bX:dQ)(L:Nat):Dk:=dA AG λz=>d0 λY k=>bX Y L z (λz=>k (V.agg z) [])
theorem I7(L:Nat):DK (wM bX L) (λ_=>dj uX (uN f6 L) L Cg):=dk fN λz=>fC λ_ k=>Jf f6 L z k
def cf_ref23_spent:CF:=cfD DZ 111
def qr:CC:=eS [1,1,1,0,1,0,0] cf_ref23_spent.body
def rZ:CC:=eS [1,1,0,1,0,0] cf_ref23_spent.body
def vo:CC:=eS [1,1,1,1] cf_ref23_spent.body
def qC:CC:=eS [1,1,1] cf_ref23_spent.body
def fK:Nat->Sh:=fP [(17,(.sl 35)),(45,.bool),(49,(.int .i64)),(52,(.int .i64))]
def fH(bP:dr)(bX:dQ)(L:Nat):CBC:=(d6 441 (wM bX L) (d6 480 (xY bP L) noC))
def sN:St->St:=fF 0 (bl 918554 57) (bl 144115067749616831 57)
def rL:St->St:=fF 0 (bl 1924145349656 57) (bl 144115188075818175 57)
def mF(F:Ls)(H:Int)(z C:Ls)(D E:Int)(I:List V):St:=⟨(jn 1 ((V.sl 37 F)::(jn 1 ((QQe H)::((V.ptr 4 0)::(jn 5 ((V.gs 37 z)::(jn 6 ((V.sl 35 C)::((QQe D)::((QQe E)::(jn 37 [])))))))))))),(gn 4 ((.live true I)::(gn 52 [])))⟩
def kL(z:Ls)(C:Int):St:=⟨(jn 8 ((V.gs 37 z)::((QQe C)::(jn 47 [])))),(gn 57 [])⟩
def pg(C:Int)(z:Ls)(D:List V):St:=⟨(jn 3 ((QQe C)::((V.ptr 4 0)::(jn 5 ((V.gs 37 z)::(jn 46 [])))))),(gn 4 ((.live true D)::(gn 52 [])))⟩
def mc(F:Int)(z C:Ls)(D E:Int)(H:List V):St:=⟨(jn 3 ((QQe F)::((V.ptr 4 0)::(jn 5 ((V.gs 37 z)::(jn 27 ((V.sl 37 C)::((QQe D)::((QQe E)::(jn 16 [])))))))))),(gn 4 ((.live true H)::(gn 52 [])))⟩
def u2(z:Ls):St:=⟨(jn 10 ((V.gs 37 z)::(jn 46 []))),(gn 57 [])⟩
abbrev zc(Y:Type):Type:=Ls->Int->Ls->Ls->Int->Int->List V->Ob Y
abbrev yr(Y:Type):Type:=Int->Ls->Ls->Int->Int->List V->Ob Y
def BP(bP:dr)(bX:dQ)(L:Nat)(D:List V)(E:Ls)(F:List V)(H:Int)(z:zc Y):Ob Y:=cLd 35 F 1 λC=>z E H ([]:Ls) C ((WcJ C:Nat):Int) (0:Int) D
theorem N7(bP:dr)(bX:dQ)(L:Nat)(D:List V)(z:Ls)(E:List V)(C:Int)(k:KK Y):dj fK (fH bP bX L) L cf_ref23_spent [(V.agg D),(V.sl 37 z),(V.agg E),(QQe C)] [] k=BP bP bX L D z E C (λz C F H I J M=>dX (cC fK (fH bP bX L) 0 L rZ) sN L (mF z C F H I J M) (cW 0 (dN (cC fK (fH bP bX L) 0 L qC) (eo 0 (CF.res cf_ref23_spent) k)))):=by kernel_rfl
def tT(bP:dr)(bX:dQ)(L:Nat)(J:Ls)(N:Int)(C H:Ls)(I D:Int)(O:List V)(E:Ls->Int->Ob Y)(z:zc Y)(M:Int->Ls->List V->Ob Y):Ob Y:=ifb (decide (D<I)) (idx H D λP=>chk ((WcJ (WcK 35 P))=35/\0+35<=35) (lt (cD (Wad 32 (QQa (0:Int))++[(QQc (0:Int)),(QQc (0:Int)),(V.gs 1 ([]:Ls))]) 0 (WcK 35 P)) λQ=>chk (0+33<=(WcJ Q)) (bP Y L J (WcK 33 Q) (λR=>ifb (decide (R<(0:Int))) (E ([]:Ls) (101:Int)) (idx J R λS=>bX Y L (WbO V.ag (WcK 37 S)) (λF=>chk ((WcJ F)=37/\0+37<=37) (chk ((WcJ C+WcJ (cz 37 1 (cD (Wad 32 (QQa (0:Int))++[(QQc (0:Int)),(QQe (0:Int)),(V.sl 1 ([]:Ls)),(QQe (0:Int)),(V.sc (.bool false))]) 0 F)))*88<=cy/\WcJ C+WcJ (cz 37 1 (cD (Wad 32 (QQa (0:Int))++[(QQc (0:Int)),(QQe (0:Int)),(V.sl 1 ([]:Ls)),(QQe (0:Int)),(V.sc (.bool false))]) 0 F))<=cy) (lt (C++(cz 37 1 (cD (Wad 32 (QQa (0:Int))++[(QQc (0:Int)),(QQe (0:Int)),(V.sl 1 ([]:Ls)),(QQe (0:Int)),(V.sc (.bool false))]) 0 F))) λT=>lt (Wbf .i64 ((D:Int)+(1:Int))) λU=>z J N T H I U O)))))))) (M N C O)
theorem Hh(bP:dr)(bX:dQ)(L:Nat)(I:Ls)(F:Int)(z C:Ls)(D E:Int)(H:List V)(X:St->Ob Y)(K:KT Y):cC fK (fH bP bX L) 0 L rZ (mF I F z C D E H) (fO sN X K)=tT bP bX L I F z C D E H (λJ M=>K .ret (kL J M)) (λI F z C D E H=>X (mF I F z C D E H)) (λF z H=>K (.exit 0) (pg F z H)):=by kernel_rfl
def xh(bP:dr)(bX:dQ)(L:Nat)(C:Ls)(D:Int)(z:Ls->Int->Ob Y):Ob Y:=z C D
theorem D2(bP:dr)(bX:dQ)(L:Nat)(D:Ls)(E:Int)(k:KK Y):(cW 0 (dN (cC fK (fH bP bX L) 0 L qC) (eo 0 (CF.res cf_ref23_spent) k))) .ret (kL D E)=xh bP bX L D E (λz C=>k (V.ah [(V.gs 37 z),(QQe C)]) []):=by kernel_rfl
def qu(bP:dr)(bX:dQ)(L:Nat)(D:Int)(C:Ls)(E:List V)(z:yr Y):Ob Y:=z D C C ((WcJ C:Nat):Int) (0:Int) E
theorem Ek(bP:dr)(bX:dQ)(L:Nat)(C:Int)(z:Ls)(D:List V)(k:KK Y):(cW 0 (dN (cC fK (fH bP bX L) 0 L qC) (eo 0 (CF.res cf_ref23_spent) k))) (.exit 0) (pg C z D)=qu bP bX L C z D (λC z E F H D=>dX (cC fK (fH bP bX L) 0 L qr) rL L (mc C z E F H D) (cW 2 (dN (cC fK (fH bP bX L) 0 L vo) (eo 0 (CF.res cf_ref23_spent) k)))):=by kernel_rfl
def nY(bP:dr)(bX:dQ)(L:Nat)(I:Int)(D E:Ls)(F C:Int)(J:List V)(H:Ls->Int->Ob Y)(z:yr Y)(M:Ls->Ob Y):Ob Y:=ifb (decide (C<F)) (idx E C λN=>chk ((WcJ (WcK 37 N))=37/\0+37<=37) (lt (cD (Wad 32 (QQa (0:Int))++[(QQc (0:Int)),(QQe (0:Int)),(V.gs 1 ([]:Ls)),(QQe (0:Int)),(V.sc (.bool false))]) 0 (WcK 37 N)) λO=>cB O 36 λP=>ifb P (cI .i64 O 35 λQ=>lt (Wbf .i64 ((I:Int)-Q)) λR=>cI .i64 J 79 λS=>ifb (decide (R<S)) (H ([]:Ls) (230:Int)) (lt (Wbf .i64 ((C:Int)+(1:Int))) λT=>z I D E F T J)) (lt (Wbf .i64 ((C:Int)+(1:Int))) λU=>z I D E F U J))) (M D)
theorem FW(bP:dr)(bX:dQ)(L:Nat)(F:Int)(z C:Ls)(D E:Int)(H:List V)(X:St->Ob Y)(K:KT Y):cC fK (fH bP bX L) 0 L qr (mc F z C D E H) (fO rL X K)=nY bP bX L F z C D E H (λI J=>K .ret (kL I J)) (λF z C D E H=>X (mc F z C D E H)) (λz=>K (.exit 2) (u2 z)):=by kernel_rfl
def oV(bP:dr)(bX:dQ)(L:Nat)(C:Ls)(D:Int)(z:Ls->Int->Ob Y):Ob Y:=z C D
theorem CA(bP:dr)(bX:dQ)(L:Nat)(D:Ls)(E:Int)(k:KK Y):(cW 2 (dN (cC fK (fH bP bX L) 0 L vo) (eo 0 (CF.res cf_ref23_spent) k))) .ret (kL D E)=oV bP bX L D E (λz C=>k (V.ah [(V.gs 37 z),(QQe C)]) []):=by kernel_rfl
def pw(bP:dr)(bX:dQ)(L:Nat)(C:Ls)(z:Ls->Int->Ob Y):Ob Y:=z C (0:Int)
theorem DA(bP:dr)(bX:dQ)(L:Nat)(z:Ls)(k:KK Y):(cW 2 (dN (cC fK (fH bP bX L) 0 L vo) (eo 0 (CF.res cf_ref23_spent) k))) (.exit 2) (u2 z)=pw bP bX L z (λC D=>k (V.ah [(V.gs 37 C),(QQe D)]) []):=by kernel_rfl
def ou(bP:dr)(bX:dQ)(L:Nat)(z:Ls->Int->Ob Y)(C:Int->Ls->List V->Ob Y):Nat->Ls->Int->Ls->Ls->Int->Int->List V->Ob Y
 | 0,_,_,_,_,_,_,_=>none
 | n+1,I,J,D,E,F,H,M=>tT bP bX L I J D E F H M z (λI J D E F H M=>ou bP bX L z C n I J D E F H M) C
theorem xd(bP:dr)(bX:dQ)(L:Nat)(K:KT Y):∀ (n:Nat) (I:Ls) (C:Int) (z E:Ls) (F H:Int) (D:List V),dX (cC fK (fH bP bX L) 0 L rZ) sN n (mF I C z E F H D) K=ou bP bX L (λJ M=>K .ret (kL J M)) (λC z D=>K (.exit 0) (pg C z D)) n I C z E F H D:=by
 intro n; induction n <;> intros
 ·rfl
 ·exact (Hh ..).trans (by simp only [*]; rfl)
def kg(bP:dr)(bX:dQ)(L:Nat)(z:Ls->Int->Ob Y)(C:Ls->Ob Y):Nat->Int->Ls->Ls->Int->Int->List V->Ob Y
 | 0,_,_,_,_,_,_=>none
 | n+1,I,D,E,F,H,J=>nY bP bX L I D E F H J z (λI D E F H J=>kg bP bX L z C n I D E F H J) C
theorem vv(bP:dr)(bX:dQ)(L:Nat)(K:KT Y):∀ (n:Nat) (F:Int) (z C:Ls) (D E:Int) (H:List V),dX (cC fK (fH bP bX L) 0 L qr) rL n (mc F z C D E H) K=kg bP bX L (λI J=>K .ret (kL I J)) (λz=>K (.exit 2) (u2 z)) n F z C D E H:=by
 intro n; induction n <;> intros
 ·rfl
 ·exact (FW ..).trans (by simp only [*]; rfl)
def jE(bP:dr)(bX:dQ)(L:Nat)(D:Int)(z:Ls)(E:List V)(C:Ls->Int->Ob Y):Ob Y:=qu bP bX L D z E (λD z F H I E=>kg bP bX L (λJ M=>oV bP bX L J M C) (λz=>pw bP bX L z C) L D z F H I E)
theorem DE(bP:dr)(bX:dQ)(L:Nat)(C:Int)(z:Ls)(D:List V)(k:KK Y):(cW 0 (dN (cC fK (fH bP bX L) 0 L qC) (eo 0 (CF.res cf_ref23_spent) k))) (.exit 0) (pg C z D)=jE bP bX L C z D (λE F=>k (V.ah [(V.gs 37 E),(QQe F)]) []):=by
 refine (Ek bP bX L C z D k).trans ?_
 unfold jE
 first
  | (simp only [vv,CA,DA]; done)
  | (simp only [vv]; rfl)
def vQ(bP:dr)(bX:dQ)(L:Nat)(M:List V)(E:Ls)(N:List V)(C:Int)(z:Ls->Int->Ob Y):Ob Y:=BP bP bX L M E N C (λE C D H I J F=>ou bP bX L (λO P=>xh bP bX L O P z) (λC D F=>jE bP bX L C D F z) L E C D H I J F)
theorem NC(bP:dr)(bX:dQ)(L:Nat)(z:List V)(C:Ls)(D:List V)(E:Int)(k:KK Y):dj fK (fH bP bX L) L cf_ref23_spent [(V.agg z),(V.sl 37 C),(V.agg D),(QQe E)] [] k=vQ bP bX L z C D E (λF H=>k (V.ah [(V.gs 37 F),(QQe H)]) []):=by
 refine (N7 bP bX L z C D E k).trans ?_
 unfold vQ
 first
  | (simp only [xd,D2,DE]; done)
  | (simp only [xd]; rfl)
abbrev eX:=∀ (Y:Type),Nat->List V->Ls->List V->Int->(Ls->Int->Ob Y)->Ob Y
def ce:eX:=λY=>@vQ Y bP bX
def BE(ce:eX)(L:Nat):Dk:=dA AG λD=>dA (AL 37) λE=>dA AG λF=>dA (AI .i64) λH=>d0 λY k=>ce Y L D E F H (λz C=>k (V.ah [(V.gs 37 z),(QQe C)]) [])
theorem NB(L:Nat):DK (BE ce L) (λ_=>dj fK (fH bP bX L) L cf_ref23_spent):=dk fN λz=>dk ik λC=>dk fN λD=>dk gm λE=>fC λ_ k=>NC bP bX L z C D E k
abbrev eU:=∀ (Y:Type),Nat->List V->Ls->Int->(Int->Int->Ob Y)->Ob Y
def cg:eU:=λY L z C D kf=>opD (cN rows) 300 478 L Y [(V.agg z),(V.sl 37 C),(QQe D)] [] λv _=>(AT2 (AI .i64) (AI .i64)) Y v λp=>kf p.1 p.2
def BU(cg:eU)(L:Nat):Dk:=dA AG λz=>dA (AL 37) λC=>dA (AI .i64) λD=>d0 λY k=>cg Y L z C D (λE F=>k (V.ah [(QQe E),(QQe F)]) [])
theorem Oi(L:Nat):DK (BU cg L) (opD (cN rows) 300 478 L):=dk fN λz=>dk ik λC=>dk gm λD=>Ap (za7 gm gm) [(V.agg z),(V.sl 37 C),(QQe D)] λ_ _ _=>rfl
abbrev fx:=∀ (Y:Type),Nat->Ls->List V->Int->(Ls->Int->Ob Y)->Ob Y
def cw:fx:=λY L z C D kf=>opD (cN rows) 300 481 L Y [(V.sl 37 z),(V.agg C),(QQe D)] [] λv _=>(AT2 (AGs 37) (AI .i64)) Y v λp=>kf p.1 p.2
def Ge(cw:fx)(L:Nat):Dk:=dA (AL 37) λz=>dA AG λC=>dA (AI .i64) λD=>d0 λY k=>cw Y L z C D (λE F=>k (V.ah [(V.gs 37 E),(QQe F)]) [])
theorem Tq(L:Nat):DK (Ge cw L) (opD (cN rows) 300 481 L):=dk ik λz=>dk fN λC=>dk gm λD=>Ap (za7 zbv gm) [(V.sl 37 z),(V.agg C),(QQe D)] λ_ _ _=>rfl
abbrev d8:=∀ (Y:Type),Nat->List V->Int->(Ls->Ob Y)->Ob Y
def bV:d8:=λY L z C kf=>opD (cN rows) 300 483 L Y [(V.agg z),(QQe C)] [] λv _=>(AGs 37) Y v λp=>kf p
def xt(bV:d8)(L:Nat):Dk:=dA AG λz=>dA (AI .i64) λC=>d0 λY k=>bV Y L z C (λD=>k (V.gs 37 D) [])
theorem J3(L:Nat):DK (xt bV L) (opD (cN rows) 300 483 L):=dk fN λz=>dk gm λC=>Ap zbv [(V.agg z),(QQe C)] λ_ _ _=>rfl
abbrev eW:=∀ (Y:Type),Nat->Ls->(Int->Ob Y)->Ob Y
def ch:eW:=λY L z kf=>opD (cN rows) 300 482 L Y [(V.sl 37 z)] [] λv _=>(AI .i64) Y v λp=>kf p
def B1(ch:eW)(L:Nat):Dk:=dA (AL 37) λz=>d0 λY k=>ch Y L z (λC=>k (QQe C) [])
theorem NJ(L:Nat):DK (B1 ch L) (opD (cN rows) 300 482 L):=dk ik λz=>Ap gm [(V.sl 37 z)] λ_ _ _=>rfl
def DV:CF:=cfD AR 113
def wv:Nat->Sh:=fP []
def wq(L:Nat):CBC:=noC
def yz(L:Nat)(z:Ls)(D:Int)(E:Ls->Ob Y):Ob Y:=chk (0<=D/\D<=(((WcJ z):Nat):Int)) (chk ((WcJ ([]:Ls)+WcJ (WcK ((WcL D)-0) (WcM 0 z)))*88<=cy/\WcJ ([]:Ls)+WcJ (WcK ((WcL D)-0) (WcM 0 z))<=cy) (lt (([]:Ls)++(WcK ((WcL D)-0) (WcM 0 z))) λF=>lt (Wbf .i64 ((D:Int)+(1:Int))) λC=>chk (0<=C/\C<=(((WcJ z):Nat):Int)) (chk ((WcJ F+WcJ (WcK ((WcJ z)-(WcL C)) (WcM (WcL C) z)))*88<=cy/\WcJ F+WcJ (WcK ((WcJ z)-(WcL C)) (WcM (WcL C) z))<=cy) (lt (F++(WcK ((WcJ z)-(WcL C)) (WcM (WcL C) z))) λH=>E H))))
theorem Kn(L:Nat)(z:Ls)(C:Int)(k:KK Y):dj wv (wq L) L DV [(V.sl 37 z),(QQe C)] [] k=yz L z C (λz=>k (V.gs 37 z) []):=by kernel_rfl
abbrev eg:=∀ (Y:Type),Nat->Ls->Int->(Ls->Ob Y)->Ob Y
def bU:eg:=λY=>@yz Y
def yZ(bU:eg)(L:Nat):Dk:=dA (AL 37) λz=>dA (AI .i64) λC=>d0 λY k=>bU Y L z C (λz=>k (V.gs 37 z) [])
theorem Kq(L:Nat):DK (yZ bU L) (λ_=>dj wv (wq L) L DV):=dk ik λz=>dk gm λC=>fC λ_ k=>Kn L z C k
def cf_ref23_Connect:CF:=cfD Be 84
def i7:CC:=eS [1,1,1,1,0,1,0,0,1,1,0,0,1,0,1,0,1,1,1,1,0,1,0,0] cf_ref23_Connect.body
def mA:CC:=eS [1,1,1,1,0,1,0,0,1,1,0,0,1,0,1,0,1,1,1,1,1] cf_ref23_Connect.body
def o5:CC:=eS [1,1,1,1,0,1,0,0,1,1,0,0,1,1] cf_ref23_Connect.body
def q8:CC:=eS [1,1,1,1,0,1,0,0,1,1,1] cf_ref23_Connect.body
def lP:CC:=eS [1,1,1,1,0,1,0,0] cf_ref23_Connect.body
def qm:CC:=eS [1,1,1,1,1] cf_ref23_Connect.body
def eM:Nat->Sh:=fP [(32,(.int .i64)),(38,(.sl 37)),(43,(.int .i64)),(46,(.sl 4)),(58,(.sl 37)),(61,(.int .i64)),(74,(.int .i64)),(109,(.sl 37)),(112,(.int .i64)),(126,(.sl 4)),(130,(.int .i64)),(139,(.sl 37)),(146,(.sl 37)),(90,(.sl 37)),(92,(.sl 37))]
def eL(cj:eV)(co:fk)(bW:d9)(ce:eX)(cg:eU)(cw:fx)(bV:d8)(ch:eW)(bP:dr)(bU:eg)(L:Nat):CBC:=(d6 479 (yZ bU L) (d6 480 (xY bP L) (d6 482 (B1 ch L) (d6 483 (xt bV L) (d6 481 (Ge cw L) (d6 478 (BU cg L) (d6 477 (BE ce L) (d6 472 (xn bW L) (d6 429 (C5 co L) (d6 476 (Bu cj L) noC))))))))))
def jc:St->St:=fF 0 (bl 492581209251048 153) (bl 11417981541574946208765741796140502961711488751 153)
def jm:St->St:=fF 0 (bl 67699845898911814992977128 153) (bl 11417981541647678929624043984199454700745523183 153)
def gL(D:Int)(E:Ls)(F H:Int)(J M N:List V)(C:Ls)(I:List V)(z:Ls):St:=⟨(jn 3 ((V.ptr 3 0)::(jn 1 ((V.ptr 5 0)::((V.ptr 6 0)::((V.ptr 7 0)::(jn 2 ((V.ptr 10 0)::((V.ptr 11 0)::((QQe D)::(jn 33 ((V.sl 4 E)::((QQe F)::((QQe H)::(jn 104 []))))))))))))))),(gn 3 ((.live true J)::(gn 1 ((.live true M)::((.live true N)::((.live true [(V.gs 37 C)])::(gn 2 ((.live true I)::((.live false [(V.gs 37 z)])::(gn 141 []))))))))))⟩
def lq(z:Int)(C D:List V):St:=⟨(jn 6 ((V.ptr 6 0)::((V.ptr 7 0)::((QQe z)::(jn 144 []))))),(gn 6 ((.live true C)::((.live true D)::(gn 145 []))))⟩
def gD(D:Int)(E:Ls)(F:Int)(H:Ls)(I J:Int)(M:Ls)(N O:Int)(R S T:List V)(C:Ls)(P:List V)(z:Ls)(Q:List V):St:=⟨(jn 3 ((V.ptr 3 0)::(jn 1 ((V.ptr 5 0)::((V.ptr 6 0)::((V.ptr 7 0)::(jn 2 ((V.ptr 10 0)::((V.ptr 11 0)::((QQe D)::(jn 1 ((V.ptr 14 0)::((V.sl 37 E)::(jn 1 ((QQe F)::(jn 28 ((V.sl 4 H)::((QQe I)::((QQe J)::(jn 34 ((V.sl 37 M)::((QQe N)::((QQe O)::(jn 67 [])))))))))))))))))))))))),(gn 3 ((.live true R)::(gn 1 ((.live true S)::((.live true T)::((.live true [(V.gs 37 C)])::(gn 2 ((.live true P)::((.live false [(V.gs 37 z)])::(gn 2 ((.live true Q)::(gn 138 []))))))))))))⟩
def nP(D:Int)(F H:List V)(C:Ls)(E:List V)(z:Ls):St:=⟨(jn 5 ((V.ptr 5 0)::((V.ptr 6 0)::((V.ptr 7 0)::(jn 2 ((V.ptr 10 0)::((V.ptr 11 0)::((QQe D)::(jn 140 []))))))))),(gn 5 ((.live true F)::((.live true H)::((.live true [(V.gs 37 C)])::(gn 2 ((.live true E)::((.live false [(V.gs 37 z)])::(gn 141 []))))))))⟩
def rR(D:Int)(E:Ls)(F:Int)(H:Ls)(I J:Int)(O P Q:List V)(C:Ls)(M:List V)(z:Ls)(N:List V):St:=⟨(jn 3 ((V.ptr 3 0)::(jn 1 ((V.ptr 5 0)::((V.ptr 6 0)::((V.ptr 7 0)::(jn 2 ((V.ptr 10 0)::((V.ptr 11 0)::((QQe D)::(jn 1 ((V.ptr 14 0)::((V.sl 37 E)::(jn 1 ((QQe F)::(jn 28 ((V.sl 4 H)::((QQe I)::((QQe J)::(jn 104 [])))))))))))))))))))),(gn 3 ((.live true O)::(gn 1 ((.live true P)::((.live true Q)::((.live true [(V.gs 37 C)])::(gn 2 ((.live true M)::((.live false [(V.gs 37 z)])::(gn 2 ((.live true N)::(gn 138 []))))))))))))⟩
abbrev lL(Y:Type):Type:=Int->Ls->Int->Int->List V->List V->List V->Ls->List V->Ls->Ob Y
abbrev lF(Y:Type):Type:=Int->Ls->Int->Ls->Int->Int->Ls->Int->Int->List V->List V->List V->Ls->List V->Ls->List V->Ob Y
abbrev jg(Y:Type):Type:=Int->List V->List V->Ls->List V->Ls->Ob Y
abbrev vg(Y:Type):Type:=Int->Ls->Int->Ls->Int->Int->List V->List V->List V->Ls->List V->Ls->List V->Ob Y
def sK(cj:eV)(co:fk)(bW:d9)(ce:eX)(cg:eU)(cw:fx)(bV:d8)(ch:eW)(bP:dr)(bU:eg)(L:Nat)(D E C:List V)(F:List V->List V->Int->Ob Y)(z:lL Y):Ob Y:=chk (0+80<=(WcJ D)) (chk (0+34<=(WcJ E)) (chk (0+69<=(WcJ C)) (cj Y L (WbO V.ag (WcK 80 D)) (WbO V.ag (WcK 34 E)) (WbO V.ag (WcK 69 C)) (λJ=>ifb ((J:Int) != (0:Int)) (lt ([(QQe (0:Int))]++Wad 32 (QQa (0:Int))++[(V.sl 37 ([]:Ls))]) λM=>lt [(V.sl 37 ([]:Ls))] λN=>chk (0=0/\(WcJ M)=34/\34≠0) (chk (0=0/\(WcJ N)=1/\1≠0) (F M N J))) (cI .i64 E 0 λS=>lt (Wbf .i64 ((S:Int)+(1:Int))) λO=>chk (0+68<=(WcJ C)) (co Y L (WcK 68 C) (λI=>cLd 37 E 33 λT=>chk ((WcJ I)=32/\1+32<=34) (chk (1=1/\33+1<=(WcJ (cD ([(QQe O)]++Wad 32 (QQa (0:Int))++[(V.sl 37 ([]:Ls))]) 1 I))) (lt (cD (cD ([(QQe O)]++Wad 32 (QQa (0:Int))++[(V.sl 37 ([]:Ls))]) 1 I) 33 [(V.sl 37 T)]) λP=>chk ((WcJ P)=34/\0+34<=34) (lt (cD ([(QQe (0:Int))]++Wad 32 (QQa (0:Int))++[(V.gs 37 ([]:Ls))]) 0 P) λQ=>chk (0+80<=(WcJ D)) (cI .i64 Q 0 λU=>bW Y L (WbO V.ag (WcK 80 D)) U (λR=>cLd 4 C 68 λH=>z R H ((WcJ H:Nat):Int) (0:Int) D C ([(QQe (0:Int))]++Wad 32 (QQa (0:Int))++[(V.gs 37 ([]:Ls))]) ([]:Ls) Q ([]:Ls)))))))))))))
theorem JL(cj:eV)(co:fk)(bW:d9)(ce:eX)(cg:eU)(cw:fx)(bV:d8)(ch:eW)(bP:dr)(bU:eg)(L:Nat)(H I J:List V)(k:KK Y):dj eM (eL cj co bW ce cg cw bV ch bP bU L) L cf_ref23_Connect [(V.agg H),(V.agg I),(V.agg J)] [] k=sK cj co bW ce cg cw bV ch bP bU L H I J (λC D E=>k (V.ah [(V.agg C),(V.agg D),(QQe E)]) []) (λM N O P R S T F Q z=>dX (cC eM (eL cj co bW ce cg cw bV ch bP bU L) 0 L lP) jc L (gL M N O P R S T F Q z) (cW 0 (dN (cC eM (eL cj co bW ce cg cw bV ch bP bU L) 0 L qm) (eo 0 (CF.res cf_ref23_Connect) k)))):=by kernel_rfl
def kn(cj:eV)(co:fk)(bW:d9)(ce:eX)(cg:eU)(cw:fx)(bV:d8)(ch:eW)(bP:dr)(bU:eg)(L:Nat)(O:Int)(P:Ls)(Q J:Int)(R X E:List V)(M:Ls)(C:List V)(F:Ls)(H:Int->List V->List V->Ob Y)(z:lF Y)(I:lL Y)(c8:jg Y):Ob Y:=ifb (decide (J<Q)) (idx P J λS=>chk ((WcJ (WcK 4 S))=4/\0+4<=4) (lt (cD [(QQc (0:Int)),(V.gs 35 ([]:Ls)),(V.gs 2 ([]:Ls)),(QQc (0:Int))] 0 (WcK 4 S)) λD=>ifb (decide (J>(0:Int))) (chk (0+80<=(WcJ R)) (cLd 37 C 33 λb9=>chk (0+4<=(WcJ D)) (cI .i64 C 0 λaa=>ce Y L (WbO V.ag (WcK 80 R)) b9 (WbO V.ag (WcK 4 D)) aa (λN T=>ifb ((T:Int) != (0:Int)) (chk (34=34/\0+34<=(WcJ E)) (lt (cD E 0 ([(QQe (0:Int))]++Wad 32 (QQa (0:Int))++[(V.sl 37 ([]:Ls))])) λab=>lt [(V.sl 37 ([]:Ls))] λac=>H T ab ac)) (chk (0+4<=(WcJ D)) (cI .i64 C 0 λad=>cg Y L (WbO V.ag (WcK 4 D)) N ad (λan U=>ifb ((U:Int) != (0:Int)) (chk (34=34/\0+34<=(WcJ E)) (lt (cD E 0 ([(QQe (0:Int))]++Wad 32 (QQa (0:Int))++[(V.sl 37 ([]:Ls))])) λao=>lt [(V.sl 37 ([]:Ls))] λap=>H U ao ap)) (z O N an P Q J N ((WcJ N:Nat):Int) (0:Int) R X E M C F D)))))))) (cLd 37 C 33 λaq=>chk (0+4<=(WcJ D)) (cI .i64 C 0 λar=>cw Y L aq (WbO V.ag (WcK 4 D)) ar (λau c9=>ifb ((c9:Int) != (0:Int)) (chk (34=34/\0+34<=(WcJ E)) (lt (cD E 0 ([(QQe (0:Int))]++Wad 32 (QQa (0:Int))++[(V.sl 37 ([]:Ls))])) λav=>lt [(V.sl 37 ([]:Ls))] λaz=>H c9 av az)) (chk (1=1/\33+1<=(WcJ C)) (lt (cD C 33 [(V.sl 37 au)]) λaJ=>lt (Wbf .i64 ((J:Int)+(1:Int))) λaO=>I O P Q aO R X E M aJ F))))))) (c8 O X E M C F)
theorem Cz(cj:eV)(co:fk)(bW:d9)(ce:eX)(cg:eU)(cw:fx)(bV:d8)(ch:eW)(bP:dr)(bU:eg)(L:Nat)(D:Int)(H:Ls)(I J:Int)(N M F:List V)(C:Ls)(E:List V)(z:Ls)(X:St->Ob Y)(K:KT Y):cC eM (eL cj co bW ce cg cw bV ch bP bU L) 0 L lP (gL D H I J N M F C E z) (fO jc X K)=kn cj co bW ce cg cw bV ch bP bU L D H I J N M F C E z (λU F c9=>K .ret (lq U F c9)) (λD O P H I J Q R S N M F C E z T=>dX (cC eM (eL cj co bW ce cg cw bV ch bP bU L) 0 L i7) jm L (gD D O P H I J Q R S N M F C E z T) (cW 2 (dN (cC eM (eL cj co bW ce cg cw bV ch bP bU L) 0 L mA) (dN (cC eM (eL cj co bW ce cg cw bV ch bP bU L) 0 L o5) (cW 1 (dN (cC eM (eL cj co bW ce cg cw bV ch bP bU L) 0 L q8) (fO jc X K))))))) (λD H I J N M F C E z=>X (gL D H I J N M F C E z)) (λD M F C E z=>K (.exit 0) (nP D M F C E z)):=by kernel_rfl
def kS(cj:eV)(co:fk)(bW:d9)(ce:eX)(cg:eU)(cw:fx)(bV:d8)(ch:eW)(bP:dr)(bU:eg)(L:Nat)(E:Int)(C D:List V)(z:List V->List V->Int->Ob Y):Ob Y:=chk (0=0/\(WcJ C)=34/\34≠0) (chk (0=0/\(WcJ D)=1/\1≠0) (z C D E))
theorem zK(cj:eV)(co:fk)(bW:d9)(ce:eX)(cg:eU)(cw:fx)(bV:d8)(ch:eW)(bP:dr)(bU:eg)(L:Nat)(E:Int)(F H:List V)(k:KK Y):(cW 0 (dN (cC eM (eL cj co bW ce cg cw bV ch bP bU L) 0 L qm) (eo 0 (CF.res cf_ref23_Connect) k))) .ret (lq E F H)=kS cj co bW ce cg cw bV ch bP bU L E F H (λz C D=>k (V.ah [(V.agg z),(V.agg C),(QQe D)]) []):=by kernel_rfl
def iL(cj:eV)(co:fk)(bW:d9)(ce:eX)(cg:eU)(cw:fx)(bV:d8)(ch:eW)(bP:dr)(bU:eg)(L:Nat)(Q:Int)(b5 D:List V)(ab:Ls)(C:List V)(E:Ls)(z:List V->List V->Int->Ob Y):Ob Y:=cLd 4 b5 68 λR=>idx R (0:Int) λS=>cI .i64 C 0 λT=>bV Y L (WbO V.ag (WcK 4 S)) T (λU=>ch Y L U (λc9=>ifb (decide (c9>Q)) (chk (34=34/\0+34<=(WcJ D)) (lt (cD D 0 ([(QQe (0:Int))]++Wad 32 (QQa (0:Int))++[(V.sl 37 ([]:Ls))])) λF=>lt [(V.sl 37 ([]:Ls))] λH=>chk (0=0/\(WcJ F)=34/\34≠0) (chk (0=0/\(WcJ H)=1/\1≠0) (z F H (231:Int))))) (cLd 37 C 33 λX=>ch Y L X (λc8=>ifb (decide (c8>(2100000000000000:Int))) (chk (34=34/\0+34<=(WcJ D)) (lt (cD D 0 ([(QQe (0:Int))]++Wad 32 (QQa (0:Int))++[(V.sl 37 ([]:Ls))])) λI=>lt [(V.sl 37 ([]:Ls))] λJ=>chk (0=0/\(WcJ I)=34/\34≠0) (chk (0=0/\(WcJ J)=1/\1≠0) (z I J (90:Int))))) (cLd 37 C 33 λb9=>ifb (decide (((WcJ b9:Nat):Int)>(100000:Int))) (chk (34=34/\0+34<=(WcJ D)) (lt (cD D 0 ([(QQe (0:Int))]++Wad 32 (QQa (0:Int))++[(V.sl 37 ([]:Ls))])) λM=>lt [(V.sl 37 ([]:Ls))] λN=>chk (0=0/\(WcJ M)=34/\34≠0) (chk (0=0/\(WcJ N)=1/\1≠0) (z M N (4:Int))))) (chk (0+34<=(WcJ C)) (chk ((WcJ (WcK 34 C))=34/\0+34<=(WcJ D)) (lt (cD D 0 (WcK 34 C)) λO=>lt [(V.sl 37 E)] λP=>chk (0=0/\(WcJ O)=34/\34≠0) (chk (0=0/\(WcJ P)=1/\1≠0) (z O P (0:Int)))))))))))
theorem A9(cj:eV)(co:fk)(bW:d9)(ce:eX)(cg:eU)(cw:fx)(bV:d8)(ch:eW)(bP:dr)(bU:eg)(L:Nat)(D:Int)(J M:List V)(C:Ls)(E:List V)(z:Ls)(k:KK Y):(cW 0 (dN (cC eM (eL cj co bW ce cg cw bV ch bP bU L) 0 L qm) (eo 0 (CF.res cf_ref23_Connect) k))) (.exit 0) (nP D J M C E z)=iL cj co bW ce cg cw bV ch bP bU L D J M C E z (λF H I=>k (V.ah [(V.agg F),(V.agg H),(QQe I)]) []):=by kernel_rfl
def hS(cj:eV)(co:fk)(bW:d9)(ce:eX)(cg:eU)(cw:fx)(bV:d8)(ch:eW)(bP:dr)(bU:eg)(L:Nat)(H:Int)(I:Ls)(J:Int)(M:Ls)(N O:Int)(P:Ls)(Q E:Int)(c9 X c8:List V)(F:Ls)(C:List V)(D:Ls)(R:List V)(z:lF Y)(U:vg Y):Ob Y:=ifb (decide (E<Q)) (idx P E λS=>chk ((WcJ (WcK 37 S))=37/\0+37<=37) (lt (cD (Wad 32 (QQa (0:Int))++[(QQc (0:Int)),(QQe (0:Int)),(V.gs 1 ([]:Ls)),(QQe (0:Int)),(V.sc (.bool false))]) 0 (WcK 37 S)) λT=>cLd 37 C 33 λb9=>cLd 37 C 33 λaa=>chk (0+33<=(WcJ T)) (bP Y L aa (WcK 33 T) (λab=>bU Y L b9 ab (λac=>chk (1=1/\33+1<=(WcJ C)) (lt (cD C 33 [(V.sl 37 ac)]) λad=>lt (Wbf .i64 ((E:Int)+(1:Int))) λag=>z H I J M N O P Q ag c9 X c8 F ad D R)))))) (U H I J M N O c9 X c8 F C D R)
theorem pW(cj:eV)(co:fk)(bW:d9)(ce:eX)(cg:eU)(cw:fx)(bV:d8)(ch:eW)(bP:dr)(bU:eg)(L:Nat)(D:Int)(E:Ls)(F:Int)(H:Ls)(I J:Int)(O:Ls)(P Q:Int)(R S T:List V)(C:Ls)(M:List V)(z:Ls)(N:List V)(X:St->Ob Y)(K:KT Y):cC eM (eL cj co bW ce cg cw bV ch bP bU L) 0 L i7 (gD D E F H I J O P Q R S T C M z N) (fO jm X K)=hS cj co bW ce cg cw bV ch bP bU L D E F H I J O P Q R S T C M z N (λD E F H I J O P Q R S T C M z N=>X (gD D E F H I J O P Q R S T C M z N)) (λD E F H I J R S T C M z N=>K (.exit 2) (rR D E F H I J R S T C M z N)):=by kernel_rfl
def gM(cj:eV)(co:fk)(bW:d9)(ce:eX)(cg:eU)(cw:fx)(bV:d8)(ch:eW)(bP:dr)(bU:eg)(L:Nat)(N:Int)(E:Ls)(O:Int)(P:Ls)(Q R:Int)(b3 b5 J:List V)(M:Ls)(D:List V)(z:Ls)(H:List V)(F:Int->List V->List V->Ob Y)(C:lL Y):Ob Y:=lt (Wbf .i64 ((N:Int)+O)) λS=>chk ((WcJ z+WcJ E)*88<=cy/\WcJ z+WcJ E<=cy) (lt (z++E) λT=>cLd 37 D 33 λU=>chk (0+4<=(WcJ H)) (cI .i64 D 0 λc9=>cw Y L U (WbO V.ag (WcK 4 H)) c9 (λX I=>ifb ((I:Int) != (0:Int)) (chk (34=34/\0+34<=(WcJ J)) (lt (cD J 0 ([(QQe (0:Int))]++Wad 32 (QQa (0:Int))++[(V.sl 37 ([]:Ls))])) λc8=>lt [(V.sl 37 ([]:Ls))] λb9=>F I c8 b9)) (chk (1=1/\33+1<=(WcJ D)) (lt (cD D 33 [(V.sl 37 X)]) λaa=>lt (Wbf .i64 ((R:Int)+(1:Int))) λab=>C S P Q ab b3 b5 J M aa T)))))
theorem o7(cj:eV)(co:fk)(bW:d9)(ce:eX)(cg:eU)(cw:fx)(bV:d8)(ch:eW)(bP:dr)(bU:eg)(L:Nat)(D:Int)(O:Ls)(P:Int)(E:Ls)(F H:Int)(M N J:List V)(C:Ls)(I:List V)(z:Ls)(Q:List V)(X:St->Ob Y)(K:KT Y):(cW 2 (dN (cC eM (eL cj co bW ce cg cw bV ch bP bU L) 0 L mA) (dN (cC eM (eL cj co bW ce cg cw bV ch bP bU L) 0 L o5) (cW 1 (dN (cC eM (eL cj co bW ce cg cw bV ch bP bU L) 0 L q8) (fO jc X K)))))) (.exit 2) (rR D O P E F H M N J C I z Q)=gM cj co bW ce cg cw bV ch bP bU L D O P E F H M N J C I z Q (λR J S=>K .ret (lq R J S)) (λD E F H M N J C I z=>X (gL D E F H M N J C I z)):=by kernel_rfl
def e9(cj:eV)(co:fk)(bW:d9)(ce:eX)(cg:eU)(cw:fx)(bV:d8)(ch:eW)(bP:dr)(bU:eg)(L:Nat)(D:vg Y):Nat->Int->Ls->Int->Ls->Int->Int->Ls->Int->Int->List V->List V->List V->Ls->List V->Ls->List V->Ob Y
 | 0,_,_,_,_,_,_,_,_,_,_,_,_,_,_,_,_=>none
 | n+1,E,F,H,I,J,M,N,O,P,S,T,U,C,Q,z,R=>hS cj co bW ce cg cw bV ch bP bU L E F H I J M N O P S T U C Q z R (λE F H I J M N O P S T U C Q z R=>e9 cj co bW ce cg cw bV ch bP bU L D n E F H I J M N O P S T U C Q z R) D
theorem kV(cj:eV)(co:fk)(bW:d9)(ce:eX)(cg:eU)(cw:fx)(bV:d8)(ch:eW)(bP:dr)(bU:eg)(L:Nat)(K:KT Y):∀ (n:Nat) (D:Int) (E:Ls) (F:Int) (H:Ls) (I J:Int) (R:Ls) (S T:Int) (O P Q:List V) (C:Ls) (M:List V) (z:Ls) (N:List V),dX (cC eM (eL cj co bW ce cg cw bV ch bP bU L) 0 L i7) jm n (gD D E F H I J R S T O P Q C M z N) K=e9 cj co bW ce cg cw bV ch bP bU L (λD E F H I J O P Q C M z N=>K (.exit 2) (rR D E F H I J O P Q C M z N)) n D E F H I J R S T O P Q C M z N:=by
 intro n; induction n <;> intros
 ·rfl
 ·exact (pW ..).trans (by simp only [*]; rfl)
def iR(cj:eV)(co:fk)(bW:d9)(ce:eX)(cg:eU)(cw:fx)(bV:d8)(ch:eW)(bP:dr)(bU:eg)(L:Nat)(E:Int)(F:Ls)(H I:Int)(N O P:List V)(D:Ls)(J:List V)(z:Ls)(M:Int->List V->List V->Ob Y)(C:lL Y)(T:jg Y):Ob Y:=kn cj co bW ce cg cw bV ch bP bU L E F H I N O P D J z M (λE Q R F H I U c9 X N O P D J z S=>e9 cj co bW ce cg cw bV ch bP bU L (λE Q R F H I N O P D J z S=>gM cj co bW ce cg cw bV ch bP bU L E Q R F H I N O P D J z S M C) L E Q R F H I U c9 X N O P D J z S) C T
theorem BL(cj:eV)(co:fk)(bW:d9)(ce:eX)(cg:eU)(cw:fx)(bV:d8)(ch:eW)(bP:dr)(bU:eg)(L:Nat)(D:Int)(H:Ls)(I J:Int)(N M F:List V)(C:Ls)(E:List V)(z:Ls)(X:St->Ob Y)(K:KT Y):cC eM (eL cj co bW ce cg cw bV ch bP bU L) 0 L lP (gL D H I J N M F C E z) (fO jc X K)=iR cj co bW ce cg cw bV ch bP bU L D H I J N M F C E z (λO F P=>K .ret (lq O F P)) (λD H I J N M F C E z=>X (gL D H I J N M F C E z)) (λD M F C E z=>K (.exit 0) (nP D M F C E z)):=by
 refine (Cz cj co bW ce cg cw bV ch bP bU L D H I J N M F C E z X K).trans ?_
 unfold iR
 first
  | (simp only [kV,o7]; done)
  | (simp only [kV]; rfl)
def ew(cj:eV)(co:fk)(bW:d9)(ce:eX)(cg:eU)(cw:fx)(bV:d8)(ch:eW)(bP:dr)(bU:eg)(L:Nat)(D:Int->List V->List V->Ob Y)(E:jg Y):Nat->Int->Ls->Int->Int->List V->List V->List V->Ls->List V->Ls->Ob Y
 | 0,_,_,_,_,_,_,_,_,_,_=>none
 | n+1,F,H,I,J,N,O,P,C,M,z=>iR cj co bW ce cg cw bV ch bP bU L F H I J N O P C M z D (λF H I J N O P C M z=>ew cj co bW ce cg cw bV ch bP bU L D E n F H I J N O P C M z) E
theorem sL(cj:eV)(co:fk)(bW:d9)(ce:eX)(cg:eU)(cw:fx)(bV:d8)(ch:eW)(bP:dr)(bU:eg)(L:Nat)(K:KT Y):∀ (n:Nat) (D:Int) (I:Ls) (J M:Int) (N H F:List V) (C:Ls) (E:List V) (z:Ls),dX (cC eM (eL cj co bW ce cg cw bV ch bP bU L) 0 L lP) jc n (gL D I J M N H F C E z) K=ew cj co bW ce cg cw bV ch bP bU L (λO F P=>K .ret (lq O F P)) (λD H F C E z=>K (.exit 0) (nP D H F C E z)) n D I J M N H F C E z:=by
 intro n; induction n <;> intros
 ·rfl
 ·exact (BL ..).trans (by simp only [*]; rfl)
def oF(cj:eV)(co:fk)(bW:d9)(ce:eX)(cg:eU)(cw:fx)(bV:d8)(ch:eW)(bP:dr)(bU:eg)(L:Nat)(O P Q:List V)(z:List V->List V->Int->Ob Y):Ob Y:=sK cj co bW ce cg cw bV ch bP bU L O P Q z (λE J M N R I F D H C=>ew cj co bW ce cg cw bV ch bP bU L (λS F T=>kS cj co bW ce cg cw bV ch bP bU L S F T z) (λE I F D H C=>iL cj co bW ce cg cw bV ch bP bU L E I F D H C z) L E J M N R I F D H C)
theorem J7(cj:eV)(co:fk)(bW:d9)(ce:eX)(cg:eU)(cw:fx)(bV:d8)(ch:eW)(bP:dr)(bU:eg)(L:Nat)(z C D:List V)(k:KK Y):dj eM (eL cj co bW ce cg cw bV ch bP bU L) L cf_ref23_Connect [(V.agg z),(V.agg C),(V.agg D)] [] k=oF cj co bW ce cg cw bV ch bP bU L z C D (λE F H=>k (V.ah [(V.agg E),(V.agg F),(QQe H)]) []):=by
 refine (JL cj co bW ce cg cw bV ch bP bU L z C D k).trans ?_
 unfold oF
 first
  | (simp only [sL,zK,A9]; done)
  | (simp only [sL]; rfl)
abbrev Fe:=∀ (Y:Type),Nat->List V->List V->List V->(List V->List V->Int->Ob Y)->Ob Y
def j7:Fe:=λY=>@oF Y cj co bW ce cg cw bV ch bP bU
def EF(j7:Fe)(L:Nat):Dk:=dA AG λE=>dA AG λF=>dA AG λH=>d0 λY k=>j7 Y L E F H (λz C D=>k (V.ah [(V.agg z),(V.agg C),(QQe D)]) [])
theorem KM(L:Nat):DK (EF j7 L) (λ_=>dj eM (eL cj co bW ce cg cw bV ch bP bU L) L cf_ref23_Connect):=dk fN λz=>dk fN λC=>dk fN λD=>fC λ_ k=>J7 cj co bW ce cg cw bV ch bP bU L z C D k
abbrev hF:=∀ (Y:Type),Nat->Ob Y->Ob Y
def dv:hF:=λY L k=>chk (30000<=L) k
def KZ(dv:hF)(L:Nat):Dk:=d0 λY k=>dv Y L (k (.sc (.bool true)) [])
def MY:CF:=cfD IW 7
def FL:Nat->Sh:=fP []
def FK(L:Nat):CBC:=noC
def Ip(L:Nat)(C:Ls)(z:Ls->Int->Ob Y):Ob Y:=z C (0:Int)
theorem UL(L:Nat)(D:Ls)(k:KK Y):dj FL (FK L) L MY [(V.sl 1 D)] [] k=Ip L D (λz C=>k (V.bx false [(V.sl 1 z),(QQe C)]) []):=by kernel_rfl
abbrev iZ:=∀ (Y:Type),Nat->Ls->(Ls->Int->Ob Y)->Ob Y
def dF:iZ:=λY=>@Ip Y
def Iu(dF:iZ)(L:Nat):Dk:=dA (AL 1) λD=>d0 λY k=>dF Y L D (λz C=>k (V.bx false [(V.sl 1 z),(QQe C)]) [])
theorem UE(L:Nat):DK (Iu dF L) (λ_=>dj FL (FK L) L MY):=dk ik λz=>fC λ_ k=>UL L z k
def B6:CF:=cfD zi 51
def uZ:Nat->Sh:=fP []
def vh(L:Nat):CBC:=noC
def qE(L:Nat)(z:Ls)(C:Int)(D:Bool->Ls->Int->Ob Y):Ob Y:=D (decide (C<((WcJ z:Nat):Int))) z C
theorem I8(L:Nat)(z:Ls)(C:Int)(k:KK Y):dj uZ (vh L) L B6 [(V.ptr 0 0)] [(.live false [(V.sl 1 z),(QQe C)])] k=qE L z C (λD z C=>k (V.sc (.bool D)) [(.live false [(V.sl 1 z),(QQe C)])]):=by kernel_rfl
abbrev nA:=∀ (Y:Type),Nat->Ls->Int->(Bool->Ls->Int->Ob Y)->Ob Y
def fi:nA:=λY=>@qE Y
def qR(fi:nA)(L:Nat)(Y:Type)(args:List V)(bor:Bor)(k:KK Y):Ob Y:=match args,bor with
 | [a0],[(.live false [w0_0,w0_1])]=>aP 0 0 a0 (aL 1 w0_0 λz=>aI .i64 w0_1 λC=>fi Y L z C (λD z C=>k (V.sc (.bool D)) [(.live false [(V.sl 1 z),(QQe C)])]))
 | _,_=>none
theorem I3(L:Nat)(Y:Type)(args:List V)(bor:Bor)(k:KK Y)(r:Y)(h:qR fi L Y args bor k=some r):dj uZ (vh L) L B6 args bor k=some r:=by
 unfold qR at h
 split at h
 ·have q:=GP h; clear h; obtain ⟨rfl,h⟩:=q
  have q:=AO h; clear h; obtain ⟨z,rfl,h⟩:=q
  have q:=tA h; clear h; obtain ⟨C,rfl,h⟩:=q
  exact (I8 L z C k).trans h
 ·cases h
def M7:CF:=cfD II 14
def Gf:Nat->Sh:=fP []
def FZ(L:Nat):CBC:=noC
def Cq(L:Nat)(E C:Int)(z:Int->Ob Y):Ob Y:=chk (C≠0) (lt (Int.tmod E C) λD=>ifb (decide (D<(0:Int))) (lt (Wbf .i64 ((D:Int)+C)) λF=>z F) (z D))
theorem UW(L:Nat)(z C:Int)(k:KK Y):dj Gf (FZ L) L M7 [(QQe z),(QQe C)] [] k=Cq L z C (λz=>k (QQe z) []):=by kernel_rfl
abbrev hP:=∀ (Y:Type),Nat->Int->Int->(Int->Ob Y)->Ob Y
def dg:hP:=λY=>@Cq Y
def Co(dg:hP)(L:Nat):Dk:=dA (AI .i64) λz=>dA (AI .i64) λC=>d0 λY k=>dg Y L z C (λz=>k (QQe z) [])
theorem UN(L:Nat):DK (Co dg L) (λ_=>dj Gf (FZ L) L M7):=dk gm λz=>dk gm λC=>fC λ_ k=>UW L z C k
def B7:CF:=cfD zd 25
def uW:Nat->Sh:=fP [(25,(.int .i64))]
def uK(fi:nA)(dg:hP)(L:Nat):CBC:=(d6 217 (Co dg L) (d6 247 (qR fi L) noC))
def qP(fi:nA)(dg:hP)(L:Nat)(I:Int)(C:Ls)(D:Int)(z:Int->Ls->Int->Ob Y):Ob Y:=fi Y L C D (λJ E F=>ifb (!J) (z (0:Int) E F) (lt (Wbf .i64 ((F:Int)+(1:Int))) λH=>lt (Wbf .i64 ((H:Int)-(1:Int))) λM=>idx E M λN=>cI .i64 N 0 λO=>dg Y L O I (λP=>z P E H)))
theorem Jc(fi:nA)(dg:hP)(L:Nat)(D:Int)(z:Ls)(C:Int)(k:KK Y):dj uW (uK fi dg L) L B7 [(V.ptr 0 0),(QQe D)] [(.live false [(V.sl 1 z),(QQe C)])] k=qP fi dg L D z C (λE z C=>k (QQe E) [(.live false [(V.sl 1 z),(QQe C)])]):=by kernel_rfl
abbrev dH:=∀ (Y:Type),Nat->Int->Ls->Int->(Int->Ls->Int->Ob Y)->Ob Y
def bR:dH:=λY=>@qP Y fi dg
def lW(bR:dH)(L:Nat)(Y:Type)(args:List V)(bor:Bor)(k:KK Y):Ob Y:=match args,bor with
 | [a0,a1],[(.live false [w0_0,w0_1])]=>aP 0 0 a0 (aI .i64 a1 λD=>aL 1 w0_0 λz=>aI .i64 w0_1 λC=>bR Y L D z C (λE z C=>k (QQe E) [(.live false [(V.sl 1 z),(QQe C)])]))
 | _,_=>none
theorem Je(L:Nat)(Y:Type)(args:List V)(bor:Bor)(k:KK Y)(r:Y)(h:lW bR L Y args bor k=some r):dj uW (uK fi dg L) L B7 args bor k=some r:=by
 unfold lW at h
 split at h
 ·have q:=GP h; clear h; obtain ⟨rfl,h⟩:=q
  have q:=tA h; clear h; obtain ⟨D,rfl,h⟩:=q
  have q:=AO h; clear h; obtain ⟨z,rfl,h⟩:=q
  have q:=tA h; clear h; obtain ⟨C,rfl,h⟩:=q
  exact (Jc fi dg L D z C k).trans h
 ·cases h
def cf_mill_Deck_Seeds:CF:=cfD yR 28
def n9:CC:=eS [1,1,0,1,0,0] cf_mill_Deck_Seeds.body
def yP:CC:=eS [1,1,1] cf_mill_Deck_Seeds.body
def iy:Nat->Sh:=fP []
def iA(bR:dH)(L:Nat):CBC:=(d6 231 (lW bR L) noC)
def o4:St->St:=fF 1 (bl 97 22) (bl 2490367 22)
def kR(D:Ls)(E:Int)(z:Ls)(C:Int):St:=⟨((V.ptr 0 0)::(jn 4 ((V.gs 1 D)::((QQe E)::(jn 15 []))))),((.live false [(V.sl 1 z),(QQe C)])::(gn 22 []))⟩
def pS(D z:Ls)(C:Int):St:=⟨(jn 5 ((V.gs 1 D)::(jn 16 []))),((.live false [(V.sl 1 z),(QQe C)])::(gn 22 []))⟩
def vc(bR:dH)(L:Nat)(E:Int)(C:Ls)(D:Int)(z:Ls->Int->Ls->Int->Ob Y):Ob Y:=lt (Wbf .i64 ((E:Int)+(1:Int))) λF=>bR Y L F C D (λH I J=>z ([]:Ls) H I J)
theorem HB(bR:dH)(L:Nat)(D:Int)(z:Ls)(C:Int)(k:KK Y):dj iy (iA bR L) L cf_mill_Deck_Seeds [(V.ptr 0 0),(QQe D)] [(.live false [(V.sl 1 z),(QQe C)])] k=vc bR L D z C (λE F z C=>dX (cC iy (iA bR L) 1 L n9) o4 L (kR E F z C) (cW 0 (dN (cC iy (iA bR L) 1 L yP) (eo 1 (CF.res cf_mill_Deck_Seeds) k)))):=by kernel_rfl
def me(bR:dH)(L:Nat)(E:Ls)(I:Int)(C:Ls)(D:Int)(z:Ls->Int->Ls->Int->Ob Y)(F:Ls->Ls->Int->Ob Y):Ob Y:=ifb (decide (I>(0:Int))) (bR Y L (256:Int) C D (λJ M N=>lt (Wbf .u8 J) λH=>chk ((WcJ E+WcJ (cz 1 1 [(QQa H)]))*1<=cy/\WcJ E+WcJ (cz 1 1 [(QQa H)])<=cy) (lt (E++(cz 1 1 [(QQa H)])) λO=>lt (Wbf .i64 ((I:Int)-(1:Int))) λP=>z O P M N))) (F E C D)
theorem Cs(bR:dH)(L:Nat)(D:Ls)(E:Int)(z:Ls)(C:Int)(X:St->Ob Y)(K:KT Y):cC iy (iA bR L) 1 L n9 (kR D E z C) (fO o4 X K)=me bR L D E z C (λD E z C=>X (kR D E z C)) (λD z C=>K (.exit 0) (pS D z C)):=by kernel_rfl
def tr(bR:dH)(L:Nat)(E C:Ls)(D:Int)(z:Ls->Ls->Int->Ob Y):Ob Y:=z E C D
theorem Bm(bR:dH)(L:Nat)(D z:Ls)(C:Int)(k:KK Y):(cW 0 (dN (cC iy (iA bR L) 1 L yP) (eo 1 (CF.res cf_mill_Deck_Seeds) k))) (.exit 0) (pS D z C)=tr bR L D z C (λE z C=>k (V.gs 1 E) [(.live false [(V.sl 1 z),(QQe C)])]):=by kernel_rfl
def jb(bR:dH)(L:Nat)(D:Ls->Ls->Int->Ob Y):Nat->Ls->Int->Ls->Int->Ob Y
 | 0,_,_,_,_=>none
 | n+1,E,F,z,C=>me bR L E F z C (λE F z C=>jb bR L D n E F z C) D
theorem sM(bR:dH)(L:Nat)(K:KT Y):∀ (n:Nat) (D:Ls) (E:Int) (z:Ls) (C:Int),dX (cC iy (iA bR L) 1 L n9) o4 n (kR D E z C) K=jb bR L (λD z C=>K (.exit 0) (pS D z C)) n D E z C:=by
 intro n; induction n <;> intros
 ·rfl
 ·exact (Cs ..).trans (by simp only [*]; rfl)
def pa(bR:dH)(L:Nat)(F:Int)(z:Ls)(C:Int)(D:Ls->Ls->Int->Ob Y):Ob Y:=vc bR L F z C (λE H z C=>jb bR L (λE z C=>tr bR L E z C D) L E H z C)
theorem It(bR:dH)(L:Nat)(D:Int)(z:Ls)(C:Int)(k:KK Y):dj iy (iA bR L) L cf_mill_Deck_Seeds [(V.ptr 0 0),(QQe D)] [(.live false [(V.sl 1 z),(QQe C)])] k=pa bR L D z C (λE z C=>k (V.gs 1 E) [(.live false [(V.sl 1 z),(QQe C)])]):=by
 refine (HB bR L D z C k).trans ?_
 unfold pa
 first
  | (simp only [sM,Bm]; done)
  | (simp only [sM]; rfl)
abbrev mS:=∀ (Y:Type),Nat->Int->Ls->Int->(Ls->Ls->Int->Ob Y)->Ob Y
def eY:mS:=λY=>@pa Y bR
def pe(eY:mS)(L:Nat)(Y:Type)(args:List V)(bor:Bor)(k:KK Y):Ob Y:=match args,bor with
 | [a0,a1],[(.live false [w0_0,w0_1])]=>aP 0 0 a0 (aI .i64 a1 λD=>aL 1 w0_0 λz=>aI .i64 w0_1 λC=>eY Y L D z C (λE z C=>k (V.gs 1 E) [(.live false [(V.sl 1 z),(QQe C)])]))
 | _,_=>none
theorem Ik(L:Nat)(Y:Type)(args:List V)(bor:Bor)(k:KK Y)(r:Y)(h:pe eY L Y args bor k=some r):dj iy (iA bR L) L cf_mill_Deck_Seeds args bor k=some r:=by
 unfold pe at h
 split at h
 ·have q:=GP h; clear h; obtain ⟨rfl,h⟩:=q
  have q:=tA h; clear h; obtain ⟨D,rfl,h⟩:=q
  have q:=AO h; clear h; obtain ⟨z,rfl,h⟩:=q
  have q:=tA h; clear h; obtain ⟨C,rfl,h⟩:=q
  exact (It bR L D z C k).trans h
 ·cases h
abbrev sZ:=∀ (Y:Type),Nat->Int->Ls->(List V->Ob Y)->Ob Y
def gG:sZ:=λY L z C kf=>opD (cN rows) 400 422 L Y [(QQa z),(V.sl 1 C)] [] λv _=>AG Y v λp=>kf p
def DI(gG:sZ)(L:Nat):Dk:=dA (AI .u8) λz=>dA (AL 1) λC=>d0 λY k=>gG Y L z C (λD=>k (V.agg D) [])
theorem PW(L:Nat):DK (DI gG L) (opD (cN rows) 400 422 L):=dk gm λz=>dk ik λC=>Ap fN [(QQa z),(V.sl 1 C)] λ_ _ _=>rfl
def IO:CF:=cfD EH 9
def Bt:Nat->Sh:=fP []
def BJ(bR:dH)(eY:mS)(gG:sZ)(L:Nat):CBC:=(d6 422 (DI gG L) (d6 423 (pe eY L) (d6 231 (lW bR L) noC)))
def Dg(bR:dH)(eY:mS)(gG:sZ)(L:Nat)(H:Int)(C:Ls)(D:Int)(z:List V->Ls->Int->Ob Y):Ob Y:=bR Y L (256:Int) C D (λI J M=>lt (Wbf .u8 I) λN=>eY Y L H J M (λO P Q=>gG Y L N O (λE=>chk ((WcJ E)=84/\0+84<=84) (lt (cD ([(QQc (0:Int))]++Wad 64 (QQa (0:Int))++[(QQc (0:Int)),(QQc (0:Int)),(QQc (0:Int)),(QQd (0:Int)),(QQd (0:Int)),(QQd (0:Int)),(QQd (0:Int)),(QQe (0:Int)),(QQc (0:Int)),(QQc (0:Int)),(QQc (0:Int)),(V.gs 33 ([]:Ls)),(QQe (0:Int)),(QQe (0:Int)),(QQe (0:Int)),(V.gs 69 ([]:Ls)),(V.gs 34 ([]:Ls)),(V.gs 36 ([]:Ls)),(V.gs 1 ([]:Ls))]) 0 E) λF=>chk (0=0/\(WcJ F)=84/\84≠0) (z F P Q)))))
theorem Pb(bR:dH)(eY:mS)(gG:sZ)(L:Nat)(D:Int)(z:Ls)(C:Int)(k:KK Y):dj Bt (BJ bR eY gG L) L IO [(V.ptr 0 0),(QQe D)] [(.live false [(V.sl 1 z),(QQe C)])] k=Dg bR eY gG L D z C (λE z C=>k (V.agg E) [(.live false [(V.sl 1 z),(QQe C)])]):=by kernel_rfl
abbrev gQ:=∀ (Y:Type),Nat->Int->Ls->Int->(List V->Ls->Int->Ob Y)->Ob Y
def di:gQ:=λY=>@Dg Y bR eY gG
def y5(di:gQ)(L:Nat)(Y:Type)(args:List V)(bor:Bor)(k:KK Y):Ob Y:=match args,bor with
 | [a0,a1],[(.live false [w0_0,w0_1])]=>aP 0 0 a0 (aI .i64 a1 λD=>aL 1 w0_0 λz=>aI .i64 w0_1 λC=>di Y L D z C (λE z C=>k (V.agg E) [(.live false [(V.sl 1 z),(QQe C)])]))
 | _,_=>none
theorem Qv(L:Nat)(Y:Type)(args:List V)(bor:Bor)(k:KK Y)(r:Y)(h:y5 di L Y args bor k=some r):dj Bt (BJ bR eY gG L) L IO args bor k=some r:=by
 unfold y5 at h
 split at h
 ·have q:=GP h; clear h; obtain ⟨rfl,h⟩:=q
  have q:=tA h; clear h; obtain ⟨D,rfl,h⟩:=q
  have q:=AO h; clear h; obtain ⟨z,rfl,h⟩:=q
  have q:=tA h; clear h; obtain ⟨C,rfl,h⟩:=q
  exact (Pb bR eY gG L D z C k).trans h
 ·cases h
def G7:CF:=cfD Dc 13
def z6:Nat->Sh:=fP []
def Aj(L:Nat):CBC:=noC
def Bx(L:Nat)(C:Int)(z:Ls->Ob Y):Ob Y:=lt (Int.tmod C (6:Int)) λD=>lt (Wbf .u8 (((1:Int):Int)+D)) λE=>z (cz 1 4 [(QQa (1:Int)),(QQa (1:Int)),(QQa E),(QQa (5:Int))])
theorem OX(L:Nat)(z:Int)(k:KK Y):dj z6 (Aj L) L G7 [(QQa z)] [] k=Bx L z (λz=>k (V.gs 1 z) []):=by kernel_rfl
abbrev ip:=∀ (Y:Type),Nat->Int->(Ls->Ob Y)->Ob Y
def dl:ip:=λY=>@Bx Y
def BZ(dl:ip)(L:Nat):Dk:=dA (AI .u8) λz=>d0 λY k=>dl Y L z (λz=>k (V.gs 1 z) [])
theorem N8(L:Nat):DK (BZ dl L) (λ_=>dj z6 (Aj L) L G7):=dk gm λz=>fC λ_ k=>OX L z k
def cf_ref09_Compare:CF:=cfD A5 91
def qy:CC:=eS [1,0,1,0,0] cf_ref09_Compare.body
def vk:CC:=eS [1,1] cf_ref09_Compare.body
def iC:Nat->Sh:=fP [(12,(.int .u8)),(16,(.int .u8)),(21,(.int .u8)),(25,(.int .u8)),(30,(.int .u32)),(32,(.int .u32)),(36,(.int .u32)),(38,(.int .u32))]
def iB(L:Nat):CBC:=noC
def rM:St->St:=fF 0 (bl 76 40) (bl 1099511627727 40)
def mn(z:Int)(C D:List V):St:=⟨(jn 2 ((V.ptr 2 0)::((V.ptr 3 0)::(jn 2 ((QQe z)::(jn 33 [])))))),(gn 2 ((.live true C)::((.live true D)::(gn 36 []))))⟩
def qo(z:Int):St:=⟨(jn 4 ((QQe z)::(jn 35 []))),(gn 40 [])⟩
def sg(z C:List V):St:=⟨(jn 2 ((V.ptr 2 0)::((V.ptr 3 0)::(jn 36 [])))),(gn 2 ((.live true z)::((.live true C)::(gn 36 []))))⟩
def yT(L:Nat)(C D:List V)(z:Int->List V->List V->Ob Y):Ob Y:=z (0:Int) C D
theorem Km(L:Nat)(z C:List V)(k:KK Y):dj iC (iB L) L cf_ref09_Compare [(V.agg z),(V.agg C)] [] k=yT L z C (λD E F=>dX (cC iC (iB L) 0 L qy) rM L (mn D E F) (cW 0 (dN (cC iC (iB L) 0 L vk) (eo 0 (CF.res cf_ref09_Compare) k)))):=by kernel_rfl
def nR(L:Nat)(z:Int)(E F:List V)(C:Int->Ob Y)(D:Int->List V->List V->Ob Y)(H:List V->List V->Ob Y):Ob Y:=ifb (decide (z<(32:Int))) (chk (0<=z/\z<((32:Nat):Int)) (cI .u8 E (0+((WcL z)*1)) λI=>chk (0<=z/\z<((32:Nat):Int)) (cI .u8 F (0+((WcL z)*1)) λJ=>ifb (decide (I<J)) (C (-1:Int)) (chk (0<=z/\z<((32:Nat):Int)) (cI .u8 E (0+((WcL z)*1)) λM=>chk (0<=z/\z<((32:Nat):Int)) (cI .u8 F (0+((WcL z)*1)) λN=>ifb (decide (M>N)) (C (1:Int)) (lt (Wbf .i64 ((z:Int)+(1:Int))) λO=>D O E F))))))) (H E F)
theorem F5(L:Nat)(D:Int)(z C:List V)(X:St->Ob Y)(K:KT Y):cC iC (iB L) 0 L qy (mn D z C) (fO rM X K)=nR L D z C (λE=>K .ret (qo E)) (λD z C=>X (mn D z C)) (λz C=>K (.exit 0) (sg z C)):=by kernel_rfl
def vy(L:Nat)(C:Int)(z:Int->Ob Y):Ob Y:=z C
theorem Cy(L:Nat)(z:Int)(k:KK Y):(cW 0 (dN (cC iC (iB L) 0 L vk) (eo 0 (CF.res cf_ref09_Compare) k))) .ret (qo z)=vy L z (λC=>k (QQe C) []):=by kernel_rfl
def pF(L:Nat)(C D:List V)(z:Int->Ob Y):Ob Y:=cI .u32 C 32 λE=>cI .u32 D 32 λF=>ifb (decide (E<F)) (z (-1:Int)) (cI .u32 C 32 λH=>cI .u32 D 32 λI=>ifb (decide (H>I)) (z (1:Int)) (z (0:Int)))
theorem D5(L:Nat)(z C:List V)(k:KK Y):(cW 0 (dN (cC iC (iB L) 0 L vk) (eo 0 (CF.res cf_ref09_Compare) k))) (.exit 0) (sg z C)=pF L z C (λD=>k (QQe D) []):=by kernel_rfl
def kj(L:Nat)(z:Int->Ob Y)(C:List V->List V->Ob Y):Nat->Int->List V->List V->Ob Y
 | 0,_,_,_=>none
 | n+1,D,E,F=>nR L D E F z (λD E F=>kj L z C n D E F) C
theorem vw(L:Nat)(K:KT Y):∀ (n:Nat) (D:Int) (z C:List V),dX (cC iC (iB L) 0 L qy) rM n (mn D z C) K=kj L (λE=>K .ret (qo E)) (λz C=>K (.exit 0) (sg z C)) n D z C:=by
 intro n; induction n <;> intros
 ·rfl
 ·exact (F5 ..).trans (by simp only [*]; rfl)
def sJ(L:Nat)(E F:List V)(z:Int->Ob Y):Ob Y:=yT L E F (λH C D=>kj L (λI=>vy L I z) (λC D=>pF L C D z) L H C D)
theorem Lk(L:Nat)(z C:List V)(k:KK Y):dj iC (iB L) L cf_ref09_Compare [(V.agg z),(V.agg C)] [] k=sJ L z C (λz=>k (QQe z) []):=by
 refine (Km L z C k).trans ?_
 unfold sJ
 first
  | (simp only [vw,Cy,D5]; done)
  | (simp only [vw]; rfl)
abbrev ot:=∀ (Y:Type),Nat->List V->List V->(Int->Ob Y)->Ob Y
def fu:ot:=λY=>@sJ Y
def yJ(fu:ot)(L:Nat):Dk:=dA AG λz=>dA AG λC=>d0 λY k=>fu Y L z C (λz=>k (QQe z) [])
theorem Kf(L:Nat):DK (yJ fu L) (λ_=>dj iC (iB L) L cf_ref09_Compare):=dk fN λz=>dk fN λC=>fC λ_ k=>Lk L z C k
def Ff:CF:=cfD B8 59
def yQ:Nat->Sh:=fP [(21,(.int .i64)),(24,(.int .i64))]
def yv(fu:ot)(L:Nat):CBC:=(d6 136 (yJ fu L) noC)
def zx(fu:ot)(L:Nat)(C D:List V)(z:Bool->Ob Y):Ob Y:=chk (0+33<=(WcJ C)) (chk (0+33<=(WcJ D)) (fu Y L (WcK 33 C) (WcK 33 D) (λE=>ifb (decide (E<(0:Int))) (z true) (ifb ((E:Int)==(0:Int)) (cI .i64 C 35 λF=>cI .i64 D 35 λH=>z (decide (F<H))) (z false)))))
theorem MI(fu:ot)(L:Nat)(z C:List V)(k:KK Y):dj yQ (yv fu L) L Ff [(V.agg z),(V.agg C)] [] k=zx fu L z C (λz=>k (V.sc (.bool z)) []):=by kernel_rfl
abbrev dx:=∀ (Y:Type),Nat->List V->List V->(Bool->Ob Y)->Ob Y
def bQ:dx:=λY=>@zx Y fu
def uw(bQ:dx)(L:Nat):Dk:=dA AG λz=>dA AG λC=>d0 λY k=>bQ Y L z C (λz=>k (V.sc (.bool z)) [])
theorem Ml(L:Nat):DK (uw bQ L) (λ_=>dj yQ (yv fu L) L Ff):=dk fN λz=>dk fN λC=>fC λ_ k=>MI fu L z C k
def cf_ref29_Right:CF:=cfD D1 32
def sO:CC:=eS [1,0,1,0,0] cf_ref29_Right.body
def yD:CC:=eS [1,1] cf_ref29_Right.body
def i9:Nat->Sh:=fP [(35,(.int .i64)),(39,(.int .i64)),(42,(.int .i64))]
def ja(bQ:dx)(L:Nat):CBC:=(d6 800 (uw bQ L) noC)
def vi:St->St:=fF 0 (bl 9 47) (bl 140737479966411 47)
def ni(z:Ls)(C:Int):St:=⟨((V.sl 38 z)::(jn 2 ((QQe C)::(jn 43 [])))),(gn 47 [])⟩
def tp(z:Bool):St:=⟨(jn 2 ((V.sc (.bool z))::(jn 44 []))),(gn 47 [])⟩
def vf:St:=⟨(jn 47 []),(gn 47 [])⟩
def Bv(bQ:dx)(L:Nat)(C:Ls)(z:Ls->Int->Ob Y):Ob Y:=z C (1:Int)
theorem Of(bQ:dx)(L:Nat)(z:Ls)(k:KK Y):dj i9 (ja bQ L) L cf_ref29_Right [(V.sl 38 z)] [] k=Bv bQ L z (λz C=>dX (cC i9 (ja bQ L) 0 L sO) vi L (ni z C) (cW 0 (dN (cC i9 (ja bQ L) 0 L yD) (eo 0 (CF.res cf_ref29_Right) k)))):=by kernel_rfl
def pn(bQ:dx)(L:Nat)(E:Ls)(F:Int)(C:Bool->Ob Y)(z:Ls->Int->Ob Y)(I:Ob Y):Ob Y:=ifb (decide (F<((WcJ E:Nat):Int))) (lt (Wbf .i64 ((F:Int)-(1:Int))) λP=>idx E P λJ=>idx E F λM=>chk ((WcJ (WcK 38 J))=38/\0+38<=38) (lt (cD (Wad 32 (QQa (0:Int))++[(QQc (0:Int)),(QQe (0:Int)),(V.gs 1 ([]:Ls)),(QQe (0:Int)),(V.sc (.bool false)),(QQe (0:Int))]) 0 (WcK 38 J)) λD=>chk ((WcJ (WcK 38 M))=38/\0+38<=38) (lt (cD (Wad 32 (QQa (0:Int))++[(QQc (0:Int)),(QQe (0:Int)),(V.gs 1 ([]:Ls)),(QQe (0:Int)),(V.sc (.bool false)),(QQe (0:Int))]) 0 (WcK 38 M)) λH=>chk (0+38<=(WcJ D)) (chk (0+38<=(WcJ H)) (bQ Y L (WbO V.ag (WcK 38 D)) (WbO V.ag (WcK 38 H)) (λQ=>ifb (!Q) (C false) (chk (0+33<=(WcJ D)) (chk (0+33<=(WcJ H)) (eqC 33 (WcK 33 D) (WcK 33 H) λR=>ifb R (cI .i64 D 37 λS=>ifb ((S:Int)==(0:Int)) (C false) (cI .i64 D 37 λT=>cI .i64 H 35 λU=>ifb (decide (T>U)) (C false) (lt (Wbf .i64 ((F:Int)+(1:Int))) λN=>z E N))) (lt (Wbf .i64 ((F:Int)+(1:Int))) λO=>z E O)))))))))) (I)
theorem HQ(bQ:dx)(L:Nat)(z:Ls)(C:Int)(X:St->Ob Y)(K:KT Y):cC i9 (ja bQ L) 0 L sO (ni z C) (fO vi X K)=pn bQ L z C (λD=>K .ret (tp D)) (λz C=>X (ni z C)) (K (.exit 0) (vf)):=by kernel_rfl
def xp(bQ:dx)(L:Nat)(C:Bool)(z:Bool->Ob Y):Ob Y:=z C
theorem Eh(bQ:dx)(L:Nat)(z:Bool)(k:KK Y):(cW 0 (dN (cC i9 (ja bQ L) 0 L yD) (eo 0 (CF.res cf_ref29_Right) k))) .ret (tp z)=xp bQ L z (λC=>k (V.sc (.bool C)) []):=by kernel_rfl
def zj(bQ:dx)(L:Nat)(z:Bool->Ob Y):Ob Y:=z true
theorem F9(bQ:dx)(L:Nat)(k:KK Y):(cW 0 (dN (cC i9 (ja bQ L) 0 L yD) (eo 0 (CF.res cf_ref29_Right) k))) (.exit 0) (vf)=zj bQ L (λz=>k (V.sc (.bool z)) []):=by kernel_rfl
def lx(bQ:dx)(L:Nat)(z:Bool->Ob Y)(C:Ob Y):Nat->Ls->Int->Ob Y
 | 0,_,_=>none
 | n+1,D,E=>pn bQ L D E z (λD E=>lx bQ L z C n D E) C
theorem yN(bQ:dx)(L:Nat)(K:KT Y):∀ (n:Nat) (z:Ls) (C:Int),dX (cC i9 (ja bQ L) 0 L sO) vi n (ni z C) K=lx bQ L (λD=>K .ret (tp D)) (K (.exit 0) (vf)) n z C:=by
 intro n; induction n <;> intros
 ·rfl
 ·exact (HQ ..).trans (by simp only [*]; rfl)
def vT(bQ:dx)(L:Nat)(C:Ls)(z:Bool->Ob Y):Ob Y:=Bv bQ L C (λC D=>lx bQ L (λE=>xp bQ L E z) (zj bQ L z) L C D)
theorem NY(bQ:dx)(L:Nat)(z:Ls)(k:KK Y):dj i9 (ja bQ L) L cf_ref29_Right [(V.sl 38 z)] [] k=vT bQ L z (λz=>k (V.sc (.bool z)) []):=by
 refine (Of bQ L z k).trans ?_
 unfold vT
 first
  | (simp only [yN,Eh,F9]; done)
  | (simp only [yN]; rfl)
abbrev eK:=∀ (Y:Type),Nat->Ls->(Bool->Ob Y)->Ob Y
def cv:eK:=λY=>@vT Y bQ
def Bz(cv:eK)(L:Nat):Dk:=dA (AL 38) λz=>d0 λY k=>cv Y L z (λz=>k (V.sc (.bool z)) [])
theorem OM(L:Nat):DK (Bz cv L) (λ_=>dj i9 (ja bQ L) L cf_ref29_Right):=dk ik λz=>fC λ_ k=>NY bQ L z k
def Nk:CF:=cfD IQ 33
def Fy:Nat->Sh:=fP []
def FY(L:Nat):CBC:=noC
def H3(L:Nat)(C D E:Int)(z:Bool->Ob Y):Ob Y:=ifb (decide (C>=D)) (z (decide (C<=E))) (z false)
theorem Uw(L:Nat)(z C D:Int)(k:KK Y):dj Fy (FY L) L Nk [(QQe z),(QQe C),(QQe D)] [] k=H3 L z C D (λz=>k (V.sc (.bool z)) []):=by kernel_rfl
abbrev dS:=∀ (Y:Type),Nat->Int->Int->Int->(Bool->Ob Y)->Ob Y
def cd:dS:=λY=>@H3 Y
def yk(cd:dS)(L:Nat):Dk:=dA (AI .i64) λz=>dA (AI .i64) λC=>dA (AI .i64) λD=>d0 λY k=>cd Y L z C D (λz=>k (V.sc (.bool z)) [])
theorem UV(L:Nat):DK (yk cd L) (λ_=>dj Fy (FY L) L Nk):=dk gm λz=>dk gm λC=>dk gm λD=>fC λ_ k=>Uw L z C D k
def cf_ref30_find:CF:=cfD Ep 34
def uQ:CC:=eS [1,0,1,0,0] cf_ref30_find.body
def Aa:CC:=eS [1,1] cf_ref30_find.body
def jQ:Nat->Sh:=fP [(8,(.sl 3)),(14,(.sl 3)),(18,(.sl 1))]
def jT(L:Nat):CBC:=noC
def wz:St->St:=fF 0 (bl 38 24) (bl 16776687 24)
def nO(z:Ls)(C:Int)(D:List V):St:=⟨(jn 1 ((V.sl 1 z)::((V.ptr 2 0)::(jn 2 ((QQe C)::(jn 18 [])))))),(gn 2 ((.live true D)::(gn 21 [])))⟩
def uI(z:Int):St:=⟨(jn 4 ((QQe z)::(jn 19 []))),(gn 24 [])⟩
def wF:St:=⟨(jn 24 []),(gn 24 [])⟩
def Dz(L:Nat)(C:List V)(D:Ls)(z:Ls->Int->List V->Ob Y):Ob Y:=z D (0:Int) C
theorem QZ(L:Nat)(C:List V)(z:Ls)(k:KK Y):dj jQ (jT L) L cf_ref30_find [(V.agg C),(V.sl 1 z)] [] k=Dz L C z (λz D E=>dX (cC jQ (jT L) 0 L uQ) wz L (nO z D E) (cW 0 (dN (cC jQ (jT L) 0 L Aa) (eo 0 (CF.res cf_ref30_find) k)))):=by kernel_rfl
def wu(L:Nat)(H:Ls)(C:Int)(E:List V)(D:Int->Ob Y)(z:Ls->Int->List V->Ob Y)(F:Ob Y):Ob Y:=cLd 3 E 0 λI=>ifb (decide (C<((WcJ I:Nat):Int))) (cLd 3 E 0 λJ=>idx J C λM=>cL 1 M 0 λN=>z4 N λO=>z4 H λP=>ifb (ByteArray.toList O==ByteArray.toList P) (D C) (lt (Wbf .i64 ((C:Int)+(1:Int))) λQ=>z H Q E)) (F)
theorem Ja(L:Nat)(z:Ls)(C:Int)(D:List V)(X:St->Ob Y)(K:KT Y):cC jQ (jT L) 0 L uQ (nO z C D) (fO wz X K)=wu L z C D (λE=>K .ret (uI E)) (λz C D=>X (nO z C D)) (K (.exit 0) (wF)):=by kernel_rfl
def zt(L:Nat)(C:Int)(z:Int->Ob Y):Ob Y:=z C
theorem Gd(L:Nat)(z:Int)(k:KK Y):(cW 0 (dN (cC jQ (jT L) 0 L Aa) (eo 0 (CF.res cf_ref30_find) k))) .ret (uI z)=zt L z (λC=>k (QQe C) []):=by kernel_rfl
def AM(L:Nat)(z:Int->Ob Y):Ob Y:=z (-1:Int)
theorem Gr(L:Nat)(k:KK Y):(cW 0 (dN (cC jQ (jT L) 0 L Aa) (eo 0 (CF.res cf_ref30_find) k))) (.exit 0) (wF)=AM L (λz=>k (QQe z) []):=by kernel_rfl
def nE(L:Nat)(z:Int->Ob Y)(C:Ob Y):Nat->Ls->Int->List V->Ob Y
 | 0,_,_,_=>none
 | n+1,D,E,F=>wu L D E F z (λD E F=>nE L z C n D E F) C
theorem zl(L:Nat)(K:KT Y):∀ (n:Nat) (z:Ls) (C:Int) (D:List V),dX (cC jQ (jT L) 0 L uQ) wz n (nO z C D) K=nE L (λE=>K .ret (uI E)) (K (.exit 0) (wF)) n z C D:=by
 intro n; induction n <;> intros
 ·rfl
 ·exact (Ja ..).trans (by simp only [*]; rfl)
def xB(L:Nat)(D:List V)(C:Ls)(z:Int->Ob Y):Ob Y:=Dz L D C (λC E F=>nE L (λH=>zt L H z) (AM L z) L C E F)
theorem Pt(L:Nat)(z:List V)(C:Ls)(k:KK Y):dj jQ (jT L) L cf_ref30_find [(V.agg z),(V.sl 1 C)] [] k=xB L z C (λz=>k (QQe z) []):=by
 refine (QZ L z C k).trans ?_
 unfold xB
 first
  | (simp only [zl,Gd,Gr]; done)
  | (simp only [zl]; rfl)
abbrev eG:=∀ (Y:Type),Nat->List V->Ls->(Int->Ob Y)->Ob Y
def ck:eG:=λY=>@xB Y
def yb(ck:eG)(L:Nat):Dk:=dA AG λz=>dA (AL 1) λC=>d0 λY k=>ck Y L z C (λz=>k (QQe z) [])
theorem PX(L:Nat):DK (yb ck L) (λ_=>dj jQ (jT L) L cf_ref30_find):=dk fN λz=>dk ik λC=>fC λ_ k=>Pt L z C k
def M6:CF:=cfD IF 60
def FV:Nat->Sh:=fP []
def Fm(L:Nat):CBC:=noC
def HT(L:Nat)(C D E:Int)(z:Bool->Ob Y):Ob Y:=ifb (decide (C>=D)) (z (decide (C<=E))) (z false)
theorem Uz(L:Nat)(z C D:Int)(k:KK Y):dj FV (Fm L) L M6 [(QQe z),(QQe C),(QQe D)] [] k=HT L z C D (λz=>k (V.sc (.bool z)) []):=by kernel_rfl
abbrev ym:=∀ (Y:Type),Nat->Int->Int->Int->(Bool->Ob Y)->Ob Y
def hI:ym:=λY=>@HT Y
def Iq(hI:ym)(L:Nat):Dk:=dA (AI .i64) λz=>dA (AI .i64) λC=>dA (AI .i64) λD=>d0 λY k=>hI Y L z C D (λz=>k (V.sc (.bool z)) [])
theorem UP(L:Nat):DK (Iq hI L) (λ_=>dj FV (Fm L) L M6):=dk gm λz=>dk gm λC=>dk gm λD=>fC λ_ k=>Uz L z C D k
def EK:CF:=cfD Cd 35
def xC:Nat->Sh:=fP [(10,(.int .i64)),(15,(.int .i64)),(21,(.sl 1)),(27,(.int .i64)),(33,(.int .i64)),(37,(.int .i64)),(39,(.int .i64))]
def yV(hI:ym)(L:Nat):CBC:=(d6 791 (Iq hI L) noC)
def zN(hI:ym)(L:Nat)(C:List V)(E:Int)(z:Bool->Ob Y):Ob Y:=chk (0+37<=(WcJ C)) (chk ((WcJ (WcK 37 C))=37/\0+37<=37) (lt (cD (Wad 32 (QQa (0:Int))++[(QQc (0:Int)),(QQe (0:Int)),(V.gs 1 ([]:Ls)),(QQe (0:Int)),(V.sc (.bool false))]) 0 (WcK 37 C)) λD=>cI .i64 D 33 λF=>ifb (decide (F>=(0:Int))) (cI .i64 D 33 λH=>ifb (decide (H<=(2100000000000000:Int))) (cLd 1 D 34 λI=>ifb (decide (((WcJ I:Nat):Int)<=(520:Int))) (cI .i64 D 35 λJ=>hI Y L J (1:Int) E (λM=>ifb M (cI .i64 C 37 λN=>ifb ((N:Int)==(0:Int)) (z true) (cI .i64 C 37 λO=>cI .i64 D 35 λP=>hI Y L O P E (λQ=>z Q))) (z false))) (z false)) (z false)) (z false)))
theorem Md(hI:ym)(L:Nat)(z:List V)(C:Int)(k:KK Y):dj xC (yV hI L) L EK [(V.agg z),(QQe C)] [] k=zN hI L z C (λz=>k (V.sc (.bool z)) []):=by kernel_rfl
abbrev d7:=∀ (Y:Type),Nat->List V->Int->(Bool->Ob Y)->Ob Y
def cm:d7:=λY=>@zN Y hI
def zV(cm:d7)(L:Nat):Dk:=dA AG λz=>dA (AI .i64) λC=>d0 λY k=>cm Y L z C (λz=>k (V.sc (.bool z)) [])
theorem MQ(L:Nat):DK (zV cm L) (λ_=>dj xC (yV hI L) L EK):=dk fN λz=>dk gm λC=>fC λ_ k=>Md hI L z C k
def cf_ref30_Sound:CF:=cfD Di 12
def qX:CC:=eS [1,1,1,0,1,0,0] cf_ref30_Sound.body
def se:CC:=eS [1,1,0,1,0,0] cf_ref30_Sound.body
def u6:CC:=eS [1,1,1,1] cf_ref30_Sound.body
def qk:CC:=eS [1,1,1] cf_ref30_Sound.body
def fJ:Nat->Sh:=fP [(8,(.sl 3)),(13,(.sl 38)),(19,(.sl 38)),(25,(.sl 3)),(31,(.sl 3)),(36,(.sl 1)),(41,(.sl 1)),(47,(.int .i64)),(53,(.int .i64)),(55,(.int .i64)),(63,(.sl 1)),(70,(.sl 38)),(77,(.sl 38)),(83,(.sl 1)),(89,(.sl 38)),(94,(.int .i64)),(96,(.sl 3)),(100,(.int .i64)),(105,(.sl 38)),(110,(.sl 3)),(114,(.int .i64))]
def fI(cv:eK)(cd:dS)(ck:eG)(cm:d7)(L:Nat):CBC:=(d6 793 (zV cm L) (d6 832 (yb ck L) (d6 831 (yk cd L) (d6 792 (Bz cv L) noC))))
def tc:St->St:=fF 0 (bl 10 118) (bl 332306998946228949634806492755394539 118)
def sn:St->St:=fF 0 (bl 34 118) (bl 290768624058605172900632292818419627 118)
def mM(z:Int)(C:List V):St:=⟨(jn 1 ((V.ptr 1 0)::(jn 1 ((QQe z)::(jn 114 []))))),(gn 1 ((.live true C)::(gn 116 [])))⟩
def kN(z:Bool):St:=⟨(jn 2 ((V.sc (.bool z))::(jn 115 []))),(gn 118 [])⟩
def o9(z:List V):St:=⟨(jn 1 ((V.ptr 1 0)::(jn 116 []))),(gn 1 ((.live true z)::(gn 116 [])))⟩
def mo(z:Int)(C:List V):St:=⟨(jn 1 ((V.ptr 1 0)::(jn 3 ((QQe z)::(jn 112 []))))),(gn 1 ((.live true C)::(gn 116 [])))⟩
def u1:St:=⟨(jn 118 []),(gn 118 [])⟩
def BW(cv:eK)(cd:dS)(ck:eG)(cm:d7)(L:Nat)(D:List V)(z:Bool->Ob Y)(C:Int->List V->Ob Y):Ob Y:=cLd 3 D 0 λE=>ifb (decide (((WcJ E:Nat):Int)>(1000:Int))) (z false) (cLd 38 D 1 λF=>ifb (decide (((WcJ F:Nat):Int)>(4096:Int))) (z false) (cLd 38 D 1 λH=>cv Y L H (λI=>ifb (!I) (z false) (C (0:Int) D))))
theorem NF(cv:eK)(cd:dS)(ck:eG)(cm:d7)(L:Nat)(z:List V)(k:KK Y):dj fJ (fI cv cd ck cm L) L cf_ref30_Sound [(V.agg z)] [] k=BW cv cd ck cm L z (λz=>k (V.sc (.bool z)) []) (λC D=>dX (cC fJ (fI cv cd ck cm L) 0 L se) tc L (mM C D) (cW 0 (dN (cC fJ (fI cv cd ck cm L) 0 L qk) (eo 0 (CF.res cf_ref30_Sound) k)))):=by kernel_rfl
def oJ(cv:eK)(cd:dS)(ck:eG)(cm:d7)(L:Nat)(F:Int)(D:List V)(z:Bool->Ob Y)(C:Int->List V->Ob Y)(H:List V->Ob Y):Ob Y:=cLd 3 D 0 λU=>ifb (decide (F<((WcJ U:Nat):Int))) (cLd 3 D 0 λc9=>idx c9 F λI=>chk ((WcJ (WcK 3 I))=3/\0+3<=3) (lt (cD [(V.gs 1 ([]:Ls)),(QQe (0:Int)),(QQe (0:Int))] 0 (WcK 3 I)) λE=>cLd 1 E 0 λX=>ifb ((((WcJ X:Nat):Int):Int)==(0:Int)) (z false) (cLd 1 E 0 λc8=>ifb (decide (((WcJ c8:Nat):Int)>(520:Int))) (z false) (cI .i64 E 1 λJ=>cd Y L J (1:Int) (16777216:Int) (λM=>ifb (!M) (z false) (cI .i64 E 2 λN=>cI .i64 E 1 λO=>lt (Wbf .i64 ((O:Int)-(1:Int))) λP=>cd Y L N P (16777216:Int) (λQ=>ifb (!Q) (z false) (chk (0+2<=(WcJ D)) (cLd 1 E 0 λR=>ck Y L (WbO V.ag (WcK 2 D)) R (λS=>ifb ((S:Int) != F) (z false) (lt (Wbf .i64 ((F:Int)+(1:Int))) λT=>C T D))))))))))) (H D)
theorem GI(cv:eK)(cd:dS)(ck:eG)(cm:d7)(L:Nat)(C:Int)(z:List V)(X:St->Ob Y)(K:KT Y):cC fJ (fI cv cd ck cm L) 0 L se (mM C z) (fO tc X K)=oJ cv cd ck cm L C z (λD=>K .ret (kN D)) (λC z=>X (mM C z)) (λz=>K (.exit 0) (o9 z)):=by kernel_rfl
def xk(cv:eK)(cd:dS)(ck:eG)(cm:d7)(L:Nat)(C:Bool)(z:Bool->Ob Y):Ob Y:=z C
theorem DP(cv:eK)(cd:dS)(ck:eG)(cm:d7)(L:Nat)(z:Bool)(k:KK Y):(cW 0 (dN (cC fJ (fI cv cd ck cm L) 0 L qk) (eo 0 (CF.res cf_ref30_Sound) k))) .ret (kN z)=xk cv cd ck cm L z (λC=>k (V.sc (.bool C)) []):=by kernel_rfl
def yK(cv:eK)(cd:dS)(ck:eG)(cm:d7)(L:Nat)(C:List V)(z:Int->List V->Ob Y):Ob Y:=z (0:Int) C
theorem Ea(cv:eK)(cd:dS)(ck:eG)(cm:d7)(L:Nat)(z:List V)(k:KK Y):(cW 0 (dN (cC fJ (fI cv cd ck cm L) 0 L qk) (eo 0 (CF.res cf_ref30_Sound) k))) (.exit 0) (o9 z)=yK cv cd ck cm L z (λC z=>dX (cC fJ (fI cv cd ck cm L) 0 L qX) sn L (mo C z) (cW 2 (dN (cC fJ (fI cv cd ck cm L) 0 L u6) (eo 0 (CF.res cf_ref30_Sound) k)))):=by kernel_rfl
def lS(cv:eK)(cd:dS)(ck:eG)(cm:d7)(L:Nat)(E:Int)(z:List V)(C:Bool->Ob Y)(D:Int->List V->Ob Y)(H:Ob Y):Ob Y:=cLd 38 z 1 λI=>ifb (decide (E<((WcJ I:Nat):Int))) (chk (0+2<=(WcJ z)) (cLd 38 z 1 λJ=>idx J E λM=>cL 1 (WcM 1 (WcM 33 M)) 0 λN=>ck Y L (WbO V.ag (WcK 2 z)) N (λF=>ifb (decide (F<(0:Int))) (C false) (cLd 38 z 1 λO=>idx O E λP=>cI .i64 (WcM 35 P) 0 λQ=>cLd 3 z 0 λR=>idx R F λS=>cI .i64 (WcM 1 S) 0 λT=>ifb (decide (Q<T)) (C false) (cLd 38 z 1 λU=>idx U E λc9=>cLd 3 z 0 λX=>idx X F λc8=>cI .i64 (WcM 2 c8) 0 λb9=>cm Y L (WbO V.ag (WcK 38 c9)) b9 (λaa=>ifb (!aa) (C false) (lt (Wbf .i64 ((E:Int)+(1:Int))) λab=>D ab z))))))) (H)
theorem Gg(cv:eK)(cd:dS)(ck:eG)(cm:d7)(L:Nat)(z:Int)(C:List V)(X:St->Ob Y)(K:KT Y):cC fJ (fI cv cd ck cm L) 0 L qX (mo z C) (fO sn X K)=lS cv cd ck cm L z C (λD=>K .ret (kN D)) (λz C=>X (mo z C)) (K (.exit 2) (u1)):=by kernel_rfl
def vF(cv:eK)(cd:dS)(ck:eG)(cm:d7)(L:Nat)(C:Bool)(z:Bool->Ob Y):Ob Y:=z C
theorem CI(cv:eK)(cd:dS)(ck:eG)(cm:d7)(L:Nat)(z:Bool)(k:KK Y):(cW 2 (dN (cC fJ (fI cv cd ck cm L) 0 L u6) (eo 0 (CF.res cf_ref30_Sound) k))) .ret (kN z)=vF cv cd ck cm L z (λC=>k (V.sc (.bool C)) []):=by kernel_rfl
def w7(cv:eK)(cd:dS)(ck:eG)(cm:d7)(L:Nat)(z:Bool->Ob Y):Ob Y:=z true
theorem Dt(cv:eK)(cd:dS)(ck:eG)(cm:d7)(L:Nat)(k:KK Y):(cW 2 (dN (cC fJ (fI cv cd ck cm L) 0 L u6) (eo 0 (CF.res cf_ref30_Sound) k))) (.exit 2) (u1)=w7 cv cd ck cm L (λz=>k (V.sc (.bool z)) []):=by kernel_rfl
def kO(cv:eK)(cd:dS)(ck:eG)(cm:d7)(L:Nat)(z:Bool->Ob Y)(C:List V->Ob Y):Nat->Int->List V->Ob Y
 | 0,_,_=>none
 | n+1,D,E=>oJ cv cd ck cm L D E z (λD E=>kO cv cd ck cm L z C n D E) C
theorem xc(cv:eK)(cd:dS)(ck:eG)(cm:d7)(L:Nat)(K:KT Y):∀ (n:Nat) (C:Int) (z:List V),dX (cC fJ (fI cv cd ck cm L) 0 L se) tc n (mM C z) K=kO cv cd ck cm L (λD=>K .ret (kN D)) (λz=>K (.exit 0) (o9 z)) n C z:=by
 intro n; induction n <;> intros
 ·rfl
 ·exact (GI ..).trans (by simp only [*]; rfl)
def jp(cv:eK)(cd:dS)(ck:eG)(cm:d7)(L:Nat)(z:Bool->Ob Y)(C:Ob Y):Nat->Int->List V->Ob Y
 | 0,_,_=>none
 | n+1,D,E=>lS cv cd ck cm L D E z (λD E=>jp cv cd ck cm L z C n D E) C
theorem vG(cv:eK)(cd:dS)(ck:eG)(cm:d7)(L:Nat)(K:KT Y):∀ (n:Nat) (z:Int) (C:List V),dX (cC fJ (fI cv cd ck cm L) 0 L qX) sn n (mo z C) K=jp cv cd ck cm L (λD=>K .ret (kN D)) (K (.exit 2) (u1)) n z C:=by
 intro n; induction n <;> intros
 ·rfl
 ·exact (Gg ..).trans (by simp only [*]; rfl)
def pO(cv:eK)(cd:dS)(ck:eG)(cm:d7)(L:Nat)(C:List V)(z:Bool->Ob Y):Ob Y:=yK cv cd ck cm L C (λD C=>jp cv cd ck cm L (λE=>vF cv cd ck cm L E z) (w7 cv cd ck cm L z) L D C)
theorem Dd(cv:eK)(cd:dS)(ck:eG)(cm:d7)(L:Nat)(z:List V)(k:KK Y):(cW 0 (dN (cC fJ (fI cv cd ck cm L) 0 L qk) (eo 0 (CF.res cf_ref30_Sound) k))) (.exit 0) (o9 z)=pO cv cd ck cm L z (λC=>k (V.sc (.bool C)) []):=by
 refine (Ea cv cd ck cm L z k).trans ?_
 unfold pO
 first
  | (simp only [vG,CI,Dt]; done)
  | (simp only [vG]; rfl)
def vW(cv:eK)(cd:dS)(ck:eG)(cm:d7)(L:Nat)(D:List V)(z:Bool->Ob Y):Ob Y:=BW cv cd ck cm L D z (λE C=>kO cv cd ck cm L (λF=>xk cv cd ck cm L F z) (λC=>pO cv cd ck cm L C z) L E C)
theorem ND(cv:eK)(cd:dS)(ck:eG)(cm:d7)(L:Nat)(z:List V)(k:KK Y):dj fJ (fI cv cd ck cm L) L cf_ref30_Sound [(V.agg z)] [] k=vW cv cd ck cm L z (λz=>k (V.sc (.bool z)) []):=by
 refine (NF cv cd ck cm L z k).trans ?_
 unfold vW
 first
  | (simp only [xc,DP,Dd]; done)
  | (simp only [xc]; rfl)
abbrev fy:=∀ (Y:Type),Nat->List V->(Bool->Ob Y)->Ob Y
def cF:fy:=λY=>@vW Y cv cd ck cm
def rj(cF:fy)(L:Nat):Dk:=dA AG λz=>d0 λY k=>cF Y L z (λz=>k (V.sc (.bool z)) [])
theorem Oe(L:Nat):DK (rj cF L) (λ_=>dj fJ (fI cv cd ck cm L) L cf_ref30_Sound):=dk fN λz=>fC λ_ k=>ND cv cd ck cm L z k
def Es:CF:=cfD Ck 29
def xU:Nat->Sh:=fP [(1,(.row [(.sl 3),(.sl 38)]))]
def yl(L:Nat):CBC:=noC
def zC(L:Nat)(E:List V)(z:Nat->Nat->List V->List V->Ob Y):Ob Y:=chk (WcJ E=2) (cL 3 E 0 λC=>cL 38 E 1 λD=>chk ((0+WcJ C)*40<=cy/\0+WcJ C<=cy) (chk ((0+WcJ D)*96<=cy/\0+WcJ D<=cy) (z (WcJ C) (WcJ D) (WcN C) (WcN D))))
theorem Mi(L:Nat)(D:List V)(k:KK Y):dj xU (yl L) L Es [(V.agg D)] [] k=zC L D (λz C E F=>k (V.st [(V.own 0 0 z 3),(V.own 1 0 C 38)]) [(.live true E),(.live true F)]):=by kernel_rfl
abbrev dW:=∀ (Y:Type),Nat->List V->(Nat->Nat->List V->List V->Ob Y)->Ob Y
def ca:dW:=λY=>@zC Y
def pU(ca:dW)(L:Nat):Dk:=dA AG λD=>d0 λY k=>ca Y L D (λz C E F=>k (V.st [(V.own 0 0 z 3),(V.own 1 0 C 38)]) [(.live true E),(.live true F)])
theorem LV(L:Nat):DK (pU ca L) (λ_=>dj xU (yl L) L Es):=dk fN λz=>fC λ_ k=>Mi L z k
def Kr:CF:=cfD Gu 16
def D6:Nat->Sh:=fP [(16,(.sl 3))]
def DU(cF:fy)(cd:dS)(ck:eG)(ca:dW)(L:Nat):CBC:=(d6 829 (pU ca L) (d6 832 (yb ck L) (d6 831 (yk cd L) (d6 817 (rj cF L) noC))))
def F7(cF:fy)(cd:dS)(ck:eG)(ca:dW)(L:Nat)(C:List V)(E:Ls)(D:Int)(z:List V->Int->Ob Y):Ob Y:=chk (0+2<=(WcJ C)) (cF Y L (WbO V.ag (WcK 2 C)) (λN=>ifb (!N) (z [(V.sl 3 ([]:Ls)),(V.sl 38 ([]:Ls))] (6:Int)) (cLd 3 C 0 λO=>ifb (decide (((WcJ O:Nat):Int)>=(1000:Int))) (z [(V.sl 3 ([]:Ls)),(V.sl 38 ([]:Ls))] (4:Int)) (ifb (decide (((WcJ E:Nat):Int)>(520:Int))) (z [(V.sl 3 ([]:Ls)),(V.sl 38 ([]:Ls))] (4:Int)) (ifb ((((WcJ E:Nat):Int):Int)==(0:Int)) (z [(V.sl 3 ([]:Ls)),(V.sl 38 ([]:Ls))] (93:Int)) (cd Y L D (1:Int) (16777216:Int) (λP=>ifb (!P) (z [(V.sl 3 ([]:Ls)),(V.sl 38 ([]:Ls))] (5:Int)) (chk (0+2<=(WcJ C)) (ck Y L (WbO V.ag (WcK 2 C)) E (λQ=>ifb (decide (Q>=(0:Int))) (z [(V.sl 3 ([]:Ls)),(V.sl 38 ([]:Ls))] (150:Int)) (chk (0+2<=(WcJ C)) (ca Y L (WbO V.ag (WcK 2 C)) (λF R J S=>chk ((WcJ ([]:Ls)+WcJ E)*1<=cy/\WcJ ([]:Ls)+WcJ E<=cy) (lt (([]:Ls)++E) λH=>lt (Wbf .i64 ((D:Int)-(1:Int))) λI=>chk ((F+WcJ (cz 3 1 [(V.sl 1 H),(QQe D),(QQe I)]))*40<=cy/\(F+WcJ (cz 3 1 [(V.sl 1 H),(QQe D),(QQe I)]))<=cy/\((F+WcJ (cz 3 1 [(V.sl 1 H),(QQe D),(QQe I)]))≠0∨(WcJ J)=0)) (lt (WcK (F*3) J++WcN (cz 3 1 [(V.sl 1 H),(QQe D),(QQe I)])) λM=>z [(V.sl 3 (cz 3 (F+WcJ (cz 3 1 [(V.sl 1 H),(QQe D),(QQe I)])) M)),(V.sl 38 (cz 38 R S))] (0:Int))))))))))))))))
theorem Sy(cF:fy)(cd:dS)(ck:eG)(ca:dW)(L:Nat)(D:List V)(E:Ls)(F:Int)(k:KK Y):dj D6 (DU cF cd ck ca L) L Kr [(V.agg D),(V.sl 1 E),(QQe F)] [] k=F7 cF cd ck ca L D E F (λz C=>k (V.ah [(V.agg z),(QQe C)]) []):=by kernel_rfl
abbrev jd:=∀ (Y:Type),Nat->List V->Ls->Int->(List V->Int->Ob Y)->Ob Y
def dz:jd:=λY=>@F7 Y cF cd ck ca
def Fk(dz:jd)(L:Nat):Dk:=dA AG λD=>dA (AL 1) λE=>dA (AI .i64) λF=>d0 λY k=>dz Y L D E F (λz C=>k (V.ah [(V.agg z),(QQe C)]) [])
theorem Sa(L:Nat):DK (Fk dz L) (λ_=>dj D6 (DU cF cd ck ca L) L Kr):=dk fN λz=>dk ik λC=>dk gm λD=>fC λ_ k=>Sy cF cd ck ca L z C D k
def cf_ref29_Back:CF:=cfD E5 50
def tF:CC:=eS [1,1,0,1,0,0] cf_ref29_Back.body
def ES:CC:=eS [1,1,1] cf_ref29_Back.body
def ky:Nat->Sh:=fP [(20,(.int .i64)),(24,(.int .i64))]
def kF(L:Nat):CBC:=noC
def va:St->St:=fF 0 (bl 99 33) (bl 5368707967 33)
def m5(z:Ls)(C:Int)(D:Ls)(E:Int):St:=⟨((V.sl 38 z)::((QQe C)::(jn 3 ((V.gs 38 D)::((QQe E)::(jn 26 [])))))),(gn 33 [])⟩
def wP(z:Ls):St:=⟨(jn 5 ((V.gs 38 z)::(jn 27 []))),(gn 33 [])⟩
def C4(L:Nat)(C:Ls)(D:Int)(z:Ls->Int->Ls->Int->Ob Y):Ob Y:=z C D ([]:Ls) (0:Int)
theorem Qh(L:Nat)(z:Ls)(C:Int)(k:KK Y):dj ky (kF L) L cf_ref29_Back [(V.sl 38 z),(QQe C)] [] k=C4 L z C (λz C D E=>dX (cC ky (kF L) 0 L tF) va L (m5 z C D E) (cW 0 (dN (cC ky (kF L) 0 L ES) (eo 0 (CF.res cf_ref29_Back) k)))):=by kernel_rfl
def lz(L:Nat)(E:Ls)(F:Int)(D:Ls)(H:Int)(z:Ls->Int->Ls->Int->Ob Y)(J:Ls->Ob Y):Ob Y:=ifb (decide (H<((WcJ E:Nat):Int))) (idx E H λM=>chk ((WcJ (WcK 38 M))=38/\0+38<=38) (lt (cD (Wad 32 (QQa (0:Int))++[(QQc (0:Int)),(QQe (0:Int)),(V.gs 1 ([]:Ls)),(QQe (0:Int)),(V.sc (.bool false)),(QQe (0:Int))]) 0 (WcK 38 M)) λC=>cI .i64 C 35 λN=>ifb (decide (N>F)) (lt (Wbf .i64 ((H:Int)+(1:Int))) λO=>z E F D O) (cI .i64 C 37 λP=>ifb (decide (P>F)) (chk (1=1/\37+1<=(WcJ C)) (lt (cD C 37 [(QQe (0:Int))]) λI=>chk (0+38<=(WcJ I)) (chk ((WcJ (WcK 38 I))=38/\0+38<=38) (chk ((WcJ D+WcJ (cz 38 1 (cD (Wad 32 (QQa (0:Int))++[(QQc (0:Int)),(QQe (0:Int)),(V.sl 1 ([]:Ls)),(QQe (0:Int)),(V.sc (.bool false)),(QQe (0:Int))]) 0 (WcK 38 I))))*96<=cy/\WcJ D+WcJ (cz 38 1 (cD (Wad 32 (QQa (0:Int))++[(QQc (0:Int)),(QQe (0:Int)),(V.sl 1 ([]:Ls)),(QQe (0:Int)),(V.sc (.bool false)),(QQe (0:Int))]) 0 (WcK 38 I)))<=cy) (lt (D++(cz 38 1 (cD (Wad 32 (QQa (0:Int))++[(QQc (0:Int)),(QQe (0:Int)),(V.sl 1 ([]:Ls)),(QQe (0:Int)),(V.sc (.bool false)),(QQe (0:Int))]) 0 (WcK 38 I)))) λQ=>lt (Wbf .i64 ((H:Int)+(1:Int))) λR=>z E F Q R))))) (chk (0+38<=(WcJ C)) (chk ((WcJ (WcK 38 C))=38/\0+38<=38) (chk ((WcJ D+WcJ (cz 38 1 (cD (Wad 32 (QQa (0:Int))++[(QQc (0:Int)),(QQe (0:Int)),(V.sl 1 ([]:Ls)),(QQe (0:Int)),(V.sc (.bool false)),(QQe (0:Int))]) 0 (WcK 38 C))))*96<=cy/\WcJ D+WcJ (cz 38 1 (cD (Wad 32 (QQa (0:Int))++[(QQc (0:Int)),(QQe (0:Int)),(V.sl 1 ([]:Ls)),(QQe (0:Int)),(V.sc (.bool false)),(QQe (0:Int))]) 0 (WcK 38 C)))<=cy) (lt (D++(cz 38 1 (cD (Wad 32 (QQa (0:Int))++[(QQc (0:Int)),(QQe (0:Int)),(V.sl 1 ([]:Ls)),(QQe (0:Int)),(V.sc (.bool false)),(QQe (0:Int))]) 0 (WcK 38 C)))) λS=>lt (Wbf .i64 ((H:Int)+(1:Int))) λT=>z E F S T))))))) (J D)
theorem Ht(L:Nat)(C:Ls)(D:Int)(z:Ls)(E:Int)(X:St->Ob Y)(K:KT Y):cC ky (kF L) 0 L tF (m5 C D z E) (fO va X K)=lz L C D z E (λC D z E=>X (m5 C D z E)) (λz=>K (.exit 0) (wP z)):=by kernel_rfl
def zg(L:Nat)(C:Ls)(z:Ls->Ob Y):Ob Y:=z C
theorem FA(L:Nat)(z:Ls)(k:KK Y):(cW 0 (dN (cC ky (kF L) 0 L ES) (eo 0 (CF.res cf_ref29_Back) k))) (.exit 0) (wP z)=zg L z (λC=>k (V.gs 38 C) []):=by kernel_rfl
def je(L:Nat)(z:Ls->Ob Y):Nat->Ls->Int->Ls->Int->Ob Y
 | 0,_,_,_,_=>none
 | n+1,C,D,E,F=>lz L C D E F (λC D E F=>je L z n C D E F) z
theorem xv(L:Nat)(K:KT Y):∀ (n:Nat) (C:Ls) (D:Int) (z:Ls) (E:Int),dX (cC ky (kF L) 0 L tF) va n (m5 C D z E) K=je L (λz=>K (.exit 0) (wP z)) n C D z E:=by
 intro n; induction n <;> intros
 ·rfl
 ·exact (Ht ..).trans (by simp only [*]; rfl)
def yH(L:Nat)(C:Ls)(D:Int)(z:Ls->Ob Y):Ob Y:=C4 L C D (λC D E F=>je L (λE=>zg L E z) L C D E F)
theorem PP(L:Nat)(z:Ls)(C:Int)(k:KK Y):dj ky (kF L) L cf_ref29_Back [(V.sl 38 z),(QQe C)] [] k=yH L z C (λz=>k (V.gs 38 z) []):=by
 refine (Qh L z C k).trans ?_
 unfold yH
 first
  | (simp only [xv,FA]; done)
  | (simp only [xv]; rfl)
abbrev iK:=∀ (Y:Type),Nat->Ls->Int->(Ls->Ob Y)->Ob Y
def dy:iK:=λY=>@yH Y
def Dq(dy:iK)(L:Nat):Dk:=dA (AL 38) λz=>dA (AI .i64) λC=>d0 λY k=>dy Y L z C (λz=>k (V.gs 38 z) [])
theorem PI(L:Nat):DK (Dq dy L) (λ_=>dj ky (kF L) L cf_ref29_Back):=dk ik λz=>dk gm λC=>fC λ_ k=>PP L z C k
def cf_ref30_Rewind:CF:=cfD Cl 24
def oU:CC:=eS [1,1,1,1,0,1,0,0] cf_ref30_Rewind.body
def zb:CC:=eS [1,1,1,1,1] cf_ref30_Rewind.body
def jq:Nat->Sh:=fP [(33,(.int .i64)),(41,(.int .i64)),(47,(.sl 38))]
def jv(cF:fy)(cd:dS)(ca:dW)(dy:iK)(L:Nat):CBC:=(d6 797 (Dq dy L) (d6 829 (pU ca L) (d6 831 (yk cd L) (d6 817 (rj cF L) noC))))
def po:St->St:=fF 0 (bl 214 52) (bl 4494769172512767 52)
def lh(I J:Int)(M:List V)(D E:Ls)(z C:Nat)(F H:List V):St:=⟨(jn 1 ((QQe I)::((V.ptr 2 0)::(jn 1 ((V.ptr 4 0)::(jn 1 ((V.ptr 6 0)::((QQe J)::(jn 44 []))))))))),(gn 2 ((.live true M)::(gn 1 ((.live false [(V.gs 3 D),(V.gs 38 E)])::(gn 1 ((.live false [(V.own 10 0 z 3),(V.own 14 0 C 38)])::(gn 3 ((.live true F)::(gn 3 ((.live true H)::(gn 37 [])))))))))))⟩
def sW(I:Int)(J:List V)(D E:Ls)(z C:Nat)(F H:List V):St:=⟨(jn 1 ((QQe I)::((V.ptr 2 0)::(jn 1 ((V.ptr 4 0)::(jn 1 ((V.ptr 6 0)::(jn 45 [])))))))),(gn 2 ((.live true J)::(gn 1 ((.live false [(V.gs 3 D),(V.gs 38 E)])::(gn 1 ((.live false [(V.own 10 0 z 3),(V.own 14 0 C 38)])::(gn 3 ((.live true F)::(gn 3 ((.live true H)::(gn 37 [])))))))))))⟩
abbrev vA(Y:Type):Type:=Int->Int->List V->Ls->Ls->Nat->Nat->List V->List V->Ob Y
abbrev wD(Y:Type):Type:=Int->List V->Ls->Ls->Nat->Nat->List V->List V->Ob Y
def pM(cF:fy)(cd:dS)(ca:dW)(dy:iK)(L:Nat)(D:List V)(E:Int)(C:List V->Int->Ob Y)(z:vA Y):Ob Y:=chk (0+2<=(WcJ D)) (cF Y L (WbO V.ag (WcK 2 D)) (λF=>ifb (!F) (C [(V.sl 3 ([]:Ls)),(V.sl 38 ([]:Ls))] (6:Int)) (cd Y L E (0:Int) (16777216:Int) (λH=>ifb (!H) (C [(V.sl 3 ([]:Ls)),(V.sl 38 ([]:Ls))] (5:Int)) (chk (0+2<=(WcJ D)) (ca Y L (WbO V.ag (WcK 2 D)) (λI J M N=>z E (0:Int) D ([]:Ls) ([]:Ls) I J M N)))))))
theorem Mu(cF:fy)(cd:dS)(ca:dW)(dy:iK)(L:Nat)(J:List V)(z:Int)(k:KK Y):dj jq (jv cF cd ca dy L) L cf_ref30_Rewind [(V.agg J),(QQe z)] [] k=pM cF cd ca dy L J z (λE F=>k (V.ah [(V.agg E),(QQe F)]) []) (λz O P H I C D M N=>dX (cC jq (jv cF cd ca dy L) 0 L oU) po L (lh z O P H I C D M N) (cW 0 (dN (cC jq (jv cF cd ca dy L) 0 L zb) (eo 0 (CF.res cf_ref30_Rewind) k)))):=by kernel_rfl
def mH(cF:fy)(cd:dS)(ca:dW)(dy:iK)(L:Nat)(M C:Int)(O:List V)(H I:Ls)(z F:Nat)(E J:List V)(D:vA Y)(N:wD Y):Ob Y:=ifb (decide (C<((z:Nat):Int))) (chk (0<=C/\C<((z:Nat):Int)) (cI .i64 E ((0+((WcL C)*3))+2) λS=>lt (JR S M) λT=>chk (0<=C/\C<((z:Nat):Int)) (cI .i64 E ((0+((WcL C)*3))+1) λU=>lt (Wbf .i64 ((U:Int)-(1:Int))) λc9=>lt (Wj T c9) λP=>chk (0<=C/\C<((z:Nat):Int)) (chk (1=1/\((0+((WcL C)*3))+2)+1<=(WcJ E)) (lt (cD E ((0+((WcL C)*3))+2) [(QQe P)]) λQ=>lt (Wbf .i64 ((C:Int)+(1:Int))) λR=>D M R O H I z F Q J))))) (N M O H I z F E J)
theorem DX(cF:fy)(cd:dS)(ca:dW)(dy:iK)(L:Nat)(I M:Int)(J:List V)(D E:Ls)(z C:Nat)(F H:List V)(X:St->Ob Y)(K:KT Y):cC jq (jv cF cd ca dy L) 0 L oU (lh I M J D E z C F H) (fO po X K)=mH cF cd ca dy L I M J D E z C F H (λI M J D E z C F H=>X (lh I M J D E z C F H)) (λI J D E z C F H=>K (.exit 0) (sW I J D E z C F H)):=by kernel_rfl
def n7(cF:fy)(cd:dS)(ca:dW)(dy:iK)(L:Nat)(I:Int)(J:List V)(M N:Ls)(z H:Nat)(D O:List V)(C:List V->Int->Ob Y):Ob Y:=cLd 38 J 1 λE=>dy Y L E I (λF=>C [(V.sl 3 (cz 3 z D)),(V.sl 38 F)] (0:Int))
theorem BQ(cF:fy)(cd:dS)(ca:dW)(dy:iK)(L:Nat)(M:Int)(N:List V)(D E:Ls)(z C:Nat)(F H:List V)(k:KK Y):(cW 0 (dN (cC jq (jv cF cd ca dy L) 0 L zb) (eo 0 (CF.res cf_ref30_Rewind) k))) (.exit 0) (sW M N D E z C F H)=n7 cF cd ca dy L M N D E z C F H (λI J=>k (V.ah [(V.agg I),(QQe J)]) []):=by kernel_rfl
def jF(cF:fy)(cd:dS)(ca:dW)(dy:iK)(L:Nat)(F:wD Y):Nat->Int->Int->List V->Ls->Ls->Nat->Nat->List V->List V->Ob Y
 | 0,_,_,_,_,_,_,_,_,_=>none
 | n+1,J,M,N,D,E,z,C,H,I=>mH cF cd ca dy L J M N D E z C H I (λJ M N D E z C H I=>jF cF cd ca dy L F n J M N D E z C H I) F
theorem tC(cF:fy)(cd:dS)(ca:dW)(dy:iK)(L:Nat)(K:KT Y):∀ (n:Nat) (I M:Int) (J:List V) (D E:Ls) (z C:Nat) (F H:List V),dX (cC jq (jv cF cd ca dy L) 0 L oU) po n (lh I M J D E z C F H) K=jF cF cd ca dy L (λI J D E z C F H=>K (.exit 0) (sW I J D E z C F H)) n I M J D E z C F H:=by
 intro n; induction n <;> intros
 ·rfl
 ·exact (DX ..).trans (by simp only [*]; rfl)
def ny(cF:fy)(cd:dS)(ca:dW)(dy:iK)(L:Nat)(N:List V)(H:Int)(F:List V->Int->Ob Y):Ob Y:=pM cF cd ca dy L N H F (λH O M D E z C I J=>jF cF cd ca dy L (λH M D E z C I J=>n7 cF cd ca dy L H M D E z C I J F) L H O M D E z C I J)
theorem Mp(cF:fy)(cd:dS)(ca:dW)(dy:iK)(L:Nat)(z:List V)(C:Int)(k:KK Y):dj jq (jv cF cd ca dy L) L cf_ref30_Rewind [(V.agg z),(QQe C)] [] k=ny cF cd ca dy L z C (λD E=>k (V.ah [(V.agg D),(QQe E)]) []):=by
 refine (Mu cF cd ca dy L z C k).trans ?_
 unfold ny
 first
  | (simp only [tC,BQ]; done)
  | (simp only [tC]; rfl)
abbrev gN:=∀ (Y:Type),Nat->List V->Int->(List V->Int->Ob Y)->Ob Y
def cS:gN:=λY=>@ny Y cF cd ca dy
def Ab(cS:gN)(L:Nat):Dk:=dA AG λD=>dA (AI .i64) λE=>d0 λY k=>cS Y L D E (λz C=>k (V.ah [(V.agg z),(QQe C)]) [])
theorem L9(L:Nat):DK (Ab cS L) (λ_=>dj jq (jv cF cd ca dy L) L cf_ref30_Rewind):=dk fN λz=>dk gm λC=>fC λ_ k=>Mp cF cd ca dy L z C k
def cf_ref30_Reached:CF:=cfD Ba 22
def pE:CC:=eS [1,1,0,1,0,0] cf_ref30_Reached.body
def A4:CC:=eS [1,1,1] cf_ref30_Reached.body
def i4:Nat->Sh:=fP [(7,(.sl 3)),(25,(.sl 3)),(29,(.int .i64)),(16,(.sl 3)),(20,(.int .i64))]
def iU(L:Nat):CBC:=noC
def qD:St->St:=fF 0 (bl 26 31) (bl 2147483391 31)
def lI(z C:Int)(D:List V):St:=⟨(jn 1 ((V.ptr 1 0)::(jn 1 ((QQe z)::((QQe C)::(jn 26 [])))))),(gn 1 ((.live true D)::(gn 29 [])))⟩
def rT(z:Int):St:=⟨(jn 3 ((QQe z)::(jn 27 []))),(gn 31 [])⟩
def xz(L:Nat)(C:List V)(z:Int->Int->List V->Ob Y):Ob Y:=z (-1:Int) (0:Int) C
theorem Lf(L:Nat)(z:List V)(k:KK Y):dj i4 (iU L) L cf_ref30_Reached [(V.agg z)] [] k=xz L z (λC D E=>dX (cC i4 (iU L) 0 L pE) qD L (lI C D E) (cW 0 (dN (cC i4 (iU L) 0 L A4) (eo 0 (CF.res cf_ref30_Reached) k)))):=by kernel_rfl
def qv(L:Nat)(E C:Int)(D:List V)(z:Int->Int->List V->Ob Y)(F:Int->Ob Y):Ob Y:=cLd 3 D 0 λM=>ifb (decide (C<((WcJ M:Nat):Int))) (ifb (decide (E<(0:Int))) (cLd 3 D 0 λN=>idx N C λO=>cI .i64 (WcM 2 O) 0 λP=>lt (Wbf .i64 ((C:Int)+(1:Int))) λQ=>z P Q D) (cLd 3 D 0 λR=>idx R C λS=>cI .i64 (WcM 2 S) 0 λT=>ifb (decide (T<E)) (cLd 3 D 0 λU=>idx U C λc9=>cI .i64 (WcM 2 c9) 0 λH=>lt (Wbf .i64 ((C:Int)+(1:Int))) λI=>z H I D) (lt (Wbf .i64 ((C:Int)+(1:Int))) λJ=>z E J D))) (F E)
theorem Ej(L:Nat)(z C:Int)(D:List V)(X:St->Ob Y)(K:KT Y):cC i4 (iU L) 0 L pE (lI z C D) (fO qD X K)=qv L z C D (λz C D=>X (lI z C D)) (λz=>K (.exit 0) (rT z)):=by kernel_rfl
def vN(L:Nat)(C:Int)(z:Int->Ob Y):Ob Y:=z C
theorem CJ(L:Nat)(z:Int)(k:KK Y):(cW 0 (dN (cC i4 (iU L) 0 L A4) (eo 0 (CF.res cf_ref30_Reached) k))) (.exit 0) (rT z)=vN L z (λC=>k (QQe C) []):=by kernel_rfl
def lk(L:Nat)(z:Int->Ob Y):Nat->Int->Int->List V->Ob Y
 | 0,_,_,_=>none
 | n+1,C,D,E=>qv L C D E (λC D E=>lk L z n C D E) z
theorem uD(L:Nat)(K:KT Y):∀ (n:Nat) (z C:Int) (D:List V),dX (cC i4 (iU L) 0 L pE) qD n (lI z C D) K=lk L (λz=>K (.exit 0) (rT z)) n z C D:=by
 intro n; induction n <;> intros
 ·rfl
 ·exact (Ej ..).trans (by simp only [*]; rfl)
def sI(L:Nat)(D:List V)(z:Int->Ob Y):Ob Y:=xz L D (λC E F=>lk L (λC=>vN L C z) L C E F)
theorem JC(L:Nat)(z:List V)(k:KK Y):dj i4 (iU L) L cf_ref30_Reached [(V.agg z)] [] k=sI L z (λz=>k (QQe z) []):=by
 refine (Lf L z k).trans ?_
 unfold sI
 first
  | (simp only [uD,CJ]; done)
  | (simp only [uD]; rfl)
abbrev de:=∀ (Y:Type),Nat->List V->(Int->Ob Y)->Ob Y
def bO:de:=λY=>@sI Y
def mK(bO:de)(L:Nat):Dk:=dA AG λz=>d0 λY k=>bO Y L z (λz=>k (QQe z) [])
theorem JH(L:Nat):DK (mK bO L) (λ_=>dj i4 (iU L) L cf_ref30_Reached):=dk fN λz=>fC λ_ k=>JC L z k
def cf_ref30_due:CF:=cfD Hj 45
def uJ:CC:=eS [1,1,0,1,0,0] cf_ref30_due.body
def GT:CC:=eS [1,1,1] cf_ref30_due.body
def lg:Nat->Sh:=fP [(7,(.sl 3)),(13,(.sl 3)),(17,(.int .i64)),(23,(.sl 3)),(27,(.sl 1))]
def lw(bO:de)(L:Nat):CBC:=(d6 825 (mK bO L) noC)
def ww:St->St:=fF 0 (bl 26 31) (bl 1341652735 31)
def nX(z:Ls)(C:Int)(D:List V):St:=⟨(jn 1 ((V.ptr 1 0)::(jn 1 ((V.gs 1 z)::((QQe C)::(jn 26 [])))))),(gn 1 ((.live true D)::(gn 29 [])))⟩
def xQ(z:Ls):St:=⟨(jn 3 ((V.gs 1 z)::(jn 27 []))),(gn 31 [])⟩
def FP(bO:de)(L:Nat)(C:List V)(z:Ls->Int->List V->Ob Y):Ob Y:=z ([]:Ls) (0:Int) C
theorem Tn(bO:de)(L:Nat)(z:List V)(k:KK Y):dj lg (lw bO L) L cf_ref30_due [(V.agg z)] [] k=FP bO L z (λC D E=>dX (cC lg (lw bO L) 0 L uJ) ww L (nX C D E) (cW 0 (dN (cC lg (lw bO L) 0 L GT) (eo 0 (CF.res cf_ref30_due) k)))):=by kernel_rfl
def wx(bO:de)(L:Nat)(D:Ls)(E:Int)(C:List V)(z:Ls->Int->List V->Ob Y)(F:Ls->Ob Y):Ob Y:=cLd 3 C 0 λJ=>ifb (decide (E<((WcJ J:Nat):Int))) (cLd 3 C 0 λM=>idx M E λN=>cI .i64 (WcM 2 N) 0 λO=>chk (0+2<=(WcJ C)) (bO Y L (WbO V.ag (WcK 2 C)) (λP=>ifb ((O:Int)==P) (cLd 3 C 0 λQ=>idx Q E λR=>cL 1 R 0 λH=>chk ((WcJ D+WcJ (cz 1 1 [(V.sl 1 H)]))*24<=cy/\WcJ D+WcJ (cz 1 1 [(V.sl 1 H)])<=cy) (lt (D++(cz 1 1 [(V.sl 1 H)])) λS=>lt (Wbf .i64 ((E:Int)+(1:Int))) λT=>z S T C)) (lt (Wbf .i64 ((E:Int)+(1:Int))) λI=>z D I C)))) (F D)
theorem Jb(bO:de)(L:Nat)(z:Ls)(C:Int)(D:List V)(X:St->Ob Y)(K:KT Y):cC lg (lw bO L) 0 L uJ (nX z C D) (fO ww X K)=wx bO L z C D (λz C D=>X (nX z C D)) (λz=>K (.exit 0) (xQ z)):=by kernel_rfl
def tP(bO:de)(L:Nat)(C:Ls)(z:Ls->Ob Y):Ob Y:=z C
theorem GJ(bO:de)(L:Nat)(z:Ls)(k:KK Y):(cW 0 (dN (cC lg (lw bO L) 0 L GT) (eo 0 (CF.res cf_ref30_due) k))) (.exit 0) (xQ z)=tP bO L z (λC=>k (V.gs 1 C) []):=by kernel_rfl
def nK(bO:de)(L:Nat)(z:Ls->Ob Y):Nat->Ls->Int->List V->Ob Y
 | 0,_,_,_=>none
 | n+1,C,D,E=>wx bO L C D E (λC D E=>nK bO L z n C D E) z
theorem zr(bO:de)(L:Nat)(K:KT Y):∀ (n:Nat) (z:Ls) (C:Int) (D:List V),dX (cC lg (lw bO L) 0 L uJ) ww n (nX z C D) K=nK bO L (λz=>K (.exit 0) (xQ z)) n z C D:=by
 intro n; induction n <;> intros
 ·rfl
 ·exact (Jb ..).trans (by simp only [*]; rfl)
def AD(bO:de)(L:Nat)(D:List V)(z:Ls->Ob Y):Ob Y:=FP bO L D (λC E F=>nK bO L (λC=>tP bO L C z) L C E F)
theorem RX(bO:de)(L:Nat)(z:List V)(k:KK Y):dj lg (lw bO L) L cf_ref30_due [(V.agg z)] [] k=AD bO L z (λz=>k (V.gs 1 z) []):=by
 refine (Tn bO L z k).trans ?_
 unfold AD
 first
  | (simp only [zr,GJ]; done)
  | (simp only [zr]; rfl)
abbrev hZ:=∀ (Y:Type),Nat->List V->(Ls->Ob Y)->Ob Y
def dc:hZ:=λY=>@AD Y bO
def AE(dc:hZ)(L:Nat):Dk:=dA AG λz=>d0 λY k=>dc Y L z (λz=>k (V.gs 1 z) [])
theorem S8(L:Nat):DK (AE dc L) (λ_=>dj lg (lw bO L) L cf_ref30_due):=dk fN λz=>fC λ_ k=>RX bO L z k
def IL:CF:=cfD EU 69
def BV:Nat->Sh:=fP []
def BF(L:Nat):CBC:=noC
def DW(L:Nat)(C D:Ls)(z:Bool->Ob Y):Ob Y:=z4 C λE=>z4 D λF=>z (ByteArray.toList E==ByteArray.toList F)
theorem QE(L:Nat)(z C:Ls)(k:KK Y):dj BV (BF L) L IL [(V.sl 1 z),(V.sl 1 C)] [] k=DW L z C (λz=>k (V.sc (.bool z)) []):=by kernel_rfl
abbrev g8:=∀ (Y:Type),Nat->Ls->Ls->(Bool->Ob Y)->Ob Y
def dq:g8:=λY=>@DW Y
def Dr(dq:g8)(L:Nat):Dk:=dA (AL 1) λz=>dA (AL 1) λC=>d0 λY k=>dq Y L z C (λz=>k (V.sc (.bool z)) [])
theorem Qp(L:Nat):DK (Dr dq L) (λ_=>dj BV (BF L) L IL):=dk ik λz=>dk ik λC=>fC λ_ k=>QE L z C k
def cf_ref29_Has:CF:=cfD G0 46
def wL:CC:=eS [1,0,1,0,0] cf_ref29_Has.body
def B5:CC:=eS [1,1] cf_ref29_Has.body
def km:Nat->Sh:=fP [(15,(.sl 1))]
def kq(dq:g8)(L:Nat):CBC:=(d6 130 (Dr dq L) noC)
def xN:St->St:=fF 0 (bl 35 18) (bl 130799 18)
def oH(z C:Ls)(D:Int):St:=⟨((V.sl 1 z)::((V.sl 1 C)::(jn 3 ((QQe D)::(jn 12 []))))),(gn 18 [])⟩
def wG(z:Bool):St:=⟨(jn 4 ((V.sc (.bool z))::(jn 13 []))),(gn 18 [])⟩
def yh:St:=⟨(jn 18 []),(gn 18 [])⟩
def FI(dq:g8)(L:Nat)(C D:Ls)(z:Ls->Ls->Int->Ob Y):Ob Y:=z C D (0:Int)
theorem R5(dq:g8)(L:Nat)(z C:Ls)(k:KK Y):dj km (kq dq L) L cf_ref29_Has [(V.sl 1 z),(V.sl 1 C)] [] k=FI dq L z C (λz C D=>dX (cC km (kq dq L) 0 L wL) xN L (oH z C D) (cW 0 (dN (cC km (kq dq L) 0 L B5) (eo 0 (CF.res cf_ref29_Has) k)))):=by kernel_rfl
def yL(dq:g8)(L:Nat)(D H:Ls)(E:Int)(C:Bool->Ob Y)(z:Ls->Ls->Int->Ob Y)(F:Ob Y):Ob Y:=ifb (decide (E<((WcJ D:Nat):Int))) (idx D E λI=>cL 1 I 0 λJ=>dq Y L J H (λM=>ifb M (C true) (lt (Wbf .i64 ((E:Int)+(1:Int))) λN=>z D H N))) (F)
theorem KV(dq:g8)(L:Nat)(z C:Ls)(D:Int)(X:St->Ob Y)(K:KT Y):cC km (kq dq L) 0 L wL (oH z C D) (fO xN X K)=yL dq L z C D (λE=>K .ret (wG E)) (λz C D=>X (oH z C D)) (K (.exit 0) (yh)):=by kernel_rfl
def tg(dq:g8)(L:Nat)(C:Bool)(z:Bool->Ob Y):Ob Y:=z C
theorem GS(dq:g8)(L:Nat)(z:Bool)(k:KK Y):(cW 0 (dN (cC km (kq dq L) 0 L B5) (eo 0 (CF.res cf_ref29_Has) k))) .ret (wG z)=tg dq L z (λC=>k (V.sc (.bool C)) []):=by kernel_rfl
def uV(dq:g8)(L:Nat)(z:Bool->Ob Y):Ob Y:=z false
theorem Hq(dq:g8)(L:Nat)(k:KK Y):(cW 0 (dN (cC km (kq dq L) 0 L B5) (eo 0 (CF.res cf_ref29_Has) k))) (.exit 0) (yh)=uV dq L (λz=>k (V.sc (.bool z)) []):=by kernel_rfl
def oz(dq:g8)(L:Nat)(z:Bool->Ob Y)(C:Ob Y):Nat->Ls->Ls->Int->Ob Y
 | 0,_,_,_=>none
 | n+1,D,E,F=>yL dq L D E F z (λD E F=>oz dq L z C n D E F) C
theorem Bj(dq:g8)(L:Nat)(K:KT Y):∀ (n:Nat) (z C:Ls) (D:Int),dX (cC km (kq dq L) 0 L wL) xN n (oH z C D) K=oz dq L (λE=>K .ret (wG E)) (K (.exit 0) (yh)) n z C D:=by
 intro n; induction n <;> intros
 ·rfl
 ·exact (KV ..).trans (by simp only [*]; rfl)
def Ar(dq:g8)(L:Nat)(C D:Ls)(z:Bool->Ob Y):Ob Y:=FI dq L C D (λC D E=>oz dq L (λF=>tg dq L F z) (uV dq L z) L C D E)
theorem R7(dq:g8)(L:Nat)(z C:Ls)(k:KK Y):dj km (kq dq L) L cf_ref29_Has [(V.sl 1 z),(V.sl 1 C)] [] k=Ar dq L z C (λz=>k (V.sc (.bool z)) []):=by
 refine (R5 dq L z C k).trans ?_
 unfold Ar
 first
  | (simp only [Bj,GS,Hq]; done)
  | (simp only [Bj]; rfl)
abbrev cZ:=∀ (Y:Type),Nat->Ls->Ls->(Bool->Ob Y)->Ob Y
def bM:cZ:=λY=>@Ar Y dq
def vu(bM:cZ)(L:Nat):Dk:=dA (AL 1) λz=>dA (AL 1) λC=>d0 λY k=>bM Y L z C (λz=>k (V.sc (.bool z)) [])
theorem Te(L:Nat):DK (vu bM L) (λ_=>dj km (kq dq L) L cf_ref29_Has):=dk ik λz=>dk ik λC=>fC λ_ k=>R7 dq L z C k
def y9:CF:=cfD w8 71
def rI:Nat->Sh:=fP []
def sf(cA:fo)(L:Nat):CBC:=(d6 193 (pT cA L) noC)
def tB(cA:fo)(L:Nat)(D:Ls)(C:List V)(z:Ls->Ob Y):Ob Y:=chk (0+32*1<=(WcJ C)) (ifb (List.isEmpty C) (cA Y L D (cz 1 32 C) (λE=>z E)) (cA Y L D (cz 1 32 C) (λF=>z F)))
theorem Gw(cA:fo)(L:Nat)(z:Ls)(C:List V)(k:KK Y):dj rI (sf cA L) L y9 [(V.sl 1 z),(V.agg C)] [] k=tB cA L z C (λz=>k (V.gs 1 z) []):=by kernel_rfl
abbrev mz:=∀ (Y:Type),Nat->Ls->List V->(Ls->Ob Y)->Ob Y
def eZ:mz:=λY=>@tB Y cA
def tq(eZ:mz)(L:Nat):Dk:=dA (AL 1) λz=>dA AG λC=>d0 λY k=>eZ Y L z C (λz=>k (V.gs 1 z) [])
theorem GG(L:Nat):DK (tq eZ L) (λ_=>dj rI (sf cA L) L y9):=dk ik λz=>dk fN λC=>fC λ_ k=>Gw cA L z C k
def cf_ref01_little:CF:=cfD Ch 96
def qU:CC:=eS [1,1,0,1,0,0] cf_ref01_little.body
def Cc:CC:=eS [1,1,1] cf_ref01_little.body
def jy:Nat->Sh:=fP []
def jt(L:Nat):CBC:=noC
def rE:St->St:=fF 0 (bl 3105 24) (bl 16777151 24)
def mj(E:Int)(z:Nat)(C D:Int)(F:List V):St:=⟨((QQd E)::(jn 4 ((V.own 8 0 z 1)::(jn 4 ((QQe C)::((QQe D)::(jn 12 []))))))),(gn 8 ((.live true F)::(gn 15 [])))⟩
def tE(z:Nat)(C:List V):St:=⟨(jn 5 ((V.own 8 0 z 1)::(jn 18 []))),(gn 8 ((.live true C)::(gn 15 [])))⟩
def GC(L:Nat)(D z:Int)(C:Int->Nat->Int->Int->List V->Ob Y):Ob Y:=chk (0<=z/\z<=z/\(WcL z)*1<=cy/\z<=cy) (C D (WcL z) (((WcL z):Nat):Int) (0:Int) (WcN (Wad (WcL z) [(QQa (0:Int))])))
theorem Mt(L:Nat)(z C:Int)(k:KK Y):dj jy (jt L) L cf_ref01_little [(QQd z),(QQe C)] [] k=GC L z C (λz D E F H=>dX (cC jy (jt L) 0 L qU) rE L (mj z D E F H) (cW 0 (dN (cC jy (jt L) 0 L Cc) (eo 0 (CF.res cf_ref01_little) k)))):=by kernel_rfl
def ze(L:Nat)(I:Int)(D:Nat)(E z:Int)(F:List V)(C:Int->Nat->Int->Int->List V->Ob Y)(H:Nat->List V->Ob Y):Ob Y:=ifb (decide (z<E)) (lt (Wbf .i64 (((8:Int):Int)*z)) λJ=>chk (0<=J) (lt (JV .u64 I J) λM=>lt (Wbf .u8 M) λN=>chk (0<=z/\z<((D:Nat):Int)) (chk (1=1/\(0+((WcL z)*1))+1<=(WcJ F)) (lt (cD F (0+((WcL z)*1)) [(QQa N)]) λO=>lt (Wbf .i64 ((z:Int)+(1:Int))) λP=>C I D E P O)))) (H D F)
theorem FC(L:Nat)(F:Int)(z:Nat)(C D:Int)(E:List V)(X:St->Ob Y)(K:KT Y):cC jy (jt L) 0 L qU (mj F z C D E) (fO rE X K)=ze L F z C D E (λF z C D E=>X (mj F z C D E)) (λz E=>K (.exit 0) (tE z E)):=by kernel_rfl
def xe(L:Nat)(C:Nat)(D:List V)(z:Ls->Ob Y):Ob Y:=chk (C≠0∨(WcJ D)=0) (z (cz 1 C D))
theorem DS(L:Nat)(z:Nat)(C:List V)(k:KK Y):(cW 0 (dN (cC jy (jt L) 0 L Cc) (eo 0 (CF.res cf_ref01_little) k))) (.exit 0) (tE z C)=xe L z C (λD=>k (V.fr 1 D) []):=by kernel_rfl
def rW(L:Nat)(z:Nat->List V->Ob Y):Nat->Int->Nat->Int->Int->List V->Ob Y
 | 0,_,_,_,_,_=>none
 | n+1,F,C,D,E,H=>ze L F C D E H (λF C D E H=>rW L z n F C D E H) z
theorem vC(L:Nat)(K:KT Y):∀ (n:Nat) (F:Int) (z:Nat) (D E:Int) (C:List V),dX (cC jy (jt L) 0 L qU) rE n (mj F z D E C) K=rW L (λz C=>K (.exit 0) (tE z C)) n F z D E C:=by
 intro n; induction n <;> intros
 ·rfl
 ·exact (FC ..).trans (by simp only [*]; rfl)
def Ac(L:Nat)(D I:Int)(C:Ls->Ob Y):Ob Y:=GC L D I (λD z F H E=>rW L (λz E=>xe L z E C) L D z F H E)
theorem LX(L:Nat)(z C:Int)(k:KK Y):dj jy (jt L) L cf_ref01_little [(QQd z),(QQe C)] [] k=Ac L z C (λz=>k (V.fr 1 z) []):=by
 refine (Mt L z C k).trans ?_
 unfold Ac
 first
  | (simp only [vC,DS]; done)
  | (simp only [vC]; rfl)
abbrev pC:=∀ (Y:Type),Nat->Int->Int->(Ls->Ob Y)->Ob Y
def fS:pC:=λY=>@Ac Y
def Ah(fS:pC)(L:Nat):Dk:=dA (AI .u64) λz=>dA (AI .i64) λC=>d0 λY k=>fS Y L z C (λz=>k (V.fr 1 z) [])
theorem My(L:Nat):DK (Ah fS L) (λ_=>dj jy (jt L) L cf_ref01_little):=dk gm λz=>dk gm λC=>fC λ_ k=>LX L z C k
def AY:CF:=cfD yF 70
def tf:Nat->Sh:=fP []
def tt(fS:pC)(cA:fo)(L:Nat):CBC:=(d6 193 (pT cA L) (d6 194 (Ah fS L) noC))
def uR(fS:pC)(cA:fo)(L:Nat)(C:Ls)(D:Int)(z:Ls->Ob Y):Ob Y:=lt (Wbf .u64 D) λE=>fS Y L E (4:Int) (λF=>cA Y L C F (λH=>z H))
theorem Hs(fS:pC)(cA:fo)(L:Nat)(z:Ls)(C:Int)(k:KK Y):dj tf (tt fS cA L) L AY [(V.sl 1 z),(QQc C)] [] k=uR fS cA L z C (λz=>k (V.gs 1 z) []):=by kernel_rfl
abbrev mQ:=∀ (Y:Type),Nat->Ls->Int->(Ls->Ob Y)->Ob Y
def fh:mQ:=λY=>@uR Y fS cA
def vn(fh:mQ)(L:Nat):Dk:=dA (AL 1) λz=>dA (AI .u32) λC=>d0 λY k=>fh Y L z C (λz=>k (V.gs 1 z) [])
theorem Ic(L:Nat):DK (vn fh L) (λ_=>dj tf (tt fS cA L) L AY):=dk ik λz=>dk gm λC=>fC λ_ k=>Hs fS cA L z C k
end
end
end Go.Proofs.YtipklgbboecciaaGreat
