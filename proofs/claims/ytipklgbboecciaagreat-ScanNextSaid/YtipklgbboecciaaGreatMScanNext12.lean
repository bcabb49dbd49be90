/- Part 12 of the proof of ScanNext: an abstract machine over plain values, its soundness, and the functions of the program on plain values. -/
import Derived.Test.YtipklgbboecciaaGreatMScanNext11
namespace Go.Proofs.YtipklgbboecciaaGreat
set_option maxRecDepth 100000
set_option linter.unusedVariables false
set_option linter.unusedSimpArgs false
open List renaming length->WcJ,take->WcK,replicate->Wad,map->WbO,drop->WcM,flatten->WcN
open IntKind renaming wrap->Wbf
open Int renaming toNat->WcL
section
noncomputable section
variable {Y:Type}
def cf_ref03_Pad:CF:=cfD GY 151
def tP:CC:=eS [1,1,1,0,1,0,0] cf_ref03_Pad.body
def wu:CC:=eS [1,1,0,0,0] cf_ref03_Pad.body
def EG:CC:=eS [1,1,1,1] cf_ref03_Pad.body
def zT:CC:=eS [1,1,1] cf_ref03_Pad.body
def gR:Nat->Sh:=fQ []
def gW(L:Nat):CBC:=noC
def ym:St->St:=fF 0 (bl 9 31) (bl 2147385087 31)
def uK:St->St:=fF 0 (bl 25 31) (bl 1342177279 31)
def oK(z:Int)(C:Ls):St:=⟨((QQd z)::(jn 2 ((V.gs 1 C)::(jn 27 [])))),(gn 31 [])⟩
def sq(z:Int)(C:Ls):St:=⟨((QQd z)::(jn 2 ((V.gs 1 C)::(jn 27 [])))),(gn 31 [])⟩
def nh(z:Int)(C:Ls)(D:Int):St:=⟨((QQd z)::(jn 2 ((V.gs 1 C)::((QQe D)::(jn 26 []))))),(gn 31 [])⟩
def yT(z:Ls):St:=⟨(jn 3 ((V.gs 1 z)::(jn 27 []))),(gn 31 [])⟩
def F8(L:Nat)(C:Int)(z:Int->Ls->Ob Y):Ob Y:=z C (cz 1 1 [(QQa (128:Int))])
theorem RY(L:Nat)(z:Int)(k:KK Y):dj gR (gW L) L cf_ref03_Pad [(QQd z)] [] k=F8 L z (λz C=>dX (cC gR (gW L) 0 L wu) ym L (oK z C) (cW 0 (dN (cC gR (gW L) 0 L zT) (eo 0 (CF.res cf_ref03_Pad) k)))):=by kernel_rfl
def yy(L:Nat)(D:Int)(C:Ls)(z:Int->Ls->Ob Y)(E:Int->Ls->Ob Y):Ob Y:=lt (Wbf .u64 ((WcJ C:Nat):Int)) λF=>lt (Wbf .u64 ((D:Int)+F)) λH=>lt (Wbf .u64 ((H:Int)+(8:Int))) λI=>lt (Int.tmod I (64:Int)) λJ=>ifb ((J:Int) != (0:Int)) (chk ((WcJ C+WcJ (cz 1 1 [(QQa (0:Int))]))*1<=cy/\WcJ C+WcJ (cz 1 1 [(QQa (0:Int))])<=cy) (lt (C++(cz 1 1 [(QQa (0:Int))])) λM=>z D M)) (E D C)
theorem Lq(L:Nat)(z:Int)(C:Ls)(X:St->Ob Y)(K:KT Y):cC gR (gW L) 0 L wu (oK z C) (fO ym X K)=yy L z C (λz C=>X (oK z C)) (λz C=>K (.exit 0) (sq z C)):=by kernel_rfl
def uP(L:Nat)(C:Int)(D:Ls)(z:Int->Ls->Int->Ob Y):Ob Y:=z C D (7:Int)
theorem Ic(L:Nat)(z:Int)(C:Ls)(k:KK Y):(cW 0 (dN (cC gR (gW L) 0 L zT) (eo 0 (CF.res cf_ref03_Pad) k))) (.exit 0) (sq z C)=uP L z C (λz C D=>dX (cC gR (gW L) 0 L tP) uK L (nh z C D) (cW 2 (dN (cC gR (gW L) 0 L EG) (eo 0 (CF.res cf_ref03_Pad) k)))):=by kernel_rfl
def mS(L:Nat)(H:Int)(C:Ls)(D:Int)(z:Int->Ls->Int->Ob Y)(E:Ls->Ob Y):Ob Y:=ifb (decide (D>=(0:Int))) (lt (Wbf .u64 (((8:Int):Int)*H)) λM=>lt (Wbf .i64 (((8:Int):Int)*D)) λI=>chk (0<=I) (lt (JI .u64 M I) λN=>lt (Wbf .u8 N) λF=>chk ((WcJ C+WcJ (cz 1 1 [(QQa F)]))*1<=cy/\WcJ C+WcJ (cz 1 1 [(QQa F)])<=cy) (lt (C++(cz 1 1 [(QQa F)])) λO=>lt (Wbf .i64 ((D:Int)-(1:Int))) λJ=>z H O J))) (E C)
theorem Ht(L:Nat)(C:Int)(z:Ls)(D:Int)(X:St->Ob Y)(K:KT Y):cC gR (gW L) 0 L tP (nh C z D) (fO uK X K)=mS L C z D (λC z D=>X (nh C z D)) (λz=>K (.exit 2) (yT z)):=by kernel_rfl
def rJ(L:Nat)(C:Ls)(z:Ls->Ob Y):Ob Y:=z C
theorem FW(L:Nat)(z:Ls)(k:KK Y):(cW 2 (dN (cC gR (gW L) 0 L EG) (eo 0 (CF.res cf_ref03_Pad) k))) (.exit 2) (yT z)=rJ L z (λC=>k (V.gs 1 C) []):=by kernel_rfl
def oz(L:Nat)(z:Int->Ls->Ob Y):Nat->Int->Ls->Ob Y
 | 0,_,_=>none
 | n+1,C,D=>yy L C D (λC D=>oz L z n C D) z
theorem A5(L:Nat)(K:KT Y):∀ (n:Nat) (z:Int) (C:Ls),dX (cC gR (gW L) 0 L wu) ym n (oK z C) K=oz L (λz C=>K (.exit 0) (sq z C)) n z C:=by
 intro n; induction n <;> intros
 ·rfl
 ·exact (Lq ..).trans (by simp only [*]; rfl)
def lz(L:Nat)(z:Ls->Ob Y):Nat->Int->Ls->Int->Ob Y
 | 0,_,_,_=>none
 | n+1,C,D,E=>mS L C D E (λC D E=>lz L z n C D E) z
theorem yY(L:Nat)(K:KT Y):∀ (n:Nat) (C:Int) (z:Ls) (D:Int),dX (cC gR (gW L) 0 L tP) uK n (nh C z D) K=lz L (λz=>K (.exit 2) (yT z)) n C z D:=by
 intro n; induction n <;> intros
 ·rfl
 ·exact (Ht ..).trans (by simp only [*]; rfl)
def om(L:Nat)(D:Int)(z:Ls)(C:Ls->Ob Y):Ob Y:=uP L D z (λD z E=>lz L (λz=>rJ L z C) L D z E)
theorem Gv(L:Nat)(z:Int)(C:Ls)(k:KK Y):(cW 0 (dN (cC gR (gW L) 0 L zT) (eo 0 (CF.res cf_ref03_Pad) k))) (.exit 0) (sq z C)=om L z C (λz=>k (V.gs 1 z) []):=by
 refine (Ic L z C k).trans ?_
 unfold om
 first
  | (simp only [yY,FW]; done)
  | (simp only [yY]; rfl)
def Ax(L:Nat)(z:Int)(C:Ls->Ob Y):Ob Y:=F8 L z (λz D=>oz L (λz D=>om L z D C) L z D)
theorem SM(L:Nat)(z:Int)(k:KK Y):dj gR (gW L) L cf_ref03_Pad [(QQd z)] [] k=Ax L z (λz=>k (V.gs 1 z) []):=by
 refine (RY L z k).trans ?_
 unfold Ax
 first
  | (simp only [A5,Gv]; done)
  | (simp only [A5]; rfl)
abbrev Nl:=∀ (Y:Type),Nat->Int->(Ls->Ob Y)->Ob Y
def oX:Nl:=λY=>@Ax Y
def M7(oX:Nl)(L:Nat):Dk:=dA (AI .u64) λz=>d0 λY k=>oX Y L z (λz=>k (V.gs 1 z) [])
theorem Sf(L:Nat):DK (M7 oX L) (λ_=>dj gR (gW L) L cf_ref03_Pad):=dl gm λz=>fy λ_ k=>SM L z k
abbrev eX:=∀ (Y:Type),Nat->List V->List V->List V->(Int->Ob Y)->Ob Y
def cj:eX:=λY L z C D kf=>opD (cN rows) 300 476 L Y [(V.agg z),(V.agg C),(V.agg D)] [] λv _=>(AI .i64) Y v λp=>kf p
def BL(cj:eX)(L:Nat):Dk:=dA AG λz=>dA AG λC=>dA AG λD=>d0 λY k=>cj Y L z C D (λE=>k (QQe E) [])
theorem NS(L:Nat):DK (BL cj L) (opD (cN rows) 300 476 L):=dl fN λz=>dl fN λC=>dl fN λD=>Aq gm [(V.agg z),(V.agg C),(V.agg D)] λ_ _ _=>rfl
abbrev fi:=∀ (Y:Type),Nat->List V->(List V->Ob Y)->Ob Y
def co:fi:=λY L z kf=>opD (cN rows) 300 429 L Y [(V.agg z)] [] λv _=>AG Y v λp=>kf p
def DM(co:fi)(L:Nat):Dk:=dA AG λz=>d0 λY k=>co Y L z (λC=>k (V.agg C) [])
theorem RG(L:Nat):DK (DM co L) (opD (cN rows) 300 429 L):=dl fN λz=>Aq fN [(V.agg z)] λ_ _ _=>rfl
abbrev eg:=∀ (Y:Type),Nat->List V->Int->(Int->Ob Y)->Ob Y
def bW:eg:=λY L z C kf=>opD (cN rows) 300 472 L Y [(V.agg z),(QQe C)] [] λv _=>(AI .i64) Y v λp=>kf p
def y4(bW:eg)(L:Nat):Dk:=dA AG λz=>dA (AI .i64) λC=>d0 λY k=>bW Y L z C (λD=>k (QQe D) [])
theorem J6(L:Nat):DK (y4 bW L) (opD (cN rows) 300 472 L):=dl fN λz=>dl gm λC=>Aq gm [(V.agg z),(QQe C)] λ_ _ _=>rfl
def cf_ref23_find:CF:=cfD ET 114
def va:CC:=eS [1,0,1,0,0] cf_ref23_find.body
def zO:CC:=eS [1,1] cf_ref23_find.body
def jQ:Nat->Sh:=fQ []
def jT(L:Nat):CBC:=noC
def wE:St->St:=fF 0 (bl 393 20) (bl 1048527 20)
def nS(z:Ls)(C D:Int)(E:List V):St:=⟨((V.sl 37 z)::(jn 2 ((V.ptr 3 0)::(jn 3 ((QQe C)::((QQe D)::(jn 11 []))))))),(gn 3 ((.live true E)::(gn 16 [])))⟩
def vb(z:Int):St:=⟨(jn 4 ((QQe z)::(jn 15 []))),(gn 20 [])⟩
def wv:St:=⟨(jn 20 []),(gn 20 [])⟩
def Db(L:Nat)(C:Ls)(D:List V)(z:Ls->Int->Int->List V->Ob Y):Ob Y:=z C ((WcJ C:Nat):Int) (0:Int) D
theorem PQ(L:Nat)(z:Ls)(C:List V)(k:KK Y):dj jQ (jT L) L cf_ref23_find [(V.sl 37 z),(V.agg C)] [] k=Db L z C (λz D E F=>dX (cC jQ (jT L) 0 L va) wE L (nS z D E F) (cW 0 (dN (cC jQ (jT L) 0 L zO) (eo 0 (CF.res cf_ref23_find) k)))):=by kernel_rfl
def wz(L:Nat)(H:Ls)(I C:Int)(E:List V)(D:Int->Ob Y)(z:Ls->Int->Int->List V->Ob Y)(F:Ob Y):Ob Y:=ifb (decide (C<I)) (idx H C λJ=>chk (0+33<=(WcJ E)) (eqC 33 (WcK 33 J) (WcK 33 E) λM=>ifb M (D C) (lt (Wbf .i64 ((C:Int)+(1:Int))) λN=>z H I N E))) (F)
theorem Jn(L:Nat)(z:Ls)(C D:Int)(E:List V)(X:St->Ob Y)(K:KT Y):cC jQ (jT L) 0 L va (nS z C D E) (fO wE X K)=wz L z C D E (λF=>K .ret (vb F)) (λz C D E=>X (nS z C D E)) (K (.exit 0) (wv)):=by kernel_rfl
def nQ(L:Nat)(C:Int)(z:Int->Ob Y):Ob Y:=z C
theorem FG(L:Nat)(z:Int)(k:KK Y):(cW 0 (dN (cC jQ (jT L) 0 L zO) (eo 0 (CF.res cf_ref23_find) k))) .ret (vb z)=nQ L z (λC=>k (QQe C) []):=by kernel_rfl
def oL(L:Nat)(z:Int->Ob Y):Ob Y:=z (-1:Int)
theorem G4(L:Nat)(k:KK Y):(cW 0 (dN (cC jQ (jT L) 0 L zO) (eo 0 (CF.res cf_ref23_find) k))) (.exit 0) (wv)=oL L (λz=>k (QQe z) []):=by kernel_rfl
def nH(L:Nat)(z:Int->Ob Y)(C:Ob Y):Nat->Ls->Int->Int->List V->Ob Y
 | 0,_,_,_,_=>none
 | n+1,D,E,F,H=>wz L D E F H z (λD E F H=>nH L z C n D E F H) C
theorem zp(L:Nat)(K:KT Y):∀ (n:Nat) (z:Ls) (C D:Int) (E:List V),dX (cC jQ (jT L) 0 L va) wE n (nS z C D E) K=nH L (λF=>K .ret (vb F)) (K (.exit 0) (wv)) n z C D E:=by
 intro n; induction n <;> intros
 ·rfl
 ·exact (Jn ..).trans (by simp only [*]; rfl)
def yo(L:Nat)(C:Ls)(D:List V)(z:Int->Ob Y):Ob Y:=Db L C D (λC E F H=>nH L (λI=>nQ L I z) (oL L z) L C E F H)
theorem Pj(L:Nat)(z:Ls)(C:List V)(k:KK Y):dj jQ (jT L) L cf_ref23_find [(V.sl 37 z),(V.agg C)] [] k=yo L z C (λz=>k (QQe z) []):=by
 refine (PQ L z C k).trans ?_
 unfold yo
 first
  | (simp only [zp,FG,G4]; done)
  | (simp only [zp]; rfl)
abbrev dq:=∀ (Y:Type),Nat->Ls->List V->(Int->Ob Y)->Ob Y
def bP:dq:=λY=>@yo Y
def xt(bP:dq)(L:Nat):Dk:=dA (AL 37) λz=>dA AG λC=>d0 λY k=>bP Y L z C (λz=>k (QQe z) [])
theorem PW(L:Nat):DK (xt bP L) (λ_=>dj jQ (jT L) L cf_ref23_find):=dl im λz=>dl fN λC=>fy λ_ k=>Pj L z C k
def Fi:CF:=cfD B9 95
def xu:Nat->Sh:=fQ []
def xx(L:Nat):CBC:=noC
def uq(L:Nat)(z C:Ls)(D:Ls->Ob Y):Ob Y:=lt (Wbf .i64 ((((WcJ z:Nat):Int):Int)+((WcJ C:Nat):Int))) λE=>chk (0<=(0:Int)/\(0:Int)<=E/\(WcL E)*1<=cy/\E<=cy) (chk ((WcJ (Wad 0 [(QQa (0:Int))])+WcJ z)*1<=cy/\WcJ (Wad 0 [(QQa (0:Int))])+WcJ z<=cy) (lt ((Wad 0 [(QQa (0:Int))])++z) λF=>chk ((WcJ F+WcJ C)*1<=cy/\WcJ F+WcJ C<=cy) (lt (F++C) λH=>D H)))
theorem Mn(L:Nat)(z C:Ls)(k:KK Y):dj xu (xx L) L Fi [(V.sl 1 z),(V.sl 1 C)] [] k=uq L z C (λz=>k (V.gs 1 z) []):=by kernel_rfl
abbrev fm:=∀ (Y:Type),Nat->Ls->Ls->(Ls->Ob Y)->Ob Y
def cA:fm:=λY=>@uq Y
def pR(cA:fm)(L:Nat):Dk:=dA (AL 1) λz=>dA (AL 1) λC=>d0 λY k=>cA Y L z C (λz=>k (V.gs 1 z) [])
theorem Ms(L:Nat):DK (pR cA L) (λ_=>dj xu (xx L) L Fi):=dl im λz=>dl im λC=>fy λ_ k=>Mn L z C k
def cf_ref01_Join:CF:=cfD EQ 157
def ti:CC:=eS [1,1,0,1,0,0] cf_ref01_Join.body
def Eo:CC:=eS [1,1,1] cf_ref01_Join.body
def ku:Nat->Sh:=fQ [(11,(.sl 1))]
def ky(cA:fm)(L:Nat):CBC:=(d6 193 (pR cA L) noC)
def uS:St->St:=fF 0 (bl 456 17) (bl 114655 17)
def mW(z C:Ls)(D E:Int):St:=⟨(jn 3 ((V.gs 1 z)::(jn 2 ((V.sl 1 C)::((QQe D)::((QQe E)::(jn 8 []))))))),(gn 17 [])⟩
def wB(z:Ls):St:=⟨(jn 3 ((V.gs 1 z)::(jn 13 []))),(gn 17 [])⟩
def DB(cA:fm)(L:Nat)(C:Ls)(z:Ls->Ls->Int->Int->Ob Y):Ob Y:=z ([]:Ls) C ((WcJ C:Nat):Int) (0:Int)
theorem PZ(cA:fm)(L:Nat)(z:Ls)(k:KK Y):dj ku (ky cA L) L cf_ref01_Join [(V.sl 1 z)] [] k=DB cA L z (λC D E F=>dX (cC ku (ky cA L) 0 L ti) uS L (mW C D E F) (cW 0 (dN (cC ku (ky cA L) 0 L Eo) (eo 0 (CF.res cf_ref01_Join) k)))):=by kernel_rfl
def uQ(cA:fm)(L:Nat)(E F:Ls)(H C:Int)(z:Ls->Ls->Int->Int->Ob Y)(D:Ls->Ob Y):Ob Y:=ifb (decide (C<H)) (idx F C λI=>cL 1 I 0 λJ=>cA Y L E J (λM=>lt (Wbf .i64 ((C:Int)+(1:Int))) λN=>z M F H N)) (D E)
theorem Hw(cA:fm)(L:Nat)(z C:Ls)(D E:Int)(X:St->Ob Y)(K:KT Y):cC ku (ky cA L) 0 L ti (mW z C D E) (fO uS X K)=uQ cA L z C D E (λz C D E=>X (mW z C D E)) (λz=>K (.exit 0) (wB z)):=by kernel_rfl
def zl(cA:fm)(L:Nat)(C:Ls)(z:Ls->Ob Y):Ob Y:=z C
theorem Gf(cA:fm)(L:Nat)(z:Ls)(k:KK Y):(cW 0 (dN (cC ku (ky cA L) 0 L Eo) (eo 0 (CF.res cf_ref01_Join) k))) (.exit 0) (wB z)=zl cA L z (λC=>k (V.gs 1 C) []):=by kernel_rfl
def pi(cA:fm)(L:Nat)(z:Ls->Ob Y):Nat->Ls->Ls->Int->Int->Ob Y
 | 0,_,_,_,_=>none
 | n+1,C,D,E,F=>uQ cA L C D E F (λC D E F=>pi cA L z n C D E F) z
theorem yE(cA:fm)(L:Nat)(K:KT Y):∀ (n:Nat) (z C:Ls) (D E:Int),dX (cC ku (ky cA L) 0 L ti) uS n (mW z C D E) K=pi cA L (λz=>K (.exit 0) (wB z)) n z C D E:=by
 intro n; induction n <;> intros
 ·rfl
 ·exact (Hw ..).trans (by simp only [*]; rfl)
def xP(cA:fm)(L:Nat)(D:Ls)(z:Ls->Ob Y):Ob Y:=DB cA L D (λC E F H=>pi cA L (λC=>zl cA L C z) L C E F H)
theorem Pc(cA:fm)(L:Nat)(z:Ls)(k:KK Y):dj ku (ky cA L) L cf_ref01_Join [(V.sl 1 z)] [] k=xP cA L z (λz=>k (V.gs 1 z) []):=by
 refine (PZ cA L z k).trans ?_
 unfold xP
 first
  | (simp only [yE,Gf]; done)
  | (simp only [yE]; rfl)
abbrev tL:=∀ (Y:Type),Nat->Ls->(Ls->Ob Y)->Ob Y
def f5:tL:=λY=>@xP Y cA
def DC(f5:tL)(L:Nat):Dk:=dA (AL 1) λz=>d0 λY k=>f5 Y L z (λz=>k (V.gs 1 z) [])
theorem O3(L:Nat):DK (DC f5 L) (λ_=>dj ku (ky cA L) L cf_ref01_Join):=dl im λz=>fy λ_ k=>Pc cA L z k
def B8:CF:=cfD zo 139
def u6:Nat->Sh:=fQ [(1,(.row [(.int .u8),(.int .u8),(.int .u8),(.int .u8),(.int .u8),(.int .u8),(.int .u8),(.int .u8),(.int .u8),(.int .u8),(.int .u8),(.int .u8),(.int .u8),(.int .u8),(.int .u8),(.int .u8),(.int .u8),(.int .u8),(.int .u8),(.int .u8),(.int .u8),(.int .u8),(.int .u8),(.int .u8),(.int .u8),(.int .u8),(.int .u8),(.int .u8),(.int .u8),(.int .u8),(.int .u8),(.int .u8),(.int .u32),(.int .i64),(.sl 1),(.int .i64),.bool]))]
def vd(f5:tL)(L:Nat):CBC:=(d6 453 (DC f5 L) noC)
def DR(f5:tL)(L:Nat)(z:List V)(C:List V->Ob Y):Ob Y:=chk (WcJ z=37) (cI .u8 z 0 λv0=>cI .u8 z 1 λv1=>cI .u8 z 2 λv2=>cI .u8 z 3 λv3=>cI .u8 z 4 λv4=>cI .u8 z 5 λv5=>cI .u8 z 6 λv6=>cI .u8 z 7 λv7=>cI .u8 z 8 λv8=>cI .u8 z 9 λv9=>cI .u8 z 10 λE=>cI .u8 z 11 λF=>cI .u8 z 12 λH=>cI .u8 z 13 λI=>cI .u8 z 14 λJ=>cI .u8 z 15 λM=>cI .u8 z 16 λN=>cI .u8 z 17 λO=>cI .u8 z 18 λP=>cI .u8 z 19 λQ=>cI .u8 z 20 λR=>cI .u8 z 21 λS=>cI .u8 z 22 λT=>cI .u8 z 23 λU=>cI .u8 z 24 λc9=>cI .u8 z 25 λX=>cI .u8 z 26 λc8=>cI .u8 z 27 λb9=>cI .u8 z 28 λaa=>cI .u8 z 29 λab=>cI .u8 z 30 λac=>cI .u8 z 31 λad=>cI .u32 z 32 λag=>cI .i64 z 33 λan=>cL 1 z 34 λao=>cI .i64 z 35 λap=>cB z 36 λaq=>f5 Y L (cz 1 1 [(V.sl 1 ao)]) (λar=>lt [(QQa v0),(QQa v1),(QQa v2),(QQa v3),(QQa v4),(QQa v5),(QQa v6),(QQa v7),(QQa v8),(QQa v9),(QQa E),(QQa F),(QQa H),(QQa I),(QQa J),(QQa M),(QQa N),(QQa O),(QQa P),(QQa Q),(QQa R),(QQa S),(QQa T),(QQa U),(QQa c9),(QQa X),(QQa c8),(QQa b9),(QQa aa),(QQa ab),(QQa ac),(QQa ad),(QQc ag),(QQe an),(V.sl 1 ar),(QQe ap),(V.sc (.bool aq))] λD=>chk (0=0/\(WcJ D)=37/\37≠0) (C D)))
theorem Jc(f5:tL)(L:Nat)(z:List V)(k:KK Y):dj u6 (vd f5 L) L B8 [(V.agg z)] [] k=DR f5 L z (λz=>k (V.agg z) []):=by kernel_rfl
abbrev dQ:=∀ (Y:Type),Nat->List V->(List V->Ob Y)->Ob Y
def bX:dQ:=λY=>@DR Y f5
def ww(bX:dQ)(L:Nat):Dk:=dA AG λz=>d0 λY k=>bX Y L z (λz=>k (V.agg z) [])
theorem I6(L:Nat):DK (ww bX L) (λ_=>dj u6 (vd f5 L) L B8):=dl fN λz=>fy λ_ k=>Jc f5 L z k
def cf_ref23_spent:CF:=cfD Dn 111
def qB:CC:=eS [1,1,1,0,1,0,0] cf_ref23_spent.body
def rW:CC:=eS [1,1,0,1,0,0] cf_ref23_spent.body
def uY:CC:=eS [1,1,1,1] cf_ref23_spent.body
def qr:CC:=eS [1,1,1] cf_ref23_spent.body
def fJ:Nat->Sh:=fQ [(17,(.sl 35)),(45,.bool),(49,(.int .i64)),(52,(.int .i64))]
def fI(bP:dq)(bX:dQ)(L:Nat):CBC:=(d6 441 (ww bX L) (d6 480 (xt bP L) noC))
def tt:St->St:=fF 0 (bl 918554 57) (bl 144115067749616831 57)
def rT:St->St:=fF 0 (bl 1924145349656 57) (bl 144115188075818175 57)
def mI(F:Ls)(H:Int)(z C:Ls)(D E:Int)(I:List V):St:=⟨(jn 1 ((V.sl 37 F)::(jn 1 ((QQe H)::((V.ptr 4 0)::(jn 5 ((V.gs 37 z)::(jn 6 ((V.sl 35 C)::((QQe D)::((QQe E)::(jn 37 [])))))))))))),(gn 4 ((.live true I)::(gn 52 [])))⟩
def kM(z:Ls)(C:Int):St:=⟨(jn 8 ((V.gs 37 z)::((QQe C)::(jn 47 [])))),(gn 57 [])⟩
def pf(C:Int)(z:Ls)(D:List V):St:=⟨(jn 3 ((QQe C)::((V.ptr 4 0)::(jn 5 ((V.gs 37 z)::(jn 46 [])))))),(gn 4 ((.live true D)::(gn 52 [])))⟩
def mi(F:Int)(z C:Ls)(D E:Int)(H:List V):St:=⟨(jn 3 ((QQe F)::((V.ptr 4 0)::(jn 5 ((V.gs 37 z)::(jn 27 ((V.sl 37 C)::((QQe D)::((QQe E)::(jn 16 [])))))))))),(gn 4 ((.live true H)::(gn 52 [])))⟩
def u5(z:Ls):St:=⟨(jn 10 ((V.gs 37 z)::(jn 46 []))),(gn 57 [])⟩
abbrev zg(Y:Type):Type:=Ls->Int->Ls->Ls->Int->Int->List V->Ob Y
abbrev ya(Y:Type):Type:=Int->Ls->Ls->Int->Int->List V->Ob Y
def Bt(bP:dq)(bX:dQ)(L:Nat)(D:List V)(E:Ls)(F:List V)(H:Int)(z:zg Y):Ob Y:=cLd 35 F 1 λC=>z E H ([]:Ls) C ((WcJ C:Nat):Int) (0:Int) D
theorem N2(bP:dq)(bX:dQ)(L:Nat)(D:List V)(z:Ls)(E:List V)(C:Int)(k:KK Y):dj fJ (fI bP bX L) L cf_ref23_spent [(V.agg D),(V.sl 37 z),(V.agg E),(QQe C)] [] k=Bt bP bX L D z E C (λz C F H I J M=>dX (cC fJ (fI bP bX L) 0 L rW) tt L (mI z C F H I J M) (cW 0 (dN (cC fJ (fI bP bX L) 0 L qr) (eo 0 (CF.res cf_ref23_spent) k)))):=by kernel_rfl
def tR(bP:dq)(bX:dQ)(L:Nat)(J:Ls)(N:Int)(C H:Ls)(I D:Int)(O:List V)(E:Ls->Int->Ob Y)(z:zg Y)(M:Int->Ls->List V->Ob Y):Ob Y:=ifb (decide (D<I)) (idx H D λP=>chk ((WcJ (WcK 35 P))=35/\0+35<=35) (lt (cD (Wad 32 (QQa (0:Int))++[(QQc (0:Int)),(QQc (0:Int)),(V.gs 1 ([]:Ls))]) 0 (WcK 35 P)) λQ=>chk (0+33<=(WcJ Q)) (bP Y L J (WcK 33 Q) (λR=>ifb (decide (R<(0:Int))) (E ([]:Ls) (101:Int)) (idx J R λS=>bX Y L (WbO V.ag (WcK 37 S)) (λF=>chk ((WcJ F)=37/\0+37<=37) (chk ((WcJ C+WcJ (cz 37 1 (cD (Wad 32 (QQa (0:Int))++[(QQc (0:Int)),(QQe (0:Int)),(V.sl 1 ([]:Ls)),(QQe (0:Int)),(V.sc (.bool false))]) 0 F)))*88<=cy/\WcJ C+WcJ (cz 37 1 (cD (Wad 32 (QQa (0:Int))++[(QQc (0:Int)),(QQe (0:Int)),(V.sl 1 ([]:Ls)),(QQe (0:Int)),(V.sc (.bool false))]) 0 F))<=cy) (lt (C++(cz 37 1 (cD (Wad 32 (QQa (0:Int))++[(QQc (0:Int)),(QQe (0:Int)),(V.sl 1 ([]:Ls)),(QQe (0:Int)),(V.sc (.bool false))]) 0 F))) λT=>lt (Wbf .i64 ((D:Int)+(1:Int))) λU=>z J N T H I U O)))))))) (M N C O)
theorem Gq(bP:dq)(bX:dQ)(L:Nat)(I:Ls)(F:Int)(z C:Ls)(D E:Int)(H:List V)(X:St->Ob Y)(K:KT Y):cC fJ (fI bP bX L) 0 L rW (mI I F z C D E H) (fO tt X K)=tR bP bX L I F z C D E H (λJ M=>K .ret (kM J M)) (λI F z C D E H=>X (mI I F z C D E H)) (λF z H=>K (.exit 0) (pf F z H)):=by kernel_rfl
def xe(bP:dq)(bX:dQ)(L:Nat)(C:Ls)(D:Int)(z:Ls->Int->Ob Y):Ob Y:=z C D
theorem CY(bP:dq)(bX:dQ)(L:Nat)(D:Ls)(E:Int)(k:KK Y):(cW 0 (dN (cC fJ (fI bP bX L) 0 L qr) (eo 0 (CF.res cf_ref23_spent) k))) .ret (kM D E)=xe bP bX L D E (λz C=>k (V.ah [(V.gs 37 z),(QQe C)]) []):=by kernel_rfl
def qS(bP:dq)(bX:dQ)(L:Nat)(D:Int)(C:Ls)(E:List V)(z:ya Y):Ob Y:=z D C C ((WcJ C:Nat):Int) (0:Int) E
theorem D8(bP:dq)(bX:dQ)(L:Nat)(C:Int)(z:Ls)(D:List V)(k:KK Y):(cW 0 (dN (cC fJ (fI bP bX L) 0 L qr) (eo 0 (CF.res cf_ref23_spent) k))) (.exit 0) (pf C z D)=qS bP bX L C z D (λC z E F H D=>dX (cC fJ (fI bP bX L) 0 L qB) rT L (mi C z E F H D) (cW 2 (dN (cC fJ (fI bP bX L) 0 L uY) (eo 0 (CF.res cf_ref23_spent) k)))):=by kernel_rfl
def nX(bP:dq)(bX:dQ)(L:Nat)(I:Int)(D E:Ls)(F C:Int)(J:List V)(H:Ls->Int->Ob Y)(z:ya Y)(M:Ls->Ob Y):Ob Y:=ifb (decide (C<F)) (idx E C λN=>chk ((WcJ (WcK 37 N))=37/\0+37<=37) (lt (cD (Wad 32 (QQa (0:Int))++[(QQc (0:Int)),(QQe (0:Int)),(V.gs 1 ([]:Ls)),(QQe (0:Int)),(V.sc (.bool false))]) 0 (WcK 37 N)) λO=>cB O 36 λP=>ifb P (cI .i64 O 35 λQ=>lt (Wbf .i64 ((I:Int)-Q)) λR=>cI .i64 J 79 λS=>ifb (decide (R<S)) (H ([]:Ls) (230:Int)) (lt (Wbf .i64 ((C:Int)+(1:Int))) λT=>z I D E F T J)) (lt (Wbf .i64 ((C:Int)+(1:Int))) λU=>z I D E F U J))) (M D)
theorem Ge(bP:dq)(bX:dQ)(L:Nat)(F:Int)(z C:Ls)(D E:Int)(H:List V)(X:St->Ob Y)(K:KT Y):cC fJ (fI bP bX L) 0 L qB (mi F z C D E H) (fO rT X K)=nX bP bX L F z C D E H (λI J=>K .ret (kM I J)) (λF z C D E H=>X (mi F z C D E H)) (λz=>K (.exit 2) (u5 z)):=by kernel_rfl
def oN(bP:dq)(bX:dQ)(L:Nat)(C:Ls)(D:Int)(z:Ls->Int->Ob Y):Ob Y:=z C D
theorem Cq(bP:dq)(bX:dQ)(L:Nat)(D:Ls)(E:Int)(k:KK Y):(cW 2 (dN (cC fJ (fI bP bX L) 0 L uY) (eo 0 (CF.res cf_ref23_spent) k))) .ret (kM D E)=oN bP bX L D E (λz C=>k (V.ah [(V.gs 37 z),(QQe C)]) []):=by kernel_rfl
def pM(bP:dq)(bX:dQ)(L:Nat)(C:Ls)(z:Ls->Int->Ob Y):Ob Y:=z C (0:Int)
theorem DG(bP:dq)(bX:dQ)(L:Nat)(z:Ls)(k:KK Y):(cW 2 (dN (cC fJ (fI bP bX L) 0 L uY) (eo 0 (CF.res cf_ref23_spent) k))) (.exit 2) (u5 z)=pM bP bX L z (λC D=>k (V.ah [(V.gs 37 C),(QQe D)]) []):=by kernel_rfl
def ot(bP:dq)(bX:dQ)(L:Nat)(z:Ls->Int->Ob Y)(C:Int->Ls->List V->Ob Y):Nat->Ls->Int->Ls->Ls->Int->Int->List V->Ob Y
 | 0,_,_,_,_,_,_,_=>none
 | n+1,I,J,D,E,F,H,M=>tR bP bX L I J D E F H M z (λI J D E F H M=>ot bP bX L z C n I J D E F H M) C
theorem wW(bP:dq)(bX:dQ)(L:Nat)(K:KT Y):∀ (n:Nat) (I:Ls) (C:Int) (z E:Ls) (F H:Int) (D:List V),dX (cC fJ (fI bP bX L) 0 L rW) tt n (mI I C z E F H D) K=ot bP bX L (λJ M=>K .ret (kM J M)) (λC z D=>K (.exit 0) (pf C z D)) n I C z E F H D:=by
 intro n; induction n <;> intros
 ·rfl
 ·exact (Gq ..).trans (by simp only [*]; rfl)
def kj(bP:dq)(bX:dQ)(L:Nat)(z:Ls->Int->Ob Y)(C:Ls->Ob Y):Nat->Int->Ls->Ls->Int->Int->List V->Ob Y
 | 0,_,_,_,_,_,_=>none
 | n+1,I,D,E,F,H,J=>nX bP bX L I D E F H J z (λI D E F H J=>kj bP bX L z C n I D E F H J) C
theorem vI(bP:dq)(bX:dQ)(L:Nat)(K:KT Y):∀ (n:Nat) (F:Int) (z C:Ls) (D E:Int) (H:List V),dX (cC fJ (fI bP bX L) 0 L qB) rT n (mi F z C D E H) K=kj bP bX L (λI J=>K .ret (kM I J)) (λz=>K (.exit 2) (u5 z)) n F z C D E H:=by
 intro n; induction n <;> intros
 ·rfl
 ·exact (Ge ..).trans (by simp only [*]; rfl)
def jE(bP:dq)(bX:dQ)(L:Nat)(D:Int)(z:Ls)(E:List V)(C:Ls->Int->Ob Y):Ob Y:=qS bP bX L D z E (λD z F H I E=>kj bP bX L (λJ M=>oN bP bX L J M C) (λz=>pM bP bX L z C) L D z F H I E)
theorem Dr(bP:dq)(bX:dQ)(L:Nat)(C:Int)(z:Ls)(D:List V)(k:KK Y):(cW 0 (dN (cC fJ (fI bP bX L) 0 L qr) (eo 0 (CF.res cf_ref23_spent) k))) (.exit 0) (pf C z D)=jE bP bX L C z D (λE F=>k (V.ah [(V.gs 37 E),(QQe F)]) []):=by
 refine (D8 bP bX L C z D k).trans ?_
 unfold jE
 first
  | (simp only [vI,Cq,DG]; done)
  | (simp only [vI]; rfl)
def vW(bP:dq)(bX:dQ)(L:Nat)(M:List V)(E:Ls)(N:List V)(C:Int)(z:Ls->Int->Ob Y):Ob Y:=Bt bP bX L M E N C (λE C D H I J F=>ot bP bX L (λO P=>xe bP bX L O P z) (λC D F=>jE bP bX L C D F z) L E C D H I J F)
theorem OK(bP:dq)(bX:dQ)(L:Nat)(z:List V)(C:Ls)(D:List V)(E:Int)(k:KK Y):dj fJ (fI bP bX L) L cf_ref23_spent [(V.agg z),(V.sl 37 C),(V.agg D),(QQe E)] [] k=vW bP bX L z C D E (λF H=>k (V.ah [(V.gs 37 F),(QQe H)]) []):=by
 refine (N2 bP bX L z C D E k).trans ?_
 unfold vW
 first
  | (simp only [wW,CY,Dr]; done)
  | (simp only [wW]; rfl)
abbrev eW:=∀ (Y:Type),Nat->List V->Ls->List V->Int->(Ls->Int->Ob Y)->Ob Y
def ce:eW:=λY=>@vW Y bP bX
def BQ(ce:eW)(L:Nat):Dk:=dA AG λD=>dA (AL 37) λE=>dA AG λF=>dA (AI .i64) λH=>d0 λY k=>ce Y L D E F H (λz C=>k (V.ah [(V.gs 37 z),(QQe C)]) [])
theorem ON(L:Nat):DK (BQ ce L) (λ_=>dj fJ (fI bP bX L) L cf_ref23_spent):=dl fN λz=>dl im λC=>dl fN λD=>dl gm λE=>fy λ_ k=>OK bP bX L z C D E k
abbrev eU:=∀ (Y:Type),Nat->List V->Ls->Int->(Int->Int->Ob Y)->Ob Y
def cg:eU:=λY L z C D kf=>opD (cN rows) 300 478 L Y [(V.agg z),(V.sl 37 C),(QQe D)] [] λv _=>(AT2 (AI .i64) (AI .i64)) Y v λp=>kf p.1 p.2
def BF(cg:eU)(L:Nat):Dk:=dA AG λz=>dA (AL 37) λC=>dA (AI .i64) λD=>d0 λY k=>cg Y L z C D (λE F=>k (V.ah [(QQe E),(QQe F)]) [])
theorem Nw(L:Nat):DK (BF cg L) (opD (cN rows) 300 478 L):=dl fN λz=>dl im λC=>dl gm λD=>Aq (za7 gm gm) [(V.agg z),(V.sl 37 C),(QQe D)] λ_ _ _=>rfl
abbrev fw:=∀ (Y:Type),Nat->Ls->List V->Int->(Ls->Int->Ob Y)->Ob Y
def cw:fw:=λY L z C D kf=>opD (cN rows) 300 481 L Y [(V.sl 37 z),(V.agg C),(QQe D)] [] λv _=>(AT2 (AGs 37) (AI .i64)) Y v λp=>kf p.1 p.2
def Gc(cw:fw)(L:Nat):Dk:=dA (AL 37) λz=>dA AG λC=>dA (AI .i64) λD=>d0 λY k=>cw Y L z C D (λE F=>k (V.ah [(V.gs 37 E),(QQe F)]) [])
theorem SE(L:Nat):DK (Gc cw L) (opD (cN rows) 300 481 L):=dl im λz=>dl fN λC=>dl gm λD=>Aq (za7 zbm gm) [(V.sl 37 z),(V.agg C),(QQe D)] λ_ _ _=>rfl
abbrev d9:=∀ (Y:Type),Nat->List V->Int->(Ls->Ob Y)->Ob Y
def bV:d9:=λY L z C kf=>opD (cN rows) 300 483 L Y [(V.agg z),(QQe C)] [] λv _=>(AGs 37) Y v λp=>kf p
def xR(bV:d9)(L:Nat):Dk:=dA AG λz=>dA (AI .i64) λC=>d0 λY k=>bV Y L z C (λD=>k (V.gs 37 D) [])
theorem Ku(L:Nat):DK (xR bV L) (opD (cN rows) 300 483 L):=dl fN λz=>dl gm λC=>Aq zbm [(V.agg z),(QQe C)] λ_ _ _=>rfl
abbrev eV:=∀ (Y:Type),Nat->Ls->(Int->Ob Y)->Ob Y
def ch:eV:=λY L z kf=>opD (cN rows) 300 482 L Y [(V.sl 37 z)] [] λv _=>(AI .i64) Y v λp=>kf p
def BR(ch:eV)(L:Nat):Dk:=dA (AL 37) λz=>d0 λY k=>ch Y L z (λC=>k (QQe C) [])
theorem OH(L:Nat):DK (BR ch L) (opD (cN rows) 300 482 L):=dl im λz=>Aq gm [(V.sl 37 z)] λ_ _ _=>rfl
def DY:CF:=cfD Bg 113
def wl:Nat->Sh:=fQ []
def wQ(L:Nat):CBC:=noC
def yV(L:Nat)(z:Ls)(D:Int)(E:Ls->Ob Y):Ob Y:=chk (0<=D/\D<=(((WcJ z):Nat):Int)) (chk ((WcJ ([]:Ls)+WcJ (WcK ((WcL D)-0) (WcM 0 z)))*88<=cy/\WcJ ([]:Ls)+WcJ (WcK ((WcL D)-0) (WcM 0 z))<=cy) (lt (([]:Ls)++(WcK ((WcL D)-0) (WcM 0 z))) λF=>lt (Wbf .i64 ((D:Int)+(1:Int))) λC=>chk (0<=C/\C<=(((WcJ z):Nat):Int)) (chk ((WcJ F+WcJ (WcK ((WcJ z)-(WcL C)) (WcM (WcL C) z)))*88<=cy/\WcJ F+WcJ (WcK ((WcJ z)-(WcL C)) (WcM (WcL C) z))<=cy) (lt (F++(WcK ((WcJ z)-(WcL C)) (WcM (WcL C) z))) λH=>E H))))
theorem Jy(L:Nat)(z:Ls)(C:Int)(k:KK Y):dj wl (wQ L) L DY [(V.sl 37 z),(QQe C)] [] k=yV L z C (λz=>k (V.gs 37 z) []):=by kernel_rfl
abbrev d8:=∀ (Y:Type),Nat->Ls->Int->(Ls->Ob Y)->Ob Y
def bU:d8:=λY=>@yV Y
def yF(bU:d8)(L:Nat):Dk:=dA (AL 37) λz=>dA (AI .i64) λC=>d0 λY k=>bU Y L z C (λz=>k (V.gs 37 z) [])
theorem Ky(L:Nat):DK (yF bU L) (λ_=>dj wl (wQ L) L DY):=dl im λz=>dl gm λC=>fy λ_ k=>Jy L z C k
def cf_ref23_Connect:CF:=cfD Be 84
def i7:CC:=eS [1,1,1,1,0,1,0,0,1,1,0,0,1,0,1,0,1,1,1,1,0,1,0,0] cf_ref23_Connect.body
def mr:CC:=eS [1,1,1,1,0,1,0,0,1,1,0,0,1,0,1,0,1,1,1,1,1] cf_ref23_Connect.body
def o5:CC:=eS [1,1,1,1,0,1,0,0,1,1,0,0,1,1] cf_ref23_Connect.body
def re:CC:=eS [1,1,1,1,0,1,0,0,1,1,1] cf_ref23_Connect.body
def lL:CC:=eS [1,1,1,1,0,1,0,0] cf_ref23_Connect.body
def qV:CC:=eS [1,1,1,1,1] cf_ref23_Connect.body
def eM:Nat->Sh:=fQ [(32,(.int .i64)),(38,(.sl 37)),(43,(.int .i64)),(46,(.sl 4)),(58,(.sl 37)),(61,(.int .i64)),(74,(.int .i64)),(109,(.sl 37)),(112,(.int .i64)),(126,(.sl 4)),(130,(.int .i64)),(139,(.sl 37)),(146,(.sl 37)),(90,(.sl 37)),(92,(.sl 37))]
def eL(cj:eX)(co:fi)(bW:eg)(ce:eW)(cg:eU)(cw:fw)(bV:d9)(ch:eV)(bP:dq)(bU:d8)(L:Nat):CBC:=(d6 479 (yF bU L) (d6 480 (xt bP L) (d6 482 (BR ch L) (d6 483 (xR bV L) (d6 481 (Gc cw L) (d6 478 (BF cg L) (d6 477 (BQ ce L) (d6 472 (y4 bW L) (d6 429 (DM co L) (d6 476 (BL cj L) noC))))))))))
def i8:St->St:=fF 0 (bl 492581209251048 153) (bl 11417981541574946208765741796140502961711488751 153)
def jo:St->St:=fF 0 (bl 67699845898911814992977128 153) (bl 11417981541647678929624043984199454700745523183 153)
def gM(D:Int)(E:Ls)(F H:Int)(J M N:List V)(C:Ls)(I:List V)(z:Ls):St:=⟨(jn 3 ((V.ptr 3 0)::(jn 1 ((V.ptr 5 0)::((V.ptr 6 0)::((V.ptr 7 0)::(jn 2 ((V.ptr 10 0)::((V.ptr 11 0)::((QQe D)::(jn 33 ((V.sl 4 E)::((QQe F)::((QQe H)::(jn 104 []))))))))))))))),(gn 3 ((.live true J)::(gn 1 ((.live true M)::((.live true N)::((.live true [(V.gs 37 C)])::(gn 2 ((.live true I)::((.live false [(V.gs 37 z)])::(gn 141 []))))))))))⟩
def lw(z:Int)(C D:List V):St:=⟨(jn 6 ((V.ptr 6 0)::((V.ptr 7 0)::((QQe z)::(jn 144 []))))),(gn 6 ((.live true C)::((.live true D)::(gn 145 []))))⟩
def gD(D:Int)(E:Ls)(F:Int)(H:Ls)(I J:Int)(M:Ls)(N O:Int)(R S T:List V)(C:Ls)(P:List V)(z:Ls)(Q:List V):St:=⟨(jn 3 ((V.ptr 3 0)::(jn 1 ((V.ptr 5 0)::((V.ptr 6 0)::((V.ptr 7 0)::(jn 2 ((V.ptr 10 0)::((V.ptr 11 0)::((QQe D)::(jn 1 ((V.ptr 14 0)::((V.sl 37 E)::(jn 1 ((QQe F)::(jn 28 ((V.sl 4 H)::((QQe I)::((QQe J)::(jn 34 ((V.sl 37 M)::((QQe N)::((QQe O)::(jn 67 [])))))))))))))))))))))))),(gn 3 ((.live true R)::(gn 1 ((.live true S)::((.live true T)::((.live true [(V.gs 37 C)])::(gn 2 ((.live true P)::((.live false [(V.gs 37 z)])::(gn 2 ((.live true Q)::(gn 138 []))))))))))))⟩
def nU(D:Int)(F H:List V)(C:Ls)(E:List V)(z:Ls):St:=⟨(jn 5 ((V.ptr 5 0)::((V.ptr 6 0)::((V.ptr 7 0)::(jn 2 ((V.ptr 10 0)::((V.ptr 11 0)::((QQe D)::(jn 140 []))))))))),(gn 5 ((.live true F)::((.live true H)::((.live true [(V.gs 37 C)])::(gn 2 ((.live true E)::((.live false [(V.gs 37 z)])::(gn 141 []))))))))⟩
def sn(D:Int)(E:Ls)(F:Int)(H:Ls)(I J:Int)(O P Q:List V)(C:Ls)(M:List V)(z:Ls)(N:List V):St:=⟨(jn 3 ((V.ptr 3 0)::(jn 1 ((V.ptr 5 0)::((V.ptr 6 0)::((V.ptr 7 0)::(jn 2 ((V.ptr 10 0)::((V.ptr 11 0)::((QQe D)::(jn 1 ((V.ptr 14 0)::((V.sl 37 E)::(jn 1 ((QQe F)::(jn 28 ((V.sl 4 H)::((QQe I)::((QQe J)::(jn 104 [])))))))))))))))))))),(gn 3 ((.live true O)::(gn 1 ((.live true P)::((.live true Q)::((.live true [(V.gs 37 C)])::(gn 2 ((.live true M)::((.live false [(V.gs 37 z)])::(gn 2 ((.live true N)::(gn 138 []))))))))))))⟩
abbrev lK(Y:Type):Type:=Int->Ls->Int->Int->List V->List V->List V->Ls->List V->Ls->Ob Y
abbrev lG(Y:Type):Type:=Int->Ls->Int->Ls->Int->Int->Ls->Int->Int->List V->List V->List V->Ls->List V->Ls->List V->Ob Y
abbrev jh(Y:Type):Type:=Int->List V->List V->Ls->List V->Ls->Ob Y
abbrev u3(Y:Type):Type:=Int->Ls->Int->Ls->Int->Int->List V->List V->List V->Ls->List V->Ls->List V->Ob Y
def sM(cj:eX)(co:fi)(bW:eg)(ce:eW)(cg:eU)(cw:fw)(bV:d9)(ch:eV)(bP:dq)(bU:d8)(L:Nat)(D E C:List V)(F:List V->List V->Int->Ob Y)(z:lK Y):Ob Y:=chk (0+80<=(WcJ D)) (chk (0+34<=(WcJ E)) (chk (0+69<=(WcJ C)) (cj Y L (WbO V.ag (WcK 80 D)) (WbO V.ag (WcK 34 E)) (WbO V.ag (WcK 69 C)) (λJ=>ifb ((J:Int) != (0:Int)) (lt ([(QQe (0:Int))]++Wad 32 (QQa (0:Int))++[(V.sl 37 ([]:Ls))]) λM=>lt [(V.sl 37 ([]:Ls))] λN=>chk (0=0/\(WcJ M)=34/\34≠0) (chk (0=0/\(WcJ N)=1/\1≠0) (F M N J))) (cI .i64 E 0 λS=>lt (Wbf .i64 ((S:Int)+(1:Int))) λO=>chk (0+68<=(WcJ C)) (co Y L (WcK 68 C) (λI=>cLd 37 E 33 λT=>chk ((WcJ I)=32/\1+32<=34) (chk (1=1/\33+1<=(WcJ (cD ([(QQe O)]++Wad 32 (QQa (0:Int))++[(V.sl 37 ([]:Ls))]) 1 I))) (lt (cD (cD ([(QQe O)]++Wad 32 (QQa (0:Int))++[(V.sl 37 ([]:Ls))]) 1 I) 33 [(V.sl 37 T)]) λP=>chk ((WcJ P)=34/\0+34<=34) (lt (cD ([(QQe (0:Int))]++Wad 32 (QQa (0:Int))++[(V.gs 37 ([]:Ls))]) 0 P) λQ=>chk (0+80<=(WcJ D)) (cI .i64 Q 0 λU=>bW Y L (WbO V.ag (WcK 80 D)) U (λR=>cLd 4 C 68 λH=>z R H ((WcJ H:Nat):Int) (0:Int) D C ([(QQe (0:Int))]++Wad 32 (QQa (0:Int))++[(V.gs 37 ([]:Ls))]) ([]:Ls) Q ([]:Ls)))))))))))))
theorem JN(cj:eX)(co:fi)(bW:eg)(ce:eW)(cg:eU)(cw:fw)(bV:d9)(ch:eV)(bP:dq)(bU:d8)(L:Nat)(H I J:List V)(k:KK Y):dj eM (eL cj co bW ce cg cw bV ch bP bU L) L cf_ref23_Connect [(V.agg H),(V.agg I),(V.agg J)] [] k=sM cj co bW ce cg cw bV ch bP bU L H I J (λC D E=>k (V.ah [(V.agg C),(V.agg D),(QQe E)]) []) (λM N O P R S T F Q z=>dX (cC eM (eL cj co bW ce cg cw bV ch bP bU L) 0 L lL) i8 L (gM M N O P R S T F Q z) (cW 0 (dN (cC eM (eL cj co bW ce cg cw bV ch bP bU L) 0 L qV) (eo 0 (CF.res cf_ref23_Connect) k)))):=by kernel_rfl
def kq(cj:eX)(co:fi)(bW:eg)(ce:eW)(cg:eU)(cw:fw)(bV:d9)(ch:eV)(bP:dq)(bU:d8)(L:Nat)(O:Int)(P:Ls)(Q J:Int)(R X E:List V)(M:Ls)(C:List V)(F:Ls)(H:Int->List V->List V->Ob Y)(z:lG Y)(I:lK Y)(c8:jh Y):Ob Y:=ifb (decide (J<Q)) (idx P J λS=>chk ((WcJ (WcK 4 S))=4/\0+4<=4) (lt (cD [(QQc (0:Int)),(V.gs 35 ([]:Ls)),(V.gs 2 ([]:Ls)),(QQc (0:Int))] 0 (WcK 4 S)) λD=>ifb (decide (J>(0:Int))) (chk (0+80<=(WcJ R)) (cLd 37 C 33 λb9=>chk (0+4<=(WcJ D)) (cI .i64 C 0 λaa=>ce Y L (WbO V.ag (WcK 80 R)) b9 (WbO V.ag (WcK 4 D)) aa (λN T=>ifb ((T:Int) != (0:Int)) (chk (34=34/\0+34<=(WcJ E)) (lt (cD E 0 ([(QQe (0:Int))]++Wad 32 (QQa (0:Int))++[(V.sl 37 ([]:Ls))])) λab=>lt [(V.sl 37 ([]:Ls))] λac=>H T ab ac)) (chk (0+4<=(WcJ D)) (cI .i64 C 0 λad=>cg Y L (WbO V.ag (WcK 4 D)) N ad (λan U=>ifb ((U:Int) != (0:Int)) (chk (34=34/\0+34<=(WcJ E)) (lt (cD E 0 ([(QQe (0:Int))]++Wad 32 (QQa (0:Int))++[(V.sl 37 ([]:Ls))])) λao=>lt [(V.sl 37 ([]:Ls))] λap=>H U ao ap)) (z O N an P Q J N ((WcJ N:Nat):Int) (0:Int) R X E M C F D)))))))) (cLd 37 C 33 λaq=>chk (0+4<=(WcJ D)) (cI .i64 C 0 λar=>cw Y L aq (WbO V.ag (WcK 4 D)) ar (λau c9=>ifb ((c9:Int) != (0:Int)) (chk (34=34/\0+34<=(WcJ E)) (lt (cD E 0 ([(QQe (0:Int))]++Wad 32 (QQa (0:Int))++[(V.sl 37 ([]:Ls))])) λav=>lt [(V.sl 37 ([]:Ls))] λaz=>H c9 av az)) (chk (1=1/\33+1<=(WcJ C)) (lt (cD C 33 [(V.sl 37 au)]) λaJ=>lt (Wbf .i64 ((J:Int)+(1:Int))) λaN=>I O P Q aN R X E M aJ F))))))) (c8 O X E M C F)
theorem CH(cj:eX)(co:fi)(bW:eg)(ce:eW)(cg:eU)(cw:fw)(bV:d9)(ch:eV)(bP:dq)(bU:d8)(L:Nat)(D:Int)(H:Ls)(I J:Int)(N M F:List V)(C:Ls)(E:List V)(z:Ls)(X:St->Ob Y)(K:KT Y):cC eM (eL cj co bW ce cg cw bV ch bP bU L) 0 L lL (gM D H I J N M F C E z) (fO i8 X K)=kq cj co bW ce cg cw bV ch bP bU L D H I J N M F C E z (λU F c9=>K .ret (lw U F c9)) (λD O P H I J Q R S N M F C E z T=>dX (cC eM (eL cj co bW ce cg cw bV ch bP bU L) 0 L i7) jo L (gD D O P H I J Q R S N M F C E z T) (cW 2 (dN (cC eM (eL cj co bW ce cg cw bV ch bP bU L) 0 L mr) (dN (cC eM (eL cj co bW ce cg cw bV ch bP bU L) 0 L o5) (cW 1 (dN (cC eM (eL cj co bW ce cg cw bV ch bP bU L) 0 L re) (fO i8 X K))))))) (λD H I J N M F C E z=>X (gM D H I J N M F C E z)) (λD M F C E z=>K (.exit 0) (nU D M F C E z)):=by kernel_rfl
def kR(cj:eX)(co:fi)(bW:eg)(ce:eW)(cg:eU)(cw:fw)(bV:d9)(ch:eV)(bP:dq)(bU:d8)(L:Nat)(E:Int)(C D:List V)(z:List V->List V->Int->Ob Y):Ob Y:=chk (0=0/\(WcJ C)=34/\34≠0) (chk (0=0/\(WcJ D)=1/\1≠0) (z C D E))
theorem Af(cj:eX)(co:fi)(bW:eg)(ce:eW)(cg:eU)(cw:fw)(bV:d9)(ch:eV)(bP:dq)(bU:d8)(L:Nat)(E:Int)(F H:List V)(k:KK Y):(cW 0 (dN (cC eM (eL cj co bW ce cg cw bV ch bP bU L) 0 L qV) (eo 0 (CF.res cf_ref23_Connect) k))) .ret (lw E F H)=kR cj co bW ce cg cw bV ch bP bU L E F H (λz C D=>k (V.ah [(V.agg z),(V.agg C),(QQe D)]) []):=by kernel_rfl
def iN(cj:eX)(co:fi)(bW:eg)(ce:eW)(cg:eU)(cw:fw)(bV:d9)(ch:eV)(bP:dq)(bU:d8)(L:Nat)(Q:Int)(b5 D:List V)(ab:Ls)(C:List V)(E:Ls)(z:List V->List V->Int->Ob Y):Ob Y:=cLd 4 b5 68 λR=>idx R (0:Int) λS=>cI .i64 C 0 λT=>bV Y L (WbO V.ag (WcK 4 S)) T (λU=>ch Y L U (λc9=>ifb (decide (c9>Q)) (chk (34=34/\0+34<=(WcJ D)) (lt (cD D 0 ([(QQe (0:Int))]++Wad 32 (QQa (0:Int))++[(V.sl 37 ([]:Ls))])) λF=>lt [(V.sl 37 ([]:Ls))] λH=>chk (0=0/\(WcJ F)=34/\34≠0) (chk (0=0/\(WcJ H)=1/\1≠0) (z F H (231:Int))))) (cLd 37 C 33 λX=>ch Y L X (λc8=>ifb (decide (c8>(2100000000000000:Int))) (chk (34=34/\0+34<=(WcJ D)) (lt (cD D 0 ([(QQe (0:Int))]++Wad 32 (QQa (0:Int))++[(V.sl 37 ([]:Ls))])) λI=>lt [(V.sl 37 ([]:Ls))] λJ=>chk (0=0/\(WcJ I)=34/\34≠0) (chk (0=0/\(WcJ J)=1/\1≠0) (z I J (90:Int))))) (cLd 37 C 33 λb9=>ifb (decide (((WcJ b9:Nat):Int)>(100000:Int))) (chk (34=34/\0+34<=(WcJ D)) (lt (cD D 0 ([(QQe (0:Int))]++Wad 32 (QQa (0:Int))++[(V.sl 37 ([]:Ls))])) λM=>lt [(V.sl 37 ([]:Ls))] λN=>chk (0=0/\(WcJ M)=34/\34≠0) (chk (0=0/\(WcJ N)=1/\1≠0) (z M N (4:Int))))) (chk (0+34<=(WcJ C)) (chk ((WcJ (WcK 34 C))=34/\0+34<=(WcJ D)) (lt (cD D 0 (WcK 34 C)) λO=>lt [(V.sl 37 E)] λP=>chk (0=0/\(WcJ O)=34/\34≠0) (chk (0=0/\(WcJ P)=1/\1≠0) (z O P (0:Int)))))))))))
theorem Bn(cj:eX)(co:fi)(bW:eg)(ce:eW)(cg:eU)(cw:fw)(bV:d9)(ch:eV)(bP:dq)(bU:d8)(L:Nat)(D:Int)(J M:List V)(C:Ls)(E:List V)(z:Ls)(k:KK Y):(cW 0 (dN (cC eM (eL cj co bW ce cg cw bV ch bP bU L) 0 L qV) (eo 0 (CF.res cf_ref23_Connect) k))) (.exit 0) (nU D J M C E z)=iN cj co bW ce cg cw bV ch bP bU L D J M C E z (λF H I=>k (V.ah [(V.agg F),(V.agg H),(QQe I)]) []):=by kernel_rfl
def hS(cj:eX)(co:fi)(bW:eg)(ce:eW)(cg:eU)(cw:fw)(bV:d9)(ch:eV)(bP:dq)(bU:d8)(L:Nat)(H:Int)(I:Ls)(J:Int)(M:Ls)(N O:Int)(P:Ls)(Q E:Int)(c9 X c8:List V)(F:Ls)(C:List V)(D:Ls)(R:List V)(z:lG Y)(U:u3 Y):Ob Y:=ifb (decide (E<Q)) (idx P E λS=>chk ((WcJ (WcK 37 S))=37/\0+37<=37) (lt (cD (Wad 32 (QQa (0:Int))++[(QQc (0:Int)),(QQe (0:Int)),(V.gs 1 ([]:Ls)),(QQe (0:Int)),(V.sc (.bool false))]) 0 (WcK 37 S)) λT=>cLd 37 C 33 λb9=>cLd 37 C 33 λaa=>chk (0+33<=(WcJ T)) (bP Y L aa (WcK 33 T) (λab=>bU Y L b9 ab (λac=>chk (1=1/\33+1<=(WcJ C)) (lt (cD C 33 [(V.sl 37 ac)]) λad=>lt (Wbf .i64 ((E:Int)+(1:Int))) λag=>z H I J M N O P Q ag c9 X c8 F ad D R)))))) (U H I J M N O c9 X c8 F C D R)
theorem pW(cj:eX)(co:fi)(bW:eg)(ce:eW)(cg:eU)(cw:fw)(bV:d9)(ch:eV)(bP:dq)(bU:d8)(L:Nat)(D:Int)(E:Ls)(F:Int)(H:Ls)(I J:Int)(O:Ls)(P Q:Int)(R S T:List V)(C:Ls)(M:List V)(z:Ls)(N:List V)(X:St->Ob Y)(K:KT Y):cC eM (eL cj co bW ce cg cw bV ch bP bU L) 0 L i7 (gD D E F H I J O P Q R S T C M z N) (fO jo X K)=hS cj co bW ce cg cw bV ch bP bU L D E F H I J O P Q R S T C M z N (λD E F H I J O P Q R S T C M z N=>X (gD D E F H I J O P Q R S T C M z N)) (λD E F H I J R S T C M z N=>K (.exit 2) (sn D E F H I J R S T C M z N)):=by kernel_rfl
def gL(cj:eX)(co:fi)(bW:eg)(ce:eW)(cg:eU)(cw:fw)(bV:d9)(ch:eV)(bP:dq)(bU:d8)(L:Nat)(N:Int)(E:Ls)(O:Int)(P:Ls)(Q R:Int)(b3 b5 J:List V)(M:Ls)(D:List V)(z:Ls)(H:List V)(F:Int->List V->List V->Ob Y)(C:lK Y):Ob Y:=lt (Wbf .i64 ((N:Int)+O)) λS=>chk ((WcJ z+WcJ E)*88<=cy/\WcJ z+WcJ E<=cy) (lt (z++E) λT=>cLd 37 D 33 λU=>chk (0+4<=(WcJ H)) (cI .i64 D 0 λc9=>cw Y L U (WbO V.ag (WcK 4 H)) c9 (λX I=>ifb ((I:Int) != (0:Int)) (chk (34=34/\0+34<=(WcJ J)) (lt (cD J 0 ([(QQe (0:Int))]++Wad 32 (QQa (0:Int))++[(V.sl 37 ([]:Ls))])) λc8=>lt [(V.sl 37 ([]:Ls))] λb9=>F I c8 b9)) (chk (1=1/\33+1<=(WcJ D)) (lt (cD D 33 [(V.sl 37 X)]) λaa=>lt (Wbf .i64 ((R:Int)+(1:Int))) λab=>C S P Q ab b3 b5 J M aa T)))))
theorem o7(cj:eX)(co:fi)(bW:eg)(ce:eW)(cg:eU)(cw:fw)(bV:d9)(ch:eV)(bP:dq)(bU:d8)(L:Nat)(D:Int)(O:Ls)(P:Int)(E:Ls)(F H:Int)(M N J:List V)(C:Ls)(I:List V)(z:Ls)(Q:List V)(X:St->Ob Y)(K:KT Y):(cW 2 (dN (cC eM (eL cj co bW ce cg cw bV ch bP bU L) 0 L mr) (dN (cC eM (eL cj co bW ce cg cw bV ch bP bU L) 0 L o5) (cW 1 (dN (cC eM (eL cj co bW ce cg cw bV ch bP bU L) 0 L re) (fO i8 X K)))))) (.exit 2) (sn D O P E F H M N J C I z Q)=gL cj co bW ce cg cw bV ch bP bU L D O P E F H M N J C I z Q (λR J S=>K .ret (lw R J S)) (λD E F H M N J C I z=>X (gM D E F H M N J C I z)):=by kernel_rfl
def e9(cj:eX)(co:fi)(bW:eg)(ce:eW)(cg:eU)(cw:fw)(bV:d9)(ch:eV)(bP:dq)(bU:d8)(L:Nat)(D:u3 Y):Nat->Int->Ls->Int->Ls->Int->Int->Ls->Int->Int->List V->List V->List V->Ls->List V->Ls->List V->Ob Y
 | 0,_,_,_,_,_,_,_,_,_,_,_,_,_,_,_,_=>none
 | n+1,E,F,H,I,J,M,N,O,P,S,T,U,C,Q,z,R=>hS cj co bW ce cg cw bV ch bP bU L E F H I J M N O P S T U C Q z R (λE F H I J M N O P S T U C Q z R=>e9 cj co bW ce cg cw bV ch bP bU L D n E F H I J M N O P S T U C Q z R) D
theorem kV(cj:eX)(co:fi)(bW:eg)(ce:eW)(cg:eU)(cw:fw)(bV:d9)(ch:eV)(bP:dq)(bU:d8)(L:Nat)(K:KT Y):∀ (n:Nat) (D:Int) (E:Ls) (F:Int) (H:Ls) (I J:Int) (R:Ls) (S T:Int) (O P Q:List V) (C:Ls) (M:List V) (z:Ls) (N:List V),dX (cC eM (eL cj co bW ce cg cw bV ch bP bU L) 0 L i7) jo n (gD D E F H I J R S T O P Q C M z N) K=e9 cj co bW ce cg cw bV ch bP bU L (λD E F H I J O P Q C M z N=>K (.exit 2) (sn D E F H I J O P Q C M z N)) n D E F H I J R S T O P Q C M z N:=by
 intro n; induction n <;> intros
 ·rfl
 ·exact (pW ..).trans (by simp only [*]; rfl)
def iR(cj:eX)(co:fi)(bW:eg)(ce:eW)(cg:eU)(cw:fw)(bV:d9)(ch:eV)(bP:dq)(bU:d8)(L:Nat)(E:Int)(F:Ls)(H I:Int)(N O P:List V)(D:Ls)(J:List V)(z:Ls)(M:Int->List V->List V->Ob Y)(C:lK Y)(T:jh Y):Ob Y:=kq cj co bW ce cg cw bV ch bP bU L E F H I N O P D J z M (λE Q R F H I U c9 X N O P D J z S=>e9 cj co bW ce cg cw bV ch bP bU L (λE Q R F H I N O P D J z S=>gL cj co bW ce cg cw bV ch bP bU L E Q R F H I N O P D J z S M C) L E Q R F H I U c9 X N O P D J z S) C T
theorem Bs(cj:eX)(co:fi)(bW:eg)(ce:eW)(cg:eU)(cw:fw)(bV:d9)(ch:eV)(bP:dq)(bU:d8)(L:Nat)(D:Int)(H:Ls)(I J:Int)(N M F:List V)(C:Ls)(E:List V)(z:Ls)(X:St->Ob Y)(K:KT Y):cC eM (eL cj co bW ce cg cw bV ch bP bU L) 0 L lL (gM D H I J N M F C E z) (fO i8 X K)=iR cj co bW ce cg cw bV ch bP bU L D H I J N M F C E z (λO F P=>K .ret (lw O F P)) (λD H I J N M F C E z=>X (gM D H I J N M F C E z)) (λD M F C E z=>K (.exit 0) (nU D M F C E z)):=by
 refine (CH cj co bW ce cg cw bV ch bP bU L D H I J N M F C E z X K).trans ?_
 unfold iR
 first
  | (simp only [kV,o7]; done)
  | (simp only [kV]; rfl)
def ew(cj:eX)(co:fi)(bW:eg)(ce:eW)(cg:eU)(cw:fw)(bV:d9)(ch:eV)(bP:dq)(bU:d8)(L:Nat)(D:Int->List V->List V->Ob Y)(E:jh Y):Nat->Int->Ls->Int->Int->List V->List V->List V->Ls->List V->Ls->Ob Y
 | 0,_,_,_,_,_,_,_,_,_,_=>none
 | n+1,F,H,I,J,N,O,P,C,M,z=>iR cj co bW ce cg cw bV ch bP bU L F H I J N O P C M z D (λF H I J N O P C M z=>ew cj co bW ce cg cw bV ch bP bU L D E n F H I J N O P C M z) E
theorem sG(cj:eX)(co:fi)(bW:eg)(ce:eW)(cg:eU)(cw:fw)(bV:d9)(ch:eV)(bP:dq)(bU:d8)(L:Nat)(K:KT Y):∀ (n:Nat) (D:Int) (I:Ls) (J M:Int) (N H F:List V) (C:Ls) (E:List V) (z:Ls),dX (cC eM (eL cj co bW ce cg cw bV ch bP bU L) 0 L lL) i8 n (gM D I J M N H F C E z) K=ew cj co bW ce cg cw bV ch bP bU L (λO F P=>K .ret (lw O F P)) (λD H F C E z=>K (.exit 0) (nU D H F C E z)) n D I J M N H F C E z:=by
 intro n; induction n <;> intros
 ·rfl
 ·exact (Bs ..).trans (by simp only [*]; rfl)
def oA(cj:eX)(co:fi)(bW:eg)(ce:eW)(cg:eU)(cw:fw)(bV:d9)(ch:eV)(bP:dq)(bU:d8)(L:Nat)(O P Q:List V)(z:List V->List V->Int->Ob Y):Ob Y:=sM cj co bW ce cg cw bV ch bP bU L O P Q z (λE J M N R I F D H C=>ew cj co bW ce cg cw bV ch bP bU L (λS F T=>kR cj co bW ce cg cw bV ch bP bU L S F T z) (λE I F D H C=>iN cj co bW ce cg cw bV ch bP bU L E I F D H C z) L E J M N R I F D H C)
theorem KW(cj:eX)(co:fi)(bW:eg)(ce:eW)(cg:eU)(cw:fw)(bV:d9)(ch:eV)(bP:dq)(bU:d8)(L:Nat)(z C D:List V)(k:KK Y):dj eM (eL cj co bW ce cg cw bV ch bP bU L) L cf_ref23_Connect [(V.agg z),(V.agg C),(V.agg D)] [] k=oA cj co bW ce cg cw bV ch bP bU L z C D (λE F H=>k (V.ah [(V.agg E),(V.agg F),(QQe H)]) []):=by
 refine (JN cj co bW ce cg cw bV ch bP bU L z C D k).trans ?_
 unfold oA
 first
  | (simp only [sG,Af,Bn]; done)
  | (simp only [sG]; rfl)
abbrev Em:=∀ (Y:Type),Nat->List V->List V->List V->(List V->List V->Int->Ob Y)->Ob Y
def ka:Em:=λY=>@oA Y cj co bW ce cg cw bV ch bP bU
def EO(ka:Em)(L:Nat):Dk:=dA AG λE=>dA AG λF=>dA AG λH=>d0 λY k=>ka Y L E F H (λz C D=>k (V.ah [(V.agg z),(V.agg C),(QQe D)]) [])
theorem J0(L:Nat):DK (EO ka L) (λ_=>dj eM (eL cj co bW ce cg cw bV ch bP bU L) L cf_ref23_Connect):=dl fN λz=>dl fN λC=>dl fN λD=>fy λ_ k=>KW cj co bW ce cg cw bV ch bP bU L z C D k
abbrev hF:=∀ (Y:Type),Nat->Ob Y->Ob Y
def dv:hF:=λY L k=>chk (30000<=L) k
def Kt(dv:hF)(L:Nat):Dk:=d0 λY k=>dv Y L (k (.sc (.bool true)) [])
def Nn:CF:=cfD IQ 7
def Gd:Nat->Sh:=fQ []
def F6(L:Nat):CBC:=noC
def Il(L:Nat)(C:Ls)(z:Ls->Int->Ob Y):Ob Y:=z C (0:Int)
theorem UL(L:Nat)(D:Ls)(k:KK Y):dj Gd (F6 L) L Nn [(V.sl 1 D)] [] k=Il L D (λz C=>k (V.bx false [(V.sl 1 z),(QQe C)]) []):=by kernel_rfl
abbrev i6:=∀ (Y:Type),Nat->Ls->(Ls->Int->Ob Y)->Ob Y
def dF:i6:=λY=>@Il Y
def Ie(dF:i6)(L:Nat):Dk:=dA (AL 1) λD=>d0 λY k=>dF Y L D (λz C=>k (V.bx false [(V.sl 1 z),(QQe C)]) [])
theorem UX(L:Nat):DK (Ie dF L) (λ_=>dj Gd (F6 L) L Nn):=dl im λz=>fy λ_ k=>UL L z k
def Ci:CF:=cfD zw 51
def u4:Nat->Sh:=fQ []
def uI(L:Nat):CBC:=noC
def qh(L:Nat)(z:Ls)(C:Int)(D:Bool->Ls->Int->Ob Y):Ob Y:=D (decide (C<((WcJ z:Nat):Int))) z C
theorem I5(L:Nat)(z:Ls)(C:Int)(k:KK Y):dj u4 (uI L) L Ci [(V.ptr 0 0)] [(.live false [(V.sl 1 z),(QQe C)])] k=qh L z C (λD z C=>k (V.sc (.bool D)) [(.live false [(V.sl 1 z),(QQe C)])]):=by kernel_rfl
abbrev nJ:=∀ (Y:Type),Nat->Ls->Int->(Bool->Ls->Int->Ob Y)->Ob Y
def fj:nJ:=λY=>@qh Y
def qu(fj:nJ)(L:Nat)(Y:Type)(args:List V)(bor:Bor)(k:KK Y):Ob Y:=match args,bor with
 | [a0],[(.live false [w0_0,w0_1])]=>aP 0 0 a0 (aL 1 w0_0 λz=>aI .i64 w0_1 λC=>fj Y L z C (λD z C=>k (V.sc (.bool D)) [(.live false [(V.sl 1 z),(QQe C)])]))
 | _,_=>none
theorem Jh(L:Nat)(Y:Type)(args:List V)(bor:Bor)(k:KK Y)(r:Y)(h:qu fj L Y args bor k=some r):dj u4 (uI L) L Ci args bor k=some r:=by
 unfold qu at h
 split at h
 ·have q:=Gj h; clear h; obtain ⟨rfl,h⟩:=q
  have q:=AV h; clear h; obtain ⟨z,rfl,h⟩:=q
  have q:=tU h; clear h; obtain ⟨C,rfl,h⟩:=q
  exact (I5 L z C k).trans h
 ·cases h
def M0:CF:=cfD IG 14
def Fu:Nat->Sh:=fQ []
def Fp(L:Nat):CBC:=noC
def Cu(L:Nat)(E C:Int)(z:Int->Ob Y):Ob Y:=chk (C≠0) (lt (Int.tmod E C) λD=>ifb (decide (D<(0:Int))) (lt (Wbf .i64 ((D:Int)+C)) λF=>z F) (z D))
theorem UY(L:Nat)(z C:Int)(k:KK Y):dj Fu (Fp L) L M0 [(QQe z),(QQe C)] [] k=Cu L z C (λz=>k (QQe z) []):=by kernel_rfl
abbrev hP:=∀ (Y:Type),Nat->Int->Int->(Int->Ob Y)->Ob Y
def dg:hP:=λY=>@Cu Y
def CK(dg:hP)(L:Nat):Dk:=dA (AI .i64) λz=>dA (AI .i64) λC=>d0 λY k=>dg Y L z C (λz=>k (QQe z) [])
theorem Uy(L:Nat):DK (CK dg L) (λ_=>dj Fu (Fp L) L M0):=dl gm λz=>dl gm λC=>fy λ_ k=>UY L z C k
def Ca:CF:=cfD zj 25
def vi:Nat->Sh:=fQ [(25,(.int .i64))]
def vm(fj:nJ)(dg:hP)(L:Nat):CBC:=(d6 217 (CK dg L) (d6 247 (qu fj L) noC))
def qv(fj:nJ)(dg:hP)(L:Nat)(I:Int)(C:Ls)(D:Int)(z:Int->Ls->Int->Ob Y):Ob Y:=fj Y L C D (λJ E F=>ifb (!J) (z (0:Int) E F) (lt (Wbf .i64 ((F:Int)+(1:Int))) λH=>lt (Wbf .i64 ((H:Int)-(1:Int))) λM=>idx E M λN=>cI .i64 N 0 λO=>dg Y L O I (λP=>z P E H)))
theorem Jo(fj:nJ)(dg:hP)(L:Nat)(D:Int)(z:Ls)(C:Int)(k:KK Y):dj vi (vm fj dg L) L Ca [(V.ptr 0 0),(QQe D)] [(.live false [(V.sl 1 z),(QQe C)])] k=qv fj dg L D z C (λE z C=>k (QQe E) [(.live false [(V.sl 1 z),(QQe C)])]):=by kernel_rfl
abbrev dH:=∀ (Y:Type),Nat->Int->Ls->Int->(Int->Ls->Int->Ob Y)->Ob Y
def bR:dH:=λY=>@qv Y fj dg
def lW(bR:dH)(L:Nat)(Y:Type)(args:List V)(bor:Bor)(k:KK Y):Ob Y:=match args,bor with
 | [a0,a1],[(.live false [w0_0,w0_1])]=>aP 0 0 a0 (aI .i64 a1 λD=>aL 1 w0_0 λz=>aI .i64 w0_1 λC=>bR Y L D z C (λE z C=>k (QQe E) [(.live false [(V.sl 1 z),(QQe C)])]))
 | _,_=>none
theorem Jl(L:Nat)(Y:Type)(args:List V)(bor:Bor)(k:KK Y)(r:Y)(h:lW bR L Y args bor k=some r):dj vi (vm fj dg L) L Ca args bor k=some r:=by
 unfold lW at h
 split at h
 ·have q:=Gj h; clear h; obtain ⟨rfl,h⟩:=q
  have q:=tU h; clear h; obtain ⟨D,rfl,h⟩:=q
  have q:=AV h; clear h; obtain ⟨z,rfl,h⟩:=q
  have q:=tU h; clear h; obtain ⟨C,rfl,h⟩:=q
  exact (Jo fj dg L D z C k).trans h
 ·cases h
def cf_mill_Deck_Seeds:CF:=cfD xz 28
def n9:CC:=eS [1,1,0,1,0,0] cf_mill_Deck_Seeds.body
def xr:CC:=eS [1,1,1] cf_mill_Deck_Seeds.body
def iw:Nat->Sh:=fQ []
def iA(bR:dH)(L:Nat):CBC:=(d6 231 (lW bR L) noC)
def o4:St->St:=fF 1 (bl 97 22) (bl 2490367 22)
def kS(D:Ls)(E:Int)(z:Ls)(C:Int):St:=⟨((V.ptr 0 0)::(jn 4 ((V.gs 1 D)::((QQe E)::(jn 15 []))))),((.live false [(V.sl 1 z),(QQe C)])::(gn 22 []))⟩
def pT(D z:Ls)(C:Int):St:=⟨(jn 5 ((V.gs 1 D)::(jn 16 []))),((.live false [(V.sl 1 z),(QQe C)])::(gn 22 []))⟩
def uW(bR:dH)(L:Nat)(E:Int)(C:Ls)(D:Int)(z:Ls->Int->Ls->Int->Ob Y):Ob Y:=lt (Wbf .i64 ((E:Int)+(1:Int))) λF=>bR Y L F C D (λH I J=>z ([]:Ls) H I J)
theorem HE(bR:dH)(L:Nat)(D:Int)(z:Ls)(C:Int)(k:KK Y):dj iw (iA bR L) L cf_mill_Deck_Seeds [(V.ptr 0 0),(QQe D)] [(.live false [(V.sl 1 z),(QQe C)])] k=uW bR L D z C (λE F z C=>dX (cC iw (iA bR L) 1 L n9) o4 L (kS E F z C) (cW 0 (dN (cC iw (iA bR L) 1 L xr) (eo 1 (CF.res cf_mill_Deck_Seeds) k)))):=by kernel_rfl
def me(bR:dH)(L:Nat)(E:Ls)(I:Int)(C:Ls)(D:Int)(z:Ls->Int->Ls->Int->Ob Y)(F:Ls->Ls->Int->Ob Y):Ob Y:=ifb (decide (I>(0:Int))) (bR Y L (256:Int) C D (λJ M N=>lt (Wbf .u8 J) λH=>chk ((WcJ E+WcJ (cz 1 1 [(QQa H)]))*1<=cy/\WcJ E+WcJ (cz 1 1 [(QQa H)])<=cy) (lt (E++(cz 1 1 [(QQa H)])) λO=>lt (Wbf .i64 ((I:Int)-(1:Int))) λP=>z O P M N))) (F E C D)
theorem CE(bR:dH)(L:Nat)(D:Ls)(E:Int)(z:Ls)(C:Int)(X:St->Ob Y)(K:KT Y):cC iw (iA bR L) 1 L n9 (kS D E z C) (fO o4 X K)=me bR L D E z C (λD E z C=>X (kS D E z C)) (λD z C=>K (.exit 0) (pT D z C)):=by kernel_rfl
def tz(bR:dH)(L:Nat)(E C:Ls)(D:Int)(z:Ls->Ls->Int->Ob Y):Ob Y:=z E C D
theorem AY(bR:dH)(L:Nat)(D z:Ls)(C:Int)(k:KK Y):(cW 0 (dN (cC iw (iA bR L) 1 L xr) (eo 1 (CF.res cf_mill_Deck_Seeds) k))) (.exit 0) (pT D z C)=tz bR L D z C (λE z C=>k (V.gs 1 E) [(.live false [(V.sl 1 z),(QQe C)])]):=by kernel_rfl
def jd(bR:dH)(L:Nat)(D:Ls->Ls->Int->Ob Y):Nat->Ls->Int->Ls->Int->Ob Y
 | 0,_,_,_,_=>none
 | n+1,E,F,z,C=>me bR L E F z C (λE F z C=>jd bR L D n E F z C) D
theorem sA(bR:dH)(L:Nat)(K:KT Y):∀ (n:Nat) (D:Ls) (E:Int) (z:Ls) (C:Int),dX (cC iw (iA bR L) 1 L n9) o4 n (kS D E z C) K=jd bR L (λD z C=>K (.exit 0) (pT D z C)) n D E z C:=by
 intro n; induction n <;> intros
 ·rfl
 ·exact (CE ..).trans (by simp only [*]; rfl)
def pa(bR:dH)(L:Nat)(F:Int)(z:Ls)(C:Int)(D:Ls->Ls->Int->Ob Y):Ob Y:=uW bR L F z C (λE H z C=>jd bR L (λE z C=>tz bR L E z C D) L E H z C)
theorem Ig(bR:dH)(L:Nat)(D:Int)(z:Ls)(C:Int)(k:KK Y):dj iw (iA bR L) L cf_mill_Deck_Seeds [(V.ptr 0 0),(QQe D)] [(.live false [(V.sl 1 z),(QQe C)])] k=pa bR L D z C (λE z C=>k (V.gs 1 E) [(.live false [(V.sl 1 z),(QQe C)])]):=by
 refine (HE bR L D z C k).trans ?_
 unfold pa
 first
  | (simp only [sA,AY]; done)
  | (simp only [sA]; rfl)
abbrev mU:=∀ (Y:Type),Nat->Int->Ls->Int->(Ls->Ls->Int->Ob Y)->Ob Y
def eZ:mU:=λY=>@pa Y bR
def pm(eZ:mU)(L:Nat)(Y:Type)(args:List V)(bor:Bor)(k:KK Y):Ob Y:=match args,bor with
 | [a0,a1],[(.live false [w0_0,w0_1])]=>aP 0 0 a0 (aI .i64 a1 λD=>aL 1 w0_0 λz=>aI .i64 w0_1 λC=>eZ Y L D z C (λE z C=>k (V.gs 1 E) [(.live false [(V.sl 1 z),(QQe C)])]))
 | _,_=>none
theorem HK(L:Nat)(Y:Type)(args:List V)(bor:Bor)(k:KK Y)(r:Y)(h:pm eZ L Y args bor k=some r):dj iw (iA bR L) L cf_mill_Deck_Seeds args bor k=some r:=by
 unfold pm at h
 split at h
 ·have q:=Gj h; clear h; obtain ⟨rfl,h⟩:=q
  have q:=tU h; clear h; obtain ⟨D,rfl,h⟩:=q
  have q:=AV h; clear h; obtain ⟨z,rfl,h⟩:=q
  have q:=tU h; clear h; obtain ⟨C,rfl,h⟩:=q
  exact (Ig bR L D z C k).trans h
 ·cases h
abbrev tm:=∀ (Y:Type),Nat->Int->Ls->(List V->Ob Y)->Ob Y
def gE:tm:=λY L z C kf=>opD (cN rows) 400 422 L Y [(QQa z),(V.sl 1 C)] [] λv _=>AG Y v λp=>kf p
def DD(gE:tm)(L:Nat):Dk:=dA (AI .u8) λz=>dA (AL 1) λC=>d0 λY k=>gE Y L z C (λD=>k (V.agg D) [])
theorem Qx(L:Nat):DK (DD gE L) (opD (cN rows) 400 422 L):=dl gm λz=>dl im λC=>Aq fN [(QQa z),(V.sl 1 C)] λ_ _ _=>rfl
def IR:CF:=cfD Ep 9
def BM:Nat->Sh:=fQ []
def Bv(bR:dH)(eZ:mU)(gE:tm)(L:Nat):CBC:=(d6 422 (DD gE L) (d6 423 (pm eZ L) (d6 231 (lW bR L) noC)))
def Dt(bR:dH)(eZ:mU)(gE:tm)(L:Nat)(H:Int)(C:Ls)(D:Int)(z:List V->Ls->Int->Ob Y):Ob Y:=bR Y L (256:Int) C D (λI J M=>lt (Wbf .u8 I) λN=>eZ Y L H J M (λO P Q=>gE Y L N O (λE=>chk ((WcJ E)=84/\0+84<=84) (lt (cD ([(QQc (0:Int))]++Wad 64 (QQa (0:Int))++[(QQc (0:Int)),(QQc (0:Int)),(QQc (0:Int)),(QQd (0:Int)),(QQd (0:Int)),(QQd (0:Int)),(QQd (0:Int)),(QQe (0:Int)),(QQc (0:Int)),(QQc (0:Int)),(QQc (0:Int)),(V.gs 33 ([]:Ls)),(QQe (0:Int)),(QQe (0:Int)),(QQe (0:Int)),(V.gs 69 ([]:Ls)),(V.gs 34 ([]:Ls)),(V.gs 36 ([]:Ls)),(V.gs 1 ([]:Ls))]) 0 E) λF=>chk (0=0/\(WcJ F)=84/\84≠0) (z F P Q)))))
theorem P3(bR:dH)(eZ:mU)(gE:tm)(L:Nat)(D:Int)(z:Ls)(C:Int)(k:KK Y):dj BM (Bv bR eZ gE L) L IR [(V.ptr 0 0),(QQe D)] [(.live false [(V.sl 1 z),(QQe C)])] k=Dt bR eZ gE L D z C (λE z C=>k (V.agg E) [(.live false [(V.sl 1 z),(QQe C)])]):=by kernel_rfl
abbrev hH:=∀ (Y:Type),Nat->Int->Ls->Int->(List V->Ls->Int->Ob Y)->Ob Y
def dh:hH:=λY=>@Dt Y bR eZ gE
def yb(dh:hH)(L:Nat)(Y:Type)(args:List V)(bor:Bor)(k:KK Y):Ob Y:=match args,bor with
 | [a0,a1],[(.live false [w0_0,w0_1])]=>aP 0 0 a0 (aI .i64 a1 λD=>aL 1 w0_0 λz=>aI .i64 w0_1 λC=>dh Y L D z C (λE z C=>k (V.agg E) [(.live false [(V.sl 1 z),(QQe C)])]))
 | _,_=>none
theorem Pb(L:Nat)(Y:Type)(args:List V)(bor:Bor)(k:KK Y)(r:Y)(h:yb dh L Y args bor k=some r):dj BM (Bv bR eZ gE L) L IR args bor k=some r:=by
 unfold yb at h
 split at h
 ·have q:=Gj h; clear h; obtain ⟨rfl,h⟩:=q
  have q:=tU h; clear h; obtain ⟨D,rfl,h⟩:=q
  have q:=AV h; clear h; obtain ⟨z,rfl,h⟩:=q
  have q:=tU h; clear h; obtain ⟨C,rfl,h⟩:=q
  exact (P3 bR eZ gE L D z C k).trans h
 ·cases h
def Gh:CF:=cfD DF 13
def zS:Nat->Sh:=fQ []
def z8(L:Nat):CBC:=noC
def BI(L:Nat)(C:Int)(z:Ls->Ob Y):Ob Y:=lt (Int.tmod C (6:Int)) λD=>lt (Wbf .u8 (((1:Int):Int)+D)) λE=>z (cz 1 4 [(QQa (1:Int)),(QQa (1:Int)),(QQa E),(QQa (5:Int))])
theorem O1(L:Nat)(z:Int)(k:KK Y):dj zS (z8 L) L Gh [(QQa z)] [] k=BI L z (λz=>k (V.gs 1 z) []):=by kernel_rfl
abbrev io:=∀ (Y:Type),Nat->Int->(Ls->Ob Y)->Ob Y
def dk:io:=λY=>@BI Y
def Bz(dk:io)(L:Nat):Dk:=dA (AI .u8) λz=>d0 λY k=>dk Y L z (λz=>k (V.gs 1 z) [])
theorem OQ(L:Nat):DK (Bz dk L) (λ_=>dj zS (z8 L) L Gh):=dl gm λz=>fy λ_ k=>O1 L z k
def cf_ref09_Compare:CF:=cfD A7 91
def qo:CC:=eS [1,0,1,0,0] cf_ref09_Compare.body
def uL:CC:=eS [1,1] cf_ref09_Compare.body
def iE:Nat->Sh:=fQ [(12,(.int .u8)),(16,(.int .u8)),(21,(.int .u8)),(25,(.int .u8)),(30,(.int .u32)),(32,(.int .u32)),(36,(.int .u32)),(38,(.int .u32))]
def iF(L:Nat):CBC:=noC
def rO:St->St:=fF 0 (bl 76 40) (bl 1099511627727 40)
def mh(z:Int)(C D:List V):St:=⟨(jn 2 ((V.ptr 2 0)::((V.ptr 3 0)::(jn 2 ((QQe z)::(jn 33 [])))))),(gn 2 ((.live true C)::((.live true D)::(gn 36 []))))⟩
def qP(z:Int):St:=⟨(jn 4 ((QQe z)::(jn 35 []))),(gn 40 [])⟩
def rY(z C:List V):St:=⟨(jn 2 ((V.ptr 2 0)::((V.ptr 3 0)::(jn 36 [])))),(gn 2 ((.live true z)::((.live true C)::(gn 36 []))))⟩
def yB(L:Nat)(C D:List V)(z:Int->List V->List V->Ob Y):Ob Y:=z (0:Int) C D
theorem KQ(L:Nat)(z C:List V)(k:KK Y):dj iE (iF L) L cf_ref09_Compare [(V.agg z),(V.agg C)] [] k=yB L z C (λD E F=>dX (cC iE (iF L) 0 L qo) rO L (mh D E F) (cW 0 (dN (cC iE (iF L) 0 L uL) (eo 0 (CF.res cf_ref09_Compare) k)))):=by kernel_rfl
def nT(L:Nat)(z:Int)(E F:List V)(C:Int->Ob Y)(D:Int->List V->List V->Ob Y)(H:List V->List V->Ob Y):Ob Y:=ifb (decide (z<(32:Int))) (chk (0<=z/\z<((32:Nat):Int)) (cI .u8 E (0+((WcL z)*1)) λI=>chk (0<=z/\z<((32:Nat):Int)) (cI .u8 F (0+((WcL z)*1)) λJ=>ifb (decide (I<J)) (C (-1:Int)) (chk (0<=z/\z<((32:Nat):Int)) (cI .u8 E (0+((WcL z)*1)) λM=>chk (0<=z/\z<((32:Nat):Int)) (cI .u8 F (0+((WcL z)*1)) λN=>ifb (decide (M>N)) (C (1:Int)) (lt (Wbf .i64 ((z:Int)+(1:Int))) λO=>D O E F))))))) (H E F)
theorem FS(L:Nat)(D:Int)(z C:List V)(X:St->Ob Y)(K:KT Y):cC iE (iF L) 0 L qo (mh D z C) (fO rO X K)=nT L D z C (λE=>K .ret (qP E)) (λD z C=>X (mh D z C)) (λz C=>K (.exit 0) (rY z C)):=by kernel_rfl
def vH(L:Nat)(C:Int)(z:Int->Ob Y):Ob Y:=z C
theorem CI(L:Nat)(z:Int)(k:KK Y):(cW 0 (dN (cC iE (iF L) 0 L uL) (eo 0 (CF.res cf_ref09_Compare) k))) .ret (qP z)=vH L z (λC=>k (QQe C) []):=by kernel_rfl
def pN(L:Nat)(C D:List V)(z:Int->Ob Y):Ob Y:=cI .u32 C 32 λE=>cI .u32 D 32 λF=>ifb (decide (E<F)) (z (-1:Int)) (cI .u32 C 32 λH=>cI .u32 D 32 λI=>ifb (decide (H>I)) (z (1:Int)) (z (0:Int)))
theorem Dg(L:Nat)(z C:List V)(k:KK Y):(cW 0 (dN (cC iE (iF L) 0 L uL) (eo 0 (CF.res cf_ref09_Compare) k))) (.exit 0) (rY z C)=pN L z C (λD=>k (QQe D) []):=by kernel_rfl
def kk(L:Nat)(z:Int->Ob Y)(C:List V->List V->Ob Y):Nat->Int->List V->List V->Ob Y
 | 0,_,_,_=>none
 | n+1,D,E,F=>nT L D E F z (λD E F=>kk L z C n D E F) C
theorem vx(L:Nat)(K:KT Y):∀ (n:Nat) (D:Int) (z C:List V),dX (cC iE (iF L) 0 L qo) rO n (mh D z C) K=kk L (λE=>K .ret (qP E)) (λz C=>K (.exit 0) (rY z C)) n D z C:=by
 intro n; induction n <;> intros
 ·rfl
 ·exact (FS ..).trans (by simp only [*]; rfl)
def sr(L:Nat)(E F:List V)(z:Int->Ob Y):Ob Y:=yB L E F (λH C D=>kk L (λI=>vH L I z) (λC D=>pN L C D z) L H C D)
theorem Kp(L:Nat)(z C:List V)(k:KK Y):dj iE (iF L) L cf_ref09_Compare [(V.agg z),(V.agg C)] [] k=sr L z C (λz=>k (QQe z) []):=by
 refine (KQ L z C k).trans ?_
 unfold sr
 first
  | (simp only [vx,CI,Dg]; done)
  | (simp only [vx]; rfl)
abbrev oJ:=∀ (Y:Type),Nat->List V->List V->(Int->Ob Y)->Ob Y
def fu:oJ:=λY=>@sr Y
def xH(fu:oJ)(L:Nat):Dk:=dA AG λz=>dA AG λC=>d0 λY k=>fu Y L z C (λz=>k (QQe z) [])
theorem JD(L:Nat):DK (xH fu L) (λ_=>dj iE (iF L) L cf_ref09_Compare):=dl fN λz=>dl fN λC=>fy λ_ k=>Kp L z C k
def E5:CF:=cfD Ck 59
def yX:Nat->Sh:=fQ [(21,(.int .i64)),(24,(.int .i64))]
def xo(fu:oJ)(L:Nat):CBC:=(d6 136 (xH fu L) noC)
def Ah(fu:oJ)(L:Nat)(C D:List V)(z:Bool->Ob Y):Ob Y:=chk (0+33<=(WcJ C)) (chk (0+33<=(WcJ D)) (fu Y L (WcK 33 C) (WcK 33 D) (λE=>ifb (decide (E<(0:Int))) (z true) (ifb ((E:Int)==(0:Int)) (cI .i64 C 35 λF=>cI .i64 D 35 λH=>z (decide (F<H))) (z false)))))
theorem Mr(fu:oJ)(L:Nat)(z C:List V)(k:KK Y):dj yX (xo fu L) L E5 [(V.agg z),(V.agg C)] [] k=Ah fu L z C (λz=>k (V.sc (.bool z)) []):=by kernel_rfl
abbrev dx:=∀ (Y:Type),Nat->List V->List V->(Bool->Ob Y)->Ob Y
def bQ:dx:=λY=>@Ah Y fu
def tX(bQ:dx)(L:Nat):Dk:=dA AG λz=>dA AG λC=>d0 λY k=>bQ Y L z C (λz=>k (V.sc (.bool z)) [])
theorem LZ(L:Nat):DK (tX bQ L) (λ_=>dj yX (xo fu L) L E5):=dl fN λz=>dl fN λC=>fy λ_ k=>Mr fu L z C k
def cf_ref29_Right:CF:=cfD C2 32
def tw:CC:=eS [1,0,1,0,0] cf_ref29_Right.body
def yx:CC:=eS [1,1] cf_ref29_Right.body
def ja:Nat->Sh:=fQ [(35,(.int .i64)),(39,(.int .i64)),(42,(.int .i64))]
def jb(bQ:dx)(L:Nat):CBC:=(d6 800 (tX bQ L) noC)
def u1:St->St:=fF 0 (bl 9 47) (bl 140737479966411 47)
def mX(z:Ls)(C:Int):St:=⟨((V.sl 38 z)::(jn 2 ((QQe C)::(jn 43 [])))),(gn 47 [])⟩
def tK(z:Bool):St:=⟨(jn 2 ((V.sc (.bool z))::(jn 44 []))),(gn 47 [])⟩
def vq:St:=⟨(jn 47 []),(gn 47 [])⟩
def BS(bQ:dx)(L:Nat)(C:Ls)(z:Ls->Int->Ob Y):Ob Y:=z C (1:Int)
theorem OU(bQ:dx)(L:Nat)(z:Ls)(k:KK Y):dj ja (jb bQ L) L cf_ref29_Right [(V.sl 38 z)] [] k=BS bQ L z (λz C=>dX (cC ja (jb bQ L) 0 L tw) u1 L (mX z C) (cW 0 (dN (cC ja (jb bQ L) 0 L yx) (eo 0 (CF.res cf_ref29_Right) k)))):=by kernel_rfl
def pg(bQ:dx)(L:Nat)(E:Ls)(F:Int)(C:Bool->Ob Y)(z:Ls->Int->Ob Y)(I:Ob Y):Ob Y:=ifb (decide (F<((WcJ E:Nat):Int))) (lt (Wbf .i64 ((F:Int)-(1:Int))) λP=>idx E P λJ=>idx E F λM=>chk ((WcJ (WcK 38 J))=38/\0+38<=38) (lt (cD (Wad 32 (QQa (0:Int))++[(QQc (0:Int)),(QQe (0:Int)),(V.gs 1 ([]:Ls)),(QQe (0:Int)),(V.sc (.bool false)),(QQe (0:Int))]) 0 (WcK 38 J)) λD=>chk ((WcJ (WcK 38 M))=38/\0+38<=38) (lt (cD (Wad 32 (QQa (0:Int))++[(QQc (0:Int)),(QQe (0:Int)),(V.gs 1 ([]:Ls)),(QQe (0:Int)),(V.sc (.bool false)),(QQe (0:Int))]) 0 (WcK 38 M)) λH=>chk (0+38<=(WcJ D)) (chk (0+38<=(WcJ H)) (bQ Y L (WbO V.ag (WcK 38 D)) (WbO V.ag (WcK 38 H)) (λQ=>ifb (!Q) (C false) (chk (0+33<=(WcJ D)) (chk (0+33<=(WcJ H)) (eqC 33 (WcK 33 D) (WcK 33 H) λR=>ifb R (cI .i64 D 37 λS=>ifb ((S:Int)==(0:Int)) (C false) (cI .i64 D 37 λT=>cI .i64 H 35 λU=>ifb (decide (T>U)) (C false) (lt (Wbf .i64 ((F:Int)+(1:Int))) λN=>z E N))) (lt (Wbf .i64 ((F:Int)+(1:Int))) λO=>z E O)))))))))) (I)
theorem Ib(bQ:dx)(L:Nat)(z:Ls)(C:Int)(X:St->Ob Y)(K:KT Y):cC ja (jb bQ L) 0 L tw (mX z C) (fO u1 X K)=pg bQ L z C (λD=>K .ret (tK D)) (λz C=>X (mX z C)) (K (.exit 0) (vq)):=by kernel_rfl
def xV(bQ:dx)(L:Nat)(C:Bool)(z:Bool->Ob Y):Ob Y:=z C
theorem Eg(bQ:dx)(L:Nat)(z:Bool)(k:KK Y):(cW 0 (dN (cC ja (jb bQ L) 0 L yx) (eo 0 (CF.res cf_ref29_Right) k))) .ret (tK z)=xV bQ L z (λC=>k (V.sc (.bool C)) []):=by kernel_rfl
def zr(bQ:dx)(L:Nat)(z:Bool->Ob Y):Ob Y:=z true
theorem Gb(bQ:dx)(L:Nat)(k:KK Y):(cW 0 (dN (cC ja (jb bQ L) 0 L yx) (eo 0 (CF.res cf_ref29_Right) k))) (.exit 0) (vq)=zr bQ L (λz=>k (V.sc (.bool z)) []):=by kernel_rfl
def lC(bQ:dx)(L:Nat)(z:Bool->Ob Y)(C:Ob Y):Nat->Ls->Int->Ob Y
 | 0,_,_=>none
 | n+1,D,E=>pg bQ L D E z (λD E=>lC bQ L z C n D E) C
theorem xJ(bQ:dx)(L:Nat)(K:KT Y):∀ (n:Nat) (z:Ls) (C:Int),dX (cC ja (jb bQ L) 0 L tw) u1 n (mX z C) K=lC bQ L (λD=>K .ret (tK D)) (K (.exit 0) (vq)) n z C:=by
 intro n; induction n <;> intros
 ·rfl
 ·exact (Ib ..).trans (by simp only [*]; rfl)
def vU(bQ:dx)(L:Nat)(C:Ls)(z:Bool->Ob Y):Ob Y:=BS bQ L C (λC D=>lC bQ L (λE=>xV bQ L E z) (zr bQ L z) L C D)
theorem OM(bQ:dx)(L:Nat)(z:Ls)(k:KK Y):dj ja (jb bQ L) L cf_ref29_Right [(V.sl 38 z)] [] k=vU bQ L z (λz=>k (V.sc (.bool z)) []):=by
 refine (OU bQ L z k).trans ?_
 unfold vU
 first
  | (simp only [xJ,Eg,Gb]; done)
  | (simp only [xJ]; rfl)
abbrev eK:=∀ (Y:Type),Nat->Ls->(Bool->Ob Y)->Ob Y
def cv:eK:=λY=>@vU Y bQ
def BX(cv:eK)(L:Nat):Dk:=dA (AL 38) λz=>d0 λY k=>cv Y L z (λz=>k (V.sc (.bool z)) [])
theorem NV(L:Nat):DK (BX cv L) (λ_=>dj ja (jb bQ L) L cf_ref29_Right):=dl im λz=>fy λ_ k=>OM bQ L z k
def M5:CF:=cfD IF 33
def FD:Nat->Sh:=fQ []
def FA(L:Nat):CBC:=noC
def HA(L:Nat)(C D E:Int)(z:Bool->Ob Y):Ob Y:=ifb (decide (C>=D)) (z (decide (C<=E))) (z false)
theorem UA(L:Nat)(z C D:Int)(k:KK Y):dj FD (FA L) L M5 [(QQe z),(QQe C),(QQe D)] [] k=HA L z C D (λz=>k (V.sc (.bool z)) []):=by kernel_rfl
abbrev dT:=∀ (Y:Type),Nat->Int->Int->Int->(Bool->Ob Y)->Ob Y
def cd:dT:=λY=>@HA Y
def xY(cd:dT)(L:Nat):Dk:=dA (AI .i64) λz=>dA (AI .i64) λC=>dA (AI .i64) λD=>d0 λY k=>cd Y L z C D (λz=>k (V.sc (.bool z)) [])
theorem UG(L:Nat):DK (xY cd L) (λ_=>dj FD (FA L) L M5):=dl gm λz=>dl gm λC=>dl gm λD=>fy λ_ k=>UA L z C D k
def cf_ref30_find:CF:=cfD Ew 34
def vo:CC:=eS [1,0,1,0,0] cf_ref30_find.body
def Ad:CC:=eS [1,1] cf_ref30_find.body
def jP:Nat->Sh:=fQ [(8,(.sl 3)),(14,(.sl 3)),(18,(.sl 1))]
def jS(L:Nat):CBC:=noC
def wJ:St->St:=fF 0 (bl 38 24) (bl 16776687 24)
def nN(z:Ls)(C:Int)(D:List V):St:=⟨(jn 1 ((V.sl 1 z)::((V.ptr 2 0)::(jn 2 ((QQe C)::(jn 18 [])))))),(gn 2 ((.live true D)::(gn 21 [])))⟩
def vj(z:Int):St:=⟨(jn 4 ((QQe z)::(jn 19 []))),(gn 24 [])⟩
def wS:St:=⟨(jn 24 []),(gn 24 [])⟩
def Dd(L:Nat)(C:List V)(D:Ls)(z:Ls->Int->List V->Ob Y):Ob Y:=z D (0:Int) C
theorem Qf(L:Nat)(C:List V)(z:Ls)(k:KK Y):dj jP (jS L) L cf_ref30_find [(V.agg C),(V.sl 1 z)] [] k=Dd L C z (λz D E=>dX (cC jP (jS L) 0 L vo) wJ L (nN z D E) (cW 0 (dN (cC jP (jS L) 0 L Ad) (eo 0 (CF.res cf_ref30_find) k)))):=by kernel_rfl
def wG(L:Nat)(H:Ls)(C:Int)(E:List V)(D:Int->Ob Y)(z:Ls->Int->List V->Ob Y)(F:Ob Y):Ob Y:=cLd 3 E 0 λI=>ifb (decide (C<((WcJ I:Nat):Int))) (cLd 3 E 0 λJ=>idx J C λM=>cL 1 M 0 λN=>zz N λO=>zz H λP=>ifb (ByteArray.toList O==ByteArray.toList P) (D C) (lt (Wbf .i64 ((C:Int)+(1:Int))) λQ=>z H Q E)) (F)
theorem Jk(L:Nat)(z:Ls)(C:Int)(D:List V)(X:St->Ob Y)(K:KT Y):cC jP (jS L) 0 L vo (nN z C D) (fO wJ X K)=wG L z C D (λE=>K .ret (vj E)) (λz C D=>X (nN z C D)) (K (.exit 0) (wS)):=by kernel_rfl
def ze(L:Nat)(C:Int)(z:Int->Ob Y):Ob Y:=z C
theorem FE(L:Nat)(z:Int)(k:KK Y):(cW 0 (dN (cC jP (jS L) 0 L Ad) (eo 0 (CF.res cf_ref30_find) k))) .ret (vj z)=ze L z (λC=>k (QQe C) []):=by kernel_rfl
def Bo(L:Nat)(z:Int->Ob Y):Ob Y:=z (-1:Int)
theorem GM(L:Nat)(k:KK Y):(cW 0 (dN (cC jP (jS L) 0 L Ad) (eo 0 (CF.res cf_ref30_find) k))) (.exit 0) (wS)=Bo L (λz=>k (QQe z) []):=by kernel_rfl
def nG(L:Nat)(z:Int->Ob Y)(C:Ob Y):Nat->Ls->Int->List V->Ob Y
 | 0,_,_,_=>none
 | n+1,D,E,F=>wG L D E F z (λD E F=>nG L z C n D E F) C
theorem zh(L:Nat)(K:KT Y):∀ (n:Nat) (z:Ls) (C:Int) (D:List V),dX (cC jP (jS L) 0 L vo) wJ n (nN z C D) K=nG L (λE=>K .ret (vj E)) (K (.exit 0) (wS)) n z C D:=by
 intro n; induction n <;> intros
 ·rfl
 ·exact (Jk ..).trans (by simp only [*]; rfl)
def ye(L:Nat)(D:List V)(C:Ls)(z:Int->Ob Y):Ob Y:=Dd L D C (λC E F=>nG L (λH=>ze L H z) (Bo L z) L C E F)
theorem PP(L:Nat)(z:List V)(C:Ls)(k:KK Y):dj jP (jS L) L cf_ref30_find [(V.agg z),(V.sl 1 C)] [] k=ye L z C (λz=>k (QQe z) []):=by
 refine (Qf L z C k).trans ?_
 unfold ye
 first
  | (simp only [zh,FE,GM]; done)
  | (simp only [zh]; rfl)
abbrev eG:=∀ (Y:Type),Nat->List V->Ls->(Int->Ob Y)->Ob Y
def ck:eG:=λY=>@ye Y
def xW(ck:eG)(L:Nat):Dk:=dA AG λz=>dA (AL 1) λC=>d0 λY k=>ck Y L z C (λz=>k (QQe z) [])
theorem Qa(L:Nat):DK (xW ck L) (λ_=>dj jP (jS L) L cf_ref30_find):=dl fN λz=>dl im λC=>fy λ_ k=>PP L z C k
def Ng:CF:=cfD IU 60
def FN:Nat->Sh:=fQ []
def FO(L:Nat):CBC:=noC
def Io(L:Nat)(C D E:Int)(z:Bool->Ob Y):Ob Y:=ifb (decide (C>=D)) (z (decide (C<=E))) (z false)
theorem Ut(L:Nat)(z C D:Int)(k:KK Y):dj FN (FO L) L Ng [(QQe z),(QQe C),(QQe D)] [] k=Io L z C D (λz=>k (V.sc (.bool z)) []):=by kernel_rfl
abbrev yn:=∀ (Y:Type),Nat->Int->Int->Int->(Bool->Ob Y)->Ob Y
def hI:yn:=λY=>@Io Y
def Ik(hI:yn)(L:Nat):Dk:=dA (AI .i64) λz=>dA (AI .i64) λC=>dA (AI .i64) λD=>d0 λY k=>hI Y L z C D (λz=>k (V.sc (.bool z)) [])
theorem UC(L:Nat):DK (Ik hI L) (λ_=>dj FN (FO L) L Ng):=dl gm λz=>dl gm λC=>dl gm λD=>fy λ_ k=>Ut L z C D k
def Fg:CF:=cfD Cf 35
def yg:Nat->Sh:=fQ [(10,(.int .i64)),(15,(.int .i64)),(21,(.sl 1)),(27,(.int .i64)),(33,(.int .i64)),(37,(.int .i64)),(39,(.int .i64))]
def xT(hI:yn)(L:Nat):CBC:=(d6 791 (Ik hI L) noC)
def zE(hI:yn)(L:Nat)(C:List V)(E:Int)(z:Bool->Ob Y):Ob Y:=chk (0+37<=(WcJ C)) (chk ((WcJ (WcK 37 C))=37/\0+37<=37) (lt (cD (Wad 32 (QQa (0:Int))++[(QQc (0:Int)),(QQe (0:Int)),(V.gs 1 ([]:Ls)),(QQe (0:Int)),(V.sc (.bool false))]) 0 (WcK 37 C)) λD=>cI .i64 D 33 λF=>ifb (decide (F>=(0:Int))) (cI .i64 D 33 λH=>ifb (decide (H<=(2100000000000000:Int))) (cLd 1 D 34 λI=>ifb (decide (((WcJ I:Nat):Int)<=(520:Int))) (cI .i64 D 35 λJ=>hI Y L J (1:Int) E (λM=>ifb M (cI .i64 C 37 λN=>ifb ((N:Int)==(0:Int)) (z true) (cI .i64 C 37 λO=>cI .i64 D 35 λP=>hI Y L O P E (λQ=>z Q))) (z false))) (z false)) (z false)) (z false)))
theorem Mu(hI:yn)(L:Nat)(z:List V)(C:Int)(k:KK Y):dj yg (xT hI L) L Fg [(V.agg z),(QQe C)] [] k=zE hI L z C (λz=>k (V.sc (.bool z)) []):=by kernel_rfl
abbrev d7:=∀ (Y:Type),Nat->List V->Int->(Bool->Ob Y)->Ob Y
def cm:d7:=λY=>@zE Y hI
def zZ(cm:d7)(L:Nat):Dk:=dA AG λz=>dA (AI .i64) λC=>d0 λY k=>cm Y L z C (λz=>k (V.sc (.bool z)) [])
theorem Md(L:Nat):DK (zZ cm L) (λ_=>dj yg (xT hI L) L Fg):=dl fN λz=>dl gm λC=>fy λ_ k=>Mu hI L z C k
def cf_ref30_Sound:CF:=cfD De 12
def qI:CC:=eS [1,1,1,0,1,0,0] cf_ref30_Sound.body
def rV:CC:=eS [1,1,0,1,0,0] cf_ref30_Sound.body
def uU:CC:=eS [1,1,1,1] cf_ref30_Sound.body
def qp:CC:=eS [1,1,1] cf_ref30_Sound.body
def fL:Nat->Sh:=fQ [(8,(.sl 3)),(13,(.sl 38)),(19,(.sl 38)),(25,(.sl 3)),(31,(.sl 3)),(36,(.sl 1)),(41,(.sl 1)),(47,(.int .i64)),(53,(.int .i64)),(55,(.int .i64)),(63,(.sl 1)),(70,(.sl 38)),(77,(.sl 38)),(83,(.sl 1)),(89,(.sl 38)),(94,(.int .i64)),(96,(.sl 3)),(100,(.int .i64)),(105,(.sl 38)),(110,(.sl 3)),(114,(.int .i64))]
def fH(cv:eK)(cd:dT)(ck:eG)(cm:d7)(L:Nat):CBC:=(d6 793 (zZ cm L) (d6 832 (xW ck L) (d6 831 (xY cd L) (d6 792 (BX cv L) noC))))
def sS:St->St:=fF 0 (bl 10 118) (bl 332306998946228949634806492755394539 118)
def rU:St->St:=fF 0 (bl 34 118) (bl 290768624058605172900632292818419627 118)
def mH(z:Int)(C:List V):St:=⟨(jn 1 ((V.ptr 1 0)::(jn 1 ((QQe z)::(jn 114 []))))),(gn 1 ((.live true C)::(gn 116 [])))⟩
def kO(z:Bool):St:=⟨(jn 2 ((V.sc (.bool z))::(jn 115 []))),(gn 118 [])⟩
def ph(z:List V):St:=⟨(jn 1 ((V.ptr 1 0)::(jn 116 []))),(gn 1 ((.live true z)::(gn 116 [])))⟩
def l5(z:Int)(C:List V):St:=⟨(jn 1 ((V.ptr 1 0)::(jn 3 ((QQe z)::(jn 112 []))))),(gn 1 ((.live true C)::(gn 116 [])))⟩
def vl:St:=⟨(jn 118 []),(gn 118 [])⟩
def BD(cv:eK)(cd:dT)(ck:eG)(cm:d7)(L:Nat)(D:List V)(z:Bool->Ob Y)(C:Int->List V->Ob Y):Ob Y:=cLd 3 D 0 λE=>ifb (decide (((WcJ E:Nat):Int)>(1000:Int))) (z false) (cLd 38 D 1 λF=>ifb (decide (((WcJ F:Nat):Int)>(4096:Int))) (z false) (cLd 38 D 1 λH=>cv Y L H (λI=>ifb (!I) (z false) (C (0:Int) D))))
theorem OO(cv:eK)(cd:dT)(ck:eG)(cm:d7)(L:Nat)(z:List V)(k:KK Y):dj fL (fH cv cd ck cm L) L cf_ref30_Sound [(V.agg z)] [] k=BD cv cd ck cm L z (λz=>k (V.sc (.bool z)) []) (λC D=>dX (cC fL (fH cv cd ck cm L) 0 L rV) sS L (mH C D) (cW 0 (dN (cC fL (fH cv cd ck cm L) 0 L qp) (eo 0 (CF.res cf_ref30_Sound) k)))):=by kernel_rfl
def oG(cv:eK)(cd:dT)(ck:eG)(cm:d7)(L:Nat)(F:Int)(D:List V)(z:Bool->Ob Y)(C:Int->List V->Ob Y)(H:List V->Ob Y):Ob Y:=cLd 3 D 0 λU=>ifb (decide (F<((WcJ U:Nat):Int))) (cLd 3 D 0 λc9=>idx c9 F λI=>chk ((WcJ (WcK 3 I))=3/\0+3<=3) (lt (cD [(V.gs 1 ([]:Ls)),(QQe (0:Int)),(QQe (0:Int))] 0 (WcK 3 I)) λE=>cLd 1 E 0 λX=>ifb ((((WcJ X:Nat):Int):Int)==(0:Int)) (z false) (cLd 1 E 0 λc8=>ifb (decide (((WcJ c8:Nat):Int)>(520:Int))) (z false) (cI .i64 E 1 λJ=>cd Y L J (1:Int) (16777216:Int) (λM=>ifb (!M) (z false) (cI .i64 E 2 λN=>cI .i64 E 1 λO=>lt (Wbf .i64 ((O:Int)-(1:Int))) λP=>cd Y L N P (16777216:Int) (λQ=>ifb (!Q) (z false) (chk (0+2<=(WcJ D)) (cLd 1 E 0 λR=>ck Y L (WbO V.ag (WcK 2 D)) R (λS=>ifb ((S:Int) != F) (z false) (lt (Wbf .i64 ((F:Int)+(1:Int))) λT=>C T D))))))))))) (H D)
theorem Hg(cv:eK)(cd:dT)(ck:eG)(cm:d7)(L:Nat)(C:Int)(z:List V)(X:St->Ob Y)(K:KT Y):cC fL (fH cv cd ck cm L) 0 L rV (mH C z) (fO sS X K)=oG cv cd ck cm L C z (λD=>K .ret (kO D)) (λC z=>X (mH C z)) (λz=>K (.exit 0) (ph z)):=by kernel_rfl
def xj(cv:eK)(cd:dT)(ck:eG)(cm:d7)(L:Nat)(C:Bool)(z:Bool->Ob Y):Ob Y:=z C
theorem Do(cv:eK)(cd:dT)(ck:eG)(cm:d7)(L:Nat)(z:Bool)(k:KK Y):(cW 0 (dN (cC fL (fH cv cd ck cm L) 0 L qp) (eo 0 (CF.res cf_ref30_Sound) k))) .ret (kO z)=xj cv cd ck cm L z (λC=>k (V.sc (.bool C)) []):=by kernel_rfl
def xG(cv:eK)(cd:dT)(ck:eG)(cm:d7)(L:Nat)(C:List V)(z:Int->List V->Ob Y):Ob Y:=z (0:Int) C
theorem Eh(cv:eK)(cd:dT)(ck:eG)(cm:d7)(L:Nat)(z:List V)(k:KK Y):(cW 0 (dN (cC fL (fH cv cd ck cm L) 0 L qp) (eo 0 (CF.res cf_ref30_Sound) k))) (.exit 0) (ph z)=xG cv cd ck cm L z (λC z=>dX (cC fL (fH cv cd ck cm L) 0 L qI) rU L (l5 C z) (cW 2 (dN (cC fL (fH cv cd ck cm L) 0 L uU) (eo 0 (CF.res cf_ref30_Sound) k)))):=by kernel_rfl
def lS(cv:eK)(cd:dT)(ck:eG)(cm:d7)(L:Nat)(E:Int)(z:List V)(C:Bool->Ob Y)(D:Int->List V->Ob Y)(H:Ob Y):Ob Y:=cLd 38 z 1 λI=>ifb (decide (E<((WcJ I:Nat):Int))) (chk (0+2<=(WcJ z)) (cLd 38 z 1 λJ=>idx J E λM=>cL 1 (WcM 1 (WcM 33 M)) 0 λN=>ck Y L (WbO V.ag (WcK 2 z)) N (λF=>ifb (decide (F<(0:Int))) (C false) (cLd 38 z 1 λO=>idx O E λP=>cI .i64 (WcM 35 P) 0 λQ=>cLd 3 z 0 λR=>idx R F λS=>cI .i64 (WcM 1 S) 0 λT=>ifb (decide (Q<T)) (C false) (cLd 38 z 1 λU=>idx U E λc9=>cLd 3 z 0 λX=>idx X F λc8=>cI .i64 (WcM 2 c8) 0 λb9=>cm Y L (WbO V.ag (WcK 38 c9)) b9 (λaa=>ifb (!aa) (C false) (lt (Wbf .i64 ((E:Int)+(1:Int))) λab=>D ab z))))))) (H)
theorem FL(cv:eK)(cd:dT)(ck:eG)(cm:d7)(L:Nat)(z:Int)(C:List V)(X:St->Ob Y)(K:KT Y):cC fL (fH cv cd ck cm L) 0 L qI (l5 z C) (fO rU X K)=lS cv cd ck cm L z C (λD=>K .ret (kO D)) (λz C=>X (l5 z C)) (K (.exit 2) (vl)):=by kernel_rfl
def vN(cv:eK)(cd:dT)(ck:eG)(cm:d7)(L:Nat)(C:Bool)(z:Bool->Ob Y):Ob Y:=z C
theorem Cn(cv:eK)(cd:dT)(ck:eG)(cm:d7)(L:Nat)(z:Bool)(k:KK Y):(cW 2 (dN (cC fL (fH cv cd ck cm L) 0 L uU) (eo 0 (CF.res cf_ref30_Sound) k))) .ret (kO z)=vN cv cd ck cm L z (λC=>k (V.sc (.bool C)) []):=by kernel_rfl
def xa(cv:eK)(cd:dT)(ck:eG)(cm:d7)(L:Nat)(z:Bool->Ob Y):Ob Y:=z true
theorem Dq(cv:eK)(cd:dT)(ck:eG)(cm:d7)(L:Nat)(k:KK Y):(cW 2 (dN (cC fL (fH cv cd ck cm L) 0 L uU) (eo 0 (CF.res cf_ref30_Sound) k))) (.exit 2) (vl)=xa cv cd ck cm L (λz=>k (V.sc (.bool z)) []):=by kernel_rfl
def kN(cv:eK)(cd:dT)(ck:eG)(cm:d7)(L:Nat)(z:Bool->Ob Y)(C:List V->Ob Y):Nat->Int->List V->Ob Y
 | 0,_,_=>none
 | n+1,D,E=>oG cv cd ck cm L D E z (λD E=>kN cv cd ck cm L z C n D E) C
theorem w9(cv:eK)(cd:dT)(ck:eG)(cm:d7)(L:Nat)(K:KT Y):∀ (n:Nat) (C:Int) (z:List V),dX (cC fL (fH cv cd ck cm L) 0 L rV) sS n (mH C z) K=kN cv cd ck cm L (λD=>K .ret (kO D)) (λz=>K (.exit 0) (ph z)) n C z:=by
 intro n; induction n <;> intros
 ·rfl
 ·exact (Hg ..).trans (by simp only [*]; rfl)
def jm(cv:eK)(cd:dT)(ck:eG)(cm:d7)(L:Nat)(z:Bool->Ob Y)(C:Ob Y):Nat->Int->List V->Ob Y
 | 0,_,_=>none
 | n+1,D,E=>lS cv cd ck cm L D E z (λD E=>jm cv cd ck cm L z C n D E) C
theorem vJ(cv:eK)(cd:dT)(ck:eG)(cm:d7)(L:Nat)(K:KT Y):∀ (n:Nat) (z:Int) (C:List V),dX (cC fL (fH cv cd ck cm L) 0 L qI) rU n (l5 z C) K=jm cv cd ck cm L (λD=>K .ret (kO D)) (K (.exit 2) (vl)) n z C:=by
 intro n; induction n <;> intros
 ·rfl
 ·exact (FL ..).trans (by simp only [*]; rfl)
def pV(cv:eK)(cd:dT)(ck:eG)(cm:d7)(L:Nat)(C:List V)(z:Bool->Ob Y):Ob Y:=xG cv cd ck cm L C (λD C=>jm cv cd ck cm L (λE=>vN cv cd ck cm L E z) (xa cv cd ck cm L z) L D C)
theorem Dz(cv:eK)(cd:dT)(ck:eG)(cm:d7)(L:Nat)(z:List V)(k:KK Y):(cW 0 (dN (cC fL (fH cv cd ck cm L) 0 L qp) (eo 0 (CF.res cf_ref30_Sound) k))) (.exit 0) (ph z)=pV cv cd ck cm L z (λC=>k (V.sc (.bool C)) []):=by
 refine (Eh cv cd ck cm L z k).trans ?_
 unfold pV
 first
  | (simp only [vJ,Cn,Dq]; done)
  | (simp only [vJ]; rfl)
def vV(cv:eK)(cd:dT)(ck:eG)(cm:d7)(L:Nat)(D:List V)(z:Bool->Ob Y):Ob Y:=BD cv cd ck cm L D z (λE C=>kN cv cd ck cm L (λF=>xj cv cd ck cm L F z) (λC=>pV cv cd ck cm L C z) L E C)
theorem NJ(cv:eK)(cd:dT)(ck:eG)(cm:d7)(L:Nat)(z:List V)(k:KK Y):dj fL (fH cv cd ck cm L) L cf_ref30_Sound [(V.agg z)] [] k=vV cv cd ck cm L z (λz=>k (V.sc (.bool z)) []):=by
 refine (OO cv cd ck cm L z k).trans ?_
 unfold vV
 first
  | (simp only [w9,Do,Dz]; done)
  | (simp only [w9]; rfl)
abbrev fC:=∀ (Y:Type),Nat->List V->(Bool->Ob Y)->Ob Y
def cF:fC:=λY=>@vV Y cv cd ck cm
def rc(cF:fC)(L:Nat):Dk:=dA AG λz=>d0 λY k=>cF Y L z (λz=>k (V.sc (.bool z)) [])
theorem Ny(L:Nat):DK (rc cF L) (λ_=>dj fL (fH cv cd ck cm L) L cf_ref30_Sound):=dl fN λz=>fy λ_ k=>NJ cv cd ck cm L z k
def E6:CF:=cfD Cb 29
def yl:Nat->Sh:=fQ [(1,(.row [(.sl 3),(.sl 38)]))]
def xZ(L:Nat):CBC:=noC
def zA(L:Nat)(E:List V)(z:Nat->Nat->List V->List V->Ob Y):Ob Y:=chk (WcJ E=2) (cL 3 E 0 λC=>cL 38 E 1 λD=>chk ((0+WcJ C)*40<=cy/\0+WcJ C<=cy) (chk ((0+WcJ D)*96<=cy/\0+WcJ D<=cy) (z (WcJ C) (WcJ D) (WcN C) (WcN D))))
theorem MT(L:Nat)(D:List V)(k:KK Y):dj yl (xZ L) L E6 [(V.agg D)] [] k=zA L D (λz C E F=>k (V.st [(V.own 0 0 z 3),(V.own 1 0 C 38)]) [(.live true E),(.live true F)]):=by kernel_rfl
abbrev dW:=∀ (Y:Type),Nat->List V->(Nat->Nat->List V->List V->Ob Y)->Ob Y
def ca:dW:=λY=>@zA Y
def pp(ca:dW)(L:Nat):Dk:=dA AG λD=>d0 λY k=>ca Y L D (λz C E F=>k (V.st [(V.own 0 0 z 3),(V.own 1 0 C 38)]) [(.live true E),(.live true F)])
theorem MB(L:Nat):DK (pp ca L) (λ_=>dj yl (xZ L) L E6):=dl fN λz=>fy λ_ k=>MT L z k
def JF:CF:=cfD GJ 16
def DO:Nat->Sh:=fQ [(16,(.sl 3))]
def Dh(cF:fC)(cd:dT)(ck:eG)(ca:dW)(L:Nat):CBC:=(d6 829 (pp ca L) (d6 832 (xW ck L) (d6 831 (xY cd L) (d6 817 (rc cF L) noC))))
def FX(cF:fC)(cd:dT)(ck:eG)(ca:dW)(L:Nat)(C:List V)(E:Ls)(D:Int)(z:List V->Int->Ob Y):Ob Y:=chk (0+2<=(WcJ C)) (cF Y L (WbO V.ag (WcK 2 C)) (λN=>ifb (!N) (z [(V.sl 3 ([]:Ls)),(V.sl 38 ([]:Ls))] (6:Int)) (cLd 3 C 0 λO=>ifb (decide (((WcJ O:Nat):Int)>=(1000:Int))) (z [(V.sl 3 ([]:Ls)),(V.sl 38 ([]:Ls))] (4:Int)) (ifb (decide (((WcJ E:Nat):Int)>(520:Int))) (z [(V.sl 3 ([]:Ls)),(V.sl 38 ([]:Ls))] (4:Int)) (ifb ((((WcJ E:Nat):Int):Int)==(0:Int)) (z [(V.sl 3 ([]:Ls)),(V.sl 38 ([]:Ls))] (93:Int)) (cd Y L D (1:Int) (16777216:Int) (λP=>ifb (!P) (z [(V.sl 3 ([]:Ls)),(V.sl 38 ([]:Ls))] (5:Int)) (chk (0+2<=(WcJ C)) (ck Y L (WbO V.ag (WcK 2 C)) E (λQ=>ifb (decide (Q>=(0:Int))) (z [(V.sl 3 ([]:Ls)),(V.sl 38 ([]:Ls))] (150:Int)) (chk (0+2<=(WcJ C)) (ca Y L (WbO V.ag (WcK 2 C)) (λF R J S=>chk ((WcJ ([]:Ls)+WcJ E)*1<=cy/\WcJ ([]:Ls)+WcJ E<=cy) (lt (([]:Ls)++E) λH=>lt (Wbf .i64 ((D:Int)-(1:Int))) λI=>chk ((F+WcJ (cz 3 1 [(V.sl 1 H),(QQe D),(QQe I)]))*40<=cy/\(F+WcJ (cz 3 1 [(V.sl 1 H),(QQe D),(QQe I)]))<=cy/\((F+WcJ (cz 3 1 [(V.sl 1 H),(QQe D),(QQe I)]))≠0∨(WcJ J)=0)) (lt (WcK (F*3) J++WcN (cz 3 1 [(V.sl 1 H),(QQe D),(QQe I)])) λM=>z [(V.sl 3 (cz 3 (F+WcJ (cz 3 1 [(V.sl 1 H),(QQe D),(QQe I)])) M)),(V.sl 38 (cz 38 R S))] (0:Int))))))))))))))))
theorem RM(cF:fC)(cd:dT)(ck:eG)(ca:dW)(L:Nat)(D:List V)(E:Ls)(F:Int)(k:KK Y):dj DO (Dh cF cd ck ca L) L JF [(V.agg D),(V.sl 1 E),(QQe F)] [] k=FX cF cd ck ca L D E F (λz C=>k (V.ah [(V.agg z),(QQe C)]) []):=by kernel_rfl
abbrev i9:=∀ (Y:Type),Nat->List V->Ls->Int->(List V->Int->Ob Y)->Ob Y
def dz:i9:=λY=>@FX Y cF cd ck ca
def F0(dz:i9)(L:Nat):Dk:=dA AG λD=>dA (AL 1) λE=>dA (AI .i64) λF=>d0 λY k=>dz Y L D E F (λz C=>k (V.ah [(V.agg z),(QQe C)]) [])
theorem R6(L:Nat):DK (F0 dz L) (λ_=>dj DO (Dh cF cd ck ca L) L JF):=dl fN λz=>dl im λC=>dl gm λD=>fy λ_ k=>RM cF cd ck ca L z C D k
def cf_ref29_Back:CF:=cfD ES 50
def s6:CC:=eS [1,1,0,1,0,0] cf_ref29_Back.body
def El:CC:=eS [1,1,1] cf_ref29_Back.body
def kE:Nat->Sh:=fQ [(20,(.int .i64)),(24,(.int .i64))]
def kD(L:Nat):CBC:=noC
def uO:St->St:=fF 0 (bl 99 33) (bl 5368707967 33)
def nk(z:Ls)(C:Int)(D:Ls)(E:Int):St:=⟨((V.sl 38 z)::((QQe C)::(jn 3 ((V.gs 38 D)::((QQe E)::(jn 26 [])))))),(gn 33 [])⟩
def wI(z:Ls):St:=⟨(jn 5 ((V.gs 38 z)::(jn 27 []))),(gn 33 [])⟩
def D1(L:Nat)(C:Ls)(D:Int)(z:Ls->Int->Ls->Int->Ob Y):Ob Y:=z C D ([]:Ls) (0:Int)
theorem QI(L:Nat)(z:Ls)(C:Int)(k:KK Y):dj kE (kD L) L cf_ref29_Back [(V.sl 38 z),(QQe C)] [] k=D1 L z C (λz C D E=>dX (cC kE (kD L) 0 L s6) uO L (nk z C D E) (cW 0 (dN (cC kE (kD L) 0 L El) (eo 0 (CF.res cf_ref29_Back) k)))):=by kernel_rfl
def lx(L:Nat)(E:Ls)(F:Int)(D:Ls)(H:Int)(z:Ls->Int->Ls->Int->Ob Y)(J:Ls->Ob Y):Ob Y:=ifb (decide (H<((WcJ E:Nat):Int))) (idx E H λM=>chk ((WcJ (WcK 38 M))=38/\0+38<=38) (lt (cD (Wad 32 (QQa (0:Int))++[(QQc (0:Int)),(QQe (0:Int)),(V.gs 1 ([]:Ls)),(QQe (0:Int)),(V.sc (.bool false)),(QQe (0:Int))]) 0 (WcK 38 M)) λC=>cI .i64 C 35 λN=>ifb (decide (N>F)) (lt (Wbf .i64 ((H:Int)+(1:Int))) λO=>z E F D O) (cI .i64 C 37 λP=>ifb (decide (P>F)) (chk (1=1/\37+1<=(WcJ C)) (lt (cD C 37 [(QQe (0:Int))]) λI=>chk (0+38<=(WcJ I)) (chk ((WcJ (WcK 38 I))=38/\0+38<=38) (chk ((WcJ D+WcJ (cz 38 1 (cD (Wad 32 (QQa (0:Int))++[(QQc (0:Int)),(QQe (0:Int)),(V.sl 1 ([]:Ls)),(QQe (0:Int)),(V.sc (.bool false)),(QQe (0:Int))]) 0 (WcK 38 I))))*96<=cy/\WcJ D+WcJ (cz 38 1 (cD (Wad 32 (QQa (0:Int))++[(QQc (0:Int)),(QQe (0:Int)),(V.sl 1 ([]:Ls)),(QQe (0:Int)),(V.sc (.bool false)),(QQe (0:Int))]) 0 (WcK 38 I)))<=cy) (lt (D++(cz 38 1 (cD (Wad 32 (QQa (0:Int))++[(QQc (0:Int)),(QQe (0:Int)),(V.sl 1 ([]:Ls)),(QQe (0:Int)),(V.sc (.bool false)),(QQe (0:Int))]) 0 (WcK 38 I)))) λQ=>lt (Wbf .i64 ((H:Int)+(1:Int))) λR=>z E F Q R))))) (chk (0+38<=(WcJ C)) (chk ((WcJ (WcK 38 C))=38/\0+38<=38) (chk ((WcJ D+WcJ (cz 38 1 (cD (Wad 32 (QQa (0:Int))++[(QQc (0:Int)),(QQe (0:Int)),(V.sl 1 ([]:Ls)),(QQe (0:Int)),(V.sc (.bool false)),(QQe (0:Int))]) 0 (WcK 38 C))))*96<=cy/\WcJ D+WcJ (cz 38 1 (cD (Wad 32 (QQa (0:Int))++[(QQc (0:Int)),(QQe (0:Int)),(V.sl 1 ([]:Ls)),(QQe (0:Int)),(V.sc (.bool false)),(QQe (0:Int))]) 0 (WcK 38 C)))<=cy) (lt (D++(cz 38 1 (cD (Wad 32 (QQa (0:Int))++[(QQc (0:Int)),(QQe (0:Int)),(V.sl 1 ([]:Ls)),(QQe (0:Int)),(V.sc (.bool false)),(QQe (0:Int))]) 0 (WcK 38 C)))) λS=>lt (Wbf .i64 ((H:Int)+(1:Int))) λT=>z E F S T))))))) (J D)
theorem Iv(L:Nat)(C:Ls)(D:Int)(z:Ls)(E:Int)(X:St->Ob Y)(K:KT Y):cC kE (kD L) 0 L s6 (nk C D z E) (fO uO X K)=lx L C D z E (λC D z E=>X (nk C D z E)) (λz=>K (.exit 0) (wI z)):=by kernel_rfl
def zc(L:Nat)(C:Ls)(z:Ls->Ob Y):Ob Y:=z C
theorem Fx(L:Nat)(z:Ls)(k:KK Y):(cW 0 (dN (cC kE (kD L) 0 L El) (eo 0 (CF.res cf_ref29_Back) k))) (.exit 0) (wI z)=zc L z (λC=>k (V.gs 38 C) []):=by kernel_rfl
def jg(L:Nat)(z:Ls->Ob Y):Nat->Ls->Int->Ls->Int->Ob Y
 | 0,_,_,_,_=>none
 | n+1,C,D,E,F=>lx L C D E F (λC D E F=>jg L z n C D E F) z
theorem yR(L:Nat)(K:KT Y):∀ (n:Nat) (C:Ls) (D:Int) (z:Ls) (E:Int),dX (cC kE (kD L) 0 L s6) uO n (nk C D z E) K=jg L (λz=>K (.exit 0) (wI z)) n C D z E:=by
 intro n; induction n <;> intros
 ·rfl
 ·exact (Iv ..).trans (by simp only [*]; rfl)
def xp(L:Nat)(C:Ls)(D:Int)(z:Ls->Ob Y):Ob Y:=D1 L C D (λC D E F=>jg L (λE=>zc L E z) L C D E F)
theorem O5(L:Nat)(z:Ls)(C:Int)(k:KK Y):dj kE (kD L) L cf_ref29_Back [(V.sl 38 z),(QQe C)] [] k=xp L z C (λz=>k (V.gs 38 z) []):=by
 refine (QI L z C k).trans ?_
 unfold xp
 first
  | (simp only [yR,Fx]; done)
  | (simp only [yR]; rfl)
abbrev iO:=∀ (Y:Type),Nat->Ls->Int->(Ls->Ob Y)->Ob Y
def dy:iO:=λY=>@xp Y
def Dy(dy:iO)(L:Nat):Dk:=dA (AL 38) λz=>dA (AI .i64) λC=>d0 λY k=>dy Y L z C (λz=>k (V.gs 38 z) [])
theorem P2(L:Nat):DK (Dy dy L) (λ_=>dj kE (kD L) L cf_ref29_Back):=dl im λz=>dl gm λC=>fy λ_ k=>O5 L z C k
def cf_ref30_Rewind:CF:=cfD Ce 24
def oV:CC:=eS [1,1,1,1,0,1,0,0] cf_ref30_Rewind.body
def zd:CC:=eS [1,1,1,1,1] cf_ref30_Rewind.body
def jx:Nat->Sh:=fQ [(33,(.int .i64)),(41,(.int .i64)),(47,(.sl 38))]
def jv(cF:fC)(cd:dT)(ca:dW)(dy:iO)(L:Nat):CBC:=(d6 797 (Dy dy L) (d6 829 (pp ca L) (d6 831 (xY cd L) (d6 817 (rc cF L) noC))))
def pE:St->St:=fF 0 (bl 214 52) (bl 4494769172512767 52)
def kX(I J:Int)(M:List V)(D E:Ls)(z C:Nat)(F H:List V):St:=⟨(jn 1 ((QQe I)::((V.ptr 2 0)::(jn 1 ((V.ptr 4 0)::(jn 1 ((V.ptr 6 0)::((QQe J)::(jn 44 []))))))))),(gn 2 ((.live true M)::(gn 1 ((.live false [(V.gs 3 D),(V.gs 38 E)])::(gn 1 ((.live false [(V.own 10 0 z 3),(V.own 14 0 C 38)])::(gn 3 ((.live true F)::(gn 3 ((.live true H)::(gn 37 [])))))))))))⟩
def tf(I:Int)(J:List V)(D E:Ls)(z C:Nat)(F H:List V):St:=⟨(jn 1 ((QQe I)::((V.ptr 2 0)::(jn 1 ((V.ptr 4 0)::(jn 1 ((V.ptr 6 0)::(jn 45 [])))))))),(gn 2 ((.live true J)::(gn 1 ((.live false [(V.gs 3 D),(V.gs 38 E)])::(gn 1 ((.live false [(V.own 10 0 z 3),(V.own 14 0 C 38)])::(gn 3 ((.live true F)::(gn 3 ((.live true H)::(gn 37 [])))))))))))⟩
abbrev vz(Y:Type):Type:=Int->Int->List V->Ls->Ls->Nat->Nat->List V->List V->Ob Y
abbrev wR(Y:Type):Type:=Int->List V->Ls->Ls->Nat->Nat->List V->List V->Ob Y
def pB(cF:fC)(cd:dT)(ca:dW)(dy:iO)(L:Nat)(D:List V)(E:Int)(C:List V->Int->Ob Y)(z:vz Y):Ob Y:=chk (0+2<=(WcJ D)) (cF Y L (WbO V.ag (WcK 2 D)) (λF=>ifb (!F) (C [(V.sl 3 ([]:Ls)),(V.sl 38 ([]:Ls))] (6:Int)) (cd Y L E (0:Int) (16777216:Int) (λH=>ifb (!H) (C [(V.sl 3 ([]:Ls)),(V.sl 38 ([]:Ls))] (5:Int)) (chk (0+2<=(WcJ D)) (ca Y L (WbO V.ag (WcK 2 D)) (λI J M N=>z E (0:Int) D ([]:Ls) ([]:Ls) I J M N)))))))
theorem Mt(cF:fC)(cd:dT)(ca:dW)(dy:iO)(L:Nat)(J:List V)(z:Int)(k:KK Y):dj jx (jv cF cd ca dy L) L cf_ref30_Rewind [(V.agg J),(QQe z)] [] k=pB cF cd ca dy L J z (λE F=>k (V.ah [(V.agg E),(QQe F)]) []) (λz O P H I C D M N=>dX (cC jx (jv cF cd ca dy L) 0 L oV) pE L (kX z O P H I C D M N) (cW 0 (dN (cC jx (jv cF cd ca dy L) 0 L zd) (eo 0 (CF.res cf_ref30_Rewind) k)))):=by kernel_rfl
def mF(cF:fC)(cd:dT)(ca:dW)(dy:iO)(L:Nat)(M C:Int)(O:List V)(H I:Ls)(z F:Nat)(E J:List V)(D:vz Y)(N:wR Y):Ob Y:=ifb (decide (C<((z:Nat):Int))) (chk (0<=C/\C<((z:Nat):Int)) (cI .i64 E ((0+((WcL C)*3))+2) λS=>lt (Lc S M) λT=>chk (0<=C/\C<((z:Nat):Int)) (cI .i64 E ((0+((WcL C)*3))+1) λU=>lt (Wbf .i64 ((U:Int)-(1:Int))) λc9=>lt (Vu T c9) λP=>chk (0<=C/\C<((z:Nat):Int)) (chk (1=1/\((0+((WcL C)*3))+2)+1<=(WcJ E)) (lt (cD E ((0+((WcL C)*3))+2) [(QQe P)]) λQ=>lt (Wbf .i64 ((C:Int)+(1:Int))) λR=>D M R O H I z F Q J))))) (N M O H I z F E J)
theorem C3(cF:fC)(cd:dT)(ca:dW)(dy:iO)(L:Nat)(I M:Int)(J:List V)(D E:Ls)(z C:Nat)(F H:List V)(X:St->Ob Y)(K:KT Y):cC jx (jv cF cd ca dy L) 0 L oV (kX I M J D E z C F H) (fO pE X K)=mF cF cd ca dy L I M J D E z C F H (λI M J D E z C F H=>X (kX I M J D E z C F H)) (λI J D E z C F H=>K (.exit 0) (tf I J D E z C F H)):=by kernel_rfl
def od(cF:fC)(cd:dT)(ca:dW)(dy:iO)(L:Nat)(I:Int)(J:List V)(M N:Ls)(z H:Nat)(D O:List V)(C:List V->Int->Ob Y):Ob Y:=cLd 38 J 1 λE=>dy Y L E I (λF=>C [(V.sl 3 (cz 3 z D)),(V.sl 38 F)] (0:Int))
theorem BZ(cF:fC)(cd:dT)(ca:dW)(dy:iO)(L:Nat)(M:Int)(N:List V)(D E:Ls)(z C:Nat)(F H:List V)(k:KK Y):(cW 0 (dN (cC jx (jv cF cd ca dy L) 0 L zd) (eo 0 (CF.res cf_ref30_Rewind) k))) (.exit 0) (tf M N D E z C F H)=od cF cd ca dy L M N D E z C F H (λI J=>k (V.ah [(V.agg I),(QQe J)]) []):=by kernel_rfl
def jF(cF:fC)(cd:dT)(ca:dW)(dy:iO)(L:Nat)(F:wR Y):Nat->Int->Int->List V->Ls->Ls->Nat->Nat->List V->List V->Ob Y
 | 0,_,_,_,_,_,_,_,_,_=>none
 | n+1,J,M,N,D,E,z,C,H,I=>mF cF cd ca dy L J M N D E z C H I (λJ M N D E z C H I=>jF cF cd ca dy L F n J M N D E z C H I) F
theorem s5(cF:fC)(cd:dT)(ca:dW)(dy:iO)(L:Nat)(K:KT Y):∀ (n:Nat) (I M:Int) (J:List V) (D E:Ls) (z C:Nat) (F H:List V),dX (cC jx (jv cF cd ca dy L) 0 L oV) pE n (kX I M J D E z C F H) K=jF cF cd ca dy L (λI J D E z C F H=>K (.exit 0) (tf I J D E z C F H)) n I M J D E z C F H:=by
 intro n; induction n <;> intros
 ·rfl
 ·exact (C3 ..).trans (by simp only [*]; rfl)
def nu(cF:fC)(cd:dT)(ca:dW)(dy:iO)(L:Nat)(N:List V)(H:Int)(F:List V->Int->Ob Y):Ob Y:=pB cF cd ca dy L N H F (λH O M D E z C I J=>jF cF cd ca dy L (λH M D E z C I J=>od cF cd ca dy L H M D E z C I J F) L H O M D E z C I J)
theorem Mk(cF:fC)(cd:dT)(ca:dW)(dy:iO)(L:Nat)(z:List V)(C:Int)(k:KK Y):dj jx (jv cF cd ca dy L) L cf_ref30_Rewind [(V.agg z),(QQe C)] [] k=nu cF cd ca dy L z C (λD E=>k (V.ah [(V.agg D),(QQe E)]) []):=by
 refine (Mt cF cd ca dy L z C k).trans ?_
 unfold nu
 first
  | (simp only [s5,BZ]; done)
  | (simp only [s5]; rfl)
abbrev gO:=∀ (Y:Type),Nat->List V->Int->(List V->Int->Ob Y)->Ob Y
def cS:gO:=λY=>@nu Y cF cd ca dy
def z9(cS:gO)(L:Nat):Dk:=dA AG λD=>dA (AI .i64) λE=>d0 λY k=>cS Y L D E (λz C=>k (V.ah [(V.agg z),(QQe C)]) [])
theorem Mg(L:Nat):DK (z9 cS L) (λ_=>dj jx (jv cF cd ca dy L) L cf_ref30_Rewind):=dl fN λz=>dl gm λC=>fy λ_ k=>Mk cF cd ca dy L z C k
def cf_ref30_Reached:CF:=cfD AS 22
def pq:CC:=eS [1,1,0,1,0,0] cf_ref30_Reached.body
def AO:CC:=eS [1,1,1] cf_ref30_Reached.body
def iW:Nat->Sh:=fQ [(7,(.sl 3)),(25,(.sl 3)),(29,(.int .i64)),(16,(.sl 3)),(20,(.int .i64))]
def iT(L:Nat):CBC:=noC
def qq:St->St:=fF 0 (bl 26 31) (bl 2147483391 31)
def lN(z C:Int)(D:List V):St:=⟨(jn 1 ((V.ptr 1 0)::(jn 1 ((QQe z)::((QQe C)::(jn 26 [])))))),(gn 1 ((.live true D)::(gn 29 [])))⟩
def rH(z:Int):St:=⟨(jn 3 ((QQe z)::(jn 27 []))),(gn 31 [])⟩
def yO(L:Nat)(C:List V)(z:Int->Int->List V->Ob Y):Ob Y:=z (-1:Int) (0:Int) C
theorem Lh(L:Nat)(z:List V)(k:KK Y):dj iW (iT L) L cf_ref30_Reached [(V.agg z)] [] k=yO L z (λC D E=>dX (cC iW (iT L) 0 L pq) qq L (lN C D E) (cW 0 (dN (cC iW (iT L) 0 L AO) (eo 0 (CF.res cf_ref30_Reached) k)))):=by kernel_rfl
def qA(L:Nat)(E C:Int)(D:List V)(z:Int->Int->List V->Ob Y)(F:Int->Ob Y):Ob Y:=cLd 3 D 0 λM=>ifb (decide (C<((WcJ M:Nat):Int))) (ifb (decide (E<(0:Int))) (cLd 3 D 0 λN=>idx N C λO=>cI .i64 (WcM 2 O) 0 λP=>lt (Wbf .i64 ((C:Int)+(1:Int))) λQ=>z P Q D) (cLd 3 D 0 λR=>idx R C λS=>cI .i64 (WcM 2 S) 0 λT=>ifb (decide (T<E)) (cLd 3 D 0 λU=>idx U C λc9=>cI .i64 (WcM 2 c9) 0 λH=>lt (Wbf .i64 ((C:Int)+(1:Int))) λI=>z H I D) (lt (Wbf .i64 ((C:Int)+(1:Int))) λJ=>z E J D))) (F E)
theorem Eb(L:Nat)(z C:Int)(D:List V)(X:St->Ob Y)(K:KT Y):cC iW (iT L) 0 L pq (lN z C D) (fO qq X K)=qA L z C D (λz C D=>X (lN z C D)) (λz=>K (.exit 0) (rH z)):=by kernel_rfl
def vv(L:Nat)(C:Int)(z:Int->Ob Y):Ob Y:=z C
theorem Co(L:Nat)(z:Int)(k:KK Y):(cW 0 (dN (cC iW (iT L) 0 L AO) (eo 0 (CF.res cf_ref30_Reached) k))) (.exit 0) (rH z)=vv L z (λC=>k (QQe C) []):=by kernel_rfl
def lp(L:Nat)(z:Int->Ob Y):Nat->Int->Int->List V->Ob Y
 | 0,_,_,_=>none
 | n+1,C,D,E=>qA L C D E (λC D E=>lp L z n C D E) z
theorem uH(L:Nat)(K:KT Y):∀ (n:Nat) (z C:Int) (D:List V),dX (cC iW (iT L) 0 L pq) qq n (lN z C D) K=lp L (λz=>K (.exit 0) (rH z)) n z C D:=by
 intro n; induction n <;> intros
 ·rfl
 ·exact (Eb ..).trans (by simp only [*]; rfl)
def sC(L:Nat)(D:List V)(z:Int->Ob Y):Ob Y:=yO L D (λC E F=>lp L (λC=>vv L C z) L C E F)
theorem KX(L:Nat)(z:List V)(k:KK Y):dj iW (iT L) L cf_ref30_Reached [(V.agg z)] [] k=sC L z (λz=>k (QQe z) []):=by
 refine (Lh L z k).trans ?_
 unfold sC
 first
  | (simp only [uH,Co]; done)
  | (simp only [uH]; rfl)
abbrev de:=∀ (Y:Type),Nat->List V->(Int->Ob Y)->Ob Y
def bO:de:=λY=>@sC Y
def mD(bO:de)(L:Nat):Dk:=dA AG λz=>d0 λY k=>bO Y L z (λz=>k (QQe z) [])
theorem K6(L:Nat):DK (mD bO L) (λ_=>dj iW (iT L) L cf_ref30_Reached):=dl fN λz=>fy λ_ k=>KX L z k
def cf_ref30_due:CF:=cfD GP 45
def vn:CC:=eS [1,1,0,1,0,0] cf_ref30_due.body
def GA:CC:=eS [1,1,1] cf_ref30_due.body
def lf:Nat->Sh:=fQ [(7,(.sl 3)),(13,(.sl 3)),(17,(.int .i64)),(23,(.sl 3)),(27,(.sl 1))]
def lj(bO:de)(L:Nat):CBC:=(d6 825 (mD bO L) noC)
def wy:St->St:=fF 0 (bl 26 31) (bl 1341652735 31)
def nP(z:Ls)(C:Int)(D:List V):St:=⟨(jn 1 ((V.ptr 1 0)::(jn 1 ((V.gs 1 z)::((QQe C)::(jn 26 [])))))),(gn 1 ((.live true D)::(gn 29 [])))⟩
def xM(z:Ls):St:=⟨(jn 3 ((V.gs 1 z)::(jn 27 []))),(gn 31 [])⟩
def Ft(bO:de)(L:Nat)(C:List V)(z:Ls->Int->List V->Ob Y):Ob Y:=z ([]:Ls) (0:Int) C
theorem R7(bO:de)(L:Nat)(z:List V)(k:KK Y):dj lf (lj bO L) L cf_ref30_due [(V.agg z)] [] k=Ft bO L z (λC D E=>dX (cC lf (lj bO L) 0 L vn) wy L (nP C D E) (cW 0 (dN (cC lf (lj bO L) 0 L GA) (eo 0 (CF.res cf_ref30_due) k)))):=by kernel_rfl
def wF(bO:de)(L:Nat)(D:Ls)(E:Int)(C:List V)(z:Ls->Int->List V->Ob Y)(F:Ls->Ob Y):Ob Y:=cLd 3 C 0 λJ=>ifb (decide (E<((WcJ J:Nat):Int))) (cLd 3 C 0 λM=>idx M E λN=>cI .i64 (WcM 2 N) 0 λO=>chk (0+2<=(WcJ C)) (bO Y L (WbO V.ag (WcK 2 C)) (λP=>ifb ((O:Int)==P) (cLd 3 C 0 λQ=>idx Q E λR=>cL 1 R 0 λH=>chk ((WcJ D+WcJ (cz 1 1 [(V.sl 1 H)]))*24<=cy/\WcJ D+WcJ (cz 1 1 [(V.sl 1 H)])<=cy) (lt (D++(cz 1 1 [(V.sl 1 H)])) λS=>lt (Wbf .i64 ((E:Int)+(1:Int))) λT=>z S T C)) (lt (Wbf .i64 ((E:Int)+(1:Int))) λI=>z D I C)))) (F D)
theorem Jf(bO:de)(L:Nat)(z:Ls)(C:Int)(D:List V)(X:St->Ob Y)(K:KT Y):cC lf (lj bO L) 0 L vn (nP z C D) (fO wy X K)=wF bO L z C D (λz C D=>X (nP z C D)) (λz=>K (.exit 0) (xM z)):=by kernel_rfl
def tg(bO:de)(L:Nat)(C:Ls)(z:Ls->Ob Y):Ob Y:=z C
theorem Hc(bO:de)(L:Nat)(z:Ls)(k:KK Y):(cW 0 (dN (cC lf (lj bO L) 0 L GA) (eo 0 (CF.res cf_ref30_due) k))) (.exit 0) (xM z)=tg bO L z (λC=>k (V.gs 1 C) []):=by kernel_rfl
def nF(bO:de)(L:Nat)(z:Ls->Ob Y):Nat->Ls->Int->List V->Ob Y
 | 0,_,_,_=>none
 | n+1,C,D,E=>wF bO L C D E (λC D E=>nF bO L z n C D E) z
theorem zq(bO:de)(L:Nat)(K:KT Y):∀ (n:Nat) (z:Ls) (C:Int) (D:List V),dX (cC lf (lj bO L) 0 L vn) wy n (nP z C D) K=nF bO L (λz=>K (.exit 0) (xM z)) n z C D:=by
 intro n; induction n <;> intros
 ·rfl
 ·exact (Jf ..).trans (by simp only [*]; rfl)
def At(bO:de)(L:Nat)(D:List V)(z:Ls->Ob Y):Ob Y:=Ft bO L D (λC E F=>nF bO L (λC=>tg bO L C z) L C E F)
theorem SX(bO:de)(L:Nat)(z:List V)(k:KK Y):dj lf (lj bO L) L cf_ref30_due [(V.agg z)] [] k=At bO L z (λz=>k (V.gs 1 z) []):=by
 refine (R7 bO L z k).trans ?_
 unfold At
 first
  | (simp only [zq,Hc]; done)
  | (simp only [zq]; rfl)
abbrev ic:=∀ (Y:Type),Nat->List V->(Ls->Ob Y)->Ob Y
def cZ:ic:=λY=>@At Y bO
def As(cZ:ic)(L:Nat):Dk:=dA AG λz=>d0 λY k=>cZ Y L z (λz=>k (V.gs 1 z) [])
theorem RS(L:Nat):DK (As cZ L) (λ_=>dj lf (lj bO L) L cf_ref30_due):=dl fN λz=>fy λ_ k=>SX bO L z k
def II:CF:=cfD ED 69
def Bu:Nat->Sh:=fQ []
def BU(L:Nat):CBC:=noC
def CZ(L:Nat)(C D:Ls)(z:Bool->Ob Y):Ob Y:=zz C λE=>zz D λF=>z (ByteArray.toList E==ByteArray.toList F)
theorem Rt(L:Nat)(z C:Ls)(k:KK Y):dj Bu (BU L) L II [(V.sl 1 z),(V.sl 1 C)] [] k=CZ L z C (λz=>k (V.sc (.bool z)) []):=by kernel_rfl
abbrev gT:=∀ (Y:Type),Nat->Ls->Ls->(Bool->Ob Y)->Ob Y
def dr:gT:=λY=>@CZ Y
def Dl(dr:gT)(L:Nat):Dk:=dA (AL 1) λz=>dA (AL 1) λC=>d0 λY k=>dr Y L z C (λz=>k (V.sc (.bool z)) [])
theorem Q1(L:Nat):DK (Dl dr L) (λ_=>dj Bu (BU L) L II):=dl im λz=>dl im λC=>fy λ_ k=>Rt L z C k
def cf_ref29_Has:CF:=cfD G7 46
def wq:CC:=eS [1,0,1,0,0] cf_ref29_Has.body
def Bx:CC:=eS [1,1] cf_ref29_Has.body
def kn:Nat->Sh:=fQ [(15,(.sl 1))]
def km(dr:gT)(L:Nat):CBC:=(d6 130 (Dl dr L) noC)
def yr:St->St:=fF 0 (bl 35 18) (bl 130799 18)
def oi(z C:Ls)(D:Int):St:=⟨((V.sl 1 z)::((V.sl 1 C)::(jn 3 ((QQe D)::(jn 12 []))))),(gn 18 [])⟩
def wk(z:Bool):St:=⟨(jn 4 ((V.sc (.bool z))::(jn 13 []))),(gn 18 [])⟩
def yP:St:=⟨(jn 18 []),(gn 18 [])⟩
def FV(dr:gT)(L:Nat)(C D:Ls)(z:Ls->Ls->Int->Ob Y):Ob Y:=z C D (0:Int)
theorem To(dr:gT)(L:Nat)(z C:Ls)(k:KK Y):dj kn (km dr L) L cf_ref29_Has [(V.sl 1 z),(V.sl 1 C)] [] k=FV dr L z C (λz C D=>dX (cC kn (km dr L) 0 L wq) yr L (oi z C D) (cW 0 (dN (cC kn (km dr L) 0 L Bx) (eo 0 (CF.res cf_ref29_Has) k)))):=by kernel_rfl
def yN(dr:gT)(L:Nat)(D H:Ls)(E:Int)(C:Bool->Ob Y)(z:Ls->Ls->Int->Ob Y)(F:Ob Y):Ob Y:=ifb (decide (E<((WcJ D:Nat):Int))) (idx D E λI=>cL 1 I 0 λJ=>dr Y L J H (λM=>ifb M (C true) (lt (Wbf .i64 ((E:Int)+(1:Int))) λN=>z D H N))) (F)
theorem KE(dr:gT)(L:Nat)(z C:Ls)(D:Int)(X:St->Ob Y)(K:KT Y):cC kn (km dr L) 0 L wq (oi z C D) (fO yr X K)=yN dr L z C D (λE=>K .ret (wk E)) (λz C D=>X (oi z C D)) (K (.exit 0) (yP)):=by kernel_rfl
def sT(dr:gT)(L:Nat)(C:Bool)(z:Bool->Ob Y):Ob Y:=z C
theorem GW(dr:gT)(L:Nat)(z:Bool)(k:KK Y):(cW 0 (dN (cC kn (km dr L) 0 L Bx) (eo 0 (CF.res cf_ref29_Has) k))) .ret (wk z)=sT dr L z (λC=>k (V.sc (.bool C)) []):=by kernel_rfl
def u9(dr:gT)(L:Nat)(z:Bool->Ob Y):Ob Y:=z false
theorem Hu(dr:gT)(L:Nat)(k:KK Y):(cW 0 (dN (cC kn (km dr L) 0 L Bx) (eo 0 (CF.res cf_ref29_Has) k))) (.exit 0) (yP)=u9 dr L (λz=>k (V.sc (.bool z)) []):=by kernel_rfl
def oE(dr:gT)(L:Nat)(z:Bool->Ob Y)(C:Ob Y):Nat->Ls->Ls->Int->Ob Y
 | 0,_,_,_=>none
 | n+1,D,E,F=>yN dr L D E F z (λD E F=>oE dr L z C n D E F) C
theorem AW(dr:gT)(L:Nat)(K:KT Y):∀ (n:Nat) (z C:Ls) (D:Int),dX (cC kn (km dr L) 0 L wq) yr n (oi z C D) K=oE dr L (λE=>K .ret (wk E)) (K (.exit 0) (yP)) n z C D:=by
 intro n; induction n <;> intros
 ·rfl
 ·exact (KE ..).trans (by simp only [*]; rfl)
def Av(dr:gT)(L:Nat)(C D:Ls)(z:Bool->Ob Y):Ob Y:=FV dr L C D (λC D E=>oE dr L (λF=>sT dr L F z) (u9 dr L z) L C D E)
theorem SY(dr:gT)(L:Nat)(z C:Ls)(k:KK Y):dj kn (km dr L) L cf_ref29_Has [(V.sl 1 z),(V.sl 1 C)] [] k=Av dr L z C (λz=>k (V.sc (.bool z)) []):=by
 refine (To dr L z C k).trans ?_
 unfold Av
 first
  | (simp only [AW,GW,Hu]; done)
  | (simp only [AW]; rfl)
abbrev dc:=∀ (Y:Type),Nat->Ls->Ls->(Bool->Ob Y)->Ob Y
def bM:dc:=λY=>@Av Y dr
def vO(bM:dc)(L:Nat):Dk:=dA (AL 1) λz=>dA (AL 1) λC=>d0 λY k=>bM Y L z C (λz=>k (V.sc (.bool z)) [])
theorem Tn(L:Nat):DK (vO bM L) (λ_=>dj kn (km dr L) L cf_ref29_Has):=dl im λz=>dl im λC=>fy λ_ k=>SY dr L z C k
def zm:CF:=cfD xm 71
def sg:Nat->Sh:=fQ []
def rR(cA:fm)(L:Nat):CBC:=(d6 193 (pR cA L) noC)
def ta(cA:fm)(L:Nat)(D:Ls)(C:List V)(z:Ls->Ob Y):Ob Y:=chk (0+32*1<=(WcJ C)) (ifb (List.isEmpty C) (cA Y L D (cz 1 32 C) (λE=>z E)) (cA Y L D (cz 1 32 C) (λF=>z F)))
theorem GK(cA:fm)(L:Nat)(z:Ls)(C:List V)(k:KK Y):dj sg (rR cA L) L zm [(V.sl 1 z),(V.agg C)] [] k=ta cA L z C (λz=>k (V.gs 1 z) []):=by kernel_rfl
abbrev mC:=∀ (Y:Type),Nat->Ls->List V->(Ls->Ob Y)->Ob Y
def e7:mC:=λY=>@ta Y cA
def sO(e7:mC)(L:Nat):Dk:=dA (AL 1) λz=>dA AG λC=>d0 λY k=>e7 Y L z C (λz=>k (V.gs 1 z) [])
theorem Gx(L:Nat):DK (sO e7 L) (λ_=>dj sg (rR cA L) L zm):=dl im λz=>dl fN λC=>fy λ_ k=>GK cA L z C k
def cf_ref01_little:CF:=cfD Ch 96
def qC:CC:=eS [1,1,0,1,0,0] cf_ref01_little.body
def B7:CC:=eS [1,1,1] cf_ref01_little.body
def jq:Nat->Sh:=fQ []
def jr(L:Nat):CBC:=noC
def sj:St->St:=fF 0 (bl 3105 24) (bl 16777151 24)
def mn(E:Int)(z:Nat)(C D:Int)(F:List V):St:=⟨((QQd E)::(jn 4 ((V.own 8 0 z 1)::(jn 4 ((QQe C)::((QQe D)::(jn 12 []))))))),(gn 8 ((.live true F)::(gn 15 [])))⟩
def tq(z:Nat)(C:List V):St:=⟨(jn 5 ((V.own 8 0 z 1)::(jn 18 []))),(gn 8 ((.live true C)::(gn 15 [])))⟩
def GR(L:Nat)(D z:Int)(C:Int->Nat->Int->Int->List V->Ob Y):Ob Y:=chk (0<=z/\z<=z/\(WcL z)*1<=cy/\z<=cy) (C D (WcL z) (((WcL z):Nat):Int) (0:Int) (WcN (Wad (WcL z) [(QQa (0:Int))])))
theorem Mf(L:Nat)(z C:Int)(k:KK Y):dj jq (jr L) L cf_ref01_little [(QQd z),(QQe C)] [] k=GR L z C (λz D E F H=>dX (cC jq (jr L) 0 L qC) sj L (mn z D E F H) (cW 0 (dN (cC jq (jr L) 0 L B7) (eo 0 (CF.res cf_ref01_little) k)))):=by kernel_rfl
def zn(L:Nat)(I:Int)(D:Nat)(E z:Int)(F:List V)(C:Int->Nat->Int->Int->List V->Ob Y)(H:Nat->List V->Ob Y):Ob Y:=ifb (decide (z<E)) (lt (Wbf .i64 (((8:Int):Int)*z)) λJ=>chk (0<=J) (lt (JI .u64 I J) λM=>lt (Wbf .u8 M) λN=>chk (0<=z/\z<((D:Nat):Int)) (chk (1=1/\(0+((WcL z)*1))+1<=(WcJ F)) (lt (cD F (0+((WcL z)*1)) [(QQa N)]) λO=>lt (Wbf .i64 ((z:Int)+(1:Int))) λP=>C I D E P O)))) (H D F)
theorem FT(L:Nat)(F:Int)(z:Nat)(C D:Int)(E:List V)(X:St->Ob Y)(K:KT Y):cC jq (jr L) 0 L qC (mn F z C D E) (fO sj X K)=zn L F z C D E (λF z C D E=>X (mn F z C D E)) (λz E=>K (.exit 0) (tq z E)):=by kernel_rfl
def xd(L:Nat)(C:Nat)(D:List V)(z:Ls->Ob Y):Ob Y:=chk (C≠0∨(WcJ D)=0) (z (cz 1 C D))
theorem Dw(L:Nat)(z:Nat)(C:List V)(k:KK Y):(cW 0 (dN (cC jq (jr L) 0 L B7) (eo 0 (CF.res cf_ref01_little) k))) (.exit 0) (tq z C)=xd L z C (λD=>k (V.fr 1 D) []):=by kernel_rfl
def rI(L:Nat)(z:Nat->List V->Ob Y):Nat->Int->Nat->Int->Int->List V->Ob Y
 | 0,_,_,_,_,_=>none
 | n+1,F,C,D,E,H=>zn L F C D E H (λF C D E H=>rI L z n F C D E H) z
theorem vE(L:Nat)(K:KT Y):∀ (n:Nat) (F:Int) (z:Nat) (D E:Int) (C:List V),dX (cC jq (jr L) 0 L qC) sj n (mn F z D E C) K=rI L (λz C=>K (.exit 0) (tq z C)) n F z D E C:=by
 intro n; induction n <;> intros
 ·rfl
 ·exact (FT ..).trans (by simp only [*]; rfl)
def zM(L:Nat)(D I:Int)(C:Ls->Ob Y):Ob Y:=GR L D I (λD z F H E=>rI L (λz E=>xd L z E C) L D z F H E)
theorem Mw(L:Nat)(z C:Int)(k:KK Y):dj jq (jr L) L cf_ref01_little [(QQd z),(QQe C)] [] k=zM L z C (λz=>k (V.fr 1 z) []):=by
 refine (Mf L z C k).trans ?_
 unfold zM
 first
  | (simp only [vE,Dw]; done)
  | (simp only [vE]; rfl)
abbrev pQ:=∀ (Y:Type),Nat->Int->Int->(Ls->Ob Y)->Ob Y
def fT:pQ:=λY=>@zM Y
def zI(fT:pQ)(L:Nat):Dk:=dA (AI .u64) λz=>dA (AI .i64) λC=>d0 λY k=>fT Y L z C (λz=>k (V.fr 1 z) [])
theorem MP(L:Nat):DK (zI fT L) (λ_=>dj jq (jr L) L cf_ref01_little):=dl gm λz=>dl gm λC=>fy λ_ k=>Mw L z C k
def AU:CF:=cfD yD 70
def sN:Nat->Sh:=fQ []
def tT(fT:pQ)(cA:fm)(L:Nat):CBC:=(d6 193 (pR cA L) (d6 194 (zI fT L) noC))
def uJ(fT:pQ)(cA:fm)(L:Nat)(C:Ls)(D:Int)(z:Ls->Ob Y):Ob Y:=lt (Wbf .u64 D) λE=>fT Y L E (4:Int) (λF=>cA Y L C F (λH=>z H))
theorem IC(fT:pQ)(cA:fm)(L:Nat)(z:Ls)(C:Int)(k:KK Y):dj sN (tT fT cA L) L AU [(V.sl 1 z),(QQc C)] [] k=uJ fT cA L z C (λz=>k (V.gs 1 z) []):=by kernel_rfl
abbrev mV:=∀ (Y:Type),Nat->Ls->Int->(Ls->Ob Y)->Ob Y
def ff:mV:=λY=>@uJ Y fT cA
def u7(ff:mV)(L:Nat):Dk:=dA (AL 1) λz=>dA (AI .u32) λC=>d0 λY k=>ff Y L z C (λz=>k (V.gs 1 z) [])
theorem HU(L:Nat):DK (u7 ff L) (λ_=>dj sN (tT fT cA L) L AU):=dl im λz=>dl gm λC=>fy λ_ k=>IC fT cA L z C k
end
end
end Go.Proofs.YtipklgbboecciaaGreat
