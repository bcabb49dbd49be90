/- Part 13 of the proof of ScanNext: an abstract machine over plain values, its soundness, and the functions of the program on plain values. -/
import Derived.Test.YtipklgbboecciaaGreatMScanNext12
namespace Go.Proofs.YtipklgbboecciaaGreat
set_option maxRecDepth 100000
set_option linter.unusedVariables false
set_option linter.unusedSimpArgs false
open List renaming length->WcJ,take->WcK,replicate->Wad,drop->WcM,map->WbO,drop_eq_getElem_cons->WaM,length_map->WcO,drop_of_length_le->WaD,drop_zero->WcP,getElem_mem->WaV,getElem?_append_right->Wal,nil_append->WcQ,foldl_cons->WcS,flatten->WcN,length_nil->WcT,take_of_length_le->WbR,replicate_zero->WcU
open IntKind renaming wrap->Wbf
open Int renaming toNat->WcL
open Bool renaming not_true->WcR,true_and->WcV
section
noncomputable section
variable {Y:Type}
def G2:CF:=cfD Dt 47
def zW:Nat->Sh:=fR [(7,(.int .u32))]
def zP(eY:mw)(ff:mU)(L:Nat):CBC:=(d6 159 (vc ff L) (d6 160 (tj eY L) noC))
def BV(eY:mw)(ff:mU)(L:Nat)(C:List V)(z:Ls->Ob Y):Ob Y:=chk (0+32<=(WcJ C)) (eY Y L ([]:Ls) (WcK 32 C) (λD=>cI .u32 C 32 λE=>ff Y L D E (λF=>z F)))
theorem OK(eY:mw)(ff:mU)(L:Nat)(z:List V)(k:KK Y):dj zW (zP eY ff L) L G2 [(V.agg z)] [] k=BV eY ff L z (λz=>k (V.gs 1 z) []):=by kernel_rfl
abbrev io:=∀ (Y:Type),Nat->List V->(Ls->Ob Y)->Ob Y
def dp:io:=λY=>@BV Y eY ff
def BH(dp:io)(L:Nat):Dk:=dA AG λz=>d0 λY k=>dp Y L z (λz=>k (V.gs 1 z) [])
theorem OT(L:Nat):DK (BH dp L) (λ_=>dj zW (zP eY ff L) L G2):=dk fO λz=>fC λ_ k=>OK eY ff L z k
def cf_ref30_Next:CF:=cfD EO 19
def qE:CC:=eS [1,1,1,1,0,1,0,0] cf_ref30_Next.body
def Cd:CC:=eS [1,1,1,1,1] cf_ref30_Next.body
def ku:Nat->Sh:=fR [(11,(.sl 3)),(26,(.sl 38)),(32,(.sl 38)),(36,(.int .i64)),(43,(.sl 38)),(49,(.sl 1)),(54,(.sl 38))]
def kw(bO:de)(dc:hZ)(bM:cZ)(dp:io)(L:Nat):CBC:=(d6 138 (BH dp L) (d6 802 (vJ bM L) (d6 837 (Av dc L) (d6 825 (mK bO L) noC))))
def rU:St->St:=fF 0 (bl 900 67) (bl 139502376157387423743 67)
def mq(z:Ls)(C D:Int)(E:List V):St:=⟨(jn 2 ((V.ptr 2 0)::(jn 4 ((V.gs 1 z)::((QQe C)::((QQe D)::(jn 57 []))))))),(gn 2 ((.live true E)::(gn 64 [])))⟩
def wQ(z:Ls)(C:List V):St:=⟨(jn 2 ((V.ptr 2 0)::(jn 4 ((V.gs 1 z)::(jn 59 []))))),(gn 2 ((.live true C)::(gn 64 [])))⟩
def Dq(bO:de)(dc:hZ)(bM:cZ)(dp:io)(L:Nat)(D:List V)(F:Int)(C:Int->Ls->Bool->Ob Y)(z:Ls->Int->Int->List V->Ob Y):Ob Y:=cLd 3 D 0 λH=>ifb ((((WcJ H:Nat):Int):Int)==(0:Int)) (C (0:Int) ([]:Ls) false) (chk (0+2<=(WcJ D)) (bO Y L (WbO V.ag (WcK 2 D)) (λI=>ifb (decide (I>=F)) (C (0:Int) ([]:Ls) false) (chk (0+2<=(WcJ D)) (dc Y L (WbO V.ag (WcK 2 D)) (λE=>z E ((WcJ E:Nat):Int) (0:Int) D))))))
theorem Px(bO:de)(dc:hZ)(bM:cZ)(dp:io)(L:Nat)(E:List V)(F:Int)(k:KK Y):dj ku (kw bO dc bM dp L) L cf_ref30_Next [(V.agg E),(QQe F)] [] k=Dq bO dc bM dp L E F (λz C D=>k (V.ah [(QQe z),(V.gs 1 C),(V.sc (.bool D))]) []) (λH I J M=>dX (cC ku (kw bO dc bM dp L) 0 L qE) rU L (mq H I J M) (cV 0 (dN (cC ku (kw bO dc bM dp L) 0 L Cd) (eo 0 (CF.res cf_ref30_Next) k)))):=by kernel_rfl
def nU(bO:de)(dc:hZ)(bM:cZ)(dp:io)(L:Nat)(C:Ls)(F E:Int)(D:List V)(z:Ls->Int->Int->List V->Ob Y)(I:Ls->List V->Ob Y):Ob Y:=cLd 38 D 1 λS=>ifb (decide (E<((WcJ S:Nat):Int))) (cLd 38 D 1 λT=>idx T E λU=>cI .i64 (WcM 37 U) 0 λc9=>ifb ((c9:Int)==(0:Int)) (chk (0<=F/\F<=(((WcJ C):Nat):Int)) (cLd 38 D 1 λX=>idx X E λc8=>cL 1 (WcM 1 (WcM 33 c8)) 0 λb9=>bM Y L (WcK ((WcL F)-0) (WcM 0 C)) b9 (λJ=>ifb J (cLd 38 D 1 λM=>idx M E λN=>dp Y L (WcK 33 N) (λH=>chk ((WcJ C+WcJ (cz 1 1 [(V.sl 1 H)]))*24<=cy/\WcJ C+WcJ (cz 1 1 [(V.sl 1 H)])<=cy) (lt (C++(cz 1 1 [(V.sl 1 H)])) λO=>lt (Wbf .i64 ((E:Int)+(1:Int))) λP=>z O F P D))) (lt (Wbf .i64 ((E:Int)+(1:Int))) λQ=>z C F Q D)))) (lt (Wbf .i64 ((E:Int)+(1:Int))) λR=>z C F R D)) (I C D)
theorem FJ(bO:de)(dc:hZ)(bM:cZ)(dp:io)(L:Nat)(z:Ls)(D E:Int)(C:List V)(X:St->Ob Y)(K:KT Y):cC ku (kw bO dc bM dp L) 0 L qE (mq z D E C) (fN rU X K)=nU bO dc bM dp L z D E C (λz D E C=>X (mq z D E C)) (λz C=>K (.exit 0) (wQ z C)):=by kernel_rfl
def mF(bO:de)(dc:hZ)(bM:cZ)(dp:io)(L:Nat)(F:Ls)(C:List V)(z:Int->Ls->Bool->Ob Y):Ob Y:=chk (0+2<=(WcJ C)) (bO Y L (WbO V.ag (WcK 2 C)) (λD=>lt (Wbf .i64 ((D:Int)+(1:Int))) λE=>z E F true))
theorem DT(bO:de)(dc:hZ)(bM:cZ)(dp:io)(L:Nat)(E:Ls)(F:List V)(k:KK Y):(cV 0 (dN (cC ku (kw bO dc bM dp L) 0 L Cd) (eo 0 (CF.res cf_ref30_Next) k))) (.exit 0) (wQ E F)=mF bO dc bM dp L E F (λz C D=>k (V.ah [(QQe z),(V.gs 1 C),(V.sc (.bool D))]) []):=by kernel_rfl
def kg(bO:de)(dc:hZ)(bM:cZ)(dp:io)(L:Nat)(z:Ls->List V->Ob Y):Nat->Ls->Int->Int->List V->Ob Y
 | 0,_,_,_,_=>none
 | n+1,C,D,E,F=>nU bO dc bM dp L C D E F (λC D E F=>kg bO dc bM dp L z n C D E F) z
theorem vz(bO:de)(dc:hZ)(bM:cZ)(dp:io)(L:Nat)(K:KT Y):∀ (n:Nat) (z:Ls) (D E:Int) (C:List V),dX (cC ku (kw bO dc bM dp L) 0 L qE) rU n (mq z D E C) K=kg bO dc bM dp L (λz C=>K (.exit 0) (wQ z C)) n z D E C:=by
 intro n; induction n <;> intros
 ·rfl
 ·exact (FJ ..).trans (by simp only [*]; rfl)
def yJ(bO:de)(dc:hZ)(bM:cZ)(dp:io)(L:Nat)(E:List V)(F:Int)(z:Int->Ls->Bool->Ob Y):Ob Y:=Dq bO dc bM dp L E F z (λC H I D=>kg bO dc bM dp L (λC D=>mF bO dc bM dp L C D z) L C H I D)
theorem QZ(bO:de)(dc:hZ)(bM:cZ)(dp:io)(L:Nat)(z:List V)(C:Int)(k:KK Y):dj ku (kw bO dc bM dp L) L cf_ref30_Next [(V.agg z),(QQe C)] [] k=yJ bO dc bM dp L z C (λD E F=>k (V.ah [(QQe D),(V.gs 1 E),(V.sc (.bool F))]) []):=by
 refine (Px bO dc bM dp L z C k).trans ?_
 unfold yJ
 first
  | (simp only [vz,DT]; done)
  | (simp only [vz]; rfl)
abbrev eP:=∀ (Y:Type),Nat->List V->Int->(Int->Ls->Bool->Ob Y)->Ob Y
def cr:eP:=λY=>@yJ Y bO dc bM dp
def xP(cr:eP)(L:Nat):Dk:=dA AG λE=>dA (AI .i64) λF=>d0 λY k=>cr Y L E F (λz C D=>k (V.ah [(QQe z),(V.gs 1 C),(V.sc (.bool D))]) [])
theorem Qb(L:Nat):DK (xP cr L) (λ_=>dj ku (kw bO dc bM dp L) L cf_ref30_Next):=dk fO λz=>dk gm λC=>fC λ_ k=>QZ bO dc bM dp L z C k
def II:CF:=cfD EH 52
def BK:Nat->Sh:=fR [(9,(.sl 3))]
def Bu(cF:fy)(bO:de)(L:Nat):CBC:=(d6 825 (mK bO L) (d6 817 (q9 cF L) noC))
def DM(cF:fy)(bO:de)(L:Nat)(C:List V)(D:Int)(z:Int->Ob Y):Ob Y:=chk (0+2<=(WcJ C)) (cF Y L (WbO V.ag (WcK 2 C)) (λE=>ifb (!E) (z (6:Int)) (cLd 3 C 0 λF=>ifb ((((WcJ F:Nat):Int):Int)==(0:Int)) (z (300:Int)) (chk (0+2<=(WcJ C)) (bO Y L (WbO V.ag (WcK 2 C)) (λH=>lt (Wbf .i64 ((H:Int)+(1:Int))) λI=>ifb ((D:Int) != I) (z (300:Int)) (ifb (decide (D>(16777216:Int))) (z (300:Int)) (z (0:Int)))))))))
theorem RH(cF:fy)(bO:de)(L:Nat)(z:List V)(C:Int)(k:KK Y):dj BK (Bu cF bO L) L II [(V.agg z),(QQe C)] [] k=DM cF bO L z C (λz=>k (QQe z) []):=by kernel_rfl
abbrev tQ:=∀ (Y:Type),Nat->List V->Int->(Int->Ob Y)->Ob Y
def f6:tQ:=λY=>@DM Y cF bO
def DI(f6:tQ)(L:Nat):Dk:=dA AG λz=>dA (AI .i64) λC=>d0 λY k=>f6 Y L z C (λz=>k (QQe z) [])
theorem O3(L:Nat):DK (DI f6 L) (λ_=>dj BK (Bu cF bO L) L II):=dk fO λz=>dk gm λC=>fC λ_ k=>RH cF bO L z C k
abbrev q6:=∀ (Y:Type),Nat->List V->(Int->Ob Y)->Ob Y
def f9:q6:=λY L z kf=>opD (cN rows) 300 522 L Y [(V.agg z)] [] λv _=>(AI .i64) Y v λp=>kf p
def BE(f9:q6)(L:Nat):Dk:=dA AG λz=>d0 λY k=>f9 Y L z (λC=>k (QQe C) [])
theorem Oe(L:Nat):DK (BE f9 L) (opD (cN rows) 300 522 L):=dk fO λz=>As gm [(V.agg z)] λ_ _ _=>rfl
def cf_ref29_spend:CF:=cfD DS 81
def rI:CC:=eS [1,1,0,1,0,0] cf_ref29_spend.body
def Db:CC:=eS [1,1,1] cf_ref29_spend.body
def jV:Nat->Sh:=fR [(33,(.int .i64)),(48,(.sl 1))]
def jZ(bM:cZ)(L:Nat):CBC:=(d6 802 (vJ bM L) noC)
def sZ:St->St:=fF 0 (bl 1580 58) (bl 287667151320317951 58)
def mL(E:Ls)(F:Int)(z:Nat)(C:Int)(H D:List V):St:=⟨(jn 2 ((V.sl 1 E)::((QQe F)::(jn 1 ((V.ptr 5 0)::(jn 3 ((V.own 13 0 z 38)::((QQe C)::(jn 47 []))))))))),(gn 5 ((.live true H)::(gn 7 ((.live true D)::(gn 44 [])))))⟩
def vf(z:Nat)(C:List V):St:=⟨(jn 9 ((V.own 13 0 z 38)::(jn 48 []))),(gn 13 ((.live true C)::(gn 44 [])))⟩
def B5(bM:cZ)(L:Nat)(C:Ls)(D:List V)(E:Ls)(F:Int)(z:Ls->Int->Nat->Int->List V->List V->Ob Y):Ob Y:=chk ((0+WcJ C)*96<=cy/\0+WcJ C<=cy) (z E F (WcJ C) (0:Int) D (WcN C))
theorem NM(bM:cZ)(L:Nat)(D:Ls)(E:List V)(z:Ls)(C:Int)(k:KK Y):dj jV (jZ bM L) L cf_ref29_spend [(V.sl 38 D),(V.agg E),(V.sl 1 z),(QQe C)] [] k=B5 bM L D E z C (λz C F H J I=>dX (cC jV (jZ bM L) 0 L rI) sZ L (mL z C F H J I) (cV 0 (dN (cC jV (jZ bM L) 0 L Db) (eo 0 (CF.res cf_ref29_spend) k)))):=by kernel_rfl
def og(bM:cZ)(L:Nat)(F:Ls)(H:Int)(D:Nat)(z:Int)(I E:List V)(C:Ls->Int->Nat->Int->List V->List V->Ob Y)(J:Nat->List V->Ob Y):Ob Y:=ifb (decide (z<((D:Nat):Int))) (chk (0<=z/\z<((D:Nat):Int)) (chk ((((0+((WcL z)*38))+0)+0)+33<=(WcJ E)) (chk (0+33<=(WcJ I)) (eqC 33 (WcK 33 (WcM (((0+((WcL z)*38))+0)+0) E)) (WcK 33 I) λN=>ifb N (chk (0<=z/\z<((D:Nat):Int)) (cI .i64 E ((0+((WcL z)*38))+37) λO=>ifb ((O:Int)==(0:Int)) (ifb ((((WcJ F:Nat):Int):Int)==(0:Int)) (chk (0<=z/\z<((D:Nat):Int)) (chk (1=1/\((0+((WcL z)*38))+37)+1<=(WcJ E)) (lt (cD E ((0+((WcL z)*38))+37) [(QQe H)]) λP=>lt (Wbf .i64 ((z:Int)+(1:Int))) λQ=>C F H D Q I P))) (chk (0<=z/\z<((D:Nat):Int)) (cLd 1 E ((((0+((WcL z)*38))+0)+33)+1) λR=>bM Y L F R (λS=>ifb S (chk (0<=z/\z<((D:Nat):Int)) (chk (1=1/\((0+((WcL z)*38))+37)+1<=(WcJ E)) (lt (cD E ((0+((WcL z)*38))+37) [(QQe H)]) λT=>lt (Wbf .i64 ((z:Int)+(1:Int))) λU=>C F H D U I T))) (lt (Wbf .i64 ((z:Int)+(1:Int))) λc9=>C F H D c9 I E))))) (lt (Wbf .i64 ((z:Int)+(1:Int))) λX=>C F H D X I E))) (lt (Wbf .i64 ((z:Int)+(1:Int))) λM=>C F H D M I E))))) (J D E)
theorem Gk(bM:cZ)(L:Nat)(E:Ls)(F:Int)(z:Nat)(D:Int)(H C:List V)(X:St->Ob Y)(K:KT Y):cC jV (jZ bM L) 0 L rI (mL E F z D H C) (fN sZ X K)=og bM L E F z D H C (λE F z D H C=>X (mL E F z D H C)) (λz C=>K (.exit 0) (vf z C)):=by kernel_rfl
def qy(bM:cZ)(L:Nat)(C:Nat)(D:List V)(z:Ls->Ob Y):Ob Y:=chk (C≠0∨(WcJ D)=0) (z (cz 38 C D))
theorem Ef(bM:cZ)(L:Nat)(z:Nat)(C:List V)(k:KK Y):(cV 0 (dN (cC jV (jZ bM L) 0 L Db) (eo 0 (CF.res cf_ref29_spend) k))) (.exit 0) (vf z C)=qy bM L z C (λD=>k (V.fr 38 D) []):=by kernel_rfl
def eI(bM:cZ)(L:Nat)(z:Nat->List V->Ob Y):Nat->Ls->Int->Nat->Int->List V->List V->Ob Y
 | 0,_,_,_,_,_,_=>none
 | n+1,F,H,C,D,I,E=>og bM L F H C D I E (λF H C D I E=>eI bM L z n F H C D I E) z
theorem xk(bM:cZ)(L:Nat)(K:KT Y):∀ (n:Nat) (E:Ls) (F:Int) (z:Nat) (D:Int) (H C:List V),dX (cC jV (jZ bM L) 0 L rI) sZ n (mL E F z D H C) K=eI bM L (λz C=>K (.exit 0) (vf z C)) n E F z D H C:=by
 intro n; induction n <;> intros
 ·rfl
 ·exact (Gk ..).trans (by simp only [*]; rfl)
def vW(bM:cZ)(L:Nat)(I:Ls)(J:List V)(E:Ls)(F:Int)(D:Ls->Ob Y):Ob Y:=B5 bM L I J E F (λE F z H M C=>eI bM L (λz C=>qy bM L z C D) L E F z H M C)
theorem Oa(bM:cZ)(L:Nat)(z:Ls)(C:List V)(D:Ls)(E:Int)(k:KK Y):dj jV (jZ bM L) L cf_ref29_spend [(V.sl 38 z),(V.agg C),(V.sl 1 D),(QQe E)] [] k=vW bM L z C D E (λz=>k (V.fr 38 z) []):=by
 refine (NM bM L z C D E k).trans ?_
 unfold vW
 first
  | (simp only [xk,Ef]; done)
  | (simp only [xk]; rfl)
abbrev dI:=∀ (Y:Type),Nat->Ls->List V->Ls->Int->(Ls->Ob Y)->Ob Y
def bS:dI:=λY=>@vW Y bM
def BL(bS:dI)(L:Nat):Dk:=dA (AL 38) λz=>dA AG λC=>dA (AL 1) λD=>dA (AI .i64) λE=>d0 λY k=>bS Y L z C D E (λz=>k (V.fr 38 z) [])
theorem NL(L:Nat):DK (BL bS L) (λ_=>dj jV (jZ bM L) L cf_ref29_spend):=dk ik λz=>dk fO λC=>dk ik λD=>dk gm λE=>fC λ_ k=>Oa bM L z C D E k
abbrev eJ:=∀ (Y:Type),Nat->List V->(List V->Ob Y)->Ob Y
def ci:eJ:=λY L z kf=>opD (cN rows) 300 517 L Y [(V.agg z)] [] λv _=>AG Y v λp=>kf p
def Hu(ci:eJ)(L:Nat):Dk:=dA AG λz=>d0 λY k=>ci Y L z (λC=>k (V.agg C) [])
theorem UC(L:Nat):DK (Hu ci L) (opD (cN rows) 300 517 L):=dk fO λz=>As fO [(V.agg z)] λ_ _ _=>rfl
def cf_ref29_put:CF:=cfD GM 82
def tF:CC:=eS [1,1,1,0,1,0,0] cf_ref29_put.body
def wu:CC:=eS [1,1,0,0,0] cf_ref29_put.body
def ym:CC:=eS [1,1,1,1] cf_ref29_put.body
def zF:CC:=eS [1,1,1] cf_ref29_put.body
def gE:Nat->Sh:=fR [(43,(.int .i64))]
def gI(bQ:dx)(L:Nat):CBC:=(d6 800 (uw bQ L) noC)
def yn:St->St:=fF 0 (bl 73 58) (bl 288230376151448575 58)
def u4:St->St:=fF 0 (bl 201 58) (bl 288230376134934479 58)
def oD(z:Ls)(C:Int)(D:List V):St:=⟨((V.sl 38 z)::(jn 2 ((V.ptr 3 0)::(jn 2 ((QQe C)::(jn 51 [])))))),(gn 3 ((.live true D)::(gn 54 [])))⟩
def sv(z:Ls)(C:Int)(D:List V):St:=⟨((V.sl 38 z)::(jn 2 ((V.ptr 3 0)::(jn 2 ((QQe C)::(jn 51 [])))))),(gn 3 ((.live true D)::(gn 54 [])))⟩
def m9(z:Ls)(C D:Int)(E:List V):St:=⟨((V.sl 38 z)::(jn 2 ((V.ptr 3 0)::(jn 2 ((QQe C)::((QQe D)::(jn 50 []))))))),(gn 3 ((.live true E)::(gn 54 [])))⟩
def wh(z:Ls)(C:Int):St:=⟨(jn 4 ((V.gs 38 z)::((QQe C)::(jn 52 [])))),(gn 58 [])⟩
def yk(z:Ls)(C:Int)(D:List V):St:=⟨((V.sl 38 z)::(jn 2 ((V.ptr 3 0)::(jn 2 ((QQe C)::(jn 51 [])))))),(gn 3 ((.live true D)::(gn 54 [])))⟩
def Fs(bQ:dx)(L:Nat)(C:Ls)(D:List V)(z:Ls->Int->List V->Ob Y):Ob Y:=z C (0:Int) D
theorem RY(bQ:dx)(L:Nat)(z:Ls)(C:List V)(k:KK Y):dj gE (gI bQ L) L cf_ref29_put [(V.sl 38 z),(V.agg C)] [] k=Fs bQ L z C (λz D E=>dX (cC gE (gI bQ L) 0 L wu) yn L (oD z D E) (cV 0 (dN (cC gE (gI bQ L) 0 L zF) (eo 0 (CF.res cf_ref29_put) k)))):=by kernel_rfl
def sF(bQ:dx)(L:Nat)(C:Ls)(D:Int)(E:List V)(z:Ls->Int->List V->Ob Y)(F:Ls->Int->List V->Ob Y):Ob Y:=ifb (decide (D<((WcJ C:Nat):Int))) (idx C D λH=>chk (0+38<=(WcJ E)) (bQ Y L (WbO V.ag (WcK 38 H)) (WbO V.ag (WcK 38 E)) (λI=>ifb I (lt (Wbf .i64 ((D:Int)+(1:Int))) λJ=>z C J E) (F C D E)))) (F C D E)
theorem KU(bQ:dx)(L:Nat)(z:Ls)(C:Int)(D:List V)(X:St->Ob Y)(K:KT Y):cC gE (gI bQ L) 0 L wu (oD z C D) (fN yn X K)=sF bQ L z C D (λz C D=>X (oD z C D)) (λz C D=>K (.exit 0) (sv z C D)):=by kernel_rfl
def vo(bQ:dx)(L:Nat)(C:Ls)(D:Int)(E:List V)(z:Ls->Int->Int->List V->Ob Y):Ob Y:=z C D (0:Int) E
theorem HX(bQ:dx)(L:Nat)(z:Ls)(C:Int)(D:List V)(k:KK Y):(cV 0 (dN (cC gE (gI bQ L) 0 L zF) (eo 0 (CF.res cf_ref29_put) k))) (.exit 0) (sv z C D)=vo bQ L z C D (λz C E D=>dX (cC gE (gI bQ L) 0 L tF) u4 L (m9 z C E D) (cV 2 (dN (cC gE (gI bQ L) 0 L ym) (eo 0 (CF.res cf_ref29_put) k)))):=by kernel_rfl
def pj(bQ:dx)(L:Nat)(C:Ls)(H D:Int)(E:List V)(F:Ls->Int->Ob Y)(z:Ls->Int->Int->List V->Ob Y)(I:Ls->Int->List V->Ob Y):Ob Y:=ifb (decide (D<((WcJ C:Nat):Int))) (idx C D λJ=>chk (0+33<=(WcJ E)) (eqC 33 (WcK 33 J) (WcK 33 E) λM=>ifb M (idx C D λN=>cI .i64 (WcM 37 N) 0 λO=>ifb ((O:Int)==(0:Int)) (F ([]:Ls) (91:Int)) (lt (Wbf .i64 ((D:Int)+(1:Int))) λP=>z C H P E)) (lt (Wbf .i64 ((D:Int)+(1:Int))) λQ=>z C H Q E))) (I C H E)
theorem Ip(bQ:dx)(L:Nat)(z:Ls)(C E:Int)(D:List V)(X:St->Ob Y)(K:KT Y):cC gE (gI bQ L) 0 L tF (m9 z C E D) (fN u4 X K)=pj bQ L z C E D (λF H=>K .ret (wh F H)) (λz C E D=>X (m9 z C E D)) (λz C D=>K (.exit 2) (yk z C D)):=by kernel_rfl
def qP(bQ:dx)(L:Nat)(C:Ls)(D:Int)(z:Ls->Int->Ob Y):Ob Y:=z C D
theorem D7(bQ:dx)(L:Nat)(D:Ls)(E:Int)(k:KK Y):(cV 2 (dN (cC gE (gI bQ L) 0 L ym) (eo 0 (CF.res cf_ref29_put) k))) .ret (wh D E)=qP bQ L D E (λz C=>k (V.ah [(V.gs 38 z),(QQe C)]) []):=by kernel_rfl
def sm(bQ:dx)(L:Nat)(C:Ls)(z:Int)(D:List V)(F:Ls->Int->Ob Y):Ob Y:=chk (0<=z/\z<=(((WcJ C):Nat):Int)) (chk ((WcJ ([]:Ls)+WcJ (WcK ((WcL z)-0) (WcM 0 C)))*96<=cy/\WcJ ([]:Ls)+WcJ (WcK ((WcL z)-0) (WcM 0 C))<=cy) (lt (([]:Ls)++(WcK ((WcL z)-0) (WcM 0 C))) λH=>chk (0+38<=(WcJ D)) (chk ((WcJ (WcK 38 D))=38/\0+38<=38) (chk ((WcJ H+WcJ (cz 38 1 (cD (Wad 32 (QQa (0:Int))++[(QQc (0:Int)),(QQe (0:Int)),(V.sl 1 ([]:Ls)),(QQe (0:Int)),(V.sc (.bool false)),(QQe (0:Int))]) 0 (WcK 38 D))))*96<=cy/\WcJ H+WcJ (cz 38 1 (cD (Wad 32 (QQa (0:Int))++[(QQc (0:Int)),(QQe (0:Int)),(V.sl 1 ([]:Ls)),(QQe (0:Int)),(V.sc (.bool false)),(QQe (0:Int))]) 0 (WcK 38 D)))<=cy) (lt (H++(cz 38 1 (cD (Wad 32 (QQa (0:Int))++[(QQc (0:Int)),(QQe (0:Int)),(V.sl 1 ([]:Ls)),(QQe (0:Int)),(V.sc (.bool false)),(QQe (0:Int))]) 0 (WcK 38 D)))) λE=>chk (0<=z/\z<=(((WcJ C):Nat):Int)) (chk ((WcJ E+WcJ (WcK ((WcJ C)-(WcL z)) (WcM (WcL z) C)))*96<=cy/\WcJ E+WcJ (WcK ((WcJ C)-(WcL z)) (WcM (WcL z) C))<=cy) (lt (E++(WcK ((WcJ C)-(WcL z)) (WcM (WcL z) C))) λI=>F I (0:Int))))))))
theorem Ga(bQ:dx)(L:Nat)(D:Ls)(E:Int)(F:List V)(k:KK Y):(cV 2 (dN (cC gE (gI bQ L) 0 L ym) (eo 0 (CF.res cf_ref29_put) k))) (.exit 2) (yk D E F)=sm bQ L D E F (λz C=>k (V.ah [(V.gs 38 z),(QQe C)]) []):=by kernel_rfl
def j7(bQ:dx)(L:Nat)(z:Ls->Int->List V->Ob Y):Nat->Ls->Int->List V->Ob Y
 | 0,_,_,_=>none
 | n+1,C,D,E=>sF bQ L C D E (λC D E=>j7 bQ L z n C D E) z
theorem Ba(bQ:dx)(L:Nat)(K:KT Y):∀ (n:Nat) (z:Ls) (C:Int) (D:List V),dX (cC gE (gI bQ L) 0 L wu) yn n (oD z C D) K=j7 bQ L (λz C D=>K (.exit 0) (sv z C D)) n z C D:=by
 intro n; induction n <;> intros
 ·rfl
 ·exact (KU ..).trans (by simp only [*]; rfl)
def lE(bQ:dx)(L:Nat)(z:Ls->Int->Ob Y)(C:Ls->Int->List V->Ob Y):Nat->Ls->Int->Int->List V->Ob Y
 | 0,_,_,_,_=>none
 | n+1,D,E,F,H=>pj bQ L D E F H z (λD E F H=>lE bQ L z C n D E F H) C
theorem yU(bQ:dx)(L:Nat)(K:KT Y):∀ (n:Nat) (z:Ls) (C E:Int) (D:List V),dX (cC gE (gI bQ L) 0 L tF) u4 n (m9 z C E D) K=lE bQ L (λF H=>K .ret (wh F H)) (λz C D=>K (.exit 2) (yk z C D)) n z C E D:=by
 intro n; induction n <;> intros
 ·rfl
 ·exact (Ip ..).trans (by simp only [*]; rfl)
def oH(bQ:dx)(L:Nat)(C:Ls)(D:Int)(E:List V)(z:Ls->Int->Ob Y):Ob Y:=vo bQ L C D E (λC D F E=>lE bQ L (λH I=>qP bQ L H I z) (λC D E=>sm bQ L C D E z) L C D F E)
theorem Hl(bQ:dx)(L:Nat)(z:Ls)(C:Int)(D:List V)(k:KK Y):(cV 0 (dN (cC gE (gI bQ L) 0 L zF) (eo 0 (CF.res cf_ref29_put) k))) (.exit 0) (sv z C D)=oH bQ L z C D (λE F=>k (V.ah [(V.gs 38 E),(QQe F)]) []):=by
 refine (HX bQ L z C D k).trans ?_
 unfold oH
 first
  | (simp only [yU,D7,Ga]; done)
  | (simp only [yU]; rfl)
def AB(bQ:dx)(L:Nat)(z:Ls)(F:List V)(C:Ls->Int->Ob Y):Ob Y:=Fs bQ L z F (λz D E=>j7 bQ L (λz D E=>oH bQ L z D E C) L z D E)
theorem SF(bQ:dx)(L:Nat)(z:Ls)(C:List V)(k:KK Y):dj gE (gI bQ L) L cf_ref29_put [(V.sl 38 z),(V.agg C)] [] k=AB bQ L z C (λD E=>k (V.ah [(V.gs 38 D),(QQe E)]) []):=by
 refine (RY bQ L z C k).trans ?_
 unfold AB
 first
  | (simp only [Ba,Hl]; done)
  | (simp only [Ba]; rfl)
abbrev dZ:=∀ (Y:Type),Nat->Ls->List V->(Ls->Int->Ob Y)->Ob Y
def bY:dZ:=λY=>@AB Y bQ
def FV(bY:dZ)(L:Nat):Dk:=dA (AL 38) λD=>dA AG λE=>d0 λY k=>bY Y L D E (λz C=>k (V.ah [(V.gs 38 z),(QQe C)]) [])
theorem RQ(L:Nat):DK (FV bY L) (λ_=>dj gE (gI bQ L) L cf_ref29_put):=dk ik λz=>dk fO λC=>fC λ_ k=>SF bQ L z C k
def cf_ref29_Take:CF:=cfD Et 54
def nf:CC:=eS [1,0,1,0,0,1,0,0,1,0,1,0,0] cf_ref29_Take.body
def nc:CC:=eS [1,0,1,0,0,1,0,0,1,1,1,0,0] cf_ref29_Take.body
def oZ:CC:=eS [1,0,1,0,0,1,0,0,1,1] cf_ref29_Take.body
def kj:CC:=eS [1,0,1,0,0,1,1] cf_ref29_Take.body
def pd:CC:=eS [1,0,1,0,0] cf_ref29_Take.body
def zU:CC:=eS [1,1] cf_ref29_Take.body
def eC:Nat->Sh:=fR [(21,(.sl 4)),(27,(.sl 4)),(33,(.sl 35)),(44,(.sl 35)),(54,(.sl 2)),(61,(.sl 2)),(65,(.sl 1)),(74,(.sl 2))]
def eE(bS:dI)(bM:cZ)(ci:eJ)(bY:dZ)(L:Nat):CBC:=(d6 803 (FV bY L) (d6 517 (Hu ci L) (d6 802 (vJ bM L) (d6 801 (BL bS L) noC))))
def iE:St->St:=fF 0 (bl 4375 99) (bl 633283700682806279610522145791 99)
def nC:St->St:=fF 0 (bl 28951 99) (bl 633825300114112448931357982719 99)
def nH:St->St:=fF 0 (bl 45335 99) (bl 633283700682808531427519951871 99)
def jl(C D E:Ls)(F z:Int)(H:List V):St:=⟨((V.sl 38 C)::((V.sl 1 D)::((V.sl 1 E)::(jn 1 ((QQe F)::(jn 3 ((V.ptr 8 0)::(jn 3 ((QQe z)::(jn 86 [])))))))))),(gn 8 ((.live true H)::(gn 90 [])))⟩
def ke(E F H:Ls)(I z C:Int)(J D:List V):St:=⟨((V.sl 38 E)::((V.sl 1 F)::((V.sl 1 H)::(jn 1 ((QQe I)::(jn 3 ((V.ptr 8 0)::(jn 3 ((QQe z)::((V.ptr 13 0)::((QQe C)::(jn 84 [])))))))))))),(gn 8 ((.live true J)::(gn 4 ((.live true D)::(gn 85 [])))))⟩
def qu(z:Ls):St:=⟨((V.sl 38 z)::(jn 98 [])),(gn 99 [])⟩
def qk(D E F:Ls)(H z:Int)(I C:List V):St:=⟨((V.sl 38 D)::((V.sl 1 E)::((V.sl 1 F)::(jn 1 ((QQe H)::(jn 3 ((V.ptr 8 0)::(jn 3 ((QQe z)::((V.ptr 13 0)::(jn 85 []))))))))))),(gn 8 ((.live true I)::(gn 4 ((.live true C)::(gn 85 [])))))⟩
def kc(E F H:Ls)(I z C:Int)(J D:List V):St:=⟨((V.sl 38 E)::((V.sl 1 F)::((V.sl 1 H)::(jn 1 ((QQe I)::(jn 3 ((V.ptr 8 0)::(jn 3 ((QQe z)::((V.ptr 13 0)::(jn 1 ((QQe C)::(jn 83 []))))))))))))),(gn 8 ((.live true J)::(gn 4 ((.live true D)::(gn 85 [])))))⟩
def je(z:Ls)(C:Int):St:=⟨(jn 10 ((V.gs 38 z)::((QQe C)::(jn 87 [])))),(gn 99 [])⟩
def wE(C D E:Ls)(F z:Int)(H:List V):St:=⟨((V.sl 38 C)::((V.sl 1 D)::((V.sl 1 E)::(jn 1 ((QQe F)::(jn 3 ((V.ptr 8 0)::(jn 3 ((QQe z)::(jn 86 [])))))))))),(gn 8 ((.live true H)::(gn 90 [])))⟩
abbrev pi(Y:Type):Type:=Ls->Ls->Ls->Int->Int->List V->Ob Y
abbrev sL(Y:Type):Type:=Ls->Ls->Ls->Int->Int->Int->List V->List V->Ob Y
abbrev zM(Y:Type):Type:=Ls->Ls->Ls->Int->Int->List V->List V->Ob Y
abbrev sK(Y:Type):Type:=Ls->Ls->Ls->Int->Int->Int->List V->List V->Ob Y
abbrev pP(Y:Type):Type:=Ls->Ls->Ls->Int->Int->List V->Ob Y
def tS(bS:dI)(bM:cZ)(ci:eJ)(bY:dZ)(L:Nat)(C D E:Ls)(F:List V)(H:Int)(z:pi Y):Ob Y:=z C D E H (0:Int) F
theorem QG(bS:dI)(bM:cZ)(ci:eJ)(bY:dZ)(L:Nat)(z C D:Ls)(F:List V)(E:Int)(k:KK Y):dj eC (eE bS bM ci bY L) L cf_ref29_Take [(V.sl 38 z),(V.sl 1 C),(V.sl 1 D),(V.agg F),(QQe E)] [] k=tS bS bM ci bY L z C D F E (λz C D E H I=>dX (cC eC (eE bS bM ci bY L) 0 L pd) iE L (jl z C D E H I) (cV 0 (dN (cC eC (eE bS bM ci bY L) 0 L zU) (eo 0 (CF.res cf_ref29_Take) k)))):=by kernel_rfl
def qx(bS:dI)(bM:cZ)(ci:eJ)(bY:dZ)(L:Nat)(F I J:Ls)(M C:Int)(D:List V)(z:sL Y)(E:Ls->Ob Y):Ob Y:=cLd 4 D 68 λN=>ifb (decide (C<((WcJ N:Nat):Int))) (cLd 4 D 68 λO=>idx O C λH=>chk ((WcJ (WcK 4 H))=4/\0+4<=4) (lt (cD [(QQc (0:Int)),(V.gs 35 ([]:Ls)),(V.gs 2 ([]:Ls)),(QQc (0:Int))] 0 (WcK 4 H)) λP=>z F I J M C (0:Int) D P)) (E F)
theorem Jg(bS:dI)(bM:cZ)(ci:eJ)(bY:dZ)(L:Nat)(C D E:Ls)(F z:Int)(H:List V)(X:St->Ob Y)(K:KT Y):cC eC (eE bS bM ci bY L) 0 L pd (jl C D E F z H) (fN iE X K)=qx bS bM ci bY L C D E F z H (λC D E F z I H J=>dX (cC eC (eE bS bM ci bY L) 0 L nf) nC L (ke C D E F z I H J) (cV 2 (dN (cC eC (eE bS bM ci bY L) 0 L oZ) (cV 1 (dN (cC eC (eE bS bM ci bY L) 0 L kj) (fN iE X K)))))) (λC=>K (.exit 0) (qu C)):=by kernel_rfl
def oh(bS:dI)(bM:cZ)(ci:eJ)(bY:dZ)(L:Nat)(C:Ls)(z:Ls->Int->Ob Y):Ob Y:=ifb (decide (((WcJ C:Nat):Int)>(4096:Int))) (z ([]:Ls) (380:Int)) (chk ((WcJ ([]:Ls)+WcJ C)*96<=cy/\WcJ ([]:Ls)+WcJ C<=cy) (lt (([]:Ls)++C) λD=>z D (0:Int)))
theorem GS(bS:dI)(bM:cZ)(ci:eJ)(bY:dZ)(L:Nat)(D:Ls)(k:KK Y):(cV 0 (dN (cC eC (eE bS bM ci bY L) 0 L zU) (eo 0 (CF.res cf_ref29_Take) k))) (.exit 0) (qu D)=oh bS bM ci bY L D (λz C=>k (V.ah [(V.gs 38 z),(QQe C)]) []):=by kernel_rfl
def jL(bS:dI)(bM:cZ)(ci:eJ)(bY:dZ)(L:Nat)(J H M:Ls)(I D E:Int)(N C:List V)(z:sL Y)(F:zM Y):Ob Y:=cLd 35 C 1 λO=>ifb (decide (E<((WcJ O:Nat):Int))) (ifb (decide (D>(0:Int))) (cLd 35 C 1 λP=>idx P E λQ=>bS Y L J (WcK 33 Q) H I (λR=>lt (Wbf .i64 ((E:Int)+(1:Int))) λS=>z R H M I D S N C)) (F J H M I D N C)) (F J H M I D N C)
theorem Bo(bS:dI)(bM:cZ)(ci:eJ)(bY:dZ)(L:Nat)(E F H:Ls)(I z D:Int)(J C:List V)(X:St->Ob Y)(K:KT Y):cC eC (eE bS bM ci bY L) 0 L nf (ke E F H I z D J C) (fN nC X K)=jL bS bM ci bY L E F H I z D J C (λE F H I z D J C=>X (ke E F H I z D J C)) (λE F H I z J C=>K (.exit 2) (qk E F H I z J C)):=by kernel_rfl
def qZ(bS:dI)(bM:cZ)(ci:eJ)(bY:dZ)(L:Nat)(E F H:Ls)(I C:Int)(J D:List V)(z:sK Y):Ob Y:=z E F H I C (0:Int) J D
theorem y6(bS:dI)(bM:cZ)(ci:eJ)(bY:dZ)(L:Nat)(D E F:Ls)(H z:Int)(I C:List V)(X:St->Ob Y)(K:KT Y):(cV 2 (dN (cC eC (eE bS bM ci bY L) 0 L oZ) (cV 1 (dN (cC eC (eE bS bM ci bY L) 0 L kj) (fN iE X K))))) (.exit 2) (qk D E F H z I C)=qZ bS bM ci bY L D E F H z I C (λD E F H z J I C=>dX (cC eC (eE bS bM ci bY L) 0 L nc) nH L (kc D E F H z J I C) (cV 4 (cV 1 (dN (cC eC (eE bS bM ci bY L) 0 L kj) (fN iE X K))))):=by kernel_rfl
def lr(bS:dI)(bM:cZ)(ci:eJ)(bY:dZ)(L:Nat)(R S N:Ls)(I F D:Int)(T C:List V)(z:sK Y)(O:Ls->Int->Ob Y)(U:pP Y):Ob Y:=cLd 2 C 2 λc9=>ifb (decide (D<((WcJ c9:Nat):Int))) (cLd 2 C 2 λX=>idx X D λc8=>cL 1 (WcM 1 c8) 0 λb9=>bM Y L N b9 (λaa=>ifb (!aa) (lt (Wbf .i64 ((D:Int)+(1:Int))) λab=>z R S N I F ab T C) (chk (0+4<=(WcJ C)) (ci Y L (WbO V.ag (WcK 4 C)) (λJ=>lt (Wbf .u32 D) λac=>chk ((WcJ J)=32/\0+32<=33) (chk (1=1/\32+1<=(WcJ (cD (Wad 32 (QQa (0:Int))++[(QQc (0:Int))]) 0 J))) (lt (cD (cD (Wad 32 (QQa (0:Int))++[(QQc (0:Int))]) 0 J) 32 [(QQc ac)]) λE=>cLd 2 C 2 λad=>idx ad D λH=>chk ((WcJ E)=33/\0+33<=37) (chk ((WcJ (WcK 2 H))=2/\33+2<=(WcJ (cD (Wad 32 (QQa (0:Int))++[(QQc (0:Int)),(QQe (0:Int)),(V.sl 1 ([]:Ls)),(QQe (0:Int)),(V.sc (.bool false))]) 0 E))) (chk (1=1/\35+1<=(WcJ (cD (cD (Wad 32 (QQa (0:Int))++[(QQc (0:Int)),(QQe (0:Int)),(V.sl 1 ([]:Ls)),(QQe (0:Int)),(V.sc (.bool false))]) 0 E) 33 (WcK 2 H)))) (chk (1=1/\36+1<=(WcJ (cD (cD (cD (Wad 32 (QQa (0:Int))++[(QQc (0:Int)),(QQe (0:Int)),(V.sl 1 ([]:Ls)),(QQe (0:Int)),(V.sc (.bool false))]) 0 E) 33 (WcK 2 H)) 35 [(QQe I)]))) (lt (cD (cD (cD (cD (Wad 32 (QQa (0:Int))++[(QQc (0:Int)),(QQe (0:Int)),(V.sl 1 ([]:Ls)),(QQe (0:Int)),(V.sc (.bool false))]) 0 E) 33 (WcK 2 H)) 35 [(QQe I)]) 36 [(V.sc (.bool ((F:Int)==(0:Int))))]) λP=>chk ((WcJ P)=37/\0+37<=37) (lt (cD (Wad 32 (QQa (0:Int))++[(QQc (0:Int)),(QQe (0:Int)),(V.gs 1 ([]:Ls)),(QQe (0:Int)),(V.sc (.bool false))]) 0 P) λM=>chk (0+37<=(WcJ M)) (chk ((WcJ (WcK 37 M))=37/\0+37<=38) (lt (cD (Wad 32 (QQa (0:Int))++[(QQc (0:Int)),(QQe (0:Int)),(V.sl 1 ([]:Ls)),(QQe (0:Int)),(V.sc (.bool false)),(QQe (0:Int))]) 0 (WcK 37 M)) λan=>bY Y L R (WbO V.ag an) (λao Q=>ifb ((Q:Int) != (0:Int)) (O ([]:Ls) Q) (lt (Wbf .i64 ((D:Int)+(1:Int))) λap=>z ao S N I F ap T C)))))))))))))))) (U R S N I F T)
theorem Bg(bS:dI)(bM:cZ)(ci:eJ)(bY:dZ)(L:Nat)(E F H:Ls)(I z C:Int)(J D:List V)(X:St->Ob Y)(K:KT Y):cC eC (eE bS bM ci bY L) 0 L nc (kc E F H I z C J D) (fN nH X K)=lr bS bM ci bY L E F H I z C J D (λE F H I z C J D=>X (kc E F H I z C J D)) (λM N=>K .ret (je M N)) (λE F H I z J=>K (.exit 4) (wE E F H I z J)):=by kernel_rfl
def mA(bS:dI)(bM:cZ)(ci:eJ)(bY:dZ)(L:Nat)(C:Ls)(D:Int)(z:Ls->Int->Ob Y):Ob Y:=z C D
theorem yE(bS:dI)(bM:cZ)(ci:eJ)(bY:dZ)(L:Nat)(z:Ls)(C:Int)(X:St->Ob Y)(K:KT Y):(cV 4 (cV 1 (dN (cC eC (eE bS bM ci bY L) 0 L kj) (fN iE X K)))) .ret (je z C)=mA bS bM ci bY L z C (λz C=>K .ret (je z C)):=by kernel_rfl
def kH(bS:dI)(bM:cZ)(ci:eJ)(bY:dZ)(L:Nat)(E F H:Ls)(I C:Int)(J:List V)(z:pi Y):Ob Y:=lt (Wbf .i64 ((C:Int)+(1:Int))) λD=>z E F H I D J
theorem y8(bS:dI)(bM:cZ)(ci:eJ)(bY:dZ)(L:Nat)(C D E:Ls)(F z:Int)(H:List V)(X:St->Ob Y)(K:KT Y):(cV 4 (cV 1 (dN (cC eC (eE bS bM ci bY L) 0 L kj) (fN iE X K)))) (.exit 4) (wE C D E F z H)=kH bS bM ci bY L C D E F z H (λC D E F z H=>X (jl C D E F z H)):=by kernel_rfl
def zf(bS:dI)(bM:cZ)(ci:eJ)(bY:dZ)(L:Nat)(C:Ls)(D:Int)(z:Ls->Int->Ob Y):Ob Y:=z C D
theorem FC(bS:dI)(bM:cZ)(ci:eJ)(bY:dZ)(L:Nat)(z:Ls)(C:Int)(k:KK Y):(cV 0 (dN (cC eC (eE bS bM ci bY L) 0 L zU) (eo 0 (CF.res cf_ref29_Take) k))) .ret (je z C)=zf bS bM ci bY L z C (λD E=>k (V.ah [(V.gs 38 D),(QQe E)]) []):=by kernel_rfl
def gQ(bS:dI)(bM:cZ)(ci:eJ)(bY:dZ)(L:Nat)(z:zM Y):Nat->Ls->Ls->Ls->Int->Int->Int->List V->List V->Ob Y
 | 0,_,_,_,_,_,_,_,_=>none
 | n+1,F,H,I,J,C,D,M,E=>jL bS bM ci bY L F H I J C D M E (λF H I J C D M E=>gQ bS bM ci bY L z n F H I J C D M E) z
theorem qf(bS:dI)(bM:cZ)(ci:eJ)(bY:dZ)(L:Nat)(K:KT Y):∀ (n:Nat) (D E F:Ls) (H z J:Int) (I C:List V),dX (cC eC (eE bS bM ci bY L) 0 L nf) nC n (ke D E F H z J I C) K=gQ bS bM ci bY L (λD E F H z I C=>K (.exit 2) (qk D E F H z I C)) n D E F H z J I C:=by
 intro n; induction n <;> intros
 ·rfl
 ·exact (Bo ..).trans (by simp only [*]; rfl)
def fj(bS:dI)(bM:cZ)(ci:eJ)(bY:dZ)(L:Nat)(z:Ls->Int->Ob Y)(C:pP Y):Nat->Ls->Ls->Ls->Int->Int->Int->List V->List V->Ob Y
 | 0,_,_,_,_,_,_,_,_=>none
 | n+1,H,I,J,M,D,E,N,F=>lr bS bM ci bY L H I J M D E N F (λH I J M D E N F=>fj bS bM ci bY L z C n H I J M D E N F) z C
theorem qd(bS:dI)(bM:cZ)(ci:eJ)(bY:dZ)(L:Nat)(K:KT Y):∀ (n:Nat) (C D E:Ls) (F z I:Int) (H J:List V),dX (cC eC (eE bS bM ci bY L) 0 L nc) nH n (kc C D E F z I H J) K=fj bS bM ci bY L (λM N=>K .ret (je M N)) (λC D E F z H=>K (.exit 4) (wE C D E F z H)) n C D E F z I H J:=by
 intro n; induction n <;> intros
 ·rfl
 ·exact (Bg ..).trans (by simp only [*]; rfl)
def mC(bS:dI)(bM:cZ)(ci:eJ)(bY:dZ)(L:Nat)(D E F:Ls)(H z:Int)(I J:List V)(M:Ls->Int->Ob Y)(C:pi Y):Ob Y:=qZ bS bM ci bY L D E F H z I J (λD E F H z N I J=>fj bS bM ci bY L (λO P=>mA bS bM ci bY L O P M) (λD E F H z I=>kH bS bM ci bY L D E F H z I C) L D E F H z N I J)
theorem xy(bS:dI)(bM:cZ)(ci:eJ)(bY:dZ)(L:Nat)(C D E:Ls)(F z:Int)(H I:List V)(X:St->Ob Y)(K:KT Y):(cV 2 (dN (cC eC (eE bS bM ci bY L) 0 L oZ) (cV 1 (dN (cC eC (eE bS bM ci bY L) 0 L kj) (fN iE X K))))) (.exit 2) (qk C D E F z H I)=mC bS bM ci bY L C D E F z H I (λJ M=>K .ret (je J M)) (λC D E F z H=>X (jl C D E F z H)):=by
 refine (y6 bS bM ci bY L C D E F z H I X K).trans ?_
 unfold mC
 first
  | (simp only [qd,yE,y8]; done)
  | (simp only [qd]; rfl)
def mV(bS:dI)(bM:cZ)(ci:eJ)(bY:dZ)(L:Nat)(D E F:Ls)(H z:Int)(I:List V)(N:Ls->Ob Y)(M:Ls->Int->Ob Y)(C:pi Y):Ob Y:=qx bS bM ci bY L D E F H z I (λD E F H z O I J=>gQ bS bM ci bY L (λD E F H z I J=>mC bS bM ci bY L D E F H z I J M C) L D E F H z O I J) N
theorem HC(bS:dI)(bM:cZ)(ci:eJ)(bY:dZ)(L:Nat)(C D E:Ls)(F z:Int)(H:List V)(X:St->Ob Y)(K:KT Y):cC eC (eE bS bM ci bY L) 0 L pd (jl C D E F z H) (fN iE X K)=mV bS bM ci bY L C D E F z H (λC=>K (.exit 0) (qu C)) (λI J=>K .ret (je I J)) (λC D E F z H=>X (jl C D E F z H)):=by
 refine (Jg bS bM ci bY L C D E F z H X K).trans ?_
 unfold mV
 first
  | (simp only [qf,xy]; done)
  | (simp only [qf]; rfl)
def g7(bS:dI)(bM:cZ)(ci:eJ)(bY:dZ)(L:Nat)(C:Ls->Ob Y)(z:Ls->Int->Ob Y):Nat->Ls->Ls->Ls->Int->Int->List V->Ob Y
 | 0,_,_,_,_,_,_=>none
 | n+1,E,F,H,I,D,J=>mV bS bM ci bY L E F H I D J C z (λE F H I D J=>g7 bS bM ci bY L C z n E F H I D J)
theorem zh(bS:dI)(bM:cZ)(ci:eJ)(bY:dZ)(L:Nat)(K:KT Y):∀ (n:Nat) (z D E:Ls) (F C:Int) (H:List V),dX (cC eC (eE bS bM ci bY L) 0 L pd) iE n (jl z D E F C H) K=g7 bS bM ci bY L (λz=>K (.exit 0) (qu z)) (λI J=>K .ret (je I J)) n z D E F C H:=by
 intro n; induction n <;> intros
 ·rfl
 ·exact (HC ..).trans (by simp only [*]; rfl)
def pB(bS:dI)(bM:cZ)(ci:eJ)(bY:dZ)(L:Nat)(C D E:Ls)(M:List V)(F:Int)(z:Ls->Int->Ob Y):Ob Y:=tS bS bM ci bY L C D E M F (λC D E F H N=>g7 bS bM ci bY L (λC=>oh bS bM ci bY L C z) (λI J=>zf bS bM ci bY L I J z) L C D E F H N)
theorem PC(bS:dI)(bM:cZ)(ci:eJ)(bY:dZ)(L:Nat)(z C D:Ls)(E:List V)(F:Int)(k:KK Y):dj eC (eE bS bM ci bY L) L cf_ref29_Take [(V.sl 38 z),(V.sl 1 C),(V.sl 1 D),(V.agg E),(QQe F)] [] k=pB bS bM ci bY L z C D E F (λH I=>k (V.ah [(V.gs 38 H),(QQe I)]) []):=by
 refine (QG bS bM ci bY L z C D E F k).trans ?_
 unfold pB
 first
  | (simp only [zh,GS,FC]; done)
  | (simp only [zh]; rfl)
abbrev tM:=∀ (Y:Type),Nat->Ls->Ls->Ls->List V->Int->(Ls->Int->Ob Y)->Ob Y
def fQ:tM:=λY=>@pB Y bS bM ci bY
def Ds(fQ:tM)(L:Nat):Dk:=dA (AL 38) λD=>dA (AL 1) λE=>dA (AL 1) λF=>dA AG λH=>dA (AI .i64) λI=>d0 λY k=>fQ Y L D E F H I (λz C=>k (V.ah [(V.gs 38 z),(QQe C)]) [])
theorem PQ(L:Nat):DK (Ds fQ L) (λ_=>dj eC (eE bS bM ci bY L) L cf_ref29_Take):=dk ik λz=>dk ik λC=>dk ik λD=>dk fO λE=>dk gm λF=>fC λ_ k=>PC bS bM ci bY L z C D E F k
def cf_ref30_advance:CF:=cfD AM 55
def pT:CC:=eS [1,1,0,1,0,0] cf_ref30_advance.body
def AO:CC:=eS [1,1,1] cf_ref30_advance.body
def i6:Nat->Sh:=fR [(21,(.int .i64))]
def iU(ca:dW)(L:Nat):CBC:=(d6 829 (pF ca L) noC)
def qz:St->St:=fF 0 (bl 114 32) (bl 4294963195 32)
def lN(I J:Int)(D E:Ls)(z C:Nat)(F H:List V):St:=⟨(jn 1 ((QQe I)::(jn 2 ((V.ptr 4 0)::((V.ptr 5 0)::((QQe J)::(jn 25 []))))))),(gn 4 ((.live false [(V.gs 3 D),(V.gs 38 E)])::((.live false [(V.own 10 0 z 3),(V.own 13 0 C 38)])::(gn 4 ((.live true F)::(gn 2 ((.live true H)::(gn 18 []))))))))⟩
def rZ(D E:Ls)(z C:Nat)(F H:List V):St:=⟨(jn 4 ((V.ptr 4 0)::((V.ptr 5 0)::(jn 26 [])))),(gn 4 ((.live false [(V.gs 3 D),(V.gs 38 E)])::((.live false [(V.own 10 0 z 3),(V.own 13 0 C 38)])::(gn 4 ((.live true F)::(gn 2 ((.live true H)::(gn 18 []))))))))⟩
abbrev xi(Y:Type):Type:=Int->Int->Ls->Ls->Nat->Nat->List V->List V->Ob Y
abbrev uR(Y:Type):Type:=Ls->Ls->Nat->Nat->List V->List V->Ob Y
def xN(ca:dW)(L:Nat)(C:List V)(D:Int)(z:xi Y):Ob Y:=chk (0+2<=(WcJ C)) (ca Y L (WbO V.ag (WcK 2 C)) (λE F H I=>z D (0:Int) ([]:Ls) ([]:Ls) E F H I))
theorem KO(ca:dW)(L:Nat)(H:List V)(z:Int)(k:KK Y):dj i6 (iU ca L) L cf_ref30_advance [(V.agg H),(QQe z)] [] k=xN ca L H z (λz M E F C D I J=>dX (cC i6 (iU ca L) 0 L pT) qz L (lN z M E F C D I J) (cV 0 (dN (cC i6 (iU ca L) 0 L AO) (eo 0 (CF.res cf_ref30_advance) k)))):=by kernel_rfl
def lf(ca:dW)(L:Nat)(M D:Int)(H I:Ls)(z E:Nat)(F J:List V)(C:xi Y)(N:uR Y):Ob Y:=ifb (decide (D<((z:Nat):Int))) (chk (0<=D/\D<((z:Nat):Int)) (cI .i64 F ((0+((WcL D)*3))+2) λO=>lt (Wbf .i64 ((M:Int)-(1:Int))) λP=>ifb ((O:Int)==P) (chk (0<=D/\D<((z:Nat):Int)) (chk (1=1/\((0+((WcL D)*3))+2)+1<=(WcJ F)) (lt (cD F ((0+((WcL D)*3))+2) [(QQe M)]) λQ=>lt (Wbf .i64 ((D:Int)+(1:Int))) λR=>C M R H I z E Q J))) (lt (Wbf .i64 ((D:Int)+(1:Int))) λS=>C M S H I z E F J))) (N H I z E F J)
theorem Ee(ca:dW)(L:Nat)(I J:Int)(D E:Ls)(z C:Nat)(F H:List V)(X:St->Ob Y)(K:KT Y):cC i6 (iU ca L) 0 L pT (lN I J D E z C F H) (fN qz X K)=lf ca L I J D E z C F H (λI J D E z C F H=>X (lN I J D E z C F H)) (λD E z C F H=>K (.exit 0) (rZ D E z C F H)):=by kernel_rfl
def oV(ca:dW)(L:Nat)(H I:Ls)(z C:Nat)(E F:List V)(D:List V->Ob Y):Ob Y:=D [(V.sl 3 (cz 3 z E)),(V.sl 38 (cz 38 C F))]
theorem Cx(ca:dW)(L:Nat)(D E:Ls)(z C:Nat)(F H:List V)(k:KK Y):(cV 0 (dN (cC i6 (iU ca L) 0 L AO) (eo 0 (CF.res cf_ref30_advance) k))) (.exit 0) (rZ D E z C F H)=oV ca L D E z C F H (λI=>k (V.agg I) []):=by kernel_rfl
def iY(ca:dW)(L:Nat)(F:uR Y):Nat->Int->Int->Ls->Ls->Nat->Nat->List V->List V->Ob Y
 | 0,_,_,_,_,_,_,_,_=>none
 | n+1,J,M,D,E,z,C,H,I=>lf ca L J M D E z C H I (λJ M D E z C H I=>iY ca L F n J M D E z C H I) F
theorem uE(ca:dW)(L:Nat)(K:KT Y):∀ (n:Nat) (I J:Int) (D E:Ls) (z C:Nat) (F H:List V),dX (cC i6 (iU ca L) 0 L pT) qz n (lN I J D E z C F H) K=iY ca L (λD E z C F H=>K (.exit 0) (rZ D E z C F H)) n I J D E z C F H:=by
 intro n; induction n <;> intros
 ·rfl
 ·exact (Ee ..).trans (by simp only [*]; rfl)
def sr(ca:dW)(L:Nat)(M:List V)(J:Int)(I:List V->Ob Y):Ob Y:=xN ca L M J (λJ N D E z C F H=>iY ca L (λD E z C F H=>oV ca L D E z C F H I) L J N D E z C F H)
theorem KI(ca:dW)(L:Nat)(z:List V)(C:Int)(k:KK Y):dj i6 (iU ca L) L cf_ref30_advance [(V.agg z),(QQe C)] [] k=sr ca L z C (λz=>k (V.agg z) []):=by
 refine (KO ca L z C k).trans ?_
 unfold sr
 first
  | (simp only [uE,Cx]; done)
  | (simp only [uE]; rfl)
abbrev oz:=∀ (Y:Type),Nat->List V->Int->(List V->Ob Y)->Ob Y
def ft:oz:=λY=>@sr Y ca
def yd(ft:oz)(L:Nat):Dk:=dA AG λz=>dA (AI .i64) λC=>d0 λY k=>ft Y L z C (λz=>k (V.agg z) [])
theorem JF(L:Nat):DK (yd ft L) (λ_=>dj i6 (iU ca L) L cf_ref30_advance):=dk fO λz=>dk gm λC=>fC λ_ k=>KI ca L z C k
def GP:CF:=cfD Dy 26
def zV:Nat->Sh:=fR [(28,(.sl 38)),(44,(.row [(.sl 3),(.sl 38)]))]
def Am(f6:tQ)(f9:q6)(dc:hZ)(fQ:tM)(ft:oz)(L:Nat):CBC:=(d6 841 (yd ft L) (d6 795 (Ds fQ L) (d6 837 (Av dc L) (d6 522 (BE f9 L) (d6 840 (DI f6 L) noC)))))
def oe(f6:tQ)(f9:q6)(dc:hZ)(fQ:tM)(ft:oz)(L:Nat)(C:List V)(H:Int)(E:List V)(z:List V->Int->Ob Y):Ob Y:=chk (0+2<=(WcJ C)) (f6 Y L (WbO V.ag (WcK 2 C)) H (λI=>ifb ((I:Int) != (0:Int)) (lt [(V.sl 3 ([]:Ls)),(V.sl 38 ([]:Ls))] λJ=>chk (0=0/\(WcJ J)=2/\2≠0) (z J I)) (chk (0+69<=(WcJ E)) (f9 Y L (WbO V.ag (WcK 69 E)) (λM=>ifb ((M:Int) != (0:Int)) (lt [(V.sl 3 ([]:Ls)),(V.sl 38 ([]:Ls))] λN=>chk (0=0/\(WcJ N)=2/\2≠0) (z N M)) (cLd 38 C 1 λR=>chk (0+2<=(WcJ C)) (dc Y L (WbO V.ag (WcK 2 C)) (λS=>chk (0+2<=(WcJ C)) (dc Y L (WbO V.ag (WcK 2 C)) (λT=>chk (0+69<=(WcJ E)) (fQ Y L R S T (WbO V.ag (WcK 69 E)) H (λU O=>ifb ((O:Int) != (0:Int)) (lt [(V.sl 3 ([]:Ls)),(V.sl 38 ([]:Ls))] λP=>chk (0=0/\(WcJ P)=2/\2≠0) (z P O)) (chk (0+2<=(WcJ C)) (ft Y L (WbO V.ag (WcK 2 C)) H (λD=>chk (WcJ D=2) (cL 3 D 0 λQ=>cL 38 D 1 λc9=>lt [(V.sl 3 Q),(V.sl 38 U)] λF=>chk (0=0/\(WcJ F)=2/\2≠0) (z F (0:Int))))))))))))))))))
theorem NE(f6:tQ)(f9:q6)(dc:hZ)(fQ:tM)(ft:oz)(L:Nat)(D:List V)(E:Int)(F:List V)(k:KK Y):dj zV (Am f6 f9 dc fQ ft L) L GP [(V.agg D),(QQe E),(V.agg F)] [] k=oe f6 f9 dc fQ ft L D E F (λz C=>k (V.ah [(V.agg z),(QQe C)]) []):=by kernel_rfl
abbrev ip:=∀ (Y:Type),Nat->List V->Int->List V->(List V->Int->Ob Y)->Ob Y
def cY:ip:=λY=>@oe Y f6 f9 dc fQ ft
def BZ(cY:ip)(L:Nat):Dk:=dA AG λD=>dA (AI .i64) λE=>dA AG λF=>d0 λY k=>cY Y L D E F (λz C=>k (V.ah [(V.agg z),(QQe C)]) [])
theorem Np(L:Nat):DK (BZ cY L) (λ_=>dj zV (Am f6 f9 dc fQ ft L) L GP):=dk fO λz=>dk gm λC=>dk fO λD=>fC λ_ k=>NE f6 f9 dc fQ ft L z C D k
def cf_law30_made:CF:=cfD E9 8
def tB:CC:=eS [1,1,0,1,0,0] cf_law30_made.body
def EC:CC:=eS [1,1,1] cf_law30_made.body
def kv:Nat->Sh:=fR [(67,(.sl 69)),(25,(.sl 69)),(36,(.sl 69))]
def kG(bR:dH)(dl:ir)(dz:jd)(cS:gO)(cr:eP)(cY:ip)(L:Nat):CBC:=(d6 828 (BZ cY L) (d6 822 (xP cr L) (d6 827 (Ab cS L) (d6 819 (Fq dz L) (d6 448 (BM dl L) (d6 231 (lY bR L) noC))))))
def uO:St->St:=fF 1 (bl 121 83) (bl 9351168509897910781984895 83)
def ng(F:Int)(z:Ls)(C:Int)(H:List V)(D E:Ls)(I:List V):St:=⟨((V.ptr 0 0)::(jn 2 ((V.ptr 4 0)::((V.ptr 5 0)::((V.ptr 6 0)::((QQe F)::(jn 76 []))))))),((.live false [(V.sl 1 z),(QQe C)])::(gn 3 ((.live true H)::((.live true [(V.gs 3 D),(V.gs 38 E)])::((.live true I)::(gn 77 []))))))⟩
def wz(z:Ls)(C:Int)(D E:Ls)(F:List V):St:=⟨(jn 4 ((V.ptr 5 0)::((V.ptr 6 0)::(jn 77 [])))),((.live false [(V.sl 1 z),(QQe C)])::(gn 4 ((.live true [(V.gs 3 D),(V.gs 38 E)])::((.live true F)::(gn 77 [])))))⟩
abbrev A8(Y:Type):Type:=Int->Ls->Int->List V->Ls->Ls->List V->Ob Y
abbrev ux(Y:Type):Type:=Ls->Int->Ls->Ls->List V->Ob Y
def C7(bR:dH)(dl:ir)(dz:jd)(cS:gO)(cr:eP)(cY:ip)(L:Nat)(E:List V)(C:Ls)(D:Int)(z:A8 Y):Ob Y:=bR Y L (24:Int) C D (λF H I=>z F H I E ([]:Ls) ([]:Ls) [(V.gs 3 ([]:Ls)),(V.gs 38 ([]:Ls))])
theorem Qw(bR:dH)(dl:ir)(dz:jd)(cS:gO)(cr:eP)(cY:ip)(L:Nat)(F:List V)(z:Ls)(C:Int)(k:KK Y):dj kv (kG bR dl dz cS cr cY L) L cf_law30_made [(V.ptr 0 0),(V.agg F)] [(.live false [(V.sl 1 z),(QQe C)])] k=C7 bR dl dz cS cr cY L F z C (λH z C I D E J=>dX (cC kv (kG bR dl dz cS cr cY L) 1 L tB) uO L (ng H z C I D E J) (cV 0 (dN (cC kv (kG bR dl dz cS cr cY L) 1 L EC) (eo 1 (CF.res cf_law30_made) k)))):=by kernel_rfl
def ig(bR:dH)(dl:ir)(dz:jd)(cS:gO)(cr:eP)(cY:ip)(L:Nat)(H:Int)(I:Ls)(J:Int)(F:List V)(D E:Ls)(C:List V)(z:A8 Y)(ab:ux Y):Ob Y:=ifb (decide (H>(0:Int))) (bR Y L (4:Int) I J (λv3 O P=>ifb ((v3:Int)==(0:Int)) (chk (0+2<=(WcJ C)) (bR Y L (6:Int) O P (λv6 v7 v8=>lt (Wbf .u8 v6) λx9=>dl Y L x9 (λad=>bR Y L (3:Int) v7 v8 (λan Q R=>lt (Wbf .i64 (((1:Int):Int)+an)) λao=>dz Y L (WbO V.ag (WcK 2 C)) ad ao (λS ap=>chk ((WcJ S)=2/\0+2<=2) (lt (cD [(V.gs 3 ([]:Ls)),(V.gs 38 ([]:Ls))] 0 S) λM=>ifb ((ap:Int)==(0:Int)) (chk (0+2<=(WcJ M)) (chk ((WcJ (WcK 2 M))=2/\0+2<=(WcJ C)) (lt (cD C 0 (WcK 2 M)) λaq=>lt (Wbf .i64 ((H:Int)-(1:Int))) λar=>z ar Q R F D E aq))) (lt (Wbf .i64 ((H:Int)-(1:Int))) λau=>z au Q R F D E C)))))))) (ifb ((v3:Int)==(1:Int)) (chk (0+2<=(WcJ C)) (cLd 69 F 80 λav=>lt (Wbf .i64 ((((WcJ av:Nat):Int):Int)+(1:Int))) λaz=>bR Y L az O P (λaH T U=>cS Y L (WbO V.ag (WcK 2 C)) aH (λc9 aK=>chk ((WcJ c9)=2/\0+2<=2) (lt (cD [(V.gs 3 ([]:Ls)),(V.gs 38 ([]:Ls))] 0 c9) λN=>ifb ((aK:Int)==(0:Int)) (bR Y L (4:Int) T U (λaV X c8=>ifb ((aV:Int)==(0:Int)) (chk (0+2<=(WcJ N)) (chk ((WcJ (WcK 2 N))=2/\0+2<=(WcJ C)) (lt (cD C 0 (WcK 2 N)) λaZ=>lt (Wbf .i64 ((H:Int)-(1:Int))) λa0=>z a0 X c8 F D E aZ))) (lt (Wbf .i64 ((H:Int)-(1:Int))) λa1=>z a1 X c8 F D E C))) (lt (Wbf .i64 ((H:Int)-(1:Int))) λa2=>z a2 T U F D E C)))))) (chk (0+2<=(WcJ C)) (cLd 69 F 80 λa3=>cr Y L (WbO V.ag (WcK 2 C)) ((WcJ a3:Nat):Int) (λb9 bk a4=>ifb a4 (chk (0+2<=(WcJ C)) (cLd 69 F 80 λa5=>lt (Wbf .i64 ((b9:Int)-(1:Int))) λa6=>idx a5 a6 λa7=>cY Y L (WbO V.ag (WcK 2 C)) b9 (WbO V.ag (WcK 69 a7)) (λaa br=>chk ((WcJ aa)=2/\0+2<=(WcJ C)) (lt (cD C 0 aa) λa8=>lt (Wbf .i64 ((H:Int)-(1:Int))) λba=>z ba O P F D E a8)))) (lt (Wbf .i64 ((H:Int)-(1:Int))) λbb=>z bb O P F D E C))))))) (ab I J D E C)
theorem H4(bR:dH)(dl:ir)(dz:jd)(cS:gO)(cr:eP)(cY:ip)(L:Nat)(H:Int)(z:Ls)(C:Int)(I:List V)(D E:Ls)(F:List V)(X:St->Ob Y)(K:KT Y):cC kv (kG bR dl dz cS cr cY L) 1 L tB (ng H z C I D E F) (fN uO X K)=ig bR dl dz cS cr cY L H z C I D E F (λH z C I D E F=>X (ng H z C I D E F)) (λz C D E F=>K (.exit 0) (wz z C D E F)):=by kernel_rfl
def sj(bR:dH)(dl:ir)(dz:jd)(cS:gO)(cr:eP)(cY:ip)(L:Nat)(D:Ls)(E:Int)(F H:Ls)(I:List V)(z:List V->Ls->Int->Ob Y):Ob Y:=chk (0+2<=(WcJ I)) (chk ((WcJ (WcK 2 I))=2/\0+2<=2) (lt (cD [(V.gs 3 F),(V.gs 38 H)] 0 (WcK 2 I)) λC=>chk (0=0/\(WcJ C)=2/\2≠0) (z C D E)))
theorem Fz(bR:dH)(dl:ir)(dz:jd)(cS:gO)(cr:eP)(cY:ip)(L:Nat)(z:Ls)(C:Int)(D E:Ls)(F:List V)(k:KK Y):(cV 0 (dN (cC kv (kG bR dl dz cS cr cY L) 1 L EC) (eo 1 (CF.res cf_law30_made) k))) (.exit 0) (wz z C D E F)=sj bR dl dz cS cr cY L z C D E F (λH z C=>k (V.agg H) [(.live false [(V.sl 1 z),(QQe C)])]):=by kernel_rfl
def fG(bR:dH)(dl:ir)(dz:jd)(cS:gO)(cr:eP)(cY:ip)(L:Nat)(F:ux Y):Nat->Int->Ls->Int->List V->Ls->Ls->List V->Ob Y
 | 0,_,_,_,_,_,_,_=>none
 | n+1,H,z,C,I,D,E,J=>ig bR dl dz cS cr cY L H z C I D E J (λH z C I D E J=>fG bR dl dz cS cr cY L F n H z C I D E J) F
theorem xV(bR:dH)(dl:ir)(dz:jd)(cS:gO)(cr:eP)(cY:ip)(L:Nat)(K:KT Y):∀ (n:Nat) (H:Int) (z:Ls) (C:Int) (I:List V) (D E:Ls) (F:List V),dX (cC kv (kG bR dl dz cS cr cY L) 1 L tB) uO n (ng H z C I D E F) K=fG bR dl dz cS cr cY L (λz C D E F=>K (.exit 0) (wz z C D E F)) n H z C I D E F:=by
 intro n; induction n <;> intros
 ·rfl
 ·exact (H4 ..).trans (by simp only [*]; rfl)
def xT(bR:dH)(dl:ir)(dz:jd)(cS:gO)(cr:eP)(cY:ip)(L:Nat)(I:List V)(z:Ls)(C:Int)(F:List V->Ls->Int->Ob Y):Ob Y:=C7 bR dl dz cS cr cY L I z C (λJ z C M D E H=>fG bR dl dz cS cr cY L (λz C D E H=>sj bR dl dz cS cr cY L z C D E H F) L J z C M D E H)
theorem Qa(bR:dH)(dl:ir)(dz:jd)(cS:gO)(cr:eP)(cY:ip)(L:Nat)(D:List V)(z:Ls)(C:Int)(k:KK Y):dj kv (kG bR dl dz cS cr cY L) L cf_law30_made [(V.ptr 0 0),(V.agg D)] [(.live false [(V.sl 1 z),(QQe C)])] k=xT bR dl dz cS cr cY L D z C (λE z C=>k (V.agg E) [(.live false [(V.sl 1 z),(QQe C)])]):=by
 refine (Qw bR dl dz cS cr cY L D z C k).trans ?_
 unfold xT
 first
  | (simp only [xV,Fz]; done)
  | (simp only [xV]; rfl)
abbrev gY:=∀ (Y:Type),Nat->List V->Ls->Int->(List V->Ls->Int->Ob Y)->Ob Y
def dn:gY:=λY=>@xT Y bR dl dz cS cr cY
def yB(dn:gY)(L:Nat)(Y:Type)(args:List V)(bor:Bor)(k:KK Y):Ob Y:=match args,bor with
 | [a0,a1],[(.live false [w0_0,w0_1])]=>aP 0 0 a0 (aG a1 λD=>aL 1 w0_0 λz=>aI .i64 w0_1 λC=>dn Y L D z C (λE z C=>k (V.agg E) [(.live false [(V.sl 1 z),(QQe C)])]))
 | _,_=>none
theorem PV(L:Nat)(Y:Type)(args:List V)(bor:Bor)(k:KK Y)(r:Y)(h:yB dn L Y args bor k=some r):dj kv (kG bR dl dz cS cr cY L) L cf_law30_made args bor k=some r:=by
 unfold yB at h
 split at h
 ·have q:=Gh h; clear h; obtain ⟨rfl,h⟩:=q
  have q:=zbW h; clear h; obtain ⟨D,rfl,h⟩:=q
  have q:=Bi h; clear h; obtain ⟨z,rfl,h⟩:=q
  have q:=tK h; clear h; obtain ⟨C,rfl,h⟩:=q
  exact (Qa bR dl dz cS cr cY L D z C k).trans h
 ·cases h
def cf_scan_Reached:CF:=cfD Cg 21
def pE:CC:=eS [1,1,1,0,1,0,0] cf_scan_Reached.body
def AR:CC:=eS [1,1,1,1] cf_scan_Reached.body
def jy:Nat->Sh:=fR [(7,(.sl 3)),(11,(.sl 3)),(14,(.int .i64)),(16,(.sl 3)),(24,(.int .i64))]
def jt(L:Nat):CBC:=noC
def qi:St->St:=fF 0 (bl 458760 28) (bl 234880989 28)
def lP(E:Int)(z:Ls)(C D:Int):St:=⟨(jn 3 ((QQe E)::(jn 12 ((V.sl 3 z)::((QQe C)::((QQe D)::(jn 9 []))))))),(gn 28 [])⟩
def tI(z:Int):St:=⟨(jn 3 ((QQe z)::(jn 24 []))),(gn 28 [])⟩
def Ak(L:Nat)(D:List V)(C:Int->Ob Y)(z:Int->Ls->Int->Int->Ob Y):Ob Y:=cLd 3 D 0 λF=>ifb ((((WcJ F:Nat):Int):Int)==(0:Int)) (C (-1:Int)) (cLd 3 D 0 λH=>idx H (0:Int) λI=>cI .i64 (WcM 2 I) 0 λJ=>cLd 3 D 0 λE=>z J E ((WcJ E:Nat):Int) (0:Int))
theorem Mm(L:Nat)(z:List V)(k:KK Y):dj jy (jt L) L cf_scan_Reached [(V.agg z)] [] k=Ak L z (λz=>k (QQe z) []) (λF C D E=>dX (cC jy (jt L) 0 L pE) qi L (lP F C D E) (cV 0 (dN (cC jy (jt L) 0 L AR) (eo 0 (CF.res cf_scan_Reached) k)))):=by kernel_rfl
def qG(L:Nat)(H:Int)(D:Ls)(E C:Int)(z:Int->Ls->Int->Int->Ob Y)(F:Int->Ob Y):Ob Y:=ifb (decide (C<E)) (idx D C λI=>chk ((WcJ (WcK 3 I))=3/\0+3<=3) (lt (cD [(V.gs 1 ([]:Ls)),(QQe (0:Int)),(QQe (0:Int))] 0 (WcK 3 I)) λJ=>cI .i64 J 2 λM=>lt (Kc H M) λN=>lt (Wbf .i64 ((C:Int)+(1:Int))) λO=>z N D E O)) (F H)
theorem Ej(L:Nat)(E:Int)(z:Ls)(C D:Int)(X:St->Ob Y)(K:KT Y):cC jy (jt L) 0 L pE (lP E z C D) (fN qi X K)=qG L E z C D (λE z C D=>X (lP E z C D)) (λE=>K (.exit 0) (tI E)):=by kernel_rfl
def mn(L:Nat)(C:Int)(z:Int->Ob Y):Ob Y:=z C
theorem Cp(L:Nat)(z:Int)(k:KK Y):(cV 0 (dN (cC jy (jt L) 0 L AR) (eo 0 (CF.res cf_scan_Reached) k))) (.exit 0) (tI z)=mn L z (λC=>k (QQe C) []):=by kernel_rfl
def lh(L:Nat)(z:Int->Ob Y):Nat->Int->Ls->Int->Int->Ob Y
 | 0,_,_,_,_=>none
 | n+1,F,C,D,E=>qG L F C D E (λF C D E=>lh L z n F C D E) z
theorem uH(L:Nat)(K:KT Y):∀ (n:Nat) (z:Int) (C:Ls) (D E:Int),dX (cC jy (jt L) 0 L pE) qi n (lP z C D E) K=lh L (λz=>K (.exit 0) (tI z)) n z C D E:=by
 intro n; induction n <;> intros
 ·rfl
 ·exact (Ej ..).trans (by simp only [*]; rfl)
def ut(L:Nat)(H:List V)(z:Int->Ob Y):Ob Y:=Ak L H z (λC D E F=>lh L (λC=>mn L C z) L C D E F)
theorem Ms(L:Nat)(z:List V)(k:KK Y):dj jy (jt L) L cf_scan_Reached [(V.agg z)] [] k=ut L z (λz=>k (QQe z) []):=by
 refine (Mm L z k).trans ?_
 unfold ut
 first
  | (simp only [uH,Cp]; done)
  | (simp only [uH]; rfl)
abbrev cT:=∀ (Y:Type),Nat->List V->(Int->Ob Y)->Ob Y
def bN:cT:=λY=>@ut Y
def pK(bN:cT)(L:Nat):Dk:=dA AG λz=>d0 λY k=>bN Y L z (λz=>k (QQe z) [])
theorem LW(L:Nat):DK (pK bN L) (λ_=>dj jy (jt L) L cf_scan_Reached):=dk fO λz=>fC λ_ k=>Ms L z k
def GW:CF:=cfD C5 40
def zG:Nat->Sh:=fR []
def Aa(L:Nat):CBC:=noC
def B2(L:Nat)(D:Ls)(z:Ls->Ob Y):Ob Y:=lc D (z ([]:Ls)) (λh0 C=>chk ((0+WcJ (h0::C))*1<=cy/\0+WcJ (h0::C)<=cy) (chk ((WcJ (h0::C))≠0∨(WcJ (WcN (h0::C)))=0) (z (cz 1 (WcJ (h0::C)) (WcN (h0::C))))))
theorem NP(L:Nat)(z:Ls)(k:KK Y):dj zG (Aa L) L GW [(V.sl 1 z)] [] k=B2 L z (λz=>k (V.fr 1 z) []):=by kernel_rfl
abbrev eO:=∀ (Y:Type),Nat->Ls->(Ls->Ob Y)->Ob Y
def cq:eO:=λY=>@B2 Y
def vS(cq:eO)(L:Nat):Dk:=dA (AL 1) λz=>d0 λY k=>cq Y L z (λz=>k (V.fr 1 z) [])
theorem NN(L:Nat):DK (vS cq L) (λ_=>dj zG (Aa L) L GW):=dk ik λz=>fC λ_ k=>NP L z k
def cf_scan_due:CF:=cfD IK 42
def uQ:CC:=eS [1,1,1,0,1,0,0] cf_scan_due.body
def Gp:CC:=eS [1,1,1,1] cf_scan_due.body
def mj:Nat->Sh:=fR [(11,(.sl 3)),(18,(.int .i64)),(23,(.sl 1))]
def mf(bN:cT)(L:Nat):CBC:=(d6 824 (pK bN L) noC)
def wi:St->St:=fF 0 (bl 14360 27) (bl 134217661 27)
def nX(E:Int)(z:Ls)(C D:Int)(F:Lm):St:=⟨(jn 3 ((QQe E)::((V.ptr 4 0)::(jn 6 ((V.sl 3 z)::((QQe C)::((QQe D)::(jn 13 [])))))))),(gn 4 ((.live false [(V.mp 9)])::(gn 4 ((.mp F)::(gn 17 [])))))⟩
def zy(z:Lm):St:=⟨(jn 4 ((V.ptr 4 0)::(jn 22 []))),(gn 4 ((.live false [(V.mp 9)])::(gn 4 ((.mp z)::(gn 17 [])))))⟩
def HU(bN:cT)(L:Nat)(C:List V)(z:Int->Ls->Int->Int->Lm->Ob Y):Ob Y:=chk (0+2<=(WcJ C)) (bN Y L (WbO V.ag (WcK 2 C)) (λE=>cLd 3 C 0 λD=>z E D ((WcJ D:Nat):Int) (0:Int) ([]:Lm)))
theorem Uz(bN:cT)(L:Nat)(z:List V)(k:KK Y):dj mj (mf bN L) L cf_scan_due [(V.agg z)] [] k=HU bN L z (λF C D E H=>dX (cC mj (mf bN L) 0 L uQ) wi L (nX F C D E H) (cV 0 (dN (cC mj (mf bN L) 0 L Gp) (eo 0 (CF.res cf_scan_due) k)))):=by kernel_rfl
def nF(bN:cT)(L:Nat)(F:Int)(D:Ls)(E C:Int)(H:Lm)(z:Int->Ls->Int->Int->Lm->Ob Y)(I:Lm->Ob Y):Ob Y:=ifb (decide (C<E)) (idx D C λJ=>chk ((WcJ (WcK 3 J))=3/\0+3<=3) (lt (cD [(V.gs 1 ([]:Ls)),(QQe (0:Int)),(QQe (0:Int))] 0 (WcK 3 J)) λM=>cI .i64 M 2 λN=>ifb ((N:Int)==F) (cLd 1 M 0 λO=>zX O λP=>We 1 (V.sc (.string P)) (V.sc (.bool true)) H λQ=>lt (Wbf .i64 ((C:Int)+(1:Int))) λR=>z F D E R Q) (lt (Wbf .i64 ((C:Int)+(1:Int))) λS=>z F D E S H))) (I H)
theorem Jo(bN:cT)(L:Nat)(F:Int)(z:Ls)(C D:Int)(E:Lm)(X:St->Ob Y)(K:KT Y):cC mj (mf bN L) 0 L uQ (nX F z C D E) (fN wi X K)=nF bN L F z C D E (λF z C D E=>X (nX F z C D E)) (λE=>K (.exit 0) (zy E)):=by kernel_rfl
def AS(bN:cT)(L:Nat)(C:Lm)(z:Lm->Ob Y):Ob Y:=z C
theorem GO(bN:cT)(L:Nat)(z:Lm)(k:KK Y):(cV 0 (dN (cC mj (mf bN L) 0 L Gp) (eo 0 (CF.res cf_scan_due) k))) (.exit 0) (zy z)=AS bN L z (λC=>k (V.fn 844 [(V.ptr 0 0)]) [(.live false [(V.mp 1)]),(.mp C)]):=by kernel_rfl
def kI(bN:cT)(L:Nat)(z:Lm->Ob Y):Nat->Int->Ls->Int->Int->Lm->Ob Y
 | 0,_,_,_,_,_=>none
 | n+1,F,C,D,E,H=>nF bN L F C D E H (λF C D E H=>kI bN L z n F C D E H) z
theorem zo(bN:cT)(L:Nat)(K:KT Y):∀ (n:Nat) (F:Int) (C:Ls) (D E:Int) (z:Lm),dX (cC mj (mf bN L) 0 L uQ) wi n (nX F C D E z) K=kI bN L (λz=>K (.exit 0) (zy z)) n F C D E z:=by
 intro n; induction n <;> intros
 ·rfl
 ·exact (Jo ..).trans (by simp only [*]; rfl)
def CI(bN:cT)(L:Nat)(H:List V)(z:Lm->Ob Y):Ob Y:=HU bN L H (λI D E F C=>kI bN L (λC=>AS bN L C z) L I D E F C)
theorem Us(bN:cT)(L:Nat)(z:List V)(k:KK Y):dj mj (mf bN L) L cf_scan_due [(V.agg z)] [] k=CI bN L z (λC=>k (V.fn 844 [(V.ptr 0 0)]) [(.live false [(V.mp 1)]),(.mp C)]):=by
 refine (Uz bN L z k).trans ?_
 unfold CI
 first
  | (simp only [zo,GO]; done)
  | (simp only [zo]; rfl)
abbrev gf:=∀ (Y:Type),Nat->List V->(Lm->Ob Y)->Ob Y
def cQ:gf:=λY=>@CI Y bN
def Hn(cQ:gf)(L:Nat):Dk:=dA AG λz=>d0 λY k=>cQ Y L z (λC=>k (V.fn 844 [(V.ptr 0 0)]) [(.live false [(V.mp 1)]),(.mp C)])
theorem UR(L:Nat):DK (Hn cQ L) (λ_=>dj mj (mf bN L) L cf_scan_due):=dk fO λz=>fC λ_ k=>Us bN L z k
def AW:CF:=cfD xK 66
def tU:Nat->Sh:=fR [(1,(.row [(.int .u8),(.int .u8),(.int .u8),(.int .u8),(.int .u8),(.int .u8),(.int .u8),(.int .u8),(.int .u8),(.int .u8),(.int .u8),(.int .u8),(.int .u8),(.int .u8),(.int .u8),(.int .u8),(.int .u8),(.int .u8),(.int .u8),(.int .u8),(.int .u8),(.int .u8),(.int .u8),(.int .u8),(.int .u8),(.int .u8),(.int .u8),(.int .u8),(.int .u8),(.int .u8),(.int .u8),(.int .u8),(.int .u32),(.int .i64),(.sl 1),(.int .i64),.bool]))]
def tq(cq:eO)(L:Nat):CBC:=(d6 584 (vS cq L) noC)
def Cf(cq:eO)(L:Nat)(z:List V)(C:List V->Ob Y):Ob Y:=chk (WcJ z=37) (cI .u8 z 0 λv0=>cI .u8 z 1 λv1=>cI .u8 z 2 λv2=>cI .u8 z 3 λv3=>cI .u8 z 4 λv4=>cI .u8 z 5 λv5=>cI .u8 z 6 λv6=>cI .u8 z 7 λv7=>cI .u8 z 8 λv8=>cI .u8 z 9 λv9=>cI .u8 z 10 λE=>cI .u8 z 11 λF=>cI .u8 z 12 λH=>cI .u8 z 13 λI=>cI .u8 z 14 λJ=>cI .u8 z 15 λM=>cI .u8 z 16 λN=>cI .u8 z 17 λO=>cI .u8 z 18 λP=>cI .u8 z 19 λQ=>cI .u8 z 20 λR=>cI .u8 z 21 λS=>cI .u8 z 22 λT=>cI .u8 z 23 λU=>cI .u8 z 24 λc9=>cI .u8 z 25 λX=>cI .u8 z 26 λc8=>cI .u8 z 27 λb9=>cI .u8 z 28 λaa=>cI .u8 z 29 λab=>cI .u8 z 30 λac=>cI .u8 z 31 λad=>cI .u32 z 32 λag=>cI .i64 z 33 λan=>cL 1 z 34 λao=>cI .i64 z 35 λap=>cB z 36 λaq=>cq Y L ao (λar=>lt [(QQa v0),(QQa v1),(QQa v2),(QQa v3),(QQa v4),(QQa v5),(QQa v6),(QQa v7),(QQa v8),(QQa v9),(QQa E),(QQa F),(QQa H),(QQa I),(QQa J),(QQa M),(QQa N),(QQa O),(QQa P),(QQa Q),(QQa R),(QQa S),(QQa T),(QQa U),(QQa c9),(QQa X),(QQa c8),(QQa b9),(QQa aa),(QQa ab),(QQa ac),(QQa ad),(QQc ag),(QQe an),(V.sl 1 ar),(QQe ap),(V.sc (.bool aq))] λD=>chk (0=0/\(WcJ D)=37/\37≠0) (C D)))
theorem HA(cq:eO)(L:Nat)(z:List V)(k:KK Y):dj tU (tq cq L) L AW [(V.agg z)] [] k=Cf cq L z (λz=>k (V.agg z) []):=by kernel_rfl
abbrev fU:=∀ (Y:Type),Nat->List V->(List V->Ob Y)->Ob Y
def cO:fU:=λY=>@Cf Y cq
def vq(cO:fU)(L:Nat):Dk:=dA AG λz=>d0 λY k=>cO Y L z (λz=>k (V.agg z) [])
theorem H3(L:Nat):DK (vq cO L) (λ_=>dj tU (tq cq L) L AW):=dk fO λz=>fC λ_ k=>HA cq L z k
def cf_coins_Unspent:CF:=cfD AU 43
def pM:CC:=eS [1,1,0,1,0,0] cf_coins_Unspent.body
def A5:CC:=eS [1,1,1] cf_coins_Unspent.body
def iV:Nat->Sh:=fR [(13,(.int .i64))]
def i3(cO:fU)(L:Nat):CBC:=(d6 549 (vq cO L) noC)
def qS:St->St:=fF 0 (bl 456 23) (bl 6553567 23)
def lJ(z C:Ls)(D E:Int):St:=⟨(jn 3 ((V.gs 37 z)::(jn 2 ((V.sl 38 C)::((QQe D)::((QQe E)::(jn 14 []))))))),(gn 23 [])⟩
def rS(z:Ls):St:=⟨(jn 3 ((V.gs 37 z)::(jn 19 []))),(gn 23 [])⟩
def yK(cO:fU)(L:Nat)(C:Ls)(z:Ls->Ls->Int->Int->Ob Y):Ob Y:=z ([]:Ls) C ((WcJ C:Nat):Int) (0:Int)
theorem J1(cO:fU)(L:Nat)(z:Ls)(k:KK Y):dj iV (i3 cO L) L cf_coins_Unspent [(V.sl 38 z)] [] k=yK cO L z (λC D E F=>dX (cC iV (i3 cO L) 0 L pM) qS L (lJ C D E F) (cV 0 (dN (cC iV (i3 cO L) 0 L A5) (eo 0 (CF.res cf_coins_Unspent) k)))):=by kernel_rfl
def nk(cO:fU)(L:Nat)(C F:Ls)(H D:Int)(z:Ls->Ls->Int->Int->Ob Y)(I:Ls->Ob Y):Ob Y:=ifb (decide (D<H)) (idx F D λM=>chk ((WcJ (WcK 38 M))=38/\0+38<=38) (lt (cD (Wad 32 (QQa (0:Int))++[(QQc (0:Int)),(QQe (0:Int)),(V.gs 1 ([]:Ls)),(QQe (0:Int)),(V.sc (.bool false)),(QQe (0:Int))]) 0 (WcK 38 M)) λJ=>cI .i64 J 37 λN=>ifb ((N:Int)==(0:Int)) (chk (0+37<=(WcJ J)) (cO Y L (WbO V.ag (WcK 37 J)) (λE=>chk ((WcJ E)=37/\0+37<=37) (chk ((WcJ C+WcJ (cz 37 1 (cD (Wad 32 (QQa (0:Int))++[(QQc (0:Int)),(QQe (0:Int)),(V.sl 1 ([]:Ls)),(QQe (0:Int)),(V.sc (.bool false))]) 0 E)))*88<=cy/\WcJ C+WcJ (cz 37 1 (cD (Wad 32 (QQa (0:Int))++[(QQc (0:Int)),(QQe (0:Int)),(V.sl 1 ([]:Ls)),(QQe (0:Int)),(V.sc (.bool false))]) 0 E))<=cy) (lt (C++(cz 37 1 (cD (Wad 32 (QQa (0:Int))++[(QQc (0:Int)),(QQe (0:Int)),(V.sl 1 ([]:Ls)),(QQe (0:Int)),(V.sc (.bool false))]) 0 E))) λO=>lt (Wbf .i64 ((D:Int)+(1:Int))) λP=>z O F H P))))) (lt (Wbf .i64 ((D:Int)+(1:Int))) λQ=>z C F H Q))) (I C)
theorem D8(cO:fU)(L:Nat)(z C:Ls)(D E:Int)(X:St->Ob Y)(K:KT Y):cC iV (i3 cO L) 0 L pM (lJ z C D E) (fN qS X K)=nk cO L z C D E (λz C D E=>X (lJ z C D E)) (λz=>K (.exit 0) (rS z)):=by kernel_rfl
def vt(cO:fU)(L:Nat)(C:Ls)(z:Ls->Ob Y):Ob Y:=z C
theorem Ct(cO:fU)(L:Nat)(z:Ls)(k:KK Y):(cV 0 (dN (cC iV (i3 cO L) 0 L A5) (eo 0 (CF.res cf_coins_Unspent) k))) (.exit 0) (rS z)=vt cO L z (λC=>k (V.gs 37 C) []):=by kernel_rfl
def jX(cO:fU)(L:Nat)(z:Ls->Ob Y):Nat->Ls->Ls->Int->Int->Ob Y
 | 0,_,_,_,_=>none
 | n+1,C,D,E,F=>nk cO L C D E F (λC D E F=>jX cO L z n C D E F) z
theorem uG(cO:fU)(L:Nat)(K:KT Y):∀ (n:Nat) (z C:Ls) (D E:Int),dX (cC iV (i3 cO L) 0 L pM) qS n (lJ z C D E) K=jX cO L (λz=>K (.exit 0) (rS z)) n z C D E:=by
 intro n; induction n <;> intros
 ·rfl
 ·exact (D8 ..).trans (by simp only [*]; rfl)
def sA(cO:fU)(L:Nat)(D:Ls)(z:Ls->Ob Y):Ob Y:=yK cO L D (λC E F H=>jX cO L (λC=>vt cO L C z) L C E F H)
theorem Lk(cO:fU)(L:Nat)(z:Ls)(k:KK Y):dj iV (i3 cO L) L cf_coins_Unspent [(V.sl 38 z)] [] k=sA cO L z (λz=>k (V.gs 37 z) []):=by
 refine (J1 cO L z k).trans ?_
 unfold sA
 first
  | (simp only [uG,Ct]; done)
  | (simp only [uG]; rfl)
abbrev eN:=∀ (Y:Type),Nat->Ls->(Ls->Ob Y)->Ob Y
def cu:eN:=λY=>@sA Y cO
def yi(cu:eN)(L:Nat):Dk:=dA (AL 38) λz=>d0 λY k=>cu Y L z (λz=>k (V.gs 37 z) [])
theorem Kp(L:Nat):DK (yi cu L) (λ_=>dj iV (i3 cO L) L cf_coins_Unspent):=dk ik λz=>fC λ_ k=>Lk cO L z k
def IY:CF:=cfD ET 65
def Bv:Nat->Sh:=fR [(7,.bool)]
def BF(L:Nat):CBC:=noC
def C2(L:Nat)(D:Ls)(C:Lm)(z:Bool->Lm->Ob Y):Ob Y:=zX D λE=>mAt 1 (V.sc (.string E)) C λq1=>aB (Option.getD q1 (V.sc (.bool false))) λF=>z F C
theorem Rz(L:Nat)(z:Ls)(C:Lm)(k:KK Y):dj Bv (BF L) L IY [(V.sl 1 z),(V.ptr 0 0)] [(.live false [(V.mp 1)]),(.mp C)] k=C2 L z C (λz C=>k (V.sc (.bool z)) [(.live false [(V.mp 1)]),(.mp C)]):=by kernel_rfl
abbrev fw:=∀ (Y:Type),Nat->Ls->Lm->(Bool->Lm->Ob Y)->Ob Y
def cG:fw:=λY=>@C2 Y
def yl(cG:fw)(L:Nat)(Y:Type)(args:List V)(bor:Bor)(k:KK Y):Ob Y:=match args,bor with
 | [a0,a1],[(.live false [w0_0]),(.mp z)]=>aL 1 a0 λC=>aP 0 0 a1 (aM 1 w0_0 (cG Y L C z (λC z=>k (V.sc (.bool C)) [(.live false [(V.mp 1)]),(.mp z)])))
 | _,_=>none
theorem PB(L:Nat)(Y:Type)(args:List V)(bor:Bor)(k:KK Y)(r:Y)(h:yl cG L Y args bor k=some r):dj Bv (BF L) L IY args bor k=some r:=by
 unfold yl at h
 split at h
 ·have q:=Bi h; clear h; obtain ⟨z,rfl,h⟩:=q
  have q:=Gh h; clear h; obtain ⟨rfl,h⟩:=q
  have q:=zf5 h; clear h; obtain ⟨rfl,h⟩:=q
  exact (Rz L z _ k).trans h
 ·cases h
def EQ:CF:=cfD Cj 93
def yo:Nat->Sh:=fR []
def xw(L:Nat):CBC:=noC
def z6(L:Nat)(z C:Ls)(D:Ls->Ob Y):Ob Y:=lt (Wbf .i64 ((((WcJ z:Nat):Int):Int)+((WcJ C:Nat):Int))) λE=>chk (0<=(0:Int)/\(0:Int)<=E/\(WcL E)*1<=cy/\E<=cy) (chk ((WcJ (Wad 0 [(QQa (0:Int))])+WcJ z)*1<=cy/\WcJ (Wad 0 [(QQa (0:Int))])+WcJ z<=cy) (lt ((Wad 0 [(QQa (0:Int))])++z) λF=>chk ((WcJ F+WcJ C)*1<=cy/\WcJ F+WcJ C<=cy) (lt (F++C) λH=>D H)))
theorem Mb(L:Nat)(z C:Ls)(k:KK Y):dj yo (xw L) L EQ [(V.sl 1 z),(V.sl 1 C)] [] k=z6 L z C (λz=>k (V.gs 1 z) []):=by kernel_rfl
abbrev kO:=∀ (Y:Type),Nat->Ls->Ls->(Ls->Ob Y)->Ob Y
def dP:kO:=λY=>@z6 Y
def uf(dP:kO)(L:Nat):Dk:=dA (AL 1) λz=>dA (AL 1) λC=>d0 λY k=>dP Y L z C (λz=>k (V.gs 1 z) [])
theorem MJ(L:Nat):DK (uf dP L) (λ_=>dj yo (xw L) L EQ):=dk ik λz=>dk ik λC=>fC λ_ k=>Mb L z C k
def zk:CF:=cfD xl 68
def rW:Nat->Sh:=fR []
def rL(dP:kO)(L:Nat):CBC:=(d6 191 (uf dP L) noC)
def tA(dP:kO)(L:Nat)(D:Ls)(C:List V)(z:Ls->Ob Y):Ob Y:=chk (0+32*1<=(WcJ C)) (ifb (List.isEmpty C) (dP Y L D (cz 1 32 C) (λE=>z E)) (dP Y L D (cz 1 32 C) (λF=>z F)))
theorem GQ(dP:kO)(L:Nat)(z:Ls)(C:List V)(k:KK Y):dj rW (rL dP L) L zk [(V.sl 1 z),(V.agg C)] [] k=tA dP L z C (λz=>k (V.gs 1 z) []):=by kernel_rfl
abbrev mr:=∀ (Y:Type),Nat->Ls->List V->(Ls->Ob Y)->Ob Y
def eZ:mr:=λY=>@tA Y dP
def s6(eZ:mr)(L:Nat):Dk:=dA (AL 1) λz=>dA AG λC=>d0 λY k=>eZ Y L z C (λz=>k (V.gs 1 z) [])
theorem Gv(L:Nat):DK (s6 eZ L) (λ_=>dj rW (rL dP L) L zk):=dk ik λz=>dk fO λC=>fC λ_ k=>GQ dP L z C k
def cf_codec_lowest:CF:=cfD Ch 94
def qK:CC:=eS [1,1,0,1,0,0] cf_codec_lowest.body
def Ce:CC:=eS [1,1,1] cf_codec_lowest.body
def jA:Nat->Sh:=fR []
def jv(L:Nat):CBC:=noC
def rY:St->St:=fF 0 (bl 1569 23) (bl 8388543 23)
def ml(D:Int)(z:Nat)(E C:Int)(F:List V):St:=⟨((QQd D)::(jn 4 ((V.own 8 0 z 1)::(jn 3 ((QQe E)::((QQe C)::(jn 12 []))))))),(gn 8 ((.live true F)::(gn 14 [])))⟩
def tc(z:Nat)(C:List V):St:=⟨(jn 5 ((V.own 8 0 z 1)::(jn 17 []))),(gn 8 ((.live true C)::(gn 14 [])))⟩
def Gr(L:Nat)(D z:Int)(C:Int->Nat->Int->Int->List V->Ob Y):Ob Y:=chk (0<=z/\z<=z/\(WcL z)*1<=cy/\z<=cy) (C D (WcL z) z (0:Int) (WcN (Wad (WcL z) [(QQa (0:Int))])))
theorem LZ(L:Nat)(z C:Int)(k:KK Y):dj jA (jv L) L cf_codec_lowest [(QQd z),(QQe C)] [] k=Gr L z C (λz D F E H=>dX (cC jA (jv L) 0 L qK) rY L (ml z D F E H) (cV 0 (dN (cC jA (jv L) 0 L Ce) (eo 0 (CF.res cf_codec_lowest) k)))):=by kernel_rfl
def zd(L:Nat)(H:Int)(D:Nat)(I z:Int)(E:List V)(C:Int->Nat->Int->Int->List V->Ob Y)(F:Nat->List V->Ob Y):Ob Y:=ifb (decide (z<I)) (lt (Wbf .i64 (((8:Int):Int)*z)) λJ=>chk (0<=J) (lt (Kd .u64 H J) λM=>lt (Wbf .u8 M) λN=>chk (0<=z/\z<((D:Nat):Int)) (chk (1=1/\(0+((WcL z)*1))+1<=(WcJ E)) (lt (cD E (0+((WcL z)*1)) [(QQa N)]) λO=>lt (Wbf .i64 ((z:Int)+(1:Int))) λP=>C H D I P O)))) (F D E)
theorem Fn(L:Nat)(E:Int)(z:Nat)(F C:Int)(D:List V)(X:St->Ob Y)(K:KT Y):cC jA (jv L) 0 L qK (ml E z F C D) (fN rY X K)=zd L E z F C D (λE z F C D=>X (ml E z F C D)) (λz D=>K (.exit 0) (tc z D)):=by kernel_rfl
def xg(L:Nat)(C:Nat)(D:List V)(z:Ls->Ob Y):Ob Y:=chk (C≠0∨(WcJ D)=0) (z (cz 1 C D))
theorem DY(L:Nat)(z:Nat)(C:List V)(k:KK Y):(cV 0 (dN (cC jA (jv L) 0 L Ce) (eo 0 (CF.res cf_codec_lowest) k))) (.exit 0) (tc z C)=xg L z C (λD=>k (V.fr 1 D) []):=by kernel_rfl
def sn(L:Nat)(z:Nat->List V->Ob Y):Nat->Int->Nat->Int->Int->List V->Ob Y
 | 0,_,_,_,_,_=>none
 | n+1,E,C,F,D,H=>zd L E C F D H (λE C F D H=>sn L z n E C F D H) z
theorem vN(L:Nat)(K:KT Y):∀ (n:Nat) (E:Int) (z:Nat) (F D:Int) (C:List V),dX (cC jA (jv L) 0 L qK) rY n (ml E z F D C) K=sn L (λz C=>K (.exit 0) (tc z C)) n E z F D C:=by
 intro n; induction n <;> intros
 ·rfl
 ·exact (Fn ..).trans (by simp only [*]; rfl)
def zR(L:Nat)(D H:Int)(C:Ls->Ob Y):Ob Y:=Gr L D H (λD z I F E=>sn L (λz E=>xg L z E C) L D z I F E)
theorem MN(L:Nat)(z C:Int)(k:KK Y):dj jA (jv L) L cf_codec_lowest [(QQd z),(QQe C)] [] k=zR L z C (λz=>k (V.fr 1 z) []):=by
 refine (LZ L z C k).trans ?_
 unfold zR
 first
  | (simp only [vN,DY]; done)
  | (simp only [vN]; rfl)
abbrev pu:=∀ (Y:Type),Nat->Int->Int->(Ls->Ob Y)->Ob Y
def fS:pu:=λY=>@zR Y
def Ad(fS:pu)(L:Nat):Dk:=dA (AI .u64) λz=>dA (AI .i64) λC=>d0 λY k=>fS Y L z C (λz=>k (V.fr 1 z) [])
theorem MT(L:Nat):DK (Ad fS L) (λ_=>dj jA (jv L) L cf_codec_lowest):=dk gm λz=>dk gm λC=>fC λ_ k=>MN L z C k
def AX:CF:=cfD xM 67
def tV:Nat->Sh:=fR []
def tw(fS:pu)(dP:kO)(L:Nat):CBC:=(d6 191 (uf dP L) (d6 192 (Ad fS L) noC))
def u3(fS:pu)(dP:kO)(L:Nat)(C:Ls)(D:Int)(z:Ls->Ob Y):Ob Y:=lt (Wbf .u64 D) λE=>fS Y L E (4:Int) (λF=>dP Y L C F (λH=>z H))
theorem Hz(fS:pu)(dP:kO)(L:Nat)(z:Ls)(C:Int)(k:KK Y):dj tV (tw fS dP L) L AX [(V.sl 1 z),(QQc C)] [] k=u3 fS dP L z C (λz=>k (V.gs 1 z) []):=by kernel_rfl
abbrev mQ:=∀ (Y:Type),Nat->Ls->Int->(Ls->Ob Y)->Ob Y
def fh:mQ:=λY=>@u3 Y fS dP
def u9(fh:mQ)(L:Nat):Dk:=dA (AL 1) λz=>dA (AI .u32) λC=>d0 λY k=>fh Y L z C (λz=>k (V.gs 1 z) [])
theorem Iv(L:Nat):DK (u9 fh L) (λ_=>dj tV (tw fS dP L) L AX):=dk ik λz=>dk gm λC=>fC λ_ k=>Hz fS dP L z C k
def M6:CF:=cfD IM 44
def Fv:Nat->Sh:=fR [(7,(.int .u32))]
def FH(eZ:mr)(fh:mQ)(L:Nat):CBC:=(d6 157 (u9 fh L) (d6 158 (s6 eZ L) noC))
def Hx(eZ:mr)(fh:mQ)(L:Nat)(C:List V)(z:Ls->Ob Y):Ob Y:=chk (0+32<=(WcJ C)) (eZ Y L ([]:Ls) (WcK 32 C) (λD=>cI .u32 C 32 λE=>fh Y L D E (λF=>z F)))
theorem US(eZ:mr)(fh:mQ)(L:Nat)(z:List V)(k:KK Y):dj Fv (FH eZ fh L) L M6 [(V.agg z)] [] k=Hx eZ fh L z (λz=>k (V.gs 1 z) []):=by kernel_rfl
abbrev ge:=∀ (Y:Type),Nat->List V->(Ls->Ob Y)->Ob Y
def cR:ge:=λY=>@Hx Y eZ fh
def It(cR:ge)(L:Nat):Dk:=dA AG λz=>d0 λY k=>cR Y L z (λz=>k (V.gs 1 z) [])
theorem UB(L:Nat):DK (It cR L) (λ_=>dj Fv (FH eZ fh L) L M6):=dk fO λz=>fC λ_ k=>US eZ fh L z k
def cf_scan_Next:CF:=cfD Gt 18
def pA:CC:=eS [1,1,1,1,1,1,0,1,0,0] cf_scan_Next.body
def sg:CC:=eS [1,1,1,1,0,1,0,0] cf_scan_Next.body
def Bj:CC:=eS [1,1,1,1,1,1,1] cf_scan_Next.body
def wL:CC:=eS [1,1,1,1,1] cf_scan_Next.body
def gR:Nat->Sh:=fR [(17,(.sl 3)),(26,(.sl 3)),(33,(.int .i64)),(38,(.sl 1)),(46,(.sl 38)),(56,(.sl 1))]
def gW(bN:cT)(cq:eO)(cQ:gf)(cu:eN)(cG:fw)(cR:ge)(L:Nat):CBC:=(d6 137 (It cR L) (d6 844 (yl cG L) (d6 784 (yi cu L) (d6 836 (Hn cQ L) (d6 584 (vS cq L) (d6 824 (pK bN L) noC))))))
def tb:St->St:=fF 0 (bl 469762436 68) (bl 295147901331062119423 68)
def qA:St->St:=fF 0 (bl 985162418489728 68) (bl 278862888926781103099 68)
def mM(E:Int)(F z:Ls)(C D:Int)(H:List V):St:=⟨(jn 2 ((V.ptr 2 0)::(jn 4 ((QQe E)::((V.gs 1 F)::(jn 17 ((V.sl 3 z)::((QQe C)::((QQe D)::(jn 39 [])))))))))),(gn 2 ((.live true H)::(gn 65 [])))⟩
def sJ(z:Int)(C:Ls)(D:List V):St:=⟨(jn 2 ((V.ptr 2 0)::(jn 4 ((QQe z)::((V.gs 1 C)::(jn 59 [])))))),(gn 2 ((.live true D)::(gn 65 [])))⟩
def lL(F:Int)(H z:Ls)(C D:Int)(E:Lm):St:=⟨(jn 7 ((QQe F)::((V.gs 1 H)::(jn 2 ((V.fn 844 [(V.ptr 16 0)])::(jn 35 ((V.gs 37 z)::((QQe C)::((QQe D)::(jn 18 [])))))))))),(gn 16 ((.live false [(V.mp 19)])::(gn 2 ((.mp E)::(gn 48 [])))))⟩
def yh(C:Int)(D:Ls)(z:Lm):St:=⟨(jn 7 ((QQe C)::((V.gs 1 D)::(jn 59 [])))),(gn 16 ((.live false [(V.mp 19)])::(gn 2 ((.mp z)::(gn 48 [])))))⟩
abbrev zu(Y:Type):Type:=Int->Ls->Ls->Int->Int->List V->Ob Y
abbrev xd(Y:Type):Type:=Int->Ls->Ls->Int->Int->Lm->Ob Y
def F9(bN:cT)(cq:eO)(cQ:gf)(cu:eN)(cG:fw)(cR:ge)(L:Nat)(D:List V)(H:Int)(C:Int->Ls->Bool->Ob Y)(z:zu Y):Ob Y:=chk (0+2<=(WcJ D)) (bN Y L (WbO V.ag (WcK 2 D)) (λE=>cLd 3 D 0 λI=>ifb ((((WcJ I:Nat):Int):Int)==(0:Int)) (C (0:Int) ([]:Ls) false) (ifb (decide (E>=H)) (C (0:Int) ([]:Ls) false) (cLd 3 D 0 λF=>z E ([]:Ls) F ((WcJ F:Nat):Int) (0:Int) D))))
theorem SD(bN:cT)(cq:eO)(cQ:gf)(cu:eN)(cG:fw)(cR:ge)(L:Nat)(E:List V)(F:Int)(k:KK Y):dj gR (gW bN cq cQ cu cG cR L) L cf_scan_Next [(V.agg E),(QQe F)] [] k=F9 bN cq cQ cu cG cR L E F (λz C D=>k (V.ah [(QQe z),(V.gs 1 C),(V.sc (.bool D))]) []) (λM N H I J O=>dX (cC gR (gW bN cq cQ cu cG cR L) 0 L sg) tb L (mM M N H I J O) (cV 0 (dN (cC gR (gW bN cq cQ cu cG cR L) 0 L wL) (eo 0 (CF.res cf_scan_Next) k)))):=by kernel_rfl
def oM(bN:cT)(cq:eO)(cQ:gf)(cu:eN)(cG:fw)(cR:ge)(L:Nat)(H:Int)(D E:Ls)(F C:Int)(I:List V)(z:zu Y)(J:Int->Ls->List V->Ob Y):Ob Y:=ifb (decide (C<F)) (idx E C λN=>chk ((WcJ (WcK 3 N))=3/\0+3<=3) (lt (cD [(V.gs 1 ([]:Ls)),(QQe (0:Int)),(QQe (0:Int))] 0 (WcK 3 N)) λO=>cI .i64 O 2 λQ=>ifb ((Q:Int)==H) (cLd 1 O 0 λR=>cq Y L R (λM=>chk ((WcJ D+WcJ (cz 1 1 [(V.sl 1 M)]))*24<=cy/\WcJ D+WcJ (cz 1 1 [(V.sl 1 M)])<=cy) (lt (D++(cz 1 1 [(V.sl 1 M)])) λS=>lt (Wbf .i64 ((C:Int)+(1:Int))) λT=>z H S E F T I))) (lt (Wbf .i64 ((C:Int)+(1:Int))) λP=>z H D E F P I))) (J H D I)
theorem Gl(bN:cT)(cq:eO)(cQ:gf)(cu:eN)(cG:fw)(cR:ge)(L:Nat)(E:Int)(F z:Ls)(C D:Int)(H:List V)(X:St->Ob Y)(K:KT Y):cC gR (gW bN cq cQ cu cG cR L) 0 L sg (mM E F z C D H) (fN tb X K)=oM bN cq cQ cu cG cR L E F z C D H (λE F z C D H=>X (mM E F z C D H)) (λE F H=>K (.exit 0) (sJ E F H)):=by kernel_rfl
def qr(bN:cT)(cq:eO)(cQ:gf)(cu:eN)(cG:fw)(cR:ge)(L:Nat)(H:Int)(I:Ls)(D:List V)(z:xd Y):Ob Y:=chk (0+2<=(WcJ D)) (cQ Y L (WbO V.ag (WcK 2 D)) (λE=>cLd 38 D 1 λF=>cu Y L F (λC=>z H I C ((WcJ C:Nat):Int) (0:Int) E)))
theorem Ea(bN:cT)(cq:eO)(cQ:gf)(cu:eN)(cG:fw)(cR:ge)(L:Nat)(z:Int)(C:Ls)(D:List V)(k:KK Y):(cV 0 (dN (cC gR (gW bN cq cQ cu cG cR L) 0 L wL) (eo 0 (CF.res cf_scan_Next) k))) (.exit 0) (sJ z C D)=qr bN cq cQ cu cG cR L z C D (λz C E F H I=>dX (cC gR (gW bN cq cQ cu cG cR L) 0 L pA) qA L (lL z C E F H I) (cV 2 (dN (cC gR (gW bN cq cQ cu cG cR L) 0 L Bj) (eo 0 (CF.res cf_scan_Next) k)))):=by kernel_rfl
def mX(bN:cT)(cq:eO)(cQ:gf)(cu:eN)(cG:fw)(cR:ge)(L:Nat)(O:Int)(D E:Ls)(F C:Int)(J:Lm)(z:xd Y)(P:Int->Ls->Lm->Ob Y):Ob Y:=ifb (decide (C<F)) (idx E C λM=>chk ((WcJ (WcK 37 M))=37/\0+37<=37) (lt (cD (Wad 32 (QQa (0:Int))++[(QQc (0:Int)),(QQe (0:Int)),(V.gs 1 ([]:Ls)),(QQe (0:Int)),(V.sc (.bool false))]) 0 (WcK 37 M)) λH=>cLd 1 H 34 λQ=>cG Y L Q J (λR N=>ifb R (chk (0+33<=(WcJ H)) (cR Y L (WcK 33 H) (λI=>chk ((WcJ D+WcJ (cz 1 1 [(V.sl 1 I)]))*24<=cy/\WcJ D+WcJ (cz 1 1 [(V.sl 1 I)])<=cy) (lt (D++(cz 1 1 [(V.sl 1 I)])) λS=>lt (Wbf .i64 ((C:Int)+(1:Int))) λT=>z O S E F T N)))) (lt (Wbf .i64 ((C:Int)+(1:Int))) λU=>z O D E F U N)))) (P O D J)
theorem Ei(bN:cT)(cq:eO)(cQ:gf)(cu:eN)(cG:fw)(cR:ge)(L:Nat)(F:Int)(H C:Ls)(D E:Int)(z:Lm)(X:St->Ob Y)(K:KT Y):cC gR (gW bN cq cQ cu cG cR L) 0 L pA (lL F H C D E z) (fN qA X K)=mX bN cq cQ cu cG cR L F H C D E z (λF H C D E z=>X (lL F H C D E z)) (λF H z=>K (.exit 2) (yh F H z)):=by kernel_rfl
def oS(bN:cT)(cq:eO)(cQ:gf)(cu:eN)(cG:fw)(cR:ge)(L:Nat)(D:Int)(E:Ls)(F:Lm)(z:Int->Ls->Bool->Ob Y):Ob Y:=lt (Wbf .i64 ((D:Int)+(1:Int))) λC=>z C E true
theorem Cn(bN:cT)(cq:eO)(cQ:gf)(cu:eN)(cG:fw)(cR:ge)(L:Nat)(F:Int)(H:Ls)(z:Lm)(k:KK Y):(cV 2 (dN (cC gR (gW bN cq cQ cu cG cR L) 0 L Bj) (eo 0 (CF.res cf_scan_Next) k))) (.exit 2) (yh F H z)=oS bN cq cQ cu cG cR L F H z (λC D E=>k (V.ah [(QQe C),(V.gs 1 D),(V.sc (.bool E))]) []):=by kernel_rfl
def kP(bN:cT)(cq:eO)(cQ:gf)(cu:eN)(cG:fw)(cR:ge)(L:Nat)(z:Int->Ls->List V->Ob Y):Nat->Int->Ls->Ls->Int->Int->List V->Ob Y
 | 0,_,_,_,_,_,_=>none
 | n+1,F,H,C,D,E,I=>oM bN cq cQ cu cG cR L F H C D E I (λF H C D E I=>kP bN cq cQ cu cG cR L z n F H C D E I) z
theorem xf(bN:cT)(cq:eO)(cQ:gf)(cu:eN)(cG:fw)(cR:ge)(L:Nat)(K:KT Y):∀ (n:Nat) (z:Int) (C E:Ls) (F H:Int) (D:List V),dX (cC gR (gW bN cq cQ cu cG cR L) 0 L sg) tb n (mM z C E F H D) K=kP bN cq cQ cu cG cR L (λz C D=>K (.exit 0) (sJ z C D)) n z C E F H D:=by
 intro n; induction n <;> intros
 ·rfl
 ·exact (Gl ..).trans (by simp only [*]; rfl)
def jW(bN:cT)(cq:eO)(cQ:gf)(cu:eN)(cG:fw)(cR:ge)(L:Nat)(z:Int->Ls->Lm->Ob Y):Nat->Int->Ls->Ls->Int->Int->Lm->Ob Y
 | 0,_,_,_,_,_,_=>none
 | n+1,H,I,C,D,E,F=>mX bN cq cQ cu cG cR L H I C D E F (λH I C D E F=>jW bN cq cQ cu cG cR L z n H I C D E F) z
theorem uF(bN:cT)(cq:eO)(cQ:gf)(cu:eN)(cG:fw)(cR:ge)(L:Nat)(K:KT Y):∀ (n:Nat) (C:Int) (D E:Ls) (F H:Int) (z:Lm),dX (cC gR (gW bN cq cQ cu cG cR L) 0 L pA) qA n (lL C D E F H z) K=jW bN cq cQ cu cG cR L (λC D z=>K (.exit 2) (yh C D z)) n C D E F H z:=by
 intro n; induction n <;> intros
 ·rfl
 ·exact (Ei ..).trans (by simp only [*]; rfl)
def mJ(bN:cT)(cq:eO)(cQ:gf)(cu:eN)(cG:fw)(cR:ge)(L:Nat)(z:Int)(C:Ls)(J:List V)(E:Int->Ls->Bool->Ob Y):Ob Y:=qr bN cq cQ cu cG cR L z C J (λz C F H I D=>jW bN cq cQ cu cG cR L (λz C D=>oS bN cq cQ cu cG cR L z C D E) L z C F H I D)
theorem D6(bN:cT)(cq:eO)(cQ:gf)(cu:eN)(cG:fw)(cR:ge)(L:Nat)(z:Int)(C:Ls)(D:List V)(k:KK Y):(cV 0 (dN (cC gR (gW bN cq cQ cu cG cR L) 0 L wL) (eo 0 (CF.res cf_scan_Next) k))) (.exit 0) (sJ z C D)=mJ bN cq cQ cu cG cR L z C D (λE F H=>k (V.ah [(QQe E),(V.gs 1 F),(V.sc (.bool H))]) []):=by
 refine (Ea bN cq cQ cu cG cR L z C D k).trans ?_
 unfold mJ
 first
  | (simp only [uF,Cn]; done)
  | (simp only [uF]; rfl)
def Az(bN:cT)(cq:eO)(cQ:gf)(cu:eN)(cG:fw)(cR:ge)(L:Nat)(J:List V)(M:Int)(z:Int->Ls->Bool->Ob Y):Ob Y:=F9 bN cq cQ cu cG cR L J M z (λC D F H I E=>kP bN cq cQ cu cG cR L (λC D E=>mJ bN cq cQ cu cG cR L C D E z) L C D F H I E)
theorem Sq(bN:cT)(cq:eO)(cQ:gf)(cu:eN)(cG:fw)(cR:ge)(L:Nat)(z:List V)(C:Int)(k:KK Y):dj gR (gW bN cq cQ cu cG cR L) L cf_scan_Next [(V.agg z),(QQe C)] [] k=Az bN cq cQ cu cG cR L z C (λD E F=>k (V.ah [(QQe D),(V.gs 1 E),(V.sc (.bool F))]) []):=by
 refine (SD bN cq cQ cu cG cR L z C k).trans ?_
 unfold Az
 first
  | (simp only [xf,D6]; done)
  | (simp only [xf]; rfl)
abbrev iC:=∀ (Y:Type),Nat->List V->Int->(Int->Ls->Bool->Ob Y)->Ob Y
def dw:iC:=λY=>@Az Y bN cq cQ cu cG cR
def FT(dw:iC)(L:Nat):Dk:=dA AG λE=>dA (AI .i64) λF=>d0 λY k=>dw Y L E F (λz C D=>k (V.ah [(QQe z),(V.gs 1 C),(V.sc (.bool D))]) [])
theorem SH(L:Nat):DK (FT dw L) (λ_=>dj gR (gW bN cq cQ cu cG cR L) L cf_scan_Next):=dk fO λz=>dk gm λC=>fC λ_ k=>Sq bN cq cQ cu cG cR L z C k
def cf_law30_same:CF:=cfD EK 20
def tC:CC:=eS [1,1,0,1,0,0] cf_law30_same.body
def xD:CC:=eS [1,1,1] cf_law30_same.body
def jU:Nat->Sh:=fR [(19,(.sl 1)),(24,(.sl 1))]
def jP(L:Nat):CBC:=noC
def uJ:St->St:=fF 0 (bl 12291 28) (bl 268435407 28)
def nj(D E:Ls)(z C:Int):St:=⟨((V.sl 1 D)::((V.sl 1 E)::(jn 10 ((QQe z)::((QQe C)::(jn 14 [])))))),(gn 28 [])⟩
def uT(z:Bool):St:=⟨(jn 4 ((V.sc (.bool z))::(jn 23 []))),(gn 28 [])⟩
def wg:St:=⟨(jn 28 []),(gn 28 [])⟩
def C0(L:Nat)(D E:Ls)(C:Bool->Ob Y)(z:Ls->Ls->Int->Int->Ob Y):Ob Y:=ifb ((((WcJ D:Nat):Int):Int) != ((WcJ E:Nat):Int)) (C false) (z D E ((WcJ D:Nat):Int) (0:Int))
theorem QU(L:Nat)(z C:Ls)(k:KK Y):dj jU (jP L) L cf_law30_same [(V.sl 1 z),(V.sl 1 C)] [] k=C0 L z C (λz=>k (V.sc (.bool z)) []) (λz C D E=>dX (cC jU (jP L) 0 L tC) uJ L (nj z C D E) (cV 0 (dN (cC jU (jP L) 0 L xD) (eo 0 (CF.res cf_law30_same) k)))):=by kernel_rfl
def pm(L:Nat)(H I:Ls)(E C:Int)(D:Bool->Ob Y)(z:Ls->Ls->Int->Int->Ob Y)(F:Ob Y):Ob Y:=ifb (decide (C<E)) (idx H C λJ=>cL 1 J 0 λM=>zX M λN=>idx I C λO=>cL 1 O 0 λP=>zX P λQ=>ifb (!(ByteArray.toList N==ByteArray.toList Q)) (D false) (lt (Wbf .i64 ((C:Int)+(1:Int))) λR=>z H I E R)) (F)
theorem Ia(L:Nat)(D E:Ls)(z C:Int)(X:St->Ob Y)(K:KT Y):cC jU (jP L) 0 L tC (nj D E z C) (fN uJ X K)=pm L D E z C (λF=>K .ret (uT F)) (λD E z C=>X (nj D E z C)) (K (.exit 0) (wg)):=by kernel_rfl
def yD(L:Nat)(C:Bool)(z:Bool->Ob Y):Ob Y:=z C
theorem Eh(L:Nat)(z:Bool)(k:KK Y):(cV 0 (dN (cC jU (jP L) 0 L xD) (eo 0 (CF.res cf_law30_same) k))) .ret (uT z)=yD L z (λC=>k (V.sc (.bool C)) []):=by kernel_rfl
def y9(L:Nat)(z:Bool->Ob Y):Ob Y:=z true
theorem FF(L:Nat)(k:KK Y):(cV 0 (dN (cC jU (jP L) 0 L xD) (eo 0 (CF.res cf_law30_same) k))) (.exit 0) (wg)=y9 L (λz=>k (V.sc (.bool z)) []):=by kernel_rfl
def lC(L:Nat)(z:Bool->Ob Y)(C:Ob Y):Nat->Ls->Ls->Int->Int->Ob Y
 | 0,_,_,_,_=>none
 | n+1,F,H,D,E=>pm L F H D E z (λF H D E=>lC L z C n F H D E) C
theorem yX(L:Nat)(K:KT Y):∀ (n:Nat) (D E:Ls) (z C:Int),dX (cC jU (jP L) 0 L tC) uJ n (nj D E z C) K=lC L (λF=>K .ret (uT F)) (K (.exit 0) (wg)) n D E z C:=by
 intro n; induction n <;> intros
 ·rfl
 ·exact (Ia ..).trans (by simp only [*]; rfl)
def yR(L:Nat)(C D:Ls)(z:Bool->Ob Y):Ob Y:=C0 L C D z (λC D E F=>lC L (λH=>yD L H z) (y9 L z) L C D E F)
theorem P5(L:Nat)(z C:Ls)(k:KK Y):dj jU (jP L) L cf_law30_same [(V.sl 1 z),(V.sl 1 C)] [] k=yR L z C (λz=>k (V.sc (.bool z)) []):=by
 refine (QU L z C k).trans ?_
 unfold yR
 first
  | (simp only [yX,Eh,FF]; done)
  | (simp only [yX]; rfl)
abbrev hH:=∀ (Y:Type),Nat->Ls->Ls->(Bool->Ob Y)->Ob Y
def dm:hH:=λY=>@yR Y
def DD(dm:hH)(L:Nat):Dk:=dA (AL 1) λz=>dA (AL 1) λC=>d0 λY k=>dm Y L z C (λz=>k (V.sc (.bool z)) [])
theorem Pe(L:Nat):DK (DD dm L) (λ_=>dj jU (jP L) L cf_law30_same):=dk ik λz=>dk ik λC=>fC λ_ k=>P5 L z C k
def cf_law30_ScanNext:CF:=cfD zn 4
def nz:CC:=eS [1,1,1,1,0,1,0,0] cf_law30_ScanNext.body
def pC:CC:=eS [1,1,1,1,1] cf_law30_ScanNext.body
def ii:Nat->Sh:=fR [(31,(.int .i64))]
def ic(dv:g8)(dF:iX)(dh:gU)(dn:gY)(dg:hJ)(dw:iC)(cr:eP)(dm:hH)(bN:cT)(bO:de)(L:Nat):CBC:=(d6 825 (mK bO L) (d6 824 (pK bN L) (d6 823 (DD dm L) (d6 822 (xP cr L) (d6 821 (FT dw L) (d6 217 (Cr dg L) (d6 814 (yB dn L) (d6 411 (yZ dh L) (d6 225 (Hr dF L) (d6 813 (JN dv L) noC))))))))))
def n9:St->St:=fF 0 (bl 469762112 66) (bl 73642794620668575983 66)
def kz(D:Ls)(E F:Int)(H:List V)(z:Ls)(C:Int):St:=⟨(jn 6 ((V.ptr 6 0)::(jn 19 ((V.gs 1 D)::((QQe E)::((QQe F)::(jn 37 []))))))),(gn 6 ((.live true H)::(gn 11 ((.live false [(V.sl 1 z),(QQe C)])::(gn 47 [])))))⟩
def pS(D:Bool)(z:Ls)(C:Int):St:=⟨(jn 4 ((V.sc (.bool D))::(jn 61 []))),(gn 18 ((.live false [(V.sl 1 z),(QQe C)])::(gn 47 [])))⟩
def qT(D:List V)(z:Ls)(C:Int):St:=⟨(jn 6 ((V.ptr 6 0)::(jn 59 []))),(gn 6 ((.live true D)::(gn 11 ((.live false [(V.sl 1 z),(QQe C)])::(gn 47 [])))))⟩
abbrev sT(Y:Type):Type:=Ls->Int->Int->List V->Ls->Int->Ob Y
def wC(dv:g8)(dF:iX)(dh:gU)(dn:gY)(dg:hJ)(dw:iC)(cr:eP)(dm:hH)(bN:cT)(bO:de)(L:Nat)(F:Ls)(C:Int)(z:sT Y):Ob Y:=dv Y L  (dF Y L F (λH I=>dh Y L (6:Int) H I (λJ M N=>dn Y L (WbO V.ag J) M N (λD O P=>chk ((WcJ D)=2/\0+2<=2) (lt (cD [(V.gs 3 ([]:Ls)),(V.gs 38 ([]:Ls))] 0 D) λQ=>dg Y L C (8:Int) (λE=>z (cz 1 2 [(QQe C),(QQe E)]) ((WcJ (cz 1 2 [(QQe C),(QQe E)]):Nat):Int) (0:Int) Q O P))))))
theorem I7(dv:g8)(dF:iX)(dh:gU)(dn:gY)(dg:hJ)(dw:iC)(cr:eP)(dm:hH)(bN:cT)(bO:de)(L:Nat)(D:Ls)(E:Int)(k:KK Y):dj ii (ic dv dF dh dn dg dw cr dm bN bO L) L cf_law30_ScanNext [(V.sl 1 D),(QQe E)] [] k=wC dv dF dh dn dg dw cr dm bN bO L D E (λF H I J z C=>dX (cC ii (ic dv dF dh dn dg dw cr dm bN bO L) 0 L nz) n9 L (kz F H I J z C) (cV 0 (dN (cC ii (ic dv dF dh dn dg dw cr dm bN bO L) 0 L pC) (eo 0 (CF.res cf_law30_ScanNext) k)))):=by kernel_rfl
def lK(dv:g8)(dF:iX)(dh:gU)(dn:gY)(dg:hJ)(dw:iC)(cr:eP)(dm:hH)(bN:cT)(bO:de)(L:Nat)(I:Ls)(J H:Int)(F:List V)(z:Ls)(C:Int)(D:Bool->Ls->Int->Ob Y)(E:sT Y)(N:List V->Ls->Int->Ob Y):Ob Y:=ifb (decide (H<J)) (idx I H λO=>cI .i64 O 0 λM=>chk (0+2<=(WcJ F)) (dw Y L (WbO V.ag (WcK 2 F)) M (λP Q R=>chk (0+2<=(WcJ F)) (cr Y L (WbO V.ag (WcK 2 F)) M (λS T U=>ifb ((P:Int) != S) (D false z C) (ifb (!(R==U)) (D false z C) (dm Y L Q T (λc9=>ifb (!c9) (D false z C) (lt (Wbf .i64 ((H:Int)+(1:Int))) λX=>E I J X F z C))))))))) (N F z C)
theorem B3(dv:g8)(dF:iX)(dh:gU)(dn:gY)(dg:hJ)(dw:iC)(cr:eP)(dm:hH)(bN:cT)(bO:de)(L:Nat)(D:Ls)(E F:Int)(H:List V)(z:Ls)(C:Int)(X:St->Ob Y)(K:KT Y):cC ii (ic dv dF dh dn dg dw cr dm bN bO L) 0 L nz (kz D E F H z C) (fN n9 X K)=lK dv dF dh dn dg dw cr dm bN bO L D E F H z C (λI z C=>K .ret (pS I z C)) (λD E F H z C=>X (kz D E F H z C)) (λH z C=>K (.exit 0) (qT H z C)):=by kernel_rfl
def rg(dv:g8)(dF:iX)(dh:gU)(dn:gY)(dg:hJ)(dw:iC)(cr:eP)(dm:hH)(bN:cT)(bO:de)(L:Nat)(E:Bool)(C:Ls)(D:Int)(z:Bool->Ob Y):Ob Y:=z E
theorem y7(dv:g8)(dF:iX)(dh:gU)(dn:gY)(dg:hJ)(dw:iC)(cr:eP)(dm:hH)(bN:cT)(bO:de)(L:Nat)(D:Bool)(z:Ls)(C:Int)(k:KK Y):(cV 0 (dN (cC ii (ic dv dF dh dn dg dw cr dm bN bO L) 0 L pC) (eo 0 (CF.res cf_law30_ScanNext) k))) .ret (pS D z C)=rg dv dF dh dn dg dw cr dm bN bO L D z C (λE=>k (V.sc (.bool E)) []):=by kernel_rfl
def nl(dv:g8)(dF:iX)(dh:gU)(dn:gY)(dg:hJ)(dw:iC)(cr:eP)(dm:hH)(bN:cT)(bO:de)(L:Nat)(z:List V)(F:Ls)(H:Int)(C:Bool->Ob Y):Ob Y:=chk (0+2<=(WcJ z)) (bN Y L (WbO V.ag (WcK 2 z)) (λD=>chk (0+2<=(WcJ z)) (bO Y L (WbO V.ag (WcK 2 z)) (λE=>C ((D:Int)==E)))))
theorem Af(dv:g8)(dF:iX)(dh:gU)(dn:gY)(dg:hJ)(dw:iC)(cr:eP)(dm:hH)(bN:cT)(bO:de)(L:Nat)(D:List V)(z:Ls)(C:Int)(k:KK Y):(cV 0 (dN (cC ii (ic dv dF dh dn dg dw cr dm bN bO L) 0 L pC) (eo 0 (CF.res cf_law30_ScanNext) k))) (.exit 0) (qT D z C)=nl dv dF dh dn dg dw cr dm bN bO L D z C (λE=>k (V.sc (.bool E)) []):=by kernel_rfl
def iR(dv:g8)(dF:iX)(dh:gU)(dn:gY)(dg:hJ)(dw:iC)(cr:eP)(dm:hH)(bN:cT)(bO:de)(L:Nat)(D:Bool->Ls->Int->Ob Y)(E:List V->Ls->Int->Ob Y):Nat->Ls->Int->Int->List V->Ls->Int->Ob Y
 | 0,_,_,_,_,_,_=>none
 | n+1,F,H,I,J,z,C=>lK dv dF dh dn dg dw cr dm bN bO L F H I J z C D (λF H I J z C=>iR dv dF dh dn dg dw cr dm bN bO L D E n F H I J z C) E
theorem re(dv:g8)(dF:iX)(dh:gU)(dn:gY)(dg:hJ)(dw:iC)(cr:eP)(dm:hH)(bN:cT)(bO:de)(L:Nat)(K:KT Y):∀ (n:Nat) (E:Ls) (F H:Int) (D:List V) (z:Ls) (C:Int),dX (cC ii (ic dv dF dh dn dg dw cr dm bN bO L) 0 L nz) n9 n (kz E F H D z C) K=iR dv dF dh dn dg dw cr dm bN bO L (λI z C=>K .ret (pS I z C)) (λD z C=>K (.exit 0) (qT D z C)) n E F H D z C:=by
 intro n; induction n <;> intros
 ·rfl
 ·exact (B3 ..).trans (by simp only [*]; rfl)
def qJ(dv:g8)(dF:iX)(dh:gU)(dn:gY)(dg:hJ)(dw:iC)(cr:eP)(dm:hH)(bN:cT)(bO:de)(L:Nat)(J:Ls)(M:Int)(D:Bool->Ob Y):Ob Y:=wC dv dF dh dn dg dw cr dm bN bO L J M (λF H I E z C=>iR dv dF dh dn dg dw cr dm bN bO L (λN z C=>rg dv dF dh dn dg dw cr dm bN bO L N z C D) (λE z C=>nl dv dF dh dn dg dw cr dm bN bO L E z C D) L F H I E z C)
theorem Jh(dv:g8)(dF:iX)(dh:gU)(dn:gY)(dg:hJ)(dw:iC)(cr:eP)(dm:hH)(bN:cT)(bO:de)(L:Nat)(z:Ls)(C:Int)(k:KK Y):dj ii (ic dv dF dh dn dg dw cr dm bN bO L) L cf_law30_ScanNext [(V.sl 1 z),(QQe C)] [] k=qJ dv dF dh dn dg dw cr dm bN bO L z C (λz=>k (V.sc (.bool z)) []):=by
 refine (I7 dv dF dh dn dg dw cr dm bN bO L z C k).trans ?_
 unfold qJ
 first
  | (simp only [re,y7,Af]; done)
  | (simp only [re]; rfl)
abbrev C9:=∀ (Y:Type),Nat->Ls->Int->(Bool->Ob Y)->Ob Y
def jN:C9:=λY=>@qJ Y dv dF dh dn dg dw cr dm bN bO
def wK(jN:C9)(L:Nat):Dk:=dA (AL 1) λz=>dA (AI .i64) λC=>d0 λY k=>jN Y L z C (λz=>k (V.sc (.bool z)) [])
theorem Jj(L:Nat):DK (wK jN L) (λ_=>dj ii (ic dv dF dh dn dg dw cr dm bN bO L) L cf_law30_ScanNext):=dk ik λz=>dk gm λC=>fC λ_ k=>Jh dv dF dh dn dg dw cr dm bN bO L z C k
end
end
section
variable {L:Nat}{s:ScT}{l:List (List Int)}{b:List Int}{w:OwT}
variable {Y:Type}
theorem s_0(s:ScT)(k:Ls->Option Y):cLd 3 (fE s) 0 k=k (s.tk.map jC):=j4 rfl k
theorem s_1(s:ScT)(k:Ls->Option Y):cLd 38 (fE s) 1 k=k (s.ow.map dC):=j4 rfl k
theorem s_c(s:ScT)(k:Option Y):chk (0+2<=(WcJ (fE s))) k=k:=bT (by simp [fE]) k
theorem s_d(s:ScT):WbO V.ag (WcK 2 (fE s))=fE s:=rfl
theorem k_r(t:TkT)(k:Int->Option Y):cI .i64 (WcM 2 (jC t)) 0 k=k t.r:=eQ rfl k
theorem Vm(t:TkT)(k:Int->Option Y):cI .i64 (jC t) 2 k=k t.r:=eQ rfl k
theorem k_s(t:TkT)(k:Ls->Option Y):cL 1 (jC t) 0 k=k (eA .u8 t.aA):=rm rfl k
theorem Vr(t:TkT)(k:Ls->Option Y):cLd 1 (jC t) 0 k=k (eA .u8 t.aA):=j4 rfl k
theorem k_c(t:TkT)(k:Option Y):chk ((WcJ (WcK 3 (jC t)))=3/\0+3<=3) k=k:=bT ⟨rfl,by omega⟩ k
theorem Q3(t:TkT):cD [(V.gs 1 ([]:Ls)),(QQe (0:Int)),(QQe (0:Int))] 0 (WcK 3 (jC t))=jC t:=rfl
def Ar(o:Int)(t:TkT):Int:=if o<0 then t.r else if t.r<o then t.r else o
def gV(l:List TkT):Int:=l.foldl Ar (-1)
theorem S6(L:Nat)(s:ScT)(hn:s.tk.length<=1000000)(kx:Int->Option Y):∀ (n i:Nat) (o:Int),i<=s.tk.length->s.tk.length-i<n ->
  lp L kx n o (i:Int) (fE s)=kx ((s.tk.drop i).foldl Ar o):=by
 intro n
 induction n with
 | zero=>intro i o h1 h2; omega
 | succ n ih=>
  intro i o h1 h2;simp only [lp,qX,s_0,WcO,cJ];by_cases h:i<s.tk.length
  ·rw [du (by omega)];simp only [fe (fm h),k_r,up (show i<=1000000000 by omega)];rw [WaM h,WcS];by_cases ho:o<0
   ·rw [du ho,ih (i+1) _ (by omega) (by omega)];simp only [Ar,if_pos ho]
   ·rw [dt ho];by_cases hr:s.tk[i].r<o
    ·rw [du hr,ih (i+1) _ (by omega) (by omega)];simp only [Ar,if_neg ho,if_pos hr]
    ·rw [dt hr,ih (i+1) _ (by omega) (by omega)];simp only [Ar,if_neg ho,if_neg hr]
  ·rw [dt (by omega),WaD (by omega)]; rfl
theorem xn(hL:2000000<=L)(hn:s.tk.length<=1000000)(k:Int->Option Y):bO Y L (fE s) k=k (gV s.tk):=by
 simp only [bO,sH,xr];rw [show (0:Int)=((0:Nat):Int) from rfl,S6 L s hn _ L 0 _ (by omega) (by omega),WcP];rfl
theorem Qu(L:Nat)(l:List TkT)(hn:l.length<=1000000)(hp:∀ t∈l,0<=t.r)(kx:Int->Option Y):∀ (n i:Nat) (o:Int),0<=o->i<=l.length->l.length-i<n ->
  lh L kx n o (l.map jC) (l.length:Int) (i:Int)=kx ((l.drop i).foldl Ar o):=by
 intro n
 induction n with
 | zero=>intro i o h0 h1 h2; omega
 | succ n ih=>
  intro i o h0 h1 h2;simp only [lh,qG,cJ];by_cases h:i<l.length
  ·rw [du (by omega)];simp only [fe (fm h),k_c,Q3,Vm,up (show i<=1000000000 by omega)];have hr:=hp _ (WaV h);rw [WaM h,WcS,ih (i+1) _ (by unfold Kc; split <;> omega) (by omega) (by omega)];simp only [Ar,Kc,if_neg (show ¬ o<0 by omega)]
  ·rw [dt (by omega),WaD (by omega)]; rfl
theorem FK(hL:2000000<=L)(hn:s.tk.length<=1000000)(hp:∀ t∈s.tk,0<=t.r)(k:Int->Option Y):bN Y L (fE s) k=k (gV s.tk):=by
 simp only [bN,ut,Ak,s_0,WcO];cases hs:s.tk with
 | nil=>rw [fd (by simp)]; rfl
 | cons t l=>
  rw [ew (by simp; omega)];have h0:=hp t (by rw [hs]; simp);simp only [List.map_cons];rw [show (0:Int)=((0:Nat):Int) from rfl,fe (es:=jC t::l.map jC) (j:=0) rfl];simp only [k_r];have:=Qu L (t::l) (by rw [<- hs]; exact hn) (by rw [<- hs]; exact hp) (λp3=>mn L p3 k) L 0 t.r h0 (by omega) (by rw [hs] at hn; omega);rw [List.map_cons] at this;rw [this,WcP,WcS];simp only [mn,gV,WcS];congr 2;simp only [Ar,if_neg (show ¬ t.r<0 by omega),Int.lt_irrefl,if_false,if_pos (show (-1:Int)<0 by omega)]
theorem Wu:∀ (l:List TkT) (o:Int),(∀ t∈l,0<=t.r)->(0<=o∨l≠[])->0<=l.foldl Ar o
 | [],o,_,h=>by simpa using h
 | t::l,o,hp,_=>by
  have h0:=hp t (by simp);refine Wu l _ (λx hx=>hp x (by simp [hx])) (.inl ?_);unfold Ar; split
  ·exact h0
  ·split <;> omega
def dS(l:List (List Int)):Ls:=l.map λb=>[V.sl 1 (eA .u8 b)]
theorem w6(l:List (List Int)):(dS l).length=l.length:=by simp [dS]
theorem Jz{i:Nat}(h:i<l.length):(dS l)[i]?=some [V.sl 1 (eA .u8 l[i])]:=by simp [dS,h]
theorem EU(b:List Int):cz 1 1 [(V.sl 1 (eA .u8 b))]=dS [b]:=rfl
theorem ED(l:List (List Int))(b:List Int):dS l++dS [b]=dS (l++[b]):=by simp [dS]
theorem EN(h:l.length<=10000000)(b:List Int)(k:Option Y):chk ((WcJ (dS l)+WcJ (dS [b]))*24<=cy/\WcJ (dS l)+WcJ (dS [b])<=cy) k=k:=
 bT (by simp only [w6,List.length_cons,WcT,cy]; omega) k
def o4(r:Int)(l:List TkT):List (List Int):=(l.filter λt=>t.r==r).map (·.aA)
theorem zcl(r:Int)(l:List TkT):(o4 r l).length<=l.length:=by simp only [o4,WcO]; exact List.length_filter_le _ _
theorem EW(r:Int)(t:TkT)(l:List TkT):o4 r (t::l)=if t.r=r then t.aA::o4 r l else o4 r l:=by
 simp only [o4,List.filter_cons];by_cases h:t.r=r
 ·simp [h]
 ·simp [h,beq_eq_false_iff_ne.2 h]
theorem W7(hL:2000000<=L)(s:ScT)(hn:s.tk.length<=1000000)(kx:Ls->Option Y):∀ (n i:Nat) (a:List (List Int)),i<=s.tk.length->s.tk.length-i<n->a.length<=i ->
  nB bO L kx n (dS a) (i:Int) (fE s)=kx (dS (a++o4 (gV s.tk) (s.tk.drop i))):=by
 intro n
 induction n with
 | zero=>intro i o h1 h2; omega
 | succ n ih=>
  intro i a h1 h2 h3;simp only [nB,wJ,s_0,WcO,cJ,s_c,s_d];by_cases h:i<s.tk.length
  ·rw [du (by omega)];simp only [fe (fm h),k_r,k_s,xn hL hn,up (show i<=1000000000 by omega),EU,EN (show a.length<=10000000 by omega),ED];rw [WaM h,EW];by_cases hr:s.tk[i].r=gV s.tk
   ·rw [fd hr,ih (i+1) _ (by omega) (by omega) (by simp; omega),if_pos hr,List.append_assoc]; rfl
   ·rw [ew hr,ih (i+1) _ (by omega) (by omega) (by omega),if_neg hr]
  ·rw [dt (by omega),WaD (by omega)];simp [o4]
theorem Jt(hL:2000000<=L)(hn:s.tk.length<=1000000)(k:Ls->Option Y):dc Y L (fE s) k=k (dS (o4 (gV s.tk) s.tk)):=by
 simp only [dc,Ax,FY];have:=W7 hL s hn (λp3=>tt bO L p3 k) L 0 [] (by omega) (by omega) (by simp);rw [show dS []=([]:Ls) from rfl,WcP,WcQ] at this;exact this
theorem Xp(l:List (List Int))(hn:l.length<=10000000)(hl:∀ b∈l,dG b)(hb:dG b)(kr:Bool->Option Y)(kx:Option Y):∀ (n i:Nat),i<=l.length->l.length-i<n ->
  oE dq L kr kx n (dS l) (eA .u8 b) (i:Int)=ifb ((l.drop i).any λx=>decide (x=b)) (kr true) kx:=by
 intro n
 induction n with
 | zero=>intro i h1 h2; omega
 | succ n ih=>
  intro i h1 h2;simp only [oE,yT,w6,cJ,dq,Do];by_cases h:i<l.length
  ·rw [du (by omega),fe (Jz h),rm rfl,pX,pX,VN (hl _ (WaV h)) hb,up (by omega),zc4 h,ih (i+1) (by omega) (by omega)];by_cases hx:l[i]=b
   ·rw [du hx,decide_eq_true hx,Bool.true_or]; rfl
   ·rw [dt hx,decide_eq_false hx,Bool.false_or]
  ·rw [dt (by omega),WaD (by omega)]; rfl
def jM(l:List (List Int))(b:List Int):Bool:=l.any λx=>decide (x=b)
theorem Xf(hL:20000000<=L)(hn:l.length<=10000000)(hl:∀ b∈l,dG b)(hb:dG b)(k:Bool->Option Y):bM Y L (dS l) (eA .u8 b) k=k (jM l b):=by
 simp only [bM,AE,FZ];rw [show (0:Int)=((0:Nat):Int) from rfl,Xp l hn hl hb _ _ L 0 (by omega) (by omega),WcP];simp only [tm,uN,jM];cases l.any _ <;> rfl
def le4(x:Int):List Int:=[Wbf .u8 (Kd .u64 x 0),Wbf .u8 (Kd .u64 x 8),Wbf .u8 (Kd .u64 x 16),Wbf .u8 (Kd .u64 x 24)]
theorem zeJ(n:Nat)(x:Int)(k:Ls->Option Y):fT Y (n+6) x 4 k=k (eA .u8 (le4 x)):=by kernel_rfl
theorem zfz(n:Nat)(x:Int)(k:Ls->Option Y):fS Y (n+6) x 4 k=k (eA .u8 (le4 x)):=by kernel_rfl
def GA(w:OwT):List Int:=w.h++le4 (Wbf .u64 w.ix)
theorem VU(L:Nat)(a b:List Int)(h:a.length+b.length<=1000000)(k:Ls->Option Y):cA Y L (eA .u8 a) (eA .u8 b) k=k (eA .u8 (a++b)):=by
 simp only [cA,ue,jk,cJ];rw [kJ (by omega) (by omega),bT (by simp only [cy]; omega),bT (by simp only [cy,Wad,WcT]; omega),
  WcU,WcQ,bT (by rw [jk]; simp only [cy]; omega),De]
theorem WV(L:Nat)(a b:List Int)(h:a.length+b.length<=1000000)(k:Ls->Option Y):dP Y L (eA .u8 a) (eA .u8 b) k=k (eA .u8 (a++b)):=by
 simp only [dP,z6,jk,cJ];rw [kJ (by omega) (by omega),bT (by simp only [cy]; omega),bT (by simp only [cy,Wad,WcT]; omega),
  WcU,WcQ,bT (by rw [jk]; simp only [cy]; omega),De]
theorem zbC{kd:IntKind}{l:List Int}(h:l≠[]):(row kd l).isEmpty=false:=by
 cases l with
 | nil=>exact absurd rfl h
 | cons x l=>rfl
theorem zdE(hL:6<=L)(h:w.h.length=32)(k:Ls->Option Y):dp Y L (gH w) k=k (eA .u8 (GA w)):=by
 obtain ⟨n,rfl⟩:∃ n,L=n+6:=⟨L-6,by omega⟩;simp only [dp,BV];have ht:WcK 32 (gH w)=row .u8 w.h:=by unfold gH; exact List.take_left' (by rw [fV,h])
 have hi:(gH w)[32]?=some (QQc w.ix):=by
  unfold gH; rw [Wal (by rw [fV]; omega),fV,h]; rfl
 rw [bT (by rw [i5 h]; omega),ht];simp only [eY,sV];rw [bT (by rw [fV]; omega),zbC (by intro e; rw [e] at h; simp at h),eD,Hq .u8 32 w.h (by omega),WbR (by omega),
  show ([]:Ls)=eA .u8 [] from rfl,VU _ _ _ (by simp [h]),WcQ,eQ hi]
 simp only [ff,vk,cJ,zeJ];rw [VU _ _ _ (by simp [h,le4])]; rfl
theorem zeS(hL:6<=L)(h:w.h.length=32)(k:Ls->Option Y):cR Y L (gH w) k=k (eA .u8 (GA w)):=by
 obtain ⟨n,rfl⟩:∃ n,L=n+6:=⟨L-6,by omega⟩;simp only [cR,Hx];have ht:WcK 32 (gH w)=row .u8 w.h:=by unfold gH; exact List.take_left' (by rw [fV,h])
 have hi:(gH w)[32]?=some (QQc w.ix):=by
  unfold gH; rw [Wal (by rw [fV]; omega),fV,h]; rfl
 rw [bT (by rw [i5 h]; omega),ht];simp only [eZ,tA];rw [bT (by rw [fV]; omega),zbC (by intro e; rw [e] at h; simp at h),eD,Hq .u8 32 w.h (by omega),WbR (by omega),
  show ([]:Ls)=eA .u8 [] from rfl,WV _ _ _ (by simp [h]),WcQ,eQ hi]
 simp only [fh,u3,cJ,zfz];rw [WV _ _ _ (by simp [h,le4])]; rfl
end
section
variable {b:List Int}{L:Nat}{s:ScT}{w:OwT}
variable {Y:Type}
def sk(b:List Int):V:=.sc (.string ⟨(bts b).toArray⟩)
theorem YI{a:List Int}(ha:dG a)(hb:dG b):uB (sk a) (sk b)=some (decide (a=b)):=by
 show some ((⟨(bts a).toArray⟩:ByteArray)==⟨(bts b).toArray⟩)=_;have e:((⟨(bts a).toArray⟩:ByteArray)==⟨(bts b).toArray⟩)=((bts a).toArray==(bts b).toArray):=rfl;rw [e];by_cases h:a=b
 ·subst h; simp
 ·rw [decide_eq_false h];congr 1;refine beq_eq_false_iff_ne.2 λe=>h ((RO ha hb).1 ?_);simpa using congrArg Array.toList e
structure ScOk (s:ScT):Prop where
 tk:∀ t∈s.tk,TkOk t
 tl:s.tk.length<=1000
 ow:∀ w∈s.ow,OwOk w
 ol:s.ow.length<=4096
theorem XA(s:ScT)(hs:∀ t∈s.tk,dG t.aA)(hn:s.tk.length<=1000000)(hb:dG b)(kr:Int->Option Y)(kx:Option Y):∀ (n i:Nat),i<=s.tk.length->s.tk.length-i<n ->
  nI L kr kx n (eA .u8 b) (i:Int) (fE s)=ifb (decide (lH (λt:TkT=>decide (t.aA=b)) (s.tk.drop i) i>=0)) (kr (lH (λt:TkT=>decide (t.aA=b)) (s.tk.drop i) i)) kx:=by
 intro n
 induction n with
 | zero=>intro i h1 h2; omega
 | succ n ih=>
  intro i h1 h2;simp only [nI,wd,s_0,WcO,cJ];by_cases h:i<s.tk.length
  ·rw [du (by omega),fe (fm h),k_s,pX,pX,VN (hs _ (WaV h)) hb,up (by omega),ih (i+1) (by omega) (by omega),WaM h];rw [show lH (λt:TkT=>decide (t.aA=b)) (s.tk[i]::WcM (i+1) s.tk) i=if decide (s.tk[i].aA=b)=true then (i:Int) else lH (λt:TkT=>decide (t.aA=b)) (WcM (i+1) s.tk) (i+1) from rfl];by_cases hx:s.tk[i].aA=b
   ·rw [du hx,if_pos (by simp [hx]),du (by omega)]
   ·rw [dt hx,if_neg (by simp [hx])]
  ·rw [dt (by omega),WaD (by omega),dt (by simp [lH])]
theorem LE(hL:2000000<=L)(hs:∀ t∈s.tk,dG t.aA)(hn:s.tk.length<=1000000)(hb:dG b)(k:Int->Option Y):cm Y L (fE s) (eA .u8 b) k=k (lH (λt:TkT=>decide (t.aA=b)) s.tk 0):=by
 simp only [cm,xA,D2];rw [show (0:Int)=((0:Nat):Int) from rfl,XA s hs hn hb _ _ L 0 (by omega) (by omega),WcP];rcases w7 (λt:TkT=>decide (t.aA=b)) s.tk 0 with ⟨e,_⟩ | ⟨i,hi,e,_⟩
 ·rw [e,dt (by omega)]; rfl
 ·rw [e,du (by omega)]; rfl
theorem zgO(hL:2000000<=L)(hs:ScOk s)(hb:dG b)(k:Int->Option Y):cm Y L (fE s) (eA .u8 b) k=k (lH (λt:TkT=>decide (t.aA=b)) s.tk 0):=
 LE hL (λt ht=>(hs.tk t ht).s) (by have:=hs.tl; omega) hb k
theorem za0(h:w.h.length=32){i:Nat}(hi:i<32):(gH w)[i]?=some (QQa w.h[i]):=by
 unfold gH;rw [List.getElem?_append_left (by rw [fV]; omega)];simp [row,h,hi]
theorem LG(h:w.h.length=32):(gH w)[32]?=some (QQc w.ix):=by
 unfold gH;rw [Wal (by rw [fV]; omega),fV,h]; rfl
def pU:List Int->List Int->Int
 | x::l,y::m=>if x<y then -1 else if y<x then 1 else pU l m
 | _,_=>0
theorem Wt:∀ (l m:List Int) (i j:Int),l.length=m.length->pU (l++[i]) (m++[j])=if pU l m=0 then (if i<j then -1 else if j<i then 1 else 0) else pU l m
 | [],[],i,j,_=>by simp [pU]
 | x::l,y::m,i,j,h=>by
  have ih:=Wt l m i j (by simpa using h);simp only [List.cons_append,pU];by_cases h1:x<y
  ·simp [h1]
  ·by_cases h2:y<x
   ·simp [h1,h2]
   ·simp only [h1,h2,if_false,ih]
def ptL(w:OwT):List Int:=w.h++[w.ix]
theorem Tw{L:Nat}{w v:OwT}(hw:w.h.length=32)(hv:v.h.length=32)(kr:Int->Option Y)(kx:List V->List V->Option Y):∀ (n i:Nat),i<=32->32-i<n ->
  ki L kr kx n (i:Int) (gH w) (gH v)=if pU (w.h.drop i) (v.h.drop i)=0 then kx (gH w) (gH v) else kr (pU (w.h.drop i) (v.h.drop i))
 | 0,i,h1,h2=>by omega
 | n+1,i,h1,h2=>by
  by_cases h:i<32
  ·have hb:0+(WcL (i:Int))*1=i:=by simp
   have h32:(0:Int)<=(i:Int)/\(i:Int)<((32:Nat):Int):=by omega
   have hwi:=za0 hw (show i<32 by omega);have hvi:=za0 hv (show i<32 by omega);rw [ki,nW,du (by omega),bT h32,hb,eQ hwi,bT h32,eQ hvi,bT h32,eQ hwi,bT h32,eQ hvi,cJ,up (by omega),Tw hw hv kr kx n (i+1) (by omega) (by omega),WaM (by omega:i<w.h.length),WaM (by omega:i<v.h.length)];by_cases c1:w.h[i]<v.h[i]
   ·have ec:pU (w.h[i]::WcM (i+1) w.h) (v.h[i]::WcM (i+1) v.h)=-1:=by simp only [pU,if_pos c1]
    rw [du c1,ec,if_neg (by omega)]
   by_cases c2:w.h[i]>v.h[i]
   ·have ec:pU (w.h[i]::WcM (i+1) w.h) (v.h[i]::WcM (i+1) v.h)=1:=by simp only [pU,if_neg c1]; rw [if_pos c2]
    rw [dt c1,du c2,ec,if_neg (by omega)]
   ·have ec:pU (w.h[i]::WcM (i+1) w.h) (v.h[i]::WcM (i+1) v.h)=pU (WcM (i+1) w.h) (WcM (i+1) v.h):=by simp only [pU,if_neg c1]; rw [if_neg c2]
    rw [dt c1,dt c2,ec]
  ·rw [ki,nW,dt (by omega),WaD (by omega),WaD (by omega)]; rfl
theorem Zh(hL:40<=L){v:OwT}(hw:w.h.length=32)(hv:v.h.length=32)(k:Int->Option Y):fu Y L (gH w) (gH v) k=k (pU (ptL w) (ptL v)):=by
 simp only [fu,sG,xo];refine (Tw hw hv _ _ L 0 (by omega) (by omega)).trans ?_;unfold ptL;rw [Wt _ _ _ _ (by omega),WcP,WcP];split
 ·rename_i h;rw [pw,eQ (LG hw),eQ (LG hv),eQ (LG hw),eQ (LG hv)];by_cases h1:w.ix<v.ix
  ·rw [du h1,if_pos h1]
  by_cases h2:w.ix>v.ix
  ·rw [dt h1,du h2,if_neg h1,if_pos h2]
  ·rw [dt h1,dt h2,if_neg h1,if_neg h2]
 ·rfl
def LO(w v:OwT):Bool:=decide (pU (ptL w) (ptL v)<0)||(decide (pU (ptL w) (ptL v)=0)&&decide (w.ht<v.ht))
theorem TJ(hL:40<=L){v:OwT}(hw:w.h.length=32)(hv:v.h.length=32)(k:Bool->Option Y):bQ Y L (dC w) (dC v) k=k (LO w v):=by
 simp only [bQ,zY];rw [bT (by rw [fM hw]; omega),bT (by rw [fM hv]; omega),pZ hw,pZ hv,Zh hL hw hv,eQ (kk hw 2),eQ (kk hv 2)];unfold LO;by_cases h1:pU (ptL w) (ptL v)<0
 ·rw [du h1,decide_eq_true h1,Bool.true_or]
 by_cases h2:pU (ptL w) (ptL v)=0
 ·rw [dt h1,fd h2,decide_eq_false h1,decide_eq_true h2,Bool.false_or,WcV]
 ·rw [dt h1,ew h2,decide_eq_false h1,decide_eq_false h2]; rfl
theorem zao{v:OwT}(hw:w.h.length=32)(hv:v.h.length=32):∃ b:Bool,∀ (L:Nat),40<=L->∀ (Y:Type) (k:Bool->Option Y),bQ Y L (dC w) (dC v) k=k b:=⟨_,λL hL Y k=>TJ hL hw hv k⟩
theorem LH(h:w.h.length=32):cD (Wad 32 (QQa (0:Int))++[(QQc (0:Int)),(QQe (0:Int)),(V.gs 1 ([]:Ls)),(QQe (0:Int)),(V.sc (.bool false)),(QQe (0:Int))]) 0 (dC w)=dC w:=j9 (by rw [fM h]; rfl)
theorem Vj(h:w.h.length=32):cD (Wad 32 (QQa (0:Int))++[(QQc (0:Int)),(QQe (0:Int)),(V.sl 1 ([]:Ls)),(QQe (0:Int)),(V.sc (.bool false)),(QQe (0:Int))]) 0 (dC w)=dC w:=j9 (by rw [fM h]; rfl)
def zau(w v:OwT):Bool:=LO w v&&(!ES w v||(!(w.sp==0)&&!decide (w.sp>v.ht)))
def Bb:List OwT->Bool
 | a::b::l=>zau a b&&Bb (b::l)
 | _=>true
theorem Rr{l:List OwT}(hl:∀ w∈l,w.h.length=32)(hn:l.length<=1000000){L:Nat}(hL:40<=L)(kr:Bool->Option Y)(kx:Option Y):∀ (n i:Nat),1<=i->l.length-i<n ->
  lx bQ L kr kx n (l.map dC) (i:Int)=ifb (Bb (l.drop (i-1))) kx (kr false)
 | 0,i,h0,hi=>by omega
 | n+1,i,h0,hi=>by
  by_cases hil:i<l.length
  ·have hj:i-1<l.length:=by omega
   have ha:=hl _ (WaV hj);have hb:=hl _ (WaV hil);have e1:Wbf .i64 ((i:Int)-1)=((i-1:Nat):Int):=by rw [kJ (by omega) (by omega)]; omega
   rw [lx,pn,WcO,du (by omega),e1,cJ,fe (fm hj),fe (fm hil),kK ha,kK hb,bT ⟨fM ha,by omega⟩,LH ha,cJ,bT ⟨fM hb,by omega⟩,LH hb,cJ,bT (by rw [fM ha]; omega),bT (by rw [fM hb]; omega),kK ha,kK hb,zT,zT,TJ hL ha hb,
    bT (by rw [fM ha]; omega),bT (by rw [fM hb]; omega),pZ ha,pZ hb,OW ha hb,eQ (kk ha 4),eQ (kk ha 4),eQ (kk hb 2),cJ,up (by omega),Rr hl hn hL kr kx n (i+1) (by omega) (by omega)]
   rw [Nat.add_sub_cancel,WaM hj,show i-1+1=i by omega,WaM hil,Bb,zau];cases LO l[i-1] l[i] with
   | false=>rfl
   | true=>
    cases ES l[i-1] l[i] with
    | false=>rfl
    | true=>
     by_cases h1:l[i-1].sp=0
     ·rw [WcR,eD,gZ,fd h1,beq_iff_eq.2 h1]; rfl
     by_cases h2:l[i-1].sp>l[i].ht
     ·rw [WcR,eD,gZ,ew h1,du h2,decide_eq_true h2]; simp only [WcR,Bool.and_false,Bool.or_false,Bool.false_and]; rfl
     ·rw [WcR,eD,gZ,ew h1,dt h2,decide_eq_false h2,beq_eq_false_iff_ne.2 h1]; rfl
  ·rw [lx,pn,WcO,dt (by omega)];have:Bb (l.drop (i-1))=true:=by
    match h:l.drop (i-1) with
    | []=>rfl
    | [_]=>rfl
    | _::_::_=>have:=congrArg WcJ h; simp at this; omega
   rw [this,gZ]
theorem zdu{l:List OwT}(hl:∀ w∈l,w.h.length=32)(hn:l.length<=1000000)(hL:2000000<=L)(k:Bool->Option Y):cv Y L (l.map dC) k=k (Bb l):=by
 simp only [cv,vY,BC];refine (Rr hl hn (by omega) _ _ L 1 (by omega) (by omega)).trans ?_;rw [show (1:Nat)-1=0 from rfl,WcP];cases Bb l <;> rfl
end
section
variable {w:OwT}{s:ScT}
variable {Y:Type}
theorem ZG{γ:Type}(c:Bool)(k:γ->Option Y)(a b:γ):ifb c (k a) (k b)=k (cond c a b):=by cases c <;> rfl
theorem zgf(a b:Bool)(x y:Option Y):ifb a x (ifb b x y)=ifb (a||b) x y:=by cases a <;> cases b <;> rfl
theorem WZ(L:Nat)(a b c:Int)(k:Bool->Option Y):cd Y L a b c k=k (cond (decide (a>=b)) (decide (a<=c)) false):=by
 simp only [cd,HW,ZG]
theorem zhV(L:Nat)(a b c:Int)(k:Bool->Option Y):hI Y L a b c k=k (cond (decide (a>=b)) (decide (a<=c)) false):=by
 simp only [hI,Iz,ZG]
theorem XX{a b c:Int}(h:(cond (decide (a>=b)) (decide (a<=c)) false)=true):b<=a/\a<=c:=by
 by_cases h1:a>=b
 ·rw [decide_eq_true h1] at h; exact ⟨h1,of_decide_eq_true h⟩
 ·rw [decide_eq_false h1] at h; cases h
theorem KD(h:w.h.length=32)(j:Nat)(hj:j<4):(WcK 37 (dC w))[33+j]?=(Ir w)[j]?:=by
 rw [List.getElem?_take_of_lt (by omega),kk h]
theorem Yt(h:w.h.length=32):(WcK 37 (dC w)).length=37:=by rw [List.length_take,fM h]; rfl
def Gm(w:OwT)(x:Int):Bool:=cond (decide (w.val>=0)) (cond (decide (w.val<=2100000000000000)) (cond (decide (((w.aA.length:Nat):Int)<=520)) (cond (cond (decide (w.ht>=1)) (decide (w.ht<=x)) false) (cond (w.sp==0) true (cond (decide (w.sp>=w.ht)) (decide (w.sp<=x)) false)) false) false) false) false
theorem zal(hw:w.h.length=32)(x:Int)(L:Nat)(k:Bool->Option Y):ck Y L (dC w) x k=k (Gm w x):=by
 simp only [ck,zx,zhV,Gm];rw [bT (by rw [fM hw]; omega),bT ⟨Yt hw,by omega⟩,j9 (by rw [Yt hw]; rfl),cJ,eQ (KD hw 0 (by omega)),eQ (KD hw 0 (by omega)),j4 (KD hw 1 (by omega)),eQ (KD hw 2 (by omega)),eQ (kk hw 4),eQ (kk hw 4),eQ (KD hw 2 (by omega)),jk];simp only [ZG]
structure ScW (s:ScT):Prop where
 tk:∀ t∈s.tk,dG t.aA
 tl:s.tk.length<=100000
 ow:∀ w∈s.ow,OwOk w
 ol:s.ow.length<=90000
theorem ScOk.weak(h:ScOk s):ScW s:=⟨λt ht=>(h.tk t ht).s,by have:=h.tl; omega,h.ow,by have:=h.ol; omega⟩
theorem zbQ{α:Type}(p:α->Bool)(l:List α):(lH p l 0=-1/\l.find? p=none)∨∃ (j:Nat),∃ h:j<l.length,lH p l 0=(j:Int)/\l.find? p=some l[j]:=by
 rcases w7 p l 0 with ⟨e,h⟩ | ⟨i,hi,e,h1,h2⟩
 ·exact .inl ⟨e,List.find?_eq_none.2 λx hx=>by simp [h x hx]⟩
 ·refine .inr ⟨i,hi,by simpa using e,List.find?_eq_some_iff_getElem.2 ⟨h2,i,hi,rfl,λj hj=>?_⟩⟩;have:l[j]∈l.take i:=List.mem_take_iff_getElem.2 ⟨j,by omega,rfl⟩;simp [h1 _ this]
def O0(s:ScT)(w:OwT):Bool:=match s.tk.find? (λt=>decide (t.aA=w.aA)) with
 | none=>false
 | some t=>!decide (w.ht<t.b)&&Gm w t.r
theorem Yb{s:ScT}(hs:ScW s){L:Nat}(hL:2000000<=L)(kr:Bool->Option Y)(kx:Option Y):∀ (n i:Nat),s.ow.length-i<n ->
  jp cv cd cm ck L kr kx n (i:Int) (fE s)=ifb ((s.ow.drop i).all (O0 s)) kx (kr false)
 | 0,i,hi=>by omega
 | n+1,i,hi=>by
  by_cases hil:i<s.ow.length
  ·have hol:=hs.ol;have hw:=hs.ow _ (WaV hil);have hsc:(WcM 1 (WcM 33 (dC s.ow[i])))[0]?=some (V.sl 1 (eA .u8 s.ow[i].aA)):=by rw [T1 hw.hl]; rfl
   have h35:(WcM 35 (dC s.ow[i]))[0]?=some (QQe s.ow[i].ht):=by rw [List.getElem?_drop]; exact kk hw.hl 2
   rw [zcX hil];have htl:=hs.tl;rcases zbQ (λt:TkT=>decide (t.aA=s.ow[i].aA)) s.tk with ⟨e,e2⟩ | ⟨j,hj,e,e2⟩
   ·have:O0 s s.ow[i]=false:=by simp only [O0,e2]
    rw [jp,lR,s_1,WcO,du (by omega),s_c,s_1,fe (fm hil),rm hsc,s_d,LE hL hs.tk (by omega) hw.s,e,du (by omega),this]; rfl
   ·have:O0 s s.ow[i]=(!decide (s.ow[i].ht<s.tk[j].b)&&Gm s.ow[i] s.tk[j].r):=by simp only [O0,e2]
    rw [jp,lR,s_1,WcO,du (by omega),s_c,s_1,fe (fm hil),rm hsc,s_d,LE hL hs.tk (by omega) hw.s,e,dt (by omega),s_1,fe (fm hil),eQ h35,s_0,fe (fm hj),eQ (n:=s.tk[j].b) rfl,s_1,fe (fm hil),s_0,fe (fm hj),k_r,kK hw.hl,zT,zal hw.hl,cJ,up (by omega),Yb hs hL kr kx n (i+1) (by omega),this];cases decide (s.ow[i].ht<s.tk[j].b) <;> cases Gm s.ow[i] s.tk[j].r <;> rfl
  ·rw [jp,lR,s_1,WcO,dt (by omega),WaD (by omega)]; rfl
def zgr(s:ScT)(t:TkT)(i:Nat):Bool:=(((t.aA.length:Nat):Int)==0)||(decide (((t.aA.length:Nat):Int)>520)||((!cond (decide (t.b>=1)) (decide (t.b<=16777216)) false)||((!cond (decide (t.r>=Wbf .i64 (t.b-1))) (decide (t.r<=16777216)) false)||(lH (λu:TkT=>decide (u.aA=t.aA)) s.tk 0 != (i:Int)))))
def KN(s:ScT):List TkT->Nat->Bool
 | [],_=>true
 | t::l,i=>!zgr s t i&&KN s l (i+1)
theorem Yk{s:ScT}(hs:ScW s){L:Nat}(hL:2000000<=L)(kr:Bool->Option Y)(kx:List V->Option Y):∀ (n i:Nat),s.tk.length-i<n ->
  kQ cv cd cm ck L kr kx n (i:Int) (fE s)=ifb (KN s (s.tk.drop i) i) (kx (fE s)) (kr false)
 | 0,i,hi=>by omega
 | n+1,i,hi=>by
  by_cases hil:i<s.tk.length
  ·have htl:=hs.tl;have ht:=hs.tk _ (WaV hil);have hb1:(jC s.tk[i])[1]?=some (QQe s.tk[i].b):=rfl;rw [kQ,oo,s_0,WcO,du (by omega),s_0,fe (fm hil),k_c,Q3,cJ,Vr,Vr,eQ hb1,WZ,Vm,eQ hb1,cJ,WZ,s_c,Vr,s_d,LE hL hs.tk (by omega) ht,cJ,up (by omega),jk,WaM hil,Yk hs hL kr kx n (i+1) (by omega)];simp only [zgf];rw [KN,zgr];generalize ((((s.tk[i].aA.length:Nat):Int)==0)||(decide (((s.tk[i].aA.length:Nat):Int)>520)||((!cond (decide (s.tk[i].b>=1)) (decide (s.tk[i].b<=16777216)) false)||((!cond (decide (s.tk[i].r>=Wbf .i64 (s.tk[i].b-1))) (decide (s.tk[i].r<=16777216)) false)||(lH (λu:TkT=>decide (u.aA=s.tk[i].aA)) s.tk 0 != (i:Int))))))=c;cases c <;> rfl
  ·rw [kQ,oo,s_0,WcO,dt (by omega),WaD (by omega)]; rfl
def zaY(s:ScT):Bool:=!decide (((s.tk.length:Nat):Int)>1000)&&(!decide (((s.ow.length:Nat):Int)>4096)&&(Bb s.ow&&(KN s s.tk 0&&s.ow.all (O0 s))))
theorem zcB(hs:ScW s){L:Nat}(hL:2000000<=L)(k:Bool->Option Y):cF Y L (fE s) k=k (zaY s):=by
 have htl:=hs.tl;have hol:=hs.ol;simp only [cF,vZ,B1,zaY];rw [s_0,WcO,s_1,WcO,s_1,zdu (λw hw=>(hs.ow w hw).hl) (by omega) hL];cases decide (((s.tk.length:Nat):Int)>1000);rotate_left
 ·rfl
 cases decide (((s.ow.length:Nat):Int)>4096);rotate_left
 ·rfl
 cases Bb s.ow
 ·rfl
 simp only [WcR,Bool.not_false,eD,WcV];refine (Yk hs hL _ _ L 0 (by omega)).trans ?_;rw [WcP];cases KN s s.tk 0
 ·rfl
 rw [gZ,WcV];refine (Yb hs hL _ _ L 0 (by omega)).trans ?_;rw [WcP];cases s.ow.all (O0 s) <;> rfl
theorem ND(hs:ScOk s):∃ b:Bool,∀ (L:Nat),2000000<=L->∀ (Y:Type) (k:Bool->Option Y),cF Y L (fE s) k=k b:=⟨_,λL hL Y k=>zcB hs.weak hL k⟩
end
end Go.Proofs.YtipklgbboecciaaGreat
