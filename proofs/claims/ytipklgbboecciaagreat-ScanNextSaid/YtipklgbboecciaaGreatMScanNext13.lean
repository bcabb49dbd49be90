/- Part 13 of the proof of ScanNext: an abstract machine over plain values, its soundness, and the functions of the program on plain values. -/
import Derived.Test.YtipklgbboecciaaGreatMScanNext12
namespace Go.Proofs.YtipklgbboecciaaGreat
set_option maxRecDepth 100000
set_option linter.unusedVariables false
set_option linter.unusedSimpArgs false
open List renaming length->WcJ,take->WcK,replicate->Wad,drop->WcM,map->WbO,drop_eq_getElem_cons->WaM,length_map->WcO,drop_of_length_le->WaD,drop_zero->WcP,getElem_mem->WaV,getElem?_append_right->Wal,nil_append->WcQ,foldl_cons->WcS,flatten->WcN,length_nil->WcT,take_of_length_le->WbR,replicate_zero->WcU
open IntKind renaming wrap->Wbf
open Int renaming toNat->WcL
open Bool renaming not_true->WcR,true_and->WcV
section
noncomputable section
variable {Y:Type}
def Gl:CF:=cfD DG 47
def Ae:Nat->Sh:=fP [(7,(.int .u32))]
def zE(eZ:mz)(fh:mQ)(L:Nat):CBC:=(d6 159 (vn fh L) (d6 160 (tq eZ L) noC))
def BN(eZ:mz)(fh:mQ)(L:Nat)(C:List V)(z:Ls->Ob Y):Ob Y:=chk (0+32<=(WcJ C)) (eZ Y L ([]:Ls) (WcK 32 C) (λD=>cI .u32 C 32 λE=>fh Y L D E (λF=>z F)))
theorem Nt(eZ:mz)(fh:mQ)(L:Nat)(z:List V)(k:KK Y):dj Ae (zE eZ fh L) L Gl [(V.agg z)] [] k=BN eZ fh L z (λz=>k (V.gs 1 z) []):=by kernel_rfl
abbrev ir:=∀ (Y:Type),Nat->List V->(Ls->Ob Y)->Ob Y
def dp:ir:=λY=>@BN Y eZ fh
def B2(dp:ir)(L:Nat):Dk:=dA AG λz=>d0 λY k=>dp Y L z (λz=>k (V.gs 1 z) [])
theorem NM(L:Nat):DK (B2 dp L) (λ_=>dj Ae (zE eZ fh L) L Gl):=dk fN λz=>fC λ_ k=>Nt eZ fh L z k
def cf_ref30_Next:CF:=cfD EG 19
def qh:CC:=eS [1,1,1,1,0,1,0,0] cf_ref30_Next.body
def Ca:CC:=eS [1,1,1,1,1] cf_ref30_Next.body
def kG:Nat->Sh:=fP [(11,(.sl 3)),(26,(.sl 38)),(32,(.sl 38)),(36,(.int .i64)),(43,(.sl 38)),(49,(.sl 1)),(54,(.sl 38))]
def kC(bO:de)(dc:hZ)(bM:cZ)(dp:ir)(L:Nat):CBC:=(d6 138 (B2 dp L) (d6 802 (vu bM L) (d6 837 (AE dc L) (d6 825 (mK bO L) noC))))
def rJ:St->St:=fF 0 (bl 900 67) (bl 139502376157387423743 67)
def mq(z:Ls)(C D:Int)(E:List V):St:=⟨(jn 2 ((V.ptr 2 0)::(jn 4 ((V.gs 1 z)::((QQe C)::((QQe D)::(jn 57 []))))))),(gn 2 ((.live true E)::(gn 64 [])))⟩
def wC(z:Ls)(C:List V):St:=⟨(jn 2 ((V.ptr 2 0)::(jn 4 ((V.gs 1 z)::(jn 59 []))))),(gn 2 ((.live true C)::(gn 64 [])))⟩
def C1(bO:de)(dc:hZ)(bM:cZ)(dp:ir)(L:Nat)(D:List V)(F:Int)(C:Int->Ls->Bool->Ob Y)(z:Ls->Int->Int->List V->Ob Y):Ob Y:=cLd 3 D 0 λH=>ifb ((((WcJ H:Nat):Int):Int)==(0:Int)) (C (0:Int) ([]:Ls) false) (chk (0+2<=(WcJ D)) (bO Y L (WbO V.ag (WcK 2 D)) (λI=>ifb (decide (I>=F)) (C (0:Int) ([]:Ls) false) (chk (0+2<=(WcJ D)) (dc Y L (WbO V.ag (WcK 2 D)) (λE=>z E ((WcJ E:Nat):Int) (0:Int) D))))))
theorem Ri(bO:de)(dc:hZ)(bM:cZ)(dp:ir)(L:Nat)(E:List V)(F:Int)(k:KK Y):dj kG (kC bO dc bM dp L) L cf_ref30_Next [(V.agg E),(QQe F)] [] k=C1 bO dc bM dp L E F (λz C D=>k (V.ah [(QQe z),(V.gs 1 C),(V.sc (.bool D))]) []) (λH I J M=>dX (cC kG (kC bO dc bM dp L) 0 L qh) rJ L (mq H I J M) (cW 0 (dN (cC kG (kC bO dc bM dp L) 0 L Ca) (eo 0 (CF.res cf_ref30_Next) k)))):=by kernel_rfl
def nW(bO:de)(dc:hZ)(bM:cZ)(dp:ir)(L:Nat)(C:Ls)(F E:Int)(D:List V)(z:Ls->Int->Int->List V->Ob Y)(I:Ls->List V->Ob Y):Ob Y:=cLd 38 D 1 λS=>ifb (decide (E<((WcJ S:Nat):Int))) (cLd 38 D 1 λT=>idx T E λU=>cI .i64 (WcM 37 U) 0 λc9=>ifb ((c9:Int)==(0:Int)) (chk (0<=F/\F<=(((WcJ C):Nat):Int)) (cLd 38 D 1 λX=>idx X E λc8=>cL 1 (WcM 1 (WcM 33 c8)) 0 λb9=>bM Y L (WcK ((WcL F)-0) (WcM 0 C)) b9 (λJ=>ifb J (cLd 38 D 1 λM=>idx M E λN=>dp Y L (WcK 33 N) (λH=>chk ((WcJ C+WcJ (cz 1 1 [(V.sl 1 H)]))*24<=cy/\WcJ C+WcJ (cz 1 1 [(V.sl 1 H)])<=cy) (lt (C++(cz 1 1 [(V.sl 1 H)])) λO=>lt (Wbf .i64 ((E:Int)+(1:Int))) λP=>z O F P D))) (lt (Wbf .i64 ((E:Int)+(1:Int))) λQ=>z C F Q D)))) (lt (Wbf .i64 ((E:Int)+(1:Int))) λR=>z C F R D)) (I C D)
theorem Gc(bO:de)(dc:hZ)(bM:cZ)(dp:ir)(L:Nat)(z:Ls)(D E:Int)(C:List V)(X:St->Ob Y)(K:KT Y):cC kG (kC bO dc bM dp L) 0 L qh (mq z D E C) (fO rJ X K)=nW bO dc bM dp L z D E C (λz D E C=>X (mq z D E C)) (λz C=>K (.exit 0) (wC z C)):=by kernel_rfl
def mJ(bO:de)(dc:hZ)(bM:cZ)(dp:ir)(L:Nat)(F:Ls)(C:List V)(z:Int->Ls->Bool->Ob Y):Ob Y:=chk (0+2<=(WcJ C)) (bO Y L (WbO V.ag (WcK 2 C)) (λD=>lt (Wbf .i64 ((D:Int)+(1:Int))) λE=>z E F true))
theorem C0(bO:de)(dc:hZ)(bM:cZ)(dp:ir)(L:Nat)(E:Ls)(F:List V)(k:KK Y):(cW 0 (dN (cC kG (kC bO dc bM dp L) 0 L Ca) (eo 0 (CF.res cf_ref30_Next) k))) (.exit 0) (wC E F)=mJ bO dc bM dp L E F (λz C D=>k (V.ah [(QQe z),(V.gs 1 C),(V.sc (.bool D))]) []):=by kernel_rfl
def ki(bO:de)(dc:hZ)(bM:cZ)(dp:ir)(L:Nat)(z:Ls->List V->Ob Y):Nat->Ls->Int->Int->List V->Ob Y
 | 0,_,_,_,_=>none
 | n+1,C,D,E,F=>nW bO dc bM dp L C D E F (λC D E F=>ki bO dc bM dp L z n C D E F) z
theorem vE(bO:de)(dc:hZ)(bM:cZ)(dp:ir)(L:Nat)(K:KT Y):∀ (n:Nat) (z:Ls) (D E:Int) (C:List V),dX (cC kG (kC bO dc bM dp L) 0 L qh) rJ n (mq z D E C) K=ki bO dc bM dp L (λz C=>K (.exit 0) (wC z C)) n z D E C:=by
 intro n; induction n <;> intros
 ·rfl
 ·exact (Gc ..).trans (by simp only [*]; rfl)
def yx(bO:de)(dc:hZ)(bM:cZ)(dp:ir)(L:Nat)(E:List V)(F:Int)(z:Int->Ls->Bool->Ob Y):Ob Y:=C1 bO dc bM dp L E F z (λC H I D=>ki bO dc bM dp L (λC D=>mJ bO dc bM dp L C D z) L C H I D)
theorem Ps(bO:de)(dc:hZ)(bM:cZ)(dp:ir)(L:Nat)(z:List V)(C:Int)(k:KK Y):dj kG (kC bO dc bM dp L) L cf_ref30_Next [(V.agg z),(QQe C)] [] k=yx bO dc bM dp L z C (λD E F=>k (V.ah [(QQe D),(V.gs 1 E),(V.sc (.bool F))]) []):=by
 refine (Ri bO dc bM dp L z C k).trans ?_
 unfold yx
 first
  | (simp only [vE,C0]; done)
  | (simp only [vE]; rfl)
abbrev eP:=∀ (Y:Type),Nat->List V->Int->(Int->Ls->Bool->Ob Y)->Ob Y
def cr:eP:=λY=>@yx Y bO dc bM dp
def yd(cr:eP)(L:Nat):Dk:=dA AG λE=>dA (AI .i64) λF=>d0 λY k=>cr Y L E F (λz C D=>k (V.ah [(QQe z),(V.gs 1 C),(V.sc (.bool D))]) [])
theorem Qn(L:Nat):DK (yd cr L) (λ_=>dj kG (kC bO dc bM dp L) L cf_ref30_Next):=dk fN λz=>dk gm λC=>fC λ_ k=>Ps bO dc bM dp L z C k
def IU:CF:=cfD El 52
def BS:Nat->Sh:=fP [(9,(.sl 3))]
def B3(cF:fy)(bO:de)(L:Nat):CBC:=(d6 825 (mK bO L) (d6 817 (rj cF L) noC))
def Db(cF:fy)(bO:de)(L:Nat)(C:List V)(D:Int)(z:Int->Ob Y):Ob Y:=chk (0+2<=(WcJ C)) (cF Y L (WbO V.ag (WcK 2 C)) (λE=>ifb (!E) (z (6:Int)) (cLd 3 C 0 λF=>ifb ((((WcJ F:Nat):Int):Int)==(0:Int)) (z (300:Int)) (chk (0+2<=(WcJ C)) (bO Y L (WbO V.ag (WcK 2 C)) (λH=>lt (Wbf .i64 ((H:Int)+(1:Int))) λI=>ifb ((D:Int) != I) (z (300:Int)) (ifb (decide (D>(16777216:Int))) (z (300:Int)) (z (0:Int)))))))))
theorem PQ(cF:fy)(bO:de)(L:Nat)(z:List V)(C:Int)(k:KK Y):dj BS (B3 cF bO L) L IU [(V.agg z),(QQe C)] [] k=Db cF bO L z C (λz=>k (QQe z) []):=by kernel_rfl
abbrev tH:=∀ (Y:Type),Nat->List V->Int->(Int->Ob Y)->Ob Y
def f0:tH:=λY=>@Db Y cF bO
def DL(f0:tH)(L:Nat):Dk:=dA AG λz=>dA (AI .i64) λC=>d0 λY k=>f0 Y L z C (λz=>k (QQe z) [])
theorem QI(L:Nat):DK (DL f0 L) (λ_=>dj BS (B3 cF bO L) L IU):=dk fN λz=>dk gm λC=>fC λ_ k=>PQ cF bO L z C k
abbrev qZ:=∀ (Y:Type),Nat->List V->(Int->Ob Y)->Ob Y
def f9:qZ:=λY L z kf=>opD (cN rows) 300 522 L Y [(V.agg z)] [] λv _=>(AI .i64) Y v λp=>kf p
def B0(f9:qZ)(L:Nat):Dk:=dA AG λz=>d0 λY k=>f9 Y L z (λC=>k (QQe C) [])
theorem Nv(L:Nat):DK (B0 f9 L) (opD (cN rows) 300 522 L):=dk fN λz=>Ap gm [(V.agg z)] λ_ _ _=>rfl
def cf_ref29_spend:CF:=cfD Dn 81
def rQ:CC:=eS [1,1,0,1,0,0] cf_ref29_spend.body
def CX:CC:=eS [1,1,1] cf_ref29_spend.body
def jY:Nat->Sh:=fP [(33,(.int .i64)),(48,(.sl 1))]
def jW(bM:cZ)(L:Nat):CBC:=(d6 802 (vu bM L) noC)
def sS:St->St:=fF 0 (bl 1580 58) (bl 287667151320317951 58)
def mE(E:Ls)(F:Int)(z:Nat)(C:Int)(H D:List V):St:=⟨(jn 2 ((V.sl 1 E)::((QQe F)::(jn 1 ((V.ptr 5 0)::(jn 3 ((V.own 13 0 z 38)::((QQe C)::(jn 47 []))))))))),(gn 5 ((.live true H)::(gn 7 ((.live true D)::(gn 44 [])))))⟩
def vl(z:Nat)(C:List V):St:=⟨(jn 9 ((V.own 13 0 z 38)::(jn 48 []))),(gn 13 ((.live true C)::(gn 44 [])))⟩
def BO(bM:cZ)(L:Nat)(C:Ls)(D:List V)(E:Ls)(F:Int)(z:Ls->Int->Nat->Int->List V->List V->Ob Y):Ob Y:=chk ((0+WcJ C)*96<=cy/\0+WcJ C<=cy) (z E F (WcJ C) (0:Int) D (WcN C))
theorem OA(bM:cZ)(L:Nat)(D:Ls)(E:List V)(z:Ls)(C:Int)(k:KK Y):dj jY (jW bM L) L cf_ref29_spend [(V.sl 38 D),(V.agg E),(V.sl 1 z),(QQe C)] [] k=BO bM L D E z C (λz C F H J I=>dX (cC jY (jW bM L) 0 L rQ) sS L (mE z C F H J I) (cW 0 (dN (cC jY (jW bM L) 0 L CX) (eo 0 (CF.res cf_ref29_spend) k)))):=by kernel_rfl
def og(bM:cZ)(L:Nat)(F:Ls)(H:Int)(D:Nat)(z:Int)(I E:List V)(C:Ls->Int->Nat->Int->List V->List V->Ob Y)(J:Nat->List V->Ob Y):Ob Y:=ifb (decide (z<((D:Nat):Int))) (chk (0<=z/\z<((D:Nat):Int)) (chk ((((0+((WcL z)*38))+0)+0)+33<=(WcJ E)) (chk (0+33<=(WcJ I)) (eqC 33 (WcK 33 (WcM (((0+((WcL z)*38))+0)+0) E)) (WcK 33 I) λN=>ifb N (chk (0<=z/\z<((D:Nat):Int)) (cI .i64 E ((0+((WcL z)*38))+37) λO=>ifb ((O:Int)==(0:Int)) (ifb ((((WcJ F:Nat):Int):Int)==(0:Int)) (chk (0<=z/\z<((D:Nat):Int)) (chk (1=1/\((0+((WcL z)*38))+37)+1<=(WcJ E)) (lt (cD E ((0+((WcL z)*38))+37) [(QQe H)]) λP=>lt (Wbf .i64 ((z:Int)+(1:Int))) λQ=>C F H D Q I P))) (chk (0<=z/\z<((D:Nat):Int)) (cLd 1 E ((((0+((WcL z)*38))+0)+33)+1) λR=>bM Y L F R (λS=>ifb S (chk (0<=z/\z<((D:Nat):Int)) (chk (1=1/\((0+((WcL z)*38))+37)+1<=(WcJ E)) (lt (cD E ((0+((WcL z)*38))+37) [(QQe H)]) λT=>lt (Wbf .i64 ((z:Int)+(1:Int))) λU=>C F H D U I T))) (lt (Wbf .i64 ((z:Int)+(1:Int))) λc9=>C F H D c9 I E))))) (lt (Wbf .i64 ((z:Int)+(1:Int))) λX=>C F H D X I E))) (lt (Wbf .i64 ((z:Int)+(1:Int))) λM=>C F H D M I E))))) (J D E)
theorem Hl(bM:cZ)(L:Nat)(E:Ls)(F:Int)(z:Nat)(D:Int)(H C:List V)(X:St->Ob Y)(K:KT Y):cC jY (jW bM L) 0 L rQ (mE E F z D H C) (fO sS X K)=og bM L E F z D H C (λE F z D H C=>X (mE E F z D H C)) (λz C=>K (.exit 0) (vl z C)):=by kernel_rfl
def qH(bM:cZ)(L:Nat)(C:Nat)(D:List V)(z:Ls->Ob Y):Ob Y:=chk (C≠0∨(WcJ D)=0) (z (cz 38 C D))
theorem Ei(bM:cZ)(L:Nat)(z:Nat)(C:List V)(k:KK Y):(cW 0 (dN (cC jY (jW bM L) 0 L CX) (eo 0 (CF.res cf_ref29_spend) k))) (.exit 0) (vl z C)=qH bM L z C (λD=>k (V.fr 38 D) []):=by kernel_rfl
def eI(bM:cZ)(L:Nat)(z:Nat->List V->Ob Y):Nat->Ls->Int->Nat->Int->List V->List V->Ob Y
 | 0,_,_,_,_,_,_=>none
 | n+1,F,H,C,D,I,E=>og bM L F H C D I E (λF H C D I E=>eI bM L z n F H C D I E) z
theorem wX(bM:cZ)(L:Nat)(K:KT Y):∀ (n:Nat) (E:Ls) (F:Int) (z:Nat) (D:Int) (H C:List V),dX (cC jY (jW bM L) 0 L rQ) sS n (mE E F z D H C) K=eI bM L (λz C=>K (.exit 0) (vl z C)) n E F z D H C:=by
 intro n; induction n <;> intros
 ·rfl
 ·exact (Hl ..).trans (by simp only [*]; rfl)
def vU(bM:cZ)(L:Nat)(I:Ls)(J:List V)(E:Ls)(F:Int)(D:Ls->Ob Y):Ob Y:=BO bM L I J E F (λE F z H M C=>eI bM L (λz C=>qH bM L z C D) L E F z H M C)
theorem OS(bM:cZ)(L:Nat)(z:Ls)(C:List V)(D:Ls)(E:Int)(k:KK Y):dj jY (jW bM L) L cf_ref29_spend [(V.sl 38 z),(V.agg C),(V.sl 1 D),(QQe E)] [] k=vU bM L z C D E (λz=>k (V.fr 38 z) []):=by
 refine (OA bM L z C D E k).trans ?_
 unfold vU
 first
  | (simp only [wX,Ei]; done)
  | (simp only [wX]; rfl)
abbrev dI:=∀ (Y:Type),Nat->Ls->List V->Ls->Int->(Ls->Ob Y)->Ob Y
def bS:dI:=λY=>@vU Y bM
def BM(bS:dI)(L:Nat):Dk:=dA (AL 38) λz=>dA AG λC=>dA (AL 1) λD=>dA (AI .i64) λE=>d0 λY k=>bS Y L z C D E (λz=>k (V.fr 38 z) [])
theorem OG(L:Nat):DK (BM bS L) (λ_=>dj jY (jW bM L) L cf_ref29_spend):=dk ik λz=>dk fN λC=>dk ik λD=>dk gm λE=>fC λ_ k=>OS bM L z C D E k
abbrev eJ:=∀ (Y:Type),Nat->List V->(List V->Ob Y)->Ob Y
def ci:eJ:=λY L z kf=>opD (cN rows) 300 517 L Y [(V.agg z)] [] λv _=>AG Y v λp=>kf p
def HI(ci:eJ)(L:Nat):Dk:=dA AG λz=>d0 λY k=>ci Y L z (λC=>k (V.agg C) [])
theorem Ur(L:Nat):DK (HI ci L) (opD (cN rows) 300 517 L):=dk fN λz=>Ap fN [(V.agg z)] λ_ _ _=>rfl
def cf_ref29_put:CF:=cfD G2 82
def sU:CC:=eS [1,1,1,0,1,0,0] cf_ref29_put.body
def wi:CC:=eS [1,1,0,0,0] cf_ref29_put.body
def yi:CC:=eS [1,1,1,1] cf_ref29_put.body
def zF:CC:=eS [1,1,1] cf_ref29_put.body
def gI:Nat->Sh:=fP [(43,(.int .i64))]
def gH(bQ:dx)(L:Nat):CBC:=(d6 800 (uw bQ L) noC)
def xr:St->St:=fF 0 (bl 73 58) (bl 288230376151448575 58)
def vb:St->St:=fF 0 (bl 201 58) (bl 288230376134934479 58)
def oM(z:Ls)(C:Int)(D:List V):St:=⟨((V.sl 38 z)::(jn 2 ((V.ptr 3 0)::(jn 2 ((QQe C)::(jn 51 [])))))),(gn 3 ((.live true D)::(gn 54 [])))⟩
def sD(z:Ls)(C:Int)(D:List V):St:=⟨((V.sl 38 z)::(jn 2 ((V.ptr 3 0)::(jn 2 ((QQe C)::(jn 51 [])))))),(gn 3 ((.live true D)::(gn 54 [])))⟩
def mX(z:Ls)(C D:Int)(E:List V):St:=⟨((V.sl 38 z)::(jn 2 ((V.ptr 3 0)::(jn 2 ((QQe C)::((QQe D)::(jn 50 []))))))),(gn 3 ((.live true E)::(gn 54 [])))⟩
def wE(z:Ls)(C:Int):St:=⟨(jn 4 ((V.gs 38 z)::((QQe C)::(jn 52 [])))),(gn 58 [])⟩
def xE(z:Ls)(C:Int)(D:List V):St:=⟨((V.sl 38 z)::(jn 2 ((V.ptr 3 0)::(jn 2 ((QQe C)::(jn 51 [])))))),(gn 3 ((.live true D)::(gn 54 [])))⟩
def Ft(bQ:dx)(L:Nat)(C:Ls)(D:List V)(z:Ls->Int->List V->Ob Y):Ob Y:=z C (0:Int) D
theorem Tr(bQ:dx)(L:Nat)(z:Ls)(C:List V)(k:KK Y):dj gI (gH bQ L) L cf_ref29_put [(V.sl 38 z),(V.agg C)] [] k=Ft bQ L z C (λz D E=>dX (cC gI (gH bQ L) 0 L wi) xr L (oM z D E) (cW 0 (dN (cC gI (gH bQ L) 0 L zF) (eo 0 (CF.res cf_ref29_put) k)))):=by kernel_rfl
def sF(bQ:dx)(L:Nat)(C:Ls)(D:Int)(E:List V)(z:Ls->Int->List V->Ob Y)(F:Ls->Int->List V->Ob Y):Ob Y:=ifb (decide (D<((WcJ C:Nat):Int))) (idx C D λH=>chk (0+38<=(WcJ E)) (bQ Y L (WbO V.ag (WcK 38 H)) (WbO V.ag (WcK 38 E)) (λI=>ifb I (lt (Wbf .i64 ((D:Int)+(1:Int))) λJ=>z C J E) (F C D E)))) (F C D E)
theorem K2(bQ:dx)(L:Nat)(z:Ls)(C:Int)(D:List V)(X:St->Ob Y)(K:KT Y):cC gI (gH bQ L) 0 L wi (oM z C D) (fO xr X K)=sF bQ L z C D (λz C D=>X (oM z C D)) (λz C D=>K (.exit 0) (sD z C D)):=by kernel_rfl
def uU(bQ:dx)(L:Nat)(C:Ls)(D:Int)(E:List V)(z:Ls->Int->Int->List V->Ob Y):Ob Y:=z C D (0:Int) E
theorem HN(bQ:dx)(L:Nat)(z:Ls)(C:Int)(D:List V)(k:KK Y):(cW 0 (dN (cC gI (gH bQ L) 0 L zF) (eo 0 (CF.res cf_ref29_put) k))) (.exit 0) (sD z C D)=uU bQ L z C D (λz C E D=>dX (cC gI (gH bQ L) 0 L sU) vb L (mX z C E D) (cW 2 (dN (cC gI (gH bQ L) 0 L yi) (eo 0 (CF.res cf_ref29_put) k)))):=by kernel_rfl
def pf(bQ:dx)(L:Nat)(C:Ls)(H D:Int)(E:List V)(F:Ls->Int->Ob Y)(z:Ls->Int->Int->List V->Ob Y)(I:Ls->Int->List V->Ob Y):Ob Y:=ifb (decide (D<((WcJ C:Nat):Int))) (idx C D λJ=>chk (0+33<=(WcJ E)) (eqC 33 (WcK 33 J) (WcK 33 E) λM=>ifb M (idx C D λN=>cI .i64 (WcM 37 N) 0 λO=>ifb ((O:Int)==(0:Int)) (F ([]:Ls) (91:Int)) (lt (Wbf .i64 ((D:Int)+(1:Int))) λP=>z C H P E)) (lt (Wbf .i64 ((D:Int)+(1:Int))) λQ=>z C H Q E))) (I C H E)
theorem ID(bQ:dx)(L:Nat)(z:Ls)(C E:Int)(D:List V)(X:St->Ob Y)(K:KT Y):cC gI (gH bQ L) 0 L sU (mX z C E D) (fO vb X K)=pf bQ L z C E D (λF H=>K .ret (wE F H)) (λz C E D=>X (mX z C E D)) (λz C D=>K (.exit 2) (xE z C D)):=by kernel_rfl
def qw(bQ:dx)(L:Nat)(C:Ls)(D:Int)(z:Ls->Int->Ob Y):Ob Y:=z C D
theorem Eb(bQ:dx)(L:Nat)(D:Ls)(E:Int)(k:KK Y):(cW 2 (dN (cC gI (gH bQ L) 0 L yi) (eo 0 (CF.res cf_ref29_put) k))) .ret (wE D E)=qw bQ L D E (λz C=>k (V.ah [(V.gs 38 z),(QQe C)]) []):=by kernel_rfl
def rK(bQ:dx)(L:Nat)(C:Ls)(z:Int)(D:List V)(F:Ls->Int->Ob Y):Ob Y:=chk (0<=z/\z<=(((WcJ C):Nat):Int)) (chk ((WcJ ([]:Ls)+WcJ (WcK ((WcL z)-0) (WcM 0 C)))*96<=cy/\WcJ ([]:Ls)+WcJ (WcK ((WcL z)-0) (WcM 0 C))<=cy) (lt (([]:Ls)++(WcK ((WcL z)-0) (WcM 0 C))) λH=>chk (0+38<=(WcJ D)) (chk ((WcJ (WcK 38 D))=38/\0+38<=38) (chk ((WcJ H+WcJ (cz 38 1 (cD (Wad 32 (QQa (0:Int))++[(QQc (0:Int)),(QQe (0:Int)),(V.sl 1 ([]:Ls)),(QQe (0:Int)),(V.sc (.bool false)),(QQe (0:Int))]) 0 (WcK 38 D))))*96<=cy/\WcJ H+WcJ (cz 38 1 (cD (Wad 32 (QQa (0:Int))++[(QQc (0:Int)),(QQe (0:Int)),(V.sl 1 ([]:Ls)),(QQe (0:Int)),(V.sc (.bool false)),(QQe (0:Int))]) 0 (WcK 38 D)))<=cy) (lt (H++(cz 38 1 (cD (Wad 32 (QQa (0:Int))++[(QQc (0:Int)),(QQe (0:Int)),(V.sl 1 ([]:Ls)),(QQe (0:Int)),(V.sc (.bool false)),(QQe (0:Int))]) 0 (WcK 38 D)))) λE=>chk (0<=z/\z<=(((WcJ C):Nat):Int)) (chk ((WcJ E+WcJ (WcK ((WcJ C)-(WcL z)) (WcM (WcL z) C)))*96<=cy/\WcJ E+WcJ (WcK ((WcJ C)-(WcL z)) (WcM (WcL z) C))<=cy) (lt (E++(WcK ((WcJ C)-(WcL z)) (WcM (WcL z) C))) λI=>F I (0:Int))))))))
theorem Fs(bQ:dx)(L:Nat)(D:Ls)(E:Int)(F:List V)(k:KK Y):(cW 2 (dN (cC gI (gH bQ L) 0 L yi) (eo 0 (CF.res cf_ref29_put) k))) (.exit 2) (xE D E F)=rK bQ L D E F (λz C=>k (V.ah [(V.gs 38 z),(QQe C)]) []):=by kernel_rfl
def j8(bQ:dx)(L:Nat)(z:Ls->Int->List V->Ob Y):Nat->Ls->Int->List V->Ob Y
 | 0,_,_,_=>none
 | n+1,C,D,E=>sF bQ L C D E (λC D E=>j8 bQ L z n C D E) z
theorem Bo(bQ:dx)(L:Nat)(K:KT Y):∀ (n:Nat) (z:Ls) (C:Int) (D:List V),dX (cC gI (gH bQ L) 0 L wi) xr n (oM z C D) K=j8 bQ L (λz C D=>K (.exit 0) (sD z C D)) n z C D:=by
 intro n; induction n <;> intros
 ·rfl
 ·exact (K2 ..).trans (by simp only [*]; rfl)
def lD(bQ:dx)(L:Nat)(z:Ls->Int->Ob Y)(C:Ls->Int->List V->Ob Y):Nat->Ls->Int->Int->List V->Ob Y
 | 0,_,_,_,_=>none
 | n+1,D,E,F,H=>pf bQ L D E F H z (λD E F H=>lD bQ L z C n D E F H) C
theorem yp(bQ:dx)(L:Nat)(K:KT Y):∀ (n:Nat) (z:Ls) (C E:Int) (D:List V),dX (cC gI (gH bQ L) 0 L sU) vb n (mX z C E D) K=lD bQ L (λF H=>K .ret (wE F H)) (λz C D=>K (.exit 2) (xE z C D)) n z C E D:=by
 intro n; induction n <;> intros
 ·rfl
 ·exact (ID ..).trans (by simp only [*]; rfl)
def oo(bQ:dx)(L:Nat)(C:Ls)(D:Int)(E:List V)(z:Ls->Int->Ob Y):Ob Y:=uU bQ L C D E (λC D F E=>lD bQ L (λH I=>qw bQ L H I z) (λC D E=>rK bQ L C D E z) L C D F E)
theorem Gk(bQ:dx)(L:Nat)(z:Ls)(C:Int)(D:List V)(k:KK Y):(cW 0 (dN (cC gI (gH bQ L) 0 L zF) (eo 0 (CF.res cf_ref29_put) k))) (.exit 0) (sD z C D)=oo bQ L z C D (λE F=>k (V.ah [(V.gs 38 E),(QQe F)]) []):=by
 refine (HN bQ L z C D k).trans ?_
 unfold oo
 first
  | (simp only [yp,Eb,Fs]; done)
  | (simp only [yp]; rfl)
def Ay(bQ:dx)(L:Nat)(z:Ls)(F:List V)(C:Ls->Int->Ob Y):Ob Y:=Ft bQ L z F (λz D E=>j8 bQ L (λz D E=>oo bQ L z D E C) L z D E)
theorem R0(bQ:dx)(L:Nat)(z:Ls)(C:List V)(k:KK Y):dj gI (gH bQ L) L cf_ref29_put [(V.sl 38 z),(V.agg C)] [] k=Ay bQ L z C (λD E=>k (V.ah [(V.gs 38 D),(QQe E)]) []):=by
 refine (Tr bQ L z C k).trans ?_
 unfold Ay
 first
  | (simp only [Bo,Gk]; done)
  | (simp only [Bo]; rfl)
abbrev dZ:=∀ (Y:Type),Nat->Ls->List V->(Ls->Int->Ob Y)->Ob Y
def bY:dZ:=λY=>@Ay Y bQ
def FO(bY:dZ)(L:Nat):Dk:=dA (AL 38) λD=>dA AG λE=>d0 λY k=>bY Y L D E (λz C=>k (V.ah [(V.gs 38 z),(QQe C)]) [])
theorem To(L:Nat):DK (FO bY L) (λ_=>dj gI (gH bQ L) L cf_ref29_put):=dk ik λz=>dk fN λC=>fC λ_ k=>R0 bQ L z C k
def cf_ref29_Take:CF:=cfD EW 54
def nl:CC:=eS [1,0,1,0,0,1,0,0,1,0,1,0,0] cf_ref29_Take.body
def m6:CC:=eS [1,0,1,0,0,1,0,0,1,1,1,0,0] cf_ref29_Take.body
def oW:CC:=eS [1,0,1,0,0,1,0,0,1,1] cf_ref29_Take.body
def kk:CC:=eS [1,0,1,0,0,1,1] cf_ref29_Take.body
def pd:CC:=eS [1,0,1,0,0] cf_ref29_Take.body
def zG:CC:=eS [1,1] cf_ref29_Take.body
def eD:Nat->Sh:=fP [(21,(.sl 4)),(27,(.sl 4)),(33,(.sl 35)),(44,(.sl 35)),(54,(.sl 2)),(61,(.sl 2)),(65,(.sl 1)),(74,(.sl 2))]
def eE(bS:dI)(bM:cZ)(ci:eJ)(bY:dZ)(L:Nat):CBC:=(d6 803 (FO bY L) (d6 517 (HI ci L) (d6 802 (vu bM L) (d6 801 (BM bS L) noC))))
def iF:St->St:=fF 0 (bl 4375 99) (bl 633283700682806279610522145791 99)
def nG:St->St:=fF 0 (bl 28951 99) (bl 633825300114112448931357982719 99)
def nC:St->St:=fF 0 (bl 45335 99) (bl 633283700682808531427519951871 99)
def ji(C D E:Ls)(F z:Int)(H:List V):St:=⟨((V.sl 38 C)::((V.sl 1 D)::((V.sl 1 E)::(jn 1 ((QQe F)::(jn 3 ((V.ptr 8 0)::(jn 3 ((QQe z)::(jn 86 [])))))))))),(gn 8 ((.live true H)::(gn 90 [])))⟩
def j9(E F H:Ls)(I z C:Int)(J D:List V):St:=⟨((V.sl 38 E)::((V.sl 1 F)::((V.sl 1 H)::(jn 1 ((QQe I)::(jn 3 ((V.ptr 8 0)::(jn 3 ((QQe z)::((V.ptr 13 0)::((QQe C)::(jn 84 [])))))))))))),(gn 8 ((.live true J)::(gn 4 ((.live true D)::(gn 85 [])))))⟩
def qG(z:Ls):St:=⟨((V.sl 38 z)::(jn 98 [])),(gn 99 [])⟩
def qp(D E F:Ls)(H z:Int)(I C:List V):St:=⟨((V.sl 38 D)::((V.sl 1 E)::((V.sl 1 F)::(jn 1 ((QQe H)::(jn 3 ((V.ptr 8 0)::(jn 3 ((QQe z)::((V.ptr 13 0)::(jn 85 []))))))))))),(gn 8 ((.live true I)::(gn 4 ((.live true C)::(gn 85 [])))))⟩
def kc(E F H:Ls)(I z C:Int)(J D:List V):St:=⟨((V.sl 38 E)::((V.sl 1 F)::((V.sl 1 H)::(jn 1 ((QQe I)::(jn 3 ((V.ptr 8 0)::(jn 3 ((QQe z)::((V.ptr 13 0)::(jn 1 ((QQe C)::(jn 83 []))))))))))))),(gn 8 ((.live true J)::(gn 4 ((.live true D)::(gn 85 [])))))⟩
def jf(z:Ls)(C:Int):St:=⟨(jn 10 ((V.gs 38 z)::((QQe C)::(jn 87 [])))),(gn 99 [])⟩
def wQ(C D E:Ls)(F z:Int)(H:List V):St:=⟨((V.sl 38 C)::((V.sl 1 D)::((V.sl 1 E)::(jn 1 ((QQe F)::(jn 3 ((V.ptr 8 0)::(jn 3 ((QQe z)::(jn 86 [])))))))))),(gn 8 ((.live true H)::(gn 90 [])))⟩
abbrev pm(Y:Type):Type:=Ls->Ls->Ls->Int->Int->List V->Ob Y
abbrev sr(Y:Type):Type:=Ls->Ls->Ls->Int->Int->Int->List V->List V->Ob Y
abbrev An(Y:Type):Type:=Ls->Ls->Ls->Int->Int->List V->List V->Ob Y
abbrev sH(Y:Type):Type:=Ls->Ls->Ls->Int->Int->Int->List V->List V->Ob Y
abbrev pA(Y:Type):Type:=Ls->Ls->Ls->Int->Int->List V->Ob Y
def sX(bS:dI)(bM:cZ)(ci:eJ)(bY:dZ)(L:Nat)(C D E:Ls)(F:List V)(H:Int)(z:pm Y):Ob Y:=z C D E H (0:Int) F
theorem O8(bS:dI)(bM:cZ)(ci:eJ)(bY:dZ)(L:Nat)(z C D:Ls)(F:List V)(E:Int)(k:KK Y):dj eD (eE bS bM ci bY L) L cf_ref29_Take [(V.sl 38 z),(V.sl 1 C),(V.sl 1 D),(V.agg F),(QQe E)] [] k=sX bS bM ci bY L z C D F E (λz C D E H I=>dX (cC eD (eE bS bM ci bY L) 0 L pd) iF L (ji z C D E H I) (cW 0 (dN (cC eD (eE bS bM ci bY L) 0 L zG) (eo 0 (CF.res cf_ref29_Take) k)))):=by kernel_rfl
def qO(bS:dI)(bM:cZ)(ci:eJ)(bY:dZ)(L:Nat)(F I J:Ls)(M C:Int)(D:List V)(z:sr Y)(E:Ls->Ob Y):Ob Y:=cLd 4 D 68 λN=>ifb (decide (C<((WcJ N:Nat):Int))) (cLd 4 D 68 λO=>idx O C λH=>chk ((WcJ (WcK 4 H))=4/\0+4<=4) (lt (cD [(QQc (0:Int)),(V.gs 35 ([]:Ls)),(V.gs 2 ([]:Ls)),(QQc (0:Int))] 0 (WcK 4 H)) λP=>z F I J M C (0:Int) D P)) (E F)
theorem I9(bS:dI)(bM:cZ)(ci:eJ)(bY:dZ)(L:Nat)(C D E:Ls)(F z:Int)(H:List V)(X:St->Ob Y)(K:KT Y):cC eD (eE bS bM ci bY L) 0 L pd (ji C D E F z H) (fO iF X K)=qO bS bM ci bY L C D E F z H (λC D E F z I H J=>dX (cC eD (eE bS bM ci bY L) 0 L nl) nG L (j9 C D E F z I H J) (cW 2 (dN (cC eD (eE bS bM ci bY L) 0 L oW) (cW 1 (dN (cC eD (eE bS bM ci bY L) 0 L kk) (fO iF X K)))))) (λC=>K (.exit 0) (qG C)):=by kernel_rfl
def oC(bS:dI)(bM:cZ)(ci:eJ)(bY:dZ)(L:Nat)(C:Ls)(z:Ls->Int->Ob Y):Ob Y:=ifb (decide (((WcJ C:Nat):Int)>(4096:Int))) (z ([]:Ls) (380:Int)) (chk ((WcJ ([]:Ls)+WcJ C)*96<=cy/\WcJ ([]:Ls)+WcJ C<=cy) (lt (([]:Ls)++C) λD=>z D (0:Int)))
theorem GW(bS:dI)(bM:cZ)(ci:eJ)(bY:dZ)(L:Nat)(D:Ls)(k:KK Y):(cW 0 (dN (cC eD (eE bS bM ci bY L) 0 L zG) (eo 0 (CF.res cf_ref29_Take) k))) (.exit 0) (qG D)=oC bS bM ci bY L D (λz C=>k (V.ah [(V.gs 38 z),(QQe C)]) []):=by kernel_rfl
def jK(bS:dI)(bM:cZ)(ci:eJ)(bY:dZ)(L:Nat)(J H M:Ls)(I D E:Int)(N C:List V)(z:sr Y)(F:An Y):Ob Y:=cLd 35 C 1 λO=>ifb (decide (E<((WcJ O:Nat):Int))) (ifb (decide (D>(0:Int))) (cLd 35 C 1 λP=>idx P E λQ=>bS Y L J (WcK 33 Q) H I (λR=>lt (Wbf .i64 ((E:Int)+(1:Int))) λS=>z R H M I D S N C)) (F J H M I D N C)) (F J H M I D N C)
theorem Bp(bS:dI)(bM:cZ)(ci:eJ)(bY:dZ)(L:Nat)(E F H:Ls)(I z D:Int)(J C:List V)(X:St->Ob Y)(K:KT Y):cC eD (eE bS bM ci bY L) 0 L nl (j9 E F H I z D J C) (fO nG X K)=jK bS bM ci bY L E F H I z D J C (λE F H I z D J C=>X (j9 E F H I z D J C)) (λE F H I z J C=>K (.exit 2) (qp E F H I z J C)):=by kernel_rfl
def qY(bS:dI)(bM:cZ)(ci:eJ)(bY:dZ)(L:Nat)(E F H:Ls)(I C:Int)(J D:List V)(z:sH Y):Ob Y:=z E F H I C (0:Int) J D
theorem y8(bS:dI)(bM:cZ)(ci:eJ)(bY:dZ)(L:Nat)(D E F:Ls)(H z:Int)(I C:List V)(X:St->Ob Y)(K:KT Y):(cW 2 (dN (cC eD (eE bS bM ci bY L) 0 L oW) (cW 1 (dN (cC eD (eE bS bM ci bY L) 0 L kk) (fO iF X K))))) (.exit 2) (qp D E F H z I C)=qY bS bM ci bY L D E F H z I C (λD E F H z J I C=>dX (cC eD (eE bS bM ci bY L) 0 L m6) nC L (kc D E F H z J I C) (cW 4 (cW 1 (dN (cC eD (eE bS bM ci bY L) 0 L kk) (fO iF X K))))):=by kernel_rfl
def lf(bS:dI)(bM:cZ)(ci:eJ)(bY:dZ)(L:Nat)(R S N:Ls)(I F D:Int)(T C:List V)(z:sH Y)(O:Ls->Int->Ob Y)(U:pA Y):Ob Y:=cLd 2 C 2 λc9=>ifb (decide (D<((WcJ c9:Nat):Int))) (cLd 2 C 2 λX=>idx X D λc8=>cL 1 (WcM 1 c8) 0 λb9=>bM Y L N b9 (λaa=>ifb (!aa) (lt (Wbf .i64 ((D:Int)+(1:Int))) λab=>z R S N I F ab T C) (chk (0+4<=(WcJ C)) (ci Y L (WbO V.ag (WcK 4 C)) (λJ=>lt (Wbf .u32 D) λac=>chk ((WcJ J)=32/\0+32<=33) (chk (1=1/\32+1<=(WcJ (cD (Wad 32 (QQa (0:Int))++[(QQc (0:Int))]) 0 J))) (lt (cD (cD (Wad 32 (QQa (0:Int))++[(QQc (0:Int))]) 0 J) 32 [(QQc ac)]) λE=>cLd 2 C 2 λad=>idx ad D λH=>chk ((WcJ E)=33/\0+33<=37) (chk ((WcJ (WcK 2 H))=2/\33+2<=(WcJ (cD (Wad 32 (QQa (0:Int))++[(QQc (0:Int)),(QQe (0:Int)),(V.sl 1 ([]:Ls)),(QQe (0:Int)),(V.sc (.bool false))]) 0 E))) (chk (1=1/\35+1<=(WcJ (cD (cD (Wad 32 (QQa (0:Int))++[(QQc (0:Int)),(QQe (0:Int)),(V.sl 1 ([]:Ls)),(QQe (0:Int)),(V.sc (.bool false))]) 0 E) 33 (WcK 2 H)))) (chk (1=1/\36+1<=(WcJ (cD (cD (cD (Wad 32 (QQa (0:Int))++[(QQc (0:Int)),(QQe (0:Int)),(V.sl 1 ([]:Ls)),(QQe (0:Int)),(V.sc (.bool false))]) 0 E) 33 (WcK 2 H)) 35 [(QQe I)]))) (lt (cD (cD (cD (cD (Wad 32 (QQa (0:Int))++[(QQc (0:Int)),(QQe (0:Int)),(V.sl 1 ([]:Ls)),(QQe (0:Int)),(V.sc (.bool false))]) 0 E) 33 (WcK 2 H)) 35 [(QQe I)]) 36 [(V.sc (.bool ((F:Int)==(0:Int))))]) λP=>chk ((WcJ P)=37/\0+37<=37) (lt (cD (Wad 32 (QQa (0:Int))++[(QQc (0:Int)),(QQe (0:Int)),(V.gs 1 ([]:Ls)),(QQe (0:Int)),(V.sc (.bool false))]) 0 P) λM=>chk (0+37<=(WcJ M)) (chk ((WcJ (WcK 37 M))=37/\0+37<=38) (lt (cD (Wad 32 (QQa (0:Int))++[(QQc (0:Int)),(QQe (0:Int)),(V.sl 1 ([]:Ls)),(QQe (0:Int)),(V.sc (.bool false)),(QQe (0:Int))]) 0 (WcK 37 M)) λan=>bY Y L R (WbO V.ag an) (λao Q=>ifb ((Q:Int) != (0:Int)) (O ([]:Ls) Q) (lt (Wbf .i64 ((D:Int)+(1:Int))) λap=>z ao S N I F ap T C)))))))))))))))) (U R S N I F T)
theorem AZ(bS:dI)(bM:cZ)(ci:eJ)(bY:dZ)(L:Nat)(E F H:Ls)(I z C:Int)(J D:List V)(X:St->Ob Y)(K:KT Y):cC eD (eE bS bM ci bY L) 0 L m6 (kc E F H I z C J D) (fO nC X K)=lf bS bM ci bY L E F H I z C J D (λE F H I z C J D=>X (kc E F H I z C J D)) (λM N=>K .ret (jf M N)) (λE F H I z J=>K (.exit 4) (wQ E F H I z J)):=by kernel_rfl
def mC(bS:dI)(bM:cZ)(ci:eJ)(bY:dZ)(L:Nat)(C:Ls)(D:Int)(z:Ls->Int->Ob Y):Ob Y:=z C D
theorem yC(bS:dI)(bM:cZ)(ci:eJ)(bY:dZ)(L:Nat)(z:Ls)(C:Int)(X:St->Ob Y)(K:KT Y):(cW 4 (cW 1 (dN (cC eD (eE bS bM ci bY L) 0 L kk) (fO iF X K)))) .ret (jf z C)=mC bS bM ci bY L z C (λz C=>K .ret (jf z C)):=by kernel_rfl
def kv(bS:dI)(bM:cZ)(ci:eJ)(bY:dZ)(L:Nat)(E F H:Ls)(I C:Int)(J:List V)(z:pm Y):Ob Y:=lt (Wbf .i64 ((C:Int)+(1:Int))) λD=>z E F H I D J
theorem y6(bS:dI)(bM:cZ)(ci:eJ)(bY:dZ)(L:Nat)(C D E:Ls)(F z:Int)(H:List V)(X:St->Ob Y)(K:KT Y):(cW 4 (cW 1 (dN (cC eD (eE bS bM ci bY L) 0 L kk) (fO iF X K)))) (.exit 4) (wQ C D E F z H)=kv bS bM ci bY L C D E F z H (λC D E F z H=>X (ji C D E F z H)):=by kernel_rfl
def zo(bS:dI)(bM:cZ)(ci:eJ)(bY:dZ)(L:Nat)(C:Ls)(D:Int)(z:Ls->Int->Ob Y):Ob Y:=z C D
theorem FM(bS:dI)(bM:cZ)(ci:eJ)(bY:dZ)(L:Nat)(z:Ls)(C:Int)(k:KK Y):(cW 0 (dN (cC eD (eE bS bM ci bY L) 0 L zG) (eo 0 (CF.res cf_ref29_Take) k))) .ret (jf z C)=zo bS bM ci bY L z C (λD E=>k (V.ah [(V.gs 38 D),(QQe E)]) []):=by kernel_rfl
def gP(bS:dI)(bM:cZ)(ci:eJ)(bY:dZ)(L:Nat)(z:An Y):Nat->Ls->Ls->Ls->Int->Int->Int->List V->List V->Ob Y
 | 0,_,_,_,_,_,_,_,_=>none
 | n+1,F,H,I,J,C,D,M,E=>jK bS bM ci bY L F H I J C D M E (λF H I J C D M E=>gP bS bM ci bY L z n F H I J C D M E) z
theorem qe(bS:dI)(bM:cZ)(ci:eJ)(bY:dZ)(L:Nat)(K:KT Y):∀ (n:Nat) (D E F:Ls) (H z J:Int) (I C:List V),dX (cC eD (eE bS bM ci bY L) 0 L nl) nG n (j9 D E F H z J I C) K=gP bS bM ci bY L (λD E F H z I C=>K (.exit 2) (qp D E F H z I C)) n D E F H z J I C:=by
 intro n; induction n <;> intros
 ·rfl
 ·exact (Bp ..).trans (by simp only [*]; rfl)
def fj(bS:dI)(bM:cZ)(ci:eJ)(bY:dZ)(L:Nat)(z:Ls->Int->Ob Y)(C:pA Y):Nat->Ls->Ls->Ls->Int->Int->Int->List V->List V->Ob Y
 | 0,_,_,_,_,_,_,_,_=>none
 | n+1,H,I,J,M,D,E,N,F=>lf bS bM ci bY L H I J M D E N F (λH I J M D E N F=>fj bS bM ci bY L z C n H I J M D E N F) z C
theorem qg(bS:dI)(bM:cZ)(ci:eJ)(bY:dZ)(L:Nat)(K:KT Y):∀ (n:Nat) (C D E:Ls) (F z I:Int) (H J:List V),dX (cC eD (eE bS bM ci bY L) 0 L m6) nC n (kc C D E F z I H J) K=fj bS bM ci bY L (λM N=>K .ret (jf M N)) (λC D E F z H=>K (.exit 4) (wQ C D E F z H)) n C D E F z I H J:=by
 intro n; induction n <;> intros
 ·rfl
 ·exact (AZ ..).trans (by simp only [*]; rfl)
def mB(bS:dI)(bM:cZ)(ci:eJ)(bY:dZ)(L:Nat)(D E F:Ls)(H z:Int)(I J:List V)(M:Ls->Int->Ob Y)(C:pm Y):Ob Y:=qY bS bM ci bY L D E F H z I J (λD E F H z N I J=>fj bS bM ci bY L (λO P=>mC bS bM ci bY L O P M) (λD E F H z I=>kv bS bM ci bY L D E F H z I C) L D E F H z N I J)
theorem yB(bS:dI)(bM:cZ)(ci:eJ)(bY:dZ)(L:Nat)(C D E:Ls)(F z:Int)(H I:List V)(X:St->Ob Y)(K:KT Y):(cW 2 (dN (cC eD (eE bS bM ci bY L) 0 L oW) (cW 1 (dN (cC eD (eE bS bM ci bY L) 0 L kk) (fO iF X K))))) (.exit 2) (qp C D E F z H I)=mB bS bM ci bY L C D E F z H I (λJ M=>K .ret (jf J M)) (λC D E F z H=>X (ji C D E F z H)):=by
 refine (y8 bS bM ci bY L C D E F z H I X K).trans ?_
 unfold mB
 first
  | (simp only [qg,yC,y6]; done)
  | (simp only [qg]; rfl)
def mU(bS:dI)(bM:cZ)(ci:eJ)(bY:dZ)(L:Nat)(D E F:Ls)(H z:Int)(I:List V)(N:Ls->Ob Y)(M:Ls->Int->Ob Y)(C:pm Y):Ob Y:=qO bS bM ci bY L D E F H z I (λD E F H z O I J=>gP bS bM ci bY L (λD E F H z I J=>mB bS bM ci bY L D E F H z I J M C) L D E F H z O I J) N
theorem HF(bS:dI)(bM:cZ)(ci:eJ)(bY:dZ)(L:Nat)(C D E:Ls)(F z:Int)(H:List V)(X:St->Ob Y)(K:KT Y):cC eD (eE bS bM ci bY L) 0 L pd (ji C D E F z H) (fO iF X K)=mU bS bM ci bY L C D E F z H (λC=>K (.exit 0) (qG C)) (λI J=>K .ret (jf I J)) (λC D E F z H=>X (ji C D E F z H)):=by
 refine (I9 bS bM ci bY L C D E F z H X K).trans ?_
 unfold mU
 first
  | (simp only [qe,yB]; done)
  | (simp only [qe]; rfl)
def hH(bS:dI)(bM:cZ)(ci:eJ)(bY:dZ)(L:Nat)(C:Ls->Ob Y)(z:Ls->Int->Ob Y):Nat->Ls->Ls->Ls->Int->Int->List V->Ob Y
 | 0,_,_,_,_,_,_=>none
 | n+1,E,F,H,I,D,J=>mU bS bM ci bY L E F H I D J C z (λE F H I D J=>hH bS bM ci bY L C z n E F H I D J)
theorem zh(bS:dI)(bM:cZ)(ci:eJ)(bY:dZ)(L:Nat)(K:KT Y):∀ (n:Nat) (z D E:Ls) (F C:Int) (H:List V),dX (cC eD (eE bS bM ci bY L) 0 L pd) iF n (ji z D E F C H) K=hH bS bM ci bY L (λz=>K (.exit 0) (qG z)) (λI J=>K .ret (jf I J)) n z D E F C H:=by
 intro n; induction n <;> intros
 ·rfl
 ·exact (HF ..).trans (by simp only [*]; rfl)
def pp(bS:dI)(bM:cZ)(ci:eJ)(bY:dZ)(L:Nat)(C D E:Ls)(M:List V)(F:Int)(z:Ls->Int->Ob Y):Ob Y:=sX bS bM ci bY L C D E M F (λC D E F H N=>hH bS bM ci bY L (λC=>oC bS bM ci bY L C z) (λI J=>zo bS bM ci bY L I J z) L C D E F H N)
theorem Pr(bS:dI)(bM:cZ)(ci:eJ)(bY:dZ)(L:Nat)(z C D:Ls)(E:List V)(F:Int)(k:KK Y):dj eD (eE bS bM ci bY L) L cf_ref29_Take [(V.sl 38 z),(V.sl 1 C),(V.sl 1 D),(V.agg E),(QQe F)] [] k=pp bS bM ci bY L z C D E F (λH I=>k (V.ah [(V.gs 38 H),(QQe I)]) []):=by
 refine (O8 bS bM ci bY L z C D E F k).trans ?_
 unfold pp
 first
  | (simp only [zh,GW,FM]; done)
  | (simp only [zh]; rfl)
abbrev s7:=∀ (Y:Type),Nat->Ls->Ls->Ls->List V->Int->(Ls->Int->Ob Y)->Ob Y
def fQ:s7:=λY=>@pp Y bS bM ci bY
def DF(fQ:s7)(L:Nat):Dk:=dA (AL 38) λD=>dA (AL 1) λE=>dA (AL 1) λF=>dA AG λH=>dA (AI .i64) λI=>d0 λY k=>fQ Y L D E F H I (λz C=>k (V.ah [(V.gs 38 z),(QQe C)]) [])
theorem Qb(L:Nat):DK (DF fQ L) (λ_=>dj eD (eE bS bM ci bY L) L cf_ref29_Take):=dk ik λz=>dk ik λC=>dk ik λD=>dk fN λE=>dk gm λF=>fC λ_ k=>Pr bS bM ci bY L z C D E F k
def cf_ref30_advance:CF:=cfD AP 55
def pP:CC:=eS [1,1,0,1,0,0] cf_ref30_advance.body
def AS:CC:=eS [1,1,1] cf_ref30_advance.body
def iX:Nat->Sh:=fP [(21,(.int .i64))]
def iW(ca:dW)(L:Nat):CBC:=(d6 829 (pU ca L) noC)
def qW:St->St:=fF 0 (bl 114 32) (bl 4294963195 32)
def lK(I J:Int)(D E:Ls)(z C:Nat)(F H:List V):St:=⟨(jn 1 ((QQe I)::(jn 2 ((V.ptr 4 0)::((V.ptr 5 0)::((QQe J)::(jn 25 []))))))),(gn 4 ((.live false [(V.gs 3 D),(V.gs 38 E)])::((.live false [(V.own 10 0 z 3),(V.own 13 0 C 38)])::(gn 4 ((.live true F)::(gn 2 ((.live true H)::(gn 18 []))))))))⟩
def rY(D E:Ls)(z C:Nat)(F H:List V):St:=⟨(jn 4 ((V.ptr 4 0)::((V.ptr 5 0)::(jn 26 [])))),(gn 4 ((.live false [(V.gs 3 D),(V.gs 38 E)])::((.live false [(V.own 10 0 z 3),(V.own 13 0 C 38)])::(gn 4 ((.live true F)::(gn 2 ((.live true H)::(gn 18 []))))))))⟩
abbrev xi(Y:Type):Type:=Int->Int->Ls->Ls->Nat->Nat->List V->List V->Ob Y
abbrev ve(Y:Type):Type:=Ls->Ls->Nat->Nat->List V->List V->Ob Y
def xH(ca:dW)(L:Nat)(C:List V)(D:Int)(z:xi Y):Ob Y:=chk (0+2<=(WcJ C)) (ca Y L (WbO V.ag (WcK 2 C)) (λE F H I=>z D (0:Int) ([]:Ls) ([]:Ls) E F H I))
theorem Lp(ca:dW)(L:Nat)(H:List V)(z:Int)(k:KK Y):dj iX (iW ca L) L cf_ref30_advance [(V.agg H),(QQe z)] [] k=xH ca L H z (λz M E F C D I J=>dX (cC iX (iW ca L) 0 L pP) qW L (lK z M E F C D I J) (cW 0 (dN (cC iX (iW ca L) 0 L AS) (eo 0 (CF.res cf_ref30_advance) k)))):=by kernel_rfl
def kX(ca:dW)(L:Nat)(M D:Int)(H I:Ls)(z E:Nat)(F J:List V)(C:xi Y)(N:ve Y):Ob Y:=ifb (decide (D<((z:Nat):Int))) (chk (0<=D/\D<((z:Nat):Int)) (cI .i64 F ((0+((WcL D)*3))+2) λO=>lt (Wbf .i64 ((M:Int)-(1:Int))) λP=>ifb ((O:Int)==P) (chk (0<=D/\D<((z:Nat):Int)) (chk (1=1/\((0+((WcL D)*3))+2)+1<=(WcJ F)) (lt (cD F ((0+((WcL D)*3))+2) [(QQe M)]) λQ=>lt (Wbf .i64 ((D:Int)+(1:Int))) λR=>C M R H I z E Q J))) (lt (Wbf .i64 ((D:Int)+(1:Int))) λS=>C M S H I z E F J))) (N H I z E F J)
theorem Ed(ca:dW)(L:Nat)(I J:Int)(D E:Ls)(z C:Nat)(F H:List V)(X:St->Ob Y)(K:KT Y):cC iX (iW ca L) 0 L pP (lK I J D E z C F H) (fO qW X K)=kX ca L I J D E z C F H (λI J D E z C F H=>X (lK I J D E z C F H)) (λD E z C F H=>K (.exit 0) (rY D E z C F H)):=by kernel_rfl
def oZ(ca:dW)(L:Nat)(H I:Ls)(z C:Nat)(E F:List V)(D:List V->Ob Y):Ob Y:=D [(V.sl 3 (cz 3 z E)),(V.sl 38 (cz 38 C F))]
theorem CH(ca:dW)(L:Nat)(D E:Ls)(z C:Nat)(F H:List V)(k:KK Y):(cW 0 (dN (cC iX (iW ca L) 0 L AS) (eo 0 (CF.res cf_ref30_advance) k))) (.exit 0) (rY D E z C F H)=oZ ca L D E z C F H (λI=>k (V.agg I) []):=by kernel_rfl
def iT(ca:dW)(L:Nat)(F:ve Y):Nat->Int->Int->Ls->Ls->Nat->Nat->List V->List V->Ob Y
 | 0,_,_,_,_,_,_,_,_=>none
 | n+1,J,M,D,E,z,C,H,I=>kX ca L J M D E z C H I (λJ M D E z C H I=>iT ca L F n J M D E z C H I) F
theorem uG(ca:dW)(L:Nat)(K:KT Y):∀ (n:Nat) (I J:Int) (D E:Ls) (z C:Nat) (F H:List V),dX (cC iX (iW ca L) 0 L pP) qW n (lK I J D E z C F H) K=iT ca L (λD E z C F H=>K (.exit 0) (rY D E z C F H)) n I J D E z C F H:=by
 intro n; induction n <;> intros
 ·rfl
 ·exact (Ed ..).trans (by simp only [*]; rfl)
def sA(ca:dW)(L:Nat)(M:List V)(J:Int)(I:List V->Ob Y):Ob Y:=xH ca L M J (λJ N D E z C F H=>iT ca L (λD E z C F H=>oZ ca L D E z C F H I) L J N D E z C F H)
theorem JJ(ca:dW)(L:Nat)(z:List V)(C:Int)(k:KK Y):dj iX (iW ca L) L cf_ref30_advance [(V.agg z),(QQe C)] [] k=sA ca L z C (λz=>k (V.agg z) []):=by
 refine (Lp ca L z C k).trans ?_
 unfold sA
 first
  | (simp only [uG,CH]; done)
  | (simp only [uG]; rfl)
abbrev oE:=∀ (Y:Type),Nat->List V->Int->(List V->Ob Y)->Ob Y
def ft:oE:=λY=>@sA Y ca
def yu(ft:oE)(L:Nat):Dk:=dA AG λz=>dA (AI .i64) λC=>d0 λY k=>ft Y L z C (λz=>k (V.agg z) [])
theorem Li(L:Nat):DK (yu ft L) (λ_=>dj iX (iW ca L) L cf_ref30_advance):=dk fN λz=>dk gm λC=>fC λ_ k=>JJ ca L z C k
def GZ:CF:=cfD Ds 26
def zP:Nat->Sh:=fP [(28,(.sl 38)),(44,(.row [(.sl 3),(.sl 38)]))]
def zB(f0:tH)(f9:qZ)(dc:hZ)(fQ:s7)(ft:oE)(L:Nat):CBC:=(d6 841 (yu ft L) (d6 795 (DF fQ L) (d6 837 (AE dc L) (d6 522 (B0 f9 L) (d6 840 (DL f0 L) noC)))))
def oe(f0:tH)(f9:qZ)(dc:hZ)(fQ:s7)(ft:oE)(L:Nat)(C:List V)(H:Int)(E:List V)(z:List V->Int->Ob Y):Ob Y:=chk (0+2<=(WcJ C)) (f0 Y L (WbO V.ag (WcK 2 C)) H (λI=>ifb ((I:Int) != (0:Int)) (lt [(V.sl 3 ([]:Ls)),(V.sl 38 ([]:Ls))] λJ=>chk (0=0/\(WcJ J)=2/\2≠0) (z J I)) (chk (0+69<=(WcJ E)) (f9 Y L (WbO V.ag (WcK 69 E)) (λM=>ifb ((M:Int) != (0:Int)) (lt [(V.sl 3 ([]:Ls)),(V.sl 38 ([]:Ls))] λN=>chk (0=0/\(WcJ N)=2/\2≠0) (z N M)) (cLd 38 C 1 λR=>chk (0+2<=(WcJ C)) (dc Y L (WbO V.ag (WcK 2 C)) (λS=>chk (0+2<=(WcJ C)) (dc Y L (WbO V.ag (WcK 2 C)) (λT=>chk (0+69<=(WcJ E)) (fQ Y L R S T (WbO V.ag (WcK 69 E)) H (λU O=>ifb ((O:Int) != (0:Int)) (lt [(V.sl 3 ([]:Ls)),(V.sl 38 ([]:Ls))] λP=>chk (0=0/\(WcJ P)=2/\2≠0) (z P O)) (chk (0+2<=(WcJ C)) (ft Y L (WbO V.ag (WcK 2 C)) H (λD=>chk (WcJ D=2) (cL 3 D 0 λQ=>cL 38 D 1 λc9=>lt [(V.sl 3 Q),(V.sl 38 U)] λF=>chk (0=0/\(WcJ F)=2/\2≠0) (z F (0:Int))))))))))))))))))
theorem OL(f0:tH)(f9:qZ)(dc:hZ)(fQ:s7)(ft:oE)(L:Nat)(D:List V)(E:Int)(F:List V)(k:KK Y):dj zP (zB f0 f9 dc fQ ft L) L GZ [(V.agg D),(QQe E),(V.agg F)] [] k=oe f0 f9 dc fQ ft L D E F (λz C=>k (V.ah [(V.agg z),(QQe C)]) []):=by kernel_rfl
abbrev iq:=∀ (Y:Type),Nat->List V->Int->List V->(List V->Int->Ob Y)->Ob Y
def cY:iq:=λY=>@oe Y f0 f9 dc fQ ft
def B4(cY:iq)(L:Nat):Dk:=dA AG λD=>dA (AI .i64) λE=>dA AG λF=>d0 λY k=>cY Y L D E F (λz C=>k (V.ah [(V.agg z),(QQe C)]) [])
theorem NT(L:Nat):DK (B4 cY L) (λ_=>dj zP (zB f0 f9 dc fQ ft L) L GZ):=dk fN λz=>dk gm λC=>dk fN λD=>fC λ_ k=>OL f0 f9 dc fQ ft L z C D k
def cf_law30_made:CF:=cfD EI 8
def tw:CC:=eS [1,1,0,1,0,0] cf_law30_made.body
def E7:CC:=eS [1,1,1] cf_law30_made.body
def ku:Nat->Sh:=fP [(67,(.sl 69)),(25,(.sl 69)),(36,(.sl 69))]
def kE(bR:dH)(dl:ip)(dz:jd)(cS:gN)(cr:eP)(cY:iq)(L:Nat):CBC:=(d6 828 (B4 cY L) (d6 822 (yd cr L) (d6 827 (Ab cS L) (d6 819 (Fk dz L) (d6 448 (BZ dl L) (d6 231 (lW bR L) noC))))))
def u9:St->St:=fF 1 (bl 121 83) (bl 9351168509897910781984895 83)
def mW(F:Int)(z:Ls)(C:Int)(H:List V)(D E:Ls)(I:List V):St:=⟨((V.ptr 0 0)::(jn 2 ((V.ptr 4 0)::((V.ptr 5 0)::((V.ptr 6 0)::((QQe F)::(jn 76 []))))))),((.live false [(V.sl 1 z),(QQe C)])::(gn 3 ((.live true H)::((.live true [(V.gs 3 D),(V.gs 38 E)])::((.live true I)::(gn 77 []))))))⟩
def wO(z:Ls)(C:Int)(D E:Ls)(F:List V):St:=⟨(jn 4 ((V.ptr 5 0)::((V.ptr 6 0)::(jn 77 [])))),((.live false [(V.sl 1 z),(QQe C)])::(gn 4 ((.live true [(V.gs 3 D),(V.gs 38 E)])::((.live true F)::(gn 77 [])))))⟩
abbrev Bc(Y:Type):Type:=Int->Ls->Int->List V->Ls->Ls->List V->Ob Y
abbrev tZ(Y:Type):Type:=Ls->Int->Ls->Ls->List V->Ob Y
def DO(bR:dH)(dl:ip)(dz:jd)(cS:gN)(cr:eP)(cY:iq)(L:Nat)(E:List V)(C:Ls)(D:Int)(z:Bc Y):Ob Y:=bR Y L (24:Int) C D (λF H I=>z F H I E ([]:Ls) ([]:Ls) [(V.gs 3 ([]:Ls)),(V.gs 38 ([]:Ls))])
theorem Pv(bR:dH)(dl:ip)(dz:jd)(cS:gN)(cr:eP)(cY:iq)(L:Nat)(F:List V)(z:Ls)(C:Int)(k:KK Y):dj ku (kE bR dl dz cS cr cY L) L cf_law30_made [(V.ptr 0 0),(V.agg F)] [(.live false [(V.sl 1 z),(QQe C)])] k=DO bR dl dz cS cr cY L F z C (λH z C I D E J=>dX (cC ku (kE bR dl dz cS cr cY L) 1 L tw) u9 L (mW H z C I D E J) (cW 0 (dN (cC ku (kE bR dl dz cS cr cY L) 1 L E7) (eo 1 (CF.res cf_law30_made) k)))):=by kernel_rfl
def ic(bR:dH)(dl:ip)(dz:jd)(cS:gN)(cr:eP)(cY:iq)(L:Nat)(H:Int)(I:Ls)(J:Int)(F:List V)(D E:Ls)(C:List V)(z:Bc Y)(ab:tZ Y):Ob Y:=ifb (decide (H>(0:Int))) (bR Y L (4:Int) I J (λv3 O P=>ifb ((v3:Int)==(0:Int)) (chk (0+2<=(WcJ C)) (bR Y L (6:Int) O P (λv6 v7 v8=>lt (Wbf .u8 v6) λx9=>dl Y L x9 (λad=>bR Y L (3:Int) v7 v8 (λan Q R=>lt (Wbf .i64 (((1:Int):Int)+an)) λao=>dz Y L (WbO V.ag (WcK 2 C)) ad ao (λS ap=>chk ((WcJ S)=2/\0+2<=2) (lt (cD [(V.gs 3 ([]:Ls)),(V.gs 38 ([]:Ls))] 0 S) λM=>ifb ((ap:Int)==(0:Int)) (chk (0+2<=(WcJ M)) (chk ((WcJ (WcK 2 M))=2/\0+2<=(WcJ C)) (lt (cD C 0 (WcK 2 M)) λaq=>lt (Wbf .i64 ((H:Int)-(1:Int))) λar=>z ar Q R F D E aq))) (lt (Wbf .i64 ((H:Int)-(1:Int))) λau=>z au Q R F D E C)))))))) (ifb ((v3:Int)==(1:Int)) (chk (0+2<=(WcJ C)) (cLd 69 F 80 λav=>lt (Wbf .i64 ((((WcJ av:Nat):Int):Int)+(1:Int))) λaz=>bR Y L az O P (λaJ T U=>cS Y L (WbO V.ag (WcK 2 C)) aJ (λc9 aO=>chk ((WcJ c9)=2/\0+2<=2) (lt (cD [(V.gs 3 ([]:Ls)),(V.gs 38 ([]:Ls))] 0 c9) λN=>ifb ((aO:Int)==(0:Int)) (bR Y L (4:Int) T U (λaV X c8=>ifb ((aV:Int)==(0:Int)) (chk (0+2<=(WcJ N)) (chk ((WcJ (WcK 2 N))=2/\0+2<=(WcJ C)) (lt (cD C 0 (WcK 2 N)) λaZ=>lt (Wbf .i64 ((H:Int)-(1:Int))) λa0=>z a0 X c8 F D E aZ))) (lt (Wbf .i64 ((H:Int)-(1:Int))) λa1=>z a1 X c8 F D E C))) (lt (Wbf .i64 ((H:Int)-(1:Int))) λa2=>z a2 T U F D E C)))))) (chk (0+2<=(WcJ C)) (cLd 69 F 80 λa3=>cr Y L (WbO V.ag (WcK 2 C)) ((WcJ a3:Nat):Int) (λb9 bm a4=>ifb a4 (chk (0+2<=(WcJ C)) (cLd 69 F 80 λa5=>lt (Wbf .i64 ((b9:Int)-(1:Int))) λa6=>idx a5 a6 λa7=>cY Y L (WbO V.ag (WcK 2 C)) b9 (WbO V.ag (WcK 69 a7)) (λaa bp=>chk ((WcJ aa)=2/\0+2<=(WcJ C)) (lt (cD C 0 aa) λa9=>lt (Wbf .i64 ((H:Int)-(1:Int))) λba=>z ba O P F D E a9)))) (lt (Wbf .i64 ((H:Int)-(1:Int))) λbb=>z bb O P F D E C))))))) (ab I J D E C)
theorem H7(bR:dH)(dl:ip)(dz:jd)(cS:gN)(cr:eP)(cY:iq)(L:Nat)(H:Int)(z:Ls)(C:Int)(I:List V)(D E:Ls)(F:List V)(X:St->Ob Y)(K:KT Y):cC ku (kE bR dl dz cS cr cY L) 1 L tw (mW H z C I D E F) (fO u9 X K)=ic bR dl dz cS cr cY L H z C I D E F (λH z C I D E F=>X (mW H z C I D E F)) (λz C D E F=>K (.exit 0) (wO z C D E F)):=by kernel_rfl
def rH(bR:dH)(dl:ip)(dz:jd)(cS:gN)(cr:eP)(cY:iq)(L:Nat)(D:Ls)(E:Int)(F H:Ls)(I:List V)(z:List V->Ls->Int->Ob Y):Ob Y:=chk (0+2<=(WcJ I)) (chk ((WcJ (WcK 2 I))=2/\0+2<=2) (lt (cD [(V.gs 3 F),(V.gs 38 H)] 0 (WcK 2 I)) λC=>chk (0=0/\(WcJ C)=2/\2≠0) (z C D E)))
theorem Fu(bR:dH)(dl:ip)(dz:jd)(cS:gN)(cr:eP)(cY:iq)(L:Nat)(z:Ls)(C:Int)(D E:Ls)(F:List V)(k:KK Y):(cW 0 (dN (cC ku (kE bR dl dz cS cr cY L) 1 L E7) (eo 1 (CF.res cf_law30_made) k))) (.exit 0) (wO z C D E F)=rH bR dl dz cS cr cY L z C D E F (λH z C=>k (V.agg H) [(.live false [(V.sl 1 z),(QQe C)])]):=by kernel_rfl
def fG(bR:dH)(dl:ip)(dz:jd)(cS:gN)(cr:eP)(cY:iq)(L:Nat)(F:tZ Y):Nat->Int->Ls->Int->List V->Ls->Ls->List V->Ob Y
 | 0,_,_,_,_,_,_,_=>none
 | n+1,H,z,C,I,D,E,J=>ic bR dl dz cS cr cY L H z C I D E J (λH z C I D E J=>fG bR dl dz cS cr cY L F n H z C I D E J) F
theorem xR(bR:dH)(dl:ip)(dz:jd)(cS:gN)(cr:eP)(cY:iq)(L:Nat)(K:KT Y):∀ (n:Nat) (H:Int) (z:Ls) (C:Int) (I:List V) (D E:Ls) (F:List V),dX (cC ku (kE bR dl dz cS cr cY L) 1 L tw) u9 n (mW H z C I D E F) K=fG bR dl dz cS cr cY L (λz C D E F=>K (.exit 0) (wO z C D E F)) n H z C I D E F:=by
 intro n; induction n <;> intros
 ·rfl
 ·exact (H7 ..).trans (by simp only [*]; rfl)
def xI(bR:dH)(dl:ip)(dz:jd)(cS:gN)(cr:eP)(cY:iq)(L:Nat)(I:List V)(z:Ls)(C:Int)(F:List V->Ls->Int->Ob Y):Ob Y:=DO bR dl dz cS cr cY L I z C (λJ z C M D E H=>fG bR dl dz cS cr cY L (λz C D E H=>rH bR dl dz cS cr cY L z C D E H F) L J z C M D E H)
theorem Qk(bR:dH)(dl:ip)(dz:jd)(cS:gN)(cr:eP)(cY:iq)(L:Nat)(D:List V)(z:Ls)(C:Int)(k:KK Y):dj ku (kE bR dl dz cS cr cY L) L cf_law30_made [(V.ptr 0 0),(V.agg D)] [(.live false [(V.sl 1 z),(QQe C)])] k=xI bR dl dz cS cr cY L D z C (λE z C=>k (V.agg E) [(.live false [(V.sl 1 z),(QQe C)])]):=by
 refine (Pv bR dl dz cS cr cY L D z C k).trans ?_
 unfold xI
 first
  | (simp only [xR,Fu]; done)
  | (simp only [xR]; rfl)
abbrev gU:=∀ (Y:Type),Nat->List V->Ls->Int->(List V->Ls->Int->Ob Y)->Ob Y
def dm:gU:=λY=>@xI Y bR dl dz cS cr cY
def yq(dm:gU)(L:Nat)(Y:Type)(args:List V)(bor:Bor)(k:KK Y):Ob Y:=match args,bor with
 | [a0,a1],[(.live false [w0_0,w0_1])]=>aP 0 0 a0 (aG a1 λD=>aL 1 w0_0 λz=>aI .i64 w0_1 λC=>dm Y L D z C (λE z C=>k (V.agg E) [(.live false [(V.sl 1 z),(QQe C)])]))
 | _,_=>none
theorem Pw(L:Nat)(Y:Type)(args:List V)(bor:Bor)(k:KK Y)(r:Y)(h:yq dm L Y args bor k=some r):dj ku (kE bR dl dz cS cr cY L) L cf_law30_made args bor k=some r:=by
 unfold yq at h
 split at h
 ·have q:=GP h; clear h; obtain ⟨rfl,h⟩:=q
  have q:=zaK h; clear h; obtain ⟨D,rfl,h⟩:=q
  have q:=AO h; clear h; obtain ⟨z,rfl,h⟩:=q
  have q:=tA h; clear h; obtain ⟨C,rfl,h⟩:=q
  exact (Qk bR dl dz cS cr cY L D z C k).trans h
 ·cases h
def cf_scan_Reached:CF:=cfD Ci 21
def pB:CC:=eS [1,1,1,0,1,0,0] cf_scan_Reached.body
def A1:CC:=eS [1,1,1,1] cf_scan_Reached.body
def jr:Nat->Sh:=fP [(7,(.sl 3)),(11,(.sl 3)),(14,(.int .i64)),(16,(.sl 3)),(24,(.int .i64))]
def jB(L:Nat):CBC:=noC
def qQ:St->St:=fF 0 (bl 458760 28) (bl 234880989 28)
def lN(E:Int)(z:Ls)(C D:Int):St:=⟨(jn 3 ((QQe E)::(jn 12 ((V.sl 3 z)::((QQe C)::((QQe D)::(jn 9 []))))))),(gn 28 [])⟩
def tN(z:Int):St:=⟨(jn 3 ((QQe z)::(jn 24 []))),(gn 28 [])⟩
def Am(L:Nat)(D:List V)(C:Int->Ob Y)(z:Int->Ls->Int->Int->Ob Y):Ob Y:=cLd 3 D 0 λF=>ifb ((((WcJ F:Nat):Int):Int)==(0:Int)) (C (-1:Int)) (cLd 3 D 0 λH=>idx H (0:Int) λI=>cI .i64 (WcM 2 I) 0 λJ=>cLd 3 D 0 λE=>z J E ((WcJ E:Nat):Int) (0:Int))
theorem MP(L:Nat)(z:List V)(k:KK Y):dj jr (jB L) L cf_scan_Reached [(V.agg z)] [] k=Am L z (λz=>k (QQe z) []) (λF C D E=>dX (cC jr (jB L) 0 L pB) qQ L (lN F C D E) (cW 0 (dN (cC jr (jB L) 0 L A1) (eo 0 (CF.res cf_scan_Reached) k)))):=by kernel_rfl
def qB(L:Nat)(H:Int)(D:Ls)(E C:Int)(z:Int->Ls->Int->Int->Ob Y)(F:Int->Ob Y):Ob Y:=ifb (decide (C<E)) (idx D C λI=>chk ((WcJ (WcK 3 I))=3/\0+3<=3) (lt (cD [(V.gs 1 ([]:Ls)),(QQe (0:Int)),(QQe (0:Int))] 0 (WcK 3 I)) λJ=>cI .i64 J 2 λM=>lt (JR H M) λN=>lt (Wbf .i64 ((C:Int)+(1:Int))) λO=>z N D E O)) (F H)
theorem Eg(L:Nat)(E:Int)(z:Ls)(C D:Int)(X:St->Ob Y)(K:KT Y):cC jr (jB L) 0 L pB (lN E z C D) (fO qQ X K)=qB L E z C D (λE z C D=>X (lN E z C D)) (λE=>K (.exit 0) (tN E)):=by kernel_rfl
def mh(L:Nat)(C:Int)(z:Int->Ob Y):Ob Y:=z C
theorem CK(L:Nat)(z:Int)(k:KK Y):(cW 0 (dN (cC jr (jB L) 0 L A1) (eo 0 (CF.res cf_scan_Reached) k))) (.exit 0) (tN z)=mh L z (λC=>k (QQe C) []):=by kernel_rfl
def li(L:Nat)(z:Int->Ob Y):Nat->Int->Ls->Int->Int->Ob Y
 | 0,_,_,_,_=>none
 | n+1,F,C,D,E=>qB L F C D E (λF C D E=>li L z n F C D E) z
theorem uE(L:Nat)(K:KT Y):∀ (n:Nat) (z:Int) (C:Ls) (D E:Int),dX (cC jr (jB L) 0 L pB) qQ n (lN z C D E) K=li L (λz=>K (.exit 0) (tN z)) n z C D E:=by
 intro n; induction n <;> intros
 ·rfl
 ·exact (Eg ..).trans (by simp only [*]; rfl)
def uA(L:Nat)(H:List V)(z:Int->Ob Y):Ob Y:=Am L H z (λC D E F=>li L (λC=>mh L C z) L C D E F)
theorem ML(L:Nat)(z:List V)(k:KK Y):dj jr (jB L) L cf_scan_Reached [(V.agg z)] [] k=uA L z (λz=>k (QQe z) []):=by
 refine (MP L z k).trans ?_
 unfold uA
 first
  | (simp only [uE,CK]; done)
  | (simp only [uE]; rfl)
abbrev cT:=∀ (Y:Type),Nat->List V->(Int->Ob Y)->Ob Y
def bN:cT:=λY=>@uA Y
def pH(bN:cT)(L:Nat):Dk:=dA AG λz=>d0 λY k=>bN Y L z (λz=>k (QQe z) [])
theorem Mk(L:Nat):DK (pH bN L) (λ_=>dj jr (jB L) L cf_scan_Reached):=dk fN λz=>fC λ_ k=>ML L z k
def Hi:CF:=cfD Du 40
def zU:Nat->Sh:=fP []
def zJ(L:Nat):CBC:=noC
def BX(L:Nat)(D:Ls)(z:Ls->Ob Y):Ob Y:=lc D (z ([]:Ls)) (λh0 C=>chk ((0+WcJ (h0::C))*1<=cy/\0+WcJ (h0::C)<=cy) (chk ((WcJ (h0::C))≠0∨(WcJ (WcN (h0::C)))=0) (z (cz 1 (WcJ (h0::C)) (WcN (h0::C))))))
theorem NL(L:Nat)(z:Ls)(k:KK Y):dj zU (zJ L) L Hi [(V.sl 1 z)] [] k=BX L z (λz=>k (V.fr 1 z) []):=by kernel_rfl
abbrev eO:=∀ (Y:Type),Nat->Ls->(Ls->Ob Y)->Ob Y
def cq:eO:=λY=>@BX Y
def vZ(cq:eO)(L:Nat):Dk:=dA (AL 1) λz=>d0 λY k=>cq Y L z (λz=>k (V.fr 1 z) [])
theorem OO(L:Nat):DK (vZ cq L) (λ_=>dj zU (zJ L) L Hi):=dk ik λz=>fC λ_ k=>NL L z k
def cf_scan_due:CF:=cfD IE 42
def vj:CC:=eS [1,1,1,0,1,0,0] cf_scan_due.body
def Gj:CC:=eS [1,1,1,1] cf_scan_due.body
def mi:Nat->Sh:=fP [(11,(.sl 3)),(18,(.int .i64)),(23,(.sl 1))]
def l5(bN:cT)(L:Nat):CBC:=(d6 824 (pH bN L) noC)
def wA:St->St:=fF 0 (bl 14360 27) (bl 134217661 27)
def nN(E:Int)(z:Ls)(C D:Int)(F:Lm):St:=⟨(jn 3 ((QQe E)::((V.ptr 4 0)::(jn 6 ((V.sl 3 z)::((QQe C)::((QQe D)::(jn 13 [])))))))),(gn 4 ((.live false [(V.mp 9)])::(gn 4 ((.mp F)::(gn 17 [])))))⟩
def z8(z:Lm):St:=⟨(jn 4 ((V.ptr 4 0)::(jn 22 []))),(gn 4 ((.live false [(V.mp 9)])::(gn 4 ((.mp z)::(gn 17 [])))))⟩
def Ir(bN:cT)(L:Nat)(C:List V)(z:Int->Ls->Int->Int->Lm->Ob Y):Ob Y:=chk (0+2<=(WcJ C)) (bN Y L (WbO V.ag (WcK 2 C)) (λE=>cLd 3 C 0 λD=>z E D ((WcJ D:Nat):Int) (0:Int) ([]:Lm)))
theorem UF(bN:cT)(L:Nat)(z:List V)(k:KK Y):dj mi (l5 bN L) L cf_scan_due [(V.agg z)] [] k=Ir bN L z (λF C D E H=>dX (cC mi (l5 bN L) 0 L vj) wA L (nN F C D E H) (cW 0 (dN (cC mi (l5 bN L) 0 L Gj) (eo 0 (CF.res cf_scan_due) k)))):=by kernel_rfl
def nL(bN:cT)(L:Nat)(F:Int)(D:Ls)(E C:Int)(H:Lm)(z:Int->Ls->Int->Int->Lm->Ob Y)(I:Lm->Ob Y):Ob Y:=ifb (decide (C<E)) (idx D C λJ=>chk ((WcJ (WcK 3 J))=3/\0+3<=3) (lt (cD [(V.gs 1 ([]:Ls)),(QQe (0:Int)),(QQe (0:Int))] 0 (WcK 3 J)) λM=>cI .i64 M 2 λN=>ifb ((N:Int)==F) (cLd 1 M 0 λO=>z4 O λP=>VG 1 (V.sc (.string P)) (V.sc (.bool true)) H λQ=>lt (Wbf .i64 ((C:Int)+(1:Int))) λR=>z F D E R Q) (lt (Wbf .i64 ((C:Int)+(1:Int))) λS=>z F D E S H))) (I H)
theorem Jo(bN:cT)(L:Nat)(F:Int)(z:Ls)(C D:Int)(E:Lm)(X:St->Ob Y)(K:KT Y):cC mi (l5 bN L) 0 L vj (nN F z C D E) (fO wA X K)=nL bN L F z C D E (λF z C D E=>X (nN F z C D E)) (λE=>K (.exit 0) (z8 E)):=by kernel_rfl
def Bn(bN:cT)(L:Nat)(C:Lm)(z:Lm->Ob Y):Ob Y:=z C
theorem Gp(bN:cT)(L:Nat)(z:Lm)(k:KK Y):(cW 0 (dN (cC mi (l5 bN L) 0 L Gj) (eo 0 (CF.res cf_scan_due) k))) (.exit 0) (z8 z)=Bn bN L z (λC=>k (V.fn 844 [(V.ptr 0 0)]) [(.live false [(V.mp 1)]),(.mp C)]):=by kernel_rfl
def kI(bN:cT)(L:Nat)(z:Lm->Ob Y):Nat->Int->Ls->Int->Int->Lm->Ob Y
 | 0,_,_,_,_,_=>none
 | n+1,F,C,D,E,H=>nL bN L F C D E H (λF C D E H=>kI bN L z n F C D E H) z
theorem zm(bN:cT)(L:Nat)(K:KT Y):∀ (n:Nat) (F:Int) (C:Ls) (D E:Int) (z:Lm),dX (cC mi (l5 bN L) 0 L vj) wA n (nN F C D E z) K=kI bN L (λz=>K (.exit 0) (z8 z)) n F C D E z:=by
 intro n; induction n <;> intros
 ·rfl
 ·exact (Jo ..).trans (by simp only [*]; rfl)
def Cv(bN:cT)(L:Nat)(H:List V)(z:Lm->Ob Y):Ob Y:=Ir bN L H (λI D E F C=>kI bN L (λC=>Bn bN L C z) L I D E F C)
theorem UX(bN:cT)(L:Nat)(z:List V)(k:KK Y):dj mi (l5 bN L) L cf_scan_due [(V.agg z)] [] k=Cv bN L z (λC=>k (V.fn 844 [(V.ptr 0 0)]) [(.live false [(V.mp 1)]),(.mp C)]):=by
 refine (UF bN L z k).trans ?_
 unfold Cv
 first
  | (simp only [zm,Gp]; done)
  | (simp only [zm]; rfl)
abbrev ge:=∀ (Y:Type),Nat->List V->(Lm->Ob Y)->Ob Y
def cR:ge:=λY=>@Cv Y bN
def H8(cR:ge)(L:Nat):Dk:=dA AG λz=>d0 λY k=>cR Y L z (λC=>k (V.fn 844 [(V.ptr 0 0)]) [(.live false [(V.mp 1)]),(.mp C)])
theorem Uq(L:Nat):DK (H8 cR L) (λ_=>dj mi (l5 bN L) L cf_scan_due):=dk fN λz=>fC λ_ k=>UX bN L z k
def AX:CF:=cfD xx 66
def tz:Nat->Sh:=fP [(1,(.row [(.int .u8),(.int .u8),(.int .u8),(.int .u8),(.int .u8),(.int .u8),(.int .u8),(.int .u8),(.int .u8),(.int .u8),(.int .u8),(.int .u8),(.int .u8),(.int .u8),(.int .u8),(.int .u8),(.int .u8),(.int .u8),(.int .u8),(.int .u8),(.int .u8),(.int .u8),(.int .u8),(.int .u8),(.int .u8),(.int .u8),(.int .u8),(.int .u8),(.int .u8),(.int .u8),(.int .u8),(.int .u8),(.int .u32),(.int .i64),(.sl 1),(.int .i64),.bool]))]
def sY(cq:eO)(L:Nat):CBC:=(d6 584 (vZ cq L) noC)
def Ce(cq:eO)(L:Nat)(z:List V)(C:List V->Ob Y):Ob Y:=chk (WcJ z=37) (cI .u8 z 0 λv0=>cI .u8 z 1 λv1=>cI .u8 z 2 λv2=>cI .u8 z 3 λv3=>cI .u8 z 4 λv4=>cI .u8 z 5 λv5=>cI .u8 z 6 λv6=>cI .u8 z 7 λv7=>cI .u8 z 8 λv8=>cI .u8 z 9 λv9=>cI .u8 z 10 λE=>cI .u8 z 11 λF=>cI .u8 z 12 λH=>cI .u8 z 13 λI=>cI .u8 z 14 λJ=>cI .u8 z 15 λM=>cI .u8 z 16 λN=>cI .u8 z 17 λO=>cI .u8 z 18 λP=>cI .u8 z 19 λQ=>cI .u8 z 20 λR=>cI .u8 z 21 λS=>cI .u8 z 22 λT=>cI .u8 z 23 λU=>cI .u8 z 24 λc9=>cI .u8 z 25 λX=>cI .u8 z 26 λc8=>cI .u8 z 27 λb9=>cI .u8 z 28 λaa=>cI .u8 z 29 λab=>cI .u8 z 30 λac=>cI .u8 z 31 λad=>cI .u32 z 32 λag=>cI .i64 z 33 λan=>cL 1 z 34 λao=>cI .i64 z 35 λap=>cB z 36 λaq=>cq Y L ao (λar=>lt [(QQa v0),(QQa v1),(QQa v2),(QQa v3),(QQa v4),(QQa v5),(QQa v6),(QQa v7),(QQa v8),(QQa v9),(QQa E),(QQa F),(QQa H),(QQa I),(QQa J),(QQa M),(QQa N),(QQa O),(QQa P),(QQa Q),(QQa R),(QQa S),(QQa T),(QQa U),(QQa c9),(QQa X),(QQa c8),(QQa b9),(QQa aa),(QQa ab),(QQa ac),(QQa ad),(QQc ag),(QQe an),(V.sl 1 ar),(QQe ap),(V.sc (.bool aq))] λD=>chk (0=0/\(WcJ D)=37/\37≠0) (C D)))
theorem HL(cq:eO)(L:Nat)(z:List V)(k:KK Y):dj tz (sY cq L) L AX [(V.agg z)] [] k=Ce cq L z (λz=>k (V.agg z) []):=by kernel_rfl
abbrev fT:=∀ (Y:Type),Nat->List V->(List V->Ob Y)->Ob Y
def cO:fT:=λY=>@Ce Y cq
def uY(cO:fT)(L:Nat):Dk:=dA AG λz=>d0 λY k=>cO Y L z (λz=>k (V.agg z) [])
theorem Ih(L:Nat):DK (uY cO L) (λ_=>dj tz (sY cq L) L AX):=dk fN λz=>fC λ_ k=>HL cq L z k
def cf_coins_Unspent:CF:=cfD AW 43
def pq:CC:=eS [1,1,0,1,0,0] cf_coins_Unspent.body
def Bb:CC:=eS [1,1,1] cf_coins_Unspent.body
def i3:Nat->Sh:=fP [(13,(.int .i64))]
def iY(cO:fT)(L:Nat):CBC:=(d6 549 (uY cO L) noC)
def qx:St->St:=fF 0 (bl 456 23) (bl 6553567 23)
def lJ(z C:Ls)(D E:Int):St:=⟨(jn 3 ((V.gs 37 z)::(jn 2 ((V.sl 38 C)::((QQe D)::((QQe E)::(jn 14 []))))))),(gn 23 [])⟩
def sm(z:Ls):St:=⟨(jn 3 ((V.gs 37 z)::(jn 19 []))),(gn 23 [])⟩
def xF(cO:fT)(L:Nat)(C:Ls)(z:Ls->Ls->Int->Int->Ob Y):Ob Y:=z ([]:Ls) C ((WcJ C:Nat):Int) (0:Int)
theorem K1(cO:fT)(L:Nat)(z:Ls)(k:KK Y):dj i3 (iY cO L) L cf_coins_Unspent [(V.sl 38 z)] [] k=xF cO L z (λC D E F=>dX (cC i3 (iY cO L) 0 L pq) qx L (lJ C D E F) (cW 0 (dN (cC i3 (iY cO L) 0 L Bb) (eo 0 (CF.res cf_coins_Unspent) k)))):=by kernel_rfl
def nc(cO:fT)(L:Nat)(C F:Ls)(H D:Int)(z:Ls->Ls->Int->Int->Ob Y)(I:Ls->Ob Y):Ob Y:=ifb (decide (D<H)) (idx F D λM=>chk ((WcJ (WcK 38 M))=38/\0+38<=38) (lt (cD (Wad 32 (QQa (0:Int))++[(QQc (0:Int)),(QQe (0:Int)),(V.gs 1 ([]:Ls)),(QQe (0:Int)),(V.sc (.bool false)),(QQe (0:Int))]) 0 (WcK 38 M)) λJ=>cI .i64 J 37 λN=>ifb ((N:Int)==(0:Int)) (chk (0+37<=(WcJ J)) (cO Y L (WbO V.ag (WcK 37 J)) (λE=>chk ((WcJ E)=37/\0+37<=37) (chk ((WcJ C+WcJ (cz 37 1 (cD (Wad 32 (QQa (0:Int))++[(QQc (0:Int)),(QQe (0:Int)),(V.sl 1 ([]:Ls)),(QQe (0:Int)),(V.sc (.bool false))]) 0 E)))*88<=cy/\WcJ C+WcJ (cz 37 1 (cD (Wad 32 (QQa (0:Int))++[(QQc (0:Int)),(QQe (0:Int)),(V.sl 1 ([]:Ls)),(QQe (0:Int)),(V.sc (.bool false))]) 0 E))<=cy) (lt (C++(cz 37 1 (cD (Wad 32 (QQa (0:Int))++[(QQc (0:Int)),(QQe (0:Int)),(V.sl 1 ([]:Ls)),(QQe (0:Int)),(V.sc (.bool false))]) 0 E))) λO=>lt (Wbf .i64 ((D:Int)+(1:Int))) λP=>z O F H P))))) (lt (Wbf .i64 ((D:Int)+(1:Int))) λQ=>z C F H Q))) (I C)
theorem D8(cO:fT)(L:Nat)(z C:Ls)(D E:Int)(X:St->Ob Y)(K:KT Y):cC i3 (iY cO L) 0 L pq (lJ z C D E) (fO qx X K)=nc cO L z C D E (λz C D E=>X (lJ z C D E)) (λz=>K (.exit 0) (sm z)):=by kernel_rfl
def vI(cO:fT)(L:Nat)(C:Ls)(z:Ls->Ob Y):Ob Y:=z C
theorem CE(cO:fT)(L:Nat)(z:Ls)(k:KK Y):(cW 0 (dN (cC i3 (iY cO L) 0 L Bb) (eo 0 (CF.res cf_coins_Unspent) k))) (.exit 0) (sm z)=vI cO L z (λC=>k (V.gs 37 C) []):=by kernel_rfl
def jZ(cO:fT)(L:Nat)(z:Ls->Ob Y):Nat->Ls->Ls->Int->Int->Ob Y
 | 0,_,_,_,_=>none
 | n+1,C,D,E,F=>nc cO L C D E F (λC D E F=>jZ cO L z n C D E F) z
theorem uF(cO:fT)(L:Nat)(K:KT Y):∀ (n:Nat) (z C:Ls) (D E:Int),dX (cC i3 (iY cO L) 0 L pq) qx n (lJ z C D E) K=jZ cO L (λz=>K (.exit 0) (sm z)) n z C D E:=by
 intro n; induction n <;> intros
 ·rfl
 ·exact (D8 ..).trans (by simp only [*]; rfl)
def so(cO:fT)(L:Nat)(D:Ls)(z:Ls->Ob Y):Ob Y:=xF cO L D (λC E F H=>jZ cO L (λC=>vI cO L C z) L C E F H)
theorem Lc(cO:fT)(L:Nat)(z:Ls)(k:KK Y):dj i3 (iY cO L) L cf_coins_Unspent [(V.sl 38 z)] [] k=so cO L z (λz=>k (V.gs 37 z) []):=by
 refine (K1 cO L z k).trans ?_
 unfold so
 first
  | (simp only [uF,CE]; done)
  | (simp only [uF]; rfl)
abbrev eN:=∀ (Y:Type),Nat->Ls->(Ls->Ob Y)->Ob Y
def cu:eN:=λY=>@so Y cO
def ya(cu:eN)(L:Nat):Dk:=dA (AL 38) λz=>d0 λY k=>cu Y L z (λz=>k (V.gs 37 z) [])
theorem KQ(L:Nat):DK (ya cu L) (λ_=>dj i3 (iY cO L) L cf_coins_Unspent):=dk ik λz=>fC λ_ k=>Lc cO L z k
def IJ:CF:=cfD Ew 65
def Br:Nat->Sh:=fP [(7,.bool)]
def BD(L:Nat):CBC:=noC
def DJ(L:Nat)(D:Ls)(C:Lm)(z:Bool->Lm->Ob Y):Ob Y:=z4 D λE=>mAt 1 (V.sc (.string E)) C λq1=>aB (Option.getD q1 (V.sc (.bool false))) λF=>z F C
theorem Ry(L:Nat)(z:Ls)(C:Lm)(k:KK Y):dj Br (BD L) L IJ [(V.sl 1 z),(V.ptr 0 0)] [(.live false [(V.mp 1)]),(.mp C)] k=DJ L z C (λz C=>k (V.sc (.bool z)) [(.live false [(V.mp 1)]),(.mp C)]):=by kernel_rfl
abbrev fw:=∀ (Y:Type),Nat->Ls->Lm->(Bool->Lm->Ob Y)->Ob Y
def cG:fw:=λY=>@DJ Y
def xA(cG:fw)(L:Nat)(Y:Type)(args:List V)(bor:Bor)(k:KK Y):Ob Y:=match args,bor with
 | [a0,a1],[(.live false [w0_0]),(.mp z)]=>aL 1 a0 λC=>aP 0 0 a1 (aM 1 w0_0 (cG Y L C z (λC z=>k (V.sc (.bool C)) [(.live false [(V.mp 1)]),(.mp z)])))
 | _,_=>none
theorem RB(L:Nat)(Y:Type)(args:List V)(bor:Bor)(k:KK Y)(r:Y)(h:xA cG L Y args bor k=some r):dj Br (BD L) L IJ args bor k=some r:=by
 unfold xA at h
 split at h
 ·have q:=AO h; clear h; obtain ⟨z,rfl,h⟩:=q
  have q:=GP h; clear h; obtain ⟨rfl,h⟩:=q
  have q:=zfK h; clear h; obtain ⟨rfl,h⟩:=q
  exact (Ry L z _ k).trans h
 ·cases h
def EE:CF:=cfD Cj 93
def xO:Nat->Sh:=fP []
def yO(L:Nat):CBC:=noC
def zI(L:Nat)(z C:Ls)(D:Ls->Ob Y):Ob Y:=lt (Wbf .i64 ((((WcJ z:Nat):Int):Int)+((WcJ C:Nat):Int))) λE=>chk (0<=(0:Int)/\(0:Int)<=E/\(WcL E)*1<=cy/\E<=cy) (chk ((WcJ (Wad 0 [(QQa (0:Int))])+WcJ z)*1<=cy/\WcJ (Wad 0 [(QQa (0:Int))])+WcJ z<=cy) (lt ((Wad 0 [(QQa (0:Int))])++z) λF=>chk ((WcJ F+WcJ C)*1<=cy/\WcJ F+WcJ C<=cy) (lt (F++C) λH=>D H)))
theorem Mq(L:Nat)(z C:Ls)(k:KK Y):dj xO (yO L) L EE [(V.sl 1 z),(V.sl 1 C)] [] k=zI L z C (λz=>k (V.gs 1 z) []):=by kernel_rfl
abbrev kP:=∀ (Y:Type),Nat->Ls->Ls->(Ls->Ob Y)->Ob Y
def dP:kP:=λY=>@zI Y
def ut(dP:kP)(L:Nat):Dk:=dA (AL 1) λz=>dA (AL 1) λC=>d0 λY k=>dP Y L z C (λz=>k (V.gs 1 z) [])
theorem Mf(L:Nat):DK (ut dP L) (λ_=>dj xO (yO L) L EE):=dk ik λz=>dk ik λC=>fC λ_ k=>Mq L z C k
def zu:CF:=cfD wU 68
def rO:Nat->Sh:=fP []
def rV(dP:kP)(L:Nat):CBC:=(d6 191 (ut dP L) noC)
def tV(dP:kP)(L:Nat)(D:Ls)(C:List V)(z:Ls->Ob Y):Ob Y:=chk (0+32*1<=(WcJ C)) (ifb (List.isEmpty C) (dP Y L D (cz 1 32 C) (λE=>z E)) (dP Y L D (cz 1 32 C) (λF=>z F)))
theorem GR(dP:kP)(L:Nat)(z:Ls)(C:List V)(k:KK Y):dj rO (rV dP L) L zu [(V.sl 1 z),(V.agg C)] [] k=tV dP L z C (λz=>k (V.gs 1 z) []):=by kernel_rfl
abbrev mu:=∀ (Y:Type),Nat->Ls->List V->(Ls->Ob Y)->Ob Y
def e7:mu:=λY=>@tV Y dP
def sV(e7:mu)(L:Nat):Dk:=dA (AL 1) λz=>dA AG λC=>d0 λY k=>e7 Y L z C (λz=>k (V.gs 1 z) [])
theorem Hd(L:Nat):DK (sV e7 L) (λ_=>dj rO (rV dP L) L zu):=dk ik λz=>dk fN λC=>fC λ_ k=>GR dP L z C k
def cf_codec_lowest:CF:=cfD B9 94
def qI:CC:=eS [1,1,0,1,0,0] cf_codec_lowest.body
def Cf:CC:=eS [1,1,1] cf_codec_lowest.body
def jz:Nat->Sh:=fP []
def ju(L:Nat):CBC:=noC
def rP:St->St:=fF 0 (bl 1569 23) (bl 8388543 23)
def mf(D:Int)(z:Nat)(E C:Int)(F:List V):St:=⟨((QQd D)::(jn 4 ((V.own 8 0 z 1)::(jn 3 ((QQe E)::((QQe C)::(jn 12 []))))))),(gn 8 ((.live true F)::(gn 14 [])))⟩
def sQ(z:Nat)(C:List V):St:=⟨(jn 5 ((V.own 8 0 z 1)::(jn 17 []))),(gn 8 ((.live true C)::(gn 14 [])))⟩
def Gv(L:Nat)(D z:Int)(C:Int->Nat->Int->Int->List V->Ob Y):Ob Y:=chk (0<=z/\z<=z/\(WcL z)*1<=cy/\z<=cy) (C D (WcL z) z (0:Int) (WcN (Wad (WcL z) [(QQa (0:Int))])))
theorem MV(L:Nat)(z C:Int)(k:KK Y):dj jz (ju L) L cf_codec_lowest [(QQd z),(QQe C)] [] k=Gv L z C (λz D F E H=>dX (cC jz (ju L) 0 L qI) rP L (mf z D F E H) (cW 0 (dN (cC jz (ju L) 0 L Cf) (eo 0 (CF.res cf_codec_lowest) k)))):=by kernel_rfl
def zw(L:Nat)(H:Int)(D:Nat)(I z:Int)(E:List V)(C:Int->Nat->Int->Int->List V->Ob Y)(F:Nat->List V->Ob Y):Ob Y:=ifb (decide (z<I)) (lt (Wbf .i64 (((8:Int):Int)*z)) λJ=>chk (0<=J) (lt (JV .u64 H J) λM=>lt (Wbf .u8 M) λN=>chk (0<=z/\z<((D:Nat):Int)) (chk (1=1/\(0+((WcL z)*1))+1<=(WcJ E)) (lt (cD E (0+((WcL z)*1)) [(QQa N)]) λO=>lt (Wbf .i64 ((z:Int)+(1:Int))) λP=>C H D I P O)))) (F D E)
theorem F6(L:Nat)(E:Int)(z:Nat)(F C:Int)(D:List V)(X:St->Ob Y)(K:KT Y):cC jz (ju L) 0 L qI (mf E z F C D) (fO rP X K)=zw L E z F C D (λE z F C D=>X (mf E z F C D)) (λz D=>K (.exit 0) (sQ z D)):=by kernel_rfl
def wZ(L:Nat)(C:Nat)(D:List V)(z:Ls->Ob Y):Ob Y:=chk (C≠0∨(WcJ D)=0) (z (cz 1 C D))
theorem DR(L:Nat)(z:Nat)(C:List V)(k:KK Y):(cW 0 (dN (cC jz (ju L) 0 L Cf) (eo 0 (CF.res cf_codec_lowest) k))) (.exit 0) (sQ z C)=wZ L z C (λD=>k (V.fr 1 D) []):=by kernel_rfl
def sj(L:Nat)(z:Nat->List V->Ob Y):Nat->Int->Nat->Int->Int->List V->Ob Y
 | 0,_,_,_,_,_=>none
 | n+1,E,C,F,D,H=>zw L E C F D H (λE C F D H=>sj L z n E C F D H) z
theorem vr(L:Nat)(K:KT Y):∀ (n:Nat) (E:Int) (z:Nat) (F D:Int) (C:List V),dX (cC jz (ju L) 0 L qI) rP n (mf E z F D C) K=sj L (λz C=>K (.exit 0) (sQ z C)) n E z F D C:=by
 intro n; induction n <;> intros
 ·rfl
 ·exact (F6 ..).trans (by simp only [*]; rfl)
def zQ(L:Nat)(D H:Int)(C:Ls->Ob Y):Ob Y:=Gv L D H (λD z I F E=>sj L (λz E=>wZ L z E C) L D z I F E)
theorem Mc(L:Nat)(z C:Int)(k:KK Y):dj jz (ju L) L cf_codec_lowest [(QQd z),(QQe C)] [] k=zQ L z C (λz=>k (V.fr 1 z) []):=by
 refine (MV L z C k).trans ?_
 unfold zQ
 first
  | (simp only [vr,DR]; done)
  | (simp only [vr]; rfl)
abbrev pJ:=∀ (Y:Type),Nat->Int->Int->(Ls->Ob Y)->Ob Y
def fU:pJ:=λY=>@zQ Y
def zZ(fU:pJ)(L:Nat):Dk:=dA (AI .u64) λz=>dA (AI .i64) λC=>d0 λY k=>fU Y L z C (λz=>k (V.fr 1 z) [])
theorem L5(L:Nat):DK (zZ fU L) (λ_=>dj jz (ju L) L cf_codec_lowest):=dk gm λz=>dk gm λC=>fC λ_ k=>Mc L z C k
def Bi:CF:=cfD yw 67
def sT:Nat->Sh:=fP []
def sP(fU:pJ)(dP:kP)(L:Nat):CBC:=(d6 191 (ut dP L) (d6 192 (zZ fU L) noC))
def u5(fU:pJ)(dP:kP)(L:Nat)(C:Ls)(D:Int)(z:Ls->Ob Y):Ob Y:=lt (Wbf .u64 D) λE=>fU Y L E (4:Int) (λF=>dP Y L C F (λH=>z H))
theorem HU(fU:pJ)(dP:kP)(L:Nat)(z:Ls)(C:Int)(k:KK Y):dj sT (sP fU dP L) L Bi [(V.sl 1 z),(QQc C)] [] k=u5 fU dP L z C (λz=>k (V.gs 1 z) []):=by kernel_rfl
abbrev mP:=∀ (Y:Type),Nat->Ls->Int->(Ls->Ob Y)->Ob Y
def ff:mP:=λY=>@u5 Y fU dP
def vq(ff:mP)(L:Nat):Dk:=dA (AL 1) λz=>dA (AI .u32) λC=>d0 λY k=>ff Y L z C (λz=>k (V.gs 1 z) [])
theorem HE(L:Nat):DK (vq ff L) (λ_=>dj sT (sP fU dP L) L Bi):=dk ik λz=>dk gm λC=>fC λ_ k=>HU fU dP L z C k
def M9:CF:=cfD IX 44
def FU:Nat->Sh:=fP [(7,(.int .u32))]
def FX(e7:mu)(ff:mP)(L:Nat):CBC:=(d6 157 (vq ff L) (d6 158 (sV e7 L) noC))
def Iv(e7:mu)(ff:mP)(L:Nat)(C:List V)(z:Ls->Ob Y):Ob Y:=chk (0+32<=(WcJ C)) (e7 Y L ([]:Ls) (WcK 32 C) (λD=>cI .u32 C 32 λE=>ff Y L D E (λF=>z F)))
theorem Uy(e7:mu)(ff:mP)(L:Nat)(z:List V)(k:KK Y):dj FU (FX e7 ff L) L M9 [(V.agg z)] [] k=Iv e7 ff L z (λz=>k (V.gs 1 z) []):=by kernel_rfl
abbrev gf:=∀ (Y:Type),Nat->List V->(Ls->Ob Y)->Ob Y
def cQ:gf:=λY=>@Iv Y e7 ff
def Hy(cQ:gf)(L:Nat):Dk:=dA AG λz=>d0 λY k=>cQ Y L z (λz=>k (V.gs 1 z) [])
theorem Uv(L:Nat):DK (Hy cQ L) (λ_=>dj FU (FX e7 ff L) L M9):=dk fN λz=>fC λ_ k=>Uy e7 ff L z k
def cf_scan_Next:CF:=cfD Gh 18
def pQ:CC:=eS [1,1,1,1,1,1,0,1,0,0] cf_scan_Next.body
def rX:CC:=eS [1,1,1,1,0,1,0,0] cf_scan_Next.body
def A3:CC:=eS [1,1,1,1,1,1,1] cf_scan_Next.body
def wc:CC:=eS [1,1,1,1,1] cf_scan_Next.body
def gT:Nat->Sh:=fP [(17,(.sl 3)),(26,(.sl 3)),(33,(.int .i64)),(38,(.sl 1)),(46,(.sl 38)),(56,(.sl 1))]
def gZ(bN:cT)(cq:eO)(cR:ge)(cu:eN)(cG:fw)(cQ:gf)(L:Nat):CBC:=(d6 137 (Hy cQ L) (d6 844 (xA cG L) (d6 784 (ya cu L) (d6 836 (H8 cR L) (d6 584 (vZ cq L) (d6 824 (pH bN L) noC))))))
def sR:St->St:=fF 0 (bl 469762436 68) (bl 295147901331062119423 68)
def qN:St->St:=fF 0 (bl 985162418489728 68) (bl 278862888926781103099 68)
def mD(E:Int)(F z:Ls)(C D:Int)(H:List V):St:=⟨(jn 2 ((V.ptr 2 0)::(jn 4 ((QQe E)::((V.gs 1 F)::(jn 17 ((V.sl 3 z)::((QQe C)::((QQe D)::(jn 39 [])))))))))),(gn 2 ((.live true H)::(gn 65 [])))⟩
def sG(z:Int)(C:Ls)(D:List V):St:=⟨(jn 2 ((V.ptr 2 0)::(jn 4 ((QQe z)::((V.gs 1 C)::(jn 59 [])))))),(gn 2 ((.live true D)::(gn 65 [])))⟩
def lO(F:Int)(H z:Ls)(C D:Int)(E:Lm):St:=⟨(jn 7 ((QQe F)::((V.gs 1 H)::(jn 2 ((V.fn 844 [(V.ptr 16 0)])::(jn 35 ((V.gs 37 z)::((QQe C)::((QQe D)::(jn 18 [])))))))))),(gn 16 ((.live false [(V.mp 19)])::(gn 2 ((.mp E)::(gn 48 [])))))⟩
def yg(C:Int)(D:Ls)(z:Lm):St:=⟨(jn 7 ((QQe C)::((V.gs 1 D)::(jn 59 [])))),(gn 16 ((.live false [(V.mp 19)])::(gn 2 ((.mp z)::(gn 48 [])))))⟩
abbrev zq(Y:Type):Type:=Int->Ls->Ls->Int->Int->List V->Ob Y
abbrev w4(Y:Type):Type:=Int->Ls->Ls->Int->Int->Lm->Ob Y
def FR(bN:cT)(cq:eO)(cR:ge)(cu:eN)(cG:fw)(cQ:gf)(L:Nat)(D:List V)(H:Int)(C:Int->Ls->Bool->Ob Y)(z:zq Y):Ob Y:=chk (0+2<=(WcJ D)) (bN Y L (WbO V.ag (WcK 2 D)) (λE=>cLd 3 D 0 λI=>ifb ((((WcJ I:Nat):Int):Int)==(0:Int)) (C (0:Int) ([]:Ls) false) (ifb (decide (E>=H)) (C (0:Int) ([]:Ls) false) (cLd 3 D 0 λF=>z E ([]:Ls) F ((WcJ F:Nat):Int) (0:Int) D))))
theorem RM(bN:cT)(cq:eO)(cR:ge)(cu:eN)(cG:fw)(cQ:gf)(L:Nat)(E:List V)(F:Int)(k:KK Y):dj gT (gZ bN cq cR cu cG cQ L) L cf_scan_Next [(V.agg E),(QQe F)] [] k=FR bN cq cR cu cG cQ L E F (λz C D=>k (V.ah [(QQe z),(V.gs 1 C),(V.sc (.bool D))]) []) (λM N H I J O=>dX (cC gT (gZ bN cq cR cu cG cQ L) 0 L rX) sR L (mD M N H I J O) (cW 0 (dN (cC gT (gZ bN cq cR cu cG cQ L) 0 L wc) (eo 0 (CF.res cf_scan_Next) k)))):=by kernel_rfl
def oK(bN:cT)(cq:eO)(cR:ge)(cu:eN)(cG:fw)(cQ:gf)(L:Nat)(H:Int)(D E:Ls)(F C:Int)(I:List V)(z:zq Y)(J:Int->Ls->List V->Ob Y):Ob Y:=ifb (decide (C<F)) (idx E C λN=>chk ((WcJ (WcK 3 N))=3/\0+3<=3) (lt (cD [(V.gs 1 ([]:Ls)),(QQe (0:Int)),(QQe (0:Int))] 0 (WcK 3 N)) λO=>cI .i64 O 2 λQ=>ifb ((Q:Int)==H) (cLd 1 O 0 λR=>cq Y L R (λM=>chk ((WcJ D+WcJ (cz 1 1 [(V.sl 1 M)]))*24<=cy/\WcJ D+WcJ (cz 1 1 [(V.sl 1 M)])<=cy) (lt (D++(cz 1 1 [(V.sl 1 M)])) λS=>lt (Wbf .i64 ((C:Int)+(1:Int))) λT=>z H S E F T I))) (lt (Wbf .i64 ((C:Int)+(1:Int))) λP=>z H D E F P I))) (J H D I)
theorem He(bN:cT)(cq:eO)(cR:ge)(cu:eN)(cG:fw)(cQ:gf)(L:Nat)(E:Int)(F z:Ls)(C D:Int)(H:List V)(X:St->Ob Y)(K:KT Y):cC gT (gZ bN cq cR cu cG cQ L) 0 L rX (mD E F z C D H) (fO sR X K)=oK bN cq cR cu cG cQ L E F z C D H (λE F z C D H=>X (mD E F z C D H)) (λE F H=>K (.exit 0) (sG E F H)):=by kernel_rfl
def qV(bN:cT)(cq:eO)(cR:ge)(cu:eN)(cG:fw)(cQ:gf)(L:Nat)(H:Int)(I:Ls)(D:List V)(z:w4 Y):Ob Y:=chk (0+2<=(WcJ D)) (cR Y L (WbO V.ag (WcK 2 D)) (λE=>cLd 38 D 1 λF=>cu Y L F (λC=>z H I C ((WcJ C:Nat):Int) (0:Int) E)))
theorem Ee(bN:cT)(cq:eO)(cR:ge)(cu:eN)(cG:fw)(cQ:gf)(L:Nat)(z:Int)(C:Ls)(D:List V)(k:KK Y):(cW 0 (dN (cC gT (gZ bN cq cR cu cG cQ L) 0 L wc) (eo 0 (CF.res cf_scan_Next) k))) (.exit 0) (sG z C D)=qV bN cq cR cu cG cQ L z C D (λz C E F H I=>dX (cC gT (gZ bN cq cR cu cG cQ L) 0 L pQ) qN L (lO z C E F H I) (cW 2 (dN (cC gT (gZ bN cq cR cu cG cQ L) 0 L A3) (eo 0 (CF.res cf_scan_Next) k)))):=by kernel_rfl
def nj(bN:cT)(cq:eO)(cR:ge)(cu:eN)(cG:fw)(cQ:gf)(L:Nat)(O:Int)(D E:Ls)(F C:Int)(J:Lm)(z:w4 Y)(P:Int->Ls->Lm->Ob Y):Ob Y:=ifb (decide (C<F)) (idx E C λM=>chk ((WcJ (WcK 37 M))=37/\0+37<=37) (lt (cD (Wad 32 (QQa (0:Int))++[(QQc (0:Int)),(QQe (0:Int)),(V.gs 1 ([]:Ls)),(QQe (0:Int)),(V.sc (.bool false))]) 0 (WcK 37 M)) λH=>cLd 1 H 34 λQ=>cG Y L Q J (λR N=>ifb R (chk (0+33<=(WcJ H)) (cQ Y L (WcK 33 H) (λI=>chk ((WcJ D+WcJ (cz 1 1 [(V.sl 1 I)]))*24<=cy/\WcJ D+WcJ (cz 1 1 [(V.sl 1 I)])<=cy) (lt (D++(cz 1 1 [(V.sl 1 I)])) λS=>lt (Wbf .i64 ((C:Int)+(1:Int))) λT=>z O S E F T N)))) (lt (Wbf .i64 ((C:Int)+(1:Int))) λU=>z O D E F U N)))) (P O D J)
theorem D7(bN:cT)(cq:eO)(cR:ge)(cu:eN)(cG:fw)(cQ:gf)(L:Nat)(F:Int)(H C:Ls)(D E:Int)(z:Lm)(X:St->Ob Y)(K:KT Y):cC gT (gZ bN cq cR cu cG cQ L) 0 L pQ (lO F H C D E z) (fO qN X K)=nj bN cq cR cu cG cQ L F H C D E z (λF H C D E z=>X (lO F H C D E z)) (λF H z=>K (.exit 2) (yg F H z)):=by kernel_rfl
def oT(bN:cT)(cq:eO)(cR:ge)(cu:eN)(cG:fw)(cQ:gf)(L:Nat)(D:Int)(E:Ls)(F:Lm)(z:Int->Ls->Bool->Ob Y):Ob Y:=lt (Wbf .i64 ((D:Int)+(1:Int))) λC=>z C E true
theorem Ct(bN:cT)(cq:eO)(cR:ge)(cu:eN)(cG:fw)(cQ:gf)(L:Nat)(F:Int)(H:Ls)(z:Lm)(k:KK Y):(cW 2 (dN (cC gT (gZ bN cq cR cu cG cQ L) 0 L A3) (eo 0 (CF.res cf_scan_Next) k))) (.exit 2) (yg F H z)=oT bN cq cR cu cG cQ L F H z (λC D E=>k (V.ah [(QQe C),(V.gs 1 D),(V.sc (.bool E))]) []):=by kernel_rfl
def kQ(bN:cT)(cq:eO)(cR:ge)(cu:eN)(cG:fw)(cQ:gf)(L:Nat)(z:Int->Ls->List V->Ob Y):Nat->Int->Ls->Ls->Int->Int->List V->Ob Y
 | 0,_,_,_,_,_,_=>none
 | n+1,F,H,C,D,E,I=>oK bN cq cR cu cG cQ L F H C D E I (λF H C D E I=>kQ bN cq cR cu cG cQ L z n F H C D E I) z
theorem wW(bN:cT)(cq:eO)(cR:ge)(cu:eN)(cG:fw)(cQ:gf)(L:Nat)(K:KT Y):∀ (n:Nat) (z:Int) (C E:Ls) (F H:Int) (D:List V),dX (cC gT (gZ bN cq cR cu cG cQ L) 0 L rX) sR n (mD z C E F H D) K=kQ bN cq cR cu cG cQ L (λz C D=>K (.exit 0) (sG z C D)) n z C E F H D:=by
 intro n; induction n <;> intros
 ·rfl
 ·exact (He ..).trans (by simp only [*]; rfl)
def jX(bN:cT)(cq:eO)(cR:ge)(cu:eN)(cG:fw)(cQ:gf)(L:Nat)(z:Int->Ls->Lm->Ob Y):Nat->Int->Ls->Ls->Int->Int->Lm->Ob Y
 | 0,_,_,_,_,_,_=>none
 | n+1,H,I,C,D,E,F=>nj bN cq cR cu cG cQ L H I C D E F (λH I C D E F=>jX bN cq cR cu cG cQ L z n H I C D E F) z
theorem uH(bN:cT)(cq:eO)(cR:ge)(cu:eN)(cG:fw)(cQ:gf)(L:Nat)(K:KT Y):∀ (n:Nat) (C:Int) (D E:Ls) (F H:Int) (z:Lm),dX (cC gT (gZ bN cq cR cu cG cQ L) 0 L pQ) qN n (lO C D E F H z) K=jX bN cq cR cu cG cQ L (λC D z=>K (.exit 2) (yg C D z)) n C D E F H z:=by
 intro n; induction n <;> intros
 ·rfl
 ·exact (D7 ..).trans (by simp only [*]; rfl)
def mI(bN:cT)(cq:eO)(cR:ge)(cu:eN)(cG:fw)(cQ:gf)(L:Nat)(z:Int)(C:Ls)(J:List V)(E:Int->Ls->Bool->Ob Y):Ob Y:=qV bN cq cR cu cG cQ L z C J (λz C F H I D=>jX bN cq cR cu cG cQ L (λz C D=>oT bN cq cR cu cG cQ L z C D E) L z C F H I D)
theorem C6(bN:cT)(cq:eO)(cR:ge)(cu:eN)(cG:fw)(cQ:gf)(L:Nat)(z:Int)(C:Ls)(D:List V)(k:KK Y):(cW 0 (dN (cC gT (gZ bN cq cR cu cG cQ L) 0 L wc) (eo 0 (CF.res cf_scan_Next) k))) (.exit 0) (sG z C D)=mI bN cq cR cu cG cQ L z C D (λE F H=>k (V.ah [(QQe E),(V.gs 1 F),(V.sc (.bool H))]) []):=by
 refine (Ee bN cq cR cu cG cQ L z C D k).trans ?_
 unfold mI
 first
  | (simp only [uH,Ct]; done)
  | (simp only [uH]; rfl)
def AC(bN:cT)(cq:eO)(cR:ge)(cu:eN)(cG:fw)(cQ:gf)(L:Nat)(J:List V)(M:Int)(z:Int->Ls->Bool->Ob Y):Ob Y:=FR bN cq cR cu cG cQ L J M z (λC D F H I E=>kQ bN cq cR cu cG cQ L (λC D E=>mI bN cq cR cu cG cQ L C D E z) L C D F H I E)
theorem Tg(bN:cT)(cq:eO)(cR:ge)(cu:eN)(cG:fw)(cQ:gf)(L:Nat)(z:List V)(C:Int)(k:KK Y):dj gT (gZ bN cq cR cu cG cQ L) L cf_scan_Next [(V.agg z),(QQe C)] [] k=AC bN cq cR cu cG cQ L z C (λD E F=>k (V.ah [(QQe D),(V.gs 1 E),(V.sc (.bool F))]) []):=by
 refine (RM bN cq cR cu cG cQ L z C k).trans ?_
 unfold AC
 first
  | (simp only [wW,C6]; done)
  | (simp only [wW]; rfl)
abbrev iD:=∀ (Y:Type),Nat->List V->Int->(Int->Ls->Bool->Ob Y)->Ob Y
def dw:iD:=λY=>@AC Y bN cq cR cu cG cQ
def Fp(dw:iD)(L:Nat):Dk:=dA AG λE=>dA (AI .i64) λF=>d0 λY k=>dw Y L E F (λz C D=>k (V.ah [(QQe z),(V.gs 1 C),(V.sc (.bool D))]) [])
theorem SA(L:Nat):DK (Fp dw L) (λ_=>dj gT (gZ bN cq cR cu cG cQ L) L cf_scan_Next):=dk fN λz=>dk gm λC=>fC λ_ k=>Tg bN cq cR cu cG cQ L z C k
def cf_law30_same:CF:=cfD EZ 20
def tK:CC:=eS [1,1,0,1,0,0] cf_law30_same.body
def yA:CC:=eS [1,1,1] cf_law30_same.body
def jP:Nat->Sh:=fP [(19,(.sl 1)),(24,(.sl 1))]
def jU(L:Nat):CBC:=noC
def u4:St->St:=fF 0 (bl 12291 28) (bl 268435407 28)
def mY(D E:Ls)(z C:Int):St:=⟨((V.sl 1 D)::((V.sl 1 E)::(jn 10 ((QQe z)::((QQe C)::(jn 14 [])))))),(gn 28 [])⟩
def uM(z:Bool):St:=⟨(jn 4 ((V.sc (.bool z))::(jn 23 []))),(gn 28 [])⟩
def wm:St:=⟨(jn 28 []),(gn 28 [])⟩
def CZ(L:Nat)(D E:Ls)(C:Bool->Ob Y)(z:Ls->Ls->Int->Int->Ob Y):Ob Y:=ifb ((((WcJ D:Nat):Int):Int) != ((WcJ E:Nat):Int)) (C false) (z D E ((WcJ D:Nat):Int) (0:Int))
theorem Rs(L:Nat)(z C:Ls)(k:KK Y):dj jP (jU L) L cf_law30_same [(V.sl 1 z),(V.sl 1 C)] [] k=CZ L z C (λz=>k (V.sc (.bool z)) []) (λz C D E=>dX (cC jP (jU L) 0 L tK) u4 L (mY z C D E) (cW 0 (dN (cC jP (jU L) 0 L yA) (eo 0 (CF.res cf_law30_same) k)))):=by kernel_rfl
def ph(L:Nat)(H I:Ls)(E C:Int)(D:Bool->Ob Y)(z:Ls->Ls->Int->Int->Ob Y)(F:Ob Y):Ob Y:=ifb (decide (C<E)) (idx H C λJ=>cL 1 J 0 λM=>z4 M λN=>idx I C λO=>cL 1 O 0 λP=>z4 P λQ=>ifb (!(ByteArray.toList N==ByteArray.toList Q)) (D false) (lt (Wbf .i64 ((C:Int)+(1:Int))) λR=>z H I E R)) (F)
theorem HK(L:Nat)(D E:Ls)(z C:Int)(X:St->Ob Y)(K:KT Y):cC jP (jU L) 0 L tK (mY D E z C) (fO u4 X K)=ph L D E z C (λF=>K .ret (uM F)) (λD E z C=>X (mY D E z C)) (K (.exit 0) (wm)):=by kernel_rfl
def xJ(L:Nat)(C:Bool)(z:Bool->Ob Y):Ob Y:=z C
theorem D9(L:Nat)(z:Bool)(k:KK Y):(cW 0 (dN (cC jP (jU L) 0 L yA) (eo 0 (CF.res cf_law30_same) k))) .ret (uM z)=xJ L z (λC=>k (V.sc (.bool C)) []):=by kernel_rfl
def zn(L:Nat)(z:Bool->Ob Y):Ob Y:=z true
theorem Fn(L:Nat)(k:KK Y):(cW 0 (dN (cC jP (jU L) 0 L yA) (eo 0 (CF.res cf_law30_same) k))) (.exit 0) (wm)=zn L (λz=>k (V.sc (.bool z)) []):=by kernel_rfl
def lC(L:Nat)(z:Bool->Ob Y)(C:Ob Y):Nat->Ls->Ls->Int->Int->Ob Y
 | 0,_,_,_,_=>none
 | n+1,F,H,D,E=>ph L F H D E z (λF H D E=>lC L z C n F H D E) C
theorem xP(L:Nat)(K:KT Y):∀ (n:Nat) (D E:Ls) (z C:Int),dX (cC jP (jU L) 0 L tK) u4 n (mY D E z C) K=lC L (λF=>K .ret (uM F)) (K (.exit 0) (wm)) n D E z C:=by
 intro n; induction n <;> intros
 ·rfl
 ·exact (HK ..).trans (by simp only [*]; rfl)
def xG(L:Nat)(C D:Ls)(z:Bool->Ob Y):Ob Y:=CZ L C D z (λC D E F=>lC L (λH=>xJ L H z) (zn L z) L C D E F)
theorem RG(L:Nat)(z C:Ls)(k:KK Y):dj jP (jU L) L cf_law30_same [(V.sl 1 z),(V.sl 1 C)] [] k=xG L z C (λz=>k (V.sc (.bool z)) []):=by
 refine (Rs L z C k).trans ?_
 unfold xG
 first
  | (simp only [xP,D9,Fn]; done)
  | (simp only [xP]; rfl)
abbrev gX:=∀ (Y:Type),Nat->Ls->Ls->(Bool->Ob Y)->Ob Y
def dn:gX:=λY=>@xG Y
def DT(dn:gX)(L:Nat):Dk:=dA (AL 1) λz=>dA (AL 1) λC=>d0 λY k=>dn Y L z C (λz=>k (V.sc (.bool z)) [])
theorem P2(L:Nat):DK (DT dn L) (λ_=>dj jP (jU L) L cf_law30_same):=dk ik λz=>dk ik λC=>fC λ_ k=>RG L z C k
def cf_law30_ScanNext:CF:=cfD zk 4
def nM:CC:=eS [1,1,1,1,0,1,0,0] cf_law30_ScanNext.body
def pD:CC:=eS [1,1,1,1,1] cf_law30_ScanNext.body
def ii:Nat->Sh:=fP [(31,(.int .i64))]
def ig(dv:hF)(dF:iZ)(di:gQ)(dm:gU)(dg:hP)(dw:iD)(cr:eP)(dn:gX)(bN:cT)(bO:de)(L:Nat):CBC:=(d6 825 (mK bO L) (d6 824 (pH bN L) (d6 823 (DT dn L) (d6 822 (yd cr L) (d6 821 (Fp dw L) (d6 217 (Co dg L) (d6 814 (yq dm L) (d6 411 (y5 di L) (d6 225 (Iu dF L) (d6 813 (KZ dv L) noC))))))))))
def od:St->St:=fF 0 (bl 469762112 66) (bl 73642794620668575983 66)
def kw(D:Ls)(E F:Int)(H:List V)(z:Ls)(C:Int):St:=⟨(jn 6 ((V.ptr 6 0)::(jn 19 ((V.gs 1 D)::((QQe E)::((QQe F)::(jn 37 []))))))),(gn 6 ((.live true H)::(gn 11 ((.live false [(V.sl 1 z),(QQe C)])::(gn 47 [])))))⟩
def pV(D:Bool)(z:Ls)(C:Int):St:=⟨(jn 4 ((V.sc (.bool D))::(jn 61 []))),(gn 18 ((.live false [(V.sl 1 z),(QQe C)])::(gn 47 [])))⟩
def qz(D:List V)(z:Ls)(C:Int):St:=⟨(jn 6 ((V.ptr 6 0)::(jn 59 []))),(gn 6 ((.live true D)::(gn 11 ((.live false [(V.sl 1 z),(QQe C)])::(gn 47 [])))))⟩
abbrev tu(Y:Type):Type:=Ls->Int->Int->List V->Ls->Int->Ob Y
def wk(dv:hF)(dF:iZ)(di:gQ)(dm:gU)(dg:hP)(dw:iD)(cr:eP)(dn:gX)(bN:cT)(bO:de)(L:Nat)(F:Ls)(C:Int)(z:tu Y):Ob Y:=dv Y L  (dF Y L F (λH I=>di Y L (6:Int) H I (λJ M N=>dm Y L (WbO V.ag J) M N (λD O P=>chk ((WcJ D)=2/\0+2<=2) (lt (cD [(V.gs 3 ([]:Ls)),(V.gs 38 ([]:Ls))] 0 D) λQ=>dg Y L C (8:Int) (λE=>z (cz 1 2 [(QQe C),(QQe E)]) ((WcJ (cz 1 2 [(QQe C),(QQe E)]):Nat):Int) (0:Int) Q O P))))))
theorem Jn(dv:hF)(dF:iZ)(di:gQ)(dm:gU)(dg:hP)(dw:iD)(cr:eP)(dn:gX)(bN:cT)(bO:de)(L:Nat)(D:Ls)(E:Int)(k:KK Y):dj ii (ig dv dF di dm dg dw cr dn bN bO L) L cf_law30_ScanNext [(V.sl 1 D),(QQe E)] [] k=wk dv dF di dm dg dw cr dn bN bO L D E (λF H I J z C=>dX (cC ii (ig dv dF di dm dg dw cr dn bN bO L) 0 L nM) od L (kw F H I J z C) (cW 0 (dN (cC ii (ig dv dF di dm dg dw cr dn bN bO L) 0 L pD) (eo 0 (CF.res cf_law30_ScanNext) k)))):=by kernel_rfl
def lM(dv:hF)(dF:iZ)(di:gQ)(dm:gU)(dg:hP)(dw:iD)(cr:eP)(dn:gX)(bN:cT)(bO:de)(L:Nat)(I:Ls)(J H:Int)(F:List V)(z:Ls)(C:Int)(D:Bool->Ls->Int->Ob Y)(E:tu Y)(N:List V->Ls->Int->Ob Y):Ob Y:=ifb (decide (H<J)) (idx I H λO=>cI .i64 O 0 λM=>chk (0+2<=(WcJ F)) (dw Y L (WbO V.ag (WcK 2 F)) M (λP Q R=>chk (0+2<=(WcJ F)) (cr Y L (WbO V.ag (WcK 2 F)) M (λS T U=>ifb ((P:Int) != S) (D false z C) (ifb (!(R==U)) (D false z C) (dn Y L Q T (λc9=>ifb (!W) (D false z C) (lt (Wbf .i64 ((H:Int)+(1:Int))) λX=>E I J X F z C))))))))) (N F z C)
theorem Bs(dv:hF)(dF:iZ)(di:gQ)(dm:gU)(dg:hP)(dw:iD)(cr:eP)(dn:gX)(bN:cT)(bO:de)(L:Nat)(D:Ls)(E F:Int)(H:List V)(z:Ls)(C:Int)(X:St->Ob Y)(K:KT Y):cC ii (ig dv dF di dm dg dw cr dn bN bO L) 0 L nM (kw D E F H z C) (fO od X K)=lM dv dF di dm dg dw cr dn bN bO L D E F H z C (λI z C=>K .ret (pV I z C)) (λD E F H z C=>X (kw D E F H z C)) (λH z C=>K (.exit 0) (qz H z C)):=by kernel_rfl
def re(dv:hF)(dF:iZ)(di:gQ)(dm:gU)(dg:hP)(dw:iD)(cr:eP)(dn:gX)(bN:cT)(bO:de)(L:Nat)(E:Bool)(C:Ls)(D:Int)(z:Bool->Ob Y):Ob Y:=z E
theorem y7(dv:hF)(dF:iZ)(di:gQ)(dm:gU)(dg:hP)(dw:iD)(cr:eP)(dn:gX)(bN:cT)(bO:de)(L:Nat)(D:Bool)(z:Ls)(C:Int)(k:KK Y):(cW 0 (dN (cC ii (ig dv dF di dm dg dw cr dn bN bO L) 0 L pD) (eo 0 (CF.res cf_law30_ScanNext) k))) .ret (pV D z C)=re dv dF di dm dg dw cr dn bN bO L D z C (λE=>k (V.sc (.bool E)) []):=by kernel_rfl
def m8(dv:hF)(dF:iZ)(di:gQ)(dm:gU)(dg:hP)(dw:iD)(cr:eP)(dn:gX)(bN:cT)(bO:de)(L:Nat)(z:List V)(F:Ls)(H:Int)(C:Bool->Ob Y):Ob Y:=chk (0+2<=(WcJ z)) (bN Y L (WbO V.ag (WcK 2 z)) (λD=>chk (0+2<=(WcJ z)) (bO Y L (WbO V.ag (WcK 2 z)) (λE=>C ((D:Int)==E)))))
theorem zL(dv:hF)(dF:iZ)(di:gQ)(dm:gU)(dg:hP)(dw:iD)(cr:eP)(dn:gX)(bN:cT)(bO:de)(L:Nat)(D:List V)(z:Ls)(C:Int)(k:KK Y):(cW 0 (dN (cC ii (ig dv dF di dm dg dw cr dn bN bO L) 0 L pD) (eo 0 (CF.res cf_law30_ScanNext) k))) (.exit 0) (qz D z C)=m8 dv dF di dm dg dw cr dn bN bO L D z C (λE=>k (V.sc (.bool E)) []):=by kernel_rfl
def iS(dv:hF)(dF:iZ)(di:gQ)(dm:gU)(dg:hP)(dw:iD)(cr:eP)(dn:gX)(bN:cT)(bO:de)(L:Nat)(D:Bool->Ls->Int->Ob Y)(E:List V->Ls->Int->Ob Y):Nat->Ls->Int->Int->List V->Ls->Int->Ob Y
 | 0,_,_,_,_,_,_=>none
 | n+1,F,H,I,J,z,C=>lM dv dF di dm dg dw cr dn bN bO L F H I J z C D (λF H I J z C=>iS dv dF di dm dg dw cr dn bN bO L D E n F H I J z C) E
theorem q7(dv:hF)(dF:iZ)(di:gQ)(dm:gU)(dg:hP)(dw:iD)(cr:eP)(dn:gX)(bN:cT)(bO:de)(L:Nat)(K:KT Y):∀ (n:Nat) (E:Ls) (F H:Int) (D:List V) (z:Ls) (C:Int),dX (cC ii (ig dv dF di dm dg dw cr dn bN bO L) 0 L nM) od n (kw E F H D z C) K=iS dv dF di dm dg dw cr dn bN bO L (λI z C=>K .ret (pV I z C)) (λD z C=>K (.exit 0) (qz D z C)) n E F H D z C:=by
 intro n; induction n <;> intros
 ·rfl
 ·exact (Bs ..).trans (by simp only [*]; rfl)
def qA(dv:hF)(dF:iZ)(di:gQ)(dm:gU)(dg:hP)(dw:iD)(cr:eP)(dn:gX)(bN:cT)(bO:de)(L:Nat)(J:Ls)(M:Int)(D:Bool->Ob Y):Ob Y:=wk dv dF di dm dg dw cr dn bN bO L J M (λF H I E z C=>iS dv dF di dm dg dw cr dn bN bO L (λN z C=>re dv dF di dm dg dw cr dn bN bO L N z C D) (λE z C=>m8 dv dF di dm dg dw cr dn bN bO L E z C D) L F H I E z C)
theorem I4(dv:hF)(dF:iZ)(di:gQ)(dm:gU)(dg:hP)(dw:iD)(cr:eP)(dn:gX)(bN:cT)(bO:de)(L:Nat)(z:Ls)(C:Int)(k:KK Y):dj ii (ig dv dF di dm dg dw cr dn bN bO L) L cf_law30_ScanNext [(V.sl 1 z),(QQe C)] [] k=qA dv dF di dm dg dw cr dn bN bO L z C (λz=>k (V.sc (.bool z)) []):=by
 refine (Jn dv dF di dm dg dw cr dn bN bO L z C k).trans ?_
 unfold qA
 first
  | (simp only [q7,y7,zL]; done)
  | (simp only [q7]; rfl)
abbrev DC:=∀ (Y:Type),Nat->Ls->Int->(Bool->Ob Y)->Ob Y
def jM:DC:=λY=>@qA Y dv dF di dm dg dw cr dn bN bO
def wh(jM:DC)(L:Nat):Dk:=dA (AL 1) λz=>dA (AI .i64) λC=>d0 λY k=>jM Y L z C (λz=>k (V.sc (.bool z)) [])
theorem Jh(L:Nat):DK (wh jM L) (λ_=>dj ii (ig dv dF di dm dg dw cr dn bN bO L) L cf_law30_ScanNext):=dk ik λz=>dk gm λC=>fC λ_ k=>I4 dv dF di dm dg dw cr dn bN bO L z C k
end
end
section
variable {L:Nat}{s:ScT}{l:List (List Int)}{b:List Int}{w:OwT}
variable {Y:Type}
theorem s_0(s:ScT)(k:Ls->Option Y):cLd 3 (fE s) 0 k=k (s.tk.map jC):=j4 rfl k
theorem s_1(s:ScT)(k:Ls->Option Y):cLd 38 (fE s) 1 k=k (s.ow.map dC):=j4 rfl k
theorem s_c(s:ScT)(k:Option Y):chk (0+2<=(WcJ (fE s))) k=k:=bT (by simp [fE]) k
theorem s_d(s:ScT):WbO V.ag (WcK 2 (fE s))=fE s:=rfl
theorem k_r(t:TkT)(k:Int->Option Y):cI .i64 (WcM 2 (jC t)) 0 k=k t.r:=eQ rfl k
theorem WI(t:TkT)(k:Int->Option Y):cI .i64 (jC t) 2 k=k t.r:=eQ rfl k
theorem k_s(t:TkT)(k:Ls->Option Y):cL 1 (jC t) 0 k=k (eB .u8 t.aA):=rC rfl k
theorem We(t:TkT)(k:Ls->Option Y):cLd 1 (jC t) 0 k=k (eB .u8 t.aA):=j4 rfl k
theorem k_c(t:TkT)(k:Option Y):chk ((WcJ (WcK 3 (jC t)))=3/\0+3<=3) k=k:=bT ⟨rfl,by omega⟩ k
theorem Px(t:TkT):cD [(V.gs 1 ([]:Ls)),(QQe (0:Int)),(QQe (0:Int))] 0 (WcK 3 (jC t))=jC t:=rfl
def AH(o:Int)(t:TkT):Int:=if o<0 then t.r else if t.r<o then t.r else o
def gY(l:List TkT):Int:=l.foldl AH (-1)
theorem RY(L:Nat)(s:ScT)(hn:s.tk.length<=1000000)(kx:Int->Option Y):∀ (n i:Nat) (o:Int),i<=s.tk.length->s.tk.length-i<n ->
  lk L kx n o (i:Int) (fE s)=kx ((s.tk.drop i).foldl AH o):=by
 intro n
 induction n with
 | zero=>intro i o h1 h2; omega
 | succ n ih=>
  intro i o h1 h2;simp only [lk,qv,s_0,WcO,cH];by_cases h:i<s.tk.length
  ·rw [dt (by omega)];simp only [fe (fm h),k_r,up (show i<=1000000000 by omega)];rw [WaM h,WcS];by_cases ho:o<0
   ·rw [dt ho,ih (i+1) _ (by omega) (by omega)];simp only [AH,if_pos ho]
   ·rw [du ho];by_cases hr:s.tk[i].r<o
    ·rw [dt hr,ih (i+1) _ (by omega) (by omega)];simp only [AH,if_neg ho,if_pos hr]
    ·rw [du hr,ih (i+1) _ (by omega) (by omega)];simp only [AH,if_neg ho,if_neg hr]
  ·rw [du (by omega),WaD (by omega)]; rfl
theorem yf(hL:2000000<=L)(hn:s.tk.length<=1000000)(k:Int->Option Y):bO Y L (fE s) k=k (gY s.tk):=by
 simp only [bO,sI,xz];rw [show (0:Int)=((0:Nat):Int) from rfl,RY L s hn _ L 0 _ (by omega) (by omega),WcP];rfl
theorem Pn(L:Nat)(l:List TkT)(hn:l.length<=1000000)(hp:∀ t∈l,0<=t.r)(kx:Int->Option Y):∀ (n i:Nat) (o:Int),0<=o->i<=l.length->l.length-i<n ->
  li L kx n o (l.map jC) (l.length:Int) (i:Int)=kx ((l.drop i).foldl AH o):=by
 intro n
 induction n with
 | zero=>intro i o h0 h1 h2; omega
 | succ n ih=>
  intro i o h0 h1 h2;simp only [li,qB,cH];by_cases h:i<l.length
  ·rw [dt (by omega)];simp only [fe (fm h),k_c,Px,WI,up (show i<=1000000000 by omega)];have hr:=hp _ (WaV h);rw [WaM h,WcS,ih (i+1) _ (by unfold JR; split <;> omega) (by omega) (by omega)];simp only [AH,JR,if_neg (show ¬ o<0 by omega)]
  ·rw [du (by omega),WaD (by omega)]; rfl
theorem FS(hL:2000000<=L)(hn:s.tk.length<=1000000)(hp:∀ t∈s.tk,0<=t.r)(k:Int->Option Y):bN Y L (fE s) k=k (gY s.tk):=by
 simp only [bN,uA,Am,s_0,WcO];cases hs:s.tk with
 | nil=>rw [fd (by simp)]; rfl
 | cons t l=>
  rw [eA (by simp; omega)];have h0:=hp t (by rw [hs]; simp);simp only [List.map_cons];rw [show (0:Int)=((0:Nat):Int) from rfl,fe (es:=jC t::l.map jC) (j:=0) rfl];simp only [k_r];have:=Pn L (t::l) (by rw [<- hs]; exact hn) (by rw [<- hs]; exact hp) (λp3=>mh L p3 k) L 0 t.r h0 (by omega) (by rw [hs] at hn; omega);rw [List.map_cons] at this;rw [this,WcP,WcS];simp only [mh,gY,WcS];congr 2;simp only [AH,if_neg (show ¬ t.r<0 by omega),Int.lt_irrefl,if_false,if_pos (show (-1:Int)<0 by omega)]
theorem VP:∀ (l:List TkT) (o:Int),(∀ t∈l,0<=t.r)->(0<=o∨l≠[])->0<=l.foldl AH o
 | [],o,_,h=>by simpa using h
 | t::l,o,hp,_=>by
  have h0:=hp t (by simp);refine VP l _ (λx hx=>hp x (by simp [hx])) (.inl ?_);unfold AH; split
  ·exact h0
  ·split <;> omega
def dT(l:List (List Int)):Ls:=l.map λb=>[V.sl 1 (eB .u8 b)]
theorem wY(l:List (List Int)):(dT l).length=l.length:=by simp [dT]
theorem La{i:Nat}(h:i<l.length):(dT l)[i]?=some [V.sl 1 (eB .u8 l[i])]:=by simp [dT,h]
theorem EJ(b:List Int):cz 1 1 [(V.sl 1 (eB .u8 b))]=dT [b]:=rfl
theorem Ey(l:List (List Int))(b:List Int):dT l++dT [b]=dT (l++[b]):=by simp [dT]
theorem Fj(h:l.length<=10000000)(b:List Int)(k:Option Y):chk ((WcJ (dT l)+WcJ (dT [b]))*24<=cy/\WcJ (dT l)+WcJ (dT [b])<=cy) k=k:=
 bT (by simp only [wY,List.length_cons,WcT,cy]; omega) k
def oX(r:Int)(l:List TkT):List (List Int):=(l.filter λt=>t.r==r).map (·.aA)
theorem zc2(r:Int)(l:List TkT):(oX r l).length<=l.length:=by simp only [oX,WcO]; exact List.length_filter_le _ _
theorem Fb(r:Int)(t:TkT)(l:List TkT):oX r (t::l)=if t.r=r then t.aA::oX r l else oX r l:=by
 simp only [oX,List.filter_cons];by_cases h:t.r=r
 ·simp [h]
 ·simp [h,beq_eq_false_iff_ne.2 h]
theorem Ws(hL:2000000<=L)(s:ScT)(hn:s.tk.length<=1000000)(kx:Ls->Option Y):∀ (n i:Nat) (a:List (List Int)),i<=s.tk.length->s.tk.length-i<n->a.length<=i ->
  nK bO L kx n (dT a) (i:Int) (fE s)=kx (dT (a++oX (gY s.tk) (s.tk.drop i))):=by
 intro n
 induction n with
 | zero=>intro i o h1 h2; omega
 | succ n ih=>
  intro i a h1 h2 h3;simp only [nK,wx,s_0,WcO,cH,s_c,s_d];by_cases h:i<s.tk.length
  ·rw [dt (by omega)];simp only [fe (fm h),k_r,k_s,yf hL hn,up (show i<=1000000000 by omega),EJ,Fj (show a.length<=10000000 by omega),Ey];rw [WaM h,Fb];by_cases hr:s.tk[i].r=gY s.tk
   ·rw [fd hr,ih (i+1) _ (by omega) (by omega) (by simp; omega),if_pos hr,List.append_assoc]; rfl
   ·rw [eA hr,ih (i+1) _ (by omega) (by omega) (by omega),if_neg hr]
  ·rw [du (by omega),WaD (by omega)];simp [oX]
theorem Js(hL:2000000<=L)(hn:s.tk.length<=1000000)(k:Ls->Option Y):dc Y L (fE s) k=k (dT (oX (gY s.tk) s.tk)):=by
 simp only [dc,AD,FP];have:=Ws hL s hn (λp3=>tP bO L p3 k) L 0 [] (by omega) (by omega) (by simp);rw [show dT []=([]:Ls) from rfl,WcP,WcQ] at this;exact this
theorem Xq(l:List (List Int))(hn:l.length<=10000000)(hl:∀ b∈l,dG b)(hb:dG b)(kr:Bool->Option Y)(kx:Option Y):∀ (n i:Nat),i<=l.length->l.length-i<n ->
  oz dq L kr kx n (dT l) (eB .u8 b) (i:Int)=ifb ((l.drop i).any λx=>decide (x=b)) (kr true) kx:=by
 intro n
 induction n with
 | zero=>intro i h1 h2; omega
 | succ n ih=>
  intro i h1 h2;simp only [oz,yL,wY,cH,dq,DW];by_cases h:i<l.length
  ·rw [dt (by omega),fe (La h),rC rfl,qf,qf,VK (hl _ (WaV h)) hb,up (by omega),zcN h,ih (i+1) (by omega) (by omega)];by_cases hx:l[i]=b
   ·rw [dt hx,decide_eq_true hx,Bool.true_or]; rfl
   ·rw [du hx,decide_eq_false hx,Bool.false_or]
  ·rw [du (by omega),WaD (by omega)]; rfl
def jN(l:List (List Int))(b:List Int):Bool:=l.any λx=>decide (x=b)
theorem VE(hL:20000000<=L)(hn:l.length<=10000000)(hl:∀ b∈l,dG b)(hb:dG b)(k:Bool->Option Y):bM Y L (dT l) (eB .u8 b) k=k (jN l b):=by
 simp only [bM,Ar,FI];rw [show (0:Int)=((0:Nat):Int) from rfl,Xq l hn hl hb _ _ L 0 (by omega) (by omega),WcP];simp only [tg,uV,jN];cases l.any _ <;> rfl
def le4(x:Int):List Int:=[Wbf .u8 (JV .u64 x 0),Wbf .u8 (JV .u64 x 8),Wbf .u8 (JV .u64 x 16),Wbf .u8 (JV .u64 x 24)]
theorem zeC(n:Nat)(x:Int)(k:Ls->Option Y):fS Y (n+6) x 4 k=k (eB .u8 (le4 x)):=by kernel_rfl
theorem zev(n:Nat)(x:Int)(k:Ls->Option Y):fU Y (n+6) x 4 k=k (eB .u8 (le4 x)):=by kernel_rfl
def GY(w:OwT):List Int:=w.h++le4 (Wbf .u64 w.ix)
theorem Ww(L:Nat)(a b:List Int)(h:a.length+b.length<=1000000)(k:Ls->Option Y):cA Y L (eB .u8 a) (eB .u8 b) k=k (eB .u8 (a++b)):=by
 simp only [cA,ud,jl,cH];rw [kK (by omega) (by omega),bT (by simp only [cy]; omega),bT (by simp only [cy,Wad,WcT]; omega),
  WcU,WcQ,bT (by rw [jl]; simp only [cy]; omega),Dw]
theorem WM(L:Nat)(a b:List Int)(h:a.length+b.length<=1000000)(k:Ls->Option Y):dP Y L (eB .u8 a) (eB .u8 b) k=k (eB .u8 (a++b)):=by
 simp only [dP,zI,jl,cH];rw [kK (by omega) (by omega),bT (by simp only [cy]; omega),bT (by simp only [cy,Wad,WcT]; omega),
  WcU,WcQ,bT (by rw [jl]; simp only [cy]; omega),Dw]
theorem zbl{kd:IntKind}{l:List Int}(h:l≠[]):(row kd l).isEmpty=false:=by
 cases l with
 | nil=>exact absurd rfl h
 | cons x l=>rfl
theorem zdk(hL:6<=L)(h:w.h.length=32)(k:Ls->Option Y):dp Y L (gF w) k=k (eB .u8 (GY w)):=by
 obtain ⟨n,rfl⟩:∃ n,L=n+6:=⟨L-6,by omega⟩;simp only [dp,BN];have ht:WcK 32 (gF w)=row .u8 w.h:=by unfold gF; exact List.take_left' (by rw [fV,h])
 have hi:(gF w)[32]?=some (QQc w.ix):=by
  unfold gF; rw [Wal (by rw [fV]; omega),fV,h]; rfl
 rw [bT (by rw [i5 h]; omega),ht];simp only [eZ,tB];rw [bT (by rw [fV]; omega),zbl (by intro e; rw [e] at h; simp at h),eC,In .u8 32 w.h (by omega),WbR (by omega),
  show ([]:Ls)=eB .u8 [] from rfl,Ww _ _ _ (by simp [h]),WcQ,eQ hi]
 simp only [fh,uR,cH,zeC];rw [Ww _ _ _ (by simp [h,le4])]; rfl
theorem zeN(hL:6<=L)(h:w.h.length=32)(k:Ls->Option Y):cQ Y L (gF w) k=k (eB .u8 (GY w)):=by
 obtain ⟨n,rfl⟩:∃ n,L=n+6:=⟨L-6,by omega⟩;simp only [cQ,Iv];have ht:WcK 32 (gF w)=row .u8 w.h:=by unfold gF; exact List.take_left' (by rw [fV,h])
 have hi:(gF w)[32]?=some (QQc w.ix):=by
  unfold gF; rw [Wal (by rw [fV]; omega),fV,h]; rfl
 rw [bT (by rw [i5 h]; omega),ht];simp only [e7,tV];rw [bT (by rw [fV]; omega),zbl (by intro e; rw [e] at h; simp at h),eC,In .u8 32 w.h (by omega),WbR (by omega),
  show ([]:Ls)=eB .u8 [] from rfl,WM _ _ _ (by simp [h]),WcQ,eQ hi]
 simp only [ff,u5,cH,zev];rw [WM _ _ _ (by simp [h,le4])]; rfl
end
section
variable {b:List Int}{L:Nat}{s:ScT}{w:OwT}
variable {Y:Type}
def sk(b:List Int):V:=.sc (.string ⟨(bts b).toArray⟩)
theorem Yb{a:List Int}(ha:dG a)(hb:dG b):uf (sk a) (sk b)=some (decide (a=b)):=by
 show some ((⟨(bts a).toArray⟩:ByteArray)==⟨(bts b).toArray⟩)=_;have e:((⟨(bts a).toArray⟩:ByteArray)==⟨(bts b).toArray⟩)=((bts a).toArray==(bts b).toArray):=rfl;rw [e];by_cases h:a=b
 ·subst h; simp
 ·rw [decide_eq_false h];congr 1;refine beq_eq_false_iff_ne.2 λe=>h ((S5 ha hb).1 ?_);simpa using congrArg Array.toList e
structure ScOk (s:ScT):Prop where
 tk:∀ t∈s.tk,TkOk t
 tl:s.tk.length<=1000
 ow:∀ w∈s.ow,OwOk w
 ol:s.ow.length<=4096
theorem Xh(s:ScT)(hs:∀ t∈s.tk,dG t.aA)(hn:s.tk.length<=1000000)(hb:dG b)(kr:Int->Option Y)(kx:Option Y):∀ (n i:Nat),i<=s.tk.length->s.tk.length-i<n ->
  nE L kr kx n (eB .u8 b) (i:Int) (fE s)=ifb (decide (lH (λt:TkT=>decide (t.aA=b)) (s.tk.drop i) i>=0)) (kr (lH (λt:TkT=>decide (t.aA=b)) (s.tk.drop i) i)) kx:=by
 intro n
 induction n with
 | zero=>intro i h1 h2; omega
 | succ n ih=>
  intro i h1 h2;simp only [nE,wu,s_0,WcO,cH];by_cases h:i<s.tk.length
  ·rw [dt (by omega),fe (fm h),k_s,qf,qf,VK (hs _ (WaV h)) hb,up (by omega),ih (i+1) (by omega) (by omega),WaM h];rw [show lH (λt:TkT=>decide (t.aA=b)) (s.tk[i]::WcM (i+1) s.tk) i=if decide (s.tk[i].aA=b)=true then (i:Int) else lH (λt:TkT=>decide (t.aA=b)) (WcM (i+1) s.tk) (i+1) from rfl];by_cases hx:s.tk[i].aA=b
   ·rw [dt hx,if_pos (by simp [hx]),dt (by omega)]
   ·rw [du hx,if_neg (by simp [hx])]
  ·rw [du (by omega),WaD (by omega),du (by simp [lH])]
theorem LU(hL:2000000<=L)(hs:∀ t∈s.tk,dG t.aA)(hn:s.tk.length<=1000000)(hb:dG b)(k:Int->Option Y):ck Y L (fE s) (eB .u8 b) k=k (lH (λt:TkT=>decide (t.aA=b)) s.tk 0):=by
 simp only [ck,xB,Dz];rw [show (0:Int)=((0:Nat):Int) from rfl,Xh s hs hn hb _ _ L 0 (by omega) (by omega),WcP];rcases w5 (λt:TkT=>decide (t.aA=b)) s.tk 0 with ⟨e,_⟩ | ⟨i,hi,e,_⟩
 ·rw [e,du (by omega)]; rfl
 ·rw [e,dt (by omega)]; rfl
theorem zf8(hL:2000000<=L)(hs:ScOk s)(hb:dG b)(k:Int->Option Y):ck Y L (fE s) (eB .u8 b) k=k (lH (λt:TkT=>decide (t.aA=b)) s.tk 0):=
 LU hL (λt ht=>(hs.tk t ht).s) (by have:=hs.tl; omega) hb k
theorem zbh(h:w.h.length=32){i:Nat}(hi:i<32):(gF w)[i]?=some (QQa w.h[i]):=by
 unfold gF;rw [List.getElem?_append_left (by rw [fV]; omega)];simp [row,h,hi]
theorem LC(h:w.h.length=32):(gF w)[32]?=some (QQc w.ix):=by
 unfold gF;rw [Wal (by rw [fV]; omega),fV,h]; rfl
def pt:List Int->List Int->Int
 | x::l,y::m=>if x<y then -1 else if y<x then 1 else pt l m
 | _,_=>0
theorem Xf:∀ (l m:List Int) (i j:Int),l.length=m.length->pt (l++[i]) (m++[j])=if pt l m=0 then (if i<j then -1 else if j<i then 1 else 0) else pt l m
 | [],[],i,j,_=>by simp [pt]
 | x::l,y::m,i,j,h=>by
  have ih:=Xf l m i j (by simpa using h);simp only [List.cons_append,pt];by_cases h1:x<y
  ·simp [h1]
  ·by_cases h2:y<x
   ·simp [h1,h2]
   ·simp only [h1,h2,if_false,ih]
def ptL(w:OwT):List Int:=w.h++[w.ix]
theorem Ul{L:Nat}{w v:OwT}(hw:w.h.length=32)(hv:v.h.length=32)(kr:Int->Option Y)(kx:List V->List V->Option Y):∀ (n i:Nat),i<=32->32-i<n ->
  kj L kr kx n (i:Int) (gF w) (gF v)=if pt (w.h.drop i) (v.h.drop i)=0 then kx (gF w) (gF v) else kr (pt (w.h.drop i) (v.h.drop i))
 | 0,i,h1,h2=>by omega
 | n+1,i,h1,h2=>by
  by_cases h:i<32
  ·have hb:0+(WcL (i:Int))*1=i:=by simp
   have h32:(0:Int)<=(i:Int)/\(i:Int)<((32:Nat):Int):=by omega
   have hwi:=zbh hw (show i<32 by omega);have hvi:=zbh hv (show i<32 by omega);rw [kj,nR,dt (by omega),bT h32,hb,eQ hwi,bT h32,eQ hvi,bT h32,eQ hwi,bT h32,eQ hvi,cH,up (by omega),Ul hw hv kr kx n (i+1) (by omega) (by omega),WaM (by omega:i<w.h.length),WaM (by omega:i<v.h.length)];by_cases c1:w.h[i]<v.h[i]
   ·have ec:pt (w.h[i]::WcM (i+1) w.h) (v.h[i]::WcM (i+1) v.h)=-1:=by simp only [pt,if_pos c1]
    rw [dt c1,ec,if_neg (by omega)]
   by_cases c2:w.h[i]>v.h[i]
   ·have ec:pt (w.h[i]::WcM (i+1) w.h) (v.h[i]::WcM (i+1) v.h)=1:=by simp only [pt,if_neg c1]; rw [if_pos c2]
    rw [du c1,dt c2,ec,if_neg (by omega)]
   ·have ec:pt (w.h[i]::WcM (i+1) w.h) (v.h[i]::WcM (i+1) v.h)=pt (WcM (i+1) w.h) (WcM (i+1) v.h):=by simp only [pt,if_neg c1]; rw [if_neg c2]
    rw [du c1,du c2,ec]
  ·rw [kj,nR,du (by omega),WaD (by omega),WaD (by omega)]; rfl
theorem ZF(hL:40<=L){v:OwT}(hw:w.h.length=32)(hv:v.h.length=32)(k:Int->Option Y):fu Y L (gF w) (gF v) k=k (pt (ptL w) (ptL v)):=by
 simp only [fu,sJ,yT];refine (Ul hw hv _ _ L 0 (by omega) (by omega)).trans ?_;unfold ptL;rw [Xf _ _ _ _ (by omega),WcP,WcP];split
 ·rename_i h;rw [pF,eQ (LC hw),eQ (LC hv),eQ (LC hw),eQ (LC hv)];by_cases h1:w.ix<v.ix
  ·rw [dt h1,if_pos h1]
  by_cases h2:w.ix>v.ix
  ·rw [du h1,dt h2,if_neg h1,if_pos h2]
  ·rw [du h1,du h2,if_neg h1,if_neg h2]
 ·rfl
def LS(w v:OwT):Bool:=decide (pt (ptL w) (ptL v)<0)||(decide (pt (ptL w) (ptL v)=0)&&decide (w.ht<v.ht))
theorem TZ(hL:40<=L){v:OwT}(hw:w.h.length=32)(hv:v.h.length=32)(k:Bool->Option Y):bQ Y L (dC w) (dC v) k=k (LS w v):=by
 simp only [bQ,zx];rw [bT (by rw [fM hw]; omega),bT (by rw [fM hv]; omega),pX hw,pX hv,ZF hL hw hv,eQ (kl hw 2),eQ (kl hv 2)];unfold LS;by_cases h1:pt (ptL w) (ptL v)<0
 ·rw [dt h1,decide_eq_true h1,Bool.true_or]
 by_cases h2:pt (ptL w) (ptL v)=0
 ·rw [du h1,fd h2,decide_eq_false h1,decide_eq_true h2,Bool.false_or,WcV]
 ·rw [du h1,eA h2,decide_eq_false h1,decide_eq_false h2]; rfl
theorem zat{v:OwT}(hw:w.h.length=32)(hv:v.h.length=32):∃ b:Bool,∀ (L:Nat),40<=L->∀ (Y:Type) (k:Bool->Option Y),bQ Y L (dC w) (dC v) k=k b:=⟨_,λL hL Y k=>TZ hL hw hv k⟩
theorem Lu(h:w.h.length=32):cD (Wad 32 (QQa (0:Int))++[(QQc (0:Int)),(QQe (0:Int)),(V.gs 1 ([]:Ls)),(QQe (0:Int)),(V.sc (.bool false)),(QQe (0:Int))]) 0 (dC w)=dC w:=ke (by rw [fM h]; rfl)
theorem VT(h:w.h.length=32):cD (Wad 32 (QQa (0:Int))++[(QQc (0:Int)),(QQe (0:Int)),(V.sl 1 ([]:Ls)),(QQe (0:Int)),(V.sc (.bool false)),(QQe (0:Int))]) 0 (dC w)=dC w:=ke (by rw [fM h]; rfl)
def zan(w v:OwT):Bool:=LS w v&&(!EP w v||(!(w.sp==0)&&!decide (w.sp>v.ht)))
def AU:List OwT->Bool
 | a::b::l=>zan a b&&AU (b::l)
 | _=>true
theorem PF{l:List OwT}(hl:∀ w∈l,w.h.length=32)(hn:l.length<=1000000){L:Nat}(hL:40<=L)(kr:Bool->Option Y)(kx:Option Y):∀ (n i:Nat),1<=i->l.length-i<n ->
  lx bQ L kr kx n (l.map dC) (i:Int)=ifb (AU (l.drop (i-1))) kx (kr false)
 | 0,i,h0,hi=>by omega
 | n+1,i,h0,hi=>by
  by_cases hil:i<l.length
  ·have hj:i-1<l.length:=by omega
   have ha:=hl _ (WaV hj);have hb:=hl _ (WaV hil);have e1:Wbf .i64 ((i:Int)-1)=((i-1:Nat):Int):=by rw [kK (by omega) (by omega)]; omega
   rw [lx,pn,WcO,dt (by omega),e1,cH,fe (fm hj),fe (fm hil),kJ ha,kJ hb,bT ⟨fM ha,by omega⟩,Lu ha,cH,bT ⟨fM hb,by omega⟩,Lu hb,cH,bT (by rw [fM ha]; omega),bT (by rw [fM hb]; omega),kJ ha,kJ hb,z9,z9,TZ hL ha hb,
    bT (by rw [fM ha]; omega),bT (by rw [fM hb]; omega),pX ha,pX hb,NP ha hb,eQ (kl ha 4),eQ (kl ha 4),eQ (kl hb 2),cH,up (by omega),PF hl hn hL kr kx n (i+1) (by omega) (by omega)]
   rw [Nat.add_sub_cancel,WaM hj,show i-1+1=i by omega,WaM hil,AU,zan];cases LS l[i-1] l[i] with
   | false=>rfl
   | true=>
    cases EP l[i-1] l[i] with
    | false=>rfl
    | true=>
     by_cases h1:l[i-1].sp=0
     ·rw [WcR,eC,gV,fd h1,beq_iff_eq.2 h1]; rfl
     by_cases h2:l[i-1].sp>l[i].ht
     ·rw [WcR,eC,gV,eA h1,dt h2,decide_eq_true h2]; simp only [WcR,Bool.and_false,Bool.or_false,Bool.false_and]; rfl
     ·rw [WcR,eC,gV,eA h1,du h2,decide_eq_false h2,beq_eq_false_iff_ne.2 h1]; rfl
  ·rw [lx,pn,WcO,du (by omega)];have:AU (l.drop (i-1))=true:=by
    match h:l.drop (i-1) with
    | []=>rfl
    | [_]=>rfl
    | _::_::_=>have:=congrArg WcJ h; simp at this; omega
   rw [this,gV]
theorem zcT{l:List OwT}(hl:∀ w∈l,w.h.length=32)(hn:l.length<=1000000)(hL:2000000<=L)(k:Bool->Option Y):cv Y L (l.map dC) k=k (AU l):=by
 simp only [cv,vT,Bv];refine (PF hl hn (by omega) _ _ L 1 (by omega) (by omega)).trans ?_;rw [show (1:Nat)-1=0 from rfl,WcP];cases AU l <;> rfl
end
section
variable {w:OwT}{s:ScT}
variable {Y:Type}
theorem ZK{γ:Type}(c:Bool)(k:γ->Option Y)(a b:γ):ifb c (k a) (k b)=k (cond c a b):=by cases c <;> rfl
theorem zf9(a b:Bool)(x y:Option Y):ifb a x (ifb b x y)=ifb (a||b) x y:=by cases a <;> cases b <;> rfl
theorem WP(L:Nat)(a b c:Int)(k:Bool->Option Y):cd Y L a b c k=k (cond (decide (a>=b)) (decide (a<=c)) false):=by
 simp only [cd,H3,ZK]
theorem zhU(L:Nat)(a b c:Int)(k:Bool->Option Y):hI Y L a b c k=k (cond (decide (a>=b)) (decide (a<=c)) false):=by
 simp only [hI,HT,ZK]
theorem X1{a b c:Int}(h:(cond (decide (a>=b)) (decide (a<=c)) false)=true):b<=a/\a<=c:=by
 by_cases h1:a>=b
 ·rw [decide_eq_true h1] at h; exact ⟨h1,of_decide_eq_true h⟩
 ·rw [decide_eq_false h1] at h; cases h
theorem KP(h:w.h.length=32)(j:Nat)(hj:j<4):(WcK 37 (dC w))[33+j]?=(Ho w)[j]?:=by
 rw [List.getElem?_take_of_lt (by omega),kl h]
theorem XX(h:w.h.length=32):(WcK 37 (dC w)).length=37:=by rw [List.length_take,fM h]; rfl
def GF(w:OwT)(x:Int):Bool:=cond (decide (w.val>=0)) (cond (decide (w.val<=2100000000000000)) (cond (decide (((w.aA.length:Nat):Int)<=520)) (cond (cond (decide (w.ht>=1)) (decide (w.ht<=x)) false) (cond (w.sp==0) true (cond (decide (w.sp>=w.ht)) (decide (w.sp<=x)) false)) false) false) false) false
theorem zaY(hw:w.h.length=32)(x:Int)(L:Nat)(k:Bool->Option Y):cm Y L (dC w) x k=k (GF w x):=by
 simp only [cm,zN,zhU,GF];rw [bT (by rw [fM hw]; omega),bT ⟨XX hw,by omega⟩,ke (by rw [XX hw]; rfl),cH,eQ (KP hw 0 (by omega)),eQ (KP hw 0 (by omega)),j4 (KP hw 1 (by omega)),eQ (KP hw 2 (by omega)),eQ (kl hw 4),eQ (kl hw 4),eQ (KP hw 2 (by omega)),jl];simp only [ZK]
structure ScW (s:ScT):Prop where
 tk:∀ t∈s.tk,dG t.aA
 tl:s.tk.length<=100000
 ow:∀ w∈s.ow,OwOk w
 ol:s.ow.length<=90000
theorem ScOk.w(h:ScOk s):ScW s:=⟨λt ht=>(h.tk t ht).s,by have:=h.tl; omega,h.ow,by have:=h.ol; omega⟩
theorem zaP{α:Type}(p:α->Bool)(l:List α):(lH p l 0=-1/\l.find? p=none)∨∃ (j:Nat),∃ h:j<l.length,lH p l 0=(j:Int)/\l.find? p=some l[j]:=by
 rcases w5 p l 0 with ⟨e,h⟩ | ⟨i,hi,e,h1,h2⟩
 ·exact .inl ⟨e,List.find?_eq_none.2 λx hx=>by simp [h x hx]⟩
 ·refine .inr ⟨i,hi,by simpa using e,List.find?_eq_some_iff_getElem.2 ⟨h2,i,hi,rfl,λj hj=>?_⟩⟩;have:l[j]∈l.take i:=List.mem_take_iff_getElem.2 ⟨j,by omega,rfl⟩;simp [h1 _ this]
def On(s:ScT)(w:OwT):Bool:=match s.tk.find? (λt=>decide (t.aA=w.aA)) with
 | none=>false
 | some t=>!decide (w.ht<t.b)&&GF w t.r
theorem YA{s:ScT}(hs:ScW s){L:Nat}(hL:2000000<=L)(kr:Bool->Option Y)(kx:Option Y):∀ (n i:Nat),s.ow.length-i<n ->
  jp cv cd ck cm L kr kx n (i:Int) (fE s)=ifb ((s.ow.drop i).all (On s)) kx (kr false)
 | 0,i,hi=>by omega
 | n+1,i,hi=>by
  by_cases hil:i<s.ow.length
  ·have hol:=hs.ol;have hw:=hs.ow _ (WaV hil);have hsc:(WcM 1 (WcM 33 (dC s.ow[i])))[0]?=some (V.sl 1 (eB .u8 s.ow[i].aA)):=by rw [TI hw.hl]; rfl
   have h35:(WcM 35 (dC s.ow[i]))[0]?=some (QQe s.ow[i].ht):=by rw [List.getElem?_drop]; exact kl hw.hl 2
   rw [zda hil];have htl:=hs.tl;rcases zaP (λt:TkT=>decide (t.aA=s.ow[i].aA)) s.tk with ⟨e,e2⟩ | ⟨j,hj,e,e2⟩
   ·have:On s s.ow[i]=false:=by simp only [On,e2]
    rw [jp,lS,s_1,WcO,dt (by omega),s_c,s_1,fe (fm hil),rC hsc,s_d,LU hL hs.tk (by omega) hw.s,e,dt (by omega),this]; rfl
   ·have:On s s.ow[i]=(!decide (s.ow[i].ht<s.tk[j].b)&&GF s.ow[i] s.tk[j].r):=by simp only [On,e2]
    rw [jp,lS,s_1,WcO,dt (by omega),s_c,s_1,fe (fm hil),rC hsc,s_d,LU hL hs.tk (by omega) hw.s,e,du (by omega),s_1,fe (fm hil),eQ h35,s_0,fe (fm hj),eQ (n:=s.tk[j].b) rfl,s_1,fe (fm hil),s_0,fe (fm hj),k_r,kJ hw.hl,z9,zaY hw.hl,cH,up (by omega),YA hs hL kr kx n (i+1) (by omega),this];cases decide (s.ow[i].ht<s.tk[j].b) <;> cases GF s.ow[i] s.tk[j].r <;> rfl
  ·rw [jp,lS,s_1,WcO,du (by omega),WaD (by omega)]; rfl
def zg9(s:ScT)(t:TkT)(i:Nat):Bool:=(((t.aA.length:Nat):Int)==0)||(decide (((t.aA.length:Nat):Int)>520)||((!cond (decide (t.b>=1)) (decide (t.b<=16777216)) false)||((!cond (decide (t.r>=Wbf .i64 (t.b-1))) (decide (t.r<=16777216)) false)||(lH (λu:TkT=>decide (u.aA=t.aA)) s.tk 0 != (i:Int)))))
def K7(s:ScT):List TkT->Nat->Bool
 | [],_=>true
 | t::l,i=>!zg9 s t i&&K7 s l (i+1)
theorem XM{s:ScT}(hs:ScW s){L:Nat}(hL:2000000<=L)(kr:Bool->Option Y)(kx:List V->Option Y):∀ (n i:Nat),s.tk.length-i<n ->
  kO cv cd ck cm L kr kx n (i:Int) (fE s)=ifb (K7 s (s.tk.drop i) i) (kx (fE s)) (kr false)
 | 0,i,hi=>by omega
 | n+1,i,hi=>by
  by_cases hil:i<s.tk.length
  ·have htl:=hs.tl;have ht:=hs.tk _ (WaV hil);have hb1:(jC s.tk[i])[1]?=some (QQe s.tk[i].b):=rfl;rw [kO,oJ,s_0,WcO,dt (by omega),s_0,fe (fm hil),k_c,Px,cH,We,We,eQ hb1,WP,WI,eQ hb1,cH,WP,s_c,We,s_d,LU hL hs.tk (by omega) ht,cH,up (by omega),jl,WaM hil,XM hs hL kr kx n (i+1) (by omega)];simp only [zf9];rw [K7,zg9];generalize ((((s.tk[i].aA.length:Nat):Int)==0)||(decide (((s.tk[i].aA.length:Nat):Int)>520)||((!cond (decide (s.tk[i].b>=1)) (decide (s.tk[i].b<=16777216)) false)||((!cond (decide (s.tk[i].r>=Wbf .i64 (s.tk[i].b-1))) (decide (s.tk[i].r<=16777216)) false)||(lH (λu:TkT=>decide (u.aA=s.tk[i].aA)) s.tk 0 != (i:Int))))))=c;cases c <;> rfl
  ·rw [kO,oJ,s_0,WcO,du (by omega),WaD (by omega)]; rfl
def zaF(s:ScT):Bool:=!decide (((s.tk.length:Nat):Int)>1000)&&(!decide (((s.ow.length:Nat):Int)>4096)&&(AU s.ow&&(K7 s s.tk 0&&s.ow.all (On s))))
theorem zch(hs:ScW s){L:Nat}(hL:2000000<=L)(k:Bool->Option Y):cF Y L (fE s) k=k (zaF s):=by
 have htl:=hs.tl;have hol:=hs.ol;simp only [cF,vW,BW,zaF];rw [s_0,WcO,s_1,WcO,s_1,zcT (λw hw=>(hs.ow w hw).hl) (by omega) hL];cases decide (((s.tk.length:Nat):Int)>1000);rotate_left
 ·rfl
 cases decide (((s.ow.length:Nat):Int)>4096);rotate_left
 ·rfl
 cases AU s.ow
 ·rfl
 simp only [WcR,Bool.not_false,eC,WcV];refine (XM hs hL _ _ L 0 (by omega)).trans ?_;rw [WcP];cases K7 s s.tk 0
 ·rfl
 rw [gV,WcV];refine (YA hs hL _ _ L 0 (by omega)).trans ?_;rw [WcP];cases s.ow.all (On s) <;> rfl
theorem Oj(hs:ScOk s):∃ b:Bool,∀ (L:Nat),2000000<=L->∀ (Y:Type) (k:Bool->Option Y),cF Y L (fE s) k=k b:=⟨_,λL hL Y k=>zch hs.w hL k⟩
end
end Go.Proofs.YtipklgbboecciaaGreat
