/- Part 13 of the proof of ScanNext: an abstract machine over plain values, its soundness, and the functions of the program on plain values. -/
import Derived.Test.YtipklgbboecciaaGreatMScanNext12
namespace Go.Proofs.YtipklgbboecciaaGreat
set_option maxRecDepth 100000
set_option linter.unusedVariables false
set_option linter.unusedSimpArgs false
open List renaming length->WcJ,take->WcK,replicate->Wad,drop->WcM,map->WbO,drop_eq_getElem_cons->WaM,length_map->WcO,drop_of_length_le->WaD,drop_zero->WcP,getElem_mem->WaV,getElem?_append_right->Wal,nil_append->WcQ,foldl_cons->WcS,flatten->WcN,length_nil->WcT,take_of_length_le->WbR,replicate_zero->WcU
open IntKind renaming wrap->Wbf
open Int renaming toNat->WcL
open Bool renaming not_true->WcR,true_and->WcV
section
noncomputable section
variable {Y:Type}
def GS:CF:=cfD Dj 47
def Am:Nat->Sh:=fQ [(7,(.int .u32))]
def zY(e7:mC)(ff:mV)(L:Nat):CBC:=(d6 159 (u7 ff L) (d6 160 (sO e7 L) noC))
def B2(e7:mC)(ff:mV)(L:Nat)(C:List V)(z:Ls->Ob Y):Ob Y:=chk (0+32<=(WcJ C)) (e7 Y L ([]:Ls) (WcK 32 C) (λD=>cI .u32 C 32 λE=>ff Y L D E (λF=>z F)))
theorem Ol(e7:mC)(ff:mV)(L:Nat)(z:List V)(k:KK Y):dj Am (zY e7 ff L) L GS [(V.agg z)] [] k=B2 e7 ff L z (λz=>k (V.gs 1 z) []):=by kernel_rfl
abbrev ip:=∀ (Y:Type),Nat->List V->(Ls->Ob Y)->Ob Y
def dp:ip:=λY=>@B2 Y e7 ff
def BV(dp:ip)(L:Nat):Dk:=dA AG λz=>d0 λY k=>dp Y L z (λz=>k (V.gs 1 z) [])
theorem Nt(L:Nat):DK (BV dp L) (λ_=>dj Am (zY e7 ff L) L GS):=dl fN λz=>fy λ_ k=>Ol e7 ff L z k
def cf_ref30_Next:CF:=cfD Ez 19
def qm:CC:=eS [1,1,1,1,0,1,0,0] cf_ref30_Next.body
def Cg:CC:=eS [1,1,1,1,1] cf_ref30_Next.body
def kC:Nat->Sh:=fQ [(11,(.sl 3)),(26,(.sl 38)),(32,(.sl 38)),(36,(.int .i64)),(43,(.sl 38)),(49,(.sl 1)),(54,(.sl 38))]
def kF(bO:de)(cZ:ic)(bM:dc)(dp:ip)(L:Nat):CBC:=(d6 138 (BV dp L) (d6 802 (vO bM L) (d6 837 (As cZ L) (d6 825 (mD bO L) noC))))
def rE:St->St:=fF 0 (bl 900 67) (bl 139502376157387423743 67)
def ml(z:Ls)(C D:Int)(E:List V):St:=⟨(jn 2 ((V.ptr 2 0)::(jn 4 ((V.gs 1 z)::((QQe C)::((QQe D)::(jn 57 []))))))),(gn 2 ((.live true E)::(gn 64 [])))⟩
def wN(z:Ls)(C:List V):St:=⟨(jn 2 ((V.ptr 2 0)::(jn 4 ((V.gs 1 z)::(jn 59 []))))),(gn 2 ((.live true C)::(gn 64 [])))⟩
def C9(bO:de)(cZ:ic)(bM:dc)(dp:ip)(L:Nat)(D:List V)(F:Int)(C:Int->Ls->Bool->Ob Y)(z:Ls->Int->Int->List V->Ob Y):Ob Y:=cLd 3 D 0 λH=>ifb ((((WcJ H:Nat):Int):Int)==(0:Int)) (C (0:Int) ([]:Ls) false) (chk (0+2<=(WcJ D)) (bO Y L (WbO V.ag (WcK 2 D)) (λI=>ifb (decide (I>=F)) (C (0:Int) ([]:Ls) false) (chk (0+2<=(WcJ D)) (cZ Y L (WbO V.ag (WcK 2 D)) (λE=>z E ((WcJ E:Nat):Int) (0:Int) D))))))
theorem QC(bO:de)(cZ:ic)(bM:dc)(dp:ip)(L:Nat)(E:List V)(F:Int)(k:KK Y):dj kC (kF bO cZ bM dp L) L cf_ref30_Next [(V.agg E),(QQe F)] [] k=C9 bO cZ bM dp L E F (λz C D=>k (V.ah [(QQe z),(V.gs 1 C),(V.sc (.bool D))]) []) (λH I J M=>dX (cC kC (kF bO cZ bM dp L) 0 L qm) rE L (ml H I J M) (cW 0 (dN (cC kC (kF bO cZ bM dp L) 0 L Cg) (eo 0 (CF.res cf_ref30_Next) k)))):=by kernel_rfl
def nW(bO:de)(cZ:ic)(bM:dc)(dp:ip)(L:Nat)(C:Ls)(F E:Int)(D:List V)(z:Ls->Int->Int->List V->Ob Y)(I:Ls->List V->Ob Y):Ob Y:=cLd 38 D 1 λS=>ifb (decide (E<((WcJ S:Nat):Int))) (cLd 38 D 1 λT=>idx T E λU=>cI .i64 (WcM 37 U) 0 λc9=>ifb ((c9:Int)==(0:Int)) (chk (0<=F/\F<=(((WcJ C):Nat):Int)) (cLd 38 D 1 λX=>idx X E λc8=>cL 1 (WcM 1 (WcM 33 c8)) 0 λb9=>bM Y L (WcK ((WcL F)-0) (WcM 0 C)) b9 (λJ=>ifb J (cLd 38 D 1 λM=>idx M E λN=>dp Y L (WcK 33 N) (λH=>chk ((WcJ C+WcJ (cz 1 1 [(V.sl 1 H)]))*24<=cy/\WcJ C+WcJ (cz 1 1 [(V.sl 1 H)])<=cy) (lt (C++(cz 1 1 [(V.sl 1 H)])) λO=>lt (Wbf .i64 ((E:Int)+(1:Int))) λP=>z O F P D))) (lt (Wbf .i64 ((E:Int)+(1:Int))) λQ=>z C F Q D)))) (lt (Wbf .i64 ((E:Int)+(1:Int))) λR=>z C F R D)) (I C D)
theorem F7(bO:de)(cZ:ic)(bM:dc)(dp:ip)(L:Nat)(z:Ls)(D E:Int)(C:List V)(X:St->Ob Y)(K:KT Y):cC kC (kF bO cZ bM dp L) 0 L qm (ml z D E C) (fO rE X K)=nW bO cZ bM dp L z D E C (λz D E C=>X (ml z D E C)) (λz C=>K (.exit 0) (wN z C)):=by kernel_rfl
def mL(bO:de)(cZ:ic)(bM:dc)(dp:ip)(L:Nat)(F:Ls)(C:List V)(z:Int->Ls->Bool->Ob Y):Ob Y:=chk (0+2<=(WcJ C)) (bO Y L (WbO V.ag (WcK 2 C)) (λD=>lt (Wbf .i64 ((D:Int)+(1:Int))) λE=>z E F true))
theorem DP(bO:de)(cZ:ic)(bM:dc)(dp:ip)(L:Nat)(E:Ls)(F:List V)(k:KK Y):(cW 0 (dN (cC kC (kF bO cZ bM dp L) 0 L Cg) (eo 0 (CF.res cf_ref30_Next) k))) (.exit 0) (wN E F)=mL bO cZ bM dp L E F (λz C D=>k (V.ah [(QQe z),(V.gs 1 C),(V.sc (.bool D))]) []):=by kernel_rfl
def ki(bO:de)(cZ:ic)(bM:dc)(dp:ip)(L:Nat)(z:Ls->List V->Ob Y):Nat->Ls->Int->Int->List V->Ob Y
 | 0,_,_,_,_=>none
 | n+1,C,D,E,F=>nW bO cZ bM dp L C D E F (λC D E F=>ki bO cZ bM dp L z n C D E F) z
theorem vB(bO:de)(cZ:ic)(bM:dc)(dp:ip)(L:Nat)(K:KT Y):∀ (n:Nat) (z:Ls) (D E:Int) (C:List V),dX (cC kC (kF bO cZ bM dp L) 0 L qm) rE n (ml z D E C) K=ki bO cZ bM dp L (λz C=>K (.exit 0) (wN z C)) n z D E C:=by
 intro n; induction n <;> intros
 ·rfl
 ·exact (F7 ..).trans (by simp only [*]; rfl)
def yK(bO:de)(cZ:ic)(bM:dc)(dp:ip)(L:Nat)(E:List V)(F:Int)(z:Int->Ls->Bool->Ob Y):Ob Y:=C9 bO cZ bM dp L E F z (λC H I D=>ki bO cZ bM dp L (λC D=>mL bO cZ bM dp L C D z) L C H I D)
theorem QK(bO:de)(cZ:ic)(bM:dc)(dp:ip)(L:Nat)(z:List V)(C:Int)(k:KK Y):dj kC (kF bO cZ bM dp L) L cf_ref30_Next [(V.agg z),(QQe C)] [] k=yK bO cZ bM dp L z C (λD E F=>k (V.ah [(QQe D),(V.gs 1 E),(V.sc (.bool F))]) []):=by
 refine (QC bO cZ bM dp L z C k).trans ?_
 unfold yK
 first
  | (simp only [vB,DP]; done)
  | (simp only [vB]; rfl)
abbrev eP:=∀ (Y:Type),Nat->List V->Int->(Int->Ls->Bool->Ob Y)->Ob Y
def cr:eP:=λY=>@yK Y bO cZ bM dp
def yW(cr:eP)(L:Nat):Dk:=dA AG λE=>dA (AI .i64) λF=>d0 λY k=>cr Y L E F (λz C D=>k (V.ah [(QQe z),(V.gs 1 C),(V.sc (.bool D))]) [])
theorem QD(L:Nat):DK (yW cr L) (λ_=>dj kC (kF bO cZ bM dp L) L cf_ref30_Next):=dl fN λz=>dl gm λC=>fy λ_ k=>QK bO cZ bM dp L z C k
def IP:CF:=cfD EF 52
def B4:Nat->Sh:=fQ [(9,(.sl 3))]
def BH(cF:fC)(bO:de)(L:Nat):CBC:=(d6 825 (mD bO L) (d6 817 (rc cF L) noC))
def Di(cF:fC)(bO:de)(L:Nat)(C:List V)(D:Int)(z:Int->Ob Y):Ob Y:=chk (0+2<=(WcJ C)) (cF Y L (WbO V.ag (WcK 2 C)) (λE=>ifb (!E) (z (6:Int)) (cLd 3 C 0 λF=>ifb ((((WcJ F:Nat):Int):Int)==(0:Int)) (z (300:Int)) (chk (0+2<=(WcJ C)) (bO Y L (WbO V.ag (WcK 2 C)) (λH=>lt (Wbf .i64 ((H:Int)+(1:Int))) λI=>ifb ((D:Int) != I) (z (300:Int)) (ifb (decide (D>(16777216:Int))) (z (300:Int)) (z (0:Int)))))))))
theorem Q2(cF:fC)(bO:de)(L:Nat)(z:List V)(C:Int)(k:KK Y):dj B4 (BH cF bO L) L IP [(V.agg z),(QQe C)] [] k=Di cF bO L z C (λz=>k (QQe z) []):=by kernel_rfl
abbrev tC:=∀ (Y:Type),Nat->List V->Int->(Int->Ob Y)->Ob Y
def f6:tC:=λY=>@Di Y cF bO
def DN(f6:tC)(L:Nat):Dk:=dA AG λz=>dA (AI .i64) λC=>d0 λY k=>f6 Y L z C (λz=>k (QQe z) [])
theorem Pd(L:Nat):DK (DN f6 L) (λ_=>dj B4 (BH cF bO L) L IP):=dl fN λz=>dl gm λC=>fy λ_ k=>Q2 cF bO L z C k
abbrev q9:=∀ (Y:Type),Nat->List V->(Int->Ob Y)->Ob Y
def f9:q9:=λY L z kf=>opD (cN rows) 300 522 L Y [(V.agg z)] [] λv _=>(AI .i64) Y v λp=>kf p
def Bw(f9:q9)(L:Nat):Dk:=dA AG λz=>d0 λY k=>f9 Y L z (λC=>k (QQe C) [])
theorem Oy(L:Nat):DK (Bw f9 L) (opD (cN rows) 300 522 L):=dl fN λz=>Aq gm [(V.agg z)] λ_ _ _=>rfl
def cf_ref29_spend:CF:=cfD D3 81
def rX:CC:=eS [1,1,0,1,0,0] cf_ref29_spend.body
def C0:CC:=eS [1,1,1] cf_ref29_spend.body
def jX:Nat->Sh:=fQ [(33,(.int .i64)),(48,(.sl 1))]
def jV(bM:dc)(L:Nat):CBC:=(d6 802 (vO bM L) noC)
def tO:St->St:=fF 0 (bl 1580 58) (bl 287667151320317951 58)
def mN(E:Ls)(F:Int)(z:Nat)(C:Int)(H D:List V):St:=⟨(jn 2 ((V.sl 1 E)::((QQe F)::(jn 1 ((V.ptr 5 0)::(jn 3 ((V.own 13 0 z 38)::((QQe C)::(jn 47 []))))))))),(gn 5 ((.live true H)::(gn 7 ((.live true D)::(gn 44 [])))))⟩
def uT(z:Nat)(C:List V):St:=⟨(jn 9 ((V.own 13 0 z 38)::(jn 48 []))),(gn 13 ((.live true C)::(gn 44 [])))⟩
def B5(bM:dc)(L:Nat)(C:Ls)(D:List V)(E:Ls)(F:Int)(z:Ls->Int->Nat->Int->List V->List V->Ob Y):Ob Y:=chk ((0+WcJ C)*96<=cy/\0+WcJ C<=cy) (z E F (WcJ C) (0:Int) D (WcN C))
theorem N6(bM:dc)(L:Nat)(D:Ls)(E:List V)(z:Ls)(C:Int)(k:KK Y):dj jX (jV bM L) L cf_ref29_spend [(V.sl 38 D),(V.agg E),(V.sl 1 z),(QQe C)] [] k=B5 bM L D E z C (λz C F H J I=>dX (cC jX (jV bM L) 0 L rX) tO L (mN z C F H J I) (cW 0 (dN (cC jX (jV bM L) 0 L C0) (eo 0 (CF.res cf_ref29_spend) k)))):=by kernel_rfl
def og(bM:dc)(L:Nat)(F:Ls)(H:Int)(D:Nat)(z:Int)(I E:List V)(C:Ls->Int->Nat->Int->List V->List V->Ob Y)(J:Nat->List V->Ob Y):Ob Y:=ifb (decide (z<((D:Nat):Int))) (chk (0<=z/\z<((D:Nat):Int)) (chk ((((0+((WcL z)*38))+0)+0)+33<=(WcJ E)) (chk (0+33<=(WcJ I)) (eqC 33 (WcK 33 (WcM (((0+((WcL z)*38))+0)+0) E)) (WcK 33 I) λN=>ifb N (chk (0<=z/\z<((D:Nat):Int)) (cI .i64 E ((0+((WcL z)*38))+37) λO=>ifb ((O:Int)==(0:Int)) (ifb ((((WcJ F:Nat):Int):Int)==(0:Int)) (chk (0<=z/\z<((D:Nat):Int)) (chk (1=1/\((0+((WcL z)*38))+37)+1<=(WcJ E)) (lt (cD E ((0+((WcL z)*38))+37) [(QQe H)]) λP=>lt (Wbf .i64 ((z:Int)+(1:Int))) λQ=>C F H D Q I P))) (chk (0<=z/\z<((D:Nat):Int)) (cLd 1 E ((((0+((WcL z)*38))+0)+33)+1) λR=>bM Y L F R (λS=>ifb S (chk (0<=z/\z<((D:Nat):Int)) (chk (1=1/\((0+((WcL z)*38))+37)+1<=(WcJ E)) (lt (cD E ((0+((WcL z)*38))+37) [(QQe H)]) λT=>lt (Wbf .i64 ((z:Int)+(1:Int))) λU=>C F H D U I T))) (lt (Wbf .i64 ((z:Int)+(1:Int))) λc9=>C F H D c9 I E))))) (lt (Wbf .i64 ((z:Int)+(1:Int))) λX=>C F H D X I E))) (lt (Wbf .i64 ((z:Int)+(1:Int))) λM=>C F H D M I E))))) (J D E)
theorem GQ(bM:dc)(L:Nat)(E:Ls)(F:Int)(z:Nat)(D:Int)(H C:List V)(X:St->Ob Y)(K:KT Y):cC jX (jV bM L) 0 L rX (mN E F z D H C) (fO tO X K)=og bM L E F z D H C (λE F z D H C=>X (mN E F z D H C)) (λz C=>K (.exit 0) (uT z C)):=by kernel_rfl
def qE(bM:dc)(L:Nat)(C:Nat)(D:List V)(z:Ls->Ob Y):Ob Y:=chk (C≠0∨(WcJ D)=0) (z (cz 38 C D))
theorem Ei(bM:dc)(L:Nat)(z:Nat)(C:List V)(k:KK Y):(cW 0 (dN (cC jX (jV bM L) 0 L C0) (eo 0 (CF.res cf_ref29_spend) k))) (.exit 0) (uT z C)=qE bM L z C (λD=>k (V.fr 38 D) []):=by kernel_rfl
def eI(bM:dc)(L:Nat)(z:Nat->List V->Ob Y):Nat->Ls->Int->Nat->Int->List V->List V->Ob Y
 | 0,_,_,_,_,_,_=>none
 | n+1,F,H,C,D,I,E=>og bM L F H C D I E (λF H C D I E=>eI bM L z n F H C D I E) z
theorem w8(bM:dc)(L:Nat)(K:KT Y):∀ (n:Nat) (E:Ls) (F:Int) (z:Nat) (D:Int) (H C:List V),dX (cC jX (jV bM L) 0 L rX) tO n (mN E F z D H C) K=eI bM L (λz C=>K (.exit 0) (uT z C)) n E F z D H C:=by
 intro n; induction n <;> intros
 ·rfl
 ·exact (GQ ..).trans (by simp only [*]; rfl)
def vS(bM:dc)(L:Nat)(I:Ls)(J:List V)(E:Ls)(F:Int)(D:Ls->Ob Y):Ob Y:=B5 bM L I J E F (λE F z H M C=>eI bM L (λz C=>qE bM L z C D) L E F z H M C)
theorem N4(bM:dc)(L:Nat)(z:Ls)(C:List V)(D:Ls)(E:Int)(k:KK Y):dj jX (jV bM L) L cf_ref29_spend [(V.sl 38 z),(V.agg C),(V.sl 1 D),(QQe E)] [] k=vS bM L z C D E (λz=>k (V.fr 38 z) []):=by
 refine (N6 bM L z C D E k).trans ?_
 unfold vS
 first
  | (simp only [w8,Ei]; done)
  | (simp only [w8]; rfl)
abbrev dI:=∀ (Y:Type),Nat->Ls->List V->Ls->Int->(Ls->Ob Y)->Ob Y
def bS:dI:=λY=>@vS Y bM
def BK(bS:dI)(L:Nat):Dk:=dA (AL 38) λz=>dA AG λC=>dA (AL 1) λD=>dA (AI .i64) λE=>d0 λY k=>bS Y L z C D E (λz=>k (V.fr 38 z) [])
theorem Ox(L:Nat):DK (BK bS L) (λ_=>dj jX (jV bM L) L cf_ref29_spend):=dl im λz=>dl fN λC=>dl im λD=>dl gm λE=>fy λ_ k=>N4 bM L z C D E k
abbrev eJ:=∀ (Y:Type),Nat->List V->(List V->Ob Y)->Ob Y
def ci:eJ:=λY L z kf=>opD (cN rows) 300 517 L Y [(V.agg z)] [] λv _=>AG Y v λp=>kf p
def H6(ci:eJ)(L:Nat):Dk:=dA AG λz=>d0 λY k=>ci Y L z (λC=>k (V.agg C) [])
theorem Ur(L:Nat):DK (H6 ci L) (opD (cN rows) 300 517 L):=dl fN λz=>Aq fN [(V.agg z)] λ_ _ _=>rfl
def cf_ref29_put:CF:=cfD Hi 82
def tJ:CC:=eS [1,1,1,0,1,0,0] cf_ref29_put.body
def wc:CC:=eS [1,1,0,0,0] cf_ref29_put.body
def xI:CC:=eS [1,1,1,1] cf_ref29_put.body
def Al:CC:=eS [1,1,1] cf_ref29_put.body
def gI:Nat->Sh:=fQ [(43,(.int .i64))]
def gF(bQ:dx)(L:Nat):CBC:=(d6 800 (tX bQ L) noC)
def xU:St->St:=fF 0 (bl 73 58) (bl 288230376151448575 58)
def vf:St->St:=fF 0 (bl 201 58) (bl 288230376134934479 58)
def oF(z:Ls)(C:Int)(D:List V):St:=⟨((V.sl 38 z)::(jn 2 ((V.ptr 3 0)::(jn 2 ((QQe C)::(jn 51 [])))))),(gn 3 ((.live true D)::(gn 54 [])))⟩
def sH(z:Ls)(C:Int)(D:List V):St:=⟨((V.sl 38 z)::(jn 2 ((V.ptr 3 0)::(jn 2 ((QQe C)::(jn 51 [])))))),(gn 3 ((.live true D)::(gn 54 [])))⟩
def m6(z:Ls)(C D:Int)(E:List V):St:=⟨((V.sl 38 z)::(jn 2 ((V.ptr 3 0)::(jn 2 ((QQe C)::((QQe D)::(jn 50 []))))))),(gn 3 ((.live true E)::(gn 54 [])))⟩
def wg(z:Ls)(C:Int):St:=⟨(jn 4 ((V.gs 38 z)::((QQe C)::(jn 52 [])))),(gn 58 [])⟩
def yS(z:Ls)(C:Int)(D:List V):St:=⟨((V.sl 38 z)::(jn 2 ((V.ptr 3 0)::(jn 2 ((QQe C)::(jn 51 [])))))),(gn 3 ((.live true D)::(gn 54 [])))⟩
def Gg(bQ:dx)(L:Nat)(C:Ls)(D:List V)(z:Ls->Int->List V->Ob Y):Ob Y:=z C (0:Int) D
theorem SH(bQ:dx)(L:Nat)(z:Ls)(C:List V)(k:KK Y):dj gI (gF bQ L) L cf_ref29_put [(V.sl 38 z),(V.agg C)] [] k=Gg bQ L z C (λz D E=>dX (cC gI (gF bQ L) 0 L wc) xU L (oF z D E) (cW 0 (dN (cC gI (gF bQ L) 0 L Al) (eo 0 (CF.res cf_ref29_put) k)))):=by kernel_rfl
def sD(bQ:dx)(L:Nat)(C:Ls)(D:Int)(E:List V)(z:Ls->Int->List V->Ob Y)(F:Ls->Int->List V->Ob Y):Ob Y:=ifb (decide (D<((WcJ C:Nat):Int))) (idx C D λH=>chk (0+38<=(WcJ E)) (bQ Y L (WbO V.ag (WcK 38 H)) (WbO V.ag (WcK 38 E)) (λI=>ifb I (lt (Wbf .i64 ((D:Int)+(1:Int))) λJ=>z C J E) (F C D E)))) (F C D E)
theorem K3(bQ:dx)(L:Nat)(z:Ls)(C:Int)(D:List V)(X:St->Ob Y)(K:KT Y):cC gI (gF bQ L) 0 L wc (oF z C D) (fO xU X K)=sD bQ L z C D (λz C D=>X (oF z C D)) (λz C D=>K (.exit 0) (sH z C D)):=by kernel_rfl
def uX(bQ:dx)(L:Nat)(C:Ls)(D:Int)(E:List V)(z:Ls->Int->Int->List V->Ob Y):Ob Y:=z C D (0:Int) E
theorem HW(bQ:dx)(L:Nat)(z:Ls)(C:Int)(D:List V)(k:KK Y):(cW 0 (dN (cC gI (gF bQ L) 0 L Al) (eo 0 (CF.res cf_ref29_put) k))) (.exit 0) (sH z C D)=uX bQ L z C D (λz C E D=>dX (cC gI (gF bQ L) 0 L tJ) vf L (m6 z C E D) (cW 2 (dN (cC gI (gF bQ L) 0 L xI) (eo 0 (CF.res cf_ref29_put) k)))):=by kernel_rfl
def pn(bQ:dx)(L:Nat)(C:Ls)(H D:Int)(E:List V)(F:Ls->Int->Ob Y)(z:Ls->Int->Int->List V->Ob Y)(I:Ls->Int->List V->Ob Y):Ob Y:=ifb (decide (D<((WcJ C:Nat):Int))) (idx C D λJ=>chk (0+33<=(WcJ E)) (eqC 33 (WcK 33 J) (WcK 33 E) λM=>ifb M (idx C D λN=>cI .i64 (WcM 37 N) 0 λO=>ifb ((O:Int)==(0:Int)) (F ([]:Ls) (91:Int)) (lt (Wbf .i64 ((D:Int)+(1:Int))) λP=>z C H P E)) (lt (Wbf .i64 ((D:Int)+(1:Int))) λQ=>z C H Q E))) (I C H E)
theorem Hm(bQ:dx)(L:Nat)(z:Ls)(C E:Int)(D:List V)(X:St->Ob Y)(K:KT Y):cC gI (gF bQ L) 0 L tJ (m6 z C E D) (fO vf X K)=pn bQ L z C E D (λF H=>K .ret (wg F H)) (λz C E D=>X (m6 z C E D)) (λz C D=>K (.exit 2) (yS z C D)):=by kernel_rfl
def qk(bQ:dx)(L:Nat)(C:Ls)(D:Int)(z:Ls->Int->Ob Y):Ob Y:=z C D
theorem Ee(bQ:dx)(L:Nat)(D:Ls)(E:Int)(k:KK Y):(cW 2 (dN (cC gI (gF bQ L) 0 L xI) (eo 0 (CF.res cf_ref29_put) k))) .ret (wg D E)=qk bQ L D E (λz C=>k (V.ah [(V.gs 38 z),(QQe C)]) []):=by kernel_rfl
def rS(bQ:dx)(L:Nat)(C:Ls)(z:Int)(D:List V)(F:Ls->Int->Ob Y):Ob Y:=chk (0<=z/\z<=(((WcJ C):Nat):Int)) (chk ((WcJ ([]:Ls)+WcJ (WcK ((WcL z)-0) (WcM 0 C)))*96<=cy/\WcJ ([]:Ls)+WcJ (WcK ((WcL z)-0) (WcM 0 C))<=cy) (lt (([]:Ls)++(WcK ((WcL z)-0) (WcM 0 C))) λH=>chk (0+38<=(WcJ D)) (chk ((WcJ (WcK 38 D))=38/\0+38<=38) (chk ((WcJ H+WcJ (cz 38 1 (cD (Wad 32 (QQa (0:Int))++[(QQc (0:Int)),(QQe (0:Int)),(V.sl 1 ([]:Ls)),(QQe (0:Int)),(V.sc (.bool false)),(QQe (0:Int))]) 0 (WcK 38 D))))*96<=cy/\WcJ H+WcJ (cz 38 1 (cD (Wad 32 (QQa (0:Int))++[(QQc (0:Int)),(QQe (0:Int)),(V.sl 1 ([]:Ls)),(QQe (0:Int)),(V.sc (.bool false)),(QQe (0:Int))]) 0 (WcK 38 D)))<=cy) (lt (H++(cz 38 1 (cD (Wad 32 (QQa (0:Int))++[(QQc (0:Int)),(QQe (0:Int)),(V.sl 1 ([]:Ls)),(QQe (0:Int)),(V.sc (.bool false)),(QQe (0:Int))]) 0 (WcK 38 D)))) λE=>chk (0<=z/\z<=(((WcJ C):Nat):Int)) (chk ((WcJ E+WcJ (WcK ((WcJ C)-(WcL z)) (WcM (WcL z) C)))*96<=cy/\WcJ E+WcJ (WcK ((WcJ C)-(WcL z)) (WcM (WcL z) C))<=cy) (lt (E++(WcK ((WcJ C)-(WcL z)) (WcM (WcL z) C))) λI=>F I (0:Int))))))))
theorem Fz(bQ:dx)(L:Nat)(D:Ls)(E:Int)(F:List V)(k:KK Y):(cW 2 (dN (cC gI (gF bQ L) 0 L xI) (eo 0 (CF.res cf_ref29_put) k))) (.exit 2) (yS D E F)=rS bQ L D E F (λz C=>k (V.ah [(V.gs 38 z),(QQe C)]) []):=by kernel_rfl
def ke(bQ:dx)(L:Nat)(z:Ls->Int->List V->Ob Y):Nat->Ls->Int->List V->Ob Y
 | 0,_,_,_=>none
 | n+1,C,D,E=>sD bQ L C D E (λC D E=>ke bQ L z n C D E) z
theorem AR(bQ:dx)(L:Nat)(K:KT Y):∀ (n:Nat) (z:Ls) (C:Int) (D:List V),dX (cC gI (gF bQ L) 0 L wc) xU n (oF z C D) K=ke bQ L (λz C D=>K (.exit 0) (sH z C D)) n z C D:=by
 intro n; induction n <;> intros
 ·rfl
 ·exact (K3 ..).trans (by simp only [*]; rfl)
def lE(bQ:dx)(L:Nat)(z:Ls->Int->Ob Y)(C:Ls->Int->List V->Ob Y):Nat->Ls->Int->Int->List V->Ob Y
 | 0,_,_,_,_=>none
 | n+1,D,E,F,H=>pn bQ L D E F H z (λD E F H=>lE bQ L z C n D E F H) C
theorem yp(bQ:dx)(L:Nat)(K:KT Y):∀ (n:Nat) (z:Ls) (C E:Int) (D:List V),dX (cC gI (gF bQ L) 0 L tJ) vf n (m6 z C E D) K=lE bQ L (λF H=>K .ret (wg F H)) (λz C D=>K (.exit 2) (yS z C D)) n z C E D:=by
 intro n; induction n <;> intros
 ·rfl
 ·exact (Hm ..).trans (by simp only [*]; rfl)
def oB(bQ:dx)(L:Nat)(C:Ls)(D:Int)(E:List V)(z:Ls->Int->Ob Y):Ob Y:=uX bQ L C D E (λC D F E=>lE bQ L (λH I=>qk bQ L H I z) (λC D E=>rS bQ L C D E z) L C D F E)
theorem GN(bQ:dx)(L:Nat)(z:Ls)(C:Int)(D:List V)(k:KK Y):(cW 0 (dN (cC gI (gF bQ L) 0 L Al) (eo 0 (CF.res cf_ref29_put) k))) (.exit 0) (sH z C D)=oB bQ L z C D (λE F=>k (V.ah [(V.gs 38 E),(QQe F)]) []):=by
 refine (HW bQ L z C D k).trans ?_
 unfold oB
 first
  | (simp only [yp,Ee,Fz]; done)
  | (simp only [yp]; rfl)
def Ay(bQ:dx)(L:Nat)(z:Ls)(F:List V)(C:Ls->Int->Ob Y):Ob Y:=Gg bQ L z F (λz D E=>ke bQ L (λz D E=>oB bQ L z D E C) L z D E)
theorem Tm(bQ:dx)(L:Nat)(z:Ls)(C:List V)(k:KK Y):dj gI (gF bQ L) L cf_ref29_put [(V.sl 38 z),(V.agg C)] [] k=Ay bQ L z C (λD E=>k (V.ah [(V.gs 38 D),(QQe E)]) []):=by
 refine (SH bQ L z C k).trans ?_
 unfold Ay
 first
  | (simp only [AR,GN]; done)
  | (simp only [AR]; rfl)
abbrev dZ:=∀ (Y:Type),Nat->Ls->List V->(Ls->Int->Ob Y)->Ob Y
def bY:dZ:=λY=>@Ay Y bQ
def F9(bY:dZ)(L:Nat):Dk:=dA (AL 38) λD=>dA AG λE=>d0 λY k=>bY Y L D E (λz C=>k (V.ah [(V.gs 38 z),(QQe C)]) [])
theorem Sg(L:Nat):DK (F9 bY L) (λ_=>dj gI (gF bQ L) L cf_ref29_put):=dl im λz=>dl fN λC=>fy λ_ k=>Tm bQ L z C k
def cf_ref29_Take:CF:=cfD EI 54
def ni:CC:=eS [1,0,1,0,0,1,0,0,1,0,1,0,0] cf_ref29_Take.body
def nc:CC:=eS [1,0,1,0,0,1,0,0,1,1,1,0,0] cf_ref29_Take.body
def oT:CC:=eS [1,0,1,0,0,1,0,0,1,1] cf_ref29_Take.body
def kl:CC:=eS [1,0,1,0,0,1,1] cf_ref29_Take.body
def pe:CC:=eS [1,0,1,0,0] cf_ref29_Take.body
def zH:CC:=eS [1,1] cf_ref29_Take.body
def eC:Nat->Sh:=fQ [(21,(.sl 4)),(27,(.sl 4)),(33,(.sl 35)),(44,(.sl 35)),(54,(.sl 2)),(61,(.sl 2)),(65,(.sl 1)),(74,(.sl 2))]
def eE(bS:dI)(bM:dc)(ci:eJ)(bY:dZ)(L:Nat):CBC:=(d6 803 (F9 bY L) (d6 517 (H6 ci L) (d6 802 (vO bM L) (d6 801 (BK bS L) noC))))
def iB:St->St:=fF 0 (bl 4375 99) (bl 633283700682806279610522145791 99)
def nM:St->St:=fF 0 (bl 28951 99) (bl 633825300114112448931357982719 99)
def nK:St->St:=fF 0 (bl 45335 99) (bl 633283700682808531427519951871 99)
def jk(C D E:Ls)(F z:Int)(H:List V):St:=⟨((V.sl 38 C)::((V.sl 1 D)::((V.sl 1 E)::(jn 1 ((QQe F)::(jn 3 ((V.ptr 8 0)::(jn 3 ((QQe z)::(jn 86 [])))))))))),(gn 8 ((.live true H)::(gn 90 [])))⟩
def j9(E F H:Ls)(I z C:Int)(J D:List V):St:=⟨((V.sl 38 E)::((V.sl 1 F)::((V.sl 1 H)::(jn 1 ((QQe I)::(jn 3 ((V.ptr 8 0)::(jn 3 ((QQe z)::((V.ptr 13 0)::((QQe C)::(jn 84 [])))))))))))),(gn 8 ((.live true J)::(gn 4 ((.live true D)::(gn 85 [])))))⟩
def qN(z:Ls):St:=⟨((V.sl 38 z)::(jn 98 [])),(gn 99 [])⟩
def qx(D E F:Ls)(H z:Int)(I C:List V):St:=⟨((V.sl 38 D)::((V.sl 1 E)::((V.sl 1 F)::(jn 1 ((QQe H)::(jn 3 ((V.ptr 8 0)::(jn 3 ((QQe z)::((V.ptr 13 0)::(jn 85 []))))))))))),(gn 8 ((.live true I)::(gn 4 ((.live true C)::(gn 85 [])))))⟩
def kc(E F H:Ls)(I z C:Int)(J D:List V):St:=⟨((V.sl 38 E)::((V.sl 1 F)::((V.sl 1 H)::(jn 1 ((QQe I)::(jn 3 ((V.ptr 8 0)::(jn 3 ((QQe z)::((V.ptr 13 0)::(jn 1 ((QQe C)::(jn 83 []))))))))))))),(gn 8 ((.live true J)::(gn 4 ((.live true D)::(gn 85 [])))))⟩
def je(z:Ls)(C:Int):St:=⟨(jn 10 ((V.gs 38 z)::((QQe C)::(jn 87 [])))),(gn 99 [])⟩
def wK(C D E:Ls)(F z:Int)(H:List V):St:=⟨((V.sl 38 C)::((V.sl 1 D)::((V.sl 1 E)::(jn 1 ((QQe F)::(jn 3 ((V.ptr 8 0)::(jn 3 ((QQe z)::(jn 86 [])))))))))),(gn 8 ((.live true H)::(gn 90 [])))⟩
abbrev pd(Y:Type):Type:=Ls->Ls->Ls->Int->Int->List V->Ob Y
abbrev sI(Y:Type):Type:=Ls->Ls->Ls->Int->Int->Int->List V->List V->Ob Y
abbrev zx(Y:Type):Type:=Ls->Ls->Ls->Int->Int->List V->List V->Ob Y
abbrev sL(Y:Type):Type:=Ls->Ls->Ls->Int->Int->Int->List V->List V->Ob Y
abbrev pK(Y:Type):Type:=Ls->Ls->Ls->Int->Int->List V->Ob Y
def tA(bS:dI)(bM:dc)(ci:eJ)(bY:dZ)(L:Nat)(C D E:Ls)(F:List V)(H:Int)(z:pd Y):Ob Y:=z C D E H (0:Int) F
theorem QZ(bS:dI)(bM:dc)(ci:eJ)(bY:dZ)(L:Nat)(z C D:Ls)(F:List V)(E:Int)(k:KK Y):dj eC (eE bS bM ci bY L) L cf_ref29_Take [(V.sl 38 z),(V.sl 1 C),(V.sl 1 D),(V.agg F),(QQe E)] [] k=tA bS bM ci bY L z C D F E (λz C D E H I=>dX (cC eC (eE bS bM ci bY L) 0 L pe) iB L (jk z C D E H I) (cW 0 (dN (cC eC (eE bS bM ci bY L) 0 L zH) (eo 0 (CF.res cf_ref29_Take) k)))):=by kernel_rfl
def qT(bS:dI)(bM:dc)(ci:eJ)(bY:dZ)(L:Nat)(F I J:Ls)(M C:Int)(D:List V)(z:sI Y)(E:Ls->Ob Y):Ob Y:=cLd 4 D 68 λN=>ifb (decide (C<((WcJ N:Nat):Int))) (cLd 4 D 68 λO=>idx O C λH=>chk ((WcJ (WcK 4 H))=4/\0+4<=4) (lt (cD [(QQc (0:Int)),(V.gs 35 ([]:Ls)),(V.gs 2 ([]:Ls)),(QQc (0:Int))] 0 (WcK 4 H)) λP=>z F I J M C (0:Int) D P)) (E F)
theorem Je(bS:dI)(bM:dc)(ci:eJ)(bY:dZ)(L:Nat)(C D E:Ls)(F z:Int)(H:List V)(X:St->Ob Y)(K:KT Y):cC eC (eE bS bM ci bY L) 0 L pe (jk C D E F z H) (fO iB X K)=qT bS bM ci bY L C D E F z H (λC D E F z I H J=>dX (cC eC (eE bS bM ci bY L) 0 L ni) nM L (j9 C D E F z I H J) (cW 2 (dN (cC eC (eE bS bM ci bY L) 0 L oT) (cW 1 (dN (cC eC (eE bS bM ci bY L) 0 L kl) (fO iB X K)))))) (λC=>K (.exit 0) (qN C)):=by kernel_rfl
def oq(bS:dI)(bM:dc)(ci:eJ)(bY:dZ)(L:Nat)(C:Ls)(z:Ls->Int->Ob Y):Ob Y:=ifb (decide (((WcJ C:Nat):Int)>(4096:Int))) (z ([]:Ls) (380:Int)) (chk ((WcJ ([]:Ls)+WcJ C)*96<=cy/\WcJ ([]:Ls)+WcJ C<=cy) (lt (([]:Ls)++C) λD=>z D (0:Int)))
theorem Hj(bS:dI)(bM:dc)(ci:eJ)(bY:dZ)(L:Nat)(D:Ls)(k:KK Y):(cW 0 (dN (cC eC (eE bS bM ci bY L) 0 L zH) (eo 0 (CF.res cf_ref29_Take) k))) (.exit 0) (qN D)=oq bS bM ci bY L D (λz C=>k (V.ah [(V.gs 38 z),(QQe C)]) []):=by kernel_rfl
def jL(bS:dI)(bM:dc)(ci:eJ)(bY:dZ)(L:Nat)(J H M:Ls)(I D E:Int)(N C:List V)(z:sI Y)(F:zx Y):Ob Y:=cLd 35 C 1 λO=>ifb (decide (E<((WcJ O:Nat):Int))) (ifb (decide (D>(0:Int))) (cLd 35 C 1 λP=>idx P E λQ=>bS Y L J (WcK 33 Q) H I (λR=>lt (Wbf .i64 ((E:Int)+(1:Int))) λS=>z R H M I D S N C)) (F J H M I D N C)) (F J H M I D N C)
theorem Bc(bS:dI)(bM:dc)(ci:eJ)(bY:dZ)(L:Nat)(E F H:Ls)(I z D:Int)(J C:List V)(X:St->Ob Y)(K:KT Y):cC eC (eE bS bM ci bY L) 0 L ni (j9 E F H I z D J C) (fO nM X K)=jL bS bM ci bY L E F H I z D J C (λE F H I z D J C=>X (j9 E F H I z D J C)) (λE F H I z J C=>K (.exit 2) (qx E F H I z J C)):=by kernel_rfl
def rj(bS:dI)(bM:dc)(ci:eJ)(bY:dZ)(L:Nat)(E F H:Ls)(I C:Int)(J D:List V)(z:sL Y):Ob Y:=z E F H I C (0:Int) J D
theorem y8(bS:dI)(bM:dc)(ci:eJ)(bY:dZ)(L:Nat)(D E F:Ls)(H z:Int)(I C:List V)(X:St->Ob Y)(K:KT Y):(cW 2 (dN (cC eC (eE bS bM ci bY L) 0 L oT) (cW 1 (dN (cC eC (eE bS bM ci bY L) 0 L kl) (fO iB X K))))) (.exit 2) (qx D E F H z I C)=rj bS bM ci bY L D E F H z I C (λD E F H z J I C=>dX (cC eC (eE bS bM ci bY L) 0 L nc) nK L (kc D E F H z J I C) (cW 4 (cW 1 (dN (cC eC (eE bS bM ci bY L) 0 L kl) (fO iB X K))))):=by kernel_rfl
def kW(bS:dI)(bM:dc)(ci:eJ)(bY:dZ)(L:Nat)(R S N:Ls)(I F D:Int)(T C:List V)(z:sL Y)(O:Ls->Int->Ob Y)(U:pK Y):Ob Y:=cLd 2 C 2 λc9=>ifb (decide (D<((WcJ c9:Nat):Int))) (cLd 2 C 2 λX=>idx X D λc8=>cL 1 (WcM 1 c8) 0 λb9=>bM Y L N b9 (λaa=>ifb (!aa) (lt (Wbf .i64 ((D:Int)+(1:Int))) λab=>z R S N I F ab T C) (chk (0+4<=(WcJ C)) (ci Y L (WbO V.ag (WcK 4 C)) (λJ=>lt (Wbf .u32 D) λac=>chk ((WcJ J)=32/\0+32<=33) (chk (1=1/\32+1<=(WcJ (cD (Wad 32 (QQa (0:Int))++[(QQc (0:Int))]) 0 J))) (lt (cD (cD (Wad 32 (QQa (0:Int))++[(QQc (0:Int))]) 0 J) 32 [(QQc ac)]) λE=>cLd 2 C 2 λad=>idx ad D λH=>chk ((WcJ E)=33/\0+33<=37) (chk ((WcJ (WcK 2 H))=2/\33+2<=(WcJ (cD (Wad 32 (QQa (0:Int))++[(QQc (0:Int)),(QQe (0:Int)),(V.sl 1 ([]:Ls)),(QQe (0:Int)),(V.sc (.bool false))]) 0 E))) (chk (1=1/\35+1<=(WcJ (cD (cD (Wad 32 (QQa (0:Int))++[(QQc (0:Int)),(QQe (0:Int)),(V.sl 1 ([]:Ls)),(QQe (0:Int)),(V.sc (.bool false))]) 0 E) 33 (WcK 2 H)))) (chk (1=1/\36+1<=(WcJ (cD (cD (cD (Wad 32 (QQa (0:Int))++[(QQc (0:Int)),(QQe (0:Int)),(V.sl 1 ([]:Ls)),(QQe (0:Int)),(V.sc (.bool false))]) 0 E) 33 (WcK 2 H)) 35 [(QQe I)]))) (lt (cD (cD (cD (cD (Wad 32 (QQa (0:Int))++[(QQc (0:Int)),(QQe (0:Int)),(V.sl 1 ([]:Ls)),(QQe (0:Int)),(V.sc (.bool false))]) 0 E) 33 (WcK 2 H)) 35 [(QQe I)]) 36 [(V.sc (.bool ((F:Int)==(0:Int))))]) λP=>chk ((WcJ P)=37/\0+37<=37) (lt (cD (Wad 32 (QQa (0:Int))++[(QQc (0:Int)),(QQe (0:Int)),(V.gs 1 ([]:Ls)),(QQe (0:Int)),(V.sc (.bool false))]) 0 P) λM=>chk (0+37<=(WcJ M)) (chk ((WcJ (WcK 37 M))=37/\0+37<=38) (lt (cD (Wad 32 (QQa (0:Int))++[(QQc (0:Int)),(QQe (0:Int)),(V.sl 1 ([]:Ls)),(QQe (0:Int)),(V.sc (.bool false)),(QQe (0:Int))]) 0 (WcK 37 M)) λan=>bY Y L R (WbO V.ag an) (λao Q=>ifb ((Q:Int) != (0:Int)) (O ([]:Ls) Q) (lt (Wbf .i64 ((D:Int)+(1:Int))) λap=>z ao S N I F ap T C)))))))))))))))) (U R S N I F T)
theorem Bj(bS:dI)(bM:dc)(ci:eJ)(bY:dZ)(L:Nat)(E F H:Ls)(I z C:Int)(J D:List V)(X:St->Ob Y)(K:KT Y):cC eC (eE bS bM ci bY L) 0 L nc (kc E F H I z C J D) (fO nK X K)=kW bS bM ci bY L E F H I z C J D (λE F H I z C J D=>X (kc E F H I z C J D)) (λM N=>K .ret (je M N)) (λE F H I z J=>K (.exit 4) (wK E F H I z J)):=by kernel_rfl
def mA(bS:dI)(bM:dc)(ci:eJ)(bY:dZ)(L:Nat)(C:Ls)(D:Int)(z:Ls->Int->Ob Y):Ob Y:=z C D
theorem xA(bS:dI)(bM:dc)(ci:eJ)(bY:dZ)(L:Nat)(z:Ls)(C:Int)(X:St->Ob Y)(K:KT Y):(cW 4 (cW 1 (dN (cC eC (eE bS bM ci bY L) 0 L kl) (fO iB X K)))) .ret (je z C)=mA bS bM ci bY L z C (λz C=>K .ret (je z C)):=by kernel_rfl
def kG(bS:dI)(bM:dc)(ci:eJ)(bY:dZ)(L:Nat)(E F H:Ls)(I C:Int)(J:List V)(z:pd Y):Ob Y:=lt (Wbf .i64 ((C:Int)+(1:Int))) λD=>z E F H I D J
theorem y7(bS:dI)(bM:dc)(ci:eJ)(bY:dZ)(L:Nat)(C D E:Ls)(F z:Int)(H:List V)(X:St->Ob Y)(K:KT Y):(cW 4 (cW 1 (dN (cC eC (eE bS bM ci bY L) 0 L kl) (fO iB X K)))) (.exit 4) (wK C D E F z H)=kG bS bM ci bY L C D E F z H (λC D E F z H=>X (jk C D E F z H)):=by kernel_rfl
def y9(bS:dI)(bM:dc)(ci:eJ)(bY:dZ)(L:Nat)(C:Ls)(D:Int)(z:Ls->Int->Ob Y):Ob Y:=z C D
theorem Ga(bS:dI)(bM:dc)(ci:eJ)(bY:dZ)(L:Nat)(z:Ls)(C:Int)(k:KK Y):(cW 0 (dN (cC eC (eE bS bM ci bY L) 0 L zH) (eo 0 (CF.res cf_ref29_Take) k))) .ret (je z C)=y9 bS bM ci bY L z C (λD E=>k (V.ah [(V.gs 38 D),(QQe E)]) []):=by kernel_rfl
def gV(bS:dI)(bM:dc)(ci:eJ)(bY:dZ)(L:Nat)(z:zx Y):Nat->Ls->Ls->Ls->Int->Int->Int->List V->List V->Ob Y
 | 0,_,_,_,_,_,_,_,_=>none
 | n+1,F,H,I,J,C,D,M,E=>jL bS bM ci bY L F H I J C D M E (λF H I J C D M E=>gV bS bM ci bY L z n F H I J C D M E) z
theorem qd(bS:dI)(bM:dc)(ci:eJ)(bY:dZ)(L:Nat)(K:KT Y):∀ (n:Nat) (D E F:Ls) (H z J:Int) (I C:List V),dX (cC eC (eE bS bM ci bY L) 0 L ni) nM n (j9 D E F H z J I C) K=gV bS bM ci bY L (λD E F H z I C=>K (.exit 2) (qx D E F H z I C)) n D E F H z J I C:=by
 intro n; induction n <;> intros
 ·rfl
 ·exact (Bc ..).trans (by simp only [*]; rfl)
def fk(bS:dI)(bM:dc)(ci:eJ)(bY:dZ)(L:Nat)(z:Ls->Int->Ob Y)(C:pK Y):Nat->Ls->Ls->Ls->Int->Int->Int->List V->List V->Ob Y
 | 0,_,_,_,_,_,_,_,_=>none
 | n+1,H,I,J,M,D,E,N,F=>kW bS bM ci bY L H I J M D E N F (λH I J M D E N F=>fk bS bM ci bY L z C n H I J M D E N F) z C
theorem qe(bS:dI)(bM:dc)(ci:eJ)(bY:dZ)(L:Nat)(K:KT Y):∀ (n:Nat) (C D E:Ls) (F z I:Int) (H J:List V),dX (cC eC (eE bS bM ci bY L) 0 L nc) nK n (kc C D E F z I H J) K=fk bS bM ci bY L (λM N=>K .ret (je M N)) (λC D E F z H=>K (.exit 4) (wK C D E F z H)) n C D E F z I H J:=by
 intro n; induction n <;> intros
 ·rfl
 ·exact (Bj ..).trans (by simp only [*]; rfl)
def mz(bS:dI)(bM:dc)(ci:eJ)(bY:dZ)(L:Nat)(D E F:Ls)(H z:Int)(I J:List V)(M:Ls->Int->Ob Y)(C:pd Y):Ob Y:=rj bS bM ci bY L D E F H z I J (λD E F H z N I J=>fk bS bM ci bY L (λO P=>mA bS bM ci bY L O P M) (λD E F H z I=>kG bS bM ci bY L D E F H z I C) L D E F H z N I J)
theorem yf(bS:dI)(bM:dc)(ci:eJ)(bY:dZ)(L:Nat)(C D E:Ls)(F z:Int)(H I:List V)(X:St->Ob Y)(K:KT Y):(cW 2 (dN (cC eC (eE bS bM ci bY L) 0 L oT) (cW 1 (dN (cC eC (eE bS bM ci bY L) 0 L kl) (fO iB X K))))) (.exit 2) (qx C D E F z H I)=mz bS bM ci bY L C D E F z H I (λJ M=>K .ret (je J M)) (λC D E F z H=>X (jk C D E F z H)):=by
 refine (y8 bS bM ci bY L C D E F z H I X K).trans ?_
 unfold mz
 first
  | (simp only [qe,xA,y7]; done)
  | (simp only [qe]; rfl)
def mQ(bS:dI)(bM:dc)(ci:eJ)(bY:dZ)(L:Nat)(D E F:Ls)(H z:Int)(I:List V)(N:Ls->Ob Y)(M:Ls->Int->Ob Y)(C:pd Y):Ob Y:=qT bS bM ci bY L D E F H z I (λD E F H z O I J=>gV bS bM ci bY L (λD E F H z I J=>mz bS bM ci bY L D E F H z I J M C) L D E F H z O I J) N
theorem HP(bS:dI)(bM:dc)(ci:eJ)(bY:dZ)(L:Nat)(C D E:Ls)(F z:Int)(H:List V)(X:St->Ob Y)(K:KT Y):cC eC (eE bS bM ci bY L) 0 L pe (jk C D E F z H) (fO iB X K)=mQ bS bM ci bY L C D E F z H (λC=>K (.exit 0) (qN C)) (λI J=>K .ret (je I J)) (λC D E F z H=>X (jk C D E F z H)):=by
 refine (Je bS bM ci bY L C D E F z H X K).trans ?_
 unfold mQ
 first
  | (simp only [qd,yf]; done)
  | (simp only [qd]; rfl)
def gQ(bS:dI)(bM:dc)(ci:eJ)(bY:dZ)(L:Nat)(C:Ls->Ob Y)(z:Ls->Int->Ob Y):Nat->Ls->Ls->Ls->Int->Int->List V->Ob Y
 | 0,_,_,_,_,_,_=>none
 | n+1,E,F,H,I,D,J=>mQ bS bM ci bY L E F H I D J C z (λE F H I D J=>gQ bS bM ci bY L C z n E F H I D J)
theorem zu(bS:dI)(bM:dc)(ci:eJ)(bY:dZ)(L:Nat)(K:KT Y):∀ (n:Nat) (z D E:Ls) (F C:Int) (H:List V),dX (cC eC (eE bS bM ci bY L) 0 L pe) iB n (jk z D E F C H) K=gQ bS bM ci bY L (λz=>K (.exit 0) (qN z)) (λI J=>K .ret (je I J)) n z D E F C H:=by
 intro n; induction n <;> intros
 ·rfl
 ·exact (HP ..).trans (by simp only [*]; rfl)
def pC(bS:dI)(bM:dc)(ci:eJ)(bY:dZ)(L:Nat)(C D E:Ls)(M:List V)(F:Int)(z:Ls->Int->Ob Y):Ob Y:=tA bS bM ci bY L C D E M F (λC D E F H N=>gQ bS bM ci bY L (λC=>oq bS bM ci bY L C z) (λI J=>y9 bS bM ci bY L I J z) L C D E F H N)
theorem RH(bS:dI)(bM:dc)(ci:eJ)(bY:dZ)(L:Nat)(z C D:Ls)(E:List V)(F:Int)(k:KK Y):dj eC (eE bS bM ci bY L) L cf_ref29_Take [(V.sl 38 z),(V.sl 1 C),(V.sl 1 D),(V.agg E),(QQe F)] [] k=pC bS bM ci bY L z C D E F (λH I=>k (V.ah [(V.gs 38 H),(QQe I)]) []):=by
 refine (QZ bS bM ci bY L z C D E F k).trans ?_
 unfold pC
 first
  | (simp only [zu,Hj,Ga]; done)
  | (simp only [zu]; rfl)
abbrev tI:=∀ (Y:Type),Nat->Ls->Ls->Ls->List V->Int->(Ls->Int->Ob Y)->Ob Y
def fP:tI:=λY=>@pC Y bS bM ci bY
def C8(fP:tI)(L:Nat):Dk:=dA (AL 38) λD=>dA (AL 1) λE=>dA (AL 1) λF=>dA AG λH=>dA (AI .i64) λI=>d0 λY k=>fP Y L D E F H I (λz C=>k (V.ah [(V.gs 38 z),(QQe C)]) [])
theorem PH(L:Nat):DK (C8 fP L) (λ_=>dj eC (eE bS bM ci bY L) L cf_ref29_Take):=dl im λz=>dl im λC=>dl im λD=>dl fN λE=>dl gm λF=>fy λ_ k=>RH bS bM ci bY L z C D E F k
def cf_ref30_advance:CF:=cfD AN 55
def pU:CC:=eS [1,1,0,1,0,0] cf_ref30_advance.body
def AK:CC:=eS [1,1,1] cf_ref30_advance.body
def i5:Nat->Sh:=fQ [(21,(.int .i64))]
def i4(ca:dW)(L:Nat):CBC:=(d6 829 (pp ca L) noC)
def qX:St->St:=fF 0 (bl 114 32) (bl 4294963195 32)
def lJ(I J:Int)(D E:Ls)(z C:Nat)(F H:List V):St:=⟨(jn 1 ((QQe I)::(jn 2 ((V.ptr 4 0)::((V.ptr 5 0)::((QQe J)::(jn 25 []))))))),(gn 4 ((.live false [(V.gs 3 D),(V.gs 38 E)])::((.live false [(V.own 10 0 z 3),(V.own 13 0 C 38)])::(gn 4 ((.live true F)::(gn 2 ((.live true H)::(gn 18 []))))))))⟩
def rP(D E:Ls)(z C:Nat)(F H:List V):St:=⟨(jn 4 ((V.ptr 4 0)::((V.ptr 5 0)::(jn 26 [])))),(gn 4 ((.live false [(V.gs 3 D),(V.gs 38 E)])::((.live false [(V.own 10 0 z 3),(V.own 13 0 C 38)])::(gn 4 ((.live true F)::(gn 2 ((.live true H)::(gn 18 []))))))))⟩
abbrev w5(Y:Type):Type:=Int->Int->Ls->Ls->Nat->Nat->List V->List V->Ob Y
abbrev uN(Y:Type):Type:=Ls->Ls->Nat->Nat->List V->List V->Ob Y
def yC(ca:dW)(L:Nat)(C:List V)(D:Int)(z:w5 Y):Ob Y:=chk (0+2<=(WcJ C)) (ca Y L (WbO V.ag (WcK 2 C)) (λE F H I=>z D (0:Int) ([]:Ls) ([]:Ls) E F H I))
theorem Ki(ca:dW)(L:Nat)(H:List V)(z:Int)(k:KK Y):dj i5 (i4 ca L) L cf_ref30_advance [(V.agg H),(QQe z)] [] k=yC ca L H z (λz M E F C D I J=>dX (cC i5 (i4 ca L) 0 L pU) qX L (lJ z M E F C D I J) (cW 0 (dN (cC i5 (i4 ca L) 0 L AK) (eo 0 (CF.res cf_ref30_advance) k)))):=by kernel_rfl
def li(ca:dW)(L:Nat)(M D:Int)(H I:Ls)(z E:Nat)(F J:List V)(C:w5 Y)(N:uN Y):Ob Y:=ifb (decide (D<((z:Nat):Int))) (chk (0<=D/\D<((z:Nat):Int)) (cI .i64 F ((0+((WcL D)*3))+2) λO=>lt (Wbf .i64 ((M:Int)-(1:Int))) λP=>ifb ((O:Int)==P) (chk (0<=D/\D<((z:Nat):Int)) (chk (1=1/\((0+((WcL D)*3))+2)+1<=(WcJ F)) (lt (cD F ((0+((WcL D)*3))+2) [(QQe M)]) λQ=>lt (Wbf .i64 ((D:Int)+(1:Int))) λR=>C M R H I z E Q J))) (lt (Wbf .i64 ((D:Int)+(1:Int))) λS=>C M S H I z E F J))) (N H I z E F J)
theorem D9(ca:dW)(L:Nat)(I J:Int)(D E:Ls)(z C:Nat)(F H:List V)(X:St->Ob Y)(K:KT Y):cC i5 (i4 ca L) 0 L pU (lJ I J D E z C F H) (fO qX X K)=li ca L I J D E z C F H (λI J D E z C F H=>X (lJ I J D E z C F H)) (λD E z C F H=>K (.exit 0) (rP D E z C F H)):=by kernel_rfl
def oU(ca:dW)(L:Nat)(H I:Ls)(z C:Nat)(E F:List V)(D:List V->Ob Y):Ob Y:=D [(V.sl 3 (cz 3 z E)),(V.sl 38 (cz 38 C F))]
theorem Cy(ca:dW)(L:Nat)(D E:Ls)(z C:Nat)(F H:List V)(k:KK Y):(cW 0 (dN (cC i5 (i4 ca L) 0 L AK) (eo 0 (CF.res cf_ref30_advance) k))) (.exit 0) (rP D E z C F H)=oU ca L D E z C F H (λI=>k (V.agg I) []):=by kernel_rfl
def iU(ca:dW)(L:Nat)(F:uN Y):Nat->Int->Int->Ls->Ls->Nat->Nat->List V->List V->Ob Y
 | 0,_,_,_,_,_,_,_,_=>none
 | n+1,J,M,D,E,z,C,H,I=>li ca L J M D E z C H I (λJ M D E z C H I=>iU ca L F n J M D E z C H I) F
theorem uE(ca:dW)(L:Nat)(K:KT Y):∀ (n:Nat) (I J:Int) (D E:Ls) (z C:Nat) (F H:List V),dX (cC i5 (i4 ca L) 0 L pU) qX n (lJ I J D E z C F H) K=iU ca L (λD E z C F H=>K (.exit 0) (rP D E z C F H)) n I J D E z C F H:=by
 intro n; induction n <;> intros
 ·rfl
 ·exact (D9 ..).trans (by simp only [*]; rfl)
def su(ca:dW)(L:Nat)(M:List V)(J:Int)(I:List V->Ob Y):Ob Y:=yC ca L M J (λJ N D E z C F H=>iU ca L (λD E z C F H=>oU ca L D E z C F H I) L J N D E z C F H)
theorem JE(ca:dW)(L:Nat)(z:List V)(C:Int)(k:KK Y):dj i5 (i4 ca L) L cf_ref30_advance [(V.agg z),(QQe C)] [] k=su ca L z C (λz=>k (V.agg z) []):=by
 refine (Ki ca L z C k).trans ?_
 unfold su
 first
  | (simp only [uE,Cy]; done)
  | (simp only [uE]; rfl)
abbrev oM:=∀ (Y:Type),Nat->List V->Int->(List V->Ob Y)->Ob Y
def ft:oM:=λY=>@su Y ca
def yv(ft:oM)(L:Nat):Dk:=dA AG λz=>dA (AI .i64) λC=>d0 λY k=>ft Y L z C (λz=>k (V.agg z) [])
theorem Kc(L:Nat):DK (yv ft L) (λ_=>dj i5 (i4 ca L) L cf_ref30_advance):=dl fN λz=>dl gm λC=>fy λ_ k=>JE ca L z C k
def GG:CF:=cfD DX 26
def zK:Nat->Sh:=fQ [(28,(.sl 38)),(44,(.row [(.sl 3),(.sl 38)]))]
def An(f6:tC)(f9:q9)(cZ:ic)(fP:tI)(ft:oM)(L:Nat):CBC:=(d6 841 (yv ft L) (d6 795 (C8 fP L) (d6 837 (As cZ L) (d6 522 (Bw f9 L) (d6 840 (DN f6 L) noC)))))
def oe(f6:tC)(f9:q9)(cZ:ic)(fP:tI)(ft:oM)(L:Nat)(C:List V)(H:Int)(E:List V)(z:List V->Int->Ob Y):Ob Y:=chk (0+2<=(WcJ C)) (f6 Y L (WbO V.ag (WcK 2 C)) H (λI=>ifb ((I:Int) != (0:Int)) (lt [(V.sl 3 ([]:Ls)),(V.sl 38 ([]:Ls))] λJ=>chk (0=0/\(WcJ J)=2/\2≠0) (z J I)) (chk (0+69<=(WcJ E)) (f9 Y L (WbO V.ag (WcK 69 E)) (λM=>ifb ((M:Int) != (0:Int)) (lt [(V.sl 3 ([]:Ls)),(V.sl 38 ([]:Ls))] λN=>chk (0=0/\(WcJ N)=2/\2≠0) (z N M)) (cLd 38 C 1 λR=>chk (0+2<=(WcJ C)) (cZ Y L (WbO V.ag (WcK 2 C)) (λS=>chk (0+2<=(WcJ C)) (cZ Y L (WbO V.ag (WcK 2 C)) (λT=>chk (0+69<=(WcJ E)) (fP Y L R S T (WbO V.ag (WcK 69 E)) H (λU O=>ifb ((O:Int) != (0:Int)) (lt [(V.sl 3 ([]:Ls)),(V.sl 38 ([]:Ls))] λP=>chk (0=0/\(WcJ P)=2/\2≠0) (z P O)) (chk (0+2<=(WcJ C)) (ft Y L (WbO V.ag (WcK 2 C)) H (λD=>chk (WcJ D=2) (cL 3 D 0 λQ=>cL 38 D 1 λc9=>lt [(V.sl 3 Q),(V.sl 38 U)] λF=>chk (0=0/\(WcJ F)=2/\2≠0) (z F (0:Int))))))))))))))))))
theorem OB(f6:tC)(f9:q9)(cZ:ic)(fP:tI)(ft:oM)(L:Nat)(D:List V)(E:Int)(F:List V)(k:KK Y):dj zK (An f6 f9 cZ fP ft L) L GG [(V.agg D),(QQe E),(V.agg F)] [] k=oe f6 f9 cZ fP ft L D E F (λz C=>k (V.ah [(V.agg z),(QQe C)]) []):=by kernel_rfl
abbrev ir:=∀ (Y:Type),Nat->List V->Int->List V->(List V->Int->Ob Y)->Ob Y
def cY:ir:=λY=>@oe Y f6 f9 cZ fP ft
def Br(cY:ir)(L:Nat):Dk:=dA AG λD=>dA (AI .i64) λE=>dA AG λF=>d0 λY k=>cY Y L D E F (λz C=>k (V.ah [(V.agg z),(QQe C)]) [])
theorem OR(L:Nat):DK (Br cY L) (λ_=>dj zK (An f6 f9 cZ fP ft L) L GG):=dl fN λz=>dl gm λC=>dl fN λD=>fy λ_ k=>OB f6 f9 cZ fP ft L z C D k
def cf_law30_made:CF:=cfD EV 8
def tj:CC:=eS [1,1,0,1,0,0] cf_law30_made.body
def Er:CC:=eS [1,1,1] cf_law30_made.body
def kz:Nat->Sh:=fQ [(67,(.sl 69)),(25,(.sl 69)),(36,(.sl 69))]
def kw(bR:dH)(dk:io)(dz:i9)(cS:gO)(cr:eP)(cY:ir)(L:Nat):CBC:=(d6 828 (Br cY L) (d6 822 (yW cr L) (d6 827 (z9 cS L) (d6 819 (F0 dz L) (d6 448 (Bz dk L) (d6 231 (lW bR L) noC))))))
def u2:St->St:=fF 1 (bl 121 83) (bl 9351168509897910781984895 83)
def nj(F:Int)(z:Ls)(C:Int)(H:List V)(D E:Ls)(I:List V):St:=⟨((V.ptr 0 0)::(jn 2 ((V.ptr 4 0)::((V.ptr 5 0)::((V.ptr 6 0)::((QQe F)::(jn 76 []))))))),((.live false [(V.sl 1 z),(QQe C)])::(gn 3 ((.live true H)::((.live true [(V.gs 3 D),(V.gs 38 E)])::((.live true I)::(gn 77 []))))))⟩
def wM(z:Ls)(C:Int)(D E:Ls)(F:List V):St:=⟨(jn 4 ((V.ptr 5 0)::((V.ptr 6 0)::(jn 77 [])))),((.live false [(V.sl 1 z),(QQe C)])::(gn 4 ((.live true [(V.gs 3 D),(V.gs 38 E)])::((.live true F)::(gn 77 [])))))⟩
abbrev A9(Y:Type):Type:=Int->Ls->Int->List V->Ls->Ls->List V->Ob Y
abbrev uz(Y:Type):Type:=Ls->Int->Ls->Ls->List V->Ob Y
def D5(bR:dH)(dk:io)(dz:i9)(cS:gO)(cr:eP)(cY:ir)(L:Nat)(E:List V)(C:Ls)(D:Int)(z:A9 Y):Ob Y:=bR Y L (24:Int) C D (λF H I=>z F H I E ([]:Ls) ([]:Ls) [(V.gs 3 ([]:Ls)),(V.gs 38 ([]:Ls))])
theorem Q8(bR:dH)(dk:io)(dz:i9)(cS:gO)(cr:eP)(cY:ir)(L:Nat)(F:List V)(z:Ls)(C:Int)(k:KK Y):dj kz (kw bR dk dz cS cr cY L) L cf_law30_made [(V.ptr 0 0),(V.agg F)] [(.live false [(V.sl 1 z),(QQe C)])] k=D5 bR dk dz cS cr cY L F z C (λH z C I D E J=>dX (cC kz (kw bR dk dz cS cr cY L) 1 L tj) u2 L (nj H z C I D E J) (cW 0 (dN (cC kz (kw bR dk dz cS cr cY L) 1 L Er) (eo 1 (CF.res cf_law30_made) k)))):=by kernel_rfl
def ii(bR:dH)(dk:io)(dz:i9)(cS:gO)(cr:eP)(cY:ir)(L:Nat)(H:Int)(I:Ls)(J:Int)(F:List V)(D E:Ls)(C:List V)(z:A9 Y)(ab:uz Y):Ob Y:=ifb (decide (H>(0:Int))) (bR Y L (4:Int) I J (λv3 O P=>ifb ((v3:Int)==(0:Int)) (chk (0+2<=(WcJ C)) (bR Y L (6:Int) O P (λv6 v7 v8=>lt (Wbf .u8 v6) λx9=>dk Y L x9 (λad=>bR Y L (3:Int) v7 v8 (λan Q R=>lt (Wbf .i64 (((1:Int):Int)+an)) λao=>dz Y L (WbO V.ag (WcK 2 C)) ad ao (λS ap=>chk ((WcJ S)=2/\0+2<=2) (lt (cD [(V.gs 3 ([]:Ls)),(V.gs 38 ([]:Ls))] 0 S) λM=>ifb ((ap:Int)==(0:Int)) (chk (0+2<=(WcJ M)) (chk ((WcJ (WcK 2 M))=2/\0+2<=(WcJ C)) (lt (cD C 0 (WcK 2 M)) λaq=>lt (Wbf .i64 ((H:Int)-(1:Int))) λar=>z ar Q R F D E aq))) (lt (Wbf .i64 ((H:Int)-(1:Int))) λau=>z au Q R F D E C)))))))) (ifb ((v3:Int)==(1:Int)) (chk (0+2<=(WcJ C)) (cLd 69 F 80 λav=>lt (Wbf .i64 ((((WcJ av:Nat):Int):Int)+(1:Int))) λaz=>bR Y L az O P (λaJ T U=>cS Y L (WbO V.ag (WcK 2 C)) aJ (λc9 aN=>chk ((WcJ c9)=2/\0+2<=2) (lt (cD [(V.gs 3 ([]:Ls)),(V.gs 38 ([]:Ls))] 0 c9) λN=>ifb ((aN:Int)==(0:Int)) (bR Y L (4:Int) T U (λaV X c8=>ifb ((aV:Int)==(0:Int)) (chk (0+2<=(WcJ N)) (chk ((WcJ (WcK 2 N))=2/\0+2<=(WcJ C)) (lt (cD C 0 (WcK 2 N)) λaZ=>lt (Wbf .i64 ((H:Int)-(1:Int))) λa0=>z a0 X c8 F D E aZ))) (lt (Wbf .i64 ((H:Int)-(1:Int))) λa1=>z a1 X c8 F D E C))) (lt (Wbf .i64 ((H:Int)-(1:Int))) λa2=>z a2 T U F D E C)))))) (chk (0+2<=(WcJ C)) (cLd 69 F 80 λa3=>cr Y L (WbO V.ag (WcK 2 C)) ((WcJ a3:Nat):Int) (λb9 bm a4=>ifb a4 (chk (0+2<=(WcJ C)) (cLd 69 F 80 λa5=>lt (Wbf .i64 ((b9:Int)-(1:Int))) λa6=>idx a5 a6 λa7=>cY Y L (WbO V.ag (WcK 2 C)) b9 (WbO V.ag (WcK 69 a7)) (λaa bp=>chk ((WcJ aa)=2/\0+2<=(WcJ C)) (lt (cD C 0 aa) λa9=>lt (Wbf .i64 ((H:Int)-(1:Int))) λba=>z ba O P F D E a9)))) (lt (Wbf .i64 ((H:Int)-(1:Int))) λbb=>z bb O P F D E C))))))) (ab I J D E C)
theorem Ii(bR:dH)(dk:io)(dz:i9)(cS:gO)(cr:eP)(cY:ir)(L:Nat)(H:Int)(z:Ls)(C:Int)(I:List V)(D E:Ls)(F:List V)(X:St->Ob Y)(K:KT Y):cC kz (kw bR dk dz cS cr cY L) 1 L tj (nj H z C I D E F) (fO u2 X K)=ii bR dk dz cS cr cY L H z C I D E F (λH z C I D E F=>X (nj H z C I D E F)) (λz C D E F=>K (.exit 0) (wM z C D E F)):=by kernel_rfl
def rK(bR:dH)(dk:io)(dz:i9)(cS:gO)(cr:eP)(cY:ir)(L:Nat)(D:Ls)(E:Int)(F H:Ls)(I:List V)(z:List V->Ls->Int->Ob Y):Ob Y:=chk (0+2<=(WcJ I)) (chk ((WcJ (WcK 2 I))=2/\0+2<=2) (lt (cD [(V.gs 3 F),(V.gs 38 H)] 0 (WcK 2 I)) λC=>chk (0=0/\(WcJ C)=2/\2≠0) (z C D E)))
theorem FC(bR:dH)(dk:io)(dz:i9)(cS:gO)(cr:eP)(cY:ir)(L:Nat)(z:Ls)(C:Int)(D E:Ls)(F:List V)(k:KK Y):(cW 0 (dN (cC kz (kw bR dk dz cS cr cY L) 1 L Er) (eo 1 (CF.res cf_law30_made) k))) (.exit 0) (wM z C D E F)=rK bR dk dz cS cr cY L z C D E F (λH z C=>k (V.agg H) [(.live false [(V.sl 1 z),(QQe C)])]):=by kernel_rfl
def fG(bR:dH)(dk:io)(dz:i9)(cS:gO)(cr:eP)(cY:ir)(L:Nat)(F:uz Y):Nat->Int->Ls->Int->List V->Ls->Ls->List V->Ob Y
 | 0,_,_,_,_,_,_,_=>none
 | n+1,H,z,C,I,D,E,J=>ii bR dk dz cS cr cY L H z C I D E J (λH z C I D E J=>fG bR dk dz cS cr cY L F n H z C I D E J) F
theorem xq(bR:dH)(dk:io)(dz:i9)(cS:gO)(cr:eP)(cY:ir)(L:Nat)(K:KT Y):∀ (n:Nat) (H:Int) (z:Ls) (C:Int) (I:List V) (D E:Ls) (F:List V),dX (cC kz (kw bR dk dz cS cr cY L) 1 L tj) u2 n (nj H z C I D E F) K=fG bR dk dz cS cr cY L (λz C D E F=>K (.exit 0) (wM z C D E F)) n H z C I D E F:=by
 intro n; induction n <;> intros
 ·rfl
 ·exact (Ii ..).trans (by simp only [*]; rfl)
def yh(bR:dH)(dk:io)(dz:i9)(cS:gO)(cr:eP)(cY:ir)(L:Nat)(I:List V)(z:Ls)(C:Int)(F:List V->Ls->Int->Ob Y):Ob Y:=D5 bR dk dz cS cr cY L I z C (λJ z C M D E H=>fG bR dk dz cS cr cY L (λz C D E H=>rK bR dk dz cS cr cY L z C D E H F) L J z C M D E H)
theorem RI(bR:dH)(dk:io)(dz:i9)(cS:gO)(cr:eP)(cY:ir)(L:Nat)(D:List V)(z:Ls)(C:Int)(k:KK Y):dj kz (kw bR dk dz cS cr cY L) L cf_law30_made [(V.ptr 0 0),(V.agg D)] [(.live false [(V.sl 1 z),(QQe C)])] k=yh bR dk dz cS cr cY L D z C (λE z C=>k (V.agg E) [(.live false [(V.sl 1 z),(QQe C)])]):=by
 refine (Q8 bR dk dz cS cr cY L D z C k).trans ?_
 unfold yh
 first
  | (simp only [xq,FC]; done)
  | (simp only [xq]; rfl)
abbrev gU:=∀ (Y:Type),Nat->List V->Ls->Int->(List V->Ls->Int->Ob Y)->Ob Y
def dm:gU:=λY=>@yh Y bR dk dz cS cr cY
def xB(dm:gU)(L:Nat)(Y:Type)(args:List V)(bor:Bor)(k:KK Y):Ob Y:=match args,bor with
 | [a0,a1],[(.live false [w0_0,w0_1])]=>aP 0 0 a0 (aG a1 λD=>aL 1 w0_0 λz=>aI .i64 w0_1 λC=>dm Y L D z C (λE z C=>k (V.agg E) [(.live false [(V.sl 1 z),(QQe C)])]))
 | _,_=>none
theorem Qz(L:Nat)(Y:Type)(args:List V)(bor:Bor)(k:KK Y)(r:Y)(h:xB dm L Y args bor k=some r):dj kz (kw bR dk dz cS cr cY L) L cf_law30_made args bor k=some r:=by
 unfold xB at h
 split at h
 ·have q:=Gj h; clear h; obtain ⟨rfl,h⟩:=q
  have q:=zbL h; clear h; obtain ⟨D,rfl,h⟩:=q
  have q:=AV h; clear h; obtain ⟨z,rfl,h⟩:=q
  have q:=tU h; clear h; obtain ⟨C,rfl,h⟩:=q
  exact (RI bR dk dz cS cr cY L D z C k).trans h
 ·cases h
def cf_scan_Reached:CF:=cfD Cc 21
def pJ:CC:=eS [1,1,1,0,1,0,0] cf_scan_Reached.body
def A6:CC:=eS [1,1,1,1] cf_scan_Reached.body
def jz:Nat->Sh:=fQ [(7,(.sl 3)),(11,(.sl 3)),(14,(.int .i64)),(16,(.sl 3)),(24,(.int .i64))]
def jB(L:Nat):CBC:=noC
def qF:St->St:=fF 0 (bl 458760 28) (bl 234880989 28)
def lM(E:Int)(z:Ls)(C D:Int):St:=⟨(jn 3 ((QQe E)::(jn 12 ((V.sl 3 z)::((QQe C)::((QQe D)::(jn 9 []))))))),(gn 28 [])⟩
def tD(z:Int):St:=⟨(jn 3 ((QQe z)::(jn 24 []))),(gn 28 [])⟩
def Ag(L:Nat)(D:List V)(C:Int->Ob Y)(z:Int->Ls->Int->Int->Ob Y):Ob Y:=cLd 3 D 0 λF=>ifb ((((WcJ F:Nat):Int):Int)==(0:Int)) (C (-1:Int)) (cLd 3 D 0 λH=>idx H (0:Int) λI=>cI .i64 (WcM 2 I) 0 λJ=>cLd 3 D 0 λE=>z J E ((WcJ E:Nat):Int) (0:Int))
theorem Mb(L:Nat)(z:List V)(k:KK Y):dj jz (jB L) L cf_scan_Reached [(V.agg z)] [] k=Ag L z (λz=>k (QQe z) []) (λF C D E=>dX (cC jz (jB L) 0 L pJ) qF L (lM F C D E) (cW 0 (dN (cC jz (jB L) 0 L A6) (eo 0 (CF.res cf_scan_Reached) k)))):=by kernel_rfl
def qH(L:Nat)(H:Int)(D:Ls)(E C:Int)(z:Int->Ls->Int->Int->Ob Y)(F:Int->Ob Y):Ob Y:=ifb (decide (C<E)) (idx D C λI=>chk ((WcJ (WcK 3 I))=3/\0+3<=3) (lt (cD [(V.gs 1 ([]:Ls)),(QQe (0:Int)),(QQe (0:Int))] 0 (WcK 3 I)) λJ=>cI .i64 J 2 λM=>lt (Lc H M) λN=>lt (Wbf .i64 ((C:Int)+(1:Int))) λO=>z N D E O)) (F H)
theorem Ek(L:Nat)(E:Int)(z:Ls)(C D:Int)(X:St->Ob Y)(K:KT Y):cC jz (jB L) 0 L pJ (lM E z C D) (fO qF X K)=qH L E z C D (λE z C D=>X (lM E z C D)) (λE=>K (.exit 0) (tD E)):=by kernel_rfl
def mg(L:Nat)(C:Int)(z:Int->Ob Y):Ob Y:=z C
theorem Cr(L:Nat)(z:Int)(k:KK Y):(cW 0 (dN (cC jz (jB L) 0 L A6) (eo 0 (CF.res cf_scan_Reached) k))) (.exit 0) (tD z)=mg L z (λC=>k (QQe C) []):=by kernel_rfl
def lk(L:Nat)(z:Int->Ob Y):Nat->Int->Ls->Int->Int->Ob Y
 | 0,_,_,_,_=>none
 | n+1,F,C,D,E=>qH L F C D E (λF C D E=>lk L z n F C D E) z
theorem uF(L:Nat)(K:KT Y):∀ (n:Nat) (z:Int) (C:Ls) (D E:Int),dX (cC jz (jB L) 0 L pJ) qF n (lM z C D E) K=lk L (λz=>K (.exit 0) (tD z)) n z C D E:=by
 intro n; induction n <;> intros
 ·rfl
 ·exact (Ek ..).trans (by simp only [*]; rfl)
def uC(L:Nat)(H:List V)(z:Int->Ob Y):Ob Y:=Ag L H z (λC D E F=>lk L (λC=>mg L C z) L C D E F)
theorem My(L:Nat)(z:List V)(k:KK Y):dj jz (jB L) L cf_scan_Reached [(V.agg z)] [] k=uC L z (λz=>k (QQe z) []):=by
 refine (Mb L z k).trans ?_
 unfold uC
 first
  | (simp only [uF,Cr]; done)
  | (simp only [uF]; rfl)
abbrev cT:=∀ (Y:Type),Nat->List V->(Int->Ob Y)->Ob Y
def bN:cT:=λY=>@uC Y
def pt(bN:cT)(L:Nat):Dk:=dA AG λz=>d0 λY k=>bN Y L z (λz=>k (QQe z) [])
theorem L5(L:Nat):DK (pt bN L) (λ_=>dj jz (jB L) L cf_scan_Reached):=dl fN λz=>fy λ_ k=>My L z k
def GI:CF:=cfD DS 40
def zy:Nat->Sh:=fQ []
def zW(L:Nat):CBC:=noC
def BC(L:Nat)(D:Ls)(z:Ls->Ob Y):Ob Y:=lc D (z ([]:Ls)) (λh0 C=>chk ((0+WcJ (h0::C))*1<=cy/\0+WcJ (h0::C)<=cy) (chk ((WcJ (h0::C))≠0∨(WcJ (WcN (h0::C)))=0) (z (cz 1 (WcJ (h0::C)) (WcN (h0::C))))))
theorem NL(L:Nat)(z:Ls)(k:KK Y):dj zy (zW L) L GI [(V.sl 1 z)] [] k=BC L z (λz=>k (V.fr 1 z) []):=by kernel_rfl
abbrev eO:=∀ (Y:Type),Nat->Ls->(Ls->Ob Y)->Ob Y
def cq:eO:=λY=>@BC Y
def vX(cq:eO)(L:Nat):Dk:=dA (AL 1) λz=>d0 λY k=>cq Y L z (λz=>k (V.fr 1 z) [])
theorem OJ(L:Nat):DK (vX cq L) (λ_=>dj zy (zW L) L GI):=dl im λz=>fy λ_ k=>NL L z k
def cf_scan_due:CF:=cfD IO 42
def vg:CC:=eS [1,1,1,0,1,0,0] cf_scan_due.body
def Gp:CC:=eS [1,1,1,1] cf_scan_due.body
def mj:Nat->Sh:=fQ [(11,(.sl 3)),(18,(.int .i64)),(23,(.sl 1))]
def mc(bN:cT)(L:Nat):CBC:=(d6 824 (pt bN L) noC)
def wd:St->St:=fF 0 (bl 14360 27) (bl 134217661 27)
def nY(E:Int)(z:Ls)(C D:Int)(F:Lm):St:=⟨(jn 3 ((QQe E)::((V.ptr 4 0)::(jn 6 ((V.sl 3 z)::((QQe C)::((QQe D)::(jn 13 [])))))))),(gn 4 ((.live false [(V.mp 9)])::(gn 4 ((.mp F)::(gn 17 [])))))⟩
def zL(z:Lm):St:=⟨(jn 4 ((V.ptr 4 0)::(jn 22 []))),(gn 4 ((.live false [(V.mp 9)])::(gn 4 ((.mp z)::(gn 17 [])))))⟩
def Hv(bN:cT)(L:Nat)(C:List V)(z:Int->Ls->Int->Int->Lm->Ob Y):Ob Y:=chk (0+2<=(WcJ C)) (bN Y L (WbO V.ag (WcK 2 C)) (λE=>cLd 3 C 0 λD=>z E D ((WcJ D:Nat):Int) (0:Int) ([]:Lm)))
theorem UJ(bN:cT)(L:Nat)(z:List V)(k:KK Y):dj mj (mc bN L) L cf_scan_due [(V.agg z)] [] k=Hv bN L z (λF C D E H=>dX (cC mj (mc bN L) 0 L vg) wd L (nY F C D E H) (cW 0 (dN (cC mj (mc bN L) 0 L Gp) (eo 0 (CF.res cf_scan_due) k)))):=by kernel_rfl
def nz(bN:cT)(L:Nat)(F:Int)(D:Ls)(E C:Int)(H:Lm)(z:Int->Ls->Int->Int->Lm->Ob Y)(I:Lm->Ob Y):Ob Y:=ifb (decide (C<E)) (idx D C λJ=>chk ((WcJ (WcK 3 J))=3/\0+3<=3) (lt (cD [(V.gs 1 ([]:Ls)),(QQe (0:Int)),(QQe (0:Int))] 0 (WcK 3 J)) λM=>cI .i64 M 2 λN=>ifb ((N:Int)==F) (cLd 1 M 0 λO=>zz O λP=>VN 1 (V.sc (.string P)) (V.sc (.bool true)) H λQ=>lt (Wbf .i64 ((C:Int)+(1:Int))) λR=>z F D E R Q) (lt (Wbf .i64 ((C:Int)+(1:Int))) λS=>z F D E S H))) (I H)
theorem Ja(bN:cT)(L:Nat)(F:Int)(z:Ls)(C D:Int)(E:Lm)(X:St->Ob Y)(K:KT Y):cC mj (mc bN L) 0 L vg (nY F z C D E) (fO wd X K)=nz bN L F z C D E (λF z C D E=>X (nY F z C D E)) (λE=>K (.exit 0) (zL E)):=by kernel_rfl
def Bf(bN:cT)(L:Nat)(C:Lm)(z:Lm->Ob Y):Ob Y:=z C
theorem G1(bN:cT)(L:Nat)(z:Lm)(k:KK Y):(cW 0 (dN (cC mj (mc bN L) 0 L Gp) (eo 0 (CF.res cf_scan_due) k))) (.exit 0) (zL z)=Bf bN L z (λC=>k (V.fn 844 [(V.ptr 0 0)]) [(.live false [(V.mp 1)]),(.mp C)]):=by kernel_rfl
def kK(bN:cT)(L:Nat)(z:Lm->Ob Y):Nat->Int->Ls->Int->Int->Lm->Ob Y
 | 0,_,_,_,_,_=>none
 | n+1,F,C,D,E,H=>nz bN L F C D E H (λF C D E H=>kK bN L z n F C D E H) z
theorem zi(bN:cT)(L:Nat)(K:KT Y):∀ (n:Nat) (F:Int) (C:Ls) (D E:Int) (z:Lm),dX (cC mj (mc bN L) 0 L vg) wd n (nY F C D E z) K=kK bN L (λz=>K (.exit 0) (zL z)) n F C D E z:=by
 intro n; induction n <;> intros
 ·rfl
 ·exact (Ja ..).trans (by simp only [*]; rfl)
def Cv(bN:cT)(L:Nat)(H:List V)(z:Lm->Ob Y):Ob Y:=Hv bN L H (λI D E F C=>kK bN L (λC=>Bf bN L C z) L I D E F C)
theorem UD(bN:cT)(L:Nat)(z:List V)(k:KK Y):dj mj (mc bN L) L cf_scan_due [(V.agg z)] [] k=Cv bN L z (λC=>k (V.fn 844 [(V.ptr 0 0)]) [(.live false [(V.mp 1)]),(.mp C)]):=by
 refine (UJ bN L z k).trans ?_
 unfold Cv
 first
  | (simp only [zi,G1]; done)
  | (simp only [zi]; rfl)
abbrev gf:=∀ (Y:Type),Nat->List V->(Lm->Ob Y)->Ob Y
def cQ:gf:=λY=>@Cv Y bN
def Ia(cQ:gf)(L:Nat):Dk:=dA AG λz=>d0 λY k=>cQ Y L z (λC=>k (V.fn 844 [(V.ptr 0 0)]) [(.live false [(V.mp 1)]),(.mp C)])
theorem UH(L:Nat):DK (Ia cQ L) (λ_=>dj mj (mc bN L) L cf_scan_due):=dl fN λz=>fy λ_ k=>UD bN L z k
def AM:CF:=cfD yj 66
def sQ:Nat->Sh:=fQ [(1,(.row [(.int .u8),(.int .u8),(.int .u8),(.int .u8),(.int .u8),(.int .u8),(.int .u8),(.int .u8),(.int .u8),(.int .u8),(.int .u8),(.int .u8),(.int .u8),(.int .u8),(.int .u8),(.int .u8),(.int .u8),(.int .u8),(.int .u8),(.int .u8),(.int .u8),(.int .u8),(.int .u8),(.int .u8),(.int .u8),(.int .u8),(.int .u8),(.int .u8),(.int .u8),(.int .u8),(.int .u8),(.int .u8),(.int .u32),(.int .i64),(.sl 1),(.int .i64),.bool]))]
def sV(cq:eO)(L:Nat):CBC:=(d6 584 (vX cq L) noC)
def Cl(cq:eO)(L:Nat)(z:List V)(C:List V->Ob Y):Ob Y:=chk (WcJ z=37) (cI .u8 z 0 λv0=>cI .u8 z 1 λv1=>cI .u8 z 2 λv2=>cI .u8 z 3 λv3=>cI .u8 z 4 λv4=>cI .u8 z 5 λv5=>cI .u8 z 6 λv6=>cI .u8 z 7 λv7=>cI .u8 z 8 λv8=>cI .u8 z 9 λv9=>cI .u8 z 10 λE=>cI .u8 z 11 λF=>cI .u8 z 12 λH=>cI .u8 z 13 λI=>cI .u8 z 14 λJ=>cI .u8 z 15 λM=>cI .u8 z 16 λN=>cI .u8 z 17 λO=>cI .u8 z 18 λP=>cI .u8 z 19 λQ=>cI .u8 z 20 λR=>cI .u8 z 21 λS=>cI .u8 z 22 λT=>cI .u8 z 23 λU=>cI .u8 z 24 λc9=>cI .u8 z 25 λX=>cI .u8 z 26 λc8=>cI .u8 z 27 λb9=>cI .u8 z 28 λaa=>cI .u8 z 29 λab=>cI .u8 z 30 λac=>cI .u8 z 31 λad=>cI .u32 z 32 λag=>cI .i64 z 33 λan=>cL 1 z 34 λao=>cI .i64 z 35 λap=>cB z 36 λaq=>cq Y L ao (λar=>lt [(QQa v0),(QQa v1),(QQa v2),(QQa v3),(QQa v4),(QQa v5),(QQa v6),(QQa v7),(QQa v8),(QQa v9),(QQa E),(QQa F),(QQa H),(QQa I),(QQa J),(QQa M),(QQa N),(QQa O),(QQa P),(QQa Q),(QQa R),(QQa S),(QQa T),(QQa U),(QQa c9),(QQa X),(QQa c8),(QQa b9),(QQa aa),(QQa ab),(QQa ac),(QQa ad),(QQc ag),(QQe an),(V.sl 1 ar),(QQe ap),(V.sc (.bool aq))] λD=>chk (0=0/\(WcJ D)=37/\37≠0) (C D)))
theorem ID(cq:eO)(L:Nat)(z:List V)(k:KK Y):dj sQ (sV cq L) L AM [(V.agg z)] [] k=Cl cq L z (λz=>k (V.agg z) []):=by kernel_rfl
abbrev fU:=∀ (Y:Type),Nat->List V->(List V->Ob Y)->Ob Y
def cO:fU:=λY=>@Cl Y cq
def vp(cO:fU)(L:Nat):Dk:=dA AG λz=>d0 λY k=>cO Y L z (λz=>k (V.agg z) [])
theorem HX(L:Nat):DK (vp cO L) (λ_=>dj sQ (sV cq L) L AM):=dl fN λz=>fy λ_ k=>ID cq L z k
def cf_coins_Unspent:CF:=cfD AP 43
def pO:CC:=eS [1,1,0,1,0,0] cf_coins_Unspent.body
def AZ:CC:=eS [1,1,1] cf_coins_Unspent.body
def iY:Nat->Sh:=fQ [(13,(.int .i64))]
def iZ(cO:fU)(L:Nat):CBC:=(d6 549 (vp cO L) noC)
def qt:St->St:=fF 0 (bl 456 23) (bl 6553567 23)
def lO(z C:Ls)(D E:Int):St:=⟨(jn 3 ((V.gs 37 z)::(jn 2 ((V.sl 38 C)::((QQe D)::((QQe E)::(jn 14 []))))))),(gn 23 [])⟩
def sm(z:Ls):St:=⟨(jn 3 ((V.gs 37 z)::(jn 19 []))),(gn 23 [])⟩
def yd(cO:fU)(L:Nat)(C:Ls)(z:Ls->Ls->Int->Int->Ob Y):Ob Y:=z ([]:Ls) C ((WcJ C:Nat):Int) (0:Int)
theorem K4(cO:fU)(L:Nat)(z:Ls)(k:KK Y):dj iY (iZ cO L) L cf_coins_Unspent [(V.sl 38 z)] [] k=yd cO L z (λC D E F=>dX (cC iY (iZ cO L) 0 L pO) qt L (lO C D E F) (cW 0 (dN (cC iY (iZ cO L) 0 L AZ) (eo 0 (CF.res cf_coins_Unspent) k)))):=by kernel_rfl
def mZ(cO:fU)(L:Nat)(C F:Ls)(H D:Int)(z:Ls->Ls->Int->Int->Ob Y)(I:Ls->Ob Y):Ob Y:=ifb (decide (D<H)) (idx F D λM=>chk ((WcJ (WcK 38 M))=38/\0+38<=38) (lt (cD (Wad 32 (QQa (0:Int))++[(QQc (0:Int)),(QQe (0:Int)),(V.gs 1 ([]:Ls)),(QQe (0:Int)),(V.sc (.bool false)),(QQe (0:Int))]) 0 (WcK 38 M)) λJ=>cI .i64 J 37 λN=>ifb ((N:Int)==(0:Int)) (chk (0+37<=(WcJ J)) (cO Y L (WbO V.ag (WcK 37 J)) (λE=>chk ((WcJ E)=37/\0+37<=37) (chk ((WcJ C+WcJ (cz 37 1 (cD (Wad 32 (QQa (0:Int))++[(QQc (0:Int)),(QQe (0:Int)),(V.sl 1 ([]:Ls)),(QQe (0:Int)),(V.sc (.bool false))]) 0 E)))*88<=cy/\WcJ C+WcJ (cz 37 1 (cD (Wad 32 (QQa (0:Int))++[(QQc (0:Int)),(QQe (0:Int)),(V.sl 1 ([]:Ls)),(QQe (0:Int)),(V.sc (.bool false))]) 0 E))<=cy) (lt (C++(cz 37 1 (cD (Wad 32 (QQa (0:Int))++[(QQc (0:Int)),(QQe (0:Int)),(V.sl 1 ([]:Ls)),(QQe (0:Int)),(V.sc (.bool false))]) 0 E))) λO=>lt (Wbf .i64 ((D:Int)+(1:Int))) λP=>z O F H P))))) (lt (Wbf .i64 ((D:Int)+(1:Int))) λQ=>z C F H Q))) (I C)
theorem Ea(cO:fU)(L:Nat)(z C:Ls)(D E:Int)(X:St->Ob Y)(K:KT Y):cC iY (iZ cO L) 0 L pO (lO z C D E) (fO qt X K)=mZ cO L z C D E (λz C D E=>X (lO z C D E)) (λz=>K (.exit 0) (sm z)):=by kernel_rfl
def vC(cO:fU)(L:Nat)(C:Ls)(z:Ls->Ob Y):Ob Y:=z C
theorem CD(cO:fU)(L:Nat)(z:Ls)(k:KK Y):(cW 0 (dN (cC iY (iZ cO L) 0 L AZ) (eo 0 (CF.res cf_coins_Unspent) k))) (.exit 0) (sm z)=vC cO L z (λC=>k (V.gs 37 C) []):=by kernel_rfl
def j1(cO:fU)(L:Nat)(z:Ls->Ob Y):Nat->Ls->Ls->Int->Int->Ob Y
 | 0,_,_,_,_=>none
 | n+1,C,D,E,F=>mZ cO L C D E F (λC D E F=>j1 cO L z n C D E F) z
theorem uD(cO:fU)(L:Nat)(K:KT Y):∀ (n:Nat) (z C:Ls) (D E:Int),dX (cC iY (iZ cO L) 0 L pO) qt n (lO z C D E) K=j1 cO L (λz=>K (.exit 0) (sm z)) n z C D E:=by
 intro n; induction n <;> intros
 ·rfl
 ·exact (Ea ..).trans (by simp only [*]; rfl)
def sv(cO:fU)(L:Nat)(D:Ls)(z:Ls->Ob Y):Ob Y:=yd cO L D (λC E F H=>j1 cO L (λC=>vC cO L C z) L C E F H)
theorem KS(cO:fU)(L:Nat)(z:Ls)(k:KK Y):dj iY (iZ cO L) L cf_coins_Unspent [(V.sl 38 z)] [] k=sv cO L z (λz=>k (V.gs 37 z) []):=by
 refine (K4 cO L z k).trans ?_
 unfold sv
 first
  | (simp only [uD,CD]; done)
  | (simp only [uD]; rfl)
abbrev eN:=∀ (Y:Type),Nat->Ls->(Ls->Ob Y)->Ob Y
def cu:eN:=λY=>@sv Y cO
def xv(cu:eN)(L:Nat):Dk:=dA (AL 38) λz=>d0 λY k=>cu Y L z (λz=>k (V.gs 37 z) [])
theorem JG(L:Nat):DK (xv cu L) (λ_=>dj iY (iZ cO L) L cf_coins_Unspent):=dl im λz=>fy λ_ k=>KS cO L z k
def IK:CF:=cfD Fa 65
def B3:Nat->Sh:=fQ [(7,.bool)]
def BJ(L:Nat):CBC:=noC
def DH(L:Nat)(D:Ls)(C:Lm)(z:Bool->Lm->Ob Y):Ob Y:=zz D λE=>mAt 1 (V.sc (.string E)) C λq1=>aB (Option.getD q1 (V.sc (.bool false))) λF=>z F C
theorem Qe(L:Nat)(z:Ls)(C:Lm)(k:KK Y):dj B3 (BJ L) L IK [(V.sl 1 z),(V.ptr 0 0)] [(.live false [(V.mp 1)]),(.mp C)] k=DH L z C (λz C=>k (V.sc (.bool z)) [(.live false [(V.mp 1)]),(.mp C)]):=by kernel_rfl
abbrev fx:=∀ (Y:Type),Nat->Ls->Lm->(Bool->Lm->Ob Y)->Ob Y
def cG:fx:=λY=>@DH Y
def yi(cG:fx)(L:Nat)(Y:Type)(args:List V)(bor:Bor)(k:KK Y):Ob Y:=match args,bor with
 | [a0,a1],[(.live false [w0_0]),(.mp z)]=>aL 1 a0 λC=>aP 0 0 a1 (aM 1 w0_0 (cG Y L C z (λC z=>k (V.sc (.bool C)) [(.live false [(V.mp 1)]),(.mp z)])))
 | _,_=>none
theorem Ra(L:Nat)(Y:Type)(args:List V)(bor:Bor)(k:KK Y)(r:Y)(h:yi cG L Y args bor k=some r):dj B3 (BJ L) L IK args bor k=some r:=by
 unfold yi at h
 split at h
 ·have q:=AV h; clear h; obtain ⟨z,rfl,h⟩:=q
  have q:=Gj h; clear h; obtain ⟨rfl,h⟩:=q
  have q:=zgL h; clear h; obtain ⟨rfl,h⟩:=q
  exact (Qe L z _ k).trans h
 ·cases h
def Eu:CF:=cfD Cd 93
def xC:Nat->Sh:=fQ []
def xN(L:Nat):CBC:=noC
def Ac(L:Nat)(z C:Ls)(D:Ls->Ob Y):Ob Y:=lt (Wbf .i64 ((((WcJ z:Nat):Int):Int)+((WcJ C:Nat):Int))) λE=>chk (0<=(0:Int)/\(0:Int)<=E/\(WcL E)*1<=cy/\E<=cy) (chk ((WcJ (Wad 0 [(QQa (0:Int))])+WcJ z)*1<=cy/\WcJ (Wad 0 [(QQa (0:Int))])+WcJ z<=cy) (lt ((Wad 0 [(QQa (0:Int))])++z) λF=>chk ((WcJ F+WcJ C)*1<=cy/\WcJ F+WcJ C<=cy) (lt (F++C) λH=>D H)))
theorem Mc(L:Nat)(z C:Ls)(k:KK Y):dj xC (xN L) L Eu [(V.sl 1 z),(V.sl 1 C)] [] k=Ac L z C (λz=>k (V.gs 1 z) []):=by kernel_rfl
abbrev kP:=∀ (Y:Type),Nat->Ls->Ls->(Ls->Ob Y)->Ob Y
def dP:kP:=λY=>@Ac Y
def uy(dP:kP)(L:Nat):Dk:=dA (AL 1) λz=>dA (AL 1) λC=>d0 λY k=>dP Y L z C (λz=>k (V.gs 1 z) [])
theorem MJ(L:Nat):DK (uy dP L) (λ_=>dj xC (xN L) L Eu):=dl im λz=>dl im λC=>fy λ_ k=>Mc L z C k
def za:CF:=cfD xb 68
def sf:Nat->Sh:=fQ []
def rM(dP:kP)(L:Nat):CBC:=(d6 191 (uy dP L) noC)
def tb(dP:kP)(L:Nat)(D:Ls)(C:List V)(z:Ls->Ob Y):Ob Y:=chk (0+32*1<=(WcJ C)) (ifb (List.isEmpty C) (dP Y L D (cz 1 32 C) (λE=>z E)) (dP Y L D (cz 1 32 C) (λF=>z F)))
theorem He(dP:kP)(L:Nat)(z:Ls)(C:List V)(k:KK Y):dj sf (rM dP L) L za [(V.sl 1 z),(V.agg C)] [] k=tb dP L z C (λz=>k (V.gs 1 z) []):=by kernel_rfl
abbrev mw:=∀ (Y:Type),Nat->Ls->List V->(Ls->Ob Y)->Ob Y
def eY:mw:=λY=>@tb Y dP
def tB(eY:mw)(L:Nat):Dk:=dA (AL 1) λz=>dA AG λC=>d0 λY k=>eY Y L z C (λz=>k (V.gs 1 z) [])
theorem Hb(L:Nat):DK (tB eY L) (λ_=>dj sf (rM dP L) L za):=dl im λz=>dl fN λC=>fy λ_ k=>He dP L z C k
def cf_codec_lowest:CF:=cfD Cj 94
def qU:CC:=eS [1,1,0,1,0,0] cf_codec_lowest.body
def B6:CC:=eS [1,1,1] cf_codec_lowest.body
def jt:Nat->Sh:=fQ []
def ju(L:Nat):CBC:=noC
def rL:St->St:=fF 0 (bl 1569 23) (bl 8388543 23)
def mq(D:Int)(z:Nat)(E C:Int)(F:List V):St:=⟨((QQd D)::(jn 4 ((V.own 8 0 z 1)::(jn 3 ((QQe E)::((QQe C)::(jn 12 []))))))),(gn 8 ((.live true F)::(gn 14 [])))⟩
def s9(z:Nat)(C:List V):St:=⟨(jn 5 ((V.own 8 0 z 1)::(jn 17 []))),(gn 8 ((.live true C)::(gn 14 [])))⟩
def G6(L:Nat)(D z:Int)(C:Int->Nat->Int->Int->List V->Ob Y):Ob Y:=chk (0<=z/\z<=z/\(WcL z)*1<=cy/\z<=cy) (C D (WcL z) z (0:Int) (WcN (Wad (WcL z) [(QQa (0:Int))])))
theorem MK(L:Nat)(z C:Int)(k:KK Y):dj jt (ju L) L cf_codec_lowest [(QQd z),(QQe C)] [] k=G6 L z C (λz D F E H=>dX (cC jt (ju L) 0 L qU) rL L (mq z D F E H) (cW 0 (dN (cC jt (ju L) 0 L B6) (eo 0 (CF.res cf_codec_lowest) k)))):=by kernel_rfl
def zt(L:Nat)(H:Int)(D:Nat)(I z:Int)(E:List V)(C:Int->Nat->Int->Int->List V->Ob Y)(F:Nat->List V->Ob Y):Ob Y:=ifb (decide (z<I)) (lt (Wbf .i64 (((8:Int):Int)*z)) λJ=>chk (0<=J) (lt (JI .u64 H J) λM=>lt (Wbf .u8 M) λN=>chk (0<=z/\z<((D:Nat):Int)) (chk (1=1/\(0+((WcL z)*1))+1<=(WcJ E)) (lt (cD E (0+((WcL z)*1)) [(QQa N)]) λO=>lt (Wbf .i64 ((z:Int)+(1:Int))) λP=>C H D I P O)))) (F D E)
theorem FH(L:Nat)(E:Int)(z:Nat)(F C:Int)(D:List V)(X:St->Ob Y)(K:KT Y):cC jt (ju L) 0 L qU (mq E z F C D) (fO rL X K)=zt L E z F C D (λE z F C D=>X (mq E z F C D)) (λz D=>K (.exit 0) (s9 z D)):=by kernel_rfl
def xi(L:Nat)(C:Nat)(D:List V)(z:Ls->Ob Y):Ob Y:=chk (C≠0∨(WcJ D)=0) (z (cz 1 C D))
theorem DQ(L:Nat)(z:Nat)(C:List V)(k:KK Y):(cW 0 (dN (cC jt (ju L) 0 L B6) (eo 0 (CF.res cf_codec_lowest) k))) (.exit 0) (s9 z C)=xi L z C (λD=>k (V.fr 1 D) []):=by kernel_rfl
def rQ(L:Nat)(z:Nat->List V->Ob Y):Nat->Int->Nat->Int->Int->List V->Ob Y
 | 0,_,_,_,_,_=>none
 | n+1,E,C,F,D,H=>zt L E C F D H (λE C F D H=>rQ L z n E C F D H) z
theorem vy(L:Nat)(K:KT Y):∀ (n:Nat) (E:Int) (z:Nat) (F D:Int) (C:List V),dX (cC jt (ju L) 0 L qU) rL n (mq E z F D C) K=rQ L (λz C=>K (.exit 0) (s9 z C)) n E z F D C:=by
 intro n; induction n <;> intros
 ·rfl
 ·exact (FH ..).trans (by simp only [*]; rfl)
def zV(L:Nat)(D H:Int)(C:Ls->Ob Y):Ob Y:=G6 L D H (λD z I F E=>rQ L (λz E=>xi L z E C) L D z I F E)
theorem MA(L:Nat)(z C:Int)(k:KK Y):dj jt (ju L) L cf_codec_lowest [(QQd z),(QQe C)] [] k=zV L z C (λz=>k (V.fr 1 z) []):=by
 refine (MK L z C k).trans ?_
 unfold zV
 first
  | (simp only [vy,DQ]; done)
  | (simp only [vy]; rfl)
abbrev pD:=∀ (Y:Type),Nat->Int->Int->(Ls->Ob Y)->Ob Y
def fS:pD:=λY=>@zV Y
def zX(fS:pD)(L:Nat):Dk:=dA (AI .u64) λz=>dA (AI .i64) λC=>d0 λY k=>fS Y L z C (λz=>k (V.fr 1 z) [])
theorem MV(L:Nat):DK (zX fS L) (λ_=>dj jt (ju L) L cf_codec_lowest):=dl gm λz=>dl gm λC=>fy λ_ k=>MA L z C k
def AX:CF:=cfD xE 67
def te:Nat->Sh:=fQ []
def tG(fS:pD)(dP:kP)(L:Nat):CBC:=(d6 191 (uy dP L) (d6 192 (zX fS L) noC))
def ve(fS:pD)(dP:kP)(L:Nat)(C:Ls)(D:Int)(z:Ls->Ob Y):Ob Y:=lt (Wbf .u64 D) λE=>fS Y L E (4:Int) (λF=>dP Y L C F (λH=>z H))
theorem Hr(fS:pD)(dP:kP)(L:Nat)(z:Ls)(C:Int)(k:KK Y):dj te (tG fS dP L) L AX [(V.sl 1 z),(QQc C)] [] k=ve fS dP L z C (λz=>k (V.gs 1 z) []):=by kernel_rfl
abbrev mP:=∀ (Y:Type),Nat->Ls->Int->(Ls->Ob Y)->Ob Y
def fh:mP:=λY=>@ve Y fS dP
def vh(fh:mP)(L:Nat):Dk:=dA (AL 1) λz=>dA (AI .u32) λC=>d0 λY k=>fh Y L z C (λz=>k (V.gs 1 z) [])
theorem Iz(L:Nat):DK (vh fh L) (λ_=>dj te (tG fS dP L) L AX):=dl im λz=>dl gm λC=>fy λ_ k=>Hr fS dP L z C k
def M3:CF:=cfD IL 44
def FM:Nat->Sh:=fQ [(7,(.int .u32))]
def FZ(eY:mw)(fh:mP)(L:Nat):CBC:=(d6 157 (vh fh L) (d6 158 (tB eY L) noC))
def H5(eY:mw)(fh:mP)(L:Nat)(C:List V)(z:Ls->Ob Y):Ob Y:=chk (0+32<=(WcJ C)) (eY Y L ([]:Ls) (WcK 32 C) (λD=>cI .u32 C 32 λE=>fh Y L D E (λF=>z F)))
theorem UU(eY:mw)(fh:mP)(L:Nat)(z:List V)(k:KK Y):dj FM (FZ eY fh L) L M3 [(V.agg z)] [] k=H5 eY fh L z (λz=>k (V.gs 1 z) []):=by kernel_rfl
abbrev ge:=∀ (Y:Type),Nat->List V->(Ls->Ob Y)->Ob Y
def cR:ge:=λY=>@H5 Y eY fh
def HT(cR:ge)(L:Nat):Dk:=dA AG λz=>d0 λY k=>cR Y L z (λz=>k (V.gs 1 z) [])
theorem UP(L:Nat):DK (HT cR L) (λ_=>dj FM (FZ eY fh L) L M3):=dl fN λz=>fy λ_ k=>UU eY fh L z k
def cf_scan_Next:CF:=cfD GX 18
def pL:CC:=eS [1,1,1,1,1,1,0,1,0,0] cf_scan_Next.body
def rZ:CC:=eS [1,1,1,1,0,1,0,0] cf_scan_Next.body
def A4:CC:=eS [1,1,1,1,1,1,1] cf_scan_Next.body
def wL:CC:=eS [1,1,1,1,1] cf_scan_Next.body
def gZ:Nat->Sh:=fQ [(17,(.sl 3)),(26,(.sl 3)),(33,(.int .i64)),(38,(.sl 1)),(46,(.sl 38)),(56,(.sl 1))]
def gP(bN:cT)(cq:eO)(cQ:gf)(cu:eN)(cG:fx)(cR:ge)(L:Nat):CBC:=(d6 137 (HT cR L) (d6 844 (yi cG L) (d6 784 (xv cu L) (d6 836 (Ia cQ L) (d6 584 (vX cq L) (d6 824 (pt bN L) noC))))))
def sR:St->St:=fF 0 (bl 469762436 68) (bl 295147901331062119423 68)
def qO:St->St:=fF 0 (bl 985162418489728 68) (bl 278862888926781103099 68)
def mG(E:Int)(F z:Ls)(C D:Int)(H:List V):St:=⟨(jn 2 ((V.ptr 2 0)::(jn 4 ((QQe E)::((V.gs 1 F)::(jn 17 ((V.sl 3 z)::((QQe C)::((QQe D)::(jn 39 [])))))))))),(gn 2 ((.live true H)::(gn 65 [])))⟩
def sJ(z:Int)(C:Ls)(D:List V):St:=⟨(jn 2 ((V.ptr 2 0)::(jn 4 ((QQe z)::((V.gs 1 C)::(jn 59 [])))))),(gn 2 ((.live true D)::(gn 65 [])))⟩
def lI(F:Int)(H z:Ls)(C D:Int)(E:Lm):St:=⟨(jn 7 ((QQe F)::((V.gs 1 H)::(jn 2 ((V.fn 844 [(V.ptr 16 0)])::(jn 35 ((V.gs 37 z)::((QQe C)::((QQe D)::(jn 18 [])))))))))),(gn 16 ((.live false [(V.mp 19)])::(gn 2 ((.mp E)::(gn 48 [])))))⟩
def xS(C:Int)(D:Ls)(z:Lm):St:=⟨(jn 7 ((QQe C)::((V.gs 1 D)::(jn 59 [])))),(gn 16 ((.live false [(V.mp 19)])::(gn 2 ((.mp z)::(gn 48 [])))))⟩
abbrev zf(Y:Type):Type:=Int->Ls->Ls->Int->Int->List V->Ob Y
abbrev w6(Y:Type):Type:=Int->Ls->Ls->Int->Int->Lm->Ob Y
def FJ(bN:cT)(cq:eO)(cQ:gf)(cu:eN)(cG:fx)(cR:ge)(L:Nat)(D:List V)(H:Int)(C:Int->Ls->Bool->Ob Y)(z:zf Y):Ob Y:=chk (0+2<=(WcJ D)) (bN Y L (WbO V.ag (WcK 2 D)) (λE=>cLd 3 D 0 λI=>ifb ((((WcJ I:Nat):Int):Int)==(0:Int)) (C (0:Int) ([]:Ls) false) (ifb (decide (E>=H)) (C (0:Int) ([]:Ls) false) (cLd 3 D 0 λF=>z E ([]:Ls) F ((WcJ F:Nat):Int) (0:Int) D))))
theorem Sz(bN:cT)(cq:eO)(cQ:gf)(cu:eN)(cG:fx)(cR:ge)(L:Nat)(E:List V)(F:Int)(k:KK Y):dj gZ (gP bN cq cQ cu cG cR L) L cf_scan_Next [(V.agg E),(QQe F)] [] k=FJ bN cq cQ cu cG cR L E F (λz C D=>k (V.ah [(QQe z),(V.gs 1 C),(V.sc (.bool D))]) []) (λM N H I J O=>dX (cC gZ (gP bN cq cQ cu cG cR L) 0 L rZ) sR L (mG M N H I J O) (cW 0 (dN (cC gZ (gP bN cq cQ cu cG cR L) 0 L wL) (eo 0 (CF.res cf_scan_Next) k)))):=by kernel_rfl
def oo(bN:cT)(cq:eO)(cQ:gf)(cu:eN)(cG:fx)(cR:ge)(L:Nat)(H:Int)(D E:Ls)(F C:Int)(I:List V)(z:zf Y)(J:Int->Ls->List V->Ob Y):Ob Y:=ifb (decide (C<F)) (idx E C λN=>chk ((WcJ (WcK 3 N))=3/\0+3<=3) (lt (cD [(V.gs 1 ([]:Ls)),(QQe (0:Int)),(QQe (0:Int))] 0 (WcK 3 N)) λO=>cI .i64 O 2 λQ=>ifb ((Q:Int)==H) (cLd 1 O 0 λR=>cq Y L R (λM=>chk ((WcJ D+WcJ (cz 1 1 [(V.sl 1 M)]))*24<=cy/\WcJ D+WcJ (cz 1 1 [(V.sl 1 M)])<=cy) (lt (D++(cz 1 1 [(V.sl 1 M)])) λS=>lt (Wbf .i64 ((C:Int)+(1:Int))) λT=>z H S E F T I))) (lt (Wbf .i64 ((C:Int)+(1:Int))) λP=>z H D E F P I))) (J H D I)
theorem Gr(bN:cT)(cq:eO)(cQ:gf)(cu:eN)(cG:fx)(cR:ge)(L:Nat)(E:Int)(F z:Ls)(C D:Int)(H:List V)(X:St->Ob Y)(K:KT Y):cC gZ (gP bN cq cQ cu cG cR L) 0 L rZ (mG E F z C D H) (fO sR X K)=oo bN cq cQ cu cG cR L E F z C D H (λE F z C D H=>X (mG E F z C D H)) (λE F H=>K (.exit 0) (sJ E F H)):=by kernel_rfl
def qi(bN:cT)(cq:eO)(cQ:gf)(cu:eN)(cG:fx)(cR:ge)(L:Nat)(H:Int)(I:Ls)(D:List V)(z:w6 Y):Ob Y:=chk (0+2<=(WcJ D)) (cQ Y L (WbO V.ag (WcK 2 D)) (λE=>cLd 38 D 1 λF=>cu Y L F (λC=>z H I C ((WcJ C:Nat):Int) (0:Int) E)))
theorem Ej(bN:cT)(cq:eO)(cQ:gf)(cu:eN)(cG:fx)(cR:ge)(L:Nat)(z:Int)(C:Ls)(D:List V)(k:KK Y):(cW 0 (dN (cC gZ (gP bN cq cQ cu cG cR L) 0 L wL) (eo 0 (CF.res cf_scan_Next) k))) (.exit 0) (sJ z C D)=qi bN cq cQ cu cG cR L z C D (λz C E F H I=>dX (cC gZ (gP bN cq cQ cu cG cR L) 0 L pL) qO L (lI z C E F H I) (cW 2 (dN (cC gZ (gP bN cq cQ cu cG cR L) 0 L A4) (eo 0 (CF.res cf_scan_Next) k)))):=by kernel_rfl
def m8(bN:cT)(cq:eO)(cQ:gf)(cu:eN)(cG:fx)(cR:ge)(L:Nat)(O:Int)(D E:Ls)(F C:Int)(J:Lm)(z:w6 Y)(P:Int->Ls->Lm->Ob Y):Ob Y:=ifb (decide (C<F)) (idx E C λM=>chk ((WcJ (WcK 37 M))=37/\0+37<=37) (lt (cD (Wad 32 (QQa (0:Int))++[(QQc (0:Int)),(QQe (0:Int)),(V.gs 1 ([]:Ls)),(QQe (0:Int)),(V.sc (.bool false))]) 0 (WcK 37 M)) λH=>cLd 1 H 34 λQ=>cG Y L Q J (λR N=>ifb R (chk (0+33<=(WcJ H)) (cR Y L (WcK 33 H) (λI=>chk ((WcJ D+WcJ (cz 1 1 [(V.sl 1 I)]))*24<=cy/\WcJ D+WcJ (cz 1 1 [(V.sl 1 I)])<=cy) (lt (D++(cz 1 1 [(V.sl 1 I)])) λS=>lt (Wbf .i64 ((C:Int)+(1:Int))) λT=>z O S E F T N)))) (lt (Wbf .i64 ((C:Int)+(1:Int))) λU=>z O D E F U N)))) (P O D J)
theorem Ec(bN:cT)(cq:eO)(cQ:gf)(cu:eN)(cG:fx)(cR:ge)(L:Nat)(F:Int)(H C:Ls)(D E:Int)(z:Lm)(X:St->Ob Y)(K:KT Y):cC gZ (gP bN cq cQ cu cG cR L) 0 L pL (lI F H C D E z) (fO qO X K)=m8 bN cq cQ cu cG cR L F H C D E z (λF H C D E z=>X (lI F H C D E z)) (λF H z=>K (.exit 2) (xS F H z)):=by kernel_rfl
def oY(bN:cT)(cq:eO)(cQ:gf)(cu:eN)(cG:fx)(cR:ge)(L:Nat)(D:Int)(E:Ls)(F:Lm)(z:Int->Ls->Bool->Ob Y):Ob Y:=lt (Wbf .i64 ((D:Int)+(1:Int))) λC=>z C E true
theorem Cm(bN:cT)(cq:eO)(cQ:gf)(cu:eN)(cG:fx)(cR:ge)(L:Nat)(F:Int)(H:Ls)(z:Lm)(k:KK Y):(cW 2 (dN (cC gZ (gP bN cq cQ cu cG cR L) 0 L A4) (eo 0 (CF.res cf_scan_Next) k))) (.exit 2) (xS F H z)=oY bN cq cQ cu cG cR L F H z (λC D E=>k (V.ah [(QQe C),(V.gs 1 D),(V.sc (.bool E))]) []):=by kernel_rfl
def kL(bN:cT)(cq:eO)(cQ:gf)(cu:eN)(cG:fx)(cR:ge)(L:Nat)(z:Int->Ls->List V->Ob Y):Nat->Int->Ls->Ls->Int->Int->List V->Ob Y
 | 0,_,_,_,_,_,_=>none
 | n+1,F,H,C,D,E,I=>oo bN cq cQ cu cG cR L F H C D E I (λF H C D E I=>kL bN cq cQ cu cG cR L z n F H C D E I) z
theorem w4(bN:cT)(cq:eO)(cQ:gf)(cu:eN)(cG:fx)(cR:ge)(L:Nat)(K:KT Y):∀ (n:Nat) (z:Int) (C E:Ls) (F H:Int) (D:List V),dX (cC gZ (gP bN cq cQ cu cG cR L) 0 L rZ) sR n (mG z C E F H D) K=kL bN cq cQ cu cG cR L (λz C D=>K (.exit 0) (sJ z C D)) n z C E F H D:=by
 intro n; induction n <;> intros
 ·rfl
 ·exact (Gr ..).trans (by simp only [*]; rfl)
def jZ(bN:cT)(cq:eO)(cQ:gf)(cu:eN)(cG:fx)(cR:ge)(L:Nat)(z:Int->Ls->Lm->Ob Y):Nat->Int->Ls->Ls->Int->Int->Lm->Ob Y
 | 0,_,_,_,_,_,_=>none
 | n+1,H,I,C,D,E,F=>m8 bN cq cQ cu cG cR L H I C D E F (λH I C D E F=>jZ bN cq cQ cu cG cR L z n H I C D E F) z
theorem uG(bN:cT)(cq:eO)(cQ:gf)(cu:eN)(cG:fx)(cR:ge)(L:Nat)(K:KT Y):∀ (n:Nat) (C:Int) (D E:Ls) (F H:Int) (z:Lm),dX (cC gZ (gP bN cq cQ cu cG cR L) 0 L pL) qO n (lI C D E F H z) K=jZ bN cq cQ cu cG cR L (λC D z=>K (.exit 2) (xS C D z)) n C D E F H z:=by
 intro n; induction n <;> intros
 ·rfl
 ·exact (Ec ..).trans (by simp only [*]; rfl)
def mM(bN:cT)(cq:eO)(cQ:gf)(cu:eN)(cG:fx)(cR:ge)(L:Nat)(z:Int)(C:Ls)(J:List V)(E:Int->Ls->Bool->Ob Y):Ob Y:=qi bN cq cQ cu cG cR L z C J (λz C F H I D=>jZ bN cq cQ cu cG cR L (λz C D=>oY bN cq cQ cu cG cR L z C D E) L z C F H I D)
theorem D0(bN:cT)(cq:eO)(cQ:gf)(cu:eN)(cG:fx)(cR:ge)(L:Nat)(z:Int)(C:Ls)(D:List V)(k:KK Y):(cW 0 (dN (cC gZ (gP bN cq cQ cu cG cR L) 0 L wL) (eo 0 (CF.res cf_scan_Next) k))) (.exit 0) (sJ z C D)=mM bN cq cQ cu cG cR L z C D (λE F H=>k (V.ah [(QQe E),(V.gs 1 F),(V.sc (.bool H))]) []):=by
 refine (Ej bN cq cQ cu cG cR L z C D k).trans ?_
 unfold mM
 first
  | (simp only [uG,Cm]; done)
  | (simp only [uG]; rfl)
def AA(bN:cT)(cq:eO)(cQ:gf)(cu:eN)(cG:fx)(cR:ge)(L:Nat)(J:List V)(M:Int)(z:Int->Ls->Bool->Ob Y):Ob Y:=FJ bN cq cQ cu cG cR L J M z (λC D F H I E=>kL bN cq cQ cu cG cR L (λC D E=>mM bN cq cQ cu cG cR L C D E z) L C D F H I E)
theorem S6(bN:cT)(cq:eO)(cQ:gf)(cu:eN)(cG:fx)(cR:ge)(L:Nat)(z:List V)(C:Int)(k:KK Y):dj gZ (gP bN cq cQ cu cG cR L) L cf_scan_Next [(V.agg z),(QQe C)] [] k=AA bN cq cQ cu cG cR L z C (λD E F=>k (V.ah [(QQe D),(V.gs 1 E),(V.sc (.bool F))]) []):=by
 refine (Sz bN cq cQ cu cG cR L z C k).trans ?_
 unfold AA
 first
  | (simp only [w4,D0]; done)
  | (simp only [w4]; rfl)
abbrev iD:=∀ (Y:Type),Nat->List V->Int->(Int->Ls->Bool->Ob Y)->Ob Y
def dw:iD:=λY=>@AA Y bN cq cQ cu cG cR
def FP(dw:iD)(L:Nat):Dk:=dA AG λE=>dA (AI .i64) λF=>d0 λY k=>dw Y L E F (λz C D=>k (V.ah [(QQe z),(V.gs 1 C),(V.sc (.bool D))]) [])
theorem SB(L:Nat):DK (FP dw L) (λ_=>dj gZ (gP bN cq cQ cu cG cR L) L cf_scan_Next):=dl fN λz=>dl gm λC=>fy λ_ k=>S6 bN cq cQ cu cG cR L z C k
def cf_law30_same:CF:=cfD Ff 20
def tp:CC:=eS [1,1,0,1,0,0] cf_law30_same.body
def yQ:CC:=eS [1,1,1] cf_law30_same.body
def jR:Nat->Sh:=fQ [(19,(.sl 1)),(24,(.sl 1))]
def jU(L:Nat):CBC:=noC
def uM:St->St:=fF 0 (bl 12291 28) (bl 268435407 28)
def mY(D E:Ls)(z C:Int):St:=⟨((V.sl 1 D)::((V.sl 1 E)::(jn 10 ((QQe z)::((QQe C)::(jn 14 [])))))),(gn 28 [])⟩
def uV(z:Bool):St:=⟨(jn 4 ((V.sc (.bool z))::(jn 23 []))),(gn 28 [])⟩
def wj:St:=⟨(jn 28 []),(gn 28 [])⟩
def DU(L:Nat)(D E:Ls)(C:Bool->Ob Y)(z:Ls->Ls->Int->Int->Ob Y):Ob Y:=ifb ((((WcJ D:Nat):Int):Int) != ((WcJ E:Nat):Int)) (C false) (z D E ((WcJ D:Nat):Int) (0:Int))
theorem QQ(L:Nat)(z C:Ls)(k:KK Y):dj jR (jU L) L cf_law30_same [(V.sl 1 z),(V.sl 1 C)] [] k=DU L z C (λz=>k (V.sc (.bool z)) []) (λz C D E=>dX (cC jR (jU L) 0 L tp) uM L (mY z C D E) (cW 0 (dN (cC jR (jU L) 0 L yQ) (eo 0 (CF.res cf_law30_same) k)))):=by kernel_rfl
def pj(L:Nat)(H I:Ls)(E C:Int)(D:Bool->Ob Y)(z:Ls->Ls->Int->Int->Ob Y)(F:Ob Y):Ob Y:=ifb (decide (C<E)) (idx H C λJ=>cL 1 J 0 λM=>zz M λN=>idx I C λO=>cL 1 O 0 λP=>zz P λQ=>ifb (!(ByteArray.toList N==ByteArray.toList Q)) (D false) (lt (Wbf .i64 ((C:Int)+(1:Int))) λR=>z H I E R)) (F)
theorem Id(L:Nat)(D E:Ls)(z C:Int)(X:St->Ob Y)(K:KT Y):cC jR (jU L) 0 L tp (mY D E z C) (fO uM X K)=pj L D E z C (λF=>K .ret (uV F)) (λD E z C=>X (mY D E z C)) (K (.exit 0) (wj)):=by kernel_rfl
def xK(L:Nat)(C:Bool)(z:Bool->Ob Y):Ob Y:=z C
theorem Ef(L:Nat)(z:Bool)(k:KK Y):(cW 0 (dN (cC jR (jU L) 0 L yQ) (eo 0 (CF.res cf_law30_same) k))) .ret (uV z)=xK L z (λC=>k (V.sc (.bool C)) []):=by kernel_rfl
def zb(L:Nat)(z:Bool->Ob Y):Ob Y:=z true
theorem Fy(L:Nat)(k:KK Y):(cW 0 (dN (cC jR (jU L) 0 L yQ) (eo 0 (CF.res cf_law30_same) k))) (.exit 0) (wj)=zb L (λz=>k (V.sc (.bool z)) []):=by kernel_rfl
def lD(L:Nat)(z:Bool->Ob Y)(C:Ob Y):Nat->Ls->Ls->Int->Int->Ob Y
 | 0,_,_,_,_=>none
 | n+1,F,H,D,E=>pj L F H D E z (λF H D E=>lD L z C n F H D E) C
theorem xF(L:Nat)(K:KT Y):∀ (n:Nat) (D E:Ls) (z C:Int),dX (cC jR (jU L) 0 L tp) uM n (mY D E z C) K=lD L (λF=>K .ret (uV F)) (K (.exit 0) (wj)) n D E z C:=by
 intro n; induction n <;> intros
 ·rfl
 ·exact (Id ..).trans (by simp only [*]; rfl)
def yU(L:Nat)(C D:Ls)(z:Bool->Ob Y):Ob Y:=DU L C D z (λC D E F=>lD L (λH=>xK L H z) (zb L z) L C D E F)
theorem QV(L:Nat)(z C:Ls)(k:KK Y):dj jR (jU L) L cf_law30_same [(V.sl 1 z),(V.sl 1 C)] [] k=yU L z C (λz=>k (V.sc (.bool z)) []):=by
 refine (QQ L z C k).trans ?_
 unfold yU
 first
  | (simp only [xF,Ef,Fy]; done)
  | (simp only [xF]; rfl)
abbrev gX:=∀ (Y:Type),Nat->Ls->Ls->(Bool->Ob Y)->Ob Y
def dn:gX:=λY=>@yU Y
def DA(dn:gX)(L:Nat):Dk:=dA (AL 1) λz=>dA (AL 1) λC=>d0 λY k=>dn Y L z C (λz=>k (V.sc (.bool z)) [])
theorem Qd(L:Nat):DK (DA dn L) (λ_=>dj jR (jU L) L cf_law30_same):=dl im λz=>dl im λC=>fy λ_ k=>QV L z C k
def cf_law30_ScanNext:CF:=cfD zk 4
def nA:CC:=eS [1,1,1,1,0,1,0,0] cf_law30_ScanNext.body
def pA:CC:=eS [1,1,1,1,1] cf_law30_ScanNext.body
def hZ:Nat->Sh:=fQ [(31,(.int .i64))]
def ig(dv:hF)(dF:i6)(dh:hH)(dm:gU)(dg:hP)(dw:iD)(cr:eP)(dn:gX)(bN:cT)(bO:de)(L:Nat):CBC:=(d6 825 (mD bO L) (d6 824 (pt bN L) (d6 823 (DA dn L) (d6 822 (yW cr L) (d6 821 (FP dw L) (d6 217 (CK dg L) (d6 814 (xB dm L) (d6 411 (yb dh L) (d6 225 (Ie dF L) (d6 813 (Kt dv L) noC))))))))))
def n7:St->St:=fF 0 (bl 469762112 66) (bl 73642794620668575983 66)
def kv(D:Ls)(E F:Int)(H:List V)(z:Ls)(C:Int):St:=⟨(jn 6 ((V.ptr 6 0)::(jn 19 ((V.gs 1 D)::((QQe E)::((QQe F)::(jn 37 []))))))),(gn 6 ((.live true H)::(gn 11 ((.live false [(V.sl 1 z),(QQe C)])::(gn 47 [])))))⟩
def pG(D:Bool)(z:Ls)(C:Int):St:=⟨(jn 4 ((V.sc (.bool D))::(jn 61 []))),(gn 18 ((.live false [(V.sl 1 z),(QQe C)])::(gn 47 [])))⟩
def qD(D:List V)(z:Ls)(C:Int):St:=⟨(jn 6 ((V.ptr 6 0)::(jn 59 []))),(gn 6 ((.live true D)::(gn 11 ((.live false [(V.sl 1 z),(QQe C)])::(gn 47 [])))))⟩
abbrev tr(Y:Type):Type:=Ls->Int->Int->List V->Ls->Int->Ob Y
def wt(dv:hF)(dF:i6)(dh:hH)(dm:gU)(dg:hP)(dw:iD)(cr:eP)(dn:gX)(bN:cT)(bO:de)(L:Nat)(F:Ls)(C:Int)(z:tr Y):Ob Y:=dv Y L  (dF Y L F (λH I=>dh Y L (6:Int) H I (λJ M N=>dm Y L (WbO V.ag J) M N (λD O P=>chk ((WcJ D)=2/\0+2<=2) (lt (cD [(V.gs 3 ([]:Ls)),(V.gs 38 ([]:Ls))] 0 D) λQ=>dg Y L C (8:Int) (λE=>z (cz 1 2 [(QQe C),(QQe E)]) ((WcJ (cz 1 2 [(QQe C),(QQe E)]):Nat):Int) (0:Int) Q O P))))))
theorem I9(dv:hF)(dF:i6)(dh:hH)(dm:gU)(dg:hP)(dw:iD)(cr:eP)(dn:gX)(bN:cT)(bO:de)(L:Nat)(D:Ls)(E:Int)(k:KK Y):dj hZ (ig dv dF dh dm dg dw cr dn bN bO L) L cf_law30_ScanNext [(V.sl 1 D),(QQe E)] [] k=wt dv dF dh dm dg dw cr dn bN bO L D E (λF H I J z C=>dX (cC hZ (ig dv dF dh dm dg dw cr dn bN bO L) 0 L nA) n7 L (kv F H I J z C) (cW 0 (dN (cC hZ (ig dv dF dh dm dg dw cr dn bN bO L) 0 L pA) (eo 0 (CF.res cf_law30_ScanNext) k)))):=by kernel_rfl
def lP(dv:hF)(dF:i6)(dh:hH)(dm:gU)(dg:hP)(dw:iD)(cr:eP)(dn:gX)(bN:cT)(bO:de)(L:Nat)(I:Ls)(J H:Int)(F:List V)(z:Ls)(C:Int)(D:Bool->Ls->Int->Ob Y)(E:tr Y)(N:List V->Ls->Int->Ob Y):Ob Y:=ifb (decide (H<J)) (idx I H λO=>cI .i64 O 0 λM=>chk (0+2<=(WcJ F)) (dw Y L (WbO V.ag (WcK 2 F)) M (λP Q R=>chk (0+2<=(WcJ F)) (cr Y L (WbO V.ag (WcK 2 F)) M (λS T U=>ifb ((P:Int) != S) (D false z C) (ifb (!(R==U)) (D false z C) (dn Y L Q T (λc9=>ifb (!c9) (D false z C) (lt (Wbf .i64 ((H:Int)+(1:Int))) λX=>E I J X F z C))))))))) (N F z C)
theorem B0(dv:hF)(dF:i6)(dh:hH)(dm:gU)(dg:hP)(dw:iD)(cr:eP)(dn:gX)(bN:cT)(bO:de)(L:Nat)(D:Ls)(E F:Int)(H:List V)(z:Ls)(C:Int)(X:St->Ob Y)(K:KT Y):cC hZ (ig dv dF dh dm dg dw cr dn bN bO L) 0 L nA (kv D E F H z C) (fO n7 X K)=lP dv dF dh dm dg dw cr dn bN bO L D E F H z C (λI z C=>K .ret (pG I z C)) (λD E F H z C=>X (kv D E F H z C)) (λH z C=>K (.exit 0) (qD H z C)):=by kernel_rfl
def rh(dv:hF)(dF:i6)(dh:hH)(dm:gU)(dg:hP)(dw:iD)(cr:eP)(dn:gX)(bN:cT)(bO:de)(L:Nat)(E:Bool)(C:Ls)(D:Int)(z:Bool->Ob Y):Ob Y:=z E
theorem y6(dv:hF)(dF:i6)(dh:hH)(dm:gU)(dg:hP)(dw:iD)(cr:eP)(dn:gX)(bN:cT)(bO:de)(L:Nat)(D:Bool)(z:Ls)(C:Int)(k:KK Y):(cW 0 (dN (cC hZ (ig dv dF dh dm dg dw cr dn bN bO L) 0 L pA) (eo 0 (CF.res cf_law30_ScanNext) k))) .ret (pG D z C)=rh dv dF dh dm dg dw cr dn bN bO L D z C (λE=>k (V.sc (.bool E)) []):=by kernel_rfl
def m9(dv:hF)(dF:i6)(dh:hH)(dm:gU)(dg:hP)(dw:iD)(cr:eP)(dn:gX)(bN:cT)(bO:de)(L:Nat)(z:List V)(F:Ls)(H:Int)(C:Bool->Ob Y):Ob Y:=chk (0+2<=(WcJ z)) (bN Y L (WbO V.ag (WcK 2 z)) (λD=>chk (0+2<=(WcJ z)) (bO Y L (WbO V.ag (WcK 2 z)) (λE=>C ((D:Int)==E)))))
theorem z6(dv:hF)(dF:i6)(dh:hH)(dm:gU)(dg:hP)(dw:iD)(cr:eP)(dn:gX)(bN:cT)(bO:de)(L:Nat)(D:List V)(z:Ls)(C:Int)(k:KK Y):(cW 0 (dN (cC hZ (ig dv dF dh dm dg dw cr dn bN bO L) 0 L pA) (eo 0 (CF.res cf_law30_ScanNext) k))) (.exit 0) (qD D z C)=m9 dv dF dh dm dg dw cr dn bN bO L D z C (λE=>k (V.sc (.bool E)) []):=by kernel_rfl
def iS(dv:hF)(dF:i6)(dh:hH)(dm:gU)(dg:hP)(dw:iD)(cr:eP)(dn:gX)(bN:cT)(bO:de)(L:Nat)(D:Bool->Ls->Int->Ob Y)(E:List V->Ls->Int->Ob Y):Nat->Ls->Int->Int->List V->Ls->Int->Ob Y
 | 0,_,_,_,_,_,_=>none
 | n+1,F,H,I,J,z,C=>lP dv dF dh dm dg dw cr dn bN bO L F H I J z C D (λF H I J z C=>iS dv dF dh dm dg dw cr dn bN bO L D E n F H I J z C) E
theorem q7(dv:hF)(dF:i6)(dh:hH)(dm:gU)(dg:hP)(dw:iD)(cr:eP)(dn:gX)(bN:cT)(bO:de)(L:Nat)(K:KT Y):∀ (n:Nat) (E:Ls) (F H:Int) (D:List V) (z:Ls) (C:Int),dX (cC hZ (ig dv dF dh dm dg dw cr dn bN bO L) 0 L nA) n7 n (kv E F H D z C) K=iS dv dF dh dm dg dw cr dn bN bO L (λI z C=>K .ret (pG I z C)) (λD z C=>K (.exit 0) (qD D z C)) n E F H D z C:=by
 intro n; induction n <;> intros
 ·rfl
 ·exact (B0 ..).trans (by simp only [*]; rfl)
def qy(dv:hF)(dF:i6)(dh:hH)(dm:gU)(dg:hP)(dw:iD)(cr:eP)(dn:gX)(bN:cT)(bO:de)(L:Nat)(J:Ls)(M:Int)(D:Bool->Ob Y):Ob Y:=wt dv dF dh dm dg dw cr dn bN bO L J M (λF H I E z C=>iS dv dF dh dm dg dw cr dn bN bO L (λN z C=>rh dv dF dh dm dg dw cr dn bN bO L N z C D) (λE z C=>m9 dv dF dh dm dg dw cr dn bN bO L E z C D) L F H I E z C)
theorem Jg(dv:hF)(dF:i6)(dh:hH)(dm:gU)(dg:hP)(dw:iD)(cr:eP)(dn:gX)(bN:cT)(bO:de)(L:Nat)(z:Ls)(C:Int)(k:KK Y):dj hZ (ig dv dF dh dm dg dw cr dn bN bO L) L cf_law30_ScanNext [(V.sl 1 z),(QQe C)] [] k=qy dv dF dh dm dg dw cr dn bN bO L z C (λz=>k (V.sc (.bool z)) []):=by
 refine (I9 dv dF dh dm dg dw cr dn bN bO L z C k).trans ?_
 unfold qy
 first
  | (simp only [q7,y6,z6]; done)
  | (simp only [q7]; rfl)
abbrev DZ:=∀ (Y:Type),Nat->Ls->Int->(Bool->Ob Y)->Ob Y
def jJ:DZ:=λY=>@qy Y dv dF dh dm dg dw cr dn bN bO
def wo(jJ:DZ)(L:Nat):Dk:=dA (AL 1) λz=>dA (AI .i64) λC=>d0 λY k=>jJ Y L z C (λz=>k (V.sc (.bool z)) [])
theorem Jm(L:Nat):DK (wo jJ L) (λ_=>dj hZ (ig dv dF dh dm dg dw cr dn bN bO L) L cf_law30_ScanNext):=dl im λz=>dl gm λC=>fy λ_ k=>Jg dv dF dh dm dg dw cr dn bN bO L z C k
end
end
section
variable {L:Nat}{s:ScT}{l:List (List Int)}{b:List Int}{w:OwT}
variable {Y:Type}
theorem s_0(s:ScT)(k:Ls->Option Y):cLd 3 (fE s) 0 k=k (s.tk.map jD):=j3 rfl k
theorem s_1(s:ScT)(k:Ls->Option Y):cLd 38 (fE s) 1 k=k (s.ow.map dC):=j3 rfl k
theorem s_c(s:ScT)(k:Option Y):chk (0+2<=(WcJ (fE s))) k=k:=bT (by simp [fE]) k
theorem s_d(s:ScT):WbO V.ag (WcK 2 (fE s))=fE s:=rfl
theorem k_r(t:TkT)(k:Int->Option Y):cI .i64 (WcM 2 (jD t)) 0 k=k t.r:=eQ rfl k
theorem W2(t:TkT)(k:Int->Option Y):cI .i64 (jD t) 2 k=k t.r:=eQ rfl k
theorem k_s(t:TkT)(k:Ls->Option Y):cL 1 (jD t) 0 k=k (eB .u8 t.aA):=ro rfl k
theorem Xb(t:TkT)(k:Ls->Option Y):cLd 1 (jD t) 0 k=k (eB .u8 t.aA):=j3 rfl k
theorem k_c(t:TkT)(k:Option Y):chk ((WcJ (WcK 3 (jD t)))=3/\0+3<=3) k=k:=bT ⟨rfl,by omega⟩ k
theorem QP(t:TkT):cD [(V.gs 1 ([]:Ls)),(QQe (0:Int)),(QQe (0:Int))] 0 (WcK 3 (jD t))=jD t:=rfl
def AH(o:Int)(t:TkT):Int:=if o<0 then t.r else if t.r<o then t.r else o
def g8(l:List TkT):Int:=l.foldl AH (-1)
theorem Sb(L:Nat)(s:ScT)(hn:s.tk.length<=1000000)(kx:Int->Option Y):∀ (n i:Nat) (o:Int),i<=s.tk.length->s.tk.length-i<n ->
  lp L kx n o (i:Int) (fE s)=kx ((s.tk.drop i).foldl AH o):=by
 intro n
 induction n with
 | zero=>intro i o h1 h2; omega
 | succ n ih=>
  intro i o h1 h2;simp only [lp,qA,s_0,WcO,cH];by_cases h:i<s.tk.length
  ·rw [du (by omega)];simp only [fe (fo h),k_r,up (show i<=1000000000 by omega)];rw [WaM h,WcS];by_cases ho:o<0
   ·rw [du ho,ih (i+1) _ (by omega) (by omega)];simp only [AH,if_pos ho]
   ·rw [dt ho];by_cases hr:s.tk[i].r<o
    ·rw [du hr,ih (i+1) _ (by omega) (by omega)];simp only [AH,if_neg ho,if_pos hr]
    ·rw [dt hr,ih (i+1) _ (by omega) (by omega)];simp only [AH,if_neg ho,if_neg hr]
  ·rw [dt (by omega),WaD (by omega)]; rfl
theorem yJ(hL:2000000<=L)(hn:s.tk.length<=1000000)(k:Int->Option Y):bO Y L (fE s) k=k (g8 s.tk):=by
 simp only [bO,sC,yO];rw [show (0:Int)=((0:Nat):Int) from rfl,Sb L s hn _ L 0 _ (by omega) (by omega),WcP];rfl
theorem Pf(L:Nat)(l:List TkT)(hn:l.length<=1000000)(hp:∀ t∈l,0<=t.r)(kx:Int->Option Y):∀ (n i:Nat) (o:Int),0<=o->i<=l.length->l.length-i<n ->
  lk L kx n o (l.map jD) (l.length:Int) (i:Int)=kx ((l.drop i).foldl AH o):=by
 intro n
 induction n with
 | zero=>intro i o h0 h1 h2; omega
 | succ n ih=>
  intro i o h0 h1 h2;simp only [lk,qH,cH];by_cases h:i<l.length
  ·rw [du (by omega)];simp only [fe (fo h),k_c,QP,W2,up (show i<=1000000000 by omega)];have hr:=hp _ (WaV h);rw [WaM h,WcS,ih (i+1) _ (by unfold Lc; split <;> omega) (by omega) (by omega)];simp only [AH,Lc,if_neg (show ¬ o<0 by omega)]
  ·rw [dt (by omega),WaD (by omega)]; rfl
theorem FI(hL:2000000<=L)(hn:s.tk.length<=1000000)(hp:∀ t∈s.tk,0<=t.r)(k:Int->Option Y):bN Y L (fE s) k=k (g8 s.tk):=by
 simp only [bN,uC,Ag,s_0,WcO];cases hs:s.tk with
 | nil=>rw [fd (by simp)]; rfl
 | cons t l=>
  rw [eA (by simp; omega)];have h0:=hp t (by rw [hs]; simp);simp only [List.map_cons];rw [show (0:Int)=((0:Nat):Int) from rfl,fe (es:=jD t::l.map jD) (j:=0) rfl];simp only [k_r];have:=Pf L (t::l) (by rw [<- hs]; exact hn) (by rw [<- hs]; exact hp) (λp3=>mg L p3 k) L 0 t.r h0 (by omega) (by rw [hs] at hn; omega);rw [List.map_cons] at this;rw [this,WcP,WcS];simp only [mg,g8,WcS];congr 2;simp only [AH,if_neg (show ¬ t.r<0 by omega),Int.lt_irrefl,if_false,if_pos (show (-1:Int)<0 by omega)]
theorem Vx:∀ (l:List TkT) (o:Int),(∀ t∈l,0<=t.r)->(0<=o∨l≠[])->0<=l.foldl AH o
 | [],o,_,h=>by simpa using h
 | t::l,o,hp,_=>by
  have h0:=hp t (by simp);refine Vx l _ (λx hx=>hp x (by simp [hx])) (.inl ?_);unfold AH; split
  ·exact h0
  ·split <;> omega
def dU(l:List (List Int)):Ls:=l.map λb=>[V.sl 1 (eB .u8 b)]
theorem wT(l:List (List Int)):(dU l).length=l.length:=by simp [dU]
theorem KJ{i:Nat}(h:i<l.length):(dU l)[i]?=some [V.sl 1 (eB .u8 l[i])]:=by simp [dU,h]
theorem EN(b:List Int):cz 1 1 [(V.sl 1 (eB .u8 b))]=dU [b]:=rfl
theorem EM(l:List (List Int))(b:List Int):dU l++dU [b]=dU (l++[b]):=by simp [dU]
theorem Et(h:l.length<=10000000)(b:List Int)(k:Option Y):chk ((WcJ (dU l)+WcJ (dU [b]))*24<=cy/\WcJ (dU l)+WcJ (dU [b])<=cy) k=k:=
 bT (by simp only [wT,List.length_cons,WcT,cy]; omega) k
def oO(r:Int)(l:List TkT):List (List Int):=(l.filter λt=>t.r==r).map (·.aA)
theorem zdI(r:Int)(l:List TkT):(oO r l).length<=l.length:=by simp only [oO,WcO]; exact List.length_filter_le _ _
theorem EL(r:Int)(t:TkT)(l:List TkT):oO r (t::l)=if t.r=r then t.aA::oO r l else oO r l:=by
 simp only [oO,List.filter_cons];by_cases h:t.r=r
 ·simp [h]
 ·simp [h,beq_eq_false_iff_ne.2 h]
theorem Vn(hL:2000000<=L)(s:ScT)(hn:s.tk.length<=1000000)(kx:Ls->Option Y):∀ (n i:Nat) (a:List (List Int)),i<=s.tk.length->s.tk.length-i<n->a.length<=i ->
  nF bO L kx n (dU a) (i:Int) (fE s)=kx (dU (a++oO (g8 s.tk) (s.tk.drop i))):=by
 intro n
 induction n with
 | zero=>intro i o h1 h2; omega
 | succ n ih=>
  intro i a h1 h2 h3;simp only [nF,wF,s_0,WcO,cH,s_c,s_d];by_cases h:i<s.tk.length
  ·rw [du (by omega)];simp only [fe (fo h),k_r,k_s,yJ hL hn,up (show i<=1000000000 by omega),EN,Et (show a.length<=10000000 by omega),EM];rw [WaM h,EL];by_cases hr:s.tk[i].r=g8 s.tk
   ·rw [fd hr,ih (i+1) _ (by omega) (by omega) (by simp; omega),if_pos hr,List.append_assoc]; rfl
   ·rw [eA hr,ih (i+1) _ (by omega) (by omega) (by omega),if_neg hr]
  ·rw [dt (by omega),WaD (by omega)];simp [oO]
theorem K8(hL:2000000<=L)(hn:s.tk.length<=1000000)(k:Ls->Option Y):cZ Y L (fE s) k=k (dU (oO (g8 s.tk) s.tk)):=by
 simp only [cZ,At,Ft];have:=Vn hL s hn (λp3=>tg bO L p3 k) L 0 [] (by omega) (by omega) (by simp);rw [show dU []=([]:Ls) from rfl,WcP,WcQ] at this;exact this
theorem Xn(l:List (List Int))(hn:l.length<=10000000)(hl:∀ b∈l,dG b)(hb:dG b)(kr:Bool->Option Y)(kx:Option Y):∀ (n i:Nat),i<=l.length->l.length-i<n ->
  oE dr L kr kx n (dU l) (eB .u8 b) (i:Int)=ifb ((l.drop i).any λx=>decide (x=b)) (kr true) kx:=by
 intro n
 induction n with
 | zero=>intro i h1 h2; omega
 | succ n ih=>
  intro i h1 h2;simp only [oE,yN,wT,cH,dr,CZ];by_cases h:i<l.length
  ·rw [du (by omega),fe (KJ h),ro rfl,pX,pX,V9 (hl _ (WaV h)) hb,up (by omega),zcR h,ih (i+1) (by omega) (by omega)];by_cases hx:l[i]=b
   ·rw [du hx,decide_eq_true hx,Bool.true_or]; rfl
   ·rw [dt hx,decide_eq_false hx,Bool.false_or]
  ·rw [dt (by omega),WaD (by omega)]; rfl
def jN(l:List (List Int))(b:List Int):Bool:=l.any λx=>decide (x=b)
theorem Xa(hL:20000000<=L)(hn:l.length<=10000000)(hl:∀ b∈l,dG b)(hb:dG b)(k:Bool->Option Y):bM Y L (dU l) (eB .u8 b) k=k (jN l b):=by
 simp only [bM,Av,FV];rw [show (0:Int)=((0:Nat):Int) from rfl,Xn l hn hl hb _ _ L 0 (by omega) (by omega),WcP];simp only [sT,u9,jN];cases l.any _ <;> rfl
def le4(x:Int):List Int:=[Wbf .u8 (JI .u64 x 0),Wbf .u8 (JI .u64 x 8),Wbf .u8 (JI .u64 x 16),Wbf .u8 (JI .u64 x 24)]
theorem zen(n:Nat)(x:Int)(k:Ls->Option Y):fT Y (n+6) x 4 k=k (eB .u8 (le4 x)):=by kernel_rfl
theorem zfh(n:Nat)(x:Int)(k:Ls->Option Y):fS Y (n+6) x 4 k=k (eB .u8 (le4 x)):=by kernel_rfl
def Gm(w:OwT):List Int:=w.h++le4 (Wbf .u64 w.ix)
theorem Wa(L:Nat)(a b:List Int)(h:a.length+b.length<=1000000)(k:Ls->Option Y):cA Y L (eB .u8 a) (eB .u8 b) k=k (eB .u8 (a++b)):=by
 simp only [cA,uq,jj,cH];rw [kI (by omega) (by omega),bT (by simp only [cy]; omega),bT (by simp only [cy,Wad,WcT]; omega),
  WcU,WcQ,bT (by rw [jj]; simp only [cy]; omega),C5]
theorem WW(L:Nat)(a b:List Int)(h:a.length+b.length<=1000000)(k:Ls->Option Y):dP Y L (eB .u8 a) (eB .u8 b) k=k (eB .u8 (a++b)):=by
 simp only [dP,Ac,jj,cH];rw [kI (by omega) (by omega),bT (by simp only [cy]; omega),bT (by simp only [cy,Wad,WcT]; omega),
  WcU,WcQ,bT (by rw [jj]; simp only [cy]; omega),C5]
theorem zaD{kd:IntKind}{l:List Int}(h:l≠[]):(row kd l).isEmpty=false:=by
 cases l with
 | nil=>exact absurd rfl h
 | cons x l=>rfl
theorem zci(hL:6<=L)(h:w.h.length=32)(k:Ls->Option Y):dp Y L (gG w) k=k (eB .u8 (Gm w)):=by
 obtain ⟨n,rfl⟩:∃ n,L=n+6:=⟨L-6,by omega⟩;simp only [dp,B2];have ht:WcK 32 (gG w)=row .u8 w.h:=by unfold gG; exact List.take_left' (by rw [fW,h])
 have hi:(gG w)[32]?=some (QQc w.ix):=by
  unfold gG; rw [Wal (by rw [fW]; omega),fW,h]; rfl
 rw [bT (by rw [iX h]; omega),ht];simp only [e7,ta];rw [bT (by rw [fW]; omega),zaD (by intro e; rw [e] at h; simp at h),eD,HB .u8 32 w.h (by omega),WbR (by omega),
  show ([]:Ls)=eB .u8 [] from rfl,Wa _ _ _ (by simp [h]),WcQ,eQ hi]
 simp only [ff,uJ,cH,zen];rw [Wa _ _ _ (by simp [h,le4])]; rfl
theorem zex(hL:6<=L)(h:w.h.length=32)(k:Ls->Option Y):cR Y L (gG w) k=k (eB .u8 (Gm w)):=by
 obtain ⟨n,rfl⟩:∃ n,L=n+6:=⟨L-6,by omega⟩;simp only [cR,H5];have ht:WcK 32 (gG w)=row .u8 w.h:=by unfold gG; exact List.take_left' (by rw [fW,h])
 have hi:(gG w)[32]?=some (QQc w.ix):=by
  unfold gG; rw [Wal (by rw [fW]; omega),fW,h]; rfl
 rw [bT (by rw [iX h]; omega),ht];simp only [eY,tb];rw [bT (by rw [fW]; omega),zaD (by intro e; rw [e] at h; simp at h),eD,HB .u8 32 w.h (by omega),WbR (by omega),
  show ([]:Ls)=eB .u8 [] from rfl,WW _ _ _ (by simp [h]),WcQ,eQ hi]
 simp only [fh,ve,cH,zfh];rw [WW _ _ _ (by simp [h,le4])]; rfl
end
section
variable {b:List Int}{L:Nat}{s:ScT}{w:OwT}
variable {Y:Type}
def sk(b:List Int):V:=.sc (.string ⟨(bts b).toArray⟩)
theorem Yl{a:List Int}(ha:dG a)(hb:dG b):uo (sk a) (sk b)=some (decide (a=b)):=by
 show some ((⟨(bts a).toArray⟩:ByteArray)==⟨(bts b).toArray⟩)=_;have e:((⟨(bts a).toArray⟩:ByteArray)==⟨(bts b).toArray⟩)=((bts a).toArray==(bts b).toArray):=rfl;rw [e];by_cases h:a=b
 ·subst h; simp
 ·rw [decide_eq_false h];congr 1;refine beq_eq_false_iff_ne.2 λe=>h ((Te ha hb).1 ?_);simpa using congrArg Array.toList e
structure ScOk (s:ScT):Prop where
 tk:∀ t∈s.tk,TkOk t
 tl:s.tk.length<=1000
 ow:∀ w∈s.ow,OwOk w
 ol:s.ow.length<=4096
theorem Xo(s:ScT)(hs:∀ t∈s.tk,dG t.aA)(hn:s.tk.length<=1000000)(hb:dG b)(kr:Int->Option Y)(kx:Option Y):∀ (n i:Nat),i<=s.tk.length->s.tk.length-i<n ->
  nG L kr kx n (eB .u8 b) (i:Int) (fE s)=ifb (decide (lH (λt:TkT=>decide (t.aA=b)) (s.tk.drop i) i>=0)) (kr (lH (λt:TkT=>decide (t.aA=b)) (s.tk.drop i) i)) kx:=by
 intro n
 induction n with
 | zero=>intro i h1 h2; omega
 | succ n ih=>
  intro i h1 h2;simp only [nG,wG,s_0,WcO,cH];by_cases h:i<s.tk.length
  ·rw [du (by omega),fe (fo h),k_s,pX,pX,V9 (hs _ (WaV h)) hb,up (by omega),ih (i+1) (by omega) (by omega),WaM h];rw [show lH (λt:TkT=>decide (t.aA=b)) (s.tk[i]::WcM (i+1) s.tk) i=if decide (s.tk[i].aA=b)=true then (i:Int) else lH (λt:TkT=>decide (t.aA=b)) (WcM (i+1) s.tk) (i+1) from rfl];by_cases hx:s.tk[i].aA=b
   ·rw [du hx,if_pos (by simp [hx]),du (by omega)]
   ·rw [dt hx,if_neg (by simp [hx])]
  ·rw [dt (by omega),WaD (by omega),dt (by simp [lH])]
theorem Lz(hL:2000000<=L)(hs:∀ t∈s.tk,dG t.aA)(hn:s.tk.length<=1000000)(hb:dG b)(k:Int->Option Y):ck Y L (fE s) (eB .u8 b) k=k (lH (λt:TkT=>decide (t.aA=b)) s.tk 0):=by
 simp only [ck,ye,Dd];rw [show (0:Int)=((0:Nat):Int) from rfl,Xo s hs hn hb _ _ L 0 (by omega) (by omega),WcP];rcases xc (λt:TkT=>decide (t.aA=b)) s.tk 0 with ⟨e,_⟩ | ⟨i,hi,e,_⟩
 ·rw [e,dt (by omega)]; rfl
 ·rw [e,du (by omega)]; rfl
theorem zgQ(hL:2000000<=L)(hs:ScOk s)(hb:dG b)(k:Int->Option Y):ck Y L (fE s) (eB .u8 b) k=k (lH (λt:TkT=>decide (t.aA=b)) s.tk 0):=
 Lz hL (λt ht=>(hs.tk t ht).s) (by have:=hs.tl; omega) hb k
theorem zb2(h:w.h.length=32){i:Nat}(hi:i<32):(gG w)[i]?=some (QQa w.h[i]):=by
 unfold gG;rw [List.getElem?_append_left (by rw [fW]; omega)];simp [row,h,hi]
theorem LE(h:w.h.length=32):(gG w)[32]?=some (QQc w.ix):=by
 unfold gG;rw [Wal (by rw [fW]; omega),fW,h]; rfl
def pu:List Int->List Int->Int
 | x::l,y::m=>if x<y then -1 else if y<x then 1 else pu l m
 | _,_=>0
theorem WP:∀ (l m:List Int) (i j:Int),l.length=m.length->pu (l++[i]) (m++[j])=if pu l m=0 then (if i<j then -1 else if j<i then 1 else 0) else pu l m
 | [],[],i,j,_=>by simp [pu]
 | x::l,y::m,i,j,h=>by
  have ih:=WP l m i j (by simpa using h);simp only [List.cons_append,pu];by_cases h1:x<y
  ·simp [h1]
  ·by_cases h2:y<x
   ·simp [h1,h2]
   ·simp only [h1,h2,if_false,ih]
def ptL(w:OwT):List Int:=w.h++[w.ix]
theorem Uc{L:Nat}{w v:OwT}(hw:w.h.length=32)(hv:v.h.length=32)(kr:Int->Option Y)(kx:List V->List V->Option Y):∀ (n i:Nat),i<=32->32-i<n ->
  kk L kr kx n (i:Int) (gG w) (gG v)=if pu (w.h.drop i) (v.h.drop i)=0 then kx (gG w) (gG v) else kr (pu (w.h.drop i) (v.h.drop i))
 | 0,i,h1,h2=>by omega
 | n+1,i,h1,h2=>by
  by_cases h:i<32
  ·have hb:0+(WcL (i:Int))*1=i:=by simp
   have h32:(0:Int)<=(i:Int)/\(i:Int)<((32:Nat):Int):=by omega
   have hwi:=zb2 hw (show i<32 by omega);have hvi:=zb2 hv (show i<32 by omega);rw [kk,nT,du (by omega),bT h32,hb,eQ hwi,bT h32,eQ hvi,bT h32,eQ hwi,bT h32,eQ hvi,cH,up (by omega),Uc hw hv kr kx n (i+1) (by omega) (by omega),WaM (by omega:i<w.h.length),WaM (by omega:i<v.h.length)];by_cases c1:w.h[i]<v.h[i]
   ·have ec:pu (w.h[i]::WcM (i+1) w.h) (v.h[i]::WcM (i+1) v.h)=-1:=by simp only [pu,if_pos c1]
    rw [du c1,ec,if_neg (by omega)]
   by_cases c2:w.h[i]>v.h[i]
   ·have ec:pu (w.h[i]::WcM (i+1) w.h) (v.h[i]::WcM (i+1) v.h)=1:=by simp only [pu,if_neg c1]; rw [if_pos c2]
    rw [dt c1,du c2,ec,if_neg (by omega)]
   ·have ec:pu (w.h[i]::WcM (i+1) w.h) (v.h[i]::WcM (i+1) v.h)=pu (WcM (i+1) w.h) (WcM (i+1) v.h):=by simp only [pu,if_neg c1]; rw [if_neg c2]
    rw [dt c1,dt c2,ec]
  ·rw [kk,nT,dt (by omega),WaD (by omega),WaD (by omega)]; rfl
theorem Y9(hL:40<=L){v:OwT}(hw:w.h.length=32)(hv:v.h.length=32)(k:Int->Option Y):fu Y L (gG w) (gG v) k=k (pu (ptL w) (ptL v)):=by
 simp only [fu,sr,yB];refine (Uc hw hv _ _ L 0 (by omega) (by omega)).trans ?_;unfold ptL;rw [WP _ _ _ _ (by omega),WcP,WcP];split
 ·rename_i h;rw [pN,eQ (LE hw),eQ (LE hv),eQ (LE hw),eQ (LE hv)];by_cases h1:w.ix<v.ix
  ·rw [du h1,if_pos h1]
  by_cases h2:w.ix>v.ix
  ·rw [dt h1,du h2,if_neg h1,if_pos h2]
  ·rw [dt h1,dt h2,if_neg h1,if_neg h2]
 ·rfl
def LO(w v:OwT):Bool:=decide (pu (ptL w) (ptL v)<0)||(decide (pu (ptL w) (ptL v)=0)&&decide (w.ht<v.ht))
theorem TJ(hL:40<=L){v:OwT}(hw:w.h.length=32)(hv:v.h.length=32)(k:Bool->Option Y):bQ Y L (dC w) (dC v) k=k (LO w v):=by
 simp only [bQ,Ah];rw [bT (by rw [fM hw]; omega),bT (by rw [fM hv]; omega),pZ hw,pZ hv,Y9 hL hw hv,eQ (kg hw 2),eQ (kg hv 2)];unfold LO;by_cases h1:pu (ptL w) (ptL v)<0
 ·rw [du h1,decide_eq_true h1,Bool.true_or]
 by_cases h2:pu (ptL w) (ptL v)=0
 ·rw [dt h1,fd h2,decide_eq_false h1,decide_eq_true h2,Bool.false_or,WcV]
 ·rw [dt h1,eA h2,decide_eq_false h1,decide_eq_false h2]; rfl
theorem zaN{v:OwT}(hw:w.h.length=32)(hv:v.h.length=32):∃ b:Bool,∀ (L:Nat),40<=L->∀ (Y:Type) (k:Bool->Option Y),bQ Y L (dC w) (dC v) k=k b:=⟨_,λL hL Y k=>TJ hL hw hv k⟩
theorem LT(h:w.h.length=32):cD (Wad 32 (QQa (0:Int))++[(QQc (0:Int)),(QQe (0:Int)),(V.gs 1 ([]:Ls)),(QQe (0:Int)),(V.sc (.bool false)),(QQe (0:Int))]) 0 (dC w)=dC w:=j8 (by rw [fM h]; rfl)
theorem VC(h:w.h.length=32):cD (Wad 32 (QQa (0:Int))++[(QQc (0:Int)),(QQe (0:Int)),(V.sl 1 ([]:Ls)),(QQe (0:Int)),(V.sc (.bool false)),(QQe (0:Int))]) 0 (dC w)=dC w:=j8 (by rw [fM h]; rfl)
def zam(w v:OwT):Bool:=LO w v&&(!EH w v||(!(w.sp==0)&&!decide (w.sp>v.ht)))
def A8:List OwT->Bool
 | a::b::l=>zam a b&&A8 (b::l)
 | _=>true
theorem Qu{l:List OwT}(hl:∀ w∈l,w.h.length=32)(hn:l.length<=1000000){L:Nat}(hL:40<=L)(kr:Bool->Option Y)(kx:Option Y):∀ (n i:Nat),1<=i->l.length-i<n ->
  lC bQ L kr kx n (l.map dC) (i:Int)=ifb (A8 (l.drop (i-1))) kx (kr false)
 | 0,i,h0,hi=>by omega
 | n+1,i,h0,hi=>by
  by_cases hil:i<l.length
  ·have hj:i-1<l.length:=by omega
   have ha:=hl _ (WaV hj);have hb:=hl _ (WaV hil);have e1:Wbf .i64 ((i:Int)-1)=((i-1:Nat):Int):=by rw [kI (by omega) (by omega)]; omega
   rw [lC,pg,WcO,du (by omega),e1,cH,fe (fo hj),fe (fo hil),kJ ha,kJ hb,bT ⟨fM ha,by omega⟩,LT ha,cH,bT ⟨fM hb,by omega⟩,LT hb,cH,bT (by rw [fM ha]; omega),bT (by rw [fM hb]; omega),kJ ha,kJ hb,zU,zU,TJ hL ha hb,
    bT (by rw [fM ha]; omega),bT (by rw [fM hb]; omega),pZ ha,pZ hb,NI ha hb,eQ (kg ha 4),eQ (kg ha 4),eQ (kg hb 2),cH,up (by omega),Qu hl hn hL kr kx n (i+1) (by omega) (by omega)]
   rw [Nat.add_sub_cancel,WaM hj,show i-1+1=i by omega,WaM hil,A8,zam];cases LO l[i-1] l[i] with
   | false=>rfl
   | true=>
    cases EH l[i-1] l[i] with
    | false=>rfl
    | true=>
     by_cases h1:l[i-1].sp=0
     ·rw [WcR,eD,gY,fd h1,beq_iff_eq.2 h1]; rfl
     by_cases h2:l[i-1].sp>l[i].ht
     ·rw [WcR,eD,gY,eA h1,du h2,decide_eq_true h2]; simp only [WcR,Bool.and_false,Bool.or_false,Bool.false_and]; rfl
     ·rw [WcR,eD,gY,eA h1,dt h2,decide_eq_false h2,beq_eq_false_iff_ne.2 h1]; rfl
  ·rw [lC,pg,WcO,dt (by omega)];have:A8 (l.drop (i-1))=true:=by
    match h:l.drop (i-1) with
    | []=>rfl
    | [_]=>rfl
    | _::_::_=>have:=congrArg WcJ h; simp at this; omega
   rw [this,gY]
theorem zcf{l:List OwT}(hl:∀ w∈l,w.h.length=32)(hn:l.length<=1000000)(hL:2000000<=L)(k:Bool->Option Y):cv Y L (l.map dC) k=k (A8 l):=by
 simp only [cv,vU,BS];refine (Qu hl hn (by omega) _ _ L 1 (by omega) (by omega)).trans ?_;rw [show (1:Nat)-1=0 from rfl,WcP];cases A8 l <;> rfl
end
section
variable {w:OwT}{s:ScT}
variable {Y:Type}
theorem Z5{γ:Type}(c:Bool)(k:γ->Option Y)(a b:γ):ifb c (k a) (k b)=k (cond c a b):=by cases c <;> rfl
theorem zfX(a b:Bool)(x y:Option Y):ifb a x (ifb b x y)=ifb (a||b) x y:=by cases a <;> cases b <;> rfl
theorem VX(L:Nat)(a b c:Int)(k:Bool->Option Y):cd Y L a b c k=k (cond (decide (a>=b)) (decide (a<=c)) false):=by
 simp only [cd,HA,Z5]
theorem zhS(L:Nat)(a b c:Int)(k:Bool->Option Y):hI Y L a b c k=k (cond (decide (a>=b)) (decide (a<=c)) false):=by
 simp only [hI,Io,Z5]
theorem Yb{a b c:Int}(h:(cond (decide (a>=b)) (decide (a<=c)) false)=true):b<=a/\a<=c:=by
 by_cases h1:a>=b
 ·rw [decide_eq_true h1] at h; exact ⟨h1,of_decide_eq_true h⟩
 ·rw [decide_eq_false h1] at h; cases h
theorem JU(h:w.h.length=32)(j:Nat)(hj:j<4):(WcK 37 (dC w))[33+j]?=(Hn w)[j]?:=by
 rw [List.getElem?_take_of_lt (by omega),kg h]
theorem X6(h:w.h.length=32):(WcK 37 (dC w)).length=37:=by rw [List.length_take,fM h]; rfl
def Gi(w:OwT)(x:Int):Bool:=cond (decide (w.val>=0)) (cond (decide (w.val<=2100000000000000)) (cond (decide (((w.aA.length:Nat):Int)<=520)) (cond (cond (decide (w.ht>=1)) (decide (w.ht<=x)) false) (cond (w.sp==0) true (cond (decide (w.sp>=w.ht)) (decide (w.sp<=x)) false)) false) false) false) false
theorem zbP(hw:w.h.length=32)(x:Int)(L:Nat)(k:Bool->Option Y):cm Y L (dC w) x k=k (Gi w x):=by
 simp only [cm,zE,zhS,Gi];rw [bT (by rw [fM hw]; omega),bT ⟨X6 hw,by omega⟩,j8 (by rw [X6 hw]; rfl),cH,eQ (JU hw 0 (by omega)),eQ (JU hw 0 (by omega)),j3 (JU hw 1 (by omega)),eQ (JU hw 2 (by omega)),eQ (kg hw 4),eQ (kg hw 4),eQ (JU hw 2 (by omega)),jj];simp only [Z5]
structure ScW (s:ScT):Prop where
 tk:∀ t∈s.tk,dG t.aA
 tl:s.tk.length<=100000
 ow:∀ w∈s.ow,OwOk w
 ol:s.ow.length<=90000
theorem ScOk.weak(h:ScOk s):ScW s:=⟨λt ht=>(h.tk t ht).s,by have:=h.tl; omega,h.ow,by have:=h.ol; omega⟩
theorem zaw{α:Type}(p:α->Bool)(l:List α):(lH p l 0=-1/\l.find? p=none)∨∃ (j:Nat),∃ h:j<l.length,lH p l 0=(j:Int)/\l.find? p=some l[j]:=by
 rcases xc p l 0 with ⟨e,h⟩ | ⟨i,hi,e,h1,h2⟩
 ·exact .inl ⟨e,List.find?_eq_none.2 λx hx=>by simp [h x hx]⟩
 ·refine .inr ⟨i,hi,by simpa using e,List.find?_eq_some_iff_getElem.2 ⟨h2,i,hi,rfl,λj hj=>?_⟩⟩;have:l[j]∈l.take i:=List.mem_take_iff_getElem.2 ⟨j,by omega,rfl⟩;simp [h1 _ this]
def Nr(s:ScT)(w:OwT):Bool:=match s.tk.find? (λt=>decide (t.aA=w.aA)) with
 | none=>false
 | some t=>!decide (w.ht<t.b)&&Gi w t.r
theorem Yt{s:ScT}(hs:ScW s){L:Nat}(hL:2000000<=L)(kr:Bool->Option Y)(kx:Option Y):∀ (n i:Nat),s.ow.length-i<n ->
  jm cv cd ck cm L kr kx n (i:Int) (fE s)=ifb ((s.ow.drop i).all (Nr s)) kx (kr false)
 | 0,i,hi=>by omega
 | n+1,i,hi=>by
  by_cases hil:i<s.ow.length
  ·have hol:=hs.ol;have hw:=hs.ow _ (WaV hil);have hsc:(WcM 1 (WcM 33 (dC s.ow[i])))[0]?=some (V.sl 1 (eB .u8 s.ow[i].aA)):=by rw [TN hw.hl]; rfl
   have h35:(WcM 35 (dC s.ow[i]))[0]?=some (QQe s.ow[i].ht):=by rw [List.getElem?_drop]; exact kg hw.hl 2
   rw [zcn hil];have htl:=hs.tl;rcases zaw (λt:TkT=>decide (t.aA=s.ow[i].aA)) s.tk with ⟨e,e2⟩ | ⟨j,hj,e,e2⟩
   ·have:Nr s s.ow[i]=false:=by simp only [Nr,e2]
    rw [jm,lS,s_1,WcO,du (by omega),s_c,s_1,fe (fo hil),ro hsc,s_d,Lz hL hs.tk (by omega) hw.s,e,du (by omega),this]; rfl
   ·have:Nr s s.ow[i]=(!decide (s.ow[i].ht<s.tk[j].b)&&Gi s.ow[i] s.tk[j].r):=by simp only [Nr,e2]
    rw [jm,lS,s_1,WcO,du (by omega),s_c,s_1,fe (fo hil),ro hsc,s_d,Lz hL hs.tk (by omega) hw.s,e,dt (by omega),s_1,fe (fo hil),eQ h35,s_0,fe (fo hj),eQ (n:=s.tk[j].b) rfl,s_1,fe (fo hil),s_0,fe (fo hj),k_r,kJ hw.hl,zU,zbP hw.hl,cH,up (by omega),Yt hs hL kr kx n (i+1) (by omega),this];cases decide (s.ow[i].ht<s.tk[j].b) <;> cases Gi s.ow[i] s.tk[j].r <;> rfl
  ·rw [jm,lS,s_1,WcO,dt (by omega),WaD (by omega)]; rfl
def zgc(s:ScT)(t:TkT)(i:Nat):Bool:=(((t.aA.length:Nat):Int)==0)||(decide (((t.aA.length:Nat):Int)>520)||((!cond (decide (t.b>=1)) (decide (t.b<=16777216)) false)||((!cond (decide (t.r>=Wbf .i64 (t.b-1))) (decide (t.r<=16777216)) false)||(lH (λu:TkT=>decide (u.aA=t.aA)) s.tk 0 != (i:Int)))))
def Kv(s:ScT):List TkT->Nat->Bool
 | [],_=>true
 | t::l,i=>!zgc s t i&&Kv s l (i+1)
theorem YF{s:ScT}(hs:ScW s){L:Nat}(hL:2000000<=L)(kr:Bool->Option Y)(kx:List V->Option Y):∀ (n i:Nat),s.tk.length-i<n ->
  kN cv cd ck cm L kr kx n (i:Int) (fE s)=ifb (Kv s (s.tk.drop i) i) (kx (fE s)) (kr false)
 | 0,i,hi=>by omega
 | n+1,i,hi=>by
  by_cases hil:i<s.tk.length
  ·have htl:=hs.tl;have ht:=hs.tk _ (WaV hil);have hb1:(jD s.tk[i])[1]?=some (QQe s.tk[i].b):=rfl;rw [kN,oG,s_0,WcO,du (by omega),s_0,fe (fo hil),k_c,QP,cH,Xb,Xb,eQ hb1,VX,W2,eQ hb1,cH,VX,s_c,Xb,s_d,Lz hL hs.tk (by omega) ht,cH,up (by omega),jj,WaM hil,YF hs hL kr kx n (i+1) (by omega)];simp only [zfX];rw [Kv,zgc];generalize ((((s.tk[i].aA.length:Nat):Int)==0)||(decide (((s.tk[i].aA.length:Nat):Int)>520)||((!cond (decide (s.tk[i].b>=1)) (decide (s.tk[i].b<=16777216)) false)||((!cond (decide (s.tk[i].r>=Wbf .i64 (s.tk[i].b-1))) (decide (s.tk[i].r<=16777216)) false)||(lH (λu:TkT=>decide (u.aA=s.tk[i].aA)) s.tk 0 != (i:Int))))))=c;cases c <;> rfl
  ·rw [kN,oG,s_0,WcO,dt (by omega),WaD (by omega)]; rfl
def zcb(s:ScT):Bool:=!decide (((s.tk.length:Nat):Int)>1000)&&(!decide (((s.ow.length:Nat):Int)>4096)&&(A8 s.ow&&(Kv s s.tk 0&&s.ow.all (Nr s))))
theorem zdo(hs:ScW s){L:Nat}(hL:2000000<=L)(k:Bool->Option Y):cF Y L (fE s) k=k (zcb s):=by
 have htl:=hs.tl;have hol:=hs.ol;simp only [cF,vV,BD,zcb];rw [s_0,WcO,s_1,WcO,s_1,zcf (λw hw=>(hs.ow w hw).hl) (by omega) hL];cases decide (((s.tk.length:Nat):Int)>1000);rotate_left
 ·rfl
 cases decide (((s.ow.length:Nat):Int)>4096);rotate_left
 ·rfl
 cases A8 s.ow
 ·rfl
 simp only [WcR,Bool.not_false,eD,WcV];refine (YF hs hL _ _ L 0 (by omega)).trans ?_;rw [WcP];cases Kv s s.tk 0
 ·rfl
 rw [gY,WcV];refine (Yt hs hL _ _ L 0 (by omega)).trans ?_;rw [WcP];cases s.ow.all (Nr s) <;> rfl
theorem N9(hs:ScOk s):∃ b:Bool,∀ (L:Nat),2000000<=L->∀ (Y:Type) (k:Bool->Option Y),cF Y L (fE s) k=k b:=⟨_,λL hL Y k=>zdo hs.weak hL k⟩
end
end Go.Proofs.YtipklgbboecciaaGreat
