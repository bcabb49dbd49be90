/- Part 11 of the proof of BlockDecodes: an abstract machine over plain values, its soundness, and the functions of the program on plain values. -/
import Derived.Test.YtgmhijonllockaaGreatDoorMBlockDecodes10
namespace Go.Proofs.YtgmhijonllockaaGreatDoor
set_option maxRecDepth 100000
set_option linter.unusedVariables false
set_option linter.unusedSimpArgs false
open List renaming length->XI,take->XK,replicate->We,map->Xv
open IntKind renaming wrap->QG
open Int renaming toNat->XJ
open Nat renaming mul_le_mul_right->WI,pow_le_pow_right->XP
section
noncomputable section
def zqm:Hint:=⟨[(0,0),(0,1)],[],[none],[],[],false,false,[]⟩
def ztE:CF:=cfD zqm 125
def zmK:Nat→Sh:=yD [(6,(.int .i64)),(8,(.int .i64)),(12,(.sl 1)),(14,(.sl 1))]
def zmF(yh:zcb)(L:Nat):CBC:=(zq 130 (zkC yh L) noC)
def zoB{β:Type}(yh:zcb)(L:Nat)(A C:List V)(z:Bool→Ob β):Ob β:=cI .i64 A 0 fun D=>cI .i64 C 0 fun E=>ifb ((D:Int)==E) (cLd 1 A 1 fun F=>cLd 1 C 1 fun G=>yh β L F G (fun H=>z H)) (z false)
theorem zzS{β:Type}(yh:zcb)(L:Nat)(z A:List V)(k:KK β):zj zmK (zmF yh L) L ztE [(V.agg z),(V.agg A)] [] k=zoB yh L z A (fun z=>k (V.sc (.bool z)) []):=by kernel_rfl
abbrev ze9:=∀ (β:Type),Nat→List V→List V→(Bool→Ob β)→Ob β
def yi:ze9:=fun β=>@zoB β yh
def zn4(yi:ze9)(L:Nat):Dk:=dA AG fun z=>dA AG fun A=>d0 fun β k=>yi β L z A (fun z=>k (V.sc (.bool z)) [])
theorem zzV(L:Nat):DK (zn4 yi L) (fun _=>zj zmK (zmF yh L) L ztE):=xp zfP fun z=>xp zfP fun A=>xO fun _ k=>zzS yh L z A k
def zrz:Hint:=⟨[(0,0),(0,1),(6,10),(6,11)],[],[none,none,none,some ((bl 13194139533324 116),(bl 83076739832411214214465514083712527 116)),none,some ((bl 12 116),(bl 83076739832411214214465514083712527 116)),none,none,some ((bl 16 116),(bl 83076739832411214214465514083712531 116)),none,some ((bl 1813388729435137901592780 116),(bl 83076739833036927773445742074527471 116)),none,some ((bl 13194139533324 116),(bl 83076739833036927773445742074527279 116)),none,none,some ((bl 16 116),(bl 83076739832411214214465514083712531 116)),none,some ((bl 1901475900342344102245054808076 116),(bl 72692156019487586799426948609080623 116)),none,some ((bl 0 116),(bl 72692156019487586799426948609080611 116)),none,none,some ((bl 16 116),(bl 72692156019487586799426948609080627 116)),none],[],[],false,false,[]⟩
def cf_ref09_SameTx:CF:=cfD zrz 72
def zdr:CC:=yw [1,1,0,1,0,0,1,1,0,0,1,1,1,1,0,0] cf_ref09_SameTx.body
def zgP:CC:=yw [1,1,0,1,0,0,1,1,1] cf_ref09_SameTx.body
def zh3:CC:=yw [1,1,1,0,1,0,0] cf_ref09_SameTx.body
def zfF:CC:=yw [1,1,0,1,0,0] cf_ref09_SameTx.body
def zkN:CC:=yw [1,1,1,1] cf_ref09_SameTx.body
def zhD:CC:=yw [1,1,1] cf_ref09_SameTx.body
def zC:Nat→Sh:=yD [(11,(.int .u32)),(13,(.int .u32)),(17,(.int .u32)),(19,(.int .u32)),(24,(.sl 35)),(27,(.sl 35)),(33,(.sl 2)),(36,(.sl 2)),(41,(.sl 35)),(47,(.sl 35)),(52,(.sl 35)),(63,(.int .u32)),(65,(.int .u32)),(70,(.sl 1)),(73,(.sl 1)),(78,(.sl 1)),(98,(.sl 2)),(84,(.sl 1)),(87,(.sl 1)),(89,(.sl 1)),(92,(.sl 1)),(104,(.sl 2)),(109,(.sl 2))]
def yC(yh:zcb)(yi:ze9)(L:Nat):CBC:=(zq 181 (zn4 yi L) (zq 130 (zkC yh L) noC))
def zbP:St→St:=zN 0 (bl 13194139533324 116) (bl 83076739832411214214465514083712527 116)
def zdU:St→St:=zN 0 (bl 1813388729435137901592780 116) (bl 83076739833036927773445742074527471 116)
def zi1:St→St:=zN 0 (bl 1901475900342344102245054808076 116) (bl 72692156019487586799426948609080623 116)
def zbJ(z A:Int)(C D:List V):St:=⟨(jn 2 ((V.ptr 2 0)::((V.ptr 3 0)::(jn 38 ((Qe z)::((Qe A)::(jn 72 []))))))),(gn 2 ((.live true C)::((.live true D)::(gn 112 []))))⟩
def y7(z:Bool):St:=⟨(jn 4 ((V.sc (.bool z))::(jn 111 []))),(gn 116 [])⟩
def zbB(z A C D:Int)(E F G H:List V):St:=⟨(jn 2 ((V.ptr 2 0)::((V.ptr 3 0)::(jn 2 ((V.ptr 6 0)::((V.ptr 7 0)::(jn 34 ((Qe z)::((Qe A)::(jn 35 ((Qe C)::((Qe D)::(jn 35 []))))))))))))),(gn 2 ((.live true E)::((.live true F)::(gn 2 ((.live true G)::((.live true H)::(gn 108 [])))))))⟩
def zeQ(z A:List V):St:=⟨(jn 2 ((V.ptr 2 0)::((V.ptr 3 0)::(jn 112 [])))),(gn 2 ((.live true z)::((.live true A)::(gn 112 []))))⟩
def zdY(A z:Int)(C D:List V):St:=⟨(jn 2 ((V.ptr 2 0)::((V.ptr 3 0)::(jn 95 ((Qe A)::((Qe z)::(jn 15 []))))))),(gn 2 ((.live true C)::((.live true D)::(gn 112 []))))⟩
def zkI(z A:Int)(C D:List V):St:=⟨(jn 2 ((V.ptr 2 0)::((V.ptr 3 0)::(jn 38 ((Qe z)::((Qe A)::(jn 72 []))))))),(gn 2 ((.live true C)::((.live true D)::(gn 112 []))))⟩
def zkm:St:=⟨(jn 116 []),(gn 116 [])⟩
abbrev zhd(β:Type):Type:=Int→Int→Int→Int→List V→List V→List V→List V→Ob β
section
variable {β:Type} (yh:zcb) (yi:ze9)
def zpq(L:Nat)(C D:List V)(z:Bool→Ob β)(A:Int→Int→List V→List V→Ob β):Ob β:=cI .u32 C 0 fun E=>cI .u32 D 0 fun F=>ifb ((E:Int) != F) (z false) (cI .u32 C 3 fun G=>cI .u32 D 3 fun H=>ifb ((G:Int) != H) (z false) (cLd 35 C 1 fun I=>cLd 35 D 1 fun J=>ifb ((((XI I:Nat):Int):Int) != ((XI J:Nat):Int)) (z false) (cLd 2 C 2 fun M=>cLd 2 D 2 fun N=>ifb ((((XI M:Nat):Int):Int) != ((XI N:Nat):Int)) (z false) (cLd 35 C 1 fun O=>A ((XI O:Nat):Int) (0:Int) C D))))
theorem zCa(L:Nat)(z A:List V)(k:KK β):zj zC (yC yh yi L) L cf_ref09_SameTx [(V.agg z),(V.agg A)] [] k=zpq L z A (fun z=>k (V.sc (.bool z)) []) (fun C D E F=>yx (xf zC (yC yh yi L) 0 L zfF) zbP L (zbJ C D E F) (zl 0 (zy (xf zC (yC yh yi L) 0 L zhD) (zG 0 (CF.res cf_ref09_SameTx) k)))):=by kernel_rfl
def zjE(L:Nat)(F E:Int)(I J:List V)(C:Bool→Ob β)(z:zhd β)(M:List V→List V→Ob β):Ob β:=ifb (decide (E<F)) (cLd 35 I 1 fun U=>idx U E fun G=>cLd 35 J 1 fun N=>idx N E fun H=>chk ((XI (XK 35 G))=35∧0+35≤35) (lt (xd (We 32 (Qa (0:Int))++[(Qc (0:Int)),(Qc (0:Int)),(V.gs 1 ([]:Ls))]) 0 (XK 35 G)) fun A=>chk ((XI (XK 35 H))=35∧0+35≤35) (lt (xd (We 32 (Qa (0:Int))++[(Qc (0:Int)),(Qc (0:Int)),(V.gs 1 ([]:Ls))]) 0 (XK 35 H)) fun D=>chk (0+33≤(XI A)) (chk (0+33≤(XI D)) (eqC 33 (XK 33 A) (XK 33 D) fun O=>ifb (!O) (C false) (cI .u32 A 33 fun P=>cI .u32 D 33 fun Q=>ifb ((P:Int) != Q) (C false) (cLd 1 A 34 fun R=>cLd 1 D 34 fun S=>ifb ((((XI R:Nat):Int):Int) != ((XI S:Nat):Int)) (C false) (cLd 1 A 34 fun T=>z F E ((XI T:Nat):Int) (0:Int) I J A D)))))))) (M I J)
theorem zvQ(L:Nat)(z A:Int)(C D:List V)(X:St→Ob β)(K:KT β):xf zC (yC yh yi L) 0 L zfF (zbJ z A C D) (xS zbP X K)=zjE L z A C D (fun G=>K .ret (y7 G)) (fun z A E F C D H I=>yx (xf zC (yC yh yi L) 0 L zdr) zdU L (zbB z A E F C D H I) (zl 2 (zl 1 (zy (xf zC (yC yh yi L) 0 L zgP) (xS zbP X K))))) (fun C D=>K (.exit 0) (zeQ C D)):=by kernel_rfl
def zmf(L:Nat)(A:Bool)(z:Bool→Ob β):Ob β:=z A
theorem zsf(L:Nat)(z:Bool)(k:KK β):(zl 0 (zy (xf zC (yC yh yi L) 0 L zhD) (zG 0 (CF.res cf_ref09_SameTx) k))) .ret (y7 z)=zmf L z (fun A=>k (V.sc (.bool A)) []):=by kernel_rfl
def zii(L:Nat)(A D:List V)(z:Int→Int→List V→List V→Ob β):Ob β:=cLd 2 A 2 fun C=>z ((XI C:Nat):Int) (0:Int) A D
theorem zsC(L:Nat)(z A:List V)(k:KK β):(zl 0 (zy (xf zC (yC yh yi L) 0 L zhD) (zG 0 (CF.res cf_ref09_SameTx) k))) (.exit 0) (zeQ z A)=zii L z A (fun D C z A=>yx (xf zC (yC yh yi L) 0 L zh3) zi1 L (zdY D C z A) (zl 4 (zy (xf zC (yC yh yi L) 0 L zkN) (zG 0 (CF.res cf_ref09_SameTx) k)))):=by kernel_rfl
def zdT(L:Nat)(D E F A:Int)(H I J M:List V)(C:Bool→Ob β)(z:zhd β)(G:Int→Int→List V→List V→Ob β):Ob β:=ifb (decide (A<F)) (cLd 1 J 34 fun N=>idx N A fun O=>cL 1 O 0 fun P=>cLd 1 M 34 fun Q=>idx Q A fun R=>cL 1 R 0 fun S=>yh β L P S (fun T=>ifb (!T) (C false) (lt (QG .i64 ((A:Int)+(1:Int))) fun U=>z D E F U H I J M))) (G D E H I)
theorem zmS(L:Nat)(z A C D:Int)(E F G H:List V)(X:St→Ob β)(K:KT β):xf zC (yC yh yi L) 0 L zdr (zbB z A C D E F G H) (xS zdU X K)=zdT yh L z A C D E F G H (fun I=>K .ret (y7 I)) (fun z A C D E F G H=>X (zbB z A C D E F G H)) (fun z A E F=>K (.exit 2) (zkI z A E F)):=by kernel_rfl
def ziE(L:Nat)(D z:Int)(F G:List V)(C:Bool→Ob β)(A:Int→Int→List V→List V→Ob β)(E:Ob β):Ob β:=ifb (decide (z<D)) (cLd 2 F 2 fun H=>idx H z fun I=>cLd 2 G 2 fun J=>idx J z fun M=>yi β L (Xv V.dem (XK 2 I)) (Xv V.dem (XK 2 M)) (fun N=>ifb (!N) (C false) (lt (QG .i64 ((z:Int)+(1:Int))) fun O=>A D O F G))) (E)
theorem zt5(L:Nat)(A z:Int)(C D:List V)(X:St→Ob β)(K:KT β):xf zC (yC yh yi L) 0 L zh3 (zdY A z C D) (xS zi1 X K)=ziE yi L A z C D (fun E=>K .ret (y7 E)) (fun A z C D=>X (zdY A z C D)) (K (.exit 4) (zkm)):=by kernel_rfl
def zgc(L:Nat)(A:Bool)(z:Bool→Ob β):Ob β:=z A
theorem zlb(L:Nat)(z:Bool)(X:St→Ob β)(K:KT β):(zl 2 (zl 1 (zy (xf zC (yC yh yi L) 0 L zgP) (xS zbP X K)))) .ret (y7 z)=zgc L z (fun z=>K .ret (y7 z)):=by kernel_rfl
def zdf(L:Nat)(A C:Int)(E F:List V)(z:Int→Int→List V→List V→Ob β):Ob β:=lt (QG .i64 ((C:Int)+(1:Int))) fun D=>z A D E F
theorem zlG(L:Nat)(z A:Int)(C D:List V)(X:St→Ob β)(K:KT β):(zl 2 (zl 1 (zy (xf zC (yC yh yi L) 0 L zgP) (xS zbP X K)))) (.exit 2) (zkI z A C D)=zdf L z A C D (fun z A C D=>X (zbJ z A C D)):=by kernel_rfl
def zli(L:Nat)(A:Bool)(z:Bool→Ob β):Ob β:=z A
theorem zq2(L:Nat)(z:Bool)(k:KK β):(zl 4 (zy (xf zC (yC yh yi L) 0 L zkN) (zG 0 (CF.res cf_ref09_SameTx) k))) .ret (y7 z)=zli L z (fun A=>k (V.sc (.bool A)) []):=by kernel_rfl
def zlS(L:Nat)(z:Bool→Ob β):Ob β:=z true
theorem zsi(L:Nat)(k:KK β):(zl 4 (zy (xf zC (yC yh yi L) 0 L zkN) (zG 0 (CF.res cf_ref09_SameTx) k))) (.exit 4) (zkm)=zlS L (fun z=>k (V.sc (.bool z)) []):=by kernel_rfl
def zbb(L:Nat)(z:Bool→Ob β)(A:Int→Int→List V→List V→Ob β):Nat→Int→Int→Int→Int→List V→List V→List V→List V→Ob β
 | 0,_,_,_,_,_,_,_,_=>none
 | n+1,C,D,E,F,G,H,I,J=>zdT yh L C D E F G H I J z (fun C D E F G H I J=>zbb L z A n C D E F G H I J) A
theorem zga(L:Nat)(K:KT β):∀ (n:Nat) (z A E F:Int) (C D G H:List V),yx (xf zC (yC yh yi L) 0 L zdr) zdU n (zbB z A E F C D G H) K=zbb yh L (fun I=>K .ret (y7 I)) (fun z A C D=>K (.exit 2) (zkI z A C D)) n z A E F C D G H:=by
 intro n; induction n <;> intros
 ·rfl
 ·exact (zmS ..).trans (by simp only [*]; rfl)
def zfz(L:Nat)(z A:Int)(E F:List V)(D:Bool→Ob β)(G:List V→List V→Ob β)(C:Int→Int→List V→List V→Ob β):Ob β:=zjE L z A E F D (fun z A H I E F J M=>zbb yh L (fun N=>zgc L N D) (fun z A E F=>zdf L z A E F C) L z A H I E F J M) G
theorem ztR(L:Nat)(z A:Int)(C D:List V)(X:St→Ob β)(K:KT β):xf zC (yC yh yi L) 0 L zfF (zbJ z A C D) (xS zbP X K)=zfz yh L z A C D (fun E=>K .ret (y7 E)) (fun C D=>K (.exit 0) (zeQ C D)) (fun z A C D=>X (zbJ z A C D)):=by
 refine (zvQ ..).trans ?_
 unfold zfz
 first
  | (simp only [zga,zlb,zlG]; done)
  | (simp only [zga]; rfl)
def zea(L:Nat)(z:Bool→Ob β)(A:List V→List V→Ob β):Nat→Int→Int→List V→List V→Ob β
 | 0,_,_,_,_=>none
 | n+1,C,D,E,F=>zfz yh L C D E F z A (fun C D E F=>zea L z A n C D E F)
theorem zl7(L:Nat)(K:KT β):∀ (n:Nat) (C D:Int) (z A:List V),yx (xf zC (yC yh yi L) 0 L zfF) zbP n (zbJ C D z A) K=zea yh L (fun E=>K .ret (y7 E)) (fun z A=>K (.exit 0) (zeQ z A)) n C D z A:=by
 intro n; induction n <;> intros
 ·rfl
 ·exact (ztR ..).trans (by simp only [*]; rfl)
def zdo(L:Nat)(A:Bool→Ob β)(C:Ob β):Nat→Int→Int→List V→List V→Ob β
 | 0,_,_,_,_=>none
 | n+1,D,z,E,F=>ziE yi L D z E F A (fun D z E F=>zdo L A C n D z E F) C
theorem zlj(L:Nat)(K:KT β):∀ (n:Nat) (A z:Int) (C D:List V),yx (xf zC (yC yh yi L) 0 L zh3) zi1 n (zdY A z C D) K=zdo yi L (fun E=>K .ret (y7 E)) (K (.exit 4) (zkm)) n A z C D:=by
 intro n; induction n <;> intros
 ·rfl
 ·exact (zt5 ..).trans (by simp only [*]; rfl)
def zex(L:Nat)(A C:List V)(z:Bool→Ob β):Ob β:=zii L A C (fun E D A C=>zdo yi L (fun F=>zli L F z) (zlS L z) L E D A C)
theorem zr7(L:Nat)(z A:List V)(k:KK β):(zl 0 (zy (xf zC (yC yh yi L) 0 L zhD) (zG 0 (CF.res cf_ref09_SameTx) k))) (.exit 0) (zeQ z A)=zex yi L z A (fun C=>k (V.sc (.bool C)) []):=by
 refine (zsC ..).trans ?_
 unfold zex
 first
  | (simp only [zlj,zq2,zsi]; done)
  | (simp only [zlj]; rfl)
end
def zkZ{β:Type}(yh:zcb)(yi:ze9)(L:Nat)(F G:List V)(z:Bool→Ob β):Ob β:=zpq L F G z (fun D E A C=>zea yh L (fun H=>zmf L H z) (fun A C=>zex yi L A C z) L D E A C)
theorem zB6{β:Type}(yh:zcb)(yi:ze9)(L:Nat)(z A:List V)(k:KK β):zj zC (yC yh yi L) L cf_ref09_SameTx [(V.agg z),(V.agg A)] [] k=zkZ yh yi L z A (fun z=>k (V.sc (.bool z)) []):=by
 refine (zCa yh yi L z A k).trans ?_
 unfold zkZ
 first
  | (simp only [zl7,zsf,zr7]; done)
  | (simp only [zl7]; rfl)
abbrev zf3:=∀ (β:Type),Nat→List V→List V→(Bool→Ob β)→Ob β
def yu:zf3:=fun β=>@zkZ β yh yi
def zpe(yu:zf3)(L:Nat):Dk:=dA AG fun z=>dA AG fun A=>d0 fun β k=>yu β L z A (fun z=>k (V.sc (.bool z)) [])
theorem zCz(L:Nat):DK (zpe yu L) (fun _=>zj zC (yC yh yi L) L cf_ref09_SameTx):=xp zfP fun z=>xp zfP fun A=>xO fun _ k=>zB6 yh yi L z A k
def znU:Hint:=⟨[(0,0),(0,1)],[],[none,none,none,some ((bl 12582924 39),(bl 481036337103 39)),none,some ((bl 0 39),(bl 481036337091 39)),none,none,some ((bl 16 39),(bl 481036337107 39)),none],[],[],false,false,[]⟩
def cf_ref11_SameBlock:CF:=cfD znU 34
def zgJ:CC:=yw [1,1,0,1,0,0] cf_ref11_SameBlock.body
def ziV:CC:=yw [1,1,1] cf_ref11_SameBlock.body
def zaF:Nat→Sh:=yD [(13,(.sl 4)),(16,(.sl 4)),(21,(.sl 4)),(27,(.sl 4)),(32,(.sl 4))]
def zaI(yu:zf3)(L:Nat):CBC:=(zq 143 (zpe yu L) noC)
def zhg:St→St:=zN 0 (bl 12582924 39) (bl 481036337103 39)
def zdd(z A:Int)(C D:List V):St:=⟨(jn 2 ((V.ptr 2 0)::((V.ptr 3 0)::(jn 18 ((Qe z)::((Qe A)::(jn 15 []))))))),(gn 2 ((.live true C)::((.live true D)::(gn 35 []))))⟩
def zhu(z:Bool):St:=⟨(jn 4 ((V.sc (.bool z))::(jn 34 []))),(gn 39 [])⟩
def zhT:St:=⟨(jn 39 []),(gn 39 [])⟩
section
variable {β:Type} (yu:zf3)
def zlL(L:Nat)(C D:List V)(A:Bool→Ob β)(z:Int→Int→List V→List V→Ob β):Ob β:=chk (0+68≤(XI C)) (chk (0+68≤(XI D)) (eqC 68 (XK 68 C) (XK 68 D) fun E=>ifb (!E) (A false) (cLd 4 C 68 fun F=>cLd 4 D 68 fun G=>ifb ((((XI F:Nat):Int):Int) != ((XI G:Nat):Int)) (A false) (cLd 4 C 68 fun H=>z ((XI H:Nat):Int) (0:Int) C D))))
theorem zx2(L:Nat)(z A:List V)(k:KK β):zj zaF (zaI yu L) L cf_ref11_SameBlock [(V.agg z),(V.agg A)] [] k=zlL L z A (fun z=>k (V.sc (.bool z)) []) (fun C D E F=>yx (xf zaF (zaI yu L) 0 L zgJ) zhg L (zdd C D E F) (zl 0 (zy (xf zaF (zaI yu L) 0 L ziV) (zG 0 (CF.res cf_ref11_SameBlock) k)))):=by kernel_rfl
def zhr(L:Nat)(D A:Int)(F G:List V)(C:Bool→Ob β)(z:Int→Int→List V→List V→Ob β)(E:Ob β):Ob β:=ifb (decide (A<D)) (cLd 4 F 68 fun H=>idx H A fun I=>cLd 4 G 68 fun J=>idx J A fun M=>yu β L (Xv V.dem (XK 4 I)) (Xv V.dem (XK 4 M)) (fun N=>ifb (!N) (C false) (lt (QG .i64 ((A:Int)+(1:Int))) fun O=>z D O F G))) (E)
theorem zsg(L:Nat)(z A:Int)(C D:List V)(X:St→Ob β)(K:KT β):xf zaF (zaI yu L) 0 L zgJ (zdd z A C D) (xS zhg X K)=zhr yu L z A C D (fun E=>K .ret (zhu E)) (fun z A C D=>X (zdd z A C D)) (K (.exit 0) (zhT)):=by kernel_rfl
def zjT(L:Nat)(A:Bool)(z:Bool→Ob β):Ob β:=z A
theorem zpw(L:Nat)(z:Bool)(k:KK β):(zl 0 (zy (xf zaF (zaI yu L) 0 L ziV) (zG 0 (CF.res cf_ref11_SameBlock) k))) .ret (zhu z)=zjT L z (fun A=>k (V.sc (.bool A)) []):=by kernel_rfl
def zkk(L:Nat)(z:Bool→Ob β):Ob β:=z true
theorem zqH(L:Nat)(k:KK β):(zl 0 (zy (xf zaF (zaI yu L) 0 L ziV) (zG 0 (CF.res cf_ref11_SameBlock) k))) (.exit 0) (zhT)=zkk L (fun z=>k (V.sc (.bool z)) []):=by kernel_rfl
def zcN(L:Nat)(z:Bool→Ob β)(A:Ob β):Nat→Int→Int→List V→List V→Ob β
 | 0,_,_,_,_=>none
 | n+1,C,D,E,F=>zhr yu L C D E F z (fun C D E F=>zcN L z A n C D E F) A
theorem zjN(L:Nat)(K:KT β):∀ (n:Nat) (z A:Int) (C D:List V),yx (xf zaF (zaI yu L) 0 L zgJ) zhg n (zdd z A C D) K=zcN yu L (fun E=>K .ret (zhu E)) (K (.exit 0) (zhT)) n z A C D:=by
 intro n; induction n <;> intros
 ·rfl
 ·exact (zsg ..).trans (by simp only [*]; rfl)
end
def zhG{β:Type}(yu:zf3)(L:Nat)(D E:List V)(z:Bool→Ob β):Ob β:=zlL L D E z (fun A C F G=>zcN yu L (fun H=>zjT L H z) (zkk L z) L A C F G)
theorem zxH{β:Type}(yu:zf3)(L:Nat)(z A:List V)(k:KK β):zj zaF (zaI yu L) L cf_ref11_SameBlock [(V.agg z),(V.agg A)] [] k=zhG yu L z A (fun z=>k (V.sc (.bool z)) []):=by
 refine (zx2 yu L z A k).trans ?_
 unfold zhG
 first
  | (simp only [zjN,zpw,zqH]; done)
  | (simp only [zjN]; rfl)
abbrev zcv:=∀ (β:Type),Nat→List V→List V→(Bool→Ob β)→Ob β
def xw:zcv:=fun β=>@zhG β yu
def zhF(xw:zcv)(L:Nat):Dk:=dA AG fun z=>dA AG fun A=>d0 fun β k=>xw β L z A (fun z=>k (V.sc (.bool z)) [])
theorem zxs(L:Nat):DK (zhF xw L) (fun _=>zj zaF (zaI yu L) L cf_ref11_SameBlock):=xp zfP fun z=>xp zfP fun A=>xO fun _ k=>zxH yu L z A k
def zue:Hint:=⟨[],[],[none,none,none,some ((bl 57348 24),(bl 15728319 24)),none,some ((bl 0 24),(bl 15728319 24)),none,none,some ((bl 64 24),(bl 15728383 24)),none],[],[],false,false,[]⟩
def cf_keep_Items:CF:=cfD zue 73
def zQR:CC:=yw [1,1,0,1,0,0] cf_keep_Items.body
def zS5:CC:=yw [1,1,1] cf_keep_Items.body
def zUQ:Nat→Sh:=yD [(18,(.sl 1))]
def zUS(L:Nat):CBC:=noC
def zRt:St→St:=zN 0 (bl 57348 24) (bl 15728319 24)
def zOB(D:Int)(z:Ls)(A C:Int):St:=⟨(jn 2 ((Qe D)::(jn 10 ((V.sl 1 z)::((Qe A)::((Qe C)::(jn 8 []))))))),(gn 24 [])⟩
def zRx(z:Bool):St:=⟨(jn 6 ((V.sc (.bool z))::(jn 17 []))),(gn 24 [])⟩
def zR0:St:=⟨(jn 24 []),(gn 24 [])⟩
section
variable {β:Type}
def zLX(L:Nat)(C:Ls)(D E:Int)(A:Bool→Ob β)(z:Int→Ls→Int→Int→Ob β):Ob β:=ifb (decide (((XI C:Nat):Int)>D)) (A false) (z E C ((XI C:Nat):Int) (0:Int))
def zCD(L:Nat)(G:Int)(D:Ls)(E A:Int)(C:Bool→Ob β)(z:Int→Ls→Int→Int→Ob β)(F:Ob β):Ob β:=ifb (decide (A<E)) (idx D A fun H=>cL 1 H 0 fun I=>ifb (decide (((XI I:Nat):Int)>G)) (C false) (lt (QG .i64 ((A:Int)+(1:Int))) fun J=>z G D E J)) (F)
def zyw(L:Nat)(A:Bool)(z:Bool→Ob β):Ob β:=z A
def zzc(L:Nat)(z:Bool→Ob β):Ob β:=z true
def zrG(L:Nat)(z:Bool→Ob β)(A:Ob β):Nat→Int→Ls→Int→Int→Ob β
 | 0,_,_,_,_=>none
 | n+1,F,C,D,E=>zCD L F C D E z (fun F C D E=>zrG L z A n F C D E) A
end
def zLQ{β:Type}(L:Nat)(F:Ls)(G A:Int)(z:Bool→Ob β):Ob β:=zLX L F G A z (fun A C D E=>zrG L (fun H=>zyw L H z) (zzc L z) L A C D E)
abbrev zkt:=∀ (β:Type),Nat→Ls→Int→Int→(Bool→Ob β)→Ob β
def zcQ:zkt:=fun β=>@zLQ β
def zLN(zcQ:zkt)(L:Nat):Dk:=dA (AL 1) fun z=>dA (AI .i64) fun A=>dA (AI .i64) fun C=>d0 fun β k=>zcQ β L z A C (fun z=>k (V.sc (.bool z)) [])
def zBh:Hint:=⟨[(0,0),(5,2),(11,2)],[],[none,none,none,some ((bl 1835010 41),(bl 2198956146603 41)),none,some ((bl 2 41),(bl 2198956146603 41)),none,none,some ((bl 4 41),(bl 2198956146605 41)),none,some ((bl 7516192768 41),(bl 1924145348521 41)),none,some ((bl 0 41),(bl 1924145348521 41)),none,none,some ((bl 4 41),(bl 1924145348525 41)),none],[],[],false,false,[]⟩
def cf_keep_Tx:CF:=cfD zBh 35
def zSr:CC:=yw [1,1,1,0,1,0,0] cf_keep_Tx.body
def zTm:CC:=yw [1,1,0,1,0,0] cf_keep_Tx.body
def zUV:CC:=yw [1,1,1,1] cf_keep_Tx.body
def zWi:CC:=yw [1,1,1] cf_keep_Tx.body
def zWR:Nat→Sh:=yD [(8,(.sl 35)),(13,(.sl 2)),(18,(.sl 35)),(25,(.sl 1)),(30,(.sl 2)),(37,(.sl 1))]
def zWM(zcQ:zkt)(L:Nat):CBC:=(zq 145 (zLN zcQ L) noC)
def zUH:St→St:=zN 0 (bl 1835010 41) (bl 2198956146603 41)
def zTk:St→St:=zN 0 (bl 7516192768 41) (bl 1924145348521 41)
def zRz(z:Ls)(A C:Int)(D:List V):St:=⟨(jn 1 ((V.ptr 1 0)::(jn 16 ((V.sl 35 z)::((Qe A)::((Qe C)::(jn 20 []))))))),(gn 1 ((.live true D)::(gn 39 [])))⟩
def zTZ(z:Bool):St:=⟨(jn 2 ((V.sc (.bool z))::(jn 38 []))),(gn 41 [])⟩
def zUW(z:List V):St:=⟨(jn 1 ((V.ptr 1 0)::(jn 39 []))),(gn 1 ((.live true z)::(gn 39 [])))⟩
def zRm(z:Ls)(A C:Int):St:=⟨(jn 30 ((V.sl 2 z)::((Qe A)::((Qe C)::(jn 8 []))))),(gn 41 [])⟩
def zUM:St:=⟨(jn 41 []),(gn 41 [])⟩
section
variable {β:Type} (zcQ:zkt)
def zQa(L:Nat)(C:List V)(A:Bool→Ob β)(z:Ls→Int→Int→List V→Ob β):Ob β:=cLd 35 C 1 fun E=>ifb (decide (((XI E:Nat):Int)>(70:Int))) (A false) (cLd 2 C 2 fun F=>ifb (decide (((XI F:Nat):Int)>(70:Int))) (A false) (cLd 35 C 1 fun D=>z D ((XI D:Nat):Int) (0:Int) C))
def zIs(L:Nat)(D:Ls)(E A:Int)(G:List V)(C:Bool→Ob β)(z:Ls→Int→Int→List V→Ob β)(F:List V→Ob β):Ob β:=ifb (decide (A<E)) (idx D A fun H=>chk ((XI (XK 35 H))=35∧0+35≤35) (lt (xd (We 32 (Qa (0:Int))++[(Qc (0:Int)),(Qc (0:Int)),(V.gs 1 ([]:Ls))]) 0 (XK 35 H)) fun I=>cLd 1 I 34 fun J=>zcQ β L J (40:Int) (600:Int) (fun M=>ifb (!M) (C false) (lt (QG .i64 ((A:Int)+(1:Int))) fun N=>z D E N G)))) (F G)
def zC8(L:Nat)(A:Bool)(z:Bool→Ob β):Ob β:=z A
def zDR(L:Nat)(C:List V)(z:Ls→Int→Int→Ob β):Ob β:=cLd 2 C 2 fun A=>z A ((XI A:Nat):Int) (0:Int)
def zFV(L:Nat)(D:Ls)(E A:Int)(C:Bool→Ob β)(z:Ls→Int→Int→Ob β)(F:Ob β):Ob β:=ifb (decide (A<E)) (idx D A fun G=>chk ((XI (XK 2 G))=2∧0+2≤2) (lt (xd [(Qe (0:Int)),(V.gs 1 ([]:Ls))] 0 (XK 2 G)) fun H=>cLd 1 H 1 fun I=>ifb (decide (((XI I:Nat):Int)>(600:Int))) (C false) (lt (QG .i64 ((A:Int)+(1:Int))) fun J=>z D E J))) (F)
def zzZ(L:Nat)(A:Bool)(z:Bool→Ob β):Ob β:=z A
def zCC(L:Nat)(z:Bool→Ob β):Ob β:=z true
def zv5(L:Nat)(z:Bool→Ob β)(A:List V→Ob β):Nat→Ls→Int→Int→List V→Ob β
 | 0,_,_,_,_=>none
 | n+1,C,D,E,F=>zIs zcQ L C D E F z (fun C D E F=>zv5 L z A n C D E F) A
def zub(L:Nat)(z:Bool→Ob β)(A:Ob β):Nat→Ls→Int→Int→Ob β
 | 0,_,_,_=>none
 | n+1,C,D,E=>zFV L C D E z (fun C D E=>zub L z A n C D E) A
def zCT(L:Nat)(E:List V)(z:Bool→Ob β):Ob β:=zDR L E (fun A C D=>zub L (fun F=>zzZ L F z) (zCC L z) L A C D)
end
def zRl{β:Type}(zcQ:zkt)(L:Nat)(F:List V)(z:Bool→Ob β):Ob β:=zQa L F z (fun C D E A=>zv5 zcQ L (fun G=>zC8 L G z) (fun A=>zCT L A z) L C D E A)
abbrev zqh:=∀ (β:Type),Nat→List V→(Bool→Ob β)→Ob β
def zfU:zqh:=fun β=>@zRl β zcQ
def zRp(zfU:zqh)(L:Nat):Dk:=dA AG fun z=>d0 fun β k=>zfU β L z (fun z=>k (V.sc (.bool z)) [])
def zuj:Hint:=⟨[(0,0),(5,2)],[],[none,none,none,some ((bl 7168 20),(bl 917481 20)),none,some ((bl 0 20),(bl 917481 20)),none,none,some ((bl 4 20),(bl 917485 20)),none],[],[],false,false,[]⟩
def cf_keep_Block:CF:=cfD zuj 12
def zQP:CC:=yw [1,1,0,1,0,0] cf_keep_Block.body
def zS6:CC:=yw [1,1,1] cf_keep_Block.body
def zUU:Nat→Sh:=yD [(6,(.sl 4)),(10,(.sl 4))]
def zUR(zfU:zqh)(L:Nat):CBC:=(zq 127 (zRp zfU L) noC)
def zRu:St→St:=zN 0 (bl 7168 20) (bl 917481 20)
def zOL(z:Ls)(A C:Int):St:=⟨(jn 10 ((V.sl 4 z)::((Qe A)::((Qe C)::(jn 7 []))))),(gn 20 [])⟩
def zRA(z:Bool):St:=⟨(jn 2 ((V.sc (.bool z))::(jn 17 []))),(gn 20 [])⟩
def zS0:St:=⟨(jn 20 []),(gn 20 [])⟩
section
variable {β:Type} (zfU:zqh)
def zL8(L:Nat)(C:List V)(A:Bool→Ob β)(z:Ls→Int→Int→Ob β):Ob β:=cLd 4 C 68 fun E=>ifb (decide (((XI E:Nat):Int)>(12:Int))) (A false) (cLd 4 C 68 fun D=>z D ((XI D:Nat):Int) (0:Int))
def zCJ(L:Nat)(D:Ls)(E A:Int)(C:Bool→Ob β)(z:Ls→Int→Int→Ob β)(F:Ob β):Ob β:=ifb (decide (A<E)) (idx D A fun G=>chk ((XI (XK 4 G))=4∧0+4≤4) (lt (xd [(Qc (0:Int)),(V.gs 35 ([]:Ls)),(V.gs 2 ([]:Ls)),(Qc (0:Int))] 0 (XK 4 G)) fun H=>chk (0+4≤(XI H)) (zfU β L (Xv V.dem (XK 4 H)) (fun I=>ifb (!I) (C false) (lt (QG .i64 ((A:Int)+(1:Int))) fun J=>z D E J))))) (F)
def zxr(L:Nat)(A:Bool)(z:Bool→Ob β):Ob β:=z A
def zzp(L:Nat)(z:Bool→Ob β):Ob β:=z true
def zrR(L:Nat)(z:Bool→Ob β)(A:Ob β):Nat→Ls→Int→Int→Ob β
 | 0,_,_,_=>none
 | n+1,C,D,E=>zCJ zfU L C D E z (fun C D E=>zrR L z A n C D E) A
end
def zLt{β:Type}(zfU:zqh)(L:Nat)(E:List V)(z:Bool→Ob β):Ob β:=zL8 L E z (fun A C D=>zrR zfU L (fun F=>zxr L F z) (zzp L z) L A C D)
abbrev znE:=∀ (β:Type),Nat→List V→(Bool→Ob β)→Ob β
def zf9:znE:=fun β=>@zLt β zfU
def zLj(zf9:znE)(L:Nat):Dk:=dA AG fun z=>d0 fun β k=>zf9 β L z (fun z=>k (V.sc (.bool z)) [])
def zrP:Hint:=⟨[(0,0),(1,2),(7,0),(7,1)],[(1,1)],[none,some ((bl 1569 23),(bl 8388543 23)),none,some ((bl 32 23),(bl 8388543 23)),none,none],[],[],false,false,[]⟩
def cf_codec_lowest:CF:=cfD zrP 103
def zNV:CC:=yw [1,1,0,1,0,0] cf_codec_lowest.body
def zRC:CC:=yw [1,1,1] cf_codec_lowest.body
def zTl:Nat→Sh:=yD []
def zS9(L:Nat):CBC:=noC
def zPd:St→St:=zN 0 (bl 1569 23) (bl 8388543 23)
def zMR(C:Int)(z:Nat)(D A:Int)(E:List V):St:=⟨((Qd C)::(jn 4 ((V.own 8 0 z 1)::(jn 3 ((Qe D)::((Qe A)::(jn 12 []))))))),(gn 8 ((.live true E)::(gn 14 [])))⟩
def zRk(z:Nat)(A:List V):St:=⟨(jn 5 ((V.own 8 0 z 1)::(jn 17 []))),(gn 8 ((.live true A)::(gn 14 [])))⟩
section
variable {β:Type}
def zHa(L:Nat)(C z:Int)(A:Int→Nat→Int→Int→List V→Ob β):Ob β:=chk (0≤z∧z≤z∧(XJ z)*1≤zg∧z≤zg) (A C (XJ z) z (0:Int) (List.flatten (We (XJ z) [(Qa (0:Int))])))
def zzu(L:Nat)(F:Int)(C:Nat)(G z:Int)(D:List V)(A:Int→Nat→Int→Int→List V→Ob β)(E:Nat→List V→Ob β):Ob β:=ifb (decide (z<G)) (lt (QG .i64 (((8:Int):Int)*z)) fun H=>chk (0≤H) (lt (zcS .u64 F H) fun I=>lt (QG .u8 I) fun J=>chk (0≤z∧z<((C:Nat):Int)) (chk (1=1∧(0+((XJ z)*1))+1≤(XI D)) (lt (xd D (0+((XJ z)*1)) [(Qa J)]) fun M=>lt (QG .i64 ((z:Int)+(1:Int))) fun N=>A F C G N M)))) (E C D)
def zxm(L:Nat)(A:Nat)(C:List V)(z:Ls→Ob β):Ob β:=chk (A≠0∨(XI C)=0) (z (yf 1 A C))
def zoZ(L:Nat)(z:Nat→List V→Ob β):Nat→Int→Nat→Int→Int→List V→Ob β
 | 0,_,_,_,_,_=>none
 | n+1,D,A,E,C,F=>zzu L D A E C F (fun D A E C F=>zoZ L z n D A E C F) z
end
def zH6{β:Type}(L:Nat)(C F:Int)(A:Ls→Ob β):Ob β:=zHa L C F (fun C z G E D=>zoZ L (fun z D=>zxm L z D A) L C z G E D)
abbrev zc0:=∀ (β:Type),Nat→Int→Int→(Ls→Ob β)→Ob β
def xV:zc0:=fun β=>@zH6 β
def zph(xV:zc0)(L:Nat):Dk:=dA (AI .u64) fun z=>dA (AI .i64) fun A=>d0 fun β k=>xV β L z A (fun z=>k (V.fr 1 z) [])
def znu:Hint:=⟨[(0,0),(1,5)],[],[none],[],[],false,false,[]⟩
def zQN:CF:=cfD znu 61
def zQW:Nat→Sh:=yD []
def zP8(xV:zc0)(zi:yW)(L:Nat):CBC:=(zq 191 (zco zi L) (zq 192 (zph xV L) noC))
def zC6{β:Type}(xV:zc0)(zi:yW)(L:Nat)(A:Ls)(C:Int)(z:Ls→Ob β):Ob β:=lt (QG .u64 C) fun D=>xV β L D (4:Int) (fun E=>zi β L A E (fun F=>z F))
abbrev zaq:=∀ (β:Type),Nat→Ls→Int→(Ls→Ob β)→Ob β
def zn:zaq:=fun β=>@zC6 β xV zi
def zhJ(zn:zaq)(L:Nat):Dk:=dA (AL 1) fun z=>dA (AI .u32) fun A=>d0 fun β k=>zn β L z A (fun z=>k (V.gs 1 z) [])
def zm6:Hint:=⟨[(0,1),(1,3)],[],[none],[],[],false,false,[]⟩
def zPe:CF:=cfD zm6 62
def zPa:Nat→Sh:=yD []
def zO9(zi:yW)(L:Nat):CBC:=(zq 191 (zco zi L) noC)
def zAE{β:Type}(zi:yW)(L:Nat)(C:Ls)(A:List V)(z:Ls→Ob β):Ob β:=chk (0+32*1≤(XI A)) (ifb (List.isEmpty A) (zi β L C (yf 1 32 A) (fun D=>z D)) (zi β L C (yf 1 32 A) (fun E=>z E)))
abbrev zc4:=∀ (β:Type),Nat→Ls→List V→(Ls→Ob β)→Ob β
def zW:zc4:=fun β=>@zAE β zi
def zqx(zW:zc4)(L:Nat):Dk:=dA (AL 1) fun z=>dA AG fun A=>d0 fun β k=>zW β L z A (fun z=>k (V.gs 1 z) [])
def zlh:Hint:=⟨[(0,1),(6,4)],[],[none],[],[],false,false,[]⟩
def zNa:CF:=cfD zlh 28
def zM6:Nat→Sh:=yD [(5,(.int .u32)),(17,(.int .u32)),(21,(.int .u32)),(25,(.int .u32))]
def zNG(zn:zaq)(zW:zc4)(L:Nat):CBC:=(zq 158 (zqx zW L) (zq 157 (zhJ zn L) noC))
def zx6{β:Type}(zn:zaq)(zW:zc4)(L:Nat)(z:List V)(A:Ls→Ob β):Ob β:=cI .u32 z 0 fun C=>zn β L ([]:Ls) C (fun D=>chk (1+32≤(XI z)) (zW β L D (XK 32 (List.drop 1 z)) (fun E=>chk (33+32≤(XI z)) (zW β L E (XK 32 (List.drop 33 z)) (fun F=>cI .u32 z 65 fun G=>zn β L F G (fun H=>cI .u32 z 66 fun I=>zn β L H I (fun J=>cI .u32 z 67 fun M=>zn β L J M (fun N=>A N))))))))
abbrev zds:=∀ (β:Type),Nat→List V→(Ls→Ob β)→Ob β
def zat:zds:=fun β=>@zx6 β zn zW
def zxK(zat:zds)(L:Nat):Dk:=dA AG fun z=>d0 fun β k=>zat β L z (fun z=>k (V.gs 1 z) [])
def znD:Hint:=⟨[(0,0),(1,5)],[],[none],[],[],false,false,[]⟩
def zQq:CF:=cfD znD 75
def zQO:Nat→Sh:=yD []
def zQT(xV:zc0)(zi:yW)(L:Nat):CBC:=(zq 191 (zco zi L) (zq 192 (zph xV L) noC))
def zCF{β:Type}(xV:zc0)(zi:yW)(L:Nat)(A:Ls)(C:Int)(z:Ls→Ob β):Ob β:=lt (QG .u64 C) fun D=>xV β L D (2:Int) (fun E=>zi β L A E (fun F=>z F))
abbrev zhH:=∀ (β:Type),Nat→Ls→Int→(Ls→Ob β)→Ob β
def zcy:zhH:=fun β=>@zCF β xV zi
def zCR(zcy:zhH)(L:Nat):Dk:=dA (AL 1) fun z=>dA (AI .u16) fun A=>d0 fun β k=>zcy β L z A (fun z=>k (V.gs 1 z) [])
def zor:Hint:=⟨[(0,0),(1,4)],[],[none],[],[],false,false,[]⟩
def zPY:CF:=cfD zor 76
def zRn:Nat→Sh:=yD []
def zQx(xV:zc0)(zi:yW)(L:Nat):CBC:=(zq 191 (zco zi L) (zq 192 (zph xV L) noC))
def zCr{β:Type}(xV:zc0)(zi:yW)(L:Nat)(A:Ls)(C:Int)(z:Ls→Ob β):Ob β:=xV β L C (8:Int) (fun D=>zi β L A D (fun E=>z E))
abbrev zcw:=∀ (β:Type),Nat→Ls→Int→(Ls→Ob β)→Ob β
def zP:zcw:=fun β=>@zCr β xV zi
def zrB(zP:zcw)(L:Nat):Dk:=dA (AL 1) fun z=>dA (AI .u64) fun A=>d0 fun β k=>zP β L z A (fun z=>k (V.gs 1 z) [])
def znk:Hint:=⟨[(0,0),(2,5),(4,6),(6,6),(7,5)],[],[none,none,none,none,none,none,none,none],[],[],false,false,[]⟩
def zO7:CF:=cfD znk 36
def zPf:Nat→Sh:=yD []
def zO6(zi:yW)(zcy:zhH)(zn:zaq)(zP:zcw)(L:Nat):CBC:=(zq 183 (zrB zP L) (zq 157 (zhJ zn L) (zq 205 (zCR zcy L) (zq 191 (zco zi L) noC))))
def zBb{β:Type}(zi:yW)(zcy:zhH)(zn:zaq)(zP:zcw)(L:Nat)(C:Ls)(A:Int)(z:Ls→Ob β):Ob β:=ifb (decide (A<(253:Int))) (lt (QG .u8 A) fun D=>zi β L C (yf 1 1 [(Qa D)]) (fun E=>z E)) (ifb (decide (A<(65536:Int))) (zi β L C (yf 1 1 [(Qa (253:Int))]) (fun F=>lt (QG .u16 A) fun G=>zcy β L F G (fun H=>z H))) (ifb (decide (A<(4294967296:Int))) (zi β L C (yf 1 1 [(Qa (254:Int))]) (fun I=>lt (QG .u32 A) fun J=>zn β L I J (fun M=>z M))) (zi β L C (yf 1 1 [(Qa (255:Int))]) (fun N=>zP β L N A (fun O=>z O)))))
abbrev zaE:=∀ (β:Type),Nat→Ls→Int→(Ls→Ob β)→Ob β
def zp:zaE:=fun β=>@zBb β zi zcy zn zP
def zkc(zp:zaE)(L:Nat):Dk:=dA (AL 1) fun z=>dA (AI .u64) fun A=>d0 fun β k=>zp β L z A (fun z=>k (V.gs 1 z) [])
def zy7:Hint:=⟨[(0,1),(1,6)],[],[none],[],[],false,false,[]⟩
def zWE:CF:=cfD zy7 126
def zWD:Nat→Sh:=yD [(7,(.int .u32))]
def zWF(zW:zc4)(zn:zaq)(L:Nat):CBC:=(zq 157 (zhJ zn L) (zq 158 (zqx zW L) noC))
def zOy{β:Type}(zW:zc4)(zn:zaq)(L:Nat)(A:List V)(z:Ls→Ob β):Ob β:=chk (0+32≤(XI A)) (zW β L ([]:Ls) (XK 32 A) (fun C=>cI .u32 A 32 fun D=>zn β L C D (fun E=>z E)))
abbrev zow:=∀ (β:Type),Nat→List V→(Ls→Ob β)→Ob β
def zeF:zow:=fun β=>@zOy β zW zn
def zOg(zeF:zow)(L:Nat):Dk:=dA AG fun z=>d0 fun β k=>zeF β L z (fun z=>k (V.gs 1 z) [])
def zma:Hint:=⟨[(0,0),(1,7)],[],[none],[],[],false,false,[]⟩
def zOr:CF:=cfD zma 127
def zN8:Nat→Sh:=yD []
def zN7(zp:zaE)(zi:yW)(L:Nat):CBC:=(zq 191 (zco zi L) (zq 182 (zkc zp L) noC))
def zzo{β:Type}(zp:zaE)(zi:yW)(L:Nat)(C A:Ls)(z:Ls→Ob β):Ob β:=lt (QG .u64 ((XI A:Nat):Int)) fun D=>zp β L C D (fun E=>zi β L E A (fun F=>z F))
abbrev zd4:=∀ (β:Type),Nat→Ls→Ls→(Ls→Ob β)→Ob β
def yH:zd4:=fun β=>@zzo β zp zi
def zzv(yH:zd4)(L:Nat):Dk:=dA (AL 1) fun z=>dA (AL 1) fun A=>d0 fun β k=>yH β L z A (fun z=>k (V.gs 1 z) [])
def zw9:Hint:=⟨[(0,0),(0,1),(1,3),(2,0),(2,7),(5,2),(6,0),(6,5),(7,0),(7,5),(9,0),(9,7),(12,2),(13,0),(13,6),(14,0),(14,5),(16,0),(16,5),(18,0),(18,1),(21,2),(22,0),(22,7),(26,0),(26,4),(29,0),(29,1)],[],[none,some ((bl 234881062 104),(bl 20282409603651670422246444234111 104)),none,some ((bl 38 104),(bl 20282409603651670422246444234111 104)),none,none,some ((bl 7881299347898406 104),(bl 20282409603537531194991173432703 104)),none,some ((bl 38 104),(bl 20282409603537531194991173432703 104)),none,none,none,none,some ((bl 1057810092162800527867936 104),(bl 18374976116870265429129244431739 104)),none,some ((bl 32 104),(bl 18374976116870265429129244431739 104)),none,none,some ((bl 17332218360087486649115607072 104),(bl 18380933703309326321702196467067 104)),none,some ((bl 1057810092162800527867936 104),(bl 18380933703309326321702196467067 104)),none,none],[],[],false,false,[]⟩
def cf_tx_encode:CF:=cfD zw9 78
def zDP:CC:=yw [1,1,1,1,1,1,1,1,0,1,0,0,1,1,0,0,1,1,1,0,0] cf_tx_encode.body
def zJA:CC:=yw [1,1,1,1,1,1,1,1,0,1,0,0,1,1,1] cf_tx_encode.body
def zMp:CC:=yw [1,1,1,1,1,1,1,1,0,1,0,0] cf_tx_encode.body
def zN1:CC:=yw [1,1,1,1,1,0,1,0,0] cf_tx_encode.body
def zOq:CC:=yw [1,1,1,1,1,1,1,1,1] cf_tx_encode.body
def zPW:CC:=yw [1,1,1,0,1,0,0] cf_tx_encode.body
def zRy:CC:=yw [1,1,1,1,1,1] cf_tx_encode.body
def zS8:CC:=yw [1,1,1,1] cf_tx_encode.body
def zVT:Nat→Sh:=yD [(15,(.int .u32)),(19,(.sl 35)),(25,(.sl 35)),(38,(.int .u32)),(44,(.sl 2)),(50,(.sl 2)),(58,(.int .i64)),(64,(.sl 1)),(70,(.int .u32)),(77,(.sl 35)),(85,(.sl 1)),(91,(.sl 1)),(96,(.sl 1))]
def zWu(zn:zaq)(zp:zaE)(zeF:zow)(zP:zcw)(yH:zd4)(L:Nat):CBC:=(zq 184 (zzv yH L) (zq 183 (zrB zP L) (zq 137 (zOg zeF L) (zq 182 (zkc zp L) (zq 157 (zhJ zn L) noC)))))
def zRB:St→St:=zN 0 (bl 234881062 104) (bl 20282409603651670422246444234111 104)
def zPc:St→St:=zN 0 (bl 7881299347898406 104) (bl 20282409603537531194991173432703 104)
def zMs:St→St:=zN 0 (bl 1057810092162800527867936 104) (bl 18374976116870265429129244431739 104)
def zE6:St→St:=zN 0 (bl 17332218360087486649115607072 104) (bl 18380933703309326321702196467067 104)
def zOR(D:Bool)(E z:Ls)(A C:Int)(F:List V):St:=⟨(jn 1 ((V.sc (.bool D))::((V.ptr 2 0)::(jn 2 ((V.gs 1 E)::(jn 19 ((V.sl 35 z)::((Qe A)::((Qe C)::(jn 76 [])))))))))),(gn 2 ((.live true F)::(gn 101 [])))⟩
def zTq(z:Bool)(A:Ls)(C:List V):St:=⟨(jn 1 ((V.sc (.bool z))::((V.ptr 2 0)::(jn 2 ((V.gs 1 A)::(jn 98 [])))))),(gn 2 ((.live true C)::(gn 101 [])))⟩
def zMx(D:Bool)(E z:Ls)(A C:Int)(F:List V):St:=⟨(jn 1 ((V.sc (.bool D))::((V.ptr 2 0)::(jn 2 ((V.gs 1 E)::(jn 44 ((V.sl 2 z)::((Qe A)::((Qe C)::(jn 51 [])))))))))),(gn 2 ((.live true F)::(gn 101 [])))⟩
def zTf(z:Bool)(A:Ls)(C:List V):St:=⟨(jn 1 ((V.sc (.bool z))::((V.ptr 2 0)::(jn 2 ((V.gs 1 A)::(jn 98 [])))))),(gn 2 ((.live true C)::(gn 101 [])))⟩
def zKl(D z:Ls)(A C:Int):St:=⟨(jn 5 ((V.gs 1 D)::(jn 71 ((V.sl 35 z)::((Qe A)::((Qe C)::(jn 24 []))))))),(gn 104 [])⟩
def zCd(G z:Ls)(A C:Int)(D:Ls)(E F:Int):St:=⟨(jn 5 ((V.gs 1 G)::(jn 71 ((V.sl 35 z)::((Qe A)::((Qe C)::(jn 11 ((V.sl 1 D)::((Qe E)::((Qe F)::(jn 10 []))))))))))),(gn 104 [])⟩
def zS3(z:Ls):St:=⟨(jn 5 ((V.gs 1 z)::(jn 98 []))),(gn 104 [])⟩
def zTv(D z:Ls)(A C:Int):St:=⟨(jn 5 ((V.gs 1 D)::(jn 71 ((V.sl 35 z)::((Qe A)::((Qe C)::(jn 24 []))))))),(gn 104 [])⟩
abbrev zqI(β:Type):Type:=Bool→Ls→Ls→Int→Int→List V→Ob β
abbrev znL(β:Type):Type:=Bool→Ls→Ls→Int→Int→List V→Ob β
abbrev zgf(β:Type):Type:=Ls→Ls→Int→Int→Ls→Int→Int→Ob β
section
variable {β:Type} (zn:zaq) (zp:zaE) (zeF:zow) (zP:zcw) (yH:zd4)
def zML(L:Nat)(A:List V)(F:Bool)(z:zqI β):Ob β:=cI .u32 A 0 fun G=>zn β L ([]:Ls) G (fun C=>cLd 35 A 1 fun H=>lt (QG .u64 ((XI H:Nat):Int)) fun I=>zp β L ([]:Ls) I (fun D=>chk ((XI C+XI D)*1≤zg∧XI C+XI D≤zg) (lt (C++D) fun J=>cLd 35 A 1 fun E=>z F J E ((XI E:Nat):Int) (0:Int) A)))
def zCI(L:Nat)(M:Bool)(E F:Ls)(G A:Int)(N:List V)(z:zqI β)(H:Bool→Ls→List V→Ob β):Ob β:=ifb (decide (A<G)) (idx F A fun O=>chk ((XI (XK 35 O))=35∧0+35≤35) (lt (xd (We 32 (Qa (0:Int))++[(Qc (0:Int)),(Qc (0:Int)),(V.gs 1 ([]:Ls))]) 0 (XK 35 O)) fun I=>chk (0+33≤(XI I)) (zeF β L (XK 33 I) (fun J=>chk ((XI E+XI J)*1≤zg∧XI E+XI J≤zg) (lt (E++J) fun C=>cI .u32 I 33 fun P=>zn β L ([]:Ls) P (fun D=>chk ((XI C+XI D)*1≤zg∧XI C+XI D≤zg) (lt (C++D) fun Q=>lt (QG .i64 ((A:Int)+(1:Int))) fun R=>z M Q F G R N))))))) (H M E N)
def zy8(L:Nat)(I:Bool)(D:Ls)(E:List V)(z:znL β):Ob β:=cLd 2 E 2 fun F=>lt (QG .u64 ((XI F:Nat):Int)) fun G=>zp β L ([]:Ls) G (fun A=>chk ((XI D+XI A)*1≤zg∧XI D+XI A≤zg) (lt (D++A) fun H=>cLd 2 E 2 fun C=>z I H C ((XI C:Nat):Int) (0:Int) E))
def zzq(L:Nat)(N:Bool)(F G:Ls)(H A:Int)(O:List V)(z:znL β)(M:Bool→Ls→List V→Ob β):Ob β:=ifb (decide (A<H)) (idx G A fun I=>chk ((XI (XK 2 I))=2∧0+2≤2) (lt (xd [(Qe (0:Int)),(V.gs 1 ([]:Ls))] 0 (XK 2 I)) fun J=>cI .i64 J 0 fun P=>lt (QG .u64 P) fun Q=>zP β L ([]:Ls) Q (fun C=>chk ((XI F+XI C)*1≤zg∧XI F+XI C≤zg) (lt (F++C) fun D=>cLd 1 J 1 fun R=>yH β L ([]:Ls) R (fun E=>chk ((XI D+XI E)*1≤zg∧XI D+XI E≤zg) (lt (D++E) fun S=>lt (QG .i64 ((A:Int)+(1:Int))) fun T=>z N S G H T O)))))) (M N F O)
def zwn(L:Nat)(I:Bool)(F:Ls)(G:List V)(C:Ls→Ob β)(z:Ls→Ls→Int→Int→Ob β):Ob β:=cI .u32 G 3 fun H=>zn β L ([]:Ls) H (fun A=>chk ((XI F+XI A)*1≤zg∧XI F+XI A≤zg) (lt (F++A) fun D=>ifb (!I) (C D) (cLd 35 G 1 fun E=>z D E ((XI E:Nat):Int) (0:Int))))
def zvW(L:Nat)(D E:Ls)(F A:Int)(z:zgf β)(J:Ls→Ob β):Ob β:=ifb (decide (A<F)) (idx E A fun G=>chk ((XI (XK 35 G))=35∧0+35≤35) (lt (xd (We 32 (Qa (0:Int))++[(Qc (0:Int)),(Qc (0:Int)),(V.gs 1 ([]:Ls))]) 0 (XK 35 G)) fun H=>cLd 1 H 34 fun M=>lt (QG .u64 ((XI M:Nat):Int)) fun N=>zp β L ([]:Ls) N (fun C=>chk ((XI D+XI C)*1≤zg∧XI D+XI C≤zg) (lt (D++C) fun O=>cLd 1 H 34 fun I=>z O E F A I ((XI I:Nat):Int) (0:Int))))) (J D)
def zsP(L:Nat)(A:Ls)(z:Ls→Ob β):Ob β:=z A
def zno(L:Nat)(D E:Ls)(F G:Int)(H:Ls)(I A:Int)(z:zgf β)(J:Ls→Ls→Int→Int→Ob β):Ob β:=ifb (decide (A<I)) (idx H A fun M=>cL 1 M 0 fun N=>yH β L ([]:Ls) N (fun C=>chk ((XI D+XI C)*1≤zg∧XI D+XI C≤zg) (lt (D++C) fun O=>lt (QG .i64 ((A:Int)+(1:Int))) fun P=>z O E F G H I P))) (J D E F G)
def zlZ(L:Nat)(F A:Ls)(C D:Int)(z:Ls→Ls→Int→Int→Ob β):Ob β:=lt (QG .i64 ((D:Int)+(1:Int))) fun E=>z F A C E
def zrL(L:Nat)(z:Bool→Ls→List V→Ob β):Nat→Bool→Ls→Ls→Int→Int→List V→Ob β
 | 0,_,_,_,_,_,_=>none
 | n+1,E,F,A,C,D,G=>zCI zn zeF L E F A C D G (fun E F A C D G=>zrL L z n E F A C D G) z
def zoU(L:Nat)(z:Bool→Ls→List V→Ob β):Nat→Bool→Ls→Ls→Int→Int→List V→Ob β
 | 0,_,_,_,_,_,_=>none
 | n+1,E,F,A,C,D,G=>zzq zP yH L E F A C D G (fun E F A C D G=>zoU L z n E F A C D G) z
def zgC(L:Nat)(z:Ls→Ls→Int→Int→Ob β):Nat→Ls→Ls→Int→Int→Ls→Int→Int→Ob β
 | 0,_,_,_,_,_,_,_=>none
 | n+1,H,A,C,D,E,F,G=>zno yH L H A C D E F G (fun H A C D E F G=>zgC L z n H A C D E F G) z
def ztZ(L:Nat)(E A:Ls)(C D:Int)(F:Ls→Ob β)(z:Ls→Ls→Int→Int→Ob β):Ob β:=zvW zp L E A C D (fun E A C D G H I=>zgC yH L (fun E A C D=>zlZ L E A C D z) L E A C D G H I) F
def zl6(L:Nat)(z:Ls→Ob β):Nat→Ls→Ls→Int→Int→Ob β
 | 0,_,_,_,_=>none
 | n+1,E,A,C,D=>ztZ zp yH L E A C D z (fun E A C D=>zl6 L z n E A C D)
def zvf(L:Nat)(F:Bool)(A:Ls)(G:List V)(z:Ls→Ob β):Ob β:=zwn zn L F A G z (fun A C D E=>zl6 zp yH L (fun A=>zsP L A z) L A C D E)
def zxZ(L:Nat)(z:Bool)(A:Ls)(C:List V)(D:Ls→Ob β):Ob β:=zy8 zp L z A C (fun z A E F G C=>zoU zP yH L (fun z A C=>zvf zn zp yH L z A C D) L z A E F G C)
end
def zMC{β:Type}(zn:zaq)(zp:zaE)(zeF:zow)(zP:zcw)(yH:zd4)(L:Nat)(H:List V)(z:Bool)(A:Ls→Ob β):Ob β:=zML zn zp L H z (fun z C E F G D=>zrL zn zeF L (fun z C D=>zxZ zn zp zP yH L z C D A) L z C E F G D)
abbrev zhn:=∀ (β:Type),Nat→List V→Bool→(Ls→Ob β)→Ob β
def za3:zhn:=fun β=>@zMC β zn zp zeF zP yH
def zDh(za3:zhn)(L:Nat):Dk:=dA AG fun z=>dA AB fun A=>d0 fun β k=>za3 β L z A (fun z=>k (V.gs 1 z) [])
def zBz:Hint:=⟨[(0,0),(5,2),(11,2)],[],[none,none,none,some ((bl 7340034 63),(bl 9223372032559808427 63)),none,some ((bl 2 63),(bl 9223372032559808427 63)),none,none,some ((bl 4 63),(bl 9223372032559808429 63)),none,some ((bl 962072674306 63),(bl 9186745105510301355 63)),none,some ((bl 2 63),(bl 9186745105510301355 63)),none,none,some ((bl 4 63),(bl 9186745105510301357 63)),none,some ((bl 1971286909648898 63),(bl 9187343239835811499 63)),none,some ((bl 962072674306 63),(bl 9187343239835811499 63)),none,none,some ((bl 4 63),(bl 9186745105510301357 63)),none],[],[],false,false,[]⟩
def cf_tx_fits:CF:=cfD zBz 77
def zKc:CC:=yw [1,1,1,0,1,0,0,1,1,0,0,1,1,1,0,0] cf_tx_fits.body
def zO8:CC:=yw [1,1,1,0,1,0,0,1,1,1] cf_tx_fits.body
def zSR:CC:=yw [1,1,1,0,1,0,0] cf_tx_fits.body
def zTx:CC:=yw [1,1,0,1,0,0] cf_tx_fits.body
def zUT:CC:=yw [1,1,1,1] cf_tx_fits.body
def zVq:CC:=yw [1,1,1] cf_tx_fits.body
def zXc:Nat→Sh:=yD [(10,(.sl 35)),(15,(.sl 2)),(20,(.sl 2)),(27,(.int .i64)),(31,(.sl 1)),(37,(.sl 35)),(44,(.sl 1)),(48,(.sl 1)),(53,(.sl 1))]
def zWP(za3:zhn)(L:Nat):CBC:=(zq 147 (zDh za3 L) noC)
def zT9:St→St:=zN 0 (bl 7340034 63) (bl 9223372032559808427 63)
def zTc:St→St:=zN 0 (bl 962072674306 63) (bl 9186745105510301355 63)
def zL1:St→St:=zN 0 (bl 1971286909648898 63) (bl 9187343239835811499 63)
def zRw(z:Ls)(A C:Int)(D:List V):St:=⟨(jn 1 ((V.ptr 1 0)::(jn 18 ((V.sl 2 z)::((Qe A)::((Qe C)::(jn 40 []))))))),(gn 1 ((.live true D)::(gn 61 [])))⟩
def zUw(z:Bool):St:=⟨(jn 2 ((V.sc (.bool z))::(jn 60 []))),(gn 63 [])⟩
def zUP(z:List V):St:=⟨(jn 1 ((V.ptr 1 0)::(jn 61 []))),(gn 1 ((.live true z)::(gn 61 [])))⟩
def zPA(z:Ls)(A C:Int)(D:List V):St:=⟨(jn 1 ((V.ptr 1 0)::(jn 35 ((V.sl 35 z)::((Qe A)::((Qe C)::(jn 23 []))))))),(gn 1 ((.live true D)::(gn 61 [])))⟩
def zJs(z:Ls)(A C:Int)(D:Ls)(E F:Int)(G:List V):St:=⟨(jn 1 ((V.ptr 1 0)::(jn 35 ((V.sl 35 z)::((Qe A)::((Qe C)::(jn 8 ((V.sl 1 D)::((Qe E)::((Qe F)::(jn 12 []))))))))))),(gn 1 ((.live true G)::(gn 61 [])))⟩
def zUN(z:List V):St:=⟨(jn 1 ((V.ptr 1 0)::(jn 61 []))),(gn 1 ((.live true z)::(gn 61 [])))⟩
def zUO(z:Ls)(A C:Int)(D:List V):St:=⟨(jn 1 ((V.ptr 1 0)::(jn 35 ((V.sl 35 z)::((Qe A)::((Qe C)::(jn 23 []))))))),(gn 1 ((.live true D)::(gn 61 [])))⟩
abbrev zjM(β:Type):Type:=Ls→Int→Int→Ls→Int→Int→List V→Ob β
section
variable {β:Type} (za3:zhn)
def zQC(L:Nat)(C:List V)(A:Bool→Ob β)(z:Ls→Int→Int→List V→Ob β):Ob β:=cLd 35 C 1 fun E=>ifb (decide (((XI E:Nat):Int)>(64:Int))) (A false) (cLd 2 C 2 fun F=>ifb (decide (((XI F:Nat):Int)>(64:Int))) (A false) (cLd 2 C 2 fun D=>z D ((XI D:Nat):Int) (0:Int) C))
def zIj(L:Nat)(D:Ls)(E C:Int)(G:List V)(A:Bool→Ob β)(z:Ls→Int→Int→List V→Ob β)(F:List V→Ob β):Ob β:=ifb (decide (C<E)) (idx D C fun H=>chk ((XI (XK 2 H))=2∧0+2≤2) (lt (xd [(Qe (0:Int)),(V.gs 1 ([]:Ls))] 0 (XK 2 H)) fun I=>cI .i64 I 0 fun J=>ifb (decide (J<(0:Int))) (A false) (cLd 1 I 1 fun M=>ifb (decide (((XI M:Nat):Int)>(520:Int))) (A false) (lt (QG .i64 ((C:Int)+(1:Int))) fun N=>z D E N G)))) (F G)
def zDa(L:Nat)(A:Bool)(z:Bool→Ob β):Ob β:=z A
def zEW(L:Nat)(A:List V)(z:Ls→Int→Int→List V→Ob β):Ob β:=cLd 35 A 1 fun C=>z C ((XI C:Nat):Int) (0:Int) A
def zGX(L:Nat)(D:Ls)(E A:Int)(I:List V)(C:Bool→Ob β)(z:zjM β)(H:List V→Ob β):Ob β:=ifb (decide (A<E)) (idx D A fun J=>chk ((XI (XK 35 J))=35∧0+35≤35) (lt (xd (We 32 (Qa (0:Int))++[(Qc (0:Int)),(Qc (0:Int)),(V.gs 1 ([]:Ls))]) 0 (XK 35 J)) fun F=>cLd 1 F 34 fun M=>ifb (decide (((XI M:Nat):Int)>(32:Int))) (C false) (cLd 1 F 34 fun G=>z D E A G ((XI G:Nat):Int) (0:Int) I))) (H I)
def zBs(L:Nat)(A:Bool)(z:Bool→Ob β):Ob β:=z A
def zCG(L:Nat)(A:List V)(z:Bool→Ob β):Ob β:=chk (0+4≤(XI A)) (za3 β L (Xv V.dem (XK 4 A)) true (fun C=>z (decide (((XI C:Nat):Int)≤(20000:Int)))))
def ztJ(L:Nat)(D:Ls)(E F:Int)(G:Ls)(H A:Int)(J:List V)(C:Bool→Ob β)(z:zjM β)(I:Ls→Int→Int→List V→Ob β):Ob β:=ifb (decide (A<H)) (idx G A fun M=>cL 1 M 0 fun N=>ifb (decide (((XI N:Nat):Int)>(520:Int))) (C false) (lt (QG .i64 ((A:Int)+(1:Int))) fun O=>z D E F G H O J)) (I D E F J)
def zqt(L:Nat)(A:Bool)(z:Bool→Ob β):Ob β:=z A
def zqZ(L:Nat)(A:Ls)(C D:Int)(F:List V)(z:Ls→Int→Int→List V→Ob β):Ob β:=lt (QG .i64 ((D:Int)+(1:Int))) fun E=>z A C E F
def zw7(L:Nat)(z:Bool→Ob β)(A:List V→Ob β):Nat→Ls→Int→Int→List V→Ob β
 | 0,_,_,_,_=>none
 | n+1,C,D,E,F=>zIj L C D E F z (fun C D E F=>zw7 L z A n C D E F) A
def zkl(L:Nat)(z:Bool→Ob β)(A:Ls→Int→Int→List V→Ob β):Nat→Ls→Int→Int→Ls→Int→Int→List V→Ob β
 | 0,_,_,_,_,_,_,_=>none
 | n+1,C,D,E,F,G,H,I=>ztJ L C D E F G H I z (fun C D E F G H I=>zkl L z A n C D E F G H I) A
def zEZ(L:Nat)(z:Ls)(A C:Int)(F:List V)(E:Bool→Ob β)(G:List V→Ob β)(D:Ls→Int→Int→List V→Ob β):Ob β:=zGX L z A C F E (fun z A C H I J F=>zkl L (fun M=>zqt L M E) (fun z A C F=>zqZ L z A C F D) L z A C H I J F) G
def zuO(L:Nat)(z:Bool→Ob β)(A:List V→Ob β):Nat→Ls→Int→Int→List V→Ob β
 | 0,_,_,_,_=>none
 | n+1,C,D,E,F=>zEZ L C D E F z A (fun C D E F=>zuO L z A n C D E F)
def zB7(L:Nat)(A:List V)(z:Bool→Ob β):Ob β:=zEW L A (fun C D E A=>zuO L (fun F=>zBs L F z) (fun A=>zCG za3 L A z) L C D E A)
end
def zQu{β:Type}(za3:zhn)(L:Nat)(F:List V)(z:Bool→Ob β):Ob β:=zQC L F z (fun C D E A=>zw7 L (fun G=>zDa L G z) (fun A=>zB7 za3 L A z) L C D E A)
abbrev zup:=∀ (β:Type),Nat→List V→(Bool→Ob β)→Ob β
def zkw:zup:=fun β=>@zQu β za3
def zPs(zkw:zup)(L:Nat):Dk:=dA AG fun z=>d0 fun β k=>zkw β L z (fun z=>k (V.sc (.bool z)) [])
def zwi:Hint:=⟨[(0,0),(0,1),(2,0),(3,3)],[],[none,none,none],[],[],false,false,[]⟩
def zWA:CF:=cfD zwi 37
def zWf:Nat→Sh:=yD []
def zWd(zkw:zup)(za3:zhn)(L:Nat):CBC:=(zq 147 (zDh za3 L) (zq 146 (zPs zkw L) noC))
def zMM{β:Type}(zkw:zup)(za3:zhn)(L:Nat)(A:List V)(C:Bool)(z:Ls→Int→Ob β):Ob β:=chk (0+4≤(XI A)) (zkw β L (Xv V.dem (XK 4 A)) (fun D=>ifb (!D) (z ([]:Ls) (4:Int)) (chk (0+4≤(XI A)) (za3 β L (Xv V.dem (XK 4 A)) C (fun E=>z E (0:Int))))))
abbrev zmn:=∀ (β:Type),Nat→List V→Bool→(Ls→Int→Ob β)→Ob β
def zdk:zmn:=fun β=>@zMM β zkw za3
def zMP(zdk:zmn)(L:Nat):Dk:=dA AG fun C=>dA AB fun D=>d0 fun β k=>zdk β L C D (fun z A=>k (V.tup [(V.gs 1 z),(Qe A)]) [])
def zrN:Hint:=⟨[(0,0),(0,1),(2,0),(3,8),(6,2),(7,2),(7,3),(9,0),(10,0),(10,3),(13,0),(14,0),(14,1)],[],[none,none,none,some ((bl 29360144 43),(bl 8651137875505 43)),none,some ((bl 16 43),(bl 8651137875505 43)),none,none,some ((bl 12 43),(bl 8651137875501 43)),none,none,none],[],[],false,false,[]⟩
def cf_block_Encode:CF:=cfD zrN 13
def zNs:CC:=yw [1,1,1,0,1,0,0] cf_block_Encode.body
def zQs:CC:=yw [1,1,1,1] cf_block_Encode.body
def zTb:Nat→Sh:=yD [(10,(.sl 4)),(17,(.sl 4)),(22,(.sl 4))]
def zTh(zat:zds)(zp:zaE)(zdk:zmn)(L:Nat):CBC:=(zq 128 (zMP zdk L) (zq 182 (zkc zp L) (zq 502 (zxK zat L) noC)))
def zO4:St→St:=zN 0 (bl 29360144 43) (bl 8651137875505 43)
def zMo(D z:Ls)(A C:Int):St:=⟨(jn 4 ((V.gs 1 D)::(jn 17 ((V.sl 4 z)::((Qe A)::((Qe C)::(jn 18 []))))))),(gn 43 [])⟩
def zPb(z:Ls)(A:Int):St:=⟨(jn 2 ((V.gs 1 z)::((Qe A)::(jn 39 [])))),(gn 43 [])⟩
def zRe(z:Ls):St:=⟨(jn 4 ((V.gs 1 z)::(jn 38 []))),(gn 43 [])⟩
section
variable {β:Type} (zat:zds) (zp:zaE) (zdk:zmn)
def zHD(L:Nat)(A:List V)(C:Ls→Int→Ob β)(z:Ls→Ls→Int→Int→Ob β):Ob β:=cLd 4 A 68 fun E=>ifb (decide (((XI E:Nat):Int)>(256:Int))) (C ([]:Ls) (4:Int)) (chk (0+68≤(XI A)) (zat β L (XK 68 A) (fun F=>cLd 4 A 68 fun G=>lt (QG .u64 ((XI G:Nat):Int)) fun H=>zp β L F H (fun I=>cLd 4 A 68 fun D=>z I D ((XI D:Nat):Int) (0:Int)))))
def zxv(L:Nat)(C E:Ls)(F A:Int)(D:Ls→Int→Ob β)(z:Ls→Ls→Int→Int→Ob β)(G:Ls→Ob β):Ob β:=ifb (decide (A<F)) (idx E A fun I=>chk ((XI (XK 4 I))=4∧0+4≤4) (lt (xd [(Qc (0:Int)),(V.gs 35 ([]:Ls)),(V.gs 2 ([]:Ls)),(Qc (0:Int))] 0 (XK 4 I)) fun J=>chk (0+4≤(XI J)) (zdk β L (Xv V.dem (XK 4 J)) true (fun H O=>ifb ((O:Int) != (0:Int)) (D ([]:Ls) (4:Int)) (chk ((XI C+XI H)*1≤zg∧XI C+XI H≤zg) (lt (C++H) fun M=>lt (QG .i64 ((A:Int)+(1:Int))) fun N=>z M E F N)))))) (G C)
def zt7(L:Nat)(A:Ls)(C:Int)(z:Ls→Int→Ob β):Ob β:=z A C
def zva(L:Nat)(A:Ls)(z:Ls→Int→Ob β):Ob β:=ifb (decide (((XI A:Nat):Int)>(100000:Int))) (z ([]:Ls) (4:Int)) (z A (0:Int))
def zod(L:Nat)(z:Ls→Int→Ob β)(A:Ls→Ob β):Nat→Ls→Ls→Int→Int→Ob β
 | 0,_,_,_,_=>none
 | n+1,F,C,D,E=>zxv zdk L F C D E z (fun F C D E=>zod L z A n F C D E) A
end
def zHV{β:Type}(zat:zds)(zp:zaE)(zdk:zmn)(L:Nat)(F:List V)(z:Ls→Int→Ob β):Ob β:=zHD zat zp L F z (fun A C D E=>zod zdk L (fun G H=>zt7 L G H z) (fun A=>zva L A z) L A C D E)
abbrev zkX:=∀ (β:Type),Nat→List V→(Ls→Int→Ob β)→Ob β
def zcs:zkX:=fun β=>@zHV β zat zp zdk
def zIH(zcs:zkX)(L:Nat):Dk:=dA AG fun C=>d0 fun β k=>zcs β L C (fun z A=>k (V.tup [(V.gs 1 z),(Qe A)]) [])
def zoW:Hint:=⟨[],[],[none],[],[],false,false,[]⟩
def zrD:CF:=cfD zoW 187
def zlB:Nat→Sh:=yD []
def zlD(L:Nat):CBC:=noC
def zs6{β:Type}(L:Nat)(C:Int)(z:List V→Ob β):Ob β:=lt [(Qd C),(Qd (0:Int)),(Qd (0:Int)),(Qd (0:Int))] fun A=>chk (0=0∧(XI A)=4∧4≠0) (z A)
theorem zzb{β:Type}(L:Nat)(z:Int)(k:KK β):zj zlB (zlD L) L zrD [(Qd z)] [] k=zs6 L z (fun z=>k (V.agg z) []):=by kernel_rfl
abbrev zgk:=∀ (β:Type),Nat→Int→(List V→Ob β)→Ob β
def zV:zgk:=fun β=>@zs6 β
def zmX(zV:zgk)(L:Nat):Dk:=dA (AI .u64) fun z=>d0 fun β k=>zV β L z (fun z=>k (V.agg z) [])
theorem zzr(L:Nat):DK (zmX zV L) (fun _=>zj zlB (zlD L) L zrD):=xp xY fun z=>xO fun _ k=>zzb L z k
def zwq:Hint:=⟨[],[],[none],[],[],false,false,[]⟩
def zAh:CF:=cfD zwq 174
def zs0:Nat→Sh:=yD [(8,(.int .u64))]
def zti(L:Nat):CBC:=noC
def zDy{β:Type}(L:Nat)(E:List V)(C:Int)(z:Bool→Ob β):Ob β:=lt (QG .i64 (Int.tdiv C (64:Int))) fun A=>chk (0≤A∧A<((4:Nat):Int)) (cI .u64 E (0+((XJ A)*1)) fun F=>lt (Int.tmod C (64:Int)) fun D=>chk (0≤D) (lt (zcS .u64 F D) fun G=>lt (zep .u64 G (1:Int)) fun H=>z ((H:Int)==(1:Int))))
theorem zIk{β:Type}(L:Nat)(z:List V)(A:Int)(k:KK β):zj zs0 (zti L) L zAh [(V.agg z),(Qe A)] [] k=zDy L z A (fun z=>k (V.sc (.bool z)) []):=by kernel_rfl
abbrev zdj:=∀ (β:Type),Nat→List V→Int→(Bool→Ob β)→Ob β
def yo:zdj:=fun β=>@zDy β
def zpU(yo:zdj)(L:Nat):Dk:=dA AG fun z=>dA (AI .i64) fun A=>d0 fun β k=>yo β L z A (fun z=>k (V.sc (.bool z)) [])
theorem zIw(L:Nat):DK (zpU yo L) (fun _=>zj zs0 (zti L) L zAh):=xp zfP fun z=>xp xY fun A=>xO fun _ k=>zIk L z A k
def zwe:Hint:=⟨[],[],[none,none,none,none,none,some ((bl 118 34),(bl 17171480575 34)),none,some ((bl 48 34),(bl 17171480507 34)),none,none,none],[],[],false,false,[]⟩
def cf_ref02_Shr:CF:=cfD zwe 147
def zjt:CC:=yw [1,1,1,1,0,1,0,0] cf_ref02_Shr.body
def zsI:CC:=yw [1,1,1,1,1] cf_ref02_Shr.body
def zdJ:Nat→Sh:=yD [(27,(.int .u64))]
def zdp(yo:zdj)(L:Nat):CBC:=(zq 552 (zpU yo L) noC)
def zkg:St→St:=zN 0 (bl 118 34) (bl 17171480575 34)
def zeY(E F:Int)(G:List V)(z A C D:Int)(H:List V):St:=⟨(jn 1 ((Qe E)::((V.ptr 2 0)::(jn 1 ((V.ptr 4 0)::((V.ptr 5 0)::((Qe F)::(jn 27 [])))))))),(gn 2 ((.live true G)::(gn 1 ((.live true [(Qd z),(Qd A),(Qd C),(Qd D)])::((.live true H)::(gn 28 []))))))⟩
def zof(z A C D:Int)(E:List V):St:=⟨(jn 4 ((V.ptr 4 0)::((V.ptr 5 0)::(jn 28 [])))),(gn 4 ((.live true [(Qd z),(Qd A),(Qd C),(Qd D)])::((.live true E)::(gn 28 []))))⟩
abbrev zoQ(β:Type):Type:=Int→Int→List V→Int→Int→Int→Int→List V→Ob β
section
variable {β:Type} (yo:zdj)
def zDi(L:Nat)(C:List V)(D:Int)(A:List V→Ob β)(z:zoQ β):Ob β:=ifb (decide (D≤(0:Int))) (chk (0+4≤(XI C)) (chk ((XI (XK 4 C))=4∧0+4≤4) (lt (xd [(Qd (0:Int)),(Qd (0:Int)),(Qd (0:Int)),(Qd (0:Int))] 0 (XK 4 C)) fun E=>chk (0=0∧(XI E)=4∧4≠0) (A E)))) (ifb (decide (D≥(256:Int))) (lt [(Qd (0:Int)),(Qd (0:Int)),(Qd (0:Int)),(Qd (0:Int))] fun F=>chk (0=0∧(XI F)=4∧4≠0) (A F)) (z D (0:Int) C (0:Int) (0:Int) (0:Int) (0:Int) [(Qd (0:Int)),(Qd (0:Int)),(Qd (0:Int)),(Qd (0:Int))]))
theorem zHR(L:Nat)(z:List V)(A:Int)(k:KK β):zj zdJ (zdp yo L) L cf_ref02_Shr [(V.agg z),(Qe A)] [] k=zDi L z A (fun z=>k (V.agg z) []) (fun A G H C D E F I=>yx (xf zdJ (zdp yo L) 0 L zjt) zkg L (zeY A G H C D E F I) (zl 0 (zy (xf zdJ (zdp yo L) 0 L zsI) (zG 0 (CF.res cf_ref02_Shr) k)))):=by kernel_rfl
def zqz(L:Nat)(I G:Int)(J:List V)(A C D E:Int)(H:List V)(z:zoQ β)(M:Int→Int→Int→Int→List V→Ob β):Ob β:=lt (QG .i64 ((G:Int)+I)) fun R=>ifb (decide (R<(256:Int))) (chk (0+4≤(XI J)) (lt (QG .i64 ((G:Int)+I)) fun S=>yo β L (XK 4 J) S (fun T=>ifb T (lt (QG .i64 (Int.tdiv G (64:Int))) fun F=>chk (0≤F∧F<((4:Nat):Int)) (cI .u64 H (0+((XJ F)*1)) fun U=>lt (Int.tmod G (64:Int)) fun N=>chk (0≤N) (lt (zct .u64 (1:Int) N) fun W=>lt (ior .u64 U W) fun X=>chk (0≤F∧F<((4:Nat):Int)) (chk (1=1∧(0+((XJ F)*1))+1≤(XI H)) (lt (xd H (0+((XJ F)*1)) [(Qd X)]) fun O=>lt (QG .i64 ((G:Int)+(1:Int))) fun P=>z I P J A C D E O))))) (lt (QG .i64 ((G:Int)+(1:Int))) fun Q=>z I Q J A C D E H)))) (M A C D E H)
theorem zwh(L:Nat)(F G:Int)(H:List V)(z A C D:Int)(E:List V)(X:St→Ob β)(K:KT β):xf zdJ (zdp yo L) 0 L zjt (zeY F G H z A C D E) (xS zkg X K)=zqz yo L F G H z A C D E (fun F G H z A C D E=>X (zeY F G H z A C D E)) (fun z A C D E=>K (.exit 0) (zof z A C D E)):=by kernel_rfl
def znK(L:Nat)(C D E F:Int)(G:List V)(z:List V→Ob β):Ob β:=chk (0+4≤(XI G)) (chk ((XI (XK 4 G))=4∧0+4≤4) (lt (xd [(Qd C),(Qd D),(Qd E),(Qd F)] 0 (XK 4 G)) fun A=>chk (0=0∧(XI A)=4∧4≠0) (z A)))
theorem ztY(L:Nat)(z A C D:Int)(E:List V)(k:KK β):(zl 0 (zy (xf zdJ (zdp yo L) 0 L zsI) (zG 0 (CF.res cf_ref02_Shr) k))) (.exit 0) (zof z A C D E)=znK L z A C D E (fun F=>k (V.agg F) []):=by kernel_rfl
def zkd(L:Nat)(E:Int→Int→Int→Int→List V→Ob β):Nat→Int→Int→List V→Int→Int→Int→Int→List V→Ob β
 | 0,_,_,_,_,_,_,_,_=>none
 | n+1,F,G,H,z,A,C,D,I=>zqz yo L F G H z A C D I (fun F G H z A C D I=>zkd L E n F G H z A C D I) E
theorem znl(L:Nat)(K:KT β):∀ (n:Nat) (F G:Int) (H:List V) (z A C D:Int) (E:List V),yx (xf zdJ (zdp yo L) 0 L zjt) zkg n (zeY F G H z A C D E) K=zkd yo L (fun z A C D E=>K (.exit 0) (zof z A C D E)) n F G H z A C D E:=by
 intro n; induction n <;> intros
 ·rfl
 ·exact (zwh ..).trans (by simp only [*]; rfl)
end
def zvv{β:Type}(yo:zdj)(L:Nat)(H:List V)(F:Int)(E:List V→Ob β):Ob β:=zDi L H F E (fun F I J z A C D G=>zkd yo L (fun z A C D G=>znK L z A C D G E) L F I J z A C D G)
theorem zHA{β:Type}(yo:zdj)(L:Nat)(z:List V)(A:Int)(k:KK β):zj zdJ (zdp yo L) L cf_ref02_Shr [(V.agg z),(Qe A)] [] k=zvv yo L z A (fun z=>k (V.agg z) []):=by
 refine (zHR yo L z A k).trans ?_
 unfold zvv
 first
  | (simp only [znl,ztY]; done)
  | (simp only [znl]; rfl)
abbrev zlY:=∀ (β:Type),Nat→List V→Int→(List V→Ob β)→Ob β
def za4:zlY:=fun β=>@zvv β yo
def zvX(za4:zlY)(L:Nat):Dk:=dA AG fun z=>dA (AI .i64) fun A=>d0 fun β k=>za4 β L z A (fun z=>k (V.agg z) [])
theorem zHr(L:Nat):DK (zvX za4 L) (fun _=>zj zdJ (zdp yo L) L cf_ref02_Shr):=xp zfP fun z=>xp xY fun A=>xO fun _ k=>zHA yo L z A k
def zum:Hint:=⟨[],[],[none],[],[],false,false,[]⟩
def zyY:CF:=cfD zum 175
def zri:Nat→Sh:=yD []
def zqV(L:Nat):CBC:=noC
def zBA{β:Type}(L:Nat)(A:List V)(z:Bool→Ob β):Ob β:=chk (0+4≤(XI A)) (eqC 4 (XK 4 A) [(Qd (0:Int)),(Qd (0:Int)),(Qd (0:Int)),(Qd (0:Int))] fun C=>z C)
theorem zGS{β:Type}(L:Nat)(z:List V)(k:KK β):zj zri (zqV L) L zyY [(V.agg z)] [] k=zBA L z (fun z=>k (V.sc (.bool z)) []):=by kernel_rfl
abbrev zkF:=∀ (β:Type),Nat→List V→(Bool→Ob β)→Ob β
def y8:zkF:=fun β=>@zBA β
def zs4(y8:zkF)(L:Nat):Dk:=dA AG fun z=>d0 fun β k=>y8 β L z (fun z=>k (V.sc (.bool z)) [])
theorem zE7(L:Nat):DK (zs4 y8 L) (fun _=>zj zri (zqV L) L zyY):=xp zfP fun z=>xO fun _ k=>zGS L z k
def zws:Hint:=⟨[],[],[none,some ((bl 10 13),(bl 7163 13)),none,some ((bl 0 13),(bl 7153 13)),none,none,some ((bl 4 13),(bl 7157 13)),none],[],[],false,false,[]⟩
def cf_ref02_Len:CF:=cfD zws 190
def zmT:CC:=yw [1,0,1,0,0] cf_ref02_Len.body
def zrv:CC:=yw [1,1] cf_ref02_Len.body
def zcP:Nat→Sh:=yD []
def zcT(yo:zdj)(L:Nat):CBC:=(zq 552 (zpU yo L) noC)
def zob:St→St:=zN 0 (bl 10 13) (bl 7163 13)
def zgQ(z:Int)(A:List V):St:=⟨(jn 1 ((V.ptr 1 0)::(jn 1 ((Qe z)::(jn 9 []))))),(gn 1 ((.live true A)::(gn 11 [])))⟩
def zmG(z:Int):St:=⟨(jn 2 ((Qe z)::(jn 10 []))),(gn 13 [])⟩
def zoe:St:=⟨(jn 13 []),(gn 13 [])⟩
section
variable {β:Type} (yo:zdj)
def zDg(L:Nat)(A:List V)(z:Int→List V→Ob β):Ob β:=z (255:Int) A
theorem zH8(L:Nat)(z:List V)(k:KK β):zj zcP (zcT yo L) L cf_ref02_Len [(V.agg z)] [] k=zDg L z (fun A C=>yx (xf zcP (zcT yo L) 0 L zmT) zob L (zgQ A C) (zl 0 (zy (xf zcP (zcT yo L) 0 L zrv) (zG 0 (CF.res cf_ref02_Len) k)))):=by kernel_rfl
def zur(L:Nat)(A:Int)(D:List V)(C:Int→Ob β)(z:Int→List V→Ob β)(E:Ob β):Ob β:=ifb (decide (A≥(0:Int))) (chk (0+4≤(XI D)) (yo β L (XK 4 D) A (fun F=>ifb F (lt (QG .i64 ((A:Int)+(1:Int))) fun G=>C G) (lt (QG .i64 ((A:Int)-(1:Int))) fun H=>z H D)))) (E)
theorem zBi(L:Nat)(z:Int)(A:List V)(X:St→Ob β)(K:KT β):xf zcP (zcT yo L) 0 L zmT (zgQ z A) (xS zob X K)=zur yo L z A (fun C=>K .ret (zmG C)) (fun z A=>X (zgQ z A)) (K (.exit 0) (zoe)):=by kernel_rfl
def zqs(L:Nat)(A:Int)(z:Int→Ob β):Ob β:=z A
theorem zv6(L:Nat)(z:Int)(k:KK β):(zl 0 (zy (xf zcP (zcT yo L) 0 L zrv) (zG 0 (CF.res cf_ref02_Len) k))) .ret (zmG z)=zqs L z (fun A=>k (Qe A) []):=by kernel_rfl
def zrx(L:Nat)(z:Int→Ob β):Ob β:=z (0:Int)
theorem zxF(L:Nat)(k:KK β):(zl 0 (zy (xf zcP (zcT yo L) 0 L zrv) (zG 0 (CF.res cf_ref02_Len) k))) (.exit 0) (zoe)=zrx L (fun z=>k (Qe z) []):=by kernel_rfl
def zoh(L:Nat)(z:Int→Ob β)(A:Ob β):Nat→Int→List V→Ob β
 | 0,_,_=>none
 | n+1,C,D=>zur yo L C D z (fun C D=>zoh L z A n C D) A
theorem zqb(L:Nat)(K:KT β):∀ (n:Nat) (z:Int) (A:List V),yx (xf zcP (zcT yo L) 0 L zmT) zob n (zgQ z A) K=zoh yo L (fun C=>K .ret (zmG C)) (K (.exit 0) (zoe)) n z A:=by
 intro n; induction n <;> intros
 ·rfl
 ·exact (zBi ..).trans (by simp only [*]; rfl)
end
def zvR{β:Type}(yo:zdj)(L:Nat)(A:List V)(z:Int→Ob β):Ob β:=zDg L A (fun C D=>zoh yo L (fun E=>zqs L E z) (zrx L z) L C D)
theorem zIl{β:Type}(yo:zdj)(L:Nat)(z:List V)(k:KK β):zj zcP (zcT yo L) L cf_ref02_Len [(V.agg z)] [] k=zvR yo L z (fun z=>k (Qe z) []):=by
 refine (zH8 yo L z k).trans ?_
 unfold zvR
 first
  | (simp only [zqb,zv6,zxF]; done)
  | (simp only [zqb]; rfl)
abbrev zmd:=∀ (β:Type),Nat→List V→(Int→Ob β)→Ob β
def za1:zmd:=fun β=>@zvR β yo
def zuY(za1:zmd)(L:Nat):Dk:=dA AG fun z=>d0 fun β k=>za1 β L z (fun z=>k (Qe z) [])
theorem zIn(L:Nat):DK (zuY za1 L) (fun _=>zj zcP (zcT yo L) L cf_ref02_Len):=xp zfP fun z=>xO fun _ k=>zIl yo L z k
def zw2:Hint:=⟨[(6,9)],[],[none,some ((bl 732 29),(bl 522190591 29)),none,some ((bl 208 29),(bl 522190579 29)),none,none],[],[],false,false,[]⟩
def cf_ref02_Add:CF:=cfD zw2 198
def zkb:CC:=yw [1,1,1,0,1,0,0] cf_ref02_Add.body
def zuw:CC:=yw [1,1,1,1] cf_ref02_Add.body
def zdw:Nat→Sh:=yD [(16,(.int .u64)),(19,(.int .u64))]
def zdD(L:Nat):CBC:=noC
def zlH:St→St:=zN 0 (bl 732 29) (bl 522190591 29)
def zfM(E F:Int)(G H:List V)(z A C D:Int)(I:List V):St:=⟨(jn 2 ((V.ptr 2 0)::((V.ptr 3 0)::((V.ptr 4 0)::(jn 1 ((V.ptr 6 0)::((Qd E)::(jn 1 ((Qe F)::(jn 19 [])))))))))),(gn 2 ((.live true G)::((.live true H)::((.live true [(Qd z),(Qd A),(Qd C),(Qd D)])::(gn 1 ((.live true I)::(gn 22 [])))))))⟩
def zoA(E z A C D:Int)(F:List V):St:=⟨(jn 4 ((V.ptr 4 0)::(jn 1 ((V.ptr 6 0)::((Qd E)::(jn 21 [])))))),(gn 4 ((.live true [(Qd z),(Qd A),(Qd C),(Qd D)])::(gn 1 ((.live true F)::(gn 22 [])))))⟩
abbrev zqq(β:Type):Type:=Int→Int→List V→List V→Int→Int→Int→Int→List V→Ob β
section
variable {β:Type}
def zDM(L:Nat)(A C:List V)(z:zqq β):Ob β:=z (0:Int) (0:Int) A C (0:Int) (0:Int) (0:Int) (0:Int) [(Qd (0:Int)),(Qd (0:Int)),(Qd (0:Int)),(Qd (0:Int))]
theorem zHq(L:Nat)(E F:List V)(k:KK β):zj zdw (zdD L) L cf_ref02_Add [(V.agg E),(V.agg F)] [] k=zDM L E F (fun G H I J z A C D M=>yx (xf zdw (zdD L) 0 L zkb) zlH L (zfM G H I J z A C D M) (zl 0 (zy (xf zdw (zdD L) 0 L zuw) (zG 0 (CF.res cf_ref02_Add) k)))):=by kernel_rfl
def zrC(L:Nat)(C z:Int)(J M:List V)(D E F G:Int)(H:List V)(A:zqq β)(I:Int→Int→Int→Int→Int→List V→Ob β):Ob β:=ifb (decide (z<(4:Int))) (chk (0≤z∧z<((4:Nat):Int)) (cI .u64 J (0+((XJ z)*1)) fun N=>chk (0≤z∧z<((4:Nat):Int)) (cI .u64 M (0+((XJ z)*1)) fun O=>chk (C=0∨C=1) (lt (zHP false N O C) fun P=>lt (zHK false N O C) fun Q=>chk (0≤z∧z<((4:Nat):Int)) (chk (1=1∧(0+((XJ z)*1))+1≤(XI H)) (lt (xd H (0+((XJ z)*1)) [(Qd P)]) fun R=>lt (QG .i64 ((z:Int)+(1:Int))) fun S=>A Q S J M D E F G R)))))) (I C D E F G H)
theorem zyv(L:Nat)(E G:Int)(H I:List V)(z A C D:Int)(F:List V)(X:St→Ob β)(K:KT β):xf zdw (zdD L) 0 L zkb (zfM E G H I z A C D F) (xS zlH X K)=zrC L E G H I z A C D F (fun E G H I z A C D F=>X (zfM E G H I z A C D F)) (fun E z A C D F=>K (.exit 0) (zoA E z A C D F)):=by kernel_rfl
def zoP(L:Nat)(H A C D E:Int)(F:List V)(z:List V→Bool→Ob β):Ob β:=chk (0+4≤(XI F)) (chk ((XI (XK 4 F))=4∧0+4≤4) (lt (xd [(Qd A),(Qd C),(Qd D),(Qd E)] 0 (XK 4 F)) fun G=>chk (0=0∧(XI G)=4∧4≠0) (z G ((H:Int)==(1:Int)))))
theorem zvU(L:Nat)(G z A C D:Int)(H:List V)(k:KK β):(zl 0 (zy (xf zdw (zdD L) 0 L zuw) (zG 0 (CF.res cf_ref02_Add) k))) (.exit 0) (zoA G z A C D H)=zoP L G z A C D H (fun E F=>k (V.tup [(V.agg E),(V.sc (.bool F))]) []):=by kernel_rfl
def zlF(L:Nat)(E:Int→Int→Int→Int→Int→List V→Ob β):Nat→Int→Int→List V→List V→Int→Int→Int→Int→List V→Ob β
 | 0,_,_,_,_,_,_,_,_,_=>none
 | n+1,F,G,H,I,z,A,C,D,J=>zrC L F G H I z A C D J (fun F G H I z A C D J=>zlF L E n F G H I z A C D J) E
theorem zn6(L:Nat)(K:KT β):∀ (n:Nat) (E G:Int) (H I:List V) (z A C D:Int) (F:List V),yx (xf zdw (zdD L) 0 L zkb) zlH n (zfM E G H I z A C D F) K=zlF L (fun E z A C D F=>K (.exit 0) (zoA E z A C D F)) n E G H I z A C D F:=by
 intro n; induction n <;> intros
 ·rfl
 ·exact (zyv ..).trans (by simp only [*]; rfl)
end
def zvd{β:Type}(L:Nat)(H I:List V)(E:List V→Bool→Ob β):Ob β:=zDM L H I (fun F J M N z A C D G=>zlF L (fun F z A C D G=>zoP L F z A C D G E) L F J M N z A C D G)
theorem zIz{β:Type}(L:Nat)(z A:List V)(k:KK β):zj zdw (zdD L) L cf_ref02_Add [(V.agg z),(V.agg A)] [] k=zvd L z A (fun C D=>k (V.tup [(V.agg C),(V.sc (.bool D))]) []):=by
 refine (zHq L z A k).trans ?_
 unfold zvd
 first
  | (simp only [zn6,zvU]; done)
  | (simp only [zn6]; rfl)
abbrev zjm:=∀ (β:Type),Nat→List V→List V→(List V→Bool→Ob β)→Ob β
def xL:zjm:=fun β=>@zvd β
def zvo(xL:zjm)(L:Nat):Dk:=dA AG fun C=>dA AG fun D=>d0 fun β k=>xL β L C D (fun z A=>k (V.tup [(V.agg z),(V.sc (.bool A))]) [])
theorem zH2(L:Nat):DK (zvo xL L) (fun _=>zj zdw (zdD L) L cf_ref02_Add):=xp zfP fun z=>xp zfP fun A=>xO fun _ k=>zIz L z A k
def zwb:Hint:=⟨[(5,3)],[],[none,none,none,some ((bl 22 19),(bl 294911 19)),none,some ((bl 20 19),(bl 294909 19)),none,none],[],[],false,false,[]⟩
def cf_ref02_Shl:CF:=cfD zwb 191
def zm1:CC:=yw [1,1,0,0,0] cf_ref02_Shl.body
def zwG:CC:=yw [1,1,1] cf_ref02_Shl.body
def zdB:Nat→Sh:=yD []
def zdA(xL:zjm)(L:Nat):CBC:=(zq 593 (zvo xL L) noC)
def zn5:St→St:=zN 0 (bl 22 19) (bl 294911 19)
def zgW(E:Int)(F:List V)(z A C D:Int):St:=⟨(jn 1 ((Qe E)::((V.ptr 2 0)::(jn 1 ((V.ptr 4 0)::(jn 14 [])))))),(gn 2 ((.live true F)::(gn 1 ((.live true [(Qd z),(Qd A),(Qd C),(Qd D)])::(gn 14 [])))))⟩
def znG(E:List V)(z A C D:Int):St:=⟨(jn 2 ((V.ptr 2 0)::(jn 1 ((V.ptr 4 0)::(jn 14 []))))),(gn 2 ((.live true E)::(gn 1 ((.live true [(Qd z),(Qd A),(Qd C),(Qd D)])::(gn 14 [])))))⟩
section
variable {β:Type} (xL:zjm)
def zDz(L:Nat)(E:List V)(C:Int)(A:List V→Ob β)(z:Int→List V→Int→Int→Int→Int→Ob β):Ob β:=ifb (decide (C≥(256:Int))) (lt [(Qd (0:Int)),(Qd (0:Int)),(Qd (0:Int)),(Qd (0:Int))] fun D=>chk (0=0∧(XI D)=4∧4≠0) (A D)) (z C E (0:Int) (0:Int) (0:Int) (0:Int))
theorem zID(L:Nat)(z:List V)(A:Int)(k:KK β):zj zdB (zdA xL L) L cf_ref02_Shl [(V.agg z),(Qe A)] [] k=zDz L z A (fun z=>k (V.agg z) []) (fun A G C D E F=>yx (xf zdB (zdA xL L) 0 L zm1) zn5 L (zgW A G C D E F) (zl 0 (zy (xf zdB (zdA xL L) 0 L zwG) (zG 0 (CF.res cf_ref02_Shl) k)))):=by kernel_rfl
def zuN(L:Nat)(H:Int)(z:List V)(C D E F:Int)(A:Int→List V→Int→Int→Int→Int→Ob β)(G:List V→Int→Int→Int→Int→Ob β):Ob β:=ifb (decide (H>(0:Int))) (chk (0+4≤(XI z)) (chk (0+4≤(XI z)) (xL β L (XK 4 z) (XK 4 z) (fun I N=>chk ((XI I)=4∧0+4≤(XI z)) (lt (xd z 0 I) fun J=>lt (QG .i64 ((H:Int)-(1:Int))) fun M=>A M J C D E F))))) (G z C D E F)
theorem zAj(L:Nat)(F:Int)(E:List V)(z A C D:Int)(X:St→Ob β)(K:KT β):xf zdB (zdA xL L) 0 L zm1 (zgW F E z A C D) (xS zn5 X K)=zuN xL L F E z A C D (fun F E z A C D=>X (zgW F E z A C D)) (fun E z A C D=>K (.exit 0) (znG E z A C D)):=by kernel_rfl
def zrH(L:Nat)(A:List V)(C D E F:Int)(z:List V→Ob β):Ob β:=chk (0+4≤(XI A)) (chk ((XI (XK 4 A))=4∧0+4≤4) (lt (xd [(Qd C),(Qd D),(Qd E),(Qd F)] 0 (XK 4 A)) fun G=>chk (0=0∧(XI G)=4∧4≠0) (z G)))
theorem zxz(L:Nat)(E:List V)(z A C D:Int)(k:KK β):(zl 0 (zy (xf zdB (zdA xL L) 0 L zwG) (zG 0 (CF.res cf_ref02_Shl) k))) (.exit 0) (znG E z A C D)=zrH L E z A C D (fun F=>k (V.agg F) []):=by kernel_rfl
def zon(L:Nat)(E:List V→Int→Int→Int→Int→Ob β):Nat→Int→List V→Int→Int→Int→Int→Ob β
 | 0,_,_,_,_,_,_=>none
 | n+1,F,G,z,A,C,D=>zuN xL L F G z A C D (fun F G z A C D=>zon L E n F G z A C D) E
theorem zqa(L:Nat)(K:KT β):∀ (n:Nat) (F:Int) (E:List V) (z A C D:Int),yx (xf zdB (zdA xL L) 0 L zm1) zn5 n (zgW F E z A C D) K=zon xL L (fun E z A C D=>K (.exit 0) (znG E z A C D)) n F E z A C D:=by
 intro n; induction n <;> intros
 ·rfl
 ·exact (zAj ..).trans (by simp only [*]; rfl)
end
def zvk{β:Type}(xL:zjm)(L:Nat)(H:List V)(F:Int)(E:List V→Ob β):Ob β:=zDz L H F E (fun F G z A C D=>zon xL L (fun G z A C D=>zrH L G z A C D E) L F G z A C D)
theorem zIv{β:Type}(xL:zjm)(L:Nat)(z:List V)(A:Int)(k:KK β):zj zdB (zdA xL L) L cf_ref02_Shl [(V.agg z),(Qe A)] [] k=zvk xL L z A (fun z=>k (V.agg z) []):=by
 refine (zID xL L z A k).trans ?_
 unfold zvk
 first
  | (simp only [zqa,zxz]; done)
  | (simp only [zqa]; rfl)
abbrev zl8:=∀ (β:Type),Nat→List V→Int→(List V→Ob β)→Ob β
def zaW:zl8:=fun β=>@zvk β xL
def zvK(zaW:zl8)(L:Nat):Dk:=dA AG fun z=>dA (AI .i64) fun A=>d0 fun β k=>zaW β L z A (fun z=>k (V.agg z) [])
theorem zHZ(L:Nat):DK (zvK zaW L) (fun _=>zj zdB (zdA xL L) L cf_ref02_Shl):=xp zfP fun z=>xp xY fun A=>xO fun _ k=>zIv xL L z A k
def zrw:Hint:=⟨[],[],[none,none,none,none,none,none,none,none],[],[],false,false,[]⟩
def zua:CF:=cfD zrw 171
def zos:Nat→Sh:=yD []
def znA(zV:zgk)(za4:zlY)(y8:zkF)(za1:zmd)(zaW:zl8)(L:Nat):CBC:=(zq 566 (zvK zaW L) (zq 565 (zuY za1 L) (zq 553 (zs4 y8 L) (zq 513 (zvX za4 L) (zq 562 (zmX zV L) noC)))))
def zwN{β:Type}(zV:zgk)(za4:zlY)(y8:zkF)(za1:zmd)(zaW:zl8)(L:Nat)(T:Int)(z:List V→Int→Ob β):Ob β:=lt (zcS .u32 T (24:Int)) fun x0=>lt (QG .i64 x0) fun G=>lt (zep .u32 T (16777215:Int)) fun x2=>lt (QG .u64 x2) fun x3=>zV β L x3 (fun U=>chk ((XI U)=4∧0+4≤4) (lt (xd [(Qd (0:Int)),(Qd (0:Int)),(Qd (0:Int)),(Qd (0:Int))] 0 U) fun A=>lt (zep .u32 T (8388608:Int)) fun x6=>ifb ((x6:Int) != (0:Int)) (lt [(Qd (0:Int)),(Qd (0:Int)),(Qd (0:Int)),(Qd (0:Int))] fun W=>chk (0=0∧(XI W)=4∧4≠0) (z W (120:Int))) (chk (0+4≤(XI A)) (chk ((XI (XK 4 A))=4∧0+4≤4) (lt (xd [(Qd (0:Int)),(Qd (0:Int)),(Qd (0:Int)),(Qd (0:Int))] 0 (XK 4 A)) fun F=>ifb (decide (G<(3:Int))) (chk (0+4≤(XI A)) (lt (QG .i64 (((3:Int):Int)-G)) fun x9=>lt (QG .i64 (((8:Int):Int)*x9)) fun X=>za4 β L (XK 4 A) X (fun H=>chk ((XI H)=4∧0+4≤(XI F)) (lt (xd F 0 H) fun C=>chk (0+4≤(XI C)) (y8 β L (XK 4 C) (fun Y=>ifb Y (lt [(Qd (0:Int)),(Qd (0:Int)),(Qd (0:Int)),(Qd (0:Int))] fun I=>chk (0=0∧(XI I)=4∧4≠0) (z I (120:Int))) (chk (0+4≤(XI C)) (chk ((XI (XK 4 C))=4∧0+4≤4) (lt (xd [(Qd (0:Int)),(Qd (0:Int)),(Qd (0:Int)),(Qd (0:Int))] 0 (XK 4 C)) fun J=>chk (0=0∧(XI J)=4∧4≠0) (z J (0:Int))))))))))) (chk (0+4≤(XI A)) (y8 β L (XK 4 A) (fun Z=>ifb (!Z) (chk (0+4≤(XI A)) (za1 β L (XK 4 A) (fun aa=>lt (QG .i64 ((G:Int)-(3:Int))) fun ab=>lt (QG .i64 (((8:Int):Int)*ab)) fun ac=>lt (QG .i64 ((aa:Int)+ac)) fun ad=>ifb (decide (ad>(256:Int))) (lt [(Qd (0:Int)),(Qd (0:Int)),(Qd (0:Int)),(Qd (0:Int))] fun M=>chk (0=0∧(XI M)=4∧4≠0) (z M (120:Int))) (chk (0+4≤(XI A)) (lt (QG .i64 ((G:Int)-(3:Int))) fun ae=>lt (QG .i64 (((8:Int):Int)*ae)) fun af=>zaW β L (XK 4 A) af (fun N=>chk ((XI N)=4∧0+4≤(XI F)) (lt (xd F 0 N) fun D=>chk (0+4≤(XI D)) (y8 β L (XK 4 D) (fun ag=>ifb ag (lt [(Qd (0:Int)),(Qd (0:Int)),(Qd (0:Int)),(Qd (0:Int))] fun O=>chk (0=0∧(XI O)=4∧4≠0) (z O (120:Int))) (chk (0+4≤(XI D)) (chk ((XI (XK 4 D))=4∧0+4≤4) (lt (xd [(Qd (0:Int)),(Qd (0:Int)),(Qd (0:Int)),(Qd (0:Int))] 0 (XK 4 D)) fun P=>chk (0=0∧(XI P)=4∧4≠0) (z P (0:Int)))))))))))))) (chk (0+4≤(XI A)) (lt (QG .i64 ((G:Int)-(3:Int))) fun ah=>lt (QG .i64 (((8:Int):Int)*ah)) fun ai=>zaW β L (XK 4 A) ai (fun Q=>chk ((XI Q)=4∧0+4≤(XI F)) (lt (xd F 0 Q) fun E=>chk (0+4≤(XI E)) (y8 β L (XK 4 E) (fun aj=>ifb aj (lt [(Qd (0:Int)),(Qd (0:Int)),(Qd (0:Int)),(Qd (0:Int))] fun R=>chk (0=0∧(XI R)=4∧4≠0) (z R (120:Int))) (chk (0+4≤(XI E)) (chk ((XI (XK 4 E))=4∧0+4≤4) (lt (xd [(Qd (0:Int)),(Qd (0:Int)),(Qd (0:Int)),(Qd (0:Int))] 0 (XK 4 E)) fun S=>chk (0=0∧(XI S)=4∧4≠0) (z S (0:Int)))))))))))))))))))
theorem zB5{β:Type}(zV:zgk)(za4:zlY)(y8:zkF)(za1:zmd)(zaW:zl8)(L:Nat)(C:Int)(k:KK β):zj zos (znA zV za4 y8 za1 zaW L) L zua [(Qc C)] [] k=zwN zV za4 y8 za1 zaW L C (fun z A=>k (V.tup [(V.agg z),(Qe A)]) []):=by kernel_rfl
abbrev zwU:=∀ (β:Type),Nat→Int→(List V→Int→Ob β)→Ob β
def zej:zwU:=fun β=>@zwN β zV za4 y8 za1 zaW
def zpb(zej:zwU)(L:Nat):Dk:=dA (AI .u32) fun C=>d0 fun β k=>zej β L C (fun z A=>k (V.tup [(V.agg z),(Qe A)]) [])
theorem zCV(L:Nat):DK (zpb zej L) (fun _=>zj zos (znA zV za4 y8 za1 zaW L) L zua):=xp xY fun z=>xO fun _ k=>zB5 zV za4 y8 za1 zaW L z k
def zHC:Hint:=⟨[],[],[none],[],[],false,false,[]⟩
def zEr:Hint:=⟨[(0,0)],[],[none],[],[],false,false,[]⟩
def zIc:Hint:=⟨[],[],[none,some ((bl 44 24),(bl 16777199 24)),none,some ((bl 0 24),(bl 16777155 24)),none,none,some ((bl 16 24),(bl 16777171 24)),none,some ((bl 16 24),(bl 16777171 24)),none],[],[],false,false,[]⟩
def zEs:Hint:=⟨[(0,0),(11,4)],[],[none,none,none,none,none,some ((bl 4035225266123964418 107),(bl 162259276829213363391578010288067 107)),none,some ((bl 2 107),(bl 162259276829213363391578010288067 107)),none,none,some ((bl 4 107),(bl 162259276829213363391578010288069 107)),none],[],[],false,false,[]⟩
def zCy:Hint:=⟨[(0,0),(1,2),(7,0),(7,1)],[(1,1)],[none,some ((bl 3105 24),(bl 16777151 24)),none,some ((bl 32 24),(bl 16777151 24)),none,none],[],[],false,false,[]⟩
def zxD:Hint:=⟨[(0,0),(1,5)],[],[none],[],[],false,false,[]⟩
def zxo:Hint:=⟨[(0,1),(1,3)],[],[none],[],[],false,false,[]⟩
def zt2:Hint:=⟨[(0,1),(1,3),(2,7),(6,3),(8,0),(8,1)],[],[none,some ((bl 29360136 33),(bl 7516192733 33)),none,some ((bl 8 33),(bl 7516192733 33)),none,none],[],[],false,false,[]⟩
def zGi:Hint:=⟨[],[],[none],[],[],false,false,[]⟩
def zEt:Hint:=⟨[(0,0),(0,1)],[],[none,none,none],[],[],false,false,[]⟩
def zDU:Hint:=⟨[(0,0),(0,1)],[],[none,none,none],[],[],false,false,[]⟩
def zF7:Hint:=⟨[(0,0),(1,2),(2,2),(2,5),(3,2),(3,5)],[],[none],[],[],false,false,[]⟩
def zJ1:Hint:=⟨[(0,0),(2,0),(3,5)],[],[none,none,none],[],[],false,false,[]⟩
def zEG:Hint:=⟨[(0,0),(1,4)],[],[none],[],[],false,false,[]⟩
def zFP:Hint:=⟨[(0,0),(0,1),(3,10),(7,1),(8,1)],[],[none,none],[],[],false,false,[]⟩
def zwa:Hint:=⟨[(0,0),(2,4),(4,6),(6,6),(7,6)],[],[none,none,none,none,none,none,none,none],[],[],false,false,[]⟩
def zDT:Hint:=⟨[(0,1),(1,6)],[],[none],[],[],false,false,[]⟩
def zxO:Hint:=⟨[(0,0),(1,4)],[],[none],[],[],false,false,[]⟩
def zvL:Hint:=⟨[(0,0),(1,7)],[],[none],[],[],false,false,[]⟩
def zHS:Hint:=⟨[(0,0),(0,1),(1,7)],[],[none],[],[],false,false,[]⟩
def zCc:Hint:=⟨[(0,0),(0,1),(1,3),(2,6),(5,2),(6,0),(6,8),(8,6),(11,2),(12,0),(12,4),(14,4),(17,2),(19,6),(23,3),(26,0),(26,1)],[],[none,some ((bl 117440550 89),(bl 618970019642689974240802175 89)),none,some ((bl 38 89),(bl 618970019642689974240802175 89)),none,none,some ((bl 492581209243686 89),(bl 618970019588646941921113471 89)),none,some ((bl 38 89),(bl 618970019588646941921113471 89)),none,none,some ((bl 32281802128991715362 89),(bl 579934938295289650113140091 89)),none,some ((bl 32 89),(bl 579934938295289650113140091 89)),none,none,some ((bl 32 89),(bl 579934938295289650113140091 89)),none,some ((bl 1057842373964929519583266 89),(bl 580284393415022003858953595 89)),none,some ((bl 32281802128991715362 89),(bl 580284393415022003858953595 89)),none,none],[],[],false,false,[]⟩
def zFW:Hint:=⟨[(0,0),(5,2),(11,2)],[],[none,none,none,some ((bl 7340034 63),(bl 9223372032559808427 63)),none,some ((bl 2 63),(bl 9223372032559808427 63)),none,none,some ((bl 4 63),(bl 9223372032559808429 63)),none,some ((bl 962072674306 63),(bl 9186745105510301355 63)),none,some ((bl 2 63),(bl 9186745105510301355 63)),none,none,some ((bl 4 63),(bl 9186745105510301357 63)),none,some ((bl 1971286909648898 63),(bl 9187343239835811499 63)),none,some ((bl 962072674306 63),(bl 9187343239835811499 63)),none,none,some ((bl 4 63),(bl 9186745105510301357 63)),none],[],[],false,false,[]⟩
def zJM:Hint:=⟨[(0,0)],[],[none,none,none],[],[],false,false,[]⟩
def zvb:Hint:=⟨[(0,0),(0,1),(0,2),(1,0),(3,3),(12,4),(14,5),(14,8),(15,0),(15,7),(16,4),(16,9),(20,3),(21,0),(21,12),(23,0),(23,2)],[],[none,some ((bl 3868 113),(bl 9411032330560892913360804356558847 113)),none,some ((bl 768 113),(bl 9411032330560892913360804356555751 113)),none,none,some ((bl 16156 113),(bl 9411032330560892913360806504054783 113)),none,some ((bl 3868 113),(bl 9411032330560892913360806504046591 113)),none,none,none,none,some ((bl 17331160549995323848588005148 113),(bl 9411038056094375076711524595040255 113)),none,some ((bl 3868 113),(bl 9411038056094375076711524594778111 113)),none,some ((bl 3868 113),(bl 9411032330560892913360806504046591 113)),none],[],[],false,false,[]⟩
def zz6:Hint:=⟨[(0,0)],[],[none,none,none,some ((bl 96 31),(bl 2147483643 31)),none,some ((bl 32 31),(bl 2147483579 31)),none,none],[],[],false,false,[]⟩
def zIh:Hint:=⟨[],[],[none],[],[],false,false,[]⟩
def zAG:Hint:=⟨[(0,0)],[],[none],[],[],false,false,[]⟩
def zFQ:Hint:=⟨[(0,0)],[],[none,none,none],[],[],false,false,[]⟩
def zGz:Hint:=⟨[(0,0),(1,0),(5,3),(7,0),(7,1)],[],[none,some ((bl 456 17),(bl 114655 17)),none,some ((bl 8 17),(bl 114655 17)),none,none],[],[],false,false,[]⟩
def zFz:Hint:=⟨[],[],[none],[(1,[2,3])],[],false,false,[]⟩
def zCK:Hint:=⟨[(0,0),(1,2),(3,0),(8,0),(8,13),(9,0),(9,7),(10,0),(10,5),(11,0),(11,1)],[],[none,some ((bl 9 48),(bl 225369817865679 48)),none,some ((bl 8 48),(bl 225369817865678 48)),none,none,some ((bl 57 48),(bl 278146375999487 48)),none,some ((bl 24 48),(bl 278146375999455 48)),none,none,none],[],[],false,false,[]⟩
def zGV:Hint:=⟨[],[],[none,none,none],[],[],false,false,[]⟩
def zGj:Hint:=⟨[(1,0),(4,2),(5,0),(5,5)],[],[none,some ((bl 460 20),(bl 933855 20)),none,some ((bl 12 20),(bl 933855 20)),none,none],[],[],false,false,[]⟩
def zC0:Hint:=⟨[],[],[none],[],[],false,false,[]⟩
def zxS:Hint:=⟨[],[],[none],[],[],false,false,[]⟩
def zHb:Hint:=⟨[(9,7),(10,7),(11,3)],[],[none,some ((bl 32892 71),(bl 2361183116363495866495 71)),none,some ((bl 112 71),(bl 2361183116363495866483 71)),none,none,some ((bl 295420 71),(bl 2361183116363495866879 71)),none,some ((bl 33276 71),(bl 2361183116363495866879 71)),none,none],[],[],false,false,[]⟩
def zHU:Hint:=⟨[(6,9)],[],[none,some ((bl 732 29),(bl 522190591 29)),none,some ((bl 208 29),(bl 522190579 29)),none,none],[],[],false,false,[]⟩
def zII:Hint:=⟨[(8,3),(12,3)],[],[none,none,none,some ((bl 752 61),(bl 2304855642529070071 61)),none,some ((bl 192 61),(bl 2304855642529069511 61)),none,none,none,none],[],[],false,false,[]⟩
def zAF:Hint:=⟨[],[],[none,none,none,some ((bl 10 40),(bl 1096816721899 40)),none,none,none,none,none,some ((bl 4 40),(bl 1096816721893 40))],[],[],false,false,[]⟩
def zCi:Hint:=⟨[(0,0),(3,2),(10,4),(11,5)],[],[none,none,none,none,none,none,none,none],[],[],false,false,[]⟩
def zGZ:Hint:=⟨[(0,0),(0,1)],[],[none,none,none,none,none],[],[],false,false,[]⟩
def zCx:Hint:=⟨[(1,0),(8,6),(8,11)],[],[none,some ((bl 904 48),(bl 281264523280287 48)),none,some ((bl 8 48),(bl 281264523280287 48)),none,none,some ((bl 1000 48),(bl 281474976677887 48)),none,some ((bl 1000 48),(bl 281474976677887 48)),none,none,none,none],[],[],false,false,[]⟩
def zxB:Hint:=⟨[],[],[none,some ((bl 78 27),(bl 134217679 27)),none,some ((bl 12 27),(bl 134217677 27)),none,none],[],[],false,false,[]⟩
def zEL:Hint:=⟨[(1,2)],[],[none],[],[],false,false,[]⟩
def zHj:Hint:=⟨[(0,0),(0,1),(1,3)],[],[none,some ((bl 2816 45),(bl 29686813949839 45)),none,some ((bl 2304 45),(bl 29686813949839 45)),none,none,some ((bl 256 45),(bl 29686813947791 45)),none],[],[],false,false,[]⟩
def zGm:Hint:=⟨[(0,0),(0,1),(0,2),(0,3),(1,4),(1,5),(2,18)],[],[none],[],[],false,false,[]⟩
def zzQ:Hint:=⟨[],[],[none,some ((bl 76 40),(bl 1099511627727 40)),none,some ((bl 12 40),(bl 1099511627727 40)),none,none,some ((bl 16 40),(bl 1099511627731 40)),none,some ((bl 16 40),(bl 1099511627731 40)),none,none,none,none,none,none],[],[],false,false,[]⟩
def zER:Hint:=⟨[(0,0),(6,3)],[],[none,none,none,some ((bl 14680074 80),(bl 1208335523803170957426635 80)),none,some ((bl 0 80),(bl 1208335523803170957426625 80)),none,none,some ((bl 4 80),(bl 1208335523803170957426629 80)),none,some ((bl 4 80),(bl 1208335523803170957426629 80)),none,some ((bl 4 80),(bl 1208335523803170957426629 80)),none],[],[],false,false,[]⟩
def zCt:Hint:=⟨[(0,0),(0,1),(2,0),(3,3)],[],[none,none,none],[],[],false,false,[]⟩
def zDe:Hint:=⟨[(0,0),(0,1),(1,8),(4,2),(5,2),(5,3),(6,0),(6,3),(8,0),(8,1)],[],[none,some ((bl 917512 33),(bl 7281311517 33)),none,some ((bl 8 33),(bl 7281311517 33)),none,none],[],[],false,false,[]⟩
def zGY:Hint:=⟨[(0,0),(5,2)],[],[none,none,none,some ((bl 7170 24),(bl 16646123 24)),none,some ((bl 2 24),(bl 16646123 24)),none,none,some ((bl 4 24),(bl 16646125 24)),none],[],[],false,false,[]⟩
def zFf:Hint:=⟨[],[],[none],[],[],false,false,[]⟩
def zzs:Hint:=⟨[(0,0)],[],[none],[],[],false,false,[]⟩
def zEv:Hint:=⟨[(0,0),(8,2),(26,2)],[],[none,none,none,none,none,some ((bl 117440522 81),(bl 2417851639229258349411803 81)),none,some ((bl 10 81),(bl 2417851639229258349411803 81)),none,none,some ((bl 4 81),(bl 2417851639229258349411797 81)),none,none,none,some ((bl 13194139533314 81),(bl 2417851639229258349411611 81)),none,some ((bl 2 81),(bl 2417851639229258349411611 81)),none,none,some ((bl 13194139533506 81),(bl 2417851639229258349411803 81)),none,some ((bl 13194139533314 81),(bl 2417851639229258349411675 81)),none,none,some ((bl 4 81),(bl 2417851639229258349411613 81)),none,some ((bl 516508834063867445250 81),(bl 2247846445845951121718747 81)),none,some ((bl 0 81),(bl 2247846445845951121718745 81)),none,none,some ((bl 4 81),(bl 2247846445845951121718749 81)),none],[],[],false,false,[]⟩
def zEC:Hint:=⟨[],[],[none,some ((bl 393 19),(bl 524239 19)),none,some ((bl 0 19),(bl 524231 19)),none,none,some ((bl 16 19),(bl 524247 19)),none],[],[],false,false,[]⟩
def zBv:Hint:=⟨[(0,0),(3,3),(6,2)],[],[none,some ((bl 7170 33),(bl 8320974475 33)),none,some ((bl 0 33),(bl 8320974475 33)),none,none,some ((bl 1842210 33),(bl 8321498795 33)),none,some ((bl 7170 33),(bl 8321498795 33)),none,none,some ((bl 16 33),(bl 8320974491 33)),none],[],[],false,false,[]⟩
def zEk:Hint:=⟨[(0,0),(1,0),(4,2),(7,2),(14,0),(14,5)],[],[none,some ((bl 14344 42),(bl 3573378710873 42)),none,some ((bl 0 42),(bl 3573378710865 42)),none,none,some ((bl 1849352 42),(bl 3573379235161 42)),none,some ((bl 14344 42),(bl 3573379235161 42)),none,none,some ((bl 119289992 42),(bl 4398046510553 42)),none,some ((bl 1849480 42),(bl 4398046510553 42)),none,none,some ((bl 4 42),(bl 3573378710869 42)),none],[],[],false,false,[]⟩
def zEM:Hint:=⟨[(0,0),(7,3),(11,0),(14,2),(21,2),(25,0),(25,4)],[],[none,none,none,none,none,some ((bl 7340034 79),(bl 604462909807314318914403 79)),none,some ((bl 2 79),(bl 604462909807314318914403 79)),none,none,some ((bl 4 79),(bl 604462909807314318914405 79)),none,some ((bl 120259084322 79),(bl 604462909805115564094059 79)),none,some ((bl 34 79),(bl 604462909805115564094059 79)),none,none,some ((bl 4 79),(bl 604462909805115564094061 79)),none,some ((bl 985162418487330 79),(bl 604455830148700360930155 79)),none,some ((bl 34 79),(bl 604455830148700360930155 79)),none,none,some ((bl 4 79),(bl 604455830148700360930125 79)),none,none,none,none,none,none,none,none],[],[],false,false,[]⟩
def zET:Hint:=⟨[(0,0),(5,2)],[],[none,none,none,some ((bl 57344 23),(bl 8388523 23)),none,some ((bl 0 23),(bl 8388523 23)),none,none,some ((bl 16 23),(bl 8388539 23)),none],[],[],false,false,[]⟩
def zDW:Hint:=⟨[(0,0),(0,1),(0,2)],[],[none,none,none,none,none,none,none,none,none,none,none,none,none,none],[],[],false,false,[]⟩
def zFq:Hint:=⟨[],[],[none,some ((bl 393 20),(bl 1048527 20)),none,some ((bl 0 20),(bl 1048519 20)),none,none,some ((bl 16 20),(bl 1048535 20)),none],[],[],false,false,[]⟩
def zzf:Hint:=⟨[(0,1)],[],[none],[],[],false,false,[]⟩
def zD9:Hint:=⟨[(0,0),(0,1),(0,2),(1,0),(4,2),(7,0),(8,0),(8,8),(12,2),(14,0),(16,0),(16,1)],[],[none,some ((bl 918554 57),(bl 144115067749616831 57)),none,some ((bl 1048 57),(bl 144115067749616831 57)),none,none,some ((bl 768 57),(bl 144115067749616559 57)),none,some ((bl 1924145349656 57),(bl 144115188075818175 57)),none,some ((bl 1024 57),(bl 144115188075818159 57)),none,none,some ((bl 768 57),(bl 144115188075818927 57)),none],[],[],false,false,[]⟩
end
end
section
noncomputable section
def zHt:Hint:=⟨[(0,0),(15,2),(24,2)],[],[none,none,none,none,none,some ((bl 100663302 81),(bl 2417851639229258349407055 81)),none,some ((bl 6 81),(bl 2417851639229258349407055 81)),none,none,some ((bl 48 81),(bl 2417851639229258349407099 81)),none,some ((bl 30786325577988 81),(bl 2417851639229258349407183 81)),none,some ((bl 260 81),(bl 2417851639229258349407183 81)),none,none,some ((bl 48 81),(bl 2417851639229258349406971 81)),none,none,none,some ((bl 1033017668127734890752 81),(bl 2417851639229258349407227 81)),none,some ((bl 256 81),(bl 2417851639229258349407227 81)),none,none,none,none],[],[],false,false,[]⟩
def zCp:Hint:=⟨[],[],[none],[],[],false,false,[]⟩
def zz9:Hint:=⟨[(0,0),(0,1),(5,0),(5,1),(5,2),(8,2),(9,0),(9,5),(14,2),(15,0),(15,4),(17,3),(18,4),(19,4),(20,4),(21,4),(22,4),(23,0)],[],[none,none,none,none,none,some ((bl 30786325579626 98),(bl 316912650056978537380696797183 98)),none,some ((bl 1898 98),(bl 316912650056978537380696797183 98)),none,none,some ((bl 4035225266123966314 98),(bl 316912649614335492605146542079 98)),none,some ((bl 1898 98),(bl 316912649614335492605146542079 98)),none,none],[],[],false,false,[]⟩
def zE3:Hint:=⟨[(0,0)],[],[none,none,none,none,none,none,none,none,none,none,none],[],[],false,false,[]⟩
def zIt:Hint:=⟨[(0,0),(0,1),(3,2),(4,0),(4,2),(8,2),(10,5),(10,10),(13,2),(14,8),(14,14),(15,1),(15,5)],[],[none,none,none,none,none,none,none,none,none,none],[],[],false,false,[]⟩
def zEJ:Hint:=⟨[(0,0),(2,0),(3,0),(5,2),(5,4),(5,6),(7,1),(8,0),(8,5),(9,0),(9,1)],[],[none,none,none,some ((bl 17 29),(bl 435220243 29)),none,some ((bl 16 29),(bl 435220242 29)),none,none,some ((bl 12 29),(bl 435220238 29)),none],[],[],false,false,[]⟩
def zDd:Hint:=⟨[(1,0),(4,2),(7,0),(7,3),(15,5)],[(7,2)],[none,some ((bl 456 51),(bl 2232953357844443 51)),none,some ((bl 8 51),(bl 2232953357844443 51)),none,none,none,none,none,some ((bl 4 51),(bl 2232953357844439 51)),none,none,some ((bl 4 51),(bl 2232953357844439 51)),none],[],[],false,false,[]⟩
def zGC:Hint:=⟨[],[],[none,none,none,some ((bl 1792 18),(bl 229355 18)),none,some ((bl 0 18),(bl 229355 18)),none,none,some ((bl 4 18),(bl 229359 18)),none],[],[],false,false,[]⟩
def zCf:Hint:=⟨[(0,0),(1,3),(5,0),(5,6),(7,0),(7,1)],[],[none,some ((bl 3592 23),(bl 6422495 23)),none,some ((bl 8 23),(bl 6422495 23)),none,none],[],[],false,false,[]⟩
def zB4:Hint:=⟨[],[],[none],[],[],false,false,[]⟩
def zEz:Hint:=⟨[(0,0)],[],[none,none,none,none,none,none,none,none],[],[],false,false,[]⟩
def zEH:Hint:=⟨[(0,0)],[],[none,none,none,none,none,none,none,none,none,none,none,none,none,none,none,none,none,none],[],[],false,false,[]⟩
def zFj:Hint:=⟨[],[],[none,some ((bl 224 14),(bl 16363 14)),none,some ((bl 0 14),(bl 16363 14)),none,none,some ((bl 4 14),(bl 16367 14)),none],[],[],false,false,[]⟩
def zCN:Hint:=⟨[(0,0),(2,0),(3,9)],[],[none,none,none],[],[],false,false,[]⟩
def zFO:Hint:=⟨[(0,0),(1,0),(4,0),(4,5),(5,0),(5,1)],[],[none,some ((bl 9 14),(bl 10239 14)),none,some ((bl 8 14),(bl 10238 14)),none,none],[],[],false,false,[]⟩
def zEP:Hint:=⟨[(0,0),(2,1),(3,1)],[],[none,none,none],[],[],false,false,[]⟩
def zA0:Hint:=⟨[(1,3)],[],[none],[],[],false,false,[]⟩
def zDS:Hint:=⟨[],[],[none],[],[],false,false,[]⟩
def zCv:Hint:=⟨[(1,4)],[],[none],[],[],false,false,[]⟩
def zCS:Hint:=⟨[(3,7),(4,4)],[],[none,none,none],[],[],false,false,[]⟩
def zCo:Hint:=⟨[],[],[none,none,none,some ((bl 504 34),(bl 12582911999 34)),none,some ((bl 192 34),(bl 12582911687 34)),none,none,none],[],[],false,false,[]⟩
def zH5:Hint:=⟨[],[],[none],[],[],false,false,[]⟩
def zIJ:Hint:=⟨[],[],[none],[],[],false,false,[]⟩
def zCb:Hint:=⟨[],[],[none],[],[],false,false,[]⟩
def zES:Hint:=⟨[],[],[none],[],[],false,false,[]⟩
def zEF:Hint:=⟨[],[],[none],[],[],false,false,[]⟩
def zCA:Hint:=⟨[(5,1)],[],[none,none,none,none,none],[],[],false,false,[]⟩
def zDO:Hint:=⟨[],[],[none],[],[],false,false,[]⟩
def zHQ:Hint:=⟨[],[],[none],[],[],false,false,[]⟩
def zEi:Hint:=⟨[],[],[none,some ((bl 78 24),(bl 16777167 24)),none,some ((bl 12 24),(bl 16777165 24)),none,none],[],[],false,false,[]⟩
def zDc:Hint:=⟨[(0,1),(2,1)],[],[none],[],[],false,false,[]⟩
def zB8:Hint:=⟨[(4,3),(6,3)],[],[none,none,none,none],[],[],false,false,[]⟩
def zxx:Hint:=⟨[],[],[none],[],[],false,false,[]⟩
def zC5:Hint:=⟨[],[],[none],[],[],false,false,[]⟩
def zxV:Hint:=⟨[],[],[none],[(1,[5])],[],false,false,[]⟩
def zDf:Hint:=⟨[(3,4)],[],[none,none,none],[],[],false,false,[]⟩
def zCB:Hint:=⟨[(10,2)],[],[none,none,none,none,none,none,none,none,none],[],[],false,false,[]⟩
def zEp:Hint:=⟨[(0,0),(5,13)],[],[none,some ((bl 810 44),(bl 17577153655615 44)),none,some ((bl 264 44),(bl 17577153655071 44)),none,none,some ((bl 192 44),(bl 17577153654999 44)),none,none],[],[],false,false,[]⟩
def zCH:Hint:=⟨[],[],[none,none,none,some ((bl 50331665 40),(bl 1099511627743 40)),none,some ((bl 16 40),(bl 1099511627743 40)),none,none],[],[],false,false,[]⟩
def zCh:Hint:=⟨[(1,2)],[],[none,none,none,none,none],[],[],false,false,[]⟩
def zFn:Hint:=⟨[(0,0),(0,2),(4,6),(4,8),(6,7),(6,9),(8,0),(8,4),(10,18),(12,20),(14,16),(17,0),(18,0),(18,4),(21,0),(21,9),(23,10),(23,12),(25,13),(26,0),(26,11),(29,7),(30,0),(30,9),(32,9),(34,9),(35,0)],[],[none,none,none,none,none,none,none,none,none,none,none,none,none,none,none,none,none,none,none,none,none,none,none,none,none,none,none,none,none,none],[(21,[9])],[],false,false,[]⟩
def zHp:Hint:=⟨[(0,1),(1,2),(1,3),(3,1),(5,0),(7,0),(8,2),(10,0),(13,2),(20,0),(22,0),(27,5),(28,0),(28,4),(32,5),(34,4),(34,5),(34,7),(36,1),(38,0),(38,2)],[(28,3)],[none,none,none,none,none,none,none,some ((bl 60129556512 134),(bl 21479575417666174971013579263329479457343 134)),none,some ((bl 6144 134),(bl 21479575417666174971013579263329479449119 134)),none,none,none,none,some ((bl 448 134),(bl 21479575417666174971013579263329479443423 134)),none,some ((bl 448 134),(bl 21479575417666174971013579263329479443423 134)),none,none,none,none,none,none,none,some ((bl 448 134),(bl 21479575417666174971013579263329479443423 134)),none],[],[],false,false,[]⟩
def zxR:Hint:=⟨[(1,4),(1,5)],[],[none,none,none,none,none,none,none,none],[],[],false,false,[]⟩
def zEj:Hint:=⟨[(0,0),(0,1),(1,5)],[],[none,none,none,none,none,none,none],[],[],false,false,[]⟩
def zD0:Hint:=⟨[(0,0),(3,3)],[],[none,none,none,none,none,none,none,some ((bl 805306638 45),(bl 34634616271679 45)),none,some ((bl 256 45),(bl 34634616271671 45)),none,none,some ((bl 192 45),(bl 34634616271863 45)),none],[],[],false,false,[]⟩
def zAN:Hint:=⟨[(0,0),(1,4),(1,9)],[],[none],[],[],false,false,[]⟩
def zAZ:Hint:=⟨[(0,0),(0,1),(1,0),(5,3),(6,0),(6,12),(8,0),(8,1)],[],[none,some ((bl 28774 33),(bl 6845103743 33)),none,some ((bl 32 33),(bl 6845103675 33)),none,none],[],[],false,false,[]⟩
def zGH:Hint:=⟨[(0,0),(0,1),(1,0),(6,0),(6,7),(8,0),(8,5),(8,10)],[],[none,some ((bl 809 39),(bl 549553962943 39)),none,some ((bl 41 39),(bl 549553962943 39)),none,none,none],[],[],false,false,[]⟩
def zHw:Hint:=⟨[(0,0),(0,1),(3,2),(5,0),(9,2),(10,3),(12,0),(12,1)],[],[none,some ((bl 114709 39),(bl 549747422527 39)),none,some ((bl 21 39),(bl 549747422527 39)),none,none,some ((bl 192 39),(bl 549747422703 39)),none,some ((bl 1879048193 39),(bl 481036334575 39)),none,some ((bl 1 39),(bl 481036334575 39)),none,none],[],[],false,false,[]⟩
def zD6:Hint:=⟨[(4,2)],[],[none,some ((bl 456 19),(bl 524255 19)),none,some ((bl 8 19),(bl 524255 19)),none,none],[],[],false,false,[]⟩
def zBC:Hint:=⟨[(0,0),(0,1),(0,2),(0,3),(0,4),(8,3),(10,7),(10,8),(13,5),(18,2),(21,4),(22,6),(22,7)],[],[none,none,none,some ((bl 492581209251048 153),(bl 11417981541574946208765741796140502961711488751 153)),none,some ((bl 7392 153),(bl 11417981541574946208765741796140502961711488743 153)),none,none,none,some ((bl 448 153),(bl 11417981541574946208765741796140502961711481799 153)),none,some ((bl 448 153),(bl 11417981541574946208765741796140502961711481799 153)),none,some ((bl 67699845898911814992977128 153),(bl 11417981541647678929624043984199454700745523183 153)),none,some ((bl 492581209431272 153),(bl 11417981541647678929624043984199454700745523183 153)),none,none,some ((bl 448 153),(bl 11417981541574946208765741796140502961711481799 153)),none,none,none,none,none,none,none,none],[],[],false,false,[]⟩
def zGQ:Hint:=⟨[(0,0),(0,1)],[],[none],[],[],false,false,[]⟩
def zAS:Hint:=⟨[(0,0),(0,1),(0,3)],[],[none,none,none,none,none,none,none],[],[],false,false,[]⟩
def zEw:Hint:=⟨[(0,0),(0,1),(1,4),(1,7),(8,3)],[],[none,none,none,none,none,none,none,none,none,none,none,none,none,none,none,none,none,none,some ((bl 132226261520350065984000 93),(bl 9903520314283042199192985231 93)),none,some ((bl 0 93),(bl 9903520314283042199192984719 93)),none,none,some ((bl 256 93),(bl 9903520314283042199192984975 93)),none],[],[],false,false,[]⟩
def zHm:Hint:=⟨[(0,1),(6,16),(6,17),(7,6),(8,5),(8,9),(8,10),(10,6),(11,1),(11,6),(12,1),(12,6)],[],[none,some ((bl 3758096404 112),(bl 4941240693938888968870671530582079 112)),none,some ((bl 20 112),(bl 4941240693938888968870671530582079 112)),none,none,none,none],[],[],false,false,[]⟩
def zGK:Hint:=⟨[(0,0)],[],[none],[],[],false,false,[]⟩
def zLd:Hint:=⟨[],[],[none],[],[],false,false,[]⟩
def zEu:Hint:=⟨[(0,0)],[],[none],[],[],false,false,[]⟩
def zJy:Hint:=⟨[(4,2)],[],[none,some ((bl 456 22),(bl 4194267 22)),none,some ((bl 0 22),(bl 4194259 22)),none,none,some ((bl 4 22),(bl 4194263 22)),none],[],[],false,false,[]⟩
def zJY:Hint:=⟨[(0,0),(10,2)],[],[none,none,none,none,none,none,none,some ((bl 234881034 47),(bl 140737488355291 47)),none,some ((bl 10 47),(bl 140737488355291 47)),none,none,some ((bl 4 47),(bl 140737488355293 47)),none,none,none],[],[],false,false,[]⟩
def zIG:Hint:=⟨[(0,0),(1,3),(1,4)],[],[none,none,none],[],[],false,false,[]⟩
def zOU:Hint:=⟨[(0,0)],[],[none],[],[],false,false,[]⟩
def zEf:Hint:=⟨[(4,3),(6,3),(13,3),(16,2),(17,5),(25,2),(28,2)],[],[none,some ((bl 14680073 94),(bl 19807040628566084346308848139 94)),none,some ((bl 9 94),(bl 19807040628566084346308848139 94)),none,none,some ((bl 4 94),(bl 19807040628566084346308848143 94)),none,some ((bl 15393162788873 94),(bl 19807040621647429470837377435 94)),none,some ((bl 1 94),(bl 19807040621647429470837377435 94)),none,none,some ((bl 3956042836738569 94),(bl 19807040621648555370744220571 94)),none,some ((bl 15393162788873 94),(bl 19807040621648555370744220571 94)),none,none,some ((bl 4 94),(bl 19807040621647429470837377439 94)),none,some ((bl 33056565380087516528640 94),(bl 19805831702746469769210620827 94)),none,some ((bl 0 94),(bl 19805831702746469769210620827 94)),none,none,some ((bl 4264296934031289628000256 94),(bl 19807040628566084398385327003 94)),none,some ((bl 33056565380087516528640 94),(bl 19807040628566084398385327003 94)),none,none,some ((bl 4 94),(bl 19805831702746469769210620831 94)),none],[],[],false,false,[]⟩
def zKN:Hint:=⟨[(0,0)],[],[none],[],[],false,false,[]⟩
def zEQ:Hint:=⟨[(1,1),(2,0),(2,3),(3,0),(3,3)],[],[none],[],[],false,false,[]⟩
def zzU:Hint:=⟨[(0,0),(1,2),(3,0),(8,0),(8,13),(9,0),(9,7),(10,0),(10,4),(12,0),(12,1)],[],[none,some ((bl 9 48),(bl 225369817865679 48)),none,some ((bl 8 48),(bl 225369817865678 48)),none,none,some ((bl 57 48),(bl 278146375999487 48)),none,some ((bl 24 48),(bl 278146375999455 48)),none,none,none],[],[],false,false,[]⟩
def zE0:Hint:=⟨[],[],[none,none,none],[],[],false,false,[]⟩
def zFh:Hint:=⟨[(1,0),(4,2),(5,0),(5,5)],[],[none,some ((bl 460 20),(bl 933855 20)),none,some ((bl 12 20),(bl 933855 20)),none,none],[],[],false,false,[]⟩
def zDQ:Hint:=⟨[(0,0),(1,2),(1,3),(8,3),(14,2)],[],[none,none,none,none,none,some ((bl 117440514 63),(bl 9223372032559808155 63)),none,some ((bl 2 63),(bl 9223372032559808155 63)),none,none,some ((bl 4 63),(bl 9223372032559808157 63)),none,some ((bl 1924145348610 63),(bl 9223336852482686139 63)),none,some ((bl 2 63),(bl 9223336852482686139 63)),none,none,some ((bl 4 63),(bl 9223336852482686141 63)),none,none,none,none,none],[],[],false,false,[]⟩
def zFS:Hint:=⟨[(1,5),(2,1)],[],[none],[],[],false,false,[]⟩
abbrev zgb:=∀ (β:Type),Nat→Ob β→Ob β
def zX:zgb:=fun β L k=>chk (30000≤L) k
def zsO(zX:zgb)(L:Nat):Dk:=d0 fun β k=>zX β L (k (.sc (.bool true)) [])
def zlo:Hint:=⟨[(5,2),(5,5),(6,2),(6,5)],[],[none,none,none,none,none],[],[],false,false,[]⟩
def zna:CF:=cfD zlo 8
def zh4:Nat→Sh:=yD []
def zhV(zX:zgb)(zz:zem)(zO:zh6)(xw:zcv)(L:Nat):CBC:=(zq 431 (zhF xw L) (zq 675 (zo5 zO L) (zq 509 (zk6 zz L) (zq 669 (zsO zX L) noC))))
def ziK{β:Type}(zX:zgb)(zz:zem)(zO:zh6)(xw:zcv)(L:Nat)(A:Ls)(z:Bool→Ob β):Ob β:=zX β L  (ifb (decide (((XI A:Nat):Int)>(4000:Int))) (z true) (zz β L A (fun C G=>chk ((XI C)=69∧0+69≤69) (lt (xd ([(Qc (0:Int))]++We 64 (Qa (0:Int))++[(Qc (0:Int)),(Qc (0:Int)),(Qc (0:Int)),(V.gs 4 ([]:Ls))]) 0 C) fun D=>zO β L A (fun E H=>chk ((XI E)=69∧0+69≤69) (lt (xd ([(Qc (0:Int))]++We 64 (Qa (0:Int))++[(Qc (0:Int)),(Qc (0:Int)),(Qc (0:Int)),(V.gs 4 ([]:Ls))]) 0 E) fun F=>ifb ((G:Int)==H) (chk (0+69≤(XI D)) (chk (0+69≤(XI F)) (xw β L (Xv V.dem (XK 69 D)) (Xv V.dem (XK 69 F)) (fun I=>z I)))) (z false)))))))
theorem zt6{β:Type}(zX:zgb)(zz:zem)(zO:zh6)(xw:zcv)(L:Nat)(z:Ls)(k:KK β):zj zh4 (zhV zX zz zO xw L) L zna [(V.sl 1 z)] [] k=ziK zX zz zO xw L z (fun z=>k (V.sc (.bool z)) []):=by kernel_rfl
abbrev zoa:=∀ (β:Type),Nat→Ls→(Bool→Ob β)→Ob β
def zaY:zoa:=fun β=>@ziK β zX zz zO xw
def ziw(zaY:zoa)(L:Nat):Dk:=dA (AL 1) fun z=>d0 fun β k=>zaY β L z (fun z=>k (V.sc (.bool z)) [])
theorem zt3(L:Nat):DK (ziw zaY L) (fun _=>zj zh4 (zhV zX zz zO xw L) L zna):=xp zaL fun z=>xO fun _ k=>zt6 zX zz zO xw L z k
def zoK:Hint:=⟨[(0,0),(5,2),(5,3),(7,2),(7,5),(10,2),(10,5),(13,2),(13,3)],[],[none,none,none,none,none,none,none,none,none,none],[],[],false,false,[]⟩
def zQi:CF:=cfD zoK 10
def zQX:Nat→Sh:=yD [(51,(.sl 4))]
def zPE(zX:zgb)(zf9:znE)(zcs:zkX)(zz:zem)(xw:zcv)(yh:zcb)(L:Nat):CBC:=(zq 130 (zkC yh L) (zq 431 (zhF xw L) (zq 509 (zk6 zz L) (zq 577 (zIH zcs L) (zq 670 (zLj zf9 L) (zq 669 (zsO zX L) noC))))))
def zCl{β:Type}(zX:zgb)(zf9:znE)(zcs:zkX)(zz:zem)(xw:zcv)(yh:zcb)(L:Nat)(A:List V)(C:Ls)(z:Bool→Ob β):Ob β:=zX β L  (chk (0+69≤(XI A)) (zf9 β L (Xv V.dem (XK 69 A)) (fun U=>ifb (!U) (z true) (ifb (decide (((XI C:Nat):Int)>(4000:Int))) (z true) (chk (0+69≤(XI A)) (zcs β L (Xv V.dem (XK 69 A)) (fun W X=>ifb ((X:Int)==(0:Int)) (zz β L W (fun G Y=>chk ((XI G)=69∧0+69≤69) (lt (xd ([(Qc (0:Int))]++We 64 (Qa (0:Int))++[(Qc (0:Int)),(Qc (0:Int)),(Qc (0:Int)),(V.gs 4 ([]:Ls))]) 0 G) fun H=>ifb ((Y:Int) != (0:Int)) (z false) (chk (0+69≤(XI A)) (chk (0+69≤(XI H)) (xw β L (Xv V.dem (XK 69 A)) (Xv V.dem (XK 69 H)) (fun Z=>ifb (!Z) (z false) (zz β L C (fun I v8=>chk ((XI I)=69∧0+69≤69) (lt (xd ([(Qc (0:Int))]++We 64 (Qa (0:Int))++[(Qc (0:Int)),(Qc (0:Int)),(Qc (0:Int)),(V.gs 4 ([]:Ls))]) 0 I) fun F=>ifb ((v8:Int) != (0:Int)) (cLd 4 F 68 fun J=>z ((((XI J:Nat):Int):Int)==(0:Int))) (chk (0+69≤(XI F)) (zcs β L (Xv V.dem (XK 69 F)) (fun M N=>ifb ((N:Int)==(0:Int)) (yh β L M C (fun O=>z O)) (z false)))))))))))))) (zz β L C (fun E P=>chk ((XI E)=69∧0+69≤69) (lt (xd ([(Qc (0:Int))]++We 64 (Qa (0:Int))++[(Qc (0:Int)),(Qc (0:Int)),(Qc (0:Int)),(V.gs 4 ([]:Ls))]) 0 E) fun D=>ifb ((P:Int) != (0:Int)) (cLd 4 D 68 fun Q=>z ((((XI Q:Nat):Int):Int)==(0:Int))) (chk (0+69≤(XI D)) (zcs β L (Xv V.dem (XK 69 D)) (fun R S=>ifb ((S:Int)==(0:Int)) (yh β L R C (fun T=>z T)) (z false))))))))))))))
abbrev zrM:=∀ (β:Type),Nat→List V→Ls→(Bool→Ob β)→Ob β
def zrJ:zrM:=fun β=>@zCl β zX zf9 zcs zz xw yh
def zRv(zrJ:zrM)(L:Nat):Dk:=dA AG fun z=>dA (AL 1) fun A=>d0 fun β k=>zrJ β L z A (fun z=>k (V.sc (.bool z)) [])
end
end
section
variable {β:Type}
def Byt(l:List Int):Prop:=∀ x∈l,0≤x∧x≤255
theorem zWx{l:List Int}(h:∀ x∈l,(Lit.int .u8 x).wf=true):Byt l:=fun x hx=>zWT (h x hx)
def zmB(j:List Int)(i:Nat):Nat:=(j.getD i 0).toNat
theorem zpp{j:List Int}(hb:Byt j)(i:Nat):zmB j i≤255∧j.getD i 0=((zmB j i:Nat):Int):=by
 have:0≤j.getD i 0∧j.getD i 0≤255:=by
  rw [List.getD_eq_getElem?_getD]
  by_cases hi:i<j.length
  ·rw [List.getElem?_eq_getElem hi]; exact hb _ (List.getElem_mem hi)
  ·rw [List.getElem?_eq_none (by omega)]; simp
 unfold zmB
 omega
def le(j:List Int)(a:Nat):Nat→Nat
 | 0=>0
 | n+1=>le j a n+zmB j (a+n)*256 ^ n
theorem zuG{j:List Int}(hb:Byt j)(a:Nat):∀ n,le j a n<256 ^ n
 | 0=>by simp [le]
 | n+1=>by
  have h1:=zuG hb a n
  have h2:=WI (256 ^ n) (zpp hb (a+n)).1
  rw [le,Nat.pow_succ]
  omega
theorem zBS(j:List Int)(a:Nat):∀ n,le j a (n+1)=zmB j a+256*le j (a+1) n
 | 0=>by simp [le]
 | n+1=>by
  rw [le,zBS j a n,le,Nat.pow_succ,show a+1+n=a+(n+1) by omega,Nat.mul_add]
  have:zmB j (a+(n+1))*(256 ^ n*256)=256*(zmB j (a+(n+1))*256 ^ n):=by
   rw [Nat.mul_comm (256 ^ n) 256,← Nat.mul_assoc,← Nat.mul_assoc,Nat.mul_comm 256]
  omega
theorem zRd(i:Nat):256 ^ i=2 ^ (8*i):=by rw [Nat.pow_mul]
theorem zJv(n x:Nat)(h:x<2 ^ n):(BitVec.ofInt n (x:Int)).toNat=x:=by
 rw [BitVec.toNat_ofInt,← Int.natCast_emod,Int.toNat_natCast,Nat.mod_eq_of_lt h]
theorem zPF{x n:Nat}(h:x<2 ^ n):((x:Nat):Int)<2 ^ n:=by
 have:((x:Nat):Int)<((2 ^ n:Nat):Int):=by omega
 rwa [Int.natCast_pow] at this
theorem zND(kd:IntKind)(hk:kd.signed=false){a m y:Nat}(hy:y<2 ^ m)(hs:a*2 ^ m+y<2 ^ kd.bits):ior kd ((a*2 ^ m:Nat):Int) ((y:Nat):Int)=((a*2 ^ m+y:Nat):Int):=by
 unfold ior
 rw [BitVec.toNat_or,zJv _ _ (by omega),zJv _ _ (by omega),← Nat.shiftLeft_eq,← Nat.shiftLeft_add_eq_or_of_lt hy,Nat.shiftLeft_eq]
 exact zBg hk (by omega) (zPF hs)
theorem zRq(k:IntKind)(a b:Int):ior k a b=ior k b a:=by unfold ior; rw [BitVec.or_comm]
theorem zL2(kd:IntKind)(hk:kd.signed=false){a m:Nat}(hm:m≤kd.bits)(hs:a*2 ^ m<2 ^ kd.bits):zct kd ((a:Nat):Int) ((m:Nat):Int)=((a*2 ^ m:Nat):Int):=by
 unfold zct
 rw [Int.toNat_natCast,Nat.min_eq_left hm]
 have e:((a:Nat):Int)*2 ^ m=((a*2 ^ m:Nat):Int):=by rw [Int.natCast_mul,Int.natCast_pow]; rfl
 rw [e]
 exact zBg hk (by omega) (zPF hs)
theorem zuR(kd:IntKind)(hk:kd.signed=false){j:List Int}(hb:Byt j)(a i:Nat)(hi:8*i+8≤kd.bits):ior kd ((le j a i:Nat):Int) (zct kd (j.getD (a+i) 0) ((8*i:Nat):Int))=((le j a (i+1):Nat):Int):=by
 obtain ⟨b1,b2⟩:=zpp hb (a+i)
 have h1:=zuG hb a i
 have hp:2 ^ (8*i+8)≤2 ^ kd.bits:=XP (by decide) hi
 have hq:2 ^ (8*i+8)=2 ^ (8*i)*256:=by rw [Nat.pow_add]
 have h2:=WI (2 ^ (8*i)) b1
 have h3:0<2 ^ (8*i):=Nat.pow_pos (by decide)
 rw [zRd] at h1
 rw [b2,zL2 kd hk (by omega) (by omega),zRq,zND kd hk h1 (by omega),le,zRd,Nat.add_comm]
theorem zwt{l:List Int}{i:Nat}(h:i<l.length):(ze .u8 l)[i]?=some [.sc (.int .u8 (l.getD i 0))]:=by rw [zSY _ h]; simp [h]
theorem cI8(n:Int)(k:Int→Option β):cI .u8 [V.sc (.int .u8 n)] 0 k=k n:=zsp rfl k
theorem zxp(L:Nat)(j:List Int){a w:Nat}(ha:a≤j.length)(hj:j.length≤100000000)(hw:w≤100)(k:Int→Option β):yc β L (ze .u8 j) (a:Int) (w:Int) k=if a+w≤j.length then k 0 else k 1:=by
 unfold yc zs2
 rw [yq (by omega),xG,yq (by omega),xr (by omega) (by omega),zd,zba]
 by_cases h:a+w≤j.length
 ·rw [if_neg (by omega),if_pos h]
 ·rw [if_pos (by omega),if_neg h]
theorem zKU(L:Nat){j:List Int}(hb:Byt j)(hj:j.length≤100000000){a:Nat}(h:a+1≤j.length)(kx:Int→Int→Int→Option β):∀ (n i:Nat),i≤1→1-i<n →
  zcd L kx n (ze .u8 j) (a:Int) 1 ((le j a i:Nat):Int) 1 (i:Int)=kx a 1 ((le j a 1:Nat):Int)
 | 0,i,h1,h2=>by omega
 | n+1,i,h1,h2=>by
  rw [zcd]
  unfold zgd
  by_cases hi:i<1
  ·have w1:QG .i64 ((a:Int)+i)=((a+i:Nat):Int):=by rw [xr (by omega) (by omega)]; omega
   have w2:QG .i64 ((8:Int)*i)=((8*i:Nat):Int):=by rw [xr (by omega) (by omega)]; omega
   have hg:=zpp hb (a+i)
   rw [xz (by omega),w1,zd,zef (zwt (by omega)),cI8,w2,zd,ya (by omega),zd,zuR .u8 rfl hb a i (by show 8*i+8≤8; omega),zd,yI (by omega),zd]
   exact zKU L hb hj h kx n (i+1) (by omega) (by omega)
  ·have hi:i=1:=by omega
   subst hi
   rw [yq (by omega)]
theorem zWI{L:Nat}(hL:20≤L){j:List Int}(hb:Byt j)(hj:j.length≤100000000){a:Nat}(ha:a≤j.length)(k:Int→Int→Int→Option β):zaZ β L (ze .u8 j) (a:Int) k=if a+1≤j.length then k ((le j a 1:Nat):Int) ((a+1:Nat):Int) 0 else k 0 0 1:=by
 unfold zaZ zx7 yM zg3 zki
 rw [show (1:Int)=((1:Nat):Int) from rfl,zxp L j ha hj (by decide)]
 by_cases h:a+1≤j.length
 ·rw [if_pos h,if_pos h,xm,if_pos rfl]
  refine (zKU L hb hj h _ L 0 (by omega) (by omega)).trans ?_
  unfold zfh
  rw [xr (by omega) (by omega),zd]
  congr 1
 ·rw [if_neg h,if_neg h,xm,if_neg (by decide)]; rfl
theorem zIW(L:Nat){j:List Int}(hb:Byt j)(hj:j.length≤100000000){a:Nat}(h:a+2≤j.length)(kx:Int→Int→Int→Option β):∀ (n i:Nat),i≤2→2-i<n →
  zbX L kx n (ze .u8 j) (a:Int) 2 ((le j a i:Nat):Int) 2 (i:Int)=kx a 2 ((le j a 2:Nat):Int)
 | 0,i,h1,h2=>by omega
 | n+1,i,h1,h2=>by
  rw [zbX]
  unfold zfs
  by_cases hi:i<2
  ·have w1:QG .i64 ((a:Int)+i)=((a+i:Nat):Int):=by rw [xr (by omega) (by omega)]; omega
   have w2:QG .i64 ((8:Int)*i)=((8*i:Nat):Int):=by rw [xr (by omega) (by omega)]; omega
   have hg:=zpp hb (a+i)
   rw [xz (by omega),w1,zd,zef (zwt (by omega)),cI8,zSE (by omega) (by omega),zd,w2,zd,ya (by omega),zd,zuR .u16 rfl hb a i (by show 8*i+8≤16; omega),zd,yI (by omega),zd]
   exact zIW L hb hj h kx n (i+1) (by omega) (by omega)
  ·have hi:i=2:=by omega
   subst hi
   rw [yq (by omega)]
theorem zVy{L:Nat}(hL:20≤L){j:List Int}(hb:Byt j)(hj:j.length≤100000000){a:Nat}(ha:a≤j.length)(k:Int→Int→Int→Option β):zaG β L (ze .u8 j) (a:Int) k=if a+2≤j.length then k ((le j a 2:Nat):Int) ((a+2:Nat):Int) 0 else k 0 0 1:=by
 unfold zaG zv1 xK zgA zjz
 rw [show (2:Int)=((2:Nat):Int) from rfl,zxp L j ha hj (by decide)]
 by_cases h:a+2≤j.length
 ·rw [if_pos h,if_pos h,xm,if_pos rfl]
  refine (zIW L hb hj h _ L 0 (by omega) (by omega)).trans ?_
  unfold zeS
  rw [xr (by omega) (by omega),zd]
  congr 1
 ·rw [if_neg h,if_neg h,xm,if_neg (by decide)]
theorem zJm(L:Nat){j:List Int}(hb:Byt j)(hj:j.length≤100000000){a:Nat}(h:a+4≤j.length)(kx:Int→Int→Int→Option β):∀ (n i:Nat),i≤4→4-i<n →
  zbU L kx n (ze .u8 j) (a:Int) 4 ((le j a i:Nat):Int) 4 (i:Int)=kx a 4 ((le j a 4:Nat):Int)
 | 0,i,h1,h2=>by omega
 | n+1,i,h1,h2=>by
  rw [zbU]
  unfold zfG
  by_cases hi:i<4
  ·have w1:QG .i64 ((a:Int)+i)=((a+i:Nat):Int):=by rw [xr (by omega) (by omega)]; omega
   have w2:QG .i64 ((8:Int)*i)=((8*i:Nat):Int):=by rw [xr (by omega) (by omega)]; omega
   have hg:=zpp hb (a+i)
   rw [xz (by omega),w1,zd,zef (zwt (by omega)),cI8,ziL (by omega) (by omega),zd,w2,zd,ya (by omega),zd,zuR .u32 rfl hb a i (by show 8*i+8≤32; omega),zd,yI (by omega),zd]
   exact zJm L hb hj h kx n (i+1) (by omega) (by omega)
  ·have hi:i=4:=by omega
   subst hi
   rw [yq (by omega)]
theorem zwf{L:Nat}(hL:20≤L){j:List Int}(hb:Byt j)(hj:j.length≤100000000){a:Nat}(ha:a≤j.length)(k:Int→Int→Int→Option β):yt β L (ze .u8 j) (a:Int) k=if a+4≤j.length then k ((le j a 4:Nat):Int) ((a+4:Nat):Int) 0 else k 0 0 1:=by
 unfold yt zvH zK zgr zjH
 rw [show (4:Int)=((4:Nat):Int) from rfl,zxp L j ha hj (by decide)]
 by_cases h:a+4≤j.length
 ·rw [if_pos h,if_pos h,xm,if_pos rfl]
  refine (zJm L hb hj h _ L 0 (by omega) (by omega)).trans ?_
  unfold zeP
  rw [xr (by omega) (by omega),zd]
  congr 1
 ·rw [if_neg h,if_neg h,xm,if_neg (by decide)]
theorem zJd(L:Nat){j:List Int}(hb:Byt j)(hj:j.length≤100000000){a:Nat}(h:a+8≤j.length)(kx:Int→Int→Int→Option β):∀ (n i:Nat),i≤8→8-i<n →
  zbS L kx n (ze .u8 j) (a:Int) 8 ((le j a i:Nat):Int) 8 (i:Int)=kx a 8 ((le j a 8:Nat):Int)
 | 0,i,h1,h2=>by omega
 | n+1,i,h1,h2=>by
  rw [zbS]
  unfold zfp
  by_cases hi:i<8
  ·have w1:QG .i64 ((a:Int)+i)=((a+i:Nat):Int):=by rw [xr (by omega) (by omega)]; omega
   have w2:QG .i64 ((8:Int)*i)=((8*i:Nat):Int):=by rw [xr (by omega) (by omega)]; omega
   have hg:=zpp hb (a+i)
   rw [xz (by omega),w1,zd,zef (zwt (by omega)),cI8,zaQ (by omega) (by omega),zd,w2,zd,ya (by omega),zd,zuR .u64 rfl hb a i (by show 8*i+8≤64; omega),zd,yI (by omega),zd]
   exact zJd L hb hj h kx n (i+1) (by omega) (by omega)
  ·have hi:i=8:=by omega
   subst hi
   rw [yq (by omega)]
theorem zPI{L:Nat}(hL:20≤L){j:List Int}(hb:Byt j)(hj:j.length≤100000000){a:Nat}(ha:a≤j.length)(k:Int→Int→Int→Option β):zM β L (ze .u8 j) (a:Int) k=if a+8≤j.length then k ((le j a 8:Nat):Int) ((a+8:Nat):Int) 0 else k 0 0 1:=by
 unfold zM zu2 yK zgt zjw
 rw [show (8:Int)=((8:Nat):Int) from rfl,zxp L j ha hj (by decide)]
 by_cases h:a+8≤j.length
 ·rw [if_pos h,if_pos h,xm,if_pos rfl]
  refine (zJd L hb hj h _ L 0 (by omega) (by omega)).trans ?_
  unfold zeI
  rw [xr (by omega) (by omega),zd]
  congr 1
 ·rw [if_neg h,if_neg h,xm,if_neg (by decide)]
theorem zMa(L:Nat){j:List Int}(hb:Byt j)(hj:j.length≤100000000){a w:Nat}(hw:w≤8)(h:a+w≤j.length)(kx:Int→Int→Int→Option β):∀ (n i:Nat),i≤w→i<n →
  zb3 L kx n (ze .u8 j) (a:Int) (w:Int) ((le j (a+i) (w-i):Nat):Int) ((i:Int)-1)=kx a w ((le j a w:Nat):Int)
 | 0,i,h1,h2=>by omega
 | n+1,0,h1,h2=>by
  rw [zb3]
  unfold zeX
  rw [yq (by omega)]; rfl
 | n+1,i+1,h1,h2=>by
  have e0:((i+1:Nat):Int)-1=(i:Int):=by omega
  have w1:QG .i64 ((a:Int)+i)=((a+i:Nat):Int):=by rw [xr (by omega) (by omega)]; omega
  have w3:QG .i64 ((i:Int)-1)=(i:Int)-1:=xr (by omega) (by omega)
  have hl:=zuG hb (a+(i+1)) (w-(i+1))
  have hp:256 ^ (w-(i+1))≤256 ^ 7:=XP (by decide) (by omega)
  have hg:=zpp hb (a+i)
  have e1:le j (a+i) (w-i)=le j (a+(i+1)) (w-(i+1))*2 ^ 8+zmB j (a+i):=by
   rw [show w-i=(w-(i+1))+1 by omega,zBS,show a+i+1=a+(i+1) by omega]; omega
  have hx:le j (a+(i+1)) (w-(i+1))*2 ^ 8+zmB j (a+i)<2 ^ (IntKind.bits .u64):=by
   show _<2 ^ 64
   have:(256:Nat) ^ 7=72057594037927936:=by decide
   have:(2:Nat) ^ 64=18446744073709551616:=by decide
   omega
  rw [zb3]
  unfold zeX
  rw [e0,xz (by omega),show (8:Int)=((8:Nat):Int) from rfl,zL2 .u64 rfl (by decide) (by omega),zd,w1,zd,zef (zwt (by omega)),cI8,zaQ (by omega) (by omega),zd,hg.2,zND .u64 rfl (by omega) hx,zd,w3,zd,← e1]
  exact zMa L hb hj hw h kx n i (by omega) (by omega)
theorem zxh{L:Nat}(hL:20≤L){j:List Int}(hb:Byt j)(hj:j.length≤100000000){a w:Nat}(ha:a≤j.length)(hw:w≤8)(k:Int→Int→Int→Option β):zo β L (ze .u8 j) (a:Int) (w:Int) k=if a+w≤j.length then k ((le j a w:Nat):Int) ((a+w:Nat):Int) 0 else k 0 0 1:=by
 unfold zo zk0 zpf
 rw [yq (by omega),xG,yq (by omega),xr (by omega) (by omega),zd]
 by_cases h:a+w≤j.length
 ·rw [if_pos h,yq (by omega),xr (by omega) (by omega),zd]
  have key:=zMa L hb hj hw h (fun p1 p2 p9=>zdZ L p1 p2 p9 k) L w (Nat.le_refl _) (by omega)
  rw [Nat.sub_self] at key
  refine key.trans ?_
  unfold zdZ
  rw [xr (by omega) (by omega),zd]
  congr 1
 ·rw [if_neg h,xz (by omega)]
theorem zwY{L:Nat}(hL:20≤L){j:List Int}(hb:Byt j)(hj:j.length≤100000000){a:Nat}(ha:a≤j.length)(k:Int→Int→Int→Option β):xF β L (ze .u8 j) (a:Int) k=if a+4≤j.length then k ((le j a 4:Nat):Int) ((a+4:Nat):Int) 0 else k 0 0 1:=by
 unfold xF zvq
 rw [show (4:Int)=((4:Nat):Int) from rfl,zxh hL hb hj ha (by decide)]
 have h4:=zuG hb a 4
 have:(256:Nat) ^ 4=4294967296:=by decide
 by_cases h:a+4≤j.length
 ·rw [if_pos h,if_pos h,ziL (by omega) (by omega),zd]
 ·rw [if_neg h,if_neg h,ziL (by decide) (by decide),zd]
theorem zTY{L:Nat}(hL:20≤L){j:List Int}(hb:Byt j)(hj:j.length≤100000000){a:Nat}(ha:a≤j.length)(k:Int→Int→Int→Option β):zaH β L (ze .u8 j) (a:Int) k=if a+8≤j.length then k ((le j a 8:Nat):Int) ((a+8:Nat):Int) 0 else k 0 0 1:=by
 unfold zaH zvE
 rw [show (8:Int)=((8:Nat):Int) from rfl,zxh hL hb hj ha (by decide)]
end
end Go.Proofs.YtgmhijonllockaaGreatDoor
