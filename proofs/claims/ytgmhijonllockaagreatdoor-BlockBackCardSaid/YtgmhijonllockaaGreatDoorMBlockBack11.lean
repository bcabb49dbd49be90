/- Part 11 of the proof of BlockBack: an abstract machine over plain values, its soundness, and the functions of the program on plain values. -/
import Derived.Test.YtgmhijonllockaaGreatDoorMBlockBack10
namespace Go.Proofs.YtgmhijonllockaaGreatDoor
set_option maxRecDepth 100000
set_option linter.unusedVariables false
set_option linter.unusedSimpArgs false
open List renaming length->XK,take->XM,replicate->We,map->Xv
open IntKind renaming wrap->QG
open Int renaming toNat->XL
section
noncomputable section
def zrV:Hint:=⟨[(0,0),(0,1)],[],[none],[],[],false,false,[]⟩
def zuU:CF:=cfD zrV 125
def zod:Nat→Sh:=xC [(6,(.int .i64)),(8,(.int .i64)),(12,(.sl 1)),(14,(.sl 1))]
def zoe(yg:zbu)(L:Nat):CBC:=(xp 130 (zlc yg L) noC)
def zpP{β:Type}(yg:zbu)(L:Nat)(A C:List V)(z:Bool→Ob β):Ob β:=cI .i64 A 0 fun D=>cI .i64 C 0 fun E=>ifb ((D:Int)==E) (cLd 1 A 1 fun F=>cLd 1 C 1 fun G=>yg β L F G (fun H=>z H)) (z false)
theorem zCE{β:Type}(yg:zbu)(L:Nat)(z A:List V)(k:KK β):zj zod (zoe yg L) L zuU [(V.agg z),(V.agg A)] [] k=zpP yg L z A (fun z=>k (V.sc (.bool z)) []):=by kernel_rfl
abbrev ze1:=∀ (β:Type),Nat→List V→List V→(Bool→Ob β)→Ob β
def yi:ze1:=fun β=>@zpP β yg
def zqf(yi:ze1)(L:Nat):Dk:=dA AG fun z=>dA AG fun A=>d0 fun β k=>yi β L z A (fun z=>k (V.sc (.bool z)) [])
theorem zB1(L:Nat):DK (zqf yi L) (fun _=>zj zod (zoe yg L) L zuU):=xo zbR fun z=>xo zbR fun A=>zK fun _ k=>zCE yg L z A k
def ztd:Hint:=⟨[(0,0),(0,1),(6,10),(6,11)],[],[none,none,none,some ((bl 13194139533324 116),(bl 83076739832411214214465514083712527 116)),none,some ((bl 12 116),(bl 83076739832411214214465514083712527 116)),none,none,some ((bl 16 116),(bl 83076739832411214214465514083712531 116)),none,some ((bl 1813388729435137901592780 116),(bl 83076739833036927773445742074527471 116)),none,some ((bl 13194139533324 116),(bl 83076739833036927773445742074527279 116)),none,none,some ((bl 16 116),(bl 83076739832411214214465514083712531 116)),none,some ((bl 1901475900342344102245054808076 116),(bl 72692156019487586799426948609080623 116)),none,some ((bl 0 116),(bl 72692156019487586799426948609080611 116)),none,none,some ((bl 16 116),(bl 72692156019487586799426948609080627 116)),none],[],[],false,false,[]⟩
def cf_ref09_SameTx:CF:=cfD ztd 72
def zdD:CC:=yy [1,1,0,1,0,0,1,1,0,0,1,1,1,1,0,0] cf_ref09_SameTx.body
def zgP:CC:=yy [1,1,0,1,0,0,1,1,1] cf_ref09_SameTx.body
def zik:CC:=yy [1,1,1,0,1,0,0] cf_ref09_SameTx.body
def zfF:CC:=yy [1,1,0,1,0,0] cf_ref09_SameTx.body
def zkz:CC:=yy [1,1,1,1] cf_ref09_SameTx.body
def zhL:CC:=yy [1,1,1] cf_ref09_SameTx.body
def xB:Nat→Sh:=xC [(11,(.int .u32)),(13,(.int .u32)),(17,(.int .u32)),(19,(.int .u32)),(24,(.sl 35)),(27,(.sl 35)),(33,(.sl 2)),(36,(.sl 2)),(41,(.sl 35)),(47,(.sl 35)),(52,(.sl 35)),(63,(.int .u32)),(65,(.int .u32)),(70,(.sl 1)),(73,(.sl 1)),(78,(.sl 1)),(98,(.sl 2)),(84,(.sl 1)),(87,(.sl 1)),(89,(.sl 1)),(92,(.sl 1)),(104,(.sl 2)),(109,(.sl 2))]
def yB(yg:zbu)(yi:ze1)(L:Nat):CBC:=(xp 181 (zqf yi L) (xp 130 (zlc yg L) noC))
def zbF:St→St:=zM 0 (bl 13194139533324 116) (bl 83076739832411214214465514083712527 116)
def zdU:St→St:=zM 0 (bl 1813388729435137901592780 116) (bl 83076739833036927773445742074527471 116)
def ziS:St→St:=zM 0 (bl 1901475900342344102245054808076 116) (bl 72692156019487586799426948609080623 116)
def zbz(z A:Int)(C D:List V):St:=⟨(jn 2 ((V.ptr 2 0)::((V.ptr 3 0)::(jn 38 ((Qe z)::((Qe A)::(jn 72 []))))))),(gn 2 ((.live true C)::((.live true D)::(gn 112 []))))⟩
def yZ(z:Bool):St:=⟨(jn 4 ((V.sc (.bool z))::(jn 111 []))),(gn 116 [])⟩
def zbs(z A C D:Int)(E F G H:List V):St:=⟨(jn 2 ((V.ptr 2 0)::((V.ptr 3 0)::(jn 2 ((V.ptr 6 0)::((V.ptr 7 0)::(jn 34 ((Qe z)::((Qe A)::(jn 35 ((Qe C)::((Qe D)::(jn 35 []))))))))))))),(gn 2 ((.live true E)::((.live true F)::(gn 2 ((.live true G)::((.live true H)::(gn 108 [])))))))⟩
def zeI(z A:List V):St:=⟨(jn 2 ((V.ptr 2 0)::((V.ptr 3 0)::(jn 112 [])))),(gn 2 ((.live true z)::((.live true A)::(gn 112 []))))⟩
def zdX(A z:Int)(C D:List V):St:=⟨(jn 2 ((V.ptr 2 0)::((V.ptr 3 0)::(jn 95 ((Qe A)::((Qe z)::(jn 15 []))))))),(gn 2 ((.live true C)::((.live true D)::(gn 112 []))))⟩
def zk0(z A:Int)(C D:List V):St:=⟨(jn 2 ((V.ptr 2 0)::((V.ptr 3 0)::(jn 38 ((Qe z)::((Qe A)::(jn 72 []))))))),(gn 2 ((.live true C)::((.live true D)::(gn 112 []))))⟩
def zkV:St:=⟨(jn 116 []),(gn 116 [])⟩
abbrev zg7(β:Type):Type:=Int→Int→Int→Int→List V→List V→List V→List V→Ob β
section
variable {β:Type} (yg:zbu) (yi:ze1)
def zqQ(L:Nat)(C D:List V)(z:Bool→Ob β)(A:Int→Int→List V→List V→Ob β):Ob β:=cI .u32 C 0 fun E=>cI .u32 D 0 fun F=>ifb ((E:Int) != F) (z false) (cI .u32 C 3 fun G=>cI .u32 D 3 fun H=>ifb ((G:Int) != H) (z false) (cLd 35 C 1 fun I=>cLd 35 D 1 fun J=>ifb ((((XK I:Nat):Int):Int) != ((XK J:Nat):Int)) (z false) (cLd 2 C 2 fun M=>cLd 2 D 2 fun N=>ifb ((((XK M:Nat):Int):Int) != ((XK N:Nat):Int)) (z false) (cLd 35 C 1 fun O=>A ((XK O:Nat):Int) (0:Int) C D))))
theorem zE3(L:Nat)(z A:List V)(k:KK β):zj xB (yB yg yi L) L cf_ref09_SameTx [(V.agg z),(V.agg A)] [] k=zqQ L z A (fun z=>k (V.sc (.bool z)) []) (fun C D E F=>yt (xd xB (yB yg yi L) 0 L zfF) zbF L (zbz C D E F) (zi 0 (yr (xd xB (yB yg yi L) 0 L zhL) (zy 0 (CF.res cf_ref09_SameTx) k)))):=by kernel_rfl
def zjI(L:Nat)(F E:Int)(I J:List V)(C:Bool→Ob β)(z:zg7 β)(M:List V→List V→Ob β):Ob β:=ifb (decide (E<F)) (cLd 35 I 1 fun U=>idx U E fun G=>cLd 35 J 1 fun N=>idx N E fun H=>chk ((XK (XM 35 G))=35∧0+35≤35) (lt (yd (We 32 (Qa (0:Int))++[(Qc (0:Int)),(Qc (0:Int)),(V.gs 1 ([]:Ls))]) 0 (XM 35 G)) fun A=>chk ((XK (XM 35 H))=35∧0+35≤35) (lt (yd (We 32 (Qa (0:Int))++[(Qc (0:Int)),(Qc (0:Int)),(V.gs 1 ([]:Ls))]) 0 (XM 35 H)) fun D=>chk (0+33≤(XK A)) (chk (0+33≤(XK D)) (eqC 33 (XM 33 A) (XM 33 D) fun O=>ifb (!O) (C false) (cI .u32 A 33 fun P=>cI .u32 D 33 fun Q=>ifb ((P:Int) != Q) (C false) (cLd 1 A 34 fun R=>cLd 1 D 34 fun S=>ifb ((((XK R:Nat):Int):Int) != ((XK S:Nat):Int)) (C false) (cLd 1 A 34 fun T=>z F E ((XK T:Nat):Int) (0:Int) I J A D)))))))) (M I J)
theorem zxr(L:Nat)(z A:Int)(C D:List V)(X:St→Ob β)(K:KT β):xd xB (yB yg yi L) 0 L zfF (zbz z A C D) (zI zbF X K)=zjI L z A C D (fun G=>K .ret (yZ G)) (fun z A E F C D H I=>yt (xd xB (yB yg yi L) 0 L zdD) zdU L (zbs z A E F C D H I) (zi 2 (zi 1 (yr (xd xB (yB yg yi L) 0 L zgP) (zI zbF X K))))) (fun C D=>K (.exit 0) (zeI C D)):=by kernel_rfl
def zne(L:Nat)(A:Bool)(z:Bool→Ob β):Ob β:=z A
theorem zty(L:Nat)(z:Bool)(k:KK β):(zi 0 (yr (xd xB (yB yg yi L) 0 L zhL) (zy 0 (CF.res cf_ref09_SameTx) k))) .ret (yZ z)=zne L z (fun A=>k (V.sc (.bool A)) []):=by kernel_rfl
def zia(L:Nat)(A D:List V)(z:Int→Int→List V→List V→Ob β):Ob β:=cLd 2 A 2 fun C=>z ((XK C:Nat):Int) (0:Int) A D
theorem zuh(L:Nat)(z A:List V)(k:KK β):(zi 0 (yr (xd xB (yB yg yi L) 0 L zhL) (zy 0 (CF.res cf_ref09_SameTx) k))) (.exit 0) (zeI z A)=zia L z A (fun D C z A=>yt (xd xB (yB yg yi L) 0 L zik) ziS L (zdX D C z A) (zi 4 (yr (xd xB (yB yg yi L) 0 L zkz) (zy 0 (CF.res cf_ref09_SameTx) k)))):=by kernel_rfl
def zdP(L:Nat)(D E F A:Int)(H I J M:List V)(C:Bool→Ob β)(z:zg7 β)(G:Int→Int→List V→List V→Ob β):Ob β:=ifb (decide (A<F)) (cLd 1 J 34 fun N=>idx N A fun O=>cL 1 O 0 fun P=>cLd 1 M 34 fun Q=>idx Q A fun R=>cL 1 R 0 fun S=>yg β L P S (fun T=>ifb (!T) (C false) (lt (QG .i64 ((A:Int)+(1:Int))) fun U=>z D E F U H I J M))) (G D E H I)
theorem zn7(L:Nat)(z A C D:Int)(E F G H:List V)(X:St→Ob β)(K:KT β):xd xB (yB yg yi L) 0 L zdD (zbs z A C D E F G H) (zI zdU X K)=zdP yg L z A C D E F G H (fun I=>K .ret (yZ I)) (fun z A C D E F G H=>X (zbs z A C D E F G H)) (fun z A E F=>K (.exit 2) (zk0 z A E F)):=by kernel_rfl
def zi2(L:Nat)(D z:Int)(F G:List V)(C:Bool→Ob β)(A:Int→Int→List V→List V→Ob β)(E:Ob β):Ob β:=ifb (decide (z<D)) (cLd 2 F 2 fun H=>idx H z fun I=>cLd 2 G 2 fun J=>idx J z fun M=>yi β L (Xv V.dem (XM 2 I)) (Xv V.dem (XM 2 M)) (fun N=>ifb (!N) (C false) (lt (QG .i64 ((z:Int)+(1:Int))) fun O=>A D O F G))) (E)
theorem zvu(L:Nat)(A z:Int)(C D:List V)(X:St→Ob β)(K:KT β):xd xB (yB yg yi L) 0 L zik (zdX A z C D) (zI ziS X K)=zi2 yi L A z C D (fun E=>K .ret (yZ E)) (fun A z C D=>X (zdX A z C D)) (K (.exit 4) (zkV)):=by kernel_rfl
def zgg(L:Nat)(A:Bool)(z:Bool→Ob β):Ob β:=z A
theorem zlB(L:Nat)(z:Bool)(X:St→Ob β)(K:KT β):(zi 2 (zi 1 (yr (xd xB (yB yg yi L) 0 L zgP) (zI zbF X K)))) .ret (yZ z)=zgg L z (fun z=>K .ret (yZ z)):=by kernel_rfl
def zdh(L:Nat)(A C:Int)(E F:List V)(z:Int→Int→List V→List V→Ob β):Ob β:=lt (QG .i64 ((C:Int)+(1:Int))) fun D=>z A D E F
theorem zmy(L:Nat)(z A:Int)(C D:List V)(X:St→Ob β)(K:KT β):(zi 2 (zi 1 (yr (xd xB (yB yg yi L) 0 L zgP) (zI zbF X K)))) (.exit 2) (zk0 z A C D)=zdh L z A C D (fun z A C D=>X (zbz z A C D)):=by kernel_rfl
def zl6(L:Nat)(A:Bool)(z:Bool→Ob β):Ob β:=z A
theorem zs8(L:Nat)(z:Bool)(k:KK β):(zi 4 (yr (xd xB (yB yg yi L) 0 L zkz) (zy 0 (CF.res cf_ref09_SameTx) k))) .ret (yZ z)=zl6 L z (fun A=>k (V.sc (.bool A)) []):=by kernel_rfl
def zmZ(L:Nat)(z:Bool→Ob β):Ob β:=z true
theorem ztL(L:Nat)(k:KK β):(zi 4 (yr (xd xB (yB yg yi L) 0 L zkz) (zy 0 (CF.res cf_ref09_SameTx) k))) (.exit 4) (zkV)=zmZ L (fun z=>k (V.sc (.bool z)) []):=by kernel_rfl
def zaY(L:Nat)(z:Bool→Ob β)(A:Int→Int→List V→List V→Ob β):Nat→Int→Int→Int→Int→List V→List V→List V→List V→Ob β
 | 0,_,_,_,_,_,_,_,_=>none
 | n+1,C,D,E,F,G,H,I,J=>zdP yg L C D E F G H I J z (fun C D E F G H I J=>zaY L z A n C D E F G H I J) A
theorem zgp(L:Nat)(K:KT β):∀ (n:Nat) (z A E F:Int) (C D G H:List V),yt (xd xB (yB yg yi L) 0 L zdD) zdU n (zbs z A E F C D G H) K=zaY yg L (fun I=>K .ret (yZ I)) (fun z A C D=>K (.exit 2) (zk0 z A C D)) n z A E F C D G H:=by
 intro n; induction n <;> intros
 ·rfl
 ·exact (zn7 ..).trans (by simp only [*]; rfl)
def zfS(L:Nat)(z A:Int)(E F:List V)(D:Bool→Ob β)(G:List V→List V→Ob β)(C:Int→Int→List V→List V→Ob β):Ob β:=zjI L z A E F D (fun z A H I E F J M=>zaY yg L (fun N=>zgg L N D) (fun z A E F=>zdh L z A E F C) L z A H I E F J M) G
theorem zvp(L:Nat)(z A:Int)(C D:List V)(X:St→Ob β)(K:KT β):xd xB (yB yg yi L) 0 L zfF (zbz z A C D) (zI zbF X K)=zfS yg L z A C D (fun E=>K .ret (yZ E)) (fun C D=>K (.exit 0) (zeI C D)) (fun z A C D=>X (zbz z A C D)):=by
 refine (zxr ..).trans ?_
 unfold zfS
 first
  | (simp only [zgp,zlB,zmy]; done)
  | (simp only [zgp]; rfl)
def zd4(L:Nat)(z:Bool→Ob β)(A:List V→List V→Ob β):Nat→Int→Int→List V→List V→Ob β
 | 0,_,_,_,_=>none
 | n+1,C,D,E,F=>zfS yg L C D E F z A (fun C D E F=>zd4 L z A n C D E F)
theorem znc(L:Nat)(K:KT β):∀ (n:Nat) (C D:Int) (z A:List V),yt (xd xB (yB yg yi L) 0 L zfF) zbF n (zbz C D z A) K=zd4 yg L (fun E=>K .ret (yZ E)) (fun z A=>K (.exit 0) (zeI z A)) n C D z A:=by
 intro n; induction n <;> intros
 ·rfl
 ·exact (zvp ..).trans (by simp only [*]; rfl)
def zdv(L:Nat)(A:Bool→Ob β)(C:Ob β):Nat→Int→Int→List V→List V→Ob β
 | 0,_,_,_,_=>none
 | n+1,D,z,E,F=>zi2 yi L D z E F A (fun D z E F=>zdv L A C n D z E F) C
theorem zl1(L:Nat)(K:KT β):∀ (n:Nat) (A z:Int) (C D:List V),yt (xd xB (yB yg yi L) 0 L zik) ziS n (zdX A z C D) K=zdv yi L (fun E=>K .ret (yZ E)) (K (.exit 4) (zkV)) n A z C D:=by
 intro n; induction n <;> intros
 ·rfl
 ·exact (zvu ..).trans (by simp only [*]; rfl)
def zeu(L:Nat)(A C:List V)(z:Bool→Ob β):Ob β:=zia L A C (fun E D A C=>zdv yi L (fun F=>zl6 L F z) (zmZ L z) L E D A C)
theorem ztE(L:Nat)(z A:List V)(k:KK β):(zi 0 (yr (xd xB (yB yg yi L) 0 L zhL) (zy 0 (CF.res cf_ref09_SameTx) k))) (.exit 0) (zeI z A)=zeu yi L z A (fun C=>k (V.sc (.bool C)) []):=by
 refine (zuh ..).trans ?_
 unfold zeu
 first
  | (simp only [zl1,zs8,ztL]; done)
  | (simp only [zl1]; rfl)
end
def zlO{β:Type}(yg:zbu)(yi:ze1)(L:Nat)(F G:List V)(z:Bool→Ob β):Ob β:=zqQ L F G z (fun D E A C=>zd4 yg L (fun H=>zne L H z) (fun A C=>zeu yi L A C z) L D E A C)
theorem zEr{β:Type}(yg:zbu)(yi:ze1)(L:Nat)(z A:List V)(k:KK β):zj xB (yB yg yi L) L cf_ref09_SameTx [(V.agg z),(V.agg A)] [] k=zlO yg yi L z A (fun z=>k (V.sc (.bool z)) []):=by
 refine (zE3 yg yi L z A k).trans ?_
 unfold zlO
 first
  | (simp only [znc,zty,ztE]; done)
  | (simp only [znc]; rfl)
abbrev zf3:=∀ (β:Type),Nat→List V→List V→(Bool→Ob β)→Ob β
def xv:zf3:=fun β=>@zlO β yg yi
def zrn(xv:zf3)(L:Nat):Dk:=dA AG fun z=>dA AG fun A=>d0 fun β k=>xv β L z A (fun z=>k (V.sc (.bool z)) [])
theorem zEW(L:Nat):DK (zrn xv L) (fun _=>zj xB (yB yg yi L) L cf_ref09_SameTx):=xo zbR fun z=>xo zbR fun A=>zK fun _ k=>zEr yg yi L z A k
def zpF:Hint:=⟨[(0,0),(0,1)],[],[none,none,none,some ((bl 12582924 39),(bl 481036337103 39)),none,some ((bl 0 39),(bl 481036337091 39)),none,none,some ((bl 16 39),(bl 481036337107 39)),none],[],[],false,false,[]⟩
def cf_ref11_SameBlock:CF:=cfD zpF 34
def zgO:CC:=yy [1,1,0,1,0,0] cf_ref11_SameBlock.body
def ziz:CC:=yy [1,1,1] cf_ref11_SameBlock.body
def zav:Nat→Sh:=xC [(13,(.sl 4)),(16,(.sl 4)),(21,(.sl 4)),(27,(.sl 4)),(32,(.sl 4))]
def zat(xv:zf3)(L:Nat):CBC:=(xp 143 (zrn xv L) noC)
def zhJ:St→St:=zM 0 (bl 12582924 39) (bl 481036337103 39)
def zdb(z A:Int)(C D:List V):St:=⟨(jn 2 ((V.ptr 2 0)::((V.ptr 3 0)::(jn 18 ((Qe z)::((Qe A)::(jn 15 []))))))),(gn 2 ((.live true C)::((.live true D)::(gn 35 []))))⟩
def zhI(z:Bool):St:=⟨(jn 4 ((V.sc (.bool z))::(jn 34 []))),(gn 39 [])⟩
def zh0:St:=⟨(jn 39 []),(gn 39 [])⟩
section
variable {β:Type} (xv:zf3)
def zmn(L:Nat)(C D:List V)(A:Bool→Ob β)(z:Int→Int→List V→List V→Ob β):Ob β:=chk (0+68≤(XK C)) (chk (0+68≤(XK D)) (eqC 68 (XM 68 C) (XM 68 D) fun E=>ifb (!E) (A false) (cLd 4 C 68 fun F=>cLd 4 D 68 fun G=>ifb ((((XK F:Nat):Int):Int) != ((XK G:Nat):Int)) (A false) (cLd 4 C 68 fun H=>z ((XK H:Nat):Int) (0:Int) C D))))
theorem zzP(L:Nat)(z A:List V)(k:KK β):zj zav (zat xv L) L cf_ref11_SameBlock [(V.agg z),(V.agg A)] [] k=zmn L z A (fun z=>k (V.sc (.bool z)) []) (fun C D E F=>yt (xd zav (zat xv L) 0 L zgO) zhJ L (zdb C D E F) (zi 0 (yr (xd zav (zat xv L) 0 L ziz) (zy 0 (CF.res cf_ref11_SameBlock) k)))):=by kernel_rfl
def zht(L:Nat)(D A:Int)(F G:List V)(C:Bool→Ob β)(z:Int→Int→List V→List V→Ob β)(E:Ob β):Ob β:=ifb (decide (A<D)) (cLd 4 F 68 fun H=>idx H A fun I=>cLd 4 G 68 fun J=>idx J A fun M=>xv β L (Xv V.dem (XM 4 I)) (Xv V.dem (XM 4 M)) (fun N=>ifb (!N) (C false) (lt (QG .i64 ((A:Int)+(1:Int))) fun O=>z D O F G))) (E)
theorem ztV(L:Nat)(z A:Int)(C D:List V)(X:St→Ob β)(K:KT β):xd zav (zat xv L) 0 L zgO (zdb z A C D) (zI zhJ X K)=zht xv L z A C D (fun E=>K .ret (zhI E)) (fun z A C D=>X (zdb z A C D)) (K (.exit 0) (zh0)):=by kernel_rfl
def zke(L:Nat)(A:Bool)(z:Bool→Ob β):Ob β:=z A
theorem zq7(L:Nat)(z:Bool)(k:KK β):(zi 0 (yr (xd zav (zat xv L) 0 L ziz) (zy 0 (CF.res cf_ref11_SameBlock) k))) .ret (zhI z)=zke L z (fun A=>k (V.sc (.bool A)) []):=by kernel_rfl
def zkK(L:Nat)(z:Bool→Ob β):Ob β:=z true
theorem zr1(L:Nat)(k:KK β):(zi 0 (yr (xd zav (zat xv L) 0 L ziz) (zy 0 (CF.res cf_ref11_SameBlock) k))) (.exit 0) (zh0)=zkK L (fun z=>k (V.sc (.bool z)) []):=by kernel_rfl
def zcL(L:Nat)(z:Bool→Ob β)(A:Ob β):Nat→Int→Int→List V→List V→Ob β
 | 0,_,_,_,_=>none
 | n+1,C,D,E,F=>zht xv L C D E F z (fun C D E F=>zcL L z A n C D E F) A
theorem zku(L:Nat)(K:KT β):∀ (n:Nat) (z A:Int) (C D:List V),yt (xd zav (zat xv L) 0 L zgO) zhJ n (zdb z A C D) K=zcL xv L (fun E=>K .ret (zhI E)) (K (.exit 0) (zh0)) n z A C D:=by
 intro n; induction n <;> intros
 ·rfl
 ·exact (ztV ..).trans (by simp only [*]; rfl)
end
def zhR{β:Type}(xv:zf3)(L:Nat)(D E:List V)(z:Bool→Ob β):Ob β:=zmn L D E z (fun A C F G=>zcL xv L (fun H=>zke L H z) (zkK L z) L A C F G)
theorem zzW{β:Type}(xv:zf3)(L:Nat)(z A:List V)(k:KK β):zj zav (zat xv L) L cf_ref11_SameBlock [(V.agg z),(V.agg A)] [] k=zhR xv L z A (fun z=>k (V.sc (.bool z)) []):=by
 refine (zzP xv L z A k).trans ?_
 unfold zhR
 first
  | (simp only [zku,zq7,zr1]; done)
  | (simp only [zku]; rfl)
abbrev zcr:=∀ (β:Type),Nat→List V→List V→(Bool→Ob β)→Ob β
def xz:zcr:=fun β=>@zhR β xv
def zhP(xz:zcr)(L:Nat):Dk:=dA AG fun z=>dA AG fun A=>d0 fun β k=>xz β L z A (fun z=>k (V.sc (.bool z)) [])
theorem zzc(L:Nat):DK (zhP xz L) (fun _=>zj zav (zat xv L) L cf_ref11_SameBlock):=xo zbR fun z=>xo zbR fun A=>zK fun _ k=>zzW xv L z A k
def zvU:Hint:=⟨[],[],[none,none,none,some ((bl 57348 24),(bl 15728319 24)),none,some ((bl 0 24),(bl 15728319 24)),none,none,some ((bl 64 24),(bl 15728383 24)),none],[],[],false,false,[]⟩
def cf_keep_Items:CF:=cfD zvU 73
def zlh:CC:=yy [1,1,0,1,0,0] cf_keep_Items.body
def zo1:CC:=yy [1,1,1] cf_keep_Items.body
def zb9:Nat→Sh:=xC [(18,(.sl 1))]
def zca(L:Nat):CBC:=noC
def zmF:St→St:=zM 0 (bl 57348 24) (bl 15728319 24)
def zfx(D:Int)(z:Ls)(A C:Int):St:=⟨(jn 2 ((Qe D)::(jn 10 ((V.sl 1 z)::((Qe A)::((Qe C)::(jn 8 []))))))),(gn 24 [])⟩
def zmz(z:Bool):St:=⟨(jn 6 ((V.sc (.bool z))::(jn 17 []))),(gn 24 [])⟩
def znK:St:=⟨(jn 24 []),(gn 24 [])⟩
section
variable {β:Type}
def zuJ(L:Nat)(C:Ls)(D E:Int)(A:Bool→Ob β)(z:Int→Ls→Int→Int→Ob β):Ob β:=ifb (decide (((XK C:Nat):Int)>D)) (A false) (z E C ((XK C:Nat):Int) (0:Int))
theorem zIA(L:Nat)(z:Ls)(C A:Int)(k:KK β):zj zb9 (zca L) L cf_keep_Items [(V.sl 1 z),(Qe C),(Qe A)] [] k=zuJ L z C A (fun z=>k (V.sc (.bool z)) []) (fun A D E F=>yt (xd zb9 (zca L) 0 L zlh) zmF L (zfx A D E F) (zi 0 (yr (xd zb9 (zca L) 0 L zo1) (zy 0 (CF.res cf_keep_Items) k)))):=by kernel_rfl
def zmk(L:Nat)(G:Int)(D:Ls)(E A:Int)(C:Bool→Ob β)(z:Int→Ls→Int→Int→Ob β)(F:Ob β):Ob β:=ifb (decide (A<E)) (idx D A fun H=>cL 1 H 0 fun I=>ifb (decide (((XK I:Nat):Int)>G)) (C false) (lt (QG .i64 ((A:Int)+(1:Int))) fun J=>z G D E J)) (F)
theorem zz2(L:Nat)(D:Int)(z:Ls)(A C:Int)(X:St→Ob β)(K:KT β):xd zb9 (zca L) 0 L zlh (zfx D z A C) (zI zmF X K)=zmk L D z A C (fun E=>K .ret (zmz E)) (fun D z A C=>X (zfx D z A C)) (K (.exit 0) (znK)):=by kernel_rfl
def zi0(L:Nat)(A:Bool)(z:Bool→Ob β):Ob β:=z A
theorem zvB(L:Nat)(z:Bool)(k:KK β):(zi 0 (yr (xd zb9 (zca L) 0 L zo1) (zy 0 (CF.res cf_keep_Items) k))) .ret (zmz z)=zi0 L z (fun A=>k (V.sc (.bool A)) []):=by kernel_rfl
def zj2(L:Nat)(z:Bool→Ob β):Ob β:=z true
theorem zwS(L:Nat)(k:KK β):(zi 0 (yr (xd zb9 (zca L) 0 L zo1) (zy 0 (CF.res cf_keep_Items) k))) (.exit 0) (znK)=zj2 L (fun z=>k (V.sc (.bool z)) []):=by kernel_rfl
def zfn(L:Nat)(z:Bool→Ob β)(A:Ob β):Nat→Int→Ls→Int→Int→Ob β
 | 0,_,_,_,_=>none
 | n+1,F,C,D,E=>zmk L F C D E z (fun F C D E=>zfn L z A n F C D E) A
theorem zoZ(L:Nat)(K:KT β):∀ (n:Nat) (D:Int) (z:Ls) (A C:Int),yt (xd zb9 (zca L) 0 L zlh) zmF n (zfx D z A C) K=zfn L (fun E=>K .ret (zmz E)) (K (.exit 0) (znK)) n D z A C:=by
 intro n; induction n <;> intros
 ·rfl
 ·exact (zz2 ..).trans (by simp only [*]; rfl)
end
def zpM{β:Type}(L:Nat)(F:Ls)(G A:Int)(z:Bool→Ob β):Ob β:=zuJ L F G A z (fun A C D E=>zfn L (fun H=>zi0 L H z) (zj2 L z) L A C D E)
theorem zIP{β:Type}(L:Nat)(z:Ls)(A C:Int)(k:KK β):zj zb9 (zca L) L cf_keep_Items [(V.sl 1 z),(Qe A),(Qe C)] [] k=zpM L z A C (fun z=>k (V.sc (.bool z)) []):=by
 refine (zIA L z A C k).trans ?_
 unfold zpM
 first
  | (simp only [zoZ,zvB,zwS]; done)
  | (simp only [zoZ]; rfl)
abbrev zip:=∀ (β:Type),Nat→Ls→Int→Int→(Bool→Ob β)→Ob β
def zu:zip:=fun β=>@zpM β
def zu8(zu:zip)(L:Nat):Dk:=dA (AL 1) fun z=>dA (AI .i64) fun A=>dA (AI .i64) fun C=>d0 fun β k=>zu β L z A C (fun z=>k (V.sc (.bool z)) [])
theorem zID(L:Nat):DK (zu8 zu L) (fun _=>zj zb9 (zca L) L cf_keep_Items):=xo zaV fun z=>xo z8 fun A=>xo z8 fun C=>zK fun _ k=>zIP L z A C k
def zC1:Hint:=⟨[(0,0),(5,2),(11,2)],[],[none,none,none,some ((bl 1835010 41),(bl 2198956146603 41)),none,some ((bl 2 41),(bl 2198956146603 41)),none,none,some ((bl 4 41),(bl 2198956146605 41)),none,some ((bl 7516192768 41),(bl 1924145348521 41)),none,some ((bl 0 41),(bl 1924145348521 41)),none,none,some ((bl 4 41),(bl 1924145348525 41)),none],[],[],false,false,[]⟩
def cf_keep_Tx:CF:=cfD zC1 35
def znP:CC:=yy [1,1,1,0,1,0,0] cf_keep_Tx.body
def zpp:CC:=yy [1,1,0,1,0,0] cf_keep_Tx.body
def zsO:CC:=yy [1,1,1,1] cf_keep_Tx.body
def zpd:CC:=yy [1,1,1] cf_keep_Tx.body
def zaK:Nat→Sh:=xC [(8,(.sl 35)),(13,(.sl 2)),(18,(.sl 35)),(25,(.sl 1)),(30,(.sl 2)),(37,(.sl 1))]
def zaM(zu:zip)(L:Nat):CBC:=(xp 145 (zu8 zu L) noC)
def zqU:St→St:=zM 0 (bl 1835010 41) (bl 2198956146603 41)
def zpN:St→St:=zM 0 (bl 7516192768 41) (bl 1924145348521 41)
def zhS(z:Ls)(A C:Int)(D:List V):St:=⟨(jn 1 ((V.ptr 1 0)::(jn 16 ((V.sl 35 z)::((Qe A)::((Qe C)::(jn 20 []))))))),(gn 1 ((.live true D)::(gn 39 [])))⟩
def zf7(z:Bool):St:=⟨(jn 2 ((V.sc (.bool z))::(jn 38 []))),(gn 41 [])⟩
def zns(z:List V):St:=⟨(jn 1 ((V.ptr 1 0)::(jn 39 []))),(gn 1 ((.live true z)::(gn 39 [])))⟩
def zgW(z:Ls)(A C:Int):St:=⟨(jn 30 ((V.sl 2 z)::((Qe A)::((Qe C)::(jn 8 []))))),(gn 41 [])⟩
def zs2:St:=⟨(jn 41 []),(gn 41 [])⟩
section
variable {β:Type} (zu:zip)
def zDI(L:Nat)(C:List V)(A:Bool→Ob β)(z:Ls→Int→Int→List V→Ob β):Ob β:=cLd 35 C 1 fun E=>ifb (decide (((XK E:Nat):Int)>(70:Int))) (A false) (cLd 2 C 2 fun F=>ifb (decide (((XK F:Nat):Int)>(70:Int))) (A false) (cLd 35 C 1 fun D=>z D ((XK D:Nat):Int) (0:Int) C))
theorem zMs(L:Nat)(z:List V)(k:KK β):zj zaK (zaM zu L) L cf_keep_Tx [(V.agg z)] [] k=zDI L z (fun z=>k (V.sc (.bool z)) []) (fun A C D E=>yt (xd zaK (zaM zu L) 0 L zpp) zqU L (zhS A C D E) (zi 0 (yr (xd zaK (zaM zu L) 0 L zpd) (zy 0 (CF.res cf_keep_Tx) k)))):=by kernel_rfl
def zrl(L:Nat)(D:Ls)(E A:Int)(G:List V)(C:Bool→Ob β)(z:Ls→Int→Int→List V→Ob β)(F:List V→Ob β):Ob β:=ifb (decide (A<E)) (idx D A fun H=>chk ((XK (XM 35 H))=35∧0+35≤35) (lt (yd (We 32 (Qa (0:Int))++[(Qc (0:Int)),(Qc (0:Int)),(V.gs 1 ([]:Ls))]) 0 (XM 35 H)) fun I=>cLd 1 I 34 fun J=>zu β L J (40:Int) (600:Int) (fun M=>ifb (!M) (C false) (lt (QG .i64 ((A:Int)+(1:Int))) fun N=>z D E N G)))) (F G)
theorem zEg(L:Nat)(z:Ls)(A C:Int)(D:List V)(X:St→Ob β)(K:KT β):xd zaK (zaM zu L) 0 L zpp (zhS z A C D) (zI zqU X K)=zrl zu L z A C D (fun E=>K .ret (zf7 E)) (fun z A C D=>X (zhS z A C D)) (fun D=>K (.exit 0) (zns D)):=by kernel_rfl
def zml(L:Nat)(A:Bool)(z:Bool→Ob β):Ob β:=z A
theorem zAd(L:Nat)(z:Bool)(k:KK β):(zi 0 (yr (xd zaK (zaM zu L) 0 L zpd) (zy 0 (CF.res cf_keep_Tx) k))) .ret (zf7 z)=zml L z (fun A=>k (V.sc (.bool A)) []):=by kernel_rfl
def zn5(L:Nat)(C:List V)(z:Ls→Int→Int→Ob β):Ob β:=cLd 2 C 2 fun A=>z A ((XK A:Nat):Int) (0:Int)
theorem zBm(L:Nat)(z:List V)(k:KK β):(zi 0 (yr (xd zaK (zaM zu L) 0 L zpd) (zy 0 (CF.res cf_keep_Tx) k))) (.exit 0) (zns z)=zn5 L z (fun A C D=>yt (xd zaK (zaM zu L) 0 L znP) zpN L (zgW A C D) (zi 2 (yr (xd zaK (zaM zu L) 0 L zsO) (zy 0 (CF.res cf_keep_Tx) k)))):=by kernel_rfl
def zqg(L:Nat)(D:Ls)(E A:Int)(C:Bool→Ob β)(z:Ls→Int→Int→Ob β)(F:Ob β):Ob β:=ifb (decide (A<E)) (idx D A fun G=>chk ((XK (XM 2 G))=2∧0+2≤2) (lt (yd [(Qe (0:Int)),(V.gs 1 ([]:Ls))] 0 (XM 2 G)) fun H=>cLd 1 H 1 fun I=>ifb (decide (((XK I:Nat):Int)>(600:Int))) (C false) (lt (QG .i64 ((A:Int)+(1:Int))) fun J=>z D E J))) (F)
theorem zCb(L:Nat)(z:Ls)(A C:Int)(X:St→Ob β)(K:KT β):xd zaK (zaM zu L) 0 L znP (zgW z A C) (zI zpN X K)=zqg L z A C (fun D=>K .ret (zf7 D)) (fun z A C=>X (zgW z A C)) (K (.exit 2) (zs2)):=by kernel_rfl
def zk5(L:Nat)(A:Bool)(z:Bool→Ob β):Ob β:=z A
theorem zyP(L:Nat)(z:Bool)(k:KK β):(zi 2 (yr (xd zaK (zaM zu L) 0 L zsO) (zy 0 (CF.res cf_keep_Tx) k))) .ret (zf7 z)=zk5 L z (fun A=>k (V.sc (.bool A)) []):=by kernel_rfl
def zmu(L:Nat)(z:Bool→Ob β):Ob β:=z true
theorem zzw(L:Nat)(k:KK β):(zi 2 (yr (xd zaK (zaM zu L) 0 L zsO) (zy 0 (CF.res cf_keep_Tx) k))) (.exit 2) (zs2)=zmu L (fun z=>k (V.sc (.bool z)) []):=by kernel_rfl
def zis(L:Nat)(z:Bool→Ob β)(A:List V→Ob β):Nat→Ls→Int→Int→List V→Ob β
 | 0,_,_,_,_=>none
 | n+1,C,D,E,F=>zrl zu L C D E F z (fun C D E F=>zis L z A n C D E F) A
theorem zth(L:Nat)(K:KT β):∀ (n:Nat) (A:Ls) (C D:Int) (z:List V),yt (xd zaK (zaM zu L) 0 L zpp) zqU n (zhS A C D z) K=zis zu L (fun E=>K .ret (zf7 E)) (fun z=>K (.exit 0) (zns z)) n A C D z:=by
 intro n; induction n <;> intros
 ·rfl
 ·exact (zEg ..).trans (by simp only [*]; rfl)
def zgX(L:Nat)(z:Bool→Ob β)(A:Ob β):Nat→Ls→Int→Int→Ob β
 | 0,_,_,_=>none
 | n+1,C,D,E=>zqg L C D E z (fun C D E=>zgX L z A n C D E) A
theorem zsb(L:Nat)(K:KT β):∀ (n:Nat) (z:Ls) (A C:Int),yt (xd zaK (zaM zu L) 0 L znP) zpN n (zgW z A C) K=zgX L (fun D=>K .ret (zf7 D)) (K (.exit 2) (zs2)) n z A C:=by
 intro n; induction n <;> intros
 ·rfl
 ·exact (zCb ..).trans (by simp only [*]; rfl)
def zhU(L:Nat)(E:List V)(z:Bool→Ob β):Ob β:=zn5 L E (fun A C D=>zgX L (fun F=>zk5 L F z) (zmu L z) L A C D)
theorem zzO(L:Nat)(z:List V)(k:KK β):(zi 0 (yr (xd zaK (zaM zu L) 0 L zpd) (zy 0 (CF.res cf_keep_Tx) k))) (.exit 0) (zns z)=zhU L z (fun A=>k (V.sc (.bool A)) []):=by
 refine (zBm ..).trans ?_
 unfold zhU
 first
  | (simp only [zsb,zyP,zzw]; done)
  | (simp only [zsb]; rfl)
end
def zvQ{β:Type}(zu:zip)(L:Nat)(F:List V)(z:Bool→Ob β):Ob β:=zDI L F z (fun C D E A=>zis zu L (fun G=>zml L G z) (fun A=>zhU L A z) L C D E A)
theorem zM4{β:Type}(zu:zip)(L:Nat)(z:List V)(k:KK β):zj zaK (zaM zu L) L cf_keep_Tx [(V.agg z)] [] k=zvQ zu L z (fun z=>k (V.sc (.bool z)) []):=by
 refine (zMs zu L z k).trans ?_
 unfold zvQ
 first
  | (simp only [zth,zAd,zzO]; done)
  | (simp only [zth]; rfl)
abbrev zor:=∀ (β:Type),Nat→List V→(Bool→Ob β)→Ob β
def zO:zor:=fun β=>@zvQ β zu
def zCz(zO:zor)(L:Nat):Dk:=dA AG fun z=>d0 fun β k=>zO β L z (fun z=>k (V.sc (.bool z)) [])
theorem zOm(L:Nat):DK (zCz zO L) (fun _=>zj zaK (zaM zu L) L cf_keep_Tx):=xo zbR fun z=>zK fun _ k=>zM4 zu L z k
def zv2:Hint:=⟨[(0,0),(5,2)],[],[none,none,none,some ((bl 7168 20),(bl 917481 20)),none,some ((bl 0 20),(bl 917481 20)),none,none,some ((bl 4 20),(bl 917485 20)),none],[],[],false,false,[]⟩
def cf_keep_Block:CF:=cfD zv2 12
def zk4:CC:=yy [1,1,0,1,0,0] cf_keep_Block.body
def zo2:CC:=yy [1,1,1] cf_keep_Block.body
def zb7:Nat→Sh:=xC [(6,(.sl 4)),(10,(.sl 4))]
def zb8(zO:zor)(L:Nat):CBC:=(xp 127 (zCz zO L) noC)
def zmP:St→St:=zM 0 (bl 7168 20) (bl 917481 20)
def zfB(z:Ls)(A C:Int):St:=⟨(jn 10 ((V.sl 4 z)::((Qe A)::((Qe C)::(jn 7 []))))),(gn 20 [])⟩
def zmv(z:Bool):St:=⟨(jn 2 ((V.sc (.bool z))::(jn 17 []))),(gn 20 [])⟩
def zn6:St:=⟨(jn 20 []),(gn 20 [])⟩
section
variable {β:Type} (zO:zor)
def zuA(L:Nat)(C:List V)(A:Bool→Ob β)(z:Ls→Int→Int→Ob β):Ob β:=cLd 4 C 68 fun E=>ifb (decide (((XK E:Nat):Int)>(12:Int))) (A false) (cLd 4 C 68 fun D=>z D ((XK D:Nat):Int) (0:Int))
theorem zIW(L:Nat)(z:List V)(k:KK β):zj zb7 (zb8 zO L) L cf_keep_Block [(V.agg z)] [] k=zuA L z (fun z=>k (V.sc (.bool z)) []) (fun A C D=>yt (xd zb7 (zb8 zO L) 0 L zk4) zmP L (zfB A C D) (zi 0 (yr (xd zb7 (zb8 zO L) 0 L zo2) (zy 0 (CF.res cf_keep_Block) k)))):=by kernel_rfl
def zmd(L:Nat)(D:Ls)(E A:Int)(C:Bool→Ob β)(z:Ls→Int→Int→Ob β)(F:Ob β):Ob β:=ifb (decide (A<E)) (idx D A fun G=>chk ((XK (XM 4 G))=4∧0+4≤4) (lt (yd [(Qc (0:Int)),(V.gs 35 ([]:Ls)),(V.gs 2 ([]:Ls)),(Qc (0:Int))] 0 (XM 4 G)) fun H=>chk (0+4≤(XK H)) (zO β L (Xv V.dem (XM 4 H)) (fun I=>ifb (!I) (C false) (lt (QG .i64 ((A:Int)+(1:Int))) fun J=>z D E J))))) (F)
theorem zzK(L:Nat)(z:Ls)(A C:Int)(X:St→Ob β)(K:KT β):xd zb7 (zb8 zO L) 0 L zk4 (zfB z A C) (zI zmP X K)=zmd zO L z A C (fun D=>K .ret (zmv D)) (fun z A C=>X (zfB z A C)) (K (.exit 0) (zn6)):=by kernel_rfl
def ziG(L:Nat)(A:Bool)(z:Bool→Ob β):Ob β:=z A
theorem zvC(L:Nat)(z:Bool)(k:KK β):(zi 0 (yr (xd zb7 (zb8 zO L) 0 L zo2) (zy 0 (CF.res cf_keep_Block) k))) .ret (zmv z)=ziG L z (fun A=>k (V.sc (.bool A)) []):=by kernel_rfl
def zjG(L:Nat)(z:Bool→Ob β):Ob β:=z true
theorem zxf(L:Nat)(k:KK β):(zi 0 (yr (xd zb7 (zb8 zO L) 0 L zo2) (zy 0 (CF.res cf_keep_Block) k))) (.exit 0) (zn6)=zjG L (fun z=>k (V.sc (.bool z)) []):=by kernel_rfl
def zfp(L:Nat)(z:Bool→Ob β)(A:Ob β):Nat→Ls→Int→Int→Ob β
 | 0,_,_,_=>none
 | n+1,C,D,E=>zmd zO L C D E z (fun C D E=>zfp L z A n C D E) A
theorem zpA(L:Nat)(K:KT β):∀ (n:Nat) (z:Ls) (A C:Int),yt (xd zb7 (zb8 zO L) 0 L zk4) zmP n (zfB z A C) K=zfp zO L (fun D=>K .ret (zmv D)) (K (.exit 0) (zn6)) n z A C:=by
 intro n; induction n <;> intros
 ·rfl
 ·exact (zzK ..).trans (by simp only [*]; rfl)
end
def zp2{β:Type}(zO:zor)(L:Nat)(E:List V)(z:Bool→Ob β):Ob β:=zuA L E z (fun A C D=>zfp zO L (fun F=>ziG L F z) (zjG L z) L A C D)
theorem zG2{β:Type}(zO:zor)(L:Nat)(z:List V)(k:KK β):zj zb7 (zb8 zO L) L cf_keep_Block [(V.agg z)] [] k=zp2 zO L z (fun z=>k (V.sc (.bool z)) []):=by
 refine (zIW zO L z k).trans ?_
 unfold zp2
 first
  | (simp only [zpA,zvC,zxf]; done)
  | (simp only [zpA]; rfl)
abbrev zkQ:=∀ (β:Type),Nat→List V→(Bool→Ob β)→Ob β
def zaa:zkQ:=fun β=>@zp2 β zO
def zu1(zaa:zkQ)(L:Nat):Dk:=dA AG fun z=>d0 fun β k=>zaa β L z (fun z=>k (V.sc (.bool z)) [])
theorem zII(L:Nat):DK (zu1 zaa L) (fun _=>zj zb7 (zb8 zO L) L cf_keep_Block):=xo zbR fun z=>zK fun _ k=>zG2 zO L z k
def ztp:Hint:=⟨[(0,0),(1,2),(7,0),(7,1)],[(1,1)],[none,some ((bl 1569 23),(bl 8388543 23)),none,some ((bl 32 23),(bl 8388543 23)),none,none],[],[],false,false,[]⟩
def cf_codec_lowest:CF:=cfD ztp 103
def ziR:CC:=yy [1,1,0,1,0,0] cf_codec_lowest.body
def ztv:CC:=yy [1,1,1] cf_codec_lowest.body
def zbN:Nat→Sh:=xC []
def zbP(L:Nat):CBC:=noC
def zjy:St→St:=zM 0 (bl 1569 23) (bl 8388543 23)
def zey(C:Int)(z:Nat)(D A:Int)(E:List V):St:=⟨((Qd C)::(jn 4 ((V.own 8 0 z 1)::(jn 3 ((Qe D)::((Qe A)::(jn 12 []))))))),(gn 8 ((.live true E)::(gn 14 [])))⟩
def zlx(z:Nat)(A:List V):St:=⟨(jn 5 ((V.own 8 0 z 1)::(jn 17 []))),(gn 8 ((.live true A)::(gn 14 [])))⟩
section
variable {β:Type}
def zyC(L:Nat)(C z:Int)(A:Int→Nat→Int→Int→List V→Ob β):Ob β:=chk (0≤z∧z≤z∧(XL z)*1≤xf∧z≤xf) (A C (XL z) z (0:Int) (List.flatten (We (XL z) [(Qa (0:Int))])))
theorem zE6(L:Nat)(z A:Int)(k:KK β):zj zbN (zbP L) L cf_codec_lowest [(Qd z),(Qe A)] [] k=zyC L z A (fun z C E D F=>yt (xd zbN (zbP L) 0 L ziR) zjy L (zey z C E D F) (zi 0 (yr (xd zbN (zbP L) 0 L ztv) (zy 0 (CF.res cf_codec_lowest) k)))):=by kernel_rfl
def zqy(L:Nat)(F:Int)(C:Nat)(G z:Int)(D:List V)(A:Int→Nat→Int→Int→List V→Ob β)(E:Nat→List V→Ob β):Ob β:=ifb (decide (z<G)) (lt (QG .i64 (((8:Int):Int)*z)) fun H=>chk (0≤H) (lt (zb1 .u64 F H) fun I=>lt (QG .u8 I) fun J=>chk (0≤z∧z<((C:Nat):Int)) (chk (1=1∧(0+((XL z)*1))+1≤(XK D)) (lt (yd D (0+((XL z)*1)) [(Qa J)]) fun M=>lt (QG .i64 ((z:Int)+(1:Int))) fun N=>A F C G N M)))) (E C D)
theorem zxi(L:Nat)(D:Int)(z:Nat)(E A:Int)(C:List V)(X:St→Ob β)(K:KT β):xd zbN (zbP L) 0 L ziR (zey D z E A C) (zI zjy X K)=zqy L D z E A C (fun D z E A C=>X (zey D z E A C)) (fun z C=>K (.exit 0) (zlx z C)):=by kernel_rfl
def zoh(L:Nat)(A:Nat)(C:List V)(z:Ls→Ob β):Ob β:=chk (A≠0∨(XK C)=0) (z (zf 1 A C))
theorem zuV(L:Nat)(z:Nat)(A:List V)(k:KK β):(zi 0 (yr (xd zbN (zbP L) 0 L ztv) (zy 0 (CF.res cf_codec_lowest) k))) (.exit 0) (zlx z A)=zoh L z A (fun C=>k (V.fr 1 C) []):=by kernel_rfl
def zjY(L:Nat)(z:Nat→List V→Ob β):Nat→Int→Nat→Int→Int→List V→Ob β
 | 0,_,_,_,_,_=>none
 | n+1,D,A,E,C,F=>zqy L D A E C F (fun D A E C F=>zjY L z n D A E C F) z
theorem zmU(L:Nat)(K:KT β):∀ (n:Nat) (D:Int) (z:Nat) (E C:Int) (A:List V),yt (xd zbN (zbP L) 0 L ziR) zjy n (zey D z E C A) K=zjY L (fun z A=>K (.exit 0) (zlx z A)) n D z E C A:=by
 intro n; induction n <;> intros
 ·rfl
 ·exact (zxi ..).trans (by simp only [*]; rfl)
end
def zqV{β:Type}(L:Nat)(C F:Int)(A:Ls→Ob β):Ob β:=zyC L C F (fun C z G E D=>zjY L (fun z D=>zoh L z D A) L C z G E D)
theorem zEv{β:Type}(L:Nat)(z A:Int)(k:KK β):zj zbN (zbP L) L cf_codec_lowest [(Qd z),(Qe A)] [] k=zqV L z A (fun z=>k (V.fr 1 z) []):=by
 refine (zE6 L z A k).trans ?_
 unfold zqV
 first
  | (simp only [zmU,zuV]; done)
  | (simp only [zmU]; rfl)
abbrev zbe:=∀ (β:Type),Nat→Int→Int→(Ls→Ob β)→Ob β
def yl:zbe:=fun β=>@zqV β
def zh3(yl:zbe)(L:Nat):Dk:=dA (AI .u64) fun z=>dA (AI .i64) fun A=>d0 fun β k=>yl β L z A (fun z=>k (V.fr 1 z) [])
theorem zEA(L:Nat):DK (zh3 yl L) (fun _=>zj zbN (zbP L) L cf_codec_lowest):=xo z8 fun z=>xo z8 fun A=>zK fun _ k=>zEv L z A k
def zpB:Hint:=⟨[(0,0),(1,5)],[],[none],[],[],false,false,[]⟩
def zrM:CF:=cfD zpB 61
def zkU:Nat→Sh:=xC []
def zk7(yl:zbe)(yb:yF)(L:Nat):CBC:=(xp 191 (zco yb L) (xp 192 (zh3 yl L) noC))
def zmM{β:Type}(yl:zbe)(yb:yF)(L:Nat)(A:Ls)(C:Int)(z:Ls→Ob β):Ob β:=lt (QG .u64 C) fun D=>yl β L D (4:Int) (fun E=>yb β L A E (fun F=>z F))
theorem zzZ{β:Type}(yl:zbe)(yb:yF)(L:Nat)(z:Ls)(A:Int)(k:KK β):zj zkU (zk7 yl yb L) L zrM [(V.sl 1 z),(Qc A)] [] k=zmM yl yb L z A (fun z=>k (V.gs 1 z) []):=by kernel_rfl
abbrev yQ:=∀ (β:Type),Nat→Ls→Int→(Ls→Ob β)→Ob β
def ya:yQ:=fun β=>@zmM β yl yb
def zdM(ya:yQ)(L:Nat):Dk:=dA (AL 1) fun z=>dA (AI .u32) fun A=>d0 fun β k=>ya β L z A (fun z=>k (V.gs 1 z) [])
theorem zzS(L:Nat):DK (zdM ya L) (fun _=>zj zkU (zk7 yl yb L) L zrM):=xo zaV fun z=>xo z8 fun A=>zK fun _ k=>zzZ yl yb L z A k
def zop:Hint:=⟨[(0,1),(1,3)],[],[none],[],[],false,false,[]⟩
def zql:CF:=cfD zop 62
def zjX:Nat→Sh:=xC []
def zj0(yb:yF)(L:Nat):CBC:=(xp 191 (zco yb L) noC)
def zhj{β:Type}(yb:yF)(L:Nat)(C:Ls)(A:List V)(z:Ls→Ob β):Ob β:=chk (0+32*1≤(XK A)) (ifb (List.isEmpty A) (yb β L C (zf 1 32 A) (fun D=>z D)) (yb β L C (zf 1 32 A) (fun E=>z E)))
theorem zyG{β:Type}(yb:yF)(L:Nat)(z:Ls)(A:List V)(k:KK β):zj zjX (zj0 yb L) L zql [(V.sl 1 z),(V.agg A)] [] k=zhj yb L z A (fun z=>k (V.gs 1 z) []):=by kernel_rfl
abbrev zbl:=∀ (β:Type),Nat→Ls→List V→(Ls→Ob β)→Ob β
def yo:zbl:=fun β=>@zhj β yb
def zhf(yo:zbl)(L:Nat):Dk:=dA (AL 1) fun z=>dA AG fun A=>d0 fun β k=>yo β L z A (fun z=>k (V.gs 1 z) [])
theorem zyx(L:Nat):DK (zhf yo L) (fun _=>zj zjX (zj0 yb L) L zql):=xo zaV fun z=>xo zbR fun A=>zK fun _ k=>zyG yb L z A k
def zl2:Hint:=⟨[(0,1),(6,4)],[],[none],[],[],false,false,[]⟩
def zoo:CF:=cfD zl2 28
def zhX:Nat→Sh:=xC [(5,(.int .u32)),(17,(.int .u32)),(21,(.int .u32)),(25,(.int .u32))]
def zh6(ya:yQ)(yo:zbl)(L:Nat):CBC:=(xp 158 (zhf yo L) (xp 157 (zdM ya L) noC))
def zje{β:Type}(ya:yQ)(yo:zbl)(L:Nat)(z:List V)(A:Ls→Ob β):Ob β:=cI .u32 z 0 fun C=>ya β L ([]:Ls) C (fun D=>chk (1+32≤(XK z)) (yo β L D (XM 32 (List.drop 1 z)) (fun E=>chk (33+32≤(XK z)) (yo β L E (XM 32 (List.drop 33 z)) (fun F=>cI .u32 z 65 fun G=>ya β L F G (fun H=>cI .u32 z 66 fun I=>ya β L H I (fun J=>cI .u32 z 67 fun M=>ya β L J M (fun N=>A N))))))))
theorem zvD{β:Type}(ya:yQ)(yo:zbl)(L:Nat)(z:List V)(k:KK β):zj zhX (zh6 ya yo L) L zoo [(V.agg z)] [] k=zje ya yo L z (fun z=>k (V.gs 1 z) []):=by kernel_rfl
abbrev zci:=∀ (β:Type),Nat→List V→(Ls→Ob β)→Ob β
def xm:zci:=fun β=>@zje β ya yo
def ziB(xm:zci)(L:Nat):Dk:=dA AG fun z=>d0 fun β k=>xm β L z (fun z=>k (V.gs 1 z) [])
theorem zvw(L:Nat):DK (ziB xm L) (fun _=>zj zhX (zh6 ya yo L) L zoo):=xo zbR fun z=>zK fun _ k=>zvD ya yo L z k
def zpr:Hint:=⟨[(0,0),(1,5)],[],[none],[],[],false,false,[]⟩
def zsn:CF:=cfD zpr 75
def zls:Nat→Sh:=xC []
def zky(yl:zbe)(yb:yF)(L:Nat):CBC:=(xp 191 (zco yb L) (xp 192 (zh3 yl L) noC))
def zmL{β:Type}(yl:zbe)(yb:yF)(L:Nat)(A:Ls)(C:Int)(z:Ls→Ob β):Ob β:=lt (QG .u64 C) fun D=>yl β L D (2:Int) (fun E=>yb β L A E (fun F=>z F))
theorem zAg{β:Type}(yl:zbe)(yb:yF)(L:Nat)(z:Ls)(A:Int)(k:KK β):zj zls (zky yl yb L) L zsn [(V.sl 1 z),(Qb A)] [] k=zmL yl yb L z A (fun z=>k (V.gs 1 z) []):=by kernel_rfl
abbrev zfr:=∀ (β:Type),Nat→Ls→Int→(Ls→Ob β)→Ob β
def zL:zfr:=fun β=>@zmL β yl yb
def zmA(zL:zfr)(L:Nat):Dk:=dA (AL 1) fun z=>dA (AI .u16) fun A=>d0 fun β k=>zL β L z A (fun z=>k (V.gs 1 z) [])
theorem zzR(L:Nat):DK (zmA zL L) (fun _=>zj zls (zky yl yb L) L zsn):=xo zaV fun z=>xo z8 fun A=>zK fun _ k=>zAg yl yb L z A k
def zp6:Hint:=⟨[(0,0),(1,4)],[],[none],[],[],false,false,[]⟩
def zsd:CF:=cfD zp6 76
def zlj:Nat→Sh:=xC []
def zkR(yl:zbe)(yb:yF)(L:Nat):CBC:=(xp 191 (zco yb L) (xp 192 (zh3 yl L) noC))
def zmb{β:Type}(yl:zbe)(yb:yF)(L:Nat)(A:Ls)(C:Int)(z:Ls→Ob β):Ob β:=yl β L C (8:Int) (fun D=>yb β L A D (fun E=>z E))
theorem zzv{β:Type}(yl:zbe)(yb:yF)(L:Nat)(z:Ls)(A:Int)(k:KK β):zj zlj (zkR yl yb L) L zsd [(V.sl 1 z),(Qd A)] [] k=zmb yl yb L z A (fun z=>k (V.gs 1 z) []):=by kernel_rfl
abbrev za4:=∀ (β:Type),Nat→Ls→Int→(Ls→Ob β)→Ob β
def ye:za4:=fun β=>@zmb β yl yb
def zhO(ye:za4)(L:Nat):Dk:=dA (AL 1) fun z=>dA (AI .u64) fun A=>d0 fun β k=>ye β L z A (fun z=>k (V.gs 1 z) [])
theorem zAs(L:Nat):DK (zhO ye L) (fun _=>zj zlj (zkR yl yb L) L zsd):=xo zaV fun z=>xo z8 fun A=>zK fun _ k=>zzv yl yb L z A k
def zox:Hint:=⟨[(0,0),(2,5),(4,6),(6,6),(7,5)],[],[none,none,none,none,none,none,none,none],[],[],false,false,[]⟩
def zqo:CF:=cfD zox 36
def zjO:Nat→Sh:=xC []
def zjA(yb:yF)(zL:zfr)(ya:yQ)(ye:za4)(L:Nat):CBC:=(xp 183 (zhO ye L) (xp 157 (zdM ya L) (xp 205 (zmA zL L) (xp 191 (zco yb L) noC))))
def zlg{β:Type}(yb:yF)(zL:zfr)(ya:yQ)(ye:za4)(L:Nat)(C:Ls)(A:Int)(z:Ls→Ob β):Ob β:=ifb (decide (A<(253:Int))) (lt (QG .u8 A) fun D=>yb β L C (zf 1 1 [(Qa D)]) (fun E=>z E)) (ifb (decide (A<(65536:Int))) (yb β L C (zf 1 1 [(Qa (253:Int))]) (fun F=>lt (QG .u16 A) fun G=>zL β L F G (fun H=>z H))) (ifb (decide (A<(4294967296:Int))) (yb β L C (zf 1 1 [(Qa (254:Int))]) (fun I=>lt (QG .u32 A) fun J=>ya β L I J (fun M=>z M))) (yb β L C (zf 1 1 [(Qa (255:Int))]) (fun N=>ye β L N A (fun O=>z O)))))
theorem zyg{β:Type}(yb:yF)(zL:zfr)(ya:yQ)(ye:za4)(L:Nat)(z:Ls)(A:Int)(k:KK β):zj zjO (zjA yb zL ya ye L) L zqo [(V.sl 1 z),(Qd A)] [] k=zlg yb zL ya ye L z A (fun z=>k (V.gs 1 z) []):=by kernel_rfl
abbrev zU:=∀ (β:Type),Nat→Ls→Int→(Ls→Ob β)→Ob β
def za:zU:=fun β=>@zlg β yb zL ya ye
def zeV(za:zU)(L:Nat):Dk:=dA (AL 1) fun z=>dA (AI .u64) fun A=>d0 fun β k=>za β L z A (fun z=>k (V.gs 1 z) [])
theorem zyM(L:Nat):DK (zeV za L) (fun _=>zj zjO (zjA yb zL ya ye L) L zqo):=xo zaV fun z=>xo z8 fun A=>zK fun _ k=>zyg yb zL ya ye L z A k
def zAx:Hint:=⟨[(0,1),(1,6)],[],[none],[],[],false,false,[]⟩
def zFu:CF:=cfD zAx 126
def zwT:Nat→Sh:=xC [(7,(.int .u32))]
def zwr(yo:zbl)(ya:yQ)(L:Nat):CBC:=(xp 157 (zdM ya L) (xp 158 (zhf yo L) noC))
def zAk{β:Type}(yo:zbl)(ya:yQ)(L:Nat)(A:List V)(z:Ls→Ob β):Ob β:=chk (0+32≤(XK A)) (yo β L ([]:Ls) (XM 32 A) (fun C=>cI .u32 A 32 fun D=>ya β L C D (fun E=>z E)))
theorem zMb{β:Type}(yo:zbl)(ya:yQ)(L:Nat)(z:List V)(k:KK β):zj zwT (zwr yo ya L) L zFu [(V.agg z)] [] k=zAk yo ya L z (fun z=>k (V.gs 1 z) []):=by kernel_rfl
abbrev zlS:=∀ (β:Type),Nat→List V→(Ls→Ob β)→Ob β
def zr:zlS:=fun β=>@zAk β yo ya
def zzb(zr:zlS)(L:Nat):Dk:=dA AG fun z=>d0 fun β k=>zr β L z (fun z=>k (V.gs 1 z) [])
theorem zLS(L:Nat):DK (zzb zr L) (fun _=>zj zwT (zwr yo ya L) L zFu):=xo zbR fun z=>zK fun _ k=>zMb yo ya L z k
def znn:Hint:=⟨[(0,0),(1,7)],[],[none],[],[],false,false,[]⟩
def zoG:CF:=cfD znn 127
def zi6:Nat→Sh:=xC []
def ziM(za:zU)(yb:yF)(L:Nat):CBC:=(xp 191 (zco yb L) (xp 182 (zeV za L) noC))
def zjL{β:Type}(za:zU)(yb:yF)(L:Nat)(C A:Ls)(z:Ls→Ob β):Ob β:=lt (QG .u64 ((XK A:Nat):Int)) fun D=>za β L C D (fun E=>yb β L E A (fun F=>z F))
theorem zwW{β:Type}(za:zU)(yb:yF)(L:Nat)(z A:Ls)(k:KK β):zj zi6 (ziM za yb L) L zoG [(V.sl 1 z),(V.sl 1 A)] [] k=zjL za yb L z A (fun z=>k (V.gs 1 z) []):=by kernel_rfl
abbrev zcB:=∀ (β:Type),Nat→Ls→Ls→(Ls→Ob β)→Ob β
def yc:zcB:=fun β=>@zjL β za yb
def zjB(yc:zcB)(L:Nat):Dk:=dA (AL 1) fun z=>dA (AL 1) fun A=>d0 fun β k=>yc β L z A (fun z=>k (V.gs 1 z) [])
theorem zwE(L:Nat):DK (zjB yc L) (fun _=>zj zi6 (ziM za yb L) L zoG):=xo zaV fun z=>xo zaV fun A=>zK fun _ k=>zwW za yb L z A k
def zxD:Hint:=⟨[(0,0),(0,1),(1,3),(2,0),(2,7),(5,2),(6,0),(6,5),(7,0),(7,5),(9,0),(9,7),(12,2),(13,0),(13,6),(14,0),(14,5),(16,0),(16,5),(18,0),(18,1),(21,2),(22,0),(22,7),(26,0),(26,4),(29,0),(29,1)],[],[none,some ((bl 234881062 104),(bl 20282409603651670422246444234111 104)),none,some ((bl 38 104),(bl 20282409603651670422246444234111 104)),none,none,some ((bl 7881299347898406 104),(bl 20282409603537531194991173432703 104)),none,some ((bl 38 104),(bl 20282409603537531194991173432703 104)),none,none,none,none,some ((bl 1057810092162800527867936 104),(bl 18374976116870265429129244431739 104)),none,some ((bl 32 104),(bl 18374976116870265429129244431739 104)),none,none,some ((bl 17332218360087486649115607072 104),(bl 18380933703309326321702196467067 104)),none,some ((bl 1057810092162800527867936 104),(bl 18380933703309326321702196467067 104)),none,none],[],[],false,false,[]⟩
def cf_tx_encode:CF:=cfD zxD 78
def zcT:CC:=yy [1,1,1,1,1,1,1,1,0,1,0,0,1,1,0,0,1,1,1,0,0] cf_tx_encode.body
def zjg:CC:=yy [1,1,1,1,1,1,1,1,0,1,0,0,1,1,1] cf_tx_encode.body
def zd0:CC:=yy [1,1,1,1,1,1,1,1,0,1,0,0] cf_tx_encode.body
def zjc:CC:=yy [1,1,1,1,1,0,1,0,0] cf_tx_encode.body
def zpj:CC:=yy [1,1,1,1,1,1,1,1,1] cf_tx_encode.body
def zk1:CC:=yy [1,1,1,0,1,0,0] cf_tx_encode.body
def zmC:CC:=yy [1,1,1,1,1,1] cf_tx_encode.body
def zpQ:CC:=yy [1,1,1,1] cf_tx_encode.body
def yG:Nat→Sh:=xC [(15,(.int .u32)),(19,(.sl 35)),(25,(.sl 35)),(38,(.int .u32)),(44,(.sl 2)),(50,(.sl 2)),(58,(.int .i64)),(64,(.sl 1)),(70,(.int .u32)),(77,(.sl 35)),(85,(.sl 1)),(91,(.sl 1)),(96,(.sl 1))]
def zG(ya:yQ)(za:zU)(zr:zlS)(ye:za4)(yc:zcB)(L:Nat):CBC:=(xp 184 (zjB yc L) (xp 183 (zhO ye L) (xp 137 (zzb zr L) (xp 182 (zeV za L) (xp 157 (zdM ya L) noC)))))
def zmw:St→St:=zM 0 (bl 234881062 104) (bl 20282409603651670422246444234111 104)
def zjF:St→St:=zM 0 (bl 7881299347898406 104) (bl 20282409603537531194991173432703 104)
def zbx:St→St:=zM 0 (bl 1057810092162800527867936 104) (bl 18374976116870265429129244431739 104)
def zdg:St→St:=zM 0 (bl 17332218360087486649115607072 104) (bl 18380933703309326321702196467067 104)
def zfD(D:Bool)(E z:Ls)(A C:Int)(F:List V):St:=⟨(jn 1 ((V.sc (.bool D))::((V.ptr 2 0)::(jn 2 ((V.gs 1 E)::(jn 19 ((V.sl 35 z)::((Qe A)::((Qe C)::(jn 76 [])))))))))),(gn 2 ((.live true F)::(gn 101 [])))⟩
def zki(z:Bool)(A:Ls)(C:List V):St:=⟨(jn 1 ((V.sc (.bool z))::((V.ptr 2 0)::(jn 2 ((V.gs 1 A)::(jn 98 [])))))),(gn 2 ((.live true C)::(gn 101 [])))⟩
def zeC(D:Bool)(E z:Ls)(A C:Int)(F:List V):St:=⟨(jn 1 ((V.sc (.bool D))::((V.ptr 2 0)::(jn 2 ((V.gs 1 E)::(jn 44 ((V.sl 2 z)::((Qe A)::((Qe C)::(jn 51 [])))))))))),(gn 2 ((.live true F)::(gn 101 [])))⟩
def zkh(z:Bool)(A:Ls)(C:List V):St:=⟨(jn 1 ((V.sc (.bool z))::((V.ptr 2 0)::(jn 2 ((V.gs 1 A)::(jn 98 [])))))),(gn 2 ((.live true C)::(gn 101 [])))⟩
def zaU(D z:Ls)(A C:Int):St:=⟨(jn 5 ((V.gs 1 D)::(jn 71 ((V.sl 35 z)::((Qe A)::((Qe C)::(jn 24 []))))))),(gn 104 [])⟩
def za3(G z:Ls)(A C:Int)(D:Ls)(E F:Int):St:=⟨(jn 5 ((V.gs 1 G)::(jn 71 ((V.sl 35 z)::((Qe A)::((Qe C)::(jn 11 ((V.sl 1 D)::((Qe E)::((Qe F)::(jn 10 []))))))))))),(gn 104 [])⟩
def zka(z:Ls):St:=⟨(jn 5 ((V.gs 1 z)::(jn 98 []))),(gn 104 [])⟩
def zpX(D z:Ls)(A C:Int):St:=⟨(jn 5 ((V.gs 1 D)::(jn 71 ((V.sl 35 z)::((Qe A)::((Qe C)::(jn 24 []))))))),(gn 104 [])⟩
abbrev zrP(β:Type):Type:=Bool→Ls→Ls→Int→Int→List V→Ob β
abbrev zpG(β:Type):Type:=Bool→Ls→Ls→Int→Int→List V→Ob β
abbrev zgh(β:Type):Type:=Ls→Ls→Int→Int→Ls→Int→Int→Ob β
section
variable {β:Type} (ya:yQ) (za:zU) (zr:zlS) (ye:za4) (yc:zcB)
def zw7(L:Nat)(A:List V)(F:Bool)(z:zrP β):Ob β:=cI .u32 A 0 fun G=>ya β L ([]:Ls) G (fun C=>cLd 35 A 1 fun H=>lt (QG .u64 ((XK H:Nat):Int)) fun I=>za β L ([]:Ls) I (fun D=>chk ((XK C+XK D)*1≤xf∧XK C+XK D≤xf) (lt (C++D) fun J=>cLd 35 A 1 fun E=>z F J E ((XK E:Nat):Int) (0:Int) A)))
theorem zJj(L:Nat)(A:List V)(z:Bool)(k:KK β):zj yG (zG ya za zr ye yc L) L cf_tx_encode [(V.agg A),(V.sc (.bool z))] [] k=zw7 ya za L A z (fun z F C D E G=>yt (xd yG (zG ya za zr ye yc L) 0 L zk1) zmw L (zfD z F C D E G) (zi 0 (yr (xd yG (zG ya za zr ye yc L) 0 L zpQ) (zy 0 (CF.res cf_tx_encode) k)))):=by kernel_rfl
def zmg(L:Nat)(M:Bool)(E F:Ls)(G A:Int)(N:List V)(z:zrP β)(H:Bool→Ls→List V→Ob β):Ob β:=ifb (decide (A<G)) (idx F A fun O=>chk ((XK (XM 35 O))=35∧0+35≤35) (lt (yd (We 32 (Qa (0:Int))++[(Qc (0:Int)),(Qc (0:Int)),(V.gs 1 ([]:Ls))]) 0 (XM 35 O)) fun I=>chk (0+33≤(XK I)) (zr β L (XM 33 I) (fun J=>chk ((XK E+XK J)*1≤xf∧XK E+XK J≤xf) (lt (E++J) fun C=>cI .u32 I 33 fun P=>ya β L ([]:Ls) P (fun D=>chk ((XK C+XK D)*1≤xf∧XK C+XK D≤xf) (lt (C++D) fun Q=>lt (QG .i64 ((A:Int)+(1:Int))) fun R=>z M Q F G R N))))))) (H M E N)
theorem zzf(L:Nat)(D:Bool)(E z:Ls)(A C:Int)(F:List V)(X:St→Ob β)(K:KT β):xd yG (zG ya za zr ye yc L) 0 L zk1 (zfD D E z A C F) (zI zmw X K)=zmg ya zr L D E z A C F (fun D E z A C F=>X (zfD D E z A C F)) (fun D E F=>K (.exit 0) (zki D E F)):=by kernel_rfl
def zjH(L:Nat)(I:Bool)(D:Ls)(E:List V)(z:zpG β):Ob β:=cLd 2 E 2 fun F=>lt (QG .u64 ((XK F:Nat):Int)) fun G=>za β L ([]:Ls) G (fun A=>chk ((XK D+XK A)*1≤xf∧XK D+XK A≤xf) (lt (D++A) fun H=>cLd 2 E 2 fun C=>z I H C ((XK C:Nat):Int) (0:Int) E))
theorem zwI(L:Nat)(z:Bool)(A:Ls)(C:List V)(k:KK β):(zi 0 (yr (xd yG (zG ya za zr ye yc L) 0 L zpQ) (zy 0 (CF.res cf_tx_encode) k))) (.exit 0) (zki z A C)=zjH za L z A C (fun z A D E F C=>yt (xd yG (zG ya za zr ye yc L) 0 L zjc) zjF L (zeC z A D E F C) (zi 2 (yr (xd yG (zG ya za zr ye yc L) 0 L zmC) (zy 0 (CF.res cf_tx_encode) k)))):=by kernel_rfl
def zj1(L:Nat)(N:Bool)(F G:Ls)(H A:Int)(O:List V)(z:zpG β)(M:Bool→Ls→List V→Ob β):Ob β:=ifb (decide (A<H)) (idx G A fun I=>chk ((XK (XM 2 I))=2∧0+2≤2) (lt (yd [(Qe (0:Int)),(V.gs 1 ([]:Ls))] 0 (XM 2 I)) fun J=>cI .i64 J 0 fun P=>lt (QG .u64 P) fun Q=>ye β L ([]:Ls) Q (fun C=>chk ((XK F+XK C)*1≤xf∧XK F+XK C≤xf) (lt (F++C) fun D=>cLd 1 J 1 fun R=>yc β L ([]:Ls) R (fun E=>chk ((XK D+XK E)*1≤xf∧XK D+XK E≤xf) (lt (D++E) fun S=>lt (QG .i64 ((A:Int)+(1:Int))) fun T=>z N S G H T O)))))) (M N F O)
theorem zww(L:Nat)(D:Bool)(E z:Ls)(A C:Int)(F:List V)(X:St→Ob β)(K:KT β):xd yG (zG ya za zr ye yc L) 0 L zjc (zeC D E z A C F) (zI zjF X K)=zj1 ye yc L D E z A C F (fun D E z A C F=>X (zeC D E z A C F)) (fun D E F=>K (.exit 2) (zkh D E F)):=by kernel_rfl
def zib(L:Nat)(I:Bool)(F:Ls)(G:List V)(C:Ls→Ob β)(z:Ls→Ls→Int→Int→Ob β):Ob β:=cI .u32 G 3 fun H=>ya β L ([]:Ls) H (fun A=>chk ((XK F+XK A)*1≤xf∧XK F+XK A≤xf) (lt (F++A) fun D=>ifb (!I) (C D) (cLd 35 G 1 fun E=>z D E ((XK E:Nat):Int) (0:Int))))
theorem zuD(L:Nat)(A:Bool)(z:Ls)(C:List V)(k:KK β):(zi 2 (yr (xd yG (zG ya za zr ye yc L) 0 L zmC) (zy 0 (CF.res cf_tx_encode) k))) (.exit 2) (zkh A z C)=zib ya L A z C (fun G=>k (V.gs 1 G) []) (fun z D E F=>yt (xd yG (zG ya za zr ye yc L) 0 L zd0) zbx L (zaU z D E F) (zi 4 (yr (xd yG (zG ya za zr ye yc L) 0 L zpj) (zy 0 (CF.res cf_tx_encode) k)))):=by kernel_rfl
def zhC(L:Nat)(D E:Ls)(F A:Int)(z:zgh β)(J:Ls→Ob β):Ob β:=ifb (decide (A<F)) (idx E A fun G=>chk ((XK (XM 35 G))=35∧0+35≤35) (lt (yd (We 32 (Qa (0:Int))++[(Qc (0:Int)),(Qc (0:Int)),(V.gs 1 ([]:Ls))]) 0 (XM 35 G)) fun H=>cLd 1 H 34 fun M=>lt (QG .u64 ((XK M:Nat):Int)) fun N=>za β L ([]:Ls) N (fun C=>chk ((XK D+XK C)*1≤xf∧XK D+XK C≤xf) (lt (D++C) fun O=>cLd 1 H 34 fun I=>z O E F A I ((XK I:Nat):Int) (0:Int))))) (J D)
theorem ztZ(L:Nat)(D z:Ls)(A C:Int)(X:St→Ob β)(K:KT β):xd yG (zG ya za zr ye yc L) 0 L zd0 (zaU D z A C) (zI zbx X K)=zhC za L D z A C (fun D z A C E F G=>yt (xd yG (zG ya za zr ye yc L) 0 L zcT) zdg L (za3 D z A C E F G) (zi 6 (zi 5 (yr (xd yG (zG ya za zr ye yc L) 0 L zjg) (zI zbx X K))))) (fun D=>K (.exit 4) (zka D)):=by kernel_rfl
def zf9(L:Nat)(A:Ls)(z:Ls→Ob β):Ob β:=z A
theorem zr0(L:Nat)(z:Ls)(k:KK β):(zi 4 (yr (xd yG (zG ya za zr ye yc L) 0 L zpj) (zy 0 (CF.res cf_tx_encode) k))) (.exit 4) (zka z)=zf9 L z (fun A=>k (V.gs 1 A) []):=by kernel_rfl
def zdf(L:Nat)(D E:Ls)(F G:Int)(H:Ls)(I A:Int)(z:zgh β)(J:Ls→Ls→Int→Int→Ob β):Ob β:=ifb (decide (A<I)) (idx H A fun M=>cL 1 M 0 fun N=>yc β L ([]:Ls) N (fun C=>chk ((XK D+XK C)*1≤xf∧XK D+XK C≤xf) (lt (D++C) fun O=>lt (QG .i64 ((A:Int)+(1:Int))) fun P=>z O E F G H I P))) (J D E F G)
theorem zmf(L:Nat)(G z:Ls)(A C:Int)(D:Ls)(E F:Int)(X:St→Ob β)(K:KT β):xd yG (zG ya za zr ye yc L) 0 L zcT (za3 G z A C D E F) (zI zdg X K)=zdf yc L G z A C D E F (fun G z A C D E F=>X (za3 G z A C D E F)) (fun G z A C=>K (.exit 6) (zpX G z A C)):=by kernel_rfl
def zcO(L:Nat)(F A:Ls)(C D:Int)(z:Ls→Ls→Int→Int→Ob β):Ob β:=lt (QG .i64 ((D:Int)+(1:Int))) fun E=>z F A C E
theorem zlz(L:Nat)(D z:Ls)(A C:Int)(X:St→Ob β)(K:KT β):(zi 6 (zi 5 (yr (xd yG (zG ya za zr ye yc L) 0 L zjg) (zI zbx X K)))) (.exit 6) (zpX D z A C)=zcO L D z A C (fun D z A C=>X (zaU D z A C)):=by kernel_rfl
def zfo(L:Nat)(z:Bool→Ls→List V→Ob β):Nat→Bool→Ls→Ls→Int→Int→List V→Ob β
 | 0,_,_,_,_,_,_=>none
 | n+1,E,F,A,C,D,G=>zmg ya zr L E F A C D G (fun E F A C D G=>zfo L z n E F A C D G) z
theorem zpE(L:Nat)(K:KT β):∀ (n:Nat) (z:Bool) (A D:Ls) (E F:Int) (C:List V),yt (xd yG (zG ya za zr ye yc L) 0 L zk1) zmw n (zfD z A D E F C) K=zfo ya zr L (fun z A C=>K (.exit 0) (zki z A C)) n z A D E F C:=by
 intro n; induction n <;> intros
 ·rfl
 ·exact (zzf ..).trans (by simp only [*]; rfl)
def zed(L:Nat)(z:Bool→Ls→List V→Ob β):Nat→Bool→Ls→Ls→Int→Int→List V→Ob β
 | 0,_,_,_,_,_,_=>none
 | n+1,E,F,A,C,D,G=>zj1 ye yc L E F A C D G (fun E F A C D G=>zed L z n E F A C D G) z
theorem zmW(L:Nat)(K:KT β):∀ (n:Nat) (z:Bool) (A D:Ls) (E F:Int) (C:List V),yt (xd yG (zG ya za zr ye yc L) 0 L zjc) zjF n (zeC z A D E F C) K=zed ye yc L (fun z A C=>K (.exit 2) (zkh z A C)) n z A D E F C:=by
 intro n; induction n <;> intros
 ·rfl
 ·exact (zww ..).trans (by simp only [*]; rfl)
def zaI(L:Nat)(z:Ls→Ls→Int→Int→Ob β):Nat→Ls→Ls→Int→Int→Ls→Int→Int→Ob β
 | 0,_,_,_,_,_,_,_=>none
 | n+1,H,A,C,D,E,F,G=>zdf yc L H A C D E F G (fun H A C D E F G=>zaI L z n H A C D E F G) z
theorem zfl(L:Nat)(K:KT β):∀ (n:Nat) (D z:Ls) (A C:Int) (E:Ls) (F G:Int),yt (xd yG (zG ya za zr ye yc L) 0 L zcT) zdg n (za3 D z A C E F G) K=zaI yc L (fun D z A C=>K (.exit 6) (zpX D z A C)) n D z A C E F G:=by
 intro n; induction n <;> intros
 ·rfl
 ·exact (zmf ..).trans (by simp only [*]; rfl)
def zd3(L:Nat)(E A:Ls)(C D:Int)(F:Ls→Ob β)(z:Ls→Ls→Int→Int→Ob β):Ob β:=zhC za L E A C D (fun E A C D G H I=>zaI yc L (fun E A C D=>zcO L E A C D z) L E A C D G H I) F
theorem zsw(L:Nat)(D z:Ls)(A C:Int)(X:St→Ob β)(K:KT β):xd yG (zG ya za zr ye yc L) 0 L zd0 (zaU D z A C) (zI zbx X K)=zd3 za yc L D z A C (fun D=>K (.exit 4) (zka D)) (fun D z A C=>X (zaU D z A C)):=by
 refine (ztZ ..).trans ?_
 unfold zd3
 first
  | (simp only [zfl,zlz]; done)
  | (simp only [zfl]; rfl)
def zcM(L:Nat)(z:Ls→Ob β):Nat→Ls→Ls→Int→Int→Ob β
 | 0,_,_,_,_=>none
 | n+1,E,A,C,D=>zd3 za yc L E A C D z (fun E A C D=>zcM L z n E A C D)
theorem zkg(L:Nat)(K:KT β):∀ (n:Nat) (z A:Ls) (C D:Int),yt (xd yG (zG ya za zr ye yc L) 0 L zd0) zbx n (zaU z A C D) K=zcM za yc L (fun z=>K (.exit 4) (zka z)) n z A C D:=by
 intro n; induction n <;> intros
 ·rfl
 ·exact (zsw ..).trans (by simp only [*]; rfl)
def zeH(L:Nat)(F:Bool)(A:Ls)(G:List V)(z:Ls→Ob β):Ob β:=zib ya L F A G z (fun A C D E=>zcM za yc L (fun A=>zf9 L A z) L A C D E)
theorem ztQ(L:Nat)(z:Bool)(A:Ls)(C:List V)(k:KK β):(zi 2 (yr (xd yG (zG ya za zr ye yc L) 0 L zmC) (zy 0 (CF.res cf_tx_encode) k))) (.exit 2) (zkh z A C)=zeH ya za yc L z A C (fun D=>k (V.gs 1 D) []):=by
 refine (zuD ..).trans ?_
 unfold zeH
 first
  | (simp only [zkg,zr0]; done)
  | (simp only [zkg]; rfl)
def zfy(L:Nat)(z:Bool)(A:Ls)(C:List V)(D:Ls→Ob β):Ob β:=zjH za L z A C (fun z A E F G C=>zed ye yc L (fun z A C=>zeH ya za yc L z A C D) L z A E F G C)
theorem zvl(L:Nat)(z:Bool)(A:Ls)(C:List V)(k:KK β):(zi 0 (yr (xd yG (zG ya za zr ye yc L) 0 L zpQ) (zy 0 (CF.res cf_tx_encode) k))) (.exit 0) (zki z A C)=zfy ya za ye yc L z A C (fun D=>k (V.gs 1 D) []):=by
 refine (zwI ..).trans ?_
 unfold zfy
 first
  | (simp only [zmW,ztQ]; done)
  | (simp only [zmW]; rfl)
end
def zrq{β:Type}(ya:yQ)(za:zU)(zr:zlS)(ye:za4)(yc:zcB)(L:Nat)(H:List V)(z:Bool)(A:Ls→Ob β):Ob β:=zw7 ya za L H z (fun z C E F G D=>zfo ya zr L (fun z C D=>zfy ya za ye yc L z C D A) L z C E F G D)
theorem zJY{β:Type}(ya:yQ)(za:zU)(zr:zlS)(ye:za4)(yc:zcB)(L:Nat)(z:List V)(A:Bool)(k:KK β):zj yG (zG ya za zr ye yc L) L cf_tx_encode [(V.agg z),(V.sc (.bool A))] [] k=zrq ya za zr ye yc L z A (fun z=>k (V.gs 1 z) []):=by
 refine (zJj ya za zr ye yc L z A k).trans ?_
 unfold zrq
 first
  | (simp only [zpE,zvl]; done)
  | (simp only [zpE]; rfl)
abbrev zeG:=∀ (β:Type),Nat→List V→Bool→(Ls→Ob β)→Ob β
def xl:zeG:=fun β=>@zrq β ya za zr ye yc
def zrB(xl:zeG)(L:Nat):Dk:=dA AG fun z=>dA AB fun A=>d0 fun β k=>xl β L z A (fun z=>k (V.gs 1 z) [])
theorem zJ0(L:Nat):DK (zrB xl L) (fun _=>zj yG (zG ya za zr ye yc L) L cf_tx_encode):=xo zbR fun z=>xo zU7 fun A=>zK fun _ k=>zJY ya za zr ye yc L z A k
def zDm:Hint:=⟨[(0,0),(5,2),(11,2)],[],[none,none,none,some ((bl 7340034 63),(bl 9223372032559808427 63)),none,some ((bl 2 63),(bl 9223372032559808427 63)),none,none,some ((bl 4 63),(bl 9223372032559808429 63)),none,some ((bl 962072674306 63),(bl 9186745105510301355 63)),none,some ((bl 2 63),(bl 9186745105510301355 63)),none,none,some ((bl 4 63),(bl 9186745105510301357 63)),none,some ((bl 1971286909648898 63),(bl 9187343239835811499 63)),none,some ((bl 962072674306 63),(bl 9187343239835811499 63)),none,none,some ((bl 4 63),(bl 9186745105510301357 63)),none],[],[],false,false,[]⟩
def cf_tx_fits:CF:=cfD zDm 77
def zfN:CC:=yy [1,1,1,0,1,0,0,1,1,0,0,1,1,1,0,0] cf_tx_fits.body
def zjU:CC:=yy [1,1,1,0,1,0,0,1,1,1] cf_tx_fits.body
def zi1:CC:=yy [1,1,1,0,1,0,0] cf_tx_fits.body
def zpo:CC:=yy [1,1,0,1,0,0] cf_tx_fits.body
def zsK:CC:=yy [1,1,1,1] cf_tx_fits.body
def zpa:CC:=yy [1,1,1] cf_tx_fits.body
def xU:Nat→Sh:=xC [(10,(.sl 35)),(15,(.sl 2)),(20,(.sl 2)),(27,(.int .i64)),(31,(.sl 1)),(37,(.sl 35)),(44,(.sl 1)),(48,(.sl 1)),(53,(.sl 1))]
def zV(xl:zeG)(L:Nat):CBC:=(xp 147 (zrB xl L) noC)
def zri:St→St:=zM 0 (bl 7340034 63) (bl 9223372032559808427 63)
def zdr:St→St:=zM 0 (bl 962072674306 63) (bl 9186745105510301355 63)
def zgm:St→St:=zM 0 (bl 1971286909648898 63) (bl 9187343239835811499 63)
def zhN(z:Ls)(A C:Int)(D:List V):St:=⟨(jn 1 ((V.ptr 1 0)::(jn 18 ((V.sl 2 z)::((Qe A)::((Qe C)::(jn 40 []))))))),(gn 1 ((.live true D)::(gn 61 [])))⟩
def zbb(z:Bool):St:=⟨(jn 2 ((V.sc (.bool z))::(jn 60 []))),(gn 63 [])⟩
def znx(z:List V):St:=⟨(jn 1 ((V.ptr 1 0)::(jn 61 []))),(gn 1 ((.live true z)::(gn 61 [])))⟩
def zc6(z:Ls)(A C:Int)(D:List V):St:=⟨(jn 1 ((V.ptr 1 0)::(jn 35 ((V.sl 35 z)::((Qe A)::((Qe C)::(jn 23 []))))))),(gn 1 ((.live true D)::(gn 61 [])))⟩
def zcu(z:Ls)(A C:Int)(D:Ls)(E F:Int)(G:List V):St:=⟨(jn 1 ((V.ptr 1 0)::(jn 35 ((V.sl 35 z)::((Qe A)::((Qe C)::(jn 8 ((V.sl 1 D)::((Qe E)::((Qe F)::(jn 12 []))))))))))),(gn 1 ((.live true G)::(gn 61 [])))⟩
def znI(z:List V):St:=⟨(jn 1 ((V.ptr 1 0)::(jn 61 []))),(gn 1 ((.live true z)::(gn 61 [])))⟩
def zsJ(z:Ls)(A C:Int)(D:List V):St:=⟨(jn 1 ((V.ptr 1 0)::(jn 35 ((V.sl 35 z)::((Qe A)::((Qe C)::(jn 23 []))))))),(gn 1 ((.live true D)::(gn 61 [])))⟩
abbrev zkq(β:Type):Type:=Ls→Int→Int→Ls→Int→Int→List V→Ob β
section
variable {β:Type} (xl:zeG)
def zDn(L:Nat)(C:List V)(A:Bool→Ob β)(z:Ls→Int→Int→List V→Ob β):Ob β:=cLd 35 C 1 fun E=>ifb (decide (((XK E:Nat):Int)>(64:Int))) (A false) (cLd 2 C 2 fun F=>ifb (decide (((XK F:Nat):Int)>(64:Int))) (A false) (cLd 2 C 2 fun D=>z D ((XK D:Nat):Int) (0:Int) C))
theorem zNN(L:Nat)(z:List V)(k:KK β):zj xU (zV xl L) L cf_tx_fits [(V.agg z)] [] k=zDn L z (fun z=>k (V.sc (.bool z)) []) (fun A C D E=>yt (xd xU (zV xl L) 0 L zpo) zri L (zhN A C D E) (zi 0 (yr (xd xU (zV xl L) 0 L zpa) (zy 0 (CF.res cf_tx_fits) k)))):=by kernel_rfl
def zrc(L:Nat)(D:Ls)(E C:Int)(G:List V)(A:Bool→Ob β)(z:Ls→Int→Int→List V→Ob β)(F:List V→Ob β):Ob β:=ifb (decide (C<E)) (idx D C fun H=>chk ((XK (XM 2 H))=2∧0+2≤2) (lt (yd [(Qe (0:Int)),(V.gs 1 ([]:Ls))] 0 (XM 2 H)) fun I=>cI .i64 I 0 fun J=>ifb (decide (J<(0:Int))) (A false) (cLd 1 I 1 fun M=>ifb (decide (((XK M:Nat):Int)>(520:Int))) (A false) (lt (QG .i64 ((C:Int)+(1:Int))) fun N=>z D E N G)))) (F G)
theorem zEF(L:Nat)(z:Ls)(A C:Int)(D:List V)(X:St→Ob β)(K:KT β):xd xU (zV xl L) 0 L zpo (zhN z A C D) (zI zri X K)=zrc L z A C D (fun E=>K .ret (zbb E)) (fun z A C D=>X (zhN z A C D)) (fun D=>K (.exit 0) (znx D)):=by kernel_rfl
def zmm(L:Nat)(A:Bool)(z:Bool→Ob β):Ob β:=z A
theorem zz6(L:Nat)(z:Bool)(k:KK β):(zi 0 (yr (xd xU (zV xl L) 0 L zpa) (zy 0 (CF.res cf_tx_fits) k))) .ret (zbb z)=zmm L z (fun A=>k (V.sc (.bool A)) []):=by kernel_rfl
def zoa(L:Nat)(A:List V)(z:Ls→Int→Int→List V→Ob β):Ob β:=cLd 35 A 1 fun C=>z C ((XK C:Nat):Int) (0:Int) A
theorem zA6(L:Nat)(z:List V)(k:KK β):(zi 0 (yr (xd xU (zV xl L) 0 L zpa) (zy 0 (CF.res cf_tx_fits) k))) (.exit 0) (znx z)=zoa L z (fun A C D z=>yt (xd xU (zV xl L) 0 L zi1) zdr L (zc6 A C D z) (zi 2 (yr (xd xU (zV xl L) 0 L zsK) (zy 0 (CF.res cf_tx_fits) k)))):=by kernel_rfl
def zqb(L:Nat)(D:Ls)(E A:Int)(I:List V)(C:Bool→Ob β)(z:zkq β)(H:List V→Ob β):Ob β:=ifb (decide (A<E)) (idx D A fun J=>chk ((XK (XM 35 J))=35∧0+35≤35) (lt (yd (We 32 (Qa (0:Int))++[(Qc (0:Int)),(Qc (0:Int)),(V.gs 1 ([]:Ls))]) 0 (XM 35 J)) fun F=>cLd 1 F 34 fun M=>ifb (decide (((XK M:Nat):Int)>(32:Int))) (C false) (cLd 1 F 34 fun G=>z D E A G ((XK G:Nat):Int) (0:Int) I))) (H I)
theorem zCN(L:Nat)(z:Ls)(A C:Int)(D:List V)(X:St→Ob β)(K:KT β):xd xU (zV xl L) 0 L zi1 (zc6 z A C D) (zI zdr X K)=zqb L z A C D (fun H=>K .ret (zbb H)) (fun z A C E F G D=>yt (xd xU (zV xl L) 0 L zfN) zgm L (zcu z A C E F G D) (zi 4 (zi 3 (yr (xd xU (zV xl L) 0 L zjU) (zI zdr X K))))) (fun D=>K (.exit 2) (znI D)):=by kernel_rfl
def zkM(L:Nat)(A:Bool)(z:Bool→Ob β):Ob β:=z A
theorem zxR(L:Nat)(z:Bool)(k:KK β):(zi 2 (yr (xd xU (zV xl L) 0 L zsK) (zy 0 (CF.res cf_tx_fits) k))) .ret (zbb z)=zkM L z (fun A=>k (V.sc (.bool A)) []):=by kernel_rfl
def zmD(L:Nat)(A:List V)(z:Bool→Ob β):Ob β:=chk (0+4≤(XK A)) (xl β L (Xv V.dem (XM 4 A)) true (fun C=>z (decide (((XK C:Nat):Int)≤(20000:Int)))))
theorem zAn(L:Nat)(z:List V)(k:KK β):(zi 2 (yr (xd xU (zV xl L) 0 L zsK) (zy 0 (CF.res cf_tx_fits) k))) (.exit 2) (znI z)=zmD xl L z (fun A=>k (V.sc (.bool A)) []):=by kernel_rfl
def zgn(L:Nat)(D:Ls)(E F:Int)(G:Ls)(H A:Int)(J:List V)(C:Bool→Ob β)(z:zkq β)(I:Ls→Int→Int→List V→Ob β):Ob β:=ifb (decide (A<H)) (idx G A fun M=>cL 1 M 0 fun N=>ifb (decide (((XK N:Nat):Int)>(520:Int))) (C false) (lt (QG .i64 ((A:Int)+(1:Int))) fun O=>z D E F G H O J)) (I D E F J)
theorem zr6(L:Nat)(z:Ls)(A C:Int)(D:Ls)(E F:Int)(G:List V)(X:St→Ob β)(K:KT β):xd xU (zV xl L) 0 L zfN (zcu z A C D E F G) (zI zgm X K)=zgn L z A C D E F G (fun H=>K .ret (zbb H)) (fun z A C D E F G=>X (zcu z A C D E F G)) (fun z A C G=>K (.exit 4) (zsJ z A C G)):=by kernel_rfl
def zeQ(L:Nat)(A:Bool)(z:Bool→Ob β):Ob β:=z A
theorem zpn(L:Nat)(z:Bool)(X:St→Ob β)(K:KT β):(zi 4 (zi 3 (yr (xd xU (zV xl L) 0 L zjU) (zI zdr X K)))) .ret (zbb z)=zeQ L z (fun z=>K .ret (zbb z)):=by kernel_rfl
def zfc(L:Nat)(A:Ls)(C D:Int)(F:List V)(z:Ls→Int→Int→List V→Ob β):Ob β:=lt (QG .i64 ((D:Int)+(1:Int))) fun E=>z A C E F
theorem zqh(L:Nat)(z:Ls)(A C:Int)(D:List V)(X:St→Ob β)(K:KT β):(zi 4 (zi 3 (yr (xd xU (zV xl L) 0 L zjU) (zI zdr X K)))) (.exit 4) (zsJ z A C D)=zfc L z A C D (fun z A C D=>X (zc6 z A C D)):=by kernel_rfl
def zh4(L:Nat)(z:Bool→Ob β)(A:List V→Ob β):Nat→Ls→Int→Int→List V→Ob β
 | 0,_,_,_,_=>none
 | n+1,C,D,E,F=>zrc L C D E F z (fun C D E F=>zh4 L z A n C D E F) A
theorem zte(L:Nat)(K:KT β):∀ (n:Nat) (A:Ls) (C D:Int) (z:List V),yt (xd xU (zV xl L) 0 L zpo) zri n (zhN A C D z) K=zh4 L (fun E=>K .ret (zbb E)) (fun z=>K (.exit 0) (znx z)) n A C D z:=by
 intro n; induction n <;> intros
 ·rfl
 ·exact (zEF ..).trans (by simp only [*]; rfl)
def zb2(L:Nat)(z:Bool→Ob β)(A:Ls→Int→Int→List V→Ob β):Nat→Ls→Int→Int→Ls→Int→Int→List V→Ob β
 | 0,_,_,_,_,_,_,_=>none
 | n+1,C,D,E,F,G,H,I=>zgn L C D E F G H I z (fun C D E F G H I=>zb2 L z A n C D E F G H I) A
theorem zix(L:Nat)(K:KT β):∀ (n:Nat) (z:Ls) (A C:Int) (E:Ls) (F G:Int) (D:List V),yt (xd xU (zV xl L) 0 L zfN) zgm n (zcu z A C E F G D) K=zb2 L (fun H=>K .ret (zbb H)) (fun z A C D=>K (.exit 4) (zsJ z A C D)) n z A C E F G D:=by
 intro n; induction n <;> intros
 ·rfl
 ·exact (zr6 ..).trans (by simp only [*]; rfl)
def ziC(L:Nat)(z:Ls)(A C:Int)(F:List V)(E:Bool→Ob β)(G:List V→Ob β)(D:Ls→Int→Int→List V→Ob β):Ob β:=zqb L z A C F E (fun z A C H I J F=>zb2 L (fun M=>zeQ L M E) (fun z A C F=>zfc L z A C F D) L z A C H I J F) G
theorem zBj(L:Nat)(z:Ls)(A C:Int)(D:List V)(X:St→Ob β)(K:KT β):xd xU (zV xl L) 0 L zi1 (zc6 z A C D) (zI zdr X K)=ziC L z A C D (fun E=>K .ret (zbb E)) (fun D=>K (.exit 2) (znI D)) (fun z A C D=>X (zc6 z A C D)):=by
 refine (zCN ..).trans ?_
 unfold ziC
 first
  | (simp only [zix,zpn,zqh]; done)
  | (simp only [zix]; rfl)
def zg1(L:Nat)(z:Bool→Ob β)(A:List V→Ob β):Nat→Ls→Int→Int→List V→Ob β
 | 0,_,_,_,_=>none
 | n+1,C,D,E,F=>ziC L C D E F z A (fun C D E F=>zg1 L z A n C D E F)
theorem zrL(L:Nat)(K:KT β):∀ (n:Nat) (A:Ls) (C D:Int) (z:List V),yt (xd xU (zV xl L) 0 L zi1) zdr n (zc6 A C D z) K=zg1 L (fun E=>K .ret (zbb E)) (fun z=>K (.exit 2) (znI z)) n A C D z:=by
 intro n; induction n <;> intros
 ·rfl
 ·exact (zBj ..).trans (by simp only [*]; rfl)
def zhQ(L:Nat)(A:List V)(z:Bool→Ob β):Ob β:=zoa L A (fun C D E A=>zg1 L (fun F=>zkM L F z) (fun A=>zmD xl L A z) L C D E A)
theorem zAb(L:Nat)(z:List V)(k:KK β):(zi 0 (yr (xd xU (zV xl L) 0 L zpa) (zy 0 (CF.res cf_tx_fits) k))) (.exit 0) (znx z)=zhQ xl L z (fun A=>k (V.sc (.bool A)) []):=by
 refine (zA6 ..).trans ?_
 unfold zhQ
 first
  | (simp only [zrL,zxR,zAn]; done)
  | (simp only [zrL]; rfl)
end
def zwd{β:Type}(xl:zeG)(L:Nat)(F:List V)(z:Bool→Ob β):Ob β:=zDn L F z (fun C D E A=>zh4 L (fun G=>zmm L G z) (fun A=>zhQ xl L A z) L C D E A)
theorem zMx{β:Type}(xl:zeG)(L:Nat)(z:List V)(k:KK β):zj xU (zV xl L) L cf_tx_fits [(V.agg z)] [] k=zwd xl L z (fun z=>k (V.sc (.bool z)) []):=by
 refine (zNN xl L z k).trans ?_
 unfold zwd
 first
  | (simp only [zte,zz6,zAb]; done)
  | (simp only [zte]; rfl)
abbrev zr3:=∀ (β:Type),Nat→List V→(Bool→Ob β)→Ob β
def zbm:zr3:=fun β=>@zwd β xl
def zBB(zbm:zr3)(L:Nat):Dk:=dA AG fun z=>d0 fun β k=>zbm β L z (fun z=>k (V.sc (.bool z)) [])
theorem zOc(L:Nat):DK (zBB zbm L) (fun _=>zj xU (zV xl L) L cf_tx_fits):=xo zbR fun z=>zK fun _ k=>zMx xl L z k
def zyD:Hint:=⟨[(0,0),(0,1),(2,0),(3,3)],[],[none,none,none],[],[],false,false,[]⟩
def zDz:CF:=cfD zyD 37
def zul:Nat→Sh:=xC []
def zvj(zbm:zr3)(xl:zeG)(L:Nat):CBC:=(xp 147 (zrB xl L) (xp 146 (zBB zbm L) noC))
def zxo{β:Type}(zbm:zr3)(xl:zeG)(L:Nat)(A:List V)(C:Bool)(z:Ls→Int→Ob β):Ob β:=chk (0+4≤(XK A)) (zbm β L (Xv V.dem (XM 4 A)) (fun D=>ifb (!D) (z ([]:Ls) (4:Int)) (chk (0+4≤(XK A)) (xl β L (Xv V.dem (XM 4 A)) C (fun E=>z E (0:Int))))))
theorem zKg{β:Type}(zbm:zr3)(xl:zeG)(L:Nat)(C:List V)(D:Bool)(k:KK β):zj zul (zvj zbm xl L) L zDz [(V.agg C),(V.sc (.bool D))] [] k=zxo zbm xl L C D (fun z A=>k (V.tup [(V.gs 1 z),(Qe A)]) []):=by kernel_rfl
abbrev zjs:=∀ (β:Type),Nat→List V→Bool→(Ls→Int→Ob β)→Ob β
def zE:zjs:=fun β=>@zxo β zbm xl
def zxl(zE:zjs)(L:Nat):Dk:=dA AG fun C=>dA AB fun D=>d0 fun β k=>zE β L C D (fun z A=>k (V.tup [(V.gs 1 z),(Qe A)]) [])
theorem zJJ(L:Nat):DK (zxl zE L) (fun _=>zj zul (zvj zbm xl L) L zDz):=xo zbR fun z=>xo zU7 fun A=>zK fun _ k=>zKg zbm xl L z A k
def zti:Hint:=⟨[(0,0),(0,1),(2,0),(3,8),(6,2),(7,2),(7,3),(9,0),(10,0),(10,3),(13,0),(14,0),(14,1)],[],[none,none,none,some ((bl 29360144 43),(bl 8651137875505 43)),none,some ((bl 16 43),(bl 8651137875505 43)),none,none,some ((bl 12 43),(bl 8651137875501 43)),none,none,none],[],[],false,false,[]⟩
def cf_block_Encode:CF:=cfD zti 13
def zif:CC:=yy [1,1,1,0,1,0,0] cf_block_Encode.body
def zkx:CC:=yy [1,1,1,1] cf_block_Encode.body
def zbk:Nat→Sh:=xC [(10,(.sl 4)),(17,(.sl 4)),(22,(.sl 4))]
def zbi(xm:zci)(za:zU)(zE:zjs)(L:Nat):CBC:=(xp 128 (zxl zE L) (xp 182 (zeV za L) (xp 502 (ziB xm L) noC)))
def ziV:St→St:=zM 0 (bl 29360144 43) (bl 8651137875505 43)
def zd2(D z:Ls)(A C:Int):St:=⟨(jn 4 ((V.gs 1 D)::(jn 17 ((V.sl 4 z)::((Qe A)::((Qe C)::(jn 18 []))))))),(gn 43 [])⟩
def zjR(z:Ls)(A:Int):St:=⟨(jn 2 ((V.gs 1 z)::((Qe A)::(jn 39 [])))),(gn 43 [])⟩
def zkE(z:Ls):St:=⟨(jn 4 ((V.gs 1 z)::(jn 38 []))),(gn 43 [])⟩
section
variable {β:Type} (xm:zci) (za:zU) (zE:zjs)
def zrg(L:Nat)(A:List V)(C:Ls→Int→Ob β)(z:Ls→Ls→Int→Int→Ob β):Ob β:=cLd 4 A 68 fun E=>ifb (decide (((XK E:Nat):Int)>(256:Int))) (C ([]:Ls) (4:Int)) (chk (0+68≤(XK A)) (xm β L (XM 68 A) (fun F=>cLd 4 A 68 fun G=>lt (QG .u64 ((XK G:Nat):Int)) fun H=>za β L F H (fun I=>cLd 4 A 68 fun D=>z I D ((XK D:Nat):Int) (0:Int)))))
theorem zEh(L:Nat)(C:List V)(k:KK β):zj zbk (zbi xm za zE L) L cf_block_Encode [(V.agg C)] [] k=zrg xm za L C (fun z A=>k (V.tup [(V.gs 1 z),(Qe A)]) []) (fun G D E F=>yt (xd zbk (zbi xm za zE L) 0 L zif) ziV L (zd2 G D E F) (zi 0 (yr (xd zbk (zbi xm za zE L) 0 L zkx) (zy 0 (CF.res cf_block_Encode) k)))):=by kernel_rfl
def ziZ(L:Nat)(C E:Ls)(F A:Int)(D:Ls→Int→Ob β)(z:Ls→Ls→Int→Int→Ob β)(G:Ls→Ob β):Ob β:=ifb (decide (A<F)) (idx E A fun I=>chk ((XK (XM 4 I))=4∧0+4≤4) (lt (yd [(Qc (0:Int)),(V.gs 35 ([]:Ls)),(V.gs 2 ([]:Ls)),(Qc (0:Int))] 0 (XM 4 I)) fun J=>chk (0+4≤(XK J)) (zE β L (Xv V.dem (XM 4 J)) true (fun H O=>ifb ((O:Int) != (0:Int)) (D ([]:Ls) (4:Int)) (chk ((XK C+XK H)*1≤xf∧XK C+XK H≤xf) (lt (C++H) fun M=>lt (QG .i64 ((A:Int)+(1:Int))) fun N=>z M E F N)))))) (G C)
theorem zvq(L:Nat)(D z:Ls)(A C:Int)(X:St→Ob β)(K:KT β):xd zbk (zbi xm za zE L) 0 L zif (zd2 D z A C) (zI ziV X K)=ziZ zE L D z A C (fun E F=>K .ret (zjR E F)) (fun D z A C=>X (zd2 D z A C)) (fun D=>K (.exit 0) (zkE D)):=by kernel_rfl
def zgR(L:Nat)(A:Ls)(C:Int)(z:Ls→Int→Ob β):Ob β:=z A C
theorem zsz(L:Nat)(C:Ls)(D:Int)(k:KK β):(zi 0 (yr (xd zbk (zbi xm za zE L) 0 L zkx) (zy 0 (CF.res cf_block_Encode) k))) .ret (zjR C D)=zgR L C D (fun z A=>k (V.tup [(V.gs 1 z),(Qe A)]) []):=by kernel_rfl
def zhE(L:Nat)(A:Ls)(z:Ls→Int→Ob β):Ob β:=ifb (decide (((XK A:Nat):Int)>(100000:Int))) (z ([]:Ls) (4:Int)) (z A (0:Int))
theorem ztJ(L:Nat)(C:Ls)(k:KK β):(zi 0 (yr (xd zbk (zbi xm za zE L) 0 L zkx) (zy 0 (CF.res cf_block_Encode) k))) (.exit 0) (zkE C)=zhE L C (fun z A=>k (V.tup [(V.gs 1 z),(Qe A)]) []):=by kernel_rfl
def zdz(L:Nat)(z:Ls→Int→Ob β)(A:Ls→Ob β):Nat→Ls→Ls→Int→Int→Ob β
 | 0,_,_,_,_=>none
 | n+1,F,C,D,E=>ziZ zE L F C D E z (fun F C D E=>zdz L z A n F C D E) A
theorem zl0(L:Nat)(K:KT β):∀ (n:Nat) (z A:Ls) (C D:Int),yt (xd zbk (zbi xm za zE L) 0 L zif) ziV n (zd2 z A C D) K=zdz zE L (fun E F=>K .ret (zjR E F)) (fun z=>K (.exit 0) (zkE z)) n z A C D:=by
 intro n; induction n <;> intros
 ·rfl
 ·exact (zvq ..).trans (by simp only [*]; rfl)
end
def zlG{β:Type}(xm:zci)(za:zU)(zE:zjs)(L:Nat)(F:List V)(z:Ls→Int→Ob β):Ob β:=zrg xm za L F z (fun A C D E=>zdz zE L (fun G H=>zgR L G H z) (fun A=>zhE L A z) L A C D E)
theorem zES{β:Type}(xm:zci)(za:zU)(zE:zjs)(L:Nat)(z:List V)(k:KK β):zj zbk (zbi xm za zE L) L cf_block_Encode [(V.agg z)] [] k=zlG xm za zE L z (fun A C=>k (V.tup [(V.gs 1 A),(Qe C)]) []):=by
 refine (zEh xm za zE L z k).trans ?_
 unfold zlG
 first
  | (simp only [zl0,zsz,ztJ]; done)
  | (simp only [zl0]; rfl)
abbrev zh1:=∀ (β:Type),Nat→List V→(Ls→Int→Ob β)→Ob β
def yN:zh1:=fun β=>@zlG β xm za zE
def zqH(yN:zh1)(L:Nat):Dk:=dA AG fun C=>d0 fun β k=>yN β L C (fun z A=>k (V.tup [(V.gs 1 z),(Qe A)]) [])
theorem zEB(L:Nat):DK (zqH yN L) (fun _=>zj zbk (zbi xm za zE L) L cf_block_Encode):=xo zbR fun z=>zK fun _ k=>zES xm za zE L z k
def zqn:Hint:=⟨[],[],[none],[],[],false,false,[]⟩
def ztb:CF:=cfD zqn 187
def zmq:Nat→Sh:=xC []
def zmj(L:Nat):CBC:=noC
def zuB{β:Type}(L:Nat)(C:Int)(z:List V→Ob β):Ob β:=lt [(Qd C),(Qd (0:Int)),(Qd (0:Int)),(Qd (0:Int))] fun A=>chk (0=0∧(XK A)=4∧4≠0) (z A)
theorem zBf{β:Type}(L:Nat)(z:Int)(k:KK β):zj zmq (zmj L) L ztb [(Qd z)] [] k=zuB L z (fun z=>k (V.agg z) []):=by kernel_rfl
abbrev zf8:=∀ (β:Type),Nat→Int→(List V→Ob β)→Ob β
def xS:zf8:=fun β=>@zuB β
def znV(xS:zf8)(L:Nat):Dk:=dA (AI .u64) fun z=>d0 fun β k=>xS β L z (fun z=>k (V.agg z) [])
theorem zBe(L:Nat):DK (znV xS L) (fun _=>zj zmq (zmj L) L ztb):=xo z8 fun z=>zK fun _ k=>zBf L z k
def zyb:Hint:=⟨[],[],[none],[],[],false,false,[]⟩
def zBS:CF:=cfD zyb 174
def zuG:Nat→Sh:=xC [(8,(.int .u64))]
def zuK(L:Nat):CBC:=noC
def zFn{β:Type}(L:Nat)(E:List V)(C:Int)(z:Bool→Ob β):Ob β:=lt (QG .i64 (Int.tdiv C (64:Int))) fun A=>chk (0≤A∧A<((4:Nat):Int)) (cI .u64 E (0+((XL A)*1)) fun F=>lt (Int.tmod C (64:Int)) fun D=>chk (0≤D) (lt (zb1 .u64 F D) fun G=>lt (zee .u64 G (1:Int)) fun H=>z ((H:Int)==(1:Int))))
theorem zJy{β:Type}(L:Nat)(z:List V)(A:Int)(k:KK β):zj zuG (zuK L) L zBS [(V.agg z),(Qe A)] [] k=zFn L z A (fun z=>k (V.sc (.bool z)) []):=by kernel_rfl
abbrev zdi:=∀ (β:Type),Nat→List V→Int→(Bool→Ob β)→Ob β
def xn:zdi:=fun β=>@zFn β
def zrD(xn:zdi)(L:Nat):Dk:=dA AG fun z=>dA (AI .i64) fun A=>d0 fun β k=>xn β L z A (fun z=>k (V.sc (.bool z)) [])
theorem zJ6(L:Nat):DK (zrD xn L) (fun _=>zj zuG (zuK L) L zBS):=xo zbR fun z=>xo z8 fun A=>zK fun _ k=>zJy L z A k
def zy5:Hint:=⟨[],[],[none,none,none,none,none,some ((bl 118 34),(bl 17171480575 34)),none,some ((bl 48 34),(bl 17171480507 34)),none,none,none],[],[],false,false,[]⟩
def cf_ref02_Shr:CF:=cfD zy5 147
def zjN:CC:=yy [1,1,1,1,0,1,0,0] cf_ref02_Shr.body
def zun:CC:=yy [1,1,1,1,1] cf_ref02_Shr.body
def zdy:Nat→Sh:=xC [(27,(.int .u64))]
def zdB(xn:zdi)(L:Nat):CBC:=(xp 552 (zrD xn L) noC)
def zln:St→St:=zM 0 (bl 118 34) (bl 17171480575 34)
def ze5(E F:Int)(G:List V)(z A C D:Int)(H:List V):St:=⟨(jn 1 ((Qe E)::((V.ptr 2 0)::(jn 1 ((V.ptr 4 0)::((V.ptr 5 0)::((Qe F)::(jn 27 [])))))))),(gn 2 ((.live true G)::(gn 1 ((.live true [(Qd z),(Qd A),(Qd C),(Qd D)])::((.live true H)::(gn 28 []))))))⟩
def zpx(z A C D:Int)(E:List V):St:=⟨(jn 4 ((V.ptr 4 0)::((V.ptr 5 0)::(jn 28 [])))),(gn 4 ((.live true [(Qd z),(Qd A),(Qd C),(Qd D)])::((.live true E)::(gn 28 []))))⟩
abbrev zqm(β:Type):Type:=Int→Int→List V→Int→Int→Int→Int→List V→Ob β
section
variable {β:Type} (xn:zdi)
def zFt(L:Nat)(C:List V)(D:Int)(A:List V→Ob β)(z:zqm β):Ob β:=ifb (decide (D≤(0:Int))) (chk (0+4≤(XK C)) (chk ((XK (XM 4 C))=4∧0+4≤4) (lt (yd [(Qd (0:Int)),(Qd (0:Int)),(Qd (0:Int)),(Qd (0:Int))] 0 (XM 4 C)) fun E=>chk (0=0∧(XK E)=4∧4≠0) (A E)))) (ifb (decide (D≥(256:Int))) (lt [(Qd (0:Int)),(Qd (0:Int)),(Qd (0:Int)),(Qd (0:Int))] fun F=>chk (0=0∧(XK F)=4∧4≠0) (A F)) (z D (0:Int) C (0:Int) (0:Int) (0:Int) (0:Int) [(Qd (0:Int)),(Qd (0:Int)),(Qd (0:Int)),(Qd (0:Int))]))
theorem zI5(L:Nat)(z:List V)(A:Int)(k:KK β):zj zdy (zdB xn L) L cf_ref02_Shr [(V.agg z),(Qe A)] [] k=zFt L z A (fun z=>k (V.agg z) []) (fun A G H C D E F I=>yt (xd zdy (zdB xn L) 0 L zjN) zln L (ze5 A G H C D E F I) (zi 0 (yr (xd zdy (zdB xn L) 0 L zun) (zy 0 (CF.res cf_ref02_Shr) k)))):=by kernel_rfl
def zr2(L:Nat)(I G:Int)(J:List V)(A C D E:Int)(H:List V)(z:zqm β)(M:Int→Int→Int→Int→List V→Ob β):Ob β:=lt (QG .i64 ((G:Int)+I)) fun R=>ifb (decide (R<(256:Int))) (chk (0+4≤(XK J)) (lt (QG .i64 ((G:Int)+I)) fun S=>xn β L (XM 4 J) S (fun T=>ifb T (lt (QG .i64 (Int.tdiv G (64:Int))) fun F=>chk (0≤F∧F<((4:Nat):Int)) (cI .u64 H (0+((XL F)*1)) fun U=>lt (Int.tmod G (64:Int)) fun N=>chk (0≤N) (lt (zde .u64 (1:Int) N) fun W=>lt (ior .u64 U W) fun X=>chk (0≤F∧F<((4:Nat):Int)) (chk (1=1∧(0+((XL F)*1))+1≤(XK H)) (lt (yd H (0+((XL F)*1)) [(Qd X)]) fun O=>lt (QG .i64 ((G:Int)+(1:Int))) fun P=>z I P J A C D E O))))) (lt (QG .i64 ((G:Int)+(1:Int))) fun Q=>z I Q J A C D E H)))) (M A C D E H)
theorem zya(L:Nat)(F G:Int)(H:List V)(z A C D:Int)(E:List V)(X:St→Ob β)(K:KT β):xd zdy (zdB xn L) 0 L zjN (ze5 F G H z A C D E) (zI zln X K)=zr2 xn L F G H z A C D E (fun F G H z A C D E=>X (ze5 F G H z A C D E)) (fun z A C D E=>K (.exit 0) (zpx z A C D E)):=by kernel_rfl
def zpe(L:Nat)(C D E F:Int)(G:List V)(z:List V→Ob β):Ob β:=chk (0+4≤(XK G)) (chk ((XK (XM 4 G))=4∧0+4≤4) (lt (yd [(Qd C),(Qd D),(Qd E),(Qd F)] 0 (XM 4 G)) fun A=>chk (0=0∧(XK A)=4∧4≠0) (z A)))
theorem zvy(L:Nat)(z A C D:Int)(E:List V)(k:KK β):(zi 0 (yr (xd zdy (zdB xn L) 0 L zun) (zy 0 (CF.res cf_ref02_Shr) k))) (.exit 0) (zpx z A C D E)=zpe L z A C D E (fun F=>k (V.agg F) []):=by kernel_rfl
def zkN(L:Nat)(E:Int→Int→Int→Int→List V→Ob β):Nat→Int→Int→List V→Int→Int→Int→Int→List V→Ob β
 | 0,_,_,_,_,_,_,_,_=>none
 | n+1,F,G,H,z,A,C,D,I=>zr2 xn L F G H z A C D I (fun F G H z A C D I=>zkN L E n F G H z A C D I) E
theorem zov(L:Nat)(K:KT β):∀ (n:Nat) (F G:Int) (H:List V) (z A C D:Int) (E:List V),yt (xd zdy (zdB xn L) 0 L zjN) zln n (ze5 F G H z A C D E) K=zkN xn L (fun z A C D E=>K (.exit 0) (zpx z A C D E)) n F G H z A C D E:=by
 intro n; induction n <;> intros
 ·rfl
 ·exact (zya ..).trans (by simp only [*]; rfl)
end
def zxk{β:Type}(xn:zdi)(L:Nat)(H:List V)(F:Int)(E:List V→Ob β):Ob β:=zFt L H F E (fun F I J z A C D G=>zkN xn L (fun z A C D G=>zpe L z A C D G E) L F I J z A C D G)
theorem zJn{β:Type}(xn:zdi)(L:Nat)(z:List V)(A:Int)(k:KK β):zj zdy (zdB xn L) L cf_ref02_Shr [(V.agg z),(Qe A)] [] k=zxk xn L z A (fun z=>k (V.agg z) []):=by
 refine (zI5 xn L z A k).trans ?_
 unfold zxk
 first
  | (simp only [zov,zvy]; done)
  | (simp only [zov]; rfl)
abbrev znq:=∀ (β:Type),Nat→List V→Int→(List V→Ob β)→Ob β
def zaP:znq:=fun β=>@zxk β xn
def zxn(zaP:znq)(L:Nat):Dk:=dA AG fun z=>dA (AI .i64) fun A=>d0 fun β k=>zaP β L z A (fun z=>k (V.agg z) [])
theorem zKx(L:Nat):DK (zxn zaP L) (fun _=>zj zdy (zdB xn L) L cf_ref02_Shr):=xo zbR fun z=>xo z8 fun A=>zK fun _ k=>zJn xn L z A k
def zv0:Hint:=⟨[],[],[none],[],[],false,false,[]⟩
def zAP:CF:=cfD zv0 175
def zsB:Nat→Sh:=xC []
def zsI(L:Nat):CBC:=noC
def zB7{β:Type}(L:Nat)(A:List V)(z:Bool→Ob β):Ob β:=chk (0+4≤(XK A)) (eqC 4 (XM 4 A) [(Qd (0:Int)),(Qd (0:Int)),(Qd (0:Int)),(Qd (0:Int))] fun C=>z C)
theorem zH1{β:Type}(L:Nat)(z:List V)(k:KK β):zj zsB (zsI L) L zAP [(V.agg z)] [] k=zB7 L z (fun z=>k (V.sc (.bool z)) []):=by kernel_rfl
abbrev zkG:=∀ (β:Type),Nat→List V→(Bool→Ob β)→Ob β
def xY:zkG:=fun β=>@zB7 β
def zuH(xY:zkG)(L:Nat):Dk:=dA AG fun z=>d0 fun β k=>xY β L z (fun z=>k (V.sc (.bool z)) [])
theorem zIi(L:Nat):DK (zuH xY L) (fun _=>zj zsB (zsI L) L zAP):=xo zbR fun z=>zK fun _ k=>zH1 L z k
def zxW:Hint:=⟨[],[],[none,some ((bl 10 13),(bl 7163 13)),none,some ((bl 0 13),(bl 7153 13)),none,none,some ((bl 4 13),(bl 7157 13)),none],[],[],false,false,[]⟩
def cf_ref02_Len:CF:=cfD zxW 190
def znR:CC:=yy [1,0,1,0,0] cf_ref02_Len.body
def zsN:CC:=yy [1,1] cf_ref02_Len.body
def zcK:Nat→Sh:=xC []
def zcG(xn:zdi)(L:Nat):CBC:=(xp 552 (zrD xn L) noC)
def zp1:St→St:=zM 0 (bl 10 13) (bl 7163 13)
def zgV(z:Int)(A:List V):St:=⟨(jn 1 ((V.ptr 1 0)::(jn 1 ((Qe z)::(jn 9 []))))),(gn 1 ((.live true A)::(gn 11 [])))⟩
def zn4(z:Int):St:=⟨(jn 2 ((Qe z)::(jn 10 []))),(gn 13 [])⟩
def zph:St:=⟨(jn 13 []),(gn 13 [])⟩
section
variable {β:Type} (xn:zdi)
def zFG(L:Nat)(A:List V)(z:Int→List V→Ob β):Ob β:=z (255:Int) A
theorem zJk(L:Nat)(z:List V)(k:KK β):zj zcK (zcG xn L) L cf_ref02_Len [(V.agg z)] [] k=zFG L z (fun A C=>yt (xd zcK (zcG xn L) 0 L znR) zp1 L (zgV A C) (zi 0 (yr (xd zcK (zcG xn L) 0 L zsN) (zy 0 (CF.res cf_ref02_Len) k)))):=by kernel_rfl
def zvH(L:Nat)(A:Int)(D:List V)(C:Int→Ob β)(z:Int→List V→Ob β)(E:Ob β):Ob β:=ifb (decide (A≥(0:Int))) (chk (0+4≤(XK D)) (xn β L (XM 4 D) A (fun F=>ifb F (lt (QG .i64 ((A:Int)+(1:Int))) fun G=>C G) (lt (QG .i64 ((A:Int)-(1:Int))) fun H=>z H D)))) (E)
theorem zB4(L:Nat)(z:Int)(A:List V)(X:St→Ob β)(K:KT β):xd zcK (zcG xn L) 0 L znR (zgV z A) (zI zp1 X K)=zvH xn L z A (fun C=>K .ret (zn4 C)) (fun z A=>X (zgV z A)) (K (.exit 0) (zph)):=by kernel_rfl
def zrR(L:Nat)(A:Int)(z:Int→Ob β):Ob β:=z A
theorem zxN(L:Nat)(z:Int)(k:KK β):(zi 0 (yr (xd zcK (zcG xn L) 0 L zsN) (zy 0 (CF.res cf_ref02_Len) k))) .ret (zn4 z)=zrR L z (fun A=>k (Qe A) []):=by kernel_rfl
def ztf(L:Nat)(z:Int→Ob β):Ob β:=z (0:Int)
theorem zzg(L:Nat)(k:KK β):(zi 0 (yr (xd zcK (zcG xn L) 0 L zsN) (zy 0 (CF.res cf_ref02_Len) k))) (.exit 0) (zph)=ztf L (fun z=>k (Qe z) []):=by kernel_rfl
def zp9(L:Nat)(z:Int→Ob β)(A:Ob β):Nat→Int→List V→Ob β
 | 0,_,_=>none
 | n+1,C,D=>zvH xn L C D z (fun C D=>zp9 L z A n C D) A
theorem zsf(L:Nat)(K:KT β):∀ (n:Nat) (z:Int) (A:List V),yt (xd zcK (zcG xn L) 0 L znR) zp1 n (zgV z A) K=zp9 xn L (fun C=>K .ret (zn4 C)) (K (.exit 0) (zph)) n z A:=by
 intro n; induction n <;> intros
 ·rfl
 ·exact (zB4 ..).trans (by simp only [*]; rfl)
end
def zxt{β:Type}(xn:zdi)(L:Nat)(A:List V)(z:Int→Ob β):Ob β:=zFG L A (fun C D=>zp9 xn L (fun E=>zrR L E z) (ztf L z) L C D)
theorem zJi{β:Type}(xn:zdi)(L:Nat)(z:List V)(k:KK β):zj zcK (zcG xn L) L cf_ref02_Len [(V.agg z)] [] k=zxt xn L z (fun z=>k (Qe z) []):=by
 refine (zJk xn L z k).trans ?_
 unfold zxt
 first
  | (simp only [zsf,zxN,zzg]; done)
  | (simp only [zsf]; rfl)
abbrev zmR:=∀ (β:Type),Nat→List V→(Int→Ob β)→Ob β
def zaO:zmR:=fun β=>@zxt β xn
def zwD(zaO:zmR)(L:Nat):Dk:=dA AG fun z=>d0 fun β k=>zaO β L z (fun z=>k (Qe z) [])
theorem zKA(L:Nat):DK (zwD zaO L) (fun _=>zj zcK (zcG xn L) L cf_ref02_Len):=xo zbR fun z=>zK fun _ k=>zJi xn L z k
def zyq:Hint:=⟨[(6,9)],[],[none,some ((bl 732 29),(bl 522190591 29)),none,some ((bl 208 29),(bl 522190579 29)),none,none],[],[],false,false,[]⟩
def cf_ref02_Add:CF:=cfD zyq 198
def zlt:CC:=yy [1,1,1,0,1,0,0] cf_ref02_Add.body
def zwi:CC:=yy [1,1,1,1] cf_ref02_Add.body
def zdn:Nat→Sh:=xC [(16,(.int .u64)),(19,(.int .u64))]
def zdF(L:Nat):CBC:=noC
def zmp:St→St:=zM 0 (bl 732 29) (bl 522190591 29)
def zfV(E F:Int)(G H:List V)(z A C D:Int)(I:List V):St:=⟨(jn 2 ((V.ptr 2 0)::((V.ptr 3 0)::((V.ptr 4 0)::(jn 1 ((V.ptr 6 0)::((Qd E)::(jn 1 ((Qe F)::(jn 19 [])))))))))),(gn 2 ((.live true G)::((.live true H)::((.live true [(Qd z),(Qd A),(Qd C),(Qd D)])::(gn 1 ((.live true I)::(gn 22 [])))))))⟩
def zpT(E z A C D:Int)(F:List V):St:=⟨(jn 4 ((V.ptr 4 0)::(jn 1 ((V.ptr 6 0)::((Qd E)::(jn 21 [])))))),(gn 4 ((.live true [(Qd z),(Qd A),(Qd C),(Qd D)])::(gn 1 ((.live true F)::(gn 22 [])))))⟩
abbrev zsr(β:Type):Type:=Int→Int→List V→List V→Int→Int→Int→Int→List V→Ob β
section
variable {β:Type}
def zFs(L:Nat)(A C:List V)(z:zsr β):Ob β:=z (0:Int) (0:Int) A C (0:Int) (0:Int) (0:Int) (0:Int) [(Qd (0:Int)),(Qd (0:Int)),(Qd (0:Int)),(Qd (0:Int))]
theorem zJ9(L:Nat)(E F:List V)(k:KK β):zj zdn (zdF L) L cf_ref02_Add [(V.agg E),(V.agg F)] [] k=zFs L E F (fun G H I J z A C D M=>yt (xd zdn (zdF L) 0 L zlt) zmp L (zfV G H I J z A C D M) (zi 0 (yr (xd zdn (zdF L) 0 L zwi) (zy 0 (CF.res cf_ref02_Add) k)))):=by kernel_rfl
def zts(L:Nat)(C z:Int)(J M:List V)(D E F G:Int)(H:List V)(A:zsr β)(I:Int→Int→Int→Int→Int→List V→Ob β):Ob β:=ifb (decide (z<(4:Int))) (chk (0≤z∧z<((4:Nat):Int)) (cI .u64 J (0+((XL z)*1)) fun N=>chk (0≤z∧z<((4:Nat):Int)) (cI .u64 M (0+((XL z)*1)) fun O=>chk (C=0∨C=1) (lt (zJB false N O C) fun P=>lt (zKd false N O C) fun Q=>chk (0≤z∧z<((4:Nat):Int)) (chk (1=1∧(0+((XL z)*1))+1≤(XK H)) (lt (yd H (0+((XL z)*1)) [(Qd P)]) fun R=>lt (QG .i64 ((z:Int)+(1:Int))) fun S=>A Q S J M D E F G R)))))) (I C D E F G H)
theorem zz4(L:Nat)(E G:Int)(H I:List V)(z A C D:Int)(F:List V)(X:St→Ob β)(K:KT β):xd zdn (zdF L) 0 L zlt (zfV E G H I z A C D F) (zI zmp X K)=zts L E G H I z A C D F (fun E G H I z A C D F=>X (zfV E G H I z A C D F)) (fun E z A C D F=>K (.exit 0) (zpT E z A C D F)):=by kernel_rfl
def zqu(L:Nat)(H A C D E:Int)(F:List V)(z:List V→Bool→Ob β):Ob β:=chk (0+4≤(XK F)) (chk ((XK (XM 4 F))=4∧0+4≤4) (lt (yd [(Qd A),(Qd C),(Qd D),(Qd E)] 0 (XM 4 F)) fun G=>chk (0=0∧(XK G)=4∧4≠0) (z G ((H:Int)==(1:Int)))))
theorem zw4(L:Nat)(G z A C D:Int)(H:List V)(k:KK β):(zi 0 (yr (xd zdn (zdF L) 0 L zwi) (zy 0 (CF.res cf_ref02_Add) k))) (.exit 0) (zpT G z A C D H)=zqu L G z A C D H (fun E F=>k (V.tup [(V.agg E),(V.sc (.bool F))]) []):=by kernel_rfl
def zmG(L:Nat)(E:Int→Int→Int→Int→Int→List V→Ob β):Nat→Int→Int→List V→List V→Int→Int→Int→Int→List V→Ob β
 | 0,_,_,_,_,_,_,_,_,_=>none
 | n+1,F,G,H,I,z,A,C,D,J=>zts L F G H I z A C D J (fun F G H I z A C D J=>zmG L E n F G H I z A C D J) E
theorem zo4(L:Nat)(K:KT β):∀ (n:Nat) (E G:Int) (H I:List V) (z A C D:Int) (F:List V),yt (xd zdn (zdF L) 0 L zlt) zmp n (zfV E G H I z A C D F) K=zmG L (fun E z A C D F=>K (.exit 0) (zpT E z A C D F)) n E G H I z A C D F:=by
 intro n; induction n <;> intros
 ·rfl
 ·exact (zz4 ..).trans (by simp only [*]; rfl)
end
def zwU{β:Type}(L:Nat)(H I:List V)(E:List V→Bool→Ob β):Ob β:=zFs L H I (fun F J M N z A C D G=>zmG L (fun F z A C D G=>zqu L F z A C D G E) L F J M N z A C D G)
theorem zJT{β:Type}(L:Nat)(z A:List V)(k:KK β):zj zdn (zdF L) L cf_ref02_Add [(V.agg z),(V.agg A)] [] k=zwU L z A (fun C D=>k (V.tup [(V.agg C),(V.sc (.bool D))]) []):=by
 refine (zJ9 L z A k).trans ?_
 unfold zwU
 first
  | (simp only [zo4,zw4]; done)
  | (simp only [zo4]; rfl)
abbrev zjw:=∀ (β:Type),Nat→List V→List V→(List V→Bool→Ob β)→Ob β
def xK:zjw:=fun β=>@zwU β
def zxj(xK:zjw)(L:Nat):Dk:=dA AG fun C=>dA AG fun D=>d0 fun β k=>xK β L C D (fun z A=>k (V.tup [(V.agg z),(V.sc (.bool A))]) [])
theorem zJ1(L:Nat):DK (zxj xK L) (fun _=>zj zdn (zdF L) L cf_ref02_Add):=xo zbR fun z=>xo zbR fun A=>zK fun _ k=>zJT L z A k
def zyW:Hint:=⟨[(5,3)],[],[none,none,none,some ((bl 22 19),(bl 294911 19)),none,some ((bl 20 19),(bl 294909 19)),none,none],[],[],false,false,[]⟩
def cf_ref02_Shl:CF:=cfD zyW 191
def zn2:CC:=yy [1,1,0,0,0] cf_ref02_Shl.body
def zyE:CC:=yy [1,1,1] cf_ref02_Shl.body
def zdo:Nat→Sh:=xC []
def zdA(xK:zjw)(L:Nat):CBC:=(xp 593 (zxj xK L) noC)
def zpb:St→St:=zM 0 (bl 22 19) (bl 294911 19)
def zhh(E:Int)(F:List V)(z A C D:Int):St:=⟨(jn 1 ((Qe E)::((V.ptr 2 0)::(jn 1 ((V.ptr 4 0)::(jn 14 [])))))),(gn 2 ((.live true F)::(gn 1 ((.live true [(Qd z),(Qd A),(Qd C),(Qd D)])::(gn 14 [])))))⟩
def zp7(E:List V)(z A C D:Int):St:=⟨(jn 2 ((V.ptr 2 0)::(jn 1 ((V.ptr 4 0)::(jn 14 []))))),(gn 2 ((.live true E)::(gn 1 ((.live true [(Qd z),(Qd A),(Qd C),(Qd D)])::(gn 14 [])))))⟩
section
variable {β:Type} (xK:zjw)
def zFz(L:Nat)(E:List V)(C:Int)(A:List V→Ob β)(z:Int→List V→Int→Int→Int→Int→Ob β):Ob β:=ifb (decide (C≥(256:Int))) (lt [(Qd (0:Int)),(Qd (0:Int)),(Qd (0:Int)),(Qd (0:Int))] fun D=>chk (0=0∧(XK D)=4∧4≠0) (A D)) (z C E (0:Int) (0:Int) (0:Int) (0:Int))
theorem zJq(L:Nat)(z:List V)(A:Int)(k:KK β):zj zdo (zdA xK L) L cf_ref02_Shl [(V.agg z),(Qe A)] [] k=zFz L z A (fun z=>k (V.agg z) []) (fun A G C D E F=>yt (xd zdo (zdA xK L) 0 L zn2) zpb L (zhh A G C D E F) (zi 0 (yr (xd zdo (zdA xK L) 0 L zyE) (zy 0 (CF.res cf_ref02_Shl) k)))):=by kernel_rfl
def zvL(L:Nat)(H:Int)(z:List V)(C D E F:Int)(A:Int→List V→Int→Int→Int→Int→Ob β)(G:List V→Int→Int→Int→Int→Ob β):Ob β:=ifb (decide (H>(0:Int))) (chk (0+4≤(XK z)) (chk (0+4≤(XK z)) (xK β L (XM 4 z) (XM 4 z) (fun I N=>chk ((XK I)=4∧0+4≤(XK z)) (lt (yd z 0 I) fun J=>lt (QG .i64 ((H:Int)-(1:Int))) fun M=>A M J C D E F))))) (G z C D E F)
theorem zBU(L:Nat)(F:Int)(E:List V)(z A C D:Int)(X:St→Ob β)(K:KT β):xd zdo (zdA xK L) 0 L zn2 (zhh F E z A C D) (zI zpb X K)=zvL xK L F E z A C D (fun F E z A C D=>X (zhh F E z A C D)) (fun E z A C D=>K (.exit 0) (zp7 E z A C D)):=by kernel_rfl
def ztm(L:Nat)(A:List V)(C D E F:Int)(z:List V→Ob β):Ob β:=chk (0+4≤(XK A)) (chk ((XK (XM 4 A))=4∧0+4≤4) (lt (yd [(Qd C),(Qd D),(Qd E),(Qd F)] 0 (XM 4 A)) fun G=>chk (0=0∧(XK G)=4∧4≠0) (z G)))
theorem zzX(L:Nat)(E:List V)(z A C D:Int)(k:KK β):(zi 0 (yr (xd zdo (zdA xK L) 0 L zyE) (zy 0 (CF.res cf_ref02_Shl) k))) (.exit 0) (zp7 E z A C D)=ztm L E z A C D (fun F=>k (V.agg F) []):=by kernel_rfl
def zpm(L:Nat)(E:List V→Int→Int→Int→Int→Ob β):Nat→Int→List V→Int→Int→Int→Int→Ob β
 | 0,_,_,_,_,_,_=>none
 | n+1,F,G,z,A,C,D=>zvL xK L F G z A C D (fun F G z A C D=>zpm L E n F G z A C D) E
theorem zse(L:Nat)(K:KT β):∀ (n:Nat) (F:Int) (E:List V) (z A C D:Int),yt (xd zdo (zdA xK L) 0 L zn2) zpb n (zhh F E z A C D) K=zpm xK L (fun E z A C D=>K (.exit 0) (zp7 E z A C D)) n F E z A C D:=by
 intro n; induction n <;> intros
 ·rfl
 ·exact (zBU ..).trans (by simp only [*]; rfl)
end
def zwC{β:Type}(xK:zjw)(L:Nat)(H:List V)(F:Int)(E:List V→Ob β):Ob β:=zFz L H F E (fun F G z A C D=>zpm xK L (fun G z A C D=>ztm L G z A C D E) L F G z A C D)
theorem zKb{β:Type}(xK:zjw)(L:Nat)(z:List V)(A:Int)(k:KK β):zj zdo (zdA xK L) L cf_ref02_Shl [(V.agg z),(Qe A)] [] k=zwC xK L z A (fun z=>k (V.agg z) []):=by
 refine (zJq xK L z A k).trans ?_
 unfold zwC
 first
  | (simp only [zse,zzX]; done)
  | (simp only [zse]; rfl)
abbrev zmS:=∀ (β:Type),Nat→List V→Int→(List V→Ob β)→Ob β
def zaH:zmS:=fun β=>@zwC β xK
def zxd(zaH:zmS)(L:Nat):Dk:=dA AG fun z=>dA (AI .i64) fun A=>d0 fun β k=>zaH β L z A (fun z=>k (V.agg z) [])
theorem zKj(L:Nat):DK (zxd zaH L) (fun _=>zj zdo (zdA xK L) L cf_ref02_Shl):=xo zbR fun z=>xo z8 fun A=>zK fun _ k=>zKb xK L z A k
def ztq:Hint:=⟨[],[],[none,none,none,none,none,none,none,none],[],[],false,false,[]⟩
def zwo:CF:=cfD ztq 171
def zoL:Nat→Sh:=xC []
def zpl(xS:zf8)(zaP:znq)(xY:zkG)(zaO:zmR)(zaH:zmS)(L:Nat):CBC:=(xp 566 (zxd zaH L) (xp 565 (zwD zaO L) (xp 553 (zuH xY L) (xp 513 (zxn zaP L) (xp 562 (znV xS L) noC)))))
def zxV{β:Type}(xS:zf8)(zaP:znq)(xY:zkG)(zaO:zmR)(zaH:zmS)(L:Nat)(T:Int)(z:List V→Int→Ob β):Ob β:=lt (zb1 .u32 T (24:Int)) fun x0=>lt (QG .i64 x0) fun G=>lt (zee .u32 T (16777215:Int)) fun x2=>lt (QG .u64 x2) fun x3=>xS β L x3 (fun U=>chk ((XK U)=4∧0+4≤4) (lt (yd [(Qd (0:Int)),(Qd (0:Int)),(Qd (0:Int)),(Qd (0:Int))] 0 U) fun A=>lt (zee .u32 T (8388608:Int)) fun x6=>ifb ((x6:Int) != (0:Int)) (lt [(Qd (0:Int)),(Qd (0:Int)),(Qd (0:Int)),(Qd (0:Int))] fun W=>chk (0=0∧(XK W)=4∧4≠0) (z W (120:Int))) (chk (0+4≤(XK A)) (chk ((XK (XM 4 A))=4∧0+4≤4) (lt (yd [(Qd (0:Int)),(Qd (0:Int)),(Qd (0:Int)),(Qd (0:Int))] 0 (XM 4 A)) fun F=>ifb (decide (G<(3:Int))) (chk (0+4≤(XK A)) (lt (QG .i64 (((3:Int):Int)-G)) fun x9=>lt (QG .i64 (((8:Int):Int)*x9)) fun X=>zaP β L (XM 4 A) X (fun H=>chk ((XK H)=4∧0+4≤(XK F)) (lt (yd F 0 H) fun C=>chk (0+4≤(XK C)) (xY β L (XM 4 C) (fun Y=>ifb Y (lt [(Qd (0:Int)),(Qd (0:Int)),(Qd (0:Int)),(Qd (0:Int))] fun I=>chk (0=0∧(XK I)=4∧4≠0) (z I (120:Int))) (chk (0+4≤(XK C)) (chk ((XK (XM 4 C))=4∧0+4≤4) (lt (yd [(Qd (0:Int)),(Qd (0:Int)),(Qd (0:Int)),(Qd (0:Int))] 0 (XM 4 C)) fun J=>chk (0=0∧(XK J)=4∧4≠0) (z J (0:Int))))))))))) (chk (0+4≤(XK A)) (xY β L (XM 4 A) (fun Z=>ifb (!Z) (chk (0+4≤(XK A)) (zaO β L (XM 4 A) (fun aa=>lt (QG .i64 ((G:Int)-(3:Int))) fun ab=>lt (QG .i64 (((8:Int):Int)*ab)) fun ac=>lt (QG .i64 ((aa:Int)+ac)) fun ad=>ifb (decide (ad>(256:Int))) (lt [(Qd (0:Int)),(Qd (0:Int)),(Qd (0:Int)),(Qd (0:Int))] fun M=>chk (0=0∧(XK M)=4∧4≠0) (z M (120:Int))) (chk (0+4≤(XK A)) (lt (QG .i64 ((G:Int)-(3:Int))) fun ae=>lt (QG .i64 (((8:Int):Int)*ae)) fun af=>zaH β L (XM 4 A) af (fun N=>chk ((XK N)=4∧0+4≤(XK F)) (lt (yd F 0 N) fun D=>chk (0+4≤(XK D)) (xY β L (XM 4 D) (fun ag=>ifb ag (lt [(Qd (0:Int)),(Qd (0:Int)),(Qd (0:Int)),(Qd (0:Int))] fun O=>chk (0=0∧(XK O)=4∧4≠0) (z O (120:Int))) (chk (0+4≤(XK D)) (chk ((XK (XM 4 D))=4∧0+4≤4) (lt (yd [(Qd (0:Int)),(Qd (0:Int)),(Qd (0:Int)),(Qd (0:Int))] 0 (XM 4 D)) fun P=>chk (0=0∧(XK P)=4∧4≠0) (z P (0:Int)))))))))))))) (chk (0+4≤(XK A)) (lt (QG .i64 ((G:Int)-(3:Int))) fun ah=>lt (QG .i64 (((8:Int):Int)*ah)) fun ai=>zaH β L (XM 4 A) ai (fun Q=>chk ((XK Q)=4∧0+4≤(XK F)) (lt (yd F 0 Q) fun E=>chk (0+4≤(XK E)) (xY β L (XM 4 E) (fun aj=>ifb aj (lt [(Qd (0:Int)),(Qd (0:Int)),(Qd (0:Int)),(Qd (0:Int))] fun R=>chk (0=0∧(XK R)=4∧4≠0) (z R (120:Int))) (chk (0+4≤(XK E)) (chk ((XK (XM 4 E))=4∧0+4≤4) (lt (yd [(Qd (0:Int)),(Qd (0:Int)),(Qd (0:Int)),(Qd (0:Int))] 0 (XM 4 E)) fun S=>chk (0=0∧(XK S)=4∧4≠0) (z S (0:Int)))))))))))))))))))
theorem zE4{β:Type}(xS:zf8)(zaP:znq)(xY:zkG)(zaO:zmR)(zaH:zmS)(L:Nat)(C:Int)(k:KK β):zj zoL (zpl xS zaP xY zaO zaH L) L zwo [(Qc C)] [] k=zxV xS zaP xY zaO zaH L C (fun z A=>k (V.tup [(V.agg z),(Qe A)]) []):=by kernel_rfl
abbrev zxP:=∀ (β:Type),Nat→Int→(List V→Int→Ob β)→Ob β
def zej:zxP:=fun β=>@zxV β xS zaP xY zaO zaH
def zqP(zej:zxP)(L:Nat):Dk:=dA (AI .u32) fun C=>d0 fun β k=>zej β L C (fun z A=>k (V.tup [(V.agg z),(Qe A)]) [])
theorem zED(L:Nat):DK (zqP zej L) (fun _=>zj zoL (zpl xS zaP xY zaO zaH L) L zwo):=xo z8 fun z=>zK fun _ k=>zE4 xS zaP xY zaO zaH L z k
def zJg:Hint:=⟨[],[],[none],[],[],false,false,[]⟩
def zFX:Hint:=⟨[(0,0)],[],[none],[],[],false,false,[]⟩
def zKu:Hint:=⟨[],[],[none,some ((bl 44 24),(bl 16777199 24)),none,some ((bl 0 24),(bl 16777155 24)),none,none,some ((bl 16 24),(bl 16777171 24)),none,some ((bl 16 24),(bl 16777171 24)),none],[],[],false,false,[]⟩
def zFZ:Hint:=⟨[(0,0),(11,4)],[],[none,none,none,none,none,some ((bl 4035225266123964418 107),(bl 162259276829213363391578010288067 107)),none,some ((bl 2 107),(bl 162259276829213363391578010288067 107)),none,none,some ((bl 4 107),(bl 162259276829213363391578010288069 107)),none],[],[],false,false,[]⟩
def zEP:Hint:=⟨[(0,0),(1,2),(7,0),(7,1)],[(1,1)],[none,some ((bl 3105 24),(bl 16777151 24)),none,some ((bl 32 24),(bl 16777151 24)),none,none],[],[],false,false,[]⟩
def zzY:Hint:=⟨[(0,0),(1,5)],[],[none],[],[],false,false,[]⟩
def zyB:Hint:=⟨[(0,1),(1,3)],[],[none],[],[],false,false,[]⟩
def zvz:Hint:=⟨[(0,1),(1,3),(2,7),(6,3),(8,0),(8,1)],[],[none,some ((bl 29360136 33),(bl 7516192733 33)),none,some ((bl 8 33),(bl 7516192733 33)),none,none],[],[],false,false,[]⟩
def zHt:Hint:=⟨[],[],[none],[],[],false,false,[]⟩
def zGX:Hint:=⟨[(0,0),(0,1)],[],[none,none,none],[],[],false,false,[]⟩
def zFO:Hint:=⟨[(0,0),(0,1)],[],[none,none,none],[],[],false,false,[]⟩
def zH0:Hint:=⟨[(0,0),(1,2),(2,2),(2,5),(3,2),(3,5)],[],[none],[],[],false,false,[]⟩
def zLQ:Hint:=⟨[(0,0),(2,0),(3,5)],[],[none,none,none],[],[],false,false,[]⟩
def zFJ:Hint:=⟨[(0,0),(1,4)],[],[none],[],[],false,false,[]⟩
def zHK:Hint:=⟨[(0,0),(0,1),(3,10),(7,1),(8,1)],[],[none,none],[],[],false,false,[]⟩
def zyK:Hint:=⟨[(0,0),(2,4),(4,6),(6,6),(7,6)],[],[none,none,none,none,none,none,none,none],[],[],false,false,[]⟩
def zGe:Hint:=⟨[(0,1),(1,6)],[],[none],[],[],false,false,[]⟩
def zz7:Hint:=⟨[(0,0),(1,4)],[],[none],[],[],false,false,[]⟩
def zxb:Hint:=⟨[(0,0),(1,7)],[],[none],[],[],false,false,[]⟩
def zJt:Hint:=⟨[(0,0),(0,1),(1,7)],[],[none],[],[],false,false,[]⟩
def zEx:Hint:=⟨[(0,0),(0,1),(1,3),(2,6),(5,2),(6,0),(6,8),(8,6),(11,2),(12,0),(12,4),(14,4),(17,2),(19,6),(23,3),(26,0),(26,1)],[],[none,some ((bl 117440550 89),(bl 618970019642689974240802175 89)),none,some ((bl 38 89),(bl 618970019642689974240802175 89)),none,none,some ((bl 492581209243686 89),(bl 618970019588646941921113471 89)),none,some ((bl 38 89),(bl 618970019588646941921113471 89)),none,none,some ((bl 32281802128991715362 89),(bl 579934938295289650113140091 89)),none,some ((bl 32 89),(bl 579934938295289650113140091 89)),none,none,some ((bl 32 89),(bl 579934938295289650113140091 89)),none,some ((bl 1057842373964929519583266 89),(bl 580284393415022003858953595 89)),none,some ((bl 32281802128991715362 89),(bl 580284393415022003858953595 89)),none,none],[],[],false,false,[]⟩
def zHs:Hint:=⟨[(0,0),(5,2),(11,2)],[],[none,none,none,some ((bl 7340034 63),(bl 9223372032559808427 63)),none,some ((bl 2 63),(bl 9223372032559808427 63)),none,none,some ((bl 4 63),(bl 9223372032559808429 63)),none,some ((bl 962072674306 63),(bl 9186745105510301355 63)),none,some ((bl 2 63),(bl 9186745105510301355 63)),none,none,some ((bl 4 63),(bl 9186745105510301357 63)),none,some ((bl 1971286909648898 63),(bl 9187343239835811499 63)),none,some ((bl 962072674306 63),(bl 9187343239835811499 63)),none,none,some ((bl 4 63),(bl 9186745105510301357 63)),none],[],[],false,false,[]⟩
def zL3:Hint:=⟨[(0,0)],[],[none,none,none],[],[],false,false,[]⟩
def zw0:Hint:=⟨[(0,0),(0,1),(0,2),(1,0),(3,3),(12,4),(14,5),(14,8),(15,0),(15,7),(16,4),(16,9),(20,3),(21,0),(21,12),(23,0),(23,2)],[],[none,some ((bl 3868 113),(bl 9411032330560892913360804356558847 113)),none,some ((bl 768 113),(bl 9411032330560892913360804356555751 113)),none,none,some ((bl 16156 113),(bl 9411032330560892913360806504054783 113)),none,some ((bl 3868 113),(bl 9411032330560892913360806504046591 113)),none,none,none,none,some ((bl 17331160549995323848588005148 113),(bl 9411038056094375076711524595040255 113)),none,some ((bl 3868 113),(bl 9411038056094375076711524594778111 113)),none,some ((bl 3868 113),(bl 9411032330560892913360806504046591 113)),none],[],[],false,false,[]⟩
def zDG:Hint:=⟨[(0,0)],[],[none,none,none,some ((bl 96 31),(bl 2147483643 31)),none,some ((bl 32 31),(bl 2147483579 31)),none,none],[],[],false,false,[]⟩
def zJh:Hint:=⟨[],[],[none],[],[],false,false,[]⟩
def zCM:Hint:=⟨[(0,0)],[],[none],[],[],false,false,[]⟩
def zIK:Hint:=⟨[(0,0)],[],[none,none,none],[],[],false,false,[]⟩
def zIX:Hint:=⟨[(0,0),(1,0),(5,3),(7,0),(7,1)],[],[none,some ((bl 456 17),(bl 114655 17)),none,some ((bl 8 17),(bl 114655 17)),none,none],[],[],false,false,[]⟩
def zIR:Hint:=⟨[],[],[none],[(1,[2,3])],[],false,false,[]⟩
def zEm:Hint:=⟨[(0,0),(1,2),(3,0),(8,0),(8,13),(9,0),(9,7),(10,0),(10,5),(11,0),(11,1)],[],[none,some ((bl 9 48),(bl 225369817865679 48)),none,some ((bl 8 48),(bl 225369817865678 48)),none,none,some ((bl 57 48),(bl 278146375999487 48)),none,some ((bl 24 48),(bl 278146375999455 48)),none,none,none],[],[],false,false,[]⟩
def zHu:Hint:=⟨[],[],[none,none,none],[],[],false,false,[]⟩
def zHN:Hint:=⟨[(1,0),(4,2),(5,0),(5,5)],[],[none,some ((bl 460 20),(bl 933855 20)),none,some ((bl 12 20),(bl 933855 20)),none,none],[],[],false,false,[]⟩
def zE5:Hint:=⟨[],[],[none],[],[],false,false,[]⟩
def zzF:Hint:=⟨[],[],[none],[],[],false,false,[]⟩
def zJ3:Hint:=⟨[(9,7),(10,7),(11,3)],[],[none,some ((bl 32892 71),(bl 2361183116363495866495 71)),none,some ((bl 112 71),(bl 2361183116363495866483 71)),none,none,some ((bl 295420 71),(bl 2361183116363495866879 71)),none,some ((bl 33276 71),(bl 2361183116363495866879 71)),none,none],[],[],false,false,[]⟩
def zKh:Hint:=⟨[(6,9)],[],[none,some ((bl 732 29),(bl 522190591 29)),none,some ((bl 208 29),(bl 522190579 29)),none,none],[],[],false,false,[]⟩
def zKs:Hint:=⟨[(8,3),(12,3)],[],[none,none,none,some ((bl 752 61),(bl 2304855642529070071 61)),none,some ((bl 192 61),(bl 2304855642529069511 61)),none,none,none,none],[],[],false,false,[]⟩
def zCZ:Hint:=⟨[],[],[none,none,none,some ((bl 10 40),(bl 1096816721899 40)),none,none,none,none,none,some ((bl 4 40),(bl 1096816721893 40))],[],[],false,false,[]⟩
def zEO:Hint:=⟨[(0,0),(3,2),(10,4),(11,5)],[],[none,none,none,none,none,none,none,none],[],[],false,false,[]⟩
def zIw:Hint:=⟨[(0,0),(0,1)],[],[none,none,none,none,none],[],[],false,false,[]⟩
def zEE:Hint:=⟨[(1,0),(8,6),(8,11)],[],[none,some ((bl 904 48),(bl 281264523280287 48)),none,some ((bl 8 48),(bl 281264523280287 48)),none,none,some ((bl 1000 48),(bl 281474976677887 48)),none,some ((bl 1000 48),(bl 281474976677887 48)),none,none,none,none],[],[],false,false,[]⟩
def zAp:Hint:=⟨[],[],[none,some ((bl 78 27),(bl 134217679 27)),none,some ((bl 12 27),(bl 134217677 27)),none,none],[],[],false,false,[]⟩
def zF0:Hint:=⟨[(1,2)],[],[none],[],[],false,false,[]⟩
def zJL:Hint:=⟨[(0,0),(0,1),(1,3)],[],[none,some ((bl 2816 45),(bl 29686813949839 45)),none,some ((bl 2304 45),(bl 29686813949839 45)),none,none,some ((bl 256 45),(bl 29686813947791 45)),none],[],[],false,false,[]⟩
def zIE:Hint:=⟨[(0,0),(0,1),(0,2),(0,3),(1,4),(1,5),(2,18)],[],[none],[],[],false,false,[]⟩
def zDb:Hint:=⟨[],[],[none,some ((bl 76 40),(bl 1099511627727 40)),none,some ((bl 12 40),(bl 1099511627727 40)),none,none,some ((bl 16 40),(bl 1099511627731 40)),none,some ((bl 16 40),(bl 1099511627731 40)),none,none,none,none,none,none],[],[],false,false,[]⟩
def zGU:Hint:=⟨[(0,0),(6,3)],[],[none,none,none,some ((bl 14680074 80),(bl 1208335523803170957426635 80)),none,some ((bl 0 80),(bl 1208335523803170957426625 80)),none,none,some ((bl 4 80),(bl 1208335523803170957426629 80)),none,some ((bl 4 80),(bl 1208335523803170957426629 80)),none,some ((bl 4 80),(bl 1208335523803170957426629 80)),none],[],[],false,false,[]⟩
def zEC:Hint:=⟨[(0,0),(0,1),(2,0),(3,3)],[],[none,none,none],[],[],false,false,[]⟩
def zEb:Hint:=⟨[(0,0),(0,1),(1,8),(4,2),(5,2),(5,3),(6,0),(6,3),(8,0),(8,1)],[],[none,some ((bl 917512 33),(bl 7281311517 33)),none,some ((bl 8 33),(bl 7281311517 33)),none,none],[],[],false,false,[]⟩
def zHq:Hint:=⟨[(0,0),(5,2)],[],[none,none,none,some ((bl 7170 24),(bl 16646123 24)),none,some ((bl 2 24),(bl 16646123 24)),none,none,some ((bl 4 24),(bl 16646125 24)),none],[],[],false,false,[]⟩
def zHD:Hint:=⟨[],[],[none],[],[],false,false,[]⟩
def zBo:Hint:=⟨[(0,0)],[],[none],[],[],false,false,[]⟩
def zFH:Hint:=⟨[(0,0),(8,2),(26,2)],[],[none,none,none,none,none,some ((bl 117440522 81),(bl 2417851639229258349411803 81)),none,some ((bl 10 81),(bl 2417851639229258349411803 81)),none,none,some ((bl 4 81),(bl 2417851639229258349411797 81)),none,none,none,some ((bl 13194139533314 81),(bl 2417851639229258349411611 81)),none,some ((bl 2 81),(bl 2417851639229258349411611 81)),none,none,some ((bl 13194139533506 81),(bl 2417851639229258349411803 81)),none,some ((bl 13194139533314 81),(bl 2417851639229258349411675 81)),none,none,some ((bl 4 81),(bl 2417851639229258349411613 81)),none,some ((bl 516508834063867445250 81),(bl 2247846445845951121718747 81)),none,some ((bl 0 81),(bl 2247846445845951121718745 81)),none,none,some ((bl 4 81),(bl 2247846445845951121718749 81)),none],[],[],false,false,[]⟩
def zFK:Hint:=⟨[],[],[none,some ((bl 393 19),(bl 524239 19)),none,some ((bl 0 19),(bl 524231 19)),none,none,some ((bl 16 19),(bl 524247 19)),none],[],[],false,false,[]⟩
def zDq:Hint:=⟨[(0,0),(3,3),(6,2)],[],[none,some ((bl 7170 33),(bl 8320974475 33)),none,some ((bl 0 33),(bl 8320974475 33)),none,none,some ((bl 1842210 33),(bl 8321498795 33)),none,some ((bl 7170 33),(bl 8321498795 33)),none,none,some ((bl 16 33),(bl 8320974491 33)),none],[],[],false,false,[]⟩
def zGu:Hint:=⟨[(0,0),(1,0),(4,2),(7,2),(14,0),(14,5)],[],[none,some ((bl 14344 42),(bl 3573378710873 42)),none,some ((bl 0 42),(bl 3573378710865 42)),none,none,some ((bl 1849352 42),(bl 3573379235161 42)),none,some ((bl 14344 42),(bl 3573379235161 42)),none,none,some ((bl 119289992 42),(bl 4398046510553 42)),none,some ((bl 1849480 42),(bl 4398046510553 42)),none,none,some ((bl 4 42),(bl 3573378710869 42)),none],[],[],false,false,[]⟩
def zF9:Hint:=⟨[(0,0),(7,3),(11,0),(14,2),(21,2),(25,0),(25,4)],[],[none,none,none,none,none,some ((bl 7340034 79),(bl 604462909807314318914403 79)),none,some ((bl 2 79),(bl 604462909807314318914403 79)),none,none,some ((bl 4 79),(bl 604462909807314318914405 79)),none,some ((bl 120259084322 79),(bl 604462909805115564094059 79)),none,some ((bl 34 79),(bl 604462909805115564094059 79)),none,none,some ((bl 4 79),(bl 604462909805115564094061 79)),none,some ((bl 985162418487330 79),(bl 604455830148700360930155 79)),none,some ((bl 34 79),(bl 604455830148700360930155 79)),none,none,some ((bl 4 79),(bl 604455830148700360930125 79)),none,none,none,none,none,none,none,none],[],[],false,false,[]⟩
def zGh:Hint:=⟨[(0,0),(5,2)],[],[none,none,none,some ((bl 57344 23),(bl 8388523 23)),none,some ((bl 0 23),(bl 8388523 23)),none,none,some ((bl 16 23),(bl 8388539 23)),none],[],[],false,false,[]⟩
def zGS:Hint:=⟨[(0,0),(0,1),(0,2)],[],[none,none,none,none,none,none,none,none,none,none,none,none,none,none],[],[],false,false,[]⟩
def zIV:Hint:=⟨[],[],[none,some ((bl 393 20),(bl 1048527 20)),none,some ((bl 0 20),(bl 1048519 20)),none,none,some ((bl 16 20),(bl 1048535 20)),none],[],[],false,false,[]⟩
def zBy:Hint:=⟨[(0,1)],[],[none],[],[],false,false,[]⟩
def zF6:Hint:=⟨[(0,0),(0,1),(0,2),(1,0),(4,2),(7,0),(8,0),(8,8),(12,2),(14,0),(16,0),(16,1)],[],[none,some ((bl 918554 57),(bl 144115067749616831 57)),none,some ((bl 1048 57),(bl 144115067749616831 57)),none,none,some ((bl 768 57),(bl 144115067749616559 57)),none,some ((bl 1924145349656 57),(bl 144115188075818175 57)),none,some ((bl 1024 57),(bl 144115188075818159 57)),none,none,some ((bl 768 57),(bl 144115188075818927 57)),none],[],[],false,false,[]⟩
end
end
end Go.Proofs.YtgmhijonllockaaGreatDoor
