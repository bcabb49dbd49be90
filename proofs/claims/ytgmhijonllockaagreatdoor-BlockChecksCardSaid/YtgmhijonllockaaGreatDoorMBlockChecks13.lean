/- Part 13 of the proof of BlockChecks: an abstract machine over plain values, its soundness, and the functions of the program on plain values. -/
import Derived.Test.YtgmhijonllockaaGreatDoorMBlockChecks12
namespace Go.Proofs.YtgmhijonllockaaGreatDoor
set_option maxRecDepth 100000
set_option linter.unusedVariables false
set_option linter.unusedSimpArgs false
open List renaming length->XK,take->XL,length_append->Wm,drop_of_length_le->WK,drop_zero->XQ,length_map->QB,nil_append->XR,getElem_mem->W2,replicate->We,map->Xv,drop_eq_getElem_cons->WQ,replicate_zero->XT
open IntKind renaming wrap->QG
open Int renaming toNat->XM
open Nat renaming mul_le_mul_right->WI
open Bool renaming true_and->XS,false_eq_true->WP
open Option renaming isSome_iff_exists->WR
section
noncomputable section
def zFC:Hint:=⟨[(0,0),(7,3),(11,0),(14,2),(21,2),(25,0),(25,4)],[],[none,none,none,none,none,some ((bl 7340034 79),(bl 604462909807314318914403 79)),none,some ((bl 2 79),(bl 604462909807314318914403 79)),none,none,some ((bl 4 79),(bl 604462909807314318914405 79)),none,some ((bl 120259084322 79),(bl 604462909805115564094059 79)),none,some ((bl 34 79),(bl 604462909805115564094059 79)),none,none,some ((bl 4 79),(bl 604462909805115564094061 79)),none,some ((bl 985162418487330 79),(bl 604455830148700360930155 79)),none,some ((bl 34 79),(bl 604455830148700360930155 79)),none,none,some ((bl 4 79),(bl 604455830148700360930125 79)),none,none,none,none,none,none,none,none],[],[],false,false,[]⟩
def cf_ref11_Check:CF:=cfD zFC 19
def zky:CC:=zE [1,1,1,1,1,1,0,1,0,0] cf_ref11_Check.body
def zli:CC:=zE [1,1,1,1,1,0,1,0,0] cf_ref11_Check.body
def znv:CC:=zE [1,1,1,1,1,1,1] cf_ref11_Check.body
def znN:CC:=zE [1,1,1,0,1,0,0] cf_ref11_Check.body
def zkh:CC:=zE [1,1,1,1,1,1] cf_ref11_Check.body
def zl1:CC:=zE [1,1,1,1] cf_ref11_Check.body
def y5:Nat→Sh:=zl [(16,(.sl 4)),(20,(.sl 4)),(34,(.sl 4)),(47,(.sl 4)),(73,(.sl 4))]
def y6(zj:yR)(za:yk)(yh:zO)(yn:zZ)(xc:zy)(xe:zK)(zi:yN)(xh:xN)(L:Nat):CBC:=(xg 474 (zwy xh L) (xg 558 (ztF zi L) (xg 557 (zps xe L) (xg 556 (zon xc L) (xg 517 (zLt yn L) (xg 132 (zoc yh L) (xg 153 (zfh za L) (xg 449 (zxo zj L) noC))))))))
def zo3:St→St:=zQ 0 (bl 7340034 79) (bl 604462909807314318914403 79)
def zmZ:St→St:=zQ 0 (bl 120259084322 79) (bl 604462909805115564094059 79)
def zlG:St→St:=zQ 0 (bl 985162418487330 79) (bl 604455830148700360930155 79)
def zhD(p:Ls)(z A:Int)(C:List V):St:=⟨(jn 1 ((V.ptr 1 0)::(jn 18 ((V.sl 4 p)::((Qe z)::((Qe A)::(jn 56 []))))))),(gn 1 ((.live true C)::(gn 77 [])))⟩
def zb2(p:Int):St:=⟨(jn 2 ((Qe p)::(jn 76 []))),(gn 79 [])⟩
def zlZ(p:List V):St:=⟨(jn 1 ((V.ptr 1 0)::(jn 77 []))),(gn 1 ((.live true p)::(gn 77 [])))⟩
def zf2(C p:Ls)(z A:Int)(D:List V):St:=⟨(jn 1 ((V.ptr 1 0)::(jn 3 ((V.gs 32 C)::(jn 28 ((V.sl 4 p)::((Qe z)::((Qe A)::(jn 42 []))))))))),(gn 1 ((.live true D)::(gn 77 [])))⟩
def zlV(p:Ls)(z:List V):St:=⟨(jn 1 ((V.ptr 1 0)::(jn 3 ((V.gs 32 p)::(jn 73 []))))),(gn 1 ((.live true z)::(gn 77 [])))⟩
def zfD(C p:Ls)(z A:Int)(D:List V):St:=⟨(jn 1 ((V.ptr 1 0)::(jn 3 ((V.gs 32 C)::(jn 41 ((V.sl 4 p)::((Qe z)::((Qe A)::(jn 29 []))))))))),(gn 1 ((.live true D)::(gn 77 [])))⟩
def zrY(p:Ls)(z:List V):St:=⟨(jn 1 ((V.ptr 1 0)::(jn 3 ((V.gs 32 p)::(jn 73 []))))),(gn 1 ((.live true z)::(gn 77 [])))⟩
abbrev ztg(β:Type):Type:=Ls→Ls→Int→Int→List V→Ob β
abbrev zrK(β:Type):Type:=Ls→Ls→Int→Int→List V→Ob β
def zBt{β:Type}(zj:yR)(za:yk)(yh:zO)(yn:zZ)(xc:zy)(xe:zK)(zi:yN)(xh:xN)(L:Nat)(A:List V)(z:Int→Ob β)(p:Ls→Int→Int→List V→Ob β):Ob β:=chk (0+69≤(XK A)) (zj β L (Xv V.dem (XL 69 A)) (fun D=>ifb (!D) (z (4:Int)) (cLd 4 A 68 fun E=>ifb ((((XK E:Nat):Int):Int)==(0:Int)) (z (93:Int)) (cLd 4 A 68 fun C=>p C ((XK C:Nat):Int) (0:Int) A))))
theorem zTk{β:Type}(zj:yR)(za:yk)(yh:zO)(yn:zZ)(xc:zy)(xe:zK)(zi:yN)(xh:xN)(L:Nat)(p:List V)(k:KK β):yj y5 (y6 zj za yh yn xc xe zi xh L) L cf_ref11_Check [(V.agg p)] [] k=zBt zj za yh yn xc xe zi xh L p (fun p=>k (Qe p) []) (fun z A C D=>xw (ze y5 (y6 zj za yh yn xc xe zi xh L) 0 L znN) zo3 L (zhD z A C D) (zg 0 (zu (ze y5 (y6 zj za yh yn xc xe zi xh L) 0 L zl1) (yz 0 (CF.res cf_ref11_Check) k)))):=by kernel_rfl
def zoT{β:Type}(zj:yR)(za:yk)(yh:zO)(yn:zZ)(xc:zy)(xe:zK)(zi:yN)(xh:xN)(L:Nat)(C:Ls)(D z:Int)(F:List V)(A:Int→Ob β)(p:Ls→Int→Int→List V→Ob β)(E:List V→Ob β):Ob β:=ifb (decide (z<D)) (idx C z fun G=>chk ((XK (XL 4 G))=4∧0+4≤4) (lt (zq [(Qc (0:Int)),(V.gs 35 ([]:Ls)),(V.gs 2 ([]:Ls)),(Qc (0:Int))] 0 (XL 4 G)) fun H=>chk (0+4≤(XK H)) (za β L (Xv V.dem (XL 4 H)) (fun I=>ifb (!(I==((z:Int)==(0:Int)))) (A (111:Int)) (lt (QG .i64 ((z:Int)+(1:Int))) fun J=>p C D J F))))) (E F)
theorem zI0{β:Type}(zj:yR)(za:yk)(yh:zO)(yn:zZ)(xc:zy)(xe:zK)(zi:yN)(xh:xN)(L:Nat)(p:Ls)(z A:Int)(C:List V)(X:St→Ob β)(K:KT β):ze y5 (y6 zj za yh yn xc xe zi xh L) 0 L znN (zhD p z A C) (yF zo3 X K)=zoT zj za yh yn xc xe zi xh L p z A C (fun D=>K .ret (zb2 D)) (fun p z A C=>X (zhD p z A C)) (fun C=>K (.exit 0) (zlZ C)):=by kernel_rfl
def zlB{β:Type}(zj:yR)(za:yk)(yh:zO)(yn:zZ)(xc:zy)(xe:zK)(zi:yN)(xh:xN)(L:Nat)(z:Int)(p:Int→Ob β):Ob β:=p z
theorem zCU{β:Type}(zj:yR)(za:yk)(yh:zO)(yn:zZ)(xc:zy)(xe:zK)(zi:yN)(xh:xN)(L:Nat)(p:Int)(k:KK β):(zg 0 (zu (ze y5 (y6 zj za yh yn xc xe zi xh L) 0 L zl1) (yz 0 (CF.res cf_ref11_Check) k))) .ret (zb2 p)=zlB zj za yh yn xc xe zi xh L p (fun z=>k (Qe z) []):=by kernel_rfl
def zmW{β:Type}(zj:yR)(za:yk)(yh:zO)(yn:zZ)(xc:zy)(xe:zK)(zi:yN)(xh:xN)(L:Nat)(z:List V)(p:ztg β):Ob β:=cLd 4 z 68 fun A=>p ([]:Ls) A ((XK A:Nat):Int) (0:Int) z
theorem zFp{β:Type}(zj:yR)(za:yk)(yh:zO)(yn:zZ)(xc:zy)(xe:zK)(zi:yN)(xh:xN)(L:Nat)(p:List V)(k:KK β):(zg 0 (zu (ze y5 (y6 zj za yh yn xc xe zi xh L) 0 L zl1) (yz 0 (CF.res cf_ref11_Check) k))) (.exit 0) (zlZ p)=zmW zj za yh yn xc xe zi xh L p (fun D z A C p=>xw (ze y5 (y6 zj za yh yn xc xe zi xh L) 0 L zli) zmZ L (zf2 D z A C p) (zg 2 (zu (ze y5 (y6 zj za yh yn xc xe zi xh L) 0 L zkh) (yz 0 (CF.res cf_ref11_Check) k)))):=by kernel_rfl
def zmN{β:Type}(zj:yR)(za:yk)(yh:zO)(yn:zZ)(xc:zy)(xe:zK)(zi:yN)(xh:xN)(L:Nat)(G C:Ls)(D z:Int)(H:List V)(A:Int→Ob β)(p:ztg β)(F:Ls→List V→Ob β):Ob β:=ifb (decide (z<D)) (idx C z fun I=>chk ((XK (XL 4 I))=4∧0+4≤4) (lt (zq [(Qc (0:Int)),(V.gs 35 ([]:Ls)),(V.gs 2 ([]:Ls)),(Qc (0:Int))] 0 (XL 4 I)) fun J=>chk (0+4≤(XK J)) (yh β L (Xv V.dem (XL 4 J)) (fun E=>ifb ((E:Int) != (0:Int)) (A E) (lt (QG .i64 ((z:Int)+(1:Int))) fun M=>p G C D M H))))) (F G H)
theorem zEH{β:Type}(zj:yR)(za:yk)(yh:zO)(yn:zZ)(xc:zy)(xe:zK)(zi:yN)(xh:xN)(L:Nat)(C p:Ls)(z A:Int)(D:List V)(X:St→Ob β)(K:KT β):ze y5 (y6 zj za yh yn xc xe zi xh L) 0 L zli (zf2 C p z A D) (yF zmZ X K)=zmN zj za yh yn xc xe zi xh L C p z A D (fun E=>K .ret (zb2 E)) (fun C p z A D=>X (zf2 C p z A D)) (fun C D=>K (.exit 2) (zlV C D)):=by kernel_rfl
def zjW{β:Type}(zj:yR)(za:yk)(yh:zO)(yn:zZ)(xc:zy)(xe:zK)(zi:yN)(xh:xN)(L:Nat)(z:Int)(p:Int→Ob β):Ob β:=p z
theorem zz9{β:Type}(zj:yR)(za:yk)(yh:zO)(yn:zZ)(xc:zy)(xe:zK)(zi:yN)(xh:xN)(L:Nat)(p:Int)(k:KK β):(zg 2 (zu (ze y5 (y6 zj za yh yn xc xe zi xh L) 0 L zkh) (yz 0 (CF.res cf_ref11_Check) k))) .ret (zb2 p)=zjW zj za yh yn xc xe zi xh L p (fun z=>k (Qe z) []):=by kernel_rfl
def zko{β:Type}(zj:yR)(za:yk)(yh:zO)(yn:zZ)(xc:zy)(xe:zK)(zi:yN)(xh:xN)(L:Nat)(C:Ls)(A:List V)(p:zrK β):Ob β:=cLd 4 A 68 fun z=>p C z ((XK z:Nat):Int) (0:Int) A
theorem zAV{β:Type}(zj:yR)(za:yk)(yh:zO)(yn:zZ)(xc:zy)(xe:zK)(zi:yN)(xh:xN)(L:Nat)(p:Ls)(z:List V)(k:KK β):(zg 2 (zu (ze y5 (y6 zj za yh yn xc xe zi xh L) 0 L zkh) (yz 0 (CF.res cf_ref11_Check) k))) (.exit 2) (zlV p z)=zko zj za yh yn xc xe zi xh L p z (fun p A C D z=>xw (ze y5 (y6 zj za yh yn xc xe zi xh L) 0 L zky) zlG L (zfD p A C D z) (zg 4 (zu (ze y5 (y6 zj za yh yn xc xe zi xh L) 0 L znv) (yz 0 (CF.res cf_ref11_Check) k)))):=by kernel_rfl
def zlI{β:Type}(zj:yR)(za:yk)(yh:zO)(yn:zZ)(xc:zy)(xe:zK)(zi:yN)(xh:xN)(L:Nat)(A E:Ls)(F C:Int)(M:List V)(D:Int→Ob β)(p:zrK β)(J:Ls→List V→Ob β):Ob β:=ifb (decide (C<F)) (idx E C fun G=>chk ((XK (XL 4 G))=4∧0+4≤4) (lt (zq [(Qc (0:Int)),(V.gs 35 ([]:Ls)),(V.gs 2 ([]:Ls)),(Qc (0:Int))] 0 (XL 4 G)) fun H=>chk (0+4≤(XK H)) (yn β L (Xv V.dem (XL 4 H)) (fun I=>chk ((XK I)=32∧0+32≤32) (lt (zq (We 32 (Qa (0:Int))) 0 I) fun z=>chk (0+32≤(XK z)) (xc β L A (XL 32 z) (fun N=>ifb (decide (N≥(0:Int))) (D (91:Int)) (chk (0+32≤(XK z)) (chk ((XK (XL 32 z))=32∧0+32≤32) (chk ((XK A+XK (xn 32 1 (zq (We 32 (Qa (0:Int))) 0 (XL 32 z))))*32≤xo∧XK A+XK (xn 32 1 (zq (We 32 (Qa (0:Int))) 0 (XL 32 z)))≤xo) (lt (A++(xn 32 1 (zq (We 32 (Qa (0:Int))) 0 (XL 32 z)))) fun O=>lt (QG .i64 ((C:Int)+(1:Int))) fun P=>p O E F P M))))))))))) (J A M)
theorem zCT{β:Type}(zj:yR)(za:yk)(yh:zO)(yn:zZ)(xc:zy)(xe:zK)(zi:yN)(xh:xN)(L:Nat)(C p:Ls)(z A:Int)(D:List V)(X:St→Ob β)(K:KT β):ze y5 (y6 zj za yh yn xc xe zi xh L) 0 L zky (zfD C p z A D) (yF zlG X K)=zlI zj za yh yn xc xe zi xh L C p z A D (fun E=>K .ret (zb2 E)) (fun C p z A D=>X (zfD C p z A D)) (fun C D=>K (.exit 4) (zrY C D)):=by kernel_rfl
def zfI{β:Type}(zj:yR)(za:yk)(yh:zO)(yn:zZ)(xc:zy)(xe:zK)(zi:yN)(xh:xN)(L:Nat)(z:Int)(p:Int→Ob β):Ob β:=p z
theorem zy8{β:Type}(zj:yR)(za:yk)(yh:zO)(yn:zZ)(xc:zy)(xe:zK)(zi:yN)(xh:xN)(L:Nat)(p:Int)(k:KK β):(zg 4 (zu (ze y5 (y6 zj za yh yn xc xe zi xh L) 0 L znv) (yz 0 (CF.res cf_ref11_Check) k))) .ret (zb2 p)=zfI zj za yh yn xc xe zi xh L p (fun z=>k (Qe z) []):=by kernel_rfl
def zgq{β:Type}(zj:yR)(za:yk)(yh:zO)(yn:zZ)(xc:zy)(xe:zK)(zi:yN)(xh:xN)(L:Nat)(G:Ls)(z:List V)(p:Int→Ob β):Ob β:=chk (0+69≤(XK z)) (xe β L (Xv V.dem (XL 69 z)) G (fun A=>ifb A (p (101:Int)) (chk (0+69≤(XK z)) (zi β L (Xv V.dem (XL 69 z)) (fun C=>ifb C (p (91:Int)) (cLd 4 z 68 fun D=>xh β L D (fun E=>chk (33+32≤(XK z)) (eqC 32 E (XL 32 (List.drop 33 z)) fun F=>ifb (!F) (p (110:Int)) (p (0:Int))))))))))
theorem zz5{β:Type}(zj:yR)(za:yk)(yh:zO)(yn:zZ)(xc:zy)(xe:zK)(zi:yN)(xh:xN)(L:Nat)(p:Ls)(z:List V)(k:KK β):(zg 4 (zu (ze y5 (y6 zj za yh yn xc xe zi xh L) 0 L znv) (yz 0 (CF.res cf_ref11_Check) k))) (.exit 4) (zrY p z)=zgq zj za yh yn xc xe zi xh L p z (fun A=>k (Qe A) []):=by kernel_rfl
def zg3{β:Type}(zj:yR)(za:yk)(yh:zO)(yn:zZ)(xc:zy)(xe:zK)(zi:yN)(xh:xN)(L:Nat)(p:Int→Ob β)(z:List V→Ob β):Nat→Ls→Int→Int→List V→Ob β
 | 0,_,_,_,_=>none
 | n+1,A,C,D,E=>zoT zj za yh yn xc xe zi xh L A C D E p (fun A C D E=>zg3 zj za yh yn xc xe zi xh L p z n A C D E) z
theorem zs9{β:Type}(zj:yR)(za:yk)(yh:zO)(yn:zZ)(xc:zy)(xe:zK)(zi:yN)(xh:xN)(L:Nat)(K:KT β):∀ (n:Nat) (z:Ls) (A C:Int) (p:List V),xw (ze y5 (y6 zj za yh yn xc xe zi xh L) 0 L znN) zo3 n (zhD z A C p) K=zg3 zj za yh yn xc xe zi xh L (fun D=>K .ret (zb2 D)) (fun p=>K (.exit 0) (zlZ p)) n z A C p:=by
 intro n; induction n <;> intros
 ·rfl
 ·exact (zI0 ..).trans (by simp only [*]; rfl)
def zfB{β:Type}(zj:yR)(za:yk)(yh:zO)(yn:zZ)(xc:zy)(xe:zK)(zi:yN)(xh:xN)(L:Nat)(p:Int→Ob β)(z:Ls→List V→Ob β):Nat→Ls→Ls→Int→Int→List V→Ob β
 | 0,_,_,_,_,_=>none
 | n+1,E,A,C,D,F=>zmN zj za yh yn xc xe zi xh L E A C D F p (fun E A C D F=>zfB zj za yh yn xc xe zi xh L p z n E A C D F) z
theorem zqF{β:Type}(zj:yR)(za:yk)(yh:zO)(yn:zZ)(xc:zy)(xe:zK)(zi:yN)(xh:xN)(L:Nat)(K:KT β):∀ (n:Nat) (p A:Ls) (C D:Int) (z:List V),xw (ze y5 (y6 zj za yh yn xc xe zi xh L) 0 L zli) zmZ n (zf2 p A C D z) K=zfB zj za yh yn xc xe zi xh L (fun E=>K .ret (zb2 E)) (fun p z=>K (.exit 2) (zlV p z)) n p A C D z:=by
 intro n; induction n <;> intros
 ·rfl
 ·exact (zEH ..).trans (by simp only [*]; rfl)
def ze1{β:Type}(zj:yR)(za:yk)(yh:zO)(yn:zZ)(xc:zy)(xe:zK)(zi:yN)(xh:xN)(L:Nat)(p:Int→Ob β)(z:Ls→List V→Ob β):Nat→Ls→Ls→Int→Int→List V→Ob β
 | 0,_,_,_,_,_=>none
 | n+1,E,A,C,D,F=>zlI zj za yh yn xc xe zi xh L E A C D F p (fun E A C D F=>ze1 zj za yh yn xc xe zi xh L p z n E A C D F) z
theorem zpx{β:Type}(zj:yR)(za:yk)(yh:zO)(yn:zZ)(xc:zy)(xe:zK)(zi:yN)(xh:xN)(L:Nat)(K:KT β):∀ (n:Nat) (p A:Ls) (C D:Int) (z:List V),xw (ze y5 (y6 zj za yh yn xc xe zi xh L) 0 L zky) zlG n (zfD p A C D z) K=ze1 zj za yh yn xc xe zi xh L (fun E=>K .ret (zb2 E)) (fun p z=>K (.exit 4) (zrY p z)) n p A C D z:=by
 intro n; induction n <;> intros
 ·rfl
 ·exact (zCT ..).trans (by simp only [*]; rfl)
def zgf{β:Type}(zj:yR)(za:yk)(yh:zO)(yn:zZ)(xc:zy)(xe:zK)(zi:yN)(xh:xN)(L:Nat)(z:Ls)(A:List V)(p:Int→Ob β):Ob β:=zko zj za yh yn xc xe zi xh L z A (fun z C D E A=>ze1 zj za yh yn xc xe zi xh L (fun F=>zfI zj za yh yn xc xe zi xh L F p) (fun z A=>zgq zj za yh yn xc xe zi xh L z A p) L z C D E A)
theorem zzS{β:Type}(zj:yR)(za:yk)(yh:zO)(yn:zZ)(xc:zy)(xe:zK)(zi:yN)(xh:xN)(L:Nat)(p:Ls)(z:List V)(k:KK β):(zg 2 (zu (ze y5 (y6 zj za yh yn xc xe zi xh L) 0 L zkh) (yz 0 (CF.res cf_ref11_Check) k))) (.exit 2) (zlV p z)=zgf zj za yh yn xc xe zi xh L p z (fun A=>k (Qe A) []):=by
 refine (zAV zj za yh yn xc xe zi xh L p z k).trans ?_
 unfold zgf
 first
  | (simp only [zpx,zy8,zz5]; done)
  | (simp only [zpx]; rfl)
def zhI{β:Type}(zj:yR)(za:yk)(yh:zO)(yn:zZ)(xc:zy)(xe:zK)(zi:yN)(xh:xN)(L:Nat)(z:List V)(p:Int→Ob β):Ob β:=zmW zj za yh yn xc xe zi xh L z (fun A C D E z=>zfB zj za yh yn xc xe zi xh L (fun F=>zjW zj za yh yn xc xe zi xh L F p) (fun A z=>zgf zj za yh yn xc xe zi xh L A z p) L A C D E z)
theorem zC3{β:Type}(zj:yR)(za:yk)(yh:zO)(yn:zZ)(xc:zy)(xe:zK)(zi:yN)(xh:xN)(L:Nat)(p:List V)(k:KK β):(zg 0 (zu (ze y5 (y6 zj za yh yn xc xe zi xh L) 0 L zl1) (yz 0 (CF.res cf_ref11_Check) k))) (.exit 0) (zlZ p)=zhI zj za yh yn xc xe zi xh L p (fun z=>k (Qe z) []):=by
 refine (zFp zj za yh yn xc xe zi xh L p k).trans ?_
 unfold zhI
 first
  | (simp only [zqF,zz9,zzS]; done)
  | (simp only [zqF]; rfl)
def ztC{β:Type}(zj:yR)(za:yk)(yh:zO)(yn:zZ)(xc:zy)(xe:zK)(zi:yN)(xh:xN)(L:Nat)(E:List V)(p:Int→Ob β):Ob β:=zBt zj za yh yn xc xe zi xh L E p (fun A C D z=>zg3 zj za yh yn xc xe zi xh L (fun F=>zlB zj za yh yn xc xe zi xh L F p) (fun z=>zhI zj za yh yn xc xe zi xh L z p) L A C D z)
theorem zTg{β:Type}(zj:yR)(za:yk)(yh:zO)(yn:zZ)(xc:zy)(xe:zK)(zi:yN)(xh:xN)(L:Nat)(p:List V)(k:KK β):yj y5 (y6 zj za yh yn xc xe zi xh L) L cf_ref11_Check [(V.agg p)] [] k=ztC zj za yh yn xc xe zi xh L p (fun p=>k (Qe p) []):=by
 refine (zTk zj za yh yn xc xe zi xh L p k).trans ?_
 unfold ztC
 first
  | (simp only [zs9,zCU,zC3]; done)
  | (simp only [zs9]; rfl)
abbrev zoe:=∀ (β:Type),Nat→List V→(Int→Ob β)→Ob β
def zaR:zoe:=fun β=>@ztC β zj za yh yn xc xe zi xh
def zBn(zaR:zoe)(L:Nat):Dk:=dA AG fun p=>d0 fun β k=>zaR β L p (fun p=>k (Qe p) [])
theorem zS2(L:Nat):DK (zBn zaR L) (fun _=>yj y5 (y6 zj za yh yn xc xe zi xh L) L cf_ref11_Check):=zF zap fun p=>zP fun _ k=>zTg zj za yh yn xc xe zi xh L p k
def zxK:Hint:=⟨[],[],[none],[],[],false,false,[]⟩
def zCd:CF:=cfD zxK 187
def zsa:Nat→Sh:=zl []
def zsN(L:Nat):CBC:=noC
def zEL{β:Type}(L:Nat)(A:Int)(p:List V→Ob β):Ob β:=lt [(Qd A),(Qd (0:Int)),(Qd (0:Int)),(Qd (0:Int))] fun z=>chk (0=0∧(XK z)=4∧4≠0) (p z)
theorem zN7{β:Type}(L:Nat)(p:Int)(k:KK β):yj zsa (zsN L) L zCd [(Qd p)] [] k=zEL L p (fun p=>k (V.agg p) []):=by kernel_rfl
abbrev zjK:=∀ (β:Type),Nat→Int→(List V→Ob β)→Ob β
def y4:zjK:=fun β=>@zEL β
def zcQ(y4:zjK)(L:Nat):Dk:=dA (AI .u64) fun p=>d0 fun β k=>y4 β L p (fun p=>k (V.agg p) [])
theorem zNW(L:Nat):DK (zcQ y4 L) (fun _=>yj zsa (zsN L) L zCd):=zF zdJ fun p=>zP fun _ k=>zN7 L p k
def zJK:Hint:=⟨[],[],[none],[],[],false,false,[]⟩
def zOi:CF:=cfD zJK 174
def zEW:Nat→Sh:=zl [(8,(.int .u64))]
def zDN(L:Nat):CBC:=noC
def zRH{β:Type}(L:Nat)(D:List V)(A:Int)(p:Bool→Ob β):Ob β:=lt (QG .i64 (Int.tdiv A (64:Int))) fun z=>chk (0≤z∧z<((4:Nat):Int)) (cI .u64 D (0+((XM z)*1)) fun E=>lt (Int.tmod A (64:Int)) fun C=>chk (0≤C) (lt (zdB .u64 E C) fun F=>lt (zhm .u64 F (1:Int)) fun G=>p ((G:Int)==(1:Int))))
theorem zW6{β:Type}(L:Nat)(p:List V)(z:Int)(k:KK β):yj zEW (zDN L) L zOi [(V.agg p),(Qe z)] [] k=zRH L p z (fun p=>k (V.sc (.bool p)) []):=by kernel_rfl
abbrev zar:=∀ (β:Type),Nat→List V→Int→(Bool→Ob β)→Ob β
def xt:zar:=fun β=>@zRH β
def zov(xt:zar)(L:Nat):Dk:=dA AG fun p=>dA (AI .i64) fun z=>d0 fun β k=>xt β L p z (fun p=>k (V.sc (.bool p)) [])
theorem zWW(L:Nat):DK (zov xt L) (fun _=>yj zEW (zDN L) L zOi):=zF zap fun p=>zF zdJ fun z=>zP fun _ k=>zW6 L p z k
def zKK:Hint:=⟨[],[],[none,none,none,none,none,some ((bl 118 34),(bl 17171480575 34)),none,some ((bl 48 34),(bl 17171480507 34)),none,none,none],[],[],false,false,[]⟩
def cf_ref02_Shr:CF:=cfD zKK 147
def zpd:CC:=zE [1,1,1,1,0,1,0,0] cf_ref02_Shr.body
def zDP:CC:=zE [1,1,1,1,1] cf_ref02_Shr.body
def zgr:Nat→Sh:=zl [(27,(.int .u64))]
def zfY(xt:zar)(L:Nat):CBC:=(xg 552 (zov xt L) noC)
def zpU:St→St:=zQ 0 (bl 118 34) (bl 17171480575 34)
def zia(D E:Int)(F:List V)(p z A C:Int)(G:List V):St:=⟨(jn 1 ((Qe D)::((V.ptr 2 0)::(jn 1 ((V.ptr 4 0)::((V.ptr 5 0)::((Qe E)::(jn 27 [])))))))),(gn 2 ((.live true F)::(gn 1 ((.live true [(Qd p),(Qd z),(Qd A),(Qd C)])::((.live true G)::(gn 28 []))))))⟩
def zwF(p z A C:Int)(D:List V):St:=⟨(jn 4 ((V.ptr 4 0)::((V.ptr 5 0)::(jn 28 [])))),(gn 4 ((.live true [(Qd p),(Qd z),(Qd A),(Qd C)])::((.live true D)::(gn 28 []))))⟩
abbrev zxU(β:Type):Type:=Int→Int→List V→Int→Int→Int→Int→List V→Ob β
def zRJ{β:Type}(xt:zar)(L:Nat)(A:List V)(C:Int)(z:List V→Ob β)(p:zxU β):Ob β:=ifb (decide (C≤(0:Int))) (chk (0+4≤(XK A)) (chk ((XK (XL 4 A))=4∧0+4≤4) (lt (zq [(Qd (0:Int)),(Qd (0:Int)),(Qd (0:Int)),(Qd (0:Int))] 0 (XL 4 A)) fun D=>chk (0=0∧(XK D)=4∧4≠0) (z D)))) (ifb (decide (C≥(256:Int))) (lt [(Qd (0:Int)),(Qd (0:Int)),(Qd (0:Int)),(Qd (0:Int))] fun E=>chk (0=0∧(XK E)=4∧4≠0) (z E)) (p C (0:Int) A (0:Int) (0:Int) (0:Int) (0:Int) [(Qd (0:Int)),(Qd (0:Int)),(Qd (0:Int)),(Qd (0:Int))]))
theorem zXR{β:Type}(xt:zar)(L:Nat)(p:List V)(z:Int)(k:KK β):yj zgr (zfY xt L) L cf_ref02_Shr [(V.agg p),(Qe z)] [] k=zRJ xt L p z (fun p=>k (V.agg p) []) (fun z F G A C D E H=>xw (ze zgr (zfY xt L) 0 L zpd) zpU L (zia z F G A C D E H) (zg 0 (zu (ze zgr (zfY xt L) 0 L zDP) (yz 0 (CF.res cf_ref02_Shr) k)))):=by kernel_rfl
def zz4{β:Type}(xt:zar)(L:Nat)(H F:Int)(I:List V)(z A C D:Int)(G:List V)(p:zxU β)(J:Int→Int→Int→Int→List V→Ob β):Ob β:=lt (QG .i64 ((F:Int)+H)) fun Q=>ifb (decide (Q<(256:Int))) (chk (0+4≤(XK I)) (lt (QG .i64 ((F:Int)+H)) fun R=>xt β L (XL 4 I) R (fun S=>ifb S (lt (QG .i64 (Int.tdiv F (64:Int))) fun E=>chk (0≤E∧E<((4:Nat):Int)) (cI .u64 G (0+((XM E)*1)) fun T=>lt (Int.tmod F (64:Int)) fun M=>chk (0≤M) (lt (zkq .u64 (1:Int) M) fun U=>lt (ior .u64 T U) fun W=>chk (0≤E∧E<((4:Nat):Int)) (chk (1=1∧(0+((XM E)*1))+1≤(XK G)) (lt (zq G (0+((XM E)*1)) [(Qd W)]) fun N=>lt (QG .i64 ((F:Int)+(1:Int))) fun O=>p H O I z A C D N))))) (lt (QG .i64 ((F:Int)+(1:Int))) fun P=>p H P I z A C D G)))) (J z A C D G)
theorem zJU{β:Type}(xt:zar)(L:Nat)(E F:Int)(G:List V)(p z A C:Int)(D:List V)(X:St→Ob β)(K:KT β):ze zgr (zfY xt L) 0 L zpd (zia E F G p z A C D) (yF zpU X K)=zz4 xt L E F G p z A C D (fun E F G p z A C D=>X (zia E F G p z A C D)) (fun p z A C D=>K (.exit 0) (zwF p z A C D)):=by kernel_rfl
def zvq{β:Type}(xt:zar)(L:Nat)(A C D E:Int)(F:List V)(p:List V→Ob β):Ob β:=chk (0+4≤(XK F)) (chk ((XK (XL 4 F))=4∧0+4≤4) (lt (zq [(Qd A),(Qd C),(Qd D),(Qd E)] 0 (XL 4 F)) fun z=>chk (0=0∧(XK z)=4∧4≠0) (p z)))
theorem zFZ{β:Type}(xt:zar)(L:Nat)(p z A C:Int)(D:List V)(k:KK β):(zg 0 (zu (ze zgr (zfY xt L) 0 L zDP) (yz 0 (CF.res cf_ref02_Shr) k))) (.exit 0) (zwF p z A C D)=zvq xt L p z A C D (fun E=>k (V.agg E) []):=by kernel_rfl
def zpS{β:Type}(xt:zar)(L:Nat)(D:Int→Int→Int→Int→List V→Ob β):Nat→Int→Int→List V→Int→Int→Int→Int→List V→Ob β
 | 0,_,_,_,_,_,_,_,_=>none
 | n+1,E,F,G,p,z,A,C,H=>zz4 xt L E F G p z A C H (fun E F G p z A C H=>zpS xt L D n E F G p z A C H) D
theorem zvc{β:Type}(xt:zar)(L:Nat)(K:KT β):∀ (n:Nat) (E F:Int) (G:List V) (p z A C:Int) (D:List V),xw (ze zgr (zfY xt L) 0 L zpd) zpU n (zia E F G p z A C D) K=zpS xt L (fun p z A C D=>K (.exit 0) (zwF p z A C D)) n E F G p z A C D:=by
 intro n; induction n <;> intros
 ·rfl
 ·exact (zJU ..).trans (by simp only [*]; rfl)
def zIP{β:Type}(xt:zar)(L:Nat)(G:List V)(E:Int)(D:List V→Ob β):Ob β:=zRJ xt L G E D (fun E H I p z A C F=>zpS xt L (fun p z A C F=>zvq xt L p z A C F D) L E H I p z A C F)
theorem zXa{β:Type}(xt:zar)(L:Nat)(p:List V)(z:Int)(k:KK β):yj zgr (zfY xt L) L cf_ref02_Shr [(V.agg p),(Qe z)] [] k=zIP xt L p z (fun p=>k (V.agg p) []):=by
 refine (zXR xt L p z k).trans ?_
 unfold zIP
 first
  | (simp only [zvc,zFZ]; done)
  | (simp only [zvc]; rfl)
abbrev zsR:=∀ (β:Type),Nat→List V→Int→(List V→Ob β)→Ob β
def zbq:zsR:=fun β=>@zIP β xt
def zop(zbq:zsR)(L:Nat):Dk:=dA AG fun p=>dA (AI .i64) fun z=>d0 fun β k=>zbq β L p z (fun p=>k (V.agg p) [])
theorem zXu(L:Nat):DK (zop zbq L) (fun _=>yj zgr (zfY xt L) L cf_ref02_Shr):=zF zap fun p=>zF zdJ fun z=>zP fun _ k=>zXa xt L p z k
def zHS:Hint:=⟨[],[],[none],[],[],false,false,[]⟩
def zMT:CF:=cfD zHS 175
def zAI:Nat→Sh:=zl []
def zBm(L:Nat):CBC:=noC
def zPC{β:Type}(L:Nat)(z:List V)(p:Bool→Ob β):Ob β:=chk (0+4≤(XK z)) (eqC 4 (XL 4 z) [(Qd (0:Int)),(Qd (0:Int)),(Qd (0:Int)),(Qd (0:Int))] fun A=>p A)
theorem zUH{β:Type}(L:Nat)(p:List V)(k:KK β):yj zAI (zBm L) L zMT [(V.agg p)] [] k=zPC L p (fun p=>k (V.sc (.bool p)) []):=by kernel_rfl
abbrev zcT:=∀ (β:Type),Nat→List V→(Bool→Ob β)→Ob β
def xL:zcT:=fun β=>@zPC β
def zdX(xL:zcT)(L:Nat):Dk:=dA AG fun p=>d0 fun β k=>xL β L p (fun p=>k (V.sc (.bool p)) [])
theorem zVW(L:Nat):DK (zdX xL L) (fun _=>yj zAI (zBm L) L zMT):=zF zap fun p=>zP fun _ k=>zUH L p k
def zKM:Hint:=⟨[],[],[none,some ((bl 10 13),(bl 7163 13)),none,some ((bl 0 13),(bl 7153 13)),none,none,some ((bl 4 13),(bl 7157 13)),none],[],[],false,false,[]⟩
def cf_ref02_Len:CF:=cfD zKM 190
def zuw:CC:=zE [1,0,1,0,0] cf_ref02_Len.body
def zBA:CC:=zE [1,1] cf_ref02_Len.body
def zeU:Nat→Sh:=zl []
def zeQ(xt:zar)(L:Nat):CBC:=(xg 552 (zov xt L) noC)
def zxx:St→St:=zQ 0 (bl 10 13) (bl 7163 13)
def zla(p:Int)(z:List V):St:=⟨(jn 1 ((V.ptr 1 0)::(jn 1 ((Qe p)::(jn 9 []))))),(gn 1 ((.live true z)::(gn 11 [])))⟩
def zur(p:Int):St:=⟨(jn 2 ((Qe p)::(jn 10 []))),(gn 13 [])⟩
def zvV:St:=⟨(jn 13 []),(gn 13 [])⟩
def zRF{β:Type}(xt:zar)(L:Nat)(z:List V)(p:Int→List V→Ob β):Ob β:=p (255:Int) z
theorem zXW{β:Type}(xt:zar)(L:Nat)(p:List V)(k:KK β):yj zeU (zeQ xt L) L cf_ref02_Len [(V.agg p)] [] k=zRF xt L p (fun z A=>xw (ze zeU (zeQ xt L) 0 L zuw) zxx L (zla z A) (zg 0 (zu (ze zeU (zeQ xt L) 0 L zBA) (yz 0 (CF.res cf_ref02_Len) k)))):=by kernel_rfl
def zGk{β:Type}(xt:zar)(L:Nat)(z:Int)(C:List V)(A:Int→Ob β)(p:Int→List V→Ob β)(D:Ob β):Ob β:=ifb (decide (z≥(0:Int))) (chk (0+4≤(XK C)) (xt β L (XL 4 C) z (fun E=>ifb E (lt (QG .i64 ((z:Int)+(1:Int))) fun F=>A F) (lt (QG .i64 ((z:Int)-(1:Int))) fun G=>p G C)))) (D)
theorem zOJ{β:Type}(xt:zar)(L:Nat)(p:Int)(z:List V)(X:St→Ob β)(K:KT β):ze zeU (zeQ xt L) 0 L zuw (zla p z) (yF zxx X K)=zGk xt L p z (fun A=>K .ret (zur A)) (fun p z=>X (zla p z)) (K (.exit 0) (zvV)):=by kernel_rfl
def zzv{β:Type}(xt:zar)(L:Nat)(z:Int)(p:Int→Ob β):Ob β:=p z
theorem zJT{β:Type}(xt:zar)(L:Nat)(p:Int)(k:KK β):(zg 0 (zu (ze zeU (zeQ xt L) 0 L zBA) (yz 0 (CF.res cf_ref02_Len) k))) .ret (zur p)=zzv xt L p (fun z=>k (Qe z) []):=by kernel_rfl
def zB5{β:Type}(xt:zar)(L:Nat)(p:Int→Ob β):Ob β:=p (0:Int)
theorem zLQ{β:Type}(xt:zar)(L:Nat)(k:KK β):(zg 0 (zu (ze zeU (zeQ xt L) 0 L zBA) (yz 0 (CF.res cf_ref02_Len) k))) (.exit 0) (zvV)=zB5 xt L (fun p=>k (Qe p) []):=by kernel_rfl
def zxr{β:Type}(xt:zar)(L:Nat)(p:Int→Ob β)(z:Ob β):Nat→Int→List V→Ob β
 | 0,_,_=>none
 | n+1,A,C=>zGk xt L A C p (fun A C=>zxr xt L p z n A C) z
theorem zAv{β:Type}(xt:zar)(L:Nat)(K:KT β):∀ (n:Nat) (p:Int) (z:List V),xw (ze zeU (zeQ xt L) 0 L zuw) zxx n (zla p z) K=zxr xt L (fun A=>K .ret (zur A)) (K (.exit 0) (zvV)) n p z:=by
 intro n; induction n <;> intros
 ·rfl
 ·exact (zOJ ..).trans (by simp only [*]; rfl)
def zIZ{β:Type}(xt:zar)(L:Nat)(z:List V)(p:Int→Ob β):Ob β:=zRF xt L z (fun A C=>zxr xt L (fun D=>zzv xt L D p) (zB5 xt L p) L A C)
theorem zW1{β:Type}(xt:zar)(L:Nat)(p:List V)(k:KK β):yj zeU (zeQ xt L) L cf_ref02_Len [(V.agg p)] [] k=zIZ xt L p (fun p=>k (Qe p) []):=by
 refine (zXW xt L p k).trans ?_
 unfold zIZ
 first
  | (simp only [zAv,zJT,zLQ]; done)
  | (simp only [zAv]; rfl)
abbrev zsY:=∀ (β:Type),Nat→List V→(Int→Ob β)→Ob β
def zbI:zsY:=fun β=>@zIZ β xt
def zs7(zbI:zsY)(L:Nat):Dk:=dA AG fun p=>d0 fun β k=>zbI β L p (fun p=>k (Qe p) [])
theorem zXE(L:Nat):DK (zs7 zbI L) (fun _=>yj zeU (zeQ xt L) L cf_ref02_Len):=zF zap fun p=>zP fun _ k=>zW1 xt L p k
def zJ5:Hint:=⟨[(6,9)],[],[none,some ((bl 732 29),(bl 522190591 29)),none,some ((bl 208 29),(bl 522190579 29)),none,none],[],[],false,false,[]⟩
def cf_ref02_Add:CF:=cfD zJ5 198
def zqV:CC:=zE [1,1,1,0,1,0,0] cf_ref02_Add.body
def zHu:CC:=zE [1,1,1,1] cf_ref02_Add.body
def zgu:Nat→Sh:=zl [(16,(.int .u64)),(19,(.int .u64))]
def zf4(L:Nat):CBC:=noC
def zr4:St→St:=zQ 0 (bl 732 29) (bl 522190591 29)
def zjc(D E:Int)(F G:List V)(p z A C:Int)(H:List V):St:=⟨(jn 2 ((V.ptr 2 0)::((V.ptr 3 0)::((V.ptr 4 0)::(jn 1 ((V.ptr 6 0)::((Qd D)::(jn 1 ((Qe E)::(jn 19 [])))))))))),(gn 2 ((.live true F)::((.live true G)::((.live true [(Qd p),(Qd z),(Qd A),(Qd C)])::(gn 1 ((.live true H)::(gn 22 [])))))))⟩
def zwb(D p z A C:Int)(E:List V):St:=⟨(jn 4 ((V.ptr 4 0)::(jn 1 ((V.ptr 6 0)::((Qd D)::(jn 21 [])))))),(gn 4 ((.live true [(Qd p),(Qd z),(Qd A),(Qd C)])::(gn 1 ((.live true E)::(gn 22 [])))))⟩
abbrev zAd(β:Type):Type:=Int→Int→List V→List V→Int→Int→Int→Int→List V→Ob β
def zR2{β:Type}(L:Nat)(z A:List V)(p:zAd β):Ob β:=p (0:Int) (0:Int) z A (0:Int) (0:Int) (0:Int) (0:Int) [(Qd (0:Int)),(Qd (0:Int)),(Qd (0:Int)),(Qd (0:Int))]
theorem zXX{β:Type}(L:Nat)(D E:List V)(k:KK β):yj zgu (zf4 L) L cf_ref02_Add [(V.agg D),(V.agg E)] [] k=zR2 L D E (fun F G H I p z A C J=>xw (ze zgu (zf4 L) 0 L zqV) zr4 L (zjc F G H I p z A C J) (zg 0 (zu (ze zgu (zf4 L) 0 L zHu) (yz 0 (CF.res cf_ref02_Add) k)))):=by kernel_rfl
def zBU{β:Type}(L:Nat)(A p:Int)(I J:List V)(C D E F:Int)(G:List V)(z:zAd β)(H:Int→Int→Int→Int→Int→List V→Ob β):Ob β:=ifb (decide (p<(4:Int))) (chk (0≤p∧p<((4:Nat):Int)) (cI .u64 I (0+((XM p)*1)) fun M=>chk (0≤p∧p<((4:Nat):Int)) (cI .u64 J (0+((XM p)*1)) fun N=>chk (A=0∨A=1) (lt (zXN false M N A) fun O=>lt (zWs false M N A) fun P=>chk (0≤p∧p<((4:Nat):Int)) (chk (1=1∧(0+((XM p)*1))+1≤(XK G)) (lt (zq G (0+((XM p)*1)) [(Qd O)]) fun Q=>lt (QG .i64 ((p:Int)+(1:Int))) fun R=>z P R I J C D E F Q)))))) (H A C D E F G)
theorem zMB{β:Type}(L:Nat)(D F:Int)(G H:List V)(p z A C:Int)(E:List V)(X:St→Ob β)(K:KT β):ze zgu (zf4 L) 0 L zqV (zjc D F G H p z A C E) (yF zr4 X K)=zBU L D F G H p z A C E (fun D F G H p z A C E=>X (zjc D F G H p z A C E)) (fun D p z A C E=>K (.exit 0) (zwb D p z A C E)):=by kernel_rfl
def zx2{β:Type}(L:Nat)(G z A C D:Int)(E:List V)(p:List V→Bool→Ob β):Ob β:=chk (0+4≤(XK E)) (chk ((XK (XL 4 E))=4∧0+4≤4) (lt (zq [(Qd z),(Qd A),(Qd C),(Qd D)] 0 (XL 4 E)) fun F=>chk (0=0∧(XK F)=4∧4≠0) (p F ((G:Int)==(1:Int)))))
theorem zI6{β:Type}(L:Nat)(F p z A C:Int)(G:List V)(k:KK β):(zg 0 (zu (ze zgu (zf4 L) 0 L zHu) (yz 0 (CF.res cf_ref02_Add) k))) (.exit 0) (zwb F p z A C G)=zx2 L F p z A C G (fun D E=>k (V.tup [(V.agg D),(V.sc (.bool E))]) []):=by kernel_rfl
def zsq{β:Type}(L:Nat)(D:Int→Int→Int→Int→Int→List V→Ob β):Nat→Int→Int→List V→List V→Int→Int→Int→Int→List V→Ob β
 | 0,_,_,_,_,_,_,_,_,_=>none
 | n+1,E,F,G,H,p,z,A,C,I=>zBU L E F G H p z A C I (fun E F G H p z A C I=>zsq L D n E F G H p z A C I) D
theorem zwJ{β:Type}(L:Nat)(K:KT β):∀ (n:Nat) (D F:Int) (G H:List V) (p z A C:Int) (E:List V),xw (ze zgu (zf4 L) 0 L zqV) zr4 n (zjc D F G H p z A C E) K=zsq L (fun D p z A C E=>K (.exit 0) (zwb D p z A C E)) n D F G H p z A C E:=by
 intro n; induction n <;> intros
 ·rfl
 ·exact (zMB ..).trans (by simp only [*]; rfl)
def zIb{β:Type}(L:Nat)(G H:List V)(D:List V→Bool→Ob β):Ob β:=zR2 L G H (fun E I J M p z A C F=>zsq L (fun E p z A C F=>zx2 L E p z A C F D) L E I J M p z A C F)
theorem zXe{β:Type}(L:Nat)(p z:List V)(k:KK β):yj zgu (zf4 L) L cf_ref02_Add [(V.agg p),(V.agg z)] [] k=zIb L p z (fun A C=>k (V.tup [(V.agg A),(V.sc (.bool C))]) []):=by
 refine (zXX L p z k).trans ?_
 unfold zIb
 first
  | (simp only [zwJ,zI6]; done)
  | (simp only [zwJ]; rfl)
abbrev zdc:=∀ (β:Type),Nat→List V→List V→(List V→Bool→Ob β)→Ob β
def yO:zdc:=fun β=>@zIb β
def zs1(yO:zdc)(L:Nat):Dk:=dA AG fun A=>dA AG fun C=>d0 fun β k=>yO β L A C (fun p z=>k (V.tup [(V.agg p),(V.sc (.bool z))]) [])
theorem zXT(L:Nat):DK (zs1 yO L) (fun _=>yj zgu (zf4 L) L cf_ref02_Add):=zF zap fun p=>zF zap fun z=>zP fun _ k=>zXe L p z k
def zJp:Hint:=⟨[(5,3)],[],[none,none,none,some ((bl 22 19),(bl 294911 19)),none,some ((bl 20 19),(bl 294909 19)),none,none],[],[],false,false,[]⟩
def cf_ref02_Shl:CF:=cfD zJp 191
def zuq:CC:=zE [1,1,0,0,0] cf_ref02_Shl.body
def zJl:CC:=zE [1,1,1] cf_ref02_Shl.body
def zgv:Nat→Sh:=zl []
def zf7(yO:zdc)(L:Nat):CBC:=(xg 593 (zs1 yO L) noC)
def zvm:St→St:=zQ 0 (bl 22 19) (bl 294911 19)
def zkC(D:Int)(E:List V)(p z A C:Int):St:=⟨(jn 1 ((Qe D)::((V.ptr 2 0)::(jn 1 ((V.ptr 4 0)::(jn 14 [])))))),(gn 2 ((.live true E)::(gn 1 ((.live true [(Qd p),(Qd z),(Qd A),(Qd C)])::(gn 14 [])))))⟩
def zxw(D:List V)(p z A C:Int):St:=⟨(jn 2 ((V.ptr 2 0)::(jn 1 ((V.ptr 4 0)::(jn 14 []))))),(gn 2 ((.live true D)::(gn 1 ((.live true [(Qd p),(Qd z),(Qd A),(Qd C)])::(gn 14 [])))))⟩
def zRM{β:Type}(yO:zdc)(L:Nat)(D:List V)(A:Int)(z:List V→Ob β)(p:Int→List V→Int→Int→Int→Int→Ob β):Ob β:=ifb (decide (A≥(256:Int))) (lt [(Qd (0:Int)),(Qd (0:Int)),(Qd (0:Int)),(Qd (0:Int))] fun C=>chk (0=0∧(XK C)=4∧4≠0) (z C)) (p A D (0:Int) (0:Int) (0:Int) (0:Int))
theorem zWo{β:Type}(yO:zdc)(L:Nat)(p:List V)(z:Int)(k:KK β):yj zgv (zf7 yO L) L cf_ref02_Shl [(V.agg p),(Qe z)] [] k=zRM yO L p z (fun p=>k (V.agg p) []) (fun z F A C D E=>xw (ze zgv (zf7 yO L) 0 L zuq) zvm L (zkC z F A C D E) (zg 0 (zu (ze zgv (zf7 yO L) 0 L zJl) (yz 0 (CF.res cf_ref02_Shl) k)))):=by kernel_rfl
def zHo{β:Type}(yO:zdc)(L:Nat)(G:Int)(p:List V)(A C D E:Int)(z:Int→List V→Int→Int→Int→Int→Ob β)(F:List V→Int→Int→Int→Int→Ob β):Ob β:=ifb (decide (G>(0:Int))) (chk (0+4≤(XK p)) (chk (0+4≤(XK p)) (yO β L (XL 4 p) (XL 4 p) (fun H M=>chk ((XK H)=4∧0+4≤(XK p)) (lt (zq p 0 H) fun I=>lt (QG .i64 ((G:Int)-(1:Int))) fun J=>z J I A C D E))))) (F p A C D E)
theorem zO4{β:Type}(yO:zdc)(L:Nat)(E:Int)(D:List V)(p z A C:Int)(X:St→Ob β)(K:KT β):ze zgv (zf7 yO L) 0 L zuq (zkC E D p z A C) (yF zvm X K)=zHo yO L E D p z A C (fun E D p z A C=>X (zkC E D p z A C)) (fun D p z A C=>K (.exit 0) (zxw D p z A C)):=by kernel_rfl
def zCp{β:Type}(yO:zdc)(L:Nat)(z:List V)(A C D E:Int)(p:List V→Ob β):Ob β:=chk (0+4≤(XK z)) (chk ((XK (XL 4 z))=4∧0+4≤4) (lt (zq [(Qd A),(Qd C),(Qd D),(Qd E)] 0 (XL 4 z)) fun F=>chk (0=0∧(XK F)=4∧4≠0) (p F)))
theorem zMN{β:Type}(yO:zdc)(L:Nat)(D:List V)(p z A C:Int)(k:KK β):(zg 0 (zu (ze zgv (zf7 yO L) 0 L zJl) (yz 0 (CF.res cf_ref02_Shl) k))) (.exit 0) (zxw D p z A C)=zCp yO L D p z A C (fun E=>k (V.agg E) []):=by kernel_rfl
def zwk{β:Type}(yO:zdc)(L:Nat)(D:List V→Int→Int→Int→Int→Ob β):Nat→Int→List V→Int→Int→Int→Int→Ob β
 | 0,_,_,_,_,_,_=>none
 | n+1,E,F,p,z,A,C=>zHo yO L E F p z A C (fun E F p z A C=>zwk yO L D n E F p z A C) D
theorem zAi{β:Type}(yO:zdc)(L:Nat)(K:KT β):∀ (n:Nat) (E:Int) (D:List V) (p z A C:Int),xw (ze zgv (zf7 yO L) 0 L zuq) zvm n (zkC E D p z A C) K=zwk yO L (fun D p z A C=>K (.exit 0) (zxw D p z A C)) n E D p z A C:=by
 intro n; induction n <;> intros
 ·rfl
 ·exact (zO4 ..).trans (by simp only [*]; rfl)
def zIn{β:Type}(yO:zdc)(L:Nat)(G:List V)(E:Int)(D:List V→Ob β):Ob β:=zRM yO L G E D (fun E F p z A C=>zwk yO L (fun F p z A C=>zCp yO L F p z A C D) L E F p z A C)
theorem zWz{β:Type}(yO:zdc)(L:Nat)(p:List V)(z:Int)(k:KK β):yj zgv (zf7 yO L) L cf_ref02_Shl [(V.agg p),(Qe z)] [] k=zIn yO L p z (fun p=>k (V.agg p) []):=by
 refine (zWo yO L p z k).trans ?_
 unfold zIn
 first
  | (simp only [zAi,zMN]; done)
  | (simp only [zAi]; rfl)
abbrev ztr:=∀ (β:Type),Nat→List V→Int→(List V→Ob β)→Ob β
def zbF:ztr:=fun β=>@zIn β yO
def zzo(zbF:ztr)(L:Nat):Dk:=dA AG fun p=>dA (AI .i64) fun z=>d0 fun β k=>zbF β L p z (fun p=>k (V.agg p) [])
theorem zWL(L:Nat):DK (zzo zbF L) (fun _=>yj zgv (zf7 yO L) L cf_ref02_Shl):=zF zap fun p=>zF zdJ fun z=>zP fun _ k=>zWz yO L p z k
def zCe:Hint:=⟨[],[],[none,none,none,none,none,none,none,none],[],[],false,false,[]⟩
def zHv:CF:=cfD zCe 171
def zwQ:Nat→Sh:=zl []
def zwg(y4:zjK)(zbq:zsR)(xL:zcT)(zbI:zsY)(zbF:ztr)(L:Nat):CBC:=(xg 566 (zzo zbF L) (xg 565 (zs7 zbI L) (xg 553 (zdX xL L) (xg 513 (zop zbq L) (xg 562 (zcQ y4 L) noC)))))
def zJA{β:Type}(y4:zjK)(zbq:zsR)(xL:zcT)(zbI:zsY)(zbF:ztr)(L:Nat)(S:Int)(p:List V→Int→Ob β):Ob β:=lt (zdB .u32 S (24:Int)) fun x0=>lt (QG .i64 x0) fun F=>lt (zhm .u32 S (16777215:Int)) fun x2=>lt (QG .u64 x2) fun x3=>y4 β L x3 (fun T=>chk ((XK T)=4∧0+4≤4) (lt (zq [(Qd (0:Int)),(Qd (0:Int)),(Qd (0:Int)),(Qd (0:Int))] 0 T) fun z=>lt (zhm .u32 S (8388608:Int)) fun x6=>ifb ((x6:Int) != (0:Int)) (lt [(Qd (0:Int)),(Qd (0:Int)),(Qd (0:Int)),(Qd (0:Int))] fun U=>chk (0=0∧(XK U)=4∧4≠0) (p U (120:Int))) (chk (0+4≤(XK z)) (chk ((XK (XL 4 z))=4∧0+4≤4) (lt (zq [(Qd (0:Int)),(Qd (0:Int)),(Qd (0:Int)),(Qd (0:Int))] 0 (XL 4 z)) fun E=>ifb (decide (F<(3:Int))) (chk (0+4≤(XK z)) (lt (QG .i64 (((3:Int):Int)-F)) fun x9=>lt (QG .i64 (((8:Int):Int)*x9)) fun W=>zbq β L (XL 4 z) W (fun G=>chk ((XK G)=4∧0+4≤(XK E)) (lt (zq E 0 G) fun A=>chk (0+4≤(XK A)) (xL β L (XL 4 A) (fun X=>ifb X (lt [(Qd (0:Int)),(Qd (0:Int)),(Qd (0:Int)),(Qd (0:Int))] fun H=>chk (0=0∧(XK H)=4∧4≠0) (p H (120:Int))) (chk (0+4≤(XK A)) (chk ((XK (XL 4 A))=4∧0+4≤4) (lt (zq [(Qd (0:Int)),(Qd (0:Int)),(Qd (0:Int)),(Qd (0:Int))] 0 (XL 4 A)) fun I=>chk (0=0∧(XK I)=4∧4≠0) (p I (0:Int))))))))))) (chk (0+4≤(XK z)) (xL β L (XL 4 z) (fun Y=>ifb (!Y) (chk (0+4≤(XK z)) (zbI β L (XL 4 z) (fun Z=>lt (QG .i64 ((F:Int)-(3:Int))) fun aa=>lt (QG .i64 (((8:Int):Int)*aa)) fun ab=>lt (QG .i64 ((Z:Int)+ab)) fun ac=>ifb (decide (ac>(256:Int))) (lt [(Qd (0:Int)),(Qd (0:Int)),(Qd (0:Int)),(Qd (0:Int))] fun J=>chk (0=0∧(XK J)=4∧4≠0) (p J (120:Int))) (chk (0+4≤(XK z)) (lt (QG .i64 ((F:Int)-(3:Int))) fun ad=>lt (QG .i64 (((8:Int):Int)*ad)) fun ae=>zbF β L (XL 4 z) ae (fun M=>chk ((XK M)=4∧0+4≤(XK E)) (lt (zq E 0 M) fun C=>chk (0+4≤(XK C)) (xL β L (XL 4 C) (fun af=>ifb af (lt [(Qd (0:Int)),(Qd (0:Int)),(Qd (0:Int)),(Qd (0:Int))] fun N=>chk (0=0∧(XK N)=4∧4≠0) (p N (120:Int))) (chk (0+4≤(XK C)) (chk ((XK (XL 4 C))=4∧0+4≤4) (lt (zq [(Qd (0:Int)),(Qd (0:Int)),(Qd (0:Int)),(Qd (0:Int))] 0 (XL 4 C)) fun O=>chk (0=0∧(XK O)=4∧4≠0) (p O (0:Int)))))))))))))) (chk (0+4≤(XK z)) (lt (QG .i64 ((F:Int)-(3:Int))) fun ag=>lt (QG .i64 (((8:Int):Int)*ag)) fun ah=>zbF β L (XL 4 z) ah (fun P=>chk ((XK P)=4∧0+4≤(XK E)) (lt (zq E 0 P) fun D=>chk (0+4≤(XK D)) (xL β L (XL 4 D) (fun ai=>ifb ai (lt [(Qd (0:Int)),(Qd (0:Int)),(Qd (0:Int)),(Qd (0:Int))] fun Q=>chk (0=0∧(XK Q)=4∧4≠0) (p Q (120:Int))) (chk (0+4≤(XK D)) (chk ((XK (XL 4 D))=4∧0+4≤4) (lt (zq [(Qd (0:Int)),(Qd (0:Int)),(Qd (0:Int)),(Qd (0:Int))] 0 (XL 4 D)) fun R=>chk (0=0∧(XK R)=4∧4≠0) (p R (0:Int)))))))))))))))))))
theorem zQ5{β:Type}(y4:zjK)(zbq:zsR)(xL:zcT)(zbI:zsY)(zbF:ztr)(L:Nat)(A:Int)(k:KK β):yj zwQ (zwg y4 zbq xL zbI zbF L) L zHv [(Qc A)] [] k=zJA y4 zbq xL zbI zbF L A (fun p z=>k (V.tup [(V.agg p),(Qe z)]) []):=by kernel_rfl
abbrev zcB:=∀ (β:Type),Nat→Int→(List V→Int→Ob β)→Ob β
def yU:zcB:=fun β=>@zJA β y4 zbq xL zbI zbF
def zmz(yU:zcB)(L:Nat):Dk:=dA (AI .u32) fun A=>d0 fun β k=>yU β L A (fun p z=>k (V.tup [(V.agg p),(Qe z)]) [])
theorem zQ6(L:Nat):DK (zmz yU L) (fun _=>yj zwQ (zwg y4 zbq xL zbI zbF L) L zHv):=zF zdJ fun p=>zP fun _ k=>zQ5 y4 zbq xL zbI zbF L p k
def zwD:Hint:=⟨[],[],[none,some ((bl 78 27),(bl 134217679 27)),none,some ((bl 12 27),(bl 134217677 27)),none,none],[],[],false,false,[]⟩
def cf_ref02_FromBytes:CF:=cfD zwD 173
def zkl:CC:=zE [1,1,0,1,0,0] cf_ref02_FromBytes.body
def zwa:CC:=zE [1,1,1] cf_ref02_FromBytes.body
def zb4:Nat→Sh:=zl [(14,(.int .u64)),(17,(.int .u8))]
def zb5(L:Nat):CBC:=noC
def zlK:St→St:=zQ 0 (bl 78 27) (bl 134217679 27)
def zfF(D:Int)(E:List V)(p z A C:Int)(F:List V):St:=⟨(jn 1 ((V.ptr 1 0)::((V.ptr 2 0)::((V.ptr 3 0)::(jn 2 ((Qe D)::(jn 20 []))))))),(gn 1 ((.live true E)::((.live true [(Qd p),(Qd z),(Qd A),(Qd C)])::((.live true F)::(gn 23 [])))))⟩
def zmc(p z A C:Int)(D:List V):St:=⟨(jn 2 ((V.ptr 2 0)::((V.ptr 3 0)::(jn 23 [])))),(gn 2 ((.live true [(Qd p),(Qd z),(Qd A),(Qd C)])::((.live true D)::(gn 23 []))))⟩
def zCK{β:Type}(L:Nat)(z:List V)(p:Int→List V→Int→Int→Int→Int→List V→Ob β):Ob β:=p (0:Int) z (0:Int) (0:Int) (0:Int) (0:Int) [(Qd (0:Int)),(Qd (0:Int)),(Qd (0:Int)),(Qd (0:Int))]
theorem zLX{β:Type}(L:Nat)(D:List V)(k:KK β):yj zb4 (zb5 L) L cf_ref02_FromBytes [(V.agg D)] [] k=zCK L D (fun E F p z A C G=>xw (ze zb4 (zb5 L) 0 L zkl) zlK L (zfF E F p z A C G) (zg 0 (zu (ze zb4 (zb5 L) 0 L zwa) (yz 0 (CF.res cf_ref02_FromBytes) k)))):=by kernel_rfl
def zsT{β:Type}(L:Nat)(A:Int)(I:List V)(C D E F:Int)(G:List V)(p:Int→List V→Int→Int→Int→Int→List V→Ob β)(H:Int→Int→Int→Int→List V→Ob β):Ob β:=ifb (decide (A<(32:Int))) (lt (QG .i64 (((31:Int):Int)-A)) fun J=>lt (QG .i64 (Int.tdiv J (8:Int))) fun z=>chk (0≤z∧z<((4:Nat):Int)) (cI .u64 G (0+((XM z)*1)) fun O=>chk (0≤A∧A<((32:Nat):Int)) (cI .u8 I (0+((XM A)*1)) fun P=>lt (QG .u64 P) fun Q=>lt (Int.tmod J (8:Int)) fun R=>lt (QG .i64 (((8:Int):Int)*R)) fun M=>chk (0≤M) (lt (zkq .u64 Q M) fun S=>lt (ior .u64 O S) fun T=>chk (0≤z∧z<((4:Nat):Int)) (chk (1=1∧(0+((XM z)*1))+1≤(XK G)) (lt (zq G (0+((XM z)*1)) [(Qd T)]) fun U=>lt (QG .i64 ((A:Int)+(1:Int))) fun N=>p N I C D E F U)))))) (H C D E F G)
theorem zCR{β:Type}(L:Nat)(E:Int)(F:List V)(p z A C:Int)(D:List V)(X:St→Ob β)(K:KT β):ze zb4 (zb5 L) 0 L zkl (zfF E F p z A C D) (yF zlK X K)=zsT L E F p z A C D (fun E F p z A C D=>X (zfF E F p z A C D)) (fun p z A C D=>K (.exit 0) (zmc p z A C D)):=by kernel_rfl
def zqs{β:Type}(L:Nat)(A C D E:Int)(F:List V)(p:List V→Ob β):Ob β:=chk (0+4≤(XK F)) (chk ((XK (XL 4 F))=4∧0+4≤4) (lt (zq [(Qd A),(Qd C),(Qd D),(Qd E)] 0 (XL 4 F)) fun z=>chk (0=0∧(XK z)=4∧4≠0) (p z)))
theorem zzL{β:Type}(L:Nat)(p z A C:Int)(D:List V)(k:KK β):(zg 0 (zu (ze zb4 (zb5 L) 0 L zwa) (yz 0 (CF.res cf_ref02_FromBytes) k))) (.exit 0) (zmc p z A C D)=zqs L p z A C D (fun E=>k (V.agg E) []):=by kernel_rfl
def zlw{β:Type}(L:Nat)(D:Int→Int→Int→Int→List V→Ob β):Nat→Int→List V→Int→Int→Int→Int→List V→Ob β
 | 0,_,_,_,_,_,_,_=>none
 | n+1,E,F,p,z,A,C,G=>zsT L E F p z A C G (fun E F p z A C G=>zlw L D n E F p z A C G) D
theorem zpt{β:Type}(L:Nat)(K:KT β):∀ (n:Nat) (E:Int) (F:List V) (p z A C:Int) (D:List V),xw (ze zb4 (zb5 L) 0 L zkl) zlK n (zfF E F p z A C D) K=zlw L (fun p z A C D=>K (.exit 0) (zmc p z A C D)) n E F p z A C D:=by
 intro n; induction n <;> intros
 ·rfl
 ·exact (zCR ..).trans (by simp only [*]; rfl)
def zsM{β:Type}(L:Nat)(F:List V)(D:List V→Ob β):Ob β:=zCK L F (fun G H p z A C E=>zlw L (fun p z A C E=>zqs L p z A C E D) L G H p z A C E)
theorem zLV{β:Type}(L:Nat)(p:List V)(k:KK β):yj zb4 (zb5 L) L cf_ref02_FromBytes [(V.agg p)] [] k=zsM L p (fun p=>k (V.agg p) []):=by
 refine (zLX L p k).trans ?_
 unfold zsM
 first
  | (simp only [zpt,zzL]; done)
  | (simp only [zpt]; rfl)
abbrev zlW:=∀ (β:Type),Nat→List V→(List V→Ob β)→Ob β
def zaZ:zlW:=fun β=>@zsM β
def zeq(zaZ:zlW)(L:Nat):Dk:=dA AG fun p=>d0 fun β k=>zaZ β L p (fun p=>k (V.agg p) [])
theorem zL1(L:Nat):DK (zeq zaZ L) (fun _=>yj zb4 (zb5 L) L cf_ref02_FromBytes):=zF zap fun p=>zP fun _ k=>zLV L p k
def zKy:Hint:=⟨[],[],[none,some ((bl 44 24),(bl 16777199 24)),none,some ((bl 0 24),(bl 16777155 24)),none,none,some ((bl 16 24),(bl 16777171 24)),none,some ((bl 16 24),(bl 16777171 24)),none],[],[],false,false,[]⟩
def cf_ref02_Cmp:CF:=cfD zKy 172
def zuH:CC:=zE [1,0,1,0,0] cf_ref02_Cmp.body
def zBB:CC:=zE [1,1] cf_ref02_Cmp.body
def zeP:Nat→Sh:=zl [(12,(.int .u64)),(15,(.int .u64)),(19,(.int .u64)),(22,(.int .u64))]
def ze3(L:Nat):CBC:=noC
def zwG:St→St:=zQ 0 (bl 44 24) (bl 16777199 24)
def zkL(p:Int)(z A:List V):St:=⟨(jn 2 ((V.ptr 2 0)::((V.ptr 3 0)::(jn 1 ((Qe p)::(jn 18 [])))))),(gn 2 ((.live true z)::((.live true A)::(gn 20 []))))⟩
def zuG(p:Int):St:=⟨(jn 4 ((Qe p)::(jn 19 []))),(gn 24 [])⟩
def zvU:St:=⟨(jn 24 []),(gn 24 [])⟩
def zR9{β:Type}(L:Nat)(z A:List V)(p:Int→List V→List V→Ob β):Ob β:=p (3:Int) z A
theorem zWN{β:Type}(L:Nat)(p z:List V)(k:KK β):yj zeP (ze3 L) L cf_ref02_Cmp [(V.agg p),(V.agg z)] [] k=zR9 L p z (fun A C D=>xw (ze zeP (ze3 L) 0 L zuH) zwG L (zkL A C D) (zg 0 (zu (ze zeP (ze3 L) 0 L zBB) (yz 0 (CF.res cf_ref02_Cmp) k)))):=by kernel_rfl
def zHd{β:Type}(L:Nat)(p:Int)(C D:List V)(z:Int→Ob β)(A:Int→List V→List V→Ob β)(E:Ob β):Ob β:=ifb (decide (p≥(0:Int))) (chk (0≤p∧p<((4:Nat):Int)) (cI .u64 C (0+((XM p)*1)) fun F=>chk (0≤p∧p<((4:Nat):Int)) (cI .u64 D (0+((XM p)*1)) fun G=>ifb (decide (F<G)) (z (-1:Int)) (chk (0≤p∧p<((4:Nat):Int)) (cI .u64 C (0+((XM p)*1)) fun H=>chk (0≤p∧p<((4:Nat):Int)) (cI .u64 D (0+((XM p)*1)) fun I=>ifb (decide (H>I)) (z (1:Int)) (lt (QG .i64 ((p:Int)-(1:Int))) fun J=>A J C D))))))) (E)
theorem zOB{β:Type}(L:Nat)(p:Int)(z A:List V)(X:St→Ob β)(K:KT β):ze zeP (ze3 L) 0 L zuH (zkL p z A) (yF zwG X K)=zHd L p z A (fun C=>K .ret (zuG C)) (fun p z A=>X (zkL p z A)) (K (.exit 0) (zvU)):=by kernel_rfl
def zz3{β:Type}(L:Nat)(z:Int)(p:Int→Ob β):Ob β:=p z
theorem zJR{β:Type}(L:Nat)(p:Int)(k:KK β):(zg 0 (zu (ze zeP (ze3 L) 0 L zBB) (yz 0 (CF.res cf_ref02_Cmp) k))) .ret (zuG p)=zz3 L p (fun z=>k (Qe z) []):=by kernel_rfl
def zBY{β:Type}(L:Nat)(p:Int→Ob β):Ob β:=p (0:Int)
theorem zMw{β:Type}(L:Nat)(k:KK β):(zg 0 (zu (ze zeP (ze3 L) 0 L zBB) (yz 0 (CF.res cf_ref02_Cmp) k))) (.exit 0) (zvU)=zBY L (fun p=>k (Qe p) []):=by kernel_rfl
def zw1{β:Type}(L:Nat)(p:Int→Ob β)(z:Ob β):Nat→Int→List V→List V→Ob β
 | 0,_,_,_=>none
 | n+1,A,C,D=>zHd L A C D p (fun A C D=>zw1 L p z n A C D) z
theorem zzN{β:Type}(L:Nat)(K:KT β):∀ (n:Nat) (p:Int) (z A:List V),xw (ze zeP (ze3 L) 0 L zuH) zwG n (zkL p z A) K=zw1 L (fun C=>K .ret (zuG C)) (K (.exit 0) (zvU)) n p z A:=by
 intro n; induction n <;> intros
 ·rfl
 ·exact (zOB ..).trans (by simp only [*]; rfl)
def zIe{β:Type}(L:Nat)(z A:List V)(p:Int→Ob β):Ob β:=zR9 L z A (fun C D E=>zw1 L (fun F=>zz3 L F p) (zBY L p) L C D E)
theorem zW4{β:Type}(L:Nat)(p z:List V)(k:KK β):yj zeP (ze3 L) L cf_ref02_Cmp [(V.agg p),(V.agg z)] [] k=zIe L p z (fun p=>k (Qe p) []):=by
 refine (zWN L p z k).trans ?_
 unfold zIe
 first
  | (simp only [zzN,zJR,zMw]; done)
  | (simp only [zzN]; rfl)
abbrev zeT:=∀ (β:Type),Nat→List V→List V→(Int→Ob β)→Ob β
def yY:zeT:=fun β=>@zIe β
def zea(yY:zeT)(L:Nat):Dk:=dA AG fun p=>dA AG fun z=>d0 fun β k=>yY β L p z (fun p=>k (Qe p) [])
theorem zW3(L:Nat):DK (zea yY L) (fun _=>yj zeP (ze3 L) L cf_ref02_Cmp):=zF zap fun p=>zF zap fun z=>zP fun _ k=>zW4 L p z k
def zFK:Hint:=⟨[(1,2)],[],[none],[],[],false,false,[]⟩
def zXM:CF:=cfD zFK 144
def z7Z:Nat→Sh:=zl []
def z75(yU:zcB)(zaZ:zlW)(yY:zeT)(L:Nat):CBC:=(xg 528 (zea yY L) (xg 529 (zeq zaZ L) (xg 527 (zmz yU L) noC)))
def zYZ{β:Type}(yU:zcB)(zaZ:zlW)(yY:zeT)(L:Nat)(z:List V)(D:Int)(p:Bool→Ob β):Ob β:=yU β L D (fun A E=>chk ((XK A)=4∧0+4≤4) (lt (zq [(Qd (0:Int)),(Qd (0:Int)),(Qd (0:Int)),(Qd (0:Int))] 0 A) fun C=>ifb ((E:Int)==(0:Int)) (chk (0+32≤(XK z)) (zaZ β L (XL 32 z) (fun F=>chk (0+4≤(XK C)) (yY β L F (XL 4 C) (fun G=>p (decide (G≤(0:Int)))))))) (p false)))
abbrev zM9:=∀ (β:Type),Nat→List V→Int→(Bool→Ob β)→Ob β
def zNt:zM9:=fun β=>@zYZ β yU zaZ yY
def z8Q(zNt:zM9)(L:Nat):Dk:=dA AG fun p=>dA (AI .u32) fun z=>d0 fun β k=>zNt β L p z (fun p=>k (V.sc (.bool p)) [])
def zE0:Hint:=⟨[(0,0),(11,4)],[],[none,none,none,none,none,some ((bl 4035225266123964418 107),(bl 162259276829213363391578010288067 107)),none,some ((bl 2 107),(bl 162259276829213363391578010288067 107)),none,none,some ((bl 4 107),(bl 162259276829213363391578010288069 107)),none],[],[],false,false,[]⟩
def cf_ref13_Valid:CF:=cfD zE0 149
def z3S:CC:=zE [1,1,1,0,1,0,0] cf_ref13_Valid.body
def z5Q:CC:=zE [1,1,1,1] cf_ref13_Valid.body
def z7O:Nat→Sh:=zl [(12,(.int .i64)),(17,(.int .i64)),(22,(.int .u32)),(27,(.int .u32)),(31,(.int .i64)),(35,(.int .i64)),(40,(.int .i64)),(45,(.int .i64)),(50,(.int .i64)),(55,(.int .i64)),(59,(.sl 33)),(67,(.int .i64)),(71,(.int .i64)),(79,(.sl 33)),(84,(.int .i64)),(86,(.int .i64)),(94,(.int .u32))]
def z8v(xL:zcT)(yU:zcB)(yY:zeT)(L:Nat):CBC:=(xg 528 (zea yY L) (xg 527 (zmz yU L) (xg 553 (zdX xL L) noC)))
def z4k:St→St:=zQ 0 (bl 4035225266123964418 107) (bl 162259276829213363391578010288067 107)
def z11(p:Ls)(z A:Int)(C:List V):St:=⟨(jn 1 ((V.ptr 1 0)::(jn 57 ((V.sl 33 p)::((Qe z)::((Qe A)::(jn 45 []))))))),(gn 1 ((.live true C)::(gn 105 [])))⟩
def z5k(p:Bool):St:=⟨(jn 2 ((V.sc (.bool p))::(jn 104 []))),(gn 107 [])⟩
def z5R(p:List V):St:=⟨(jn 1 ((V.ptr 1 0)::(jn 105 []))),(gn 1 ((.live true p)::(gn 105 [])))⟩
def zZl{β:Type}(xL:zcT)(yU:zcB)(yY:zeT)(L:Nat)(z:List V)(p:Bool→Ob β)(A:Ls→Int→Int→List V→Ob β):Ob β:=chk (68+4≤(XK z)) (xL β L (XL 4 (List.drop 68 z)) (fun E=>ifb E (p false) (cI .i64 z 72 fun F=>ifb (decide (F<(1:Int))) (p false) (cI .i64 z 72 fun G=>ifb (decide (G>(4096:Int))) (p false) (cI .u32 z 73 fun H=>ifb (decide (H<(1:Int))) (p false) (cI .u32 z 73 fun I=>ifb (decide (I>(1048576:Int))) (p false) (cI .i64 z 77 fun J=>ifb (decide (J<(0:Int))) (p false) (cI .i64 z 77 fun M=>ifb (decide (M>(2100000000000000:Int))) (p false) (cI .i64 z 78 fun N=>ifb (decide (N<(1:Int))) (p false) (cI .i64 z 78 fun O=>ifb (decide (O>(16777216:Int))) (p false) (cI .i64 z 79 fun P=>ifb (decide (P<(0:Int))) (p false) (cI .i64 z 79 fun D=>ifb (decide (D>(16777216:Int))) (p false) (cLd 33 z 76 fun C=>A C ((XK C:Nat):Int) (0:Int) z)))))))))))))
def zOa{β:Type}(xL:zcT)(yU:zcB)(yY:zeT)(L:Nat)(C:Ls)(D z:Int)(F:List V)(A:Bool→Ob β)(p:Ls→Int→Int→List V→Ob β)(H:List V→Ob β):Ob β:=ifb (decide (z<D)) (idx C z fun G=>chk ((XK (XL 33 G))=33∧0+33≤33) (lt (zq ([(Qe (0:Int))]++We 32 (Qa (0:Int))) 0 (XL 33 G)) fun E=>cI .i64 E 0 fun I=>ifb (decide (I<(1:Int))) (A false) (cI .i64 E 0 fun J=>ifb (decide (J>(16777216:Int))) (A false) (ifb (decide (z>(0:Int))) (cLd 33 F 76 fun M=>lt (QG .i64 ((z:Int)-(1:Int))) fun N=>idx M N fun O=>cI .i64 O 0 fun P=>cI .i64 E 0 fun Q=>ifb (decide (P≥Q)) (A false) (lt (QG .i64 ((z:Int)+(1:Int))) fun R=>p C D R F)) (lt (QG .i64 ((z:Int)+(1:Int))) fun S=>p C D S F))))) (H F)
def zIz{β:Type}(xL:zcT)(yU:zcB)(yY:zeT)(L:Nat)(z:Bool)(p:Bool→Ob β):Ob β:=p z
def zJx{β:Type}(xL:zcT)(yU:zcB)(yY:zeT)(L:Nat)(C:List V)(p:Bool→Ob β):Ob β:=cI .u32 C 66 fun D=>yU β L D (fun z E=>chk ((XK z)=4∧0+4≤4) (lt (zq [(Qd (0:Int)),(Qd (0:Int)),(Qd (0:Int)),(Qd (0:Int))] 0 z) fun A=>ifb ((E:Int)==(0:Int)) (chk (0+4≤(XK A)) (chk (68+4≤(XK C)) (yY β L (XL 4 A) (XL 4 (List.drop 68 C)) (fun F=>p (decide (F≤(0:Int))))))) (p false)))
def zxW{β:Type}(xL:zcT)(yU:zcB)(yY:zeT)(L:Nat)(p:Bool→Ob β)(z:List V→Ob β):Nat→Ls→Int→Int→List V→Ob β
 | 0,_,_,_,_=>none
 | n+1,A,C,D,E=>zOa xL yU yY L A C D E p (fun A C D E=>zxW xL yU yY L p z n A C D E) z
def zY5{β:Type}(xL:zcT)(yU:zcB)(yY:zeT)(L:Nat)(E:List V)(p:Bool→Ob β):Ob β:=zZl xL yU yY L E p (fun A C D z=>zxW xL yU yY L (fun F=>zIz xL yU yY L F p) (fun z=>zJx xL yU yY L z p) L A C D z)
abbrev zM7:=∀ (β:Type),Nat→List V→(Bool→Ob β)→Ob β
def zNl:zM7:=fun β=>@zY5 β xL yU yY
def z8R(zNl:zM7)(L:Nat):Dk:=dA AG fun p=>d0 fun β k=>zNl β L p (fun p=>k (V.sc (.bool p)) [])
def zzK:Hint:=⟨[],[],[none,some ((bl 76 40),(bl 1099511627727 40)),none,some ((bl 12 40),(bl 1099511627727 40)),none,none,some ((bl 16 40),(bl 1099511627731 40)),none,some ((bl 16 40),(bl 1099511627731 40)),none,none,none,none,none,none],[],[],false,false,[]⟩
def cf_ref09_Compare:CF:=cfD zzK 183
def zni:CC:=zE [1,0,1,0,0] cf_ref09_Compare.body
def zsu:CC:=zE [1,1] cf_ref09_Compare.body
def zcc:Nat→Sh:=zl [(12,(.int .u8)),(16,(.int .u8)),(21,(.int .u8)),(25,(.int .u8)),(30,(.int .u32)),(32,(.int .u32)),(36,(.int .u32)),(38,(.int .u32))]
def zb8(L:Nat):CBC:=noC
def zpl:St→St:=zQ 0 (bl 76 40) (bl 1099511627727 40)
def zhv(p:Int)(z A:List V):St:=⟨(jn 2 ((V.ptr 2 0)::((V.ptr 3 0)::(jn 2 ((Qe p)::(jn 33 [])))))),(gn 2 ((.live true z)::((.live true A)::(gn 36 []))))⟩
def znV(p:Int):St:=⟨(jn 4 ((Qe p)::(jn 35 []))),(gn 40 [])⟩
def zo8(p z:List V):St:=⟨(jn 2 ((V.ptr 2 0)::((V.ptr 3 0)::(jn 36 [])))),(gn 2 ((.live true p)::((.live true z)::(gn 36 []))))⟩
def zHW{β:Type}(L:Nat)(z A:List V)(p:Int→List V→List V→Ob β):Ob β:=p (0:Int) z A
theorem zPe{β:Type}(L:Nat)(p z:List V)(k:KK β):yj zcc (zb8 L) L cf_ref09_Compare [(V.agg p),(V.agg z)] [] k=zHW L p z (fun A C D=>xw (ze zcc (zb8 L) 0 L zni) zpl L (zhv A C D) (zg 0 (zu (ze zcc (zb8 L) 0 L zsu) (yz 0 (CF.res cf_ref09_Compare) k)))):=by kernel_rfl
def zxX{β:Type}(L:Nat)(p:Int)(C D:List V)(z:Int→Ob β)(A:Int→List V→List V→Ob β)(E:List V→List V→Ob β):Ob β:=ifb (decide (p<(32:Int))) (chk (0≤p∧p<((32:Nat):Int)) (cI .u8 C (0+((XM p)*1)) fun F=>chk (0≤p∧p<((32:Nat):Int)) (cI .u8 D (0+((XM p)*1)) fun G=>ifb (decide (F<G)) (z (-1:Int)) (chk (0≤p∧p<((32:Nat):Int)) (cI .u8 C (0+((XM p)*1)) fun H=>chk (0≤p∧p<((32:Nat):Int)) (cI .u8 D (0+((XM p)*1)) fun I=>ifb (decide (H>I)) (z (1:Int)) (lt (QG .i64 ((p:Int)+(1:Int))) fun J=>A J C D))))))) (E C D)
theorem zII{β:Type}(L:Nat)(A:Int)(p z:List V)(X:St→Ob β)(K:KT β):ze zcc (zb8 L) 0 L zni (zhv A p z) (yF zpl X K)=zxX L A p z (fun C=>K .ret (znV C)) (fun A p z=>X (zhv A p z)) (fun p z=>K (.exit 0) (zo8 p z)):=by kernel_rfl
def ztj{β:Type}(L:Nat)(z:Int)(p:Int→Ob β):Ob β:=p z
theorem zDc{β:Type}(L:Nat)(p:Int)(k:KK β):(zg 0 (zu (ze zcc (zb8 L) 0 L zsu) (yz 0 (CF.res cf_ref09_Compare) k))) .ret (znV p)=ztj L p (fun z=>k (Qe z) []):=by kernel_rfl
def zuU{β:Type}(L:Nat)(z A:List V)(p:Int→Ob β):Ob β:=cI .u32 z 32 fun C=>cI .u32 A 32 fun D=>ifb (decide (C<D)) (p (-1:Int)) (cI .u32 z 32 fun E=>cI .u32 A 32 fun F=>ifb (decide (E>F)) (p (1:Int)) (p (0:Int)))
theorem zE9{β:Type}(L:Nat)(p z:List V)(k:KK β):(zg 0 (zu (ze zcc (zb8 L) 0 L zsu) (yz 0 (CF.res cf_ref09_Compare) k))) (.exit 0) (zo8 p z)=zuU L p z (fun A=>k (Qe A) []):=by kernel_rfl
def zoD{β:Type}(L:Nat)(p:Int→Ob β)(z:List V→List V→Ob β):Nat→Int→List V→List V→Ob β
 | 0,_,_,_=>none
 | n+1,A,C,D=>zxX L A C D p (fun A C D=>zoD L p z n A C D) z
theorem zti{β:Type}(L:Nat)(K:KT β):∀ (n:Nat) (A:Int) (p z:List V),xw (ze zcc (zb8 L) 0 L zni) zpl n (zhv A p z) K=zoD L (fun C=>K .ret (znV C)) (fun p z=>K (.exit 0) (zo8 p z)) n A p z:=by
 intro n; induction n <;> intros
 ·rfl
 ·exact (zII ..).trans (by simp only [*]; rfl)
def zvs{β:Type}(L:Nat)(C D:List V)(p:Int→Ob β):Ob β:=zHW L C D (fun E z A=>zoD L (fun F=>ztj L F p) (fun z A=>zuU L z A p) L E z A)
theorem zQk{β:Type}(L:Nat)(p z:List V)(k:KK β):yj zcc (zb8 L) L cf_ref09_Compare [(V.agg p),(V.agg z)] [] k=zvs L p z (fun p=>k (Qe p) []):=by
 refine (zPe L p z k).trans ?_
 unfold zvs
 first
  | (simp only [zti,zDc,zE9]; done)
  | (simp only [zti]; rfl)
abbrev zaV:=∀ (β:Type),Nat→List V→List V→(Int→Ob β)→Ob β
def zC:zaV:=fun β=>@zvs β
def zpz(zC:zaV)(L:Nat):Dk:=dA AG fun p=>dA AG fun z=>d0 fun β k=>zC β L p z (fun p=>k (Qe p) [])
theorem zO2(L:Nat):DK (zpz zC L) (fun _=>yj zcc (zb8 L) L cf_ref09_Compare):=zF zap fun p=>zF zap fun z=>zP fun _ k=>zQk L p z k
def zDT:Hint:=⟨[(0,0),(6,3)],[],[none,none,none,some ((bl 14680074 80),(bl 1208335523803170957426635 80)),none,some ((bl 0 80),(bl 1208335523803170957426625 80)),none,none,some ((bl 4 80),(bl 1208335523803170957426629 80)),none,some ((bl 4 80),(bl 1208335523803170957426629 80)),none,some ((bl 4 80),(bl 1208335523803170957426629 80)),none],[],[],false,false,[]⟩
def cf_ref23_Sound:CF:=cfD zDT 164
def znF:CC:=zE [1,1,1,0,1,0,0] cf_ref23_Sound.body
def zsJ:CC:=zE [1,1,1,1] cf_ref23_Sound.body
def zcZ:Nat→Sh:=zl [(7,(.int .i64)),(11,(.int .i64)),(16,(.sl 37)),(21,(.sl 37)),(32,(.sl 37)),(45,(.int .i64)),(50,(.int .i64)),(52,(.int .i64)),(57,(.int .i64)),(62,(.int .i64)),(68,(.sl 1)),(75,(.int .i64))]
def zc2(zC:zaV)(L:Nat):CBC:=(xg 136 (zpz zC L) noC)
def zpm:St→St:=zQ 0 (bl 14680074 80) (bl 1208335523803170957426635 80)
def zhB(C:Int)(p:Ls)(z A:Int)(D:List V):St:=⟨(jn 1 ((V.ptr 1 0)::(jn 1 ((Qe C)::(jn 17 ((V.sl 37 p)::((Qe z)::((Qe A)::(jn 56 []))))))))),(gn 1 ((.live true D)::(gn 78 [])))⟩
def zpT(p:Bool):St:=⟨(jn 2 ((V.sc (.bool p))::(jn 77 []))),(gn 80 [])⟩
def zrV:St:=⟨(jn 80 []),(gn 80 [])⟩
def zNO{β:Type}(zC:zaV)(L:Nat)(A:List V)(p:Bool→Ob β)(z:Int→Ls→Int→Int→List V→Ob β):Ob β:=cI .i64 A 0 fun D=>ifb (decide (D<(0:Int))) (p false) (cI .i64 A 0 fun E=>ifb (decide (E>(16777216:Int))) (p false) (cLd 37 A 33 fun F=>ifb (decide (((XK F:Nat):Int)>(100000:Int))) (p false) (cLd 37 A 33 fun C=>z (0:Int) C ((XK C:Nat):Int) (0:Int) A)))
theorem zSV{β:Type}(zC:zaV)(L:Nat)(p:List V)(k:KK β):yj zcZ (zc2 zC L) L cf_ref23_Sound [(V.agg p)] [] k=zNO zC L p (fun p=>k (V.sc (.bool p)) []) (fun D z A C E=>xw (ze zcZ (zc2 zC L) 0 L znF) zpm L (zhB D z A C E) (zg 0 (zu (ze zcZ (zc2 zC L) 0 L zsJ) (yz 0 (CF.res cf_ref23_Sound) k)))):=by kernel_rfl
def zxR{β:Type}(zC:zaV)(L:Nat)(J:Int)(D:Ls)(E C:Int)(F:List V)(p:Bool→Ob β)(A:Int→Ls→Int→Int→List V→Ob β)(I:Ob β):Ob β:=ifb (decide (C<E)) (idx D C fun M=>chk ((XK (XL 37 M))=37∧0+37≤37) (lt (zq (We 32 (Qa (0:Int))++[(Qc (0:Int)),(Qe (0:Int)),(V.gs 1 ([]:Ls)),(Qe (0:Int)),(V.sc (.bool false))]) 0 (XL 37 M)) fun z=>ifb (decide (C>(0:Int))) (cLd 37 F 33 fun v6=>lt (QG .i64 ((C:Int)-(1:Int))) fun x7=>idx v6 x7 fun c8=>chk (0+33≤(XK z)) (zC β L (XL 33 c8) (XL 33 z) (fun v9=>ifb (decide (v9≥(0:Int))) (p false) (cI .i64 z 35 fun N=>ifb (decide (N<(1:Int))) (p false) (cI .i64 z 35 fun O=>cI .i64 F 0 fun P=>ifb (decide (O>P)) (p false) (cI .i64 z 33 fun Q=>ifb (decide (Q<(0:Int))) (p false) (cI .i64 z 33 fun R=>ifb (decide (R>(2100000000000000:Int))) (p false) (cLd 1 z 34 fun S=>ifb (decide (((XK S:Nat):Int)>(520:Int))) (p false) (cI .i64 z 33 fun T=>lt (QG .i64 ((J:Int)+T)) fun G=>ifb (decide (G>(2100000000000000:Int))) (p false) (lt (QG .i64 ((C:Int)+(1:Int))) fun U=>A G D E U F)))))))))) (cI .i64 z 35 fun W=>ifb (decide (W<(1:Int))) (p false) (cI .i64 z 35 fun X=>cI .i64 F 0 fun Y=>ifb (decide (X>Y)) (p false) (cI .i64 z 33 fun Z=>ifb (decide (Z<(0:Int))) (p false) (cI .i64 z 33 fun aa=>ifb (decide (aa>(2100000000000000:Int))) (p false) (cLd 1 z 34 fun ab=>ifb (decide (((XK ab:Nat):Int)>(520:Int))) (p false) (cI .i64 z 33 fun ac=>lt (QG .i64 ((J:Int)+ac)) fun H=>ifb (decide (H>(2100000000000000:Int))) (p false) (lt (QG .i64 ((C:Int)+(1:Int))) fun ad=>A H D E ad F))))))))) (I)
theorem zIK{β:Type}(zC:zaV)(L:Nat)(C:Int)(p:Ls)(z A:Int)(D:List V)(X:St→Ob β)(K:KT β):ze zcZ (zc2 zC L) 0 L znF (zhB C p z A D) (yF zpm X K)=zxR zC L C p z A D (fun E=>K .ret (zpT E)) (fun C p z A D=>X (zhB C p z A D)) (K (.exit 0) (zrV)):=by kernel_rfl
def zs0{β:Type}(zC:zaV)(L:Nat)(z:Bool)(p:Bool→Ob β):Ob β:=p z
theorem zCX{β:Type}(zC:zaV)(L:Nat)(p:Bool)(k:KK β):(zg 0 (zu (ze zcZ (zc2 zC L) 0 L zsJ) (yz 0 (CF.res cf_ref23_Sound) k))) .ret (zpT p)=zs0 zC L p (fun z=>k (V.sc (.bool z)) []):=by kernel_rfl
def zu6{β:Type}(zC:zaV)(L:Nat)(p:Bool→Ob β):Ob β:=p true
theorem zEb{β:Type}(zC:zaV)(L:Nat)(k:KK β):(zg 0 (zu (ze zcZ (zc2 zC L) 0 L zsJ) (yz 0 (CF.res cf_ref23_Sound) k))) (.exit 0) (zrV)=zu6 zC L (fun p=>k (V.sc (.bool p)) []):=by kernel_rfl
def zo9{β:Type}(zC:zaV)(L:Nat)(p:Bool→Ob β)(z:Ob β):Nat→Int→Ls→Int→Int→List V→Ob β
 | 0,_,_,_,_,_=>none
 | n+1,E,A,C,D,F=>zxR zC L E A C D F p (fun E A C D F=>zo9 zC L p z n E A C D F) z
theorem ztm{β:Type}(zC:zaV)(L:Nat)(K:KT β):∀ (n:Nat) (C:Int) (p:Ls) (z A:Int) (D:List V),xw (ze zcZ (zc2 zC L) 0 L znF) zpm n (zhB C p z A D) K=zo9 zC L (fun E=>K .ret (zpT E)) (K (.exit 0) (zrV)) n C p z A D:=by
 intro n; induction n <;> intros
 ·rfl
 ·exact (zIK ..).trans (by simp only [*]; rfl)
def zAJ{β:Type}(zC:zaV)(L:Nat)(D:List V)(p:Bool→Ob β):Ob β:=zNO zC L D p (fun E z A C F=>zo9 zC L (fun G=>zs0 zC L G p) (zu6 zC L p) L E z A C F)
theorem zSD{β:Type}(zC:zaV)(L:Nat)(p:List V)(k:KK β):yj zcZ (zc2 zC L) L cf_ref23_Sound [(V.agg p)] [] k=zAJ zC L p (fun p=>k (V.sc (.bool p)) []):=by
 refine (zSV zC L p k).trans ?_
 unfold zAJ
 first
  | (simp only [ztm,zCX,zEb]; done)
  | (simp only [ztm]; rfl)
abbrev zNj:=∀ (β:Type),Nat→List V→(Bool→Ob β)→Ob β
def zok:zNj:=fun β=>@zAJ β zC
def zA4(zok:zNj)(L:Nat):Dk:=dA AG fun p=>d0 fun β k=>zok β L p (fun p=>k (V.sc (.bool p)) [])
theorem zSs(L:Nat):DK (zA4 zok L) (fun _=>yj zcZ (zc2 zC L) L cf_ref23_Sound):=zF zap fun p=>zP fun _ k=>zSD zC L p k
def zFz:Hint:=⟨[(0,0),(5,2)],[],[none,none,none,some ((bl 57344 23),(bl 8388523 23)),none,some ((bl 0 23),(bl 8388523 23)),none,none,some ((bl 16 23),(bl 8388539 23)),none],[],[],false,false,[]⟩
def cf_ref09_Final:CF:=cfD zFz 165
def zoZ:CC:=zE [1,1,0,1,0,0] cf_ref09_Final.body
def zt3:CC:=zE [1,1,1] cf_ref09_Final.body
def zc4:Nat→Sh:=zl [(8,(.int .u32)),(13,(.sl 35)),(20,(.int .u32))]
def zc0(L:Nat):CBC:=noC
def zqa:St→St:=zQ 0 (bl 57344 23) (bl 8388523 23)
def zih(p:Ls)(z A:Int):St:=⟨(jn 13 ((V.sl 35 p)::((Qe z)::((Qe A)::(jn 7 []))))),(gn 23 [])⟩
def zqI(p:Bool):St:=⟨(jn 4 ((V.sc (.bool p))::(jn 18 []))),(gn 23 [])⟩
def zr7:St:=⟨(jn 23 []),(gn 23 [])⟩
def zMX{β:Type}(L:Nat)(A:List V)(D:Int)(z:Bool→Ob β)(p:Ls→Int→Int→Ob β):Ob β:=cI .u32 A 3 fun E=>lt (QG .i64 E) fun F=>ifb (decide (F≤D)) (z true) (cLd 35 A 1 fun C=>p C ((XK C:Nat):Int) (0:Int))
theorem zS1{β:Type}(L:Nat)(p:List V)(z:Int)(k:KK β):yj zc4 (zc0 L) L cf_ref09_Final [(V.agg p),(Qe z)] [] k=zMX L p z (fun p=>k (V.sc (.bool p)) []) (fun A C D=>xw (ze zc4 (zc0 L) 0 L zoZ) zqa L (zih A C D) (zg 0 (zu (ze zc4 (zc0 L) 0 L zt3) (yz 0 (CF.res cf_ref09_Final) k)))):=by kernel_rfl
def zzH{β:Type}(L:Nat)(C:Ls)(D z:Int)(A:Bool→Ob β)(p:Ls→Int→Int→Ob β)(E:Ob β):Ob β:=ifb (decide (z<D)) (idx C z fun F=>chk ((XK (XL 35 F))=35∧0+35≤35) (lt (zq (We 32 (Qa (0:Int))++[(Qc (0:Int)),(Qc (0:Int)),(V.gs 1 ([]:Ls))]) 0 (XL 35 F)) fun G=>cI .u32 G 33 fun H=>ifb ((H:Int) != (4294967295:Int)) (A false) (lt (QG .i64 ((z:Int)+(1:Int))) fun I=>p C D I))) (E)
theorem zLl{β:Type}(L:Nat)(p:Ls)(z A:Int)(X:St→Ob β)(K:KT β):ze zc4 (zc0 L) 0 L zoZ (zih p z A) (yF zqa X K)=zzH L p z A (fun C=>K .ret (zqI C)) (fun p z A=>X (zih p z A)) (K (.exit 0) (zr7)):=by kernel_rfl
def zu4{β:Type}(L:Nat)(z:Bool)(p:Bool→Ob β):Ob β:=p z
theorem zDK{β:Type}(L:Nat)(p:Bool)(k:KK β):(zg 0 (zu (ze zc4 (zc0 L) 0 L zt3) (yz 0 (CF.res cf_ref09_Final) k))) .ret (zqI p)=zu4 L p (fun z=>k (V.sc (.bool z)) []):=by kernel_rfl
def zvP{β:Type}(L:Nat)(p:Bool→Ob β):Ob β:=p true
theorem zFX{β:Type}(L:Nat)(k:KK β):(zg 0 (zu (ze zc4 (zc0 L) 0 L zt3) (yz 0 (CF.res cf_ref09_Final) k))) (.exit 0) (zr7)=zvP L (fun p=>k (V.sc (.bool p)) []):=by kernel_rfl
def zqT{β:Type}(L:Nat)(p:Bool→Ob β)(z:Ob β):Nat→Ls→Int→Int→Ob β
 | 0,_,_,_=>none
 | n+1,A,C,D=>zzH L A C D p (fun A C D=>zqT L p z n A C D) z
theorem zvf{β:Type}(L:Nat)(K:KT β):∀ (n:Nat) (p:Ls) (z A:Int),xw (ze zc4 (zc0 L) 0 L zoZ) zqa n (zih p z A) K=zqT L (fun C=>K .ret (zqI C)) (K (.exit 0) (zr7)) n p z A:=by
 intro n; induction n <;> intros
 ·rfl
 ·exact (zLl ..).trans (by simp only [*]; rfl)
def zBf{β:Type}(L:Nat)(D:List V)(E:Int)(p:Bool→Ob β):Ob β:=zMX L D E p (fun z A C=>zqT L (fun F=>zu4 L F p) (zvP L p) L z A C)
theorem zSo{β:Type}(L:Nat)(p:List V)(z:Int)(k:KK β):yj zc4 (zc0 L) L cf_ref09_Final [(V.agg p),(Qe z)] [] k=zBf L p z (fun p=>k (V.sc (.bool p)) []):=by
 refine (zS1 L p z k).trans ?_
 unfold zBf
 first
  | (simp only [zvf,zDK,zFX]; done)
  | (simp only [zvf]; rfl)
abbrev zNF:=∀ (β:Type),Nat→List V→Int→(Bool→Ob β)→Ob β
def zkz:zNF:=fun β=>@zBf β
def ztY(zkz:zNF)(L:Nat):Dk:=dA AG fun p=>dA (AI .i64) fun z=>d0 fun β k=>zkz β L p z (fun p=>k (V.sc (.bool p)) [])
theorem zSQ(L:Nat):DK (ztY zkz L) (fun _=>yj zc4 (zc0 L) L cf_ref09_Final):=zF zap fun p=>zF zdJ fun z=>zP fun _ k=>zSo L p z k
end
end
section
def yaT{α:Type}(p:α→Bool):List α→Nat→Int
 | [],_=>-1
 | x::l,i=>if p x=true then (i:Int) else yaT p l (i+1)
theorem zfs{i:Nat}(h:i≤1000000000):QG .i64 ((i:Int)+1)=((i+1:Nat):Int):=by
 rw [zbj (by omega) (by omega)]; omega
end
section
variable {β:Type}
theorem zgs(x:Inp):zq (We 32 (Qa (0:Int))++[(Qc (0:Int)),(Qc (0:Int)),(V.gs 1 ([]:Ls))]) 0 (zcF x)=zcF x:=zdd (by rw [zuj]; rfl)
theorem zt7(x:Outp):zq [(Qe (0:Int)),(V.gs 1 ([]:Ls))] 0 (zgH x)=zgH x:=zdd (by rw [zMI]; rfl)
theorem zeB(x:Inp)(k:Option β):chk ((XK (XL 35 (zcF x)))=35∧0+35≤35) k=k:=xi ⟨by rw [zdT,zuj],by decide⟩ k
theorem zuE(x:Outp)(k:Option β):chk ((XK (XL 2 (zgH x)))=2∧0+2≤2) k=k:=xi ⟨by rw [zm3,zMI],by decide⟩ k
theorem zpW(x:Inp)(k:Ls→Option β):cLd 1 (zcF x) 34 k=k (zj5 x.wit):=zD6 rfl k
theorem zJ6(x:Outp)(k:Ls→Option β):cLd 1 (zgH x) 1 k=k (xA .u8 x.scr):=zD6 rfl k
theorem zch(x:TxT)(k:Ls→Option β):cLd 35 (zav x) 1 k=k (x.ins.map zcF):=zD6 rfl k
theorem zeI(x:TxT)(k:Ls→Option β):cLd 2 (zav x) 2 k=k (x.outs.map zgH):=zD6 rfl k
theorem zbv(x:TxT):Xv V.dem (XL 4 (zav x))=zav x:=Eq.trans rfl rfl
theorem z6Y(x:Outp):Xv V.dem (XL 2 (zgH x))=zgH x:=Eq.trans rfl rfl
theorem up{i:Nat}(h:i≤1000000000):QG .i64 ((i:Int)+1)=((i+1:Nat):Int):=by
 rw [zbj (by omega) (by omega)]; omega
theorem zAj(w:List (List Int)):(zj5 w).length=w.length:=by simp [zj5]
theorem zuX{w:List (List Int)}{i:Nat}(h:i<w.length):(zj5 w)[i]?=some [V.sl 1 (xA .u8 w[i])]:=by simp [zj5,h]
theorem ziq{α:Type}{l:List α}{p:α→Bool}{i:Nat}(h:i<l.length):(l.drop i).all p=(p l[i]&&(l.drop (i+1)).all p):=by
 rw [WQ h]; rfl
theorem zKn(L:Nat)(b:Int)(kr:Bool→Option β)(kx:Option β)(w:List (List Int))(hw:w.length≤1000000):∀ (n i:Nat),i≤w.length→w.length-i<n →
  ziE L kr kx n b (zj5 w) (w.length:Int) (i:Int)=ifb ((w.drop i).all fun x=>decide ((x.length:Int)≤b)) kx (kr false)
 | 0,i,h1,h2=>by omega
 | n+1,i,h1,h2=>by
  simp only [ziE,zsL,zz]
  by_cases h:i<w.length
  ·rw [yA (by omega),xT (zuX h),zoq rfl,up (by omega),zKn L b kr kx w hw n (i+1) (by omega) (by omega),ziq h]
   simp only [zN]
   by_cases hb:((w[i].length:Nat):Int)≤b
   ·rw [xB (by omega)]; simp [hb]
   ·rw [yA (by omega)]; simp [hb,ifb]
  ·rw [xB (by omega),WK (by omega)]; rfl
theorem z4Y{L:Nat}(hL:2000≤L){a b:Int}(ha:a≤1000)(w:List (List Int))(k:Bool→Option β):xr β L (zj5 w) a b k=k (decide ((w.length:Int)≤a)&&w.all fun x=>decide ((x.length:Int)≤b)):=by
 simp only [xr,zw8,zFo,zAj,znw,zo2]
 by_cases h:(w.length:Int)≤a
 ·rw [xB (by omega),show ((0:Int))=((0:Nat):Int) from rfl,zKn L b _ _ w (by omega) L 0 (by omega) (by omega)]
  simp only [XQ,h,decide_true,XS]
  cases w.all fun x=>decide ((x.length:Int)≤b) <;> rfl
 ·rw [yA (by omega)]; simp [h]
theorem zgw{l:List Inp}{i:Nat}(h:i<l.length):(l.map zcF)[i]?=some (zcF l[i]):=by simp [h]
theorem zuo{l:List Outp}{i:Nat}(h:i<l.length):(l.map zgH)[i]?=some (zgH l[i]):=by simp [h]
def zQo(x:Inp):Bool:=decide ((x.wit.length:Int)≤40)&&x.wit.all fun y=>decide ((y.length:Int)≤600)
theorem zYn{L:Nat}(hL:2000≤L)(kr:Bool→Option β)(kx:List V→Option β)(l:List Inp)(hl:l.length≤1000000)(b1:List V):∀ (n i:Nat),i≤l.length→l.length-i<n →
  zmB xr L kr kx n (l.map zcF) (l.length:Int) (i:Int) b1=ifb ((l.drop i).all zQo) (kx b1) (kr false)
 | 0,i,h1,h2=>by omega
 | n+1,i,h1,h2=>by
  simp only [zmB,zyZ,zz]
  by_cases h:i<l.length
  ·rw [yA (by omega),xT (zgw h)]
   rw [zeB,zdT,zgs]
   simp only [zpW,zqd]
   rw [z4Y hL (by omega),up (by omega),zYn hL kr kx l hl b1 n (i+1) (by omega) (by omega),ziq h]
   show ifb (!(zQo l[i])) _ _=_
   cases zQo l[i] <;> rfl
  ·rw [xB (by omega),WK (by omega)]; rfl
def zQw(x:Outp):Bool:=decide ((x.scr.length:Int)≤600)
theorem zVg{L:Nat}(kr:Bool→Option β)(kx:Option β)(l:List Outp)(hl:l.length≤1000000):∀ (n i:Nat),i≤l.length→l.length-i<n →
  zk7 xr L kr kx n (l.map zgH) (l.length:Int) (i:Int)=ifb ((l.drop i).all zQw) kx (kr false)
 | 0,i,h1,h2=>by omega
 | n+1,i,h1,h2=>by
  simp only [zk7,zvo,zz]
  by_cases h:i<l.length
  ·rw [yA (by omega),xT (zuo h)]
   rw [zuE,zm3,zt7]
   simp only [zJ6,zyw,zN]
   rw [up (by omega),zVg kr kx l hl n (i+1) (by omega) (by omega),ziq h]
   by_cases hb:((l[i].scr.length:Nat):Int)≤600
   ·rw [xB (by omega)]; simp [zQw,hb]
   ·rw [yA (by omega)]; simp [zQw,hb,ifb]
  ·rw [xB (by omega),WK (by omega)]; rfl
def zIj(t:TxT):Bool:=decide (t.ins.length≤70)&&decide (t.outs.length≤70)&&t.ins.all zQo&&t.outs.all zQw
theorem z9e{L:Nat}(hL:2000≤L)(t:TxT)(k:Bool→Option β):zR β L (zav t) k=k (zIj t):=by
 simp only [zR,zHY,zOh,zjX,zn5]
 simp only [zch,zeI,zyL,zmX,QB,zsF,zlO,zut,zqz,zsf]
 by_cases h1:t.ins.length≤70
 ·rw [xB (by omega)]
  by_cases h2:t.outs.length≤70
  ·rw [xB (by omega),show ((0:Int))=((0:Nat):Int) from rfl,zYn hL _ _ _ (by omega) _ L 0 (by omega) (by omega)]
   simp only [zeI,QB]
   rw [zVg _ _ _ (by omega) L 0 (by omega) (by omega)]
   simp only [XQ,zIj,h1,h2,decide_true,XS]
   cases t.ins.all zQo <;> cases t.outs.all zQw <;> rfl
  ·rw [yA (by omega)]; simp [zIj,h2]
 ·rw [yA (by omega)]; simp [zIj,h1]
structure KeptP (t:TxT):Prop where
 ni:t.ins.length≤70
 no:t.outs.length≤70
 wl:∀ x∈t.ins,x.wit.length≤40
 wi:∀ x∈t.ins,∀ y∈x.wit,y.length≤600
 sl:∀ x∈t.outs,x.scr.length≤600
theorem z9v{t:TxT}(h:zIj t=true):KeptP t:=by
 simp only [zIj,zQo,zQw,Bool.and_eq_true,decide_eq_true_eq,List.all_eq_true] at h
 exact ⟨h.1.1.1,h.1.1.2,fun x hx=>by have:=(h.1.2 x hx).1; omega,fun x hx y hy=>by have:=(h.1.2 x hx).2 y hy; omega,fun x hx=>by have:=h.2 x hx; omega⟩
end
section
variable {β:Type}
theorem zmr{a b:Nat}(h:a+b≤1000000000000):(a+b)*1≤xo∧a+b≤xo:=by
 unfold xo; omega
def zh1(n:Int)(w:Nat):List Int:=(List.range w).map fun (i:Nat)=>QG .u8 (zdB .u64 n (8*(i:Int)))
theorem zfg(n:Int)(w:Nat):(zh1 n w).length=w:=by simp [zh1]
def zBi(n:Int):List Int:=zh1 (QG .u64 n) 4
def z1b(n:Int):List Int:=zh1 n 8
theorem zbu(n:Int):(zBi n).length=4:=zfg _ _
theorem znW(n:Int):(z1b n).length=8:=zfg _ _
def szB(n:Int):List Int:=if n<253 then [QG .u8 n] else if n<65536 then 253::zh1 n 2 else if n<4294967296 then 254::zh1 n 4 else 255::zh1 n 8
theorem zij(n:Int):(szB n).length≤9:=by
 unfold szB; repeat' split
 all_goals simp [zfg]
def bsB(s:List Int):List Int:=szB (s.length:Int)++s
def zcW(x:Inp):List V:=[V.sc (.int .u8 (x.pv.getD 0 0)),V.sc (.int .u8 (x.pv.getD 1 0)),V.sc (.int .u8 (x.pv.getD 2 0)),V.sc (.int .u8 (x.pv.getD 3 0)),V.sc (.int .u8 (x.pv.getD 4 0)),V.sc (.int .u8 (x.pv.getD 5 0)),V.sc (.int .u8 (x.pv.getD 6 0)),V.sc (.int .u8 (x.pv.getD 7 0)),V.sc (.int .u8 (x.pv.getD 8 0)),V.sc (.int .u8 (x.pv.getD 9 0)),V.sc (.int .u8 (x.pv.getD 10 0)),V.sc (.int .u8 (x.pv.getD 11 0)),V.sc (.int .u8 (x.pv.getD 12 0)),V.sc (.int .u8 (x.pv.getD 13 0)),V.sc (.int .u8 (x.pv.getD 14 0)),V.sc (.int .u8 (x.pv.getD 15 0)),V.sc (.int .u8 (x.pv.getD 16 0)),V.sc (.int .u8 (x.pv.getD 17 0)),V.sc (.int .u8 (x.pv.getD 18 0)),V.sc (.int .u8 (x.pv.getD 19 0)),V.sc (.int .u8 (x.pv.getD 20 0)),V.sc (.int .u8 (x.pv.getD 21 0)),V.sc (.int .u8 (x.pv.getD 22 0)),V.sc (.int .u8 (x.pv.getD 23 0)),V.sc (.int .u8 (x.pv.getD 24 0)),V.sc (.int .u8 (x.pv.getD 25 0)),V.sc (.int .u8 (x.pv.getD 26 0)),V.sc (.int .u8 (x.pv.getD 27 0)),V.sc (.int .u8 (x.pv.getD 28 0)),V.sc (.int .u8 (x.pv.getD 29 0)),V.sc (.int .u8 (x.pv.getD 30 0)),V.sc (.int .u8 (x.pv.getD 31 0)),V.sc (.int .u32 (x.pv.getD 32 0))]
def zw9(x:Inp):List Int:=[x.pv.getD 0 0,x.pv.getD 1 0,x.pv.getD 2 0,x.pv.getD 3 0,x.pv.getD 4 0,x.pv.getD 5 0,x.pv.getD 6 0,x.pv.getD 7 0,x.pv.getD 8 0,x.pv.getD 9 0,x.pv.getD 10 0,x.pv.getD 11 0,x.pv.getD 12 0,x.pv.getD 13 0,x.pv.getD 14 0,x.pv.getD 15 0,x.pv.getD 16 0,x.pv.getD 17 0,x.pv.getD 18 0,x.pv.getD 19 0,x.pv.getD 20 0,x.pv.getD 21 0,x.pv.getD 22 0,x.pv.getD 23 0,x.pv.getD 24 0,x.pv.getD 25 0,x.pv.getD 26 0,x.pv.getD 27 0,x.pv.getD 28 0,x.pv.getD 29 0,x.pv.getD 30 0,x.pv.getD 31 0]
def ptB(x:Inp):List Int:=zw9 x++zBi (x.pv.getD 32 0)
theorem zhl(x:Inp):(zcW x).length=33:=by simp [zcW]
theorem zYG(x:Inp):(XL 32 (zcW x)).length=32:=by simp [zcW]
theorem zSf(x:Inp):xn 1 32 (XL 32 (zcW x))=xA .u8 (zw9 x):=by rfl
theorem z45(x:Inp)(k:Int→Option β):cI .u32 (zcW x) 32 k=k (x.pv.getD 32 0):=zjD rfl k
theorem zqm(x:Inp):(zw9 x).length=32:=by simp [zw9]
theorem zx9(x:Inp):(ptB x).length=36:=by simp [ptB,zqm,zbu]
theorem zhf(k:IntKind):([]:Ls)=xA k []:=rfl
theorem z5A(k:IntKind)(n:Int):zdB k n 0=n:=by
 simp [zdB,Int.fdiv_one]
theorem z6h(n:Int):zh1 n 1=[QG .u8 n]:=by
 simp [zh1,List.range_succ,z5A]
theorem zqu(x:Inp):XL 33 (zcF x)=zcW x:=by rfl
theorem zQy(x:Inp):XL 33 (zcW x)=zcW x:=by rfl
theorem zQp(x:Inp)(k:Option β):chk (0+33≤(XK (zcF x))) k=k:=xi (by rw [zuj]; omega) k
theorem z7n(x:Outp)(k:Option β):chk (0+2≤(XK (zgH x))) k=k:=xi (by rw [zMI]; omega) k
theorem zbd(x:TxT)(k:Option β):chk (0+4≤(XK (zav x))) k=k:=xi (by rw [zjX]; omega) k
theorem zs3{L:Nat}{b s:List Int}(h:b.length+s.length≤1000000000000)(k:Ls→Option β):zo β L (xA .u8 b) (xA .u8 s) k=k (xA .u8 (b++s)):=by
 simp only [zo,zyc,zz,zN,XT,List.length_nil,XR]
 rw [zbj (by omega) (by omega),xi (by unfold xo; omega),xi (by unfold xo; omega),xi (zmr h),zbO]
theorem ybh(L:Nat)(n:Int)(k:Ls→Option β):zH β (L+20) n 2 k=k (xA .u8 (zh1 n 2)):=by kernel_rfl
theorem ybg(L:Nat)(n:Int)(k:Ls→Option β):zH β (L+20) n 4 k=k (xA .u8 (zh1 n 4)):=by kernel_rfl
theorem yaP(L:Nat)(n:Int)(k:Ls→Option β):zH β (L+20) n 8 k=k (xA .u8 (zh1 n 8)):=by kernel_rfl
theorem zZ0{L:Nat}(hL:20≤L)(n:Int)(k:Ls→Option β):zH β L n 2 k=k (xA .u8 (zh1 n 2))∧zH β L n 4 k=k (xA .u8 (zh1 n 4))∧zH β L n 8 k=k (xA .u8 (zh1 n 8)):=by
 obtain ⟨m,rfl⟩:∃ m,L=m+20:=⟨L-20,by omega⟩
 exact ⟨ybh m n k,ybg m n k,yaP m n k⟩
theorem yaw{L:Nat}(hL:20≤L){b:List Int}(h:b.length≤900000000000)(n:Int)(k:Ls→Option β):zal β L (xA .u8 b) n k=k (xA .u8 (b++zh1 (QG .u64 n) 2)):=by
 simp only [zal,zsy,zz]
 rw [(zZ0 hL _ _).1,zs3 (by rw [zfg]; omega)]
theorem zDk{L:Nat}(hL:20≤L){b:List Int}(h:b.length≤900000000000)(n:Int)(k:Ls→Option β):yb β L (xA .u8 b) n k=k (xA .u8 (b++zBi n)):=by
 simp only [yb,zr5,zz]
 rw [(zZ0 hL _ _).2.1,zs3 (by rw [zfg]; omega)]; rfl
theorem z7C{L:Nat}(hL:20≤L){b:List Int}(h:b.length≤900000000000)(n:Int)(k:Ls→Option β):yd β L (xA .u8 b) n k=k (xA .u8 (b++z1b n)):=by
 simp only [yd,zsO,zz]
 rw [(zZ0 hL _ _).2.2,zs3 (by rw [zfg]; omega)]; rfl
theorem z2p(n:Int):xn 1 1 [V.sc (.int .u8 n)]=xA .u8 [n]:=rfl
theorem zJm{L:Nat}(hL:20≤L){b:List Int}(h:b.length≤800000000000){n:Int}(h0:0≤n)(k:Ls→Option β):ya β L (xA .u8 b) n k=k (xA .u8 (b++szB n)):=by
 simp only [ya,zq5,zz,z2p,zQz]
 unfold szB
 split
 ·rw [zs3 (by simp; omega)]
 ·split
  ·rw [zs3 (by simp; omega),yaw hL (by simp; omega),z7c (by omega) (by omega),zca (by omega) (by omega)]
   simp
  ·split
   ·rw [zs3 (by simp; omega),zDk hL (by simp; omega),zBi,zub (by omega) (by omega),zca (by omega) (by omega)]
    simp
   ·rw [zs3 (by simp; omega),z7C hL (by simp; omega),z1b]
    simp
theorem z0M{L:Nat}(hL:20≤L){b s:List Int}(h:b.length≤700000000000)(hs:s.length≤10000000)(k:Ls→Option β):zd β L (xA .u8 b) (xA .u8 s) k=k (xA .u8 (b++bsB s)):=by
 simp only [zd,zpf,zz,zN]
 have:=zij (s.length:Int)
 rw [zca (by omega) (by omega),zJm hL (by omega) (by omega),zs3 (by simp; omega)]
 simp [bsB]
theorem z8x{L:Nat}(hL:20≤L)(x:Inp)(k:Ls→Option β):yl β L (zcW x) k=k (xA .u8 (ptB x)):=by
 simp only [yl,zLP,xI,zk4]
 rw [xi (by rw [zhl]; omega),xi (by rw [zYG]; omega),zSf,zhf .u8,zs3 (by simp [zqm]),z45,zDk hL (by simp [zqm])]
 rfl
theorem zjH{L:Nat}{b s:List Int}(h:b.length+s.length≤1000000000000)(k:Ls→Option β):zh β L (xA .u8 b) (xA .u8 s) k=k (xA .u8 (b++s)):=by
 simp only [zh,zyG,zz,zN,XT,List.length_nil,XR]
 rw [zbj (by omega) (by omega),xi (by unfold xo; omega),xi (by unfold xo; omega),xi (zmr h),zbO]
theorem yap(L:Nat)(n:Int)(k:Ls→Option β):xC β (L+20) n 1 k=k (xA .u8 (zh1 n 1)):=by kernel_rfl
theorem yaG(L:Nat)(n:Int)(k:Ls→Option β):xC β (L+20) n 2 k=k (xA .u8 (zh1 n 2)):=by kernel_rfl
theorem yat(L:Nat)(n:Int)(k:Ls→Option β):xC β (L+20) n 4 k=k (xA .u8 (zh1 n 4)):=by kernel_rfl
theorem yad(L:Nat)(n:Int)(k:Ls→Option β):xC β (L+20) n 8 k=k (xA .u8 (zh1 n 8)):=by kernel_rfl
theorem zDz{L:Nat}(hL:20≤L)(n:Int)(k:Ls→Option β):xC β L n 1 k=k (xA .u8 (zh1 n 1))∧xC β L n 2 k=k (xA .u8 (zh1 n 2))∧xC β L n 4 k=k (xA .u8 (zh1 n 4))∧xC β L n 8 k=k (xA .u8 (zh1 n 8)):=by
 obtain ⟨m,rfl⟩:∃ m,L=m+20:=⟨L-20,by omega⟩
 exact ⟨yap m n k,yaG m n k,yat m n k,yad m n k⟩
theorem zz1{L:Nat}(hL:20≤L){b:List Int}(h:b.length≤900000000000)(n:Int)(k:Ls→Option β):zb β L (xA .u8 b) n k=k (xA .u8 (b++zBi n)):=by
 simp only [zb,zsh,zz]
 rw [(zDz hL _ _).2.2.1,zjH (by rw [zfg]; omega)]; rfl
theorem z9n{L:Nat}(hL:20≤L){b:List Int}(h:b.length≤900000000000)(n:Int)(k:Ls→Option β):zam β L (xA .u8 b) n k=k (xA .u8 (b++z1b n)):=by
 simp only [zam,zse,zz]
 rw [(zDz hL _ _).2.2.2,zjH (by rw [zfg]; omega)]; rfl
theorem zFy{L:Nat}(hL:20≤L){b:List Int}(h:b.length≤800000000000){n:Int}(h0:0≤n)(k:Ls→Option β):xa β L (xA .u8 b) n k=k (xA .u8 (b++szB n)):=by
 simp only [xa,zp8,zz,z2p,zQz]
 unfold szB
 split
 ·rw [(zDz hL _ _).1,zjH (by rw [zfg]; omega),z6h]
 ·split
  ·rw [(zDz hL _ _).2.1,zjH (by simp [zfg]),zjH (by simp [zfg]; omega)]
   simp
  ·split
   ·rw [(zDz hL _ _).2.2.1,zjH (by simp [zfg]),zjH (by simp [zfg]; omega)]
    simp
   ·rw [(zDz hL _ _).2.2.2,zjH (by simp [zfg]),zjH (by simp [zfg]; omega)]
    simp
theorem zYS{L:Nat}(hL:20≤L){b s:List Int}(h:b.length≤700000000000)(hs:s.length≤10000000)(k:Ls→Option β):yc β L (xA .u8 b) (xA .u8 s) k=k (xA .u8 (b++bsB s)):=by
 simp only [yc,zo7,zz,zN]
 have:=zij (s.length:Int)
 rw [zca (by omega) (by omega),zFy hL (by omega) (by omega),zjH (by simp; omega)]
 simp [bsB]
theorem z6E{L:Nat}(hL:20≤L)(x:Inp)(k:Ls→Option β):xf β L (zcW x) k=k (xA .u8 (ptB x)):=by
 simp only [xf,zAM,xp,zk0]
 rw [xi (by rw [zhl]; omega),xi (by rw [zYG]; omega),zSf,zhf .u8,zjH (by simp [zqm]),z45,zz1 hL (by simp [zqm])]
 rfl
end
section
variable {β:Type}
def inB(x:Inp):List Int:=ptB x++zBi x.seq
def zoR(o:Outp):List Int:=z1b (QG .u64 o.val)++bsB o.scr
def zt9(x:Inp):List Int:=szB (x.wit.length:Int)++x.wit.flatMap bsB
def zmI(t:TxT)(w:Bool):List Int:=zBi t.ver++szB (t.ins.length:Int)++t.ins.flatMap inB++szB (t.outs.length:Int)++t.outs.flatMap zoR++zBi t.lock++(if w then t.ins.flatMap zt9 else [])
theorem zeK{α:Type}{l:List α}{f:α→List Int}{i:Nat}(h:i<l.length):(l.drop i).flatMap f=f l[i]++(l.drop (i+1)).flatMap f:=by
 rw [WQ h,List.flatMap_cons]
theorem zOT{α:Type}{f:α→List Int}{c:Nat}:∀ {l:List α},(∀ x∈l,(f x).length≤c)→(l.flatMap f).length≤l.length*c
 | [],_=>by simp
 | x::l,h=>by
  have h1:=h x (by simp)
  have h2:=zOT (l:=l) (fun y hy=>h y (by simp [hy]))
  rw [List.flatMap_cons,Wm,List.length_cons,Nat.add_mul]; omega
theorem zXc(x:Inp):(inB x).length=40:=by simp [inB,zx9,zbu]
theorem z2H(s:List Int):(bsB s).length≤9+s.length:=by have:=zij (s.length:Int); simp [bsB]; omega
theorem z7g(o:Outp):(zoR o).length≤17+o.scr.length:=by have:=z2H o.scr; simp [zoR,znW]; omega
theorem z6z{x:Inp}(h1:x.wit.length≤40)(h2:∀ y∈x.wit,y.length≤600):(zt9 x).length≤30000:=by
 have h3:=zOT (f:=bsB) (c:=609) (l:=x.wit) (fun y hy=>by have:=z2H y; have:=h2 y hy; omega)
 have h4:=zij (x.wit.length:Int)
 have h5:x.wit.length*609≤40*609:=WI _ h1
 simp only [zt9,Wm]; omega
theorem z51(x:Outp):[V.sc (.int .i64 x.val),V.sl 1 (xA .u8 x.scr)]=zgH x:=Eq.trans rfl rfl
theorem z99{L:Nat}(hL:20≤L){x:Outp}(hs:x.scr.length≤600)(k:Ls→Option β):xj β L (zgH x) k=k (xA .u8 (zoR x)):=by
 simp only [xj,zIW,zMI,zn5,zz]
 simp only [zJ6,zyw]
 rw [zhf .u8,z9n hL (by simp),zYS hL (by simp [znW]) (by omega)]
 simp [zoR]
theorem z27{L:Nat}(hL:20≤L)(kx:Bool→Ls→List V→Option β)(l:List Inp)(hl:l.length≤1000000)(w:Bool)(b1:List V):∀ (n i:Nat) (acc:List Int),i≤l.length→l.length-i<n→acc.length+((l.drop i).flatMap inB).length≤500000000000 →
  ziJ yb ya yl yd zd L kx n w (xA .u8 acc) (l.map zcF) (l.length:Int) (i:Int) b1=kx w (xA .u8 (acc++(l.drop i).flatMap inB)) b1
 | 0,i,acc,h1,h2,h3=>by omega
 | n+1,i,acc,h1,h2,h3=>by
  simp only [ziJ,zsv,zz]
  by_cases h:i<l.length
  ·rw [zeK h] at h3
   simp only [Wm,zXc] at h3
   rw [yA (by omega),xT (zgw h)]
   rw [zeB,zdT,zgs]
   simp only [zpW,zqd,zQp,zqu]
   rw [z8x hL,zN,zN,xi (zmr (by rw [zx9]; omega)),zbO]
   rw [zhf .u8,zDk hL (by simp),zN,zN,xi (zmr (by simp [zx9,zbu]; omega)),zbO,XR]
   rw [up (by omega),z27 hL kx l hl w b1 n (i+1) _ (by omega) (by omega) (by simp only [Wm,zx9,zbu]; omega),zeK h]
   simp [inB]
  ·rw [xB (by omega),WK (by omega)]
   simp
theorem z1q{L:Nat}(hL:20≤L)(kx:Bool→Ls→List V→Option β)(l:List Outp)(hl:l.length≤1000000)(hs:∀ x∈l,x.scr.length≤600)(w:Bool)(b1:List V):∀ (n i:Nat) (acc:List Int),i≤l.length→l.length-i<n→acc.length+((l.drop i).flatMap zoR).length≤500000000000 →
  zg6 yb ya yl yd zd L kx n w (xA .u8 acc) (l.map zgH) (l.length:Int) (i:Int) b1=kx w (xA .u8 (acc++(l.drop i).flatMap zoR)) b1
 | 0,i,acc,h1,h2,h3=>by omega
 | n+1,i,acc,h1,h2,h3=>by
  simp only [zg6,zoH,zz]
  by_cases h:i<l.length
  ·have h4:=hs l[i] (W2 h)
   rw [zeK h] at h3
   simp only [Wm,zoR,znW] at h3
   rw [yA (by omega),xT (zuo h)]
   rw [zuE,zm3,zt7]
   simp only [zJ6,zyw,z51]
   rw [zhf .u8,z7C hL (by simp),zN,zN,xi (zmr (by simp [znW]; omega)),zbO,XR,z0M hL (by simp) (by omega),zN,zN,xi (zmr (by simp [znW]; omega)),zbO,XR]
   rw [up (by omega),z1q hL kx l hl hs w b1 n (i+1) _ (by omega) (by omega) (by simp only [Wm,znW,zoR]; omega),zeK h]
   simp [zoR]
  ·rw [xB (by omega),WK (by omega)]
   simp
theorem zYB{L:Nat}(hL:20≤L)(kx:Ls→Ls→Int→Int→Option β)(wt:List (List Int))(hw:wt.length≤1000000)(hs:∀ y∈wt,y.length≤600)(p77:Ls)(p78 p79:Int):∀ (n i:Nat) (acc:List Int),i≤wt.length→wt.length-i<n→acc.length+((wt.drop i).flatMap bsB).length≤500000000000 →
  zbV yb ya yl yd zd L kx n (xA .u8 acc) p77 p78 p79 (zj5 wt) (wt.length:Int) (i:Int)=kx (xA .u8 (acc++(wt.drop i).flatMap bsB)) p77 p78 p79
 | 0,i,acc,h1,h2,h3=>by omega
 | n+1,i,acc,h1,h2,h3=>by
  simp only [zbV,zfP,zz]
  by_cases h:i<wt.length
  ·have h4:=hs wt[i] (W2 h)
   rw [zeK h] at h3
   simp only [Wm] at h3
   rw [yA (by omega),xT (zuX h),zoq rfl]
   rw [zhf .u8,z0M hL (by simp) (by omega),XR,zN,zN,xi (zmr (by omega)),zbO]
   rw [up (by omega),zYB hL kx wt hw hs p77 p78 p79 n (i+1) _ (by omega) (by omega) (by simp only [Wm]; omega),zeK h]
   simp
  ·rw [xB (by omega),WK (by omega)]
   simp
theorem z2S{L:Nat}(hL:20≤L)(kx:Bool→Ls→List V→Option β)(l:List Inp)(hl:l.length≤1000000)(w:Bool)(b1:List V):∀ (n i:Nat) (acc:List Int),i≤l.length→l.length-i<n→acc.length+((l.drop i).flatMap inB).length≤500000000000 →
  zf3 zb xa xf xj yc L kx n w (xA .u8 acc) (l.map zcF) (l.length:Int) (i:Int) b1=kx w (xA .u8 (acc++(l.drop i).flatMap inB)) b1
 | 0,i,acc,h1,h2,h3=>by omega
 | n+1,i,acc,h1,h2,h3=>by
  simp only [zf3,znh,zz]
  by_cases h:i<l.length
  ·rw [zeK h] at h3
   simp only [Wm,zXc] at h3
   rw [yA (by omega),xT (zgw h)]
   rw [zeB,zdT,zgs]
   simp only [zpW,zqd,zQp,zqu]
   rw [z6E hL,zN,zN,xi (zmr (by rw [zx9]; omega)),zbO]
   rw [zz1 hL (by simp only [Wm,zx9]; omega)]
   rw [up (by omega),z2S hL kx l hl w b1 n (i+1) _ (by omega) (by omega) (by simp only [Wm,zx9,zbu]; omega),zeK h]
   simp [inB]
  ·rw [xB (by omega),WK (by omega)]
   simp
theorem zZ1{L:Nat}(hL:20≤L)(kx:Bool→Ls→List V→Option β)(l:List Outp)(hl:l.length≤1000000)(hs:∀ x∈l,x.scr.length≤600)(w:Bool)(b1:List V):∀ (n i:Nat) (acc:List Int),i≤l.length→l.length-i<n→acc.length+((l.drop i).flatMap zoR).length≤500000000000 →
  zeX zb xa xf xj yc L kx n w (xA .u8 acc) (l.map zgH) (l.length:Int) (i:Int) b1=kx w (xA .u8 (acc++(l.drop i).flatMap zoR)) b1
 | 0,i,acc,h1,h2,h3=>by omega
 | n+1,i,acc,h1,h2,h3=>by
  simp only [zeX,zlz,zz]
  by_cases h:i<l.length
  ·have h4:=hs l[i] (W2 h)
   rw [zeK h] at h3
   simp only [Wm,zoR,znW] at h3
   rw [yA (by omega),xT (zuo h)]
   rw [zuE,zm3,zt7]
   simp only [z7n,z6Y]
   rw [z99 hL h4,zN,zN,xi (zmr (by simp only [zoR,Wm,znW]; omega)),zbO]
   rw [up (by omega),zZ1 hL kx l hl hs w b1 n (i+1) _ (by omega) (by omega) (by simp only [Wm,znW,zoR]; omega),zeK h]
   simp [zoR]
  ·rw [xB (by omega),WK (by omega)]
   simp
theorem zYD{L:Nat}(hL:20≤L)(kx:Bool→Ls→Ls→Int→Int→Option β)(wt:List (List Int))(hw:wt.length≤1000000)(hs:∀ y∈wt,y.length≤600)(w:Bool)(p77:Ls)(p78 p79:Int):∀ (n i:Nat) (acc:List Int),i≤wt.length→wt.length-i<n→acc.length+((wt.drop i).flatMap bsB).length≤500000000000 →
  zby zb xa xf xj yc L kx n w (xA .u8 acc) p77 p78 p79 (zj5 wt) (wt.length:Int) (i:Int)=kx w (xA .u8 (acc++(wt.drop i).flatMap bsB)) p77 p78 p79
 | 0,i,acc,h1,h2,h3=>by omega
 | n+1,i,acc,h1,h2,h3=>by
  simp only [zby,zev,zz]
  by_cases h:i<wt.length
  ·have h4:=hs wt[i] (W2 h)
   rw [zeK h] at h3
   simp only [Wm] at h3
   rw [yA (by omega),xT (zuX h),zoq rfl]
   rw [zYS hL (by omega) (by omega)]
   rw [up (by omega),zYD hL kx wt hw hs w p77 p78 p79 n (i+1) _ (by omega) (by omega) (by simp only [Wm]; omega),zeK h]
   simp
  ·rw [xB (by omega),WK (by omega)]
   simp
end
section
variable {β:Type}
theorem zWn(a b:Option β):ifb (!true) a b=b:=rfl
theorem z5I(a b:Option β):ifb (!false) a b=a:=rfl
theorem z0O{L:Nat}(hL:2000≤L)(kx:Ls→Option β)(l:List Inp)(hl:l.length≤1000000)(hw:∀ x∈l,x.wit.length≤40)(hs:∀ x∈l,∀ y∈x.wit,y.length≤600):∀ (n i:Nat) (acc:List Int),i≤l.length→l.length-i<n→acc.length+((l.drop i).flatMap zt9).length≤400000000000 →
  zeS yb ya yl yd zd L kx n (xA .u8 acc) (l.map zcF) (l.length:Int) (i:Int)=kx (xA .u8 (acc++(l.drop i).flatMap zt9))
 | 0,i,acc,h1,h2,h3=>by omega
 | n+1,i,acc,h1,h2,h3=>by
  simp only [zeS,zgV,zlo,zz]
  by_cases h:i<l.length
  ·have h4:=hw l[i] (W2 h)
   have h5:=hs l[i] (W2 h)
   have h6:=zij (l[i].wit.length:Int)
   rw [zeK h] at h3
   simp only [Wm,zt9] at h3
   rw [yA (by omega),xT (zgw h)]
   rw [zeB,zdT,zgs]
   simp only [zpW,zqd,zAj]
   rw [zca (by omega) (by omega),zhf .u8,zJm (by omega) (by simp) (by omega),XR,zN,zN,xi (zmr (by omega)),zbO]
   rw [show ((0:Int))=((0:Nat):Int) from rfl,zYB (by omega) _ _ (by omega) h5 _ _ _ L 0 _ (by omega) (by omega) (by simp only [XQ,Wm]; omega)]
   simp only [zeO,zz,XQ]
   rw [up (by omega),z0O hL kx l hl hw hs n (i+1) _ (by omega) (by omega) (by simp only [Wm,zt9]; omega),zeK h]
   simp [zt9]
  ·rw [xB (by omega),WK (by omega)]
   simp
theorem z69{L:Nat}(hL:2000≤L)(kx:Ls→Option β)(l:List Inp)(hl:l.length≤1000000)(hw:∀ x∈l,x.wit.length≤40)(hs:∀ x∈l,∀ y∈x.wit,y.length≤600):∀ (n i:Nat) (acc:List Int),i≤l.length→l.length-i<n→acc.length+((l.drop i).flatMap zt9).length≤400000000000 →
  zbe zb xa xf xj yc L kx n true (xA .u8 acc) (l.map zcF) (l.length:Int) (i:Int)=kx (xA .u8 (acc++(l.drop i).flatMap zt9)):=by
 intro n
 induction n with
 | zero=>intro i acc h1 h2 h3; omega
 | succ n ih=>
  intro i acc h1 h2 h3
  simp only [zbe,zdw,zf1,zz]
  by_cases h:i<l.length
  ·have h4:=hw l[i] (W2 h)
   have h5:=hs l[i] (W2 h)
   have h6:=zij (l[i].wit.length:Int)
   rw [zeK h] at h3
   simp only [Wm,zt9] at h3
   rw [yA (by omega),xT (zgw h)]
   rw [zeB,zdT,zgs]
   simp only [zpW,zqd,zAj]
   rw [zWn]
   rw [zca (by omega) (by omega),zFy (by omega) (by omega) (by omega)]
   rw [show ((0:Int))=((0:Nat):Int) from rfl,zYD (by omega) _ _ (by omega) h5 _ _ _ _ L 0 _ (by omega) (by omega) (by simp only [XQ,Wm]; omega)]
   simp only [zd1,zz,XQ]
   rw [up (by omega),ih (i+1) _ (by omega) (by omega) (by simp only [Wm,zt9]; omega),zeK h]
   simp [zt9]
  ·rw [xB (by omega),WK (by omega)]
   simp
theorem z6f{L:Nat}(hL:0<L)(kx:Ls→Option β)(l:List Inp)(p5:Ls) :
  zbe zb xa xf xj yc L kx L false p5 (l.map zcF) (l.length:Int) ((0:Nat):Int)=kx p5:=by
 have key:∀ (n:Nat),0<n→zbe zb xa xf xj yc L kx n false p5 (l.map zcF) (l.length:Int) ((0:Nat):Int)=kx p5:=by
  intro n hn
  obtain ⟨m,rfl⟩:∃ m,n=m+1:=⟨n-1,by omega⟩
  simp only [zbe,zdw,zf1,zz]
  by_cases h:0<l.length
  ·rw [yA (by omega),xT (zgw h)]
   rw [zeB,zdT,zgs]
   simp only [zpW,zqd]
   rw [z5I]
  ·rw [xB (by omega)]
 exact key L hL
structure Lens (t:TxT):Prop where
 a:(t.ins.flatMap inB).length≤70*40
 b:(t.outs.flatMap zoR).length≤70*617
 c:(t.ins.flatMap zt9).length≤70*30000
theorem KeptP.lens{t:TxT}(h:KeptP t):Lens t:=by
 have hi:=h.ni
 have ho:=h.no
 have h1:=zOT (f:=inB) (c:=40) (l:=t.ins) (fun x _=>by rw [zXc]; omega)
 have h2:=zOT (f:=zoR) (c:=617) (l:=t.outs) (fun x hx=>by have:=z7g x; have:=h.sl x hx; omega)
 have h3:=zOT (f:=zt9) (c:=30000) (l:=t.ins) (fun x hx=>z6z (h.wl x hx) (h.wi x hx))
 have e1:t.ins.length*40≤70*40:=WI _ hi
 have e2:t.outs.length*617≤70*617:=WI _ ho
 have e3:t.ins.length*30000≤70*30000:=WI _ hi
 exact ⟨by omega,by omega,by omega⟩
theorem zYq{L:Nat}(hL:2000≤L){t:TxT}(h:KeptP t)(w:Bool)(k:Ls→Option β):zk β L (zav t) w k=k (xA .u8 (zmI t w)):=by
 obtain ⟨q1,q2,q3⟩:=h.lens
 have hi:=h.ni
 have ho:=h.no
 have s1:=zij (t.ins.length:Int)
 have s2:=zij (t.outs.length:Int)
 simp only [zk,zzs,zIp,zjX,zn5,zz]
 simp only [zch,zeI,zyL,zmX,QB]
 rw [zhf .u8,zDk (by omega) (by simp),zca (by omega) (by omega),zJm (by omega) (by simp) (by omega),zN,zN,XR,XR,xi (zmr (by rw [zbu]; omega)),zbO]
 rw [show ((0:Int))=((0:Nat):Int) from rfl,z27 (by omega) _ _ (by omega) _ _ L 0 _ (by omega) (by omega) (by simp only [XQ,Wm,zbu]; omega)]
 simp only [zjs,zph,zz,zch,zeI,zmX,QB,XQ]
 rw [zhf .u8,zca (by omega) (by omega),zJm (by omega) (by simp) (by omega),zN,zN,XR,xi (zmr (by simp only [Wm,zbu]; omega)),zbO]
 rw [show ((0:Int))=((0:Nat):Int) from rfl,z1q (by omega) _ _ (by omega) h.sl _ _ L 0 _ (by omega) (by omega) (by simp only [XQ,Wm,zbu]; omega)]
 simp only [zhH,zms,zz,zch,zeI,zmX,QB,XQ]
 rw [zhf .u8,zDk (by omega) (by simp),zN,zN,XR,xi (zmr (by simp only [Wm,zbu]; omega)),zbO]
 cases w with
 | false=>
  simp only [Bool.not_false,zfj,zmI,WP,if_false,List.append_nil]
 | true=>
  simp only [Bool.not_true,zbH]
  rw [show ((0:Int))=((0:Nat):Int) from rfl,z0O hL _ _ (by omega) h.wl h.wi L 0 _ (by omega) (by omega) (by simp only [XQ,Wm,zbu]; omega)]
  simp only [zjZ,XQ,zmI,if_true]
theorem zDa{L:Nat}(hL:2000≤L){t:TxT}(h:KeptP t)(w:Bool)(k:Ls→Option β):xd β L (zav t) w k=k (xA .u8 (zmI t w)):=by
 obtain ⟨q1,q2,q3⟩:=h.lens
 have hi:=h.ni
 have ho:=h.no
 have s1:=zij (t.ins.length:Int)
 have s2:=zij (t.outs.length:Int)
 simp only [xd,zrz,zyd,zjX,zn5,zz]
 simp only [zch,zeI,zyL,zmX,QB]
 rw [zhf .u8,zz1 (by omega) (by simp),zca (by omega) (by omega),zFy (by omega) (by simp [zbu]) (by omega),XR]
 rw [show ((0:Int))=((0:Nat):Int) from rfl,z2S (by omega) _ _ (by omega) _ _ L 0 _ (by omega) (by omega) (by simp only [XQ,Wm,zbu]; omega)]
 simp only [zgU,zlJ,zz,zch,zeI,zmX,QB,XQ]
 rw [zca (by omega) (by omega),zFy (by omega) (by simp only [Wm,zbu]; omega) (by omega)]
 rw [show ((0:Int))=((0:Nat):Int) from rfl,zZ1 (by omega) _ _ (by omega) h.sl _ _ L 0 _ (by omega) (by omega) (by simp only [XQ,Wm,zbu]; omega)]
 simp only [zfK,zjN,zz,zch,zeI,zmX,QB,XQ]
 rw [zz1 (by omega) (by simp only [Wm,zbu]; omega),show ((0:Int))=((0:Nat):Int) from rfl]
 cases w with
 | false=>
  rw [z6f (by omega)]
  simp only [zfe,zmI,WP,if_false,List.append_nil]
 | true=>
  rw [z69 hL _ _ (by omega) h.wl h.wi L 0 _ (by omega) (by omega) (by simp only [XQ,Wm,zbu]; omega)]
  simp only [zfe,XQ,zmI,if_true]
end
section
variable {β:Type}
def okO(o:Outp):Bool:=decide (0≤o.val)&&decide (o.scr.length≤520)
def okI(x:Inp):Bool:=decide (x.wit.length≤32)&&x.wit.all fun y=>decide (y.length≤520)
def za6(t:TxT):Bool:=decide (t.ins.length≤64)&&decide (t.outs.length≤64)&&t.outs.all okO&&t.ins.all okI&&decide ((zmI t true).length≤20000)
theorem z2J{L:Nat}(kr:Bool→Option β)(kx:List V→Option β)(l:List Outp)(hl:l.length≤1000000)(b1:List V):∀ (n i:Nat),i≤l.length→l.length-i<n →
  zmY zk L kr kx n (l.map zgH) (l.length:Int) (i:Int) b1=ifb ((l.drop i).all okO) (kx b1) (kr false)
 | 0,i,h1,h2=>by omega
 | n+1,i,h1,h2=>by
  simp only [zmY,zyk,zz]
  by_cases h:i<l.length
  ·rw [yA (by omega),xT (zuo h)]
   rw [zuE,zm3,zt7]
   simp only [zJ6,zyw,zN]
   rw [up (by omega),z2J kr kx l hl b1 n (i+1) (by omega) (by omega),ziq h]
   by_cases hv:0≤l[i].val
   ·rw [xB (by omega)]
    by_cases hb:l[i].scr.length≤520
    ·rw [xB (by omega)]; simp [okO,hb,hv]
    ·rw [yA (by omega)]
     have:okO l[i]=false:=by simp [okO,hb]
     rw [this]; rfl
   ·rw [yA (by omega)]
    have:okO l[i]=false:=by simp [okO,hv]
    rw [this]; rfl
  ·rw [xB (by omega),WK (by omega)]; rfl
theorem z00{L:Nat}(kr:Bool→Option β)(kx:Ls→Int→Int→List V→Option β)(wt:List (List Int))(hw:wt.length≤1000000)(p37:Ls)(p38 p39:Int)(b1:List V):∀ (n i:Nat),i≤wt.length→wt.length-i<n →
  zdW zk L kr kx n p37 p38 p39 (zj5 wt) (wt.length:Int) (i:Int) b1=ifb ((wt.drop i).all fun y=>decide (y.length≤520)) (kx p37 p38 p39 b1) (kr false)
 | 0,i,h1,h2=>by omega
 | n+1,i,h1,h2=>by
  simp only [zdW,zjT,zz]
  by_cases h:i<wt.length
  ·rw [yA (by omega),xT (zuX h),zoq rfl]
   rw [up (by omega),z00 kr kx wt hw p37 p38 p39 b1 n (i+1) (by omega) (by omega),ziq h,zN]
   by_cases hb:wt[i].length≤520
   ·rw [xB (by omega)]; simp [hb]
   ·rw [yA (by omega)]; simp [hb,ifb]
  ·rw [xB (by omega),WK (by omega)]; rfl
theorem z9m{L:Nat}(hL:2000≤L)(kr:Bool→Option β)(kx:List V→Option β)(l:List Inp)(hl:l.length≤1000000)(b1:List V):∀ (n i:Nat),i≤l.length→l.length-i<n →
  zkT zk L kr kx n (l.map zcF) (l.length:Int) (i:Int) b1=ifb ((l.drop i).all okI) (kx b1) (kr false):=by
 intro n
 induction n with
 | zero=>intro i h1 h2; omega
 | succ n ih=>
  intro i h1 h2
  simp only [zkT,znZ,zwx,zz]
  by_cases h:i<l.length
  ·rw [yA (by omega),xT (zgw h)]
   rw [zeB,zdT,zgs]
   simp only [zpW,zqd,zAj]
   rw [ziq h]
   by_cases hw:l[i].wit.length≤32
   ·rw [xB (by omega),show ((0:Int))=((0:Nat):Int) from rfl,z00 _ _ _ (by omega) _ _ _ _ L 0 (by omega) (by omega)]
    simp only [zil,zhW,zz,XQ]
    rw [up (by omega),ih (i+1) (by omega) (by omega)]
    have:okI l[i]=l[i].wit.all fun y=>decide (y.length≤520):=by simp [okI,hw]
    rw [this]
    cases l[i].wit.all fun y=>decide (y.length≤520) <;> rfl
   ·rw [yA (by omega)]
    have:okI l[i]=false:=by simp [okI,hw]
    rw [this]; rfl
  ·rw [xB (by omega),WK (by omega)]; rfl
theorem z1s{L:Nat}(hL:2000≤L){t:TxT}(h:KeptP t)(k:Bool→Option β):zJ β L (zav t) k=k (za6 t):=by
 have hi:=h.ni
 have ho:=h.no
 simp only [zJ,zHt,zO1,zjX,zn5]
 simp only [zch,zeI,zyL,zmX,QB]
 by_cases h1:t.ins.length≤64
 ·rw [xB (by omega)]
  by_cases h2:t.outs.length≤64
  ·rw [xB (by omega),show ((0:Int))=((0:Nat):Int) from rfl,z2J _ _ _ (by omega) _ L 0 (by omega) (by omega)]
   simp only [zl4,zuc,zsQ,zch,zeI,QB,XQ]
   cases e1:t.outs.all okO
   ·have e:za6 t=false:=by simp [za6,e1]
    rw [e]; rfl
   ·rw [zfj,show ((0:Int))=((0:Nat):Int) from rfl,z9m hL _ _ _ (by omega) _ L 0 (by omega) (by omega)]
    simp only [zr2,zqB,zch,zeI,XQ,zbd,zbv]
    cases e2:t.ins.all okI
    ·have e:za6 t=false:=by simp [za6,e2]
     rw [e]; rfl
    ·rw [zfj,zYq hL h,zN]
     have e:decide (((zmI t true).length:Int)≤20000)=za6 t:=by
      simp only [za6,h1,h2,e1,e2,decide_true,XS]
      exact decide_eq_decide.2 (by omega)
     rw [e]
  ·have e:za6 t=false:=by simp [za6,h2]
   rw [yA (by omega),e]
 ·have e:za6 t=false:=by simp [za6,h1]
  rw [yA (by omega),e]
theorem z0H{L:Nat}(kr:Bool→Option β)(kx:List V→Option β)(l:List Outp)(hl:l.length≤1000000)(b1:List V):∀ (n i:Nat),i≤l.length→l.length-i<n →
  ziB xd L kr kx n (l.map zgH) (l.length:Int) (i:Int) b1=ifb ((l.drop i).all okO) (kx b1) (kr false)
 | 0,i,h1,h2=>by omega
 | n+1,i,h1,h2=>by
  simp only [ziB,zso,zz]
  by_cases h:i<l.length
  ·rw [yA (by omega),xT (zuo h)]
   rw [zuE,zm3,zt7]
   simp only [zJ6,zyw,zN]
   rw [up (by omega),z0H kr kx l hl b1 n (i+1) (by omega) (by omega),ziq h]
   by_cases hv:0≤l[i].val
   ·rw [xB (by omega)]
    by_cases hb:l[i].scr.length≤520
    ·rw [xB (by omega)]; simp [okO,hb,hv]
    ·rw [yA (by omega)]
     have:okO l[i]=false:=by simp [okO,hb]
     rw [this]; rfl
   ·rw [yA (by omega)]
    have:okO l[i]=false:=by simp [okO,hv]
    rw [this]; rfl
  ·rw [xB (by omega),WK (by omega)]; rfl
theorem zXZ{L:Nat}(kr:Bool→Option β)(kx:Ls→Int→Int→List V→Option β)(wt:List (List Int))(hw:wt.length≤1000000)(p37:Ls)(p38 p39:Int)(b1:List V):∀ (n i:Nat),i≤wt.length→wt.length-i<n →
  zcH xd L kr kx n p37 p38 p39 (zj5 wt) (wt.length:Int) (i:Int) b1=ifb ((wt.drop i).all fun y=>decide (y.length≤520)) (kx p37 p38 p39 b1) (kr false)
 | 0,i,h1,h2=>by omega
 | n+1,i,h1,h2=>by
  simp only [zcH,zhO,zz]
  by_cases h:i<wt.length
  ·rw [yA (by omega),xT (zuX h),zoq rfl]
   rw [up (by omega),zXZ kr kx wt hw p37 p38 p39 b1 n (i+1) (by omega) (by omega),ziq h,zN]
   by_cases hb:wt[i].length≤520
   ·rw [xB (by omega)]; simp [hb]
   ·rw [yA (by omega)]; simp [hb,ifb]
  ·rw [xB (by omega),WK (by omega)]; rfl
theorem z8F{L:Nat}(hL:2000≤L)(kr:Bool→Option β)(kx:List V→Option β)(l:List Inp)(hl:l.length≤1000000)(b1:List V):∀ (n i:Nat),i≤l.length→l.length-i<n →
  zh2 xd L kr kx n (l.map zcF) (l.length:Int) (i:Int) b1=ifb ((l.drop i).all okI) (kx b1) (kr false):=by
 intro n
 induction n with
 | zero=>intro i h1 h2; omega
 | succ n ih=>
  intro i h1 h2
  simp only [zh2,zkb,zq6,zz]
  by_cases h:i<l.length
  ·rw [yA (by omega),xT (zgw h)]
   rw [zeB,zdT,zgs]
   simp only [zpW,zqd,zAj]
   rw [ziq h]
   by_cases hw:l[i].wit.length≤32
   ·rw [xB (by omega),show ((0:Int))=((0:Nat):Int) from rfl,zXZ _ _ _ (by omega) _ _ _ _ L 0 (by omega) (by omega)]
    simp only [zgI,zf9,zz,XQ]
    rw [up (by omega),ih (i+1) (by omega) (by omega)]
    have:okI l[i]=l[i].wit.all fun y=>decide (y.length≤520):=by simp [okI,hw]
    rw [this]
    cases l[i].wit.all fun y=>decide (y.length≤520) <;> rfl
   ·rw [yA (by omega)]
    have:okI l[i]=false:=by simp [okI,hw]
    rw [this]; rfl
  ·rw [xB (by omega),WK (by omega)]; rfl
theorem zAw{L:Nat}(hL:2000≤L){t:TxT}(h:KeptP t)(k:Bool→Option β):xb β L (zav t) k=k (za6 t):=by
 have hi:=h.ni
 have ho:=h.no
 simp only [xb,zvL,zFs,zjX,zn5]
 simp only [zch,zeI,zyL,zmX,QB]
 by_cases h1:t.ins.length≤64
 ·rw [xB (by omega)]
  by_cases h2:t.outs.length≤64
  ·rw [xB (by omega),show ((0:Int))=((0:Nat):Int) from rfl,z0H _ _ _ (by omega) _ L 0 (by omega) (by omega)]
   simp only [zi2,zpn,znS,zch,zeI,QB,XQ]
   cases e1:t.outs.all okO
   ·have e:za6 t=false:=by simp [za6,e1]
    rw [e]; rfl
   ·rw [zfj,show ((0:Int))=((0:Nat):Int) from rfl,z8F hL _ _ _ (by omega) _ L 0 (by omega) (by omega)]
    simp only [zn6,zmR,zch,zeI,XQ,zbd,zbv]
    cases e2:t.ins.all okI
    ·have e:za6 t=false:=by simp [za6,e2]
     rw [e]; rfl
    ·rw [zfj,zDa hL h,zN]
     have e:decide (((zmI t true).length:Int)≤20000)=za6 t:=by
      simp only [za6,h1,h2,e1,e2,decide_true,XS]
      exact decide_eq_decide.2 (by omega)
     rw [e]
  ·have e:za6 t=false:=by simp [za6,h2]
   rw [yA (by omega),e]
 ·have e:za6 t=false:=by simp [za6,h1]
  rw [yA (by omega),e]
def nullrow:List V:=We 32 (Qa (0:Int))++[(Qc (4294967295:Int))]
def eqP(x y:Inp):Bool:=(zbX (zcW x) (zcW y)).getD false
def eqN(x:Inp):Bool:=(zbX (zcW x) nullrow).getD false
theorem zFr(x y:Inp):zbX (zcW x) (zcW y)=some (eqP x y):=by
 have h:(zbX (zcW x) (zcW y)).isSome=true:=by rfl
 unfold eqP
 obtain ⟨b,hb⟩:=WR.1 h
 rw [hb]; rfl
theorem z0l(x:Inp):zbX (zcW x) nullrow=some (eqN x):=by
 have h:(zbX (zcW x) nullrow).isSome=true:=by rfl
 unfold eqN
 obtain ⟨b,hb⟩:=WR.1 h
 rw [hb]; rfl
theorem zFg:∀ (a b:List V) (r:Bool),zbX a b=some r→zbX b a=some r
 | [],[],r,h=>h
 | [],y::b,r,h=>by simp [zbX] at h
 | x::a,[],r,h=>by unfold zbX at h; split at h <;> simp_all
 | x::a,y::b,r,h=>by
  unfold zbX at h
  split at h
  ·simp_all
  ·rename_i e1 e2
   cases e1; cases e2
   split at h
   ·rename_i hk
    simp only [Option.map_eq_some_iff] at h
    obtain ⟨q,hq,rfl⟩:=h
    simp only [zbX,hk,if_true,zFg _ _ _ hq,Option.map_some]
    congr 2
    exact Bool.beq_comm ..
   ·cases h
  ·cases h
theorem zIk:nullrow.length=33:=by simp [nullrow]
theorem z04(x:Inp)(k:Bool→Option β):eqC 33 (zcW x) nullrow k=k (eqN x):=by
 simp only [eqC,zhl,zIk,and_self,zn5,z0l]
theorem z1N(x y:Inp)(k:Bool→Option β):eqC 33 (zcW x) (zcW y) k=k (eqP x y):=by
 simp only [eqC,zhl,and_self,zn5,zFr]
theorem z86{L:Nat}(x:Inp)(k:Bool→Option β):zcI β L (zcW x) k=k (eqN x):=by
 simp only [zcI,zPY]
 rw [xi (by rw [zhl]; omega),zQy]
 exact z04 x k
theorem z2z{L:Nat}(x:Inp)(k:Bool→Option β):ye β L (zcW x) k=k (eqN x):=by
 simp only [ye,zEd]
 rw [xi (by rw [zhl]; omega),zQy]
 exact z04 x k
def cbB(t:TxT):Bool:=match t.ins with
 | [x]=>eqN x
 | _=>false
theorem z5v{l:List Inp}(h:l.length=1):∃ x,l=[x]:=List.length_eq_one_iff.1 h
theorem zVp{L:Nat}(t:TxT)(k:Bool→Option β):zf β L (zav t) k=k (cbB t):=by
 simp only [zf,zBF,zjX,zn5]
 simp only [zch,zeI,zyL,zmX,QB]
 by_cases h:t.ins.length=1
 ·obtain ⟨x,hx⟩:=z5v h
  rw [ze4 (by omega),hx,zrg (j:=0) (by omega) rfl,zqu,z86]
  simp [cbB,hx]
 ·rw [zfU (by omega)]
  have:cbB t=false:=by
   unfold cbB
   split
   ·rename_i x hx; rw [hx] at h; simp at h
   ·rfl
  rw [this]
theorem zRP{L:Nat}(t:TxT)(k:Bool→Option β):za β L (zav t) k=k (cbB t):=by
 simp only [za,zt6,zjX,zn5]
 simp only [zch,zeI,zyL,zmX,QB]
 by_cases h:t.ins.length=1
 ·obtain ⟨x,hx⟩:=z5v h
  rw [ze4 (by omega),hx,zrg (j:=0) (by omega) rfl,zqu,z2z]
  simp [cbB,hx]
 ·rw [zfU (by omega)]
  have:cbB t=false:=by
   unfold cbB
   split
   ·rename_i x hx; rw [hx] at h; simp at h
   ·rfl
  rw [this]
end
end Go.Proofs.YtgmhijonllockaaGreatDoor
