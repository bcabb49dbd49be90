/- Part 13 of the proof of AddrbookMoves: an abstract machine over plain values, its soundness, and the functions of the program on plain values. -/
import Derived.Test.YtbimgceighecgaaMAddrbookMoves12
namespace Go.Proofs.Ytbimgceighecgaa
set_option linter.unusedVariables false
set_option linter.unusedSimpArgs false
open List renaming length->XI,take->XK,replicate->We,drop->XL,map->Xt,flatten->XM,getElem?_append_right->Wt
open IntKind renaming wrap->QF
open Int renaming toNat->XJ,tmod->XP,tdiv->XQ
section
set_option maxRecDepth 100000
def zck:CC:=(.seq (.seq (.reg [Qh 24 (tq 7),Qh 25 (tq 0),Qr 26 (tq 25),Qp 27 .lss (tq 24) (tq 26),Qh 28 (tq 27),⟨(some 29),false,(some (28,true)),.move (tq 0) false⟩,⟨(some 30),false,(some (28,true)),.move (tq 7) false⟩,⟨(some 31),false,(some (28,true)),.indexAddrS 5 (tq 29) (tq 30)⟩,⟨(some 32),false,(some (28,true)),.fieldAddr 0 (tq 31)⟩,⟨(some 33),false,(some (28,true)),.load false 1 (tq 32) false⟩,⟨(some 34),false,(some (28,true)),.move (tq 1) false⟩,⟨(some 35),false,(some (28,true)),.bin .eql (tq 33) (tq 34)⟩,oo 36 (.pick (tq 28) (tq 35) (Qg false))]) (.cond (tq 36) .skip (.seq (.mask (bl 192 41) (bl 2198956146687 41)) (.exit 2)))) (.block 3 (.reg [Qh 37 (tq 7),Qp 38 .add (tq 37) (Qf 1),Qh 7 (tq 38)])))
def zfX:CC:=(.seq (.reg [Qh 39 (tq 6),Qh 40 (tq 7),Qh 4 (tq 39),Qh 5 (tq 40)]) .ret)
def zdZ:CC:=(.seq (.seq (.reg [Qh 8 (tq 6),Qh 9 (tq 0),Qr 10 (tq 9),Qp 11 .lss (tq 8) (tq 10),Qh 12 (tq 11),⟨(some 13),false,(some (12,true)),.move (tq 0) false⟩,⟨(some 14),false,(some (12,true)),.move (tq 6) false⟩,⟨(some 15),false,(some (12,true)),.indexAddrS 5 (tq 13) (tq 14)⟩,⟨(some 16),false,(some (12,true)),.fieldAddr 0 (tq 15)⟩,⟨(some 17),false,(some (12,true)),.load false 1 (tq 16) false⟩,⟨(some 18),false,(some (12,true)),.move (tq 1) false⟩,⟨(some 19),false,(some (12,true)),.bin .lss (tq 17) (tq 18)⟩,oo 20 (.pick (tq 12) (tq 19) (Qg false))]) (.cond (tq 20) .skip (.seq (.mask (bl 67 41) (bl 2199023254527 41)) (.exit 0)))) (.block 1 (.reg [Qh 21 (tq 6),Qp 22 .add (tq 21) (Qf 1),Qh 6 (tq 22)])))
def zg6:CC:=(.seq (.reg [Qh 23 (tq 6),Qh 7 (tq 23)]) (.seq (.block 2 (.loop (bl 195 41) (bl 2198956146687 41) zck)) zfX))
def zbq:CF:=zaG
def yL:Nat→Sh:=yT [(17,(.int .i64)),(33,(.int .i64))]
def xL(L:Nat):CBC:=noC
def zej:St→St:=zbd 0 (bl 67 41) (bl 2199023254527 41)
def zdF:St→St:=zbd 0 (bl 195 41) (bl 2198956146687 41)
def zds(z:List (List V))(A C:Int):St:=⟨((V.sl 5 z)::((Qe A)::(jn 4 ((Qe C)::(jn 34 []))))),(gn 41 [])⟩
def zec(z:List (List V))(A C:Int):St:=⟨((V.sl 5 z)::((Qe A)::(jn 4 ((Qe C)::(jn 34 []))))),(gn 41 [])⟩
def zcP(z:List (List V))(A C D:Int):St:=⟨((V.sl 5 z)::((Qe A)::(jn 4 ((Qe C)::((Qe D)::(jn 33 [])))))),(gn 41 [])⟩
def zgn(z A:Int):St:=⟨(jn 6 ((Qe z)::((Qe A)::(jn 33 [])))),(gn 41 [])⟩
def zoe{β:Type}(L:Nat)(A:List (List V))(C:Int)(z:List (List V)→Int→Int→Option β):Option β:=z A C (0:Int)
theorem zs8{β:Type}(L:Nat)(z:List (List V))(A:Int)(k:KK β):yl yL (xL L) L zbq [(V.sl 5 z),(Qe A)] [] k=zoe L z A (fun z A C=>xE (xi yL (xL L) 0 L zdZ) zej L (zds z A C) (zF 0 (zQ (xi yL (xL L) 0 L zg6) (xW 0 (CF.res zbq) k)))):=by kernel_rfl
def zlq{β:Type}(L:Nat)(A:List (List V))(E C:Int)(z:List (List V)→Int→Int→Option β)(D:List (List V)→Int→Int→Option β):Option β:=ifb (decide (C<((XI A:Nat):Int))) (idx A C fun c0=>cI .i64 c0 0 fun F=>ifb (decide (F<E)) (lt (QF .i64 ((C:Int)+(1:Int))) fun G=>z A E G) (D A E C)) (D A E C)
theorem zqH{β:Type}(L:Nat)(z:List (List V))(A C:Int)(X:St→Option β)(K:KT β):xi yL (xL L) 0 L zdZ (zds z A C) (zcz zej X K)=zlq L z A C (fun z A C=>X (zds z A C)) (fun z A C=>K (.exit 0) (zec z A C)):=by kernel_rfl
def zjS{β:Type}(L:Nat)(C:List (List V))(D A:Int)(z:List (List V)→Int→Int→Int→Option β):Option β:=z C D A A
theorem zpg{β:Type}(L:Nat)(z:List (List V))(A C:Int)(k:KK β):(zF 0 (zQ (xi yL (xL L) 0 L zg6) (xW 0 (CF.res zbq) k))) (.exit 0) (zec z A C)=zjS L z A C (fun z A C D=>xE (xi yL (xL L) 0 L zck) zdF L (zcP z A C D) (zF 2 (zQ (xi yL (xL L) 0 L zfX) (xW 0 (CF.res zbq) k)))):=by kernel_rfl
def zjU{β:Type}(L:Nat)(D:List (List V))(F E A:Int)(z:List (List V)→Int→Int→Int→Option β)(C:Int→Int→Option β):Option β:=ifb (decide (A<((XI D:Nat):Int))) (idx D A fun c3=>cI .i64 c3 0 fun G=>ifb ((G:Int)==F) (lt (QF .i64 ((A:Int)+(1:Int))) fun I=>z D F E I) (C E A)) (C E A)
theorem zph{β:Type}(L:Nat)(C:List (List V))(D z A:Int)(X:St→Option β)(K:KT β):xi yL (xL L) 0 L zck (zcP C D z A) (zcz zdF X K)=zjU L C D z A (fun C D z A=>X (zcP C D z A)) (fun z A=>K (.exit 2) (zgn z A)):=by kernel_rfl
def zip{β:Type}(L:Nat)(A C:Int)(z:Int→Int→Option β):Option β:=z A C
theorem znU{β:Type}(L:Nat)(C D:Int)(k:KK β):(zF 2 (zQ (xi yL (xL L) 0 L zfX) (xW 0 (CF.res zbq) k))) (.exit 2) (zgn C D)=zip L C D (fun z A=>k (V.tup [(Qe z),(Qe A)]) []):=by kernel_rfl
def zgq{β:Type}(L:Nat)(z:List (List V)→Int→Int→Option β):Nat→List (List V)→Int→Int→Option β
 | 0,_,_,_=>none
 | n+1,A,C,D=>zlq L A C D (fun A C D=>zgq L z n A C D) z
theorem ziV{β:Type}(L:Nat)(K:KT β):∀ (n:Nat) (z:List (List V)) (A C:Int),xE (xi yL (xL L) 0 L zdZ) zej n (zds z A C) K=zgq L (fun z A C=>K (.exit 0) (zec z A C)) n z A C:=by
 intro n
 induction n with
 | zero=>intros; rfl
 | succ n ih=>
  intro z A C
  refine (zqH L z A C (fun σ=>xE (xi yL (xL L) 0 L zdZ) zej n σ K) K).trans ?_
  simp only [ih]
  rfl
def zfD{β:Type}(L:Nat)(z:Int→Int→Option β):Nat→List (List V)→Int→Int→Int→Option β
 | 0,_,_,_,_=>none
 | n+1,A,C,D,E=>zjU L A C D E (fun A C D E=>zfD L z n A C D E) z
theorem zh5{β:Type}(L:Nat)(K:KT β):∀ (n:Nat) (C:List (List V)) (D z A:Int),xE (xi yL (xL L) 0 L zck) zdF n (zcP C D z A) K=zfD L (fun z A=>K (.exit 2) (zgn z A)) n C D z A:=by
 intro n
 induction n with
 | zero=>intros; rfl
 | succ n ih=>
  intro C D z A
  refine (zph L C D z A (fun σ=>xE (xi yL (xL L) 0 L zck) zdF n σ K) K).trans ?_
  simp only [ih]
  rfl
def ze9{β:Type}(L:Nat)(C:List (List V))(D z:Int)(A:Int→Int→Option β):Option β:=zjS L C D z (fun C D z E=>zfD L (fun z E=>zip L z E A) L C D z E)
theorem zoR{β:Type}(L:Nat)(z:List (List V))(A C:Int)(k:KK β):(zF 0 (zQ (xi yL (xL L) 0 L zg6) (xW 0 (CF.res zbq) k))) (.exit 0) (zec z A C)=ze9 L z A C (fun D E=>k (V.tup [(Qe D),(Qe E)]) []):=by
 refine (zpg L z A C k).trans ?_
 unfold ze9
 first
  | (simp only [zh5,znU]; done)
  | (simp only [zh5]; rfl)
def zju{β:Type}(L:Nat)(z:List (List V))(A:Int)(C:Int→Int→Option β):Option β:=zoe L z A (fun z A D=>zgq L (fun z A D=>ze9 L z A D C) L z A D)
theorem ztc{β:Type}(L:Nat)(z:List (List V))(A:Int)(k:KK β):yl yL (xL L) L zbq [(V.sl 5 z),(Qe A)] [] k=zju L z A (fun C D=>k (V.tup [(Qe C),(Qe D)]) []):=by
 refine (zs8 L z A k).trans ?_
 unfold zju
 first
  | (simp only [ziV,zoR]; done)
  | (simp only [ziV]; rfl)
abbrev zfV:=∀ (β:Type),Nat→List (List V)→Int→(Int→Int→Option β)→Option β
def yS(β:Type)(L:Nat)(A:List (List V))(C:Int)(z:Int→Int→Option β):Option β:=zju L A C z
def zga(yS:zfV)(L:Nat)(β:Type)(args:List V)(bor:Bor)(k:KK β):Option β:=match args,bor with
 | [a0,a1],[]=>aL 5 a0 fun C=>aI .i64 a1 fun D=>yS β L C D (fun z A=>k (V.tup [(Qe z),(Qe A)]) [])
 | _,_=>none
theorem ztg(L:Nat)(β:Type)(args:List V)(bor:Bor)(k:KK β)(r:β)(h:zga yS L β args bor k=some r):yl yL (xL L) L zbq args bor k=some r:=by
 unfold zga at h
 split at h
 ·have q:=zaF h; clear h; obtain ⟨z,rfl,h⟩:=q
  have q:=yo h; clear h; obtain ⟨A,rfl,h⟩:=q
  exact (ztc L z A k).trans h
 ·cases h
def zei:CF:=zaA
def zcn:Nat→Sh:=yT []
def zcm(L:Nat):CBC:=noC
def zeo{β:Type}(L:Nat)(z:List (List V))(C D:Int)(A:List (List V)→Option β):Option β:=chk (0≤((XI z:Nat):Int)∧((XI z:Nat):Int)≤(((XI z):Nat):Int)) (chk (0≤D∧D≤(((XJ ((XI z:Nat):Int)):Nat):Int)) (chk (0≤C∧C≤(((XJ D):Nat):Int)) (ifb (decide ((XJ ((XI z:Nat):Int))=(XJ C))) (ifb ((C:Int)==D) (A z) (none)) (ifb ((C:Int)==D) (A z) (none)))))
theorem zir{β:Type}(L:Nat)(z:List (List V))(A C:Int)(k:KK β):yl zcn (zcm L) L zei [(V.sl 5 z),(Qe A),(Qe C)] [] k=zeo L z A C (fun z=>k (V.sl 5 z) []):=by kernel_rfl
abbrev zba:=∀ (β:Type),Nat→List (List V)→Int→Int→(List (List V)→Option β)→Option β
def zt(β:Type)(L:Nat)(A:List (List V))(C D:Int)(z:List (List V)→Option β):Option β:=zeo L A C D z
def zbe(zt:zba)(L:Nat)(β:Type)(args:List V)(bor:Bor)(k:KK β):Option β:=match args,bor with
 | [a0,a1,a2],[]=>aL 5 a0 fun z=>aI .i64 a1 fun A=>aI .i64 a2 fun C=>zt β L z A C (fun z=>k (V.sl 5 z) [])
 | _,_=>none
theorem ziM(L:Nat)(β:Type)(args:List V)(bor:Bor)(k:KK β)(r:β)(h:zbe zt L β args bor k=some r):yl zcn (zcm L) L zei args bor k=some r:=by
 unfold zbe at h
 split at h
 ·have q:=zaF h; clear h; obtain ⟨z,rfl,h⟩:=q
  have q:=yo h; clear h; obtain ⟨A,rfl,h⟩:=q
  have q:=yo h; clear h; obtain ⟨C,rfl,h⟩:=q
  exact (zir L z A C k).trans h
 ·cases h
def zcI:CC:=(.seq (.seq (.reg [Qh 32 (tq 12),Qh 33 (tq 10),Qp 34 .lss (tq 32) (tq 33)]) (.cond (tq 34) .skip (.seq (.mask (bl 3420 84) (bl 19342813113834066795294719 84)) (.exit 0)))) (.seq (.block 1 (.seq (.dreg [] [(Ql 37 32 (tq 3),q0),(Qj 38 1 (tq 37),ql 3 [] []),(Qh 39 (tq 12),q0),(Qo 40 5 (tq 38) (tq 39),q0),(Ql 41 1 (tq 40),q0),(Ql 42 2 (tq 41),q0),(Qj 43 1 (tq 42),qc [3] []),(Ql 44 32 (tq 3),q0),(Qj 45 1 (tq 44),ql 3 [] []),(Qh 46 (tq 11),q0),(Qo 47 5 (tq 45) (tq 46),q0),(Ql 48 1 (tq 47),q0),(Ql 49 2 (tq 48),q0),(Qj 50 1 (tq 49),qc [3] []),(Qp 51 .lss (tq 43) (tq 50),q0)]) (.cond (tq 51) (.reg [Qh 52 (tq 12),Qh 11 (tq 52)]) .skip))) (.reg [Qh 35 (tq 12),Qp 36 .add (tq 35) (Qf 1),Qh 12 (tq 36)])))
def ziU:CC:=(.seq (.seq (.dreg [] [(Ql 53 32 (tq 3),q0),(Qj 54 1 (tq 53),ql 3 [4] []),(Qh 55 (tq 11),q0),(Qo 56 5 (tq 54) (tq 55),q0),(Ql 57 1 (tq 56),q0),(Ql 58 2 (tq 57),q0),(Qj 59 1 (tq 58),qc [4] []),(Ql 60 2 (tq 4),q0),(Qj 61 1 (tq 60),ql 4 [3] []),(Qp 62 .geq (tq 59) (tq 61),q0)]) (.cond (tq 62) (.seq (.reg [oo 63 (.load true 34 (tq 3) true),Qm 34 (tq 6) (tq 63),Qh 7 (Qg false)]) .ret) .skip)) (.seq (.reg [Ql 64 32 (tq 3),Qj 65 1 (tq 64),Qh 66 (tq 11),Qh 67 (tq 11),Qp 68 .add (tq 67) (Qf 1),⟨(some 69),true,none,.call 400 [((tq 65),2),((tq 66),2),((tq 68),2)] []⟩,Ql 70 32 (tq 3),Qm 1 (tq 70) (tq 69)]) (.reg [Qh 71 (tq 10),Qp 72 .sub (tq 71) (Qf 1),Qh 10 (tq 72)])))
def zl2:CC:=(.seq (.reg [Ql 73 32 (tq 3),Qj 74 1 (tq 73),Qh 75 (tq 10),Qh 76 (tq 8),Qk 77 3 (tq 4),Qh 78 (tq 2),oo 79 (.build [(.sc (.int .i64 0)),(.sc (.int .u32 0)),(.sc (.int .u16 0)),(.sc (.int .u32 0)),(.sc (.int .u32 0))] [(0,1,(tq 76)),(1,3,(tq 77)),(4,1,(tq 78))]),⟨(some 80),true,none,.buildSlice 5 1 [(.sc (.int .i64 0)),(.sc (.int .u32 0)),(.sc (.int .u16 0)),(.sc (.int .u32 0)),(.sc (.int .u32 0))] [(0,5,(tq 79))]⟩,⟨(some 81),true,none,.call 399 [((tq 74),2),((tq 75),2),((tq 80),2)] []⟩,Ql 82 32 (tq 3),Qm 1 (tq 82) (tq 81)]) (.seq (.reg [oo 83 (.load true 34 (tq 3) true),Qm 34 (tq 6) (tq 83),Qh 7 (Qg true)]) .ret))
def zd6:CF:=zcD
def zaf:Nat→Sh:=yT [(43,(.int .u32)),(50,(.int .u32)),(59,(.int .u32)),(61,(.int .u32))]
def zag(yb:yu)(yc:yE)(ya:xg)(za:zg)(L:Nat):CBC:=(xy 400 (zZ za L) (xy 399 (zaj ya L) (xy 398 (zem yc L) (xy 297 (zcC yb L) noC))))
def zcR:St→St:=zbd 1 (bl 7516 84) (bl 19342813113834066795298815 84)
def zcl(p2 p8 a8 a9 ba:Int)(b0:List V)(aH aJ aK aN aQ aR aT aU aW aX A C D E F G I J M N O P Q R S U W X Y Z aa ab:Int)(z:Nat)(ac:List (List V))(b5:List V)(aY aZ a0 a1 a2 a3 a4 a5 a6 a7 ad ae af ag ah ai aj ak al am an ao ap aq ar au av aw ax ay az aC:Int)(aD aE:List (List V)):St:=⟨(jn 2 ((Qc p2)::((V.ptr 4 0)::((V.ptr 5 0)::(jn 1 ((V.ptr 7 0)::(jn 1 ((Qe p8)::(jn 1 ((Qe a8)::((Qe a9)::((Qe ba)::(jn 71 []))))))))))))),((.live true b0)::(gn 3 ((.live false [(Qa aH),(Qa aJ),(Qa aK),(Qa aN),(Qa aQ),(Qa aR),(Qa aT),(Qa aU),(Qa aW),(Qa aX),(Qa A),(Qa C),(Qa D),(Qa E),(Qa F),(Qa G),(Qa I),(Qa J),(Qa M),(Qa N),(Qa O),(Qa P),(Qa Q),(Qa R),(Qa S),(Qa U),(Qa W),(Qa X),(Qa Y),(Qa Z),(Qa aa),(Qa ab),(V.own 0 0 z 5),(V.sl 5 ac)])::((.live true b5)::(gn 1 ((.live false [(Qa aY),(Qa aZ),(Qa a0),(Qa a1),(Qa a2),(Qa a3),(Qa a4),(Qa a5),(Qa a6),(Qa a7),(Qa ad),(Qa ae),(Qa af),(Qa ag),(Qa ah),(Qa ai),(Qa aj),(Qa ak),(Qa al),(Qa am),(Qa an),(Qa ao),(Qa ap),(Qa aq),(Qa ar),(Qa au),(Qa av),(Qa aw),(Qa ax),(Qa ay),(Qa az),(Qa aC),(V.gs 5 aD),(V.gs 5 aE)])::(gn 77 [])))))))⟩
def zg8(p2 p8 a8 a9:Int)(b0:List V)(aH aJ aK aN aQ aR aT aU aW aX A C D E F G I J M N O P Q R S U W X Y Z aa ab:Int)(z:Nat)(ac:List (List V))(b5:List V)(aY aZ a0 a1 a2 a3 a4 a5 a6 a7 ad ae af ag ah ai aj ak al am an ao ap aq ar au av aw ax ay az aC:Int)(aD aE:List (List V)):St:=⟨(jn 2 ((Qc p2)::((V.ptr 4 0)::((V.ptr 5 0)::(jn 1 ((V.ptr 7 0)::(jn 1 ((Qe p8)::(jn 1 ((Qe a8)::((Qe a9)::(jn 72 [])))))))))))),((.live true b0)::(gn 3 ((.live false [(Qa aH),(Qa aJ),(Qa aK),(Qa aN),(Qa aQ),(Qa aR),(Qa aT),(Qa aU),(Qa aW),(Qa aX),(Qa A),(Qa C),(Qa D),(Qa E),(Qa F),(Qa G),(Qa I),(Qa J),(Qa M),(Qa N),(Qa O),(Qa P),(Qa Q),(Qa R),(Qa S),(Qa U),(Qa W),(Qa X),(Qa Y),(Qa Z),(Qa aa),(Qa ab),(V.own 0 0 z 5),(V.sl 5 ac)])::((.live true b5)::(gn 1 ((.live false [(Qa aY),(Qa aZ),(Qa a0),(Qa a1),(Qa a2),(Qa a3),(Qa a4),(Qa a5),(Qa a6),(Qa a7),(Qa ad),(Qa ae),(Qa af),(Qa ag),(Qa ah),(Qa ai),(Qa aj),(Qa ak),(Qa al),(Qa am),(Qa an),(Qa ao),(Qa ap),(Qa aq),(Qa ar),(Qa au),(Qa av),(Qa aw),(Qa ax),(Qa ay),(Qa az),(Qa aC),(V.gs 5 aD),(V.gs 5 aE)])::(gn 77 [])))))))⟩
abbrev zhR(β:Type):Type:=Int→Int→Int→Int→Int→List V→Int→Int→Int→Int→Int→Int→Int→Int→Int→Int→Int→Int→Int→Int→Int→Int→Int→Int→Int→Int→Int→Int→Int→Int→Int→Int→Int→Int→Int→Int→Int→Int→Nat→List (List V)→List V→Int→Int→Int→Int→Int→Int→Int→Int→Int→Int→Int→Int→Int→Int→Int→Int→Int→Int→Int→Int→Int→Int→Int→Int→Int→Int→Int→Int→Int→Int→Int→Int→List (List V)→List (List V)→Option β
abbrev zcA(β:Type):Type:=Int→Int→Int→Int→Int→Int→Int→Int→Int→Int→Int→Int→Int→Int→Int→Int→Int→Int→Int→Int→Int→Int→Int→Int→Int→Int→Int→Int→Int→Int→Int→Int→Nat→List (List V)→Bool→Nat→List V→Option β
abbrev zit(β:Type):Type:=Int→Int→Int→Int→List V→Int→Int→Int→Int→Int→Int→Int→Int→Int→Int→Int→Int→Int→Int→Int→Int→Int→Int→Int→Int→Int→Int→Int→Int→Int→Int→Int→Int→Int→Int→Int→Int→Nat→List (List V)→List V→Int→Int→Int→Int→Int→Int→Int→Int→Int→Int→Int→Int→Int→Int→Int→Int→Int→Int→Int→Int→Int→Int→Int→Int→Int→Int→Int→Int→Int→Int→Int→Int→List (List V)→List (List V)→Option β
abbrev zd9(β:Type):Type:=Int→Int→Int→Int→Int→Int→Int→Int→Int→Int→Int→Int→Int→Int→Int→Int→Int→Int→Int→Int→Int→Int→Int→Int→Int→Int→Int→Int→Int→Int→Int→Int→Nat→List (List V)→Bool→List V→Option β
def zj0{β:Type}(yb:yu)(yc:yE)(ya:xg)(za:zg)(L:Nat)(ae af ag ah ai aj ak al am an C D E F G I J M N O P Q R S U W X Y Z aa ab ac:Int)(A:Nat)(ao:List (List V))(p1:List V)(p2:Int)(b0:List V)(z:zhR β)(ar:zcA β):Option β:=chk (0+3≤(XI p1)) (yb β L [(Qa ae),(Qa af),(Qa ag),(Qa ah),(Qa ai),(Qa aj),(Qa ak),(Qa al),(Qa am),(Qa an),(Qa C),(Qa D),(Qa E),(Qa F),(Qa G),(Qa I),(Qa J),(Qa M),(Qa N),(Qa O),(Qa P),(Qa Q),(Qa R),(Qa S),(Qa U),(Qa W),(Qa X),(Qa Y),(Qa Z),(Qa aa),(Qa ab),(Qa ac)] (XK 3 p1) p2 (fun v0=>yc β L A v0 b0 (fun v1 v2 v3=>chk ([(XI v3)]=[(XI b0)]) (lt (QF .i64 ((v2:Int)-v1)) fun x4=>ifb (decide (x4≥(8:Int))) (lt (QF .i64 ((v1:Int)+(1:Int))) fun x5=>z p2 v0 v2 v1 x5 v3 ae af ag ah ai aj ak al am an C D E F G I J M N O P Q R S U W X Y Z aa ab ac A ao p1 (0:Int) (0:Int) (0:Int) (0:Int) (0:Int) (0:Int) (0:Int) (0:Int) (0:Int) (0:Int) (0:Int) (0:Int) (0:Int) (0:Int) (0:Int) (0:Int) (0:Int) (0:Int) (0:Int) (0:Int) (0:Int) (0:Int) (0:Int) (0:Int) (0:Int) (0:Int) (0:Int) (0:Int) (0:Int) (0:Int) (0:Int) (0:Int) ([]:List (List V)) ([]:List (List V))) (chk (0+3≤(XI p1)) (chk ((XI (XK 3 p1))=3∧1+3≤5) (chk (1=1∧4+1≤(XI (xd [(Qe v0),(Qc (0:Int)),(Qb (0:Int)),(Qc (0:Int)),(Qc (0:Int))] 1 (XK 3 p1)))) (chk ((XI (xd (xd [(Qe v0),(Qc (0:Int)),(Qb (0:Int)),(Qc (0:Int)),(Qc (0:Int))] 1 (XK 3 p1)) 4 [(Qc p2)]))=5∧0+5≤5) (ya β L A v2 1 v3 (XM (ye 5 1 (xd [(Qe (0:Int)),(Qc (0:Int)),(Qb (0:Int)),(Qc (0:Int)),(Qc (0:Int))] 0 (xd (xd [(Qe v0),(Qc (0:Int)),(Qb (0:Int)),(Qc (0:Int)),(Qc (0:Int))] 1 (XK 3 p1)) 4 [(Qc p2)])))) (fun v6 v7 v8=>chk ([v7,(XI v8)]=[(XI v3),(XI (XM (ye 5 1 (xd [(Qe (0:Int)),(Qc (0:Int)),(Qb (0:Int)),(Qc (0:Int)),(Qc (0:Int))] 0 (xd (xd [(Qe v0),(Qc (0:Int)),(Qb (0:Int)),(Qc (0:Int)),(Qc (0:Int))] 1 (XK 3 p1)) 4 [(Qc p2)])))))]) (ar ae af ag ah ai aj ak al am an C D E F G I J M N O P Q R S U W X Y Z aa ab ac (XI v6) ao true v7 (XM v6))))))))))))
theorem zuc{β:Type}(yb:yu)(yc:yE)(ya:xg)(za:zg)(L:Nat)(af z ag ah ai aj ak al am an C D E F G I J M N O P Q R S U W X Y Z aa ab ac:Int)(A:Nat)(ad:List (List V))(p1:List V)(p2:Int)(b0:List V)(k:KK β):yl zaf (zag yb yc ya za L) L zd6 [(V.st [(Qa af),(Qa z),(Qa ag),(Qa ah),(Qa ai),(Qa aj),(Qa ak),(Qa al),(Qa am),(Qa an),(Qa C),(Qa D),(Qa E),(Qa F),(Qa G),(Qa I),(Qa J),(Qa M),(Qa N),(Qa O),(Qa P),(Qa Q),(Qa R),(Qa S),(Qa U),(Qa W),(Qa X),(Qa Y),(Qa Z),(Qa aa),(Qa ab),(Qa ac),(V.own 0 0 A 5),(V.sl 5 ad)]),(V.agg p1),(Qc p2)] [(.live true b0)] k=zj0 yb yc ya za L af z ag ah ai aj ak al am an C D E F G I J M N O P Q R S U W X Y Z aa ab ac A ad p1 p2 b0 (fun p2 p8 bP bQ bR b0 bp bq br bt bu bv bw bz bC bD aq ar au av aw ax ay az aC aD aE aH aJ aK aN aQ aR aT aU aW aX aY ao aZ b5 bE bF bG bH bI bJ bK bL bM bN a0 a1 a2 a3 a4 a5 a6 a7 a8 a9 ba bb bc bd be bf bg bh bi bj bk bm bn bo=>xE (xi zaf (zag yb yc ya za L) 1 L zcI) zcR L (zcl p2 p8 bP bQ bR b0 bp bq br bt bu bv bw bz bC bD aq ar au av aw ax ay az aC aD aE aH aJ aK aN aQ aR aT aU aW aX aY ao aZ b5 bE bF bG bH bI bJ bK bL bM bN a0 a1 a2 a3 a4 a5 a6 a7 a8 a9 ba bb bc bd be bf bg bh bi bj bk bm bn bo) (zF 0 (zQ (xi zaf (zag yb yc ya za L) 1 L ziU) (zQ (xi zaf (zag yb yc ya za L) 1 L zl2) (xW 1 (CF.res zd6) k))))) (fun p0_0_0 p0_0_1 p0_0_2 p0_0_3 p0_0_4 p0_0_5 p0_0_6 p0_0_7 p0_0_8 p0_0_9 p0_0_10 p0_0_11 p0_0_12 p0_0_13 p0_0_14 p0_0_15 p0_0_16 p0_0_17 p0_0_18 p0_0_19 p0_0_20 p0_0_21 p0_0_22 p0_0_23 p0_0_24 p0_0_25 p0_0_26 p0_0_27 p0_0_28 p0_0_29 p0_0_30 p0_0_31 p0_0_32l p0_0_33 z b0 b1=>k (V.tup [(V.st [(Qa p0_0_0),(Qa p0_0_1),(Qa p0_0_2),(Qa p0_0_3),(Qa p0_0_4),(Qa p0_0_5),(Qa p0_0_6),(Qa p0_0_7),(Qa p0_0_8),(Qa p0_0_9),(Qa p0_0_10),(Qa p0_0_11),(Qa p0_0_12),(Qa p0_0_13),(Qa p0_0_14),(Qa p0_0_15),(Qa p0_0_16),(Qa p0_0_17),(Qa p0_0_18),(Qa p0_0_19),(Qa p0_0_20),(Qa p0_0_21),(Qa p0_0_22),(Qa p0_0_23),(Qa p0_0_24),(Qa p0_0_25),(Qa p0_0_26),(Qa p0_0_27),(Qa p0_0_28),(Qa p0_0_29),(Qa p0_0_30),(Qa p0_0_31),(V.own 1 0 p0_0_32l 5),(V.sl 5 p0_0_33)]),(V.sc (.bool z))]) [(.dead b0),(.live true b1)]):=by kernel_rfl
def zer{β:Type}(yb:yu)(yc:yE)(ya:xg)(za:zg)(L:Nat)(p2 p8 bb aK C:Int)(b0:List V)(aN aQ aR aT aU aW aX aY aZ a0 D E F G I J M N O P Q R S U W X Y Z aa ab ac ad:Int)(A:Nat)(ae:List (List V))(b5:List V)(a1 a2 a3 a4 a5 a6 a7 a8 a9 ba af ag ah ai aj ak al am an ao ap aq ar au av aw ax ay az aC aD aE:Int)(aH aJ:List (List V))(z:zhR β)(bg:zit β):Option β:=ifb (decide (C<bb)) (chk (0≤C∧C<((A:Nat):Int)) (cI .u32 b0 (((0+((XJ C)*5))+1)+2) fun v9=>chk (0≤aK∧aK<((A:Nat):Int)) (cI .u32 b0 (((0+((XJ aK)*5))+1)+2) fun bh=>ifb (decide (v9<bh)) (lt (QF .i64 ((C:Int)+(1:Int))) fun bi=>z p2 p8 bb C bi b0 aN aQ aR aT aU aW aX aY aZ a0 D E F G I J M N O P Q R S U W X Y Z aa ab ac ad A ae b5 a1 a2 a3 a4 a5 a6 a7 a8 a9 ba af ag ah ai aj ak al am an ao ap aq ar au av aw ax ay az aC aD aE aH aJ) (lt (QF .i64 ((C:Int)+(1:Int))) fun bj=>z p2 p8 bb aK bj b0 aN aQ aR aT aU aW aX aY aZ a0 D E F G I J M N O P Q R S U W X Y Z aa ab ac ad A ae b5 a1 a2 a3 a4 a5 a6 a7 a8 a9 ba af ag ah ai aj ak al am an ao ap aq ar au av aw ax ay az aC aD aE aH aJ)))) (bg p2 p8 bb aK b0 aN aQ aR aT aU aW aX aY aZ a0 D E F G I J M N O P Q R S U W X Y Z aa ab ac ad A ae b5 a1 a2 a3 a4 a5 a6 a7 a8 a9 ba af ag ah ai aj ak al am an ao ap aq ar au av aw ax ay az aC aD aE aH aJ)
theorem zng{β:Type}(yb:yu)(yc:yE)(ya:xg)(za:zg)(L:Nat)(p2 p8 a9 ba bb:Int)(b0:List V)(aJ aK aN aQ aR aT aU aW aX aY A C D E F G I J M N O P Q R S U W Y Z aa ab ac:Int)(z:Nat)(ad:List (List V))(b5:List V)(aZ a0 a1 a2 a3 a4 a5 a6 a7 a8 ae af ag ah ai aj ak al am an ao ap aq ar au av aw ax ay az aC aD:Int)(aE aH:List (List V))(X:St→Option β)(K:KT β):xi zaf (zag yb yc ya za L) 1 L zcI (zcl p2 p8 a9 ba bb b0 aJ aK aN aQ aR aT aU aW aX aY A C D E F G I J M N O P Q R S U W Y Z aa ab ac z ad b5 aZ a0 a1 a2 a3 a4 a5 a6 a7 a8 ae af ag ah ai aj ak al am an ao ap aq ar au av aw ax ay az aC aD aE aH) (zcz zcR X K)=zer yb yc ya za L p2 p8 a9 ba bb b0 aJ aK aN aQ aR aT aU aW aX aY A C D E F G I J M N O P Q R S U W Y Z aa ab ac z ad b5 aZ a0 a1 a2 a3 a4 a5 a6 a7 a8 ae af ag ah ai aj ak al am an ao ap aq ar au av aw ax ay az aC aD aE aH (fun p2 p8 a9 ba bb b0 aJ aK aN aQ aR aT aU aW aX aY A C D E F G I J M N O P Q R S U W Y Z aa ab ac z ad b5 aZ a0 a1 a2 a3 a4 a5 a6 a7 a8 ae af ag ah ai aj ak al am an ao ap aq ar au av aw ax ay az aC aD aE aH=>X (zcl p2 p8 a9 ba bb b0 aJ aK aN aQ aR aT aU aW aX aY A C D E F G I J M N O P Q R S U W Y Z aa ab ac z ad b5 aZ a0 a1 a2 a3 a4 a5 a6 a7 a8 ae af ag ah ai aj ak al am an ao ap aq ar au av aw ax ay az aC aD aE aH)) (fun p2 p8 a9 ba b0 aJ aK aN aQ aR aT aU aW aX aY A C D E F G I J M N O P Q R S U W Y Z aa ab ac z ad b5 aZ a0 a1 a2 a3 a4 a5 a6 a7 a8 ae af ag ah ai aj ak al am an ao ap aq ar au av aw ax ay az aC aD aE aH=>K (.exit 0) (zg8 p2 p8 a9 ba b0 aJ aK aN aQ aR aT aU aW aX aY A C D E F G I J M N O P Q R S U W Y Z aa ab ac z ad b5 aZ a0 a1 a2 a3 a4 a5 a6 a7 a8 ae af ag ah ai aj ak al am an ao ap aq ar au av aw ax ay az aC aD aE aH)):=by kernel_rfl
def zd1{β:Type}(yb:yu)(yc:yE)(ya:xg)(za:zg)(L:Nat)(p2 p8 az A:Int)(b0:List V)(ag ah ai aj ak al am an ao ap D E F G I J M N O P Q R S U W X Y Z aa ab ac ad:Int)(z:Nat)(ae:List (List V))(C:List V)(bf bg bh bi bj bk bm bn bo bp aN aQ aR aT aU aW aX aY aZ a0 a1 a2 a3 a4 a5 a6 a7 a8 a9 ba bb bc:Int)(bd be:List (List V))(af:zd9 β)(av:zcA β):Option β:=chk (0≤A∧A<((z:Nat):Int)) (cI .u32 b0 (((0+((XJ A)*5))+1)+2) fun aC=>cI .u32 C 2 fun aD=>ifb (decide (aC≥aD)) (af ag ah ai aj ak al am an ao ap D E F G I J M N O P Q R S U W X Y Z aa ab ac ad z ae false b0) (lt (QF .i64 ((A:Int)+(1:Int))) fun aE=>za β L z A aE b0 (fun aH aq=>chk ([(XI aq)]=[(XI b0)]) (lt (QF .i64 ((az:Int)-(1:Int))) fun aJ=>chk (0+3≤(XI C)) (chk ((XI (XK 3 C))=3∧1+3≤5) (chk (1=1∧4+1≤(XI (xd [(Qe p8),(Qc (0:Int)),(Qb (0:Int)),(Qc (0:Int)),(Qc (0:Int))] 1 (XK 3 C)))) (chk ((XI (xd (xd [(Qe p8),(Qc (0:Int)),(Qb (0:Int)),(Qc (0:Int)),(Qc (0:Int))] 1 (XK 3 C)) 4 [(Qc p2)]))=5∧0+5≤5) (ya β L aH aJ 1 aq (XM (ye 5 1 (xd [(Qe (0:Int)),(Qc (0:Int)),(Qb (0:Int)),(Qc (0:Int)),(Qc (0:Int))] 0 (xd (xd [(Qe p8),(Qc (0:Int)),(Qb (0:Int)),(Qc (0:Int)),(Qc (0:Int))] 1 (XK 3 C)) 4 [(Qc p2)])))) (fun aw ax aK=>chk ([ax,(XI aK)]=[(XI aq),(XI (XM (ye 5 1 (xd [(Qe (0:Int)),(Qc (0:Int)),(Qb (0:Int)),(Qc (0:Int)),(Qc (0:Int))] 0 (xd (xd [(Qe p8),(Qc (0:Int)),(Qb (0:Int)),(Qc (0:Int)),(Qc (0:Int))] 1 (XK 3 C)) 4 [(Qc p2)])))))]) (av ag ah ai aj ak al am an ao ap D E F G I J M N O P Q R S U W X Y Z aa ab ac ad (XI aw) ae true ax (XM aw)))))))))))
theorem zmh{β:Type}(yb:yu)(yc:yE)(ya:xg)(za:zg)(L:Nat)(p2 p8 ba bb:Int)(b0:List V)(aK aN aQ aR aT aU aW aX aY aZ C D E F G I J M N O P Q R S U W X Y Z aa ab ac:Int)(z:Nat)(ad:List (List V))(b5:List V)(a0 a1 a2 a3 a4 a5 a6 a7 a8 a9 ae af ag ah ai aj ak al am an ao ap aq ar au av aw ax ay az aC aD:Int)(aE aH:List (List V))(k:KK β):(zF 0 (zQ (xi zaf (zag yb yc ya za L) 1 L ziU) (zQ (xi zaf (zag yb yc ya za L) 1 L zl2) (xW 1 (CF.res zd6) k)))) (.exit 0) (zg8 p2 p8 ba bb b0 aK aN aQ aR aT aU aW aX aY aZ C D E F G I J M N O P Q R S U W X Y Z aa ab ac z ad b5 a0 a1 a2 a3 a4 a5 a6 a7 a8 a9 ae af ag ah ai aj ak al am an ao ap aq ar au av aw ax ay az aC aD aE aH)=zd1 yb yc ya za L p2 p8 ba bb b0 aK aN aQ aR aT aU aW aX aY aZ C D E F G I J M N O P Q R S U W X Y Z aa ab ac z ad b5 a0 a1 a2 a3 a4 a5 a6 a7 a8 a9 ae af ag ah ai aj ak al am an ao ap aq ar au av aw ax ay az aC aD aE aH (fun p0_0_0 p0_0_1 p0_0_2 p0_0_3 p0_0_4 p0_0_5 p0_0_6 p0_0_7 p0_0_8 p0_0_9 p0_0_10 p0_0_11 p0_0_12 p0_0_13 p0_0_14 p0_0_15 p0_0_16 p0_0_17 p0_0_18 p0_0_19 p0_0_20 p0_0_21 p0_0_22 p0_0_23 p0_0_24 p0_0_25 p0_0_26 p0_0_27 p0_0_28 p0_0_29 p0_0_30 p0_0_31 p0_0_32l p0_0_33 A b0=>k (V.tup [(V.st [(Qa p0_0_0),(Qa p0_0_1),(Qa p0_0_2),(Qa p0_0_3),(Qa p0_0_4),(Qa p0_0_5),(Qa p0_0_6),(Qa p0_0_7),(Qa p0_0_8),(Qa p0_0_9),(Qa p0_0_10),(Qa p0_0_11),(Qa p0_0_12),(Qa p0_0_13),(Qa p0_0_14),(Qa p0_0_15),(Qa p0_0_16),(Qa p0_0_17),(Qa p0_0_18),(Qa p0_0_19),(Qa p0_0_20),(Qa p0_0_21),(Qa p0_0_22),(Qa p0_0_23),(Qa p0_0_24),(Qa p0_0_25),(Qa p0_0_26),(Qa p0_0_27),(Qa p0_0_28),(Qa p0_0_29),(Qa p0_0_30),(Qa p0_0_31),(V.own 0 0 p0_0_32l 5),(V.sl 5 p0_0_33)]),(V.sc (.bool A))]) [(.live true b0)]) (fun p0_0_0 p0_0_1 p0_0_2 p0_0_3 p0_0_4 p0_0_5 p0_0_6 p0_0_7 p0_0_8 p0_0_9 p0_0_10 p0_0_11 p0_0_12 p0_0_13 p0_0_14 p0_0_15 p0_0_16 p0_0_17 p0_0_18 p0_0_19 p0_0_20 p0_0_21 p0_0_22 p0_0_23 p0_0_24 p0_0_25 p0_0_26 p0_0_27 p0_0_28 p0_0_29 p0_0_30 p0_0_31 p0_0_32l p0_0_33 A b0 b1=>k (V.tup [(V.st [(Qa p0_0_0),(Qa p0_0_1),(Qa p0_0_2),(Qa p0_0_3),(Qa p0_0_4),(Qa p0_0_5),(Qa p0_0_6),(Qa p0_0_7),(Qa p0_0_8),(Qa p0_0_9),(Qa p0_0_10),(Qa p0_0_11),(Qa p0_0_12),(Qa p0_0_13),(Qa p0_0_14),(Qa p0_0_15),(Qa p0_0_16),(Qa p0_0_17),(Qa p0_0_18),(Qa p0_0_19),(Qa p0_0_20),(Qa p0_0_21),(Qa p0_0_22),(Qa p0_0_23),(Qa p0_0_24),(Qa p0_0_25),(Qa p0_0_26),(Qa p0_0_27),(Qa p0_0_28),(Qa p0_0_29),(Qa p0_0_30),(Qa p0_0_31),(V.own 1 0 p0_0_32l 5),(V.sl 5 p0_0_33)]),(V.sc (.bool A))]) [(.dead b0),(.live true b1)]):=by kernel_rfl
def zbT{β:Type}(yb:yu)(yc:yE)(ya:xg)(za:zg)(L:Nat)(a8:zit β):Nat→Int→Int→Int→Int→Int→List V→Int→Int→Int→Int→Int→Int→Int→Int→Int→Int→Int→Int→Int→Int→Int→Int→Int→Int→Int→Int→Int→Int→Int→Int→Int→Int→Int→Int→Int→Int→Int→Int→Nat→List (List V)→List V→Int→Int→Int→Int→Int→Int→Int→Int→Int→Int→Int→Int→Int→Int→Int→Int→Int→Int→Int→Int→Int→Int→Int→Int→Int→Int→Int→Int→Int→Int→Int→Int→List (List V)→List (List V)→Option β
 | 0,_,_,_,_,_,_,_,_,_,_,_,_,_,_,_,_,_,_,_,_,_,_,_,_,_,_,_,_,_,_,_,_,_,_,_,_,_,_,_,_,_,_,_,_,_,_,_,_,_,_,_,_,_,_,_,_,_,_,_,_,_,_,_,_,_,_,_,_,_,_,_,_,_,_,_=>none
 | n+1,p2,p8,a9,ba,bb,b0,aH,aJ,aK,aN,aQ,aR,aT,aU,aW,aX,A,C,D,E,F,G,I,J,M,N,O,P,Q,R,S,U,W,X,Y,Z,aa,ab,z,ac,b5,aY,aZ,a0,a1,a2,a3,a4,a5,a6,a7,ad,ae,af,ag,ah,ai,aj,ak,al,am,an,ao,ap,aq,ar,au,av,aw,ax,ay,az,aC,aD,aE=>zer yb yc ya za L p2 p8 a9 ba bb b0 aH aJ aK aN aQ aR aT aU aW aX A C D E F G I J M N O P Q R S U W X Y Z aa ab z ac b5 aY aZ a0 a1 a2 a3 a4 a5 a6 a7 ad ae af ag ah ai aj ak al am an ao ap aq ar au av aw ax ay az aC aD aE (fun p2 p8 a9 ba bb b0 aH aJ aK aN aQ aR aT aU aW aX A C D E F G I J M N O P Q R S U W X Y Z aa ab z ac b5 aY aZ a0 a1 a2 a3 a4 a5 a6 a7 ad ae af ag ah ai aj ak al am an ao ap aq ar au av aw ax ay az aC aD aE=>zbT yb yc ya za L a8 n p2 p8 a9 ba bb b0 aH aJ aK aN aQ aR aT aU aW aX A C D E F G I J M N O P Q R S U W X Y Z aa ab z ac b5 aY aZ a0 a1 a2 a3 a4 a5 a6 a7 ad ae af ag ah ai aj ak al am an ao ap aq ar au av aw ax ay az aC aD aE) a8
theorem zgG{β:Type}(yb:yu)(yc:yE)(ya:xg)(za:zg)(L:Nat)(K:KT β):∀ (n:Nat) (p2 p8 a8 a9 ba:Int) (b0:List V) (aH aJ aK aN aQ aR aT aU aW aX A C D E F G I J M N O P Q R S U W X Y Z aa ab:Int) (z:Nat) (ac:List (List V)) (b5:List V) (aY aZ a0 a1 a2 a3 a4 a5 a6 a7 ad ae af ag ah ai aj ak al am an ao ap aq ar au av aw ax ay az aC:Int) (aD aE:List (List V)),xE (xi zaf (zag yb yc ya za L) 1 L zcI) zcR n (zcl p2 p8 a8 a9 ba b0 aH aJ aK aN aQ aR aT aU aW aX A C D E F G I J M N O P Q R S U W X Y Z aa ab z ac b5 aY aZ a0 a1 a2 a3 a4 a5 a6 a7 ad ae af ag ah ai aj ak al am an ao ap aq ar au av aw ax ay az aC aD aE) K=zbT yb yc ya za L (fun p2 p8 a8 a9 b0 aH aJ aK aN aQ aR aT aU aW aX A C D E F G I J M N O P Q R S U W X Y Z aa ab z ac b5 aY aZ a0 a1 a2 a3 a4 a5 a6 a7 ad ae af ag ah ai aj ak al am an ao ap aq ar au av aw ax ay az aC aD aE=>K (.exit 0) (zg8 p2 p8 a8 a9 b0 aH aJ aK aN aQ aR aT aU aW aX A C D E F G I J M N O P Q R S U W X Y Z aa ab z ac b5 aY aZ a0 a1 a2 a3 a4 a5 a6 a7 ad ae af ag ah ai aj ak al am an ao ap aq ar au av aw ax ay az aC aD aE)) n p2 p8 a8 a9 ba b0 aH aJ aK aN aQ aR aT aU aW aX A C D E F G I J M N O P Q R S U W X Y Z aa ab z ac b5 aY aZ a0 a1 a2 a3 a4 a5 a6 a7 ad ae af ag ah ai aj ak al am an ao ap aq ar au av aw ax ay az aC aD aE:=by
 intro n
 induction n with
 | zero=>intros; rfl
 | succ n ih=>
  intro p2 p8 a8 a9 ba b0 aH aJ aK aN aQ aR aT aU aW aX A C D E F G I J M N O P Q R S U W X Y Z aa ab z ac b5 aY aZ a0 a1 a2 a3 a4 a5 a6 a7 ad ae af ag ah ai aj ak al am an ao ap aq ar au av aw ax ay az aC aD aE
  refine (zng yb yc ya za L p2 p8 a8 a9 ba b0 aH aJ aK aN aQ aR aT aU aW aX A C D E F G I J M N O P Q R S U W X Y Z aa ab z ac b5 aY aZ a0 a1 a2 a3 a4 a5 a6 a7 ad ae af ag ah ai aj ak al am an ao ap aq ar au av aw ax ay az aC aD aE (fun σ=>xE (xi zaf (zag yb yc ya za L) 1 L zcI) zcR n σ K) K).trans ?_
  simp only [ih]
  rfl
def zgL{β:Type}(yb:yu)(yc:yE)(ya:xg)(za:zg)(L:Nat)(bI bJ bK bL bM bN bO bP bQ bR bf bg bh bi bj bk bm bn bo bp bq br bt bu bv bw bz bC bD bE bF bG:Int)(ba:Nat)(bH:List (List V))(p1:List V)(p2:Int)(b0:List V)(a8:zcA β)(a9:zd9 β):Option β:=zj0 yb yc ya za L bI bJ bK bL bM bN bO bP bQ bR bf bg bh bi bj bk bm bn bo bp bq br bt bu bv bw bz bC bD bE bF bG ba bH p1 p2 b0 (fun p2 p8 bd be bU b0 aH aJ aK aN aQ aR aT aU aW aX A C D E F G I J M N O P Q R S U W X Y Z aa ab z ac b5 aY aZ a0 a1 a2 a3 a4 a5 a6 a7 ad ae af ag ah ai aj ak al am an ao ap aq ar au av aw ax ay az aC aD aE=>zbT yb yc ya za L (fun p2 p8 bd be b0 aH aJ aK aN aQ aR aT aU aW aX A C D E F G I J M N O P Q R S U W X Y Z aa ab z ac b5 aY aZ a0 a1 a2 a3 a4 a5 a6 a7 ad ae af ag ah ai aj ak al am an ao ap aq ar au av aw ax ay az aC aD aE=>zd1 yb yc ya za L p2 p8 bd be b0 aH aJ aK aN aQ aR aT aU aW aX A C D E F G I J M N O P Q R S U W X Y Z aa ab z ac b5 aY aZ a0 a1 a2 a3 a4 a5 a6 a7 ad ae af ag ah ai aj ak al am an ao ap aq ar au av aw ax ay az aC aD aE a9 a8) L p2 p8 bd be bU b0 aH aJ aK aN aQ aR aT aU aW aX A C D E F G I J M N O P Q R S U W X Y Z aa ab z ac b5 aY aZ a0 a1 a2 a3 a4 a5 a6 a7 ad ae af ag ah ai aj ak al am an ao ap aq ar au av aw ax ay az aC aD aE) a8
theorem zua{β:Type}(yb:yu)(yc:yE)(ya:xg)(za:zg)(L:Nat)(ae z af ag ah ai aj ak al am C D E F G I J M N O P Q R S U W X Y Z aa ab ac:Int)(A:Nat)(ad:List (List V))(p1:List V)(p2:Int)(b0:List V)(k:KK β):yl zaf (zag yb yc ya za L) L zd6 [(V.st [(Qa ae),(Qa z),(Qa af),(Qa ag),(Qa ah),(Qa ai),(Qa aj),(Qa ak),(Qa al),(Qa am),(Qa C),(Qa D),(Qa E),(Qa F),(Qa G),(Qa I),(Qa J),(Qa M),(Qa N),(Qa O),(Qa P),(Qa Q),(Qa R),(Qa S),(Qa U),(Qa W),(Qa X),(Qa Y),(Qa Z),(Qa aa),(Qa ab),(Qa ac),(V.own 0 0 A 5),(V.sl 5 ad)]),(V.agg p1),(Qc p2)] [(.live true b0)] k=zgL yb yc ya za L ae z af ag ah ai aj ak al am C D E F G I J M N O P Q R S U W X Y Z aa ab ac A ad p1 p2 b0 (fun p0_0_0 p0_0_1 p0_0_2 p0_0_3 p0_0_4 p0_0_5 p0_0_6 p0_0_7 p0_0_8 p0_0_9 p0_0_10 p0_0_11 p0_0_12 p0_0_13 p0_0_14 p0_0_15 p0_0_16 p0_0_17 p0_0_18 p0_0_19 p0_0_20 p0_0_21 p0_0_22 p0_0_23 p0_0_24 p0_0_25 p0_0_26 p0_0_27 p0_0_28 p0_0_29 p0_0_30 p0_0_31 p0_0_32l p0_0_33 z b0 b1=>k (V.tup [(V.st [(Qa p0_0_0),(Qa p0_0_1),(Qa p0_0_2),(Qa p0_0_3),(Qa p0_0_4),(Qa p0_0_5),(Qa p0_0_6),(Qa p0_0_7),(Qa p0_0_8),(Qa p0_0_9),(Qa p0_0_10),(Qa p0_0_11),(Qa p0_0_12),(Qa p0_0_13),(Qa p0_0_14),(Qa p0_0_15),(Qa p0_0_16),(Qa p0_0_17),(Qa p0_0_18),(Qa p0_0_19),(Qa p0_0_20),(Qa p0_0_21),(Qa p0_0_22),(Qa p0_0_23),(Qa p0_0_24),(Qa p0_0_25),(Qa p0_0_26),(Qa p0_0_27),(Qa p0_0_28),(Qa p0_0_29),(Qa p0_0_30),(Qa p0_0_31),(V.own 1 0 p0_0_32l 5),(V.sl 5 p0_0_33)]),(V.sc (.bool z))]) [(.dead b0),(.live true b1)]) (fun p0_0_0 p0_0_1 p0_0_2 p0_0_3 p0_0_4 p0_0_5 p0_0_6 p0_0_7 p0_0_8 p0_0_9 p0_0_10 p0_0_11 p0_0_12 p0_0_13 p0_0_14 p0_0_15 p0_0_16 p0_0_17 p0_0_18 p0_0_19 p0_0_20 p0_0_21 p0_0_22 p0_0_23 p0_0_24 p0_0_25 p0_0_26 p0_0_27 p0_0_28 p0_0_29 p0_0_30 p0_0_31 p0_0_32l p0_0_33 z b0=>k (V.tup [(V.st [(Qa p0_0_0),(Qa p0_0_1),(Qa p0_0_2),(Qa p0_0_3),(Qa p0_0_4),(Qa p0_0_5),(Qa p0_0_6),(Qa p0_0_7),(Qa p0_0_8),(Qa p0_0_9),(Qa p0_0_10),(Qa p0_0_11),(Qa p0_0_12),(Qa p0_0_13),(Qa p0_0_14),(Qa p0_0_15),(Qa p0_0_16),(Qa p0_0_17),(Qa p0_0_18),(Qa p0_0_19),(Qa p0_0_20),(Qa p0_0_21),(Qa p0_0_22),(Qa p0_0_23),(Qa p0_0_24),(Qa p0_0_25),(Qa p0_0_26),(Qa p0_0_27),(Qa p0_0_28),(Qa p0_0_29),(Qa p0_0_30),(Qa p0_0_31),(V.own 0 0 p0_0_32l 5),(V.sl 5 p0_0_33)]),(V.sc (.bool z))]) [(.live true b0)]):=by
 refine (zuc yb yc ya za L ae z af ag ah ai aj ak al am C D E F G I J M N O P Q R S U W X Y Z aa ab ac A ad p1 p2 b0 k).trans ?_
 unfold zgL
 first
  | (simp only [zgG,zmh]; done)
  | (simp only [zgG]; rfl)
abbrev zgM:=∀ (β:Type),Nat→Int→Int→Int→Int→Int→Int→Int→Int→Int→Int→Int→Int→Int→Int→Int→Int→Int→Int→Int→Int→Int→Int→Int→Int→Int→Int→Int→Int→Int→Int→Int→Int→Nat→List (List V)→List V→Int→List V→(Int→Int→Int→Int→Int→Int→Int→Int→Int→Int→Int→Int→Int→Int→Int→Int→Int→Int→Int→Int→Int→Int→Int→Int→Int→Int→Int→Int→Int→Int→Int→Int→Nat→List (List V)→Bool→Nat→List V→Option β)→(Int→Int→Int→Int→Int→Int→Int→Int→Int→Int→Int→Int→Int→Int→Int→Int→Int→Int→Int→Int→Int→Int→Int→Int→Int→Int→Int→Int→Int→Int→Int→Int→Nat→List (List V)→Bool→List V→Option β)→Option β
def zP(β:Type)(L:Nat)(af ag ah ai aj ak al am an ao C D E F G I J M N O P Q R S U W X Y Z aa ab ac:Int)(A:Nat)(ad:List (List V))(p1:List V)(p2:Int)(b0:List V)(ae:zcA β)(z:zd9 β):Option β:=zgL yb yc ya za L af ag ah ai aj ak al am an ao C D E F G I J M N O P Q R S U W X Y Z aa ab ac A ad p1 p2 b0 ae z
def zgI(zP:zgM)(L:Nat)(β:Type)(args:List V)(bor:Bor)(k:KK β):Option β:=match args,bor with
 | [(.st (a0_0::a0_1::a0_2::a0_3::a0_4::a0_5::a0_6::a0_7::a0_8::a0_9::a0_10::a0_11::a0_12::a0_13::a0_14::a0_15::a0_16::a0_17::a0_18::a0_19::a0_20::a0_21::a0_22::a0_23::a0_24::a0_25::a0_26::a0_27::a0_28::a0_29::a0_30::a0_31::a0_32::a0_33::[])),a1,a2],[(.live true A)]=>aI .u8 a0_0 fun af=>aI .u8 a0_1 fun z=>aI .u8 a0_2 fun ag=>aI .u8 a0_3 fun ah=>aI .u8 a0_4 fun ai=>aI .u8 a0_5 fun aj=>aI .u8 a0_6 fun ak=>aI .u8 a0_7 fun al=>aI .u8 a0_8 fun am=>aI .u8 a0_9 fun an=>aI .u8 a0_10 fun D=>aI .u8 a0_11 fun E=>aI .u8 a0_12 fun F=>aI .u8 a0_13 fun G=>aI .u8 a0_14 fun I=>aI .u8 a0_15 fun J=>aI .u8 a0_16 fun M=>aI .u8 a0_17 fun N=>aI .u8 a0_18 fun O=>aI .u8 a0_19 fun P=>aI .u8 a0_20 fun Q=>aI .u8 a0_21 fun R=>aI .u8 a0_22 fun S=>aI .u8 a0_23 fun U=>aI .u8 a0_24 fun W=>aI .u8 a0_25 fun X=>aI .u8 a0_26 fun Y=>aI .u8 a0_27 fun Z=>aI .u8 a0_28 fun aa=>aI .u8 a0_29 fun ab=>aI .u8 a0_30 fun ac=>aI .u8 a0_31 fun ad=>aO0 0 5 a0_32 fun C=>aL 5 a0_33 fun ae=>aG a1 fun p1=>aI .u32 a2 fun p2=>zP β L af z ag ah ai aj ak al am an D E F G I J M N O P Q R S U W X Y Z aa ab ac ad C ae p1 p2 A (fun p0_0_0 p0_0_1 p0_0_2 p0_0_3 p0_0_4 p0_0_5 p0_0_6 p0_0_7 p0_0_8 p0_0_9 p0_0_10 p0_0_11 p0_0_12 p0_0_13 p0_0_14 p0_0_15 p0_0_16 p0_0_17 p0_0_18 p0_0_19 p0_0_20 p0_0_21 p0_0_22 p0_0_23 p0_0_24 p0_0_25 p0_0_26 p0_0_27 p0_0_28 p0_0_29 p0_0_30 p0_0_31 p0_0_32l p0_0_33 z A b1=>k (V.tup [(V.st [(Qa p0_0_0),(Qa p0_0_1),(Qa p0_0_2),(Qa p0_0_3),(Qa p0_0_4),(Qa p0_0_5),(Qa p0_0_6),(Qa p0_0_7),(Qa p0_0_8),(Qa p0_0_9),(Qa p0_0_10),(Qa p0_0_11),(Qa p0_0_12),(Qa p0_0_13),(Qa p0_0_14),(Qa p0_0_15),(Qa p0_0_16),(Qa p0_0_17),(Qa p0_0_18),(Qa p0_0_19),(Qa p0_0_20),(Qa p0_0_21),(Qa p0_0_22),(Qa p0_0_23),(Qa p0_0_24),(Qa p0_0_25),(Qa p0_0_26),(Qa p0_0_27),(Qa p0_0_28),(Qa p0_0_29),(Qa p0_0_30),(Qa p0_0_31),(V.own 1 0 p0_0_32l 5),(V.sl 5 p0_0_33)]),(V.sc (.bool z))]) [(.dead A),(.live true b1)]) (fun p0_0_0 p0_0_1 p0_0_2 p0_0_3 p0_0_4 p0_0_5 p0_0_6 p0_0_7 p0_0_8 p0_0_9 p0_0_10 p0_0_11 p0_0_12 p0_0_13 p0_0_14 p0_0_15 p0_0_16 p0_0_17 p0_0_18 p0_0_19 p0_0_20 p0_0_21 p0_0_22 p0_0_23 p0_0_24 p0_0_25 p0_0_26 p0_0_27 p0_0_28 p0_0_29 p0_0_30 p0_0_31 p0_0_32l p0_0_33 z A=>k (V.tup [(V.st [(Qa p0_0_0),(Qa p0_0_1),(Qa p0_0_2),(Qa p0_0_3),(Qa p0_0_4),(Qa p0_0_5),(Qa p0_0_6),(Qa p0_0_7),(Qa p0_0_8),(Qa p0_0_9),(Qa p0_0_10),(Qa p0_0_11),(Qa p0_0_12),(Qa p0_0_13),(Qa p0_0_14),(Qa p0_0_15),(Qa p0_0_16),(Qa p0_0_17),(Qa p0_0_18),(Qa p0_0_19),(Qa p0_0_20),(Qa p0_0_21),(Qa p0_0_22),(Qa p0_0_23),(Qa p0_0_24),(Qa p0_0_25),(Qa p0_0_26),(Qa p0_0_27),(Qa p0_0_28),(Qa p0_0_29),(Qa p0_0_30),(Qa p0_0_31),(V.own 0 0 p0_0_32l 5),(V.sl 5 p0_0_33)]),(V.sc (.bool z))]) [(.live true A)])
 | _,_=>none
theorem ztY(L:Nat)(β:Type)(args:List V)(bor:Bor)(k:KK β)(r:β)(h:zgI zP L β args bor k=some r):yl zaf (zag yb yc ya za L) L zd6 args bor k=some r:=by
 unfold zgI at h
 split at h
 ·have q:=yo h; clear h; obtain ⟨ad,rfl,h⟩:=q
  have q:=yo h; clear h; obtain ⟨ae,rfl,h⟩:=q
  have q:=yo h; clear h; obtain ⟨af,rfl,h⟩:=q
  have q:=yo h; clear h; obtain ⟨ag,rfl,h⟩:=q
  have q:=yo h; clear h; obtain ⟨ah,rfl,h⟩:=q
  have q:=yo h; clear h; obtain ⟨ai,rfl,h⟩:=q
  have q:=yo h; clear h; obtain ⟨aj,rfl,h⟩:=q
  have q:=yo h; clear h; obtain ⟨ak,rfl,h⟩:=q
  have q:=yo h; clear h; obtain ⟨al,rfl,h⟩:=q
  have q:=yo h; clear h; obtain ⟨am,rfl,h⟩:=q
  have q:=yo h; clear h; obtain ⟨A,rfl,h⟩:=q
  have q:=yo h; clear h; obtain ⟨C,rfl,h⟩:=q
  have q:=yo h; clear h; obtain ⟨D,rfl,h⟩:=q
  have q:=yo h; clear h; obtain ⟨E,rfl,h⟩:=q
  have q:=yo h; clear h; obtain ⟨F,rfl,h⟩:=q
  have q:=yo h; clear h; obtain ⟨G,rfl,h⟩:=q
  have q:=yo h; clear h; obtain ⟨I,rfl,h⟩:=q
  have q:=yo h; clear h; obtain ⟨J,rfl,h⟩:=q
  have q:=yo h; clear h; obtain ⟨M,rfl,h⟩:=q
  have q:=yo h; clear h; obtain ⟨N,rfl,h⟩:=q
  have q:=yo h; clear h; obtain ⟨O,rfl,h⟩:=q
  have q:=yo h; clear h; obtain ⟨P,rfl,h⟩:=q
  have q:=yo h; clear h; obtain ⟨Q,rfl,h⟩:=q
  have q:=yo h; clear h; obtain ⟨R,rfl,h⟩:=q
  have q:=yo h; clear h; obtain ⟨S,rfl,h⟩:=q
  have q:=yo h; clear h; obtain ⟨U,rfl,h⟩:=q
  have q:=yo h; clear h; obtain ⟨W,rfl,h⟩:=q
  have q:=yo h; clear h; obtain ⟨X,rfl,h⟩:=q
  have q:=yo h; clear h; obtain ⟨Y,rfl,h⟩:=q
  have q:=yo h; clear h; obtain ⟨Z,rfl,h⟩:=q
  have q:=yo h; clear h; obtain ⟨aa,rfl,h⟩:=q
  have q:=yo h; clear h; obtain ⟨ab,rfl,h⟩:=q
  have q:=zhd h; clear h; obtain ⟨z,rfl,h⟩:=q
  have q:=zaF h; clear h; obtain ⟨ac,rfl,h⟩:=q
  have q:=xM h; clear h; obtain ⟨p1,rfl,h⟩:=q
  have q:=yo h; clear h; obtain ⟨p2,rfl,h⟩:=q
  exact (zua yb yc ya za L ad ae af ag ah ai aj ak al am A C D E F G I J M N O P Q R S U W X Y Z aa ab z ac p1 p2 _ k).trans h
 ·cases h
def zjd:CF:=⟨78,[.cellS 4 34 true,.tmpP 5],(.seq (.reg [oo 2 (.box false (tq 0)),Qv 3 (tq 1),oo 4 (.alloc false (rp 32 (.sc (.int .u8 0)) (rp 2 (.gs 5 []) []))),Qh 5 (Qf 0)]) (.seq (.reg [Qk 12 34 (tq 2),Qk 13 3 (tq 3),oo 14 (.call 397 [((tq 12),1),(Qw 13)] [19,22]),Qi 11 (tq 14),Qq 15 (tq 11) 0,Qq 16 (tq 11) 1,Qq 17 (tq 11) 2,oo 6 (.alloc true [(.sc (.int .i64 0)),(.sc (.int .u32 0)),(.sc (.int .u16 0)),(.sc (.int .u32 0)),(.sc (.int .u32 0))]),Qm 34 (tq 2) (tq 15),Qm 5 (tq 6) (tq 16),Qh 7 (tq 17)]) (.seq (.seq (.reg [Qh 18 (tq 7),Qp 19 .neq (tq 18) (Qf 0)]) (.cond (tq 19) (.seq (.reg [oo 20 (.build (rp 32 (.sc (.int .u8 0)) (rp 2 (.sl 5 []) [])) []),Qh 21 (tq 7),Qm 34 (tq 4) (tq 20),Qh 5 (tq 21)]) .ret) .skip)) (.seq (.reg [Ql 22 0 (tq 2),Qk 23 32 (tq 22),Ql 24 1 (tq 6),Qk 25 3 (tq 24),Qs 26 299 [(Qw 23),(Qw 25)],Ql 27 0 (tq 6),Qm 1 (tq 27) (tq 26)]) (.seq (.reg [Ql 29 33 (tq 2),Qj 30 1 (tq 29),Ql 31 0 (tq 6),Qj 32 1 (tq 31),Qs 33 398 [((tq 30),2),((tq 32),2)],Qi 28 (tq 33),Qq 34 (tq 28) 0,Qq 35 (tq 28) 1,Qh 8 (tq 34),Qh 9 (tq 35)]) (.seq (.seq (.reg [Qh 36 (tq 9),Qh 37 (tq 8),Qp 38 .sub (tq 36) (tq 37),Qp 39 .lss (tq 38) (Qf 8)]) (.cond (tq 39) (.seq (.reg [Ql 40 33 (tq 2),Qj 41 1 (tq 40),Qh 42 (tq 9),Qk 43 5 (tq 6),⟨(some 44),true,none,.buildSlice 5 1 [(.sc (.int .i64 0)),(.sc (.int .u32 0)),(.sc (.int .u16 0)),(.sc (.int .u32 0)),(.sc (.int .u32 0))] [(0,5,(tq 43))]⟩,Qs 45 399 [((tq 41),2),((tq 42),2),((tq 44),2)],Ql 46 33 (tq 2),Qm 1 (tq 46) (tq 45)]) (.seq (.reg [oo 47 (.load true 34 (tq 2) true),Qm 34 (tq 4) (tq 47),Qh 5 (Qf 0)]) .ret)) .skip)) (.seq (.reg [Ql 48 33 (tq 2),Qj 49 1 (tq 48),Qh 50 (tq 8),Qo 51 5 (tq 49) (tq 50),Ql 52 1 (tq 51),Qk 53 3 (tq 52),oo 10 (.alloc true [(.sc (.int .u32 0)),(.sc (.int .u16 0)),(.sc (.int .u32 0))]),Qm 3 (tq 10) (tq 53)]) (.seq (.reg [Ql 54 33 (tq 2),Qj 55 1 (tq 54),Qh 56 (tq 8),Qh 57 (tq 8),Qp 58 .add (tq 57) (Qf 1),Qs 59 400 [((tq 55),2),((tq 56),2),((tq 58),2)],Ql 60 33 (tq 2),Qm 1 (tq 60) (tq 59)]) (.seq (.reg [Ql 61 33 (tq 2),Qj 62 1 (tq 61),Qh 63 (tq 9),Qp 64 .sub (tq 63) (Qf 1),Qk 65 5 (tq 6),⟨(some 66),true,none,.buildSlice 5 1 [(.sc (.int .i64 0)),(.sc (.int .u32 0)),(.sc (.int .u16 0)),(.sc (.int .u32 0)),(.sc (.int .u32 0))] [(0,5,(tq 65))]⟩,Qs 67 399 [((tq 62),2),((tq 64),2),((tq 66),2)],Ql 68 33 (tq 2),Qm 1 (tq 68) (tq 67)]) (.seq (.dreg [] [(oo 70 (.load true 34 (tq 2) true),ql 2 [10] []),(Qk 71 3 (tq 10),ql 10 [2] []),(Qk 72 3 (tq 10),ql 10 [2] []),(Qs 73 269 [(Qw 72)],qc [2,10] []),(oo 74 (.call 396 [((tq 70),3),((tq 71),2),((tq 73),2)] [24,27]),q0),(Qi 69 (tq 74),q0),(Qq 75 (tq 69) 0,q0),(Qq 76 (tq 69) 1,q0),(Qm 34 (tq 2) (tq 75),q0)]) (.seq (.reg [oo 77 (.load true 34 (tq 2) true),Qm 34 (tq 4) (tq 77),Qh 5 (Qf 0)]) .ret)))))))))))⟩
def zqI:Hint:=⟨[(1,3),(5,4),(5,5),(7,5),(8,0),(10,5),(11,6),(12,0),(12,4),(12,5),(13,0)],[(7,4),(11,5)],[none,none,none,none,none],[],[(1,2,[19,22]),(12,4,[24,27])],true,true,[]⟩
def zm4:Nat→Sh:=yT [(2,(.row [(.int .u8),(.int .u8),(.int .u8),(.int .u8),(.int .u8),(.int .u8),(.int .u8),(.int .u8),(.int .u8),(.int .u8),(.int .u8),(.int .u8),(.int .u8),(.int .u8),(.int .u8),(.int .u8),(.int .u8),(.int .u8),(.int .u8),(.int .u8),(.int .u8),(.int .u8),(.int .u8),(.int .u8),(.int .u8),(.int .u8),(.int .u8),(.int .u8),(.int .u8),(.int .u8),(.int .u8),(.int .u8),(.sl 5),(.sl 5)])),(32,(.int .i64))]
def znr(zE:zeb)(zq:zbL)(yS:zfV)(zt:zba)(yc:yE)(ya:xg)(za:zg)(zj:zaz)(zP:zgM)(L:Nat):CBC:=(xy 396 (zgI zP L) (xy 269 (zdM zj L) (zxT 400 [8,1,1,20] (zZ za L) (xy 399 (zaj ya L) (zxT 398 [8,1,20] (zem yc L) (zxT 400 [6,1,1] (zbe zt L) (zxT 398 [6,1] (zga yS L) (xy 299 (zdC zq L) (xy 397 (zhE zE L) noC)))))))))
def zkE{β:Type}(zE:zeb)(zq:zbL)(yS:zfV)(zt:zba)(yc:yE)(ya:xg)(za:zg)(zj:zaz)(zP:zgM)(L:Nat)(z p1:List V)(E:List V→Int→Option β):Option β:=chk (XI z=34) (cI .u8 z 0 fun v0=>cI .u8 z 1 fun v1=>cI .u8 z 2 fun v2=>cI .u8 z 3 fun v3=>cI .u8 z 4 fun v4=>cI .u8 z 5 fun v5=>cI .u8 z 6 fun v6=>cI .u8 z 7 fun v7=>cI .u8 z 8 fun v8=>cI .u8 z 9 fun v9=>cI .u8 z 10 fun co=>cI .u8 z 11 fun cp=>cI .u8 z 12 fun cq=>cI .u8 z 13 fun cr=>cI .u8 z 14 fun ct=>cI .u8 z 15 fun cu=>cI .u8 z 16 fun cv=>cI .u8 z 17 fun cw=>cI .u8 z 18 fun cx=>cI .u8 z 19 fun cy=>cI .u8 z 20 fun cz=>cI .u8 z 21 fun cA=>cI .u8 z 22 fun cC=>cI .u8 z 23 fun cD=>cI .u8 z 24 fun cE=>cI .u8 z 25 fun cF=>cI .u8 z 26 fun cH=>cI .u8 z 27 fun cJ=>cI .u8 z 28 fun cM=>cI .u8 z 29 fun cN=>cI .u8 z 30 fun cO=>cI .u8 z 31 fun cP=>cL 5 z 32 fun cQ=>cL 5 z 33 fun cR=>chk (0+3≤(XI p1)) (zE β L [(Qa v0),(Qa v1),(Qa v2),(Qa v3),(Qa v4),(Qa v5),(Qa v6),(Qa v7),(Qa v8),(Qa v9),(Qa co),(Qa cp),(Qa cq),(Qa cr),(Qa ct),(Qa cu),(Qa cv),(Qa cw),(Qa cx),(Qa cy),(Qa cz),(Qa cA),(Qa cC),(Qa cD),(Qa cE),(Qa cF),(Qa cH),(Qa cJ),(Qa cM),(Qa cN),(Qa cO),(Qa cP),(V.sl 5 cQ),(V.sl 5 cR)] (XK 3 p1) (fun cU cV cW cX cY cZ c4 c5 c6 c7 c8 c9 da db dc dd de dg dh di dj dk dl dm dn dp dq dr ds dt du dv dO ah aQ aR=>chk ((XI aQ)=5∧0+5≤5) (lt (xd [(Qe (0:Int)),(Qc (0:Int)),(Qb (0:Int)),(Qc (0:Int)),(Qc (0:Int))] 0 aQ) fun af=>ifb ((aR:Int) != (0:Int)) (E (We 32 (Qa (0:Int))++[(V.sl 5 ([]:List (List V))),(V.sl 5 ([]:List (List V)))]) aR) (chk (1+3≤(XI af)) (zq β L [(Qa cU),(Qa cV),(Qa cW),(Qa cX),(Qa cY),(Qa cZ),(Qa c4),(Qa c5),(Qa c6),(Qa c7),(Qa c8),(Qa c9),(Qa da),(Qa db),(Qa dc),(Qa dd),(Qa de),(Qa dg),(Qa dh),(Qa di),(Qa dj),(Qa dk),(Qa dl),(Qa dm),(Qa dn),(Qa dp),(Qa dq),(Qa dr),(Qa ds),(Qa dt),(Qa du),(Qa dv)] (XK 3 (XL 1 af)) (fun dw=>chk (1=1∧0+1≤(XI af)) (lt (xd af 0 [(Qe dw)]) fun M=>cI .i64 M 0 fun dx=>yS β L ah dx (fun ag aT=>lt (QF .i64 ((aT:Int)-ag)) fun dy=>ifb (decide (dy<(8:Int))) (chk (0+5≤(XI M)) (chk ((XI (XK 5 M))=5∧0+5≤5) (none))) (idx ah ag fun aU=>chk ((XI (XK 3 (XL 1 aU)))=3∧0+3≤3) (lt (xd [(Qc (0:Int)),(Qb (0:Int)),(Qc (0:Int))] 0 (XK 3 (XL 1 aU))) fun dP=>lt (QF .i64 ((ag:Int)+(1:Int))) fun dz=>zt β L ah ag dz (fun dQ=>lt (QF .i64 ((aT:Int)-(1:Int))) fun dR=>chk (0+5≤(XI M)) (chk ((XI (XK 5 M))=5∧0+5≤5) (none)))))))))))) (fun ai aj ak al am an ao ap aq ar au av aw ax ay az aC aD N O P Q R S U W X Y Z aa ab ac aE F aH aJ G aK=>chk ((XI aH)=5∧0+5≤5) (lt (xd [(Qe (0:Int)),(Qc (0:Int)),(Qb (0:Int)),(Qc (0:Int)),(Qc (0:Int))] 0 aH) fun I=>ifb ((aJ:Int) != (0:Int)) (E (We 32 (Qa (0:Int))++[(V.sl 5 ([]:List (List V))),(V.sl 5 ([]:List (List V)))]) aJ) (chk (1+3≤(XI I)) (zq β L [(Qa ai),(Qa aj),(Qa ak),(Qa al),(Qa am),(Qa an),(Qa ao),(Qa ap),(Qa aq),(Qa ar),(Qa au),(Qa av),(Qa aw),(Qa ax),(Qa ay),(Qa az),(Qa aC),(Qa aD),(Qa N),(Qa O),(Qa P),(Qa Q),(Qa R),(Qa S),(Qa U),(Qa W),(Qa X),(Qa Y),(Qa Z),(Qa aa),(Qa ab),(Qa ac)] (XK 3 (XL 1 I)) (fun aW=>chk (1=1∧0+1≤(XI I)) (lt (xd I 0 [(Qe aW)]) fun A=>cI .i64 A 0 fun aX=>yc β L F aX aK (fun C ad D=>chk ([(XI D)]=[(XI aK)]) (lt (QF .i64 ((ad:Int)-C)) fun aY=>ifb (decide (aY<(8:Int))) (chk (0+5≤(XI A)) (chk ((XI (XK 5 A))=5∧0+5≤5) (ya β L F ad 1 D (XM (ye 5 1 (xd [(Qe (0:Int)),(Qc (0:Int)),(Qb (0:Int)),(Qc (0:Int)),(Qc (0:Int))] 0 (XK 5 A)))) (fun aZ a0 a1=>chk ([a0,(XI a1)]=[(XI D),(XI (XM (ye 5 1 (xd [(Qe (0:Int)),(Qc (0:Int)),(Qb (0:Int)),(Qc (0:Int)),(Qc (0:Int))] 0 (XK 5 A)))))]) (E [(Qa ai),(Qa aj),(Qa ak),(Qa al),(Qa am),(Qa an),(Qa ao),(Qa ap),(Qa aq),(Qa ar),(Qa au),(Qa av),(Qa aw),(Qa ax),(Qa ay),(Qa az),(Qa aC),(Qa aD),(Qa N),(Qa O),(Qa P),(Qa Q),(Qa R),(Qa S),(Qa U),(Qa W),(Qa X),(Qa Y),(Qa Z),(Qa aa),(Qa ab),(Qa ac),(V.sl 5 (ye 5 aE G)),(V.sl 5 aZ)] (0:Int)))))) (chk (0≤C∧C<((F:Nat):Int)) (chk (((0+((XJ C)*5))+1)+3≤(XI D)) (chk ((XI (XK 3 (XL ((0+((XJ C)*5))+1) D)))=3∧0+3≤3) (lt (xd [(Qc (0:Int)),(Qb (0:Int)),(Qc (0:Int))] 0 (XK 3 (XL ((0+((XJ C)*5))+1) D))) fun J=>lt (QF .i64 ((C:Int)+(1:Int))) fun a2=>za β L F C a2 D (fun a3 ae=>chk ([(XI ae)]=[(XI D)]) (lt (QF .i64 ((ad:Int)-(1:Int))) fun a4=>chk (0+5≤(XI A)) (chk ((XI (XK 5 A))=5∧0+5≤5) (ya β L a3 a4 1 ae (XM (ye 5 1 (xd [(Qe (0:Int)),(Qc (0:Int)),(Qb (0:Int)),(Qc (0:Int)),(Qc (0:Int))] 0 (XK 5 A)))) (fun a5 a6 a7=>chk ([a6,(XI a7)]=[(XI ae),(XI (XM (ye 5 1 (xd [(Qe (0:Int)),(Qc (0:Int)),(Qb (0:Int)),(Qc (0:Int)),(Qc (0:Int))] 0 (XK 5 A)))))]) (chk (0+3≤(XI J)) (chk (0+3≤(XI J)) (zj β L (XK 3 J) (fun a8=>zP β L ai aj ak al am an ao ap aq ar au av aw ax ay az aC aD N O P Q R S U W X Y Z aa ab ac aE a5 (XK 3 J) a8 G (fun a9 ba bb bc bd be bf bg bh bi bj bk bm bn bo bp bq br bt bu bv bw bz bC bD bE bF bG bH bI bJ bK bL bM dM bN bO=>chk ([bN]=[(XI G)]) (E [(Qa a9),(Qa ba),(Qa bb),(Qa bc),(Qa bd),(Qa be),(Qa bf),(Qa bg),(Qa bh),(Qa bi),(Qa bj),(Qa bk),(Qa bm),(Qa bn),(Qa bo),(Qa bp),(Qa bq),(Qa br),(Qa bt),(Qa bu),(Qa bv),(Qa bw),(Qa bz),(Qa bC),(Qa bD),(Qa bE),(Qa bF),(Qa bG),(Qa bH),(Qa bI),(Qa bJ),(Qa bK),(V.sl 5 (ye 5 bL bO)),(V.sl 5 bM)] (0:Int))) (fun bP bQ bR bS bT bU bV bW bX bY bZ b0 b1 b2 b3 b4 b5 b6 b7 b8 b9 ca cb cc cd ce cf cg ch ci cj ck cl cm dN aN=>chk ([(XI aN)]=[(XI G)]) (E [(Qa bP),(Qa bQ),(Qa bR),(Qa bS),(Qa bT),(Qa bU),(Qa bV),(Qa bW),(Qa bX),(Qa bY),(Qa bZ),(Qa b0),(Qa b1),(Qa b2),(Qa b3),(Qa b4),(Qa b5),(Qa b6),(Qa b7),(Qa b8),(Qa b9),(Qa ca),(Qa cb),(Qa cc),(Qa cd),(Qa ce),(Qa cf),(Qa cg),(Qa ch),(Qa ci),(Qa cj),(Qa ck),(V.sl 5 (ye 5 cl aN)),(V.sl 5 cm)] (0:Int))))))))))))))))))))))))))
theorem zx2{β:Type}(zE:zeb)(zq:zbL)(yS:zfV)(zt:zba)(yc:yE)(ya:xg)(za:zg)(zj:zaz)(zP:zgM)(L:Nat)(C D:List V)(k:KK β):yl zm4 (znr zE zq yS zt yc ya za zj zP L) L zjd [(V.agg C),(V.agg D)] [] k=zkE zE zq yS zt yc ya za zj zP L C D (fun z A=>k (V.tup [(V.agg z),(Qe A)]) []):=by kernel_rfl
abbrev zaw:=∀ (β:Type),Nat→List V→List V→(List V→Int→Option β)→Option β
def yk(β:Type)(L:Nat)(A C:List V)(z:List V→Int→Option β):Option β:=zkE zE zq yS zt yc ya za zj zP L A C z
def zkC(yk:zaw)(L:Nat)(β:Type)(args:List V)(bor:Bor)(k:KK β):Option β:=match args,bor with
 | [a0,a1],[]=>aG a0 fun C=>aG a1 fun D=>yk β L C D (fun z A=>k (V.tup [(V.agg z),(Qe A)]) [])
 | _,_=>none
theorem zxP(L:Nat)(β:Type)(args:List V)(bor:Bor)(k:KK β)(r:β)(h:zkC yk L β args bor k=some r):yl zm4 (znr zE zq yS zt yc ya za zj zP L) L zjd args bor k=some r:=by
 unfold zkC at h
 split at h
 ·have q:=xM h; clear h; obtain ⟨z,rfl,h⟩:=q
  have q:=xM h; clear h; obtain ⟨A,rfl,h⟩:=q
  exact (zx2 zE zq yS zt yc ya za zj zP L z A k).trans h
 ·cases h
def zkJ:CF:=⟨17,[.cellS 4 34 true,.tmpP 5],(.seq (.reg [oo 2 (.box false (tq 0)),Qv 3 (tq 1),oo 4 (.alloc false (rp 32 (.sc (.int .u8 0)) (rp 2 (.gs 5 []) []))),Qh 5 (Qf 0)]) (.seq (.reg [Qk 9 34 (tq 2),Qk 10 3 (tq 3),oo 11 (.call 397 [((tq 9),1),(Qw 10)] [9,10]),Qi 8 (tq 11),Qq 12 (tq 8) 0,Qq 13 (tq 8) 1,Qq 14 (tq 8) 2,oo 6 (.alloc true [(.sc (.int .i64 0)),(.sc (.int .u32 0)),(.sc (.int .u16 0)),(.sc (.int .u32 0)),(.sc (.int .u32 0))]),Qm 34 (tq 2) (tq 12),Qm 5 (tq 6) (tq 13),Qh 7 (tq 14)]) (.seq (.reg [oo 15 (.load true 34 (tq 2) true),Qh 16 (tq 7),Qm 34 (tq 4) (tq 15),Qh 5 (tq 16)]) .ret)))⟩
def zrB:Hint:=⟨[(1,3),(2,0)],[],[none],[],[(1,2,[9,10])],true,true,[]⟩
def zoy:Nat→Sh:=yT [(2,(.row [(.int .u8),(.int .u8),(.int .u8),(.int .u8),(.int .u8),(.int .u8),(.int .u8),(.int .u8),(.int .u8),(.int .u8),(.int .u8),(.int .u8),(.int .u8),(.int .u8),(.int .u8),(.int .u8),(.int .u8),(.int .u8),(.int .u8),(.int .u8),(.int .u8),(.int .u8),(.int .u8),(.int .u8),(.int .u8),(.int .u8),(.int .u8),(.int .u8),(.int .u8),(.int .u8),(.int .u8),(.int .u8),(.sl 5),(.sl 5)]))]
def zn4(zE:zeb)(L:Nat):CBC:=(xy 397 (zhE zE L) noC)
def zlT{β:Type}(zE:zeb)(L:Nat)(z P:List V)(A:List V→Int→Option β):Option β:=chk (XI z=34) (cI .u8 z 0 fun v0=>cI .u8 z 1 fun v1=>cI .u8 z 2 fun v2=>cI .u8 z 3 fun v3=>cI .u8 z 4 fun v4=>cI .u8 z 5 fun v5=>cI .u8 z 6 fun v6=>cI .u8 z 7 fun v7=>cI .u8 z 8 fun v8=>cI .u8 z 9 fun v9=>cI .u8 z 10 fun Q=>cI .u8 z 11 fun R=>cI .u8 z 12 fun S=>cI .u8 z 13 fun U=>cI .u8 z 14 fun W=>cI .u8 z 15 fun X=>cI .u8 z 16 fun Y=>cI .u8 z 17 fun Z=>cI .u8 z 18 fun aa=>cI .u8 z 19 fun ab=>cI .u8 z 20 fun ac=>cI .u8 z 21 fun ad=>cI .u8 z 22 fun ae=>cI .u8 z 23 fun af=>cI .u8 z 24 fun ag=>cI .u8 z 25 fun ah=>cI .u8 z 26 fun ai=>cI .u8 z 27 fun aj=>cI .u8 z 28 fun ak=>cI .u8 z 29 fun al=>cI .u8 z 30 fun am=>cI .u8 z 31 fun an=>cL 5 z 32 fun ao=>cL 5 z 33 fun ap=>chk (0+3≤(XI P)) (zE β L [(Qa v0),(Qa v1),(Qa v2),(Qa v3),(Qa v4),(Qa v5),(Qa v6),(Qa v7),(Qa v8),(Qa v9),(Qa Q),(Qa R),(Qa S),(Qa U),(Qa W),(Qa X),(Qa Y),(Qa Z),(Qa aa),(Qa ab),(Qa ac),(Qa ad),(Qa ae),(Qa af),(Qa ag),(Qa ah),(Qa ai),(Qa aj),(Qa ak),(Qa al),(Qa am),(Qa an),(V.sl 5 ao),(V.sl 5 ap)] (XK 3 P) (fun aq ar au av aw ax ay az aC aD aE aH aJ aK aN aQ aR aT aU aW aX aY aZ a0 a1 a2 a3 a4 a5 a6 a7 a8 a9 ba D bb=>chk ((XI D)=5∧0+5≤5) (lt (xd [(Qe (0:Int)),(Qc (0:Int)),(Qb (0:Int)),(Qc (0:Int)),(Qc (0:Int))] 0 D) fun bW=>A [(Qa aq),(Qa ar),(Qa au),(Qa av),(Qa aw),(Qa ax),(Qa ay),(Qa az),(Qa aC),(Qa aD),(Qa aE),(Qa aH),(Qa aJ),(Qa aK),(Qa aN),(Qa aQ),(Qa aR),(Qa aT),(Qa aU),(Qa aW),(Qa aX),(Qa aY),(Qa aZ),(Qa a0),(Qa a1),(Qa a2),(Qa a3),(Qa a4),(Qa a5),(Qa a6),(Qa a7),(Qa a8),(V.sl 5 a9),(V.sl 5 ba)] bb)) (fun bc bd be bf bg bh bi bj bk bm bn bo bp bq br bt bu bv bw bz bC bD bE bF bG bH bI bJ bK E F G I J C M N O=>chk ((XI C)=5∧0+5≤5) (lt (xd [(Qe (0:Int)),(Qc (0:Int)),(Qb (0:Int)),(Qc (0:Int)),(Qc (0:Int))] 0 C) fun bV=>A [(Qa bc),(Qa bd),(Qa be),(Qa bf),(Qa bg),(Qa bh),(Qa bi),(Qa bj),(Qa bk),(Qa bm),(Qa bn),(Qa bo),(Qa bp),(Qa bq),(Qa br),(Qa bt),(Qa bu),(Qa bv),(Qa bw),(Qa bz),(Qa bC),(Qa bD),(Qa bE),(Qa bF),(Qa bG),(Qa bH),(Qa bI),(Qa bJ),(Qa bK),(Qa E),(Qa F),(Qa G),(V.sl 5 (ye 5 I N)),(V.sl 5 (ye 5 J O))] M))))
theorem zyC{β:Type}(zE:zeb)(L:Nat)(C D:List V)(k:KK β):yl zoy (zn4 zE L) L zkJ [(V.agg C),(V.agg D)] [] k=zlT zE L C D (fun z A=>k (V.tup [(V.agg z),(Qe A)]) []):=by kernel_rfl
abbrev zaQ:=∀ (β:Type),Nat→List V→List V→(List V→Int→Option β)→Option β
def xl(β:Type)(L:Nat)(A C:List V)(z:List V→Int→Option β):Option β:=zlT zE L A C z
def zlW(xl:zaQ)(L:Nat)(β:Type)(args:List V)(bor:Bor)(k:KK β):Option β:=match args,bor with
 | [a0,a1],[]=>aG a0 fun C=>aG a1 fun D=>xl β L C D (fun z A=>k (V.tup [(V.agg z),(Qe A)]) [])
 | _,_=>none
theorem zyv(L:Nat)(β:Type)(args:List V)(bor:Bor)(k:KK β)(r:β)(h:zlW xl L β args bor k=some r):yl zoy (zn4 zE L) L zkJ args bor k=some r:=by
 unfold zlW at h
 split at h
 ·have q:=xM h; clear h; obtain ⟨z,rfl,h⟩:=q
  have q:=xM h; clear h; obtain ⟨A,rfl,h⟩:=q
  exact (zyC zE L z A k).trans h
 ·cases h
def zpc:CF:=⟨27,[.cellS 4 34 true,.tmpP 5],(.seq (.reg [Qv 2 (tq 0),Qv 3 (tq 1),oo 4 (.alloc false (rp 32 (.sc (.int .u8 0)) (rp 2 (.gs 5 []) []))),Qh 5 (Qf 0)]) (.seq (.seq (.reg [Qk 8 34 (tq 2),Qs 9 281 [((tq 8),1)],Qt 10 (tq 9)]) (.cond (tq 10) (.seq (.reg [oo 11 (.build (rp 32 (.sc (.int .u8 0)) (rp 2 (.sl 5 []) [])) []),Qm 34 (tq 4) (tq 11),Qh 5 (Qf 6)]) .ret) .skip)) (.seq (.reg [Ql 12 32 (tq 2),Qj 13 1 (tq 12),Qk 14 3 (tq 3),Qs 15 287 [((tq 13),2),((tq 14),2)],Qh 6 (tq 15)]) (.seq (.seq (.reg [Qh 16 (tq 6),Qp 17 .lss (tq 16) (Qf 0)]) (.cond (tq 17) (.seq (.reg [oo 18 (.build (rp 32 (.sc (.int .u8 0)) (rp 2 (.sl 5 []) [])) []),Qm 34 (tq 4) (tq 18),Qh 5 (Qf 9)]) .ret) .skip)) (.seq (.reg [Qk 19 34 (tq 2),oo 20 (.call 288 [((tq 19),1)] [10,12]),oo 7 (.alloc false (rp 32 (.sc (.int .u8 0)) (rp 2 (.gs 5 []) []))),Qm 34 (tq 7) (tq 20)]) (.seq (.reg [Ql 21 32 (tq 7),Qj 22 1 (tq 21),Qh 23 (tq 6),Qs 24 289 [((tq 22),2),((tq 23),2)],Ql 25 32 (tq 7),Qm 1 (tq 25) (tq 24)]) (.seq (.reg [oo 26 (.load true 34 (tq 7) true),Qm 34 (tq 4) (tq 26),Qh 5 (Qf 0)]) .ret)))))))⟩
def zva:Hint:=⟨[(0,0),(3,3),(7,3),(8,0)],[],[none,none,none,none,none],[],[(6,1,[10,12])],true,true,[]⟩
def zsY:Nat→Sh:=yT [(13,(.sl 5))]
def zsd(xp:zby)(xc:yH)(xe:zU)(yg:y9)(L:Nat):CBC:=(xy 289 (zgg yg L) (xy 288 (zeW xe L) (xy 287 (zgy xc L) (xy 281 (zfz xp L) noC))))
def zqo{β:Type}(xp:zby)(xc:yH)(xe:zU)(yg:y9)(L:Nat)(A D:List V)(z:List V→Int→Option β):Option β:=chk (0+34≤(XI A)) (xp β L (Xt V.dem (XK 34 A)) (fun v0=>ifb (!v0) (z (We 32 (Qa (0:Int))++[(V.sl 5 ([]:List (List V))),(V.sl 5 ([]:List (List V)))]) (6:Int)) (cLd 5 A 32 fun v1=>chk (0+3≤(XI D)) (xc β L v1 (XK 3 D) (fun E=>ifb (decide (E<(0:Int))) (z (We 32 (Qa (0:Int))++[(V.sl 5 ([]:List (List V))),(V.sl 5 ([]:List (List V)))]) (9:Int)) (chk (0+34≤(XI A)) (xe β L (Xt V.dem (XK 34 A)) (fun v3 v4 v5 v6 v7 v8 v9 F G I J M N O P Q R S U W X Y Z aa ab ac ad ae af ag ah ai aj ak C al=>yg β L aj E C (fun am an=>chk ([(XI an)]=[(XI C)]) (z [(Qa v3),(Qa v4),(Qa v5),(Qa v6),(Qa v7),(Qa v8),(Qa v9),(Qa F),(Qa G),(Qa I),(Qa J),(Qa M),(Qa N),(Qa O),(Qa P),(Qa Q),(Qa R),(Qa S),(Qa U),(Qa W),(Qa X),(Qa Y),(Qa Z),(Qa aa),(Qa ab),(Qa ac),(Qa ad),(Qa ae),(Qa af),(Qa ag),(Qa ah),(Qa ai),(V.sl 5 am),(V.sl 5 (ye 5 ak al))] (0:Int)))))))))))
theorem zCd{β:Type}(xp:zby)(xc:yH)(xe:zU)(yg:y9)(L:Nat)(C D:List V)(k:KK β):yl zsY (zsd xp xc xe yg L) L zpc [(V.agg C),(V.agg D)] [] k=zqo xp xc xe yg L C D (fun z A=>k (V.tup [(V.agg z),(Qe A)]) []):=by kernel_rfl
abbrev zcd:=∀ (β:Type),Nat→List V→List V→(List V→Int→Option β)→Option β
def zx(β:Type)(L:Nat)(A C:List V)(z:List V→Int→Option β):Option β:=zqo xp xc xe yg L A C z
def zqr(zx:zcd)(L:Nat)(β:Type)(args:List V)(bor:Bor)(k:KK β):Option β:=match args,bor with
 | [a0,a1],[]=>aG a0 fun C=>aG a1 fun D=>zx β L C D (fun z A=>k (V.tup [(V.agg z),(Qe A)]) [])
 | _,_=>none
theorem zBN(L:Nat)(β:Type)(args:List V)(bor:Bor)(k:KK β)(r:β)(h:zqr zx L β args bor k=some r):yl zsY (zsd xp xc xe yg L) L zpc args bor k=some r:=by
 unfold zqr at h
 split at h
 ·have q:=xM h; clear h; obtain ⟨z,rfl,h⟩:=q
  have q:=xM h; clear h; obtain ⟨A,rfl,h⟩:=q
  exact (zCd xp xc xe yg L z A k).trans h
 ·cases h
def zjy:CF:=⟨39,[.cell 4 true 3,.tmp 5],(.seq (.reg [Qv 2 (tq 0),oo 4 (.alloc true [(.sc (.int .u32 0)),(.sc (.int .u16 0)),(.sc (.int .u32 0))]),Qh 5 (Qf 0)]) (.seq (.seq (.reg [Qk 8 34 (tq 2),Qs 9 275 [((tq 8),1)],Qt 10 (tq 9)]) (.cond (tq 10) (.seq (.reg [oo 11 (.build [(.sc (.int .u32 0)),(.sc (.int .u16 0)),(.sc (.int .u32 0))] []),Qm 3 (tq 4) (tq 11),Qh 5 (Qf 6)]) .ret) .skip)) (.seq (.dreg [] [(Ql 12 33 (tq 2),q0),(Qj 13 1 (tq 12),ql 2 [] []),(Ql 14 32 (tq 2),q0),(Qj 15 1 (tq 14),ql 2 [] []),(Qh 6 (tq 13),q0),(Qh 7 (tq 15),q0)]) (.seq (.seq (.reg [Qh 16 (tq 1),oo 17 (.bin .rem (tq 16) (.const (.sc (.int .u64 2)))),oo 18 (.bin .eql (tq 17) (.const (.sc (.int .u64 1))))]) (.cond (tq 18) (.reg [Qh 19 (tq 7),Qh 20 (tq 6),Qh 6 (tq 19),Qh 7 (tq 20)]) .skip)) (.seq (.seq (.reg [Qh 21 (tq 6),Qr 22 (tq 21),Qp 23 .eql (tq 22) (Qf 0)]) (.cond (tq 23) (.reg [Qh 24 (tq 7),Qh 6 (tq 24)]) .skip)) (.seq (.seq (.reg [Qh 25 (tq 6),Qr 26 (tq 25),Qp 27 .eql (tq 26) (Qf 0)]) (.cond (tq 27) (.seq (.reg [oo 28 (.build [(.sc (.int .u32 0)),(.sc (.int .u16 0)),(.sc (.int .u32 0))] []),Qm 3 (tq 4) (tq 28),Qh 5 (Qf 390)]) .ret) .skip)) (.seq (.reg [Qh 29 (tq 6),Qh 30 (tq 1),oo 31 (.bin .quo (tq 30) (.const (.sc (.int .u64 2)))),Qh 32 (tq 6),Qr 33 (tq 32),Qu 34 .u64 (tq 33),Qp 35 .rem (tq 31) (tq 34),Qo 36 5 (tq 29) (tq 35),Ql 37 1 (tq 36),Qk 38 3 (tq 37),Qm 3 (tq 4) (tq 38),Qh 5 (Qf 0)]) .ret)))))))⟩
def zqO:Hint:=⟨[(0,0)],[],[none,none,none,none,none,none,none],[],[],false,false,[]⟩
def znb:Nat→Sh:=yT [(13,(.sl 5)),(15,(.sl 5))]
def znl(xq:zbH)(L:Nat):CBC:=(xy 275 (zeR xq L) noC)
def zop{β:Type}(xq:zbH)(L:Nat)(E:List V)(D:Int)(z:List V→Int→Option β):Option β:=chk (0+34≤(XI E)) (xq β L (Xt V.dem (XK 34 E)) (fun v0=>ifb (!v0) (lt [(Qc (0:Int)),(Qb (0:Int)),(Qc (0:Int))] fun r1=>chk (0=0∧(XI r1)=3∧3≠0) (z r1 (6:Int))) (cLd 5 E 33 fun A=>cLd 5 E 32 fun C=>lt (XP D (2:Int)) fun x4=>ifb ((x4:Int)==(1:Int)) (ifb ((((XI C:Nat):Int):Int)==(0:Int)) (ifb ((((XI A:Nat):Int):Int)==(0:Int)) (lt [(Qc (0:Int)),(Qb (0:Int)),(Qc (0:Int))] fun r5=>chk (0=0∧(XI r5)=3∧3≠0) (z r5 (390:Int))) (lt (QF .u64 (XQ D (2:Int))) fun x6=>lt (QF .u64 ((XI A:Nat):Int)) fun W=>chk (W≠0) (lt (XP x6 W) fun x8=>idx A x8 fun X=>chk ((XI (XK 3 (XL 1 X)))=3∧0+3≤3) (lt (xd [(Qc (0:Int)),(Qb (0:Int)),(Qc (0:Int))] 0 (XK 3 (XL 1 X))) fun r10=>chk (0=0∧(XI r10)=3∧3≠0) (z r10 (0:Int)))))) (ifb ((((XI C:Nat):Int):Int)==(0:Int)) (lt [(Qc (0:Int)),(Qb (0:Int)),(Qc (0:Int))] fun F=>chk (0=0∧(XI F)=3∧3≠0) (z F (390:Int))) (lt (QF .u64 (XQ D (2:Int))) fun Y=>lt (QF .u64 ((XI C:Nat):Int)) fun G=>chk (G≠0) (lt (XP Y G) fun Z=>idx C Z fun I=>chk ((XI (XK 3 (XL 1 I)))=3∧0+3≤3) (lt (xd [(Qc (0:Int)),(Qb (0:Int)),(Qc (0:Int))] 0 (XK 3 (XL 1 I))) fun J=>chk (0=0∧(XI J)=3∧3≠0) (z J (0:Int))))))) (ifb ((((XI A:Nat):Int):Int)==(0:Int)) (ifb ((((XI C:Nat):Int):Int)==(0:Int)) (lt [(Qc (0:Int)),(Qb (0:Int)),(Qc (0:Int))] fun M=>chk (0=0∧(XI M)=3∧3≠0) (z M (390:Int))) (lt (QF .u64 (XQ D (2:Int))) fun aa=>lt (QF .u64 ((XI C:Nat):Int)) fun N=>chk (N≠0) (lt (XP aa N) fun ab=>idx C ab fun O=>chk ((XI (XK 3 (XL 1 O)))=3∧0+3≤3) (lt (xd [(Qc (0:Int)),(Qb (0:Int)),(Qc (0:Int))] 0 (XK 3 (XL 1 O))) fun P=>chk (0=0∧(XI P)=3∧3≠0) (z P (0:Int)))))) (ifb ((((XI A:Nat):Int):Int)==(0:Int)) (lt [(Qc (0:Int)),(Qb (0:Int)),(Qc (0:Int))] fun Q=>chk (0=0∧(XI Q)=3∧3≠0) (z Q (390:Int))) (lt (QF .u64 (XQ D (2:Int))) fun ac=>lt (QF .u64 ((XI A:Nat):Int)) fun R=>chk (R≠0) (lt (XP ac R) fun ad=>idx A ad fun S=>chk ((XI (XK 3 (XL 1 S)))=3∧0+3≤3) (lt (xd [(Qc (0:Int)),(Qb (0:Int)),(Qc (0:Int))] 0 (XK 3 (XL 1 S))) fun U=>chk (0=0∧(XI U)=3∧3≠0) (z U (0:Int))))))))))
theorem zxx{β:Type}(xq:zbH)(L:Nat)(C:List V)(D:Int)(k:KK β):yl znb (znl xq L) L zjy [(V.agg C),(Qd D)] [] k=zop xq L C D (fun z A=>k (V.tup [(V.agg z),(Qe A)]) []):=by kernel_rfl
abbrev zav:=∀ (β:Type),Nat→List V→Int→(List V→Int→Option β)→Option β
def zl(β:Type)(L:Nat)(A:List V)(C:Int)(z:List V→Int→Option β):Option β:=zop xq L A C z
def zkl(zl:zav)(L:Nat)(β:Type)(args:List V)(bor:Bor)(k:KK β):Option β:=match args,bor with
 | [a0,a1],[]=>aG a0 fun C=>aI .u64 a1 fun D=>zl β L C D (fun z A=>k (V.tup [(V.agg z),(Qe A)]) [])
 | _,_=>none
theorem zxj(L:Nat)(β:Type)(args:List V)(bor:Bor)(k:KK β)(r:β)(h:zkl zl L β args bor k=some r):yl znb (znl xq L) L zjy args bor k=some r:=by
 unfold zkl at h
 split at h
 ·have q:=xM h; clear h; obtain ⟨z,rfl,h⟩:=q
  have q:=yo h; clear h; obtain ⟨A,rfl,h⟩:=q
  exact (zxx xq L z A k).trans h
 ·cases h
def zmX:CF:=⟨40,[.cell 4 true 3,.tmp 5],(.seq (.reg [Qv 2 (tq 0),oo 4 (.alloc true [(.sc (.int .u32 0)),(.sc (.int .u16 0)),(.sc (.int .u32 0))]),Qh 5 (Qf 0)]) (.seq (.seq (.reg [Qk 8 34 (tq 2),Qs 9 281 [((tq 8),1)],Qt 10 (tq 9)]) (.cond (tq 10) (.seq (.reg [oo 11 (.build [(.sc (.int .u32 0)),(.sc (.int .u16 0)),(.sc (.int .u32 0))] []),Qm 3 (tq 4) (tq 11),Qh 5 (Qf 6)]) .ret) .skip)) (.seq (.dreg [] [(Ql 12 33 (tq 2),q0),(Qj 13 1 (tq 12),ql 2 [] []),(Ql 14 32 (tq 2),q0),(Qj 15 1 (tq 14),ql 2 [] []),(Qh 6 (tq 13),q0),(Qh 7 (tq 15),q0)]) (.seq (.seq (.reg [Qh 16 (tq 1),oo 17 (.bin .rem (tq 16) (.const (.sc (.int .u64 2)))),oo 18 (.bin .eql (tq 17) (.const (.sc (.int .u64 1))))]) (.cond (tq 18) (.reg [Qh 19 (tq 7),Qh 20 (tq 6),Qh 6 (tq 19),Qh 7 (tq 20)]) .skip)) (.seq (.seq (.reg [Qh 21 (tq 6),Qr 22 (tq 21),Qp 23 .eql (tq 22) (Qf 0)]) (.cond (tq 23) (.reg [Qh 24 (tq 7),Qh 6 (tq 24)]) .skip)) (.seq (.seq (.reg [Qh 25 (tq 6),Qr 26 (tq 25),Qp 27 .eql (tq 26) (Qf 0)]) (.cond (tq 27) (.seq (.reg [oo 28 (.build [(.sc (.int .u32 0)),(.sc (.int .u16 0)),(.sc (.int .u32 0))] []),Qm 3 (tq 4) (tq 28),Qh 5 (Qf 390)]) .ret) .skip)) (.seq (.reg [Qh 29 (tq 6),Qh 30 (tq 1),oo 31 (.bin .quo (tq 30) (.const (.sc (.int .u64 2)))),Qh 32 (tq 6),Qr 33 (tq 32),Qu 34 .u64 (tq 33),Qp 35 .rem (tq 31) (tq 34),Qu 36 .i64 (tq 35),Qo 37 5 (tq 29) (tq 36),Ql 38 1 (tq 37),Qk 39 3 (tq 38),Qm 3 (tq 4) (tq 39),Qh 5 (Qf 0)]) .ret)))))))⟩
def ztJ:Hint:=⟨[(0,0)],[],[none,none,none,none,none,none,none],[],[],false,false,[]⟩
def zre:Nat→Sh:=yT [(13,(.sl 5)),(15,(.sl 5))]
def zq2(xp:zby)(L:Nat):CBC:=(xy 281 (zfz xp L) noC)
def zsb{β:Type}(xp:zby)(L:Nat)(E:List V)(D:Int)(z:List V→Int→Option β):Option β:=chk (0+34≤(XI E)) (xp β L (Xt V.dem (XK 34 E)) (fun v0=>ifb (!v0) (lt [(Qc (0:Int)),(Qb (0:Int)),(Qc (0:Int))] fun r1=>chk (0=0∧(XI r1)=3∧3≠0) (z r1 (6:Int))) (cLd 5 E 33 fun A=>cLd 5 E 32 fun C=>lt (XP D (2:Int)) fun x4=>ifb ((x4:Int)==(1:Int)) (ifb ((((XI C:Nat):Int):Int)==(0:Int)) (ifb ((((XI A:Nat):Int):Int)==(0:Int)) (lt [(Qc (0:Int)),(Qb (0:Int)),(Qc (0:Int))] fun r5=>chk (0=0∧(XI r5)=3∧3≠0) (z r5 (390:Int))) (lt (QF .u64 (XQ D (2:Int))) fun x6=>lt (QF .u64 ((XI A:Nat):Int)) fun Y=>chk (Y≠0) (lt (XP x6 Y) fun x8=>lt (QF .i64 x8) fun x9=>idx A x9 fun F=>chk ((XI (XK 3 (XL 1 F)))=3∧0+3≤3) (lt (xd [(Qc (0:Int)),(Qb (0:Int)),(Qc (0:Int))] 0 (XK 3 (XL 1 F))) fun G=>chk (0=0∧(XI G)=3∧3≠0) (z G (0:Int)))))) (ifb ((((XI C:Nat):Int):Int)==(0:Int)) (lt [(Qc (0:Int)),(Qb (0:Int)),(Qc (0:Int))] fun I=>chk (0=0∧(XI I)=3∧3≠0) (z I (390:Int))) (lt (QF .u64 (XQ D (2:Int))) fun Z=>lt (QF .u64 ((XI C:Nat):Int)) fun J=>chk (J≠0) (lt (XP Z J) fun aa=>lt (QF .i64 aa) fun ab=>idx C ab fun M=>chk ((XI (XK 3 (XL 1 M)))=3∧0+3≤3) (lt (xd [(Qc (0:Int)),(Qb (0:Int)),(Qc (0:Int))] 0 (XK 3 (XL 1 M))) fun N=>chk (0=0∧(XI N)=3∧3≠0) (z N (0:Int))))))) (ifb ((((XI A:Nat):Int):Int)==(0:Int)) (ifb ((((XI C:Nat):Int):Int)==(0:Int)) (lt [(Qc (0:Int)),(Qb (0:Int)),(Qc (0:Int))] fun O=>chk (0=0∧(XI O)=3∧3≠0) (z O (390:Int))) (lt (QF .u64 (XQ D (2:Int))) fun ac=>lt (QF .u64 ((XI C:Nat):Int)) fun P=>chk (P≠0) (lt (XP ac P) fun ad=>lt (QF .i64 ad) fun ae=>idx C ae fun Q=>chk ((XI (XK 3 (XL 1 Q)))=3∧0+3≤3) (lt (xd [(Qc (0:Int)),(Qb (0:Int)),(Qc (0:Int))] 0 (XK 3 (XL 1 Q))) fun R=>chk (0=0∧(XI R)=3∧3≠0) (z R (0:Int)))))) (ifb ((((XI A:Nat):Int):Int)==(0:Int)) (lt [(Qc (0:Int)),(Qb (0:Int)),(Qc (0:Int))] fun S=>chk (0=0∧(XI S)=3∧3≠0) (z S (390:Int))) (lt (QF .u64 (XQ D (2:Int))) fun af=>lt (QF .u64 ((XI A:Nat):Int)) fun U=>chk (U≠0) (lt (XP af U) fun ag=>lt (QF .i64 ag) fun ah=>idx A ah fun W=>chk ((XI (XK 3 (XL 1 W)))=3∧0+3≤3) (lt (xd [(Qc (0:Int)),(Qb (0:Int)),(Qc (0:Int))] 0 (XK 3 (XL 1 W))) fun X=>chk (0=0∧(XI X)=3∧3≠0) (z X (0:Int))))))))))
theorem zBx{β:Type}(xp:zby)(L:Nat)(C:List V)(D:Int)(k:KK β):yl zre (zq2 xp L) L zmX [(V.agg C),(Qd D)] [] k=zsb xp L C D (fun z A=>k (V.tup [(V.agg z),(Qe A)]) []):=by kernel_rfl
abbrev zbD:=∀ (β:Type),Nat→List V→Int→(List V→Int→Option β)→Option β
def xt(β:Type)(L:Nat)(A:List V)(C:Int)(z:List V→Int→Option β):Option β:=zsb xp L A C z
def zpe(xt:zbD)(L:Nat)(β:Type)(args:List V)(bor:Bor)(k:KK β):Option β:=match args,bor with
 | [a0,a1],[]=>aG a0 fun C=>aI .u64 a1 fun D=>xt β L C D (fun z A=>k (V.tup [(V.agg z),(Qe A)]) [])
 | _,_=>none
theorem zAx(L:Nat)(β:Type)(args:List V)(bor:Bor)(k:KK β)(r:β)(h:zpe xt L β args bor k=some r):yl zre (zq2 xp L) L zmX args bor k=some r:=by
 unfold zpe at h
 split at h
 ·have q:=xM h; clear h; obtain ⟨z,rfl,h⟩:=q
  have q:=yo h; clear h; obtain ⟨A,rfl,h⟩:=q
  exact (zBx xp L z A k).trans h
 ·cases h
def zcU:CC:=(.seq (.seq (.reg [Qh 11 (tq 5),Qh 12 (tq 0),Qr 13 (tq 12),Qp 14 .lss (tq 11) (tq 13)]) (.cond (tq 14) .skip (.seq (.mask (bl 0 26) (bl 67100623 26)) (.exit 0)))) (.seq (.block 1 (.seq (.dreg [] [(Qh 17 (tq 0),q0),(Qh 18 (tq 5),q0),(Qo 19 5 (tq 17) (tq 18),q0),(Qk 20 5 (tq 19),qc [] []),(Qh 21 (tq 1),q0),(Qh 22 (tq 5),q0),(Qo 23 5 (tq 21) (tq 22),q0),(Qk 24 5 (tq 23),qc [] []),(oo 25 (.eqAgg true 5 (tq 20) (tq 24)),q0)]) (.cond (tq 25) (.seq (.reg [Qh 4 (Qg false)]) (.seq (.mask (bl 16 26) (bl 67100639 26)) .ret)) .skip))) (.reg [Qh 15 (tq 5),Qp 16 .add (tq 15) (Qf 1),Qh 5 (tq 16)])))
def zfl:CC:=(.seq (.reg [Qh 4 (Qg true)]) .ret)
def zbX:CF:=⟨26,[.tmp 4],(.seq (.reg [Qh 4 (Qg false)]) (.seq (.seq (.reg [Qh 6 (tq 0),Qr 7 (tq 6),Qh 8 (tq 1),Qr 9 (tq 8),Qp 10 .neq (tq 7) (tq 9)]) (.cond (tq 10) (.seq (.reg [Qh 4 (Qg false)]) .ret) .skip)) (.seq (.seq (.reg [Qh 5 (Qf 0)]) (.block 0 (.loop (bl 35 26) (bl 67100655 26) zcU))) zfl)))⟩
def zny:Hint:=⟨[],[],[none,none,none,some ((bl 35 26),(bl 67100655 26)),none,some ((bl 0 26),(bl 67100623 26)),none,none,some ((bl 16 26),(bl 67100639 26)),none],[],[],false,false,[]⟩
def zat:Nat→Sh:=yT []
def zau(L:Nat):CBC:=noC
def zew:St→St:=zbd 0 (bl 35 26) (bl 67100655 26)
def zdE(z A:List (List V))(C:Int):St:=⟨((V.sl 5 z)::((V.sl 5 A)::(jn 3 ((Qe C)::(jn 20 []))))),(gn 26 [])⟩
def zgZ(z:Bool):St:=⟨(jn 4 ((V.sc (.bool z))::(jn 21 []))),(gn 26 [])⟩
def zhY:St:=⟨(jn 26 []),(gn 26 [])⟩
def zkV{β:Type}(L:Nat)(C D:List (List V))(A:Bool→Option β)(z:List (List V)→List (List V)→Int→Option β):Option β:=ifb ((((XI C:Nat):Int):Int) != ((XI D:Nat):Int)) (A false) (z C D (0:Int))
theorem zur{β:Type}(L:Nat)(z A:List (List V))(k:KK β):yl zat (zau L) L zbX [(V.sl 5 z),(V.sl 5 A)] [] k=zkV L z A (fun z=>k (V.sc (.bool z)) []) (fun z A C=>xE (xi zat (zau L) 0 L zcU) zew L (zdE z A C) (zF 0 (zQ (xi zat (zau L) 0 L zfl) (xW 0 (CF.res zbX) k)))):=by kernel_rfl
def zg0{β:Type}(L:Nat)(D F:List (List V))(A:Int)(C:Bool→Option β)(z:List (List V)→List (List V)→Int→Option β)(E:Option β):Option β:=ifb (decide (A<((XI D:Nat):Int))) (idx D A fun c0=>idx F A fun c1=>eqC 5 (XK 5 c0) (XK 5 c1) fun G=>ifb (!G) (C false) (lt (QF .i64 ((A:Int)+(1:Int))) fun I=>z D F I)) (E)
theorem zrl{β:Type}(L:Nat)(z A:List (List V))(C:Int)(X:St→Option β)(K:KT β):xi zat (zau L) 0 L zcU (zdE z A C) (zcz zew X K)=zg0 L z A C (fun D=>K .ret (zgZ D)) (fun z A C=>X (zdE z A C)) (K (.exit 0) (zhY)):=by kernel_rfl
def zjL{β:Type}(L:Nat)(A:Bool)(z:Bool→Option β):Option β:=z A
theorem zpj{β:Type}(L:Nat)(z:Bool)(k:KK β):(zF 0 (zQ (xi zat (zau L) 0 L zfl) (xW 0 (CF.res zbX) k))) .ret (zgZ z)=zjL L z (fun A=>k (V.sc (.bool A)) []):=by kernel_rfl
def zkG{β:Type}(L:Nat)(z:Bool→Option β):Option β:=z true
theorem zp7{β:Type}(L:Nat)(k:KK β):(zF 0 (zQ (xi zat (zau L) 0 L zfl) (xW 0 (CF.res zbX) k))) (.exit 0) (zhY)=zkG L (fun z=>k (V.sc (.bool z)) []):=by kernel_rfl
def zdj{β:Type}(L:Nat)(z:Bool→Option β)(A:Option β):Nat→List (List V)→List (List V)→Int→Option β
 | 0,_,_,_=>none
 | n+1,C,D,E=>zg0 L C D E z (fun C D E=>zdj L z A n C D E) A
theorem zjR{β:Type}(L:Nat)(K:KT β):∀ (n:Nat) (z A:List (List V)) (C:Int),xE (xi zat (zau L) 0 L zcU) zew n (zdE z A C) K=zdj L (fun D=>K .ret (zgZ D)) (K (.exit 0) (zhY)) n z A C:=by
 intro n
 induction n with
 | zero=>intros; rfl
 | succ n ih=>
  intro z A C
  refine (zrl L z A C (fun σ=>xE (xi zat (zau L) 0 L zcU) zew n σ K) K).trans ?_
  simp only [ih]
  rfl
def zhs{β:Type}(L:Nat)(A C:List (List V))(z:Bool→Option β):Option β:=zkV L A C z (fun A C D=>zdj L (fun E=>zjL L E z) (zkG L z) L A C D)
theorem zu3{β:Type}(L:Nat)(z A:List (List V))(k:KK β):yl zat (zau L) L zbX [(V.sl 5 z),(V.sl 5 A)] [] k=zhs L z A (fun z=>k (V.sc (.bool z)) []):=by
 refine (zur L z A k).trans ?_
 unfold zhs
 first
  | (simp only [zjR,zpj,zp7]; done)
  | (simp only [zjR]; rfl)
abbrev zhk:=∀ (β:Type),Nat→List (List V)→List (List V)→(Bool→Option β)→Option β
def xO(β:Type)(L:Nat)(A C:List (List V))(z:Bool→Option β):Option β:=zhs L A C z
def zhl(xO:zhk)(L:Nat)(β:Type)(args:List V)(bor:Bor)(k:KK β):Option β:=match args,bor with
 | [a0,a1],[]=>aL 5 a0 fun z=>aL 5 a1 fun A=>xO β L z A (fun z=>k (V.sc (.bool z)) [])
 | _,_=>none
theorem zu7(L:Nat)(β:Type)(args:List V)(bor:Bor)(k:KK β)(r:β)(h:zhl xO L β args bor k=some r):yl zat (zau L) L zbX args bor k=some r:=by
 unfold zhl at h
 split at h
 ·have q:=zaF h; clear h; obtain ⟨z,rfl,h⟩:=q
  have q:=zaF h; clear h; obtain ⟨A,rfl,h⟩:=q
  exact (zu3 L z A k).trans h
 ·cases h
def zmR:CF:=⟨24,[.tmp 4],(.seq (.reg [Qv 2 (tq 0),Qv 3 (tq 1),Qh 4 (Qg false)]) (.seq (.reg [Ql 5 0 (tq 2),Qk 6 32 (tq 5),Ql 7 0 (tq 3),Qk 8 32 (tq 7),oo 9 (.eqAgg false 32 (tq 6) (tq 8)),Qh 10 (tq 9),⟨(some 11),false,(some (10,true)),.fieldAddr 32 (tq 2)⟩,⟨(some 12),false,(some (10,true)),.load false 1 (tq 11) false⟩,⟨(some 13),false,(some (10,true)),.fieldAddr 32 (tq 3)⟩,⟨(some 14),false,(some (10,true)),.load false 1 (tq 13) false⟩,⟨(some 15),false,(some (10,true)),.call 387 [(Qw 12),(Qw 14)] []⟩,oo 16 (.pick (tq 10) (tq 15) (Qg false)),Qh 17 (tq 16),⟨(some 18),false,(some (17,true)),.fieldAddr 33 (tq 2)⟩,⟨(some 19),false,(some (17,true)),.load false 1 (tq 18) false⟩,⟨(some 20),false,(some (17,true)),.fieldAddr 33 (tq 3)⟩,⟨(some 21),false,(some (17,true)),.load false 1 (tq 20) false⟩,⟨(some 22),false,(some (17,true)),.call 387 [(Qw 19),(Qw 21)] []⟩,oo 23 (.pick (tq 17) (tq 22) (Qg false)),Qh 4 (tq 23)]) .ret))⟩
def ztx:Hint:=⟨[(0,0),(0,1)],[],[none],[],[],false,false,[]⟩
def zq3:Nat→Sh:=yT [(12,(.sl 5)),(14,(.sl 5)),(19,(.sl 5)),(21,(.sl 5))]
def zq6(xO:zhk)(L:Nat):CBC:=(xy 387 (zhl xO L) noC)
def zsP{β:Type}(xO:zhk)(L:Nat)(A C:List V)(z:Bool→Option β):Option β:=chk (0+32≤(XI A)) (chk (0+32≤(XI C)) (eqC 32 (XK 32 A) (XK 32 C) fun D=>ifb D (cLd 5 A 32 fun E=>cLd 5 C 32 fun F=>xO β L E F (fun G=>ifb G (cLd 5 A 33 fun I=>cLd 5 C 33 fun J=>xO β L I J (fun M=>z M)) (z false))) (z false)))
theorem zz5{β:Type}(xO:zhk)(L:Nat)(z A:List V)(k:KK β):yl zq3 (zq6 xO L) L zmR [(V.agg z),(V.agg A)] [] k=zsP xO L z A (fun z=>k (V.sc (.bool z)) []):=by kernel_rfl
abbrev zbG:=∀ (β:Type),Nat→List V→List V→(Bool→Option β)→Option β
def yt(β:Type)(L:Nat)(A C:List V)(z:Bool→Option β):Option β:=zsP xO L A C z
def zoJ(yt:zbG)(L:Nat)(β:Type)(args:List V)(bor:Bor)(k:KK β):Option β:=match args,bor with
 | [a0,a1],[]=>aG a0 fun z=>aG a1 fun A=>yt β L z A (fun z=>k (V.sc (.bool z)) [])
 | _,_=>none
theorem zAS(L:Nat)(β:Type)(args:List V)(bor:Bor)(k:KK β)(r:β)(h:zoJ yt L β args bor k=some r):yl zq3 (zq6 xO L) L zmR args bor k=some r:=by
 unfold zoJ at h
 split at h
 ·have q:=xM h; clear h; obtain ⟨z,rfl,h⟩:=q
  have q:=xM h; clear h; obtain ⟨A,rfl,h⟩:=q
  exact (zz5 xO L z A k).trans h
 ·cases h
def zbA:CC:=(.seq (.reg [Qp 48 .lss (tq 47) (tq 46)]) (.seq (.cond (tq 48) .skip (.seq (.mask (bl 0 118) (bl 311213292820882337733117081844454143 118)) (.exit 0))) (.seq (.block 1 (.seq (.reg [Qo 49 34 (tq 45) (tq 47),Qk 50 34 (tq 49),oo 13 (.alloc true (rp 32 (.sc (.int .u8 0)) (rp 2 (.gs 5 []) []))),Qm 34 (tq 13) (tq 50)]) (.seq (.reg [Qk 52 34 (tq 13),Qk 53 3 (tq 11),Qs 54 389 [((tq 52),1),(Qw 53)],Qi 51 (tq 54),Qq 55 (tq 51) 0,Qq 56 (tq 51) 1,oo 14 (.alloc true (rp 32 (.sc (.int .u8 0)) (rp 2 (.gs 5 []) []))),Qm 34 (tq 14) (tq 55),Qh 15 (tq 56)]) (.seq (.reg [Qk 58 34 (tq 13),Qk 59 3 (tq 11),Qs 60 272 [((tq 58),1),(Qw 59)],Qi 57 (tq 60),Qq 61 (tq 57) 0,Qq 62 (tq 57) 1,oo 16 (.alloc true (rp 32 (.sc (.int .u8 0)) (rp 2 (.gs 5 []) []))),Qm 34 (tq 16) (tq 61),Qh 17 (tq 62)]) (.seq (.reg [Qk 64 34 (tq 13),Qk 65 3 (tq 11),Qs 66 390 [((tq 64),1),(Qw 65)],Qi 63 (tq 66),Qq 67 (tq 63) 0,Qq 68 (tq 63) 1,oo 18 (.alloc true (rp 32 (.sc (.int .u8 0)) (rp 2 (.gs 5 []) []))),Qm 34 (tq 18) (tq 67),Qh 19 (tq 68)]) (.seq (.reg [Qk 70 34 (tq 13),Qk 71 3 (tq 11),Qs 72 391 [((tq 70),1),(Qw 71)],Qi 69 (tq 72),Qq 73 (tq 69) 0,Qq 74 (tq 69) 1,oo 20 (.alloc true (rp 32 (.sc (.int .u8 0)) (rp 2 (.gs 5 []) []))),Qm 34 (tq 20) (tq 73),Qh 21 (tq 74)]) (.seq (.reg [Qk 76 34 (tq 13),Qh 77 (tq 3),Qs 78 392 [((tq 76),1),(Qw 77)],Qi 75 (tq 78),Qq 79 (tq 75) 0,Qq 80 (tq 75) 1,oo 22 (.alloc true [(.sc (.int .u32 0)),(.sc (.int .u16 0)),(.sc (.int .u32 0))]),Qm 3 (tq 22) (tq 79),Qh 23 (tq 80)]) (.seq (.reg [Qk 82 34 (tq 13),Qh 83 (tq 3),Qs 84 393 [((tq 82),1),(Qw 83)],Qi 81 (tq 84),Qq 85 (tq 81) 0,Qq 86 (tq 81) 1,oo 24 (.alloc true [(.sc (.int .u32 0)),(.sc (.int .u16 0)),(.sc (.int .u32 0))]),Qm 3 (tq 24) (tq 85),Qh 25 (tq 86)]) (.seq (.reg [Qh 87 (tq 15),Qh 88 (tq 17),Qp 89 .neq (tq 87) (tq 88),Qh 90 (tq 89),⟨(some 91),false,(some (90,false)),.move (tq 19) false⟩,⟨(some 92),false,(some (90,false)),.move (tq 21) false⟩,⟨(some 93),false,(some (90,false)),.bin .neq (tq 91) (tq 92)⟩,oo 94 (.pick (tq 90) (Qg true) (tq 93)),Qh 95 (tq 94),⟨(some 96),false,(some (95,false)),.move (tq 23) false⟩,⟨(some 97),false,(some (95,false)),.move (tq 25) false⟩,⟨(some 98),false,(some (95,false)),.bin .neq (tq 96) (tq 97)⟩,oo 99 (.pick (tq 95) (Qg true) (tq 98)),Qh 100 (tq 99),⟨(some 101),false,(some (100,false)),.load true 3 (tq 22) false⟩,⟨(some 102),false,(some (100,false)),.load true 3 (tq 24) false⟩,⟨(some 103),false,(some (100,false)),.eqAgg true 3 (tq 101) (tq 102)⟩,oo 104 (.pick (tq 100) (Qg true) (tq 103)),Qh 105 (tq 104),⟨(some 106),false,(some (105,false)),.load true 34 (tq 14) false⟩,⟨(some 107),false,(some (105,false)),.load true 34 (tq 16) false⟩,⟨(some 108),false,(some (105,false)),.call 383 [((tq 106),1),((tq 107),1)] []⟩,⟨(some 109),false,(some (105,false)),.un .not (tq 108)⟩,oo 110 (.pick (tq 105) (Qg true) (tq 109)),Qh 111 (tq 110),⟨(some 112),false,(some (111,false)),.load true 34 (tq 18) false⟩,⟨(some 113),false,(some (111,false)),.load true 34 (tq 20) false⟩,⟨(some 114),false,(some (111,false)),.call 383 [((tq 112),1),((tq 113),1)] []⟩,⟨(some 115),false,(some (111,false)),.un .not (tq 114)⟩,oo 116 (.pick (tq 111) (Qg true) (tq 115))]) (.cond (tq 116) (.seq (.reg [Qh 8 (Qg false)]) (.seq (.mask (bl 256 118) (bl 311213292820882337733117081844454399 118)) .ret)) .skip)))))))))) (.reg [Qp 117 .add (tq 47) (Qf 1),Qh 47 (tq 117)]))))
def zdu:CC:=(.seq (.reg [Qh 8 (Qg true)]) .ret)
def za3:CF:=⟨118,[.tmp 8],(.seq (.reg [Qh 8 (Qg false)]) (.seq (.seq (.reg [Qs 26 379 [],Qt 27 (tq 26)]) (.cond (tq 27) (.seq (.reg [Qh 8 (Qg false)]) .ret) .skip)) (.seq (.reg [Qh 28 (tq 0),Qs 29 225 [(Qw 28)],Qh 9 (tq 29)]) (.seq (.reg [Qh 30 (tq 9),Qs 31 260 [(Qw 30)],oo 10 (.alloc true (rp 32 (.sc (.int .u8 0)) (rp 2 (.gs 5 []) []))),Qm 34 (tq 10) (tq 31)]) (.seq (.reg [Qh 32 (tq 9),Qk 33 34 (tq 10),Qs 34 380 [(Qw 32),((tq 33),1)],oo 11 (.alloc true [(.sc (.int .u32 0)),(.sc (.int .u16 0)),(.sc (.int .u32 0))]),Qm 3 (tq 11) (tq 34)]) (.seq (.seq (.dreg [] [(Qk 35 34 (tq 10),ql 10 [] []),(Qk 36 34 (tq 10),ql 10 [] []),(Qh 37 (tq 1),q0),(Qh 38 (tq 2),q0),(Qs 39 381 [((tq 36),1),(Qw 37),(Qw 38)],qc [10] []),(Ql 40 0 (tq 10),q0),(Qk 41 32 (tq 40),ql 10 [] []),(Ql 42 32 (tq 10),q0),(Qj 43 1 (tq 42),ql 10 [] []),(oo 44 (.build (rp 32 (.sc (.int .u8 0)) (rp 2 (.sl 5 []) [])) [(0,32,(tq 41)),(32,1,(tq 43))]),q0),(oo 45 (.buildSlice 34 3 (rp 32 (.sc (.int .u8 0)) (rp 2 (.sl 5 []) [])) [(0,34,(tq 35)),(34,34,(tq 39)),(68,34,(tq 44))]),q0),(Qr 46 (tq 45),q0),(Qh 47 (Qf 0),q0)]) (.block 0 (.loop (bl 246290604623880 118) (bl 311213292820882337733117081844456191 118) zbA))) zdu))))))⟩
def zln:Hint:=⟨[(4,2),(8,2),(9,3),(9,6),(10,3),(10,6),(11,3),(11,6),(12,3),(12,6),(13,3),(14,3)],[],[none,none,none,some ((bl 246290604623880 118),(bl 311213292820882337733117081844456191 118)),none,some ((bl 0 118),(bl 311213292820882337733117081844454143 118)),none,none,some ((bl 256 118),(bl 311213292820882337733117081844454399 118)),none],[],[],false,false,[]⟩
def zad:Nat→Sh:=yT [(43,(.sl 5))]
def zab(zu:zbB)(yA:zcG)(zy:zcc)(xw:zcf)(xk:za9)(yk:zaw)(xf:xT)(xl:zaQ)(zx:zcd)(zl:zav)(xt:zbD)(yt:zbG)(L:Nat):CBC:=(xy 383 (zoJ yt L) (xy 393 (zpe xt L) (xy 392 (zkl zl L) (xy 391 (zqr zx L) (xy 390 (zlW xl L) (xy 272 (zlD xf L) (xy 389 (zkC yk L) (xy 381 (zmV xk L) (xy 380 (zqv xw L) (xy 260 (zqk zy L) (xy 225 (zrH yA L) (xy 379 (zon zu L) noC))))))))))))
def zcQ:St→St:=zbd 0 (bl 246290604623880 118) (bl 311213292820882337733117081844456191 118)
def zcp(G:Int)(C:List (List V))(D E:Int)(F:List V)(z:List (List V))(A:Int):St:=⟨(jn 3 ((Qd G)::(jn 7 ((V.ptr 11 0)::(jn 33 ((V.gs 34 C)::((Qe D)::((Qe E)::(jn 70 []))))))))),(gn 11 ((.live true F)::(gn 17 ((.live false [(V.sl 1 z),(Qe A)])::(gn 88 [])))))⟩
def zfA(C:Bool)(z:List (List V))(A:Int):St:=⟨(jn 8 ((V.sc (.bool C))::(jn 109 []))),(gn 29 ((.live false [(V.sl 1 z),(Qe A)])::(gn 88 [])))⟩
def zfY(z:List (List V))(A:Int):St:=⟨(jn 118 []),(gn 29 ((.live false [(V.sl 1 z),(Qe A)])::(gn 88 [])))⟩
abbrev zhi(β:Type):Type:=Int→List (List V)→Int→Int→List V→List (List V)→Int→Option β
def ziA{β:Type}(zu:zbB)(yA:zcG)(zy:zcc)(xw:zcf)(xk:za9)(yk:zaw)(xf:xT)(xl:zaQ)(zx:zcd)(zl:zav)(xt:zbD)(yt:zbG)(L:Nat)(G:List (List V))(I J M:Int)(D:Bool→Option β)(z:zhi β):Option β:=zu β L  (fun N=>ifb (!N) (D false) (yA β L G (fun O P=>zy β L O P (fun E Q R=>chk ((XI E)=34∧0+34≤34) (lt (xd (We 32 (Qa (0:Int))++[(V.gs 5 ([]:List (List V))),(V.gs 5 ([]:List (List V)))]) 0 E) fun r6=>chk (0+34≤(XI r6)) (xw β L (Xt V.dem (XK 34 r6)) Q R (fun F S U=>chk ((XI F)=3∧0+3≤3) (lt (xd [(Qc (0:Int)),(Qb (0:Int)),(Qc (0:Int))] 0 F) fun r10=>chk (0+34≤(XI r6)) (chk (0+34≤(XI r6)) (xk β L (Xt V.dem (XK 34 r6)) I J (fun A=>chk (0+32≤(XI r6)) (cLd 5 r6 32 fun C=>chk ((XI (XK 32 r6))=32∧0+32≤34) (chk (1=1∧32+1≤(XI (xd (We 32 (Qa (0:Int))++[(V.sl 5 ([]:List (List V))),(V.sl 5 ([]:List (List V)))]) 0 (XK 32 r6)))) (chk ((XI (XK 34 r6))=34∧0+34≤102) (chk ((XI A)=34∧34+34≤(XI (xd (We 32 (Qa (0:Int))++[(V.sl 5 ([]:List (List V))),(V.sl 5 ([]:List (List V)))]++We 32 (Qa (0:Int))++[(V.sl 5 ([]:List (List V))),(V.sl 5 ([]:List (List V)))]++We 32 (Qa (0:Int))++[(V.sl 5 ([]:List (List V))),(V.sl 5 ([]:List (List V)))]) 0 (XK 34 r6)))) (chk ((XI (xd (xd (We 32 (Qa (0:Int))++[(V.sl 5 ([]:List (List V))),(V.sl 5 ([]:List (List V)))]) 0 (XK 32 r6)) 32 [(V.sl 5 C)]))=34∧68+34≤(XI (xd (xd (We 32 (Qa (0:Int))++[(V.sl 5 ([]:List (List V))),(V.sl 5 ([]:List (List V)))]++We 32 (Qa (0:Int))++[(V.sl 5 ([]:List (List V))),(V.sl 5 ([]:List (List V)))]++We 32 (Qa (0:Int))++[(V.sl 5 ([]:List (List V))),(V.sl 5 ([]:List (List V)))]) 0 (XK 34 r6)) 34 A))) (z M (ye 34 3 (xd (xd (xd (We 32 (Qa (0:Int))++[(V.sl 5 ([]:List (List V))),(V.sl 5 ([]:List (List V)))]++We 32 (Qa (0:Int))++[(V.sl 5 ([]:List (List V))),(V.sl 5 ([]:List (List V)))]++We 32 (Qa (0:Int))++[(V.sl 5 ([]:List (List V))),(V.sl 5 ([]:List (List V)))]) 0 (XK 34 r6)) 34 A) 68 (xd (xd (We 32 (Qa (0:Int))++[(V.sl 5 ([]:List (List V))),(V.sl 5 ([]:List (List V)))]) 0 (XK 32 r6)) 32 [(V.sl 5 C)]))) ((XI (ye 34 3 (xd (xd (xd (We 32 (Qa (0:Int))++[(V.sl 5 ([]:List (List V))),(V.sl 5 ([]:List (List V)))]++We 32 (Qa (0:Int))++[(V.sl 5 ([]:List (List V))),(V.sl 5 ([]:List (List V)))]++We 32 (Qa (0:Int))++[(V.sl 5 ([]:List (List V))),(V.sl 5 ([]:List (List V)))]) 0 (XK 34 r6)) 34 A) 68 (xd (xd (We 32 (Qa (0:Int))++[(V.sl 5 ([]:List (List V))),(V.sl 5 ([]:List (List V)))]) 0 (XK 32 r6)) 32 [(V.sl 5 C)]))):Nat):Int) (0:Int) r10 S U)))))))))))))))))
theorem zsA{β:Type}(zu:zbB)(yA:zcG)(zy:zcc)(xw:zcf)(xk:za9)(yk:zaw)(xf:xT)(xl:zaQ)(zx:zcd)(zl:zav)(xt:zbD)(yt:zbG)(L:Nat)(z:List (List V))(E F A:Int)(k:KK β):yl zad (zab zu yA zy xw xk yk xf xl zx zl xt yt L) L za3 [(V.sl 1 z),(Qe E),(Qe F),(Qd A)] [] k=ziA zu yA zy xw xk yk xf xl zx zl xt yt L z E F A (fun z=>k (V.sc (.bool z)) []) (fun A G I J M C D=>xE (xi zad (zab zu yA zy xw xk yk xf xl zx zl xt yt L) 0 L zbA) zcQ L (zcp A G I J M C D) (zF 0 (zQ (xi zad (zab zu yA zy xw xk yk xf xl zx zl xt yt L) 0 L zdu) (xW 0 (CF.res za3) k)))):=by kernel_rfl
def zes{β:Type}(zu:zbB)(yA:zcG)(zy:zcc)(xw:zcf)(xk:za9)(yk:zaw)(xf:xT)(xl:zaQ)(zx:zcd)(zl:zav)(xt:zbD)(yt:zbG)(L:Nat)(p3:Int)(I:List (List V))(J G:Int)(E:List V)(z:List (List V))(A:Int)(D:Bool→List (List V)→Int→Option β)(F:zhi β)(ac:List (List V)→Int→Option β):Option β:=ifb (decide (G<J)) (idx I G fun M=>chk ((XI (XK 34 M))=34∧0+34≤34) (lt (xd (We 32 (Qa (0:Int))++[(V.gs 5 ([]:List (List V))),(V.gs 5 ([]:List (List V)))]) 0 (XK 34 M)) fun C=>chk (0+34≤(XI C)) (chk (0+3≤(XI E)) (yk β L (Xt V.dem (XK 34 C)) (XK 3 E) (fun N ad=>chk ((XI N)=34∧0+34≤34) (lt (xd (We 32 (Qa (0:Int))++[(V.gs 5 ([]:List (List V))),(V.gs 5 ([]:List (List V)))]) 0 N) fun O=>chk (0+34≤(XI C)) (chk (0+3≤(XI E)) (xf β L (Xt V.dem (XK 34 C)) (XK 3 E) (fun P ae=>chk ((XI P)=34∧0+34≤34) (lt (xd (We 32 (Qa (0:Int))++[(V.gs 5 ([]:List (List V))),(V.gs 5 ([]:List (List V)))]) 0 P) fun Q=>chk (0+34≤(XI C)) (chk (0+3≤(XI E)) (xl β L (Xt V.dem (XK 34 C)) (XK 3 E) (fun R af=>chk ((XI R)=34∧0+34≤34) (lt (xd (We 32 (Qa (0:Int))++[(V.gs 5 ([]:List (List V))),(V.gs 5 ([]:List (List V)))]) 0 R) fun S=>chk (0+34≤(XI C)) (chk (0+3≤(XI E)) (zx β L (Xt V.dem (XK 34 C)) (XK 3 E) (fun U ag=>chk ((XI U)=34∧0+34≤34) (lt (xd (We 32 (Qa (0:Int))++[(V.gs 5 ([]:List (List V))),(V.gs 5 ([]:List (List V)))]) 0 U) fun W=>chk (0+34≤(XI C)) (zl β L (Xt V.dem (XK 34 C)) p3 (fun X ah=>chk ((XI X)=3∧0+3≤3) (lt (xd [(Qc (0:Int)),(Qb (0:Int)),(Qc (0:Int))] 0 X) fun Y=>chk (0+34≤(XI C)) (xt β L (Xt V.dem (XK 34 C)) p3 (fun Z ai=>chk ((XI Z)=3∧0+3≤3) (lt (xd [(Qc (0:Int)),(Qb (0:Int)),(Qc (0:Int))] 0 Z) fun aa=>ifb ((ad:Int) != ae) (D false z A) (ifb ((af:Int) != ag) (D false z A) (ifb ((ah:Int) != ai) (D false z A) (chk (0+3≤(XI Y)) (chk (0+3≤(XI aa)) (eqC 3 (XK 3 Y) (XK 3 aa) fun aj=>ifb (!aj) (D false z A) (chk (0+34≤(XI O)) (chk (0+34≤(XI Q)) (yt β L (Xt V.dem (XK 34 O)) (Xt V.dem (XK 34 Q)) (fun ak=>ifb (!ak) (D false z A) (chk (0+34≤(XI S)) (chk (0+34≤(XI W)) (yt β L (Xt V.dem (XK 34 S)) (Xt V.dem (XK 34 W)) (fun al=>ifb (!al) (D false z A) (lt (QF .i64 ((G:Int)+(1:Int))) fun am=>F p3 I J am E z A)))))))))))))))))))))))))))))))))))))) (ac z A)
theorem zm6{β:Type}(zu:zbB)(yA:zcG)(zy:zcc)(xw:zcf)(xk:za9)(yk:zaw)(xf:xT)(xl:zaQ)(zx:zcd)(zl:zav)(xt:zbD)(yt:zbG)(L:Nat)(G:Int)(C:List (List V))(D E:Int)(F:List V)(z:List (List V))(A:Int)(X:St→Option β)(K:KT β):xi zad (zab zu yA zy xw xk yk xf xl zx zl xt yt L) 0 L zbA (zcp G C D E F z A) (zcz zcQ X K)=zes zu yA zy xw xk yk xf xl zx zl xt yt L G C D E F z A (fun I z A=>K .ret (zfA I z A)) (fun G C D E F z A=>X (zcp G C D E F z A)) (fun z A=>K (.exit 0) (zfY z A)):=by kernel_rfl
def zgC{β:Type}(zu:zbB)(yA:zcG)(zy:zcc)(xw:zcf)(xk:za9)(yk:zaw)(xf:xT)(xl:zaQ)(zx:zcd)(zl:zav)(xt:zbD)(yt:zbG)(L:Nat)(D:Bool)(A:List (List V))(C:Int)(z:Bool→Option β):Option β:=z D
theorem zlJ{β:Type}(zu:zbB)(yA:zcG)(zy:zcc)(xw:zcf)(xk:za9)(yk:zaw)(xf:xT)(xl:zaQ)(zx:zcd)(zl:zav)(xt:zbD)(yt:zbG)(L:Nat)(C:Bool)(z:List (List V))(A:Int)(k:KK β):(zF 0 (zQ (xi zad (zab zu yA zy xw xk yk xf xl zx zl xt yt L) 0 L zdu) (xW 0 (CF.res za3) k))) .ret (zfA C z A)=zgC zu yA zy xw xk yk xf xl zx zl xt yt L C z A (fun D=>k (V.sc (.bool D)) []):=by kernel_rfl
def zgX{β:Type}(zu:zbB)(yA:zcG)(zy:zcc)(xw:zcf)(xk:za9)(yk:zaw)(xf:xT)(xl:zaQ)(zx:zcd)(zl:zav)(xt:zbD)(yt:zbG)(L:Nat)(A:List (List V))(C:Int)(z:Bool→Option β):Option β:=z true
theorem zml{β:Type}(zu:zbB)(yA:zcG)(zy:zcc)(xw:zcf)(xk:za9)(yk:zaw)(xf:xT)(xl:zaQ)(zx:zcd)(zl:zav)(xt:zbD)(yt:zbG)(L:Nat)(z:List (List V))(A:Int)(k:KK β):(zF 0 (zQ (xi zad (zab zu yA zy xw xk yk xf xl zx zl xt yt L) 0 L zdu) (xW 0 (CF.res za3) k))) (.exit 0) (zfY z A)=zgX zu yA zy xw xk yk xf xl zx zl xt yt L z A (fun C=>k (V.sc (.bool C)) []):=by kernel_rfl
def zbS{β:Type}(zu:zbB)(yA:zcG)(zy:zcc)(xw:zcf)(xk:za9)(yk:zaw)(xf:xT)(xl:zaQ)(zx:zcd)(zl:zav)(xt:zbD)(yt:zbG)(L:Nat)(C:Bool→List (List V)→Int→Option β)(D:List (List V)→Int→Option β):Nat→Int→List (List V)→Int→Int→List V→List (List V)→Int→Option β
 | 0,_,_,_,_,_,_,_=>none
 | n+1,J,E,F,G,I,z,A=>zes zu yA zy xw xk yk xf xl zx zl xt yt L J E F G I z A C (fun J E F G I z A=>zbS zu yA zy xw xk yk xf xl zx zl xt yt L C D n J E F G I z A) D
theorem zgF{β:Type}(zu:zbB)(yA:zcG)(zy:zcc)(xw:zcf)(xk:za9)(yk:zaw)(xf:xT)(xl:zaQ)(zx:zcd)(zl:zav)(xt:zbD)(yt:zbG)(L:Nat)(K:KT β):∀ (n:Nat) (G:Int) (C:List (List V)) (D E:Int) (F:List V) (z:List (List V)) (A:Int),xE (xi zad (zab zu yA zy xw xk yk xf xl zx zl xt yt L) 0 L zbA) zcQ n (zcp G C D E F z A) K=zbS zu yA zy xw xk yk xf xl zx zl xt yt L (fun I z A=>K .ret (zfA I z A)) (fun z A=>K (.exit 0) (zfY z A)) n G C D E F z A:=by
 intro n
 induction n with
 | zero=>intros; rfl
 | succ n ih=>
  intro G C D E F z A
  refine (zm6 zu yA zy xw xk yk xf xl zx zl xt yt L G C D E F z A (fun σ=>xE (xi zad (zab zu yA zy xw xk yk xf xl zx zl xt yt L) 0 L zbA) zcQ n σ K) K).trans ?_
  simp only [ih]
  rfl
def zfn{β:Type}(zu:zbB)(yA:zcG)(zy:zcc)(xw:zcf)(xk:za9)(yk:zaw)(xf:xT)(xl:zaQ)(zx:zcd)(zl:zav)(xt:zbD)(yt:zbG)(L:Nat)(J:List (List V))(M N D:Int)(C:Bool→Option β):Option β:=ziA zu yA zy xw xk yk xf xl zx zl xt yt L J M N D C (fun D E F G I z A=>zbS zu yA zy xw xk yk xf xl zx zl xt yt L (fun O z A=>zgC zu yA zy xw xk yk xf xl zx zl xt yt L O z A C) (fun z A=>zgX zu yA zy xw xk yk xf xl zx zl xt yt L z A C) L D E F G I z A)
theorem zsa{β:Type}(zu:zbB)(yA:zcG)(zy:zcc)(xw:zcf)(xk:za9)(yk:zaw)(xf:xT)(xl:zaQ)(zx:zcd)(zl:zav)(xt:zbD)(yt:zbG)(L:Nat)(z:List (List V))(A C D:Int)(k:KK β):yl zad (zab zu yA zy xw xk yk xf xl zx zl xt yt L) L za3 [(V.sl 1 z),(Qe A),(Qe C),(Qd D)] [] k=zfn zu yA zy xw xk yk xf xl zx zl xt yt L z A C D (fun z=>k (V.sc (.bool z)) []):=by
 refine (zsA zu yA zy xw xk yk xf xl zx zl xt yt L z A C D k).trans ?_
 unfold zfn
 first
  | (simp only [zgF,zlJ,zml]; done)
  | (simp only [zgF]; rfl)
abbrev zuB:=∀ (β:Type),Nat→List (List V)→Int→Int→Int→(Bool→Option β)→Option β
def zbp(β:Type)(L:Nat)(A:List (List V))(C D E:Int)(z:Bool→Option β):Option β:=zfn zu yA zy xw xk yk xf xl zx zl xt yt L A C D E z
def zfg(zbp:zuB)(L:Nat)(β:Type)(args:List V)(bor:Bor)(k:KK β):Option β:=match args,bor with
 | [a0,a1,a2,a3],[]=>aL 1 a0 fun z=>aI .i64 a1 fun A=>aI .i64 a2 fun C=>aI .u64 a3 fun D=>zbp β L z A C D (fun z=>k (V.sc (.bool z)) [])
 | _,_=>none
theorem zsQ(L:Nat)(β:Type)(args:List V)(bor:Bor)(k:KK β)(r:β)(h:zfg zbp L β args bor k=some r):yl zad (zab zu yA zy xw xk yk xf xl zx zl xt yt L) L za3 args bor k=some r:=by
 unfold zfg at h
 split at h
 ·have q:=zaF h; clear h; obtain ⟨z,rfl,h⟩:=q
  have q:=yo h; clear h; obtain ⟨A,rfl,h⟩:=q
  have q:=yo h; clear h; obtain ⟨C,rfl,h⟩:=q
  have q:=yo h; clear h; obtain ⟨D,rfl,h⟩:=q
  exact (zsa zu yA zy xw xk yk xf xl zx zl xt yt L z A C D k).trans h
 ·cases h
def gls:List (Nat × List V):=[]
def fg:List (Nat × Nat):=[(3,374),(4,375),(5,376),(6,377),(7,378),(8,379),(9,225),(10,260),(11,380),(12,381),(13,382),(14,273),(15,383),(16,269),(17,294),(18,297),(19,305),(20,299),(21,290),(22,275),(23,281),(24,384),(25,385),(26,386),(27,387),(28,388),(29,231),(30,389),(31,272),(32,390),(33,391),(34,392),(35,393),(36,236),(37,262),(38,288),(39,217),(40,394),(41,395),(42,396),(43,293),(44,109),(45,105),(46,157),(47,110),(48,106),(49,159),(50,205),(51,304),(52,295),(53,296),(54,298),(55,302),(56,287),(57,247),(58,397),(59,398),(60,399),(61,400),(62,289),(63,291),(64,292),(65,401),(66,402),(67,403),(68,404),(69,112),(70,111),(71,113),(72,191),(73,192),(74,115),(75,114),(76,116),(77,193),(78,194),(79,303),(80,405),(81,406),(82,118),(83,407),(84,408)]
def rows:List Row:=[⟨69,112,zwg,zhS⟩,⟨44,109,zwU,zrG⟩,⟨16,269,zpz,zid⟩,⟨73,192,zrA,zd4⟩,⟨72,191,zru,zko⟩,⟨46,157,zpd,zhg⟩,⟨82,118,ziW,zdX⟩,⟨71,113,ztl,zfx⟩,⟨70,111,ztr,zmU⟩,⟨45,105,zw4,zjr⟩,⟨18,297,zkr,zev⟩,⟨53,296,znG,zgU⟩,⟨52,295,zpy,zbY⟩,⟨50,205,zo4,zhz⟩,⟨20,299,zkq,zex⟩,⟨54,298,znS,zgQ⟩,⟨22,275,zpl,zic⟩,⟨65,401,zeJ,zbF⟩,⟨40,394,zn0,zhx⟩,⟨68,404,zqE,zjG⟩,⟨67,403,zo8,zht⟩,⟨66,402,zdR,yJ⟩,⟨41,395,zqS,zgl⟩,⟨59,398,znW,zaG⟩,⟨61,400,zeq,zaA⟩,⟨42,396,zps,zcD⟩,⟨13,382,zpx,zik⟩,⟨8,379,ztj,zmW⟩,⟨9,225,zwe,zql⟩,⟨57,247,zpw,zib⟩,⟨39,217,zwn,zqf⟩,⟨29,231,zpo,zia⟩,⟨36,236,zuv,zo9⟩,⟨74,115,ztD,zfF⟩,⟨47,110,zuI,zoO⟩,⟨78,194,zrC,zd7⟩,⟨77,193,zry,zkw⟩,⟨49,159,zoE,zhA⟩,⟨51,304,zoG,zhJ⟩,⟨76,116,zsN,zlN⟩,⟨75,114,zrz,zkL⟩,⟨48,106,zuY,zgz⟩,⟨17,294,zsi,zlU⟩,⟨21,290,zmH,zf5⟩,⟨19,305,zmB,zf7⟩,⟨79,303,ztn,zmS⟩,⟨56,287,ztC,zdH⟩,⟨55,302,zsC,zdT⟩,⟨23,281,zsf,zdO⟩,⟨38,288,zrv,zkz⟩,⟨62,289,zrr,zku⟩,⟨63,291,zrx,zbE⟩,⟨64,292,zrw,zkF⟩,⟨43,293,ztu,zfG⟩,⟨31,272,ztI,zmY⟩,⟨37,262,zu5,zoZ⟩,⟨14,273,zsU,zlY⟩,⟨10,260,zu4,zgv⟩,⟨11,380,zuL,zoL⟩,⟨12,381,zse,zlS⟩,⟨58,397,zqP,zjb⟩,⟨30,389,zqI,zjd⟩,⟨32,390,zrB,zkJ⟩,⟨33,391,zva,zpc⟩,⟨34,392,zqO,zjy⟩,⟨35,393,ztJ,zmX⟩,⟨27,387,zny,zbX⟩,⟨15,383,ztx,zmR⟩,⟨7,378,zln,za3⟩]
theorem zE4:xV Try.prog (zN fg gls) zwg 69=some zhS:=by kernel_rfl
theorem zGe:xV Try.prog (zN fg gls) zwU 44=some zrG:=by kernel_rfl
theorem zyr:xV Try.prog (zN fg gls) zpz 16=some zid:=by kernel_rfl
theorem zAm:xV Try.prog (zN fg gls) zrA 73=some zd4:=by kernel_rfl
theorem zA0:xV Try.prog (zN fg gls) zru 72=some zko:=by kernel_rfl
theorem zw1:xV Try.prog (zN fg gls) zpd 46=some zhg:=by kernel_rfl
theorem zrV:xV Try.prog (zN fg gls) ziW 82=some zdX:=by kernel_rfl
theorem zDt:xV Try.prog (zN fg gls) ztl 71=some zfx:=by kernel_rfl
theorem zDk:xV Try.prog (zN fg gls) ztr 70=some zmU:=by kernel_rfl
theorem zGv:xV Try.prog (zN fg gls) zw4 45=some zjr:=by kernel_rfl
theorem zth:xV Try.prog (zN fg gls) zkr 18=some zev:=by kernel_rfl
theorem zwq:xV Try.prog (zN fg gls) znG 53=some zgU:=by kernel_rfl
theorem zyP:xV Try.prog (zN fg gls) zpy 52=some zbY:=by kernel_rfl
theorem zx3:xV Try.prog (zN fg gls) zo4 50=some zhz:=by kernel_rfl
theorem zte:xV Try.prog (zN fg gls) zkq 20=some zex:=by kernel_rfl
theorem zwB:xV Try.prog (zN fg gls) znS 54=some zgQ:=by kernel_rfl
theorem zyB:xV Try.prog (zN fg gls) zpl 22=some zic:=by kernel_rfl
theorem zle:xV Try.prog (zN fg gls) zeJ 65=some zbF:=by kernel_rfl
theorem zxs:xV Try.prog (zN fg gls) zn0 40=some zhx:=by kernel_rfl
theorem zzr:xV Try.prog (zN fg gls) zqE 68=some zjG:=by kernel_rfl
theorem zw6:xV Try.prog (zN fg gls) zo8 67=some zht:=by kernel_rfl
theorem zjc:xV Try.prog (zN fg gls) zdR 66=some yJ:=by kernel_rfl
theorem zzt:xV Try.prog (zN fg gls) zqS 41=some zgl:=by kernel_rfl
theorem zxW:xV Try.prog (zN fg gls) znW 59=some zaG:=by kernel_rfl
theorem zkP:xV Try.prog (zN fg gls) zeq 61=some zaA:=by kernel_rfl
theorem zyy:xV Try.prog (zN fg gls) zps 42=some zcD:=by kernel_rfl
theorem zyE:xV Try.prog (zN fg gls) zpx 13=some zik:=by kernel_rfl
theorem zDp:xV Try.prog (zN fg gls) ztj 8=some zmW:=by kernel_rfl
theorem zE0:xV Try.prog (zN fg gls) zwe 9=some zql:=by kernel_rfl
theorem zyS:xV Try.prog (zN fg gls) zpw 57=some zib:=by kernel_rfl
theorem zEW:xV Try.prog (zN fg gls) zwn 39=some zqf:=by kernel_rfl
theorem zyL:xV Try.prog (zN fg gls) zpo 29=some zia:=by kernel_rfl
theorem zDW:xV Try.prog (zN fg gls) zuv 36=some zo9:=by kernel_rfl
theorem zDj:xV Try.prog (zN fg gls) ztD 74=some zfF:=by kernel_rfl
theorem zEq:xV Try.prog (zN fg gls) zuI 47=some zoO:=by kernel_rfl
theorem zBc:xV Try.prog (zN fg gls) zrC 78=some zd7:=by kernel_rfl
theorem zAT:xV Try.prog (zN fg gls) zry 77=some zkw:=by kernel_rfl
theorem zwY:xV Try.prog (zN fg gls) zoE 49=some zhA:=by kernel_rfl
theorem zxp:xV Try.prog (zN fg gls) zoG 51=some zhJ:=by kernel_rfl
theorem zBH:xV Try.prog (zN fg gls) zsN 76=some zlN:=by kernel_rfl
theorem zA1:xV Try.prog (zN fg gls) zrz 75=some zkL:=by kernel_rfl
theorem zEQ:xV Try.prog (zN fg gls) zuY 48=some zgz:=by kernel_rfl
theorem zBW:xV Try.prog (zN fg gls) zsi 17=some zlU:=by kernel_rfl
theorem zvV:xV Try.prog (zN fg gls) zmH 21=some zf5:=by kernel_rfl
theorem zvu:xV Try.prog (zN fg gls) zmB 19=some zf7:=by kernel_rfl
theorem zDl:xV Try.prog (zN fg gls) ztn 79=some zmS:=by kernel_rfl
theorem zDf:xV Try.prog (zN fg gls) ztC 56=some zdH:=by kernel_rfl
theorem zCh:xV Try.prog (zN fg gls) zsC 55=some zdT:=by kernel_rfl
theorem zBC:xV Try.prog (zN fg gls) zsf 23=some zdO:=by kernel_rfl
theorem zBA:xV Try.prog (zN fg gls) zrv 38=some zkz:=by kernel_rfl
theorem zAr:xV Try.prog (zN fg gls) zrr 62=some zku:=by kernel_rfl
theorem zAN:xV Try.prog (zN fg gls) zrx 63=some zbE:=by kernel_rfl
theorem zAg:xV Try.prog (zN fg gls) zrw 64=some zkF:=by kernel_rfl
theorem zC9:xV Try.prog (zN fg gls) ztu 43=some zfG:=by kernel_rfl
theorem zDq:xV Try.prog (zN fg gls) ztI 31=some zmY:=by kernel_rfl
theorem zEF:xV Try.prog (zN fg gls) zu5 37=some zoZ:=by kernel_rfl
theorem zCk:xV Try.prog (zN fg gls) zsU 14=some zlY:=by kernel_rfl
theorem zDL:xV Try.prog (zN fg gls) zu4 10=some zgv:=by kernel_rfl
theorem zDV:xV Try.prog (zN fg gls) zuL 11=some zoL:=by kernel_rfl
theorem zCa:xV Try.prog (zN fg gls) zse 12=some zlS:=by kernel_rfl
theorem zzZ:xV Try.prog (zN fg gls) zqP 58=some zjb:=by kernel_rfl
theorem zzY:xV Try.prog (zN fg gls) zqI 30=some zjd:=by kernel_rfl
theorem zz8:xV Try.prog (zN fg gls) zrB 32=some zkJ:=by kernel_rfl
theorem zDP:xV Try.prog (zN fg gls) zva 33=some zpc:=by kernel_rfl
theorem zzE:xV Try.prog (zN fg gls) zqO 34=some zjy:=by kernel_rfl
theorem zDd:xV Try.prog (zN fg gls) ztJ 35=some zmX:=by kernel_rfl
theorem zwG:xV Try.prog (zN fg gls) zny 27=some zbX:=by kernel_rfl
theorem zC8:xV Try.prog (zN fg gls) ztx 15=some zmR:=by kernel_rfl
theorem ztW:xV Try.prog (zN fg gls) zln 7=some za3:=by kernel_rfl
theorem zJr:∀ r∈rows,(r.f,r.g)∈fg∧zfw Try.prog r.f=true∧xV Try.prog (zN fg gls) r.h r.f=some r.c:=by
 intro r hr
 simp only [rows,List.mem_cons,List.not_mem_nil,or_false] at hr
 rcases hr with rfl | rfl | rfl | rfl | rfl | rfl | rfl | rfl | rfl | rfl | rfl | rfl | rfl | rfl | rfl | rfl | rfl | rfl | rfl | rfl | rfl | rfl | rfl | rfl | rfl | rfl | rfl | rfl | rfl | rfl | rfl | rfl | rfl | rfl | rfl | rfl | rfl | rfl | rfl | rfl | rfl | rfl | rfl | rfl | rfl | rfl | rfl | rfl | rfl | rfl | rfl | rfl | rfl | rfl | rfl | rfl | rfl | rfl | rfl | rfl | rfl | rfl | rfl | rfl | rfl | rfl | rfl | rfl | rfl
 ·exact ⟨of_decide_eq_true (by kernel_rfl),by kernel_rfl,zE4⟩
 ·exact ⟨of_decide_eq_true (by kernel_rfl),by kernel_rfl,zGe⟩
 ·exact ⟨of_decide_eq_true (by kernel_rfl),by kernel_rfl,zyr⟩
 ·exact ⟨of_decide_eq_true (by kernel_rfl),by kernel_rfl,zAm⟩
 ·exact ⟨of_decide_eq_true (by kernel_rfl),by kernel_rfl,zA0⟩
 ·exact ⟨of_decide_eq_true (by kernel_rfl),by kernel_rfl,zw1⟩
 ·exact ⟨of_decide_eq_true (by kernel_rfl),by kernel_rfl,zrV⟩
 ·exact ⟨of_decide_eq_true (by kernel_rfl),by kernel_rfl,zDt⟩
 ·exact ⟨of_decide_eq_true (by kernel_rfl),by kernel_rfl,zDk⟩
 ·exact ⟨of_decide_eq_true (by kernel_rfl),by kernel_rfl,zGv⟩
 ·exact ⟨of_decide_eq_true (by kernel_rfl),by kernel_rfl,zth⟩
 ·exact ⟨of_decide_eq_true (by kernel_rfl),by kernel_rfl,zwq⟩
 ·exact ⟨of_decide_eq_true (by kernel_rfl),by kernel_rfl,zyP⟩
 ·exact ⟨of_decide_eq_true (by kernel_rfl),by kernel_rfl,zx3⟩
 ·exact ⟨of_decide_eq_true (by kernel_rfl),by kernel_rfl,zte⟩
 ·exact ⟨of_decide_eq_true (by kernel_rfl),by kernel_rfl,zwB⟩
 ·exact ⟨of_decide_eq_true (by kernel_rfl),by kernel_rfl,zyB⟩
 ·exact ⟨of_decide_eq_true (by kernel_rfl),by kernel_rfl,zle⟩
 ·exact ⟨of_decide_eq_true (by kernel_rfl),by kernel_rfl,zxs⟩
 ·exact ⟨of_decide_eq_true (by kernel_rfl),by kernel_rfl,zzr⟩
 ·exact ⟨of_decide_eq_true (by kernel_rfl),by kernel_rfl,zw6⟩
 ·exact ⟨of_decide_eq_true (by kernel_rfl),by kernel_rfl,zjc⟩
 ·exact ⟨of_decide_eq_true (by kernel_rfl),by kernel_rfl,zzt⟩
 ·exact ⟨of_decide_eq_true (by kernel_rfl),by kernel_rfl,zxW⟩
 ·exact ⟨of_decide_eq_true (by kernel_rfl),by kernel_rfl,zkP⟩
 ·exact ⟨of_decide_eq_true (by kernel_rfl),by kernel_rfl,zyy⟩
 ·exact ⟨of_decide_eq_true (by kernel_rfl),by kernel_rfl,zyE⟩
 ·exact ⟨of_decide_eq_true (by kernel_rfl),by kernel_rfl,zDp⟩
 ·exact ⟨of_decide_eq_true (by kernel_rfl),by kernel_rfl,zE0⟩
 ·exact ⟨of_decide_eq_true (by kernel_rfl),by kernel_rfl,zyS⟩
 ·exact ⟨of_decide_eq_true (by kernel_rfl),by kernel_rfl,zEW⟩
 ·exact ⟨of_decide_eq_true (by kernel_rfl),by kernel_rfl,zyL⟩
 ·exact ⟨of_decide_eq_true (by kernel_rfl),by kernel_rfl,zDW⟩
 ·exact ⟨of_decide_eq_true (by kernel_rfl),by kernel_rfl,zDj⟩
 ·exact ⟨of_decide_eq_true (by kernel_rfl),by kernel_rfl,zEq⟩
 ·exact ⟨of_decide_eq_true (by kernel_rfl),by kernel_rfl,zBc⟩
 ·exact ⟨of_decide_eq_true (by kernel_rfl),by kernel_rfl,zAT⟩
 ·exact ⟨of_decide_eq_true (by kernel_rfl),by kernel_rfl,zwY⟩
 ·exact ⟨of_decide_eq_true (by kernel_rfl),by kernel_rfl,zxp⟩
 ·exact ⟨of_decide_eq_true (by kernel_rfl),by kernel_rfl,zBH⟩
 ·exact ⟨of_decide_eq_true (by kernel_rfl),by kernel_rfl,zA1⟩
 ·exact ⟨of_decide_eq_true (by kernel_rfl),by kernel_rfl,zEQ⟩
 ·exact ⟨of_decide_eq_true (by kernel_rfl),by kernel_rfl,zBW⟩
 ·exact ⟨of_decide_eq_true (by kernel_rfl),by kernel_rfl,zvV⟩
 ·exact ⟨of_decide_eq_true (by kernel_rfl),by kernel_rfl,zvu⟩
 ·exact ⟨of_decide_eq_true (by kernel_rfl),by kernel_rfl,zDl⟩
 ·exact ⟨of_decide_eq_true (by kernel_rfl),by kernel_rfl,zDf⟩
 ·exact ⟨of_decide_eq_true (by kernel_rfl),by kernel_rfl,zCh⟩
 ·exact ⟨of_decide_eq_true (by kernel_rfl),by kernel_rfl,zBC⟩
 ·exact ⟨of_decide_eq_true (by kernel_rfl),by kernel_rfl,zBA⟩
 ·exact ⟨of_decide_eq_true (by kernel_rfl),by kernel_rfl,zAr⟩
 ·exact ⟨of_decide_eq_true (by kernel_rfl),by kernel_rfl,zAN⟩
 ·exact ⟨of_decide_eq_true (by kernel_rfl),by kernel_rfl,zAg⟩
 ·exact ⟨of_decide_eq_true (by kernel_rfl),by kernel_rfl,zC9⟩
 ·exact ⟨of_decide_eq_true (by kernel_rfl),by kernel_rfl,zDq⟩
 ·exact ⟨of_decide_eq_true (by kernel_rfl),by kernel_rfl,zEF⟩
 ·exact ⟨of_decide_eq_true (by kernel_rfl),by kernel_rfl,zCk⟩
 ·exact ⟨of_decide_eq_true (by kernel_rfl),by kernel_rfl,zDL⟩
 ·exact ⟨of_decide_eq_true (by kernel_rfl),by kernel_rfl,zDV⟩
 ·exact ⟨of_decide_eq_true (by kernel_rfl),by kernel_rfl,zCa⟩
 ·exact ⟨of_decide_eq_true (by kernel_rfl),by kernel_rfl,zzZ⟩
 ·exact ⟨of_decide_eq_true (by kernel_rfl),by kernel_rfl,zzY⟩
 ·exact ⟨of_decide_eq_true (by kernel_rfl),by kernel_rfl,zz8⟩
 ·exact ⟨of_decide_eq_true (by kernel_rfl),by kernel_rfl,zDP⟩
 ·exact ⟨of_decide_eq_true (by kernel_rfl),by kernel_rfl,zzE⟩
 ·exact ⟨of_decide_eq_true (by kernel_rfl),by kernel_rfl,zDd⟩
 ·exact ⟨of_decide_eq_true (by kernel_rfl),by kernel_rfl,zwG⟩
 ·exact ⟨of_decide_eq_true (by kernel_rfl),by kernel_rfl,zC8⟩
 ·exact ⟨of_decide_eq_true (by kernel_rfl),by kernel_rfl,ztW⟩
theorem mixed:Try.prog.follows .mixedOrders=true:=by kernel_rfl
theorem zKF:zH3 fg=true:=by kernel_rfl
theorem zKy:zjv Try.prog (zN fg gls) zvE:=zJR (zJP (by kernel_rfl)) (zJM (f0:=60) (g0:=399) (by kernel_rfl) rfl (zKf zK6 (of_decide_eq_true (by kernel_rfl))))
theorem zKs(L d:Nat):zjv Try.prog (zN fg gls) (evF (zH rows) zvE L d):=zJl mixed zKF zKy zJr L d
theorem zxM(L:Nat):FOk (zH rows) L 112 (zol xu L) 1:=xD (D:=0) (by kernel_rfl) fun m hm=>⟨zd3,zd2 L,yD,zDg L⟩
theorem zze(L:Nat):FOk (zH rows) L 109 (zqL zae L) 2:=xD (D:=1) (by kernel_rfl) fun m hm=>⟨zvs,zvt xu L,(xh yD (zxM L m (by omega))),zD2 L⟩
theorem zhI(L:Nat):FOk (zH rows) L 269 (zdM zj L) 1:=xD (D:=0) (by kernel_rfl) fun m hm=>⟨zms,zmd L,yD,zww L⟩
theorem zsy(L:Nat):FOk (zH rows) L 192 (ziN xI L) 1:=xD (D:=0) (by kernel_rfl) fun m hm=>⟨zcb,zcg L,yD,zyF L⟩
theorem zsW(L:Nat):FOk (zH rows) L 191 (zis xH L) 1:=xD (D:=0) (by kernel_rfl) fun m hm=>⟨zn6,zom L,yD,zyX L⟩
theorem zpp(L:Nat):FOk (zH rows) L 157 (zfM zw L) 2:=xD (D:=1) (by kernel_rfl) fun m hm=>⟨zk3,zlr xI xH L,(xh (xh yD (zsy L m (by omega))) (zsW L m (by omega))),zvS L⟩
theorem zjK(L:Nat):FOk (zH rows) L 118 (zcV zc L) 1:=xD (D:=0) (by kernel_rfl) fun m hm=>⟨zf1,zf4 L,yD,zqz L⟩
theorem zuJ(L:Nat):FOk (zH rows) L 113 (zkR zo L) 2:=xD (D:=1) (by kernel_rfl) fun m hm=>⟨zc6,zc5 zc L,(xh yD (zjK L m (by omega))),zAq L⟩
theorem zBZ(L:Nat):FOk (zH rows) L 111 (znZ yx L) 3:=xD (D:=2) (by kernel_rfl) fun m hm=>⟨zq5,zrn zo L,(xh yD (zuJ L m (by omega))),zz4 L⟩
theorem zzb(L:Nat):FOk (zH rows) L 105 (zqN y5 L) 4:=xD (D:=3) (by kernel_rfl) fun m hm=>⟨ze0,zeY xu yx zo L,(xh (xh (xh yD (zxM L m (by omega))) (zBZ L m (by omega))) (zuJ L m (by omega))),zDM L⟩
theorem zgp(L:Nat):FOk (zH rows) L 297 (zcC yb L) 5:=xD (D:=4) (by kernel_rfl) fun m hm=>⟨zg5,zg3 zae zj zw y5 L,(xh (xh (xh (xh yD (zze L m (by omega))) (zhI L m (by omega))) (zpp L m (by omega))) (zzb L m (by omega))),zrI L⟩
theorem zvo(L:Nat):FOk (zH rows) L 296 (zhH yh L) 6:=xD (D:=5) (by kernel_rfl) fun m hm=>⟨zj3,zjZ yb L,(xh yD (zgp L m (by omega))),zuS L⟩
theorem zxA(L:Nat):FOk (zH rows) L 295 (zjj zY L) 7:=xD (D:=6) (by kernel_rfl) fun m hm=>⟨zaX,zaW yh L,(xh yD (zvo L m (by omega))),zwv L⟩
theorem zwr(L:Nat):FOk (zH rows) L 205 (zig xU L) 2:=xD (D:=1) (by kernel_rfl) fun m hm=>⟨zlp,zkZ xI xH L,(xh (xh yD (zsy L m (by omega))) (zsW L m (by omega))),zvW L⟩
theorem zk2(L:Nat):FOk (zH rows) L 299 (zdC zq L) 5:=xD (D:=4) (by kernel_rfl) fun m hm=>⟨zhc,zhb zae zw xU y5 zj L,(xh (xh (xh (xh (xh yD (zze L m (by omega))) (zpp L m (by omega))) (zwr L m (by omega))) (zzb L m (by omega))) (zhI L m (by omega))),zrJ L⟩
theorem zvw(L:Nat):FOk (zH rows) L 298 (zhf zh L) 6:=xD (D:=5) (by kernel_rfl) fun m hm=>⟨zj9,zkg zq L,(xh yD (zk2 L m (by omega))),zve L⟩
theorem zuz(L:Nat):FOk (zH rows) L 295 (zgS zO L) 7:=xD (D:=6) (by kernel_rfl) fun m hm=>⟨zao,zan zh L,(xh yD (zvw L m (by omega))),zt0 L⟩
theorem zk8(L:Nat):FOk (zH rows) L 275 (zeR xq L) 8:=xD (D:=7) (by kernel_rfl) fun m hm=>⟨zmq,zmm zY zO L,(zpQ (zpQ yD (zxA L m (by omega))) (zuz L m (by omega))),zwM L⟩
theorem zkO(L:Nat):FOk (zH rows) L 401 (zbN zp L) 1:=xD (D:=0) (by kernel_rfl) fun m hm=>⟨zc3,zcS L,yD,zj7 L⟩
theorem zpC(L:Nat):FOk (zH rows) L 394 (zfQ xB L) 2:=xD (D:=1) (by kernel_rfl) fun m hm=>⟨zk4,zlm zp L,(xh yD (zkO L m (by omega))),zvR L⟩
theorem zyw(L:Nat):FOk (zH rows) L 404 (zkK y7 L) 1:=xD (D:=0) (by kernel_rfl) fun m hm=>⟨znt,zni L,yD,zw7 L⟩
theorem zpu(L:Nat):FOk (zH rows) L 403 (zfK zd L) 2:=xD (D:=1) (by kernel_rfl) fun m hm=>⟨zk0,zkW y7 L,(xh yD (zyw L m (by omega))),zvH L⟩
theorem ziQ(L:Nat):FOk (zH rows) L 402 (za7 zn L) 3:=xD (D:=2) (by kernel_rfl) fun m hm=>⟨xC,yC zd L,(xh yD (zpu L m (by omega))),ziP L⟩
theorem zyQ(L:Nat):FOk (zH rows) L 395 (zkD xZ L) 4:=xD (D:=3) (by kernel_rfl) fun m hm=>⟨zno,znn zn L,(xh yD (ziQ L m (by omega))),zw0 L⟩
theorem zkc(L:Nat):FOk (zH rows) L 398 (zem yc L) 1:=xD (D:=0) (by kernel_rfl) fun m hm=>⟨xR,zR L,yD,zvB L⟩
theorem zcE(L:Nat):FOk (zH rows) L 399 (zaj ya L) 1:=zJu (d:=zaj ya L) (by kernel_rfl) rfl (fun β args bor k r h=>by
 unfold zaj ya at h
 split at h
 ·have q:=zhd h; clear h; obtain ⟨n,rfl,h⟩:=q
  have q:=yo h; clear h; obtain ⟨i,rfl,h⟩:=q
  have q:=zhd h; clear h; obtain ⟨m,rfl,h⟩:=q
  obtain ⟨hk,h⟩:=zC h
  exact ⟨n,i,m,_,_,rfl,rfl,hk,h⟩
 ·cases h)
theorem zbn(L:Nat):FOk (zH rows) L 400 (zZ za L) 1:=xD (D:=0) (by kernel_rfl) fun m hm=>⟨zcL,zcK L,yD,zjO L⟩
theorem zxK(L:Nat):FOk (zH rows) L 396 (zjh xX L) 6:=xD (D:=5) (by kernel_rfl) fun m hm=>⟨zaB,zaC yb yc ya za L,(xh (xh (xh (xh yD (zgp L m (by omega))) (zkc L m (by omega))) (zcE L m (by omega))) (zbn L m (by omega))),zwx L⟩
theorem zxd(L:Nat):FOk (zH rows) L 382 (ziX yV L) 9:=xD (D:=8) (by kernel_rfl) fun m hm=>⟨zmf,zl9 xq xB xZ xX L,(xh (xh (xh (xh yD (zk8 L m (by omega))) (zpC L m (by omega))) (zyQ L m (by omega))) (zxK L m (by omega))),zwF L⟩
theorem zBV(L:Nat):FOk (zH rows) L 379 (zon zu L) 10:=xD (D:=9) (by kernel_rfl) fun m hm=>⟨zrd,zqX yV zj L,(xh (xh yD (zxd L m (by omega))) (zhI L m (by omega))),zA4 L⟩
theorem zDI(L:Nat):FOk (zH rows) L 225 (zrH yA L) 1:=xD (D:=0) (by kernel_rfl) fun m hm=>⟨zun,zt4 L,yD,zDm L⟩
theorem zxv(L:Nat):FOk (zH rows) L 247 (zi2 xY L) 1:=xD (D:=0) (by kernel_rfl) fun m hm=>⟨zl8,zl4 L,yD,zwD L⟩
theorem zxY(L:Nat):FOk (zH rows) L 217 (zoz xS L) 1:=xD (D:=0) (by kernel_rfl) fun m hm=>⟨zuh,ztM L,yD,zDb L⟩
theorem zhN(L:Nat):FOk (zH rows) L 231 (zdN yd L) 2:=xD (D:=1) (by kernel_rfl) fun m hm=>⟨zmt,zl5 xY xS L,(xh (xh yD (zxv L m (by omega))) (zxY L m (by omega))),zwE L⟩
theorem zDn(L:Nat):FOk (zH rows) L 236 (zqj zB L) 3:=xD (D:=2) (by kernel_rfl) fun m hm=>⟨zsK,zs7 yd L,(xh yD (zhN L m (by omega))),zBS L⟩
theorem zu2(L:Nat):FOk (zH rows) L 115 (zlC xm L) 1:=xD (D:=0) (by kernel_rfl) fun m hm=>⟨zc9,zc8 L,yD,zBh L⟩
theorem zwd(L:Nat):FOk (zH rows) L 110 (zmM zT L) 2:=xD (D:=1) (by kernel_rfl) fun m hm=>⟨zsZ,zsm xm L,(xh yD (zu2 L m (by omega))),zBP L⟩
theorem zsp(L:Nat):FOk (zH rows) L 194 (ziO zI L) 1:=xD (D:=0) (by kernel_rfl) fun m hm=>⟨zce,zch L,yD,zys L⟩
theorem zsh(L:Nat):FOk (zH rows) L 193 (ziK yI L) 1:=xD (D:=0) (by kernel_rfl) fun m hm=>⟨zoQ,zoX L,yD,zyA L⟩
theorem zpD(L:Nat):FOk (zH rows) L 159 (zfT yw L) 2:=xD (D:=1) (by kernel_rfl) fun m hm=>⟨zlk,zlu zI yI L,(xh (xh yD (zsp L m (by omega))) (zsh L m (by omega))),zv7 L⟩
theorem zwJ(L:Nat):FOk (zH rows) L 304 (zim zV L) 2:=xD (D:=1) (by kernel_rfl) fun m hm=>⟨zlj,zls zI yI L,(xh (xh yD (zsp L m (by omega))) (zsh L m (by omega))),zvg L⟩
theorem ztH(L:Nat):FOk (zH rows) L 116 (zjP xj L) 2:=xD (D:=1) (by kernel_rfl) fun m hm=>⟨zpK,zpI zc L,(xh yD (zjK L m (by omega))),zzC L⟩
theorem zzG(L:Nat):FOk (zH rows) L 114 (zlP yq L) 3:=xD (D:=2) (by kernel_rfl) fun m hm=>⟨zow,zoM xj L,(xh yD (ztH L m (by omega))),zyK L⟩
theorem zwf(L:Nat):FOk (zH rows) L 106 (zmy yP L) 4:=xD (D:=3) (by kernel_rfl) fun m hm=>⟨zdy,zdA xm yq xj L,(xh (xh (xh yD (zu2 L m (by omega))) (zzG L m (by omega))) (ztH L m (by omega))),zBY L⟩
theorem zo2(L:Nat):FOk (zH rows) L 294 (zhe yy L) 1:=xD (D:=0) (by kernel_rfl) fun m hm=>⟨zqe,zpU L,yD,zzL L⟩
theorem znJ(L:Nat):FOk (zH rows) L 290 (zeB ze L) 5:=xD (D:=4) (by kernel_rfl) fun m hm=>⟨zi6,zjf zT yw zV yP yy L,(xh (xh (xh (xh (xh yD (zwd L m (by omega))) (zpD L m (by omega))) (zwJ L m (by omega))) (zwf L m (by omega))) (zo2 L m (by omega))),zum L⟩
theorem znw(L:Nat):FOk (zH rows) L 305 (zeD xb L) 5:=xD (D:=4) (by kernel_rfl) fun m hm=>⟨zjA,zjk zT yy yw yP L,(xh (xh (xh (xh yD (zwd L m (by omega))) (zo2 L m (by omega))) (zpD L m (by omega))) (zwf L m (by omega))),ztT L⟩
theorem zvc(L:Nat):FOk (zH rows) L 303 (zlf zf L) 1:=xD (D:=0) (by kernel_rfl) fun m hm=>⟨zq7,zqY L,yD,zA3 L⟩
theorem zlX(L:Nat):FOk (zH rows) L 287 (zgy xc L) 2:=xD (D:=1) (by kernel_rfl) fun m hm=>⟨zcx,zcw zf L,(xh yD (zvc L m (by omega))),zBr L⟩
theorem zBq(L:Nat):FOk (zH rows) L 302 (zmZ yn L) 6:=xD (D:=5) (by kernel_rfl) fun m hm=>⟨zb5,zb6 ze xb xc L,(xh (xh (xh yD (znJ L m (by omega))) (znw L m (by omega))) (zlX L m (by omega))),zzU L⟩
theorem zkI(L:Nat):FOk (zH rows) L 281 (zfz xp L) 7:=xD (D:=6) (by kernel_rfl) fun m hm=>⟨zb9,zb8 yn xc L,(xh (xh yD (zBq L m (by omega))) (zlX L m (by omega))),zzP L⟩
theorem zi3(L:Nat):FOk (zH rows) L 288 (zeW xe L) 1:=xD (D:=0) (by kernel_rfl) fun m hm=>⟨zod,zoa L,yD,zyN L⟩
theorem zm8(L:Nat):FOk (zH rows) L 289 (zgg yg L) 1:=xD (D:=0) (by kernel_rfl) fun m hm=>⟨zoC,zoH L,yD,zyR L⟩
theorem zsl(L:Nat):FOk (zH rows) L 291 (ziq yj L) 1:=xD (D:=0) (by kernel_rfl) fun m hm=>⟨z8,z7 L,yD,zyM L⟩
theorem zwA(L:Nat):FOk (zH rows) L 291 (zh8 yU L) 1:=xD (D:=0) (by kernel_rfl) fun m hm=>⟨yR,zS L,yD,zvi L⟩
theorem zsv(L:Nat):FOk (zH rows) L 292 (ziy zi L) 2:=xD (D:=1) (by kernel_rfl) fun m hm=>⟨zoI,zoA yU L,(xh yD (zwA L m (by omega))),zyO L⟩
theorem zyW(L:Nat):FOk (zH rows) L 287 (zkx zm L) 2:=xD (D:=1) (by kernel_rfl) fun m hm=>⟨zbk,zbg zf L,(xh yD (zvc L m (by omega))),zx5 L⟩
theorem zuU(L:Nat):FOk (zH rows) L 293 (zk6 zM L) 6:=xD (D:=5) (by kernel_rfl) fun m hm=>⟨zb1,zb3 xe zm xb yj zi yg L,(xh (xh (xh (xh (xh (xh yD (zi3 L m (by omega))) (zyW L m (by omega))) (znw L m (by omega))) (zsl L m (by omega))) (zsv L m (by omega))) (zm8 L m (by omega))),zz3 L⟩
theorem zuE(L:Nat):FOk (zH rows) L 272 (zlD xf L) 8:=xD (D:=7) (by kernel_rfl) fun m hm=>⟨zro,zrb xp xc xe yg ze yj zi yy zM L,(xh (xh (xh (xh (xh (xh (xh (xh (xh yD (zkI L m (by omega))) (zlX L m (by omega))) (zi3 L m (by omega))) (zm8 L m (by omega))) (znJ L m (by omega))) (zsl L m (by omega))) (zsv L m (by omega))) (zo2 L m (by omega))) (zuU L m (by omega))),zAC L⟩
theorem zwp(L:Nat):FOk (zH rows) L 262 (zmG xo L) 3:=xD (D:=2) (by kernel_rfl) fun m hm=>⟨zsc,zs0 yd L,(xh yD (zhN L m (by omega))),zBG L⟩
theorem zBy(L:Nat):FOk (zH rows) L 273 (zm1 yv L) 8:=xD (D:=7) (by kernel_rfl) fun m hm=>⟨zp2,zqd xp zM L,(xh (xh yD (zkI L m (by omega))) (zuU L m (by omega))),zzz L⟩
theorem zC4(L:Nat):FOk (zH rows) L 260 (zqk zy L) 9:=xD (D:=8) (by kernel_rfl) fun m hm=>⟨zdB,zdz zB yd xf xo yv L,(xh (xh (xh (xh (xh yD (zDn L m (by omega))) (zhN L m (by omega))) (zuE L m (by omega))) (zwp L m (by omega))) (zBy L m (by omega))),zBX L⟩
theorem zC7(L:Nat):FOk (zH rows) L 380 (zqv xw L) 4:=xD (D:=3) (by kernel_rfl) fun m hm=>⟨zsL,zs1 yd xo L,(xh (xh yD (zhN L m (by omega))) (zwp L m (by omega))),zCe L⟩
theorem zAy(L:Nat):FOk (zH rows) L 381 (zmV xk L) 2:=xD (D:=1) (by kernel_rfl) fun m hm=>⟨zpP,zpG xe xS L,(xh (xh yD (zi3 L m (by omega))) (zxY L m (by omega))),zzF L⟩
theorem zh0(L:Nat):FOk (zH rows) L 402 (zaR ym L) 3:=xD (D:=2) (by kernel_rfl) fun m hm=>⟨zz,yz zd L,(xh yD (zpu L m (by omega))),zhp L⟩
theorem zvU(L:Nat):FOk (zH rows) L 395 (zhO xQ L) 4:=xD (D:=3) (by kernel_rfl) fun m hm=>⟨zj2,zkd ym L,(xh yD (zh0 L m (by omega))),zuV L⟩
theorem zrs(L:Nat):FOk (zH rows) L 397 (zhE zE L) 9:=xD (D:=8) (by kernel_rfl) fun m hm=>⟨znj,zm5 xq xQ xB za L,(xh (xh (xh (xh yD (zk8 L m (by omega))) (zvU L m (by omega))) (zpC L m (by omega))) (zbn L m (by omega))),zx4 L⟩
theorem ztZ(L:Nat):FOk (zH rows) L 398 (zga yS L) 1:=xD (D:=0) (by kernel_rfl) fun m hm=>⟨yL,xL L,yD,ztg L⟩
theorem ziR(L:Nat):FOk (zH rows) L 400 (zbe zt L) 1:=xD (D:=0) (by kernel_rfl) fun m hm=>⟨zcn,zcm L,yD,ziM L⟩
theorem zu8(L:Nat):FOk (zH rows) L 396 (zgI zP L) 6:=xD (D:=5) (by kernel_rfl) fun m hm=>⟨zaf,zag yb yc ya za L,(xh (xh (xh (xh yD (zgp L m (by omega))) (zkc L m (by omega))) (zcE L m (by omega))) (zbn L m (by omega))),ztY L⟩
theorem zyJ(L:Nat):FOk (zH rows) L 389 (zkC yk L) 10:=xD (D:=9) (by kernel_rfl) fun m hm=>⟨zm4,znr zE zq yS zt yc ya za zj zP L,(xh (xh (zpQ (xh (zpQ (zpQ (zpQ (xh (xh yD (zrs L m (by omega))) (zk2 L m (by omega))) (ztZ L m (by omega))) (ziR L m (by omega))) (zkc L m (by omega))) (zcE L m (by omega))) (zbn L m (by omega))) (zhI L m (by omega))) (zu8 L m (by omega))),zxP L⟩
theorem zzQ(L:Nat):FOk (zH rows) L 390 (zlW xl L) 10:=xD (D:=9) (by kernel_rfl) fun m hm=>⟨zoy,zn4 zE L,(xh yD (zrs L m (by omega))),zyv L⟩
theorem zDi(L:Nat):FOk (zH rows) L 391 (zqr zx L) 8:=xD (D:=7) (by kernel_rfl) fun m hm=>⟨zsY,zsd xp xc xe yg L,(xh (xh (xh (xh yD (zkI L m (by omega))) (zlX L m (by omega))) (zi3 L m (by omega))) (zm8 L m (by omega))),zBN L⟩
theorem zyx(L:Nat):FOk (zH rows) L 392 (zkl zl L) 9:=xD (D:=8) (by kernel_rfl) fun m hm=>⟨znb,znl xq L,(xh yD (zk8 L m (by omega))),zxj L⟩
theorem zCi(L:Nat):FOk (zH rows) L 393 (zpe xt L) 8:=xD (D:=7) (by kernel_rfl) fun m hm=>⟨zre,zq2 xp L,(xh yD (zkI L m (by omega))),zAx L⟩
theorem zvD(L:Nat):FOk (zH rows) L 387 (zhl xO L) 1:=xD (D:=0) (by kernel_rfl) fun m hm=>⟨zat,zau L,yD,zu7 L⟩
theorem zBJ(L:Nat):FOk (zH rows) L 383 (zoJ yt L) 2:=xD (D:=1) (by kernel_rfl) fun m hm=>⟨zq3,zq6 xO L,(xh yD (zvD L m (by omega))),zAS L⟩
theorem zta(L:Nat):FOk (zH rows) L 378 (zfg zbp L) 11:=xD (D:=10) (by kernel_rfl) fun m hm=>⟨zad,zab zu yA zy xw xk yk xf xl zx zl xt yt L,(xh (xh (xh (xh (xh (xh (xh (xh (xh (xh (xh (xh yD (zBV L m (by omega))) (zDI L m (by omega))) (zC4 L m (by omega))) (zC7 L m (by omega))) (zAy L m (by omega))) (zyJ L m (by omega))) (zuE L m (by omega))) (zzQ L m (by omega))) (zDi L m (by omega))) (zyx L m (by omega))) (zCi L m (by omega))) (zBJ L m (by omega))),zsQ L⟩
end
section
set_option maxRecDepth 100000
variable {β:Type}
structure Adr where
 h:Int
 p:Int
 t:Int
def Adr.v(a:Adr):List V:=[.sc (.int .u32 a.h),.sc (.int .u16 a.p),.sc (.int .u32 a.t)]
def grp(a:Adr):Int:=zpT .u32 a.h 16
theorem zvr(L:Nat)(a:Adr)(k:Int→Option β):zj β L a.v k=k (grp a):=by
 simp only [zj,zm9,Adr.v,yi]
 rw [xF (by rfl)]; rfl
theorem zzO(L:Nat)(a:Adr)(k:Int→Option β):yy β L a.v k=k (grp a):=by
 simp only [yy,zrc,Adr.v,yi]
 rw [xF (by rfl)]; rfl
structure Plc where
 b:Int
 a:Adr
 s:Int
def Plc.v(e:Plc):List V:=[.sc (.int .i64 e.b),.sc (.int .u32 e.a.h),.sc (.int .u16 e.a.p),.sc (.int .u32 e.a.t),.sc (.int .u32 e.s)]
def yF(l:List Plc):List (List V):=l.map Plc.v
theorem zK(l:List Plc):(yF l).length=l.length:=by simp [yF]
theorem za1{l:List Plc}{i:Nat}(h:i<l.length):(yF l)[i]?=some l[i].v:=by simp [yF,h]
theorem zzR(l m:List Plc):yF l++yF m=yF (l++m):=by simp [yF]
def zLd(l:List Adr):List (List V):=l.map Adr.v
structure Bk where
 salt:List Int
 H:List Plc
 T:List Plc
 hs:salt.length=32
def Bk.v(b:Bk):List V:=row .u8 b.salt++[.sl 5 (yF b.H),.sl 5 (yF b.T)]
theorem Bk.len(b:Bk):b.v.length=34:=by simp [Bk.v,zbo,b.hs]
theorem Bk.take(b:Bk):XK 34 b.v=b.v:=List.take_of_length_le (by rw [b.len]; exact Nat.le_refl _)
theorem zJF(k:IntKind)(l:List Int):(row k l).map V.dem=row k l:=by simp [row,V.dem]
theorem Bk.dem(b:Bk):Xt V.dem b.v=b.v:=by
 rw [Bk.v,List.map_append,zJF]; rfl
theorem Bk.g32(b:Bk):b.v[32]?=some (.sl 5 (yF b.H)):=by
 rw [Bk.v,Wt (by rw [zbo,b.hs]; omega),zbo,b.hs]; rfl
theorem Bk.g33(b:Bk):b.v[33]?=some (.sl 5 (yF b.T)):=by
 rw [Bk.v,Wt (by rw [zbo,b.hs]; omega),zbo,b.hs]; rfl
end
end Go.Proofs.Ytbimgceighecgaa
