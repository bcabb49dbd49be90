/- Part 13 of the proof of AddrbookBuckets: an abstract machine over plain values, its soundness, and the functions of the program on plain values. -/
import Derived.Test.YtbimgceighecgaaMAddrbookBuckets12
namespace Go.Proofs.Ytbimgceighecgaa
set_option linter.unusedVariables false
set_option linter.unusedSimpArgs false
open IntKind renaming wrap->QF
open List renaming take->XL,length->XJ,take_succ_eq_append_getElem->XS,drop->XM,getElem?_eq_getElem->Wb,drop_eq_getElem_cons->WP,drop_of_length_le->WI,length_take->Ww,take_of_length_le->Xu,mem_take_iff_getElem->XV,pairwise_append->Xr,all_eq_true->QN,length_append->Wm,drop_zero->XY,filter_append->XZ,getElem?_append_right->Wt,map->Xt,pairwise_iff_getElem->X0,any_eq_false->X3,map_cons->QV,getElem?_take_of_lt->X4,getElem_mem->W1,map_nil->X6,map_append->X7,nil_append->XE,filter_eq_nil_iff->X8,mem_append->QC,length_filter_le->X9,mem_append_left->Xc,replicate_zero->Yb
open Bool renaming true_and->XT,and_eq_true->Wg,false_and->Xo,not_eq_true'->Q8,and_assoc->Ya
open Int renaming toNat->XK,tmod->XQ
open Nat renaming zero_add->WB,reduceLeDiff->XU,le_refl->Wq,reduceAdd->XW,reduceMul->XX,sub_zero->X5
open Option renaming getD->XP
section
set_option maxRecDepth 100000
def zjk:CF:=⟨73,[.cellS 6 34 true],(.seq (.reg [oo 3 (.box false (tq 0)),oo 6 (.alloc false (rp 32 (.sc (.int .u8 0)) (rp 2 (.gs 5 []) [])))]) (.seq (.reg [Qk 8 34 (tq 3),oo 9 (.call 288 [((tq 8),1)] [10,13]),Qm 34 (tq 3) (tq 9)]) (.seq (.seq (.reg [Ql 10 32 (tq 3),Qj 11 1 (tq 10),Qr 12 (tq 11),Qp 13 .gtr (tq 12) (Qf 0)]) (.cond (tq 13) (.seq (.dreg [] [(Ql 14 32 (tq 3),q0),(Qj 15 1 (tq 14),ql 3 [] []),(Qh 16 (tq 2),q0),(Ql 17 32 (tq 3),q0),(Qj 18 1 (tq 17),ql 3 [] []),(Qr 19 (tq 18),q0),(Qs 20 217 [(Qw 16),(Qw 19)],qc [3] []),(Qo 21 5 (tq 15) (tq 20),q0),(Qh 7 (tq 21),q0)]) (.seq (.reg [Qh 22 (tq 1),Qs 23 217 [(Qw 22),((Qf 6),0)]]) (.block 0 (.seq (.reg [Qp 25 .eql (tq 23) (Qf 0),Qh 24 (tq 25)]) (.cond (tq 24) (.reg [Qh 26 (tq 7),Qh 27 (tq 2),Qs 28 217 [(Qw 27),((Qf 70),0)],Qp 29 .sub (tq 28) (Qf 3),oo 30 (.nilCheck (tq 26)),Ql 31 0 (tq 30),Qm 1 (tq 31) (tq 29)]) (.seq (.reg [Qp 33 .eql (tq 23) (Qf 1),Qh 32 (tq 33)]) (.cond (tq 32) (.reg [Qh 34 (tq 7),oo 35 (.nilCheck (tq 34)),Ql 36 1 (tq 35),Ql 37 0 (tq 36),Qj 38 1 (tq 37),oo 39 (.bin .add (tq 38) (.const (.sc (.int .u32 1)))),oo 40 (.nilCheck (tq 34)),Ql 41 1 (tq 40),Ql 42 0 (tq 41),Qm 1 (tq 42) (tq 39)]) (.seq (.reg [Qp 44 .eql (tq 23) (Qf 2),Qh 43 (tq 44)]) (.cond (tq 43) (.reg [Qh 45 (tq 7),oo 46 (.nilCheck (tq 45)),Ql 47 4 (tq 46),Qj 48 1 (tq 47),oo 49 (.bin .add (tq 48) (.const (.sc (.int .u32 1)))),oo 50 (.nilCheck (tq 45)),Ql 51 4 (tq 50),Qm 1 (tq 51) (tq 49)]) (.seq (.reg [Qp 53 .eql (tq 23) (Qf 3),Qh 52 (tq 53)]) (.cond (tq 52) (.dreg [] [(Ql 54 33 (tq 3),q0),(oo 55 (.load false 1 (tq 54) true),ql 3 [7] [59]),(Qh 56 (tq 7),q0),(oo 57 (.nilCheck (tq 56)),q0),(Qk 58 5 (tq 57),ql 7 [3] []),(oo 59 (.buildSlice 5 1 [(.sc (.int .i64 0)),(.sc (.int .u32 0)),(.sc (.int .u16 0)),(.sc (.int .u32 0)),(.sc (.int .u32 0))] [(0,5,(tq 58))]),qn [3] []),(oo 60 (.append 5 24 (tq 55) (tq 59)),q0),(Ql 61 33 (tq 3),q0),(Qm 1 (tq 61) (tq 60),q0)]) (.seq (.reg [Qp 63 .eql (tq 23) (Qf 4),Qh 62 (tq 63)]) (.cond (tq 62) (.dreg [] [(Ql 64 32 (tq 3),q0),(oo 65 (.load false 1 (tq 64) true),ql 3 [7] [69]),(Qh 66 (tq 7),q0),(oo 67 (.nilCheck (tq 66)),q0),(Qk 68 5 (tq 67),ql 7 [3] []),(oo 69 (.buildSlice 5 1 [(.sc (.int .i64 0)),(.sc (.int .u32 0)),(.sc (.int .u16 0)),(.sc (.int .u32 0)),(.sc (.int .u32 0))] [(0,5,(tq 68))]),qn [3] []),(oo 70 (.append 5 24 (tq 65) (tq 69)),q0),(Ql 71 32 (tq 3),q0),(Qm 1 (tq 71) (tq 70),q0)]) .skip))))))))))))) .skip)) (.seq (.reg [oo 72 (.load true 34 (tq 3) true),Qm 34 (tq 6) (tq 72)]) .ret))))⟩
def zpV:Hint:=⟨[(12,1),(14,1),(15,0)],[],[none,none,none,none,none,none,none,none],[],[(1,1,[10,13])],true,true,[]⟩
def zm4:Nat→Sh:=zU [(3,(.row [(.int .u8),(.int .u8),(.int .u8),(.int .u8),(.int .u8),(.int .u8),(.int .u8),(.int .u8),(.int .u8),(.int .u8),(.int .u8),(.int .u8),(.int .u8),(.int .u8),(.int .u8),(.int .u8),(.int .u8),(.int .u8),(.int .u8),(.int .u8),(.int .u8),(.int .u8),(.int .u8),(.int .u8),(.int .u8),(.int .u8),(.int .u8),(.int .u8),(.int .u8),(.int .u8),(.int .u8),(.int .u8),(.sl 5),(.sl 5)])),(38,(.int .u32)),(48,(.int .u32))]
def zng(xd:zF)(xI:zhp)(L:Nat):CBC:=(yx 217 (zlj xI L) (yx 288 (zew xd L) noC))
def zct{β:Type}(xd:zF)(xI:zhp)(L:Nat)(C:List V)(p1 p2:Int)(E:List V→Option β):Option β:=chk (XJ C=34) (cI .u8 C 0 fun v0=>cI .u8 C 1 fun v1=>cI .u8 C 2 fun v2=>cI .u8 C 3 fun v3=>cI .u8 C 4 fun v4=>cI .u8 C 5 fun v5=>cI .u8 C 6 fun v6=>cI .u8 C 7 fun v7=>cI .u8 C 8 fun v8=>cI .u8 C 9 fun v9=>cI .u8 C 10 fun aw=>cI .u8 C 11 fun ax=>cI .u8 C 12 fun ay=>cI .u8 C 13 fun az=>cI .u8 C 14 fun aC=>cI .u8 C 15 fun aD=>cI .u8 C 16 fun aE=>cI .u8 C 17 fun aH=>cI .u8 C 18 fun aJ=>cI .u8 C 19 fun aK=>cI .u8 C 20 fun aN=>cI .u8 C 21 fun aQ=>cI .u8 C 22 fun aR=>cI .u8 C 23 fun aT=>cI .u8 C 24 fun aU=>cI .u8 C 25 fun aW=>cI .u8 C 26 fun aX=>cI .u8 C 27 fun aY=>cI .u8 C 28 fun aZ=>cI .u8 C 29 fun a0=>cI .u8 C 30 fun a1=>cI .u8 C 31 fun a2=>cL 5 C 32 fun a3=>cL 5 C 33 fun a4=>xd β L [(Qa v0),(Qa v1),(Qa v2),(Qa v3),(Qa v4),(Qa v5),(Qa v6),(Qa v7),(Qa v8),(Qa v9),(Qa aw),(Qa ax),(Qa ay),(Qa az),(Qa aC),(Qa aD),(Qa aE),(Qa aH),(Qa aJ),(Qa aK),(Qa aN),(Qa aQ),(Qa aR),(Qa aT),(Qa aU),(Qa aW),(Qa aX),(Qa aY),(Qa aZ),(Qa a0),(Qa a1),(Qa a2),(V.sl 5 a3),(V.sl 5 a4)] (fun I J M N O P Q R S U W X Y Z aa ab ac ad ae af ag ah ai aj ak al am an ao ap aq ar D F z G=>ifb (decide (((D:Nat):Int)>(0:Int))) (xI β L p2 ((D:Nat):Int) (fun A=>chk (0≤A∧A<((D:Nat):Int)) (xI β L p1 (6:Int) (fun au=>ifb ((au:Int)==(0:Int)) (xI β L p2 (70:Int) (fun a5=>lt (QF .i64 ((a5:Int)-(3:Int))) fun a6=>chk (1=1∧((0+((XK A)*5))+0)+1≤(XJ z)) (lt (zg z ((0+((XK A)*5))+0) [(Qe a6)]) fun a7=>E [(Qa I),(Qa J),(Qa M),(Qa N),(Qa O),(Qa P),(Qa Q),(Qa R),(Qa S),(Qa U),(Qa W),(Qa X),(Qa Y),(Qa Z),(Qa aa),(Qa ab),(Qa ac),(Qa ad),(Qa ae),(Qa af),(Qa ag),(Qa ah),(Qa ai),(Qa aj),(Qa ak),(Qa al),(Qa am),(Qa an),(Qa ao),(Qa ap),(Qa aq),(Qa ar),(V.sl 5 (xe 5 D a7)),(V.sl 5 (xe 5 F G))]))) (ifb ((au:Int)==(1:Int)) (cI .u32 z (((0+((XK A)*5))+1)+0) fun a8=>lt (QF .u32 ((a8:Int)+(1:Int))) fun a9=>chk (1=1∧(((0+((XK A)*5))+1)+0)+1≤(XJ z)) (lt (zg z (((0+((XK A)*5))+1)+0) [(Qc a9)]) fun ba=>E [(Qa I),(Qa J),(Qa M),(Qa N),(Qa O),(Qa P),(Qa Q),(Qa R),(Qa S),(Qa U),(Qa W),(Qa X),(Qa Y),(Qa Z),(Qa aa),(Qa ab),(Qa ac),(Qa ad),(Qa ae),(Qa af),(Qa ag),(Qa ah),(Qa ai),(Qa aj),(Qa ak),(Qa al),(Qa am),(Qa an),(Qa ao),(Qa ap),(Qa aq),(Qa ar),(V.sl 5 (xe 5 D ba)),(V.sl 5 (xe 5 F G))])) (ifb ((au:Int)==(2:Int)) (cI .u32 z ((0+((XK A)*5))+4) fun bb=>lt (QF .u32 ((bb:Int)+(1:Int))) fun bc=>chk (1=1∧((0+((XK A)*5))+4)+1≤(XJ z)) (lt (zg z ((0+((XK A)*5))+4) [(Qc bc)]) fun bd=>E [(Qa I),(Qa J),(Qa M),(Qa N),(Qa O),(Qa P),(Qa Q),(Qa R),(Qa S),(Qa U),(Qa W),(Qa X),(Qa Y),(Qa Z),(Qa aa),(Qa ab),(Qa ac),(Qa ad),(Qa ae),(Qa af),(Qa ag),(Qa ah),(Qa ai),(Qa aj),(Qa ak),(Qa al),(Qa am),(Qa an),(Qa ao),(Qa ap),(Qa aq),(Qa ar),(V.sl 5 (xe 5 D bd)),(V.sl 5 (xe 5 F G))])) (ifb ((au:Int)==(3:Int)) (chk ((0+((XK A)*5))+5≤(XJ z)) (chk ((XJ (XL 5 (XM (0+((XK A)*5)) z)))=5∧0+5≤5) (chk ((F+XJ (xe 5 1 (zg [(Qe (0:Int)),(Qc (0:Int)),(Qb (0:Int)),(Qc (0:Int)),(Qc (0:Int))] 0 (XL 5 (XM (0+((XK A)*5)) z)))))*24≤yn∧(F+XJ (xe 5 1 (zg [(Qe (0:Int)),(Qc (0:Int)),(Qb (0:Int)),(Qc (0:Int)),(Qc (0:Int))] 0 (XL 5 (XM (0+((XK A)*5)) z)))))≤yn∧((F+XJ (xe 5 1 (zg [(Qe (0:Int)),(Qc (0:Int)),(Qb (0:Int)),(Qc (0:Int)),(Qc (0:Int))] 0 (XL 5 (XM (0+((XK A)*5)) z)))))≠0∨(XJ G)=0)) (lt (XL (F*5) G++List.flatten (xe 5 1 (zg [(Qe (0:Int)),(Qc (0:Int)),(Qb (0:Int)),(Qc (0:Int)),(Qc (0:Int))] 0 (XL 5 (XM (0+((XK A)*5)) z))))) fun be=>E [(Qa I),(Qa J),(Qa M),(Qa N),(Qa O),(Qa P),(Qa Q),(Qa R),(Qa S),(Qa U),(Qa W),(Qa X),(Qa Y),(Qa Z),(Qa aa),(Qa ab),(Qa ac),(Qa ad),(Qa ae),(Qa af),(Qa ag),(Qa ah),(Qa ai),(Qa aj),(Qa ak),(Qa al),(Qa am),(Qa an),(Qa ao),(Qa ap),(Qa aq),(Qa ar),(V.sl 5 (xe 5 D z)),(V.sl 5 (xe 5 (F+XJ (xe 5 1 (zg [(Qe (0:Int)),(Qc (0:Int)),(Qb (0:Int)),(Qc (0:Int)),(Qc (0:Int))] 0 (XL 5 (XM (0+((XK A)*5)) z))))) be))])))) (ifb ((au:Int)==(4:Int)) (chk ((0+((XK A)*5))+5≤(XJ z)) (chk ((XJ (XL 5 (XM (0+((XK A)*5)) z)))=5∧0+5≤5) (chk ((D+XJ (xe 5 1 (zg [(Qe (0:Int)),(Qc (0:Int)),(Qb (0:Int)),(Qc (0:Int)),(Qc (0:Int))] 0 (XL 5 (XM (0+((XK A)*5)) z)))))*24≤yn∧(D+XJ (xe 5 1 (zg [(Qe (0:Int)),(Qc (0:Int)),(Qb (0:Int)),(Qc (0:Int)),(Qc (0:Int))] 0 (XL 5 (XM (0+((XK A)*5)) z)))))≤yn∧((D+XJ (xe 5 1 (zg [(Qe (0:Int)),(Qc (0:Int)),(Qb (0:Int)),(Qc (0:Int)),(Qc (0:Int))] 0 (XL 5 (XM (0+((XK A)*5)) z)))))≠0∨(XJ z)=0)) (lt (XL (D*5) z++List.flatten (xe 5 1 (zg [(Qe (0:Int)),(Qc (0:Int)),(Qb (0:Int)),(Qc (0:Int)),(Qc (0:Int))] 0 (XL 5 (XM (0+((XK A)*5)) z))))) fun bf=>E [(Qa I),(Qa J),(Qa M),(Qa N),(Qa O),(Qa P),(Qa Q),(Qa R),(Qa S),(Qa U),(Qa W),(Qa X),(Qa Y),(Qa Z),(Qa aa),(Qa ab),(Qa ac),(Qa ad),(Qa ae),(Qa af),(Qa ag),(Qa ah),(Qa ai),(Qa aj),(Qa ak),(Qa al),(Qa am),(Qa an),(Qa ao),(Qa ap),(Qa aq),(Qa ar),(V.sl 5 (xe 5 (D+XJ (xe 5 1 (zg [(Qe (0:Int)),(Qc (0:Int)),(Qb (0:Int)),(Qc (0:Int)),(Qc (0:Int))] 0 (XL 5 (XM (0+((XK A)*5)) z))))) bf)),(V.sl 5 (xe 5 F G))])))) (E [(Qa I),(Qa J),(Qa M),(Qa N),(Qa O),(Qa P),(Qa Q),(Qa R),(Qa S),(Qa U),(Qa W),(Qa X),(Qa Y),(Qa Z),(Qa aa),(Qa ab),(Qa ac),(Qa ad),(Qa ae),(Qa af),(Qa ag),(Qa ah),(Qa ai),(Qa aj),(Qa ak),(Qa al),(Qa am),(Qa an),(Qa ao),(Qa ap),(Qa aq),(Qa ar),(V.sl 5 (xe 5 D z)),(V.sl 5 (xe 5 F G))]))))))))) (E [(Qa I),(Qa J),(Qa M),(Qa N),(Qa O),(Qa P),(Qa Q),(Qa R),(Qa S),(Qa U),(Qa W),(Qa X),(Qa Y),(Qa Z),(Qa aa),(Qa ab),(Qa ac),(Qa ad),(Qa ae),(Qa af),(Qa ag),(Qa ah),(Qa ai),(Qa aj),(Qa ak),(Qa al),(Qa am),(Qa an),(Qa ao),(Qa ap),(Qa aq),(Qa ar),(V.sl 5 (xe 5 D z)),(V.sl 5 (xe 5 F G))])))
theorem zvG{β:Type}(xd:zF)(xI:zhp)(L:Nat)(z:List V)(A C:Int)(k:KK β):xn zm4 (zng xd xI L) L zjk [(V.agg z),(Qe A),(Qe C)] [] k=zct xd xI L z A C (fun z=>k (V.agg z) []):=by kernel_rfl
abbrev zkn:=∀ (β:Type),Nat→List V→Int→Int→(List V→Option β)→Option β
def zH(β:Type)(L:Nat)(A:List V)(C D:Int)(z:List V→Option β):Option β:=zct xd xI L A C D z
def zkq(zH:zkn)(L:Nat)(β:Type)(args:List V)(bor:Bor)(k:KK β):Option β:=match args,bor with
 | [a0,a1,a2],[]=>aG a0 fun z=>aI .i64 a1 fun A=>aI .i64 a2 fun C=>zH β L z A C (fun z=>k (V.agg z) [])
 | _,_=>none
theorem zwb(L:Nat)(β:Type)(args:List V)(bor:Bor)(k:KK β)(r:β)(h:zkq zH L β args bor k=some r):xn zm4 (zng xd xI L) L zjk args bor k=some r:=by
 unfold zkq at h
 split at h
 ·have q:=yM h; clear h; obtain ⟨z,rfl,h⟩:=q
  have q:=yw h; clear h; obtain ⟨A,rfl,h⟩:=q
  have q:=yw h; clear h; obtain ⟨C,rfl,h⟩:=q
  exact (zvG xd xI L z A C k).trans h
 ·cases h
def zco:CC:=(.seq (.reg [Qp 12 .lss (tq 11) (tq 10)]) (.seq (.cond (tq 12) .skip (.seq (.mask (bl 32 23) (bl 8388475 23)) (.exit 0))) (.seq (.block 1 (.seq (.reg [Qo 13 5 (tq 9) (tq 11),Qk 14 5 (tq 13),oo 7 (.alloc true [(.sc (.int .i64 0)),(.sc (.int .u32 0)),(.sc (.int .u16 0)),(.sc (.int .u32 0)),(.sc (.int .u32 0))]),Qm 5 (tq 7) (tq 14)]) (.seq (.reg [Ql 15 4 (tq 7),Qj 16 1 (tq 15),Qh 17 (tq 1),Qp 18 .eql (tq 16) (tq 17)]) (.cond (tq 18) (.reg [Qh 19 (tq 5),Qp 20 .add (tq 19) (Qf 1),Qh 5 (tq 20)]) .skip)))) (.reg [Qp 21 .add (tq 11) (Qf 1),Qh 11 (tq 21)]))))
def zhN:CC:=(.seq (.reg [Qh 22 (tq 5),Qh 4 (tq 22)]) .ret)
def zcd:CF:=⟨23,[.tmp 4],(.seq (.reg [Qv 2 (tq 0),Qh 4 (Qf 0)]) (.seq (.reg [Qh 5 (Qf 0)]) (.seq (.seq (.reg [Ql 8 32 (tq 2),Qj 9 1 (tq 8),Qr 10 (tq 9),Qh 11 (Qf 0)]) (.block 0 (.loop (bl 3618 23) (bl 8388475 23) zco))) zhN)))⟩
def zmB:Hint:=⟨[(0,0)],[],[none,some ((bl 3618 23),(bl 8388475 23)),none,some ((bl 32 23),(bl 8388475 23)),none,none,none],[],[],false,false,[]⟩
def zaA:Nat→Sh:=zU [(9,(.sl 5)),(16,(.int .u32))]
def zaB(L:Nat):CBC:=noC
def zdU:St→St:=zbg 0 (bl 3618 23) (bl 8388475 23)
def zcR(C D:Int)(E:List (List V))(z A:Int):St:=⟨(jn 1 ((Qc C)::(jn 3 ((Qe D)::(jn 3 ((V.sl 5 E)::((Qe z)::((Qe A)::(jn 11 []))))))))),(gn 23 [])⟩
def zg4(z:Int):St:=⟨(jn 5 ((Qe z)::(jn 17 []))),(gn 23 [])⟩
def zkI{β:Type}(L:Nat)(C:List V)(D:Int)(z:Int→Int→List (List V)→Int→Int→Option β):Option β:=cLd 5 C 32 fun A=>z D (0:Int) A ((XJ A:Nat):Int) (0:Int)
theorem ztb{β:Type}(L:Nat)(A:List V)(z:Int)(k:KK β):xn zaA (zaB L) L zcd [(V.agg A),(Qc z)] [] k=zkI L A z (fun z E F C D=>xD (zk zaA (zaB L) 0 L zco) zdU L (zcR z E F C D) (xE 0 (xR (zk zaA (zaB L) 0 L zhN) (zY 0 (CF.res zcd) k)))):=by kernel_rfl
def zgl{β:Type}(L:Nat)(D E:Int)(F:List (List V))(C A:Int)(z:Int→Int→List (List V)→Int→Int→Option β)(G:Int→Option β):Option β:=ifb (decide (A<C)) (idx F A fun c1=>chk ((XJ (XL 5 c1))=5∧0+5≤5) (lt (zg [(Qe (0:Int)),(Qc (0:Int)),(Qb (0:Int)),(Qc (0:Int)),(Qc (0:Int))] 0 (XL 5 c1)) fun r2=>cI .u32 r2 4 fun I=>ifb ((I:Int)==D) (lt (QF .i64 ((E:Int)+(1:Int))) fun J=>lt (QF .i64 ((A:Int)+(1:Int))) fun M=>z D J F C M) (lt (QF .i64 ((A:Int)+(1:Int))) fun N=>z D E F C N))) (G E)
theorem zpm{β:Type}(L:Nat)(D C:Int)(E:List (List V))(z A:Int)(X:St→Option β)(K:KT β):zk zaA (zaB L) 0 L zco (zcR D C E z A) (zcv zdU X K)=zgl L D C E z A (fun D C E z A=>X (zcR D C E z A)) (fun C=>K (.exit 0) (zg4 C)):=by kernel_rfl
def zfd{β:Type}(L:Nat)(A:Int)(z:Int→Option β):Option β:=z A
theorem zn3{β:Type}(L:Nat)(z:Int)(k:KK β):(xE 0 (xR (zk zaA (zaB L) 0 L zhN) (zY 0 (CF.res zcd) k))) (.exit 0) (zg4 z)=zfd L z (fun A=>k (Qe A) []):=by kernel_rfl
def zcF{β:Type}(L:Nat)(z:Int→Option β):Nat→Int→Int→List (List V)→Int→Int→Option β
 | 0,_,_,_,_,_=>none
 | n+1,D,E,F,A,C=>zgl L D E F A C (fun D E F A C=>zcF L z n D E F A C) z
theorem ziZ{β:Type}(L:Nat)(K:KT β):∀ (n:Nat) (D C:Int) (E:List (List V)) (z A:Int),xD (zk zaA (zaB L) 0 L zco) zdU n (zcR D C E z A) K=zcF L (fun C=>K (.exit 0) (zg4 C)) n D C E z A:=by
 intro n
 induction n with
 | zero=>intros; rfl
 | succ n ih=>
  intro D C E z A
  refine (zpm L D C E z A (fun σ=>xD (zk zaA (zaB L) 0 L zco) zdU n σ K) K).trans ?_
  simp only [ih]
  rfl
def zgN{β:Type}(L:Nat)(F:List V)(A:Int)(z:Int→Option β):Option β:=zkI L F A (fun A C G D E=>zcF L (fun C=>zfd L C z) L A C G D E)
theorem ztg{β:Type}(L:Nat)(z:List V)(A:Int)(k:KK β):xn zaA (zaB L) L zcd [(V.agg z),(Qc A)] [] k=zgN L z A (fun z=>k (Qe z) []):=by
 refine (ztb L z A k).trans ?_
 unfold zgN
 first
  | (simp only [ziZ,zn3]; done)
  | (simp only [ziZ]; rfl)
abbrev zhg:=∀ (β:Type),Nat→List V→Int→(Int→Option β)→Option β
def zN(β:Type)(L:Nat)(A:List V)(C:Int)(z:Int→Option β):Option β:=zgN L A C z
def zgR(zN:zhg)(L:Nat)(β:Type)(args:List V)(bor:Bor)(k:KK β):Option β:=match args,bor with
 | [a0,a1],[]=>aG a0 fun z=>aI .u32 a1 fun A=>zN β L z A (fun z=>k (Qe z) [])
 | _,_=>none
theorem zsW(L:Nat)(β:Type)(args:List V)(bor:Bor)(k:KK β)(r:β)(h:zgR zN L β args bor k=some r):xn zaA (zaB L) L zcd args bor k=some r:=by
 unfold zgR at h
 split at h
 ·have q:=yM h; clear h; obtain ⟨z,rfl,h⟩:=q
  have q:=yw h; clear h; obtain ⟨A,rfl,h⟩:=q
  exact (ztg L z A k).trans h
 ·cases h
def zdh:CC:=(.seq (.seq (.reg [Qh 7 (tq 6),Ql 8 32 (tq 2),Qj 9 1 (tq 8),Qr 10 (tq 9),Qp 11 .lss (tq 7) (tq 10)]) (.cond (tq 11) .skip (.seq (.mask (bl 32 25) (bl 33553339 25)) (.exit 0)))) (.seq (.block 1 (.seq (.reg [Ql 14 32 (tq 2),Qj 15 1 (tq 14),Qh 16 (tq 6),Qo 17 5 (tq 15) (tq 16),Ql 18 4 (tq 17),Qj 19 1 (tq 18),Qh 20 (tq 1),Qp 21 .eql (tq 19) (tq 20)]) (.cond (tq 21) (.reg [Qh 22 (tq 5),Qp 23 .add (tq 22) (Qf 1),Qh 5 (tq 23)]) .skip))) (.reg [Qh 12 (tq 6),Qp 13 .add (tq 12) (Qf 1),Qh 6 (tq 13)])))
def zkx:CC:=(.seq (.reg [Qh 24 (tq 5),Qh 4 (tq 24)]) .ret)
def zdw:CF:=⟨25,[.tmp 4],(.seq (.reg [Qv 2 (tq 0),Qh 4 (Qf 0)]) (.seq (.reg [Qh 5 (Qf 0)]) (.seq (.seq (.reg [Qh 6 (Qf 0)]) (.block 0 (.loop (bl 102 25) (bl 33553407 25) zdh))) zkx)))⟩
def zpS:Hint:=⟨[(0,0)],[],[none,some ((bl 102 25),(bl 33553407 25)),none,some ((bl 32 25),(bl 33553339 25)),none,none,none],[],[],false,false,[]⟩
def zbv:Nat→Sh:=zU [(9,(.sl 5)),(15,(.sl 5)),(19,(.int .u32))]
def zbs(L:Nat):CBC:=noC
def zfj:St→St:=zbg 0 (bl 102 25) (bl 33553407 25)
def zdV(z A C:Int)(D:List V):St:=⟨(jn 1 ((Qc z)::((V.ptr 2 0)::(jn 2 ((Qe A)::((Qe C)::(jn 18 []))))))),(gn 2 ((.live true D)::(gn 22 [])))⟩
def zjy(z:Int):St:=⟨(jn 5 ((Qe z)::(jn 19 []))),(gn 25 [])⟩
def zom{β:Type}(L:Nat)(A:List V)(C:Int)(z:Int→Int→Int→List V→Option β):Option β:=z C (0:Int) (0:Int) A
theorem zv6{β:Type}(L:Nat)(A:List V)(z:Int)(k:KK β):xn zbv (zbs L) L zdw [(V.agg A),(Qc z)] [] k=zom L A z (fun z C D E=>xD (zk zbv (zbs L) 0 L zdh) zfj L (zdV z C D E) (xE 0 (xR (zk zbv (zbs L) 0 L zkx) (zY 0 (CF.res zdw) k)))):=by kernel_rfl
def zi5{β:Type}(L:Nat)(D E A:Int)(C:List V)(z:Int→Int→Int→List V→Option β)(F:Int→Option β):Option β:=cLd 5 C 32 fun G=>ifb (decide (A<((XJ G:Nat):Int))) (cLd 5 C 32 fun I=>idx I A fun c2=>cI .u32 (XM 4 c2) 0 fun J=>ifb ((J:Int)==D) (lt (QF .i64 ((E:Int)+(1:Int))) fun M=>lt (QF .i64 ((A:Int)+(1:Int))) fun N=>z D M N C) (lt (QF .i64 ((A:Int)+(1:Int))) fun O=>z D E O C)) (F E)
theorem zq9{β:Type}(L:Nat)(A z C:Int)(D:List V)(X:St→Option β)(K:KT β):zk zbv (zbs L) 0 L zdh (zdV A z C D) (zcv zfj X K)=zi5 L A z C D (fun A z C D=>X (zdV A z C D)) (fun z=>K (.exit 0) (zjy z)):=by kernel_rfl
def zgH{β:Type}(L:Nat)(A:Int)(z:Int→Option β):Option β:=z A
theorem zp2{β:Type}(L:Nat)(z:Int)(k:KK β):(xE 0 (xR (zk zbv (zbs L) 0 L zkx) (zY 0 (CF.res zdw) k))) (.exit 0) (zjy z)=zgH L z (fun A=>k (Qe A) []):=by kernel_rfl
def zdH{β:Type}(L:Nat)(z:Int→Option β):Nat→Int→Int→Int→List V→Option β
 | 0,_,_,_,_=>none
 | n+1,A,C,D,E=>zi5 L A C D E (fun A C D E=>zdH L z n A C D E) z
theorem zle{β:Type}(L:Nat)(K:KT β):∀ (n:Nat) (A z C:Int) (D:List V),xD (zk zbv (zbs L) 0 L zdh) zfj n (zdV A z C D) K=zdH L (fun z=>K (.exit 0) (zjy z)) n A z C D:=by
 intro n
 induction n with
 | zero=>intros; rfl
 | succ n ih=>
  intro A z C D
  refine (zq9 L A z C D (fun σ=>xD (zk zbv (zbs L) 0 L zdh) zfj n σ K) K).trans ?_
  simp only [ih]
  rfl
def zke{β:Type}(L:Nat)(D:List V)(A:Int)(z:Int→Option β):Option β:=zom L D A (fun A C E F=>zdH L (fun C=>zgH L C z) L A C E F)
theorem zv1{β:Type}(L:Nat)(z:List V)(A:Int)(k:KK β):xn zbv (zbs L) L zdw [(V.agg z),(Qc A)] [] k=zke L z A (fun z=>k (Qe z) []):=by
 refine (zv6 L z A k).trans ?_
 unfold zke
 first
  | (simp only [zle,zp2]; done)
  | (simp only [zle]; rfl)
abbrev zkt:=∀ (β:Type),Nat→List V→Int→(Int→Option β)→Option β
def yY(β:Type)(L:Nat)(A:List V)(C:Int)(z:Int→Option β):Option β:=zke L A C z
def zkr(yY:zkt)(L:Nat)(β:Type)(args:List V)(bor:Bor)(k:KK β):Option β:=match args,bor with
 | [a0,a1],[]=>aG a0 fun z=>aI .u32 a1 fun A=>yY β L z A (fun z=>k (Qe z) [])
 | _,_=>none
theorem zvY(L:Nat)(β:Type)(args:List V)(bor:Bor)(k:KK β)(r:β)(h:zkr yY L β args bor k=some r):xn zbv (zbs L) L zdw args bor k=some r:=by
 unfold zkr at h
 split at h
 ·have q:=yM h; clear h; obtain ⟨z,rfl,h⟩:=q
  have q:=yw h; clear h; obtain ⟨A,rfl,h⟩:=q
  exact (zv1 L z A k).trans h
 ·cases h
def zcZ:CF:=⟨71,[.tmp 12],(.seq (.reg [Qv 6 (tq 0),Qv 7 (tq 1),Qh 12 (Qg false)]) (.seq (.seq (.reg [Qs 15 379 [],Qt 16 (tq 15)]) (.cond (tq 16) (.seq (.reg [Qh 12 (Qg false)]) .ret) .skip)) (.seq (.reg [Qh 17 (tq 3),Qs 18 225 [(Qw 17)],Qs 19 260 [(Qw 18)],oo 13 (.alloc true (rp 32 (.sc (.int .u8 0)) (rp 2 (.gs 5 []) []))),Qm 34 (tq 13) (tq 19)]) (.seq (.reg [Qk 20 34 (tq 13),Qh 21 (tq 4),Qh 22 (tq 5),Qs 23 381 [((tq 20),1),(Qw 21),(Qw 22)],oo 14 (.alloc true (rp 32 (.sc (.int .u8 0)) (rp 2 (.gs 5 []) []))),Qm 34 (tq 14) (tq 23)]) (.seq (.dreg [] [(Qk 24 3 (tq 7),ql 7 [] []),(Qs 25 269 [(Qw 24)],qc [7] []),(Qk 26 3 (tq 7),ql 7 [] []),(Qs 27 294 [(Qw 26)],q0),(Qp 28 .eql (tq 25) (tq 27),q0),(Qh 29 (tq 28),q0),(⟨(some 30),false,(some (29,true)),.load true 32 (tq 6) false⟩,ql 6 [7] []),(⟨(some 31),false,(some (29,true)),.load true 3 (tq 7) false⟩,ql 7 [6] []),(⟨(some 32),false,(some (29,true)),.move (tq 2) false⟩,q0),(⟨(some 33),false,(some (29,true)),.call 297 [(Qw 30),(Qw 31),(Qw 32)] []⟩,qc [6,7] []),(⟨(some 34),false,(some (29,true)),.load true 32 (tq 6) false⟩,ql 6 [7] []),(⟨(some 35),false,(some (29,true)),.load true 3 (tq 7) false⟩,ql 7 [6] []),(⟨(some 36),false,(some (29,true)),.move (tq 2) false⟩,q0),(⟨(some 37),false,(some (29,true)),.call 305 [(Qw 34),(Qw 35),(Qw 36)] []⟩,q0),(⟨(some 38),false,(some (29,true)),.bin .eql (tq 33) (tq 37)⟩,q0),(oo 39 (.pick (tq 29) (tq 38) (Qg false)),q0),(Qh 40 (tq 39),q0),(⟨(some 41),false,(some (40,true)),.load true 32 (tq 6) false⟩,ql 6 [7] []),(⟨(some 42),false,(some (40,true)),.load true 3 (tq 7) false⟩,ql 7 [6] []),(⟨(some 43),false,(some (40,true)),.call 299 [(Qw 41),(Qw 42)] []⟩,qc [6,7] []),(⟨(some 44),false,(some (40,true)),.load true 32 (tq 6) false⟩,ql 6 [7] []),(⟨(some 45),false,(some (40,true)),.load true 3 (tq 7) false⟩,ql 7 [6] []),(⟨(some 46),false,(some (40,true)),.call 290 [(Qw 44),(Qw 45)] []⟩,q0),(⟨(some 47),false,(some (40,true)),.bin .eql (tq 43) (tq 46)⟩,q0),(oo 48 (.pick (tq 40) (tq 47) (Qg false)),q0),(Qh 49 (tq 48),q0),(⟨(some 50),false,(some (49,true)),.load true 34 (tq 13) false⟩,q0),(⟨(some 51),false,(some (49,true)),.call 275 [((tq 50),1)] []⟩,q0),(oo 52 (.pick (tq 49) (tq 51) (Qg false)),q0),(Qh 53 (tq 52),q0),(⟨(some 54),false,(some (53,true)),.load true 34 (tq 14) false⟩,ql 14 [] []),(⟨(some 55),false,(some (53,true)),.call 275 [((tq 54),1)] []⟩,qc [14] []),(⟨(some 56),false,(some (53,true)),.load true 34 (tq 14) false⟩,ql 14 [] []),(⟨(some 57),false,(some (53,true)),.call 281 [((tq 56),1)] []⟩,q0),(⟨(some 58),false,(some (53,true)),.eqB false (tq 55) (tq 57)⟩,q0),(oo 59 (.pick (tq 53) (tq 58) (Qg false)),q0),(Qh 60 (tq 59),q0),(⟨(some 61),false,(some (60,true)),.load true 34 (tq 13) false⟩,ql 13 [] []),(⟨(some 62),false,(some (60,true)),.move (tq 2) false⟩,q0),(⟨(some 63),false,(some (60,true)),.bin .rem (tq 62) (.const (.sc (.int .u32 5)))⟩,q0),(⟨(some 64),false,(some (60,true)),.call 384 [((tq 61),1),(Qw 63)] []⟩,qc [13] []),(⟨(some 65),false,(some (60,true)),.load true 34 (tq 13) false⟩,ql 13 [] []),(⟨(some 66),false,(some (60,true)),.move (tq 2) false⟩,q0),(⟨(some 67),false,(some (60,true)),.bin .rem (tq 66) (.const (.sc (.int .u32 5)))⟩,q0),(⟨(some 68),false,(some (60,true)),.call 385 [((tq 65),1),(Qw 67)] []⟩,q0),(⟨(some 69),false,(some (60,true)),.bin .eql (tq 64) (tq 68)⟩,q0),(oo 70 (.pick (tq 60) (tq 69) (Qg false)),q0),(Qh 12 (tq 70),q0)]) .ret)))))⟩
def zhx:Hint:=⟨[(3,3),(4,4)],[],[none,none,none],[],[],false,false,[]⟩
def zeP:Nat→Sh:=zU []
def zeC(y6:zlG)(zaI:zoK)(zam:znq)(zH:zkn)(yh:yZ)(xh:zaH)(xb:xy)(za:yl)(xm:zaQ)(yc:xA)(yu:zcy)(xq:zbU)(zN:zhg)(yY:zkt)(L:Nat):CBC:=(yx 385 (zkr yY L) (yx 384 (zgR zN L) (yx 281 (zff xq L) (yx 275 (zeJ yu L) (yx 290 (zci yc L) (yx 299 (zcq xm L) (yx 305 (zch za L) (yx 297 (zbt xb L) (yx 294 (zd0 xh L) (yx 269 (zcz yh L) (yx 381 (zkq zH L) (yx 260 (znp zam L) (yx 225 (zoP zaI L) (yx 379 (zlv y6 L) noC))))))))))))))
def ze9{β:Type}(y6:zlG)(zaI:zoK)(zam:znq)(zH:zkn)(yh:yZ)(xh:zaH)(xb:xy)(za:yl)(xm:zaQ)(yc:xA)(yu:zcy)(xq:zbU)(zN:zhg)(yY:zkt)(L:Nat)(C A:List V)(D:Int)(X:List (List V))(Y Z:Int)(z:Bool→Option β):Option β:=y6 β L  (fun v0=>ifb (!v0) (z false) (zaI β L X (fun v1 v2=>zam β L v1 v2 (fun E v4 v5=>chk ((XJ E)=34∧0+34≤34) (lt (zg (List.replicate 32 (Qa (0:Int))++[(V.gs 5 ([]:List (List V))),(V.gs 5 ([]:List (List V)))]) 0 E) fun r6=>chk (0+34≤(XJ r6)) (zH β L (Xt V.dem (XL 34 r6)) Y Z (fun F=>chk ((XJ F)=34∧0+34≤34) (lt (zg (List.replicate 32 (Qa (0:Int))++[(V.gs 5 ([]:List (List V))),(V.gs 5 ([]:List (List V)))]) 0 F) fun r8=>chk (0+3≤(XJ A)) (yh β L (XL 3 A) (fun v9=>chk (0+3≤(XJ A)) (xh β L (XL 3 A) (fun G=>ifb ((v9:Int)==G) (chk (0+32≤(XJ C)) (chk (0+3≤(XJ A)) (xb β L (XL 32 C) (XL 3 A) D (fun I=>chk (0+32≤(XJ C)) (chk (0+3≤(XJ A)) (za β L (XL 32 C) (XL 3 A) D (fun J=>ifb ((I:Int)==J) (chk (0+32≤(XJ C)) (chk (0+3≤(XJ A)) (xm β L (XL 32 C) (XL 3 A) (fun M=>chk (0+32≤(XJ C)) (chk (0+3≤(XJ A)) (yc β L (XL 32 C) (XL 3 A) (fun N=>ifb ((M:Int)==N) (chk (0+34≤(XJ r6)) (yu β L (Xt V.dem (XL 34 r6)) (fun O=>ifb O (chk (0+34≤(XJ r8)) (yu β L (Xt V.dem (XL 34 r8)) (fun P=>chk (0+34≤(XJ r8)) (xq β L (Xt V.dem (XL 34 r8)) (fun Q=>ifb (P==Q) (chk (0+34≤(XJ r6)) (lt (XQ D (5:Int)) fun R=>zN β L (Xt V.dem (XL 34 r6)) R (fun S=>chk (0+34≤(XJ r6)) (lt (XQ D (5:Int)) fun U=>yY β L (Xt V.dem (XL 34 r6)) U (fun W=>z ((S:Int)==W)))))) (z false)))))) (z false)))) (z false)))))))) (z false)))))))) (z false)))))))))))))
theorem zn7{β:Type}(y6:zlG)(zaI:zoK)(zam:znq)(zH:zkn)(yh:yZ)(xh:zaH)(xb:xy)(za:yl)(xm:zaQ)(yc:xA)(yu:zcy)(xq:zbU)(zN:zhg)(yY:zkt)(L:Nat)(z A:List V)(C:Int)(D:List (List V))(E F:Int)(k:KK β):xn zeP (zeC y6 zaI zam zH yh xh xb za xm yc yu xq zN yY L) L zcZ [(V.agg z),(V.agg A),(Qc C),(V.sl 1 D),(Qe E),(Qe F)] [] k=ze9 y6 zaI zam zH yh xh xb za xm yc yu xq zN yY L z A C D E F (fun z=>k (V.sc (.bool z)) []):=by kernel_rfl
abbrev zp6:=∀ (β:Type),Nat→List V→List V→Int→List (List V)→Int→Int→(Bool→Option β)→Option β
def zae(β:Type)(L:Nat)(A C:List V)(D:Int)(E:List (List V))(F G:Int)(z:Bool→Option β):Option β:=ze9 y6 zaI zam zH yh xh xb za xm yc yu xq zN yY L A C D E F G z
def zc7(zae:zp6)(L:Nat)(β:Type)(args:List V)(bor:Bor)(k:KK β):Option β:=match args,bor with
 | [a0,a1,a2,a3,a4,a5],[]=>aG a0 fun z=>aG a1 fun A=>aI .u32 a2 fun C=>aL 1 a3 fun D=>aI .i64 a4 fun E=>aI .i64 a5 fun F=>zae β L z A C D E F (fun z=>k (V.sc (.bool z)) [])
 | _,_=>none
theorem zoc(L:Nat)(β:Type)(args:List V)(bor:Bor)(k:KK β)(r:β)(h:zc7 zae L β args bor k=some r):xn zeP (zeC y6 zaI zam zH yh xh xb za xm yc yu xq zN yY L) L zcZ args bor k=some r:=by
 unfold zc7 at h
 split at h
 ·have q:=yM h; clear h; obtain ⟨z,rfl,h⟩:=q
  have q:=yM h; clear h; obtain ⟨A,rfl,h⟩:=q
  have q:=yw h; clear h; obtain ⟨C,rfl,h⟩:=q
  have q:=zaW h; clear h; obtain ⟨D,rfl,h⟩:=q
  have q:=yw h; clear h; obtain ⟨E,rfl,h⟩:=q
  have q:=yw h; clear h; obtain ⟨F,rfl,h⟩:=q
  exact (zn7 y6 zaI zam zH yh xh xb za xm yc yu xq zN yY L z A C D E F k).trans h
 ·cases h
def gls:List (Nat × List V):=[]
def fg:List (Nat × Nat):=[(3,374),(4,375),(5,376),(6,377),(7,378),(8,379),(9,225),(10,260),(11,380),(12,381),(13,382),(14,273),(15,383),(16,269),(17,294),(18,297),(19,305),(20,299),(21,290),(22,275),(23,281),(24,384),(25,385),(26,386),(27,387),(28,388),(29,231),(30,389),(31,272),(32,390),(33,391),(34,392),(35,393),(36,236),(37,262),(38,288),(39,217),(40,394),(41,395),(42,396),(43,293),(44,109),(45,105),(46,157),(47,110),(48,106),(49,159),(50,205),(51,304),(52,295),(53,296),(54,298),(55,302),(56,287),(57,247),(58,397),(59,398),(60,399),(61,400),(62,289),(63,291),(64,292),(65,401),(66,402),(67,403),(68,404),(69,112),(70,111),(71,113),(72,191),(73,192),(74,115),(75,114),(76,116),(77,193),(78,194),(79,303),(80,405),(81,406),(82,118),(83,407),(84,408)]
def rows:List Row:=[⟨69,112,zsO,zfR⟩,⟨44,109,zuc,zoL⟩,⟨16,269,zmM,zfY⟩,⟨73,192,zop,zcV⟩,⟨72,191,zox,zic⟩,⟨46,157,zlk,zfq⟩,⟨82,118,zgC,zcJ⟩,⟨71,113,zqs,zd3⟩,⟨70,111,zqa,zks⟩,⟨45,105,zub,zhj⟩,⟨18,297,zib,zda⟩,⟨53,296,zkY,ze0⟩,⟨52,295,zmx,za0⟩,⟨50,205,zlx,zfr⟩,⟨20,299,zh4,zc9⟩,⟨54,298,zlf,zeS⟩,⟨22,275,zmF,zfW⟩,⟨65,401,zde,zaM⟩,⟨40,394,zmr,zfl⟩,⟨68,404,znK,zhn⟩,⟨67,403,zlZ,zfy⟩,⟨66,402,zcH,yE⟩,⟨41,395,znC,zhb⟩,⟨59,398,zl4,zan⟩,⟨61,400,zc3,zaD⟩,⟨42,396,zmJ,zb9⟩,⟨13,382,zmA,zf0⟩,⟨8,379,zql,zko⟩,⟨9,225,zsK,znu⟩,⟨57,247,zmw,zf6⟩,⟨39,217,zsP,znr⟩,⟨29,231,zmD,zf4⟩,⟨36,236,zrp,zlC⟩,⟨74,115,zqr,zd5⟩,⟨47,110,zrg,zmp⟩,⟨78,194,zov,zcS⟩,⟨77,193,zow,zil⟩,⟨49,159,zmo,zfu⟩,⟨51,304,zlI,zfG⟩,⟨76,116,zpM,zjp⟩,⟨75,114,zoy,zh3⟩,⟨48,106,zry,zeL⟩,⟨17,294,zpp,zjq⟩,⟨21,290,zkc,zel⟩,⟨19,305,zjY,zeg⟩,⟨79,303,zqw,zkf⟩,⟨56,287,zqj,zcx⟩,⟨55,302,zph,zcE⟩,⟨23,281,zpv,zcD⟩,⟨38,288,zor,zih⟩,⟨62,289,zot,zij⟩,⟨63,291,zoz,zbc⟩,⟨64,292,zos,zif⟩,⟨43,293,zqc,zcr⟩,⟨31,272,zqg,zkp⟩,⟨37,262,zrA,zls⟩,⟨14,273,zpo,zjg⟩,⟨10,260,zri,zey⟩,⟨12,381,zpV,zjk⟩,⟨24,384,zmB,zcd⟩,⟨25,385,zpS,zdw⟩,⟨4,375,zhx,zcZ⟩]
theorem zAY:xP Try.prog (xH fg gls) zsO 69=some zfR:=by kernel_rfl
theorem zCm:xP Try.prog (xH fg gls) zuc 44=some zoL:=by kernel_rfl
theorem zuN:xP Try.prog (xH fg gls) zmM 16=some zfY:=by kernel_rfl
theorem zxj:xP Try.prog (xH fg gls) zop 73=some zcV:=by kernel_rfl
theorem zxF:xP Try.prog (xH fg gls) zox 72=some zic:=by kernel_rfl
theorem ztX:xP Try.prog (xH fg gls) zlk 46=some zfq:=by kernel_rfl
theorem zoW:xP Try.prog (xH fg gls) zgC 82=some zcJ:=by kernel_rfl
theorem zzq:xP Try.prog (xH fg gls) zqs 71=some zd3:=by kernel_rfl
theorem zzm:xP Try.prog (xH fg gls) zqa 70=some zks:=by kernel_rfl
theorem zB5:xP Try.prog (xH fg gls) zub 45=some zhj:=by kernel_rfl
theorem zp1:xP Try.prog (xH fg gls) zib 18=some zda:=by kernel_rfl
theorem zs0:xP Try.prog (xH fg gls) zkY 53=some ze0:=by kernel_rfl
theorem zvh:xP Try.prog (xH fg gls) zmx 52=some za0:=by kernel_rfl
theorem ztG:xP Try.prog (xH fg gls) zlx 50=some zfr:=by kernel_rfl
theorem zp3:xP Try.prog (xH fg gls) zh4 20=some zc9:=by kernel_rfl
theorem ztf:xP Try.prog (xH fg gls) zlf 54=some zeS:=by kernel_rfl
theorem zuU:xP Try.prog (xH fg gls) zmF 22=some zfW:=by kernel_rfl
theorem zis:xP Try.prog (xH fg gls) zde 65=some zaM:=by kernel_rfl
theorem zt5:xP Try.prog (xH fg gls) zmr 40=some zfl:=by kernel_rfl
theorem zvH:xP Try.prog (xH fg gls) znK 68=some zhn:=by kernel_rfl
theorem ztH:xP Try.prog (xH fg gls) zlZ 67=some zfy:=by kernel_rfl
theorem zgK:xP Try.prog (xH fg gls) zcH 66=some yE:=by kernel_rfl
theorem zvF:xP Try.prog (xH fg gls) znC 41=some zhb:=by kernel_rfl
theorem zuu:xP Try.prog (xH fg gls) zl4 59=some zan:=by kernel_rfl
theorem zin:xP Try.prog (xH fg gls) zc3 61=some zaD:=by kernel_rfl
theorem zvd:xP Try.prog (xH fg gls) zmJ 42=some zb9:=by kernel_rfl
theorem zu8:xP Try.prog (xH fg gls) zmA 13=some zf0:=by kernel_rfl
theorem zzo:xP Try.prog (xH fg gls) zql 8=some zko:=by kernel_rfl
theorem zA4:xP Try.prog (xH fg gls) zsK 9=some znu:=by kernel_rfl
theorem zuT:xP Try.prog (xH fg gls) zmw 57=some zf6:=by kernel_rfl
theorem zAM:xP Try.prog (xH fg gls) zsP 39=some znr:=by kernel_rfl
theorem zuP:xP Try.prog (xH fg gls) zmD 29=some zf4:=by kernel_rfl
theorem zAy:xP Try.prog (xH fg gls) zrp 36=some zlC:=by kernel_rfl
theorem zy8:xP Try.prog (xH fg gls) zqr 74=some zd5:=by kernel_rfl
theorem zzF:xP Try.prog (xH fg gls) zrg 47=some zmp:=by kernel_rfl
theorem zw2:xP Try.prog (xH fg gls) zov 78=some zcS:=by kernel_rfl
theorem zxt:xP Try.prog (xH fg gls) zow 77=some zil:=by kernel_rfl
theorem ztD:xP Try.prog (xH fg gls) zmo 49=some zfu:=by kernel_rfl
theorem zun:xP Try.prog (xH fg gls) zlI 51=some zfG:=by kernel_rfl
theorem zx5:xP Try.prog (xH fg gls) zpM 76=some zjp:=by kernel_rfl
theorem zwv:xP Try.prog (xH fg gls) zoy 75=some zh3:=by kernel_rfl
theorem zzK:xP Try.prog (xH fg gls) zry 48=some zeL:=by kernel_rfl
theorem zxV:xP Try.prog (xH fg gls) zpp 17=some zjq:=by kernel_rfl
theorem zrV:xP Try.prog (xH fg gls) zkc 21=some zel:=by kernel_rfl
theorem zsp:xP Try.prog (xH fg gls) zjY 19=some zeg:=by kernel_rfl
theorem zzg:xP Try.prog (xH fg gls) zqw 79=some zkf:=by kernel_rfl
theorem zzl:xP Try.prog (xH fg gls) zqj 56=some zcx:=by kernel_rfl
theorem zxY:xP Try.prog (xH fg gls) zph 55=some zcE:=by kernel_rfl
theorem zym:xP Try.prog (xH fg gls) zpv 23=some zcD:=by kernel_rfl
theorem zwZ:xP Try.prog (xH fg gls) zor 38=some zih:=by kernel_rfl
theorem zwz:xP Try.prog (xH fg gls) zot 62=some zij:=by kernel_rfl
theorem zwV:xP Try.prog (xH fg gls) zoz 63=some zbc:=by kernel_rfl
theorem zwk:xP Try.prog (xH fg gls) zos 64=some zif:=by kernel_rfl
theorem zzj:xP Try.prog (xH fg gls) zqc 43=some zcr:=by kernel_rfl
theorem zy4:xP Try.prog (xH fg gls) zqg 31=some zkp:=by kernel_rfl
theorem zAo:xP Try.prog (xH fg gls) zrA 37=some zls:=by kernel_rfl
theorem zxS:xP Try.prog (xH fg gls) zpo 14=some zjg:=by kernel_rfl
theorem zAs:xP Try.prog (xH fg gls) zri 10=some zey:=by kernel_rfl
theorem zx8:xP Try.prog (xH fg gls) zpV 12=some zjk:=by kernel_rfl
theorem zuY:xP Try.prog (xH fg gls) zmB 24=some zcd:=by kernel_rfl
theorem zyj:xP Try.prog (xH fg gls) zpS 25=some zdw:=by kernel_rfl
theorem zpi:xP Try.prog (xH fg gls) zhx 4=some zcZ:=by kernel_rfl
theorem zFa:∀ r∈rows,(r.f,r.g)∈fg∧zd7 Try.prog r.f=true∧xP Try.prog (xH fg gls) r.h r.f=some r.c:=by
 intro r hr
 simp only [rows,List.mem_cons,List.not_mem_nil,or_false] at hr
 rcases hr with rfl | rfl | rfl | rfl | rfl | rfl | rfl | rfl | rfl | rfl | rfl | rfl | rfl | rfl | rfl | rfl | rfl | rfl | rfl | rfl | rfl | rfl | rfl | rfl | rfl | rfl | rfl | rfl | rfl | rfl | rfl | rfl | rfl | rfl | rfl | rfl | rfl | rfl | rfl | rfl | rfl | rfl | rfl | rfl | rfl | rfl | rfl | rfl | rfl | rfl | rfl | rfl | rfl | rfl | rfl | rfl | rfl | rfl | rfl | rfl | rfl | rfl
 ·exact ⟨of_decide_eq_true (by kernel_rfl),by kernel_rfl,zAY⟩
 ·exact ⟨of_decide_eq_true (by kernel_rfl),by kernel_rfl,zCm⟩
 ·exact ⟨of_decide_eq_true (by kernel_rfl),by kernel_rfl,zuN⟩
 ·exact ⟨of_decide_eq_true (by kernel_rfl),by kernel_rfl,zxj⟩
 ·exact ⟨of_decide_eq_true (by kernel_rfl),by kernel_rfl,zxF⟩
 ·exact ⟨of_decide_eq_true (by kernel_rfl),by kernel_rfl,ztX⟩
 ·exact ⟨of_decide_eq_true (by kernel_rfl),by kernel_rfl,zoW⟩
 ·exact ⟨of_decide_eq_true (by kernel_rfl),by kernel_rfl,zzq⟩
 ·exact ⟨of_decide_eq_true (by kernel_rfl),by kernel_rfl,zzm⟩
 ·exact ⟨of_decide_eq_true (by kernel_rfl),by kernel_rfl,zB5⟩
 ·exact ⟨of_decide_eq_true (by kernel_rfl),by kernel_rfl,zp1⟩
 ·exact ⟨of_decide_eq_true (by kernel_rfl),by kernel_rfl,zs0⟩
 ·exact ⟨of_decide_eq_true (by kernel_rfl),by kernel_rfl,zvh⟩
 ·exact ⟨of_decide_eq_true (by kernel_rfl),by kernel_rfl,ztG⟩
 ·exact ⟨of_decide_eq_true (by kernel_rfl),by kernel_rfl,zp3⟩
 ·exact ⟨of_decide_eq_true (by kernel_rfl),by kernel_rfl,ztf⟩
 ·exact ⟨of_decide_eq_true (by kernel_rfl),by kernel_rfl,zuU⟩
 ·exact ⟨of_decide_eq_true (by kernel_rfl),by kernel_rfl,zis⟩
 ·exact ⟨of_decide_eq_true (by kernel_rfl),by kernel_rfl,zt5⟩
 ·exact ⟨of_decide_eq_true (by kernel_rfl),by kernel_rfl,zvH⟩
 ·exact ⟨of_decide_eq_true (by kernel_rfl),by kernel_rfl,ztH⟩
 ·exact ⟨of_decide_eq_true (by kernel_rfl),by kernel_rfl,zgK⟩
 ·exact ⟨of_decide_eq_true (by kernel_rfl),by kernel_rfl,zvF⟩
 ·exact ⟨of_decide_eq_true (by kernel_rfl),by kernel_rfl,zuu⟩
 ·exact ⟨of_decide_eq_true (by kernel_rfl),by kernel_rfl,zin⟩
 ·exact ⟨of_decide_eq_true (by kernel_rfl),by kernel_rfl,zvd⟩
 ·exact ⟨of_decide_eq_true (by kernel_rfl),by kernel_rfl,zu8⟩
 ·exact ⟨of_decide_eq_true (by kernel_rfl),by kernel_rfl,zzo⟩
 ·exact ⟨of_decide_eq_true (by kernel_rfl),by kernel_rfl,zA4⟩
 ·exact ⟨of_decide_eq_true (by kernel_rfl),by kernel_rfl,zuT⟩
 ·exact ⟨of_decide_eq_true (by kernel_rfl),by kernel_rfl,zAM⟩
 ·exact ⟨of_decide_eq_true (by kernel_rfl),by kernel_rfl,zuP⟩
 ·exact ⟨of_decide_eq_true (by kernel_rfl),by kernel_rfl,zAy⟩
 ·exact ⟨of_decide_eq_true (by kernel_rfl),by kernel_rfl,zy8⟩
 ·exact ⟨of_decide_eq_true (by kernel_rfl),by kernel_rfl,zzF⟩
 ·exact ⟨of_decide_eq_true (by kernel_rfl),by kernel_rfl,zw2⟩
 ·exact ⟨of_decide_eq_true (by kernel_rfl),by kernel_rfl,zxt⟩
 ·exact ⟨of_decide_eq_true (by kernel_rfl),by kernel_rfl,ztD⟩
 ·exact ⟨of_decide_eq_true (by kernel_rfl),by kernel_rfl,zun⟩
 ·exact ⟨of_decide_eq_true (by kernel_rfl),by kernel_rfl,zx5⟩
 ·exact ⟨of_decide_eq_true (by kernel_rfl),by kernel_rfl,zwv⟩
 ·exact ⟨of_decide_eq_true (by kernel_rfl),by kernel_rfl,zzK⟩
 ·exact ⟨of_decide_eq_true (by kernel_rfl),by kernel_rfl,zxV⟩
 ·exact ⟨of_decide_eq_true (by kernel_rfl),by kernel_rfl,zrV⟩
 ·exact ⟨of_decide_eq_true (by kernel_rfl),by kernel_rfl,zsp⟩
 ·exact ⟨of_decide_eq_true (by kernel_rfl),by kernel_rfl,zzg⟩
 ·exact ⟨of_decide_eq_true (by kernel_rfl),by kernel_rfl,zzl⟩
 ·exact ⟨of_decide_eq_true (by kernel_rfl),by kernel_rfl,zxY⟩
 ·exact ⟨of_decide_eq_true (by kernel_rfl),by kernel_rfl,zym⟩
 ·exact ⟨of_decide_eq_true (by kernel_rfl),by kernel_rfl,zwZ⟩
 ·exact ⟨of_decide_eq_true (by kernel_rfl),by kernel_rfl,zwz⟩
 ·exact ⟨of_decide_eq_true (by kernel_rfl),by kernel_rfl,zwV⟩
 ·exact ⟨of_decide_eq_true (by kernel_rfl),by kernel_rfl,zwk⟩
 ·exact ⟨of_decide_eq_true (by kernel_rfl),by kernel_rfl,zzj⟩
 ·exact ⟨of_decide_eq_true (by kernel_rfl),by kernel_rfl,zy4⟩
 ·exact ⟨of_decide_eq_true (by kernel_rfl),by kernel_rfl,zAo⟩
 ·exact ⟨of_decide_eq_true (by kernel_rfl),by kernel_rfl,zxS⟩
 ·exact ⟨of_decide_eq_true (by kernel_rfl),by kernel_rfl,zAs⟩
 ·exact ⟨of_decide_eq_true (by kernel_rfl),by kernel_rfl,zx8⟩
 ·exact ⟨of_decide_eq_true (by kernel_rfl),by kernel_rfl,zuY⟩
 ·exact ⟨of_decide_eq_true (by kernel_rfl),by kernel_rfl,zyj⟩
 ·exact ⟨of_decide_eq_true (by kernel_rfl),by kernel_rfl,zpi⟩
theorem mixed:Try.prog.follows .mixedOrders=true:=by kernel_rfl
theorem zGk:zD2 fg=true:=by kernel_rfl
theorem zGp:zgQ Try.prog (xH fg gls) zrY:=zE3 (zFE (by kernel_rfl)) (zE9 (f0:=60) (g0:=399) (by kernel_rfl) rfl (zFO zGM (of_decide_eq_true (by kernel_rfl))))
theorem zGo(L d:Nat):zgQ Try.prog (xH fg gls) (evF (yF rows) zrY L d):=zFh mixed zGk zGp zFa L d
theorem ztU(L:Nat):FOk (yF rows) L 112 (zlH yo L) 1:=xB (D:=0) (by kernel_rfl) fun m hm=>⟨zcN,zcM L,zC,zzf L⟩
theorem zvA(L:Nat):FOk (yF rows) L 109 (znX zV L) 2:=xB (D:=1) (by kernel_rfl) fun m hm=>⟨zsj,zsC yo L,(zj zC (ztU L m (by omega))),zzX L⟩
theorem zfn(L:Nat):FOk (yF rows) L 269 (zcz yh L) 1:=xB (D:=0) (by kernel_rfl) fun m hm=>⟨zjK,zjR L,zC,zsV L⟩
theorem zpQ(L:Nat):FOk (yF rows) L 192 (zgv zz L) 1:=xB (D:=0) (by kernel_rfl) fun m hm=>⟨zbd,zbf L,zC,zu0 L⟩
theorem zpz(L:Nat):FOk (yF rows) L 191 (zgu yz L) 1:=xB (D:=0) (by kernel_rfl) fun m hm=>⟨zl1,zlo L,zC,zu9 L⟩
theorem zmC(L:Nat):FOk (yF rows) L 157 (zd9 zp L) 2:=xB (D:=1) (by kernel_rfl) fun m hm=>⟨zi3,ziI zz yz L,(zj (zj zC (zpQ L m (by omega))) (zpz L m (by omega))),zrU L⟩
theorem zhu(L:Nat):FOk (yF rows) L 118 (zbN yb L) 1:=xB (D:=0) (by kernel_rfl) fun m hm=>⟨zeq,zem L,zC,znW L⟩
theorem zrN(L:Nat):FOk (yF rows) L 113 (ziG xk L) 2:=xB (D:=1) (by kernel_rfl) fun m hm=>⟨zbS,zbT yb L,(zj zC (zhu L m (by omega))),zwr L⟩
theorem zxK(L:Nat):FOk (yF rows) L 111 (zml xp L) 3:=xB (D:=2) (by kernel_rfl) fun m hm=>⟨zoj,zn8 xk L,(zj zC (zrN L m (by omega))),zwK L⟩
theorem zvk(L:Nat):FOk (yF rows) L 105 (znH yP L) 4:=xB (D:=3) (by kernel_rfl) fun m hm=>⟨zdC,zdE yo xp xk L,(zj (zj (zj zC (ztU L m (by omega))) (zxK L m (by omega))) (zrN L m (by omega))),zAb L⟩
theorem zeI(L:Nat):FOk (yF rows) L 297 (zbt xb L) 5:=xB (D:=4) (by kernel_rfl) fun m hm=>⟨zfa,zfb zV yh zp yP L,(zj (zj (zj (zj zC (zvA L m (by omega))) (zfn L m (by omega))) (zmC L m (by omega))) (zvk L m (by omega))),zoB L⟩
theorem zsA(L:Nat):FOk (yF rows) L 296 (zfw xg L) 6:=xB (D:=5) (by kernel_rfl) fun m hm=>⟨zhP,zhV xb L,(zj zC (zeI L m (by omega))),zrc L⟩
theorem ztI(L:Nat):FOk (yF rows) L 295 (zgZ xM L) 7:=xB (D:=6) (by kernel_rfl) fun m hm=>⟨zah,zag xg L,(zj zC (zsA L m (by omega))),ztl L⟩
theorem zs1(L:Nat):FOk (yF rows) L 205 (zfV xK L) 2:=xB (D:=1) (by kernel_rfl) fun m hm=>⟨zip,ziv zz yz L,(zj (zj zC (zpQ L m (by omega))) (zpz L m (by omega))),zsq L⟩
theorem ziH(L:Nat):FOk (yF rows) L 299 (zcq xm L) 5:=xB (D:=4) (by kernel_rfl) fun m hm=>⟨ze4,ze7 zV zp xK yP yh L,(zj (zj (zj (zj (zj zC (zvA L m (by omega))) (zmC L m (by omega))) (zs1 L m (by omega))) (zvk L m (by omega))) (zfn L m (by omega))),zoC L⟩
theorem zrX(L:Nat):FOk (yF rows) L 298 (zfk yg L) 6:=xB (D:=5) (by kernel_rfl) fun m hm=>⟨zhL,zhK xm L,(zj zC (ziH L m (by omega))),zrn L⟩
theorem zrG(L:Nat):FOk (yF rows) L 295 (zeR yG L) 7:=xB (D:=6) (by kernel_rfl) fun m hm=>⟨zX,yX yg L,(zj zC (zrX L m (by omega))),zqG L⟩
theorem znR(L:Nat):FOk (yF rows) L 275 (zeJ yu L) 8:=xB (D:=7) (by kernel_rfl) fun m hm=>⟨zjG,zjC xM yG L,(zAg (zAg zC (ztI L m (by omega))) (zrG L m (by omega))),zte L⟩
theorem zio(L:Nat):FOk (yF rows) L 401 (zaU zl L) 1:=xB (D:=0) (by kernel_rfl) fun m hm=>⟨zbM,zbK L,zC,zhM L⟩
theorem ztj(L:Nat):FOk (yF rows) L 394 (zf9 zK L) 2:=xB (D:=1) (by kernel_rfl) fun m hm=>⟨zi7,ziQ zl L,(zj zC (zio L m (by omega))),zrP L⟩
theorem zuX(L:Nat):FOk (yF rows) L 404 (zh6 zS L) 1:=xB (D:=0) (by kernel_rfl) fun m hm=>⟨zkH,zkN L,zC,zui L⟩
theorem zsS(L:Nat):FOk (yF rows) L 403 (zga zh L) 2:=xB (D:=1) (by kernel_rfl) fun m hm=>⟨ziC,ziy zS L,(zj zC (zuX L m (by omega))),zsd L⟩
theorem zgB(L:Nat):FOk (yF rows) L 402 (zar xj L) 3:=xB (D:=2) (by kernel_rfl) fun m hm=>⟨yv,zu zh L,(zj zC (zsS L m (by omega))),zgz L⟩
theorem zvg(L:Nat):FOk (yF rows) L 395 (zhX xO L) 4:=xB (D:=3) (by kernel_rfl) fun m hm=>⟨zkE,zkQ xj L,(zj zC (zgB L m (by omega))),zt3 L⟩
theorem zsT(L:Nat):FOk (yF rows) L 398 (zf2 zi L) 1:=xB (D:=0) (by kernel_rfl) fun m hm=>⟨zI,yI L,zC,zrT L⟩
theorem zhU(L:Nat):FOk (yF rows) L 399 (zaK xa L) 1:=zFD (d:=zaK xa L) (by kernel_rfl) rfl (fun β args bor k r h=>by
 unfold zaK xa at h
 split at h
 ·have q:=zjj h; clear h; obtain ⟨n,rfl,h⟩:=q
  have q:=yw h; clear h; obtain ⟨i,rfl,h⟩:=q
  have q:=zjj h; clear h; obtain ⟨m,rfl,h⟩:=q
  obtain ⟨hk,h⟩:=xt h
  exact ⟨n,i,m,_,_,rfl,rfl,hk,h⟩
 ·cases h)
theorem zhR(L:Nat):FOk (yF rows) L 400 (zaL zb L) 1:=xB (D:=0) (by kernel_rfl) fun m hm=>⟨zbB,zbC L,zC,zht L⟩
theorem ztq(L:Nat):FOk (yF rows) L 396 (zg7 xN L) 6:=xB (D:=5) (by kernel_rfl) fun m hm=>⟨xZ,z4 xb zi xa zb L,(zj (zj (zj (zj zC (zeI L m (by omega))) (zsT L m (by omega))) (zhU L m (by omega))) (zhR L m (by omega))),zth L⟩
theorem ztB(L:Nat):FOk (yF rows) L 382 (zg8 yL L) 9:=xB (D:=8) (by kernel_rfl) fun m hm=>⟨zjx,zjE yu zK xO xN L,(zj (zj (zj (zj zC (znR L m (by omega))) (ztj L m (by omega))) (zvg L m (by omega))) (ztq L m (by omega))),zs2 L⟩
theorem zxI(L:Nat):FOk (yF rows) L 379 (zlv y6 L) 10:=xB (D:=9) (by kernel_rfl) fun m hm=>⟨zn1,zn5 yL yh L,(zj (zj zC (ztB L m (by omega))) (zfn L m (by omega))),zws L⟩
theorem zz0(L:Nat):FOk (yF rows) L 225 (zoP zaI L) 1:=xB (D:=0) (by kernel_rfl) fun m hm=>⟨zqU,zqW L,zC,zzd L⟩
theorem ztK(L:Nat):FOk (yF rows) L 247 (zgG yN L) 1:=xB (D:=0) (by kernel_rfl) fun m hm=>⟨zjA,zjH L,zC,zs6 L⟩
theorem ztL(L:Nat):FOk (yF rows) L 217 (zlj xI L) 1:=xB (D:=0) (by kernel_rfl) fun m hm=>⟨zqD,zqK L,zC,zy9 L⟩
theorem zi9(L:Nat):FOk (yF rows) L 231 (zdj ye L) 2:=xB (D:=1) (by kernel_rfl) fun m hm=>⟨zjX,zjN yN xI L,(zj (zj zC (ztK L m (by omega))) (ztL L m (by omega))),zs7 L⟩
theorem zy5(L:Nat):FOk (yF rows) L 236 (zno zt L) 3:=xB (D:=2) (by kernel_rfl) fun m hm=>⟨zpc,zpP ye L,(zj zC (zi9 L m (by omega))),zya L⟩
theorem zrj(L:Nat):FOk (yF rows) L 115 (zi4 yj L) 1:=xB (D:=0) (by kernel_rfl) fun m hm=>⟨zbV,zbP L,zC,zxi L⟩
theorem zsD(L:Nat):FOk (yF rows) L 110 (zka zJ L) 2:=xB (D:=1) (by kernel_rfl) fun m hm=>⟨zpT,zpG yj L,(zj zC (zrj L m (by omega))),zxP L⟩
theorem zpt(L:Nat):FOk (yF rows) L 194 (zgy xz L) 1:=xB (D:=0) (by kernel_rfl) fun m hm=>⟨zbe,zbb L,zC,zuQ L⟩
theorem zo5(L:Nat):FOk (yF rows) L 193 (zgm zA L) 1:=xB (D:=0) (by kernel_rfl) fun m hm=>⟨zl8,zlR L,zC,zu7 L⟩
theorem zmH(L:Nat):FOk (yF rows) L 159 (zef yp L) 2:=xB (D:=1) (by kernel_rfl) fun m hm=>⟨zi6,ziE xz zA L,(zj (zj zC (zpt L m (by omega))) (zo5 L m (by omega))),zsz L⟩
theorem zsU(L:Nat):FOk (yF rows) L 304 (zf5 yK L) 2:=xB (D:=1) (by kernel_rfl) fun m hm=>⟨ziB,ziq xz zA L,(zj (zj zC (zpt L m (by omega))) (zo5 L m (by omega))),zrQ L⟩
theorem zqn(L:Nat):FOk (yF rows) L 116 (zhq yi L) 2:=xB (D:=1) (by kernel_rfl) fun m hm=>⟨zmR,zna yb L,(zj zC (zhu L m (by omega))),zvP L⟩
theorem zvR(L:Nat):FOk (yF rows) L 114 (zjt zm L) 3:=xB (D:=2) (by kernel_rfl) fun m hm=>⟨zms,zmc yi L,(zj zC (zqn L m (by omega))),zu2 L⟩
theorem zsN(L:Nat):FOk (yF rows) L 106 (zj5 xG L) 4:=xB (D:=3) (by kernel_rfl) fun m hm=>⟨zck,zcm yj zm yi L,(zj (zj (zj zC (zrj L m (by omega))) (zvR L m (by omega))) (zqn L m (by omega))),zyg L⟩
theorem zie(L:Nat):FOk (yF rows) L 294 (zd0 xh L) 1:=xB (D:=0) (by kernel_rfl) fun m hm=>⟨zm0,zm5 L,zC,zwf L⟩
theorem zgi(L:Nat):FOk (yF rows) L 290 (zci yc L) 5:=xB (D:=4) (by kernel_rfl) fun m hm=>⟨zg6,zg0 zJ yp yK xG xh L,(zj (zj (zj (zj (zj zC (zsD L m (by omega))) (zmH L m (by omega))) (zsU L m (by omega))) (zsN L m (by omega))) (zie L m (by omega))),zqQ L⟩
theorem zgq(L:Nat):FOk (yF rows) L 305 (zch za L) 5:=xB (D:=4) (by kernel_rfl) fun m hm=>⟨zhh,zhf zJ xh yp xG L,(zj (zj (zj (zj zC (zsD L m (by omega))) (zie L m (by omega))) (zmH L m (by omega))) (zsN L m (by omega))),zqH L⟩
theorem zrm(L:Nat):FOk (yF rows) L 303 (zi0 zf L) 1:=xB (D:=0) (by kernel_rfl) fun m hm=>⟨zn9,znZ L,zC,zwU L⟩
theorem zm1(L:Nat):FOk (yF rows) L 287 (zgw zc L) 2:=xB (D:=1) (by kernel_rfl) fun m hm=>⟨zbm,zbn zf L,(zj zC (zrm L m (by omega))),zxv L⟩
theorem zwH(L:Nat):FOk (yF rows) L 302 (zkk yk L) 6:=xB (D:=5) (by kernel_rfl) fun m hm=>⟨za7,za8 yc za zc L,(zj (zj (zj zC (zgi L m (by omega))) (zgq L m (by omega))) (zm1 L m (by omega))),zvT L⟩
theorem zlz(L:Nat):FOk (yF rows) L 281 (zff xq L) 7:=xB (D:=6) (by kernel_rfl) fun m hm=>⟨za5,za9 yk zc L,(zj (zj zC (zwH L m (by omega))) (zm1 L m (by omega))),zvQ L⟩
theorem zkG(L:Nat):FOk (yF rows) L 288 (zew xd L) 1:=xB (D:=0) (by kernel_rfl) fun m hm=>⟨zlN,zlU L,zC,zvf L⟩
theorem zpR(L:Nat):FOk (yF rows) L 289 (zge ze L) 1:=xB (D:=0) (by kernel_rfl) fun m hm=>⟨zln,zlY L,zC,zvc L⟩
theorem zkD(L:Nat):FOk (yF rows) L 291 (zex yd L) 1:=xB (D:=0) (by kernel_rfl) fun m hm=>⟨yS,zT L,zC,zva L⟩
theorem zpk(L:Nat):FOk (yF rows) L 292 (zgo zd L) 2:=xB (D:=1) (by kernel_rfl) fun m hm=>⟨zl9,zmh yd L,(zj zC (zkD L m (by omega))),zu1 L⟩
theorem zuS(L:Nat):FOk (yF rows) L 287 (zh9 xf L) 2:=xB (D:=1) (by kernel_rfl) fun m hm=>⟨zav,zau zf L,(zj zC (zrm L m (by omega))),ztZ L⟩
theorem zrE(L:Nat):FOk (yF rows) L 293 (ziO xu L) 6:=xB (D:=5) (by kernel_rfl) fun m hm=>⟨xQ,zQ xd xf za yd zd ze L,(zj (zj (zj (zj (zj (zj zC (zkG L m (by omega))) (zuS L m (by omega))) (zgq L m (by omega))) (zkD L m (by omega))) (zpk L m (by omega))) (zpR L m (by omega))),zwT L⟩
theorem zyc(L:Nat):FOk (yF rows) L 272 (zlL yq L) 8:=xB (D:=7) (by kernel_rfl) fun m hm=>⟨zoi,zoe xq zc xd ze yc yd zd xh xu L,(zj (zj (zj (zj (zj (zj (zj (zj (zj zC (zlz L m (by omega))) (zm1 L m (by omega))) (zkG L m (by omega))) (zpR L m (by omega))) (zgi L m (by omega))) (zkD L m (by omega))) (zpk L m (by omega))) (zie L m (by omega))) (zrE L m (by omega))),zwp L⟩
theorem zzk(L:Nat):FOk (yF rows) L 262 (znn yt L) 3:=xB (D:=2) (by kernel_rfl) fun m hm=>⟨zo6,zpY ye L,(zj zC (zi9 L m (by omega))),zxR L⟩
theorem zxC(L:Nat):FOk (yF rows) L 273 (zkh xo L) 8:=xB (D:=7) (by kernel_rfl) fun m hm=>⟨zmS,zne xq xu L,(zj (zj zC (zlz L m (by omega))) (zrE L m (by omega))),zvJ L⟩
theorem zy2(L:Nat):FOk (yF rows) L 260 (znp zam L) 9:=xB (D:=8) (by kernel_rfl) fun m hm=>⟨zcp,zcl zt ye yq yt xo L,(zj (zj (zj (zj (zj zC (zy5 L m (by omega))) (zi9 L m (by omega))) (zyc L m (by omega))) (zzk L m (by omega))) (zxC L m (by omega))),zyi L⟩
theorem zwy(L:Nat):FOk (yF rows) L 381 (zkq zH L) 2:=xB (D:=1) (by kernel_rfl) fun m hm=>⟨zm4,zng xd xI L,(zj (zj zC (zkG L m (by omega))) (ztL L m (by omega))),zwb L⟩
theorem ztT(L:Nat):FOk (yF rows) L 384 (zgR zN L) 1:=xB (D:=0) (by kernel_rfl) fun m hm=>⟨zaA,zaB L,zC,zsW L⟩
theorem zxk(L:Nat):FOk (yF rows) L 385 (zkr yY L) 1:=xB (D:=0) (by kernel_rfl) fun m hm=>⟨zbv,zbs L,zC,zvY L⟩
theorem zoN(L:Nat):FOk (yF rows) L 375 (zc7 zae L) 11:=xB (D:=10) (by kernel_rfl) fun m hm=>⟨zeP,zeC y6 zaI zam zH yh xh xb za xm yc yu xq zN yY L,(zj (zj (zj (zj (zj (zj (zj (zj (zj (zj (zj (zj (zj (zj zC (zxI L m (by omega))) (zz0 L m (by omega))) (zy2 L m (by omega))) (zwy L m (by omega))) (zfn L m (by omega))) (zie L m (by omega))) (zeI L m (by omega))) (zgq L m (by omega))) (ziH L m (by omega))) (zgi L m (by omega))) (znR L m (by omega))) (zlz L m (by omega))) (ztT L m (by omega))) (zxk L m (by omega))),zoc L⟩
end
section
set_option maxRecDepth 100000
variable {β:Type}
structure Adr where
 h:Int
 p:Int
 t:Int
def Adr.v(a:Adr):List V:=[.sc (.int .u32 a.h),.sc (.int .u16 a.p),.sc (.int .u32 a.t)]
def grp(a:Adr):Int:=znb .u32 a.h 16
theorem zr9(L:Nat)(a:Adr)(k:Int→Option β):yh β L a.v k=k (grp a):=by
 simp only [yh,zkK,Adr.v,zo]
 rw [xw (by rfl)]; rfl
theorem zr4(L:Nat)(a:Adr)(k:Int→Option β):xh β L a.v k=k (grp a):=by
 simp only [xh,zoo,Adr.v,zo]
 rw [xw (by rfl)]; rfl
structure Plc where
 b:Int
 a:Adr
 s:Int
def Plc.v(e:Plc):List V:=[.sc (.int .i64 e.b),.sc (.int .u32 e.a.h),.sc (.int .u16 e.a.p),.sc (.int .u32 e.a.t),.sc (.int .u32 e.s)]
def zD(l:List Plc):List (List V):=l.map Plc.v
theorem zM(l:List Plc):(zD l).length=l.length:=by simp [zD]
theorem zbx{l:List Plc}{i:Nat}(h:i<l.length):(zD l)[i]?=some l[i].v:=by simp [zD,h]
theorem zv9(l m:List Plc):zD l++zD m=zD (l++m):=by simp [zD]
def zGZ(l:List Adr):List (List V):=l.map Adr.v
structure Bk where
 salt:List Int
 H:List Plc
 T:List Plc
 hs:salt.length=32
def Bk.v(b:Bk):List V:=row .u8 b.salt++[.sl 5 (zD b.H),.sl 5 (zD b.T)]
theorem Bk.len(b:Bk):b.v.length=34:=by simp [Bk.v,zba,b.hs]
theorem Bk.take(b:Bk):XL 34 b.v=b.v:=Xu (by rw [b.len]; exact Wq _)
theorem zFo(k:IntKind)(l:List Int):(row k l).map V.dem=row k l:=by simp [row,V.dem]
theorem Bk.dem(b:Bk):Xt V.dem b.v=b.v:=by
 rw [Bk.v,X7,zFo]; rfl
theorem Bk.g32(b:Bk):b.v[32]?=some (.sl 5 (zD b.H)):=by
 rw [Bk.v,Wt (by rw [zba,b.hs]; omega),zba,b.hs]; rfl
theorem Bk.g33(b:Bk):b.v[33]?=some (.sl 5 (zD b.T)):=by
 rw [Bk.v,Wt (by rw [zba,b.hs]; omega),zba,b.hs]; rfl
end
section
set_option maxRecDepth 100000
variable {β:Type}
def zia(m:Int)(i:Nat):List Int→Int
 | []=>m
 | b::bs=>zia (ior .u64 m (zqB .u64 (QF .u64 b) (QF .i64 (8*(i:Int))))) (i+1) bs
theorem zsJ(L:Nat)(kx:Int→Option β)(l:List Int)(hl:l.length≤1000000):∀ (n:Nat) (m:Int) (i:Nat),i≤l.length→l.length-i<n→zfx L kx n m (zao .u8 l) (l.length:Int) (i:Int)=kx (zia m i (l.drop i))
 | 0,m,i,hi,hn=>by omega
 | n+1,m,i,hi,hn=>by
  simp only [zfx,zmi,zo]
  by_cases h:i<l.length
  ·rw [zay (by omega),zbD (zv4 _ h),xw (by rfl),ya (by rw [yR (by omega) (by omega)]; omega)]
   rw [show QF .i64 ((i:Int)+1)=((i+1:Nat):Int) by rw [yR (by omega) (by omega)]; omega]
   rw [zsJ L kx l hl n _ (i+1) (by omega) (by omega),WP h]
   rfl
  ·rw [zaF (by omega),WI (by omega)]
   rfl
theorem zsn(L:Nat)(l:List Int)(hl:l.length≤1000000)(hL:l.length<L)(k:Int→Option β):yo β L (zao .u8 l) k=k (zia 0 0 l):=by
 simp only [yo,zoU,zsh,zd4]
 exact zsJ L _ l hl L 0 0 (by omega) (by omega)
theorem zsM(L:Nat)(kx:Int→Option β)(l:List Int)(hl:l.length≤1000000):∀ (n:Nat) (m:Int) (i:Nat),i≤l.length→l.length-i<n→zed L kx n (zao .u8 l) m (l.length:Int) (i:Int)=kx (zia m i (l.drop i))
 | 0,m,i,hi,hn=>by omega
 | n+1,m,i,hi,hn=>by
  simp only [zed,zjW,zo]
  by_cases h:i<l.length
  ·rw [zay (by omega),zbD (zv4 _ h),xw (by rfl),ya (by rw [yR (by omega) (by omega)]; omega)]
   rw [show QF .i64 ((i:Int)+1)=((i+1:Nat):Int) by rw [yR (by omega) (by omega)]; omega]
   rw [zsM L kx l hl n _ (i+1) (by omega) (by omega),WP h]
   rfl
  ·rw [zaF (by omega),WI (by omega)]
   rfl
theorem zsg(L:Nat)(l:List Int)(hl:l.length≤1000000)(hL:l.length<L)(k:Int→Option β):yj β L (zao .u8 l) k=k (zia 0 0 l):=by
 simp only [yj,zlm,zpe,zd4]
 exact zsM L _ l hl L 0 0 (by omega) (by omega)
theorem zwQ(L:Nat)(hL:8<L)(l:List Int)(h:l.length=32)(k:List V→Option β):zV β L (row .u8 l) k=k (row .u64 [zia 0 0 (l.take 8),zia 0 0 ((l.drop 8).take 8)])∧zJ β L (row .u8 l) k=k (row .u64 [zia 0 0 (l.take 8),zia 0 0 ((l.drop 8).take 8)]):=by
 obtain ⟨x,l',rfl⟩:∃ x l',l=x::l':=by
  cases l with
  | nil=>simp at h
  | cons x l'=>exact ⟨x,l',rfl⟩
 have e:(V.sc (.int .u8 x)::row .u8 l')=row .u8 (x::l'):=rfl
 have el:∀ (A:Option β) (B:V→List V→Option β),lc (row .u8 (x::l')) A B=B (Qa x) (row .u8 l'):=fun _ _=>rfl
 constructor
 ·simp only [zV,zuo,zo,el,e,zba,h,zz2]
  rw [ya (by decide),zmk _ _ _ (by omega),zsn _ _ (by simp; omega) (by simp; omega),ya (by decide),zmk _ _ _ (by simp at h ⊢; omega),zsn _ _ (by simp; omega) (by simp; omega),ya (by simp)]
  rfl
 ·simp only [zJ,zqF,zo,el,e,zba,h,zz2]
  rw [ya (by decide),zmk _ _ _ (by omega),zsg _ _ (by simp; omega) (by simp; omega),ya (by decide),zmk _ _ _ (by simp at h ⊢; omega),zsg _ _ (by simp; omega) (by simp; omega),ya (by simp)]
  rfl
end
section
set_option maxRecDepth 100000
variable {β:Type}
theorem znT{inst:Decidable ((4:Nat)≠0)}(k:Option β):@chk β ((4:Nat)≠0) inst k=k:=ya (by omega) k
structure S4 where
 a:Int
 b:Int
 c:Int
 d:Int
def S4.row(s:S4):List V:=[.sc (.int .u64 s.a),.sc (.int .u64 s.b),.sc (.int .u64 s.c),.sc (.int .u64 s.d)]
def zpO(x n:Int):Int:=ior .u64 (zqB .u64 x (zEs .u64 (QF .u64 n) 63)) (znb .u64 x (QF .u64 (64-zEs .u64 (QF .u64 n) 63)))
theorem zEJ(L:Nat)(x:Int)(k:Int→Option β):yb β L x 13 k=k (zpO x 13):=by kernel_rfl
theorem zEI(L:Nat)(x:Int)(k:Int→Option β):yb β L x 32 k=k (zpO x 32):=by kernel_rfl
theorem zET(L:Nat)(x:Int)(k:Int→Option β):yb β L x 16 k=k (zpO x 16):=by kernel_rfl
theorem zEP(L:Nat)(x:Int)(k:Int→Option β):yb β L x 21 k=k (zpO x 21):=by kernel_rfl
theorem zEM(L:Nat)(x:Int)(k:Int→Option β):yb β L x 17 k=k (zpO x 17):=by kernel_rfl
def r1(s:S4):S4:=⟨QF .u64 (s.a+s.b),s.b,s.c,s.d⟩
def r2(s:S4):S4:=⟨s.a,zaz .u64 (zpO s.b 13) s.a,s.c,s.d⟩
def r3(s:S4):S4:=⟨zpO s.a 32,s.b,s.c,s.d⟩
def r4(s:S4):S4:=⟨s.a,s.b,QF .u64 (s.c+s.d),s.d⟩
def r5(s:S4):S4:=⟨s.a,s.b,s.c,zaz .u64 (zpO s.d 16) s.c⟩
def r6(s:S4):S4:=⟨QF .u64 (s.a+s.d),s.b,s.c,s.d⟩
def r7(s:S4):S4:=⟨s.a,s.b,s.c,zaz .u64 (zpO s.d 21) s.a⟩
def r8(s:S4):S4:=⟨s.a,s.b,QF .u64 (s.c+s.b),s.d⟩
def r9(s:S4):S4:=⟨s.a,zaz .u64 (zpO s.b 17) s.c,s.c,s.d⟩
def r10(s:S4):S4:=⟨s.a,s.b,zpO s.c 32,s.d⟩
def rnd(s:S4):S4:=r10 (r9 (r8 (r7 (r6 (r5 (r4 (r3 (r2 (r1 s)))))))))
theorem c0(s:S4)(k:Int→Option β):cI .u64 s.row 0 k=k s.a:=by cases s; rfl
theorem c1(s:S4)(k:Int→Option β):cI .u64 s.row 1 k=k s.b:=by cases s; rfl
theorem c2(s:S4)(k:Int→Option β):cI .u64 s.row 2 k=k s.c:=by cases s; rfl
theorem c3(s:S4)(k:Int→Option β):cI .u64 s.row 3 k=k s.d:=by cases s; rfl
theorem zBH(s:S4)(x:Int):zg s.row 0 [.sc (.int .u64 x)]=S4.row ⟨x,s.b,s.c,s.d⟩:=by cases s; rfl
theorem zFL(s:S4)(x:Int):zg s.row 1 [.sc (.int .u64 x)]=S4.row ⟨s.a,x,s.c,s.d⟩:=by cases s; rfl
theorem zCA(s:S4)(x:Int):zg s.row 2 [.sc (.int .u64 x)]=S4.row ⟨s.a,s.b,x,s.d⟩:=by cases s; rfl
theorem zCo(s:S4)(x:Int):zg s.row 3 [.sc (.int .u64 x)]=S4.row ⟨s.a,s.b,s.c,x⟩:=by cases s; rfl
theorem zpH(s t:S4):zg s.row 0 t.row=t.row:=by cases s; cases t; rfl
theorem zCu(z0 z1 z2 z3:Int)(t:S4):zg [V.sc (.int .u64 z0),V.sc (.int .u64 z1),V.sc (.int .u64 z2),V.sc (.int .u64 z3)] 0 t.row=t.row:=by cases t; rfl
theorem zkO(s:S4):s.row.length=4:=by cases s; rfl
theorem zlB(s:S4):s.row.take 4=s.row:=by cases s; rfl
theorem zyB(L:Nat)(s:S4)(k:List V→Option β):yi β L s.row k=k (rnd s).row:=by
 simp only [yi,zn0,zo,c0,c1,c2,c3,zBH,zFL,zCA,zCo,zEJ,zEI,zET,zEP,zEM,zkO,zlB,zCu]
 repeat rw [ya (by decide)]
 rfl
theorem zDl(L:Nat)(p5 p6:Int)(s:S4)(z0 z1 z2 z3:Int)(kh:Int→Int→List V→Int→Int→Int→Int→Option β)(kx:List V→Int→Int→Int→Int→Option β)(h:p6<p5):zeM yb L p5 p6 s.row z0 z1 z2 z3 kh kx=kh p5 (QF .i64 (p6+1)) (rnd s).row z0 z1 z2 z3:=by
 simp only [zeM,zo,c0,c1,c2,c3,zBH,zFL,zCA,zCo,zEJ,zEI,zET,zEP,zEM,zkO,znT,zkm,true_and,and_true,and_self,XW,XX,XU,Wq,WB]
 rw [zay h]
 simp only [rnd,r1,r2,r3,r4,r5,r6,r7,r8,r9,r10]
def zxN:Nat→S4→S4
 | 0,s=>s
 | n+1,s=>zxN n (rnd s)
theorem zqp(L:Nat)(kx:List V→Int→Int→Int→Int→Option β)(z0 z1 z2 z3:Int)(m:Nat)(hm:m≤1000):∀ (n i:Nat) (s:S4),i≤m→m-i<n→zeB yb L kx n (m:Int) (i:Int) s.row z0 z1 z2 z3=kx (zxN (m-i) s).row z0 z1 z2 z3
 | 0,i,s,hi,hn=>by omega
 | n+1,i,s,hi,hn=>by
  simp only [zeB]
  by_cases h:i<m
  ·rw [zDl _ _ _ _ _ _ _ _ _ _ (by omega)]
   rw [show QF .i64 ((i:Int)+1)=((i+1:Nat):Int) by rw [yR (by omega) (by omega)]; omega]
   rw [zqp L kx z0 z1 z2 z3 m hm n (i+1) _ (by omega) (by omega),show m-i=(m-(i+1))+1 by omega]
   rfl
  ·simp only [zeM]
   rw [zaF (by omega),show m-i=0 by omega]
   rfl
theorem zxy(L:Nat)(s:S4)(m:Nat)(hm:m≤1000)(hL:m<L)(k:List V→Option β):xk β L s.row (m:Int) k=k (zxN m s).row:=by
 simp only [xk,zlP,zo7]
 rw [show (0:Int)=((0:Nat):Int) from rfl,zqp L _ _ _ _ _ m hm L 0 s (by omega) (by omega)]
 simp only [ziu,zo,zkO,zlB,X5,zCu,znT,zkm,true_and,and_true,and_self,XW,XX,XU,Wq,WB]
def zo9(s:S4)(m:Int):S4:=⟨zaz .u64 (rnd (rnd ⟨s.a,s.b,s.c,zaz .u64 s.d m⟩)).a m,(rnd (rnd ⟨s.a,s.b,s.c,zaz .u64 s.d m⟩)).b,(rnd (rnd ⟨s.a,s.b,s.c,zaz .u64 s.d m⟩)).c,(rnd (rnd ⟨s.a,s.b,s.c,zaz .u64 s.d m⟩)).d⟩
theorem zwJ(L:Nat)(hL:2<L)(s:S4)(m:Int)(k:List V→Option β):xp β L s.row m k=k (zo9 s m).row:=by
 simp only [xp,zpU,zo,c3,zCo,zkO,zlB,znT,zkm,true_and,and_true,and_self,XW,XX,XU,Wq,WB]
 rw [show (2:Int)=((2:Nat):Int) from rfl,zxy L _ 2 (by omega) hL]
 simp only [zkO,zpH,c0,zBH,zlB,zCu,zxN,zo9,znT,zkm,true_and,and_true,and_self,XW,XX,XU,Wq,WB]
theorem zwo(L:Nat)(s:S4)(m:Int)(k:List V→Option β):zm β L s.row m k=k (zo9 s m).row:=by
 simp only [zm,zmZ,zo,c3,zCo,zkO,zlB,zyB,zpH,c0,zBH,zCu,zo9,znT,zkm,true_and,and_true,and_self,XW,XX,XU,Wq,WB]
def zpw:Nat→S4→List Int→S4
 | 0,s,_=>s
 | n+1,s,l=>zpw n (zo9 s (zia 0 0 (l.take 8))) (l.drop 8)
def zCq(s:S4)(n:Int)(l:List Int):S4:=zo9 s (ior .u64 (zia 0 0 l) (zqB .u64 (QF .u64 (XQ n 256)) 56))
def zCt(s:S4):S4:=zxN 4 ⟨s.a,s.b,zaz .u64 s.c 255,s.d⟩
def zzw(s:S4):Int:=zaz .u64 (zaz .u64 (zaz .u64 s.a s.b) s.c) s.d
def zBW(s:S4)(n:Int)(l:List Int):Int:=zzw (zCt (zCq s n l))
def zBI(x y:Int):S4:=⟨zaz .u64 x 8317987319222330741,zaz .u64 y 7237128888997146477,zaz .u64 x 7816392313619706465,zaz .u64 y 8387220255154660723⟩
def zoF(x y:Int)(l:List Int):Int:=zBW (zpw (l.length / 8) (zBI x y) l) l.length (l.drop (l.length / 8*8))
theorem ztQ(L:Nat)(hL:10<L)(l:List Int)(hl:l.length≤1000000)(kx:List (List V)→Int→List V→Option β)(p6:Int):∀ (n i:Nat) (s:S4),i≤l.length / 8→l.length / 8-i<n→zfg yo xp xk L kx n (zao .u8 l) p6 ((l.length / 8:Nat):Int) (i:Int) s.row=kx (zao .u8 l) p6 (zpw (l.length / 8-i) s (l.drop (8*i))).row
 | 0,i,s,hi,hn=>by omega
 | n+1,i,s,hi,hn=>by
  simp only [zfg,zmb,zo,zkO,zlB,zd4]
  by_cases h:i<l.length / 8
  ·have e1:QF .i64 (8*(i:Int))=((8*i:Nat):Int):=by rw [yR (by omega) (by omega)]; omega
   have e2:QF .i64 (((8*i:Nat):Int)+8)=((8*i+8:Nat):Int):=by rw [yR (by omega) (by omega)]; omega
   have e3:QF .i64 ((i:Int)+1)=((i+1:Nat):Int):=by rw [yR (by omega) (by omega)]; omega
   rw [zay (by omega),e1,e2,e3,ya (by decide),ya (by omega),ya (by simp; omega)]
   simp only [Int.toNat_natCast,ztw,ztY]
   rw [zsn _ _ (by simp; omega) (by simp; omega),zwJ _ (by omega)]
   simp only [zkO,zpH]
   rw [ya (by decide),ztQ L hL l hl kx p6 n (i+1) _ (by omega) (by omega),show l.length / 8-i=(l.length / 8-(i+1))+1 by omega,zpw,List.drop_drop]
   rw [show 8*i+8-8*i=8 by omega,show 8*(i+1)=8*i+8 by omega]
  ·rw [zaF (by omega),show l.length / 8-i=0 by omega]
   rfl
theorem zuH(L:Nat)(x y:Int)(l:List Int)(hl:l.length≤1000000)(hL:l.length+10<L)(k:Int→Option β):yP β L (row .u64 [x,y]) (zao .u8 l) k=k (zoF x y l):=by
 simp only [yP,zqu,ztC,zo,zd4]
 rw [xw (n:=x) (by rfl),xw (n:=y) (by rfl),xw (n:=x) (by rfl),xw (n:=y) (by rfl)]
 have e1:QF .i64 (Int.tdiv (l.length:Int) 8)=((l.length / 8:Nat):Int):=by
  rw [Int.tdiv_eq_ediv_of_nonneg (by omega),yR (by omega) (by omega)]; omega
 rw [e1,show (0:Int)=((0:Nat):Int) from rfl]
 have:=ztQ (β:=β) L (by omega) l hl (fun p1 p6 b5=>zf7 yo xp xk L p1 p6 b5 k) ((l.length / 8:Nat):Int) L 0 (zBI x y) (by omega) (by omega)
 refine (show _=_ from this).trans ?_
 have e2:QF .i64 (8*((l.length / 8:Nat):Int))=((l.length / 8*8:Nat):Int):=by rw [yR (by omega) (by omega)]; omega
 simp only [zf7,zo,zkO,zlB,zd4,X5,Nat.mul_zero,XY]
 rw [ya (by decide),e2,ya (by omega)]
 simp only [Int.toNat_natCast,ztw,ztY]
 rw [Xu (by simp),zsn _ _ (by simp; omega) (by simp; omega),zwJ _ (by omega)]
 simp only [zkO,zpH,c2,zCA,zlB,znT,zkm,true_and,and_true,and_self,XW,XX,XU,Wq,WB]
 rw [show (4:Int)=((4:Nat):Int) from rfl,zxy _ _ 4 (by omega) (by omega)]
 simp only [zkO,zpH,c0,c1,c2,c3,zoF,zBW,zCq,zCt,zzw,znT,zkm,true_and,and_true,and_self,XW,XX,XU,Wq,WB]
theorem zCv(n:Nat):∀ (s:S4) (l:List Int),zpw (n+1) s l=zpw n (zo9 s (zia 0 0 (l.take 8))) (l.drop 8):=fun _ _=>rfl
theorem zul(L:Nat)(hL:10<L)(kx:List (List V)→Int→List V→Option β)(p6:Int):∀ (n:Nat) (l:List Int) (s:S4),l.length≤1000000→l.length / 8<n→zeA yj zm yi L kx n (zao .u8 l) p6 s.row=kx (zao .u8 (l.drop (l.length / 8*8))) p6 (zpw (l.length / 8) s l).row
 | 0,l,s,hl,hn=>by omega
 | n+1,l,s,hl,hn=>by
  simp only [zeA,zkz,zo,zkO,zlB,zd4]
  by_cases h:8≤l.length
  ·rw [zay (by omega),ya (by decide),ya (by omega)]
   simp only [ztw,ztY,XY]
   rw [zsg _ _ (by simp; omega) (by simp; omega),zwo,ya (by omega)]
   simp only [zkO,zpH]
   rw [ya (by decide),Xu (by simp),zul L hL kx p6 n _ _ (by simp; omega) (by simp; omega)]
   have e:(l.drop 8).length / 8=l.length / 8-1:=by simp; omega
   rw [e,List.drop_drop,show 8+(l.length / 8-1)*8=l.length / 8*8 by omega]
   obtain ⟨q,hq⟩:∃ q,l.length / 8=q+1:=⟨l.length / 8-1,by omega⟩
   rw [hq,zCv]
   rfl
  ·have e:l.length / 8=0:=by omega
   rw [zaF (by omega),e]
   rfl
theorem zuy(L:Nat)(x y:Int)(l:List Int)(hl:l.length≤1000000)(hL:l.length+10<L)(k:Int→Option β):xG β L (row .u64 [x,y]) (zao .u8 l) k=k (zoF x y l):=by
 simp only [xG,znl,zq0,zo,zd4]
 rw [xw (n:=x) (by rfl),xw (n:=y) (by rfl),xw (n:=x) (by rfl),xw (n:=y) (by rfl)]
 have:=zul (β:=β) L (by omega) (fun p1 p6 b5=>zfE yj zm yi L p1 p6 b5 k) (l.length:Int) L l (zBI x y) hl (by omega)
 refine (show _=_ from this).trans ?_
 simp only [zfE,zo,zkO,zlB]
 rw [ya (by decide),zsg _ _ (by simp; omega) (by simp; omega)]
 simp only [zwo,zkO,zpH,c2,zCA,zlB,zyB,c0,c1,c3,zoF,zBW,zCq,zCt,zzw,zxN,znT,zkm,true_and,and_true,and_self,XW,XX,XU,Wq,WB]
end
section
set_option maxRecDepth 100000
variable {β:Type}
def le4(x:Int):List Int:=[QF .u8 (znb .u64 x 0),QF .u8 (znb .u64 x 8),QF .u8 (znb .u64 x 16),QF .u8 (znb .u64 x 24)]
def le2(x:Int):List Int:=[QF .u8 (znb .u64 x 0),QF .u8 (znb .u64 x 8)]
theorem zGz(L:Nat)(x:Int)(k:List (List V)→Option β):zz β (L+10) x 4 k=k (zao .u8 (le4 x)):=by kernel_rfl
theorem zGF(L:Nat)(x:Int)(k:List (List V)→Option β):zz β (L+10) x 2 k=k (zao .u8 (le2 x)):=by kernel_rfl
theorem zGK(L:Nat)(x:Int)(k:List (List V)→Option β):xz β (L+10) x 4 k=k (zao .u8 (le4 x)):=by kernel_rfl
theorem zGD(L:Nat)(x:Int)(k:List (List V)→Option β):xz β (L+10) x 2 k=k (zao .u8 (le2 x)):=by kernel_rfl
theorem zDa(L:Nat)(l m:List Int)(hl:l.length≤1000)(hm:m.length≤1000)(k:List (List V)→Option β):yz β L (zao .u8 l) (zao .u8 m) k=k (zao .u8 (l++m)):=by
 simp only [yz,zmX,zo,zd4,Yb,List.length_nil,WB,XE]
 rw [yR (by omega) (by omega),ya ⟨by omega,by omega,by simp only [yn]; omega,by simp only [yn]; omega⟩,ya ⟨by simp only [yn]; omega,by simp only [yn]; omega⟩,ya ⟨by simp only [yn]; omega,by simp only [yn]; omega⟩,zzR]
theorem zBa(L:Nat)(l m:List Int)(hl:l.length≤1000)(hm:m.length≤1000)(k:List (List V)→Option β):zA β L (zao .u8 l) (zao .u8 m) k=k (zao .u8 (l++m)):=by
 simp only [zA,znh,zo,zd4,Yb,List.length_nil,WB,XE]
 rw [yR (by omega) (by omega),ya ⟨by omega,by omega,by simp only [yn]; omega,by simp only [yn]; omega⟩,ya ⟨by simp only [yn]; omega,by simp only [yn]; omega⟩,ya ⟨by simp only [yn]; omega,by simp only [yn]; omega⟩,zzR]
def w64(x:Int):Int:=QF .u64 x
theorem zvO(L:Nat)(l:List Int)(hl:l.length≤900)(x:Int)(k:List (List V)→Option β):zp β (L+10) (zao .u8 l) x k=k (zao .u8 (l++le4 (w64 x))):=by
 simp only [zp,zjF,zo]
 rw [zGz,zDa _ _ _ (by omega) (by simp [le4])]; rfl
theorem zGT(L:Nat)(l:List Int)(hl:l.length≤900)(x:Int)(k:List (List V)→Option β):xK β (L+10) (zao .u8 l) x k=k (zao .u8 (l++le2 (w64 x))):=by
 simp only [xK,zjD,zo]
 rw [zGF,zDa _ _ _ (by omega) (by simp [le2])]; rfl
theorem zr7(L:Nat)(l:List Int)(hl:l.length≤900)(x:Int)(k:List (List V)→Option β):yp β (L+10) (zao .u8 l) x k=k (zao .u8 (l++le4 (w64 x))):=by
 simp only [yp,zjw,zo]
 rw [zGK,zBa _ _ _ (by omega) (by simp [le4])]; rfl
theorem zGb(L:Nat)(l:List Int)(hl:l.length≤900)(x:Int)(k:List (List V)→Option β):yK β (L+10) (zao .u8 l) x k=k (zao .u8 (l++le2 (w64 x))):=by
 simp only [yK,zjP,zo]
 rw [zGD,zBa _ _ _ (by omega) (by simp [le2])]; rfl
end
section
set_option maxRecDepth 100000
variable {β:Type}
def zBM(s:List Int):Int:=zia 0 0 (s.take 8)
def zBD(s:List Int):Int:=zia 0 0 ((s.drop 8).take 8)
def bkt(s:List Int)(m1:List Int)(m2:Int→List Int):Int:=
 QF .i64 (XQ (zoF (zBM s) (zBD s) (m2 (QF .u32 (XQ (zoF (zBM s) (zBD s) m1) 4)))) 64)
def hbk(s:List Int)(a:Adr)(src:Int):Int:=bkt s ([2]++le4 (w64 (grp a))++le4 (w64 src)) (fun x=>[1]++le4 (w64 src)++le4 (w64 x))
def tbk(s:List Int)(a:Adr):Int:=bkt s ([4]++le4 (w64 a.h)++le2 (w64 a.p)) (fun x=>[3]++le4 (w64 (grp a))++le4 (w64 x))
theorem zzD(n:Int):xe 1 1 [(Qa n)]=zao .u8 [n]:=rfl
theorem zzu(x y:Int):zg [(Qd (0:Int)),(Qd (0:Int))] 0 (row .u64 [x,y])=row .u64 [x,y]:=rfl
theorem zxq(x y:Int):XL 2 (row .u64 [x,y])=row .u64 [x,y]:=rfl
theorem zdN(a:Adr):XL 3 a.v=a.v:=rfl
theorem zm2{s:List Int}(h:s.length=32):XL 32 (row .u8 s)=row .u8 s:=Xu (by rw [zba,h]; exact Wq _)
theorem zCd(L:Nat)(s:List Int)(hs:s.length=32)(a:Adr)(src:Int)(k:Int→Option β):xb β (L+100) (row .u8 s) a.v src k=k (hbk s a src):=by
 simp only [xb,zfQ,zm2 hs,zdN,zo,zzD]
 rw [ya (by rw [zba,hs]; omega),(zwQ (β:=β) (L+100) (by omega) s hs _).1,ya ⟨rfl,by omega⟩,zzu,ya (by show 0+2≤2; omega),ya (by show 0+3≤3; omega),zr9,show L+100=(L+90)+10 from rfl,zvO _ _ (by simp),zvO _ _ (by simp [le4]),zxq,zuH _ _ _ _ (by simp [le4]) (by simp [le4]),zvO _ _ (by simp),zvO _ _ (by simp [le4]),ya (by show 0+2≤2; omega),zuH _ _ _ _ (by simp [le4]) (by simp [le4])]
 rfl
theorem zBC(L:Nat)(s:List Int)(hs:s.length=32)(a:Adr)(src:Int)(k:Int→Option β):za β (L+100) (row .u8 s) a.v src k=k (hbk s a src):=by
 simp only [za,zhF,zm2 hs,zdN,zo,zzD]
 rw [ya (by rw [zba,hs]; omega),(zwQ (β:=β) (L+100) (by omega) s hs _).2,ya ⟨rfl,by omega⟩,zzu,ya (by show 0+2≤2; omega),ya (by show 0+3≤3; omega),zr4,show L+100=(L+90)+10 from rfl,zr7 _ _ (by simp),zr7 _ _ (by simp [le4]),zxq,zuy _ _ _ _ (by simp [le4]) (by simp [le4]),ya (by show 0+2≤2; omega),zr7 _ _ (by simp),zr7 _ _ (by simp [le4]),zuy _ _ _ _ (by simp [le4]) (by simp [le4])]
 rfl
theorem zEU(L:Nat)(s:List Int)(hs:s.length=32)(a:Adr)(k:Int→Option β):xm β (L+100) (row .u8 s) a.v k=k (tbk s a):=by
 simp only [xm,zfI,zm2 hs,zdN,zo,zzD]
 rw [ya (by rw [zba,hs]; omega),(zwQ (β:=β) (L+100) (by omega) s hs _).1,ya ⟨rfl,by omega⟩,zzu,ya (by show 0+2≤2; omega),xw (n:=a.h) rfl,show L+100=(L+90)+10 from rfl,zvO _ _ (by simp),xw (n:=a.p) rfl,zGT _ _ (by simp [le4]),zxq,zuH _ _ _ _ (by simp [le4,le2]) (by simp [le4,le2]),ya (by show 0+3≤3; omega),zr9,zvO _ _ (by simp),zvO _ _ (by simp [le4]),ya (by show 0+2≤2; omega),zuH _ _ _ _ (by simp [le4]) (by simp [le4])]
 rfl
theorem zzz(L:Nat)(s:List Int)(hs:s.length=32)(a:Adr)(k:Int→Option β):yc β (L+100) (row .u8 s) a.v k=k (tbk s a):=by
 simp only [yc,zhO,zm2 hs,zdN,zo,zzD]
 rw [ya (by rw [zba,hs]; omega),(zwQ (β:=β) (L+100) (by omega) s hs _).2,ya ⟨rfl,by omega⟩,zzu,ya (by show 0+2≤2; omega),xw (n:=a.h) rfl,show L+100=(L+90)+10 from rfl,zr7 _ _ (by simp),xw (n:=a.p) rfl,zGb _ _ (by simp [le4]),zxq,zuy _ _ _ _ (by simp [le4,le2]) (by simp [le4,le2]),ya (by show 0+2≤2; omega),ya (by show 0+3≤3; omega),zr4,zr7 _ _ (by simp),zr7 _ _ (by simp [le4]),zuy _ _ _ _ (by simp [le4]) (by simp [le4])]
 rfl
end
section
variable {β:Type}
def zy(a b:Adr):Bool:=a.h==b.h&&a.p==b.p
theorem zBg(L:Nat)(a b:Adr)(k:Bool→Option β):zf β L a.v b.v k=k (zy a b):=by
 simp only [zf,zpE]
 rw [xw (n:=a.h) rfl,xw (n:=b.h) rfl,zR]
 by_cases h:a.h=b.h
 ·rw [if_pos h,xw (n:=a.p) rfl,xw (n:=b.p) rfl,zy,h]
  congr 1
  simp
 ·rw [if_neg h,zy,beq_eq_false_iff_ne.2 h]; rfl
theorem zyV(L:Nat)(ps:List Plc)(hp:ps.length≤1000000)(a:Adr)(k:Int→Option β):∀ (m i:Nat),i≤ps.length→ps.length-i<m →
  zeD zf L k (k (-1)) m (zD ps) (i:Int) a.v=k (zcb (fun e=>zy e.a a) (ps.drop i) i)
 | 0,i,h1,h2=>by omega
 | m+1,i,h1,h2=>by
  simp only [zeD,zkL,zo,zM]
  by_cases h:i<ps.length
  ·have e1:XL 3 (XM 1 ps[i].v)=ps[i].a.v:=rfl
   rw [zay (by omega),zbD (zbx h),ya (by show 0+3≤3; omega),e1,zdN,zBg,zad (by omega),zyV L ps hp a k m (i+1) (by omega) (by omega),WP h,zcb]
   cases zy ps[i].a a <;> rfl
  ·rw [zaF (by omega),WI (by omega)]; rfl
theorem zx9(L:Nat)(ps:List Plc)(hp:ps.length≤1000000)(hL:ps.length<L)(a:Adr)(k:Int→Option β):zc β L (zD ps) a.v k=k (zcb (fun e=>zy e.a a) ps 0):=by
 simp only [zc,zlF,zo8]
 rw [show ((0:Int))=((0:Nat):Int) from rfl]
 exact zyV L ps hp a k L 0 (by omega) (by omega)
end
section
variable {β:Type}
def zoa(l:List Plc)(i:Nat)(v:Int):Bool:=match l[i-8]? with
 | some e=>decide (8≤i)&&e.b==v
 | none=>false
def zjM(l:List Plc)(i:Nat)(v:Int):Bool:=match l[i-1]? with
 | some e=>decide (0<i)&&decide (e.b>v)
 | none=>false
def zny(l:List Plc)(i:Nat):Bool:=match l[i]? with
 | some e=>zcb (fun x=>zy x.a e.a) l 0==(i:Int)
 | none=>true
def znO(bk:Plc→Int)(l:List Plc)(i:Nat):Bool:=match l[i]? with
 | some e=>e.b==bk e&&!(zjM l i (bk e))&&!(zoa l i (bk e))&&zny l i
 | none=>true
def zk5(p:Nat→Bool):Nat→Nat→Bool
 | _,0=>true
 | i,n+1=>p i&&zk5 p (i+1) n
def zdP(bk:Plc→Int)(l:List Plc):Bool:=decide (l.length≤512)&&zk5 (znO bk l) 0 l.length
theorem zFJ(L:Nat)(ps:List Plc)(hp:ps.length≤1000)(hL:ps.length<L)(i:Nat)(h:i<ps.length)(v:Int)(A:Option β)(K:Int→Option β) :
  (ifb (decide ((i:Int)≥(8:Int))) (
 lt (QF .i64 ((i:Int)-(8:Int))) fun x11=>
 idx (zD ps) x11 fun c12=>
 cI .i64 c12 0 fun v13=>
 ifb ((v13:Int)==v) A (
 idx (zD ps) (i:Int) fun c14=>
 zc β L (zD ps) (XL 3 (XM 1 c14)) (fun v15=>
 ifb ((v15:Int) != (i:Int)) A (
 lt (QF .i64 ((i:Int)+(1:Int))) fun x16=>
 K x16)))) (
 idx (zD ps) (i:Int) fun c17=>
 zc β L (zD ps) (XL 3 (XM 1 c17)) (fun v18=>
 ifb ((v18:Int) != (i:Int)) A (
 lt (QF .i64 ((i:Int)+(1:Int))) fun x19=>
 K x19))))=ifb (!(zoa ps i v)&&zny ps i) (K ((i+1:Nat):Int)) A:=by
 have e1:XL 3 (XM 1 ps[i].v)=ps[i].a.v:=rfl
 have key:(idx (zD ps) (i:Int) fun c17=>
   zc β L (zD ps) (XL 3 (XM 1 c17)) (fun v18=>
   ifb ((v18:Int) != (i:Int)) A (
   lt (QF .i64 ((i:Int)+(1:Int))) fun x19=>K x19)))=ifb (zny ps i) (K ((i+1:Nat):Int)) A:=by
  rw [zbD (zbx h),e1,zx9 L ps (by omega) hL,zo,zad (by omega),zny,Wb h]
  simp only
  rw [zo0,zR]
 rw [key,yQ]
 by_cases h8:8≤i
 ·have g:ps[i-8]?=some (ps[i-8]'(by omega)):=Wb (by omega)
  have e8:QF .i64 ((i:Int)-8)=((i-8:Nat):Int):=by rw [yR (by omega) (by omega)]; omega
  rw [if_pos (by omega),zo,e8,zbD (zbx (by omega)),xw (n:=(ps[i-8]'(by omega)).b) rfl,zoa,g]
  simp only
  rw [decide_eq_true h8,XT]
  cases ((ps[i-8]'(by omega)).b==v) <;> rfl
 ·have e:zoa ps i v=false:=by
   unfold zoa
   rw [decide_eq_false h8]
   split <;> rfl
  rw [if_neg (by omega),e]
  rfl
theorem zDP(L:Nat)(ps:List Plc)(hp:ps.length≤1000)(hL:ps.length<L)(i:Nat)(h:i<ps.length)(v:Int)(A:Option β)(K:Int→Option β) :
  (idx (zD ps) (i:Int) fun c6=>
 cI .i64 c6 0 fun v7=>
 ifb ((v7:Int) != v) A (
 ifb (decide ((i:Int)>(0:Int))) (
 lt (QF .i64 ((i:Int)-(1:Int))) fun x8=>
 idx (zD ps) x8 fun c9=>
 cI .i64 c9 0 fun v10=>
 ifb (decide (v10>v)) A (
 ifb (decide ((i:Int)≥(8:Int))) (
 lt (QF .i64 ((i:Int)-(8:Int))) fun x11=>
 idx (zD ps) x11 fun c12=>
 cI .i64 c12 0 fun v13=>
 ifb ((v13:Int)==v) A (
 idx (zD ps) (i:Int) fun c14=>
 zc β L (zD ps) (XL 3 (XM 1 c14)) (fun v15=>
 ifb ((v15:Int) != (i:Int)) A (
 lt (QF .i64 ((i:Int)+(1:Int))) fun x16=>
 K x16)))) (
 idx (zD ps) (i:Int) fun c17=>
 zc β L (zD ps) (XL 3 (XM 1 c17)) (fun v18=>
 ifb ((v18:Int) != (i:Int)) A (
 lt (QF .i64 ((i:Int)+(1:Int))) fun x19=>
 K x19))))) (
 ifb (decide ((i:Int)≥(8:Int))) (
 lt (QF .i64 ((i:Int)-(8:Int))) fun x11=>
 idx (zD ps) x11 fun c12=>
 cI .i64 c12 0 fun v13=>
 ifb ((v13:Int)==v) A (
 idx (zD ps) (i:Int) fun c14=>
 zc β L (zD ps) (XL 3 (XM 1 c14)) (fun v15=>
 ifb ((v15:Int) != (i:Int)) A (
 lt (QF .i64 ((i:Int)+(1:Int))) fun x16=>
 K x16)))) (
 idx (zD ps) (i:Int) fun c17=>
 zc β L (zD ps) (XL 3 (XM 1 c17)) (fun v18=>
 ifb ((v18:Int) != (i:Int)) A (
 lt (QF .i64 ((i:Int)+(1:Int))) fun x19=>
 K x19))))))=ifb (ps[i].b==v&&!(zjM ps i v)&&!(zoa ps i v)&&zny ps i) (K ((i+1:Nat):Int)) A:=by
 rw [zFJ L ps hp hL i h,zbD (zbx h),xw (n:=ps[i].b) rfl,zo0]
 by_cases hb:ps[i].b=v
 ·rw [if_pos hb,hb,beq_self_eq_true,XT,yQ]
  by_cases h0:0<i
  ·have g:ps[i-1]?=some (ps[i-1]'(by omega)):=Wb (by omega)
   have e8:QF .i64 ((i:Int)-1)=((i-1:Nat):Int):=by rw [yR (by omega) (by omega)]; omega
   rw [if_pos (by omega),zo,e8,zbD (zbx (by omega)),xw (n:=(ps[i-1]'(by omega)).b) rfl,zjM,g]
   simp only
   rw [decide_eq_true h0,XT]
   cases decide ((ps[i-1]'(by omega)).b>v) <;> rfl
  ·have e:zjM ps i v=false:=by
    unfold zjM
    rw [decide_eq_false h0]
    split <;> rfl
   rw [if_neg (by omega),e]
   rfl
 ·rw [if_neg hb,beq_eq_false_iff_ne.2 hb]
  rfl
end
section
def zak(v:Int)(l:List Plc):Nat:=(l.filter (fun x=>x.b==v)).length
def okS(bk:Plc→Int)(N:List Adr)(pre:List Plc)(e:Plc):Bool:=
 e.b==bk e&&(pre.all (fun x=>decide (x.b≤e.b))&&(decide (zak e.b pre≤7)&&(!(pre.any (fun x=>zy x.a e.a))&&!(N.any (fun a=>zy a e.a)))))
def okA(bk:Plc→Int)(N:List Adr):List Plc→List Plc→Bool
 | _,[]=>true
 | pre,e::l=>okS bk N pre e&&okA bk N (pre++[e]) l
def Srt(l:List Plc):Prop:=l.Pairwise (fun x y=>x.b≤y.b)
theorem zCS{bk:Plc→Int}{N:List Adr}{pre:List Plc}{e:Plc}(h:okS bk N pre e=true):∀ x∈pre,x.b≤e.b:=by
 simp only [okS,Wg,QN,decide_eq_true_eq] at h
 exact h.2.1
theorem Srt.snoc{pre:List Plc}{e:Plc}(h:Srt pre)(he:∀ x∈pre,x.b≤e.b):Srt (pre++[e]):=by
 unfold Srt at *
 rw [Xr]
 exact ⟨h,by simp,fun x hx y hy=>by simp at hy; subst hy; exact he x hx⟩
theorem Srt.split:∀ {l:List Plc} (v:Int),Srt l→(∀ x∈l,x.b≤v)→∃ A B:List Plc,l=A++B∧(∀ x∈A,x.b<v)∧(∀ x∈B,x.b=v)
 | [],v,_,_=>⟨[],[],rfl,by simp,by simp⟩
 | x::l,v,h,hv=>by
  have h':=List.pairwise_cons.1 h
  obtain ⟨A,B,rfl,hA,hB⟩:=Srt.split v h'.2 (fun y hy=>hv y (by simp [hy]))
  by_cases hx:x.b<v
  ·exact ⟨x::A,B,rfl,by simpa using ⟨hx,hA⟩,hB⟩
  ·have hxv:x.b=v:=by have:=hv x (by simp); omega
   have:A=[]:=by
    cases A with
    | nil=>rfl
    | cons a A=>
     have h1:=hA a (by simp)
     have h2:=h'.1 a (by simp)
     omega
   subst this
   exact ⟨[],x::B,rfl,by simp,by simpa using ⟨hxv,hB⟩⟩
theorem zCi{A B:List Plc}{v:Int}(hA:∀ x∈A,x.b<v)(hB:∀ x∈B,x.b=v):zak v (A++B)=B.length:=by
 unfold zak
 rw [XZ,X8.2 (fun x hx=>by have:=hA x hx; simp; omega),List.filter_eq_self.2 (fun x hx=>by simp [hB x hx])]
 rfl
theorem zA3{l:List Plc}(h:Srt l)(v:Int)(i:Nat)(hi:i<l.length):(l.take i).all (fun x=>decide (x.b≤v))=!(zjM l i v):=by
 unfold zjM
 cases i with
 | zero=>cases hl:l[0-1]? <;> simp
 | succ i=>
  rw [Nat.add_sub_cancel,Wb (by omega)]
  simp only
  rw [Bool.eq_iff_iff]
  simp only [QN,decide_eq_true_eq,Q8,Bool.and_eq_false_imp,decide_eq_false_iff_not]
  constructor
  ·intro H _ hgt
   have:=H l[i] (XV.2 ⟨i,by omega,rfl⟩)
   omega
  ·intro H x hx
   have H:=H (by omega)
   obtain ⟨j,hj,rfl⟩:=XV.1 hx
   by_cases hji:j=i
   ·subst hji; omega
   ·have:=X0.1 h j i (by omega) (by omega) (by omega)
    omega
theorem zFC{l:List Plc}{i:Nat}(hi:i<l.length)(v:Int)(h:Srt (l.take i))(hv:∀ x∈l.take i,x.b≤v):zoa l i v=!(decide (zak v (l.take i)≤7)):=by
 obtain ⟨A,B,hAB,hA,hB⟩:=h.split v hv
 rw [hAB,zCi hA hB]
 have hlen:i=A.length+B.length:=by
  have:=congrArg XJ hAB
  rw [Ww,Wm,Nat.min_eq_left (by omega)] at this
  exact this
 unfold zoa
 rw [Wb (by omega)]
 simp only
 by_cases h8:8≤i
 ·have e:l[i-8]'(by omega)=(A++B)[i-8]'(by rw [Wm]; omega):=by
   have:(l.take i)[i-8]'(by rw [Ww]; omega)=l[i-8]'(by omega):=List.getElem_take
   rw [← this]
   simp only [hAB]
  rw [decide_eq_true h8,XT,e]
  by_cases h7:B.length≤7
  ·rw [decide_eq_true h7,List.getElem_append_left (by omega)]
   have:=hA (A[i-8]'(by omega)) (W1 _)
   rw [beq_eq_false_iff_ne.2 (by omega)]; rfl
  ·rw [decide_eq_false h7,List.getElem_append_right (by omega)]
   rw [hB _ (W1 _),beq_self_eq_true]; rfl
 ·rw [decide_eq_false h8,Xo,decide_eq_true (by omega)]; rfl
theorem zrZ(a:Adr):zy a a=true:=by simp [zy]
theorem zD1{l:List Plc}{i:Nat}(hi:i<l.length):zny l i=!((l.take i).any (fun x=>zy x.a l[i].a)):=by
 unfold zny
 rw [Wb hi]
 simp only
 rcases znG (fun x:Plc=>zy x.a l[i].a) l 0 with ⟨h1,h2⟩ | ⟨j,hj,h1,h2,h3⟩
 ·have:=h2 l[i] (W1 hi)
  simp only [zrZ] at this
  cases this
 ·rw [h1,WB]
  by_cases hij:j=i
  ·subst hij
   rw [beq_self_eq_true]
   have:(l.take j).any (fun x=>zy x.a l[j].a)=false:=by
    rw [X3]
    intro x hx; rw [h2 x hx]; simp
   rw [this]; rfl
  ·have hlt:j<i:=by
    rcases Nat.lt_or_gt_of_ne hij with h | h
    ·exact h
    ·have:=h2 l[i] (XV.2 ⟨i,by omega,rfl⟩)
     simp only [zrZ] at this
     cases this
   rw [beq_eq_false_iff_ne.2 (by omega)]
   have:(l.take i).any (fun x=>zy x.a l[i].a)=true:=List.any_eq_true.2 ⟨l[j],XV.2 ⟨j,by omega,rfl⟩,h3⟩
   rw [this]; rfl
theorem zDO(bk:Plc→Int){l:List Plc}{i:Nat}(hi:i<l.length)(h:Srt (l.take i)):znO bk l i=okS bk [] (l.take i) l[i]:=by
 unfold znO okS
 rw [Wb hi]
 simp only
 by_cases hb:l[i].b=bk l[i]
 ·rw [beq_iff_eq.2 hb,XT,XT,← hb,zD1 hi]
  have hl:(l.take i).all (fun x=>decide (x.b≤l[i].b))=!(zjM (l.take i++[l[i]]) i l[i].b):=by
   by_cases ha:∀ x∈l.take i,x.b≤l[i].b
   ·rw [← zA3 (h.snoc ha) _ i (by rw [Wm,Ww]; simp; omega),List.take_left' (by rw [Ww]; omega)]
   ·have e1:(l.take i).all (fun x=>decide (x.b≤l[i].b))=false:=by
     rw [Bool.eq_false_iff]
     intro hh
     apply ha
     intro x hx
     have:=QN.1 hh x hx
     simpa using this
    rw [e1]
    have hex:∃ x∈l.take i,l[i].b<x.b:=by
     apply Classical.byContradiction
     intro hn
     exact ha (fun x hx=>by
      apply Classical.byContradiction
      intro h2
      exact hn ⟨x,hx,by omega⟩)
    obtain ⟨x,hx,hlt⟩:=hex
    obtain ⟨j,hj,rfl⟩:=XV.1 hx
    unfold zjM
    rw [List.getElem?_append_left (by rw [Ww]; omega),X4 (by omega),Wb (by omega)]
    simp only
    have:l[j].b≤(l[i-1]'(by omega)).b:=by
     by_cases hji:j=i-1
     ·subst hji; exact Int.le_refl _
     ·have:=X0.1 h j (i-1) (by rw [Ww]; omega) (by rw [Ww]; omega) (by omega)
      simpa using this
    rw [decide_eq_true (by omega:0<i),decide_eq_true (by omega)]
    rfl
  have hl2:zjM (l.take i++[l[i]]) i l[i].b=zjM l i l[i].b:=by
   rw [← XS hi]
   unfold zjM
   by_cases h0:0<i
   ·rw [X4 (by omega)]
   ·rw [decide_eq_false h0]
    cases (XL (i+1) l)[i-1]? <;> cases l[i-1]? <;> simp
  rw [hl2] at hl
  rw [hl]
  cases hless:zjM l i l[i].b with
  | true=>rfl
  | false=>
   rw [hless] at hl
   have ha:∀ x∈l.take i,x.b≤l[i].b:=fun x hx=>by simpa using QN.1 hl x hx
   rw [zFC hi _ h ha]
   simp [Ya]
 ·rw [beq_eq_false_iff_ne.2 hb]; rfl
theorem zw4(bk:Plc→Int)(l:List Plc):∀ (n i:Nat),i+n=l.length→Srt (l.take i)→zk5 (znO bk l) i n=okA bk [] (l.take i) (l.drop i)
 | 0,i,h,hs=>by rw [WI (by omega)]; rfl
 | n+1,i,h,hs=>by
  rw [zk5,WP (by omega),okA,zDO bk (by omega) hs]
  cases ho:okS bk [] (l.take i) (l[i]'(by omega)) with
  | false=>rfl
  | true=>
   have hi:i<l.length:=by omega
   rw [XT,XT,zw4 bk l n (i+1) (by omega) (by rw [XS hi]; exact hs.snoc (zCS ho)),XS hi]
theorem zoD(bk:Plc→Int)(l:List Plc):zdP bk l=(decide (l.length≤512)&&okA bk [] [] l):=by
 unfold zdP
 rw [zw4 bk l l.length 0 (by omega) (by simp [Srt])]
 rfl
structure TOk (bk:Plc→Int) (N:List Adr) (l:List Plc):Prop where
 b:∀ e∈l,e.b=bk e
 s:Srt l
 c:∀ v,zak v l≤8
 n:l.Pairwise (fun x y=>zy x.a y.a=false)
 f:∀ e∈l,∀ a∈N,zy a e.a=false
theorem zgD(v:Int)(pre:List Plc)(e:Plc):zak v (pre++[e])=zak v pre+if e.b=v then 1 else 0:=by
 unfold zak
 rw [XZ,Wm]
 by_cases h:e.b=v <;> simp [h]
theorem TOk.snoc(bk:Plc→Int)(N:List Adr)(pre:List Plc)(e:Plc):TOk bk N (pre++[e])↔TOk bk N pre∧okS bk N pre e=true:=by
 simp only [okS,Wg,QN,decide_eq_true_eq,beq_iff_eq,Q8,X3,Bool.not_eq_true]
 constructor
 ·intro h
  have hs:=Xr.1 h.s
  have hn:=Xr.1 h.n
  refine ⟨⟨fun x hx=>h.b x (by simp [hx]),hs.1,fun v=>?_,hn.1,fun x hx=>h.f x (by simp [hx])⟩,h.b e (by simp),fun x hx=>hs.2.2 x hx e (by simp),?_,fun x hx=>hn.2.2 x hx e (by simp),h.f e (by simp)⟩
  ·have:=h.c v; rw [zgD] at this; omega
  ·have:=h.c e.b; rw [zgD,if_pos rfl] at this; omega
 ·rintro ⟨h,h1,h2,h3,h4,h5⟩
  refine ⟨?_,h.s.snoc h2,fun v=>?_,?_,?_⟩
  ·intro x hx
   rcases QC.1 hx with hx | hx
   ·exact h.b x hx
   ·simp at hx; subst hx; exact h1
  ·rw [zgD]
   split
   ·rename_i hv; subst hv; omega
   ·have:=h.c v; omega
  ·rw [Xr]
   exact ⟨h.n,by simp,fun x hx y hy=>by simp at hy; subst hy; exact h4 x hx⟩
  ·intro x hx
   rcases QC.1 hx with hx | hx
   ·exact h.f x hx
   ·simp at hx; subst hx; exact h5
theorem TOk.nil(bk:Plc→Int)(N:List Adr):TOk bk N []:=⟨by simp,List.Pairwise.nil,by simp [zak],List.Pairwise.nil,by simp⟩
theorem zyd(bk:Plc→Int)(N:List Adr):∀ (l pre:List Plc),TOk bk N pre→(okA bk N pre l=true↔TOk bk N (pre++l))
 | [],pre,h=>by simp [okA,h]
 | e::l,pre,h=>by
  rw [okA,Wg,show pre++e::l=(pre++[e])++l by simp]
  constructor
  ·rintro ⟨h1,h2⟩
   exact (zyd bk N l (pre++[e]) ((TOk.snoc bk N pre e).2 ⟨h,h1⟩)).1 h2
  ·intro H
   have hp:TOk bk N (pre++[e]):=by
    have hs:=Xr.1 H.s
    have hn:=Xr.1 H.n
    refine ⟨fun x hx=>H.b x (Xc _ hx),hs.1,fun v=>?_,hn.1,fun x hx=>H.f x (Xc _ hx)⟩
    have:=H.c v
    unfold zak at this ⊢
    rw [XZ,Wm] at this
    omega
   exact ⟨((TOk.snoc bk N pre e).1 hp).2,(zyd bk N l (pre++[e]) hp).2 H⟩
end
section
variable {β:Type}
theorem zyQ(bk:Plc→Int){l:List Plc}{i:Nat}(h:i<l.length):znO bk l i=(l[i].b==bk l[i]&&!(zjM l i (bk l[i]))&&!(zoa l i (bk l[i]))&&zny l i):=by
 unfold znO; rw [Wb h]
theorem zBY(L:Nat)(s:List Int)(hs:s.length=32)(ps:List Plc)(hp:ps.length≤1000)(hL:ps.length<L)(k:Bool→Option β):∀ (m i:Nat),i≤ps.length→ps.length-i<m →
  zaJ yc za zc (L+100) k (k true) m (zD ps) true (i:Int) (row .u8 s)=k (zk5 (znO (fun e=>hbk s e.a e.s) ps) i (ps.length-i)):=by
 intro m
 induction m with
 | zero=>intro i h1 h2; omega
 | succ m IH=>
  intro i h1 h2
  unfold zaJ zfv
  rw [zM]
  by_cases h:i<ps.length
  ·have e1:XL 3 (XM 1 ps[i].v)=ps[i].a.v:=rfl
   have ih:=IH (i+1) (by omega) (by omega)
   have e4:ps.length-i=(ps.length-(i+1))+1:=by omega
   rw [zay (by omega),zm2 hs,ya (by rw [zba,hs]; omega),zbD (zbx h),e1,zzz L s hs]
   rw [e4,zk5,zyQ _ h]
   rw [zdm,ya (by rw [zba,hs]; omega),zbD (zbx h),zbD (zbx h),xw (n:=ps[i].s) rfl,e1,zBC L s hs]
   refine (zDP (L+100) ps hp (by omega) i h _ _ (fun x=>zaJ yc za zc (L+100) k (k true) m (zD ps) true x (row .u8 s))).trans ?_
   rw [ih]
   cases (ps[i].b==hbk s ps[i].a ps[i].s&&!(zjM ps i (hbk s ps[i].a ps[i].s))&&!(zoa ps i (hbk s ps[i].a ps[i].s))&&zny ps i) <;> rfl
  ·rw [zaF (by omega),show ps.length-i=0 by omega]; rfl
theorem zCj(L:Nat)(s:List Int)(hs:s.length=32)(ps:List Plc)(hp:ps.length≤1000)(hL:ps.length<L)(k:Bool→Option β):∀ (m i:Nat),i≤ps.length→ps.length-i<m →
  zaJ yc za zc (L+100) k (k true) m (zD ps) false (i:Int) (row .u8 s)=k (zk5 (znO (fun e=>tbk s e.a) ps) i (ps.length-i)):=by
 intro m
 induction m with
 | zero=>intro i h1 h2; omega
 | succ m IH=>
  intro i h1 h2
  unfold zaJ zfv
  rw [zM]
  by_cases h:i<ps.length
  ·have e1:XL 3 (XM 1 ps[i].v)=ps[i].a.v:=rfl
   have ih:=IH (i+1) (by omega) (by omega)
   have e4:ps.length-i=(ps.length-(i+1))+1:=by omega
   rw [zay (by omega),zm2 hs,ya (by rw [zba,hs]; omega),zbD (zbx h),e1,zzz L s hs]
   rw [e4,zk5,zyQ _ h]
   rw [zc1]
   refine (zDP (L+100) ps hp (by omega) i h _ _ (fun x=>zaJ yc za zc (L+100) k (k true) m (zD ps) false x (row .u8 s))).trans ?_
   rw [ih]
   cases (ps[i].b==tbk s ps[i].a&&!(zjM ps i (tbk s ps[i].a))&&!(zoa ps i (tbk s ps[i].a))&&zny ps i) <;> rfl
  ·rw [zaF (by omega),show ps.length-i=0 by omega]; rfl
theorem zGh(L:Nat)(s:List Int)(hs:s.length=32)(ps:List Plc)(hp:ps.length≤1000)(hL:ps.length<L)(k:Bool→Option β) :
  yk β (L+100) (row .u8 s) (zD ps) true k=k (zdP (fun e=>hbk s e.a e.s) ps):=by
 unfold yk zhw zkg zdP
 rw [zM,yQ]
 by_cases h:ps.length≤512
 ·rw [if_neg (by omega),decide_eq_true h,XT]
  refine (zBY L s hs ps hp hL k (L+100) 0 (by omega) (by omega)).trans ?_
  rw [X5]
 ·rw [if_pos (by omega),decide_eq_false h]; rfl
theorem zGm(L:Nat)(s:List Int)(hs:s.length=32)(ps:List Plc)(hp:ps.length≤1000)(hL:ps.length<L)(k:Bool→Option β) :
  yk β (L+100) (row .u8 s) (zD ps) false k=k (zdP (fun e=>tbk s e.a) ps):=by
 unfold yk zhw zkg zdP
 rw [zM,yQ]
 by_cases h:ps.length≤512
 ·rw [if_neg (by omega),decide_eq_true h,XT]
  refine (zCj L s hs ps hp hL k (L+100) 0 (by omega) (by omega)).trans ?_
  rw [X5]
 ·rw [if_pos (by omega),decide_eq_false h]; rfl
def hbf(s:List Int)(e:Plc):Int:=hbk s e.a e.s
def tbf(s:List Int)(e:Plc):Int:=tbk s e.a
def zjr(b:Bk):Bool:=zdP (hbf b.salt) b.H&&(zdP (tbf b.salt) b.T&&b.H.all (fun e=>!(b.T.any (fun x=>zy x.a e.a))))
theorem zE4(L:Nat)(b:Bk)(hH:b.H.length≤1000)(hT:b.T.length≤1000)(hL:b.T.length<L)(k:Bool→Option β):∀ (m i:Nat),i≤b.H.length→b.H.length-i<m →
  zdM yk zc L k (k true) m (i:Int) b.v=k ((b.H.drop i).all (fun e=>!(b.T.any (fun x=>zy x.a e.a)))):=by
 intro m
 induction m with
 | zero=>intro i h1 h2; omega
 | succ m IH=>
  intro i h1 h2
  unfold zdM ziw
  rw [zbw b.g32,zM]
  by_cases h:i<b.H.length
  ·have e1:XL 3 (XM 1 b.H[i].v)=b.H[i].a.v:=rfl
   rw [zay (by omega),zbw b.g33,zbw b.g32,zbD (zbx h),e1,zx9 L b.T (by omega) hL,zBm,WP h,List.all_cons,zo,zad (by omega)]
   have ih:=IH (i+1) (by omega) (by omega)
   cases (b.T.any fun x=>zy x.a b.H[i].a) with
   | true=>rfl
   | false=>exact ih
  ·rw [zaF (by omega),WI (by omega)]; rfl
theorem Bk.t32(b:Bk):XL 32 b.v=row .u8 b.salt:=by
 rw [Bk.v,List.take_left' (by rw [zba,b.hs])]
theorem zzT(L:Nat)(b:Bk)(hH:b.H.length≤1000)(hT:b.T.length≤1000)(hL:1000<L)(k:Bool→Option β):xq β (L+100) b.v k=k (zjr b):=by
 unfold xq zkj zok zjr
 rw [ya (by rw [b.len]; omega),zbw b.g32,b.t32,zGh L b.salt b.hs b.H hH (by omega)]
 have eH:zdP (fun e=>hbk b.salt e.a e.s) b.H=zdP (hbf b.salt) b.H:=rfl
 have eT:zdP (fun e=>tbk b.salt e.a) b.T=zdP (tbf b.salt) b.T:=rfl
 rw [eH]
 cases zdP (hbf b.salt) b.H with
 | false=>rfl
 | true=>
  rw [Bool.not_true,zc1,ya (by rw [b.len]; omega),zbw b.g33,zGm L b.salt b.hs b.T hT (by omega),eT]
  cases zdP (tbf b.salt) b.T with
  | false=>rfl
  | true=>
   rw [Bool.not_true,zc1]
   exact zE4 (L+100) b hH hT (by omega) k (L+100) 0 (by omega) (by omega)
end
section
variable {β:Type}
theorem zB1(n:Int):0≤QF .u64 n∧QF .u64 n≤18446744073709551615:=by
 unfold QF
 simp only [IntKind.signed,Xo,Bool.false_eq_true,if_false,IntKind.bits]
 have h1:=Int.emod_nonneg n (show (2 ^ 64:Int)≠0 by decide)
 have h2:=Int.emod_lt_of_pos n (show (0:Int)<2 ^ 64 by decide)
 omega
theorem zyw(s m1:List Int)(m2:Int→List Int):0≤bkt s m1 m2∧bkt s m1 m2<64:=by
 unfold bkt
 generalize hx:zoF (zBM s) (zBD s) (m2 (QF .u32 (XQ (zoF (zBM s) (zBD s) m1) 4)))=x
 have h0:0≤x:=by
  rw [← hx]; unfold zoF zBW zzw zaz; exact (zB1 _).1
 have h1:=Int.tmod_nonneg 64 h0
 have h2:=Int.tmod_lt_of_pos x (show (0:Int)<64 by decide)
 rw [yR (by omega) (by omega)]
 exact ⟨h1,h2⟩
theorem zyP(s:List Int)(e:Plc):0≤hbf s e∧hbf s e<64:=by unfold hbf hbk; exact zyw _ _ _
theorem zyM(s:List Int)(e:Plc):0≤tbf s e∧tbf s e<64:=by unfold tbf tbk; exact zyw _ _ _
def nmv(a:Adr):V:=.agg [.sc (.int .u32 a.h),.sc (.int .u16 a.p)]
def zce(N:List Adr):List (V × V):=N.map fun a=>(nmv a,.sc (.bool true))
theorem zAv(a b:Adr):zh8 (nmv a) (nmv b)=some (zy a b):=by
 simp [zh8,nmv,zhA,zy]
theorem zgI(a b:Adr):zy a b=zy b a:=by
 unfold zy; rw [Bool.beq_comm (a:=a.h),Bool.beq_comm (a:=a.p)]
theorem zvj(a:Adr):∀ N:List Adr,zoT (nmv a) (zce N)=some (if N.any (fun x=>zy x a) then some (.sc (.bool true)) else none)
 | []=>rfl
 | x::N=>by
  have ih:=zvj a N
  simp only [zce,QV,zoT,zAv,List.any_cons,zgI x a] at ih ⊢
  cases zy a x with
  | true=>rfl
  | false=>simpa using ih
theorem zxe(a:Adr):∀ N:List Adr,N.any (fun x=>zy x a)=false→zvL (nmv a) (.sc (.bool true)) (zce N)=some (zce (N++[a]))
 | [],_=>rfl
 | x::N,h=>by
  rw [List.any_cons,Bool.or_eq_false_iff,zgI] at h
  have ih:=zxe a N h.2
  simp only [zce,QV,zvL,zAv,h.1,List.cons_append] at ih ⊢
  rw [ih]; rfl
theorem zy0(a:Adr)(N:List Adr)(K:Bool→Option β):(mAt 4 (V.agg (XL 2 [(Qc a.h),(Qb a.p)])) (zce N) fun q=>aB (XP q (V.sc (.bool false))) K)=K (N.any (fun x=>zy x a)):=by
 have e:V.agg (XL 2 [(Qc a.h),(Qb a.p)])=nmv a:=rfl
 rw [e]
 have h:zgT 4 (nmv a)=true:=rfl
 simp only [mAt,h,zvj]
 cases N.any (fun x=>zy x a) <;> rfl
theorem zw9{a:Adr}{N:List Adr}(h:N.any (fun x=>zy x a)=false)(K:List (V × V)→Option β):zqE 4 (V.agg (XL 2 [(Qc a.h),(Qb a.p)])) (V.sc (.bool true)) (zce N) K=K (zce (N++[a])):=by
 have e:V.agg (XL 2 [(Qc a.h),(Qb a.p)])=nmv a:=rfl
 rw [e]
 have h':zgT 4 (nmv a)=true:=rfl
 simp only [zqE,h',zxe a N h]
theorem zGx(L:Nat)(b:Bk)(e:Plc)(k:Int→List V→Option β):xg β (L+100) e.v b.v k=k (hbf b.salt e) b.v:=by
 unfold xg ziW
 have e1:XL 3 (XM 1 e.v)=e.a.v:=rfl
 rw [ya (by rw [b.len]; omega),ya (by show 1+3≤5; omega),xw (n:=e.s) rfl,b.t32,e1,zCd L b.salt b.hs]
 rfl
theorem zGR(L:Nat)(b:Bk)(e:Plc)(k:Int→List V→Option β):yg β (L+100) e.v b.v k=k (tbf b.salt e) b.v:=by
 unfold yg ziS
 have e1:XL 3 (XM 1 e.v)=e.a.v:=rfl
 rw [ya (by rw [b.len]; omega),ya (by show 1+3≤5; omega),b.t32,e1,zEU L b.salt b.hs]
 rfl
theorem zyU{v:Int}{pre:List Plc}(h:∀ x∈pre,x.b<v):zak v pre=0:=by
 unfold zak
 rw [X8.2 (fun x hx=>by have:=h x hx; simp; omega)]; rfl
structure Inv (pre:List Plc) (la ru:Int):Prop where
 le:∀ x∈pre,x.b≤la
 ru:ru=(zak la pre:Nat)
 ex:(la=-1∧pre=[])∨∃ x∈pre,x.b=la
 mn:-1≤la
theorem Inv.next{pre:List Plc}{la ru:Int}(h:Inv pre la ru){e:Plc}(he:la≤e.b):Inv (pre++[e]) e.b ((zak e.b (pre++[e]):Nat):Int):=
 ⟨fun x hx=>by
  rcases QC.1 hx with hx | hx
  ·have:=h.le x hx; omega
  ·simp at hx; subst hx; exact Int.le_refl _,rfl,.inr ⟨e,by simp,rfl⟩,by have:=h.mn; omega⟩
theorem zDg{bk:Plc→Int}{N:List Adr}{pre:List Plc}{la ru:Int}(h:Inv pre la ru){e:Plc}(hb:0≤bk e)(he:e.b<la):okS bk N pre e=false:=by
 rw [Bool.eq_false_iff]
 intro H
 have h1:=zCS H
 rcases h.ex with ⟨h2,h3⟩ | ⟨x,hx,h2⟩
 ·simp only [okS,Wg,beq_iff_eq] at H
  omega
 ·have:=h1 x hx; omega
theorem zCY{bk:Plc→Int}{N:List Adr}{pre:List Plc}{la ru:Int}(h:Inv pre la ru){e:Plc}(he:la≤e.b):okS bk N pre e=(e.b==bk e&&(decide (zak e.b (pre++[e])≤8)&&!((N++pre.map Plc.a).any (fun a=>zy a e.a)))):=by
 unfold okS
 have h1:pre.all (fun x=>decide (x.b≤e.b))=true:=QN.2 fun x hx=>decide_eq_true (by have:=h.le x hx; omega)
 rw [h1,XT,zgD,if_pos rfl,List.any_append,List.any_map,Bool.not_or]
 have e1:decide (zak e.b pre+1≤8)=decide (zak e.b pre≤7):=decide_eq_decide.2 (by omega)
 rw [e1]
 congr 2
 rw [Bool.and_comm]; rfl
theorem zCy(L:Nat)(b:Bk)(l:List Plc)(hl:l.length≤1000)(N:List Adr)(kr:Bool→List (V × V)→List V→Option β)(kx:List (V × V)→List V→Option β)(R:Option β)(hr:∀ mp,kr false mp b.v=R):∀ (m i:Nat) (la ru:Int),i≤l.length→l.length-i<m→Inv (l.take i) la ru →
  zbu xg (L+100) kr kx m la ru (zD l) ((l.length:Nat):Int) (i:Int) (zce (N++(l.take i).map Plc.a)) b.v=ifb (okA (hbf b.salt) N (l.take i) (l.drop i)) (kx (zce (N++l.map Plc.a)) b.v) R:=by
 intro m
 induction m with
 | zero=>intro i la ru h1 h2; omega
 | succ m IH=>
  intro i la ru h1 h2 hi
  unfold zbu zfJ
  by_cases h:i<l.length
  ·have e1:XL 5 l[i].v=l[i].v:=rfl
   have e2:zg [(Qe (0:Int)),(Qc (0:Int)),(Qb (0:Int)),(Qc (0:Int)),(Qc (0:Int))] 0 l[i].v=l[i].v:=zk2 rfl
   have hcl:zak la (l.take i)≤l.length:=by
    unfold zak
    exact Nat.le_trans (X9 _ _) (by rw [Ww]; omega)
   rw [zay (by omega),zbD (zbx h),e1,ya ⟨rfl,by omega⟩,zo,e2,xw (n:=l[i].b) rfl,yQ,WP h,okA]
   by_cases hlt:l[i].b<la
   ·rw [if_pos hlt,zDg hi (zyP _ _).1 hlt,Xo,hr]; rfl
   ·rw [if_neg hlt,xw (n:=l[i].b) rfl,ya (by show 0+5≤5; omega),e1,zGx,ya rfl,zo0,zCY hi (by omega)]
    by_cases hb:l[i].b=hbf b.salt l[i]
    ·have hi':=hi.next (e:=l[i]) (by omega)
     have key:∀ ru':Int,ru'=((zak l[i].b (l.take i++[l[i]]):Nat):Int) →
       (cI .u32 l[i].v 1 fun v9=>
        cI .u16 l[i].v 2 fun v10=>
        lt [(Qc v9),(Qb v10)] fun r11=>
        ifb (decide (ru'>(8:Int))) (
        kr false (zce (N++(l.take i).map Plc.a)) b.v) (
        chk (0+2≤(XJ r11)) (
        mAt 4 (V.agg (XL 2 r11)) (zce (N++(l.take i).map Plc.a)) fun q12=>
        aB (XP q12 (V.sc (.bool false))) fun v13=>
        ifb v13 (
        kr false (zce (N++(l.take i).map Plc.a)) b.v) (
        chk (0+2≤(XJ r11)) (
        zqE 4 (V.agg (XL 2 r11)) (V.sc (.bool true)) (zce (N++(l.take i).map Plc.a)) fun m14=>
        lt (QF .i64 ((i:Int)+(1:Int))) fun x15=>
        zbu xg (L+100) kr kx m l[i].b ru' (zD l) ((l.length:Nat):Int) x15 m14 b.v)))))
       = ifb (decide (zak l[i].b (l.take i++[l[i]])≤8)&&!((N++(l.take i).map Plc.a).any (fun a=>zy a l[i].a))&&okA (hbf b.salt) N (l.take i++[l[i]]) (l.drop (i+1))) (kx (zce (N++l.map Plc.a)) b.v) R:=by
      intro ru' hru
      rw [xw (n:=l[i].a.h) rfl,xw (n:=l[i].a.p) rfl,zo,yQ]
      by_cases hc:zak l[i].b (l.take i++[l[i]])≤8
      ·rw [if_neg (by omega),decide_eq_true hc,XT,ya (by show 0+2≤2; omega),zy0]
       cases ha:(N++(l.take i).map Plc.a).any (fun a=>zy a l[i].a) with
       | true=>exact hr _
       | false=>
        rw [zc1,ya (by show 0+2≤2; omega),zw9 ha,zo,zad (by omega)]
        have ih:=IH (i+1) l[i].b ru' (by omega) (by omega) (by rw [XS h,hru]; exact hi')
        rw [XS h,X7,QV,X6,← List.append_assoc] at ih
        exact ih
      ·rw [if_pos (by omega),decide_eq_false hc,hr]; rfl
     rw [if_pos hb,xw (n:=l[i].b) rfl,zo0,beq_iff_eq.2 hb,XT]
     by_cases hll:l[i].b=la
     ·rw [if_pos hll,zo,← hll]
      have e3:QF .i64 (ru+1)=((zak l[i].b (l.take i++[l[i]]):Nat):Int):=by
       rw [hi.ru,yR (by omega) (by omega),zgD,if_pos rfl,hll]; omega
      exact key _ e3
     ·rw [if_neg hll,xw (n:=l[i].b) rfl,zo]
      have e3:QF .i64 (((0:Int):Int)+1)=((zak l[i].b (l.take i++[l[i]]):Nat):Int):=by
       rw [yR (by omega) (by omega),zgD,if_pos rfl,zyU (fun x hx=>by have:=hi.le x hx; omega)]; rfl
      exact key _ e3
    ·rw [if_neg hb,beq_eq_false_iff_ne.2 hb,hr]; rfl
  ·rw [zaF (by omega),WI (by omega),Xu (by omega)]; rfl
theorem zGt(L:Nat)(b:Bk)(l:List Plc)(hl:l.length≤1000)(hL:1000<L)(N:List Adr)(k:Bool→List (V × V)→List V→Option β)(R:Option β)(hr:∀ mp,k false mp b.v=R) :
  xM β (L+100) (zD l) (zce N) b.v k=ifb (decide (l.length≤512)&&okA (hbf b.salt) N [] l) (k true (zce (N++l.map Plc.a)) b.v) R:=by
 unfold xM zhe zky
 rw [zM,yQ]
 by_cases h:l.length≤512
 ·rw [if_neg (by omega),decide_eq_true h,XT,show ((0:Int))=((0:Nat):Int) from rfl]
  have:=zCy L b l hl N (fun p6 b0 b1=>zen xg (L+100) p6 b0 b1 k) (fun b0 b1=>zeN xg (L+100) b0 b1 k) R (fun mp=>hr mp) (L+100) 0 (-1) 0 (by omega) (by omega) ⟨by simp,rfl,.inl ⟨rfl,rfl⟩,by omega⟩
  rw [List.take_zero,XY,X6,List.append_nil] at this
  exact this
 ·rw [if_pos (by omega),decide_eq_false h,hr]; rfl
theorem zBK(L:Nat)(b:Bk)(l:List Plc)(hl:l.length≤1000)(N:List Adr)(kr:Bool→List (V × V)→List V→Option β)(kx:List (V × V)→List V→Option β)(R:Option β)(hr:∀ mp,kr false mp b.v=R):∀ (m i:Nat) (la ru:Int),i≤l.length→l.length-i<m→Inv (l.take i) la ru →
  zaV yg (L+100) kr kx m la ru (zD l) ((l.length:Nat):Int) (i:Int) (zce (N++(l.take i).map Plc.a)) b.v=ifb (okA (tbf b.salt) N (l.take i) (l.drop i)) (kx (zce (N++l.map Plc.a)) b.v) R:=by
 intro m
 induction m with
 | zero=>intro i la ru h1 h2; omega
 | succ m IH=>
  intro i la ru h1 h2 hi
  unfold zaV zek
  by_cases h:i<l.length
  ·have e1:XL 5 l[i].v=l[i].v:=rfl
   have e2:zg [(Qe (0:Int)),(Qc (0:Int)),(Qb (0:Int)),(Qc (0:Int)),(Qc (0:Int))] 0 l[i].v=l[i].v:=zk2 rfl
   have hcl:zak la (l.take i)≤l.length:=by
    unfold zak
    exact Nat.le_trans (X9 _ _) (by rw [Ww]; omega)
   rw [zay (by omega),zbD (zbx h),e1,ya ⟨rfl,by omega⟩,zo,e2,xw (n:=l[i].b) rfl,yQ,WP h,okA]
   by_cases hlt:l[i].b<la
   ·rw [if_pos hlt,zDg hi (zyM _ _).1 hlt,Xo,hr]; rfl
   ·rw [if_neg hlt,xw (n:=l[i].b) rfl,ya (by show 0+5≤5; omega),e1,zGR,ya rfl,zo0,zCY hi (by omega)]
    by_cases hb:l[i].b=tbf b.salt l[i]
    ·have hi':=hi.next (e:=l[i]) (by omega)
     have key:∀ ru':Int,ru'=((zak l[i].b (l.take i++[l[i]]):Nat):Int) →
       (cI .u32 l[i].v 1 fun v9=>
        cI .u16 l[i].v 2 fun v10=>
        lt [(Qc v9),(Qb v10)] fun r11=>
        ifb (decide (ru'>(8:Int))) (
        kr false (zce (N++(l.take i).map Plc.a)) b.v) (
        chk (0+2≤(XJ r11)) (
        mAt 4 (V.agg (XL 2 r11)) (zce (N++(l.take i).map Plc.a)) fun q12=>
        aB (XP q12 (V.sc (.bool false))) fun v13=>
        ifb v13 (
        kr false (zce (N++(l.take i).map Plc.a)) b.v) (
        chk (0+2≤(XJ r11)) (
        zqE 4 (V.agg (XL 2 r11)) (V.sc (.bool true)) (zce (N++(l.take i).map Plc.a)) fun m14=>
        lt (QF .i64 ((i:Int)+(1:Int))) fun x15=>
        zaV yg (L+100) kr kx m l[i].b ru' (zD l) ((l.length:Nat):Int) x15 m14 b.v)))))
       = ifb (decide (zak l[i].b (l.take i++[l[i]])≤8)&&!((N++(l.take i).map Plc.a).any (fun a=>zy a l[i].a))&&okA (tbf b.salt) N (l.take i++[l[i]]) (l.drop (i+1))) (kx (zce (N++l.map Plc.a)) b.v) R:=by
      intro ru' hru
      rw [xw (n:=l[i].a.h) rfl,xw (n:=l[i].a.p) rfl,zo,yQ]
      by_cases hc:zak l[i].b (l.take i++[l[i]])≤8
      ·rw [if_neg (by omega),decide_eq_true hc,XT,ya (by show 0+2≤2; omega),zy0]
       cases ha:(N++(l.take i).map Plc.a).any (fun a=>zy a l[i].a) with
       | true=>exact hr _
       | false=>
        rw [zc1,ya (by show 0+2≤2; omega),zw9 ha,zo,zad (by omega)]
        have ih:=IH (i+1) l[i].b ru' (by omega) (by omega) (by rw [XS h,hru]; exact hi')
        rw [XS h,X7,QV,X6,← List.append_assoc] at ih
        exact ih
      ·rw [if_pos (by omega),decide_eq_false hc,hr]; rfl
     rw [if_pos hb,xw (n:=l[i].b) rfl,zo0,beq_iff_eq.2 hb,XT]
     by_cases hll:l[i].b=la
     ·rw [if_pos hll,zo,← hll]
      have e3:QF .i64 (ru+1)=((zak l[i].b (l.take i++[l[i]]):Nat):Int):=by
       rw [hi.ru,yR (by omega) (by omega),zgD,if_pos rfl,hll]; omega
      exact key _ e3
     ·rw [if_neg hll,xw (n:=l[i].b) rfl,zo]
      have e3:QF .i64 (((0:Int):Int)+1)=((zak l[i].b (l.take i++[l[i]]):Nat):Int):=by
       rw [yR (by omega) (by omega),zgD,if_pos rfl,zyU (fun x hx=>by have:=hi.le x hx; omega)]; rfl
      exact key _ e3
    ·rw [if_neg hb,beq_eq_false_iff_ne.2 hb,hr]; rfl
  ·rw [zaF (by omega),WI (by omega),Xu (by omega)]; rfl
theorem zGg(L:Nat)(b:Bk)(l:List Plc)(hl:l.length≤1000)(hL:1000<L)(N:List Adr)(k:Bool→List (V × V)→List V→Option β)(R:Option β)(hr:∀ mp,k false mp b.v=R) :
  yG β (L+100) (zD l) (zce N) b.v k=ifb (decide (l.length≤512)&&okA (tbf b.salt) N [] l) (k true (zce (N++l.map Plc.a)) b.v) R:=by
 unfold yG zeZ zhG
 rw [zM,yQ]
 by_cases h:l.length≤512
 ·rw [if_neg (by omega),decide_eq_true h,XT,show ((0:Int))=((0:Nat):Int) from rfl]
  have:=zBK L b l hl N (fun p6 b0 b1=>zdn yg (L+100) p6 b0 b1 k) (fun b0 b1=>zdG yg (L+100) b0 b1 k) R (fun mp=>hr mp) (L+100) 0 (-1) 0 (by omega) (by omega) ⟨by simp,rfl,.inl ⟨rfl,rfl⟩,by omega⟩
  rw [List.take_zero,XY,X6,List.append_nil] at this
  exact this
 ·rw [if_pos (by omega),decide_eq_false h,hr]; rfl
def zuB(b:Bk):Bool:=(decide (b.H.length≤512)&&okA (hbf b.salt) [] [] b.H)&&(decide (b.T.length≤512)&&okA (tbf b.salt) (b.H.map Plc.a) [] b.T)
theorem zAk(L:Nat)(b:Bk)(hH:b.H.length≤1000)(hT:b.T.length≤1000)(hL:1000<L)(k:Bool→Option β):yu β (L+100) b.v k=k (zuB b):=by
 unfold yu zkw zuB
 rw [zbw b.g32]
 refine (zGt L b b.H hH hL [] _ (k false) (fun mp=>ya rfl _)).trans ?_
 rw [XE]
 cases (decide (b.H.length≤512)&&okA (hbf b.salt) [] [] b.H) with
 | false=>rfl
 | true=>
  rw [zdm,ya rfl,zdm,zbw b.g33]
  refine (zGg L b b.T hT hL _ _ (k false) (fun mp=>ya rfl _)).trans ?_
  cases (decide (b.T.length≤512)&&okA (tbf b.salt) (b.H.map Plc.a) [] b.T) with
  | false=>rfl
  | true=>exact ya rfl _
theorem zGn(bk:Plc→Int)(N:List Adr)(pre:List Plc)(e:Plc):okS bk N pre e=(okS bk [] pre e&&!(N.any (fun a=>zy a e.a))):=by
 unfold okS
 simp [Ya]
theorem zEL(bk:Plc→Int)(N:List Adr):∀ (l pre:List Plc),okA bk N pre l=(okA bk [] pre l&&l.all (fun e=>!(N.any (fun a=>zy a e.a))))
 | [],pre=>rfl
 | e::l,pre=>by
  rw [okA,okA,zGn,zEL bk N l,List.all_cons]
  cases okS bk [] pre e <;> cases (N.any (fun a=>zy a e.a)) <;> simp
theorem zEb(H T:List Plc):T.all (fun e=>!((H.map Plc.a).any (fun a=>zy a e.a)))=H.all (fun e=>!(T.any (fun x=>zy x.a e.a))):=by
 rw [Bool.eq_iff_iff]
 simp only [QN,Q8,X3,List.mem_map,Bool.not_eq_true,forall_exists_index,and_imp,forall_apply_eq_imp_iff₂]
 constructor
 ·intro h x hx e he; rw [zgI]; exact h e he x hx
 ·intro h x hx e he; rw [zgI]; exact h e he x hx
theorem zvE(b:Bk):zuB b=zjr b:=by
 unfold zuB zjr
 rw [zoD,zoD,zEL (tbf b.salt) (b.H.map Plc.a),zEb]
 simp [Ya]
end
end Go.Proofs.Ytbimgceighecgaa
