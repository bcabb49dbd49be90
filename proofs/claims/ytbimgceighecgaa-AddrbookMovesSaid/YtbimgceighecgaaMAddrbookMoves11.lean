/- Part 11 of the proof of AddrbookMoves: an abstract machine over plain values, its soundness, and the functions of the program on plain values. -/
import Derived.Test.YtbimgceighecgaaMAddrbookMoves10
namespace Go.Proofs.Ytbimgceighecgaa
set_option linter.unusedVariables false
set_option linter.unusedSimpArgs false
open List renaming length->XI,take->XK,drop->XL,replicate->We,flatten->XM
open IntKind renaming wrap->QF
open Int renaming toNat->XJ,tmod->XP
section
set_option maxRecDepth 100000
def zcj:CC:=(.seq (.seq (.reg [Qh 32 (tq 12),Qh 33 (tq 10),Qp 34 .lss (tq 32) (tq 33)]) (.cond (tq 34) .skip (.seq (.mask (bl 3420 84) (bl 19342813113834066795294719 84)) (.exit 0)))) (.seq (.block 1 (.seq (.dreg [] [(Ql 37 32 (tq 3),q0),(Qj 38 1 (tq 37),ql 3 [] []),(Qh 39 (tq 12),q0),(Qo 40 5 (tq 38) (tq 39),q0),(Ql 41 1 (tq 40),q0),(Ql 42 2 (tq 41),q0),(Qj 43 1 (tq 42),qc [3] []),(Ql 44 32 (tq 3),q0),(Qj 45 1 (tq 44),ql 3 [] []),(Qh 46 (tq 11),q0),(Qo 47 5 (tq 45) (tq 46),q0),(Ql 48 1 (tq 47),q0),(Ql 49 2 (tq 48),q0),(Qj 50 1 (tq 49),qc [3] []),(Qp 51 .lss (tq 43) (tq 50),q0)]) (.cond (tq 51) (.reg [Qh 52 (tq 12),Qh 11 (tq 52)]) .skip))) (.reg [Qh 35 (tq 12),Qp 36 .add (tq 35) (Qf 1),Qh 12 (tq 36)])))
def zgw:CC:=(.seq (.seq (.dreg [] [(Ql 53 32 (tq 3),q0),(Qj 54 1 (tq 53),ql 3 [4] []),(Qh 55 (tq 11),q0),(Qo 56 5 (tq 54) (tq 55),q0),(Ql 57 1 (tq 56),q0),(Ql 58 2 (tq 57),q0),(Qj 59 1 (tq 58),qc [4] []),(Ql 60 2 (tq 4),q0),(Qj 61 1 (tq 60),ql 4 [3] []),(Qp 62 .geq (tq 59) (tq 61),q0)]) (.cond (tq 62) (.seq (.reg [oo 63 (.load true 34 (tq 3) true),Qm 34 (tq 6) (tq 63),Qh 7 (Qg false)]) .ret) .skip)) (.seq (.reg [Ql 64 32 (tq 3),Qj 65 1 (tq 64),Qh 66 (tq 11),Qh 67 (tq 11),Qp 68 .add (tq 67) (Qf 1),⟨(some 69),true,none,.call 400 [((tq 65),2),((tq 66),2),((tq 68),2)] []⟩,Ql 70 32 (tq 3),Qm 1 (tq 70) (tq 69)]) (.reg [Qh 71 (tq 10),Qp 72 .sub (tq 71) (Qf 1),Qh 10 (tq 72)])))
def zjl:CC:=(.seq (.reg [Ql 73 32 (tq 3),Qj 74 1 (tq 73),Qh 75 (tq 10),Qh 76 (tq 8),Qk 77 3 (tq 4),Qh 78 (tq 2),oo 79 (.build [(.sc (.int .i64 0)),(.sc (.int .u32 0)),(.sc (.int .u16 0)),(.sc (.int .u32 0)),(.sc (.int .u32 0))] [(0,1,(tq 76)),(1,3,(tq 77)),(4,1,(tq 78))]),⟨(some 80),true,none,.buildSlice 5 1 [(.sc (.int .i64 0)),(.sc (.int .u32 0)),(.sc (.int .u16 0)),(.sc (.int .u32 0)),(.sc (.int .u32 0))] [(0,5,(tq 79))]⟩,⟨(some 81),true,none,.call 399 [((tq 74),2),((tq 75),2),((tq 80),2)] []⟩,Ql 82 32 (tq 3),Qm 1 (tq 82) (tq 81)]) (.seq (.reg [oo 83 (.load true 34 (tq 3) true),Qm 34 (tq 6) (tq 83),Qh 7 (Qg true)]) .ret))
def zcD:CF:=⟨84,[.cellS 6 34 false,.tmp 7],(.seq (.reg [oo 3 (.box false (tq 0)),Qv 4 (tq 1),oo 6 (.alloc false (rp 32 (.sc (.int .u8 0)) (rp 2 (.gs 5 []) []))),Qh 7 (Qg false)]) (.seq (.reg [Ql 13 0 (tq 3),Qk 14 32 (tq 13),Qk 15 3 (tq 4),Qh 16 (tq 2),Qs 17 297 [(Qw 14),(Qw 15),(Qw 16)],Qh 8 (tq 17)]) (.seq (.reg [Ql 19 32 (tq 3),Qj 20 1 (tq 19),Qh 21 (tq 8),Qs 22 398 [((tq 20),2),((tq 21),2)],Qi 18 (tq 22),Qq 23 (tq 18) 0,Qq 24 (tq 18) 1,Qh 9 (tq 23),Qh 10 (tq 24)]) (.seq (.seq (.reg [Qh 25 (tq 10),Qh 26 (tq 9),Qp 27 .sub (tq 25) (tq 26),Qp 28 .geq (tq 27) (Qf 8)]) (.cond (tq 28) (.seq (.reg [Qh 29 (tq 9),Qh 11 (tq 29)]) (.seq (.seq (.reg [Qh 30 (tq 9),Qp 31 .add (tq 30) (Qf 1),Qh 12 (tq 31)]) (.block 0 (.loop (bl 7516 84) (bl 19342813113834066795298815 84) zcj))) zgw)) .skip)) zjl))))⟩
def zps:Hint:=⟨[(2,3),(2,4),(11,0),(12,5),(14,8),(15,0)],[(12,5),(14,7),(14,8)],[none,none,some ((bl 7516 84),(bl 19342813113834066795298815 84)),none,some ((bl 3420 84),(bl 19342813113834066795294719 84)),none,none,none,none,none],[],[],false,true,[]⟩
def zaB:Nat→Sh:=yT [(43,(.int .u32)),(50,(.int .u32)),(59,(.int .u32)),(61,(.int .u32))]
def zaC(yb:yu)(yc:yE)(ya:xg)(za:zg)(L:Nat):CBC:=(xy 400 (zZ za L) (xy 399 (zaj ya L) (xy 398 (zem yc L) (xy 297 (zcC yb L) noC))))
def zdK:St→St:=zbd 2 (bl 7516 84) (bl 19342813113834066795298815 84)
def zcO(p2 p8 a8 a9 ba:Int)(b0 b1:List V)(aH aJ aK aN aQ aR aT aU aW aX C D E F G I J M N O P Q R S U W X Y Z aa ab ac:Int)(z A:Nat)(b6:List V)(aY aZ a0 a1 a2 a3 a4 a5 a6 a7 ad ae af ag ah ai aj ak al am an ao ap aq ar au av aw ax ay az aC:Int)(aD aE:List (List V)):St:=⟨(jn 2 ((Qc p2)::((V.ptr 5 0)::((V.ptr 6 0)::(jn 1 ((V.ptr 8 0)::(jn 1 ((Qe p8)::(jn 1 ((Qe a8)::((Qe a9)::((Qe ba)::(jn 71 []))))))))))))),((.live true b0)::((.live true b1)::(gn 3 ((.live false [(Qa aH),(Qa aJ),(Qa aK),(Qa aN),(Qa aQ),(Qa aR),(Qa aT),(Qa aU),(Qa aW),(Qa aX),(Qa C),(Qa D),(Qa E),(Qa F),(Qa G),(Qa I),(Qa J),(Qa M),(Qa N),(Qa O),(Qa P),(Qa Q),(Qa R),(Qa S),(Qa U),(Qa W),(Qa X),(Qa Y),(Qa Z),(Qa aa),(Qa ab),(Qa ac),(V.own 0 0 z 5),(V.own 1 0 A 5)])::((.live true b6)::(gn 1 ((.live false [(Qa aY),(Qa aZ),(Qa a0),(Qa a1),(Qa a2),(Qa a3),(Qa a4),(Qa a5),(Qa a6),(Qa a7),(Qa ad),(Qa ae),(Qa af),(Qa ag),(Qa ah),(Qa ai),(Qa aj),(Qa ak),(Qa al),(Qa am),(Qa an),(Qa ao),(Qa ap),(Qa aq),(Qa ar),(Qa au),(Qa av),(Qa aw),(Qa ax),(Qa ay),(Qa az),(Qa aC),(V.gs 5 aD),(V.gs 5 aE)])::(gn 77 []))))))))⟩
def ziZ(p2 p8 a8 a9:Int)(b0 b1:List V)(aH aJ aK aN aQ aR aT aU aW aX C D E F G I J M N O P Q R S U W X Y Z aa ab ac:Int)(z A:Nat)(b6:List V)(aY aZ a0 a1 a2 a3 a4 a5 a6 a7 ad ae af ag ah ai aj ak al am an ao ap aq ar au av aw ax ay az aC:Int)(aD aE:List (List V)):St:=⟨(jn 2 ((Qc p2)::((V.ptr 5 0)::((V.ptr 6 0)::(jn 1 ((V.ptr 8 0)::(jn 1 ((Qe p8)::(jn 1 ((Qe a8)::((Qe a9)::(jn 72 [])))))))))))),((.live true b0)::((.live true b1)::(gn 3 ((.live false [(Qa aH),(Qa aJ),(Qa aK),(Qa aN),(Qa aQ),(Qa aR),(Qa aT),(Qa aU),(Qa aW),(Qa aX),(Qa C),(Qa D),(Qa E),(Qa F),(Qa G),(Qa I),(Qa J),(Qa M),(Qa N),(Qa O),(Qa P),(Qa Q),(Qa R),(Qa S),(Qa U),(Qa W),(Qa X),(Qa Y),(Qa Z),(Qa aa),(Qa ab),(Qa ac),(V.own 0 0 z 5),(V.own 1 0 A 5)])::((.live true b6)::(gn 1 ((.live false [(Qa aY),(Qa aZ),(Qa a0),(Qa a1),(Qa a2),(Qa a3),(Qa a4),(Qa a5),(Qa a6),(Qa a7),(Qa ad),(Qa ae),(Qa af),(Qa ag),(Qa ah),(Qa ai),(Qa aj),(Qa ak),(Qa al),(Qa am),(Qa an),(Qa ao),(Qa ap),(Qa aq),(Qa ar),(Qa au),(Qa av),(Qa aw),(Qa ax),(Qa ay),(Qa az),(Qa aC),(V.gs 5 aD),(V.gs 5 aE)])::(gn 77 []))))))))⟩
abbrev ziS(β:Type):Type:=Int→Int→Int→Int→Int→List V→List V→Int→Int→Int→Int→Int→Int→Int→Int→Int→Int→Int→Int→Int→Int→Int→Int→Int→Int→Int→Int→Int→Int→Int→Int→Int→Int→Int→Int→Int→Int→Int→Int→Nat→Nat→List V→Int→Int→Int→Int→Int→Int→Int→Int→Int→Int→Int→Int→Int→Int→Int→Int→Int→Int→Int→Int→Int→Int→Int→Int→Int→Int→Int→Int→Int→Int→Int→Int→List (List V)→List (List V)→Option β
abbrev zdx(β:Type):Type:=Int→Int→Int→Int→Int→Int→Int→Int→Int→Int→Int→Int→Int→Int→Int→Int→Int→Int→Int→Int→Int→Int→Int→Int→Int→Int→Int→Int→Int→Int→Int→Int→Nat→Nat→Bool→Nat→List V→List V→Option β
abbrev zlG(β:Type):Type:=Int→Int→Int→Int→List V→List V→Int→Int→Int→Int→Int→Int→Int→Int→Int→Int→Int→Int→Int→Int→Int→Int→Int→Int→Int→Int→Int→Int→Int→Int→Int→Int→Int→Int→Int→Int→Int→Int→Nat→Nat→List V→Int→Int→Int→Int→Int→Int→Int→Int→Int→Int→Int→Int→Int→Int→Int→Int→Int→Int→Int→Int→Int→Int→Int→Int→Int→Int→Int→Int→Int→Int→Int→Int→List (List V)→List (List V)→Option β
abbrev zfr(β:Type):Type:=Int→Int→Int→Int→Int→Int→Int→Int→Int→Int→Int→Int→Int→Int→Int→Int→Int→Int→Int→Int→Int→Int→Int→Int→Int→Int→Int→Int→Int→Int→Int→Int→Nat→Nat→Bool→List V→List V→Option β
def zne{β:Type}(yb:yu)(yc:yE)(ya:xg)(za:zg)(L:Nat)(af ag ah ai aj ak al am an ao C D E F G I J M N O P Q R S U W X Y Z aa ab ac:Int)(A ae:Nat)(p1:List V)(p2:Int)(b0 b1:List V)(z:ziS β)(ar:zdx β):Option β:=chk (0+3≤(XI p1)) (yb β L [(Qa af),(Qa ag),(Qa ah),(Qa ai),(Qa aj),(Qa ak),(Qa al),(Qa am),(Qa an),(Qa ao),(Qa C),(Qa D),(Qa E),(Qa F),(Qa G),(Qa I),(Qa J),(Qa M),(Qa N),(Qa O),(Qa P),(Qa Q),(Qa R),(Qa S),(Qa U),(Qa W),(Qa X),(Qa Y),(Qa Z),(Qa aa),(Qa ab),(Qa ac)] (XK 3 p1) p2 (fun v0=>yc β L A v0 b0 (fun v1 v2 v3=>chk ([(XI v3)]=[(XI b0)]) (lt (QF .i64 ((v2:Int)-v1)) fun x4=>ifb (decide (x4≥(8:Int))) (lt (QF .i64 ((v1:Int)+(1:Int))) fun x5=>z p2 v0 v2 v1 x5 v3 b1 af ag ah ai aj ak al am an ao C D E F G I J M N O P Q R S U W X Y Z aa ab ac A ae p1 (0:Int) (0:Int) (0:Int) (0:Int) (0:Int) (0:Int) (0:Int) (0:Int) (0:Int) (0:Int) (0:Int) (0:Int) (0:Int) (0:Int) (0:Int) (0:Int) (0:Int) (0:Int) (0:Int) (0:Int) (0:Int) (0:Int) (0:Int) (0:Int) (0:Int) (0:Int) (0:Int) (0:Int) (0:Int) (0:Int) (0:Int) (0:Int) ([]:List (List V)) ([]:List (List V))) (chk (0+3≤(XI p1)) (chk ((XI (XK 3 p1))=3∧1+3≤5) (chk (1=1∧4+1≤(XI (xd [(Qe v0),(Qc (0:Int)),(Qb (0:Int)),(Qc (0:Int)),(Qc (0:Int))] 1 (XK 3 p1)))) (chk ((XI (xd (xd [(Qe v0),(Qc (0:Int)),(Qb (0:Int)),(Qc (0:Int)),(Qc (0:Int))] 1 (XK 3 p1)) 4 [(Qc p2)]))=5∧0+5≤5) (ya β L A v2 1 v3 (XM (ye 5 1 (xd [(Qe (0:Int)),(Qc (0:Int)),(Qb (0:Int)),(Qc (0:Int)),(Qc (0:Int))] 0 (xd (xd [(Qe v0),(Qc (0:Int)),(Qb (0:Int)),(Qc (0:Int)),(Qc (0:Int))] 1 (XK 3 p1)) 4 [(Qc p2)])))) (fun v6 v7 v8=>chk ([v7,(XI v8)]=[(XI v3),(XI (XM (ye 5 1 (xd [(Qe (0:Int)),(Qc (0:Int)),(Qb (0:Int)),(Qc (0:Int)),(Qc (0:Int))] 0 (xd (xd [(Qe v0),(Qc (0:Int)),(Qb (0:Int)),(Qc (0:Int)),(Qc (0:Int))] 1 (XK 3 p1)) 4 [(Qc p2)])))))]) (ar af ag ah ai aj ak al am an ao C D E F G I J M N O P Q R S U W X Y Z aa ab ac (XI v6) ae true v7 b1 (XM v6))))))))))))
theorem zwC{β:Type}(yb:yu)(yc:yE)(ya:xg)(za:zg)(L:Nat)(ag z ah ai aj ak al am an ao D E F G I J M N O P Q R S U W X Y Z aa ab ac ad:Int)(A C:Nat)(p1:List V)(p2:Int)(b0 b1:List V)(k:KK β):yl zaB (zaC yb yc ya za L) L zcD [(V.st [(Qa ag),(Qa z),(Qa ah),(Qa ai),(Qa aj),(Qa ak),(Qa al),(Qa am),(Qa an),(Qa ao),(Qa D),(Qa E),(Qa F),(Qa G),(Qa I),(Qa J),(Qa M),(Qa N),(Qa O),(Qa P),(Qa Q),(Qa R),(Qa S),(Qa U),(Qa W),(Qa X),(Qa Y),(Qa Z),(Qa aa),(Qa ab),(Qa ac),(Qa ad),(V.own 0 0 A 5),(V.own 1 0 C 5)]),(V.agg p1),(Qc p2)] [(.live true b0),(.live true b1)] k=zne yb yc ya za L ag z ah ai aj ak al am an ao D E F G I J M N O P Q R S U W X Y Z aa ab ac ad A C p1 p2 b0 b1 (fun p2 p8 bQ bR bS b0 b1 bq br bt bu bv bw bz bC bD bE au av aw ax ay az aC aD aE aH aJ aK aN aQ aR aT aU aW aX aY aZ a0 ap aq b6 bF bG bH bI bJ bK bL bM bN bO a1 a2 a3 a4 a5 a6 a7 a8 a9 ba bb bc bd be bf bg bh bi bj bk bm bn bo bp=>xE (xi zaB (zaC yb yc ya za L) 2 L zcj) zdK L (zcO p2 p8 bQ bR bS b0 b1 bq br bt bu bv bw bz bC bD bE au av aw ax ay az aC aD aE aH aJ aK aN aQ aR aT aU aW aX aY aZ a0 ap aq b6 bF bG bH bI bJ bK bL bM bN bO a1 a2 a3 a4 a5 a6 a7 a8 a9 ba bb bc bd be bf bg bh bi bj bk bm bn bo bp) (zF 0 (zQ (xi zaB (zaC yb yc ya za L) 2 L zgw) (zQ (xi zaB (zaC yb yc ya za L) 2 L zjl) (xW 2 (CF.res zcD) k))))) (fun p0_0_0 p0_0_1 p0_0_2 p0_0_3 p0_0_4 p0_0_5 p0_0_6 p0_0_7 p0_0_8 p0_0_9 p0_0_10 p0_0_11 p0_0_12 p0_0_13 p0_0_14 p0_0_15 p0_0_16 p0_0_17 p0_0_18 p0_0_19 p0_0_20 p0_0_21 p0_0_22 p0_0_23 p0_0_24 p0_0_25 p0_0_26 p0_0_27 p0_0_28 p0_0_29 p0_0_30 p0_0_31 p0_0_32l p0_0_33l z b0 b1 b2=>k (V.tup [(V.st [(Qa p0_0_0),(Qa p0_0_1),(Qa p0_0_2),(Qa p0_0_3),(Qa p0_0_4),(Qa p0_0_5),(Qa p0_0_6),(Qa p0_0_7),(Qa p0_0_8),(Qa p0_0_9),(Qa p0_0_10),(Qa p0_0_11),(Qa p0_0_12),(Qa p0_0_13),(Qa p0_0_14),(Qa p0_0_15),(Qa p0_0_16),(Qa p0_0_17),(Qa p0_0_18),(Qa p0_0_19),(Qa p0_0_20),(Qa p0_0_21),(Qa p0_0_22),(Qa p0_0_23),(Qa p0_0_24),(Qa p0_0_25),(Qa p0_0_26),(Qa p0_0_27),(Qa p0_0_28),(Qa p0_0_29),(Qa p0_0_30),(Qa p0_0_31),(V.own 2 0 p0_0_32l 5),(V.own 1 0 p0_0_33l 5)]),(V.sc (.bool z))]) [(.dead b0),(.live true b1),(.live true b2)]):=by kernel_rfl
def zfB{β:Type}(yb:yu)(yc:yE)(ya:xg)(za:zg)(L:Nat)(p2 p8 bb aK C:Int)(b0 b1:List V)(aN aQ aR aT aU aW aX aY aZ a0 E F G I J M N O P Q R S U W X Y Z aa ab ac ad ae:Int)(A D:Nat)(b6:List V)(a1 a2 a3 a4 a5 a6 a7 a8 a9 ba af ag ah ai aj ak al am an ao ap aq ar au av aw ax ay az aC aD aE:Int)(aH aJ:List (List V))(z:ziS β)(bh:zlG β):Option β:=ifb (decide (C<bb)) (chk (0≤C∧C<((A:Nat):Int)) (cI .u32 b0 (((0+((XJ C)*5))+1)+2) fun v9=>chk (0≤aK∧aK<((A:Nat):Int)) (cI .u32 b0 (((0+((XJ aK)*5))+1)+2) fun bi=>ifb (decide (v9<bi)) (lt (QF .i64 ((C:Int)+(1:Int))) fun bj=>z p2 p8 bb C bj b0 b1 aN aQ aR aT aU aW aX aY aZ a0 E F G I J M N O P Q R S U W X Y Z aa ab ac ad ae A D b6 a1 a2 a3 a4 a5 a6 a7 a8 a9 ba af ag ah ai aj ak al am an ao ap aq ar au av aw ax ay az aC aD aE aH aJ) (lt (QF .i64 ((C:Int)+(1:Int))) fun bk=>z p2 p8 bb aK bk b0 b1 aN aQ aR aT aU aW aX aY aZ a0 E F G I J M N O P Q R S U W X Y Z aa ab ac ad ae A D b6 a1 a2 a3 a4 a5 a6 a7 a8 a9 ba af ag ah ai aj ak al am an ao ap aq ar au av aw ax ay az aC aD aE aH aJ)))) (bh p2 p8 bb aK b0 b1 aN aQ aR aT aU aW aX aY aZ a0 E F G I J M N O P Q R S U W X Y Z aa ab ac ad ae A D b6 a1 a2 a3 a4 a5 a6 a7 a8 a9 ba af ag ah ai aj ak al am an ao ap aq ar au av aw ax ay az aC aD aE aH aJ)
theorem zpi{β:Type}(yb:yu)(yc:yE)(ya:xg)(za:zg)(L:Nat)(p2 p8 a9 ba bb:Int)(b0 b1:List V)(aJ aK aN aQ aR aT aU aW aX aY C D E F G I J M N O P Q R S U W Y Z aa ab ac ad:Int)(z A:Nat)(b6:List V)(aZ a0 a1 a2 a3 a4 a5 a6 a7 a8 ae af ag ah ai aj ak al am an ao ap aq ar au av aw ax ay az aC aD:Int)(aE aH:List (List V))(X:St→Option β)(K:KT β):xi zaB (zaC yb yc ya za L) 2 L zcj (zcO p2 p8 a9 ba bb b0 b1 aJ aK aN aQ aR aT aU aW aX aY C D E F G I J M N O P Q R S U W Y Z aa ab ac ad z A b6 aZ a0 a1 a2 a3 a4 a5 a6 a7 a8 ae af ag ah ai aj ak al am an ao ap aq ar au av aw ax ay az aC aD aE aH) (zcz zdK X K)=zfB yb yc ya za L p2 p8 a9 ba bb b0 b1 aJ aK aN aQ aR aT aU aW aX aY C D E F G I J M N O P Q R S U W Y Z aa ab ac ad z A b6 aZ a0 a1 a2 a3 a4 a5 a6 a7 a8 ae af ag ah ai aj ak al am an ao ap aq ar au av aw ax ay az aC aD aE aH (fun p2 p8 a9 ba bb b0 b1 aJ aK aN aQ aR aT aU aW aX aY C D E F G I J M N O P Q R S U W Y Z aa ab ac ad z A b6 aZ a0 a1 a2 a3 a4 a5 a6 a7 a8 ae af ag ah ai aj ak al am an ao ap aq ar au av aw ax ay az aC aD aE aH=>X (zcO p2 p8 a9 ba bb b0 b1 aJ aK aN aQ aR aT aU aW aX aY C D E F G I J M N O P Q R S U W Y Z aa ab ac ad z A b6 aZ a0 a1 a2 a3 a4 a5 a6 a7 a8 ae af ag ah ai aj ak al am an ao ap aq ar au av aw ax ay az aC aD aE aH)) (fun p2 p8 a9 ba b0 b1 aJ aK aN aQ aR aT aU aW aX aY C D E F G I J M N O P Q R S U W Y Z aa ab ac ad z A b6 aZ a0 a1 a2 a3 a4 a5 a6 a7 a8 ae af ag ah ai aj ak al am an ao ap aq ar au av aw ax ay az aC aD aE aH=>K (.exit 0) (ziZ p2 p8 a9 ba b0 b1 aJ aK aN aQ aR aT aU aW aX aY C D E F G I J M N O P Q R S U W Y Z aa ab ac ad z A b6 aZ a0 a1 a2 a3 a4 a5 a6 a7 a8 ae af ag ah ai aj ak al am an ao ap aq ar au av aw ax ay az aC aD aE aH)):=by kernel_rfl
def zeQ{β:Type}(yb:yu)(yc:yE)(ya:xg)(za:zg)(L:Nat)(p2 p8 az A:Int)(b0 b1:List V)(ag ah ai aj ak al am an ao ap E F G I J M N O P Q R S U W X Y Z aa ab ac ad ae:Int)(z C:Nat)(D:List V)(bg bh bi bj bk bm bn bo bp bq aQ aR aT aU aW aX aY aZ a0 a1 a2 a3 a4 a5 a6 a7 a8 a9 ba bb bc bd:Int)(be bf:List (List V))(af:zfr β)(av:zdx β):Option β:=chk (0≤A∧A<((z:Nat):Int)) (cI .u32 b0 (((0+((XJ A)*5))+1)+2) fun aD=>cI .u32 D 2 fun aE=>ifb (decide (aD≥aE)) (af ag ah ai aj ak al am an ao ap E F G I J M N O P Q R S U W X Y Z aa ab ac ad ae z C false b0 b1) (lt (QF .i64 ((A:Int)+(1:Int))) fun aH=>za β L z A aH b0 (fun aJ aq=>chk ([(XI aq)]=[(XI b0)]) (lt (QF .i64 ((az:Int)-(1:Int))) fun aK=>chk (0+3≤(XI D)) (chk ((XI (XK 3 D))=3∧1+3≤5) (chk (1=1∧4+1≤(XI (xd [(Qe p8),(Qc (0:Int)),(Qb (0:Int)),(Qc (0:Int)),(Qc (0:Int))] 1 (XK 3 D)))) (chk ((XI (xd (xd [(Qe p8),(Qc (0:Int)),(Qb (0:Int)),(Qc (0:Int)),(Qc (0:Int))] 1 (XK 3 D)) 4 [(Qc p2)]))=5∧0+5≤5) (ya β L aJ aK 1 aq (XM (ye 5 1 (xd [(Qe (0:Int)),(Qc (0:Int)),(Qb (0:Int)),(Qc (0:Int)),(Qc (0:Int))] 0 (xd (xd [(Qe p8),(Qc (0:Int)),(Qb (0:Int)),(Qc (0:Int)),(Qc (0:Int))] 1 (XK 3 D)) 4 [(Qc p2)])))) (fun aw ax aN=>chk ([ax,(XI aN)]=[(XI aq),(XI (XM (ye 5 1 (xd [(Qe (0:Int)),(Qc (0:Int)),(Qb (0:Int)),(Qc (0:Int)),(Qc (0:Int))] 0 (xd (xd [(Qe p8),(Qc (0:Int)),(Qb (0:Int)),(Qc (0:Int)),(Qc (0:Int))] 1 (XK 3 D)) 4 [(Qc p2)])))))]) (av ag ah ai aj ak al am an ao ap E F G I J M N O P Q R S U W X Y Z aa ab ac ad ae (XI aw) C true ax b1 (XM aw)))))))))))
theorem znT{β:Type}(yb:yu)(yc:yE)(ya:xg)(za:zg)(L:Nat)(p2 p8 bb bc:Int)(b0 b1:List V)(aN aQ aR aT aU aW aX aY aZ a0 D E F G I J M N O P Q R S U W X Y Z aa ab ac ad:Int)(z A:Nat)(b6:List V)(a1 a2 a3 a4 a5 a6 a7 a8 a9 ba ae af ag ah ai aj ak al am an ao ap aq ar au av aw ax ay az aC aD:Int)(aE aH:List (List V))(k:KK β):(zF 0 (zQ (xi zaB (zaC yb yc ya za L) 2 L zgw) (zQ (xi zaB (zaC yb yc ya za L) 2 L zjl) (xW 2 (CF.res zcD) k)))) (.exit 0) (ziZ p2 p8 bb bc b0 b1 aN aQ aR aT aU aW aX aY aZ a0 D E F G I J M N O P Q R S U W X Y Z aa ab ac ad z A b6 a1 a2 a3 a4 a5 a6 a7 a8 a9 ba ae af ag ah ai aj ak al am an ao ap aq ar au av aw ax ay az aC aD aE aH)=zeQ yb yc ya za L p2 p8 bb bc b0 b1 aN aQ aR aT aU aW aX aY aZ a0 D E F G I J M N O P Q R S U W X Y Z aa ab ac ad z A b6 a1 a2 a3 a4 a5 a6 a7 a8 a9 ba ae af ag ah ai aj ak al am an ao ap aq ar au av aw ax ay az aC aD aE aH (fun p0_0_0 p0_0_1 p0_0_2 p0_0_3 p0_0_4 p0_0_5 p0_0_6 p0_0_7 p0_0_8 p0_0_9 p0_0_10 p0_0_11 p0_0_12 p0_0_13 p0_0_14 p0_0_15 p0_0_16 p0_0_17 p0_0_18 p0_0_19 p0_0_20 p0_0_21 p0_0_22 p0_0_23 p0_0_24 p0_0_25 p0_0_26 p0_0_27 p0_0_28 p0_0_29 p0_0_30 p0_0_31 p0_0_32l p0_0_33l C b0 b1=>k (V.tup [(V.st [(Qa p0_0_0),(Qa p0_0_1),(Qa p0_0_2),(Qa p0_0_3),(Qa p0_0_4),(Qa p0_0_5),(Qa p0_0_6),(Qa p0_0_7),(Qa p0_0_8),(Qa p0_0_9),(Qa p0_0_10),(Qa p0_0_11),(Qa p0_0_12),(Qa p0_0_13),(Qa p0_0_14),(Qa p0_0_15),(Qa p0_0_16),(Qa p0_0_17),(Qa p0_0_18),(Qa p0_0_19),(Qa p0_0_20),(Qa p0_0_21),(Qa p0_0_22),(Qa p0_0_23),(Qa p0_0_24),(Qa p0_0_25),(Qa p0_0_26),(Qa p0_0_27),(Qa p0_0_28),(Qa p0_0_29),(Qa p0_0_30),(Qa p0_0_31),(V.own 0 0 p0_0_32l 5),(V.own 1 0 p0_0_33l 5)]),(V.sc (.bool C))]) [(.live true b0),(.live true b1)]) (fun p0_0_0 p0_0_1 p0_0_2 p0_0_3 p0_0_4 p0_0_5 p0_0_6 p0_0_7 p0_0_8 p0_0_9 p0_0_10 p0_0_11 p0_0_12 p0_0_13 p0_0_14 p0_0_15 p0_0_16 p0_0_17 p0_0_18 p0_0_19 p0_0_20 p0_0_21 p0_0_22 p0_0_23 p0_0_24 p0_0_25 p0_0_26 p0_0_27 p0_0_28 p0_0_29 p0_0_30 p0_0_31 p0_0_32l p0_0_33l C b0 b1 b2=>k (V.tup [(V.st [(Qa p0_0_0),(Qa p0_0_1),(Qa p0_0_2),(Qa p0_0_3),(Qa p0_0_4),(Qa p0_0_5),(Qa p0_0_6),(Qa p0_0_7),(Qa p0_0_8),(Qa p0_0_9),(Qa p0_0_10),(Qa p0_0_11),(Qa p0_0_12),(Qa p0_0_13),(Qa p0_0_14),(Qa p0_0_15),(Qa p0_0_16),(Qa p0_0_17),(Qa p0_0_18),(Qa p0_0_19),(Qa p0_0_20),(Qa p0_0_21),(Qa p0_0_22),(Qa p0_0_23),(Qa p0_0_24),(Qa p0_0_25),(Qa p0_0_26),(Qa p0_0_27),(Qa p0_0_28),(Qa p0_0_29),(Qa p0_0_30),(Qa p0_0_31),(V.own 2 0 p0_0_32l 5),(V.own 1 0 p0_0_33l 5)]),(V.sc (.bool C))]) [(.dead b0),(.live true b1),(.live true b2)]):=by kernel_rfl
def zcu{β:Type}(yb:yu)(yc:yE)(ya:xg)(za:zg)(L:Nat)(a8:zlG β):Nat→Int→Int→Int→Int→Int→List V→List V→Int→Int→Int→Int→Int→Int→Int→Int→Int→Int→Int→Int→Int→Int→Int→Int→Int→Int→Int→Int→Int→Int→Int→Int→Int→Int→Int→Int→Int→Int→Int→Int→Nat→Nat→List V→Int→Int→Int→Int→Int→Int→Int→Int→Int→Int→Int→Int→Int→Int→Int→Int→Int→Int→Int→Int→Int→Int→Int→Int→Int→Int→Int→Int→Int→Int→Int→Int→List (List V)→List (List V)→Option β
 | 0,_,_,_,_,_,_,_,_,_,_,_,_,_,_,_,_,_,_,_,_,_,_,_,_,_,_,_,_,_,_,_,_,_,_,_,_,_,_,_,_,_,_,_,_,_,_,_,_,_,_,_,_,_,_,_,_,_,_,_,_,_,_,_,_,_,_,_,_,_,_,_,_,_,_,_,_=>none
 | n+1,p2,p8,a9,ba,bb,b0,b1,aH,aJ,aK,aN,aQ,aR,aT,aU,aW,aX,C,D,E,F,G,I,J,M,N,O,P,Q,R,S,U,W,X,Y,Z,aa,ab,ac,z,A,b6,aY,aZ,a0,a1,a2,a3,a4,a5,a6,a7,ad,ae,af,ag,ah,ai,aj,ak,al,am,an,ao,ap,aq,ar,au,av,aw,ax,ay,az,aC,aD,aE=>zfB yb yc ya za L p2 p8 a9 ba bb b0 b1 aH aJ aK aN aQ aR aT aU aW aX C D E F G I J M N O P Q R S U W X Y Z aa ab ac z A b6 aY aZ a0 a1 a2 a3 a4 a5 a6 a7 ad ae af ag ah ai aj ak al am an ao ap aq ar au av aw ax ay az aC aD aE (fun p2 p8 a9 ba bb b0 b1 aH aJ aK aN aQ aR aT aU aW aX C D E F G I J M N O P Q R S U W X Y Z aa ab ac z A b6 aY aZ a0 a1 a2 a3 a4 a5 a6 a7 ad ae af ag ah ai aj ak al am an ao ap aq ar au av aw ax ay az aC aD aE=>zcu yb yc ya za L a8 n p2 p8 a9 ba bb b0 b1 aH aJ aK aN aQ aR aT aU aW aX C D E F G I J M N O P Q R S U W X Y Z aa ab ac z A b6 aY aZ a0 a1 a2 a3 a4 a5 a6 a7 ad ae af ag ah ai aj ak al am an ao ap aq ar au av aw ax ay az aC aD aE) a8
theorem zh6{β:Type}(yb:yu)(yc:yE)(ya:xg)(za:zg)(L:Nat)(K:KT β):∀ (n:Nat) (p2 p8 a8 a9 ba:Int) (b0 b1:List V) (aH aJ aK aN aQ aR aT aU aW aX C D E F G I J M N O P Q R S U W X Y Z aa ab ac:Int) (z A:Nat) (b6:List V) (aY aZ a0 a1 a2 a3 a4 a5 a6 a7 ad ae af ag ah ai aj ak al am an ao ap aq ar au av aw ax ay az aC:Int) (aD aE:List (List V)),xE (xi zaB (zaC yb yc ya za L) 2 L zcj) zdK n (zcO p2 p8 a8 a9 ba b0 b1 aH aJ aK aN aQ aR aT aU aW aX C D E F G I J M N O P Q R S U W X Y Z aa ab ac z A b6 aY aZ a0 a1 a2 a3 a4 a5 a6 a7 ad ae af ag ah ai aj ak al am an ao ap aq ar au av aw ax ay az aC aD aE) K=zcu yb yc ya za L (fun p2 p8 a8 a9 b0 b1 aH aJ aK aN aQ aR aT aU aW aX C D E F G I J M N O P Q R S U W X Y Z aa ab ac z A b6 aY aZ a0 a1 a2 a3 a4 a5 a6 a7 ad ae af ag ah ai aj ak al am an ao ap aq ar au av aw ax ay az aC aD aE=>K (.exit 0) (ziZ p2 p8 a8 a9 b0 b1 aH aJ aK aN aQ aR aT aU aW aX C D E F G I J M N O P Q R S U W X Y Z aa ab ac z A b6 aY aZ a0 a1 a2 a3 a4 a5 a6 a7 ad ae af ag ah ai aj ak al am an ao ap aq ar au av aw ax ay az aC aD aE)) n p2 p8 a8 a9 ba b0 b1 aH aJ aK aN aQ aR aT aU aW aX C D E F G I J M N O P Q R S U W X Y Z aa ab ac z A b6 aY aZ a0 a1 a2 a3 a4 a5 a6 a7 ad ae af ag ah ai aj ak al am an ao ap aq ar au av aw ax ay az aC aD aE:=by
 intro n
 induction n with
 | zero=>intros; rfl
 | succ n ih=>
  intro p2 p8 a8 a9 ba b0 b1 aH aJ aK aN aQ aR aT aU aW aX C D E F G I J M N O P Q R S U W X Y Z aa ab ac z A b6 aY aZ a0 a1 a2 a3 a4 a5 a6 a7 ad ae af ag ah ai aj ak al am an ao ap aq ar au av aw ax ay az aC aD aE
  refine (zpi yb yc ya za L p2 p8 a8 a9 ba b0 b1 aH aJ aK aN aQ aR aT aU aW aX C D E F G I J M N O P Q R S U W X Y Z aa ab ac z A b6 aY aZ a0 a1 a2 a3 a4 a5 a6 a7 ad ae af ag ah ai aj ak al am an ao ap aq ar au av aw ax ay az aC aD aE (fun σ=>xE (xi zaB (zaC yb yc ya za L) 2 L zcj) zdK n σ K) K).trans ?_
  simp only [ih]
  rfl
def zi9{β:Type}(yb:yu)(yc:yE)(ya:xg)(za:zg)(L:Nat)(bJ bK bL bM bN bO bP bQ bR bS bh bi bj bk bm bn bo bp bq br bt bu bv bw bz bC bD bE bF bG bH bI:Int)(ba bb:Nat)(p1:List V)(p2:Int)(b0 b1:List V)(a8:zdx β)(a9:zfr β):Option β:=zne yb yc ya za L bJ bK bL bM bN bO bP bQ bR bS bh bi bj bk bm bn bo bp bq br bt bu bv bw bz bC bD bE bF bG bH bI ba bb p1 p2 b0 b1 (fun p2 p8 bf bg bV b0 b1 aH aJ aK aN aQ aR aT aU aW aX C D E F G I J M N O P Q R S U W X Y Z aa ab ac z A b6 aY aZ a0 a1 a2 a3 a4 a5 a6 a7 ad ae af ag ah ai aj ak al am an ao ap aq ar au av aw ax ay az aC aD aE=>zcu yb yc ya za L (fun p2 p8 bf bg b0 b1 aH aJ aK aN aQ aR aT aU aW aX C D E F G I J M N O P Q R S U W X Y Z aa ab ac z A b6 aY aZ a0 a1 a2 a3 a4 a5 a6 a7 ad ae af ag ah ai aj ak al am an ao ap aq ar au av aw ax ay az aC aD aE=>zeQ yb yc ya za L p2 p8 bf bg b0 b1 aH aJ aK aN aQ aR aT aU aW aX C D E F G I J M N O P Q R S U W X Y Z aa ab ac z A b6 aY aZ a0 a1 a2 a3 a4 a5 a6 a7 ad ae af ag ah ai aj ak al am an ao ap aq ar au av aw ax ay az aC aD aE a9 a8) L p2 p8 bf bg bV b0 b1 aH aJ aK aN aQ aR aT aU aW aX C D E F G I J M N O P Q R S U W X Y Z aa ab ac z A b6 aY aZ a0 a1 a2 a3 a4 a5 a6 a7 ad ae af ag ah ai aj ak al am an ao ap aq ar au av aw ax ay az aC aD aE) a8
theorem zwz{β:Type}(yb:yu)(yc:yE)(ya:xg)(za:zg)(L:Nat)(ae z af ag ah ai aj ak al am D E F G I J M N O P Q R S U W X Y Z aa ab ac ad:Int)(A C:Nat)(p1:List V)(p2:Int)(b0 b1:List V)(k:KK β):yl zaB (zaC yb yc ya za L) L zcD [(V.st [(Qa ae),(Qa z),(Qa af),(Qa ag),(Qa ah),(Qa ai),(Qa aj),(Qa ak),(Qa al),(Qa am),(Qa D),(Qa E),(Qa F),(Qa G),(Qa I),(Qa J),(Qa M),(Qa N),(Qa O),(Qa P),(Qa Q),(Qa R),(Qa S),(Qa U),(Qa W),(Qa X),(Qa Y),(Qa Z),(Qa aa),(Qa ab),(Qa ac),(Qa ad),(V.own 0 0 A 5),(V.own 1 0 C 5)]),(V.agg p1),(Qc p2)] [(.live true b0),(.live true b1)] k=zi9 yb yc ya za L ae z af ag ah ai aj ak al am D E F G I J M N O P Q R S U W X Y Z aa ab ac ad A C p1 p2 b0 b1 (fun p0_0_0 p0_0_1 p0_0_2 p0_0_3 p0_0_4 p0_0_5 p0_0_6 p0_0_7 p0_0_8 p0_0_9 p0_0_10 p0_0_11 p0_0_12 p0_0_13 p0_0_14 p0_0_15 p0_0_16 p0_0_17 p0_0_18 p0_0_19 p0_0_20 p0_0_21 p0_0_22 p0_0_23 p0_0_24 p0_0_25 p0_0_26 p0_0_27 p0_0_28 p0_0_29 p0_0_30 p0_0_31 p0_0_32l p0_0_33l z b0 b1 b2=>k (V.tup [(V.st [(Qa p0_0_0),(Qa p0_0_1),(Qa p0_0_2),(Qa p0_0_3),(Qa p0_0_4),(Qa p0_0_5),(Qa p0_0_6),(Qa p0_0_7),(Qa p0_0_8),(Qa p0_0_9),(Qa p0_0_10),(Qa p0_0_11),(Qa p0_0_12),(Qa p0_0_13),(Qa p0_0_14),(Qa p0_0_15),(Qa p0_0_16),(Qa p0_0_17),(Qa p0_0_18),(Qa p0_0_19),(Qa p0_0_20),(Qa p0_0_21),(Qa p0_0_22),(Qa p0_0_23),(Qa p0_0_24),(Qa p0_0_25),(Qa p0_0_26),(Qa p0_0_27),(Qa p0_0_28),(Qa p0_0_29),(Qa p0_0_30),(Qa p0_0_31),(V.own 2 0 p0_0_32l 5),(V.own 1 0 p0_0_33l 5)]),(V.sc (.bool z))]) [(.dead b0),(.live true b1),(.live true b2)]) (fun p0_0_0 p0_0_1 p0_0_2 p0_0_3 p0_0_4 p0_0_5 p0_0_6 p0_0_7 p0_0_8 p0_0_9 p0_0_10 p0_0_11 p0_0_12 p0_0_13 p0_0_14 p0_0_15 p0_0_16 p0_0_17 p0_0_18 p0_0_19 p0_0_20 p0_0_21 p0_0_22 p0_0_23 p0_0_24 p0_0_25 p0_0_26 p0_0_27 p0_0_28 p0_0_29 p0_0_30 p0_0_31 p0_0_32l p0_0_33l z b0 b1=>k (V.tup [(V.st [(Qa p0_0_0),(Qa p0_0_1),(Qa p0_0_2),(Qa p0_0_3),(Qa p0_0_4),(Qa p0_0_5),(Qa p0_0_6),(Qa p0_0_7),(Qa p0_0_8),(Qa p0_0_9),(Qa p0_0_10),(Qa p0_0_11),(Qa p0_0_12),(Qa p0_0_13),(Qa p0_0_14),(Qa p0_0_15),(Qa p0_0_16),(Qa p0_0_17),(Qa p0_0_18),(Qa p0_0_19),(Qa p0_0_20),(Qa p0_0_21),(Qa p0_0_22),(Qa p0_0_23),(Qa p0_0_24),(Qa p0_0_25),(Qa p0_0_26),(Qa p0_0_27),(Qa p0_0_28),(Qa p0_0_29),(Qa p0_0_30),(Qa p0_0_31),(V.own 0 0 p0_0_32l 5),(V.own 1 0 p0_0_33l 5)]),(V.sc (.bool z))]) [(.live true b0),(.live true b1)]):=by
 refine (zwC yb yc ya za L ae z af ag ah ai aj ak al am D E F G I J M N O P Q R S U W X Y Z aa ab ac ad A C p1 p2 b0 b1 k).trans ?_
 unfold zi9
 first
  | (simp only [zh6,znT]; done)
  | (simp only [zh6]; rfl)
abbrev zi4:=∀ (β:Type),Nat→Int→Int→Int→Int→Int→Int→Int→Int→Int→Int→Int→Int→Int→Int→Int→Int→Int→Int→Int→Int→Int→Int→Int→Int→Int→Int→Int→Int→Int→Int→Int→Int→Nat→Nat→List V→Int→List V→List V→(Int→Int→Int→Int→Int→Int→Int→Int→Int→Int→Int→Int→Int→Int→Int→Int→Int→Int→Int→Int→Int→Int→Int→Int→Int→Int→Int→Int→Int→Int→Int→Int→Nat→Nat→Bool→Nat→List V→List V→Option β)→(Int→Int→Int→Int→Int→Int→Int→Int→Int→Int→Int→Int→Int→Int→Int→Int→Int→Int→Int→Int→Int→Int→Int→Int→Int→Int→Int→Int→Int→Int→Int→Int→Nat→Nat→Bool→List V→List V→Option β)→Option β
def xX(β:Type)(L:Nat)(af ag ah ai aj ak al am an ao D E F G I J M N O P Q R S U W X Y Z aa ab ac ad:Int)(A C:Nat)(p1:List V)(p2:Int)(b0 b1:List V)(ae:zdx β)(z:zfr β):Option β:=zi9 yb yc ya za L af ag ah ai aj ak al am an ao D E F G I J M N O P Q R S U W X Y Z aa ab ac ad A C p1 p2 b0 b1 ae z
def zjh(xX:zi4)(L:Nat)(β:Type)(args:List V)(bor:Bor)(k:KK β):Option β:=match args,bor with
 | [(.st (a0_0::a0_1::a0_2::a0_3::a0_4::a0_5::a0_6::a0_7::a0_8::a0_9::a0_10::a0_11::a0_12::a0_13::a0_14::a0_15::a0_16::a0_17::a0_18::a0_19::a0_20::a0_21::a0_22::a0_23::a0_24::a0_25::a0_26::a0_27::a0_28::a0_29::a0_30::a0_31::a0_32::a0_33::[])),a1,a2],[(.live true A),(.live true C)]=>aI .u8 a0_0 fun ag=>aI .u8 a0_1 fun z=>aI .u8 a0_2 fun ah=>aI .u8 a0_3 fun ai=>aI .u8 a0_4 fun aj=>aI .u8 a0_5 fun ak=>aI .u8 a0_6 fun al=>aI .u8 a0_7 fun am=>aI .u8 a0_8 fun an=>aI .u8 a0_9 fun ao=>aI .u8 a0_10 fun F=>aI .u8 a0_11 fun G=>aI .u8 a0_12 fun I=>aI .u8 a0_13 fun J=>aI .u8 a0_14 fun M=>aI .u8 a0_15 fun N=>aI .u8 a0_16 fun O=>aI .u8 a0_17 fun P=>aI .u8 a0_18 fun Q=>aI .u8 a0_19 fun R=>aI .u8 a0_20 fun S=>aI .u8 a0_21 fun U=>aI .u8 a0_22 fun W=>aI .u8 a0_23 fun X=>aI .u8 a0_24 fun Y=>aI .u8 a0_25 fun Z=>aI .u8 a0_26 fun aa=>aI .u8 a0_27 fun ab=>aI .u8 a0_28 fun ac=>aI .u8 a0_29 fun ad=>aI .u8 a0_30 fun ae=>aI .u8 a0_31 fun af=>aO0 0 5 a0_32 fun D=>aO0 1 5 a0_33 fun E=>aG a1 fun p1=>aI .u32 a2 fun p2=>xX β L ag z ah ai aj ak al am an ao F G I J M N O P Q R S U W X Y Z aa ab ac ad ae af D E p1 p2 A C (fun p0_0_0 p0_0_1 p0_0_2 p0_0_3 p0_0_4 p0_0_5 p0_0_6 p0_0_7 p0_0_8 p0_0_9 p0_0_10 p0_0_11 p0_0_12 p0_0_13 p0_0_14 p0_0_15 p0_0_16 p0_0_17 p0_0_18 p0_0_19 p0_0_20 p0_0_21 p0_0_22 p0_0_23 p0_0_24 p0_0_25 p0_0_26 p0_0_27 p0_0_28 p0_0_29 p0_0_30 p0_0_31 p0_0_32l p0_0_33l z A C b2=>k (V.tup [(V.st [(Qa p0_0_0),(Qa p0_0_1),(Qa p0_0_2),(Qa p0_0_3),(Qa p0_0_4),(Qa p0_0_5),(Qa p0_0_6),(Qa p0_0_7),(Qa p0_0_8),(Qa p0_0_9),(Qa p0_0_10),(Qa p0_0_11),(Qa p0_0_12),(Qa p0_0_13),(Qa p0_0_14),(Qa p0_0_15),(Qa p0_0_16),(Qa p0_0_17),(Qa p0_0_18),(Qa p0_0_19),(Qa p0_0_20),(Qa p0_0_21),(Qa p0_0_22),(Qa p0_0_23),(Qa p0_0_24),(Qa p0_0_25),(Qa p0_0_26),(Qa p0_0_27),(Qa p0_0_28),(Qa p0_0_29),(Qa p0_0_30),(Qa p0_0_31),(V.own 2 0 p0_0_32l 5),(V.own 1 0 p0_0_33l 5)]),(V.sc (.bool z))]) [(.dead A),(.live true C),(.live true b2)]) (fun p0_0_0 p0_0_1 p0_0_2 p0_0_3 p0_0_4 p0_0_5 p0_0_6 p0_0_7 p0_0_8 p0_0_9 p0_0_10 p0_0_11 p0_0_12 p0_0_13 p0_0_14 p0_0_15 p0_0_16 p0_0_17 p0_0_18 p0_0_19 p0_0_20 p0_0_21 p0_0_22 p0_0_23 p0_0_24 p0_0_25 p0_0_26 p0_0_27 p0_0_28 p0_0_29 p0_0_30 p0_0_31 p0_0_32l p0_0_33l z A C=>k (V.tup [(V.st [(Qa p0_0_0),(Qa p0_0_1),(Qa p0_0_2),(Qa p0_0_3),(Qa p0_0_4),(Qa p0_0_5),(Qa p0_0_6),(Qa p0_0_7),(Qa p0_0_8),(Qa p0_0_9),(Qa p0_0_10),(Qa p0_0_11),(Qa p0_0_12),(Qa p0_0_13),(Qa p0_0_14),(Qa p0_0_15),(Qa p0_0_16),(Qa p0_0_17),(Qa p0_0_18),(Qa p0_0_19),(Qa p0_0_20),(Qa p0_0_21),(Qa p0_0_22),(Qa p0_0_23),(Qa p0_0_24),(Qa p0_0_25),(Qa p0_0_26),(Qa p0_0_27),(Qa p0_0_28),(Qa p0_0_29),(Qa p0_0_30),(Qa p0_0_31),(V.own 0 0 p0_0_32l 5),(V.own 1 0 p0_0_33l 5)]),(V.sc (.bool z))]) [(.live true A),(.live true C)])
 | _,_=>none
theorem zwx(L:Nat)(β:Type)(args:List V)(bor:Bor)(k:KK β)(r:β)(h:zjh xX L β args bor k=some r):yl zaB (zaC yb yc ya za L) L zcD args bor k=some r:=by
 unfold zjh at h
 split at h
 ·have q:=yo h; clear h; obtain ⟨ad,rfl,h⟩:=q
  have q:=yo h; clear h; obtain ⟨ae,rfl,h⟩:=q
  have q:=yo h; clear h; obtain ⟨af,rfl,h⟩:=q
  have q:=yo h; clear h; obtain ⟨ag,rfl,h⟩:=q
  have q:=yo h; clear h; obtain ⟨ah,rfl,h⟩:=q
  have q:=yo h; clear h; obtain ⟨ai,rfl,h⟩:=q
  have q:=yo h; clear h; obtain ⟨aj,rfl,h⟩:=q
  have q:=yo h; clear h; obtain ⟨ak,rfl,h⟩:=q
  have q:=yo h; clear h; obtain ⟨al,rfl,h⟩:=q
  have q:=yo h; clear h; obtain ⟨am,rfl,h⟩:=q
  have q:=yo h; clear h; obtain ⟨C,rfl,h⟩:=q
  have q:=yo h; clear h; obtain ⟨D,rfl,h⟩:=q
  have q:=yo h; clear h; obtain ⟨E,rfl,h⟩:=q
  have q:=yo h; clear h; obtain ⟨F,rfl,h⟩:=q
  have q:=yo h; clear h; obtain ⟨G,rfl,h⟩:=q
  have q:=yo h; clear h; obtain ⟨I,rfl,h⟩:=q
  have q:=yo h; clear h; obtain ⟨J,rfl,h⟩:=q
  have q:=yo h; clear h; obtain ⟨M,rfl,h⟩:=q
  have q:=yo h; clear h; obtain ⟨N,rfl,h⟩:=q
  have q:=yo h; clear h; obtain ⟨O,rfl,h⟩:=q
  have q:=yo h; clear h; obtain ⟨P,rfl,h⟩:=q
  have q:=yo h; clear h; obtain ⟨Q,rfl,h⟩:=q
  have q:=yo h; clear h; obtain ⟨R,rfl,h⟩:=q
  have q:=yo h; clear h; obtain ⟨S,rfl,h⟩:=q
  have q:=yo h; clear h; obtain ⟨U,rfl,h⟩:=q
  have q:=yo h; clear h; obtain ⟨W,rfl,h⟩:=q
  have q:=yo h; clear h; obtain ⟨X,rfl,h⟩:=q
  have q:=yo h; clear h; obtain ⟨Y,rfl,h⟩:=q
  have q:=yo h; clear h; obtain ⟨Z,rfl,h⟩:=q
  have q:=yo h; clear h; obtain ⟨aa,rfl,h⟩:=q
  have q:=yo h; clear h; obtain ⟨ab,rfl,h⟩:=q
  have q:=yo h; clear h; obtain ⟨ac,rfl,h⟩:=q
  have q:=zhd h; clear h; obtain ⟨z,rfl,h⟩:=q
  have q:=zhd h; clear h; obtain ⟨A,rfl,h⟩:=q
  have q:=xM h; clear h; obtain ⟨p1,rfl,h⟩:=q
  have q:=yo h; clear h; obtain ⟨p2,rfl,h⟩:=q
  exact (zwz yb yc ya za L ad ae af ag ah ai aj ak al am C D E F G I J M N O P Q R S U W X Y Z aa ab ac z A p1 p2 _ _ k).trans h
 ·cases h
def zik:CF:=⟨73,[.cellS 6 34 true,.tmpP 7,.tmpP 8],(.seq (.reg [oo 3 (.box false (tq 0)),Qv 4 (tq 1),oo 6 (.alloc false (rp 32 (.sc (.int .u8 0)) (rp 2 (.gs 5 []) []))),Qh 7 (Qg false),Qh 8 (Qf 0)]) (.seq (.seq (.reg [Qk 12 34 (tq 3),Qs 13 275 [((tq 12),1)],Qt 14 (tq 13)]) (.cond (tq 14) (.seq (.reg [oo 15 (.build (rp 32 (.sc (.int .u8 0)) (rp 2 (.sl 5 []) [])) []),Qm 34 (tq 6) (tq 15),Qh 7 (Qg false),Qh 8 (Qf 6)]) .ret) .skip)) (.seq (.reg [Qk 16 34 (tq 3),oo 17 (.call 394 [((tq 16),1)] [14,18]),Qm 34 (tq 3) (tq 17)]) (.seq (.seq (.reg [Ql 18 33 (tq 3),Qj 19 1 (tq 18),Qk 20 3 (tq 4),Qs 21 395 [((tq 19),2),((tq 20),2)],Qh 9 (tq 21)]) (.seq (.reg [Qh 22 (tq 9),Qp 23 .geq (tq 22) (Qf 0)]) (.cond (tq 23) (.seq (.dreg [] [(Ql 24 33 (tq 3),q0),(Qj 25 1 (tq 24),ql 3 [4] []),(Qh 26 (tq 9),q0),(Ql 27 33 (tq 3),q0),(Qj 28 1 (tq 27),ql 3 [4] []),(Qh 29 (tq 9),q0),(Qo 30 5 (tq 28) (tq 29),q0),(Ql 31 1 (tq 30),q0),(Ql 32 2 (tq 31),q0),(Qj 33 1 (tq 32),qc [3,4] []),(Ql 34 2 (tq 4),q0),(Qj 35 1 (tq 34),ql 4 [3] []),(oo 36 (.mm true (tq 33) (tq 35)),q0),(Qo 37 5 (tq 25) (tq 26),q0),(Ql 38 1 (tq 37),q0),(Ql 39 2 (tq 38),q0),(Qm 1 (tq 39) (tq 36),q0)]) (.seq (.reg [oo 40 (.load true 34 (tq 3) true),Qm 34 (tq 6) (tq 40),Qh 7 (Qg false),Qh 8 (Qf 0)]) .ret)) .skip))) (.seq (.seq (.reg [Ql 41 32 (tq 3),Qj 42 1 (tq 41),Qk 43 3 (tq 4),Qs 44 395 [((tq 42),2),((tq 43),2)],Qh 10 (tq 44)]) (.seq (.reg [Qh 45 (tq 10),Qp 46 .geq (tq 45) (Qf 0)]) (.cond (tq 46) (.seq (.dreg [] [(Ql 47 32 (tq 3),q0),(Qj 48 1 (tq 47),ql 3 [4] []),(Qh 49 (tq 10),q0),(Ql 50 32 (tq 3),q0),(Qj 51 1 (tq 50),ql 3 [4] []),(Qh 52 (tq 10),q0),(Qo 53 5 (tq 51) (tq 52),q0),(Ql 54 1 (tq 53),q0),(Ql 55 2 (tq 54),q0),(Qj 56 1 (tq 55),qc [3,4] []),(Ql 57 2 (tq 4),q0),(Qj 58 1 (tq 57),ql 4 [3] []),(oo 59 (.mm true (tq 56) (tq 58)),q0),(Qo 60 5 (tq 48) (tq 49),q0),(Ql 61 1 (tq 60),q0),(Ql 62 2 (tq 61),q0),(Qm 1 (tq 62) (tq 59),q0)]) (.seq (.reg [oo 63 (.load true 34 (tq 3) true),Qm 34 (tq 6) (tq 63),Qh 7 (Qg false),Qh 8 (Qf 0)]) .ret)) .skip))) (.seq (.reg [oo 65 (.load true 34 (tq 3) true),Qk 66 3 (tq 4),Qh 67 (tq 2),oo 68 (.call 396 [((tq 65),3),((tq 66),2),((tq 67),2)] [23,24]),Qi 64 (tq 68),Qq 69 (tq 64) 0,Qq 70 (tq 64) 1,Qm 34 (tq 3) (tq 69),Qh 11 (tq 70)]) (.seq (.reg [oo 71 (.load true 34 (tq 3) true),Qh 72 (tq 11),Qm 34 (tq 6) (tq 71),Qh 7 (tq 72),Qh 8 (Qf 0)]) .ret)))))))⟩
def zpx:Hint:=⟨[(4,3),(7,0),(8,3),(11,0),(12,0),(12,3),(12,4),(13,0)],[],[none,none,none,none,none,none,none],[],[(3,1,[14,18]),(12,3,[23,24])],true,true,[]⟩
def zmf:Nat→Sh:=yT [(3,(.row [(.int .u8),(.int .u8),(.int .u8),(.int .u8),(.int .u8),(.int .u8),(.int .u8),(.int .u8),(.int .u8),(.int .u8),(.int .u8),(.int .u8),(.int .u8),(.int .u8),(.int .u8),(.int .u8),(.int .u8),(.int .u8),(.int .u8),(.int .u8),(.int .u8),(.int .u8),(.int .u8),(.int .u8),(.int .u8),(.int .u8),(.int .u8),(.int .u8),(.int .u8),(.int .u8),(.int .u8),(.int .u8),(.sl 5),(.sl 5)])),(33,(.int .u32)),(35,(.int .u32)),(56,(.int .u32)),(58,(.int .u32))]
def zl9(xq:zbH)(xB:zdr)(xZ:zkj)(xX:zi4)(L:Nat):CBC:=(xy 396 (zjh xX L) (xy 395 (zkD xZ L) (xy 394 (zfQ xB L) (xy 275 (zeR xq L) noC))))
def zm7{β:Type}(xq:zbH)(xB:zdr)(xZ:zkj)(xX:zi4)(L:Nat)(z J:List V)(p2:Int)(A:List V→Bool→Int→Option β):Option β:=chk (XI z=34) (cI .u8 z 0 fun v0=>cI .u8 z 1 fun v1=>cI .u8 z 2 fun v2=>cI .u8 z 3 fun v3=>cI .u8 z 4 fun v4=>cI .u8 z 5 fun v5=>cI .u8 z 6 fun v6=>cI .u8 z 7 fun v7=>cI .u8 z 8 fun v8=>cI .u8 z 9 fun v9=>cI .u8 z 10 fun aC=>cI .u8 z 11 fun aD=>cI .u8 z 12 fun aE=>cI .u8 z 13 fun aH=>cI .u8 z 14 fun aJ=>cI .u8 z 15 fun aK=>cI .u8 z 16 fun aN=>cI .u8 z 17 fun aQ=>cI .u8 z 18 fun aR=>cI .u8 z 19 fun aT=>cI .u8 z 20 fun aU=>cI .u8 z 21 fun aW=>cI .u8 z 22 fun aX=>cI .u8 z 23 fun aY=>cI .u8 z 24 fun aZ=>cI .u8 z 25 fun a0=>cI .u8 z 26 fun a1=>cI .u8 z 27 fun a2=>cI .u8 z 28 fun a3=>cI .u8 z 29 fun a4=>cI .u8 z 30 fun a5=>cI .u8 z 31 fun a6=>cL 5 z 32 fun a7=>cL 5 z 33 fun a8=>xq β L [(Qa v0),(Qa v1),(Qa v2),(Qa v3),(Qa v4),(Qa v5),(Qa v6),(Qa v7),(Qa v8),(Qa v9),(Qa aC),(Qa aD),(Qa aE),(Qa aH),(Qa aJ),(Qa aK),(Qa aN),(Qa aQ),(Qa aR),(Qa aT),(Qa aU),(Qa aW),(Qa aX),(Qa aY),(Qa aZ),(Qa a0),(Qa a1),(Qa a2),(Qa a3),(Qa a4),(Qa a5),(Qa a6),(V.sl 5 a7),(V.sl 5 a8)] (fun cj=>ifb (!cj) (A (We 32 (Qa (0:Int))++[(V.sl 5 ([]:List (List V))),(V.sl 5 ([]:List (List V)))]) false (6:Int)) (xB β L [(Qa v0),(Qa v1),(Qa v2),(Qa v3),(Qa v4),(Qa v5),(Qa v6),(Qa v7),(Qa v8),(Qa v9),(Qa aC),(Qa aD),(Qa aE),(Qa aH),(Qa aJ),(Qa aK),(Qa aN),(Qa aQ),(Qa aR),(Qa aT),(Qa aU),(Qa aW),(Qa aX),(Qa aY),(Qa aZ),(Qa a0),(Qa a1),(Qa a2),(Qa a3),(Qa a4),(Qa a5),(Qa a6),(V.sl 5 a7),(V.sl 5 a8)] (fun M N O P Q R S U W X Y Z aa ab ac ad ae af ag ah ai aj ak al am an ao ap aq ar au av G I aw a9=>chk (0+3≤(XI J)) (xZ β L I (XK 3 J) a9 (fun C D=>chk ([(XI D)]=[(XI a9)]) (ifb (decide (C≥(0:Int))) (chk (0≤C∧C<((I:Nat):Int)) (cI .u32 D (((0+((XJ C)*5))+1)+2) fun ck=>cI .u32 J 2 fun cl=>lt (zB6 ck cl) fun cm=>chk (0≤C∧C<((I:Nat):Int)) (chk (1=1∧(((0+((XJ C)*5))+1)+2)+1≤(XI D)) (lt (xd D (((0+((XJ C)*5))+1)+2) [(Qc cm)]) fun cn=>A [(Qa M),(Qa N),(Qa O),(Qa P),(Qa Q),(Qa R),(Qa S),(Qa U),(Qa W),(Qa X),(Qa Y),(Qa Z),(Qa aa),(Qa ab),(Qa ac),(Qa ad),(Qa ae),(Qa af),(Qa ag),(Qa ah),(Qa ai),(Qa aj),(Qa ak),(Qa al),(Qa am),(Qa an),(Qa ao),(Qa ap),(Qa aq),(Qa ar),(Qa au),(Qa av),(V.sl 5 (ye 5 G aw)),(V.sl 5 (ye 5 I cn))] false (0:Int))))) (chk (0+3≤(XI J)) (xZ β L G (XK 3 J) aw (fun E F=>chk ([(XI F)]=[(XI aw)]) (ifb (decide (E≥(0:Int))) (chk (0≤E∧E<((G:Nat):Int)) (cI .u32 F (((0+((XJ E)*5))+1)+2) fun co=>cI .u32 J 2 fun cp=>lt (zB6 co cp) fun cq=>chk (0≤E∧E<((G:Nat):Int)) (chk (1=1∧(((0+((XJ E)*5))+1)+2)+1≤(XI F)) (lt (xd F (((0+((XJ E)*5))+1)+2) [(Qc cq)]) fun cr=>A [(Qa M),(Qa N),(Qa O),(Qa P),(Qa Q),(Qa R),(Qa S),(Qa U),(Qa W),(Qa X),(Qa Y),(Qa Z),(Qa aa),(Qa ab),(Qa ac),(Qa ad),(Qa ae),(Qa af),(Qa ag),(Qa ah),(Qa ai),(Qa aj),(Qa ak),(Qa al),(Qa am),(Qa an),(Qa ao),(Qa ap),(Qa aq),(Qa ar),(Qa au),(Qa av),(V.sl 5 (ye 5 G cr)),(V.sl 5 (ye 5 I D))] false (0:Int))))) (chk (0+3≤(XI J)) (xX β L M N O P Q R S U W X Y Z aa ab ac ad ae af ag ah ai aj ak al am an ao ap aq ar au av G I (XK 3 J) p2 F D (fun ct cu cv cw cx cy cz cA cC cD cE cF cH cJ cM cN cO ba bb bc bd be bf bg bh bi bj bk bm bn bo bp bq br bt bu ax bv=>chk ([bu,(XI ax)]=[(XI F),(XI D)]) (A [(Qa ct),(Qa cu),(Qa cv),(Qa cw),(Qa cx),(Qa cy),(Qa cz),(Qa cA),(Qa cC),(Qa cD),(Qa cE),(Qa cF),(Qa cH),(Qa cJ),(Qa cM),(Qa cN),(Qa cO),(Qa ba),(Qa bb),(Qa bc),(Qa bd),(Qa be),(Qa bf),(Qa bg),(Qa bh),(Qa bi),(Qa bj),(Qa bk),(Qa bm),(Qa bn),(Qa bo),(Qa bp),(V.sl 5 (ye 5 bq bv)),(V.sl 5 (ye 5 br ax))] bt (0:Int))) (fun bw bz bC bD bE bF bG bH bI bJ bK bL bM bN bO bP bQ bR bS bT bU bV bW bX bY bZ b0 b1 b2 b3 b4 b5 b6 b7 b8 ay az=>chk ([(XI ay),(XI az)]=[(XI F),(XI D)]) (A [(Qa bw),(Qa bz),(Qa bC),(Qa bD),(Qa bE),(Qa bF),(Qa bG),(Qa bH),(Qa bI),(Qa bJ),(Qa bK),(Qa bL),(Qa bM),(Qa bN),(Qa bO),(Qa bP),(Qa bQ),(Qa bR),(Qa bS),(Qa bT),(Qa bU),(Qa bV),(Qa bW),(Qa bX),(Qa bY),(Qa bZ),(Qa b0),(Qa b1),(Qa b2),(Qa b3),(Qa b4),(Qa b5),(V.sl 5 (ye 5 b6 ay)),(V.sl 5 (ye 5 b7 az))] b8 (0:Int))))))))))))))))
theorem zwH{β:Type}(xq:zbH)(xB:zdr)(xZ:zkj)(xX:zi4)(L:Nat)(D E:List V)(F:Int)(k:KK β):yl zmf (zl9 xq xB xZ xX L) L zik [(V.agg D),(V.agg E),(Qc F)] [] k=zm7 xq xB xZ xX L D E F (fun z A C=>k (V.tup [(V.agg z),(V.sc (.bool A)),(Qe C)]) []):=by kernel_rfl
abbrev zi8:=∀ (β:Type),Nat→List V→List V→Int→(List V→Bool→Int→Option β)→Option β
def yV(β:Type)(L:Nat)(A C:List V)(D:Int)(z:List V→Bool→Int→Option β):Option β:=zm7 xq xB xZ xX L A C D z
def ziX(yV:zi8)(L:Nat)(β:Type)(args:List V)(bor:Bor)(k:KK β):Option β:=match args,bor with
 | [a0,a1,a2],[]=>aG a0 fun D=>aG a1 fun E=>aI .u32 a2 fun F=>yV β L D E F (fun z A C=>k (V.tup [(V.agg z),(V.sc (.bool A)),(Qe C)]) [])
 | _,_=>none
theorem zwF(L:Nat)(β:Type)(args:List V)(bor:Bor)(k:KK β)(r:β)(h:ziX yV L β args bor k=some r):yl zmf (zl9 xq xB xZ xX L) L zik args bor k=some r:=by
 unfold ziX at h
 split at h
 ·have q:=xM h; clear h; obtain ⟨z,rfl,h⟩:=q
  have q:=xM h; clear h; obtain ⟨A,rfl,h⟩:=q
  have q:=yo h; clear h; obtain ⟨C,rfl,h⟩:=q
  exact (zwH xq xB xZ xX L z A C k).trans h
 ·cases h
def zmW:CF:=⟨65,[.tmp 0],(.seq (.reg [Qh 0 (Qg false)]) (.seq (.reg [oo 8 (.build [(.sc (.int .u32 0)),(.sc (.int .u16 0)),(.sc (.int .u32 0))] [(0,1,(.const (.sc (.int .u32 327680)))),(1,1,(.const (.sc (.int .u16 8)))),(2,1,(.const (.sc (.int .u32 3))))]),oo 1 (.alloc true [(.sc (.int .u32 0)),(.sc (.int .u16 0)),(.sc (.int .u32 0))]),Qm 3 (tq 1) (tq 8)]) (.seq (.reg [oo 10 (.build (rp 32 (.sc (.int .u8 0)) (rp 2 (.sl 5 []) [])) []),Qk 11 3 (tq 1),Qs 12 382 [((tq 10),1),(Qw 11),((.const (.sc (.int .u32 7))),0)],Qi 9 (tq 12),Qq 13 (tq 9) 0,Qq 14 (tq 9) 1,Qq 15 (tq 9) 2,oo 2 (.alloc true (rp 32 (.sc (.int .u8 0)) (rp 2 (.gs 5 []) []))),Qm 34 (tq 2) (tq 13),Qh 3 (tq 14),Qh 4 (tq 15)]) (.seq (.reg [Ql 16 2 (tq 1),oz (.store 1 (tq 16) (.const (.sc (.int .u32 9))))]) (.seq (.reg [Qk 18 34 (tq 2),Qk 19 3 (tq 1),Qs 20 382 [((tq 18),1),(Qw 19),((.const (.sc (.int .u32 8))),0)],Qi 17 (tq 20),Qq 21 (tq 17) 0,Qq 22 (tq 17) 1,Qq 23 (tq 17) 2,oo 5 (.alloc true (rp 32 (.sc (.int .u8 0)) (rp 2 (.gs 5 []) []))),Qm 34 (tq 5) (tq 21),Qh 6 (tq 22),Qh 7 (tq 23)]) (.seq (.reg [Qh 24 (tq 4),Qp 25 .eql (tq 24) (Qf 0),Qh 26 (tq 25),⟨(some 27),false,(some (26,true)),.move (tq 7) false⟩,⟨(some 28),false,(some (26,true)),.bin .eql (tq 27) (Qf 0)⟩,oo 29 (.pick (tq 26) (tq 28) (Qg false)),Qh 30 (tq 29),⟨(some 31),false,(some (30,true)),.move (tq 3) false⟩,oo 32 (.pick (tq 30) (tq 31) (Qg false)),Qh 33 (tq 32),⟨(some 34),false,(some (33,true)),.move (tq 6) false⟩,⟨(some 35),false,(some (33,true)),.un .not (tq 34)⟩,oo 36 (.pick (tq 33) (tq 35) (Qg false)),Qh 37 (tq 36),⟨(some 38),false,(some (37,true)),.fieldAddr 32 (tq 5)⟩,⟨(some 39),false,(some (37,true)),.load false 1 (tq 38) false⟩,⟨(some 40),false,(some (37,true)),.lenS (tq 39)⟩,⟨(some 41),false,(some (37,true)),.bin .eql (tq 40) (Qf 1)⟩,oo 42 (.pick (tq 37) (tq 41) (Qg false)),Qh 43 (tq 42),⟨(some 44),false,(some (43,true)),.fieldAddr 32 (tq 5)⟩,⟨(some 45),false,(some (43,true)),.load false 1 (tq 44) false⟩,⟨(some 46),false,(some (43,true)),.indexAddrS 5 (tq 45) (Qf 0)⟩,⟨(some 47),false,(some (43,true)),.fieldAddr 1 (tq 46)⟩,⟨(some 48),false,(some (43,true)),.fieldAddr 2 (tq 47)⟩,⟨(some 49),false,(some (43,true)),.load false 1 (tq 48) false⟩,⟨(some 50),false,(some (43,true)),.bin .eql (tq 49) (.const (.sc (.int .u32 9)))⟩,oo 51 (.pick (tq 43) (tq 50) (Qg false)),Qh 52 (tq 51),⟨(some 53),false,(some (52,true)),.fieldAddr 32 (tq 5)⟩,⟨(some 54),false,(some (52,true)),.load false 1 (tq 53) false⟩,⟨(some 55),false,(some (52,true)),.indexAddrS 5 (tq 54) (Qf 0)⟩,⟨(some 56),false,(some (52,true)),.fieldAddr 4 (tq 55)⟩,⟨(some 57),false,(some (52,true)),.load false 1 (tq 56) false⟩,⟨(some 58),false,(some (52,true)),.bin .eql (tq 57) (.const (.sc (.int .u32 7)))⟩,oo 59 (.pick (tq 52) (tq 58) (Qg false)),Qh 60 (tq 59),⟨(some 61),false,(some (60,true)),.load true 3 (tq 1) false⟩,⟨(some 62),false,(some (60,true)),.call 269 [(Qw 61)] []⟩,⟨(some 63),false,(some (60,true)),.bin .eql (tq 62) (.const (.sc (.int .u32 5)))⟩,oo 64 (.pick (tq 60) (tq 63) (Qg false)),Qh 0 (tq 64)]) .ret))))))⟩
def ztj:Hint:=⟨[(2,3),(2,7),(4,3),(4,7)],[],[none],[],[],false,false,[]⟩
def zrd:Nat→Sh:=yT [(39,(.sl 5)),(45,(.sl 5)),(49,(.int .u32)),(54,(.sl 5)),(57,(.int .u32))]
def zqX(yV:zi8)(zj:zaz)(L:Nat):CBC:=(xy 269 (zdM zj L) (xy 382 (ziX yV L) noC))
def zs6{β:Type}(yV:zi8)(zj:zaz)(L:Nat)(z:Bool→Option β):Option β:=lt [(Qc (327680:Int)),(Qb (8:Int)),(Qc (3:Int))] fun A=>chk (0+3≤(XI A)) (yV β L (We 32 (Qa (0:Int))++[(V.sl 5 ([]:List (List V))),(V.sl 5 ([]:List (List V)))]) (XK 3 A) (7:Int) (fun C P Q=>chk ((XI C)=34∧0+34≤34) (lt (xd (We 32 (Qa (0:Int))++[(V.gs 5 ([]:List (List V))),(V.gs 5 ([]:List (List V)))]) 0 C) fun r4=>chk (1=1∧2+1≤(XI A)) (lt (xd A 2 [(Qc (9:Int))]) fun r5=>chk (0+34≤(XI r4)) (chk (0+3≤(XI r5)) (yV β L (List.map V.dem (XK 34 r4)) (XK 3 r5) (8:Int) (fun D R S=>chk ((XI D)=34∧0+34≤34) (lt (xd (We 32 (Qa (0:Int))++[(V.gs 5 ([]:List (List V))),(V.gs 5 ([]:List (List V)))]) 0 D) fun r9=>ifb ((Q:Int)==(0:Int)) (ifb ((S:Int)==(0:Int)) (ifb P (ifb (!R) (cLd 5 r9 32 fun E=>ifb ((((XI E:Nat):Int):Int)==(1:Int)) (cLd 5 r9 32 fun F=>idx F (0:Int) fun G=>cI .u32 (XL 2 (XL 1 G)) 0 fun I=>ifb ((I:Int)==(9:Int)) (cLd 5 r9 32 fun J=>idx J (0:Int) fun M=>cI .u32 (XL 4 M) 0 fun N=>ifb ((N:Int)==(7:Int)) (chk (0+3≤(XI r5)) (zj β L (XK 3 r5) (fun O=>z ((O:Int)==(5:Int))))) (z false)) (z false)) (z false)) (z false)) (z false)) (z false)) (z false)))))))))
theorem zAW{β:Type}(yV:zi8)(zj:zaz)(L:Nat)(k:KK β):yl zrd (zqX yV zj L) L zmW [] [] k=zs6 yV zj L (fun z=>k (V.sc (.bool z)) []):=by kernel_rfl
abbrev zbB:=∀ (β:Type),Nat→(Bool→Option β)→Option β
def zu(β:Type)(L:Nat)(z:Bool→Option β):Option β:=zs6 yV zj L z
def zon(zu:zbB)(L:Nat)(β:Type)(args:List V)(bor:Bor)(k:KK β):Option β:=match args,bor with
 | [],[]=>zu β L (fun z=>k (V.sc (.bool z)) [])
 | _,_=>none
theorem zA4(L:Nat)(β:Type)(args:List V)(bor:Bor)(k:KK β)(r:β)(h:zon zu L β args bor k=some r):yl zrd (zqX yV zj L) L zmW args bor k=some r:=by
 unfold zon at h
 split at h
 ·exact (zAW yV zj L k).trans h
 ·cases h
def zql:CF:=⟨6,[.tmp 2],(.seq (.reg [oo 2 (.move (.const (.sc (.pointer none))) false)]) (.seq (.reg [Qh 3 (tq 0),oo 4 (.build [(.sl 1 []),(.sc (.int .i64 0))] [(0,1,(tq 3))]),oo 5 (.box false (tq 4)),Qh 2 (tq 5)]) .ret))⟩
def zwe:Hint:=⟨[],[],[none],[],[],false,false,[]⟩
def zun:Nat→Sh:=yT []
def zt4(L:Nat):CBC:=noC
def zvT{β:Type}(L:Nat)(A:List (List V))(z:List (List V)→Int→Option β):Option β:=z A (0:Int)
theorem zC5{β:Type}(L:Nat)(C:List (List V))(k:KK β):yl zun (zt4 L) L zql [(V.sl 1 C)] [] k=zvT L C (fun z A=>k (V.bx false [(V.sl 1 z),(Qe A)]) []):=by kernel_rfl
abbrev zcG:=∀ (β:Type),Nat→List (List V)→(List (List V)→Int→Option β)→Option β
def yA(β:Type)(L:Nat)(A:List (List V))(z:List (List V)→Int→Option β):Option β:=zvT L A z
def zrH(yA:zcG)(L:Nat)(β:Type)(args:List V)(bor:Bor)(k:KK β):Option β:=match args,bor with
 | [a0],[]=>aL 1 a0 fun C=>yA β L C (fun z A=>k (V.bx false [(V.sl 1 z),(Qe A)]) [])
 | _,_=>none
theorem zDm(L:Nat)(β:Type)(args:List V)(bor:Bor)(k:KK β)(r:β)(h:zrH yA L β args bor k=some r):yl zun (zt4 L) L zql args bor k=some r:=by
 unfold zrH at h
 split at h
 ·have q:=zaF h; clear h; obtain ⟨z,rfl,h⟩:=q
  exact (zC5 L z k).trans h
 ·cases h
def zib:CF:=⟨13,[.tmp 2],(.seq (.reg [Qh 2 (Qg false)]) (.seq (.dreg [] [(Qh 3 (tq 0),q0),(oo 4 (.nilCheck (tq 3)),q0),(Ql 5 1 (tq 4),q0),(Qj 6 1 (tq 5),ql 0 [] []),(Qh 7 (tq 0),q0),(oo 8 (.nilCheck (tq 7)),q0),(Ql 9 0 (tq 8),q0),(Qj 10 1 (tq 9),ql 0 [] []),(Qr 11 (tq 10),q0),(Qp 12 .lss (tq 6) (tq 11),q0),(Qh 2 (tq 12),q0)]) .ret))⟩
def zpw:Hint:=⟨[],[],[none],[],[],false,false,[]⟩
def zl8:Nat→Sh:=yT []
def zl4(L:Nat):CBC:=noC
def zi7{β:Type}(L:Nat)(z:List (List V))(A:Int)(C:Bool→List (List V)→Int→Option β):Option β:=C (decide (A<((XI z:Nat):Int))) z A
theorem zwP{β:Type}(L:Nat)(z:List (List V))(A:Int)(k:KK β):yl zl8 (zl4 L) L zib [(V.ptr 0 0)] [(.live false [(V.sl 1 z),(Qe A)])] k=zi7 L z A (fun C z A=>k (V.sc (.bool C)) [(.live false [(V.sl 1 z),(Qe A)])]):=by kernel_rfl
abbrev zjx:=∀ (β:Type),Nat→List (List V)→Int→(Bool→List (List V)→Int→Option β)→Option β
def xY(β:Type)(L:Nat)(A:List (List V))(C:Int)(z:Bool→List (List V)→Int→Option β):Option β:=zi7 L A C z
def zi2(xY:zjx)(L:Nat)(β:Type)(args:List V)(bor:Bor)(k:KK β):Option β:=match args,bor with
 | [a0],[(.live false [w0_0,w0_1])]=>aP 0 0 a0 (aL 1 w0_0 fun z=>aI .i64 w0_1 fun A=>xY β L z A (fun C z A=>k (V.sc (.bool C)) [(.live false [(V.sl 1 z),(Qe A)])]))
 | _,_=>none
theorem zwD(L:Nat)(β:Type)(args:List V)(bor:Bor)(k:KK β)(r:β)(h:zi2 xY L β args bor k=some r):yl zl8 (zl4 L) L zib args bor k=some r:=by
 unfold zi2 at h
 split at h
 ·have q:=zoD h; clear h; obtain ⟨rfl,h⟩:=q
  have q:=zaF h; clear h; obtain ⟨z,rfl,h⟩:=q
  have q:=yo h; clear h; obtain ⟨A,rfl,h⟩:=q
  exact (zwP L z A k).trans h
 ·cases h
def zqf:CF:=⟨15,[.tmp 4],(.seq (.reg [Qh 4 (Qf 0)]) (.seq (.reg [Qh 6 (tq 0),Qh 7 (tq 1),Qp 8 .rem (tq 6) (tq 7),Qh 5 (tq 8)]) (.seq (.seq (.reg [Qh 9 (tq 5),Qp 10 .lss (tq 9) (Qf 0)]) (.cond (tq 10) (.reg [Qh 11 (tq 5),Qh 12 (tq 1),Qp 13 .add (tq 11) (tq 12),Qh 5 (tq 13)]) .skip)) (.seq (.reg [Qh 14 (tq 5),Qh 4 (tq 14)]) .ret))))⟩
def zwn:Hint:=⟨[],[],[none,none],[],[],false,false,[]⟩
def zuh:Nat→Sh:=yT []
def ztM(L:Nat):CBC:=noC
def zrE{β:Type}(L:Nat)(D A:Int)(z:Int→Option β):Option β:=chk (A≠0) (lt (XP D A) fun C=>ifb (decide (C<(0:Int))) (lt (QF .i64 ((C:Int)+A)) fun E=>z E) (z C))
theorem zDs{β:Type}(L:Nat)(z A:Int)(k:KK β):yl zuh (ztM L) L zqf [(Qe z),(Qe A)] [] k=zrE L z A (fun z=>k (Qe z) []):=by kernel_rfl
abbrev zjF:=∀ (β:Type),Nat→Int→Int→(Int→Option β)→Option β
def xS(β:Type)(L:Nat)(A C:Int)(z:Int→Option β):Option β:=zrE L A C z
def zoz(xS:zjF)(L:Nat)(β:Type)(args:List V)(bor:Bor)(k:KK β):Option β:=match args,bor with
 | [a0,a1],[]=>aI .i64 a0 fun z=>aI .i64 a1 fun A=>xS β L z A (fun z=>k (Qe z) [])
 | _,_=>none
theorem zDb(L:Nat)(β:Type)(args:List V)(bor:Bor)(k:KK β)(r:β)(h:zoz xS L β args bor k=some r):yl zuh (ztM L) L zqf args bor k=some r:=by
 unfold zoz at h
 split at h
 ·have q:=yo h; clear h; obtain ⟨z,rfl,h⟩:=q
  have q:=yo h; clear h; obtain ⟨A,rfl,h⟩:=q
  exact (zDs L z A k).trans h
 ·cases h
def zia:CF:=⟨28,[.tmp 4],(.seq (.reg [Qh 4 (Qf 0)]) (.seq (.seq (.reg [Qh 5 (tq 0),Qs 6 247 [(Qw 5)],Qt 7 (tq 6)]) (.cond (tq 7) (.seq (.reg [Qh 4 (Qf 0)]) .ret) .skip)) (.seq (.reg [Qh 8 (tq 0),oo 9 (.nilCheck (tq 8)),Ql 10 1 (tq 9),Qj 11 1 (tq 10),Qp 12 .add (tq 11) (Qf 1),oo 13 (.nilCheck (tq 8)),Ql 14 1 (tq 13),Qm 1 (tq 14) (tq 12)]) (.seq (.dreg [] [(Qh 15 (tq 0),q0),(oo 16 (.nilCheck (tq 15)),q0),(Ql 17 0 (tq 16),q0),(Qj 18 1 (tq 17),ql 0 [] []),(Qh 19 (tq 0),q0),(oo 20 (.nilCheck (tq 19)),q0),(Ql 21 1 (tq 20),q0),(Qj 22 1 (tq 21),ql 0 [] []),(Qp 23 .sub (tq 22) (Qf 1),q0),(Qo 24 1 (tq 18) (tq 23),q0),(Qj 25 1 (tq 24),q0),(Qh 26 (tq 1),q0),(Qs 27 217 [(Qw 25),(Qw 26)],q0),(Qh 4 (tq 27),q0)]) .ret))))⟩
def zpo:Hint:=⟨[],[],[none,none,none],[],[],false,false,[]⟩
def zmt:Nat→Sh:=yT [(25,(.int .i64))]
def zl5(xY:zjx)(xS:zjF)(L:Nat):CBC:=(xy 217 (zoz xS L) (xy 247 (zi2 xY L) noC))
def zjD{β:Type}(xY:zjx)(xS:zjF)(L:Nat)(G:Int)(A:List (List V))(C:Int)(z:Int→List (List V)→Int→Option β):Option β:=xY β L A C (fun I D E=>ifb (!I) (z (0:Int) D E) (lt (QF .i64 ((E:Int)+(1:Int))) fun F=>lt (QF .i64 ((F:Int)-(1:Int))) fun J=>idx D J fun M=>cI .i64 M 0 fun N=>xS β L N G (fun O=>z O D F)))
theorem zwK{β:Type}(xY:zjx)(xS:zjF)(L:Nat)(C:Int)(z:List (List V))(A:Int)(k:KK β):yl zmt (zl5 xY xS L) L zia [(V.ptr 0 0),(Qe C)] [(.live false [(V.sl 1 z),(Qe A)])] k=zjD xY xS L C z A (fun D z A=>k (Qe D) [(.live false [(V.sl 1 z),(Qe A)])]):=by kernel_rfl
abbrev yN:=∀ (β:Type),Nat→Int→List (List V)→Int→(Int→List (List V)→Int→Option β)→Option β
def yd(β:Type)(L:Nat)(D:Int)(A:List (List V))(C:Int)(z:Int→List (List V)→Int→Option β):Option β:=zjD xY xS L D A C z
def zdN(yd:yN)(L:Nat)(β:Type)(args:List V)(bor:Bor)(k:KK β):Option β:=match args,bor with
 | [a0,a1],[(.live false [w0_0,w0_1])]=>aP 0 0 a0 (aI .i64 a1 fun C=>aL 1 w0_0 fun z=>aI .i64 w0_1 fun A=>yd β L C z A (fun D z A=>k (Qe D) [(.live false [(V.sl 1 z),(Qe A)])]))
 | _,_=>none
theorem zwE(L:Nat)(β:Type)(args:List V)(bor:Bor)(k:KK β)(r:β)(h:zdN yd L β args bor k=some r):yl zmt (zl5 xY xS L) L zia args bor k=some r:=by
 unfold zdN at h
 split at h
 ·have q:=zoD h; clear h; obtain ⟨rfl,h⟩:=q
  have q:=yo h; clear h; obtain ⟨C,rfl,h⟩:=q
  have q:=zaF h; clear h; obtain ⟨z,rfl,h⟩:=q
  have q:=yo h; clear h; obtain ⟨A,rfl,h⟩:=q
  exact (zwK xY xS L C z A k).trans h
 ·cases h
def zo9:CF:=⟨10,[.cell 2 true 32],(.seq (.reg [oo 2 (.alloc true (rp 32 (.sc (.int .u8 0)) []))]) (.seq (.reg [Qh 3 (tq 0),Qs 4 231 [(Qw 3),((Qf 5),0)],Qu 5 .u8 (tq 4),Qh 6 (tq 0),Qs 7 231 [(Qw 6),((Qf 7),0)],Qu 8 .u8 (tq 7),oo 9 (.build (rp 32 (.sc (.int .u8 0)) []) [(0,1,(tq 5)),(31,1,(tq 8))]),Qm 32 (tq 2) (tq 9)]) .ret))⟩
def zuv:Hint:=⟨[],[],[none],[],[],false,false,[]⟩
def zsK:Nat→Sh:=yT []
def zs7(yd:yN)(L:Nat):CBC:=(xy 231 (zdN yd L) noC)
def ztX{β:Type}(yd:yN)(L:Nat)(A:List (List V))(C:Int)(z:List V→List (List V)→Int→Option β):Option β:=yd β L (5:Int) A C (fun D E F=>lt (QF .u8 D) fun G=>yd β L (7:Int) E F (fun I J M=>lt (QF .u8 I) fun N=>lt ([(Qa G)]++We 30 (Qa (0:Int))++[(Qa N)]) fun r8=>chk (0=0∧(XI r8)=32∧32≠0) (z r8 J M)))
theorem zCg{β:Type}(yd:yN)(L:Nat)(z:List (List V))(A:Int)(k:KK β):yl zsK (zs7 yd L) L zo9 [(V.ptr 0 0)] [(.live false [(V.sl 1 z),(Qe A)])] k=ztX yd L z A (fun C z A=>k (V.agg C) [(.live false [(V.sl 1 z),(Qe A)])]):=by kernel_rfl
abbrev zdb:=∀ (β:Type),Nat→List (List V)→Int→(List V→List (List V)→Int→Option β)→Option β
def zB(β:Type)(L:Nat)(A:List (List V))(C:Int)(z:List V→List (List V)→Int→Option β):Option β:=ztX yd L A C z
def zqj(zB:zdb)(L:Nat)(β:Type)(args:List V)(bor:Bor)(k:KK β):Option β:=match args,bor with
 | [a0],[(.live false [w0_0,w0_1])]=>aP 0 0 a0 (aL 1 w0_0 fun z=>aI .i64 w0_1 fun A=>zB β L z A (fun C z A=>k (V.agg C) [(.live false [(V.sl 1 z),(Qe A)])]))
 | _,_=>none
theorem zBS(L:Nat)(β:Type)(args:List V)(bor:Bor)(k:KK β)(r:β)(h:zqj zB L β args bor k=some r):yl zsK (zs7 yd L) L zo9 args bor k=some r:=by
 unfold zqj at h
 split at h
 ·have q:=zoD h; clear h; obtain ⟨rfl,h⟩:=q
  have q:=zaF h; clear h; obtain ⟨z,rfl,h⟩:=q
  have q:=yo h; clear h; obtain ⟨A,rfl,h⟩:=q
  exact (zCg yd L z A k).trans h
 ·cases h
def zfa:CC:=(.seq (.reg [Qp 8 .lss (tq 7) (tq 6)]) (.seq (.cond (tq 8) .skip (.seq (.mask (bl 8 22) (bl 4194287 22)) (.exit 0))) (.seq (.block 1 (.seq (.reg [Qh 9 (tq 7),Qh 4 (tq 9)]) (.reg [Qh 10 (tq 3),Qh 11 (tq 0),Qh 12 (tq 4),Qo 13 1 (tq 11) (tq 12),Qj 14 1 (tq 13),Qu 15 .u64 (tq 14),Qh 16 (tq 4),Qp 17 .mul (Qf 8) (tq 16),Qp 18 .shl (tq 15) (tq 17),Qp 19 .or (tq 10) (tq 18),Qh 3 (tq 19)]))) (.reg [Qp 20 .add (tq 7) (Qf 1),Qh 7 (tq 20)]))))
def zn9:CC:=(.seq (.reg [Qh 21 (tq 3),Qh 2 (tq 21)]) .ret)
def zfF:CF:=⟨22,[.tmp 2],(.seq (.reg [oo 2 (.move (.const (.sc (.int .u64 0))) false)]) (.seq (.reg [oo 3 (.move (.const (.sc (.int .u64 0))) false)]) (.seq (.seq (.reg [Qh 5 (tq 0),Qr 6 (tq 5),Qh 7 (Qf 0)]) (.block 0 (.loop (bl 201 22) (bl 4194287 22) zfa))) zn9)))⟩
def ztD:Hint:=⟨[],[],[none,some ((bl 201 22),(bl 4194287 22)),none,some ((bl 8 22),(bl 4194287 22)),none,none],[],[],false,false,[]⟩
def zc9:Nat→Sh:=yT [(14,(.int .u8))]
def zc8(L:Nat):CBC:=noC
def zh7:St→St:=zbd 0 (bl 201 22) (bl 4194287 22)
def zfW(z:List (List V))(A C D:Int):St:=⟨((V.sl 1 z)::(jn 2 ((Qd A)::(jn 2 ((Qe C)::((Qe D)::(jn 14 []))))))),(gn 22 [])⟩
def znf(z:Int):St:=⟨(jn 3 ((Qd z)::(jn 18 []))),(gn 22 [])⟩
def zr8{β:Type}(L:Nat)(A:List (List V))(z:List (List V)→Int→Int→Int→Option β):Option β:=z A (0:Int) ((XI A:Nat):Int) (0:Int)
theorem zAR{β:Type}(L:Nat)(z:List (List V))(k:KK β):yl zc9 (zc8 L) L zfF [(V.sl 1 z)] [] k=zr8 L z (fun z A C D=>xE (xi zc9 (zc8 L) 0 L zfa) zh7 L (zfW z A C D) (zF 0 (zQ (xi zc9 (zc8 L) 0 L zn9) (xW 0 (CF.res zfF) k)))):=by kernel_rfl
def zmc{β:Type}(L:Nat)(D:List (List V))(E F A:Int)(z:List (List V)→Int→Int→Int→Option β)(C:Int→Option β):Option β:=ifb (decide (A<F)) (idx D A fun c0=>cI .u8 c0 0 fun I=>lt (QF .u64 I) fun J=>lt (QF .i64 (((8:Int):Int)*A)) fun G=>chk (0≤G) (lt (zuk .u64 J G) fun M=>lt (ior .u64 E M) fun N=>lt (QF .i64 ((A:Int)+(1:Int))) fun O=>z D N F O)) (C E)
theorem zv5{β:Type}(L:Nat)(A:List (List V))(z C D:Int)(X:St→Option β)(K:KT β):xi zc9 (zc8 L) 0 L zfa (zfW A z C D) (zcz zh7 X K)=zmc L A z C D (fun A z C D=>X (zfW A z C D)) (fun z=>K (.exit 0) (znf z)):=by kernel_rfl
def zpv{β:Type}(L:Nat)(A:Int)(z:Int→Option β):Option β:=z A
theorem zui{β:Type}(L:Nat)(z:Int)(k:KK β):(zF 0 (zQ (xi zc9 (zc8 L) 0 L zn9) (xW 0 (CF.res zfF) k))) (.exit 0) (znf z)=zpv L z (fun A=>k (Qd A) []):=by kernel_rfl
def zfL{β:Type}(L:Nat)(z:Int→Option β):Nat→List (List V)→Int→Int→Int→Option β
 | 0,_,_,_,_=>none
 | n+1,A,C,D,E=>zmc L A C D E (fun A C D E=>zfL L z n A C D E) z
theorem zo3{β:Type}(L:Nat)(K:KT β):∀ (n:Nat) (A:List (List V)) (z C D:Int),xE (xi zc9 (zc8 L) 0 L zfa) zh7 n (zfW A z C D) K=zfL L (fun z=>K (.exit 0) (znf z)) n A z C D:=by
 intro n
 induction n with
 | zero=>intros; rfl
 | succ n ih=>
  intro A z C D
  refine (zv5 L A z C D (fun σ=>xE (xi zc9 (zc8 L) 0 L zfa) zh7 n σ K) K).trans ?_
  simp only [ih]
  rfl
def zo0{β:Type}(L:Nat)(A:List (List V))(z:Int→Option β):Option β:=zr8 L A (fun A C D E=>zfL L (fun C=>zpv L C z) L A C D E)
theorem zAs{β:Type}(L:Nat)(z:List (List V))(k:KK β):yl zc9 (zc8 L) L zfF [(V.sl 1 z)] [] k=zo0 L z (fun z=>k (Qd z) []):=by
 refine (zAR L z k).trans ?_
 unfold zo0
 first
  | (simp only [zo3,zui]; done)
  | (simp only [zo3]; rfl)
abbrev zbj:=∀ (β:Type),Nat→List (List V)→(Int→Option β)→Option β
def xm(β:Type)(L:Nat)(A:List (List V))(z:Int→Option β):Option β:=zo0 L A z
def zlC(xm:zbj)(L:Nat)(β:Type)(args:List V)(bor:Bor)(k:KK β):Option β:=match args,bor with
 | [a0],[]=>aL 1 a0 fun z=>xm β L z (fun z=>k (Qd z) [])
 | _,_=>none
theorem zBh(L:Nat)(β:Type)(args:List V)(bor:Bor)(k:KK β)(r:β)(h:zlC xm L β args bor k=some r):yl zc9 (zc8 L) L zfF args bor k=some r:=by
 unfold zlC at h
 split at h
 ·have q:=zaF h; clear h; obtain ⟨z,rfl,h⟩:=q
  exact (zAs L z k).trans h
 ·cases h
def zoO:CF:=⟨8,[.cell 2 true 2],(.seq (.reg [Qv 1 (tq 0),oo 2 (.alloc true [(.sc (.int .u64 0)),(.sc (.int .u64 0))])]) (.seq (.dreg [1] [(oo 3 (.sliceA 32 1 (tq 1) none (some (Qf 8)) none),q1),(Qs 4 115 [(Qw 3)],q1),(oo 5 (.sliceA 32 1 (tq 1) (some (Qf 8)) (some (Qf 16)) none),q1),(Qs 6 115 [(Qw 5)],q0),(oo 7 (.build [(.sc (.int .u64 0)),(.sc (.int .u64 0))] [(0,1,(tq 4)),(1,1,(tq 6))]),q0),(Qm 2 (tq 2) (tq 7),q0)]) .ret))⟩
def zuI:Hint:=⟨[],[],[none],[(1,[1])],[],false,false,[]⟩
def zsZ:Nat→Sh:=yT []
def zsm(xm:zbj)(L:Nat):CBC:=(xy 115 (zlC xm L) noC)
def ztO{β:Type}(xm:zbj)(L:Nat)(C:List V)(z:List V→Option β):Option β:=lc C (none) (fun h0 A=>chk (0+32*1≤(XI (h0::A))) (xm β L (ye 1 8 (h0::A)) (fun D=>chk (0+32*1≤(XI (h0::A))) (xm β L (ye 1 8 (XL 8 (h0::A))) (fun E=>lt [(Qd D),(Qd E)] fun r4=>chk (0=0∧(XI r4)=2∧2≠0) (z r4))))))
theorem zB0{β:Type}(xm:zbj)(L:Nat)(z:List V)(k:KK β):yl zsZ (zsm xm L) L zoO [(V.agg z)] [] k=ztO xm L z (fun z=>k (V.agg z) []):=by kernel_rfl
abbrev zh3:=∀ (β:Type),Nat→List V→(List V→Option β)→Option β
def zT(β:Type)(L:Nat)(A:List V)(z:List V→Option β):Option β:=ztO xm L A z
def zmM(zT:zh3)(L:Nat)(β:Type)(args:List V)(bor:Bor)(k:KK β):Option β:=match args,bor with
 | [a0],[]=>aG a0 fun z=>zT β L z (fun z=>k (V.agg z) [])
 | _,_=>none
theorem zBP(L:Nat)(β:Type)(args:List V)(bor:Bor)(k:KK β)(r:β)(h:zmM zT L β args bor k=some r):yl zsZ (zsm xm L) L zoO args bor k=some r:=by
 unfold zmM at h
 split at h
 ·have q:=xM h; clear h; obtain ⟨z,rfl,h⟩:=q
  exact (zB0 xm L z k).trans h
 ·cases h
def zeh:CC:=(.seq (.reg [Qp 12 .lss (tq 11) (tq 10)]) (.seq (.cond (tq 12) .skip (.seq (.mask (bl 32 24) (bl 16777151 24)) (.exit 0))) (.seq (.block 1 (.seq (.reg [Qh 13 (tq 11),Qh 6 (tq 13)]) (.reg [Qh 14 (tq 5),Qh 15 (tq 6),Qh 16 (tq 0),Qh 17 (tq 6),Qp 18 .mul (Qf 8) (tq 17),Qp 19 .shr (tq 16) (tq 18),Qu 20 .u8 (tq 19),Qo 21 1 (tq 14) (tq 15),Qm 1 (tq 21) (tq 20)]))) (.reg [Qp 22 .add (tq 11) (Qf 1),Qh 11 (tq 22)]))))
def zl6:CC:=(.seq (.reg [Qi 23 (tq 5),Qi 4 (tq 23)]) .ret)
def zd7:CF:=⟨24,[.tmp 4],(.seq (.reg [Qi 4 (.const (.gs 1 []))]) (.seq (.reg [Qh 7 (tq 1),⟨(some 8),true,none,.makeSlice 1 1 [(.sc (.int .u8 0))] (tq 7) (tq 7)⟩,Qi 5 (tq 8)]) (.seq (.seq (.reg [Qh 9 (tq 5),Qr 10 (tq 9),Qh 11 (Qf 0)]) (.block 0 (.loop (bl 3105 24) (bl 16777151 24) zeh))) zl6)))⟩
def zrC:Hint:=⟨[(0,0),(1,2),(7,0),(7,1)],[(1,1)],[none,some ((bl 3105 24),(bl 16777151 24)),none,some ((bl 32 24),(bl 16777151 24)),none,none],[],[],false,false,[]⟩
def zce:Nat→Sh:=yT []
def zch(L:Nat):CBC:=noC
def zgW:St→St:=zbd 0 (bl 3105 24) (bl 16777151 24)
def ze4(D:Int)(z:Nat)(A C:Int)(E:List V):St:=⟨((Qd D)::(jn 4 ((V.own 8 0 z 1)::(jn 4 ((Qe A)::((Qe C)::(jn 12 []))))))),(gn 8 ((.live true E)::(gn 15 [])))⟩
def zkX(z:Nat)(A:List V):St:=⟨(jn 5 ((V.own 8 0 z 1)::(jn 18 []))),(gn 8 ((.live true A)::(gn 15 [])))⟩
def zvd{β:Type}(L:Nat)(C z:Int)(A:Int→Nat→Int→Int→List V→Option β):Option β:=chk (0≤z∧z≤z∧(XJ z)*1≤yr∧z≤yr) (A C (XJ z) (((XJ z):Nat):Int) (0:Int) (XM (We (XJ z) [(Qa (0:Int))])))
theorem zyH{β:Type}(L:Nat)(z A:Int)(k:KK β):yl zce (zch L) L zd7 [(Qd z),(Qe A)] [] k=zvd L z A (fun z C D E F=>xE (xi zce (zch L) 0 L zeh) zgW L (ze4 z C D E F) (zF 0 (zQ (xi zce (zch L) 0 L zl6) (xW 0 (CF.res zd7) k)))):=by kernel_rfl
def zpn{β:Type}(L:Nat)(G:Int)(C:Nat)(D z:Int)(E:List V)(A:Int→Nat→Int→Int→List V→Option β)(F:Nat→List V→Option β):Option β:=ifb (decide (z<D)) (lt (QF .i64 (((8:Int):Int)*z)) fun I=>chk (0≤I) (lt (zpT .u64 G I) fun J=>lt (QF .u8 J) fun M=>chk (0≤z∧z<((C:Nat):Int)) (chk (1=1∧(0+((XJ z)*1))+1≤(XI E)) (lt (xd E (0+((XJ z)*1)) [(Qa M)]) fun r3=>lt (QF .i64 ((z:Int)+(1:Int))) fun N=>A G C D N r3)))) (F C E)
theorem zt9{β:Type}(L:Nat)(E:Int)(z:Nat)(A C:Int)(D:List V)(X:St→Option β)(K:KT β):xi zce (zch L) 0 L zeh (ze4 E z A C D) (zcz zgW X K)=zpn L E z A C D (fun E z A C D=>X (ze4 E z A C D)) (fun z D=>K (.exit 0) (zkX z D)):=by kernel_rfl
def znM{β:Type}(L:Nat)(A:Nat)(C:List V)(z:List (List V)→Option β):Option β:=chk (A≠0∨(XI C)=0) (z (ye 1 A C))
theorem zsX{β:Type}(L:Nat)(z:Nat)(A:List V)(k:KK β):(zF 0 (zQ (xi zce (zch L) 0 L zl6) (xW 0 (CF.res zd7) k))) (.exit 0) (zkX z A)=znM L z A (fun C=>k (V.fr 1 C) []):=by kernel_rfl
def zkf{β:Type}(L:Nat)(z:Nat→List V→Option β):Nat→Int→Nat→Int→Int→List V→Option β
 | 0,_,_,_,_,_=>none
 | n+1,E,A,C,D,F=>zpn L E A C D F (fun E A C D F=>zkf L z n E A C D F) z
theorem zmx{β:Type}(L:Nat)(K:KT β):∀ (n:Nat) (E:Int) (z:Nat) (A C:Int) (D:List V),xE (xi zce (zch L) 0 L zeh) zgW n (ze4 E z A C D) K=zkf L (fun z D=>K (.exit 0) (zkX z D)) n E z A C D:=by
 intro n
 induction n with
 | zero=>intros; rfl
 | succ n ih=>
  intro E z A C D
  refine (zt9 L E z A C D (fun σ=>xE (xi zce (zch L) 0 L zeh) zgW n σ K) K).trans ?_
  simp only [ih]
  rfl
def zpH{β:Type}(L:Nat)(C G:Int)(A:List (List V)→Option β):Option β:=zvd L C G (fun C z E F D=>zkf L (fun z D=>znM L z D A) L C z E F D)
theorem zyt{β:Type}(L:Nat)(z A:Int)(k:KK β):yl zce (zch L) L zd7 [(Qd z),(Qe A)] [] k=zpH L z A (fun z=>k (V.fr 1 z) []):=by
 refine (zyH L z A k).trans ?_
 unfold zpH
 first
  | (simp only [zmx,zsX]; done)
  | (simp only [zmx]; rfl)
abbrev zeO:=∀ (β:Type),Nat→Int→Int→(List (List V)→Option β)→Option β
def zI(β:Type)(L:Nat)(A C:Int)(z:List (List V)→Option β):Option β:=zpH L A C z
def ziO(zI:zeO)(L:Nat)(β:Type)(args:List V)(bor:Bor)(k:KK β):Option β:=match args,bor with
 | [a0,a1],[]=>aI .u64 a0 fun z=>aI .i64 a1 fun A=>zI β L z A (fun z=>k (V.fr 1 z) [])
 | _,_=>none
theorem zys(L:Nat)(β:Type)(args:List V)(bor:Bor)(k:KK β)(r:β)(h:ziO zI L β args bor k=some r):yl zce (zch L) L zd7 args bor k=some r:=by
 unfold ziO at h
 split at h
 ·have q:=yo h; clear h; obtain ⟨z,rfl,h⟩:=q
  have q:=yo h; clear h; obtain ⟨A,rfl,h⟩:=q
  exact (zyt L z A k).trans h
 ·cases h
def zkw:CF:=⟨17,[.tmp 4],(.seq (.reg [Qi 4 (.const (.gs 1 []))]) (.seq (.reg [Qh 6 (tq 0),Qr 7 (tq 6),Qh 8 (tq 1),Qr 9 (tq 8),Qp 10 .add (tq 7) (tq 9),oo 11 (.makeSlice 1 1 [(.sc (.int .u8 0))] (Qf 0) (tq 10)),Qi 5 (tq 11)]) (.seq (.reg [Qi 12 (tq 5),Qh 13 (tq 0),oo 14 (.append 1 1 (tq 12) (tq 13)),Qh 15 (tq 1),oo 16 (.append 1 1 (tq 14) (tq 15)),Qi 4 (tq 16)]) .ret)))⟩
def zry:Hint:=⟨[(0,0),(1,6),(2,0),(2,5)],[],[none],[],[],false,false,[]⟩
def zoQ:Nat→Sh:=yT []
def zoX(L:Nat):CBC:=noC
def zp3{β:Type}(L:Nat)(z A:List (List V))(C:List (List V)→Option β):Option β:=lt (QF .i64 ((((XI z:Nat):Int):Int)+((XI A:Nat):Int))) fun D=>chk (0≤(0:Int)∧(0:Int)≤D∧(XJ D)*1≤yr∧D≤yr) (chk ((XI (We 0 [(Qa (0:Int))])+XI z)*1≤yr∧XI (We 0 [(Qa (0:Int))])+XI z≤yr) (lt ((We 0 [(Qa (0:Int))])++z) fun E=>chk ((XI E+XI A)*1≤yr∧XI E+XI A≤yr) (lt (E++A) fun F=>C F)))
theorem zyq{β:Type}(L:Nat)(z A:List (List V))(k:KK β):yl zoQ (zoX L) L zkw [(V.sl 1 z),(V.sl 1 A)] [] k=zp3 L z A (fun z=>k (V.gs 1 z) []):=by kernel_rfl
abbrev zeU:=∀ (β:Type),Nat→List (List V)→List (List V)→(List (List V)→Option β)→Option β
def yI(β:Type)(L:Nat)(A C:List (List V))(z:List (List V)→Option β):Option β:=zp3 L A C z
def ziK(yI:zeU)(L:Nat)(β:Type)(args:List V)(bor:Bor)(k:KK β):Option β:=match args,bor with
 | [a0,a1],[]=>aL 1 a0 fun z=>aL 1 a1 fun A=>yI β L z A (fun z=>k (V.gs 1 z) [])
 | _,_=>none
theorem zyA(L:Nat)(β:Type)(args:List V)(bor:Bor)(k:KK β)(r:β)(h:ziK yI L β args bor k=some r):yl zoQ (zoX L) L zkw args bor k=some r:=by
 unfold ziK at h
 split at h
 ·have q:=zaF h; clear h; obtain ⟨z,rfl,h⟩:=q
  have q:=zaF h; clear h; obtain ⟨A,rfl,h⟩:=q
  exact (zyq L z A k).trans h
 ·cases h
def zhA:CF:=⟨10,[.tmp 4],(.seq (.reg [Qi 4 (.const (.gs 1 []))]) (.seq (.reg [Qh 5 (tq 0),Qh 6 (tq 1),Qu 7 .u64 (tq 6),Qs 8 194 [(Qw 7),((Qf 4),0)],Qs 9 193 [(Qw 5),(Qw 8)],Qi 4 (tq 9)]) .ret))⟩
def zoE:Hint:=⟨[(0,0),(1,5)],[],[none],[],[],false,false,[]⟩
def zlk:Nat→Sh:=yT []
def zlu(zI:zeO)(yI:zeU)(L:Nat):CBC:=(xy 193 (ziK yI L) (xy 194 (ziO zI L) noC))
def zme{β:Type}(zI:zeO)(yI:zeU)(L:Nat)(A:List (List V))(C:Int)(z:List (List V)→Option β):Option β:=lt (QF .u64 C) fun D=>zI β L D (4:Int) (fun E=>yI β L A E (fun F=>z F))
theorem zv8{β:Type}(zI:zeO)(yI:zeU)(L:Nat)(z:List (List V))(A:Int)(k:KK β):yl zlk (zlu zI yI L) L zhA [(V.sl 1 z),(Qc A)] [] k=zme zI yI L z A (fun z=>k (V.gs 1 z) []):=by kernel_rfl
abbrev zdq:=∀ (β:Type),Nat→List (List V)→Int→(List (List V)→Option β)→Option β
def yw(β:Type)(L:Nat)(A:List (List V))(C:Int)(z:List (List V)→Option β):Option β:=zme zI yI L A C z
def zfT(yw:zdq)(L:Nat)(β:Type)(args:List V)(bor:Bor)(k:KK β):Option β:=match args,bor with
 | [a0,a1],[]=>aL 1 a0 fun z=>aI .u32 a1 fun A=>yw β L z A (fun z=>k (V.gs 1 z) [])
 | _,_=>none
theorem zv7(L:Nat)(β:Type)(args:List V)(bor:Bor)(k:KK β)(r:β)(h:zfT yw L β args bor k=some r):yl zlk (zlu zI yI L) L zhA args bor k=some r:=by
 unfold zfT at h
 split at h
 ·have q:=zaF h; clear h; obtain ⟨z,rfl,h⟩:=q
  have q:=yo h; clear h; obtain ⟨A,rfl,h⟩:=q
  exact (zv8 zI yI L z A k).trans h
 ·cases h
def zhJ:CF:=⟨10,[.tmp 4],(.seq (.reg [Qi 4 (.const (.gs 1 []))]) (.seq (.reg [Qh 5 (tq 0),Qh 6 (tq 1),Qu 7 .u64 (tq 6),Qs 8 194 [(Qw 7),((Qf 2),0)],Qs 9 193 [(Qw 5),(Qw 8)],Qi 4 (tq 9)]) .ret))⟩
def zoG:Hint:=⟨[(0,0),(1,5)],[],[none],[],[],false,false,[]⟩
def zlj:Nat→Sh:=yT []
def zls(zI:zeO)(yI:zeU)(L:Nat):CBC:=(xy 193 (ziK yI L) (xy 194 (ziO zI L) noC))
def zmr{β:Type}(zI:zeO)(yI:zeU)(L:Nat)(A:List (List V))(C:Int)(z:List (List V)→Option β):Option β:=lt (QF .u64 C) fun D=>zI β L D (2:Int) (fun E=>yI β L A E (fun F=>z F))
theorem zvM{β:Type}(zI:zeO)(yI:zeU)(L:Nat)(z:List (List V))(A:Int)(k:KK β):yl zlj (zls zI yI L) L zhJ [(V.sl 1 z),(Qb A)] [] k=zmr zI yI L z A (fun z=>k (V.gs 1 z) []):=by kernel_rfl
abbrev zif:=∀ (β:Type),Nat→List (List V)→Int→(List (List V)→Option β)→Option β
def zV(β:Type)(L:Nat)(A:List (List V))(C:Int)(z:List (List V)→Option β):Option β:=zmr zI yI L A C z
def zim(zV:zif)(L:Nat)(β:Type)(args:List V)(bor:Bor)(k:KK β):Option β:=match args,bor with
 | [a0,a1],[]=>aL 1 a0 fun z=>aI .u16 a1 fun A=>zV β L z A (fun z=>k (V.gs 1 z) [])
 | _,_=>none
theorem zvg(L:Nat)(β:Type)(args:List V)(bor:Bor)(k:KK β)(r:β)(h:zim zV L β args bor k=some r):yl zlj (zls zI yI L) L zhJ args bor k=some r:=by
 unfold zim at h
 split at h
 ·have q:=zaF h; clear h; obtain ⟨z,rfl,h⟩:=q
  have q:=yo h; clear h; obtain ⟨A,rfl,h⟩:=q
  exact (zvM zI yI L z A k).trans h
 ·cases h
def zlN:CF:=⟨64,[.cell 2 true 4],(.seq (.reg [Qv 1 (tq 0),oo 2 (.alloc true [(.sc (.int .u64 0)),(.sc (.int .u64 0)),(.sc (.int .u64 0)),(.sc (.int .u64 0))])]) (.seq (.reg [Qn 3 4 1 (tq 1) (Qf 0),Qj 4 1 (tq 3),Qn 5 4 1 (tq 1) (Qf 1),Qj 6 1 (tq 5),Qp 7 .add (tq 4) (tq 6),Qn 8 4 1 (tq 1) (Qf 0),Qm 1 (tq 8) (tq 7)]) (.seq (.dreg [] [(Qn 9 4 1 (tq 1) (Qf 1),q0),(Qj 10 1 (tq 9),q1),(Qs 11 118 [(Qw 10),((Qf 13),0)],q1),(Qn 12 4 1 (tq 1) (Qf 0),q0),(Qj 13 1 (tq 12),q1),(Qp 14 .xor (tq 11) (tq 13),q0),(Qn 15 4 1 (tq 1) (Qf 1),q0),(Qm 1 (tq 15) (tq 14),q0)]) (.seq (.reg [Qn 16 4 1 (tq 1) (Qf 0),Qj 17 1 (tq 16),Qs 18 118 [(Qw 17),((Qf 32),0)],Qn 19 4 1 (tq 1) (Qf 0),Qm 1 (tq 19) (tq 18)]) (.seq (.reg [Qn 20 4 1 (tq 1) (Qf 2),Qj 21 1 (tq 20),Qn 22 4 1 (tq 1) (Qf 3),Qj 23 1 (tq 22),Qp 24 .add (tq 21) (tq 23),Qn 25 4 1 (tq 1) (Qf 2),Qm 1 (tq 25) (tq 24)]) (.seq (.dreg [] [(Qn 26 4 1 (tq 1) (Qf 3),q0),(Qj 27 1 (tq 26),q1),(Qs 28 118 [(Qw 27),((Qf 16),0)],q1),(Qn 29 4 1 (tq 1) (Qf 2),q0),(Qj 30 1 (tq 29),q1),(Qp 31 .xor (tq 28) (tq 30),q0),(Qn 32 4 1 (tq 1) (Qf 3),q0),(Qm 1 (tq 32) (tq 31),q0)]) (.seq (.reg [Qn 33 4 1 (tq 1) (Qf 0),Qj 34 1 (tq 33),Qn 35 4 1 (tq 1) (Qf 3),Qj 36 1 (tq 35),Qp 37 .add (tq 34) (tq 36),Qn 38 4 1 (tq 1) (Qf 0),Qm 1 (tq 38) (tq 37)]) (.seq (.dreg [] [(Qn 39 4 1 (tq 1) (Qf 3),q0),(Qj 40 1 (tq 39),q1),(Qs 41 118 [(Qw 40),((Qf 21),0)],q1),(Qn 42 4 1 (tq 1) (Qf 0),q0),(Qj 43 1 (tq 42),q1),(Qp 44 .xor (tq 41) (tq 43),q0),(Qn 45 4 1 (tq 1) (Qf 3),q0),(Qm 1 (tq 45) (tq 44),q0)]) (.seq (.reg [Qn 46 4 1 (tq 1) (Qf 2),Qj 47 1 (tq 46),Qn 48 4 1 (tq 1) (Qf 1),Qj 49 1 (tq 48),Qp 50 .add (tq 47) (tq 49),Qn 51 4 1 (tq 1) (Qf 2),Qm 1 (tq 51) (tq 50)]) (.seq (.dreg [] [(Qn 52 4 1 (tq 1) (Qf 1),q0),(Qj 53 1 (tq 52),q1),(Qs 54 118 [(Qw 53),((Qf 17),0)],q1),(Qn 55 4 1 (tq 1) (Qf 2),q0),(Qj 56 1 (tq 55),q1),(Qp 57 .xor (tq 54) (tq 56),q0),(Qn 58 4 1 (tq 1) (Qf 1),q0),(Qm 1 (tq 58) (tq 57),q0)]) (.seq (.reg [Qn 59 4 1 (tq 1) (Qf 2),Qj 60 1 (tq 59),Qs 61 118 [(Qw 60),((Qf 32),0)],Qn 62 4 1 (tq 1) (Qf 2),Qm 1 (tq 62) (tq 61)]) (.seq (.reg [Qk 63 4 (tq 1),Qm 4 (tq 2) (tq 63)]) .ret))))))))))))⟩
def zsN:Hint:=⟨[],[],[none],[],[],false,false,[]⟩
def zpK:Nat→Sh:=yT [(4,(.int .u64)),(6,(.int .u64)),(10,(.int .u64)),(13,(.int .u64)),(17,(.int .u64)),(21,(.int .u64)),(23,(.int .u64)),(27,(.int .u64)),(30,(.int .u64)),(34,(.int .u64)),(36,(.int .u64)),(40,(.int .u64)),(43,(.int .u64)),(47,(.int .u64)),(49,(.int .u64)),(53,(.int .u64)),(56,(.int .u64)),(60,(.int .u64))]
def zpI(zc:zL)(L:Nat):CBC:=(xy 118 (zcV zc L) noC)
def zq1{β:Type}(zc:zL)(L:Nat)(J:List V)(M:List V→Option β):Option β:=cI .u64 J 0 fun v0=>cI .u64 J 1 fun v1=>lt (QF .u64 ((v0:Int)+v1)) fun x2=>chk (1=1∧0+1≤(XI J)) (lt (xd J 0 [(Qd x2)]) fun r3=>cI .u64 r3 1 fun v4=>zc β L v4 (13:Int) (fun v5=>cI .u64 r3 0 fun v6=>lt (zbs .u64 v5 v6) fun x7=>chk (1=1∧1+1≤(XI r3)) (lt (xd r3 1 [(Qd x7)]) fun r8=>cI .u64 r8 0 fun v9=>zc β L v9 (32:Int) (fun O=>chk (1=1∧0+1≤(XI r8)) (lt (xd r8 0 [(Qd O)]) fun z=>cI .u64 z 2 fun P=>cI .u64 z 3 fun Q=>lt (QF .u64 ((P:Int)+Q)) fun R=>chk (1=1∧2+1≤(XI z)) (lt (xd z 2 [(Qd R)]) fun A=>cI .u64 A 3 fun S=>zc β L S (16:Int) (fun U=>cI .u64 A 2 fun W=>lt (zbs .u64 U W) fun X=>chk (1=1∧3+1≤(XI A)) (lt (xd A 3 [(Qd X)]) fun C=>cI .u64 C 0 fun Y=>cI .u64 C 3 fun Z=>lt (QF .u64 ((Y:Int)+Z)) fun aa=>chk (1=1∧0+1≤(XI C)) (lt (xd C 0 [(Qd aa)]) fun D=>cI .u64 D 3 fun ab=>zc β L ab (21:Int) (fun ac=>cI .u64 D 0 fun ad=>lt (zbs .u64 ac ad) fun ae=>chk (1=1∧3+1≤(XI D)) (lt (xd D 3 [(Qd ae)]) fun E=>cI .u64 E 2 fun af=>cI .u64 E 1 fun ag=>lt (QF .u64 ((af:Int)+ag)) fun ah=>chk (1=1∧2+1≤(XI E)) (lt (xd E 2 [(Qd ah)]) fun F=>cI .u64 F 1 fun ai=>zc β L ai (17:Int) (fun aj=>cI .u64 F 2 fun ak=>lt (zbs .u64 aj ak) fun al=>chk (1=1∧1+1≤(XI F)) (lt (xd F 1 [(Qd al)]) fun G=>cI .u64 G 2 fun am=>zc β L am (32:Int) (fun an=>chk (1=1∧2+1≤(XI G)) (lt (xd G 2 [(Qd an)]) fun I=>chk (0+4≤(XI I)) (chk ((XI (XK 4 I))=4∧0+4≤4) (lt (xd [(Qd (0:Int)),(Qd (0:Int)),(Qd (0:Int)),(Qd (0:Int))] 0 (XK 4 I)) fun N=>chk (0=0∧(XI N)=4∧4≠0) (M N)))))))))))))))))))
theorem zzw{β:Type}(zc:zL)(L:Nat)(z:List V)(k:KK β):yl zpK (zpI zc L) L zlN [(V.agg z)] [] k=zq1 zc L z (fun z=>k (V.agg z) []):=by kernel_rfl
abbrev zaT:=∀ (β:Type),Nat→List V→(List V→Option β)→Option β
def xj(β:Type)(L:Nat)(A:List V)(z:List V→Option β):Option β:=zq1 zc L A z
def zjP(xj:zaT)(L:Nat)(β:Type)(args:List V)(bor:Bor)(k:KK β):Option β:=match args,bor with
 | [a0],[]=>aG a0 fun z=>xj β L z (fun z=>k (V.agg z) [])
 | _,_=>none
theorem zzC(L:Nat)(β:Type)(args:List V)(bor:Bor)(k:KK β)(r:β)(h:zjP xj L β args bor k=some r):yl zpK (zpI zc L) L zlN args bor k=some r:=by
 unfold zjP at h
 split at h
 ·have q:=xM h; clear h; obtain ⟨z,rfl,h⟩:=q
  exact (zzw zc L z k).trans h
 ·cases h
def zkL:CF:=⟨19,[.cell 4 true 4],(.seq (.reg [Qv 2 (tq 0),oo 4 (.alloc true [(.sc (.int .u64 0)),(.sc (.int .u64 0)),(.sc (.int .u64 0)),(.sc (.int .u64 0))])]) (.seq (.reg [Qn 5 4 1 (tq 2) (Qf 3),Qj 6 1 (tq 5),Qh 7 (tq 1),Qp 8 .xor (tq 6) (tq 7),Qn 9 4 1 (tq 2) (Qf 3),Qm 1 (tq 9) (tq 8)]) (.seq (.reg [Qk 10 4 (tq 2),Qs 11 116 [(Qw 10)],Qs 12 116 [(Qw 11)],Qm 4 (tq 2) (tq 12)]) (.seq (.reg [Qn 13 4 1 (tq 2) (Qf 0),Qj 14 1 (tq 13),Qh 15 (tq 1),Qp 16 .xor (tq 14) (tq 15),Qn 17 4 1 (tq 2) (Qf 0),Qm 1 (tq 17) (tq 16)]) (.seq (.reg [Qk 18 4 (tq 2),Qm 4 (tq 4) (tq 18)]) .ret)))))⟩
def zrz:Hint:=⟨[],[],[none],[],[],false,false,[]⟩
def zow:Nat→Sh:=yT [(6,(.int .u64)),(14,(.int .u64))]
def zoM(xj:zaT)(L:Nat):CBC:=(xy 116 (zjP xj L) noC)
def zp0{β:Type}(xj:zaT)(L:Nat)(A:List V)(C:Int)(z:List V→Option β):Option β:=cI .u64 A 3 fun E=>lt (zbs .u64 E C) fun F=>chk (1=1∧3+1≤(XI A)) (lt (xd A 3 [(Qd F)]) fun r2=>chk (0+4≤(XI r2)) (xj β L (XK 4 r2) (fun G=>xj β L G (fun D=>chk ((XI D)=4∧0+4≤(XI r2)) (lt (xd r2 0 D) fun r5=>cI .u64 r5 0 fun I=>lt (zbs .u64 I C) fun J=>chk (1=1∧0+1≤(XI r5)) (lt (xd r5 0 [(Qd J)]) fun r8=>chk (0+4≤(XI r8)) (chk ((XI (XK 4 r8))=4∧0+4≤4) (lt (xd [(Qd (0:Int)),(Qd (0:Int)),(Qd (0:Int)),(Qd (0:Int))] 0 (XK 4 r8)) fun r9=>chk (0=0∧(XI r9)=4∧4≠0) (z r9)))))))))
theorem zyT{β:Type}(xj:zaT)(L:Nat)(z:List V)(A:Int)(k:KK β):yl zow (zoM xj L) L zkL [(V.agg z),(Qd A)] [] k=zp0 xj L z A (fun z=>k (V.agg z) []):=by kernel_rfl
abbrev zbz:=∀ (β:Type),Nat→List V→Int→(List V→Option β)→Option β
def yq(β:Type)(L:Nat)(A:List V)(C:Int)(z:List V→Option β):Option β:=zp0 xj L A C z
def zlP(yq:zbz)(L:Nat)(β:Type)(args:List V)(bor:Bor)(k:KK β):Option β:=match args,bor with
 | [a0,a1],[]=>aG a0 fun z=>aI .u64 a1 fun A=>yq β L z A (fun z=>k (V.agg z) [])
 | _,_=>none
theorem zyK(L:Nat)(β:Type)(args:List V)(bor:Bor)(k:KK β)(r:β)(h:zlP yq L β args bor k=some r):yl zow (zoM xj L) L zkL args bor k=some r:=by
 unfold zlP at h
 split at h
 ·have q:=xM h; clear h; obtain ⟨z,rfl,h⟩:=q
  have q:=yo h; clear h; obtain ⟨A,rfl,h⟩:=q
  exact (zyT xj L z A k).trans h
 ·cases h
def zfJ:CC:=(.seq (.seq (.reg [Qh 22 (tq 1),Qr 23 (tq 22),Qp 24 .geq (tq 23) (Qf 8)]) (.cond (tq 24) .skip (.seq (.mask (bl 98 61) (bl 2305843008399998971 61)) (.exit 0)))) (.block 1 (.dreg [] [(Qk 25 4 (tq 5),ql 5 [] []),(Qh 26 (tq 1),q0),(oo 27 (.sliceS 1 (tq 26) none (some (Qf 8)) none),q0),(Qs 28 115 [(Qw 27)],qc [5] []),(Qs 29 114 [(Qw 25),(Qw 28)],q0),(Qh 30 (tq 1),q0),(oo 31 (.sliceS 1 (tq 30) (some (Qf 8)) none none),q0),(Qm 4 (tq 5) (tq 29),q0),(Qi 1 (tq 31),q0)])))
def zox:CC:=(.seq (.dreg [] [(Qk 32 4 (tq 5),ql 5 [] []),(Qh 33 (tq 1),q0),(Qs 34 115 [(Qw 33)],qc [5] []),(Qh 35 (tq 6),q0),(Qp 36 .rem (tq 35) (Qf 256),q0),(Qu 37 .u64 (tq 36),q0),(oo 38 (.bin .shl (tq 37) (.const (.sc (.int .u64 56)))),q0),(Qp 39 .or (tq 34) (tq 38),q0),(Qs 40 114 [(Qw 32),(Qw 39)],q0),(Qm 4 (tq 5) (tq 40),q0)]) (.seq (.reg [Qn 41 4 1 (tq 5) (Qf 2),Qj 42 1 (tq 41),oo 43 (.bin .xor (tq 42) (.const (.sc (.int .u64 255)))),Qn 44 4 1 (tq 5) (Qf 2),Qm 1 (tq 44) (tq 43)]) (.seq (.reg [Qk 45 4 (tq 5),Qs 46 116 [(Qw 45)],Qs 47 116 [(Qw 46)],Qs 48 116 [(Qw 47)],Qs 49 116 [(Qw 48)],Qm 4 (tq 5) (tq 49)]) (.seq (.reg [Qn 50 4 1 (tq 5) (Qf 0),Qj 51 1 (tq 50),Qn 52 4 1 (tq 5) (Qf 1),Qj 53 1 (tq 52),Qp 54 .xor (tq 51) (tq 53),Qn 55 4 1 (tq 5) (Qf 2),Qj 56 1 (tq 55),Qp 57 .xor (tq 54) (tq 56),Qn 58 4 1 (tq 5) (Qf 3),Qj 59 1 (tq 58),Qp 60 .xor (tq 57) (tq 59),Qh 4 (tq 60)]) .ret))))
def zgz:CF:=⟨61,[.tmp 4],(.seq (.reg [Qv 2 (tq 0),oo 4 (.move (.const (.sc (.int .u64 0))) false)]) (.seq (.reg [Qn 7 2 1 (tq 2) (Qf 0),Qj 8 1 (tq 7),oo 9 (.bin .xor (tq 8) (.const (.sc (.int .u64 8317987319222330741)))),Qn 10 2 1 (tq 2) (Qf 1),Qj 11 1 (tq 10),oo 12 (.bin .xor (tq 11) (.const (.sc (.int .u64 7237128888997146477)))),Qn 13 2 1 (tq 2) (Qf 0),Qj 14 1 (tq 13),oo 15 (.bin .xor (tq 14) (.const (.sc (.int .u64 7816392313619706465)))),Qn 16 2 1 (tq 2) (Qf 1),Qj 17 1 (tq 16),oo 18 (.bin .xor (tq 17) (.const (.sc (.int .u64 8387220255154660723)))),oo 19 (.build [(.sc (.int .u64 0)),(.sc (.int .u64 0)),(.sc (.int .u64 0)),(.sc (.int .u64 0))] [(0,1,(tq 9)),(1,1,(tq 12)),(2,1,(tq 15)),(3,1,(tq 18))]),oo 5 (.alloc true [(.sc (.int .u64 0)),(.sc (.int .u64 0)),(.sc (.int .u64 0)),(.sc (.int .u64 0))]),Qm 4 (tq 5) (tq 19)]) (.seq (.reg [Qh 20 (tq 1),Qr 21 (tq 20),Qh 6 (tq 21)]) (.seq (.block 0 (.loop (bl 98 61) (bl 2305843008399998971 61) zfJ)) zox))))⟩
def zuY:Hint:=⟨[(4,8)],[],[none,some ((bl 98 61),(bl 2305843008399998971 61)),none,some ((bl 98 61),(bl 2305843008399998971 61)),none,none],[],[],false,false,[]⟩
def zdy:Nat→Sh:=yT [(8,(.int .u64)),(11,(.int .u64)),(14,(.int .u64)),(17,(.int .u64)),(42,(.int .u64)),(51,(.int .u64)),(53,(.int .u64)),(56,(.int .u64)),(59,(.int .u64))]
def zdA(xm:zbj)(yq:zbz)(xj:zaT)(L:Nat):CBC:=(xy 116 (zjP xj L) (xy 114 (zlP yq L) (xy 115 (zlC xm L) noC)))
def zjt:St→St:=zbd 0 (bl 98 61) (bl 2305843008399998971 61)
def zgK(z:List (List V))(A:Int)(C:List V):St:=⟨(jn 1 ((V.sl 1 z)::(jn 3 ((V.ptr 5 0)::((Qe A)::(jn 54 [])))))),(gn 5 ((.live true C)::(gn 55 [])))⟩
def zoo(z:List (List V))(A:Int)(C:List V):St:=⟨(jn 1 ((V.sl 1 z)::(jn 3 ((V.ptr 5 0)::((Qe A)::(jn 54 [])))))),(gn 5 ((.live true C)::(gn 55 [])))⟩
def zuo{β:Type}(xm:zbj)(yq:zbz)(xj:zaT)(L:Nat)(A:List V)(C:List (List V))(z:List (List V)→Int→List V→Option β):Option β:=cI .u64 A 0 fun D=>lt (zbs .u64 D (8317987319222330741:Int)) fun E=>cI .u64 A 1 fun F=>lt (zbs .u64 F (7237128888997146477:Int)) fun G=>cI .u64 A 0 fun I=>lt (zbs .u64 I (7816392313619706465:Int)) fun J=>cI .u64 A 1 fun M=>lt (zbs .u64 M (8387220255154660723:Int)) fun N=>lt [(Qd E),(Qd G),(Qd J),(Qd N)] fun r8=>z C ((XI C:Nat):Int) r8
theorem zB3{β:Type}(xm:zbj)(yq:zbz)(xj:zaT)(L:Nat)(A:List V)(z:List (List V))(k:KK β):yl zdy (zdA xm yq xj L) L zgz [(V.agg A),(V.sl 1 z)] [] k=zuo xm yq xj L A z (fun z C D=>xE (xi zdy (zdA xm yq xj L) 0 L zfJ) zjt L (zgK z C D) (zF 0 (zQ (xi zdy (zdA xm yq xj L) 0 L zox) (xW 0 (CF.res zgz) k)))):=by kernel_rfl
def znm{β:Type}(xm:zbj)(yq:zbz)(xj:zaT)(L:Nat)(z:List (List V))(F:Int)(C:List V)(A:List (List V)→Int→List V→Option β)(E:List (List V)→Int→List V→Option β):Option β:=ifb (decide (((XI z:Nat):Int)≥(8:Int))) (chk (0+4≤(XI C)) (chk (0≤(8:Int)∧(8:Int)≤(((XI z):Nat):Int)) (xm β L (XK 8 (XL 0 z)) (fun I=>yq β L (XK 4 C) I (fun D=>chk (0≤(8:Int)∧(8:Int)≤(((XI z):Nat):Int)) (chk ((XI D)=4∧0+4≤(XI C)) (lt (xd C 0 D) fun G=>A (XK ((XI z)-8) (XL 8 z)) F G))))))) (E z F C)
theorem zwQ{β:Type}(xm:zbj)(yq:zbz)(xj:zaT)(L:Nat)(z:List (List V))(A:Int)(C:List V)(X:St→Option β)(K:KT β):xi zdy (zdA xm yq xj L) 0 L zfJ (zgK z A C) (zcz zjt X K)=znm xm yq xj L z A C (fun z A C=>X (zgK z A C)) (fun z A C=>K (.exit 0) (zoo z A C)):=by kernel_rfl
def zhC{β:Type}(xm:zbj)(yq:zbz)(xj:zaT)(L:Nat)(p1:List (List V))(p6:Int)(D:List V)(E:Int→Option β):Option β:=chk (0+4≤(XI D)) (xm β L p1 (fun I=>lt (XP p6 (256:Int)) fun J=>lt (QF .u64 J) fun M=>lt (zuk .u64 M (56:Int)) fun N=>lt (ior .u64 I N) fun O=>yq β L (XK 4 D) O (fun F=>chk ((XI F)=4∧0+4≤(XI D)) (lt (xd D 0 F) fun C=>cI .u64 C 2 fun P=>lt (zbs .u64 P (255:Int)) fun Q=>chk (1=1∧2+1≤(XI C)) (lt (xd C 2 [(Qd Q)]) fun z=>chk (0+4≤(XI z)) (xj β L (XK 4 z) (fun R=>xj β L R (fun S=>xj β L S (fun U=>xj β L U (fun G=>chk ((XI G)=4∧0+4≤(XI z)) (lt (xd z 0 G) fun A=>cI .u64 A 0 fun W=>cI .u64 A 1 fun X=>lt (zbs .u64 W X) fun Y=>cI .u64 A 2 fun Z=>lt (zbs .u64 Y Z) fun aa=>cI .u64 A 3 fun ab=>lt (zbs .u64 aa ab) fun ac=>E ac)))))))))))
theorem zus{β:Type}(xm:zbj)(yq:zbz)(xj:zaT)(L:Nat)(z:List (List V))(A:Int)(C:List V)(k:KK β):(zF 0 (zQ (xi zdy (zdA xm yq xj L) 0 L zox) (xW 0 (CF.res zgz) k))) (.exit 0) (zoo z A C)=zhC xm yq xj L z A C (fun D=>k (Qd D) []):=by kernel_rfl
def zgE{β:Type}(xm:zbj)(yq:zbz)(xj:zaT)(L:Nat)(z:List (List V)→Int→List V→Option β):Nat→List (List V)→Int→List V→Option β
 | 0,_,_,_=>none
 | n+1,A,C,D=>znm xm yq xj L A C D (fun A C D=>zgE xm yq xj L z n A C D) z
theorem zpt{β:Type}(xm:zbj)(yq:zbz)(xj:zaT)(L:Nat)(K:KT β):∀ (n:Nat) (z:List (List V)) (A:Int) (C:List V),xE (xi zdy (zdA xm yq xj L) 0 L zfJ) zjt n (zgK z A C) K=zgE xm yq xj L (fun z A C=>K (.exit 0) (zoo z A C)) n z A C:=by
 intro n
 induction n with
 | zero=>intros; rfl
 | succ n ih=>
  intro z A C
  refine (zwQ xm yq xj L z A C (fun σ=>xE (xi zdy (zdA xm yq xj L) 0 L zfJ) zjt n σ K) K).trans ?_
  simp only [ih]
  rfl
def zqi{β:Type}(xm:zbj)(yq:zbz)(xj:zaT)(L:Nat)(E:List V)(z:List (List V))(A:Int→Option β):Option β:=zuo xm yq xj L E z (fun z C D=>zgE xm yq xj L (fun z C D=>zhC xm yq xj L z C D A) L z C D)
theorem zCj{β:Type}(xm:zbj)(yq:zbz)(xj:zaT)(L:Nat)(z:List V)(A:List (List V))(k:KK β):yl zdy (zdA xm yq xj L) L zgz [(V.agg z),(V.sl 1 A)] [] k=zqi xm yq xj L z A (fun z=>k (Qd z) []):=by
 refine (zB3 xm yq xj L z A k).trans ?_
 unfold zqi
 first
  | (simp only [zpt,zus]; done)
  | (simp only [zpt]; rfl)
abbrev zhW:=∀ (β:Type),Nat→List V→List (List V)→(Int→Option β)→Option β
def yP(β:Type)(L:Nat)(A:List V)(C:List (List V))(z:Int→Option β):Option β:=zqi xm yq xj L A C z
def zmy(yP:zhW)(L:Nat)(β:Type)(args:List V)(bor:Bor)(k:KK β):Option β:=match args,bor with
 | [a0,a1],[]=>aG a0 fun z=>aL 1 a1 fun A=>yP β L z A (fun z=>k (Qd z) [])
 | _,_=>none
theorem zBY(L:Nat)(β:Type)(args:List V)(bor:Bor)(k:KK β)(r:β)(h:zmy yP L β args bor k=some r):yl zdy (zdA xm yq xj L) L zgz args bor k=some r:=by
 unfold zmy at h
 split at h
 ·have q:=xM h; clear h; obtain ⟨z,rfl,h⟩:=q
  have q:=zaF h; clear h; obtain ⟨A,rfl,h⟩:=q
  exact (zCj xm yq xj L z A k).trans h
 ·cases h
def zlU:CF:=⟨6,[.tmp 2],(.seq (.reg [Qv 1 (tq 0),oo 2 (.move (.const (.sc (.int .u32 0))) false)]) (.seq (.reg [Ql 3 0 (tq 1),Qj 4 1 (tq 3),oo 5 (.bin .shr (tq 4) (.const (.sc (.int .u64 16)))),Qh 2 (tq 5)]) .ret))⟩
def zsi:Hint:=⟨[],[],[none],[],[],false,false,[]⟩
def zqe:Nat→Sh:=yT [(4,(.int .u32))]
def zpU(L:Nat):CBC:=noC
def zrc{β:Type}(L:Nat)(A:List V)(z:Int→Option β):Option β:=cI .u32 A 0 fun C=>lt (zpT .u32 C (16:Int)) fun D=>z D
theorem zzV{β:Type}(L:Nat)(z:List V)(k:KK β):yl zqe (zpU L) L zlU [(V.agg z)] [] k=zrc L z (fun z=>k (Qc z) []):=by kernel_rfl
abbrev zda:=∀ (β:Type),Nat→List V→(Int→Option β)→Option β
def yy(β:Type)(L:Nat)(A:List V)(z:Int→Option β):Option β:=zrc L A z
def zhe(yy:zda)(L:Nat)(β:Type)(args:List V)(bor:Bor)(k:KK β):Option β:=match args,bor with
 | [a0],[]=>aG a0 fun z=>yy β L z (fun z=>k (Qc z) [])
 | _,_=>none
theorem zzL(L:Nat)(β:Type)(args:List V)(bor:Bor)(k:KK β)(r:β)(h:zhe yy L β args bor k=some r):yl zqe (zpU L) L zlU args bor k=some r:=by
 unfold zhe at h
 split at h
 ·have q:=xM h; clear h; obtain ⟨z,rfl,h⟩:=q
  exact (zzV L z k).trans h
 ·cases h
def zf5:CF:=⟨30,[.tmp 4],(.seq (.reg [Qv 2 (tq 0),Qv 3 (tq 1),Qh 4 (Qf 0)]) (.seq (.reg [Qk 7 32 (tq 2),Qs 8 110 [(Qw 7)],oo 5 (.alloc true [(.sc (.int .u64 0)),(.sc (.int .u64 0))]),Qm 2 (tq 5) (tq 8)]) (.seq (.dreg [] [(Qk 9 2 (tq 5),ql 5 [3] [10]),(oo 10 (.buildSlice 1 1 [(.sc (.int .u8 0))] [(0,1,(.const (.sc (.int .u8 4))))]),qn [5,3] []),(Ql 11 0 (tq 3),q0),(Qj 12 1 (tq 11),ql 3 [5] [10]),(Qs 13 159 [(Qw 10),(Qw 12)],qc [5,3] []),(Ql 14 1 (tq 3),q0),(Qj 15 1 (tq 14),ql 3 [5] [10]),(Qs 16 304 [(Qw 13),(Qw 15)],qc [5] []),(Qs 17 106 [(Qw 9),(Qw 16)],q0),(oo 18 (.bin .rem (tq 17) (.const (.sc (.int .u64 4)))),q0),(Qh 6 (tq 18),q0)]) (.seq (.dreg [] [(Qk 19 2 (tq 5),ql 5 [3] [20]),(oo 20 (.buildSlice 1 1 [(.sc (.int .u8 0))] [(0,1,(.const (.sc (.int .u8 3))))]),qn [5,3] []),(Qk 21 3 (tq 3),ql 3 [5] [20]),(Qs 22 294 [(Qw 21)],qc [5] [20]),(Qs 23 159 [(Qw 20),(Qw 22)],qc [5] []),(Qh 24 (tq 6),q0),(Qu 25 .u32 (tq 24),q0),(Qs 26 159 [(Qw 23),(Qw 25)],qc [5] []),(Qs 27 106 [(Qw 19),(Qw 26)],q0),(oo 28 (.bin .rem (tq 27) (.const (.sc (.int .u64 64)))),q0),(Qu 29 .i64 (tq 28),q0),(Qh 4 (tq 29),q0)]) .ret))))⟩
def zmH:Hint:=⟨[],[],[none],[],[],false,false,[]⟩
def zi6:Nat→Sh:=yT [(12,(.int .u32)),(15,(.int .u16))]
def zjf(zT:zh3)(yw:zdq)(zV:zif)(yP:zhW)(yy:zda)(L:Nat):CBC:=(xy 294 (zhe yy L) (xy 106 (zmy yP L) (xy 304 (zim zV L) (xy 159 (zfT yw L) (xy 110 (zmM zT L) noC)))))
def zj4{β:Type}(zT:zh3)(yw:zdq)(zV:zif)(yP:zhW)(yy:zda)(L:Nat)(C z:List V)(A:Int→Option β):Option β:=chk (0+32≤(XI C)) (zT β L (XK 32 C) (fun D=>chk ((XI D)=2∧0+2≤2) (lt (xd [(Qd (0:Int)),(Qd (0:Int))] 0 D) fun r1=>chk (0+2≤(XI r1)) (cI .u32 z 0 fun M=>yw β L (ye 1 1 [(Qa (4:Int))]) M (fun N=>cI .u16 z 1 fun O=>zV β L N O (fun P=>yP β L (XK 2 r1) P (fun Q=>lt (XP Q (4:Int)) fun R=>chk (0+2≤(XI r1)) (chk (0+3≤(XI z)) (yy β L (XK 3 z) (fun S=>yw β L (ye 1 1 [(Qa (3:Int))]) S (fun U=>lt (QF .u32 R) fun E=>yw β L U E (fun F=>yP β L (XK 2 r1) F (fun G=>lt (XP G (64:Int)) fun I=>lt (QF .i64 I) fun J=>A J)))))))))))))
theorem zuf{β:Type}(zT:zh3)(yw:zdq)(zV:zif)(yP:zhW)(yy:zda)(L:Nat)(z A:List V)(k:KK β):yl zi6 (zjf zT yw zV yP yy L) L zf5 [(V.agg z),(V.agg A)] [] k=zj4 zT yw zV yP yy L z A (fun z=>k (Qe z) []):=by kernel_rfl
abbrev yO:=∀ (β:Type),Nat→List V→List V→(Int→Option β)→Option β
def ze(β:Type)(L:Nat)(A C:List V)(z:Int→Option β):Option β:=zj4 zT yw zV yP yy L A C z
def zeB(ze:yO)(L:Nat)(β:Type)(args:List V)(bor:Bor)(k:KK β):Option β:=match args,bor with
 | [a0,a1],[]=>aG a0 fun z=>aG a1 fun A=>ze β L z A (fun z=>k (Qe z) [])
 | _,_=>none
theorem zum(L:Nat)(β:Type)(args:List V)(bor:Bor)(k:KK β)(r:β)(h:zeB ze L β args bor k=some r):yl zi6 (zjf zT yw zV yP yy L) L zf5 args bor k=some r:=by
 unfold zeB at h
 split at h
 ·have q:=xM h; clear h; obtain ⟨z,rfl,h⟩:=q
  have q:=xM h; clear h; obtain ⟨A,rfl,h⟩:=q
  exact (zuf zT yw zV yP yy L z A k).trans h
 ·cases h
def zf7:CF:=⟨30,[.tmp 6],(.seq (.reg [Qv 3 (tq 0),Qv 4 (tq 1),Qh 6 (Qf 0)]) (.seq (.reg [Qk 9 32 (tq 3),Qs 10 110 [(Qw 9)],oo 7 (.alloc true [(.sc (.int .u64 0)),(.sc (.int .u64 0))]),Qm 2 (tq 7) (tq 10)]) (.seq (.dreg [] [(Qk 11 2 (tq 7),ql 7 [4] [12]),(oo 12 (.buildSlice 1 1 [(.sc (.int .u8 0))] [(0,1,(.const (.sc (.int .u8 2))))]),qn [7,4] []),(Qk 13 3 (tq 4),ql 4 [7] [12]),(Qs 14 294 [(Qw 13)],qc [7] [12]),(Qs 15 159 [(Qw 12),(Qw 14)],qc [7] []),(Qh 16 (tq 2),q0),(Qs 17 159 [(Qw 15),(Qw 16)],qc [7] []),(Qs 18 106 [(Qw 11),(Qw 17)],q0),(oo 19 (.bin .rem (tq 18) (.const (.sc (.int .u64 4)))),q0),(Qh 8 (tq 19),q0)]) (.seq (.dreg [] [(Qk 20 2 (tq 7),ql 7 [] [21]),(oo 21 (.buildSlice 1 1 [(.sc (.int .u8 0))] [(0,1,(.const (.sc (.int .u8 1))))]),qn [7] []),(Qh 22 (tq 2),q0),(Qs 23 159 [(Qw 21),(Qw 22)],qc [7] []),(Qh 24 (tq 8),q0),(Qu 25 .u32 (tq 24),q0),(Qs 26 159 [(Qw 23),(Qw 25)],qc [7] []),(Qs 27 106 [(Qw 20),(Qw 26)],q0),(oo 28 (.bin .rem (tq 27) (.const (.sc (.int .u64 64)))),q0),(Qu 29 .i64 (tq 28),q0),(Qh 6 (tq 29),q0)]) .ret))))⟩
def zmB:Hint:=⟨[],[],[none],[],[],false,false,[]⟩
def zjA:Nat→Sh:=yT []
def zjk(zT:zh3)(yy:zda)(yw:zdq)(yP:zhW)(L:Nat):CBC:=(xy 106 (zmy yP L) (xy 159 (zfT yw L) (xy 294 (zhe yy L) (xy 110 (zmM zT L) noC))))
def zjY{β:Type}(zT:zh3)(yy:zda)(yw:zdq)(yP:zhW)(L:Nat)(A C:List V)(D:Int)(z:Int→Option β):Option β:=chk (0+32≤(XI A)) (zT β L (XK 32 A) (fun E=>chk ((XI E)=2∧0+2≤2) (lt (xd [(Qd (0:Int)),(Qd (0:Int))] 0 E) fun r1=>chk (0+2≤(XI r1)) (chk (0+3≤(XI C)) (yy β L (XK 3 C) (fun J=>yw β L (ye 1 1 [(Qa (2:Int))]) J (fun M=>yw β L M D (fun N=>yP β L (XK 2 r1) N (fun O=>lt (XP O (4:Int)) fun P=>chk (0+2≤(XI r1)) (yw β L (ye 1 1 [(Qa (1:Int))]) D (fun Q=>lt (QF .u32 P) fun R=>yw β L Q R (fun S=>yP β L (XK 2 r1) S (fun F=>lt (XP F (64:Int)) fun G=>lt (QF .i64 G) fun I=>z I)))))))))))))
theorem zuj{β:Type}(zT:zh3)(yy:zda)(yw:zdq)(yP:zhW)(L:Nat)(z A:List V)(C:Int)(k:KK β):yl zjA (zjk zT yy yw yP L) L zf7 [(V.agg z),(V.agg A),(Qc C)] [] k=zjY zT yy yw yP L z A C (fun z=>k (Qe z) []):=by kernel_rfl
abbrev yB:=∀ (β:Type),Nat→List V→List V→Int→(Int→Option β)→Option β
def xb(β:Type)(L:Nat)(A C:List V)(D:Int)(z:Int→Option β):Option β:=zjY zT yy yw yP L A C D z
def zeD(xb:yB)(L:Nat)(β:Type)(args:List V)(bor:Bor)(k:KK β):Option β:=match args,bor with
 | [a0,a1,a2],[]=>aG a0 fun z=>aG a1 fun A=>aI .u32 a2 fun C=>xb β L z A C (fun z=>k (Qe z) [])
 | _,_=>none
theorem ztT(L:Nat)(β:Type)(args:List V)(bor:Bor)(k:KK β)(r:β)(h:zeD xb L β args bor k=some r):yl zjA (zjk zT yy yw yP L) L zf7 args bor k=some r:=by
 unfold zeD at h
 split at h
 ·have q:=xM h; clear h; obtain ⟨z,rfl,h⟩:=q
  have q:=xM h; clear h; obtain ⟨A,rfl,h⟩:=q
  have q:=yo h; clear h; obtain ⟨C,rfl,h⟩:=q
  exact (zuj zT yy yw yP L z A C k).trans h
 ·cases h
def zmS:CF:=⟨17,[.tmp 4],(.seq (.reg [Qv 2 (tq 0),Qv 3 (tq 1),Qh 4 (Qg false)]) (.seq (.reg [Ql 5 0 (tq 2),Qj 6 1 (tq 5),Ql 7 0 (tq 3),Qj 8 1 (tq 7),Qp 9 .eql (tq 6) (tq 8),Qh 10 (tq 9),⟨(some 11),false,(some (10,true)),.fieldAddr 1 (tq 2)⟩,⟨(some 12),false,(some (10,true)),.load false 1 (tq 11) false⟩,⟨(some 13),false,(some (10,true)),.fieldAddr 1 (tq 3)⟩,⟨(some 14),false,(some (10,true)),.load false 1 (tq 13) false⟩,⟨(some 15),false,(some (10,true)),.bin .eql (tq 12) (tq 14)⟩,oo 16 (.pick (tq 10) (tq 15) (Qg false)),Qh 4 (tq 16)]) .ret))⟩
def ztn:Hint:=⟨[],[],[none],[],[],false,false,[]⟩
def zq7:Nat→Sh:=yT [(6,(.int .u32)),(8,(.int .u32)),(12,(.int .u16)),(14,(.int .u16))]
def zqY(L:Nat):CBC:=noC
def zsG{β:Type}(L:Nat)(A C:List V)(z:Bool→Option β):Option β:=cI .u32 A 0 fun D=>cI .u32 C 0 fun E=>ifb ((D:Int)==E) (cI .u16 A 1 fun F=>cI .u16 C 1 fun G=>z ((F:Int)==G)) (z false)
theorem zBt{β:Type}(L:Nat)(z A:List V)(k:KK β):yl zq7 (zqY L) L zmS [(V.agg z),(V.agg A)] [] k=zsG L z A (fun z=>k (V.sc (.bool z)) []):=by kernel_rfl
abbrev xP:=∀ (β:Type),Nat→List V→List V→(Bool→Option β)→Option β
def zf(β:Type)(L:Nat)(A C:List V)(z:Bool→Option β):Option β:=zsG L A C z
def zlf(zf:xP)(L:Nat)(β:Type)(args:List V)(bor:Bor)(k:KK β):Option β:=match args,bor with
 | [a0,a1],[]=>aG a0 fun z=>aG a1 fun A=>zf β L z A (fun z=>k (V.sc (.bool z)) [])
 | _,_=>none
theorem zA3(L:Nat)(β:Type)(args:List V)(bor:Bor)(k:KK β)(r:β)(h:zlf zf L β args bor k=some r):yl zq7 (zqY L) L zmS args bor k=some r:=by
 unfold zlf at h
 split at h
 ·have q:=xM h; clear h; obtain ⟨z,rfl,h⟩:=q
  have q:=xM h; clear h; obtain ⟨A,rfl,h⟩:=q
  exact (zBt L z A k).trans h
 ·cases h
def zfP:CC:=(.seq (.seq (.reg [Qh 6 (tq 5),Qh 7 (tq 0),Qr 8 (tq 7),Qp 9 .lss (tq 6) (tq 8)]) (.cond (tq 9) .skip (.seq (.mask (bl 0 20) (bl 786119 20)) (.exit 0)))) (.seq (.block 1 (.seq (.dreg [] [(Qh 12 (tq 0),q0),(Qh 13 (tq 5),q0),(Qo 14 5 (tq 12) (tq 13),q0),(Ql 15 1 (tq 14),q0),(Qk 16 3 (tq 15),qc [3] []),(Qk 17 3 (tq 3),ql 3 [] []),(Qs 18 303 [(Qw 16),(Qw 17)],q0)]) (.cond (tq 18) (.seq (.reg [Qh 19 (tq 5),Qh 4 (tq 19)]) (.seq (.mask (bl 16 20) (bl 786135 20)) .ret)) .skip))) (.reg [Qh 10 (tq 5),Qp 11 .add (tq 10) (Qf 1),Qh 5 (tq 11)])))
def zlV:CC:=(.seq (.reg [Qh 4 (Qf (-1))]) .ret)
def zdH:CF:=⟨20,[.tmp 4],(.seq (.reg [Qv 3 (tq 1),Qh 4 (Qf 0)]) (.seq (.seq (.reg [Qh 5 (Qf 0)]) (.block 0 (.loop (bl 41 20) (bl 786159 20) zfP))) zlV))⟩
def ztC:Hint:=⟨[],[],[none,some ((bl 41 20),(bl 786159 20)),none,some ((bl 0 20),(bl 786119 20)),none,none,some ((bl 16 20),(bl 786135 20)),none],[],[],false,false,[]⟩
def zcx:Nat→Sh:=yT []
def zcw(zf:xP)(L:Nat):CBC:=(xy 303 (zlf zf L) noC)
def zja:St→St:=zbd 0 (bl 41 20) (bl 786159 20)
def zgH(z:List (List V))(A:Int)(C:List V):St:=⟨((V.sl 5 z)::(jn 2 ((V.ptr 3 0)::(jn 1 ((Qe A)::(jn 14 [])))))),(gn 3 ((.live true C)::(gn 16 [])))⟩
def zmv(z:Int):St:=⟨(jn 4 ((Qe z)::(jn 15 []))),(gn 20 [])⟩
def znh:St:=⟨(jn 20 []),(gn 20 [])⟩
def zsq{β:Type}(zf:xP)(L:Nat)(A:List (List V))(C:List V)(z:List (List V)→Int→List V→Option β):Option β:=z A (0:Int) C
theorem zAp{β:Type}(zf:xP)(L:Nat)(z:List (List V))(A:List V)(k:KK β):yl zcx (zcw zf L) L zdH [(V.sl 5 z),(V.agg A)] [] k=zsq zf L z A (fun z C D=>xE (xi zcx (zcw zf L) 0 L zfP) zja L (zgH z C D) (zF 0 (zQ (xi zcx (zcw zf L) 0 L zlV) (xW 0 (CF.res zdH) k)))):=by kernel_rfl
def znq{β:Type}(zf:xP)(L:Nat)(D:List (List V))(A:Int)(E:List V)(C:Int→Option β)(z:List (List V)→Int→List V→Option β)(F:Option β):Option β:=ifb (decide (A<((XI D:Nat):Int))) (idx D A fun c0=>chk (0+3≤(XI E)) (zf β L (XK 3 (XL 1 c0)) (XK 3 E) (fun G=>ifb G (C A) (lt (QF .i64 ((A:Int)+(1:Int))) fun I=>z D I E)))) (F)
theorem zws{β:Type}(zf:xP)(L:Nat)(z:List (List V))(A:Int)(C:List V)(X:St→Option β)(K:KT β):xi zcx (zcw zf L) 0 L zfP (zgH z A C) (zcz zja X K)=znq zf L z A C (fun D=>K .ret (zmv D)) (fun z A C=>X (zgH z A C)) (K (.exit 0) (znh)):=by kernel_rfl
def zpA{β:Type}(zf:xP)(L:Nat)(A:Int)(z:Int→Option β):Option β:=z A
theorem ztV{β:Type}(zf:xP)(L:Nat)(z:Int)(k:KK β):(zF 0 (zQ (xi zcx (zcw zf L) 0 L zlV) (xW 0 (CF.res zdH) k))) .ret (zmv z)=zpA zf L z (fun A=>k (Qe A) []):=by kernel_rfl
def zqA{β:Type}(zf:xP)(L:Nat)(z:Int→Option β):Option β:=z (-1:Int)
theorem zuW{β:Type}(zf:xP)(L:Nat)(k:KK β):(zF 0 (zQ (xi zcx (zcw zf L) 0 L zlV) (xW 0 (CF.res zdH) k))) (.exit 0) (znh)=zqA zf L (fun z=>k (Qe z) []):=by kernel_rfl
def zgD{β:Type}(zf:xP)(L:Nat)(z:Int→Option β)(A:Option β):Nat→List (List V)→Int→List V→Option β
 | 0,_,_,_=>none
 | n+1,C,D,E=>znq zf L C D E z (fun C D E=>zgD zf L z A n C D E) A
theorem zpB{β:Type}(zf:xP)(L:Nat)(K:KT β):∀ (n:Nat) (z:List (List V)) (A:Int) (C:List V),xE (xi zcx (zcw zf L) 0 L zfP) zja n (zgH z A C) K=zgD zf L (fun D=>K .ret (zmv D)) (K (.exit 0) (znh)) n z A C:=by
 intro n
 induction n with
 | zero=>intros; rfl
 | succ n ih=>
  intro z A C
  refine (zws zf L z A C (fun σ=>xE (xi zcx (zcw zf L) 0 L zfP) zja n σ K) K).trans ?_
  simp only [ih]
  rfl
def zo5{β:Type}(zf:xP)(L:Nat)(A:List (List V))(C:List V)(z:Int→Option β):Option β:=zsq zf L A C (fun A D E=>zgD zf L (fun F=>zpA zf L F z) (zqA zf L z) L A D E)
theorem zAY{β:Type}(zf:xP)(L:Nat)(z:List (List V))(A:List V)(k:KK β):yl zcx (zcw zf L) L zdH [(V.sl 5 z),(V.agg A)] [] k=zo5 zf L z A (fun z=>k (Qe z) []):=by
 refine (zAp zf L z A k).trans ?_
 unfold zo5
 first
  | (simp only [zpB,ztV,zuW]; done)
  | (simp only [zpB]; rfl)
abbrev yH:=∀ (β:Type),Nat→List (List V)→List V→(Int→Option β)→Option β
def xc(β:Type)(L:Nat)(A:List (List V))(C:List V)(z:Int→Option β):Option β:=zo5 zf L A C z
def zgy(xc:yH)(L:Nat)(β:Type)(args:List V)(bor:Bor)(k:KK β):Option β:=match args,bor with
 | [a0,a1],[]=>aL 5 a0 fun z=>aG a1 fun A=>xc β L z A (fun z=>k (Qe z) [])
 | _,_=>none
theorem zBr(L:Nat)(β:Type)(args:List V)(bor:Bor)(k:KK β)(r:β)(h:zgy xc L β args bor k=some r):yl zcx (zcw zf L) L zdH args bor k=some r:=by
 unfold zgy at h
 split at h
 ·have q:=zaF h; clear h; obtain ⟨z,rfl,h⟩:=q
  have q:=xM h; clear h; obtain ⟨A,rfl,h⟩:=q
  exact (zAY zf L z A k).trans h
 ·cases h
def zeH:CC:=(.seq (.seq (.reg [Qh 12 (tq 7),Qh 13 (tq 1),Qr 14 (tq 13),Qp 15 .lss (tq 12) (tq 14)]) (.cond (tq 15) .skip (.seq (.mask (bl 0 84) (bl 18133887294219300164845111 84)) (.exit 0)))) (.seq (.block 1 (.seq (.dreg [] [(Qk 18 32 (tq 3),ql 3 [] []),(Qh 19 (tq 1),q0),(Qh 20 (tq 7),q0),(Qo 21 5 (tq 19) (tq 20),q0),(Ql 22 1 (tq 21),q0),(Qk 23 3 (tq 22),qc [3] []),(Qs 24 290 [(Qw 18),(Qw 23)],q0),(Qh 8 (tq 24),q0)]) (.seq (.seq (.reg [Qh 25 (tq 2)]) (.cond (tq 25) (.dreg [] [(Qk 26 32 (tq 3),ql 3 [] []),(Qh 27 (tq 1),q0),(Qh 28 (tq 7),q0),(Qo 29 5 (tq 27) (tq 28),q0),(Ql 30 1 (tq 29),q0),(Qk 31 3 (tq 30),qc [3] []),(Qh 32 (tq 1),q0),(Qh 33 (tq 7),q0),(Qo 34 5 (tq 32) (tq 33),q0),(Ql 35 4 (tq 34),q0),(Qj 36 1 (tq 35),qc [3] []),(Qs 37 305 [(Qw 26),(Qw 31),(Qw 36)],q0),(Qh 8 (tq 37),q0)]) .skip)) (.seq (.reg [Qh 38 (tq 1),Qh 39 (tq 7),Qo 40 5 (tq 38) (tq 39),Ql 41 0 (tq 40),Qj 42 1 (tq 41),Qh 43 (tq 8),Qp 44 .neq (tq 42) (tq 43),Qh 45 (tq 44),⟨(some 46),false,(some (45,false)),.move (tq 7) false⟩,⟨(some 47),false,(some (45,false)),.bin .gtr (tq 46) (Qf 0)⟩,⟨(some 48),false,(some (45,false)),.move (tq 47) false⟩,⟨(some 49),false,(some (48,true)),.move (tq 1) false⟩,⟨(some 50),false,(some (48,true)),.move (tq 7) false⟩,⟨(some 51),false,(some (48,true)),.bin .sub (tq 50) (Qf 1)⟩,⟨(some 52),false,(some (48,true)),.indexAddrS 5 (tq 49) (tq 51)⟩,⟨(some 53),false,(some (48,true)),.fieldAddr 0 (tq 52)⟩,⟨(some 54),false,(some (48,true)),.load false 1 (tq 53) false⟩,⟨(some 55),false,(some (48,true)),.move (tq 8) false⟩,⟨(some 56),false,(some (48,true)),.bin .gtr (tq 54) (tq 55)⟩,⟨(some 57),false,(some (45,false)),.pick (tq 48) (tq 56) (Qg false)⟩,oo 58 (.pick (tq 45) (Qg true) (tq 57)),Qh 59 (tq 58),⟨(some 60),false,(some (59,false)),.move (tq 7) false⟩,⟨(some 61),false,(some (59,false)),.bin .geq (tq 60) (Qf 8)⟩,⟨(some 62),false,(some (59,false)),.move (tq 61) false⟩,⟨(some 63),false,(some (62,true)),.move (tq 1) false⟩,⟨(some 64),false,(some (62,true)),.move (tq 7) false⟩,⟨(some 65),false,(some (62,true)),.bin .sub (tq 64) (Qf 8)⟩,⟨(some 66),false,(some (62,true)),.indexAddrS 5 (tq 63) (tq 65)⟩,⟨(some 67),false,(some (62,true)),.fieldAddr 0 (tq 66)⟩,⟨(some 68),false,(some (62,true)),.load false 1 (tq 67) false⟩,⟨(some 69),false,(some (62,true)),.move (tq 8) false⟩,⟨(some 70),false,(some (62,true)),.bin .eql (tq 68) (tq 69)⟩,⟨(some 71),false,(some (59,false)),.pick (tq 62) (tq 70) (Qg false)⟩,oo 72 (.pick (tq 59) (Qg true) (tq 71)),Qh 73 (tq 72),⟨(some 74),false,(some (73,false)),.move (tq 1) false⟩,⟨(some 75),false,(some (73,false)),.move (tq 1) false⟩,⟨(some 76),false,(some (73,false)),.move (tq 7) false⟩,⟨(some 77),false,(some (73,false)),.indexAddrS 5 (tq 75) (tq 76)⟩,⟨(some 78),false,(some (73,false)),.fieldAddr 1 (tq 77)⟩,⟨(some 79),false,(some (73,false)),.load true 3 (tq 78) false⟩,⟨(some 80),false,(some (73,false)),.call 287 [((tq 74),2),((tq 79),2)] []⟩,⟨(some 81),false,(some (73,false)),.move (tq 7) false⟩,⟨(some 82),false,(some (73,false)),.bin .neq (tq 80) (tq 81)⟩,oo 83 (.pick (tq 73) (Qg true) (tq 82))]) (.cond (tq 83) (.seq (.reg [Qh 6 (Qg false)]) (.seq (.mask (bl 64 84) (bl 18133887294219300164845175 84)) .ret)) .skip))))) (.reg [Qh 16 (tq 7),Qp 17 .add (tq 16) (Qf 1),Qh 7 (tq 17)])))
def zjg:CC:=(.seq (.reg [Qh 6 (Qg true)]) .ret)
def zdT:CF:=⟨84,[.tmp 6],(.seq (.reg [Qv 3 (tq 0),Qh 6 (Qg false)]) (.seq (.seq (.reg [Qh 9 (tq 1),Qr 10 (tq 9),Qp 11 .gtr (tq 10) (Qf 512)]) (.cond (tq 11) (.seq (.reg [Qh 6 (Qg false)]) .ret) .skip)) (.seq (.seq (.reg [Qh 7 (Qf 0)]) (.block 0 (.loop (bl 142 84) (bl 18133887294219300164845247 84) zeH))) zjg)))⟩
def zsC:Hint:=⟨[(9,42)],[],[none,none,none,some ((bl 142 84),(bl 18133887294219300164845247 84)),none,some ((bl 0 84),(bl 18133887294219300164845111 84)),none,none,none,some ((bl 64 84),(bl 18133887294219300164845175 84)),none],[],[],false,false,[]⟩
def zb5:Nat→Sh:=yT [(36,(.int .u32)),(42,(.int .i64)),(54,(.int .i64)),(68,(.int .i64))]
def zb6(ze:yO)(xb:yB)(xc:yH)(L:Nat):CBC:=(xy 287 (zgy xc L) (xy 305 (zeD xb L) (xy 290 (zeB ze L) noC)))
def zhy:St→St:=zbd 0 (bl 142 84) (bl 18133887294219300164845247 84)
def zfs(z:List (List V))(A:Bool)(C:Int)(D:List V):St:=⟨(jn 1 ((V.sl 5 z)::((V.sc (.bool A))::((V.ptr 3 0)::(jn 3 ((Qe C)::(jn 76 []))))))),(gn 3 ((.live true D)::(gn 80 [])))⟩
def zk5(z:Bool):St:=⟨(jn 6 ((V.sc (.bool z))::(jn 77 []))),(gn 84 [])⟩
def zmk:St:=⟨(jn 84 []),(gn 84 [])⟩
def zm0{β:Type}(ze:yO)(xb:yB)(xc:yH)(L:Nat)(D:List V)(C:List (List V))(E:Bool)(A:Bool→Option β)(z:List (List V)→Bool→Int→List V→Option β):Option β:=ifb (decide (((XI C:Nat):Int)>(512:Int))) (A false) (z C E (0:Int) D)
theorem zzN{β:Type}(ze:yO)(xb:yB)(xc:yH)(L:Nat)(z:List V)(A:List (List V))(C:Bool)(k:KK β):yl zb5 (zb6 ze xb xc L) L zdT [(V.agg z),(V.sl 5 A),(V.sc (.bool C))] [] k=zm0 ze xb xc L z A C (fun z=>k (V.sc (.bool z)) []) (fun A C D E=>xE (xi zb5 (zb6 ze xb xc L) 0 L zeH) zhy L (zfs A C D E) (zF 0 (zQ (xi zb5 (zb6 ze xb xc L) 0 L zjg) (xW 0 (CF.res zdT) k)))):=by kernel_rfl
def zhG{β:Type}(ze:yO)(xb:yB)(xc:yH)(L:Nat)(C:List (List V))(F:Bool)(z:Int)(E:List V)(A:Bool→Option β)(D:List (List V)→Bool→Int→List V→Option β)(J:Option β):Option β:=ifb (decide (z<((XI C:Nat):Int))) (chk (0+32≤(XI E)) (idx C z fun c0=>ze β L (XK 32 E) (XK 3 (XL 1 c0)) (fun G=>ifb F (chk (0+32≤(XI E)) (idx C z fun c2=>idx C z fun c3=>cI .u32 (XL 4 c3) 0 fun v4=>xb β L (XK 32 E) (XK 3 (XL 1 c2)) v4 (fun I=>idx C z fun c6=>cI .i64 c6 0 fun v7=>ifb ((v7:Int) != I) (A false) (ifb (decide (z>(0:Int))) (lt (QF .i64 ((z:Int)-(1:Int))) fun x8=>idx C x8 fun c9=>cI .i64 c9 0 fun M=>ifb (decide (M>I)) (A false) (ifb (decide (z≥(8:Int))) (lt (QF .i64 ((z:Int)-(8:Int))) fun N=>idx C N fun O=>cI .i64 O 0 fun P=>ifb ((P:Int)==I) (A false) (idx C z fun Q=>xc β L C (XK 3 (XL 1 Q)) (fun R=>ifb ((R:Int) != z) (A false) (lt (QF .i64 ((z:Int)+(1:Int))) fun S=>D C F S E)))) (idx C z fun U=>xc β L C (XK 3 (XL 1 U)) (fun W=>ifb ((W:Int) != z) (A false) (lt (QF .i64 ((z:Int)+(1:Int))) fun X=>D C F X E))))) (ifb (decide (z≥(8:Int))) (lt (QF .i64 ((z:Int)-(8:Int))) fun Y=>idx C Y fun Z=>cI .i64 Z 0 fun aa=>ifb ((aa:Int)==I) (A false) (idx C z fun ab=>xc β L C (XK 3 (XL 1 ab)) (fun ac=>ifb ((ac:Int) != z) (A false) (lt (QF .i64 ((z:Int)+(1:Int))) fun ad=>D C F ad E)))) (idx C z fun ae=>xc β L C (XK 3 (XL 1 ae)) (fun af=>ifb ((af:Int) != z) (A false) (lt (QF .i64 ((z:Int)+(1:Int))) fun ag=>D C F ag E)))))))) (idx C z fun ah=>cI .i64 ah 0 fun ai=>ifb ((ai:Int) != G) (A false) (ifb (decide (z>(0:Int))) (lt (QF .i64 ((z:Int)-(1:Int))) fun aj=>idx C aj fun ak=>cI .i64 ak 0 fun al=>ifb (decide (al>G)) (A false) (ifb (decide (z≥(8:Int))) (lt (QF .i64 ((z:Int)-(8:Int))) fun am=>idx C am fun an=>cI .i64 an 0 fun ao=>ifb ((ao:Int)==G) (A false) (idx C z fun ap=>xc β L C (XK 3 (XL 1 ap)) (fun aq=>ifb ((aq:Int) != z) (A false) (lt (QF .i64 ((z:Int)+(1:Int))) fun ar=>D C F ar E)))) (idx C z fun au=>xc β L C (XK 3 (XL 1 au)) (fun av=>ifb ((av:Int) != z) (A false) (lt (QF .i64 ((z:Int)+(1:Int))) fun aw=>D C F aw E))))) (ifb (decide (z≥(8:Int))) (lt (QF .i64 ((z:Int)-(8:Int))) fun ax=>idx C ax fun ay=>cI .i64 ay 0 fun az=>ifb ((az:Int)==G) (A false) (idx C z fun aC=>xc β L C (XK 3 (XL 1 aC)) (fun aD=>ifb ((aD:Int) != z) (A false) (lt (QF .i64 ((z:Int)+(1:Int))) fun aE=>D C F aE E)))) (idx C z fun aH=>xc β L C (XK 3 (XL 1 aH)) (fun aJ=>ifb ((aJ:Int) != z) (A false) (lt (QF .i64 ((z:Int)+(1:Int))) fun aK=>D C F aK E))))))))) (J)
theorem zuG{β:Type}(ze:yO)(xb:yB)(xc:yH)(L:Nat)(z:List (List V))(A:Bool)(C:Int)(D:List V)(X:St→Option β)(K:KT β):xi zb5 (zb6 ze xb xc L) 0 L zeH (zfs z A C D) (zcz zhy X K)=zhG ze xb xc L z A C D (fun E=>K .ret (zk5 E)) (fun z A C D=>X (zfs z A C D)) (K (.exit 0) (zmk)):=by kernel_rfl
def znK{β:Type}(ze:yO)(xb:yB)(xc:yH)(L:Nat)(A:Bool)(z:Bool→Option β):Option β:=z A
theorem zss{β:Type}(ze:yO)(xb:yB)(xc:yH)(L:Nat)(z:Bool)(k:KK β):(zF 0 (zQ (xi zb5 (zb6 ze xb xc L) 0 L zjg) (xW 0 (CF.res zdT) k))) .ret (zk5 z)=znK ze xb xc L z (fun A=>k (V.sc (.bool A)) []):=by kernel_rfl
def zos{β:Type}(ze:yO)(xb:yB)(xc:yH)(L:Nat)(z:Bool→Option β):Option β:=z true
theorem ztd{β:Type}(ze:yO)(xb:yB)(xc:yH)(L:Nat)(k:KK β):(zF 0 (zQ (xi zb5 (zb6 ze xb xc L) 0 L zjg) (xW 0 (CF.res zdT) k))) (.exit 0) (zmk)=zos ze xb xc L (fun z=>k (V.sc (.bool z)) []):=by kernel_rfl
def zbC{β:Type}(ze:yO)(xb:yB)(xc:yH)(L:Nat)(z:Bool→Option β)(A:Option β):Nat→List (List V)→Bool→Int→List V→Option β
 | 0,_,_,_,_=>none
 | n+1,C,D,E,F=>zhG ze xb xc L C D E F z (fun C D E F=>zbC ze xb xc L z A n C D E F) A
theorem znN{β:Type}(ze:yO)(xb:yB)(xc:yH)(L:Nat)(K:KT β):∀ (n:Nat) (z:List (List V)) (A:Bool) (C:Int) (D:List V),xE (xi zb5 (zb6 ze xb xc L) 0 L zeH) zhy n (zfs z A C D) K=zbC ze xb xc L (fun E=>K .ret (zk5 E)) (K (.exit 0) (zmk)) n z A C D:=by
 intro n
 induction n with
 | zero=>intros; rfl
 | succ n ih=>
  intro z A C D
  refine (zuG ze xb xc L z A C D (fun σ=>xE (xi zb5 (zb6 ze xb xc L) 0 L zeH) zhy n σ K) K).trans ?_
  simp only [ih]
  rfl
def zjN{β:Type}(ze:yO)(xb:yB)(xc:yH)(L:Nat)(D:List V)(A:List (List V))(C:Bool)(z:Bool→Option β):Option β:=zm0 ze xb xc L D A C z (fun A C E F=>zbC ze xb xc L (fun G=>znK ze xb xc L G z) (zos ze xb xc L z) L A C E F)
theorem zz1{β:Type}(ze:yO)(xb:yB)(xc:yH)(L:Nat)(z:List V)(A:List (List V))(C:Bool)(k:KK β):yl zb5 (zb6 ze xb xc L) L zdT [(V.agg z),(V.sl 5 A),(V.sc (.bool C))] [] k=zjN ze xb xc L z A C (fun z=>k (V.sc (.bool z)) []):=by
 refine (zzN ze xb xc L z A C k).trans ?_
 unfold zjN
 first
  | (simp only [znN,zss,ztd]; done)
  | (simp only [znN]; rfl)
abbrev zbf:=∀ (β:Type),Nat→List V→List (List V)→Bool→(Bool→Option β)→Option β
def yn(β:Type)(L:Nat)(A:List V)(C:List (List V))(D:Bool)(z:Bool→Option β):Option β:=zjN ze xb xc L A C D z
def zmZ(yn:zbf)(L:Nat)(β:Type)(args:List V)(bor:Bor)(k:KK β):Option β:=match args,bor with
 | [a0,a1,a2],[]=>aG a0 fun z=>aL 5 a1 fun A=>aB a2 fun C=>yn β L z A C (fun z=>k (V.sc (.bool z)) [])
 | _,_=>none
theorem zzU(L:Nat)(β:Type)(args:List V)(bor:Bor)(k:KK β)(r:β)(h:zmZ yn L β args bor k=some r):yl zb5 (zb6 ze xb xc L) L zdT args bor k=some r:=by
 unfold zmZ at h
 split at h
 ·have q:=xM h; clear h; obtain ⟨z,rfl,h⟩:=q
  have q:=zaF h; clear h; obtain ⟨A,rfl,h⟩:=q
  have q:=zuw h; clear h; obtain ⟨C,rfl,h⟩:=q
  exact (zz1 ze xb xc L z A C k).trans h
 ·cases h
def zeE:CC:=(.seq (.seq (.reg [Qh 18 (tq 3),Ql 19 32 (tq 1),Qj 20 1 (tq 19),Qr 21 (tq 20),Qp 22 .lss (tq 18) (tq 21)]) (.cond (tq 22) .skip (.seq (.mask (bl 0 35) (bl 25767706609 35)) (.exit 0)))) (.seq (.block 1 (.seq (.dreg [] [(Ql 25 33 (tq 1),q0),(Qj 26 1 (tq 25),ql 1 [] []),(Ql 27 32 (tq 1),q0),(Qj 28 1 (tq 27),ql 1 [] []),(Qh 29 (tq 3),q0),(Qo 30 5 (tq 28) (tq 29),q0),(Ql 31 1 (tq 30),q0),(Qk 32 3 (tq 31),qc [1] []),(Qs 33 287 [((tq 26),2),((tq 32),2)],q0),(Qp 34 .geq (tq 33) (Qf 0),q0)]) (.cond (tq 34) (.seq (.reg [Qh 2 (Qg false)]) (.seq (.mask (bl 4 35) (bl 25767706613 35)) .ret)) .skip))) (.reg [Qh 23 (tq 3),Qp 24 .add (tq 23) (Qf 1),Qh 3 (tq 24)])))
def zi0:CC:=(.seq (.reg [Qh 2 (Qg true)]) .ret)
def zdO:CF:=⟨35,[.tmp 2],(.seq (.reg [Qv 1 (tq 0),Qh 2 (Qg false)]) (.seq (.seq (.reg [Ql 4 0 (tq 1),Qk 5 32 (tq 4),Ql 6 32 (tq 1),Qj 7 1 (tq 6),Qs 8 302 [(Qw 5),(Qw 7),((Qg true),0)],Qt 9 (tq 8),Qh 10 (tq 9),⟨(some 11),false,(some (10,false)),.fieldAddr 0 (tq 1)⟩,⟨(some 12),false,(some (10,false)),.load true 32 (tq 11) false⟩,⟨(some 13),false,(some (10,false)),.fieldAddr 33 (tq 1)⟩,⟨(some 14),false,(some (10,false)),.load false 1 (tq 13) false⟩,⟨(some 15),false,(some (10,false)),.call 302 [(Qw 12),(Qw 14),((Qg false),0)] []⟩,⟨(some 16),false,(some (10,false)),.un .not (tq 15)⟩,oo 17 (.pick (tq 10) (Qg true) (tq 16))]) (.cond (tq 17) (.seq (.reg [Qh 2 (Qg false)]) .ret) .skip)) (.seq (.seq (.reg [Qh 3 (Qf 0)]) (.block 0 (.loop (bl 10 35) (bl 25767706619 35) zeE))) zi0)))⟩
def zsf:Hint:=⟨[(0,0),(6,8)],[],[none,none,none,some ((bl 10 35),(bl 25767706619 35)),none,some ((bl 0 35),(bl 25767706609 35)),none,none,some ((bl 4 35),(bl 25767706613 35)),none],[],[],false,false,[]⟩
def zb9:Nat→Sh:=yT [(7,(.sl 5)),(14,(.sl 5)),(20,(.sl 5)),(26,(.sl 5)),(28,(.sl 5))]
def zb8(yn:zbf)(xc:yH)(L:Nat):CBC:=(xy 287 (zgy xc L) (xy 302 (zmZ yn L) noC))
def zho:St→St:=zbd 0 (bl 10 35) (bl 25767706619 35)
def zfk(z:Int)(A:List V):St:=⟨(jn 1 ((V.ptr 1 0)::(jn 1 ((Qe z)::(jn 31 []))))),(gn 1 ((.live true A)::(gn 33 [])))⟩
def zk1(z:Bool):St:=⟨(jn 2 ((V.sc (.bool z))::(jn 32 []))),(gn 35 [])⟩
def zmj:St:=⟨(jn 35 []),(gn 35 [])⟩
def zrm{β:Type}(yn:zbf)(xc:yH)(L:Nat)(z:List V)(C:Bool→Option β)(A:Int→List V→Option β):Option β:=chk (0+32≤(XI z)) (cLd 5 z 32 fun D=>yn β L (XK 32 z) D true (fun E=>ifb (!E) (C false) (chk (0+32≤(XI z)) (cLd 5 z 33 fun F=>yn β L (XK 32 z) F false (fun G=>ifb (!G) (C false) (A (0:Int) z))))))
theorem zzI{β:Type}(yn:zbf)(xc:yH)(L:Nat)(z:List V)(k:KK β):yl zb9 (zb8 yn xc L) L zdO [(V.agg z)] [] k=zrm yn xc L z (fun z=>k (V.sc (.bool z)) []) (fun A C=>xE (xi zb9 (zb8 yn xc L) 0 L zeE) zho L (zfk A C) (zF 0 (zQ (xi zb9 (zb8 yn xc L) 0 L zi0) (xW 0 (CF.res zdO) k)))):=by kernel_rfl
def zkS{β:Type}(yn:zbf)(xc:yH)(L:Nat)(D:Int)(A:List V)(C:Bool→Option β)(z:Int→List V→Option β)(E:Option β):Option β:=cLd 5 A 32 fun F=>ifb (decide (D<((XI F:Nat):Int))) (cLd 5 A 33 fun G=>cLd 5 A 32 fun I=>idx I D fun J=>xc β L G (XK 3 (XL 1 J)) (fun M=>ifb (decide (M≥(0:Int))) (C false) (lt (QF .i64 ((D:Int)+(1:Int))) fun N=>z N A))) (E)
theorem zuA{β:Type}(yn:zbf)(xc:yH)(L:Nat)(z:Int)(A:List V)(X:St→Option β)(K:KT β):xi zb9 (zb8 yn xc L) 0 L zeE (zfk z A) (zcz zho X K)=zkS yn xc L z A (fun C=>K .ret (zk1 C)) (fun z A=>X (zfk z A)) (K (.exit 0) (zmj)):=by kernel_rfl
def znx{β:Type}(yn:zbf)(xc:yH)(L:Nat)(A:Bool)(z:Bool→Option β):Option β:=z A
theorem zsR{β:Type}(yn:zbf)(xc:yH)(L:Nat)(z:Bool)(k:KK β):(zF 0 (zQ (xi zb9 (zb8 yn xc L) 0 L zi0) (xW 0 (CF.res zdO) k))) .ret (zk1 z)=znx yn xc L z (fun A=>k (V.sc (.bool A)) []):=by kernel_rfl
def zog{β:Type}(yn:zbf)(xc:yH)(L:Nat)(z:Bool→Option β):Option β:=z true
theorem ztb{β:Type}(yn:zbf)(xc:yH)(L:Nat)(k:KK β):(zF 0 (zQ (xi zb9 (zb8 yn xc L) 0 L zi0) (xW 0 (CF.res zdO) k))) (.exit 0) (zmj)=zog yn xc L (fun z=>k (V.sc (.bool z)) []):=by kernel_rfl
def zfb{β:Type}(yn:zbf)(xc:yH)(L:Nat)(z:Bool→Option β)(A:Option β):Nat→Int→List V→Option β
 | 0,_,_=>none
 | n+1,C,D=>zkS yn xc L C D z (fun C D=>zfb yn xc L z A n C D) A
theorem znQ{β:Type}(yn:zbf)(xc:yH)(L:Nat)(K:KT β):∀ (n:Nat) (z:Int) (A:List V),xE (xi zb9 (zb8 yn xc L) 0 L zeE) zho n (zfk z A) K=zfb yn xc L (fun C=>K .ret (zk1 C)) (K (.exit 0) (zmj)) n z A:=by
 intro n
 induction n with
 | zero=>intros; rfl
 | succ n ih=>
  intro z A
  refine (zuA yn xc L z A (fun σ=>xE (xi zb9 (zb8 yn xc L) 0 L zeE) zho n σ K) K).trans ?_
  simp only [ih]
  rfl
def zmP{β:Type}(yn:zbf)(xc:yH)(L:Nat)(A:List V)(z:Bool→Option β):Option β:=zrm yn xc L A z (fun C D=>zfb yn xc L (fun E=>znx yn xc L E z) (zog yn xc L z) L C D)
theorem zzo{β:Type}(yn:zbf)(xc:yH)(L:Nat)(z:List V)(k:KK β):yl zb9 (zb8 yn xc L) L zdO [(V.agg z)] [] k=zmP yn xc L z (fun z=>k (V.sc (.bool z)) []):=by
 refine (zzI yn xc L z k).trans ?_
 unfold zmP
 first
  | (simp only [znQ,zsR,ztb]; done)
  | (simp only [znQ]; rfl)
abbrev zby:=∀ (β:Type),Nat→List V→(Bool→Option β)→Option β
def xp(β:Type)(L:Nat)(A:List V)(z:Bool→Option β):Option β:=zmP yn xc L A z
def zfz(xp:zby)(L:Nat)(β:Type)(args:List V)(bor:Bor)(k:KK β):Option β:=match args,bor with
 | [a0],[]=>aG a0 fun z=>xp β L z (fun z=>k (V.sc (.bool z)) [])
 | _,_=>none
theorem zzP(L:Nat)(β:Type)(args:List V)(bor:Bor)(k:KK β)(r:β)(h:zfz xp L β args bor k=some r):yl zb9 (zb8 yn xc L) L zdO args bor k=some r:=by
 unfold zfz at h
 split at h
 ·have q:=xM h; clear h; obtain ⟨z,rfl,h⟩:=q
  exact (zzo yn xc L z k).trans h
 ·cases h
end
end Go.Proofs.Ytbimgceighecgaa
