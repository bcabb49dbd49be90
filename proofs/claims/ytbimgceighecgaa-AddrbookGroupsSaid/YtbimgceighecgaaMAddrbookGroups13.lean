/- Part 13 of the proof of AddrbookGroups: an abstract machine over plain values, its soundness, and the functions of the program on plain values. -/
import Derived.Test.YtbimgceighecgaaMAddrbookGroups12
namespace Go.Proofs.Ytbimgceighecgaa
set_option linter.unusedVariables false
set_option linter.unusedSimpArgs false
open List renaming length->XG,take->XI,drop->XJ,flatten->XK,take_of_length_le->Xu,drop_eq_getElem_cons->WP,getElem?_eq_getElem->Wb,replicate->We,drop_of_length_le->WI,getElem?_append_right->Wt,replicate_zero->XR,map->Xt
open IntKind renaming wrap->QF
open Nat renaming reduceLeDiff->XO,zero_add->WB,le_refl->Wq,reduceAdd->XP,reduceMul->XQ
open Int renaming toNat->XH,tmod->XM
open Bool renaming true_and->XS
section
set_option maxRecDepth 100000
def zcE:CC:=(.seq (.seq (.reg [Qh 32 (tq 12),Qh 33 (tq 10),Qp 34 .lss (tq 32) (tq 33)]) (.cond (tq 34) .skip (.seq (.mask (bl 3420 84) (bl 19342813113834066795294719 84)) (.exit 0)))) (.seq (.block 1 (.seq (.dreg [] [(Ql 37 32 (tq 3),q0),(Qj 38 1 (tq 37),ql 3 [] []),(Qh 39 (tq 12),q0),(Qo 40 5 (tq 38) (tq 39),q0),(Ql 41 1 (tq 40),q0),(Ql 42 2 (tq 41),q0),(Qj 43 1 (tq 42),qc [3] []),(Ql 44 32 (tq 3),q0),(Qj 45 1 (tq 44),ql 3 [] []),(Qh 46 (tq 11),q0),(Qo 47 5 (tq 45) (tq 46),q0),(Ql 48 1 (tq 47),q0),(Ql 49 2 (tq 48),q0),(Qj 50 1 (tq 49),qc [3] []),(Qp 51 .lss (tq 43) (tq 50),q0)]) (.cond (tq 51) (.reg [Qh 52 (tq 12),Qh 11 (tq 52)]) .skip))) (.reg [Qh 35 (tq 12),Qp 36 .add (tq 35) (Qf 1),Qh 12 (tq 36)])))
def ziO:CC:=(.seq (.seq (.dreg [] [(Ql 53 32 (tq 3),q0),(Qj 54 1 (tq 53),ql 3 [4] []),(Qh 55 (tq 11),q0),(Qo 56 5 (tq 54) (tq 55),q0),(Ql 57 1 (tq 56),q0),(Ql 58 2 (tq 57),q0),(Qj 59 1 (tq 58),qc [4] []),(Ql 60 2 (tq 4),q0),(Qj 61 1 (tq 60),ql 4 [3] []),(Qp 62 .geq (tq 59) (tq 61),q0)]) (.cond (tq 62) (.seq (.reg [oo 63 (.load true 34 (tq 3) true),Qm 34 (tq 6) (tq 63),Qh 7 (Qg false)]) .ret) .skip)) (.seq (.reg [Ql 64 32 (tq 3),Qj 65 1 (tq 64),Qh 66 (tq 11),Qh 67 (tq 11),Qp 68 .add (tq 67) (Qf 1),⟨(some 69),true,none,.call 400 [((tq 65),2),((tq 66),2),((tq 68),2)] []⟩,Ql 70 32 (tq 3),Qm 1 (tq 70) (tq 69)]) (.reg [Qh 71 (tq 10),Qp 72 .sub (tq 71) (Qf 1),Qh 10 (tq 72)])))
def zlO:CC:=(.seq (.reg [Ql 73 32 (tq 3),Qj 74 1 (tq 73),Qh 75 (tq 10),Qh 76 (tq 8),Qk 77 3 (tq 4),Qh 78 (tq 2),oo 79 (.build [(.sc (.int .i64 0)),(.sc (.int .u32 0)),(.sc (.int .u16 0)),(.sc (.int .u32 0)),(.sc (.int .u32 0))] [(0,1,(tq 76)),(1,3,(tq 77)),(4,1,(tq 78))]),⟨(some 80),true,none,.buildSlice 5 1 [(.sc (.int .i64 0)),(.sc (.int .u32 0)),(.sc (.int .u16 0)),(.sc (.int .u32 0)),(.sc (.int .u32 0))] [(0,5,(tq 79))]⟩,⟨(some 81),true,none,.call 399 [((tq 74),2),((tq 75),2),((tq 80),2)] []⟩,Ql 82 32 (tq 3),Qm 1 (tq 82) (tq 81)]) (.seq (.reg [oo 83 (.load true 34 (tq 3) true),Qm 34 (tq 6) (tq 83),Qh 7 (Qg true)]) .ret))
def zej:CF:=zcw
def zaa:Nat→Sh:=xY [(43,(.int .u32)),(50,(.int .u32)),(59,(.int .u32)),(61,(.int .u32))]
def y9(zc:yu)(xd:yE)(ya:zi)(za:zh)(L:Nat):CBC:=(xD 400 (xX za L) (xD 399 (zaf ya L) (xD 398 (zem xd L) (xD 297 (zct zc L) noC))))
def zcL:St→St:=zaY 1 (bl 7516 84) (bl 19342813113834066795298815 84)
def zcd(p2 p8 a8 a9 ba:Int)(b0:List V)(aH aJ aK aN aQ aR aT aU aW aX A C D E F G I J M N O P Q R S U W X Y Z aa ab:Int)(z:Nat)(ac:List (List V))(b5:List V)(aY aZ a0 a1 a2 a3 a4 a5 a6 a7 ad ae af ag ah ai aj ak al am an ao ap aq ar au av aw ax ay az aC:Int)(aD aE:List (List V)):St:=⟨(jn 2 ((Qc p2)::((V.ptr 4 0)::((V.ptr 5 0)::(jn 1 ((V.ptr 7 0)::(jn 1 ((Qe p8)::(jn 1 ((Qe a8)::((Qe a9)::((Qe ba)::(jn 71 []))))))))))))),((.live true b0)::(gn 3 ((.live false [(Qa aH),(Qa aJ),(Qa aK),(Qa aN),(Qa aQ),(Qa aR),(Qa aT),(Qa aU),(Qa aW),(Qa aX),(Qa A),(Qa C),(Qa D),(Qa E),(Qa F),(Qa G),(Qa I),(Qa J),(Qa M),(Qa N),(Qa O),(Qa P),(Qa Q),(Qa R),(Qa S),(Qa U),(Qa W),(Qa X),(Qa Y),(Qa Z),(Qa aa),(Qa ab),(V.own 0 0 z 5),(V.sl 5 ac)])::((.live true b5)::(gn 1 ((.live false [(Qa aY),(Qa aZ),(Qa a0),(Qa a1),(Qa a2),(Qa a3),(Qa a4),(Qa a5),(Qa a6),(Qa a7),(Qa ad),(Qa ae),(Qa af),(Qa ag),(Qa ah),(Qa ai),(Qa aj),(Qa ak),(Qa al),(Qa am),(Qa an),(Qa ao),(Qa ap),(Qa aq),(Qa ar),(Qa au),(Qa av),(Qa aw),(Qa ax),(Qa ay),(Qa az),(Qa aC),(V.gs 5 aD),(V.gs 5 aE)])::(gn 77 [])))))))⟩
def zg4(p2 p8 a8 a9:Int)(b0:List V)(aH aJ aK aN aQ aR aT aU aW aX A C D E F G I J M N O P Q R S U W X Y Z aa ab:Int)(z:Nat)(ac:List (List V))(b5:List V)(aY aZ a0 a1 a2 a3 a4 a5 a6 a7 ad ae af ag ah ai aj ak al am an ao ap aq ar au av aw ax ay az aC:Int)(aD aE:List (List V)):St:=⟨(jn 2 ((Qc p2)::((V.ptr 4 0)::((V.ptr 5 0)::(jn 1 ((V.ptr 7 0)::(jn 1 ((Qe p8)::(jn 1 ((Qe a8)::((Qe a9)::(jn 72 [])))))))))))),((.live true b0)::(gn 3 ((.live false [(Qa aH),(Qa aJ),(Qa aK),(Qa aN),(Qa aQ),(Qa aR),(Qa aT),(Qa aU),(Qa aW),(Qa aX),(Qa A),(Qa C),(Qa D),(Qa E),(Qa F),(Qa G),(Qa I),(Qa J),(Qa M),(Qa N),(Qa O),(Qa P),(Qa Q),(Qa R),(Qa S),(Qa U),(Qa W),(Qa X),(Qa Y),(Qa Z),(Qa aa),(Qa ab),(V.own 0 0 z 5),(V.sl 5 ac)])::((.live true b5)::(gn 1 ((.live false [(Qa aY),(Qa aZ),(Qa a0),(Qa a1),(Qa a2),(Qa a3),(Qa a4),(Qa a5),(Qa a6),(Qa a7),(Qa ad),(Qa ae),(Qa af),(Qa ag),(Qa ah),(Qa ai),(Qa aj),(Qa ak),(Qa al),(Qa am),(Qa an),(Qa ao),(Qa ap),(Qa aq),(Qa ar),(Qa au),(Qa av),(Qa aw),(Qa ax),(Qa ay),(Qa az),(Qa aC),(V.gs 5 aD),(V.gs 5 aE)])::(gn 77 [])))))))⟩
abbrev zho(β:Type):Type:=Int→Int→Int→Int→Int→List V→Int→Int→Int→Int→Int→Int→Int→Int→Int→Int→Int→Int→Int→Int→Int→Int→Int→Int→Int→Int→Int→Int→Int→Int→Int→Int→Int→Int→Int→Int→Int→Int→Nat→List (List V)→List V→Int→Int→Int→Int→Int→Int→Int→Int→Int→Int→Int→Int→Int→Int→Int→Int→Int→Int→Int→Int→Int→Int→Int→Int→Int→Int→Int→Int→Int→Int→Int→Int→List (List V)→List (List V)→Option β
abbrev zcv(β:Type):Type:=Int→Int→Int→Int→Int→Int→Int→Int→Int→Int→Int→Int→Int→Int→Int→Int→Int→Int→Int→Int→Int→Int→Int→Int→Int→Int→Int→Int→Int→Int→Int→Int→Nat→List (List V)→Bool→Nat→List V→Option β
abbrev ziw(β:Type):Type:=Int→Int→Int→Int→List V→Int→Int→Int→Int→Int→Int→Int→Int→Int→Int→Int→Int→Int→Int→Int→Int→Int→Int→Int→Int→Int→Int→Int→Int→Int→Int→Int→Int→Int→Int→Int→Int→Nat→List (List V)→List V→Int→Int→Int→Int→Int→Int→Int→Int→Int→Int→Int→Int→Int→Int→Int→Int→Int→Int→Int→Int→Int→Int→Int→Int→Int→Int→Int→Int→Int→Int→Int→Int→List (List V)→List (List V)→Option β
abbrev zd7(β:Type):Type:=Int→Int→Int→Int→Int→Int→Int→Int→Int→Int→Int→Int→Int→Int→Int→Int→Int→Int→Int→Int→Int→Int→Int→Int→Int→Int→Int→Int→Int→Int→Int→Int→Nat→List (List V)→Bool→List V→Option β
def zjL{β:Type}(zc:yu)(xd:yE)(ya:zi)(za:zh)(L:Nat)(ae af ag ah ai aj ak al am an C D E F G I J M N O P Q R S U W X Y Z aa ab ac:Int)(A:Nat)(ao:List (List V))(p1:List V)(p2:Int)(b0:List V)(z:zho β)(ar:zcv β):Option β:=chk (0+3≤(XG p1)) (zc β L [(Qa ae),(Qa af),(Qa ag),(Qa ah),(Qa ai),(Qa aj),(Qa ak),(Qa al),(Qa am),(Qa an),(Qa C),(Qa D),(Qa E),(Qa F),(Qa G),(Qa I),(Qa J),(Qa M),(Qa N),(Qa O),(Qa P),(Qa Q),(Qa R),(Qa S),(Qa U),(Qa W),(Qa X),(Qa Y),(Qa Z),(Qa aa),(Qa ab),(Qa ac)] (XI 3 p1) p2 (fun v0=>xd β L A v0 b0 (fun v1 v2 v3=>chk ([(XG v3)]=[(XG b0)]) (lt (QF .i64 ((v2:Int)-v1)) fun x4=>ifb (decide (x4≥(8:Int))) (lt (QF .i64 ((v1:Int)+(1:Int))) fun x5=>z p2 v0 v2 v1 x5 v3 ae af ag ah ai aj ak al am an C D E F G I J M N O P Q R S U W X Y Z aa ab ac A ao p1 (0:Int) (0:Int) (0:Int) (0:Int) (0:Int) (0:Int) (0:Int) (0:Int) (0:Int) (0:Int) (0:Int) (0:Int) (0:Int) (0:Int) (0:Int) (0:Int) (0:Int) (0:Int) (0:Int) (0:Int) (0:Int) (0:Int) (0:Int) (0:Int) (0:Int) (0:Int) (0:Int) (0:Int) (0:Int) (0:Int) (0:Int) (0:Int) ([]:List (List V)) ([]:List (List V))) (chk (0+3≤(XG p1)) (chk ((XG (XI 3 p1))=3∧1+3≤5) (chk (1=1∧4+1≤(XG (xg [(Qe v0),(Qc (0:Int)),(Qb (0:Int)),(Qc (0:Int)),(Qc (0:Int))] 1 (XI 3 p1)))) (chk ((XG (xg (xg [(Qe v0),(Qc (0:Int)),(Qb (0:Int)),(Qc (0:Int)),(Qc (0:Int))] 1 (XI 3 p1)) 4 [(Qc p2)]))=5∧0+5≤5) (ya β L A v2 1 v3 (XK (xh 5 1 (xg [(Qe (0:Int)),(Qc (0:Int)),(Qb (0:Int)),(Qc (0:Int)),(Qc (0:Int))] 0 (xg (xg [(Qe v0),(Qc (0:Int)),(Qb (0:Int)),(Qc (0:Int)),(Qc (0:Int))] 1 (XI 3 p1)) 4 [(Qc p2)])))) (fun v6 v7 v8=>chk ([v7,(XG v8)]=[(XG v3),(XG (XK (xh 5 1 (xg [(Qe (0:Int)),(Qc (0:Int)),(Qb (0:Int)),(Qc (0:Int)),(Qc (0:Int))] 0 (xg (xg [(Qe v0),(Qc (0:Int)),(Qb (0:Int)),(Qc (0:Int)),(Qc (0:Int))] 1 (XI 3 p1)) 4 [(Qc p2)])))))]) (ar ae af ag ah ai aj ak al am an C D E F G I J M N O P Q R S U W X Y Z aa ab ac (XG v6) ao true v7 (XK v6))))))))))))
theorem ztk{β:Type}(zc:yu)(xd:yE)(ya:zi)(za:zh)(L:Nat)(af z ag ah ai aj ak al am an C D E F G I J M N O P Q R S U W X Y Z aa ab ac:Int)(A:Nat)(ad:List (List V))(p1:List V)(p2:Int)(b0:List V)(k:KK β):yp zaa (y9 zc xd ya za L) L zej [(V.st [(Qa af),(Qa z),(Qa ag),(Qa ah),(Qa ai),(Qa aj),(Qa ak),(Qa al),(Qa am),(Qa an),(Qa C),(Qa D),(Qa E),(Qa F),(Qa G),(Qa I),(Qa J),(Qa M),(Qa N),(Qa O),(Qa P),(Qa Q),(Qa R),(Qa S),(Qa U),(Qa W),(Qa X),(Qa Y),(Qa Z),(Qa aa),(Qa ab),(Qa ac),(V.own 0 0 A 5),(V.sl 5 ad)]),(V.agg p1),(Qc p2)] [(.live true b0)] k=zjL zc xd ya za L af z ag ah ai aj ak al am an C D E F G I J M N O P Q R S U W X Y Z aa ab ac A ad p1 p2 b0 (fun p2 p8 bP bQ bR b0 bp bq br bt bu bv bw bz bC bD aq ar au av aw ax ay az aC aD aE aH aJ aK aN aQ aR aT aU aW aX aY ao aZ b5 bE bF bG bH bI bJ bK bL bM bN a0 a1 a2 a3 a4 a5 a6 a7 a8 a9 ba bb bc bd be bf bg bh bi bj bk bm bn bo=>yD (zj zaa (y9 zc xd ya za L) 1 L zcE) zcL L (zcd p2 p8 bP bQ bR b0 bp bq br bt bu bv bw bz bC bD aq ar au av aw ax ay az aC aD aE aH aJ aK aN aQ aR aT aU aW aX aY ao aZ b5 bE bF bG bH bI bJ bK bL bM bN a0 a1 a2 a3 a4 a5 a6 a7 a8 a9 ba bb bc bd be bf bg bh bi bj bk bm bn bo) (xB 0 (yN (zj zaa (y9 zc xd ya za L) 1 L ziO) (yN (zj zaa (y9 zc xd ya za L) 1 L zlO) (yU 1 (CF.res zej) k))))) (fun p0_0_0 p0_0_1 p0_0_2 p0_0_3 p0_0_4 p0_0_5 p0_0_6 p0_0_7 p0_0_8 p0_0_9 p0_0_10 p0_0_11 p0_0_12 p0_0_13 p0_0_14 p0_0_15 p0_0_16 p0_0_17 p0_0_18 p0_0_19 p0_0_20 p0_0_21 p0_0_22 p0_0_23 p0_0_24 p0_0_25 p0_0_26 p0_0_27 p0_0_28 p0_0_29 p0_0_30 p0_0_31 p0_0_32l p0_0_33 z b0 b1=>k (V.tup [(V.st [(Qa p0_0_0),(Qa p0_0_1),(Qa p0_0_2),(Qa p0_0_3),(Qa p0_0_4),(Qa p0_0_5),(Qa p0_0_6),(Qa p0_0_7),(Qa p0_0_8),(Qa p0_0_9),(Qa p0_0_10),(Qa p0_0_11),(Qa p0_0_12),(Qa p0_0_13),(Qa p0_0_14),(Qa p0_0_15),(Qa p0_0_16),(Qa p0_0_17),(Qa p0_0_18),(Qa p0_0_19),(Qa p0_0_20),(Qa p0_0_21),(Qa p0_0_22),(Qa p0_0_23),(Qa p0_0_24),(Qa p0_0_25),(Qa p0_0_26),(Qa p0_0_27),(Qa p0_0_28),(Qa p0_0_29),(Qa p0_0_30),(Qa p0_0_31),(V.own 1 0 p0_0_32l 5),(V.sl 5 p0_0_33)]),(V.sc (.bool z))]) [(.dead b0),(.live true b1)]):=by kernel_rfl
def zes{β:Type}(zc:yu)(xd:yE)(ya:zi)(za:zh)(L:Nat)(p2 p8 bb aK C:Int)(b0:List V)(aN aQ aR aT aU aW aX aY aZ a0 D E F G I J M N O P Q R S U W X Y Z aa ab ac ad:Int)(A:Nat)(ae:List (List V))(b5:List V)(a1 a2 a3 a4 a5 a6 a7 a8 a9 ba af ag ah ai aj ak al am an ao ap aq ar au av aw ax ay az aC aD aE:Int)(aH aJ:List (List V))(z:zho β)(bg:ziw β):Option β:=ifb (decide (C<bb)) (chk (0≤C∧C<((A:Nat):Int)) (cI .u32 b0 (((0+((XH C)*5))+1)+2) fun v9=>chk (0≤aK∧aK<((A:Nat):Int)) (cI .u32 b0 (((0+((XH aK)*5))+1)+2) fun bh=>ifb (decide (v9<bh)) (lt (QF .i64 ((C:Int)+(1:Int))) fun bi=>z p2 p8 bb C bi b0 aN aQ aR aT aU aW aX aY aZ a0 D E F G I J M N O P Q R S U W X Y Z aa ab ac ad A ae b5 a1 a2 a3 a4 a5 a6 a7 a8 a9 ba af ag ah ai aj ak al am an ao ap aq ar au av aw ax ay az aC aD aE aH aJ) (lt (QF .i64 ((C:Int)+(1:Int))) fun bj=>z p2 p8 bb aK bj b0 aN aQ aR aT aU aW aX aY aZ a0 D E F G I J M N O P Q R S U W X Y Z aa ab ac ad A ae b5 a1 a2 a3 a4 a5 a6 a7 a8 a9 ba af ag ah ai aj ak al am an ao ap aq ar au av aw ax ay az aC aD aE aH aJ)))) (bg p2 p8 bb aK b0 aN aQ aR aT aU aW aX aY aZ a0 D E F G I J M N O P Q R S U W X Y Z aa ab ac ad A ae b5 a1 a2 a3 a4 a5 a6 a7 a8 a9 ba af ag ah ai aj ak al am an ao ap aq ar au av aw ax ay az aC aD aE aH aJ)
theorem zmZ{β:Type}(zc:yu)(xd:yE)(ya:zi)(za:zh)(L:Nat)(p2 p8 a9 ba bb:Int)(b0:List V)(aJ aK aN aQ aR aT aU aW aX aY A C D E F G I J M N O P Q R S U W Y Z aa ab ac:Int)(z:Nat)(ad:List (List V))(b5:List V)(aZ a0 a1 a2 a3 a4 a5 a6 a7 a8 ae af ag ah ai aj ak al am an ao ap aq ar au av aw ax ay az aC aD:Int)(aE aH:List (List V))(X:St→Option β)(K:KT β):zj zaa (y9 zc xd ya za L) 1 L zcE (zcd p2 p8 a9 ba bb b0 aJ aK aN aQ aR aT aU aW aX aY A C D E F G I J M N O P Q R S U W Y Z aa ab ac z ad b5 aZ a0 a1 a2 a3 a4 a5 a6 a7 a8 ae af ag ah ai aj ak al am an ao ap aq ar au av aw ax ay az aC aD aE aH) (zbt zcL X K)=zes zc xd ya za L p2 p8 a9 ba bb b0 aJ aK aN aQ aR aT aU aW aX aY A C D E F G I J M N O P Q R S U W Y Z aa ab ac z ad b5 aZ a0 a1 a2 a3 a4 a5 a6 a7 a8 ae af ag ah ai aj ak al am an ao ap aq ar au av aw ax ay az aC aD aE aH (fun p2 p8 a9 ba bb b0 aJ aK aN aQ aR aT aU aW aX aY A C D E F G I J M N O P Q R S U W Y Z aa ab ac z ad b5 aZ a0 a1 a2 a3 a4 a5 a6 a7 a8 ae af ag ah ai aj ak al am an ao ap aq ar au av aw ax ay az aC aD aE aH=>X (zcd p2 p8 a9 ba bb b0 aJ aK aN aQ aR aT aU aW aX aY A C D E F G I J M N O P Q R S U W Y Z aa ab ac z ad b5 aZ a0 a1 a2 a3 a4 a5 a6 a7 a8 ae af ag ah ai aj ak al am an ao ap aq ar au av aw ax ay az aC aD aE aH)) (fun p2 p8 a9 ba b0 aJ aK aN aQ aR aT aU aW aX aY A C D E F G I J M N O P Q R S U W Y Z aa ab ac z ad b5 aZ a0 a1 a2 a3 a4 a5 a6 a7 a8 ae af ag ah ai aj ak al am an ao ap aq ar au av aw ax ay az aC aD aE aH=>K (.exit 0) (zg4 p2 p8 a9 ba b0 aJ aK aN aQ aR aT aU aW aX aY A C D E F G I J M N O P Q R S U W Y Z aa ab ac z ad b5 aZ a0 a1 a2 a3 a4 a5 a6 a7 a8 ae af ag ah ai aj ak al am an ao ap aq ar au av aw ax ay az aC aD aE aH)):=by kernel_rfl
def zd1{β:Type}(zc:yu)(xd:yE)(ya:zi)(za:zh)(L:Nat)(p2 p8 az A:Int)(b0:List V)(ag ah ai aj ak al am an ao ap D E F G I J M N O P Q R S U W X Y Z aa ab ac ad:Int)(z:Nat)(ae:List (List V))(C:List V)(bf bg bh bi bj bk bm bn bo bp aN aQ aR aT aU aW aX aY aZ a0 a1 a2 a3 a4 a5 a6 a7 a8 a9 ba bb bc:Int)(bd be:List (List V))(af:zd7 β)(av:zcv β):Option β:=chk (0≤A∧A<((z:Nat):Int)) (cI .u32 b0 (((0+((XH A)*5))+1)+2) fun aC=>cI .u32 C 2 fun aD=>ifb (decide (aC≥aD)) (af ag ah ai aj ak al am an ao ap D E F G I J M N O P Q R S U W X Y Z aa ab ac ad z ae false b0) (lt (QF .i64 ((A:Int)+(1:Int))) fun aE=>za β L z A aE b0 (fun aH aq=>chk ([(XG aq)]=[(XG b0)]) (lt (QF .i64 ((az:Int)-(1:Int))) fun aJ=>chk (0+3≤(XG C)) (chk ((XG (XI 3 C))=3∧1+3≤5) (chk (1=1∧4+1≤(XG (xg [(Qe p8),(Qc (0:Int)),(Qb (0:Int)),(Qc (0:Int)),(Qc (0:Int))] 1 (XI 3 C)))) (chk ((XG (xg (xg [(Qe p8),(Qc (0:Int)),(Qb (0:Int)),(Qc (0:Int)),(Qc (0:Int))] 1 (XI 3 C)) 4 [(Qc p2)]))=5∧0+5≤5) (ya β L aH aJ 1 aq (XK (xh 5 1 (xg [(Qe (0:Int)),(Qc (0:Int)),(Qb (0:Int)),(Qc (0:Int)),(Qc (0:Int))] 0 (xg (xg [(Qe p8),(Qc (0:Int)),(Qb (0:Int)),(Qc (0:Int)),(Qc (0:Int))] 1 (XI 3 C)) 4 [(Qc p2)])))) (fun aw ax aK=>chk ([ax,(XG aK)]=[(XG aq),(XG (XK (xh 5 1 (xg [(Qe (0:Int)),(Qc (0:Int)),(Qb (0:Int)),(Qc (0:Int)),(Qc (0:Int))] 0 (xg (xg [(Qe p8),(Qc (0:Int)),(Qb (0:Int)),(Qc (0:Int)),(Qc (0:Int))] 1 (XI 3 C)) 4 [(Qc p2)])))))]) (av ag ah ai aj ak al am an ao ap D E F G I J M N O P Q R S U W X Y Z aa ab ac ad (XG aw) ae true ax (XK aw)))))))))))
theorem zl1{β:Type}(zc:yu)(xd:yE)(ya:zi)(za:zh)(L:Nat)(p2 p8 ba bb:Int)(b0:List V)(aK aN aQ aR aT aU aW aX aY aZ C D E F G I J M N O P Q R S U W X Y Z aa ab ac:Int)(z:Nat)(ad:List (List V))(b5:List V)(a0 a1 a2 a3 a4 a5 a6 a7 a8 a9 ae af ag ah ai aj ak al am an ao ap aq ar au av aw ax ay az aC aD:Int)(aE aH:List (List V))(k:KK β):(xB 0 (yN (zj zaa (y9 zc xd ya za L) 1 L ziO) (yN (zj zaa (y9 zc xd ya za L) 1 L zlO) (yU 1 (CF.res zej) k)))) (.exit 0) (zg4 p2 p8 ba bb b0 aK aN aQ aR aT aU aW aX aY aZ C D E F G I J M N O P Q R S U W X Y Z aa ab ac z ad b5 a0 a1 a2 a3 a4 a5 a6 a7 a8 a9 ae af ag ah ai aj ak al am an ao ap aq ar au av aw ax ay az aC aD aE aH)=zd1 zc xd ya za L p2 p8 ba bb b0 aK aN aQ aR aT aU aW aX aY aZ C D E F G I J M N O P Q R S U W X Y Z aa ab ac z ad b5 a0 a1 a2 a3 a4 a5 a6 a7 a8 a9 ae af ag ah ai aj ak al am an ao ap aq ar au av aw ax ay az aC aD aE aH (fun p0_0_0 p0_0_1 p0_0_2 p0_0_3 p0_0_4 p0_0_5 p0_0_6 p0_0_7 p0_0_8 p0_0_9 p0_0_10 p0_0_11 p0_0_12 p0_0_13 p0_0_14 p0_0_15 p0_0_16 p0_0_17 p0_0_18 p0_0_19 p0_0_20 p0_0_21 p0_0_22 p0_0_23 p0_0_24 p0_0_25 p0_0_26 p0_0_27 p0_0_28 p0_0_29 p0_0_30 p0_0_31 p0_0_32l p0_0_33 A b0=>k (V.tup [(V.st [(Qa p0_0_0),(Qa p0_0_1),(Qa p0_0_2),(Qa p0_0_3),(Qa p0_0_4),(Qa p0_0_5),(Qa p0_0_6),(Qa p0_0_7),(Qa p0_0_8),(Qa p0_0_9),(Qa p0_0_10),(Qa p0_0_11),(Qa p0_0_12),(Qa p0_0_13),(Qa p0_0_14),(Qa p0_0_15),(Qa p0_0_16),(Qa p0_0_17),(Qa p0_0_18),(Qa p0_0_19),(Qa p0_0_20),(Qa p0_0_21),(Qa p0_0_22),(Qa p0_0_23),(Qa p0_0_24),(Qa p0_0_25),(Qa p0_0_26),(Qa p0_0_27),(Qa p0_0_28),(Qa p0_0_29),(Qa p0_0_30),(Qa p0_0_31),(V.own 0 0 p0_0_32l 5),(V.sl 5 p0_0_33)]),(V.sc (.bool A))]) [(.live true b0)]) (fun p0_0_0 p0_0_1 p0_0_2 p0_0_3 p0_0_4 p0_0_5 p0_0_6 p0_0_7 p0_0_8 p0_0_9 p0_0_10 p0_0_11 p0_0_12 p0_0_13 p0_0_14 p0_0_15 p0_0_16 p0_0_17 p0_0_18 p0_0_19 p0_0_20 p0_0_21 p0_0_22 p0_0_23 p0_0_24 p0_0_25 p0_0_26 p0_0_27 p0_0_28 p0_0_29 p0_0_30 p0_0_31 p0_0_32l p0_0_33 A b0 b1=>k (V.tup [(V.st [(Qa p0_0_0),(Qa p0_0_1),(Qa p0_0_2),(Qa p0_0_3),(Qa p0_0_4),(Qa p0_0_5),(Qa p0_0_6),(Qa p0_0_7),(Qa p0_0_8),(Qa p0_0_9),(Qa p0_0_10),(Qa p0_0_11),(Qa p0_0_12),(Qa p0_0_13),(Qa p0_0_14),(Qa p0_0_15),(Qa p0_0_16),(Qa p0_0_17),(Qa p0_0_18),(Qa p0_0_19),(Qa p0_0_20),(Qa p0_0_21),(Qa p0_0_22),(Qa p0_0_23),(Qa p0_0_24),(Qa p0_0_25),(Qa p0_0_26),(Qa p0_0_27),(Qa p0_0_28),(Qa p0_0_29),(Qa p0_0_30),(Qa p0_0_31),(V.own 1 0 p0_0_32l 5),(V.sl 5 p0_0_33)]),(V.sc (.bool A))]) [(.dead b0),(.live true b1)]):=by kernel_rfl
def zbI{β:Type}(zc:yu)(xd:yE)(ya:zi)(za:zh)(L:Nat)(a8:ziw β):Nat→Int→Int→Int→Int→Int→List V→Int→Int→Int→Int→Int→Int→Int→Int→Int→Int→Int→Int→Int→Int→Int→Int→Int→Int→Int→Int→Int→Int→Int→Int→Int→Int→Int→Int→Int→Int→Int→Int→Nat→List (List V)→List V→Int→Int→Int→Int→Int→Int→Int→Int→Int→Int→Int→Int→Int→Int→Int→Int→Int→Int→Int→Int→Int→Int→Int→Int→Int→Int→Int→Int→Int→Int→Int→Int→List (List V)→List (List V)→Option β
 | 0,_,_,_,_,_,_,_,_,_,_,_,_,_,_,_,_,_,_,_,_,_,_,_,_,_,_,_,_,_,_,_,_,_,_,_,_,_,_,_,_,_,_,_,_,_,_,_,_,_,_,_,_,_,_,_,_,_,_,_,_,_,_,_,_,_,_,_,_,_,_,_,_,_,_,_=>none
 | n+1,p2,p8,a9,ba,bb,b0,aH,aJ,aK,aN,aQ,aR,aT,aU,aW,aX,A,C,D,E,F,G,I,J,M,N,O,P,Q,R,S,U,W,X,Y,Z,aa,ab,z,ac,b5,aY,aZ,a0,a1,a2,a3,a4,a5,a6,a7,ad,ae,af,ag,ah,ai,aj,ak,al,am,an,ao,ap,aq,ar,au,av,aw,ax,ay,az,aC,aD,aE=>zes zc xd ya za L p2 p8 a9 ba bb b0 aH aJ aK aN aQ aR aT aU aW aX A C D E F G I J M N O P Q R S U W X Y Z aa ab z ac b5 aY aZ a0 a1 a2 a3 a4 a5 a6 a7 ad ae af ag ah ai aj ak al am an ao ap aq ar au av aw ax ay az aC aD aE (fun p2 p8 a9 ba bb b0 aH aJ aK aN aQ aR aT aU aW aX A C D E F G I J M N O P Q R S U W X Y Z aa ab z ac b5 aY aZ a0 a1 a2 a3 a4 a5 a6 a7 ad ae af ag ah ai aj ak al am an ao ap aq ar au av aw ax ay az aC aD aE=>zbI zc xd ya za L a8 n p2 p8 a9 ba bb b0 aH aJ aK aN aQ aR aT aU aW aX A C D E F G I J M N O P Q R S U W X Y Z aa ab z ac b5 aY aZ a0 a1 a2 a3 a4 a5 a6 a7 ad ae af ag ah ai aj ak al am an ao ap aq ar au av aw ax ay az aC aD aE) a8
theorem zgn{β:Type}(zc:yu)(xd:yE)(ya:zi)(za:zh)(L:Nat)(K:KT β):∀ (n:Nat) (p2 p8 a8 a9 ba:Int) (b0:List V) (aH aJ aK aN aQ aR aT aU aW aX A C D E F G I J M N O P Q R S U W X Y Z aa ab:Int) (z:Nat) (ac:List (List V)) (b5:List V) (aY aZ a0 a1 a2 a3 a4 a5 a6 a7 ad ae af ag ah ai aj ak al am an ao ap aq ar au av aw ax ay az aC:Int) (aD aE:List (List V)),yD (zj zaa (y9 zc xd ya za L) 1 L zcE) zcL n (zcd p2 p8 a8 a9 ba b0 aH aJ aK aN aQ aR aT aU aW aX A C D E F G I J M N O P Q R S U W X Y Z aa ab z ac b5 aY aZ a0 a1 a2 a3 a4 a5 a6 a7 ad ae af ag ah ai aj ak al am an ao ap aq ar au av aw ax ay az aC aD aE) K=zbI zc xd ya za L (fun p2 p8 a8 a9 b0 aH aJ aK aN aQ aR aT aU aW aX A C D E F G I J M N O P Q R S U W X Y Z aa ab z ac b5 aY aZ a0 a1 a2 a3 a4 a5 a6 a7 ad ae af ag ah ai aj ak al am an ao ap aq ar au av aw ax ay az aC aD aE=>K (.exit 0) (zg4 p2 p8 a8 a9 b0 aH aJ aK aN aQ aR aT aU aW aX A C D E F G I J M N O P Q R S U W X Y Z aa ab z ac b5 aY aZ a0 a1 a2 a3 a4 a5 a6 a7 ad ae af ag ah ai aj ak al am an ao ap aq ar au av aw ax ay az aC aD aE)) n p2 p8 a8 a9 ba b0 aH aJ aK aN aQ aR aT aU aW aX A C D E F G I J M N O P Q R S U W X Y Z aa ab z ac b5 aY aZ a0 a1 a2 a3 a4 a5 a6 a7 ad ae af ag ah ai aj ak al am an ao ap aq ar au av aw ax ay az aC aD aE:=by
 intro n
 induction n with
 | zero=>intros; rfl
 | succ n ih=>
  intro p2 p8 a8 a9 ba b0 aH aJ aK aN aQ aR aT aU aW aX A C D E F G I J M N O P Q R S U W X Y Z aa ab z ac b5 aY aZ a0 a1 a2 a3 a4 a5 a6 a7 ad ae af ag ah ai aj ak al am an ao ap aq ar au av aw ax ay az aC aD aE
  refine (zmZ zc xd ya za L p2 p8 a8 a9 ba b0 aH aJ aK aN aQ aR aT aU aW aX A C D E F G I J M N O P Q R S U W X Y Z aa ab z ac b5 aY aZ a0 a1 a2 a3 a4 a5 a6 a7 ad ae af ag ah ai aj ak al am an ao ap aq ar au av aw ax ay az aC aD aE (fun σ=>yD (zj zaa (y9 zc xd ya za L) 1 L zcE) zcL n σ K) K).trans ?_
  simp only [ih]
  rfl
def zgI{β:Type}(zc:yu)(xd:yE)(ya:zi)(za:zh)(L:Nat)(bI bJ bK bL bM bN bO bP bQ bR bf bg bh bi bj bk bm bn bo bp bq br bt bu bv bw bz bC bD bE bF bG:Int)(ba:Nat)(bH:List (List V))(p1:List V)(p2:Int)(b0:List V)(a8:zcv β)(a9:zd7 β):Option β:=zjL zc xd ya za L bI bJ bK bL bM bN bO bP bQ bR bf bg bh bi bj bk bm bn bo bp bq br bt bu bv bw bz bC bD bE bF bG ba bH p1 p2 b0 (fun p2 p8 bd be bU b0 aH aJ aK aN aQ aR aT aU aW aX A C D E F G I J M N O P Q R S U W X Y Z aa ab z ac b5 aY aZ a0 a1 a2 a3 a4 a5 a6 a7 ad ae af ag ah ai aj ak al am an ao ap aq ar au av aw ax ay az aC aD aE=>zbI zc xd ya za L (fun p2 p8 bd be b0 aH aJ aK aN aQ aR aT aU aW aX A C D E F G I J M N O P Q R S U W X Y Z aa ab z ac b5 aY aZ a0 a1 a2 a3 a4 a5 a6 a7 ad ae af ag ah ai aj ak al am an ao ap aq ar au av aw ax ay az aC aD aE=>zd1 zc xd ya za L p2 p8 bd be b0 aH aJ aK aN aQ aR aT aU aW aX A C D E F G I J M N O P Q R S U W X Y Z aa ab z ac b5 aY aZ a0 a1 a2 a3 a4 a5 a6 a7 ad ae af ag ah ai aj ak al am an ao ap aq ar au av aw ax ay az aC aD aE a9 a8) L p2 p8 bd be bU b0 aH aJ aK aN aQ aR aT aU aW aX A C D E F G I J M N O P Q R S U W X Y Z aa ab z ac b5 aY aZ a0 a1 a2 a3 a4 a5 a6 a7 ad ae af ag ah ai aj ak al am an ao ap aq ar au av aw ax ay az aC aD aE) a8
theorem ztm{β:Type}(zc:yu)(xd:yE)(ya:zi)(za:zh)(L:Nat)(ae z af ag ah ai aj ak al am C D E F G I J M N O P Q R S U W X Y Z aa ab ac:Int)(A:Nat)(ad:List (List V))(p1:List V)(p2:Int)(b0:List V)(k:KK β):yp zaa (y9 zc xd ya za L) L zej [(V.st [(Qa ae),(Qa z),(Qa af),(Qa ag),(Qa ah),(Qa ai),(Qa aj),(Qa ak),(Qa al),(Qa am),(Qa C),(Qa D),(Qa E),(Qa F),(Qa G),(Qa I),(Qa J),(Qa M),(Qa N),(Qa O),(Qa P),(Qa Q),(Qa R),(Qa S),(Qa U),(Qa W),(Qa X),(Qa Y),(Qa Z),(Qa aa),(Qa ab),(Qa ac),(V.own 0 0 A 5),(V.sl 5 ad)]),(V.agg p1),(Qc p2)] [(.live true b0)] k=zgI zc xd ya za L ae z af ag ah ai aj ak al am C D E F G I J M N O P Q R S U W X Y Z aa ab ac A ad p1 p2 b0 (fun p0_0_0 p0_0_1 p0_0_2 p0_0_3 p0_0_4 p0_0_5 p0_0_6 p0_0_7 p0_0_8 p0_0_9 p0_0_10 p0_0_11 p0_0_12 p0_0_13 p0_0_14 p0_0_15 p0_0_16 p0_0_17 p0_0_18 p0_0_19 p0_0_20 p0_0_21 p0_0_22 p0_0_23 p0_0_24 p0_0_25 p0_0_26 p0_0_27 p0_0_28 p0_0_29 p0_0_30 p0_0_31 p0_0_32l p0_0_33 z b0 b1=>k (V.tup [(V.st [(Qa p0_0_0),(Qa p0_0_1),(Qa p0_0_2),(Qa p0_0_3),(Qa p0_0_4),(Qa p0_0_5),(Qa p0_0_6),(Qa p0_0_7),(Qa p0_0_8),(Qa p0_0_9),(Qa p0_0_10),(Qa p0_0_11),(Qa p0_0_12),(Qa p0_0_13),(Qa p0_0_14),(Qa p0_0_15),(Qa p0_0_16),(Qa p0_0_17),(Qa p0_0_18),(Qa p0_0_19),(Qa p0_0_20),(Qa p0_0_21),(Qa p0_0_22),(Qa p0_0_23),(Qa p0_0_24),(Qa p0_0_25),(Qa p0_0_26),(Qa p0_0_27),(Qa p0_0_28),(Qa p0_0_29),(Qa p0_0_30),(Qa p0_0_31),(V.own 1 0 p0_0_32l 5),(V.sl 5 p0_0_33)]),(V.sc (.bool z))]) [(.dead b0),(.live true b1)]) (fun p0_0_0 p0_0_1 p0_0_2 p0_0_3 p0_0_4 p0_0_5 p0_0_6 p0_0_7 p0_0_8 p0_0_9 p0_0_10 p0_0_11 p0_0_12 p0_0_13 p0_0_14 p0_0_15 p0_0_16 p0_0_17 p0_0_18 p0_0_19 p0_0_20 p0_0_21 p0_0_22 p0_0_23 p0_0_24 p0_0_25 p0_0_26 p0_0_27 p0_0_28 p0_0_29 p0_0_30 p0_0_31 p0_0_32l p0_0_33 z b0=>k (V.tup [(V.st [(Qa p0_0_0),(Qa p0_0_1),(Qa p0_0_2),(Qa p0_0_3),(Qa p0_0_4),(Qa p0_0_5),(Qa p0_0_6),(Qa p0_0_7),(Qa p0_0_8),(Qa p0_0_9),(Qa p0_0_10),(Qa p0_0_11),(Qa p0_0_12),(Qa p0_0_13),(Qa p0_0_14),(Qa p0_0_15),(Qa p0_0_16),(Qa p0_0_17),(Qa p0_0_18),(Qa p0_0_19),(Qa p0_0_20),(Qa p0_0_21),(Qa p0_0_22),(Qa p0_0_23),(Qa p0_0_24),(Qa p0_0_25),(Qa p0_0_26),(Qa p0_0_27),(Qa p0_0_28),(Qa p0_0_29),(Qa p0_0_30),(Qa p0_0_31),(V.own 0 0 p0_0_32l 5),(V.sl 5 p0_0_33)]),(V.sc (.bool z))]) [(.live true b0)]):=by
 refine (ztk zc xd ya za L ae z af ag ah ai aj ak al am C D E F G I J M N O P Q R S U W X Y Z aa ab ac A ad p1 p2 b0 k).trans ?_
 unfold zgI
 first
  | (simp only [zgn,zl1]; done)
  | (simp only [zgn]; rfl)
abbrev zgF:=∀ (β:Type),Nat→Int→Int→Int→Int→Int→Int→Int→Int→Int→Int→Int→Int→Int→Int→Int→Int→Int→Int→Int→Int→Int→Int→Int→Int→Int→Int→Int→Int→Int→Int→Int→Int→Nat→List (List V)→List V→Int→List V→(Int→Int→Int→Int→Int→Int→Int→Int→Int→Int→Int→Int→Int→Int→Int→Int→Int→Int→Int→Int→Int→Int→Int→Int→Int→Int→Int→Int→Int→Int→Int→Int→Nat→List (List V)→Bool→Nat→List V→Option β)→(Int→Int→Int→Int→Int→Int→Int→Int→Int→Int→Int→Int→Int→Int→Int→Int→Int→Int→Int→Int→Int→Int→Int→Int→Int→Int→Int→Int→Int→Int→Int→Int→Nat→List (List V)→Bool→List V→Option β)→Option β
def xN(β:Type)(L:Nat)(af ag ah ai aj ak al am an ao C D E F G I J M N O P Q R S U W X Y Z aa ab ac:Int)(A:Nat)(ad:List (List V))(p1:List V)(p2:Int)(b0:List V)(ae:zcv β)(z:zd7 β):Option β:=zgI zc xd ya za L af ag ah ai aj ak al am an ao C D E F G I J M N O P Q R S U W X Y Z aa ab ac A ad p1 p2 b0 ae z
def zgK(xN:zgF)(L:Nat)(β:Type)(args:List V)(bor:Bor)(k:KK β):Option β:=match args,bor with
 | [(.st (a0_0::a0_1::a0_2::a0_3::a0_4::a0_5::a0_6::a0_7::a0_8::a0_9::a0_10::a0_11::a0_12::a0_13::a0_14::a0_15::a0_16::a0_17::a0_18::a0_19::a0_20::a0_21::a0_22::a0_23::a0_24::a0_25::a0_26::a0_27::a0_28::a0_29::a0_30::a0_31::a0_32::a0_33::[])),a1,a2],[(.live true A)]=>aI .u8 a0_0 fun af=>aI .u8 a0_1 fun z=>aI .u8 a0_2 fun ag=>aI .u8 a0_3 fun ah=>aI .u8 a0_4 fun ai=>aI .u8 a0_5 fun aj=>aI .u8 a0_6 fun ak=>aI .u8 a0_7 fun al=>aI .u8 a0_8 fun am=>aI .u8 a0_9 fun an=>aI .u8 a0_10 fun D=>aI .u8 a0_11 fun E=>aI .u8 a0_12 fun F=>aI .u8 a0_13 fun G=>aI .u8 a0_14 fun I=>aI .u8 a0_15 fun J=>aI .u8 a0_16 fun M=>aI .u8 a0_17 fun N=>aI .u8 a0_18 fun O=>aI .u8 a0_19 fun P=>aI .u8 a0_20 fun Q=>aI .u8 a0_21 fun R=>aI .u8 a0_22 fun S=>aI .u8 a0_23 fun U=>aI .u8 a0_24 fun W=>aI .u8 a0_25 fun X=>aI .u8 a0_26 fun Y=>aI .u8 a0_27 fun Z=>aI .u8 a0_28 fun aa=>aI .u8 a0_29 fun ab=>aI .u8 a0_30 fun ac=>aI .u8 a0_31 fun ad=>aO0 0 5 a0_32 fun C=>aL 5 a0_33 fun ae=>aG a1 fun p1=>aI .u32 a2 fun p2=>xN β L af z ag ah ai aj ak al am an D E F G I J M N O P Q R S U W X Y Z aa ab ac ad C ae p1 p2 A (fun p0_0_0 p0_0_1 p0_0_2 p0_0_3 p0_0_4 p0_0_5 p0_0_6 p0_0_7 p0_0_8 p0_0_9 p0_0_10 p0_0_11 p0_0_12 p0_0_13 p0_0_14 p0_0_15 p0_0_16 p0_0_17 p0_0_18 p0_0_19 p0_0_20 p0_0_21 p0_0_22 p0_0_23 p0_0_24 p0_0_25 p0_0_26 p0_0_27 p0_0_28 p0_0_29 p0_0_30 p0_0_31 p0_0_32l p0_0_33 z A b1=>k (V.tup [(V.st [(Qa p0_0_0),(Qa p0_0_1),(Qa p0_0_2),(Qa p0_0_3),(Qa p0_0_4),(Qa p0_0_5),(Qa p0_0_6),(Qa p0_0_7),(Qa p0_0_8),(Qa p0_0_9),(Qa p0_0_10),(Qa p0_0_11),(Qa p0_0_12),(Qa p0_0_13),(Qa p0_0_14),(Qa p0_0_15),(Qa p0_0_16),(Qa p0_0_17),(Qa p0_0_18),(Qa p0_0_19),(Qa p0_0_20),(Qa p0_0_21),(Qa p0_0_22),(Qa p0_0_23),(Qa p0_0_24),(Qa p0_0_25),(Qa p0_0_26),(Qa p0_0_27),(Qa p0_0_28),(Qa p0_0_29),(Qa p0_0_30),(Qa p0_0_31),(V.own 1 0 p0_0_32l 5),(V.sl 5 p0_0_33)]),(V.sc (.bool z))]) [(.dead A),(.live true b1)]) (fun p0_0_0 p0_0_1 p0_0_2 p0_0_3 p0_0_4 p0_0_5 p0_0_6 p0_0_7 p0_0_8 p0_0_9 p0_0_10 p0_0_11 p0_0_12 p0_0_13 p0_0_14 p0_0_15 p0_0_16 p0_0_17 p0_0_18 p0_0_19 p0_0_20 p0_0_21 p0_0_22 p0_0_23 p0_0_24 p0_0_25 p0_0_26 p0_0_27 p0_0_28 p0_0_29 p0_0_30 p0_0_31 p0_0_32l p0_0_33 z A=>k (V.tup [(V.st [(Qa p0_0_0),(Qa p0_0_1),(Qa p0_0_2),(Qa p0_0_3),(Qa p0_0_4),(Qa p0_0_5),(Qa p0_0_6),(Qa p0_0_7),(Qa p0_0_8),(Qa p0_0_9),(Qa p0_0_10),(Qa p0_0_11),(Qa p0_0_12),(Qa p0_0_13),(Qa p0_0_14),(Qa p0_0_15),(Qa p0_0_16),(Qa p0_0_17),(Qa p0_0_18),(Qa p0_0_19),(Qa p0_0_20),(Qa p0_0_21),(Qa p0_0_22),(Qa p0_0_23),(Qa p0_0_24),(Qa p0_0_25),(Qa p0_0_26),(Qa p0_0_27),(Qa p0_0_28),(Qa p0_0_29),(Qa p0_0_30),(Qa p0_0_31),(V.own 0 0 p0_0_32l 5),(V.sl 5 p0_0_33)]),(V.sc (.bool z))]) [(.live true A)])
 | _,_=>none
theorem zs8(L:Nat)(β:Type)(args:List V)(bor:Bor)(k:KK β)(r:β)(h:zgK xN L β args bor k=some r):yp zaa (y9 zc xd ya za L) L zej args bor k=some r:=by
 unfold zgK at h
 split at h
 ·have q:=xr h; clear h; obtain ⟨ad,rfl,h⟩:=q
  have q:=xr h; clear h; obtain ⟨ae,rfl,h⟩:=q
  have q:=xr h; clear h; obtain ⟨af,rfl,h⟩:=q
  have q:=xr h; clear h; obtain ⟨ag,rfl,h⟩:=q
  have q:=xr h; clear h; obtain ⟨ah,rfl,h⟩:=q
  have q:=xr h; clear h; obtain ⟨ai,rfl,h⟩:=q
  have q:=xr h; clear h; obtain ⟨aj,rfl,h⟩:=q
  have q:=xr h; clear h; obtain ⟨ak,rfl,h⟩:=q
  have q:=xr h; clear h; obtain ⟨al,rfl,h⟩:=q
  have q:=xr h; clear h; obtain ⟨am,rfl,h⟩:=q
  have q:=xr h; clear h; obtain ⟨A,rfl,h⟩:=q
  have q:=xr h; clear h; obtain ⟨C,rfl,h⟩:=q
  have q:=xr h; clear h; obtain ⟨D,rfl,h⟩:=q
  have q:=xr h; clear h; obtain ⟨E,rfl,h⟩:=q
  have q:=xr h; clear h; obtain ⟨F,rfl,h⟩:=q
  have q:=xr h; clear h; obtain ⟨G,rfl,h⟩:=q
  have q:=xr h; clear h; obtain ⟨I,rfl,h⟩:=q
  have q:=xr h; clear h; obtain ⟨J,rfl,h⟩:=q
  have q:=xr h; clear h; obtain ⟨M,rfl,h⟩:=q
  have q:=xr h; clear h; obtain ⟨N,rfl,h⟩:=q
  have q:=xr h; clear h; obtain ⟨O,rfl,h⟩:=q
  have q:=xr h; clear h; obtain ⟨P,rfl,h⟩:=q
  have q:=xr h; clear h; obtain ⟨Q,rfl,h⟩:=q
  have q:=xr h; clear h; obtain ⟨R,rfl,h⟩:=q
  have q:=xr h; clear h; obtain ⟨S,rfl,h⟩:=q
  have q:=xr h; clear h; obtain ⟨U,rfl,h⟩:=q
  have q:=xr h; clear h; obtain ⟨W,rfl,h⟩:=q
  have q:=xr h; clear h; obtain ⟨X,rfl,h⟩:=q
  have q:=xr h; clear h; obtain ⟨Y,rfl,h⟩:=q
  have q:=xr h; clear h; obtain ⟨Z,rfl,h⟩:=q
  have q:=xr h; clear h; obtain ⟨aa,rfl,h⟩:=q
  have q:=xr h; clear h; obtain ⟨ab,rfl,h⟩:=q
  have q:=zg7 h; clear h; obtain ⟨z,rfl,h⟩:=q
  have q:=za1 h; clear h; obtain ⟨ac,rfl,h⟩:=q
  have q:=zV h; clear h; obtain ⟨p1,rfl,h⟩:=q
  have q:=xr h; clear h; obtain ⟨p2,rfl,h⟩:=q
  exact (ztm zc xd ya za L ad ae af ag ah ai aj ak al am A C D E F G I J M N O P Q R S U W X Y Z aa ab z ac p1 p2 _ k).trans h
 ·cases h
def ziS:CF:=⟨78,[.cellS 4 34 true,.tmpP 5],(.seq (.reg [oo 2 (.box false (tq 0)),Qv 3 (tq 1),oo 4 (.alloc false (rp 32 (.sc (.int .u8 0)) (rp 2 (.gs 5 []) []))),Qh 5 (Qf 0)]) (.seq (.reg [Qk 12 34 (tq 2),Qk 13 3 (tq 3),oo 14 (.call 397 [((tq 12),1),(Qw 13)] [19,22]),Qi 11 (tq 14),Qq 15 (tq 11) 0,Qq 16 (tq 11) 1,Qq 17 (tq 11) 2,oo 6 (.alloc true [(.sc (.int .i64 0)),(.sc (.int .u32 0)),(.sc (.int .u16 0)),(.sc (.int .u32 0)),(.sc (.int .u32 0))]),Qm 34 (tq 2) (tq 15),Qm 5 (tq 6) (tq 16),Qh 7 (tq 17)]) (.seq (.seq (.reg [Qh 18 (tq 7),Qp 19 .neq (tq 18) (Qf 0)]) (.cond (tq 19) (.seq (.reg [oo 20 (.build (rp 32 (.sc (.int .u8 0)) (rp 2 (.sl 5 []) [])) []),Qh 21 (tq 7),Qm 34 (tq 4) (tq 20),Qh 5 (tq 21)]) .ret) .skip)) (.seq (.reg [Ql 22 0 (tq 2),Qk 23 32 (tq 22),Ql 24 1 (tq 6),Qk 25 3 (tq 24),Qs 26 299 [(Qw 23),(Qw 25)],Ql 27 0 (tq 6),Qm 1 (tq 27) (tq 26)]) (.seq (.reg [Ql 29 33 (tq 2),Qj 30 1 (tq 29),Ql 31 0 (tq 6),Qj 32 1 (tq 31),Qs 33 398 [((tq 30),2),((tq 32),2)],Qi 28 (tq 33),Qq 34 (tq 28) 0,Qq 35 (tq 28) 1,Qh 8 (tq 34),Qh 9 (tq 35)]) (.seq (.seq (.reg [Qh 36 (tq 9),Qh 37 (tq 8),Qp 38 .sub (tq 36) (tq 37),Qp 39 .lss (tq 38) (Qf 8)]) (.cond (tq 39) (.seq (.reg [Ql 40 33 (tq 2),Qj 41 1 (tq 40),Qh 42 (tq 9),Qk 43 5 (tq 6),⟨(some 44),true,none,.buildSlice 5 1 [(.sc (.int .i64 0)),(.sc (.int .u32 0)),(.sc (.int .u16 0)),(.sc (.int .u32 0)),(.sc (.int .u32 0))] [(0,5,(tq 43))]⟩,Qs 45 399 [((tq 41),2),((tq 42),2),((tq 44),2)],Ql 46 33 (tq 2),Qm 1 (tq 46) (tq 45)]) (.seq (.reg [oo 47 (.load true 34 (tq 2) true),Qm 34 (tq 4) (tq 47),Qh 5 (Qf 0)]) .ret)) .skip)) (.seq (.reg [Ql 48 33 (tq 2),Qj 49 1 (tq 48),Qh 50 (tq 8),Qo 51 5 (tq 49) (tq 50),Ql 52 1 (tq 51),Qk 53 3 (tq 52),oo 10 (.alloc true [(.sc (.int .u32 0)),(.sc (.int .u16 0)),(.sc (.int .u32 0))]),Qm 3 (tq 10) (tq 53)]) (.seq (.reg [Ql 54 33 (tq 2),Qj 55 1 (tq 54),Qh 56 (tq 8),Qh 57 (tq 8),Qp 58 .add (tq 57) (Qf 1),Qs 59 400 [((tq 55),2),((tq 56),2),((tq 58),2)],Ql 60 33 (tq 2),Qm 1 (tq 60) (tq 59)]) (.seq (.reg [Ql 61 33 (tq 2),Qj 62 1 (tq 61),Qh 63 (tq 9),Qp 64 .sub (tq 63) (Qf 1),Qk 65 5 (tq 6),⟨(some 66),true,none,.buildSlice 5 1 [(.sc (.int .i64 0)),(.sc (.int .u32 0)),(.sc (.int .u16 0)),(.sc (.int .u32 0)),(.sc (.int .u32 0))] [(0,5,(tq 65))]⟩,Qs 67 399 [((tq 62),2),((tq 64),2),((tq 66),2)],Ql 68 33 (tq 2),Qm 1 (tq 68) (tq 67)]) (.seq (.dreg [] [(oo 70 (.load true 34 (tq 2) true),ql 2 [10] []),(Qk 71 3 (tq 10),ql 10 [2] []),(Qk 72 3 (tq 10),ql 10 [2] []),(Qs 73 269 [(Qw 72)],qc [2,10] []),(oo 74 (.call 396 [((tq 70),3),((tq 71),2),((tq 73),2)] [24,27]),q0),(Qi 69 (tq 74),q0),(Qq 75 (tq 69) 0,q0),(Qq 76 (tq 69) 1,q0),(Qm 34 (tq 2) (tq 75),q0)]) (.seq (.reg [oo 77 (.load true 34 (tq 2) true),Qm 34 (tq 4) (tq 77),Qh 5 (Qf 0)]) .ret)))))))))))⟩
def zql:Hint:=⟨[(1,3),(5,4),(5,5),(7,5),(8,0),(10,5),(11,6),(12,0),(12,4),(12,5),(13,0)],[(7,4),(11,5)],[none,none,none,none,none],[],[(1,2,[19,22]),(12,4,[24,27])],true,true,[]⟩
def zmU:Nat→Sh:=xY [(2,(.row [(.int .u8),(.int .u8),(.int .u8),(.int .u8),(.int .u8),(.int .u8),(.int .u8),(.int .u8),(.int .u8),(.int .u8),(.int .u8),(.int .u8),(.int .u8),(.int .u8),(.int .u8),(.int .u8),(.int .u8),(.int .u8),(.int .u8),(.int .u8),(.int .u8),(.int .u8),(.int .u8),(.int .u8),(.int .u8),(.int .u8),(.int .u8),(.int .u8),(.int .u8),(.int .u8),(.int .u8),(.int .u8),(.sl 5),(.sl 5)])),(32,(.int .i64))]
def zmV(yV:zkh)(xp:zbz)(xR:zfT)(xt:za6)(xd:yE)(ya:zi)(za:zh)(zb:zm)(xN:zgF)(L:Nat):CBC:=(xD 396 (zgK xN L) (xD 269 (zcN zb L) (zwN 400 [8,1,1,20] (xX za L) (xD 399 (zaf ya L) (zwN 398 [8,1,20] (zem xd L) (zwN 400 [6,1,1] (za5 xt L) (zwN 398 [6,1] (zfR xR L) (xD 299 (zdu xp L) (xD 397 (zj5 yV L) noC)))))))))
def zkz{β:Type}(yV:zkh)(xp:zbz)(xR:zfT)(xt:za6)(xd:yE)(ya:zi)(za:zh)(zb:zm)(xN:zgF)(L:Nat)(z p1:List V)(E:List V→Int→Option β):Option β:=chk (XG z=34) (cI .u8 z 0 fun v0=>cI .u8 z 1 fun v1=>cI .u8 z 2 fun v2=>cI .u8 z 3 fun v3=>cI .u8 z 4 fun v4=>cI .u8 z 5 fun v5=>cI .u8 z 6 fun v6=>cI .u8 z 7 fun v7=>cI .u8 z 8 fun v8=>cI .u8 z 9 fun v9=>cI .u8 z 10 fun co=>cI .u8 z 11 fun cp=>cI .u8 z 12 fun cq=>cI .u8 z 13 fun cr=>cI .u8 z 14 fun ct=>cI .u8 z 15 fun cu=>cI .u8 z 16 fun cv=>cI .u8 z 17 fun cw=>cI .u8 z 18 fun cx=>cI .u8 z 19 fun cy=>cI .u8 z 20 fun cz=>cI .u8 z 21 fun cA=>cI .u8 z 22 fun cC=>cI .u8 z 23 fun cD=>cI .u8 z 24 fun cE=>cI .u8 z 25 fun cF=>cI .u8 z 26 fun cH=>cI .u8 z 27 fun cJ=>cI .u8 z 28 fun cM=>cI .u8 z 29 fun cN=>cI .u8 z 30 fun cO=>cI .u8 z 31 fun cP=>cL 5 z 32 fun cQ=>cL 5 z 33 fun cR=>chk (0+3≤(XG p1)) (yV β L [(Qa v0),(Qa v1),(Qa v2),(Qa v3),(Qa v4),(Qa v5),(Qa v6),(Qa v7),(Qa v8),(Qa v9),(Qa co),(Qa cp),(Qa cq),(Qa cr),(Qa ct),(Qa cu),(Qa cv),(Qa cw),(Qa cx),(Qa cy),(Qa cz),(Qa cA),(Qa cC),(Qa cD),(Qa cE),(Qa cF),(Qa cH),(Qa cJ),(Qa cM),(Qa cN),(Qa cO),(Qa cP),(V.sl 5 cQ),(V.sl 5 cR)] (XI 3 p1) (fun cU cV cW cX cY cZ c4 c5 c6 c7 c8 c9 da db dc dd de dg dh di dj dk dl dm dn dp dq dr ds dt du dv dO ah aQ aR=>chk ((XG aQ)=5∧0+5≤5) (lt (xg [(Qe (0:Int)),(Qc (0:Int)),(Qb (0:Int)),(Qc (0:Int)),(Qc (0:Int))] 0 aQ) fun af=>ifb ((aR:Int) != (0:Int)) (E (We 32 (Qa (0:Int))++[(V.sl 5 ([]:List (List V))),(V.sl 5 ([]:List (List V)))]) aR) (chk (1+3≤(XG af)) (xp β L [(Qa cU),(Qa cV),(Qa cW),(Qa cX),(Qa cY),(Qa cZ),(Qa c4),(Qa c5),(Qa c6),(Qa c7),(Qa c8),(Qa c9),(Qa da),(Qa db),(Qa dc),(Qa dd),(Qa de),(Qa dg),(Qa dh),(Qa di),(Qa dj),(Qa dk),(Qa dl),(Qa dm),(Qa dn),(Qa dp),(Qa dq),(Qa dr),(Qa ds),(Qa dt),(Qa du),(Qa dv)] (XI 3 (XJ 1 af)) (fun dw=>chk (1=1∧0+1≤(XG af)) (lt (xg af 0 [(Qe dw)]) fun M=>cI .i64 M 0 fun dx=>xR β L ah dx (fun ag aT=>lt (QF .i64 ((aT:Int)-ag)) fun dy=>ifb (decide (dy<(8:Int))) (chk (0+5≤(XG M)) (chk ((XG (XI 5 M))=5∧0+5≤5) (none))) (idx ah ag fun aU=>chk ((XG (XI 3 (XJ 1 aU)))=3∧0+3≤3) (lt (xg [(Qc (0:Int)),(Qb (0:Int)),(Qc (0:Int))] 0 (XI 3 (XJ 1 aU))) fun dP=>lt (QF .i64 ((ag:Int)+(1:Int))) fun dz=>xt β L ah ag dz (fun dQ=>lt (QF .i64 ((aT:Int)-(1:Int))) fun dR=>chk (0+5≤(XG M)) (chk ((XG (XI 5 M))=5∧0+5≤5) (none)))))))))))) (fun ai aj ak al am an ao ap aq ar au av aw ax ay az aC aD N O P Q R S U W X Y Z aa ab ac aE F aH aJ G aK=>chk ((XG aH)=5∧0+5≤5) (lt (xg [(Qe (0:Int)),(Qc (0:Int)),(Qb (0:Int)),(Qc (0:Int)),(Qc (0:Int))] 0 aH) fun I=>ifb ((aJ:Int) != (0:Int)) (E (We 32 (Qa (0:Int))++[(V.sl 5 ([]:List (List V))),(V.sl 5 ([]:List (List V)))]) aJ) (chk (1+3≤(XG I)) (xp β L [(Qa ai),(Qa aj),(Qa ak),(Qa al),(Qa am),(Qa an),(Qa ao),(Qa ap),(Qa aq),(Qa ar),(Qa au),(Qa av),(Qa aw),(Qa ax),(Qa ay),(Qa az),(Qa aC),(Qa aD),(Qa N),(Qa O),(Qa P),(Qa Q),(Qa R),(Qa S),(Qa U),(Qa W),(Qa X),(Qa Y),(Qa Z),(Qa aa),(Qa ab),(Qa ac)] (XI 3 (XJ 1 I)) (fun aW=>chk (1=1∧0+1≤(XG I)) (lt (xg I 0 [(Qe aW)]) fun A=>cI .i64 A 0 fun aX=>xd β L F aX aK (fun C ad D=>chk ([(XG D)]=[(XG aK)]) (lt (QF .i64 ((ad:Int)-C)) fun aY=>ifb (decide (aY<(8:Int))) (chk (0+5≤(XG A)) (chk ((XG (XI 5 A))=5∧0+5≤5) (ya β L F ad 1 D (XK (xh 5 1 (xg [(Qe (0:Int)),(Qc (0:Int)),(Qb (0:Int)),(Qc (0:Int)),(Qc (0:Int))] 0 (XI 5 A)))) (fun aZ a0 a1=>chk ([a0,(XG a1)]=[(XG D),(XG (XK (xh 5 1 (xg [(Qe (0:Int)),(Qc (0:Int)),(Qb (0:Int)),(Qc (0:Int)),(Qc (0:Int))] 0 (XI 5 A)))))]) (E [(Qa ai),(Qa aj),(Qa ak),(Qa al),(Qa am),(Qa an),(Qa ao),(Qa ap),(Qa aq),(Qa ar),(Qa au),(Qa av),(Qa aw),(Qa ax),(Qa ay),(Qa az),(Qa aC),(Qa aD),(Qa N),(Qa O),(Qa P),(Qa Q),(Qa R),(Qa S),(Qa U),(Qa W),(Qa X),(Qa Y),(Qa Z),(Qa aa),(Qa ab),(Qa ac),(V.sl 5 (xh 5 aE G)),(V.sl 5 aZ)] (0:Int)))))) (chk (0≤C∧C<((F:Nat):Int)) (chk (((0+((XH C)*5))+1)+3≤(XG D)) (chk ((XG (XI 3 (XJ ((0+((XH C)*5))+1) D)))=3∧0+3≤3) (lt (xg [(Qc (0:Int)),(Qb (0:Int)),(Qc (0:Int))] 0 (XI 3 (XJ ((0+((XH C)*5))+1) D))) fun J=>lt (QF .i64 ((C:Int)+(1:Int))) fun a2=>za β L F C a2 D (fun a3 ae=>chk ([(XG ae)]=[(XG D)]) (lt (QF .i64 ((ad:Int)-(1:Int))) fun a4=>chk (0+5≤(XG A)) (chk ((XG (XI 5 A))=5∧0+5≤5) (ya β L a3 a4 1 ae (XK (xh 5 1 (xg [(Qe (0:Int)),(Qc (0:Int)),(Qb (0:Int)),(Qc (0:Int)),(Qc (0:Int))] 0 (XI 5 A)))) (fun a5 a6 a7=>chk ([a6,(XG a7)]=[(XG ae),(XG (XK (xh 5 1 (xg [(Qe (0:Int)),(Qc (0:Int)),(Qb (0:Int)),(Qc (0:Int)),(Qc (0:Int))] 0 (XI 5 A)))))]) (chk (0+3≤(XG J)) (chk (0+3≤(XG J)) (zb β L (XI 3 J) (fun a8=>xN β L ai aj ak al am an ao ap aq ar au av aw ax ay az aC aD N O P Q R S U W X Y Z aa ab ac aE a5 (XI 3 J) a8 G (fun a9 ba bb bc bd be bf bg bh bi bj bk bm bn bo bp bq br bt bu bv bw bz bC bD bE bF bG bH bI bJ bK bL bM dM bN bO=>chk ([bN]=[(XG G)]) (E [(Qa a9),(Qa ba),(Qa bb),(Qa bc),(Qa bd),(Qa be),(Qa bf),(Qa bg),(Qa bh),(Qa bi),(Qa bj),(Qa bk),(Qa bm),(Qa bn),(Qa bo),(Qa bp),(Qa bq),(Qa br),(Qa bt),(Qa bu),(Qa bv),(Qa bw),(Qa bz),(Qa bC),(Qa bD),(Qa bE),(Qa bF),(Qa bG),(Qa bH),(Qa bI),(Qa bJ),(Qa bK),(V.sl 5 (xh 5 bL bO)),(V.sl 5 bM)] (0:Int))) (fun bP bQ bR bS bT bU bV bW bX bY bZ b0 b1 b2 b3 b4 b5 b6 b7 b8 b9 ca cb cc cd ce cf cg ch ci cj ck cl cm dN aN=>chk ([(XG aN)]=[(XG G)]) (E [(Qa bP),(Qa bQ),(Qa bR),(Qa bS),(Qa bT),(Qa bU),(Qa bV),(Qa bW),(Qa bX),(Qa bY),(Qa bZ),(Qa b0),(Qa b1),(Qa b2),(Qa b3),(Qa b4),(Qa b5),(Qa b6),(Qa b7),(Qa b8),(Qa b9),(Qa ca),(Qa cb),(Qa cc),(Qa cd),(Qa ce),(Qa cf),(Qa cg),(Qa ch),(Qa ci),(Qa cj),(Qa ck),(V.sl 5 (xh 5 cl aN)),(V.sl 5 cm)] (0:Int))))))))))))))))))))))))))
theorem zwF{β:Type}(yV:zkh)(xp:zbz)(xR:zfT)(xt:za6)(xd:yE)(ya:zi)(za:zh)(zb:zm)(xN:zgF)(L:Nat)(C D:List V)(k:KK β):yp zmU (zmV yV xp xR xt xd ya za zb xN L) L ziS [(V.agg C),(V.agg D)] [] k=zkz yV xp xR xt xd ya za zb xN L C D (fun z A=>k (V.tup [(V.agg z),(Qe A)]) []):=by kernel_rfl
abbrev yy:=∀ (β:Type),Nat→List V→List V→(List V→Int→Option β)→Option β
def zd(β:Type)(L:Nat)(A C:List V)(z:List V→Int→Option β):Option β:=zkz yV xp xR xt xd ya za zb xN L A C z
def zky(zd:yy)(L:Nat)(β:Type)(args:List V)(bor:Bor)(k:KK β):Option β:=match args,bor with
 | [a0,a1],[]=>aG a0 fun C=>aG a1 fun D=>zd β L C D (fun z A=>k (V.tup [(V.agg z),(Qe A)]) [])
 | _,_=>none
theorem zwH(L:Nat)(β:Type)(args:List V)(bor:Bor)(k:KK β)(r:β)(h:zky zd L β args bor k=some r):yp zmU (zmV yV xp xR xt xd ya za zb xN L) L ziS args bor k=some r:=by
 unfold zky at h
 split at h
 ·have q:=zV h; clear h; obtain ⟨z,rfl,h⟩:=q
  have q:=zV h; clear h; obtain ⟨A,rfl,h⟩:=q
  exact (zwF yV xp xR xt xd ya za zb xN L z A k).trans h
 ·cases h
def zae:CC:=(.seq (.reg [Qp 80 .lss (tq 79) (tq 78)]) (.seq (.cond (tq 80) .skip (.seq (.mask (bl 64563604257983447106 107) (bl 162259276829213363391578009955567 107)) (.exit 4))) (.seq (.block 5 (.seq (.reg [Qo 81 5 (tq 77) (tq 79),Qk 82 5 (tq 81),oo 18 (.alloc true [(.sc (.int .i64 0)),(.sc (.int .u32 0)),(.sc (.int .u16 0)),(.sc (.int .u32 0)),(.sc (.int .u32 0))]),Qm 5 (tq 18) (tq 82)]) (.seq (.reg [Ql 83 1 (tq 16),Ql 84 0 (tq 83),Qj 85 1 (tq 84),Ql 86 1 (tq 18),Ql 87 0 (tq 86),Qj 88 1 (tq 87),Qp 89 .eql (tq 85) (tq 88),Qh 90 (tq 89),⟨(some 91),false,(some (90,true)),.fieldAddr 1 (tq 16)⟩,⟨(some 92),false,(some (90,true)),.fieldAddr 1 (tq 91)⟩,⟨(some 93),false,(some (90,true)),.load false 1 (tq 92) false⟩,⟨(some 94),false,(some (90,true)),.fieldAddr 1 (tq 18)⟩,⟨(some 95),false,(some (90,true)),.fieldAddr 1 (tq 94)⟩,⟨(some 96),false,(some (90,true)),.load false 1 (tq 95) false⟩,⟨(some 97),false,(some (90,true)),.bin .eql (tq 93) (tq 96)⟩,oo 98 (.pick (tq 90) (tq 97) (Qg false))]) (.cond (tq 98) (.seq (.reg [Qh 4 (Qg false)]) (.seq (.mask (bl 16 107) (bl 162259276524620725246485893655743 107)) .ret)) .skip)))) (.reg [Qp 99 .add (tq 79) (Qf 1),Qh 79 (tq 99)]))))
def zbv:CC:=(.reg [Qp 100 .add (tq 65) (Qf 1),Qh 65 (tq 100)])
def zar:CC:=(.seq (.reg [Qp 66 .lss (tq 65) (tq 64)]) (.seq (.cond (tq 66) .skip (.seq (.mask (bl 16448 107) (bl 162259276524620725246485893672175 107)) (.exit 2))) (.seq (.block 3 (.seq (.reg [Qo 67 5 (tq 63) (tq 65),Qk 68 5 (tq 67),oo 16 (.alloc true [(.sc (.int .i64 0)),(.sc (.int .u32 0)),(.sc (.int .u16 0)),(.sc (.int .u32 0)),(.sc (.int .u32 0))]),Qm 5 (tq 16) (tq 68)]) (.seq (.seq (.reg [Ql 69 1 (tq 16),Qk 70 3 (tq 69),Qs 71 269 [(Qw 70)],Qh 72 (tq 1),Qp 73 .eql (tq 71) (tq 72)]) (.cond (tq 73) (.reg [Qh 74 (tq 14),Qp 75 .add (tq 74) (Qf 1),Qh 14 (tq 75)]) .skip)) (.seq (.reg [Ql 76 32 (tq 6),Qj 77 1 (tq 76),Qr 78 (tq 77),Qh 79 (Qf 0)]) (.block 4 (.loop (bl 1057874655767058511380546 107) (bl 162259276829213363391578010021103 107) zae)))))) zbv)))
def zbn:CC:=(.seq (.seq (.reg [Qh 28 (tq 7),Qp 29 .lss (tq 28) (Qf 45)]) (.cond (tq 29) .skip (.seq (.mask (bl 66 107) (bl 162259276829212857932613703876719 107)) (.exit 0)))) (.seq (.block 1 (.seq (.reg [Qh 32 (tq 1),oo 33 (.bin .shl (tq 32) (.const (.sc (.int .u64 16)))),Qh 34 (tq 7),Qu 35 .u32 (tq 34),Qp 36 .add (tq 33) (tq 35),Qh 37 (tq 5),Qs 38 231 [(Qw 37),((Qf 3),0)],Qu 39 .u16 (tq 38),oo 40 (.build [(.sc (.int .u32 0)),(.sc (.int .u16 0)),(.sc (.int .u32 0))] [(0,1,(tq 36)),(1,1,(tq 39))]),oo 8 (.alloc true [(.sc (.int .u32 0)),(.sc (.int .u16 0)),(.sc (.int .u32 0))]),Qm 3 (tq 8) (tq 40)]) (.seq (.reg [Qk 42 34 (tq 6),Qk 43 3 (tq 8),Qh 44 (tq 7),Qu 45 .u32 (tq 44),Qs 46 382 [((tq 42),1),(Qw 43),(Qw 45)],Qi 41 (tq 46),Qq 47 (tq 41) 0,Qq 48 (tq 41) 1,Qq 49 (tq 41) 2,oo 9 (.alloc true (rp 32 (.sc (.int .u8 0)) (rp 2 (.gs 5 []) []))),Qm 34 (tq 9) (tq 47),Qh 10 (tq 48),Qh 11 (tq 49)]) (.seq (.seq (.reg [Qh 50 (tq 11),Qp 51 .neq (tq 50) (Qf 0)]) (.cond (tq 51) (.seq (.reg [Qh 4 (Qg false)]) (.seq (.mask (bl 16 107) (bl 162259276829212857932613703876671 107)) .ret)) .skip)) (.seq (.reg [Qk 52 34 (tq 9),Qm 34 (tq 6) (tq 52)]) (.seq (.reg [Qk 54 34 (tq 6),Qk 55 3 (tq 8),Qs 56 389 [((tq 54),1),(Qw 55)],Qi 53 (tq 56),Qq 57 (tq 53) 0,Qq 58 (tq 53) 1,oo 12 (.alloc true (rp 32 (.sc (.int .u8 0)) (rp 2 (.gs 5 []) []))),Qm 34 (tq 12) (tq 57),Qh 13 (tq 58)]) (.seq (.reg [Qh 59 (tq 13),Qp 60 .eql (tq 59) (Qf 0)]) (.cond (tq 60) (.reg [Qk 61 34 (tq 12),Qm 34 (tq 6) (tq 61)]) .skip)))))))) (.reg [Qh 30 (tq 7),Qp 31 .add (tq 30) (Qf 1),Qh 7 (tq 31)])))
def zcC:CC:=(.seq (.reg [Qh 101 (tq 14),Qp 102 .leq (tq 101) (Qf 32),Qh 103 (tq 102),⟨(some 104),false,(some (103,true)),.load true 34 (tq 6) false⟩,⟨(some 105),false,(some (103,true)),.call 275 [((tq 104),1)] []⟩,oo 106 (.pick (tq 103) (tq 105) (Qg false)),Qh 4 (tq 106)]) .ret)
def zbU:CC:=(.seq (.reg [Qh 14 (Qf 0)]) (.seq (.seq (.reg [Ql 62 33 (tq 6),Qj 63 1 (tq 62),Qr 64 (tq 63),Qh 65 (Qf 0)]) (.block 2 (.loop (bl 64563604257983447106 107) (bl 162259276524620725246485893672175 107) zar))) zcC))
def xV:CF:=⟨107,[.tmp 4],(.seq (.reg [Qh 4 (Qg false)]) (.seq (.seq (.reg [Qs 19 379 [],Qt 20 (tq 19)]) (.cond (tq 20) (.seq (.reg [Qh 4 (Qg false)]) .ret) .skip)) (.seq (.reg [Qh 21 (tq 0),Qs 22 225 [(Qw 21)],Qh 5 (tq 22)]) (.seq (.reg [Qh 23 (tq 5),Qs 24 260 [(Qw 23)],oo 6 (.alloc true (rp 32 (.sc (.int .u8 0)) (rp 2 (.gs 5 []) []))),Qm 34 (tq 6) (tq 24)]) (.seq (.reg [Qh 25 (tq 1),oo 26 (.bin .rem (tq 25) (.const (.sc (.int .u32 5)))),oo 27 (.bin .add (.const (.sc (.int .u32 20))) (tq 26)),Qh 1 (tq 27)]) (.seq (.seq (.reg [Qh 7 (Qf 0)]) (.block 0 (.loop (bl 226 107) (bl 162259276829212857932613703876847 107) zbn))) zbU))))))⟩
def zj8:Hint:=⟨[(4,2),(10,5),(10,9),(14,3),(14,6)],[],[none,none,none,some ((bl 226 107),(bl 162259276829212857932613703876847 107)),none,some ((bl 66 107),(bl 162259276829212857932613703876719 107)),none,none,some ((bl 16 107),(bl 162259276829212857932613703876671 107)),none,none,some ((bl 64563604257983447106 107),(bl 162259276524620725246485893672175 107)),none,some ((bl 16448 107),(bl 162259276524620725246485893672175 107)),none,none,none,some ((bl 1057874655767058511380546 107),(bl 162259276829213363391578010021103 107)),none,some ((bl 64563604257983447106 107),(bl 162259276829213363391578009955567 107)),none,none,some ((bl 16 107),(bl 162259276524620725246485893655743 107)),none],[],[],false,false,[]⟩
def xq:Nat→Sh:=xY [(63,(.sl 5)),(77,(.sl 5)),(85,(.int .u32)),(88,(.int .u32)),(93,(.int .u16)),(96,(.int .u16))]
def zr(xe:yF)(xf:xM)(zf:zK)(xa:xj)(yc:zu)(zd:yy)(zb:zm)(xb:yq)(L:Nat):CBC:=(xD 275 (zeP xb L) (xD 269 (zcN zb L) (xD 389 (zky zd L) (xD 382 (zgs yc L) (xD 231 (zdN xa L) (xD 260 (zpH zf L) (xD 225 (zra xf L) (xD 379 (zn5 xe L) noC))))))))
def zcA:St→St:=zaY 0 (bl 226 107) (bl 162259276829212857932613703876847 107)
def xW:St→St:=zaY 0 (bl 64563604257983447106 107) (bl 162259276524620725246485893672175 107)
def zaS:St→St:=zaY 0 (bl 1057874655767058511380546 107) (bl 162259276829213363391578010021103 107)
def zb2(C D:Int)(E:List V)(z:List (List V))(A:Int):St:=⟨(jn 1 ((Qc C)::(jn 3 ((V.ptr 22 0)::((V.ptr 6 0)::((Qe D)::(jn 99 []))))))),(gn 6 ((.live true E)::(gn 15 ((.live false [(V.sl 1 z),(Qe A)])::(gn 84 [])))))⟩
def zW(C:Bool)(z:List (List V))(A:Int):St:=⟨(jn 4 ((V.sc (.bool C))::(jn 102 []))),(gn 22 ((.live false [(V.sl 1 z),(Qe A)])::(gn 84 [])))⟩
def zdE(C:Int)(D:List V)(z:List (List V))(A:Int):St:=⟨(jn 1 ((Qc C)::(jn 4 ((V.ptr 6 0)::(jn 100 []))))),(gn 6 ((.live true D)::(gn 15 ((.live false [(V.sl 1 z),(Qe A)])::(gn 84 [])))))⟩
def zak(G C:Int)(D:List (List V))(E F:Int)(I:List V)(z:List (List V))(A:Int):St:=⟨(jn 1 ((Qc G)::(jn 4 ((V.ptr 6 0)::(jn 7 ((Qe C)::(jn 48 ((V.sl 5 D)::((Qe E)::((Qe F)::(jn 41 []))))))))))),(gn 6 ((.live true I)::(gn 15 ((.live false [(V.sl 1 z),(Qe A)])::(gn 84 [])))))⟩
def zaC(N C:Int)(D:List (List V))(E F:Int)(G:List (List V))(I J:Int)(O M:List V)(z:List (List V))(A:Int):St:=⟨(jn 1 ((Qc N)::(jn 4 ((V.ptr 6 0)::(jn 7 ((Qe C)::(jn 1 ((V.ptr 16 0)::(jn 46 ((V.sl 5 D)::((Qe E)::((Qe F)::(jn 11 ((V.sl 5 G)::((Qe I)::((Qe J)::(jn 27 []))))))))))))))))),(gn 6 ((.live true O)::(gn 9 ((.live true M)::(gn 5 ((.live false [(V.sl 1 z),(Qe A)])::(gn 84 [])))))))⟩
def zdD(C:Int)(D:List V)(z:List (List V))(A:Int):St:=⟨(jn 6 ((V.ptr 6 0)::(jn 7 ((Qe C)::(jn 92 []))))),(gn 6 ((.live true D)::(gn 15 ((.live false [(V.sl 1 z),(Qe A)])::(gn 84 [])))))⟩
def zfw(G C:Int)(D:List (List V))(E F:Int)(I:List V)(z:List (List V))(A:Int):St:=⟨(jn 1 ((Qc G)::(jn 4 ((V.ptr 6 0)::(jn 7 ((Qe C)::(jn 48 ((V.sl 5 D)::((Qe E)::((Qe F)::(jn 41 []))))))))))),(gn 6 ((.live true I)::(gn 15 ((.live false [(V.sl 1 z),(Qe A)])::(gn 84 [])))))⟩
abbrev zdC(β:Type):Type:=Int→Int→List (List V)→Int→Int→List V→List (List V)→Int→Option β
abbrev zdQ(β:Type):Type:=Int→Int→List (List V)→Int→Int→List (List V)→Int→Int→List V→List V→List (List V)→Int→Option β
abbrev zgi(β:Type):Type:=Int→Int→List (List V)→Int→Int→List V→List (List V)→Int→Option β
def zhS{β:Type}(xe:yF)(xf:xM)(zf:zK)(xa:xj)(yc:zu)(zd:yy)(zb:zm)(xb:yq)(L:Nat)(D:List (List V))(E:Int)(A:Bool→Option β)(z:Int→Int→List V→List (List V)→Int→Option β):Option β:=xe β L  (fun F=>ifb (!F) (A false) (xf β L D (fun G I=>zf β L G I (fun C J M=>chk ((XG C)=34∧0+34≤34) (lt (xg (We 32 (Qa (0:Int))++[(V.gs 5 ([]:List (List V))),(V.gs 5 ([]:List (List V)))]) 0 C) fun r6=>lt (XM E (5:Int)) fun N=>lt (QF .u32 (((20:Int):Int)+N)) fun O=>z O (0:Int) r6 J M)))))
theorem zq8{β:Type}(xe:yF)(xf:xM)(zf:zK)(xa:xj)(yc:zu)(zd:yy)(zb:zm)(xb:yq)(L:Nat)(z:List (List V))(A:Int)(k:KK β):yp xq (zr xe xf zf xa yc zd zb xb L) L xV [(V.sl 1 z),(Qc A)] [] k=zhS xe xf zf xa yc zd zb xb L z A (fun z=>k (V.sc (.bool z)) []) (fun A E F C D=>yD (zj xq (zr xe xf zf xa yc zd zb xb L) 0 L zbn) zcA L (zb2 A E F C D) (xB 0 (yN (zj xq (zr xe xf zf xa yc zd zb xb L) 0 L zbU) (yU 0 (CF.res xV) k)))):=by kernel_rfl
def zbu{β:Type}(xe:yF)(xf:xM)(zf:zK)(xa:xj)(yc:zu)(zd:yy)(zb:zm)(xb:yq)(L:Nat)(O F:Int)(G:List V)(C:List (List V))(D:Int)(P:Bool→List (List V)→Int→Option β)(z:Int→Int→List V→List (List V)→Int→Option β)(S:Int→List V→List (List V)→Int→Option β):Option β:=ifb (decide (F<(45:Int))) (lt (zqw .u32 O (16:Int)) fun x9=>lt (QF .u32 F) fun U=>lt (QF .u32 ((x9:Int)+U)) fun W=>xa β L (3:Int) C D (fun X I J=>lt (QF .u16 X) fun Y=>lt [(Qc W),(Qb Y),(Qc (0:Int))] fun E=>chk (0+34≤(XG G)) (chk (0+3≤(XG E)) (lt (QF .u32 F) fun Z=>yc β L (Xt V.dem (XI 34 G)) (XI 3 E) Z (fun Q ag aa=>chk ((XG Q)=34∧0+34≤34) (lt (xg (We 32 (Qa (0:Int))++[(V.gs 5 ([]:List (List V))),(V.gs 5 ([]:List (List V)))]) 0 Q) fun M=>ifb ((aa:Int) != (0:Int)) (P false I J) (chk (0+34≤(XG M)) (chk ((XG (XI 34 M))=34∧0+34≤(XG G)) (lt (xg G 0 (XI 34 M)) fun A=>chk (0+34≤(XG A)) (chk (0+3≤(XG E)) (zd β L (Xt V.dem (XI 34 A)) (XI 3 E) (fun R ab=>chk ((XG R)=34∧0+34≤34) (lt (xg (We 32 (Qa (0:Int))++[(V.gs 5 ([]:List (List V))),(V.gs 5 ([]:List (List V)))]) 0 R) fun N=>ifb ((ab:Int)==(0:Int)) (chk (0+34≤(XG N)) (chk ((XG (XI 34 N))=34∧0+34≤(XG A)) (lt (xg A 0 (XI 34 N)) fun ac=>lt (QF .i64 ((F:Int)+(1:Int))) fun ad=>z O ad ac I J))) (lt (QF .i64 ((F:Int)+(1:Int))) fun ae=>z O ae A I J)))))))))))))) (S O G C D)
theorem zmr{β:Type}(xe:yF)(xf:xM)(zf:zK)(xa:xj)(yc:zu)(zd:yy)(zb:zm)(xb:yq)(L:Nat)(C E:Int)(D:List V)(z:List (List V))(A:Int)(X:St→Option β)(K:KT β):zj xq (zr xe xf zf xa yc zd zb xb L) 0 L zbn (zb2 C E D z A) (zbt zcA X K)=zbu xe xf zf xa yc zd zb xb L C E D z A (fun F z A=>K .ret (zW F z A)) (fun C E D z A=>X (zb2 C E D z A)) (fun C D z A=>K (.exit 0) (zdE C D z A)):=by kernel_rfl
def zf9{β:Type}(xe:yF)(xf:xM)(zf:zK)(xa:xj)(yc:zu)(zd:yy)(zb:zm)(xb:yq)(L:Nat)(D:Bool)(A:List (List V))(C:Int)(z:Bool→Option β):Option β:=z D
theorem zkS{β:Type}(xe:yF)(xf:xM)(zf:zK)(xa:xj)(yc:zu)(zd:yy)(zb:zm)(xb:yq)(L:Nat)(C:Bool)(z:List (List V))(A:Int)(k:KK β):(xB 0 (yN (zj xq (zr xe xf zf xa yc zd zb xb L) 0 L zbU) (yU 0 (CF.res xV) k))) .ret (zW C z A)=zf9 xe xf zf xa yc zd zb xb L C z A (fun D=>k (V.sc (.bool D)) []):=by kernel_rfl
def zdL{β:Type}(xe:yF)(xf:xM)(zf:zK)(xa:xj)(yc:zu)(zd:yy)(zb:zm)(xb:yq)(L:Nat)(F:Int)(E:List V)(A:List (List V))(C:Int)(z:zdC β):Option β:=cLd 5 E 33 fun D=>z F (0:Int) D ((XG D:Nat):Int) (0:Int) E A C
theorem zlM{β:Type}(xe:yF)(xf:xM)(zf:zK)(xa:xj)(yc:zu)(zd:yy)(zb:zm)(xb:yq)(L:Nat)(C:Int)(D:List V)(z:List (List V))(A:Int)(k:KK β):(xB 0 (yN (zj xq (zr xe xf zf xa yc zd zb xb L) 0 L zbU) (yU 0 (CF.res xV) k))) (.exit 0) (zdE C D z A)=zdL xe xf zf xa yc zd zb xb L C D z A (fun C E F G I D z A=>yD (zj xq (zr xe xf zf xa yc zd zb xb L) 0 L zar) xW L (zak C E F G I D z A) (xB 2 (yN (zj xq (zr xe xf zf xa yc zd zb xb L) 0 L zcC) (yU 0 (CF.res xV) k)))):=by kernel_rfl
def zdM{β:Type}(xe:yF)(xf:xM)(zf:zK)(xa:xj)(yc:zu)(zd:yy)(zb:zm)(xb:yq)(L:Nat)(P F:Int)(G:List (List V))(I D:Int)(J:List V)(A:List (List V))(C:Int)(z:zdQ β)(Q:Int→List V→List (List V)→Int→Option β):Option β:=ifb (decide (D<I)) (idx G D fun M=>chk ((XG (XI 5 M))=5∧0+5≤5) (lt (xg [(Qe (0:Int)),(Qc (0:Int)),(Qb (0:Int)),(Qc (0:Int)),(Qc (0:Int))] 0 (XI 5 M)) fun E=>chk (1+3≤(XG E)) (zb β L (XI 3 (XJ 1 E)) (fun R=>ifb ((R:Int)==P) (lt (QF .i64 ((F:Int)+(1:Int))) fun S=>cLd 5 J 32 fun N=>z P S G I D N ((XG N:Nat):Int) (0:Int) J E A C) (cLd 5 J 32 fun O=>z P F G I D O ((XG O:Nat):Int) (0:Int) J E A C))))) (Q F J A C)
theorem zly{β:Type}(xe:yF)(xf:xM)(zf:zK)(xa:xj)(yc:zu)(zd:yy)(zb:zm)(xb:yq)(L:Nat)(I C:Int)(D:List (List V))(E F:Int)(G:List V)(z:List (List V))(A:Int)(X:St→Option β)(K:KT β):zj xq (zr xe xf zf xa yc zd zb xb L) 0 L zar (zak I C D E F G z A) (zbt xW X K)=zdM xe xf zf xa yc zd zb xb L I C D E F G z A (fun I C D E F J M N G O z A=>yD (zj xq (zr xe xf zf xa yc zd zb xb L) 0 L zae) zaS L (zaC I C D E F J M N G O z A) (xB 4 (xB 3 (yN (zj xq (zr xe xf zf xa yc zd zb xb L) 0 L zbv) (zbt xW X K))))) (fun C G z A=>K (.exit 2) (zdD C G z A)):=by kernel_rfl
def zdm{β:Type}(xe:yF)(xf:xM)(zf:zK)(xa:xj)(yc:zu)(zd:yy)(zb:zm)(xb:yq)(L:Nat)(A:Int)(C:List V)(E:List (List V))(F:Int)(z:Bool→Option β):Option β:=ifb (decide (A≤(32:Int))) (chk (0+34≤(XG C)) (xb β L (Xt V.dem (XI 34 C)) (fun D=>z D))) (z false)
theorem zkD{β:Type}(xe:yF)(xf:xM)(zf:zK)(xa:xj)(yc:zu)(zd:yy)(zb:zm)(xb:yq)(L:Nat)(C:Int)(D:List V)(z:List (List V))(A:Int)(k:KK β):(xB 2 (yN (zj xq (zr xe xf zf xa yc zd zb xb L) 0 L zcC) (yU 0 (CF.res xV) k))) (.exit 2) (zdD C D z A)=zdm xe xf zf xa yc zd zb xb L C D z A (fun E=>k (V.sc (.bool E)) []):=by kernel_rfl
def zb8{β:Type}(xe:yF)(xf:xM)(zf:zK)(xa:xj)(yc:zu)(zd:yy)(zb:zm)(xb:yq)(L:Nat)(R F:Int)(G:List (List V))(I J:Int)(M:List (List V))(N D:Int)(S E:List V)(A:List (List V))(C:Int)(O:Bool→List (List V)→Int→Option β)(z:zdQ β)(U:zgi β):Option β:=ifb (decide (D<N)) (idx M D fun P=>chk ((XG (XI 5 P))=5∧0+5≤5) (lt (xg [(Qe (0:Int)),(Qc (0:Int)),(Qb (0:Int)),(Qc (0:Int)),(Qc (0:Int))] 0 (XI 5 P)) fun Q=>cI .u32 E 1 fun W=>cI .u32 Q 1 fun X=>ifb ((W:Int)==X) (cI .u16 E 2 fun Y=>cI .u16 Q 2 fun Z=>ifb ((Y:Int)==Z) (O false A C) (lt (QF .i64 ((D:Int)+(1:Int))) fun aa=>z R F G I J M N aa S E A C)) (lt (QF .i64 ((D:Int)+(1:Int))) fun ab=>z R F G I J M N ab S E A C))) (U R F G I J S A C)
theorem zhT{β:Type}(xe:yF)(xf:xM)(zf:zK)(xa:xj)(yc:zu)(zd:yy)(zb:zm)(xb:yq)(L:Nat)(N C:Int)(D:List (List V))(E F:Int)(G:List (List V))(I J:Int)(O M:List V)(z:List (List V))(A:Int)(X:St→Option β)(K:KT β):zj xq (zr xe xf zf xa yc zd zb xb L) 0 L zae (zaC N C D E F G I J O M z A) (zbt zaS X K)=zb8 xe xf zf xa yc zd zb xb L N C D E F G I J O M z A (fun P z A=>K .ret (zW P z A)) (fun N C D E F G I J O M z A=>X (zaC N C D E F G I J O M z A)) (fun N C D E F O z A=>K (.exit 4) (zfw N C D E F O z A)):=by kernel_rfl
def zdz{β:Type}(xe:yF)(xf:xM)(zf:zK)(xa:xj)(yc:zu)(zd:yy)(zb:zm)(xb:yq)(L:Nat)(D:Bool)(z:List (List V))(A:Int)(C:Bool→List (List V)→Int→Option β):Option β:=C D z A
theorem zgR{β:Type}(xe:yF)(xf:xM)(zf:zK)(xa:xj)(yc:zu)(zd:yy)(zb:zm)(xb:yq)(L:Nat)(C:Bool)(z:List (List V))(A:Int)(X:St→Option β)(K:KT β):(xB 4 (xB 3 (yN (zj xq (zr xe xf zf xa yc zd zb xb L) 0 L zbv) (zbt xW X K)))) .ret (zW C z A)=zdz xe xf zf xa yc zd zb xb L C z A (fun C z A=>K .ret (zW C z A)):=by kernel_rfl
def zaI{β:Type}(xe:yF)(xf:xM)(zf:zK)(xa:xj)(yc:zu)(zd:yy)(zb:zm)(xb:yq)(L:Nat)(J D:Int)(E:List (List V))(F G:Int)(M:List V)(A:List (List V))(C:Int)(z:zdC β):Option β:=lt (QF .i64 ((G:Int)+(1:Int))) fun I=>z J D E F I M A C
theorem zgX{β:Type}(xe:yF)(xf:xM)(zf:zK)(xa:xj)(yc:zu)(zd:yy)(zb:zm)(xb:yq)(L:Nat)(G C:Int)(D:List (List V))(E F:Int)(I:List V)(z:List (List V))(A:Int)(X:St→Option β)(K:KT β):(xB 4 (xB 3 (yN (zj xq (zr xe xf zf xa yc zd zb xb L) 0 L zbv) (zbt xW X K)))) (.exit 4) (zfw G C D E F I z A)=zaI xe xf zf xa yc zd zb xb L G C D E F I z A (fun G C D E F I z A=>X (zak G C D E F I z A)):=by kernel_rfl
def zfh{β:Type}(xe:yF)(xf:xM)(zf:zK)(xa:xj)(yc:zu)(zd:yy)(zb:zm)(xb:yq)(L:Nat)(D:Bool)(A:List (List V))(C:Int)(z:Bool→Option β):Option β:=z D
theorem zjS{β:Type}(xe:yF)(xf:xM)(zf:zK)(xa:xj)(yc:zu)(zd:yy)(zb:zm)(xb:yq)(L:Nat)(C:Bool)(z:List (List V))(A:Int)(k:KK β):(xB 2 (yN (zj xq (zr xe xf zf xa yc zd zb xb L) 0 L zcC) (yU 0 (CF.res xV) k))) .ret (zW C z A)=zfh xe xf zf xa yc zd zb xb L C z A (fun D=>k (V.sc (.bool D)) []):=by kernel_rfl
def zam{β:Type}(xe:yF)(xf:xM)(zf:zK)(xa:xj)(yc:zu)(zd:yy)(zb:zm)(xb:yq)(L:Nat)(C:Bool→List (List V)→Int→Option β)(D:Int→List V→List (List V)→Int→Option β):Nat→Int→Int→List V→List (List V)→Int→Option β
 | 0,_,_,_,_,_=>none
 | n+1,E,F,G,z,A=>zbu xe xf zf xa yc zd zb xb L E F G z A C (fun E F G z A=>zam xe xf zf xa yc zd zb xb L C D n E F G z A) D
theorem zf8{β:Type}(xe:yF)(xf:xM)(zf:zK)(xa:xj)(yc:zu)(zd:yy)(zb:zm)(xb:yq)(L:Nat)(K:KT β):∀ (n:Nat) (C E:Int) (D:List V) (z:List (List V)) (A:Int),yD (zj xq (zr xe xf zf xa yc zd zb xb L) 0 L zbn) zcA n (zb2 C E D z A) K=zam xe xf zf xa yc zd zb xb L (fun F z A=>K .ret (zW F z A)) (fun C D z A=>K (.exit 0) (zdE C D z A)) n C E D z A:=by
 intro n
 induction n with
 | zero=>intros; rfl
 | succ n ih=>
  intro C E D z A
  refine (zmr xe xf zf xa yc zd zb xb L C E D z A (fun σ=>yD (zj xq (zr xe xf zf xa yc zd zb xb L) 0 L zbn) zcA n σ K) K).trans ?_
  simp only [ih]
  rfl
def zai{β:Type}(xe:yF)(xf:xM)(zf:zK)(xa:xj)(yc:zu)(zd:yy)(zb:zm)(xb:yq)(L:Nat)(C:Bool→List (List V)→Int→Option β)(D:zgi β):Nat→Int→Int→List (List V)→Int→Int→List (List V)→Int→Int→List V→List V→List (List V)→Int→Option β
 | 0,_,_,_,_,_,_,_,_,_,_,_,_=>none
 | n+1,P,E,F,G,I,J,M,N,Q,O,z,A=>zb8 xe xf zf xa yc zd zb xb L P E F G I J M N Q O z A C (fun P E F G I J M N Q O z A=>zai xe xf zf xa yc zd zb xb L C D n P E F G I J M N Q O z A) D
theorem zdA{β:Type}(xe:yF)(xf:xM)(zf:zK)(xa:xj)(yc:zu)(zd:yy)(zb:zm)(xb:yq)(L:Nat)(K:KT β):∀ (n:Nat) (N C:Int) (D:List (List V)) (E F:Int) (G:List (List V)) (I J:Int) (O M:List V) (z:List (List V)) (A:Int),yD (zj xq (zr xe xf zf xa yc zd zb xb L) 0 L zae) zaS n (zaC N C D E F G I J O M z A) K=zai xe xf zf xa yc zd zb xb L (fun P z A=>K .ret (zW P z A)) (fun N C D E F O z A=>K (.exit 4) (zfw N C D E F O z A)) n N C D E F G I J O M z A:=by
 intro n
 induction n with
 | zero=>intros; rfl
 | succ n ih=>
  intro N C D E F G I J O M z A
  refine (zhT xe xf zf xa yc zd zb xb L N C D E F G I J O M z A (fun σ=>yD (zj xq (zr xe xf zf xa yc zd zb xb L) 0 L zae) zaS n σ K) K).trans ?_
  simp only [ih]
  rfl
def zb1{β:Type}(xe:yF)(xf:xM)(zf:zK)(xa:xj)(yc:zu)(zd:yy)(zb:zm)(xb:yq)(L:Nat)(I D:Int)(E:List (List V))(F G:Int)(J:List V)(z:List (List V))(A:Int)(N:Int→List V→List (List V)→Int→Option β)(M:Bool→List (List V)→Int→Option β)(C:zdC β):Option β:=zdM xe xf zf xa yc zd zb xb L I D E F G J z A (fun I D E F G O P Q J R z A=>zai xe xf zf xa yc zd zb xb L (fun S z A=>zdz xe xf zf xa yc zd zb xb L S z A M) (fun I D E F G J z A=>zaI xe xf zf xa yc zd zb xb L I D E F G J z A C) L I D E F G O P Q J R z A) N
theorem zli{β:Type}(xe:yF)(xf:xM)(zf:zK)(xa:xj)(yc:zu)(zd:yy)(zb:zm)(xb:yq)(L:Nat)(I C:Int)(D:List (List V))(E F:Int)(G:List V)(z:List (List V))(A:Int)(X:St→Option β)(K:KT β):zj xq (zr xe xf zf xa yc zd zb xb L) 0 L zar (zak I C D E F G z A) (zbt xW X K)=zb1 xe xf zf xa yc zd zb xb L I C D E F G z A (fun C G z A=>K (.exit 2) (zdD C G z A)) (fun J z A=>K .ret (zW J z A)) (fun I C D E F G z A=>X (zak I C D E F G z A)):=by
 refine (zly xe xf zf xa yc zd zb xb L I C D E F G z A X K).trans ?_
 unfold zb1
 first
  | (simp only [zdA,zgR,zgX]; done)
  | (simp only [zdA]; rfl)
def zbd{β:Type}(xe:yF)(xf:xM)(zf:zK)(xa:xj)(yc:zu)(zd:yy)(zb:zm)(xb:yq)(L:Nat)(D:Int→List V→List (List V)→Int→Option β)(C:Bool→List (List V)→Int→Option β):Nat→Int→Int→List (List V)→Int→Int→List V→List (List V)→Int→Option β
 | 0,_,_,_,_,_,_,_,_=>none
 | n+1,J,E,F,G,I,M,z,A=>zb1 xe xf zf xa yc zd zb xb L J E F G I M z A D C (fun J E F G I M z A=>zbd xe xf zf xa yc zd zb xb L D C n J E F G I M z A)
theorem zfg{β:Type}(xe:yF)(xf:xM)(zf:zK)(xa:xj)(yc:zu)(zd:yy)(zb:zm)(xb:yq)(L:Nat)(K:KT β):∀ (n:Nat) (I C:Int) (D:List (List V)) (E F:Int) (G:List V) (z:List (List V)) (A:Int),yD (zj xq (zr xe xf zf xa yc zd zb xb L) 0 L zar) xW n (zak I C D E F G z A) K=zbd xe xf zf xa yc zd zb xb L (fun C G z A=>K (.exit 2) (zdD C G z A)) (fun J z A=>K .ret (zW J z A)) n I C D E F G z A:=by
 intro n
 induction n with
 | zero=>intros; rfl
 | succ n ih=>
  intro I C D E F G z A
  refine (zli xe xf zf xa yc zd zb xb L I C D E F G z A (fun σ=>yD (zj xq (zr xe xf zf xa yc zd zb xb L) 0 L zar) xW n σ K) K).trans ?_
  simp only [ih]
  rfl
def zb6{β:Type}(xe:yF)(xf:xM)(zf:zK)(xa:xj)(yc:zu)(zd:yy)(zb:zm)(xb:yq)(L:Nat)(F:Int)(D:List V)(z:List (List V))(A:Int)(C:Bool→Option β):Option β:=zdL xe xf zf xa yc zd zb xb L F D z A (fun F E G I J D z A=>zbd xe xf zf xa yc zd zb xb L (fun E D z A=>zdm xe xf zf xa yc zd zb xb L E D z A C) (fun M z A=>zfh xe xf zf xa yc zd zb xb L M z A C) L F E G I J D z A)
theorem zkJ{β:Type}(xe:yF)(xf:xM)(zf:zK)(xa:xj)(yc:zu)(zd:yy)(zb:zm)(xb:yq)(L:Nat)(C:Int)(D:List V)(z:List (List V))(A:Int)(k:KK β):(xB 0 (yN (zj xq (zr xe xf zf xa yc zd zb xb L) 0 L zbU) (yU 0 (CF.res xV) k))) (.exit 0) (zdE C D z A)=zb6 xe xf zf xa yc zd zb xb L C D z A (fun E=>k (V.sc (.bool E)) []):=by
 refine (zlM xe xf zf xa yc zd zb xb L C D z A k).trans ?_
 unfold zb6
 first
  | (simp only [zfg,zkD,zjS]; done)
  | (simp only [zfg]; rfl)
def zeU{β:Type}(xe:yF)(xf:xM)(zf:zK)(xa:xj)(yc:zu)(zd:yy)(zb:zm)(xb:yq)(L:Nat)(F:List (List V))(D:Int)(C:Bool→Option β):Option β:=zhS xe xf zf xa yc zd zb xb L F D C (fun D G E z A=>zam xe xf zf xa yc zd zb xb L (fun I z A=>zf9 xe xf zf xa yc zd zb xb L I z A C) (fun D E z A=>zb6 xe xf zf xa yc zd zb xb L D E z A C) L D G E z A)
theorem zq0{β:Type}(xe:yF)(xf:xM)(zf:zK)(xa:xj)(yc:zu)(zd:yy)(zb:zm)(xb:yq)(L:Nat)(z:List (List V))(A:Int)(k:KK β):yp xq (zr xe xf zf xa yc zd zb xb L) L xV [(V.sl 1 z),(Qc A)] [] k=zeU xe xf zf xa yc zd zb xb L z A (fun z=>k (V.sc (.bool z)) []):=by
 refine (zq8 xe xf zf xa yc zd zb xb L z A k).trans ?_
 unfold zeU
 first
  | (simp only [zf8,zkS,zkJ]; done)
  | (simp only [zf8]; rfl)
abbrev zs2:=∀ (β:Type),Nat→List (List V)→Int→(Bool→Option β)→Option β
def za2(β:Type)(L:Nat)(A:List (List V))(C:Int)(z:Bool→Option β):Option β:=zeU xe xf zf xa yc zd zb xb L A C z
def ze3(za2:zs2)(L:Nat)(β:Type)(args:List V)(bor:Bor)(k:KK β):Option β:=match args,bor with
 | [a0,a1],[]=>aL 1 a0 fun z=>aI .u32 a1 fun A=>za2 β L z A (fun z=>k (V.sc (.bool z)) [])
 | _,_=>none
theorem zqZ(L:Nat)(β:Type)(args:List V)(bor:Bor)(k:KK β)(r:β)(h:ze3 za2 L β args bor k=some r):yp xq (zr xe xf zf xa yc zd zb xb L) L xV args bor k=some r:=by
 unfold ze3 at h
 split at h
 ·have q:=za1 h; clear h; obtain ⟨z,rfl,h⟩:=q
  have q:=xr h; clear h; obtain ⟨A,rfl,h⟩:=q
  exact (zq0 xe xf zf xa yc zd zb xb L z A k).trans h
 ·cases h
def gls:List (Nat × List V):=[]
def fg:List (Nat × Nat):=[(3,374),(4,375),(5,376),(6,377),(7,378),(8,379),(9,225),(10,260),(11,380),(12,381),(13,382),(14,273),(15,383),(16,269),(17,294),(18,297),(19,305),(20,299),(21,290),(22,275),(23,281),(24,384),(25,385),(26,386),(27,387),(28,388),(29,231),(30,389),(31,272),(32,390),(33,391),(34,392),(35,393),(36,236),(37,262),(38,288),(39,217),(40,394),(41,395),(42,396),(43,293),(44,109),(45,105),(46,157),(47,110),(48,106),(49,159),(50,205),(51,304),(52,295),(53,296),(54,298),(55,302),(56,287),(57,247),(58,397),(59,398),(60,399),(61,400),(62,289),(63,291),(64,292),(65,401),(66,402),(67,403),(68,404),(69,112),(70,111),(71,113),(72,191),(73,192),(74,115),(75,114),(76,116),(77,193),(78,194),(79,303),(80,405),(81,406),(82,118),(83,407),(84,408)]
def rows:List Row:=[⟨69,112,zvf,zhL⟩,⟨44,109,zwt,zqY⟩,⟨16,269,zo6,zh4⟩,⟨73,192,zqO,zek⟩,⟨72,191,zqN,zkw⟩,⟨46,157,znE,zhu⟩,⟨82,118,ziN,zdZ⟩,⟨71,113,zsW,zfv⟩,⟨70,111,zsN,zmF⟩,⟨45,105,zwD,zjd⟩,⟨18,297,zko,zet⟩,⟨53,296,zni,zgE⟩,⟨52,295,zoX,zbN⟩,⟨50,205,zoC,zhk⟩,⟨20,299,zkk,zew⟩,⟨54,298,zns,zgD⟩,⟨22,275,zoY,zh8⟩,⟨65,401,zeF,zbw⟩,⟨40,394,zoA,zhy⟩,⟨68,404,zp2,ziR⟩,⟨67,403,zoB,zht⟩,⟨66,402,zdP,xI⟩,⟨41,395,zp0,zgh⟩,⟨59,398,znZ,zaE⟩,⟨61,400,zeq,zay⟩,⟨42,396,zo5,zcw⟩,⟨13,382,zo1,zh0⟩,⟨8,379,zsT,zmI⟩,⟨9,225,zvj,zpW⟩,⟨57,247,zo4,zh2⟩,⟨39,217,zvg,zpK⟩,⟨29,231,zoW,zh1⟩,⟨36,236,ztO,znQ⟩,⟨74,115,zsS,zfs⟩,⟨47,110,ztI,zox⟩,⟨78,194,zqU,zea⟩,⟨77,193,zqR,zkA⟩,⟨49,159,zoE,zhb⟩,⟨51,304,znN,zhD⟩,⟨76,116,zsl,zlG⟩,⟨75,114,zqQ,zkq⟩,⟨48,106,zue,zgz⟩,⟨17,294,zru,zlA⟩,⟨21,290,zmz,zfX⟩,⟨19,305,zmy,zf4⟩,⟨79,303,zsH,zmA⟩,⟨56,287,zsQ,zdF⟩,⟨55,302,zry,zdU⟩,⟨23,281,zsa,zdT⟩,⟨38,288,zqP,zkB⟩,⟨62,289,zqL,zkf⟩,⟨63,291,zqV,zbx⟩,⟨64,292,zqS,zkb⟩,⟨43,293,zsJ,zft⟩,⟨31,272,zsM,zmL⟩,⟨37,262,ztN,znU⟩,⟨14,273,zrS,zlz⟩,⟨10,260,ztQ,zgu⟩,⟨58,397,zqj,zjb⟩,⟨30,389,zql,ziS⟩,⟨6,377,zj8,xV⟩]
theorem zDw:y4 Try.prog (zQ fg gls) zvf 69=some zhL:=by kernel_rfl
theorem zEM:y4 Try.prog (zQ fg gls) zwt 44=some zqY:=by kernel_rfl
theorem zxp:y4 Try.prog (zQ fg gls) zo6 16=some zh4:=by kernel_rfl
theorem zzc:y4 Try.prog (zQ fg gls) zqO 73=some zek:=by kernel_rfl
theorem zy1:y4 Try.prog (zQ fg gls) zqN 72=some zkw:=by kernel_rfl
theorem zv6:y4 Try.prog (zQ fg gls) znE 46=some zhu:=by kernel_rfl
theorem zq2:y4 Try.prog (zQ fg gls) ziN 82=some zdZ:=by kernel_rfl
theorem zB0:y4 Try.prog (zQ fg gls) zsW 71=some zfv:=by kernel_rfl
theorem zBF:y4 Try.prog (zQ fg gls) zsN 70=some zmF:=by kernel_rfl
theorem zEH:y4 Try.prog (zQ fg gls) zwD 45=some zjd:=by kernel_rfl
theorem zsq:y4 Try.prog (zQ fg gls) zko 18=some zet:=by kernel_rfl
theorem zvK:y4 Try.prog (zQ fg gls) zni 53=some zgE:=by kernel_rfl
theorem zxB:y4 Try.prog (zQ fg gls) zoX 52=some zbN:=by kernel_rfl
theorem zv5:y4 Try.prog (zQ fg gls) zoC 50=some zhk:=by kernel_rfl
theorem zsu:y4 Try.prog (zQ fg gls) zkk 20=some zew:=by kernel_rfl
theorem zvu:y4 Try.prog (zQ fg gls) zns 54=some zgD:=by kernel_rfl
theorem zxH:y4 Try.prog (zQ fg gls) zoY 22=some zh8:=by kernel_rfl
theorem zlu:y4 Try.prog (zQ fg gls) zeF 65=some zbw:=by kernel_rfl
theorem zwP:y4 Try.prog (zQ fg gls) zoA 40=some zhy:=by kernel_rfl
theorem zyu:y4 Try.prog (zQ fg gls) zp2 68=some ziR:=by kernel_rfl
theorem zwJ:y4 Try.prog (zQ fg gls) zoB 67=some zht:=by kernel_rfl
theorem zi5:y4 Try.prog (zQ fg gls) zdP 66=some xI:=by kernel_rfl
theorem zyK:y4 Try.prog (zQ fg gls) zp0 41=some zgh:=by kernel_rfl
theorem zvP:y4 Try.prog (zQ fg gls) znZ 59=some zaE:=by kernel_rfl
theorem zkF:y4 Try.prog (zQ fg gls) zeq 61=some zay:=by kernel_rfl
theorem zxA:y4 Try.prog (zQ fg gls) zo5 42=some zcw:=by kernel_rfl
theorem zxm:y4 Try.prog (zQ fg gls) zo1 13=some zh0:=by kernel_rfl
theorem zB4:y4 Try.prog (zQ fg gls) zsT 8=some zmI:=by kernel_rfl
theorem zDE:y4 Try.prog (zQ fg gls) zvj 9=some zpW:=by kernel_rfl
theorem zxj:y4 Try.prog (zQ fg gls) zo4 57=some zh2:=by kernel_rfl
theorem zDG:y4 Try.prog (zQ fg gls) zvg 39=some zpK:=by kernel_rfl
theorem zxt:y4 Try.prog (zQ fg gls) zoW 29=some zh1:=by kernel_rfl
theorem zCz:y4 Try.prog (zQ fg gls) ztO 36=some znQ:=by kernel_rfl
theorem zB2:y4 Try.prog (zQ fg gls) zsS 74=some zfs:=by kernel_rfl
theorem zCf:y4 Try.prog (zQ fg gls) ztI 47=some zox:=by kernel_rfl
theorem zzy:y4 Try.prog (zQ fg gls) zqU 78=some zea:=by kernel_rfl
theorem zzT:y4 Try.prog (zQ fg gls) zqR 77=some zkA:=by kernel_rfl
theorem zvT:y4 Try.prog (zQ fg gls) zoE 49=some zhb:=by kernel_rfl
theorem zv7:y4 Try.prog (zQ fg gls) znN 51=some zhD:=by kernel_rfl
theorem zAp:y4 Try.prog (zQ fg gls) zsl 76=some zlG:=by kernel_rfl
theorem zyU:y4 Try.prog (zQ fg gls) zqQ 75=some zkq:=by kernel_rfl
theorem zCS:y4 Try.prog (zQ fg gls) zue 48=some zgz:=by kernel_rfl
theorem zAA:y4 Try.prog (zQ fg gls) zru 17=some zlA:=by kernel_rfl
theorem zuC:y4 Try.prog (zQ fg gls) zmz 21=some zfX:=by kernel_rfl
theorem zuq:y4 Try.prog (zQ fg gls) zmy 19=some zf4:=by kernel_rfl
theorem zBL:y4 Try.prog (zQ fg gls) zsH 79=some zmA:=by kernel_rfl
theorem zBU:y4 Try.prog (zQ fg gls) zsQ 56=some zdF:=by kernel_rfl
theorem zAu:y4 Try.prog (zQ fg gls) zry 55=some zdU:=by kernel_rfl
theorem zAE:y4 Try.prog (zQ fg gls) zsa 23=some zdT:=by kernel_rfl
theorem zz3:y4 Try.prog (zQ fg gls) zqP 38=some zkB:=by kernel_rfl
theorem zzd:y4 Try.prog (zQ fg gls) zqL 62=some zkf:=by kernel_rfl
theorem zyR:y4 Try.prog (zQ fg gls) zqV 63=some zbx:=by kernel_rfl
theorem zzY:y4 Try.prog (zQ fg gls) zqS 64=some zkb:=by kernel_rfl
theorem zBH:y4 Try.prog (zQ fg gls) zsJ 43=some zft:=by kernel_rfl
theorem zBV:y4 Try.prog (zQ fg gls) zsM 31=some zmL:=by kernel_rfl
theorem zCX:y4 Try.prog (zQ fg gls) ztN 37=some znU:=by kernel_rfl
theorem zAP:y4 Try.prog (zQ fg gls) zrS 14=some zlz:=by kernel_rfl
theorem zCt:y4 Try.prog (zQ fg gls) ztQ 10=some zgu:=by kernel_rfl
theorem zyr:y4 Try.prog (zQ fg gls) zqj 58=some zjb:=by kernel_rfl
theorem zyt:y4 Try.prog (zQ fg gls) zql 30=some ziS:=by kernel_rfl
theorem zsr:y4 Try.prog (zQ fg gls) zj8 6=some xV:=by kernel_rfl
theorem zH5:∀ r∈rows,(r.f,r.g)∈fg∧zfC Try.prog r.f=true∧y4 Try.prog (zQ fg gls) r.h r.f=some r.c:=by
 intro r hr
 simp only [rows,List.mem_cons,List.not_mem_nil,or_false] at hr
 rcases hr with rfl | rfl | rfl | rfl | rfl | rfl | rfl | rfl | rfl | rfl | rfl | rfl | rfl | rfl | rfl | rfl | rfl | rfl | rfl | rfl | rfl | rfl | rfl | rfl | rfl | rfl | rfl | rfl | rfl | rfl | rfl | rfl | rfl | rfl | rfl | rfl | rfl | rfl | rfl | rfl | rfl | rfl | rfl | rfl | rfl | rfl | rfl | rfl | rfl | rfl | rfl | rfl | rfl | rfl | rfl | rfl | rfl | rfl | rfl | rfl | rfl
 ·exact ⟨of_decide_eq_true (by kernel_rfl),by kernel_rfl,zDw⟩
 ·exact ⟨of_decide_eq_true (by kernel_rfl),by kernel_rfl,zEM⟩
 ·exact ⟨of_decide_eq_true (by kernel_rfl),by kernel_rfl,zxp⟩
 ·exact ⟨of_decide_eq_true (by kernel_rfl),by kernel_rfl,zzc⟩
 ·exact ⟨of_decide_eq_true (by kernel_rfl),by kernel_rfl,zy1⟩
 ·exact ⟨of_decide_eq_true (by kernel_rfl),by kernel_rfl,zv6⟩
 ·exact ⟨of_decide_eq_true (by kernel_rfl),by kernel_rfl,zq2⟩
 ·exact ⟨of_decide_eq_true (by kernel_rfl),by kernel_rfl,zB0⟩
 ·exact ⟨of_decide_eq_true (by kernel_rfl),by kernel_rfl,zBF⟩
 ·exact ⟨of_decide_eq_true (by kernel_rfl),by kernel_rfl,zEH⟩
 ·exact ⟨of_decide_eq_true (by kernel_rfl),by kernel_rfl,zsq⟩
 ·exact ⟨of_decide_eq_true (by kernel_rfl),by kernel_rfl,zvK⟩
 ·exact ⟨of_decide_eq_true (by kernel_rfl),by kernel_rfl,zxB⟩
 ·exact ⟨of_decide_eq_true (by kernel_rfl),by kernel_rfl,zv5⟩
 ·exact ⟨of_decide_eq_true (by kernel_rfl),by kernel_rfl,zsu⟩
 ·exact ⟨of_decide_eq_true (by kernel_rfl),by kernel_rfl,zvu⟩
 ·exact ⟨of_decide_eq_true (by kernel_rfl),by kernel_rfl,zxH⟩
 ·exact ⟨of_decide_eq_true (by kernel_rfl),by kernel_rfl,zlu⟩
 ·exact ⟨of_decide_eq_true (by kernel_rfl),by kernel_rfl,zwP⟩
 ·exact ⟨of_decide_eq_true (by kernel_rfl),by kernel_rfl,zyu⟩
 ·exact ⟨of_decide_eq_true (by kernel_rfl),by kernel_rfl,zwJ⟩
 ·exact ⟨of_decide_eq_true (by kernel_rfl),by kernel_rfl,zi5⟩
 ·exact ⟨of_decide_eq_true (by kernel_rfl),by kernel_rfl,zyK⟩
 ·exact ⟨of_decide_eq_true (by kernel_rfl),by kernel_rfl,zvP⟩
 ·exact ⟨of_decide_eq_true (by kernel_rfl),by kernel_rfl,zkF⟩
 ·exact ⟨of_decide_eq_true (by kernel_rfl),by kernel_rfl,zxA⟩
 ·exact ⟨of_decide_eq_true (by kernel_rfl),by kernel_rfl,zxm⟩
 ·exact ⟨of_decide_eq_true (by kernel_rfl),by kernel_rfl,zB4⟩
 ·exact ⟨of_decide_eq_true (by kernel_rfl),by kernel_rfl,zDE⟩
 ·exact ⟨of_decide_eq_true (by kernel_rfl),by kernel_rfl,zxj⟩
 ·exact ⟨of_decide_eq_true (by kernel_rfl),by kernel_rfl,zDG⟩
 ·exact ⟨of_decide_eq_true (by kernel_rfl),by kernel_rfl,zxt⟩
 ·exact ⟨of_decide_eq_true (by kernel_rfl),by kernel_rfl,zCz⟩
 ·exact ⟨of_decide_eq_true (by kernel_rfl),by kernel_rfl,zB2⟩
 ·exact ⟨of_decide_eq_true (by kernel_rfl),by kernel_rfl,zCf⟩
 ·exact ⟨of_decide_eq_true (by kernel_rfl),by kernel_rfl,zzy⟩
 ·exact ⟨of_decide_eq_true (by kernel_rfl),by kernel_rfl,zzT⟩
 ·exact ⟨of_decide_eq_true (by kernel_rfl),by kernel_rfl,zvT⟩
 ·exact ⟨of_decide_eq_true (by kernel_rfl),by kernel_rfl,zv7⟩
 ·exact ⟨of_decide_eq_true (by kernel_rfl),by kernel_rfl,zAp⟩
 ·exact ⟨of_decide_eq_true (by kernel_rfl),by kernel_rfl,zyU⟩
 ·exact ⟨of_decide_eq_true (by kernel_rfl),by kernel_rfl,zCS⟩
 ·exact ⟨of_decide_eq_true (by kernel_rfl),by kernel_rfl,zAA⟩
 ·exact ⟨of_decide_eq_true (by kernel_rfl),by kernel_rfl,zuC⟩
 ·exact ⟨of_decide_eq_true (by kernel_rfl),by kernel_rfl,zuq⟩
 ·exact ⟨of_decide_eq_true (by kernel_rfl),by kernel_rfl,zBL⟩
 ·exact ⟨of_decide_eq_true (by kernel_rfl),by kernel_rfl,zBU⟩
 ·exact ⟨of_decide_eq_true (by kernel_rfl),by kernel_rfl,zAu⟩
 ·exact ⟨of_decide_eq_true (by kernel_rfl),by kernel_rfl,zAE⟩
 ·exact ⟨of_decide_eq_true (by kernel_rfl),by kernel_rfl,zz3⟩
 ·exact ⟨of_decide_eq_true (by kernel_rfl),by kernel_rfl,zzd⟩
 ·exact ⟨of_decide_eq_true (by kernel_rfl),by kernel_rfl,zyR⟩
 ·exact ⟨of_decide_eq_true (by kernel_rfl),by kernel_rfl,zzY⟩
 ·exact ⟨of_decide_eq_true (by kernel_rfl),by kernel_rfl,zBH⟩
 ·exact ⟨of_decide_eq_true (by kernel_rfl),by kernel_rfl,zBV⟩
 ·exact ⟨of_decide_eq_true (by kernel_rfl),by kernel_rfl,zCX⟩
 ·exact ⟨of_decide_eq_true (by kernel_rfl),by kernel_rfl,zAP⟩
 ·exact ⟨of_decide_eq_true (by kernel_rfl),by kernel_rfl,zCt⟩
 ·exact ⟨of_decide_eq_true (by kernel_rfl),by kernel_rfl,zyr⟩
 ·exact ⟨of_decide_eq_true (by kernel_rfl),by kernel_rfl,zyt⟩
 ·exact ⟨of_decide_eq_true (by kernel_rfl),by kernel_rfl,zsr⟩
theorem mixed:Try.prog.follows .mixedOrders=true:=by kernel_rfl
theorem zIQ:zG7 fg=true:=by kernel_rfl
theorem zIS:zi9 Try.prog (zQ fg gls) zuL:=zId (zIj (by kernel_rfl)) (zHR (f0:=60) (g0:=399) (by kernel_rfl) rfl (zIH zJx (of_decide_eq_true (by kernel_rfl))))
theorem zI6(L d:Nat):zi9 Try.prog (zQ fg gls) (evF (xL rows) zuL L d):=zHx mixed zIQ zIS zH5 L d
theorem zwK(L:Nat):FOk (xL rows) L 112 (znO xu L) 1:=zG (D:=0) (by kernel_rfl) fun m hm=>⟨zd2,zd3 L,yG,zBI L⟩
theorem zxU(L:Nat):FOk (xL rows) L 109 (zp8 z9 L) 2:=zG (D:=1) (by kernel_rfl) fun m hm=>⟨zuH,zuB xu L,(zl yG (zwK L m (by omega))),zCy L⟩
theorem ze5(L:Nat):FOk (xL rows) L 269 (zcN zb L) 1:=zG (D:=0) (by kernel_rfl) fun m hm=>⟨zl7,zmg L,yG,zvr L⟩
theorem zrB(L:Nat):FOk (xL rows) L 192 (zip zI L) 1:=zG (D:=0) (by kernel_rfl) fun m hm=>⟨zb4,zb5 L,yG,zxM L⟩
theorem zrR(L:Nat):FOk (xL rows) L 191 (zih yH L) 1:=zG (D:=0) (by kernel_rfl) fun m hm=>⟨znP,zos L,yG,zxE L⟩
theorem zoR(L:Nat):FOk (xL rows) L 157 (zfK yw L) 2:=zG (D:=1) (by kernel_rfl) fun m hm=>⟨zkK,zkN zI yH L,(zl (zl yG (zrB L m (by omega))) (zrR L m (by omega))),zuN L⟩
theorem zju(L:Nat):FOk (xL rows) L 118 (zcX yd L) 1:=zG (D:=0) (by kernel_rfl) fun m hm=>⟨zf2,zf1 L,yG,zqc L⟩
theorem ztB(L:Nat):FOk (xL rows) L 113 (zkV yo L) 2:=zG (D:=1) (by kernel_rfl) fun m hm=>⟨zc3,zc5 yd L,(zl yG (zju L m (by omega))),zy7 L⟩
theorem zAt(L:Nat):FOk (xL rows) L 111 (zoj zx L) 3:=zG (D:=2) (by kernel_rfl) fun m hm=>⟨zqA,zqn yo L,(zl yG (ztB L m (by omega))),zAb L⟩
theorem zxZ(L:Nat):FOk (xL rows) L 105 (zqi xZ L) 4:=zG (D:=3) (by kernel_rfl) fun m hm=>⟨zeZ,ze0 xu zx yo L,(zl (zl (zl yG (zwK L m (by omega))) (zAt L m (by omega))) (ztB L m (by omega))),zCq L⟩
theorem zgj(L:Nat):FOk (xL rows) L 297 (zct zc L) 5:=zG (D:=4) (by kernel_rfl) fun m hm=>⟨zgS,zgV z9 zb yw xZ L,(zl (zl (zl (zl yG (zxU L m (by omega))) (ze5 L m (by omega))) (zoR L m (by omega))) (zxZ L m (by omega))),zrf L⟩
theorem zux(L:Nat):FOk (xL rows) L 296 (zhc yi L) 6:=zG (D:=5) (by kernel_rfl) fun m hm=>⟨zjO,zjU zc L,(zl yG (zgj L m (by omega))),ztP L⟩
theorem zwa(L:Nat):FOk (xL rows) L 295 (zje yW L) 7:=zG (D:=6) (by kernel_rfl) fun m hm=>⟨zaV,zaU yi L,(zl yG (zux L m (by omega))),zvD L⟩
theorem zvG(L:Nat):FOk (xL rows) L 205 (zh6 xS L) 2:=zG (D:=1) (by kernel_rfl) fun m hm=>⟨zls,zle zI yH L,(zl (zl yG (zrB L m (by omega))) (zrR L m (by omega))),zuG L⟩
theorem zkX(L:Nat):FOk (xL rows) L 299 (zdu xp L) 5:=zG (D:=4) (by kernel_rfl) fun m hm=>⟨zgY,zgU z9 yw xS xZ zb L,(zl (zl (zl (zl (zl yG (zxU L m (by omega))) (zoR L m (by omega))) (zvG L m (by omega))) (zxZ L m (by omega))) (ze5 L m (by omega))),zrj L⟩
theorem zuZ(L:Nat):FOk (xL rows) L 298 (zha xi L) 6:=zG (D:=5) (by kernel_rfl) fun m hm=>⟨zjV,zjP xp L,(zl yG (zkX L m (by omega))),zub L⟩
theorem ztK(L:Nat):FOk (xL rows) L 295 (zgJ yO L) 7:=zG (D:=6) (by kernel_rfl) fun m hm=>⟨zan,zal xi L,(zl yG (zuZ L m (by omega))),ztv L⟩
theorem zlb(L:Nat):FOk (xL rows) L 275 (zeP xb L) 8:=zG (D:=7) (by kernel_rfl) fun m hm=>⟨zl9,zmd yW yO L,(zpv (zpv yG (zwa L m (by omega))) (ztK L m (by omega))),zvE L⟩
theorem zkE(L:Nat):FOk (xL rows) L 401 (zbF xo L) 1:=zG (D:=0) (by kernel_rfl) fun m hm=>⟨zcO,zcU L,yG,zjR L⟩
theorem zoT(L:Nat):FOk (xL rows) L 394 (zfJ yB L) 2:=zG (D:=1) (by kernel_rfl) fun m hm=>⟨zk8,zlc xo L,(zl yG (zkE L m (by omega))),zuj L⟩
theorem zxo(L:Nat):FOk (xL rows) L 404 (zkx y5 L) 1:=zG (D:=0) (by kernel_rfl) fun m hm=>⟨zmR,zmX L,yG,zwn L⟩
theorem zo2(L:Nat):FOk (xL rows) L 403 (zfH ze L) 2:=zG (D:=1) (by kernel_rfl) fun m hm=>⟨zk1,zkT y5 L,(zl yG (zxo L m (by omega))),zu3 L⟩
theorem ziI(L:Nat):FOk (xL rows) L 402 (za4 xn L) 3:=zG (D:=2) (by kernel_rfl) fun m hm=>⟨yC,xC ze L,(zl yG (zo2 L m (by omega))),zig L⟩
theorem zxy(L:Nat):FOk (xL rows) L 395 (zkl zY L) 4:=zG (D:=3) (by kernel_rfl) fun m hm=>⟨zmS,zmW xn L,(zl yG (ziI L m (by omega))),zvO L⟩
theorem zjQ(L:Nat):FOk (xL rows) L 398 (zem xd L) 1:=zG (D:=0) (by kernel_rfl) fun m hm=>⟨zR,xP L,yG,zuv L⟩
theorem zcz(L:Nat):FOk (xL rows) L 399 (zaf ya L) 1:=zHU (d:=zaf ya L) (by kernel_rfl) rfl (fun β args bor k r h=>by
 unfold zaf ya at h
 split at h
 ·have q:=zg7 h; clear h; obtain ⟨n,rfl,h⟩:=q
  have q:=xr h; clear h; obtain ⟨i,rfl,h⟩:=q
  have q:=zg7 h; clear h; obtain ⟨m,rfl,h⟩:=q
  obtain ⟨hk,h⟩:=zC h
  exact ⟨n,i,m,_,_,rfl,rfl,hk,h⟩
 ·cases h)
theorem zbj(L:Nat):FOk (xL rows) L 400 (xX za L) 1:=zG (D:=0) (by kernel_rfl) fun m hm=>⟨zcF,zcG L,yG,zjF L⟩
theorem zwi(L:Nat):FOk (xL rows) L 396 (zjs yX L) 6:=zG (D:=5) (by kernel_rfl) fun m hm=>⟨zaz,zaA zc xd ya za L,(zl (zl (zl (zl yG (zgj L m (by omega))) (zjQ L m (by omega))) (zcz L m (by omega))) (zbj L m (by omega))),zvN L⟩
theorem zqf(L:Nat):FOk (xL rows) L 382 (zgs yc L) 9:=zG (D:=8) (by kernel_rfl) fun m hm=>⟨zmj,zma xb yB zY yX L,(zl (zl (zl (zl yG (zlb L m (by omega))) (zoT L m (by omega))) (zxy L m (by omega))) (zwi L m (by omega))),zvF L⟩
theorem zAR(L:Nat):FOk (xL rows) L 379 (zn5 xe L) 10:=zG (D:=9) (by kernel_rfl) fun m hm=>⟨zqG,zqo yc zb L,(zl (zl yG (zqf L m (by omega))) (ze5 L m (by omega))),zzF L⟩
theorem zCR(L:Nat):FOk (xL rows) L 225 (zra xf L) 1:=zG (D:=0) (by kernel_rfl) fun m hm=>⟨zs3,ztc L,yG,zBM L⟩
theorem zwR(L:Nat):FOk (xL rows) L 247 (zja zX L) 1:=zG (D:=0) (by kernel_rfl) fun m hm=>⟨zl5,zlW L,yG,zvH L⟩
theorem zCB(L:Nat):FOk (xL rows) L 217 (zqW zbi L) 1:=zG (D:=0) (by kernel_rfl) fun m hm=>⟨ztg,zs6 L,yG,zBO L⟩
theorem zhr(L:Nat):FOk (xL rows) L 231 (zdN xa L) 2:=zG (D:=1) (by kernel_rfl) fun m hm=>⟨zl4,zl6 zX zbi L,(zl (zl yG (zwR L m (by omega))) (zCB L m (by omega))),zvx L⟩
theorem zB1(L:Nat):FOk (xL rows) L 236 (zpT xA L) 3:=zG (D:=2) (by kernel_rfl) fun m hm=>⟨zrM,zr7 xa L,(zl yG (zhr L m (by omega))),zAB L⟩
theorem zuh(L:Nat):FOk (xL rows) L 115 (zkZ yn L) 1:=zG (D:=0) (by kernel_rfl) fun m hm=>⟨zc2,zc0 L,yG,zyT L⟩
theorem zvo(L:Nat):FOk (xL rows) L 110 (zml zS L) 2:=zG (D:=1) (by kernel_rfl) fun m hm=>⟨zrZ,zsb yn L,(zl yG (zuh L m (by omega))),zAM L⟩
theorem zrU(L:Nat):FOk (xL rows) L 194 (zim zH L) 1:=zG (D:=0) (by kernel_rfl) fun m hm=>⟨zb7,zb3 L,yG,zxn L⟩
theorem zsc(L:Nat):FOk (xL rows) L 193 (zil xH L) 1:=zG (D:=0) (by kernel_rfl) fun m hm=>⟨zoo,zoc L,yG,zxO L⟩
theorem zoV(L:Nat):FOk (xL rows) L 159 (zfF zw L) 2:=zG (D:=1) (by kernel_rfl) fun m hm=>⟨zkW,zk0 zH xH L,(zl (zl yG (zrU L m (by omega))) (zsc L m (by omega))),zuu L⟩
theorem zvv(L:Nat):FOk (xL rows) L 304 (zh5 yS L) 2:=zG (D:=1) (by kernel_rfl) fun m hm=>⟨zlt,zkG zH xH L,(zl (zl yG (zrU L m (by omega))) (zsc L m (by omega))),zu8 L⟩
theorem zsV(L:Nat):FOk (xL rows) L 116 (zjv yl L) 2:=zG (D:=1) (by kernel_rfl) fun m hm=>⟨zpb,zpD yd L,(zl yG (zju L m (by omega))),zyf L⟩
theorem zyl(L:Nat):FOk (xL rows) L 114 (zlC zq L) 3:=zG (D:=2) (by kernel_rfl) fun m hm=>⟨znK,zn6 yl L,(zl yG (zsV L m (by omega))),zxv L⟩
theorem zva(L:Nat):FOk (xL rows) L 106 (zmm xO L) 4:=zG (D:=3) (by kernel_rfl) fun m hm=>⟨zdw,zdx yn zq yl L,(zl (zl (zl yG (zuh L m (by omega))) (zyl L m (by omega))) (zsV L m (by omega))),zAG L⟩
theorem zoK(L:Nat):FOk (xL rows) L 294 (zg6 xx L) 1:=zG (D:=0) (by kernel_rfl) fun m hm=>⟨zps,zpt L,yG,zyy L⟩
theorem znn(L:Nat):FOk (xL rows) L 290 (zeD yf L) 5:=zG (D:=4) (by kernel_rfl) fun m hm=>⟨ziT,zjc zS zw yS xO xx L,(zl (zl (zl (zl (zl yG (zvo L m (by omega))) (zoV L m (by omega))) (zvv L m (by omega))) (zva L m (by omega))) (zoK L m (by omega))),zte L⟩
theorem zm9(L:Nat):FOk (xL rows) L 305 (zeB xc L) 5:=zG (D:=4) (by kernel_rfl) fun m hm=>⟨ziZ,zi0 zS xx zw xO L,(zl (zl (zl (zl yG (zvo L m (by omega))) (zoK L m (by omega))) (zoV L m (by omega))) (zva L m (by omega))),zs4 L⟩
theorem zug(L:Nat):FOk (xL rows) L 303 (zkM zg L) 1:=zG (D:=0) (by kernel_rfl) fun m hm=>⟨zqp,zqt L,yG,zy6 L⟩
theorem zpl(L:Nat):FOk (xL rows) L 287 (zis ye L) 2:=zG (D:=1) (by kernel_rfl) fun m hm=>⟨zcn,zcl zg L,(zl yG (zug L m (by omega))),zzb L⟩
theorem zyQ(L:Nat):FOk (xL rows) L 302 (zmC zo L) 6:=zG (D:=5) (by kernel_rfl) fun m hm=>⟨zbY,zbX yf xc ye L,(zl (zl (zl yG (znn L m (by omega))) (zm9 L m (by omega))) (zpl L m (by omega))),zyL L⟩
theorem zsA(L:Nat):FOk (xL rows) L 281 (zjx yL L) 7:=zG (D:=6) (by kernel_rfl) fun m hm=>⟨zbW,zbV zo ye L,(zl (zl yG (zyQ L m (by omega))) (zpl L m (by omega))),zyO L⟩
theorem zr2(L:Nat):FOk (xL rows) L 288 (ziz xk L) 1:=zG (D:=0) (by kernel_rfl) fun m hm=>⟨znV,zom L,yG,zxP L⟩
theorem zrz(L:Nat):FOk (xL rows) L 289 (zit zk L) 1:=zG (D:=0) (by kernel_rfl) fun m hm=>⟨znI,zon L,yG,zxr L⟩
theorem zrQ(L:Nat):FOk (xL rows) L 291 (zik yk L) 1:=zG (D:=0) (by kernel_rfl) fun m hm=>⟨y6,y7 L,yG,zxI L⟩
theorem zvB(L:Nat):FOk (xL rows) L 291 (zib zT L) 1:=zG (D:=0) (by kernel_rfl) fun m hm=>⟨xQ,yR L,yG,zuV L⟩
theorem zrv(L:Nat):FOk (xL rows) L 292 (zix yj L) 2:=zG (D:=1) (by kernel_rfl) fun m hm=>⟨zoa,zn4 zT L,(zl yG (zvB L m (by omega))),zxJ L⟩
theorem zxw(L:Nat):FOk (xL rows) L 287 (zkv xm L) 2:=zG (D:=1) (by kernel_rfl) fun m hm=>⟨zbb,zbc zg L,(zl yG (zug L m (by omega))),zwc L⟩
theorem zui(L:Nat):FOk (xL rows) L 293 (zlq zM L) 6:=zG (D:=5) (by kernel_rfl) fun m hm=>⟨zbO,zbQ xk xm xc yk yj zk L,(zl (zl (zl (zl (zl (zl yG (zr2 L m (by omega))) (zxw L m (by omega))) (zm9 L m (by omega))) (zrQ L m (by omega))) (zrv L m (by omega))) (zrz L m (by omega))),zzt L⟩
theorem zAo(L:Nat):FOk (xL rows) L 272 (znM zy L) 8:=zG (D:=7) (by kernel_rfl) fun m hm=>⟨zqJ,zqq yL ye xk zk yf yk yj xx zM L,(zl (zl (zl (zl (zl (zl (zl (zl (zl yG (zsA L m (by omega))) (zpl L m (by omega))) (zr2 L m (by omega))) (zrz L m (by omega))) (znn L m (by omega))) (zrQ L m (by omega))) (zrv L m (by omega))) (zoK L m (by omega))) (zui L m (by omega))),zAc L⟩
theorem zBX(L:Nat):FOk (xL rows) L 262 (zpP yA L) 3:=zG (D:=2) (by kernel_rfl) fun m hm=>⟨zsk,zrT xa L,(zl yG (zhr L m (by omega))),zAV L⟩
theorem zzU(L:Nat):FOk (xL rows) L 273 (zmG yv L) 8:=zG (D:=7) (by kernel_rfl) fun m hm=>⟨zpe,zpr yL zM L,(zl (zl yG (zsA L m (by omega))) (zui L m (by omega))),zyB L⟩
theorem zB5(L:Nat):FOk (xL rows) L 260 (zpH zf L) 9:=zG (D:=8) (by kernel_rfl) fun m hm=>⟨zdB,zdy xA xa zy yA yv L,(zl (zl (zl (zl (zl yG (zB1 L m (by omega))) (zhr L m (by omega))) (zAo L m (by omega))) (zBX L m (by omega))) (zzU L m (by omega))),zAv L⟩
theorem zhI(L:Nat):FOk (xL rows) L 402 (zaO zn L) 3:=zG (D:=2) (by kernel_rfl) fun m hm=>⟨xy,zz ze L,(zl yG (zo2 L m (by omega))),zhp L⟩
theorem zuT(L:Nat):FOk (xL rows) L 395 (zhq yQ L) 4:=zG (D:=3) (by kernel_rfl) fun m hm=>⟨zj0,zjW zn L,(zl yG (zhI L m (by omega))),zua L⟩
theorem zxL(L:Nat):FOk (xL rows) L 397 (zj5 yV L) 9:=zG (D:=8) (by kernel_rfl) fun m hm=>⟨zm0,zm6 xb yQ yB za L,(zl (zl (zl (zl yG (zlb L m (by omega))) (zuT L m (by omega))) (zoT L m (by omega))) (zbj L m (by omega))),zwm L⟩
theorem ztq(L:Nat):FOk (xL rows) L 398 (zfR xR L) 1:=zG (D:=0) (by kernel_rfl) fun m hm=>⟨zL,xK L,yG,zsx L⟩
theorem ziJ(L:Nat):FOk (xL rows) L 400 (za5 xt L) 1:=zG (D:=0) (by kernel_rfl) fun m hm=>⟨zcj,zci L,yG,ziB L⟩
theorem ztG(L:Nat):FOk (xL rows) L 396 (zgK xN L) 6:=zG (D:=5) (by kernel_rfl) fun m hm=>⟨zaa,y9 zc xd ya za L,(zl (zl (zl (zl yG (zgj L m (by omega))) (zjQ L m (by omega))) (zcz L m (by omega))) (zbj L m (by omega))),zs8 L⟩
theorem zxq(L:Nat):FOk (xL rows) L 389 (zky zd L) 10:=zG (D:=9) (by kernel_rfl) fun m hm=>⟨zmU,zmV yV xp xR xt xd ya za zb xN L,(zl (zl (zpv (zl (zpv (zpv (zpv (zl (zl yG (zxL L m (by omega))) (zkX L m (by omega))) (ztq L m (by omega))) (ziJ L m (by omega))) (zjQ L m (by omega))) (zcz L m (by omega))) (zbj L m (by omega))) (ze5 L m (by omega))) (ztG L m (by omega))),zwH L⟩
theorem zr4(L:Nat):FOk (xL rows) L 377 (ze3 za2 L) 11:=zG (D:=10) (by kernel_rfl) fun m hm=>⟨xq,zr xe xf zf xa yc zd zb xb L,(zl (zl (zl (zl (zl (zl (zl (zl yG (zAR L m (by omega))) (zCR L m (by omega))) (zB5 L m (by omega))) (zhr L m (by omega))) (zqf L m (by omega))) (zxq L m (by omega))) (ze5 L m (by omega))) (zlb L m (by omega))),zqZ L⟩
end
section
set_option maxRecDepth 100000
variable {β:Type}
structure Adr where
 h:Int
 p:Int
 t:Int
def Adr.v(a:Adr):List V:=[.sc (.int .u32 a.h),.sc (.int .u16 a.p),.sc (.int .u32 a.t)]
def grp(a:Adr):Int:=zpk .u32 a.h 16
theorem zsj(L:Nat)(a:Adr)(k:Int→Option β):zb β L a.v k=k (grp a):=by
 simp only [zb,zmM,Adr.v,ym]
 rw [zE (by rfl)]; rfl
theorem zyF(L:Nat)(a:Adr)(k:Int→Option β):xx β L a.v k=k (grp a):=by
 simp only [xx,zqr,Adr.v,ym]
 rw [zE (by rfl)]; rfl
structure Plc where
 b:Int
 a:Adr
 s:Int
def Plc.v(e:Plc):List V:=[.sc (.int .i64 e.b),.sc (.int .u32 e.a.h),.sc (.int .u16 e.a.p),.sc (.int .u32 e.a.t),.sc (.int .u32 e.s)]
def xG(l:List Plc):List (List V):=l.map Plc.v
theorem yP(l:List Plc):(xG l).length=l.length:=by simp [xG]
theorem zcg{l:List Plc}{i:Nat}(h:i<l.length):(xG l)[i]?=some l[i].v:=by simp [xG,h]
theorem zyw(l m:List Plc):xG l++xG m=xG (l++m):=by simp [xG]
def zJF(l:List Adr):List (List V):=l.map Adr.v
structure Bk where
 salt:List Int
 H:List Plc
 T:List Plc
 hs:salt.length=32
def Bk.v(b:Bk):List V:=row .u8 b.salt++[.sl 5 (xG b.H),.sl 5 (xG b.T)]
theorem Bk.len(b:Bk):b.v.length=34:=by simp [Bk.v,zc7,b.hs]
theorem Bk.take(b:Bk):XI 34 b.v=b.v:=Xu (by rw [b.len]; exact Wq _)
theorem zHG(k:IntKind)(l:List Int):(row k l).map V.dem=row k l:=by simp [row,V.dem]
theorem Bk.dem(b:Bk):Xt V.dem b.v=b.v:=by
 rw [Bk.v,List.map_append,zHG]; rfl
theorem Bk.g32(b:Bk):b.v[32]?=some (.sl 5 (xG b.H)):=by
 rw [Bk.v,Wt (by rw [zc7,b.hs]; omega),zc7,b.hs]; rfl
theorem Bk.g33(b:Bk):b.v[33]?=some (.sl 5 (xG b.T)):=by
 rw [Bk.v,Wt (by rw [zc7,b.hs]; omega),zc7,b.hs]; rfl
end
section
set_option maxRecDepth 100000
variable {β:Type}
def zka(m:Int)(i:Nat):List Int→Int
 | []=>m
 | b::bs=>zka (ior .u64 m (zqw .u64 (QF .u64 b) (QF .i64 (8*(i:Int))))) (i+1) bs
theorem zvn(L:Nat)(kx:Int→Option β)(l:List Int)(hl:l.length≤1000000):∀ (n:Nat) (m:Int) (i:Nat),i≤l.length→l.length-i<n→zhs L kx n m (za3 .u8 l) (l.length:Int) (i:Int)=kx (zka m i (l.drop i))
 | 0,m,i,hi,hn=>by omega
 | n+1,m,i,hi,hn=>by
  simp only [zhs,znX,ym]
  by_cases h:i<l.length
  ·rw [zap (by omega),zcc (zyx _ h),zE (by rfl),yb (by rw [zZ (by omega) (by omega)]; omega)]
   rw [show QF .i64 ((i:Int)+1)=((i+1:Nat):Int) by rw [zZ (by omega) (by omega)]; omega]
   rw [zvn L kx l hl n _ (i+1) (by omega) (by omega),WP h]
   rfl
  ·rw [zaD (by omega),WI (by omega)]
   rfl
theorem zu7(L:Nat)(l:List Int)(hl:l.length≤1000000)(hL:l.length<L)(k:Int→Option β):xu β L (za3 .u8 l) k=k (zka 0 0 l):=by
 simp only [xu,zrb,zu6,zfu]
 exact zvn L _ l hl L 0 0 (by omega) (by omega)
theorem zvl(L:Nat)(kx:Int→Option β)(l:List Int)(hl:l.length≤1000000):∀ (n:Nat) (m:Int) (i:Nat),i≤l.length→l.length-i<n→zfP L kx n (za3 .u8 l) m (l.length:Int) (i:Int)=kx (zka m i (l.drop i))
 | 0,m,i,hi,hn=>by omega
 | n+1,m,i,hi,hn=>by
  simp only [zfP,zmf,ym]
  by_cases h:i<l.length
  ·rw [zap (by omega),zcc (zyx _ h),zE (by rfl),yb (by rw [zZ (by omega) (by omega)]; omega)]
   rw [show QF .i64 ((i:Int)+1)=((i+1:Nat):Int) by rw [zZ (by omega) (by omega)]; omega]
   rw [zvl L kx l hl n _ (i+1) (by omega) (by omega),WP h]
   rfl
  ·rw [zaD (by omega),WI (by omega)]
   rfl
theorem zus(L:Nat)(l:List Int)(hl:l.length≤1000000)(hL:l.length<L)(k:Int→Option β):yn β L (za3 .u8 l) k=k (zka 0 0 l):=by
 simp only [yn,znB,zrw,zfu]
 exact zvl L _ l hl L 0 0 (by omega) (by omega)
theorem zAd(L:Nat)(hL:8<L)(l:List Int)(h:l.length=32)(k:List V→Option β):z9 β L (row .u8 l) k=k (row .u64 [zka 0 0 (l.take 8),zka 0 0 ((l.drop 8).take 8)])∧zS β L (row .u8 l) k=k (row .u64 [zka 0 0 (l.take 8),zka 0 0 ((l.drop 8).take 8)]):=by
 obtain ⟨x,l',rfl⟩:∃ x l',l=x::l':=by
  cases l with
  | nil=>simp at h
  | cons x l'=>exact ⟨x,l',rfl⟩
 have e:(V.sc (.int .u8 x)::row .u8 l')=row .u8 (x::l'):=rfl
 have el:∀ (A:Option β) (B:V→List V→Option β),lc (row .u8 (x::l')) A B=B (Qa x) (row .u8 l'):=fun _ _=>rfl
 constructor
 ·simp only [z9,zvW,ym,el,e,zc7,h,zC4]
  rw [yb (by decide),zoe _ _ _ (by omega),zu7 _ _ (by simp; omega) (by simp; omega),yb (by decide),zoe _ _ _ (by simp at h ⊢; omega),zu7 _ _ (by simp; omega) (by simp; omega),yb (by simp)]
  rfl
 ·simp only [zS,ztp,ym,el,e,zc7,h,zC4]
  rw [yb (by decide),zoe _ _ _ (by omega),zus _ _ (by simp; omega) (by simp; omega),yb (by decide),zoe _ _ _ (by simp at h ⊢; omega),zus _ _ (by simp; omega) (by simp; omega),yb (by simp)]
  rfl
end
section
set_option maxRecDepth 100000
variable {β:Type}
theorem zp9{inst:Decidable ((4:Nat)≠0)}(k:Option β):@chk β ((4:Nat)≠0) inst k=k:=yb (by omega) k
structure S4 where
 a:Int
 b:Int
 c:Int
 d:Int
def S4.row(s:S4):List V:=[.sc (.int .u64 s.a),.sc (.int .u64 s.b),.sc (.int .u64 s.c),.sc (.int .u64 s.d)]
def zrP(x n:Int):Int:=ior .u64 (zqw .u64 x (zGV .u64 (QF .u64 n) 63)) (zpk .u64 x (QF .u64 (64-zGV .u64 (QF .u64 n) 63)))
theorem zHh(L:Nat)(x:Int)(k:Int→Option β):yd β L x 13 k=k (zrP x 13):=by kernel_rfl
theorem zHo(L:Nat)(x:Int)(k:Int→Option β):yd β L x 32 k=k (zrP x 32):=by kernel_rfl
theorem zHq(L:Nat)(x:Int)(k:Int→Option β):yd β L x 16 k=k (zrP x 16):=by kernel_rfl
theorem zHr(L:Nat)(x:Int)(k:Int→Option β):yd β L x 21 k=k (zrP x 21):=by kernel_rfl
theorem zHt(L:Nat)(x:Int)(k:Int→Option β):yd β L x 17 k=k (zrP x 17):=by kernel_rfl
def r1(s:S4):S4:=⟨QF .u64 (s.a+s.b),s.b,s.c,s.d⟩
def r2(s:S4):S4:=⟨s.a,zbf .u64 (zrP s.b 13) s.a,s.c,s.d⟩
def r3(s:S4):S4:=⟨zrP s.a 32,s.b,s.c,s.d⟩
def r4(s:S4):S4:=⟨s.a,s.b,QF .u64 (s.c+s.d),s.d⟩
def r5(s:S4):S4:=⟨s.a,s.b,s.c,zbf .u64 (zrP s.d 16) s.c⟩
def r6(s:S4):S4:=⟨QF .u64 (s.a+s.d),s.b,s.c,s.d⟩
def r7(s:S4):S4:=⟨s.a,s.b,s.c,zbf .u64 (zrP s.d 21) s.a⟩
def r8(s:S4):S4:=⟨s.a,s.b,QF .u64 (s.c+s.b),s.d⟩
def r9(s:S4):S4:=⟨s.a,zbf .u64 (zrP s.b 17) s.c,s.c,s.d⟩
def r10(s:S4):S4:=⟨s.a,s.b,zrP s.c 32,s.d⟩
def rnd(s:S4):S4:=r10 (r9 (r8 (r7 (r6 (r5 (r4 (r3 (r2 (r1 s)))))))))
theorem c0(s:S4)(k:Int→Option β):cI .u64 s.row 0 k=k s.a:=by cases s; rfl
theorem c1(s:S4)(k:Int→Option β):cI .u64 s.row 1 k=k s.b:=by cases s; rfl
theorem c2(s:S4)(k:Int→Option β):cI .u64 s.row 2 k=k s.c:=by cases s; rfl
theorem c3(s:S4)(k:Int→Option β):cI .u64 s.row 3 k=k s.d:=by cases s; rfl
theorem zEQ(s:S4)(x:Int):xg s.row 0 [.sc (.int .u64 x)]=S4.row ⟨x,s.b,s.c,s.d⟩:=by cases s; rfl
theorem zIF(s:S4)(x:Int):xg s.row 1 [.sc (.int .u64 x)]=S4.row ⟨s.a,x,s.c,s.d⟩:=by cases s; rfl
theorem zEJ(s:S4)(x:Int):xg s.row 2 [.sc (.int .u64 x)]=S4.row ⟨s.a,s.b,x,s.d⟩:=by cases s; rfl
theorem zEV(s:S4)(x:Int):xg s.row 3 [.sc (.int .u64 x)]=S4.row ⟨s.a,s.b,s.c,x⟩:=by cases s; rfl
theorem zr5(s t:S4):xg s.row 0 t.row=t.row:=by cases s; cases t; rfl
theorem zEI(z0 z1 z2 z3:Int)(t:S4):xg [V.sc (.int .u64 z0),V.sc (.int .u64 z1),V.sc (.int .u64 z2),V.sc (.int .u64 z3)] 0 t.row=t.row:=by cases t; rfl
theorem zmN(s:S4):s.row.length=4:=by cases s; rfl
theorem zn0(s:S4):s.row.take 4=s.row:=by cases s; rfl
theorem zBA(L:Nat)(s:S4)(k:List V→Option β):yl β L s.row k=k (rnd s).row:=by
 simp only [yl,zqH,ym,c0,c1,c2,c3,zEQ,zIF,zEJ,zEV,zHh,zHo,zHq,zHr,zHt,zmN,zn0,zEI]
 repeat rw [yb (by decide)]
 rfl
theorem zF9(L:Nat)(p5 p6:Int)(s:S4)(z0 z1 z2 z3:Int)(kh:Int→Int→List V→Int→Int→Int→Int→Option β)(kx:List V→Int→Int→Int→Int→Option β)(h:p6<p5):zgA yd L p5 p6 s.row z0 z1 z2 z3 kh kx=kh p5 (QF .i64 (p6+1)) (rnd s).row z0 z1 z2 z3:=by
 simp only [zgA,ym,c0,c1,c2,c3,zEQ,zIF,zEJ,zEV,zHh,zHo,zHq,zHr,zHt,zmN,zp9,zkC,true_and,and_true,and_self,XP,XQ,XO,Wq,WB]
 rw [zap h]
 simp only [rnd,r1,r2,r3,r4,r5,r6,r7,r8,r9,r10]
def zAr:Nat→S4→S4
 | 0,s=>s
 | n+1,s=>zAr n (rnd s)
theorem zsU(L:Nat)(kx:List V→Int→Int→Int→Int→Option β)(z0 z1 z2 z3:Int)(m:Nat)(hm:m≤1000):∀ (n i:Nat) (s:S4),i≤m→m-i<n→zgp yd L kx n (m:Int) (i:Int) s.row z0 z1 z2 z3=kx (zAr (m-i) s).row z0 z1 z2 z3
 | 0,i,s,hi,hn=>by omega
 | n+1,i,s,hi,hn=>by
  simp only [zgp]
  by_cases h:i<m
  ·rw [zF9 _ _ _ _ _ _ _ _ _ _ (by omega)]
   rw [show QF .i64 ((i:Int)+1)=((i+1:Nat):Int) by rw [zZ (by omega) (by omega)]; omega]
   rw [zsU L kx z0 z1 z2 z3 m hm n (i+1) _ (by omega) (by omega),show m-i=(m-(i+1))+1 by omega]
   rfl
  ·simp only [zgA]
   rw [zaD (by omega),show m-i=0 by omega]
   rfl
theorem zzM(L:Nat)(s:S4)(m:Nat)(hm:m≤1000)(hL:m<L)(k:List V→Option β):yo β L s.row (m:Int) k=k (zAr m s).row:=by
 simp only [yo,zob,zr9]
 rw [show (0:Int)=((0:Nat):Int) from rfl,zsU L _ _ _ _ _ m hm L 0 s (by omega) (by omega)]
 simp only [zlp,ym,zmN,zn0,Nat.sub_zero,zEI,zp9,zkC,true_and,and_true,and_self,XP,XQ,XO,Wq,WB]
def zr0(s:S4)(m:Int):S4:=⟨zbf .u64 (rnd (rnd ⟨s.a,s.b,s.c,zbf .u64 s.d m⟩)).a m,(rnd (rnd ⟨s.a,s.b,s.c,zbf .u64 s.d m⟩)).b,(rnd (rnd ⟨s.a,s.b,s.c,zbf .u64 s.d m⟩)).c,(rnd (rnd ⟨s.a,s.b,s.c,zbf .u64 s.d m⟩)).d⟩
theorem zzC(L:Nat)(hL:2<L)(s:S4)(m:Int)(k:List V→Option β):zx β L s.row m k=k (zr0 s m).row:=by
 simp only [zx,zrI,ym,c3,zEV,zmN,zn0,zp9,zkC,true_and,and_true,and_self,XP,XQ,XO,Wq,WB]
 rw [show (2:Int)=((2:Nat):Int) from rfl,zzM L _ 2 (by omega) hL]
 simp only [zmN,zr5,c0,zEQ,zn0,zEI,zAr,zr0,zp9,zkC,true_and,and_true,and_self,XP,XQ,XO,Wq,WB]
theorem zzN(L:Nat)(s:S4)(m:Int)(k:List V→Option β):zq β L s.row m k=k (zr0 s m).row:=by
 simp only [zq,zph,ym,c3,zEV,zmN,zn0,zBA,zr5,c0,zEQ,zEI,zr0,zp9,zkC,true_and,and_true,and_self,XP,XQ,XO,Wq,WB]
def zrN:Nat→S4→List Int→S4
 | 0,s,_=>s
 | n+1,s,l=>zrN n (zr0 s (zka 0 0 (l.take 8))) (l.drop 8)
def zEk(s:S4)(n:Int)(l:List Int):S4:=zr0 s (ior .u64 (zka 0 0 l) (zqw .u64 (QF .u64 (XM n 256)) 56))
def zEl(s:S4):S4:=zAr 4 ⟨s.a,s.b,zbf .u64 s.c 255,s.d⟩
def zzz(s:S4):Int:=zbf .u64 (zbf .u64 (zbf .u64 s.a s.b) s.c) s.d
def zCo(s:S4)(n:Int)(l:List Int):Int:=zzz (zEl (zEk s n l))
def zE7(x y:Int):S4:=⟨zbf .u64 x 8317987319222330741,zbf .u64 y 7237128888997146477,zbf .u64 x 7816392313619706465,zbf .u64 y 8387220255154660723⟩
def zkn(x y:Int)(l:List Int):Int:=zCo (zrN (l.length / 8) (zE7 x y) l) l.length (l.drop (l.length / 8*8))
theorem zwx(L:Nat)(hL:10<L)(l:List Int)(hl:l.length≤1000000)(kx:List (List V)→Int→List V→Option β)(p6:Int):∀ (n i:Nat) (s:S4),i≤l.length / 8→l.length / 8-i<n→zhn xu zx yo L kx n (za3 .u8 l) p6 ((l.length / 8:Nat):Int) (i:Int) s.row=kx (za3 .u8 l) p6 (zrN (l.length / 8-i) s (l.drop (8*i))).row
 | 0,i,s,hi,hn=>by omega
 | n+1,i,s,hi,hn=>by
  simp only [zhn,zov,ym,zmN,zn0,zfu]
  by_cases h:i<l.length / 8
  ·have e1:QF .i64 (8*(i:Int))=((8*i:Nat):Int):=by rw [zZ (by omega) (by omega)]; omega
   have e2:QF .i64 (((8*i:Nat):Int)+8)=((8*i+8:Nat):Int):=by rw [zZ (by omega) (by omega)]; omega
   have e3:QF .i64 ((i:Int)+1)=((i+1:Nat):Int):=by rw [zZ (by omega) (by omega)]; omega
   rw [zap (by omega),e1,e2,e3,yb (by decide),yb (by omega),yb (by simp; omega)]
   simp only [Int.toNat_natCast,zv2,zwY]
   rw [zu7 _ _ (by simp; omega) (by simp; omega),zzC _ (by omega)]
   simp only [zmN,zr5]
   rw [yb (by decide),zwx L hL l hl kx p6 n (i+1) _ (by omega) (by omega),show l.length / 8-i=(l.length / 8-(i+1))+1 by omega,zrN,List.drop_drop]
   rw [show 8*i+8-8*i=8 by omega,show 8*(i+1)=8*i+8 by omega]
  ·rw [zaD (by omega),show l.length / 8-i=0 by omega]
   rfl
theorem zw6(L:Nat)(x y:Int)(l:List Int)(hl:l.length≤1000000)(hL:l.length+10<L)(k:Int→Option β):xZ β L (row .u64 [x,y]) (za3 .u8 l) k=k (zkn x y l):=by
 simp only [xZ,zsR,zwA,ym,zfu]
 rw [zE (n:=x) (by rfl),zE (n:=y) (by rfl),zE (n:=x) (by rfl),zE (n:=y) (by rfl)]
 have e1:QF .i64 (Int.tdiv (l.length:Int) 8)=((l.length / 8:Nat):Int):=by
  rw [Int.tdiv_eq_ediv_of_nonneg (by omega),zZ (by omega) (by omega)]; omega
 rw [e1,show (0:Int)=((0:Nat):Int) from rfl]
 have:=zwx (β:=β) L (by omega) l hl (fun p1 p6 b5=>zh9 xu zx yo L p1 p6 b5 k) ((l.length / 8:Nat):Int) L 0 (zE7 x y) (by omega) (by omega)
 refine (show _=_ from this).trans ?_
 have e2:QF .i64 (8*((l.length / 8:Nat):Int))=((l.length / 8*8:Nat):Int):=by rw [zZ (by omega) (by omega)]; omega
 simp only [zh9,ym,zmN,zn0,zfu,Nat.sub_zero,Nat.mul_zero,List.drop_zero]
 rw [yb (by decide),e2,yb (by omega)]
 simp only [Int.toNat_natCast,zv2,zwY]
 rw [Xu (by simp),zu7 _ _ (by simp; omega) (by simp; omega),zzC _ (by omega)]
 simp only [zmN,zr5,c2,zEJ,zn0,zp9,zkC,true_and,and_true,and_self,XP,XQ,XO,Wq,WB]
 rw [show (4:Int)=((4:Nat):Int) from rfl,zzM _ _ 4 (by omega) (by omega)]
 simp only [zmN,zr5,c0,c1,c2,c3,zkn,zCo,zEk,zEl,zzz,zp9,zkC,true_and,and_true,and_self,XP,XQ,XO,Wq,WB]
theorem zEy(n:Nat):∀ (s:S4) (l:List Int),zrN (n+1) s l=zrN n (zr0 s (zka 0 0 (l.take 8))) (l.drop 8):=fun _ _=>rfl
theorem zwj(L:Nat)(hL:10<L)(kx:List (List V)→Int→List V→Option β)(p6:Int):∀ (n:Nat) (l:List Int) (s:S4),l.length≤1000000→l.length / 8<n→zgq yn zq yl L kx n (za3 .u8 l) p6 s.row=kx (za3 .u8 (l.drop (l.length / 8*8))) p6 (zrN (l.length / 8) s l).row
 | 0,l,s,hl,hn=>by omega
 | n+1,l,s,hl,hn=>by
  simp only [zgq,zm5,ym,zmN,zn0,zfu]
  by_cases h:8≤l.length
  ·rw [zap (by omega),yb (by decide),yb (by omega)]
   simp only [zv2,zwY,List.drop_zero]
   rw [zus _ _ (by simp; omega) (by simp; omega),zzN,yb (by omega)]
   simp only [zmN,zr5]
   rw [yb (by decide),Xu (by simp),zwj L hL kx p6 n _ _ (by simp; omega) (by simp; omega)]
   have e:(l.drop 8).length / 8=l.length / 8-1:=by simp; omega
   rw [e,List.drop_drop,show 8+(l.length / 8-1)*8=l.length / 8*8 by omega]
   obtain ⟨q,hq⟩:∃ q,l.length / 8=q+1:=⟨l.length / 8-1,by omega⟩
   rw [hq,zEy]
   rfl
  ·have e:l.length / 8=0:=by omega
   rw [zaD (by omega),e]
   rfl
theorem zxh(L:Nat)(x y:Int)(l:List Int)(hl:l.length≤1000000)(hL:l.length+10<L)(k:Int→Option β):xO β L (row .u64 [x,y]) (za3 .u8 l) k=k (zkn x y l):=by
 simp only [xO,zpQ,ztj,ym,zfu]
 rw [zE (n:=x) (by rfl),zE (n:=y) (by rfl),zE (n:=x) (by rfl),zE (n:=y) (by rfl)]
 have:=zwj (β:=β) L (by omega) (fun p1 p6 b5=>zhi yn zq yl L p1 p6 b5 k) (l.length:Int) L l (zE7 x y) hl (by omega)
 refine (show _=_ from this).trans ?_
 simp only [zhi,ym,zmN,zn0]
 rw [yb (by decide),zus _ _ (by simp; omega) (by simp; omega)]
 simp only [zzN,zmN,zr5,c2,zEJ,zn0,zBA,c0,c1,c3,zkn,zCo,zEk,zEl,zzz,zAr,zp9,zkC,true_and,and_true,and_self,XP,XQ,XO,Wq,WB]
end
section
set_option maxRecDepth 100000
variable {β:Type}
def le4(x:Int):List Int:=[QF .u8 (zpk .u64 x 0),QF .u8 (zpk .u64 x 8),QF .u8 (zpk .u64 x 16),QF .u8 (zpk .u64 x 24)]
def le2(x:Int):List Int:=[QF .u8 (zpk .u64 x 0),QF .u8 (zpk .u64 x 8)]
theorem zJn(L:Nat)(x:Int)(k:List (List V)→Option β):zI β (L+10) x 4 k=k (za3 .u8 (le4 x)):=by kernel_rfl
theorem zJw(L:Nat)(x:Int)(k:List (List V)→Option β):zI β (L+10) x 2 k=k (za3 .u8 (le2 x)):=by kernel_rfl
theorem zJb(L:Nat)(x:Int)(k:List (List V)→Option β):zH β (L+10) x 4 k=k (za3 .u8 (le4 x)):=by kernel_rfl
theorem zJd(L:Nat)(x:Int)(k:List (List V)→Option β):zH β (L+10) x 2 k=k (za3 .u8 (le2 x)):=by kernel_rfl
theorem zF6(L:Nat)(l m:List Int)(hl:l.length≤1000)(hm:m.length≤1000)(k:List (List V)→Option β):yH β L (za3 .u8 l) (za3 .u8 m) k=k (za3 .u8 (l++m)):=by
 simp only [yH,zpp,ym,zfu,XR,List.length_nil,WB,List.nil_append]
 rw [zZ (by omega) (by omega),yb ⟨by omega,by omega,by simp only [xw]; omega,by simp only [xw]; omega⟩,yb ⟨by simp only [xw]; omega,by simp only [xw]; omega⟩,yb ⟨by simp only [xw]; omega,by simp only [xw]; omega⟩,zCs]
theorem zEa(L:Nat)(l m:List Int)(hl:l.length≤1000)(hm:m.length≤1000)(k:List (List V)→Option β):xH β L (za3 .u8 l) (za3 .u8 m) k=k (za3 .u8 (l++m)):=by
 simp only [xH,zpx,ym,zfu,XR,List.length_nil,WB,List.nil_append]
 rw [zZ (by omega) (by omega),yb ⟨by omega,by omega,by simp only [xw]; omega,by simp only [xw]; omega⟩,yb ⟨by simp only [xw]; omega,by simp only [xw]; omega⟩,yb ⟨by simp only [xw]; omega,by simp only [xw]; omega⟩,zCs]
def w64(x:Int):Int:=QF .u64 x
theorem zyk(L:Nat)(l:List Int)(hl:l.length≤900)(x:Int)(k:List (List V)→Option β):yw β (L+10) (za3 .u8 l) x k=k (za3 .u8 (l++le4 (w64 x))):=by
 simp only [yw,zl0,ym]
 rw [zJn,zF6 _ _ _ (by omega) (by simp [le4])]; rfl
theorem zJc(L:Nat)(l:List Int)(hl:l.length≤900)(x:Int)(k:List (List V)→Option β):xS β (L+10) (za3 .u8 l) x k=k (za3 .u8 (l++le2 (w64 x))):=by
 simp only [xS,zmh,ym]
 rw [zJw,zF6 _ _ _ (by omega) (by simp [le2])]; rfl
theorem zuP(L:Nat)(l:List Int)(hl:l.length≤900)(x:Int)(k:List (List V)→Option β):zw β (L+10) (za3 .u8 l) x k=k (za3 .u8 (l++le4 (w64 x))):=by
 simp only [zw,zmb,ym]
 rw [zJb,zEa _ _ _ (by omega) (by simp [le4])]; rfl
theorem zIP(L:Nat)(l:List Int)(hl:l.length≤900)(x:Int)(k:List (List V)→Option β):yS β (L+10) (za3 .u8 l) x k=k (za3 .u8 (l++le2 (w64 x))):=by
 simp only [yS,zl3,ym]
 rw [zJd,zEa _ _ _ (by omega) (by simp [le2])]; rfl
end
section
set_option maxRecDepth 100000
variable {β:Type}
def zw0(s:List Int):Int:=zka 0 0 (s.take 8)
def zv1(s:List Int):Int:=zka 0 0 ((s.drop 8).take 8)
def bkt(s:List Int)(m1:List Int)(m2:Int→List Int):Int:=
 QF .i64 (XM (zkn (zw0 s) (zv1 s) (m2 (QF .u32 (XM (zkn (zw0 s) (zv1 s) m1) 4)))) 64)
def hbk(s:List Int)(a:Adr)(src:Int):Int:=bkt s ([2]++le4 (w64 (grp a))++le4 (w64 src)) (fun x=>[1]++le4 (w64 src)++le4 (w64 x))
def tbk(s:List Int)(a:Adr):Int:=bkt s ([4]++le4 (w64 a.h)++le2 (w64 a.p)) (fun x=>[3]++le4 (w64 (grp a))++le4 (w64 x))
theorem zCa(n:Int):xh 1 1 [(Qa n)]=za3 .u8 [n]:=rfl
theorem zB8(x y:Int):xg [(Qd (0:Int)),(Qd (0:Int))] 0 (row .u64 [x,y])=row .u64 [x,y]:=rfl
theorem zz9(x y:Int):XI 2 (row .u64 [x,y])=row .u64 [x,y]:=rfl
theorem zcr(a:Adr):XI 3 a.v=a.v:=rfl
theorem zrt{s:List Int}(h:s.length=32):XI 32 (row .u8 s)=row .u8 s:=Xu (by rw [zc7,h]; exact Wq _)
theorem zEr(L:Nat)(s:List Int)(hs:s.length=32)(a:Adr)(src:Int)(k:Int→Option β):zc β (L+100) (row .u8 s) a.v src k=k (hbk s a src):=by
 simp only [zc,zhP,zrt hs,zcr,ym,zCa]
 rw [yb (by rw [zc7,hs]; omega),(zAd (β:=β) (L+100) (by omega) s hs _).1,yb ⟨rfl,by omega⟩,zB8,yb (by show 0+2≤2; omega),yb (by show 0+3≤3; omega),zsj,show L+100=(L+90)+10 from rfl,zyk _ _ (by simp),zyk _ _ (by simp [le4]),zz9,zw6 _ _ _ _ (by simp [le4]) (by simp [le4]),zyk _ _ (by simp),zyk _ _ (by simp [le4]),yb (by show 0+2≤2; omega),zw6 _ _ _ _ (by simp [le4]) (by simp [le4])]
 rfl
theorem zHk(L:Nat)(s:List Int)(hs:s.length=32)(a:Adr)(src:Int)(k:Int→Option β):xc β (L+100) (row .u8 s) a.v src k=k (hbk s a src):=by
 simp only [xc,zj4,zrt hs,zcr,ym,zCa]
 rw [yb (by rw [zc7,hs]; omega),(zAd (β:=β) (L+100) (by omega) s hs _).2,yb ⟨rfl,by omega⟩,zB8,yb (by show 0+2≤2; omega),yb (by show 0+3≤3; omega),zyF,show L+100=(L+90)+10 from rfl,zuP _ _ (by simp),zuP _ _ (by simp [le4]),zz9,zxh _ _ _ _ (by simp [le4]) (by simp [le4]),yb (by show 0+2≤2; omega),zuP _ _ (by simp),zuP _ _ (by simp [le4]),zxh _ _ _ _ (by simp [le4]) (by simp [le4])]
 rfl
theorem zHm(L:Nat)(s:List Int)(hs:s.length=32)(a:Adr)(k:Int→Option β):xp β (L+100) (row .u8 s) a.v k=k (tbk s a):=by
 simp only [xp,zhH,zrt hs,zcr,ym,zCa]
 rw [yb (by rw [zc7,hs]; omega),(zAd (β:=β) (L+100) (by omega) s hs _).1,yb ⟨rfl,by omega⟩,zB8,yb (by show 0+2≤2; omega),zE (n:=a.h) rfl,show L+100=(L+90)+10 from rfl,zyk _ _ (by simp),zE (n:=a.p) rfl,zJc _ _ (by simp [le4]),zz9,zw6 _ _ _ _ (by simp [le4,le2]) (by simp [le4,le2]),yb (by show 0+3≤3; omega),zsj,zyk _ _ (by simp),zyk _ _ (by simp [le4]),yb (by show 0+2≤2; omega),zw6 _ _ _ _ (by simp [le4]) (by simp [le4])]
 rfl
theorem zFh(L:Nat)(s:List Int)(hs:s.length=32)(a:Adr)(k:Int→Option β):yf β (L+100) (row .u8 s) a.v k=k (tbk s a):=by
 simp only [yf,zjZ,zrt hs,zcr,ym,zCa]
 rw [yb (by rw [zc7,hs]; omega),(zAd (β:=β) (L+100) (by omega) s hs _).2,yb ⟨rfl,by omega⟩,zB8,yb (by show 0+2≤2; omega),zE (n:=a.h) rfl,show L+100=(L+90)+10 from rfl,zuP _ _ (by simp),zE (n:=a.p) rfl,zIP _ _ (by simp [le4]),zz9,zxh _ _ _ _ (by simp [le4,le2]) (by simp [le4,le2]),yb (by show 0+2≤2; omega),yb (by show 0+3≤3; omega),zyF,zuP _ _ (by simp),zuP _ _ (by simp [le4]),zxh _ _ _ _ (by simp [le4]) (by simp [le4])]
 rfl
end
section
variable {β:Type}
def yz(a b:Adr):Bool:=a.h==b.h&&a.p==b.p
theorem zD9(L:Nat)(a b:Adr)(k:Bool→Option β):zg β L a.v b.v k=k (yz a b):=by
 simp only [zg,zrY]
 rw [zE (n:=a.h) rfl,zE (n:=b.h) rfl,zda]
 by_cases h:a.h=b.h
 ·rw [if_pos h,zE (n:=a.p) rfl,zE (n:=b.p) rfl,yz,h]
  congr 1
  simp
 ·rw [if_neg h,yz,beq_eq_false_iff_ne.2 h]; rfl
theorem zBb(L:Nat)(ps:List Plc)(hp:ps.length≤1000000)(a:Adr)(k:Int→Option β):∀ (m i:Nat),i≤ps.length→ps.length-i<m →
  zgo zg L k (k (-1)) m (xG ps) (i:Int) a.v=k (zbZ (fun e=>yz e.a a) (ps.drop i) i)
 | 0,i,h1,h2=>by omega
 | m+1,i,h1,h2=>by
  simp only [zgo,zmQ,ym,yP]
  by_cases h:i<ps.length
  ·have e1:XI 3 (XJ 1 ps[i].v)=ps[i].a.v:=rfl
   rw [zap (by omega),zcc (zcg h),yb (by show 0+3≤3; omega),e1,zcr,zD9,yT (by omega),zBb L ps hp a k m (i+1) (by omega) (by omega),WP h,zbZ]
   cases yz ps[i].a a <;> rfl
  ·rw [zaD (by omega),WI (by omega)]; rfl
theorem zAw(L:Nat)(ps:List Plc)(hp:ps.length≤1000000)(hL:ps.length<L)(a:Adr)(k:Int→Option β):ye β L (xG ps) a.v k=k (zbZ (fun e=>yz e.a a) ps 0):=by
 simp only [ye,znD,zsf]
 rw [show ((0:Int))=((0:Nat):Int) from rfl]
 exact zBb L ps hp a k L 0 (by omega) (by omega)
end
section
variable {β:Type}
def zqm(l:List Plc)(i:Nat)(v:Int):Bool:=match l[i-8]? with
 | some e=>decide (8≤i)&&e.b==v
 | none=>false
def zlY(l:List Plc)(i:Nat)(v:Int):Bool:=match l[i-1]? with
 | some e=>decide (0<i)&&decide (e.b>v)
 | none=>false
def zpN(l:List Plc)(i:Nat):Bool:=match l[i]? with
 | some e=>zbZ (fun x=>yz x.a e.a) l 0==(i:Int)
 | none=>true
def zqk(bk:Plc→Int)(l:List Plc)(i:Nat):Bool:=match l[i]? with
 | some e=>e.b==bk e&&!(zlY l i (bk e))&&!(zqm l i (bk e))&&zpN l i
 | none=>true
def znt(p:Nat→Bool):Nat→Nat→Bool
 | _,0=>true
 | i,n+1=>p i&&znt p (i+1) n
def zfk(bk:Plc→Int)(l:List Plc):Bool:=decide (l.length≤512)&&znt (zqk bk l) 0 l.length
theorem zHY(L:Nat)(ps:List Plc)(hp:ps.length≤1000)(hL:ps.length<L)(i:Nat)(h:i<ps.length)(v:Int)(A:Option β)(K:Int→Option β) :
  (ifb (decide ((i:Int)≥(8:Int))) (
 lt (QF .i64 ((i:Int)-(8:Int))) fun x11=>
 idx (xG ps) x11 fun c12=>
 cI .i64 c12 0 fun v13=>
 ifb ((v13:Int)==v) A (
 idx (xG ps) (i:Int) fun c14=>
 ye β L (xG ps) (XI 3 (XJ 1 c14)) (fun v15=>
 ifb ((v15:Int) != (i:Int)) A (
 lt (QF .i64 ((i:Int)+(1:Int))) fun x16=>
 K x16)))) (
 idx (xG ps) (i:Int) fun c17=>
 ye β L (xG ps) (XI 3 (XJ 1 c17)) (fun v18=>
 ifb ((v18:Int) != (i:Int)) A (
 lt (QF .i64 ((i:Int)+(1:Int))) fun x19=>
 K x19))))=ifb (!(zqm ps i v)&&zpN ps i) (K ((i+1:Nat):Int)) A:=by
 have e1:XI 3 (XJ 1 ps[i].v)=ps[i].a.v:=rfl
 have key:(idx (xG ps) (i:Int) fun c17=>
   ye β L (xG ps) (XI 3 (XJ 1 c17)) (fun v18=>
   ifb ((v18:Int) != (i:Int)) A (
   lt (QF .i64 ((i:Int)+(1:Int))) fun x19=>K x19)))=ifb (zpN ps i) (K ((i+1:Nat):Int)) A:=by
  rw [zcc (zcg h),e1,zAw L ps (by omega) hL,ym,yT (by omega),zpN,Wb h]
  simp only
  rw [zjG,zda]
 rw [key,zag]
 by_cases h8:8≤i
 ·have g:ps[i-8]?=some (ps[i-8]'(by omega)):=Wb (by omega)
  have e8:QF .i64 ((i:Int)-8)=((i-8:Nat):Int):=by rw [zZ (by omega) (by omega)]; omega
  rw [if_pos (by omega),ym,e8,zcc (zcg (by omega)),zE (n:=(ps[i-8]'(by omega)).b) rfl,zqm,g]
  simp only
  rw [decide_eq_true h8,XS]
  cases ((ps[i-8]'(by omega)).b==v) <;> rfl
 ·have e:zqm ps i v=false:=by
   unfold zqm
   rw [decide_eq_false h8]
   split <;> rfl
  rw [if_neg (by omega),e]
  rfl
theorem zGh(L:Nat)(ps:List Plc)(hp:ps.length≤1000)(hL:ps.length<L)(i:Nat)(h:i<ps.length)(v:Int)(A:Option β)(K:Int→Option β) :
  (idx (xG ps) (i:Int) fun c6=>
 cI .i64 c6 0 fun v7=>
 ifb ((v7:Int) != v) A (
 ifb (decide ((i:Int)>(0:Int))) (
 lt (QF .i64 ((i:Int)-(1:Int))) fun x8=>
 idx (xG ps) x8 fun c9=>
 cI .i64 c9 0 fun v10=>
 ifb (decide (v10>v)) A (
 ifb (decide ((i:Int)≥(8:Int))) (
 lt (QF .i64 ((i:Int)-(8:Int))) fun x11=>
 idx (xG ps) x11 fun c12=>
 cI .i64 c12 0 fun v13=>
 ifb ((v13:Int)==v) A (
 idx (xG ps) (i:Int) fun c14=>
 ye β L (xG ps) (XI 3 (XJ 1 c14)) (fun v15=>
 ifb ((v15:Int) != (i:Int)) A (
 lt (QF .i64 ((i:Int)+(1:Int))) fun x16=>
 K x16)))) (
 idx (xG ps) (i:Int) fun c17=>
 ye β L (xG ps) (XI 3 (XJ 1 c17)) (fun v18=>
 ifb ((v18:Int) != (i:Int)) A (
 lt (QF .i64 ((i:Int)+(1:Int))) fun x19=>
 K x19))))) (
 ifb (decide ((i:Int)≥(8:Int))) (
 lt (QF .i64 ((i:Int)-(8:Int))) fun x11=>
 idx (xG ps) x11 fun c12=>
 cI .i64 c12 0 fun v13=>
 ifb ((v13:Int)==v) A (
 idx (xG ps) (i:Int) fun c14=>
 ye β L (xG ps) (XI 3 (XJ 1 c14)) (fun v15=>
 ifb ((v15:Int) != (i:Int)) A (
 lt (QF .i64 ((i:Int)+(1:Int))) fun x16=>
 K x16)))) (
 idx (xG ps) (i:Int) fun c17=>
 ye β L (xG ps) (XI 3 (XJ 1 c17)) (fun v18=>
 ifb ((v18:Int) != (i:Int)) A (
 lt (QF .i64 ((i:Int)+(1:Int))) fun x19=>
 K x19))))))=ifb (ps[i].b==v&&!(zlY ps i v)&&!(zqm ps i v)&&zpN ps i) (K ((i+1:Nat):Int)) A:=by
 rw [zHY L ps hp hL i h,zcc (zcg h),zE (n:=ps[i].b) rfl,zjG]
 by_cases hb:ps[i].b=v
 ·rw [if_pos hb,hb,beq_self_eq_true,XS,zag]
  by_cases h0:0<i
  ·have g:ps[i-1]?=some (ps[i-1]'(by omega)):=Wb (by omega)
   have e8:QF .i64 ((i:Int)-1)=((i-1:Nat):Int):=by rw [zZ (by omega) (by omega)]; omega
   rw [if_pos (by omega),ym,e8,zcc (zcg (by omega)),zE (n:=(ps[i-1]'(by omega)).b) rfl,zlY,g]
   simp only
   rw [decide_eq_true h0,XS]
   cases decide ((ps[i-1]'(by omega)).b>v) <;> rfl
  ·have e:zlY ps i v=false:=by
    unfold zlY
    rw [decide_eq_false h0]
    split <;> rfl
   rw [if_neg (by omega),e]
   rfl
 ·rw [if_neg hb,beq_eq_false_iff_ne.2 hb]
  rfl
end
end Go.Proofs.Ytbimgceighecgaa
