/- Part 11 of the proof of AddrbookFloods: an abstract machine over plain values, its soundness, and the functions of the program on plain values. -/
import Derived.Test.YtbimgceighecgaaMAddrbookFloods10
namespace Go.Proofs.Ytbimgceighecgaa
set_option linter.unusedVariables false
set_option linter.unusedSimpArgs false
open List renaming length->XG,take->XI,drop->XJ,replicate->We,flatten->XK
open IntKind renaming wrap->QF
open Int renaming toNat->XH,tmod->XM
section
set_option maxRecDepth 100000
def zbR:CC:=(.seq (.seq (.reg [Qh 32 (tq 12),Qh 33 (tq 10),Qp 34 .lss (tq 32) (tq 33)]) (.cond (tq 34) .skip (.seq (.mask (bl 3420 84) (bl 19342813113834066795294719 84)) (.exit 0)))) (.seq (.block 1 (.seq (.dreg [] [(Ql 37 32 (tq 3),q0),(Qj 38 1 (tq 37),ql 3 [] []),(Qh 39 (tq 12),q0),(Qo 40 5 (tq 38) (tq 39),q0),(Ql 41 1 (tq 40),q0),(Ql 42 2 (tq 41),q0),(Qj 43 1 (tq 42),qc [3] []),(Ql 44 32 (tq 3),q0),(Qj 45 1 (tq 44),ql 3 [] []),(Qh 46 (tq 11),q0),(Qo 47 5 (tq 45) (tq 46),q0),(Ql 48 1 (tq 47),q0),(Ql 49 2 (tq 48),q0),(Qj 50 1 (tq 49),qc [3] []),(Qp 51 .lss (tq 43) (tq 50),q0)]) (.cond (tq 51) (.reg [Qh 52 (tq 12),Qh 11 (tq 52)]) .skip))) (.reg [Qh 35 (tq 12),Qp 36 .add (tq 35) (Qf 1),Qh 12 (tq 36)])))
def zfG:CC:=(.seq (.seq (.dreg [] [(Ql 53 32 (tq 3),q0),(Qj 54 1 (tq 53),ql 3 [4] []),(Qh 55 (tq 11),q0),(Qo 56 5 (tq 54) (tq 55),q0),(Ql 57 1 (tq 56),q0),(Ql 58 2 (tq 57),q0),(Qj 59 1 (tq 58),qc [4] []),(Ql 60 2 (tq 4),q0),(Qj 61 1 (tq 60),ql 4 [3] []),(Qp 62 .geq (tq 59) (tq 61),q0)]) (.cond (tq 62) (.seq (.reg [oo 63 (.load true 34 (tq 3) true),Qm 34 (tq 6) (tq 63),Qh 7 (Qg false)]) .ret) .skip)) (.seq (.reg [Ql 64 32 (tq 3),Qj 65 1 (tq 64),Qh 66 (tq 11),Qh 67 (tq 11),Qp 68 .add (tq 67) (Qf 1),⟨(some 69),true,none,.call 400 [((tq 65),2),((tq 66),2),((tq 68),2)] []⟩,Ql 70 32 (tq 3),Qm 1 (tq 70) (tq 69)]) (.reg [Qh 71 (tq 10),Qp 72 .sub (tq 71) (Qf 1),Qh 10 (tq 72)])))
def zix:CC:=(.seq (.reg [Ql 73 32 (tq 3),Qj 74 1 (tq 73),Qh 75 (tq 10),Qh 76 (tq 8),Qk 77 3 (tq 4),Qh 78 (tq 2),oo 79 (.build [(.sc (.int .i64 0)),(.sc (.int .u32 0)),(.sc (.int .u16 0)),(.sc (.int .u32 0)),(.sc (.int .u32 0))] [(0,1,(tq 76)),(1,3,(tq 77)),(4,1,(tq 78))]),⟨(some 80),true,none,.buildSlice 5 1 [(.sc (.int .i64 0)),(.sc (.int .u32 0)),(.sc (.int .u16 0)),(.sc (.int .u32 0)),(.sc (.int .u32 0))] [(0,5,(tq 79))]⟩,⟨(some 81),true,none,.call 399 [((tq 74),2),((tq 75),2),((tq 80),2)] []⟩,Ql 82 32 (tq 3),Qm 1 (tq 82) (tq 81)]) (.seq (.reg [oo 83 (.load true 34 (tq 3) true),Qm 34 (tq 6) (tq 83),Qh 7 (Qg true)]) .ret))
def zcS:CF:=⟨84,[.cellS 6 34 false,.tmp 7],(.seq (.reg [oo 3 (.box false (tq 0)),Qv 4 (tq 1),oo 6 (.alloc false (rp 32 (.sc (.int .u8 0)) (rp 2 (.gs 5 []) []))),Qh 7 (Qg false)]) (.seq (.reg [Ql 13 0 (tq 3),Qk 14 32 (tq 13),Qk 15 3 (tq 4),Qh 16 (tq 2),Qs 17 297 [(Qw 14),(Qw 15),(Qw 16)],Qh 8 (tq 17)]) (.seq (.reg [Ql 19 32 (tq 3),Qj 20 1 (tq 19),Qh 21 (tq 8),Qs 22 398 [((tq 20),2),((tq 21),2)],Qi 18 (tq 22),Qq 23 (tq 18) 0,Qq 24 (tq 18) 1,Qh 9 (tq 23),Qh 10 (tq 24)]) (.seq (.seq (.reg [Qh 25 (tq 10),Qh 26 (tq 9),Qp 27 .sub (tq 25) (tq 26),Qp 28 .geq (tq 27) (Qf 8)]) (.cond (tq 28) (.seq (.reg [Qh 29 (tq 9),Qh 11 (tq 29)]) (.seq (.seq (.reg [Qh 30 (tq 9),Qp 31 .add (tq 30) (Qf 1),Qh 12 (tq 31)]) (.block 0 (.loop (bl 7516 84) (bl 19342813113834066795298815 84) zbR))) zfG)) .skip)) zix))))⟩
def zob:Hint:=⟨[(2,3),(2,4),(11,0),(12,5),(14,8),(15,0)],[(12,5),(14,7),(14,8)],[none,none,some ((bl 7516 84),(bl 19342813113834066795298815 84)),none,some ((bl 3420 84),(bl 19342813113834066795294719 84)),none,none,none,none,none],[],[],false,true,[]⟩
def zan:Nat→Sh:=xW [(43,(.int .u32)),(50,(.int .u32)),(59,(.int .u32)),(61,(.int .u32))]
def zap(ze:zK)(zk:zao)(xb:yA)(yc:xA)(L:Nat):CBC:=(yD 400 (za7 yc L) (yD 399 (zbb xb L) (yD 398 (zho zk L) (yD 297 (zc7 ze L) noC))))
def zdb:St→St:=zaH 2 (bl 7516 84) (bl 19342813113834066795298815 84)
def zcc(p2 p8 a8 a9 ba:Int)(b0 b1:List V)(aH aJ aK aN aQ aR aT aU aW aX C D E F G I J M N O P Q R S U W X Y Z aa ab ac:Int)(z A:Nat)(b6:List V)(aY aZ a0 a1 a2 a3 a4 a5 a6 a7 ad ae af ag ah ai aj ak al am an ao ap aq ar au av aw ax ay az aC:Int)(aD aE:List (List V)):St:=⟨(jn 2 ((Qc p2)::((V.ptr 5 0)::((V.ptr 6 0)::(jn 1 ((V.ptr 8 0)::(jn 1 ((Qe p8)::(jn 1 ((Qe a8)::((Qe a9)::((Qe ba)::(jn 71 []))))))))))))),((.live true b0)::((.live true b1)::(gn 3 ((.live false [(Qa aH),(Qa aJ),(Qa aK),(Qa aN),(Qa aQ),(Qa aR),(Qa aT),(Qa aU),(Qa aW),(Qa aX),(Qa C),(Qa D),(Qa E),(Qa F),(Qa G),(Qa I),(Qa J),(Qa M),(Qa N),(Qa O),(Qa P),(Qa Q),(Qa R),(Qa S),(Qa U),(Qa W),(Qa X),(Qa Y),(Qa Z),(Qa aa),(Qa ab),(Qa ac),(V.own 0 0 z 5),(V.own 1 0 A 5)])::((.live true b6)::(gn 1 ((.live false [(Qa aY),(Qa aZ),(Qa a0),(Qa a1),(Qa a2),(Qa a3),(Qa a4),(Qa a5),(Qa a6),(Qa a7),(Qa ad),(Qa ae),(Qa af),(Qa ag),(Qa ah),(Qa ai),(Qa aj),(Qa ak),(Qa al),(Qa am),(Qa an),(Qa ao),(Qa ap),(Qa aq),(Qa ar),(Qa au),(Qa av),(Qa aw),(Qa ax),(Qa ay),(Qa az),(Qa aC),(V.gs 5 aD),(V.gs 5 aE)])::(gn 77 []))))))))⟩
def zh5(p2 p8 a8 a9:Int)(b0 b1:List V)(aH aJ aK aN aQ aR aT aU aW aX C D E F G I J M N O P Q R S U W X Y Z aa ab ac:Int)(z A:Nat)(b6:List V)(aY aZ a0 a1 a2 a3 a4 a5 a6 a7 ad ae af ag ah ai aj ak al am an ao ap aq ar au av aw ax ay az aC:Int)(aD aE:List (List V)):St:=⟨(jn 2 ((Qc p2)::((V.ptr 5 0)::((V.ptr 6 0)::(jn 1 ((V.ptr 8 0)::(jn 1 ((Qe p8)::(jn 1 ((Qe a8)::((Qe a9)::(jn 72 [])))))))))))),((.live true b0)::((.live true b1)::(gn 3 ((.live false [(Qa aH),(Qa aJ),(Qa aK),(Qa aN),(Qa aQ),(Qa aR),(Qa aT),(Qa aU),(Qa aW),(Qa aX),(Qa C),(Qa D),(Qa E),(Qa F),(Qa G),(Qa I),(Qa J),(Qa M),(Qa N),(Qa O),(Qa P),(Qa Q),(Qa R),(Qa S),(Qa U),(Qa W),(Qa X),(Qa Y),(Qa Z),(Qa aa),(Qa ab),(Qa ac),(V.own 0 0 z 5),(V.own 1 0 A 5)])::((.live true b6)::(gn 1 ((.live false [(Qa aY),(Qa aZ),(Qa a0),(Qa a1),(Qa a2),(Qa a3),(Qa a4),(Qa a5),(Qa a6),(Qa a7),(Qa ad),(Qa ae),(Qa af),(Qa ag),(Qa ah),(Qa ai),(Qa aj),(Qa ak),(Qa al),(Qa am),(Qa an),(Qa ao),(Qa ap),(Qa aq),(Qa ar),(Qa au),(Qa av),(Qa aw),(Qa ax),(Qa ay),(Qa az),(Qa aC),(V.gs 5 aD),(V.gs 5 aE)])::(gn 77 []))))))))⟩
abbrev zh2(β:Type):Type:=Int→Int→Int→Int→Int→List V→List V→Int→Int→Int→Int→Int→Int→Int→Int→Int→Int→Int→Int→Int→Int→Int→Int→Int→Int→Int→Int→Int→Int→Int→Int→Int→Int→Int→Int→Int→Int→Int→Int→Nat→Nat→List V→Int→Int→Int→Int→Int→Int→Int→Int→Int→Int→Int→Int→Int→Int→Int→Int→Int→Int→Int→Int→Int→Int→Int→Int→Int→Int→Int→Int→Int→Int→Int→Int→List (List V)→List (List V)→Option β
abbrev zc1(β:Type):Type:=Int→Int→Int→Int→Int→Int→Int→Int→Int→Int→Int→Int→Int→Int→Int→Int→Int→Int→Int→Int→Int→Int→Int→Int→Int→Int→Int→Int→Int→Int→Int→Int→Nat→Nat→Bool→Nat→List V→List V→Option β
abbrev zj1(β:Type):Type:=Int→Int→Int→Int→List V→List V→Int→Int→Int→Int→Int→Int→Int→Int→Int→Int→Int→Int→Int→Int→Int→Int→Int→Int→Int→Int→Int→Int→Int→Int→Int→Int→Int→Int→Int→Int→Int→Int→Nat→Nat→List V→Int→Int→Int→Int→Int→Int→Int→Int→Int→Int→Int→Int→Int→Int→Int→Int→Int→Int→Int→Int→Int→Int→Int→Int→Int→Int→Int→Int→Int→Int→Int→Int→List (List V)→List (List V)→Option β
abbrev zeQ(β:Type):Type:=Int→Int→Int→Int→Int→Int→Int→Int→Int→Int→Int→Int→Int→Int→Int→Int→Int→Int→Int→Int→Int→Int→Int→Int→Int→Int→Int→Int→Int→Int→Int→Int→Nat→Nat→Bool→List V→List V→Option β
def zl7{β:Type}(ze:zK)(zk:zao)(xb:yA)(yc:xA)(L:Nat)(af ag ah ai aj ak al am an ao C D E F G I J M N O P Q R S U W X Y Z aa ab ac:Int)(A ae:Nat)(p1:List V)(p2:Int)(b0 b1:List V)(z:zh2 β)(ar:zc1 β):Option β:=chk (0+3≤(XG p1)) (ze β L [(Qa af),(Qa ag),(Qa ah),(Qa ai),(Qa aj),(Qa ak),(Qa al),(Qa am),(Qa an),(Qa ao),(Qa C),(Qa D),(Qa E),(Qa F),(Qa G),(Qa I),(Qa J),(Qa M),(Qa N),(Qa O),(Qa P),(Qa Q),(Qa R),(Qa S),(Qa U),(Qa W),(Qa X),(Qa Y),(Qa Z),(Qa aa),(Qa ab),(Qa ac)] (XI 3 p1) p2 (fun v0=>zk β L A v0 b0 (fun v1 v2 v3=>chk ([(XG v3)]=[(XG b0)]) (lt (QF .i64 ((v2:Int)-v1)) fun x4=>ifb (decide (x4≥(8:Int))) (lt (QF .i64 ((v1:Int)+(1:Int))) fun x5=>z p2 v0 v2 v1 x5 v3 b1 af ag ah ai aj ak al am an ao C D E F G I J M N O P Q R S U W X Y Z aa ab ac A ae p1 (0:Int) (0:Int) (0:Int) (0:Int) (0:Int) (0:Int) (0:Int) (0:Int) (0:Int) (0:Int) (0:Int) (0:Int) (0:Int) (0:Int) (0:Int) (0:Int) (0:Int) (0:Int) (0:Int) (0:Int) (0:Int) (0:Int) (0:Int) (0:Int) (0:Int) (0:Int) (0:Int) (0:Int) (0:Int) (0:Int) (0:Int) (0:Int) ([]:List (List V)) ([]:List (List V))) (chk (0+3≤(XG p1)) (chk ((XG (XI 3 p1))=3∧1+3≤5) (chk (1=1∧4+1≤(XG (yh [(Qe v0),(Qc (0:Int)),(Qb (0:Int)),(Qc (0:Int)),(Qc (0:Int))] 1 (XI 3 p1)))) (chk ((XG (yh (yh [(Qe v0),(Qc (0:Int)),(Qb (0:Int)),(Qc (0:Int)),(Qc (0:Int))] 1 (XI 3 p1)) 4 [(Qc p2)]))=5∧0+5≤5) (xb β L A v2 1 v3 (XK (xh 5 1 (yh [(Qe (0:Int)),(Qc (0:Int)),(Qb (0:Int)),(Qc (0:Int)),(Qc (0:Int))] 0 (yh (yh [(Qe v0),(Qc (0:Int)),(Qb (0:Int)),(Qc (0:Int)),(Qc (0:Int))] 1 (XI 3 p1)) 4 [(Qc p2)])))) (fun v6 v7 v8=>chk ([v7,(XG v8)]=[(XG v3),(XG (XK (xh 5 1 (yh [(Qe (0:Int)),(Qc (0:Int)),(Qb (0:Int)),(Qc (0:Int)),(Qc (0:Int))] 0 (yh (yh [(Qe v0),(Qc (0:Int)),(Qb (0:Int)),(Qc (0:Int)),(Qc (0:Int))] 1 (XI 3 p1)) 4 [(Qc p2)])))))]) (ar af ag ah ai aj ak al am an ao C D E F G I J M N O P Q R S U W X Y Z aa ab ac (XG v6) ae true v7 b1 (XK v6))))))))))))
theorem zu6{β:Type}(ze:zK)(zk:zao)(xb:yA)(yc:xA)(L:Nat)(ag z ah ai aj ak al am an ao D E F G I J M N O P Q R S U W X Y Z aa ab ac ad:Int)(A C:Nat)(p1:List V)(p2:Int)(b0 b1:List V)(k:KK β):zp zan (zap ze zk xb yc L) L zcS [(V.st [(Qa ag),(Qa z),(Qa ah),(Qa ai),(Qa aj),(Qa ak),(Qa al),(Qa am),(Qa an),(Qa ao),(Qa D),(Qa E),(Qa F),(Qa G),(Qa I),(Qa J),(Qa M),(Qa N),(Qa O),(Qa P),(Qa Q),(Qa R),(Qa S),(Qa U),(Qa W),(Qa X),(Qa Y),(Qa Z),(Qa aa),(Qa ab),(Qa ac),(Qa ad),(V.own 0 0 A 5),(V.own 1 0 C 5)]),(V.agg p1),(Qc p2)] [(.live true b0),(.live true b1)] k=zl7 ze zk xb yc L ag z ah ai aj ak al am an ao D E F G I J M N O P Q R S U W X Y Z aa ab ac ad A C p1 p2 b0 b1 (fun p2 p8 bQ bR bS b0 b1 bq br bt bu bv bw bz bC bD bE au av aw ax ay az aC aD aE aH aJ aK aN aQ aR aT aU aW aX aY aZ a0 ap aq b6 bF bG bH bI bJ bK bL bM bN bO a1 a2 a3 a4 a5 a6 a7 a8 a9 ba bb bc bd be bf bg bh bi bj bk bm bn bo bp=>xz (yi zan (zap ze zk xb yc L) 2 L zbR) zdb L (zcc p2 p8 bQ bR bS b0 b1 bq br bt bu bv bw bz bC bD bE au av aw ax ay az aC aD aE aH aJ aK aN aQ aR aT aU aW aX aY aZ a0 ap aq b6 bF bG bH bI bJ bK bL bM bN bO a1 a2 a3 a4 a5 a6 a7 a8 a9 ba bb bc bd be bf bg bh bi bj bk bm bn bo bp) (zz 0 (xK (yi zan (zap ze zk xb yc L) 2 L zfG) (xK (yi zan (zap ze zk xb yc L) 2 L zix) (yR 2 (CF.res zcS) k))))) (fun p0_0_0 p0_0_1 p0_0_2 p0_0_3 p0_0_4 p0_0_5 p0_0_6 p0_0_7 p0_0_8 p0_0_9 p0_0_10 p0_0_11 p0_0_12 p0_0_13 p0_0_14 p0_0_15 p0_0_16 p0_0_17 p0_0_18 p0_0_19 p0_0_20 p0_0_21 p0_0_22 p0_0_23 p0_0_24 p0_0_25 p0_0_26 p0_0_27 p0_0_28 p0_0_29 p0_0_30 p0_0_31 p0_0_32l p0_0_33l z b0 b1 b2=>k (V.tup [(V.st [(Qa p0_0_0),(Qa p0_0_1),(Qa p0_0_2),(Qa p0_0_3),(Qa p0_0_4),(Qa p0_0_5),(Qa p0_0_6),(Qa p0_0_7),(Qa p0_0_8),(Qa p0_0_9),(Qa p0_0_10),(Qa p0_0_11),(Qa p0_0_12),(Qa p0_0_13),(Qa p0_0_14),(Qa p0_0_15),(Qa p0_0_16),(Qa p0_0_17),(Qa p0_0_18),(Qa p0_0_19),(Qa p0_0_20),(Qa p0_0_21),(Qa p0_0_22),(Qa p0_0_23),(Qa p0_0_24),(Qa p0_0_25),(Qa p0_0_26),(Qa p0_0_27),(Qa p0_0_28),(Qa p0_0_29),(Qa p0_0_30),(Qa p0_0_31),(V.own 2 0 p0_0_32l 5),(V.own 1 0 p0_0_33l 5)]),(V.sc (.bool z))]) [(.dead b0),(.live true b1),(.live true b2)]):=by kernel_rfl
def ze3{β:Type}(ze:zK)(zk:zao)(xb:yA)(yc:xA)(L:Nat)(p2 p8 bb aK C:Int)(b0 b1:List V)(aN aQ aR aT aU aW aX aY aZ a0 E F G I J M N O P Q R S U W X Y Z aa ab ac ad ae:Int)(A D:Nat)(b6:List V)(a1 a2 a3 a4 a5 a6 a7 a8 a9 ba af ag ah ai aj ak al am an ao ap aq ar au av aw ax ay az aC aD aE:Int)(aH aJ:List (List V))(z:zh2 β)(bh:zj1 β):Option β:=ifb (decide (C<bb)) (chk (0≤C∧C<((A:Nat):Int)) (cI .u32 b0 (((0+((XH C)*5))+1)+2) fun v9=>chk (0≤aK∧aK<((A:Nat):Int)) (cI .u32 b0 (((0+((XH aK)*5))+1)+2) fun bi=>ifb (decide (v9<bi)) (lt (QF .i64 ((C:Int)+(1:Int))) fun bj=>z p2 p8 bb C bj b0 b1 aN aQ aR aT aU aW aX aY aZ a0 E F G I J M N O P Q R S U W X Y Z aa ab ac ad ae A D b6 a1 a2 a3 a4 a5 a6 a7 a8 a9 ba af ag ah ai aj ak al am an ao ap aq ar au av aw ax ay az aC aD aE aH aJ) (lt (QF .i64 ((C:Int)+(1:Int))) fun bk=>z p2 p8 bb aK bk b0 b1 aN aQ aR aT aU aW aX aY aZ a0 E F G I J M N O P Q R S U W X Y Z aa ab ac ad ae A D b6 a1 a2 a3 a4 a5 a6 a7 a8 a9 ba af ag ah ai aj ak al am an ao ap aq ar au av aw ax ay az aC aD aE aH aJ)))) (bh p2 p8 bb aK b0 b1 aN aQ aR aT aU aW aX aY aZ a0 E F G I J M N O P Q R S U W X Y Z aa ab ac ad ae A D b6 a1 a2 a3 a4 a5 a6 a7 a8 a9 ba af ag ah ai aj ak al am an ao ap aq ar au av aw ax ay az aC aD aE aH aJ)
theorem zn5{β:Type}(ze:zK)(zk:zao)(xb:yA)(yc:xA)(L:Nat)(p2 p8 a9 ba bb:Int)(b0 b1:List V)(aJ aK aN aQ aR aT aU aW aX aY C D E F G I J M N O P Q R S U W Y Z aa ab ac ad:Int)(z A:Nat)(b6:List V)(aZ a0 a1 a2 a3 a4 a5 a6 a7 a8 ae af ag ah ai aj ak al am an ao ap aq ar au av aw ax ay az aC aD:Int)(aE aH:List (List V))(X:St→Option β)(K:KT β):yi zan (zap ze zk xb yc L) 2 L zbR (zcc p2 p8 a9 ba bb b0 b1 aJ aK aN aQ aR aT aU aW aX aY C D E F G I J M N O P Q R S U W Y Z aa ab ac ad z A b6 aZ a0 a1 a2 a3 a4 a5 a6 a7 a8 ae af ag ah ai aj ak al am an ao ap aq ar au av aw ax ay az aC aD aE aH) (zbo zdb X K)=ze3 ze zk xb yc L p2 p8 a9 ba bb b0 b1 aJ aK aN aQ aR aT aU aW aX aY C D E F G I J M N O P Q R S U W Y Z aa ab ac ad z A b6 aZ a0 a1 a2 a3 a4 a5 a6 a7 a8 ae af ag ah ai aj ak al am an ao ap aq ar au av aw ax ay az aC aD aE aH (fun p2 p8 a9 ba bb b0 b1 aJ aK aN aQ aR aT aU aW aX aY C D E F G I J M N O P Q R S U W Y Z aa ab ac ad z A b6 aZ a0 a1 a2 a3 a4 a5 a6 a7 a8 ae af ag ah ai aj ak al am an ao ap aq ar au av aw ax ay az aC aD aE aH=>X (zcc p2 p8 a9 ba bb b0 b1 aJ aK aN aQ aR aT aU aW aX aY C D E F G I J M N O P Q R S U W Y Z aa ab ac ad z A b6 aZ a0 a1 a2 a3 a4 a5 a6 a7 a8 ae af ag ah ai aj ak al am an ao ap aq ar au av aw ax ay az aC aD aE aH)) (fun p2 p8 a9 ba b0 b1 aJ aK aN aQ aR aT aU aW aX aY C D E F G I J M N O P Q R S U W Y Z aa ab ac ad z A b6 aZ a0 a1 a2 a3 a4 a5 a6 a7 a8 ae af ag ah ai aj ak al am an ao ap aq ar au av aw ax ay az aC aD aE aH=>K (.exit 0) (zh5 p2 p8 a9 ba b0 b1 aJ aK aN aQ aR aT aU aW aX aY C D E F G I J M N O P Q R S U W Y Z aa ab ac ad z A b6 aZ a0 a1 a2 a3 a4 a5 a6 a7 a8 ae af ag ah ai aj ak al am an ao ap aq ar au av aw ax ay az aC aD aE aH)):=by kernel_rfl
def zed{β:Type}(ze:zK)(zk:zao)(xb:yA)(yc:xA)(L:Nat)(p2 p8 az A:Int)(b0 b1:List V)(ag ah ai aj ak al am an ao ap E F G I J M N O P Q R S U W X Y Z aa ab ac ad ae:Int)(z C:Nat)(D:List V)(bg bh bi bj bk bm bn bo bp bq aQ aR aT aU aW aX aY aZ a0 a1 a2 a3 a4 a5 a6 a7 a8 a9 ba bb bc bd:Int)(be bf:List (List V))(af:zeQ β)(av:zc1 β):Option β:=chk (0≤A∧A<((z:Nat):Int)) (cI .u32 b0 (((0+((XH A)*5))+1)+2) fun aD=>cI .u32 D 2 fun aE=>ifb (decide (aD≥aE)) (af ag ah ai aj ak al am an ao ap E F G I J M N O P Q R S U W X Y Z aa ab ac ad ae z C false b0 b1) (lt (QF .i64 ((A:Int)+(1:Int))) fun aH=>yc β L z A aH b0 (fun aJ aq=>chk ([(XG aq)]=[(XG b0)]) (lt (QF .i64 ((az:Int)-(1:Int))) fun aK=>chk (0+3≤(XG D)) (chk ((XG (XI 3 D))=3∧1+3≤5) (chk (1=1∧4+1≤(XG (yh [(Qe p8),(Qc (0:Int)),(Qb (0:Int)),(Qc (0:Int)),(Qc (0:Int))] 1 (XI 3 D)))) (chk ((XG (yh (yh [(Qe p8),(Qc (0:Int)),(Qb (0:Int)),(Qc (0:Int)),(Qc (0:Int))] 1 (XI 3 D)) 4 [(Qc p2)]))=5∧0+5≤5) (xb β L aJ aK 1 aq (XK (xh 5 1 (yh [(Qe (0:Int)),(Qc (0:Int)),(Qb (0:Int)),(Qc (0:Int)),(Qc (0:Int))] 0 (yh (yh [(Qe p8),(Qc (0:Int)),(Qb (0:Int)),(Qc (0:Int)),(Qc (0:Int))] 1 (XI 3 D)) 4 [(Qc p2)])))) (fun aw ax aN=>chk ([ax,(XG aN)]=[(XG aq),(XG (XK (xh 5 1 (yh [(Qe (0:Int)),(Qc (0:Int)),(Qb (0:Int)),(Qc (0:Int)),(Qc (0:Int))] 0 (yh (yh [(Qe p8),(Qc (0:Int)),(Qb (0:Int)),(Qc (0:Int)),(Qc (0:Int))] 1 (XI 3 D)) 4 [(Qc p2)])))))]) (av ag ah ai aj ak al am an ao ap E F G I J M N O P Q R S U W X Y Z aa ab ac ad ae (XG aw) C true ax b1 (XK aw)))))))))))
theorem zmO{β:Type}(ze:zK)(zk:zao)(xb:yA)(yc:xA)(L:Nat)(p2 p8 bb bc:Int)(b0 b1:List V)(aN aQ aR aT aU aW aX aY aZ a0 D E F G I J M N O P Q R S U W X Y Z aa ab ac ad:Int)(z A:Nat)(b6:List V)(a1 a2 a3 a4 a5 a6 a7 a8 a9 ba ae af ag ah ai aj ak al am an ao ap aq ar au av aw ax ay az aC aD:Int)(aE aH:List (List V))(k:KK β):(zz 0 (xK (yi zan (zap ze zk xb yc L) 2 L zfG) (xK (yi zan (zap ze zk xb yc L) 2 L zix) (yR 2 (CF.res zcS) k)))) (.exit 0) (zh5 p2 p8 bb bc b0 b1 aN aQ aR aT aU aW aX aY aZ a0 D E F G I J M N O P Q R S U W X Y Z aa ab ac ad z A b6 a1 a2 a3 a4 a5 a6 a7 a8 a9 ba ae af ag ah ai aj ak al am an ao ap aq ar au av aw ax ay az aC aD aE aH)=zed ze zk xb yc L p2 p8 bb bc b0 b1 aN aQ aR aT aU aW aX aY aZ a0 D E F G I J M N O P Q R S U W X Y Z aa ab ac ad z A b6 a1 a2 a3 a4 a5 a6 a7 a8 a9 ba ae af ag ah ai aj ak al am an ao ap aq ar au av aw ax ay az aC aD aE aH (fun p0_0_0 p0_0_1 p0_0_2 p0_0_3 p0_0_4 p0_0_5 p0_0_6 p0_0_7 p0_0_8 p0_0_9 p0_0_10 p0_0_11 p0_0_12 p0_0_13 p0_0_14 p0_0_15 p0_0_16 p0_0_17 p0_0_18 p0_0_19 p0_0_20 p0_0_21 p0_0_22 p0_0_23 p0_0_24 p0_0_25 p0_0_26 p0_0_27 p0_0_28 p0_0_29 p0_0_30 p0_0_31 p0_0_32l p0_0_33l C b0 b1=>k (V.tup [(V.st [(Qa p0_0_0),(Qa p0_0_1),(Qa p0_0_2),(Qa p0_0_3),(Qa p0_0_4),(Qa p0_0_5),(Qa p0_0_6),(Qa p0_0_7),(Qa p0_0_8),(Qa p0_0_9),(Qa p0_0_10),(Qa p0_0_11),(Qa p0_0_12),(Qa p0_0_13),(Qa p0_0_14),(Qa p0_0_15),(Qa p0_0_16),(Qa p0_0_17),(Qa p0_0_18),(Qa p0_0_19),(Qa p0_0_20),(Qa p0_0_21),(Qa p0_0_22),(Qa p0_0_23),(Qa p0_0_24),(Qa p0_0_25),(Qa p0_0_26),(Qa p0_0_27),(Qa p0_0_28),(Qa p0_0_29),(Qa p0_0_30),(Qa p0_0_31),(V.own 0 0 p0_0_32l 5),(V.own 1 0 p0_0_33l 5)]),(V.sc (.bool C))]) [(.live true b0),(.live true b1)]) (fun p0_0_0 p0_0_1 p0_0_2 p0_0_3 p0_0_4 p0_0_5 p0_0_6 p0_0_7 p0_0_8 p0_0_9 p0_0_10 p0_0_11 p0_0_12 p0_0_13 p0_0_14 p0_0_15 p0_0_16 p0_0_17 p0_0_18 p0_0_19 p0_0_20 p0_0_21 p0_0_22 p0_0_23 p0_0_24 p0_0_25 p0_0_26 p0_0_27 p0_0_28 p0_0_29 p0_0_30 p0_0_31 p0_0_32l p0_0_33l C b0 b1 b2=>k (V.tup [(V.st [(Qa p0_0_0),(Qa p0_0_1),(Qa p0_0_2),(Qa p0_0_3),(Qa p0_0_4),(Qa p0_0_5),(Qa p0_0_6),(Qa p0_0_7),(Qa p0_0_8),(Qa p0_0_9),(Qa p0_0_10),(Qa p0_0_11),(Qa p0_0_12),(Qa p0_0_13),(Qa p0_0_14),(Qa p0_0_15),(Qa p0_0_16),(Qa p0_0_17),(Qa p0_0_18),(Qa p0_0_19),(Qa p0_0_20),(Qa p0_0_21),(Qa p0_0_22),(Qa p0_0_23),(Qa p0_0_24),(Qa p0_0_25),(Qa p0_0_26),(Qa p0_0_27),(Qa p0_0_28),(Qa p0_0_29),(Qa p0_0_30),(Qa p0_0_31),(V.own 2 0 p0_0_32l 5),(V.own 1 0 p0_0_33l 5)]),(V.sc (.bool C))]) [(.dead b0),(.live true b1),(.live true b2)]):=by kernel_rfl
def zb1{β:Type}(ze:zK)(zk:zao)(xb:yA)(yc:xA)(L:Nat)(a8:zj1 β):Nat→Int→Int→Int→Int→Int→List V→List V→Int→Int→Int→Int→Int→Int→Int→Int→Int→Int→Int→Int→Int→Int→Int→Int→Int→Int→Int→Int→Int→Int→Int→Int→Int→Int→Int→Int→Int→Int→Int→Int→Nat→Nat→List V→Int→Int→Int→Int→Int→Int→Int→Int→Int→Int→Int→Int→Int→Int→Int→Int→Int→Int→Int→Int→Int→Int→Int→Int→Int→Int→Int→Int→Int→Int→Int→Int→List (List V)→List (List V)→Option β
 | 0,_,_,_,_,_,_,_,_,_,_,_,_,_,_,_,_,_,_,_,_,_,_,_,_,_,_,_,_,_,_,_,_,_,_,_,_,_,_,_,_,_,_,_,_,_,_,_,_,_,_,_,_,_,_,_,_,_,_,_,_,_,_,_,_,_,_,_,_,_,_,_,_,_,_,_,_=>none
 | n+1,p2,p8,a9,ba,bb,b0,b1,aH,aJ,aK,aN,aQ,aR,aT,aU,aW,aX,C,D,E,F,G,I,J,M,N,O,P,Q,R,S,U,W,X,Y,Z,aa,ab,ac,z,A,b6,aY,aZ,a0,a1,a2,a3,a4,a5,a6,a7,ad,ae,af,ag,ah,ai,aj,ak,al,am,an,ao,ap,aq,ar,au,av,aw,ax,ay,az,aC,aD,aE=>ze3 ze zk xb yc L p2 p8 a9 ba bb b0 b1 aH aJ aK aN aQ aR aT aU aW aX C D E F G I J M N O P Q R S U W X Y Z aa ab ac z A b6 aY aZ a0 a1 a2 a3 a4 a5 a6 a7 ad ae af ag ah ai aj ak al am an ao ap aq ar au av aw ax ay az aC aD aE (fun p2 p8 a9 ba bb b0 b1 aH aJ aK aN aQ aR aT aU aW aX C D E F G I J M N O P Q R S U W X Y Z aa ab ac z A b6 aY aZ a0 a1 a2 a3 a4 a5 a6 a7 ad ae af ag ah ai aj ak al am an ao ap aq ar au av aw ax ay az aC aD aE=>zb1 ze zk xb yc L a8 n p2 p8 a9 ba bb b0 b1 aH aJ aK aN aQ aR aT aU aW aX C D E F G I J M N O P Q R S U W X Y Z aa ab ac z A b6 aY aZ a0 a1 a2 a3 a4 a5 a6 a7 ad ae af ag ah ai aj ak al am an ao ap aq ar au av aw ax ay az aC aD aE) a8
theorem zg9{β:Type}(ze:zK)(zk:zao)(xb:yA)(yc:xA)(L:Nat)(K:KT β):∀ (n:Nat) (p2 p8 a8 a9 ba:Int) (b0 b1:List V) (aH aJ aK aN aQ aR aT aU aW aX C D E F G I J M N O P Q R S U W X Y Z aa ab ac:Int) (z A:Nat) (b6:List V) (aY aZ a0 a1 a2 a3 a4 a5 a6 a7 ad ae af ag ah ai aj ak al am an ao ap aq ar au av aw ax ay az aC:Int) (aD aE:List (List V)),xz (yi zan (zap ze zk xb yc L) 2 L zbR) zdb n (zcc p2 p8 a8 a9 ba b0 b1 aH aJ aK aN aQ aR aT aU aW aX C D E F G I J M N O P Q R S U W X Y Z aa ab ac z A b6 aY aZ a0 a1 a2 a3 a4 a5 a6 a7 ad ae af ag ah ai aj ak al am an ao ap aq ar au av aw ax ay az aC aD aE) K=zb1 ze zk xb yc L (fun p2 p8 a8 a9 b0 b1 aH aJ aK aN aQ aR aT aU aW aX C D E F G I J M N O P Q R S U W X Y Z aa ab ac z A b6 aY aZ a0 a1 a2 a3 a4 a5 a6 a7 ad ae af ag ah ai aj ak al am an ao ap aq ar au av aw ax ay az aC aD aE=>K (.exit 0) (zh5 p2 p8 a8 a9 b0 b1 aH aJ aK aN aQ aR aT aU aW aX C D E F G I J M N O P Q R S U W X Y Z aa ab ac z A b6 aY aZ a0 a1 a2 a3 a4 a5 a6 a7 ad ae af ag ah ai aj ak al am an ao ap aq ar au av aw ax ay az aC aD aE)) n p2 p8 a8 a9 ba b0 b1 aH aJ aK aN aQ aR aT aU aW aX C D E F G I J M N O P Q R S U W X Y Z aa ab ac z A b6 aY aZ a0 a1 a2 a3 a4 a5 a6 a7 ad ae af ag ah ai aj ak al am an ao ap aq ar au av aw ax ay az aC aD aE:=by
 intro n
 induction n with
 | zero=>intros; rfl
 | succ n ih=>
  intro p2 p8 a8 a9 ba b0 b1 aH aJ aK aN aQ aR aT aU aW aX C D E F G I J M N O P Q R S U W X Y Z aa ab ac z A b6 aY aZ a0 a1 a2 a3 a4 a5 a6 a7 ad ae af ag ah ai aj ak al am an ao ap aq ar au av aw ax ay az aC aD aE
  refine (zn5 ze zk xb yc L p2 p8 a8 a9 ba b0 b1 aH aJ aK aN aQ aR aT aU aW aX C D E F G I J M N O P Q R S U W X Y Z aa ab ac z A b6 aY aZ a0 a1 a2 a3 a4 a5 a6 a7 ad ae af ag ah ai aj ak al am an ao ap aq ar au av aw ax ay az aC aD aE (fun σ=>xz (yi zan (zap ze zk xb yc L) 2 L zbR) zdb n σ K) K).trans ?_
  simp only [ih]
  rfl
def ziE{β:Type}(ze:zK)(zk:zao)(xb:yA)(yc:xA)(L:Nat)(bJ bK bL bM bN bO bP bQ bR bS bh bi bj bk bm bn bo bp bq br bt bu bv bw bz bC bD bE bF bG bH bI:Int)(ba bb:Nat)(p1:List V)(p2:Int)(b0 b1:List V)(a8:zc1 β)(a9:zeQ β):Option β:=zl7 ze zk xb yc L bJ bK bL bM bN bO bP bQ bR bS bh bi bj bk bm bn bo bp bq br bt bu bv bw bz bC bD bE bF bG bH bI ba bb p1 p2 b0 b1 (fun p2 p8 bf bg bV b0 b1 aH aJ aK aN aQ aR aT aU aW aX C D E F G I J M N O P Q R S U W X Y Z aa ab ac z A b6 aY aZ a0 a1 a2 a3 a4 a5 a6 a7 ad ae af ag ah ai aj ak al am an ao ap aq ar au av aw ax ay az aC aD aE=>zb1 ze zk xb yc L (fun p2 p8 bf bg b0 b1 aH aJ aK aN aQ aR aT aU aW aX C D E F G I J M N O P Q R S U W X Y Z aa ab ac z A b6 aY aZ a0 a1 a2 a3 a4 a5 a6 a7 ad ae af ag ah ai aj ak al am an ao ap aq ar au av aw ax ay az aC aD aE=>zed ze zk xb yc L p2 p8 bf bg b0 b1 aH aJ aK aN aQ aR aT aU aW aX C D E F G I J M N O P Q R S U W X Y Z aa ab ac z A b6 aY aZ a0 a1 a2 a3 a4 a5 a6 a7 ad ae af ag ah ai aj ak al am an ao ap aq ar au av aw ax ay az aC aD aE a9 a8) L p2 p8 bf bg bV b0 b1 aH aJ aK aN aQ aR aT aU aW aX C D E F G I J M N O P Q R S U W X Y Z aa ab ac z A b6 aY aZ a0 a1 a2 a3 a4 a5 a6 a7 ad ae af ag ah ai aj ak al am an ao ap aq ar au av aw ax ay az aC aD aE) a8
theorem zuM{β:Type}(ze:zK)(zk:zao)(xb:yA)(yc:xA)(L:Nat)(ae z af ag ah ai aj ak al am D E F G I J M N O P Q R S U W X Y Z aa ab ac ad:Int)(A C:Nat)(p1:List V)(p2:Int)(b0 b1:List V)(k:KK β):zp zan (zap ze zk xb yc L) L zcS [(V.st [(Qa ae),(Qa z),(Qa af),(Qa ag),(Qa ah),(Qa ai),(Qa aj),(Qa ak),(Qa al),(Qa am),(Qa D),(Qa E),(Qa F),(Qa G),(Qa I),(Qa J),(Qa M),(Qa N),(Qa O),(Qa P),(Qa Q),(Qa R),(Qa S),(Qa U),(Qa W),(Qa X),(Qa Y),(Qa Z),(Qa aa),(Qa ab),(Qa ac),(Qa ad),(V.own 0 0 A 5),(V.own 1 0 C 5)]),(V.agg p1),(Qc p2)] [(.live true b0),(.live true b1)] k=ziE ze zk xb yc L ae z af ag ah ai aj ak al am D E F G I J M N O P Q R S U W X Y Z aa ab ac ad A C p1 p2 b0 b1 (fun p0_0_0 p0_0_1 p0_0_2 p0_0_3 p0_0_4 p0_0_5 p0_0_6 p0_0_7 p0_0_8 p0_0_9 p0_0_10 p0_0_11 p0_0_12 p0_0_13 p0_0_14 p0_0_15 p0_0_16 p0_0_17 p0_0_18 p0_0_19 p0_0_20 p0_0_21 p0_0_22 p0_0_23 p0_0_24 p0_0_25 p0_0_26 p0_0_27 p0_0_28 p0_0_29 p0_0_30 p0_0_31 p0_0_32l p0_0_33l z b0 b1 b2=>k (V.tup [(V.st [(Qa p0_0_0),(Qa p0_0_1),(Qa p0_0_2),(Qa p0_0_3),(Qa p0_0_4),(Qa p0_0_5),(Qa p0_0_6),(Qa p0_0_7),(Qa p0_0_8),(Qa p0_0_9),(Qa p0_0_10),(Qa p0_0_11),(Qa p0_0_12),(Qa p0_0_13),(Qa p0_0_14),(Qa p0_0_15),(Qa p0_0_16),(Qa p0_0_17),(Qa p0_0_18),(Qa p0_0_19),(Qa p0_0_20),(Qa p0_0_21),(Qa p0_0_22),(Qa p0_0_23),(Qa p0_0_24),(Qa p0_0_25),(Qa p0_0_26),(Qa p0_0_27),(Qa p0_0_28),(Qa p0_0_29),(Qa p0_0_30),(Qa p0_0_31),(V.own 2 0 p0_0_32l 5),(V.own 1 0 p0_0_33l 5)]),(V.sc (.bool z))]) [(.dead b0),(.live true b1),(.live true b2)]) (fun p0_0_0 p0_0_1 p0_0_2 p0_0_3 p0_0_4 p0_0_5 p0_0_6 p0_0_7 p0_0_8 p0_0_9 p0_0_10 p0_0_11 p0_0_12 p0_0_13 p0_0_14 p0_0_15 p0_0_16 p0_0_17 p0_0_18 p0_0_19 p0_0_20 p0_0_21 p0_0_22 p0_0_23 p0_0_24 p0_0_25 p0_0_26 p0_0_27 p0_0_28 p0_0_29 p0_0_30 p0_0_31 p0_0_32l p0_0_33l z b0 b1=>k (V.tup [(V.st [(Qa p0_0_0),(Qa p0_0_1),(Qa p0_0_2),(Qa p0_0_3),(Qa p0_0_4),(Qa p0_0_5),(Qa p0_0_6),(Qa p0_0_7),(Qa p0_0_8),(Qa p0_0_9),(Qa p0_0_10),(Qa p0_0_11),(Qa p0_0_12),(Qa p0_0_13),(Qa p0_0_14),(Qa p0_0_15),(Qa p0_0_16),(Qa p0_0_17),(Qa p0_0_18),(Qa p0_0_19),(Qa p0_0_20),(Qa p0_0_21),(Qa p0_0_22),(Qa p0_0_23),(Qa p0_0_24),(Qa p0_0_25),(Qa p0_0_26),(Qa p0_0_27),(Qa p0_0_28),(Qa p0_0_29),(Qa p0_0_30),(Qa p0_0_31),(V.own 0 0 p0_0_32l 5),(V.own 1 0 p0_0_33l 5)]),(V.sc (.bool z))]) [(.live true b0),(.live true b1)]):=by
 refine (zu6 ze zk xb yc L ae z af ag ah ai aj ak al am D E F G I J M N O P Q R S U W X Y Z aa ab ac ad A C p1 p2 b0 b1 k).trans ?_
 unfold ziE
 first
  | (simp only [zg9,zmO]; done)
  | (simp only [zg9]; rfl)
abbrev zig:=∀ (β:Type),Nat→Int→Int→Int→Int→Int→Int→Int→Int→Int→Int→Int→Int→Int→Int→Int→Int→Int→Int→Int→Int→Int→Int→Int→Int→Int→Int→Int→Int→Int→Int→Int→Int→Nat→Nat→List V→Int→List V→List V→(Int→Int→Int→Int→Int→Int→Int→Int→Int→Int→Int→Int→Int→Int→Int→Int→Int→Int→Int→Int→Int→Int→Int→Int→Int→Int→Int→Int→Int→Int→Int→Int→Nat→Nat→Bool→Nat→List V→List V→Option β)→(Int→Int→Int→Int→Int→Int→Int→Int→Int→Int→Int→Int→Int→Int→Int→Int→Int→Int→Int→Int→Int→Int→Int→Int→Int→Int→Int→Int→Int→Int→Int→Int→Nat→Nat→Bool→List V→List V→Option β)→Option β
def xR(β:Type)(L:Nat)(af ag ah ai aj ak al am an ao D E F G I J M N O P Q R S U W X Y Z aa ab ac ad:Int)(A C:Nat)(p1:List V)(p2:Int)(b0 b1:List V)(ae:zc1 β)(z:zeQ β):Option β:=ziE ze zk xb yc L af ag ah ai aj ak al am an ao D E F G I J M N O P Q R S U W X Y Z aa ab ac ad A C p1 p2 b0 b1 ae z
def zip(xR:zig)(L:Nat)(β:Type)(args:List V)(bor:Bor)(k:KK β):Option β:=match args,bor with
 | [(.st (a0_0::a0_1::a0_2::a0_3::a0_4::a0_5::a0_6::a0_7::a0_8::a0_9::a0_10::a0_11::a0_12::a0_13::a0_14::a0_15::a0_16::a0_17::a0_18::a0_19::a0_20::a0_21::a0_22::a0_23::a0_24::a0_25::a0_26::a0_27::a0_28::a0_29::a0_30::a0_31::a0_32::a0_33::[])),a1,a2],[(.live true A),(.live true C)]=>aI .u8 a0_0 fun ag=>aI .u8 a0_1 fun z=>aI .u8 a0_2 fun ah=>aI .u8 a0_3 fun ai=>aI .u8 a0_4 fun aj=>aI .u8 a0_5 fun ak=>aI .u8 a0_6 fun al=>aI .u8 a0_7 fun am=>aI .u8 a0_8 fun an=>aI .u8 a0_9 fun ao=>aI .u8 a0_10 fun F=>aI .u8 a0_11 fun G=>aI .u8 a0_12 fun I=>aI .u8 a0_13 fun J=>aI .u8 a0_14 fun M=>aI .u8 a0_15 fun N=>aI .u8 a0_16 fun O=>aI .u8 a0_17 fun P=>aI .u8 a0_18 fun Q=>aI .u8 a0_19 fun R=>aI .u8 a0_20 fun S=>aI .u8 a0_21 fun U=>aI .u8 a0_22 fun W=>aI .u8 a0_23 fun X=>aI .u8 a0_24 fun Y=>aI .u8 a0_25 fun Z=>aI .u8 a0_26 fun aa=>aI .u8 a0_27 fun ab=>aI .u8 a0_28 fun ac=>aI .u8 a0_29 fun ad=>aI .u8 a0_30 fun ae=>aI .u8 a0_31 fun af=>aO0 0 5 a0_32 fun D=>aO0 1 5 a0_33 fun E=>aG a1 fun p1=>aI .u32 a2 fun p2=>xR β L ag z ah ai aj ak al am an ao F G I J M N O P Q R S U W X Y Z aa ab ac ad ae af D E p1 p2 A C (fun p0_0_0 p0_0_1 p0_0_2 p0_0_3 p0_0_4 p0_0_5 p0_0_6 p0_0_7 p0_0_8 p0_0_9 p0_0_10 p0_0_11 p0_0_12 p0_0_13 p0_0_14 p0_0_15 p0_0_16 p0_0_17 p0_0_18 p0_0_19 p0_0_20 p0_0_21 p0_0_22 p0_0_23 p0_0_24 p0_0_25 p0_0_26 p0_0_27 p0_0_28 p0_0_29 p0_0_30 p0_0_31 p0_0_32l p0_0_33l z A C b2=>k (V.tup [(V.st [(Qa p0_0_0),(Qa p0_0_1),(Qa p0_0_2),(Qa p0_0_3),(Qa p0_0_4),(Qa p0_0_5),(Qa p0_0_6),(Qa p0_0_7),(Qa p0_0_8),(Qa p0_0_9),(Qa p0_0_10),(Qa p0_0_11),(Qa p0_0_12),(Qa p0_0_13),(Qa p0_0_14),(Qa p0_0_15),(Qa p0_0_16),(Qa p0_0_17),(Qa p0_0_18),(Qa p0_0_19),(Qa p0_0_20),(Qa p0_0_21),(Qa p0_0_22),(Qa p0_0_23),(Qa p0_0_24),(Qa p0_0_25),(Qa p0_0_26),(Qa p0_0_27),(Qa p0_0_28),(Qa p0_0_29),(Qa p0_0_30),(Qa p0_0_31),(V.own 2 0 p0_0_32l 5),(V.own 1 0 p0_0_33l 5)]),(V.sc (.bool z))]) [(.dead A),(.live true C),(.live true b2)]) (fun p0_0_0 p0_0_1 p0_0_2 p0_0_3 p0_0_4 p0_0_5 p0_0_6 p0_0_7 p0_0_8 p0_0_9 p0_0_10 p0_0_11 p0_0_12 p0_0_13 p0_0_14 p0_0_15 p0_0_16 p0_0_17 p0_0_18 p0_0_19 p0_0_20 p0_0_21 p0_0_22 p0_0_23 p0_0_24 p0_0_25 p0_0_26 p0_0_27 p0_0_28 p0_0_29 p0_0_30 p0_0_31 p0_0_32l p0_0_33l z A C=>k (V.tup [(V.st [(Qa p0_0_0),(Qa p0_0_1),(Qa p0_0_2),(Qa p0_0_3),(Qa p0_0_4),(Qa p0_0_5),(Qa p0_0_6),(Qa p0_0_7),(Qa p0_0_8),(Qa p0_0_9),(Qa p0_0_10),(Qa p0_0_11),(Qa p0_0_12),(Qa p0_0_13),(Qa p0_0_14),(Qa p0_0_15),(Qa p0_0_16),(Qa p0_0_17),(Qa p0_0_18),(Qa p0_0_19),(Qa p0_0_20),(Qa p0_0_21),(Qa p0_0_22),(Qa p0_0_23),(Qa p0_0_24),(Qa p0_0_25),(Qa p0_0_26),(Qa p0_0_27),(Qa p0_0_28),(Qa p0_0_29),(Qa p0_0_30),(Qa p0_0_31),(V.own 0 0 p0_0_32l 5),(V.own 1 0 p0_0_33l 5)]),(V.sc (.bool z))]) [(.live true A),(.live true C)])
 | _,_=>none
theorem zuS(L:Nat)(β:Type)(args:List V)(bor:Bor)(k:KK β)(r:β)(h:zip xR L β args bor k=some r):zp zan (zap ze zk xb yc L) L zcS args bor k=some r:=by
 unfold zip at h
 split at h
 ·have q:=yB h; clear h; obtain ⟨ad,rfl,h⟩:=q
  have q:=yB h; clear h; obtain ⟨ae,rfl,h⟩:=q
  have q:=yB h; clear h; obtain ⟨af,rfl,h⟩:=q
  have q:=yB h; clear h; obtain ⟨ag,rfl,h⟩:=q
  have q:=yB h; clear h; obtain ⟨ah,rfl,h⟩:=q
  have q:=yB h; clear h; obtain ⟨ai,rfl,h⟩:=q
  have q:=yB h; clear h; obtain ⟨aj,rfl,h⟩:=q
  have q:=yB h; clear h; obtain ⟨ak,rfl,h⟩:=q
  have q:=yB h; clear h; obtain ⟨al,rfl,h⟩:=q
  have q:=yB h; clear h; obtain ⟨am,rfl,h⟩:=q
  have q:=yB h; clear h; obtain ⟨C,rfl,h⟩:=q
  have q:=yB h; clear h; obtain ⟨D,rfl,h⟩:=q
  have q:=yB h; clear h; obtain ⟨E,rfl,h⟩:=q
  have q:=yB h; clear h; obtain ⟨F,rfl,h⟩:=q
  have q:=yB h; clear h; obtain ⟨G,rfl,h⟩:=q
  have q:=yB h; clear h; obtain ⟨I,rfl,h⟩:=q
  have q:=yB h; clear h; obtain ⟨J,rfl,h⟩:=q
  have q:=yB h; clear h; obtain ⟨M,rfl,h⟩:=q
  have q:=yB h; clear h; obtain ⟨N,rfl,h⟩:=q
  have q:=yB h; clear h; obtain ⟨O,rfl,h⟩:=q
  have q:=yB h; clear h; obtain ⟨P,rfl,h⟩:=q
  have q:=yB h; clear h; obtain ⟨Q,rfl,h⟩:=q
  have q:=yB h; clear h; obtain ⟨R,rfl,h⟩:=q
  have q:=yB h; clear h; obtain ⟨S,rfl,h⟩:=q
  have q:=yB h; clear h; obtain ⟨U,rfl,h⟩:=q
  have q:=yB h; clear h; obtain ⟨W,rfl,h⟩:=q
  have q:=yB h; clear h; obtain ⟨X,rfl,h⟩:=q
  have q:=yB h; clear h; obtain ⟨Y,rfl,h⟩:=q
  have q:=yB h; clear h; obtain ⟨Z,rfl,h⟩:=q
  have q:=yB h; clear h; obtain ⟨aa,rfl,h⟩:=q
  have q:=yB h; clear h; obtain ⟨ab,rfl,h⟩:=q
  have q:=yB h; clear h; obtain ⟨ac,rfl,h⟩:=q
  have q:=zhO h; clear h; obtain ⟨z,rfl,h⟩:=q
  have q:=zhO h; clear h; obtain ⟨A,rfl,h⟩:=q
  have q:=yW h; clear h; obtain ⟨p1,rfl,h⟩:=q
  have q:=yB h; clear h; obtain ⟨p2,rfl,h⟩:=q
  exact (zuM ze zk xb yc L ad ae af ag ah ai aj ak al am C D E F G I J M N O P Q R S U W X Y Z aa ab ac z A p1 p2 _ _ k).trans h
 ·cases h
def zhs:CF:=⟨73,[.cellS 6 34 true,.tmpP 7,.tmpP 8],(.seq (.reg [oo 3 (.box false (tq 0)),Qv 4 (tq 1),oo 6 (.alloc false (rp 32 (.sc (.int .u8 0)) (rp 2 (.gs 5 []) []))),Qh 7 (Qg false),Qh 8 (Qf 0)]) (.seq (.seq (.reg [Qk 12 34 (tq 3),Qs 13 275 [((tq 12),1)],Qt 14 (tq 13)]) (.cond (tq 14) (.seq (.reg [oo 15 (.build (rp 32 (.sc (.int .u8 0)) (rp 2 (.sl 5 []) [])) []),Qm 34 (tq 6) (tq 15),Qh 7 (Qg false),Qh 8 (Qf 6)]) .ret) .skip)) (.seq (.reg [Qk 16 34 (tq 3),oo 17 (.call 394 [((tq 16),1)] [14,18]),Qm 34 (tq 3) (tq 17)]) (.seq (.seq (.reg [Ql 18 33 (tq 3),Qj 19 1 (tq 18),Qk 20 3 (tq 4),Qs 21 395 [((tq 19),2),((tq 20),2)],Qh 9 (tq 21)]) (.seq (.reg [Qh 22 (tq 9),Qp 23 .geq (tq 22) (Qf 0)]) (.cond (tq 23) (.seq (.dreg [] [(Ql 24 33 (tq 3),q0),(Qj 25 1 (tq 24),ql 3 [4] []),(Qh 26 (tq 9),q0),(Ql 27 33 (tq 3),q0),(Qj 28 1 (tq 27),ql 3 [4] []),(Qh 29 (tq 9),q0),(Qo 30 5 (tq 28) (tq 29),q0),(Ql 31 1 (tq 30),q0),(Ql 32 2 (tq 31),q0),(Qj 33 1 (tq 32),qc [3,4] []),(Ql 34 2 (tq 4),q0),(Qj 35 1 (tq 34),ql 4 [3] []),(oo 36 (.mm true (tq 33) (tq 35)),q0),(Qo 37 5 (tq 25) (tq 26),q0),(Ql 38 1 (tq 37),q0),(Ql 39 2 (tq 38),q0),(Qm 1 (tq 39) (tq 36),q0)]) (.seq (.reg [oo 40 (.load true 34 (tq 3) true),Qm 34 (tq 6) (tq 40),Qh 7 (Qg false),Qh 8 (Qf 0)]) .ret)) .skip))) (.seq (.seq (.reg [Ql 41 32 (tq 3),Qj 42 1 (tq 41),Qk 43 3 (tq 4),Qs 44 395 [((tq 42),2),((tq 43),2)],Qh 10 (tq 44)]) (.seq (.reg [Qh 45 (tq 10),Qp 46 .geq (tq 45) (Qf 0)]) (.cond (tq 46) (.seq (.dreg [] [(Ql 47 32 (tq 3),q0),(Qj 48 1 (tq 47),ql 3 [4] []),(Qh 49 (tq 10),q0),(Ql 50 32 (tq 3),q0),(Qj 51 1 (tq 50),ql 3 [4] []),(Qh 52 (tq 10),q0),(Qo 53 5 (tq 51) (tq 52),q0),(Ql 54 1 (tq 53),q0),(Ql 55 2 (tq 54),q0),(Qj 56 1 (tq 55),qc [3,4] []),(Ql 57 2 (tq 4),q0),(Qj 58 1 (tq 57),ql 4 [3] []),(oo 59 (.mm true (tq 56) (tq 58)),q0),(Qo 60 5 (tq 48) (tq 49),q0),(Ql 61 1 (tq 60),q0),(Ql 62 2 (tq 61),q0),(Qm 1 (tq 62) (tq 59),q0)]) (.seq (.reg [oo 63 (.load true 34 (tq 3) true),Qm 34 (tq 6) (tq 63),Qh 7 (Qg false),Qh 8 (Qf 0)]) .ret)) .skip))) (.seq (.reg [oo 65 (.load true 34 (tq 3) true),Qk 66 3 (tq 4),Qh 67 (tq 2),oo 68 (.call 396 [((tq 65),3),((tq 66),2),((tq 67),2)] [23,24]),Qi 64 (tq 68),Qq 69 (tq 64) 0,Qq 70 (tq 64) 1,Qm 34 (tq 3) (tq 69),Qh 11 (tq 70)]) (.seq (.reg [oo 71 (.load true 34 (tq 3) true),Qh 72 (tq 11),Qm 34 (tq 6) (tq 71),Qh 7 (tq 72),Qh 8 (Qf 0)]) .ret)))))))⟩
def zod:Hint:=⟨[(4,3),(7,0),(8,3),(11,0),(12,0),(12,3),(12,4),(13,0)],[],[none,none,none,none,none,none,none],[],[(3,1,[14,18]),(12,3,[23,24])],true,true,[]⟩
def zk9:Nat→Sh:=xW [(3,(.row [(.int .u8),(.int .u8),(.int .u8),(.int .u8),(.int .u8),(.int .u8),(.int .u8),(.int .u8),(.int .u8),(.int .u8),(.int .u8),(.int .u8),(.int .u8),(.int .u8),(.int .u8),(.int .u8),(.int .u8),(.int .u8),(.int .u8),(.int .u8),(.int .u8),(.int .u8),(.int .u8),(.int .u8),(.int .u8),(.int .u8),(.int .u8),(.int .u8),(.int .u8),(.int .u8),(.int .u8),(.int .u8),(.sl 5),(.sl 5)])),(33,(.int .u32)),(35,(.int .u32)),(56,(.int .u32)),(58,(.int .u32))]
def zlm(ya:yv)(zQ:zhj)(yT:zjq)(xR:zig)(L:Nat):CBC:=(yD 396 (zip xR L) (yD 395 (zjJ yT L) (yD 394 (zhq zQ L) (yD 275 (zfB ya L) noC))))
def zmk{β:Type}(ya:yv)(zQ:zhj)(yT:zjq)(xR:zig)(L:Nat)(z J:List V)(p2:Int)(A:List V→Bool→Int→Option β):Option β:=chk (XG z=34) (cI .u8 z 0 fun v0=>cI .u8 z 1 fun v1=>cI .u8 z 2 fun v2=>cI .u8 z 3 fun v3=>cI .u8 z 4 fun v4=>cI .u8 z 5 fun v5=>cI .u8 z 6 fun v6=>cI .u8 z 7 fun v7=>cI .u8 z 8 fun v8=>cI .u8 z 9 fun v9=>cI .u8 z 10 fun aC=>cI .u8 z 11 fun aD=>cI .u8 z 12 fun aE=>cI .u8 z 13 fun aH=>cI .u8 z 14 fun aJ=>cI .u8 z 15 fun aK=>cI .u8 z 16 fun aN=>cI .u8 z 17 fun aQ=>cI .u8 z 18 fun aR=>cI .u8 z 19 fun aT=>cI .u8 z 20 fun aU=>cI .u8 z 21 fun aW=>cI .u8 z 22 fun aX=>cI .u8 z 23 fun aY=>cI .u8 z 24 fun aZ=>cI .u8 z 25 fun a0=>cI .u8 z 26 fun a1=>cI .u8 z 27 fun a2=>cI .u8 z 28 fun a3=>cI .u8 z 29 fun a4=>cI .u8 z 30 fun a5=>cI .u8 z 31 fun a6=>cL 5 z 32 fun a7=>cL 5 z 33 fun a8=>ya β L [(Qa v0),(Qa v1),(Qa v2),(Qa v3),(Qa v4),(Qa v5),(Qa v6),(Qa v7),(Qa v8),(Qa v9),(Qa aC),(Qa aD),(Qa aE),(Qa aH),(Qa aJ),(Qa aK),(Qa aN),(Qa aQ),(Qa aR),(Qa aT),(Qa aU),(Qa aW),(Qa aX),(Qa aY),(Qa aZ),(Qa a0),(Qa a1),(Qa a2),(Qa a3),(Qa a4),(Qa a5),(Qa a6),(V.sl 5 a7),(V.sl 5 a8)] (fun cj=>ifb (!cj) (A (We 32 (Qa (0:Int))++[(V.sl 5 ([]:List (List V))),(V.sl 5 ([]:List (List V)))]) false (6:Int)) (zQ β L [(Qa v0),(Qa v1),(Qa v2),(Qa v3),(Qa v4),(Qa v5),(Qa v6),(Qa v7),(Qa v8),(Qa v9),(Qa aC),(Qa aD),(Qa aE),(Qa aH),(Qa aJ),(Qa aK),(Qa aN),(Qa aQ),(Qa aR),(Qa aT),(Qa aU),(Qa aW),(Qa aX),(Qa aY),(Qa aZ),(Qa a0),(Qa a1),(Qa a2),(Qa a3),(Qa a4),(Qa a5),(Qa a6),(V.sl 5 a7),(V.sl 5 a8)] (fun M N O P Q R S U W X Y Z aa ab ac ad ae af ag ah ai aj ak al am an ao ap aq ar au av G I aw a9=>chk (0+3≤(XG J)) (yT β L I (XI 3 J) a9 (fun C D=>chk ([(XG D)]=[(XG a9)]) (ifb (decide (C≥(0:Int))) (chk (0≤C∧C<((I:Nat):Int)) (cI .u32 D (((0+((XH C)*5))+1)+2) fun ck=>cI .u32 J 2 fun cl=>lt (zz5 ck cl) fun cm=>chk (0≤C∧C<((I:Nat):Int)) (chk (1=1∧(((0+((XH C)*5))+1)+2)+1≤(XG D)) (lt (yh D (((0+((XH C)*5))+1)+2) [(Qc cm)]) fun cn=>A [(Qa M),(Qa N),(Qa O),(Qa P),(Qa Q),(Qa R),(Qa S),(Qa U),(Qa W),(Qa X),(Qa Y),(Qa Z),(Qa aa),(Qa ab),(Qa ac),(Qa ad),(Qa ae),(Qa af),(Qa ag),(Qa ah),(Qa ai),(Qa aj),(Qa ak),(Qa al),(Qa am),(Qa an),(Qa ao),(Qa ap),(Qa aq),(Qa ar),(Qa au),(Qa av),(V.sl 5 (xh 5 G aw)),(V.sl 5 (xh 5 I cn))] false (0:Int))))) (chk (0+3≤(XG J)) (yT β L G (XI 3 J) aw (fun E F=>chk ([(XG F)]=[(XG aw)]) (ifb (decide (E≥(0:Int))) (chk (0≤E∧E<((G:Nat):Int)) (cI .u32 F (((0+((XH E)*5))+1)+2) fun co=>cI .u32 J 2 fun cp=>lt (zz5 co cp) fun cq=>chk (0≤E∧E<((G:Nat):Int)) (chk (1=1∧(((0+((XH E)*5))+1)+2)+1≤(XG F)) (lt (yh F (((0+((XH E)*5))+1)+2) [(Qc cq)]) fun cr=>A [(Qa M),(Qa N),(Qa O),(Qa P),(Qa Q),(Qa R),(Qa S),(Qa U),(Qa W),(Qa X),(Qa Y),(Qa Z),(Qa aa),(Qa ab),(Qa ac),(Qa ad),(Qa ae),(Qa af),(Qa ag),(Qa ah),(Qa ai),(Qa aj),(Qa ak),(Qa al),(Qa am),(Qa an),(Qa ao),(Qa ap),(Qa aq),(Qa ar),(Qa au),(Qa av),(V.sl 5 (xh 5 G cr)),(V.sl 5 (xh 5 I D))] false (0:Int))))) (chk (0+3≤(XG J)) (xR β L M N O P Q R S U W X Y Z aa ab ac ad ae af ag ah ai aj ak al am an ao ap aq ar au av G I (XI 3 J) p2 F D (fun ct cu cv cw cx cy cz cA cC cD cE cF cH cJ cM cN cO ba bb bc bd be bf bg bh bi bj bk bm bn bo bp bq br bt bu ax bv=>chk ([bu,(XG ax)]=[(XG F),(XG D)]) (A [(Qa ct),(Qa cu),(Qa cv),(Qa cw),(Qa cx),(Qa cy),(Qa cz),(Qa cA),(Qa cC),(Qa cD),(Qa cE),(Qa cF),(Qa cH),(Qa cJ),(Qa cM),(Qa cN),(Qa cO),(Qa ba),(Qa bb),(Qa bc),(Qa bd),(Qa be),(Qa bf),(Qa bg),(Qa bh),(Qa bi),(Qa bj),(Qa bk),(Qa bm),(Qa bn),(Qa bo),(Qa bp),(V.sl 5 (xh 5 bq bv)),(V.sl 5 (xh 5 br ax))] bt (0:Int))) (fun bw bz bC bD bE bF bG bH bI bJ bK bL bM bN bO bP bQ bR bS bT bU bV bW bX bY bZ b0 b1 b2 b3 b4 b5 b6 b7 b8 ay az=>chk ([(XG ay),(XG az)]=[(XG F),(XG D)]) (A [(Qa bw),(Qa bz),(Qa bC),(Qa bD),(Qa bE),(Qa bF),(Qa bG),(Qa bH),(Qa bI),(Qa bJ),(Qa bK),(Qa bL),(Qa bM),(Qa bN),(Qa bO),(Qa bP),(Qa bQ),(Qa bR),(Qa bS),(Qa bT),(Qa bU),(Qa bV),(Qa bW),(Qa bX),(Qa bY),(Qa bZ),(Qa b0),(Qa b1),(Qa b2),(Qa b3),(Qa b4),(Qa b5),(V.sl 5 (xh 5 b6 ay)),(V.sl 5 (xh 5 b7 az))] b8 (0:Int))))))))))))))))
theorem zvb{β:Type}(ya:yv)(zQ:zhj)(yT:zjq)(xR:zig)(L:Nat)(D E:List V)(F:Int)(k:KK β):zp zk9 (zlm ya zQ yT xR L) L zhs [(V.agg D),(V.agg E),(Qc F)] [] k=zmk ya zQ yT xR L D E F (fun z A C=>k (V.tup [(V.agg z),(V.sc (.bool A)),(Qe C)]) []):=by kernel_rfl
abbrev zT:=∀ (β:Type),Nat→List V→List V→Int→(List V→Bool→Int→Option β)→Option β
def yg(β:Type)(L:Nat)(A C:List V)(D:Int)(z:List V→Bool→Int→Option β):Option β:=zmk ya zQ yT xR L A C D z
def zfF(yg:zT)(L:Nat)(β:Type)(args:List V)(bor:Bor)(k:KK β):Option β:=match args,bor with
 | [a0,a1,a2],[]=>aG a0 fun D=>aG a1 fun E=>aI .u32 a2 fun F=>yg β L D E F (fun z A C=>k (V.tup [(V.agg z),(V.sc (.bool A)),(Qe C)]) [])
 | _,_=>none
theorem zuR(L:Nat)(β:Type)(args:List V)(bor:Bor)(k:KK β)(r:β)(h:zfF yg L β args bor k=some r):zp zk9 (zlm ya zQ yT xR L) L zhs args bor k=some r:=by
 unfold zfF at h
 split at h
 ·have q:=yW h; clear h; obtain ⟨z,rfl,h⟩:=q
  have q:=yW h; clear h; obtain ⟨A,rfl,h⟩:=q
  have q:=yB h; clear h; obtain ⟨C,rfl,h⟩:=q
  exact (zvb ya zQ yT xR L z A C k).trans h
 ·cases h
def zlS:CF:=⟨65,[.tmp 0],(.seq (.reg [Qh 0 (Qg false)]) (.seq (.reg [oo 8 (.build [(.sc (.int .u32 0)),(.sc (.int .u16 0)),(.sc (.int .u32 0))] [(0,1,(.const (.sc (.int .u32 327680)))),(1,1,(.const (.sc (.int .u16 8)))),(2,1,(.const (.sc (.int .u32 3))))]),oo 1 (.alloc true [(.sc (.int .u32 0)),(.sc (.int .u16 0)),(.sc (.int .u32 0))]),Qm 3 (tq 1) (tq 8)]) (.seq (.reg [oo 10 (.build (rp 32 (.sc (.int .u8 0)) (rp 2 (.sl 5 []) [])) []),Qk 11 3 (tq 1),Qs 12 382 [((tq 10),1),(Qw 11),((.const (.sc (.int .u32 7))),0)],Qi 9 (tq 12),Qq 13 (tq 9) 0,Qq 14 (tq 9) 1,Qq 15 (tq 9) 2,oo 2 (.alloc true (rp 32 (.sc (.int .u8 0)) (rp 2 (.gs 5 []) []))),Qm 34 (tq 2) (tq 13),Qh 3 (tq 14),Qh 4 (tq 15)]) (.seq (.reg [Ql 16 2 (tq 1),oz (.store 1 (tq 16) (.const (.sc (.int .u32 9))))]) (.seq (.reg [Qk 18 34 (tq 2),Qk 19 3 (tq 1),Qs 20 382 [((tq 18),1),(Qw 19),((.const (.sc (.int .u32 8))),0)],Qi 17 (tq 20),Qq 21 (tq 17) 0,Qq 22 (tq 17) 1,Qq 23 (tq 17) 2,oo 5 (.alloc true (rp 32 (.sc (.int .u8 0)) (rp 2 (.gs 5 []) []))),Qm 34 (tq 5) (tq 21),Qh 6 (tq 22),Qh 7 (tq 23)]) (.seq (.reg [Qh 24 (tq 4),Qp 25 .eql (tq 24) (Qf 0),Qh 26 (tq 25),⟨(some 27),false,(some (26,true)),.move (tq 7) false⟩,⟨(some 28),false,(some (26,true)),.bin .eql (tq 27) (Qf 0)⟩,oo 29 (.pick (tq 26) (tq 28) (Qg false)),Qh 30 (tq 29),⟨(some 31),false,(some (30,true)),.move (tq 3) false⟩,oo 32 (.pick (tq 30) (tq 31) (Qg false)),Qh 33 (tq 32),⟨(some 34),false,(some (33,true)),.move (tq 6) false⟩,⟨(some 35),false,(some (33,true)),.un .not (tq 34)⟩,oo 36 (.pick (tq 33) (tq 35) (Qg false)),Qh 37 (tq 36),⟨(some 38),false,(some (37,true)),.fieldAddr 32 (tq 5)⟩,⟨(some 39),false,(some (37,true)),.load false 1 (tq 38) false⟩,⟨(some 40),false,(some (37,true)),.lenS (tq 39)⟩,⟨(some 41),false,(some (37,true)),.bin .eql (tq 40) (Qf 1)⟩,oo 42 (.pick (tq 37) (tq 41) (Qg false)),Qh 43 (tq 42),⟨(some 44),false,(some (43,true)),.fieldAddr 32 (tq 5)⟩,⟨(some 45),false,(some (43,true)),.load false 1 (tq 44) false⟩,⟨(some 46),false,(some (43,true)),.indexAddrS 5 (tq 45) (Qf 0)⟩,⟨(some 47),false,(some (43,true)),.fieldAddr 1 (tq 46)⟩,⟨(some 48),false,(some (43,true)),.fieldAddr 2 (tq 47)⟩,⟨(some 49),false,(some (43,true)),.load false 1 (tq 48) false⟩,⟨(some 50),false,(some (43,true)),.bin .eql (tq 49) (.const (.sc (.int .u32 9)))⟩,oo 51 (.pick (tq 43) (tq 50) (Qg false)),Qh 52 (tq 51),⟨(some 53),false,(some (52,true)),.fieldAddr 32 (tq 5)⟩,⟨(some 54),false,(some (52,true)),.load false 1 (tq 53) false⟩,⟨(some 55),false,(some (52,true)),.indexAddrS 5 (tq 54) (Qf 0)⟩,⟨(some 56),false,(some (52,true)),.fieldAddr 4 (tq 55)⟩,⟨(some 57),false,(some (52,true)),.load false 1 (tq 56) false⟩,⟨(some 58),false,(some (52,true)),.bin .eql (tq 57) (.const (.sc (.int .u32 7)))⟩,oo 59 (.pick (tq 52) (tq 58) (Qg false)),Qh 60 (tq 59),⟨(some 61),false,(some (60,true)),.load true 3 (tq 1) false⟩,⟨(some 62),false,(some (60,true)),.call 269 [(Qw 61)] []⟩,⟨(some 63),false,(some (60,true)),.bin .eql (tq 62) (.const (.sc (.int .u32 5)))⟩,oo 64 (.pick (tq 60) (tq 63) (Qg false)),Qh 0 (tq 64)]) .ret))))))⟩
def zr4:Hint:=⟨[(2,3),(2,7),(4,3),(4,7)],[],[none],[],[],false,false,[]⟩
def zpO:Nat→Sh:=xW [(39,(.sl 5)),(45,(.sl 5)),(49,(.int .u32)),(54,(.sl 5)),(57,(.int .u32))]
def zpL(yg:zT)(xp:zbg)(L:Nat):CBC:=(yD 269 (zei xp L) (yD 382 (zfF yg L) noC))
def zq1{β:Type}(yg:zT)(xp:zbg)(L:Nat)(z:Bool→Option β):Option β:=lt [(Qc (327680:Int)),(Qb (8:Int)),(Qc (3:Int))] fun A=>chk (0+3≤(XG A)) (yg β L (We 32 (Qa (0:Int))++[(V.sl 5 ([]:List (List V))),(V.sl 5 ([]:List (List V)))]) (XI 3 A) (7:Int) (fun C P Q=>chk ((XG C)=34∧0+34≤34) (lt (yh (We 32 (Qa (0:Int))++[(V.gs 5 ([]:List (List V))),(V.gs 5 ([]:List (List V)))]) 0 C) fun r4=>chk (1=1∧2+1≤(XG A)) (lt (yh A 2 [(Qc (9:Int))]) fun r5=>chk (0+34≤(XG r4)) (chk (0+3≤(XG r5)) (yg β L (List.map V.dem (XI 34 r4)) (XI 3 r5) (8:Int) (fun D R S=>chk ((XG D)=34∧0+34≤34) (lt (yh (We 32 (Qa (0:Int))++[(V.gs 5 ([]:List (List V))),(V.gs 5 ([]:List (List V)))]) 0 D) fun r9=>ifb ((Q:Int)==(0:Int)) (ifb ((S:Int)==(0:Int)) (ifb P (ifb (!R) (cLd 5 r9 32 fun E=>ifb ((((XG E:Nat):Int):Int)==(1:Int)) (cLd 5 r9 32 fun F=>idx F (0:Int) fun G=>cI .u32 (XJ 2 (XJ 1 G)) 0 fun I=>ifb ((I:Int)==(9:Int)) (cLd 5 r9 32 fun J=>idx J (0:Int) fun M=>cI .u32 (XJ 4 M) 0 fun N=>ifb ((N:Int)==(7:Int)) (chk (0+3≤(XG r5)) (xp β L (XI 3 r5) (fun O=>z ((O:Int)==(5:Int))))) (z false)) (z false)) (z false)) (z false)) (z false)) (z false)) (z false)))))))))
theorem zyX{β:Type}(yg:zT)(xp:zbg)(L:Nat)(k:KK β):zp zpO (zpL yg xp L) L zlS [] [] k=zq1 yg xp L (fun z=>k (V.sc (.bool z)) []):=by kernel_rfl
abbrev zJ:=∀ (β:Type),Nat→(Bool→Option β)→Option β
def xd(β:Type)(L:Nat)(z:Bool→Option β):Option β:=zq1 yg xp L z
def zmT(xd:zJ)(L:Nat)(β:Type)(args:List V)(bor:Bor)(k:KK β):Option β:=match args,bor with
 | [],[]=>xd β L (fun z=>k (V.sc (.bool z)) [])
 | _,_=>none
theorem zzq(L:Nat)(β:Type)(args:List V)(bor:Bor)(k:KK β)(r:β)(h:zmT xd L β args bor k=some r):zp zpO (zpL yg xp L) L zlS args bor k=some r:=by
 unfold zmT at h
 split at h
 ·exact (zyX yg xp L k).trans h
 ·cases h
def zpb:CF:=⟨6,[.tmp 2],(.seq (.reg [oo 2 (.move (.const (.sc (.pointer none))) false)]) (.seq (.reg [Qh 3 (tq 0),oo 4 (.build [(.sl 1 []),(.sc (.int .i64 0))] [(0,1,(tq 3))]),oo 5 (.box false (tq 4)),Qh 2 (tq 5)]) .ret))⟩
def zuG:Hint:=⟨[],[],[none],[],[],false,false,[]⟩
def zsO:Nat→Sh:=xW []
def zsx(L:Nat):CBC:=noC
def zuo{β:Type}(L:Nat)(A:List (List V))(z:List (List V)→Int→Option β):Option β:=z A (0:Int)
theorem zBw{β:Type}(L:Nat)(C:List (List V))(k:KK β):zp zsO (zsx L) L zpb [(V.sl 1 C)] [] k=zuo L C (fun z A=>k (V.bx false [(V.sl 1 z),(Qe A)]) []):=by kernel_rfl
abbrev yP:=∀ (β:Type),Nat→List (List V)→(List (List V)→Int→Option β)→Option β
def xf(β:Type)(L:Nat)(A:List (List V))(z:List (List V)→Int→Option β):Option β:=zuo L A z
def zqt(xf:yP)(L:Nat)(β:Type)(args:List V)(bor:Bor)(k:KK β):Option β:=match args,bor with
 | [a0],[]=>aL 1 a0 fun C=>xf β L C (fun z A=>k (V.bx false [(V.sl 1 z),(Qe A)]) [])
 | _,_=>none
theorem zBf(L:Nat)(β:Type)(args:List V)(bor:Bor)(k:KK β)(r:β)(h:zqt xf L β args bor k=some r):zp zsO (zsx L) L zpb args bor k=some r:=by
 unfold zqt at h
 split at h
 ·have q:=zaT h; clear h; obtain ⟨z,rfl,h⟩:=q
  exact (zBw L z k).trans h
 ·cases h
def zhm:CF:=⟨13,[.tmp 2],(.seq (.reg [Qh 2 (Qg false)]) (.seq (.dreg [] [(Qh 3 (tq 0),q0),(oo 4 (.nilCheck (tq 3)),q0),(Ql 5 1 (tq 4),q0),(Qj 6 1 (tq 5),ql 0 [] []),(Qh 7 (tq 0),q0),(oo 8 (.nilCheck (tq 7)),q0),(Ql 9 0 (tq 8),q0),(Qj 10 1 (tq 9),ql 0 [] []),(Qr 11 (tq 10),q0),(Qp 12 .lss (tq 6) (tq 11),q0),(Qh 2 (tq 12),q0)]) .ret))⟩
def zn6:Hint:=⟨[],[],[none],[],[],false,false,[]⟩
def zle:Nat→Sh:=xW []
def zld(L:Nat):CBC:=noC
def zic{β:Type}(L:Nat)(z:List (List V))(A:Int)(C:Bool→List (List V)→Int→Option β):Option β:=C (decide (A<((XG z:Nat):Int))) z A
theorem zu7{β:Type}(L:Nat)(z:List (List V))(A:Int)(k:KK β):zp zle (zld L) L zhm [(V.ptr 0 0)] [(.live false [(V.sl 1 z),(Qe A)])] k=zic L z A (fun C z A=>k (V.sc (.bool C)) [(.live false [(V.sl 1 z),(Qe A)])]):=by kernel_rfl
abbrev zio:=∀ (β:Type),Nat→List (List V)→Int→(Bool→List (List V)→Int→Option β)→Option β
def xS(β:Type)(L:Nat)(A:List (List V))(C:Int)(z:Bool→List (List V)→Int→Option β):Option β:=zic L A C z
def zij(xS:zio)(L:Nat)(β:Type)(args:List V)(bor:Bor)(k:KK β):Option β:=match args,bor with
 | [a0],[(.live false [w0_0,w0_1])]=>aP 0 0 a0 (aL 1 w0_0 fun z=>aI .i64 w0_1 fun A=>xS β L z A (fun C z A=>k (V.sc (.bool C)) [(.live false [(V.sl 1 z),(Qe A)])]))
 | _,_=>none
theorem zva(L:Nat)(β:Type)(args:List V)(bor:Bor)(k:KK β)(r:β)(h:zij xS L β args bor k=some r):zp zle (zld L) L zhm args bor k=some r:=by
 unfold zij at h
 split at h
 ·have q:=znz h; clear h; obtain ⟨rfl,h⟩:=q
  have q:=zaT h; clear h; obtain ⟨z,rfl,h⟩:=q
  have q:=yB h; clear h; obtain ⟨A,rfl,h⟩:=q
  exact (zu7 L z A k).trans h
 ·cases h
def zo4:CF:=⟨15,[.tmp 4],(.seq (.reg [Qh 4 (Qf 0)]) (.seq (.reg [Qh 6 (tq 0),Qh 7 (tq 1),Qp 8 .rem (tq 6) (tq 7),Qh 5 (tq 8)]) (.seq (.seq (.reg [Qh 9 (tq 5),Qp 10 .lss (tq 9) (Qf 0)]) (.cond (tq 10) (.reg [Qh 11 (tq 5),Qh 12 (tq 1),Qp 13 .add (tq 11) (tq 12),Qh 5 (tq 13)]) .skip)) (.seq (.reg [Qh 14 (tq 5),Qh 4 (tq 14)]) .ret))))⟩
def zuD:Hint:=⟨[],[],[none,none],[],[],false,false,[]⟩
def zsG:Nat→Sh:=xW []
def zsB(L:Nat):CBC:=noC
def zqy{β:Type}(L:Nat)(D A:Int)(z:Int→Option β):Option β:=chk (A≠0) (lt (XM D A) fun C=>ifb (decide (C<(0:Int))) (lt (QF .i64 ((C:Int)+A)) fun E=>z E) (z C))
theorem zBu{β:Type}(L:Nat)(z A:Int)(k:KK β):zp zsG (zsB L) L zo4 [(Qe z),(Qe A)] [] k=zqy L z A (fun z=>k (Qe z) []):=by kernel_rfl
abbrev zqr:=∀ (β:Type),Nat→Int→Int→(Int→Option β)→Option β
def zaY(β:Type)(L:Nat)(A C:Int)(z:Int→Option β):Option β:=zqy L A C z
def zqi(zaY:zqr)(L:Nat)(β:Type)(args:List V)(bor:Bor)(k:KK β):Option β:=match args,bor with
 | [a0,a1],[]=>aI .i64 a0 fun z=>aI .i64 a1 fun A=>zaY β L z A (fun z=>k (Qe z) [])
 | _,_=>none
theorem zBs(L:Nat)(β:Type)(args:List V)(bor:Bor)(k:KK β)(r:β)(h:zqi zaY L β args bor k=some r):zp zsG (zsB L) L zo4 args bor k=some r:=by
 unfold zqi at h
 split at h
 ·have q:=yB h; clear h; obtain ⟨z,rfl,h⟩:=q
  have q:=yB h; clear h; obtain ⟨A,rfl,h⟩:=q
  exact (zBu L z A k).trans h
 ·cases h
def zhh:CF:=⟨28,[.tmp 4],(.seq (.reg [Qh 4 (Qf 0)]) (.seq (.seq (.reg [Qh 5 (tq 0),Qs 6 247 [(Qw 5)],Qt 7 (tq 6)]) (.cond (tq 7) (.seq (.reg [Qh 4 (Qf 0)]) .ret) .skip)) (.seq (.reg [Qh 8 (tq 0),oo 9 (.nilCheck (tq 8)),Ql 10 1 (tq 9),Qj 11 1 (tq 10),Qp 12 .add (tq 11) (Qf 1),oo 13 (.nilCheck (tq 8)),Ql 14 1 (tq 13),Qm 1 (tq 14) (tq 12)]) (.seq (.dreg [] [(Qh 15 (tq 0),q0),(oo 16 (.nilCheck (tq 15)),q0),(Ql 17 0 (tq 16),q0),(Qj 18 1 (tq 17),ql 0 [] []),(Qh 19 (tq 0),q0),(oo 20 (.nilCheck (tq 19)),q0),(Ql 21 1 (tq 20),q0),(Qj 22 1 (tq 21),ql 0 [] []),(Qp 23 .sub (tq 22) (Qf 1),q0),(Qo 24 1 (tq 18) (tq 23),q0),(Qj 25 1 (tq 24),q0),(Qh 26 (tq 1),q0),(Qs 27 217 [(Qw 25),(Qw 26)],q0),(Qh 4 (tq 27),q0)]) .ret))))⟩
def zof:Hint:=⟨[],[],[none,none,none],[],[],false,false,[]⟩
def zlj:Nat→Sh:=xW [(25,(.int .i64))]
def zlt(xS:zio)(zaY:zqr)(L:Nat):CBC:=(yD 217 (zqi zaY L) (yD 247 (zij xS L) noC))
def zh8{β:Type}(xS:zio)(zaY:zqr)(L:Nat)(G:Int)(A:List (List V))(C:Int)(z:Int→List (List V)→Int→Option β):Option β:=xS β L A C (fun I D E=>ifb (!I) (z (0:Int) D E) (lt (QF .i64 ((E:Int)+(1:Int))) fun F=>lt (QF .i64 ((F:Int)-(1:Int))) fun J=>idx D J fun M=>cI .i64 M 0 fun N=>zaY β L N G (fun O=>z O D F)))
theorem zu9{β:Type}(xS:zio)(zaY:zqr)(L:Nat)(C:Int)(z:List (List V))(A:Int)(k:KK β):zp zlj (zlt xS zaY L) L zhh [(V.ptr 0 0),(Qe C)] [(.live false [(V.sl 1 z),(Qe A)])] k=zh8 xS zaY L C z A (fun D z A=>k (Qe D) [(.live false [(V.sl 1 z),(Qe A)])]):=by kernel_rfl
abbrev zw:=∀ (β:Type),Nat→Int→List (List V)→Int→(Int→List (List V)→Int→Option β)→Option β
def xa(β:Type)(L:Nat)(D:Int)(A:List (List V))(C:Int)(z:Int→List (List V)→Int→Option β):Option β:=zh8 xS zaY L D A C z
def zdj(xa:zw)(L:Nat)(β:Type)(args:List V)(bor:Bor)(k:KK β):Option β:=match args,bor with
 | [a0,a1],[(.live false [w0_0,w0_1])]=>aP 0 0 a0 (aI .i64 a1 fun C=>aL 1 w0_0 fun z=>aI .i64 w0_1 fun A=>xa β L C z A (fun D z A=>k (Qe D) [(.live false [(V.sl 1 z),(Qe A)])]))
 | _,_=>none
theorem zuP(L:Nat)(β:Type)(args:List V)(bor:Bor)(k:KK β)(r:β)(h:zdj xa L β args bor k=some r):zp zlj (zlt xS zaY L) L zhh args bor k=some r:=by
 unfold zdj at h
 split at h
 ·have q:=znz h; clear h; obtain ⟨rfl,h⟩:=q
  have q:=yB h; clear h; obtain ⟨C,rfl,h⟩:=q
  have q:=zaT h; clear h; obtain ⟨z,rfl,h⟩:=q
  have q:=yB h; clear h; obtain ⟨A,rfl,h⟩:=q
  exact (zu9 xS zaY L C z A k).trans h
 ·cases h
def zm2:CF:=⟨10,[.cell 2 true 32],(.seq (.reg [oo 2 (.alloc true (rp 32 (.sc (.int .u8 0)) []))]) (.seq (.reg [Qh 3 (tq 0),Qs 4 231 [(Qw 3),((Qf 5),0)],Qu 5 .u8 (tq 4),Qh 6 (tq 0),Qs 7 231 [(Qw 6),((Qf 7),0)],Qu 8 .u8 (tq 7),oo 9 (.build (rp 32 (.sc (.int .u8 0)) []) [(0,1,(tq 5)),(31,1,(tq 8))]),Qm 32 (tq 2) (tq 9)]) .ret))⟩
def ztb:Hint:=⟨[],[],[none],[],[],false,false,[]⟩
def zrj:Nat→Sh:=xW []
def zry(xa:zw)(L:Nat):CBC:=(yD 231 (zdj xa L) noC)
def zst{β:Type}(xa:zw)(L:Nat)(A:List (List V))(C:Int)(z:List V→List (List V)→Int→Option β):Option β:=xa β L (5:Int) A C (fun D E F=>lt (QF .u8 D) fun G=>xa β L (7:Int) E F (fun I J M=>lt (QF .u8 I) fun N=>lt ([(Qa G)]++We 30 (Qa (0:Int))++[(Qa N)]) fun r8=>chk (0=0∧(XG r8)=32∧32≠0) (z r8 J M)))
theorem zz7{β:Type}(xa:zw)(L:Nat)(z:List (List V))(A:Int)(k:KK β):zp zrj (zry xa L) L zm2 [(V.ptr 0 0)] [(.live false [(V.sl 1 z),(Qe A)])] k=zst xa L z A (fun C z A=>k (V.agg C) [(.live false [(V.sl 1 z),(Qe A)])]):=by kernel_rfl
abbrev zcy:=∀ (β:Type),Nat→List (List V)→Int→(List V→List (List V)→Int→Option β)→Option β
def yx(β:Type)(L:Nat)(A:List (List V))(C:Int)(z:List V→List (List V)→Int→Option β):Option β:=zst xa L A C z
def zo7(yx:zcy)(L:Nat)(β:Type)(args:List V)(bor:Bor)(k:KK β):Option β:=match args,bor with
 | [a0],[(.live false [w0_0,w0_1])]=>aP 0 0 a0 (aL 1 w0_0 fun z=>aI .i64 w0_1 fun A=>yx β L z A (fun C z A=>k (V.agg C) [(.live false [(V.sl 1 z),(Qe A)])]))
 | _,_=>none
theorem zzJ(L:Nat)(β:Type)(args:List V)(bor:Bor)(k:KK β)(r:β)(h:zo7 yx L β args bor k=some r):zp zrj (zry xa L) L zm2 args bor k=some r:=by
 unfold zo7 at h
 split at h
 ·have q:=znz h; clear h; obtain ⟨rfl,h⟩:=q
  have q:=zaT h; clear h; obtain ⟨z,rfl,h⟩:=q
  have q:=yB h; clear h; obtain ⟨A,rfl,h⟩:=q
  exact (zz7 xa L z A k).trans h
 ·cases h
def zeE:CC:=(.seq (.reg [Qp 8 .lss (tq 7) (tq 6)]) (.seq (.cond (tq 8) .skip (.seq (.mask (bl 8 22) (bl 4194287 22)) (.exit 0))) (.seq (.block 1 (.seq (.reg [Qh 9 (tq 7),Qh 4 (tq 9)]) (.reg [Qh 10 (tq 3),Qh 11 (tq 0),Qh 12 (tq 4),Qo 13 1 (tq 11) (tq 12),Qj 14 1 (tq 13),Qu 15 .u64 (tq 14),Qh 16 (tq 4),Qp 17 .mul (Qf 8) (tq 16),Qp 18 .shl (tq 15) (tq 17),Qp 19 .or (tq 10) (tq 18),Qh 3 (tq 19)]))) (.reg [Qp 20 .add (tq 7) (Qf 1),Qh 7 (tq 20)]))))
def zm0:CC:=(.seq (.reg [Qh 21 (tq 3),Qh 2 (tq 21)]) .ret)
def ze1:CF:=⟨22,[.tmp 2],(.seq (.reg [oo 2 (.move (.const (.sc (.int .u64 0))) false)]) (.seq (.reg [oo 3 (.move (.const (.sc (.int .u64 0))) false)]) (.seq (.seq (.reg [Qh 5 (tq 0),Qr 6 (tq 5),Qh 7 (Qf 0)]) (.block 0 (.loop (bl 201 22) (bl 4194287 22) zeE))) zm0)))⟩
def zrU:Hint:=⟨[],[],[none,some ((bl 201 22),(bl 4194287 22)),none,some ((bl 8 22),(bl 4194287 22)),none,none],[],[],false,false,[]⟩
def zcs:Nat→Sh:=xW [(14,(.int .u8))]
def zcw(L:Nat):CBC:=noC
def zhu:St→St:=zaH 0 (bl 201 22) (bl 4194287 22)
def zfh(z:List (List V))(A C D:Int):St:=⟨((V.sl 1 z)::(jn 2 ((Qd A)::(jn 2 ((Qe C)::((Qe D)::(jn 14 []))))))),(gn 22 [])⟩
def zmc(z:Int):St:=⟨(jn 3 ((Qd z)::(jn 18 []))),(gn 22 [])⟩
def zq7{β:Type}(L:Nat)(A:List (List V))(z:List (List V)→Int→Int→Int→Option β):Option β:=z A (0:Int) ((XG A:Nat):Int) (0:Int)
theorem zzf{β:Type}(L:Nat)(z:List (List V))(k:KK β):zp zcs (zcw L) L ze1 [(V.sl 1 z)] [] k=zq7 L z (fun z A C D=>xz (yi zcs (zcw L) 0 L zeE) zhu L (zfh z A C D) (zz 0 (xK (yi zcs (zcw L) 0 L zm0) (yR 0 (CF.res ze1) k)))):=by kernel_rfl
def zlu{β:Type}(L:Nat)(D:List (List V))(E F A:Int)(z:List (List V)→Int→Int→Int→Option β)(C:Int→Option β):Option β:=ifb (decide (A<F)) (idx D A fun c0=>cI .u8 c0 0 fun I=>lt (QF .u64 I) fun J=>lt (QF .i64 (((8:Int):Int)*A)) fun G=>chk (0≤G) (lt (zlp .u64 J G) fun M=>lt (ior .u64 E M) fun N=>lt (QF .i64 ((A:Int)+(1:Int))) fun O=>z D N F O)) (C E)
theorem ztV{β:Type}(L:Nat)(A:List (List V))(z C D:Int)(X:St→Option β)(K:KT β):yi zcs (zcw L) 0 L zeE (zfh A z C D) (zbo zhu X K)=zlu L A z C D (fun A z C D=>X (zfh A z C D)) (fun z=>K (.exit 0) (zmc z)):=by kernel_rfl
def zon{β:Type}(L:Nat)(A:Int)(z:Int→Option β):Option β:=z A
theorem zsy{β:Type}(L:Nat)(z:Int)(k:KK β):(zz 0 (xK (yi zcs (zcw L) 0 L zm0) (yR 0 (CF.res ze1) k))) (.exit 0) (zmc z)=zon L z (fun A=>k (Qd A) []):=by kernel_rfl
def zfe{β:Type}(L:Nat)(z:Int→Option β):Nat→List (List V)→Int→Int→Int→Option β
 | 0,_,_,_,_=>none
 | n+1,A,C,D,E=>zlu L A C D E (fun A C D E=>zfe L z n A C D E) z
theorem znZ{β:Type}(L:Nat)(K:KT β):∀ (n:Nat) (A:List (List V)) (z C D:Int),xz (yi zcs (zcw L) 0 L zeE) zhu n (zfh A z C D) K=zfe L (fun z=>K (.exit 0) (zmc z)) n A z C D:=by
 intro n
 induction n with
 | zero=>intros; rfl
 | succ n ih=>
  intro A z C D
  refine (ztV L A z C D (fun σ=>xz (yi zcs (zcw L) 0 L zeE) zhu n σ K) K).trans ?_
  simp only [ih]
  rfl
def zno{β:Type}(L:Nat)(A:List (List V))(z:Int→Option β):Option β:=zq7 L A (fun A C D E=>zfe L (fun C=>zon L C z) L A C D E)
theorem zyr{β:Type}(L:Nat)(z:List (List V))(k:KK β):zp zcs (zcw L) L ze1 [(V.sl 1 z)] [] k=zno L z (fun z=>k (Qd z) []):=by
 refine (zzf L z k).trans ?_
 unfold zno
 first
  | (simp only [znZ,zsy]; done)
  | (simp only [znZ]; rfl)
abbrev zaW:=∀ (β:Type),Nat→List (List V)→(Int→Option β)→Option β
def xl(β:Type)(L:Nat)(A:List (List V))(z:Int→Option β):Option β:=zno L A z
def zkd(xl:zaW)(L:Nat)(β:Type)(args:List V)(bor:Bor)(k:KK β):Option β:=match args,bor with
 | [a0],[]=>aL 1 a0 fun z=>xl β L z (fun z=>k (Qd z) [])
 | _,_=>none
theorem zyt(L:Nat)(β:Type)(args:List V)(bor:Bor)(k:KK β)(r:β)(h:zkd xl L β args bor k=some r):zp zcs (zcw L) L ze1 args bor k=some r:=by
 unfold zkd at h
 split at h
 ·have q:=zaT h; clear h; obtain ⟨z,rfl,h⟩:=q
  exact (zyr L z k).trans h
 ·cases h
def zn0:CF:=⟨8,[.cell 2 true 2],(.seq (.reg [Qv 1 (tq 0),oo 2 (.alloc true [(.sc (.int .u64 0)),(.sc (.int .u64 0))])]) (.seq (.dreg [1] [(oo 3 (.sliceA 32 1 (tq 1) none (some (Qf 8)) none),q1),(Qs 4 115 [(Qw 3)],q1),(oo 5 (.sliceA 32 1 (tq 1) (some (Qf 8)) (some (Qf 16)) none),q1),(Qs 6 115 [(Qw 5)],q0),(oo 7 (.build [(.sc (.int .u64 0)),(.sc (.int .u64 0))] [(0,1,(tq 4)),(1,1,(tq 6))]),q0),(Qm 2 (tq 2) (tq 7),q0)]) .ret))⟩
def zs3:Hint:=⟨[],[],[none],[(1,[1])],[],false,false,[]⟩
def zrn:Nat→Sh:=xW []
def zq8(xl:zaW)(L:Nat):CBC:=(yD 115 (zkd xl L) noC)
def zso{β:Type}(xl:zaW)(L:Nat)(C:List V)(z:List V→Option β):Option β:=lc C (none) (fun h0 A=>chk (0+32*1≤(XG (h0::A))) (xl β L (xh 1 8 (h0::A)) (fun D=>chk (0+32*1≤(XG (h0::A))) (xl β L (xh 1 8 (XJ 8 (h0::A))) (fun E=>lt [(Qd D),(Qd E)] fun r4=>chk (0=0∧(XG r4)=2∧2≠0) (z r4))))))
theorem zz6{β:Type}(xl:zaW)(L:Nat)(z:List V)(k:KK β):zp zrn (zq8 xl L) L zn0 [(V.agg z)] [] k=zso xl L z (fun z=>k (V.agg z) []):=by kernel_rfl
abbrev zgW:=∀ (β:Type),Nat→List V→(List V→Option β)→Option β
def zP(β:Type)(L:Nat)(A:List V)(z:List V→Option β):Option β:=zso xl L A z
def zlw(zP:zgW)(L:Nat)(β:Type)(args:List V)(bor:Bor)(k:KK β):Option β:=match args,bor with
 | [a0],[]=>aG a0 fun z=>zP β L z (fun z=>k (V.agg z) [])
 | _,_=>none
theorem zAh(L:Nat)(β:Type)(args:List V)(bor:Bor)(k:KK β)(r:β)(h:zlw zP L β args bor k=some r):zp zrn (zq8 xl L) L zn0 args bor k=some r:=by
 unfold zlw at h
 split at h
 ·have q:=yW h; clear h; obtain ⟨z,rfl,h⟩:=q
  exact (zz6 xl L z k).trans h
 ·cases h
def zdK:CC:=(.seq (.reg [Qp 12 .lss (tq 11) (tq 10)]) (.seq (.cond (tq 12) .skip (.seq (.mask (bl 32 24) (bl 16777151 24)) (.exit 0))) (.seq (.block 1 (.seq (.reg [Qh 13 (tq 11),Qh 6 (tq 13)]) (.reg [Qh 14 (tq 5),Qh 15 (tq 6),Qh 16 (tq 0),Qh 17 (tq 6),Qp 18 .mul (Qf 8) (tq 17),Qp 19 .shr (tq 16) (tq 18),Qu 20 .u8 (tq 19),Qo 21 1 (tq 14) (tq 15),Qm 1 (tq 21) (tq 20)]))) (.reg [Qp 22 .add (tq 11) (Qf 1),Qh 11 (tq 22)]))))
def zk6:CC:=(.seq (.reg [Qi 23 (tq 5),Qi 4 (tq 23)]) .ret)
def zdM:CF:=⟨24,[.tmp 4],(.seq (.reg [Qi 4 (.const (.gs 1 []))]) (.seq (.reg [Qh 7 (tq 1),⟨(some 8),true,none,.makeSlice 1 1 [(.sc (.int .u8 0))] (tq 7) (tq 7)⟩,Qi 5 (tq 8)]) (.seq (.seq (.reg [Qh 9 (tq 5),Qr 10 (tq 9),Qh 11 (Qf 0)]) (.block 0 (.loop (bl 3105 24) (bl 16777151 24) zdK))) zk6)))⟩
def zp6:Hint:=⟨[(0,0),(1,2),(7,0),(7,1)],[(1,1)],[none,some ((bl 3105 24),(bl 16777151 24)),none,some ((bl 32 24),(bl 16777151 24)),none,none],[],[],false,false,[]⟩
def zbL:Nat→Sh:=xW []
def zbO(L:Nat):CBC:=noC
def zfX:St→St:=zaH 0 (bl 3105 24) (bl 16777151 24)
def zet(D:Int)(z:Nat)(A C:Int)(E:List V):St:=⟨((Qd D)::(jn 4 ((V.own 8 0 z 1)::(jn 4 ((Qe A)::((Qe C)::(jn 12 []))))))),(gn 8 ((.live true E)::(gn 15 [])))⟩
def zkz(z:Nat)(A:List V):St:=⟨(jn 5 ((V.own 8 0 z 1)::(jn 18 []))),(gn 8 ((.live true A)::(gn 15 [])))⟩
def zs8{β:Type}(L:Nat)(C z:Int)(A:Int→Nat→Int→Int→List V→Option β):Option β:=chk (0≤z∧z≤z∧(XH z)*1≤xq∧z≤xq) (A C (XH z) (((XH z):Nat):Int) (0:Int) (XK (We (XH z) [(Qa (0:Int))])))
theorem zwU{β:Type}(L:Nat)(z A:Int)(k:KK β):zp zbL (zbO L) L zdM [(Qd z),(Qe A)] [] k=zs8 L z A (fun z C D E F=>xz (yi zbL (zbO L) 0 L zdK) zfX L (zet z C D E F) (zz 0 (xK (yi zbL (zbO L) 0 L zk6) (yR 0 (CF.res zdM) k)))):=by kernel_rfl
def zoc{β:Type}(L:Nat)(G:Int)(C:Nat)(D z:Int)(E:List V)(A:Int→Nat→Int→Int→List V→Option β)(F:Nat→List V→Option β):Option β:=ifb (decide (z<D)) (lt (QF .i64 (((8:Int):Int)*z)) fun I=>chk (0≤I) (lt (zov .u64 G I) fun J=>lt (QF .u8 J) fun M=>chk (0≤z∧z<((C:Nat):Int)) (chk (1=1∧(0+((XH z)*1))+1≤(XG E)) (lt (yh E (0+((XH z)*1)) [(Qa M)]) fun r3=>lt (QF .i64 ((z:Int)+(1:Int))) fun N=>A G C D N r3)))) (F C E)
theorem zsF{β:Type}(L:Nat)(E:Int)(z:Nat)(A C:Int)(D:List V)(X:St→Option β)(K:KT β):yi zbL (zbO L) 0 L zdK (zet E z A C D) (zbo zfX X K)=zoc L E z A C D (fun E z A C D=>X (zet E z A C D)) (fun z D=>K (.exit 0) (zkz z D)):=by kernel_rfl
def zmr{β:Type}(L:Nat)(A:Nat)(C:List V)(z:List (List V)→Option β):Option β:=chk (A≠0∨(XG C)=0) (z (xh 1 A C))
theorem zqQ{β:Type}(L:Nat)(z:Nat)(A:List V)(k:KK β):(zz 0 (xK (yi zbL (zbO L) 0 L zk6) (yR 0 (CF.res zdM) k))) (.exit 0) (zkz z A)=zmr L z A (fun C=>k (V.fr 1 C) []):=by kernel_rfl
def zjg{β:Type}(L:Nat)(z:Nat→List V→Option β):Nat→Int→Nat→Int→Int→List V→Option β
 | 0,_,_,_,_,_=>none
 | n+1,E,A,C,D,F=>zoc L E A C D F (fun E A C D F=>zjg L z n E A C D F) z
theorem zlI{β:Type}(L:Nat)(K:KT β):∀ (n:Nat) (E:Int) (z:Nat) (A C:Int) (D:List V),xz (yi zbL (zbO L) 0 L zdK) zfX n (zet E z A C D) K=zjg L (fun z D=>K (.exit 0) (zkz z D)) n E z A C D:=by
 intro n
 induction n with
 | zero=>intros; rfl
 | succ n ih=>
  intro E z A C D
  refine (zsF L E z A C D (fun σ=>xz (yi zbL (zbO L) 0 L zdK) zfX n σ K) K).trans ?_
  simp only [ih]
  rfl
def zoL{β:Type}(L:Nat)(C G:Int)(A:List (List V)→Option β):Option β:=zs8 L C G (fun C z E F D=>zjg L (fun z D=>zmr L z D A) L C z E F D)
theorem zw9{β:Type}(L:Nat)(z A:Int)(k:KK β):zp zbL (zbO L) L zdM [(Qd z),(Qe A)] [] k=zoL L z A (fun z=>k (V.fr 1 z) []):=by
 refine (zwU L z A k).trans ?_
 unfold zoL
 first
  | (simp only [zlI,zqQ]; done)
  | (simp only [zlI]; rfl)
abbrev zej:=∀ (β:Type),Nat→Int→Int→(List (List V)→Option β)→Option β
def xD(β:Type)(L:Nat)(A C:Int)(z:List (List V)→Option β):Option β:=zoL L A C z
def zhI(xD:zej)(L:Nat)(β:Type)(args:List V)(bor:Bor)(k:KK β):Option β:=match args,bor with
 | [a0,a1],[]=>aI .u64 a0 fun z=>aI .i64 a1 fun A=>xD β L z A (fun z=>k (V.fr 1 z) [])
 | _,_=>none
theorem zxg(L:Nat)(β:Type)(args:List V)(bor:Bor)(k:KK β)(r:β)(h:zhI xD L β args bor k=some r):zp zbL (zbO L) L zdM args bor k=some r:=by
 unfold zhI at h
 split at h
 ·have q:=yB h; clear h; obtain ⟨z,rfl,h⟩:=q
  have q:=yB h; clear h; obtain ⟨A,rfl,h⟩:=q
  exact (zw9 L z A k).trans h
 ·cases h
def zjz:CF:=⟨17,[.tmp 4],(.seq (.reg [Qi 4 (.const (.gs 1 []))]) (.seq (.reg [Qh 6 (tq 0),Qr 7 (tq 6),Qh 8 (tq 1),Qr 9 (tq 8),Qp 10 .add (tq 7) (tq 9),oo 11 (.makeSlice 1 1 [(.sc (.int .u8 0))] (Qf 0) (tq 10)),Qi 5 (tq 11)]) (.seq (.reg [Qi 12 (tq 5),Qh 13 (tq 0),oo 14 (.append 1 1 (tq 12) (tq 13)),Qh 15 (tq 1),oo 16 (.append 1 1 (tq 14) (tq 15)),Qi 4 (tq 16)]) .ret)))⟩
def zqc:Hint:=⟨[(0,0),(1,6),(2,0),(2,5)],[],[none],[],[],false,false,[]⟩
def zn2:Nat→Sh:=xW []
def znT(L:Nat):CBC:=noC
def zoQ{β:Type}(L:Nat)(z A:List (List V))(C:List (List V)→Option β):Option β:=lt (QF .i64 ((((XG z:Nat):Int):Int)+((XG A:Nat):Int))) fun D=>chk (0≤(0:Int)∧(0:Int)≤D∧(XH D)*1≤xq∧D≤xq) (chk ((XG (We 0 [(Qa (0:Int))])+XG z)*1≤xq∧XG (We 0 [(Qa (0:Int))])+XG z≤xq) (lt ((We 0 [(Qa (0:Int))])++z) fun E=>chk ((XG E+XG A)*1≤xq∧XG E+XG A≤xq) (lt (E++A) fun F=>C F)))
theorem zwQ{β:Type}(L:Nat)(z A:List (List V))(k:KK β):zp zn2 (znT L) L zjz [(V.sl 1 z),(V.sl 1 A)] [] k=zoQ L z A (fun z=>k (V.gs 1 z) []):=by kernel_rfl
abbrev zeb:=∀ (β:Type),Nat→List (List V)→List (List V)→(List (List V)→Option β)→Option β
def xE(β:Type)(L:Nat)(A C:List (List V))(z:List (List V)→Option β):Option β:=zoQ L A C z
def zhA(xE:zeb)(L:Nat)(β:Type)(args:List V)(bor:Bor)(k:KK β):Option β:=match args,bor with
 | [a0,a1],[]=>aL 1 a0 fun z=>aL 1 a1 fun A=>xE β L z A (fun z=>k (V.gs 1 z) [])
 | _,_=>none
theorem zw8(L:Nat)(β:Type)(args:List V)(bor:Bor)(k:KK β)(r:β)(h:zhA xE L β args bor k=some r):zp zn2 (znT L) L zjz args bor k=some r:=by
 unfold zhA at h
 split at h
 ·have q:=zaT h; clear h; obtain ⟨z,rfl,h⟩:=q
  have q:=zaT h; clear h; obtain ⟨A,rfl,h⟩:=q
  exact (zwQ L z A k).trans h
 ·cases h
def zgF:CF:=⟨10,[.tmp 4],(.seq (.reg [Qi 4 (.const (.gs 1 []))]) (.seq (.reg [Qh 5 (tq 0),Qh 6 (tq 1),Qu 7 .u64 (tq 6),Qs 8 194 [(Qw 7),((Qf 4),0)],Qs 9 193 [(Qw 5),(Qw 8)],Qi 4 (tq 9)]) .ret))⟩
def znx:Hint:=⟨[(0,0),(1,5)],[],[none],[],[],false,false,[]⟩
def zkn:Nat→Sh:=xW []
def zkf(xD:zej)(xE:zeb)(L:Nat):CBC:=(yD 193 (zhA xE L) (yD 194 (zhI xD L) noC))
def zlq{β:Type}(xD:zej)(xE:zeb)(L:Nat)(A:List (List V))(C:Int)(z:List (List V)→Option β):Option β:=lt (QF .u64 C) fun D=>xD β L D (4:Int) (fun E=>xE β L A E (fun F=>z F))
theorem zuw{β:Type}(xD:zej)(xE:zeb)(L:Nat)(z:List (List V))(A:Int)(k:KK β):zp zkn (zkf xD xE L) L zgF [(V.sl 1 z),(Qc A)] [] k=zlq xD xE L z A (fun z=>k (V.gs 1 z) []):=by kernel_rfl
abbrev zcU:=∀ (β:Type),Nat→List (List V)→Int→(List (List V)→Option β)→Option β
def xr(β:Type)(L:Nat)(A:List (List V))(C:Int)(z:List (List V)→Option β):Option β:=zlq xD xE L A C z
def ze9(xr:zcU)(L:Nat)(β:Type)(args:List V)(bor:Bor)(k:KK β):Option β:=match args,bor with
 | [a0,a1],[]=>aL 1 a0 fun z=>aI .u32 a1 fun A=>xr β L z A (fun z=>k (V.gs 1 z) [])
 | _,_=>none
theorem zub(L:Nat)(β:Type)(args:List V)(bor:Bor)(k:KK β)(r:β)(h:ze9 xr L β args bor k=some r):zp zkn (zkf xD xE L) L zgF args bor k=some r:=by
 unfold ze9 at h
 split at h
 ·have q:=zaT h; clear h; obtain ⟨z,rfl,h⟩:=q
  have q:=yB h; clear h; obtain ⟨A,rfl,h⟩:=q
  exact (zuw xD xE L z A k).trans h
 ·cases h
def zgz:CF:=⟨10,[.tmp 4],(.seq (.reg [Qi 4 (.const (.gs 1 []))]) (.seq (.reg [Qh 5 (tq 0),Qh 6 (tq 1),Qu 7 .u64 (tq 6),Qs 8 194 [(Qw 7),((Qf 2),0)],Qs 9 193 [(Qw 5),(Qw 8)],Qi 4 (tq 9)]) .ret))⟩
def znH:Hint:=⟨[(0,0),(1,5)],[],[none],[],[],false,false,[]⟩
def zkl:Nat→Sh:=xW []
def zkm(xD:zej)(xE:zeb)(L:Nat):CBC:=(yD 193 (zhA xE L) (yD 194 (zhI xD L) noC))
def zlb{β:Type}(xD:zej)(xE:zeb)(L:Nat)(A:List (List V))(C:Int)(z:List (List V)→Option β):Option β:=lt (QF .u64 C) fun D=>xD β L D (2:Int) (fun E=>xE β L A E (fun F=>z F))
theorem zuk{β:Type}(xD:zej)(xE:zeb)(L:Nat)(z:List (List V))(A:Int)(k:KK β):zp zkl (zkm xD xE L) L zgz [(V.sl 1 z),(Qb A)] [] k=zlb xD xE L z A (fun z=>k (V.gs 1 z) []):=by kernel_rfl
abbrev zhi:=∀ (β:Type),Nat→List (List V)→Int→(List (List V)→Option β)→Option β
def xQ(β:Type)(L:Nat)(A:List (List V))(C:Int)(z:List (List V)→Option β):Option β:=zlb xD xE L A C z
def zhn(xQ:zhi)(L:Nat)(β:Type)(args:List V)(bor:Bor)(k:KK β):Option β:=match args,bor with
 | [a0,a1],[]=>aL 1 a0 fun z=>aI .u16 a1 fun A=>xQ β L z A (fun z=>k (V.gs 1 z) [])
 | _,_=>none
theorem ztJ(L:Nat)(β:Type)(args:List V)(bor:Bor)(k:KK β)(r:β)(h:zhn xQ L β args bor k=some r):zp zkl (zkm xD xE L) L zgz args bor k=some r:=by
 unfold zhn at h
 split at h
 ·have q:=zaT h; clear h; obtain ⟨z,rfl,h⟩:=q
  have q:=yB h; clear h; obtain ⟨A,rfl,h⟩:=q
  exact (zuk xD xE L z A k).trans h
 ·cases h
def zkY:CF:=⟨64,[.cell 2 true 4],(.seq (.reg [Qv 1 (tq 0),oo 2 (.alloc true [(.sc (.int .u64 0)),(.sc (.int .u64 0)),(.sc (.int .u64 0)),(.sc (.int .u64 0))])]) (.seq (.reg [Qn 3 4 1 (tq 1) (Qf 0),Qj 4 1 (tq 3),Qn 5 4 1 (tq 1) (Qf 1),Qj 6 1 (tq 5),Qp 7 .add (tq 4) (tq 6),Qn 8 4 1 (tq 1) (Qf 0),Qm 1 (tq 8) (tq 7)]) (.seq (.dreg [] [(Qn 9 4 1 (tq 1) (Qf 1),q0),(Qj 10 1 (tq 9),q1),(Qs 11 118 [(Qw 10),((Qf 13),0)],q1),(Qn 12 4 1 (tq 1) (Qf 0),q0),(Qj 13 1 (tq 12),q1),(Qp 14 .xor (tq 11) (tq 13),q0),(Qn 15 4 1 (tq 1) (Qf 1),q0),(Qm 1 (tq 15) (tq 14),q0)]) (.seq (.reg [Qn 16 4 1 (tq 1) (Qf 0),Qj 17 1 (tq 16),Qs 18 118 [(Qw 17),((Qf 32),0)],Qn 19 4 1 (tq 1) (Qf 0),Qm 1 (tq 19) (tq 18)]) (.seq (.reg [Qn 20 4 1 (tq 1) (Qf 2),Qj 21 1 (tq 20),Qn 22 4 1 (tq 1) (Qf 3),Qj 23 1 (tq 22),Qp 24 .add (tq 21) (tq 23),Qn 25 4 1 (tq 1) (Qf 2),Qm 1 (tq 25) (tq 24)]) (.seq (.dreg [] [(Qn 26 4 1 (tq 1) (Qf 3),q0),(Qj 27 1 (tq 26),q1),(Qs 28 118 [(Qw 27),((Qf 16),0)],q1),(Qn 29 4 1 (tq 1) (Qf 2),q0),(Qj 30 1 (tq 29),q1),(Qp 31 .xor (tq 28) (tq 30),q0),(Qn 32 4 1 (tq 1) (Qf 3),q0),(Qm 1 (tq 32) (tq 31),q0)]) (.seq (.reg [Qn 33 4 1 (tq 1) (Qf 0),Qj 34 1 (tq 33),Qn 35 4 1 (tq 1) (Qf 3),Qj 36 1 (tq 35),Qp 37 .add (tq 34) (tq 36),Qn 38 4 1 (tq 1) (Qf 0),Qm 1 (tq 38) (tq 37)]) (.seq (.dreg [] [(Qn 39 4 1 (tq 1) (Qf 3),q0),(Qj 40 1 (tq 39),q1),(Qs 41 118 [(Qw 40),((Qf 21),0)],q1),(Qn 42 4 1 (tq 1) (Qf 0),q0),(Qj 43 1 (tq 42),q1),(Qp 44 .xor (tq 41) (tq 43),q0),(Qn 45 4 1 (tq 1) (Qf 3),q0),(Qm 1 (tq 45) (tq 44),q0)]) (.seq (.reg [Qn 46 4 1 (tq 1) (Qf 2),Qj 47 1 (tq 46),Qn 48 4 1 (tq 1) (Qf 1),Qj 49 1 (tq 48),Qp 50 .add (tq 47) (tq 49),Qn 51 4 1 (tq 1) (Qf 2),Qm 1 (tq 51) (tq 50)]) (.seq (.dreg [] [(Qn 52 4 1 (tq 1) (Qf 1),q0),(Qj 53 1 (tq 52),q1),(Qs 54 118 [(Qw 53),((Qf 17),0)],q1),(Qn 55 4 1 (tq 1) (Qf 2),q0),(Qj 56 1 (tq 55),q1),(Qp 57 .xor (tq 54) (tq 56),q0),(Qn 58 4 1 (tq 1) (Qf 1),q0),(Qm 1 (tq 58) (tq 57),q0)]) (.seq (.reg [Qn 59 4 1 (tq 1) (Qf 2),Qj 60 1 (tq 59),Qs 61 118 [(Qw 60),((Qf 32),0)],Qn 62 4 1 (tq 1) (Qf 2),Qm 1 (tq 62) (tq 61)]) (.seq (.reg [Qk 63 4 (tq 1),Qm 4 (tq 2) (tq 63)]) .ret))))))))))))⟩
def zrd:Hint:=⟨[],[],[none],[],[],false,false,[]⟩
def zow:Nat→Sh:=xW [(4,(.int .u64)),(6,(.int .u64)),(10,(.int .u64)),(13,(.int .u64)),(17,(.int .u64)),(21,(.int .u64)),(23,(.int .u64)),(27,(.int .u64)),(30,(.int .u64)),(34,(.int .u64)),(36,(.int .u64)),(40,(.int .u64)),(43,(.int .u64)),(47,(.int .u64)),(49,(.int .u64)),(53,(.int .u64)),(56,(.int .u64)),(60,(.int .u64))]
def zoV(xc:xH)(L:Nat):CBC:=(yD 118 (zcp xc L) noC)
def zpT{β:Type}(xc:xH)(L:Nat)(J:List V)(M:List V→Option β):Option β:=cI .u64 J 0 fun v0=>cI .u64 J 1 fun v1=>lt (QF .u64 ((v0:Int)+v1)) fun x2=>chk (1=1∧0+1≤(XG J)) (lt (yh J 0 [(Qd x2)]) fun r3=>cI .u64 r3 1 fun v4=>xc β L v4 (13:Int) (fun v5=>cI .u64 r3 0 fun v6=>lt (zaR .u64 v5 v6) fun x7=>chk (1=1∧1+1≤(XG r3)) (lt (yh r3 1 [(Qd x7)]) fun r8=>cI .u64 r8 0 fun v9=>xc β L v9 (32:Int) (fun O=>chk (1=1∧0+1≤(XG r8)) (lt (yh r8 0 [(Qd O)]) fun z=>cI .u64 z 2 fun P=>cI .u64 z 3 fun Q=>lt (QF .u64 ((P:Int)+Q)) fun R=>chk (1=1∧2+1≤(XG z)) (lt (yh z 2 [(Qd R)]) fun A=>cI .u64 A 3 fun S=>xc β L S (16:Int) (fun U=>cI .u64 A 2 fun W=>lt (zaR .u64 U W) fun X=>chk (1=1∧3+1≤(XG A)) (lt (yh A 3 [(Qd X)]) fun C=>cI .u64 C 0 fun Y=>cI .u64 C 3 fun Z=>lt (QF .u64 ((Y:Int)+Z)) fun aa=>chk (1=1∧0+1≤(XG C)) (lt (yh C 0 [(Qd aa)]) fun D=>cI .u64 D 3 fun ab=>xc β L ab (21:Int) (fun ac=>cI .u64 D 0 fun ad=>lt (zaR .u64 ac ad) fun ae=>chk (1=1∧3+1≤(XG D)) (lt (yh D 3 [(Qd ae)]) fun E=>cI .u64 E 2 fun af=>cI .u64 E 1 fun ag=>lt (QF .u64 ((af:Int)+ag)) fun ah=>chk (1=1∧2+1≤(XG E)) (lt (yh E 2 [(Qd ah)]) fun F=>cI .u64 F 1 fun ai=>xc β L ai (17:Int) (fun aj=>cI .u64 F 2 fun ak=>lt (zaR .u64 aj ak) fun al=>chk (1=1∧1+1≤(XG F)) (lt (yh F 1 [(Qd al)]) fun G=>cI .u64 G 2 fun am=>xc β L am (32:Int) (fun an=>chk (1=1∧2+1≤(XG G)) (lt (yh G 2 [(Qd an)]) fun I=>chk (0+4≤(XG I)) (chk ((XG (XI 4 I))=4∧0+4≤4) (lt (yh [(Qd (0:Int)),(Qd (0:Int)),(Qd (0:Int)),(Qd (0:Int))] 0 (XI 4 I)) fun N=>chk (0=0∧(XG N)=4∧4≠0) (M N)))))))))))))))))))
theorem zxT{β:Type}(xc:xH)(L:Nat)(z:List V)(k:KK β):zp zow (zoV xc L) L zkY [(V.agg z)] [] k=zpT xc L z (fun z=>k (V.agg z) []):=by kernel_rfl
abbrev zaz:=∀ (β:Type),Nat→List V→(List V→Option β)→Option β
def yk(β:Type)(L:Nat)(A:List V)(z:List V→Option β):Option β:=zpT xc L A z
def ziQ(yk:zaz)(L:Nat)(β:Type)(args:List V)(bor:Bor)(k:KK β):Option β:=match args,bor with
 | [a0],[]=>aG a0 fun z=>yk β L z (fun z=>k (V.agg z) [])
 | _,_=>none
theorem zx9(L:Nat)(β:Type)(args:List V)(bor:Bor)(k:KK β)(r:β)(h:ziQ yk L β args bor k=some r):zp zow (zoV xc L) L zkY args bor k=some r:=by
 unfold ziQ at h
 split at h
 ·have q:=yW h; clear h; obtain ⟨z,rfl,h⟩:=q
  exact (zxT xc L z k).trans h
 ·cases h
def zjC:CF:=⟨19,[.cell 4 true 4],(.seq (.reg [Qv 2 (tq 0),oo 4 (.alloc true [(.sc (.int .u64 0)),(.sc (.int .u64 0)),(.sc (.int .u64 0)),(.sc (.int .u64 0))])]) (.seq (.reg [Qn 5 4 1 (tq 2) (Qf 3),Qj 6 1 (tq 5),Qh 7 (tq 1),Qp 8 .xor (tq 6) (tq 7),Qn 9 4 1 (tq 2) (Qf 3),Qm 1 (tq 9) (tq 8)]) (.seq (.reg [Qk 10 4 (tq 2),Qs 11 116 [(Qw 10)],Qs 12 116 [(Qw 11)],Qm 4 (tq 2) (tq 12)]) (.seq (.reg [Qn 13 4 1 (tq 2) (Qf 0),Qj 14 1 (tq 13),Qh 15 (tq 1),Qp 16 .xor (tq 14) (tq 15),Qn 17 4 1 (tq 2) (Qf 0),Qm 1 (tq 17) (tq 16)]) (.seq (.reg [Qk 18 4 (tq 2),Qm 4 (tq 4) (tq 18)]) .ret)))))⟩
def zp8:Hint:=⟨[],[],[none],[],[],false,false,[]⟩
def znD:Nat→Sh:=xW [(6,(.int .u64)),(14,(.int .u64))]
def zm1(yk:zaz)(L:Nat):CBC:=(yD 116 (ziQ yk L) noC)
def zoE{β:Type}(yk:zaz)(L:Nat)(A:List V)(C:Int)(z:List V→Option β):Option β:=cI .u64 A 3 fun E=>lt (zaR .u64 E C) fun F=>chk (1=1∧3+1≤(XG A)) (lt (yh A 3 [(Qd F)]) fun r2=>chk (0+4≤(XG r2)) (yk β L (XI 4 r2) (fun G=>yk β L G (fun D=>chk ((XG D)=4∧0+4≤(XG r2)) (lt (yh r2 0 D) fun r5=>cI .u64 r5 0 fun I=>lt (zaR .u64 I C) fun J=>chk (1=1∧0+1≤(XG r5)) (lt (yh r5 0 [(Qd J)]) fun r8=>chk (0+4≤(XG r8)) (chk ((XG (XI 4 r8))=4∧0+4≤4) (lt (yh [(Qd (0:Int)),(Qd (0:Int)),(Qd (0:Int)),(Qd (0:Int))] 0 (XI 4 r8)) fun r9=>chk (0=0∧(XG r9)=4∧4≠0) (z r9)))))))))
theorem zwX{β:Type}(yk:zaz)(L:Nat)(z:List V)(A:Int)(k:KK β):zp znD (zm1 yk L) L zjC [(V.agg z),(Qd A)] [] k=zoE yk L z A (fun z=>k (V.agg z) []):=by kernel_rfl
abbrev za4:=∀ (β:Type),Nat→List V→Int→(List V→Option β)→Option β
def yo(β:Type)(L:Nat)(A:List V)(C:Int)(z:List V→Option β):Option β:=zoE yk L A C z
def zkM(yo:za4)(L:Nat)(β:Type)(args:List V)(bor:Bor)(k:KK β):Option β:=match args,bor with
 | [a0,a1],[]=>aG a0 fun z=>aI .u64 a1 fun A=>yo β L z A (fun z=>k (V.agg z) [])
 | _,_=>none
theorem zw7(L:Nat)(β:Type)(args:List V)(bor:Bor)(k:KK β)(r:β)(h:zkM yo L β args bor k=some r):zp znD (zm1 yk L) L zjC args bor k=some r:=by
 unfold zkM at h
 split at h
 ·have q:=yW h; clear h; obtain ⟨z,rfl,h⟩:=q
  have q:=yB h; clear h; obtain ⟨A,rfl,h⟩:=q
  exact (zwX yk L z A k).trans h
 ·cases h
def zfg:CC:=(.seq (.seq (.reg [Qh 22 (tq 1),Qr 23 (tq 22),Qp 24 .geq (tq 23) (Qf 8)]) (.cond (tq 24) .skip (.seq (.mask (bl 98 61) (bl 2305843008399998971 61)) (.exit 0)))) (.block 1 (.dreg [] [(Qk 25 4 (tq 5),ql 5 [] []),(Qh 26 (tq 1),q0),(oo 27 (.sliceS 1 (tq 26) none (some (Qf 8)) none),q0),(Qs 28 115 [(Qw 27)],qc [5] []),(Qs 29 114 [(Qw 25),(Qw 28)],q0),(Qh 30 (tq 1),q0),(oo 31 (.sliceS 1 (tq 30) (some (Qf 8)) none none),q0),(Qm 4 (tq 5) (tq 29),q0),(Qi 1 (tq 31),q0)])))
def znl:CC:=(.seq (.dreg [] [(Qk 32 4 (tq 5),ql 5 [] []),(Qh 33 (tq 1),q0),(Qs 34 115 [(Qw 33)],qc [5] []),(Qh 35 (tq 6),q0),(Qp 36 .rem (tq 35) (Qf 256),q0),(Qu 37 .u64 (tq 36),q0),(oo 38 (.bin .shl (tq 37) (.const (.sc (.int .u64 56)))),q0),(Qp 39 .or (tq 34) (tq 38),q0),(Qs 40 114 [(Qw 32),(Qw 39)],q0),(Qm 4 (tq 5) (tq 40),q0)]) (.seq (.reg [Qn 41 4 1 (tq 5) (Qf 2),Qj 42 1 (tq 41),oo 43 (.bin .xor (tq 42) (.const (.sc (.int .u64 255)))),Qn 44 4 1 (tq 5) (Qf 2),Qm 1 (tq 44) (tq 43)]) (.seq (.reg [Qk 45 4 (tq 5),Qs 46 116 [(Qw 45)],Qs 47 116 [(Qw 46)],Qs 48 116 [(Qw 47)],Qs 49 116 [(Qw 48)],Qm 4 (tq 5) (tq 49)]) (.seq (.reg [Qn 50 4 1 (tq 5) (Qf 0),Qj 51 1 (tq 50),Qn 52 4 1 (tq 5) (Qf 1),Qj 53 1 (tq 52),Qp 54 .xor (tq 51) (tq 53),Qn 55 4 1 (tq 5) (Qf 2),Qj 56 1 (tq 55),Qp 57 .xor (tq 54) (tq 56),Qn 58 4 1 (tq 5) (Qf 3),Qj 59 1 (tq 58),Qp 60 .xor (tq 57) (tq 59),Qh 4 (tq 60)]) .ret))))
def zfT:CF:=⟨61,[.tmp 4],(.seq (.reg [Qv 2 (tq 0),oo 4 (.move (.const (.sc (.int .u64 0))) false)]) (.seq (.reg [Qn 7 2 1 (tq 2) (Qf 0),Qj 8 1 (tq 7),oo 9 (.bin .xor (tq 8) (.const (.sc (.int .u64 8317987319222330741)))),Qn 10 2 1 (tq 2) (Qf 1),Qj 11 1 (tq 10),oo 12 (.bin .xor (tq 11) (.const (.sc (.int .u64 7237128888997146477)))),Qn 13 2 1 (tq 2) (Qf 0),Qj 14 1 (tq 13),oo 15 (.bin .xor (tq 14) (.const (.sc (.int .u64 7816392313619706465)))),Qn 16 2 1 (tq 2) (Qf 1),Qj 17 1 (tq 16),oo 18 (.bin .xor (tq 17) (.const (.sc (.int .u64 8387220255154660723)))),oo 19 (.build [(.sc (.int .u64 0)),(.sc (.int .u64 0)),(.sc (.int .u64 0)),(.sc (.int .u64 0))] [(0,1,(tq 9)),(1,1,(tq 12)),(2,1,(tq 15)),(3,1,(tq 18))]),oo 5 (.alloc true [(.sc (.int .u64 0)),(.sc (.int .u64 0)),(.sc (.int .u64 0)),(.sc (.int .u64 0))]),Qm 4 (tq 5) (tq 19)]) (.seq (.reg [Qh 20 (tq 1),Qr 21 (tq 20),Qh 6 (tq 21)]) (.seq (.block 0 (.loop (bl 98 61) (bl 2305843008399998971 61) zfg)) znl))))⟩
def zti:Hint:=⟨[(4,8)],[],[none,some ((bl 98 61),(bl 2305843008399998971 61)),none,some ((bl 98 61),(bl 2305843008399998971 61)),none,none],[],[],false,false,[]⟩
def zc4:Nat→Sh:=xW [(8,(.int .u64)),(11,(.int .u64)),(14,(.int .u64)),(17,(.int .u64)),(42,(.int .u64)),(51,(.int .u64)),(53,(.int .u64)),(56,(.int .u64)),(59,(.int .u64))]
def zc9(xl:zaW)(yo:za4)(yk:zaz)(L:Nat):CBC:=(yD 116 (ziQ yk L) (yD 114 (zkM yo L) (yD 115 (zkd xl L) noC)))
def ziy:St→St:=zaH 0 (bl 98 61) (bl 2305843008399998971 61)
def zf6(z:List (List V))(A:Int)(C:List V):St:=⟨(jn 1 ((V.sl 1 z)::(jn 3 ((V.ptr 5 0)::((Qe A)::(jn 54 [])))))),(gn 5 ((.live true C)::(gn 55 [])))⟩
def znj(z:List (List V))(A:Int)(C:List V):St:=⟨(jn 1 ((V.sl 1 z)::(jn 3 ((V.ptr 5 0)::((Qe A)::(jn 54 [])))))),(gn 5 ((.live true C)::(gn 55 [])))⟩
def zsz{β:Type}(xl:zaW)(yo:za4)(yk:zaz)(L:Nat)(A:List V)(C:List (List V))(z:List (List V)→Int→List V→Option β):Option β:=cI .u64 A 0 fun D=>lt (zaR .u64 D (8317987319222330741:Int)) fun E=>cI .u64 A 1 fun F=>lt (zaR .u64 F (7237128888997146477:Int)) fun G=>cI .u64 A 0 fun I=>lt (zaR .u64 I (7816392313619706465:Int)) fun J=>cI .u64 A 1 fun M=>lt (zaR .u64 M (8387220255154660723:Int)) fun N=>lt [(Qd E),(Qd G),(Qd J),(Qd N)] fun r8=>z C ((XG C:Nat):Int) r8
theorem zzM{β:Type}(xl:zaW)(yo:za4)(yk:zaz)(L:Nat)(A:List V)(z:List (List V))(k:KK β):zp zc4 (zc9 xl yo yk L) L zfT [(V.agg A),(V.sl 1 z)] [] k=zsz xl yo yk L A z (fun z C D=>xz (yi zc4 (zc9 xl yo yk L) 0 L zfg) ziy L (zf6 z C D) (zz 0 (xK (yi zc4 (zc9 xl yo yk L) 0 L znl) (yR 0 (CF.res zfT) k)))):=by kernel_rfl
def zmi{β:Type}(xl:zaW)(yo:za4)(yk:zaz)(L:Nat)(z:List (List V))(F:Int)(C:List V)(A:List (List V)→Int→List V→Option β)(E:List (List V)→Int→List V→Option β):Option β:=ifb (decide (((XG z:Nat):Int)≥(8:Int))) (chk (0+4≤(XG C)) (chk (0≤(8:Int)∧(8:Int)≤(((XG z):Nat):Int)) (xl β L (XI 8 (XJ 0 z)) (fun I=>yo β L (XI 4 C) I (fun D=>chk (0≤(8:Int)∧(8:Int)≤(((XG z):Nat):Int)) (chk ((XG D)=4∧0+4≤(XG C)) (lt (yh C 0 D) fun G=>A (XI ((XG z)-8) (XJ 8 z)) F G))))))) (E z F C)
theorem zvf{β:Type}(xl:zaW)(yo:za4)(yk:zaz)(L:Nat)(z:List (List V))(A:Int)(C:List V)(X:St→Option β)(K:KT β):yi zc4 (zc9 xl yo yk L) 0 L zfg (zf6 z A C) (zbo ziy X K)=zmi xl yo yk L z A C (fun z A C=>X (zf6 z A C)) (fun z A C=>K (.exit 0) (znj z A C)):=by kernel_rfl
def zgx{β:Type}(xl:zaW)(yo:za4)(yk:zaz)(L:Nat)(p1:List (List V))(p6:Int)(D:List V)(E:Int→Option β):Option β:=chk (0+4≤(XG D)) (xl β L p1 (fun I=>lt (XM p6 (256:Int)) fun J=>lt (QF .u64 J) fun M=>lt (zlp .u64 M (56:Int)) fun N=>lt (ior .u64 I N) fun O=>yo β L (XI 4 D) O (fun F=>chk ((XG F)=4∧0+4≤(XG D)) (lt (yh D 0 F) fun C=>cI .u64 C 2 fun P=>lt (zaR .u64 P (255:Int)) fun Q=>chk (1=1∧2+1≤(XG C)) (lt (yh C 2 [(Qd Q)]) fun z=>chk (0+4≤(XG z)) (yk β L (XI 4 z) (fun R=>yk β L R (fun S=>yk β L S (fun U=>yk β L U (fun G=>chk ((XG G)=4∧0+4≤(XG z)) (lt (yh z 0 G) fun A=>cI .u64 A 0 fun W=>cI .u64 A 1 fun X=>lt (zaR .u64 W X) fun Y=>cI .u64 A 2 fun Z=>lt (zaR .u64 Y Z) fun aa=>cI .u64 A 3 fun ab=>lt (zaR .u64 aa ab) fun ac=>E ac)))))))))))
theorem ztA{β:Type}(xl:zaW)(yo:za4)(yk:zaz)(L:Nat)(z:List (List V))(A:Int)(C:List V)(k:KK β):(zz 0 (xK (yi zc4 (zc9 xl yo yk L) 0 L znl) (yR 0 (CF.res zfT) k))) (.exit 0) (znj z A C)=zgx xl yo yk L z A C (fun D=>k (Qd D) []):=by kernel_rfl
def zfK{β:Type}(xl:zaW)(yo:za4)(yk:zaz)(L:Nat)(z:List (List V)→Int→List V→Option β):Nat→List (List V)→Int→List V→Option β
 | 0,_,_,_=>none
 | n+1,A,C,D=>zmi xl yo yk L A C D (fun A C D=>zfK xl yo yk L z n A C D) z
theorem zoi{β:Type}(xl:zaW)(yo:za4)(yk:zaz)(L:Nat)(K:KT β):∀ (n:Nat) (z:List (List V)) (A:Int) (C:List V),xz (yi zc4 (zc9 xl yo yk L) 0 L zfg) ziy n (zf6 z A C) K=zfK xl yo yk L (fun z A C=>K (.exit 0) (znj z A C)) n z A C:=by
 intro n
 induction n with
 | zero=>intros; rfl
 | succ n ih=>
  intro z A C
  refine (zvf xl yo yk L z A C (fun σ=>xz (yi zc4 (zc9 xl yo yk L) 0 L zfg) ziy n σ K) K).trans ?_
  simp only [ih]
  rfl
def zoW{β:Type}(xl:zaW)(yo:za4)(yk:zaz)(L:Nat)(E:List V)(z:List (List V))(A:Int→Option β):Option β:=zsz xl yo yk L E z (fun z C D=>zfK xl yo yk L (fun z C D=>zgx xl yo yk L z C D A) L z C D)
theorem zAb{β:Type}(xl:zaW)(yo:za4)(yk:zaz)(L:Nat)(z:List V)(A:List (List V))(k:KK β):zp zc4 (zc9 xl yo yk L) L zfT [(V.agg z),(V.sl 1 A)] [] k=zoW xl yo yk L z A (fun z=>k (Qd z) []):=by
 refine (zzM xl yo yk L z A k).trans ?_
 unfold zoW
 first
  | (simp only [zoi,ztA]; done)
  | (simp only [zoi]; rfl)
abbrev zg3:=∀ (β:Type),Nat→List V→List (List V)→(Int→Option β)→Option β
def zM(β:Type)(L:Nat)(A:List V)(C:List (List V))(z:Int→Option β):Option β:=zoW xl yo yk L A C z
def zlG(zM:zg3)(L:Nat)(β:Type)(args:List V)(bor:Bor)(k:KK β):Option β:=match args,bor with
 | [a0,a1],[]=>aG a0 fun z=>aL 1 a1 fun A=>zM β L z A (fun z=>k (Qd z) [])
 | _,_=>none
theorem zzI(L:Nat)(β:Type)(args:List V)(bor:Bor)(k:KK β)(r:β)(h:zlG zM L β args bor k=some r):zp zc4 (zc9 xl yo yk L) L zfT args bor k=some r:=by
 unfold zlG at h
 split at h
 ·have q:=yW h; clear h; obtain ⟨z,rfl,h⟩:=q
  have q:=zaT h; clear h; obtain ⟨A,rfl,h⟩:=q
  exact (zAb xl yo yk L z A k).trans h
 ·cases h
def zkL:CF:=⟨6,[.tmp 2],(.seq (.reg [Qv 1 (tq 0),oo 2 (.move (.const (.sc (.int .u32 0))) false)]) (.seq (.reg [Ql 3 0 (tq 1),Qj 4 1 (tq 3),oo 5 (.bin .shr (tq 4) (.const (.sc (.int .u64 16)))),Qh 2 (tq 5)]) .ret))⟩
def zri:Hint:=⟨[],[],[none],[],[],false,false,[]⟩
def zor:Nat→Sh:=xW [(4,(.int .u32))]
def zoD(L:Nat):CBC:=noC
def zpH{β:Type}(L:Nat)(A:List V)(z:Int→Option β):Option β:=cI .u32 A 0 fun C=>lt (zov .u32 C (16:Int)) fun D=>z D
theorem zyi{β:Type}(L:Nat)(z:List V)(k:KK β):zp zor (zoD L) L zkL [(V.agg z)] [] k=zpH L z (fun z=>k (Qc z) []):=by kernel_rfl
abbrev zcz:=∀ (β:Type),Nat→List V→(Int→Option β)→Option β
def xu(β:Type)(L:Nat)(A:List V)(z:Int→Option β):Option β:=zpH L A z
def zgq(xu:zcz)(L:Nat)(β:Type)(args:List V)(bor:Bor)(k:KK β):Option β:=match args,bor with
 | [a0],[]=>aG a0 fun z=>xu β L z (fun z=>k (Qc z) [])
 | _,_=>none
theorem zyh(L:Nat)(β:Type)(args:List V)(bor:Bor)(k:KK β)(r:β)(h:zgq xu L β args bor k=some r):zp zor (zoD L) L zkL args bor k=some r:=by
 unfold zgq at h
 split at h
 ·have q:=yW h; clear h; obtain ⟨z,rfl,h⟩:=q
  exact (zyi L z k).trans h
 ·cases h
def zfp:CF:=⟨30,[.tmp 4],(.seq (.reg [Qv 2 (tq 0),Qv 3 (tq 1),Qh 4 (Qf 0)]) (.seq (.reg [Qk 7 32 (tq 2),Qs 8 110 [(Qw 7)],oo 5 (.alloc true [(.sc (.int .u64 0)),(.sc (.int .u64 0))]),Qm 2 (tq 5) (tq 8)]) (.seq (.dreg [] [(Qk 9 2 (tq 5),ql 5 [3] [10]),(oo 10 (.buildSlice 1 1 [(.sc (.int .u8 0))] [(0,1,(.const (.sc (.int .u8 4))))]),qn [5,3] []),(Ql 11 0 (tq 3),q0),(Qj 12 1 (tq 11),ql 3 [5] [10]),(Qs 13 159 [(Qw 10),(Qw 12)],qc [5,3] []),(Ql 14 1 (tq 3),q0),(Qj 15 1 (tq 14),ql 3 [5] [10]),(Qs 16 304 [(Qw 13),(Qw 15)],qc [5] []),(Qs 17 106 [(Qw 9),(Qw 16)],q0),(oo 18 (.bin .rem (tq 17) (.const (.sc (.int .u64 4)))),q0),(Qh 6 (tq 18),q0)]) (.seq (.dreg [] [(Qk 19 2 (tq 5),ql 5 [3] [20]),(oo 20 (.buildSlice 1 1 [(.sc (.int .u8 0))] [(0,1,(.const (.sc (.int .u8 3))))]),qn [5,3] []),(Qk 21 3 (tq 3),ql 3 [5] [20]),(Qs 22 294 [(Qw 21)],qc [5] [20]),(Qs 23 159 [(Qw 20),(Qw 22)],qc [5] []),(Qh 24 (tq 6),q0),(Qu 25 .u32 (tq 24),q0),(Qs 26 159 [(Qw 23),(Qw 25)],qc [5] []),(Qs 27 106 [(Qw 19),(Qw 26)],q0),(oo 28 (.bin .rem (tq 27) (.const (.sc (.int .u64 64)))),q0),(Qu 29 .i64 (tq 28),q0),(Qh 4 (tq 29),q0)]) .ret))))⟩
def zlC:Hint:=⟨[],[],[none],[],[],false,false,[]⟩
def ziJ:Nat→Sh:=xW [(12,(.int .u32)),(15,(.int .u16))]
def ziK(zP:zgW)(xr:zcU)(xQ:zhi)(zM:zg3)(xu:zcz)(L:Nat):CBC:=(yD 294 (zgq xu L) (yD 106 (zlG zM L) (yD 304 (zhn xQ L) (yD 159 (ze9 xr L) (yD 110 (zlw zP L) noC)))))
def zi6{β:Type}(zP:zgW)(xr:zcU)(xQ:zhi)(zM:zg3)(xu:zcz)(L:Nat)(C z:List V)(A:Int→Option β):Option β:=chk (0+32≤(XG C)) (zP β L (XI 32 C) (fun D=>chk ((XG D)=2∧0+2≤2) (lt (yh [(Qd (0:Int)),(Qd (0:Int))] 0 D) fun r1=>chk (0+2≤(XG r1)) (cI .u32 z 0 fun M=>xr β L (xh 1 1 [(Qa (4:Int))]) M (fun N=>cI .u16 z 1 fun O=>xQ β L N O (fun P=>zM β L (XI 2 r1) P (fun Q=>lt (XM Q (4:Int)) fun R=>chk (0+2≤(XG r1)) (chk (0+3≤(XG z)) (xu β L (XI 3 z) (fun S=>xr β L (xh 1 1 [(Qa (3:Int))]) S (fun U=>lt (QF .u32 R) fun E=>xr β L U E (fun F=>zM β L (XI 2 r1) F (fun G=>lt (XM G (64:Int)) fun I=>lt (QF .i64 I) fun J=>A J)))))))))))))
theorem zsD{β:Type}(zP:zgW)(xr:zcU)(xQ:zhi)(zM:zg3)(xu:zcz)(L:Nat)(z A:List V)(k:KK β):zp ziJ (ziK zP xr xQ zM xu L) L zfp [(V.agg z),(V.agg A)] [] k=zi6 zP xr xQ zM xu L z A (fun z=>k (Qe z) []):=by kernel_rfl
abbrev yL:=∀ (β:Type),Nat→List V→List V→(Int→Option β)→Option β
def ye(β:Type)(L:Nat)(A C:List V)(z:Int→Option β):Option β:=zi6 zP xr xQ zM xu L A C z
def zd5(ye:yL)(L:Nat)(β:Type)(args:List V)(bor:Bor)(k:KK β):Option β:=match args,bor with
 | [a0,a1],[]=>aG a0 fun z=>aG a1 fun A=>ye β L z A (fun z=>k (Qe z) [])
 | _,_=>none
theorem zsM(L:Nat)(β:Type)(args:List V)(bor:Bor)(k:KK β)(r:β)(h:zd5 ye L β args bor k=some r):zp ziJ (ziK zP xr xQ zM xu L) L zfp args bor k=some r:=by
 unfold zd5 at h
 split at h
 ·have q:=yW h; clear h; obtain ⟨z,rfl,h⟩:=q
  have q:=yW h; clear h; obtain ⟨A,rfl,h⟩:=q
  exact (zsD zP xr xQ zM xu L z A k).trans h
 ·cases h
def zfk:CF:=⟨30,[.tmp 6],(.seq (.reg [Qv 3 (tq 0),Qv 4 (tq 1),Qh 6 (Qf 0)]) (.seq (.reg [Qk 9 32 (tq 3),Qs 10 110 [(Qw 9)],oo 7 (.alloc true [(.sc (.int .u64 0)),(.sc (.int .u64 0))]),Qm 2 (tq 7) (tq 10)]) (.seq (.dreg [] [(Qk 11 2 (tq 7),ql 7 [4] [12]),(oo 12 (.buildSlice 1 1 [(.sc (.int .u8 0))] [(0,1,(.const (.sc (.int .u8 2))))]),qn [7,4] []),(Qk 13 3 (tq 4),ql 4 [7] [12]),(Qs 14 294 [(Qw 13)],qc [7] [12]),(Qs 15 159 [(Qw 12),(Qw 14)],qc [7] []),(Qh 16 (tq 2),q0),(Qs 17 159 [(Qw 15),(Qw 16)],qc [7] []),(Qs 18 106 [(Qw 11),(Qw 17)],q0),(oo 19 (.bin .rem (tq 18) (.const (.sc (.int .u64 4)))),q0),(Qh 8 (tq 19),q0)]) (.seq (.dreg [] [(Qk 20 2 (tq 7),ql 7 [] [21]),(oo 21 (.buildSlice 1 1 [(.sc (.int .u8 0))] [(0,1,(.const (.sc (.int .u8 1))))]),qn [7] []),(Qh 22 (tq 2),q0),(Qs 23 159 [(Qw 21),(Qw 22)],qc [7] []),(Qh 24 (tq 8),q0),(Qu 25 .u32 (tq 24),q0),(Qs 26 159 [(Qw 23),(Qw 25)],qc [7] []),(Qs 27 106 [(Qw 20),(Qw 26)],q0),(oo 28 (.bin .rem (tq 27) (.const (.sc (.int .u64 64)))),q0),(Qu 29 .i64 (tq 28),q0),(Qh 6 (tq 29),q0)]) .ret))))⟩
def zly:Hint:=⟨[],[],[none],[],[],false,false,[]⟩
def zif:Nat→Sh:=xW []
def ziI(zP:zgW)(xu:zcz)(xr:zcU)(zM:zg3)(L:Nat):CBC:=(yD 106 (zlG zM L) (yD 159 (ze9 xr L) (yD 294 (zgq xu L) (yD 110 (zlw zP L) noC))))
def zjb{β:Type}(zP:zgW)(xu:zcz)(xr:zcU)(zM:zg3)(L:Nat)(A C:List V)(D:Int)(z:Int→Option β):Option β:=chk (0+32≤(XG A)) (zP β L (XI 32 A) (fun E=>chk ((XG E)=2∧0+2≤2) (lt (yh [(Qd (0:Int)),(Qd (0:Int))] 0 E) fun r1=>chk (0+2≤(XG r1)) (chk (0+3≤(XG C)) (xu β L (XI 3 C) (fun J=>xr β L (xh 1 1 [(Qa (2:Int))]) J (fun M=>xr β L M D (fun N=>zM β L (XI 2 r1) N (fun O=>lt (XM O (4:Int)) fun P=>chk (0+2≤(XG r1)) (xr β L (xh 1 1 [(Qa (1:Int))]) D (fun Q=>lt (QF .u32 P) fun R=>xr β L Q R (fun S=>zM β L (XI 2 r1) S (fun F=>lt (XM F (64:Int)) fun G=>lt (QF .i64 G) fun I=>z I)))))))))))))
theorem zsN{β:Type}(zP:zgW)(xu:zcz)(xr:zcU)(zM:zg3)(L:Nat)(z A:List V)(C:Int)(k:KK β):zp zif (ziI zP xu xr zM L) L zfk [(V.agg z),(V.agg A),(Qc C)] [] k=zjb zP xu xr zM L z A C (fun z=>k (Qe z) []):=by kernel_rfl
abbrev zy:=∀ (β:Type),Nat→List V→List V→Int→(Int→Option β)→Option β
def yb(β:Type)(L:Nat)(A C:List V)(D:Int)(z:Int→Option β):Option β:=zjb zP xu xr zM L A C D z
def zd1(yb:zy)(L:Nat)(β:Type)(args:List V)(bor:Bor)(k:KK β):Option β:=match args,bor with
 | [a0,a1,a2],[]=>aG a0 fun z=>aG a1 fun A=>aI .u32 a2 fun C=>yb β L z A C (fun z=>k (Qe z) [])
 | _,_=>none
theorem zsw(L:Nat)(β:Type)(args:List V)(bor:Bor)(k:KK β)(r:β)(h:zd1 yb L β args bor k=some r):zp zif (ziI zP xu xr zM L) L zfk args bor k=some r:=by
 unfold zd1 at h
 split at h
 ·have q:=yW h; clear h; obtain ⟨z,rfl,h⟩:=q
  have q:=yW h; clear h; obtain ⟨A,rfl,h⟩:=q
  have q:=yB h; clear h; obtain ⟨C,rfl,h⟩:=q
  exact (zsN zP xu xr zM L z A C k).trans h
 ·cases h
def zlY:CF:=⟨17,[.tmp 4],(.seq (.reg [Qv 2 (tq 0),Qv 3 (tq 1),Qh 4 (Qg false)]) (.seq (.reg [Ql 5 0 (tq 2),Qj 6 1 (tq 5),Ql 7 0 (tq 3),Qj 8 1 (tq 7),Qp 9 .eql (tq 6) (tq 8),Qh 10 (tq 9),⟨(some 11),false,(some (10,true)),.fieldAddr 1 (tq 2)⟩,⟨(some 12),false,(some (10,true)),.load false 1 (tq 11) false⟩,⟨(some 13),false,(some (10,true)),.fieldAddr 1 (tq 3)⟩,⟨(some 14),false,(some (10,true)),.load false 1 (tq 13) false⟩,⟨(some 15),false,(some (10,true)),.bin .eql (tq 12) (tq 14)⟩,oo 16 (.pick (tq 10) (tq 15) (Qg false)),Qh 4 (tq 16)]) .ret))⟩
def zsd:Hint:=⟨[],[],[none],[],[],false,false,[]⟩
def zpV:Nat→Sh:=xW [(6,(.int .u32)),(8,(.int .u32)),(12,(.int .u16)),(14,(.int .u16))]
def zpY(L:Nat):CBC:=noC
def zqZ{β:Type}(L:Nat)(A C:List V)(z:Bool→Option β):Option β:=cI .u32 A 0 fun D=>cI .u32 C 0 fun E=>ifb ((D:Int)==E) (cI .u16 A 1 fun F=>cI .u16 C 1 fun G=>z ((F:Int)==G)) (z false)
theorem zzu{β:Type}(L:Nat)(z A:List V)(k:KK β):zp zpV (zpY L) L zlY [(V.agg z),(V.agg A)] [] k=zqZ L z A (fun z=>k (V.sc (.bool z)) []):=by kernel_rfl
abbrev xM:=∀ (β:Type),Nat→List V→List V→(Bool→Option β)→Option β
def yf(β:Type)(L:Nat)(A C:List V)(z:Bool→Option β):Option β:=zqZ L A C z
def zjZ(yf:xM)(L:Nat)(β:Type)(args:List V)(bor:Bor)(k:KK β):Option β:=match args,bor with
 | [a0,a1],[]=>aG a0 fun z=>aG a1 fun A=>yf β L z A (fun z=>k (V.sc (.bool z)) [])
 | _,_=>none
theorem zze(L:Nat)(β:Type)(args:List V)(bor:Bor)(k:KK β)(r:β)(h:zjZ yf L β args bor k=some r):zp zpV (zpY L) L zlY args bor k=some r:=by
 unfold zjZ at h
 split at h
 ·have q:=yW h; clear h; obtain ⟨z,rfl,h⟩:=q
  have q:=yW h; clear h; obtain ⟨A,rfl,h⟩:=q
  exact (zzu L z A k).trans h
 ·cases h
def zfa:CC:=(.seq (.seq (.reg [Qh 6 (tq 5),Qh 7 (tq 0),Qr 8 (tq 7),Qp 9 .lss (tq 6) (tq 8)]) (.cond (tq 9) .skip (.seq (.mask (bl 0 20) (bl 786119 20)) (.exit 0)))) (.seq (.block 1 (.seq (.dreg [] [(Qh 12 (tq 0),q0),(Qh 13 (tq 5),q0),(Qo 14 5 (tq 12) (tq 13),q0),(Ql 15 1 (tq 14),q0),(Qk 16 3 (tq 15),qc [3] []),(Qk 17 3 (tq 3),ql 3 [] []),(Qs 18 303 [(Qw 16),(Qw 17)],q0)]) (.cond (tq 18) (.seq (.reg [Qh 19 (tq 5),Qh 4 (tq 19)]) (.seq (.mask (bl 16 20) (bl 786135 20)) .ret)) .skip))) (.reg [Qh 10 (tq 5),Qp 11 .add (tq 10) (Qf 1),Qh 5 (tq 11)])))
def zkV:CC:=(.seq (.reg [Qh 4 (Qf (-1))]) .ret)
def zdg:CF:=⟨20,[.tmp 4],(.seq (.reg [Qv 3 (tq 1),Qh 4 (Qf 0)]) (.seq (.seq (.reg [Qh 5 (Qf 0)]) (.block 0 (.loop (bl 41 20) (bl 786159 20) zfa))) zkV))⟩
def zsb:Hint:=⟨[],[],[none,some ((bl 41 20),(bl 786159 20)),none,some ((bl 0 20),(bl 786119 20)),none,none,some ((bl 16 20),(bl 786135 20)),none],[],[],false,false,[]⟩
def zb0:Nat→Sh:=xW []
def zb2(yf:xM)(L:Nat):CBC:=(yD 303 (zjZ yf L) noC)
def zin:St→St:=zaH 0 (bl 41 20) (bl 786159 20)
def zf7(z:List (List V))(A:Int)(C:List V):St:=⟨((V.sl 5 z)::(jn 2 ((V.ptr 3 0)::(jn 1 ((Qe A)::(jn 14 [])))))),(gn 3 ((.live true C)::(gn 16 [])))⟩
def zln(z:Int):St:=⟨(jn 4 ((Qe z)::(jn 15 []))),(gn 20 [])⟩
def zl1:St:=⟨(jn 20 []),(gn 20 [])⟩
def zrE{β:Type}(yf:xM)(L:Nat)(A:List (List V))(C:List V)(z:List (List V)→Int→List V→Option β):Option β:=z A (0:Int) C
theorem zy5{β:Type}(yf:xM)(L:Nat)(z:List (List V))(A:List V)(k:KK β):zp zb0 (zb2 yf L) L zdg [(V.sl 5 z),(V.agg A)] [] k=zrE yf L z A (fun z C D=>xz (yi zb0 (zb2 yf L) 0 L zfa) zin L (zf7 z C D) (zz 0 (xK (yi zb0 (zb2 yf L) 0 L zkV) (yR 0 (CF.res zdg) k)))):=by kernel_rfl
def zl4{β:Type}(yf:xM)(L:Nat)(D:List (List V))(A:Int)(E:List V)(C:Int→Option β)(z:List (List V)→Int→List V→Option β)(F:Option β):Option β:=ifb (decide (A<((XG D:Nat):Int))) (idx D A fun c0=>chk (0+3≤(XG E)) (yf β L (XI 3 (XJ 1 c0)) (XI 3 E) (fun G=>ifb G (C A) (lt (QF .i64 ((A:Int)+(1:Int))) fun I=>z D I E)))) (F)
theorem zu5{β:Type}(yf:xM)(L:Nat)(z:List (List V))(A:Int)(C:List V)(X:St→Option β)(K:KT β):yi zb0 (zb2 yf L) 0 L zfa (zf7 z A C) (zbo zin X K)=zl4 yf L z A C (fun D=>K .ret (zln D)) (fun z A C=>X (zf7 z A C)) (K (.exit 0) (zl1)):=by kernel_rfl
def zog{β:Type}(yf:xM)(L:Nat)(A:Int)(z:Int→Option β):Option β:=z A
theorem zsQ{β:Type}(yf:xM)(L:Nat)(z:Int)(k:KK β):(zz 0 (xK (yi zb0 (zb2 yf L) 0 L zkV) (yR 0 (CF.res zdg) k))) .ret (zln z)=zog yf L z (fun A=>k (Qe A) []):=by kernel_rfl
def zpl{β:Type}(yf:xM)(L:Nat)(z:Int→Option β):Option β:=z (-1:Int)
theorem ztr{β:Type}(yf:xM)(L:Nat)(k:KK β):(zz 0 (xK (yi zb0 (zb2 yf L) 0 L zkV) (yR 0 (CF.res zdg) k))) (.exit 0) (zl1)=zpl yf L (fun z=>k (Qe z) []):=by kernel_rfl
def zfQ{β:Type}(yf:xM)(L:Nat)(z:Int→Option β)(A:Option β):Nat→List (List V)→Int→List V→Option β
 | 0,_,_,_=>none
 | n+1,C,D,E=>zl4 yf L C D E z (fun C D E=>zfQ yf L z A n C D E) A
theorem zoj{β:Type}(yf:xM)(L:Nat)(K:KT β):∀ (n:Nat) (z:List (List V)) (A:Int) (C:List V),xz (yi zb0 (zb2 yf L) 0 L zfa) zin n (zf7 z A C) K=zfQ yf L (fun D=>K .ret (zln D)) (K (.exit 0) (zl1)) n z A C:=by
 intro n
 induction n with
 | zero=>intros; rfl
 | succ n ih=>
  intro z A C
  refine (zu5 yf L z A C (fun σ=>xz (yi zb0 (zb2 yf L) 0 L zfa) zin n σ K) K).trans ?_
  simp only [ih]
  rfl
def znE{β:Type}(yf:xM)(L:Nat)(A:List (List V))(C:List V)(z:Int→Option β):Option β:=zrE yf L A C (fun A D E=>zfQ yf L (fun F=>zog yf L F z) (zpl yf L z) L A D E)
theorem zzj{β:Type}(yf:xM)(L:Nat)(z:List (List V))(A:List V)(k:KK β):zp zb0 (zb2 yf L) L zdg [(V.sl 5 z),(V.agg A)] [] k=znE yf L z A (fun z=>k (Qe z) []):=by
 refine (zy5 yf L z A k).trans ?_
 unfold znE
 first
  | (simp only [zoj,zsQ,ztr]; done)
  | (simp only [zoj]; rfl)
abbrev xI:=∀ (β:Type),Nat→List (List V)→List V→(Int→Option β)→Option β
def zd(β:Type)(L:Nat)(A:List (List V))(C:List V)(z:Int→Option β):Option β:=znE yf L A C z
def zhN(zd:xI)(L:Nat)(β:Type)(args:List V)(bor:Bor)(k:KK β):Option β:=match args,bor with
 | [a0,a1],[]=>aL 5 a0 fun z=>aG a1 fun A=>zd β L z A (fun z=>k (Qe z) [])
 | _,_=>none
theorem zyA(L:Nat)(β:Type)(args:List V)(bor:Bor)(k:KK β)(r:β)(h:zhN zd L β args bor k=some r):zp zb0 (zb2 yf L) L zdg args bor k=some r:=by
 unfold zhN at h
 split at h
 ·have q:=zaT h; clear h; obtain ⟨z,rfl,h⟩:=q
  have q:=yW h; clear h; obtain ⟨A,rfl,h⟩:=q
  exact (zzj yf L z A k).trans h
 ·cases h
def zd7:CC:=(.seq (.seq (.reg [Qh 12 (tq 7),Qh 13 (tq 1),Qr 14 (tq 13),Qp 15 .lss (tq 12) (tq 14)]) (.cond (tq 15) .skip (.seq (.mask (bl 0 84) (bl 18133887294219300164845111 84)) (.exit 0)))) (.seq (.block 1 (.seq (.dreg [] [(Qk 18 32 (tq 3),ql 3 [] []),(Qh 19 (tq 1),q0),(Qh 20 (tq 7),q0),(Qo 21 5 (tq 19) (tq 20),q0),(Ql 22 1 (tq 21),q0),(Qk 23 3 (tq 22),qc [3] []),(Qs 24 290 [(Qw 18),(Qw 23)],q0),(Qh 8 (tq 24),q0)]) (.seq (.seq (.reg [Qh 25 (tq 2)]) (.cond (tq 25) (.dreg [] [(Qk 26 32 (tq 3),ql 3 [] []),(Qh 27 (tq 1),q0),(Qh 28 (tq 7),q0),(Qo 29 5 (tq 27) (tq 28),q0),(Ql 30 1 (tq 29),q0),(Qk 31 3 (tq 30),qc [3] []),(Qh 32 (tq 1),q0),(Qh 33 (tq 7),q0),(Qo 34 5 (tq 32) (tq 33),q0),(Ql 35 4 (tq 34),q0),(Qj 36 1 (tq 35),qc [3] []),(Qs 37 305 [(Qw 26),(Qw 31),(Qw 36)],q0),(Qh 8 (tq 37),q0)]) .skip)) (.seq (.reg [Qh 38 (tq 1),Qh 39 (tq 7),Qo 40 5 (tq 38) (tq 39),Ql 41 0 (tq 40),Qj 42 1 (tq 41),Qh 43 (tq 8),Qp 44 .neq (tq 42) (tq 43),Qh 45 (tq 44),⟨(some 46),false,(some (45,false)),.move (tq 7) false⟩,⟨(some 47),false,(some (45,false)),.bin .gtr (tq 46) (Qf 0)⟩,⟨(some 48),false,(some (45,false)),.move (tq 47) false⟩,⟨(some 49),false,(some (48,true)),.move (tq 1) false⟩,⟨(some 50),false,(some (48,true)),.move (tq 7) false⟩,⟨(some 51),false,(some (48,true)),.bin .sub (tq 50) (Qf 1)⟩,⟨(some 52),false,(some (48,true)),.indexAddrS 5 (tq 49) (tq 51)⟩,⟨(some 53),false,(some (48,true)),.fieldAddr 0 (tq 52)⟩,⟨(some 54),false,(some (48,true)),.load false 1 (tq 53) false⟩,⟨(some 55),false,(some (48,true)),.move (tq 8) false⟩,⟨(some 56),false,(some (48,true)),.bin .gtr (tq 54) (tq 55)⟩,⟨(some 57),false,(some (45,false)),.pick (tq 48) (tq 56) (Qg false)⟩,oo 58 (.pick (tq 45) (Qg true) (tq 57)),Qh 59 (tq 58),⟨(some 60),false,(some (59,false)),.move (tq 7) false⟩,⟨(some 61),false,(some (59,false)),.bin .geq (tq 60) (Qf 8)⟩,⟨(some 62),false,(some (59,false)),.move (tq 61) false⟩,⟨(some 63),false,(some (62,true)),.move (tq 1) false⟩,⟨(some 64),false,(some (62,true)),.move (tq 7) false⟩,⟨(some 65),false,(some (62,true)),.bin .sub (tq 64) (Qf 8)⟩,⟨(some 66),false,(some (62,true)),.indexAddrS 5 (tq 63) (tq 65)⟩,⟨(some 67),false,(some (62,true)),.fieldAddr 0 (tq 66)⟩,⟨(some 68),false,(some (62,true)),.load false 1 (tq 67) false⟩,⟨(some 69),false,(some (62,true)),.move (tq 8) false⟩,⟨(some 70),false,(some (62,true)),.bin .eql (tq 68) (tq 69)⟩,⟨(some 71),false,(some (59,false)),.pick (tq 62) (tq 70) (Qg false)⟩,oo 72 (.pick (tq 59) (Qg true) (tq 71)),Qh 73 (tq 72),⟨(some 74),false,(some (73,false)),.move (tq 1) false⟩,⟨(some 75),false,(some (73,false)),.move (tq 1) false⟩,⟨(some 76),false,(some (73,false)),.move (tq 7) false⟩,⟨(some 77),false,(some (73,false)),.indexAddrS 5 (tq 75) (tq 76)⟩,⟨(some 78),false,(some (73,false)),.fieldAddr 1 (tq 77)⟩,⟨(some 79),false,(some (73,false)),.load true 3 (tq 78) false⟩,⟨(some 80),false,(some (73,false)),.call 287 [((tq 74),2),((tq 79),2)] []⟩,⟨(some 81),false,(some (73,false)),.move (tq 7) false⟩,⟨(some 82),false,(some (73,false)),.bin .neq (tq 80) (tq 81)⟩,oo 83 (.pick (tq 73) (Qg true) (tq 82))]) (.cond (tq 83) (.seq (.reg [Qh 6 (Qg false)]) (.seq (.mask (bl 64 84) (bl 18133887294219300164845175 84)) .ret)) .skip))))) (.reg [Qh 16 (tq 7),Qp 17 .add (tq 16) (Qf 1),Qh 7 (tq 17)])))
def zh6:CC:=(.seq (.reg [Qh 6 (Qg true)]) .ret)
def zdt:CF:=⟨84,[.tmp 6],(.seq (.reg [Qv 3 (tq 0),Qh 6 (Qg false)]) (.seq (.seq (.reg [Qh 9 (tq 1),Qr 10 (tq 9),Qp 11 .gtr (tq 10) (Qf 512)]) (.cond (tq 11) (.seq (.reg [Qh 6 (Qg false)]) .ret) .skip)) (.seq (.seq (.reg [Qh 7 (Qf 0)]) (.block 0 (.loop (bl 142 84) (bl 18133887294219300164845247 84) zd7))) zh6)))⟩
def zrh:Hint:=⟨[(9,42)],[],[none,none,none,some ((bl 142 84),(bl 18133887294219300164845247 84)),none,some ((bl 0 84),(bl 18133887294219300164845111 84)),none,none,none,some ((bl 64 84),(bl 18133887294219300164845175 84)),none],[],[],false,false,[]⟩
def zbJ:Nat→Sh:=xW [(36,(.int .u32)),(42,(.int .i64)),(54,(.int .i64)),(68,(.int .i64))]
def zbK(ye:yL)(yb:zy)(zd:xI)(L:Nat):CBC:=(yD 287 (zhN zd L) (yD 305 (zd1 yb L) (yD 290 (zd5 ye L) noC)))
def zgN:St→St:=zaH 0 (bl 142 84) (bl 18133887294219300164845247 84)
def zeM(z:List (List V))(A:Bool)(C:Int)(D:List V):St:=⟨(jn 1 ((V.sl 5 z)::((V.sc (.bool A))::((V.ptr 3 0)::(jn 3 ((Qe C)::(jn 76 []))))))),(gn 3 ((.live true D)::(gn 80 [])))⟩
def zjX(z:Bool):St:=⟨(jn 6 ((V.sc (.bool z))::(jn 77 []))),(gn 84 [])⟩
def zlk:St:=⟨(jn 84 []),(gn 84 [])⟩
def zlQ{β:Type}(ye:yL)(yb:zy)(zd:xI)(L:Nat)(D:List V)(C:List (List V))(E:Bool)(A:Bool→Option β)(z:List (List V)→Bool→Int→List V→Option β):Option β:=ifb (decide (((XG C:Nat):Int)>(512:Int))) (A false) (z C E (0:Int) D)
theorem zx3{β:Type}(ye:yL)(yb:zy)(zd:xI)(L:Nat)(z:List V)(A:List (List V))(C:Bool)(k:KK β):zp zbJ (zbK ye yb zd L) L zdt [(V.agg z),(V.sl 5 A),(V.sc (.bool C))] [] k=zlQ ye yb zd L z A C (fun z=>k (V.sc (.bool z)) []) (fun A C D E=>xz (yi zbJ (zbK ye yb zd L) 0 L zd7) zgN L (zeM A C D E) (zz 0 (xK (yi zbJ (zbK ye yb zd L) 0 L zh6) (yR 0 (CF.res zdt) k)))):=by kernel_rfl
def zgt{β:Type}(ye:yL)(yb:zy)(zd:xI)(L:Nat)(C:List (List V))(F:Bool)(z:Int)(E:List V)(A:Bool→Option β)(D:List (List V)→Bool→Int→List V→Option β)(J:Option β):Option β:=ifb (decide (z<((XG C:Nat):Int))) (chk (0+32≤(XG E)) (idx C z fun c0=>ye β L (XI 32 E) (XI 3 (XJ 1 c0)) (fun G=>ifb F (chk (0+32≤(XG E)) (idx C z fun c2=>idx C z fun c3=>cI .u32 (XJ 4 c3) 0 fun v4=>yb β L (XI 32 E) (XI 3 (XJ 1 c2)) v4 (fun I=>idx C z fun c6=>cI .i64 c6 0 fun v7=>ifb ((v7:Int) != I) (A false) (ifb (decide (z>(0:Int))) (lt (QF .i64 ((z:Int)-(1:Int))) fun x8=>idx C x8 fun c9=>cI .i64 c9 0 fun M=>ifb (decide (M>I)) (A false) (ifb (decide (z≥(8:Int))) (lt (QF .i64 ((z:Int)-(8:Int))) fun N=>idx C N fun O=>cI .i64 O 0 fun P=>ifb ((P:Int)==I) (A false) (idx C z fun Q=>zd β L C (XI 3 (XJ 1 Q)) (fun R=>ifb ((R:Int) != z) (A false) (lt (QF .i64 ((z:Int)+(1:Int))) fun S=>D C F S E)))) (idx C z fun U=>zd β L C (XI 3 (XJ 1 U)) (fun W=>ifb ((W:Int) != z) (A false) (lt (QF .i64 ((z:Int)+(1:Int))) fun X=>D C F X E))))) (ifb (decide (z≥(8:Int))) (lt (QF .i64 ((z:Int)-(8:Int))) fun Y=>idx C Y fun Z=>cI .i64 Z 0 fun aa=>ifb ((aa:Int)==I) (A false) (idx C z fun ab=>zd β L C (XI 3 (XJ 1 ab)) (fun ac=>ifb ((ac:Int) != z) (A false) (lt (QF .i64 ((z:Int)+(1:Int))) fun ad=>D C F ad E)))) (idx C z fun ae=>zd β L C (XI 3 (XJ 1 ae)) (fun af=>ifb ((af:Int) != z) (A false) (lt (QF .i64 ((z:Int)+(1:Int))) fun ag=>D C F ag E)))))))) (idx C z fun ah=>cI .i64 ah 0 fun ai=>ifb ((ai:Int) != G) (A false) (ifb (decide (z>(0:Int))) (lt (QF .i64 ((z:Int)-(1:Int))) fun aj=>idx C aj fun ak=>cI .i64 ak 0 fun al=>ifb (decide (al>G)) (A false) (ifb (decide (z≥(8:Int))) (lt (QF .i64 ((z:Int)-(8:Int))) fun am=>idx C am fun an=>cI .i64 an 0 fun ao=>ifb ((ao:Int)==G) (A false) (idx C z fun ap=>zd β L C (XI 3 (XJ 1 ap)) (fun aq=>ifb ((aq:Int) != z) (A false) (lt (QF .i64 ((z:Int)+(1:Int))) fun ar=>D C F ar E)))) (idx C z fun au=>zd β L C (XI 3 (XJ 1 au)) (fun av=>ifb ((av:Int) != z) (A false) (lt (QF .i64 ((z:Int)+(1:Int))) fun aw=>D C F aw E))))) (ifb (decide (z≥(8:Int))) (lt (QF .i64 ((z:Int)-(8:Int))) fun ax=>idx C ax fun ay=>cI .i64 ay 0 fun az=>ifb ((az:Int)==G) (A false) (idx C z fun aC=>zd β L C (XI 3 (XJ 1 aC)) (fun aD=>ifb ((aD:Int) != z) (A false) (lt (QF .i64 ((z:Int)+(1:Int))) fun aE=>D C F aE E)))) (idx C z fun aH=>zd β L C (XI 3 (XJ 1 aH)) (fun aJ=>ifb ((aJ:Int) != z) (A false) (lt (QF .i64 ((z:Int)+(1:Int))) fun aK=>D C F aK E))))))))) (J)
theorem zs2{β:Type}(ye:yL)(yb:zy)(zd:xI)(L:Nat)(z:List (List V))(A:Bool)(C:Int)(D:List V)(X:St→Option β)(K:KT β):yi zbJ (zbK ye yb zd L) 0 L zd7 (zeM z A C D) (zbo zgN X K)=zgt ye yb zd L z A C D (fun E=>K .ret (zjX E)) (fun z A C D=>X (zeM z A C D)) (K (.exit 0) (zlk)):=by kernel_rfl
def zmm{β:Type}(ye:yL)(yb:zy)(zd:xI)(L:Nat)(A:Bool)(z:Bool→Option β):Option β:=z A
theorem zq2{β:Type}(ye:yL)(yb:zy)(zd:xI)(L:Nat)(z:Bool)(k:KK β):(zz 0 (xK (yi zbJ (zbK ye yb zd L) 0 L zh6) (yR 0 (CF.res zdt) k))) .ret (zjX z)=zmm ye yb zd L z (fun A=>k (V.sc (.bool A)) []):=by kernel_rfl
def znI{β:Type}(ye:yL)(yb:zy)(zd:xI)(L:Nat)(z:Bool→Option β):Option β:=z true
theorem zrL{β:Type}(ye:yL)(yb:zy)(zd:xI)(L:Nat)(k:KK β):(zz 0 (xK (yi zbJ (zbK ye yb zd L) 0 L zh6) (yR 0 (CF.res zdt) k))) (.exit 0) (zlk)=znI ye yb zd L (fun z=>k (V.sc (.bool z)) []):=by kernel_rfl
def zba{β:Type}(ye:yL)(yb:zy)(zd:xI)(L:Nat)(z:Bool→Option β)(A:Option β):Nat→List (List V)→Bool→Int→List V→Option β
 | 0,_,_,_,_=>none
 | n+1,C,D,E,F=>zgt ye yb zd L C D E F z (fun C D E F=>zba ye yb zd L z A n C D E F) A
theorem zmz{β:Type}(ye:yL)(yb:zy)(zd:xI)(L:Nat)(K:KT β):∀ (n:Nat) (z:List (List V)) (A:Bool) (C:Int) (D:List V),xz (yi zbJ (zbK ye yb zd L) 0 L zd7) zgN n (zeM z A C D) K=zba ye yb zd L (fun E=>K .ret (zjX E)) (K (.exit 0) (zlk)) n z A C D:=by
 intro n
 induction n with
 | zero=>intros; rfl
 | succ n ih=>
  intro z A C D
  refine (zs2 ye yb zd L z A C D (fun σ=>xz (yi zbJ (zbK ye yb zd L) 0 L zd7) zgN n σ K) K).trans ?_
  simp only [ih]
  rfl
def zi0{β:Type}(ye:yL)(yb:zy)(zd:xI)(L:Nat)(D:List V)(A:List (List V))(C:Bool)(z:Bool→Option β):Option β:=zlQ ye yb zd L D A C z (fun A C E F=>zba ye yb zd L (fun G=>zmm ye yb zd L G z) (znI ye yb zd L z) L A C E F)
theorem zx5{β:Type}(ye:yL)(yb:zy)(zd:xI)(L:Nat)(z:List V)(A:List (List V))(C:Bool)(k:KK β):zp zbJ (zbK ye yb zd L) L zdt [(V.agg z),(V.sl 5 A),(V.sc (.bool C))] [] k=zi0 ye yb zd L z A C (fun z=>k (V.sc (.bool z)) []):=by
 refine (zx3 ye yb zd L z A C k).trans ?_
 unfold zi0
 first
  | (simp only [zmz,zq2,zrL]; done)
  | (simp only [zmz]; rfl)
abbrev zaQ:=∀ (β:Type),Nat→List V→List (List V)→Bool→(Bool→Option β)→Option β
def xm(β:Type)(L:Nat)(A:List V)(C:List (List V))(D:Bool)(z:Bool→Option β):Option β:=zi0 ye yb zd L A C D z
def zlM(xm:zaQ)(L:Nat)(β:Type)(args:List V)(bor:Bor)(k:KK β):Option β:=match args,bor with
 | [a0,a1,a2],[]=>aG a0 fun z=>aL 5 a1 fun A=>aB a2 fun C=>xm β L z A C (fun z=>k (V.sc (.bool z)) [])
 | _,_=>none
theorem zxI(L:Nat)(β:Type)(args:List V)(bor:Bor)(k:KK β)(r:β)(h:zlM xm L β args bor k=some r):zp zbJ (zbK ye yb zd L) L zdt args bor k=some r:=by
 unfold zlM at h
 split at h
 ·have q:=yW h; clear h; obtain ⟨z,rfl,h⟩:=q
  have q:=zaT h; clear h; obtain ⟨A,rfl,h⟩:=q
  have q:=zs0 h; clear h; obtain ⟨C,rfl,h⟩:=q
  exact (zx5 ye yb zd L z A C k).trans h
 ·cases h
def zd9:CC:=(.seq (.seq (.reg [Qh 18 (tq 3),Ql 19 32 (tq 1),Qj 20 1 (tq 19),Qr 21 (tq 20),Qp 22 .lss (tq 18) (tq 21)]) (.cond (tq 22) .skip (.seq (.mask (bl 0 35) (bl 25767706609 35)) (.exit 0)))) (.seq (.block 1 (.seq (.dreg [] [(Ql 25 33 (tq 1),q0),(Qj 26 1 (tq 25),ql 1 [] []),(Ql 27 32 (tq 1),q0),(Qj 28 1 (tq 27),ql 1 [] []),(Qh 29 (tq 3),q0),(Qo 30 5 (tq 28) (tq 29),q0),(Ql 31 1 (tq 30),q0),(Qk 32 3 (tq 31),qc [1] []),(Qs 33 287 [((tq 26),2),((tq 32),2)],q0),(Qp 34 .geq (tq 33) (Qf 0),q0)]) (.cond (tq 34) (.seq (.reg [Qh 2 (Qg false)]) (.seq (.mask (bl 4 35) (bl 25767706613 35)) .ret)) .skip))) (.reg [Qh 23 (tq 3),Qp 24 .add (tq 23) (Qf 1),Qh 3 (tq 24)])))
def zim:CC:=(.seq (.reg [Qh 2 (Qg true)]) .ret)
def zdu:CF:=⟨35,[.tmp 2],(.seq (.reg [Qv 1 (tq 0),Qh 2 (Qg false)]) (.seq (.seq (.reg [Ql 4 0 (tq 1),Qk 5 32 (tq 4),Ql 6 32 (tq 1),Qj 7 1 (tq 6),Qs 8 302 [(Qw 5),(Qw 7),((Qg true),0)],Qt 9 (tq 8),Qh 10 (tq 9),⟨(some 11),false,(some (10,false)),.fieldAddr 0 (tq 1)⟩,⟨(some 12),false,(some (10,false)),.load true 32 (tq 11) false⟩,⟨(some 13),false,(some (10,false)),.fieldAddr 33 (tq 1)⟩,⟨(some 14),false,(some (10,false)),.load false 1 (tq 13) false⟩,⟨(some 15),false,(some (10,false)),.call 302 [(Qw 12),(Qw 14),((Qg false),0)] []⟩,⟨(some 16),false,(some (10,false)),.un .not (tq 15)⟩,oo 17 (.pick (tq 10) (Qg true) (tq 16))]) (.cond (tq 17) (.seq (.reg [Qh 2 (Qg false)]) .ret) .skip)) (.seq (.seq (.reg [Qh 3 (Qf 0)]) (.block 0 (.loop (bl 10 35) (bl 25767706619 35) zd9))) zim)))⟩
def zrA:Hint:=⟨[(0,0),(6,8)],[],[none,none,none,some ((bl 10 35),(bl 25767706619 35)),none,some ((bl 0 35),(bl 25767706609 35)),none,none,some ((bl 4 35),(bl 25767706613 35)),none],[],[],false,false,[]⟩
def zbH:Nat→Sh:=xW [(7,(.sl 5)),(14,(.sl 5)),(20,(.sl 5)),(26,(.sl 5)),(28,(.sl 5))]
def zbI(xm:zaQ)(zd:xI)(L:Nat):CBC:=(yD 287 (zhN zd L) (yD 302 (zlM xm L) noC))
def zgQ:St→St:=zaH 0 (bl 10 35) (bl 25767706619 35)
def zeV(z:Int)(A:List V):St:=⟨(jn 1 ((V.ptr 1 0)::(jn 1 ((Qe z)::(jn 31 []))))),(gn 1 ((.live true A)::(gn 33 [])))⟩
def zkq(z:Bool):St:=⟨(jn 2 ((V.sc (.bool z))::(jn 32 []))),(gn 35 [])⟩
def zli:St:=⟨(jn 35 []),(gn 35 [])⟩
def zpD{β:Type}(xm:zaQ)(zd:xI)(L:Nat)(z:List V)(C:Bool→Option β)(A:Int→List V→Option β):Option β:=chk (0+32≤(XG z)) (cLd 5 z 32 fun D=>xm β L (XI 32 z) D true (fun E=>ifb (!E) (C false) (chk (0+32≤(XG z)) (cLd 5 z 33 fun F=>xm β L (XI 32 z) F false (fun G=>ifb (!G) (C false) (A (0:Int) z))))))
theorem zx8{β:Type}(xm:zaQ)(zd:xI)(L:Nat)(z:List V)(k:KK β):zp zbH (zbI xm zd L) L zdu [(V.agg z)] [] k=zpD xm zd L z (fun z=>k (V.sc (.bool z)) []) (fun A C=>xz (yi zbH (zbI xm zd L) 0 L zd9) zgQ L (zeV A C) (zz 0 (xK (yi zbH (zbI xm zd L) 0 L zim) (yR 0 (CF.res zdu) k)))):=by kernel_rfl
def zj7{β:Type}(xm:zaQ)(zd:xI)(L:Nat)(D:Int)(A:List V)(C:Bool→Option β)(z:Int→List V→Option β)(E:Option β):Option β:=cLd 5 A 32 fun F=>ifb (decide (D<((XG F:Nat):Int))) (cLd 5 A 33 fun G=>cLd 5 A 32 fun I=>idx I D fun J=>zd β L G (XI 3 (XJ 1 J)) (fun M=>ifb (decide (M≥(0:Int))) (C false) (lt (QF .i64 ((D:Int)+(1:Int))) fun N=>z N A))) (E)
theorem ztq{β:Type}(xm:zaQ)(zd:xI)(L:Nat)(z:Int)(A:List V)(X:St→Option β)(K:KT β):yi zbH (zbI xm zd L) 0 L zd9 (zeV z A) (zbo zgQ X K)=zj7 xm zd L z A (fun C=>K .ret (zkq C)) (fun z A=>X (zeV z A)) (K (.exit 0) (zli)):=by kernel_rfl
def zmA{β:Type}(xm:zaQ)(zd:xI)(L:Nat)(A:Bool)(z:Bool→Option β):Option β:=z A
theorem zrs{β:Type}(xm:zaQ)(zd:xI)(L:Nat)(z:Bool)(k:KK β):(zz 0 (xK (yi zbH (zbI xm zd L) 0 L zim) (yR 0 (CF.res zdu) k))) .ret (zkq z)=zmA xm zd L z (fun A=>k (V.sc (.bool A)) []):=by kernel_rfl
def znd{β:Type}(xm:zaQ)(zd:xI)(L:Nat)(z:Bool→Option β):Option β:=z true
theorem zrM{β:Type}(xm:zaQ)(zd:xI)(L:Nat)(k:KK β):(zz 0 (xK (yi zbH (zbI xm zd L) 0 L zim) (yR 0 (CF.res zdu) k))) (.exit 0) (zli)=znd xm zd L (fun z=>k (V.sc (.bool z)) []):=by kernel_rfl
def zeB{β:Type}(xm:zaQ)(zd:xI)(L:Nat)(z:Bool→Option β)(A:Option β):Nat→Int→List V→Option β
 | 0,_,_=>none
 | n+1,C,D=>zj7 xm zd L C D z (fun C D=>zeB xm zd L z A n C D) A
theorem zmH{β:Type}(xm:zaQ)(zd:xI)(L:Nat)(K:KT β):∀ (n:Nat) (z:Int) (A:List V),xz (yi zbH (zbI xm zd L) 0 L zd9) zgQ n (zeV z A) K=zeB xm zd L (fun C=>K .ret (zkq C)) (K (.exit 0) (zli)) n z A:=by
 intro n
 induction n with
 | zero=>intros; rfl
 | succ n ih=>
  intro z A
  refine (ztq xm zd L z A (fun σ=>xz (yi zbH (zbI xm zd L) 0 L zd9) zgQ n σ K) K).trans ?_
  simp only [ih]
  rfl
def zlU{β:Type}(xm:zaQ)(zd:xI)(L:Nat)(A:List V)(z:Bool→Option β):Option β:=zpD xm zd L A z (fun C D=>zeB xm zd L (fun E=>zmA xm zd L E z) (znd xm zd L z) L C D)
theorem zxQ{β:Type}(xm:zaQ)(zd:xI)(L:Nat)(z:List V)(k:KK β):zp zbH (zbI xm zd L) L zdu [(V.agg z)] [] k=zlU xm zd L z (fun z=>k (V.sc (.bool z)) []):=by
 refine (zx8 xm zd L z k).trans ?_
 unfold zlU
 first
  | (simp only [zmH,zrs,zrM]; done)
  | (simp only [zmH]; rfl)
abbrev ze0:=∀ (β:Type),Nat→List V→(Bool→Option β)→Option β
def zI(β:Type)(L:Nat)(A:List V)(z:Bool→Option β):Option β:=zlU xm zd L A z
def ziV(zI:ze0)(L:Nat)(β:Type)(args:List V)(bor:Bor)(k:KK β):Option β:=match args,bor with
 | [a0],[]=>aG a0 fun z=>zI β L z (fun z=>k (V.sc (.bool z)) [])
 | _,_=>none
theorem zx0(L:Nat)(β:Type)(args:List V)(bor:Bor)(k:KK β)(r:β)(h:ziV zI L β args bor k=some r):zp zbH (zbI xm zd L) L zdu args bor k=some r:=by
 unfold ziV at h
 split at h
 ·have q:=yW h; clear h; obtain ⟨z,rfl,h⟩:=q
  exact (zxQ xm zd L z k).trans h
 ·cases h
end
end Go.Proofs.Ytbimgceighecgaa
