/- Part 13 of the proof of AddrbookFloods: an abstract machine over plain values, its soundness, and the functions of the program on plain values. -/
import Derived.Test.YtbimgceighecgaaMAddrbookFloods12
namespace Go.Proofs.Ytbimgceighecgaa
set_option linter.unusedVariables false
set_option linter.unusedSimpArgs false
open IntKind renaming wrap->QF
open List renaming take->XI,length->XG,take_succ_eq_append_getElem->XO,getElem?_eq_getElem->Wb,drop_eq_getElem_cons->WP,drop_of_length_le->WI,length_take->Ww,take_of_length_le->Xu,mem_take_iff_getElem->XR,pairwise_append->Xr,drop->XJ,all_eq_true->QN,length_append->Wm,drop_zero->XU,filter_append->XV,getElem?_append_right->Wt,pairwise_iff_getElem->XW,any_eq_false->XX,map_cons->QV,getElem?_take_of_lt->XY,getElem_mem->W1,map_nil->X0,map_append->X3,nil_append->XB,filter_eq_nil_iff->X4,mem_append->QC,length_filter_le->X5,mem_append_left->Xc,replicate_zero->X7,map->Xt
open Bool renaming true_and->XP,and_eq_true->Wg,false_and->Xo,not_eq_true'->Q8,and_assoc->X6
open Nat renaming zero_add->WB,reduceLeDiff->XQ,le_refl->Wq,reduceAdd->XS,reduceMul->XT,sub_zero->XZ
open Int renaming tmod->XM
open Option renaming getD->XL
section
set_option maxRecDepth 100000
def xV:CC:=(.seq (.reg [Qp 92 .lss (tq 91) (tq 90)]) (.seq (.cond (tq 92) .skip (.seq (.mask (bl 33849922949209616891798144 112) (bl 5192296858534827628530496329152447 112)) (.exit 4))) (.seq (.block 5 (.seq (.reg [Qo 93 5 (tq 89) (tq 91),Qk 94 5 (tq 93),oo 16 (.alloc true [(.sc (.int .i64 0)),(.sc (.int .u32 0)),(.sc (.int .u16 0)),(.sc (.int .u32 0)),(.sc (.int .u32 0))]),Qm 5 (tq 16) (tq 94)]) (.reg [Qh 95 (tq 14),Qh 96 (tq 95),⟨(some 97),false,(some (96,false)),.load true 5 (tq 13) false⟩,⟨(some 98),false,(some (96,false)),.load true 5 (tq 16) false⟩,⟨(some 99),false,(some (96,false)),.eqAgg false 5 (tq 97) (tq 98)⟩,oo 100 (.pick (tq 96) (Qg true) (tq 99)),Qh 14 (tq 100)]))) (.reg [Qp 101 .add (tq 91) (Qf 1),Qh 91 (tq 101)]))))
def zbr:CC:=(.seq (.reg [Qh 102 (tq 14),Qt 103 (tq 102),Qh 104 (tq 103),⟨(some 105),false,(some (104,true)),.move (tq 9) false⟩,⟨(some 106),false,(some (104,true)),.fieldAddr 0 (tq 13)⟩,⟨(some 107),false,(some (104,true)),.load false 1 (tq 106) false⟩,⟨(some 108),false,(some (104,true)),.call 388 [(Qw 105),(Qw 107)] []⟩,⟨(some 109),false,(some (104,true)),.un .not (tq 108)⟩,oo 110 (.pick (tq 104) (tq 109) (Qg false))]) (.cond (tq 110) (.seq (.reg [Qh 4 (Qg false)]) (.seq (.mask (bl 16 112) (bl 4867777066936361616367065409427263 112)) .ret)) .skip))
def zbX:CC:=(.reg [Qp 111 .add (tq 84) (Qf 1),Qh 84 (tq 111)])
def y7:CC:=(.seq (.reg [Qp 85 .lss (tq 84) (tq 83)]) (.seq (.cond (tq 85) .skip (.seq (.mask (bl 0 112) (bl 4867777066936361616367065409427247 112)) (.exit 2))) (.seq (.block 3 (.seq (.reg [Qo 86 5 (tq 82) (tq 84),Qk 87 5 (tq 86),oo 13 (.alloc true [(.sc (.int .i64 0)),(.sc (.int .u32 0)),(.sc (.int .u16 0)),(.sc (.int .u32 0)),(.sc (.int .u32 0))]),Qm 5 (tq 13) (tq 87)]) (.seq (.reg [Qh 14 (Qg false)]) (.seq (.seq (.reg [Ql 88 32 (tq 7),Qj 89 1 (tq 88),Qr 90 (tq 89),Qh 91 (Qf 0)]) (.block 4 (.loop (bl 4366640060448040579038732928 112) (bl 5192296858534827628530496329152447 112) xV))) zbr)))) zbX)))
def zaE:CC:=(.seq (.reg [Qp 58 .lss (tq 57) (tq 56)]) (.seq (.cond (tq 58) .skip (.seq (.mask (bl 704 112) (bl 5192296858420900537131266138363903 112)) (.exit 0))) (.seq (.block 1 (.seq (.reg [Qo 59 5 (tq 55) (tq 57),Qk 60 5 (tq 59),oo 11 (.alloc true [(.sc (.int .i64 0)),(.sc (.int .u32 0)),(.sc (.int .u16 0)),(.sc (.int .u32 0)),(.sc (.int .u32 0))]),Qm 5 (tq 11) (tq 60)]) (.seq (.reg [Ql 61 4 (tq 11),Qj 62 1 (tq 61),Qh 63 (tq 1),Qp 64 .eql (tq 62) (tq 63),Qh 65 (tq 64),⟨(some 66),false,(some (65,true)),.move (tq 9) false⟩,⟨(some 67),false,(some (65,true)),.fieldAddr 0 (tq 11)⟩,⟨(some 68),false,(some (65,true)),.load false 1 (tq 67) false⟩,⟨(some 69),false,(some (65,true)),.call 388 [(Qw 66),(Qw 68)] []⟩,⟨(some 70),false,(some (65,true)),.un .not (tq 69)⟩,oo 71 (.pick (tq 65) (tq 70) (Qg false))]) (.cond (tq 71) (.reg [Qi 72 (tq 9),Ql 73 0 (tq 11),Qj 74 1 (tq 73),oo 75 (.buildSlice 1 1 [(.sc (.int .i64 0))] [(0,1,(tq 74))]),oo 76 (.append 1 8 (tq 72) (tq 75)),Qi 9 (tq 76)]) .skip)))) (.reg [Qp 77 .add (tq 57) (Qf 1),Qh 57 (tq 77)]))))
def zbN:CC:=(.seq (.reg [Qh 4 (Qg true)]) .ret)
def zb4:CC:=(.seq (.seq (.reg [Qh 78 (tq 9),Qr 79 (tq 78),Qp 80 .gtr (tq 79) (Qf 4)]) (.cond (tq 80) (.seq (.reg [Qh 4 (Qg false)]) .ret) .skip)) (.seq (.seq (.reg [Ql 81 32 (tq 6),Qj 82 1 (tq 81),Qr 83 (tq 82),Qh 84 (Qf 0)]) (.block 2 (.loop (bl 33849922949209616891773568 112) (bl 4867777066936361616367065409427375 112) y7))) zbN))
def zW:CF:=⟨112,[.tmp 4],(.seq (.reg [Qh 4 (Qg false)]) (.seq (.seq (.reg [Qs 17 379 [],Qt 18 (tq 17)]) (.cond (tq 18) (.seq (.reg [Qh 4 (Qg false)]) .ret) .skip)) (.seq (.reg [Qh 19 (tq 0),Qs 20 225 [(Qw 19)],Qh 5 (tq 20)]) (.seq (.reg [Qh 21 (tq 5),Qs 22 260 [(Qw 21)],oo 6 (.alloc true (rp 32 (.sc (.int .u8 0)) (rp 2 (.gs 5 []) []))),Qm 34 (tq 6) (tq 22)]) (.seq (.reg [Qh 23 (tq 1),oo 24 (.bin .rem (tq 23) (.const (.sc (.int .u32 5)))),oo 25 (.bin .add (.const (.sc (.int .u32 10))) (tq 24)),Qh 1 (tq 25)]) (.seq (.reg [Qh 27 (tq 5),Qk 28 34 (tq 6),Qh 29 (tq 1),Qs 30 386 [(Qw 27),((tq 28),1),(Qw 29)],Qi 26 (tq 30),Qq 31 (tq 26) 0,Qq 32 (tq 26) 1,oo 7 (.alloc true (rp 32 (.sc (.int .u8 0)) (rp 2 (.gs 5 []) []))),Qm 34 (tq 7) (tq 31),Qh 8 (tq 32)]) (.seq (.seq (.reg [Qh 33 (tq 8),Qt 34 (tq 33),Qh 35 (tq 34),⟨(some 36),false,(some (35,false)),.load true 34 (tq 7) false⟩,⟨(some 37),false,(some (35,false)),.move (tq 1) false⟩,⟨(some 38),false,(some (35,false)),.call 384 [((tq 36),1),(Qw 37)] []⟩,⟨(some 39),false,(some (35,false)),.bin .gtr (tq 38) (Qf 32)⟩,oo 40 (.pick (tq 35) (Qg true) (tq 39)),Qh 41 (tq 40),⟨(some 42),false,(some (41,false)),.fieldAddr 33 (tq 6)⟩,⟨(some 43),false,(some (41,false)),.load false 1 (tq 42) false⟩,⟨(some 44),false,(some (41,false)),.fieldAddr 33 (tq 7)⟩,⟨(some 45),false,(some (41,false)),.load false 1 (tq 44) false⟩,⟨(some 46),false,(some (41,false)),.call 387 [(Qw 43),(Qw 45)] []⟩,⟨(some 47),false,(some (41,false)),.un .not (tq 46)⟩,oo 48 (.pick (tq 41) (Qg true) (tq 47)),Qh 49 (tq 48),⟨(some 50),false,(some (49,false)),.load true 34 (tq 7) false⟩,⟨(some 51),false,(some (49,false)),.call 275 [((tq 50),1)] []⟩,⟨(some 52),false,(some (49,false)),.un .not (tq 51)⟩,oo 53 (.pick (tq 49) (Qg true) (tq 52))]) (.cond (tq 53) (.seq (.reg [Qh 4 (Qg false)]) .ret) .skip)) (.seq (.reg [Qi 9 (.const (.gs 1 []))]) (.seq (.seq (.reg [Ql 54 32 (tq 7),Qj 55 1 (tq 54),Qr 56 (tq 55),Qh 57 (Qf 0)]) (.block 0 (.loop (bl 252201579132748482 112) (bl 5192296858420900537131266138363903 112) zaE))) zb4)))))))))⟩
def zju:Hint:=⟨[(4,2),(6,4),(6,7),(9,0),(14,0),(14,5)],[],[none,none,none,none,none,some ((bl 252201579132748482 112),(bl 5192296858420900537131266138363903 112)),none,some ((bl 704 112),(bl 5192296858420900537131266138363903 112)),none,none,none,none,none,some ((bl 33849922949209616891773568 112),(bl 4867777066936361616367065409427375 112)),none,some ((bl 0 112),(bl 4867777066936361616367065409427247 112)),none,none,some ((bl 4366640060448040579038732928 112),(bl 5192296858534827628530496329152447 112)),none,some ((bl 33849922949209616891798144 112),(bl 5192296858534827628530496329152447 112)),none,none,some ((bl 16 112),(bl 4867777066936361616367065409427263 112)),none],[],[],false,false,[]⟩
def yp:Nat→Sh:=xW [(43,(.sl 5)),(45,(.sl 5)),(55,(.sl 5)),(62,(.int .u32)),(68,(.int .i64)),(74,(.int .i64)),(82,(.sl 5)),(89,(.sl 5)),(107,(.int .i64))]
def xo(xd:zJ)(xf:yP)(zf:yM)(yd:zF)(zc:zx)(za:zu)(ya:yv)(xe:xL)(L:Nat):CBC:=(yD 388 (zo9 xe L) (yD 275 (zfB ya L) (yD 387 (zgw za L) (yD 384 (ziF zc L) (yD 386 (zlN yd L) (yD 260 (zo5 zf L) (yD 225 (zqt xf L) (yD 379 (zmT xd L) noC))))))))
def zbM:St→St:=zaH 0 (bl 252201579132748482 112) (bl 5192296858420900537131266138363903 112)
def zV:St→St:=zaH 0 (bl 33849922949209616891773568 112) (bl 4867777066936361616367065409427375 112)
def zah:St→St:=zaH 0 (bl 4366640060448040579038732928 112) (bl 5192296858534827628530496329152447 112)
def zbc(F:Int)(G C:List (List V))(D E:Int)(I J:List V)(z:List (List V))(A:Int):St:=⟨(jn 1 ((Qc F)::(jn 4 ((V.ptr 6 0)::((V.ptr 7 0)::(jn 1 ((V.gs 1 G)::(jn 45 ((V.sl 5 C)::((Qe D)::((Qe E)::(jn 54 [])))))))))))),(gn 6 ((.live true I)::((.live true J)::(gn 12 ((.live false [(V.sl 1 z),(Qe A)])::(gn 91 []))))))⟩
def zdi(C:List (List V))(D E:List V)(z:List (List V))(A:Int):St:=⟨(jn 6 ((V.ptr 6 0)::((V.ptr 7 0)::(jn 1 ((V.gs 1 C)::(jn 102 [])))))),(gn 6 ((.live true D)::((.live true E)::(gn 12 ((.live false [(V.sl 1 z),(Qe A)])::(gn 91 []))))))⟩
def zZ(F C:List (List V))(D E:Int)(G:List V)(z:List (List V))(A:Int):St:=⟨(jn 7 ((V.ptr 7 0)::(jn 1 ((V.gs 1 F)::(jn 72 ((V.sl 5 C)::((Qe D)::((Qe E)::(jn 27 []))))))))),(gn 7 ((.live true G)::(gn 12 ((.live false [(V.sl 1 z),(Qe A)])::(gn 91 [])))))⟩
def zaa(N:List (List V))(C:Bool)(D:List (List V))(E F:Int)(G:List (List V))(I J:Int)(O M:List V)(z:List (List V))(A:Int):St:=⟨(jn 7 ((V.ptr 7 0)::(jn 1 ((V.gs 1 N)::(jn 3 ((V.ptr 13 0)::((V.sc (.bool C))::(jn 67 ((V.sl 5 D)::((Qe E)::((Qe F)::(jn 4 ((V.sl 5 G)::((Qe I)::((Qe J)::(jn 20 [])))))))))))))))),(gn 7 ((.live true O)::(gn 5 ((.live true M)::(gn 6 ((.live false [(V.sl 1 z),(Qe A)])::(gn 91 [])))))))⟩
def zdd(z:List (List V))(A:Int):St:=⟨(jn 112 []),(gn 20 ((.live false [(V.sl 1 z),(Qe A)])::(gn 91 [])))⟩
def ze6(I:List (List V))(C:Bool)(D:List (List V))(E F:Int)(J G:List V)(z:List (List V))(A:Int):St:=⟨(jn 7 ((V.ptr 7 0)::(jn 1 ((V.gs 1 I)::(jn 3 ((V.ptr 13 0)::((V.sc (.bool C))::(jn 67 ((V.sl 5 D)::((Qe E)::((Qe F)::(jn 27 [])))))))))))),(gn 7 ((.live true J)::(gn 5 ((.live true G)::(gn 6 ((.live false [(V.sl 1 z),(Qe A)])::(gn 91 [])))))))⟩
def zcZ(C:Bool)(z:List (List V))(A:Int):St:=⟨(jn 4 ((V.sc (.bool C))::(jn 107 []))),(gn 20 ((.live false [(V.sl 1 z),(Qe A)])::(gn 91 [])))⟩
abbrev zff(β:Type):Type:=Int→List (List V)→List (List V)→Int→Int→List V→List V→List (List V)→Int→Option β
abbrev zfO(β:Type):Type:=List (List V)→List V→List V→List (List V)→Int→Option β
abbrev zcg(β:Type):Type:=List (List V)→List (List V)→Int→Int→List V→List (List V)→Int→Option β
abbrev zcL(β:Type):Type:=List (List V)→Bool→List (List V)→Int→Int→List (List V)→Int→Int→List V→List V→List (List V)→Int→Option β
abbrev zfA(β:Type):Type:=List (List V)→Bool→List (List V)→Int→Int→List V→List V→List (List V)→Int→Option β
def zg0{β:Type}(xd:zJ)(xf:yP)(zf:yM)(yd:zF)(zc:zx)(za:zu)(ya:yv)(xe:xL)(L:Nat)(S:List (List V))(U:Int)(z:Bool→Option β)(A:zff β):Option β:=xd β L  (fun W=>ifb (!W) (z false) (xf β L S (fun X Y=>zf β L X Y (fun F Z v5=>chk ((XG F)=34∧0+34≤34) (lt (yh (List.replicate 32 (Qa (0:Int))++[(V.gs 5 ([]:List (List V))),(V.gs 5 ([]:List (List V)))]) 0 F) fun r6=>lt (XM U (5:Int)) fun x7=>lt (QF .u32 (((10:Int):Int)+x7)) fun E=>chk (0+34≤(XG r6)) (yd β L (Xt V.dem (XI 34 r6)) E Z v5 (fun G I J M=>chk ((XG G)=34∧0+34≤34) (lt (yh (List.replicate 32 (Qa (0:Int))++[(V.gs 5 ([]:List (List V))),(V.gs 5 ([]:List (List V)))]) 0 G) fun C=>ifb (!I) (z false) (chk (0+34≤(XG C)) (zc β L (Xt V.dem (XI 34 C)) E (fun N=>ifb (decide (N>(32:Int))) (z false) (cLd 5 r6 33 fun O=>cLd 5 C 33 fun P=>za β L O P (fun Q=>ifb (!Q) (z false) (chk (0+34≤(XG C)) (ya β L (Xt V.dem (XI 34 C)) (fun R=>ifb (!R) (z false) (cLd 5 C 32 fun D=>A E ([]:List (List V)) D ((XG D:Nat):Int) (0:Int) r6 C J M)))))))))))))))))
theorem zqk{β:Type}(xd:zJ)(xf:yP)(zf:yM)(yd:zF)(zc:zx)(za:zu)(ya:yv)(xe:xL)(L:Nat)(z:List (List V))(A:Int)(k:KK β):zp yp (xo xd xf zf yd zc za ya xe L) L zW [(V.sl 1 z),(Qc A)] [] k=zg0 xd xf zf yd zc za ya xe L z A (fun z=>k (V.sc (.bool z)) []) (fun A I E F G J M C D=>xz (yi yp (xo xd xf zf yd zc za ya xe L) 0 L zaE) zbM L (zbc A I E F G J M C D) (zz 0 (xK (yi yp (xo xd xf zf yd zc za ya xe L) 0 L zb4) (yR 0 (CF.res zW) k)))):=by kernel_rfl
def zc2{β:Type}(xd:zJ)(xf:yP)(zf:yM)(yd:zF)(zc:zx)(za:zu)(ya:yv)(xe:xL)(L:Nat)(M:Int)(E F:List (List V))(G D:Int)(N O:List V)(A:List (List V))(C:Int)(z:zff β)(Q:zfO β):Option β:=ifb (decide (D<G)) (idx F D fun P=>chk ((XG (XI 5 P))=5∧0+5≤5) (lt (yh [(Qe (0:Int)),(Qc (0:Int)),(Qb (0:Int)),(Qc (0:Int)),(Qc (0:Int))] 0 (XI 5 P)) fun I=>cI .u32 I 4 fun R=>ifb ((R:Int)==M) (cI .i64 I 0 fun S=>xe β L E S (fun U=>ifb (!U) (cI .i64 I 0 fun J=>chk ((XG E+XG (xh 1 1 [(Qe J)]))*8≤xq∧XG E+XG (xh 1 1 [(Qe J)])≤xq) (lt (E++(xh 1 1 [(Qe J)])) fun W=>lt (QF .i64 ((D:Int)+(1:Int))) fun X=>z M W F G X N O A C)) (lt (QF .i64 ((D:Int)+(1:Int))) fun Y=>z M E F G Y N O A C))) (lt (QF .i64 ((D:Int)+(1:Int))) fun Z=>z M E F G Z N O A C))) (Q E N O A C)
theorem zkx{β:Type}(xd:zJ)(xf:yP)(zf:yM)(yd:zF)(zc:zx)(za:zu)(ya:yv)(xe:xL)(L:Nat)(J:Int)(F C:List (List V))(D E:Int)(G I:List V)(z:List (List V))(A:Int)(X:St→Option β)(K:KT β):yi yp (xo xd xf zf yd zc za ya xe L) 0 L zaE (zbc J F C D E G I z A) (zbo zbM X K)=zc2 xd xf zf yd zc za ya xe L J F C D E G I z A (fun J F C D E G I z A=>X (zbc J F C D E G I z A)) (fun F G I z A=>K (.exit 0) (zdi F G I z A)):=by kernel_rfl
def zcG{β:Type}(xd:zJ)(xf:yP)(zf:yM)(yd:zF)(zc:zx)(za:zu)(ya:yv)(xe:xL)(L:Nat)(F:List (List V))(G I:List V)(A:List (List V))(C:Int)(D:Bool→Option β)(z:zcg β):Option β:=ifb (decide (((XG F:Nat):Int)>(4:Int))) (D false) (cLd 5 G 32 fun E=>z F E ((XG E:Nat):Int) (0:Int) I A C)
theorem zji{β:Type}(xd:zJ)(xf:yP)(zf:yM)(yd:zF)(zc:zx)(za:zu)(ya:yv)(xe:xL)(L:Nat)(C:List (List V))(E D:List V)(z:List (List V))(A:Int)(k:KK β):(zz 0 (xK (yi yp (xo xd xf zf yd zc za ya xe L) 0 L zb4) (yR 0 (CF.res zW) k))) (.exit 0) (zdi C E D z A)=zcG xd xf zf yd zc za ya xe L C E D z A (fun J=>k (V.sc (.bool J)) []) (fun C F G I D z A=>xz (yi yp (xo xd xf zf yd zc za ya xe L) 0 L y7) zV L (zZ C F G I D z A) (zz 2 (xK (yi yp (xo xd xf zf yd zc za ya xe L) 0 L zbN) (yR 0 (CF.res zW) k)))):=by kernel_rfl
def zcH{β:Type}(xd:zJ)(xf:yP)(zf:yM)(yd:zF)(zc:zx)(za:zu)(ya:yv)(xe:xL)(L:Nat)(O E:List (List V))(F D:Int)(M:List V)(A:List (List V))(C:Int)(z:zcL β)(J:List (List V)→Int→Option β):Option β:=ifb (decide (D<F)) (idx E D fun G=>chk ((XG (XI 5 G))=5∧0+5≤5) (lt (yh [(Qe (0:Int)),(Qc (0:Int)),(Qb (0:Int)),(Qc (0:Int)),(Qc (0:Int))] 0 (XI 5 G)) fun N=>cLd 5 M 32 fun I=>z O false E F D I ((XG I:Nat):Int) (0:Int) M N A C)) (J A C)
theorem zi4{β:Type}(xd:zJ)(xf:yP)(zf:yM)(yd:zF)(zc:zx)(za:zu)(ya:yv)(xe:xL)(L:Nat)(F C:List (List V))(D E:Int)(G:List V)(z:List (List V))(A:Int)(X:St→Option β)(K:KT β):yi yp (xo xd xf zf yd zc za ya xe L) 0 L y7 (zZ F C D E G z A) (zbo zV X K)=zcH xd xf zf yd zc za ya xe L F C D E G z A (fun F I C D E J M N G O z A=>xz (yi yp (xo xd xf zf yd zc za ya xe L) 0 L xV) zah L (zaa F I C D E J M N G O z A) (zz 4 (xK (yi yp (xo xd xf zf yd zc za ya xe L) 0 L zbr) (zz 3 (xK (yi yp (xo xd xf zf yd zc za ya xe L) 0 L zbX) (zbo zV X K)))))) (fun z A=>K (.exit 2) (zdd z A)):=by kernel_rfl
def zem{β:Type}(xd:zJ)(xf:yP)(zf:yM)(yd:zF)(zc:zx)(za:zu)(ya:yv)(xe:xL)(L:Nat)(A:List (List V))(C:Int)(z:Bool→Option β):Option β:=z true
theorem ziq{β:Type}(xd:zJ)(xf:yP)(zf:yM)(yd:zF)(zc:zx)(za:zu)(ya:yv)(xe:xL)(L:Nat)(z:List (List V))(A:Int)(k:KK β):(zz 2 (xK (yi yp (xo xd xf zf yd zc za ya xe L) 0 L zbN) (yR 0 (CF.res zW) k))) (.exit 2) (zdd z A)=zem xd xf zf yd zc za ya xe L z A (fun C=>k (V.sc (.bool C)) []):=by kernel_rfl
def zbe{β:Type}(xd:zJ)(xf:yP)(zf:yM)(yd:zF)(zc:zx)(za:zu)(ya:yv)(xe:xL)(L:Nat)(Q:List (List V))(N:Bool)(F:List (List V))(G I:Int)(J:List (List V))(M E:Int)(R D:List V)(A:List (List V))(C:Int)(z:zcL β)(S:zfA β):Option β:=ifb (decide (E<M)) (idx J E fun O=>chk ((XG (XI 5 O))=5∧0+5≤5) (lt (yh [(Qe (0:Int)),(Qc (0:Int)),(Qb (0:Int)),(Qc (0:Int)),(Qc (0:Int))] 0 (XI 5 O)) fun P=>ifb N (lt (QF .i64 ((E:Int)+(1:Int))) fun U=>z Q true F G I J M U R D A C) (chk (0+5≤(XG D)) (chk (0+5≤(XG P)) (eqC 5 (XI 5 D) (XI 5 P) fun W=>lt (QF .i64 ((E:Int)+(1:Int))) fun X=>z Q W F G I J M X R D A C))))) (S Q N F G I R D A C)
theorem zfD{β:Type}(xd:zJ)(xf:yP)(zf:yM)(yd:zF)(zc:zx)(za:zu)(ya:yv)(xe:xL)(L:Nat)(N:List (List V))(C:Bool)(D:List (List V))(E F:Int)(I:List (List V))(J M:Int)(O G:List V)(z:List (List V))(A:Int)(X:St→Option β)(K:KT β):yi yp (xo xd xf zf yd zc za ya xe L) 0 L xV (zaa N C D E F I J M O G z A) (zbo zah X K)=zbe xd xf zf yd zc za ya xe L N C D E F I J M O G z A (fun N C D E F I J M O G z A=>X (zaa N C D E F I J M O G z A)) (fun N C D E F O G z A=>K (.exit 4) (ze6 N C D E F O G z A)):=by kernel_rfl
def zU{β:Type}(xd:zJ)(xf:yP)(zf:yM)(yd:zF)(zc:zx)(za:zu)(ya:yv)(xe:xL)(L:Nat)(I:List (List V))(J:Bool)(E:List (List V))(F G:Int)(M N:List V)(A:List (List V))(C:Int)(D:Bool→List (List V)→Int→Option β)(z:zcg β):Option β:=ifb (!J) (cI .i64 N 0 fun O=>xe β L I O (fun P=>ifb (!P) (D false A C) (lt (QF .i64 ((G:Int)+(1:Int))) fun Q=>z I E F Q M A C))) (lt (QF .i64 ((G:Int)+(1:Int))) fun R=>z I E F R M A C)
theorem zft{β:Type}(xd:zJ)(xf:yP)(zf:yM)(yd:zF)(zc:zx)(za:zu)(ya:yv)(xe:xL)(L:Nat)(F:List (List V))(I:Bool)(C:List (List V))(D E:Int)(G J:List V)(z:List (List V))(A:Int)(X:St→Option β)(K:KT β):(zz 4 (xK (yi yp (xo xd xf zf yd zc za ya xe L) 0 L zbr) (zz 3 (xK (yi yp (xo xd xf zf yd zc za ya xe L) 0 L zbX) (zbo zV X K))))) (.exit 4) (ze6 F I C D E G J z A)=zU xd xf zf yd zc za ya xe L F I C D E G J z A (fun M z A=>K .ret (zcZ M z A)) (fun F C D E G z A=>X (zZ F C D E G z A)):=by kernel_rfl
def zd2{β:Type}(xd:zJ)(xf:yP)(zf:yM)(yd:zF)(zc:zx)(za:zu)(ya:yv)(xe:xL)(L:Nat)(D:Bool)(A:List (List V))(C:Int)(z:Bool→Option β):Option β:=z D
theorem zh0{β:Type}(xd:zJ)(xf:yP)(zf:yM)(yd:zF)(zc:zx)(za:zu)(ya:yv)(xe:xL)(L:Nat)(C:Bool)(z:List (List V))(A:Int)(k:KK β):(zz 2 (xK (yi yp (xo xd xf zf yd zc za ya xe L) 0 L zbN) (yR 0 (CF.res zW) k))) .ret (zcZ C z A)=zd2 xd xf zf yd zc za ya xe L C z A (fun D=>k (V.sc (.bool D)) []):=by kernel_rfl
def zaK{β:Type}(xd:zJ)(xf:yP)(zf:yM)(yd:zF)(zc:zx)(za:zu)(ya:yv)(xe:xL)(L:Nat)(C:zfO β):Nat→Int→List (List V)→List (List V)→Int→Int→List V→List V→List (List V)→Int→Option β
 | 0,_,_,_,_,_,_,_,_,_=>none
 | n+1,G,I,D,E,F,J,M,z,A=>zc2 xd xf zf yd zc za ya xe L G I D E F J M z A (fun G I D E F J M z A=>zaK xd xf zf yd zc za ya xe L C n G I D E F J M z A) C
theorem zeH{β:Type}(xd:zJ)(xf:yP)(zf:yM)(yd:zF)(zc:zx)(za:zu)(ya:yv)(xe:xL)(L:Nat)(K:KT β):∀ (n:Nat) (J:Int) (F C:List (List V)) (D E:Int) (G I:List V) (z:List (List V)) (A:Int),xz (yi yp (xo xd xf zf yd zc za ya xe L) 0 L zaE) zbM n (zbc J F C D E G I z A) K=zaK xd xf zf yd zc za ya xe L (fun F G I z A=>K (.exit 0) (zdi F G I z A)) n J F C D E G I z A:=by
 intro n
 induction n with
 | zero=>intros; rfl
 | succ n ih=>
  intro J F C D E G I z A
  refine (zkx xd xf zf yd zc za ya xe L J F C D E G I z A (fun σ=>xz (yi yp (xo xd xf zf yd zc za ya xe L) 0 L zaE) zbM n σ K) K).trans ?_
  simp only [ih]
  rfl
def yX{β:Type}(xd:zJ)(xf:yP)(zf:yM)(yd:zF)(zc:zx)(za:zu)(ya:yv)(xe:xL)(L:Nat)(C:zfA β):Nat→List (List V)→Bool→List (List V)→Int→Int→List (List V)→Int→Int→List V→List V→List (List V)→Int→Option β
 | 0,_,_,_,_,_,_,_,_,_,_,_,_=>none
 | n+1,O,D,E,F,G,I,J,M,P,N,z,A=>zbe xd xf zf yd zc za ya xe L O D E F G I J M P N z A (fun O D E F G I J M P N z A=>yX xd xf zf yd zc za ya xe L C n O D E F G I J M P N z A) C
theorem zce{β:Type}(xd:zJ)(xf:yP)(zf:yM)(yd:zF)(zc:zx)(za:zu)(ya:yv)(xe:xL)(L:Nat)(K:KT β):∀ (n:Nat) (N:List (List V)) (C:Bool) (D:List (List V)) (E F:Int) (I:List (List V)) (J M:Int) (O G:List V) (z:List (List V)) (A:Int),xz (yi yp (xo xd xf zf yd zc za ya xe L) 0 L xV) zah n (zaa N C D E F I J M O G z A) K=yX xd xf zf yd zc za ya xe L (fun N C D E F O G z A=>K (.exit 4) (ze6 N C D E F O G z A)) n N C D E F I J M O G z A:=by
 intro n
 induction n with
 | zero=>intros; rfl
 | succ n ih=>
  intro N C D E F I J M O G z A
  refine (zfD xd xf zf yd zc za ya xe L N C D E F I J M O G z A (fun σ=>xz (yi yp (xo xd xf zf yd zc za ya xe L) 0 L xV) zah n σ K) K).trans ?_
  simp only [ih]
  rfl
def zbd{β:Type}(xd:zJ)(xf:yP)(zf:yM)(yd:zF)(zc:zx)(za:zu)(ya:yv)(xe:xL)(L:Nat)(G D:List (List V))(E F:Int)(I:List V)(A:List (List V))(C:Int)(O:List (List V)→Int→Option β)(N:Bool→List (List V)→Int→Option β)(z:zcg β):Option β:=zcH xd xf zf yd zc za ya xe L G D E F I A C (fun G J D E F P Q R I M A C=>yX xd xf zf yd zc za ya xe L (fun G J D E F I M A C=>zU xd xf zf yd zc za ya xe L G J D E F I M A C N z) L G J D E F P Q R I M A C) O
theorem ziT{β:Type}(xd:zJ)(xf:yP)(zf:yM)(yd:zF)(zc:zx)(za:zu)(ya:yv)(xe:xL)(L:Nat)(F C:List (List V))(D E:Int)(G:List V)(z:List (List V))(A:Int)(X:St→Option β)(K:KT β):yi yp (xo xd xf zf yd zc za ya xe L) 0 L y7 (zZ F C D E G z A) (zbo zV X K)=zbd xd xf zf yd zc za ya xe L F C D E G z A (fun z A=>K (.exit 2) (zdd z A)) (fun I z A=>K .ret (zcZ I z A)) (fun F C D E G z A=>X (zZ F C D E G z A)):=by
 refine (zi4 xd xf zf yd zc za ya xe L F C D E G z A X K).trans ?_
 unfold zbd
 first
  | (simp only [zce,zft]; done)
  | (simp only [zce]; rfl)
def y8{β:Type}(xd:zJ)(xf:yP)(zf:yM)(yd:zF)(zc:zx)(za:zu)(ya:yv)(xe:xL)(L:Nat)(D:List (List V)→Int→Option β)(C:Bool→List (List V)→Int→Option β):Nat→List (List V)→List (List V)→Int→Int→List V→List (List V)→Int→Option β
 | 0,_,_,_,_,_,_,_=>none
 | n+1,I,E,F,G,J,z,A=>zbd xd xf zf yd zc za ya xe L I E F G J z A D C (fun I E F G J z A=>y8 xd xf zf yd zc za ya xe L D C n I E F G J z A)
theorem zd3{β:Type}(xd:zJ)(xf:yP)(zf:yM)(yd:zF)(zc:zx)(za:zu)(ya:yv)(xe:xL)(L:Nat)(K:KT β):∀ (n:Nat) (F C:List (List V)) (D E:Int) (G:List V) (z:List (List V)) (A:Int),xz (yi yp (xo xd xf zf yd zc za ya xe L) 0 L y7) zV n (zZ F C D E G z A) K=y8 xd xf zf yd zc za ya xe L (fun z A=>K (.exit 2) (zdd z A)) (fun I z A=>K .ret (zcZ I z A)) n F C D E G z A:=by
 intro n
 induction n with
 | zero=>intros; rfl
 | succ n ih=>
  intro F C D E G z A
  refine (ziT xd xf zf yd zc za ya xe L F C D E G z A (fun σ=>xz (yi yp (xo xd xf zf yd zc za ya xe L) 0 L y7) zV n σ K) K).trans ?_
  simp only [ih]
  rfl
def za9{β:Type}(xd:zJ)(xf:yP)(zf:yM)(yd:zF)(zc:zx)(za:zu)(ya:yv)(xe:xL)(L:Nat)(D:List (List V))(J E:List V)(z:List (List V))(A:Int)(C:Bool→Option β):Option β:=zcG xd xf zf yd zc za ya xe L D J E z A C (fun D F G I E z A=>y8 xd xf zf yd zc za ya xe L (fun z A=>zem xd xf zf yd zc za ya xe L z A C) (fun M z A=>zd2 xd xf zf yd zc za ya xe L M z A C) L D F G I E z A)
theorem ziR{β:Type}(xd:zJ)(xf:yP)(zf:yM)(yd:zF)(zc:zx)(za:zu)(ya:yv)(xe:xL)(L:Nat)(C:List (List V))(D E:List V)(z:List (List V))(A:Int)(k:KK β):(zz 0 (xK (yi yp (xo xd xf zf yd zc za ya xe L) 0 L zb4) (yR 0 (CF.res zW) k))) (.exit 0) (zdi C D E z A)=za9 xd xf zf yd zc za ya xe L C D E z A (fun F=>k (V.sc (.bool F)) []):=by
 refine (zji xd xf zf yd zc za ya xe L C D E z A k).trans ?_
 unfold za9
 first
  | (simp only [zd3,ziq,zh0]; done)
  | (simp only [zd3]; rfl)
def zer{β:Type}(xd:zJ)(xf:yP)(zf:yM)(yd:zF)(zc:zx)(za:zu)(ya:yv)(xe:xL)(L:Nat)(N:List (List V))(D:Int)(C:Bool→Option β):Option β:=zg0 xd xf zf yd zc za ya xe L N D C (fun D E I J M F G z A=>zaK xd xf zf yd zc za ya xe L (fun E F G z A=>za9 xd xf zf yd zc za ya xe L E F G z A C) L D E I J M F G z A)
theorem zqv{β:Type}(xd:zJ)(xf:yP)(zf:yM)(yd:zF)(zc:zx)(za:zu)(ya:yv)(xe:xL)(L:Nat)(z:List (List V))(A:Int)(k:KK β):zp yp (xo xd xf zf yd zc za ya xe L) L zW [(V.sl 1 z),(Qc A)] [] k=zer xd xf zf yd zc za ya xe L z A (fun z=>k (V.sc (.bool z)) []):=by
 refine (zqk xd xf zf yd zc za ya xe L z A k).trans ?_
 unfold zer
 first
  | (simp only [zeH,ziR]; done)
  | (simp only [zeH]; rfl)
abbrev zsP:=∀ (β:Type),Nat→List (List V)→Int→(Bool→Option β)→Option β
def zaJ(β:Type)(L:Nat)(A:List (List V))(C:Int)(z:Bool→Option β):Option β:=zer xd xf zf yd zc za ya xe L A C z
def zez(zaJ:zsP)(L:Nat)(β:Type)(args:List V)(bor:Bor)(k:KK β):Option β:=match args,bor with
 | [a0,a1],[]=>aL 1 a0 fun z=>aI .u32 a1 fun A=>zaJ β L z A (fun z=>k (V.sc (.bool z)) [])
 | _,_=>none
theorem zql(L:Nat)(β:Type)(args:List V)(bor:Bor)(k:KK β)(r:β)(h:zez zaJ L β args bor k=some r):zp yp (xo xd xf zf yd zc za ya xe L) L zW args bor k=some r:=by
 unfold zez at h
 split at h
 ·have q:=zaT h; clear h; obtain ⟨z,rfl,h⟩:=q
  have q:=yB h; clear h; obtain ⟨A,rfl,h⟩:=q
  exact (zqv xd xf zf yd zc za ya xe L z A k).trans h
 ·cases h
def gls:List (Nat × List V):=[]
def fg:List (Nat × Nat):=[(3,374),(4,375),(5,376),(6,377),(7,378),(8,379),(9,225),(10,260),(11,380),(12,381),(13,382),(14,273),(15,383),(16,269),(17,294),(18,297),(19,305),(20,299),(21,290),(22,275),(23,281),(24,384),(25,385),(26,386),(27,387),(28,388),(29,231),(30,389),(31,272),(32,390),(33,391),(34,392),(35,393),(36,236),(37,262),(38,288),(39,217),(40,394),(41,395),(42,396),(43,293),(44,109),(45,105),(46,157),(47,110),(48,106),(49,159),(50,205),(51,304),(52,295),(53,296),(54,298),(55,302),(56,287),(57,247),(58,397),(59,398),(60,399),(61,400),(62,289),(63,291),(64,292),(65,401),(66,402),(67,403),(68,404),(69,112),(70,111),(71,113),(72,191),(73,192),(74,115),(75,114),(76,116),(77,193),(78,194),(79,303),(80,405),(81,406),(82,118),(83,407),(84,408)]
def rows:List Row:=[⟨69,112,zuL,zgV⟩,⟨44,109,zvI,zqC⟩,⟨16,269,zn9,zhp⟩,⟨73,192,zp5,zdH⟩,⟨72,191,zp3,zjx⟩,⟨46,157,zmP,zgG⟩,⟨82,118,zh1,zdv⟩,⟨71,113,zr1,zeY⟩,⟨70,111,zsf,zlP⟩,⟨45,105,zvC,zih⟩,⟨18,297,zjy,zdY⟩,⟨53,296,zms,zf5⟩,⟨52,295,zoh,zby⟩,⟨50,205,zmW,zgP⟩,⟨20,299,zjR,zdU⟩,⟨54,298,zmp,zf8⟩,⟨22,275,zn8,zhe⟩,⟨65,401,zd6,za8⟩,⟨40,394,znf,zgv⟩,⟨68,404,zpz,zii⟩,⟨67,403,znt,zgT⟩,⟨66,402,zdp,xJ⟩,⟨41,395,zpv,zie⟩,⟨59,398,znM,zaL⟩,⟨61,400,zdS,za2⟩,⟨42,396,zob,zcS⟩,⟨13,382,zod,zhs⟩,⟨8,379,zr4,zlS⟩,⟨9,225,zuG,zpb⟩,⟨57,247,zn6,zhm⟩,⟨39,217,zuD,zo4⟩,⟨29,231,zof,zhh⟩,⟨36,236,ztb,zm2⟩,⟨74,115,zrU,ze1⟩,⟨47,110,zs3,zn0⟩,⟨78,194,zp6,zdM⟩,⟨77,193,zqc,zjz⟩,⟨49,159,znx,zgF⟩,⟨51,304,znH,zgz⟩,⟨76,116,zrd,zkY⟩,⟨75,114,zp8,zjC⟩,⟨48,106,zti,zfT⟩,⟨17,294,zri,zkL⟩,⟨21,290,zlC,zfp⟩,⟨19,305,zly,zfk⟩,⟨79,303,zsd,zlY⟩,⟨56,287,zsb,zdg⟩,⟨55,302,zrh,zdt⟩,⟨23,281,zrA,zdu⟩,⟨38,288,zqe,zjs⟩,⟨62,289,zp4,zjD⟩,⟨63,291,zp9,zbf⟩,⟨64,292,zqb,zjK⟩,⟨43,293,zrW,ze4⟩,⟨31,272,zr3,zlO⟩,⟨37,262,ztm,znN⟩,⟨14,273,zrl,zkQ⟩,⟨10,260,ztx,zfR⟩,⟨26,386,zrg,zds⟩,⟨24,384,zom,zcW⟩,⟨27,387,zmD,zbw⟩,⟨28,388,ztl,zeJ⟩,⟨5,376,zju,zW⟩]
theorem zCW:xU Try.prog (zN fg gls) zuL 69=some zgV:=by kernel_rfl
theorem zDW:xU Try.prog (zN fg gls) zvI 44=some zqC:=by kernel_rfl
theorem zw5:xU Try.prog (zN fg gls) zn9 16=some zhp:=by kernel_rfl
theorem zym:xU Try.prog (zN fg gls) zp5 73=some zdH:=by kernel_rfl
theorem zy4:xU Try.prog (zN fg gls) zp3 72=some zjx:=by kernel_rfl
theorem zvU:xU Try.prog (zN fg gls) zmP 46=some zgG:=by kernel_rfl
theorem zqu:xU Try.prog (zN fg gls) zh1 82=some zdv:=by kernel_rfl
theorem zBt:xU Try.prog (zN fg gls) zr1 71=some zeY:=by kernel_rfl
theorem zBh:xU Try.prog (zN fg gls) zsf 70=some zlP:=by kernel_rfl
theorem zEs:xU Try.prog (zN fg gls) zvC 45=some zih:=by kernel_rfl
theorem zrP:xU Try.prog (zN fg gls) zjy 18=some zdY:=by kernel_rfl
theorem zuU:xU Try.prog (zN fg gls) zms 53=some zf5:=by kernel_rfl
theorem zwL:xU Try.prog (zN fg gls) zoh 52=some zby:=by kernel_rfl
theorem zvy:xU Try.prog (zN fg gls) zmW 50=some zgP:=by kernel_rfl
theorem zrK:xU Try.prog (zN fg gls) zjR 20=some zdU:=by kernel_rfl
theorem zvd:xU Try.prog (zN fg gls) zmp 54=some zf8:=by kernel_rfl
theorem zw4:xU Try.prog (zN fg gls) zn8 22=some zhe:=by kernel_rfl
theorem zkc:xU Try.prog (zN fg gls) zd6 65=some za8:=by kernel_rfl
theorem zvG:xU Try.prog (zN fg gls) znf 40=some zgv:=by kernel_rfl
theorem zxF:xU Try.prog (zN fg gls) zpz 68=some zii:=by kernel_rfl
theorem zvp:xU Try.prog (zN fg gls) znt 67=some zgT:=by kernel_rfl
theorem zid:xU Try.prog (zN fg gls) zdp 66=some xJ:=by kernel_rfl
theorem zx1:xU Try.prog (zN fg gls) zpv 41=some zie:=by kernel_rfl
theorem zvn:xU Try.prog (zN fg gls) znM 59=some zaL:=by kernel_rfl
theorem zjU:xU Try.prog (zN fg gls) zdS 61=some za2:=by kernel_rfl
theorem zw6:xU Try.prog (zN fg gls) zob 42=some zcS:=by kernel_rfl
theorem zwZ:xU Try.prog (zN fg gls) zod 13=some zhs:=by kernel_rfl
theorem zA5:xU Try.prog (zN fg gls) zr4 8=some zlS:=by kernel_rfl
theorem zC3:xU Try.prog (zN fg gls) zuG 9=some zpb:=by kernel_rfl
theorem zwP:xU Try.prog (zN fg gls) zn6 57=some zhm:=by kernel_rfl
theorem zC8:xU Try.prog (zN fg gls) zuD 39=some zo4:=by kernel_rfl
theorem zwV:xU Try.prog (zN fg gls) zof 29=some zhh:=by kernel_rfl
theorem zB6:xU Try.prog (zN fg gls) ztb 36=some zm2:=by kernel_rfl
theorem zBa:xU Try.prog (zN fg gls) zrU 74=some ze1:=by kernel_rfl
theorem zCL:xU Try.prog (zN fg gls) zs3 47=some zn0:=by kernel_rfl
theorem zyE:xU Try.prog (zN fg gls) zp6 78=some zdM:=by kernel_rfl
theorem zzk:xU Try.prog (zN fg gls) zqc 77=some zjz:=by kernel_rfl
theorem zwp:xU Try.prog (zN fg gls) znx 49=some zgF:=by kernel_rfl
theorem zv9:xU Try.prog (zN fg gls) znH 51=some zgz:=by kernel_rfl
theorem zAn:xU Try.prog (zN fg gls) zrd 76=some zkY:=by kernel_rfl
theorem zzz:xU Try.prog (zN fg gls) zp8 75=some zjC:=by kernel_rfl
theorem zCj:xU Try.prog (zN fg gls) zti 48=some zfT:=by kernel_rfl
theorem zzU:xU Try.prog (zN fg gls) zri 17=some zkL:=by kernel_rfl
theorem zur:xU Try.prog (zN fg gls) zlC 21=some zfp:=by kernel_rfl
theorem ztH:xU Try.prog (zN fg gls) zly 19=some zfk:=by kernel_rfl
theorem zBi:xU Try.prog (zN fg gls) zsd 79=some zlY:=by kernel_rfl
theorem zBv:xU Try.prog (zN fg gls) zsb 56=some zdg:=by kernel_rfl
theorem zzQ:xU Try.prog (zN fg gls) zrh 55=some zdt:=by kernel_rfl
theorem zAa:xU Try.prog (zN fg gls) zrA 23=some zdu:=by kernel_rfl
theorem zyq:xU Try.prog (zN fg gls) zqe 38=some zjs:=by kernel_rfl
theorem zy9:xU Try.prog (zN fg gls) zp4 62=some zjD:=by kernel_rfl
theorem zyW:xU Try.prog (zN fg gls) zp9 63=some zbf:=by kernel_rfl
theorem zyQ:xU Try.prog (zN fg gls) zqb 64=some zjK:=by kernel_rfl
theorem zBq:xU Try.prog (zN fg gls) zrW 43=some ze4:=by kernel_rfl
theorem zBk:xU Try.prog (zN fg gls) zr3 31=some zlO:=by kernel_rfl
theorem zBQ:xU Try.prog (zN fg gls) ztm 37=some znN:=by kernel_rfl
theorem zAg:xU Try.prog (zN fg gls) zrl 14=some zkQ:=by kernel_rfl
theorem zCN:xU Try.prog (zN fg gls) ztx 10=some zfR:=by kernel_rfl
theorem zzK:xU Try.prog (zN fg gls) zrg 26=some zds:=by kernel_rfl
theorem zxc:xU Try.prog (zN fg gls) zom 24=some zcW:=by kernel_rfl
theorem zu0:xU Try.prog (zN fg gls) zmD 27=some zbw:=by kernel_rfl
theorem zCt:xU Try.prog (zN fg gls) ztl 28=some zeJ:=by kernel_rfl
theorem zrQ:xU Try.prog (zN fg gls) zju 5=some zW:=by kernel_rfl
theorem zHv:∀ r∈rows,(r.f,r.g)∈fg∧ze5 Try.prog r.f=true∧xU Try.prog (zN fg gls) r.h r.f=some r.c:=by
 intro r hr
 simp only [rows,List.mem_cons,List.not_mem_nil,or_false] at hr
 rcases hr with rfl | rfl | rfl | rfl | rfl | rfl | rfl | rfl | rfl | rfl | rfl | rfl | rfl | rfl | rfl | rfl | rfl | rfl | rfl | rfl | rfl | rfl | rfl | rfl | rfl | rfl | rfl | rfl | rfl | rfl | rfl | rfl | rfl | rfl | rfl | rfl | rfl | rfl | rfl | rfl | rfl | rfl | rfl | rfl | rfl | rfl | rfl | rfl | rfl | rfl | rfl | rfl | rfl | rfl | rfl | rfl | rfl | rfl | rfl | rfl | rfl | rfl | rfl
 ·exact ⟨of_decide_eq_true (by kernel_rfl),by kernel_rfl,zCW⟩
 ·exact ⟨of_decide_eq_true (by kernel_rfl),by kernel_rfl,zDW⟩
 ·exact ⟨of_decide_eq_true (by kernel_rfl),by kernel_rfl,zw5⟩
 ·exact ⟨of_decide_eq_true (by kernel_rfl),by kernel_rfl,zym⟩
 ·exact ⟨of_decide_eq_true (by kernel_rfl),by kernel_rfl,zy4⟩
 ·exact ⟨of_decide_eq_true (by kernel_rfl),by kernel_rfl,zvU⟩
 ·exact ⟨of_decide_eq_true (by kernel_rfl),by kernel_rfl,zqu⟩
 ·exact ⟨of_decide_eq_true (by kernel_rfl),by kernel_rfl,zBt⟩
 ·exact ⟨of_decide_eq_true (by kernel_rfl),by kernel_rfl,zBh⟩
 ·exact ⟨of_decide_eq_true (by kernel_rfl),by kernel_rfl,zEs⟩
 ·exact ⟨of_decide_eq_true (by kernel_rfl),by kernel_rfl,zrP⟩
 ·exact ⟨of_decide_eq_true (by kernel_rfl),by kernel_rfl,zuU⟩
 ·exact ⟨of_decide_eq_true (by kernel_rfl),by kernel_rfl,zwL⟩
 ·exact ⟨of_decide_eq_true (by kernel_rfl),by kernel_rfl,zvy⟩
 ·exact ⟨of_decide_eq_true (by kernel_rfl),by kernel_rfl,zrK⟩
 ·exact ⟨of_decide_eq_true (by kernel_rfl),by kernel_rfl,zvd⟩
 ·exact ⟨of_decide_eq_true (by kernel_rfl),by kernel_rfl,zw4⟩
 ·exact ⟨of_decide_eq_true (by kernel_rfl),by kernel_rfl,zkc⟩
 ·exact ⟨of_decide_eq_true (by kernel_rfl),by kernel_rfl,zvG⟩
 ·exact ⟨of_decide_eq_true (by kernel_rfl),by kernel_rfl,zxF⟩
 ·exact ⟨of_decide_eq_true (by kernel_rfl),by kernel_rfl,zvp⟩
 ·exact ⟨of_decide_eq_true (by kernel_rfl),by kernel_rfl,zid⟩
 ·exact ⟨of_decide_eq_true (by kernel_rfl),by kernel_rfl,zx1⟩
 ·exact ⟨of_decide_eq_true (by kernel_rfl),by kernel_rfl,zvn⟩
 ·exact ⟨of_decide_eq_true (by kernel_rfl),by kernel_rfl,zjU⟩
 ·exact ⟨of_decide_eq_true (by kernel_rfl),by kernel_rfl,zw6⟩
 ·exact ⟨of_decide_eq_true (by kernel_rfl),by kernel_rfl,zwZ⟩
 ·exact ⟨of_decide_eq_true (by kernel_rfl),by kernel_rfl,zA5⟩
 ·exact ⟨of_decide_eq_true (by kernel_rfl),by kernel_rfl,zC3⟩
 ·exact ⟨of_decide_eq_true (by kernel_rfl),by kernel_rfl,zwP⟩
 ·exact ⟨of_decide_eq_true (by kernel_rfl),by kernel_rfl,zC8⟩
 ·exact ⟨of_decide_eq_true (by kernel_rfl),by kernel_rfl,zwV⟩
 ·exact ⟨of_decide_eq_true (by kernel_rfl),by kernel_rfl,zB6⟩
 ·exact ⟨of_decide_eq_true (by kernel_rfl),by kernel_rfl,zBa⟩
 ·exact ⟨of_decide_eq_true (by kernel_rfl),by kernel_rfl,zCL⟩
 ·exact ⟨of_decide_eq_true (by kernel_rfl),by kernel_rfl,zyE⟩
 ·exact ⟨of_decide_eq_true (by kernel_rfl),by kernel_rfl,zzk⟩
 ·exact ⟨of_decide_eq_true (by kernel_rfl),by kernel_rfl,zwp⟩
 ·exact ⟨of_decide_eq_true (by kernel_rfl),by kernel_rfl,zv9⟩
 ·exact ⟨of_decide_eq_true (by kernel_rfl),by kernel_rfl,zAn⟩
 ·exact ⟨of_decide_eq_true (by kernel_rfl),by kernel_rfl,zzz⟩
 ·exact ⟨of_decide_eq_true (by kernel_rfl),by kernel_rfl,zCj⟩
 ·exact ⟨of_decide_eq_true (by kernel_rfl),by kernel_rfl,zzU⟩
 ·exact ⟨of_decide_eq_true (by kernel_rfl),by kernel_rfl,zur⟩
 ·exact ⟨of_decide_eq_true (by kernel_rfl),by kernel_rfl,ztH⟩
 ·exact ⟨of_decide_eq_true (by kernel_rfl),by kernel_rfl,zBi⟩
 ·exact ⟨of_decide_eq_true (by kernel_rfl),by kernel_rfl,zBv⟩
 ·exact ⟨of_decide_eq_true (by kernel_rfl),by kernel_rfl,zzQ⟩
 ·exact ⟨of_decide_eq_true (by kernel_rfl),by kernel_rfl,zAa⟩
 ·exact ⟨of_decide_eq_true (by kernel_rfl),by kernel_rfl,zyq⟩
 ·exact ⟨of_decide_eq_true (by kernel_rfl),by kernel_rfl,zy9⟩
 ·exact ⟨of_decide_eq_true (by kernel_rfl),by kernel_rfl,zyW⟩
 ·exact ⟨of_decide_eq_true (by kernel_rfl),by kernel_rfl,zyQ⟩
 ·exact ⟨of_decide_eq_true (by kernel_rfl),by kernel_rfl,zBq⟩
 ·exact ⟨of_decide_eq_true (by kernel_rfl),by kernel_rfl,zBk⟩
 ·exact ⟨of_decide_eq_true (by kernel_rfl),by kernel_rfl,zBQ⟩
 ·exact ⟨of_decide_eq_true (by kernel_rfl),by kernel_rfl,zAg⟩
 ·exact ⟨of_decide_eq_true (by kernel_rfl),by kernel_rfl,zCN⟩
 ·exact ⟨of_decide_eq_true (by kernel_rfl),by kernel_rfl,zzK⟩
 ·exact ⟨of_decide_eq_true (by kernel_rfl),by kernel_rfl,zxc⟩
 ·exact ⟨of_decide_eq_true (by kernel_rfl),by kernel_rfl,zu0⟩
 ·exact ⟨of_decide_eq_true (by kernel_rfl),by kernel_rfl,zCt⟩
 ·exact ⟨of_decide_eq_true (by kernel_rfl),by kernel_rfl,zrQ⟩
theorem mixed:Try.prog.follows .mixedOrders=true:=by kernel_rfl
theorem zIz:zF5 fg=true:=by kernel_rfl
theorem zIv:ziD Try.prog (zN fg gls) zt4:=zHO (zHM (by kernel_rfl)) (zHz (f0:=60) (g0:=399) (by kernel_rfl) rfl (zIo zI9 (of_decide_eq_true (by kernel_rfl))))
theorem zIy(L d:Nat):ziD Try.prog (zN fg gls) (evF (yJ rows) zt4 L d):=zHh mixed zIz zIv zHv L d
theorem zvl(L:Nat):FOk (yJ rows) L 112 (znO zr L) 1:=xF (D:=0) (by kernel_rfl) fun m hm=>⟨zdB,zdA L,yF,zBr L⟩
theorem zxo(L:Nat):FOk (yJ rows) L 109 (zpp z4 L) 2:=xF (D:=1) (by kernel_rfl) fun m hm=>⟨zun,ztY zr L,(zm yF (zvl L m (by omega))),zCh L⟩
theorem zkB(L:Nat):FOk (yJ rows) L 269 (zei xp L) 1:=xF (D:=0) (by kernel_rfl) fun m hm=>⟨zlf,zk4 L,yF,zu8 L⟩
theorem zrc(L:Nat):FOk (yJ rows) L 192 (zhQ zE L) 1:=xF (D:=0) (by kernel_rfl) fun m hm=>⟨zbP,zbQ L,yF,zxf L⟩
theorem zrm(L:Nat):FOk (yJ rows) L 191 (zhF yE L) 1:=xF (D:=0) (by kernel_rfl) fun m hm=>⟨znG,zmZ L,yF,zwO L⟩
theorem zol(L:Nat):FOk (yJ rows) L 157 (zfb zt L) 2:=xF (D:=1) (by kernel_rfl) fun m hm=>⟨zj8,zke zE yE L,(zm (zm yF (zrc L m (by omega))) (zrm L m (by omega))),ztN L⟩
theorem ziY(L:Nat):FOk (yJ rows) L 118 (zcp xc L) 1:=xF (D:=0) (by kernel_rfl) fun m hm=>⟨zfs,zfu L,yF,zpo L⟩
theorem zs5(L:Nat):FOk (yJ rows) L 113 (zko zn L) 2:=xF (D:=1) (by kernel_rfl) fun m hm=>⟨zcu,zcx xc L,(zm yF (ziY L m (by omega))),zyz L⟩
theorem zAj(L:Nat):FOk (yJ rows) L 111 (znv yt L) 3:=xF (D:=2) (by kernel_rfl) fun m hm=>⟨zpR,zpP zn L,(zm yF (zs5 L m (by omega))),zyY L⟩
theorem zxj(L:Nat):FOk (yJ rows) L 105 (zpm yV L) 4:=xF (D:=3) (by kernel_rfl) fun m hm=>⟨zev,zeA zr yt zn L,(zm (zm (zm yF (zvl L m (by omega))) (zAj L m (by omega))) (zs5 L m (by omega))),zCf L⟩
theorem zkH(L:Nat):FOk (yJ rows) L 297 (zc7 ze L) 5:=xF (D:=4) (by kernel_rfl) fun m hm=>⟨zgb,zgf z4 xp zt yV L,(zm (zm (zm (zm yF (zxo L m (by omega))) (zkB L m (by omega))) (zol L m (by omega))) (zxj L m (by omega))),zqz L⟩
theorem zup(L:Nat):FOk (yJ rows) L 296 (zgK xg L) 6:=xF (D:=5) (by kernel_rfl) fun m hm=>⟨zjn,zjc ze L,(zm yF (zkH L m (by omega))),zs7 L⟩
theorem zvV(L:Nat):FOk (yJ rows) L 295 (zil yS L) 7:=xF (D:=6) (by kernel_rfl) fun m hm=>⟨zaC,zaD xg L,(zm yF (zup L m (by omega))),zuZ L⟩
theorem zu3(L:Nat):FOk (yJ rows) L 205 (zhk xP L) 2:=xF (D:=1) (by kernel_rfl) fun m hm=>⟨zkh,zkC zE yE L,(zm (zm yF (zrc L m (by omega))) (zrm L m (by omega))),zuh L⟩
theorem zrf(L:Nat):FOk (yJ rows) L 299 (zeq yG L) 5:=xF (D:=4) (by kernel_rfl) fun m hm=>⟨zgl,zgc z4 zt xP yV xp L,(zm (zm (zm (zm (zm yF (zxo L m (by omega))) (zol L m (by omega))) (zu3 L m (by omega))) (zxj L m (by omega))) (zkB L m (by omega))),zqw L⟩
theorem ztM(L:Nat):FOk (yJ rows) L 298 (zgL zh L) 6:=xF (D:=5) (by kernel_rfl) fun m hm=>⟨zjj,zi5 yG L,(zm yF (zrf L m (by omega))),ztv L⟩
theorem ztg(L:Nat):FOk (yJ rows) L 295 (zf4 zL L) 7:=xF (D:=6) (by kernel_rfl) fun m hm=>⟨zab,y9 zh L,(zm yF (ztM L m (by omega))),zsi L⟩
theorem zpg(L:Nat):FOk (yJ rows) L 275 (zfB ya L) 8:=xF (D:=7) (by kernel_rfl) fun m hm=>⟨zk5,zls yS zL L,(zBV (zBV yF (zvV L m (by omega))) (ztg L m (by omega))),zvh L⟩
theorem zjT(L:Nat):FOk (yJ rows) L 401 (zbl yn L) 1:=xF (D:=0) (by kernel_rfl) fun m hm=>⟨zcj,zcq L,yF,zi7 L⟩
theorem zu4(L:Nat):FOk (yJ rows) L 394 (zhq zQ L) 2:=xF (D:=1) (by kernel_rfl) fun m hm=>⟨zjY,zks yn L,(zm yF (zjT L m (by omega))),zuv L⟩
theorem zwY(L:Nat):FOk (yJ rows) L 404 (zjE zX L) 1:=xF (D:=0) (by kernel_rfl) fun m hm=>⟨zmf,zmh L,yF,zwe L⟩
theorem zuT(L:Nat):FOk (yJ rows) L 403 (zhb xi L) 2:=xF (D:=1) (by kernel_rfl) fun m hm=>⟨zj5,zj3 zX L,(zm yF (zwY L m (by omega))),ztI L⟩
theorem zhZ(L:Nat):FOk (yJ rows) L 402 (zaP ym L) 3:=xF (D:=2) (by kernel_rfl) fun m hm=>⟨xy,yz xi L,(zm yF (zuT L m (by omega))),zhM L⟩
theorem zxd(L:Nat):FOk (yJ rows) L 395 (zjJ yT L) 4:=xF (D:=3) (by kernel_rfl) fun m hm=>⟨zl5,zl2 ym L,(zm yF (zhZ L m (by omega))),zvq L⟩
theorem zuO(L:Nat):FOk (yJ rows) L 398 (zho zk L) 1:=xF (D:=0) (by kernel_rfl) fun m hm=>⟨yO,yN L,yF,zuu L⟩
theorem zje(L:Nat):FOk (yJ rows) L 399 (zbb xb L) 1:=zHK (d:=zbb xb L) (by kernel_rfl) rfl (fun β args bor k r h=>by
 unfold zbb xb at h
 split at h
 ·have q:=zhO h; clear h; obtain ⟨n,rfl,h⟩:=q
  have q:=yB h; clear h; obtain ⟨i,rfl,h⟩:=q
  have q:=zhO h; clear h; obtain ⟨m,rfl,h⟩:=q
  obtain ⟨hk,h⟩:=yy h
  exact ⟨n,i,m,_,_,rfl,rfl,hk,h⟩
 ·cases h)
theorem zjo(L:Nat):FOk (yJ rows) L 400 (za7 yc L) 1:=xF (D:=0) (by kernel_rfl) fun m hm=>⟨zcb,zca L,yF,ziO L⟩
theorem zwj(L:Nat):FOk (yJ rows) L 396 (zip xR L) 6:=xF (D:=5) (by kernel_rfl) fun m hm=>⟨zan,zap ze zk xb yc L,(zm (zm (zm (zm yF (zkH L m (by omega))) (zuO L m (by omega))) (zje L m (by omega))) (zjo L m (by omega))),zuS L⟩
theorem zpd(L:Nat):FOk (yJ rows) L 382 (zfF yg L) 9:=xF (D:=8) (by kernel_rfl) fun m hm=>⟨zk9,zlm ya zQ yT xR L,(zm (zm (zm (zm yF (zpg L m (by omega))) (zu4 L m (by omega))) (zxd L m (by omega))) (zwj L m (by omega))),zuR L⟩
theorem zzT(L:Nat):FOk (yJ rows) L 379 (zmT xd L) 10:=xF (D:=9) (by kernel_rfl) fun m hm=>⟨zpO,zpL yg xp L,(zm (zm yF (zpd L m (by omega))) (zkB L m (by omega))),zzq L⟩
theorem zCI(L:Nat):FOk (yJ rows) L 225 (zqt xf L) 1:=xF (D:=0) (by kernel_rfl) fun m hm=>⟨zsO,zsx L,yF,zBf L⟩
theorem zvB(L:Nat):FOk (yJ rows) L 247 (zij xS L) 1:=xF (D:=0) (by kernel_rfl) fun m hm=>⟨zle,zld L,yF,zva L⟩
theorem zCA(L:Nat):FOk (yJ rows) L 217 (zqi zaY L) 1:=xF (D:=0) (by kernel_rfl) fun m hm=>⟨zsG,zsB L,yF,zBs L⟩
theorem zgs(L:Nat):FOk (yJ rows) L 231 (zdj xa L) 2:=xF (D:=1) (by kernel_rfl) fun m hm=>⟨zlj,zlt xS zaY L,(zm (zm yF (zvB L m (by omega))) (zCA L m (by omega))),zuP L⟩
theorem zA9(L:Nat):FOk (yJ rows) L 236 (zo7 yx L) 3:=xF (D:=2) (by kernel_rfl) fun m hm=>⟨zrj,zry xa L,(zm yF (zgs L m (by omega))),zzJ L⟩
theorem ztu(L:Nat):FOk (yJ rows) L 115 (zkd xl L) 1:=xF (D:=0) (by kernel_rfl) fun m hm=>⟨zcs,zcw L,yF,zyt L⟩
theorem zuA(L:Nat):FOk (yJ rows) L 110 (zlw zP L) 2:=xF (D:=1) (by kernel_rfl) fun m hm=>⟨zrn,zq8 xl L,(zm yF (ztu L m (by omega))),zAh L⟩
theorem zrI(L:Nat):FOk (yJ rows) L 194 (zhI xD L) 1:=xF (D:=0) (by kernel_rfl) fun m hm=>⟨zbL,zbO L,yF,zxg L⟩
theorem zqM(L:Nat):FOk (yJ rows) L 193 (zhA xE L) 1:=xF (D:=0) (by kernel_rfl) fun m hm=>⟨zn2,znT L,yF,zw8 L⟩
theorem zoe(L:Nat):FOk (yJ rows) L 159 (ze9 xr L) 2:=xF (D:=1) (by kernel_rfl) fun m hm=>⟨zkn,zkf xD xE L,(zm (zm yF (zrI L m (by omega))) (zqM L m (by omega))),zub L⟩
theorem zuY(L:Nat):FOk (yJ rows) L 304 (zhn xQ L) 2:=xF (D:=1) (by kernel_rfl) fun m hm=>⟨zkl,zkm xD xE L,(zm (zm yF (zrI L m (by omega))) (zqM L m (by omega))),ztJ L⟩
theorem zse(L:Nat):FOk (yJ rows) L 116 (ziQ yk L) 2:=xF (D:=1) (by kernel_rfl) fun m hm=>⟨zow,zoV xc L,(zm yF (ziY L m (by omega))),zx9 L⟩
theorem zx2(L:Nat):FOk (yJ rows) L 114 (zkM yo L) 3:=xF (D:=2) (by kernel_rfl) fun m hm=>⟨znD,zm1 yk L,(zm yF (zse L m (by omega))),zw7 L⟩
theorem zuK(L:Nat):FOk (yJ rows) L 106 (zlG zM L) 4:=xF (D:=3) (by kernel_rfl) fun m hm=>⟨zc4,zc9 xl yo yk L,(zm (zm (zm yF (ztu L m (by omega))) (zx2 L m (by omega))) (zse L m (by omega))),zzI L⟩
theorem zm6(L:Nat):FOk (yJ rows) L 294 (zgq xu L) 1:=xF (D:=0) (by kernel_rfl) fun m hm=>⟨zor,zoD L,yF,zyh L⟩
theorem zmJ(L:Nat):FOk (yJ rows) L 290 (zd5 ye L) 5:=xF (D:=4) (by kernel_rfl) fun m hm=>⟨ziJ,ziK zP xr xQ zM xu L,(zm (zm (zm (zm (zm yF (zuA L m (by omega))) (zoe L m (by omega))) (zuY L m (by omega))) (zuK L m (by omega))) (zm6 L m (by omega))),zsM L⟩
theorem zmF(L:Nat):FOk (yJ rows) L 305 (zd1 yb L) 5:=xF (D:=4) (by kernel_rfl) fun m hm=>⟨zif,ziI zP xu xr zM L,(zm (zm (zm (zm yF (zuA L m (by omega))) (zm6 L m (by omega))) (zoe L m (by omega))) (zuK L m (by omega))),zsw L⟩
theorem ztn(L:Nat):FOk (yJ rows) L 303 (zjZ yf L) 1:=xF (D:=0) (by kernel_rfl) fun m hm=>⟨zpV,zpY L,yF,zze L⟩
theorem zoC(L:Nat):FOk (yJ rows) L 287 (zhN zd L) 2:=xF (D:=1) (by kernel_rfl) fun m hm=>⟨zb0,zb2 yf L,(zm yF (ztn L m (by omega))),zyA L⟩
theorem zzy(L:Nat):FOk (yJ rows) L 302 (zlM xm L) 6:=xF (D:=5) (by kernel_rfl) fun m hm=>⟨zbJ,zbK ye yb zd L,(zm (zm (zm yF (zmJ L m (by omega))) (zmF L m (by omega))) (zoC L m (by omega))),zxI L⟩
theorem zrZ(L:Nat):FOk (yJ rows) L 281 (ziV zI L) 7:=xF (D:=6) (by kernel_rfl) fun m hm=>⟨zbH,zbI xm zd L,(zm (zm yF (zzy L m (by omega))) (zoC L m (by omega))),zx0 L⟩
theorem zq5(L:Nat):FOk (yJ rows) L 288 (zhy xj L) 1:=xF (D:=0) (by kernel_rfl) fun m hm=>⟨znR,znq L,yF,zw3 L⟩
theorem zq6(L:Nat):FOk (yJ rows) L 289 (zhY zj L) 1:=xF (D:=0) (by kernel_rfl) fun m hm=>⟨zna,zm3 L,yF,zw2 L⟩
theorem zrx(L:Nat):FOk (yJ rows) L 291 (zhL yj L) 1:=xF (D:=0) (by kernel_rfl) fun m hm=>⟨xX,yY L,yF,zw1 L⟩
theorem zuX(L:Nat):FOk (yJ rows) L 291 (zhg yQ L) 1:=xF (D:=0) (by kernel_rfl) fun m hm=>⟨xN,zO L,yF,ztX L⟩
theorem zqN(L:Nat):FOk (yJ rows) L 292 (zhR zi L) 2:=xF (D:=1) (by kernel_rfl) fun m hm=>⟨znW,znC yQ L,(zm yF (zuX L m (by omega))),zxa L⟩
theorem zxe(L:Nat):FOk (yJ rows) L 287 (zjQ yl L) 2:=xF (D:=1) (by kernel_rfl) fun m hm=>⟨zaX,zaS yf L,(zm yF (ztn L m (by omega))),zv8 L⟩
theorem ztz(L:Nat):FOk (yJ rows) L 293 (zkk yI L) 6:=xF (D:=5) (by kernel_rfl) fun m hm=>⟨zbz,zbB xj yl yb yj zi zj L,(zm (zm (zm (zm (zm (zm yF (zq5 L m (by omega))) (zxe L m (by omega))) (zmF L m (by omega))) (zrx L m (by omega))) (zqN L m (by omega))) (zq6 L m (by omega))),zyv L⟩
theorem zAm(L:Nat):FOk (yJ rows) L 272 (znJ xv L) 8:=xF (D:=7) (by kernel_rfl) fun m hm=>⟨zpK,zpS zI zd xj zj ye yj zi xu yI L,(zm (zm (zm (zm (zm (zm (zm (zm (zm yF (zrZ L m (by omega))) (zoC L m (by omega))) (zq5 L m (by omega))) (zq6 L m (by omega))) (zmJ L m (by omega))) (zrx L m (by omega))) (zqN L m (by omega))) (zm6 L m (by omega))) (ztz L m (by omega))),zyZ L⟩
theorem zBd(L:Nat):FOk (yJ rows) L 262 (zo3 xx L) 3:=xF (D:=2) (by kernel_rfl) fun m hm=>⟨zq3,zrH xa L,(zm yF (zgs L m (by omega))),zz1 L⟩
theorem zyD(L:Nat):FOk (yJ rows) L 273 (zlX yr L) 8:=xF (D:=7) (by kernel_rfl) fun m hm=>⟨zoS,zos zI yI L,(zm (zm yF (zrZ L m (by omega))) (ztz L m (by omega))),zyg L⟩
theorem zA8(L:Nat):FOk (yJ rows) L 260 (zo5 zf L) 9:=xF (D:=8) (by kernel_rfl) fun m hm=>⟨zc3,zc6 yx xa xv xx yr L,(zm (zm (zm (zm (zm yF (zA9 L m (by omega))) (zgs L m (by omega))) (zAm L m (by omega))) (zBd L m (by omega))) (zyD L m (by omega))),zAk L⟩
theorem zzt(L:Nat):FOk (yJ rows) L 386 (zlN yd L) 10:=xF (D:=9) (by kernel_rfl) fun m hm=>⟨zbE,zbF xa yg L,(zm (zm yF (zgs L m (by omega))) (zpd L m (by omega))),zxE L⟩
theorem zvE(L:Nat):FOk (yJ rows) L 384 (ziF zc L) 1:=xF (D:=0) (by kernel_rfl) fun m hm=>⟨za0,zaZ L,yF,zvc L⟩
theorem ztD(L:Nat):FOk (yJ rows) L 387 (zgw za L) 1:=xF (D:=0) (by kernel_rfl) fun m hm=>⟨zaf,zag L,yF,zs4 L⟩
theorem zBo(L:Nat):FOk (yJ rows) L 388 (zo9 xe L) 1:=xF (D:=0) (by kernel_rfl) fun m hm=>⟨zcf,zcd L,yF,zzY L⟩
theorem zro(L:Nat):FOk (yJ rows) L 376 (zez zaJ L) 11:=xF (D:=10) (by kernel_rfl) fun m hm=>⟨yp,xo xd xf zf yd zc za ya xe L,(zm (zm (zm (zm (zm (zm (zm (zm yF (zzT L m (by omega))) (zCI L m (by omega))) (zA8 L m (by omega))) (zzt L m (by omega))) (zvE L m (by omega))) (ztD L m (by omega))) (zpg L m (by omega))) (zBo L m (by omega))),zql L⟩
end
section
set_option maxRecDepth 100000
variable {β:Type}
structure Adr where
 h:Int
 p:Int
 t:Int
def Adr.v(a:Adr):List V:=[.sc (.int .u32 a.h),.sc (.int .u16 a.p),.sc (.int .u32 a.t)]
def grp(a:Adr):Int:=zov .u32 a.h 16
theorem zye(L:Nat)(a:Adr)(k:Int→Option β):xp β L a.v k=k (grp a):=by
 simp only [xp,zl3,Adr.v,xn]
 rw [zA (by rfl)]; rfl
theorem zxW(L:Nat)(a:Adr)(k:Int→Option β):xu β L a.v k=k (grp a):=by
 simp only [xu,zpH,Adr.v,xn]
 rw [zA (by rfl)]; rfl
structure Plc where
 b:Int
 a:Adr
 s:Int
def Plc.v(e:Plc):List V:=[.sc (.int .i64 e.b),.sc (.int .u32 e.a.h),.sc (.int .u16 e.a.p),.sc (.int .u32 e.a.t),.sc (.int .u32 e.s)]
def yC(l:List Plc):List (List V):=l.map Plc.v
theorem xO(l:List Plc):(yC l).length=l.length:=by simp [yC]
theorem zbk{l:List Plc}{i:Nat}(h:i<l.length):(yC l)[i]?=some l[i].v:=by simp [yC,h]
theorem zxS(l m:List Plc):yC l++yC m=yC (l++m):=by simp [yC]
def zJm(l:List Adr):List (List V):=l.map Adr.v
structure Bk where
 salt:List Int
 H:List Plc
 T:List Plc
 hs:salt.length=32
def Bk.v(b:Bk):List V:=row .u8 b.salt++[.sl 5 (yC b.H),.sl 5 (yC b.T)]
theorem Bk.len(b:Bk):b.v.length=34:=by simp [Bk.v,zcI,b.hs]
theorem Bk.take(b:Bk):XI 34 b.v=b.v:=Xu (by rw [b.len]; exact Wq _)
theorem zHw(k:IntKind)(l:List Int):(row k l).map V.dem=row k l:=by simp [row,V.dem]
theorem Bk.dem(b:Bk):Xt V.dem b.v=b.v:=by
 rw [Bk.v,X3,zHw]; rfl
theorem Bk.g32(b:Bk):b.v[32]?=some (.sl 5 (yC b.H)):=by
 rw [Bk.v,Wt (by rw [zcI,b.hs]; omega),zcI,b.hs]; rfl
theorem Bk.g33(b:Bk):b.v[33]?=some (.sl 5 (yC b.T)):=by
 rw [Bk.v,Wt (by rw [zcI,b.hs]; omega),zcI,b.hs]; rfl
end
section
set_option maxRecDepth 100000
variable {β:Type}
def zjB(m:Int)(i:Nat):List Int→Int
 | []=>m
 | b::bs=>zjB (ior .u64 m (zlp .u64 (QF .u64 b) (QF .i64 (8*(i:Int))))) (i+1) bs
theorem zuz(L:Nat)(kx:Int→Option β)(l:List Int)(hl:l.length≤1000000):∀ (n:Nat) (m:Int) (i:Nat),i≤l.length→l.length-i<n→zgJ L kx n m (zaj .u8 l) (l.length:Int) (i:Int)=kx (zjB m i (l.drop i))
 | 0,m,i,hi,hn=>by omega
 | n+1,m,i,hi,hn=>by
  simp only [zgJ,znX,xn]
  by_cases h:i<l.length
  ·rw [zac (by omega),za6 (ztE _ h),zA (by rfl),zb (by rw [y5 (by omega) (by omega)]; omega)]
   rw [show QF .i64 ((i:Int)+1)=((i+1:Nat):Int) by rw [y5 (by omega) (by omega)]; omega]
   rw [zuz L kx l hl n _ (i+1) (by omega) (by omega),WP h]
   rfl
  ·rw [z9 (by omega),WI (by omega)]
   rfl
theorem ztQ(L:Nat)(l:List Int)(hl:l.length≤1000000)(hL:l.length<L)(k:Int→Option β):zr β L (zaj .u8 l) k=k (zjB 0 0 l):=by
 simp only [zr,zqf,zt1,zdk]
 exact zuz L _ l hl L 0 0 (by omega) (by omega)
theorem zuI(L:Nat)(kx:Int→Option β)(l:List Int)(hl:l.length≤1000000):∀ (n:Nat) (m:Int) (i:Nat),i≤l.length→l.length-i<n→zfe L kx n (zaj .u8 l) m (l.length:Int) (i:Int)=kx (zjB m i (l.drop i))
 | 0,m,i,hi,hn=>by omega
 | n+1,m,i,hi,hn=>by
  simp only [zfe,zlu,xn]
  by_cases h:i<l.length
  ·rw [zac (by omega),za6 (ztE _ h),zA (by rfl),zb (by rw [y5 (by omega) (by omega)]; omega)]
   rw [show QF .i64 ((i:Int)+1)=((i+1:Nat):Int) by rw [y5 (by omega) (by omega)]; omega]
   rw [zuI L kx l hl n _ (i+1) (by omega) (by omega),WP h]
   rfl
  ·rw [z9 (by omega),WI (by omega)]
   rfl
theorem zt2(L:Nat)(l:List Int)(hl:l.length≤1000000)(hL:l.length<L)(k:Int→Option β):xl β L (zaj .u8 l) k=k (zjB 0 0 l):=by
 simp only [xl,zno,zq7,zdk]
 exact zuI L _ l hl L 0 0 (by omega) (by omega)
theorem zyR(L:Nat)(hL:8<L)(l:List Int)(h:l.length=32)(k:List V→Option β):z4 β L (row .u8 l) k=k (row .u64 [zjB 0 0 (l.take 8),zjB 0 0 ((l.drop 8).take 8)])∧zP β L (row .u8 l) k=k (row .u64 [zjB 0 0 (l.take 8),zjB 0 0 ((l.drop 8).take 8)]):=by
 obtain ⟨x,l',rfl⟩:∃ x l',l=x::l':=by
  cases l with
  | nil=>simp at h
  | cons x l'=>exact ⟨x,l',rfl⟩
 have e:(V.sc (.int .u8 x)::row .u8 l')=row .u8 (x::l'):=rfl
 have el:∀ (A:Option β) (B:V→List V→Option β),lc (row .u8 (x::l')) A B=B (Qa x) (row .u8 l'):=fun _ _=>rfl
 constructor
 ·simp only [z4,zvS,xn,el,e,zcI,h,zBN]
  rw [zb (by decide),znS _ _ _ (by omega),ztQ _ _ (by simp; omega) (by simp; omega),zb (by decide),znS _ _ _ (by simp at h ⊢; omega),ztQ _ _ (by simp; omega) (by simp; omega),zb (by simp)]
  rfl
 ·simp only [zP,zso,xn,el,e,zcI,h,zBN]
  rw [zb (by decide),znS _ _ _ (by omega),zt2 _ _ (by simp; omega) (by simp; omega),zb (by decide),znS _ _ _ (by simp at h ⊢; omega),zt2 _ _ (by simp; omega) (by simp; omega),zb (by simp)]
  rfl
end
section
set_option maxRecDepth 100000
variable {β:Type}
theorem zpy{inst:Decidable ((4:Nat)≠0)}(k:Option β):@chk β ((4:Nat)≠0) inst k=k:=zb (by omega) k
structure S4 where
 a:Int
 b:Int
 c:Int
 d:Int
def S4.row(s:S4):List V:=[.sc (.int .u64 s.a),.sc (.int .u64 s.b),.sc (.int .u64 s.c),.sc (.int .u64 s.d)]
def zq4(x n:Int):Int:=ior .u64 (zlp .u64 x (zF7 .u64 (QF .u64 n) 63)) (zov .u64 x (QF .u64 (64-zF7 .u64 (QF .u64 n) 63)))
theorem zG2(L:Nat)(x:Int)(k:Int→Option β):xc β L x 13 k=k (zq4 x 13):=by kernel_rfl
theorem zGU(L:Nat)(x:Int)(k:Int→Option β):xc β L x 32 k=k (zq4 x 32):=by kernel_rfl
theorem zGY(L:Nat)(x:Int)(k:Int→Option β):xc β L x 16 k=k (zq4 x 16):=by kernel_rfl
theorem zGX(L:Nat)(x:Int)(k:Int→Option β):xc β L x 21 k=k (zq4 x 21):=by kernel_rfl
theorem zG5(L:Nat)(x:Int)(k:Int→Option β):xc β L x 17 k=k (zq4 x 17):=by kernel_rfl
def r1(s:S4):S4:=⟨QF .u64 (s.a+s.b),s.b,s.c,s.d⟩
def r2(s:S4):S4:=⟨s.a,zaR .u64 (zq4 s.b 13) s.a,s.c,s.d⟩
def r3(s:S4):S4:=⟨zq4 s.a 32,s.b,s.c,s.d⟩
def r4(s:S4):S4:=⟨s.a,s.b,QF .u64 (s.c+s.d),s.d⟩
def r5(s:S4):S4:=⟨s.a,s.b,s.c,zaR .u64 (zq4 s.d 16) s.c⟩
def r6(s:S4):S4:=⟨QF .u64 (s.a+s.d),s.b,s.c,s.d⟩
def r7(s:S4):S4:=⟨s.a,s.b,s.c,zaR .u64 (zq4 s.d 21) s.a⟩
def r8(s:S4):S4:=⟨s.a,s.b,QF .u64 (s.c+s.b),s.d⟩
def r9(s:S4):S4:=⟨s.a,zaR .u64 (zq4 s.b 17) s.c,s.c,s.d⟩
def r10(s:S4):S4:=⟨s.a,s.b,zq4 s.c 32,s.d⟩
def rnd(s:S4):S4:=r10 (r9 (r8 (r7 (r6 (r5 (r4 (r3 (r2 (r1 s)))))))))
theorem c0(s:S4)(k:Int→Option β):cI .u64 s.row 0 k=k s.a:=by cases s; rfl
theorem c1(s:S4)(k:Int→Option β):cI .u64 s.row 1 k=k s.b:=by cases s; rfl
theorem c2(s:S4)(k:Int→Option β):cI .u64 s.row 2 k=k s.c:=by cases s; rfl
theorem c3(s:S4)(k:Int→Option β):cI .u64 s.row 3 k=k s.d:=by cases s; rfl
theorem zEa(s:S4)(x:Int):yh s.row 0 [.sc (.int .u64 x)]=S4.row ⟨x,s.b,s.c,s.d⟩:=by cases s; rfl
theorem zIp(s:S4)(x:Int):yh s.row 1 [.sc (.int .u64 x)]=S4.row ⟨s.a,x,s.c,s.d⟩:=by cases s; rfl
theorem zDK(s:S4)(x:Int):yh s.row 2 [.sc (.int .u64 x)]=S4.row ⟨s.a,s.b,x,s.d⟩:=by cases s; rfl
theorem zEv(s:S4)(x:Int):yh s.row 3 [.sc (.int .u64 x)]=S4.row ⟨s.a,s.b,s.c,x⟩:=by cases s; rfl
theorem zqO(s t:S4):yh s.row 0 t.row=t.row:=by cases s; cases t; rfl
theorem zDS(z0 z1 z2 z3:Int)(t:S4):yh [V.sc (.int .u64 z0),V.sc (.int .u64 z1),V.sc (.int .u64 z2),V.sc (.int .u64 z3)] 0 t.row=t.row:=by cases t; rfl
theorem zl8(s:S4):s.row.length=4:=by cases s; rfl
theorem znm(s:S4):s.row.take 4=s.row:=by cases s; rfl
theorem zAK(L:Nat)(s:S4)(k:List V→Option β):yk β L s.row k=k (rnd s).row:=by
 simp only [yk,zpT,xn,c0,c1,c2,c3,zEa,zIp,zDK,zEv,zG2,zGU,zGY,zGX,zG5,zl8,znm,zDS]
 repeat rw [zb (by decide)]
 rfl
theorem zEX(L:Nat)(p5 p6:Int)(s:S4)(z0 z1 z2 z3:Int)(kh:Int→Int→List V→Int→Int→Int→Int→Option β)(kx:List V→Int→Int→Int→Int→Option β)(h:p6<p5):zfU xc L p5 p6 s.row z0 z1 z2 z3 kh kx=kh p5 (QF .i64 (p6+1)) (rnd s).row z0 z1 z2 z3:=by
 simp only [zfU,xn,c0,c1,c2,c3,zEa,zIp,zDK,zEv,zG2,zGU,zGY,zGX,zG5,zl8,zpy,zlT,true_and,and_true,and_self,XS,XT,XQ,Wq,WB]
 rw [zac h]
 simp only [rnd,r1,r2,r3,r4,r5,r6,r7,r8,r9,r10]
def zAf:Nat→S4→S4
 | 0,s=>s
 | n+1,s=>zAf n (rnd s)
theorem zrR(L:Nat)(kx:List V→Int→Int→Int→Int→Option β)(z0 z1 z2 z3:Int)(m:Nat)(hm:m≤1000):∀ (n i:Nat) (s:S4),i≤m→m-i<n→zfS xc L kx n (m:Int) (i:Int) s.row z0 z1 z2 z3=kx (zAf (m-i) s).row z0 z1 z2 z3
 | 0,i,s,hi,hn=>by omega
 | n+1,i,s,hi,hn=>by
  simp only [zfS]
  by_cases h:i<m
  ·rw [zEX _ _ _ _ _ _ _ _ _ _ (by omega)]
   rw [show QF .i64 ((i:Int)+1)=((i+1:Nat):Int) by rw [y5 (by omega) (by omega)]; omega]
   rw [zrR L kx z0 z1 z2 z3 m hm n (i+1) _ (by omega) (by omega),show m-i=(m-(i+1))+1 by omega]
   rfl
  ·simp only [zfU]
   rw [z9 (by omega),show m-i=0 by omega]
   rfl
theorem zyy(L:Nat)(s:S4)(m:Nat)(hm:m≤1000)(hL:m<L)(k:List V→Option β):zn β L s.row (m:Int) k=k (zAf m s).row:=by
 simp only [zn,zmX,zre]
 rw [show (0:Int)=((0:Nat):Int) from rfl,zrR L _ _ _ _ _ m hm L 0 s (by omega) (by omega)]
 simp only [zkJ,xn,zl8,znm,XZ,zDS,zpy,zlT,true_and,and_true,and_self,XS,XT,XQ,Wq,WB]
def zrv(s:S4)(m:Int):S4:=⟨zaR .u64 (rnd (rnd ⟨s.a,s.b,s.c,zaR .u64 s.d m⟩)).a m,(rnd (rnd ⟨s.a,s.b,s.c,zaR .u64 s.d m⟩)).b,(rnd (rnd ⟨s.a,s.b,s.c,zaR .u64 s.d m⟩)).c,(rnd (rnd ⟨s.a,s.b,s.c,zaR .u64 s.d m⟩)).d⟩
theorem zzl(L:Nat)(hL:2<L)(s:S4)(m:Int)(k:List V→Option β):yt β L s.row m k=k (zrv s m).row:=by
 simp only [yt,zrt,xn,c3,zEv,zl8,znm,zpy,zlT,true_and,and_true,and_self,XS,XT,XQ,Wq,WB]
 rw [show (2:Int)=((2:Nat):Int) from rfl,zyy L _ 2 (by omega) hL]
 simp only [zl8,zqO,c0,zEa,znm,zDS,zAf,zrv,zpy,zlT,true_and,and_true,and_self,XS,XT,XQ,Wq,WB]
theorem zyH(L:Nat)(s:S4)(m:Int)(k:List V→Option β):yo β L s.row m k=k (zrv s m).row:=by
 simp only [yo,zoE,xn,c3,zEv,zl8,znm,zAK,zqO,c0,zEa,zDS,zrv,zpy,zlT,true_and,and_true,and_self,XS,XT,XQ,Wq,WB]
def zqW:Nat→S4→List Int→S4
 | 0,s,_=>s
 | n+1,s,l=>zqW n (zrv s (zjB 0 0 (l.take 8))) (l.drop 8)
def zEi(s:S4)(n:Int)(l:List Int):S4:=zrv s (ior .u64 (zjB 0 0 l) (zlp .u64 (QF .u64 (XM n 256)) 56))
def zEC(s:S4):S4:=zAf 4 ⟨s.a,s.b,zaR .u64 s.c 255,s.d⟩
def zyS(s:S4):Int:=zaR .u64 (zaR .u64 (zaR .u64 s.a s.b) s.c) s.d
def zB7(s:S4)(n:Int)(l:List Int):Int:=zyS (zEC (zEi s n l))
def zD9(x y:Int):S4:=⟨zaR .u64 x 8317987319222330741,zaR .u64 y 7237128888997146477,zaR .u64 x 7816392313619706465,zaR .u64 y 8387220255154660723⟩
def zjO(x y:Int)(l:List Int):Int:=zB7 (zqW (l.length / 8) (zD9 x y) l) l.length (l.drop (l.length / 8*8))
theorem zwu(L:Nat)(hL:10<L)(l:List Int)(hl:l.length≤1000000)(kx:List (List V)→Int→List V→Option β)(p6:Int):∀ (n i:Nat) (s:S4),i≤l.length / 8→l.length / 8-i<n→zgC zr yt zn L kx n (zaj .u8 l) p6 ((l.length / 8:Nat):Int) (i:Int) s.row=kx (zaj .u8 l) p6 (zqW (l.length / 8-i) s (l.drop (8*i))).row
 | 0,i,s,hi,hn=>by omega
 | n+1,i,s,hi,hn=>by
  simp only [zgC,znh,xn,zl8,znm,zdk]
  by_cases h:i<l.length / 8
  ·have e1:QF .i64 (8*(i:Int))=((8*i:Nat):Int):=by rw [y5 (by omega) (by omega)]; omega
   have e2:QF .i64 (((8*i:Nat):Int)+8)=((8*i+8:Nat):Int):=by rw [y5 (by omega) (by omega)]; omega
   have e3:QF .i64 ((i:Int)+1)=((i+1:Nat):Int):=by rw [y5 (by omega) (by omega)]; omega
   rw [zac (by omega),e1,e2,e3,zb (by decide),zb (by omega),zb (by simp; omega)]
   simp only [Int.toNat_natCast,zwr,zwo]
   rw [ztQ _ _ (by simp; omega) (by simp; omega),zzl _ (by omega)]
   simp only [zl8,zqO]
   rw [zb (by decide),zwu L hL l hl kx p6 n (i+1) _ (by omega) (by omega),show l.length / 8-i=(l.length / 8-(i+1))+1 by omega,zqW,List.drop_drop]
   rw [show 8*i+8-8*i=8 by omega,show 8*(i+1)=8*i+8 by omega]
  ·rw [z9 (by omega),show l.length / 8-i=0 by omega]
   rfl
theorem zwH(L:Nat)(x y:Int)(l:List Int)(hl:l.length≤1000000)(hL:l.length+10<L)(k:Int→Option β):yV β L (row .u64 [x,y]) (zaj .u8 l) k=k (zjO x y l):=by
 simp only [yV,zr2,zwg,xn,zdk]
 rw [zA (n:=x) (by rfl),zA (n:=y) (by rfl),zA (n:=x) (by rfl),zA (n:=y) (by rfl)]
 have e1:QF .i64 (Int.tdiv (l.length:Int) 8)=((l.length / 8:Nat):Int):=by
  rw [Int.tdiv_eq_ediv_of_nonneg (by omega),y5 (by omega) (by omega)]; omega
 rw [e1,show (0:Int)=((0:Nat):Int) from rfl]
 have:=zwu (β:=β) L (by omega) l hl (fun p1 p6 b5=>zhd zr yt zn L p1 p6 b5 k) ((l.length / 8:Nat):Int) L 0 (zD9 x y) (by omega) (by omega)
 refine (show _=_ from this).trans ?_
 have e2:QF .i64 (8*((l.length / 8:Nat):Int))=((l.length / 8*8:Nat):Int):=by rw [y5 (by omega) (by omega)]; omega
 simp only [zhd,xn,zl8,znm,zdk,XZ,Nat.mul_zero,XU]
 rw [zb (by decide),e2,zb (by omega)]
 simp only [Int.toNat_natCast,zwr,zwo]
 rw [Xu (by simp),ztQ _ _ (by simp; omega) (by simp; omega),zzl _ (by omega)]
 simp only [zl8,zqO,c2,zDK,znm,zpy,zlT,true_and,and_true,and_self,XS,XT,XQ,Wq,WB]
 rw [show (4:Int)=((4:Nat):Int) from rfl,zyy _ _ 4 (by omega) (by omega)]
 simp only [zl8,zqO,c0,c1,c2,c3,zjO,zB7,zEi,zEC,zyS,zpy,zlT,true_and,and_true,and_self,XS,XT,XQ,Wq,WB]
theorem zEk(n:Nat):∀ (s:S4) (l:List Int),zqW (n+1) s l=zqW n (zrv s (zjB 0 0 (l.take 8))) (l.drop 8):=fun _ _=>rfl
theorem zvr(L:Nat)(hL:10<L)(kx:List (List V)→Int→List V→Option β)(p6:Int):∀ (n:Nat) (l:List Int) (s:S4),l.length≤1000000→l.length / 8<n→zfK xl yo yk L kx n (zaj .u8 l) p6 s.row=kx (zaj .u8 (l.drop (l.length / 8*8))) p6 (zqW (l.length / 8) s l).row
 | 0,l,s,hl,hn=>by omega
 | n+1,l,s,hl,hn=>by
  simp only [zfK,zmi,xn,zl8,znm,zdk]
  by_cases h:8≤l.length
  ·rw [zac (by omega),zb (by decide),zb (by omega)]
   simp only [zwr,zwo,XU]
   rw [zt2 _ _ (by simp; omega) (by simp; omega),zyH,zb (by omega)]
   simp only [zl8,zqO]
   rw [zb (by decide),Xu (by simp),zvr L hL kx p6 n _ _ (by simp; omega) (by simp; omega)]
   have e:(l.drop 8).length / 8=l.length / 8-1:=by simp; omega
   rw [e,List.drop_drop,show 8+(l.length / 8-1)*8=l.length / 8*8 by omega]
   obtain ⟨q,hq⟩:∃ q,l.length / 8=q+1:=⟨l.length / 8-1,by omega⟩
   rw [hq,zEk]
   rfl
  ·have e:l.length / 8=0:=by omega
   rw [z9 (by omega),e]
   rfl
theorem zwK(L:Nat)(x y:Int)(l:List Int)(hl:l.length≤1000000)(hL:l.length+10<L)(k:Int→Option β):zM β L (row .u64 [x,y]) (zaj .u8 l) k=k (zjO x y l):=by
 simp only [zM,zoW,zsz,xn,zdk]
 rw [zA (n:=x) (by rfl),zA (n:=y) (by rfl),zA (n:=x) (by rfl),zA (n:=y) (by rfl)]
 have:=zvr (β:=β) L (by omega) (fun p1 p6 b5=>zgx xl yo yk L p1 p6 b5 k) (l.length:Int) L l (zD9 x y) hl (by omega)
 refine (show _=_ from this).trans ?_
 simp only [zgx,xn,zl8,znm]
 rw [zb (by decide),zt2 _ _ (by simp; omega) (by simp; omega)]
 simp only [zyH,zl8,zqO,c2,zDK,znm,zAK,c0,c1,c3,zjO,zB7,zEi,zEC,zyS,zAf,zpy,zlT,true_and,and_true,and_self,XS,XT,XQ,Wq,WB]
end
section
set_option maxRecDepth 100000
variable {β:Type}
def le4(x:Int):List Int:=[QF .u8 (zov .u64 x 0),QF .u8 (zov .u64 x 8),QF .u8 (zov .u64 x 16),QF .u8 (zov .u64 x 24)]
def le2(x:Int):List Int:=[QF .u8 (zov .u64 x 0),QF .u8 (zov .u64 x 8)]
theorem zJh(L:Nat)(x:Int)(k:List (List V)→Option β):zE β (L+10) x 4 k=k (zaj .u8 (le4 x)):=by kernel_rfl
theorem zIR(L:Nat)(x:Int)(k:List (List V)→Option β):zE β (L+10) x 2 k=k (zaj .u8 (le2 x)):=by kernel_rfl
theorem zIX(L:Nat)(x:Int)(k:List (List V)→Option β):xD β (L+10) x 4 k=k (zaj .u8 (le4 x)):=by kernel_rfl
theorem zI6(L:Nat)(x:Int)(k:List (List V)→Option β):xD β (L+10) x 2 k=k (zaj .u8 (le2 x)):=by kernel_rfl
theorem zFa(L:Nat)(l m:List Int)(hl:l.length≤1000)(hm:m.length≤1000)(k:List (List V)→Option β):yE β L (zaj .u8 l) (zaj .u8 m) k=k (zaj .u8 (l++m)):=by
 simp only [yE,zou,xn,zdk,X7,List.length_nil,WB,XB]
 rw [y5 (by omega) (by omega),zb ⟨by omega,by omega,by simp only [xq]; omega,by simp only [xq]; omega⟩,zb ⟨by simp only [xq]; omega,by simp only [xq]; omega⟩,zb ⟨by simp only [xq]; omega,by simp only [xq]; omega⟩,zx4]
theorem zDg(L:Nat)(l m:List Int)(hl:l.length≤1000)(hm:m.length≤1000)(k:List (List V)→Option β):xE β L (zaj .u8 l) (zaj .u8 m) k=k (zaj .u8 (l++m)):=by
 simp only [xE,zoQ,xn,zdk,X7,List.length_nil,WB,XB]
 rw [y5 (by omega) (by omega),zb ⟨by omega,by omega,by simp only [xq]; omega,by simp only [xq]; omega⟩,zb ⟨by simp only [xq]; omega,by simp only [xq]; omega⟩,zb ⟨by simp only [xq]; omega,by simp only [xq]; omega⟩,zx4]
def w64(x:Int):Int:=QF .u64 x
theorem zxV(L:Nat)(l:List Int)(hl:l.length≤900)(x:Int)(k:List (List V)→Option β):zt β (L+10) (zaj .u8 l) x k=k (zaj .u8 (l++le4 (w64 x))):=by
 simp only [zt,zll,xn]
 rw [zJh,zFa _ _ _ (by omega) (by simp [le4])]; rfl
theorem zJg(L:Nat)(l:List Int)(hl:l.length≤900)(x:Int)(k:List (List V)→Option β):xP β (L+10) (zaj .u8 l) x k=k (zaj .u8 (l++le2 (w64 x))):=by
 simp only [xP,zk3,xn]
 rw [zIR,zFa _ _ _ (by omega) (by simp [le2])]; rfl
theorem ztO(L:Nat)(l:List Int)(hl:l.length≤900)(x:Int)(k:List (List V)→Option β):xr β (L+10) (zaj .u8 l) x k=k (zaj .u8 (l++le4 (w64 x))):=by
 simp only [xr,zlq,xn]
 rw [zIX,zDg _ _ _ (by omega) (by simp [le4])]; rfl
theorem zIG(L:Nat)(l:List Int)(hl:l.length≤900)(x:Int)(k:List (List V)→Option β):xQ β (L+10) (zaj .u8 l) x k=k (zaj .u8 (l++le2 (w64 x))):=by
 simp only [xQ,zlb,xn]
 rw [zI6,zDg _ _ _ (by omega) (by simp [le2])]; rfl
end
section
set_option maxRecDepth 100000
variable {β:Type}
def zws(s:List Int):Int:=zjB 0 0 (s.take 8)
def zvT(s:List Int):Int:=zjB 0 0 ((s.drop 8).take 8)
def bkt(s:List Int)(m1:List Int)(m2:Int→List Int):Int:=
 QF .i64 (XM (zjO (zws s) (zvT s) (m2 (QF .u32 (XM (zjO (zws s) (zvT s) m1) 4)))) 64)
def hbk(s:List Int)(a:Adr)(src:Int):Int:=bkt s ([2]++le4 (w64 (grp a))++le4 (w64 src)) (fun x=>[1]++le4 (w64 src)++le4 (w64 x))
def tbk(s:List Int)(a:Adr):Int:=bkt s ([4]++le4 (w64 a.h)++le2 (w64 a.p)) (fun x=>[3]++le4 (w64 (grp a))++le4 (w64 x))
theorem zBC(n:Int):xh 1 1 [(Qa n)]=zaj .u8 [n]:=rfl
theorem zBA(x y:Int):yh [(Qd (0:Int)),(Qd (0:Int))] 0 (row .u64 [x,y])=row .u64 [x,y]:=rfl
theorem zyV(x y:Int):XI 2 (row .u64 [x,y])=row .u64 [x,y]:=rfl
theorem zeG(a:Adr):XI 3 a.v=a.v:=rfl
theorem zqD{s:List Int}(h:s.length=32):XI 32 (row .u8 s)=row .u8 s:=Xu (by rw [zcI,h]; exact Wq _)
theorem zGZ(L:Nat)(s:List Int)(hs:s.length=32)(a:Adr)(src:Int)(k:Int→Option β):ze β (L+100) (row .u8 s) a.v src k=k (hbk s a src):=by
 simp only [ze,zgX,zqD hs,zeG,xn,zBC]
 rw [zb (by rw [zcI,hs]; omega),(zyR (β:=β) (L+100) (by omega) s hs _).1,zb ⟨rfl,by omega⟩,zBA,zb (by show 0+2≤2; omega),zb (by show 0+3≤3; omega),zye,show L+100=(L+90)+10 from rfl,zxV _ _ (by simp),zxV _ _ (by simp [le4]),zyV,zwH _ _ _ _ (by simp [le4]) (by simp [le4]),zxV _ _ (by simp),zxV _ _ (by simp [le4]),zb (by show 0+2≤2; omega),zwH _ _ _ _ (by simp [le4]) (by simp [le4])]
 rfl
theorem zG1(L:Nat)(s:List Int)(hs:s.length=32)(a:Adr)(src:Int)(k:Int→Option β):yb β (L+100) (row .u8 s) a.v src k=k (hbk s a src):=by
 simp only [yb,zjb,zqD hs,zeG,xn,zBC]
 rw [zb (by rw [zcI,hs]; omega),(zyR (β:=β) (L+100) (by omega) s hs _).2,zb ⟨rfl,by omega⟩,zBA,zb (by show 0+2≤2; omega),zb (by show 0+3≤3; omega),zxW,show L+100=(L+90)+10 from rfl,ztO _ _ (by simp),ztO _ _ (by simp [le4]),zyV,zwK _ _ _ _ (by simp [le4]) (by simp [le4]),zb (by show 0+2≤2; omega),ztO _ _ (by simp),ztO _ _ (by simp [le4]),zwK _ _ _ _ (by simp [le4]) (by simp [le4])]
 rfl
theorem zIM(L:Nat)(s:List Int)(hs:s.length=32)(a:Adr)(k:Int→Option β):yG β (L+100) (row .u8 s) a.v k=k (tbk s a):=by
 simp only [yG,zg8,zqD hs,zeG,xn,zBC]
 rw [zb (by rw [zcI,hs]; omega),(zyR (β:=β) (L+100) (by omega) s hs _).1,zb ⟨rfl,by omega⟩,zBA,zb (by show 0+2≤2; omega),zA (n:=a.h) rfl,show L+100=(L+90)+10 from rfl,zxV _ _ (by simp),zA (n:=a.p) rfl,zJg _ _ (by simp [le4]),zyV,zwH _ _ _ _ (by simp [le4,le2]) (by simp [le4,le2]),zb (by show 0+3≤3; omega),zye,zxV _ _ (by simp),zxV _ _ (by simp [le4]),zb (by show 0+2≤2; omega),zwH _ _ _ _ (by simp [le4]) (by simp [le4])]
 rfl
theorem zEy(L:Nat)(s:List Int)(hs:s.length=32)(a:Adr)(k:Int→Option β):ye β (L+100) (row .u8 s) a.v k=k (tbk s a):=by
 simp only [ye,zi6,zqD hs,zeG,xn,zBC]
 rw [zb (by rw [zcI,hs]; omega),(zyR (β:=β) (L+100) (by omega) s hs _).2,zb ⟨rfl,by omega⟩,zBA,zb (by show 0+2≤2; omega),zA (n:=a.h) rfl,show L+100=(L+90)+10 from rfl,ztO _ _ (by simp),zA (n:=a.p) rfl,zIG _ _ (by simp [le4]),zyV,zwK _ _ _ _ (by simp [le4,le2]) (by simp [le4,le2]),zb (by show 0+2≤2; omega),zb (by show 0+3≤3; omega),zxW,ztO _ _ (by simp),ztO _ _ (by simp [le4]),zwK _ _ _ _ (by simp [le4]) (by simp [le4])]
 rfl
end
section
variable {β:Type}
def zB(a b:Adr):Bool:=a.h==b.h&&a.p==b.p
theorem zDw(L:Nat)(a b:Adr)(k:Bool→Option β):yf β L a.v b.v k=k (zB a b):=by
 simp only [yf,zqZ]
 rw [zA (n:=a.h) rfl,zA (n:=b.h) rfl,zdm]
 by_cases h:a.h=b.h
 ·rw [if_pos h,zA (n:=a.p) rfl,zA (n:=b.p) rfl,zB,h]
  congr 1
  simp
 ·rw [if_neg h,zB,beq_eq_false_iff_ne.2 h]; rfl
theorem zAO(L:Nat)(ps:List Plc)(hp:ps.length≤1000000)(a:Adr)(k:Int→Option β):∀ (m i:Nat),i≤ps.length→ps.length-i<m →
  zfQ yf L k (k (-1)) m (yC ps) (i:Int) a.v=k (zcK (fun e=>zB e.a a) (ps.drop i) i)
 | 0,i,h1,h2=>by omega
 | m+1,i,h1,h2=>by
  simp only [zfQ,zl4,xn,xO]
  by_cases h:i<ps.length
  ·have e1:XI 3 (XJ 1 ps[i].v)=ps[i].a.v:=rfl
   rw [zac (by omega),za6 (zbk h),zb (by show 0+3≤3; omega),e1,zeG,zDw,zS (by omega),zAO L ps hp a k m (i+1) (by omega) (by omega),WP h,zcK]
   cases zB ps[i].a a <;> rfl
  ·rw [z9 (by omega),WI (by omega)]; rfl
theorem zz8(L:Nat)(ps:List Plc)(hp:ps.length≤1000000)(hL:ps.length<L)(a:Adr)(k:Int→Option β):zd β L (yC ps) a.v k=k (zcK (fun e=>zB e.a a) ps 0):=by
 simp only [zd,znE,zrE]
 rw [show ((0:Int))=((0:Nat):Int) from rfl]
 exact zAO L ps hp a k L 0 (by omega) (by omega)
end
section
variable {β:Type}
def zpE(l:List Plc)(i:Nat)(v:Int):Bool:=match l[i-8]? with
 | some e=>decide (8≤i)&&e.b==v
 | none=>false
def zlo(l:List Plc)(i:Nat)(v:Int):Bool:=match l[i-1]? with
 | some e=>decide (0<i)&&decide (e.b>v)
 | none=>false
def zo1(l:List Plc)(i:Nat):Bool:=match l[i]? with
 | some e=>zcK (fun x=>zB x.a e.a) l 0==(i:Int)
 | none=>true
def zpr(bk:Plc→Int)(l:List Plc)(i:Nat):Bool:=match l[i]? with
 | some e=>e.b==bk e&&!(zlo l i (bk e))&&!(zpE l i (bk e))&&zo1 l i
 | none=>true
def zmt(p:Nat→Bool):Nat→Nat→Bool
 | _,0=>true
 | i,n+1=>p i&&zmt p (i+1) n
def zeS(bk:Plc→Int)(l:List Plc):Bool:=decide (l.length≤512)&&zmt (zpr bk l) 0 l.length
theorem zHc(L:Nat)(ps:List Plc)(hp:ps.length≤1000)(hL:ps.length<L)(i:Nat)(h:i<ps.length)(v:Int)(A:Option β)(K:Int→Option β) :
  (ifb (decide ((i:Int)≥(8:Int))) (
 lt (QF .i64 ((i:Int)-(8:Int))) fun x11=>
 idx (yC ps) x11 fun c12=>
 cI .i64 c12 0 fun v13=>
 ifb ((v13:Int)==v) A (
 idx (yC ps) (i:Int) fun c14=>
 zd β L (yC ps) (XI 3 (XJ 1 c14)) (fun v15=>
 ifb ((v15:Int) != (i:Int)) A (
 lt (QF .i64 ((i:Int)+(1:Int))) fun x16=>
 K x16)))) (
 idx (yC ps) (i:Int) fun c17=>
 zd β L (yC ps) (XI 3 (XJ 1 c17)) (fun v18=>
 ifb ((v18:Int) != (i:Int)) A (
 lt (QF .i64 ((i:Int)+(1:Int))) fun x19=>
 K x19))))=ifb (!(zpE ps i v)&&zo1 ps i) (K ((i+1:Nat):Int)) A:=by
 have e1:XI 3 (XJ 1 ps[i].v)=ps[i].a.v:=rfl
 have key:(idx (yC ps) (i:Int) fun c17=>
   zd β L (yC ps) (XI 3 (XJ 1 c17)) (fun v18=>
   ifb ((v18:Int) != (i:Int)) A (
   lt (QF .i64 ((i:Int)+(1:Int))) fun x19=>K x19)))=ifb (zo1 ps i) (K ((i+1:Nat):Int)) A:=by
  rw [za6 (zbk h),e1,zz8 L ps (by omega) hL,xn,zS (by omega),zo1,Wb h]
  simp only
  rw [zmB,zdm]
 rw [key,zax]
 by_cases h8:8≤i
 ·have g:ps[i-8]?=some (ps[i-8]'(by omega)):=Wb (by omega)
  have e8:QF .i64 ((i:Int)-8)=((i-8:Nat):Int):=by rw [y5 (by omega) (by omega)]; omega
  rw [if_pos (by omega),xn,e8,za6 (zbk (by omega)),zA (n:=(ps[i-8]'(by omega)).b) rfl,zpE,g]
  simp only
  rw [decide_eq_true h8,XP]
  cases ((ps[i-8]'(by omega)).b==v) <;> rfl
 ·have e:zpE ps i v=false:=by
   unfold zpE
   rw [decide_eq_false h8]
   split <;> rfl
  rw [if_neg (by omega),e]
  rfl
theorem zE8(L:Nat)(ps:List Plc)(hp:ps.length≤1000)(hL:ps.length<L)(i:Nat)(h:i<ps.length)(v:Int)(A:Option β)(K:Int→Option β) :
  (idx (yC ps) (i:Int) fun c6=>
 cI .i64 c6 0 fun v7=>
 ifb ((v7:Int) != v) A (
 ifb (decide ((i:Int)>(0:Int))) (
 lt (QF .i64 ((i:Int)-(1:Int))) fun x8=>
 idx (yC ps) x8 fun c9=>
 cI .i64 c9 0 fun v10=>
 ifb (decide (v10>v)) A (
 ifb (decide ((i:Int)≥(8:Int))) (
 lt (QF .i64 ((i:Int)-(8:Int))) fun x11=>
 idx (yC ps) x11 fun c12=>
 cI .i64 c12 0 fun v13=>
 ifb ((v13:Int)==v) A (
 idx (yC ps) (i:Int) fun c14=>
 zd β L (yC ps) (XI 3 (XJ 1 c14)) (fun v15=>
 ifb ((v15:Int) != (i:Int)) A (
 lt (QF .i64 ((i:Int)+(1:Int))) fun x16=>
 K x16)))) (
 idx (yC ps) (i:Int) fun c17=>
 zd β L (yC ps) (XI 3 (XJ 1 c17)) (fun v18=>
 ifb ((v18:Int) != (i:Int)) A (
 lt (QF .i64 ((i:Int)+(1:Int))) fun x19=>
 K x19))))) (
 ifb (decide ((i:Int)≥(8:Int))) (
 lt (QF .i64 ((i:Int)-(8:Int))) fun x11=>
 idx (yC ps) x11 fun c12=>
 cI .i64 c12 0 fun v13=>
 ifb ((v13:Int)==v) A (
 idx (yC ps) (i:Int) fun c14=>
 zd β L (yC ps) (XI 3 (XJ 1 c14)) (fun v15=>
 ifb ((v15:Int) != (i:Int)) A (
 lt (QF .i64 ((i:Int)+(1:Int))) fun x16=>
 K x16)))) (
 idx (yC ps) (i:Int) fun c17=>
 zd β L (yC ps) (XI 3 (XJ 1 c17)) (fun v18=>
 ifb ((v18:Int) != (i:Int)) A (
 lt (QF .i64 ((i:Int)+(1:Int))) fun x19=>
 K x19))))))=ifb (ps[i].b==v&&!(zlo ps i v)&&!(zpE ps i v)&&zo1 ps i) (K ((i+1:Nat):Int)) A:=by
 rw [zHc L ps hp hL i h,za6 (zbk h),zA (n:=ps[i].b) rfl,zmB]
 by_cases hb:ps[i].b=v
 ·rw [if_pos hb,hb,beq_self_eq_true,XP,zax]
  by_cases h0:0<i
  ·have g:ps[i-1]?=some (ps[i-1]'(by omega)):=Wb (by omega)
   have e8:QF .i64 ((i:Int)-1)=((i-1:Nat):Int):=by rw [y5 (by omega) (by omega)]; omega
   rw [if_pos (by omega),xn,e8,za6 (zbk (by omega)),zA (n:=(ps[i-1]'(by omega)).b) rfl,zlo,g]
   simp only
   rw [decide_eq_true h0,XP]
   cases decide ((ps[i-1]'(by omega)).b>v) <;> rfl
  ·have e:zlo ps i v=false:=by
    unfold zlo
    rw [decide_eq_false h0]
    split <;> rfl
   rw [if_neg (by omega),e]
   rfl
 ·rw [if_neg hb,beq_eq_false_iff_ne.2 hb]
  rfl
end
section
def zav(v:Int)(l:List Plc):Nat:=(l.filter (fun x=>x.b==v)).length
def okS(bk:Plc→Int)(N:List Adr)(pre:List Plc)(e:Plc):Bool:=
 e.b==bk e&&(pre.all (fun x=>decide (x.b≤e.b))&&(decide (zav e.b pre≤7)&&(!(pre.any (fun x=>zB x.a e.a))&&!(N.any (fun a=>zB a e.a)))))
def okA(bk:Plc→Int)(N:List Adr):List Plc→List Plc→Bool
 | _,[]=>true
 | pre,e::l=>okS bk N pre e&&okA bk N (pre++[e]) l
def Srt(l:List Plc):Prop:=l.Pairwise (fun x y=>x.b≤y.b)
theorem zE3{bk:Plc→Int}{N:List Adr}{pre:List Plc}{e:Plc}(h:okS bk N pre e=true):∀ x∈pre,x.b≤e.b:=by
 simp only [okS,Wg,QN,decide_eq_true_eq] at h
 exact h.2.1
theorem Srt.snoc{pre:List Plc}{e:Plc}(h:Srt pre)(he:∀ x∈pre,x.b≤e.b):Srt (pre++[e]):=by
 unfold Srt at *
 rw [Xr]
 exact ⟨h,by simp,fun x hx y hy=>by simp at hy; subst hy; exact he x hx⟩
theorem Srt.split:∀ {l:List Plc} (v:Int),Srt l→(∀ x∈l,x.b≤v)→∃ A B:List Plc,l=A++B∧(∀ x∈A,x.b<v)∧(∀ x∈B,x.b=v)
 | [],v,_,_=>⟨[],[],rfl,by simp,by simp⟩
 | x::l,v,h,hv=>by
  have h':=List.pairwise_cons.1 h
  obtain ⟨A,B,rfl,hA,hB⟩:=Srt.split v h'.2 (fun y hy=>hv y (by simp [hy]))
  by_cases hx:x.b<v
  ·exact ⟨x::A,B,rfl,by simpa using ⟨hx,hA⟩,hB⟩
  ·have hxv:x.b=v:=by have:=hv x (by simp); omega
   have:A=[]:=by
    cases A with
    | nil=>rfl
    | cons a A=>
     have h1:=hA a (by simp)
     have h2:=h'.1 a (by simp)
     omega
   subst this
   exact ⟨[],x::B,rfl,by simp,by simpa using ⟨hxv,hB⟩⟩
theorem zEl{A B:List Plc}{v:Int}(hA:∀ x∈A,x.b<v)(hB:∀ x∈B,x.b=v):zav v (A++B)=B.length:=by
 unfold zav
 rw [XV,X4.2 (fun x hx=>by have:=hA x hx; simp; omega),List.filter_eq_self.2 (fun x hx=>by simp [hB x hx])]
 rfl
theorem zC9{l:List Plc}(h:Srt l)(v:Int)(i:Nat)(hi:i<l.length):(l.take i).all (fun x=>decide (x.b≤v))=!(zlo l i v):=by
 unfold zlo
 cases i with
 | zero=>cases hl:l[0-1]? <;> simp
 | succ i=>
  rw [Nat.add_sub_cancel,Wb (by omega)]
  simp only
  rw [Bool.eq_iff_iff]
  simp only [QN,decide_eq_true_eq,Q8,Bool.and_eq_false_imp,decide_eq_false_iff_not]
  constructor
  ·intro H _ hgt
   have:=H l[i] (XR.2 ⟨i,by omega,rfl⟩)
   omega
  ·intro H x hx
   have H:=H (by omega)
   obtain ⟨j,hj,rfl⟩:=XR.1 hx
   by_cases hji:j=i
   ·subst hji; omega
   ·have:=XW.1 h j i (by omega) (by omega) (by omega)
    omega
theorem zHf{l:List Plc}{i:Nat}(hi:i<l.length)(v:Int)(h:Srt (l.take i))(hv:∀ x∈l.take i,x.b≤v):zpE l i v=!(decide (zav v (l.take i)≤7)):=by
 obtain ⟨A,B,hAB,hA,hB⟩:=h.split v hv
 rw [hAB,zEl hA hB]
 have hlen:i=A.length+B.length:=by
  have:=congrArg XG hAB
  rw [Ww,Wm,Nat.min_eq_left (by omega)] at this
  exact this
 unfold zpE
 rw [Wb (by omega)]
 simp only
 by_cases h8:8≤i
 ·have e:l[i-8]'(by omega)=(A++B)[i-8]'(by rw [Wm]; omega):=by
   have:(l.take i)[i-8]'(by rw [Ww]; omega)=l[i-8]'(by omega):=List.getElem_take
   rw [← this]
   simp only [hAB]
  rw [decide_eq_true h8,XP,e]
  by_cases h7:B.length≤7
  ·rw [decide_eq_true h7,List.getElem_append_left (by omega)]
   have:=hA (A[i-8]'(by omega)) (W1 _)
   rw [beq_eq_false_iff_ne.2 (by omega)]; rfl
  ·rw [decide_eq_false h7,List.getElem_append_right (by omega)]
   rw [hB _ (W1 _),beq_self_eq_true]; rfl
 ·rw [decide_eq_false h8,Xo,decide_eq_true (by omega)]; rfl
theorem ztK(a:Adr):zB a a=true:=by simp [zB]
theorem zGu{l:List Plc}{i:Nat}(hi:i<l.length):zo1 l i=!((l.take i).any (fun x=>zB x.a l[i].a)):=by
 unfold zo1
 rw [Wb hi]
 simp only
 rcases zmx (fun x:Plc=>zB x.a l[i].a) l 0 with ⟨h1,h2⟩ | ⟨j,hj,h1,h2,h3⟩
 ·have:=h2 l[i] (W1 hi)
  simp only [ztK] at this
  cases this
 ·rw [h1,WB]
  by_cases hij:j=i
  ·subst hij
   rw [beq_self_eq_true]
   have:(l.take j).any (fun x=>zB x.a l[j].a)=false:=by
    rw [XX]
    intro x hx; rw [h2 x hx]; simp
   rw [this]; rfl
  ·have hlt:j<i:=by
    rcases Nat.lt_or_gt_of_ne hij with h | h
    ·exact h
    ·have:=h2 l[i] (XR.2 ⟨i,by omega,rfl⟩)
     simp only [ztK] at this
     cases this
   rw [beq_eq_false_iff_ne.2 (by omega)]
   have:(l.take i).any (fun x=>zB x.a l[i].a)=true:=List.any_eq_true.2 ⟨l[j],XR.2 ⟨j,by omega,rfl⟩,h3⟩
   rw [this]; rfl
theorem zE5(bk:Plc→Int){l:List Plc}{i:Nat}(hi:i<l.length)(h:Srt (l.take i)):zpr bk l i=okS bk [] (l.take i) l[i]:=by
 unfold zpr okS
 rw [Wb hi]
 simp only
 by_cases hb:l[i].b=bk l[i]
 ·rw [beq_iff_eq.2 hb,XP,XP,← hb,zGu hi]
  have hl:(l.take i).all (fun x=>decide (x.b≤l[i].b))=!(zlo (l.take i++[l[i]]) i l[i].b):=by
   by_cases ha:∀ x∈l.take i,x.b≤l[i].b
   ·rw [← zC9 (h.snoc ha) _ i (by rw [Wm,Ww]; simp; omega),List.take_left' (by rw [Ww]; omega)]
   ·have e1:(l.take i).all (fun x=>decide (x.b≤l[i].b))=false:=by
     rw [Bool.eq_false_iff]
     intro hh
     apply ha
     intro x hx
     have:=QN.1 hh x hx
     simpa using this
    rw [e1]
    have hex:∃ x∈l.take i,l[i].b<x.b:=by
     apply Classical.byContradiction
     intro hn
     exact ha (fun x hx=>by
      apply Classical.byContradiction
      intro h2
      exact hn ⟨x,hx,by omega⟩)
    obtain ⟨x,hx,hlt⟩:=hex
    obtain ⟨j,hj,rfl⟩:=XR.1 hx
    unfold zlo
    rw [List.getElem?_append_left (by rw [Ww]; omega),XY (by omega),Wb (by omega)]
    simp only
    have:l[j].b≤(l[i-1]'(by omega)).b:=by
     by_cases hji:j=i-1
     ·subst hji; exact Int.le_refl _
     ·have:=XW.1 h j (i-1) (by rw [Ww]; omega) (by rw [Ww]; omega) (by omega)
      simpa using this
    rw [decide_eq_true (by omega:0<i),decide_eq_true (by omega)]
    rfl
  have hl2:zlo (l.take i++[l[i]]) i l[i].b=zlo l i l[i].b:=by
   rw [← XO hi]
   unfold zlo
   by_cases h0:0<i
   ·rw [XY (by omega)]
   ·rw [decide_eq_false h0]
    cases (XI (i+1) l)[i-1]? <;> cases l[i-1]? <;> simp
  rw [hl2] at hl
  rw [hl]
  cases hless:zlo l i l[i].b with
  | true=>rfl
  | false=>
   rw [hless] at hl
   have ha:∀ x∈l.take i,x.b≤l[i].b:=fun x hx=>by simpa using QN.1 hl x hx
   rw [zHf hi _ h ha]
   simp [X6]
 ·rw [beq_eq_false_iff_ne.2 hb]; rfl
theorem zzn(bk:Plc→Int)(l:List Plc):∀ (n i:Nat),i+n=l.length→Srt (l.take i)→zmt (zpr bk l) i n=okA bk [] (l.take i) (l.drop i)
 | 0,i,h,hs=>by rw [WI (by omega)]; rfl
 | n+1,i,h,hs=>by
  rw [zmt,WP (by omega),okA,zE5 bk (by omega) hs]
  cases ho:okS bk [] (l.take i) (l[i]'(by omega)) with
  | false=>rfl
  | true=>
   have hi:i<l.length:=by omega
   rw [XP,XP,zzn bk l n (i+1) (by omega) (by rw [XO hi]; exact hs.snoc (zE3 ho)),XO hi]
theorem zqp(bk:Plc→Int)(l:List Plc):zeS bk l=(decide (l.length≤512)&&okA bk [] [] l):=by
 unfold zeS
 rw [zzn bk l l.length 0 (by omega) (by simp [Srt])]
 rfl
structure TOk (bk:Plc→Int) (N:List Adr) (l:List Plc):Prop where
 b:∀ e∈l,e.b=bk e
 s:Srt l
 c:∀ v,zav v l≤8
 n:l.Pairwise (fun x y=>zB x.a y.a=false)
 f:∀ e∈l,∀ a∈N,zB a e.a=false
theorem zh3(v:Int)(pre:List Plc)(e:Plc):zav v (pre++[e])=zav v pre+if e.b=v then 1 else 0:=by
 unfold zav
 rw [XV,Wm]
 by_cases h:e.b=v <;> simp [h]
theorem TOk.snoc(bk:Plc→Int)(N:List Adr)(pre:List Plc)(e:Plc):TOk bk N (pre++[e])↔TOk bk N pre∧okS bk N pre e=true:=by
 simp only [okS,Wg,QN,decide_eq_true_eq,beq_iff_eq,Q8,XX,Bool.not_eq_true]
 constructor
 ·intro h
  have hs:=Xr.1 h.s
  have hn:=Xr.1 h.n
  refine ⟨⟨fun x hx=>h.b x (by simp [hx]),hs.1,fun v=>?_,hn.1,fun x hx=>h.f x (by simp [hx])⟩,h.b e (by simp),fun x hx=>hs.2.2 x hx e (by simp),?_,fun x hx=>hn.2.2 x hx e (by simp),h.f e (by simp)⟩
  ·have:=h.c v; rw [zh3] at this; omega
  ·have:=h.c e.b; rw [zh3,if_pos rfl] at this; omega
 ·rintro ⟨h,h1,h2,h3,h4,h5⟩
  refine ⟨?_,h.s.snoc h2,fun v=>?_,?_,?_⟩
  ·intro x hx
   rcases QC.1 hx with hx | hx
   ·exact h.b x hx
   ·simp at hx; subst hx; exact h1
  ·rw [zh3]
   split
   ·rename_i hv; subst hv; omega
   ·have:=h.c v; omega
  ·rw [Xr]
   exact ⟨h.n,by simp,fun x hx y hy=>by simp at hy; subst hy; exact h4 x hx⟩
  ·intro x hx
   rcases QC.1 hx with hx | hx
   ·exact h.f x hx
   ·simp at hx; subst hx; exact h5
theorem TOk.nil(bk:Plc→Int)(N:List Adr):TOk bk N []:=⟨by simp,List.Pairwise.nil,by simp [zav],List.Pairwise.nil,by simp⟩
theorem zzW(bk:Plc→Int)(N:List Adr):∀ (l pre:List Plc),TOk bk N pre→(okA bk N pre l=true↔TOk bk N (pre++l))
 | [],pre,h=>by simp [okA,h]
 | e::l,pre,h=>by
  rw [okA,Wg,show pre++e::l=(pre++[e])++l by simp]
  constructor
  ·rintro ⟨h1,h2⟩
   exact (zzW bk N l (pre++[e]) ((TOk.snoc bk N pre e).2 ⟨h,h1⟩)).1 h2
  ·intro H
   have hp:TOk bk N (pre++[e]):=by
    have hs:=Xr.1 H.s
    have hn:=Xr.1 H.n
    refine ⟨fun x hx=>H.b x (Xc _ hx),hs.1,fun v=>?_,hn.1,fun x hx=>H.f x (Xc _ hx)⟩
    have:=H.c v
    unfold zav at this ⊢
    rw [XV,Wm] at this
    omega
   exact ⟨((TOk.snoc bk N pre e).1 hp).2,(zzW bk N l (pre++[e]) hp).2 H⟩
end
section
variable {β:Type}
theorem zA3(bk:Plc→Int){l:List Plc}{i:Nat}(h:i<l.length):zpr bk l i=(l[i].b==bk l[i]&&!(zlo l i (bk l[i]))&&!(zpE l i (bk l[i]))&&zo1 l i):=by
 unfold zpr; rw [Wb h]
theorem zDP(L:Nat)(s:List Int)(hs:s.length=32)(ps:List Plc)(hp:ps.length≤1000)(hL:ps.length<L)(k:Bool→Option β):∀ (m i:Nat),i≤ps.length→ps.length-i<m →
  zba ye yb zd (L+100) k (k true) m (yC ps) true (i:Int) (row .u8 s)=k (zmt (zpr (fun e=>hbk s e.a e.s) ps) i (ps.length-i)):=by
 intro m
 induction m with
 | zero=>intro i h1 h2; omega
 | succ m IH=>
  intro i h1 h2
  unfold zba zgt
  rw [xO]
  by_cases h:i<ps.length
  ·have e1:XI 3 (XJ 1 ps[i].v)=ps[i].a.v:=rfl
   have ih:=IH (i+1) (by omega) (by omega)
   have e4:ps.length-i=(ps.length-(i+1))+1:=by omega
   rw [zac (by omega),zqD hs,zb (by rw [zcI,hs]; omega),za6 (zbk h),e1,zEy L s hs]
   rw [e4,zmt,zA3 _ h]
   rw [zgY,zb (by rw [zcI,hs]; omega),za6 (zbk h),za6 (zbk h),zA (n:=ps[i].s) rfl,e1,zG1 L s hs]
   refine (zE8 (L+100) ps hp (by omega) i h _ _ (fun x=>zba ye yb zd (L+100) k (k true) m (yC ps) true x (row .u8 s))).trans ?_
   rw [ih]
   cases (ps[i].b==hbk s ps[i].a ps[i].s&&!(zlo ps i (hbk s ps[i].a ps[i].s))&&!(zpE ps i (hbk s ps[i].a ps[i].s))&&zo1 ps i) <;> rfl
  ·rw [z9 (by omega),show ps.length-i=0 by omega]; rfl
theorem zD4(L:Nat)(s:List Int)(hs:s.length=32)(ps:List Plc)(hp:ps.length≤1000)(hL:ps.length<L)(k:Bool→Option β):∀ (m i:Nat),i≤ps.length→ps.length-i<m →
  zba ye yb zd (L+100) k (k true) m (yC ps) false (i:Int) (row .u8 s)=k (zmt (zpr (fun e=>tbk s e.a) ps) i (ps.length-i)):=by
 intro m
 induction m with
 | zero=>intro i h1 h2; omega
 | succ m IH=>
  intro i h1 h2
  unfold zba zgt
  rw [xO]
  by_cases h:i<ps.length
  ·have e1:XI 3 (XJ 1 ps[i].v)=ps[i].a.v:=rfl
   have ih:=IH (i+1) (by omega) (by omega)
   have e4:ps.length-i=(ps.length-(i+1))+1:=by omega
   rw [zac (by omega),zqD hs,zb (by rw [zcI,hs]; omega),za6 (zbk h),e1,zEy L s hs]
   rw [e4,zmt,zA3 _ h]
   rw [zb6]
   refine (zE8 (L+100) ps hp (by omega) i h _ _ (fun x=>zba ye yb zd (L+100) k (k true) m (yC ps) false x (row .u8 s))).trans ?_
   rw [ih]
   cases (ps[i].b==tbk s ps[i].a&&!(zlo ps i (tbk s ps[i].a))&&!(zpE ps i (tbk s ps[i].a))&&zo1 ps i) <;> rfl
  ·rw [z9 (by omega),show ps.length-i=0 by omega]; rfl
theorem zIu(L:Nat)(s:List Int)(hs:s.length=32)(ps:List Plc)(hp:ps.length≤1000)(hL:ps.length<L)(k:Bool→Option β) :
  xm β (L+100) (row .u8 s) (yC ps) true k=k (zeS (fun e=>hbk s e.a e.s) ps):=by
 unfold xm zi0 zlQ zeS
 rw [xO,zax]
 by_cases h:ps.length≤512
 ·rw [if_neg (by omega),decide_eq_true h,XP]
  refine (zDP L s hs ps hp hL k (L+100) 0 (by omega) (by omega)).trans ?_
  rw [XZ]
 ·rw [if_pos (by omega),decide_eq_false h]; rfl
theorem zID(L:Nat)(s:List Int)(hs:s.length=32)(ps:List Plc)(hp:ps.length≤1000)(hL:ps.length<L)(k:Bool→Option β) :
  xm β (L+100) (row .u8 s) (yC ps) false k=k (zeS (fun e=>tbk s e.a) ps):=by
 unfold xm zi0 zlQ zeS
 rw [xO,zax]
 by_cases h:ps.length≤512
 ·rw [if_neg (by omega),decide_eq_true h,XP]
  refine (zD4 L s hs ps hp hL k (L+100) 0 (by omega) (by omega)).trans ?_
  rw [XZ]
 ·rw [if_pos (by omega),decide_eq_false h]; rfl
def hbf(s:List Int)(e:Plc):Int:=hbk s e.a e.s
def tbf(s:List Int)(e:Plc):Int:=tbk s e.a
def zkP(b:Bk):Bool:=zeS (hbf b.salt) b.H&&(zeS (tbf b.salt) b.T&&b.H.all (fun e=>!(b.T.any (fun x=>zB x.a e.a))))
theorem zHn(L:Nat)(b:Bk)(hH:b.H.length≤1000)(hT:b.T.length≤1000)(hL:b.T.length<L)(k:Bool→Option β):∀ (m i:Nat),i≤b.H.length→b.H.length-i<m →
  zeB xm zd L k (k true) m (i:Int) b.v=k ((b.H.drop i).all (fun e=>!(b.T.any (fun x=>zB x.a e.a)))):=by
 intro m
 induction m with
 | zero=>intro i h1 h2; omega
 | succ m IH=>
  intro i h1 h2
  unfold zeB zj7
  rw [zbi b.g32,xO]
  by_cases h:i<b.H.length
  ·have e1:XI 3 (XJ 1 b.H[i].v)=b.H[i].a.v:=rfl
   rw [zac (by omega),zbi b.g33,zbi b.g32,za6 (zbk h),e1,zz8 L b.T (by omega) hL,zDB,WP h,List.all_cons,xn,zS (by omega)]
   have ih:=IH (i+1) (by omega) (by omega)
   cases (b.T.any fun x=>zB x.a b.H[i].a) with
   | true=>rfl
   | false=>exact ih
  ·rw [z9 (by omega),WI (by omega)]; rfl
theorem Bk.t32(b:Bk):XI 32 b.v=row .u8 b.salt:=by
 rw [Bk.v,List.take_left' (by rw [zcI,b.hs])]
theorem zFt(L:Nat)(b:Bk)(hH:b.H.length≤1000)(hT:b.T.length≤1000)(hL:1000<L)(k:Bool→Option β):zI β (L+100) b.v k=k (zkP b):=by
 unfold zI zlU zpD zkP
 rw [zb (by rw [b.len]; omega),zbi b.g32,b.t32,zIu L b.salt b.hs b.H hH (by omega)]
 have eH:zeS (fun e=>hbk b.salt e.a e.s) b.H=zeS (hbf b.salt) b.H:=rfl
 have eT:zeS (fun e=>tbk b.salt e.a) b.T=zeS (tbf b.salt) b.T:=rfl
 rw [eH]
 cases zeS (hbf b.salt) b.H with
 | false=>rfl
 | true=>
  rw [Bool.not_true,zb6,zb (by rw [b.len]; omega),zbi b.g33,zID L b.salt b.hs b.T hT (by omega),eT]
  cases zeS (tbf b.salt) b.T with
  | false=>rfl
  | true=>
   rw [Bool.not_true,zb6]
   exact zHn (L+100) b hH hT (by omega) k (L+100) 0 (by omega) (by omega)
end
section
variable {β:Type}
theorem zzh(n:Int):0≤QF .u64 n∧QF .u64 n≤18446744073709551615:=by
 unfold QF
 simp only [IntKind.signed,Xo,Bool.false_eq_true,if_false,IntKind.bits]
 have h1:=Int.emod_nonneg n (show (2 ^ 64:Int)≠0 by decide)
 have h2:=Int.emod_lt_of_pos n (show (0:Int)<2 ^ 64 by decide)
 omega
theorem zAx(s m1:List Int)(m2:Int→List Int):0≤bkt s m1 m2∧bkt s m1 m2<64:=by
 unfold bkt
 generalize hx:zjO (zws s) (zvT s) (m2 (QF .u32 (XM (zjO (zws s) (zvT s) m1) 4)))=x
 have h0:0≤x:=by
  rw [← hx]; unfold zjO zB7 zyS zaR; exact (zzh _).1
 have h1:=Int.tmod_nonneg 64 h0
 have h2:=Int.tmod_lt_of_pos x (show (0:Int)<64 by decide)
 rw [y5 (by omega) (by omega)]
 exact ⟨h1,h2⟩
theorem zA0(s:List Int)(e:Plc):0≤hbf s e∧hbf s e<64:=by unfold hbf hbk; exact zAx _ _ _
theorem zAD(s:List Int)(e:Plc):0≤tbf s e∧tbf s e<64:=by unfold tbf tbk; exact zAx _ _ _
def nmv(a:Adr):V:=.agg [.sc (.int .u32 a.h),.sc (.int .u16 a.p)]
def zcY(N:List Adr):List (V × V):=N.map fun a=>(nmv a,.sc (.bool true))
theorem zCK(a b:Adr):zjA (nmv a) (nmv b)=some (zB a b):=by
 simp [zjA,nmv,zgo,zB]
theorem zh4(a b:Adr):zB a b=zB b a:=by
 unfold zB; rw [Bool.beq_comm (a:=a.h),Bool.beq_comm (a:=a.p)]
theorem zxx(a:Adr):∀ N:List Adr,zqh (nmv a) (zcY N)=some (if N.any (fun x=>zB x a) then some (.sc (.bool true)) else none)
 | []=>rfl
 | x::N=>by
  have ih:=zxx a N
  simp only [zcY,QV,zqh,zCK,List.any_cons,zh4 x a] at ih ⊢
  cases zB a x with
  | true=>rfl
  | false=>simpa using ih
theorem zzE(a:Adr):∀ N:List Adr,N.any (fun x=>zB x a)=false→zxH (nmv a) (.sc (.bool true)) (zcY N)=some (zcY (N++[a]))
 | [],_=>rfl
 | x::N,h=>by
  rw [List.any_cons,Bool.or_eq_false_iff,zh4] at h
  have ih:=zzE a N h.2
  simp only [zcY,QV,zxH,zCK,h.1,List.cons_append] at ih ⊢
  rw [ih]; rfl
theorem zAU(a:Adr)(N:List Adr)(K:Bool→Option β):(mAt 4 (V.agg (XI 2 [(Qc a.h),(Qb a.p)])) (zcY N) fun q=>aB (XL q (V.sc (.bool false))) K)=K (N.any (fun x=>zB x a)):=by
 have e:V.agg (XI 2 [(Qc a.h),(Qb a.p)])=nmv a:=rfl
 rw [e]
 have h:ziH 4 (nmv a)=true:=rfl
 simp only [mAt,h,zxx]
 cases N.any (fun x=>zB x a) <;> rfl
theorem zzF{a:Adr}{N:List Adr}(h:N.any (fun x=>zB x a)=false)(K:List (V × V)→Option β):zsI 4 (V.agg (XI 2 [(Qc a.h),(Qb a.p)])) (V.sc (.bool true)) (zcY N) K=K (zcY (N++[a])):=by
 have e:V.agg (XI 2 [(Qc a.h),(Qb a.p)])=nmv a:=rfl
 rw [e]
 have h':ziH 4 (nmv a)=true:=rfl
 simp only [zsI,h',zzE a N h]
theorem zI5(L:Nat)(b:Bk)(e:Plc)(k:Int→List V→Option β):xg β (L+100) e.v b.v k=k (hbf b.salt e) b.v:=by
 unfold xg zki
 have e1:XI 3 (XJ 1 e.v)=e.a.v:=rfl
 rw [zb (by rw [b.len]; omega),zb (by show 1+3≤5; omega),zA (n:=e.s) rfl,b.t32,e1,zGZ L b.salt b.hs]
 rfl
theorem zJd(L:Nat)(b:Bk)(e:Plc)(k:Int→List V→Option β):zh β (L+100) e.v b.v k=k (tbf b.salt e) b.v:=by
 unfold zh zkE
 have e1:XI 3 (XJ 1 e.v)=e.a.v:=rfl
 rw [zb (by rw [b.len]; omega),zb (by show 1+3≤5; omega),b.t32,e1,zIM L b.salt b.hs]
 rfl
theorem zAP{v:Int}{pre:List Plc}(h:∀ x∈pre,x.b<v):zav v pre=0:=by
 unfold zav
 rw [X4.2 (fun x hx=>by have:=h x hx; simp; omega)]; rfl
structure Inv (pre:List Plc) (la ru:Int):Prop where
 le:∀ x∈pre,x.b≤la
 ru:ru=(zav la pre:Nat)
 ex:(la=-1∧pre=[])∨∃ x∈pre,x.b=la
 mn:-1≤la
theorem Inv.next{pre:List Plc}{la ru:Int}(h:Inv pre la ru){e:Plc}(he:la≤e.b):Inv (pre++[e]) e.b ((zav e.b (pre++[e]):Nat):Int):=
 ⟨fun x hx=>by
  rcases QC.1 hx with hx | hx
  ·have:=h.le x hx; omega
  ·simp at hx; subst hx; exact Int.le_refl _,rfl,.inr ⟨e,by simp,rfl⟩,by have:=h.mn; omega⟩
theorem zET{bk:Plc→Int}{N:List Adr}{pre:List Plc}{la ru:Int}(h:Inv pre la ru){e:Plc}(hb:0≤bk e)(he:e.b<la):okS bk N pre e=false:=by
 rw [Bool.eq_false_iff]
 intro H
 have h1:=zE3 H
 rcases h.ex with ⟨h2,h3⟩ | ⟨x,hx,h2⟩
 ·simp only [okS,Wg,beq_iff_eq] at H
  omega
 ·have:=h1 x hx; omega
theorem zFG{bk:Plc→Int}{N:List Adr}{pre:List Plc}{la ru:Int}(h:Inv pre la ru){e:Plc}(he:la≤e.b):okS bk N pre e=(e.b==bk e&&(decide (zav e.b (pre++[e])≤8)&&!((N++pre.map Plc.a).any (fun a=>zB a e.a)))):=by
 unfold okS
 have h1:pre.all (fun x=>decide (x.b≤e.b))=true:=QN.2 fun x hx=>decide_eq_true (by have:=h.le x hx; omega)
 rw [h1,XP,zh3,if_pos rfl,List.any_append,List.any_map,Bool.not_or]
 have e1:decide (zav e.b pre+1≤8)=decide (zav e.b pre≤7):=decide_eq_decide.2 (by omega)
 rw [e1]
 congr 2
 rw [Bool.and_comm]; rfl
theorem zEJ(L:Nat)(b:Bk)(l:List Plc)(hl:l.length≤1000)(N:List Adr)(kr:Bool→List (V × V)→List V→Option β)(kx:List (V × V)→List V→Option β)(R:Option β)(hr:∀ mp,kr false mp b.v=R):∀ (m i:Nat) (la ru:Int),i≤l.length→l.length-i<m→Inv (l.take i) la ru →
  zb5 xg (L+100) kr kx m la ru (yC l) ((l.length:Nat):Int) (i:Int) (zcY (N++(l.take i).map Plc.a)) b.v=ifb (okA (hbf b.salt) N (l.take i) (l.drop i)) (kx (zcY (N++l.map Plc.a)) b.v) R:=by
 intro m
 induction m with
 | zero=>intro i la ru h1 h2; omega
 | succ m IH=>
  intro i la ru h1 h2 hi
  unfold zb5 zgZ
  by_cases h:i<l.length
  ·have e1:XI 5 l[i].v=l[i].v:=rfl
   have e2:yh [(Qe (0:Int)),(Qc (0:Int)),(Qb (0:Int)),(Qc (0:Int)),(Qc (0:Int))] 0 l[i].v=l[i].v:=zmG rfl
   have hcl:zav la (l.take i)≤l.length:=by
    unfold zav
    exact Nat.le_trans (X5 _ _) (by rw [Ww]; omega)
   rw [zac (by omega),za6 (zbk h),e1,zb ⟨rfl,by omega⟩,xn,e2,zA (n:=l[i].b) rfl,zax,WP h,okA]
   by_cases hlt:l[i].b<la
   ·rw [if_pos hlt,zET hi (zA0 _ _).1 hlt,Xo,hr]; rfl
   ·rw [if_neg hlt,zA (n:=l[i].b) rfl,zb (by show 0+5≤5; omega),e1,zI5,zb rfl,zmB,zFG hi (by omega)]
    by_cases hb:l[i].b=hbf b.salt l[i]
    ·have hi':=hi.next (e:=l[i]) (by omega)
     have key:∀ ru':Int,ru'=((zav l[i].b (l.take i++[l[i]]):Nat):Int) →
       (cI .u32 l[i].v 1 fun v9=>
        cI .u16 l[i].v 2 fun v10=>
        lt [(Qc v9),(Qb v10)] fun r11=>
        ifb (decide (ru'>(8:Int))) (
        kr false (zcY (N++(l.take i).map Plc.a)) b.v) (
        chk (0+2≤(XG r11)) (
        mAt 4 (V.agg (XI 2 r11)) (zcY (N++(l.take i).map Plc.a)) fun q12=>
        aB (XL q12 (V.sc (.bool false))) fun v13=>
        ifb v13 (
        kr false (zcY (N++(l.take i).map Plc.a)) b.v) (
        chk (0+2≤(XG r11)) (
        zsI 4 (V.agg (XI 2 r11)) (V.sc (.bool true)) (zcY (N++(l.take i).map Plc.a)) fun m14=>
        lt (QF .i64 ((i:Int)+(1:Int))) fun x15=>
        zb5 xg (L+100) kr kx m l[i].b ru' (yC l) ((l.length:Nat):Int) x15 m14 b.v)))))
       = ifb (decide (zav l[i].b (l.take i++[l[i]])≤8)&&!((N++(l.take i).map Plc.a).any (fun a=>zB a l[i].a))&&okA (hbf b.salt) N (l.take i++[l[i]]) (l.drop (i+1))) (kx (zcY (N++l.map Plc.a)) b.v) R:=by
      intro ru' hru
      rw [zA (n:=l[i].a.h) rfl,zA (n:=l[i].a.p) rfl,xn,zax]
      by_cases hc:zav l[i].b (l.take i++[l[i]])≤8
      ·rw [if_neg (by omega),decide_eq_true hc,XP,zb (by show 0+2≤2; omega),zAU]
       cases ha:(N++(l.take i).map Plc.a).any (fun a=>zB a l[i].a) with
       | true=>exact hr _
       | false=>
        rw [zb6,zb (by show 0+2≤2; omega),zzF ha,xn,zS (by omega)]
        have ih:=IH (i+1) l[i].b ru' (by omega) (by omega) (by rw [XO h,hru]; exact hi')
        rw [XO h,X3,QV,X0,← List.append_assoc] at ih
        exact ih
      ·rw [if_pos (by omega),decide_eq_false hc,hr]; rfl
     rw [if_pos hb,zA (n:=l[i].b) rfl,zmB,beq_iff_eq.2 hb,XP]
     by_cases hll:l[i].b=la
     ·rw [if_pos hll,xn,← hll]
      have e3:QF .i64 (ru+1)=((zav l[i].b (l.take i++[l[i]]):Nat):Int):=by
       rw [hi.ru,y5 (by omega) (by omega),zh3,if_pos rfl,hll]; omega
      exact key _ e3
     ·rw [if_neg hll,zA (n:=l[i].b) rfl,xn]
      have e3:QF .i64 (((0:Int):Int)+1)=((zav l[i].b (l.take i++[l[i]]):Nat):Int):=by
       rw [y5 (by omega) (by omega),zh3,if_pos rfl,zAP (fun x hx=>by have:=hi.le x hx; omega)]; rfl
      exact key _ e3
    ·rw [if_neg hb,beq_eq_false_iff_ne.2 hb,hr]; rfl
  ·rw [z9 (by omega),WI (by omega),Xu (by omega)]; rfl
theorem zIB(L:Nat)(b:Bk)(l:List Plc)(hl:l.length≤1000)(hL:1000<L)(N:List Adr)(k:Bool→List (V × V)→List V→Option β)(R:Option β)(hr:∀ mp,k false mp b.v=R) :
  yS β (L+100) (yC l) (zcY N) b.v k=ifb (decide (l.length≤512)&&okA (hbf b.salt) N [] l) (k true (zcY (N++l.map Plc.a)) b.v) R:=by
 unfold yS ziG zmb
 rw [xO,zax]
 by_cases h:l.length≤512
 ·rw [if_neg (by omega),decide_eq_true h,XP,show ((0:Int))=((0:Nat):Int) from rfl]
  have:=zEJ L b l hl N (fun p6 b0 b1=>zfm xg (L+100) p6 b0 b1 k) (fun b0 b1=>zfH xg (L+100) b0 b1 k) R (fun mp=>hr mp) (L+100) 0 (-1) 0 (by omega) (by omega) ⟨by simp,rfl,.inl ⟨rfl,rfl⟩,by omega⟩
  rw [List.take_zero,XU,X0,List.append_nil] at this
  exact this
 ·rw [if_pos (by omega),decide_eq_false h,hr]; rfl
theorem zEq(L:Nat)(b:Bk)(l:List Plc)(hl:l.length≤1000)(N:List Adr)(kr:Bool→List (V × V)→List V→Option β)(kx:List (V × V)→List V→Option β)(R:Option β)(hr:∀ mp,kr false mp b.v=R):∀ (m i:Nat) (la ru:Int),i≤l.length→l.length-i<m→Inv (l.take i) la ru →
  zbm zh (L+100) kr kx m la ru (yC l) ((l.length:Nat):Int) (i:Int) (zcY (N++(l.take i).map Plc.a)) b.v=ifb (okA (tbf b.salt) N (l.take i) (l.drop i)) (kx (zcY (N++l.map Plc.a)) b.v) R:=by
 intro m
 induction m with
 | zero=>intro i la ru h1 h2; omega
 | succ m IH=>
  intro i la ru h1 h2 hi
  unfold zbm zfn
  by_cases h:i<l.length
  ·have e1:XI 5 l[i].v=l[i].v:=rfl
   have e2:yh [(Qe (0:Int)),(Qc (0:Int)),(Qb (0:Int)),(Qc (0:Int)),(Qc (0:Int))] 0 l[i].v=l[i].v:=zmG rfl
   have hcl:zav la (l.take i)≤l.length:=by
    unfold zav
    exact Nat.le_trans (X5 _ _) (by rw [Ww]; omega)
   rw [zac (by omega),za6 (zbk h),e1,zb ⟨rfl,by omega⟩,xn,e2,zA (n:=l[i].b) rfl,zax,WP h,okA]
   by_cases hlt:l[i].b<la
   ·rw [if_pos hlt,zET hi (zAD _ _).1 hlt,Xo,hr]; rfl
   ·rw [if_neg hlt,zA (n:=l[i].b) rfl,zb (by show 0+5≤5; omega),e1,zJd,zb rfl,zmB,zFG hi (by omega)]
    by_cases hb:l[i].b=tbf b.salt l[i]
    ·have hi':=hi.next (e:=l[i]) (by omega)
     have key:∀ ru':Int,ru'=((zav l[i].b (l.take i++[l[i]]):Nat):Int) →
       (cI .u32 l[i].v 1 fun v9=>
        cI .u16 l[i].v 2 fun v10=>
        lt [(Qc v9),(Qb v10)] fun r11=>
        ifb (decide (ru'>(8:Int))) (
        kr false (zcY (N++(l.take i).map Plc.a)) b.v) (
        chk (0+2≤(XG r11)) (
        mAt 4 (V.agg (XI 2 r11)) (zcY (N++(l.take i).map Plc.a)) fun q12=>
        aB (XL q12 (V.sc (.bool false))) fun v13=>
        ifb v13 (
        kr false (zcY (N++(l.take i).map Plc.a)) b.v) (
        chk (0+2≤(XG r11)) (
        zsI 4 (V.agg (XI 2 r11)) (V.sc (.bool true)) (zcY (N++(l.take i).map Plc.a)) fun m14=>
        lt (QF .i64 ((i:Int)+(1:Int))) fun x15=>
        zbm zh (L+100) kr kx m l[i].b ru' (yC l) ((l.length:Nat):Int) x15 m14 b.v)))))
       = ifb (decide (zav l[i].b (l.take i++[l[i]])≤8)&&!((N++(l.take i).map Plc.a).any (fun a=>zB a l[i].a))&&okA (tbf b.salt) N (l.take i++[l[i]]) (l.drop (i+1))) (kx (zcY (N++l.map Plc.a)) b.v) R:=by
      intro ru' hru
      rw [zA (n:=l[i].a.h) rfl,zA (n:=l[i].a.p) rfl,xn,zax]
      by_cases hc:zav l[i].b (l.take i++[l[i]])≤8
      ·rw [if_neg (by omega),decide_eq_true hc,XP,zb (by show 0+2≤2; omega),zAU]
       cases ha:(N++(l.take i).map Plc.a).any (fun a=>zB a l[i].a) with
       | true=>exact hr _
       | false=>
        rw [zb6,zb (by show 0+2≤2; omega),zzF ha,xn,zS (by omega)]
        have ih:=IH (i+1) l[i].b ru' (by omega) (by omega) (by rw [XO h,hru]; exact hi')
        rw [XO h,X3,QV,X0,← List.append_assoc] at ih
        exact ih
      ·rw [if_pos (by omega),decide_eq_false hc,hr]; rfl
     rw [if_pos hb,zA (n:=l[i].b) rfl,zmB,beq_iff_eq.2 hb,XP]
     by_cases hll:l[i].b=la
     ·rw [if_pos hll,xn,← hll]
      have e3:QF .i64 (ru+1)=((zav l[i].b (l.take i++[l[i]]):Nat):Int):=by
       rw [hi.ru,y5 (by omega) (by omega),zh3,if_pos rfl,hll]; omega
      exact key _ e3
     ·rw [if_neg hll,zA (n:=l[i].b) rfl,xn]
      have e3:QF .i64 (((0:Int):Int)+1)=((zav l[i].b (l.take i++[l[i]]):Nat):Int):=by
       rw [y5 (by omega) (by omega),zh3,if_pos rfl,zAP (fun x hx=>by have:=hi.le x hx; omega)]; rfl
      exact key _ e3
    ·rw [if_neg hb,beq_eq_false_iff_ne.2 hb,hr]; rfl
  ·rw [z9 (by omega),WI (by omega),Xu (by omega)]; rfl
theorem zIK(L:Nat)(b:Bk)(l:List Plc)(hl:l.length≤1000)(hL:1000<L)(N:List Adr)(k:Bool→List (V × V)→List V→Option β)(R:Option β)(hr:∀ mp,k false mp b.v=R) :
  zL β (L+100) (yC l) (zcY N) b.v k=ifb (decide (l.length≤512)&&okA (tbf b.salt) N [] l) (k true (zcY (N++l.map Plc.a)) b.v) R:=by
 unfold zL zfY zjm
 rw [xO,zax]
 by_cases h:l.length≤512
 ·rw [if_neg (by omega),decide_eq_true h,XP,show ((0:Int))=((0:Nat):Int) from rfl]
  have:=zEq L b l hl N (fun p6 b0 b1=>zeg zh (L+100) p6 b0 b1 k) (fun b0 b1=>zeD zh (L+100) b0 b1 k) R (fun mp=>hr mp) (L+100) 0 (-1) 0 (by omega) (by omega) ⟨by simp,rfl,.inl ⟨rfl,rfl⟩,by omega⟩
  rw [List.take_zero,XU,X0,List.append_nil] at this
  exact this
 ·rw [if_pos (by omega),decide_eq_false h,hr]; rfl
def zwI(b:Bk):Bool:=(decide (b.H.length≤512)&&okA (hbf b.salt) [] [] b.H)&&(decide (b.T.length≤512)&&okA (tbf b.salt) (b.H.map Plc.a) [] b.T)
theorem zEO(L:Nat)(b:Bk)(hH:b.H.length≤1000)(hT:b.T.length≤1000)(hL:1000<L)(k:Bool→Option β):ya β (L+100) b.v k=k (zwI b):=by
 unfold ya zma zwI
 rw [zbi b.g32]
 refine (zIB L b b.H hH hL [] _ (k false) (fun mp=>zb rfl _)).trans ?_
 rw [XB]
 cases (decide (b.H.length≤512)&&okA (hbf b.salt) [] [] b.H) with
 | false=>rfl
 | true=>
  rw [zgY,zb rfl,zgY,zbi b.g33]
  refine (zIK L b b.T hT hL _ _ (k false) (fun mp=>zb rfl _)).trans ?_
  cases (decide (b.T.length≤512)&&okA (tbf b.salt) (b.H.map Plc.a) [] b.T) with
  | false=>rfl
  | true=>exact zb rfl _
theorem zIN(bk:Plc→Int)(N:List Adr)(pre:List Plc)(e:Plc):okS bk N pre e=(okS bk [] pre e&&!(N.any (fun a=>zB a e.a))):=by
 unfold okS
 simp [X6]
theorem zG7(bk:Plc→Int)(N:List Adr):∀ (l pre:List Plc),okA bk N pre l=(okA bk [] pre l&&l.all (fun e=>!(N.any (fun a=>zB a e.a))))
 | [],pre=>rfl
 | e::l,pre=>by
  rw [okA,okA,zIN,zG7 bk N l,List.all_cons]
  cases okS bk [] pre e <;> cases (N.any (fun a=>zB a e.a)) <;> simp
theorem zGp(H T:List Plc):T.all (fun e=>!((H.map Plc.a).any (fun a=>zB a e.a)))=H.all (fun e=>!(T.any (fun x=>zB x.a e.a))):=by
 rw [Bool.eq_iff_iff]
 simp only [QN,Q8,XX,List.mem_map,Bool.not_eq_true,forall_exists_index,and_imp,forall_apply_eq_imp_iff₂]
 constructor
 ·intro h x hx e he; rw [zh4]; exact h e he x hx
 ·intro h x hx e he; rw [zh4]; exact h e he x hx
theorem zCG(b:Bk):zwI b=zkP b:=by
 unfold zwI zkP
 rw [zqp,zqp,zG7 (tbf b.salt) (b.H.map Plc.a),zGp]
 simp [X6]
end
end Go.Proofs.Ytbimgceighecgaa
