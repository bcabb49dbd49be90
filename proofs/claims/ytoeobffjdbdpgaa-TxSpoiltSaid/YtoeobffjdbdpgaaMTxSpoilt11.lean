/- Part 11 of the proof of TxSpoilt: an abstract machine over plain values, its soundness, and the functions of the program on plain values. -/
import Derived.Test.YtoeobffjdbdpgaaMTxSpoilt10
namespace Go.Proofs.Ytoeobffjdbdpgaa
set_option linter.unusedVariables false
set_option linter.unusedSimpArgs false
open List renaming length->XM,take->XN,replicate->We,set->XQ,map->Xu
open IntKind renaming wrap->QF
open Int renaming toNat->XO
section
set_option maxRecDepth 100000
def za9:CC:=(.seq (.seq (.reg [Qh 89 (tq 13),Qp 90 .gtr (tq 89) (Qf 0),Qh 91 (tq 90),⟨(some 92),false,(some (91,true)),.move (tq 7) false⟩,⟨(some 93),false,(some (91,true)),.nilCheck (tq 92)⟩,⟨(some 94),false,(some (91,true)),.fieldAddr 2 (tq 93)⟩,⟨(some 95),false,(some (91,true)),.load false 1 (tq 94) false⟩,⟨(some 96),false,(some (91,true)),.bin .eql (tq 95) (Qf 0)⟩,oo 97 (.pick (tq 91) (tq 96) (Qg false))]) (.cond (tq 97) .skip (.seq (.mask (bl 33849922949209616891773330 148) (bl 356811923167403450762135544012445415519542271 148)) (.exit 6)))) (.seq (.block 7 (.dreg [] [(Ql 100 1 (tq 8),q0),(Qj 101 1 (tq 100),ql 8 [82] [111,112]),(Qh 102 (tq 12),q0),(Ql 103 1 (tq 8),q0),(Qj 104 1 (tq 103),ql 8 [] [111]),(Qh 105 (tq 12),q0),(Qo 106 35 (tq 104) (tq 105),q0),(Ql 107 34 (tq 106),q0),(oo 108 (.load false 1 (tq 107) true),ql 82 [8] [111]),(Qh 109 (tq 7),q0),(Qs 110 178 [(Qw 109),((Qf 520),0)],qc [8,82] []),(oo 111 (.buildSlice 1 1 [(.sl 1 [])] [(0,1,(tq 110))]),qn [8,82] []),(oo 112 (.append 1 24 (tq 108) (tq 111)),qn [8] []),(Qo 113 35 (tq 101) (tq 102),q0),(Ql 114 34 (tq 113),q0),(Qm 1 (tq 114) (tq 112),q0)])) (.reg [Qh 98 (tq 13),Qp 99 .sub (tq 98) (Qf 1),Qh 13 (tq 99)])))
def ze4:CC:=(.reg [Qp 115 .add (tq 84) (Qf 1),Qh 84 (tq 115)])
def zbW:CC:=(.seq (.reg [Qp 85 .lss (tq 84) (tq 83)]) (.seq (.cond (tq 85) .skip (.seq (.mask (bl 4835703278458516698825106 148) (bl 356811923167403450452650534191100346794757119 148)) (.exit 4))) (.seq (.block 5 (.seq (.reg [Qh 86 (tq 84),Qh 12 (tq 86)]) (.seq (.reg [Qh 87 (tq 7),Qs 88 175 [(Qw 87),((Qf 32),0)],Qh 13 (tq 88)]) (.block 6 (.loop (bl 33849922949209616891785618 148) (bl 356811923167403450762135544012445415519550463 148) za9))))) ze4)))
def zdo:CC:=(.seq (.seq (.reg [Qh 60 (tq 11),Qp 61 .gtr (tq 60) (Qf 0),Qh 62 (tq 61),⟨(some 63),false,(some (62,true)),.move (tq 7) false⟩,⟨(some 64),false,(some (62,true)),.nilCheck (tq 63)⟩,⟨(some 65),false,(some (62,true)),.fieldAddr 2 (tq 64)⟩,⟨(some 66),false,(some (62,true)),.load false 1 (tq 65) false⟩,⟨(some 67),false,(some (62,true)),.bin .eql (tq 66) (Qf 0)⟩,oo 68 (.pick (tq 62) (tq 67) (Qg false))]) (.cond (tq 68) .skip (.seq (.mask (bl 402 148) (bl 356811923176489970264439266100853434029700095 148)) (.exit 2)))) (.seq (.block 3 (.dreg [] [(Ql 71 2 (tq 8),q0),(oo 72 (.load false 1 (tq 71) true),ql 8 [] [75]),(Qh 73 (tq 7),q0),(Qs 74 177 [(Qw 73)],qc [8] []),(oo 75 (.buildSlice 2 1 [(.sc (.int .i64 0)),(.sl 1 [])] [(0,2,(tq 74))]),qn [8] []),(oo 76 (.append 2 32 (tq 72) (tq 75)),q0),(Ql 77 2 (tq 8),q0),(Qm 1 (tq 77) (tq 76),q0)])) (.reg [Qh 69 (tq 11),Qp 70 .sub (tq 69) (Qf 1),Qh 11 (tq 70)])))
def zdT:CC:=(.seq (.seq (.reg [Qh 32 (tq 9),Qp 33 .gtr (tq 32) (Qf 0),Qh 34 (tq 33),⟨(some 35),false,(some (34,true)),.move (tq 7) false⟩,⟨(some 36),false,(some (34,true)),.nilCheck (tq 35)⟩,⟨(some 37),false,(some (34,true)),.fieldAddr 2 (tq 36)⟩,⟨(some 38),false,(some (34,true)),.load false 1 (tq 37) false⟩,⟨(some 39),false,(some (34,true)),.bin .eql (tq 38) (Qf 0)⟩,oo 40 (.pick (tq 34) (tq 39) (Qg false))]) (.cond (tq 40) .skip (.seq (.mask (bl 402 148) (bl 356811923176489970264571492253073532201728511 148)) (.exit 0)))) (.seq (.block 1 (.seq (.reg [Qh 43 (tq 7),Qs 44 176 [(Qw 43)],Qh 45 (tq 7),Qs 46 174 [(Qw 45)],oo 47 (.build (rp 32 (.sc (.int .u8 0)) (rp 1 (.sc (.int .u32 0)) [])) [(0,32,(tq 44)),(32,1,(tq 46))]),oo 48 (.build (rp 32 (.sc (.int .u8 0)) (rp 2 (.sc (.int .u32 0)) (rp 1 (.gs 1 []) []))) [(0,33,(tq 47))]),oo 10 (.alloc true (rp 32 (.sc (.int .u8 0)) (rp 2 (.sc (.int .u32 0)) (rp 1 (.gs 1 []) [])))),Qm 35 (tq 10) (tq 48)]) (.seq (.reg [Qh 49 (tq 7),Qs 50 174 [(Qw 49)],Ql 51 33 (tq 10),Qm 1 (tq 51) (tq 50)]) (.reg [Ql 52 1 (tq 8),oo 53 (.load false 1 (tq 52) true),Qk 54 35 (tq 10),oo 55 (.buildSlice 35 1 (rp 32 (.sc (.int .u8 0)) (rp 2 (.sc (.int .u32 0)) (rp 1 (.sl 1 []) []))) [(0,35,(tq 54))]),oo 56 (.appendF 35 64 (tq 53) (tq 55)),Ql 57 1 (tq 8),Qm 1 (tq 57) (tq 56)])))) (.reg [Qh 41 (tq 9),Qp 42 .sub (tq 41) (Qf 1),Qh 9 (tq 42)])))
def ziH:CC:=(.seq (.seq (.reg [Qh 116 (tq 7),oo 117 (.nilCheck (tq 116)),Ql 118 2 (tq 117),Qj 119 1 (tq 118),Qp 120 .eql (tq 119) (Qf 0),Qh 121 (tq 120),⟨(some 122),false,(some (121,true)),.move (tq 7) false⟩,⟨(some 123),false,(some (121,true)),.nilCheck (tq 122)⟩,⟨(some 124),false,(some (121,true)),.fieldAddr 1 (tq 123)⟩,⟨(some 125),false,(some (121,true)),.load false 1 (tq 124) false⟩,⟨(some 126),false,(some (121,true)),.move (tq 1) false⟩,⟨(some 127),false,(some (121,true)),.bin .sub (tq 125) (tq 126)⟩,⟨(some 128),false,(some (121,true)),.bin .gtr (tq 127) (Qf 20000)⟩,oo 129 (.pick (tq 121) (tq 128) (Qg false))]) (.cond (tq 129) (.reg [Qh 130 (tq 7),oo 131 (.nilCheck (tq 130)),Ql 132 2 (tq 131),Qm 1 (tq 132) (Qf 4)]) .skip)) (.seq (.seq (.reg [Qh 133 (tq 7),oo 134 (.nilCheck (tq 133)),Ql 135 2 (tq 134),Qj 136 1 (tq 135),Qp 137 .neq (tq 136) (Qf 0)]) (.cond (tq 137) (.seq (.dreg [] [(oo 138 (.build [(.sc (.int .u32 0)),(.sl 35 []),(.sl 2 []),(.sc (.int .u32 0))] []),q0),(Qh 139 (tq 7),q0),(oo 140 (.nilCheck (tq 139)),q0),(Ql 141 2 (tq 140),q0),(Qj 142 1 (tq 141),ql 7 [4] []),(Qm 4 (tq 4) (tq 138),ql 4 [7] []),(Qh 5 (Qf 0),q0),(Qh 6 (tq 142),q0)]) .ret) .skip)) (.seq (.dreg [100082] [(oo 143 (.loadS 4 (tq 8)),qc [7] []),(Qh 144 (tq 7),q0),(oo 145 (.nilCheck (tq 144)),q0),(Ql 146 1 (tq 145),q0),(Qj 147 1 (tq 146),ql 7 [4] []),(Qm 4 (tq 4) (tq 143),ql 4 [7] []),(Qh 5 (tq 147),q0),(Qh 6 (Qf 0),q0)]) .ret)))
def zgX:CC:=(.seq (.reg [Qh 78 (tq 7),Qs 79 174 [(Qw 78)],Ql 80 3 (tq 8),Qm 1 (tq 80) (tq 79)]) (.seq (.seq (.reg [Ql 81 1 (tq 8),oo 82 (.pinC false 35 (tq 81)),Qr 83 (tq 82),Qh 84 (Qf 0)]) (.block 4 (.loop (bl 33849922949209616891773330 148) (bl 356811923167403450452650534191100346794757119 148) zbW))) ziH))
def zhZ:CC:=(.seq (.seq (.reg [Qh 58 (tq 7),Qs 59 175 [(Qw 58),((Qf 64),0)],Qh 11 (tq 59)]) (.block 2 (.loop (bl 2450 148) (bl 356811923176489970264439266100853434029702143 148) zdo))) zgX)
def zbd:CF:=⟨148,[.cell 4 true 4,.tmp 5,.tmp 6],(.seq (.reg [oo 4 (.alloc true [(.sc (.int .u32 0)),(.gs 35 []),(.gs 2 []),(.sc (.int .u32 0))]),Qh 5 (Qf 0),Qh 6 (Qf 0)]) (.seq (.seq (.reg [Qh 14 (tq 1),Qp 15 .lss (tq 14) (Qf 0),Qh 16 (tq 15),⟨(some 17),false,(some (16,false)),.move (tq 1) false⟩,⟨(some 18),false,(some (16,false)),.move (tq 0) false⟩,⟨(some 19),false,(some (16,false)),.lenS (tq 18)⟩,⟨(some 20),false,(some (16,false)),.bin .gtr (tq 17) (tq 19)⟩,oo 21 (.pick (tq 16) (Qg true) (tq 20))]) (.cond (tq 21) (.seq (.reg [oo 22 (.build [(.sc (.int .u32 0)),(.sl 35 []),(.sl 2 []),(.sc (.int .u32 0))] []),Qm 4 (tq 4) (tq 22),Qh 5 (Qf 0),Qh 6 (Qf 5)]) .ret) .skip)) (.seq (.reg [Qh 23 (tq 0),Qh 24 (tq 1),oo 25 (.build [(.gs 1 []),(.sc (.int .i64 0)),(.sc (.int .i64 0))] [(0,1,(tq 23)),(1,1,(tq 24))]),oo 26 (.box false (tq 25)),Qh 7 (tq 26)]) (.seq (.reg [Qh 27 (tq 7),Qs 28 174 [(Qw 27)],oo 29 (.buildSt [(.sc (.int .u32 0)),(.gs 35 []),(.gs 2 []),(.sc (.int .u32 0))] [(0,1,(tq 28))]),oo 8 (.alloc false [(.sc (.int .u32 0)),(.fr 35 []),(.gs 2 []),(.sc (.int .u32 0))]),oz (.storeF 4 (tq 8) (tq 29) [1])]) (.seq (.seq (.reg [Qh 30 (tq 7),Qs 31 175 [(Qw 30),((Qf 64),0)],Qh 9 (tq 31)]) (.block 0 (.loop (bl 914 148) (bl 356811923176489970264571492253073532201729023 148) zdT))) zhZ)))))⟩
def zuk:Hint:=⟨[(0,0),(8,6),(10,1),(14,1),(22,8),(4,2)],[],[none,none,none,some ((bl 914 148),(bl 356811923176489970264571492253073532201729023 148)),none,some ((bl 402 148),(bl 356811923176489970264571492253073532201728511 148)),none,none,some ((bl 2450 148),(bl 356811923176489970264439266100853434029702143 148)),none,some ((bl 402 148),(bl 356811923176489970264439266100853434029700095 148)),none,none,some ((bl 33849922949209616891773330 148),(bl 356811923167403450452650534191100346794757119 148)),none,some ((bl 4835703278458516698825106 148),(bl 356811923167403450452650534191100346794757119 148)),none,none,some ((bl 33849922949209616891785618 148),(bl 356811923167403450762135544012445415519550463 148)),none,some ((bl 33849922949209616891773330 148),(bl 356811923167403450762135544012445415519542271 148)),none,none,none,none,none],[(28,[100082])],[(3,2,[0]),(4,2,[0]),(8,5,[0]),(4,3,[1]),(4,4,[1]),(10,4,[0]),(16,1,[1]),(28,0,[1,1])],false,false,[(22,82)]⟩
def yF:Nat→Sh:=xT [(108,(.gs 1))]
def xF(zb:yp)(yb:xp)(zc:yq)(ya:ym)(za:yl)(L:Nat):CBC:=(xy 178 (zdJ za L) (xy 177 (ze0 ya L) (xy 176 (zgj zc L) (xy 175 (zgA yb L) (xy 174 (zgc zb L) noC)))))
def zgG:St→St:=zab 0 (bl 914 148) (bl 356811923176489970264571492253073532201729023 148)
def zfq:St→St:=zab 0 (bl 2450 148) (bl 356811923176489970264439266100853434029702143 148)
def zbj:St→St:=zab 0 (bl 33849922949209616891773330 148) (bl 356811923167403450452650534191100346794757119 148)
def zcs:St→St:=zab 0 (bl 33849922949209616891785618 148) (bl 356811923167403450762135544012445415519550463 148)
def zes(M N C:Int)(D E:List (List V))(F G:Int)(H I:List (List V))(J:Int)(p:List (List V))(z A:Int):St:=⟨(jn 1 ((Qe M)::(jn 2 ((V.ptr 4 0)::(jn 2 ((V.ptr 26 0)::((V.ptr 8 0)::((Qe N)::(jn 138 []))))))))),(gn 4 ((.live true [(Qc C),(V.gs 35 D),(V.gs 2 E),(Qc F)])::(gn 3 ((.live false [(Qc G),(V.fr 35 H),(V.gs 2 I),(Qc J)])::(gn 17 ((.live false [(V.sl 1 p),(Qe z),(Qe A)])::(gn 121 [])))))))⟩
def ziV(M C:Int)(D E:List (List V))(F G:Int)(H I:List (List V))(J:Int)(p:List (List V))(z A:Int):St:=⟨(jn 1 ((Qe M)::(jn 2 ((V.ptr 4 0)::(jn 2 ((V.ptr 26 0)::((V.ptr 8 0)::(jn 139 [])))))))),(gn 4 ((.live true [(Qc C),(V.gs 35 D),(V.gs 2 E),(Qc F)])::(gn 3 ((.live false [(Qc G),(V.fr 35 H),(V.gs 2 I),(Qc J)])::(gn 17 ((.live false [(V.sl 1 p),(Qe z),(Qe A)])::(gn 121 [])))))))⟩
def zd6(N M C:Int)(D E:List (List V))(F G:Int)(H I:List (List V))(J:Int)(p:List (List V))(z A:Int):St:=⟨(jn 1 ((Qe N)::(jn 2 ((V.ptr 4 0)::(jn 2 ((V.ptr 26 0)::((V.ptr 8 0)::(jn 2 ((Qe M)::(jn 136 [])))))))))),(gn 4 ((.live true [(Qc C),(V.gs 35 D),(V.gs 2 E),(Qc F)])::(gn 3 ((.live false [(Qc G),(V.fr 35 H),(V.gs 2 I),(Qc J)])::(gn 17 ((.live false [(V.sl 1 p),(Qe z),(Qe A)])::(gn 121 [])))))))⟩
def ziW(M C:Int)(D E:List (List V))(F G:Int)(H I:List (List V))(J:Int)(p:List (List V))(z A:Int):St:=⟨(jn 1 ((Qe M)::(jn 2 ((V.ptr 4 0)::(jn 2 ((V.ptr 26 0)::((V.ptr 8 0)::(jn 139 [])))))))),(gn 4 ((.live true [(Qc C),(V.gs 35 D),(V.gs 2 E),(Qc F)])::(gn 3 ((.live false [(Qc G),(V.fr 35 H),(V.gs 2 I),(Qc J)])::(gn 17 ((.live false [(V.sl 1 p),(Qe z),(Qe A)])::(gn 121 [])))))))⟩
def zbn(Q:Int)(D:Nat)(N O E:Int)(F G:List (List V))(H I:Int)(p:Nat)(J:List (List V))(M:Int)(z:List (List V))(A C:Int)(P:List V):St:=⟨(jn 1 ((Qe Q)::(jn 2 ((V.ptr 4 0)::(jn 2 ((V.ptr 26 0)::((V.ptr 8 0)::(jn 73 ((V.own 82 0 D 35)::((Qe N)::((Qe O)::(jn 63 [])))))))))))),(gn 4 ((.live true [(Qc E),(V.gs 35 F),(V.gs 2 G),(Qc H)])::(gn 3 ((.live false [(Qc I),(V.own 82 0 p 35),(V.gs 2 J),(Qc M)])::(gn 17 ((.live false [(V.sl 1 z),(Qe A),(Qe C)])::(gn 55 ((.live false P)::(gn 65 [])))))))))⟩
def zbO(S N O:Int)(D:Nat)(P Q E:Int)(F G:List (List V))(H I:Int)(p:Nat)(J:List (List V))(M:Int)(z:List (List V))(A C:Int)(R:List V):St:=⟨(jn 1 ((Qe S)::(jn 2 ((V.ptr 4 0)::(jn 2 ((V.ptr 26 0)::((V.ptr 8 0)::(jn 3 ((Qe N)::((Qe O)::(jn 68 ((V.own 82 0 D 35)::((Qe P)::((Qe Q)::(jn 63 []))))))))))))))),(gn 4 ((.live true [(Qc E),(V.gs 35 F),(V.gs 2 G),(Qc H)])::(gn 3 ((.live false [(Qc I),(V.own 82 0 p 35),(V.gs 2 J),(Qc M)])::(gn 17 ((.live false [(V.sl 1 z),(Qe A),(Qe C)])::(gn 55 ((.live false R)::(gn 65 [])))))))))⟩
def zjf(O:Int)(D:Nat)(E:Int)(F G:List (List V))(H I:Int)(p:Nat)(J:List (List V))(M:Int)(z:List (List V))(A C:Int)(N:List V):St:=⟨(jn 1 ((Qe O)::(jn 2 ((V.ptr 4 0)::(jn 2 ((V.ptr 26 0)::((V.ptr 8 0)::(jn 73 ((V.own 82 0 D 35)::(jn 65 [])))))))))),(gn 4 ((.live true [(Qc E),(V.gs 35 F),(V.gs 2 G),(Qc H)])::(gn 3 ((.live false [(Qc I),(V.own 82 0 p 35),(V.gs 2 J),(Qc M)])::(gn 17 ((.live false [(V.sl 1 z),(Qe A),(Qe C)])::(gn 55 ((.live false N)::(gn 65 [])))))))))⟩
def znb(Q:Int)(D:Nat)(N O E:Int)(F G:List (List V))(H I:Int)(p:Nat)(J:List (List V))(M:Int)(z:List (List V))(A C:Int)(P:List V):St:=⟨(jn 1 ((Qe Q)::(jn 2 ((V.ptr 4 0)::(jn 2 ((V.ptr 26 0)::((V.ptr 8 0)::(jn 73 ((V.own 82 0 D 35)::((Qe N)::((Qe O)::(jn 63 [])))))))))))),(gn 4 ((.live true [(Qc E),(V.gs 35 F),(V.gs 2 G),(Qc H)])::(gn 3 ((.live false [(Qc I),(V.own 82 0 p 35),(V.gs 2 J),(Qc M)])::(gn 17 ((.live false [(V.sl 1 z),(Qe A),(Qe C)])::(gn 55 ((.live false P)::(gn 65 [])))))))))⟩
abbrev zfl(β:Type):Type:=Int→Int→Int→List (List V)→List (List V)→Int→Int→List (List V)→List (List V)→Int→List (List V)→Int→Int→Option β
abbrev ziu(β:Type):Type:=Int→Int→List (List V)→List (List V)→Int→Int→List (List V)→List (List V)→Int→List (List V)→Int→Int→Option β
abbrev zeS(β:Type):Type:=Int→Int→Int→List (List V)→List (List V)→Int→Int→List (List V)→List (List V)→Int→List (List V)→Int→Int→Option β
abbrev zh5(β:Type):Type:=Int→Int→List (List V)→List (List V)→Int→Int→List (List V)→List (List V)→Int→List (List V)→Int→Int→Option β
abbrev zgQ(β:Type):Type:=Int→Nat→Int→Int→Int→List (List V)→List (List V)→Int→Int→Nat→List (List V)→Int→List (List V)→Int→Int→List V→Option β
abbrev zcb(β:Type):Type:=Int→Int→Int→Nat→Int→Int→Int→List (List V)→List (List V)→Int→Int→Nat→List (List V)→Int→List (List V)→Int→Int→List V→Option β
abbrev zik(β:Type):Type:=Int→Nat→Int→List (List V)→List (List V)→Int→Int→Nat→List (List V)→Int→List (List V)→Int→Int→List V→Option β
abbrev zej(β:Type):Type:=Int→Nat→Int→Int→Int→List (List V)→List (List V)→Int→Int→Nat→List (List V)→Int→List (List V)→Int→Int→List V→Option β
def zoi{β:Type}(zb:yp)(yb:xp)(zc:yq)(ya:ym)(za:yl)(L:Nat)(C:List (List V))(A:Int)(z:List V→Int→Int→Option β)(p:zfl β):Option β:=ifb (decide (A<(0:Int))) (lt [(Qc (0:Int)),(V.sl 35 ([]:List (List V))),(V.sl 2 ([]:List (List V))),(Qc (0:Int))] fun D=>chk (0=0∧(XM D)=4∧4≠0) (z D (0:Int) (5:Int))) (ifb (decide (A>((XM C:Nat):Int))) (lt [(Qc (0:Int)),(V.sl 35 ([]:List (List V))),(V.sl 2 ([]:List (List V))),(Qc (0:Int))] fun E=>chk (0=0∧(XM E)=4∧4≠0) (z E (0:Int) (5:Int))) (zb β L C A (0:Int) (fun F G H I=>yb β L (64:Int) G H I (fun J M N O=>p A J (0:Int) ([]:List (List V)) ([]:List (List V)) (0:Int) F ([]:List (List V)) ([]:List (List V)) (0:Int) M N O))))
theorem zBf{β:Type}(zb:yp)(yb:xp)(zc:yq)(ya:ym)(za:yl)(L:Nat)(Q:List (List V))(p:Int)(k:KK β):xq yF (xF zb yb zc ya za L) L zbd [(V.sl 1 Q),(Qe p)] [] k=zoi zb yb zc ya za L Q p (fun D E F=>k (V.tup [(V.agg D),(Qe E),(Qe F)]) []) (fun p R G H I J M N O P z A C=>zw (xj yF (xF zb yb zc ya za L) 0 L zdT) zgG L (zes p R G H I J M N O P z A C) (yo 0 (zE (xj yF (xF zb yb zc ya za L) 0 L zhZ) (yQ 0 (CF.res zbd) k)))):=by kernel_rfl
def zc4{β:Type}(zb:yp)(yb:xp)(zc:yq)(ya:ym)(za:yl)(L:Nat)(S T G:Int)(H I:List (List V))(J M:Int)(p N:List (List V))(O:Int)(C:List (List V))(D z:Int)(E:zfl β)(P:ziu β):Option β:=ifb (decide (T>(0:Int))) (ifb ((z:Int)==(0:Int)) (zc β L C D z (fun F U W X=>zb β L U W X (fun Q Y Z aa=>chk ((XM F)=32∧0+32≤33) (chk (1=1∧32+1≤(XM (xm (We 32 (Qa (0:Int))++[(Qc (0:Int))]) 0 F))) (chk ((XM (xm (xm (We 32 (Qa (0:Int))++[(Qc (0:Int))]) 0 F) 32 [(Qc Q)]))=33∧0+33≤35) (chk ((XM (xm (We 32 (Qa (0:Int))++[(Qc (0:Int)),(Qc (0:Int)),(V.gs 1 ([]:List (List V)))]) 0 (xm (xm (We 32 (Qa (0:Int))++[(Qc (0:Int))]) 0 F) 32 [(Qc Q)])))=35∧0+35≤35) (lt (xm (We 32 (Qa (0:Int))++[(Qc (0:Int)),(Qc (0:Int)),(V.gs 1 ([]:List (List V)))]) 0 (xm (We 32 (Qa (0:Int))++[(Qc (0:Int)),(Qc (0:Int)),(V.gs 1 ([]:List (List V)))]) 0 (xm (xm (We 32 (Qa (0:Int))++[(Qc (0:Int))]) 0 F) 32 [(Qc Q)]))) fun R=>zb β L Y Z aa (fun ab ac ad ae=>chk (1=1∧33+1≤(XM R)) (lt (xm R 33 [(Qc ab)]) fun A=>chk (0+35≤(XM A)) (chk ((XM (XN 35 A))=35∧0+35≤35) (chk ((XM p+XM (zl 35 1 (xm (We 32 (Qa (0:Int))++[(Qc (0:Int)),(Qc (0:Int)),(V.sl 1 ([]:List (List V)))]) 0 (XN 35 A))))*64≤yn∧XM p+XM (zl 35 1 (xm (We 32 (Qa (0:Int))++[(Qc (0:Int)),(Qc (0:Int)),(V.sl 1 ([]:List (List V)))]) 0 (XN 35 A)))≤yn∧XM p+XM (zl 35 1 (xm (We 32 (Qa (0:Int))++[(Qc (0:Int)),(Qc (0:Int)),(V.sl 1 ([]:List (List V)))]) 0 (XN 35 A)))≠0) (lt (p++(zl 35 1 (xm (We 32 (Qa (0:Int))++[(Qc (0:Int)),(Qc (0:Int)),(V.sl 1 ([]:List (List V)))]) 0 (XN 35 A)))) fun af=>lt (QF .i64 ((T:Int)-(1:Int))) fun ag=>E S ag G H I J M af N O ac ad ae)))))))))))) (P S G H I J M p N O C D z)) (P S G H I J M p N O C D z)
theorem zuS{β:Type}(zb:yp)(yb:xp)(zc:yq)(ya:ym)(za:yl)(L:Nat)(M N C:Int)(D E:List (List V))(F G:Int)(H I:List (List V))(J:Int)(p:List (List V))(z A:Int)(X:St→Option β)(K:KT β):xj yF (xF zb yb zc ya za L) 0 L zdT (zes M N C D E F G H I J p z A) (zU zgG X K)=zc4 zb yb zc ya za L M N C D E F G H I J p z A (fun M N C D E F G H I J p z A=>X (zes M N C D E F G H I J p z A)) (fun M C D E F G H I J p z A=>K (.exit 0) (ziV M C D E F G H I J p z A)):=by kernel_rfl
def zeT{β:Type}(zb:yp)(yb:xp)(zc:yq)(ya:ym)(za:yl)(L:Nat)(R D:Int)(E F:List (List V))(G H:Int)(I J:List (List V))(M:Int)(z:List (List V))(A C:Int)(p:zeS β):Option β:=yb β L (64:Int) z A C (fun N O P Q=>p R N D E F G H I J M O P Q)
theorem zty{β:Type}(zb:yp)(yb:xp)(zc:yq)(ya:ym)(za:yl)(L:Nat)(M C:Int)(D E:List (List V))(F G:Int)(H I:List (List V))(J:Int)(p:List (List V))(z A:Int)(k:KK β):(yo 0 (zE (xj yF (xF zb yb zc ya za L) 0 L zhZ) (yQ 0 (CF.res zbd) k))) (.exit 0) (ziV M C D E F G H I J p z A)=zeT zb yb zc ya za L M C D E F G H I J p z A (fun M N C D E F G H I J p z A=>zw (xj yF (xF zb yb zc ya za L) 0 L zdo) zfq L (zd6 M N C D E F G H I J p z A) (yo 2 (zE (xj yF (xF zb yb zc ya za L) 0 L zgX) (yQ 0 (CF.res zbd) k)))):=by kernel_rfl
def zcQ{β:Type}(zb:yp)(yb:xp)(zc:yq)(ya:ym)(za:yl)(L:Nat)(Q P E:Int)(F G:List (List V))(H I:Int)(J z:List (List V))(M:Int)(C:List (List V))(D p:Int)(A:zeS β)(O:zh5 β):Option β:=ifb (decide (P>(0:Int))) (ifb ((p:Int)==(0:Int)) (ya β L C D p (fun N R S T=>chk ((XM N)=2∧0+2≤2) (chk ((XM z+XM (zl 2 1 (xm [(Qe (0:Int)),(V.sl 1 ([]:List (List V)))] 0 N)))*32≤yn∧XM z+XM (zl 2 1 (xm [(Qe (0:Int)),(V.sl 1 ([]:List (List V)))] 0 N))≤yn) (lt (z++(zl 2 1 (xm [(Qe (0:Int)),(V.sl 1 ([]:List (List V)))] 0 N))) fun U=>lt (QF .i64 ((P:Int)-(1:Int))) fun W=>A Q W E F G H I J U M R S T)))) (O Q E F G H I J z M C D p)) (O Q E F G H I J z M C D p)
theorem ztL{β:Type}(zb:yp)(yb:xp)(zc:yq)(ya:ym)(za:yl)(L:Nat)(N M C:Int)(D E:List (List V))(F G:Int)(H I:List (List V))(J:Int)(p:List (List V))(z A:Int)(X:St→Option β)(K:KT β):xj yF (xF zb yb zc ya za L) 0 L zdo (zd6 N M C D E F G H I J p z A) (zU zfq X K)=zcQ zb yb zc ya za L N M C D E F G H I J p z A (fun N M C D E F G H I J p z A=>X (zd6 N M C D E F G H I J p z A)) (fun N C D E F G H I J p z A=>K (.exit 2) (ziW N C D E F G H I J p z A)):=by kernel_rfl
def zeu{β:Type}(zb:yp)(yb:xp)(zc:yq)(ya:ym)(za:yl)(L:Nat)(R E:Int)(F G:List (List V))(H I:Int)(z J:List (List V))(S:Int)(A:List (List V))(C D:Int)(p:zgQ β):Option β:=zb β L A C D (fun M N O P=>lt (List.flatten z) fun Q=>p R (XM z) (((XM z):Nat):Int) (0:Int) E F G H I (XM z) J M N O P (zbH (bl 356811923167403450452650534191100346794757119 148) Q))
theorem zr8{β:Type}(zb:yp)(yb:xp)(zc:yq)(ya:ym)(za:yl)(L:Nat)(M C:Int)(D E:List (List V))(F G:Int)(J H:List (List V))(I:Int)(p:List (List V))(z A:Int)(k:KK β):(yo 2 (zE (xj yF (xF zb yb zc ya za L) 0 L zgX) (yQ 0 (CF.res zbd) k))) (.exit 2) (ziW M C D E F G J H I p z A)=zeu zb yb zc ya za L M C D E F G J H I p z A (fun M O P Q C D E F G N H I p z A R=>zw (xj yF (xF zb yb zc ya za L) 0 L zbW) zbj L (zbn M O P Q C D E F G N H I p z A R) (yo 4 (zE (xj yF (xF zb yb zc ya za L) 0 L ziH) (yQ 0 (CF.res zbd) k)))):=by kernel_rfl
def zc9{β:Type}(zb:yp)(yb:xp)(zc:yq)(ya:ym)(za:yl)(L:Nat)(S:Int)(E:Nat)(P F G:Int)(H I:List (List V))(J M:Int)(z:Nat)(N:List (List V))(O:Int)(A:List (List V))(C D:Int)(Q:List V)(p:zcb β)(R:zik β):Option β:=ifb (decide (F<P)) (yb β L (32:Int) A C D (fun T U W X=>p S F T E P F G H I J M z N O U W X (zbH (bl 356811923167403450762135544012445415519550463 148) Q))) (R S E G H I J M z N O A C D (zbH (bl 356811923167403450452650534191100346794757119 148) Q))
theorem zr0{β:Type}(zb:yp)(yb:xp)(zc:yq)(ya:ym)(za:yl)(L:Nat)(Q:Int)(D:Nat)(O P E:Int)(F G:List (List V))(H I:Int)(p:Nat)(J:List (List V))(M:Int)(z:List (List V))(A C:Int)(N:List V)(X:St→Option β)(K:KT β):xj yF (xF zb yb zc ya za L) 0 L zbW (zbn Q D O P E F G H I p J M z A C N) (zU zbj X K)=zc9 zb yb zc ya za L Q D O P E F G H I p J M z A C N (fun Q R S D O P E F G H I p J M z A C N=>zw (xj yF (xF zb yb zc ya za L) 0 L za9) zcs L (zbO Q R S D O P E F G H I p J M z A C N) (yo 6 (yo 5 (zE (xj yF (xF zb yb zc ya za L) 0 L ze4) (zU zbj X K))))) (fun Q D E F G H I p J M z A C N=>K (.exit 4) (zjf Q D E F G H I p J M z A C N)):=by kernel_rfl
def z9{β:Type}(zb:yp)(yb:xp)(zc:yq)(ya:ym)(za:yl)(L:Nat)(Z:Int)(aa:Nat)(ab:Int)(ac ad:List (List V))(ae D:Int)(C:Nat)(E:List (List V))(F:Int)(Y:List (List V))(z A:Int)(G:List V)(p:List V→Int→Int→Option β):Option β:=ifb ((A:Int)==(0:Int)) (lt (QF .i64 ((z:Int)-Z)) fun Q=>ifb (decide (Q>(20000:Int))) (lt [(Qc (0:Int)),(V.sl 35 ([]:List (List V))),(V.sl 2 ([]:List (List V))),(Qc (0:Int))] fun H=>chk (0=0∧(XM H)=4∧4≠0) (p H (0:Int) (4:Int))) (ifb ((A:Int) != (0:Int)) (lt [(Qc (0:Int)),(V.sl 35 ([]:List (List V))),(V.sl 2 ([]:List (List V))),(Qc (0:Int))] fun I=>chk (0=0∧(XM I)=4∧4≠0) (p I (0:Int) A)) (lc G (chk (C=0) (lt [(Qc D),(V.sl 35 ([]:List (List V))),(V.sl 2 E),(Qc F)] fun J=>chk (0=0∧(XM J)=4∧4≠0) (p J z (0:Int)))) (fun R S=>zdU (R::S) fun T=>lt [(Qc D),(V.sl 35 (zl 35 C T)),(V.sl 2 E),(Qc F)] fun M=>chk (0=0∧(XM M)=4∧4≠0) (p M z (0:Int)))))) (ifb ((A:Int) != (0:Int)) (lt [(Qc (0:Int)),(V.sl 35 ([]:List (List V))),(V.sl 2 ([]:List (List V))),(Qc (0:Int))] fun N=>chk (0=0∧(XM N)=4∧4≠0) (p N (0:Int) A)) (lc G (chk (C=0) (lt [(Qc D),(V.sl 35 ([]:List (List V))),(V.sl 2 E),(Qc F)] fun O=>chk (0=0∧(XM O)=4∧4≠0) (p O z (0:Int)))) (fun U W=>zdU (U::W) fun X=>lt [(Qc D),(V.sl 35 (zl 35 C X)),(V.sl 2 E),(Qc F)] fun P=>chk (0=0∧(XM P)=4∧4≠0) (p P z (0:Int)))))
theorem zqn{β:Type}(zb:yp)(yb:xp)(zc:yq)(ya:ym)(za:yl)(L:Nat)(R:Int)(D:Nat)(E:Int)(F G:List (List V))(H I:Int)(p:Nat)(J:List (List V))(M:Int)(z:List (List V))(A C:Int)(N:List V)(k:KK β):(yo 4 (zE (xj yF (xF zb yb zc ya za L) 0 L ziH) (yQ 0 (CF.res zbd) k))) (.exit 4) (zjf R D E F G H I p J M z A C N)=z9 zb yb zc ya za L R D E F G H I p J M z A C N (fun O P Q=>k (V.tup [(V.agg O),(Qe P),(Qe Q)]) []):=by kernel_rfl
def zaH{β:Type}(zb:yp)(yb:xp)(zc:yq)(ya:ym)(za:yl)(L:Nat)(Y z T:Int)(F:Nat)(R S G:Int)(H I:List (List V))(J M:Int)(A:Nat)(N:List (List V))(O:Int)(P:List (List V))(Q D:Int)(E:List V)(p:zcb β)(U:zej β):Option β:=ifb (decide (T>(0:Int))) (ifb ((D:Int)==(0:Int)) (chk (0≤z∧z<((A:Nat):Int)) (cG 1 E ((0+((XO z)*35))+34) fun C=>za β L (520:Int) P Q D (fun W Z aa ab=>chk ((XM C+XM (zl 1 1 [(V.sl 1 W)]))*24≤yn∧XM C+XM (zl 1 1 [(V.sl 1 W)])≤yn) (lt (C++(zl 1 1 [(V.sl 1 W)])) fun ac=>chk (0≤z∧z<((A:Nat):Int)) (chk (1=1∧((0+((XO z)*35))+34)<(XM (XQ E ((0+((XO z)*35))+34) (V.sl 1 C)))) (lt (QF .i64 ((T:Int)-(1:Int))) fun ad=>p Y z ad F R S G H I J M A N O Z aa ab (zbH (bl 356811923167403450762135544012445415519550463 148) (XQ (XQ E ((0+((XO z)*35))+34) (V.sl 1 C)) ((0+((XO z)*35))+34) (V.gs 1 ac))))))) (fun X ae af ag=>chk ((XM C+XM (zl 1 1 [(V.sl 1 X)]))*24≤yn∧XM C+XM (zl 1 1 [(V.sl 1 X)])≤yn) (lt (C++(zl 1 1 [(V.sl 1 X)])) fun ah=>chk (0≤z∧z<((A:Nat):Int)) (chk (1=1∧((0+((XO z)*35))+34)<(XM (XQ E ((0+((XO z)*35))+34) (V.sl 1 C)))) (lt (QF .i64 ((T:Int)-(1:Int))) fun ai=>p Y z ai F R S G H I J M A N O ae af ag (zbH (bl 356811923167403450762135544012445415519550463 148) (XQ (XQ E ((0+((XO z)*35))+34) (V.sl 1 C)) ((0+((XO z)*35))+34) (V.gs 1 ah))))))))) (U Y F R S G H I J M A N O P Q D (zbH (bl 356811923167403450762135544012445415519542271 148) E))) (U Y F R S G H I J M A N O P Q D (zbH (bl 356811923167403450762135544012445415519542271 148) E))
theorem zmd{β:Type}(zb:yp)(yb:xp)(zc:yq)(ya:ym)(za:yl)(L:Nat)(S Q R:Int)(D:Nat)(N O E:Int)(F G:List (List V))(H I:Int)(p:Nat)(J:List (List V))(M:Int)(z:List (List V))(A C:Int)(P:List V)(X:St→Option β)(K:KT β):xj yF (xF zb yb zc ya za L) 0 L za9 (zbO S Q R D N O E F G H I p J M z A C P) (zU zcs X K)=zaH zb yb zc ya za L S Q R D N O E F G H I p J M z A C P (fun S Q R D N O E F G H I p J M z A C P=>X (zbO S Q R D N O E F G H I p J M z A C P)) (fun S D N O E F G H I p J M z A C P=>K (.exit 6) (znb S D N O E F G H I p J M z A C P)):=by kernel_rfl
def yK{β:Type}(zb:yp)(yb:xp)(zc:yq)(ya:ym)(za:yl)(L:Nat)(S:Int)(E:Nat)(O P F:Int)(G H:List (List V))(I J:Int)(z:Nat)(M:List (List V))(N:Int)(A:List (List V))(C D:Int)(Q:List V)(p:zgQ β):Option β:=lt (QF .i64 ((P:Int)+(1:Int))) fun R=>p S E O R F G H I J z M N A C D (zbH (bl 356811923167403450452650534191100346794757119 148) Q)
theorem zla{β:Type}(zb:yp)(yb:xp)(zc:yq)(ya:ym)(za:yl)(L:Nat)(Q:Int)(D:Nat)(N O E:Int)(F G:List (List V))(H I:Int)(p:Nat)(J:List (List V))(M:Int)(z:List (List V))(A C:Int)(P:List V)(X:St→Option β)(K:KT β):(yo 6 (yo 5 (zE (xj yF (xF zb yb zc ya za L) 0 L ze4) (zU zbj X K)))) (.exit 6) (znb Q D N O E F G H I p J M z A C P)=yK zb yb zc ya za L Q D N O E F G H I p J M z A C P (fun Q D N O E F G H I p J M z A C P=>X (zbn Q D N O E F G H I p J M z A C P)):=by kernel_rfl
def zah{β:Type}(zb:yp)(yb:xp)(zc:yq)(ya:ym)(za:yl)(L:Nat)(M:ziu β):Nat→Int→Int→Int→List (List V)→List (List V)→Int→Int→List (List V)→List (List V)→Int→List (List V)→Int→Int→Option β
 | 0,_,_,_,_,_,_,_,_,_,_,_,_,_=>none
 | n+1,N,O,C,D,E,F,G,H,I,J,p,z,A=>zc4 zb yb zc ya za L N O C D E F G H I J p z A (fun N O C D E F G H I J p z A=>zah zb yb zc ya za L M n N O C D E F G H I J p z A) M
theorem zl5{β:Type}(zb:yp)(yb:xp)(zc:yq)(ya:ym)(za:yl)(L:Nat)(K:KT β):∀ (n:Nat) (M N C:Int) (D E:List (List V)) (F G:Int) (H I:List (List V)) (J:Int) (p:List (List V)) (z A:Int),zw (xj yF (xF zb yb zc ya za L) 0 L zdT) zgG n (zes M N C D E F G H I J p z A) K=zah zb yb zc ya za L (fun M C D E F G H I J p z A=>K (.exit 0) (ziV M C D E F G H I J p z A)) n M N C D E F G H I J p z A:=by
 intro n
 induction n with
 | zero=>intros; rfl
 | succ n ih=>
  intro M N C D E F G H I J p z A
  refine (zuS zb yb zc ya za L M N C D E F G H I J p z A (fun σ=>zw (xj yF (xF zb yb zc ya za L) 0 L zdT) zgG n σ K) K).trans ?_
  simp only [ih]
  rfl
def z5{β:Type}(zb:yp)(yb:xp)(zc:yq)(ya:ym)(za:yl)(L:Nat)(M:zh5 β):Nat→Int→Int→Int→List (List V)→List (List V)→Int→Int→List (List V)→List (List V)→Int→List (List V)→Int→Int→Option β
 | 0,_,_,_,_,_,_,_,_,_,_,_,_,_=>none
 | n+1,O,N,C,D,E,F,G,H,I,J,p,z,A=>zcQ zb yb zc ya za L O N C D E F G H I J p z A (fun O N C D E F G H I J p z A=>z5 zb yb zc ya za L M n O N C D E F G H I J p z A) M
theorem zlv{β:Type}(zb:yp)(yb:xp)(zc:yq)(ya:ym)(za:yl)(L:Nat)(K:KT β):∀ (n:Nat) (N M C:Int) (D E:List (List V)) (F G:Int) (H I:List (List V)) (J:Int) (p:List (List V)) (z A:Int),zw (xj yF (xF zb yb zc ya za L) 0 L zdo) zfq n (zd6 N M C D E F G H I J p z A) K=z5 zb yb zc ya za L (fun N C D E F G H I J p z A=>K (.exit 2) (ziW N C D E F G H I J p z A)) n N M C D E F G H I J p z A:=by
 intro n
 induction n with
 | zero=>intros; rfl
 | succ n ih=>
  intro N M C D E F G H I J p z A
  refine (ztL zb yb zc ya za L N M C D E F G H I J p z A (fun σ=>zw (xj yF (xF zb yb zc ya za L) 0 L zdo) zfq n σ K) K).trans ?_
  simp only [ih]
  rfl
def xI{β:Type}(zb:yp)(yb:xp)(zc:yq)(ya:ym)(za:yl)(L:Nat)(N:zej β):Nat→Int→Int→Int→Nat→Int→Int→Int→List (List V)→List (List V)→Int→Int→Nat→List (List V)→Int→List (List V)→Int→Int→List V→Option β
 | 0,_,_,_,_,_,_,_,_,_,_,_,_,_,_,_,_,_,_=>none
 | n+1,T,O,P,D,Q,R,E,F,G,H,I,p,J,M,z,A,C,S=>zaH zb yb zc ya za L T O P D Q R E F G H I p J M z A C S (fun T O P D Q R E F G H I p J M z A C S=>xI zb yb zc ya za L N n T O P D Q R E F G H I p J M z A C S) N
theorem zfG{β:Type}(zb:yp)(yb:xp)(zc:yq)(ya:ym)(za:yl)(L:Nat)(K:KT β):∀ (n:Nat) (S Q R:Int) (D:Nat) (N O E:Int) (F G:List (List V)) (H I:Int) (p:Nat) (J:List (List V)) (M:Int) (z:List (List V)) (A C:Int) (P:List V),zw (xj yF (xF zb yb zc ya za L) 0 L za9) zcs n (zbO S Q R D N O E F G H I p J M z A C P) K=xI zb yb zc ya za L (fun S D N O E F G H I p J M z A C P=>K (.exit 6) (znb S D N O E F G H I p J M z A C P)) n S Q R D N O E F G H I p J M z A C P:=by
 intro n
 induction n with
 | zero=>intros; rfl
 | succ n ih=>
  intro S Q R D N O E F G H I p J M z A C P
  refine (zmd zb yb zc ya za L S Q R D N O E F G H I p J M z A C P (fun σ=>zw (xj yF (xF zb yb zc ya za L) 0 L za9) zcs n σ K) K).trans ?_
  simp only [ih]
  rfl
def zbV{β:Type}(zb:yp)(yb:xp)(zc:yq)(ya:ym)(za:yl)(L:Nat)(R:Int)(E:Nat)(O P F:Int)(G H:List (List V))(I J:Int)(p:Nat)(M:List (List V))(N:Int)(z:List (List V))(A C:Int)(Q:List V)(S:zik β)(D:zgQ β):Option β:=zc9 zb yb zc ya za L R E O P F G H I J p M N z A C Q (fun R T U E O P F G H I J p M N z A C Q=>xI zb yb zc ya za L (fun R E O P F G H I J p M N z A C Q=>yK zb yb zc ya za L R E O P F G H I J p M N z A C Q D) L R T U E O P F G H I J p M N z A C Q) S
theorem zq0{β:Type}(zb:yp)(yb:xp)(zc:yq)(ya:ym)(za:yl)(L:Nat)(Q:Int)(D:Nat)(O P E:Int)(F G:List (List V))(H I:Int)(p:Nat)(J:List (List V))(M:Int)(z:List (List V))(A C:Int)(N:List V)(X:St→Option β)(K:KT β):xj yF (xF zb yb zc ya za L) 0 L zbW (zbn Q D O P E F G H I p J M z A C N) (zU zbj X K)=zbV zb yb zc ya za L Q D O P E F G H I p J M z A C N (fun Q D E F G H I p J M z A C N=>K (.exit 4) (zjf Q D E F G H I p J M z A C N)) (fun Q D O P E F G H I p J M z A C N=>X (zbn Q D O P E F G H I p J M z A C N)):=by
 refine (zr0 zb yb zc ya za L Q D O P E F G H I p J M z A C N X K).trans ?_
 unfold zbV
 first
  | (simp only [zfG,zla]; done)
  | (simp only [zfG]; rfl)
def yN{β:Type}(zb:yp)(yb:xp)(zc:yq)(ya:ym)(za:yl)(L:Nat)(N:zik β):Nat→Int→Nat→Int→Int→Int→List (List V)→List (List V)→Int→Int→Nat→List (List V)→Int→List (List V)→Int→Int→List V→Option β
 | 0,_,_,_,_,_,_,_,_,_,_,_,_,_,_,_,_=>none
 | n+1,R,D,O,P,E,F,G,H,I,p,J,M,z,A,C,Q=>zbV zb yb zc ya za L R D O P E F G H I p J M z A C Q N (fun R D O P E F G H I p J M z A C Q=>yN zb yb zc ya za L N n R D O P E F G H I p J M z A C Q)
theorem zj4{β:Type}(zb:yp)(yb:xp)(zc:yq)(ya:ym)(za:yl)(L:Nat)(K:KT β):∀ (n:Nat) (Q:Int) (D:Nat) (O P E:Int) (F G:List (List V)) (H I:Int) (p:Nat) (J:List (List V)) (M:Int) (z:List (List V)) (A C:Int) (N:List V),zw (xj yF (xF zb yb zc ya za L) 0 L zbW) zbj n (zbn Q D O P E F G H I p J M z A C N) K=yN zb yb zc ya za L (fun Q D E F G H I p J M z A C N=>K (.exit 4) (zjf Q D E F G H I p J M z A C N)) n Q D O P E F G H I p J M z A C N:=by
 intro n
 induction n with
 | zero=>intros; rfl
 | succ n ih=>
  intro Q D O P E F G H I p J M z A C N
  refine (zq0 zb yb zc ya za L Q D O P E F G H I p J M z A C N (fun σ=>zw (xj yF (xF zb yb zc ya za L) 0 L zbW) zbj n σ K) K).trans ?_
  simp only [ih]
  rfl
def xZ{β:Type}(zb:yp)(yb:xp)(zc:yq)(ya:ym)(za:yl)(L:Nat)(N C:Int)(D E:List (List V))(F G:Int)(Q H:List (List V))(I:Int)(p:List (List V))(z A:Int)(P:List V→Int→Int→Option β):Option β:=zeu zb yb zc ya za L N C D E F G Q H I p z A (fun N M R S C D E F G J H I p z A O=>yN zb yb zc ya za L (fun N M C D E F G J H I p z A O=>z9 zb yb zc ya za L N M C D E F G J H I p z A O P) L N M R S C D E F G J H I p z A O)
theorem zqY{β:Type}(zb:yp)(yb:xp)(zc:yq)(ya:ym)(za:yl)(L:Nat)(M C:Int)(D E:List (List V))(F G:Int)(H I:List (List V))(J:Int)(p:List (List V))(z A:Int)(k:KK β):(yo 2 (zE (xj yF (xF zb yb zc ya za L) 0 L zgX) (yQ 0 (CF.res zbd) k))) (.exit 2) (ziW M C D E F G H I J p z A)=xZ zb yb zc ya za L M C D E F G H I J p z A (fun N O P=>k (V.tup [(V.agg N),(Qe O),(Qe P)]) []):=by
 refine (zr8 zb yb zc ya za L M C D E F G H I J p z A k).trans ?_
 unfold xZ
 first
  | (simp only [zj4,zqn]; done)
  | (simp only [zj4]; rfl)
def zaY{β:Type}(zb:yp)(yb:xp)(zc:yq)(ya:ym)(za:yl)(L:Nat)(M C:Int)(D E:List (List V))(F G:Int)(H I:List (List V))(J:Int)(p:List (List V))(z A:Int)(N:List V→Int→Int→Option β):Option β:=zeT zb yb zc ya za L M C D E F G H I J p z A (fun M O C D E F G H I J p z A=>z5 zb yb zc ya za L (fun M C D E F G H I J p z A=>xZ zb yb zc ya za L M C D E F G H I J p z A N) L M O C D E F G H I J p z A)
theorem zrR{β:Type}(zb:yp)(yb:xp)(zc:yq)(ya:ym)(za:yl)(L:Nat)(M C:Int)(D E:List (List V))(F G:Int)(H I:List (List V))(J:Int)(p:List (List V))(z A:Int)(k:KK β):(yo 0 (zE (xj yF (xF zb yb zc ya za L) 0 L zhZ) (yQ 0 (CF.res zbd) k))) (.exit 0) (ziV M C D E F G H I J p z A)=zaY zb yb zc ya za L M C D E F G H I J p z A (fun N O P=>k (V.tup [(V.agg N),(Qe O),(Qe P)]) []):=by
 refine (zty zb yb zc ya za L M C D E F G H I J p z A k).trans ?_
 unfold zaY
 first
  | (simp only [zlv,zqY]; done)
  | (simp only [zlv]; rfl)
def zkK{β:Type}(zb:yp)(yb:xp)(zc:yq)(ya:ym)(za:yl)(L:Nat)(O:List (List V))(N:Int)(M:List V→Int→Int→Option β):Option β:=zoi zb yb zc ya za L O N M (fun N P C D E F G H I J p z A=>zah zb yb zc ya za L (fun N C D E F G H I J p z A=>zaY zb yb zc ya za L N C D E F G H I J p z A M) L N P C D E F G H I J p z A)
theorem zCE{β:Type}(zb:yp)(yb:xp)(zc:yq)(ya:ym)(za:yl)(L:Nat)(p:List (List V))(z:Int)(k:KK β):xq yF (xF zb yb zc ya za L) L zbd [(V.sl 1 p),(Qe z)] [] k=zkK zb yb zc ya za L p z (fun A C D=>k (V.tup [(V.agg A),(Qe C),(Qe D)]) []):=by
 refine (zBf zb yb zc ya za L p z k).trans ?_
 unfold zkK
 first
  | (simp only [zl5,zrR]; done)
  | (simp only [zl5]; rfl)
abbrev zio:=∀ (β:Type),Nat→List (List V)→Int→(List V→Int→Int→Option β)→Option β
def yU(β:Type)(L:Nat)(z:List (List V))(A:Int)(p:List V→Int→Int→Option β):Option β:=zkK zb yb zc ya za L z A p
def zkk(yU:zio)(L:Nat)(β:Type)(args:List V)(bor:Bor)(k:KK β):Option β:=match args,bor with
 | [a0,a1],[]=>aL 1 a0 fun C=>aI .i64 a1 fun D=>yU β L C D (fun p z A=>k (V.tup [(V.agg p),(Qe z),(Qe A)]) [])
 | _,_=>none
theorem zCG(L:Nat)(β:Type)(args:List V)(bor:Bor)(k:KK β)(r:β)(h:zkk yU L β args bor k=some r):xq yF (xF zb yb zc ya za L) L zbd args bor k=some r:=by
 unfold zkk at h
 split at h
 ·have q:=xL h; clear h; obtain ⟨p,rfl,h⟩:=q
  have q:=yy h; clear h; obtain ⟨z,rfl,h⟩:=q
  exact (zCE zb yb zc ya za L p z k).trans h
 ·cases h
def zoB:CF:=⟨19,[.tmp 4],(.seq (.reg [Qh 4 (Qf 0)]) (.seq (.block 0 (.seq (.reg [Qh 6 (tq 1),Qp 7 .lss (tq 6) (Qf 0),Qh 8 (tq 7),⟨(some 9),false,(some (8,false)),.move (tq 1) false⟩,⟨(some 10),false,(some (8,false)),.move (tq 0) false⟩,⟨(some 11),false,(some (8,false)),.lenS (tq 10)⟩,⟨(some 12),false,(some (8,false)),.bin .gtr (tq 9) (tq 11)⟩,oo 13 (.pick (tq 8) (Qg true) (tq 12)),Qh 5 (tq 13)]) (.cond (tq 5) (.seq (.reg [Qh 4 (Qf 5)]) .ret) (.seq (.reg [Qh 15 (tq 1),Qh 16 (tq 0),Qr 17 (tq 16),Qp 18 .lss (tq 15) (tq 17),Qh 14 (tq 18)]) (.cond (tq 14) (.seq (.reg [Qh 4 (Qf 2)]) .ret) .skip))))) (.seq (.reg [Qh 4 (Qf 0)]) .ret)))⟩
def zvX:Hint:=⟨[],[],[none,none,none,none,none,none],[],[],false,false,[]⟩
def ztw:Nat→Sh:=xT []
def zto(L:Nat):CBC:=noC
def zvf{β:Type}(L:Nat)(A:List (List V))(z:Int)(p:Int→Option β):Option β:=ifb (decide (z<(0:Int))) (p (5:Int)) (ifb (decide (z>((XM A:Nat):Int))) (p (5:Int)) (ifb (decide (z<((XM A:Nat):Int))) (p (2:Int)) (p (0:Int))))
theorem zCI{β:Type}(L:Nat)(p:List (List V))(z:Int)(k:KK β):xq ztw (zto L) L zoB [(V.sl 1 p),(Qe z)] [] k=zvf L p z (fun p=>k (Qe p) []):=by kernel_rfl
abbrev zp4:=∀ (β:Type),Nat→List (List V)→Int→(Int→Option β)→Option β
def za1(β:Type)(L:Nat)(z:List (List V))(A:Int)(p:Int→Option β):Option β:=zvf L z A p
def zqd(za1:zp4)(L:Nat)(β:Type)(args:List V)(bor:Bor)(k:KK β):Option β:=match args,bor with
 | [a0,a1],[]=>aL 1 a0 fun p=>aI .i64 a1 fun z=>za1 β L p z (fun p=>k (Qe p) [])
 | _,_=>none
theorem zC5(L:Nat)(β:Type)(args:List V)(bor:Bor)(k:KK β)(r:β)(h:zqd za1 L β args bor k=some r):xq ztw (zto L) L zoB args bor k=some r:=by
 unfold zqd at h
 split at h
 ·have q:=xL h; clear h; obtain ⟨p,rfl,h⟩:=q
  have q:=yy h; clear h; obtain ⟨z,rfl,h⟩:=q
  exact (zCI L p z k).trans h
 ·cases h
def zog:CF:=⟨23,[.cell 2 true 4,.tmp 3],(.seq (.reg [oo 2 (.alloc true [(.sc (.int .u32 0)),(.gs 35 []),(.gs 2 []),(.sc (.int .u32 0))]),Qh 3 (Qf 0)]) (.seq (.reg [Qh 8 (tq 0),Qs 9 139 [(Qw 8),((Qf 0),0)],Qi 7 (tq 9),Qq 10 (tq 7) 0,Qq 11 (tq 7) 1,Qq 12 (tq 7) 2,oo 4 (.alloc true [(.sc (.int .u32 0)),(.gs 35 []),(.gs 2 []),(.sc (.int .u32 0))]),Qm 4 (tq 4) (tq 10),Qh 5 (tq 11),Qh 6 (tq 12)]) (.seq (.seq (.reg [Qh 13 (tq 6),Qp 14 .eql (tq 13) (Qf 0)]) (.cond (tq 14) (.reg [Qh 15 (tq 0),Qh 16 (tq 5),Qs 17 179 [(Qw 15),(Qw 16)],Qh 6 (tq 17)]) .skip)) (.seq (.seq (.reg [Qh 18 (tq 6),Qp 19 .neq (tq 18) (Qf 0)]) (.cond (tq 19) (.seq (.reg [oo 20 (.build [(.sc (.int .u32 0)),(.sl 35 []),(.sl 2 []),(.sc (.int .u32 0))] []),Qh 21 (tq 6),Qm 4 (tq 2) (tq 20),Qh 3 (tq 21)]) .ret) .skip)) (.seq (.reg [Qk 22 4 (tq 4),Qm 4 (tq 2) (tq 22),Qh 3 (Qf 0)]) .ret)))))⟩
def zwe:Hint:=⟨[(0,0),(1,2),(1,6)],[],[none,none,none,none],[],[],false,false,[]⟩
def zsT:Nat→Sh:=xT []
def zsq(zac:zns)(za1:zp4)(L:Nat):CBC:=(xy 179 (zqd za1 L) (xy 139 (zqF zac L) noC))
def zuA{β:Type}(zac:zns)(za1:zp4)(L:Nat)(C:List (List V))(p:List V→Int→Option β):Option β:=zac β L C (0:Int) (fun D J A=>chk ((XM D)=4∧0+4≤4) (lt (xm [(Qc (0:Int)),(V.gs 35 ([]:List (List V))),(V.gs 2 ([]:List (List V))),(Qc (0:Int))] 0 D) fun z=>ifb ((A:Int)==(0:Int)) (za1 β L C J (fun E=>ifb ((E:Int) != (0:Int)) (lt [(Qc (0:Int)),(V.sl 35 ([]:List (List V))),(V.sl 2 ([]:List (List V))),(Qc (0:Int))] fun F=>chk (0=0∧(XM F)=4∧4≠0) (p F E)) (chk (0+4≤(XM z)) (chk ((XM (XN 4 z))=4∧0+4≤4) (lt (xm [(Qc (0:Int)),(V.gs 35 ([]:List (List V))),(V.gs 2 ([]:List (List V))),(Qc (0:Int))] 0 (XN 4 z)) fun G=>chk (0=0∧(XM G)=4∧4≠0) (p G (0:Int))))))) (ifb ((A:Int) != (0:Int)) (lt [(Qc (0:Int)),(V.sl 35 ([]:List (List V))),(V.sl 2 ([]:List (List V))),(Qc (0:Int))] fun H=>chk (0=0∧(XM H)=4∧4≠0) (p H A)) (chk (0+4≤(XM z)) (chk ((XM (XN 4 z))=4∧0+4≤4) (lt (xm [(Qc (0:Int)),(V.gs 35 ([]:List (List V))),(V.gs 2 ([]:List (List V))),(Qc (0:Int))] 0 (XN 4 z)) fun I=>chk (0=0∧(XM I)=4∧4≠0) (p I (0:Int))))))))
theorem zDb{β:Type}(zac:zns)(za1:zp4)(L:Nat)(A:List (List V))(k:KK β):xq zsT (zsq zac za1 L) L zog [(V.sl 1 A)] [] k=zuA zac za1 L A (fun p z=>k (V.tup [(V.agg p),(Qe z)]) []):=by kernel_rfl
abbrev zfC:=∀ (β:Type),Nat→List (List V)→(List V→Int→Option β)→Option β
def zQ(β:Type)(L:Nat)(z:List (List V))(p:List V→Int→Option β):Option β:=zuA zac za1 L z p
def zjo(zQ:zfC)(L:Nat)(β:Type)(args:List V)(bor:Bor)(k:KK β):Option β:=match args,bor with
 | [a0],[]=>aL 1 a0 fun A=>zQ β L A (fun p z=>k (V.tup [(V.agg p),(Qe z)]) [])
 | _,_=>none
theorem zDm(L:Nat)(β:Type)(args:List V)(bor:Bor)(k:KK β)(r:β)(h:zjo zQ L β args bor k=some r):xq zsT (zsq zac za1 L) L zog args bor k=some r:=by
 unfold zjo at h
 split at h
 ·have q:=xL h; clear h; obtain ⟨p,rfl,h⟩:=q
  exact (zDb zac za1 L p k).trans h
 ·cases h
def zor:CF:=⟨19,[.tmp 4],(.seq (.reg [Qh 4 (Qf 0)]) (.seq (.block 0 (.seq (.reg [Qh 6 (tq 1),Qp 7 .lss (tq 6) (Qf 0),Qh 8 (tq 7),⟨(some 9),false,(some (8,false)),.move (tq 1) false⟩,⟨(some 10),false,(some (8,false)),.move (tq 0) false⟩,⟨(some 11),false,(some (8,false)),.lenS (tq 10)⟩,⟨(some 12),false,(some (8,false)),.bin .gtr (tq 9) (tq 11)⟩,oo 13 (.pick (tq 8) (Qg true) (tq 12)),Qh 5 (tq 13)]) (.cond (tq 5) (.seq (.reg [Qh 4 (Qf 5)]) .ret) (.seq (.reg [Qh 15 (tq 1),Qh 16 (tq 0),Qr 17 (tq 16),Qp 18 .lss (tq 15) (tq 17),Qh 14 (tq 18)]) (.cond (tq 14) (.seq (.reg [Qh 4 (Qf 2)]) .ret) .skip))))) (.seq (.reg [Qh 4 (Qf 0)]) .ret)))⟩
def zvK:Hint:=⟨[],[],[none,none,none,none,none,none],[],[],false,false,[]⟩
def zta:Nat→Sh:=xT []
def zti(L:Nat):CBC:=noC
def zuJ{β:Type}(L:Nat)(A:List (List V))(z:Int)(p:Int→Option β):Option β:=ifb (decide (z<(0:Int))) (p (5:Int)) (ifb (decide (z>((XM A:Nat):Int))) (p (5:Int)) (ifb (decide (z<((XM A:Nat):Int))) (p (2:Int)) (p (0:Int))))
theorem zC1{β:Type}(L:Nat)(p:List (List V))(z:Int)(k:KK β):xq zta (zti L) L zor [(V.sl 1 p),(Qe z)] [] k=zuJ L p z (fun p=>k (Qe p) []):=by kernel_rfl
abbrev zp3:=∀ (β:Type),Nat→List (List V)→Int→(Int→Option β)→Option β
def za0(β:Type)(L:Nat)(z:List (List V))(A:Int)(p:Int→Option β):Option β:=zuJ L z A p
def zqh(za0:zp3)(L:Nat)(β:Type)(args:List V)(bor:Bor)(k:KK β):Option β:=match args,bor with
 | [a0,a1],[]=>aL 1 a0 fun p=>aI .i64 a1 fun z=>za0 β L p z (fun p=>k (Qe p) [])
 | _,_=>none
theorem zDA(L:Nat)(β:Type)(args:List V)(bor:Bor)(k:KK β)(r:β)(h:zqh za0 L β args bor k=some r):xq zta (zti L) L zor args bor k=some r:=by
 unfold zqh at h
 split at h
 ·have q:=xL h; clear h; obtain ⟨p,rfl,h⟩:=q
  have q:=yy h; clear h; obtain ⟨z,rfl,h⟩:=q
  exact (zC1 L p z k).trans h
 ·cases h
def zkb:CF:=⟨23,[.cell 2 true 4,.tmp 3],(.seq (.reg [oo 2 (.alloc true [(.sc (.int .u32 0)),(.gs 35 []),(.gs 2 []),(.sc (.int .u32 0))]),Qh 3 (Qf 0)]) (.seq (.reg [Qh 8 (tq 0),Qs 9 140 [(Qw 8),((Qf 0),0)],Qi 7 (tq 9),Qq 10 (tq 7) 0,Qq 11 (tq 7) 1,Qq 12 (tq 7) 2,oo 4 (.alloc true [(.sc (.int .u32 0)),(.gs 35 []),(.gs 2 []),(.sc (.int .u32 0))]),Qm 4 (tq 4) (tq 10),Qh 5 (tq 11),Qh 6 (tq 12)]) (.seq (.seq (.reg [Qh 13 (tq 6),Qp 14 .eql (tq 13) (Qf 0)]) (.cond (tq 14) (.reg [Qh 15 (tq 0),Qh 16 (tq 5),Qs 17 180 [(Qw 15),(Qw 16)],Qh 6 (tq 17)]) .skip)) (.seq (.seq (.reg [Qh 18 (tq 6),Qp 19 .neq (tq 18) (Qf 0)]) (.cond (tq 19) (.seq (.reg [oo 20 (.build [(.sc (.int .u32 0)),(.sl 35 []),(.sl 2 []),(.sc (.int .u32 0))] []),Qh 21 (tq 6),Qm 4 (tq 2) (tq 20),Qh 3 (tq 21)]) .ret) .skip)) (.seq (.reg [Qk 22 4 (tq 4),Qm 4 (tq 2) (tq 22),Qh 3 (Qf 0)]) .ret)))))⟩
def zrK:Hint:=⟨[(0,0),(1,2),(1,6)],[],[none,none,none,none],[],[],false,false,[]⟩
def zn3:Nat→Sh:=xT []
def zot(yU:zio)(za0:zp3)(L:Nat):CBC:=(xy 180 (zqh za0 L) (xy 140 (zkk yU L) noC))
def zpI{β:Type}(yU:zio)(za0:zp3)(L:Nat)(C:List (List V))(p:List V→Int→Option β):Option β:=yU β L C (0:Int) (fun D J A=>chk ((XM D)=4∧0+4≤4) (lt (xm [(Qc (0:Int)),(V.gs 35 ([]:List (List V))),(V.gs 2 ([]:List (List V))),(Qc (0:Int))] 0 D) fun z=>ifb ((A:Int)==(0:Int)) (za0 β L C J (fun E=>ifb ((E:Int) != (0:Int)) (lt [(Qc (0:Int)),(V.sl 35 ([]:List (List V))),(V.sl 2 ([]:List (List V))),(Qc (0:Int))] fun F=>chk (0=0∧(XM F)=4∧4≠0) (p F E)) (chk (0+4≤(XM z)) (chk ((XM (XN 4 z))=4∧0+4≤4) (lt (xm [(Qc (0:Int)),(V.gs 35 ([]:List (List V))),(V.gs 2 ([]:List (List V))),(Qc (0:Int))] 0 (XN 4 z)) fun G=>chk (0=0∧(XM G)=4∧4≠0) (p G (0:Int))))))) (ifb ((A:Int) != (0:Int)) (lt [(Qc (0:Int)),(V.sl 35 ([]:List (List V))),(V.sl 2 ([]:List (List V))),(Qc (0:Int))] fun H=>chk (0=0∧(XM H)=4∧4≠0) (p H A)) (chk (0+4≤(XM z)) (chk ((XM (XN 4 z))=4∧0+4≤4) (lt (xm [(Qc (0:Int)),(V.gs 35 ([]:List (List V))),(V.gs 2 ([]:List (List V))),(Qc (0:Int))] 0 (XN 4 z)) fun I=>chk (0=0∧(XM I)=4∧4≠0) (p I (0:Int))))))))
theorem zzt{β:Type}(yU:zio)(za0:zp3)(L:Nat)(A:List (List V))(k:KK β):xq zn3 (zot yU za0 L) L zkb [(V.sl 1 A)] [] k=zpI yU za0 L A (fun p z=>k (V.tup [(V.agg p),(Qe z)]) []):=by kernel_rfl
abbrev zfQ:=∀ (β:Type),Nat→List (List V)→(List V→Int→Option β)→Option β
def xN(β:Type)(L:Nat)(z:List (List V))(p:List V→Int→Option β):Option β:=zpI yU za0 L z p
def zim(xN:zfQ)(L:Nat)(β:Type)(args:List V)(bor:Bor)(k:KK β):Option β:=match args,bor with
 | [a0],[]=>aL 1 a0 fun A=>xN β L A (fun p z=>k (V.tup [(V.agg p),(Qe z)]) [])
 | _,_=>none
theorem zzH(L:Nat)(β:Type)(args:List V)(bor:Bor)(k:KK β)(r:β)(h:zim xN L β args bor k=some r):xq zn3 (zot yU za0 L) L zkb args bor k=some r:=by
 unfold zim at h
 split at h
 ·have q:=xL h; clear h; obtain ⟨p,rfl,h⟩:=q
  exact (zzt yU za0 L p k).trans h
 ·cases h
def zmB:CF:=⟨10,[.tmp 4],(.seq (.reg [Qh 4 (Qg false)]) (.seq (.reg [Qh 5 (tq 0),oo 6 (.toStr (tq 5)),Qh 7 (tq 1),oo 8 (.toStr (tq 7)),Qp 9 .eql (tq 6) (tq 8),Qh 4 (tq 9)]) .ret))⟩
def ztV:Hint:=⟨[],[],[none],[],[],false,false,[]⟩
def zrd:Nat→Sh:=xT []
def zq1(L:Nat):CBC:=noC
def zsv{β:Type}(L:Nat)(z A:List (List V))(p:Bool→Option β):Option β:=zDK z fun C=>zDK A fun D=>p (ByteArray.toList C==ByteArray.toList D)
theorem zBc{β:Type}(L:Nat)(p z:List (List V))(k:KK β):xq zrd (zq1 L) L zmB [(V.sl 1 p),(V.sl 1 z)] [] k=zsv L p z (fun p=>k (V.sc (.bool p)) []):=by kernel_rfl
abbrev xA:=∀ (β:Type),Nat→List (List V)→List (List V)→(Bool→Option β)→Option β
def zh(β:Type)(L:Nat)(z A:List (List V))(p:Bool→Option β):Option β:=zsv L z A p
def zih(zh:xA)(L:Nat)(β:Type)(args:List V)(bor:Bor)(k:KK β):Option β:=match args,bor with
 | [a0,a1],[]=>aL 1 a0 fun p=>aL 1 a1 fun z=>zh β L p z (fun p=>k (V.sc (.bool p)) [])
 | _,_=>none
theorem zBJ(L:Nat)(β:Type)(args:List V)(bor:Bor)(k:KK β)(r:β)(h:zih zh L β args bor k=some r):xq zrd (zq1 L) L zmB args bor k=some r:=by
 unfold zih at h
 split at h
 ·have q:=xL h; clear h; obtain ⟨p,rfl,h⟩:=q
  have q:=xL h; clear h; obtain ⟨z,rfl,h⟩:=q
  exact (zBc L p z k).trans h
 ·cases h
def ziJ:CF:=⟨17,[.tmp 4],(.seq (.reg [Qv 2 (tq 0),Qv 3 (tq 1),Qh 4 (Qg false)]) (.seq (.reg [Ql 5 0 (tq 2),Qj 6 1 (tq 5),Ql 7 0 (tq 3),Qj 8 1 (tq 7),Qp 9 .eql (tq 6) (tq 8),Qh 10 (tq 9),⟨(some 11),false,(some (10,true)),.fieldAddr 1 (tq 2)⟩,⟨(some 12),false,(some (10,true)),.load false 1 (tq 11) false⟩,⟨(some 13),false,(some (10,true)),.fieldAddr 1 (tq 3)⟩,⟨(some 14),false,(some (10,true)),.load false 1 (tq 13) false⟩,⟨(some 15),false,(some (10,true)),.call 130 [(Qw 12),(Qw 14)] []⟩,oo 16 (.pick (tq 10) (tq 15) (Qg false)),Qh 4 (tq 16)]) .ret))⟩
def zqu:Hint:=⟨[(0,0),(0,1)],[],[none],[],[],false,false,[]⟩
def zm3:Nat→Sh:=xT [(6,(.int .i64)),(8,(.int .i64)),(12,(.sl 1)),(14,(.sl 1))]
def zne(zh:xA)(L:Nat):CBC:=(xy 130 (zih zh L) noC)
def zn1{β:Type}(zh:xA)(L:Nat)(z A:List V)(p:Bool→Option β):Option β:=cI .i64 z 0 fun C=>cI .i64 A 0 fun D=>ifb ((C:Int)==D) (cLd 1 z 1 fun E=>cLd 1 A 1 fun F=>zh β L E F (fun G=>p G)) (p false)
theorem zy3{β:Type}(zh:xA)(L:Nat)(p z:List V)(k:KK β):xq zm3 (zne zh L) L ziJ [(V.agg p),(V.agg z)] [] k=zn1 zh L p z (fun p=>k (V.sc (.bool p)) []):=by kernel_rfl
abbrev zy:=∀ (β:Type),Nat→List V→List V→(Bool→Option β)→Option β
def yg(β:Type)(L:Nat)(z A:List V)(p:Bool→Option β):Option β:=zn1 zh L z A p
def zkd(yg:zy)(L:Nat)(β:Type)(args:List V)(bor:Bor)(k:KK β):Option β:=match args,bor with
 | [a0,a1],[]=>aG a0 fun p=>aG a1 fun z=>yg β L p z (fun p=>k (V.sc (.bool p)) [])
 | _,_=>none
theorem zyt(L:Nat)(β:Type)(args:List V)(bor:Bor)(k:KK β)(r:β)(h:zkd yg L β args bor k=some r):xq zm3 (zne zh L) L ziJ args bor k=some r:=by
 unfold zkd at h
 split at h
 ·have q:=zde h; clear h; obtain ⟨p,rfl,h⟩:=q
  have q:=zde h; clear h; obtain ⟨z,rfl,h⟩:=q
  exact (zy3 zh L p z k).trans h
 ·cases h
def zbe:CC:=(.seq (.reg [Qp 81 .lss (tq 80) (tq 79)]) (.seq (.cond (tq 81) .skip (.seq (.mask (bl 13194139533324 116) (bl 83076739833036927773445742074527279 116)) (.exit 2))) (.seq (.block 3 (.seq (.reg [Qh 82 (tq 80),Qh 8 (tq 82)]) (.seq (.dreg [] [(Ql 83 34 (tq 6),q0),(Qj 84 1 (tq 83),ql 6 [7] []),(Qh 85 (tq 8),q0),(Qo 86 1 (tq 84) (tq 85),q0),(Qj 87 1 (tq 86),qc [7] []),(Ql 88 34 (tq 7),q0),(Qj 89 1 (tq 88),ql 7 [6] []),(Qh 90 (tq 8),q0),(Qo 91 1 (tq 89) (tq 90),q0),(Qj 92 1 (tq 91),qc [6] []),(Qs 93 130 [(Qw 87),(Qw 92)],q0),(Qt 94 (tq 93),q0)]) (.cond (tq 94) (.seq (.reg [Qh 4 (Qg false)]) (.seq (.mask (bl 16 116) (bl 83076739832411214214465514083712531 116)) .ret)) .skip)))) (.reg [Qp 95 .add (tq 80) (Qf 1),Qh 80 (tq 95)]))))
def zea:CC:=(.reg [Qp 96 .add (tq 43) (Qf 1),Qh 43 (tq 96)])
def zdk:CC:=(.seq (.reg [Qp 101 .lss (tq 100) (tq 99)]) (.seq (.cond (tq 101) .skip (.seq (.mask (bl 0 116) (bl 72692156019487586799426948609080611 116)) (.exit 4))) (.seq (.block 5 (.seq (.reg [Qh 102 (tq 100),Qh 9 (tq 102)]) (.seq (.dreg [] [(Ql 103 2 (tq 2),q0),(Qj 104 1 (tq 103),ql 2 [3] []),(Qh 105 (tq 9),q0),(Qo 106 2 (tq 104) (tq 105),q0),(Qk 107 2 (tq 106),qc [3] []),(Ql 108 2 (tq 3),q0),(Qj 109 1 (tq 108),ql 3 [2] []),(Qh 110 (tq 9),q0),(Qo 111 2 (tq 109) (tq 110),q0),(Qk 112 2 (tq 111),qc [2] []),(Qs 113 181 [((tq 107),1),((tq 112),1)],q0),(Qt 114 (tq 113),q0)]) (.cond (tq 114) (.seq (.reg [Qh 4 (Qg false)]) (.seq (.mask (bl 16 116) (bl 72692156019487586799426948609080627 116)) .ret)) .skip)))) (.reg [Qp 115 .add (tq 100) (Qf 1),Qh 100 (tq 115)]))))
def zcR:CC:=(.seq (.reg [Qp 44 .lss (tq 43) (tq 42)]) (.seq (.cond (tq 44) .skip (.seq (.mask (bl 12 116) (bl 83076739832411214214465514083712527 116)) (.exit 0))) (.seq (.block 1 (.seq (.reg [Qh 45 (tq 43),Qh 5 (tq 45)]) (.seq (.dreg [] [(Ql 46 1 (tq 2),q0),(Qj 47 1 (tq 46),ql 2 [3] [6,7]),(Qh 48 (tq 5),q0),(Qo 49 35 (tq 47) (tq 48),q0),(Qk 50 35 (tq 49),qc [3] [6,7]),(Ql 51 1 (tq 3),q0),(Qj 52 1 (tq 51),ql 3 [2] [6,7]),(Qh 53 (tq 5),q0),(Qo 54 35 (tq 52) (tq 53),q0),(Qk 55 35 (tq 54),qc [2] [6,7]),(oo 6 (.alloc true (rp 32 (.sc (.int .u8 0)) (rp 2 (.sc (.int .u32 0)) (rp 1 (.gs 1 []) [])))),qn [2,3] [7]),(oo 7 (.alloc true (rp 32 (.sc (.int .u8 0)) (rp 2 (.sc (.int .u32 0)) (rp 1 (.gs 1 []) [])))),qn [2,3] [6]),(Qm 35 (tq 6) (tq 50),qn [3] []),(Qm 35 (tq 7) (tq 55),q0)]) (.seq (.seq (.reg [Ql 56 0 (tq 6),Qk 57 33 (tq 56),Ql 58 0 (tq 7),Qk 59 33 (tq 58),oo 60 (.eqAgg true 33 (tq 57) (tq 59)),Qh 61 (tq 60),⟨(some 62),false,(some (61,false)),.fieldAddr 33 (tq 6)⟩,⟨(some 63),false,(some (61,false)),.load false 1 (tq 62) false⟩,⟨(some 64),false,(some (61,false)),.fieldAddr 33 (tq 7)⟩,⟨(some 65),false,(some (61,false)),.load false 1 (tq 64) false⟩,⟨(some 66),false,(some (61,false)),.bin .neq (tq 63) (tq 65)⟩,oo 67 (.pick (tq 61) (Qg true) (tq 66)),Qh 68 (tq 67),⟨(some 69),false,(some (68,false)),.fieldAddr 34 (tq 6)⟩,⟨(some 70),false,(some (68,false)),.load false 1 (tq 69) false⟩,⟨(some 71),false,(some (68,false)),.lenS (tq 70)⟩,⟨(some 72),false,(some (68,false)),.fieldAddr 34 (tq 7)⟩,⟨(some 73),false,(some (68,false)),.load false 1 (tq 72) false⟩,⟨(some 74),false,(some (68,false)),.lenS (tq 73)⟩,⟨(some 75),false,(some (68,false)),.bin .neq (tq 71) (tq 74)⟩,oo 76 (.pick (tq 68) (Qg true) (tq 75))]) (.cond (tq 76) (.seq (.reg [Qh 4 (Qg false)]) (.seq (.mask (bl 16 116) (bl 83076739832411214214465514083712531 116)) .ret)) .skip)) (.seq (.reg [Ql 77 34 (tq 6),Qj 78 1 (tq 77),Qr 79 (tq 78),Qh 80 (Qf 0)]) (.block 2 (.loop (bl 1813388729435137901592780 116) (bl 83076739833036927773445742074527471 116) zbe))))))) zea)))
def zhm:CC:=(.seq (.reg [Qh 4 (Qg true)]) .ret)
def ze9:CC:=(.seq (.seq (.reg [Ql 97 2 (tq 2),Qj 98 1 (tq 97),Qr 99 (tq 98),Qh 100 (Qf 0)]) (.block 4 (.loop (bl 1901475900342344102245054808076 116) (bl 72692156019487586799426948609080623 116) zdk))) zhm)
def za3:CF:=⟨116,[.tmp 4],(.seq (.reg [Qv 2 (tq 0),Qv 3 (tq 1),Qh 4 (Qg false)]) (.seq (.seq (.reg [Ql 10 0 (tq 2),Qj 11 1 (tq 10),Ql 12 0 (tq 3),Qj 13 1 (tq 12),Qp 14 .neq (tq 11) (tq 13),Qh 15 (tq 14),⟨(some 16),false,(some (15,false)),.fieldAddr 3 (tq 2)⟩,⟨(some 17),false,(some (15,false)),.load false 1 (tq 16) false⟩,⟨(some 18),false,(some (15,false)),.fieldAddr 3 (tq 3)⟩,⟨(some 19),false,(some (15,false)),.load false 1 (tq 18) false⟩,⟨(some 20),false,(some (15,false)),.bin .neq (tq 17) (tq 19)⟩,oo 21 (.pick (tq 15) (Qg true) (tq 20)),Qh 22 (tq 21),⟨(some 23),false,(some (22,false)),.fieldAddr 1 (tq 2)⟩,⟨(some 24),false,(some (22,false)),.load false 1 (tq 23) false⟩,⟨(some 25),false,(some (22,false)),.lenS (tq 24)⟩,⟨(some 26),false,(some (22,false)),.fieldAddr 1 (tq 3)⟩,⟨(some 27),false,(some (22,false)),.load false 1 (tq 26) false⟩,⟨(some 28),false,(some (22,false)),.lenS (tq 27)⟩,⟨(some 29),false,(some (22,false)),.bin .neq (tq 25) (tq 28)⟩,oo 30 (.pick (tq 22) (Qg true) (tq 29)),Qh 31 (tq 30),⟨(some 32),false,(some (31,false)),.fieldAddr 2 (tq 2)⟩,⟨(some 33),false,(some (31,false)),.load false 1 (tq 32) false⟩,⟨(some 34),false,(some (31,false)),.lenS (tq 33)⟩,⟨(some 35),false,(some (31,false)),.fieldAddr 2 (tq 3)⟩,⟨(some 36),false,(some (31,false)),.load false 1 (tq 35) false⟩,⟨(some 37),false,(some (31,false)),.lenS (tq 36)⟩,⟨(some 38),false,(some (31,false)),.bin .neq (tq 34) (tq 37)⟩,oo 39 (.pick (tq 31) (Qg true) (tq 38))]) (.cond (tq 39) (.seq (.reg [Qh 4 (Qg false)]) .ret) .skip)) (.seq (.seq (.reg [Ql 40 1 (tq 2),Qj 41 1 (tq 40),Qr 42 (tq 41),Qh 43 (Qf 0)]) (.block 0 (.loop (bl 13194139533324 116) (bl 83076739832411214214465514083712527 116) zcR))) ze9)))⟩
def zrw:Hint:=⟨[(0,0),(0,1),(6,10),(6,11)],[],[none,none,none,some ((bl 13194139533324 116),(bl 83076739832411214214465514083712527 116)),none,some ((bl 12 116),(bl 83076739832411214214465514083712527 116)),none,none,some ((bl 16 116),(bl 83076739832411214214465514083712531 116)),none,some ((bl 1813388729435137901592780 116),(bl 83076739833036927773445742074527471 116)),none,some ((bl 13194139533324 116),(bl 83076739833036927773445742074527279 116)),none,none,some ((bl 16 116),(bl 83076739832411214214465514083712531 116)),none,some ((bl 1901475900342344102245054808076 116),(bl 72692156019487586799426948609080623 116)),none,some ((bl 0 116),(bl 72692156019487586799426948609080611 116)),none,none,some ((bl 16 116),(bl 72692156019487586799426948609080627 116)),none],[],[],false,false,[]⟩
def yE:Nat→Sh:=xT [(11,(.int .u32)),(13,(.int .u32)),(17,(.int .u32)),(19,(.int .u32)),(24,(.sl 35)),(27,(.sl 35)),(33,(.sl 2)),(36,(.sl 2)),(41,(.sl 35)),(47,(.sl 35)),(52,(.sl 35)),(63,(.int .u32)),(65,(.int .u32)),(70,(.sl 1)),(73,(.sl 1)),(78,(.sl 1)),(98,(.sl 2)),(84,(.sl 1)),(87,(.sl 1)),(89,(.sl 1)),(92,(.sl 1)),(104,(.sl 2)),(109,(.sl 2))]
def xE(zh:xA)(yg:zy)(L:Nat):CBC:=(xy 181 (zkd yg L) (xy 130 (zih zh L) noC))
def zbt:St→St:=zab 0 (bl 13194139533324 116) (bl 83076739832411214214465514083712527 116)
def zcB:St→St:=zab 0 (bl 1813388729435137901592780 116) (bl 83076739833036927773445742074527471 116)
def zfu:St→St:=zab 0 (bl 1901475900342344102245054808076 116) (bl 72692156019487586799426948609080623 116)
def zci(p z:Int)(A C:List V):St:=⟨(jn 2 ((V.ptr 2 0)::((V.ptr 3 0)::(jn 38 ((Qe p)::((Qe z)::(jn 72 []))))))),(gn 2 ((.live true A)::((.live true C)::(gn 112 []))))⟩
def zai(p:Bool):St:=⟨(jn 4 ((V.sc (.bool p))::(jn 111 []))),(gn 116 [])⟩
def zb2(p z A C:Int)(D E F G:List V):St:=⟨(jn 2 ((V.ptr 2 0)::((V.ptr 3 0)::(jn 2 ((V.ptr 6 0)::((V.ptr 7 0)::(jn 34 ((Qe p)::((Qe z)::(jn 35 ((Qe A)::((Qe C)::(jn 35 []))))))))))))),(gn 2 ((.live true D)::((.live true E)::(gn 2 ((.live true F)::((.live true G)::(gn 108 [])))))))⟩
def zeF(p z:List V):St:=⟨(jn 2 ((V.ptr 2 0)::((V.ptr 3 0)::(jn 112 [])))),(gn 2 ((.live true p)::((.live true z)::(gn 112 []))))⟩
def zd5(z p:Int)(A C:List V):St:=⟨(jn 2 ((V.ptr 2 0)::((V.ptr 3 0)::(jn 95 ((Qe z)::((Qe p)::(jn 15 []))))))),(gn 2 ((.live true A)::((.live true C)::(gn 112 []))))⟩
def zkQ(p z:Int)(A C:List V):St:=⟨(jn 2 ((V.ptr 2 0)::((V.ptr 3 0)::(jn 38 ((Qe p)::((Qe z)::(jn 72 []))))))),(gn 2 ((.live true A)::((.live true C)::(gn 112 []))))⟩
def zkL:St:=⟨(jn 116 []),(gn 116 [])⟩
abbrev zgZ(β:Type):Type:=Int→Int→Int→Int→List V→List V→List V→List V→Option β
def zpC{β:Type}(zh:xA)(yg:zy)(L:Nat)(A C:List V)(p:Bool→Option β)(z:Int→Int→List V→List V→Option β):Option β:=cI .u32 A 0 fun D=>cI .u32 C 0 fun E=>ifb ((D:Int) != E) (p false) (cI .u32 A 3 fun F=>cI .u32 C 3 fun G=>ifb ((F:Int) != G) (p false) (cLd 35 A 1 fun H=>cLd 35 C 1 fun I=>ifb ((((XM H:Nat):Int):Int) != ((XM I:Nat):Int)) (p false) (cLd 2 A 2 fun J=>cLd 2 C 2 fun M=>ifb ((((XM J:Nat):Int):Int) != ((XM M:Nat):Int)) (p false) (cLd 35 A 1 fun N=>z ((XM N:Nat):Int) (0:Int) A C))))
theorem zzO{β:Type}(zh:xA)(yg:zy)(L:Nat)(p z:List V)(k:KK β):xq yE (xE zh yg L) L za3 [(V.agg p),(V.agg z)] [] k=zpC zh yg L p z (fun p=>k (V.sc (.bool p)) []) (fun A C D E=>zw (xj yE (xE zh yg L) 0 L zcR) zbt L (zci A C D E) (yo 0 (zE (xj yE (xE zh yg L) 0 L ze9) (yQ 0 (CF.res za3) k)))):=by kernel_rfl
def zjC{β:Type}(zh:xA)(yg:zy)(L:Nat)(E D:Int)(H I:List V)(A:Bool→Option β)(p:zgZ β)(J:List V→List V→Option β):Option β:=ifb (decide (D<E)) (cLd 35 H 1 fun T=>idx T D fun F=>cLd 35 I 1 fun M=>idx M D fun G=>chk ((XM (XN 35 F))=35∧0+35≤35) (lt (xm (We 32 (Qa (0:Int))++[(Qc (0:Int)),(Qc (0:Int)),(V.gs 1 ([]:List (List V)))]) 0 (XN 35 F)) fun z=>chk ((XM (XN 35 G))=35∧0+35≤35) (lt (xm (We 32 (Qa (0:Int))++[(Qc (0:Int)),(Qc (0:Int)),(V.gs 1 ([]:List (List V)))]) 0 (XN 35 G)) fun C=>chk (0+33≤(XM z)) (chk (0+33≤(XM C)) (eqC 33 (XN 33 z) (XN 33 C) fun N=>ifb (!N) (A false) (cI .u32 z 33 fun O=>cI .u32 C 33 fun P=>ifb ((O:Int) != P) (A false) (cLd 1 z 34 fun Q=>cLd 1 C 34 fun R=>ifb ((((XM Q:Nat):Int):Int) != ((XM R:Nat):Int)) (A false) (cLd 1 z 34 fun S=>p E D ((XM S:Nat):Int) (0:Int) H I z C)))))))) (J H I)
theorem zuV{β:Type}(zh:xA)(yg:zy)(L:Nat)(p z:Int)(A C:List V)(X:St→Option β)(K:KT β):xj yE (xE zh yg L) 0 L zcR (zci p z A C) (zU zbt X K)=zjC zh yg L p z A C (fun F=>K .ret (zai F)) (fun p z D E A C G H=>zw (xj yE (xE zh yg L) 0 L zbe) zcB L (zb2 p z D E A C G H) (yo 2 (yo 1 (zE (xj yE (xE zh yg L) 0 L zea) (zU zbt X K))))) (fun A C=>K (.exit 0) (zeF A C)):=by kernel_rfl
def zmj{β:Type}(zh:xA)(yg:zy)(L:Nat)(z:Bool)(p:Bool→Option β):Option β:=p z
theorem zrQ{β:Type}(zh:xA)(yg:zy)(L:Nat)(p:Bool)(k:KK β):(yo 0 (zE (xj yE (xE zh yg L) 0 L ze9) (yQ 0 (CF.res za3) k))) .ret (zai p)=zmj zh yg L p (fun z=>k (V.sc (.bool z)) []):=by kernel_rfl
def zh7{β:Type}(zh:xA)(yg:zy)(L:Nat)(z C:List V)(p:Int→Int→List V→List V→Option β):Option β:=cLd 2 z 2 fun A=>p ((XM A:Nat):Int) (0:Int) z C
theorem zso{β:Type}(zh:xA)(yg:zy)(L:Nat)(p z:List V)(k:KK β):(yo 0 (zE (xj yE (xE zh yg L) 0 L ze9) (yQ 0 (CF.res za3) k))) (.exit 0) (zeF p z)=zh7 zh yg L p z (fun C A p z=>zw (xj yE (xE zh yg L) 0 L zdk) zfu L (zd5 C A p z) (yo 4 (zE (xj yE (xE zh yg L) 0 L zhm) (yQ 0 (CF.res za3) k)))):=by kernel_rfl
def zd2{β:Type}(zh:xA)(yg:zy)(L:Nat)(C D E z:Int)(G H I J:List V)(A:Bool→Option β)(p:zgZ β)(F:Int→Int→List V→List V→Option β):Option β:=ifb (decide (z<E)) (cLd 1 I 34 fun M=>idx M z fun N=>cL 1 N 0 fun O=>cLd 1 J 34 fun P=>idx P z fun Q=>cL 1 Q 0 fun R=>zh β L O R (fun S=>ifb (!S) (A false) (lt (QF .i64 ((z:Int)+(1:Int))) fun T=>p C D E T G H I J))) (F C D G H)
theorem znc{β:Type}(zh:xA)(yg:zy)(L:Nat)(p z A C:Int)(D E F G:List V)(X:St→Option β)(K:KT β):xj yE (xE zh yg L) 0 L zbe (zb2 p z A C D E F G) (zU zcB X K)=zd2 zh yg L p z A C D E F G (fun H=>K .ret (zai H)) (fun p z A C D E F G=>X (zb2 p z A C D E F G)) (fun p z D E=>K (.exit 2) (zkQ p z D E)):=by kernel_rfl
def ziA{β:Type}(zh:xA)(yg:zy)(L:Nat)(C p:Int)(E F:List V)(A:Bool→Option β)(z:Int→Int→List V→List V→Option β)(D:Option β):Option β:=ifb (decide (p<C)) (cLd 2 E 2 fun G=>idx G p fun H=>cLd 2 F 2 fun I=>idx I p fun J=>yg β L (Xu V.dem (XN 2 H)) (Xu V.dem (XN 2 J)) (fun M=>ifb (!M) (A false) (lt (QF .i64 ((p:Int)+(1:Int))) fun N=>z C N E F))) (D)
theorem ztI{β:Type}(zh:xA)(yg:zy)(L:Nat)(z p:Int)(A C:List V)(X:St→Option β)(K:KT β):xj yE (xE zh yg L) 0 L zdk (zd5 z p A C) (zU zfu X K)=ziA zh yg L z p A C (fun D=>K .ret (zai D)) (fun z p A C=>X (zd5 z p A C)) (K (.exit 4) (zkL)):=by kernel_rfl
def zf9{β:Type}(zh:xA)(yg:zy)(L:Nat)(z:Bool)(p:Bool→Option β):Option β:=p z
theorem zlm{β:Type}(zh:xA)(yg:zy)(L:Nat)(p:Bool)(X:St→Option β)(K:KT β):(yo 2 (yo 1 (zE (xj yE (xE zh yg L) 0 L zea) (zU zbt X K)))) .ret (zai p)=zf9 zh yg L p (fun p=>K .ret (zai p)):=by kernel_rfl
def zdx{β:Type}(zh:xA)(yg:zy)(L:Nat)(z A:Int)(D E:List V)(p:Int→Int→List V→List V→Option β):Option β:=lt (QF .i64 ((A:Int)+(1:Int))) fun C=>p z C D E
theorem zlU{β:Type}(zh:xA)(yg:zy)(L:Nat)(p z:Int)(A C:List V)(X:St→Option β)(K:KT β):(yo 2 (yo 1 (zE (xj yE (xE zh yg L) 0 L zea) (zU zbt X K)))) (.exit 2) (zkQ p z A C)=zdx zh yg L p z A C (fun p z A C=>X (zci p z A C)):=by kernel_rfl
def zlz{β:Type}(zh:xA)(yg:zy)(L:Nat)(z:Bool)(p:Bool→Option β):Option β:=p z
theorem zrr{β:Type}(zh:xA)(yg:zy)(L:Nat)(p:Bool)(k:KK β):(yo 4 (zE (xj yE (xE zh yg L) 0 L zhm) (yQ 0 (CF.res za3) k))) .ret (zai p)=zlz zh yg L p (fun z=>k (V.sc (.bool z)) []):=by kernel_rfl
def zmc{β:Type}(zh:xA)(yg:zy)(L:Nat)(p:Bool→Option β):Option β:=p true
theorem zr2{β:Type}(zh:xA)(yg:zy)(L:Nat)(k:KK β):(yo 4 (zE (xj yE (xE zh yg L) 0 L zhm) (yQ 0 (CF.res za3) k))) (.exit 4) (zkL)=zmc zh yg L (fun p=>k (V.sc (.bool p)) []):=by kernel_rfl
def zbr{β:Type}(zh:xA)(yg:zy)(L:Nat)(p:Bool→Option β)(z:Int→Int→List V→List V→Option β):Nat→Int→Int→Int→Int→List V→List V→List V→List V→Option β
 | 0,_,_,_,_,_,_,_,_=>none
 | n+1,A,C,D,E,F,G,H,I=>zd2 zh yg L A C D E F G H I p (fun A C D E F G H I=>zbr zh yg L p z n A C D E F G H I) z
theorem zfY{β:Type}(zh:xA)(yg:zy)(L:Nat)(K:KT β):∀ (n:Nat) (p z A C:Int) (D E F G:List V),zw (xj yE (xE zh yg L) 0 L zbe) zcB n (zb2 p z A C D E F G) K=zbr zh yg L (fun H=>K .ret (zai H)) (fun p z D E=>K (.exit 2) (zkQ p z D E)) n p z A C D E F G:=by
 intro n
 induction n with
 | zero=>intros; rfl
 | succ n ih=>
  intro p z A C D E F G
  refine (znc zh yg L p z A C D E F G (fun σ=>zw (xj yE (xE zh yg L) 0 L zbe) zcB n σ K) K).trans ?_
  simp only [ih]
  rfl
def zfo{β:Type}(zh:xA)(yg:zy)(L:Nat)(p z:Int)(D E:List V)(C:Bool→Option β)(F:List V→List V→Option β)(A:Int→Int→List V→List V→Option β):Option β:=zjC zh yg L p z D E C (fun p z G H D E I J=>zbr zh yg L (fun M=>zf9 zh yg L M C) (fun p z D E=>zdx zh yg L p z D E A) L p z G H D E I J) F
theorem ztE{β:Type}(zh:xA)(yg:zy)(L:Nat)(p z:Int)(A C:List V)(X:St→Option β)(K:KT β):xj yE (xE zh yg L) 0 L zcR (zci p z A C) (zU zbt X K)=zfo zh yg L p z A C (fun D=>K .ret (zai D)) (fun A C=>K (.exit 0) (zeF A C)) (fun p z A C=>X (zci p z A C)):=by
 refine (zuV zh yg L p z A C X K).trans ?_
 unfold zfo
 first
  | (simp only [zfY,zlm,zlU]; done)
  | (simp only [zfY]; rfl)
def zee{β:Type}(zh:xA)(yg:zy)(L:Nat)(p:Bool→Option β)(z:List V→List V→Option β):Nat→Int→Int→List V→List V→Option β
 | 0,_,_,_,_=>none
 | n+1,A,C,D,E=>zfo zh yg L A C D E p z (fun A C D E=>zee zh yg L p z n A C D E)
theorem zmq{β:Type}(zh:xA)(yg:zy)(L:Nat)(K:KT β):∀ (n:Nat) (p z:Int) (A C:List V),zw (xj yE (xE zh yg L) 0 L zcR) zbt n (zci p z A C) K=zee zh yg L (fun D=>K .ret (zai D)) (fun A C=>K (.exit 0) (zeF A C)) n p z A C:=by
 intro n
 induction n with
 | zero=>intros; rfl
 | succ n ih=>
  intro p z A C
  refine (ztE zh yg L p z A C (fun σ=>zw (xj yE (xE zh yg L) 0 L zcR) zbt n σ K) K).trans ?_
  simp only [ih]
  rfl
def zdI{β:Type}(zh:xA)(yg:zy)(L:Nat)(z:Bool→Option β)(A:Option β):Nat→Int→Int→List V→List V→Option β
 | 0,_,_,_,_=>none
 | n+1,C,p,D,E=>ziA zh yg L C p D E z (fun C p D E=>zdI zh yg L z A n C p D E) A
theorem zly{β:Type}(zh:xA)(yg:zy)(L:Nat)(K:KT β):∀ (n:Nat) (z p:Int) (A C:List V),zw (xj yE (xE zh yg L) 0 L zdk) zfu n (zd5 z p A C) K=zdI zh yg L (fun D=>K .ret (zai D)) (K (.exit 4) (zkL)) n z p A C:=by
 intro n
 induction n with
 | zero=>intros; rfl
 | succ n ih=>
  intro z p A C
  refine (ztI zh yg L z p A C (fun σ=>zw (xj yE (xE zh yg L) 0 L zdk) zfu n σ K) K).trans ?_
  simp only [ih]
  rfl
def zeo{β:Type}(zh:xA)(yg:zy)(L:Nat)(z A:List V)(p:Bool→Option β):Option β:=zh7 zh yg L z A (fun D C z A=>zdI zh yg L (fun E=>zlz zh yg L E p) (zmc zh yg L p) L D C z A)
theorem zrL{β:Type}(zh:xA)(yg:zy)(L:Nat)(p z:List V)(k:KK β):(yo 0 (zE (xj yE (xE zh yg L) 0 L ze9) (yQ 0 (CF.res za3) k))) (.exit 0) (zeF p z)=zeo zh yg L p z (fun A=>k (V.sc (.bool A)) []):=by
 refine (zso zh yg L p z k).trans ?_
 unfold zeo
 first
  | (simp only [zly,zrr,zr2]; done)
  | (simp only [zly]; rfl)
def zli{β:Type}(zh:xA)(yg:zy)(L:Nat)(E F:List V)(p:Bool→Option β):Option β:=zpC zh yg L E F p (fun C D z A=>zee zh yg L (fun G=>zmj zh yg L G p) (fun z A=>zeo zh yg L z A p) L C D z A)
theorem zzu{β:Type}(zh:xA)(yg:zy)(L:Nat)(p z:List V)(k:KK β):xq yE (xE zh yg L) L za3 [(V.agg p),(V.agg z)] [] k=zli zh yg L p z (fun p=>k (V.sc (.bool p)) []):=by
 refine (zzO zh yg L p z k).trans ?_
 unfold zli
 first
  | (simp only [zmq,zrQ,zrL]; done)
  | (simp only [zmq]; rfl)
abbrev zdp:=∀ (β:Type),Nat→List V→List V→(Bool→Option β)→Option β
def zD(β:Type)(L:Nat)(z A:List V)(p:Bool→Option β):Option β:=zli zh yg L z A p
def zfP(zD:zdp)(L:Nat)(β:Type)(args:List V)(bor:Bor)(k:KK β):Option β:=match args,bor with
 | [a0,a1],[]=>aG a0 fun p=>aG a1 fun z=>zD β L p z (fun p=>k (V.sc (.bool p)) [])
 | _,_=>none
theorem zzI(L:Nat)(β:Type)(args:List V)(bor:Bor)(k:KK β)(r:β)(h:zfP zD L β args bor k=some r):xq yE (xE zh yg L) L za3 args bor k=some r:=by
 unfold zfP at h
 split at h
 ·have q:=zde h; clear h; obtain ⟨p,rfl,h⟩:=q
  have q:=zde h; clear h; obtain ⟨z,rfl,h⟩:=q
  exact (zzu zh yg L p z k).trans h
 ·cases h
def zsU:CF:=⟨67,[.tmp 4],(.seq (.reg [Qh 4 (Qg false)]) (.seq (.seq (.reg [Qs 15 126 [],Qt 16 (tq 15)]) (.cond (tq 16) (.seq (.reg [Qh 4 (Qg false)]) .ret) .skip)) (.seq (.seq (.reg [Qh 17 (tq 0),Qr 18 (tq 17),Qp 19 .gtr (tq 18) (Qf 3000)]) (.cond (tq 19) (.seq (.reg [Qh 4 (Qg true)]) .ret) .skip)) (.seq (.reg [Qh 21 (tq 0),Qh 22 (tq 1),Qs 23 139 [(Qw 21),(Qw 22)],Qi 20 (tq 23),Qq 24 (tq 20) 0,Qq 25 (tq 20) 1,Qq 26 (tq 20) 2,oo 5 (.alloc true [(.sc (.int .u32 0)),(.gs 35 []),(.gs 2 []),(.sc (.int .u32 0))]),Qm 4 (tq 5) (tq 24),Qh 6 (tq 25),Qh 7 (tq 26)]) (.seq (.reg [Qh 28 (tq 0),Qh 29 (tq 1),Qs 30 140 [(Qw 28),(Qw 29)],Qi 27 (tq 30),Qq 31 (tq 27) 0,Qq 32 (tq 27) 1,Qq 33 (tq 27) 2,oo 8 (.alloc true [(.sc (.int .u32 0)),(.gs 35 []),(.gs 2 []),(.sc (.int .u32 0))]),Qm 4 (tq 8) (tq 31),Qh 9 (tq 32),Qh 10 (tq 33)]) (.seq (.reg [Qh 35 (tq 0),Qs 36 141 [(Qw 35)],Qi 34 (tq 36),Qq 37 (tq 34) 0,Qq 38 (tq 34) 1,oo 11 (.alloc true [(.sc (.int .u32 0)),(.gs 35 []),(.gs 2 []),(.sc (.int .u32 0))]),Qm 4 (tq 11) (tq 37),Qh 12 (tq 38)]) (.seq (.reg [Qh 40 (tq 0),Qs 41 142 [(Qw 40)],Qi 39 (tq 41),Qq 42 (tq 39) 0,Qq 43 (tq 39) 1,oo 13 (.alloc true [(.sc (.int .u32 0)),(.gs 35 []),(.gs 2 []),(.sc (.int .u32 0))]),Qm 4 (tq 13) (tq 42),Qh 14 (tq 43)]) (.seq (.reg [Qh 44 (tq 6),Qh 45 (tq 9),Qp 46 .eql (tq 44) (tq 45),Qh 47 (tq 46),⟨(some 48),false,(some (47,true)),.move (tq 7) false⟩,⟨(some 49),false,(some (47,true)),.move (tq 10) false⟩,⟨(some 50),false,(some (47,true)),.bin .eql (tq 48) (tq 49)⟩,oo 51 (.pick (tq 47) (tq 50) (Qg false)),Qh 52 (tq 51),⟨(some 53),false,(some (52,true)),.load true 4 (tq 5) false⟩,⟨(some 54),false,(some (52,true)),.load true 4 (tq 8) false⟩,⟨(some 55),false,(some (52,true)),.call 143 [((tq 53),1),((tq 54),1)] []⟩,oo 56 (.pick (tq 52) (tq 55) (Qg false)),Qh 57 (tq 56),⟨(some 58),false,(some (57,true)),.move (tq 12) false⟩,⟨(some 59),false,(some (57,true)),.move (tq 14) false⟩,⟨(some 60),false,(some (57,true)),.bin .eql (tq 58) (tq 59)⟩,oo 61 (.pick (tq 57) (tq 60) (Qg false)),Qh 62 (tq 61),⟨(some 63),false,(some (62,true)),.load true 4 (tq 11) false⟩,⟨(some 64),false,(some (62,true)),.load true 4 (tq 13) false⟩,⟨(some 65),false,(some (62,true)),.call 143 [((tq 63),1),((tq 64),1)] []⟩,oo 66 (.pick (tq 62) (tq 65) (Qg false)),Qh 4 (tq 66)]) .ret))))))))⟩
def zqL:Hint:=⟨[(5,3),(5,7),(6,3),(6,7),(7,2),(7,5),(8,2),(8,5)],[],[none,none,none,none,none],[],[],false,false,[]⟩
def zKK:Nat→Sh:=xT []
def zJ7(xQ:zeB)(zac:zns)(yU:zio)(zQ:zfC)(xN:zfQ)(zD:zdp)(L:Nat):CBC:=(xy 143 (zfP zD L) (xy 142 (zim xN L) (xy 141 (zjo zQ L) (xy 140 (zkk yU L) (xy 139 (zqF zac L) (xy 126 (ziq xQ L) noC))))))
def zBP{β:Type}(xQ:zeB)(zac:zns)(yU:zio)(zQ:zfC)(xN:zfQ)(zD:zdp)(L:Nat)(z:List (List V))(E:Int)(p:Bool→Option β):Option β:=xQ β L  (fun Q=>ifb (!Q) (p false) (ifb (decide (((XM z:Nat):Int)>(3000:Int))) (p true) (zac β L z E (fun F R S=>chk ((XM F)=4∧0+4≤4) (lt (xm [(Qc (0:Int)),(V.gs 35 ([]:List (List V))),(V.gs 2 ([]:List (List V))),(Qc (0:Int))] 0 F) fun G=>yU β L z E (fun H T U=>chk ((XM H)=4∧0+4≤4) (lt (xm [(Qc (0:Int)),(V.gs 35 ([]:List (List V))),(V.gs 2 ([]:List (List V))),(Qc (0:Int))] 0 H) fun I=>zQ β L z (fun J M=>chk ((XM J)=4∧0+4≤4) (lt (xm [(Qc (0:Int)),(V.gs 35 ([]:List (List V))),(V.gs 2 ([]:List (List V))),(Qc (0:Int))] 0 J) fun A=>xN β L z (fun C N=>chk ((XM C)=4∧0+4≤4) (lt (xm [(Qc (0:Int)),(V.gs 35 ([]:List (List V))),(V.gs 2 ([]:List (List V))),(Qc (0:Int))] 0 C) fun D=>ifb ((R:Int)==T) (ifb ((S:Int)==U) (chk (0+4≤(XM G)) (chk (0+4≤(XM I)) (zD β L (Xu V.dem (XN 4 G)) (Xu V.dem (XN 4 I)) (fun O=>ifb O (ifb ((M:Int)==N) (chk (0+4≤(XM A)) (chk (0+4≤(XM D)) (zD β L (Xu V.dem (XN 4 A)) (Xu V.dem (XN 4 D)) (fun P=>p P)))) (p false)) (p false))))) (p false)) (p false))))))))))))
abbrev zA8:=∀ (β:Type),Nat→List (List V)→Int→(Bool→Option β)→Option β
def zt9(β:Type)(L:Nat)(z:List (List V))(A:Int)(p:Bool→Option β):Option β:=zBP xQ zac yU zQ xN zD L z A p
def zLu(zt9:zA8)(L:Nat)(β:Type)(args:List V)(bor:Bor)(k:KK β):Option β:=match args,bor with
 | [a0,a1],[]=>aL 1 a0 fun p=>aI .i64 a1 fun z=>zt9 β L p z (fun p=>k (V.sc (.bool p)) [])
 | _,_=>none
def zeL:CC:=(.seq (.reg [Qp 16 .lss (tq 15) (tq 14)]) (.seq (.cond (tq 16) .skip (.seq (.mask (bl 0 24) (bl 15728319 24)) (.exit 0))) (.seq (.block 1 (.seq (.reg [Qo 17 1 (tq 13) (tq 15),Qj 18 1 (tq 17),Qh 8 (tq 18)]) (.seq (.reg [Qh 19 (tq 8),Qr 20 (tq 19),Qh 21 (tq 2),Qp 22 .gtr (tq 20) (tq 21)]) (.cond (tq 22) (.seq (.reg [Qh 6 (Qg false)]) (.seq (.mask (bl 64 24) (bl 15728383 24)) .ret)) .skip)))) (.reg [Qp 23 .add (tq 15) (Qf 1),Qh 15 (tq 23)]))))
def zjS:CC:=(.seq (.reg [Qh 6 (Qg true)]) .ret)
def zdX:CF:=⟨24,[.tmp 6],(.seq (.reg [Qh 6 (Qg false)]) (.seq (.seq (.reg [Qh 9 (tq 0),Qr 10 (tq 9),Qh 11 (tq 1),Qp 12 .gtr (tq 10) (tq 11)]) (.cond (tq 12) (.seq (.reg [Qh 6 (Qg false)]) .ret) .skip)) (.seq (.seq (.reg [Qh 13 (tq 0),Qr 14 (tq 13),Qh 15 (Qf 0)]) (.block 0 (.loop (bl 57348 24) (bl 15728319 24) zeL))) zjS)))⟩
def ztW:Hint:=⟨[],[],[none,none,none,some ((bl 57348 24),(bl 15728319 24)),none,some ((bl 0 24),(bl 15728319 24)),none,none,some ((bl 64 24),(bl 15728383 24)),none],[],[],false,false,[]⟩
def zb9:Nat→Sh:=xT [(18,(.sl 1))]
def zb7(L:Nat):CBC:=noC
def zh2:St→St:=zab 0 (bl 57348 24) (bl 15728319 24)
def zfh(C:Int)(p:List (List V))(z A:Int):St:=⟨(jn 2 ((Qe C)::(jn 10 ((V.sl 1 p)::((Qe z)::((Qe A)::(jn 8 []))))))),(gn 24 [])⟩
def zlB(p:Bool):St:=⟨(jn 6 ((V.sc (.bool p))::(jn 17 []))),(gn 24 [])⟩
def zm5:St:=⟨(jn 24 []),(gn 24 [])⟩
def zsB{β:Type}(L:Nat)(A:List (List V))(C D:Int)(z:Bool→Option β)(p:Int→List (List V)→Int→Int→Option β):Option β:=ifb (decide (((XM A:Nat):Int)>C)) (z false) (p D A ((XM A:Nat):Int) (0:Int))
theorem zCi{β:Type}(L:Nat)(p:List (List V))(A z:Int)(k:KK β):xq zb9 (zb7 L) L zdX [(V.sl 1 p),(Qe A),(Qe z)] [] k=zsB L p A z (fun p=>k (V.sc (.bool p)) []) (fun z C D E=>zw (xj zb9 (zb7 L) 0 L zeL) zh2 L (zfh z C D E) (yo 0 (zE (xj zb9 (zb7 L) 0 L zjS) (yQ 0 (CF.res zdX) k)))):=by kernel_rfl
def zlV{β:Type}(L:Nat)(F:Int)(C:List (List V))(D z:Int)(A:Bool→Option β)(p:Int→List (List V)→Int→Int→Option β)(E:Option β):Option β:=ifb (decide (z<D)) (idx C z fun G=>cL 1 G 0 fun H=>ifb (decide (((XM H:Nat):Int)>F)) (A false) (lt (QF .i64 ((z:Int)+(1:Int))) fun I=>p F C D I)) (E)
theorem zxq{β:Type}(L:Nat)(C:Int)(p:List (List V))(z A:Int)(X:St→Option β)(K:KT β):xj zb9 (zb7 L) 0 L zeL (zfh C p z A) (zU zh2 X K)=zlV L C p z A (fun D=>K .ret (zlB D)) (fun C p z A=>X (zfh C p z A)) (K (.exit 0) (zm5)):=by kernel_rfl
def ziY{β:Type}(L:Nat)(z:Bool)(p:Bool→Option β):Option β:=p z
theorem ztH{β:Type}(L:Nat)(p:Bool)(k:KK β):(yo 0 (zE (xj zb9 (zb7 L) 0 L zjS) (yQ 0 (CF.res zdX) k))) .ret (zlB p)=ziY L p (fun z=>k (V.sc (.bool z)) []):=by kernel_rfl
def zjD{β:Type}(L:Nat)(p:Bool→Option β):Option β:=p true
theorem zvh{β:Type}(L:Nat)(k:KK β):(yo 0 (zE (xj zb9 (zb7 L) 0 L zjS) (yQ 0 (CF.res zdX) k))) (.exit 0) (zm5)=zjD L (fun p=>k (V.sc (.bool p)) []):=by kernel_rfl
def zfa{β:Type}(L:Nat)(p:Bool→Option β)(z:Option β):Nat→Int→List (List V)→Int→Int→Option β
 | 0,_,_,_,_=>none
 | n+1,E,A,C,D=>zlV L E A C D p (fun E A C D=>zfa L p z n E A C D) z
theorem zoa{β:Type}(L:Nat)(K:KT β):∀ (n:Nat) (C:Int) (p:List (List V)) (z A:Int),zw (xj zb9 (zb7 L) 0 L zeL) zh2 n (zfh C p z A) K=zfa L (fun D=>K .ret (zlB D)) (K (.exit 0) (zm5)) n C p z A:=by
 intro n
 induction n with
 | zero=>intros; rfl
 | succ n ih=>
  intro C p z A
  refine (zxq L C p z A (fun σ=>zw (xj zb9 (zb7 L) 0 L zeL) zh2 n σ K) K).trans ?_
  simp only [ih]
  rfl
def zn2{β:Type}(L:Nat)(E:List (List V))(F z:Int)(p:Bool→Option β):Option β:=zsB L E F z p (fun z A C D=>zfa L (fun G=>ziY L G p) (zjD L p) L z A C D)
theorem zBz{β:Type}(L:Nat)(p:List (List V))(z A:Int)(k:KK β):xq zb9 (zb7 L) L zdX [(V.sl 1 p),(Qe z),(Qe A)] [] k=zn2 L p z A (fun p=>k (V.sc (.bool p)) []):=by
 refine (zCi L p z A k).trans ?_
 unfold zn2
 first
  | (simp only [zoa,ztH,zvh]; done)
  | (simp only [zoa]; rfl)
abbrev xV:=∀ (β:Type),Nat→List (List V)→Int→Int→(Bool→Option β)→Option β
def xk(β:Type)(L:Nat)(z:List (List V))(A C:Int)(p:Bool→Option β):Option β:=zn2 L z A C p
def zn5(xk:xV)(L:Nat)(β:Type)(args:List V)(bor:Bor)(k:KK β):Option β:=match args,bor with
 | [a0,a1,a2],[]=>aL 1 a0 fun p=>aI .i64 a1 fun z=>aI .i64 a2 fun A=>xk β L p z A (fun p=>k (V.sc (.bool p)) [])
 | _,_=>none
theorem zBa(L:Nat)(β:Type)(args:List V)(bor:Bor)(k:KK β)(r:β)(h:zn5 xk L β args bor k=some r):xq zb9 (zb7 L) L zdX args bor k=some r:=by
 unfold zn5 at h
 split at h
 ·have q:=xL h; clear h; obtain ⟨p,rfl,h⟩:=q
  have q:=yy h; clear h; obtain ⟨z,rfl,h⟩:=q
  have q:=yy h; clear h; obtain ⟨A,rfl,h⟩:=q
  exact (zBz L p z A k).trans h
 ·cases h
def zf7:CC:=(.seq (.reg [Qp 33 .lss (tq 32) (tq 31)]) (.seq (.cond (tq 33) .skip (.seq (.mask (bl 0 41) (bl 1924145348521 41)) (.exit 2))) (.seq (.block 3 (.seq (.reg [Qo 34 2 (tq 30) (tq 32),Qk 35 2 (tq 34),oo 6 (.alloc true [(.sc (.int .i64 0)),(.gs 1 [])]),Qm 2 (tq 6) (tq 35)]) (.seq (.reg [Ql 36 1 (tq 6),Qj 37 1 (tq 36),Qr 38 (tq 37),Qp 39 .gtr (tq 38) (Qf 600)]) (.cond (tq 39) (.seq (.reg [Qh 2 (Qg false)]) (.seq (.mask (bl 4 41) (bl 1924145348525 41)) .ret)) .skip)))) (.reg [Qp 40 .add (tq 32) (Qf 1),Qh 32 (tq 40)]))))
def zhn:CC:=(.seq (.reg [Qp 21 .lss (tq 20) (tq 19)]) (.seq (.cond (tq 21) .skip (.seq (.mask (bl 2 41) (bl 2198956146603 41)) (.exit 0))) (.seq (.block 1 (.seq (.reg [Qo 22 35 (tq 18) (tq 20),Qk 23 35 (tq 22),oo 4 (.alloc true (rp 32 (.sc (.int .u8 0)) (rp 2 (.sc (.int .u32 0)) (rp 1 (.gs 1 []) [])))),Qm 35 (tq 4) (tq 23)]) (.seq (.reg [Ql 24 34 (tq 4),Qj 25 1 (tq 24),Qs 26 145 [(Qw 25),((Qf 40),0),((Qf 600),0)],Qt 27 (tq 26)]) (.cond (tq 27) (.seq (.reg [Qh 2 (Qg false)]) (.seq (.mask (bl 4 41) (bl 2198956146605 41)) .ret)) .skip)))) (.reg [Qp 28 .add (tq 20) (Qf 1),Qh 20 (tq 28)]))))
def zmL:CC:=(.seq (.reg [Qh 2 (Qg true)]) .ret)
def zkq:CC:=(.seq (.seq (.reg [Ql 29 2 (tq 1),Qj 30 1 (tq 29),Qr 31 (tq 30),Qh 32 (Qf 0)]) (.block 2 (.loop (bl 7516192768 41) (bl 1924145348521 41) zf7))) zmL)
def zdf:CF:=⟨41,[.tmp 2],(.seq (.reg [Qv 1 (tq 0),Qh 2 (Qg false)]) (.seq (.seq (.reg [Ql 7 1 (tq 1),Qj 8 1 (tq 7),Qr 9 (tq 8),Qp 10 .gtr (tq 9) (Qf 70),Qh 11 (tq 10),⟨(some 12),false,(some (11,false)),.fieldAddr 2 (tq 1)⟩,⟨(some 13),false,(some (11,false)),.load false 1 (tq 12) false⟩,⟨(some 14),false,(some (11,false)),.lenS (tq 13)⟩,⟨(some 15),false,(some (11,false)),.bin .gtr (tq 14) (Qf 70)⟩,oo 16 (.pick (tq 11) (Qg true) (tq 15))]) (.cond (tq 16) (.seq (.reg [Qh 2 (Qg false)]) .ret) .skip)) (.seq (.seq (.reg [Ql 17 1 (tq 1),Qj 18 1 (tq 17),Qr 19 (tq 18),Qh 20 (Qf 0)]) (.block 0 (.loop (bl 1835010 41) (bl 2198956146603 41) zhn))) zkq)))⟩
def zyx:Hint:=⟨[(0,0),(5,2),(11,2)],[],[none,none,none,some ((bl 1835010 41),(bl 2198956146603 41)),none,some ((bl 2 41),(bl 2198956146603 41)),none,none,some ((bl 4 41),(bl 2198956146605 41)),none,some ((bl 7516192768 41),(bl 1924145348521 41)),none,some ((bl 0 41),(bl 1924145348521 41)),none,none,some ((bl 4 41),(bl 1924145348525 41)),none],[],[],false,false,[]⟩
def zaU:Nat→Sh:=xT [(8,(.sl 35)),(13,(.sl 2)),(18,(.sl 35)),(25,(.sl 1)),(30,(.sl 2)),(37,(.sl 1))]
def zaV(xk:xV)(L:Nat):CBC:=(xy 145 (zn5 xk L) noC)
def zlj:St→St:=zab 0 (bl 1835010 41) (bl 2198956146603 41)
def zka:St→St:=zab 0 (bl 7516192768 41) (bl 1924145348521 41)
def zhS(p:List (List V))(z A:Int)(C:List V):St:=⟨(jn 1 ((V.ptr 1 0)::(jn 16 ((V.sl 35 p)::((Qe z)::((Qe A)::(jn 20 []))))))),(gn 1 ((.live true C)::(gn 39 [])))⟩
def zfL(p:Bool):St:=⟨(jn 2 ((V.sc (.bool p))::(jn 38 []))),(gn 41 [])⟩
def zmN(p:List V):St:=⟨(jn 1 ((V.ptr 1 0)::(jn 39 []))),(gn 1 ((.live true p)::(gn 39 [])))⟩
def zgU(p:List (List V))(z A:Int):St:=⟨(jn 30 ((V.sl 2 p)::((Qe z)::((Qe A)::(jn 8 []))))),(gn 41 [])⟩
def zra:St:=⟨(jn 41 []),(gn 41 [])⟩
def zyZ{β:Type}(xk:xV)(L:Nat)(A:List V)(z:Bool→Option β)(p:List (List V)→Int→Int→List V→Option β):Option β:=cLd 35 A 1 fun D=>ifb (decide (((XM D:Nat):Int)>(70:Int))) (z false) (cLd 2 A 2 fun E=>ifb (decide (((XM E:Nat):Int)>(70:Int))) (z false) (cLd 35 A 1 fun C=>p C ((XM C:Nat):Int) (0:Int) A))
theorem zGK{β:Type}(xk:xV)(L:Nat)(p:List V)(k:KK β):xq zaU (zaV xk L) L zdf [(V.agg p)] [] k=zyZ xk L p (fun p=>k (V.sc (.bool p)) []) (fun z A C D=>zw (xj zaU (zaV xk L) 0 L zhn) zlj L (zhS z A C D) (yo 0 (zE (xj zaU (zaV xk L) 0 L zkq) (yQ 0 (CF.res zdf) k)))):=by kernel_rfl
def zpN{β:Type}(xk:xV)(L:Nat)(C:List (List V))(D z:Int)(F:List V)(A:Bool→Option β)(p:List (List V)→Int→Int→List V→Option β)(E:List V→Option β):Option β:=ifb (decide (z<D)) (idx C z fun G=>chk ((XM (XN 35 G))=35∧0+35≤35) (lt (xm (We 32 (Qa (0:Int))++[(Qc (0:Int)),(Qc (0:Int)),(V.gs 1 ([]:List (List V)))]) 0 (XN 35 G)) fun H=>cLd 1 H 34 fun I=>xk β L I (40:Int) (600:Int) (fun J=>ifb (!J) (A false) (lt (QF .i64 ((z:Int)+(1:Int))) fun M=>p C D M F)))) (E F)
theorem zzy{β:Type}(xk:xV)(L:Nat)(p:List (List V))(z A:Int)(C:List V)(X:St→Option β)(K:KT β):xj zaU (zaV xk L) 0 L zhn (zhS p z A C) (zU zlj X K)=zpN xk L p z A C (fun D=>K .ret (zfL D)) (fun p z A C=>X (zhS p z A C)) (fun C=>K (.exit 0) (zmN C)):=by kernel_rfl
def zlS{β:Type}(xk:xV)(L:Nat)(z:Bool)(p:Bool→Option β):Option β:=p z
theorem zw0{β:Type}(xk:xV)(L:Nat)(p:Bool)(k:KK β):(yo 0 (zE (xj zaU (zaV xk L) 0 L zkq) (yQ 0 (CF.res zdf) k))) .ret (zfL p)=zlS xk L p (fun z=>k (V.sc (.bool z)) []):=by kernel_rfl
def zmY{β:Type}(xk:xV)(L:Nat)(A:List V)(p:List (List V)→Int→Int→Option β):Option β:=cLd 2 A 2 fun z=>p z ((XM z:Nat):Int) (0:Int)
theorem zxK{β:Type}(xk:xV)(L:Nat)(p:List V)(k:KK β):(yo 0 (zE (xj zaU (zaV xk L) 0 L zkq) (yQ 0 (CF.res zdf) k))) (.exit 0) (zmN p)=zmY xk L p (fun z A C=>zw (xj zaU (zaV xk L) 0 L zf7) zka L (zgU z A C) (yo 2 (zE (xj zaU (zaV xk L) 0 L zmL) (yQ 0 (CF.res zdf) k)))):=by kernel_rfl
def zoy{β:Type}(xk:xV)(L:Nat)(C:List (List V))(D z:Int)(A:Bool→Option β)(p:List (List V)→Int→Int→Option β)(E:Option β):Option β:=ifb (decide (z<D)) (idx C z fun F=>chk ((XM (XN 2 F))=2∧0+2≤2) (lt (xm [(Qe (0:Int)),(V.gs 1 ([]:List (List V)))] 0 (XN 2 F)) fun G=>cLd 1 G 1 fun H=>ifb (decide (((XM H:Nat):Int)>(600:Int))) (A false) (lt (QF .i64 ((z:Int)+(1:Int))) fun I=>p C D I))) (E)
theorem zyL{β:Type}(xk:xV)(L:Nat)(p:List (List V))(z A:Int)(X:St→Option β)(K:KT β):xj zaU (zaV xk L) 0 L zf7 (zgU p z A) (zU zka X K)=zoy xk L p z A (fun C=>K .ret (zfL C)) (fun p z A=>X (zgU p z A)) (K (.exit 2) (zra)):=by kernel_rfl
def zko{β:Type}(xk:xV)(L:Nat)(z:Bool)(p:Bool→Option β):Option β:=p z
theorem zvj{β:Type}(xk:xV)(L:Nat)(p:Bool)(k:KK β):(yo 2 (zE (xj zaU (zaV xk L) 0 L zmL) (yQ 0 (CF.res zdf) k))) .ret (zfL p)=zko xk L p (fun z=>k (V.sc (.bool z)) []):=by kernel_rfl
def zlT{β:Type}(xk:xV)(L:Nat)(p:Bool→Option β):Option β:=p true
theorem zwz{β:Type}(xk:xV)(L:Nat)(k:KK β):(yo 2 (zE (xj zaU (zaV xk L) 0 L zmL) (yQ 0 (CF.res zdf) k))) (.exit 2) (zra)=zlT xk L (fun p=>k (V.sc (.bool p)) []):=by kernel_rfl
def zic{β:Type}(xk:xV)(L:Nat)(p:Bool→Option β)(z:List V→Option β):Nat→List (List V)→Int→Int→List V→Option β
 | 0,_,_,_,_=>none
 | n+1,A,C,D,E=>zpN xk L A C D E p (fun A C D E=>zic xk L p z n A C D E) z
theorem zrD{β:Type}(xk:xV)(L:Nat)(K:KT β):∀ (n:Nat) (p:List (List V)) (z A:Int) (C:List V),zw (xj zaU (zaV xk L) 0 L zhn) zlj n (zhS p z A C) K=zic xk L (fun D=>K .ret (zfL D)) (fun C=>K (.exit 0) (zmN C)) n p z A C:=by
 intro n
 induction n with
 | zero=>intros; rfl
 | succ n ih=>
  intro p z A C
  refine (zzy xk L p z A C (fun σ=>zw (xj zaU (zaV xk L) 0 L zhn) zlj n σ K) K).trans ?_
  simp only [ih]
  rfl
def zg3{β:Type}(xk:xV)(L:Nat)(p:Bool→Option β)(z:Option β):Nat→List (List V)→Int→Int→Option β
 | 0,_,_,_=>none
 | n+1,A,C,D=>zoy xk L A C D p (fun A C D=>zg3 xk L p z n A C D) z
theorem zqM{β:Type}(xk:xV)(L:Nat)(K:KT β):∀ (n:Nat) (p:List (List V)) (z A:Int),zw (xj zaU (zaV xk L) 0 L zf7) zka n (zgU p z A) K=zg3 xk L (fun C=>K .ret (zfL C)) (K (.exit 2) (zra)) n p z A:=by
 intro n
 induction n with
 | zero=>intros; rfl
 | succ n ih=>
  intro p z A
  refine (zyL xk L p z A (fun σ=>zw (xj zaU (zaV xk L) 0 L zf7) zka n σ K) K).trans ?_
  simp only [ih]
  rfl
def zh4{β:Type}(xk:xV)(L:Nat)(D:List V)(p:Bool→Option β):Option β:=zmY xk L D (fun z A C=>zg3 xk L (fun E=>zko xk L E p) (zlT xk L p) L z A C)
theorem zwS{β:Type}(xk:xV)(L:Nat)(p:List V)(k:KK β):(yo 0 (zE (xj zaU (zaV xk L) 0 L zkq) (yQ 0 (CF.res zdf) k))) (.exit 0) (zmN p)=zh4 xk L p (fun z=>k (V.sc (.bool z)) []):=by
 refine (zxK xk L p k).trans ?_
 unfold zh4
 first
  | (simp only [zqM,zvj,zwz]; done)
  | (simp only [zqM]; rfl)
def zt5{β:Type}(xk:xV)(L:Nat)(E:List V)(p:Bool→Option β):Option β:=zyZ xk L E p (fun A C D z=>zic xk L (fun F=>zlS xk L F p) (fun z=>zh4 xk L z p) L A C D z)
theorem zFW{β:Type}(xk:xV)(L:Nat)(p:List V)(k:KK β):xq zaU (zaV xk L) L zdf [(V.agg p)] [] k=zt5 xk L p (fun p=>k (V.sc (.bool p)) []):=by
 refine (zGK xk L p k).trans ?_
 unfold zt5
 first
  | (simp only [zrD,zw0,zwS]; done)
  | (simp only [zrD]; rfl)
abbrev znr:=∀ (β:Type),Nat→List V→(Bool→Option β)→Option β
def zaN(β:Type)(L:Nat)(z:List V)(p:Bool→Option β):Option β:=zt5 xk L z p
def zqq(zaN:znr)(L:Nat)(β:Type)(args:List V)(bor:Bor)(k:KK β):Option β:=match args,bor with
 | [a0],[]=>aG a0 fun p=>zaN β L p (fun p=>k (V.sc (.bool p)) [])
 | _,_=>none
theorem zFU(L:Nat)(β:Type)(args:List V)(bor:Bor)(k:KK β)(r:β)(h:zqq zaN L β args bor k=some r):xq zaU (zaV xk L) L zdf args bor k=some r:=by
 unfold zqq at h
 split at h
 ·have q:=zde h; clear h; obtain ⟨p,rfl,h⟩:=q
  exact (zFW xk L p k).trans h
 ·cases h
def zdQ:CC:=(.seq (.reg [Qp 12 .lss (tq 11) (tq 10)]) (.seq (.cond (tq 12) .skip (.seq (.mask (bl 32 24) (bl 16777151 24)) (.exit 0))) (.seq (.block 1 (.seq (.reg [Qh 13 (tq 11),Qh 6 (tq 13)]) (.reg [Qh 14 (tq 5),Qh 15 (tq 6),Qh 16 (tq 0),Qh 17 (tq 6),Qp 18 .mul (Qf 8) (tq 17),Qp 19 .shr (tq 16) (tq 18),Qu 20 .u8 (tq 19),Qo 21 1 (tq 14) (tq 15),Qm 1 (tq 21) (tq 20)]))) (.reg [Qp 22 .add (tq 11) (Qf 1),Qh 11 (tq 22)]))))
def zlH:CC:=(.seq (.reg [Qi 23 (tq 5),Qi 4 (tq 23)]) .ret)
def zdM:CF:=⟨24,[.tmp 4],(.seq (.reg [Qi 4 (.const (.gs 1 []))]) (.seq (.reg [Qh 7 (tq 1),⟨(some 8),true,none,.makeSlice 1 1 [(.sc (.int .u8 0))] (tq 7) (tq 7)⟩,Qi 5 (tq 8)]) (.seq (.seq (.reg [Qh 9 (tq 5),Qr 10 (tq 9),Qh 11 (Qf 0)]) (.block 0 (.loop (bl 3105 24) (bl 16777151 24) zdQ))) zlH)))⟩
def zry:Hint:=⟨[(0,0),(1,2),(7,0),(7,1)],[(1,1)],[none,some ((bl 3105 24),(bl 16777151 24)),none,some ((bl 32 24),(bl 16777151 24)),none,none],[],[],false,false,[]⟩
def zbK:Nat→Sh:=xT []
def zbQ(L:Nat):CBC:=noC
def zgf:St→St:=zab 0 (bl 3105 24) (bl 16777151 24)
def zey(C:Int)(p:Nat)(z A:Int)(D:List V):St:=⟨((Qd C)::(jn 4 ((V.own 8 0 p 1)::(jn 4 ((Qe z)::((Qe A)::(jn 12 []))))))),(gn 8 ((.live true D)::(gn 15 [])))⟩
def zkM(p:Nat)(z:List V):St:=⟨(jn 5 ((V.own 8 0 p 1)::(jn 18 []))),(gn 8 ((.live true z)::(gn 15 [])))⟩
def zv2{β:Type}(L:Nat)(A p:Int)(z:Int→Nat→Int→Int→List V→Option β):Option β:=chk (0≤p∧p≤p∧(XO p)*1≤yn∧p≤yn) (z A (XO p) (((XO p):Nat):Int) (0:Int) (List.flatten (We (XO p) [(Qa (0:Int))])))
theorem zzV{β:Type}(L:Nat)(p z:Int)(k:KK β):xq zbK (zbQ L) L zdM [(Qd p),(Qe z)] [] k=zv2 L p z (fun p A C D E=>zw (xj zbK (zbQ L) 0 L zdQ) zgf L (zey p A C D E) (yo 0 (zE (xj zbK (zbQ L) 0 L zlH) (yQ 0 (CF.res zdM) k)))):=by kernel_rfl
def zo9{β:Type}(L:Nat)(F:Int)(A:Nat)(C p:Int)(D:List V)(z:Int→Nat→Int→Int→List V→Option β)(E:Nat→List V→Option β):Option β:=ifb (decide (p<C)) (lt (QF .i64 (((8:Int):Int)*p)) fun G=>chk (0≤G) (lt (zAA .u64 F G) fun H=>lt (QF .u8 H) fun I=>chk (0≤p∧p<((A:Nat):Int)) (chk (1=1∧(0+((XO p)*1))+1≤(XM D)) (lt (xm D (0+((XO p)*1)) [(Qa I)]) fun J=>lt (QF .i64 ((p:Int)+(1:Int))) fun M=>z F A C M J)))) (E A D)
theorem zuM{β:Type}(L:Nat)(D:Int)(p:Nat)(z A:Int)(C:List V)(X:St→Option β)(K:KT β):xj zbK (zbQ L) 0 L zdQ (zey D p z A C) (zU zgf X K)=zo9 L D p z A C (fun D p z A C=>X (zey D p z A C)) (fun p C=>K (.exit 0) (zkM p C)):=by kernel_rfl
def znl{β:Type}(L:Nat)(z:Nat)(A:List V)(p:List (List V)→Option β):Option β:=chk (z≠0∨(XM A)=0) (p (zl 1 z A))
theorem ztq{β:Type}(L:Nat)(p:Nat)(z:List V)(k:KK β):(yo 0 (zE (xj zbK (zbQ L) 0 L zlH) (yQ 0 (CF.res zdM) k))) (.exit 0) (zkM p z)=znl L p z (fun A=>k (V.fr 1 A) []):=by kernel_rfl
def zjR{β:Type}(L:Nat)(p:Nat→List V→Option β):Nat→Int→Nat→Int→Int→List V→Option β
 | 0,_,_,_,_,_=>none
 | n+1,D,z,A,C,E=>zo9 L D z A C E (fun D z A C E=>zjR L p n D z A C E) p
theorem zmb{β:Type}(L:Nat)(K:KT β):∀ (n:Nat) (D:Int) (p:Nat) (z A:Int) (C:List V),zw (xj zbK (zbQ L) 0 L zdQ) zgf n (zey D p z A C) K=zjR L (fun p C=>K (.exit 0) (zkM p C)) n D p z A C:=by
 intro n
 induction n with
 | zero=>intros; rfl
 | succ n ih=>
  intro D p z A C
  refine (zuM L D p z A C (fun σ=>zw (xj zbK (zbQ L) 0 L zdQ) zgf n σ K) K).trans ?_
  simp only [ih]
  rfl
def zph{β:Type}(L:Nat)(A F:Int)(z:List (List V)→Option β):Option β:=zv2 L A F (fun A p D E C=>zjR L (fun p C=>znl L p C z) L A p D E C)
theorem zzA{β:Type}(L:Nat)(p z:Int)(k:KK β):xq zbK (zbQ L) L zdM [(Qd p),(Qe z)] [] k=zph L p z (fun p=>k (V.fr 1 p) []):=by
 refine (zzV L p z k).trans ?_
 unfold zph
 first
  | (simp only [zmb,ztq]; done)
  | (simp only [zmb]; rfl)
abbrev zcj:=∀ (β:Type),Nat→Int→Int→(List (List V)→Option β)→Option β
def zr(β:Type)(L:Nat)(z A:Int)(p:List (List V)→Option β):Option β:=zph L z A p
def zfR(zr:zcj)(L:Nat)(β:Type)(args:List V)(bor:Bor)(k:KK β):Option β:=match args,bor with
 | [a0,a1],[]=>aI .u64 a0 fun p=>aI .i64 a1 fun z=>zr β L p z (fun p=>k (V.fr 1 p) [])
 | _,_=>none
theorem zzM(L:Nat)(β:Type)(args:List V)(bor:Bor)(k:KK β)(r:β)(h:zfR zr L β args bor k=some r):xq zbK (zbQ L) L zdM args bor k=some r:=by
 unfold zfR at h
 split at h
 ·have q:=yy h; clear h; obtain ⟨p,rfl,h⟩:=q
  have q:=yy h; clear h; obtain ⟨z,rfl,h⟩:=q
  exact (zzA L p z k).trans h
 ·cases h
def zhp:CF:=⟨10,[.tmp 4],(.seq (.reg [Qi 4 (.const (.gs 1 []))]) (.seq (.reg [Qh 5 (tq 0),Qh 6 (tq 1),Qu 7 .u64 (tq 6),Qs 8 194 [(Qw 7),((Qf 4),0)],Qs 9 193 [(Qw 5),(Qw 8)],Qi 4 (tq 9)]) .ret))⟩
def zoQ:Hint:=⟨[(0,0),(1,5)],[],[none],[],[],false,false,[]⟩
def zkH:Nat→Sh:=xT []
def zkg(zr:zcj)(xi:zZ)(L:Nat):CBC:=(xy 193 (zcP xi L) (xy 194 (zfR zr L) noC))
def zlE{β:Type}(zr:zcj)(xi:zZ)(L:Nat)(z:List (List V))(A:Int)(p:List (List V)→Option β):Option β:=lt (QF .u64 A) fun C=>zr β L C (4:Int) (fun D=>xi β L z D (fun E=>p E))
theorem zwQ{β:Type}(zr:zcj)(xi:zZ)(L:Nat)(p:List (List V))(z:Int)(k:KK β):xq zkH (zkg zr xi L) L zhp [(V.sl 1 p),(Qc z)] [] k=zlE zr xi L p z (fun p=>k (V.gs 1 p) []):=by kernel_rfl
abbrev yr:=∀ (β:Type),Nat→List (List V)→Int→(List (List V)→Option β)→Option β
def xd(β:Type)(L:Nat)(z:List (List V))(A:Int)(p:List (List V)→Option β):Option β:=zlE zr xi L z A p
def zfc(xd:yr)(L:Nat)(β:Type)(args:List V)(bor:Bor)(k:KK β):Option β:=match args,bor with
 | [a0,a1],[]=>aL 1 a0 fun p=>aI .u32 a1 fun z=>xd β L p z (fun p=>k (V.gs 1 p) [])
 | _,_=>none
theorem zwJ(L:Nat)(β:Type)(args:List V)(bor:Bor)(k:KK β)(r:β)(h:zfc xd L β args bor k=some r):xq zkH (zkg zr xi L) L zhp args bor k=some r:=by
 unfold zfc at h
 split at h
 ·have q:=xL h; clear h; obtain ⟨p,rfl,h⟩:=q
  have q:=yy h; clear h; obtain ⟨z,rfl,h⟩:=q
  exact (zwQ zr xi L p z k).trans h
 ·cases h
def zgx:CF:=⟨36,[.tmp 4],(.seq (.reg [Qi 4 (.const (.gs 1 []))]) (.seq (.block 0 (.seq (.reg [Qh 6 (tq 1),oo 7 (.bin .lss (tq 6) (.const (.sc (.int .u64 253)))),Qh 5 (tq 7)]) (.cond (tq 5) (.seq (.reg [Qh 8 (tq 0),Qh 9 (tq 1),Qs 10 194 [(Qw 9),((Qf 1),0)],Qs 11 193 [(Qw 8),(Qw 10)],Qi 4 (tq 11)]) .ret) (.seq (.reg [Qh 13 (tq 1),oo 14 (.bin .lss (tq 13) (.const (.sc (.int .u64 65536)))),Qh 12 (tq 14)]) (.cond (tq 12) (.seq (.reg [Qh 15 (tq 0),oo 16 (.buildSlice 1 1 [(.sc (.int .u8 0))] [(0,1,(.const (.sc (.int .u8 253))))]),Qh 17 (tq 1),Qs 18 194 [(Qw 17),((Qf 2),0)],Qs 19 193 [(Qw 16),(Qw 18)],Qs 20 193 [(Qw 15),(Qw 19)],Qi 4 (tq 20)]) .ret) (.seq (.reg [Qh 22 (tq 1),oo 23 (.bin .lss (tq 22) (.const (.sc (.int .u64 4294967296)))),Qh 21 (tq 23)]) (.cond (tq 21) (.seq (.reg [Qh 24 (tq 0),oo 25 (.buildSlice 1 1 [(.sc (.int .u8 0))] [(0,1,(.const (.sc (.int .u8 254))))]),Qh 26 (tq 1),Qs 27 194 [(Qw 26),((Qf 4),0)],Qs 28 193 [(Qw 25),(Qw 27)],Qs 29 193 [(Qw 24),(Qw 28)],Qi 4 (tq 29)]) .ret) .skip))))))) (.seq (.reg [Qh 30 (tq 0),oo 31 (.buildSlice 1 1 [(.sc (.int .u8 0))] [(0,1,(.const (.sc (.int .u8 255))))]),Qh 32 (tq 1),Qs 33 194 [(Qw 32),((Qf 8),0)],Qs 34 193 [(Qw 31),(Qw 33)],Qs 35 193 [(Qw 30),(Qw 34)],Qi 4 (tq 35)]) .ret)))⟩
def zny:Hint:=⟨[(0,0),(2,4),(4,6),(6,6),(7,6)],[],[none,none,none,none,none,none,none,none],[],[],false,false,[]⟩
def zjN:Nat→Sh:=xT []
def zjw(zr:zcj)(xi:zZ)(L:Nat):CBC:=(xy 193 (zcP xi L) (xy 194 (zfR zr L) noC))
def zkP{β:Type}(zr:zcj)(xi:zZ)(L:Nat)(A:List (List V))(z:Int)(p:List (List V)→Option β):Option β:=ifb (decide (z<(253:Int))) (zr β L z (1:Int) (fun D=>xi β L A D (fun E=>p E))) (ifb (decide (z<(65536:Int))) (zr β L z (2:Int) (fun F=>xi β L (zl 1 1 [(Qa (253:Int))]) F (fun G=>xi β L A G (fun H=>p H)))) (ifb (decide (z<(4294967296:Int))) (zr β L z (4:Int) (fun I=>xi β L (zl 1 1 [(Qa (254:Int))]) I (fun J=>xi β L A J (fun M=>p M)))) (zr β L z (8:Int) (fun N=>xi β L (zl 1 1 [(Qa (255:Int))]) N (fun O=>xi β L A O (fun C=>p C))))))
theorem zvQ{β:Type}(zr:zcj)(xi:zZ)(L:Nat)(p:List (List V))(z:Int)(k:KK β):xq zjN (zjw zr xi L) L zgx [(V.sl 1 p),(Qd z)] [] k=zkP zr xi L p z (fun p=>k (V.gs 1 p) []):=by kernel_rfl
abbrev xo:=∀ (β:Type),Nat→List (List V)→Int→(List (List V)→Option β)→Option β
def zd(β:Type)(L:Nat)(z:List (List V))(A:Int)(p:List (List V)→Option β):Option β:=zkP zr xi L z A p
def zeI(zd:xo)(L:Nat)(β:Type)(args:List V)(bor:Bor)(k:KK β):Option β:=match args,bor with
 | [a0,a1],[]=>aL 1 a0 fun p=>aI .u64 a1 fun z=>zd β L p z (fun p=>k (V.gs 1 p) [])
 | _,_=>none
theorem zwg(L:Nat)(β:Type)(args:List V)(bor:Bor)(k:KK β)(r:β)(h:zeI zd L β args bor k=some r):xq zjN (zjw zr xi L) L zgx args bor k=some r:=by
 unfold zeI at h
 split at h
 ·have q:=xL h; clear h; obtain ⟨p,rfl,h⟩:=q
  have q:=yy h; clear h; obtain ⟨z,rfl,h⟩:=q
  exact (zvQ zr xi L p z k).trans h
 ·cases h
def zgk:CF:=⟨8,[.tmp 4],(.seq (.reg [Qv 3 (tq 1),Qi 4 (.const (.gs 1 []))]) (.seq (.reg [Qh 5 (tq 0),oo 6 (.sliceA 32 1 (tq 3) none none none),Qs 7 193 [(Qw 5),(Qw 6)],Qi 4 (tq 7)]) .ret))⟩
def znv:Hint:=⟨[(0,1),(1,3)],[],[none],[],[],false,false,[]⟩
def zjK:Nat→Sh:=xT []
def zjM(xi:zZ)(L:Nat):CBC:=(xy 193 (zcP xi L) noC)
def zkX{β:Type}(xi:zZ)(L:Nat)(A:List (List V))(z:List V)(p:List (List V)→Option β):Option β:=chk (0+32*1≤(XM z)) (ifb (List.isEmpty z) (xi β L A (zl 1 32 z) (fun C=>p C)) (xi β L A (zl 1 32 z) (fun D=>p D)))
theorem zvu{β:Type}(xi:zZ)(L:Nat)(p:List (List V))(z:List V)(k:KK β):xq zjK (zjM xi L) L zgk [(V.sl 1 p),(V.agg z)] [] k=zkX xi L p z (fun p=>k (V.gs 1 p) []):=by kernel_rfl
abbrev zg0:=∀ (β:Type),Nat→List (List V)→List V→(List (List V)→Option β)→Option β
def zV(β:Type)(L:Nat)(z:List (List V))(A:List V)(p:List (List V)→Option β):Option β:=zkX xi L z A p
def zhl(zV:zg0)(L:Nat)(β:Type)(args:List V)(bor:Bor)(k:KK β):Option β:=match args,bor with
 | [a0,a1],[]=>aL 1 a0 fun p=>aG a1 fun z=>zV β L p z (fun p=>k (V.gs 1 p) [])
 | _,_=>none
theorem zvG(L:Nat)(β:Type)(args:List V)(bor:Bor)(k:KK β)(r:β)(h:zhl zV L β args bor k=some r):xq zjK (zjM xi L) L zgk args bor k=some r:=by
 unfold zhl at h
 split at h
 ·have q:=xL h; clear h; obtain ⟨p,rfl,h⟩:=q
  have q:=zde h; clear h; obtain ⟨z,rfl,h⟩:=q
  exact (zvu xi L p z k).trans h
 ·cases h
def zll:CF:=⟨9,[.tmp 2],(.seq (.reg [Qv 1 (tq 0),Qi 2 (.const (.gs 1 []))]) (.seq (.dreg [] [(Ql 3 0 (tq 1),q0),(Qk 4 32 (tq 3),ql 1 [] []),(oo 5 (.call 160 [((.const (.gs 1 [])),0),(Qw 4)] []),qc [1] []),(Ql 6 32 (tq 1),q0),(Qj 7 1 (tq 6),ql 1 [] []),(Qs 8 159 [(Qw 5),(Qw 7)],q0),(Qi 2 (tq 8),q0)]) .ret))⟩
def ztj:Hint:=⟨[(0,1),(1,6)],[],[none],[],[],false,false,[]⟩
def zpr:Nat→Sh:=xT [(7,(.int .u32))]
def zpz(zV:zg0)(xd:yr)(L:Nat):CBC:=(xy 159 (zfc xd L) (xy 160 (zhl zV L) noC))
def zq4{β:Type}(zV:zg0)(xd:yr)(L:Nat)(z:List V)(p:List (List V)→Option β):Option β:=chk (0+32≤(XM z)) (zV β L ([]:List (List V)) (XN 32 z) (fun A=>cI .u32 z 32 fun C=>xd β L A C (fun D=>p D)))
theorem zAX{β:Type}(zV:zg0)(xd:yr)(L:Nat)(p:List V)(k:KK β):xq zpr (zpz zV xd L) L zll [(V.agg p)] [] k=zq4 zV xd L p (fun p=>k (V.gs 1 p) []):=by kernel_rfl
abbrev yA:=∀ (β:Type),Nat→List V→(List (List V)→Option β)→Option β
def xg(β:Type)(L:Nat)(z:List V)(p:List (List V)→Option β):Option β:=zq4 zV xd L z p
def zmF(xg:yA)(L:Nat)(β:Type)(args:List V)(bor:Bor)(k:KK β):Option β:=match args,bor with
 | [a0],[]=>aG a0 fun p=>xg β L p (fun p=>k (V.gs 1 p) [])
 | _,_=>none
theorem zAn(L:Nat)(β:Type)(args:List V)(bor:Bor)(k:KK β)(r:β)(h:zmF xg L β args bor k=some r):xq zpr (zpz zV xd L) L zll args bor k=some r:=by
 unfold zmF at h
 split at h
 ·have q:=zde h; clear h; obtain ⟨p,rfl,h⟩:=q
  exact (zAX zV xd L p k).trans h
 ·cases h
def zgY:CF:=⟨9,[.tmp 4],(.seq (.reg [Qi 4 (.const (.gs 1 []))]) (.seq (.reg [Qh 5 (tq 0),Qh 6 (tq 1),Qs 7 194 [(Qw 6),((Qf 8),0)],Qs 8 193 [(Qw 5),(Qw 7)],Qi 4 (tq 8)]) .ret))⟩
def zn7:Hint:=⟨[(0,0),(1,4)],[],[none],[],[],false,false,[]⟩
def zkW:Nat→Sh:=xT []
def zkv(zr:zcj)(xi:zZ)(L:Nat):CBC:=(xy 193 (zcP xi L) (xy 194 (zfR zr L) noC))
def zlK{β:Type}(zr:zcj)(xi:zZ)(L:Nat)(z:List (List V))(A:Int)(p:List (List V)→Option β):Option β:=zr β L A (8:Int) (fun C=>xi β L z C (fun D=>p D))
theorem zwv{β:Type}(zr:zcj)(xi:zZ)(L:Nat)(p:List (List V))(z:Int)(k:KK β):xq zkW (zkv zr xi L) L zgY [(V.sl 1 p),(Qd z)] [] k=zlK zr xi L p z (fun p=>k (V.gs 1 p) []):=by kernel_rfl
abbrev zhQ:=∀ (β:Type),Nat→List (List V)→Int→(List (List V)→Option β)→Option β
def xU(β:Type)(L:Nat)(z:List (List V))(A:Int)(p:List (List V)→Option β):Option β:=zlK zr xi L z A p
def zhO(xU:zhQ)(L:Nat)(β:Type)(args:List V)(bor:Bor)(k:KK β):Option β:=match args,bor with
 | [a0,a1],[]=>aL 1 a0 fun p=>aI .u64 a1 fun z=>xU β L p z (fun p=>k (V.gs 1 p) [])
 | _,_=>none
theorem zwV(L:Nat)(β:Type)(args:List V)(bor:Bor)(k:KK β)(r:β)(h:zhO xU L β args bor k=some r):xq zkW (zkv zr xi L) L zgY args bor k=some r:=by
 unfold zhO at h
 split at h
 ·have q:=xL h; clear h; obtain ⟨p,rfl,h⟩:=q
  have q:=yy h; clear h; obtain ⟨z,rfl,h⟩:=q
  exact (zwv zr xi L p z k).trans h
 ·cases h
def zfg:CF:=⟨12,[.tmp 4],(.seq (.reg [Qi 4 (.const (.gs 1 []))]) (.seq (.reg [Qh 5 (tq 0),Qh 6 (tq 1),Qr 7 (tq 6),Qu 8 .u64 (tq 7),Qs 9 185 [(Qw 5),(Qw 8)],Qh 10 (tq 1),Qs 11 193 [(Qw 9),(Qw 10)],Qi 4 (tq 11)]) .ret))⟩
def zmm:Hint:=⟨[(0,0),(1,7)],[],[none],[],[],false,false,[]⟩
def zi5:Nat→Sh:=xT []
def zi9(zd:xo)(xi:zZ)(L:Nat):CBC:=(xy 193 (zcP xi L) (xy 185 (zeI zd L) noC))
def zjF{β:Type}(zd:xo)(xi:zZ)(L:Nat)(A z:List (List V))(p:List (List V)→Option β):Option β:=lt (QF .u64 ((XM z:Nat):Int)) fun C=>zd β L A C (fun D=>xi β L D z (fun E=>p E))
theorem zve{β:Type}(zd:xo)(xi:zZ)(L:Nat)(p z:List (List V))(k:KK β):xq zi5 (zi9 zd xi L) L zfg [(V.sl 1 p),(V.sl 1 z)] [] k=zjF zd xi L p z (fun p=>k (V.gs 1 p) []):=by kernel_rfl
abbrev zn:=∀ (β:Type),Nat→List (List V)→List (List V)→(List (List V)→Option β)→Option β
def xc(β:Type)(L:Nat)(z A:List (List V))(p:List (List V)→Option β):Option β:=zjF zd xi L z A p
def zec(xc:zn)(L:Nat)(β:Type)(args:List V)(bor:Bor)(k:KK β):Option β:=match args,bor with
 | [a0,a1],[]=>aL 1 a0 fun p=>aL 1 a1 fun z=>xc β L p z (fun p=>k (V.gs 1 p) [])
 | _,_=>none
theorem zup(L:Nat)(β:Type)(args:List V)(bor:Bor)(k:KK β)(r:β)(h:zec xc L β args bor k=some r):xq zi5 (zi9 zd xi L) L zfg args bor k=some r:=by
 unfold zec at h
 split at h
 ·have q:=xL h; clear h; obtain ⟨p,rfl,h⟩:=q
  have q:=xL h; clear h; obtain ⟨z,rfl,h⟩:=q
  exact (zve zd xi L p z k).trans h
 ·cases h
def zoP:CF:=⟨10,[.tmp 2],(.seq (.reg [Qv 1 (tq 0),Qi 2 (.const (.gs 1 []))]) (.seq (.dreg [] [(Ql 3 0 (tq 1),q0),(Qj 4 1 (tq 3),ql 1 [] []),(Qu 5 .u64 (tq 4),q0),(oo 6 (.call 206 [((.const (.gs 1 [])),0),(Qw 5)] []),qc [1] []),(Ql 7 1 (tq 1),q0),(Qj 8 1 (tq 7),ql 1 [] []),(Qs 9 187 [(Qw 6),(Qw 8)],q0),(Qi 2 (tq 9),q0)]) .ret))⟩
def zvE:Hint:=⟨[(0,0),(0,1),(1,7)],[],[none],[],[],false,false,[]⟩
def zs3:Nat→Sh:=xT [(4,(.int .i64)),(8,(.sl 1))]
def ztA(xU:zhQ)(xc:zn)(L:Nat):CBC:=(xy 187 (zec xc L) (xy 206 (zhO xU L) noC))
def zvi{β:Type}(xU:zhQ)(xc:zn)(L:Nat)(z:List V)(p:List (List V)→Option β):Option β:=cI .i64 z 0 fun A=>lt (QF .u64 A) fun C=>xU β L ([]:List (List V)) C (fun D=>cLd 1 z 1 fun E=>xc β L D E (fun F=>p F))
theorem zC8{β:Type}(xU:zhQ)(xc:zn)(L:Nat)(p:List V)(k:KK β):xq zs3 (ztA xU xc L) L zoP [(V.agg p)] [] k=zvi xU xc L p (fun p=>k (V.gs 1 p) []):=by kernel_rfl
abbrev yG:=∀ (β:Type),Nat→List V→(List (List V)→Option β)→Option β
def xh(β:Type)(L:Nat)(z:List V)(p:List (List V)→Option β):Option β:=zvi xU xc L z p
def zpY(xh:yG)(L:Nat)(β:Type)(args:List V)(bor:Bor)(k:KK β):Option β:=match args,bor with
 | [a0],[]=>aG a0 fun p=>xh β L p (fun p=>k (V.gs 1 p) [])
 | _,_=>none
theorem zDf(L:Nat)(β:Type)(args:List V)(bor:Bor)(k:KK β)(r:β)(h:zpY xh L β args bor k=some r):xq zs3 (ztA xU xc L) L zoP args bor k=some r:=by
 unfold zpY at h
 split at h
 ·have q:=zde h; clear h; obtain ⟨p,rfl,h⟩:=q
  exact (zC8 xU xc L p k).trans h
 ·cases h
end
end Go.Proofs.Ytoeobffjdbdpgaa
