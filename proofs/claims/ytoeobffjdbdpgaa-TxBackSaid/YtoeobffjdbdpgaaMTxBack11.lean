/- Part 11 of the proof of TxBack: an abstract machine over plain values, its soundness, and the functions of the program on plain values. -/
import Derived.Test.YtoeobffjdbdpgaaMTxBack10
namespace Go.Proofs.Ytoeobffjdbdpgaa
section
set_option maxRecDepth 100000
set_option linter.unusedVariables false
set_option linter.unusedSimpArgs false
def zkj:CC:=(.seq (.seq (.reg [oo 89 (.move (tq 13) false),
   oo 90 (.bin .gtr (tq 89) (.const (.sc (.int .i64 0)))),
   oo 91 (.move (tq 90) false),
   ⟨(some 92),false,(some (91,true)),.move (tq 7) false⟩,
   ⟨(some 93),false,(some (91,true)),.nilCheck (tq 92)⟩,
   ⟨(some 94),false,(some (91,true)),.fieldAddr 2 (tq 93)⟩,
   ⟨(some 95),false,(some (91,true)),.load false 1 (tq 94) false⟩,
   ⟨(some 96),false,(some (91,true)),.bin .eql (tq 95) (.const (.sc (.int .i64 0)))⟩,
   oo 97 (.pick (tq 91) (tq 96) (.const (.sc (.bool false))))])
 (.cond (tq 97)
 .skip
 (.seq (.mask (bl 33849922949209616891773330 148) (bl 356811923167403450762135544012445415519542271 148))
 (.exit 6))))
 (.seq (.block 7 (.dreg [] [(oo 100 (.fieldAddr 1 (tq 8)),q0),
   (oo 101 (.load false 1 (tq 100) false),ql 8 [82] [111,112]),
   (oo 102 (.move (tq 12) false),q0),
   (oo 103 (.fieldAddr 1 (tq 8)),q0),
   (oo 104 (.load false 1 (tq 103) false),ql 8 [] [111]),
   (oo 105 (.move (tq 12) false),q0),
   (oo 106 (.indexAddrS 35 (tq 104) (tq 105)),q0),
   (oo 107 (.fieldAddr 34 (tq 106)),q0),
   (oo 108 (.load false 1 (tq 107) true),ql 82 [8] [111]),
   (oo 109 (.move (tq 7) false),q0),
   (oo 110 (.call 178 [((tq 109),0),((.const (.sc (.int .i64 520))),0)] []),qc [8,82] []),
   (oo 111 (.buildSlice 1 1 [(.sl 1 [])] [(0,1,(tq 110))]),qn [8,82] []),
   (oo 112 (.append 1 24 (tq 108) (tq 111)),qn [8] []),
   (oo 113 (.indexAddrS 35 (tq 101) (tq 102)),q0),
   (oo 114 (.fieldAddr 34 (tq 113)),q0),
   (oz (.store 1 (tq 114) (tq 112)),q0)]))
 (.reg [oo 98 (.move (tq 13) false),
   oo 99 (.bin .sub (tq 98) (.const (.sc (.int .i64 1)))),
   oo 13 (.move (tq 99) false)])))
def znk:CC:=(.reg [oo 115 (.bin .add (tq 84) (.const (.sc (.int .i64 1)))),
   oo 84 (.move (tq 115) false)])
def zpu:CC:=(.seq (.reg [oo 85 (.bin .lss (tq 84) (tq 83))])
 (.seq (.cond (tq 85)
 .skip
 (.seq (.mask (bl 4835703278458516698825106 148) (bl 356811923167403450452650534191100346794757119 148))
 (.exit 4)))
 (.seq (.block 5 (.seq (.reg [oo 86 (.move (tq 84) false),
   oo 12 (.move (tq 86) false)])
 (.seq (.reg [oo 87 (.move (tq 7) false),
   oo 88 (.call 175 [((tq 87),0),((.const (.sc (.int .i64 32))),0)] []),
   oo 13 (.move (tq 88) false)])
 (.block 6 (.loop (bl 33849922949209616891785618 148) (bl 356811923167403450762135544012445415519550463 148)
 zkj)))))
 znk)))
def zrx:CC:=(.seq (.seq (.reg [oo 60 (.move (tq 11) false),
   oo 61 (.bin .gtr (tq 60) (.const (.sc (.int .i64 0)))),
   oo 62 (.move (tq 61) false),
   ⟨(some 63),false,(some (62,true)),.move (tq 7) false⟩,
   ⟨(some 64),false,(some (62,true)),.nilCheck (tq 63)⟩,
   ⟨(some 65),false,(some (62,true)),.fieldAddr 2 (tq 64)⟩,
   ⟨(some 66),false,(some (62,true)),.load false 1 (tq 65) false⟩,
   ⟨(some 67),false,(some (62,true)),.bin .eql (tq 66) (.const (.sc (.int .i64 0)))⟩,
   oo 68 (.pick (tq 62) (tq 67) (.const (.sc (.bool false))))])
 (.cond (tq 68)
 .skip
 (.seq (.mask (bl 402 148) (bl 356811923176489970264439266100853434029700095 148))
 (.exit 2))))
 (.seq (.block 3 (.dreg [] [(oo 71 (.fieldAddr 2 (tq 8)),q0),
   (oo 72 (.load false 1 (tq 71) true),ql 8 [] [75]),
   (oo 73 (.move (tq 7) false),q0),
   (oo 74 (.call 177 [((tq 73),0)] []),qc [8] []),
   (oo 75 (.buildSlice 2 1 [(.sc (.int .i64 0)),(.sl 1 [])] [(0,2,(tq 74))]),qn [8] []),
   (oo 76 (.append 2 32 (tq 72) (tq 75)),q0),
   (oo 77 (.fieldAddr 2 (tq 8)),q0),
   (oz (.store 1 (tq 77) (tq 76)),q0)]))
 (.reg [oo 69 (.move (tq 11) false),
   oo 70 (.bin .sub (tq 69) (.const (.sc (.int .i64 1)))),
   oo 11 (.move (tq 70) false)])))
def zsI:CC:=(.seq (.seq (.reg [oo 32 (.move (tq 9) false),
   oo 33 (.bin .gtr (tq 32) (.const (.sc (.int .i64 0)))),
   oo 34 (.move (tq 33) false),
   ⟨(some 35),false,(some (34,true)),.move (tq 7) false⟩,
   ⟨(some 36),false,(some (34,true)),.nilCheck (tq 35)⟩,
   ⟨(some 37),false,(some (34,true)),.fieldAddr 2 (tq 36)⟩,
   ⟨(some 38),false,(some (34,true)),.load false 1 (tq 37) false⟩,
   ⟨(some 39),false,(some (34,true)),.bin .eql (tq 38) (.const (.sc (.int .i64 0)))⟩,
   oo 40 (.pick (tq 34) (tq 39) (.const (.sc (.bool false))))])
 (.cond (tq 40)
 .skip
 (.seq (.mask (bl 402 148) (bl 356811923176489970264571492253073532201728511 148))
 (.exit 0))))
 (.seq (.block 1 (.seq (.reg [oo 43 (.move (tq 7) false),
   oo 44 (.call 176 [((tq 43),0)] []),
   oo 45 (.move (tq 7) false),
   oo 46 (.call 174 [((tq 45),0)] []),
   oo 47 (.build (rp 32 (.sc (.int .u8 0)) (rp 1 (.sc (.int .u32 0)) [])) [(0,32,(tq 44)),(32,1,(tq 46))]),
   oo 48 (.build (rp 32 (.sc (.int .u8 0)) (rp 2 (.sc (.int .u32 0)) (rp 1 (.gs 1 []) []))) [(0,33,(tq 47))]),
   oo 10 (.alloc true (rp 32 (.sc (.int .u8 0)) (rp 2 (.sc (.int .u32 0)) (rp 1 (.gs 1 []) [])))),
   oz (.store 35 (tq 10) (tq 48))])
 (.seq (.reg [oo 49 (.move (tq 7) false),
   oo 50 (.call 174 [((tq 49),0)] []),
   oo 51 (.fieldAddr 33 (tq 10)),
   oz (.store 1 (tq 51) (tq 50))])
 (.reg [oo 52 (.fieldAddr 1 (tq 8)),
   oo 53 (.load false 1 (tq 52) true),
   oo 54 (.load true 35 (tq 10) false),
   oo 55 (.buildSlice 35 1 (rp 32 (.sc (.int .u8 0)) (rp 2 (.sc (.int .u32 0)) (rp 1 (.sl 1 []) []))) [(0,35,(tq 54))]),
   oo 56 (.appendF 35 64 (tq 53) (tq 55)),
   oo 57 (.fieldAddr 1 (tq 8)),
   oz (.store 1 (tq 57) (tq 56))]))))
 (.reg [oo 41 (.move (tq 9) false),
   oo 42 (.bin .sub (tq 41) (.const (.sc (.int .i64 1)))),
   oo 9 (.move (tq 42) false)])))
def zsq:CC:=(.seq (.seq (.reg [oo 116 (.move (tq 7) false),
   oo 117 (.nilCheck (tq 116)),
   oo 118 (.fieldAddr 2 (tq 117)),
   oo 119 (.load false 1 (tq 118) false),
   oo 120 (.bin .eql (tq 119) (.const (.sc (.int .i64 0)))),
   oo 121 (.move (tq 120) false),
   ⟨(some 122),false,(some (121,true)),.move (tq 7) false⟩,
   ⟨(some 123),false,(some (121,true)),.nilCheck (tq 122)⟩,
   ⟨(some 124),false,(some (121,true)),.fieldAddr 1 (tq 123)⟩,
   ⟨(some 125),false,(some (121,true)),.load false 1 (tq 124) false⟩,
   ⟨(some 126),false,(some (121,true)),.move (tq 1) false⟩,
   ⟨(some 127),false,(some (121,true)),.bin .sub (tq 125) (tq 126)⟩,
   ⟨(some 128),false,(some (121,true)),.bin .gtr (tq 127) (.const (.sc (.int .i64 20000)))⟩,
   oo 129 (.pick (tq 121) (tq 128) (.const (.sc (.bool false))))])
 (.cond (tq 129)
 (.reg [oo 130 (.move (tq 7) false),
   oo 131 (.nilCheck (tq 130)),
   oo 132 (.fieldAddr 2 (tq 131)),
   oz (.store 1 (tq 132) (.const (.sc (.int .i64 4))))])
 .skip))
 (.seq (.seq (.reg [oo 133 (.move (tq 7) false),
   oo 134 (.nilCheck (tq 133)),
   oo 135 (.fieldAddr 2 (tq 134)),
   oo 136 (.load false 1 (tq 135) false),
   oo 137 (.bin .neq (tq 136) (.const (.sc (.int .i64 0))))])
 (.cond (tq 137)
 (.seq (.dreg [] [(oo 138 (.build [(.sc (.int .u32 0)),(.sl 35 []),(.sl 2 []),(.sc (.int .u32 0))] []),q0),
   (oo 139 (.move (tq 7) false),q0),
   (oo 140 (.nilCheck (tq 139)),q0),
   (oo 141 (.fieldAddr 2 (tq 140)),q0),
   (oo 142 (.load false 1 (tq 141) false),ql 7 [4] []),
   (oz (.store 4 (tq 4) (tq 138)),ql 4 [7] []),
   (oo 5 (.move (.const (.sc (.int .i64 0))) false),q0),
   (oo 6 (.move (tq 142) false),q0)])
 .ret)
 .skip))
 (.seq (.dreg [100082] [(oo 143 (.loadS 4 (tq 8)),qc [7] []),
   (oo 144 (.move (tq 7) false),q0),
   (oo 145 (.nilCheck (tq 144)),q0),
   (oo 146 (.fieldAddr 1 (tq 145)),q0),
   (oo 147 (.load false 1 (tq 146) false),ql 7 [4] []),
   (oz (.store 4 (tq 4) (tq 143)),ql 4 [7] []),
   (oo 5 (.move (tq 147) false),q0),
   (oo 6 (.move (.const (.sc (.int .i64 0))) false),q0)])
 .ret)))
def zvl:CC:=(.seq (.reg [oo 78 (.move (tq 7) false),
   oo 79 (.call 174 [((tq 78),0)] []),
   oo 80 (.fieldAddr 3 (tq 8)),
   oz (.store 1 (tq 80) (tq 79))])
 (.seq (.seq (.reg [oo 81 (.fieldAddr 1 (tq 8)),
   oo 82 (.pinC false 35 (tq 81)),
   oo 83 (.lenS (tq 82)),
   oo 84 (.move (.const (.sc (.int .i64 0))) false)])
 (.block 4 (.loop (bl 33849922949209616891773330 148) (bl 356811923167403450452650534191100346794757119 148)
 zpu)))
 zsq))
def zv0:CC:=(.seq (.seq (.reg [oo 58 (.move (tq 7) false),
   oo 59 (.call 175 [((tq 58),0),((.const (.sc (.int .i64 64))),0)] []),
   oo 11 (.move (tq 59) false)])
 (.block 2 (.loop (bl 2450 148) (bl 356811923176489970264439266100853434029702143 148)
 zrx)))
 zvl)
def ztw:CF:=⟨148,[.cell 4 true 4,.tmp 5,.tmp 6],
 (.seq (.reg [oo 4 (.alloc true [(.sc (.int .u32 0)),(.gs 35 []),(.gs 2 []),(.sc (.int .u32 0))]),
   oo 5 (.move (.const (.sc (.int .i64 0))) false),
   oo 6 (.move (.const (.sc (.int .i64 0))) false)])
 (.seq (.seq (.reg [oo 14 (.move (tq 1) false),
   oo 15 (.bin .lss (tq 14) (.const (.sc (.int .i64 0)))),
   oo 16 (.move (tq 15) false),
   ⟨(some 17),false,(some (16,false)),.move (tq 1) false⟩,
   ⟨(some 18),false,(some (16,false)),.move (tq 0) false⟩,
   ⟨(some 19),false,(some (16,false)),.lenS (tq 18)⟩,
   ⟨(some 20),false,(some (16,false)),.bin .gtr (tq 17) (tq 19)⟩,
   oo 21 (.pick (tq 16) (.const (.sc (.bool true))) (tq 20))])
 (.cond (tq 21)
 (.seq (.reg [oo 22 (.build [(.sc (.int .u32 0)),(.sl 35 []),(.sl 2 []),(.sc (.int .u32 0))] []),
   oz (.store 4 (tq 4) (tq 22)),
   oo 5 (.move (.const (.sc (.int .i64 0))) false),
   oo 6 (.move (.const (.sc (.int .i64 5))) false)])
 .ret)
 .skip))
 (.seq (.reg [oo 23 (.move (tq 0) false),
   oo 24 (.move (tq 1) false),
   oo 25 (.build [(.gs 1 []),(.sc (.int .i64 0)),(.sc (.int .i64 0))] [(0,1,(tq 23)),(1,1,(tq 24))]),
   oo 26 (.box false (tq 25)),
   oo 7 (.move (tq 26) false)])
 (.seq (.reg [oo 27 (.move (tq 7) false),
   oo 28 (.call 174 [((tq 27),0)] []),
   oo 29 (.buildSt [(.sc (.int .u32 0)),(.gs 35 []),(.gs 2 []),(.sc (.int .u32 0))] [(0,1,(tq 28))]),
   oo 8 (.alloc false [(.sc (.int .u32 0)),(.fr 35 []),(.gs 2 []),(.sc (.int .u32 0))]),
   oz (.storeF 4 (tq 8) (tq 29) [1])])
 (.seq (.seq (.reg [oo 30 (.move (tq 7) false),
   oo 31 (.call 175 [((tq 30),0),((.const (.sc (.int .i64 64))),0)] []),
   oo 9 (.move (tq 31) false)])
 (.block 0 (.loop (bl 914 148) (bl 356811923176489970264571492253073532201729023 148)
 zsI)))
 zv0)))))⟩
def zpY:Hint:=⟨[(0,0),(8,6),(10,1),(14,1),(22,8),(4,2)],[],[none,none,none,some ((bl 914 148),(bl 356811923176489970264571492253073532201729023 148)),none,some ((bl 402 148),(bl 356811923176489970264571492253073532201728511 148)),none,none,some ((bl 2450 148),(bl 356811923176489970264439266100853434029702143 148)),none,some ((bl 402 148),(bl 356811923176489970264439266100853434029700095 148)),none,none,some ((bl 33849922949209616891773330 148),(bl 356811923167403450452650534191100346794757119 148)),none,some ((bl 4835703278458516698825106 148),(bl 356811923167403450452650534191100346794757119 148)),none,none,some ((bl 33849922949209616891785618 148),(bl 356811923167403450762135544012445415519550463 148)),none,some ((bl 33849922949209616891773330 148),(bl 356811923167403450762135544012445415519542271 148)),none,none,none,none,none],[(28,[100082])],[(3,2,[0]),(4,2,[0]),(8,5,[0]),(4,3,[1]),(4,4,[1]),(10,4,[0]),(16,1,[1]),(28,0,[1,1])],false,false,[(22,82)]⟩
def zIY:Nat→Sh:=yL [(108,(.gs 1))]
def zIW (zh:yD) (yh:xC) (zi:zD) (yg:zy) (yf:yw) (L:Nat):CBC:=(zt 178 (zle yf L) (zt 177 (zq5 yg L) (zt 176 (ztX zi L) (zt 175 (ztN yh L) (zt 174 (ztC zh L) noC)))))
def zE7:St→St:=zV 0 (bl 914 148) (bl 356811923176489970264571492253073532201729023 148)
def zEV:St→St:=zV 0 (bl 2450 148) (bl 356811923176489970264439266100853434029702143 148)
def zCW:St→St:=zV 0 (bl 33849922949209616891773330 148) (bl 356811923167403450452650534191100346794757119 148)
def zx4:St→St:=zV 0 (bl 33849922949209616891785618 148) (bl 356811923167403450762135544012445415519550463 148)
def zC4 (p1 p9 zKH:Int) (zKI zKJ:List (List V)) (zKK zK3:Int) (zK7 zK2:List (List V)) (zK4:Int) (zK0:List (List V)) (zKZ zKW:Int):St:=⟨(jn 1 ((V.sc (.int .i64 p1))::(jn 2 ((V.ptr 4 0)::(jn 2 ((V.ptr 26 0)::((V.ptr 8 0)::((V.sc (.int .i64 p9))::(jn 138 []))))))))),(gn 4 ((.live true [(V.sc (.int .u32 zKH)),(V.gs 35 zKI),(V.gs 2 zKJ),(V.sc (.int .u32 zKK))])::(gn 3 ((.live false [(V.sc (.int .u32 zK3)),(V.fr 35 zK7),(V.gs 2 zK2),(V.sc (.int .u32 zK4))])::(gn 17 ((.live false [(V.sl 1 zK0),(V.sc (.int .i64 zKZ)),(V.sc (.int .i64 zKW))])::(gn 121 [])))))))⟩
def zGN (p1 zKH:Int) (zKI zKJ:List (List V)) (zKK zK3:Int) (zK7 zK2:List (List V)) (zK4:Int) (zK0:List (List V)) (zKZ zKW:Int):St:=⟨(jn 1 ((V.sc (.int .i64 p1))::(jn 2 ((V.ptr 4 0)::(jn 2 ((V.ptr 26 0)::((V.ptr 8 0)::(jn 139 [])))))))),(gn 4 ((.live true [(V.sc (.int .u32 zKH)),(V.gs 35 zKI),(V.gs 2 zKJ),(V.sc (.int .u32 zKK))])::(gn 3 ((.live false [(V.sc (.int .u32 zK3)),(V.fr 35 zK7),(V.gs 2 zK2),(V.sc (.int .u32 zK4))])::(gn 17 ((.live false [(V.sl 1 zK0),(V.sc (.int .i64 zKZ)),(V.sc (.int .i64 zKW))])::(gn 121 [])))))))⟩
def zCN (p1 p11 zKH:Int) (zKI zKJ:List (List V)) (zKK zK3:Int) (zK7 zK2:List (List V)) (zK4:Int) (zK0:List (List V)) (zKZ zKW:Int):St:=⟨(jn 1 ((V.sc (.int .i64 p1))::(jn 2 ((V.ptr 4 0)::(jn 2 ((V.ptr 26 0)::((V.ptr 8 0)::(jn 2 ((V.sc (.int .i64 p11))::(jn 136 [])))))))))),(gn 4 ((.live true [(V.sc (.int .u32 zKH)),(V.gs 35 zKI),(V.gs 2 zKJ),(V.sc (.int .u32 zKK))])::(gn 3 ((.live false [(V.sc (.int .u32 zK3)),(V.fr 35 zK7),(V.gs 2 zK2),(V.sc (.int .u32 zK4))])::(gn 17 ((.live false [(V.sl 1 zK0),(V.sc (.int .i64 zKZ)),(V.sc (.int .i64 zKW))])::(gn 121 [])))))))⟩
def zG0 (p1 zKH:Int) (zKI zKJ:List (List V)) (zKK zK3:Int) (zK7 zK2:List (List V)) (zK4:Int) (zK0:List (List V)) (zKZ zKW:Int):St:=⟨(jn 1 ((V.sc (.int .i64 p1))::(jn 2 ((V.ptr 4 0)::(jn 2 ((V.ptr 26 0)::((V.ptr 8 0)::(jn 139 [])))))))),(gn 4 ((.live true [(V.sc (.int .u32 zKH)),(V.gs 35 zKI),(V.gs 2 zKJ),(V.sc (.int .u32 zKK))])::(gn 3 ((.live false [(V.sc (.int .u32 zK3)),(V.fr 35 zK7),(V.gs 2 zK2),(V.sc (.int .u32 zK4))])::(gn 17 ((.live false [(V.sl 1 zK0),(V.sc (.int .i64 zKZ)),(V.sc (.int .i64 zKW))])::(gn 121 [])))))))⟩
def zAU (p1:Int) (p82l:Nat) (p83 p84 zKH:Int) (zKI zKJ:List (List V)) (zKK zK3:Int) (zK6:Nat) (zK2:List (List V)) (zK4:Int) (zK0:List (List V)) (zKZ zKW:Int) (b82:List V):St:=⟨(jn 1 ((V.sc (.int .i64 p1))::(jn 2 ((V.ptr 4 0)::(jn 2 ((V.ptr 26 0)::((V.ptr 8 0)::(jn 73 ((V.own 82 0 p82l 35)::((V.sc (.int .i64 p83))::((V.sc (.int .i64 p84))::(jn 63 [])))))))))))),(gn 4 ((.live true [(V.sc (.int .u32 zKH)),(V.gs 35 zKI),(V.gs 2 zKJ),(V.sc (.int .u32 zKK))])::(gn 3 ((.live false [(V.sc (.int .u32 zK3)),(V.own 82 0 zK6 35),(V.gs 2 zK2),(V.sc (.int .u32 zK4))])::(gn 17 ((.live false [(V.sl 1 zK0),(V.sc (.int .i64 zKZ)),(V.sc (.int .i64 zKW))])::(gn 55 ((.live false b82)::(gn 65 [])))))))))⟩
def zv7 (p1 p12 p13:Int) (p82l:Nat) (p83 p84 zKH:Int) (zKI zKJ:List (List V)) (zKK zK3:Int) (zK6:Nat) (zK2:List (List V)) (zK4:Int) (zK0:List (List V)) (zKZ zKW:Int) (b82:List V):St:=⟨(jn 1 ((V.sc (.int .i64 p1))::(jn 2 ((V.ptr 4 0)::(jn 2 ((V.ptr 26 0)::((V.ptr 8 0)::(jn 3 ((V.sc (.int .i64 p12))::((V.sc (.int .i64 p13))::(jn 68 ((V.own 82 0 p82l 35)::((V.sc (.int .i64 p83))::((V.sc (.int .i64 p84))::(jn 63 []))))))))))))))),(gn 4 ((.live true [(V.sc (.int .u32 zKH)),(V.gs 35 zKI),(V.gs 2 zKJ),(V.sc (.int .u32 zKK))])::(gn 3 ((.live false [(V.sc (.int .u32 zK3)),(V.own 82 0 zK6 35),(V.gs 2 zK2),(V.sc (.int .u32 zK4))])::(gn 17 ((.live false [(V.sl 1 zK0),(V.sc (.int .i64 zKZ)),(V.sc (.int .i64 zKW))])::(gn 55 ((.live false b82)::(gn 65 [])))))))))⟩
def zGw (p1:Int) (p82l:Nat) (zKH:Int) (zKI zKJ:List (List V)) (zKK zK3:Int) (zK6:Nat) (zK2:List (List V)) (zK4:Int) (zK0:List (List V)) (zKZ zKW:Int) (b82:List V):St:=⟨(jn 1 ((V.sc (.int .i64 p1))::(jn 2 ((V.ptr 4 0)::(jn 2 ((V.ptr 26 0)::((V.ptr 8 0)::(jn 73 ((V.own 82 0 p82l 35)::(jn 65 [])))))))))),(gn 4 ((.live true [(V.sc (.int .u32 zKH)),(V.gs 35 zKI),(V.gs 2 zKJ),(V.sc (.int .u32 zKK))])::(gn 3 ((.live false [(V.sc (.int .u32 zK3)),(V.own 82 0 zK6 35),(V.gs 2 zK2),(V.sc (.int .u32 zK4))])::(gn 17 ((.live false [(V.sl 1 zK0),(V.sc (.int .i64 zKZ)),(V.sc (.int .i64 zKW))])::(gn 55 ((.live false b82)::(gn 65 [])))))))))⟩
def zGx (p1:Int) (p82l:Nat) (p83 p84 zKH:Int) (zKI zKJ:List (List V)) (zKK zK3:Int) (zK6:Nat) (zK2:List (List V)) (zK4:Int) (zK0:List (List V)) (zKZ zKW:Int) (b82:List V):St:=⟨(jn 1 ((V.sc (.int .i64 p1))::(jn 2 ((V.ptr 4 0)::(jn 2 ((V.ptr 26 0)::((V.ptr 8 0)::(jn 73 ((V.own 82 0 p82l 35)::((V.sc (.int .i64 p83))::((V.sc (.int .i64 p84))::(jn 63 [])))))))))))),(gn 4 ((.live true [(V.sc (.int .u32 zKH)),(V.gs 35 zKI),(V.gs 2 zKJ),(V.sc (.int .u32 zKK))])::(gn 3 ((.live false [(V.sc (.int .u32 zK3)),(V.own 82 0 zK6 35),(V.gs 2 zK2),(V.sc (.int .u32 zK4))])::(gn 17 ((.live false [(V.sl 1 zK0),(V.sc (.int .i64 zKZ)),(V.sc (.int .i64 zKW))])::(gn 55 ((.live false b82)::(gn 65 [])))))))))⟩
abbrev zko (β:Type):Type:=Int→Int→Int→List (List V)→List (List V)→Int→Int→List (List V)→List (List V)→Int→List (List V)→Int→Int→Option β
abbrev zr1 (β:Type):Type:=Int→Int→List (List V)→List (List V)→Int→Int→List (List V)→List (List V)→Int→List (List V)→Int→Int→Option β
abbrev zj1 (β:Type):Type:=Int→Int→Int→List (List V)→List (List V)→Int→Int→List (List V)→List (List V)→Int→List (List V)→Int→Int→Option β
abbrev zrZ (β:Type):Type:=Int→Int→List (List V)→List (List V)→Int→Int→List (List V)→List (List V)→Int→List (List V)→Int→Int→Option β
abbrev zeD (β:Type):Type:=Int→Nat→Int→Int→Int→List (List V)→List (List V)→Int→Int→Nat→List (List V)→Int→List (List V)→Int→Int→List V→Option β
abbrev zeC (β:Type):Type:=Int→Int→Int→Nat→Int→Int→Int→List (List V)→List (List V)→Int→Int→Nat→List (List V)→Int→List (List V)→Int→Int→List V→Option β
abbrev zlS (β:Type):Type:=Int→Nat→Int→List (List V)→List (List V)→Int→Int→Nat→List (List V)→Int→List (List V)→Int→Int→List V→Option β
abbrev zrm (β:Type):Type:=Int→Nat→Int→Int→Int→List (List V)→List (List V)→Int→Int→Nat→List (List V)→Int→List (List V)→Int→Int→List V→Option β
def zBh {β:Type} (zh:yD) (yh:xC) (zi:zD) (yg:zy) (yf:yw) (L:Nat) (p0:List (List V)) (p1:Int) (k_fin:List V→Int→Int→Option β) (k_hbbbbaba:zko β):Option β :=
 ifb (decide (p1 < (0:Int))) (
 lt [(V.sc (.int .u32 (0:Int))),(V.sl 35 ([]:List (List V))),(V.sl 2 ([]:List (List V))),(V.sc (.int .u32 (0:Int)))] fun r0 =>
 chk (0=0∧(List.length r0)=4∧4≠0) (
 k_fin r0 (0:Int) (5:Int))) (
 ifb (decide (p1 > ((List.length p0:Nat):Int))) (
 lt [(V.sc (.int .u32 (0:Int))),(V.sl 35 ([]:List (List V))),(V.sl 2 ([]:List (List V))),(V.sc (.int .u32 (0:Int)))] fun r1 =>
 chk (0=0∧(List.length r1)=4∧4≠0) (
 k_fin r1 (0:Int) (5:Int))) (
 zh β L p0 p1 (0:Int) (fun v2 v3 v4 v5 =>
 yh β L (64:Int) v3 v4 v5 (fun v6 v7 v8 v9 =>
 k_hbbbbaba p1 v6 (0:Int) ([]:List (List V)) ([]:List (List V)) (0:Int) v2 ([]:List (List V)) ([]:List (List V)) (0:Int) v7 v8 v9))))
def ztF {β:Type} (zh:yD) (yh:xC) (zi:zD) (yg:zy) (yf:yw) (L:Nat) (p1 p9 zKH:Int) (zKI zKJ:List (List V)) (zKK zK3:Int) (zK7 zK2:List (List V)) (zK4:Int) (zK0:List (List V)) (zKZ zKW:Int) (k_hbbbbaba:zko β) (k_x0:zr1 β):Option β :=
 ifb (decide (p9 > (0:Int))) (
 ifb ((zKW:Int) == (0:Int)) (
 zi β L zK0 zKZ zKW (fun v10 v11 v12 v13 =>
 zh β L v11 v12 v13 (fun v14 v15 v16 v17 =>
 chk ((List.length v10)=32∧0+32≤33) (
 chk (1=1∧32+1≤(List.length (zl (List.replicate 32 (V.sc (.int .u8 (0:Int)))++[(V.sc (.int .u32 (0:Int)))]) 0 v10))) (
 chk ((List.length (zl (zl (List.replicate 32 (V.sc (.int .u8 (0:Int)))++[(V.sc (.int .u32 (0:Int)))]) 0 v10) 32 [(V.sc (.int .u32 v14))]))=33∧0+33≤35) (
 chk ((List.length (zl (List.replicate 32 (V.sc (.int .u8 (0:Int)))++[(V.sc (.int .u32 (0:Int))),(V.sc (.int .u32 (0:Int))),(V.gs 1 ([]:List (List V)))]) 0 (zl (zl (List.replicate 32 (V.sc (.int .u8 (0:Int)))++[(V.sc (.int .u32 (0:Int)))]) 0 v10) 32 [(V.sc (.int .u32 v14))])))=35∧0+35≤35) (
 lt (zl (List.replicate 32 (V.sc (.int .u8 (0:Int)))++[(V.sc (.int .u32 (0:Int))),(V.sc (.int .u32 (0:Int))),(V.gs 1 ([]:List (List V)))]) 0 (zl (List.replicate 32 (V.sc (.int .u8 (0:Int)))++[(V.sc (.int .u32 (0:Int))),(V.sc (.int .u32 (0:Int))),(V.gs 1 ([]:List (List V)))]) 0 (zl (zl (List.replicate 32 (V.sc (.int .u8 (0:Int)))++[(V.sc (.int .u32 (0:Int)))]) 0 v10) 32 [(V.sc (.int .u32 v14))]))) fun r18 =>
 zh β L v15 v16 v17 (fun v19 v20 v21 v22 =>
 chk (1=1∧33+1≤(List.length r18)) (
 lt (zl r18 33 [(V.sc (.int .u32 v19))]) fun r23 =>
 chk (0+35≤(List.length r23)) (
 chk ((List.length (List.take 35 r23))=35∧0+35≤35) (
 chk ((List.length zK7+List.length (xi 35 1 (zl (List.replicate 32 (V.sc (.int .u8 (0:Int)))++[(V.sc (.int .u32 (0:Int))),(V.sc (.int .u32 (0:Int))),(V.sl 1 ([]:List (List V)))]) 0 (List.take 35 r23)))) * 64≤zk∧List.length zK7+List.length (xi 35 1 (zl (List.replicate 32 (V.sc (.int .u8 (0:Int)))++[(V.sc (.int .u32 (0:Int))),(V.sc (.int .u32 (0:Int))),(V.sl 1 ([]:List (List V)))]) 0 (List.take 35 r23)))≤zk∧List.length zK7+List.length (xi 35 1 (zl (List.replicate 32 (V.sc (.int .u8 (0:Int)))++[(V.sc (.int .u32 (0:Int))),(V.sc (.int .u32 (0:Int))),(V.sl 1 ([]:List (List V)))]) 0 (List.take 35 r23)))≠0) (
 lt (zK7++(xi 35 1 (zl (List.replicate 32 (V.sc (.int .u8 (0:Int)))++[(V.sc (.int .u32 (0:Int))),(V.sc (.int .u32 (0:Int))),(V.sl 1 ([]:List (List V)))]) 0 (List.take 35 r23)))) fun l24 =>
 lt (IntKind.wrap .i64 ((p9:Int) - (1:Int))) fun x25 =>
 k_hbbbbaba p1 x25 zKH zKI zKJ zKK zK3 l24 zK2 zK4 v20 v21 v22)))))))))))) (
 k_x0 p1 zKH zKI zKJ zKK zK3 zK7 zK2 zK4 zK0 zKZ zKW)) (
 k_x0 p1 zKH zKI zKJ zKK zK3 zK7 zK2 zK4 zK0 zKZ zKW)
def zrn {β:Type} (zh:yD) (yh:xC) (zi:zD) (yg:zy) (yf:yw) (L:Nat) (p1 zKH:Int) (zKI zKJ:List (List V)) (zKK zK3:Int) (zK7 zK2:List (List V)) (zK4:Int) (zK0:List (List V)) (zKZ zKW:Int) (k_hbbbbbaba:zj1 β):Option β :=
 yh β L (64:Int) zK0 zKZ zKW (fun v26 v27 v28 v29 =>
 k_hbbbbbaba p1 v26 zKH zKI zKJ zKK zK3 zK7 zK2 zK4 v27 v28 v29)
def zsV {β:Type} (zh:yD) (yh:xC) (zi:zD) (yg:zy) (yf:yw) (L:Nat) (p1 p11 zKH:Int) (zKI zKJ:List (List V)) (zKK zK3:Int) (zK7 zK2:List (List V)) (zK4:Int) (zK0:List (List V)) (zKZ zKW:Int) (k_hbbbbbaba:zj1 β) (k_x2:zrZ β):Option β :=
 ifb (decide (p11 > (0:Int))) (
 ifb ((zKW:Int) == (0:Int)) (
 yg β L zK0 zKZ zKW (fun v30 v31 v32 v33 =>
 chk ((List.length v30)=2∧0+2≤2) (
 chk ((List.length zK2+List.length (xi 2 1 (zl [(V.sc (.int .i64 (0:Int))),(V.sl 1 ([]:List (List V)))] 0 v30))) * 32≤zk∧List.length zK2+List.length (xi 2 1 (zl [(V.sc (.int .i64 (0:Int))),(V.sl 1 ([]:List (List V)))] 0 v30))≤zk) (
 lt (zK2++(xi 2 1 (zl [(V.sc (.int .i64 (0:Int))),(V.sl 1 ([]:List (List V)))] 0 v30))) fun l34 =>
 lt (IntKind.wrap .i64 ((p11:Int) - (1:Int))) fun x35 =>
 k_hbbbbbaba p1 x35 zKH zKI zKJ zKK zK3 zK7 l34 zK4 v31 v32 v33)))) (
 k_x2 p1 zKH zKI zKJ zKK zK3 zK7 zK2 zK4 zK0 zKZ zKW)) (
 k_x2 p1 zKH zKI zKJ zKK zK3 zK7 zK2 zK4 zK0 zKZ zKW)
def zqp {β:Type} (zh:yD) (yh:xC) (zi:zD) (yg:zy) (yf:yw) (L:Nat) (p1 zKH:Int) (zKI zKJ:List (List V)) (zKK zK3:Int) (zK7 zK2:List (List V)) (zK4:Int) (zK0:List (List V)) (zKZ zKW:Int) (k_hbbbbbbbaba:zeD β):Option β :=
 zh β L zK0 zKZ zKW (fun v36 v37 v38 v39 =>
 lt (List.flatten zK7) fun r40 =>
 k_hbbbbbbbaba p1 (List.length zK7) (((List.length zK7):Nat):Int) (0:Int) zKH zKI zKJ zKK zK3 (List.length zK7) zK2 v36 v37 v38 v39 (zbv (bl 356811923167403450452650534191100346794757119 148) r40))
def zqj {β:Type} (zh:yD) (yh:xC) (zi:zD) (yg:zy) (yf:yw) (L:Nat) (p1:Int) (p82l:Nat) (p83 p84 zKH:Int) (zKI zKJ:List (List V)) (zKK zK3:Int) (zK6:Nat) (zK2:List (List V)) (zK4:Int) (zK0:List (List V)) (zKZ zKW:Int) (b82:List V) (k_hbbbbbbbabaabbaabba:zeC β) (k_x4:zlS β):Option β :=
 ifb (decide (p84 < p83)) (
 yh β L (32:Int) zK0 zKZ zKW (fun v41 v42 v43 v44 =>
 k_hbbbbbbbabaabbaabba p1 p84 v41 p82l p83 p84 zKH zKI zKJ zKK zK3 zK6 zK2 zK4 v42 v43 v44 (zbv (bl 356811923167403450762135544012445415519550463 148) b82))) (
 k_x4 p1 p82l zKH zKI zKJ zKK zK3 zK6 zK2 zK4 zK0 zKZ zKW (zbv (bl 356811923167403450452650534191100346794757119 148) b82))
def zoH {β:Type} (zh:yD) (yh:xC) (zi:zD) (yg:zy) (yf:yw) (L:Nat) (p1:Int) (p82l:Nat) (zKH:Int) (zKI zKJ:List (List V)) (zKK zK3:Int) (zK6:Nat) (zK2:List (List V)) (zK4:Int) (zK0:List (List V)) (zKZ zKW:Int) (b82:List V) (k_fin:List V→Int→Int→Option β):Option β :=
 ifb ((zKW:Int) == (0:Int)) (
 lt (IntKind.wrap .i64 ((zKZ:Int) - p1)) fun x45 =>
 ifb (decide (x45 > (20000:Int))) (
 lt [(V.sc (.int .u32 (0:Int))),(V.sl 35 ([]:List (List V))),(V.sl 2 ([]:List (List V))),(V.sc (.int .u32 (0:Int)))] fun r46 =>
 chk (0=0∧(List.length r46)=4∧4≠0) (
 k_fin r46 (0:Int) (4:Int))) (
 ifb ((zKW:Int) != (0:Int)) (
 lt [(V.sc (.int .u32 (0:Int))),(V.sl 35 ([]:List (List V))),(V.sl 2 ([]:List (List V))),(V.sc (.int .u32 (0:Int)))] fun r47 =>
 chk (0=0∧(List.length r47)=4∧4≠0) (
 k_fin r47 (0:Int) zKW)) (
 lc b82 (
 chk (zK6=0) (
 lt [(V.sc (.int .u32 zK3)),(V.sl 35 ([]:List (List V))),(V.sl 2 zK2),(V.sc (.int .u32 zK4))] fun r51 =>
 chk (0=0∧(List.length r51)=4∧4≠0) (
 k_fin r51 zKZ (0:Int)))) (fun h48 t49 =>
 zdf (h48::t49) fun f50 =>
 lt [(V.sc (.int .u32 zK3)),(V.sl 35 (xi 35 zK6 f50)),(V.sl 2 zK2),(V.sc (.int .u32 zK4))] fun r52 =>
 chk (0=0∧(List.length r52)=4∧4≠0) (
 k_fin r52 zKZ (0:Int)))))) (
 ifb ((zKW:Int) != (0:Int)) (
 lt [(V.sc (.int .u32 (0:Int))),(V.sl 35 ([]:List (List V))),(V.sl 2 ([]:List (List V))),(V.sc (.int .u32 (0:Int)))] fun r53 =>
 chk (0=0∧(List.length r53)=4∧4≠0) (
 k_fin r53 (0:Int) zKW)) (
 lc b82 (
 chk (zK6=0) (
 lt [(V.sc (.int .u32 zK3)),(V.sl 35 ([]:List (List V))),(V.sl 2 zK2),(V.sc (.int .u32 zK4))] fun r57 =>
 chk (0=0∧(List.length r57)=4∧4≠0) (
 k_fin r57 zKZ (0:Int)))) (fun h54 t55 =>
 zdf (h54::t55) fun f56 =>
 lt [(V.sc (.int .u32 zK3)),(V.sl 35 (xi 35 zK6 f56)),(V.sl 2 zK2),(V.sc (.int .u32 zK4))] fun r58 =>
 chk (0=0∧(List.length r58)=4∧4≠0) (
 k_fin r58 zKZ (0:Int)))))
def zkq {β:Type} (zh:yD) (yh:xC) (zi:zD) (yg:zy) (yf:yw) (L:Nat) (p1 p12 p13:Int) (p82l:Nat) (p83 p84 zKH:Int) (zKI zKJ:List (List V)) (zKK zK3:Int) (zK6:Nat) (zK2:List (List V)) (zK4:Int) (zK0:List (List V)) (zKZ zKW:Int) (b82:List V) (k_hbbbbbbbabaabbaabba:zeC β) (k_x6:zrm β):Option β :=
 ifb (decide (p13 > (0:Int))) (
 ifb ((zKW:Int) == (0:Int)) (
 chk (0≤p12∧p12 < ((zK6:Nat):Int)) (
 cG 1 b82 ((0+((Int.toNat p12) * 35))+34) fun g59 =>
 yf β L (520:Int) zK0 zKZ zKW (fun v60 v61 v62 v63 =>
 chk ((List.length g59+List.length (xi 1 1 [(V.sl 1 v60)])) * 24≤zk∧List.length g59+List.length (xi 1 1 [(V.sl 1 v60)])≤zk) (
 lt (g59++(xi 1 1 [(V.sl 1 v60)])) fun l64 =>
 chk (0≤p12∧p12 < ((zK6:Nat):Int)) (
 chk (1=1∧((0+((Int.toNat p12) * 35))+34) < (List.length (List.set b82 ((0+((Int.toNat p12) * 35))+34) (V.sl 1 g59)))) (
 lt (IntKind.wrap .i64 ((p13:Int) - (1:Int))) fun x65 =>
 k_hbbbbbbbabaabbaabba p1 p12 x65 p82l p83 p84 zKH zKI zKJ zKK zK3 zK6 zK2 zK4 v61 v62 v63 (zbv (bl 356811923167403450762135544012445415519550463 148) (List.set (List.set b82 ((0+((Int.toNat p12) * 35))+34) (V.sl 1 g59)) ((0+((Int.toNat p12) * 35))+34) (V.gs 1 l64))))))) (fun v66 v67 v68 v69 =>
 chk ((List.length g59+List.length (xi 1 1 [(V.sl 1 v66)])) * 24≤zk∧List.length g59+List.length (xi 1 1 [(V.sl 1 v66)])≤zk) (
 lt (g59++(xi 1 1 [(V.sl 1 v66)])) fun l70 =>
 chk (0≤p12∧p12 < ((zK6:Nat):Int)) (
 chk (1=1∧((0+((Int.toNat p12) * 35))+34) < (List.length (List.set b82 ((0+((Int.toNat p12) * 35))+34) (V.sl 1 g59)))) (
 lt (IntKind.wrap .i64 ((p13:Int) - (1:Int))) fun x71 =>
 k_hbbbbbbbabaabbaabba p1 p12 x71 p82l p83 p84 zKH zKI zKJ zKK zK3 zK6 zK2 zK4 v67 v68 v69 (zbv (bl 356811923167403450762135544012445415519550463 148) (List.set (List.set b82 ((0+((Int.toNat p12) * 35))+34) (V.sl 1 g59)) ((0+((Int.toNat p12) * 35))+34) (V.gs 1 l70))))))))) (
 k_x6 p1 p82l p83 p84 zKH zKI zKJ zKK zK3 zK6 zK2 zK4 zK0 zKZ zKW (zbv (bl 356811923167403450762135544012445415519542271 148) b82))) (
 k_x6 p1 p82l p83 p84 zKH zKI zKJ zKK zK3 zK6 zK2 zK4 zK0 zKZ zKW (zbv (bl 356811923167403450762135544012445415519542271 148) b82))
def zjI {β:Type} (zh:yD) (yh:xC) (zi:zD) (yg:zy) (yf:yw) (L:Nat) (p1:Int) (p82l:Nat) (p83 p84 zKH:Int) (zKI zKJ:List (List V)) (zKK zK3:Int) (zK6:Nat) (zK2:List (List V)) (zK4:Int) (zK0:List (List V)) (zKZ zKW:Int) (b82:List V) (k_hbbbbbbbaba:zeD β):Option β :=
 lt (IntKind.wrap .i64 ((p84:Int)+(1:Int))) fun x72 =>
 k_hbbbbbbbaba p1 p82l p83 x72 zKH zKI zKJ zKK zK3 zK6 zK2 zK4 zK0 zKZ zKW (zbv (bl 356811923167403450452650534191100346794757119 148) b82)
def zlC {β:Type} (zh:yD) (yh:xC) (zi:zD) (yg:zy) (yf:yw) (L:Nat) (k_x0:zr1 β):Nat→Int→Int→Int→List (List V)→List (List V)→Int→Int→List (List V)→List (List V)→Int→List (List V)→Int→Int→Option β
 | 0,_,_,_,_,_,_,_,_,_,_,_,_,_=>none
 | n+1,p1,p9,zKH,zKI,zKJ,zKK,zK3,zK7,zK2,zK4,zK0,zKZ,zKW=>ztF zh yh zi yg yf L p1 p9 zKH zKI zKJ zKK zK3 zK7 zK2 zK4 zK0 zKZ zKW (fun p1 p9 zKH zKI zKJ zKK zK3 zK7 zK2 zK4 zK0 zKZ zKW=>zlC zh yh zi yg yf L k_x0 n p1 p9 zKH zKI zKJ zKK zK3 zK7 zK2 zK4 zK0 zKZ zKW) k_x0
def zlw {β:Type} (zh:yD) (yh:xC) (zi:zD) (yg:zy) (yf:yw) (L:Nat) (k_x2:zrZ β):Nat→Int→Int→Int→List (List V)→List (List V)→Int→Int→List (List V)→List (List V)→Int→List (List V)→Int→Int→Option β
 | 0,_,_,_,_,_,_,_,_,_,_,_,_,_=>none
 | n+1,p1,p11,zKH,zKI,zKJ,zKK,zK3,zK7,zK2,zK4,zK0,zKZ,zKW=>zsV zh yh zi yg yf L p1 p11 zKH zKI zKJ zKK zK3 zK7 zK2 zK4 zK0 zKZ zKW (fun p1 p11 zKH zKI zKJ zKK zK3 zK7 zK2 zK4 zK0 zKZ zKW=>zlw zh yh zi yg yf L k_x2 n p1 p11 zKH zKI zKJ zKK zK3 zK7 zK2 zK4 zK0 zKZ zKW) k_x2
def zeV {β:Type} (zh:yD) (yh:xC) (zi:zD) (yg:zy) (yf:yw) (L:Nat) (k_x6:zrm β):Nat→Int→Int→Int→Nat→Int→Int→Int→List (List V)→List (List V)→Int→Int→Nat→List (List V)→Int→List (List V)→Int→Int→List V→Option β
 | 0,_,_,_,_,_,_,_,_,_,_,_,_,_,_,_,_,_,_=>none
 | n+1,p1,p12,p13,p82l,p83,p84,zKH,zKI,zKJ,zKK,zK3,zK6,zK2,zK4,zK0,zKZ,zKW,b82=>zkq zh yh zi yg yf L p1 p12 p13 p82l p83 p84 zKH zKI zKJ zKK zK3 zK6 zK2 zK4 zK0 zKZ zKW b82 (fun p1 p12 p13 p82l p83 p84 zKH zKI zKJ zKK zK3 zK6 zK2 zK4 zK0 zKZ zKW b82=>zeV zh yh zi yg yf L k_x6 n p1 p12 p13 p82l p83 p84 zKH zKI zKJ zKK zK3 zK6 zK2 zK4 zK0 zKZ zKW b82) k_x6
def zpn {β:Type} (zh:yD) (yh:xC) (zi:zD) (yg:zy) (yf:yw) (L:Nat) (p1:Int) (p82l:Nat) (p83 p84 zKH:Int) (zKI zKJ:List (List V)) (zKK zK3:Int) (zK6:Nat) (zK2:List (List V)) (zK4:Int) (zK0:List (List V)) (zKZ zKW:Int) (b82:List V) (k_x4:zlS β) (k_hbbbbbbbaba:zeD β):Option β :=
 zqj zh yh zi yg yf L p1 p82l p83 p84 zKH zKI zKJ zKK zK3 zK6 zK2 zK4 zK0 zKZ zKW b82 (fun p1 p12 p13 p82l p83 p84 zKH zKI zKJ zKK zK3 zK6 zK2 zK4 zK0 zKZ zKW b82=>zeV zh yh zi yg yf L (fun p1 p82l p83 p84 zKH zKI zKJ zKK zK3 zK6 zK2 zK4 zK0 zKZ zKW b82=>zjI zh yh zi yg yf L p1 p82l p83 p84 zKH zKI zKJ zKK zK3 zK6 zK2 zK4 zK0 zKZ zKW b82 k_hbbbbbbbaba) L p1 p12 p13 p82l p83 p84 zKH zKI zKJ zKK zK3 zK6 zK2 zK4 zK0 zKZ zKW b82) k_x4
def ziG {β:Type} (zh:yD) (yh:xC) (zi:zD) (yg:zy) (yf:yw) (L:Nat) (k_x4:zlS β):Nat→Int→Nat→Int→Int→Int→List (List V)→List (List V)→Int→Int→Nat→List (List V)→Int→List (List V)→Int→Int→List V→Option β
 | 0,_,_,_,_,_,_,_,_,_,_,_,_,_,_,_,_=>none
 | n+1,p1,p82l,p83,p84,zKH,zKI,zKJ,zKK,zK3,zK6,zK2,zK4,zK0,zKZ,zKW,b82=>zpn zh yh zi yg yf L p1 p82l p83 p84 zKH zKI zKJ zKK zK3 zK6 zK2 zK4 zK0 zKZ zKW b82 k_x4 (fun p1 p82l p83 p84 zKH zKI zKJ zKK zK3 zK6 zK2 zK4 zK0 zKZ zKW b82=>ziG zh yh zi yg yf L k_x4 n p1 p82l p83 p84 zKH zKI zKJ zKK zK3 zK6 zK2 zK4 zK0 zKZ zKW b82)
def zpm {β:Type} (zh:yD) (yh:xC) (zi:zD) (yg:zy) (yf:yw) (L:Nat) (p1 zKH:Int) (zKI zKJ:List (List V)) (zKK zK3:Int) (zK7 zK2:List (List V)) (zK4:Int) (zK0:List (List V)) (zKZ zKW:Int) (k_fin:List V→Int→Int→Option β):Option β :=
 zqp zh yh zi yg yf L p1 zKH zKI zKJ zKK zK3 zK7 zK2 zK4 zK0 zKZ zKW (fun p1 p82l p83 p84 zKH zKI zKJ zKK zK3 zK6 zK2 zK4 zK0 zKZ zKW b82=>ziG zh yh zi yg yf L (fun p1 p82l zKH zKI zKJ zKK zK3 zK6 zK2 zK4 zK0 zKZ zKW b82=>zoH zh yh zi yg yf L p1 p82l zKH zKI zKJ zKK zK3 zK6 zK2 zK4 zK0 zKZ zKW b82 k_fin) L p1 p82l p83 p84 zKH zKI zKJ zKK zK3 zK6 zK2 zK4 zK0 zKZ zKW b82)
def zp8 {β:Type} (zh:yD) (yh:xC) (zi:zD) (yg:zy) (yf:yw) (L:Nat) (p1 zKH:Int) (zKI zKJ:List (List V)) (zKK zK3:Int) (zK7 zK2:List (List V)) (zK4:Int) (zK0:List (List V)) (zKZ zKW:Int) (k_fin:List V→Int→Int→Option β):Option β :=
 zrn zh yh zi yg yf L p1 zKH zKI zKJ zKK zK3 zK7 zK2 zK4 zK0 zKZ zKW (fun p1 p11 zKH zKI zKJ zKK zK3 zK7 zK2 zK4 zK0 zKZ zKW=>zlw zh yh zi yg yf L (fun p1 zKH zKI zKJ zKK zK3 zK7 zK2 zK4 zK0 zKZ zKW=>zpm zh yh zi yg yf L p1 zKH zKI zKJ zKK zK3 zK7 zK2 zK4 zK0 zKZ zKW k_fin) L p1 p11 zKH zKI zKJ zKK zK3 zK7 zK2 zK4 zK0 zKZ zKW)
def zCj {β:Type} (zh:yD) (yh:xC) (zi:zD) (yg:zy) (yf:yw) (L:Nat) (p0:List (List V)) (p1:Int) (k_fin:List V→Int→Int→Option β):Option β :=
 zBh zh yh zi yg yf L p0 p1 k_fin (fun p1 p9 zKH zKI zKJ zKK zK3 zK7 zK2 zK4 zK0 zKZ zKW=>zlC zh yh zi yg yf L (fun p1 zKH zKI zKJ zKK zK3 zK7 zK2 zK4 zK0 zKZ zKW=>zp8 zh yh zi yg yf L p1 zKH zKI zKJ zKK zK3 zK7 zK2 zK4 zK0 zKZ zKW k_fin) L p1 p9 zKH zKI zKJ zKK zK3 zK7 zK2 zK4 zK0 zKZ zKW)
abbrev zhw:=∀ (β:Type),Nat→List (List V)→Int→(List V→Int→Int→Option β)→Option β
def za6 (β:Type) (L:Nat) (p0:List (List V)) (p1:Int) (k_fin:List V→Int→Int→Option β):Option β:=zCj zh yh zi yg yf L p0 p1 k_fin
def zus (za6:zhw) (L:Nat) (β:Type) (args:List V) (bor:Bor) (k:KK β):Option β:=match args,bor with
 | [a0,a1],[]=>aL 1 a0 fun p0=>aI .i64 a1 fun p1=>za6 β L p0 p1 (fun zKX zKY zK1=>k (V.tup [(V.agg zKX),(V.sc (.int .i64 zKY)),(V.sc (.int .i64 zK1))]) [])
 | _,_=>none
def zkH:CF:=⟨19,[.tmp 4],
 (.seq (.reg [oo 4 (.move (.const (.sc (.int .i64 0))) false)])
 (.seq (.block 0 (.seq (.reg [oo 6 (.move (tq 1) false),
   oo 7 (.bin .lss (tq 6) (.const (.sc (.int .i64 0)))),
   oo 8 (.move (tq 7) false),
   ⟨(some 9),false,(some (8,false)),.move (tq 1) false⟩,
   ⟨(some 10),false,(some (8,false)),.move (tq 0) false⟩,
   ⟨(some 11),false,(some (8,false)),.lenS (tq 10)⟩,
   ⟨(some 12),false,(some (8,false)),.bin .gtr (tq 9) (tq 11)⟩,
   oo 13 (.pick (tq 8) (.const (.sc (.bool true))) (tq 12)),
   oo 5 (.move (tq 13) false)])
 (.cond (tq 5)
 (.seq (.reg [oo 4 (.move (.const (.sc (.int .i64 5))) false)])
 .ret)
 (.seq (.reg [oo 15 (.move (tq 1) false),
   oo 16 (.move (tq 0) false),
   oo 17 (.lenS (tq 16)),
   oo 18 (.bin .lss (tq 15) (tq 17)),
   oo 14 (.move (tq 18) false)])
 (.cond (tq 14)
 (.seq (.reg [oo 4 (.move (.const (.sc (.int .i64 2))) false)])
 .ret)
 .skip)))))
 (.seq (.reg [oo 4 (.move (.const (.sc (.int .i64 0))) false)])
 .ret)))⟩
def zrI:Hint:=⟨[],[],[none,none,none,none,none,none],[],[],false,false,[]⟩
def zoI:Nat→Sh:=yL []
def zop (L:Nat):CBC:=noC
def zi7 {β:Type} (L:Nat) (p0:List (List V)) (p1:Int) (k_fin:Int→Option β):Option β :=
 ifb (decide (p1 < (0:Int))) (
 k_fin (5:Int)) (
 ifb (decide (p1 > ((List.length p0:Nat):Int))) (
 k_fin (5:Int)) (
 ifb (decide (p1 < ((List.length p0:Nat):Int))) (
 k_fin (2:Int)) (
 k_fin (0:Int))))
theorem zyz {β:Type} (L:Nat) (p0:List (List V)) (p1:Int) (k:KK β):xv zoI (zop L) L zkH [(V.sl 1 p0),(V.sc (.int .i64 p1))] [] k=zi7 L p0 p1 (fun p0=>k (V.sc (.int .i64 p0)) []):=by kernel_rfl
abbrev zmE:=∀ (β:Type),Nat→List (List V)→Int→(Int→Option β)→Option β
def zU (β:Type) (L:Nat) (p0:List (List V)) (p1:Int) (k_fin:Int→Option β):Option β:=zi7 L p0 p1 k_fin
def zmB (zU:zmE) (L:Nat) (β:Type) (args:List V) (bor:Bor) (k:KK β):Option β:=match args,bor with
 | [a0,a1],[]=>aL 1 a0 fun p0=>aI .i64 a1 fun p1=>zU β L p0 p1 (fun p0=>k (V.sc (.int .i64 p0)) [])
 | _,_=>none
theorem zzk (L:Nat) (β:Type) (args:List V) (bor:Bor) (k:KK β) (r:β) (h:zmB zU L β args bor k=some r):xv zoI (zop L) L zkH args bor k=some r:=by
 unfold zmB at h
 split at h
 ·have q:=xU h; clear h; obtain ⟨p0,rfl,h⟩:=q
  have q:=zI h; clear h; obtain ⟨p1,rfl,h⟩:=q
  exact (zyz L p0 p1 k).trans h
 ·cases h
def zkk:CF:=⟨23,[.cell 2 true 4,.tmp 3],
 (.seq (.reg [oo 2 (.alloc true [(.sc (.int .u32 0)),(.gs 35 []),(.gs 2 []),(.sc (.int .u32 0))]),
   oo 3 (.move (.const (.sc (.int .i64 0))) false)])
 (.seq (.reg [oo 8 (.move (tq 0) false),
   oo 9 (.call 139 [((tq 8),0),((.const (.sc (.int .i64 0))),0)] []),
   oo 7 (.move (tq 9) true),
   oo 10 (.pull (tq 7) 0),
   oo 11 (.pull (tq 7) 1),
   oo 12 (.pull (tq 7) 2),
   oo 4 (.alloc true [(.sc (.int .u32 0)),(.gs 35 []),(.gs 2 []),(.sc (.int .u32 0))]),
   oz (.store 4 (tq 4) (tq 10)),
   oo 5 (.move (tq 11) false),
   oo 6 (.move (tq 12) false)])
 (.seq (.seq (.reg [oo 13 (.move (tq 6) false),
   oo 14 (.bin .eql (tq 13) (.const (.sc (.int .i64 0))))])
 (.cond (tq 14)
 (.reg [oo 15 (.move (tq 0) false),
   oo 16 (.move (tq 5) false),
   oo 17 (.call 179 [((tq 15),0),((tq 16),0)] []),
   oo 6 (.move (tq 17) false)])
 .skip))
 (.seq (.seq (.reg [oo 18 (.move (tq 6) false),
   oo 19 (.bin .neq (tq 18) (.const (.sc (.int .i64 0))))])
 (.cond (tq 19)
 (.seq (.reg [oo 20 (.build [(.sc (.int .u32 0)),(.sl 35 []),(.sl 2 []),(.sc (.int .u32 0))] []),
   oo 21 (.move (tq 6) false),
   oz (.store 4 (tq 2) (tq 20)),
   oo 3 (.move (tq 21) false)])
 .ret)
 .skip))
 (.seq (.reg [oo 22 (.load true 4 (tq 4) false),
   oz (.store 4 (tq 2) (tq 22)),
   oo 3 (.move (.const (.sc (.int .i64 0))) false)])
 .ret)))))⟩
def zrM:Hint:=⟨[(0,0),(1,2),(1,6)],[],[none,none,none,none],[],[],false,false,[]⟩
def zoG:Nat→Sh:=yL []
def zo1 (zad:zjX) (zU:zmE) (L:Nat):CBC:=(zt 179 (zmB zU L) (zt 139 (zmU zad L) noC))
def ziX {β:Type} (zad:zjX) (zU:zmE) (L:Nat) (p0:List (List V)) (k_fin:List V→Int→Option β):Option β :=
 zad β L p0 (0:Int) (fun v0 v1 v2 =>
 chk ((List.length v0)=4∧0+4≤4) (
 lt (zl [(V.sc (.int .u32 (0:Int))),(V.gs 35 ([]:List (List V))),(V.gs 2 ([]:List (List V))),(V.sc (.int .u32 (0:Int)))] 0 v0) fun r3 =>
 ifb ((v2:Int) == (0:Int)) (
 zU β L p0 v1 (fun v4 =>
 ifb ((v4:Int) != (0:Int)) (
 lt [(V.sc (.int .u32 (0:Int))),(V.sl 35 ([]:List (List V))),(V.sl 2 ([]:List (List V))),(V.sc (.int .u32 (0:Int)))] fun r5 =>
 chk (0=0∧(List.length r5)=4∧4≠0) (
 k_fin r5 v4)) (
 chk (0+4≤(List.length r3)) (
 chk ((List.length (List.take 4 r3))=4∧0+4≤4) (
 lt (zl [(V.sc (.int .u32 (0:Int))),(V.gs 35 ([]:List (List V))),(V.gs 2 ([]:List (List V))),(V.sc (.int .u32 (0:Int)))] 0 (List.take 4 r3)) fun r6 =>
 chk (0=0∧(List.length r6)=4∧4≠0) (
 k_fin r6 (0:Int))))))) (
 ifb ((v2:Int) != (0:Int)) (
 lt [(V.sc (.int .u32 (0:Int))),(V.sl 35 ([]:List (List V))),(V.sl 2 ([]:List (List V))),(V.sc (.int .u32 (0:Int)))] fun r7 =>
 chk (0=0∧(List.length r7)=4∧4≠0) (
 k_fin r7 v2)) (
 chk (0+4≤(List.length r3)) (
 chk ((List.length (List.take 4 r3))=4∧0+4≤4) (
 lt (zl [(V.sc (.int .u32 (0:Int))),(V.gs 35 ([]:List (List V))),(V.gs 2 ([]:List (List V))),(V.sc (.int .u32 (0:Int)))] 0 (List.take 4 r3)) fun r8 =>
 chk (0=0∧(List.length r8)=4∧4≠0) (
 k_fin r8 (0:Int))))))))
theorem zy0 {β:Type} (zad:zjX) (zU:zmE) (L:Nat) (p0:List (List V)) (k:KK β):xv zoG (zo1 zad zU L) L zkk [(V.sl 1 p0)] [] k=ziX zad zU L p0 (fun zKX zKY=>k (V.tup [(V.agg zKX),(V.sc (.int .i64 zKY))]) []):=by kernel_rfl
abbrev zgu:=∀ (β:Type),Nat→List (List V)→(List V→Int→Option β)→Option β
def yK (β:Type) (L:Nat) (p0:List (List V)) (k_fin:List V→Int→Option β):Option β:=ziX zad zU L p0 k_fin
def zja (yK:zgu) (L:Nat) (β:Type) (args:List V) (bor:Bor) (k:KK β):Option β:=match args,bor with
 | [a0],[]=>aL 1 a0 fun p0=>yK β L p0 (fun zKX zKY=>k (V.tup [(V.agg zKX),(V.sc (.int .i64 zKY))]) [])
 | _,_=>none
theorem zzf (L:Nat) (β:Type) (args:List V) (bor:Bor) (k:KK β) (r:β) (h:zja yK L β args bor k=some r):xv zoG (zo1 zad zU L) L zkk args bor k=some r:=by
 unfold zja at h
 split at h
 ·have q:=xU h; clear h; obtain ⟨p0,rfl,h⟩:=q
  exact (zy0 zad zU L p0 k).trans h
 ·cases h
def zvh:CF:=⟨19,[.tmp 4],
 (.seq (.reg [oo 4 (.move (.const (.sc (.int .i64 0))) false)])
 (.seq (.block 0 (.seq (.reg [oo 6 (.move (tq 1) false),
   oo 7 (.bin .lss (tq 6) (.const (.sc (.int .i64 0)))),
   oo 8 (.move (tq 7) false),
   ⟨(some 9),false,(some (8,false)),.move (tq 1) false⟩,
   ⟨(some 10),false,(some (8,false)),.move (tq 0) false⟩,
   ⟨(some 11),false,(some (8,false)),.lenS (tq 10)⟩,
   ⟨(some 12),false,(some (8,false)),.bin .gtr (tq 9) (tq 11)⟩,
   oo 13 (.pick (tq 8) (.const (.sc (.bool true))) (tq 12)),
   oo 5 (.move (tq 13) false)])
 (.cond (tq 5)
 (.seq (.reg [oo 4 (.move (.const (.sc (.int .i64 5))) false)])
 .ret)
 (.seq (.reg [oo 15 (.move (tq 1) false),
   oo 16 (.move (tq 0) false),
   oo 17 (.lenS (tq 16)),
   oo 18 (.bin .lss (tq 15) (tq 17)),
   oo 14 (.move (tq 18) false)])
 (.cond (tq 14)
 (.seq (.reg [oo 4 (.move (.const (.sc (.int .i64 2))) false)])
 .ret)
 .skip)))))
 (.seq (.reg [oo 4 (.move (.const (.sc (.int .i64 0))) false)])
 .ret)))⟩
def zrk:Hint:=⟨[],[],[none,none,none,none,none,none],[],[],false,false,[]⟩
def zJx:Nat→Sh:=yL []
def zI7 (L:Nat):CBC:=noC
def zwl {β:Type} (L:Nat) (p0:List (List V)) (p1:Int) (k_fin:Int→Option β):Option β :=
 ifb (decide (p1 < (0:Int))) (
 k_fin (5:Int)) (
 ifb (decide (p1 > ((List.length p0:Nat):Int))) (
 k_fin (5:Int)) (
 ifb (decide (p1 < ((List.length p0:Nat):Int))) (
 k_fin (2:Int)) (
 k_fin (0:Int))))
abbrev zqf:=∀ (β:Type),Nat→List (List V)→Int→(Int→Option β)→Option β
def zc2 (β:Type) (L:Nat) (p0:List (List V)) (p1:Int) (k_fin:Int→Option β):Option β:=zwl L p0 p1 k_fin
def zCU (zc2:zqf) (L:Nat) (β:Type) (args:List V) (bor:Bor) (k:KK β):Option β:=match args,bor with
 | [a0,a1],[]=>aL 1 a0 fun p0=>aI .i64 a1 fun p1=>zc2 β L p0 p1 (fun p0=>k (V.sc (.int .i64 p0)) [])
 | _,_=>none
def zp1:CF:=⟨23,[.cell 2 true 4,.tmp 3],
 (.seq (.reg [oo 2 (.alloc true [(.sc (.int .u32 0)),(.gs 35 []),(.gs 2 []),(.sc (.int .u32 0))]),
   oo 3 (.move (.const (.sc (.int .i64 0))) false)])
 (.seq (.reg [oo 8 (.move (tq 0) false),
   oo 9 (.call 140 [((tq 8),0),((.const (.sc (.int .i64 0))),0)] []),
   oo 7 (.move (tq 9) true),
   oo 10 (.pull (tq 7) 0),
   oo 11 (.pull (tq 7) 1),
   oo 12 (.pull (tq 7) 2),
   oo 4 (.alloc true [(.sc (.int .u32 0)),(.gs 35 []),(.gs 2 []),(.sc (.int .u32 0))]),
   oz (.store 4 (tq 4) (tq 10)),
   oo 5 (.move (tq 11) false),
   oo 6 (.move (tq 12) false)])
 (.seq (.seq (.reg [oo 13 (.move (tq 6) false),
   oo 14 (.bin .eql (tq 13) (.const (.sc (.int .i64 0))))])
 (.cond (tq 14)
 (.reg [oo 15 (.move (tq 0) false),
   oo 16 (.move (tq 5) false),
   oo 17 (.call 180 [((tq 15),0),((tq 16),0)] []),
   oo 6 (.move (tq 17) false)])
 .skip))
 (.seq (.seq (.reg [oo 18 (.move (tq 6) false),
   oo 19 (.bin .neq (tq 18) (.const (.sc (.int .i64 0))))])
 (.cond (tq 19)
 (.seq (.reg [oo 20 (.build [(.sc (.int .u32 0)),(.sl 35 []),(.sl 2 []),(.sc (.int .u32 0))] []),
   oo 21 (.move (tq 6) false),
   oz (.store 4 (tq 2) (tq 20)),
   oo 3 (.move (tq 21) false)])
 .ret)
 .skip))
 (.seq (.reg [oo 22 (.load true 4 (tq 4) false),
   oz (.store 4 (tq 2) (tq 22)),
   oo 3 (.move (.const (.sc (.int .i64 0))) false)])
 .ret)))))⟩
def znK:Hint:=⟨[(0,0),(1,2),(1,6)],[],[none,none,none,none],[],[],false,false,[]⟩
def zHG:Nat→Sh:=yL []
def zHP (za6:zhw) (zc2:zqf) (L:Nat):CBC:=(zt 180 (zCU zc2 L) (zt 140 (zus za6 L) noC))
def zzo {β:Type} (za6:zhw) (zc2:zqf) (L:Nat) (p0:List (List V)) (k_fin:List V→Int→Option β):Option β :=
 za6 β L p0 (0:Int) (fun v0 v1 v2 =>
 chk ((List.length v0)=4∧0+4≤4) (
 lt (zl [(V.sc (.int .u32 (0:Int))),(V.gs 35 ([]:List (List V))),(V.gs 2 ([]:List (List V))),(V.sc (.int .u32 (0:Int)))] 0 v0) fun r3 =>
 ifb ((v2:Int) == (0:Int)) (
 zc2 β L p0 v1 (fun v4 =>
 ifb ((v4:Int) != (0:Int)) (
 lt [(V.sc (.int .u32 (0:Int))),(V.sl 35 ([]:List (List V))),(V.sl 2 ([]:List (List V))),(V.sc (.int .u32 (0:Int)))] fun r5 =>
 chk (0=0∧(List.length r5)=4∧4≠0) (
 k_fin r5 v4)) (
 chk (0+4≤(List.length r3)) (
 chk ((List.length (List.take 4 r3))=4∧0+4≤4) (
 lt (zl [(V.sc (.int .u32 (0:Int))),(V.gs 35 ([]:List (List V))),(V.gs 2 ([]:List (List V))),(V.sc (.int .u32 (0:Int)))] 0 (List.take 4 r3)) fun r6 =>
 chk (0=0∧(List.length r6)=4∧4≠0) (
 k_fin r6 (0:Int))))))) (
 ifb ((v2:Int) != (0:Int)) (
 lt [(V.sc (.int .u32 (0:Int))),(V.sl 35 ([]:List (List V))),(V.sl 2 ([]:List (List V))),(V.sc (.int .u32 (0:Int)))] fun r7 =>
 chk (0=0∧(List.length r7)=4∧4≠0) (
 k_fin r7 v2)) (
 chk (0+4≤(List.length r3)) (
 chk ((List.length (List.take 4 r3))=4∧0+4≤4) (
 lt (zl [(V.sc (.int .u32 (0:Int))),(V.gs 35 ([]:List (List V))),(V.gs 2 ([]:List (List V))),(V.sc (.int .u32 (0:Int)))] 0 (List.take 4 r3)) fun r8 =>
 chk (0=0∧(List.length r8)=4∧4≠0) (
 k_fin r8 (0:Int))))))))
abbrev zlX:=∀ (β:Type),Nat→List (List V)→(List V→Int→Option β)→Option β
def zcP (β:Type) (L:Nat) (p0:List (List V)) (k_fin:List V→Int→Option β):Option β:=zzo za6 zc2 L p0 k_fin
def zy6 (zcP:zlX) (L:Nat) (β:Type) (args:List V) (bor:Bor) (k:KK β):Option β:=match args,bor with
 | [a0],[]=>aL 1 a0 fun p0=>zcP β L p0 (fun zKX zKY=>k (V.tup [(V.agg zKX),(V.sc (.int .i64 zKY))]) [])
 | _,_=>none
def zjp:CF:=⟨10,[.tmp 4],
 (.seq (.reg [oo 4 (.move (.const (.sc (.bool false))) false)])
 (.seq (.reg [oo 5 (.move (tq 0) false),
   oo 6 (.toStr (tq 5)),
   oo 7 (.move (tq 1) false),
   oo 8 (.toStr (tq 7)),
   oo 9 (.bin .eql (tq 6) (tq 8)),
   oo 4 (.move (tq 9) false)])
 .ret))⟩
def zpG:Hint:=⟨[],[],[none],[],[],false,false,[]⟩
def znn:Nat→Sh:=yL []
def znb (L:Nat):CBC:=noC
def zom {β:Type} (L:Nat) (p0 p1:List (List V)) (k_fin:Bool→Option β):Option β :=
 zyL p0 fun v0 =>
 zyL p1 fun v1 =>
 k_fin (ByteArray.toList v0 == ByteArray.toList v1)
theorem zxT {β:Type} (L:Nat) (p0 p1:List (List V)) (k:KK β):xv znn (znb L) L zjp [(V.sl 1 p0),(V.sl 1 p1)] [] k=zom L p0 p1 (fun p0=>k (V.sc (.bool p0)) []):=by kernel_rfl
abbrev xt:=∀ (β:Type),Nat→List (List V)→List (List V)→(Bool→Option β)→Option β
def xd (β:Type) (L:Nat) (p0 p1:List (List V)) (k_fin:Bool→Option β):Option β:=zom L p0 p1 k_fin
def zfG (xd:xt) (L:Nat) (β:Type) (args:List V) (bor:Bor) (k:KK β):Option β:=match args,bor with
 | [a0,a1],[]=>aL 1 a0 fun p0=>aL 1 a1 fun p1=>xd β L p0 p1 (fun p0=>k (V.sc (.bool p0)) [])
 | _,_=>none
theorem zyo (L:Nat) (β:Type) (args:List V) (bor:Bor) (k:KK β) (r:β) (h:zfG xd L β args bor k=some r):xv znn (znb L) L zjp args bor k=some r:=by
 unfold zfG at h
 split at h
 ·have q:=xU h; clear h; obtain ⟨p0,rfl,h⟩:=q
  have q:=xU h; clear h; obtain ⟨p1,rfl,h⟩:=q
  exact (zxT L p0 p1 k).trans h
 ·cases h
def zgl:CF:=⟨17,[.tmp 4],
 (.seq (.reg [oo 2 (.box true (tq 0)),
   oo 3 (.box true (tq 1)),
   oo 4 (.move (.const (.sc (.bool false))) false)])
 (.seq (.reg [oo 5 (.fieldAddr 0 (tq 2)),
   oo 6 (.load false 1 (tq 5) false),
   oo 7 (.fieldAddr 0 (tq 3)),
   oo 8 (.load false 1 (tq 7) false),
   oo 9 (.bin .eql (tq 6) (tq 8)),
   oo 10 (.move (tq 9) false),
   ⟨(some 11),false,(some (10,true)),.fieldAddr 1 (tq 2)⟩,
   ⟨(some 12),false,(some (10,true)),.load false 1 (tq 11) false⟩,
   ⟨(some 13),false,(some (10,true)),.fieldAddr 1 (tq 3)⟩,
   ⟨(some 14),false,(some (10,true)),.load false 1 (tq 13) false⟩,
   ⟨(some 15),false,(some (10,true)),.call 130 [((tq 12),0),((tq 14),0)] []⟩,
   oo 16 (.pick (tq 10) (tq 15) (.const (.sc (.bool false)))),
   oo 4 (.move (tq 16) false)])
 .ret))⟩
def zmI:Hint:=⟨[(0,0),(0,1)],[],[none],[],[],false,false,[]⟩
def zjE:Nat→Sh:=yL [(6,(.int .i64)),(8,(.int .i64)),(12,(.sl 1)),(14,(.sl 1))]
def zjF (xd:xt) (L:Nat):CBC:=(zt 130 (zfG xd L) noC)
def zk2 {β:Type} (xd:xt) (L:Nat) (p0 p1:List V) (k_fin:Bool→Option β):Option β :=
 cI .i64 p0 0 fun v0 =>
 cI .i64 p1 0 fun v1 =>
 ifb ((v0:Int) == v1) (
 cLd 1 p0 1 fun v2 =>
 cLd 1 p1 1 fun v3 =>
 xd β L v2 v3 (fun v4 =>
 k_fin v4)) (
 k_fin false)
theorem zu4 {β:Type} (xd:xt) (L:Nat) (p0 p1:List V) (k:KK β):xv zjE (zjF xd L) L zgl [(V.agg p0),(V.agg p1)] [] k=zk2 xd L p0 p1 (fun p0=>k (V.sc (.bool p0)) []):=by kernel_rfl
abbrev zr:=∀ (β:Type),Nat→List V→List V→(Bool→Option β)→Option β
def yd (β:Type) (L:Nat) (p0 p1:List V) (k_fin:Bool→Option β):Option β:=zk2 xd L p0 p1 k_fin
def zgQ (yd:zr) (L:Nat) (β:Type) (args:List V) (bor:Bor) (k:KK β):Option β:=match args,bor with
 | [a0,a1],[]=>aG a0 fun p0=>aG a1 fun p1=>yd β L p0 p1 (fun p0=>k (V.sc (.bool p0)) [])
 | _,_=>none
theorem zuS (L:Nat) (β:Type) (args:List V) (bor:Bor) (k:KK β) (r:β) (h:zgQ yd L β args bor k=some r):xv zjE (zjF xd L) L zgl args bor k=some r:=by
 unfold zgQ at h
 split at h
 ·have q:=zec h; clear h; obtain ⟨p0,rfl,h⟩:=q
  have q:=zec h; clear h; obtain ⟨p1,rfl,h⟩:=q
  exact (zu4 xd L p0 p1 k).trans h
 ·cases h
def zau:CC:=(.seq (.reg [oo 81 (.bin .lss (tq 80) (tq 79))])
 (.seq (.cond (tq 81)
 .skip
 (.seq (.mask (bl 13194139533324 116) (bl 83076739833036927773445742074527279 116))
 (.exit 2)))
 (.seq (.block 3 (.seq (.reg [oo 82 (.move (tq 80) false),
   oo 8 (.move (tq 82) false)])
 (.seq (.dreg [] [(oo 83 (.fieldAddr 34 (tq 6)),q0),
   (oo 84 (.load false 1 (tq 83) false),ql 6 [7] []),
   (oo 85 (.move (tq 8) false),q0),
   (oo 86 (.indexAddrS 1 (tq 84) (tq 85)),q0),
   (oo 87 (.load false 1 (tq 86) false),qc [7] []),
   (oo 88 (.fieldAddr 34 (tq 7)),q0),
   (oo 89 (.load false 1 (tq 88) false),ql 7 [6] []),
   (oo 90 (.move (tq 8) false),q0),
   (oo 91 (.indexAddrS 1 (tq 89) (tq 90)),q0),
   (oo 92 (.load false 1 (tq 91) false),qc [6] []),
   (oo 93 (.call 130 [((tq 87),0),((tq 92),0)] []),q0),
   (oo 94 (.un .not (tq 93)),q0)])
 (.cond (tq 94)
 (.seq (.reg [oo 4 (.move (.const (.sc (.bool false))) false)])
 (.seq (.mask (bl 16 116) (bl 83076739832411214214465514083712531 116))
 .ret))
 .skip))))
 (.reg [oo 95 (.bin .add (tq 80) (.const (.sc (.int .i64 1)))),
   oo 80 (.move (tq 95) false)]))))
def zcA:CC:=(.reg [oo 96 (.bin .add (tq 43) (.const (.sc (.int .i64 1)))),
   oo 43 (.move (tq 96) false)])
def zb9:CC:=(.seq (.reg [oo 101 (.bin .lss (tq 100) (tq 99))])
 (.seq (.cond (tq 101)
 .skip
 (.seq (.mask (bl 0 116) (bl 72692156019487586799426948609080611 116))
 (.exit 4)))
 (.seq (.block 5 (.seq (.reg [oo 102 (.move (tq 100) false),
   oo 9 (.move (tq 102) false)])
 (.seq (.dreg [] [(oo 103 (.fieldAddr 2 (tq 2)),q0),
   (oo 104 (.load false 1 (tq 103) false),ql 2 [3] []),
   (oo 105 (.move (tq 9) false),q0),
   (oo 106 (.indexAddrS 2 (tq 104) (tq 105)),q0),
   (oo 107 (.load true 2 (tq 106) false),qc [3] []),
   (oo 108 (.fieldAddr 2 (tq 3)),q0),
   (oo 109 (.load false 1 (tq 108) false),ql 3 [2] []),
   (oo 110 (.move (tq 9) false),q0),
   (oo 111 (.indexAddrS 2 (tq 109) (tq 110)),q0),
   (oo 112 (.load true 2 (tq 111) false),qc [2] []),
   (oo 113 (.call 181 [((tq 107),1),((tq 112),1)] []),q0),
   (oo 114 (.un .not (tq 113)),q0)])
 (.cond (tq 114)
 (.seq (.reg [oo 4 (.move (.const (.sc (.bool false))) false)])
 (.seq (.mask (bl 16 116) (bl 72692156019487586799426948609080627 116))
 .ret))
 .skip))))
 (.reg [oo 115 (.bin .add (tq 100) (.const (.sc (.int .i64 1)))),
   oo 100 (.move (tq 115) false)]))))
def zbG:CC:=(.seq (.reg [oo 44 (.bin .lss (tq 43) (tq 42))])
 (.seq (.cond (tq 44)
 .skip
 (.seq (.mask (bl 12 116) (bl 83076739832411214214465514083712527 116))
 (.exit 0)))
 (.seq (.block 1 (.seq (.reg [oo 45 (.move (tq 43) false),
   oo 5 (.move (tq 45) false)])
 (.seq (.dreg [] [(oo 46 (.fieldAddr 1 (tq 2)),q0),
   (oo 47 (.load false 1 (tq 46) false),ql 2 [3] [6,7]),
   (oo 48 (.move (tq 5) false),q0),
   (oo 49 (.indexAddrS 35 (tq 47) (tq 48)),q0),
   (oo 50 (.load true 35 (tq 49) false),qc [3] [6,7]),
   (oo 51 (.fieldAddr 1 (tq 3)),q0),
   (oo 52 (.load false 1 (tq 51) false),ql 3 [2] [6,7]),
   (oo 53 (.move (tq 5) false),q0),
   (oo 54 (.indexAddrS 35 (tq 52) (tq 53)),q0),
   (oo 55 (.load true 35 (tq 54) false),qc [2] [6,7]),
   (oo 6 (.alloc true (rp 32 (.sc (.int .u8 0)) (rp 2 (.sc (.int .u32 0)) (rp 1 (.gs 1 []) [])))),qn [2,3] [7]),
   (oo 7 (.alloc true (rp 32 (.sc (.int .u8 0)) (rp 2 (.sc (.int .u32 0)) (rp 1 (.gs 1 []) [])))),qn [2,3] [6]),
   (oz (.store 35 (tq 6) (tq 50)),qn [3] []),
   (oz (.store 35 (tq 7) (tq 55)),q0)])
 (.seq (.seq (.reg [oo 56 (.fieldAddr 0 (tq 6)),
   oo 57 (.load true 33 (tq 56) false),
   oo 58 (.fieldAddr 0 (tq 7)),
   oo 59 (.load true 33 (tq 58) false),
   oo 60 (.eqAgg true 33 (tq 57) (tq 59)),
   oo 61 (.move (tq 60) false),
   ⟨(some 62),false,(some (61,false)),.fieldAddr 33 (tq 6)⟩,
   ⟨(some 63),false,(some (61,false)),.load false 1 (tq 62) false⟩,
   ⟨(some 64),false,(some (61,false)),.fieldAddr 33 (tq 7)⟩,
   ⟨(some 65),false,(some (61,false)),.load false 1 (tq 64) false⟩,
   ⟨(some 66),false,(some (61,false)),.bin .neq (tq 63) (tq 65)⟩,
   oo 67 (.pick (tq 61) (.const (.sc (.bool true))) (tq 66)),
   oo 68 (.move (tq 67) false),
   ⟨(some 69),false,(some (68,false)),.fieldAddr 34 (tq 6)⟩,
   ⟨(some 70),false,(some (68,false)),.load false 1 (tq 69) false⟩,
   ⟨(some 71),false,(some (68,false)),.lenS (tq 70)⟩,
   ⟨(some 72),false,(some (68,false)),.fieldAddr 34 (tq 7)⟩,
   ⟨(some 73),false,(some (68,false)),.load false 1 (tq 72) false⟩,
   ⟨(some 74),false,(some (68,false)),.lenS (tq 73)⟩,
   ⟨(some 75),false,(some (68,false)),.bin .neq (tq 71) (tq 74)⟩,
   oo 76 (.pick (tq 68) (.const (.sc (.bool true))) (tq 75))])
 (.cond (tq 76)
 (.seq (.reg [oo 4 (.move (.const (.sc (.bool false))) false)])
 (.seq (.mask (bl 16 116) (bl 83076739832411214214465514083712531 116))
 .ret))
 .skip))
 (.seq (.reg [oo 77 (.fieldAddr 34 (tq 6)),
   oo 78 (.load false 1 (tq 77) false),
   oo 79 (.lenS (tq 78)),
   oo 80 (.move (.const (.sc (.int .i64 0))) false)])
 (.block 2 (.loop (bl 1813388729435137901592780 116) (bl 83076739833036927773445742074527471 116)
 zau)))))))
 zcA)))
def ze8:CC:=(.seq (.reg [oo 4 (.move (.const (.sc (.bool true))) false)])
 .ret)
def zdv:CC:=(.seq (.seq (.reg [oo 97 (.fieldAddr 2 (tq 2)),
   oo 98 (.load false 1 (tq 97) false),
   oo 99 (.lenS (tq 98)),
   oo 100 (.move (.const (.sc (.int .i64 0))) false)])
 (.block 4 (.loop (bl 1901475900342344102245054808076 116) (bl 72692156019487586799426948609080623 116)
 zb9)))
 ze8)
def zan:CF:=⟨116,[.tmp 4],
 (.seq (.reg [oo 2 (.box true (tq 0)),
   oo 3 (.box true (tq 1)),
   oo 4 (.move (.const (.sc (.bool false))) false)])
 (.seq (.seq (.reg [oo 10 (.fieldAddr 0 (tq 2)),
   oo 11 (.load false 1 (tq 10) false),
   oo 12 (.fieldAddr 0 (tq 3)),
   oo 13 (.load false 1 (tq 12) false),
   oo 14 (.bin .neq (tq 11) (tq 13)),
   oo 15 (.move (tq 14) false),
   ⟨(some 16),false,(some (15,false)),.fieldAddr 3 (tq 2)⟩,
   ⟨(some 17),false,(some (15,false)),.load false 1 (tq 16) false⟩,
   ⟨(some 18),false,(some (15,false)),.fieldAddr 3 (tq 3)⟩,
   ⟨(some 19),false,(some (15,false)),.load false 1 (tq 18) false⟩,
   ⟨(some 20),false,(some (15,false)),.bin .neq (tq 17) (tq 19)⟩,
   oo 21 (.pick (tq 15) (.const (.sc (.bool true))) (tq 20)),
   oo 22 (.move (tq 21) false),
   ⟨(some 23),false,(some (22,false)),.fieldAddr 1 (tq 2)⟩,
   ⟨(some 24),false,(some (22,false)),.load false 1 (tq 23) false⟩,
   ⟨(some 25),false,(some (22,false)),.lenS (tq 24)⟩,
   ⟨(some 26),false,(some (22,false)),.fieldAddr 1 (tq 3)⟩,
   ⟨(some 27),false,(some (22,false)),.load false 1 (tq 26) false⟩,
   ⟨(some 28),false,(some (22,false)),.lenS (tq 27)⟩,
   ⟨(some 29),false,(some (22,false)),.bin .neq (tq 25) (tq 28)⟩,
   oo 30 (.pick (tq 22) (.const (.sc (.bool true))) (tq 29)),
   oo 31 (.move (tq 30) false),
   ⟨(some 32),false,(some (31,false)),.fieldAddr 2 (tq 2)⟩,
   ⟨(some 33),false,(some (31,false)),.load false 1 (tq 32) false⟩,
   ⟨(some 34),false,(some (31,false)),.lenS (tq 33)⟩,
   ⟨(some 35),false,(some (31,false)),.fieldAddr 2 (tq 3)⟩,
   ⟨(some 36),false,(some (31,false)),.load false 1 (tq 35) false⟩,
   ⟨(some 37),false,(some (31,false)),.lenS (tq 36)⟩,
   ⟨(some 38),false,(some (31,false)),.bin .neq (tq 34) (tq 37)⟩,
   oo 39 (.pick (tq 31) (.const (.sc (.bool true))) (tq 38))])
 (.cond (tq 39)
 (.seq (.reg [oo 4 (.move (.const (.sc (.bool false))) false)])
 .ret)
 .skip))
 (.seq (.seq (.reg [oo 40 (.fieldAddr 1 (tq 2)),
   oo 41 (.load false 1 (tq 40) false),
   oo 42 (.lenS (tq 41)),
   oo 43 (.move (.const (.sc (.int .i64 0))) false)])
 (.block 0 (.loop (bl 13194139533324 116) (bl 83076739832411214214465514083712527 116)
 zbG)))
 zdv)))⟩
def znC:Hint:=⟨[(0,0),(0,1),(6,10),(6,11)],[],[none,none,none,some ((bl 13194139533324 116),(bl 83076739832411214214465514083712527 116)),none,some ((bl 12 116),(bl 83076739832411214214465514083712527 116)),none,none,some ((bl 16 116),(bl 83076739832411214214465514083712531 116)),none,some ((bl 1813388729435137901592780 116),(bl 83076739833036927773445742074527471 116)),none,some ((bl 13194139533324 116),(bl 83076739833036927773445742074527279 116)),none,none,some ((bl 16 116),(bl 83076739832411214214465514083712531 116)),none,some ((bl 1901475900342344102245054808076 116),(bl 72692156019487586799426948609080623 116)),none,some ((bl 0 116),(bl 72692156019487586799426948609080611 116)),none,none,some ((bl 16 116),(bl 72692156019487586799426948609080627 116)),none],[],[],false,false,[]⟩
def zx:Nat→Sh:=yL [(11,(.int .u32)),(13,(.int .u32)),(17,(.int .u32)),(19,(.int .u32)),(24,(.sl 35)),(27,(.sl 35)),(33,(.sl 2)),(36,(.sl 2)),(41,(.sl 35)),(47,(.sl 35)),(52,(.sl 35)),(63,(.int .u32)),(65,(.int .u32)),(70,(.sl 1)),(73,(.sl 1)),(78,(.sl 1)),(98,(.sl 2)),(84,(.sl 1)),(87,(.sl 1)),(89,(.sl 1)),(92,(.sl 1)),(104,(.sl 2)),(109,(.sl 2))]
def yx (xd:xt) (yd:zr) (L:Nat):CBC:=(zt 181 (zgQ yd L) (zt 130 (zfG xd L) noC))
def zaH:St→St:=zV 0 (bl 13194139533324 116) (bl 83076739832411214214465514083712527 116)
def zbx:St→St:=zV 0 (bl 1813388729435137901592780 116) (bl 83076739833036927773445742074527471 116)
def zdD:St→St:=zV 0 (bl 1901475900342344102245054808076 116) (bl 72692156019487586799426948609080623 116)
def zbb (p42 p43:Int) (b2 b3:List V):St:=⟨(jn 2 ((V.ptr 2 0)::((V.ptr 3 0)::(jn 38 ((V.sc (.int .i64 p42))::((V.sc (.int .i64 p43))::(jn 72 []))))))),(gn 2 ((.live true b2)::((.live true b3)::(gn 112 []))))⟩
def zX (p4:Bool):St:=⟨(jn 4 ((V.sc (.bool p4))::(jn 111 []))),(gn 116 [])⟩
def zaY (p42 p43 p79 p80:Int) (b2 b3 b6 b7:List V):St:=⟨(jn 2 ((V.ptr 2 0)::((V.ptr 3 0)::(jn 2 ((V.ptr 6 0)::((V.ptr 7 0)::(jn 34 ((V.sc (.int .i64 p42))::((V.sc (.int .i64 p43))::(jn 35 ((V.sc (.int .i64 p79))::((V.sc (.int .i64 p80))::(jn 35 []))))))))))))),(gn 2 ((.live true b2)::((.live true b3)::(gn 2 ((.live true b6)::((.live true b7)::(gn 108 [])))))))⟩
def zc9 (b2 b3:List V):St:=⟨(jn 2 ((V.ptr 2 0)::((V.ptr 3 0)::(jn 112 [])))),(gn 2 ((.live true b2)::((.live true b3)::(gn 112 []))))⟩
def zcC (p99 zLa:Int) (b2 b3:List V):St:=⟨(jn 2 ((V.ptr 2 0)::((V.ptr 3 0)::(jn 95 ((V.sc (.int .i64 p99))::((V.sc (.int .i64 zLa))::(jn 15 []))))))),(gn 2 ((.live true b2)::((.live true b3)::(gn 112 []))))⟩
def zhn (p42 p43:Int) (b2 b3:List V):St:=⟨(jn 2 ((V.ptr 2 0)::((V.ptr 3 0)::(jn 38 ((V.sc (.int .i64 p42))::((V.sc (.int .i64 p43))::(jn 72 []))))))),(gn 2 ((.live true b2)::((.live true b3)::(gn 112 []))))⟩
def zhP:St:=⟨(jn 116 []),(gn 116 [])⟩
abbrev zeX (β:Type):Type:=Int→Int→Int→Int→List V→List V→List V→List V→Option β
def zmh {β:Type} (xd:xt) (yd:zr) (L:Nat) (p0 p1:List V) (k_fin:Bool→Option β) (k_hbbaba:Int→Int→List V→List V→Option β):Option β :=
 cI .u32 p0 0 fun v0 =>
 cI .u32 p1 0 fun v1 =>
 ifb ((v0:Int) != v1) (
 k_fin false) (
 cI .u32 p0 3 fun v2 =>
 cI .u32 p1 3 fun v3 =>
 ifb ((v2:Int) != v3) (
 k_fin false) (
 cLd 35 p0 1 fun v4 =>
 cLd 35 p1 1 fun v5 =>
 ifb ((((List.length v4:Nat):Int):Int) != ((List.length v5:Nat):Int)) (
 k_fin false) (
 cLd 2 p0 2 fun v6 =>
 cLd 2 p1 2 fun v7 =>
 ifb ((((List.length v6:Nat):Int):Int) != ((List.length v7:Nat):Int)) (
 k_fin false) (
 cLd 35 p0 1 fun v8 =>
 k_hbbaba ((List.length v8:Nat):Int) (0:Int) p0 p1))))
theorem zvN {β:Type} (xd:xt) (yd:zr) (L:Nat) (p0 p1:List V) (k:KK β):xv zx (yx xd yd L) L zan [(V.agg p0),(V.agg p1)] [] k=zmh xd yd L p0 p1 (fun p0=>k (V.sc (.bool p0)) []) (fun p42 p43 b2 b3=>xD (xj zx (yx xd yd L) 0 L zbG) zaH L (zbb p42 p43 b2 b3) (xu 0 (zQ (xj zx (yx xd yd L) 0 L zdv) (zW 0 (CF.res zan) k)))):=by kernel_rfl
def zgL {β:Type} (xd:xt) (yd:zr) (L:Nat) (p42 p43:Int) (b2 b3:List V) (k_ret:Bool→Option β) (k_hbbabaabbaabbbba:zeX β) (k_x0:List V→List V→Option β):Option β :=
 ifb (decide (p43 < p42)) (
 cLd 35 b2 1 fun v9 =>
 idx v9 p43 fun c10 =>
 cLd 35 b3 1 fun v11 =>
 idx v11 p43 fun c12 =>
 chk ((List.length (List.take 35 c10))=35∧0+35≤35) (
 lt (zl (List.replicate 32 (V.sc (.int .u8 (0:Int)))++[(V.sc (.int .u32 (0:Int))),(V.sc (.int .u32 (0:Int))),(V.gs 1 ([]:List (List V)))]) 0 (List.take 35 c10)) fun r13 =>
 chk ((List.length (List.take 35 c12))=35∧0+35≤35) (
 lt (zl (List.replicate 32 (V.sc (.int .u8 (0:Int)))++[(V.sc (.int .u32 (0:Int))),(V.sc (.int .u32 (0:Int))),(V.gs 1 ([]:List (List V)))]) 0 (List.take 35 c12)) fun r14 =>
 chk (0+33≤(List.length r13)) (
 chk (0+33≤(List.length r14)) (
 eqC 33 (List.take 33 r13) (List.take 33 r14) fun v15 =>
 ifb (!v15) (
 k_ret false) (
 cI .u32 r13 33 fun v16 =>
 cI .u32 r14 33 fun v17 =>
 ifb ((v16:Int) != v17) (
 k_ret false) (
 cLd 1 r13 34 fun v18 =>
 cLd 1 r14 34 fun v19 =>
 ifb ((((List.length v18:Nat):Int):Int) != ((List.length v19:Nat):Int)) (
 k_ret false) (
 cLd 1 r13 34 fun v20 =>
 k_hbbabaabbaabbbba p42 p43 ((List.length v20:Nat):Int) (0:Int) b2 b3 r13 r14)))))))) (
 k_x0 b2 b3)
theorem zqE {β:Type} (xd:xt) (yd:zr) (L:Nat) (p42 p43:Int) (b2 b3:List V) (X:St→Option β) (K:KT β):xj zx (yx xd yd L) 0 L zbG (zbb p42 p43 b2 b3) (zah zaH X K)=zgL xd yd L p42 p43 b2 b3 (fun p4=>K .ret (zX p4)) (fun p42 p43 p79 p80 b2 b3 b6 b7=>xD (xj zx (yx xd yd L) 0 L zau) zbx L (zaY p42 p43 p79 p80 b2 b3 b6 b7) (xu 2 (xu 1 (zQ (xj zx (yx xd yd L) 0 L zcA) (zah zaH X K))))) (fun b2 b3=>K (.exit 0) (zc9 b2 b3)):=by kernel_rfl
def zi9 {β:Type} (xd:xt) (yd:zr) (L:Nat) (p4:Bool) (k_fin:Bool→Option β):Option β :=
 k_fin p4
theorem znV {β:Type} (xd:xt) (yd:zr) (L:Nat) (p4:Bool) (k:KK β):(xu 0 (zQ (xj zx (yx xd yd L) 0 L zdv) (zW 0 (CF.res zan) k))) .ret (zX p4)=zi9 xd yd L p4 (fun p0=>k (V.sc (.bool p0)) []):=by kernel_rfl
def zfJ {β:Type} (xd:xt) (yd:zr) (L:Nat) (b2 b3:List V) (k_hbbbaba:Int→Int→List V→List V→Option β):Option β :=
 cLd 2 b2 2 fun v21 =>
 k_hbbbaba ((List.length v21:Nat):Int) (0:Int) b2 b3
theorem zpj {β:Type} (xd:xt) (yd:zr) (L:Nat) (b2 b3:List V) (k:KK β):(xu 0 (zQ (xj zx (yx xd yd L) 0 L zdv) (zW 0 (CF.res zan) k))) (.exit 0) (zc9 b2 b3)=zfJ xd yd L b2 b3 (fun p99 zLa b2 b3=>xD (xj zx (yx xd yd L) 0 L zb9) zdD L (zcC p99 zLa b2 b3) (xu 4 (zQ (xj zx (yx xd yd L) 0 L ze8) (zW 0 (CF.res zan) k)))):=by kernel_rfl
def zcx {β:Type} (xd:xt) (yd:zr) (L:Nat) (p42 p43 p79 p80:Int) (b2 b3 b6 b7:List V) (k_ret:Bool→Option β) (k_hbbabaabbaabbbba:zeX β) (k_x2:Int→Int→List V→List V→Option β):Option β :=
 ifb (decide (p80 < p79)) (
 cLd 1 b6 34 fun v22 =>
 idx v22 p80 fun c23 =>
 cL 1 c23 0 fun v24 =>
 cLd 1 b7 34 fun v25 =>
 idx v25 p80 fun c26 =>
 cL 1 c26 0 fun v27 =>
 xd β L v24 v27 (fun v28 =>
 ifb (!v28) (
 k_ret false) (
 lt (IntKind.wrap .i64 ((p80:Int)+(1:Int))) fun x29 =>
 k_hbbabaabbaabbbba p42 p43 p79 x29 b2 b3 b6 b7))) (
 k_x2 p42 p43 b2 b3)
theorem zjO {β:Type} (xd:xt) (yd:zr) (L:Nat) (p42 p43 p79 p80:Int) (b2 b3 b6 b7:List V) (X:St→Option β) (K:KT β):xj zx (yx xd yd L) 0 L zau (zaY p42 p43 p79 p80 b2 b3 b6 b7) (zah zbx X K)=zcx xd yd L p42 p43 p79 p80 b2 b3 b6 b7 (fun p4=>K .ret (zX p4)) (fun p42 p43 p79 p80 b2 b3 b6 b7=>X (zaY p42 p43 p79 p80 b2 b3 b6 b7)) (fun p42 p43 b2 b3=>K (.exit 2) (zhn p42 p43 b2 b3)):=by kernel_rfl
def zgd {β:Type} (xd:xt) (yd:zr) (L:Nat) (p99 zLa:Int) (b2 b3:List V) (k_ret:Bool→Option β) (k_hbbbaba:Int→Int→List V→List V→Option β) (k_x4:Option β):Option β :=
 ifb (decide (zLa < p99)) (
 cLd 2 b2 2 fun v30 =>
 idx v30 zLa fun c31 =>
 cLd 2 b3 2 fun v32 =>
 idx v32 zLa fun c33 =>
 yd β L (List.map V.dem (List.take 2 c31)) (List.map V.dem (List.take 2 c33)) (fun v34 =>
 ifb (!v34) (
 k_ret false) (
 lt (IntKind.wrap .i64 ((zLa:Int)+(1:Int))) fun x35 =>
 k_hbbbaba p99 x35 b2 b3))) (
 k_x4)
theorem zpo {β:Type} (xd:xt) (yd:zr) (L:Nat) (p99 zLa:Int) (b2 b3:List V) (X:St→Option β) (K:KT β):xj zx (yx xd yd L) 0 L zb9 (zcC p99 zLa b2 b3) (zah zdD X K)=zgd xd yd L p99 zLa b2 b3 (fun p4=>K .ret (zX p4)) (fun p99 zLa b2 b3=>X (zcC p99 zLa b2 b3)) (K (.exit 4) (zhP)):=by kernel_rfl
def zd1 {β:Type} (xd:xt) (yd:zr) (L:Nat) (p4:Bool) (k_ret:Bool→Option β):Option β :=
 k_ret p4
theorem zhZ {β:Type} (xd:xt) (yd:zr) (L:Nat) (p4:Bool) (X:St→Option β) (K:KT β):(xu 2 (xu 1 (zQ (xj zx (yx xd yd L) 0 L zcA) (zah zaH X K)))) .ret (zX p4)=zd1 xd yd L p4 (fun p4=>K .ret (zX p4)):=by kernel_rfl
def zcf {β:Type} (xd:xt) (yd:zr) (L:Nat) (p42 p43:Int) (b2 b3:List V) (k_hbbaba:Int→Int→List V→List V→Option β):Option β :=
 lt (IntKind.wrap .i64 ((p43:Int)+(1:Int))) fun x36 =>
 k_hbbaba p42 x36 b2 b3
theorem zip {β:Type} (xd:xt) (yd:zr) (L:Nat) (p42 p43:Int) (b2 b3:List V) (X:St→Option β) (K:KT β):(xu 2 (xu 1 (zQ (xj zx (yx xd yd L) 0 L zcA) (zah zaH X K)))) (.exit 2) (zhn p42 p43 b2 b3)=zcf xd yd L p42 p43 b2 b3 (fun p42 p43 b2 b3=>X (zbb p42 p43 b2 b3)):=by kernel_rfl
def zii {β:Type} (xd:xt) (yd:zr) (L:Nat) (p4:Bool) (k_fin:Bool→Option β):Option β :=
 k_fin p4
theorem znh {β:Type} (xd:xt) (yd:zr) (L:Nat) (p4:Bool) (k:KK β):(xu 4 (zQ (xj zx (yx xd yd L) 0 L ze8) (zW 0 (CF.res zan) k))) .ret (zX p4)=zii xd yd L p4 (fun p0=>k (V.sc (.bool p0)) []):=by kernel_rfl
def zi2 {β:Type} (xd:xt) (yd:zr) (L:Nat) (k_fin:Bool→Option β):Option β :=
 k_fin true
theorem zn6 {β:Type} (xd:xt) (yd:zr) (L:Nat) (k:KK β):(xu 4 (zQ (xj zx (yx xd yd L) 0 L ze8) (zW 0 (CF.res zan) k))) (.exit 4) (zhP)=zi2 xd yd L (fun p0=>k (V.sc (.bool p0)) []):=by kernel_rfl
def zaE {β:Type} (xd:xt) (yd:zr) (L:Nat) (k_ret:Bool→Option β) (k_x2:Int→Int→List V→List V→Option β):Nat→Int→Int→Int→Int→List V→List V→List V→List V→Option β
 | 0,_,_,_,_,_,_,_,_=>none
 | n+1,p42,p43,p79,p80,b2,b3,b6,b7=>zcx xd yd L p42 p43 p79 p80 b2 b3 b6 b7 k_ret (fun p42 p43 p79 p80 b2 b3 b6 b7=>zaE xd yd L k_ret k_x2 n p42 p43 p79 p80 b2 b3 b6 b7) k_x2
theorem zef {β:Type} (xd:xt) (yd:zr) (L:Nat) (K:KT β):∀ (n:Nat) (p42 p43 p79 p80:Int) (b2 b3 b6 b7:List V),xD (xj zx (yx xd yd L) 0 L zau) zbx n (zaY p42 p43 p79 p80 b2 b3 b6 b7) K=zaE xd yd L (fun p4=>K .ret (zX p4)) (fun p42 p43 b2 b3=>K (.exit 2) (zhn p42 p43 b2 b3)) n p42 p43 p79 p80 b2 b3 b6 b7:=by
 intro n
 induction n with
 | zero=>intros; rfl
 | succ n ih =>
  intro p42 p43 p79 p80 b2 b3 b6 b7
  refine (zjO xd yd L p42 p43 p79 p80 b2 b3 b6 b7 (fun σ=>xD (xj zx (yx xd yd L) 0 L zau) zbx n σ K) K).trans ?_
  simp only [ih]
  rfl
def zdK {β:Type} (xd:xt) (yd:zr) (L:Nat) (p42 p43:Int) (b2 b3:List V) (k_ret:Bool→Option β) (k_x0:List V→List V→Option β) (k_hbbaba:Int→Int→List V→List V→Option β):Option β :=
 zgL xd yd L p42 p43 b2 b3 k_ret (fun p42 p43 p79 p80 b2 b3 b6 b7=>zaE xd yd L (fun p4=>zd1 xd yd L p4 k_ret) (fun p42 p43 b2 b3=>zcf xd yd L p42 p43 b2 b3 k_hbbaba) L p42 p43 p79 p80 b2 b3 b6 b7) k_x0
theorem zpl {β:Type} (xd:xt) (yd:zr) (L:Nat) (p42 p43:Int) (b2 b3:List V) (X:St→Option β) (K:KT β):xj zx (yx xd yd L) 0 L zbG (zbb p42 p43 b2 b3) (zah zaH X K)=zdK xd yd L p42 p43 b2 b3 (fun p4=>K .ret (zX p4)) (fun b2 b3=>K (.exit 0) (zc9 b2 b3)) (fun p42 p43 b2 b3=>X (zbb p42 p43 b2 b3)):=by
 refine (zqE xd yd L p42 p43 b2 b3 X K).trans ?_
 unfold zdK
 first
  | (simp only [zef,zhZ,zip]; done)
  | (simp only [zef]; rfl)
def zcI {β:Type} (xd:xt) (yd:zr) (L:Nat) (k_ret:Bool→Option β) (k_x0:List V→List V→Option β):Nat→Int→Int→List V→List V→Option β
 | 0,_,_,_,_=>none
 | n+1,p42,p43,b2,b3=>zdK xd yd L p42 p43 b2 b3 k_ret k_x0 (fun p42 p43 b2 b3=>zcI xd yd L k_ret k_x0 n p42 p43 b2 b3)
theorem ziO {β:Type} (xd:xt) (yd:zr) (L:Nat) (K:KT β):∀ (n:Nat) (p42 p43:Int) (b2 b3:List V),xD (xj zx (yx xd yd L) 0 L zbG) zaH n (zbb p42 p43 b2 b3) K=zcI xd yd L (fun p4=>K .ret (zX p4)) (fun b2 b3=>K (.exit 0) (zc9 b2 b3)) n p42 p43 b2 b3:=by
 intro n
 induction n with
 | zero=>intros; rfl
 | succ n ih =>
  intro p42 p43 b2 b3
  refine (zpl xd yd L p42 p43 b2 b3 (fun σ=>xD (xj zx (yx xd yd L) 0 L zbG) zaH n σ K) K).trans ?_
  simp only [ih]
  rfl
def zco {β:Type} (xd:xt) (yd:zr) (L:Nat) (k_ret:Bool→Option β) (k_x4:Option β):Nat→Int→Int→List V→List V→Option β
 | 0,_,_,_,_=>none
 | n+1,p99,zLa,b2,b3=>zgd xd yd L p99 zLa b2 b3 k_ret (fun p99 zLa b2 b3=>zco xd yd L k_ret k_x4 n p99 zLa b2 b3) k_x4
theorem zih {β:Type} (xd:xt) (yd:zr) (L:Nat) (K:KT β):∀ (n:Nat) (p99 zLa:Int) (b2 b3:List V),xD (xj zx (yx xd yd L) 0 L zb9) zdD n (zcC p99 zLa b2 b3) K=zco xd yd L (fun p4=>K .ret (zX p4)) (K (.exit 4) (zhP)) n p99 zLa b2 b3:=by
 intro n
 induction n with
 | zero=>intros; rfl
 | succ n ih =>
  intro p99 zLa b2 b3
  refine (zpo xd yd L p99 zLa b2 b3 (fun σ=>xD (xj zx (yx xd yd L) 0 L zb9) zdD n σ K) K).trans ?_
  simp only [ih]
  rfl
def zcZ {β:Type} (xd:xt) (yd:zr) (L:Nat) (b2 b3:List V) (k_fin:Bool→Option β):Option β :=
 zfJ xd yd L b2 b3 (fun p99 zLa b2 b3=>zco xd yd L (fun p4=>zii xd yd L p4 k_fin) (zi2 xd yd L k_fin) L p99 zLa b2 b3)
theorem znP {β:Type} (xd:xt) (yd:zr) (L:Nat) (b2 b3:List V) (k:KK β):(xu 0 (zQ (xj zx (yx xd yd L) 0 L zdv) (zW 0 (CF.res zan) k))) (.exit 0) (zc9 b2 b3)=zcZ xd yd L b2 b3 (fun p0=>k (V.sc (.bool p0)) []):=by
 refine (zpj xd yd L b2 b3 k).trans ?_
 unfold zcZ
 first
  | (simp only [zih,znh,zn6]; done)
  | (simp only [zih]; rfl)
def zh4 {β:Type} (xd:xt) (yd:zr) (L:Nat) (p0 p1:List V) (k_fin:Bool→Option β):Option β :=
 zmh xd yd L p0 p1 k_fin (fun p42 p43 b2 b3=>zcI xd yd L (fun p4=>zi9 xd yd L p4 k_fin) (fun b2 b3=>zcZ xd yd L b2 b3 k_fin) L p42 p43 b2 b3)
theorem zvO {β:Type} (xd:xt) (yd:zr) (L:Nat) (p0 p1:List V) (k:KK β):xv zx (yx xd yd L) L zan [(V.agg p0),(V.agg p1)] [] k=zh4 xd yd L p0 p1 (fun p0=>k (V.sc (.bool p0)) []):=by
 refine (zvN xd yd L p0 p1 k).trans ?_
 unfold zh4
 first
  | (simp only [ziO,znV,znP]; done)
  | (simp only [ziO]; rfl)
abbrev zdX:=∀ (β:Type),Nat→List V→List V→(Bool→Option β)→Option β
def xG (β:Type) (L:Nat) (p0 p1:List V) (k_fin:Bool→Option β):Option β:=zh4 xd yd L p0 p1 k_fin
def zfL (xG:zdX) (L:Nat) (β:Type) (args:List V) (bor:Bor) (k:KK β):Option β:=match args,bor with
 | [a0,a1],[]=>aG a0 fun p0=>aG a1 fun p1=>xG β L p0 p1 (fun p0=>k (V.sc (.bool p0)) [])
 | _,_=>none
theorem zvH (L:Nat) (β:Type) (args:List V) (bor:Bor) (k:KK β) (r:β) (h:zfL xG L β args bor k=some r):xv zx (yx xd yd L) L zan args bor k=some r:=by
 unfold zfL at h
 split at h
 ·have q:=zec h; clear h; obtain ⟨p0,rfl,h⟩:=q
  have q:=zec h; clear h; obtain ⟨p1,rfl,h⟩:=q
  exact (zvO xd yd L p0 p1 k).trans h
 ·cases h
def zot:CF:=⟨67,[.tmp 4],
 (.seq (.reg [oo 4 (.move (.const (.sc (.bool false))) false)])
 (.seq (.seq (.reg [oo 15 (.call 126 [] []),
   oo 16 (.un .not (tq 15))])
 (.cond (tq 16)
 (.seq (.reg [oo 4 (.move (.const (.sc (.bool false))) false)])
 .ret)
 .skip))
 (.seq (.seq (.reg [oo 17 (.move (tq 0) false),
   oo 18 (.lenS (tq 17)),
   oo 19 (.bin .gtr (tq 18) (.const (.sc (.int .i64 3000))))])
 (.cond (tq 19)
 (.seq (.reg [oo 4 (.move (.const (.sc (.bool true))) false)])
 .ret)
 .skip))
 (.seq (.reg [oo 21 (.move (tq 0) false),
   oo 22 (.move (tq 1) false),
   oo 23 (.call 139 [((tq 21),0),((tq 22),0)] []),
   oo 20 (.move (tq 23) true),
   oo 24 (.pull (tq 20) 0),
   oo 25 (.pull (tq 20) 1),
   oo 26 (.pull (tq 20) 2),
   oo 5 (.alloc true [(.sc (.int .u32 0)),(.gs 35 []),(.gs 2 []),(.sc (.int .u32 0))]),
   oz (.store 4 (tq 5) (tq 24)),
   oo 6 (.move (tq 25) false),
   oo 7 (.move (tq 26) false)])
 (.seq (.reg [oo 28 (.move (tq 0) false),
   oo 29 (.move (tq 1) false),
   oo 30 (.call 140 [((tq 28),0),((tq 29),0)] []),
   oo 27 (.move (tq 30) true),
   oo 31 (.pull (tq 27) 0),
   oo 32 (.pull (tq 27) 1),
   oo 33 (.pull (tq 27) 2),
   oo 8 (.alloc true [(.sc (.int .u32 0)),(.gs 35 []),(.gs 2 []),(.sc (.int .u32 0))]),
   oz (.store 4 (tq 8) (tq 31)),
   oo 9 (.move (tq 32) false),
   oo 10 (.move (tq 33) false)])
 (.seq (.reg [oo 35 (.move (tq 0) false),
   oo 36 (.call 141 [((tq 35),0)] []),
   oo 34 (.move (tq 36) true),
   oo 37 (.pull (tq 34) 0),
   oo 38 (.pull (tq 34) 1),
   oo 11 (.alloc true [(.sc (.int .u32 0)),(.gs 35 []),(.gs 2 []),(.sc (.int .u32 0))]),
   oz (.store 4 (tq 11) (tq 37)),
   oo 12 (.move (tq 38) false)])
 (.seq (.reg [oo 40 (.move (tq 0) false),
   oo 41 (.call 142 [((tq 40),0)] []),
   oo 39 (.move (tq 41) true),
   oo 42 (.pull (tq 39) 0),
   oo 43 (.pull (tq 39) 1),
   oo 13 (.alloc true [(.sc (.int .u32 0)),(.gs 35 []),(.gs 2 []),(.sc (.int .u32 0))]),
   oz (.store 4 (tq 13) (tq 42)),
   oo 14 (.move (tq 43) false)])
 (.seq (.reg [oo 44 (.move (tq 6) false),
   oo 45 (.move (tq 9) false),
   oo 46 (.bin .eql (tq 44) (tq 45)),
   oo 47 (.move (tq 46) false),
   ⟨(some 48),false,(some (47,true)),.move (tq 7) false⟩,
   ⟨(some 49),false,(some (47,true)),.move (tq 10) false⟩,
   ⟨(some 50),false,(some (47,true)),.bin .eql (tq 48) (tq 49)⟩,
   oo 51 (.pick (tq 47) (tq 50) (.const (.sc (.bool false)))),
   oo 52 (.move (tq 51) false),
   ⟨(some 53),false,(some (52,true)),.load true 4 (tq 5) false⟩,
   ⟨(some 54),false,(some (52,true)),.load true 4 (tq 8) false⟩,
   ⟨(some 55),false,(some (52,true)),.call 143 [((tq 53),1),((tq 54),1)] []⟩,
   oo 56 (.pick (tq 52) (tq 55) (.const (.sc (.bool false)))),
   oo 57 (.move (tq 56) false),
   ⟨(some 58),false,(some (57,true)),.move (tq 12) false⟩,
   ⟨(some 59),false,(some (57,true)),.move (tq 14) false⟩,
   ⟨(some 60),false,(some (57,true)),.bin .eql (tq 58) (tq 59)⟩,
   oo 61 (.pick (tq 57) (tq 60) (.const (.sc (.bool false)))),
   oo 62 (.move (tq 61) false),
   ⟨(some 63),false,(some (62,true)),.load true 4 (tq 11) false⟩,
   ⟨(some 64),false,(some (62,true)),.load true 4 (tq 13) false⟩,
   ⟨(some 65),false,(some (62,true)),.call 143 [((tq 63),1),((tq 64),1)] []⟩,
   oo 66 (.pick (tq 62) (tq 65) (.const (.sc (.bool false)))),
   oo 4 (.move (tq 66) false)])
 .ret))))))))⟩
def zm7:Hint:=⟨[(5,3),(5,7),(6,3),(6,7),(7,2),(7,5),(8,2),(8,5)],[],[none,none,none,none,none],[],[],false,false,[]⟩
def zHv:Nat→Sh:=yL []
def zHz (zH:zdb) (zad:zjX) (za6:zhw) (yK:zgu) (zcP:zlX) (xG:zdX) (L:Nat):CBC:=(zt 143 (zfL xG L) (zt 142 (zy6 zcP L) (zt 141 (zja yK L) (zt 140 (zus za6 L) (zt 139 (zmU zad L) (zt 126 (zfF zH L) noC))))))
def zxm {β:Type} (zH:zdb) (zad:zjX) (za6:zhw) (yK:zgu) (zcP:zlX) (xG:zdX) (L:Nat) (p0:List (List V)) (p1:Int) (k_fin:Bool→Option β):Option β :=
 zH β L  (fun v0 =>
 ifb (!v0) (
 k_fin false) (
 ifb (decide (((List.length p0:Nat):Int) > (3000:Int))) (
 k_fin true) (
 zad β L p0 p1 (fun v1 v2 v3 =>
 chk ((List.length v1)=4∧0+4≤4) (
 lt (zl [(V.sc (.int .u32 (0:Int))),(V.gs 35 ([]:List (List V))),(V.gs 2 ([]:List (List V))),(V.sc (.int .u32 (0:Int)))] 0 v1) fun r4 =>
 za6 β L p0 p1 (fun v5 v6 v7 =>
 chk ((List.length v5)=4∧0+4≤4) (
 lt (zl [(V.sc (.int .u32 (0:Int))),(V.gs 35 ([]:List (List V))),(V.gs 2 ([]:List (List V))),(V.sc (.int .u32 (0:Int)))] 0 v5) fun r8 =>
 yK β L p0 (fun v9 v10 =>
 chk ((List.length v9)=4∧0+4≤4) (
 lt (zl [(V.sc (.int .u32 (0:Int))),(V.gs 35 ([]:List (List V))),(V.gs 2 ([]:List (List V))),(V.sc (.int .u32 (0:Int)))] 0 v9) fun r11 =>
 zcP β L p0 (fun v12 v13 =>
 chk ((List.length v12)=4∧0+4≤4) (
 lt (zl [(V.sc (.int .u32 (0:Int))),(V.gs 35 ([]:List (List V))),(V.gs 2 ([]:List (List V))),(V.sc (.int .u32 (0:Int)))] 0 v12) fun r14 =>
 ifb ((v2:Int) == v6) (
 ifb ((v3:Int) == v7) (
 chk (0+4≤(List.length r4)) (
 chk (0+4≤(List.length r8)) (
 xG β L (List.map V.dem (List.take 4 r4)) (List.map V.dem (List.take 4 r8)) (fun v15 =>
 ifb v15 (
 ifb ((v10:Int) == v13) (
 chk (0+4≤(List.length r11)) (
 chk (0+4≤(List.length r14)) (
 xG β L (List.map V.dem (List.take 4 r11)) (List.map V.dem (List.take 4 r14)) (fun v16 =>
 k_fin v16)))) (
 k_fin false)) (
 k_fin false))))) (
 k_fin false)) (
 k_fin false))))))))))))
abbrev zx7:=∀ (β:Type),Nat→List (List V)→Int→(Bool→Option β)→Option β
def zpJ (β:Type) (L:Nat) (p0:List (List V)) (p1:Int) (k_fin:Bool→Option β):Option β:=zxm zH zad za6 yK zcP xG L p0 p1 k_fin
def zHW (zpJ:zx7) (L:Nat) (β:Type) (args:List V) (bor:Bor) (k:KK β):Option β:=match args,bor with
 | [a0,a1],[]=>aL 1 a0 fun p0=>aI .i64 a1 fun p1=>zpJ β L p0 p1 (fun p0=>k (V.sc (.bool p0)) [])
 | _,_=>none
def zc6:CC:=(.seq (.reg [oo 16 (.bin .lss (tq 15) (tq 14))])
 (.seq (.cond (tq 16)
 .skip
 (.seq (.mask (bl 0 24) (bl 15728319 24))
 (.exit 0)))
 (.seq (.block 1 (.seq (.reg [oo 17 (.indexAddrS 1 (tq 13) (tq 15)),
   oo 18 (.load false 1 (tq 17) false),
   oo 8 (.move (tq 18) false)])
 (.seq (.reg [oo 19 (.move (tq 8) false),
   oo 20 (.lenS (tq 19)),
   oo 21 (.move (tq 2) false),
   oo 22 (.bin .gtr (tq 20) (tq 21))])
 (.cond (tq 22)
 (.seq (.reg [oo 6 (.move (.const (.sc (.bool false))) false)])
 (.seq (.mask (bl 64 24) (bl 15728383 24))
 .ret))
 .skip))))
 (.reg [oo 23 (.bin .add (tq 15) (.const (.sc (.int .i64 1)))),
   oo 15 (.move (tq 23) false)]))))
def zgW:CC:=(.seq (.reg [oo 6 (.move (.const (.sc (.bool true))) false)])
 .ret)
def zcv:CF:=⟨24,[.tmp 6],
 (.seq (.reg [oo 6 (.move (.const (.sc (.bool false))) false)])
 (.seq (.seq (.reg [oo 9 (.move (tq 0) false),
   oo 10 (.lenS (tq 9)),
   oo 11 (.move (tq 1) false),
   oo 12 (.bin .gtr (tq 10) (tq 11))])
 (.cond (tq 12)
 (.seq (.reg [oo 6 (.move (.const (.sc (.bool false))) false)])
 .ret)
 .skip))
 (.seq (.seq (.reg [oo 13 (.move (tq 0) false),
   oo 14 (.lenS (tq 13)),
   oo 15 (.move (.const (.sc (.int .i64 0))) false)])
 (.block 0 (.loop (bl 57348 24) (bl 15728319 24)
 zc6)))
 zgW)))⟩
def zpx:Hint:=⟨[],[],[none,none,none,some ((bl 57348 24),(bl 15728319 24)),none,some ((bl 0 24),(bl 15728319 24)),none,none,some ((bl 64 24),(bl 15728383 24)),none],[],[],false,false,[]⟩
def za5:Nat→Sh:=yL [(18,(.sl 1))]
def za9 (L:Nat):CBC:=noC
def zfz:St→St:=zV 0 (bl 57348 24) (bl 15728319 24)
def zdL (p2:Int) (p13:List (List V)) (p14 p15:Int):St:=⟨(jn 2 ((V.sc (.int .i64 p2))::(jn 10 ((V.sl 1 p13)::((V.sc (.int .i64 p14))::((V.sc (.int .i64 p15))::(jn 8 []))))))),(gn 24 [])⟩
def ziw (p6:Bool):St:=⟨(jn 6 ((V.sc (.bool p6))::(jn 17 []))),(gn 24 [])⟩
def zjG:St:=⟨(jn 24 []),(gn 24 [])⟩
def zow {β:Type} (L:Nat) (p0:List (List V)) (p1 p2:Int) (k_fin:Bool→Option β) (k_hbbaba:Int→List (List V)→Int→Int→Option β):Option β :=
 ifb (decide (((List.length p0:Nat):Int) > p1)) (
 k_fin false) (
 k_hbbaba p2 p0 ((List.length p0:Nat):Int) (0:Int))
theorem zxe {β:Type} (L:Nat) (p0:List (List V)) (p1 p2:Int) (k:KK β):xv za5 (za9 L) L zcv [(V.sl 1 p0),(V.sc (.int .i64 p1)),(V.sc (.int .i64 p2))] [] k=zow L p0 p1 p2 (fun p0=>k (V.sc (.bool p0)) []) (fun p2 p13 p14 p15=>xD (xj za5 (za9 L) 0 L zc6) zfz L (zdL p2 p13 p14 p15) (xu 0 (zQ (xj za5 (za9 L) 0 L zgW) (zW 0 (CF.res zcv) k)))):=by kernel_rfl
def ziv {β:Type} (L:Nat) (p2:Int) (p13:List (List V)) (p14 p15:Int) (k_ret:Bool→Option β) (k_hbbaba:Int→List (List V)→Int→Int→Option β) (k_x0:Option β):Option β :=
 ifb (decide (p15 < p14)) (
 idx p13 p15 fun c0 =>
 cL 1 c0 0 fun v1 =>
 ifb (decide (((List.length v1:Nat):Int) > p2)) (
 k_ret false) (
 lt (IntKind.wrap .i64 ((p15:Int)+(1:Int))) fun x2 =>
 k_hbbaba p2 p13 p14 x2)) (
 k_x0)
theorem zsR {β:Type} (L:Nat) (p2:Int) (p13:List (List V)) (p14 p15:Int) (X:St→Option β) (K:KT β):xj za5 (za9 L) 0 L zc6 (zdL p2 p13 p14 p15) (zah zfz X K)=ziv L p2 p13 p14 p15 (fun p6=>K .ret (ziw p6)) (fun p2 p13 p14 p15=>X (zdL p2 p13 p14 p15)) (K (.exit 0) (zjG)):=by kernel_rfl
def zgi {β:Type} (L:Nat) (p6:Bool) (k_fin:Bool→Option β):Option β :=
 k_fin p6
theorem zps {β:Type} (L:Nat) (p6:Bool) (k:KK β):(xu 0 (zQ (xj za5 (za9 L) 0 L zgW) (zW 0 (CF.res zcv) k))) .ret (ziw p6)=zgi L p6 (fun p0=>k (V.sc (.bool p0)) []):=by kernel_rfl
def zgG {β:Type} (L:Nat) (k_fin:Bool→Option β):Option β :=
 k_fin true
theorem zqk {β:Type} (L:Nat) (k:KK β):(xu 0 (zQ (xj za5 (za9 L) 0 L zgW) (zW 0 (CF.res zcv) k))) (.exit 0) (zjG)=zgG L (fun p0=>k (V.sc (.bool p0)) []):=by kernel_rfl
def zdA {β:Type} (L:Nat) (k_ret:Bool→Option β) (k_x0:Option β):Nat→Int→List (List V)→Int→Int→Option β
 | 0,_,_,_,_=>none
 | n+1,p2,p13,p14,p15=>ziv L p2 p13 p14 p15 k_ret (fun p2 p13 p14 p15=>zdA L k_ret k_x0 n p2 p13 p14 p15) k_x0
theorem zk1 {β:Type} (L:Nat) (K:KT β):∀ (n:Nat) (p2:Int) (p13:List (List V)) (p14 p15:Int),xD (xj za5 (za9 L) 0 L zc6) zfz n (zdL p2 p13 p14 p15) K=zdA L (fun p6=>K .ret (ziw p6)) (K (.exit 0) (zjG)) n p2 p13 p14 p15:=by
 intro n
 induction n with
 | zero=>intros; rfl
 | succ n ih =>
  intro p2 p13 p14 p15
  refine (zsR L p2 p13 p14 p15 (fun σ=>xD (xj za5 (za9 L) 0 L zc6) zfz n σ K) K).trans ?_
  simp only [ih]
  rfl
def zkP {β:Type} (L:Nat) (p0:List (List V)) (p1 p2:Int) (k_fin:Bool→Option β):Option β :=
 zow L p0 p1 p2 k_fin (fun p2 p13 p14 p15=>zdA L (fun p6=>zgi L p6 k_fin) (zgG L k_fin) L p2 p13 p14 p15)
theorem zw2 {β:Type} (L:Nat) (p0:List (List V)) (p1 p2:Int) (k:KK β):xv za5 (za9 L) L zcv [(V.sl 1 p0),(V.sc (.int .i64 p1)),(V.sc (.int .i64 p2))] [] k=zkP L p0 p1 p2 (fun p0=>k (V.sc (.bool p0)) []):=by
 refine (zxe L p0 p1 p2 k).trans ?_
 unfold zkP
 first
  | (simp only [zk1,zps,zqk]; done)
  | (simp only [zk1]; rfl)
abbrev yN:=∀ (β:Type),Nat→List (List V)→Int→Int→(Bool→Option β)→Option β
def xf (β:Type) (L:Nat) (p0:List (List V)) (p1 p2:Int) (k_fin:Bool→Option β):Option β:=zkP L p0 p1 p2 k_fin
def zlp (xf:yN) (L:Nat) (β:Type) (args:List V) (bor:Bor) (k:KK β):Option β:=match args,bor with
 | [a0,a1,a2],[]=>aL 1 a0 fun p0=>aI .i64 a1 fun p1=>aI .i64 a2 fun p2=>xf β L p0 p1 p2 (fun p0=>k (V.sc (.bool p0)) [])
 | _,_=>none
theorem zyd (L:Nat) (β:Type) (args:List V) (bor:Bor) (k:KK β) (r:β) (h:zlp xf L β args bor k=some r):xv za5 (za9 L) L zcv args bor k=some r:=by
 unfold zlp at h
 split at h
 ·have q:=xU h; clear h; obtain ⟨p0,rfl,h⟩:=q
  have q:=zI h; clear h; obtain ⟨p1,rfl,h⟩:=q
  have q:=zI h; clear h; obtain ⟨p2,rfl,h⟩:=q
  exact (zw2 L p0 p1 p2 k).trans h
 ·cases h
def zd4:CC:=(.seq (.reg [oo 33 (.bin .lss (tq 32) (tq 31))])
 (.seq (.cond (tq 33)
 .skip
 (.seq (.mask (bl 0 41) (bl 1924145348521 41))
 (.exit 2)))
 (.seq (.block 3 (.seq (.reg [oo 34 (.indexAddrS 2 (tq 30) (tq 32)),
   oo 35 (.load true 2 (tq 34) false),
   oo 6 (.alloc true [(.sc (.int .i64 0)),(.gs 1 [])]),
   oz (.store 2 (tq 6) (tq 35))])
 (.seq (.reg [oo 36 (.fieldAddr 1 (tq 6)),
   oo 37 (.load false 1 (tq 36) false),
   oo 38 (.lenS (tq 37)),
   oo 39 (.bin .gtr (tq 38) (.const (.sc (.int .i64 600))))])
 (.cond (tq 39)
 (.seq (.reg [oo 2 (.move (.const (.sc (.bool false))) false)])
 (.seq (.mask (bl 4 41) (bl 1924145348525 41))
 .ret))
 .skip))))
 (.reg [oo 40 (.bin .add (tq 32) (.const (.sc (.int .i64 1)))),
   oo 32 (.move (tq 40) false)]))))
def ze4:CC:=(.seq (.reg [oo 21 (.bin .lss (tq 20) (tq 19))])
 (.seq (.cond (tq 21)
 .skip
 (.seq (.mask (bl 2 41) (bl 2198956146603 41))
 (.exit 0)))
 (.seq (.block 1 (.seq (.reg [oo 22 (.indexAddrS 35 (tq 18) (tq 20)),
   oo 23 (.load true 35 (tq 22) false),
   oo 4 (.alloc true (rp 32 (.sc (.int .u8 0)) (rp 2 (.sc (.int .u32 0)) (rp 1 (.gs 1 []) [])))),
   oz (.store 35 (tq 4) (tq 23))])
 (.seq (.reg [oo 24 (.fieldAddr 34 (tq 4)),
   oo 25 (.load false 1 (tq 24) false),
   oo 26 (.call 145 [((tq 25),0),((.const (.sc (.int .i64 40))),0),((.const (.sc (.int .i64 600))),0)] []),
   oo 27 (.un .not (tq 26))])
 (.cond (tq 27)
 (.seq (.reg [oo 2 (.move (.const (.sc (.bool false))) false)])
 (.seq (.mask (bl 4 41) (bl 2198956146605 41))
 .ret))
 .skip))))
 (.reg [oo 28 (.bin .add (tq 20) (.const (.sc (.int .i64 1)))),
   oo 20 (.move (tq 28) false)]))))
def zjl:CC:=(.seq (.reg [oo 2 (.move (.const (.sc (.bool true))) false)])
 .ret)
def zhN:CC:=(.seq (.seq (.reg [oo 29 (.fieldAddr 2 (tq 1)),
   oo 30 (.load false 1 (tq 29) false),
   oo 31 (.lenS (tq 30)),
   oo 32 (.move (.const (.sc (.int .i64 0))) false)])
 (.block 2 (.loop (bl 7516192768 41) (bl 1924145348521 41)
 zd4)))
 zjl)
def zbZ:CF:=⟨41,[.tmp 2],
 (.seq (.reg [oo 1 (.box true (tq 0)),
   oo 2 (.move (.const (.sc (.bool false))) false)])
 (.seq (.seq (.reg [oo 7 (.fieldAddr 1 (tq 1)),
   oo 8 (.load false 1 (tq 7) false),
   oo 9 (.lenS (tq 8)),
   oo 10 (.bin .gtr (tq 9) (.const (.sc (.int .i64 70)))),
   oo 11 (.move (tq 10) false),
   ⟨(some 12),false,(some (11,false)),.fieldAddr 2 (tq 1)⟩,
   ⟨(some 13),false,(some (11,false)),.load false 1 (tq 12) false⟩,
   ⟨(some 14),false,(some (11,false)),.lenS (tq 13)⟩,
   ⟨(some 15),false,(some (11,false)),.bin .gtr (tq 14) (.const (.sc (.int .i64 70)))⟩,
   oo 16 (.pick (tq 11) (.const (.sc (.bool true))) (tq 15))])
 (.cond (tq 16)
 (.seq (.reg [oo 2 (.move (.const (.sc (.bool false))) false)])
 .ret)
 .skip))
 (.seq (.seq (.reg [oo 17 (.fieldAddr 1 (tq 1)),
   oo 18 (.load false 1 (tq 17) false),
   oo 19 (.lenS (tq 18)),
   oo 20 (.move (.const (.sc (.int .i64 0))) false)])
 (.block 0 (.loop (bl 1835010 41) (bl 2198956146603 41)
 ze4)))
 zhN)))⟩
def zva:Hint:=⟨[(0,0),(5,2),(11,2)],[],[none,none,none,some ((bl 1835010 41),(bl 2198956146603 41)),none,some ((bl 2 41),(bl 2198956146603 41)),none,none,some ((bl 4 41),(bl 2198956146605 41)),none,some ((bl 7516192768 41),(bl 1924145348521 41)),none,some ((bl 0 41),(bl 1924145348521 41)),none,none,some ((bl 4 41),(bl 1924145348525 41)),none],[],[],false,false,[]⟩
def zaj:Nat→Sh:=yL [(8,(.sl 35)),(13,(.sl 2)),(18,(.sl 35)),(25,(.sl 1)),(30,(.sl 2)),(37,(.sl 1))]
def zai (xf:yN) (L:Nat):CBC:=(zt 145 (zlp xf L) noC)
def zic:St→St:=zV 0 (bl 1835010 41) (bl 2198956146603 41)
def zgS:St→St:=zV 0 (bl 7516192768 41) (bl 1924145348521 41)
def zft (p18:List (List V)) (p19 p20:Int) (b1:List V):St:=⟨(jn 1 ((V.ptr 1 0)::(jn 16 ((V.sl 35 p18)::((V.sc (.int .i64 p19))::((V.sc (.int .i64 p20))::(jn 20 []))))))),(gn 1 ((.live true b1)::(gn 39 [])))⟩
def zd0 (p2:Bool):St:=⟨(jn 2 ((V.sc (.bool p2))::(jn 38 []))),(gn 41 [])⟩
def zje (b1:List V):St:=⟨(jn 1 ((V.ptr 1 0)::(jn 39 []))),(gn 1 ((.live true b1)::(gn 39 [])))⟩
def zeS (p30:List (List V)) (p31 p32:Int):St:=⟨(jn 30 ((V.sl 2 p30)::((V.sc (.int .i64 p31))::((V.sc (.int .i64 p32))::(jn 8 []))))),(gn 41 [])⟩
def znd:St:=⟨(jn 41 []),(gn 41 [])⟩
def zuj {β:Type} (xf:yN) (L:Nat) (p0:List V) (k_fin:Bool→Option β) (k_hbbaba:List (List V)→Int→Int→List V→Option β):Option β :=
 cLd 35 p0 1 fun v0 =>
 ifb (decide (((List.length v0:Nat):Int) > (70:Int))) (
 k_fin false) (
 cLd 2 p0 2 fun v1 =>
 ifb (decide (((List.length v1:Nat):Int) > (70:Int))) (
 k_fin false) (
 cLd 35 p0 1 fun v2 =>
 k_hbbaba v2 ((List.length v2:Nat):Int) (0:Int) p0))
theorem zB2 {β:Type} (xf:yN) (L:Nat) (p0:List V) (k:KK β):xv zaj (zai xf L) L zbZ [(V.agg p0)] [] k=zuj xf L p0 (fun p0=>k (V.sc (.bool p0)) []) (fun p18 p19 p20 b1=>xD (xj zaj (zai xf L) 0 L ze4) zic L (zft p18 p19 p20 b1) (xu 0 (zQ (xj zaj (zai xf L) 0 L zhN) (zW 0 (CF.res zbZ) k)))):=by kernel_rfl
def zlQ {β:Type} (xf:yN) (L:Nat) (p18:List (List V)) (p19 p20:Int) (b1:List V) (k_ret:Bool→Option β) (k_hbbaba:List (List V)→Int→Int→List V→Option β) (k_x0:List V→Option β):Option β :=
 ifb (decide (p20 < p19)) (
 idx p18 p20 fun c3 =>
 chk ((List.length (List.take 35 c3))=35∧0+35≤35) (
 lt (zl (List.replicate 32 (V.sc (.int .u8 (0:Int)))++[(V.sc (.int .u32 (0:Int))),(V.sc (.int .u32 (0:Int))),(V.gs 1 ([]:List (List V)))]) 0 (List.take 35 c3)) fun r4 =>
 cLd 1 r4 34 fun v5 =>
 xf β L v5 (40:Int) (600:Int) (fun v6 =>
 ifb (!v6) (
 k_ret false) (
 lt (IntKind.wrap .i64 ((p20:Int)+(1:Int))) fun x7 =>
 k_hbbaba p18 p19 x7 b1)))) (
 k_x0 b1)
theorem zvR {β:Type} (xf:yN) (L:Nat) (p18:List (List V)) (p19 p20:Int) (b1:List V) (X:St→Option β) (K:KT β):xj zaj (zai xf L) 0 L ze4 (zft p18 p19 p20 b1) (zah zic X K)=zlQ xf L p18 p19 p20 b1 (fun p2=>K .ret (zd0 p2)) (fun p18 p19 p20 b1=>X (zft p18 p19 p20 b1)) (fun b1=>K (.exit 0) (zje b1)):=by kernel_rfl
def zin {β:Type} (xf:yN) (L:Nat) (p2:Bool) (k_fin:Bool→Option β):Option β :=
 k_fin p2
theorem zs0 {β:Type} (xf:yN) (L:Nat) (p2:Bool) (k:KK β):(xu 0 (zQ (xj zaj (zai xf L) 0 L zhN) (zW 0 (CF.res zbZ) k))) .ret (zd0 p2)=zin xf L p2 (fun p0=>k (V.sc (.bool p0)) []):=by kernel_rfl
def zjN {β:Type} (xf:yN) (L:Nat) (b1:List V) (k_hbbbaba:List (List V)→Int→Int→Option β):Option β :=
 cLd 2 b1 2 fun v8 =>
 k_hbbbaba v8 ((List.length v8:Nat):Int) (0:Int)
theorem ztP {β:Type} (xf:yN) (L:Nat) (b1:List V) (k:KK β):(xu 0 (zQ (xj zaj (zai xf L) 0 L zhN) (zW 0 (CF.res zbZ) k))) (.exit 0) (zje b1)=zjN xf L b1 (fun p30 p31 p32=>xD (xj zaj (zai xf L) 0 L zd4) zgS L (zeS p30 p31 p32) (xu 2 (zQ (xj zaj (zai xf L) 0 L zjl) (zW 0 (CF.res zbZ) k)))):=by kernel_rfl
def zkZ {β:Type} (xf:yN) (L:Nat) (p30:List (List V)) (p31 p32:Int) (k_ret:Bool→Option β) (k_hbbbaba:List (List V)→Int→Int→Option β) (k_x2:Option β):Option β :=
 ifb (decide (p32 < p31)) (
 idx p30 p32 fun c9 =>
 chk ((List.length (List.take 2 c9))=2∧0+2≤2) (
 lt (zl [(V.sc (.int .i64 (0:Int))),(V.gs 1 ([]:List (List V)))] 0 (List.take 2 c9)) fun r10 =>
 cLd 1 r10 1 fun v11 =>
 ifb (decide (((List.length v11:Nat):Int) > (600:Int))) (
 k_ret false) (
 lt (IntKind.wrap .i64 ((p32:Int)+(1:Int))) fun x12 =>
 k_hbbbaba p30 p31 x12))) (
 k_x2)
theorem zuu {β:Type} (xf:yN) (L:Nat) (p30:List (List V)) (p31 p32:Int) (X:St→Option β) (K:KT β):xj zaj (zai xf L) 0 L zd4 (zeS p30 p31 p32) (zah zgS X K)=zkZ xf L p30 p31 p32 (fun p2=>K .ret (zd0 p2)) (fun p30 p31 p32=>X (zeS p30 p31 p32)) (K (.exit 2) (znd)):=by kernel_rfl
def zhF {β:Type} (xf:yN) (L:Nat) (p2:Bool) (k_fin:Bool→Option β):Option β :=
 k_fin p2
theorem zr0 {β:Type} (xf:yN) (L:Nat) (p2:Bool) (k:KK β):(xu 2 (zQ (xj zaj (zai xf L) 0 L zjl) (zW 0 (CF.res zbZ) k))) .ret (zd0 p2)=zhF xf L p2 (fun p0=>k (V.sc (.bool p0)) []):=by kernel_rfl
def zit {β:Type} (xf:yN) (L:Nat) (k_fin:Bool→Option β):Option β :=
 k_fin true
theorem zs4 {β:Type} (xf:yN) (L:Nat) (k:KK β):(xu 2 (zQ (xj zaj (zai xf L) 0 L zjl) (zW 0 (CF.res zbZ) k))) (.exit 2) (znd)=zit xf L (fun p0=>k (V.sc (.bool p0)) []):=by kernel_rfl
def zfE {β:Type} (xf:yN) (L:Nat) (k_ret:Bool→Option β) (k_x0:List V→Option β):Nat→List (List V)→Int→Int→List V→Option β
 | 0,_,_,_,_=>none
 | n+1,p18,p19,p20,b1=>zlQ xf L p18 p19 p20 b1 k_ret (fun p18 p19 p20 b1=>zfE xf L k_ret k_x0 n p18 p19 p20 b1) k_x0
theorem znB {β:Type} (xf:yN) (L:Nat) (K:KT β):∀ (n:Nat) (p18:List (List V)) (p19 p20:Int) (b1:List V),xD (xj zaj (zai xf L) 0 L ze4) zic n (zft p18 p19 p20 b1) K=zfE xf L (fun p2=>K .ret (zd0 p2)) (fun b1=>K (.exit 0) (zje b1)) n p18 p19 p20 b1:=by
 intro n
 induction n with
 | zero=>intros; rfl
 | succ n ih =>
  intro p18 p19 p20 b1
  refine (zvR xf L p18 p19 p20 b1 (fun σ=>xD (xj zaj (zai xf L) 0 L ze4) zic n σ K) K).trans ?_
  simp only [ih]
  rfl
def zeK {β:Type} (xf:yN) (L:Nat) (k_ret:Bool→Option β) (k_x2:Option β):Nat→List (List V)→Int→Int→Option β
 | 0,_,_,_=>none
 | n+1,p30,p31,p32=>zkZ xf L p30 p31 p32 k_ret (fun p30 p31 p32=>zeK xf L k_ret k_x2 n p30 p31 p32) k_x2
theorem zmZ {β:Type} (xf:yN) (L:Nat) (K:KT β):∀ (n:Nat) (p30:List (List V)) (p31 p32:Int),xD (xj zaj (zai xf L) 0 L zd4) zgS n (zeS p30 p31 p32) K=zeK xf L (fun p2=>K .ret (zd0 p2)) (K (.exit 2) (znd)) n p30 p31 p32:=by
 intro n
 induction n with
 | zero=>intros; rfl
 | succ n ih =>
  intro p30 p31 p32
  refine (zuu xf L p30 p31 p32 (fun σ=>xD (xj zaj (zai xf L) 0 L zd4) zgS n σ K) K).trans ?_
  simp only [ih]
  rfl
def zfr {β:Type} (xf:yN) (L:Nat) (b1:List V) (k_fin:Bool→Option β):Option β :=
 zjN xf L b1 (fun p30 p31 p32=>zeK xf L (fun p2=>zhF xf L p2 k_fin) (zit xf L k_fin) L p30 p31 p32)
theorem zsr {β:Type} (xf:yN) (L:Nat) (b1:List V) (k:KK β):(xu 0 (zQ (xj zaj (zai xf L) 0 L zhN) (zW 0 (CF.res zbZ) k))) (.exit 0) (zje b1)=zfr xf L b1 (fun p0=>k (V.sc (.bool p0)) []):=by
 refine (ztP xf L b1 k).trans ?_
 unfold zfr
 first
  | (simp only [zmZ,zr0,zs4]; done)
  | (simp only [zmZ]; rfl)
def zpE {β:Type} (xf:yN) (L:Nat) (p0:List V) (k_fin:Bool→Option β):Option β :=
 zuj xf L p0 k_fin (fun p18 p19 p20 b1=>zfE xf L (fun p2=>zin xf L p2 k_fin) (fun b1=>zfr xf L b1 k_fin) L p18 p19 p20 b1)
theorem zBc {β:Type} (xf:yN) (L:Nat) (p0:List V) (k:KK β):xv zaj (zai xf L) L zbZ [(V.agg p0)] [] k=zpE xf L p0 (fun p0=>k (V.sc (.bool p0)) []):=by
 refine (zB2 xf L p0 k).trans ?_
 unfold zpE
 first
  | (simp only [znB,zs0,zsr]; done)
  | (simp only [znB]; rfl)
abbrev zka:=∀ (β:Type),Nat→List V→(Bool→Option β)→Option β
def zac (β:Type) (L:Nat) (p0:List V) (k_fin:Bool→Option β):Option β:=zpE xf L p0 k_fin
def zmR (zac:zka) (L:Nat) (β:Type) (args:List V) (bor:Bor) (k:KK β):Option β:=match args,bor with
 | [a0],[]=>aG a0 fun p0=>zac β L p0 (fun p0=>k (V.sc (.bool p0)) [])
 | _,_=>none
theorem zBL (L:Nat) (β:Type) (args:List V) (bor:Bor) (k:KK β) (r:β) (h:zmR zac L β args bor k=some r):xv zaj (zai xf L) L zbZ args bor k=some r:=by
 unfold zmR at h
 split at h
 ·have q:=zec h; clear h; obtain ⟨p0,rfl,h⟩:=q
  exact (zBc xf L p0 k).trans h
 ·cases h
def zsU:CC:=(.seq (.reg [oo 12 (.bin .lss (tq 11) (tq 10))])
 (.seq (.cond (tq 12)
 .skip
 (.seq (.mask (bl 32 24) (bl 16777151 24))
 (.exit 0)))
 (.seq (.block 1 (.seq (.reg [oo 13 (.move (tq 11) false),
   oo 6 (.move (tq 13) false)])
 (.reg [oo 14 (.move (tq 5) false),
   oo 15 (.move (tq 6) false),
   oo 16 (.move (tq 0) false),
   oo 17 (.move (tq 6) false),
   oo 18 (.bin .mul (.const (.sc (.int .i64 8))) (tq 17)),
   oo 19 (.bin .shr (tq 16) (tq 18)),
   oo 20 (.conv .u8 (tq 19)),
   oo 21 (.indexAddrS 1 (tq 14) (tq 15)),
   oz (.store 1 (tq 21) (tq 20))])))
 (.reg [oo 22 (.bin .add (tq 11) (.const (.sc (.int .i64 1)))),
   oo 11 (.move (tq 22) false)]))))
def zvU:CC:=(.seq (.reg [oo 23 (.move (tq 5) true),
   oo 4 (.move (tq 23) true)])
 .ret)
def zp4:CF:=⟨24,[.tmp 4],
 (.seq (.reg [oo 4 (.move (.const (.gs 1 [])) true)])
 (.seq (.reg [oo 7 (.move (tq 1) false),
   ⟨(some 8),true,none,.makeSlice 1 1 [(.sc (.int .u8 0))] (tq 7) (tq 7)⟩,
   oo 5 (.move (tq 8) true)])
 (.seq (.seq (.reg [oo 9 (.move (tq 5) false),
   oo 10 (.lenS (tq 9)),
   oo 11 (.move (.const (.sc (.int .i64 0))) false)])
 (.block 0 (.loop (bl 3105 24) (bl 16777151 24)
 zsU)))
 zvU)))⟩
def znI:Hint:=⟨[(0,0),(1,2),(7,0),(7,1)],[(1,1)],[none,some ((bl 3105 24),(bl 16777151 24)),none,some ((bl 32 24),(bl 16777151 24)),none,none],[],[],false,false,[]⟩
def zH2:Nat→Sh:=yL []
def zHK (L:Nat):CBC:=noC
def zE6:St→St:=zV 0 (bl 3105 24) (bl 16777151 24)
def zCS (p0:Int) (p5l:Nat) (p10 p11:Int) (b8:List V):St:=⟨((V.sc (.int .u64 p0))::(jn 4 ((V.own 8 0 p5l 1)::(jn 4 ((V.sc (.int .i64 p10))::((V.sc (.int .i64 p11))::(jn 12 []))))))),(gn 8 ((.live true b8)::(gn 15 [])))⟩
def zGe (p5l:Nat) (b8:List V):St:=⟨(jn 5 ((V.own 8 0 p5l 1)::(jn 18 []))),(gn 8 ((.live true b8)::(gn 15 [])))⟩
def zy3 {β:Type} (L:Nat) (p0 p1:Int) (k_hbbaba:Int→Nat→Int→Int→List V→Option β):Option β :=
 chk (0≤p1∧p1≤p1∧(Int.toNat p1) * 1≤zk∧p1≤zk) (
 k_hbbaba p0 (Int.toNat p1) (((Int.toNat p1):Nat):Int) (0:Int) (List.flatten (List.replicate (Int.toNat p1) [(V.sc (.int .u8 (0:Int)))])))
def ztS {β:Type} (L:Nat) (p0:Int) (p5l:Nat) (p10 p11:Int) (b8:List V) (k_hbbaba:Int→Nat→Int→Int→List V→Option β) (k_x0:Nat→List V→Option β):Option β :=
 ifb (decide (p11 < p10)) (
 lt (IntKind.wrap .i64 (((8:Int):Int) * p11)) fun x0 =>
 chk (0≤x0) (
 lt (zBM .u64 p0 x0) fun x1 =>
 lt (IntKind.wrap .u8 x1) fun x2 =>
 chk (0≤p11∧p11 < ((p5l:Nat):Int)) (
 chk (1=1∧(0+((Int.toNat p11) * 1))+1≤(List.length b8)) (
 lt (zl b8 (0+((Int.toNat p11) * 1)) [(V.sc (.int .u8 x2))]) fun r3 =>
 lt (IntKind.wrap .i64 ((p11:Int)+(1:Int))) fun x4 =>
 k_hbbaba p0 p5l p10 x4 r3)))) (
 k_x0 p5l b8)
def zri {β:Type} (L:Nat) (p5l:Nat) (b8:List V) (k_fin:List (List V)→Option β):Option β :=
 chk (p5l≠0∨(List.length b8)=0) (
 k_fin (xi 1 p5l b8))
def zlH {β:Type} (L:Nat) (k_x0:Nat→List V→Option β):Nat→Int→Nat→Int→Int→List V→Option β
 | 0,_,_,_,_,_=>none
 | n+1,p0,p5l,p10,p11,b8=>ztS L p0 p5l p10 p11 b8 (fun p0 p5l p10 p11 b8=>zlH L k_x0 n p0 p5l p10 p11 b8) k_x0
def zyO {β:Type} (L:Nat) (p0 p1:Int) (k_fin:List (List V)→Option β):Option β :=
 zy3 L p0 p1 (fun p0 p5l p10 p11 b8=>zlH L (fun p5l b8=>zri L p5l b8 k_fin) L p0 p5l p10 p11 b8)
abbrev zcO:=∀ (β:Type),Nat→Int→Int→(List (List V)→Option β)→Option β
def zP (β:Type) (L:Nat) (p0 p1:Int) (k_fin:List (List V)→Option β):Option β:=zyO L p0 p1 k_fin
def zlL (zP:zcO) (L:Nat) (β:Type) (args:List V) (bor:Bor) (k:KK β):Option β:=match args,bor with
 | [a0,a1],[]=>aI .u64 a0 fun p0=>aI .i64 a1 fun p1=>zP β L p0 p1 (fun p0=>k (V.fr 1 p0) [])
 | _,_=>none
def zmV:CF:=⟨10,[.tmp 4],
 (.seq (.reg [oo 4 (.move (.const (.gs 1 [])) true)])
 (.seq (.reg [oo 5 (.move (tq 0) false),
   oo 6 (.move (tq 1) false),
   oo 7 (.conv .u64 (tq 6)),
   oo 8 (.call 194 [((tq 7),0),((.const (.sc (.int .i64 4))),0)] []),
   oo 9 (.call 193 [((tq 5),0),((tq 8),0)] []),
   oo 4 (.move (tq 9) true)])
 .ret))⟩
def zln:Hint:=⟨[(0,0),(1,5)],[],[none],[],[],false,false,[]⟩
def zGi:Nat→Sh:=yL []
def zFl (zP:zcO) (xq:zam) (L:Nat):CBC:=(zt 193 (zdW xq L) (zt 194 (zlL zP L) noC))
def zv1 {β:Type} (zP:zcO) (xq:zam) (L:Nat) (p0:List (List V)) (p1:Int) (k_fin:List (List V)→Option β):Option β :=
 lt (IntKind.wrap .u64 p1) fun x0 =>
 zP β L x0 (4:Int) (fun v1 =>
 xq β L p0 v1 (fun v2 =>
 k_fin v2))
abbrev yE:=∀ (β:Type),Nat→List (List V)→Int→(List (List V)→Option β)→Option β
def xh (β:Type) (L:Nat) (p0:List (List V)) (p1:Int) (k_fin:List (List V)→Option β):Option β:=zv1 zP xq L p0 p1 k_fin
def znA (xh:yE) (L:Nat) (β:Type) (args:List V) (bor:Bor) (k:KK β):Option β:=match args,bor with
 | [a0,a1],[]=>aL 1 a0 fun p0=>aI .u32 a1 fun p1=>xh β L p0 p1 (fun p0=>k (V.gs 1 p0) [])
 | _,_=>none
def zlI:CF:=⟨36,[.tmp 4],
 (.seq (.reg [oo 4 (.move (.const (.gs 1 [])) true)])
 (.seq (.block 0 (.seq (.reg [oo 6 (.move (tq 1) false),
   oo 7 (.bin .lss (tq 6) (.const (.sc (.int .u64 253)))),
   oo 5 (.move (tq 7) false)])
 (.cond (tq 5)
 (.seq (.reg [oo 8 (.move (tq 0) false),
   oo 9 (.move (tq 1) false),
   oo 10 (.call 194 [((tq 9),0),((.const (.sc (.int .i64 1))),0)] []),
   oo 11 (.call 193 [((tq 8),0),((tq 10),0)] []),
   oo 4 (.move (tq 11) true)])
 .ret)
 (.seq (.reg [oo 13 (.move (tq 1) false),
   oo 14 (.bin .lss (tq 13) (.const (.sc (.int .u64 65536)))),
   oo 12 (.move (tq 14) false)])
 (.cond (tq 12)
 (.seq (.reg [oo 15 (.move (tq 0) false),
   oo 16 (.buildSlice 1 1 [(.sc (.int .u8 0))] [(0,1,(.const (.sc (.int .u8 253))))]),
   oo 17 (.move (tq 1) false),
   oo 18 (.call 194 [((tq 17),0),((.const (.sc (.int .i64 2))),0)] []),
   oo 19 (.call 193 [((tq 16),0),((tq 18),0)] []),
   oo 20 (.call 193 [((tq 15),0),((tq 19),0)] []),
   oo 4 (.move (tq 20) true)])
 .ret)
 (.seq (.reg [oo 22 (.move (tq 1) false),
   oo 23 (.bin .lss (tq 22) (.const (.sc (.int .u64 4294967296)))),
   oo 21 (.move (tq 23) false)])
 (.cond (tq 21)
 (.seq (.reg [oo 24 (.move (tq 0) false),
   oo 25 (.buildSlice 1 1 [(.sc (.int .u8 0))] [(0,1,(.const (.sc (.int .u8 254))))]),
   oo 26 (.move (tq 1) false),
   oo 27 (.call 194 [((tq 26),0),((.const (.sc (.int .i64 4))),0)] []),
   oo 28 (.call 193 [((tq 25),0),((tq 27),0)] []),
   oo 29 (.call 193 [((tq 24),0),((tq 28),0)] []),
   oo 4 (.move (tq 29) true)])
 .ret)
 .skip)))))))
 (.seq (.reg [oo 30 (.move (tq 0) false),
   oo 31 (.buildSlice 1 1 [(.sc (.int .u8 0))] [(0,1,(.const (.sc (.int .u8 255))))]),
   oo 32 (.move (tq 1) false),
   oo 33 (.call 194 [((tq 32),0),((.const (.sc (.int .i64 8))),0)] []),
   oo 34 (.call 193 [((tq 31),0),((tq 33),0)] []),
   oo 35 (.call 193 [((tq 30),0),((tq 34),0)] []),
   oo 4 (.move (tq 35) true)])
 .ret)))⟩
def zj8:Hint:=⟨[(0,0),(2,4),(4,6),(6,6),(7,6)],[],[none,none,none,none,none,none,none,none],[],[],false,false,[]⟩
def zE3:Nat→Sh:=yL []
def zE8 (zP:zcO) (xq:zam) (L:Nat):CBC:=(zt 193 (zdW xq L) (zt 194 (zlL zP L) noC))
def zuZ {β:Type} (zP:zcO) (xq:zam) (L:Nat) (p0:List (List V)) (p1:Int) (k_fin:List (List V)→Option β):Option β :=
 ifb (decide (p1 < (253:Int))) (
 zP β L p1 (1:Int) (fun v0 =>
 xq β L p0 v0 (fun v1 =>
 k_fin v1))) (
 ifb (decide (p1 < (65536:Int))) (
 zP β L p1 (2:Int) (fun v2 =>
 xq β L (xi 1 1 [(V.sc (.int .u8 (253:Int)))]) v2 (fun v3 =>
 xq β L p0 v3 (fun v4 =>
 k_fin v4)))) (
 ifb (decide (p1 < (4294967296:Int))) (
 zP β L p1 (4:Int) (fun v5 =>
 xq β L (xi 1 1 [(V.sc (.int .u8 (254:Int)))]) v5 (fun v6 =>
 xq β L p0 v6 (fun v7 =>
 k_fin v7)))) (
 zP β L p1 (8:Int) (fun v8 =>
 xq β L (xi 1 1 [(V.sc (.int .u8 (255:Int)))]) v8 (fun v9 =>
 xq β L p0 v9 (fun v10 =>
 k_fin v10))))))
abbrev yA:=∀ (β:Type),Nat→List (List V)→Int→(List (List V)→Option β)→Option β
def xg (β:Type) (L:Nat) (p0:List (List V)) (p1:Int) (k_fin:List (List V)→Option β):Option β:=zuZ zP xq L p0 p1 k_fin
def zmY (xg:yA) (L:Nat) (β:Type) (args:List V) (bor:Bor) (k:KK β):Option β:=match args,bor with
 | [a0,a1],[]=>aL 1 a0 fun p0=>aI .u64 a1 fun p1=>xg β L p0 p1 (fun p0=>k (V.gs 1 p0) [])
 | _,_=>none
def zlB:CF:=⟨8,[.tmp 4],
 (.seq (.reg [oo 3 (.box true (tq 1)),
   oo 4 (.move (.const (.gs 1 [])) true)])
 (.seq (.reg [oo 5 (.move (tq 0) false),
   oo 6 (.sliceA 32 1 (tq 3) none none none),
   oo 7 (.call 193 [((tq 5),0),((tq 6),0)] []),
   oo 4 (.move (tq 7) true)])
 .ret))⟩
def zki:Hint:=⟨[(0,1),(1,3)],[],[none],[],[],false,false,[]⟩
def zE5:Nat→Sh:=yL []
def zE4 (xq:zam) (L:Nat):CBC:=(zt 193 (zdW xq L) noC)
def zu2 {β:Type} (xq:zam) (L:Nat) (p0:List (List V)) (p1:List V) (k_fin:List (List V)→Option β):Option β :=
 chk (0+32 * 1≤(List.length p1)) (
 ifb (List.isEmpty p1) (
 xq β L p0 (xi 1 32 p1) (fun v0 =>
 k_fin v0)) (
 xq β L p0 (xi 1 32 p1) (fun v1 =>
 k_fin v1)))
abbrev zhj:=∀ (β:Type),Nat→List (List V)→List V→(List (List V)→Option β)→Option β
def zbB (β:Type) (L:Nat) (p0:List (List V)) (p1:List V) (k_fin:List (List V)→Option β):Option β:=zu2 xq L p0 p1 k_fin
def zuD (zbB:zhj) (L:Nat) (β:Type) (args:List V) (bor:Bor) (k:KK β):Option β:=match args,bor with
 | [a0,a1],[]=>aL 1 a0 fun p0=>aG a1 fun p1=>zbB β L p0 p1 (fun p0=>k (V.gs 1 p0) [])
 | _,_=>none
def zrT:CF:=⟨9,[.tmp 2],
 (.seq (.reg [oo 1 (.box true (tq 0)),
   oo 2 (.move (.const (.gs 1 [])) true)])
 (.seq (.dreg [] [(oo 3 (.fieldAddr 0 (tq 1)),q0),
   (oo 4 (.load true 32 (tq 3) false),ql 1 [] []),
   (oo 5 (.call 160 [((.const (.gs 1 [])),0),((tq 4),0)] []),qc [1] []),
   (oo 6 (.fieldAddr 32 (tq 1)),q0),
   (oo 7 (.load false 1 (tq 6) false),ql 1 [] []),
   (oo 8 (.call 159 [((tq 5),0),((tq 7),0)] []),q0),
   (oo 2 (.move (tq 8) true),q0)])
 .ret))⟩
def zoC:Hint:=⟨[(0,1),(1,6)],[],[none],[],[],false,false,[]⟩
def zIf:Nat→Sh:=yL [(7,(.int .u32))]
def zId (zbB:zhj) (xh:yE) (L:Nat):CBC:=(zt 159 (znA xh L) (zt 160 (zuD zbB L) noC))
def zAI {β:Type} (zbB:zhj) (xh:yE) (L:Nat) (p0:List V) (k_fin:List (List V)→Option β):Option β :=
 chk (0+32≤(List.length p0)) (
 zbB β L ([]:List (List V)) (List.take 32 p0) (fun v0 =>
 cI .u32 p0 32 fun v1 =>
 xh β L v0 v1 (fun v2 =>
 k_fin v2)))
abbrev xS:=∀ (β:Type),Nat→List V→(List (List V)→Option β)→Option β
def zq (β:Type) (L:Nat) (p0:List V) (k_fin:List (List V)→Option β):Option β:=zAI zbB xh L p0 k_fin
def zAi (zq:xS) (L:Nat) (β:Type) (args:List V) (bor:Bor) (k:KK β):Option β:=match args,bor with
 | [a0],[]=>aG a0 fun p0=>zq β L p0 (fun p0=>k (V.gs 1 p0) [])
 | _,_=>none
def zm4:CF:=⟨9,[.tmp 4],
 (.seq (.reg [oo 4 (.move (.const (.gs 1 [])) true)])
 (.seq (.reg [oo 5 (.move (tq 0) false),
   oo 6 (.move (tq 1) false),
   oo 7 (.call 194 [((tq 6),0),((.const (.sc (.int .i64 8))),0)] []),
   oo 8 (.call 193 [((tq 5),0),((tq 7),0)] []),
   oo 4 (.move (tq 8) true)])
 .ret))⟩
def zkt:Hint:=⟨[(0,0),(1,4)],[],[none],[],[],false,false,[]⟩
def zFW:Nat→Sh:=yL []
def zFS (zP:zcO) (xq:zam) (L:Nat):CBC:=(zt 193 (zdW xq L) (zt 194 (zlL zP L) noC))
def zvW {β:Type} (zP:zcO) (xq:zam) (L:Nat) (p0:List (List V)) (p1:Int) (k_fin:List (List V)→Option β):Option β :=
 zP β L p1 (8:Int) (fun v0 =>
 xq β L p0 v0 (fun v1 =>
 k_fin v1))
abbrev zil:=∀ (β:Type),Nat→List (List V)→Int→(List (List V)→Option β)→Option β
def zbL (β:Type) (L:Nat) (p0:List (List V)) (p1:Int) (k_fin:List (List V)→Option β):Option β:=zvW zP xq L p0 p1 k_fin
def zvK (zbL:zil) (L:Nat) (β:Type) (args:List V) (bor:Bor) (k:KK β):Option β:=match args,bor with
 | [a0,a1],[]=>aL 1 a0 fun p0=>aI .u64 a1 fun p1=>zbL β L p0 p1 (fun p0=>k (V.gs 1 p0) [])
 | _,_=>none
def zkn:CF:=⟨12,[.tmp 4],
 (.seq (.reg [oo 4 (.move (.const (.gs 1 [])) true)])
 (.seq (.reg [oo 5 (.move (tq 0) false),
   oo 6 (.move (tq 1) false),
   oo 7 (.lenS (tq 6)),
   oo 8 (.conv .u64 (tq 7)),
   oo 9 (.call 185 [((tq 5),0),((tq 8),0)] []),
   oo 10 (.move (tq 1) false),
   oo 11 (.call 193 [((tq 9),0),((tq 10),0)] []),
   oo 4 (.move (tq 11) true)])
 .ret))⟩
def ziY:Hint:=⟨[(0,0),(1,7)],[],[none],[],[],false,false,[]⟩
def zEA:Nat→Sh:=yL []
def zEU (xg:yA) (xq:zam) (L:Nat):CBC:=(zt 193 (zdW xq L) (zt 185 (zmY xg L) noC))
def ztD {β:Type} (xg:yA) (xq:zam) (L:Nat) (p0 p1:List (List V)) (k_fin:List (List V)→Option β):Option β :=
 lt (IntKind.wrap .u64 ((List.length p1:Nat):Int)) fun x0 =>
 xg β L p0 x0 (fun v1 =>
 xq β L v1 p1 (fun v2 =>
 k_fin v2))
abbrev yy:=∀ (β:Type),Nat→List (List V)→List (List V)→(List (List V)→Option β)→Option β
def zg (β:Type) (L:Nat) (p0 p1:List (List V)) (k_fin:List (List V)→Option β):Option β:=ztD xg xq L p0 p1 k_fin
def zlK (zg:yy) (L:Nat) (β:Type) (args:List V) (bor:Bor) (k:KK β):Option β:=match args,bor with
 | [a0,a1],[]=>aL 1 a0 fun p0=>aL 1 a1 fun p1=>zg β L p0 p1 (fun p0=>k (V.gs 1 p0) [])
 | _,_=>none
def zux:CF:=⟨10,[.tmp 2],
 (.seq (.reg [oo 1 (.box true (tq 0)),
   oo 2 (.move (.const (.gs 1 [])) true)])
 (.seq (.dreg [] [(oo 3 (.fieldAddr 0 (tq 1)),q0),
   (oo 4 (.load false 1 (tq 3) false),ql 1 [] []),
   (oo 5 (.conv .u64 (tq 4)),q0),
   (oo 6 (.call 206 [((.const (.gs 1 [])),0),((tq 5),0)] []),qc [1] []),
   (oo 7 (.fieldAddr 1 (tq 1)),q0),
   (oo 8 (.load false 1 (tq 7) false),ql 1 [] []),
   (oo 9 (.call 187 [((tq 6),0),((tq 8),0)] []),q0),
   (oo 2 (.move (tq 9) true),q0)])
 .ret))⟩
def zrj:Hint:=⟨[(0,0),(0,1),(1,7)],[],[none],[],[],false,false,[]⟩
def zI3:Nat→Sh:=yL [(4,(.int .i64)),(8,(.sl 1))]
def zJE (zbL:zil) (zg:yy) (L:Nat):CBC:=(zt 187 (zlK zg L) (zt 206 (zvK zbL L) noC))
def zCZ {β:Type} (zbL:zil) (zg:yy) (L:Nat) (p0:List V) (k_fin:List (List V)→Option β):Option β :=
 cI .i64 p0 0 fun v0 =>
 lt (IntKind.wrap .u64 v0) fun x1 =>
 zbL β L ([]:List (List V)) x1 (fun v2 =>
 cLd 1 p0 1 fun v3 =>
 zg β L v2 v3 (fun v4 =>
 k_fin v4))
abbrev z0:=∀ (β:Type),Nat→List V→(List (List V)→Option β)→Option β
def zu (β:Type) (L:Nat) (p0:List V) (k_fin:List (List V)→Option β):Option β:=zCZ zbL zg L p0 k_fin
def zC5 (zu:z0) (L:Nat) (β:Type) (args:List V) (bor:Bor) (k:KK β):Option β:=match args,bor with
 | [a0],[]=>aG a0 fun p0=>zu β L p0 (fun p0=>k (V.gs 1 p0) [])
 | _,_=>none
end
end Go.Proofs.Ytoeobffjdbdpgaa
