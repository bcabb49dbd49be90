/- Part 11 of the proof of TxReads: an abstract machine over plain values, its soundness, and the functions of the program on plain values. -/
import Derived.Test.YtoeobffjdbdpgaaMTxReads10
namespace Go.Proofs.Ytoeobffjdbdpgaa
section
set_option maxRecDepth 100000
set_option linter.unusedVariables false
set_option linter.unusedSimpArgs false
def zaN:CC:=(.seq (.seq (.reg [oo 89 (.move (tq 13) false),
   oo 90 (.bin .gtr (tq 89) (.const (.sc (.int .i64 0)))),
   oo 91 (.move (tq 90) false),
   ⟨(some 92),false,(some (91,true)),.move (tq 7) false⟩,
   ⟨(some 93),false,(some (91,true)),.nilCheck (tq 92)⟩,
   ⟨(some 94),false,(some (91,true)),.fieldAddr 2 (tq 93)⟩,
   ⟨(some 95),false,(some (91,true)),.load false 1 (tq 94) false⟩,
   ⟨(some 96),false,(some (91,true)),.bin .eql (tq 95) (.const (.sc (.int .i64 0)))⟩,
   oo 97 (.pick (tq 91) (tq 96) (.const (.sc (.bool false))))])
 (.cond (tq 97)
 .skip
 (.seq (.mask (bl 33849922949209616891773330 148) (bl 356811923167403450762135544012445415519542271 148))
 (.exit 6))))
 (.seq (.block 7 (.dreg [] [(oo 100 (.fieldAddr 1 (tq 8)),q0),
   (oo 101 (.load false 1 (tq 100) false),ql 8 [82] [111,112]),
   (oo 102 (.move (tq 12) false),q0),
   (oo 103 (.fieldAddr 1 (tq 8)),q0),
   (oo 104 (.load false 1 (tq 103) false),ql 8 [] [111]),
   (oo 105 (.move (tq 12) false),q0),
   (oo 106 (.indexAddrS 35 (tq 104) (tq 105)),q0),
   (oo 107 (.fieldAddr 34 (tq 106)),q0),
   (oo 108 (.load false 1 (tq 107) true),ql 82 [8] [111]),
   (oo 109 (.move (tq 7) false),q0),
   (oo 110 (.call 178 [((tq 109),0),((.const (.sc (.int .i64 520))),0)] []),qc [8,82] []),
   (oo 111 (.buildSlice 1 1 [(.sl 1 [])] [(0,1,(tq 110))]),qn [8,82] []),
   (oo 112 (.append 1 24 (tq 108) (tq 111)),qn [8] []),
   (oo 113 (.indexAddrS 35 (tq 101) (tq 102)),q0),
   (oo 114 (.fieldAddr 34 (tq 113)),q0),
   (oz (.store 1 (tq 114) (tq 112)),q0)]))
 (.reg [oo 98 (.move (tq 13) false),
   oo 99 (.bin .sub (tq 98) (.const (.sc (.int .i64 1)))),
   oo 13 (.move (tq 99) false)])))
def zd5:CC:=(.reg [oo 115 (.bin .add (tq 84) (.const (.sc (.int .i64 1)))),
   oo 84 (.move (tq 115) false)])
def zbq:CC:=(.seq (.reg [oo 85 (.bin .lss (tq 84) (tq 83))])
 (.seq (.cond (tq 85)
 .skip
 (.seq (.mask (bl 4835703278458516698825106 148) (bl 356811923167403450452650534191100346794757119 148))
 (.exit 4)))
 (.seq (.block 5 (.seq (.reg [oo 86 (.move (tq 84) false),
   oo 12 (.move (tq 86) false)])
 (.seq (.reg [oo 87 (.move (tq 7) false),
   oo 88 (.call 175 [((tq 87),0),((.const (.sc (.int .i64 32))),0)] []),
   oo 13 (.move (tq 88) false)])
 (.block 6 (.loop (bl 33849922949209616891785618 148) (bl 356811923167403450762135544012445415519550463 148)
 zaN)))))
 zd5)))
def zcA:CC:=(.seq (.seq (.reg [oo 60 (.move (tq 11) false),
   oo 61 (.bin .gtr (tq 60) (.const (.sc (.int .i64 0)))),
   oo 62 (.move (tq 61) false),
   ⟨(some 63),false,(some (62,true)),.move (tq 7) false⟩,
   ⟨(some 64),false,(some (62,true)),.nilCheck (tq 63)⟩,
   ⟨(some 65),false,(some (62,true)),.fieldAddr 2 (tq 64)⟩,
   ⟨(some 66),false,(some (62,true)),.load false 1 (tq 65) false⟩,
   ⟨(some 67),false,(some (62,true)),.bin .eql (tq 66) (.const (.sc (.int .i64 0)))⟩,
   oo 68 (.pick (tq 62) (tq 67) (.const (.sc (.bool false))))])
 (.cond (tq 68)
 .skip
 (.seq (.mask (bl 402 148) (bl 356811923176489970264439266100853434029700095 148))
 (.exit 2))))
 (.seq (.block 3 (.dreg [] [(oo 71 (.fieldAddr 2 (tq 8)),q0),
   (oo 72 (.load false 1 (tq 71) true),ql 8 [] [75]),
   (oo 73 (.move (tq 7) false),q0),
   (oo 74 (.call 177 [((tq 73),0)] []),qc [8] []),
   (oo 75 (.buildSlice 2 1 [(.sc (.int .i64 0)),(.sl 1 [])] [(0,2,(tq 74))]),qn [8] []),
   (oo 76 (.append 2 32 (tq 72) (tq 75)),q0),
   (oo 77 (.fieldAddr 2 (tq 8)),q0),
   (oz (.store 1 (tq 77) (tq 76)),q0)]))
 (.reg [oo 69 (.move (tq 11) false),
   oo 70 (.bin .sub (tq 69) (.const (.sc (.int .i64 1)))),
   oo 11 (.move (tq 70) false)])))
def zcZ:CC:=(.seq (.seq (.reg [oo 32 (.move (tq 9) false),
   oo 33 (.bin .gtr (tq 32) (.const (.sc (.int .i64 0)))),
   oo 34 (.move (tq 33) false),
   ⟨(some 35),false,(some (34,true)),.move (tq 7) false⟩,
   ⟨(some 36),false,(some (34,true)),.nilCheck (tq 35)⟩,
   ⟨(some 37),false,(some (34,true)),.fieldAddr 2 (tq 36)⟩,
   ⟨(some 38),false,(some (34,true)),.load false 1 (tq 37) false⟩,
   ⟨(some 39),false,(some (34,true)),.bin .eql (tq 38) (.const (.sc (.int .i64 0)))⟩,
   oo 40 (.pick (tq 34) (tq 39) (.const (.sc (.bool false))))])
 (.cond (tq 40)
 .skip
 (.seq (.mask (bl 402 148) (bl 356811923176489970264571492253073532201728511 148))
 (.exit 0))))
 (.seq (.block 1 (.seq (.reg [oo 43 (.move (tq 7) false),
   oo 44 (.call 176 [((tq 43),0)] []),
   oo 45 (.move (tq 7) false),
   oo 46 (.call 174 [((tq 45),0)] []),
   oo 47 (.build (rp 32 (.sc (.int .u8 0)) (rp 1 (.sc (.int .u32 0)) [])) [(0,32,(tq 44)),(32,1,(tq 46))]),
   oo 48 (.build (rp 32 (.sc (.int .u8 0)) (rp 2 (.sc (.int .u32 0)) (rp 1 (.gs 1 []) []))) [(0,33,(tq 47))]),
   oo 10 (.alloc true (rp 32 (.sc (.int .u8 0)) (rp 2 (.sc (.int .u32 0)) (rp 1 (.gs 1 []) [])))),
   oz (.store 35 (tq 10) (tq 48))])
 (.seq (.reg [oo 49 (.move (tq 7) false),
   oo 50 (.call 174 [((tq 49),0)] []),
   oo 51 (.fieldAddr 33 (tq 10)),
   oz (.store 1 (tq 51) (tq 50))])
 (.reg [oo 52 (.fieldAddr 1 (tq 8)),
   oo 53 (.load false 1 (tq 52) true),
   oo 54 (.load true 35 (tq 10) false),
   oo 55 (.buildSlice 35 1 (rp 32 (.sc (.int .u8 0)) (rp 2 (.sc (.int .u32 0)) (rp 1 (.sl 1 []) []))) [(0,35,(tq 54))]),
   oo 56 (.appendF 35 64 (tq 53) (tq 55)),
   oo 57 (.fieldAddr 1 (tq 8)),
   oz (.store 1 (tq 57) (tq 56))]))))
 (.reg [oo 41 (.move (tq 9) false),
   oo 42 (.bin .sub (tq 41) (.const (.sc (.int .i64 1)))),
   oo 9 (.move (tq 42) false)])))
def zg1:CC:=(.seq (.seq (.reg [oo 116 (.move (tq 7) false),
   oo 117 (.nilCheck (tq 116)),
   oo 118 (.fieldAddr 2 (tq 117)),
   oo 119 (.load false 1 (tq 118) false),
   oo 120 (.bin .eql (tq 119) (.const (.sc (.int .i64 0)))),
   oo 121 (.move (tq 120) false),
   ⟨(some 122),false,(some (121,true)),.move (tq 7) false⟩,
   ⟨(some 123),false,(some (121,true)),.nilCheck (tq 122)⟩,
   ⟨(some 124),false,(some (121,true)),.fieldAddr 1 (tq 123)⟩,
   ⟨(some 125),false,(some (121,true)),.load false 1 (tq 124) false⟩,
   ⟨(some 126),false,(some (121,true)),.move (tq 1) false⟩,
   ⟨(some 127),false,(some (121,true)),.bin .sub (tq 125) (tq 126)⟩,
   ⟨(some 128),false,(some (121,true)),.bin .gtr (tq 127) (.const (.sc (.int .i64 20000)))⟩,
   oo 129 (.pick (tq 121) (tq 128) (.const (.sc (.bool false))))])
 (.cond (tq 129)
 (.reg [oo 130 (.move (tq 7) false),
   oo 131 (.nilCheck (tq 130)),
   oo 132 (.fieldAddr 2 (tq 131)),
   oz (.store 1 (tq 132) (.const (.sc (.int .i64 4))))])
 .skip))
 (.seq (.seq (.reg [oo 133 (.move (tq 7) false),
   oo 134 (.nilCheck (tq 133)),
   oo 135 (.fieldAddr 2 (tq 134)),
   oo 136 (.load false 1 (tq 135) false),
   oo 137 (.bin .neq (tq 136) (.const (.sc (.int .i64 0))))])
 (.cond (tq 137)
 (.seq (.dreg [] [(oo 138 (.build [(.sc (.int .u32 0)),(.sl 35 []),(.sl 2 []),(.sc (.int .u32 0))] []),q0),
   (oo 139 (.move (tq 7) false),q0),
   (oo 140 (.nilCheck (tq 139)),q0),
   (oo 141 (.fieldAddr 2 (tq 140)),q0),
   (oo 142 (.load false 1 (tq 141) false),ql 7 [4] []),
   (oz (.store 4 (tq 4) (tq 138)),ql 4 [7] []),
   (oo 5 (.move (.const (.sc (.int .i64 0))) false),q0),
   (oo 6 (.move (tq 142) false),q0)])
 .ret)
 .skip))
 (.seq (.dreg [100082] [(oo 143 (.loadS 4 (tq 8)),qc [7] []),
   (oo 144 (.move (tq 7) false),q0),
   (oo 145 (.nilCheck (tq 144)),q0),
   (oo 146 (.fieldAddr 1 (tq 145)),q0),
   (oo 147 (.load false 1 (tq 146) false),ql 7 [4] []),
   (oz (.store 4 (tq 4) (tq 143)),ql 4 [7] []),
   (oo 5 (.move (tq 147) false),q0),
   (oo 6 (.move (.const (.sc (.int .i64 0))) false),q0)])
 .ret)))
def zfG:CC:=(.seq (.reg [oo 78 (.move (tq 7) false),
   oo 79 (.call 174 [((tq 78),0)] []),
   oo 80 (.fieldAddr 3 (tq 8)),
   oz (.store 1 (tq 80) (tq 79))])
 (.seq (.seq (.reg [oo 81 (.fieldAddr 1 (tq 8)),
   oo 82 (.pinC false 35 (tq 81)),
   oo 83 (.lenS (tq 82)),
   oo 84 (.move (.const (.sc (.int .i64 0))) false)])
 (.block 4 (.loop (bl 33849922949209616891773330 148) (bl 356811923167403450452650534191100346794757119 148)
 zbq)))
 zg1))
def zf9:CC:=(.seq (.seq (.reg [oo 58 (.move (tq 7) false),
   oo 59 (.call 175 [((tq 58),0),((.const (.sc (.int .i64 64))),0)] []),
   oo 11 (.move (tq 59) false)])
 (.block 2 (.loop (bl 2450 148) (bl 356811923176489970264439266100853434029702143 148)
 zcA)))
 zfG)
def zaP:CF:=⟨148,[.cell 4 true 4,.tmp 5,.tmp 6],
 (.seq (.reg [oo 4 (.alloc true [(.sc (.int .u32 0)),(.gs 35 []),(.gs 2 []),(.sc (.int .u32 0))]),
   oo 5 (.move (.const (.sc (.int .i64 0))) false),
   oo 6 (.move (.const (.sc (.int .i64 0))) false)])
 (.seq (.seq (.reg [oo 14 (.move (tq 1) false),
   oo 15 (.bin .lss (tq 14) (.const (.sc (.int .i64 0)))),
   oo 16 (.move (tq 15) false),
   ⟨(some 17),false,(some (16,false)),.move (tq 1) false⟩,
   ⟨(some 18),false,(some (16,false)),.move (tq 0) false⟩,
   ⟨(some 19),false,(some (16,false)),.lenS (tq 18)⟩,
   ⟨(some 20),false,(some (16,false)),.bin .gtr (tq 17) (tq 19)⟩,
   oo 21 (.pick (tq 16) (.const (.sc (.bool true))) (tq 20))])
 (.cond (tq 21)
 (.seq (.reg [oo 22 (.build [(.sc (.int .u32 0)),(.sl 35 []),(.sl 2 []),(.sc (.int .u32 0))] []),
   oz (.store 4 (tq 4) (tq 22)),
   oo 5 (.move (.const (.sc (.int .i64 0))) false),
   oo 6 (.move (.const (.sc (.int .i64 5))) false)])
 .ret)
 .skip))
 (.seq (.reg [oo 23 (.move (tq 0) false),
   oo 24 (.move (tq 1) false),
   oo 25 (.build [(.gs 1 []),(.sc (.int .i64 0)),(.sc (.int .i64 0))] [(0,1,(tq 23)),(1,1,(tq 24))]),
   oo 26 (.box false (tq 25)),
   oo 7 (.move (tq 26) false)])
 (.seq (.reg [oo 27 (.move (tq 7) false),
   oo 28 (.call 174 [((tq 27),0)] []),
   oo 29 (.buildSt [(.sc (.int .u32 0)),(.gs 35 []),(.gs 2 []),(.sc (.int .u32 0))] [(0,1,(tq 28))]),
   oo 8 (.alloc false [(.sc (.int .u32 0)),(.fr 35 []),(.gs 2 []),(.sc (.int .u32 0))]),
   oz (.storeF 4 (tq 8) (tq 29) [1])])
 (.seq (.seq (.reg [oo 30 (.move (tq 7) false),
   oo 31 (.call 175 [((tq 30),0),((.const (.sc (.int .i64 64))),0)] []),
   oo 9 (.move (tq 31) false)])
 (.block 0 (.loop (bl 914 148) (bl 356811923176489970264571492253073532201729023 148)
 zcZ)))
 zf9)))))⟩
def zqv:Hint:=⟨[(0,0),(8,6),(10,1),(14,1),(22,8),(4,2)],[],[none,none,none,some ((bl 914 148),(bl 356811923176489970264571492253073532201729023 148)),none,some ((bl 402 148),(bl 356811923176489970264571492253073532201728511 148)),none,none,some ((bl 2450 148),(bl 356811923176489970264439266100853434029702143 148)),none,some ((bl 402 148),(bl 356811923176489970264439266100853434029700095 148)),none,none,some ((bl 33849922949209616891773330 148),(bl 356811923167403450452650534191100346794757119 148)),none,some ((bl 4835703278458516698825106 148),(bl 356811923167403450452650534191100346794757119 148)),none,none,some ((bl 33849922949209616891785618 148),(bl 356811923167403450762135544012445415519550463 148)),none,some ((bl 33849922949209616891773330 148),(bl 356811923167403450762135544012445415519542271 148)),none,none,none,none,none],[(28,[100082])],[(3,2,[0]),(4,2,[0]),(8,5,[0]),(4,3,[1]),(4,4,[1]),(10,4,[0]),(16,1,[1]),(28,0,[1,1])],false,false,[(22,82)]⟩
def zB:Nat→Sh:=yP [(108,(.gs 1))]
def xA (zb:xm) (yb:ym) (zc:zm) (ya:zk) (za:xi) (L:Nat):CBC:=(xv 178 (zcW za L) (xv 177 (zdV ya L) (xv 176 (zfa zc L) (xv 175 (ze7 yb L) (xv 174 (zeU zb L) noC)))))
def zfe:St→St:=y4 0 (bl 914 148) (bl 356811923176489970264571492253073532201729023 148)
def zeg:St→St:=y4 0 (bl 2450 148) (bl 356811923176489970264439266100853434029702143 148)
def zaU:St→St:=y4 0 (bl 33849922949209616891773330 148) (bl 356811923167403450452650534191100346794757119 148)
def zbS:St→St:=y4 0 (bl 33849922949209616891785618 148) (bl 356811923167403450762135544012445415519550463 148)
def zds (p1 p9 zJV:Int) (zJW zJX:List (List V)) (zJY zKa:Int) (zKk zKe:List (List V)) (zKb:Int) (zJ8:List (List V)) (zJ7 zJ6:Int):St:=⟨(jn 1 ((V.sc (.int .i64 p1))::(jn 2 ((V.ptr 4 0)::(jn 2 ((V.ptr 26 0)::((V.ptr 8 0)::((V.sc (.int .i64 p9))::(jn 138 []))))))))),(gn 4 ((.live true [(V.sc (.int .u32 zJV)),(V.gs 35 zJW),(V.gs 2 zJX),(V.sc (.int .u32 zJY))])::(gn 3 ((.live false [(V.sc (.int .u32 zKa)),(V.fr 35 zKk),(V.gs 2 zKe),(V.sc (.int .u32 zKb))])::(gn 17 ((.live false [(V.sl 1 zJ8),(V.sc (.int .i64 zJ7)),(V.sc (.int .i64 zJ6))])::(gn 121 [])))))))⟩
def zgZ (p1 zJV:Int) (zJW zJX:List (List V)) (zJY zKa:Int) (zKk zKe:List (List V)) (zKb:Int) (zJ8:List (List V)) (zJ7 zJ6:Int):St:=⟨(jn 1 ((V.sc (.int .i64 p1))::(jn 2 ((V.ptr 4 0)::(jn 2 ((V.ptr 26 0)::((V.ptr 8 0)::(jn 139 [])))))))),(gn 4 ((.live true [(V.sc (.int .u32 zJV)),(V.gs 35 zJW),(V.gs 2 zJX),(V.sc (.int .u32 zJY))])::(gn 3 ((.live false [(V.sc (.int .u32 zKa)),(V.fr 35 zKk),(V.gs 2 zKe),(V.sc (.int .u32 zKb))])::(gn 17 ((.live false [(V.sl 1 zJ8),(V.sc (.int .i64 zJ7)),(V.sc (.int .i64 zJ6))])::(gn 121 [])))))))⟩
def zdc (p1 p11 zJV:Int) (zJW zJX:List (List V)) (zJY zKa:Int) (zKk zKe:List (List V)) (zKb:Int) (zJ8:List (List V)) (zJ7 zJ6:Int):St:=⟨(jn 1 ((V.sc (.int .i64 p1))::(jn 2 ((V.ptr 4 0)::(jn 2 ((V.ptr 26 0)::((V.ptr 8 0)::(jn 2 ((V.sc (.int .i64 p11))::(jn 136 [])))))))))),(gn 4 ((.live true [(V.sc (.int .u32 zJV)),(V.gs 35 zJW),(V.gs 2 zJX),(V.sc (.int .u32 zJY))])::(gn 3 ((.live false [(V.sc (.int .u32 zKa)),(V.fr 35 zKk),(V.gs 2 zKe),(V.sc (.int .u32 zKb))])::(gn 17 ((.live false [(V.sl 1 zJ8),(V.sc (.int .i64 zJ7)),(V.sc (.int .i64 zJ6))])::(gn 121 [])))))))⟩
def zhe (p1 zJV:Int) (zJW zJX:List (List V)) (zJY zKa:Int) (zKk zKe:List (List V)) (zKb:Int) (zJ8:List (List V)) (zJ7 zJ6:Int):St:=⟨(jn 1 ((V.sc (.int .i64 p1))::(jn 2 ((V.ptr 4 0)::(jn 2 ((V.ptr 26 0)::((V.ptr 8 0)::(jn 139 [])))))))),(gn 4 ((.live true [(V.sc (.int .u32 zJV)),(V.gs 35 zJW),(V.gs 2 zJX),(V.sc (.int .u32 zJY))])::(gn 3 ((.live false [(V.sc (.int .u32 zKa)),(V.fr 35 zKk),(V.gs 2 zKe),(V.sc (.int .u32 zKb))])::(gn 17 ((.live false [(V.sl 1 zJ8),(V.sc (.int .i64 zJ7)),(V.sc (.int .i64 zJ6))])::(gn 121 [])))))))⟩
def za0 (p1:Int) (p82l:Nat) (p83 p84 zJV:Int) (zJW zJX:List (List V)) (zJY zKa:Int) (zKj:Nat) (zKe:List (List V)) (zKb:Int) (zJ8:List (List V)) (zJ7 zJ6:Int) (b82:List V):St:=⟨(jn 1 ((V.sc (.int .i64 p1))::(jn 2 ((V.ptr 4 0)::(jn 2 ((V.ptr 26 0)::((V.ptr 8 0)::(jn 73 ((V.own 82 0 p82l 35)::((V.sc (.int .i64 p83))::((V.sc (.int .i64 p84))::(jn 63 [])))))))))))),(gn 4 ((.live true [(V.sc (.int .u32 zJV)),(V.gs 35 zJW),(V.gs 2 zJX),(V.sc (.int .u32 zJY))])::(gn 3 ((.live false [(V.sc (.int .u32 zKa)),(V.own 82 0 zKj 35),(V.gs 2 zKe),(V.sc (.int .u32 zKb))])::(gn 17 ((.live false [(V.sl 1 zJ8),(V.sc (.int .i64 zJ7)),(V.sc (.int .i64 zJ6))])::(gn 55 ((.live false b82)::(gn 65 [])))))))))⟩
def zbn (p1 p12 p13:Int) (p82l:Nat) (p83 p84 zJV:Int) (zJW zJX:List (List V)) (zJY zKa:Int) (zKj:Nat) (zKe:List (List V)) (zKb:Int) (zJ8:List (List V)) (zJ7 zJ6:Int) (b82:List V):St:=⟨(jn 1 ((V.sc (.int .i64 p1))::(jn 2 ((V.ptr 4 0)::(jn 2 ((V.ptr 26 0)::((V.ptr 8 0)::(jn 3 ((V.sc (.int .i64 p12))::((V.sc (.int .i64 p13))::(jn 68 ((V.own 82 0 p82l 35)::((V.sc (.int .i64 p83))::((V.sc (.int .i64 p84))::(jn 63 []))))))))))))))),(gn 4 ((.live true [(V.sc (.int .u32 zJV)),(V.gs 35 zJW),(V.gs 2 zJX),(V.sc (.int .u32 zJY))])::(gn 3 ((.live false [(V.sc (.int .u32 zKa)),(V.own 82 0 zKj 35),(V.gs 2 zKe),(V.sc (.int .u32 zKb))])::(gn 17 ((.live false [(V.sl 1 zJ8),(V.sc (.int .i64 zJ7)),(V.sc (.int .i64 zJ6))])::(gn 55 ((.live false b82)::(gn 65 [])))))))))⟩
def zg9 (p1:Int) (p82l:Nat) (zJV:Int) (zJW zJX:List (List V)) (zJY zKa:Int) (zKj:Nat) (zKe:List (List V)) (zKb:Int) (zJ8:List (List V)) (zJ7 zJ6:Int) (b82:List V):St:=⟨(jn 1 ((V.sc (.int .i64 p1))::(jn 2 ((V.ptr 4 0)::(jn 2 ((V.ptr 26 0)::((V.ptr 8 0)::(jn 73 ((V.own 82 0 p82l 35)::(jn 65 [])))))))))),(gn 4 ((.live true [(V.sc (.int .u32 zJV)),(V.gs 35 zJW),(V.gs 2 zJX),(V.sc (.int .u32 zJY))])::(gn 3 ((.live false [(V.sc (.int .u32 zKa)),(V.own 82 0 zKj 35),(V.gs 2 zKe),(V.sc (.int .u32 zKb))])::(gn 17 ((.live false [(V.sl 1 zJ8),(V.sc (.int .i64 zJ7)),(V.sc (.int .i64 zJ6))])::(gn 55 ((.live false b82)::(gn 65 [])))))))))⟩
def zks (p1:Int) (p82l:Nat) (p83 p84 zJV:Int) (zJW zJX:List (List V)) (zJY zKa:Int) (zKj:Nat) (zKe:List (List V)) (zKb:Int) (zJ8:List (List V)) (zJ7 zJ6:Int) (b82:List V):St:=⟨(jn 1 ((V.sc (.int .i64 p1))::(jn 2 ((V.ptr 4 0)::(jn 2 ((V.ptr 26 0)::((V.ptr 8 0)::(jn 73 ((V.own 82 0 p82l 35)::((V.sc (.int .i64 p83))::((V.sc (.int .i64 p84))::(jn 63 [])))))))))))),(gn 4 ((.live true [(V.sc (.int .u32 zJV)),(V.gs 35 zJW),(V.gs 2 zJX),(V.sc (.int .u32 zJY))])::(gn 3 ((.live false [(V.sc (.int .u32 zKa)),(V.own 82 0 zKj 35),(V.gs 2 zKe),(V.sc (.int .u32 zKb))])::(gn 17 ((.live false [(V.sl 1 zJ8),(V.sc (.int .i64 zJ7)),(V.sc (.int .i64 zJ6))])::(gn 55 ((.live false b82)::(gn 65 [])))))))))⟩
abbrev zep (β:Type):Type:=Int→Int→Int→List (List V)→List (List V)→Int→Int→List (List V)→List (List V)→Int→List (List V)→Int→Int→Option β
abbrev zgu (β:Type):Type:=Int→Int→List (List V)→List (List V)→Int→Int→List (List V)→List (List V)→Int→List (List V)→Int→Int→Option β
abbrev zdX (β:Type):Type:=Int→Int→Int→List (List V)→List (List V)→Int→Int→List (List V)→List (List V)→Int→List (List V)→Int→Int→Option β
abbrev zgg (β:Type):Type:=Int→Int→List (List V)→List (List V)→Int→Int→List (List V)→List (List V)→Int→List (List V)→Int→Int→Option β
abbrev zfp (β:Type):Type:=Int→Nat→Int→Int→Int→List (List V)→List (List V)→Int→Int→Nat→List (List V)→Int→List (List V)→Int→Int→List V→Option β
abbrev zbC (β:Type):Type:=Int→Int→Int→Nat→Int→Int→Int→List (List V)→List (List V)→Int→Int→Nat→List (List V)→Int→List (List V)→Int→Int→List V→Option β
abbrev zgA (β:Type):Type:=Int→Nat→Int→List (List V)→List (List V)→Int→Int→Nat→List (List V)→Int→List (List V)→Int→Int→List V→Option β
abbrev zdo (β:Type):Type:=Int→Nat→Int→Int→Int→List (List V)→List (List V)→Int→Int→Nat→List (List V)→Int→List (List V)→Int→Int→List V→Option β
def zk1 {β:Type} (zb:xm) (yb:ym) (zc:zm) (ya:zk) (za:xi) (L:Nat) (p0:List (List V)) (p1:Int) (k_fin:List V→Int→Int→Option β) (k_hbbbbaba:zep β):Option β :=
 ifb (decide (p1 < (0:Int))) (
 lt [(V.sc (.int .u32 (0:Int))),(V.sl 35 ([]:List (List V))),(V.sl 2 ([]:List (List V))),(V.sc (.int .u32 (0:Int)))] fun r0 =>
 chk (0=0∧(List.length r0)=4∧4≠0) (
 k_fin r0 (0:Int) (5:Int))) (
 ifb (decide (p1 > ((List.length p0:Nat):Int))) (
 lt [(V.sc (.int .u32 (0:Int))),(V.sl 35 ([]:List (List V))),(V.sl 2 ([]:List (List V))),(V.sc (.int .u32 (0:Int)))] fun r1 =>
 chk (0=0∧(List.length r1)=4∧4≠0) (
 k_fin r1 (0:Int) (5:Int))) (
 zb β L p0 p1 (0:Int) (fun v2 v3 v4 v5 =>
 yb β L (64:Int) v3 v4 v5 (fun v6 v7 v8 v9 =>
 k_hbbbbaba p1 v6 (0:Int) ([]:List (List V)) ([]:List (List V)) (0:Int) v2 ([]:List (List V)) ([]:List (List V)) (0:Int) v7 v8 v9))))
theorem zye {β:Type} (zb:xm) (yb:ym) (zc:zm) (ya:zk) (za:xi) (L:Nat) (p0:List (List V)) (p1:Int) (k:KK β):yt zB (xA zb yb zc ya za L) L zaP [(V.sl 1 p0),(V.sc (.int .i64 p1))] [] k=zk1 zb yb zc ya za L p0 p1 (fun zKg zKh zKi=>k (V.tup [(V.agg zKg),(V.sc (.int .i64 zKh)),(V.sc (.int .i64 zKi))]) []) (fun p1 p9 zJV zJW zJX zJY zKa zKk zKe zKb zJ8 zJ7 zJ6=>yB (yk zB (xA zb yb zc ya za L) 0 L zcZ) zfe L (zds p1 p9 zJV zJW zJX zJY zKa zKk zKe zKb zJ8 zJ7 zJ6) (zw 0 (yR (yk zB (xA zb yb zc ya za L) 0 L zf9) (y6 0 (CF.res zaP) k)))):=by kernel_rfl
def zcp {β:Type} (zb:xm) (yb:ym) (zc:zm) (ya:zk) (za:xi) (L:Nat) (p1 p9 zJV:Int) (zJW zJX:List (List V)) (zJY zKa:Int) (zKk zKe:List (List V)) (zKb:Int) (zJ8:List (List V)) (zJ7 zJ6:Int) (k_hbbbbaba:zep β) (k_x0:zgu β):Option β :=
 ifb (decide (p9 > (0:Int))) (
 ifb ((zJ6:Int) == (0:Int)) (
 zc β L zJ8 zJ7 zJ6 (fun v10 v11 v12 v13 =>
 zb β L v11 v12 v13 (fun v14 v15 v16 v17 =>
 chk ((List.length v10)=32∧0+32≤33) (
 chk (1=1∧32+1≤(List.length (yl (List.replicate 32 (V.sc (.int .u8 (0:Int)))++[(V.sc (.int .u32 (0:Int)))]) 0 v10))) (
 chk ((List.length (yl (yl (List.replicate 32 (V.sc (.int .u8 (0:Int)))++[(V.sc (.int .u32 (0:Int)))]) 0 v10) 32 [(V.sc (.int .u32 v14))]))=33∧0+33≤35) (
 chk ((List.length (yl (List.replicate 32 (V.sc (.int .u8 (0:Int)))++[(V.sc (.int .u32 (0:Int))),(V.sc (.int .u32 (0:Int))),(V.gs 1 ([]:List (List V)))]) 0 (yl (yl (List.replicate 32 (V.sc (.int .u8 (0:Int)))++[(V.sc (.int .u32 (0:Int)))]) 0 v10) 32 [(V.sc (.int .u32 v14))])))=35∧0+35≤35) (
 lt (yl (List.replicate 32 (V.sc (.int .u8 (0:Int)))++[(V.sc (.int .u32 (0:Int))),(V.sc (.int .u32 (0:Int))),(V.gs 1 ([]:List (List V)))]) 0 (yl (List.replicate 32 (V.sc (.int .u8 (0:Int)))++[(V.sc (.int .u32 (0:Int))),(V.sc (.int .u32 (0:Int))),(V.gs 1 ([]:List (List V)))]) 0 (yl (yl (List.replicate 32 (V.sc (.int .u8 (0:Int)))++[(V.sc (.int .u32 (0:Int)))]) 0 v10) 32 [(V.sc (.int .u32 v14))]))) fun r18 =>
 zb β L v15 v16 v17 (fun v19 v20 v21 v22 =>
 chk (1=1∧33+1≤(List.length r18)) (
 lt (yl r18 33 [(V.sc (.int .u32 v19))]) fun r23 =>
 chk (0+35≤(List.length r23)) (
 chk ((List.length (List.take 35 r23))=35∧0+35≤35) (
 chk ((List.length zKk+List.length (xj 35 1 (yl (List.replicate 32 (V.sc (.int .u8 (0:Int)))++[(V.sc (.int .u32 (0:Int))),(V.sc (.int .u32 (0:Int))),(V.sl 1 ([]:List (List V)))]) 0 (List.take 35 r23)))) * 64≤yn∧List.length zKk+List.length (xj 35 1 (yl (List.replicate 32 (V.sc (.int .u8 (0:Int)))++[(V.sc (.int .u32 (0:Int))),(V.sc (.int .u32 (0:Int))),(V.sl 1 ([]:List (List V)))]) 0 (List.take 35 r23)))≤yn∧List.length zKk+List.length (xj 35 1 (yl (List.replicate 32 (V.sc (.int .u8 (0:Int)))++[(V.sc (.int .u32 (0:Int))),(V.sc (.int .u32 (0:Int))),(V.sl 1 ([]:List (List V)))]) 0 (List.take 35 r23)))≠0) (
 lt (zKk++(xj 35 1 (yl (List.replicate 32 (V.sc (.int .u8 (0:Int)))++[(V.sc (.int .u32 (0:Int))),(V.sc (.int .u32 (0:Int))),(V.sl 1 ([]:List (List V)))]) 0 (List.take 35 r23)))) fun l24 =>
 lt (IntKind.wrap .i64 ((p9:Int) - (1:Int))) fun x25 =>
 k_hbbbbaba p1 x25 zJV zJW zJX zJY zKa l24 zKe zKb v20 v21 v22)))))))))))) (
 k_x0 p1 zJV zJW zJX zJY zKa zKk zKe zKb zJ8 zJ7 zJ6)) (
 k_x0 p1 zJV zJW zJX zJY zKa zKk zKe zKb zJ8 zJ7 zJ6)
theorem zrA {β:Type} (zb:xm) (yb:ym) (zc:zm) (ya:zk) (za:xi) (L:Nat) (p1 p9 zJV:Int) (zJW zJX:List (List V)) (zJY zKa:Int) (zKk zKe:List (List V)) (zKb:Int) (zJ8:List (List V)) (zJ7 zJ6:Int) (X:St→Option β) (K:KT β):yk zB (xA zb yb zc ya za L) 0 L zcZ (zds p1 p9 zJV zJW zJX zJY zKa zKk zKe zKb zJ8 zJ7 zJ6) (y9 zfe X K)=zcp zb yb zc ya za L p1 p9 zJV zJW zJX zJY zKa zKk zKe zKb zJ8 zJ7 zJ6 (fun p1 p9 zJV zJW zJX zJY zKa zKk zKe zKb zJ8 zJ7 zJ6=>X (zds p1 p9 zJV zJW zJX zJY zKa zKk zKe zKb zJ8 zJ7 zJ6)) (fun p1 zJV zJW zJX zJY zKa zKk zKe zKb zJ8 zJ7 zJ6=>K (.exit 0) (zgZ p1 zJV zJW zJX zJY zKa zKk zKe zKb zJ8 zJ7 zJ6)):=by kernel_rfl
def zdU {β:Type} (zb:xm) (yb:ym) (zc:zm) (ya:zk) (za:xi) (L:Nat) (p1 zJV:Int) (zJW zJX:List (List V)) (zJY zKa:Int) (zKk zKe:List (List V)) (zKb:Int) (zJ8:List (List V)) (zJ7 zJ6:Int) (k_hbbbbbaba:zdX β):Option β :=
 yb β L (64:Int) zJ8 zJ7 zJ6 (fun v26 v27 v28 v29 =>
 k_hbbbbbaba p1 v26 zJV zJW zJX zJY zKa zKk zKe zKb v27 v28 v29)
theorem zpM {β:Type} (zb:xm) (yb:ym) (zc:zm) (ya:zk) (za:xi) (L:Nat) (p1 zJV:Int) (zJW zJX:List (List V)) (zJY zKa:Int) (zKk zKe:List (List V)) (zKb:Int) (zJ8:List (List V)) (zJ7 zJ6:Int) (k:KK β):(zw 0 (yR (yk zB (xA zb yb zc ya za L) 0 L zf9) (y6 0 (CF.res zaP) k))) (.exit 0) (zgZ p1 zJV zJW zJX zJY zKa zKk zKe zKb zJ8 zJ7 zJ6)=zdU zb yb zc ya za L p1 zJV zJW zJX zJY zKa zKk zKe zKb zJ8 zJ7 zJ6 (fun p1 p11 zJV zJW zJX zJY zKa zKk zKe zKb zJ8 zJ7 zJ6=>yB (yk zB (xA zb yb zc ya za L) 0 L zcA) zeg L (zdc p1 p11 zJV zJW zJX zJY zKa zKk zKe zKb zJ8 zJ7 zJ6) (zw 2 (yR (yk zB (xA zb yb zc ya za L) 0 L zfG) (y6 0 (CF.res zaP) k)))):=by kernel_rfl
def zce {β:Type} (zb:xm) (yb:ym) (zc:zm) (ya:zk) (za:xi) (L:Nat) (p1 p11 zJV:Int) (zJW zJX:List (List V)) (zJY zKa:Int) (zKk zKe:List (List V)) (zKb:Int) (zJ8:List (List V)) (zJ7 zJ6:Int) (k_hbbbbbaba:zdX β) (k_x2:zgg β):Option β :=
 ifb (decide (p11 > (0:Int))) (
 ifb ((zJ6:Int) == (0:Int)) (
 ya β L zJ8 zJ7 zJ6 (fun v30 v31 v32 v33 =>
 chk ((List.length v30)=2∧0+2≤2) (
 chk ((List.length zKe+List.length (xj 2 1 (yl [(V.sc (.int .i64 (0:Int))),(V.sl 1 ([]:List (List V)))] 0 v30))) * 32≤yn∧List.length zKe+List.length (xj 2 1 (yl [(V.sc (.int .i64 (0:Int))),(V.sl 1 ([]:List (List V)))] 0 v30))≤yn) (
 lt (zKe++(xj 2 1 (yl [(V.sc (.int .i64 (0:Int))),(V.sl 1 ([]:List (List V)))] 0 v30))) fun l34 =>
 lt (IntKind.wrap .i64 ((p11:Int) - (1:Int))) fun x35 =>
 k_hbbbbbaba p1 x35 zJV zJW zJX zJY zKa zKk l34 zKb v31 v32 v33)))) (
 k_x2 p1 zJV zJW zJX zJY zKa zKk zKe zKb zJ8 zJ7 zJ6)) (
 k_x2 p1 zJV zJW zJX zJY zKa zKk zKe zKb zJ8 zJ7 zJ6)
theorem zqj {β:Type} (zb:xm) (yb:ym) (zc:zm) (ya:zk) (za:xi) (L:Nat) (p1 p11 zJV:Int) (zJW zJX:List (List V)) (zJY zKa:Int) (zKk zKe:List (List V)) (zKb:Int) (zJ8:List (List V)) (zJ7 zJ6:Int) (X:St→Option β) (K:KT β):yk zB (xA zb yb zc ya za L) 0 L zcA (zdc p1 p11 zJV zJW zJX zJY zKa zKk zKe zKb zJ8 zJ7 zJ6) (y9 zeg X K)=zce zb yb zc ya za L p1 p11 zJV zJW zJX zJY zKa zKk zKe zKb zJ8 zJ7 zJ6 (fun p1 p11 zJV zJW zJX zJY zKa zKk zKe zKb zJ8 zJ7 zJ6=>X (zdc p1 p11 zJV zJW zJX zJY zKa zKk zKe zKb zJ8 zJ7 zJ6)) (fun p1 zJV zJW zJX zJY zKa zKk zKe zKb zJ8 zJ7 zJ6=>K (.exit 2) (zhe p1 zJV zJW zJX zJY zKa zKk zKe zKb zJ8 zJ7 zJ6)):=by kernel_rfl
def zdy {β:Type} (zb:xm) (yb:ym) (zc:zm) (ya:zk) (za:xi) (L:Nat) (p1 zJV:Int) (zJW zJX:List (List V)) (zJY zKa:Int) (zKk zKe:List (List V)) (zKb:Int) (zJ8:List (List V)) (zJ7 zJ6:Int) (k_hbbbbbbbaba:zfp β):Option β :=
 zb β L zJ8 zJ7 zJ6 (fun v36 v37 v38 v39 =>
 lt (List.flatten zKk) fun r40 =>
 k_hbbbbbbbaba p1 (List.length zKk) (((List.length zKk):Nat):Int) (0:Int) zJV zJW zJX zJY zKa (List.length zKk) zKe v36 v37 v38 v39 (zba (bl 356811923167403450452650534191100346794757119 148) r40))
theorem zoB {β:Type} (zb:xm) (yb:ym) (zc:zm) (ya:zk) (za:xi) (L:Nat) (p1 zJV:Int) (zJW zJX:List (List V)) (zJY zKa:Int) (zKk zKe:List (List V)) (zKb:Int) (zJ8:List (List V)) (zJ7 zJ6:Int) (k:KK β):(zw 2 (yR (yk zB (xA zb yb zc ya za L) 0 L zfG) (y6 0 (CF.res zaP) k))) (.exit 2) (zhe p1 zJV zJW zJX zJY zKa zKk zKe zKb zJ8 zJ7 zJ6)=zdy zb yb zc ya za L p1 zJV zJW zJX zJY zKa zKk zKe zKb zJ8 zJ7 zJ6 (fun p1 p82l p83 p84 zJV zJW zJX zJY zKa zKj zKe zKb zJ8 zJ7 zJ6 b82=>yB (yk zB (xA zb yb zc ya za L) 0 L zbq) zaU L (za0 p1 p82l p83 p84 zJV zJW zJX zJY zKa zKj zKe zKb zJ8 zJ7 zJ6 b82) (zw 4 (yR (yk zB (xA zb yb zc ya za L) 0 L zg1) (y6 0 (CF.res zaP) k)))):=by kernel_rfl
def zcu {β:Type} (zb:xm) (yb:ym) (zc:zm) (ya:zk) (za:xi) (L:Nat) (p1:Int) (p82l:Nat) (p83 p84 zJV:Int) (zJW zJX:List (List V)) (zJY zKa:Int) (zKj:Nat) (zKe:List (List V)) (zKb:Int) (zJ8:List (List V)) (zJ7 zJ6:Int) (b82:List V) (k_hbbbbbbbabaabbaabba:zbC β) (k_x4:zgA β):Option β :=
 ifb (decide (p84 < p83)) (
 yb β L (32:Int) zJ8 zJ7 zJ6 (fun v41 v42 v43 v44 =>
 k_hbbbbbbbabaabbaabba p1 p84 v41 p82l p83 p84 zJV zJW zJX zJY zKa zKj zKe zKb v42 v43 v44 (zba (bl 356811923167403450762135544012445415519550463 148) b82))) (
 k_x4 p1 p82l zJV zJW zJX zJY zKa zKj zKe zKb zJ8 zJ7 zJ6 (zba (bl 356811923167403450452650534191100346794757119 148) b82))
theorem zoW {β:Type} (zb:xm) (yb:ym) (zc:zm) (ya:zk) (za:xi) (L:Nat) (p1:Int) (p82l:Nat) (p83 p84 zJV:Int) (zJW zJX:List (List V)) (zJY zKa:Int) (zKj:Nat) (zKe:List (List V)) (zKb:Int) (zJ8:List (List V)) (zJ7 zJ6:Int) (b82:List V) (X:St→Option β) (K:KT β):yk zB (xA zb yb zc ya za L) 0 L zbq (za0 p1 p82l p83 p84 zJV zJW zJX zJY zKa zKj zKe zKb zJ8 zJ7 zJ6 b82) (y9 zaU X K)=zcu zb yb zc ya za L p1 p82l p83 p84 zJV zJW zJX zJY zKa zKj zKe zKb zJ8 zJ7 zJ6 b82 (fun p1 p12 p13 p82l p83 p84 zJV zJW zJX zJY zKa zKj zKe zKb zJ8 zJ7 zJ6 b82=>yB (yk zB (xA zb yb zc ya za L) 0 L zaN) zbS L (zbn p1 p12 p13 p82l p83 p84 zJV zJW zJX zJY zKa zKj zKe zKb zJ8 zJ7 zJ6 b82) (zw 6 (zw 5 (yR (yk zB (xA zb yb zc ya za L) 0 L zd5) (y9 zaU X K))))) (fun p1 p82l zJV zJW zJX zJY zKa zKj zKe zKb zJ8 zJ7 zJ6 b82=>K (.exit 4) (zg9 p1 p82l zJV zJW zJX zJY zKa zKj zKe zKb zJ8 zJ7 zJ6 b82)):=by kernel_rfl
def xZ {β:Type} (zb:xm) (yb:ym) (zc:zm) (ya:zk) (za:xi) (L:Nat) (p1:Int) (p82l:Nat) (zJV:Int) (zJW zJX:List (List V)) (zJY zKa:Int) (zKj:Nat) (zKe:List (List V)) (zKb:Int) (zJ8:List (List V)) (zJ7 zJ6:Int) (b82:List V) (k_fin:List V→Int→Int→Option β):Option β :=
 ifb ((zJ6:Int) == (0:Int)) (
 lt (IntKind.wrap .i64 ((zJ7:Int) - p1)) fun x45 =>
 ifb (decide (x45 > (20000:Int))) (
 lt [(V.sc (.int .u32 (0:Int))),(V.sl 35 ([]:List (List V))),(V.sl 2 ([]:List (List V))),(V.sc (.int .u32 (0:Int)))] fun r46 =>
 chk (0=0∧(List.length r46)=4∧4≠0) (
 k_fin r46 (0:Int) (4:Int))) (
 ifb ((zJ6:Int) != (0:Int)) (
 lt [(V.sc (.int .u32 (0:Int))),(V.sl 35 ([]:List (List V))),(V.sl 2 ([]:List (List V))),(V.sc (.int .u32 (0:Int)))] fun r47 =>
 chk (0=0∧(List.length r47)=4∧4≠0) (
 k_fin r47 (0:Int) zJ6)) (
 lc b82 (
 chk (zKj=0) (
 lt [(V.sc (.int .u32 zKa)),(V.sl 35 ([]:List (List V))),(V.sl 2 zKe),(V.sc (.int .u32 zKb))] fun r51 =>
 chk (0=0∧(List.length r51)=4∧4≠0) (
 k_fin r51 zJ7 (0:Int)))) (fun h48 t49 =>
 zc4 (h48::t49) fun f50 =>
 lt [(V.sc (.int .u32 zKa)),(V.sl 35 (xj 35 zKj f50)),(V.sl 2 zKe),(V.sc (.int .u32 zKb))] fun r52 =>
 chk (0=0∧(List.length r52)=4∧4≠0) (
 k_fin r52 zJ7 (0:Int)))))) (
 ifb ((zJ6:Int) != (0:Int)) (
 lt [(V.sc (.int .u32 (0:Int))),(V.sl 35 ([]:List (List V))),(V.sl 2 ([]:List (List V))),(V.sc (.int .u32 (0:Int)))] fun r53 =>
 chk (0=0∧(List.length r53)=4∧4≠0) (
 k_fin r53 (0:Int) zJ6)) (
 lc b82 (
 chk (zKj=0) (
 lt [(V.sc (.int .u32 zKa)),(V.sl 35 ([]:List (List V))),(V.sl 2 zKe),(V.sc (.int .u32 zKb))] fun r57 =>
 chk (0=0∧(List.length r57)=4∧4≠0) (
 k_fin r57 zJ7 (0:Int)))) (fun h54 t55 =>
 zc4 (h54::t55) fun f56 =>
 lt [(V.sc (.int .u32 zKa)),(V.sl 35 (xj 35 zKj f56)),(V.sl 2 zKe),(V.sc (.int .u32 zKb))] fun r58 =>
 chk (0=0∧(List.length r58)=4∧4≠0) (
 k_fin r58 zJ7 (0:Int)))))
theorem znk {β:Type} (zb:xm) (yb:ym) (zc:zm) (ya:zk) (za:xi) (L:Nat) (p1:Int) (p82l:Nat) (zJV:Int) (zJW zJX:List (List V)) (zJY zKa:Int) (zKj:Nat) (zKe:List (List V)) (zKb:Int) (zJ8:List (List V)) (zJ7 zJ6:Int) (b82:List V) (k:KK β):(zw 4 (yR (yk zB (xA zb yb zc ya za L) 0 L zg1) (y6 0 (CF.res zaP) k))) (.exit 4) (zg9 p1 p82l zJV zJW zJX zJY zKa zKj zKe zKb zJ8 zJ7 zJ6 b82)=xZ zb yb zc ya za L p1 p82l zJV zJW zJX zJY zKa zKj zKe zKb zJ8 zJ7 zJ6 b82 (fun zKg zKh zKi=>k (V.tup [(V.agg zKg),(V.sc (.int .i64 zKh)),(V.sc (.int .i64 zKi))]) []):=by kernel_rfl
def zar {β:Type} (zb:xm) (yb:ym) (zc:zm) (ya:zk) (za:xi) (L:Nat) (p1 p12 p13:Int) (p82l:Nat) (p83 p84 zJV:Int) (zJW zJX:List (List V)) (zJY zKa:Int) (zKj:Nat) (zKe:List (List V)) (zKb:Int) (zJ8:List (List V)) (zJ7 zJ6:Int) (b82:List V) (k_hbbbbbbbabaabbaabba:zbC β) (k_x6:zdo β):Option β :=
 ifb (decide (p13 > (0:Int))) (
 ifb ((zJ6:Int) == (0:Int)) (
 chk (0≤p12∧p12 < ((zKj:Nat):Int)) (
 cG 1 b82 ((0+((Int.toNat p12) * 35))+34) fun g59 =>
 za β L (520:Int) zJ8 zJ7 zJ6 (fun v60 v61 v62 v63 =>
 chk ((List.length g59+List.length (xj 1 1 [(V.sl 1 v60)])) * 24≤yn∧List.length g59+List.length (xj 1 1 [(V.sl 1 v60)])≤yn) (
 lt (g59++(xj 1 1 [(V.sl 1 v60)])) fun l64 =>
 chk (0≤p12∧p12 < ((zKj:Nat):Int)) (
 chk (1=1∧((0+((Int.toNat p12) * 35))+34) < (List.length (List.set b82 ((0+((Int.toNat p12) * 35))+34) (V.sl 1 g59)))) (
 lt (IntKind.wrap .i64 ((p13:Int) - (1:Int))) fun x65 =>
 k_hbbbbbbbabaabbaabba p1 p12 x65 p82l p83 p84 zJV zJW zJX zJY zKa zKj zKe zKb v61 v62 v63 (zba (bl 356811923167403450762135544012445415519550463 148) (List.set (List.set b82 ((0+((Int.toNat p12) * 35))+34) (V.sl 1 g59)) ((0+((Int.toNat p12) * 35))+34) (V.gs 1 l64))))))) (fun v66 v67 v68 v69 =>
 chk ((List.length g59+List.length (xj 1 1 [(V.sl 1 v66)])) * 24≤yn∧List.length g59+List.length (xj 1 1 [(V.sl 1 v66)])≤yn) (
 lt (g59++(xj 1 1 [(V.sl 1 v66)])) fun l70 =>
 chk (0≤p12∧p12 < ((zKj:Nat):Int)) (
 chk (1=1∧((0+((Int.toNat p12) * 35))+34) < (List.length (List.set b82 ((0+((Int.toNat p12) * 35))+34) (V.sl 1 g59)))) (
 lt (IntKind.wrap .i64 ((p13:Int) - (1:Int))) fun x71 =>
 k_hbbbbbbbabaabbaabba p1 p12 x71 p82l p83 p84 zJV zJW zJX zJY zKa zKj zKe zKb v67 v68 v69 (zba (bl 356811923167403450762135544012445415519550463 148) (List.set (List.set b82 ((0+((Int.toNat p12) * 35))+34) (V.sl 1 g59)) ((0+((Int.toNat p12) * 35))+34) (V.gs 1 l70))))))))) (
 k_x6 p1 p82l p83 p84 zJV zJW zJX zJY zKa zKj zKe zKb zJ8 zJ7 zJ6 (zba (bl 356811923167403450762135544012445415519542271 148) b82))) (
 k_x6 p1 p82l p83 p84 zJV zJW zJX zJY zKa zKj zKe zKb zJ8 zJ7 zJ6 (zba (bl 356811923167403450762135544012445415519542271 148) b82))
theorem zjo {β:Type} (zb:xm) (yb:ym) (zc:zm) (ya:zk) (za:xi) (L:Nat) (p1 p12 p13:Int) (p82l:Nat) (p83 p84 zJV:Int) (zJW zJX:List (List V)) (zJY zKa:Int) (zKj:Nat) (zKe:List (List V)) (zKb:Int) (zJ8:List (List V)) (zJ7 zJ6:Int) (b82:List V) (X:St→Option β) (K:KT β):yk zB (xA zb yb zc ya za L) 0 L zaN (zbn p1 p12 p13 p82l p83 p84 zJV zJW zJX zJY zKa zKj zKe zKb zJ8 zJ7 zJ6 b82) (y9 zbS X K)=zar zb yb zc ya za L p1 p12 p13 p82l p83 p84 zJV zJW zJX zJY zKa zKj zKe zKb zJ8 zJ7 zJ6 b82 (fun p1 p12 p13 p82l p83 p84 zJV zJW zJX zJY zKa zKj zKe zKb zJ8 zJ7 zJ6 b82=>X (zbn p1 p12 p13 p82l p83 p84 zJV zJW zJX zJY zKa zKj zKe zKb zJ8 zJ7 zJ6 b82)) (fun p1 p82l p83 p84 zJV zJW zJX zJY zKa zKj zKe zKb zJ8 zJ7 zJ6 b82=>K (.exit 6) (zks p1 p82l p83 p84 zJV zJW zJX zJY zKa zKj zKe zKb zJ8 zJ7 zJ6 b82)):=by kernel_rfl
def yE {β:Type} (zb:xm) (yb:ym) (zc:zm) (ya:zk) (za:xi) (L:Nat) (p1:Int) (p82l:Nat) (p83 p84 zJV:Int) (zJW zJX:List (List V)) (zJY zKa:Int) (zKj:Nat) (zKe:List (List V)) (zKb:Int) (zJ8:List (List V)) (zJ7 zJ6:Int) (b82:List V) (k_hbbbbbbbaba:zfp β):Option β :=
 lt (IntKind.wrap .i64 ((p84:Int)+(1:Int))) fun x72 =>
 k_hbbbbbbbaba p1 p82l p83 x72 zJV zJW zJX zJY zKa zKj zKe zKb zJ8 zJ7 zJ6 (zba (bl 356811923167403450452650534191100346794757119 148) b82)
theorem ziG {β:Type} (zb:xm) (yb:ym) (zc:zm) (ya:zk) (za:xi) (L:Nat) (p1:Int) (p82l:Nat) (p83 p84 zJV:Int) (zJW zJX:List (List V)) (zJY zKa:Int) (zKj:Nat) (zKe:List (List V)) (zKb:Int) (zJ8:List (List V)) (zJ7 zJ6:Int) (b82:List V) (X:St→Option β) (K:KT β):(zw 6 (zw 5 (yR (yk zB (xA zb yb zc ya za L) 0 L zd5) (y9 zaU X K)))) (.exit 6) (zks p1 p82l p83 p84 zJV zJW zJX zJY zKa zKj zKe zKb zJ8 zJ7 zJ6 b82)=yE zb yb zc ya za L p1 p82l p83 p84 zJV zJW zJX zJY zKa zKj zKe zKb zJ8 zJ7 zJ6 b82 (fun p1 p82l p83 p84 zJV zJW zJX zJY zKa zKj zKe zKb zJ8 zJ7 zJ6 b82=>X (za0 p1 p82l p83 p84 zJV zJW zJX zJY zKa zKj zKe zKb zJ8 zJ7 zJ6 b82)):=by kernel_rfl
def y8 {β:Type} (zb:xm) (yb:ym) (zc:zm) (ya:zk) (za:xi) (L:Nat) (k_x0:zgu β):Nat→Int→Int→Int→List (List V)→List (List V)→Int→Int→List (List V)→List (List V)→Int→List (List V)→Int→Int→Option β
 | 0,_,_,_,_,_,_,_,_,_,_,_,_,_=>none
 | n+1,p1,p9,zJV,zJW,zJX,zJY,zKa,zKk,zKe,zKb,zJ8,zJ7,zJ6=>zcp zb yb zc ya za L p1 p9 zJV zJW zJX zJY zKa zKk zKe zKb zJ8 zJ7 zJ6 (fun p1 p9 zJV zJW zJX zJY zKa zKk zKe zKb zJ8 zJ7 zJ6=>y8 zb yb zc ya za L k_x0 n p1 p9 zJV zJW zJX zJY zKa zKk zKe zKb zJ8 zJ7 zJ6) k_x0
theorem zjn {β:Type} (zb:xm) (yb:ym) (zc:zm) (ya:zk) (za:xi) (L:Nat) (K:KT β):∀ (n:Nat) (p1 p9 zJV:Int) (zJW zJX:List (List V)) (zJY zKa:Int) (zKk zKe:List (List V)) (zKb:Int) (zJ8:List (List V)) (zJ7 zJ6:Int),yB (yk zB (xA zb yb zc ya za L) 0 L zcZ) zfe n (zds p1 p9 zJV zJW zJX zJY zKa zKk zKe zKb zJ8 zJ7 zJ6) K=y8 zb yb zc ya za L (fun p1 zJV zJW zJX zJY zKa zKk zKe zKb zJ8 zJ7 zJ6=>K (.exit 0) (zgZ p1 zJV zJW zJX zJY zKa zKk zKe zKb zJ8 zJ7 zJ6)) n p1 p9 zJV zJW zJX zJY zKa zKk zKe zKb zJ8 zJ7 zJ6:=by
 intro n
 induction n with
 | zero=>intros; rfl
 | succ n ih =>
  intro p1 p9 zJV zJW zJX zJY zKa zKk zKe zKb zJ8 zJ7 zJ6
  refine (zrA zb yb zc ya za L p1 p9 zJV zJW zJX zJY zKa zKk zKe zKb zJ8 zJ7 zJ6 (fun σ=>yB (yk zB (xA zb yb zc ya za L) 0 L zcZ) zfe n σ K) K).trans ?_
  simp only [ih]
  rfl
def zX {β:Type} (zb:xm) (yb:ym) (zc:zm) (ya:zk) (za:xi) (L:Nat) (k_x2:zgg β):Nat→Int→Int→Int→List (List V)→List (List V)→Int→Int→List (List V)→List (List V)→Int→List (List V)→Int→Int→Option β
 | 0,_,_,_,_,_,_,_,_,_,_,_,_,_=>none
 | n+1,p1,p11,zJV,zJW,zJX,zJY,zKa,zKk,zKe,zKb,zJ8,zJ7,zJ6=>zce zb yb zc ya za L p1 p11 zJV zJW zJX zJY zKa zKk zKe zKb zJ8 zJ7 zJ6 (fun p1 p11 zJV zJW zJX zJY zKa zKk zKe zKb zJ8 zJ7 zJ6=>zX zb yb zc ya za L k_x2 n p1 p11 zJV zJW zJX zJY zKa zKk zKe zKb zJ8 zJ7 zJ6) k_x2
theorem zi3 {β:Type} (zb:xm) (yb:ym) (zc:zm) (ya:zk) (za:xi) (L:Nat) (K:KT β):∀ (n:Nat) (p1 p11 zJV:Int) (zJW zJX:List (List V)) (zJY zKa:Int) (zKk zKe:List (List V)) (zKb:Int) (zJ8:List (List V)) (zJ7 zJ6:Int),yB (yk zB (xA zb yb zc ya za L) 0 L zcA) zeg n (zdc p1 p11 zJV zJW zJX zJY zKa zKk zKe zKb zJ8 zJ7 zJ6) K=zX zb yb zc ya za L (fun p1 zJV zJW zJX zJY zKa zKk zKe zKb zJ8 zJ7 zJ6=>K (.exit 2) (zhe p1 zJV zJW zJX zJY zKa zKk zKe zKb zJ8 zJ7 zJ6)) n p1 p11 zJV zJW zJX zJY zKa zKk zKe zKb zJ8 zJ7 zJ6:=by
 intro n
 induction n with
 | zero=>intros; rfl
 | succ n ih =>
  intro p1 p11 zJV zJW zJX zJY zKa zKk zKe zKb zJ8 zJ7 zJ6
  refine (zqj zb yb zc ya za L p1 p11 zJV zJW zJX zJY zKa zKk zKe zKb zJ8 zJ7 zJ6 (fun σ=>yB (yk zB (xA zb yb zc ya za L) 0 L zcA) zeg n σ K) K).trans ?_
  simp only [ih]
  rfl
def yD {β:Type} (zb:xm) (yb:ym) (zc:zm) (ya:zk) (za:xi) (L:Nat) (k_x6:zdo β):Nat→Int→Int→Int→Nat→Int→Int→Int→List (List V)→List (List V)→Int→Int→Nat→List (List V)→Int→List (List V)→Int→Int→List V→Option β
 | 0,_,_,_,_,_,_,_,_,_,_,_,_,_,_,_,_,_,_=>none
 | n+1,p1,p12,p13,p82l,p83,p84,zJV,zJW,zJX,zJY,zKa,zKj,zKe,zKb,zJ8,zJ7,zJ6,b82=>zar zb yb zc ya za L p1 p12 p13 p82l p83 p84 zJV zJW zJX zJY zKa zKj zKe zKb zJ8 zJ7 zJ6 b82 (fun p1 p12 p13 p82l p83 p84 zJV zJW zJX zJY zKa zKj zKe zKb zJ8 zJ7 zJ6 b82=>yD zb yb zc ya za L k_x6 n p1 p12 p13 p82l p83 p84 zJV zJW zJX zJY zKa zKj zKe zKb zJ8 zJ7 zJ6 b82) k_x6
theorem zeu {β:Type} (zb:xm) (yb:ym) (zc:zm) (ya:zk) (za:xi) (L:Nat) (K:KT β):∀ (n:Nat) (p1 p12 p13:Int) (p82l:Nat) (p83 p84 zJV:Int) (zJW zJX:List (List V)) (zJY zKa:Int) (zKj:Nat) (zKe:List (List V)) (zKb:Int) (zJ8:List (List V)) (zJ7 zJ6:Int) (b82:List V),yB (yk zB (xA zb yb zc ya za L) 0 L zaN) zbS n (zbn p1 p12 p13 p82l p83 p84 zJV zJW zJX zJY zKa zKj zKe zKb zJ8 zJ7 zJ6 b82) K=yD zb yb zc ya za L (fun p1 p82l p83 p84 zJV zJW zJX zJY zKa zKj zKe zKb zJ8 zJ7 zJ6 b82=>K (.exit 6) (zks p1 p82l p83 p84 zJV zJW zJX zJY zKa zKj zKe zKb zJ8 zJ7 zJ6 b82)) n p1 p12 p13 p82l p83 p84 zJV zJW zJX zJY zKa zKj zKe zKb zJ8 zJ7 zJ6 b82:=by
 intro n
 induction n with
 | zero=>intros; rfl
 | succ n ih =>
  intro p1 p12 p13 p82l p83 p84 zJV zJW zJX zJY zKa zKj zKe zKb zJ8 zJ7 zJ6 b82
  refine (zjo zb yb zc ya za L p1 p12 p13 p82l p83 p84 zJV zJW zJX zJY zKa zKj zKe zKb zJ8 zJ7 zJ6 b82 (fun σ=>yB (yk zB (xA zb yb zc ya za L) 0 L zaN) zbS n σ K) K).trans ?_
  simp only [ih]
  rfl
def zbp {β:Type} (zb:xm) (yb:ym) (zc:zm) (ya:zk) (za:xi) (L:Nat) (p1:Int) (p82l:Nat) (p83 p84 zJV:Int) (zJW zJX:List (List V)) (zJY zKa:Int) (zKj:Nat) (zKe:List (List V)) (zKb:Int) (zJ8:List (List V)) (zJ7 zJ6:Int) (b82:List V) (k_x4:zgA β) (k_hbbbbbbbaba:zfp β):Option β :=
 zcu zb yb zc ya za L p1 p82l p83 p84 zJV zJW zJX zJY zKa zKj zKe zKb zJ8 zJ7 zJ6 b82 (fun p1 p12 p13 p82l p83 p84 zJV zJW zJX zJY zKa zKj zKe zKb zJ8 zJ7 zJ6 b82=>yD zb yb zc ya za L (fun p1 p82l p83 p84 zJV zJW zJX zJY zKa zKj zKe zKb zJ8 zJ7 zJ6 b82=>yE zb yb zc ya za L p1 p82l p83 p84 zJV zJW zJX zJY zKa zKj zKe zKb zJ8 zJ7 zJ6 b82 k_hbbbbbbbaba) L p1 p12 p13 p82l p83 p84 zJV zJW zJX zJY zKa zKj zKe zKb zJ8 zJ7 zJ6 b82) k_x4
theorem znO {β:Type} (zb:xm) (yb:ym) (zc:zm) (ya:zk) (za:xi) (L:Nat) (p1:Int) (p82l:Nat) (p83 p84 zJV:Int) (zJW zJX:List (List V)) (zJY zKa:Int) (zKj:Nat) (zKe:List (List V)) (zKb:Int) (zJ8:List (List V)) (zJ7 zJ6:Int) (b82:List V) (X:St→Option β) (K:KT β):yk zB (xA zb yb zc ya za L) 0 L zbq (za0 p1 p82l p83 p84 zJV zJW zJX zJY zKa zKj zKe zKb zJ8 zJ7 zJ6 b82) (y9 zaU X K)=zbp zb yb zc ya za L p1 p82l p83 p84 zJV zJW zJX zJY zKa zKj zKe zKb zJ8 zJ7 zJ6 b82 (fun p1 p82l zJV zJW zJX zJY zKa zKj zKe zKb zJ8 zJ7 zJ6 b82=>K (.exit 4) (zg9 p1 p82l zJV zJW zJX zJY zKa zKj zKe zKb zJ8 zJ7 zJ6 b82)) (fun p1 p82l p83 p84 zJV zJW zJX zJY zKa zKj zKe zKb zJ8 zJ7 zJ6 b82=>X (za0 p1 p82l p83 p84 zJV zJW zJX zJY zKa zKj zKe zKb zJ8 zJ7 zJ6 b82)):=by
 refine (zoW zb yb zc ya za L p1 p82l p83 p84 zJV zJW zJX zJY zKa zKj zKe zKb zJ8 zJ7 zJ6 b82 X K).trans ?_
 unfold zbp
 first
  | (simp only [zeu,ziG]; done)
  | (simp only [zeu]; rfl)
def xI {β:Type} (zb:xm) (yb:ym) (zc:zm) (ya:zk) (za:xi) (L:Nat) (k_x4:zgA β):Nat→Int→Nat→Int→Int→Int→List (List V)→List (List V)→Int→Int→Nat→List (List V)→Int→List (List V)→Int→Int→List V→Option β
 | 0,_,_,_,_,_,_,_,_,_,_,_,_,_,_,_,_=>none
 | n+1,p1,p82l,p83,p84,zJV,zJW,zJX,zJY,zKa,zKj,zKe,zKb,zJ8,zJ7,zJ6,b82=>zbp zb yb zc ya za L p1 p82l p83 p84 zJV zJW zJX zJY zKa zKj zKe zKb zJ8 zJ7 zJ6 b82 k_x4 (fun p1 p82l p83 p84 zJV zJW zJX zJY zKa zKj zKe zKb zJ8 zJ7 zJ6 b82=>xI zb yb zc ya za L k_x4 n p1 p82l p83 p84 zJV zJW zJX zJY zKa zKj zKe zKb zJ8 zJ7 zJ6 b82)
theorem zhY {β:Type} (zb:xm) (yb:ym) (zc:zm) (ya:zk) (za:xi) (L:Nat) (K:KT β):∀ (n:Nat) (p1:Int) (p82l:Nat) (p83 p84 zJV:Int) (zJW zJX:List (List V)) (zJY zKa:Int) (zKj:Nat) (zKe:List (List V)) (zKb:Int) (zJ8:List (List V)) (zJ7 zJ6:Int) (b82:List V),yB (yk zB (xA zb yb zc ya za L) 0 L zbq) zaU n (za0 p1 p82l p83 p84 zJV zJW zJX zJY zKa zKj zKe zKb zJ8 zJ7 zJ6 b82) K=xI zb yb zc ya za L (fun p1 p82l zJV zJW zJX zJY zKa zKj zKe zKb zJ8 zJ7 zJ6 b82=>K (.exit 4) (zg9 p1 p82l zJV zJW zJX zJY zKa zKj zKe zKb zJ8 zJ7 zJ6 b82)) n p1 p82l p83 p84 zJV zJW zJX zJY zKa zKj zKe zKb zJ8 zJ7 zJ6 b82:=by
 intro n
 induction n with
 | zero=>intros; rfl
 | succ n ih =>
  intro p1 p82l p83 p84 zJV zJW zJX zJY zKa zKj zKe zKb zJ8 zJ7 zJ6 b82
  refine (znO zb yb zc ya za L p1 p82l p83 p84 zJV zJW zJX zJY zKa zKj zKe zKb zJ8 zJ7 zJ6 b82 (fun σ=>yB (yk zB (xA zb yb zc ya za L) 0 L zbq) zaU n σ K) K).trans ?_
  simp only [ih]
  rfl
def xU {β:Type} (zb:xm) (yb:ym) (zc:zm) (ya:zk) (za:xi) (L:Nat) (p1 zJV:Int) (zJW zJX:List (List V)) (zJY zKa:Int) (zKk zKe:List (List V)) (zKb:Int) (zJ8:List (List V)) (zJ7 zJ6:Int) (k_fin:List V→Int→Int→Option β):Option β :=
 zdy zb yb zc ya za L p1 zJV zJW zJX zJY zKa zKk zKe zKb zJ8 zJ7 zJ6 (fun p1 p82l p83 p84 zJV zJW zJX zJY zKa zKj zKe zKb zJ8 zJ7 zJ6 b82=>xI zb yb zc ya za L (fun p1 p82l zJV zJW zJX zJY zKa zKj zKe zKb zJ8 zJ7 zJ6 b82=>xZ zb yb zc ya za L p1 p82l zJV zJW zJX zJY zKa zKj zKe zKb zJ8 zJ7 zJ6 b82 k_fin) L p1 p82l p83 p84 zJV zJW zJX zJY zKa zKj zKe zKb zJ8 zJ7 zJ6 b82)
theorem znN {β:Type} (zb:xm) (yb:ym) (zc:zm) (ya:zk) (za:xi) (L:Nat) (p1 zJV:Int) (zJW zJX:List (List V)) (zJY zKa:Int) (zKk zKe:List (List V)) (zKb:Int) (zJ8:List (List V)) (zJ7 zJ6:Int) (k:KK β):(zw 2 (yR (yk zB (xA zb yb zc ya za L) 0 L zfG) (y6 0 (CF.res zaP) k))) (.exit 2) (zhe p1 zJV zJW zJX zJY zKa zKk zKe zKb zJ8 zJ7 zJ6)=xU zb yb zc ya za L p1 zJV zJW zJX zJY zKa zKk zKe zKb zJ8 zJ7 zJ6 (fun zKg zKh zKi=>k (V.tup [(V.agg zKg),(V.sc (.int .i64 zKh)),(V.sc (.int .i64 zKi))]) []):=by
 refine (zoB zb yb zc ya za L p1 zJV zJW zJX zJY zKa zKk zKe zKb zJ8 zJ7 zJ6 k).trans ?_
 unfold xU
 first
  | (simp only [zhY,znk]; done)
  | (simp only [zhY]; rfl)
def zaG {β:Type} (zb:xm) (yb:ym) (zc:zm) (ya:zk) (za:xi) (L:Nat) (p1 zJV:Int) (zJW zJX:List (List V)) (zJY zKa:Int) (zKk zKe:List (List V)) (zKb:Int) (zJ8:List (List V)) (zJ7 zJ6:Int) (k_fin:List V→Int→Int→Option β):Option β :=
 zdU zb yb zc ya za L p1 zJV zJW zJX zJY zKa zKk zKe zKb zJ8 zJ7 zJ6 (fun p1 p11 zJV zJW zJX zJY zKa zKk zKe zKb zJ8 zJ7 zJ6=>zX zb yb zc ya za L (fun p1 zJV zJW zJX zJY zKa zKk zKe zKb zJ8 zJ7 zJ6=>xU zb yb zc ya za L p1 zJV zJW zJX zJY zKa zKk zKe zKb zJ8 zJ7 zJ6 k_fin) L p1 p11 zJV zJW zJX zJY zKa zKk zKe zKb zJ8 zJ7 zJ6)
theorem zoK {β:Type} (zb:xm) (yb:ym) (zc:zm) (ya:zk) (za:xi) (L:Nat) (p1 zJV:Int) (zJW zJX:List (List V)) (zJY zKa:Int) (zKk zKe:List (List V)) (zKb:Int) (zJ8:List (List V)) (zJ7 zJ6:Int) (k:KK β):(zw 0 (yR (yk zB (xA zb yb zc ya za L) 0 L zf9) (y6 0 (CF.res zaP) k))) (.exit 0) (zgZ p1 zJV zJW zJX zJY zKa zKk zKe zKb zJ8 zJ7 zJ6)=zaG zb yb zc ya za L p1 zJV zJW zJX zJY zKa zKk zKe zKb zJ8 zJ7 zJ6 (fun zKg zKh zKi=>k (V.tup [(V.agg zKg),(V.sc (.int .i64 zKh)),(V.sc (.int .i64 zKi))]) []):=by
 refine (zpM zb yb zc ya za L p1 zJV zJW zJX zJY zKa zKk zKe zKb zJ8 zJ7 zJ6 k).trans ?_
 unfold zaG
 first
  | (simp only [zi3,znN]; done)
  | (simp only [zi3]; rfl)
def ziq {β:Type} (zb:xm) (yb:ym) (zc:zm) (ya:zk) (za:xi) (L:Nat) (p0:List (List V)) (p1:Int) (k_fin:List V→Int→Int→Option β):Option β :=
 zk1 zb yb zc ya za L p0 p1 k_fin (fun p1 p9 zJV zJW zJX zJY zKa zKk zKe zKb zJ8 zJ7 zJ6=>y8 zb yb zc ya za L (fun p1 zJV zJW zJX zJY zKa zKk zKe zKb zJ8 zJ7 zJ6=>zaG zb yb zc ya za L p1 zJV zJW zJX zJY zKa zKk zKe zKb zJ8 zJ7 zJ6 k_fin) L p1 p9 zJV zJW zJX zJY zKa zKk zKe zKb zJ8 zJ7 zJ6)
theorem zxB {β:Type} (zb:xm) (yb:ym) (zc:zm) (ya:zk) (za:xi) (L:Nat) (p0:List (List V)) (p1:Int) (k:KK β):yt zB (xA zb yb zc ya za L) L zaP [(V.sl 1 p0),(V.sc (.int .i64 p1))] [] k=ziq zb yb zc ya za L p0 p1 (fun zKg zKh zKi=>k (V.tup [(V.agg zKg),(V.sc (.int .i64 zKh)),(V.sc (.int .i64 zKi))]) []):=by
 refine (zye zb yb zc ya za L p0 p1 k).trans ?_
 unfold ziq
 first
  | (simp only [zjn,zoK]; done)
  | (simp only [zjn]; rfl)
abbrev zeN:=∀ (β:Type),Nat→List (List V)→Int→(List V→Int→Int→Option β)→Option β
def xE (β:Type) (L:Nat) (p0:List (List V)) (p1:Int) (k_fin:List V→Int→Int→Option β):Option β:=ziq zb yb zc ya za L p0 p1 k_fin
def zia (xE:zeN) (L:Nat) (β:Type) (args:List V) (bor:Bor) (k:KK β):Option β:=match args,bor with
 | [a0,a1],[]=>aL 1 a0 fun p0=>aI .i64 a1 fun p1=>xE β L p0 p1 (fun zKg zKh zKi=>k (V.tup [(V.agg zKg),(V.sc (.int .i64 zKh)),(V.sc (.int .i64 zKi))]) [])
 | _,_=>none
theorem zyT (L:Nat) (β:Type) (args:List V) (bor:Bor) (k:KK β) (r:β) (h:zia xE L β args bor k=some r):yt zB (xA zb yb zc ya za L) L zaP args bor k=some r:=by
 unfold zia at h
 split at h
 ·have q:=zM h; clear h; obtain ⟨p0,rfl,h⟩:=q
  have q:=zy h; clear h; obtain ⟨p1,rfl,h⟩:=q
  exact (zxB zb yb zc ya za L p0 p1 k).trans h
 ·cases h
def zlC:CF:=⟨19,[.tmp 4],
 (.seq (.reg [oo 4 (.move (.const (.sc (.int .i64 0))) false)])
 (.seq (.block 0 (.seq (.reg [oo 6 (.move (tq 1) false),
   oo 7 (.bin .lss (tq 6) (.const (.sc (.int .i64 0)))),
   oo 8 (.move (tq 7) false),
   ⟨(some 9),false,(some (8,false)),.move (tq 1) false⟩,
   ⟨(some 10),false,(some (8,false)),.move (tq 0) false⟩,
   ⟨(some 11),false,(some (8,false)),.lenS (tq 10)⟩,
   ⟨(some 12),false,(some (8,false)),.bin .gtr (tq 9) (tq 11)⟩,
   oo 13 (.pick (tq 8) (.const (.sc (.bool true))) (tq 12)),
   oo 5 (.move (tq 13) false)])
 (.cond (tq 5)
 (.seq (.reg [oo 4 (.move (.const (.sc (.int .i64 5))) false)])
 .ret)
 (.seq (.reg [oo 15 (.move (tq 1) false),
   oo 16 (.move (tq 0) false),
   oo 17 (.lenS (tq 16)),
   oo 18 (.bin .lss (tq 15) (tq 17)),
   oo 14 (.move (tq 18) false)])
 (.cond (tq 14)
 (.seq (.reg [oo 4 (.move (.const (.sc (.int .i64 2))) false)])
 .ret)
 .skip)))))
 (.seq (.reg [oo 4 (.move (.const (.sc (.int .i64 0))) false)])
 .ret)))⟩
def zr9:Hint:=⟨[],[],[none,none,none,none,none,none],[],[],false,false,[]⟩
def zpk:Nat→Sh:=yP []
def zpu (L:Nat):CBC:=noC
def zrD {β:Type} (L:Nat) (p0:List (List V)) (p1:Int) (k_fin:Int→Option β):Option β :=
 ifb (decide (p1 < (0:Int))) (
 k_fin (5:Int)) (
 ifb (decide (p1 > ((List.length p0:Nat):Int))) (
 k_fin (5:Int)) (
 ifb (decide (p1 < ((List.length p0:Nat):Int))) (
 k_fin (2:Int)) (
 k_fin (0:Int))))
theorem zzT {β:Type} (L:Nat) (p0:List (List V)) (p1:Int) (k:KK β):yt zpk (zpu L) L zlC [(V.sl 1 p0),(V.sc (.int .i64 p1))] [] k=zrD L p0 p1 (fun p0=>k (V.sc (.int .i64 p0)) []):=by kernel_rfl
abbrev zmK:=∀ (β:Type),Nat→List (List V)→Int→(Int→Option β)→Option β
def zaC (β:Type) (L:Nat) (p0:List (List V)) (p1:Int) (k_fin:Int→Option β):Option β:=zrD L p0 p1 k_fin
def zmO (zaC:zmK) (L:Nat) (β:Type) (args:List V) (bor:Bor) (k:KK β):Option β:=match args,bor with
 | [a0,a1],[]=>aL 1 a0 fun p0=>aI .i64 a1 fun p1=>zaC β L p0 p1 (fun p0=>k (V.sc (.int .i64 p0)) [])
 | _,_=>none
theorem zzH (L:Nat) (β:Type) (args:List V) (bor:Bor) (k:KK β) (r:β) (h:zmO zaC L β args bor k=some r):yt zpk (zpu L) L zlC args bor k=some r:=by
 unfold zmO at h
 split at h
 ·have q:=zM h; clear h; obtain ⟨p0,rfl,h⟩:=q
  have q:=zy h; clear h; obtain ⟨p1,rfl,h⟩:=q
  exact (zzT L p0 p1 k).trans h
 ·cases h
def zk6:CF:=⟨23,[.cell 2 true 4,.tmp 3],
 (.seq (.reg [oo 2 (.alloc true [(.sc (.int .u32 0)),(.gs 35 []),(.gs 2 []),(.sc (.int .u32 0))]),
   oo 3 (.move (.const (.sc (.int .i64 0))) false)])
 (.seq (.reg [oo 8 (.move (tq 0) false),
   oo 9 (.call 139 [((tq 8),0),((.const (.sc (.int .i64 0))),0)] []),
   oo 7 (.move (tq 9) true),
   oo 10 (.pull (tq 7) 0),
   oo 11 (.pull (tq 7) 1),
   oo 12 (.pull (tq 7) 2),
   oo 4 (.alloc true [(.sc (.int .u32 0)),(.gs 35 []),(.gs 2 []),(.sc (.int .u32 0))]),
   oz (.store 4 (tq 4) (tq 10)),
   oo 5 (.move (tq 11) false),
   oo 6 (.move (tq 12) false)])
 (.seq (.seq (.reg [oo 13 (.move (tq 6) false),
   oo 14 (.bin .eql (tq 13) (.const (.sc (.int .i64 0))))])
 (.cond (tq 14)
 (.reg [oo 15 (.move (tq 0) false),
   oo 16 (.move (tq 5) false),
   oo 17 (.call 179 [((tq 15),0),((tq 16),0)] []),
   oo 6 (.move (tq 17) false)])
 .skip))
 (.seq (.seq (.reg [oo 18 (.move (tq 6) false),
   oo 19 (.bin .neq (tq 18) (.const (.sc (.int .i64 0))))])
 (.cond (tq 19)
 (.seq (.reg [oo 20 (.build [(.sc (.int .u32 0)),(.sl 35 []),(.sl 2 []),(.sc (.int .u32 0))] []),
   oo 21 (.move (tq 6) false),
   oz (.store 4 (tq 2) (tq 20)),
   oo 3 (.move (tq 21) false)])
 .ret)
 .skip))
 (.seq (.reg [oo 22 (.load true 4 (tq 4) false),
   oz (.store 4 (tq 2) (tq 22)),
   oo 3 (.move (.const (.sc (.int .i64 0))) false)])
 .ret)))))⟩
def zr0:Hint:=⟨[(0,0),(1,2),(1,6)],[],[none,none,none,none],[],[],false,false,[]⟩
def zpU:Nat→Sh:=yP []
def zo9 (yS:zh6) (zaC:zmK) (L:Nat):CBC:=(xv 179 (zmO zaC L) (xv 139 (znh yS L) noC))
def zrs {β:Type} (yS:zh6) (zaC:zmK) (L:Nat) (p0:List (List V)) (k_fin:List V→Int→Option β):Option β :=
 yS β L p0 (0:Int) (fun v0 v1 v2 =>
 chk ((List.length v0)=4∧0+4≤4) (
 lt (yl [(V.sc (.int .u32 (0:Int))),(V.gs 35 ([]:List (List V))),(V.gs 2 ([]:List (List V))),(V.sc (.int .u32 (0:Int)))] 0 v0) fun r3 =>
 ifb ((v2:Int) == (0:Int)) (
 zaC β L p0 v1 (fun v4 =>
 ifb ((v4:Int) != (0:Int)) (
 lt [(V.sc (.int .u32 (0:Int))),(V.sl 35 ([]:List (List V))),(V.sl 2 ([]:List (List V))),(V.sc (.int .u32 (0:Int)))] fun r5 =>
 chk (0=0∧(List.length r5)=4∧4≠0) (
 k_fin r5 v4)) (
 chk (0+4≤(List.length r3)) (
 chk ((List.length (List.take 4 r3))=4∧0+4≤4) (
 lt (yl [(V.sc (.int .u32 (0:Int))),(V.gs 35 ([]:List (List V))),(V.gs 2 ([]:List (List V))),(V.sc (.int .u32 (0:Int)))] 0 (List.take 4 r3)) fun r6 =>
 chk (0=0∧(List.length r6)=4∧4≠0) (
 k_fin r6 (0:Int))))))) (
 ifb ((v2:Int) != (0:Int)) (
 lt [(V.sc (.int .u32 (0:Int))),(V.sl 35 ([]:List (List V))),(V.sl 2 ([]:List (List V))),(V.sc (.int .u32 (0:Int)))] fun r7 =>
 chk (0=0∧(List.length r7)=4∧4≠0) (
 k_fin r7 v2)) (
 chk (0+4≤(List.length r3)) (
 chk ((List.length (List.take 4 r3))=4∧0+4≤4) (
 lt (yl [(V.sc (.int .u32 (0:Int))),(V.gs 35 ([]:List (List V))),(V.gs 2 ([]:List (List V))),(V.sc (.int .u32 (0:Int)))] 0 (List.take 4 r3)) fun r8 =>
 chk (0=0∧(List.length r8)=4∧4≠0) (
 k_fin r8 (0:Int))))))))
theorem zzk {β:Type} (yS:zh6) (zaC:zmK) (L:Nat) (p0:List (List V)) (k:KK β):yt zpU (zo9 yS zaC L) L zk6 [(V.sl 1 p0)] [] k=zrs yS zaC L p0 (fun zKg zKh=>k (V.tup [(V.agg zKg),(V.sc (.int .i64 zKh))]) []):=by kernel_rfl
abbrev zho:=∀ (β:Type),Nat→List (List V)→(List V→Int→Option β)→Option β
def yV (β:Type) (L:Nat) (p0:List (List V)) (k_fin:List V→Int→Option β):Option β:=zrs yS zaC L p0 k_fin
def zjv (yV:zho) (L:Nat) (β:Type) (args:List V) (bor:Bor) (k:KK β):Option β:=match args,bor with
 | [a0],[]=>aL 1 a0 fun p0=>yV β L p0 (fun zKg zKh=>k (V.tup [(V.agg zKg),(V.sc (.int .i64 zKh))]) [])
 | _,_=>none
theorem zy3 (L:Nat) (β:Type) (args:List V) (bor:Bor) (k:KK β) (r:β) (h:zjv yV L β args bor k=some r):yt zpU (zo9 yS zaC L) L zk6 args bor k=some r:=by
 unfold zjv at h
 split at h
 ·have q:=zM h; clear h; obtain ⟨p0,rfl,h⟩:=q
  exact (zzk yS zaC L p0 k).trans h
 ·cases h
def zld:CF:=⟨19,[.tmp 4],
 (.seq (.reg [oo 4 (.move (.const (.sc (.int .i64 0))) false)])
 (.seq (.block 0 (.seq (.reg [oo 6 (.move (tq 1) false),
   oo 7 (.bin .lss (tq 6) (.const (.sc (.int .i64 0)))),
   oo 8 (.move (tq 7) false),
   ⟨(some 9),false,(some (8,false)),.move (tq 1) false⟩,
   ⟨(some 10),false,(some (8,false)),.move (tq 0) false⟩,
   ⟨(some 11),false,(some (8,false)),.lenS (tq 10)⟩,
   ⟨(some 12),false,(some (8,false)),.bin .gtr (tq 9) (tq 11)⟩,
   oo 13 (.pick (tq 8) (.const (.sc (.bool true))) (tq 12)),
   oo 5 (.move (tq 13) false)])
 (.cond (tq 5)
 (.seq (.reg [oo 4 (.move (.const (.sc (.int .i64 5))) false)])
 .ret)
 (.seq (.reg [oo 15 (.move (tq 1) false),
   oo 16 (.move (tq 0) false),
   oo 17 (.lenS (tq 16)),
   oo 18 (.bin .lss (tq 15) (tq 17)),
   oo 14 (.move (tq 18) false)])
 (.cond (tq 14)
 (.seq (.reg [oo 4 (.move (.const (.sc (.int .i64 2))) false)])
 .ret)
 .skip)))))
 (.seq (.reg [oo 4 (.move (.const (.sc (.int .i64 0))) false)])
 .ret)))⟩
def zsq:Hint:=⟨[],[],[none,none,none,none,none,none],[],[],false,false,[]⟩
def zpm:Nat→Sh:=yP []
def zp3 (L:Nat):CBC:=noC
def zrI {β:Type} (L:Nat) (p0:List (List V)) (p1:Int) (k_fin:Int→Option β):Option β :=
 ifb (decide (p1 < (0:Int))) (
 k_fin (5:Int)) (
 ifb (decide (p1 > ((List.length p0:Nat):Int))) (
 k_fin (5:Int)) (
 ifb (decide (p1 < ((List.length p0:Nat):Int))) (
 k_fin (2:Int)) (
 k_fin (0:Int))))
theorem zy5 {β:Type} (L:Nat) (p0:List (List V)) (p1:Int) (k:KK β):yt zpm (zp3 L) L zld [(V.sl 1 p0),(V.sc (.int .i64 p1))] [] k=zrI L p0 p1 (fun p0=>k (V.sc (.int .i64 p0)) []):=by kernel_rfl
abbrev zm8:=∀ (β:Type),Nat→List (List V)→Int→(Int→Option β)→Option β
def zaD (β:Type) (L:Nat) (p0:List (List V)) (p1:Int) (k_fin:Int→Option β):Option β:=zrI L p0 p1 k_fin
def zmM (zaD:zm8) (L:Nat) (β:Type) (args:List V) (bor:Bor) (k:KK β):Option β:=match args,bor with
 | [a0,a1],[]=>aL 1 a0 fun p0=>aI .i64 a1 fun p1=>zaD β L p0 p1 (fun p0=>k (V.sc (.int .i64 p0)) [])
 | _,_=>none
theorem zzf (L:Nat) (β:Type) (args:List V) (bor:Bor) (k:KK β) (r:β) (h:zmM zaD L β args bor k=some r):yt zpm (zp3 L) L zld args bor k=some r:=by
 unfold zmM at h
 split at h
 ·have q:=zM h; clear h; obtain ⟨p0,rfl,h⟩:=q
  have q:=zy h; clear h; obtain ⟨p1,rfl,h⟩:=q
  exact (zy5 L p0 p1 k).trans h
 ·cases h
def zhZ:CF:=⟨23,[.cell 2 true 4,.tmp 3],
 (.seq (.reg [oo 2 (.alloc true [(.sc (.int .u32 0)),(.gs 35 []),(.gs 2 []),(.sc (.int .u32 0))]),
   oo 3 (.move (.const (.sc (.int .i64 0))) false)])
 (.seq (.reg [oo 8 (.move (tq 0) false),
   oo 9 (.call 140 [((tq 8),0),((.const (.sc (.int .i64 0))),0)] []),
   oo 7 (.move (tq 9) true),
   oo 10 (.pull (tq 7) 0),
   oo 11 (.pull (tq 7) 1),
   oo 12 (.pull (tq 7) 2),
   oo 4 (.alloc true [(.sc (.int .u32 0)),(.gs 35 []),(.gs 2 []),(.sc (.int .u32 0))]),
   oz (.store 4 (tq 4) (tq 10)),
   oo 5 (.move (tq 11) false),
   oo 6 (.move (tq 12) false)])
 (.seq (.seq (.reg [oo 13 (.move (tq 6) false),
   oo 14 (.bin .eql (tq 13) (.const (.sc (.int .i64 0))))])
 (.cond (tq 14)
 (.reg [oo 15 (.move (tq 0) false),
   oo 16 (.move (tq 5) false),
   oo 17 (.call 180 [((tq 15),0),((tq 16),0)] []),
   oo 6 (.move (tq 17) false)])
 .skip))
 (.seq (.seq (.reg [oo 18 (.move (tq 6) false),
   oo 19 (.bin .neq (tq 18) (.const (.sc (.int .i64 0))))])
 (.cond (tq 19)
 (.seq (.reg [oo 20 (.build [(.sc (.int .u32 0)),(.sl 35 []),(.sl 2 []),(.sc (.int .u32 0))] []),
   oo 21 (.move (tq 6) false),
   oz (.store 4 (tq 2) (tq 20)),
   oo 3 (.move (tq 21) false)])
 .ret)
 .skip))
 (.seq (.reg [oo 22 (.load true 4 (tq 4) false),
   oz (.store 4 (tq 2) (tq 22)),
   oo 3 (.move (.const (.sc (.int .i64 0))) false)])
 .ret)))))⟩
def zoi:Hint:=⟨[(0,0),(1,2),(1,6)],[],[none,none,none,none],[],[],false,false,[]⟩
def zlg:Nat→Sh:=yP []
def zlU (xE:zeN) (zaD:zm8) (L:Nat):CBC:=(xv 180 (zmM zaD L) (xv 140 (zia xE L) noC))
def zmz {β:Type} (xE:zeN) (zaD:zm8) (L:Nat) (p0:List (List V)) (k_fin:List V→Int→Option β):Option β :=
 xE β L p0 (0:Int) (fun v0 v1 v2 =>
 chk ((List.length v0)=4∧0+4≤4) (
 lt (yl [(V.sc (.int .u32 (0:Int))),(V.gs 35 ([]:List (List V))),(V.gs 2 ([]:List (List V))),(V.sc (.int .u32 (0:Int)))] 0 v0) fun r3 =>
 ifb ((v2:Int) == (0:Int)) (
 zaD β L p0 v1 (fun v4 =>
 ifb ((v4:Int) != (0:Int)) (
 lt [(V.sc (.int .u32 (0:Int))),(V.sl 35 ([]:List (List V))),(V.sl 2 ([]:List (List V))),(V.sc (.int .u32 (0:Int)))] fun r5 =>
 chk (0=0∧(List.length r5)=4∧4≠0) (
 k_fin r5 v4)) (
 chk (0+4≤(List.length r3)) (
 chk ((List.length (List.take 4 r3))=4∧0+4≤4) (
 lt (yl [(V.sc (.int .u32 (0:Int))),(V.gs 35 ([]:List (List V))),(V.gs 2 ([]:List (List V))),(V.sc (.int .u32 (0:Int)))] 0 (List.take 4 r3)) fun r6 =>
 chk (0=0∧(List.length r6)=4∧4≠0) (
 k_fin r6 (0:Int))))))) (
 ifb ((v2:Int) != (0:Int)) (
 lt [(V.sc (.int .u32 (0:Int))),(V.sl 35 ([]:List (List V))),(V.sl 2 ([]:List (List V))),(V.sc (.int .u32 (0:Int)))] fun r7 =>
 chk (0=0∧(List.length r7)=4∧4≠0) (
 k_fin r7 v2)) (
 chk (0+4≤(List.length r3)) (
 chk ((List.length (List.take 4 r3))=4∧0+4≤4) (
 lt (yl [(V.sc (.int .u32 (0:Int))),(V.gs 35 ([]:List (List V))),(V.gs 2 ([]:List (List V))),(V.sc (.int .u32 (0:Int)))] 0 (List.take 4 r3)) fun r8 =>
 chk (0=0∧(List.length r8)=4∧4≠0) (
 k_fin r8 (0:Int))))))))
theorem zwo {β:Type} (xE:zeN) (zaD:zm8) (L:Nat) (p0:List (List V)) (k:KK β):yt zlg (zlU xE zaD L) L zhZ [(V.sl 1 p0)] [] k=zmz xE zaD L p0 (fun zKg zKh=>k (V.tup [(V.agg zKg),(V.sc (.int .i64 zKh))]) []):=by kernel_rfl
abbrev ziH:=∀ (β:Type),Nat→List (List V)→(List V→Int→Option β)→Option β
def yY (β:Type) (L:Nat) (p0:List (List V)) (k_fin:List V→Int→Option β):Option β:=zmz xE zaD L p0 k_fin
def ziO (yY:ziH) (L:Nat) (β:Type) (args:List V) (bor:Bor) (k:KK β):Option β:=match args,bor with
 | [a0],[]=>aL 1 a0 fun p0=>yY β L p0 (fun zKg zKh=>k (V.tup [(V.agg zKg),(V.sc (.int .i64 zKh))]) [])
 | _,_=>none
theorem zwf (L:Nat) (β:Type) (args:List V) (bor:Bor) (k:KK β) (r:β) (h:ziO yY L β args bor k=some r):yt zlg (zlU xE zaD L) L zhZ args bor k=some r:=by
 unfold ziO at h
 split at h
 ·have q:=zM h; clear h; obtain ⟨p0,rfl,h⟩:=q
  exact (zwo xE zaD L p0 k).trans h
 ·cases h
def zke:CF:=⟨10,[.tmp 4],
 (.seq (.reg [oo 4 (.move (.const (.sc (.bool false))) false)])
 (.seq (.reg [oo 5 (.move (tq 0) false),
   oo 6 (.toStr (tq 5)),
   oo 7 (.move (tq 1) false),
   oo 8 (.toStr (tq 7)),
   oo 9 (.bin .eql (tq 6) (tq 8)),
   oo 4 (.move (tq 9) false)])
 .ret))⟩
def zqV:Hint:=⟨[],[],[none],[],[],false,false,[]⟩
def znT:Nat→Sh:=yP []
def znW (L:Nat):CBC:=noC
def zps {β:Type} (L:Nat) (p0 p1:List (List V)) (k_fin:Bool→Option β):Option β :=
 zzL p0 fun v0 =>
 zzL p1 fun v1 =>
 k_fin (ByteArray.toList v0 == ByteArray.toList v1)
theorem zxE {β:Type} (L:Nat) (p0 p1:List (List V)) (k:KK β):yt znT (znW L) L zke [(V.sl 1 p0),(V.sl 1 p1)] [] k=zps L p0 p1 (fun p0=>k (V.sc (.bool p0)) []):=by kernel_rfl
abbrev yx:=∀ (β:Type),Nat→List (List V)→List (List V)→(Bool→Option β)→Option β
def yf (β:Type) (L:Nat) (p0 p1:List (List V)) (k_fin:Bool→Option β):Option β:=zps L p0 p1 k_fin
def zgy (yf:yx) (L:Nat) (β:Type) (args:List V) (bor:Bor) (k:KK β):Option β:=match args,bor with
 | [a0,a1],[]=>aL 1 a0 fun p0=>aL 1 a1 fun p1=>yf β L p0 p1 (fun p0=>k (V.sc (.bool p0)) [])
 | _,_=>none
theorem zxX (L:Nat) (β:Type) (args:List V) (bor:Bor) (k:KK β) (r:β) (h:zgy yf L β args bor k=some r):yt znT (znW L) L zke args bor k=some r:=by
 unfold zgy at h
 split at h
 ·have q:=zM h; clear h; obtain ⟨p0,rfl,h⟩:=q
  have q:=zM h; clear h; obtain ⟨p1,rfl,h⟩:=q
  exact (zxE L p0 p1 k).trans h
 ·cases h
def zgS:CF:=⟨17,[.tmp 4],
 (.seq (.reg [oo 2 (.box true (tq 0)),
   oo 3 (.box true (tq 1)),
   oo 4 (.move (.const (.sc (.bool false))) false)])
 (.seq (.reg [oo 5 (.fieldAddr 0 (tq 2)),
   oo 6 (.load false 1 (tq 5) false),
   oo 7 (.fieldAddr 0 (tq 3)),
   oo 8 (.load false 1 (tq 7) false),
   oo 9 (.bin .eql (tq 6) (tq 8)),
   oo 10 (.move (tq 9) false),
   ⟨(some 11),false,(some (10,true)),.fieldAddr 1 (tq 2)⟩,
   ⟨(some 12),false,(some (10,true)),.load false 1 (tq 11) false⟩,
   ⟨(some 13),false,(some (10,true)),.fieldAddr 1 (tq 3)⟩,
   ⟨(some 14),false,(some (10,true)),.load false 1 (tq 13) false⟩,
   ⟨(some 15),false,(some (10,true)),.call 130 [((tq 12),0),((tq 14),0)] []⟩,
   oo 16 (.pick (tq 10) (tq 15) (.const (.sc (.bool false)))),
   oo 4 (.move (tq 16) false)])
 .ret))⟩
def znB:Hint:=⟨[(0,0),(0,1)],[],[none],[],[],false,false,[]⟩
def zkh:Nat→Sh:=yP [(6,(.int .i64)),(8,(.int .i64)),(12,(.sl 1)),(14,(.sl 1))]
def zkl (yf:yx) (L:Nat):CBC:=(xv 130 (zgy yf L) noC)
def zlc {β:Type} (yf:yx) (L:Nat) (p0 p1:List V) (k_fin:Bool→Option β):Option β :=
 cI .i64 p0 0 fun v0 =>
 cI .i64 p1 0 fun v1 =>
 ifb ((v0:Int) == v1) (
 cLd 1 p0 1 fun v2 =>
 cLd 1 p1 1 fun v3 =>
 yf β L v2 v3 (fun v4 =>
 k_fin v4)) (
 k_fin false)
theorem zvh {β:Type} (yf:yx) (L:Nat) (p0 p1:List V) (k:KK β):yt zkh (zkl yf L) L zgS [(V.agg p0),(V.agg p1)] [] k=zlc yf L p0 p1 (fun p0=>k (V.sc (.bool p0)) []):=by kernel_rfl
abbrev xu:=∀ (β:Type),Nat→List V→List V→(Bool→Option β)→Option β
def zf (β:Type) (L:Nat) (p0 p1:List V) (k_fin:Bool→Option β):Option β:=zlc yf L p0 p1 k_fin
def zhM (zf:xu) (L:Nat) (β:Type) (args:List V) (bor:Bor) (k:KK β):Option β:=match args,bor with
 | [a0,a1],[]=>aG a0 fun p0=>aG a1 fun p1=>zf β L p0 p1 (fun p0=>k (V.sc (.bool p0)) [])
 | _,_=>none
theorem zuF (L:Nat) (β:Type) (args:List V) (bor:Bor) (k:KK β) (r:β) (h:zhM zf L β args bor k=some r):yt zkh (zkl yf L) L zgS args bor k=some r:=by
 unfold zhM at h
 split at h
 ·have q:=zgf h; clear h; obtain ⟨p0,rfl,h⟩:=q
  have q:=zgf h; clear h; obtain ⟨p1,rfl,h⟩:=q
  exact (zvh yf L p0 p1 k).trans h
 ·cases h
def zaR:CC:=(.seq (.reg [oo 81 (.bin .lss (tq 80) (tq 79))])
 (.seq (.cond (tq 81)
 .skip
 (.seq (.mask (bl 13194139533324 116) (bl 83076739833036927773445742074527279 116))
 (.exit 2)))
 (.seq (.block 3 (.seq (.reg [oo 82 (.move (tq 80) false),
   oo 8 (.move (tq 82) false)])
 (.seq (.dreg [] [(oo 83 (.fieldAddr 34 (tq 6)),q0),
   (oo 84 (.load false 1 (tq 83) false),ql 6 [7] []),
   (oo 85 (.move (tq 8) false),q0),
   (oo 86 (.indexAddrS 1 (tq 84) (tq 85)),q0),
   (oo 87 (.load false 1 (tq 86) false),qc [7] []),
   (oo 88 (.fieldAddr 34 (tq 7)),q0),
   (oo 89 (.load false 1 (tq 88) false),ql 7 [6] []),
   (oo 90 (.move (tq 8) false),q0),
   (oo 91 (.indexAddrS 1 (tq 89) (tq 90)),q0),
   (oo 92 (.load false 1 (tq 91) false),qc [6] []),
   (oo 93 (.call 130 [((tq 87),0),((tq 92),0)] []),q0),
   (oo 94 (.un .not (tq 93)),q0)])
 (.cond (tq 94)
 (.seq (.reg [oo 4 (.move (.const (.sc (.bool false))) false)])
 (.seq (.mask (bl 16 116) (bl 83076739832411214214465514083712531 116))
 .ret))
 .skip))))
 (.reg [oo 95 (.bin .add (tq 80) (.const (.sc (.int .i64 1)))),
   oo 80 (.move (tq 95) false)]))))
def zdd:CC:=(.reg [oo 96 (.bin .add (tq 43) (.const (.sc (.int .i64 1)))),
   oo 43 (.move (tq 96) false)])
def zcE:CC:=(.seq (.reg [oo 101 (.bin .lss (tq 100) (tq 99))])
 (.seq (.cond (tq 101)
 .skip
 (.seq (.mask (bl 0 116) (bl 72692156019487586799426948609080611 116))
 (.exit 4)))
 (.seq (.block 5 (.seq (.reg [oo 102 (.move (tq 100) false),
   oo 9 (.move (tq 102) false)])
 (.seq (.dreg [] [(oo 103 (.fieldAddr 2 (tq 2)),q0),
   (oo 104 (.load false 1 (tq 103) false),ql 2 [3] []),
   (oo 105 (.move (tq 9) false),q0),
   (oo 106 (.indexAddrS 2 (tq 104) (tq 105)),q0),
   (oo 107 (.load true 2 (tq 106) false),qc [3] []),
   (oo 108 (.fieldAddr 2 (tq 3)),q0),
   (oo 109 (.load false 1 (tq 108) false),ql 3 [2] []),
   (oo 110 (.move (tq 9) false),q0),
   (oo 111 (.indexAddrS 2 (tq 109) (tq 110)),q0),
   (oo 112 (.load true 2 (tq 111) false),qc [2] []),
   (oo 113 (.call 181 [((tq 107),1),((tq 112),1)] []),q0),
   (oo 114 (.un .not (tq 113)),q0)])
 (.cond (tq 114)
 (.seq (.reg [oo 4 (.move (.const (.sc (.bool false))) false)])
 (.seq (.mask (bl 16 116) (bl 72692156019487586799426948609080627 116))
 .ret))
 .skip))))
 (.reg [oo 115 (.bin .add (tq 100) (.const (.sc (.int .i64 1)))),
   oo 100 (.move (tq 115) false)]))))
def zcc:CC:=(.seq (.reg [oo 44 (.bin .lss (tq 43) (tq 42))])
 (.seq (.cond (tq 44)
 .skip
 (.seq (.mask (bl 12 116) (bl 83076739832411214214465514083712527 116))
 (.exit 0)))
 (.seq (.block 1 (.seq (.reg [oo 45 (.move (tq 43) false),
   oo 5 (.move (tq 45) false)])
 (.seq (.dreg [] [(oo 46 (.fieldAddr 1 (tq 2)),q0),
   (oo 47 (.load false 1 (tq 46) false),ql 2 [3] [6,7]),
   (oo 48 (.move (tq 5) false),q0),
   (oo 49 (.indexAddrS 35 (tq 47) (tq 48)),q0),
   (oo 50 (.load true 35 (tq 49) false),qc [3] [6,7]),
   (oo 51 (.fieldAddr 1 (tq 3)),q0),
   (oo 52 (.load false 1 (tq 51) false),ql 3 [2] [6,7]),
   (oo 53 (.move (tq 5) false),q0),
   (oo 54 (.indexAddrS 35 (tq 52) (tq 53)),q0),
   (oo 55 (.load true 35 (tq 54) false),qc [2] [6,7]),
   (oo 6 (.alloc true (rp 32 (.sc (.int .u8 0)) (rp 2 (.sc (.int .u32 0)) (rp 1 (.gs 1 []) [])))),qn [2,3] [7]),
   (oo 7 (.alloc true (rp 32 (.sc (.int .u8 0)) (rp 2 (.sc (.int .u32 0)) (rp 1 (.gs 1 []) [])))),qn [2,3] [6]),
   (oz (.store 35 (tq 6) (tq 50)),qn [3] []),
   (oz (.store 35 (tq 7) (tq 55)),q0)])
 (.seq (.seq (.reg [oo 56 (.fieldAddr 0 (tq 6)),
   oo 57 (.load true 33 (tq 56) false),
   oo 58 (.fieldAddr 0 (tq 7)),
   oo 59 (.load true 33 (tq 58) false),
   oo 60 (.eqAgg true 33 (tq 57) (tq 59)),
   oo 61 (.move (tq 60) false),
   ⟨(some 62),false,(some (61,false)),.fieldAddr 33 (tq 6)⟩,
   ⟨(some 63),false,(some (61,false)),.load false 1 (tq 62) false⟩,
   ⟨(some 64),false,(some (61,false)),.fieldAddr 33 (tq 7)⟩,
   ⟨(some 65),false,(some (61,false)),.load false 1 (tq 64) false⟩,
   ⟨(some 66),false,(some (61,false)),.bin .neq (tq 63) (tq 65)⟩,
   oo 67 (.pick (tq 61) (.const (.sc (.bool true))) (tq 66)),
   oo 68 (.move (tq 67) false),
   ⟨(some 69),false,(some (68,false)),.fieldAddr 34 (tq 6)⟩,
   ⟨(some 70),false,(some (68,false)),.load false 1 (tq 69) false⟩,
   ⟨(some 71),false,(some (68,false)),.lenS (tq 70)⟩,
   ⟨(some 72),false,(some (68,false)),.fieldAddr 34 (tq 7)⟩,
   ⟨(some 73),false,(some (68,false)),.load false 1 (tq 72) false⟩,
   ⟨(some 74),false,(some (68,false)),.lenS (tq 73)⟩,
   ⟨(some 75),false,(some (68,false)),.bin .neq (tq 71) (tq 74)⟩,
   oo 76 (.pick (tq 68) (.const (.sc (.bool true))) (tq 75))])
 (.cond (tq 76)
 (.seq (.reg [oo 4 (.move (.const (.sc (.bool false))) false)])
 (.seq (.mask (bl 16 116) (bl 83076739832411214214465514083712531 116))
 .ret))
 .skip))
 (.seq (.reg [oo 77 (.fieldAddr 34 (tq 6)),
   oo 78 (.load false 1 (tq 77) false),
   oo 79 (.lenS (tq 78)),
   oo 80 (.move (.const (.sc (.int .i64 0))) false)])
 (.block 2 (.loop (bl 1813388729435137901592780 116) (bl 83076739833036927773445742074527471 116)
 zaR)))))))
 zdd)))
def zfz:CC:=(.seq (.reg [oo 4 (.move (.const (.sc (.bool true))) false)])
 .ret)
def zd6:CC:=(.seq (.seq (.reg [oo 97 (.fieldAddr 2 (tq 2)),
   oo 98 (.load false 1 (tq 97) false),
   oo 99 (.lenS (tq 98)),
   oo 100 (.move (.const (.sc (.int .i64 0))) false)])
 (.block 4 (.loop (bl 1901475900342344102245054808076 116) (bl 72692156019487586799426948609080623 116)
 zcE)))
 zfz)
def zaJ:CF:=⟨116,[.tmp 4],
 (.seq (.reg [oo 2 (.box true (tq 0)),
   oo 3 (.box true (tq 1)),
   oo 4 (.move (.const (.sc (.bool false))) false)])
 (.seq (.seq (.reg [oo 10 (.fieldAddr 0 (tq 2)),
   oo 11 (.load false 1 (tq 10) false),
   oo 12 (.fieldAddr 0 (tq 3)),
   oo 13 (.load false 1 (tq 12) false),
   oo 14 (.bin .neq (tq 11) (tq 13)),
   oo 15 (.move (tq 14) false),
   ⟨(some 16),false,(some (15,false)),.fieldAddr 3 (tq 2)⟩,
   ⟨(some 17),false,(some (15,false)),.load false 1 (tq 16) false⟩,
   ⟨(some 18),false,(some (15,false)),.fieldAddr 3 (tq 3)⟩,
   ⟨(some 19),false,(some (15,false)),.load false 1 (tq 18) false⟩,
   ⟨(some 20),false,(some (15,false)),.bin .neq (tq 17) (tq 19)⟩,
   oo 21 (.pick (tq 15) (.const (.sc (.bool true))) (tq 20)),
   oo 22 (.move (tq 21) false),
   ⟨(some 23),false,(some (22,false)),.fieldAddr 1 (tq 2)⟩,
   ⟨(some 24),false,(some (22,false)),.load false 1 (tq 23) false⟩,
   ⟨(some 25),false,(some (22,false)),.lenS (tq 24)⟩,
   ⟨(some 26),false,(some (22,false)),.fieldAddr 1 (tq 3)⟩,
   ⟨(some 27),false,(some (22,false)),.load false 1 (tq 26) false⟩,
   ⟨(some 28),false,(some (22,false)),.lenS (tq 27)⟩,
   ⟨(some 29),false,(some (22,false)),.bin .neq (tq 25) (tq 28)⟩,
   oo 30 (.pick (tq 22) (.const (.sc (.bool true))) (tq 29)),
   oo 31 (.move (tq 30) false),
   ⟨(some 32),false,(some (31,false)),.fieldAddr 2 (tq 2)⟩,
   ⟨(some 33),false,(some (31,false)),.load false 1 (tq 32) false⟩,
   ⟨(some 34),false,(some (31,false)),.lenS (tq 33)⟩,
   ⟨(some 35),false,(some (31,false)),.fieldAddr 2 (tq 3)⟩,
   ⟨(some 36),false,(some (31,false)),.load false 1 (tq 35) false⟩,
   ⟨(some 37),false,(some (31,false)),.lenS (tq 36)⟩,
   ⟨(some 38),false,(some (31,false)),.bin .neq (tq 34) (tq 37)⟩,
   oo 39 (.pick (tq 31) (.const (.sc (.bool true))) (tq 38))])
 (.cond (tq 39)
 (.seq (.reg [oo 4 (.move (.const (.sc (.bool false))) false)])
 .ret)
 .skip))
 (.seq (.seq (.reg [oo 40 (.fieldAddr 1 (tq 2)),
   oo 41 (.load false 1 (tq 40) false),
   oo 42 (.lenS (tq 41)),
   oo 43 (.move (.const (.sc (.int .i64 0))) false)])
 (.block 0 (.loop (bl 13194139533324 116) (bl 83076739832411214214465514083712527 116)
 zcc)))
 zd6)))⟩
def zod:Hint:=⟨[(0,0),(0,1),(6,10),(6,11)],[],[none,none,none,some ((bl 13194139533324 116),(bl 83076739832411214214465514083712527 116)),none,some ((bl 12 116),(bl 83076739832411214214465514083712527 116)),none,none,some ((bl 16 116),(bl 83076739832411214214465514083712531 116)),none,some ((bl 1813388729435137901592780 116),(bl 83076739833036927773445742074527471 116)),none,some ((bl 13194139533324 116),(bl 83076739833036927773445742074527279 116)),none,none,some ((bl 16 116),(bl 83076739832411214214465514083712531 116)),none,some ((bl 1901475900342344102245054808076 116),(bl 72692156019487586799426948609080623 116)),none,some ((bl 0 116),(bl 72692156019487586799426948609080611 116)),none,none,some ((bl 16 116),(bl 72692156019487586799426948609080627 116)),none],[],[],false,false,[]⟩
def xz:Nat→Sh:=yP [(11,(.int .u32)),(13,(.int .u32)),(17,(.int .u32)),(19,(.int .u32)),(24,(.sl 35)),(27,(.sl 35)),(33,(.sl 2)),(36,(.sl 2)),(41,(.sl 35)),(47,(.sl 35)),(52,(.sl 35)),(63,(.int .u32)),(65,(.int .u32)),(70,(.sl 1)),(73,(.sl 1)),(78,(.sl 1)),(98,(.sl 2)),(84,(.sl 1)),(87,(.sl 1)),(89,(.sl 1)),(92,(.sl 1)),(104,(.sl 2)),(109,(.sl 2))]
def zz (yf:yx) (zf:xu) (L:Nat):CBC:=(xv 181 (zhM zf L) (xv 130 (zgy yf L) noC))
def za4:St→St:=y4 0 (bl 13194139533324 116) (bl 83076739832411214214465514083712527 116)
def zbZ:St→St:=y4 0 (bl 1813388729435137901592780 116) (bl 83076739833036927773445742074527471 116)
def zeq:St→St:=y4 0 (bl 1901475900342344102245054808076 116) (bl 72692156019487586799426948609080623 116)
def zbG (p42 p43:Int) (b2 b3:List V):St:=⟨(jn 2 ((V.ptr 2 0)::((V.ptr 3 0)::(jn 38 ((V.sc (.int .i64 p42))::((V.sc (.int .i64 p43))::(jn 72 []))))))),(gn 2 ((.live true b2)::((.live true b3)::(gn 112 []))))⟩
def z8 (p4:Bool):St:=⟨(jn 4 ((V.sc (.bool p4))::(jn 111 []))),(gn 116 [])⟩
def zbs (p42 p43 p79 p80:Int) (b2 b3 b6 b7:List V):St:=⟨(jn 2 ((V.ptr 2 0)::((V.ptr 3 0)::(jn 2 ((V.ptr 6 0)::((V.ptr 7 0)::(jn 34 ((V.sc (.int .i64 p42))::((V.sc (.int .i64 p43))::(jn 35 ((V.sc (.int .i64 p79))::((V.sc (.int .i64 p80))::(jn 35 []))))))))))))),(gn 2 ((.live true b2)::((.live true b3)::(gn 2 ((.live true b6)::((.live true b7)::(gn 108 [])))))))⟩
def zdC (b2 b3:List V):St:=⟨(jn 2 ((V.ptr 2 0)::((V.ptr 3 0)::(jn 112 [])))),(gn 2 ((.live true b2)::((.live true b3)::(gn 112 []))))⟩
def zdf (p99 zKo:Int) (b2 b3:List V):St:=⟨(jn 2 ((V.ptr 2 0)::((V.ptr 3 0)::(jn 95 ((V.sc (.int .i64 p99))::((V.sc (.int .i64 zKo))::(jn 15 []))))))),(gn 2 ((.live true b2)::((.live true b3)::(gn 112 []))))⟩
def ziu (p42 p43:Int) (b2 b3:List V):St:=⟨(jn 2 ((V.ptr 2 0)::((V.ptr 3 0)::(jn 38 ((V.sc (.int .i64 p42))::((V.sc (.int .i64 p43))::(jn 72 []))))))),(gn 2 ((.live true b2)::((.live true b3)::(gn 112 []))))⟩
def ziw:St:=⟨(jn 116 []),(gn 116 [])⟩
abbrev zfy (β:Type):Type:=Int→Int→Int→Int→List V→List V→List V→List V→Option β
def zmE {β:Type} (yf:yx) (zf:xu) (L:Nat) (p0 p1:List V) (k_fin:Bool→Option β) (k_hbbaba:Int→Int→List V→List V→Option β):Option β :=
 cI .u32 p0 0 fun v0 =>
 cI .u32 p1 0 fun v1 =>
 ifb ((v0:Int) != v1) (
 k_fin false) (
 cI .u32 p0 3 fun v2 =>
 cI .u32 p1 3 fun v3 =>
 ifb ((v2:Int) != v3) (
 k_fin false) (
 cLd 35 p0 1 fun v4 =>
 cLd 35 p1 1 fun v5 =>
 ifb ((((List.length v4:Nat):Int):Int) != ((List.length v5:Nat):Int)) (
 k_fin false) (
 cLd 2 p0 2 fun v6 =>
 cLd 2 p1 2 fun v7 =>
 ifb ((((List.length v6:Nat):Int):Int) != ((List.length v7:Nat):Int)) (
 k_fin false) (
 cLd 35 p0 1 fun v8 =>
 k_hbbaba ((List.length v8:Nat):Int) (0:Int) p0 p1))))
theorem zwi {β:Type} (yf:yx) (zf:xu) (L:Nat) (p0 p1:List V) (k:KK β):yt xz (zz yf zf L) L zaJ [(V.agg p0),(V.agg p1)] [] k=zmE yf zf L p0 p1 (fun p0=>k (V.sc (.bool p0)) []) (fun p42 p43 b2 b3=>yB (yk xz (zz yf zf L) 0 L zcc) za4 L (zbG p42 p43 b2 b3) (zw 0 (yR (yk xz (zz yf zf L) 0 L zd6) (y6 0 (CF.res zaJ) k)))):=by kernel_rfl
def zhG {β:Type} (yf:yx) (zf:xu) (L:Nat) (p42 p43:Int) (b2 b3:List V) (k_ret:Bool→Option β) (k_hbbabaabbaabbbba:zfy β) (k_x0:List V→List V→Option β):Option β :=
 ifb (decide (p43 < p42)) (
 cLd 35 b2 1 fun v9 =>
 idx v9 p43 fun c10 =>
 cLd 35 b3 1 fun v11 =>
 idx v11 p43 fun c12 =>
 chk ((List.length (List.take 35 c10))=35∧0+35≤35) (
 lt (yl (List.replicate 32 (V.sc (.int .u8 (0:Int)))++[(V.sc (.int .u32 (0:Int))),(V.sc (.int .u32 (0:Int))),(V.gs 1 ([]:List (List V)))]) 0 (List.take 35 c10)) fun r13 =>
 chk ((List.length (List.take 35 c12))=35∧0+35≤35) (
 lt (yl (List.replicate 32 (V.sc (.int .u8 (0:Int)))++[(V.sc (.int .u32 (0:Int))),(V.sc (.int .u32 (0:Int))),(V.gs 1 ([]:List (List V)))]) 0 (List.take 35 c12)) fun r14 =>
 chk (0+33≤(List.length r13)) (
 chk (0+33≤(List.length r14)) (
 eqC 33 (List.take 33 r13) (List.take 33 r14) fun v15 =>
 ifb (!v15) (
 k_ret false) (
 cI .u32 r13 33 fun v16 =>
 cI .u32 r14 33 fun v17 =>
 ifb ((v16:Int) != v17) (
 k_ret false) (
 cLd 1 r13 34 fun v18 =>
 cLd 1 r14 34 fun v19 =>
 ifb ((((List.length v18:Nat):Int):Int) != ((List.length v19:Nat):Int)) (
 k_ret false) (
 cLd 1 r13 34 fun v20 =>
 k_hbbabaabbaabbbba p42 p43 ((List.length v20:Nat):Int) (0:Int) b2 b3 r13 r14)))))))) (
 k_x0 b2 b3)
theorem zrG {β:Type} (yf:yx) (zf:xu) (L:Nat) (p42 p43:Int) (b2 b3:List V) (X:St→Option β) (K:KT β):yk xz (zz yf zf L) 0 L zcc (zbG p42 p43 b2 b3) (y9 za4 X K)=zhG yf zf L p42 p43 b2 b3 (fun p4=>K .ret (z8 p4)) (fun p42 p43 p79 p80 b2 b3 b6 b7=>yB (yk xz (zz yf zf L) 0 L zaR) zbZ L (zbs p42 p43 p79 p80 b2 b3 b6 b7) (zw 2 (zw 1 (yR (yk xz (zz yf zf L) 0 L zdd) (y9 za4 X K))))) (fun b2 b3=>K (.exit 0) (zdC b2 b3)):=by kernel_rfl
def zjG {β:Type} (yf:yx) (zf:xu) (L:Nat) (p4:Bool) (k_fin:Bool→Option β):Option β :=
 k_fin p4
theorem zoS {β:Type} (yf:yx) (zf:xu) (L:Nat) (p4:Bool) (k:KK β):(zw 0 (yR (yk xz (zz yf zf L) 0 L zd6) (y6 0 (CF.res zaJ) k))) .ret (z8 p4)=zjG yf zf L p4 (fun p0=>k (V.sc (.bool p0)) []):=by kernel_rfl
def zgo {β:Type} (yf:yx) (zf:xu) (L:Nat) (b2 b3:List V) (k_hbbbaba:Int→Int→List V→List V→Option β):Option β :=
 cLd 2 b2 2 fun v21 =>
 k_hbbbaba ((List.length v21:Nat):Int) (0:Int) b2 b3
theorem zqa {β:Type} (yf:yx) (zf:xu) (L:Nat) (b2 b3:List V) (k:KK β):(zw 0 (yR (yk xz (zz yf zf L) 0 L zd6) (y6 0 (CF.res zaJ) k))) (.exit 0) (zdC b2 b3)=zgo yf zf L b2 b3 (fun p99 zKo b2 b3=>yB (yk xz (zz yf zf L) 0 L zcE) zeq L (zdf p99 zKo b2 b3) (zw 4 (yR (yk xz (zz yf zf L) 0 L zfz) (y6 0 (CF.res zaJ) k)))):=by kernel_rfl
def zdb {β:Type} (yf:yx) (zf:xu) (L:Nat) (p42 p43 p79 p80:Int) (b2 b3 b6 b7:List V) (k_ret:Bool→Option β) (k_hbbabaabbaabbbba:zfy β) (k_x2:Int→Int→List V→List V→Option β):Option β :=
 ifb (decide (p80 < p79)) (
 cLd 1 b6 34 fun v22 =>
 idx v22 p80 fun c23 =>
 cL 1 c23 0 fun v24 =>
 cLd 1 b7 34 fun v25 =>
 idx v25 p80 fun c26 =>
 cL 1 c26 0 fun v27 =>
 yf β L v24 v27 (fun v28 =>
 ifb (!v28) (
 k_ret false) (
 lt (IntKind.wrap .i64 ((p80:Int)+(1:Int))) fun x29 =>
 k_hbbabaabbaabbbba p42 p43 p79 x29 b2 b3 b6 b7))) (
 k_x2 p42 p43 b2 b3)
theorem zkp {β:Type} (yf:yx) (zf:xu) (L:Nat) (p42 p43 p79 p80:Int) (b2 b3 b6 b7:List V) (X:St→Option β) (K:KT β):yk xz (zz yf zf L) 0 L zaR (zbs p42 p43 p79 p80 b2 b3 b6 b7) (y9 zbZ X K)=zdb yf zf L p42 p43 p79 p80 b2 b3 b6 b7 (fun p4=>K .ret (z8 p4)) (fun p42 p43 p79 p80 b2 b3 b6 b7=>X (zbs p42 p43 p79 p80 b2 b3 b6 b7)) (fun p42 p43 b2 b3=>K (.exit 2) (ziu p42 p43 b2 b3)):=by kernel_rfl
def zgI {β:Type} (yf:yx) (zf:xu) (L:Nat) (p99 zKo:Int) (b2 b3:List V) (k_ret:Bool→Option β) (k_hbbbaba:Int→Int→List V→List V→Option β) (k_x4:Option β):Option β :=
 ifb (decide (zKo < p99)) (
 cLd 2 b2 2 fun v30 =>
 idx v30 zKo fun c31 =>
 cLd 2 b3 2 fun v32 =>
 idx v32 zKo fun c33 =>
 zf β L (List.map V.dem (List.take 2 c31)) (List.map V.dem (List.take 2 c33)) (fun v34 =>
 ifb (!v34) (
 k_ret false) (
 lt (IntKind.wrap .i64 ((zKo:Int)+(1:Int))) fun x35 =>
 k_hbbbaba p99 x35 b2 b3))) (
 k_x4)
theorem zqf {β:Type} (yf:yx) (zf:xu) (L:Nat) (p99 zKo:Int) (b2 b3:List V) (X:St→Option β) (K:KT β):yk xz (zz yf zf L) 0 L zcE (zdf p99 zKo b2 b3) (y9 zeq X K)=zgI yf zf L p99 zKo b2 b3 (fun p4=>K .ret (z8 p4)) (fun p99 zKo b2 b3=>X (zdf p99 zKo b2 b3)) (K (.exit 4) (ziw)):=by kernel_rfl
def zeQ {β:Type} (yf:yx) (zf:xu) (L:Nat) (p4:Bool) (k_ret:Bool→Option β):Option β :=
 k_ret p4
theorem ziW {β:Type} (yf:yx) (zf:xu) (L:Nat) (p4:Bool) (X:St→Option β) (K:KT β):(zw 2 (zw 1 (yR (yk xz (zz yf zf L) 0 L zdd) (y9 za4 X K)))) .ret (z8 p4)=zeQ yf zf L p4 (fun p4=>K .ret (z8 p4)):=by kernel_rfl
def zcK {β:Type} (yf:yx) (zf:xu) (L:Nat) (p42 p43:Int) (b2 b3:List V) (k_hbbaba:Int→Int→List V→List V→Option β):Option β :=
 lt (IntKind.wrap .i64 ((p43:Int)+(1:Int))) fun x36 =>
 k_hbbaba p42 x36 b2 b3
theorem zi7 {β:Type} (yf:yx) (zf:xu) (L:Nat) (p42 p43:Int) (b2 b3:List V) (X:St→Option β) (K:KT β):(zw 2 (zw 1 (yR (yk xz (zz yf zf L) 0 L zdd) (y9 za4 X K)))) (.exit 2) (ziu p42 p43 b2 b3)=zcK yf zf L p42 p43 b2 b3 (fun p42 p43 b2 b3=>X (zbG p42 p43 b2 b3)):=by kernel_rfl
def zi4 {β:Type} (yf:yx) (zf:xu) (L:Nat) (p4:Bool) (k_fin:Bool→Option β):Option β :=
 k_fin p4
theorem zn1 {β:Type} (yf:yx) (zf:xu) (L:Nat) (p4:Bool) (k:KK β):(zw 4 (yR (yk xz (zz yf zf L) 0 L zfz) (y6 0 (CF.res zaJ) k))) .ret (z8 p4)=zi4 yf zf L p4 (fun p0=>k (V.sc (.bool p0)) []):=by kernel_rfl
def zjI {β:Type} (yf:yx) (zf:xu) (L:Nat) (k_fin:Bool→Option β):Option β :=
 k_fin true
theorem zoQ {β:Type} (yf:yx) (zf:xu) (L:Nat) (k:KK β):(zw 4 (yR (yk xz (zz yf zf L) 0 L zfz) (y6 0 (CF.res zaJ) k))) (.exit 4) (ziw)=zjI yf zf L (fun p0=>k (V.sc (.bool p0)) []):=by kernel_rfl
def za2 {β:Type} (yf:yx) (zf:xu) (L:Nat) (k_ret:Bool→Option β) (k_x2:Int→Int→List V→List V→Option β):Nat→Int→Int→Int→Int→List V→List V→List V→List V→Option β
 | 0,_,_,_,_,_,_,_,_=>none
 | n+1,p42,p43,p79,p80,b2,b3,b6,b7=>zdb yf zf L p42 p43 p79 p80 b2 b3 b6 b7 k_ret (fun p42 p43 p79 p80 b2 b3 b6 b7=>za2 yf zf L k_ret k_x2 n p42 p43 p79 p80 b2 b3 b6 b7) k_x2
theorem zeI {β:Type} (yf:yx) (zf:xu) (L:Nat) (K:KT β):∀ (n:Nat) (p42 p43 p79 p80:Int) (b2 b3 b6 b7:List V),yB (yk xz (zz yf zf L) 0 L zaR) zbZ n (zbs p42 p43 p79 p80 b2 b3 b6 b7) K=za2 yf zf L (fun p4=>K .ret (z8 p4)) (fun p42 p43 b2 b3=>K (.exit 2) (ziu p42 p43 b2 b3)) n p42 p43 p79 p80 b2 b3 b6 b7:=by
 intro n
 induction n with
 | zero=>intros; rfl
 | succ n ih =>
  intro p42 p43 p79 p80 b2 b3 b6 b7
  refine (zkp yf zf L p42 p43 p79 p80 b2 b3 b6 b7 (fun σ=>yB (yk xz (zz yf zf L) 0 L zaR) zbZ n σ K) K).trans ?_
  simp only [ih]
  rfl
def zel {β:Type} (yf:yx) (zf:xu) (L:Nat) (p42 p43:Int) (b2 b3:List V) (k_ret:Bool→Option β) (k_x0:List V→List V→Option β) (k_hbbaba:Int→Int→List V→List V→Option β):Option β :=
 zhG yf zf L p42 p43 b2 b3 k_ret (fun p42 p43 p79 p80 b2 b3 b6 b7=>za2 yf zf L (fun p4=>zeQ yf zf L p4 k_ret) (fun p42 p43 b2 b3=>zcK yf zf L p42 p43 b2 b3 k_hbbaba) L p42 p43 p79 p80 b2 b3 b6 b7) k_x0
theorem zqk {β:Type} (yf:yx) (zf:xu) (L:Nat) (p42 p43:Int) (b2 b3:List V) (X:St→Option β) (K:KT β):yk xz (zz yf zf L) 0 L zcc (zbG p42 p43 b2 b3) (y9 za4 X K)=zel yf zf L p42 p43 b2 b3 (fun p4=>K .ret (z8 p4)) (fun b2 b3=>K (.exit 0) (zdC b2 b3)) (fun p42 p43 b2 b3=>X (zbG p42 p43 b2 b3)):=by
 refine (zrG yf zf L p42 p43 b2 b3 X K).trans ?_
 unfold zel
 first
  | (simp only [zeI,ziW,zi7]; done)
  | (simp only [zeI]; rfl)
def zdh {β:Type} (yf:yx) (zf:xu) (L:Nat) (k_ret:Bool→Option β) (k_x0:List V→List V→Option β):Nat→Int→Int→List V→List V→Option β
 | 0,_,_,_,_=>none
 | n+1,p42,p43,b2,b3=>zel yf zf L p42 p43 b2 b3 k_ret k_x0 (fun p42 p43 b2 b3=>zdh yf zf L k_ret k_x0 n p42 p43 b2 b3)
theorem zjy {β:Type} (yf:yx) (zf:xu) (L:Nat) (K:KT β):∀ (n:Nat) (p42 p43:Int) (b2 b3:List V),yB (yk xz (zz yf zf L) 0 L zcc) za4 n (zbG p42 p43 b2 b3) K=zdh yf zf L (fun p4=>K .ret (z8 p4)) (fun b2 b3=>K (.exit 0) (zdC b2 b3)) n p42 p43 b2 b3:=by
 intro n
 induction n with
 | zero=>intros; rfl
 | succ n ih =>
  intro p42 p43 b2 b3
  refine (zqk yf zf L p42 p43 b2 b3 (fun σ=>yB (yk xz (zz yf zf L) 0 L zcc) za4 n σ K) K).trans ?_
  simp only [ih]
  rfl
def zcL {β:Type} (yf:yx) (zf:xu) (L:Nat) (k_ret:Bool→Option β) (k_x4:Option β):Nat→Int→Int→List V→List V→Option β
 | 0,_,_,_,_=>none
 | n+1,p99,zKo,b2,b3=>zgI yf zf L p99 zKo b2 b3 k_ret (fun p99 zKo b2 b3=>zcL yf zf L k_ret k_x4 n p99 zKo b2 b3) k_x4
theorem zi6 {β:Type} (yf:yx) (zf:xu) (L:Nat) (K:KT β):∀ (n:Nat) (p99 zKo:Int) (b2 b3:List V),yB (yk xz (zz yf zf L) 0 L zcE) zeq n (zdf p99 zKo b2 b3) K=zcL yf zf L (fun p4=>K .ret (z8 p4)) (K (.exit 4) (ziw)) n p99 zKo b2 b3:=by
 intro n
 induction n with
 | zero=>intros; rfl
 | succ n ih =>
  intro p99 zKo b2 b3
  refine (zqf yf zf L p99 zKo b2 b3 (fun σ=>yB (yk xz (zz yf zf L) 0 L zcE) zeq n σ K) K).trans ?_
  simp only [ih]
  rfl
def zdx {β:Type} (yf:yx) (zf:xu) (L:Nat) (b2 b3:List V) (k_fin:Bool→Option β):Option β :=
 zgo yf zf L b2 b3 (fun p99 zKo b2 b3=>zcL yf zf L (fun p4=>zi4 yf zf L p4 k_fin) (zjI yf zf L k_fin) L p99 zKo b2 b3)
theorem zoC {β:Type} (yf:yx) (zf:xu) (L:Nat) (b2 b3:List V) (k:KK β):(zw 0 (yR (yk xz (zz yf zf L) 0 L zd6) (y6 0 (CF.res zaJ) k))) (.exit 0) (zdC b2 b3)=zdx yf zf L b2 b3 (fun p0=>k (V.sc (.bool p0)) []):=by
 refine (zqa yf zf L b2 b3 k).trans ?_
 unfold zdx
 first
  | (simp only [zi6,zn1,zoQ]; done)
  | (simp only [zi6]; rfl)
def zi1 {β:Type} (yf:yx) (zf:xu) (L:Nat) (p0 p1:List V) (k_fin:Bool→Option β):Option β :=
 zmE yf zf L p0 p1 k_fin (fun p42 p43 b2 b3=>zdh yf zf L (fun p4=>zjG yf zf L p4 k_fin) (fun b2 b3=>zdx yf zf L b2 b3 k_fin) L p42 p43 b2 b3)
theorem zv6 {β:Type} (yf:yx) (zf:xu) (L:Nat) (p0 p1:List V) (k:KK β):yt xz (zz yf zf L) L zaJ [(V.agg p0),(V.agg p1)] [] k=zi1 yf zf L p0 p1 (fun p0=>k (V.sc (.bool p0)) []):=by
 refine (zwi yf zf L p0 p1 k).trans ?_
 unfold zi1
 first
  | (simp only [zjy,zoS,zoC]; done)
  | (simp only [zjy]; rfl)
abbrev zeD:=∀ (β:Type),Nat→List V→List V→(Bool→Option β)→Option β
def yM (β:Type) (L:Nat) (p0 p1:List V) (k_fin:Bool→Option β):Option β:=zi1 yf zf L p0 p1 k_fin
def zgm (yM:zeD) (L:Nat) (β:Type) (args:List V) (bor:Bor) (k:KK β):Option β:=match args,bor with
 | [a0,a1],[]=>aG a0 fun p0=>aG a1 fun p1=>yM β L p0 p1 (fun p0=>k (V.sc (.bool p0)) [])
 | _,_=>none
theorem zwp (L:Nat) (β:Type) (args:List V) (bor:Bor) (k:KK β) (r:β) (h:zgm yM L β args bor k=some r):yt xz (zz yf zf L) L zaJ args bor k=some r:=by
 unfold zgm at h
 split at h
 ·have q:=zgf h; clear h; obtain ⟨p0,rfl,h⟩:=q
  have q:=zgf h; clear h; obtain ⟨p1,rfl,h⟩:=q
  exact (zv6 yf zf L p0 p1 k).trans h
 ·cases h
def zgJ:CF:=⟨67,[.tmp 4],
 (.seq (.reg [oo 4 (.move (.const (.sc (.bool false))) false)])
 (.seq (.seq (.reg [oo 15 (.call 126 [] []),
   oo 16 (.un .not (tq 15))])
 (.cond (tq 16)
 (.seq (.reg [oo 4 (.move (.const (.sc (.bool false))) false)])
 .ret)
 .skip))
 (.seq (.seq (.reg [oo 17 (.move (tq 0) false),
   oo 18 (.lenS (tq 17)),
   oo 19 (.bin .gtr (tq 18) (.const (.sc (.int .i64 3000))))])
 (.cond (tq 19)
 (.seq (.reg [oo 4 (.move (.const (.sc (.bool true))) false)])
 .ret)
 .skip))
 (.seq (.reg [oo 21 (.move (tq 0) false),
   oo 22 (.move (tq 1) false),
   oo 23 (.call 139 [((tq 21),0),((tq 22),0)] []),
   oo 20 (.move (tq 23) true),
   oo 24 (.pull (tq 20) 0),
   oo 25 (.pull (tq 20) 1),
   oo 26 (.pull (tq 20) 2),
   oo 5 (.alloc true [(.sc (.int .u32 0)),(.gs 35 []),(.gs 2 []),(.sc (.int .u32 0))]),
   oz (.store 4 (tq 5) (tq 24)),
   oo 6 (.move (tq 25) false),
   oo 7 (.move (tq 26) false)])
 (.seq (.reg [oo 28 (.move (tq 0) false),
   oo 29 (.move (tq 1) false),
   oo 30 (.call 140 [((tq 28),0),((tq 29),0)] []),
   oo 27 (.move (tq 30) true),
   oo 31 (.pull (tq 27) 0),
   oo 32 (.pull (tq 27) 1),
   oo 33 (.pull (tq 27) 2),
   oo 8 (.alloc true [(.sc (.int .u32 0)),(.gs 35 []),(.gs 2 []),(.sc (.int .u32 0))]),
   oz (.store 4 (tq 8) (tq 31)),
   oo 9 (.move (tq 32) false),
   oo 10 (.move (tq 33) false)])
 (.seq (.reg [oo 35 (.move (tq 0) false),
   oo 36 (.call 141 [((tq 35),0)] []),
   oo 34 (.move (tq 36) true),
   oo 37 (.pull (tq 34) 0),
   oo 38 (.pull (tq 34) 1),
   oo 11 (.alloc true [(.sc (.int .u32 0)),(.gs 35 []),(.gs 2 []),(.sc (.int .u32 0))]),
   oz (.store 4 (tq 11) (tq 37)),
   oo 12 (.move (tq 38) false)])
 (.seq (.reg [oo 40 (.move (tq 0) false),
   oo 41 (.call 142 [((tq 40),0)] []),
   oo 39 (.move (tq 41) true),
   oo 42 (.pull (tq 39) 0),
   oo 43 (.pull (tq 39) 1),
   oo 13 (.alloc true [(.sc (.int .u32 0)),(.gs 35 []),(.gs 2 []),(.sc (.int .u32 0))]),
   oz (.store 4 (tq 13) (tq 42)),
   oo 14 (.move (tq 43) false)])
 (.seq (.reg [oo 44 (.move (tq 6) false),
   oo 45 (.move (tq 9) false),
   oo 46 (.bin .eql (tq 44) (tq 45)),
   oo 47 (.move (tq 46) false),
   ⟨(some 48),false,(some (47,true)),.move (tq 7) false⟩,
   ⟨(some 49),false,(some (47,true)),.move (tq 10) false⟩,
   ⟨(some 50),false,(some (47,true)),.bin .eql (tq 48) (tq 49)⟩,
   oo 51 (.pick (tq 47) (tq 50) (.const (.sc (.bool false)))),
   oo 52 (.move (tq 51) false),
   ⟨(some 53),false,(some (52,true)),.load true 4 (tq 5) false⟩,
   ⟨(some 54),false,(some (52,true)),.load true 4 (tq 8) false⟩,
   ⟨(some 55),false,(some (52,true)),.call 143 [((tq 53),1),((tq 54),1)] []⟩,
   oo 56 (.pick (tq 52) (tq 55) (.const (.sc (.bool false)))),
   oo 57 (.move (tq 56) false),
   ⟨(some 58),false,(some (57,true)),.move (tq 12) false⟩,
   ⟨(some 59),false,(some (57,true)),.move (tq 14) false⟩,
   ⟨(some 60),false,(some (57,true)),.bin .eql (tq 58) (tq 59)⟩,
   oo 61 (.pick (tq 57) (tq 60) (.const (.sc (.bool false)))),
   oo 62 (.move (tq 61) false),
   ⟨(some 63),false,(some (62,true)),.load true 4 (tq 11) false⟩,
   ⟨(some 64),false,(some (62,true)),.load true 4 (tq 13) false⟩,
   ⟨(some 65),false,(some (62,true)),.call 143 [((tq 63),1),((tq 64),1)] []⟩,
   oo 66 (.pick (tq 62) (tq 65) (.const (.sc (.bool false)))),
   oo 4 (.move (tq 66) false)])
 .ret))))))))⟩
def zna:Hint:=⟨[(5,3),(5,7),(6,3),(6,7),(7,2),(7,5),(8,2),(8,5)],[],[none,none,none,none,none],[],[],false,false,[]⟩
def zkm:Nat→Sh:=yP []
def zko (yL:zdK) (yS:zh6) (xE:zeN) (yV:zho) (yY:ziH) (yM:zeD) (L:Nat):CBC:=(xv 143 (zgm yM L) (xv 142 (ziO yY L) (xv 141 (zjv yV L) (xv 140 (zia xE L) (xv 139 (znh yS L) (xv 126 (zgl yL L) noC))))))
def zkP {β:Type} (yL:zdK) (yS:zh6) (xE:zeN) (yV:zho) (yY:ziH) (yM:zeD) (L:Nat) (p0:List (List V)) (p1:Int) (k_fin:Bool→Option β):Option β :=
 yL β L  (fun v0 =>
 ifb (!v0) (
 k_fin false) (
 ifb (decide (((List.length p0:Nat):Int) > (3000:Int))) (
 k_fin true) (
 yS β L p0 p1 (fun v1 v2 v3 =>
 chk ((List.length v1)=4∧0+4≤4) (
 lt (yl [(V.sc (.int .u32 (0:Int))),(V.gs 35 ([]:List (List V))),(V.gs 2 ([]:List (List V))),(V.sc (.int .u32 (0:Int)))] 0 v1) fun r4 =>
 xE β L p0 p1 (fun v5 v6 v7 =>
 chk ((List.length v5)=4∧0+4≤4) (
 lt (yl [(V.sc (.int .u32 (0:Int))),(V.gs 35 ([]:List (List V))),(V.gs 2 ([]:List (List V))),(V.sc (.int .u32 (0:Int)))] 0 v5) fun r8 =>
 yV β L p0 (fun v9 v10 =>
 chk ((List.length v9)=4∧0+4≤4) (
 lt (yl [(V.sc (.int .u32 (0:Int))),(V.gs 35 ([]:List (List V))),(V.gs 2 ([]:List (List V))),(V.sc (.int .u32 (0:Int)))] 0 v9) fun r11 =>
 yY β L p0 (fun v12 v13 =>
 chk ((List.length v12)=4∧0+4≤4) (
 lt (yl [(V.sc (.int .u32 (0:Int))),(V.gs 35 ([]:List (List V))),(V.gs 2 ([]:List (List V))),(V.sc (.int .u32 (0:Int)))] 0 v12) fun r14 =>
 ifb ((v2:Int) == v6) (
 ifb ((v3:Int) == v7) (
 chk (0+4≤(List.length r4)) (
 chk (0+4≤(List.length r8)) (
 yM β L (List.map V.dem (List.take 4 r4)) (List.map V.dem (List.take 4 r8)) (fun v15 =>
 ifb v15 (
 ifb ((v10:Int) == v13) (
 chk (0+4≤(List.length r11)) (
 chk (0+4≤(List.length r14)) (
 yM β L (List.map V.dem (List.take 4 r11)) (List.map V.dem (List.take 4 r14)) (fun v16 =>
 k_fin v16)))) (
 k_fin false)) (
 k_fin false))))) (
 k_fin false)) (
 k_fin false))))))))))))
theorem zuE {β:Type} (yL:zdK) (yS:zh6) (xE:zeN) (yV:zho) (yY:ziH) (yM:zeD) (L:Nat) (p0:List (List V)) (p1:Int) (k:KK β):yt zkm (zko yL yS xE yV yY yM L) L zgJ [(V.sl 1 p0),(V.sc (.int .i64 p1))] [] k=zkP yL yS xE yV yY yM L p0 p1 (fun p0=>k (V.sc (.bool p0)) []):=by kernel_rfl
abbrev zyl:=∀ (β:Type),Nat→List (List V)→Int→(Bool→Option β)→Option β
def zcl (β:Type) (L:Nat) (p0:List (List V)) (p1:Int) (k_fin:Bool→Option β):Option β:=zkP yL yS xE yV yY yM L p0 p1 k_fin
def zh0 (zcl:zyl) (L:Nat) (β:Type) (args:List V) (bor:Bor) (k:KK β):Option β:=match args,bor with
 | [a0,a1],[]=>aL 1 a0 fun p0=>aI .i64 a1 fun p1=>zcl β L p0 p1 (fun p0=>k (V.sc (.bool p0)) [])
 | _,_=>none
theorem zu6 (L:Nat) (β:Type) (args:List V) (bor:Bor) (k:KK β) (r:β) (h:zh0 zcl L β args bor k=some r):yt zkm (zko yL yS xE yV yY yM L) L zgJ args bor k=some r:=by
 unfold zh0 at h
 split at h
 ·have q:=zM h; clear h; obtain ⟨p0,rfl,h⟩:=q
  have q:=zy h; clear h; obtain ⟨p1,rfl,h⟩:=q
  exact (zuE yL yS xE yV yY yM L p0 p1 k).trans h
 ·cases h
def zuZ:CC:=(.seq (.reg [oo 16 (.bin .lss (tq 15) (tq 14))])
 (.seq (.cond (tq 16)
 .skip
 (.seq (.mask (bl 0 24) (bl 15728319 24))
 (.exit 0)))
 (.seq (.block 1 (.seq (.reg [oo 17 (.indexAddrS 1 (tq 13) (tq 15)),
   oo 18 (.load false 1 (tq 17) false),
   oo 8 (.move (tq 18) false)])
 (.seq (.reg [oo 19 (.move (tq 8) false),
   oo 20 (.lenS (tq 19)),
   oo 21 (.move (tq 2) false),
   oo 22 (.bin .gtr (tq 20) (tq 21))])
 (.cond (tq 22)
 (.seq (.reg [oo 6 (.move (.const (.sc (.bool false))) false)])
 (.seq (.mask (bl 64 24) (bl 15728383 24))
 .ret))
 .skip))))
 (.reg [oo 23 (.bin .add (tq 15) (.const (.sc (.int .i64 1)))),
   oo 15 (.move (tq 23) false)]))))
def zxO:CC:=(.seq (.reg [oo 6 (.move (.const (.sc (.bool true))) false)])
 .ret)
def zt6:CF:=⟨24,[.tmp 6],
 (.seq (.reg [oo 6 (.move (.const (.sc (.bool false))) false)])
 (.seq (.seq (.reg [oo 9 (.move (tq 0) false),
   oo 10 (.lenS (tq 9)),
   oo 11 (.move (tq 1) false),
   oo 12 (.bin .gtr (tq 10) (tq 11))])
 (.cond (tq 12)
 (.seq (.reg [oo 6 (.move (.const (.sc (.bool false))) false)])
 .ret)
 .skip))
 (.seq (.seq (.reg [oo 13 (.move (tq 0) false),
   oo 14 (.lenS (tq 13)),
   oo 15 (.move (.const (.sc (.int .i64 0))) false)])
 (.block 0 (.loop (bl 57348 24) (bl 15728319 24)
 zuZ)))
 zxO)))⟩
def zqW:Hint:=⟨[],[],[none,none,none,some ((bl 57348 24),(bl 15728319 24)),none,some ((bl 0 24),(bl 15728319 24)),none,none,some ((bl 64 24),(bl 15728383 24)),none],[],[],false,false,[]⟩
def zIs:Nat→Sh:=yP [(18,(.sl 1))]
def zIx (L:Nat):CBC:=noC
def zGp:St→St:=y4 0 (bl 57348 24) (bl 15728319 24)
def zEb (p2:Int) (p13:List (List V)) (p14 p15:Int):St:=⟨(jn 2 ((V.sc (.int .i64 p2))::(jn 10 ((V.sl 1 p13)::((V.sc (.int .i64 p14))::((V.sc (.int .i64 p15))::(jn 8 []))))))),(gn 24 [])⟩
def zGo (p6:Bool):St:=⟨(jn 6 ((V.sc (.bool p6))::(jn 17 []))),(gn 24 [])⟩
def zHd:St:=⟨(jn 24 []),(gn 24 [])⟩
def zCF {β:Type} (L:Nat) (p0:List (List V)) (p1 p2:Int) (k_fin:Bool→Option β) (k_hbbaba:Int→List (List V)→Int→Int→Option β):Option β :=
 ifb (decide (((List.length p0:Nat):Int) > p1)) (
 k_fin false) (
 k_hbbaba p2 p0 ((List.length p0:Nat):Int) (0:Int))
def zv1 {β:Type} (L:Nat) (p2:Int) (p13:List (List V)) (p14 p15:Int) (k_ret:Bool→Option β) (k_hbbaba:Int→List (List V)→Int→Int→Option β) (k_x0:Option β):Option β :=
 ifb (decide (p15 < p14)) (
 idx p13 p15 fun c0 =>
 cL 1 c0 0 fun v1 =>
 ifb (decide (((List.length v1:Nat):Int) > p2)) (
 k_ret false) (
 lt (IntKind.wrap .i64 ((p15:Int)+(1:Int))) fun x2 =>
 k_hbbaba p2 p13 p14 x2)) (
 k_x0)
def zs2 {β:Type} (L:Nat) (p6:Bool) (k_fin:Bool→Option β):Option β :=
 k_fin p6
def zum {β:Type} (L:Nat) (k_fin:Bool→Option β):Option β :=
 k_fin true
def zop {β:Type} (L:Nat) (k_ret:Bool→Option β) (k_x0:Option β):Nat→Int→List (List V)→Int→Int→Option β
 | 0,_,_,_,_=>none
 | n+1,p2,p13,p14,p15=>zv1 L p2 p13 p14 p15 k_ret (fun p2 p13 p14 p15=>zop L k_ret k_x0 n p2 p13 p14 p15) k_x0
def zCm {β:Type} (L:Nat) (p0:List (List V)) (p1 p2:Int) (k_fin:Bool→Option β):Option β :=
 zCF L p0 p1 p2 k_fin (fun p2 p13 p14 p15=>zop L (fun p6=>zs2 L p6 k_fin) (zum L k_fin) L p2 p13 p14 p15)
abbrev zbh:=∀ (β:Type),Nat→List (List V)→Int→Int→(Bool→Option β)→Option β
def zI (β:Type) (L:Nat) (p0:List (List V)) (p1 p2:Int) (k_fin:Bool→Option β):Option β:=zCm L p0 p1 p2 k_fin
def zBH (zI:zbh) (L:Nat) (β:Type) (args:List V) (bor:Bor) (k:KK β):Option β:=match args,bor with
 | [a0,a1,a2],[]=>aL 1 a0 fun p0=>aI .i64 a1 fun p1=>aI .i64 a2 fun p2=>zI β L p0 p1 p2 (fun p0=>k (V.sc (.bool p0)) [])
 | _,_=>none
def zwT:CC:=(.seq (.reg [oo 33 (.bin .lss (tq 32) (tq 31))])
 (.seq (.cond (tq 33)
 .skip
 (.seq (.mask (bl 0 41) (bl 1924145348521 41))
 (.exit 2)))
 (.seq (.block 3 (.seq (.reg [oo 34 (.indexAddrS 2 (tq 30) (tq 32)),
   oo 35 (.load true 2 (tq 34) false),
   oo 6 (.alloc true [(.sc (.int .i64 0)),(.gs 1 [])]),
   oz (.store 2 (tq 6) (tq 35))])
 (.seq (.reg [oo 36 (.fieldAddr 1 (tq 6)),
   oo 37 (.load false 1 (tq 36) false),
   oo 38 (.lenS (tq 37)),
   oo 39 (.bin .gtr (tq 38) (.const (.sc (.int .i64 600))))])
 (.cond (tq 39)
 (.seq (.reg [oo 2 (.move (.const (.sc (.bool false))) false)])
 (.seq (.mask (bl 4 41) (bl 1924145348525 41))
 .ret))
 .skip))))
 (.reg [oo 40 (.bin .add (tq 32) (.const (.sc (.int .i64 1)))),
   oo 32 (.move (tq 40) false)]))))
def zxD:CC:=(.seq (.reg [oo 21 (.bin .lss (tq 20) (tq 19))])
 (.seq (.cond (tq 21)
 .skip
 (.seq (.mask (bl 2 41) (bl 2198956146603 41))
 (.exit 0)))
 (.seq (.block 1 (.seq (.reg [oo 22 (.indexAddrS 35 (tq 18) (tq 20)),
   oo 23 (.load true 35 (tq 22) false),
   oo 4 (.alloc true (rp 32 (.sc (.int .u8 0)) (rp 2 (.sc (.int .u32 0)) (rp 1 (.gs 1 []) [])))),
   oz (.store 35 (tq 4) (tq 23))])
 (.seq (.reg [oo 24 (.fieldAddr 34 (tq 4)),
   oo 25 (.load false 1 (tq 24) false),
   oo 26 (.call 145 [((tq 25),0),((.const (.sc (.int .i64 40))),0),((.const (.sc (.int .i64 600))),0)] []),
   oo 27 (.un .not (tq 26))])
 (.cond (tq 27)
 (.seq (.reg [oo 2 (.move (.const (.sc (.bool false))) false)])
 (.seq (.mask (bl 4 41) (bl 2198956146605 41))
 .ret))
 .skip))))
 (.reg [oo 28 (.bin .add (tq 20) (.const (.sc (.int .i64 1)))),
   oo 20 (.move (tq 28) false)]))))
def zA7:CC:=(.seq (.reg [oo 2 (.move (.const (.sc (.bool true))) false)])
 .ret)
def zB6:CC:=(.seq (.seq (.reg [oo 29 (.fieldAddr 2 (tq 1)),
   oo 30 (.load false 1 (tq 29) false),
   oo 31 (.lenS (tq 30)),
   oo 32 (.move (.const (.sc (.int .i64 0))) false)])
 (.block 2 (.loop (bl 7516192768 41) (bl 1924145348521 41)
 zwT)))
 zA7)
def zxQ:CF:=⟨41,[.tmp 2],
 (.seq (.reg [oo 1 (.box true (tq 0)),
   oo 2 (.move (.const (.sc (.bool false))) false)])
 (.seq (.seq (.reg [oo 7 (.fieldAddr 1 (tq 1)),
   oo 8 (.load false 1 (tq 7) false),
   oo 9 (.lenS (tq 8)),
   oo 10 (.bin .gtr (tq 9) (.const (.sc (.int .i64 70)))),
   oo 11 (.move (tq 10) false),
   ⟨(some 12),false,(some (11,false)),.fieldAddr 2 (tq 1)⟩,
   ⟨(some 13),false,(some (11,false)),.load false 1 (tq 12) false⟩,
   ⟨(some 14),false,(some (11,false)),.lenS (tq 13)⟩,
   ⟨(some 15),false,(some (11,false)),.bin .gtr (tq 14) (.const (.sc (.int .i64 70)))⟩,
   oo 16 (.pick (tq 11) (.const (.sc (.bool true))) (tq 15))])
 (.cond (tq 16)
 (.seq (.reg [oo 2 (.move (.const (.sc (.bool false))) false)])
 .ret)
 .skip))
 (.seq (.seq (.reg [oo 17 (.fieldAddr 1 (tq 1)),
   oo 18 (.load false 1 (tq 17) false),
   oo 19 (.lenS (tq 18)),
   oo 20 (.move (.const (.sc (.int .i64 0))) false)])
 (.block 0 (.loop (bl 1835010 41) (bl 2198956146603 41)
 zxD)))
 zB6)))⟩
def zu9:Hint:=⟨[(0,0),(5,2),(11,2)],[],[none,none,none,some ((bl 1835010 41),(bl 2198956146603 41)),none,some ((bl 2 41),(bl 2198956146603 41)),none,none,some ((bl 4 41),(bl 2198956146605 41)),none,some ((bl 7516192768 41),(bl 1924145348521 41)),none,some ((bl 0 41),(bl 1924145348521 41)),none,none,some ((bl 4 41),(bl 1924145348525 41)),none],[],[],false,false,[]⟩
def zI8:Nat→Sh:=yP [(8,(.sl 35)),(13,(.sl 2)),(18,(.sl 35)),(25,(.sl 1)),(30,(.sl 2)),(37,(.sl 1))]
def zJo (zI:zbh) (L:Nat):CBC:=(xv 145 (zBH zI L) noC)
def zIo:St→St:=y4 0 (bl 1835010 41) (bl 2198956146603 41)
def zHq:St→St:=y4 0 (bl 7516192768 41) (bl 1924145348521 41)
def zGq (p18:List (List V)) (p19 p20:Int) (b1:List V):St:=⟨(jn 1 ((V.ptr 1 0)::(jn 16 ((V.sl 35 p18)::((V.sc (.int .i64 p19))::((V.sc (.int .i64 p20))::(jn 20 []))))))),(gn 1 ((.live true b1)::(gn 39 [])))⟩
def zIg (p2:Bool):St:=⟨(jn 2 ((V.sc (.bool p2))::(jn 38 []))),(gn 41 [])⟩
def zIt (b1:List V):St:=⟨(jn 1 ((V.ptr 1 0)::(jn 39 []))),(gn 1 ((.live true b1)::(gn 39 [])))⟩
def zFf (p30:List (List V)) (p31 p32:Int):St:=⟨(jn 30 ((V.sl 2 p30)::((V.sc (.int .i64 p31))::((V.sc (.int .i64 p32))::(jn 8 []))))),(gn 41 [])⟩
def zIv:St:=⟨(jn 41 []),(gn 41 [])⟩
def zF4 {β:Type} (zI:zbh) (L:Nat) (p0:List V) (k_fin:Bool→Option β) (k_hbbaba:List (List V)→Int→Int→List V→Option β):Option β :=
 cLd 35 p0 1 fun v0 =>
 ifb (decide (((List.length v0:Nat):Int) > (70:Int))) (
 k_fin false) (
 cLd 2 p0 2 fun v1 =>
 ifb (decide (((List.length v1:Nat):Int) > (70:Int))) (
 k_fin false) (
 cLd 35 p0 1 fun v2 =>
 k_hbbaba v2 ((List.length v2:Nat):Int) (0:Int) p0))
def zyZ {β:Type} (zI:zbh) (L:Nat) (p18:List (List V)) (p19 p20:Int) (b1:List V) (k_ret:Bool→Option β) (k_hbbaba:List (List V)→Int→Int→List V→Option β) (k_x0:List V→Option β):Option β :=
 ifb (decide (p20 < p19)) (
 idx p18 p20 fun c3 =>
 chk ((List.length (List.take 35 c3))=35∧0+35≤35) (
 lt (yl (List.replicate 32 (V.sc (.int .u8 (0:Int)))++[(V.sc (.int .u32 (0:Int))),(V.sc (.int .u32 (0:Int))),(V.gs 1 ([]:List (List V)))]) 0 (List.take 35 c3)) fun r4 =>
 cLd 1 r4 34 fun v5 =>
 zI β L v5 (40:Int) (600:Int) (fun v6 =>
 ifb (!v6) (
 k_ret false) (
 lt (IntKind.wrap .i64 ((p20:Int)+(1:Int))) fun x7 =>
 k_hbbaba p18 p19 x7 b1)))) (
 k_x0 b1)
def zwq {β:Type} (zI:zbh) (L:Nat) (p2:Bool) (k_fin:Bool→Option β):Option β :=
 k_fin p2
def zxb {β:Type} (zI:zbh) (L:Nat) (b1:List V) (k_hbbbaba:List (List V)→Int→Int→Option β):Option β :=
 cLd 2 b1 2 fun v8 =>
 k_hbbbaba v8 ((List.length v8:Nat):Int) (0:Int)
def zya {β:Type} (zI:zbh) (L:Nat) (p30:List (List V)) (p31 p32:Int) (k_ret:Bool→Option β) (k_hbbbaba:List (List V)→Int→Int→Option β) (k_x2:Option β):Option β :=
 ifb (decide (p32 < p31)) (
 idx p30 p32 fun c9 =>
 chk ((List.length (List.take 2 c9))=2∧0+2≤2) (
 lt (yl [(V.sc (.int .i64 (0:Int))),(V.gs 1 ([]:List (List V)))] 0 (List.take 2 c9)) fun r10 =>
 cLd 1 r10 1 fun v11 =>
 ifb (decide (((List.length v11:Nat):Int) > (600:Int))) (
 k_ret false) (
 lt (IntKind.wrap .i64 ((p32:Int)+(1:Int))) fun x12 =>
 k_hbbbaba p30 p31 x12))) (
 k_x2)
def zvn {β:Type} (zI:zbh) (L:Nat) (p2:Bool) (k_fin:Bool→Option β):Option β :=
 k_fin p2
def zv9 {β:Type} (zI:zbh) (L:Nat) (k_fin:Bool→Option β):Option β :=
 k_fin true
def zsX {β:Type} (zI:zbh) (L:Nat) (k_ret:Bool→Option β) (k_x0:List V→Option β):Nat→List (List V)→Int→Int→List V→Option β
 | 0,_,_,_,_=>none
 | n+1,p18,p19,p20,b1=>zyZ zI L p18 p19 p20 b1 k_ret (fun p18 p19 p20 b1=>zsX zI L k_ret k_x0 n p18 p19 p20 b1) k_x0
def zqJ {β:Type} (zI:zbh) (L:Nat) (k_ret:Bool→Option β) (k_x2:Option β):Nat→List (List V)→Int→Int→Option β
 | 0,_,_,_=>none
 | n+1,p30,p31,p32=>zya zI L p30 p31 p32 k_ret (fun p30 p31 p32=>zqJ zI L k_ret k_x2 n p30 p31 p32) k_x2
def zwe {β:Type} (zI:zbh) (L:Nat) (b1:List V) (k_fin:Bool→Option β):Option β :=
 zxb zI L b1 (fun p30 p31 p32=>zqJ zI L (fun p2=>zvn zI L p2 k_fin) (zv9 zI L k_fin) L p30 p31 p32)
def zFJ {β:Type} (zI:zbh) (L:Nat) (p0:List V) (k_fin:Bool→Option β):Option β :=
 zF4 zI L p0 k_fin (fun p18 p19 p20 b1=>zsX zI L (fun p2=>zwq zI L p2 k_fin) (fun b1=>zwe zI L b1 k_fin) L p18 p19 p20 b1)
abbrev znb:=∀ (β:Type),Nat→List V→(Bool→Option β)→Option β
def zc7 (β:Type) (L:Nat) (p0:List V) (k_fin:Bool→Option β):Option β:=zFJ zI L p0 k_fin
def zAx (zc7:znb) (L:Nat) (β:Type) (args:List V) (bor:Bor) (k:KK β):Option β:=match args,bor with
 | [a0],[]=>aG a0 fun p0=>zc7 β L p0 (fun p0=>k (V.sc (.bool p0)) [])
 | _,_=>none
def ztI:CC:=(.seq (.reg [oo 12 (.bin .lss (tq 11) (tq 10))])
 (.seq (.cond (tq 12)
 .skip
 (.seq (.mask (bl 32 24) (bl 16777151 24))
 (.exit 0)))
 (.seq (.block 1 (.seq (.reg [oo 13 (.move (tq 11) false),
   oo 6 (.move (tq 13) false)])
 (.reg [oo 14 (.move (tq 5) false),
   oo 15 (.move (tq 6) false),
   oo 16 (.move (tq 0) false),
   oo 17 (.move (tq 6) false),
   oo 18 (.bin .mul (.const (.sc (.int .i64 8))) (tq 17)),
   oo 19 (.bin .shr (tq 16) (tq 18)),
   oo 20 (.conv .u8 (tq 19)),
   oo 21 (.indexAddrS 1 (tq 14) (tq 15)),
   oz (.store 1 (tq 21) (tq 20))])))
 (.reg [oo 22 (.bin .add (tq 11) (.const (.sc (.int .i64 1)))),
   oo 11 (.move (tq 22) false)]))))
def zwc:CC:=(.seq (.reg [oo 23 (.move (tq 5) true),
   oo 4 (.move (tq 23) true)])
 .ret)
def zqH:CF:=⟨24,[.tmp 4],
 (.seq (.reg [oo 4 (.move (.const (.gs 1 [])) true)])
 (.seq (.reg [oo 7 (.move (tq 1) false),
   ⟨(some 8),true,none,.makeSlice 1 1 [(.sc (.int .u8 0))] (tq 7) (tq 7)⟩,
   oo 5 (.move (tq 8) true)])
 (.seq (.seq (.reg [oo 9 (.move (tq 5) false),
   oo 10 (.lenS (tq 9)),
   oo 11 (.move (.const (.sc (.int .i64 0))) false)])
 (.block 0 (.loop (bl 3105 24) (bl 16777151 24)
 ztI)))
 zwc)))⟩
def zoj:Hint:=⟨[(0,0),(1,2),(7,0),(7,1)],[(1,1)],[none,some ((bl 3105 24),(bl 16777151 24)),none,some ((bl 32 24),(bl 16777151 24)),none,none],[],[],false,false,[]⟩
def zHB:Nat→Sh:=yP []
def zHv (L:Nat):CBC:=noC
def zEY:St→St:=y4 0 (bl 3105 24) (bl 16777151 24)
def zDe (p0:Int) (p5l:Nat) (p10 p11:Int) (b8:List V):St:=⟨((V.sc (.int .u64 p0))::(jn 4 ((V.own 8 0 p5l 1)::(jn 4 ((V.sc (.int .i64 p10))::((V.sc (.int .i64 p11))::(jn 12 []))))))),(gn 8 ((.live true b8)::(gn 15 [])))⟩
def zFe (p5l:Nat) (b8:List V):St:=⟨(jn 5 ((V.own 8 0 p5l 1)::(jn 18 []))),(gn 8 ((.live true b8)::(gn 15 [])))⟩
def zzM {β:Type} (L:Nat) (p0 p1:Int) (k_hbbaba:Int→Nat→Int→Int→List V→Option β):Option β :=
 chk (0≤p1∧p1≤p1∧(Int.toNat p1) * 1≤yn∧p1≤yn) (
 k_hbbaba p0 (Int.toNat p1) (((Int.toNat p1):Nat):Int) (0:Int) (List.flatten (List.replicate (Int.toNat p1) [(V.sc (.int .u8 (0:Int)))])))
def zue {β:Type} (L:Nat) (p0:Int) (p5l:Nat) (p10 p11:Int) (b8:List V) (k_hbbaba:Int→Nat→Int→Int→List V→Option β) (k_x0:Nat→List V→Option β):Option β :=
 ifb (decide (p11 < p10)) (
 lt (IntKind.wrap .i64 (((8:Int):Int) * p11)) fun x0 =>
 chk (0≤x0) (
 lt (zIS .u64 p0 x0) fun x1 =>
 lt (IntKind.wrap .u8 x1) fun x2 =>
 chk (0≤p11∧p11 < ((p5l:Nat):Int)) (
 chk (1=1∧(0+((Int.toNat p11) * 1))+1≤(List.length b8)) (
 lt (yl b8 (0+((Int.toNat p11) * 1)) [(V.sc (.int .u8 x2))]) fun r3 =>
 lt (IntKind.wrap .i64 ((p11:Int)+(1:Int))) fun x4 =>
 k_hbbaba p0 p5l p10 x4 r3)))) (
 k_x0 p5l b8)
def zr2 {β:Type} (L:Nat) (p5l:Nat) (b8:List V) (k_fin:List (List V)→Option β):Option β :=
 chk (p5l≠0∨(List.length b8)=0) (
 k_fin (xj 1 p5l b8))
def zl0 {β:Type} (L:Nat) (k_x0:Nat→List V→Option β):Nat→Int→Nat→Int→Int→List V→Option β
 | 0,_,_,_,_,_=>none
 | n+1,p0,p5l,p10,p11,b8=>zue L p0 p5l p10 p11 b8 (fun p0 p5l p10 p11 b8=>zl0 L k_x0 n p0 p5l p10 p11 b8) k_x0
def zzq {β:Type} (L:Nat) (p0 p1:Int) (k_fin:List (List V)→Option β):Option β :=
 zzM L p0 p1 (fun p0 p5l p10 p11 b8=>zl0 L (fun p5l b8=>zr2 L p5l b8 k_fin) L p0 p5l p10 p11 b8)
abbrev zdq:=∀ (β:Type),Nat→Int→Int→(List (List V)→Option β)→Option β
def xQ (β:Type) (L:Nat) (p0 p1:Int) (k_fin:List (List V)→Option β):Option β:=zzq L p0 p1 k_fin
def zmk (xQ:zdq) (L:Nat) (β:Type) (args:List V) (bor:Bor) (k:KK β):Option β:=match args,bor with
 | [a0,a1],[]=>aI .u64 a0 fun p0=>aI .i64 a1 fun p1=>xQ β L p0 p1 (fun p0=>k (V.fr 1 p0) [])
 | _,_=>none
def znm:CF:=⟨10,[.tmp 4],
 (.seq (.reg [oo 4 (.move (.const (.gs 1 [])) true)])
 (.seq (.reg [oo 5 (.move (tq 0) false),
   oo 6 (.move (tq 1) false),
   oo 7 (.conv .u64 (tq 6)),
   oo 8 (.call 194 [((tq 7),0),((.const (.sc (.int .i64 4))),0)] []),
   oo 9 (.call 193 [((tq 5),0),((tq 8),0)] []),
   oo 4 (.move (tq 9) true)])
 .ret))⟩
def zk5:Hint:=⟨[(0,0),(1,5)],[],[none],[],[],false,false,[]⟩
def zFt:Nat→Sh:=yP []
def zFi (xQ:zdq) (xn:zat) (L:Nat):CBC:=(xv 193 (zcd xn L) (xv 194 (zmk xQ L) noC))
def zwj {β:Type} (xQ:zdq) (xn:zat) (L:Nat) (p0:List (List V)) (p1:Int) (k_fin:List (List V)→Option β):Option β :=
 lt (IntKind.wrap .u64 p1) fun x0 =>
 xQ β L x0 (4:Int) (fun v1 =>
 xn β L p0 v1 (fun v2 =>
 k_fin v2))
abbrev xG:=∀ (β:Type),Nat→List (List V)→Int→(List (List V)→Option β)→Option β
def yi (β:Type) (L:Nat) (p0:List (List V)) (p1:Int) (k_fin:List (List V)→Option β):Option β:=zwj xQ xn L p0 p1 k_fin
def zox (yi:xG) (L:Nat) (β:Type) (args:List V) (bor:Bor) (k:KK β):Option β:=match args,bor with
 | [a0,a1],[]=>aL 1 a0 fun p0=>aI .u32 a1 fun p1=>yi β L p0 p1 (fun p0=>k (V.gs 1 p0) [])
 | _,_=>none
def zma:CF:=⟨36,[.tmp 4],
 (.seq (.reg [oo 4 (.move (.const (.gs 1 [])) true)])
 (.seq (.block 0 (.seq (.reg [oo 6 (.move (tq 1) false),
   oo 7 (.bin .lss (tq 6) (.const (.sc (.int .u64 253)))),
   oo 5 (.move (tq 7) false)])
 (.cond (tq 5)
 (.seq (.reg [oo 8 (.move (tq 0) false),
   oo 9 (.move (tq 1) false),
   oo 10 (.call 194 [((tq 9),0),((.const (.sc (.int .i64 1))),0)] []),
   oo 11 (.call 193 [((tq 8),0),((tq 10),0)] []),
   oo 4 (.move (tq 11) true)])
 .ret)
 (.seq (.reg [oo 13 (.move (tq 1) false),
   oo 14 (.bin .lss (tq 13) (.const (.sc (.int .u64 65536)))),
   oo 12 (.move (tq 14) false)])
 (.cond (tq 12)
 (.seq (.reg [oo 15 (.move (tq 0) false),
   oo 16 (.buildSlice 1 1 [(.sc (.int .u8 0))] [(0,1,(.const (.sc (.int .u8 253))))]),
   oo 17 (.move (tq 1) false),
   oo 18 (.call 194 [((tq 17),0),((.const (.sc (.int .i64 2))),0)] []),
   oo 19 (.call 193 [((tq 16),0),((tq 18),0)] []),
   oo 20 (.call 193 [((tq 15),0),((tq 19),0)] []),
   oo 4 (.move (tq 20) true)])
 .ret)
 (.seq (.reg [oo 22 (.move (tq 1) false),
   oo 23 (.bin .lss (tq 22) (.const (.sc (.int .u64 4294967296)))),
   oo 21 (.move (tq 23) false)])
 (.cond (tq 21)
 (.seq (.reg [oo 24 (.move (tq 0) false),
   oo 25 (.buildSlice 1 1 [(.sc (.int .u8 0))] [(0,1,(.const (.sc (.int .u8 254))))]),
   oo 26 (.move (tq 1) false),
   oo 27 (.call 194 [((tq 26),0),((.const (.sc (.int .i64 4))),0)] []),
   oo 28 (.call 193 [((tq 25),0),((tq 27),0)] []),
   oo 29 (.call 193 [((tq 24),0),((tq 28),0)] []),
   oo 4 (.move (tq 29) true)])
 .ret)
 .skip)))))))
 (.seq (.reg [oo 30 (.move (tq 0) false),
   oo 31 (.buildSlice 1 1 [(.sc (.int .u8 0))] [(0,1,(.const (.sc (.int .u8 255))))]),
   oo 32 (.move (tq 1) false),
   oo 33 (.call 194 [((tq 32),0),((.const (.sc (.int .i64 8))),0)] []),
   oo 34 (.call 193 [((tq 31),0),((tq 33),0)] []),
   oo 35 (.call 193 [((tq 30),0),((tq 34),0)] []),
   oo 4 (.move (tq 35) true)])
 .ret)))⟩
def zkH:Hint:=⟨[(0,0),(2,4),(4,6),(6,6),(7,6)],[],[none,none,none,none,none,none,none,none],[],[],false,false,[]⟩
def zEX:Nat→Sh:=yP []
def zEU (xQ:zdq) (xn:zat) (L:Nat):CBC:=(xv 193 (zcd xn L) (xv 194 (zmk xQ L) noC))
def zvy {β:Type} (xQ:zdq) (xn:zat) (L:Nat) (p0:List (List V)) (p1:Int) (k_fin:List (List V)→Option β):Option β :=
 ifb (decide (p1 < (253:Int))) (
 xQ β L p1 (1:Int) (fun v0 =>
 xn β L p0 v0 (fun v1 =>
 k_fin v1))) (
 ifb (decide (p1 < (65536:Int))) (
 xQ β L p1 (2:Int) (fun v2 =>
 xn β L (xj 1 1 [(V.sc (.int .u8 (253:Int)))]) v2 (fun v3 =>
 xn β L p0 v3 (fun v4 =>
 k_fin v4)))) (
 ifb (decide (p1 < (4294967296:Int))) (
 xQ β L p1 (4:Int) (fun v5 =>
 xn β L (xj 1 1 [(V.sc (.int .u8 (254:Int)))]) v5 (fun v6 =>
 xn β L p0 v6 (fun v7 =>
 k_fin v7)))) (
 xQ β L p1 (8:Int) (fun v8 =>
 xn β L (xj 1 1 [(V.sc (.int .u8 (255:Int)))]) v8 (fun v9 =>
 xn β L p0 v9 (fun v10 =>
 k_fin v10))))))
abbrev xC:=∀ (β:Type),Nat→List (List V)→Int→(List (List V)→Option β)→Option β
def xh (β:Type) (L:Nat) (p0:List (List V)) (p1:Int) (k_fin:List (List V)→Option β):Option β:=zvy xQ xn L p0 p1 k_fin
def znn (xh:xC) (L:Nat) (β:Type) (args:List V) (bor:Bor) (k:KK β):Option β:=match args,bor with
 | [a0,a1],[]=>aL 1 a0 fun p0=>aI .u64 a1 fun p1=>xh β L p0 p1 (fun p0=>k (V.gs 1 p0) [])
 | _,_=>none
def zl3:CF:=⟨8,[.tmp 4],
 (.seq (.reg [oo 3 (.box true (tq 1)),
   oo 4 (.move (.const (.gs 1 [])) true)])
 (.seq (.reg [oo 5 (.move (tq 0) false),
   oo 6 (.sliceA 32 1 (tq 3) none none none),
   oo 7 (.call 193 [((tq 5),0),((tq 6),0)] []),
   oo 4 (.move (tq 7) true)])
 .ret))⟩
def zkv:Hint:=⟨[(0,1),(1,3)],[],[none],[],[],false,false,[]⟩
def zEV:Nat→Sh:=yP []
def zEW (xn:zat) (L:Nat):CBC:=(xv 193 (zcd xn L) noC)
def zuL {β:Type} (xn:zat) (L:Nat) (p0:List (List V)) (p1:List V) (k_fin:List (List V)→Option β):Option β :=
 chk (0+32 * 1≤(List.length p1)) (
 ifb (List.isEmpty p1) (
 xn β L p0 (xj 1 32 p1) (fun v0 =>
 k_fin v0)) (
 xn β L p0 (xj 1 32 p1) (fun v1 =>
 k_fin v1)))
abbrev zil:=∀ (β:Type),Nat→List (List V)→List V→(List (List V)→Option β)→Option β
def zb1 (β:Type) (L:Nat) (p0:List (List V)) (p1:List V) (k_fin:List (List V)→Option β):Option β:=zuL xn L p0 p1 k_fin
def zu4 (zb1:zil) (L:Nat) (β:Type) (args:List V) (bor:Bor) (k:KK β):Option β:=match args,bor with
 | [a0,a1],[]=>aL 1 a0 fun p0=>aG a1 fun p1=>zb1 β L p0 p1 (fun p0=>k (V.gs 1 p0) [])
 | _,_=>none
def zsD:CF:=⟨9,[.tmp 2],
 (.seq (.reg [oo 1 (.box true (tq 0)),
   oo 2 (.move (.const (.gs 1 [])) true)])
 (.seq (.dreg [] [(oo 3 (.fieldAddr 0 (tq 1)),q0),
   (oo 4 (.load true 32 (tq 3) false),ql 1 [] []),
   (oo 5 (.call 160 [((.const (.gs 1 [])),0),((tq 4),0)] []),qc [1] []),
   (oo 6 (.fieldAddr 32 (tq 1)),q0),
   (oo 7 (.load false 1 (tq 6) false),ql 1 [] []),
   (oo 8 (.call 159 [((tq 5),0),((tq 7),0)] []),q0),
   (oo 2 (.move (tq 8) true),q0)])
 .ret))⟩
def zpC:Hint:=⟨[(0,1),(1,6)],[],[none],[],[],false,false,[]⟩
def zH2:Nat→Sh:=yP [(7,(.int .u32))]
def zH4 (zb1:zil) (yi:xG) (L:Nat):CBC:=(xv 159 (zox yi L) (xv 160 (zu4 zb1 L) noC))
def zA1 {β:Type} (zb1:zil) (yi:xG) (L:Nat) (p0:List V) (k_fin:List (List V)→Option β):Option β :=
 chk (0+32≤(List.length p0)) (
 zb1 β L ([]:List (List V)) (List.take 32 p0) (fun v0 =>
 cI .u32 p0 32 fun v1 =>
 yi β L v0 v1 (fun v2 =>
 k_fin v2)))
abbrev xW:=∀ (β:Type),Nat→List V→(List (List V)→Option β)→Option β
def zt (β:Type) (L:Nat) (p0:List V) (k_fin:List (List V)→Option β):Option β:=zA1 zb1 yi L p0 k_fin
def zA0 (zt:xW) (L:Nat) (β:Type) (args:List V) (bor:Bor) (k:KK β):Option β:=match args,bor with
 | [a0],[]=>aG a0 fun p0=>zt β L p0 (fun p0=>k (V.gs 1 p0) [])
 | _,_=>none
def znl:CF:=⟨9,[.tmp 4],
 (.seq (.reg [oo 4 (.move (.const (.gs 1 [])) true)])
 (.seq (.reg [oo 5 (.move (tq 0) false),
   oo 6 (.move (tq 1) false),
   oo 7 (.call 194 [((tq 6),0),((.const (.sc (.int .i64 8))),0)] []),
   oo 8 (.call 193 [((tq 5),0),((tq 7),0)] []),
   oo 4 (.move (tq 8) true)])
 .ret))⟩
def zlV:Hint:=⟨[(0,0),(1,4)],[],[none],[],[],false,false,[]⟩
def zFl:Nat→Sh:=yP []
def zE6 (xQ:zdq) (xn:zat) (L:Nat):CBC:=(xv 193 (zcd xn L) (xv 194 (zmk xQ L) noC))
def zwb {β:Type} (xQ:zdq) (xn:zat) (L:Nat) (p0:List (List V)) (p1:Int) (k_fin:List (List V)→Option β):Option β :=
 xQ β L p1 (8:Int) (fun v0 =>
 xn β L p0 v0 (fun v1 =>
 k_fin v1))
abbrev zji:=∀ (β:Type),Nat→List (List V)→Int→(List (List V)→Option β)→Option β
def zcf (β:Type) (L:Nat) (p0:List (List V)) (p1:Int) (k_fin:List (List V)→Option β):Option β:=zwb xQ xn L p0 p1 k_fin
def zv8 (zcf:zji) (L:Nat) (β:Type) (args:List V) (bor:Bor) (k:KK β):Option β:=match args,bor with
 | [a0,a1],[]=>aL 1 a0 fun p0=>aI .u64 a1 fun p1=>zcf β L p0 p1 (fun p0=>k (V.gs 1 p0) [])
 | _,_=>none
def zla:CF:=⟨12,[.tmp 4],
 (.seq (.reg [oo 4 (.move (.const (.gs 1 [])) true)])
 (.seq (.reg [oo 5 (.move (tq 0) false),
   oo 6 (.move (tq 1) false),
   oo 7 (.lenS (tq 6)),
   oo 8 (.conv .u64 (tq 7)),
   oo 9 (.call 185 [((tq 5),0),((tq 8),0)] []),
   oo 10 (.move (tq 1) false),
   oo 11 (.call 193 [((tq 9),0),((tq 10),0)] []),
   oo 4 (.move (tq 11) true)])
 .ret))⟩
def zjF:Hint:=⟨[(0,0),(1,7)],[],[none],[],[],false,false,[]⟩
def zEx:Nat→Sh:=yP []
def zEu (xh:xC) (xn:zat) (L:Nat):CBC:=(xv 193 (zcd xn L) (xv 185 (znn xh L) noC))
def zut {β:Type} (xh:xC) (xn:zat) (L:Nat) (p0 p1:List (List V)) (k_fin:List (List V)→Option β):Option β :=
 lt (IntKind.wrap .u64 ((List.length p1:Nat):Int)) fun x0 =>
 xh β L p0 x0 (fun v1 =>
 xn β L v1 p1 (fun v2 =>
 k_fin v2))
abbrev zA:=∀ (β:Type),Nat→List (List V)→List (List V)→(List (List V)→Option β)→Option β
def yh (β:Type) (L:Nat) (p0 p1:List (List V)) (k_fin:List (List V)→Option β):Option β:=zut xh xn L p0 p1 k_fin
def zl4 (yh:zA) (L:Nat) (β:Type) (args:List V) (bor:Bor) (k:KK β):Option β:=match args,bor with
 | [a0,a1],[]=>aL 1 a0 fun p0=>aL 1 a1 fun p1=>yh β L p0 p1 (fun p0=>k (V.gs 1 p0) [])
 | _,_=>none
def zuI:CF:=⟨10,[.tmp 2],
 (.seq (.reg [oo 1 (.box true (tq 0)),
   oo 2 (.move (.const (.gs 1 [])) true)])
 (.seq (.dreg [] [(oo 3 (.fieldAddr 0 (tq 1)),q0),
   (oo 4 (.load false 1 (tq 3) false),ql 1 [] []),
   (oo 5 (.conv .u64 (tq 4)),q0),
   (oo 6 (.call 206 [((.const (.gs 1 [])),0),((tq 5),0)] []),qc [1] []),
   (oo 7 (.fieldAddr 1 (tq 1)),q0),
   (oo 8 (.load false 1 (tq 7) false),ql 1 [] []),
   (oo 9 (.call 187 [((tq 6),0),((tq 8),0)] []),q0),
   (oo 2 (.move (tq 9) true),q0)])
 .ret))⟩
def zsW:Hint:=⟨[(0,0),(0,1),(1,7)],[],[none],[],[],false,false,[]⟩
def zIZ:Nat→Sh:=yP [(4,(.int .i64)),(8,(.sl 1))]
def zIT (zcf:zji) (yh:zA) (L:Nat):CBC:=(xv 187 (zl4 yh L) (xv 206 (zv8 zcf L) noC))
def zC5 {β:Type} (zcf:zji) (yh:zA) (L:Nat) (p0:List V) (k_fin:List (List V)→Option β):Option β :=
 cI .i64 p0 0 fun v0 =>
 lt (IntKind.wrap .u64 v0) fun x1 =>
 zcf β L ([]:List (List V)) x1 (fun v2 =>
 cLd 1 p0 1 fun v3 =>
 yh β L v2 v3 (fun v4 =>
 k_fin v4))
abbrev zag:=∀ (β:Type),Nat→List V→(List (List V)→Option β)→Option β
def xw (β:Type) (L:Nat) (p0:List V) (k_fin:List (List V)→Option β):Option β:=zC5 zcf yh L p0 k_fin
def zDn (xw:zag) (L:Nat) (β:Type) (args:List V) (bor:Bor) (k:KK β):Option β:=match args,bor with
 | [a0],[]=>aG a0 fun p0=>xw β L p0 (fun p0=>k (V.gs 1 p0) [])
 | _,_=>none
end
end Go.Proofs.Ytoeobffjdbdpgaa
