/- Part 10 of the proof of ConnectChooses: an abstract machine over plain values, its soundness, and the functions of the program on plain values. -/
import Derived.Test.YtpafdnidhnldhaaMConnectChooses9
namespace Go.Proofs.Ytpafdnidhnldhaa
section
set_option maxRecDepth 100000
set_option linter.unusedVariables false
set_option linter.unusedSimpArgs false
def zan:CC:=(.seq (.seq (.reg [oo 86 (.move (tq 15) false),
   oo 87 (.move (tq 13) false),
   oo 88 (.bin .lss (tq 86) (tq 87))])
 (.cond (tq 88)
 .skip
 (.seq (.mask (bl 18768 129) (bl 680564733841876926926749214863536390135 129))
 (.exit 0))))
 (.seq (.block 1 (.seq (.dreg [] [(oo 91 (.fieldAddr 32 (tq 8)),q0),
   (oo 92 (.load false 1 (tq 91) false),{ q1 with root:=some 8 }),
   (oo 93 (.move (tq 15) false),q0),
   (oo 94 (.indexAddrS 5 (tq 92) (tq 93)),q0),
   (oo 95 (.fieldAddr 1 (tq 94)),q0),
   (oo 96 (.fieldAddr 2 (tq 95)),q0),
   (oo 97 (.load false 1 (tq 96) false),q1),
   (oo 98 (.fieldAddr 32 (tq 8)),q0),
   (oo 99 (.load false 1 (tq 98) false),{ q1 with root:=some 8 }),
   (oo 100 (.move (tq 14) false),q0),
   (oo 101 (.indexAddrS 5 (tq 99) (tq 100)),q0),
   (oo 102 (.fieldAddr 1 (tq 101)),q0),
   (oo 103 (.fieldAddr 2 (tq 102)),q0),
   (oo 104 (.load false 1 (tq 103) false),q1),
   (oo 105 (.bin .lss (tq 97) (tq 104)),q0)])
 (.cond (tq 105)
 (.reg [oo 106 (.move (tq 15) false),
   oo 14 (.move (tq 106) false)])
 .skip)))
 (.reg [oo 89 (.move (tq 15) false),
   oo 90 (.bin .add (tq 89) (.const (.sc (.int .i64 1)))),
   oo 15 (.move (tq 90) false)])))
def zdI:CC:=(.seq (.seq (.dreg [] [(oo 107 (.fieldAddr 32 (tq 8)),q0),
   (oo 108 (.load false 1 (tq 107) false),{ q1 with root:=some 8 }),
   (oo 109 (.move (tq 14) false),q0),
   (oo 110 (.indexAddrS 5 (tq 108) (tq 109)),q0),
   (oo 111 (.fieldAddr 1 (tq 110)),q0),
   (oo 112 (.fieldAddr 2 (tq 111)),q0),
   (oo 113 (.load false 1 (tq 112) false),q1),
   (oo 114 (.fieldAddr 2 (tq 4)),q0),
   (oo 115 (.load false 1 (tq 114) false),{ q1 with root:=some 4 }),
   (oo 116 (.bin .geq (tq 113) (tq 115)),q0)])
 (.cond (tq 116)
 (.seq (.reg [oo 117 (.load true 34 (tq 8) true),
   oz (.store 34 (tq 6) (tq 117)),
   oo 7 (.move (.const (.sc (.bool false))) false)])
 .ret)
 .skip))
 (.reg [oo 118 (.fieldAddr 32 (tq 8)),
   oo 119 (.load false 1 (tq 118) false),
   oo 120 (.move (tq 14) false),
   oo 121 (.call 289 [((tq 119),0),((tq 120),0)] []),
   oo 122 (.fieldAddr 32 (tq 8)),
   oz (.store 1 (tq 122) (tq 121))]))
def zfs:CC:=(.seq (.reg [oo 123 (.fieldAddr 32 (tq 8)),
   oo 124 (.load false 1 (tq 123) false),
   oo 125 (.load true 5 (tq 11) false),
   oo 126 (.call 292 [((tq 124),0),((tq 125),0)] []),
   oo 127 (.fieldAddr 32 (tq 8)),
   oz (.store 1 (tq 127) (tq 126))])
 (.seq (.reg [oo 128 (.load true 34 (tq 8) true),
   oz (.store 34 (tq 6) (tq 128)),
   oo 7 (.move (.const (.sc (.bool true))) false)])
 .ret))
def zer:CF:=⟨129,[.cellS 6 34 true,.tmpP 7],
 (.seq (.reg [oo 3 (.box true (tq 0)),
   oo 4 (.box true (tq 1)),
   oo 6 (.alloc false (rp 32 (.sc (.int .u8 0)) (rp 2 (.gs 5 []) []))),
   oo 7 (.move (.const (.sc (.bool false))) false)])
 (.seq (.reg [oo 16 (.load true 34 (tq 3) false),
   oo 17 (.call 288 [((tq 16),1)] [18,23]),
   oo 8 (.alloc false (rp 32 (.sc (.int .u8 0)) (rp 2 (.gs 5 []) []))),
   oz (.store 34 (tq 8) (tq 17))])
 (.seq (.seq (.reg [oo 18 (.fieldAddr 33 (tq 8)),
   oo 19 (.load false 1 (tq 18) false),
   oo 20 (.load true 3 (tq 4) false),
   oo 21 (.call 287 [((tq 19),2),((tq 20),2)] []),
   oo 9 (.move (tq 21) false)])
 (.seq (.reg [oo 22 (.move (tq 9) false),
   oo 23 (.bin .geq (tq 22) (.const (.sc (.int .i64 0))))])
 (.cond (tq 23)
 (.seq (.dreg [] [(oo 24 (.fieldAddr 33 (tq 8)),q0),
   (oo 25 (.load false 1 (tq 24) false),{ q1 with root:=some 8 }),
   (oo 26 (.move (tq 9) false),q0),
   (oo 27 (.fieldAddr 33 (tq 8)),q0),
   (oo 28 (.load false 1 (tq 27) false),{ q1 with root:=some 8 }),
   (oo 29 (.move (tq 9) false),q0),
   (oo 30 (.indexAddrS 5 (tq 28) (tq 29)),q0),
   (oo 31 (.fieldAddr 1 (tq 30)),q0),
   (oo 32 (.fieldAddr 2 (tq 31)),q0),
   (oo 33 (.load false 1 (tq 32) false),q1),
   (oo 34 (.fieldAddr 2 (tq 4)),q0),
   (oo 35 (.load false 1 (tq 34) false),{ q1 with root:=some 4 }),
   (oo 36 (.mm true (tq 33) (tq 35)),q0),
   (oo 37 (.indexAddrS 5 (tq 25) (tq 26)),q0),
   (oo 38 (.fieldAddr 1 (tq 37)),q0),
   (oo 39 (.fieldAddr 2 (tq 38)),q0),
   (oz (.store 1 (tq 39) (tq 36)),q0)])
 (.seq (.reg [oo 40 (.load true 34 (tq 8) true),
   oz (.store 34 (tq 6) (tq 40)),
   oo 7 (.move (.const (.sc (.bool false))) false)])
 .ret))
 .skip)))
 (.seq (.seq (.reg [oo 41 (.fieldAddr 32 (tq 8)),
   oo 42 (.load false 1 (tq 41) false),
   oo 43 (.load true 3 (tq 4) false),
   oo 44 (.call 287 [((tq 42),2),((tq 43),2)] []),
   oo 10 (.move (tq 44) false)])
 (.seq (.reg [oo 45 (.move (tq 10) false),
   oo 46 (.bin .geq (tq 45) (.const (.sc (.int .i64 0))))])
 (.cond (tq 46)
 (.seq (.dreg [] [(oo 47 (.fieldAddr 32 (tq 8)),q0),
   (oo 48 (.load false 1 (tq 47) false),{ q1 with root:=some 8 }),
   (oo 49 (.move (tq 10) false),q0),
   (oo 50 (.fieldAddr 32 (tq 8)),q0),
   (oo 51 (.load false 1 (tq 50) false),{ q1 with root:=some 8 }),
   (oo 52 (.move (tq 10) false),q0),
   (oo 53 (.indexAddrS 5 (tq 51) (tq 52)),q0),
   (oo 54 (.fieldAddr 1 (tq 53)),q0),
   (oo 55 (.fieldAddr 2 (tq 54)),q0),
   (oo 56 (.load false 1 (tq 55) false),q1),
   (oo 57 (.fieldAddr 2 (tq 4)),q0),
   (oo 58 (.load false 1 (tq 57) false),{ q1 with root:=some 4 }),
   (oo 59 (.mm true (tq 56) (tq 58)),q0),
   (oo 60 (.indexAddrS 5 (tq 48) (tq 49)),q0),
   (oo 61 (.fieldAddr 1 (tq 60)),q0),
   (oo 62 (.fieldAddr 2 (tq 61)),q0),
   (oz (.store 1 (tq 62) (tq 59)),q0)])
 (.seq (.reg [oo 63 (.load true 34 (tq 8) true),
   oz (.store 34 (tq 6) (tq 63)),
   oo 7 (.move (.const (.sc (.bool false))) false)])
 .ret))
 .skip)))
 (.seq (.dreg [] [(oo 64 (.fieldAddr 0 (tq 3)),q0),
   (oo 65 (.load true 32 (tq 64) false),ql 3 [4] [11]),
   (oo 66 (.load true 3 (tq 4) false),ql 4 [3] [11]),
   (oo 67 (.move (tq 2) false),q0),
   (oo 68 (.call 305 [((tq 65),0),((tq 66),0),((tq 67),0)] []),qc [4] [11]),
   (oo 69 (.load true 3 (tq 4) false),ql 4 [3] [11]),
   (oo 70 (.move (tq 2) false),q0),
   (oo 71 (.build [(.sc (.int .i64 0)),(.sc (.int .u32 0)),(.sc (.int .u16 0)),(.sc (.int .u32 0)),(.sc (.int .u32 0))] [(0,1,(tq 68)),(1,3,(tq 69)),(4,1,(tq 70))]),q0),
   (oo 11 (.alloc true [(.sc (.int .i64 0)),(.sc (.int .u32 0)),(.sc (.int .u16 0)),(.sc (.int .u32 0)),(.sc (.int .u32 0))]),qn [3,4] []),
   (oz (.store 5 (tq 11) (tq 71)),q0)])
 (.seq (.reg [oo 73 (.fieldAddr 32 (tq 8)),
   oo 74 (.load false 1 (tq 73) false),
   oo 75 (.fieldAddr 0 (tq 11)),
   oo 76 (.load false 1 (tq 75) false),
   oo 77 (.call 291 [((tq 74),0),((tq 76),0)] []),
   oo 72 (.move (tq 77) true),
   oo 78 (.pull (tq 72) 0),
   oo 79 (.pull (tq 72) 1),
   oo 12 (.move (tq 78) false),
   oo 13 (.move (tq 79) false)])
 (.seq (.seq (.reg [oo 80 (.move (tq 13) false),
   oo 81 (.move (tq 12) false),
   oo 82 (.bin .sub (tq 80) (tq 81)),
   oo 83 (.bin .geq (tq 82) (.const (.sc (.int .i64 8))))])
 (.cond (tq 83)
 (.seq (.reg [oo 84 (.move (tq 12) false),
   oo 14 (.move (tq 84) false)])
 (.seq (.seq (.reg [oo 85 (.move (tq 12) false),
   oo 15 (.move (tq 85) false)])
 (.block 0 (.loop (bl 59728 129) (bl 680564733841876926926749214863536422903 129)
 zan)))
 zdI))
 .skip))
 zfs)))))))⟩
def zvM:Hint:=⟨[(0,0),(2,3),(5,0),(6,3),(9,0),(11,5),(20,0),(23,0)],[],[none,none,none,none,none,none,some ((bl 59728 129),(bl 680564733841876926926749214863536422903 129)),none,some ((bl 18768 129),(bl 680564733841876926926749214863536390135 129)),none,none,none,none,none],[],[(1,1,[18,23])],true,true⟩
def z8:Nat→Sh:=zV [(33,(.int .u32)),(35,(.int .u32)),(56,(.int .u32)),(58,(.int .u32)),(76,(.int .i64)),(97,(.int .u32)),(104,(.int .u32)),(113,(.int .u32)),(115,(.int .u32))]
def z9 (xj:xW) (xl:zah) (yd:yz) (zh:yP) (xg:yW) (xh:zX) (L:Nat):CBC:=(xA 289 (zjJ xh L) (xA 292 (zjX xg L) (xA 291 (zhl zh L) (xA 305 (zfm yd L) (xA 287 (zny xl L) (xA 288 (zj0 xj L) noC))))))
def zaT:St→St:=zaE 0 (bl 59728 129) (bl 680564733841876926926749214863536422903 129)
def zdD (p13 p14 p15:Int) (b4:List V) (zOm zOn zOo zOp zOq zOr zOs zOt zOu zOv zNS zNT zNU zNV zNW zNX zNY zNZ zN0 zN1 zN2 zN3 zN4 zN5 zN6 zN7 zN8 zN9 zOa zOb zOc zOd:Int) (zOe zOf:List (List V)) (zNo zNp zNq zNr zOg zOh zOi zOj zOk zOl zNw zNx zNy zNz zNA zNB zNC zND zNE zNF zNG zNH zNI zNJ zNK zNL zNM zNN zNO zNP zNQ zNR:Int) (zNs zNt:Nat) (b11 b18 b23:List V):St:=⟨(jn 4 ((V.ptr 4 0)::(jn 1 ((V.ptr 6 0)::(jn 1 ((V.ptr 8 0)::(jn 2 ((V.ptr 11 0)::(jn 1 ((V.sc (.int .i64 p13))::((V.sc (.int .i64 p14))::((V.sc (.int .i64 p15))::(jn 113 []))))))))))))),(gn 4 ((.live true b4)::(gn 1 ((.live false [(V.sc (.int .u8 zOm)),(V.sc (.int .u8 zOn)),(V.sc (.int .u8 zOo)),(V.sc (.int .u8 zOp)),(V.sc (.int .u8 zOq)),(V.sc (.int .u8 zOr)),(V.sc (.int .u8 zOs)),(V.sc (.int .u8 zOt)),(V.sc (.int .u8 zOu)),(V.sc (.int .u8 zOv)),(V.sc (.int .u8 zNS)),(V.sc (.int .u8 zNT)),(V.sc (.int .u8 zNU)),(V.sc (.int .u8 zNV)),(V.sc (.int .u8 zNW)),(V.sc (.int .u8 zNX)),(V.sc (.int .u8 zNY)),(V.sc (.int .u8 zNZ)),(V.sc (.int .u8 zN0)),(V.sc (.int .u8 zN1)),(V.sc (.int .u8 zN2)),(V.sc (.int .u8 zN3)),(V.sc (.int .u8 zN4)),(V.sc (.int .u8 zN5)),(V.sc (.int .u8 zN6)),(V.sc (.int .u8 zN7)),(V.sc (.int .u8 zN8)),(V.sc (.int .u8 zN9)),(V.sc (.int .u8 zOa)),(V.sc (.int .u8 zOb)),(V.sc (.int .u8 zOc)),(V.sc (.int .u8 zOd)),(V.gs 5 zOe),(V.gs 5 zOf)])::(gn 1 ((.live false [(V.sc (.int .u8 zNo)),(V.sc (.int .u8 zNp)),(V.sc (.int .u8 zNq)),(V.sc (.int .u8 zNr)),(V.sc (.int .u8 zOg)),(V.sc (.int .u8 zOh)),(V.sc (.int .u8 zOi)),(V.sc (.int .u8 zOj)),(V.sc (.int .u8 zOk)),(V.sc (.int .u8 zOl)),(V.sc (.int .u8 zNw)),(V.sc (.int .u8 zNx)),(V.sc (.int .u8 zNy)),(V.sc (.int .u8 zNz)),(V.sc (.int .u8 zNA)),(V.sc (.int .u8 zNB)),(V.sc (.int .u8 zNC)),(V.sc (.int .u8 zND)),(V.sc (.int .u8 zNE)),(V.sc (.int .u8 zNF)),(V.sc (.int .u8 zNG)),(V.sc (.int .u8 zNH)),(V.sc (.int .u8 zNI)),(V.sc (.int .u8 zNJ)),(V.sc (.int .u8 zNK)),(V.sc (.int .u8 zNL)),(V.sc (.int .u8 zNM)),(V.sc (.int .u8 zNN)),(V.sc (.int .u8 zNO)),(V.sc (.int .u8 zNP)),(V.sc (.int .u8 zNQ)),(V.sc (.int .u8 zNR)),(V.own 18 0 zNs 5),(V.own 23 0 zNt 5)])::(gn 2 ((.live true b11)::(gn 6 ((.live true b18)::(gn 4 ((.live true b23)::(gn 105 [])))))))))))))⟩
def zdh (p13 p14 p15:Int) (b4:List V) (zOm zOn zOo zOp zOq zOr zOs zOt zOu zOv zNS zNT zNU zNV zNW zNX zNY zNZ zN0 zN1 zN2 zN3 zN4 zN5 zN6 zN7 zN8 zN9 zOa zOb zOc zOd:Int) (zOe zOf:List (List V)) (zNo zNp zNq zNr zOg zOh zOi zOj zOk zOl zNw zNx zNy zNz zNA zNB zNC zND zNE zNF zNG zNH zNI zNJ zNK zNL zNM zNN zNO zNP zNQ zNR:Int) (zNs zNt:Nat) (b11 b18 b23:List V):St:=⟨(jn 4 ((V.ptr 4 0)::(jn 1 ((V.ptr 6 0)::(jn 1 ((V.ptr 8 0)::(jn 2 ((V.ptr 11 0)::(jn 1 ((V.sc (.int .i64 p13))::((V.sc (.int .i64 p14))::((V.sc (.int .i64 p15))::(jn 113 []))))))))))))),(gn 4 ((.live true b4)::(gn 1 ((.live false [(V.sc (.int .u8 zOm)),(V.sc (.int .u8 zOn)),(V.sc (.int .u8 zOo)),(V.sc (.int .u8 zOp)),(V.sc (.int .u8 zOq)),(V.sc (.int .u8 zOr)),(V.sc (.int .u8 zOs)),(V.sc (.int .u8 zOt)),(V.sc (.int .u8 zOu)),(V.sc (.int .u8 zOv)),(V.sc (.int .u8 zNS)),(V.sc (.int .u8 zNT)),(V.sc (.int .u8 zNU)),(V.sc (.int .u8 zNV)),(V.sc (.int .u8 zNW)),(V.sc (.int .u8 zNX)),(V.sc (.int .u8 zNY)),(V.sc (.int .u8 zNZ)),(V.sc (.int .u8 zN0)),(V.sc (.int .u8 zN1)),(V.sc (.int .u8 zN2)),(V.sc (.int .u8 zN3)),(V.sc (.int .u8 zN4)),(V.sc (.int .u8 zN5)),(V.sc (.int .u8 zN6)),(V.sc (.int .u8 zN7)),(V.sc (.int .u8 zN8)),(V.sc (.int .u8 zN9)),(V.sc (.int .u8 zOa)),(V.sc (.int .u8 zOb)),(V.sc (.int .u8 zOc)),(V.sc (.int .u8 zOd)),(V.gs 5 zOe),(V.gs 5 zOf)])::(gn 1 ((.live false [(V.sc (.int .u8 zNo)),(V.sc (.int .u8 zNp)),(V.sc (.int .u8 zNq)),(V.sc (.int .u8 zNr)),(V.sc (.int .u8 zOg)),(V.sc (.int .u8 zOh)),(V.sc (.int .u8 zOi)),(V.sc (.int .u8 zOj)),(V.sc (.int .u8 zOk)),(V.sc (.int .u8 zOl)),(V.sc (.int .u8 zNw)),(V.sc (.int .u8 zNx)),(V.sc (.int .u8 zNy)),(V.sc (.int .u8 zNz)),(V.sc (.int .u8 zNA)),(V.sc (.int .u8 zNB)),(V.sc (.int .u8 zNC)),(V.sc (.int .u8 zND)),(V.sc (.int .u8 zNE)),(V.sc (.int .u8 zNF)),(V.sc (.int .u8 zNG)),(V.sc (.int .u8 zNH)),(V.sc (.int .u8 zNI)),(V.sc (.int .u8 zNJ)),(V.sc (.int .u8 zNK)),(V.sc (.int .u8 zNL)),(V.sc (.int .u8 zNM)),(V.sc (.int .u8 zNN)),(V.sc (.int .u8 zNO)),(V.sc (.int .u8 zNP)),(V.sc (.int .u8 zNQ)),(V.sc (.int .u8 zNR)),(V.own 18 0 zNs 5),(V.own 23 0 zNt 5)])::(gn 2 ((.live true b11)::(gn 6 ((.fz b18)::(gn 4 ((.live true b23)::(gn 105 [])))))))))))))⟩
def zpe (p14:Int) (b4:List V) (zOm zOn zOo zOp zOq zOr zOs zOt zOu zOv zNS zNT zNU zNV zNW zNX zNY zNZ zN0 zN1 zN2 zN3 zN4 zN5 zN6 zN7 zN8 zN9 zOa zOb zOc zOd:Int) (zOe zOf:List (List V)) (zNo zNp zNq zNr zOg zOh zOi zOj zOk zOl zNw zNx zNy zNz zNA zNB zNC zND zNE zNF zNG zNH zNI zNJ zNK zNL zNM zNN zNO zNP zNQ zNR:Int) (zNs zNt:Nat) (b11 b18 b23:List V):St:=⟨(jn 4 ((V.ptr 4 0)::(jn 1 ((V.ptr 6 0)::(jn 1 ((V.ptr 8 0)::(jn 2 ((V.ptr 11 0)::(jn 2 ((V.sc (.int .i64 p14))::(jn 114 []))))))))))),(gn 4 ((.live true b4)::(gn 1 ((.live false [(V.sc (.int .u8 zOm)),(V.sc (.int .u8 zOn)),(V.sc (.int .u8 zOo)),(V.sc (.int .u8 zOp)),(V.sc (.int .u8 zOq)),(V.sc (.int .u8 zOr)),(V.sc (.int .u8 zOs)),(V.sc (.int .u8 zOt)),(V.sc (.int .u8 zOu)),(V.sc (.int .u8 zOv)),(V.sc (.int .u8 zNS)),(V.sc (.int .u8 zNT)),(V.sc (.int .u8 zNU)),(V.sc (.int .u8 zNV)),(V.sc (.int .u8 zNW)),(V.sc (.int .u8 zNX)),(V.sc (.int .u8 zNY)),(V.sc (.int .u8 zNZ)),(V.sc (.int .u8 zN0)),(V.sc (.int .u8 zN1)),(V.sc (.int .u8 zN2)),(V.sc (.int .u8 zN3)),(V.sc (.int .u8 zN4)),(V.sc (.int .u8 zN5)),(V.sc (.int .u8 zN6)),(V.sc (.int .u8 zN7)),(V.sc (.int .u8 zN8)),(V.sc (.int .u8 zN9)),(V.sc (.int .u8 zOa)),(V.sc (.int .u8 zOb)),(V.sc (.int .u8 zOc)),(V.sc (.int .u8 zOd)),(V.gs 5 zOe),(V.gs 5 zOf)])::(gn 1 ((.live false [(V.sc (.int .u8 zNo)),(V.sc (.int .u8 zNp)),(V.sc (.int .u8 zNq)),(V.sc (.int .u8 zNr)),(V.sc (.int .u8 zOg)),(V.sc (.int .u8 zOh)),(V.sc (.int .u8 zOi)),(V.sc (.int .u8 zOj)),(V.sc (.int .u8 zOk)),(V.sc (.int .u8 zOl)),(V.sc (.int .u8 zNw)),(V.sc (.int .u8 zNx)),(V.sc (.int .u8 zNy)),(V.sc (.int .u8 zNz)),(V.sc (.int .u8 zNA)),(V.sc (.int .u8 zNB)),(V.sc (.int .u8 zNC)),(V.sc (.int .u8 zND)),(V.sc (.int .u8 zNE)),(V.sc (.int .u8 zNF)),(V.sc (.int .u8 zNG)),(V.sc (.int .u8 zNH)),(V.sc (.int .u8 zNI)),(V.sc (.int .u8 zNJ)),(V.sc (.int .u8 zNK)),(V.sc (.int .u8 zNL)),(V.sc (.int .u8 zNM)),(V.sc (.int .u8 zNN)),(V.sc (.int .u8 zNO)),(V.sc (.int .u8 zNP)),(V.sc (.int .u8 zNQ)),(V.sc (.int .u8 zNR)),(V.own 18 0 zNs 5),(V.own 23 0 zNt 5)])::(gn 2 ((.live true b11)::(gn 6 ((.live true b18)::(gn 4 ((.live true b23)::(gn 105 [])))))))))))))⟩
def zm9 (p14:Int) (b4:List V) (zOm zOn zOo zOp zOq zOr zOs zOt zOu zOv zNS zNT zNU zNV zNW zNX zNY zNZ zN0 zN1 zN2 zN3 zN4 zN5 zN6 zN7 zN8 zN9 zOa zOb zOc zOd:Int) (zOe zOf:List (List V)) (zNo zNp zNq zNr zOg zOh zOi zOj zOk zOl zNw zNx zNy zNz zNA zNB zNC zND zNE zNF zNG zNH zNI zNJ zNK zNL zNM zNN zNO zNP zNQ zNR:Int) (zNs zNt:Nat) (b11 b18 b23:List V):St:=⟨(jn 4 ((V.ptr 4 0)::(jn 1 ((V.ptr 6 0)::(jn 1 ((V.ptr 8 0)::(jn 2 ((V.ptr 11 0)::(jn 2 ((V.sc (.int .i64 p14))::(jn 114 []))))))))))),(gn 4 ((.live true b4)::(gn 1 ((.live false [(V.sc (.int .u8 zOm)),(V.sc (.int .u8 zOn)),(V.sc (.int .u8 zOo)),(V.sc (.int .u8 zOp)),(V.sc (.int .u8 zOq)),(V.sc (.int .u8 zOr)),(V.sc (.int .u8 zOs)),(V.sc (.int .u8 zOt)),(V.sc (.int .u8 zOu)),(V.sc (.int .u8 zOv)),(V.sc (.int .u8 zNS)),(V.sc (.int .u8 zNT)),(V.sc (.int .u8 zNU)),(V.sc (.int .u8 zNV)),(V.sc (.int .u8 zNW)),(V.sc (.int .u8 zNX)),(V.sc (.int .u8 zNY)),(V.sc (.int .u8 zNZ)),(V.sc (.int .u8 zN0)),(V.sc (.int .u8 zN1)),(V.sc (.int .u8 zN2)),(V.sc (.int .u8 zN3)),(V.sc (.int .u8 zN4)),(V.sc (.int .u8 zN5)),(V.sc (.int .u8 zN6)),(V.sc (.int .u8 zN7)),(V.sc (.int .u8 zN8)),(V.sc (.int .u8 zN9)),(V.sc (.int .u8 zOa)),(V.sc (.int .u8 zOb)),(V.sc (.int .u8 zOc)),(V.sc (.int .u8 zOd)),(V.gs 5 zOe),(V.gs 5 zOf)])::(gn 1 ((.live false [(V.sc (.int .u8 zNo)),(V.sc (.int .u8 zNp)),(V.sc (.int .u8 zNq)),(V.sc (.int .u8 zNr)),(V.sc (.int .u8 zOg)),(V.sc (.int .u8 zOh)),(V.sc (.int .u8 zOi)),(V.sc (.int .u8 zOj)),(V.sc (.int .u8 zOk)),(V.sc (.int .u8 zOl)),(V.sc (.int .u8 zNw)),(V.sc (.int .u8 zNx)),(V.sc (.int .u8 zNy)),(V.sc (.int .u8 zNz)),(V.sc (.int .u8 zNA)),(V.sc (.int .u8 zNB)),(V.sc (.int .u8 zNC)),(V.sc (.int .u8 zND)),(V.sc (.int .u8 zNE)),(V.sc (.int .u8 zNF)),(V.sc (.int .u8 zNG)),(V.sc (.int .u8 zNH)),(V.sc (.int .u8 zNI)),(V.sc (.int .u8 zNJ)),(V.sc (.int .u8 zNK)),(V.sc (.int .u8 zNL)),(V.sc (.int .u8 zNM)),(V.sc (.int .u8 zNN)),(V.sc (.int .u8 zNO)),(V.sc (.int .u8 zNP)),(V.sc (.int .u8 zNQ)),(V.sc (.int .u8 zNR)),(V.own 18 0 zNs 5),(V.own 23 0 zNt 5)])::(gn 2 ((.live true b11)::(gn 6 ((.fz b18)::(gn 4 ((.live true b23)::(gn 105 [])))))))))))))⟩
abbrev zk0 (β:Type):Type:=Int→Int→Int→List V→Int→Int→Int→Int→Int→Int→Int→Int→Int→Int→Int→Int→Int→Int→Int→Int→Int→Int→Int→Int→Int→Int→Int→Int→Int→Int→Int→Int→Int→Int→Int→Int→List (List V)→List (List V)→Int→Int→Int→Int→Int→Int→Int→Int→Int→Int→Int→Int→Int→Int→Int→Int→Int→Int→Int→Int→Int→Int→Int→Int→Int→Int→Int→Int→Int→Int→Int→Int→Nat→Nat→List V→List V→List V→Option β
abbrev zjO (β:Type):Type:=Int→Int→Int→List V→Int→Int→Int→Int→Int→Int→Int→Int→Int→Int→Int→Int→Int→Int→Int→Int→Int→Int→Int→Int→Int→Int→Int→Int→Int→Int→Int→Int→Int→Int→Int→Int→List (List V)→List (List V)→Int→Int→Int→Int→Int→Int→Int→Int→Int→Int→Int→Int→Int→Int→Int→Int→Int→Int→Int→Int→Int→Int→Int→Int→Int→Int→Int→Int→Int→Int→Int→Int→Nat→Nat→List V→List V→List V→Option β
abbrev zxj (β:Type):Type:=Int→List V→Int→Int→Int→Int→Int→Int→Int→Int→Int→Int→Int→Int→Int→Int→Int→Int→Int→Int→Int→Int→Int→Int→Int→Int→Int→Int→Int→Int→Int→Int→Int→Int→List (List V)→List (List V)→Int→Int→Int→Int→Int→Int→Int→Int→Int→Int→Int→Int→Int→Int→Int→Int→Int→Int→Int→Int→Int→Int→Int→Int→Int→Int→Int→Int→Int→Int→Int→Int→Nat→Nat→List V→List V→List V→Option β
abbrev zo0 (β:Type):Type:=Int→List V→Int→Int→Int→Int→Int→Int→Int→Int→Int→Int→Int→Int→Int→Int→Int→Int→Int→Int→Int→Int→Int→Int→Int→Int→Int→Int→Int→Int→Int→Int→Int→Int→List (List V)→List (List V)→Int→Int→Int→Int→Int→Int→Int→Int→Int→Int→Int→Int→Int→Int→Int→Int→Int→Int→Int→Int→Int→Int→Int→Int→Int→Int→Int→Int→Int→Int→Int→Int→Nat→Nat→List V→List V→List V→Option β
def zum {β:Type} (xj:xW) (xl:zah) (yd:yz) (zh:yP) (xg:yW) (xh:zX) (L:Nat) (p0 p1:List V) (p2:Int) (k_fin:List V→Bool→Option β) (k_hbbbbbbabababa:zk0 β) (k_hbbbbbbabababav1:zjO β):Option β :=
 chk (0+34≤(List.length p0)) (
 xj β L (List.map V.dem (List.take 34 p0)) (fun v0 v1 v2 v3 v4 v5 v6 v7 v8 v9 v10 v11 v12 v13 v14 v15 v16 v17 v18 v19 v20 v21 v22 v23 v24 v25 v26 v27 v28 v29 v30 v31 v32 v33 v34 v35 =>
 chk (0+3≤(List.length p1)) (
 xl β L v33 (List.take 3 p1) v35 (fun v36 v37 =>
 chk ([(List.length v37)]=[(List.length v35)]) (
 ifb (decide (v36 ≥ (0:Int))) (
 chk (0≤v36∧v36 < ((v33:Nat):Int)) (
 cI .u32 v37 (((0+((Int.toNat v36) * 5))+1)+2) fun v38 =>
 cI .u32 p1 2 fun v39 =>
 lt (zII v38 v39) fun x40 =>
 chk (0≤v36∧v36 < ((v33:Nat):Int)) (
 chk (1=1∧(((0+((Int.toNat v36) * 5))+1)+2)+1≤(List.length v37)) (
 lt (yk v37 (((0+((Int.toNat v36) * 5))+1)+2) [(V.sc (.int .u32 x40))]) fun r41 =>
 k_fin [(V.sc (.int .u8 v0)),(V.sc (.int .u8 v1)),(V.sc (.int .u8 v2)),(V.sc (.int .u8 v3)),(V.sc (.int .u8 v4)),(V.sc (.int .u8 v5)),(V.sc (.int .u8 v6)),(V.sc (.int .u8 v7)),(V.sc (.int .u8 v8)),(V.sc (.int .u8 v9)),(V.sc (.int .u8 v10)),(V.sc (.int .u8 v11)),(V.sc (.int .u8 v12)),(V.sc (.int .u8 v13)),(V.sc (.int .u8 v14)),(V.sc (.int .u8 v15)),(V.sc (.int .u8 v16)),(V.sc (.int .u8 v17)),(V.sc (.int .u8 v18)),(V.sc (.int .u8 v19)),(V.sc (.int .u8 v20)),(V.sc (.int .u8 v21)),(V.sc (.int .u8 v22)),(V.sc (.int .u8 v23)),(V.sc (.int .u8 v24)),(V.sc (.int .u8 v25)),(V.sc (.int .u8 v26)),(V.sc (.int .u8 v27)),(V.sc (.int .u8 v28)),(V.sc (.int .u8 v29)),(V.sc (.int .u8 v30)),(V.sc (.int .u8 v31)),(V.sl 5 (zp 5 v32 v34)),(V.sl 5 (zp 5 v33 r41))] false)))) (
 chk (0+3≤(List.length p1)) (
 xl β L v32 (List.take 3 p1) v34 (fun v42 v43 =>
 chk ([(List.length v43)]=[(List.length v34)]) (
 ifb (decide (v42 ≥ (0:Int))) (
 chk (0≤v42∧v42 < ((v32:Nat):Int)) (
 cI .u32 v43 (((0+((Int.toNat v42) * 5))+1)+2) fun v44 =>
 cI .u32 p1 2 fun v45 =>
 lt (zII v44 v45) fun x46 =>
 chk (0≤v42∧v42 < ((v32:Nat):Int)) (
 chk (1=1∧(((0+((Int.toNat v42) * 5))+1)+2)+1≤(List.length v43)) (
 lt (yk v43 (((0+((Int.toNat v42) * 5))+1)+2) [(V.sc (.int .u32 x46))]) fun r47 =>
 k_fin [(V.sc (.int .u8 v0)),(V.sc (.int .u8 v1)),(V.sc (.int .u8 v2)),(V.sc (.int .u8 v3)),(V.sc (.int .u8 v4)),(V.sc (.int .u8 v5)),(V.sc (.int .u8 v6)),(V.sc (.int .u8 v7)),(V.sc (.int .u8 v8)),(V.sc (.int .u8 v9)),(V.sc (.int .u8 v10)),(V.sc (.int .u8 v11)),(V.sc (.int .u8 v12)),(V.sc (.int .u8 v13)),(V.sc (.int .u8 v14)),(V.sc (.int .u8 v15)),(V.sc (.int .u8 v16)),(V.sc (.int .u8 v17)),(V.sc (.int .u8 v18)),(V.sc (.int .u8 v19)),(V.sc (.int .u8 v20)),(V.sc (.int .u8 v21)),(V.sc (.int .u8 v22)),(V.sc (.int .u8 v23)),(V.sc (.int .u8 v24)),(V.sc (.int .u8 v25)),(V.sc (.int .u8 v26)),(V.sc (.int .u8 v27)),(V.sc (.int .u8 v28)),(V.sc (.int .u8 v29)),(V.sc (.int .u8 v30)),(V.sc (.int .u8 v31)),(V.sl 5 (zp 5 v32 r47)),(V.sl 5 (zp 5 v33 v37))] false)))) (
 chk (0+32≤(List.length p0)) (
 chk (0+3≤(List.length p1)) (
 yd β L (List.take 32 p0) (List.take 3 p1) p2 (fun v48 =>
 chk (0+3≤(List.length p1)) (
 chk ((List.length (List.take 3 p1))=3∧1+3≤5) (
 chk (1=1∧4+1≤(List.length (yk [(V.sc (.int .i64 v48)),(V.sc (.int .u32 (0:Int))),(V.sc (.int .u16 (0:Int))),(V.sc (.int .u32 (0:Int))),(V.sc (.int .u32 (0:Int)))] 1 (List.take 3 p1)))) (
 chk ((List.length (yk (yk [(V.sc (.int .i64 v48)),(V.sc (.int .u32 (0:Int))),(V.sc (.int .u16 (0:Int))),(V.sc (.int .u32 (0:Int))),(V.sc (.int .u32 (0:Int)))] 1 (List.take 3 p1)) 4 [(V.sc (.int .u32 p2))]))=5∧0+5≤5) (
 lt (yk [(V.sc (.int .i64 (0:Int))),(V.sc (.int .u32 (0:Int))),(V.sc (.int .u16 (0:Int))),(V.sc (.int .u32 (0:Int))),(V.sc (.int .u32 (0:Int)))] 0 (yk (yk [(V.sc (.int .i64 v48)),(V.sc (.int .u32 (0:Int))),(V.sc (.int .u16 (0:Int))),(V.sc (.int .u32 (0:Int))),(V.sc (.int .u32 (0:Int)))] 1 (List.take 3 p1)) 4 [(V.sc (.int .u32 p2))])) fun r49 =>
 cI .i64 r49 0 fun v50 =>
 ifb (List.isEmpty v43) (
 zh β L (zp 5 v32 v43) v50 (fun v51 v52 =>
 lt (IntKind.wrap .i64 ((v52:Int) - v51)) fun x53 =>
 ifb (decide (x53 ≥ (8:Int))) (
 k_hbbbbbbabababa v52 v51 v51 p1 (0:Int) (0:Int) (0:Int) (0:Int) (0:Int) (0:Int) (0:Int) (0:Int) (0:Int) (0:Int) (0:Int) (0:Int) (0:Int) (0:Int) (0:Int) (0:Int) (0:Int) (0:Int) (0:Int) (0:Int) (0:Int) (0:Int) (0:Int) (0:Int) (0:Int) (0:Int) (0:Int) (0:Int) (0:Int) (0:Int) (0:Int) (0:Int) ([]:List (List V)) ([]:List (List V)) v0 v1 v2 v3 v4 v5 v6 v7 v8 v9 v10 v11 v12 v13 v14 v15 v16 v17 v18 v19 v20 v21 v22 v23 v24 v25 v26 v27 v28 v29 v30 v31 v32 v33 r49 v43 v37) (
 chk (0+5≤(List.length r49)) (
 ifb (List.isEmpty v43) (
 xg β L (zp 5 v32 v43) (List.take 5 r49) (fun v54 =>
 k_fin [(V.sc (.int .u8 v0)),(V.sc (.int .u8 v1)),(V.sc (.int .u8 v2)),(V.sc (.int .u8 v3)),(V.sc (.int .u8 v4)),(V.sc (.int .u8 v5)),(V.sc (.int .u8 v6)),(V.sc (.int .u8 v7)),(V.sc (.int .u8 v8)),(V.sc (.int .u8 v9)),(V.sc (.int .u8 v10)),(V.sc (.int .u8 v11)),(V.sc (.int .u8 v12)),(V.sc (.int .u8 v13)),(V.sc (.int .u8 v14)),(V.sc (.int .u8 v15)),(V.sc (.int .u8 v16)),(V.sc (.int .u8 v17)),(V.sc (.int .u8 v18)),(V.sc (.int .u8 v19)),(V.sc (.int .u8 v20)),(V.sc (.int .u8 v21)),(V.sc (.int .u8 v22)),(V.sc (.int .u8 v23)),(V.sc (.int .u8 v24)),(V.sc (.int .u8 v25)),(V.sc (.int .u8 v26)),(V.sc (.int .u8 v27)),(V.sc (.int .u8 v28)),(V.sc (.int .u8 v29)),(V.sc (.int .u8 v30)),(V.sc (.int .u8 v31)),(V.sl 5 v54),(V.sl 5 (zp 5 v33 v37))] true)) (
 xg β L (zp 5 v32 v43) (List.take 5 r49) (fun v55 =>
 k_fin [(V.sc (.int .u8 v0)),(V.sc (.int .u8 v1)),(V.sc (.int .u8 v2)),(V.sc (.int .u8 v3)),(V.sc (.int .u8 v4)),(V.sc (.int .u8 v5)),(V.sc (.int .u8 v6)),(V.sc (.int .u8 v7)),(V.sc (.int .u8 v8)),(V.sc (.int .u8 v9)),(V.sc (.int .u8 v10)),(V.sc (.int .u8 v11)),(V.sc (.int .u8 v12)),(V.sc (.int .u8 v13)),(V.sc (.int .u8 v14)),(V.sc (.int .u8 v15)),(V.sc (.int .u8 v16)),(V.sc (.int .u8 v17)),(V.sc (.int .u8 v18)),(V.sc (.int .u8 v19)),(V.sc (.int .u8 v20)),(V.sc (.int .u8 v21)),(V.sc (.int .u8 v22)),(V.sc (.int .u8 v23)),(V.sc (.int .u8 v24)),(V.sc (.int .u8 v25)),(V.sc (.int .u8 v26)),(V.sc (.int .u8 v27)),(V.sc (.int .u8 v28)),(V.sc (.int .u8 v29)),(V.sc (.int .u8 v30)),(V.sc (.int .u8 v31)),(V.sl 5 v55),(V.sl 5 (zp 5 v33 v37))] true)))))) (
 zh β L (zp 5 v32 v43) v50 (fun v56 v57 =>
 lt (IntKind.wrap .i64 ((v57:Int) - v56)) fun x58 =>
 ifb (decide (x58 ≥ (8:Int))) (
 k_hbbbbbbabababav1 v57 v56 v56 p1 (0:Int) (0:Int) (0:Int) (0:Int) (0:Int) (0:Int) (0:Int) (0:Int) (0:Int) (0:Int) (0:Int) (0:Int) (0:Int) (0:Int) (0:Int) (0:Int) (0:Int) (0:Int) (0:Int) (0:Int) (0:Int) (0:Int) (0:Int) (0:Int) (0:Int) (0:Int) (0:Int) (0:Int) (0:Int) (0:Int) (0:Int) (0:Int) ([]:List (List V)) ([]:List (List V)) v0 v1 v2 v3 v4 v5 v6 v7 v8 v9 v10 v11 v12 v13 v14 v15 v16 v17 v18 v19 v20 v21 v22 v23 v24 v25 v26 v27 v28 v29 v30 v31 v32 v33 r49 v43 v37) (
 chk (0+5≤(List.length r49)) (
 xg β L (zp 5 v32 v43) (List.take 5 r49) (fun v59 =>
 k_fin [(V.sc (.int .u8 v0)),(V.sc (.int .u8 v1)),(V.sc (.int .u8 v2)),(V.sc (.int .u8 v3)),(V.sc (.int .u8 v4)),(V.sc (.int .u8 v5)),(V.sc (.int .u8 v6)),(V.sc (.int .u8 v7)),(V.sc (.int .u8 v8)),(V.sc (.int .u8 v9)),(V.sc (.int .u8 v10)),(V.sc (.int .u8 v11)),(V.sc (.int .u8 v12)),(V.sc (.int .u8 v13)),(V.sc (.int .u8 v14)),(V.sc (.int .u8 v15)),(V.sc (.int .u8 v16)),(V.sc (.int .u8 v17)),(V.sc (.int .u8 v18)),(V.sc (.int .u8 v19)),(V.sc (.int .u8 v20)),(V.sc (.int .u8 v21)),(V.sc (.int .u8 v22)),(V.sc (.int .u8 v23)),(V.sc (.int .u8 v24)),(V.sc (.int .u8 v25)),(V.sc (.int .u8 v26)),(V.sc (.int .u8 v27)),(V.sc (.int .u8 v28)),(V.sc (.int .u8 v29)),(V.sc (.int .u8 v30)),(V.sc (.int .u8 v31)),(V.sl 5 v59),(V.sl 5 (zp 5 v33 v37))] true))))))))))))))))))))))
theorem zD4 {β:Type} (xj:xW) (xl:zah) (yd:yz) (zh:yP) (xg:yW) (xh:zX) (L:Nat) (p0 p1:List V) (p2:Int) (k:KK β):xr z8 (z9 xj xl yd zh xg xh L) L zer [(V.agg p0),(V.agg p1),(V.sc (.int .u32 p2))] [] k=zum xj xl yd zh xg xh L p0 p1 p2 (fun zOw zOx=>k (V.tup [(V.agg zOw),(V.sc (.bool zOx))]) []) (fun p13 p14 p15 b4 zOm zOn zOo zOp zOq zOr zOs zOt zOu zOv zNS zNT zNU zNV zNW zNX zNY zNZ zN0 zN1 zN2 zN3 zN4 zN5 zN6 zN7 zN8 zN9 zOa zOb zOc zOd zOe zOf zNo zNp zNq zNr zOg zOh zOi zOj zOk zOl zNw zNx zNy zNz zNA zNB zNC zND zNE zNF zNG zNH zNI zNJ zNK zNL zNM zNN zNO zNP zNQ zNR zNs zNt b11 b18 b23=>xy (yj z8 (z9 xj xl yd zh xg xh L) 0 L zan) zaT L (zdD p13 p14 p15 b4 zOm zOn zOo zOp zOq zOr zOs zOt zOu zOv zNS zNT zNU zNV zNW zNX zNY zNZ zN0 zN1 zN2 zN3 zN4 zN5 zN6 zN7 zN8 zN9 zOa zOb zOc zOd zOe zOf zNo zNp zNq zNr zOg zOh zOi zOj zOk zOl zNw zNx zNy zNz zNA zNB zNC zND zNE zNF zNG zNH zNI zNJ zNK zNL zNM zNN zNO zNP zNQ zNR zNs zNt b11 b18 b23) (zx 0 (yI (yj z8 (z9 xj xl yd zh xg xh L) 0 L zdI) (yI (yj z8 (z9 xj xl yd zh xg xh L) 0 L zfs) (zN 0 (CF.res zer) k))))) (fun p13 p14 p15 b4 zOm zOn zOo zOp zOq zOr zOs zOt zOu zOv zNS zNT zNU zNV zNW zNX zNY zNZ zN0 zN1 zN2 zN3 zN4 zN5 zN6 zN7 zN8 zN9 zOa zOb zOc zOd zOe zOf zNo zNp zNq zNr zOg zOh zOi zOj zOk zOl zNw zNx zNy zNz zNA zNB zNC zND zNE zNF zNG zNH zNI zNJ zNK zNL zNM zNN zNO zNP zNQ zNR zNs zNt b11 b18 b23=>xy (yj z8 (z9 xj xl yd zh xg xh L) 0 L zan) zaT L (zdh p13 p14 p15 b4 zOm zOn zOo zOp zOq zOr zOs zOt zOu zOv zNS zNT zNU zNV zNW zNX zNY zNZ zN0 zN1 zN2 zN3 zN4 zN5 zN6 zN7 zN8 zN9 zOa zOb zOc zOd zOe zOf zNo zNp zNq zNr zOg zOh zOi zOj zOk zOl zNw zNx zNy zNz zNA zNB zNC zND zNE zNF zNG zNH zNI zNJ zNK zNL zNM zNN zNO zNP zNQ zNR zNs zNt b11 b18 b23) (zx 0 (yI (yj z8 (z9 xj xl yd zh xg xh L) 0 L zdI) (yI (yj z8 (z9 xj xl yd zh xg xh L) 0 L zfs) (zN 0 (CF.res zer) k))))):=by kernel_rfl
def zlU {β:Type} (xj:xW) (xl:zah) (yd:yz) (zh:yP) (xg:yW) (xh:zX) (L:Nat) (p13 p14 p15:Int) (b4:List V) (zOm zOn zOo zOp zOq zOr zOs zOt zOu zOv zNS zNT zNU zNV zNW zNX zNY zNZ zN0 zN1 zN2 zN3 zN4 zN5 zN6 zN7 zN8 zN9 zOa zOb zOc zOd:Int) (zOe zOf:List (List V)) (zNo zNp zNq zNr zOg zOh zOi zOj zOk zOl zNw zNx zNy zNz zNA zNB zNC zND zNE zNF zNG zNH zNI zNJ zNK zNL zNM zNN zNO zNP zNQ zNR:Int) (zNs zNt:Nat) (b11 b18 b23:List V) (k_hbbbbbbabababa:zk0 β) (k_x0:zxj β):Option β :=
 ifb (decide (p15 < p13)) (
 chk (0≤p15∧p15 < ((zNs:Nat):Int)) (
 cI .u32 b18 (((0+((Int.toNat p15) * 5))+1)+2) fun v60 =>
 chk (0≤p14∧p14 < ((zNs:Nat):Int)) (
 cI .u32 b18 (((0+((Int.toNat p14) * 5))+1)+2) fun v61 =>
 ifb (decide (v60 < v61)) (
 lt (IntKind.wrap .i64 ((p15:Int)+(1:Int))) fun x62 =>
 k_hbbbbbbabababa p13 p15 x62 b4 zOm zOn zOo zOp zOq zOr zOs zOt zOu zOv zNS zNT zNU zNV zNW zNX zNY zNZ zN0 zN1 zN2 zN3 zN4 zN5 zN6 zN7 zN8 zN9 zOa zOb zOc zOd zOe zOf zNo zNp zNq zNr zOg zOh zOi zOj zOk zOl zNw zNx zNy zNz zNA zNB zNC zND zNE zNF zNG zNH zNI zNJ zNK zNL zNM zNN zNO zNP zNQ zNR zNs zNt b11 b18 b23) (
 lt (IntKind.wrap .i64 ((p15:Int)+(1:Int))) fun x63 =>
 k_hbbbbbbabababa p13 p14 x63 b4 zOm zOn zOo zOp zOq zOr zOs zOt zOu zOv zNS zNT zNU zNV zNW zNX zNY zNZ zN0 zN1 zN2 zN3 zN4 zN5 zN6 zN7 zN8 zN9 zOa zOb zOc zOd zOe zOf zNo zNp zNq zNr zOg zOh zOi zOj zOk zOl zNw zNx zNy zNz zNA zNB zNC zND zNE zNF zNG zNH zNI zNJ zNK zNL zNM zNN zNO zNP zNQ zNR zNs zNt b11 b18 b23)))) (
 k_x0 p14 b4 zOm zOn zOo zOp zOq zOr zOs zOt zOu zOv zNS zNT zNU zNV zNW zNX zNY zNZ zN0 zN1 zN2 zN3 zN4 zN5 zN6 zN7 zN8 zN9 zOa zOb zOc zOd zOe zOf zNo zNp zNq zNr zOg zOh zOi zOj zOk zOl zNw zNx zNy zNz zNA zNB zNC zND zNE zNF zNG zNH zNI zNJ zNK zNL zNM zNN zNO zNP zNQ zNR zNs zNt b11 b18 b23)
theorem zrJ {β:Type} (xj:xW) (xl:zah) (yd:yz) (zh:yP) (xg:yW) (xh:zX) (L:Nat) (p13 p14 p15:Int) (b4:List V) (zOm zOn zOo zOp zOq zOr zOs zOt zOu zOv zNS zNT zNU zNV zNW zNX zNY zNZ zN0 zN1 zN2 zN3 zN4 zN5 zN6 zN7 zN8 zN9 zOa zOb zOc zOd:Int) (zOe zOf:List (List V)) (zNo zNp zNq zNr zOg zOh zOi zOj zOk zOl zNw zNx zNy zNz zNA zNB zNC zND zNE zNF zNG zNH zNI zNJ zNK zNL zNM zNN zNO zNP zNQ zNR:Int) (zNs zNt:Nat) (b11 b18 b23:List V) (X:St→Option β) (K:KT β):yj z8 (z9 xj xl yd zh xg xh L) 0 L zan (zdD p13 p14 p15 b4 zOm zOn zOo zOp zOq zOr zOs zOt zOu zOv zNS zNT zNU zNV zNW zNX zNY zNZ zN0 zN1 zN2 zN3 zN4 zN5 zN6 zN7 zN8 zN9 zOa zOb zOc zOd zOe zOf zNo zNp zNq zNr zOg zOh zOi zOj zOk zOl zNw zNx zNy zNz zNA zNB zNC zND zNE zNF zNG zNH zNI zNJ zNK zNL zNM zNN zNO zNP zNQ zNR zNs zNt b11 b18 b23) (zaz zaT X K)=zlU xj xl yd zh xg xh L p13 p14 p15 b4 zOm zOn zOo zOp zOq zOr zOs zOt zOu zOv zNS zNT zNU zNV zNW zNX zNY zNZ zN0 zN1 zN2 zN3 zN4 zN5 zN6 zN7 zN8 zN9 zOa zOb zOc zOd zOe zOf zNo zNp zNq zNr zOg zOh zOi zOj zOk zOl zNw zNx zNy zNz zNA zNB zNC zND zNE zNF zNG zNH zNI zNJ zNK zNL zNM zNN zNO zNP zNQ zNR zNs zNt b11 b18 b23 (fun p13 p14 p15 b4 zOm zOn zOo zOp zOq zOr zOs zOt zOu zOv zNS zNT zNU zNV zNW zNX zNY zNZ zN0 zN1 zN2 zN3 zN4 zN5 zN6 zN7 zN8 zN9 zOa zOb zOc zOd zOe zOf zNo zNp zNq zNr zOg zOh zOi zOj zOk zOl zNw zNx zNy zNz zNA zNB zNC zND zNE zNF zNG zNH zNI zNJ zNK zNL zNM zNN zNO zNP zNQ zNR zNs zNt b11 b18 b23=>X (zdD p13 p14 p15 b4 zOm zOn zOo zOp zOq zOr zOs zOt zOu zOv zNS zNT zNU zNV zNW zNX zNY zNZ zN0 zN1 zN2 zN3 zN4 zN5 zN6 zN7 zN8 zN9 zOa zOb zOc zOd zOe zOf zNo zNp zNq zNr zOg zOh zOi zOj zOk zOl zNw zNx zNy zNz zNA zNB zNC zND zNE zNF zNG zNH zNI zNJ zNK zNL zNM zNN zNO zNP zNQ zNR zNs zNt b11 b18 b23)) (fun p14 b4 zOm zOn zOo zOp zOq zOr zOs zOt zOu zOv zNS zNT zNU zNV zNW zNX zNY zNZ zN0 zN1 zN2 zN3 zN4 zN5 zN6 zN7 zN8 zN9 zOa zOb zOc zOd zOe zOf zNo zNp zNq zNr zOg zOh zOi zOj zOk zOl zNw zNx zNy zNz zNA zNB zNC zND zNE zNF zNG zNH zNI zNJ zNK zNL zNM zNN zNO zNP zNQ zNR zNs zNt b11 b18 b23=>K (.exit 0) (zpe p14 b4 zOm zOn zOo zOp zOq zOr zOs zOt zOu zOv zNS zNT zNU zNV zNW zNX zNY zNZ zN0 zN1 zN2 zN3 zN4 zN5 zN6 zN7 zN8 zN9 zOa zOb zOc zOd zOe zOf zNo zNp zNq zNr zOg zOh zOi zOj zOk zOl zNw zNx zNy zNz zNA zNB zNC zND zNE zNF zNG zNH zNI zNJ zNK zNL zNM zNN zNO zNP zNQ zNR zNs zNt b11 b18 b23)):=by kernel_rfl
def zfW {β:Type} (xj:xW) (xl:zah) (yd:yz) (zh:yP) (xg:yW) (xh:zX) (L:Nat) (p13 p14 p15:Int) (b4:List V) (zOm zOn zOo zOp zOq zOr zOs zOt zOu zOv zNS zNT zNU zNV zNW zNX zNY zNZ zN0 zN1 zN2 zN3 zN4 zN5 zN6 zN7 zN8 zN9 zOa zOb zOc zOd:Int) (zOe zOf:List (List V)) (zNo zNp zNq zNr zOg zOh zOi zOj zOk zOl zNw zNx zNy zNz zNA zNB zNC zND zNE zNF zNG zNH zNI zNJ zNK zNL zNM zNN zNO zNP zNQ zNR:Int) (zNs zNt:Nat) (b11 b18 b23:List V) (k_hbbbbbbabababav1:zjO β) (k_x0v1:zo0 β):Option β :=
 ifb (decide (p15 < p13)) (
 chk (0≤p15∧p15 < ((zNs:Nat):Int)) (
 cI .u32 b18 (((0+((Int.toNat p15) * 5))+1)+2) fun v64 =>
 chk (0≤p14∧p14 < ((zNs:Nat):Int)) (
 cI .u32 b18 (((0+((Int.toNat p14) * 5))+1)+2) fun v65 =>
 ifb (decide (v64 < v65)) (
 lt (IntKind.wrap .i64 ((p15:Int)+(1:Int))) fun x66 =>
 k_hbbbbbbabababav1 p13 p15 x66 b4 zOm zOn zOo zOp zOq zOr zOs zOt zOu zOv zNS zNT zNU zNV zNW zNX zNY zNZ zN0 zN1 zN2 zN3 zN4 zN5 zN6 zN7 zN8 zN9 zOa zOb zOc zOd zOe zOf zNo zNp zNq zNr zOg zOh zOi zOj zOk zOl zNw zNx zNy zNz zNA zNB zNC zND zNE zNF zNG zNH zNI zNJ zNK zNL zNM zNN zNO zNP zNQ zNR zNs zNt b11 b18 b23) (
 lt (IntKind.wrap .i64 ((p15:Int)+(1:Int))) fun x67 =>
 k_hbbbbbbabababav1 p13 p14 x67 b4 zOm zOn zOo zOp zOq zOr zOs zOt zOu zOv zNS zNT zNU zNV zNW zNX zNY zNZ zN0 zN1 zN2 zN3 zN4 zN5 zN6 zN7 zN8 zN9 zOa zOb zOc zOd zOe zOf zNo zNp zNq zNr zOg zOh zOi zOj zOk zOl zNw zNx zNy zNz zNA zNB zNC zND zNE zNF zNG zNH zNI zNJ zNK zNL zNM zNN zNO zNP zNQ zNR zNs zNt b11 b18 b23)))) (
 k_x0v1 p14 b4 zOm zOn zOo zOp zOq zOr zOs zOt zOu zOv zNS zNT zNU zNV zNW zNX zNY zNZ zN0 zN1 zN2 zN3 zN4 zN5 zN6 zN7 zN8 zN9 zOa zOb zOc zOd zOe zOf zNo zNp zNq zNr zOg zOh zOi zOj zOk zOl zNw zNx zNy zNz zNA zNB zNC zND zNE zNF zNG zNH zNI zNJ zNK zNL zNM zNN zNO zNP zNQ zNR zNs zNt b11 b18 b23)
theorem zqg {β:Type} (xj:xW) (xl:zah) (yd:yz) (zh:yP) (xg:yW) (xh:zX) (L:Nat) (p13 p14 p15:Int) (b4:List V) (zOm zOn zOo zOp zOq zOr zOs zOt zOu zOv zNS zNT zNU zNV zNW zNX zNY zNZ zN0 zN1 zN2 zN3 zN4 zN5 zN6 zN7 zN8 zN9 zOa zOb zOc zOd:Int) (zOe zOf:List (List V)) (zNo zNp zNq zNr zOg zOh zOi zOj zOk zOl zNw zNx zNy zNz zNA zNB zNC zND zNE zNF zNG zNH zNI zNJ zNK zNL zNM zNN zNO zNP zNQ zNR:Int) (zNs zNt:Nat) (b11 b18 b23:List V) (X:St→Option β) (K:KT β):yj z8 (z9 xj xl yd zh xg xh L) 0 L zan (zdh p13 p14 p15 b4 zOm zOn zOo zOp zOq zOr zOs zOt zOu zOv zNS zNT zNU zNV zNW zNX zNY zNZ zN0 zN1 zN2 zN3 zN4 zN5 zN6 zN7 zN8 zN9 zOa zOb zOc zOd zOe zOf zNo zNp zNq zNr zOg zOh zOi zOj zOk zOl zNw zNx zNy zNz zNA zNB zNC zND zNE zNF zNG zNH zNI zNJ zNK zNL zNM zNN zNO zNP zNQ zNR zNs zNt b11 b18 b23) (zaz zaT X K)=zfW xj xl yd zh xg xh L p13 p14 p15 b4 zOm zOn zOo zOp zOq zOr zOs zOt zOu zOv zNS zNT zNU zNV zNW zNX zNY zNZ zN0 zN1 zN2 zN3 zN4 zN5 zN6 zN7 zN8 zN9 zOa zOb zOc zOd zOe zOf zNo zNp zNq zNr zOg zOh zOi zOj zOk zOl zNw zNx zNy zNz zNA zNB zNC zND zNE zNF zNG zNH zNI zNJ zNK zNL zNM zNN zNO zNP zNQ zNR zNs zNt b11 b18 b23 (fun p13 p14 p15 b4 zOm zOn zOo zOp zOq zOr zOs zOt zOu zOv zNS zNT zNU zNV zNW zNX zNY zNZ zN0 zN1 zN2 zN3 zN4 zN5 zN6 zN7 zN8 zN9 zOa zOb zOc zOd zOe zOf zNo zNp zNq zNr zOg zOh zOi zOj zOk zOl zNw zNx zNy zNz zNA zNB zNC zND zNE zNF zNG zNH zNI zNJ zNK zNL zNM zNN zNO zNP zNQ zNR zNs zNt b11 b18 b23=>X (zdh p13 p14 p15 b4 zOm zOn zOo zOp zOq zOr zOs zOt zOu zOv zNS zNT zNU zNV zNW zNX zNY zNZ zN0 zN1 zN2 zN3 zN4 zN5 zN6 zN7 zN8 zN9 zOa zOb zOc zOd zOe zOf zNo zNp zNq zNr zOg zOh zOi zOj zOk zOl zNw zNx zNy zNz zNA zNB zNC zND zNE zNF zNG zNH zNI zNJ zNK zNL zNM zNN zNO zNP zNQ zNR zNs zNt b11 b18 b23)) (fun p14 b4 zOm zOn zOo zOp zOq zOr zOs zOt zOu zOv zNS zNT zNU zNV zNW zNX zNY zNZ zN0 zN1 zN2 zN3 zN4 zN5 zN6 zN7 zN8 zN9 zOa zOb zOc zOd zOe zOf zNo zNp zNq zNr zOg zOh zOi zOj zOk zOl zNw zNx zNy zNz zNA zNB zNC zND zNE zNF zNG zNH zNI zNJ zNK zNL zNM zNN zNO zNP zNQ zNR zNs zNt b11 b18 b23=>K (.exit 0) (zm9 p14 b4 zOm zOn zOo zOp zOq zOr zOs zOt zOu zOv zNS zNT zNU zNV zNW zNX zNY zNZ zN0 zN1 zN2 zN3 zN4 zN5 zN6 zN7 zN8 zN9 zOa zOb zOc zOd zOe zOf zNo zNp zNq zNr zOg zOh zOi zOj zOk zOl zNw zNx zNy zNz zNA zNB zNC zND zNE zNF zNG zNH zNI zNJ zNK zNL zNM zNN zNO zNP zNQ zNR zNs zNt b11 b18 b23)):=by kernel_rfl
def zj4 {β:Type} (xj:xW) (xl:zah) (yd:yz) (zh:yP) (xg:yW) (xh:zX) (L:Nat) (p14:Int) (b4:List V) (zOm zOn zOo zOp zOq zOr zOs zOt zOu zOv zNS zNT zNU zNV zNW zNX zNY zNZ zN0 zN1 zN2 zN3 zN4 zN5 zN6 zN7 zN8 zN9 zOa zOb zOc zOd:Int) (zOe zOf:List (List V)) (zNo zNp zNq zNr zOg zOh zOi zOj zOk zOl zNw zNx zNy zNz zNA zNB zNC zND zNE zNF zNG zNH zNI zNJ zNK zNL zNM zNN zNO zNP zNQ zNR:Int) (zNs zNt:Nat) (b11 b18 b23:List V) (k_fin:List V→Bool→Option β):Option β :=
 chk (0≤p14∧p14 < ((zNs:Nat):Int)) (
 cI .u32 b18 (((0+((Int.toNat p14) * 5))+1)+2) fun v68 =>
 cI .u32 b4 2 fun v69 =>
 ifb (decide (v68 ≥ v69)) (
 k_fin [(V.sc (.int .u8 zNo)),(V.sc (.int .u8 zNp)),(V.sc (.int .u8 zNq)),(V.sc (.int .u8 zNr)),(V.sc (.int .u8 zOg)),(V.sc (.int .u8 zOh)),(V.sc (.int .u8 zOi)),(V.sc (.int .u8 zOj)),(V.sc (.int .u8 zOk)),(V.sc (.int .u8 zOl)),(V.sc (.int .u8 zNw)),(V.sc (.int .u8 zNx)),(V.sc (.int .u8 zNy)),(V.sc (.int .u8 zNz)),(V.sc (.int .u8 zNA)),(V.sc (.int .u8 zNB)),(V.sc (.int .u8 zNC)),(V.sc (.int .u8 zND)),(V.sc (.int .u8 zNE)),(V.sc (.int .u8 zNF)),(V.sc (.int .u8 zNG)),(V.sc (.int .u8 zNH)),(V.sc (.int .u8 zNI)),(V.sc (.int .u8 zNJ)),(V.sc (.int .u8 zNK)),(V.sc (.int .u8 zNL)),(V.sc (.int .u8 zNM)),(V.sc (.int .u8 zNN)),(V.sc (.int .u8 zNO)),(V.sc (.int .u8 zNP)),(V.sc (.int .u8 zNQ)),(V.sc (.int .u8 zNR)),(V.sl 5 (zp 5 zNs b18)),(V.sl 5 (zp 5 zNt b23))] false) (
 ifb (List.isEmpty b18) (
 xh β L (zp 5 zNs b18) p14 (fun v70 =>
 chk (0+5≤(List.length b11)) (
 xg β L v70 (List.take 5 b11) (fun v71 =>
 k_fin [(V.sc (.int .u8 zNo)),(V.sc (.int .u8 zNp)),(V.sc (.int .u8 zNq)),(V.sc (.int .u8 zNr)),(V.sc (.int .u8 zOg)),(V.sc (.int .u8 zOh)),(V.sc (.int .u8 zOi)),(V.sc (.int .u8 zOj)),(V.sc (.int .u8 zOk)),(V.sc (.int .u8 zOl)),(V.sc (.int .u8 zNw)),(V.sc (.int .u8 zNx)),(V.sc (.int .u8 zNy)),(V.sc (.int .u8 zNz)),(V.sc (.int .u8 zNA)),(V.sc (.int .u8 zNB)),(V.sc (.int .u8 zNC)),(V.sc (.int .u8 zND)),(V.sc (.int .u8 zNE)),(V.sc (.int .u8 zNF)),(V.sc (.int .u8 zNG)),(V.sc (.int .u8 zNH)),(V.sc (.int .u8 zNI)),(V.sc (.int .u8 zNJ)),(V.sc (.int .u8 zNK)),(V.sc (.int .u8 zNL)),(V.sc (.int .u8 zNM)),(V.sc (.int .u8 zNN)),(V.sc (.int .u8 zNO)),(V.sc (.int .u8 zNP)),(V.sc (.int .u8 zNQ)),(V.sc (.int .u8 zNR)),(V.sl 5 v71),(V.sl 5 (zp 5 zNt b23))] true)))) (
 xh β L (zp 5 zNs b18) p14 (fun v72 =>
 chk (0+5≤(List.length b11)) (
 xg β L v72 (List.take 5 b11) (fun v73 =>
 k_fin [(V.sc (.int .u8 zNo)),(V.sc (.int .u8 zNp)),(V.sc (.int .u8 zNq)),(V.sc (.int .u8 zNr)),(V.sc (.int .u8 zOg)),(V.sc (.int .u8 zOh)),(V.sc (.int .u8 zOi)),(V.sc (.int .u8 zOj)),(V.sc (.int .u8 zOk)),(V.sc (.int .u8 zOl)),(V.sc (.int .u8 zNw)),(V.sc (.int .u8 zNx)),(V.sc (.int .u8 zNy)),(V.sc (.int .u8 zNz)),(V.sc (.int .u8 zNA)),(V.sc (.int .u8 zNB)),(V.sc (.int .u8 zNC)),(V.sc (.int .u8 zND)),(V.sc (.int .u8 zNE)),(V.sc (.int .u8 zNF)),(V.sc (.int .u8 zNG)),(V.sc (.int .u8 zNH)),(V.sc (.int .u8 zNI)),(V.sc (.int .u8 zNJ)),(V.sc (.int .u8 zNK)),(V.sc (.int .u8 zNL)),(V.sc (.int .u8 zNM)),(V.sc (.int .u8 zNN)),(V.sc (.int .u8 zNO)),(V.sc (.int .u8 zNP)),(V.sc (.int .u8 zNQ)),(V.sc (.int .u8 zNR)),(V.sl 5 v73),(V.sl 5 (zp 5 zNt b23))] true))))))
theorem zp5 {β:Type} (xj:xW) (xl:zah) (yd:yz) (zh:yP) (xg:yW) (xh:zX) (L:Nat) (p14:Int) (b4:List V) (zOm zOn zOo zOp zOq zOr zOs zOt zOu zOv zNS zNT zNU zNV zNW zNX zNY zNZ zN0 zN1 zN2 zN3 zN4 zN5 zN6 zN7 zN8 zN9 zOa zOb zOc zOd:Int) (zOe zOf:List (List V)) (zNo zNp zNq zNr zOg zOh zOi zOj zOk zOl zNw zNx zNy zNz zNA zNB zNC zND zNE zNF zNG zNH zNI zNJ zNK zNL zNM zNN zNO zNP zNQ zNR:Int) (zNs zNt:Nat) (b11 b18 b23:List V) (k:KK β):(zx 0 (yI (yj z8 (z9 xj xl yd zh xg xh L) 0 L zdI) (yI (yj z8 (z9 xj xl yd zh xg xh L) 0 L zfs) (zN 0 (CF.res zer) k)))) (.exit 0) (zpe p14 b4 zOm zOn zOo zOp zOq zOr zOs zOt zOu zOv zNS zNT zNU zNV zNW zNX zNY zNZ zN0 zN1 zN2 zN3 zN4 zN5 zN6 zN7 zN8 zN9 zOa zOb zOc zOd zOe zOf zNo zNp zNq zNr zOg zOh zOi zOj zOk zOl zNw zNx zNy zNz zNA zNB zNC zND zNE zNF zNG zNH zNI zNJ zNK zNL zNM zNN zNO zNP zNQ zNR zNs zNt b11 b18 b23)=zj4 xj xl yd zh xg xh L p14 b4 zOm zOn zOo zOp zOq zOr zOs zOt zOu zOv zNS zNT zNU zNV zNW zNX zNY zNZ zN0 zN1 zN2 zN3 zN4 zN5 zN6 zN7 zN8 zN9 zOa zOb zOc zOd zOe zOf zNo zNp zNq zNr zOg zOh zOi zOj zOk zOl zNw zNx zNy zNz zNA zNB zNC zND zNE zNF zNG zNH zNI zNJ zNK zNL zNM zNN zNO zNP zNQ zNR zNs zNt b11 b18 b23 (fun zOw zOx=>k (V.tup [(V.agg zOw),(V.sc (.bool zOx))]) []):=by kernel_rfl
def zeP {β:Type} (xj:xW) (xl:zah) (yd:yz) (zh:yP) (xg:yW) (xh:zX) (L:Nat) (p14:Int) (b4:List V) (zOm zOn zOo zOp zOq zOr zOs zOt zOu zOv zNS zNT zNU zNV zNW zNX zNY zNZ zN0 zN1 zN2 zN3 zN4 zN5 zN6 zN7 zN8 zN9 zOa zOb zOc zOd:Int) (zOe zOf:List (List V)) (zNo zNp zNq zNr zOg zOh zOi zOj zOk zOl zNw zNx zNy zNz zNA zNB zNC zND zNE zNF zNG zNH zNI zNJ zNK zNL zNM zNN zNO zNP zNQ zNR:Int) (zNs zNt:Nat) (b11 b18 b23:List V) (k_fin:List V→Bool→Option β):Option β :=
 chk (0≤p14∧p14 < ((zNs:Nat):Int)) (
 cI .u32 b18 (((0+((Int.toNat p14) * 5))+1)+2) fun v74 =>
 cI .u32 b4 2 fun v75 =>
 ifb (decide (v74 ≥ v75)) (
 k_fin [(V.sc (.int .u8 zNo)),(V.sc (.int .u8 zNp)),(V.sc (.int .u8 zNq)),(V.sc (.int .u8 zNr)),(V.sc (.int .u8 zOg)),(V.sc (.int .u8 zOh)),(V.sc (.int .u8 zOi)),(V.sc (.int .u8 zOj)),(V.sc (.int .u8 zOk)),(V.sc (.int .u8 zOl)),(V.sc (.int .u8 zNw)),(V.sc (.int .u8 zNx)),(V.sc (.int .u8 zNy)),(V.sc (.int .u8 zNz)),(V.sc (.int .u8 zNA)),(V.sc (.int .u8 zNB)),(V.sc (.int .u8 zNC)),(V.sc (.int .u8 zND)),(V.sc (.int .u8 zNE)),(V.sc (.int .u8 zNF)),(V.sc (.int .u8 zNG)),(V.sc (.int .u8 zNH)),(V.sc (.int .u8 zNI)),(V.sc (.int .u8 zNJ)),(V.sc (.int .u8 zNK)),(V.sc (.int .u8 zNL)),(V.sc (.int .u8 zNM)),(V.sc (.int .u8 zNN)),(V.sc (.int .u8 zNO)),(V.sc (.int .u8 zNP)),(V.sc (.int .u8 zNQ)),(V.sc (.int .u8 zNR)),(V.sl 5 (zp 5 zNs b18)),(V.sl 5 (zp 5 zNt b23))] false) (
 xh β L (zp 5 zNs b18) p14 (fun v76 =>
 chk (0+5≤(List.length b11)) (
 xg β L v76 (List.take 5 b11) (fun v77 =>
 k_fin [(V.sc (.int .u8 zNo)),(V.sc (.int .u8 zNp)),(V.sc (.int .u8 zNq)),(V.sc (.int .u8 zNr)),(V.sc (.int .u8 zOg)),(V.sc (.int .u8 zOh)),(V.sc (.int .u8 zOi)),(V.sc (.int .u8 zOj)),(V.sc (.int .u8 zOk)),(V.sc (.int .u8 zOl)),(V.sc (.int .u8 zNw)),(V.sc (.int .u8 zNx)),(V.sc (.int .u8 zNy)),(V.sc (.int .u8 zNz)),(V.sc (.int .u8 zNA)),(V.sc (.int .u8 zNB)),(V.sc (.int .u8 zNC)),(V.sc (.int .u8 zND)),(V.sc (.int .u8 zNE)),(V.sc (.int .u8 zNF)),(V.sc (.int .u8 zNG)),(V.sc (.int .u8 zNH)),(V.sc (.int .u8 zNI)),(V.sc (.int .u8 zNJ)),(V.sc (.int .u8 zNK)),(V.sc (.int .u8 zNL)),(V.sc (.int .u8 zNM)),(V.sc (.int .u8 zNN)),(V.sc (.int .u8 zNO)),(V.sc (.int .u8 zNP)),(V.sc (.int .u8 zNQ)),(V.sc (.int .u8 zNR)),(V.sl 5 v77),(V.sl 5 (zp 5 zNt b23))] true)))))
theorem znQ {β:Type} (xj:xW) (xl:zah) (yd:yz) (zh:yP) (xg:yW) (xh:zX) (L:Nat) (p14:Int) (b4:List V) (zOm zOn zOo zOp zOq zOr zOs zOt zOu zOv zNS zNT zNU zNV zNW zNX zNY zNZ zN0 zN1 zN2 zN3 zN4 zN5 zN6 zN7 zN8 zN9 zOa zOb zOc zOd:Int) (zOe zOf:List (List V)) (zNo zNp zNq zNr zOg zOh zOi zOj zOk zOl zNw zNx zNy zNz zNA zNB zNC zND zNE zNF zNG zNH zNI zNJ zNK zNL zNM zNN zNO zNP zNQ zNR:Int) (zNs zNt:Nat) (b11 b18 b23:List V) (k:KK β):(zx 0 (yI (yj z8 (z9 xj xl yd zh xg xh L) 0 L zdI) (yI (yj z8 (z9 xj xl yd zh xg xh L) 0 L zfs) (zN 0 (CF.res zer) k)))) (.exit 0) (zm9 p14 b4 zOm zOn zOo zOp zOq zOr zOs zOt zOu zOv zNS zNT zNU zNV zNW zNX zNY zNZ zN0 zN1 zN2 zN3 zN4 zN5 zN6 zN7 zN8 zN9 zOa zOb zOc zOd zOe zOf zNo zNp zNq zNr zOg zOh zOi zOj zOk zOl zNw zNx zNy zNz zNA zNB zNC zND zNE zNF zNG zNH zNI zNJ zNK zNL zNM zNN zNO zNP zNQ zNR zNs zNt b11 b18 b23)=zeP xj xl yd zh xg xh L p14 b4 zOm zOn zOo zOp zOq zOr zOs zOt zOu zOv zNS zNT zNU zNV zNW zNX zNY zNZ zN0 zN1 zN2 zN3 zN4 zN5 zN6 zN7 zN8 zN9 zOa zOb zOc zOd zOe zOf zNo zNp zNq zNr zOg zOh zOi zOj zOk zOl zNw zNx zNy zNz zNA zNB zNC zND zNE zNF zNG zNH zNI zNJ zNK zNL zNM zNN zNO zNP zNQ zNR zNs zNt b11 b18 b23 (fun zOw zOx=>k (V.tup [(V.agg zOw),(V.sc (.bool zOx))]) []):=by kernel_rfl
def zg2 {β:Type} (xj:xW) (xl:zah) (yd:yz) (zh:yP) (xg:yW) (xh:zX) (L:Nat) (k_x0:zxj β):Nat→Int→Int→Int→List V→Int→Int→Int→Int→Int→Int→Int→Int→Int→Int→Int→Int→Int→Int→Int→Int→Int→Int→Int→Int→Int→Int→Int→Int→Int→Int→Int→Int→Int→Int→Int→Int→List (List V)→List (List V)→Int→Int→Int→Int→Int→Int→Int→Int→Int→Int→Int→Int→Int→Int→Int→Int→Int→Int→Int→Int→Int→Int→Int→Int→Int→Int→Int→Int→Int→Int→Int→Int→Nat→Nat→List V→List V→List V→Option β
 | 0,_,_,_,_,_,_,_,_,_,_,_,_,_,_,_,_,_,_,_,_,_,_,_,_,_,_,_,_,_,_,_,_,_,_,_,_,_,_,_,_,_,_,_,_,_,_,_,_,_,_,_,_,_,_,_,_,_,_,_,_,_,_,_,_,_,_,_,_,_,_,_,_,_,_,_=>none
 | n+1,p13,p14,p15,b4,zOm,zOn,zOo,zOp,zOq,zOr,zOs,zOt,zOu,zOv,zNS,zNT,zNU,zNV,zNW,zNX,zNY,zNZ,zN0,zN1,zN2,zN3,zN4,zN5,zN6,zN7,zN8,zN9,zOa,zOb,zOc,zOd,zOe,zOf,zNo,zNp,zNq,zNr,zOg,zOh,zOi,zOj,zOk,zOl,zNw,zNx,zNy,zNz,zNA,zNB,zNC,zND,zNE,zNF,zNG,zNH,zNI,zNJ,zNK,zNL,zNM,zNN,zNO,zNP,zNQ,zNR,zNs,zNt,b11,b18,b23=>zlU xj xl yd zh xg xh L p13 p14 p15 b4 zOm zOn zOo zOp zOq zOr zOs zOt zOu zOv zNS zNT zNU zNV zNW zNX zNY zNZ zN0 zN1 zN2 zN3 zN4 zN5 zN6 zN7 zN8 zN9 zOa zOb zOc zOd zOe zOf zNo zNp zNq zNr zOg zOh zOi zOj zOk zOl zNw zNx zNy zNz zNA zNB zNC zND zNE zNF zNG zNH zNI zNJ zNK zNL zNM zNN zNO zNP zNQ zNR zNs zNt b11 b18 b23 (fun p13 p14 p15 b4 zOm zOn zOo zOp zOq zOr zOs zOt zOu zOv zNS zNT zNU zNV zNW zNX zNY zNZ zN0 zN1 zN2 zN3 zN4 zN5 zN6 zN7 zN8 zN9 zOa zOb zOc zOd zOe zOf zNo zNp zNq zNr zOg zOh zOi zOj zOk zOl zNw zNx zNy zNz zNA zNB zNC zND zNE zNF zNG zNH zNI zNJ zNK zNL zNM zNN zNO zNP zNQ zNR zNs zNt b11 b18 b23=>zg2 xj xl yd zh xg xh L k_x0 n p13 p14 p15 b4 zOm zOn zOo zOp zOq zOr zOs zOt zOu zOv zNS zNT zNU zNV zNW zNX zNY zNZ zN0 zN1 zN2 zN3 zN4 zN5 zN6 zN7 zN8 zN9 zOa zOb zOc zOd zOe zOf zNo zNp zNq zNr zOg zOh zOi zOj zOk zOl zNw zNx zNy zNz zNA zNB zNC zND zNE zNF zNG zNH zNI zNJ zNK zNL zNM zNN zNO zNP zNQ zNR zNs zNt b11 b18 b23) k_x0
theorem zjS {β:Type} (xj:xW) (xl:zah) (yd:yz) (zh:yP) (xg:yW) (xh:zX) (L:Nat) (K:KT β):∀ (n:Nat) (p13 p14 p15:Int) (b4:List V) (zOm zOn zOo zOp zOq zOr zOs zOt zOu zOv zNS zNT zNU zNV zNW zNX zNY zNZ zN0 zN1 zN2 zN3 zN4 zN5 zN6 zN7 zN8 zN9 zOa zOb zOc zOd:Int) (zOe zOf:List (List V)) (zNo zNp zNq zNr zOg zOh zOi zOj zOk zOl zNw zNx zNy zNz zNA zNB zNC zND zNE zNF zNG zNH zNI zNJ zNK zNL zNM zNN zNO zNP zNQ zNR:Int) (zNs zNt:Nat) (b11 b18 b23:List V),xy (yj z8 (z9 xj xl yd zh xg xh L) 0 L zan) zaT n (zdD p13 p14 p15 b4 zOm zOn zOo zOp zOq zOr zOs zOt zOu zOv zNS zNT zNU zNV zNW zNX zNY zNZ zN0 zN1 zN2 zN3 zN4 zN5 zN6 zN7 zN8 zN9 zOa zOb zOc zOd zOe zOf zNo zNp zNq zNr zOg zOh zOi zOj zOk zOl zNw zNx zNy zNz zNA zNB zNC zND zNE zNF zNG zNH zNI zNJ zNK zNL zNM zNN zNO zNP zNQ zNR zNs zNt b11 b18 b23) K=zg2 xj xl yd zh xg xh L (fun p14 b4 zOm zOn zOo zOp zOq zOr zOs zOt zOu zOv zNS zNT zNU zNV zNW zNX zNY zNZ zN0 zN1 zN2 zN3 zN4 zN5 zN6 zN7 zN8 zN9 zOa zOb zOc zOd zOe zOf zNo zNp zNq zNr zOg zOh zOi zOj zOk zOl zNw zNx zNy zNz zNA zNB zNC zND zNE zNF zNG zNH zNI zNJ zNK zNL zNM zNN zNO zNP zNQ zNR zNs zNt b11 b18 b23=>K (.exit 0) (zpe p14 b4 zOm zOn zOo zOp zOq zOr zOs zOt zOu zOv zNS zNT zNU zNV zNW zNX zNY zNZ zN0 zN1 zN2 zN3 zN4 zN5 zN6 zN7 zN8 zN9 zOa zOb zOc zOd zOe zOf zNo zNp zNq zNr zOg zOh zOi zOj zOk zOl zNw zNx zNy zNz zNA zNB zNC zND zNE zNF zNG zNH zNI zNJ zNK zNL zNM zNN zNO zNP zNQ zNR zNs zNt b11 b18 b23)) n p13 p14 p15 b4 zOm zOn zOo zOp zOq zOr zOs zOt zOu zOv zNS zNT zNU zNV zNW zNX zNY zNZ zN0 zN1 zN2 zN3 zN4 zN5 zN6 zN7 zN8 zN9 zOa zOb zOc zOd zOe zOf zNo zNp zNq zNr zOg zOh zOi zOj zOk zOl zNw zNx zNy zNz zNA zNB zNC zND zNE zNF zNG zNH zNI zNJ zNK zNL zNM zNN zNO zNP zNQ zNR zNs zNt b11 b18 b23:=by
 intro n
 induction n with
 | zero=>intros; rfl
 | succ n ih =>
  intro p13 p14 p15 b4 zOm zOn zOo zOp zOq zOr zOs zOt zOu zOv zNS zNT zNU zNV zNW zNX zNY zNZ zN0 zN1 zN2 zN3 zN4 zN5 zN6 zN7 zN8 zN9 zOa zOb zOc zOd zOe zOf zNo zNp zNq zNr zOg zOh zOi zOj zOk zOl zNw zNx zNy zNz zNA zNB zNC zND zNE zNF zNG zNH zNI zNJ zNK zNL zNM zNN zNO zNP zNQ zNR zNs zNt b11 b18 b23
  refine (zrJ xj xl yd zh xg xh L p13 p14 p15 b4 zOm zOn zOo zOp zOq zOr zOs zOt zOu zOv zNS zNT zNU zNV zNW zNX zNY zNZ zN0 zN1 zN2 zN3 zN4 zN5 zN6 zN7 zN8 zN9 zOa zOb zOc zOd zOe zOf zNo zNp zNq zNr zOg zOh zOi zOj zOk zOl zNw zNx zNy zNz zNA zNB zNC zND zNE zNF zNG zNH zNI zNJ zNK zNL zNM zNN zNO zNP zNQ zNR zNs zNt b11 b18 b23 (fun σ=>xy (yj z8 (z9 xj xl yd zh xg xh L) 0 L zan) zaT n σ K) K).trans ?_
  simp only [ih]
  rfl
def zcL {β:Type} (xj:xW) (xl:zah) (yd:yz) (zh:yP) (xg:yW) (xh:zX) (L:Nat) (k_x0v1:zo0 β):Nat→Int→Int→Int→List V→Int→Int→Int→Int→Int→Int→Int→Int→Int→Int→Int→Int→Int→Int→Int→Int→Int→Int→Int→Int→Int→Int→Int→Int→Int→Int→Int→Int→Int→Int→Int→Int→List (List V)→List (List V)→Int→Int→Int→Int→Int→Int→Int→Int→Int→Int→Int→Int→Int→Int→Int→Int→Int→Int→Int→Int→Int→Int→Int→Int→Int→Int→Int→Int→Int→Int→Int→Int→Nat→Nat→List V→List V→List V→Option β
 | 0,_,_,_,_,_,_,_,_,_,_,_,_,_,_,_,_,_,_,_,_,_,_,_,_,_,_,_,_,_,_,_,_,_,_,_,_,_,_,_,_,_,_,_,_,_,_,_,_,_,_,_,_,_,_,_,_,_,_,_,_,_,_,_,_,_,_,_,_,_,_,_,_,_,_,_=>none
 | n+1,p13,p14,p15,b4,zOm,zOn,zOo,zOp,zOq,zOr,zOs,zOt,zOu,zOv,zNS,zNT,zNU,zNV,zNW,zNX,zNY,zNZ,zN0,zN1,zN2,zN3,zN4,zN5,zN6,zN7,zN8,zN9,zOa,zOb,zOc,zOd,zOe,zOf,zNo,zNp,zNq,zNr,zOg,zOh,zOi,zOj,zOk,zOl,zNw,zNx,zNy,zNz,zNA,zNB,zNC,zND,zNE,zNF,zNG,zNH,zNI,zNJ,zNK,zNL,zNM,zNN,zNO,zNP,zNQ,zNR,zNs,zNt,b11,b18,b23=>zfW xj xl yd zh xg xh L p13 p14 p15 b4 zOm zOn zOo zOp zOq zOr zOs zOt zOu zOv zNS zNT zNU zNV zNW zNX zNY zNZ zN0 zN1 zN2 zN3 zN4 zN5 zN6 zN7 zN8 zN9 zOa zOb zOc zOd zOe zOf zNo zNp zNq zNr zOg zOh zOi zOj zOk zOl zNw zNx zNy zNz zNA zNB zNC zND zNE zNF zNG zNH zNI zNJ zNK zNL zNM zNN zNO zNP zNQ zNR zNs zNt b11 b18 b23 (fun p13 p14 p15 b4 zOm zOn zOo zOp zOq zOr zOs zOt zOu zOv zNS zNT zNU zNV zNW zNX zNY zNZ zN0 zN1 zN2 zN3 zN4 zN5 zN6 zN7 zN8 zN9 zOa zOb zOc zOd zOe zOf zNo zNp zNq zNr zOg zOh zOi zOj zOk zOl zNw zNx zNy zNz zNA zNB zNC zND zNE zNF zNG zNH zNI zNJ zNK zNL zNM zNN zNO zNP zNQ zNR zNs zNt b11 b18 b23=>zcL xj xl yd zh xg xh L k_x0v1 n p13 p14 p15 b4 zOm zOn zOo zOp zOq zOr zOs zOt zOu zOv zNS zNT zNU zNV zNW zNX zNY zNZ zN0 zN1 zN2 zN3 zN4 zN5 zN6 zN7 zN8 zN9 zOa zOb zOc zOd zOe zOf zNo zNp zNq zNr zOg zOh zOi zOj zOk zOl zNw zNx zNy zNz zNA zNB zNC zND zNE zNF zNG zNH zNI zNJ zNK zNL zNM zNN zNO zNP zNQ zNR zNs zNt b11 b18 b23) k_x0v1
theorem ziH {β:Type} (xj:xW) (xl:zah) (yd:yz) (zh:yP) (xg:yW) (xh:zX) (L:Nat) (K:KT β):∀ (n:Nat) (p13 p14 p15:Int) (b4:List V) (zOm zOn zOo zOp zOq zOr zOs zOt zOu zOv zNS zNT zNU zNV zNW zNX zNY zNZ zN0 zN1 zN2 zN3 zN4 zN5 zN6 zN7 zN8 zN9 zOa zOb zOc zOd:Int) (zOe zOf:List (List V)) (zNo zNp zNq zNr zOg zOh zOi zOj zOk zOl zNw zNx zNy zNz zNA zNB zNC zND zNE zNF zNG zNH zNI zNJ zNK zNL zNM zNN zNO zNP zNQ zNR:Int) (zNs zNt:Nat) (b11 b18 b23:List V),xy (yj z8 (z9 xj xl yd zh xg xh L) 0 L zan) zaT n (zdh p13 p14 p15 b4 zOm zOn zOo zOp zOq zOr zOs zOt zOu zOv zNS zNT zNU zNV zNW zNX zNY zNZ zN0 zN1 zN2 zN3 zN4 zN5 zN6 zN7 zN8 zN9 zOa zOb zOc zOd zOe zOf zNo zNp zNq zNr zOg zOh zOi zOj zOk zOl zNw zNx zNy zNz zNA zNB zNC zND zNE zNF zNG zNH zNI zNJ zNK zNL zNM zNN zNO zNP zNQ zNR zNs zNt b11 b18 b23) K=zcL xj xl yd zh xg xh L (fun p14 b4 zOm zOn zOo zOp zOq zOr zOs zOt zOu zOv zNS zNT zNU zNV zNW zNX zNY zNZ zN0 zN1 zN2 zN3 zN4 zN5 zN6 zN7 zN8 zN9 zOa zOb zOc zOd zOe zOf zNo zNp zNq zNr zOg zOh zOi zOj zOk zOl zNw zNx zNy zNz zNA zNB zNC zND zNE zNF zNG zNH zNI zNJ zNK zNL zNM zNN zNO zNP zNQ zNR zNs zNt b11 b18 b23=>K (.exit 0) (zm9 p14 b4 zOm zOn zOo zOp zOq zOr zOs zOt zOu zOv zNS zNT zNU zNV zNW zNX zNY zNZ zN0 zN1 zN2 zN3 zN4 zN5 zN6 zN7 zN8 zN9 zOa zOb zOc zOd zOe zOf zNo zNp zNq zNr zOg zOh zOi zOj zOk zOl zNw zNx zNy zNz zNA zNB zNC zND zNE zNF zNG zNH zNI zNJ zNK zNL zNM zNN zNO zNP zNQ zNR zNs zNt b11 b18 b23)) n p13 p14 p15 b4 zOm zOn zOo zOp zOq zOr zOs zOt zOu zOv zNS zNT zNU zNV zNW zNX zNY zNZ zN0 zN1 zN2 zN3 zN4 zN5 zN6 zN7 zN8 zN9 zOa zOb zOc zOd zOe zOf zNo zNp zNq zNr zOg zOh zOi zOj zOk zOl zNw zNx zNy zNz zNA zNB zNC zND zNE zNF zNG zNH zNI zNJ zNK zNL zNM zNN zNO zNP zNQ zNR zNs zNt b11 b18 b23:=by
 intro n
 induction n with
 | zero=>intros; rfl
 | succ n ih =>
  intro p13 p14 p15 b4 zOm zOn zOo zOp zOq zOr zOs zOt zOu zOv zNS zNT zNU zNV zNW zNX zNY zNZ zN0 zN1 zN2 zN3 zN4 zN5 zN6 zN7 zN8 zN9 zOa zOb zOc zOd zOe zOf zNo zNp zNq zNr zOg zOh zOi zOj zOk zOl zNw zNx zNy zNz zNA zNB zNC zND zNE zNF zNG zNH zNI zNJ zNK zNL zNM zNN zNO zNP zNQ zNR zNs zNt b11 b18 b23
  refine (zqg xj xl yd zh xg xh L p13 p14 p15 b4 zOm zOn zOo zOp zOq zOr zOs zOt zOu zOv zNS zNT zNU zNV zNW zNX zNY zNZ zN0 zN1 zN2 zN3 zN4 zN5 zN6 zN7 zN8 zN9 zOa zOb zOc zOd zOe zOf zNo zNp zNq zNr zOg zOh zOi zOj zOk zOl zNw zNx zNy zNz zNA zNB zNC zND zNE zNF zNG zNH zNI zNJ zNK zNL zNM zNN zNO zNP zNQ zNR zNs zNt b11 b18 b23 (fun σ=>xy (yj z8 (z9 xj xl yd zh xg xh L) 0 L zan) zaT n σ K) K).trans ?_
  simp only [ih]
  rfl
def zqM {β:Type} (xj:xW) (xl:zah) (yd:yz) (zh:yP) (xg:yW) (xh:zX) (L:Nat) (p0 p1:List V) (p2:Int) (k_fin:List V→Bool→Option β):Option β :=
 zum xj xl yd zh xg xh L p0 p1 p2 k_fin (fun p13 p14 p15 b4 zOm zOn zOo zOp zOq zOr zOs zOt zOu zOv zNS zNT zNU zNV zNW zNX zNY zNZ zN0 zN1 zN2 zN3 zN4 zN5 zN6 zN7 zN8 zN9 zOa zOb zOc zOd zOe zOf zNo zNp zNq zNr zOg zOh zOi zOj zOk zOl zNw zNx zNy zNz zNA zNB zNC zND zNE zNF zNG zNH zNI zNJ zNK zNL zNM zNN zNO zNP zNQ zNR zNs zNt b11 b18 b23=>zg2 xj xl yd zh xg xh L (fun p14 b4 zOm zOn zOo zOp zOq zOr zOs zOt zOu zOv zNS zNT zNU zNV zNW zNX zNY zNZ zN0 zN1 zN2 zN3 zN4 zN5 zN6 zN7 zN8 zN9 zOa zOb zOc zOd zOe zOf zNo zNp zNq zNr zOg zOh zOi zOj zOk zOl zNw zNx zNy zNz zNA zNB zNC zND zNE zNF zNG zNH zNI zNJ zNK zNL zNM zNN zNO zNP zNQ zNR zNs zNt b11 b18 b23=>zj4 xj xl yd zh xg xh L p14 b4 zOm zOn zOo zOp zOq zOr zOs zOt zOu zOv zNS zNT zNU zNV zNW zNX zNY zNZ zN0 zN1 zN2 zN3 zN4 zN5 zN6 zN7 zN8 zN9 zOa zOb zOc zOd zOe zOf zNo zNp zNq zNr zOg zOh zOi zOj zOk zOl zNw zNx zNy zNz zNA zNB zNC zND zNE zNF zNG zNH zNI zNJ zNK zNL zNM zNN zNO zNP zNQ zNR zNs zNt b11 b18 b23 k_fin) L p13 p14 p15 b4 zOm zOn zOo zOp zOq zOr zOs zOt zOu zOv zNS zNT zNU zNV zNW zNX zNY zNZ zN0 zN1 zN2 zN3 zN4 zN5 zN6 zN7 zN8 zN9 zOa zOb zOc zOd zOe zOf zNo zNp zNq zNr zOg zOh zOi zOj zOk zOl zNw zNx zNy zNz zNA zNB zNC zND zNE zNF zNG zNH zNI zNJ zNK zNL zNM zNN zNO zNP zNQ zNR zNs zNt b11 b18 b23) (fun p13 p14 p15 b4 zOm zOn zOo zOp zOq zOr zOs zOt zOu zOv zNS zNT zNU zNV zNW zNX zNY zNZ zN0 zN1 zN2 zN3 zN4 zN5 zN6 zN7 zN8 zN9 zOa zOb zOc zOd zOe zOf zNo zNp zNq zNr zOg zOh zOi zOj zOk zOl zNw zNx zNy zNz zNA zNB zNC zND zNE zNF zNG zNH zNI zNJ zNK zNL zNM zNN zNO zNP zNQ zNR zNs zNt b11 b18 b23=>zcL xj xl yd zh xg xh L (fun p14 b4 zOm zOn zOo zOp zOq zOr zOs zOt zOu zOv zNS zNT zNU zNV zNW zNX zNY zNZ zN0 zN1 zN2 zN3 zN4 zN5 zN6 zN7 zN8 zN9 zOa zOb zOc zOd zOe zOf zNo zNp zNq zNr zOg zOh zOi zOj zOk zOl zNw zNx zNy zNz zNA zNB zNC zND zNE zNF zNG zNH zNI zNJ zNK zNL zNM zNN zNO zNP zNQ zNR zNs zNt b11 b18 b23=>zeP xj xl yd zh xg xh L p14 b4 zOm zOn zOo zOp zOq zOr zOs zOt zOu zOv zNS zNT zNU zNV zNW zNX zNY zNZ zN0 zN1 zN2 zN3 zN4 zN5 zN6 zN7 zN8 zN9 zOa zOb zOc zOd zOe zOf zNo zNp zNq zNr zOg zOh zOi zOj zOk zOl zNw zNx zNy zNz zNA zNB zNC zND zNE zNF zNG zNH zNI zNJ zNK zNL zNM zNN zNO zNP zNQ zNR zNs zNt b11 b18 b23 k_fin) L p13 p14 p15 b4 zOm zOn zOo zOp zOq zOr zOs zOt zOu zOv zNS zNT zNU zNV zNW zNX zNY zNZ zN0 zN1 zN2 zN3 zN4 zN5 zN6 zN7 zN8 zN9 zOa zOb zOc zOd zOe zOf zNo zNp zNq zNr zOg zOh zOi zOj zOk zOl zNw zNx zNy zNz zNA zNB zNC zND zNE zNF zNG zNH zNI zNJ zNK zNL zNM zNN zNO zNP zNQ zNR zNs zNt b11 b18 b23)
theorem zDW {β:Type} (xj:xW) (xl:zah) (yd:yz) (zh:yP) (xg:yW) (xh:zX) (L:Nat) (p0 p1:List V) (p2:Int) (k:KK β):xr z8 (z9 xj xl yd zh xg xh L) L zer [(V.agg p0),(V.agg p1),(V.sc (.int .u32 p2))] [] k=zqM xj xl yd zh xg xh L p0 p1 p2 (fun zOw zOx=>k (V.tup [(V.agg zOw),(V.sc (.bool zOx))]) []):=by
 refine (zD4 xj xl yd zh xg xh L p0 p1 p2 k).trans ?_
 unfold zqM
 first
  | (simp only [zjS,zp5,ziH,znQ]; done)
  | (simp only [zjS,ziH]; rfl)
abbrev zhD:=∀ (β:Type),Nat→List V→List V→Int→(List V→Bool→Option β)→Option β
def zG (β:Type) (L:Nat) (p0 p1:List V) (p2:Int) (k_fin:List V→Bool→Option β):Option β:=zqM xj xl yd zh xg xh L p0 p1 p2 k_fin
def zme (zG:zhD) (L:Nat) (β:Type) (args:List V) (bor:Bor) (k:KK β):Option β:=match args,bor with
 | [a0,a1,a2],[]=>aG a0 fun p0=>aG a1 fun p1=>aI .u32 a2 fun p2=>zG β L p0 p1 p2 (fun zOw zOx=>k (V.tup [(V.agg zOw),(V.sc (.bool zOx))]) [])
 | _,_=>none
theorem zDx (L:Nat) (β:Type) (args:List V) (bor:Bor) (k:KK β) (r:β) (h:zme zG L β args bor k=some r):xr z8 (z9 xj xl yd zh xg xh L) L zer args bor k=some r:=by
 unfold zme at h
 split at h
 ·have q:=y5 h; clear h; obtain ⟨p0,rfl,h⟩:=q
  have q:=y5 h; clear h; obtain ⟨p1,rfl,h⟩:=q
  have q:=zad h; clear h; obtain ⟨p2,rfl,h⟩:=q
  exact (zDW xj xl yd zh xg xh L p0 p1 p2 k).trans h
 ·cases h
def zoF:CF:=⟨81,[.cellS 4 34 true,.tmpP 5],
 (.seq (.reg [oo 2 (.box true (tq 0)),
   oo 3 (.box true (tq 1)),
   oo 4 (.alloc false (rp 32 (.sc (.int .u8 0)) (rp 2 (.gs 5 []) []))),
   oo 5 (.move (.const (.sc (.int .i64 0))) false)])
 (.seq (.seq (.reg [oo 13 (.load true 34 (tq 2) false),
   oo 14 (.call 281 [((tq 13),1)] []),
   oo 15 (.un .not (tq 14))])
 (.cond (tq 15)
 (.seq (.reg [oo 16 (.build (rp 32 (.sc (.int .u8 0)) (rp 2 (.sl 5 []) [])) []),
   oz (.store 34 (tq 4) (tq 16)),
   oo 5 (.move (.const (.sc (.int .i64 6))) false)])
 .ret)
 .skip))
 (.seq (.reg [oo 17 (.fieldAddr 32 (tq 2)),
   oo 18 (.load false 1 (tq 17) false),
   oo 19 (.load true 3 (tq 3) false),
   oo 20 (.call 287 [((tq 18),2),((tq 19),2)] []),
   oo 6 (.move (tq 20) false)])
 (.seq (.seq (.reg [oo 21 (.move (tq 6) false),
   oo 22 (.bin .lss (tq 21) (.const (.sc (.int .i64 0))))])
 (.cond (tq 22)
 (.seq (.reg [oo 23 (.build (rp 32 (.sc (.int .u8 0)) (rp 2 (.sl 5 []) [])) []),
   oz (.store 34 (tq 4) (tq 23)),
   oo 5 (.move (.const (.sc (.int .i64 9))) false)])
 .ret)
 .skip))
 (.seq (.reg [oo 24 (.load true 34 (tq 2) false),
   oo 25 (.call 288 [((tq 24),1)] [15,17]),
   oo 7 (.alloc false (rp 32 (.sc (.int .u8 0)) (rp 2 (.gs 5 []) []))),
   oz (.store 34 (tq 7) (tq 25))])
 (.seq (.reg [oo 26 (.fieldAddr 32 (tq 7)),
   oo 27 (.load false 1 (tq 26) false),
   oo 28 (.move (tq 6) false),
   oo 29 (.indexAddrS 5 (tq 27) (tq 28)),
   oo 30 (.load true 5 (tq 29) false),
   oo 8 (.alloc true [(.sc (.int .i64 0)),(.sc (.int .u32 0)),(.sc (.int .u16 0)),(.sc (.int .u32 0)),(.sc (.int .u32 0))]),
   oz (.store 5 (tq 8) (tq 30))])
 (.seq (.reg [oo 31 (.fieldAddr 32 (tq 7)),
   oo 32 (.load false 1 (tq 31) false),
   oo 33 (.move (tq 6) false),
   oo 34 (.call 289 [((tq 32),0),((tq 33),0)] []),
   oo 35 (.fieldAddr 32 (tq 7)),
   oz (.store 1 (tq 35) (tq 34))])
 (.seq (.reg [oo 36 (.fieldAddr 0 (tq 2)),
   oo 37 (.load true 32 (tq 36) false),
   oo 38 (.fieldAddr 1 (tq 8)),
   oo 39 (.load true 3 (tq 38) false),
   oo 40 (.call 290 [((tq 37),0),((tq 39),0)] []),
   oo 41 (.fieldAddr 0 (tq 8)),
   oz (.store 1 (tq 41) (tq 40))])
 (.seq (.reg [oo 43 (.fieldAddr 33 (tq 7)),
   oo 44 (.load false 1 (tq 43) false),
   oo 45 (.fieldAddr 0 (tq 8)),
   oo 46 (.load false 1 (tq 45) false),
   oo 47 (.call 291 [((tq 44),0),((tq 46),0)] []),
   oo 42 (.move (tq 47) true),
   oo 48 (.pull (tq 42) 0),
   oo 49 (.pull (tq 42) 1),
   oo 9 (.move (tq 48) false),
   oo 10 (.move (tq 49) false)])
 (.seq (.reg [oo 11 (.alloc true [(.sc (.int .u32 0)),(.sc (.int .u16 0)),(.sc (.int .u32 0))])])
 (.seq (.reg [oo 50 (.move (tq 10) false),
   oo 51 (.move (tq 9) false),
   oo 52 (.bin .sub (tq 50) (tq 51)),
   oo 53 (.bin .geq (tq 52) (.const (.sc (.int .i64 8)))),
   oo 12 (.move (tq 53) false)])
 (.seq (.seq (.reg [oo 54 (.move (tq 12) false)])
 (.cond (tq 54)
 (.seq (.reg [oo 55 (.fieldAddr 33 (tq 7)),
   oo 56 (.load false 1 (tq 55) false),
   oo 57 (.move (tq 9) false),
   oo 58 (.indexAddrS 5 (tq 56) (tq 57)),
   oo 59 (.fieldAddr 1 (tq 58)),
   oo 60 (.load true 3 (tq 59) false),
   oz (.store 3 (tq 11) (tq 60))])
 (.reg [oo 61 (.fieldAddr 33 (tq 7)),
   oo 62 (.load false 1 (tq 61) false),
   oo 63 (.move (tq 9) false),
   oo 64 (.call 289 [((tq 62),0),((tq 63),0)] []),
   oo 65 (.fieldAddr 33 (tq 7)),
   oz (.store 1 (tq 65) (tq 64))]))
 .skip))
 (.seq (.reg [oo 66 (.fieldAddr 33 (tq 7)),
   oo 67 (.load false 1 (tq 66) false),
   oo 68 (.load true 5 (tq 8) false),
   oo 69 (.call 292 [((tq 67),0),((tq 68),0)] []),
   oo 70 (.fieldAddr 33 (tq 7)),
   oz (.store 1 (tq 70) (tq 69))])
 (.seq (.seq (.reg [oo 71 (.move (tq 12) false)])
 (.cond (tq 71)
 (.dreg [] [(oo 73 (.load true 34 (tq 7) false),ql 7 [11] []),
   (oo 74 (.load true 3 (tq 11) false),ql 11 [7] []),
   (oo 75 (.load true 3 (tq 11) false),ql 11 [7] []),
   (oo 76 (.call 294 [((tq 75),0)] []),qc [7,11] []),
   (oo 77 (.call 293 [((tq 73),1),((tq 74),0),((tq 76),0)] []),q0),
   (oo 72 (.move (tq 77) true),q0),
   (oo 78 (.pull (tq 72) 0),q0),
   (oo 79 (.pull (tq 72) 1),q0),
   (oz (.store 34 (tq 7) (tq 78)),q0)])
 .skip))
 (.seq (.reg [oo 80 (.load true 34 (tq 7) true),
   oz (.store 34 (tq 4) (tq 80)),
   oo 5 (.move (.const (.sc (.int .i64 0))) false)])
 .ret)))))))))))))))⟩
def zvG:Hint:=⟨[(0,0),(3,3),(10,5),(18,5),(19,0)],[],[none,none,none,none,none,none,none],[],[(6,1,[15,17])],true,true⟩
def zsY:Nat→Sh:=zV [(18,(.sl 5)),(46,(.int .i64)),(78,(.row [(.int .u8),(.int .u8),(.int .u8),(.int .u8),(.int .u8),(.int .u8),(.int .u8),(.int .u8),(.int .u8),(.int .u8),(.int .u8),(.int .u8),(.int .u8),(.int .u8),(.int .u8),(.int .u8),(.int .u8),(.int .u8),(.int .u8),(.int .u8),(.int .u8),(.int .u8),(.int .u8),(.int .u8),(.int .u8),(.int .u8),(.int .u8),(.int .u8),(.int .u8),(.int .u8),(.int .u8),(.int .u8),(.sl 5),(.sl 5)]))]
def zsS (xk:y8) (zg:zO) (xj:xW) (xh:zX) (zi:yQ) (zh:yP) (xg:yW) (yi:zW) (zG:zhD) (L:Nat):CBC:=(xA 293 (zme zG L) (xA 294 (zgB yi L) (xA 292 (zjX xg L) (xA 291 (zhl zh L) (xA 290 (zfq zi L) (xA 289 (zjJ xh L) (xA 288 (zj0 xj L) (xA 287 (zjG zg L) (xA 281 (zif xk L) noC)))))))))
def zuu {β:Type} (xk:y8) (zg:zO) (xj:xW) (xh:zX) (zi:yQ) (zh:yP) (xg:yW) (yi:zW) (zG:zhD) (L:Nat) (p0 p1:List V) (k_fin:List V→Int→Option β):Option β :=
 chk (0+34≤(List.length p0)) (
 xk β L (List.map V.dem (List.take 34 p0)) (fun v0 =>
 ifb (!v0) (
 k_fin (List.replicate 32 (V.sc (.int .u8 (0:Int)))++[(V.sl 5 ([]:List (List V))),(V.sl 5 ([]:List (List V)))]) (6:Int)) (
 cLd 5 p0 32 fun v1 =>
 chk (0+3≤(List.length p1)) (
 zg β L v1 (List.take 3 p1) (fun v2 =>
 ifb (decide (v2 < (0:Int))) (
 k_fin (List.replicate 32 (V.sc (.int .u8 (0:Int)))++[(V.sl 5 ([]:List (List V))),(V.sl 5 ([]:List (List V)))]) (9:Int)) (
 chk (0+34≤(List.length p0)) (
 xj β L (List.map V.dem (List.take 34 p0)) (fun v3 v4 v5 v6 v7 v8 v9 v10 v11 v12 v13 v14 v15 v16 v17 v18 v19 v20 v21 v22 v23 v24 v25 v26 v27 v28 v29 v30 v31 v32 v33 v34 v35 v36 v37 v38 =>
 chk (0≤v2∧v2 < ((v35:Nat):Int)) (
 chk ((0+((Int.toNat v2) * 5))+5≤(List.length v37)) (
 chk ((List.length (List.take 5 (List.drop (0+((Int.toNat v2) * 5)) v37)))=5∧0+5≤5) (
 lt (yk [(V.sc (.int .i64 (0:Int))),(V.sc (.int .u32 (0:Int))),(V.sc (.int .u16 (0:Int))),(V.sc (.int .u32 (0:Int))),(V.sc (.int .u32 (0:Int)))] 0 (List.take 5 (List.drop (0+((Int.toNat v2) * 5)) v37))) fun r39 =>
 ifb (List.isEmpty v37) (
 xh β L (zp 5 v35 v37) v2 (fun v40 =>
 chk (0+32≤(List.length p0)) (
 chk (1+3≤(List.length r39)) (
 zi β L (List.take 32 p0) (List.take 3 (List.drop 1 r39)) (fun v41 =>
 chk (1=1∧0+1≤(List.length r39)) (
 lt (yk r39 0 [(V.sc (.int .i64 v41))]) fun r42 =>
 cI .i64 r42 0 fun v43 =>
 ifb (List.isEmpty v38) (
 zh β L (zp 5 v36 v38) v43 (fun v44 v45 =>
 lt (IntKind.wrap .i64 ((v45:Int) - v44)) fun x46 =>
 ifb (decide (x46 ≥ (8:Int))) (
 chk (0≤v44∧v44 < ((v36:Nat):Int)) (
 chk (((0+((Int.toNat v44) * 5))+1)+3≤(List.length v38)) (
 chk ((List.length (List.take 3 (List.drop ((0+((Int.toNat v44) * 5))+1) v38)))=3∧0+3≤3) (
 lt (yk [(V.sc (.int .u32 (0:Int))),(V.sc (.int .u16 (0:Int))),(V.sc (.int .u32 (0:Int)))] 0 (List.take 3 (List.drop ((0+((Int.toNat v44) * 5))+1) v38))) fun r47 =>
 ifb (List.isEmpty v38) (
 xh β L (zp 5 v36 v38) v44 (fun v48 =>
 chk (0+5≤(List.length r42)) (
 xg β L v48 (List.take 5 r42) (fun v49 =>
 ifb (decide (x46 ≥ (8:Int))) (
 chk (0+3≤(List.length r47)) (
 chk (0+3≤(List.length r47)) (
 yi β L (List.take 3 r47) (fun v50 =>
 zG β L [(V.sc (.int .u8 v3)),(V.sc (.int .u8 v4)),(V.sc (.int .u8 v5)),(V.sc (.int .u8 v6)),(V.sc (.int .u8 v7)),(V.sc (.int .u8 v8)),(V.sc (.int .u8 v9)),(V.sc (.int .u8 v10)),(V.sc (.int .u8 v11)),(V.sc (.int .u8 v12)),(V.sc (.int .u8 v13)),(V.sc (.int .u8 v14)),(V.sc (.int .u8 v15)),(V.sc (.int .u8 v16)),(V.sc (.int .u8 v17)),(V.sc (.int .u8 v18)),(V.sc (.int .u8 v19)),(V.sc (.int .u8 v20)),(V.sc (.int .u8 v21)),(V.sc (.int .u8 v22)),(V.sc (.int .u8 v23)),(V.sc (.int .u8 v24)),(V.sc (.int .u8 v25)),(V.sc (.int .u8 v26)),(V.sc (.int .u8 v27)),(V.sc (.int .u8 v28)),(V.sc (.int .u8 v29)),(V.sc (.int .u8 v30)),(V.sc (.int .u8 v31)),(V.sc (.int .u8 v32)),(V.sc (.int .u8 v33)),(V.sc (.int .u8 v34)),(V.sl 5 v40),(V.sl 5 v49)] (List.take 3 r47) v50 (fun v51 v52 =>
 chk (List.length v51=34) (
 cI .u8 v51 0 fun v53 =>
 cI .u8 v51 1 fun v54 =>
 cI .u8 v51 2 fun v55 =>
 cI .u8 v51 3 fun v56 =>
 cI .u8 v51 4 fun v57 =>
 cI .u8 v51 5 fun v58 =>
 cI .u8 v51 6 fun v59 =>
 cI .u8 v51 7 fun v60 =>
 cI .u8 v51 8 fun v61 =>
 cI .u8 v51 9 fun v62 =>
 cI .u8 v51 10 fun v63 =>
 cI .u8 v51 11 fun v64 =>
 cI .u8 v51 12 fun v65 =>
 cI .u8 v51 13 fun v66 =>
 cI .u8 v51 14 fun v67 =>
 cI .u8 v51 15 fun v68 =>
 cI .u8 v51 16 fun v69 =>
 cI .u8 v51 17 fun v70 =>
 cI .u8 v51 18 fun v71 =>
 cI .u8 v51 19 fun v72 =>
 cI .u8 v51 20 fun v73 =>
 cI .u8 v51 21 fun v74 =>
 cI .u8 v51 22 fun v75 =>
 cI .u8 v51 23 fun v76 =>
 cI .u8 v51 24 fun v77 =>
 cI .u8 v51 25 fun v78 =>
 cI .u8 v51 26 fun v79 =>
 cI .u8 v51 27 fun v80 =>
 cI .u8 v51 28 fun v81 =>
 cI .u8 v51 29 fun v82 =>
 cI .u8 v51 30 fun v83 =>
 cI .u8 v51 31 fun v84 =>
 cL 5 v51 32 fun v85 =>
 cL 5 v51 33 fun v86 =>
 k_fin [(V.sc (.int .u8 v53)),(V.sc (.int .u8 v54)),(V.sc (.int .u8 v55)),(V.sc (.int .u8 v56)),(V.sc (.int .u8 v57)),(V.sc (.int .u8 v58)),(V.sc (.int .u8 v59)),(V.sc (.int .u8 v60)),(V.sc (.int .u8 v61)),(V.sc (.int .u8 v62)),(V.sc (.int .u8 v63)),(V.sc (.int .u8 v64)),(V.sc (.int .u8 v65)),(V.sc (.int .u8 v66)),(V.sc (.int .u8 v67)),(V.sc (.int .u8 v68)),(V.sc (.int .u8 v69)),(V.sc (.int .u8 v70)),(V.sc (.int .u8 v71)),(V.sc (.int .u8 v72)),(V.sc (.int .u8 v73)),(V.sc (.int .u8 v74)),(V.sc (.int .u8 v75)),(V.sc (.int .u8 v76)),(V.sc (.int .u8 v77)),(V.sc (.int .u8 v78)),(V.sc (.int .u8 v79)),(V.sc (.int .u8 v80)),(V.sc (.int .u8 v81)),(V.sc (.int .u8 v82)),(V.sc (.int .u8 v83)),(V.sc (.int .u8 v84)),(V.sl 5 v85),(V.sl 5 v86)] (0:Int))))))) (
 k_fin [(V.sc (.int .u8 v3)),(V.sc (.int .u8 v4)),(V.sc (.int .u8 v5)),(V.sc (.int .u8 v6)),(V.sc (.int .u8 v7)),(V.sc (.int .u8 v8)),(V.sc (.int .u8 v9)),(V.sc (.int .u8 v10)),(V.sc (.int .u8 v11)),(V.sc (.int .u8 v12)),(V.sc (.int .u8 v13)),(V.sc (.int .u8 v14)),(V.sc (.int .u8 v15)),(V.sc (.int .u8 v16)),(V.sc (.int .u8 v17)),(V.sc (.int .u8 v18)),(V.sc (.int .u8 v19)),(V.sc (.int .u8 v20)),(V.sc (.int .u8 v21)),(V.sc (.int .u8 v22)),(V.sc (.int .u8 v23)),(V.sc (.int .u8 v24)),(V.sc (.int .u8 v25)),(V.sc (.int .u8 v26)),(V.sc (.int .u8 v27)),(V.sc (.int .u8 v28)),(V.sc (.int .u8 v29)),(V.sc (.int .u8 v30)),(V.sc (.int .u8 v31)),(V.sc (.int .u8 v32)),(V.sc (.int .u8 v33)),(V.sc (.int .u8 v34)),(V.sl 5 v40),(V.sl 5 v49)] (0:Int)))))) (
 xh β L (zp 5 v36 v38) v44 (fun v87 =>
 chk (0+5≤(List.length r42)) (
 xg β L v87 (List.take 5 r42) (fun v88 =>
 ifb (decide (x46 ≥ (8:Int))) (
 chk (0+3≤(List.length r47)) (
 chk (0+3≤(List.length r47)) (
 yi β L (List.take 3 r47) (fun v89 =>
 zG β L [(V.sc (.int .u8 v3)),(V.sc (.int .u8 v4)),(V.sc (.int .u8 v5)),(V.sc (.int .u8 v6)),(V.sc (.int .u8 v7)),(V.sc (.int .u8 v8)),(V.sc (.int .u8 v9)),(V.sc (.int .u8 v10)),(V.sc (.int .u8 v11)),(V.sc (.int .u8 v12)),(V.sc (.int .u8 v13)),(V.sc (.int .u8 v14)),(V.sc (.int .u8 v15)),(V.sc (.int .u8 v16)),(V.sc (.int .u8 v17)),(V.sc (.int .u8 v18)),(V.sc (.int .u8 v19)),(V.sc (.int .u8 v20)),(V.sc (.int .u8 v21)),(V.sc (.int .u8 v22)),(V.sc (.int .u8 v23)),(V.sc (.int .u8 v24)),(V.sc (.int .u8 v25)),(V.sc (.int .u8 v26)),(V.sc (.int .u8 v27)),(V.sc (.int .u8 v28)),(V.sc (.int .u8 v29)),(V.sc (.int .u8 v30)),(V.sc (.int .u8 v31)),(V.sc (.int .u8 v32)),(V.sc (.int .u8 v33)),(V.sc (.int .u8 v34)),(V.sl 5 v40),(V.sl 5 v88)] (List.take 3 r47) v89 (fun v90 v91 =>
 chk (List.length v90=34) (
 cI .u8 v90 0 fun v92 =>
 cI .u8 v90 1 fun v93 =>
 cI .u8 v90 2 fun v94 =>
 cI .u8 v90 3 fun v95 =>
 cI .u8 v90 4 fun v96 =>
 cI .u8 v90 5 fun v97 =>
 cI .u8 v90 6 fun v98 =>
 cI .u8 v90 7 fun v99 =>
 cI .u8 v90 8 fun zPF =>
 cI .u8 v90 9 fun zPG =>
 cI .u8 v90 10 fun zPH =>
 cI .u8 v90 11 fun zPI =>
 cI .u8 v90 12 fun zPJ =>
 cI .u8 v90 13 fun zPK =>
 cI .u8 v90 14 fun zPL =>
 cI .u8 v90 15 fun zPM =>
 cI .u8 v90 16 fun zPN =>
 cI .u8 v90 17 fun zPO =>
 cI .u8 v90 18 fun zPP =>
 cI .u8 v90 19 fun zPQ =>
 cI .u8 v90 20 fun zPR =>
 cI .u8 v90 21 fun zPS =>
 cI .u8 v90 22 fun zPT =>
 cI .u8 v90 23 fun zPU =>
 cI .u8 v90 24 fun zPV =>
 cI .u8 v90 25 fun zPW =>
 cI .u8 v90 26 fun zPX =>
 cI .u8 v90 27 fun zPY =>
 cI .u8 v90 28 fun zPZ =>
 cI .u8 v90 29 fun zP0 =>
 cI .u8 v90 30 fun zP1 =>
 cI .u8 v90 31 fun zP2 =>
 cL 5 v90 32 fun zP3 =>
 cL 5 v90 33 fun zP4 =>
 k_fin [(V.sc (.int .u8 v92)),(V.sc (.int .u8 v93)),(V.sc (.int .u8 v94)),(V.sc (.int .u8 v95)),(V.sc (.int .u8 v96)),(V.sc (.int .u8 v97)),(V.sc (.int .u8 v98)),(V.sc (.int .u8 v99)),(V.sc (.int .u8 zPF)),(V.sc (.int .u8 zPG)),(V.sc (.int .u8 zPH)),(V.sc (.int .u8 zPI)),(V.sc (.int .u8 zPJ)),(V.sc (.int .u8 zPK)),(V.sc (.int .u8 zPL)),(V.sc (.int .u8 zPM)),(V.sc (.int .u8 zPN)),(V.sc (.int .u8 zPO)),(V.sc (.int .u8 zPP)),(V.sc (.int .u8 zPQ)),(V.sc (.int .u8 zPR)),(V.sc (.int .u8 zPS)),(V.sc (.int .u8 zPT)),(V.sc (.int .u8 zPU)),(V.sc (.int .u8 zPV)),(V.sc (.int .u8 zPW)),(V.sc (.int .u8 zPX)),(V.sc (.int .u8 zPY)),(V.sc (.int .u8 zPZ)),(V.sc (.int .u8 zP0)),(V.sc (.int .u8 zP1)),(V.sc (.int .u8 zP2)),(V.sl 5 zP3),(V.sl 5 zP4)] (0:Int))))))) (
 k_fin [(V.sc (.int .u8 v3)),(V.sc (.int .u8 v4)),(V.sc (.int .u8 v5)),(V.sc (.int .u8 v6)),(V.sc (.int .u8 v7)),(V.sc (.int .u8 v8)),(V.sc (.int .u8 v9)),(V.sc (.int .u8 v10)),(V.sc (.int .u8 v11)),(V.sc (.int .u8 v12)),(V.sc (.int .u8 v13)),(V.sc (.int .u8 v14)),(V.sc (.int .u8 v15)),(V.sc (.int .u8 v16)),(V.sc (.int .u8 v17)),(V.sc (.int .u8 v18)),(V.sc (.int .u8 v19)),(V.sc (.int .u8 v20)),(V.sc (.int .u8 v21)),(V.sc (.int .u8 v22)),(V.sc (.int .u8 v23)),(V.sc (.int .u8 v24)),(V.sc (.int .u8 v25)),(V.sc (.int .u8 v26)),(V.sc (.int .u8 v27)),(V.sc (.int .u8 v28)),(V.sc (.int .u8 v29)),(V.sc (.int .u8 v30)),(V.sc (.int .u8 v31)),(V.sc (.int .u8 v32)),(V.sc (.int .u8 v33)),(V.sc (.int .u8 v34)),(V.sl 5 v40),(V.sl 5 v88)] (0:Int)))))))))) (
 chk (0+5≤(List.length r42)) (
 ifb (List.isEmpty v38) (
 xg β L (zp 5 v36 v38) (List.take 5 r42) (fun zPu =>
 ifb (decide (x46 ≥ (8:Int))) (
 yi β L [(V.sc (.int .u32 (0:Int))),(V.sc (.int .u16 (0:Int))),(V.sc (.int .u32 (0:Int)))] (fun zP5 =>
 zG β L [(V.sc (.int .u8 v3)),(V.sc (.int .u8 v4)),(V.sc (.int .u8 v5)),(V.sc (.int .u8 v6)),(V.sc (.int .u8 v7)),(V.sc (.int .u8 v8)),(V.sc (.int .u8 v9)),(V.sc (.int .u8 v10)),(V.sc (.int .u8 v11)),(V.sc (.int .u8 v12)),(V.sc (.int .u8 v13)),(V.sc (.int .u8 v14)),(V.sc (.int .u8 v15)),(V.sc (.int .u8 v16)),(V.sc (.int .u8 v17)),(V.sc (.int .u8 v18)),(V.sc (.int .u8 v19)),(V.sc (.int .u8 v20)),(V.sc (.int .u8 v21)),(V.sc (.int .u8 v22)),(V.sc (.int .u8 v23)),(V.sc (.int .u8 v24)),(V.sc (.int .u8 v25)),(V.sc (.int .u8 v26)),(V.sc (.int .u8 v27)),(V.sc (.int .u8 v28)),(V.sc (.int .u8 v29)),(V.sc (.int .u8 v30)),(V.sc (.int .u8 v31)),(V.sc (.int .u8 v32)),(V.sc (.int .u8 v33)),(V.sc (.int .u8 v34)),(V.sl 5 v40),(V.sl 5 zPu)] [(V.sc (.int .u32 (0:Int))),(V.sc (.int .u16 (0:Int))),(V.sc (.int .u32 (0:Int)))] zP5 (fun zOD zVR =>
 chk (List.length zOD=34) (
 cI .u8 zOD 0 fun zP6 =>
 cI .u8 zOD 1 fun zP7 =>
 cI .u8 zOD 2 fun zP8 =>
 cI .u8 zOD 3 fun zP9 =>
 cI .u8 zOD 4 fun zQa =>
 cI .u8 zOD 5 fun zQb =>
 cI .u8 zOD 6 fun zQc =>
 cI .u8 zOD 7 fun zQd =>
 cI .u8 zOD 8 fun zQe =>
 cI .u8 zOD 9 fun zQf =>
 cI .u8 zOD 10 fun zQg =>
 cI .u8 zOD 11 fun zQh =>
 cI .u8 zOD 12 fun zQi =>
 cI .u8 zOD 13 fun zQj =>
 cI .u8 zOD 14 fun zQk =>
 cI .u8 zOD 15 fun zQl =>
 cI .u8 zOD 16 fun zQm =>
 cI .u8 zOD 17 fun zQn =>
 cI .u8 zOD 18 fun zQo =>
 cI .u8 zOD 19 fun zQp =>
 cI .u8 zOD 20 fun zQq =>
 cI .u8 zOD 21 fun zQr =>
 cI .u8 zOD 22 fun zQs =>
 cI .u8 zOD 23 fun zQt =>
 cI .u8 zOD 24 fun zQu =>
 cI .u8 zOD 25 fun zQv =>
 cI .u8 zOD 26 fun zQw =>
 cI .u8 zOD 27 fun zQx =>
 cI .u8 zOD 28 fun zQy =>
 cI .u8 zOD 29 fun zQz =>
 cI .u8 zOD 30 fun zQA =>
 cI .u8 zOD 31 fun zQB =>
 cL 5 zOD 32 fun zQC =>
 cL 5 zOD 33 fun zQD =>
 k_fin [(V.sc (.int .u8 zP6)),(V.sc (.int .u8 zP7)),(V.sc (.int .u8 zP8)),(V.sc (.int .u8 zP9)),(V.sc (.int .u8 zQa)),(V.sc (.int .u8 zQb)),(V.sc (.int .u8 zQc)),(V.sc (.int .u8 zQd)),(V.sc (.int .u8 zQe)),(V.sc (.int .u8 zQf)),(V.sc (.int .u8 zQg)),(V.sc (.int .u8 zQh)),(V.sc (.int .u8 zQi)),(V.sc (.int .u8 zQj)),(V.sc (.int .u8 zQk)),(V.sc (.int .u8 zQl)),(V.sc (.int .u8 zQm)),(V.sc (.int .u8 zQn)),(V.sc (.int .u8 zQo)),(V.sc (.int .u8 zQp)),(V.sc (.int .u8 zQq)),(V.sc (.int .u8 zQr)),(V.sc (.int .u8 zQs)),(V.sc (.int .u8 zQt)),(V.sc (.int .u8 zQu)),(V.sc (.int .u8 zQv)),(V.sc (.int .u8 zQw)),(V.sc (.int .u8 zQx)),(V.sc (.int .u8 zQy)),(V.sc (.int .u8 zQz)),(V.sc (.int .u8 zQA)),(V.sc (.int .u8 zQB)),(V.sl 5 zQC),(V.sl 5 zQD)] (0:Int))))) (
 k_fin [(V.sc (.int .u8 v3)),(V.sc (.int .u8 v4)),(V.sc (.int .u8 v5)),(V.sc (.int .u8 v6)),(V.sc (.int .u8 v7)),(V.sc (.int .u8 v8)),(V.sc (.int .u8 v9)),(V.sc (.int .u8 v10)),(V.sc (.int .u8 v11)),(V.sc (.int .u8 v12)),(V.sc (.int .u8 v13)),(V.sc (.int .u8 v14)),(V.sc (.int .u8 v15)),(V.sc (.int .u8 v16)),(V.sc (.int .u8 v17)),(V.sc (.int .u8 v18)),(V.sc (.int .u8 v19)),(V.sc (.int .u8 v20)),(V.sc (.int .u8 v21)),(V.sc (.int .u8 v22)),(V.sc (.int .u8 v23)),(V.sc (.int .u8 v24)),(V.sc (.int .u8 v25)),(V.sc (.int .u8 v26)),(V.sc (.int .u8 v27)),(V.sc (.int .u8 v28)),(V.sc (.int .u8 v29)),(V.sc (.int .u8 v30)),(V.sc (.int .u8 v31)),(V.sc (.int .u8 v32)),(V.sc (.int .u8 v33)),(V.sc (.int .u8 v34)),(V.sl 5 v40),(V.sl 5 zPu)] (0:Int)))) (
 xg β L (zp 5 v36 v38) (List.take 5 r42) (fun zPv =>
 ifb (decide (x46 ≥ (8:Int))) (
 yi β L [(V.sc (.int .u32 (0:Int))),(V.sc (.int .u16 (0:Int))),(V.sc (.int .u32 (0:Int)))] (fun zQE =>
 zG β L [(V.sc (.int .u8 v3)),(V.sc (.int .u8 v4)),(V.sc (.int .u8 v5)),(V.sc (.int .u8 v6)),(V.sc (.int .u8 v7)),(V.sc (.int .u8 v8)),(V.sc (.int .u8 v9)),(V.sc (.int .u8 v10)),(V.sc (.int .u8 v11)),(V.sc (.int .u8 v12)),(V.sc (.int .u8 v13)),(V.sc (.int .u8 v14)),(V.sc (.int .u8 v15)),(V.sc (.int .u8 v16)),(V.sc (.int .u8 v17)),(V.sc (.int .u8 v18)),(V.sc (.int .u8 v19)),(V.sc (.int .u8 v20)),(V.sc (.int .u8 v21)),(V.sc (.int .u8 v22)),(V.sc (.int .u8 v23)),(V.sc (.int .u8 v24)),(V.sc (.int .u8 v25)),(V.sc (.int .u8 v26)),(V.sc (.int .u8 v27)),(V.sc (.int .u8 v28)),(V.sc (.int .u8 v29)),(V.sc (.int .u8 v30)),(V.sc (.int .u8 v31)),(V.sc (.int .u8 v32)),(V.sc (.int .u8 v33)),(V.sc (.int .u8 v34)),(V.sl 5 v40),(V.sl 5 zPv)] [(V.sc (.int .u32 (0:Int))),(V.sc (.int .u16 (0:Int))),(V.sc (.int .u32 (0:Int)))] zQE (fun zOE zVS =>
 chk (List.length zOE=34) (
 cI .u8 zOE 0 fun zQF =>
 cI .u8 zOE 1 fun zQG =>
 cI .u8 zOE 2 fun zQH =>
 cI .u8 zOE 3 fun zQI =>
 cI .u8 zOE 4 fun zQJ =>
 cI .u8 zOE 5 fun zQK =>
 cI .u8 zOE 6 fun zQL =>
 cI .u8 zOE 7 fun zQM =>
 cI .u8 zOE 8 fun zQN =>
 cI .u8 zOE 9 fun zQO =>
 cI .u8 zOE 10 fun zQP =>
 cI .u8 zOE 11 fun zQQ =>
 cI .u8 zOE 12 fun zQR =>
 cI .u8 zOE 13 fun zQS =>
 cI .u8 zOE 14 fun zQT =>
 cI .u8 zOE 15 fun zQU =>
 cI .u8 zOE 16 fun zQV =>
 cI .u8 zOE 17 fun zQW =>
 cI .u8 zOE 18 fun zQX =>
 cI .u8 zOE 19 fun zQY =>
 cI .u8 zOE 20 fun zQZ =>
 cI .u8 zOE 21 fun zQ0 =>
 cI .u8 zOE 22 fun zQ1 =>
 cI .u8 zOE 23 fun zQ2 =>
 cI .u8 zOE 24 fun zQ3 =>
 cI .u8 zOE 25 fun zQ4 =>
 cI .u8 zOE 26 fun zQ5 =>
 cI .u8 zOE 27 fun zQ6 =>
 cI .u8 zOE 28 fun zQ7 =>
 cI .u8 zOE 29 fun zQ8 =>
 cI .u8 zOE 30 fun zQ9 =>
 cI .u8 zOE 31 fun zRa =>
 cL 5 zOE 32 fun zRb =>
 cL 5 zOE 33 fun zRc =>
 k_fin [(V.sc (.int .u8 zQF)),(V.sc (.int .u8 zQG)),(V.sc (.int .u8 zQH)),(V.sc (.int .u8 zQI)),(V.sc (.int .u8 zQJ)),(V.sc (.int .u8 zQK)),(V.sc (.int .u8 zQL)),(V.sc (.int .u8 zQM)),(V.sc (.int .u8 zQN)),(V.sc (.int .u8 zQO)),(V.sc (.int .u8 zQP)),(V.sc (.int .u8 zQQ)),(V.sc (.int .u8 zQR)),(V.sc (.int .u8 zQS)),(V.sc (.int .u8 zQT)),(V.sc (.int .u8 zQU)),(V.sc (.int .u8 zQV)),(V.sc (.int .u8 zQW)),(V.sc (.int .u8 zQX)),(V.sc (.int .u8 zQY)),(V.sc (.int .u8 zQZ)),(V.sc (.int .u8 zQ0)),(V.sc (.int .u8 zQ1)),(V.sc (.int .u8 zQ2)),(V.sc (.int .u8 zQ3)),(V.sc (.int .u8 zQ4)),(V.sc (.int .u8 zQ5)),(V.sc (.int .u8 zQ6)),(V.sc (.int .u8 zQ7)),(V.sc (.int .u8 zQ8)),(V.sc (.int .u8 zQ9)),(V.sc (.int .u8 zRa)),(V.sl 5 zRb),(V.sl 5 zRc)] (0:Int))))) (
 k_fin [(V.sc (.int .u8 v3)),(V.sc (.int .u8 v4)),(V.sc (.int .u8 v5)),(V.sc (.int .u8 v6)),(V.sc (.int .u8 v7)),(V.sc (.int .u8 v8)),(V.sc (.int .u8 v9)),(V.sc (.int .u8 v10)),(V.sc (.int .u8 v11)),(V.sc (.int .u8 v12)),(V.sc (.int .u8 v13)),(V.sc (.int .u8 v14)),(V.sc (.int .u8 v15)),(V.sc (.int .u8 v16)),(V.sc (.int .u8 v17)),(V.sc (.int .u8 v18)),(V.sc (.int .u8 v19)),(V.sc (.int .u8 v20)),(V.sc (.int .u8 v21)),(V.sc (.int .u8 v22)),(V.sc (.int .u8 v23)),(V.sc (.int .u8 v24)),(V.sc (.int .u8 v25)),(V.sc (.int .u8 v26)),(V.sc (.int .u8 v27)),(V.sc (.int .u8 v28)),(V.sc (.int .u8 v29)),(V.sc (.int .u8 v30)),(V.sc (.int .u8 v31)),(V.sc (.int .u8 v32)),(V.sc (.int .u8 v33)),(V.sc (.int .u8 v34)),(V.sl 5 v40),(V.sl 5 zPv)] (0:Int)))))))) (
 zh β L (zp 5 v36 v38) v43 (fun zOS zRd =>
 lt (IntKind.wrap .i64 ((zRd:Int) - zOS)) fun zPs =>
 ifb (decide (zPs ≥ (8:Int))) (
 chk (0≤zOS∧zOS < ((v36:Nat):Int)) (
 chk (((0+((Int.toNat zOS) * 5))+1)+3≤(List.length v38)) (
 chk ((List.length (List.take 3 (List.drop ((0+((Int.toNat zOS) * 5))+1) v38)))=3∧0+3≤3) (
 lt (yk [(V.sc (.int .u32 (0:Int))),(V.sc (.int .u16 (0:Int))),(V.sc (.int .u32 (0:Int)))] 0 (List.take 3 (List.drop ((0+((Int.toNat zOS) * 5))+1) v38))) fun zPj =>
 xh β L (zp 5 v36 v38) zOS (fun zRe =>
 chk (0+5≤(List.length r42)) (
 xg β L zRe (List.take 5 r42) (fun zPw =>
 ifb (decide (zPs ≥ (8:Int))) (
 chk (0+3≤(List.length zPj)) (
 chk (0+3≤(List.length zPj)) (
 yi β L (List.take 3 zPj) (fun zRf =>
 zG β L [(V.sc (.int .u8 v3)),(V.sc (.int .u8 v4)),(V.sc (.int .u8 v5)),(V.sc (.int .u8 v6)),(V.sc (.int .u8 v7)),(V.sc (.int .u8 v8)),(V.sc (.int .u8 v9)),(V.sc (.int .u8 v10)),(V.sc (.int .u8 v11)),(V.sc (.int .u8 v12)),(V.sc (.int .u8 v13)),(V.sc (.int .u8 v14)),(V.sc (.int .u8 v15)),(V.sc (.int .u8 v16)),(V.sc (.int .u8 v17)),(V.sc (.int .u8 v18)),(V.sc (.int .u8 v19)),(V.sc (.int .u8 v20)),(V.sc (.int .u8 v21)),(V.sc (.int .u8 v22)),(V.sc (.int .u8 v23)),(V.sc (.int .u8 v24)),(V.sc (.int .u8 v25)),(V.sc (.int .u8 v26)),(V.sc (.int .u8 v27)),(V.sc (.int .u8 v28)),(V.sc (.int .u8 v29)),(V.sc (.int .u8 v30)),(V.sc (.int .u8 v31)),(V.sc (.int .u8 v32)),(V.sc (.int .u8 v33)),(V.sc (.int .u8 v34)),(V.sl 5 v40),(V.sl 5 zPw)] (List.take 3 zPj) zRf (fun zOF zVT =>
 chk (List.length zOF=34) (
 cI .u8 zOF 0 fun zRg =>
 cI .u8 zOF 1 fun zRh =>
 cI .u8 zOF 2 fun zRi =>
 cI .u8 zOF 3 fun zRj =>
 cI .u8 zOF 4 fun zRk =>
 cI .u8 zOF 5 fun zRl =>
 cI .u8 zOF 6 fun zRm =>
 cI .u8 zOF 7 fun zRn =>
 cI .u8 zOF 8 fun zRo =>
 cI .u8 zOF 9 fun zRp =>
 cI .u8 zOF 10 fun zRq =>
 cI .u8 zOF 11 fun zRr =>
 cI .u8 zOF 12 fun zRs =>
 cI .u8 zOF 13 fun zRt =>
 cI .u8 zOF 14 fun zRu =>
 cI .u8 zOF 15 fun zRv =>
 cI .u8 zOF 16 fun zRw =>
 cI .u8 zOF 17 fun zRx =>
 cI .u8 zOF 18 fun zRy =>
 cI .u8 zOF 19 fun zRz =>
 cI .u8 zOF 20 fun zRA =>
 cI .u8 zOF 21 fun zRB =>
 cI .u8 zOF 22 fun zRC =>
 cI .u8 zOF 23 fun zRD =>
 cI .u8 zOF 24 fun zRE =>
 cI .u8 zOF 25 fun zRF =>
 cI .u8 zOF 26 fun zRG =>
 cI .u8 zOF 27 fun zRH =>
 cI .u8 zOF 28 fun zRI =>
 cI .u8 zOF 29 fun zRJ =>
 cI .u8 zOF 30 fun zRK =>
 cI .u8 zOF 31 fun zRL =>
 cL 5 zOF 32 fun zRM =>
 cL 5 zOF 33 fun zRN =>
 k_fin [(V.sc (.int .u8 zRg)),(V.sc (.int .u8 zRh)),(V.sc (.int .u8 zRi)),(V.sc (.int .u8 zRj)),(V.sc (.int .u8 zRk)),(V.sc (.int .u8 zRl)),(V.sc (.int .u8 zRm)),(V.sc (.int .u8 zRn)),(V.sc (.int .u8 zRo)),(V.sc (.int .u8 zRp)),(V.sc (.int .u8 zRq)),(V.sc (.int .u8 zRr)),(V.sc (.int .u8 zRs)),(V.sc (.int .u8 zRt)),(V.sc (.int .u8 zRu)),(V.sc (.int .u8 zRv)),(V.sc (.int .u8 zRw)),(V.sc (.int .u8 zRx)),(V.sc (.int .u8 zRy)),(V.sc (.int .u8 zRz)),(V.sc (.int .u8 zRA)),(V.sc (.int .u8 zRB)),(V.sc (.int .u8 zRC)),(V.sc (.int .u8 zRD)),(V.sc (.int .u8 zRE)),(V.sc (.int .u8 zRF)),(V.sc (.int .u8 zRG)),(V.sc (.int .u8 zRH)),(V.sc (.int .u8 zRI)),(V.sc (.int .u8 zRJ)),(V.sc (.int .u8 zRK)),(V.sc (.int .u8 zRL)),(V.sl 5 zRM),(V.sl 5 zRN)] (0:Int))))))) (
 k_fin [(V.sc (.int .u8 v3)),(V.sc (.int .u8 v4)),(V.sc (.int .u8 v5)),(V.sc (.int .u8 v6)),(V.sc (.int .u8 v7)),(V.sc (.int .u8 v8)),(V.sc (.int .u8 v9)),(V.sc (.int .u8 v10)),(V.sc (.int .u8 v11)),(V.sc (.int .u8 v12)),(V.sc (.int .u8 v13)),(V.sc (.int .u8 v14)),(V.sc (.int .u8 v15)),(V.sc (.int .u8 v16)),(V.sc (.int .u8 v17)),(V.sc (.int .u8 v18)),(V.sc (.int .u8 v19)),(V.sc (.int .u8 v20)),(V.sc (.int .u8 v21)),(V.sc (.int .u8 v22)),(V.sc (.int .u8 v23)),(V.sc (.int .u8 v24)),(V.sc (.int .u8 v25)),(V.sc (.int .u8 v26)),(V.sc (.int .u8 v27)),(V.sc (.int .u8 v28)),(V.sc (.int .u8 v29)),(V.sc (.int .u8 v30)),(V.sc (.int .u8 v31)),(V.sc (.int .u8 v32)),(V.sc (.int .u8 v33)),(V.sc (.int .u8 v34)),(V.sl 5 v40),(V.sl 5 zPw)] (0:Int))))))))) (
 chk (0+5≤(List.length r42)) (
 xg β L (zp 5 v36 v38) (List.take 5 r42) (fun zPx =>
 ifb (decide (zPs ≥ (8:Int))) (
 yi β L [(V.sc (.int .u32 (0:Int))),(V.sc (.int .u16 (0:Int))),(V.sc (.int .u32 (0:Int)))] (fun zRO =>
 zG β L [(V.sc (.int .u8 v3)),(V.sc (.int .u8 v4)),(V.sc (.int .u8 v5)),(V.sc (.int .u8 v6)),(V.sc (.int .u8 v7)),(V.sc (.int .u8 v8)),(V.sc (.int .u8 v9)),(V.sc (.int .u8 v10)),(V.sc (.int .u8 v11)),(V.sc (.int .u8 v12)),(V.sc (.int .u8 v13)),(V.sc (.int .u8 v14)),(V.sc (.int .u8 v15)),(V.sc (.int .u8 v16)),(V.sc (.int .u8 v17)),(V.sc (.int .u8 v18)),(V.sc (.int .u8 v19)),(V.sc (.int .u8 v20)),(V.sc (.int .u8 v21)),(V.sc (.int .u8 v22)),(V.sc (.int .u8 v23)),(V.sc (.int .u8 v24)),(V.sc (.int .u8 v25)),(V.sc (.int .u8 v26)),(V.sc (.int .u8 v27)),(V.sc (.int .u8 v28)),(V.sc (.int .u8 v29)),(V.sc (.int .u8 v30)),(V.sc (.int .u8 v31)),(V.sc (.int .u8 v32)),(V.sc (.int .u8 v33)),(V.sc (.int .u8 v34)),(V.sl 5 v40),(V.sl 5 zPx)] [(V.sc (.int .u32 (0:Int))),(V.sc (.int .u16 (0:Int))),(V.sc (.int .u32 (0:Int)))] zRO (fun zOG zVU =>
 chk (List.length zOG=34) (
 cI .u8 zOG 0 fun zRP =>
 cI .u8 zOG 1 fun zRQ =>
 cI .u8 zOG 2 fun zRR =>
 cI .u8 zOG 3 fun zRS =>
 cI .u8 zOG 4 fun zRT =>
 cI .u8 zOG 5 fun zRU =>
 cI .u8 zOG 6 fun zRV =>
 cI .u8 zOG 7 fun zRW =>
 cI .u8 zOG 8 fun zRX =>
 cI .u8 zOG 9 fun zRY =>
 cI .u8 zOG 10 fun zRZ =>
 cI .u8 zOG 11 fun zR0 =>
 cI .u8 zOG 12 fun zR1 =>
 cI .u8 zOG 13 fun zR2 =>
 cI .u8 zOG 14 fun zR3 =>
 cI .u8 zOG 15 fun zR4 =>
 cI .u8 zOG 16 fun zR5 =>
 cI .u8 zOG 17 fun zR6 =>
 cI .u8 zOG 18 fun zR7 =>
 cI .u8 zOG 19 fun zR8 =>
 cI .u8 zOG 20 fun zR9 =>
 cI .u8 zOG 21 fun zSa =>
 cI .u8 zOG 22 fun zSb =>
 cI .u8 zOG 23 fun zSc =>
 cI .u8 zOG 24 fun zSd =>
 cI .u8 zOG 25 fun zSe =>
 cI .u8 zOG 26 fun zSf =>
 cI .u8 zOG 27 fun zSg =>
 cI .u8 zOG 28 fun zSh =>
 cI .u8 zOG 29 fun zSi =>
 cI .u8 zOG 30 fun zSj =>
 cI .u8 zOG 31 fun zSk =>
 cL 5 zOG 32 fun zSl =>
 cL 5 zOG 33 fun zSm =>
 k_fin [(V.sc (.int .u8 zRP)),(V.sc (.int .u8 zRQ)),(V.sc (.int .u8 zRR)),(V.sc (.int .u8 zRS)),(V.sc (.int .u8 zRT)),(V.sc (.int .u8 zRU)),(V.sc (.int .u8 zRV)),(V.sc (.int .u8 zRW)),(V.sc (.int .u8 zRX)),(V.sc (.int .u8 zRY)),(V.sc (.int .u8 zRZ)),(V.sc (.int .u8 zR0)),(V.sc (.int .u8 zR1)),(V.sc (.int .u8 zR2)),(V.sc (.int .u8 zR3)),(V.sc (.int .u8 zR4)),(V.sc (.int .u8 zR5)),(V.sc (.int .u8 zR6)),(V.sc (.int .u8 zR7)),(V.sc (.int .u8 zR8)),(V.sc (.int .u8 zR9)),(V.sc (.int .u8 zSa)),(V.sc (.int .u8 zSb)),(V.sc (.int .u8 zSc)),(V.sc (.int .u8 zSd)),(V.sc (.int .u8 zSe)),(V.sc (.int .u8 zSf)),(V.sc (.int .u8 zSg)),(V.sc (.int .u8 zSh)),(V.sc (.int .u8 zSi)),(V.sc (.int .u8 zSj)),(V.sc (.int .u8 zSk)),(V.sl 5 zSl),(V.sl 5 zSm)] (0:Int))))) (
 k_fin [(V.sc (.int .u8 v3)),(V.sc (.int .u8 v4)),(V.sc (.int .u8 v5)),(V.sc (.int .u8 v6)),(V.sc (.int .u8 v7)),(V.sc (.int .u8 v8)),(V.sc (.int .u8 v9)),(V.sc (.int .u8 v10)),(V.sc (.int .u8 v11)),(V.sc (.int .u8 v12)),(V.sc (.int .u8 v13)),(V.sc (.int .u8 v14)),(V.sc (.int .u8 v15)),(V.sc (.int .u8 v16)),(V.sc (.int .u8 v17)),(V.sc (.int .u8 v18)),(V.sc (.int .u8 v19)),(V.sc (.int .u8 v20)),(V.sc (.int .u8 v21)),(V.sc (.int .u8 v22)),(V.sc (.int .u8 v23)),(V.sc (.int .u8 v24)),(V.sc (.int .u8 v25)),(V.sc (.int .u8 v26)),(V.sc (.int .u8 v27)),(V.sc (.int .u8 v28)),(V.sc (.int .u8 v29)),(V.sc (.int .u8 v30)),(V.sc (.int .u8 v31)),(V.sc (.int .u8 v32)),(V.sc (.int .u8 v33)),(V.sc (.int .u8 v34)),(V.sl 5 v40),(V.sl 5 zPx)] (0:Int))))))))))))) (
 xh β L (zp 5 v35 v37) v2 (fun zON =>
 chk (0+32≤(List.length p0)) (
 chk (1+3≤(List.length r39)) (
 zi β L (List.take 32 p0) (List.take 3 (List.drop 1 r39)) (fun zSn =>
 chk (1=1∧0+1≤(List.length r39)) (
 lt (yk r39 0 [(V.sc (.int .i64 zSn))]) fun zOO =>
 cI .i64 zOO 0 fun zPy =>
 ifb (List.isEmpty v38) (
 zh β L (zp 5 v36 v38) zPy (fun zOP zSo =>
 lt (IntKind.wrap .i64 ((zSo:Int) - zOP)) fun zOW =>
 ifb (decide (zOW ≥ (8:Int))) (
 chk (0≤zOP∧zOP < ((v36:Nat):Int)) (
 chk (((0+((Int.toNat zOP) * 5))+1)+3≤(List.length v38)) (
 chk ((List.length (List.take 3 (List.drop ((0+((Int.toNat zOP) * 5))+1) v38)))=3∧0+3≤3) (
 lt (yk [(V.sc (.int .u32 (0:Int))),(V.sc (.int .u16 (0:Int))),(V.sc (.int .u32 (0:Int)))] 0 (List.take 3 (List.drop ((0+((Int.toNat zOP) * 5))+1) v38))) fun zOQ =>
 ifb (List.isEmpty v38) (
 xh β L (zp 5 v36 v38) zOP (fun zSp =>
 chk (0+5≤(List.length zOO)) (
 xg β L zSp (List.take 5 zOO) (fun zPz =>
 ifb (decide (zOW ≥ (8:Int))) (
 chk (0+3≤(List.length zOQ)) (
 chk (0+3≤(List.length zOQ)) (
 yi β L (List.take 3 zOQ) (fun zSq =>
 zG β L [(V.sc (.int .u8 v3)),(V.sc (.int .u8 v4)),(V.sc (.int .u8 v5)),(V.sc (.int .u8 v6)),(V.sc (.int .u8 v7)),(V.sc (.int .u8 v8)),(V.sc (.int .u8 v9)),(V.sc (.int .u8 v10)),(V.sc (.int .u8 v11)),(V.sc (.int .u8 v12)),(V.sc (.int .u8 v13)),(V.sc (.int .u8 v14)),(V.sc (.int .u8 v15)),(V.sc (.int .u8 v16)),(V.sc (.int .u8 v17)),(V.sc (.int .u8 v18)),(V.sc (.int .u8 v19)),(V.sc (.int .u8 v20)),(V.sc (.int .u8 v21)),(V.sc (.int .u8 v22)),(V.sc (.int .u8 v23)),(V.sc (.int .u8 v24)),(V.sc (.int .u8 v25)),(V.sc (.int .u8 v26)),(V.sc (.int .u8 v27)),(V.sc (.int .u8 v28)),(V.sc (.int .u8 v29)),(V.sc (.int .u8 v30)),(V.sc (.int .u8 v31)),(V.sc (.int .u8 v32)),(V.sc (.int .u8 v33)),(V.sc (.int .u8 v34)),(V.sl 5 zON),(V.sl 5 zPz)] (List.take 3 zOQ) zSq (fun zOH zVV =>
 chk (List.length zOH=34) (
 cI .u8 zOH 0 fun zSr =>
 cI .u8 zOH 1 fun zSs =>
 cI .u8 zOH 2 fun zSt =>
 cI .u8 zOH 3 fun zSu =>
 cI .u8 zOH 4 fun zSv =>
 cI .u8 zOH 5 fun zSw =>
 cI .u8 zOH 6 fun zSx =>
 cI .u8 zOH 7 fun zSy =>
 cI .u8 zOH 8 fun zSz =>
 cI .u8 zOH 9 fun zSA =>
 cI .u8 zOH 10 fun zSB =>
 cI .u8 zOH 11 fun zSC =>
 cI .u8 zOH 12 fun zSD =>
 cI .u8 zOH 13 fun zSE =>
 cI .u8 zOH 14 fun zSF =>
 cI .u8 zOH 15 fun zSG =>
 cI .u8 zOH 16 fun zSH =>
 cI .u8 zOH 17 fun zSI =>
 cI .u8 zOH 18 fun zSJ =>
 cI .u8 zOH 19 fun zSK =>
 cI .u8 zOH 20 fun zSL =>
 cI .u8 zOH 21 fun zSM =>
 cI .u8 zOH 22 fun zSN =>
 cI .u8 zOH 23 fun zSO =>
 cI .u8 zOH 24 fun zSP =>
 cI .u8 zOH 25 fun zSQ =>
 cI .u8 zOH 26 fun zSR =>
 cI .u8 zOH 27 fun zSS =>
 cI .u8 zOH 28 fun zST =>
 cI .u8 zOH 29 fun zSU =>
 cI .u8 zOH 30 fun zSV =>
 cI .u8 zOH 31 fun zSW =>
 cL 5 zOH 32 fun zSX =>
 cL 5 zOH 33 fun zSY =>
 k_fin [(V.sc (.int .u8 zSr)),(V.sc (.int .u8 zSs)),(V.sc (.int .u8 zSt)),(V.sc (.int .u8 zSu)),(V.sc (.int .u8 zSv)),(V.sc (.int .u8 zSw)),(V.sc (.int .u8 zSx)),(V.sc (.int .u8 zSy)),(V.sc (.int .u8 zSz)),(V.sc (.int .u8 zSA)),(V.sc (.int .u8 zSB)),(V.sc (.int .u8 zSC)),(V.sc (.int .u8 zSD)),(V.sc (.int .u8 zSE)),(V.sc (.int .u8 zSF)),(V.sc (.int .u8 zSG)),(V.sc (.int .u8 zSH)),(V.sc (.int .u8 zSI)),(V.sc (.int .u8 zSJ)),(V.sc (.int .u8 zSK)),(V.sc (.int .u8 zSL)),(V.sc (.int .u8 zSM)),(V.sc (.int .u8 zSN)),(V.sc (.int .u8 zSO)),(V.sc (.int .u8 zSP)),(V.sc (.int .u8 zSQ)),(V.sc (.int .u8 zSR)),(V.sc (.int .u8 zSS)),(V.sc (.int .u8 zST)),(V.sc (.int .u8 zSU)),(V.sc (.int .u8 zSV)),(V.sc (.int .u8 zSW)),(V.sl 5 zSX),(V.sl 5 zSY)] (0:Int))))))) (
 k_fin [(V.sc (.int .u8 v3)),(V.sc (.int .u8 v4)),(V.sc (.int .u8 v5)),(V.sc (.int .u8 v6)),(V.sc (.int .u8 v7)),(V.sc (.int .u8 v8)),(V.sc (.int .u8 v9)),(V.sc (.int .u8 v10)),(V.sc (.int .u8 v11)),(V.sc (.int .u8 v12)),(V.sc (.int .u8 v13)),(V.sc (.int .u8 v14)),(V.sc (.int .u8 v15)),(V.sc (.int .u8 v16)),(V.sc (.int .u8 v17)),(V.sc (.int .u8 v18)),(V.sc (.int .u8 v19)),(V.sc (.int .u8 v20)),(V.sc (.int .u8 v21)),(V.sc (.int .u8 v22)),(V.sc (.int .u8 v23)),(V.sc (.int .u8 v24)),(V.sc (.int .u8 v25)),(V.sc (.int .u8 v26)),(V.sc (.int .u8 v27)),(V.sc (.int .u8 v28)),(V.sc (.int .u8 v29)),(V.sc (.int .u8 v30)),(V.sc (.int .u8 v31)),(V.sc (.int .u8 v32)),(V.sc (.int .u8 v33)),(V.sc (.int .u8 v34)),(V.sl 5 zON),(V.sl 5 zPz)] (0:Int)))))) (
 xh β L (zp 5 v36 v38) zOP (fun zSZ =>
 chk (0+5≤(List.length zOO)) (
 xg β L zSZ (List.take 5 zOO) (fun zPA =>
 ifb (decide (zOW ≥ (8:Int))) (
 chk (0+3≤(List.length zOQ)) (
 chk (0+3≤(List.length zOQ)) (
 yi β L (List.take 3 zOQ) (fun zS0 =>
 zG β L [(V.sc (.int .u8 v3)),(V.sc (.int .u8 v4)),(V.sc (.int .u8 v5)),(V.sc (.int .u8 v6)),(V.sc (.int .u8 v7)),(V.sc (.int .u8 v8)),(V.sc (.int .u8 v9)),(V.sc (.int .u8 v10)),(V.sc (.int .u8 v11)),(V.sc (.int .u8 v12)),(V.sc (.int .u8 v13)),(V.sc (.int .u8 v14)),(V.sc (.int .u8 v15)),(V.sc (.int .u8 v16)),(V.sc (.int .u8 v17)),(V.sc (.int .u8 v18)),(V.sc (.int .u8 v19)),(V.sc (.int .u8 v20)),(V.sc (.int .u8 v21)),(V.sc (.int .u8 v22)),(V.sc (.int .u8 v23)),(V.sc (.int .u8 v24)),(V.sc (.int .u8 v25)),(V.sc (.int .u8 v26)),(V.sc (.int .u8 v27)),(V.sc (.int .u8 v28)),(V.sc (.int .u8 v29)),(V.sc (.int .u8 v30)),(V.sc (.int .u8 v31)),(V.sc (.int .u8 v32)),(V.sc (.int .u8 v33)),(V.sc (.int .u8 v34)),(V.sl 5 zON),(V.sl 5 zPA)] (List.take 3 zOQ) zS0 (fun zOI zVW =>
 chk (List.length zOI=34) (
 cI .u8 zOI 0 fun zS1 =>
 cI .u8 zOI 1 fun zS2 =>
 cI .u8 zOI 2 fun zS3 =>
 cI .u8 zOI 3 fun zS4 =>
 cI .u8 zOI 4 fun zS5 =>
 cI .u8 zOI 5 fun zS6 =>
 cI .u8 zOI 6 fun zS7 =>
 cI .u8 zOI 7 fun zS8 =>
 cI .u8 zOI 8 fun zS9 =>
 cI .u8 zOI 9 fun zTa =>
 cI .u8 zOI 10 fun zTb =>
 cI .u8 zOI 11 fun zTc =>
 cI .u8 zOI 12 fun zTd =>
 cI .u8 zOI 13 fun zTe =>
 cI .u8 zOI 14 fun zTf =>
 cI .u8 zOI 15 fun zTg =>
 cI .u8 zOI 16 fun zTh =>
 cI .u8 zOI 17 fun zTi =>
 cI .u8 zOI 18 fun zTj =>
 cI .u8 zOI 19 fun zTk =>
 cI .u8 zOI 20 fun zTl =>
 cI .u8 zOI 21 fun zTm =>
 cI .u8 zOI 22 fun zTn =>
 cI .u8 zOI 23 fun zTo =>
 cI .u8 zOI 24 fun zTp =>
 cI .u8 zOI 25 fun zTq =>
 cI .u8 zOI 26 fun zTr =>
 cI .u8 zOI 27 fun zTs =>
 cI .u8 zOI 28 fun zTt =>
 cI .u8 zOI 29 fun zTu =>
 cI .u8 zOI 30 fun zTv =>
 cI .u8 zOI 31 fun zTw =>
 cL 5 zOI 32 fun zTx =>
 cL 5 zOI 33 fun zTy =>
 k_fin [(V.sc (.int .u8 zS1)),(V.sc (.int .u8 zS2)),(V.sc (.int .u8 zS3)),(V.sc (.int .u8 zS4)),(V.sc (.int .u8 zS5)),(V.sc (.int .u8 zS6)),(V.sc (.int .u8 zS7)),(V.sc (.int .u8 zS8)),(V.sc (.int .u8 zS9)),(V.sc (.int .u8 zTa)),(V.sc (.int .u8 zTb)),(V.sc (.int .u8 zTc)),(V.sc (.int .u8 zTd)),(V.sc (.int .u8 zTe)),(V.sc (.int .u8 zTf)),(V.sc (.int .u8 zTg)),(V.sc (.int .u8 zTh)),(V.sc (.int .u8 zTi)),(V.sc (.int .u8 zTj)),(V.sc (.int .u8 zTk)),(V.sc (.int .u8 zTl)),(V.sc (.int .u8 zTm)),(V.sc (.int .u8 zTn)),(V.sc (.int .u8 zTo)),(V.sc (.int .u8 zTp)),(V.sc (.int .u8 zTq)),(V.sc (.int .u8 zTr)),(V.sc (.int .u8 zTs)),(V.sc (.int .u8 zTt)),(V.sc (.int .u8 zTu)),(V.sc (.int .u8 zTv)),(V.sc (.int .u8 zTw)),(V.sl 5 zTx),(V.sl 5 zTy)] (0:Int))))))) (
 k_fin [(V.sc (.int .u8 v3)),(V.sc (.int .u8 v4)),(V.sc (.int .u8 v5)),(V.sc (.int .u8 v6)),(V.sc (.int .u8 v7)),(V.sc (.int .u8 v8)),(V.sc (.int .u8 v9)),(V.sc (.int .u8 v10)),(V.sc (.int .u8 v11)),(V.sc (.int .u8 v12)),(V.sc (.int .u8 v13)),(V.sc (.int .u8 v14)),(V.sc (.int .u8 v15)),(V.sc (.int .u8 v16)),(V.sc (.int .u8 v17)),(V.sc (.int .u8 v18)),(V.sc (.int .u8 v19)),(V.sc (.int .u8 v20)),(V.sc (.int .u8 v21)),(V.sc (.int .u8 v22)),(V.sc (.int .u8 v23)),(V.sc (.int .u8 v24)),(V.sc (.int .u8 v25)),(V.sc (.int .u8 v26)),(V.sc (.int .u8 v27)),(V.sc (.int .u8 v28)),(V.sc (.int .u8 v29)),(V.sc (.int .u8 v30)),(V.sc (.int .u8 v31)),(V.sc (.int .u8 v32)),(V.sc (.int .u8 v33)),(V.sc (.int .u8 v34)),(V.sl 5 zON),(V.sl 5 zPA)] (0:Int)))))))))) (
 chk (0+5≤(List.length zOO)) (
 ifb (List.isEmpty v38) (
 xg β L (zp 5 v36 v38) (List.take 5 zOO) (fun zPB =>
 ifb (decide (zOW ≥ (8:Int))) (
 yi β L [(V.sc (.int .u32 (0:Int))),(V.sc (.int .u16 (0:Int))),(V.sc (.int .u32 (0:Int)))] (fun zTz =>
 zG β L [(V.sc (.int .u8 v3)),(V.sc (.int .u8 v4)),(V.sc (.int .u8 v5)),(V.sc (.int .u8 v6)),(V.sc (.int .u8 v7)),(V.sc (.int .u8 v8)),(V.sc (.int .u8 v9)),(V.sc (.int .u8 v10)),(V.sc (.int .u8 v11)),(V.sc (.int .u8 v12)),(V.sc (.int .u8 v13)),(V.sc (.int .u8 v14)),(V.sc (.int .u8 v15)),(V.sc (.int .u8 v16)),(V.sc (.int .u8 v17)),(V.sc (.int .u8 v18)),(V.sc (.int .u8 v19)),(V.sc (.int .u8 v20)),(V.sc (.int .u8 v21)),(V.sc (.int .u8 v22)),(V.sc (.int .u8 v23)),(V.sc (.int .u8 v24)),(V.sc (.int .u8 v25)),(V.sc (.int .u8 v26)),(V.sc (.int .u8 v27)),(V.sc (.int .u8 v28)),(V.sc (.int .u8 v29)),(V.sc (.int .u8 v30)),(V.sc (.int .u8 v31)),(V.sc (.int .u8 v32)),(V.sc (.int .u8 v33)),(V.sc (.int .u8 v34)),(V.sl 5 zON),(V.sl 5 zPB)] [(V.sc (.int .u32 (0:Int))),(V.sc (.int .u16 (0:Int))),(V.sc (.int .u32 (0:Int)))] zTz (fun zOJ zVX =>
 chk (List.length zOJ=34) (
 cI .u8 zOJ 0 fun zTA =>
 cI .u8 zOJ 1 fun zTB =>
 cI .u8 zOJ 2 fun zTC =>
 cI .u8 zOJ 3 fun zTD =>
 cI .u8 zOJ 4 fun zTE =>
 cI .u8 zOJ 5 fun zTF =>
 cI .u8 zOJ 6 fun zTG =>
 cI .u8 zOJ 7 fun zTH =>
 cI .u8 zOJ 8 fun zTI =>
 cI .u8 zOJ 9 fun zTJ =>
 cI .u8 zOJ 10 fun zTK =>
 cI .u8 zOJ 11 fun zTL =>
 cI .u8 zOJ 12 fun zTM =>
 cI .u8 zOJ 13 fun zTN =>
 cI .u8 zOJ 14 fun zTO =>
 cI .u8 zOJ 15 fun zTP =>
 cI .u8 zOJ 16 fun zTQ =>
 cI .u8 zOJ 17 fun zTR =>
 cI .u8 zOJ 18 fun zTS =>
 cI .u8 zOJ 19 fun zTT =>
 cI .u8 zOJ 20 fun zTU =>
 cI .u8 zOJ 21 fun zTV =>
 cI .u8 zOJ 22 fun zTW =>
 cI .u8 zOJ 23 fun zTX =>
 cI .u8 zOJ 24 fun zTY =>
 cI .u8 zOJ 25 fun zTZ =>
 cI .u8 zOJ 26 fun zT0 =>
 cI .u8 zOJ 27 fun zT1 =>
 cI .u8 zOJ 28 fun zT2 =>
 cI .u8 zOJ 29 fun zT3 =>
 cI .u8 zOJ 30 fun zT4 =>
 cI .u8 zOJ 31 fun zT5 =>
 cL 5 zOJ 32 fun zT6 =>
 cL 5 zOJ 33 fun zT7 =>
 k_fin [(V.sc (.int .u8 zTA)),(V.sc (.int .u8 zTB)),(V.sc (.int .u8 zTC)),(V.sc (.int .u8 zTD)),(V.sc (.int .u8 zTE)),(V.sc (.int .u8 zTF)),(V.sc (.int .u8 zTG)),(V.sc (.int .u8 zTH)),(V.sc (.int .u8 zTI)),(V.sc (.int .u8 zTJ)),(V.sc (.int .u8 zTK)),(V.sc (.int .u8 zTL)),(V.sc (.int .u8 zTM)),(V.sc (.int .u8 zTN)),(V.sc (.int .u8 zTO)),(V.sc (.int .u8 zTP)),(V.sc (.int .u8 zTQ)),(V.sc (.int .u8 zTR)),(V.sc (.int .u8 zTS)),(V.sc (.int .u8 zTT)),(V.sc (.int .u8 zTU)),(V.sc (.int .u8 zTV)),(V.sc (.int .u8 zTW)),(V.sc (.int .u8 zTX)),(V.sc (.int .u8 zTY)),(V.sc (.int .u8 zTZ)),(V.sc (.int .u8 zT0)),(V.sc (.int .u8 zT1)),(V.sc (.int .u8 zT2)),(V.sc (.int .u8 zT3)),(V.sc (.int .u8 zT4)),(V.sc (.int .u8 zT5)),(V.sl 5 zT6),(V.sl 5 zT7)] (0:Int))))) (
 k_fin [(V.sc (.int .u8 v3)),(V.sc (.int .u8 v4)),(V.sc (.int .u8 v5)),(V.sc (.int .u8 v6)),(V.sc (.int .u8 v7)),(V.sc (.int .u8 v8)),(V.sc (.int .u8 v9)),(V.sc (.int .u8 v10)),(V.sc (.int .u8 v11)),(V.sc (.int .u8 v12)),(V.sc (.int .u8 v13)),(V.sc (.int .u8 v14)),(V.sc (.int .u8 v15)),(V.sc (.int .u8 v16)),(V.sc (.int .u8 v17)),(V.sc (.int .u8 v18)),(V.sc (.int .u8 v19)),(V.sc (.int .u8 v20)),(V.sc (.int .u8 v21)),(V.sc (.int .u8 v22)),(V.sc (.int .u8 v23)),(V.sc (.int .u8 v24)),(V.sc (.int .u8 v25)),(V.sc (.int .u8 v26)),(V.sc (.int .u8 v27)),(V.sc (.int .u8 v28)),(V.sc (.int .u8 v29)),(V.sc (.int .u8 v30)),(V.sc (.int .u8 v31)),(V.sc (.int .u8 v32)),(V.sc (.int .u8 v33)),(V.sc (.int .u8 v34)),(V.sl 5 zON),(V.sl 5 zPB)] (0:Int)))) (
 xg β L (zp 5 v36 v38) (List.take 5 zOO) (fun zPC =>
 ifb (decide (zOW ≥ (8:Int))) (
 yi β L [(V.sc (.int .u32 (0:Int))),(V.sc (.int .u16 (0:Int))),(V.sc (.int .u32 (0:Int)))] (fun zT8 =>
 zG β L [(V.sc (.int .u8 v3)),(V.sc (.int .u8 v4)),(V.sc (.int .u8 v5)),(V.sc (.int .u8 v6)),(V.sc (.int .u8 v7)),(V.sc (.int .u8 v8)),(V.sc (.int .u8 v9)),(V.sc (.int .u8 v10)),(V.sc (.int .u8 v11)),(V.sc (.int .u8 v12)),(V.sc (.int .u8 v13)),(V.sc (.int .u8 v14)),(V.sc (.int .u8 v15)),(V.sc (.int .u8 v16)),(V.sc (.int .u8 v17)),(V.sc (.int .u8 v18)),(V.sc (.int .u8 v19)),(V.sc (.int .u8 v20)),(V.sc (.int .u8 v21)),(V.sc (.int .u8 v22)),(V.sc (.int .u8 v23)),(V.sc (.int .u8 v24)),(V.sc (.int .u8 v25)),(V.sc (.int .u8 v26)),(V.sc (.int .u8 v27)),(V.sc (.int .u8 v28)),(V.sc (.int .u8 v29)),(V.sc (.int .u8 v30)),(V.sc (.int .u8 v31)),(V.sc (.int .u8 v32)),(V.sc (.int .u8 v33)),(V.sc (.int .u8 v34)),(V.sl 5 zON),(V.sl 5 zPC)] [(V.sc (.int .u32 (0:Int))),(V.sc (.int .u16 (0:Int))),(V.sc (.int .u32 (0:Int)))] zT8 (fun zOK zVY =>
 chk (List.length zOK=34) (
 cI .u8 zOK 0 fun zT9 =>
 cI .u8 zOK 1 fun zUa =>
 cI .u8 zOK 2 fun zUb =>
 cI .u8 zOK 3 fun zUc =>
 cI .u8 zOK 4 fun zUd =>
 cI .u8 zOK 5 fun zUe =>
 cI .u8 zOK 6 fun zUf =>
 cI .u8 zOK 7 fun zUg =>
 cI .u8 zOK 8 fun zUh =>
 cI .u8 zOK 9 fun zUi =>
 cI .u8 zOK 10 fun zUj =>
 cI .u8 zOK 11 fun zUk =>
 cI .u8 zOK 12 fun zUl =>
 cI .u8 zOK 13 fun zUm =>
 cI .u8 zOK 14 fun zUn =>
 cI .u8 zOK 15 fun zUo =>
 cI .u8 zOK 16 fun zUp =>
 cI .u8 zOK 17 fun zUq =>
 cI .u8 zOK 18 fun zUr =>
 cI .u8 zOK 19 fun zUs =>
 cI .u8 zOK 20 fun zUt =>
 cI .u8 zOK 21 fun zUu =>
 cI .u8 zOK 22 fun zUv =>
 cI .u8 zOK 23 fun zUw =>
 cI .u8 zOK 24 fun zUx =>
 cI .u8 zOK 25 fun zUy =>
 cI .u8 zOK 26 fun zUz =>
 cI .u8 zOK 27 fun zUA =>
 cI .u8 zOK 28 fun zUB =>
 cI .u8 zOK 29 fun zUC =>
 cI .u8 zOK 30 fun zUD =>
 cI .u8 zOK 31 fun zUE =>
 cL 5 zOK 32 fun zUF =>
 cL 5 zOK 33 fun zUG =>
 k_fin [(V.sc (.int .u8 zT9)),(V.sc (.int .u8 zUa)),(V.sc (.int .u8 zUb)),(V.sc (.int .u8 zUc)),(V.sc (.int .u8 zUd)),(V.sc (.int .u8 zUe)),(V.sc (.int .u8 zUf)),(V.sc (.int .u8 zUg)),(V.sc (.int .u8 zUh)),(V.sc (.int .u8 zUi)),(V.sc (.int .u8 zUj)),(V.sc (.int .u8 zUk)),(V.sc (.int .u8 zUl)),(V.sc (.int .u8 zUm)),(V.sc (.int .u8 zUn)),(V.sc (.int .u8 zUo)),(V.sc (.int .u8 zUp)),(V.sc (.int .u8 zUq)),(V.sc (.int .u8 zUr)),(V.sc (.int .u8 zUs)),(V.sc (.int .u8 zUt)),(V.sc (.int .u8 zUu)),(V.sc (.int .u8 zUv)),(V.sc (.int .u8 zUw)),(V.sc (.int .u8 zUx)),(V.sc (.int .u8 zUy)),(V.sc (.int .u8 zUz)),(V.sc (.int .u8 zUA)),(V.sc (.int .u8 zUB)),(V.sc (.int .u8 zUC)),(V.sc (.int .u8 zUD)),(V.sc (.int .u8 zUE)),(V.sl 5 zUF),(V.sl 5 zUG)] (0:Int))))) (
 k_fin [(V.sc (.int .u8 v3)),(V.sc (.int .u8 v4)),(V.sc (.int .u8 v5)),(V.sc (.int .u8 v6)),(V.sc (.int .u8 v7)),(V.sc (.int .u8 v8)),(V.sc (.int .u8 v9)),(V.sc (.int .u8 v10)),(V.sc (.int .u8 v11)),(V.sc (.int .u8 v12)),(V.sc (.int .u8 v13)),(V.sc (.int .u8 v14)),(V.sc (.int .u8 v15)),(V.sc (.int .u8 v16)),(V.sc (.int .u8 v17)),(V.sc (.int .u8 v18)),(V.sc (.int .u8 v19)),(V.sc (.int .u8 v20)),(V.sc (.int .u8 v21)),(V.sc (.int .u8 v22)),(V.sc (.int .u8 v23)),(V.sc (.int .u8 v24)),(V.sc (.int .u8 v25)),(V.sc (.int .u8 v26)),(V.sc (.int .u8 v27)),(V.sc (.int .u8 v28)),(V.sc (.int .u8 v29)),(V.sc (.int .u8 v30)),(V.sc (.int .u8 v31)),(V.sc (.int .u8 v32)),(V.sc (.int .u8 v33)),(V.sc (.int .u8 v34)),(V.sl 5 zON),(V.sl 5 zPC)] (0:Int)))))))) (
 zh β L (zp 5 v36 v38) zPy (fun zOT zUH =>
 lt (IntKind.wrap .i64 ((zUH:Int) - zOT)) fun zPt =>
 ifb (decide (zPt ≥ (8:Int))) (
 chk (0≤zOT∧zOT < ((v36:Nat):Int)) (
 chk (((0+((Int.toNat zOT) * 5))+1)+3≤(List.length v38)) (
 chk ((List.length (List.take 3 (List.drop ((0+((Int.toNat zOT) * 5))+1) v38)))=3∧0+3≤3) (
 lt (yk [(V.sc (.int .u32 (0:Int))),(V.sc (.int .u16 (0:Int))),(V.sc (.int .u32 (0:Int)))] 0 (List.take 3 (List.drop ((0+((Int.toNat zOT) * 5))+1) v38))) fun zPk =>
 xh β L (zp 5 v36 v38) zOT (fun zUI =>
 chk (0+5≤(List.length zOO)) (
 xg β L zUI (List.take 5 zOO) (fun zPD =>
 ifb (decide (zPt ≥ (8:Int))) (
 chk (0+3≤(List.length zPk)) (
 chk (0+3≤(List.length zPk)) (
 yi β L (List.take 3 zPk) (fun zUJ =>
 zG β L [(V.sc (.int .u8 v3)),(V.sc (.int .u8 v4)),(V.sc (.int .u8 v5)),(V.sc (.int .u8 v6)),(V.sc (.int .u8 v7)),(V.sc (.int .u8 v8)),(V.sc (.int .u8 v9)),(V.sc (.int .u8 v10)),(V.sc (.int .u8 v11)),(V.sc (.int .u8 v12)),(V.sc (.int .u8 v13)),(V.sc (.int .u8 v14)),(V.sc (.int .u8 v15)),(V.sc (.int .u8 v16)),(V.sc (.int .u8 v17)),(V.sc (.int .u8 v18)),(V.sc (.int .u8 v19)),(V.sc (.int .u8 v20)),(V.sc (.int .u8 v21)),(V.sc (.int .u8 v22)),(V.sc (.int .u8 v23)),(V.sc (.int .u8 v24)),(V.sc (.int .u8 v25)),(V.sc (.int .u8 v26)),(V.sc (.int .u8 v27)),(V.sc (.int .u8 v28)),(V.sc (.int .u8 v29)),(V.sc (.int .u8 v30)),(V.sc (.int .u8 v31)),(V.sc (.int .u8 v32)),(V.sc (.int .u8 v33)),(V.sc (.int .u8 v34)),(V.sl 5 zON),(V.sl 5 zPD)] (List.take 3 zPk) zUJ (fun zOL zVZ =>
 chk (List.length zOL=34) (
 cI .u8 zOL 0 fun zUK =>
 cI .u8 zOL 1 fun zUL =>
 cI .u8 zOL 2 fun zUM =>
 cI .u8 zOL 3 fun zUN =>
 cI .u8 zOL 4 fun zUO =>
 cI .u8 zOL 5 fun zUP =>
 cI .u8 zOL 6 fun zUQ =>
 cI .u8 zOL 7 fun zUR =>
 cI .u8 zOL 8 fun zUS =>
 cI .u8 zOL 9 fun zUT =>
 cI .u8 zOL 10 fun zUU =>
 cI .u8 zOL 11 fun zUV =>
 cI .u8 zOL 12 fun zUW =>
 cI .u8 zOL 13 fun zUX =>
 cI .u8 zOL 14 fun zUY =>
 cI .u8 zOL 15 fun zUZ =>
 cI .u8 zOL 16 fun zU0 =>
 cI .u8 zOL 17 fun zU1 =>
 cI .u8 zOL 18 fun zU2 =>
 cI .u8 zOL 19 fun zU3 =>
 cI .u8 zOL 20 fun zU4 =>
 cI .u8 zOL 21 fun zU5 =>
 cI .u8 zOL 22 fun zU6 =>
 cI .u8 zOL 23 fun zU7 =>
 cI .u8 zOL 24 fun zU8 =>
 cI .u8 zOL 25 fun zU9 =>
 cI .u8 zOL 26 fun zVa =>
 cI .u8 zOL 27 fun zVb =>
 cI .u8 zOL 28 fun zVc =>
 cI .u8 zOL 29 fun zVd =>
 cI .u8 zOL 30 fun zVe =>
 cI .u8 zOL 31 fun zVf =>
 cL 5 zOL 32 fun zVg =>
 cL 5 zOL 33 fun zVh =>
 k_fin [(V.sc (.int .u8 zUK)),(V.sc (.int .u8 zUL)),(V.sc (.int .u8 zUM)),(V.sc (.int .u8 zUN)),(V.sc (.int .u8 zUO)),(V.sc (.int .u8 zUP)),(V.sc (.int .u8 zUQ)),(V.sc (.int .u8 zUR)),(V.sc (.int .u8 zUS)),(V.sc (.int .u8 zUT)),(V.sc (.int .u8 zUU)),(V.sc (.int .u8 zUV)),(V.sc (.int .u8 zUW)),(V.sc (.int .u8 zUX)),(V.sc (.int .u8 zUY)),(V.sc (.int .u8 zUZ)),(V.sc (.int .u8 zU0)),(V.sc (.int .u8 zU1)),(V.sc (.int .u8 zU2)),(V.sc (.int .u8 zU3)),(V.sc (.int .u8 zU4)),(V.sc (.int .u8 zU5)),(V.sc (.int .u8 zU6)),(V.sc (.int .u8 zU7)),(V.sc (.int .u8 zU8)),(V.sc (.int .u8 zU9)),(V.sc (.int .u8 zVa)),(V.sc (.int .u8 zVb)),(V.sc (.int .u8 zVc)),(V.sc (.int .u8 zVd)),(V.sc (.int .u8 zVe)),(V.sc (.int .u8 zVf)),(V.sl 5 zVg),(V.sl 5 zVh)] (0:Int))))))) (
 k_fin [(V.sc (.int .u8 v3)),(V.sc (.int .u8 v4)),(V.sc (.int .u8 v5)),(V.sc (.int .u8 v6)),(V.sc (.int .u8 v7)),(V.sc (.int .u8 v8)),(V.sc (.int .u8 v9)),(V.sc (.int .u8 v10)),(V.sc (.int .u8 v11)),(V.sc (.int .u8 v12)),(V.sc (.int .u8 v13)),(V.sc (.int .u8 v14)),(V.sc (.int .u8 v15)),(V.sc (.int .u8 v16)),(V.sc (.int .u8 v17)),(V.sc (.int .u8 v18)),(V.sc (.int .u8 v19)),(V.sc (.int .u8 v20)),(V.sc (.int .u8 v21)),(V.sc (.int .u8 v22)),(V.sc (.int .u8 v23)),(V.sc (.int .u8 v24)),(V.sc (.int .u8 v25)),(V.sc (.int .u8 v26)),(V.sc (.int .u8 v27)),(V.sc (.int .u8 v28)),(V.sc (.int .u8 v29)),(V.sc (.int .u8 v30)),(V.sc (.int .u8 v31)),(V.sc (.int .u8 v32)),(V.sc (.int .u8 v33)),(V.sc (.int .u8 v34)),(V.sl 5 zON),(V.sl 5 zPD)] (0:Int))))))))) (
 chk (0+5≤(List.length zOO)) (
 xg β L (zp 5 v36 v38) (List.take 5 zOO) (fun zPE =>
 ifb (decide (zPt ≥ (8:Int))) (
 yi β L [(V.sc (.int .u32 (0:Int))),(V.sc (.int .u16 (0:Int))),(V.sc (.int .u32 (0:Int)))] (fun zVi =>
 zG β L [(V.sc (.int .u8 v3)),(V.sc (.int .u8 v4)),(V.sc (.int .u8 v5)),(V.sc (.int .u8 v6)),(V.sc (.int .u8 v7)),(V.sc (.int .u8 v8)),(V.sc (.int .u8 v9)),(V.sc (.int .u8 v10)),(V.sc (.int .u8 v11)),(V.sc (.int .u8 v12)),(V.sc (.int .u8 v13)),(V.sc (.int .u8 v14)),(V.sc (.int .u8 v15)),(V.sc (.int .u8 v16)),(V.sc (.int .u8 v17)),(V.sc (.int .u8 v18)),(V.sc (.int .u8 v19)),(V.sc (.int .u8 v20)),(V.sc (.int .u8 v21)),(V.sc (.int .u8 v22)),(V.sc (.int .u8 v23)),(V.sc (.int .u8 v24)),(V.sc (.int .u8 v25)),(V.sc (.int .u8 v26)),(V.sc (.int .u8 v27)),(V.sc (.int .u8 v28)),(V.sc (.int .u8 v29)),(V.sc (.int .u8 v30)),(V.sc (.int .u8 v31)),(V.sc (.int .u8 v32)),(V.sc (.int .u8 v33)),(V.sc (.int .u8 v34)),(V.sl 5 zON),(V.sl 5 zPE)] [(V.sc (.int .u32 (0:Int))),(V.sc (.int .u16 (0:Int))),(V.sc (.int .u32 (0:Int)))] zVi (fun zOM zV0 =>
 chk (List.length zOM=34) (
 cI .u8 zOM 0 fun zVj =>
 cI .u8 zOM 1 fun zVk =>
 cI .u8 zOM 2 fun zVl =>
 cI .u8 zOM 3 fun zVm =>
 cI .u8 zOM 4 fun zVn =>
 cI .u8 zOM 5 fun zVo =>
 cI .u8 zOM 6 fun zVp =>
 cI .u8 zOM 7 fun zVq =>
 cI .u8 zOM 8 fun zVr =>
 cI .u8 zOM 9 fun zVs =>
 cI .u8 zOM 10 fun zVt =>
 cI .u8 zOM 11 fun zVu =>
 cI .u8 zOM 12 fun zVv =>
 cI .u8 zOM 13 fun zVw =>
 cI .u8 zOM 14 fun zVx =>
 cI .u8 zOM 15 fun zVy =>
 cI .u8 zOM 16 fun zVz =>
 cI .u8 zOM 17 fun zVA =>
 cI .u8 zOM 18 fun zVB =>
 cI .u8 zOM 19 fun zVC =>
 cI .u8 zOM 20 fun zVD =>
 cI .u8 zOM 21 fun zVE =>
 cI .u8 zOM 22 fun zVF =>
 cI .u8 zOM 23 fun zVG =>
 cI .u8 zOM 24 fun zVH =>
 cI .u8 zOM 25 fun zVI =>
 cI .u8 zOM 26 fun zVJ =>
 cI .u8 zOM 27 fun zVK =>
 cI .u8 zOM 28 fun zVL =>
 cI .u8 zOM 29 fun zVM =>
 cI .u8 zOM 30 fun zVN =>
 cI .u8 zOM 31 fun zVO =>
 cL 5 zOM 32 fun zVP =>
 cL 5 zOM 33 fun zVQ =>
 k_fin [(V.sc (.int .u8 zVj)),(V.sc (.int .u8 zVk)),(V.sc (.int .u8 zVl)),(V.sc (.int .u8 zVm)),(V.sc (.int .u8 zVn)),(V.sc (.int .u8 zVo)),(V.sc (.int .u8 zVp)),(V.sc (.int .u8 zVq)),(V.sc (.int .u8 zVr)),(V.sc (.int .u8 zVs)),(V.sc (.int .u8 zVt)),(V.sc (.int .u8 zVu)),(V.sc (.int .u8 zVv)),(V.sc (.int .u8 zVw)),(V.sc (.int .u8 zVx)),(V.sc (.int .u8 zVy)),(V.sc (.int .u8 zVz)),(V.sc (.int .u8 zVA)),(V.sc (.int .u8 zVB)),(V.sc (.int .u8 zVC)),(V.sc (.int .u8 zVD)),(V.sc (.int .u8 zVE)),(V.sc (.int .u8 zVF)),(V.sc (.int .u8 zVG)),(V.sc (.int .u8 zVH)),(V.sc (.int .u8 zVI)),(V.sc (.int .u8 zVJ)),(V.sc (.int .u8 zVK)),(V.sc (.int .u8 zVL)),(V.sc (.int .u8 zVM)),(V.sc (.int .u8 zVN)),(V.sc (.int .u8 zVO)),(V.sl 5 zVP),(V.sl 5 zVQ)] (0:Int))))) (
 k_fin [(V.sc (.int .u8 v3)),(V.sc (.int .u8 v4)),(V.sc (.int .u8 v5)),(V.sc (.int .u8 v6)),(V.sc (.int .u8 v7)),(V.sc (.int .u8 v8)),(V.sc (.int .u8 v9)),(V.sc (.int .u8 v10)),(V.sc (.int .u8 v11)),(V.sc (.int .u8 v12)),(V.sc (.int .u8 v13)),(V.sc (.int .u8 v14)),(V.sc (.int .u8 v15)),(V.sc (.int .u8 v16)),(V.sc (.int .u8 v17)),(V.sc (.int .u8 v18)),(V.sc (.int .u8 v19)),(V.sc (.int .u8 v20)),(V.sc (.int .u8 v21)),(V.sc (.int .u8 v22)),(V.sc (.int .u8 v23)),(V.sc (.int .u8 v24)),(V.sc (.int .u8 v25)),(V.sc (.int .u8 v26)),(V.sc (.int .u8 v27)),(V.sc (.int .u8 v28)),(V.sc (.int .u8 v29)),(V.sc (.int .u8 v30)),(V.sc (.int .u8 v31)),(V.sc (.int .u8 v32)),(V.sc (.int .u8 v33)),(V.sc (.int .u8 v34)),(V.sl 5 zON),(V.sl 5 zPE)] (0:Int))))))))))))))))))))))))
theorem zDQ {β:Type} (xk:y8) (zg:zO) (xj:xW) (xh:zX) (zi:yQ) (zh:yP) (xg:yW) (yi:zW) (zG:zhD) (L:Nat) (p0 p1:List V) (k:KK β):xr zsY (zsS xk zg xj xh zi zh xg yi zG L) L zoF [(V.agg p0),(V.agg p1)] [] k=zuu xk zg xj xh zi zh xg yi zG L p0 p1 (fun zOw zOx=>k (V.tup [(V.agg zOw),(V.sc (.int .i64 zOx))]) []):=by kernel_rfl
abbrev zcY:=∀ (β:Type),Nat→List V→List V→(List V→Int→Option β)→Option β
def yD (β:Type) (L:Nat) (p0 p1:List V) (k_fin:List V→Int→Option β):Option β:=zuu xk zg xj xh zi zh xg yi zG L p0 p1 k_fin
def zqh (yD:zcY) (L:Nat) (β:Type) (args:List V) (bor:Bor) (k:KK β):Option β:=match args,bor with
 | [a0,a1],[]=>aG a0 fun p0=>aG a1 fun p1=>yD β L p0 p1 (fun zOw zOx=>k (V.tup [(V.agg zOw),(V.sc (.int .i64 zOx))]) [])
 | _,_=>none
theorem zDt (L:Nat) (β:Type) (args:List V) (bor:Bor) (k:KK β) (r:β) (h:zqh yD L β args bor k=some r):xr zsY (zsS xk zg xj xh zi zh xg yi zG L) L zoF args bor k=some r:=by
 unfold zqh at h
 split at h
 ·have q:=y5 h; clear h; obtain ⟨p0,rfl,h⟩:=q
  have q:=y5 h; clear h; obtain ⟨p1,rfl,h⟩:=q
  exact (zDQ xk zg xj xh zi zh xg yi zG L p0 p1 k).trans h
 ·cases h
def zqf:CF:=⟨18,[.cell 2 true 3],
 (.seq (.reg [oo 2 (.alloc true [(.sc (.int .u32 0)),(.sc (.int .u16 0)),(.sc (.int .u32 0))])])
 (.seq (.reg [oo 3 (.move (tq 0) false),
   oo 4 (.call 231 [((tq 3),0),((.const (.sc (.int .i64 6))),0)] []),
   oo 5 (.conv .u32 (tq 4)),
   oo 6 (.bin .shl (tq 5) (.const (.sc (.int .u64 16)))),
   oo 7 (.move (tq 0) false),
   oo 8 (.call 231 [((tq 7),0),((.const (.sc (.int .i64 5))),0)] []),
   oo 9 (.conv .u32 (tq 8)),
   oo 10 (.bin .add (tq 6) (tq 9)),
   oo 11 (.move (tq 0) false),
   oo 12 (.call 231 [((tq 11),0),((.const (.sc (.int .i64 2))),0)] []),
   oo 13 (.conv .u16 (tq 12)),
   oo 14 (.move (tq 0) false),
   oo 15 (.call 231 [((tq 14),0),((.const (.sc (.int .i64 50))),0)] []),
   oo 16 (.conv .u32 (tq 15)),
   oo 17 (.build [(.sc (.int .u32 0)),(.sc (.int .u16 0)),(.sc (.int .u32 0))] [(0,1,(tq 10)),(1,1,(tq 13)),(2,1,(tq 16))]),
   oz (.store 3 (tq 2) (tq 17))])
 .ret))⟩
def zxB:Hint:=⟨[],[],[none],[],[],false,false⟩
def zvf:Nat→Sh:=zV []
def zuO (za:xi) (L:Nat):CBC:=(xA 231 (zb0 za L) noC)
def zwu {β:Type} (za:xi) (L:Nat) (zNi:List (List V)) (zNl:Int) (k_fin:List V→List (List V)→Int→Option β):Option β :=
 za β L (6:Int) zNi zNl (fun v0 v1 v2 =>
 lt (IntKind.wrap .u32 v0) fun x3 =>
 lt (zsX .u32 x3 (16:Int)) fun x4 =>
 za β L (5:Int) v1 v2 (fun v5 v6 v7 =>
 lt (IntKind.wrap .u32 v5) fun x8 =>
 lt (IntKind.wrap .u32 ((x4:Int)+x8)) fun x9 =>
 za β L (2:Int) v6 v7 (fun v10 v11 v12 =>
 lt (IntKind.wrap .u16 v10) fun x13 =>
 za β L (50:Int) v11 v12 (fun v14 v15 v16 =>
 lt (IntKind.wrap .u32 v14) fun x17 =>
 lt [(V.sc (.int .u32 x9)),(V.sc (.int .u16 x13)),(V.sc (.int .u32 x17))] fun r18 =>
 chk (0=0∧(List.length r18)=3∧3≠0) (
 k_fin r18 v15 v16)))))
theorem zEu {β:Type} (za:xi) (L:Nat) (zNi:List (List V)) (zNl:Int) (k:KK β):xr zvf (zuO za L) L zqf [(V.ptr 0 0)] [(.live false [(V.sl 1 zNi),(V.sc (.int .i64 zNl))])] k=zwu za L zNi zNl (fun p0 zNi zNl=>k (V.agg p0) [(.live false [(V.sl 1 zNi),(V.sc (.int .i64 zNl))])]):=by kernel_rfl
abbrev yt:=∀ (β:Type),Nat→List (List V)→Int→(List V→List (List V)→Int→Option β)→Option β
def xc (β:Type) (L:Nat) (zNi:List (List V)) (zNl:Int) (k_fin:List V→List (List V)→Int→Option β):Option β:=zwu za L zNi zNl k_fin
def zk4 (xc:yt) (L:Nat) (β:Type) (args:List V) (bor:Bor) (k:KK β):Option β:=match args,bor with
 | [a0],[(.live false [w0_0,w0_1])]=>aP 0 0 a0 (aL 1 w0_0 fun zNi=>aI .i64 w0_1 fun zNl=>xc β L zNi zNl (fun p0 zNi zNl=>k (V.agg p0) [(.live false [(V.sl 1 zNi),(V.sc (.int .i64 zNl))])]))
 | _,_=>none
theorem zEm (L:Nat) (β:Type) (args:List V) (bor:Bor) (k:KK β) (r:β) (h:zk4 xc L β args bor k=some r):xr zvf (zuO za L) L zqf args bor k=some r:=by
 unfold zk4 at h
 split at h
 ·have q:=zkV h; clear h; obtain ⟨rfl,h⟩:=q
  have q:=xP h; clear h; obtain ⟨zNi,rfl,h⟩:=q
  have q:=zad h; clear h; obtain ⟨zNl,rfl,h⟩:=q
  exact (zEu za L zNi zNl k).trans h
 ·cases h
def zng:CF:=⟨24,[.cell 6 true 34,.tmp 7,.tmp 8],
 (.seq (.reg [oo 3 (.box true (tq 0)),
   oo 4 (.box true (tq 1)),
   oo 6 (.alloc true (rp 32 (.sc (.int .u8 0)) (rp 2 (.gs 5 []) []))),
   oo 7 (.move (.const (.sc (.bool false))) false),
   oo 8 (.move (.const (.sc (.int .i64 0))) false)])
 (.seq (.seq (.reg [oo 11 (.load true 34 (tq 3) false),
   oo 12 (.call 281 [((tq 11),1)] []),
   oo 13 (.un .not (tq 12))])
 (.cond (tq 13)
 (.seq (.reg [oo 14 (.build (rp 32 (.sc (.int .u8 0)) (rp 2 (.sl 5 []) [])) []),
   oz (.store 34 (tq 6) (tq 14)),
   oo 7 (.move (.const (.sc (.bool false))) false),
   oo 8 (.move (.const (.sc (.int .i64 6))) false)])
 .ret)
 .skip))
 (.seq (.reg [oo 16 (.load true 34 (tq 3) false),
   oo 17 (.load true 3 (tq 4) false),
   oo 18 (.move (tq 2) false),
   oo 19 (.call 293 [((tq 16),1),((tq 17),0),((tq 18),0)] []),
   oo 15 (.move (tq 19) true),
   oo 20 (.pull (tq 15) 0),
   oo 21 (.pull (tq 15) 1),
   oo 9 (.alloc true (rp 32 (.sc (.int .u8 0)) (rp 2 (.gs 5 []) []))),
   oz (.store 34 (tq 9) (tq 20)),
   oo 10 (.move (tq 21) false)])
 (.seq (.reg [oo 22 (.load true 34 (tq 9) false),
   oo 23 (.move (tq 10) false),
   oz (.store 34 (tq 6) (tq 22)),
   oo 7 (.move (tq 23) false),
   oo 8 (.move (.const (.sc (.int .i64 0))) false)])
 .ret))))⟩
def zuS:Hint:=⟨[(0,0),(0,2),(3,4),(3,7)],[],[none,none,none],[],[],false,false⟩
def zrX:Nat→Sh:=zV []
def zrL (xk:y8) (zG:zhD) (L:Nat):CBC:=(xA 293 (zme zG L) (xA 281 (zif xk L) noC))
def zta {β:Type} (xk:y8) (zG:zhD) (L:Nat) (p0 p1:List V) (p2:Int) (k_fin:List V→Bool→Int→Option β):Option β :=
 chk (0+34≤(List.length p0)) (
 xk β L (List.map V.dem (List.take 34 p0)) (fun v0 =>
 ifb (!v0) (
 lt (List.replicate 32 (V.sc (.int .u8 (0:Int)))++[(V.sl 5 ([]:List (List V))),(V.sl 5 ([]:List (List V)))]) fun r1 =>
 chk (0=0∧(List.length r1)=34∧34≠0) (
 k_fin r1 false (6:Int))) (
 chk (0+34≤(List.length p0)) (
 chk (0+3≤(List.length p1)) (
 zG β L (List.map V.dem (List.take 34 p0)) (List.take 3 p1) p2 (fun v2 v3 =>
 chk ((List.length v2)=34∧0+34≤34) (
 lt (yk (List.replicate 32 (V.sc (.int .u8 (0:Int)))++[(V.gs 5 ([]:List (List V))),(V.gs 5 ([]:List (List V)))]) 0 v2) fun r4 =>
 chk (0+34≤(List.length r4)) (
 chk ((List.length (List.take 34 r4))=34∧0+34≤34) (
 lt (yk (List.replicate 32 (V.sc (.int .u8 (0:Int)))++[(V.gs 5 ([]:List (List V))),(V.gs 5 ([]:List (List V)))]) 0 (List.take 34 r4)) fun r5 =>
 chk (0=0∧(List.length r5)=34∧34≠0) (
 k_fin r5 v3 (0:Int)))))))))))
theorem zCm {β:Type} (xk:y8) (zG:zhD) (L:Nat) (p0 p1:List V) (p2:Int) (k:KK β):xr zrX (zrL xk zG L) L zng [(V.agg p0),(V.agg p1),(V.sc (.int .u32 p2))] [] k=zta xk zG L p0 p1 p2 (fun zOw zOx zOR=>k (V.tup [(V.agg zOw),(V.sc (.bool zOx)),(V.sc (.int .i64 zOR))]) []):=by kernel_rfl
abbrev zce:=∀ (β:Type),Nat→List V→List V→Int→(List V→Bool→Int→Option β)→Option β
def yA (β:Type) (L:Nat) (p0 p1:List V) (p2:Int) (k_fin:List V→Bool→Int→Option β):Option β:=zta xk zG L p0 p1 p2 k_fin
def zoE (yA:zce) (L:Nat) (β:Type) (args:List V) (bor:Bor) (k:KK β):Option β:=match args,bor with
 | [a0,a1,a2],[]=>aG a0 fun p0=>aG a1 fun p1=>aI .u32 a2 fun p2=>yA β L p0 p1 p2 (fun zOw zOx zOR=>k (V.tup [(V.agg zOw),(V.sc (.bool zOx)),(V.sc (.int .i64 zOR))]) [])
 | _,_=>none
theorem zCu (L:Nat) (β:Type) (args:List V) (bor:Bor) (k:KK β) (r:β) (h:zoE yA L β args bor k=some r):xr zrX (zrL xk zG L) L zng args bor k=some r:=by
 unfold zoE at h
 split at h
 ·have q:=y5 h; clear h; obtain ⟨p0,rfl,h⟩:=q
  have q:=y5 h; clear h; obtain ⟨p1,rfl,h⟩:=q
  have q:=zad h; clear h; obtain ⟨p2,rfl,h⟩:=q
  exact (zCm xk zG L p0 p1 p2 k).trans h
 ·cases h
def zgX:CC:=(.seq (.seq (.reg [oo 10 (.move (tq 4) false),
   oo 11 (.bin .gtr (tq 10) (.const (.sc (.int .i64 0))))])
 (.cond (tq 11)
 .skip
 (.seq (.mask (bl 12 49) (bl 313358403731439 49))
 (.exit 0))))
 (.seq (.block 1 (.seq (.reg [oo 14 (.move (tq 0) false),
   oo 15 (.call 231 [((tq 14),0),((.const (.sc (.int .i64 4))),0)] [])])
 (.block 2 (.seq (.reg [oo 28 (.bin .eql (tq 15) (.const (.sc (.int .i64 0)))),
   oo 27 (.move (tq 28) false)])
 (.cond (tq 27)
 (.seq (.reg [oo 29 (.fieldAddr 32 (tq 3)),
   oo 30 (.load false 1 (tq 29) false),
   oo 31 (.lenS (tq 30)),
   oo 32 (.bin .gtr (tq 31) (.const (.sc (.int .i64 0))))])
 (.cond (tq 32)
 (.dreg [] [(oo 34 (.load true 34 (tq 3) false),{ q1 with root:=some 3 }),
   (oo 35 (.fieldAddr 32 (tq 3)),q0),
   (oo 36 (.load false 1 (tq 35) false),{ q1 with root:=some 3 }),
   (oo 37 (.move (tq 0) false),q0),
   (oo 38 (.fieldAddr 32 (tq 3)),q0),
   (oo 39 (.load false 1 (tq 38) false),{ q1 with root:=some 3 }),
   (oo 40 (.lenS (tq 39)),q0),
   (oo 41 (.call 231 [((tq 37),0),((tq 40),0)] []),{ q0 with w:=[3] }),
   (oo 42 (.indexAddrS 5 (tq 36) (tq 41)),q0),
   (oo 43 (.fieldAddr 1 (tq 42)),q0),
   (oo 44 (.load true 3 (tq 43) false),q1),
   (oo 45 (.call 272 [((tq 34),1),((tq 44),0)] []),q0),
   (oo 33 (.move (tq 45) true),q0),
   (oo 46 (.pull (tq 33) 0),q0),
   (oo 47 (.pull (tq 33) 1),q0),
   (oz (.store 34 (tq 3) (tq 46)),q0)])
 .skip))
 (.dreg [] [(oo 17 (.load true 34 (tq 3) false),ql 3 [] []),
   (oo 18 (.move (tq 0) false),q0),
   (oo 19 (.call 262 [((tq 18),0)] []),qc [3] []),
   (oo 20 (.move (tq 0) false),q0),
   (oo 21 (.call 231 [((tq 20),0),((.const (.sc (.int .i64 4))),0)] []),qc [3] []),
   (oo 22 (.conv .u32 (tq 21)),q0),
   (oo 23 (.call 273 [((tq 17),1),((tq 19),0),((tq 22),0)] []),q0),
   (oo 16 (.move (tq 23) true),q0),
   (oo 24 (.pull (tq 16) 0),q0),
   (oo 25 (.pull (tq 16) 1),q0),
   (oo 26 (.pull (tq 16) 2),q0),
   (oz (.store 34 (tq 3) (tq 24)),q0)]))))))
 (.reg [oo 12 (.move (tq 4) false),
   oo 13 (.bin .sub (tq 12) (.const (.sc (.int .i64 1)))),
   oo 4 (.move (tq 13) false)])))
def zrV:CC:=(.seq (.reg [oo 48 (.load true 34 (tq 3) false),
   oz (.store 34 (tq 2) (tq 48))])
 .ret)
def zho:CF:=⟨49,[.cell 2 true 34],
 (.seq (.reg [oo 2 (.alloc true (rp 32 (.sc (.int .u8 0)) (rp 2 (.gs 5 []) [])))])
 (.seq (.reg [oo 5 (.move (tq 0) false),
   oo 6 (.call 236 [((tq 5),0)] []),
   oo 7 (.build (rp 32 (.sc (.int .u8 0)) (rp 2 (.sl 5 []) [])) [(0,32,(tq 6))]),
   oo 3 (.alloc true (rp 32 (.sc (.int .u8 0)) (rp 2 (.gs 5 []) []))),
   oz (.store 34 (tq 3) (tq 7))])
 (.seq (.seq (.reg [oo 8 (.move (tq 0) false),
   oo 9 (.call 231 [((tq 8),0),((.const (.sc (.int .i64 40))),0)] []),
   oo 4 (.move (tq 9) false)])
 (.block 0 (.loop (bl 29 49) (bl 313358403731455 49)
 zgX)))
 zrV)))⟩
def zxb:Hint:=⟨[(0,0),(1,3),(9,12),(6,7)],[],[none,some ((bl 29 49),(bl 313358403731455 49)),none,some ((bl 12 49),(bl 313358403731439 49)),none,none,none,none,none],[],[],false,false⟩
def zei:Nat→Sh:=zV [(30,(.sl 5)),(36,(.sl 5)),(39,(.sl 5))]
def zec (yF:zdy) (za:xi) (yD:zcY) (xc:yt) (yA:zce) (L:Nat):CBC:=(xA 273 (zoE yA L) (xA 262 (zk4 xc L) (xA 272 (zqh yD L) (xA 231 (zb0 za L) (xA 236 (zsh yF L) noC)))))
def zkA:St→St:=zaE 1 (bl 29 49) (bl 313358403731455 49)
def zhU (p4:Int) (zNi:List (List V)) (zNl:Int) (b3 b4:List V):St:=⟨((V.ptr 0 0)::(jn 1 ((V.ptr 3 0)::((V.ptr 4 0)::((V.sc (.int .i64 p4))::(jn 44 [])))))),((.live false [(V.sl 1 zNi),(V.sc (.int .i64 zNl))])::(gn 2 ((.live true b3)::((.live true b4)::(gn 45 [])))))⟩
def zqT (zNi:List (List V)) (zNl:Int) (b3 b4:List V):St:=⟨(jn 2 ((V.ptr 3 0)::((V.ptr 4 0)::(jn 45 [])))),((.live false [(V.sl 1 zNi),(V.sc (.int .i64 zNl))])::(gn 2 ((.live true b3)::((.live true b4)::(gn 45 [])))))⟩
def zwo {β:Type} (yF:zdy) (za:xi) (yD:zcY) (xc:yt) (yA:zce) (L:Nat) (zNi:List (List V)) (zNl:Int) (k_hbbaba:Int→List (List V)→Int→List V→List V→Option β):Option β :=
 yF β L zNi zNl (fun v0 v1 v2 =>
 chk ((List.length v0)=32∧0+32≤34) (
 chk ((List.length (yk (List.replicate 32 (V.sc (.int .u8 (0:Int)))++[(V.sl 5 ([]:List (List V))),(V.sl 5 ([]:List (List V)))]) 0 v0))=34∧0+34≤34) (
 lt (yk (List.replicate 32 (V.sc (.int .u8 (0:Int)))++[(V.gs 5 ([]:List (List V))),(V.gs 5 ([]:List (List V)))]) 0 (yk (List.replicate 32 (V.sc (.int .u8 (0:Int)))++[(V.sl 5 ([]:List (List V))),(V.sl 5 ([]:List (List V)))]) 0 v0)) fun r3 =>
 za β L (40:Int) v1 v2 (fun v4 v5 v6 =>
 k_hbbaba v4 v5 v6 (List.replicate 32 (V.sc (.int .u8 (0:Int)))++[(V.gs 5 ([]:List (List V))),(V.gs 5 ([]:List (List V)))]) r3))))
theorem zER {β:Type} (yF:zdy) (za:xi) (yD:zcY) (xc:yt) (yA:zce) (L:Nat) (zNi:List (List V)) (zNl:Int) (k:KK β):xr zei (zec yF za yD xc yA L) L zho [(V.ptr 0 0)] [(.live false [(V.sl 1 zNi),(V.sc (.int .i64 zNl))])] k=zwo yF za yD xc yA L zNi zNl (fun p4 zNi zNl b3 b4=>xy (yj zei (zec yF za yD xc yA L) 1 L zgX) zkA L (zhU p4 zNi zNl b3 b4) (zx 0 (yI (yj zei (zec yF za yD xc yA L) 1 L zrV) (zN 1 (CF.res zho) k)))):=by kernel_rfl
def zfy {β:Type} (yF:zdy) (za:xi) (yD:zcY) (xc:yt) (yA:zce) (L:Nat) (p4:Int) (zNi:List (List V)) (zNl:Int) (b3 b4:List V) (k_hbbaba:Int→List (List V)→Int→List V→List V→Option β) (k_x0:List (List V)→Int→List V→List V→Option β):Option β :=
 ifb (decide (p4 > (0:Int))) (
 za β L (4:Int) zNi zNl (fun v7 v8 v9 =>
 ifb ((v7:Int) == (0:Int)) (
 cLd 5 b4 32 fun v10 =>
 ifb (decide (((List.length v10:Nat):Int) > (0:Int))) (
 chk (0+34≤(List.length b4)) (
 cLd 5 b4 32 fun v11 =>
 cLd 5 b4 32 fun v12 =>
 za β L ((List.length v12:Nat):Int) v8 v9 (fun v13 v14 v15 =>
 idx v11 v13 fun c16 =>
 yD β L (List.map V.dem (List.take 34 b4)) (List.take 3 (List.drop 1 c16)) (fun v17 v18 =>
 chk ((List.length v17)=34∧0+34≤(List.length b4)) (
 lt (yk b4 0 v17) fun r19 =>
 lt (IntKind.wrap .i64 ((p4:Int) - (1:Int))) fun x20 =>
 k_hbbaba x20 v14 v15 b3 r19))))) (
 lt (IntKind.wrap .i64 ((p4:Int) - (1:Int))) fun x21 =>
 k_hbbaba x21 v8 v9 b3 b4)) (
 chk (0+34≤(List.length b4)) (
 xc β L v8 v9 (fun v22 v23 v24 =>
 za β L (4:Int) v23 v24 (fun v25 v26 v27 =>
 lt (IntKind.wrap .u32 v25) fun x28 =>
 yA β L (List.map V.dem (List.take 34 b4)) v22 x28 (fun v29 v30 v31 =>
 chk ((List.length v29)=34∧0+34≤(List.length b4)) (
 lt (yk b4 0 v29) fun r32 =>
 lt (IntKind.wrap .i64 ((p4:Int) - (1:Int))) fun x33 =>
 k_hbbaba x33 v26 v27 b3 r32)))))))) (
 k_x0 zNi zNl b3 b4)
theorem zze {β:Type} (yF:zdy) (za:xi) (yD:zcY) (xc:yt) (yA:zce) (L:Nat) (p4:Int) (zNi:List (List V)) (zNl:Int) (b3 b4:List V) (X:St→Option β) (K:KT β):yj zei (zec yF za yD xc yA L) 1 L zgX (zhU p4 zNi zNl b3 b4) (zaz zkA X K)=zfy yF za yD xc yA L p4 zNi zNl b3 b4 (fun p4 zNi zNl b3 b4=>X (zhU p4 zNi zNl b3 b4)) (fun zNi zNl b3 b4=>K (.exit 0) (zqT zNi zNl b3 b4)):=by kernel_rfl
def zmz {β:Type} (yF:zdy) (za:xi) (yD:zcY) (xc:yt) (yA:zce) (L:Nat) (zNi:List (List V)) (zNl:Int) (b3 b4:List V) (k_fin:List V→List (List V)→Int→Option β):Option β :=
 chk (0+34≤(List.length b4)) (
 chk ((List.length (List.take 34 b4))=34∧0+34≤(List.length b3)) (
 lt (yk b3 0 (List.take 34 b4)) fun r34 =>
 chk (0=0∧(List.length r34)=34∧34≠0) (
 k_fin r34 zNi zNl)))
theorem zw4 {β:Type} (yF:zdy) (za:xi) (yD:zcY) (xc:yt) (yA:zce) (L:Nat) (zNi:List (List V)) (zNl:Int) (b3 b4:List V) (k:KK β):(zx 0 (yI (yj zei (zec yF za yD xc yA L) 1 L zrV) (zN 1 (CF.res zho) k))) (.exit 0) (zqT zNi zNl b3 b4)=zmz yF za yD xc yA L zNi zNl b3 b4 (fun p0 zNi zNl=>k (V.agg p0) [(.live false [(V.sl 1 zNi),(V.sc (.int .i64 zNl))])]):=by kernel_rfl
def zdo {β:Type} (yF:zdy) (za:xi) (yD:zcY) (xc:yt) (yA:zce) (L:Nat) (k_x0:List (List V)→Int→List V→List V→Option β):Nat→Int→List (List V)→Int→List V→List V→Option β
 | 0,_,_,_,_,_=>none
 | n+1,p4,zNi,zNl,b3,b4=>zfy yF za yD xc yA L p4 zNi zNl b3 b4 (fun p4 zNi zNl b3 b4=>zdo yF za yD xc yA L k_x0 n p4 zNi zNl b3 b4) k_x0
theorem zrr {β:Type} (yF:zdy) (za:xi) (yD:zcY) (xc:yt) (yA:zce) (L:Nat) (K:KT β):∀ (n:Nat) (p4:Int) (zNi:List (List V)) (zNl:Int) (b3 b4:List V),xy (yj zei (zec yF za yD xc yA L) 1 L zgX) zkA n (zhU p4 zNi zNl b3 b4) K=zdo yF za yD xc yA L (fun zNi zNl b3 b4=>K (.exit 0) (zqT zNi zNl b3 b4)) n p4 zNi zNl b3 b4:=by
 intro n
 induction n with
 | zero=>intros; rfl
 | succ n ih =>
  intro p4 zNi zNl b3 b4
  refine (zze yF za yD xc yA L p4 zNi zNl b3 b4 (fun σ=>xy (yj zei (zec yF za yD xc yA L) 1 L zgX) zkA n σ K) K).trans ?_
  simp only [ih]
  rfl
def zsj {β:Type} (yF:zdy) (za:xi) (yD:zcY) (xc:yt) (yA:zce) (L:Nat) (zNi:List (List V)) (zNl:Int) (k_fin:List V→List (List V)→Int→Option β):Option β :=
 zwo yF za yD xc yA L zNi zNl (fun p4 zNi zNl b3 b4=>zdo yF za yD xc yA L (fun zNi zNl b3 b4=>zmz yF za yD xc yA L zNi zNl b3 b4 k_fin) L p4 zNi zNl b3 b4)
theorem zEq {β:Type} (yF:zdy) (za:xi) (yD:zcY) (xc:yt) (yA:zce) (L:Nat) (zNi:List (List V)) (zNl:Int) (k:KK β):xr zei (zec yF za yD xc yA L) L zho [(V.ptr 0 0)] [(.live false [(V.sl 1 zNi),(V.sc (.int .i64 zNl))])] k=zsj yF za yD xc yA L zNi zNl (fun p0 zNi zNl=>k (V.agg p0) [(.live false [(V.sl 1 zNi),(V.sc (.int .i64 zNl))])]):=by
 refine (zER yF za yD xc yA L zNi zNl k).trans ?_
 unfold zsj
 first
  | (simp only [zrr,zw4]; done)
  | (simp only [zrr]; rfl)
abbrev xo:=∀ (β:Type),Nat→List (List V)→Int→(List V→List (List V)→Int→Option β)→Option β
def zc (β:Type) (L:Nat) (zNi:List (List V)) (zNl:Int) (k_fin:List V→List (List V)→Int→Option β):Option β:=zsj yF za yD xc yA L zNi zNl k_fin
def zje (zc:xo) (L:Nat) (β:Type) (args:List V) (bor:Bor) (k:KK β):Option β:=match args,bor with
 | [a0],[(.live false [w0_0,w0_1])]=>aP 0 0 a0 (aL 1 w0_0 fun zNi=>aI .i64 w0_1 fun zNl=>zc β L zNi zNl (fun p0 zNi zNl=>k (V.agg p0) [(.live false [(V.sl 1 zNi),(V.sc (.int .i64 zNl))])]))
 | _,_=>none
theorem zEH (L:Nat) (β:Type) (args:List V) (bor:Bor) (k:KK β) (r:β) (h:zje zc L β args bor k=some r):xr zei (zec yF za yD xc yA L) L zho args bor k=some r:=by
 unfold zje at h
 split at h
 ·have q:=zkV h; clear h; obtain ⟨rfl,h⟩:=q
  have q:=xP h; clear h; obtain ⟨zNi,rfl,h⟩:=q
  have q:=zad h; clear h; obtain ⟨zNl,rfl,h⟩:=q
  exact (zEq yF za yD xc yA L zNi zNl k).trans h
 ·cases h
def zio:CF:=⟨15,[.tmp 6],
 (.seq (.reg [oo 6 (.move (.const (.sc (.int .i64 0))) false)])
 (.seq (.reg [oo 7 (.move (tq 1) false),
   oo 8 (.move (tq 0) false),
   oo 9 (.move (tq 2) false),
   oo 10 (.move (tq 1) false),
   oo 11 (.bin .sub (tq 9) (tq 10)),
   oo 12 (.bin .add (tq 11) (.const (.sc (.int .i64 1)))),
   oo 13 (.call 231 [((tq 8),0),((tq 12),0)] []),
   oo 14 (.bin .add (tq 7) (tq 13)),
   oo 6 (.move (tq 14) false)])
 .ret))⟩
def zqC:Hint:=⟨[],[],[none],[],[],false,false⟩
def zmp:Nat→Sh:=zV []
def zmq (za:xi) (L:Nat):CBC:=(xA 231 (zb0 za L) noC)
def znV {β:Type} (za:xi) (L:Nat) (p1 p2:Int) (zNi:List (List V)) (zNl:Int) (k_fin:Int→List (List V)→Int→Option β):Option β :=
 lt (IntKind.wrap .i64 ((p2:Int) - p1)) fun x0 =>
 lt (IntKind.wrap .i64 ((x0:Int)+(1:Int))) fun x1 =>
 za β L x1 zNi zNl (fun v2 v3 v4 =>
 lt (IntKind.wrap .i64 ((p1:Int)+v2)) fun x5 =>
 k_fin x5 v3 v4)
theorem zyq {β:Type} (za:xi) (L:Nat) (p1 p2:Int) (zNi:List (List V)) (zNl:Int) (k:KK β):xr zmp (zmq za L) L zio [(V.ptr 0 0),(V.sc (.int .i64 p1)),(V.sc (.int .i64 p2))] [(.live false [(V.sl 1 zNi),(V.sc (.int .i64 zNl))])] k=znV za L p1 p2 zNi zNl (fun p0 zNi zNl=>k (V.sc (.int .i64 p0)) [(.live false [(V.sl 1 zNi),(V.sc (.int .i64 zNl))])]):=by kernel_rfl
abbrev zaX:=∀ (β:Type),Nat→Int→Int→List (List V)→Int→(Int→List (List V)→Int→Option β)→Option β
def zt (β:Type) (L:Nat) (p1 p2:Int) (zNi:List (List V)) (zNl:Int) (k_fin:Int→List (List V)→Int→Option β):Option β:=znV za L p1 p2 zNi zNl k_fin
def zjz (zt:zaX) (L:Nat) (β:Type) (args:List V) (bor:Bor) (k:KK β):Option β:=match args,bor with
 | [a0,a1,a2],[(.live false [w0_0,w0_1])]=>aP 0 0 a0 (aI .i64 a1 fun p1=>aI .i64 a2 fun p2=>aL 1 w0_0 fun zNi=>aI .i64 w0_1 fun zNl=>zt β L p1 p2 zNi zNl (fun p0 zNi zNl=>k (V.sc (.int .i64 p0)) [(.live false [(V.sl 1 zNi),(V.sc (.int .i64 zNl))])]))
 | _,_=>none
theorem zyG (L:Nat) (β:Type) (args:List V) (bor:Bor) (k:KK β) (r:β) (h:zjz zt L β args bor k=some r):xr zmp (zmq za L) L zio args bor k=some r:=by
 unfold zjz at h
 split at h
 ·have q:=zkV h; clear h; obtain ⟨rfl,h⟩:=q
  have q:=zad h; clear h; obtain ⟨p1,rfl,h⟩:=q
  have q:=zad h; clear h; obtain ⟨p2,rfl,h⟩:=q
  have q:=xP h; clear h; obtain ⟨zNi,rfl,h⟩:=q
  have q:=zad h; clear h; obtain ⟨zNl,rfl,h⟩:=q
  exact (zyq za L p1 p2 zNi zNl k).trans h
 ·cases h
def zf9:CC:=(.seq (.seq (.reg [oo 5 (.move (tq 4) false),
   oo 6 (.bin .lss (tq 5) (.const (.sc (.int .i64 8))))])
 (.cond (tq 6)
 .skip
 (.seq (.mask (bl 8 30) (bl 662158319 30))
 (.exit 0))))
 (.seq (.block 1 (.seq (.reg [oo 9 (.move (tq 0) false),
   oo 10 (.call 231 [((tq 9),0),((.const (.sc (.int .i64 2))),0)] []),
   oo 11 (.bin .eql (tq 10) (.const (.sc (.int .i64 0))))])
 (.cond (tq 11)
 (.reg [oo 12 (.move (tq 3) true),
   oo 13 (.move (tq 0) false),
   oo 14 (.call 274 [((tq 13),0),((.const (.sc (.int .i64 1))),0),((.const (.sc (.int .i64 3))),0)] []),
   oo 15 (.move (tq 4) false),
   oo 16 (.conv .u32 (tq 15)),
   oo 17 (.bin .shl (tq 16) (.const (.sc (.int .u64 16)))),
   oo 18 (.move (tq 0) false),
   oo 19 (.call 231 [((tq 18),0),((.const (.sc (.int .i64 3))),0)] []),
   oo 20 (.conv .u32 (tq 19)),
   oo 21 (.bin .add (tq 17) (tq 20)),
   oo 22 (.move (tq 0) false),
   oo 23 (.call 231 [((tq 22),0),((.const (.sc (.int .i64 2))),0)] []),
   oo 24 (.conv .u16 (tq 23)),
   oo 25 (.build [(.sc (.int .u32 0)),(.sc (.int .u16 0)),(.sc (.int .u32 0))] [(0,1,(tq 21)),(1,1,(tq 24))]),
   oo 26 (.build [(.sc (.int .i64 0)),(.sc (.int .u32 0)),(.sc (.int .u16 0)),(.sc (.int .u32 0))] [(0,1,(tq 14)),(1,3,(tq 25))]),
   oo 27 (.buildSlice 4 1 [(.sc (.int .i64 0)),(.sc (.int .u32 0)),(.sc (.int .u16 0)),(.sc (.int .u32 0))] [(0,4,(tq 26))]),
   oo 28 (.append 4 24 (tq 12) (tq 27)),
   oo 3 (.move (tq 28) true)])
 .skip)))
 (.reg [oo 7 (.move (tq 4) false),
   oo 8 (.bin .add (tq 7) (.const (.sc (.int .i64 1)))),
   oo 4 (.move (tq 8) false)])))
def zp6:CC:=(.seq (.reg [oo 29 (.move (tq 3) true),
   oo 2 (.move (tq 29) true)])
 .ret)
def zgv:CF:=⟨30,[.tmp 2],
 (.seq (.reg [oo 2 (.move (.const (.gs 4 [])) true)])
 (.seq (.reg [oo 3 (.move (.const (.gs 4 [])) true)])
 (.seq (.seq (.reg [oo 4 (.move (.const (.sc (.int .i64 0))) false)])
 (.block 0 (.loop (bl 25 30) (bl 662158335 30)
 zf9)))
 zp6)))⟩
def zvW:Hint:=⟨[(0,0),(1,0),(6,0),(6,17),(7,0),(7,1)],[],[none,some ((bl 25 30),(bl 662158335 30)),none,some ((bl 8 30),(bl 662158319 30)),none,none,none],[],[],false,false⟩
def zdA:Nat→Sh:=zV []
def zdB (za:xi) (zt:zaX) (L:Nat):CBC:=(xA 274 (zjz zt L) (xA 231 (zb0 za L) noC))
def zjp:St→St:=zaE 1 (bl 25 30) (bl 662158335 30)
def zg1 (p3:List (List V)) (p4:Int) (zNi:List (List V)) (zNl:Int):St:=⟨((V.ptr 0 0)::(jn 2 ((V.gs 4 p3)::((V.sc (.int .i64 p4))::(jn 25 []))))),((.live false [(V.sl 1 zNi),(V.sc (.int .i64 zNl))])::(gn 30 []))⟩
def zoS (p3 zNi:List (List V)) (zNl:Int):St:=⟨(jn 3 ((V.gs 4 p3)::(jn 26 []))),((.live false [(V.sl 1 zNi),(V.sc (.int .i64 zNl))])::(gn 30 []))⟩
def zup {β:Type} (za:xi) (zt:zaX) (L:Nat) (zNi:List (List V)) (zNl:Int) (k_hbbaba:List (List V)→Int→List (List V)→Int→Option β):Option β :=
 k_hbbaba ([]:List (List V)) (0:Int) zNi zNl
theorem zC6 {β:Type} (za:xi) (zt:zaX) (L:Nat) (zNi:List (List V)) (zNl:Int) (k:KK β):xr zdA (zdB za zt L) L zgv [(V.ptr 0 0)] [(.live false [(V.sl 1 zNi),(V.sc (.int .i64 zNl))])] k=zup za zt L zNi zNl (fun p3 p4 zNi zNl=>xy (yj zdA (zdB za zt L) 1 L zf9) zjp L (zg1 p3 p4 zNi zNl) (zx 0 (yI (yj zdA (zdB za zt L) 1 L zp6) (zN 1 (CF.res zgv) k)))):=by kernel_rfl
def zgU {β:Type} (za:xi) (zt:zaX) (L:Nat) (p3:List (List V)) (p4:Int) (zNi:List (List V)) (zNl:Int) (k_hbbaba:List (List V)→Int→List (List V)→Int→Option β) (k_x0:List (List V)→List (List V)→Int→Option β):Option β :=
 ifb (decide (p4 < (8:Int))) (
 za β L (2:Int) zNi zNl (fun v0 v1 v2 =>
 ifb ((v0:Int) == (0:Int)) (
 zt β L (1:Int) (3:Int) v1 v2 (fun v3 v4 v5 =>
 lt (IntKind.wrap .u32 p4) fun x6 =>
 lt (zsX .u32 x6 (16:Int)) fun x7 =>
 za β L (3:Int) v4 v5 (fun v8 v9 v10 =>
 lt (IntKind.wrap .u32 v8) fun x11 =>
 lt (IntKind.wrap .u32 ((x7:Int)+x11)) fun x12 =>
 za β L (2:Int) v9 v10 (fun v13 v14 v15 =>
 lt (IntKind.wrap .u16 v13) fun x16 =>
 chk ((List.length p3+List.length (zp 4 1 [(V.sc (.int .i64 v3)),(V.sc (.int .u32 x12)),(V.sc (.int .u16 x16)),(V.sc (.int .u32 (0:Int)))])) * 24≤yu∧List.length p3+List.length (zp 4 1 [(V.sc (.int .i64 v3)),(V.sc (.int .u32 x12)),(V.sc (.int .u16 x16)),(V.sc (.int .u32 (0:Int)))])≤yu) (
 lt (p3++(zp 4 1 [(V.sc (.int .i64 v3)),(V.sc (.int .u32 x12)),(V.sc (.int .u16 x16)),(V.sc (.int .u32 (0:Int)))])) fun l17 =>
 lt (IntKind.wrap .i64 ((p4:Int)+(1:Int))) fun x18 =>
 k_hbbaba l17 x18 v14 v15))))) (
 lt (IntKind.wrap .i64 ((p4:Int)+(1:Int))) fun x19 =>
 k_hbbaba p3 x19 v1 v2))) (
 k_x0 p3 zNi zNl)
theorem zya {β:Type} (za:xi) (zt:zaX) (L:Nat) (p3:List (List V)) (p4:Int) (zNi:List (List V)) (zNl:Int) (X:St→Option β) (K:KT β):yj zdA (zdB za zt L) 1 L zf9 (zg1 p3 p4 zNi zNl) (zaz zjp X K)=zgU za zt L p3 p4 zNi zNl (fun p3 p4 zNi zNl=>X (zg1 p3 p4 zNi zNl)) (fun p3 zNi zNl=>K (.exit 0) (zoS p3 zNi zNl)):=by kernel_rfl
def zrn {β:Type} (za:xi) (zt:zaX) (L:Nat) (p3 zNi:List (List V)) (zNl:Int) (k_fin:List (List V)→List (List V)→Int→Option β):Option β :=
 k_fin p3 zNi zNl
theorem zv5 {β:Type} (za:xi) (zt:zaX) (L:Nat) (p3 zNi:List (List V)) (zNl:Int) (k:KK β):(zx 0 (yI (yj zdA (zdB za zt L) 1 L zp6) (zN 1 (CF.res zgv) k))) (.exit 0) (zoS p3 zNi zNl)=zrn za zt L p3 zNi zNl (fun p0 zNi zNl=>k (V.gs 4 p0) [(.live false [(V.sl 1 zNi),(V.sc (.int .i64 zNl))])]):=by kernel_rfl
def zdP {β:Type} (za:xi) (zt:zaX) (L:Nat) (k_x0:List (List V)→List (List V)→Int→Option β):Nat→List (List V)→Int→List (List V)→Int→Option β
 | 0,_,_,_,_=>none
 | n+1,p3,p4,zNi,zNl=>zgU za zt L p3 p4 zNi zNl (fun p3 p4 zNi zNl=>zdP za zt L k_x0 n p3 p4 zNi zNl) k_x0
theorem zqv {β:Type} (za:xi) (zt:zaX) (L:Nat) (K:KT β):∀ (n:Nat) (p3:List (List V)) (p4:Int) (zNi:List (List V)) (zNl:Int),xy (yj zdA (zdB za zt L) 1 L zf9) zjp n (zg1 p3 p4 zNi zNl) K=zdP za zt L (fun p3 zNi zNl=>K (.exit 0) (zoS p3 zNi zNl)) n p3 p4 zNi zNl:=by
 intro n
 induction n with
 | zero=>intros; rfl
 | succ n ih =>
  intro p3 p4 zNi zNl
  refine (zya za zt L p3 p4 zNi zNl (fun σ=>xy (yj zdA (zdB za zt L) 1 L zf9) zjp n σ K) K).trans ?_
  simp only [ih]
  rfl
def zqE {β:Type} (za:xi) (zt:zaX) (L:Nat) (zNi:List (List V)) (zNl:Int) (k_fin:List (List V)→List (List V)→Int→Option β):Option β :=
 zup za zt L zNi zNl (fun p3 p4 zNi zNl=>zdP za zt L (fun p3 zNi zNl=>zrn za zt L p3 zNi zNl k_fin) L p3 p4 zNi zNl)
theorem zDy {β:Type} (za:xi) (zt:zaX) (L:Nat) (zNi:List (List V)) (zNl:Int) (k:KK β):xr zdA (zdB za zt L) L zgv [(V.ptr 0 0)] [(.live false [(V.sl 1 zNi),(V.sc (.int .i64 zNl))])] k=zqE za zt L zNi zNl (fun p0 zNi zNl=>k (V.gs 4 p0) [(.live false [(V.sl 1 zNi),(V.sc (.int .i64 zNl))])]):=by
 refine (zC6 za zt L zNi zNl k).trans ?_
 unfold zqE
 first
  | (simp only [zqv,zv5]; done)
  | (simp only [zqv]; rfl)
abbrev xL:=∀ (β:Type),Nat→List (List V)→Int→(List (List V)→List (List V)→Int→Option β)→Option β
def yh (β:Type) (L:Nat) (zNi:List (List V)) (zNl:Int) (k_fin:List (List V)→List (List V)→Int→Option β):Option β:=zqE za zt L zNi zNl k_fin
def zqw (yh:xL) (L:Nat) (β:Type) (args:List V) (bor:Bor) (k:KK β):Option β:=match args,bor with
 | [a0],[(.live false [w0_0,w0_1])]=>aP 0 0 a0 (aL 1 w0_0 fun zNi=>aI .i64 w0_1 fun zNl=>yh β L zNi zNl (fun p0 zNi zNl=>k (V.gs 4 p0) [(.live false [(V.sl 1 zNi),(V.sc (.int .i64 zNl))])]))
 | _,_=>none
theorem zDp (L:Nat) (β:Type) (args:List V) (bor:Bor) (k:KK β) (r:β) (h:zqw yh L β args bor k=some r):xr zdA (zdB za zt L) L zgv args bor k=some r:=by
 unfold zqw at h
 split at h
 ·have q:=zkV h; clear h; obtain ⟨rfl,h⟩:=q
  have q:=xP h; clear h; obtain ⟨zNi,rfl,h⟩:=q
  have q:=zad h; clear h; obtain ⟨zNl,rfl,h⟩:=q
  exact (zDy za zt L zNi zNl k).trans h
 ·cases h
def zf4:CC:=(.seq (.seq (.reg [oo 6 (.move (tq 5) false),
   oo 7 (.move (tq 0) false),
   oo 8 (.lenS (tq 7)),
   oo 9 (.bin .lss (tq 6) (tq 8))])
 (.cond (tq 9)
 .skip
 (.seq (.mask (bl 0 21) (bl 1441479 21))
 (.exit 0))))
 (.seq (.block 1 (.seq (.dreg [] [(oo 12 (.move (tq 0) false),q0),
   (oo 13 (.move (tq 5) false),q0),
   (oo 14 (.indexAddrS 4 (tq 12) (tq 13)),q0),
   (oo 15 (.fieldAddr 1 (tq 14)),q0),
   (oo 16 (.load true 3 (tq 15) false),q1),
   (oo 17 (.call 294 [((tq 16),0)] []),{ q0 with w:=[3] }),
   (oo 18 (.load true 3 (tq 3) false),{ q1 with root:=some 3 }),
   (oo 19 (.call 294 [((tq 18),0)] []),q0),
   (oo 20 (.bin .eql (tq 17) (tq 19)),q0)])
 (.cond (tq 20)
 (.seq (.reg [oo 4 (.move (.const (.sc (.bool true))) false)])
 (.seq (.mask (bl 16 21) (bl 1441495 21))
 .ret))
 .skip)))
 (.reg [oo 10 (.move (tq 5) false),
   oo 11 (.bin .add (tq 10) (.const (.sc (.int .i64 1)))),
   oo 5 (.move (tq 11) false)])))
def zlE:CC:=(.seq (.reg [oo 4 (.move (.const (.sc (.bool false))) false)])
 .ret)
def zeD:CF:=⟨21,[.tmp 4],
 (.seq (.reg [oo 3 (.box true (tq 1)),
   oo 4 (.move (.const (.sc (.bool false))) false)])
 (.seq (.seq (.reg [oo 5 (.move (.const (.sc (.int .i64 0))) false)])
 (.block 0 (.loop (bl 41 21) (bl 1441519 21)
 zf4)))
 zlE))⟩
def zuy:Hint:=⟨[],[],[none,some ((bl 41 21),(bl 1441519 21)),none,some ((bl 0 21),(bl 1441479 21)),none,none,some ((bl 16 21),(bl 1441495 21)),none],[],[],false,false⟩
def zch:Nat→Sh:=zV []
def zcn (yi:zW) (L:Nat):CBC:=(xA 294 (zgB yi L) noC)
def zjj:St→St:=zaE 0 (bl 41 21) (bl 1441519 21)
def zg6 (p0:List (List V)) (p5:Int) (b3:List V):St:=⟨((V.sl 4 p0)::(jn 2 ((V.ptr 3 0)::(jn 1 ((V.sc (.int .i64 p5))::(jn 15 [])))))),(gn 3 ((.live true b3)::(gn 17 [])))⟩
def zmY (p4:Bool):St:=⟨(jn 4 ((V.sc (.bool p4))::(jn 16 []))),(gn 21 [])⟩
def znI:St:=⟨(jn 21 []),(gn 21 [])⟩
def ztf {β:Type} (yi:zW) (L:Nat) (p0:List (List V)) (p1:List V) (k_hbaba:List (List V)→Int→List V→Option β):Option β :=
 k_hbaba p0 (0:Int) p1
theorem zCf {β:Type} (yi:zW) (L:Nat) (p0:List (List V)) (p1:List V) (k:KK β):xr zch (zcn yi L) L zeD [(V.sl 4 p0),(V.agg p1)] [] k=ztf yi L p0 p1 (fun p0 p5 b3=>xy (yj zch (zcn yi L) 0 L zf4) zjj L (zg6 p0 p5 b3) (zx 0 (yI (yj zch (zcn yi L) 0 L zlE) (zN 0 (CF.res zeD) k)))):=by kernel_rfl
def znJ {β:Type} (yi:zW) (L:Nat) (p0:List (List V)) (p5:Int) (b3:List V) (k_ret:Bool→Option β) (k_hbaba:List (List V)→Int→List V→Option β) (k_x0:Option β):Option β :=
 ifb (decide (p5 < ((List.length p0:Nat):Int))) (
 idx p0 p5 fun c0 =>
 yi β L (List.take 3 (List.drop 1 c0)) (fun v1 =>
 chk (0+3≤(List.length b3)) (
 yi β L (List.take 3 b3) (fun v2 =>
 ifb ((v1:Int) == v2) (
 k_ret true) (
 lt (IntKind.wrap .i64 ((p5:Int)+(1:Int))) fun x3 =>
 k_hbaba p0 x3 b3))))) (
 k_x0)
theorem zx3 {β:Type} (yi:zW) (L:Nat) (p0:List (List V)) (p5:Int) (b3:List V) (X:St→Option β) (K:KT β):yj zch (zcn yi L) 0 L zf4 (zg6 p0 p5 b3) (zaz zjj X K)=znJ yi L p0 p5 b3 (fun p4=>K .ret (zmY p4)) (fun p0 p5 b3=>X (zg6 p0 p5 b3)) (K (.exit 0) (znI)):=by kernel_rfl
def zqi {β:Type} (yi:zW) (L:Nat) (p4:Bool) (k_fin:Bool→Option β):Option β :=
 k_fin p4
theorem zvm {β:Type} (yi:zW) (L:Nat) (p4:Bool) (k:KK β):(zx 0 (yI (yj zch (zcn yi L) 0 L zlE) (zN 0 (CF.res zeD) k))) .ret (zmY p4)=zqi yi L p4 (fun p0=>k (V.sc (.bool p0)) []):=by kernel_rfl
def zrl {β:Type} (yi:zW) (L:Nat) (k_fin:Bool→Option β):Option β :=
 k_fin false
theorem zwy {β:Type} (yi:zW) (L:Nat) (k:KK β):(zx 0 (yI (yj zch (zcn yi L) 0 L zlE) (zN 0 (CF.res zeD) k))) (.exit 0) (znI)=zrl yi L (fun p0=>k (V.sc (.bool p0)) []):=by kernel_rfl
def zgL {β:Type} (yi:zW) (L:Nat) (k_ret:Bool→Option β) (k_x0:Option β):Nat→List (List V)→Int→List V→Option β
 | 0,_,_,_=>none
 | n+1,p0,p5,b3=>znJ yi L p0 p5 b3 k_ret (fun p0 p5 b3=>zgL yi L k_ret k_x0 n p0 p5 b3) k_x0
theorem zql {β:Type} (yi:zW) (L:Nat) (K:KT β):∀ (n:Nat) (p0:List (List V)) (p5:Int) (b3:List V),xy (yj zch (zcn yi L) 0 L zf4) zjj n (zg6 p0 p5 b3) K=zgL yi L (fun p4=>K .ret (zmY p4)) (K (.exit 0) (znI)) n p0 p5 b3:=by
 intro n
 induction n with
 | zero=>intros; rfl
 | succ n ih =>
  intro p0 p5 b3
  refine (zx3 yi L p0 p5 b3 (fun σ=>xy (yj zch (zcn yi L) 0 L zf4) zjj n σ K) K).trans ?_
  simp only [ih]
  rfl
def zoO {β:Type} (yi:zW) (L:Nat) (p0:List (List V)) (p1:List V) (k_fin:Bool→Option β):Option β :=
 ztf yi L p0 p1 (fun p0 p5 b3=>zgL yi L (fun p4=>zqi yi L p4 k_fin) (zrl yi L k_fin) L p0 p5 b3)
theorem zCC {β:Type} (yi:zW) (L:Nat) (p0:List (List V)) (p1:List V) (k:KK β):xr zch (zcn yi L) L zeD [(V.sl 4 p0),(V.agg p1)] [] k=zoO yi L p0 p1 (fun p0=>k (V.sc (.bool p0)) []):=by
 refine (zCf yi L p0 p1 k).trans ?_
 unfold zoO
 first
  | (simp only [zql,zvm,zwy]; done)
  | (simp only [zql]; rfl)
abbrev zA:=∀ (β:Type),Nat→List (List V)→List V→(Bool→Option β)→Option β
def ze (β:Type) (L:Nat) (p0:List (List V)) (p1:List V) (k_fin:Bool→Option β):Option β:=zoO yi L p0 p1 k_fin
def zig (ze:zA) (L:Nat) (β:Type) (args:List V) (bor:Bor) (k:KK β):Option β:=match args,bor with
 | [a0,a1],[]=>aL 4 a0 fun p0=>aG a1 fun p1=>ze β L p0 p1 (fun p0=>k (V.sc (.bool p0)) [])
 | _,_=>none
theorem zB1 (L:Nat) (β:Type) (args:List V) (bor:Bor) (k:KK β) (r:β) (h:zig ze L β args bor k=some r):xr zch (zcn yi L) L zeD args bor k=some r:=by
 unfold zig at h
 split at h
 ·have q:=xP h; clear h; obtain ⟨p0,rfl,h⟩:=q
  have q:=y5 h; clear h; obtain ⟨p1,rfl,h⟩:=q
  exact (zCC yi L p0 p1 k).trans h
 ·cases h
def zf6:CC:=(.seq (.seq (.reg [oo 4 (.move (tq 3) false),
   oo 5 (.move (tq 0) false),
   oo 6 (.lenS (tq 5)),
   oo 7 (.bin .lss (tq 4) (tq 6))])
 (.cond (tq 7)
 .skip
 (.seq (.mask (bl 1 38) (bl 266287972275 38))
 (.exit 0))))
 (.seq (.block 1 (.seq (.dreg [] [(oo 10 (.move (tq 0) false),q0),
   (oo 11 (.move (tq 3) false),q0),
   (oo 12 (.indexAddrS 4 (tq 10) (tq 11)),q0),
   (oo 13 (.fieldAddr 0 (tq 12)),q0),
   (oo 14 (.load false 1 (tq 13) false),q0),
   (oo 15 (.bin .lss (tq 14) (.const (.sc (.int .i64 1)))),q0),
   (oo 16 (.move (tq 15) false),q0),
   (⟨(some 17),false,(some (16,false)),.move (tq 0) false⟩,q0),
   (⟨(some 18),false,(some (16,false)),.move (tq 3) false⟩,q0),
   (⟨(some 19),false,(some (16,false)),.indexAddrS 4 (tq 17) (tq 18)⟩,q0),
   (⟨(some 20),false,(some (16,false)),.fieldAddr 0 (tq 19)⟩,q0),
   (⟨(some 21),false,(some (16,false)),.load false 1 (tq 20) false⟩,q0),
   (⟨(some 22),false,(some (16,false)),.bin .gtr (tq 21) (.const (.sc (.int .i64 3)))⟩,q0),
   (oo 23 (.pick (tq 16) (.const (.sc (.bool true))) (tq 22)),q0),
   (oo 24 (.move (tq 23) false),q0),
   (⟨(some 25),false,(some (24,false)),.move (tq 0) false⟩,q0),
   (⟨(some 26),false,(some (24,false)),.move (tq 3) false⟩,q0),
   (⟨(some 27),false,(some (24,false)),.sliceS 4 (tq 25) none (some (tq 26)) none⟩,q0),
   (⟨(some 28),false,(some (24,false)),.move (tq 0) false⟩,q0),
   (⟨(some 29),false,(some (24,false)),.move (tq 3) false⟩,q0),
   (⟨(some 30),false,(some (24,false)),.indexAddrS 4 (tq 28) (tq 29)⟩,q0),
   (⟨(some 31),false,(some (24,false)),.fieldAddr 1 (tq 30)⟩,q0),
   (⟨(some 32),false,(some (24,false)),.load true 3 (tq 31) false⟩,q0),
   (⟨(some 33),false,(some (24,false)),.call 283 [((tq 27),0),((tq 32),0)] []⟩,q0),
   (oo 34 (.pick (tq 24) (.const (.sc (.bool true))) (tq 33)),q0)])
 (.cond (tq 34)
 (.seq (.reg [oo 2 (.move (.const (.sc (.bool false))) false)])
 (.seq (.mask (bl 4 38) (bl 266287972279 38))
 .ret))
 .skip)))
 (.reg [oo 8 (.move (tq 3) false),
   oo 9 (.bin .add (tq 8) (.const (.sc (.int .i64 1)))),
   oo 3 (.move (tq 9) false)])))
def zlI:CC:=(.seq (.reg [oo 35 (.move (tq 0) false),
   oo 36 (.lenS (tq 35)),
   oo 37 (.bin .leq (tq 36) (.const (.sc (.int .i64 8)))),
   oo 2 (.move (tq 37) false)])
 .ret)
def zeG:CF:=⟨38,[.tmp 2],
 (.seq (.reg [oo 2 (.move (.const (.sc (.bool false))) false)])
 (.seq (.seq (.reg [oo 3 (.move (.const (.sc (.int .i64 0))) false)])
 (.block 0 (.loop (bl 9 38) (bl 266287972283 38)
 zf6)))
 zlI))⟩
def zui:Hint:=⟨[],[],[none,some ((bl 9 38),(bl 266287972283 38)),none,some ((bl 1 38),(bl 266287972275 38)),none,none,some ((bl 4 38),(bl 266287972279 38)),none],[],[],false,false⟩
def zcp:Nat→Sh:=zV [(14,(.int .i64)),(21,(.int .i64))]
def zcl (ze:zA) (L:Nat):CBC:=(xA 283 (zig ze L) noC)
def zjo:St→St:=zaE 0 (bl 9 38) (bl 266287972283 38)
def zg5 (p0:List (List V)) (p3:Int):St:=⟨((V.sl 4 p0)::(jn 2 ((V.sc (.int .i64 p3))::(jn 34 [])))),(gn 38 [])⟩
def zmD (p2:Bool):St:=⟨(jn 2 ((V.sc (.bool p2))::(jn 35 []))),(gn 38 [])⟩
def zn1 (p0:List (List V)):St:=⟨((V.sl 4 p0)::(jn 37 [])),(gn 38 [])⟩
def zs8 {β:Type} (ze:zA) (L:Nat) (p0:List (List V)) (k_hbaba:List (List V)→Int→Option β):Option β :=
 k_hbaba p0 (0:Int)
theorem zCj {β:Type} (ze:zA) (L:Nat) (p0:List (List V)) (k:KK β):xr zcp (zcl ze L) L zeG [(V.sl 4 p0)] [] k=zs8 ze L p0 (fun p0 p3=>xy (yj zcp (zcl ze L) 0 L zf6) zjo L (zg5 p0 p3) (zx 0 (yI (yj zcp (zcl ze L) 0 L zlI) (zN 0 (CF.res zeG) k)))):=by kernel_rfl
def zn5 {β:Type} (ze:zA) (L:Nat) (p0:List (List V)) (p3:Int) (k_ret:Bool→Option β) (k_hbaba:List (List V)→Int→Option β) (k_x0:List (List V)→Option β):Option β :=
 ifb (decide (p3 < ((List.length p0:Nat):Int))) (
 idx p0 p3 fun c0 =>
 cI .i64 c0 0 fun v1 =>
 ifb (decide (v1 < (1:Int))) (
 k_ret false) (
 idx p0 p3 fun c2 =>
 cI .i64 c2 0 fun v3 =>
 ifb (decide (v3 > (3:Int))) (
 k_ret false) (
 chk (0≤p3∧p3≤(((List.length p0):Nat):Int)) (
 idx p0 p3 fun c4 =>
 ze β L (List.take ((Int.toNat p3) - 0) (List.drop 0 p0)) (List.take 3 (List.drop 1 c4)) (fun v5 =>
 ifb v5 (
 k_ret false) (
 lt (IntKind.wrap .i64 ((p3:Int)+(1:Int))) fun x6 =>
 k_hbaba p0 x6)))))) (
 k_x0 p0)
theorem zyt {β:Type} (ze:zA) (L:Nat) (p0:List (List V)) (p3:Int) (X:St→Option β) (K:KT β):yj zcp (zcl ze L) 0 L zf6 (zg5 p0 p3) (zaz zjo X K)=zn5 ze L p0 p3 (fun p2=>K .ret (zmD p2)) (fun p0 p3=>X (zg5 p0 p3)) (fun p0=>K (.exit 0) (zn1 p0)):=by kernel_rfl
def zqz {β:Type} (ze:zA) (L:Nat) (p2:Bool) (k_fin:Bool→Option β):Option β :=
 k_fin p2
theorem zvv {β:Type} (ze:zA) (L:Nat) (p2:Bool) (k:KK β):(zx 0 (yI (yj zcp (zcl ze L) 0 L zlI) (zN 0 (CF.res zeG) k))) .ret (zmD p2)=zqz ze L p2 (fun p0=>k (V.sc (.bool p0)) []):=by kernel_rfl
def zk7 {β:Type} (ze:zA) (L:Nat) (p0:List (List V)) (k_fin:Bool→Option β):Option β :=
 k_fin (decide (((List.length p0:Nat):Int)≤(8:Int)))
theorem zwj {β:Type} (ze:zA) (L:Nat) (p0:List (List V)) (k:KK β):(zx 0 (yI (yj zcp (zcl ze L) 0 L zlI) (zN 0 (CF.res zeG) k))) (.exit 0) (zn1 p0)=zk7 ze L p0 (fun p0=>k (V.sc (.bool p0)) []):=by kernel_rfl
def zgS {β:Type} (ze:zA) (L:Nat) (k_ret:Bool→Option β) (k_x0:List (List V)→Option β):Nat→List (List V)→Int→Option β
 | 0,_,_=>none
 | n+1,p0,p3=>zn5 ze L p0 p3 k_ret (fun p0 p3=>zgS ze L k_ret k_x0 n p0 p3) k_x0
theorem zqG {β:Type} (ze:zA) (L:Nat) (K:KT β):∀ (n:Nat) (p0:List (List V)) (p3:Int),xy (yj zcp (zcl ze L) 0 L zf6) zjo n (zg5 p0 p3) K=zgS ze L (fun p2=>K .ret (zmD p2)) (fun p0=>K (.exit 0) (zn1 p0)) n p0 p3:=by
 intro n
 induction n with
 | zero=>intros; rfl
 | succ n ih =>
  intro p0 p3
  refine (zyt ze L p0 p3 (fun σ=>xy (yj zcp (zcl ze L) 0 L zf6) zjo n σ K) K).trans ?_
  simp only [ih]
  rfl
def zoP {β:Type} (ze:zA) (L:Nat) (p0:List (List V)) (k_fin:Bool→Option β):Option β :=
 zs8 ze L p0 (fun p0 p3=>zgS ze L (fun p2=>zqz ze L p2 k_fin) (fun p0=>zk7 ze L p0 k_fin) L p0 p3)
theorem zBY {β:Type} (ze:zA) (L:Nat) (p0:List (List V)) (k:KK β):xr zcp (zcl ze L) L zeG [(V.sl 4 p0)] [] k=zoP ze L p0 (fun p0=>k (V.sc (.bool p0)) []):=by
 refine (zCj ze L p0 k).trans ?_
 unfold zoP
 first
  | (simp only [zqG,zvv,zwj]; done)
  | (simp only [zqG]; rfl)
abbrev zbv:=∀ (β:Type),Nat→List (List V)→(Bool→Option β)→Option β
def xu (β:Type) (L:Nat) (p0:List (List V)) (k_fin:Bool→Option β):Option β:=zoP ze L p0 k_fin
def zoR (xu:zbv) (L:Nat) (β:Type) (args:List V) (bor:Bor) (k:KK β):Option β:=match args,bor with
 | [a0],[]=>aL 4 a0 fun p0=>xu β L p0 (fun p0=>k (V.sc (.bool p0)) [])
 | _,_=>none
theorem zCh (L:Nat) (β:Type) (args:List V) (bor:Bor) (k:KK β) (r:β) (h:zoR xu L β args bor k=some r):xr zcp (zcl ze L) L zeG args bor k=some r:=by
 unfold zoR at h
 split at h
 ·have q:=xP h; clear h; obtain ⟨p0,rfl,h⟩:=q
  exact (zBY ze L p0 k).trans h
 ·cases h
def zfl:CC:=(.seq (.seq (.reg [oo 7 (.move (tq 6) false),
   oo 8 (.move (tq 0) false),
   oo 9 (.lenS (tq 8)),
   oo 10 (.bin .lss (tq 7) (tq 9))])
 (.cond (tq 10)
 .skip
 (.seq (.mask (bl 32 23) (bl 8388031 23))
 (.exit 0))))
 (.seq (.block 1 (.seq (.reg [oo 13 (.move (tq 0) false),
   oo 14 (.move (tq 6) false),
   oo 15 (.indexAddrS 4 (tq 13) (tq 14)),
   oo 16 (.fieldAddr 0 (tq 15)),
   oo 17 (.load false 1 (tq 16) false),
   oo 18 (.move (tq 1) false),
   oo 19 (.bin .eql (tq 17) (tq 18))])
 (.cond (tq 19)
 (.reg [oo 20 (.move (tq 5) false),
   oo 21 (.bin .add (tq 20) (.const (.sc (.int .i64 1)))),
   oo 5 (.move (tq 21) false)])
 .skip)))
 (.reg [oo 11 (.move (tq 6) false),
   oo 12 (.bin .add (tq 11) (.const (.sc (.int .i64 1)))),
   oo 6 (.move (tq 12) false)])))
def zo3:CC:=(.seq (.reg [oo 22 (.move (tq 5) false),
   oo 4 (.move (tq 22) false)])
 .ret)
def zfz:CF:=⟨23,[.tmp 4],
 (.seq (.reg [oo 4 (.move (.const (.sc (.int .i64 0))) false)])
 (.seq (.reg [oo 5 (.move (.const (.sc (.int .i64 0))) false)])
 (.seq (.seq (.reg [oo 6 (.move (.const (.sc (.int .i64 0))) false)])
 (.block 0 (.loop (bl 99 23) (bl 8388095 23)
 zfl)))
 zo3)))⟩
def zuN:Hint:=⟨[],[],[none,some ((bl 99 23),(bl 8388095 23)),none,some ((bl 32 23),(bl 8388031 23)),none,none,none],[],[],false,false⟩
def zc8:Nat→Sh:=zV [(17,(.int .i64))]
def zc5 (L:Nat):CBC:=noC
def ziT:St→St:=zaE 0 (bl 99 23) (bl 8388095 23)
def zgh (p0:List (List V)) (p1 p5 p6:Int):St:=⟨((V.sl 4 p0)::((V.sc (.int .i64 p1))::(jn 3 ((V.sc (.int .i64 p5))::((V.sc (.int .i64 p6))::(jn 16 [])))))),(gn 23 [])⟩
def zn3 (p5:Int):St:=⟨(jn 5 ((V.sc (.int .i64 p5))::(jn 17 []))),(gn 23 [])⟩
def zs1 {β:Type} (L:Nat) (p0:List (List V)) (p1:Int) (k_hbbaba:List (List V)→Int→Int→Int→Option β):Option β :=
 k_hbbaba p0 p1 (0:Int) (0:Int)
theorem zCn {β:Type} (L:Nat) (p0:List (List V)) (p1:Int) (k:KK β):xr zc8 (zc5 L) L zfz [(V.sl 4 p0),(V.sc (.int .i64 p1))] [] k=zs1 L p0 p1 (fun p0 p1 p5 p6=>xy (yj zc8 (zc5 L) 0 L zfl) ziT L (zgh p0 p1 p5 p6) (zx 0 (yI (yj zc8 (zc5 L) 0 L zo3) (zN 0 (CF.res zfz) k)))):=by kernel_rfl
def zmc {β:Type} (L:Nat) (p0:List (List V)) (p1 p5 p6:Int) (k_hbbaba:List (List V)→Int→Int→Int→Option β) (k_x0:Int→Option β):Option β :=
 ifb (decide (p6 < ((List.length p0:Nat):Int))) (
 idx p0 p6 fun c0 =>
 cI .i64 c0 0 fun v1 =>
 ifb ((v1:Int) == p1) (
 lt (IntKind.wrap .i64 ((p5:Int)+(1:Int))) fun x2 =>
 lt (IntKind.wrap .i64 ((p6:Int)+(1:Int))) fun x3 =>
 k_hbbaba p0 p1 x2 x3) (
 lt (IntKind.wrap .i64 ((p6:Int)+(1:Int))) fun x4 =>
 k_hbbaba p0 p1 p5 x4)) (
 k_x0 p5)
theorem zxu {β:Type} (L:Nat) (p0:List (List V)) (p1 p5 p6:Int) (X:St→Option β) (K:KT β):yj zc8 (zc5 L) 0 L zfl (zgh p0 p1 p5 p6) (zaz ziT X K)=zmc L p0 p1 p5 p6 (fun p0 p1 p5 p6=>X (zgh p0 p1 p5 p6)) (fun p5=>K (.exit 0) (zn3 p5)):=by kernel_rfl
def zqA {β:Type} (L:Nat) (p5:Int) (k_fin:Int→Option β):Option β :=
 k_fin p5
theorem zvu {β:Type} (L:Nat) (p5:Int) (k:KK β):(zx 0 (yI (yj zc8 (zc5 L) 0 L zo3) (zN 0 (CF.res zfz) k))) (.exit 0) (zn3 p5)=zqA L p5 (fun p0=>k (V.sc (.int .i64 p0)) []):=by kernel_rfl
def zf0 {β:Type} (L:Nat) (k_x0:Int→Option β):Nat→List (List V)→Int→Int→Int→Option β
 | 0,_,_,_,_=>none
 | n+1,p0,p1,p5,p6=>zmc L p0 p1 p5 p6 (fun p0 p1 p5 p6=>zf0 L k_x0 n p0 p1 p5 p6) k_x0
theorem zps {β:Type} (L:Nat) (K:KT β):∀ (n:Nat) (p0:List (List V)) (p1 p5 p6:Int),xy (yj zc8 (zc5 L) 0 L zfl) ziT n (zgh p0 p1 p5 p6) K=zf0 L (fun p5=>K (.exit 0) (zn3 p5)) n p0 p1 p5 p6:=by
 intro n
 induction n with
 | zero=>intros; rfl
 | succ n ih =>
  intro p0 p1 p5 p6
  refine (zxu L p0 p1 p5 p6 (fun σ=>xy (yj zc8 (zc5 L) 0 L zfl) ziT n σ K) K).trans ?_
  simp only [ih]
  rfl
def zoI {β:Type} (L:Nat) (p0:List (List V)) (p1:Int) (k_fin:Int→Option β):Option β :=
 zs1 L p0 p1 (fun p0 p1 p5 p6=>zf0 L (fun p5=>zqA L p5 k_fin) L p0 p1 p5 p6)
theorem zCx {β:Type} (L:Nat) (p0:List (List V)) (p1:Int) (k:KK β):xr zc8 (zc5 L) L zfz [(V.sl 4 p0),(V.sc (.int .i64 p1))] [] k=zoI L p0 p1 (fun p0=>k (V.sc (.int .i64 p0)) []):=by
 refine (zCn L p0 p1 k).trans ?_
 unfold zoI
 first
  | (simp only [zps,zvu]; done)
  | (simp only [zps]; rfl)
abbrev zbu:=∀ (β:Type),Nat→List (List V)→Int→(Int→Option β)→Option β
def xt (β:Type) (L:Nat) (p0:List (List V)) (p1:Int) (k_fin:Int→Option β):Option β:=zoI L p0 p1 k_fin
def zoM (xt:zbu) (L:Nat) (β:Type) (args:List V) (bor:Bor) (k:KK β):Option β:=match args,bor with
 | [a0,a1],[]=>aL 4 a0 fun p0=>aI .i64 a1 fun p1=>xt β L p0 p1 (fun p0=>k (V.sc (.int .i64 p0)) [])
 | _,_=>none
theorem zCD (L:Nat) (β:Type) (args:List V) (bor:Bor) (k:KK β) (r:β) (h:zoM xt L β args bor k=some r):xr zc8 (zc5 L) L zfz args bor k=some r:=by
 unfold zoM at h
 split at h
 ·have q:=xP h; clear h; obtain ⟨p0,rfl,h⟩:=q
  have q:=zad h; clear h; obtain ⟨p1,rfl,h⟩:=q
  exact (zCx L p0 p1 k).trans h
 ·cases h
end
end Go.Proofs.Ytpafdnidhnldhaa
